import Derived.Test.YtadmfaohjnjajaaGreatDoorRn
import Derived.Test.YtadmfaohjnjajaaGreatDoorPb
import Derived.Test.YtadmfaohjnjajaaGreatDoorOr
set_option linter.unusedVariables false
set_option linter.unusedSimpArgs false
set_option maxHeartbeats 4000000
namespace Go.Sx
variable {AV:Type} {P:Program} {N:Env AV}
theorem Back.own {L nt:Nat} {s t:St AV} {π:Nat->Nat} (h:Back N L nt s t π) {ρ:Nm} {w:World} (ho:Own N ρ s.H w):Own N (ρ.ren π) t.H w:=by
 refine⟨⟨fun n c hc=>?_,fun n m c d hnm hc hd k hk hk'=>?_,fun g hg=>?_⟩,ho.ro.1,fun n c k hc hk=>?_⟩
 ·obtain⟨d,g1,g2⟩:=h.H n c hc
  exact CC.1 ((g2 ρ (π n) w).1 (ho.q _ _ g1))
 ·obtain⟨c',g1,g2⟩:=h.H n c hc
  obtain⟨d',g3,g4⟩:=h.H m d hd
  rw [<- jP] at hk hk'
  exact ho.dis (π n) (π m) _ _ (fun e=>hnm (h.inj n m c d hc hd e)) g1 g3 k (((g2 ρ (π n) w).2 k).1 hk) (((g4 ρ (π m) w).2 k).1 hk')
 ·show ρ (π g)=g
  rw [h.fix g (by have:=h.G;omega)]
  exact ho.glb g hg
 ·obtain⟨d,g1,g2⟩:=h.H n c hc
  rw [<- jP] at hk
  exact ho.ro.2 (π n) _ k g1 (((g2 ρ (π n) w).2 k).1 hk)
def stV (r:SV×Hp AV):Ex×St AV:=(.ret,{E:=only [0] [(0,r.1)] 1,H:=r.2})
theorem Na {L:Nat} {f:FuncId} {args:List SV} {H H2:Hp AV} {v:SV} (hL:H.length=L) (hG:N.G<=L) (hc:Ctr P N f args H v H2) {pk:Chunk AV->Option AV} (hpk:∀d a,pk d=some a->∀π,Lesser N (d.ren π) (.abs a))
 {v':SV} {H':Hp AV} (hv:v'≠.unk) (hb:(cM L 1 [0] pk (stV (v,H2))).val=some (stV (v',H'))):Ctr P N f args H v' H':=by
 subst hL
 obtain⟨_,π,hb⟩:=yy hpk hG hb
 obtain⟨h1,h2,h3⟩:=hc
 have e0:v=v'.ren π:=hb.E 0 (by omega) hv
 refine⟨hb.cl.E 0,⟨hb.cl.H,trivial⟩,fun ρ w hO=>(h3 ρ w hO).mono ?_⟩
 rintro e w' ⟨ρ',rfl,o,ev⟩
 refine⟨ρ'.ren π,?_,hb.own o,hb.evo rfl ev⟩
 rw [e0,SV.den_ren]
theorem Pd {H:Hp AV} (hC:bU N H) {n:Nat} {l l':List Cell} {ty:TypeId} (hn:ab H n=some (.cells l ty)) {a:AV} {es:Nat} {aty:TypeId} (ha:N.F.arr a=some (es,aty,[]))
 (hl:∀ρ ρ':Nm,(∀m,m < H.length->ρ'.L m=ρ.L m)->ρ'.L H.length=⟨0,0,0⟩->ah ρ' l'=ah ρ l) (hG:N.G<=H.length):Opn N H (bC H n (some (.cells l' ty))++cr [a]):=fun ρ w hO=>by
 have hlt:=aX hn
 have get:∀m,ab (bC H n (some (.cells l' ty))++cr [a]) m=if m < H.length then(if m=n then some (.cells l' ty) else ab H m) else if m=H.length then some (.abs a) else none:=fun m=>by
  rw [aH,bX]
  by_cases h1:m < H.length
  ·rw [if_pos h1,if_pos h1]
   by_cases h2:m=n
   ·subst h2;rw [if_pos rfl,bn _ h1]
   ·rw [if_neg h2,aK _ fun e=>h2 e.symm]
  ·rw [if_neg h1,if_neg h1]
   by_cases h2:m=H.length
   ·subst h2;rw [if_pos rfl,Nat.sub_self];rfl
   ·rw [if_neg h2]
    obtain⟨k,hk⟩:∃k,m - H.length=k+1:=⟨m - H.length - 1,by omega⟩
    rw [hk];rfl
 let ρ':Nm:=⟨fun m=>if m < H.length then ρ.L m else⟨0,0,0⟩,fun m=>if m < H.length then ρ.S m else fun _=>False⟩
 have eL:∀m,m < H.length->ρ'.L m=ρ.L m:=fun m h=>if_pos h
 have eS:∀m,m < H.length->ρ'.S m=ρ.S m:=fun m h=>if_pos h
 have eL0:ρ'.L H.length=⟨0,0,0⟩:=if_neg (by omega)
 have eS0:ρ'.S H.length=fun _=>False:=if_neg (by omega)
 have agr:∀m c,ab H m=some c->ρ'.L m=ρ.L m:=fun m c h=>eL m (aX h)
 have fp0:∀m c k,ab (bC H n (some (.cells l' ty))++cr [a]) m=some c->c.fp ρ' m k->∃d,ab H m=some d /\ d.fp ρ m k:=fun m c k hc hk=>by
  rw [get] at hc
  split at hc
  ·rename_i h1
   split at hc
   ·rename_i h2
    cases hc
    subst h2
    rw [bA (eL _ h1) (eS _ h1)] at hk
    exact⟨_,hn,hk⟩
   ·rw [bA (eL m h1) (eS m h1)] at hk
    exact⟨c,hc,hk⟩
  ·split at hc
   ·rename_i h2
    cases hc
    subst h2
    have hk:ρ'.S H.length k:=hk
    rw [eS0] at hk
    exact hk.elim
   ·cases hc
 refine⟨ρ',hO.sub ⟨fun m c hc=>?_,fun m m' c d hne hc hd k hk hk'=>?_,fun g hg=>?_⟩ fun m c k hc hk=>?_,fun m h=>eL m h,fun m d k hd hk=>?_⟩
 ·rw [get] at hc
  split at hc
  ·rename_i h1
   split at hc
   ·rename_i h2
    cases hc
    subst h2
    have hq:=hO.q _ _ hn
    have e:=hl ρ ρ' eL eL0
    have hf:ρ' m=ρ m:=by simp only [Nm.f,eL m h1]
    show w.heap[ρ' m]?=_
    rw [hf,e]
    exact hq
   ·exact jK (hO.q m c hc) (eL m h1) (eS m h1) (denL_congr (hC.1 m c hc) fun x y hy=>agr x y hy) (fun _ _=>rfl)
  ·split at hc
   ·rename_i h2
    cases hc
    subst h2
    show N.F.q a _ _ _
    rw [eL0,eS0]
    exact((N.F.arr_q a _ _ _ ha).2 _ _ _).2 (.inl ⟨Nat.zero_le _,rfl,fun k h=>h⟩)
   ·cases hc
 ·obtain⟨c',h1,h2⟩:=fp0 m c k hc hk
  obtain⟨d',h3,h4⟩:=fp0 m' d k hd hk'
  exact hO.dis m m' c' d' hne h1 h3 k h2 h4
 ·show (ρ'.L g).b=g
  rw [eL g (by omega)]
  exact hO.glb g hg
 ·obtain⟨c',h1,h2⟩:=fp0 m c k hc hk
  exact⟨m,c',h1,h2⟩
 ·obtain⟨c',h1,h2⟩:=fp0 m d k hd hk
  exact⟨m,c',h1,h2⟩
end Go.Sx

namespace Go.Proofs.YtadmfaohjnjajaaGreatDoor
section
open Go Go.Sx Go.Proofs
set_option maxRecDepth 100000
abbrev Lp:=FuncId->Nat->Option (St AV->T (Ex×St AV))
def fJ:Lp:=fun _ _=>none
noncomputable def NVl (lp:Lp) (σ:Sg):Env AV:={tt:=tt,ft:=ft,gu:=gu,G:=7,F:=F6 σ,hv:=hvG (F6 σ) slT 7,lp:=lp,mt:=mtF,sl:=slT}
variable {σ:Sg} {lp:Lp}
theorem XU:TblOk Tryz.prog (NVl lp σ):=by
 obtain⟨a,b,c,d,e⟩:=okV (σ:=σ)
 exact⟨a,b,c,d,e⟩
theorem X8:Jk Tryz.prog (NVl lp σ):=MF OE rfl
theorem gm {N N':Env AV} (hF:N'.F=N.F) (hG:N'.G=N.G) {f:FuncId} {g:List SV->Hp AV->T (SV×Hp AV)} (h:FnOk Tryz.prog N f g):FnOk Tryz.prog N' f g:=fun args H v H' hr ha hC=>by
 obtain⟨h1,h2,h3⟩:=h args H v H' hr ha ⟨hC.1,trivial⟩
 refine⟨h1,⟨h2.1,trivial⟩,fun ρ w hO=>(h3 ρ w (je hF.symm hG.symm hO)).mono ?_⟩
 rintro e w' ⟨ρ',he,o,ev⟩
 exact⟨ρ',he,je hF hG o,rY N' ev⟩
theorem PT (hlp:cV Tryz.prog (NVl lp σ)) {tab:Tab} (ht:bO Tryz.prog (NVl lp σ) tab) (n:Nat) (f:FuncId):FnOk Tryz.prog (NVl lp σ) f (lv (NVl lp σ) tab n (.fn f)):=Rw XU hlp X8 ht n f
theorem wh {tab:Tab} (h:bO Tryz.prog (NV σ) tab):bO Tryz.prog (NVl lp σ) tab:=fun f g hg=>gm (N:=NV σ) (N':=NVl lp σ) rfl rfl (h f g hg)
theorem jM:cV Tryz.prog (NVl fJ σ):=fun f fn c _ _ id b _ g hg=>by cases hg
def fv (id:Nat):List (Nat×Code)->Code
 | []=>.skip
 | (k,c)::r=>match Nat.beq k id with | true=>c | false=>fv id r
noncomputable def cB (fn:Func):Code:=match fn.body with | some c=>c | none=>.skip
theorem xz {P:Program} {N N':Env AV} (hF:N'.F=N.F) (hG:N'.G=N.G) {nt:Nat} {c:Code} {g:St AV->T (Ex×St AV)} (h:dG P N nt c g):dG P N' nt c g:=by
 intro L s s' ex hg hcl hL
 obtain⟨h1,h2,h3⟩:=h L s s' ex hg (m5 N hcl) hL
 refine⟨m5 N' h1,h2,fun {ρ a w} hat=>?_⟩
 refine wp_mono (h3 ⟨hat.em,je hF.symm hG.symm hat.own⟩) ?_
 rintro e a' w' ⟨he,⟨ρ',e1,o1,v1⟩,d1⟩
 exact⟨he,⟨ρ',e1,je hF hG o1,rY N' v1⟩,d1⟩
def gT (f id:Nat) (g:St AV->T (Ex×St AV)) (lp:Lp):Lp:=fun f'=>match Nat.beq f' f with
 | true=>fun id'=>match Nat.beq id' id with
   | true=>some g
   | false=>lp f' id'
 | false=>lp f'
theorem gJ {f id:Nat} {g:St AV->T (Ex×St AV)} {lp:Lp} (h:cV Tryz.prog (NVl lp σ)) {fn:Func} (hf:ft.get f=some fn) {c:Code} (hc:fn.body=some c) {nt:Nat} (hnt:fn.ntmps=nt) {b:Code} (hb:∀x∈bx c,x.1=id->x.2=b) (hg:dG Tryz.prog (NVl lp σ) nt b g):cV Tryz.prog (NVl (gT f id g lp) σ):=by
 intro f' fn' c' hf' hc' id' b' hb' g' hg'
 have hg':gT f id g lp f' id'=some g':=hg'
 have old:lp f' id'=some g'->dG Tryz.prog (NVl (gT f id g lp) σ) fn'.ntmps b' g':=fun h1=>xz (N:=NVl lp σ) (N':=NVl (gT f id g lp) σ) rfl rfl (h f' fn' c' hf' hc' id' b' hb' g' h1)
 by_cases e:f'=f
 ·subst e
  by_cases e2:id'=id
  ·subst e2
   have hg':(match Nat.beq f' f' with
    | true=>fun id=>match Nat.beq id id' with
      | true=>some g
      | false=>lp f' id
    | false=>lp f') id'=some g':=hg'
   simp only [Nat.beq_refl] at hg'
   cases hg'
   have hf':ft.get f'=some fn':=hf'
   rw [hf] at hf'
   cases hf'
   rw [hc] at hc'
   cases hc'
   have hbb:b'=b:=hb _ hb' rfl
   rw [hnt,hbb]
   exact xz (N:=NVl lp σ) (N':=NVl (gT f' id' g lp) σ) rfl rfl hg
  ·refine old ?_
   have hg':(match Nat.beq f' f' with
    | true=>fun id'=>match Nat.beq id' id with
      | true=>some g
      | false=>lp f' id'
    | false=>lp f') id'=some g':=hg'
   simp only [Nat.beq_refl,(aR _ _).2 e2] at hg'
   exact hg'
 ·refine old ?_
  have hg':(match Nat.beq f' f with
   | true=>fun id'=>match Nat.beq id' id with
     | true=>some g
     | false=>lp f' id'
   | false=>lp f') id'=some g':=hg'
  simp only [(aR _ _).2 e] at hg'
  exact hg'
def Bj (id:Nat):List (Nat×Code)->Bool
 | []=>true
 | (k,c)::r=>match Nat.beq k id with
   | true=>match iU (r.map Prod.fst) id with | true=>false | false=>true
   | false=>Bj id r
theorem br {id:Nat}:∀{l:List (Nat×Code)},Bj id l=true->∀x∈l,x.1=id->x.2=fv id l
 | [],_,x,h,_=>by cases h
 | (k,c)::r,h,x,hx,he=>by
   simp only [Bj] at h
   show x.2=match Nat.beq k id with | true=>c | false=>fv id r
   cases hk:Nat.beq k id with
   | true =>
     rw [hk] at h
     have hk:=(ai _ _).1 hk
     simp only at h ⊢
     split at h
     ·cases h
     ·rename_i hn
      rcases List.mem_cons.1 hx with rfl | hx
      ·rfl
      ·exfalso
       have:id∈r.map Prod.fst:=List.mem_map.2 ⟨x,hx,he⟩
       rw [(dB _ _).2 this] at hn
       cases hn
   | false =>
     rw [hk] at h
     simp only at h ⊢
     rcases List.mem_cons.1 hx with rfl | hx
     ·exact absurd he ((aR _ _).1 hk)
     ·exact br h x hx he
theorem nv {α:Type} {b:Bool} {t:T α} (h:b=true):(T.need b t).val=t.val:=by subst h;rfl
theorem ivT {α:Type} {c:Bool} {t u:T α} (h:c=true):(T.ite c t u).val=t.val:=by subst h;rfl
theorem ivF {α:Type} {c:Bool} {t u:T α} (h:c=false):(T.ite c t u).val=u.val:=by subst h;rfl
theorem Fb {N:Env AV} {nt:Nat} {E E':Ev} {H:Hp AV} {ks:List Nat} {n:Nat} {c c':Chunk AV} (hn:ab H n=some c) (hl:Lesser N c c') (hcc:c'.cellsOf=[])
 (hE:∀k∈ks,Sx.look E' k=Sx.look E k \/ (Sx.look E k≠.unk /\ ClV H (Sx.look E' k) /\ ∀ρ,(Sx.look E' k).den ρ=(Sx.look E k).den ρ)):Enter N nt {E:=E,H:=H} {E:=only ks E' nt,H:=bC H n (some c')}:=fun hc=>by
 have hlt:=aX hn
 have get:∀m,ab (bC H n (some c')) m=if m=n then some c' else ab H m:=fun m=>by
  by_cases h2:m=n
  ·subst h2;rw [if_pos rfl,bn _ hlt]
  ·rw [if_neg h2,aK _ fun e=>h2 e.symm]
 have pers:∀m d,ab H m=some d->∃d',ab (bC H n (some c')) m=some d':=fun m d h=>by
  rw [get]
  by_cases h2:m=n
  ·rw [if_pos h2];exact⟨_,rfl⟩
  ·rw [if_neg h2];exact⟨d,h⟩
 have src:∀m d,ab (bC H n (some c')) m=some d->∃d',ab H m=some d' /\ (∀ρ w,d'.q N ρ m w->d.q N ρ m w) /\ ∀ρ k,d.fp ρ m k↔d'.fp ρ m k:=fun m d h=>by
  rw [get] at h
  split at h
  ·rename_i e
   subst e
   cases h
   exact⟨_,hn,fun ρ w hq=>(hl ρ m w).1 hq,fun ρ k=>(hl ρ m default).2 k⟩
  ·exact⟨d,h,fun _ _ h=>h,fun _ _=>Iff.rfl⟩
 refine⟨⟨fun k=>?_,fun m x hx=>?_⟩,by show H.length<=(bC H n _).length;rw [bX];exact Nat.le_refl _,fun ρ a w hat=>⟨ρ,⟨⟨hat.em.size,fun k hk=>?_⟩,?_⟩,⟨pers,fun _ _ _=>rfl,fun m hm h=>?_,by show H.length<=(bC H n _).length;rw [bX];exact Nat.le_refl _,fun _ _ _=>rfl,fun m d k h hk=>?_,rfl,rfl,rfl,Nat.le_refl _⟩⟩⟩
 ·show ClV (bC H n (some c')) (Sx.look (only ks E' nt) k)
  simp only [eu]
  split
  ·cases hh:iU ks k with
   | false=>trivial
   | true =>
     rcases hE k ((dB _ _).1 hh) with e | ⟨_,e,_⟩
     ·simp only [e];exact(hc.E k).mono fun m d h=>pers m d h
     ·exact e.mono fun m d h=>pers m d h
  ·exact hD _
 ·have hx':ab (bC H n (some c')) m=some x:=hx
  clear hx
  rw [get] at hx'
  split at hx'
  ·cases hx'
   intro d hd;rw [hcc] at hd;cases hd
  ·exact(hc.H m x hx').mono fun m d h=>pers m d h
 ·have hk:Sx.look (only ks E' nt) k≠.unk:=hk
  show a.tmps.getD k undef=(Sx.look (only ks E' nt) k).den ρ
  simp only [eu] at hk ⊢
  split
  ·rename_i hkn
   rw [if_pos hkn] at hk
   cases hh:iU ks k with
   | false=>rw [hh] at hk;exact absurd rfl hk
   | true =>
     rw [hh] at hk
     simp only at hk ⊢
     rcases hE k ((dB _ _).1 hh) with e | ⟨e0,_,e⟩
     ·rw [e] at hk ⊢;exact hat.em.get k hk
     ·rw [e ρ];exact hat.em.get k e0
  ·rename_i hkn
   have:nt<=k:=by omega
   rw [Array.getD_eq_getD_getElem?,Array.getElem?_eq_none (by rw [hat.em.size];exact this)]
   rfl
 ·refine hat.own.sub ⟨fun m d h=>?_,fun m m' d d' hne h h' k hk hk'=>?_,hat.own.glb⟩ fun m d k h hk=>?_
  ·obtain⟨d',h1,h2,_⟩:=src m d h
   exact h2 ρ w (hat.own.q m d' h1)
  ·obtain⟨e,h1,_,h3⟩:=src m d h
   obtain⟨e',g1,_,g3⟩:=src m' d' h'
   exact hat.own.dis m m' e e' hne h1 g1 k ((h3 ρ k).1 hk) ((g3 ρ k).1 hk')
  ·obtain⟨e,h1,_,h3⟩:=src m d h
   exact⟨m,e,h1,(h3 ρ k).1 hk⟩
 ·have h:ab H m=none:=h
  show ab (bC H n _) m=none
  rw [get]
  split
  ·rename_i e;subst e;rw [h] at hn;cases hn
  ·exact h
 ·obtain⟨e,h1,_,h3⟩:=src m d h
  exact .inr ⟨m,e,h1,(h3 ρ k).1 hk⟩
theorem FI {m:Int} (h:-9223372036854775808<=m /\ m<=9223372036854775807):IntKind.wrap .i64 m=m:=by
 unfold IntKind.wrap
 simp only [IntKind.bits,IntKind.signed]
 first | omega | (simp;omega)
theorem mz {N:Env AV} {nt:Nat} {E E':Ev} {H:Hp AV} {ks:List Nat} (hE:∀k∈ks,Sx.look E' k=Sx.look E k \/ (Sx.look E k≠.unk /\ Plain (Sx.look E' k) /\ ∀ρ,(Sx.look E' k).den ρ=(Sx.look E k).den ρ)):Enter N nt {E:=E,H:=H} {E:=only ks E' nt,H:=H}:=by
 refine Fa ⟨fun k hk=>?_,fun k hk=>?_⟩ rfl
 ·show Sx.look (only ks E' nt) k=_ \/ Sx.look (only ks E' nt) k=_ \/ _
  simp only [eu,if_pos hk]
  cases hh:iU ks k with
  | false=>exact .inl rfl
  | true =>
    rcases hE k ((dB _ _).1 hh) with e | ⟨e0,e1,e2⟩
    ·exact .inr (.inl e)
    ·exact .inr (.inr ⟨e0,e1,e2⟩)
 ·show Sx.look (only ks E' nt) k=_
  rw [eu,if_neg (by omega)]
def hpC (M:List Bool) (l:List (Chunk AV)):Hp AV:=bB AV.sent 0 M++chL l
def cP:Chunk AV->Option AV:=fun _=>none
noncomputable def pK (lp:Lp) (σ:Sg) (tab:Tab) (f:FuncId) (M:List Bool) (args:List SV) (l:List (Chunk AV)):T (Ex×St AV) :=
 match clVs (hpC M l) args,clHs (hpC M l) (hpC M l) with
 | true,true=>(Q.lv (NVl lp σ) tab 26 (.fn f) args (hpC M l)).bind fun r=>cM (M.length+l.length) 1 [0] cP (stV r)
 | _,_=>.fail "names"
theorem fF (hlp:cV Tryz.prog (NVl lp σ)) {tab:Tab} (ht:bO Tryz.prog (NVl lp σ) tab) {f:FuncId} {M:List Bool} (hM:M.length=7) {args:List SV} {l:List (Chunk AV)} {v:SV} {H':Hp AV} (h:(pK lp σ tab f M args l).val=some (stV (v,H'))) (hv:v≠.unk) :
 Ctr Tryz.prog (NVl lp σ) f args (hpC M l) v H':=by
 unfold pK at h
 split at h
 ·rename_i h1 h2
  obtain⟨⟨v1,H2⟩,hr,hb⟩:=T.bind_some h
  rw [Q.lv_eq] at hr
  have hctr:=(PT hlp ht 26 f).ctr hr (kR.1 h1) ⟨eY.1 h2,trivial⟩
  have hlen:(hpC M l).length=M.length+l.length:=by simp [hpC,dv,Qm]
  exact Na hlen (by show 7<=_;omega) hctr (fun d a h=>by cases h) hv hb
 ·simp [T.val] at h
def iK:Hp AV->Nat->List Bool->Option (Hp AV)
 | H,_,[]=>some H
 | some (.abs a)::r,i,true::M=>match isS a i with | true=>iK r (i+1) M | false=>none
 | none::r,i,false::M=>iK r (i+1) M
 | _,_,_::_=>none
theorem fa:∀{M:List Bool} {H R:Hp AV} {i:Nat},iK H i M=some R->H=bB AV.sent i M++R
 | [],H,R,i,h=>by
   simp only [iK,Option.some.injEq] at h
   rw [h];rfl
 | b::M,H,R,i,h=>by
   unfold iK at h
   split at h
   ·cases ‹b::M=[]›
   ·rename_i e
    cases e
    split at h
    ·rename_i hs
     rw [fa h,bR _ _ hs];rfl
    ·cases h
   ·rename_i e
    cases e
    rw [fa h];rfl
   ·cases h
end
section
open Go Go.Sx Go.Proofs
set_option maxRecDepth 100000
variable {σ:Sg}
def aII:ArgK (Int×Int) where
 enc x:=[.v (.c (.it .i64 x.1)),.v (.c (.it .i64 x.2))]
 dec:=fun | [.v (.c c),.v (.c d)]=>(match iOf c,iOf d with | some a,some b=>some (a,b) | _,_=>none) | _=>none
 ok:=fun l a h ρ=>by
  split at h
  ·split at h
   ·rename_i h0 h1
    cases h
    simp only [List.map_cons,List.map_nil,SV.den,V1.den,bp h0 ρ,bp h1 ρ];rfl
   ·cases h
  ·cases h
 free:=fun _=>rfl
def Ht:ValK Ad where
 enc x:=.tup [.agg [.it .i64 x.s,.it .i64 x.g,.it .i64 x.f],.c .inil]
 dec:=fun | .tup [.agg [.it .i64 a,.it .i64 b,.it .i64 c],.c .inil]=>some ⟨a,b,c⟩ | _=>none
 ok:=fun v b h=>by split at h<;>cases h;rfl
def GN (x:Int×Int):Ad:=⟨0,0,25+x.1 * 9+x.2⟩
def Rl (t:Int):Ad:=⟨0,0,79+t⟩
def td (x:Int×Int):Bool:=decide (0<=x.1 /\ x.1 < 6 /\ 0<=x.2 /\ x.2 < 9)
def s9 (t:Int):Bool:=decide (0<=t /\ t < 6)
theorem WL (σ:Sg) (x:Int×Int):(gg σ bm 102 noM (aII.enc x) []).map (kP Ht)=.ite (orB (!(eB (decide (0<=x.1)) (decide (x.1 < 6)))) (orB (decide (x.2 < 0)) (decide (x.2>=9)))) (.fail "load")
 (.leaf (some ⟨0,0,IntKind.wrap .i64 (IntKind.wrap .i64 (25+IntKind.wrap .i64 (x.1 * 9))+x.2)⟩)):=by kernel_rfl
theorem VF (σ:Sg) (t:Int):(gg σ bm 77 noM (aI.enc t) []).map (kP Ht)=.ite (!(eB (decide (0<=t)) (decide (t < 6)))) (.fail "load") (.leaf (some ⟨0,0,IntKind.wrap .i64 (79+t)⟩)):=by kernel_rfl
theorem gM {m:Int} (h:-9223372036854775808<=m /\ m<=9223372036854775807):IntKind.wrap .i64 m=m:=by
 unfold IntKind.wrap
 simp only [IntKind.bits,IntKind.signed]
 first | omega | (simp;omega)
theorem NK {a b:Bool} (ha:a=true) (hb:b=true):eB a b=true:=by subst ha hb;rfl
theorem Ru {a b:Bool} (ha:a=false) (hb:b=false):orB a b=false:=by subst ha hb;rfl
theorem PE:FnOk Tryz.prog (NV σ) 102 (aZ isS noM (rW aII Ht (fun x=>some (td x)) GN)) :=
 pf aJ rfl fun x h=>⟨aII.enc x,rfl,fun _=>rfl,by
  obtain⟨t,n⟩:=x
  have h:0<=t /\ t < 6 /\ 0<=n /\ n < 9:=of_decide_eq_true h
  obtain⟨h1,h2,h3,h4⟩:=h
  rw [WL,Ru (by rw [NK (decide_eq_true h1) (decide_eq_true h2)];rfl) (Ru (decide_eq_false (by omega)) (decide_eq_false (by omega)))]
  show some (some (⟨0,0,_⟩:Ad))=_
  have e1:IntKind.wrap .i64 (t * 9)=t * 9:=gM (by omega)
  have e2:IntKind.wrap .i64 (25+t * 9)=25+t * 9:=gM (by omega)
  have e3:IntKind.wrap .i64 (25+t * 9+n)=25+t * 9+n:=gM (by omega)
  dsimp only
  rw [e1,e2,e3]
  rfl⟩
theorem OD:FnOk Tryz.prog (NV σ) 77 (aZ isS noM (rW aI Ht (fun x=>some (s9 x)) Rl)) :=
 pf aJ rfl fun t h=>⟨aI.enc t,rfl,fun _=>rfl,by
  have h:0<=t /\ t < 6:=of_decide_eq_true h
  obtain⟨h1,h2⟩:=h
  rw [VF,NK (decide_eq_true h1) (decide_eq_true h2)]
  show some (some (⟨0,0,_⟩:Ad))=_
  have e1:IntKind.wrap .i64 (79+t)=79+t:=gM (by omega)
  rw [e1]
  rfl⟩
end
section
open Go Go.Sx Go.Proofs
set_option maxRecDepth 100000
variable {σ:Sg}
def H9.get (s:H9) (n:Int):W:=if n=0 then s.h0 else if n=1 then s.h1 else if n=2 then s.h2 else if n=3 then s.h3 else if n=4 then s.h4 else if n=5 then s.h5 else if n=6 then s.h6 else if n=7 then s.h7 else s.h8
def H9.put (s:H9) (n:Int) (w:W):H9:=if n=0 then {s with h0:=w} else if n=1 then {s with h1:=w} else if n=2 then {s with h2:=w} else if n=3 then {s with h3:=w} else if n=4 then {s with h4:=w}
 else if n=5 then {s with h5:=w} else if n=6 then {s with h6:=w} else if n=7 then {s with h7:=w} else {s with h8:=w}
structure RT where
 m:RiteM
 ls:Nat
 ld:Nat
 ln:Nat
def vQ:ValK Unit where
 enc _:=.v (.c .inil)
 dec:=fun | .v (.c .inil)=>some () | _=>none
 ok:=fun v b h=>by split at h<;>cases h;rfl
def rS (r:RT):Bool:=match decide (r.ls=r.m.seen.length) with
 | true=>(match decide (r.ld=r.m.doomed.length) with
   | true=>(match decide (r.ln=r.m.notes.length) with | true=>true | false=>false)
   | false=>false)
 | false=>false
def tR (r:RT):T (Option (Unit×RiteM)):=.need (rS r) (.leaf (some ((),r.m)))
def CN:Acc:=⟨0,0,0,0,wNil,wNil⟩
def isZero (w:W):Bool:=w.slot==0&&(w.gen==0&&(w.tag==0&&(w.num==0&&w.mark==false)))
def eqW (a b:W):Bool:=a.slot==b.slot&&(a.gen==b.gen&&(a.tag==b.tag&&(a.num==b.num&&a.mark==b.mark)))
def SB (s:Sp):Bool:=s.is==false&&(s.low==0&&s.high==0)
def iF (s:Int) (a:Acc) (r:RT):RT:={r with m:={r.m with step:=s,acc:=a}}
def iG (s:Int) (a:Ad) (r:RT):RT:=iF s ⟨1,a.s,a.g,a.f,wNil,wNil⟩ r
def eM (x:Rp1) (r:RT):RT:={r with m:={r.m with call:=aD,step:=0,acc:=CN,word:=wNil,clock:=wNil,index:=0,seen:=[],doomed:=[],reply:=x},ls:=0,ld:=0}
def tY:Ad:=aC 24
section
variable {β:Type} (I:Bool->β->β->β) (N:Bool->β->β) (L:RT->β)
def ju (r:RT):β:=L (eM ⟨wNil,true⟩ r)
def wP (s n:Int) (w:W) (r:RT):β:=N (td (r.m.me,n)) (L (iF s ⟨2,0,0,25+r.m.me * 9+n,wNil,w⟩ {r with m:={r.m with holds:=H9.put r.m.holds n w}}))
def iQ (s:Int) (sp:Sp) (w:W) (r:RT):β:=N (s9 r.m.me) (L (iF s ⟨2,0,0,79+r.m.me,wNil,w⟩ {r with m:={r.m with span:=sp}}))
def o4 (r:RT):Nat->Int->β
 | 0,_=>ju L r
 | k+1,n=>I (!isZero (H9.get r.m.holds n)) (wP N L 4 n wNil {r with m:={r.m with index:=n}}) (o4 r k (n+1))
def nT (n:Nat) (r:RT):β :=
 if r.m.engine=4 \/ r.m.engine=5 then I (!SB r.m.span) (iQ N L 2 ⟨false,0,0⟩ wNil r) (ju L r)
 else if r.m.engine=2 \/ r.m.engine=3 then o4 I N L r (9 - n) n else ju L r
def ib (x:Rp1) (r:RT):β :=
 if r.m.step=7 then L (iG 5 r.m.call.adr r)
 else if r.m.step=5 then
  (if r.m.engine=3 \/ r.m.engine=5 then L (iG 6 tY {r with m:={r.m with word:=x.w}})
  else if r.m.engine=2 then
   I (eB (!(x.w.slot==0)) (!eqW (H9.get r.m.holds r.m.call.i) (bP x.w))) (wP N L 7 r.m.call.i (bP x.w) {r with m:={r.m with word:=x.w}}) (L (eM ⟨x.w,true⟩ r))
  else L (eM ⟨x.w,true⟩ r))
 else if r.m.engine=3 then
  I (eB (!isZero (H9.get r.m.holds r.m.call.i)) ((H9.get r.m.holds r.m.call.i).num==x.w.num)) (L (eM ⟨r.m.word,true⟩ r)) (wP N L 7 r.m.call.i (dt x.w.num) r)
 else
  I (eB r.m.span.is (r.m.span.high==x.w.num)) (L (eM ⟨r.m.word,true⟩ r))
    (I r.m.span.is (iQ N L 7 ⟨true,r.m.span.low,x.w.num⟩ ⟨0,0,x.w.num,r.m.span.low,true⟩ r) (iQ N L 7 ⟨true,x.w.num,x.w.num⟩ ⟨0,0,x.w.num,x.w.num,true⟩ r))
def ll (x:Rp1) (r:RT):β :=
 if r.m.step=1 then L (eM x r)
 else if r.m.step=2 then ju L r
 else if r.m.step=3 then iQ N L 2 ⟨true,x.w.num,x.w.num⟩ ⟨0,0,x.w.num,x.w.num,true⟩ r
 else if r.m.step=4 then nT I N L (r.m.index+1).toNat r
 else if r.m.step=8 then L (iF 1 ⟨4,0,0,0,wNil,dt x.w.num⟩ r)
 else ib I N L x r
end
noncomputable def Cc:Tab:=aQ 102 (aZ isS noM (rW aII Ht (fun x=>some (td x)) GN)) (aQ 77 (aZ isS noM (rW aI Ht (fun x=>some (s9 x)) Rl)) bm)
theorem wg:bO Tryz.prog (NV σ) Cc:=au PE (au OD aJ)
noncomputable def KG (σ:Sg) (ks:List Nat) (m:RiteM) (x:Rp1):T (Option (Unit×RiteM)):=(dJ σ Cc 31 noM (aRp.enc x) (dR m) cL (ks.foldl (fun g k=>bE k g) (RiteM.wr m)) []).map (gp vQ oRite)
end
section
open Go Go.Sx Go.Proofs
set_option maxRecDepth 100000
variable {σ:Sg}
section
variable {β:Type} (I:Bool->β->β->β) (N:Bool->β->β) (L:RT->β)
def uD (c:Cl) (r:RT):β :=
 if c.kind=1 then(if r.m.engine=4 \/ r.m.engine=5 then L (iG 3 tY r) else ju L r)
 else if c.kind=2 then nT I N L 0 r
 else if c.kind=3 then L (iG 1 c.adr r)
 else if c.kind=4 then L (iF 1 ⟨2,c.adr.s,c.adr.g,c.adr.f,c.old,c.new⟩ r)
 else if c.kind=5 then L (iF 1 ⟨3,c.adr.s,c.adr.g,c.adr.f,c.old,c.new⟩ r)
 else if c.kind=6 then L (iG 5 c.adr r)
 else if c.kind=7 then(if r.m.engine=2 \/ r.m.engine=3 then I (!eqW (H9.get r.m.holds c.i) (H9.get r.m.holds c.j)) (wP N L 2 c.i (H9.get r.m.holds c.j) r) (ju L r) else ju L r)
 else if c.kind=8 then(if r.m.engine=3 \/ r.m.engine=5 then L (iG 8 tY r) else L (iF 1 ⟨4,0,0,0,wNil,wNil⟩ r))
 else if c.kind=9 then L (iF 2 ⟨5,0,0,0,c.old,wNil⟩ r)
 else if c.kind=10 then(if r.m.engine=4 then L (iG 10 tY r) else if r.m.engine=3 \/ r.m.engine=5 then L (iG 9 ⟨c.old.slot,c.old.gen,9⟩ r) else ju L r)
 else(if r.m.engine=4 then L (iG 12 tY r) else ju L r)
end
def aCl:ArgK Cl where
 enc c:=[.v (.agg (gsC (Cl.wr c)))]
 dec:=fun | [.v (.agg cs)]=>(match Cl.rd ((u0 cs).map .p) with | some (c,[])=>some c | _=>none) | _=>none
 ok:=fun l a h ρ=>by
  split at h
  ·split at h
   ·rename_i hc
    cases h
    have:=Cl.rd_s hc
    rw [List.append_nil] at this
    rw [<- this,lF]
    simp only [List.map_cons,List.map_nil,SV.den,V1.den,oc]
   ·cases h
  ·cases h
 free:=fun _=>rfl
end
section
open Go Go.Sx Go.Proofs
set_option maxRecDepth 100000
variable {σ:Sg}
section
variable {β:Type} (I:Bool->β->β->β) (N:Bool->β->β) (L:RT->β)
def mc (n:Int) (r:RT) (k:β):β :=
 if r.m.engine=2 \/ r.m.engine=3 then I (decide (n>=IntKind.wrap .i64 (r.m.threads * 9))) k (N true (N true (N (td (IntKind.wrap .i64 (Int.tdiv n 9),Int.tmod n 9)) (L (iF 13 ⟨1,0,0,(GN (IntKind.wrap .i64 (Int.tdiv n 9),Int.tmod n 9)).f,wNil,wNil⟩ {r with m:={r.m with index:=n}})))))
 else I (decide (n>=r.m.threads)) k (N (s9 n) (L (iF 13 ⟨1,0,0,79+n,wNil,wNil⟩ {r with m:={r.m with index:=n}})))
def uC (r:RT):β :=
 if r.m.engine=1 then ju L r else if r.m.engine=4 then L (iG 12 tY r) else mc I N L 0 r (L r)
def y8 (σ:Sg) (r:RT):Bool:=decide (r.ln=Intf.len (F6 σ) (AV.notes r.m.notes) /\ (r.ln+1) * (SI.bytes Kw+1)<=lim)
def ED (birth death:Int) (r:RT):RT:={r with m:={r.m with notes:=r.m.notes++[⟨r.m.call.old.slot,r.m.call.old.gen,0,0,false,birth,death⟩]},ln:=r.ln+1}
def lJ (r:RT):β:=I (decide ((r.ln:Int)>=r.m.most)) (uC I N L r) (ju L r)
def SN (σ:Sg) (x:Rp1) (r:RT):β :=
 if r.m.step=9 then L (iG 10 tY {r with m:={r.m with word:=x.w}})
 else if r.m.step=10 then N (y8 σ r) (
  if r.m.engine=3 \/ r.m.engine=5 then L (iF 11 ⟨3,0,0,24,x.w,eI x.w 1⟩ (ED r.m.word.num x.w.num {r with m:={r.m with clock:=x.w}}))
  else lJ I N L (ED r.m.word.num x.w.num {r with m:={r.m with clock:=x.w}}))
 else if r.m.step=11 then lJ I N L r
 else if r.m.step=12 then mc I N L 0 {r with m:={r.m with clock:=x.w}} (L {r with m:={r.m with clock:=x.w}})
 else L (iG 15 tY r)
end
def qi (c:Cl) (r:RT):RT:={r with m:={r.m with call:=c,step:=0,acc:=CN,word:=wNil,clock:=wNil,index:=0,seen:=[],doomed:=[]},ls:=0,ld:=0}
def RN (σ:Sg) (m:RiteM) (c:Cl) (t:T (Option (Unit×RiteM))):Prop:=∃gs args,j5 σ (dR m)=some (dw AV.len cL (eO gs)) /\ fy args=true /\ (∀ρ:Nm,args.map (SV.den ρ)=(aCl.enc c).map (SV.den ρ)) /\
 (dJ σ Cc 54 noM args (dR m) cL gs []).map (gp vQ oRite)=t
theorem bgK {m:RiteM} {c:Cl} {t:T (Option (Unit×RiteM))} (ks kc:List Nat) (h1:j5 σ (dR m)=some (dw AV.len cL (eO (ks.foldl (fun g k=>bE k g) (RiteM.wr m))))) (h3:∀ρ:Nm,([.v (.agg (gsC (kc.foldl (fun g k=>bE k g) (Cl.wr c))))]:List SV).map (SV.den ρ)=(aCl.enc c).map (SV.den ρ))
 (h2:fy [.v (.agg (gsC (kc.foldl (fun g k=>bE k g) (Cl.wr c))))]=true) (h4:(dJ σ Cc 54 noM [.v (.agg (gsC (kc.foldl (fun g k=>bE k g) (Cl.wr c))))] (dR m) cL (ks.foldl (fun g k=>bE k g) (RiteM.wr m)) []).map (gp vQ oRite)=t):RN σ m c t:=⟨_,_,h1,h2,h3,h4⟩
end
section
open Go Go.Sx Go.Proofs
set_option maxRecDepth 100000
variable {σ:Sg}
section
variable {β:Type} (I:Bool->β->β->β) (N:Bool->β->β) (L:RT->β)
def mL (sz:RT->Bool) (c:Cl) (r:RT):β :=
 if c.kind=10 /\ r.m.engine=2 then N (sz r) (lJ I N L (ED 0 0 r))
 else if c.kind=11 /\ (r.m.engine=2 \/ r.m.engine=3 \/ r.m.engine=5) then uC I N L r
 else uD I N L c r
end
def rOf (m:RiteM):RT:=⟨m,m.seen.length,m.doomed.length,m.notes.length⟩
def bS (m:RiteM) (c:Cl):RiteM:=mL cond (fun _ t=>t) RT.m (fun _=>true) c (qi c (rOf m))
def tc (i j:Int):Prop:=(i=1 /\ j=0) \/ (i=2 /\ j=1) \/ (i=4 /\ j=3) \/ (i=5 /\ j=4) \/ (i=7 /\ j=6) \/ (i=8 /\ j=7) \/ (i=2 /\ j=5) \/ (i=5 /\ j=8)
instance (i j:Int):Decidable (tc i j):=by unfold tc;infer_instance
def yP (c:Cl):Prop:=c.kind=1 \/ c.kind=2 \/ c.kind=3 \/ c.kind=4 \/ c.kind=5 \/ (c.kind=6 /\ 0<=c.i /\ c.i < 9 /\ c.j=0) \/ (c.kind=7 /\ tc c.i c.j) \/ c.kind=8 \/ c.kind=9 \/ c.kind=10 \/ c.kind=11
instance (c:Cl):Decidable (yP c):=by unfold yP;infer_instance
def Im (m:RiteM):Prop:=1<=m.engine /\ m.engine<=5 /\ 0<=m.me /\ m.me < 6 /\ m.notes.length<=100000
instance (m:RiteM):Decidable (Im m):=by unfold Im;infer_instance
def CJ (m:RiteM) (c:Cl):Bool:=decide (m.step=0 /\ Im m /\ yP c)
def Yj (σ:Sg) (m:RiteM) (c:Cl):Prop:=RN σ m c (mL tI tN tR (y8 σ) c (qi c (rOf m)))
theorem SF (σ:Sg) (m:RiteM) (c:Cl) (h:CJ m c=true):Yj σ m c:=by
 obtain⟨h0,h1,h2⟩:=of_decide_eq_true h
 obtain⟨cl,st,acc,wd,clk,ix,seen,doomed,e,me,thr,mst,holds,span,notes,freed,reply⟩:=m
 obtain⟨k,adr,old,new,i,j,ans⟩:=c
 dsimp only [Im,yP] at h0 h1 h2
 subst h0
 have he:e=1 \/ e=2 \/ e=3 \/ e=4 \/ e=5:=by omega
 clear h h1
 rcases h2 with rfl | rfl | rfl | rfl | rfl | ⟨rfl,h3,h4,rfl⟩ | ⟨rfl,h3⟩ | rfl | rfl | rfl | rfl
 ·rcases he with rfl | rfl | rfl | rfl | rfl<;>exact bgK [18,46] [0] (by kernel_rfl) (fun _=>by kernel_rfl) (by kernel_rfl) (by kernel_rfl)
 ·rcases he with rfl | rfl | rfl | rfl | rfl<;>exact bgK [18,46] [0] (by kernel_rfl) (fun _=>by kernel_rfl) (by kernel_rfl) (by kernel_rfl)
 ·exact bgK [18] [0] (by kernel_rfl) (fun _=>by kernel_rfl) (by kernel_rfl) (by kernel_rfl)
 ·exact bgK [18] [0] (by kernel_rfl) (fun _=>by kernel_rfl) (by kernel_rfl) (by kernel_rfl)
 ·exact bgK [18] [0] (by kernel_rfl) (fun _=>by kernel_rfl) (by kernel_rfl) (by kernel_rfl)
 ·rcases (by omega:i=0 \/ i=1 \/ i=2 \/ i=3 \/ i=4 \/ i=5 \/ i=6 \/ i=7 \/ i=8) with rfl | rfl | rfl | rfl | rfl | rfl | rfl | rfl | rfl<;>exact bgK [18] [0,14,15] (by kernel_rfl) (fun _=>by kernel_rfl) (by kernel_rfl) (by kernel_rfl)
 ·rcases h3 with⟨rfl,rfl⟩ | ⟨rfl,rfl⟩ | ⟨rfl,rfl⟩ | ⟨rfl,rfl⟩ | ⟨rfl,rfl⟩ | ⟨rfl,rfl⟩ | ⟨rfl,rfl⟩ | ⟨rfl,rfl⟩<;>rcases he with rfl | rfl | rfl | rfl | rfl<;>exact bgK [18,46] [0,14,15] (by kernel_rfl) (fun _=>by kernel_rfl) (by kernel_rfl) (by kernel_rfl)
 ·rcases he with rfl | rfl | rfl | rfl | rfl<;>exact bgK [18,46] [0] (by kernel_rfl) (fun _=>by kernel_rfl) (by kernel_rfl) (by kernel_rfl)
 ·exact bgK [18] [0] (by kernel_rfl) (fun _=>by kernel_rfl) (by kernel_rfl) (by kernel_rfl)
 ·rcases he with rfl | rfl | rfl | rfl | rfl<;>exact bgK [18,46] [0] (by kernel_rfl) (fun _=>by kernel_rfl) (by kernel_rfl) (by kernel_rfl)
 ·rcases he with rfl | rfl | rfl | rfl | rfl<;>exact bgK [18,46] [0] (by kernel_rfl) (fun _=>by kernel_rfl) (by kernel_rfl) (by kernel_rfl)
theorem vA {r:RT} (h1:r.ls=r.m.seen.length) (h2:r.ld=r.m.doomed.length) (h3:r.ln=r.m.notes.length):rS r=true:=by
 unfold rS
 rw [decide_eq_true h1,decide_eq_true h2,decide_eq_true h3]
theorem vR {r:RT} (h1:r.ls=r.m.seen.length) (h2:r.ld=r.m.doomed.length) (h3:r.ln=r.m.notes.length):(tR r).val=some (some ((),r.m)):=by
 unfold tR
 rw [vA h1 h2 h3]
 rfl
def eD (r:RT):Prop:=r.ls=r.m.seen.length /\ r.ld=r.m.doomed.length /\ r.ln=r.m.notes.length
def dr (t:T (Option (Unit×RiteM))) (m:RiteM):Prop:=t.val=some (some ((),m))
theorem eV {r:RT} (h:eD r):dr (tR r) r.m:=vR h.1 h.2.1 h.2.2
theorem vZ {b:Bool} {t e:T (Option (Unit×RiteM))} {x y:RiteM} (h1:dr t x) (h2:dr e y):dr (tI b t e) (cond b x y):=by cases b<;>assumption
theorem iE {b:Bool} {t:T (Option (Unit×RiteM))} {x:RiteM} (h:b=true) (h1:dr t x):dr (tN b t) x:=by subst h;exact h1
theorem b6 {c:Prop} [Decidable c] {t e:T (Option (Unit×RiteM))} {x y:RiteM} (h1:c->dr t x) (h2:¬c->dr e y):dr (if c then t else e) (if c then x else y):=by
 split
 ·exact h1 ‹_›
 ·exact h2 ‹_›
theorem kK {x:Rp1} {r:RT} (h:eD r):eD (eM x r):=⟨rfl,rfl,h.2.2⟩
theorem xG {b d:Int} {r:RT} (h:eD r):eD (ED b d r):=⟨h.1,h.2.1,by
 show r.ln+1=(r.m.notes++[_]).length
 rw [List.length_append,h.2.2];rfl⟩
theorem gy {r:RT} (h:eD r):dr (ju tR r) (ju RT.m r):=eV (kK h)
theorem vh {s n:Int} {w:W} {r:RT} (h:eD r) (hk:td (r.m.me,n)=true):dr (wP tN tR s n w r) (wP (fun _ t=>t) RT.m s n w r):=iE hk (eV h)
theorem AX {s:Int} {sp:Sp} {w:W} {r:RT} (h:eD r) (hk:s9 r.m.me=true):dr (iQ tN tR s sp w r) (iQ (fun _ t=>t) RT.m s sp w r):=iE hk (eV h)
theorem ml {t n:Int} (h1:0<=t) (h2:t < 6) (h3:0<=n) (h4:n < 9):td (t,n)=true:=decide_eq_true ⟨h1,h2,h3,h4⟩
theorem mh {t:Int} (h1:0<=t) (h2:t < 6):s9 t=true:=decide_eq_true ⟨h1,h2⟩
theorem y3 {r:RT} (h:eD r) (h1:0<=r.m.me) (h2:r.m.me < 6):∀(k:Nat) (n:Int),0<=n->n+k<=9->dr (o4 tI tN tR r k n) (o4 cond (fun _ t=>t) RT.m r k n)
 | 0,n,_,_=>gy h
 | k+1,n,hn,hk=>vZ (vh (r:={r with m:={r.m with index:=n}}) h (ml h1 h2 hn (by omega))) (y3 h h1 h2 k (n+1) (by omega) (by omega))
theorem B8 {r:RT} (h:eD r) (h1:0<=r.m.me) (h2:r.m.me < 6) (n:Nat) (hn:n<=9):dr (nT tI tN tR n r) (nT cond (fun _ t=>t) RT.m n r):=by
 unfold nT
 exact b6 (fun _=>vZ (AX h (mh h1 h2)) (gy h)) fun _=>b6 (fun _=>y3 h h1 h2 _ _ (by omega) (by omega)) fun _=>gy h
theorem JE {r:RT} (h:eD r):dr (mc tI tN tR 0 r (tR r)) (mc cond (fun _ t=>t) RT.m 0 r r.m):=by
 unfold mc
 exact b6 (fun _=>vZ (eV h) (iE rfl (iE rfl (iE (by decide) (eV (r:=iF 13 _ {r with m:={r.m with index:=0}}) h))))) fun _=>vZ (eV h) (iE (by decide) (eV (r:=iF 13 _ {r with m:={r.m with index:=0}}) h))
theorem FT {r:RT} (h:eD r):dr (uC tI tN tR r) (uC cond (fun _ t=>t) RT.m r):=by
 unfold uC
 exact b6 (fun _=>gy h) fun _=>b6 (fun _=>eV h) fun _=>JE h
theorem vY {r:RT} (h:eD r):dr (lJ tI tN tR r) (lJ cond (fun _ t=>t) RT.m r):=vZ (FT h) (gy h)
theorem Gf {r:RT} (h:eD r) (hn:r.m.notes.length<=100000):y8 σ r=true:=by
 unfold y8
 refine decide_eq_true ⟨h.2.2,?_⟩
 rw [h.2.2]
 exact Nat.le_trans (Nat.mul_le_mul_right _ (Nat.succ_le_succ hn)) (by decide)
theorem Ol {c:Cl} {r:RT} (h:eD r) (h1:0<=r.m.me) (h2:r.m.me < 6) (hc:c.kind=7->0<=c.i /\ c.i < 9):dr (uD tI tN tR c r) (uD cond (fun _ t=>t) RT.m c r):=by
 unfold uD
 refine b6 (fun _=>b6 (fun _=>eV h) fun _=>gy h) fun _=>b6 (fun _=>B8 h h1 h2 0 (by omega)) fun _=>b6 (fun _=>eV h) fun _=>b6 (fun _=>eV h) fun _=>b6 (fun _=>eV h) fun _=>b6 (fun _=>eV h) fun _ =>
  b6 (fun h7=>b6 (fun _=>vZ (vh h (ml h1 h2 (hc h7).1 (hc h7).2)) (gy h)) fun _=>gy h) fun _=>b6 (fun _=>b6 (fun _=>eV h) fun _=>eV h) fun _=>b6 (fun _=>eV h) fun _ =>
  b6 (fun _=>b6 (fun _=>eV h) fun _=>b6 (fun _=>eV h) fun _=>gy h) fun _=>b6 (fun _=>eV h) fun _=>gy h
theorem JF {c:Cl} {r:RT} (h:eD r) (h1:0<=r.m.me) (h2:r.m.me < 6) (hn:r.m.notes.length<=100000) (hc:c.kind=7->0<=c.i /\ c.i < 9):dr (mL tI tN tR (y8 σ) c r) (mL cond (fun _ t=>t) RT.m (fun _=>true) c r):=by
 unfold mL
 exact b6 (fun _=>iE (Gf h hn) (vY (xG h))) fun _=>b6 (fun _=>FT h) fun _=>Ol h h1 h2 hc
theorem DF:FnOk Tryz.prog (NV σ) 54 (aZ isS noM (dK aCl vQ oRite (fun m c=>some (CJ m c)) (fun m c=>((),bS m c)))) :=
 ij wg rfl fun m c h=>by
  obtain⟨gs,args,e1,e2,e3,e4⟩:=SF σ m c h
  obtain⟨h0,hm,hk⟩:=of_decide_eq_true (h:CJ m c=true)
  refine⟨cL,gs,e1,args,e2,e3,?_⟩
  rw [e4]
  exact JF (r:=qi c (rOf m)) ⟨rfl,rfl,rfl⟩ hm.2.2.1 hm.2.2.2.1 hm.2.2.2.2 (fun h7=>by
   unfold yP at hk
   rcases hk with h | h | h | h | h | h | h | h | h | h | h
   all_goals try omega
   obtain⟨_,h⟩:=h
   unfold tc at h
   omega)
end
section
open Go Go.Sx Go.Proofs
set_option maxRecDepth 100000
variable {σ:Sg}
def aNo:ArgK Unit where
 enc _:=[]
 dec:=fun | []=>some () | _=>none
 ok:=fun l a h ρ=>by split at h<;>cases h;rfl
 free:=fun _=>rfl
def vBo:ValK Bool where
 enc b:=.v (.c (.bt b))
 dec:=fun | .v (.c (.bt b))=>some b | _=>none
 ok:=fun v b h=>by split at h<;>cases h;rfl
def vRp:ValK Rp1 where
 enc x:=.v (.agg (gsC (Rp1.wr x)))
 dec:=fun | .v (.agg cs)=>(match Rp1.rd (cs.map .p) with | some (c,[])=>some c | _=>none) | _=>none
 ok:=fun v b h=>by
  split at h
  ·split at h
   ·rename_i hc
    cases h
    have:=Rp1.rd_s hc
    rw [List.append_nil] at this
    rw [<- this,lF]
   ·cases h
  ·cases h
def R5:ValK (Acc×Bool) where
 enc c:=.tup [.agg (gsC (Acc.wr c.1)),.c (.bt c.2)]
 dec:=fun | .tup [.agg cs,.c (.bt b)]=>(match Acc.rd (cs.map .p) with | some (c,[])=>some (c,b) | _=>none) | _=>none
 ok:=fun v b h=>by
  split at h
  ·split at h
   ·rename_i hc
    cases h
    have:=Acc.rd_s hc
    rw [List.append_nil] at this
    rw [<- this,lF]
   ·cases h
  ·cases h
def fZ (m:RiteM):Bool:=!(m.step==0)
def gS (m:RiteM):Acc×Bool:=cond (!fZ m) (CN,false) (m.acc,true)
def tV {β:Type} (v:β) (m:RiteM):T (Option (β×RiteM)):=.need (rS (rOf m)) (.leaf (some (v,m)))
theorem vV {β:Type} (v:β) (m:RiteM):(tV v m).val=some (some (v,m)):=by
 unfold tV
 rw [vA rfl rfl rfl]
 rfl
theorem OO (σ:Sg) (m:RiteM):(dJ σ bm 30 noM [] (dR m) cL (RiteM.wr m) []).map (gp R5 oRite)=tI (!fZ m) (tV (CN,false) m) (tV (m.acc,true) m):=by kernel_rfl
theorem HY:FnOk Tryz.prog (NV σ) 30 (aZ isS noM (dK aNo R5 oRite (fun _ _=>none) (fun m _=>(gS m,m)))) :=
 ij aJ rfl fun m x _=>⟨cL,RiteM.wr m,rfl,[],rfl,fun _=>rfl,by
  rw [OO];unfold gS
  cases h:fZ m
  ·exact vV _ _
  ·exact vV _ _⟩
theorem KO (σ:Sg) (m:RiteM):(dJ σ bm 56 noM [] (dR m) cL (RiteM.wr m) []).map (gp vRp oRite)=tV m.reply m:=by kernel_rfl
theorem Ew:FnOk Tryz.prog (NV σ) 56 (aZ isS noM (dK aNo vRp oRite (fun _ _=>none) (fun m _=>(m.reply,m)))) :=
 ij aJ rfl fun m x _=>⟨cL,RiteM.wr m,rfl,[],rfl,fun _=>rfl,by rw [KO];exact vV _ _⟩
theorem OP (σ:Sg) (m:RiteM):(dJ σ bm 55 noM [] (dR m) cL (RiteM.wr m) []).map (gp vBo oRite)=tV (fZ m) m:=by kernel_rfl
theorem sV:FnOk Tryz.prog (NV σ) 55 (aZ isS noM (dK aNo vBo oRite (fun _ _=>none) (fun m _=>(fZ m,m)))) :=
 ij aJ rfl fun m x _=>⟨cL,RiteM.wr m,rfl,[],rfl,fun _=>rfl,by rw [OP];exact vV _ _⟩
end
end Go.Proofs.YtadmfaohjnjajaaGreatDoor
