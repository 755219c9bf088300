import Derived.Test.YtcpdipfepeccgaaGreatDoorSt
import Derived.Test.YtcpdipfepeccgaaGreatDoorSxM
import Derived.Deep.Slices
import Derived.LaidSub
set_option linter.unusedVariables false
set_option linter.unusedSimpArgs false
set_option maxHeartbeats 4000000
namespace Go.Proofs.YtcpdipfepeccgaaGreatDoor
open Go Go.Sx Go.Proofs Go.ChangeShapes Go.WideShapes
set_option maxRecDepth 100000
section
variable {P:Program} {W:World}
theorem G7 {ti tp te ts:TypeId} (S:SentTy P ti tp te ts):∀{l:List (String×List UInt8)} {gs:List Nat} {ps:List MemPlace},
 l.map (fun x=>P.globalNamed x.1)=gs.map some->(∀g∈gs,(P.globals[g]?).map (·.type)=some ti)->gs.Nodup ->
 DataW.LaidVars P W (l.map fun x=>(x.1,sent x.2)) ps->ps.Nodup->(∀b off,MemPlace.cell b off∈ps->(∃c t,W.heap[b]?=some (.cells c t (0,0))) /\ ∀u v,W.cell? ⟨b,off,none⟩=some (.iface u v)->Value.okWide P W .any 0 u v) ->
 ∃ad:Nat->Addr,(∀i∈gs,∀j∈gs,i≠j->ad i≠ad j) /\ ∀i∈gs,MemPlace.cell (ad i).block (ad i).off∈ps /\ (∃s,W.cell? (ad i)=some (.string s)) /\ ∃t,W.heap[i]?=some (.cells #[.iface tp (.pointer (some (ad i)))] t (0,0))
 | [],[],_,_,_,_,_,_,_=>⟨fun _=>default,(fun i h=>by cases h),fun i h=>by cases h⟩
 | [],_::_,_,h,_,_,_,_,_=>by simp at h
 | _::_,[],_,h,_,_,_,_,_=>by simp at h
 | (n,text)::l,g::gs,ps,hn,ht,hgn,h,hnd,hr=>by
   simp only [List.map_cons,List.cons.injEq] at hn
   obtain⟨g',t,cs,fuel,p,q,hg,hty,hv,hd,hq,rfl⟩:=h
   obtain rfl:=Option.some.inj (hn.1.symm.trans hg)
   obtain rfl:=Option.some.inj ((ht g (List.mem_cons_self ..)).symm.trans hty)
   obtain⟨l0⟩:=cs
   obtain⟨ms,hi⟩:=S.hi
   obtain⟨f,he,hft,hfo⟩:=S.he
   have ok0:∀u v,l0=[.iface u v]->Value.okWide P W .any 0 u v:=fun u v e=>by
    subst e
    exact(hr g 0 (by simp [MemPlace.row])).2 u v (by simpa using World.var?_cell hg hv 0)
   obtain⟨a,s,rfl,hc0,hs0,hz0,rfl⟩:=errorString_of_trod hi S.row S.hp he hft hfo S.hs S.hc S.hcs hd ok0
   have hnd':=List.nodup_append.1 hnd
   have hgn':=List.nodup_cons.1 hgn
   obtain⟨ad,h1,h2⟩:=G7 S hn.2 (fun x hx=>ht x (List.mem_cons_of_mem _ hx)) hgn'.2 hq hnd'.2.1 (fun b off hb=>hr b off (List.mem_append_right _ hb))
   have self:MemPlace.cell a.block a.off∈MemPlace.row ⟨g,0,none⟩ 1++MemPlace.row a 1:=List.mem_append_right _ (by simp [MemPlace.row])
   have isg:∀i∈gs,i≠g:=fun i hi e=>hgn'.1 (e▸hi)
   have apart:∀i∈gs,ad i≠a:=fun i hi e=>by
    have:=(h2 i hi).1
    rw [e] at this
    exact hnd'.2.2 _ self _ this rfl
   refine⟨fun i=>if i=g then a else ad i,fun i hi j hj hij=>?_,fun i hi=>?_⟩
   ·rcases List.mem_cons.1 hi with rfl | hi2
    ·rcases List.mem_cons.1 hj with rfl | hj
     ·exact absurd rfl hij
     ·simp only [if_pos rfl,if_neg (isg j hj)];exact fun e=>apart j hj e.symm
    ·rcases List.mem_cons.1 hj with ej | hj
     ·subst ej
      simp only [if_pos rfl,if_neg (isg i hi2)];exact apart i hi2
     ·simp only [if_neg (isg i hi2),if_neg (isg j hj)];exact h1 i hi2 j hj hij
   ·rcases List.mem_cons.1 hi with rfl | hi
    ·simp only [if_pos rfl]
     refine⟨List.mem_append_left _ self,⟨s,hc0⟩,?_⟩
     obtain⟨c,t,hb⟩:=(hr i 0 (by simp [MemPlace.row])).1
     refine⟨t,?_⟩
     simp only [World.var?,hg,Option.bind_some,hb] at hv
     rw [hb]
     simpa using hv
    ·simp only [if_neg (isg i hi)]
     obtain⟨g1,g2,g3⟩:=h2 i hi
     exact⟨List.mem_append_right _ g1,g2,g3⟩
end
def ll (W:World) (ad:Nat->Addr):Sg:=⟨ad,fun k=>if k < 8 then none else W.heap[k]?⟩
theorem G5 (W:World) (ad:Nat->Addr):(ll W ad).has W:=fun k o h=>by
 unfold ll at h
 simp only at h
 split at h
 ·cases h
 ·exact h
theorem GW {W:World} {r:Reach} {b0:Nat} {t e:TypeId} {v:Value} (ht:Tryz.prog.underlying t=some (.slice e)) (hval:Value.okWide Tryz.prog W r b0 t v):v=.slice none 0 0 \/ ∃b o len cap,v=.slice (some ⟨b,o,none⟩) len cap /\ len<=cap:=by
 unfold Value.okWide at hval
 rw [ht] at hval
 unfold Cell.okWide at hval
 rw [ht] at hval
 dsimp only at hval
 unfold Cell.ok at hval
 rw [ht] at hval
 cases v with
 | slice a len cap =>
   cases a with
   | none =>
     cases len with
     | zero =>
       cases cap with
       | zero=>exact .inl rfl
       | succ=>exact hval.elim
     | succ=>exact hval.elim
   | some a =>
     obtain⟨b,o,s⟩:=a
     obtain⟨h1,_,_,h2,_⟩:=hval
     simp only at h2
     subst h2
     exact .inr ⟨b,o,len,cap,rfl,h1⟩
 | _=>exact hval.elim
theorem v7 {α:Type} [Inhabited α] (K:AK α) {H:Type} {enc:TypeId×Value->H} {W:World} {base:Nat} {sp:Nat->Bool} {held:Bool} {t e:TypeId} {ks:List FK} (ht:Tryz.prog.underlying t=some (.slice e)) (hc:Tryz.prog.cellsOf e=K.es) (hfl:g8 Tryz.prog 12 e=some ks) (hks:ks.length=K.es)
 (hdec:∀cs,ct ks cs->∃a:α,cs=ae Nm.id (K.enc a)) (hno:∀(a:α) (j:Nat) (t:TypeId) (x:Value),(ae Nm.id (K.enc a))[j]?≠some (.iface t x)) {r:Reach} {b0:Nat} {v:Value} {d:DataW H} {ps:List MemPlace}
 (hval:Value.okWide Tryz.prog W r b0 t v) (hd:DataW.Trod enc Tryz.prog W base sp held t v d ps) {ad:Nat->Addr} (hs:∀k,k < 8->∃te ty p z,W.heap[k]?=some (.cells #[.iface te p] ty z)) :
 ∃(lc:Sx.Loc) (l:List α),v=aG lc 0 l.length K.es /\ Jc (ll W ad) K l lc (fun _=>False):=by
 obtain⟨fu,hfu⟩:=hd
 rcases GW ht hval with rfl | ⟨b,o,len,cap,rfl,hlc⟩
 ·exact⟨⟨0,0,0⟩,[],rfl,fun k h=>h,fun w _=>⟨Nat.zero_le _,fun j v h=>(by simp [AK.vals] at h)⟩⟩
 ·rcases Deep.open_slice ht hfu with⟨h0,_⟩ | ⟨a,len',cap',m,n,D,Pl,hcs,hb,hl,hm,hmm,hx,hel⟩
  ·cases h0
  ·cases hcs
   have each:∀i,i < len->∃x:α,∀k,k < K.es->W.cell? ((⟨b,o,none⟩:Addr).add (i * K.es+k))=(ae Nm.id (K.enc x))[k]?:=fun i hi=>by
    obtain⟨cs',h1,h2⟩:=hel i (by rw [hmm];split<;>omega)
    have hf:=mb 12 _ _ ks _ _ hfl h2 (by rw [hc,hks])
    obtain⟨x,hx⟩:=hdec cs' hf
    obtain⟨_,_,h5⟩:=World.cells?_some h1
    refine⟨x,fun k hk=>?_⟩
    have:=h5 k (by rw [hc];exact hk)
    rw [Deep.add_add,hc] at this
    rw [this,hx]
   obtain⟨f,hf⟩:=Deep.choose_lt each
   refine⟨⟨b,o,cap+1⟩,(List.range len).map f,?_,fun k h=>h,fun w hw=>⟨?_,fun j v hj=>?_⟩⟩
   ·rw [vsDen_eq,if_neg (fun h=>by cases h.2)]
    simp
   ·rw [AK.vals_len]
    simp only [List.length_map,List.length_range,Nat.add_sub_cancel]
    exact Nat.mul_le_mul_right _ hlc
   ·have hjl:j < len * K.es:=by
     have:=(List.getElem?_eq_some_iff.1 hj).1
     rw [AK.vals_len] at this
     simpa using this
    have hpos:0 < K.es:=Nat.pos_of_ne_zero fun h=>by rw [h] at hjl;omega
    have hi:j / K.es < len:=(Nat.div_lt_iff_lt_mul hpos).2 hjl
    have hk:j % K.es < K.es:=Nat.mod_lt _ hpos
    have ej:j=(j / K.es) * K.es+j % K.es:=by rw [Nat.mul_comm];exact(Nat.div_add_mod _ _).symm
    have hg:=K.vals_get ((List.range len).map f) (j / K.es) (j % K.es) (by simpa using hi) hk
    rw [<- ej,hj] at hg
    have hfi:((List.range len).map f).getD (j / K.es) K.dflt=f (j / K.es):=by simp [List.getD,hi]
    rw [hfi] at hg
    have hW:=hf _ hi _ hk
    rw [<- ej,<- hg] at hW
    have hb3:¬b < 8:=fun h3=>by
     obtain⟨te,ty,p,z,hh⟩:=hs b h3
     have eb:((⟨b,o,none⟩:Addr).add j).block=b:=by unfold Addr.add;split<;>rfl
     unfold World.cell? at hW
     rw [eb,hh] at hW
     simp only at hW
     split at hW
     ·cases hW
     ·rcases Nat.eq_zero_or_pos ((⟨b,o,none⟩:Addr).add j).off with h0 | h0
      ·rw [h0] at hW
       have hW:some (Value.iface te p)=some v:=hW
       cases hW
       exact hno _ _ _ _ hg.symm
      ·rw [Array.getElem?_eq_none (show 1<=_ from h0)] at hW
       cases hW
    have hR:(ll W ad).R b=W.heap[b]?:=if_neg hb3
    have eb:((⟨b,o,none⟩:Addr).add j).block=b:=by unfold Addr.add;split<;>rfl
    show w.cell? ((⟨b,o,none⟩:Addr).add j)=some v
    cases hh:W.heap[b]? with
    | none =>
      unfold World.cell? at hW
      rw [eb,hh] at hW
      cases hW
    | some ob =>
      have:=hw b ob (by rw [hR,hh])
      rw [<- hW]
      unfold World.cell?
      rw [eb,hh,this]
def nmL (L:List (Sx.Loc×AV)):Nm:=⟨fun n=>if n < 8 then⟨n,0,0⟩ else(L.map Prod.fst).getD (n - 8) ⟨0,0,0⟩,fun n k=>n < 8 /\ k=n⟩
theorem zM (L:List (Sx.Loc×AV)) {n:Nat} (h:n < 8):(nmL L).L n=⟨n,0,0⟩:=if_pos h
theorem OW {σ:Sg} {lp:Lp} {f:FuncId} {args:List SV} {L:List (Sx.Loc×AV)} {v:SV} {l':List AV} {W:World} (h:Ctr Tryz.prog (NVl lp σ) f args (hpO allM (L.map Prod.snd)) v (hpO allM l')) (hv:∀ρ:Nm,v.den ρ=.bool true)
 (hq:∀x∈L,∀w,σ.has w->(F6 σ).q x.2 x.1 (fun _=>False) w) (hs:σ.has W) (hR:∀k,k < 8->σ.R k=none)
 (hg:∀n,n < 8->W.heap[n]?=some (.cells #[.iface 252 (.pointer (some (σ n)))] 30 (0,0))) :
 Calls Tryz.prog f (args.map (SV.den (nmL L))).toArray W fun e w'=>e=.returned (.bool true) /\ Quiet W w':=by
 have hlin:∀n,allM[n]?=some true↔n < 8:=fun n=>by
  unfold allM
  rw [List.getElem?_replicate]
  by_cases h:n < 8<;>simp [h]
 have get:∀n c,hget (hpO allM (L.map Prod.snd)) n=some c->(n < 8 /\ c=.abs (.sent n)) \/ ∃x,L[n - 8]?=some x /\ 8<=n /\ c=.abs x.2:=fun n c h=>by
  unfold hpO at h
  rw [ax,cC] at h
  split at h
  ·obtain⟨h1,h2⟩:=(ga _ _ _ _ _).1 h
   exact .inl ⟨(hlin n).1 h1,by rw [h2,Nat.zero_add]⟩
  ·rename_i hn
   obtain⟨a,h1,h2⟩:=(aW _ _ _).1 h
   rw [List.getElem?_map,Option.map_eq_some_iff] at h1
   obtain⟨x,h1,h3⟩:=h1
   exact .inr ⟨x,h1,Nat.le_of_not_lt hn,by rw [h2,h3]⟩
 have fp:∀n c k,hget (hpO allM (L.map Prod.snd)) n=some c->c.fp (nmL L) n k->n < 8 /\ k=n:=fun n c k h hk=>by
  rcases get n c h with⟨h1,rfl⟩ | ⟨x,h1,h2,rfl⟩
  ·have hk:n < 8 /\ k=n:=hk
   exact⟨h1,hk.2⟩
  ·have hk:n < 8 /\ k=n:=hk
   omega
 have hO:Own (NVl lp σ) (nmL L) (hpO allM (L.map Prod.snd)) W:=by
  refine⟨⟨fun n c h=>?_,fun n m c d hnm h h' k hk hk'=>?_,fun g hg'=>?_⟩,hs,fun n c k h hk=>?_⟩
  ·rcases get n c h with⟨h1,rfl⟩ | ⟨x,h1,h2,rfl⟩
   ·have e:(nmL L).L n=⟨n,0,0⟩:=zM L (by omega)
    refine(kS (N:=NVl lp σ) (σ:=σ) rfl rfl _ _ _).2 ⟨fun k=>?_,?_⟩
    ·show (n < 8 /\ k=n)↔k=((nmL L).L n).b
     rw [e]
     exact⟨fun hh=>hh.2,fun hh=>⟨by omega,hh⟩⟩
    ·rw [e];exact hg n h1
   ·have hm:x∈L:=List.mem_of_getElem? h1
    have e:(nmL L).L n=x.1:=by
     show (if n < 8 then _ else _)=_
     rw [if_neg (by omega)]
     simp [List.getD,h1]
    have eS:(nmL L).S n=fun _=>False:=funext fun k=>propext ⟨fun hh=>by have hh:n < 8 /\ k=n:=hh;omega,fun hh=>hh.elim⟩
    show (F6 σ).q x.2 ((nmL L).L n) ((nmL L).S n) W
    rw [e,eS]
    exact hq x hm W hs
  ·obtain⟨a1,a2⟩:=fp n c k h hk
   obtain⟨b1,b2⟩:=fp m d k h' hk'
   exact hnm (a2.symm.trans b2)
  ·show ((nmL L).L g).b=g
   rw [zM L hg']
  ·obtain⟨a1,a2⟩:=fp n c k h hk
   subst a2
   exact hR k a1
 refine(h.2.2 _ W hO).mono ?_
 rintro e w' ⟨ρ',rfl,hO',hE⟩
 refine⟨by rw [hv ρ'],⟨fun k hk=>?_,hE.os,hE.tape,hE.output,hE.size⟩⟩
 by_cases e0:k < 8
 ·have hk':hget (hpO allM l') k=some (.abs (.sent k)):=by
   unfold hpO
   rw [ax,cC,if_pos (by rw [show allM.length=8 from List.length_replicate];exact e0)]
   exact(ga _ _ _ _ _).2 ⟨(hlin k).2 e0,by rw [Nat.zero_add]⟩
  have hq':=(kS (N:=NVl lp σ) (σ:=σ) rfl rfl _ _ _).1 (hO'.q k _ hk')
  have hr0:ρ' k=k:=hO'.glb k (by show k < 8;omega)
  have this:w'.heap[ρ' k]?=some (.cells #[.iface 252 (.pointer (some (σ k)))] 30 (0,0)):=hq'.2
  rw [hr0] at this
  rw [this,hg k e0]
 ·refine hE.frame k hk fun n c h hf=>?_
  obtain⟨a1,a2⟩:=fp n c k h hf
  omega
theorem P4 (cs:List Value) (h:ct [.int .i64,.int .i64,.int .i64,.int .i64] cs):∃a:O,cs=ae Nm.id (kops.enc a):=by
 match cs,h with
 | [.int _ a,.int _ b,.int _ c,.int _ d],h =>
   obtain⟨rfl,rfl,rfl,rfl,_⟩:=h
   exact⟨⟨a,b,c,d⟩,rfl⟩
theorem Sc (a:O) (j:Nat) (t:TypeId) (x:Value):(ae Nm.id (kops.enc a))[j]?≠some (.iface t x):=fun h=>by
 rcases j with _ | _ | _ | _ | j<;>cases h
theorem P5 (cs:List Value) (h:ct [.int .i64] cs):∃a:N1,cs=ae Nm.id (kints.enc a):=by
 match cs,h with
 | [.int _ a],h =>
   obtain⟨rfl,_⟩:=h
   exact⟨⟨a⟩,rfl⟩
theorem Sd (a:N1) (j:Nat) (t:TypeId) (x:Value):(ae Nm.id (kints.enc a))[j]?≠some (.iface t x):=fun h=>by
 rcases j with _ | j<;>cases h
theorem xt (lay:Cfg):(dU lay).Good:=by
 have h:∀z:Int,0<=IntKind.wrap .u64 z:=fun z=>by
  unfold IntKind.wrap
  simp only [IntKind.bits,IntKind.signed,Bool.false_and,Bool.false_eq_true,if_false]
  exact Int.emod_nonneg _ (by decide)
 have g:∀(z d:Int),0 < d->1<=1+Int.tmod (IntKind.wrap .u64 z) d /\ 1+Int.tmod (IntKind.wrap .u64 z) d<=d:=fun z d hd=>by
  have h1:0<=Int.tmod (IntKind.wrap .u64 z) d:=Int.tmod_nonneg _ (h z)
  have h2:Int.tmod (IntKind.wrap .u64 z) d < d:=Int.tmod_lt_of_pos _ hd
  omega
 exact⟨g lay.s 5 (by decide),g lay.e 5 (by decide),g lay.n 6 (by decide),⟨(g lay.sl 90 (by decide)).1,Int.le_trans (g lay.sl 90 (by decide)).2 (by decide)⟩,⟨(g lay.no 9 (by decide)).1,Int.le_trans (g lay.no 9 (by decide)).2 (by decide)⟩⟩
variable {σ:Sg}
theorem O6 {bs:List Bt} (h:bs.length<=100000):HY bs=true:=decide_eq_true ⟨rfl,Nat.le_trans (show AV.len (.beats bs)<=100000 from h) (by decide)⟩
theorem EL {W:World} {ad:Nat->Addr} (hg:∀n,n < 8->W.heap[n]?=some (.cells #[.iface 252 (.pointer (some (ad n)))] 30 (0,0))) {a:Addr} (hs:∃s,W.cell? a=some (.string s)):¬a.block < 8:=fun h3=>by
 obtain⟨s,hs⟩:=hs
 have hh:=hg _ h3
 unfold World.cell? at hs
 rw [hh] at hs
 simp only at hs
 split at hs
 ·cases hs
 ·rcases Nat.eq_zero_or_pos a.off with h0 | h0
  ·rw [h0] at hs
   have hs:some (Value.iface 252 (.pointer (some (ad a.block))))=some (Value.string s):=hs
   cases hs
  ·rw [Array.getElem?_eq_none (show 1<=_ from h0)] at hs;cases hs
theorem HT {W:World} {ad:Nat->Addr} {ps:List MemPlace} (hg:∀n,n < 8->W.heap[n]?=some (.cells #[.iface 252 (.pointer (some (ad n)))] 30 (0,0))) {a b:Addr} (h1:MemPlace.cell a.block a.off∈ps) (h2:MemPlace.cell b.block b.off∈ps)
 (s1:∃s,W.cell? a=some (.string s)) (s2:∃s,W.cell? b=some (.string s)) (hne:a≠b) (hr:∀b off,MemPlace.cell b off∈ps->∃c t,W.heap[b]?=some (.cells c t (0,0))):yM (ll W ad) a b:=by
 have hR:∀c:Addr,(∃s,W.cell? c=some (.string s))->(ll W ad).R c.block=W.heap[c.block]?:=fun c hc=>if_neg (EL hg hc)
 exact⟨hne,by rw [hR a s1];exact hr _ _ h1,by rw [hR b s2];exact hr _ _ h2⟩
end Go.Proofs.YtcpdipfepeccgaaGreatDoor

namespace Go.Proofs.YtcpdipfepeccgaaGreatDoor
open Go Go.Sx Go.Proofs Go.ChangeShapes Go.WideShapes
set_option maxRecDepth 100000
set_option maxHeartbeats 0
variable {σ:Sg}
theorem Mt (lay:Cfg):QuInv (dU lay).sl.toNat 0 (dU lay).n t0 (dr (dU lay)):=by
 have hg:=xt lay
 obtain⟨_,_,w,_,ht,hb,hr⟩:=wx hg
 have hn:=JI lay
 refine⟨w,by rw [ht];omega,hb,fun k hk=>?_,fun k hk=>?_⟩
 ·obtain⟨a,b,c⟩:=hr _ (cG (d:=aA) hk)
  have hk6:k < 6:=by have:=w.th;omega
  refine⟨by unfold bf;rw [b];rfl,?_,by rw [c];exact Int.le_refl _,by rw [c];exact Int.le_refl _⟩
  rw [a]
  rcases (by omega:k=0 \/ k=1 \/ k=2 \/ k=3 \/ k=4 \/ k=5) with rfl | rfl | rfl | rfl | rfl | rfl<;>rfl
 ·rcases (by omega:k=0 \/ k=1 \/ k=2 \/ k=3 \/ k=4 \/ k=5) with rfl | rfl | rfl | rfl | rfl | rfl<;>exact⟨rfl,Nat.le_refl _⟩
abbrev xB (lay:Cfg) (ops:List O) (ts:List N1):RfI:=xOf lay ops ops.length ts ts.length
abbrev nB (lay:Cfg):Nat:=(dU lay).sl.toNat
noncomputable def e9B (lay:Cfg) (ops:List O) (ts:List N1):M9:=go9 (xB lay ops ts) ops.length ⟨0,dr (dU lay),t0⟩
noncomputable def lX (lay:Cfg) (ops:List O) (ts:List N1):M15:=Fa (xB lay ops ts) (min ts.length 2000) ⟨0,0,(e9B lay ops ts).p⟩
noncomputable def eB (lay:Cfg) (ops:List O) (ts:List N1) (u:S6 Bool) (a:S6 Int):BtE where
 e9:=e9B lay ops ts
 e15:=lX lay ops ts
 u:=u
 a:=a
 c9:=ok9 (xB lay ops ts) (nB lay) ⟨0,dr (dU lay),t0⟩
 c15:=yc (xB lay ops ts) (nB lay) (e9B lay ops ts).t ⟨0,0,(e9B lay ops ts).p⟩
 c26:=BZ (xB lay ops ts) (e9B lay ops ts).t (AV.len (.beats (lX lay ops ts).p.beats)) (lX lay ops ts).p.beats u a ⟨0,u0,a0⟩
 c37:=H5 (xB lay ops ts) (lX lay ops ts).p (e9B lay ops ts).t u a 0
theorem Uh (lay:Cfg) (ops:List O) (ts:List N1) (u:S6 Bool) (a:S6 Int):bS Tryz.prog (NVl (NT (xB lay ops ts) (dr (dU lay)) (eB lay ops ts u a)) σ):=by
 have add {lp:Lp} {id:Nat} {g:Sx.St AV->TB} {b:Code} (h:bS Tryz.prog (NVl lp σ)) (hb:∀y∈aT (bC Tryz.f4),y.1=id->y.2=b) (hg:b7 Tryz.prog (NV σ) 220 b g):bS Tryz.prog (NVl (dS fBt id g lp) σ) :=
  fe h (fn:=Tryz.f4) (by kernel_rfl) (c:=bC Tryz.f4) (by kernel_rfl) (nt:=220) (by kernel_rfl) hb (nU (N:=NV σ) (N':=NVl lp σ) rfl rfl hg)
 exact add (b:=B37) (add (b:=B26) (add (b:=B15) (add (b:=B9) fL (aR (by kernel_rfl)) (PU (σ:=σ) (N':=NV σ) rfl rfl (xB lay ops ts) (dr (dU lay)) (nB lay))) (aR (by kernel_rfl)) (LX (σ:=σ) (N':=NV σ) rfl rfl (xB lay ops ts) (e9B lay ops ts).p (e9B lay ops ts).t (nB lay))) (aR (by kernel_rfl)) (LW (σ:=σ) (N':=NV σ) rfl rfl (xB lay ops ts) (lX lay ops ts).p (e9B lay ops ts).t (AV.len (.beats (lX lay ops ts).p.beats)) (lX lay ops ts).p.beats u a)) (aR (by kernel_rfl)) (LV (σ:=σ) (N':=NV σ) rfl rfl (xB lay ops ts) (lX lay ops ts).p (e9B lay ops ts).t (lX lay ops ts).p.beats u a)
theorem Qa (lay:Cfg) (ops:List O) (ts:List N1):∃u a v,(Hf σ rfM lay ops ops.length ts ts.length (eB lay ops ts u a)).val=some (v,hpO allM [.opsA ops,.intsA ts]) /\ ∀ρ:Nm,v.den ρ=.bool true:=by
 have hok:HX (dU lay)=true:=by
  obtain⟨a,b,_⟩:=wx (xt lay)
  exact cQ ⟨a,b⟩
 by_cases h40:ops.length<=40
 ·have o9:ok9 (xB lay ops ts) (nB lay) ⟨0,dr (dU lay),t0⟩:=⟨Nat.zero_le _,rfl,h40,Mt lay⟩
  obtain⟨_,⟨_,_,_,q9⟩,e9⟩:=I5 (x:=xB lay ops ts) (N:=nB lay) (r:=ops.length) (m:=⟨0,dr (dU lay),t0⟩) (by show 0+ops.length=ops.length;omega) o9
  have q9:QuInv (nB lay) (e9B lay ops ts).i (dU lay).n (e9B lay ops ts).t (e9B lay ops ts).p:=q9
  have e9:(e9B lay ops ts).i=ops.length:=e9
  have o15:yc (xB lay ops ts) (nB lay) (e9B lay ops ts).t ⟨0,0,(e9B lay ops ts).p⟩:=⟨Nat.zero_le _,rfl,by rw [q9.bt];rfl,Nat.le_refl _,u0,a0,q9.bti⟩
  obtain⟨_,o⟩:=Cg (x:=xB lay ops ts) (N:=nB lay) (r:=min ts.length 2000) (m:=⟨0,0,(e9B lay ops ts).p⟩) (by show 0+_=min ts.length 2000;omega) o15
  have o:yc (xB lay ops ts) (nB lay) (e9B lay ops ts).t (lX lay ops ts):=o
  obtain⟨f1,_,f3,f4,u,a,f5⟩:=o
  have htd:Ov (e9B lay ops ts).t:=fun k hk=>by
   obtain⟨a,b⟩:=q9.tl k hk
   exact⟨a,by omega⟩
  have hl:(lX lay ops ts).p.beats.length<=2000:=by omega
  have o26:BZ (xB lay ops ts) (e9B lay ops ts).t (AV.len (.beats (lX lay ops ts).p.beats)) (lX lay ops ts).p.beats u a ⟨0,u0,a0⟩:=⟨Nat.zero_le _,rfl,hl,htd,f5.rep⟩
  have o37:H5 (xB lay ops ts) (lX lay ops ts).p (e9B lay ops ts).t u a 0:=⟨by have:=(xB lay ops ts).hn;omega,htd,_,_,f5⟩
  have hq:((((eB lay ops ts u a).q:Nat):Int) != (((eB lay ops ts u a).e15.made:Nat):Int))=false:=by
   show ((((lX lay ops ts).p.beats.length:Nat):Int) != (((lX lay ops ts).made:Nat):Int))=false
   rw [f3];simp
  refine⟨u,a,_,(congrArg T.val (btR ..)).trans ((nv hok).trans ((ivF (decide_eq_false (by omega))).trans ((nv (cQ ⟨⟨⟨rfl,rfl,rfl,rfl,rfl,rfl,trivial⟩,rfl⟩,o9⟩)).trans ((nv (cQ ⟨⟨⟨rfl,rfl,rfl,rfl,rfl,rfl,trivial⟩,rfl⟩,o15⟩)).trans ((nv (decide_eq_true f5.wf.th)).trans ((nv (O6 (by show (lX lay ops ts).p.beats.length<=_;omega))).trans ((ivF hq).trans
   ((nv (cQ ⟨⟨⟨rfl,rfl,rfl,rfl,rfl,rfl,rfl,trivial⟩,rfl⟩,o26⟩)).trans ((nv (cQ ⟨⟨⟨rfl,rfl,rfl,rfl,rfl,rfl,trivial⟩,rfl⟩,o37⟩)).trans rfl))))))))),fun ρ=>rfl⟩
 ·exact⟨u0,a0,_,(congrArg T.val (btR ..)).trans ((nv hok).trans ((ivT (decide_eq_true (by omega))).trans rfl)),fun ρ=>rfl⟩
theorem oW (x0 x1 x2 x3 x4:Int) (lc1:Sx.Loc) (l1:List O) (lc2:Sx.Loc) (l2:List N1) (ad:Nat->Addr) (W:World)
 (hq1:Jc (ll W ad) kops l1 lc1 (fun _=>False)) (hq2:Jc (ll W ad) kints l2 lc2 (fun _=>False))
 (hg:∀n,n < 8->W.heap[n]?=some (.cells #[.iface 252 (.pointer (some (ad n)))] 30 (0,0))) (ho:yM (ll W ad) (ad ErA) (ad 0)) :
 Calls Tryz.prog 4 #[.agg #[.int .i64 x0,.int .i64 x1,.int .i64 x2,.int .i64 x3,.int .i64 x4],aG lc1 0 l1.length 4,aG lc2 0 l2.length 1] W fun e w'=>e=.returned (.bool true) /\ Quiet W w':=by
 obtain⟨u,a,v,hv,hd⟩:=Qa (σ:=ll W ad) ⟨x0,x1,x2,x3,x4⟩ l1 l2
 unfold Hf at hv
 rw [Q.lv_eq] at hv
 have hC:=(Fc (σ:=ll W ad) (Uh (σ:=ll W ad) ⟨x0,x1,x2,x3,x4⟩ l1 l2 u a) (ny Gm) 24 4).ctr hv (eP.1 (by kernel_rfl)) ⟨cn.1 (by kernel_rfl),trivial⟩
 have hJ:=OW (L:=[(lc1,.opsA l1),(lc2,.intsA l2)]) (W:=W) (l':=[.opsA l1,.intsA l2]) hC hd (fun x hx w hw=>?_) (G5 W ad) (fun k hk=>if_pos hk) hg
 ·exact hJ
 ·simp only [List.mem_cons,List.not_mem_nil,or_false] at hx
  rcases hx with rfl | rfl
  ·exact(kS (N:=NV (ll W ad)) (σ:=ll W ad) rfl rfl _ _ _).2 hq1
  ·exact(kS (N:=NV (ll W ad)) (σ:=ll W ad) rfl rfl _ _ _).2 hq2
end Go.Proofs.YtcpdipfepeccgaaGreatDoor
