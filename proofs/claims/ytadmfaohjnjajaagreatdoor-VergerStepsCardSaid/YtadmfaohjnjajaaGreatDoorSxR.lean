import Derived.Test.YtadmfaohjnjajaaGreatDoorSxM
import Derived.WideKeyArgs
import Derived.ChangeSame
import Derived.RowKit
import Derived.RowKit3
import Derived.LaidLaws
import Derived.Deep.DeepHandedRow
import Derived.SevenTiedAt
import Derived.JoinedCond
import Derived.OpenShut
import Derived.Deep.Slices
import Derived.Test.YtadmfaohjnjajaaGreatDoorRd
import Derived.LaidSub
import Derived.Test.YtadmfaohjnjajaaGreatDoorCg
set_option linter.unusedVariables false
set_option linter.unusedSimpArgs false
set_option maxHeartbeats 0
set_option maxRecDepth 100000
namespace Go.Sx
section
open Go.ChangeShapes Go.WideShapes Go.RowKit
theorem vh.wB {W W':World} (h:vh W W') {p:MemPlace} (hp:p.block < W.heap.size):W.sameAt W' p:=by
 cases p with
 | cell b off =>
   have:=h.block b hp
   simp only [World.sameAt,World.cell?,this]
 | map b=>exact h.block b hp
theorem vh.lP {W W':World} (h:vh W W') (a:Addr) (ha:a.block < W.heap.size):W'.frozen? a=W.frozen? a:=by
 simp only [World.frozen?,h.block a.block ha]
theorem vh.aO {W W':World} (h:vh W W') (may:MemPlace->Prop):W.keptBut W' may:=by
 refine⟨h.os,h.output,fun i hi=>?_⟩
 rw [h.block i hi]
 cases hx:W.heap[i]? with
 | none=>trivial
 | some o=>cases o<;>simp
section
variable {H:Type} {bx:TypeId×Value->H} {P:Program}
theorem wO (hl:laidOutB P=true) {W W':World} {sp':Nat->Bool}:∀{ts:List TypeId} {vs:List Value} {ds:List (DataW H)} {ps:List MemPlace},(∀t∈ts,P.readableRec t=true /\ t < P.types.size) ->
 DataW.TrodAll bx P W 0 (fun _=>true) true ts vs ds ps->(∀p∈ps,W.sameAt W' p)->(∀p∈ps,sp' p.block=true)->DataW.TrodAll bx P W' 0 sp' true ts vs ds ps
 | [],[],[],_,_,h,_,_=>h
 | t::ts,v::vs,d::ds,ps,ht,h,hs,hsp=>by
   obtain⟨p,q,h1,h2,rfl⟩:=h
   have:=ht t (abw ..)
   refine⟨p,q,WideElems.Trod_stays hl this.1 this.2 h1 (fun x hx=>hs x (List.mem_append_left _ hx)) (fun x hx=>hsp x (List.mem_append_left _ hx)),?_,rfl⟩
   exact wO hl (fun x hx=>ht x (aby _ hx)) h2 (fun x hx=>hs x (List.mem_append_right _ hx)) (fun x hx=>hsp x (List.mem_append_right _ hx))
 | [],[],_::_,_,_,h,_,_=>by simp [DataW.TrodAll] at h
 | [],_::_,_,_,_,h,_,_=>by simp [DataW.TrodAll] at h
 | _::_,[],_,_,_,h,_,_=>by simp [DataW.TrodAll] at h
 | _::_,_::_,[],_,_,h,_,_=>by simp [DataW.TrodAll] at h
theorem FU (hl:laidOutB P=true) {f:Func} {s:ChangeSpec} {apart fresh handsOn again:Bool} {W W':World} {args:Array Value} {ds gs:List (DataW H)} {before:List MemPlace} {tb:TypeId}
 (aea:s.vars=[]) (aqI:∀t∈f.params.toList,P.readableRec t=true /\ t < P.types.size) (abp:f.resultTypes=#[tb]) (htb:P.underlying tb=some .bool)
 (hW:DataW.Whole bx P f.params.toList s.vars apart W args.toList ds gs before)
 (alT:s.fn H ds={results:=[.lit (.bool true)],args:=ds}) (hq:vh W W') :
 s.post bx P f apart fresh handsOn again W args (.bool true) W':=by
 have hW':=hW
 obtain⟨p,q,hA,hV,rfl,hfz,iS⟩:=hW
 rw [aea] at hV
 obtain⟨rfl,rfl⟩:=trodVars_none hV
 have du:=hW'.lt
 simp only [aeJ] at hW' du hfz
 have Oi:s.fn H (ds++[])={results:=[.lit (.bool true)],args:=ds}:=by rw [aeJ];exact alT
 have oI:=ok_one (P:=P) (W':=W') (f:=f) (v:=.bool true) abp rfl (okWide_bool_mk htb true)
 have hold:∀p'∈p,(fun b=>decide (b < W.heap.size)) p'.block=true:=fun p' hp=>by simpa using du p' hp
 have bM:∀sp:Nat->Bool,(∀x∈p,sp x.block=true)->DataW.TrodAll bx P W' 0 sp true f.params.toList args.toList (s.fn H (ds++[])).args p:=by
  intro sp hsp
  rw [Oi]
  exact wO hl aqI hA (fun x hx=>hq.wB (du x hx)) hsp
 have aed:∀(b:Nat) (sp:Nat->Bool) (hd:Bool),DataW.TrodAll bx P W' b sp hd f.resultTypes.toList ((Value.bool true).resultList f.resultTypes.size) (s.fn H (ds++[])).results []:=by
  intro b sp hd
  rw [Oi,abp]
  exact⟨[],[],shut_bool htb _,rfl,rfl⟩
 have Xh:∀sp:Nat->Bool,DataW.TrodVars bx P W' sp s.vars (s.fn H (ds++[])).vars []:=by
  intro sp
  rw [Oi,aea]
  exact rfl
 refine⟨ds,[],p,[],p,[],hW',aed _ _ _,bM _ hold,Xh _,World.keptBut_mono (fun x hx=>⟨hx,Or.inr (by simpa using hx)⟩) (hq.aO _),fun _=>?_⟩
 obtain⟨_,_,_,_,_,hz,hn⟩:=hW'
 refine⟨oI,_,_,([]++p)++[],⟨[]++p,[],trodAll_append (bM _ (fun _ _=>rfl)) (aed _ _ _),Xh _,rfl,?_,?_⟩,?_⟩
 ·intro b off hp
  simp only [acM,aeJ] at hp
  rw [hq.lP _ (du _ hp)]
  exact hfz b off hp
 ·intro ha
  simpa using iS ha
 ·intro x hx _
  simpa using hx
end
structure Y7 (P:Program) (ti tp te ts:TypeId):Prop where
 hi:∃ms,P.underlying ti=some (.interface ms)
 row:∀u,P.typeName? 3 u=some "*errors.errorString" -> u=tp
 hp:P.underlying tp=some (.pointer te)
 he:∃f:Field,P.underlying te=some (.struct #[f]) /\ f.type=ts /\ f.offset=0
 hs:P.underlying ts=some .string
 hc:P.cellsOf te=1
 hcs:P.cellsOf ts=1
def gk (text:List UInt8):DataW Unit:=.iface "*errors.errorString" (.ptr (.agg [.lit (.string text)]))
end
section
open Go.ChangeShapes Go.WideShapes
def gx:List FK->List Value->Prop
 | [],[]=>True
 | .bool::ks,.bool _::vs=>gx ks vs
 | .int k::ks,.int k' _::vs=>k'=k /\ gx ks vs
 | .Nq::ks,.string _::vs=>gx ks vs
 | _,_=>False
theorem qN:∀{ks ks':List FK} {vs vs':List Value},gx ks vs->gx ks' vs'->gx (ks++ks') (vs++vs')
 | [],_,[],_,_,h'=>h'
 | [],_,_::_,_,h,_=>by simp [gx] at h
 | k::_,_,[],_,h,_=>by cases k<;>simp [gx] at h
 | k::ks,ks',v::vs,vs',h,h'=>by
   cases k<;>cases v<;>first | exact qN (ks:=ks) (vs:=vs) h h' | exact⟨h.1,qN (ks:=ks) (vs:=vs) h.2 h'⟩ | exact absurd h (by simp [gx])
theorem sN {P:Program} {t:TypeId} {n:Nat} (h:n6 P t=some n):P.cellsOf t=n:=by
 unfold n6 at h
 unfold Program.cellsOf
 cases hi:P.info? t with
 | none=>rw [hi] at h;cases h
 | some i=>rw [hi] at h;cases h;rfl
section
variable {H:Type} {bx:TypeId×Value->H} {P:Program} {w:World} {base:Nat} {sp:Nat->Bool} {held:Bool}
theorem uS {rec:TypeId->Option (List FK)} {cs:List Value} {n:Nat}
 (abq:∀t ks vs x,rec t=some ks->DataW.trod bx P w base sp held n t vs=some x->P.cellsOf t=ks.length->gx ks vs) :
 ∀(fs:List Field) (off:Nat) (ks:List FK),sG P rec fs off=some ks->(∀f∈fs,∃y,DataW.trod bx P w base sp held n f.type ((cs.drop f.offset).take (P.cellsOf f.type))=some y)->gx ks ((cs.drop off).take ks.length)
 | [],off,ks,h,_=>by
   simp only [sG,aaC] at h
   subst h
   simp [gx]
 | f::fs,off,ks,h,hf=>by
   simp only [sG] at h
   split at h
   ·cases h
   ·split at h
    ·cases h
    ·rename_i Om
     have Om:=(aC _ _).1 Om
     split at h
     ·cases h
     ·rename_i k1 hk1
      split at h
      ·cases h
      ·rename_i m hm
       split at h
       ·cases h
       ·rename_i hlen
        have hlen:=(aC _ _).1 hlen
        split at h
        ·rename_i l hl
         cases h
         have hc:=sN hm
         obtain⟨y,hy⟩:=hf f (abw ..)
         have h1:=abq f.type k1 _ y hk1 hy (hc.trans hlen)
         rw [Om,hc,hlen] at h1
         have h2:=uS abq fs (off+m) l hl (fun g hg=>hf g (aby _ hg))
         have e:(cs.drop off).take (k1++l).length=(cs.drop off).take k1.length++(cs.drop (off+m)).take l.length:=by
          rw [abl,List.take_add,List.drop_drop,hlen]
         rw [e]
         exact qN h1 h2
        ·cases h
theorem vt:∀(d n:Nat) (t:TypeId) (ks:List FK) (cs:List Value) (x:DataW H×List MemPlace),oR P d t=some ks->DataW.trod bx P w base sp held n t cs=some x->P.cellsOf t=ks.length->gx ks cs
 | 0,_,_,_,_,_,h,_,_=>by simp [oR] at h
 | d+1,n,t,ks,cs,x,h,ht,hc=>by
   simp only [oR] at h
   split at h
   ·rename_i hu
    cases h
    obtain⟨b,rfl,_⟩:=DataW.trod_bool hu ht
    simp [gx]
   ·rename_i k hu
    cases h
    obtain⟨m,rfl,_⟩:=DataW.trod_int hu ht
    simp [gx]
   ·rename_i hu
    cases h
    obtain⟨m,rfl,_⟩:=DataW.trod_string hu ht
    simp [gx]
   ·rename_i fs hu
    split at h
    ·cases h
    ·obtain⟨xs,m,rfl,_,hl,hxl,hx⟩:=DataW.trod_struct hu ht
     have:=uS (H:=H) (bx:=bx) (w:=w) (base:=base) (sp:=sp) (held:=held) (n:=m) (cs:=cs) (fun t ks vs x h1 h2 h3=>vt d m t ks vs x h1 h2 h3) fs.toList 0 ks h (fun f hf=>by
      obtain⟨i,hi⟩:=aew.1 hf
      have hi':fs[i]?=some f:=by simpa using hi
      have du:i < xs.length:=by rw [hxl];exact(ad0.1 hi').1
      exact⟨xs[i],by rw [hx i f hi',abj du]⟩)
     rw [List.drop_zero,List.take_of_length_le (by omega)] at this
     exact this
   ·rename_i len e hu
    split at h
    ·rename_i sz hs
     obtain⟨xs,m,rfl,_,hl,hxl,hx⟩:=DataW.trod_array hu ht
     have:=uS (H:=H) (bx:=bx) (w:=w) (base:=base) (sp:=sp) (held:=held) (n:=m) (cs:=cs) (fun t ks vs x h1 h2 h3=>vt d m t ks vs x h1 h2 h3) (Im e sz len 0) 0 ks h (fun f hf=>by
      rw [arrFs_eq] at hf
      obtain⟨i,hi,rfl⟩:=adK.1 hf
      have hi:i < len:=by simpa using List.mem_range'_1.1 hi
      have du:i < xs.length:=by omega
      have hx:=hx i hi
      rw [sN hs] at hx
      exact⟨xs[i],by simp only [QU];rw [sN hs,hx,abj du]⟩)
     rw [List.drop_zero,List.take_of_length_le (by omega)] at this
     exact this
    ·cases h
   ·cases h
end
end
end Go.Sx

namespace Go.Proofs.YtadmfaohjnjajaaGreatDoor
section
open Go Go.Sx Go.Proofs Go.ChangeShapes Go.WideShapes
section
variable {P:Program} {W:World}
theorem U9 {ti tp te ts:TypeId} (S:Y7 P ti tp te ts):∀{l:List (String×List UInt8)} {gs:List Nat} {ps:List MemPlace},
 l.map (fun x=>P.globalNamed x.1)=gs.map some->(∀g∈gs,(P.globals[g]?).map (·.type)=some ti)->gs.Nodup ->
 DataW.LaidVars P W (l.map fun x=>(x.1,gk x.2)) ps->ps.Nodup->(∀b off,MemPlace.cell b off∈ps->(∃c t,W.heap[b]?=some (.cells c t (0,0))) /\ ∀u v,W.cell? ⟨b,off,none⟩=some (.iface u v)->Value.okWide P W .any 0 u v) ->
 ∃ad:Nat->Addr,(∀i∈gs,∀j∈gs,i≠j->ad i≠ad j) /\ ∀i∈gs,MemPlace.cell (ad i).block (ad i).off∈ps /\ (∃s,W.cell? (ad i)=some (.string s)) /\ ∃t,W.heap[i]?=some (.cells #[.iface tp (.pointer (some (ad i)))] t (0,0))
 | [],[],_,_,_,_,_,_,_=>⟨fun _=>default,(fun i h=>by cases h),fun i h=>by cases h⟩
 | [],_::_,_,h,_,_,_,_,_=>by simp at h
 | _::_,[],_,h,_,_,_,_,_=>by simp at h
 | (n,text)::l,g::gs,ps,hn,ht,hgn,h,iS,hr=>by
   simp only [abv,List.cons.injEq] at hn
   obtain⟨g',t,cs,fuel,p,q,hg,hty,hv,hd,hq,rfl⟩:=h
   obtain rfl:=agM (hn.1.symm.trans hg)
   obtain rfl:=agM ((ht g (abw ..)).symm.trans hty)
   obtain⟨l0⟩:=cs
   obtain⟨ms,hi⟩:=S.hi
   obtain⟨f,he,hft,TA⟩:=S.he
   have ok0:∀u v,l0=[.iface u v]->Value.okWide P W .any 0 u v:=fun u v e=>by
    subst e
    exact(hr g 0 (by simp [MemPlace.row])).2 u v (by simpa using World.var?_cell hg hv 0)
   obtain⟨a,s,rfl,wH,hs0,hz0,rfl⟩:=errorString_of_trod hi S.row S.hp he hft TA S.hs S.hc S.hcs hd ok0
   have al7:=agd.1 iS
   have amh:=aem.1 hgn
   obtain⟨ad,h1,h2⟩:=U9 S hn.2 (fun x hx=>ht x (aby _ hx)) amh.2 hq al7.2.1 (fun b off hb=>hr b off (List.mem_append_right _ hb))
   have self:MemPlace.cell a.block a.off∈MemPlace.row ⟨g,0,none⟩ 1++MemPlace.row a 1:=List.mem_append_right _ (by simp [MemPlace.row])
   have isg:∀i∈gs,i≠g:=fun i hi e=>amh.1 (e▸hi)
   have apart:∀i∈gs,ad i≠a:=fun i hi e=>by
    have:=(h2 i hi).1
    rw [e] at this
    exact al7.2.2 _ self _ this rfl
   refine⟨fun i=>if i=g then a else ad i,fun i hi j hj hij=>?_,fun i hi=>?_⟩
   ·rcases abk.1 hi with rfl | Tz
    ·rcases abk.1 hj with rfl | hj
     ·exact absurd rfl hij
     ·simp only [if_pos rfl,if_neg (isg j hj)];exact fun e=>apart j hj e.symm
    ·rcases abk.1 hj with ej | hj
     ·subst ej
      simp only [if_pos rfl,if_neg (isg i Tz)];exact apart i Tz
     ·simp only [if_neg (isg i Tz),if_neg (isg j hj)];exact h1 i Tz j hj hij
   ·rcases abk.1 hi with rfl | hi
    ·simp only [if_pos rfl]
     refine⟨List.mem_append_left _ self,⟨s,wH⟩,?_⟩
     obtain⟨c,t,hb⟩:=(hr i 0 (by simp [MemPlace.row])).1
     refine⟨t,?_⟩
     simp only [World.var?,hg,Option.bind_some,hb] at hv
     rw [hb]
     simpa using hv
    ·simp only [if_neg (isg i hi)]
     obtain⟨g1,g2,g3⟩:=h2 i hi
     exact⟨List.mem_append_right _ g1,g2,g3⟩
end
def yA (W:World) (ad:Nat->Addr):Sg:=⟨ad,fun k=>if k < 7 then none else W.heap[k]?⟩
theorem U6 (W:World) (ad:Nat->Addr):(yA W ad).has W:=fun k o h=>by
 unfold yA at h
 simp only at h
 split at h
 ·cases h
 ·exact h
theorem UQ {W:World} {r:Reach} {b0:Nat} {t e:TypeId} {v:Value} (ht:Tryz.prog.underlying t=some (.slice e)) (pQ:Value.okWide Tryz.prog W r b0 t v):v=.slice none 0 0 \/ ∃b o len cap,v=.slice (some ⟨b,o,none⟩) len cap /\ len<=cap:=by
 unfold Value.okWide at pQ
 rw [ht] at pQ
 unfold Cell.okWide at pQ
 rw [ht] at pQ
 dsimp only at pQ
 unfold Cell.ok at pQ
 rw [ht] at pQ
 cases v with
 | slice a len cap =>
   cases a with
   | none =>
     cases len with
     | zero =>
       cases cap with
       | zero=>exact .inl rfl
       | succ=>exact pQ.elim
     | succ=>exact pQ.elim
   | some a =>
     obtain⟨b,o,s⟩:=a
     obtain⟨h1,_,_,h2,_⟩:=pQ
     simp only at h2
     subst h2
     exact .inr ⟨b,o,len,cap,rfl,h1⟩
 | _=>exact pQ.elim
theorem RZ {α:Type} [Inhabited α] (K:AK α) {H:Type} {bx:TypeId×Value->H} {W:World} {base:Nat} {sp:Nat->Bool} {held:Bool} {t e:TypeId} {ks:List FK} (ht:Tryz.prog.underlying t=some (.slice e)) (hc:Tryz.prog.cellsOf e=K.es) (hfl:oR Tryz.prog 12 e=some ks) (hks:ks.length=K.es)
 (aq5:∀cs,gx ks cs->∃a:α,cs=aA Nm.id (K.bx a)) (tC:∀(a:α) (j:Nat) (t:TypeId) (x:Value),(aA Nm.id (K.bx a))[j]?≠some (.iface t x)) {r:Reach} {b0:Nat} {v:Value} {d:DataW H} {ps:List MemPlace}
 (pQ:Value.okWide Tryz.prog W r b0 t v) (hd:DataW.Trod bx Tryz.prog W base sp held t v d ps) {ad:Nat->Addr} (hs:∀k,k < 7->∃te ty p z,W.heap[k]?=some (.cells #[.iface te p] ty z)) :
 ∃(lc:Sx.l8) (l:List α),v=bN lc 0 l.length K.es /\ abQ (yA W ad) K l lc (fun _=>False):=by
 obtain⟨fu,hfu⟩:=hd
 rcases UQ ht pQ with rfl | ⟨b,o,len,cap,rfl,hlc⟩
 ·exact⟨⟨0,0,0⟩,[],rfl,fun k h=>h,fun w _=>⟨adr _,fun j v h=>(by simp [AK.dC] at h)⟩⟩
 ·rcases Deep.open_slice ht hfu with⟨h0,_⟩ | ⟨a,Jo,avY,m,n,D,Pl,hcs,hb,hl,hm,hmm,hx,hel⟩
  ·cases h0
  ·cases hcs
   have each:∀i,i < len->∃x:α,∀k,k < K.es->W.cell? ((⟨b,o,none⟩:Addr).add (i * K.es+k))=(aA Nm.id (K.bx x))[k]?:=fun i hi=>by
    obtain⟨cs',h1,h2⟩:=hel i (by rw [hmm];split<;>omega)
    have hf:=vt 12 _ _ ks _ _ hfl h2 (by rw [hc,hks])
    obtain⟨x,hx⟩:=aq5 cs' hf
    obtain⟨_,_,h5⟩:=World.cells?_some h1
    refine⟨x,fun k hk=>?_⟩
    have:=h5 k (by rw [hc];exact hk)
    rw [Deep.add_add,hc] at this
    rw [this,hx]
   obtain⟨f,hf⟩:=Deep.choose_lt each
   refine⟨⟨b,o,cap+1⟩,(List.range len).map f,?_,fun k h=>h,fun w hw=>⟨?_,fun j v hj=>?_⟩⟩
   ·rw [vsDen_eq,if_neg (fun h=>by cases h.2)]
    simp
   ·rw [AK.kJ]
    simp only [agR,List.length_range,Nat.add_sub_cancel]
    exact adN _ hlc
   ·have Ht:j < len * K.es:=by
     have:=(abt.1 hj).1
     rw [AK.kJ] at this
     simpa using this
    have fq:0 < K.es:=Nat.pos_of_ne_zero fun h=>by rw [h] at Ht;omega
    have hi:j / K.es < len:=(Nat.div_lt_iff_lt_mul fq).2 Ht
    have hk:j % K.es < K.es:=Nat.mod_lt _ fq
    have ej:j=(j / K.es) * K.es+j % K.es:=by rw [Nat.mul_comm];exact(Nat.div_add_mod _ _).symm
    have hg:=K.yj ((List.range len).map f) (j / K.es) (j % K.es) (by simpa using hi) hk
    rw [<- ej,hj] at hg
    have hfi:((List.range len).map f).getD (j / K.es) K.bR=f (j / K.es):=by simp [List.getD,hi]
    rw [hfi] at hg
    have hW:=hf _ hi _ hk
    rw [<- ej,<- hg] at hW
    have hb3:¬b < 7:=fun h3=>by
     obtain⟨te,ty,p,z,hh⟩:=hs b h3
     have eb:((⟨b,o,none⟩:Addr).add j).block=b:=by unfold Addr.add;split<;>rfl
     unfold World.cell? at hW
     rw [eb,hh] at hW
     simp only at hW
     split at hW
     ·cases hW
     ·rcases Nat.eq_zero_or_pos ((⟨b,o,none⟩:Addr).add j).off with h0 | h0
      ·rw [h0] at hW
       have hW:some (Value.iface te p)=some v:=hW
       cases hW
       exact tC _ _ _ _ hg.symm
      ·rw [Array.getElem?_eq_none (show 1<=_ from h0)] at hW
       cases hW
    have hR:(yA W ad).R b=W.heap[b]?:=if_neg hb3
    have eb:((⟨b,o,none⟩:Addr).add j).block=b:=by unfold Addr.add;split<;>rfl
    show w.cell? ((⟨b,o,none⟩:Addr).add j)=some v
    cases hh:W.heap[b]? with
    | none =>
      unfold World.cell? at hW
      rw [eb,hh] at hW
      cases hW
    | some ob =>
      have:=hw b ob (by rw [hR,hh])
      rw [<- hW]
      unfold World.cell?
      rw [eb,hh,this]
def Wh (L:List (Sx.l8×AV)):Nm:=⟨fun n=>if n < 7 then⟨n,0,0⟩ else(L.map Prod.fst).getD (n - 7) ⟨0,0,0⟩,fun n k=>n < 7 /\ k=n⟩
theorem Le (L:List (Sx.l8×AV)) {n:Nat} (h:n < 7):(Wh L).L n=⟨n,0,0⟩:=if_pos h
theorem afT {σ:Sg} {lp:Lp} {f:FuncId} {args:List SV} {L:List (Sx.l8×AV)} {v:SV} {l':List AV} {W:World} (h:qT Tryz.prog (hP lp σ) f args (gM zB (L.map Prod.snd)) v (gM zB l')) (hv:∀ρ:Nm,v.aq ρ=.bool true)
 (hq:∀x∈L,∀w,σ.has w->(F6 σ).q x.2 x.1 (fun _=>False) w) (hs:σ.has W) (hR:∀k,k < 7->σ.R k=none)
 (hg:∀n,n < 7->W.heap[n]?=some (.cells #[.iface 229 (.pointer (some (σ n)))] 29 (0,0))) :
 Calls Tryz.prog f (args.map (SV.aq (Wh L))).toArray W fun e w'=>e=.returned (.bool true) /\ vh W w':=by
 have ama:∀n,zB[n]?=some true↔n < 7:=fun n=>by
  unfold zB
  rw [agN]
  by_cases h:n < 7<;>simp [h]
 have get:∀n c,ae (gM zB (L.map Prod.snd)) n=some c->(n < 7 /\ c=.bI (.gk n)) \/ ∃x,L[n - 7]?=some x /\ 7<=n /\ c=.bI x.2:=fun n c h=>by
  unfold gM at h
  rw [bo,gg] at h
  split at h
  ·obtain⟨h1,h2⟩:=(m5 _ _ _ _ _).1 h
   exact .inl ⟨(ama n).1 h1,by rw [h2,abJ]⟩
  ·rename_i hn
   obtain⟨a,h1,h2⟩:=(dx _ _ _).1 h
   rw [aeR,abu] at h1
   obtain⟨x,h1,h3⟩:=h1
   exact .inr ⟨x,h1,Nat.le_of_not_lt hn,by rw [h2,h3]⟩
 have fp:∀n c k,ae (gM zB (L.map Prod.snd)) n=some c->c.fp (Wh L) n k->n < 7 /\ k=n:=fun n c k h hk=>by
  rcases get n c h with⟨h1,rfl⟩ | ⟨x,h1,h2,rfl⟩
  ·have hk:n < 7 /\ k=n:=hk
   exact⟨h1,hk.2⟩
  ·have hk:n < 7 /\ k=n:=hk
   omega
 have hO:eZ (hP lp σ) (Wh L) (gM zB (L.map Prod.snd)) W:=by
  refine⟨⟨fun n c h=>?_,fun n m c d tH h h' k hk dW=>?_,fun g FJ=>?_⟩,hs,fun n c k h hk=>?_⟩
  ·rcases get n c h with⟨h1,rfl⟩ | ⟨x,h1,h2,rfl⟩
   ·have e:(Wh L).L n=⟨n,0,0⟩:=Le L (by omega)
    refine(uh (N:=hP lp σ) (σ:=σ) rfl rfl _ _ _).2 ⟨fun k=>?_,?_⟩
    ·show (n < 7 /\ k=n)↔k=((Wh L).L n).b
     rw [e]
     exact⟨fun hh=>hh.2,fun hh=>⟨by omega,hh⟩⟩
    ·rw [e];exact hg n h1
   ·have hm:x∈L:=ab8 h1
    have e:(Wh L).L n=x.1:=by
     show (if n < 7 then _ else _)=_
     rw [if_neg (by omega)]
     simp [List.getD,h1]
    have eS:(Wh L).S n=fun _=>False:=funext fun k=>propext ⟨fun hh=>by have hh:n < 7 /\ k=n:=hh;omega,fun hh=>hh.elim⟩
    show (F6 σ).q x.2 ((Wh L).L n) ((Wh L).S n) W
    rw [e,eS]
    exact hq x hm W hs
  ·obtain⟨a1,a2⟩:=fp n c k h hk
   obtain⟨b1,b2⟩:=fp m d k h' dW
   exact tH (a2.symm.trans b2)
  ·show ((Wh L).L g).b=g
   rw [Le L FJ]
  ·obtain⟨a1,a2⟩:=fp n c k h hk
   subst a2
   exact hR k a1
 refine(h.2.2 _ W hO).mono ?_
 rintro e w' ⟨ρ',rfl,LZ,hE⟩
 refine⟨by rw [hv ρ'],⟨fun k hk=>?_,hE.os,hE.tape,hE.output,hE.size⟩⟩
 by_cases e0:k < 7
 ·have dW:ae (gM zB l') k=some (.bI (.gk k)):=by
   unfold gM
   rw [bo,gg,if_pos (by rw [show zB.length=7 from List.length_replicate];exact e0)]
   exact(m5 _ _ _ _ _).2 ⟨(ama k).2 e0,by rw [abJ]⟩
  have hq':=(uh (N:=hP lp σ) (σ:=σ) rfl rfl _ _ _).1 (LZ.q k _ dW)
  have hr0:ρ' k=k:=LZ.qW k (by show k < 7;omega)
  have this:w'.heap[ρ' k]?=some (.cells #[.iface 229 (.pointer (some (σ k)))] 29 (0,0)):=hq'.2
  rw [hr0] at this
  rw [this,hg k e0]
 ·refine hE.mE k hk fun n c h hf=>?_
  obtain⟨a1,a2⟩:=fp n c k h hf
  omega
theorem ahQ (cs:List Value) (h:gx [.int .i64,.int .i64,.int .i64,.int .i64] cs):∃a:O,cs=aA Nm.id (rM.bx a):=by
 match cs,h with
 | [.int _ a,.int _ b,.int _ c,.int _ d],h =>
   obtain⟨rfl,rfl,rfl,rfl,_⟩:=h
   exact⟨⟨a,b,c,d⟩,rfl⟩
theorem ak3 (a:O) (j:Nat) (t:TypeId) (x:Value):(aA Nm.id (rM.bx a))[j]?≠some (.iface t x):=fun h=>by
 rcases j with _ | _ | _ | _ | j<;>cases h
section
def JZ (σ:Sg) (a b:Addr):Prop:=a≠b /\ (∃c t,σ.R a.block=some (.cells c t (0,0))) /\ ∃c t,σ.R b.block=some (.cells c t (0,0))
theorem RW {W:World} {ad:Nat->Addr} (hg:∀n,n < 7->W.heap[n]?=some (.cells #[.iface 229 (.pointer (some (ad n)))] 29 (0,0))) {a:Addr} (hs:∃s,W.cell? a=some (.string s)):¬a.block < 7:=fun h3=>by
 obtain⟨s,hs⟩:=hs
 have hh:=hg _ h3
 unfold World.cell? at hs
 rw [hh] at hs
 simp only at hs
 split at hs
 ·cases hs
 ·rcases Nat.eq_zero_or_pos a.off with h0 | h0
  ·rw [h0] at hs
   have hs:some (Value.iface 229 (.pointer (some (ad a.block))))=some (Value.string s):=hs
   cases hs
  ·rw [Array.getElem?_eq_none (show 1<=_ from h0)] at hs;cases hs
theorem VV {W:World} {ad:Nat->Addr} {ps:List MemPlace} (hg:∀n,n < 7->W.heap[n]?=some (.cells #[.iface 229 (.pointer (some (ad n)))] 29 (0,0))) {a b:Addr} (h1:MemPlace.cell a.block a.off∈ps) (h2:MemPlace.cell b.block b.off∈ps)
 (s1:∃s,W.cell? a=some (.string s)) (s2:∃s,W.cell? b=some (.string s)) (dA:a≠b) (hr:∀b off,MemPlace.cell b off∈ps->∃c t,W.heap[b]?=some (.cells c t (0,0))):JZ (yA W ad) a b:=by
 have hR:∀c:Addr,(∃s,W.cell? c=some (.string s))->(yA W ad).R c.block=W.heap[c.block]?:=fun c hc=>if_neg (RW hg hc)
 exact⟨dA,by rw [hR a s1];exact hr _ _ h1,by rw [hR b s2];exact hr _ _ h2⟩
end
end
section
open Go Go.Sx Go.Proofs
variable {σ:Sg}
theorem R8 (p:ai):(p.aU pg).2.dO=p.dO:=by
 show (ai.alloc {p with steps:=cX p.steps} 0).2.dO=p.dO
 unfold ai.alloc
 split<;>rfl
theorem Ly {f1 f2:Int} {w1 w2:W->W} (p:ai) (h1:f1.toNat≠24) (h2:f2.toNat≠24):(BE f1 f2 w1 w2 p).read 0 24=p.read 0 24:=by
 unfold ai.read
 rw [if_pos rfl,if_pos rfl]
 show (((p.aU pg).2.dO.set f1.toNat _).set f2.toNat _).getD 24 _=p.dO.getD 24 _
 rw [adX,List.getElem?_set_ne h2,List.getElem?_set_ne h1,R8,<- adX]
theorem WO (s k:Nat):(qK s (jv k)).read 0 24=dX 1:=by
 have h0:(jv k).read 0 24=dX 1:=rfl
 unfold qK
 split
 ·rw [Ly _ (by decide) (by decide)];exact h0
 ·rw [Ly _ (by decide) (by decide)];exact h0
 ·exact h0
theorem aa9 (s k:Nat):(qK s (jv k)).fault=none:=by
 have nw:∀p:ai,(p.aU pg).2.fault=p.fault:=fun p=>by
  show (ai.alloc {p with steps:=cX p.steps} 0).2.fault=p.fault
  unfold ai.alloc
  split<;>rfl
 unfold qK
 split
 ·exact nw (jv k)
 ·exact nw (jv k)
 ·rfl
theorem K7 {k:Int} (hk:0 < k) (s:Int):1<=yM k s /\ yM k s<=k:=by
 have h:0<=IntKind.wrap .u64 s:=by
  unfold IntKind.wrap
  simp only [IntKind.bits,IntKind.signed,Bool.false_and,Bool.false_eq_true,if_false]
  exact Int.emod_nonneg _ (by decide)
 have h1:0<=Int.tmod (IntKind.wrap .u64 s) k:=Int.tmod_nonneg _ h
 have h2:Int.tmod (IntKind.wrap .u64 s) k < k:=Int.tmod_lt_of_pos _ hk
 unfold yM;omega
theorem Us {s e k no:Int} (hs:1<=s /\ s<=5) (he:1<=e /\ e<=5) (hk:1<=k /\ k<=1024):SvI s e k.toNat 0 (uB (s,e,0,1,no)) (Qd s k):=by
 obtain⟨w,hd,⟨h,A,hi⟩,_⟩:=Qc (k:=k.toNat) (by omega) (by omega) (s:=s.toNat) (by omega)
 obtain⟨w1,w2⟩:=R9 (n:=(k.toNat:Nat)) (by omega) (s:=s) (e:=e) (me:=0) (th:=1) (no:=no) hs he (by decide) (by decide)
 rw [show ((s.toNat:Nat):Int)=s by omega] at hd
 have hc:(Qd s k).read 0 24=dX 1:=WO s.toNat k.toNat
 exact⟨rfl,az.WF.mono w1 (by decide),w2,w,hd,rfl,[],h,⟨rfl,rfl,rfl,rfl⟩,⟨w,A,by rw [hc];decide,by rw [hc];decide,(fun x hx=>by cases hx),List.nodup_nil,aa9 _ _⟩,abV _,hi⟩
noncomputable def adQ (x:ql):MO:=KP (yM 5 x.a0) x x.bZ.length ⟨0,RN Gj x,uB (yJ x)⟩
def ad4 (x:ql):Prop:=Hh (yM 5 x.a0) (yM 5 x.a1) (yM 90 x.a3).toNat x ⟨0,RN Gj x,uB (yJ x)⟩
theorem aeZ (σ:Sg) (x:ql) (hx:x.no=x.bZ.length):(Vg σ Gj x (adQ x) (ad4 x)).val=some (.v (.c (.bl true)),gM zB [.I7 x.bZ]):=by
 rw [vsR,hx]
 have b0:=K7 (by decide:(0:Int) < 5) x.a0
 have b1:=K7 (by decide:(0:Int) < 5) x.a1
 have b2:=K7 (by decide:(0:Int) < 9) x.a2
 have b3:=K7 (by decide:(0:Int) < 90) x.a3
 by_cases h40:x.bZ.length<=40
 ·refine(wG (aaZ (by omega))).trans ((nv (aaS ⟨b0.1,b0.2,b3.1,by omega⟩)).trans ((nv (by show (!Fe (yJ x))=true;unfold yJ;rw [YL b0 b1 (by decide) (by omega) (by decide)];rfl)).trans ((nv (iY ⟨⟨rfl,rfl,rfl,rfl,rfl⟩,?_⟩)).trans rfl)))
  exact⟨adr _,h40,Us b0 b1 ⟨b3.1,by omega⟩⟩
 ·exact(tG (aaS (by omega))).trans rfl
theorem ale (x:ql) (hx:x.no=x.bZ.length):fH Tryz.prog (hP (alp x (RN Gj x) (Gj.mv (yJ x)) (adQ x) (ad4 x)) σ) :=
 lM ou (fn:=Tryz.f4) (by kernel_rfl) (c:=eM Tryz.f4) (by kernel_rfl) (nt:=108) (by kernel_rfl) (b:=TC) (cE (by kernel_rfl)) (ahC (σ:=σ) (N':=hP jr σ) rfl rfl (K7 (by decide:(0:Int) < 5) x.a1) hx (RN Gj x) (uB (yJ x)))
theorem yg (a0 a1 a2 a3:Int) (lc1:Sx.l8) (l1:List O) (ad:Nat->Addr) (W:World)
 (hq1:abQ (yA W ad) rM l1 lc1 (fun _=>False))
 (hg:∀n,n < 7->W.heap[n]?=some (.cells #[.iface 229 (.pointer (some (ad n)))] 29 (0,0))) (ho:JZ (yA W ad) (ad TE) (ad TD)) :
 Calls Tryz.prog 4 #[.agg #[.int .i64 a0,.int .i64 a1,.int .i64 a2,.int .i64 a3],bN lc1 0 l1.length 4] W fun e w'=>e=.returned (.bool true) /\ vh W w':=by
 have hv:=aeZ (yA W ad) ⟨a0,a1,a2,a3,l1,l1.length⟩ rfl
 unfold Vg at hv
 rw [Q.lv_eq] at hv
 have hC:=(abN (σ:=yA W ad) (ale (σ:=yA W ad) ⟨a0,a1,a2,a3,l1,l1.length⟩ rfl) (B3 Ud) 24 4).ctr hv (p5.1 (by kernel_rfl)) ⟨jh.1 (by kernel_rfl),trivial⟩
 have hJ:=afT (L:=[(lc1,.I7 l1)]) (W:=W) (l':=[.I7 l1]) hC (fun ρ=>rfl) (fun x hx w hw=>?_) (U6 W ad) (fun k hk=>if_pos hk) hg
 ·exact hJ
 ·simp only [abk,abo,or_false] at hx
  rcases hx with rfl
  exact(uh (N:=NV (yA W ad)) (σ:=yA W ad) rfl rfl _ _ _).2 hq1
