import Derived.Test.YtadmfaohjnjajaaGreatDoorOr
import Derived.Test.YtadmfaohjnjajaaGreatDoorSxM
import Derived.Test.YtadmfaohjnjajaaGreatDoorSxN
import Derived.Test.YtadmfaohjnjajaaGreatDoorSxAr
set_option linter.unusedVariables false
set_option linter.unusedSimpArgs false
set_option maxHeartbeats 4000000
namespace Go.Proofs.YtadmfaohjnjajaaGreatDoor
open Go Go.Sx Go.Proofs
set_option maxRecDepth 100000
theorem zi:∀(n:Nat) (l:List Int),l.Nodup->(∀x∈l,1<=x /\ x<=(n:Int))->l.length<=n
 | 0,l,_,h=>by
   cases l with
   | nil=>exact Nat.le_refl _
   | cons a r=>have:=h a List.mem_cons_self;omega
 | n+1,l,hd,h=>by
   have h1:=zi n (l.filter (fun x=>x != ((n+1:Nat):Int))) (hd.sublist List.filter_sublist) fun x hx=>by
    obtain⟨hx,hne⟩:=List.mem_filter.1 hx
    have:=h x hx
    have hne:x≠((n+1:Nat):Int):=by simpa using hne
    omega
   have h2:l.length<=(l.filter (fun x=>x != ((n+1:Nat):Int))).length+1:=by
    clear h h1
    induction l with
    | nil=>simp
    | cons a r ih =>
      rw [List.nodup_cons] at hd
      rw [List.filter_cons]
      cases ha:a != ((n+1:Nat):Int) with
      | true=>simp only [if_true,List.length_cons];have:=ih hd.2;omega
      | false =>
        have ha:a=((n+1:Nat):Int):=by simpa using ha
        have hr:r.filter (fun x=>x != ((n+1:Nat):Int))=r:=List.filter_eq_self.2 fun x hx=>by
         have:x≠a:=fun e=>hd.1 (e▸hx)
         rw [<- ha]
         simpa using this
        simp only [Bool.false_eq_true,if_false,List.length_cons]
        rw [hr];omega
   omega
structure PlotM.WF (n:Nat) (m:PlotM):Prop where
 le:n<=1024
 lb:m.board.length=85
 ls:m.slots.length=n
 bw:∀w∈m.board,WOk n w
 sl:∀s∈m.slots,s.cells.length=10
 sw:∀s∈m.slots,∀w∈s.cells,WOk n w
 fr:∀x∈m.free,1<=x.val /\ x.val<=(n:Int)
 fu:∀x∈m.free,(m.slot x.val).used=false
 nd:(m.free.map N1.val).Nodup
theorem PlotM.WF.ok {n:Nat} {m:PlotM} (h:m.WF n):m.Ok:=by
 have:=h.le
 refine⟨by rw [h.lb];decide,by rw [h.ls];omega,?_,fun x hx=>?_⟩
 ·have:=zi n (m.free.map N1.val) h.nd fun x hx=>by
   obtain⟨y,hy,rfl⟩:=List.mem_map.1 hx
   exact h.fr y hy
  rw [List.length_map] at this
  omega
 ·have:=h.fr x hx
  exact⟨this.1,by rw [h.ls];exact this.2⟩
theorem jF {α:Type} {l:List α} {i:Nat} {d:α} (h:i < l.length):l.getD i d∈l:=by
 rw [List.getD_eq_getElem?_getD,List.getElem?_eq_getElem h]
 exact List.getElem_mem h
theorem wE {n:Nat} {m:PlotM} (h:m.WF n) {s:Int} (h1:1<=s) (h2:s<=n):m.slot s∈m.slots:=jF (by rw [h.ls];omega)
theorem KW {n:Nat} {m:PlotM} (h:m.WF n) {s g f:Int} (ha:m.hasA s g f):WOk n (m.read s f):=by
 unfold PlotM.hasA at ha
 unfold PlotM.read
 split at ha
 ·rename_i hs
  rw [if_pos hs]
  exact h.bw _ (jF (by omega))
 ·rename_i hs
  rw [if_neg hs]
  have h1:m.slot s∈m.slots:=wE h ha.1.1 (by have:=ha.1.2;rw [h.ls] at this;exact this)
  exact h.sw _ h1 _ (jF (by rw [h.sl _ h1];omega))
theorem rK {α:Type} {l:List α} {i:Nat} {a x:α} (h:x∈l.set i a):x∈l \/ x=a:=List.mem_or_eq_of_mem_set h
theorem jn {m:PlotM} {i:Nat} {x:Sl} {s:Int} (hi:i < m.slots.length):({m with slots:=m.slots.set i x}:PlotM).slot s=if (s - 1).toNat=i then x else m.slot s:=by
 show (m.slots.set i x).getD (s - 1).toNat _=_
 rw [List.getD_eq_getElem?_getD,List.getElem?_set]
 by_cases e:i=(s - 1).toNat
 ·rw [if_pos e,if_pos (e▸hi),if_pos e.symm];rfl
 ·rw [if_neg e,if_neg fun h=>e h.symm]
  show _=m.slots.getD _ _
  rw [List.getD_eq_getElem?_getD]
theorem KB {n:Nat} {m:PlotM} (h:m.WF n) {s:Int} {x:Sl} (h1:1<=s) (h2:s<=n) (hl:x.cells.length=10) (hw:∀w∈x.cells,WOk n w) (hu:x.used=true->(m.slot s).used=true):({m with slots:=m.slots.set (s - 1).toNat x}:PlotM).WF n:=by
 have hi:(s - 1).toNat < m.slots.length:=by rw [h.ls];omega
 refine⟨h.le,h.lb,(by show (m.slots.set _ _).length=n;rw [List.length_set];exact h.ls),h.bw,fun t ht=>?_,fun t ht w hw2=>?_,h.fr,fun t ht=>?_,h.nd⟩
 ·rcases rK ht with ht | rfl
  ·exact h.sl t ht
  ·exact hl
 ·rcases rK ht with ht | rfl
  ·exact h.sw t ht w hw2
  ·exact hw w hw2
 ·rw [jn hi]
  split
  ·rename_i e
   cases hx:x.used with
   | false=>rfl
   | true =>
     have hfr:=h.fr t ht
     have e2:t.val=s:=by omega
     have:=h.fu t ht
     rw [e2,hu hx] at this
     exact this
  ·exact h.fu t ht
theorem Jn {n:Nat} {m:PlotM} (h:m.WF n) {s g f:Int} (ha:m.hasA s g f) {w:W} (hw:WOk n w):(m.write s f w).WF n:=by
 unfold PlotM.hasA at ha
 unfold PlotM.write
 split at ha
 ·rename_i hs
  rw [if_pos hs]
  refine⟨h.le,(by show (m.board.set _ _).length=85;rw [List.length_set];exact h.lb),h.ls,fun x hx=>?_,h.sl,h.sw,h.fr,h.fu,h.nd⟩
  rcases rK hx with hx | rfl
  ·exact h.bw x hx
  ·exact hw
 ·rename_i hs
  rw [if_neg hs]
  have h2:s<=n:=by have:=ha.1.2;rw [h.ls] at this;exact this
  have hm:=wE h ha.1.1 h2
  refine KB h ha.1.1 h2 (by show ((List.range 10).map _).length=10;rw [List.length_map,List.length_range]) (fun x hx=>?_) fun hu=>hu
  obtain⟨j,hj,rfl⟩:=List.mem_map.1 hx
  have hj:=List.mem_range.1 hj
  split
  ·exact hw
  ·exact h.sw _ hm _ (jF (by rw [h.sl _ hm];exact hj))
theorem tq {l:List Int} {x:Int} (h:l.Nodup) (hx:x ∉ l):(l++[x]).Nodup:=by
 rw [List.nodup_append]
 refine⟨h,by simp,fun a ha b hb=>?_⟩
 simp only [List.mem_cons,List.not_mem_nil,or_false] at hb
 subst hb
 exact fun e=>hx (e▸ha)
theorem NL {n:Nat} {m:PlotM} (h:m.WF n) (b:Int):(m.alloc b).2.WF n /\ WOk n (m.alloc b).1.w /\ ((m.alloc b).1.ok=true->1<=(m.alloc b).1.w.slot):=by
 unfold PlotM.alloc
 split
 ·exact⟨h,ay (by omega),fun h=>by cases h⟩
 ·rename_i hl
  dsimp only
  have hmem:m.free.getD (m.free.length - 1) kints.dflt∈m.free:=jF (by omega)
  generalize hx:m.free.getD (m.free.length - 1) kints.dflt=x at hmem
  obtain⟨h1,h2⟩:=h.fr x hmem
  have hfree:m.free=m.free.take (m.free.length - 1)++[x]:=by
   have hlt:m.free.length - 1 < m.free.length:=by omega
   rw [<- hx,List.getD_eq_getElem?_getD,List.getElem?_eq_getElem hlt]
   have:=List.take_append_drop (m.free.length - 1) m.free
   rw [List.drop_eq_getElem_cons hlt,List.drop_eq_nil_of_le (by omega)] at this
   exact this.symm
  have hnd:=h.nd
  rw [hfree,List.map_append,List.nodup_append] at hnd
  obtain⟨n1,_,n2⟩:=hnd
  have hi:(x.val - 1).toNat < m.slots.length:=by rw [h.ls];omega
  have hm0:({m with free:=m.free.take (m.free.length - 1)}:PlotM).WF n:=⟨h.le,h.lb,h.ls,h.bw,h.sl,h.sw,fun t ht=>h.fr t (List.mem_of_mem_take ht),fun t ht=>h.fu t (List.mem_of_mem_take ht),n1⟩
  have hz:WOk n wNil:=ay (by omega)
  refine⟨⟨h.le,h.lb,(by show (m.slots.set _ _).length=n;rw [List.length_set];exact h.ls),h.bw,fun t ht=>?_,fun t ht w hw2=>?_,hm0.fr,fun t ht=>?_,n1⟩,⟨by show 0<=x.val;omega,h2,fun e=>by have e:x.val=0:=e;omega⟩,fun _=>h1⟩
  ·rcases rK ht with ht | rfl
   ·exact h.sl t ht
   ·rfl
  ·rcases rK ht with ht | rfl
   ·exact h.sw t ht w hw2
   ·simp only [List.mem_cons,List.not_mem_nil,or_false] at hw2
    rcases hw2 with rfl | rfl | rfl | rfl | rfl | rfl | rfl | rfl | rfl | rfl<;>first | exact hz | exact dP (by omega) _
  ·show (({m with slots:=m.slots.set (x.val - 1).toNat _}:PlotM).slot t.val).used=false
   rw [jn hi]
   split
   ·rename_i e
    have:=hm0.fr t ht
    have e2:t.val=x.val:=by omega
    exact absurd e2 (n2 _ (List.mem_map_of_mem ht) _ (by simp))
   ·exact hm0.fu t ht
def Hd (hd:Bool) (m:PlotM):Prop:=hd=true->1<=(m.board.getD 0 kwords.dflt).slot
structure AccOk (n:Nat) (hd:Bool) (a:Acc) (r:Rp1×PlotM):Prop where
 wf:r.2.WF n
 h0:Hd hd r.2
 w:WOk n r.1.w
 al:a.kind=4->r.1.ok=true->1<=r.1.w.slot
 ld:a.kind=1->hd=true->a.s=0->a.f=0->1<=r.1.w.slot
theorem IG {l:List W} {i:Nat} {w d:W} (h:l≠[]):(l.set i w).getD 0 d=if i=0 then w else l.getD 0 d:=by
 cases l with
 | nil=>exact absurd rfl h
 | cons a r=>cases i<;>simp
theorem MJ {hd:Bool} {n:Nat} {m:PlotM} (hm:m.WF n) (h:Hd hd m) {s f:Int} {w:W} (hf:0<=f) (hw:hd=true->s=0->f=0->1<=w.slot):Hd hd (m.write s f w):=fun e=>by
 unfold PlotM.write
 split
 ·rename_i hs
  show 1<=((m.board.set f.toNat w).getD 0 kwords.dflt).slot
  rw [IG (fun e=>by have:=hm.lb;rw [e] at this;cases this)]
  split
  ·exact hw e hs (by omega)
  ·exact h e
 ·exact h e
theorem Tw {m:PlotM} {s g f:Int} (h:m.hasA s g f):0<=f:=by
 unfold PlotM.hasA at h
 split at h
 ·exact h.2.1
 ·exact h.2.1
theorem uq {n:Nat} {hd:Bool} {m:PlotM} (h:m.WF n) (hh:Hd hd m) {a:Acc} (hv:m.valid a) (hw:WOk n a.new) (hw0:hd=true->(a.kind=2 \/ a.kind=3)->a.s=0->a.f=0->1<=a.new.slot):AccOk n hd a (m.access a):=by
 have h1:({m with steps:=bH m.steps}:PlotM).WF n:=⟨h.le,h.lb,h.ls,h.bw,h.sl,h.sw,h.fr,h.fu,h.nd⟩
 have n0:(0:Int)<=n:=by omega
 unfold PlotM.access
 dsimp only
 unfold PlotM.valid at hv
 cases he:m.wrong a with
 | some e =>
   dsimp only
   refine⟨?_,?_,?_,fun _ (h:false=true)=>(by cases h),fun hk hhd hs hf=>?_⟩
   ·cases m.fault<;>exact⟨h.le,h.lb,h.ls,h.bw,h.sl,h.sw,h.fr,h.fu,h.nd⟩
   ·cases m.fault<;>exact hh
   ·show WOk n (if a.kind=1 \/ a.kind=3 then dt (-1) else wNil)
    split
    ·exact dP n0 _
    ·exact ay n0
   ·exfalso
    unfold PlotM.wrong PlotM.state at he
    rw [if_neg (by omega),if_neg (by omega),if_pos hs] at he
    cases he
 | none =>
   dsimp only
   by_cases k4:a.kind=4
   ·rw [if_pos k4]
    obtain⟨w1,w2,w3⟩:=NL h1 a.new.num
    refine⟨w1,?_,w2,fun _=>w3,fun hk=>by omega⟩
    unfold PlotM.alloc
    split
    ·exact hh
    ·exact hh
   ·rw [if_neg k4]
    by_cases k5:a.kind=5
    ·rw [if_pos k5]
     rw [if_neg (by omega),if_neg k4,if_pos k5] at hv
     obtain⟨v1,v2⟩:=hv
     rw [h.ls] at v2
     have hu:(m.slot a.old.slot).used=true:=by
      unfold PlotM.wrong PlotM.state at he
      rw [if_neg k4,if_pos k5,if_neg (by omega)] at he
      cases hu:(m.slot a.old.slot).used with
      | true=>rfl
      | false=>rw [if_pos hu] at he;cases he
     have hm:=wE h v1 v2
     have hs:({m with steps:=bH m.steps,slots:=m.slots.set (a.old.slot - 1).toNat {m.slot a.old.slot with used:=false}}:PlotM).WF n :=
      KB h1 v1 v2 (show (m.slot a.old.slot).cells.length=10 from h.sl _ hm) (show ∀w∈(m.slot a.old.slot).cells,WOk n w from h.sw _ hm) fun e=>by cases e
     have hi:(a.old.slot - 1).toNat < m.slots.length:=by rw [h.ls];omega
     refine⟨⟨h.le,h.lb,hs.ls,h.bw,hs.sl,hs.sw,fun x hx=>?_,fun x hx=>?_,?_⟩,hh,ay n0,fun hk=>absurd hk k4,fun hk=>by omega⟩
     ·rcases List.mem_append.1 hx with hx | hx
      ·exact h.fr x hx
      ·simp only [List.mem_cons,List.not_mem_nil,or_false] at hx
       subst hx;exact⟨v1,v2⟩
     ·rcases List.mem_append.1 hx with hx | hx
      ·exact hs.fu x hx
      ·simp only [List.mem_cons,List.not_mem_nil,or_false] at hx
       subst hx
       show (({m with slots:=m.slots.set (a.old.slot - 1).toNat {m.slot a.old.slot with used:=false}}:PlotM).slot a.old.slot).used=false
       rw [jn hi,if_pos rfl]
     ·show ((m.free++[(⟨a.old.slot⟩:N1)]).map N1.val).Nodup
      rw [List.map_append]
      refine tq h.nd fun hx=>?_
      obtain⟨y,hy,e⟩:=List.mem_map.1 hx
      have:=h.fu y hy
      rw [e,hu] at this
      cases this
    ·rw [if_neg k5]
     have hk:a.kind=1 \/ a.kind=2 \/ a.kind=3:=by
      by_cases hk:a.kind=1 \/ a.kind=2 \/ a.kind=3
      ·exact hk
      ·rw [if_neg hk,if_neg k4,if_neg k5] at hv;exact hv.elim
     rw [if_pos hk] at hv
     have rd:WOk n (({m with steps:=bH m.steps}:PlotM).read a.s a.f):=KW h1 hv
     have wr:(({m with steps:=bH m.steps}:PlotM).write a.s a.f a.new).WF n:=Jn h1 hv hw
     have hdw:(a.kind=2 \/ a.kind=3)->Hd hd (({m with steps:=bH m.steps}:PlotM).write a.s a.f a.new):=fun hk=>MJ h1 hh (Tw hv) fun e hs hf=>hw0 e hk hs hf
     by_cases k1:a.kind=1
     ·rw [if_pos k1]
      refine⟨h1,hh,rd,fun hk=>absurd hk k4,fun _ hhd hs hf=>?_⟩
      show 1<=(({m with steps:=bH m.steps}:PlotM).read a.s a.f).slot
      unfold PlotM.read
      rw [if_pos hs,hf]
      exact hh hhd
     ·rw [if_neg k1]
      by_cases k2:a.kind=2
      ·rw [if_pos k2]
       exact⟨wr,hdw (.inl k2),ay n0,fun hk=>absurd hk k4,fun hk=>absurd hk k1⟩
      ·rw [if_neg k2]
       cases ia (({m with steps:=bH m.steps}:PlotM).read a.s a.f) a.old with
       | true=>exact⟨wr,hdw (.inr (by omega)),rd,fun hk=>absurd hk k4,fun hk=>absurd hk k1⟩
       | false=>exact⟨h1,hh,rd,fun hk=>absurd hk k4,fun hk=>absurd hk k1⟩
end Go.Proofs.YtadmfaohjnjajaaGreatDoor

namespace Go.Sx
section
variable {AV:Type} {P:Program}
end
section
variable {AV:Type} {P:Program} {N:Env AV}
def Lesser (N:Env AV) (d c:Chunk AV):Prop:=∀ρ n w,(d.q N ρ n w->c.q N ρ n w) /\ ∀k,c.fp ρ n k↔d.fp ρ n k
theorem Lesser.refl (d:Chunk AV):Lesser N d d:=fun _ _ _=>⟨id,fun _=>Iff.rfl⟩
structure Back (N:Env AV) (L nt:Nat) (s t:St AV) (π:Nat->Nat):Prop where
 E:∀k,k < nt->look t.E k≠.unk->look s.E k=(look t.E k).ren π
 Eo:∀k,nt<=k->look t.E k=bV
 H:∀n c,ab t.H n=some c->∃d,ab s.H (π n)=some d /\ Lesser N d (c.ren π)
 inj:∀n m c d,ab t.H n=some c->ab t.H m=some d->π n=π m->n=m
 fix:∀n,n < L->π n=n
 keep:∀n c,n < L->ab s.H n=some c->∃c',ab t.H n=some c'
 len:L<=t.H.length
 G:N.G<=L
 cl:Closed N t
theorem OQ {π:Nat->Nat} {v:SV} (h:v.ren π=.unk):v=.unk:=by
 cases v<;>first | rfl | (simp [SV.ren] at h)
theorem Back.at {L nt:Nat} {s t:St AV} {π:Nat->Nat} (h:Back N L nt s t π) {ρ:Nm} {a:Act} {w:World} (hat:At N nt ρ s a w):At N nt (ρ.ren π) t a w:=by
 refine⟨⟨hat.em.size,fun k hk=>?_⟩,⟨⟨fun n c hc=>?_,fun n m c d hnm hc hd k hk hk'=>?_,fun g hg=>?_⟩,hat.own.ro.1,fun n c k hc hk=>?_⟩⟩
 ·rcases Nat.lt_or_ge k nt with hlt | hge
  case inr =>
   rw [h.Eo k hge]
   have:¬k < a.tmps.size:=by rw [hat.em.size];omega
   simp [Array.getD,this,bV,SV.den,undef]
  have he:=h.E k hlt hk
  have hs:look s.E k≠.unk:=fun e=>hk (OQ (he.symm.trans e))
  rw [hat.em.get k hs,he,SV.den_ren]
 ·obtain⟨d,g1,g2⟩:=h.H n c hc
  exact CC.1 ((g2 ρ (π n) w).1 (hat.own.q _ _ g1))
 ·obtain⟨c',g1,g2⟩:=h.H n c hc
  obtain⟨d',g3,g4⟩:=h.H m d hd
  rw [<- jP] at hk hk'
  exact hat.own.dis (π n) (π m) _ _ (fun e=>hnm (h.inj n m c d hc hd e)) g1 g3 k (((g2 ρ (π n) w).2 k).1 hk) (((g4 ρ (π m) w).2 k).1 hk')
 ·show ρ (π g)=g
  rw [h.fix g (by have:=h.G;omega)]
  exact hat.own.glb g hg
 ·obtain⟨d,g1,g2⟩:=h.H n c hc
  rw [<- jP] at hk
  exact hat.own.ro.2 (π n) _ k g1 (((g2 ρ (π n) w).2 k).1 hk)
theorem Back.evo {L nt:Nat} {s t:St AV} {π:Nat->Nat} (h:Back N L nt s t π) {ρ0 ρ:Nm} {H0:Hp AV} {w0 w:World} (hL:H0.length=L) (he:Evo N L ρ0 H0 w0 ρ s.H w):Evo N L ρ0 H0 w0 (ρ.ren π) t.H w:=by
 refine⟨fun n c hc=>?_,fun n c hc=>?_,fun n hn hc=>?_,by rw [hL];exact h.len,he.frame,fun n c k hc hk=>?_,he.os,he.tape,he.output,he.size⟩
 ·obtain⟨c',hc'⟩:=he.pers n c hc
  exact h.keep n c' (by have:=aX hc;omega) hc'
 ·show ρ.L (π n)=_
  rw [h.fix n (by have:=aX hc;omega)]
  exact he.agree n c hc
 ·cases ht:ab t.H n with
  | none=>rfl
  | some c =>
    obtain⟨d,g1,_⟩:=h.H n c ht
    rw [h.fix n hn,he.non n hn hc] at g1
    cases g1
 ·obtain⟨d,g1,g2⟩:=h.H n c hc
  rw [<- jP] at hk
  exact he.new (π n) _ k g1 (((g2 ρ (π n) w).2 k).1 hk)
theorem CY {nt:Nat} {c:Code} {ι:Type} (fam:ι->St AV) (μ:ι->Nat) (Fin:Ex->St AV->Prop) (L:Nat)
 (hstep:∀i,∃ex s',Rnd P N nt c (fam i) ex s' /\ match ex with
   | .normal=>∃i' π,μ i' < μ i /\ Back N L nt s' (fam i') π
   | e=>Fin e s')
 {ρ0:Nm} {H0:Hp AV} {w0:World} (hL:H0.length=L):∀(n:Nat) (i:ι),μ i < n->Closed N (fam i)->L<=(fam i).H.length->∀(ρ:Nm) (a:Act) (w:World),At N nt ρ (fam i) a w->Evo N L ρ0 H0 w0 ρ (fam i).H w->∀(Q:Exit->Act->World->Prop),
   (∀ex s' ρ' a' w',Fin ex s'->Closed N s'->L<=s'.H.length->At N nt ρ' s' a' w'->Evo N L ρ0 H0 w0 ρ' s'.H w'->a'.defers=a.defers->Q (IJ ex) a' w')->Code.rounds P c Q n a w
 | 0,i,h,_,_,_,_,_,_,_,_,_=>by omega
 | n+1,i,hm,hcl,hH,ρ,a,w,hat,hev,Q,hQ=>by
   obtain⟨ex,s',h1,h2⟩:=hstep i
   obtain⟨c1,l1,k1⟩:=h1 L hcl hH
   refine wp_mono (k1 hat) ?_
   rintro e a₁ w₁ ⟨rfl,hl⟩
   obtain⟨⟨ρ₁,e1,o1,v1⟩,d1⟩:=hl
   cases ex with
   | normal =>
     obtain⟨i',π,hmu,hb⟩:=h2
     have hat':=hb.at (At.mk e1 o1)
     have hev':=hb.evo hL (hev.trans v1)
     exact CY fam μ Fin L hstep hL n i' (by omega) hb.cl hb.len _ a₁ w₁ hat' hev' Q fun ex s'' ρ' a' w' hf hc hh ha he hd=>hQ ex s'' ρ' a' w' hf hc hh ha he (hd.trans d1)
   | exit id=>exact hQ _ s' ρ₁ a₁ w₁ h2 c1 l1 ⟨e1,o1⟩ (hev.trans v1) d1
   | ret=>exact hQ _ s' ρ₁ a₁ w₁ h2 c1 l1 ⟨e1,o1⟩ (hev.trans v1) d1
def tx (nl:List Nat) (n:Nat):Nat:=match nth nl n with | some m=>m | none=>n
def lC:List Nat->Nat->Nat
 | [],_=>0
 | x::r,n=>match Nat.beq x n with | true=>0 | false=>lC r n+1
theorem qm:∀{nl:List Nat} {n:Nat},n∈nl->tx nl (lC nl n)=n
 | x::r,n,h=>by
   simp only [lC]
   cases hb:Nat.beq x n with
   | true=>exact(ai _ _).1 hb
   | false =>
     rcases List.mem_cons.1 h with rfl | h
     ·rw [Nat.beq_refl] at hb;cases hb
     ·have:=qm h
      unfold tx at this ⊢
      simp only [nth]
      cases hn:nth r (lC r n) with
      | some m=>rw [hn] at this;exact this
      | none =>
        rw [hn] at this
        exfalso
        rw [nth_eq] at hn
        have hlen:r.length<=lC r n:=by
         rcases Nat.lt_or_ge (lC r n) r.length with hh | hh
         ·rw [List.getElem?_eq_getElem hh] at hn;cases hn
         ·exact hh
        have hlt:∀{l:List Nat},n∈l->lC l n < l.length:=by
         intro l
         induction l with
         | nil=>intro h;cases h
         | cons y l ih =>
           intro h
           simp only [lC]
           cases hy:Nat.beq y n with
           | true=>simp
           | false =>
             rcases List.mem_cons.1 h with rfl | h
             ·rw [Nat.beq_refl] at hy;cases hy
             ·have:=ih h;simp;omega
        have:=hlt h
        omega
def jJ (nl ks:List Nat) (nt:Nat) (s:St AV):St AV :=
 {E:=only ks (s.E.map fun p=>(p.1,p.2.ren (lC nl))) nt,H:=nl.map fun m=>match ab s.H m with | some c=>some (c.ren (lC nl)) | none=>none}
theorem C0 (f:SV->SV) (h0:f bV=bV):∀(E:Ev) (k:Nat),look (E.map fun p=>(p.1,f p.2)) k=f (look E k)
 | [],k=>h0.symm
 | (j,v)::r,k=>by
   simp only [List.map_cons,look]
   cases Nat.beq j k with
   | true=>rfl
   | false=>exact C0 f h0 r k
theorem tW (f:Nat->Option (Chunk AV)):∀(nl:List Nat) (n:Nat),ab (nl.map f) n=match nl[n]? with | some m=>f m | none=>none
 | [],n=>by simp [ab]
 | x::r,0=>by simp [ab]
 | x::r,n+1=>by simp only [List.map_cons,ab,tW f r n,List.getElem?_cons_succ]
def J5 (nl:List Nat):List Nat->Bool
 | []=>true
 | n::r=>match iU nl n with | true=>J5 nl r | false=>false
theorem sM {nl:List Nat}:∀{l:List Nat},J5 nl l=true->∀n∈l,n∈nl
 | [],_,n,h=>by cases h
 | x::r,hs,n,h=>by
   simp only [J5] at hs
   split at hs
   ·rename_i hx
    rcases List.mem_cons.1 h with rfl | h
    ·exact(dB _ _).1 hx
    ·exact sM hs n h
   ·cases hs
def Ov (nl:List Nat) (E:Ev):List Nat->Bool
 | []=>true
 | k::r=>match J5 nl (ig (look E k)) with | true=>Ov nl E r | false=>false
theorem y6 {nl:List Nat} {E:Ev}:∀{ks:List Nat},Ov nl E ks=true->∀k∈ks,∀n∈ig (look E k),n∈nl
 | [],_,k,h=>by cases h
 | x::r,hs,k,h=>by
   simp only [Ov] at hs
   split at hs
   ·rename_i hx
    rcases List.mem_cons.1 h with rfl | h
    ·exact sM hx
    ·exact y6 hs k h
   ·cases hs
def J6 (nl:List Nat) (H:Hp AV):List Nat->Bool
 | []=>true
 | m::r=>match (match ab H m with | some c=>J5 nl (cg c.cellsOf) | none=>true) with | true=>J6 nl H r | false=>false
theorem sN {nl:List Nat} {H:Hp AV}:∀{l:List Nat},J6 nl H l=true->∀m∈l,∀c,ab H m=some c->∀n∈cg c.cellsOf,n∈nl
 | [],_,m,h=>by cases h
 | x::r,hs,m,h=>by
   simp only [J6] at hs
   split at hs
   ·rename_i hx
    rcases List.mem_cons.1 h with rfl | h
    ·intro c hc
     rw [hc] at hx
     exact sM hx
    ·exact sN hs m h
   ·cases hs
def MU:Nat->Nat->List Nat->Bool
 | 0,_,_=>true
 | L+1,i,x::r=>match Nat.beq x i with | true=>MU L (i+1) r | false=>false
 | _+1,_,[]=>false
theorem zV:∀{L i:Nat} {nl:List Nat},MU L i nl=true->L<=nl.length /\ ∀n,n < L->nl[n]?=some (i+n)
 | 0,_,_,_=>⟨Nat.zero_le _,fun n h=>by omega⟩
 | L+1,i,[],h=>by simp [MU] at h
 | L+1,i,x::r,h=>by
   simp only [MU] at h
   split at h
   ·rename_i hx
    have hx:=(ai _ _).1 hx
    obtain⟨h1,h2⟩:=zV h
    refine⟨by simp;omega,fun n hn=>?_⟩
    cases n with
    | zero=>simp [hx]
    | succ n =>
      rw [List.getElem?_cons_succ,h2 n (by omega)]
      congr 1
      omega
   ·cases h
def Bm:List Nat->Bool
 | []=>true
 | x::r=>match iU r x with | true=>false | false=>Bm r
theorem uJ:∀{l:List Nat},Bm l=true->l.Nodup
 | [],_=>List.nodup_nil
 | x::r,h=>by
   simp only [Bm] at h
   split at h
   ·cases h
   ·rename_i hx
    exact List.nodup_cons.2 ⟨(fun e=>by rw [(dB _ _).2 e] at hx;cases hx),uJ h⟩
def MQ (L:Nat) (ks nl:List Nat) (s:St AV):Bool :=
 match Bm nl,MU L 0 nl,Ov nl s.E ks,J6 nl s.H nl with | true,true,true,true=>true | _,_,_,_=>false
theorem uT {π σ:Nat->Nat} {c:Chunk AV} (h:∀n∈cg c.cellsOf,π (σ n)=n):(c.ren σ).ren π=c:=by
 have hl:∀l:List Cell,(∀n∈cg l,π (σ n)=n)->(l.map (Cell.ren σ)).map (Cell.ren π)=l:=fun l hl=>by
  have:=sH (π:=π) (σ:=σ) (x:=.agg l) hl
  simpa [V1.ren] using this
 cases c with
 | cells l ty=>simp only [Chunk.ren];rw [hl l h]
 | vec l es ty=>simp only [Chunk.ren];rw [hl l h]
 | dead=>rfl
 | abs a=>rfl
theorem Cy {L nt:Nat} {ks nl:List Nat} {s:St AV} (h:MQ L ks nl s=true) (hG:N.G<=L) (hcl:Closed N (jJ nl ks nt s)) :
 Back N L nt s (jJ nl ks nt s) (tx nl):=by
 unfold MQ at h
 split at h
 ·rename_i h1 h2 h3 h4
  have h1:=uJ h1
  obtain⟨h2,h2'⟩:=zV h2
  have h3:=y6 h3
  have h4:=sN h4
  have hgt:∀n c,ab (jJ nl ks nt s).H n=some c->∃m d,nl[n]?=some m /\ ab s.H m=some d /\ c=d.ren (lC nl):=by
   intro n c hc
   rw [jJ,tW] at hc
   split at hc
   ·rename_i m hm
    split at hc
    ·rename_i d hd
     cases hc
     exact⟨m,d,hm,hd,rfl⟩
    ·cases hc
   ·cases hc
  have hnm:∀n m,nl[n]?=some m->tx nl n=m:=fun n m hm=>by unfold tx;rw [nth_eq,hm]
  refine⟨fun k hk hne=>?_,fun k hk=>?_,fun n c hc=>?_,fun n m c d hc hd he=>?_,fun n hn=>?_,fun n c hn hc=>?_,?_,hG,hcl⟩
  ·have e:look (jJ nl ks nt s).E k=match iU ks k with | true=>(look s.E k).ren (lC nl) | false=>.unk:=by
    rw [jJ,eu,if_pos hk,C0 (fun v=>v.ren (lC nl)) rfl]
    cases iU ks k<;>rfl
   cases hh:iU ks k with
   | false=>rw [e,hh] at hne;exact absurd rfl hne
   | true =>
     rw [e,hh]
     exact(sK fun n hn=>qm (h3 k ((dB _ _).1 hh) n hn)).symm
  ·rw [jJ,eu,if_neg (by omega)]
  ·obtain⟨m,d,g1,g2,rfl⟩:=hgt n c hc
   rw [hnm n m g1,uT fun x hx=>qm (h4 m (List.mem_of_getElem? g1) d g2 x hx)]
   exact⟨d,g2,Lesser.refl d⟩
  ·obtain⟨x,_,g1,_,_⟩:=hgt n c hc
   obtain⟨y,_,g2,_,_⟩:=hgt m d hd
   rw [hnm n x g1,hnm m y g2] at he
   subst he
   obtain⟨b1,e1⟩:=List.getElem?_eq_some_iff.1 g1
   exact(List.getElem?_inj b1 h1).1 (g1.trans g2.symm)
  ·rw [hnm n n (by rw [h2' n hn];simp)]
  ·refine⟨c.ren (lC nl),?_⟩
   rw [jJ,tW,h2' n hn]
   simp [hc]
  ·show L<=(nl.map _).length
   rw [List.length_map];exact h2
 ·cases h
theorem Back.less {L nt:Nat} {s t u:St AV} {π:Nat->Nat} (h:Back N L nt s t π) (hE:u.E=t.E) (hlen:u.H.length=t.H.length) (hH:∀n,(ab t.H n=none /\ ab u.H n=none) \/ ∃d c,ab t.H n=some d /\ ab u.H n=some c /\ Lesser N (d.ren π) (c.ren π)) (hcl:Closed N u):Back N L nt s u π:=by
 have get:∀n c,ab u.H n=some c->∃d,ab t.H n=some d /\ Lesser N (d.ren π) (c.ren π):=fun n c hc=>by
  rcases hH n with⟨_,h2⟩ | ⟨d,c',h1,h2,h3⟩
  ·rw [h2] at hc;cases hc
  ·rw [h2] at hc;cases hc;exact⟨d,h1,h3⟩
 refine⟨fun k hk hne=>?_,fun k hk=>by rw [hE];exact h.Eo k hk,fun n c hc=>?_,fun n m c d hc hd he=>?_,h.fix,fun n c hn hc=>?_,by rw [hlen];exact h.len,h.G,hcl⟩
 ·rw [hE] at hne ⊢;exact h.E k hk hne
 ·obtain⟨d,g1,g2⟩:=get n c hc
  obtain⟨e,g3,g4⟩:=h.H n d g1
  exact⟨e,g3,fun ρ m w=>⟨fun hq=>(g2 ρ m w).1 ((g4 ρ m w).1 hq),fun k=>((g2 ρ m w).2 k).trans ((g4 ρ m w).2 k)⟩⟩
 ·obtain⟨x,g1,_⟩:=get n c hc
  obtain⟨y,g2,_⟩:=get m d hd
  exact h.inj n m x y g1 g2 he
 ·obtain⟨c',hc'⟩:=h.keep n c hn hc
  rcases hH n with⟨h1,_⟩ | ⟨d,c2,h1,h2,_⟩
  ·rw [h1] at hc';cases hc'
  ·exact⟨c2,h2⟩
end
section
variable {AV:Type} {P:Program} {N:Env AV}
def dj {M:Type} (step:M->T (Ex×M)):Nat->M->Option (Ex×M)
 | 0,_=>none
 | k+1,m=>match (step m).val with
   | some (.normal,m')=>dj step k m'
   | some (.exit i,m')=>some (.exit i,m')
   | some (.ret,m')=>some (.ret,m')
   | none=>none
theorem zM {M:Type} {step:M->T (Ex×M)} {ex:Ex} {m':M}:∀{k:Nat} {m:M},dj step k m=some (ex,m')->∃m1,(step m1).val=some (ex,m')
 | 0,m,h=>by cases h
 | k+1,m,h=>by
   simp only [dj] at h
   split at h
   ·exact zM h
   ·rename_i hs;cases h;exact⟨m,hs⟩
   ·rename_i hs;cases h;exact⟨m,hs⟩
   ·cases h
def VO:Nat->Nat->List Nat
 | _,0=>[]
 | i,n+1=>i::VO (i+1) n
def LO (E:Ev):List Nat->List Nat
 | []=>[]
 | k::r=>ig (look E k)++LO E r
def Bq (H:Hp AV):List Nat->List Nat
 | []=>[]
 | n::r=>(match ab H n with | some c=>cg c.cellsOf | none=>[])++Bq H r
def Ij (H:Hp AV):Nat->List Nat->List Nat
 | 0,a=>a
 | k+1,a=>match vX a (Bq H a) with
   | b=>match Nat.beq b.length a.length with
     | true=>b
     | false=>Ij H k b
def Fq (L:Nat) (ks:List Nat) (s:St AV):List Nat:=match vX (VO 0 L) (LO s.E ks) with
 | a=>Ij s.H 9 a
def CF (pk:Chunk AV->Option AV):Option (Chunk AV)->Option (Chunk AV)
 | none=>none
 | some c=>match pk c with | some a=>some (.abs a) | none=>some c
def Rt (pk:Chunk AV->Option AV) (s:St AV):St AV:={E:=s.E,H:=s.H.map (CF pk)}
def I8 (H:Hp AV) (E:Ev):List Nat->Bool
 | []=>true
 | k::r=>match clV H (look E k) with | true=>I8 H E r | false=>false
theorem Aw {H:Hp AV} {E:Ev}:∀{ks:List Nat},I8 H E ks=true->∀k∈ks,ClV H (look E k)
 | [],_,k,h=>by cases h
 | x::r,hs,k,h=>by
   simp only [I8] at hs
   split at hs
   ·rename_i hx
    rcases List.mem_cons.1 h with rfl | h
    ·exact pB.1 hx
    ·exact Aw hs k h
   ·cases hs
def cM (L nt:Nat) (ks:List Nat) (pk:Chunk AV->Option AV) (r:Ex×St AV):T (Ex×St AV) :=
 match Fq L ks r.2 with
 | nl=>match MQ L ks nl r.2 with
   | false=>.fail "back: names"
   | true=>match jJ nl ks nt r.2 with
     | s=>match Rt pk s with
       | t=>match I8 s.H s.E ks,clHs s.H s.H,I8 t.H t.E ks,clHs t.H t.H with
         | true,true,true,true=>.leaf (r.1,t)
         | _,_,_,_=>.fail "back: closed"
theorem uQ {nt:Nat} {ks:List Nat} {E:Ev} {H:Hp AV} (h1:I8 H (only ks E nt) ks=true) (h2:clHs H H=true):Closed N {E:=only ks E nt,H:=H}:=by
 refine⟨fun k=>?_,eY.1 h2⟩
 by_cases hk:k < nt
 ·cases hh:iU ks k with
  | true=>exact Aw h1 k ((dB _ _).1 hh)
  | false =>
    simp only [eu,if_pos hk,hh]
    trivial
 ·simp only [eu,if_neg hk]
  exact hD _
theorem Ie {pk:Chunk AV->Option AV} (hpk:∀d a,pk d=some a->∀π,Lesser N (d.ren π) (.abs a)) (π:Nat->Nat) (d:Chunk AV):∃c,CF pk (some d)=some c /\ Lesser N (d.ren π) (c.ren π):=by
 simp only [CF]
 split
 ·rename_i a ha;exact⟨_,rfl,hpk d a ha π⟩
 ·exact⟨d,rfl,Lesser.refl _⟩
theorem pe (f:Option (Chunk AV)->Option (Chunk AV)) (h0:f none=none):∀(H:Hp AV) (n:Nat),ab (H.map f) n=f (ab H n)
 | [],n=>by cases n<;>simp [ab,h0]
 | x::r,0=>rfl
 | x::r,n+1=>by simp only [List.map_cons,ab];exact pe f h0 r n
theorem yy {L nt:Nat} {ks:List Nat} {pk:Chunk AV->Option AV} (hpk:∀d a,pk d=some a->∀π,Lesser N (d.ren π) (.abs a)) (hG:N.G<=L) {r r':Ex×St AV} (h:(cM L nt ks pk r).val=some r'):r'.1=r.1 /\ ∃π,Back N L nt r.2 r'.2 π:=by
 unfold cM at h
 simp only at h
 split at h
 ·simp [T.val] at h
 ·rename_i hf
  split at h
  ·rename_i h1 h2 h3 h4
   simp only [T.val,Option.some.injEq] at h
   subst h
   refine⟨rfl,_,(Cy hf hG (uQ h1 h2)).less rfl (by simp [Rt]) (fun n=>?_) (uQ h3 h4)⟩
   show _ \/ ∃d c,_ /\ ab ((jJ _ ks nt r.2).H.map (CF pk)) n=some c /\ _
   rw [pe _ rfl]
   cases hd:ab (jJ (Fq L ks r.2) ks nt r.2).H n with
   | none=>exact .inl ⟨rfl,by show ab ((jJ _ ks nt r.2).H.map (CF pk)) n=none;rw [pe _ rfl,hd];rfl⟩
   | some d =>
     obtain⟨c,g1,g2⟩:=Ie hpk (tx (Fq L ks r.2)) d
     exact .inr ⟨d,c,rfl,g1,g2⟩
  ·simp [T.val] at h
def Enter (N:Env AV) (nt:Nat) (s t:St AV):Prop:=Closed N s->Closed N t /\ s.H.length<=t.H.length /\ ∀(ρ:Nm) (a:Act) (w:World),At N nt ρ s a w->∃ρ',At N nt ρ' t a w /\ Evo N s.H.length ρ s.H w ρ' t.H w
theorem Fa {nt:Nat} {s t:St AV} (hE:Says nt s.E t.E) (hH:t.H=s.H):Enter N nt s t:=by
 obtain⟨E,H⟩:=t
 simp only at hE hH
 subst hH
 exact fun h=>⟨Says.closed (N:=N) (N':=N) hE h,Nat.le_refl _,fun ρ a w hat=>⟨ρ,⟨hE.em hat.em,hat.own⟩,Evo.refl _ _ _ _⟩⟩
theorem Enter.trans {nt:Nat} {s t u:St AV} (h1:Enter N nt s t) (h2:Enter N nt t u):Enter N nt s u:=fun h=>by
 obtain⟨c1,l1,k1⟩:=h1 h
 obtain⟨c2,l2,k2⟩:=h2 c1
 exact⟨c2,Nat.le_trans l1 l2,fun ρ a w hat=>by
  obtain⟨ρ1,a1,e1⟩:=k1 ρ a w hat
  obtain⟨ρ2,a2,e2⟩:=k2 ρ1 a w a1
  exact⟨ρ2,a2,e1.trans (e2.weaken l1)⟩⟩
theorem Fc {nt:Nat} {s t:St AV} {l:List AV} (hH:t.H=s.H++cr l) (hl:∀a∈l,∃es ty,N.F.arr a=some (es,ty,[])) (hG:N.G<=s.H.length)
 (hE:∀k,k < nt->look t.E k=.unk \/ look t.E k=look s.E k \/ (look s.E k≠.unk /\ Plain (look t.E k) /\ ∀ρ,(look t.E k).den ρ=(look s.E k).den ρ) \/ (look s.E k=.v (.c .snil) /\ ∃j es,j < l.length /\ look t.E k=.v (.c (.vs (s.H.length+j) 0 0 es false))))
 (hEo:∀k,nt<=k->look t.E k=bV):Enter N nt s t:=fun hc=>by
 have hget0:∀n,ab t.H n=if n < s.H.length then ab s.H n else ab (cr l) (n - s.H.length):=fun n=>by rw [hH,aH]
 have pers:∀n c,ab s.H n=some c->ab t.H n=some c:=fun n c h=>by rw [hget0,if_pos (aX h)];exact h
 refine⟨⟨fun k=>?_,fun n x hx=>?_⟩,by rw [hH];simp,fun ρ a w hat=>?_⟩
 ·rcases Nat.lt_or_ge k nt with hk | hk
  ·rcases hE k hk with e | e | ⟨_,e,_⟩ | ⟨_,j,es,hj,e⟩
   ·rw [e];trivial
   ·rw [e];exact(hc.E k).mono fun n c h=>⟨c,pers n c h⟩
   ·exact e.cl _
   ·rw [e]
    intro c hcc m hm
    simp [V1.cells] at hcc
    subst hcc
    simp only [Cell.name,Option.some.injEq] at hm
    subst hm
    refine⟨.abs l[j],?_⟩
    rw [hget0,if_neg (by omega),Nat.add_sub_cancel_left]
    exact(bL _ _ _).2 ⟨_,List.getElem?_eq_getElem hj,rfl⟩
  ·rw [hEo k hk];exact hD _
 ·rw [hget0] at hx
  split at hx
  ·exact(hc.H n x hx).mono fun n c h=>⟨c,pers n c h⟩
  ·obtain⟨a,_,rfl⟩:=(bL _ _ _).1 hx
   intro c hc;cases hc
 ·let ρ':Nm:=⟨fun n=>if n < s.H.length then ρ.L n else⟨0,0,0⟩,fun n=>if n < s.H.length then ρ.S n else fun _=>False⟩
  have eL:∀n,n < s.H.length->ρ'.L n=ρ.L n:=fun n hn=>if_pos hn
  have eS:∀n,n < s.H.length->ρ'.S n=ρ.S n:=fun n hn=>if_pos hn
  have eL0:∀n,¬n < s.H.length->ρ'.L n=⟨0,0,0⟩:=fun n hn=>if_neg hn
  have eS0:∀n,¬n < s.H.length->ρ'.S n=fun _=>False:=fun n hn=>if_neg hn
  have agr:∀n c,ab s.H n=some c->ρ'.L n=ρ.L n:=fun n c h=>eL n (aX h)
  have fp0:∀n c k,ab t.H n=some c->c.fp ρ' n k->n < s.H.length /\ ab s.H n=some c /\ c.fp ρ n k:=fun n c k hc hk=>by
   rw [hget0] at hc
   split at hc
   ·rename_i hn
    rw [bA (eL n hn) (eS n hn)] at hk
    exact⟨hn,hc,hk⟩
   ·rename_i hn
    obtain⟨a,_,rfl⟩:=(bL _ _ _).1 hc
    have hk:ρ'.S n k:=hk
    rw [eS0 n hn] at hk
    exact hk.elim
  have own:Own N ρ' t.H w:=by
   refine hat.own.sub ⟨fun n c hcn=>?_,fun n m c d hnm hc hd k hk hk'=>?_,fun g hg=>?_⟩ fun n c k hc hk=>?_
   ·rw [hget0] at hcn
    split at hcn
    ·rename_i hn
     exact jK (hat.own.q n c hcn) (eL n hn) (eS n hn) (denL_congr (hc.H n c hcn) fun x y hy=>agr x y hy) (fun _ _=>rfl)
    ·rename_i hn
     obtain⟨a,ha,rfl⟩:=(bL _ _ _).1 hcn
     obtain⟨es,ty,harr⟩:=hl a (List.mem_of_getElem? ha)
     show N.F.q a _ _ _
     rw [eL0 n hn,eS0 n hn]
     exact((N.F.arr_q a _ _ _ harr).2 _ _ _).2 (.inl ⟨Nat.zero_le _,rfl,fun k h=>h⟩)
   ·obtain⟨h1,h2,h3⟩:=fp0 n c k hc hk
    obtain⟨g1,g2,g3⟩:=fp0 m d k hd hk'
    exact hat.own.dis n m c d hnm h2 g2 k h3 g3
   ·show (ρ'.L g).b=g
    rw [eL g (by omega)]
    exact hat.own.glb g hg
   ·obtain⟨h1,h2,h3⟩:=fp0 n c k hc hk
    exact⟨n,c,h2,h3⟩
  refine⟨ρ',⟨⟨hat.em.size,fun k hk=>?_⟩,own⟩,⟨fun n c h=>⟨c,pers n c h⟩,fun n c h=>agr n c h,fun n hn h=>?_,by rw [hH];simp,fun _ _ _=>rfl,fun n c k hc hk=>?_,rfl,rfl,rfl,Nat.le_refl _⟩⟩
  ·rcases Nat.lt_or_ge k nt with hlt | hge
   ·rcases hE k hlt with e | e | ⟨e1,e2,e3⟩ | ⟨e1,j,es,hj,e2⟩
    ·exact absurd e hk
    ·rw [e] at hk ⊢
     rw [hat.em.get k hk]
     exact(SV.den_congr (hc.E k) agr).symm
    ·rw [e3,hat.em.get k e1]
     exact(SV.den_congr (hc.E k) agr).symm
    ·rw [e2,hat.em.get k (by rw [e1];exact fun h=>by cases h),e1]
     show _=aW (ρ'.L (s.H.length+j)) 0 0 es
     rw [eL0 _ (by omega)]
     rfl
   ·rw [hEo k hge]
    have:¬k < a.tmps.size:=by rw [hat.em.size];omega
    simp [Array.getD,this,bV,SV.den,undef]
  ·rw [hget0,if_pos hn];exact h
  ·obtain⟨h1,h2,h3⟩:=fp0 n c k hc hk
   exact .inr ⟨n,c,h2,h3⟩
structure ItAt (N:Env AV) (cal:Callee AV) (lp:Nat->Option (St AV->T (Ex×St AV))) (nt:Nat) (c:Code) (s s':St AV) (ex:Ex) where
 M:Type
 fam:M->St AV
 step:M->T (Ex×M)
 ks:List Nat
 pk:Chunk AV->Option AV
 hpk:∀d a,pk d=some a->∀π,Lesser N (d.ren π) (.abs a)
 L:Nat
 len:s.H.length=L
 hGL:N.G<=L
 run:∀m r,(step m).val=some r->((xc N cal lp nt c (fam m)).bind (cM L nt ks pk)).val=some (r.1,fam r.2)
 m:M
 k:Nat
 m':M
 ent:Enter N nt s (fam m)
 it:dj step k m=some (ex,m')
 fin:s'=fam m'
structure ItG (P:Program) (N:Env AV) (nt:Nat) (c:Code) (s s':St AV) (ex:Ex) where
 M:Type
 fam:M->St AV
 step:M->T (Ex×M)
 L:Nat
 len:s.H.length=L
 hGL:N.G<=L
 run:∀m r,(step m).val=some r->∃s1,Rnd P N nt c (fam m) r.1 s1 /\ ∃π,Back N L nt s1 (fam r.2) π
 m:M
 k:Nat
 m':M
 ent:Enter N nt s (fam m)
 it:dj step k m=some (ex,m')
 fin:s'=fam m'
theorem xy {N N':Env AV} (hF:N'.F=N.F) (hG:N'.G=N.G) {nt:Nat} {c:Code} {g:St AV->T (Ex×St AV)} (h:∀s s' ex,(g s).val=some (ex,s')->Nonempty (ItG P N nt c s s' ex)):dG P N' nt c g:=by
 intro L0 s s' ex hg hcl hL
 obtain⟨M,fam,step,L,rfl,hGL,one,m,k,m',hent,hit,rfl⟩:=h s s' ex hg
 have hclN:Closed N s:=m5 N hcl
 obtain⟨m1,hm1⟩:=zM hit
 obtain⟨s1,_,_,hb1⟩:=one m1 _ hm1
 simp only at hb1
 refine⟨m5 N' hb1.cl,Nat.le_trans hL hb1.len,fun {ρ a w} hat=>?_⟩
 have hatN:At N nt ρ s a w:=⟨hat.em,je hF.symm hG.symm hat.own⟩
 obtain⟨hent1,hent2,hent3⟩:=hent hclN
 obtain⟨ρ1,hat1,hev1⟩:=hent3 ρ a w hatN
 refine wp_loop_rounds (k+1) (CY (P:=P) (ι:={p:Nat×M // dj step p.1 p.2=some (ex,m')}) (fun p=>fam p.1.2) (fun p=>p.1.1) (fun e s1=>e=ex /\ ∃π,Back N s.H.length nt s1 (fam m') π) s.H.length (fun i=>?_) (ρ0:=ρ) (H0:=s.H) (w0:=w) rfl (k+1) ⟨(k,m),hit⟩ (by simp) hent1 hent2 ρ1 a w hat1 hev1 _ ?_)
 ·obtain⟨⟨j,n⟩,hi⟩:=i
  cases j with
  | zero=>cases hi
  | succ j =>
    simp only [dj] at hi
    split at hi
    ·rename_i m2 hs
     obtain⟨s2,g1,π,g2⟩:=one n _ hs
     exact⟨.normal,s2,g1,⟨(j,m2),hi⟩,π,by simp,g2⟩
    ·rename_i id m2 hs
     cases hi
     obtain⟨s2,g1,π,g2⟩:=one n _ hs
     exact⟨.exit id,s2,g1,rfl,π,g2⟩
    ·rename_i m2 hs
     cases hi
     obtain⟨s2,g1,π,g2⟩:=one n _ hs
     exact⟨.ret,s2,g1,rfl,π,g2⟩
    ·cases hi
 ·rintro ex1 s2 ρ2 a' w' ⟨rfl,π,hb⟩ _ _ hat2 hev2 d2
  have h3:=hb.at hat2
  exact⟨rfl,⟨ρ2.ren π,h3.em,je hF hG h3.own,rY N' ((hb.evo rfl hev2).weaken hL)⟩,d2⟩
theorem cJ {N N':Env AV} (hF:N'.F=N.F) (hG:N'.G=N.G) (hT:TblOk P N) {cal:Callee AV} (hcal:dM P N cal) {lp:Nat->Option (St AV->T (Ex×St AV))} {nt:Nat} {c:Code} (hlp:FE P N nt c lp)
 {g:St AV->T (Ex×St AV)} (h:∀s s' ex,(g s).val=some (ex,s')->Nonempty (ItAt N cal lp nt c s s' ex)):dG P N' nt c g:=xy hF hG fun s s' ex hg=>by
 obtain⟨M,fam,step,ks,pk,hpk,L,hL,hGL,hrun,m,k,m',hent,hit,hfin⟩:=h s s' ex hg
 exact⟨⟨M,fam,step,L,hL,hGL,fun m r hr=>by
  obtain⟨⟨e1,s1⟩,h1,h2⟩:=T.bind_some (hrun m r hr)
  obtain⟨h3,π,h4⟩:=yy hpk hGL h2
  exact⟨s1,KN hT hcal hlp (by rw [h3];exact h1),π,h4⟩,m,k,m',hent,hit,hfin⟩⟩
end
section
variable {AV:Type} {P:Program} {N:Env AV}
def DA (H:Hp AV):List Nat->Option (List (Chunk AV))
 | []=>some []
 | n::r=>match ab H n with
   | some c=>match DA H r with | some l=>some (c::l) | none=>none
   | none=>none
theorem yq {H:Hp AV}:∀{ns:List Nat} {l:List (Chunk AV)},DA H ns=some l->l.length=ns.length /\ ∀(i n:Nat),ns[i]?=some n->∃c,l[i]?=some c /\ ab H n=some c
 | [],l,h=>by simp only [DA,Option.some.injEq] at h;subst h;exact⟨rfl,fun i n h=>by simp at h⟩
 | n::r,l,h=>by
   simp only [DA] at h
   split at h
   ·rename_i c hc
    split at h
    ·rename_i l' hl
     cases h
     obtain⟨h1,h2⟩:=yq hl
     refine⟨congrArg (·+1) h1,fun i m hm=>?_⟩
     cases i with
     | zero=>cases hm;exact⟨c,rfl,hc⟩
     | succ i=>exact h2 i m hm
    ·cases h
   ·cases h
def chL (l:List (Chunk AV)):Hp AV:=l.map some
theorem BO (l:List (Chunk AV)) (n:Nat) (c:Chunk AV):ab (chL l) n=some c↔l[n]?=some c:=by
 induction l generalizing n with
 | nil=>cases n<;>simp [chL,ab]
 | cons a r ih =>
   cases n with
   | zero=>simp [chL,ab]
   | succ n=>exact ih n
theorem Qm (l:List (Chunk AV)):(chL l).length=l.length:=by simp [chL]
def wR:List Nat->List (Chunk AV)->Hp AV->Hp AV
 | n::r,c::l,H=>wR r l (bC H n (some c))
 | _,_,H=>H
theorem CE:∀(ns:List Nat) (l:List (Chunk AV)) (H:Hp AV),(wR ns l H).length=H.length
 | [],l,H=>by cases l<;>rfl
 | n::r,[],H=>rfl
 | n::r,a::l,H=>by
   show (wR r l (bC H n (some a))).length=_
   rw [CE r l,bX]
theorem mf:∀(ns:List Nat) (l:List (Chunk AV)) (H:Hp AV) (m:Nat),m ∉ ns->ab (wR ns l H) m=ab H m
 | [],l,H,m,h=>by cases l<;>rfl
 | n::r,[],H,m,h=>rfl
 | n::r,a::l,H,m,h=>by
   show ab (wR r l (bC H n (some a))) m=_
   rw [mf r l _ m (fun e=>h (List.mem_cons_of_mem _ e)),aK _ (fun e=>h (by rw [e];exact List.mem_cons_self))]
theorem vp:∀(ns:List Nat) (l:List (Chunk AV)) (H:Hp AV),ns.Nodup->(∀n∈ns,n < H.length)->∀(i n:Nat) (a:Chunk AV),ns[i]?=some n->l[i]?=some a->ab (wR ns l H) n=some a
 | [],l,H,h,hl,i,n,a,h1,h2=>by simp at h1
 | n::r,[],H,h,hl,i,m,a,h1,h2=>by simp at h2
 | n::r,b::l,H,h,hl,i,m,a,h1,h2=>by
   show ab (wR r l (bC H n (some b))) m=_
   obtain⟨hn,hr⟩:=List.nodup_cons.1 h
   cases i with
   | zero =>
     simp only [List.getElem?_cons_zero,Option.some.injEq] at h1 h2
     subst h1 h2
     rw [mf r l _ _ hn,bn _ (hl _ List.mem_cons_self)]
   | succ i =>
     simp only [List.getElem?_cons_succ] at h1 h2
     exact vp r l _ hr (fun x hx=>by rw [bX];exact hl x (List.mem_cons_of_mem _ hx)) i m a h1 h2
def gd (H:Hp AV) (l:List Nat):List Nat:=match vX [] l with
 | a=>Ij H 9 a
theorem zs (H:Hp AV):∀(k:Nat) (a:List Nat),a.Nodup->(Ij H k a).Nodup /\ ∀n∈a,n∈Ij H k a
 | 0,a,h=>⟨h,fun n hn=>hn⟩
 | k+1,a,h=>by
   obtain⟨b1,b2⟩:=lV (Bq H a) a h
   simp only [Ij]
   split
   ·exact⟨b1,fun n hn=>(b2 n).2 (.inl hn)⟩
   ·obtain⟨c1,c2⟩:=zs H k _ b1
    exact⟨c1,fun n hn=>c2 n ((b2 n).2 (.inl hn))⟩
theorem Ii (H:Hp AV) (l:List Nat):(gd H l).Nodup /\ ∀n∈l,n∈gd H l:=by
 unfold gd
 simp only
 obtain⟨a1,a2⟩:=lV l [] List.nodup_nil
 obtain⟨b1,b2⟩:=zs H 9 _ a1
 exact⟨b1,fun n hn=>b2 n ((a2 n).2 (.inr hn))⟩
def kW (isS:AV->Nat->Bool) (M:List Bool) (tree:List SV->List (Chunk AV)->T (SV×List (Chunk AV)×List (Chunk AV))) (args:List SV) (H:Hp AV):T (SV×Hp AV) :=
 match mW isS 0 M H with
 | false=>.fail "summary: variables"
 | true=>match gd H (ee args) with
   | ns=>match DA H ns,DJ M.length ns,J6 ns H ns with
     | some l,true,true=>(tree (args.map (SV.ren fun n=>M.length+lg ns n)) (l.map (Chunk.ren fun n=>M.length+lg ns n))).bind fun r=>match Nat.beq r.2.1.length l.length with
       | true=>.leaf (r.1.ren (uZ M.length ns H.length),wR ns (r.2.1.map (Chunk.ren (uZ M.length ns H.length))) H++chL (r.2.2.map (Chunk.ren (uZ M.length ns H.length))))
       | false=>.fail "summary: things"
     | _,_,_=>.fail "summary: things"
theorem jd {isS:AV->Nat->Bool} {sn:Nat->AV} (hs:∀a i,isS a i=true->a=sn i) {M:List Bool} (hG:N.G=M.length) {tree:List SV->List (Chunk AV)->T (SV×List (Chunk AV)×List (Chunk AV))} {f:FuncId}
 (h:∀args l v l' nw,(tree args l).val=some (v,l',nw)->l'.length=l.length->(∀x∈args,ClV (bB sn 0 M++chL l) x)->bU N (bB sn 0 M++chL l)->Ctr P N f args (bB sn 0 M++chL l) v (bB sn 0 M++chL (l'++nw))):FnOk P N f (kW isS M tree):=by
 refine FnOk.of fun args H v H' hr ha hC=>?_
 unfold kW at hr
 split at hr
 ·simp [T.val] at hr
 rename_i hgl
 obtain⟨hML,hgl⟩:=oB hs hgl
 dsimp only at hr
 obtain⟨hnd,hmem⟩:=Ii H (ee args)
 generalize gd H (ee args)=ns at hr hnd hmem
 split at hr
 ·rename_i l0 hl hge hsub
  obtain⟨⟨v1,l',nw⟩,ht,hr⟩:=T.bind_some hr
  have hsub:=sN hsub
  split at hr
  ·rename_i hlen
   have hlen0:l'.length=l0.length:=(ai _ _).1 hlen
   simp only [T.val,Option.some.injEq,Prod.mk.injEq] at hr
   obtain⟨rfl,rfl⟩:=hr
   obtain⟨al1,al2⟩:=yq hl
   have hge:=qL hge
   have hnlt:∀n∈ns,n < H.length:=fun n hn=>by
    obtain⟨i,hi⟩:=List.mem_iff_getElem?.1 hn
    obtain⟨a,_,h2⟩:=al2 i n hi
    exact aX h2
   let G:=M.length
   let π:=uZ G ns H.length
   let l:=l0.map (Chunk.ren fun n=>G+lg ns n)
   have hlen:l'.length=l.length:=by show _=(l0.map _).length;rw [List.length_map];exact hlen0
   have lget:∀(j:Nat) (c:Chunk AV),l[j]?=some c->∃n,ns[j]?=some n /\ ab H n=some (c.ren π):=fun j c hj=>by
    have hj:(l0.map (Chunk.ren fun n=>G+lg ns n))[j]?=some c:=hj
    rw [List.getElem?_map,Option.map_eq_some_iff] at hj
    obtain⟨d,hd,rfl⟩:=hj
    have hjl:j < ns.length:=by rw [<- al1];exact(List.getElem?_eq_some_iff.1 hd).1
    have h2:ns[j]?=some ns[j]:=List.getElem?_eq_getElem hjl
    obtain⟨d',h3,h4⟩:=al2 j _ h2
    rw [hd] at h3
    cases h3
    exact⟨_,h2,by rw [h4,uT fun n hn=>jZ (mq (hsub _ (List.getElem_mem hjl) d h4 n hn))]⟩
   have lat:∀n,n∈ns->∃d,ab H n=some d /\ l[lg ns n]?=some (d.ren fun n=>G+lg ns n):=fun n hn=>by
    obtain⟨d,h1,h2⟩:=al2 _ _ (mq hn)
    exact⟨d,h2,by show (l0.map _)[_]?=_;rw [List.getElem?_map,h1];rfl⟩
   have back:∀x∈args,((x.ren fun n=>G+lg ns n).ren π)=x:=fun x hx=>sK fun n hn=>by
    have:n∈ns:=hmem n (lz.2 ⟨x,hx,hn⟩)
    exact jZ (mq this)
   have eargs:args=(args.map (SV.ren fun n=>G+lg ns n)).map (SV.ren π):=by
    rw [List.map_map]
    conv=>lhs;rw [<- List.map_id args]
    exact List.map_congr_left fun x hx=>(back x hx).symm
   have pO:(bB sn 0 M).length=G:=dv sn M 0
   have getS:∀(q:List (Chunk AV)) i c,ab (bB sn 0 M++chL q) i=some c↔(i < G /\ M[i]?=some true /\ c=.abs (sn i)) \/ ∃j,i=G+j /\ q[j]?=some c:=fun q i c=>by
    rw [aH,pO]
    by_cases hi:i < G
    ·rw [if_pos hi,iM,Nat.zero_add]
     constructor
     ·rintro ⟨h1,h2⟩;exact .inl ⟨hi,h1,h2⟩
     ·rintro (⟨_,h1,h2⟩ | ⟨j,h1,_⟩)
      ·exact⟨h1,h2⟩
      ·omega
    ·rw [if_neg hi,BO]
     constructor
     ·intro h1;exact .inr ⟨i - G,by omega,h1⟩
     ·rintro (⟨h1,_⟩ | ⟨j,rfl,h1⟩)
      ·exact absurd h1 hi
      ·rw [Nat.add_sub_cancel_left];exact h1
   have small:∀n,n∈ns->∃c,ab (bB sn 0 M++chL l) (G+lg ns n)=some c:=fun n hn=>by
    obtain⟨d,_,h2⟩:=lat n hn
    exact⟨_,(getS l _ _).2 (.inr ⟨_,rfl,h2⟩)⟩
   have hlist:∀cs:List Cell,(∀n∈cg cs,n∈ns)->ClL (bB sn 0 M++chL l) (cs.map (Cell.ren fun n=>G+lg ns n)):=fun cs hcs c hc n hn=>by
    obtain⟨d,hd,rfl⟩:=List.mem_map.1 hc
    rw [rH] at hn
    obtain⟨m,hm,rfl⟩:=Option.map_eq_some_iff.1 hn
    exact small m (hcs m (rL.2 ⟨d,hd,hm⟩))
   have argcl:∀x∈args.map (SV.ren fun n=>G+lg ns n),ClV (bB sn 0 M++chL l) x:=fun y hy=>by
    obtain⟨x,hx,rfl⟩:=List.mem_map.1 hy
    have one:∀z:V1,(∀n∈cg z.cells,n∈ns)->ClV1 (bB sn 0 M++chL l) (z.ren fun n=>G+lg ns n):=fun z hz=>by
     cases z with
     | c c =>
       have:=hlist [c] hz
       simpa [ClV1,V1.cells,V1.ren] using this
     | agg cs=>exact hlist cs hz
    have hx':∀n∈ig x,n∈ns:=fun n hn=>hmem n (lz.2 ⟨x,hx,hn⟩)
    cases x with
    | v x=>exact one x hx'
    | tup q =>
      intro z hz
      obtain⟨z',hz',rfl⟩:=List.mem_map.1 hz
      exact one z' fun n hn=>hx' n (mT.2 ⟨z',hz',hn⟩)
    | unk=>trivial
    | clo f cs=>exact one (.agg cs) hx'
   have heapcl:bU N (bB sn 0 M++chL l):=by
    refine⟨fun i c hi=>?_,trivial⟩
    rcases (getS l i c).1 hi with⟨_,_,rfl⟩ | ⟨j,rfl,h1⟩
    ·intro c hc;cases hc
    ·have h1:(l0.map (Chunk.ren fun n=>G+lg ns n))[j]?=some c:=h1
     rw [List.getElem?_map,Option.map_eq_some_iff] at h1
     obtain⟨d,hd,rfl⟩:=h1
     have hjl:j < ns.length:=by rw [<- al1];exact(List.getElem?_eq_some_iff.1 hd).1
     obtain⟨d',h3,h4⟩:=al2 j _ (List.getElem?_eq_getElem hjl)
     rw [hd] at h3
     cases h3
     rw [uS]
     exact hlist _ fun n hn=>hsub _ (List.getElem_mem hjl) d h4 n hn
   have hc:=h _ l v1 l' nw ht hlen argcl heapcl
   rw [eargs]
   have πlt:∀i,i < G->π i=i:=fun i hi=>Gu hi
   have lenP:=CE ns (l'.map (Chunk.ren π)) H
   have mget:∀(q:List (Chunk AV)) (j:Nat) a,q[j]?=some a->(q.map (Chunk.ren π))[j]?=some (a.ren π):=fun q j a hj=>by rw [List.getElem?_map,hj];rfl
   have lens:l.length=ns.length:=by show (l0.map _).length=_;rw [List.length_map,al1]
   have stand:∀j a,(l'++nw)[j]?=some a->(∃n,ns[j]?=some n /\ π (G+j)=n /\ ab (wR ns (l'.map (Chunk.ren π)) H++chL (nw.map (Chunk.ren π))) n=some (a.ren π)) \/ (ns.length<=j /\ π (G+j)=H.length+(j - ns.length) /\ ab (wR ns (l'.map (Chunk.ren π)) H++chL (nw.map (Chunk.ren π))) (H.length+(j - ns.length))=some (a.ren π)):=fun j a hj=>by
    by_cases hjl:j < ns.length
    ·have h1:ns[j]?=some ns[j]:=List.getElem?_eq_getElem hjl
     rw [List.getElem?_append_left (by omega)] at hj
     refine .inl ⟨ns[j],h1,jZ h1,?_⟩
     rw [aH,lenP,if_pos (hnlt _ (List.getElem_mem hjl))]
     exact vp ns _ H hnd hnlt j _ _ h1 (mget _ _ _ hj)
    ·rw [List.getElem?_append_right (by omega)] at hj
     refine .inr ⟨by omega,?_,?_⟩
     ·have:=rC (G:=G) (ns:=ns) (L:=H.length) (j:=j - ns.length)
      rw [show G+ns.length+(j - ns.length)=G+j by omega] at this
      exact this
     ·rw [aH,lenP,if_neg (by omega),Nat.add_sub_cancel_left]
      refine(BO _ _ _).2 (mget _ _ _ ?_)
      rw [hlen,lens] at hj
      exact hj
   have sren:∀i,(Chunk.abs (sn i):Chunk AV)=(Chunk.abs (sn i)).ren π:=fun i=>rfl
   refine Al (π:=π) hc (B':=wR ns (l'.map (Chunk.ren π)) H++chL (nw.map (Chunk.ren π))) ?_ ?_ ?_ ?_ hC ?_ ?_ ?_ ?_ ?_ ?_ ?_
   ·intro i c hi
    rcases (getS l i c).1 hi with⟨h1,h2,rfl⟩ | ⟨j,rfl,h1⟩
    ·rw [πlt i h1]
     have:=hgl i h2
     rw [Nat.zero_add] at this
     exact this
    ·obtain⟨n,g1,g2⟩:=lget j c h1
     rw [show π (G+j)=n from jZ g1]
     exact g2
   ·intro i j c d hi hj e
    rcases (getS _ i c).1 hi with⟨h1,_,_⟩ | ⟨x,rfl,h1⟩<;>rcases (getS _ j d).1 hj with⟨g1,_,_⟩ | ⟨y,rfl,g1⟩
    ·rw [πlt i h1,πlt j g1] at e;exact e
    ·rw [πlt i h1] at e
     rcases stand y d g1 with⟨n,s1,s2,_⟩ | ⟨s0,s1,_⟩
     ·rw [s2] at e
      have:=hge n (List.mem_of_getElem? s1)
      omega
     ·rw [s1] at e;omega
    ·rw [πlt j g1] at e
     rcases stand x c h1 with⟨n,s1,s2,_⟩ | ⟨s0,s1,_⟩
     ·rw [s2] at e
      have:=hge n (List.mem_of_getElem? s1)
      omega
     ·rw [s1] at e;omega
    ·rcases stand x c h1 with⟨n,s1,s2,_⟩ | ⟨s0,s1,_⟩<;>rcases stand y d g1 with⟨m,t1,t2,_⟩ | ⟨t0,t1,_⟩
     ·rw [s2,t2] at e
      subst e
      have:=tn hnd s1 t1
      omega
     ·rw [s2,t1] at e
      have:=hnlt n (List.mem_of_getElem? s1)
      omega
     ·rw [s1,t2] at e
      have:=hnlt m (List.mem_of_getElem? t1)
      omega
     ·rw [s1,t1] at e;omega
   ·intro i c hi
    rcases (getS l i c).1 hi with⟨h1,h2,rfl⟩ | ⟨j,rfl,h1⟩
    ·exact⟨_,(getS _ _ _).2 (.inl ⟨h1,h2,rfl⟩)⟩
    ·have hj:j < l'.length:=by rw [hlen];exact(List.getElem?_eq_some_iff.1 h1).1
     exact⟨_,(getS _ _ _).2 (.inr ⟨j,rfl,by rw [List.getElem?_append_left hj];exact List.getElem?_eq_getElem hj⟩)⟩
   ·intro g hg
    rw [hG] at hg
    exact πlt g hg
   ·intro i c hi hno
    rcases (getS _ i c).1 hi with⟨h1,h2,rfl⟩ | ⟨j,rfl,h1⟩
    ·have:=(getS l i _).2 (.inl ⟨h1,h2,rfl⟩)
     rw [hno] at this;cases this
    ·by_cases hj:j < l.length
     ·have:=(getS l (G+j) _).2 (.inr ⟨j,rfl,List.getElem?_eq_getElem hj⟩)
      rw [hno] at this;cases this
     ·rcases stand j c h1 with⟨n,s1,_,_⟩ | ⟨_,s1,_⟩
      ·have:=(List.getElem?_eq_some_iff.1 s1).1
       omega
      ·rw [s1];omega
   ·rw [hG];exact hML
   ·intro m c hm
    rw [aH,lenP] at hm
    split at hm
    ·rename_i hml
     by_cases hmn:m∈ns
     ·obtain⟨j,hj⟩:=List.mem_iff_getElem?.1 hmn
      have hj':j < l'.length:=by rw [hlen,lens];exact(List.getElem?_eq_some_iff.1 hj).1
      have:=vp ns _ H hnd hnlt j m _ hj (mget l' j _ (List.getElem?_eq_getElem hj'))
      rw [this] at hm
      cases hm
      exact .inl ⟨G+j,_,(jZ hj).symm,(getS _ _ _).2 (.inr ⟨j,rfl,by rw [List.getElem?_append_left hj'];exact List.getElem?_eq_getElem hj'⟩),rfl⟩
     ·rw [mf ns _ H m hmn] at hm
      by_cases hmg:m < G /\ M[m]?=some true
      ·have:=hgl m hmg.2
       rw [Nat.zero_add,hm] at this
       cases this
       exact .inl ⟨m,_,(πlt m hmg.1).symm,(getS _ _ _).2 (.inl ⟨hmg.1,hmg.2,rfl⟩),sren m⟩
      ·refine .inr ⟨hm,fun i d hi e=>?_⟩
       rcases (getS _ i d).1 hi with⟨h1,h2,rfl⟩ | ⟨j,rfl,h1⟩
       ·rw [πlt i h1] at e
        subst e
        exact hmg ⟨h1,h2⟩
       ·rcases stand j d h1 with⟨n,s1,s2,_⟩ | ⟨_,s1,_⟩
        ·rw [s2] at e
         subst e
         exact hmn (List.mem_of_getElem? s1)
        ·rw [s1] at e;omega
    ·rename_i hml
     have h1:=(BO _ _ _).1 hm
     rw [List.getElem?_map,Option.map_eq_some_iff] at h1
     obtain⟨a,h1,rfl⟩:=h1
     refine .inl ⟨G+(ns.length+(m - H.length)),a,?_,(getS _ _ _).2 (.inr ⟨_,rfl,by rw [List.getElem?_append_right (by omega),hlen,lens,Nat.add_sub_cancel_left];exact h1⟩),rfl⟩
     have:=rC (G:=G) (ns:=ns) (L:=H.length) (j:=m - H.length)
     rw [show G+(ns.length+(m - H.length))=G+ns.length+(m - H.length) by omega]
     rw [show π (G+ns.length+(m - H.length))=_ from this]
     omega
   ·intro i d hi
    rcases (getS _ i d).1 hi with⟨h1,h2,rfl⟩ | ⟨j,rfl,h1⟩
    ·rw [πlt i h1,aH,lenP,if_pos (by omega),mf]
     ·have:=hgl i h2
      rw [Nat.zero_add] at this
      exact this
     ·intro hmem
      have:=hge i hmem
      omega
    ·rcases stand j d h1 with⟨n,_,s2,s3⟩ | ⟨_,s2,s3⟩
     ·rw [s2];exact s3
     ·rw [s2];exact s3
   ·intro m c hm
    by_cases hmn:m∈ns
    ·obtain⟨j,hj⟩:=List.mem_iff_getElem?.1 hmn
     have hj':j < l'.length:=by rw [hlen,lens];exact(List.getElem?_eq_some_iff.1 hj).1
     exact⟨_,by rw [aH,lenP,if_pos (aX hm)];exact vp ns _ H hnd hnlt j m _ hj (mget l' j _ (List.getElem?_eq_getElem hj'))⟩
    ·exact⟨c,by rw [aH,lenP,if_pos (aX hm),mf ns _ H m hmn];exact hm⟩
   ·intro m hm hno
    rw [aH,lenP,if_pos hm,mf]
    ·exact hno
    ·intro hmn
     obtain⟨j,hj⟩:=List.mem_iff_getElem?.1 hmn
     obtain⟨a,_,h2⟩:=al2 j m hj
     rw [hno] at h2;cases h2
   ·rw [List.length_append,lenP];omega
  ·simp [T.val] at hr
 ·simp [T.val] at hr
end
end Go.Sx
