import Derived.Test.YtcpdipfepeccgaaGreatDoorSc
import Derived.Test.YtcpdipfepeccgaaGreatDoorQw
set_option linter.unusedVariables false
set_option linter.unusedSimpArgs false
set_option maxHeartbeats 4000000
namespace Go.Proofs.YtcpdipfepeccgaaGreatDoor
open Go Go.Sx Go.Proofs
set_option maxRecDepth 100000
theorem vQ:∀(n:Nat) (l:List Int),l.Nodup->(∀x∈l,1<=x /\ x<=(n:Int))->l.length<=n
 | 0,l,_,h=>by
   cases l with
   | nil=>exact Nat.le_refl _
   | cons a r=>have:=h a List.mem_cons_self;omega
 | n+1,l,hd,h=>by
   have h1:=vQ n (l.filter (fun x=>x != ((n+1:Nat):Int))) (hd.sublist List.filter_sublist) fun x hx=>by
    obtain⟨hx,hne⟩:=List.mem_filter.1 hx
    have:=h x hx
    have hne:x≠((n+1:Nat):Int):=by simpa using hne
    omega
   have h2:l.length<=(l.filter (fun x=>x != ((n+1:Nat):Int))).length+1:=by
    clear h h1
    induction l with
    | nil=>simp
    | cons a r ih =>
      rw [List.nodup_cons] at hd
      rw [List.filter_cons]
      cases ha:a != ((n+1:Nat):Int) with
      | true=>simp only [if_true,List.length_cons];have:=ih hd.2;omega
      | false =>
        have ha:a=((n+1:Nat):Int):=by simpa using ha
        have hr:r.filter (fun x=>x != ((n+1:Nat):Int))=r:=List.filter_eq_self.2 fun x hx=>by
         have:x≠a:=fun e=>hd.1 (e▸hx)
         rw [<- ha]
         simpa using this
        simp only [Bool.false_eq_true,if_false,List.length_cons]
        rw [hr];omega
   omega
structure PlotM.WF (n:Nat) (m:PlotM):Prop where
 le:n<=1024
 lb:m.board.length=85
 ls:m.slots.length=n
 bw:∀w∈m.board,WOk n w
 sl:∀s∈m.slots,s.cells.length=10
 sw:∀s∈m.slots,∀w∈s.cells,WOk n w
 fr:∀x∈m.free,1<=x.val /\ x.val<=(n:Int)
 fu:∀x∈m.free,(m.slot x.val).used=false
 nd:(m.free.map N1.val).Nodup
theorem PlotM.WF.ok {n:Nat} {m:PlotM} (h:m.WF n):m.Ok:=by
 have:=h.le
 refine⟨by rw [h.lb];decide,by rw [h.ls];omega,?_,fun x hx=>?_⟩
 ·have:=vQ n (m.free.map N1.val) h.nd fun x hx=>by
   obtain⟨y,hy,rfl⟩:=List.mem_map.1 hx
   exact h.fr y hy
  rw [List.length_map] at this
  omega
 ·have:=h.fr x hx
  exact⟨this.1,by rw [h.ls];exact this.2⟩
theorem cG {α:Type} {l:List α} {i:Nat} {d:α} (h:i < l.length):l.getD i d∈l:=by
 rw [List.getD_eq_getElem?_getD,List.getElem?_eq_getElem h]
 exact List.getElem_mem h
theorem sO {n:Nat} {m:PlotM} (h:m.WF n) {s:Int} (h1:1<=s) (h2:s<=n):m.slot s∈m.slots:=cG (by rw [h.ls];omega)
theorem Hs {n:Nat} {m:PlotM} (h:m.WF n) {s g f:Int} (ha:m.hasA s g f):WOk n (m.read s f):=by
 unfold PlotM.hasA at ha
 unfold PlotM.read
 split at ha
 ·rename_i hs
  rw [if_pos hs]
  exact h.bw _ (cG (by omega))
 ·rename_i hs
  rw [if_neg hs]
  have h1:m.slot s∈m.slots:=sO h ha.1.1 (by have:=ha.1.2;rw [h.ls] at this;exact this)
  exact h.sw _ h1 _ (cG (by rw [h.sl _ h1];omega))
theorem cV {α:Type} {l:List α} {i:Nat} {a x:α} (h:x∈l.set i a):x∈l \/ x=a:=List.mem_or_eq_of_mem_set h
theorem sN {m:PlotM} {i:Nat} {x:Sl} {s:Int} (hi:i < m.slots.length):({m with slots:=m.slots.set i x}:PlotM).slot s=if (s - 1).toNat=i then x else m.slot s:=by
 show (m.slots.set i x).getD (s - 1).toNat _=_
 rw [List.getD_eq_getElem?_getD,List.getElem?_set]
 by_cases e:i=(s - 1).toNat
 ·rw [if_pos e,if_pos (e▸hi),if_pos e.symm];rfl
 ·rw [if_neg e,if_neg fun h=>e h.symm]
  show _=m.slots.getD _ _
  rw [List.getD_eq_getElem?_getD]
theorem G6 {n:Nat} {m:PlotM} (h:m.WF n) {s:Int} {x:Sl} (h1:1<=s) (h2:s<=n) (hl:x.cells.length=10) (hw:∀w∈x.cells,WOk n w) (hu:x.used=true->(m.slot s).used=true):({m with slots:=m.slots.set (s - 1).toNat x}:PlotM).WF n:=by
 have hi:(s - 1).toNat < m.slots.length:=by rw [h.ls];omega
 refine⟨h.le,h.lb,(by show (m.slots.set _ _).length=n;rw [List.length_set];exact h.ls),h.bw,fun t ht=>?_,fun t ht w hw2=>?_,h.fr,fun t ht=>?_,h.nd⟩
 ·rcases cV ht with ht | rfl
  ·exact h.sl t ht
  ·exact hl
 ·rcases cV ht with ht | rfl
  ·exact h.sw t ht w hw2
  ·exact hw w hw2
 ·rw [sN hi]
  split
  ·rename_i e
   cases hx:x.used with
   | false=>rfl
   | true =>
     have hfr:=h.fr t ht
     have e2:t.val=s:=by omega
     have:=h.fu t ht
     rw [e2,hu hx] at this
     exact this
  ·exact h.fu t ht
theorem FM {n:Nat} {m:PlotM} (h:m.WF n) {s g f:Int} (ha:m.hasA s g f) {w:W} (hw:WOk n w):(m.write s f w).WF n:=by
 unfold PlotM.hasA at ha
 unfold PlotM.write
 split at ha
 ·rename_i hs
  rw [if_pos hs]
  refine⟨h.le,(by show (m.board.set _ _).length=85;rw [List.length_set];exact h.lb),h.ls,fun x hx=>?_,h.sl,h.sw,h.fr,h.fu,h.nd⟩
  rcases cV hx with hx | rfl
  ·exact h.bw x hx
  ·exact hw
 ·rename_i hs
  rw [if_neg hs]
  have h2:s<=n:=by have:=ha.1.2;rw [h.ls] at this;exact this
  have hm:=sO h ha.1.1 h2
  refine G6 h ha.1.1 h2 (by show ((List.range 10).map _).length=10;rw [List.length_map,List.length_range]) (fun x hx=>?_) fun hu=>hu
  obtain⟨j,hj,rfl⟩:=List.mem_map.1 hx
  have hj:=List.mem_range.1 hj
  split
  ·exact hw
  ·exact h.sw _ hm _ (cG (by rw [h.sl _ hm];exact hj))
theorem qd {l:List Int} {x:Int} (h:l.Nodup) (hx:x ∉ l):(l++[x]).Nodup:=by
 rw [List.nodup_append]
 refine⟨h,by simp,fun a ha b hb=>?_⟩
 simp only [List.mem_cons,List.not_mem_nil,or_false] at hb
 subst hb
 exact fun e=>hx (e▸ha)
theorem JV {n:Nat} {m:PlotM} (h:m.WF n) (b:Int):(m.alloc b).2.WF n /\ WOk n (m.alloc b).1.w /\ ((m.alloc b).1.ok=true->1<=(m.alloc b).1.w.slot):=by
 unfold PlotM.alloc
 split
 ·exact⟨h,ao (by omega),fun h=>by cases h⟩
 ·rename_i hl
  dsimp only
  have hmem:m.free.getD (m.free.length - 1) kints.dflt∈m.free:=cG (by omega)
  generalize hx:m.free.getD (m.free.length - 1) kints.dflt=x at hmem
  obtain⟨h1,h2⟩:=h.fr x hmem
  have hfree:m.free=m.free.take (m.free.length - 1)++[x]:=by
   have hlt:m.free.length - 1 < m.free.length:=by omega
   rw [<- hx,List.getD_eq_getElem?_getD,List.getElem?_eq_getElem hlt]
   have:=List.take_append_drop (m.free.length - 1) m.free
   rw [List.drop_eq_getElem_cons hlt,List.drop_eq_nil_of_le (by omega)] at this
   exact this.symm
  have hnd:=h.nd
  rw [hfree,List.map_append,List.nodup_append] at hnd
  obtain⟨n1,_,n2⟩:=hnd
  have hi:(x.val - 1).toNat < m.slots.length:=by rw [h.ls];omega
  have hm0:({m with free:=m.free.take (m.free.length - 1)}:PlotM).WF n:=⟨h.le,h.lb,h.ls,h.bw,h.sl,h.sw,fun t ht=>h.fr t (List.mem_of_mem_take ht),fun t ht=>h.fu t (List.mem_of_mem_take ht),n1⟩
  have hz:WOk n aq:=ao (by omega)
  refine⟨⟨h.le,h.lb,(by show (m.slots.set _ _).length=n;rw [List.length_set];exact h.ls),h.bw,fun t ht=>?_,fun t ht w hw2=>?_,hm0.fr,fun t ht=>?_,n1⟩,⟨by show 0<=x.val;omega,h2,fun e=>by have e:x.val=0:=e;omega⟩,fun _=>h1⟩
  ·rcases cV ht with ht | rfl
   ·exact h.sl t ht
   ·rfl
  ·rcases cV ht with ht | rfl
   ·exact h.sw t ht w hw2
   ·simp only [List.mem_cons,List.not_mem_nil,or_false] at hw2
    rcases hw2 with rfl | rfl | rfl | rfl | rfl | rfl | rfl | rfl | rfl | rfl<;>first | exact hz | exact dj (by omega) _
  ·show (({m with slots:=m.slots.set (x.val - 1).toNat _}:PlotM).slot t.val).used=false
   rw [sN hi]
   split
   ·rename_i e
    have:=hm0.fr t ht
    have e2:t.val=x.val:=by omega
    exact absurd e2 (n2 _ (List.mem_map_of_mem ht) _ (by simp))
   ·exact hm0.fu t ht
def Hd (hd:Bool) (m:PlotM):Prop:=hd=true->1<=(m.board.getD 0 kwords.dflt).slot
structure AccOk (n:Nat) (hd:Bool) (a:Acc) (r:Rp1×PlotM):Prop where
 wf:r.2.WF n
 h0:Hd hd r.2
 w:WOk n r.1.w
 al:a.kind=4->r.1.ok=true->1<=r.1.w.slot
 ld:a.kind=1->hd=true->a.s=0->a.f=0->1<=r.1.w.slot
theorem qw {l:List W} {i:Nat} {w d:W} (h:l≠[]):(l.set i w).getD 0 d=if i=0 then w else l.getD 0 d:=by
 cases l with
 | nil=>exact absurd rfl h
 | cons a r=>cases i<;>simp
theorem I1 {hd:Bool} {n:Nat} {m:PlotM} (hm:m.WF n) (h:Hd hd m) {s f:Int} {w:W} (hf:0<=f) (hw:hd=true->s=0->f=0->1<=w.slot):Hd hd (m.write s f w):=fun e=>by
 unfold PlotM.write
 split
 ·rename_i hs
  show 1<=((m.board.set f.toNat w).getD 0 kwords.dflt).slot
  rw [qw (fun e=>by have:=hm.lb;rw [e] at this;cases this)]
  split
  ·exact hw e hs (by omega)
  ·exact h e
 ·exact h e
theorem PB {m:PlotM} {s g f:Int} (h:m.hasA s g f):0<=f:=by
 unfold PlotM.hasA at h
 split at h
 ·exact h.2.1
 ·exact h.2.1
theorem qL {n:Nat} {hd:Bool} {m:PlotM} (h:m.WF n) (hh:Hd hd m) {a:Acc} (hv:m.valid a) (hw:WOk n a.new) (hw0:hd=true->(a.kind=2 \/ a.kind=3)->a.s=0->a.f=0->1<=a.new.slot):AccOk n hd a (m.access a):=by
 have h1:({m with steps:=bp m.steps}:PlotM).WF n:=⟨h.le,h.lb,h.ls,h.bw,h.sl,h.sw,h.fr,h.fu,h.nd⟩
 have n0:(0:Int)<=n:=by omega
 unfold PlotM.access
 dsimp only
 unfold PlotM.valid at hv
 cases he:m.wrong a with
 | some e =>
   dsimp only
   refine⟨?_,?_,?_,fun _ (h:false=true)=>(by cases h),fun hk hhd hs hf=>?_⟩
   ·cases m.fault<;>exact⟨h.le,h.lb,h.ls,h.bw,h.sl,h.sw,h.fr,h.fu,h.nd⟩
   ·cases m.fault<;>exact hh
   ·show WOk n (if a.kind=1 \/ a.kind=3 then g9 (-1) else aq)
    split
    ·exact dj n0 _
    ·exact ao n0
   ·exfalso
    unfold PlotM.wrong PlotM.state at he
    rw [if_neg (by omega),if_neg (by omega),if_pos hs] at he
    cases he
 | none =>
   dsimp only
   by_cases k4:a.kind=4
   ·rw [if_pos k4]
    obtain⟨w1,w2,w3⟩:=JV h1 a.new.num
    refine⟨w1,?_,w2,fun _=>w3,fun hk=>by omega⟩
    unfold PlotM.alloc
    split
    ·exact hh
    ·exact hh
   ·rw [if_neg k4]
    by_cases k5:a.kind=5
    ·rw [if_pos k5]
     rw [if_neg (by omega),if_neg k4,if_pos k5] at hv
     obtain⟨v1,v2⟩:=hv
     rw [h.ls] at v2
     have hu:(m.slot a.old.slot).used=true:=by
      unfold PlotM.wrong PlotM.state at he
      rw [if_neg k4,if_pos k5,if_neg (by omega)] at he
      cases hu:(m.slot a.old.slot).used with
      | true=>rfl
      | false=>rw [if_pos hu] at he;cases he
     have hm:=sO h v1 v2
     have hs:({m with steps:=bp m.steps,slots:=m.slots.set (a.old.slot - 1).toNat {m.slot a.old.slot with used:=false}}:PlotM).WF n :=
      G6 h1 v1 v2 (show (m.slot a.old.slot).cells.length=10 from h.sl _ hm) (show ∀w∈(m.slot a.old.slot).cells,WOk n w from h.sw _ hm) fun e=>by cases e
     have hi:(a.old.slot - 1).toNat < m.slots.length:=by rw [h.ls];omega
     refine⟨⟨h.le,h.lb,hs.ls,h.bw,hs.sl,hs.sw,fun x hx=>?_,fun x hx=>?_,?_⟩,hh,ao n0,fun hk=>absurd hk k4,fun hk=>by omega⟩
     ·rcases List.mem_append.1 hx with hx | hx
      ·exact h.fr x hx
      ·simp only [List.mem_cons,List.not_mem_nil,or_false] at hx
       subst hx;exact⟨v1,v2⟩
     ·rcases List.mem_append.1 hx with hx | hx
      ·exact hs.fu x hx
      ·simp only [List.mem_cons,List.not_mem_nil,or_false] at hx
       subst hx
       show (({m with slots:=m.slots.set (a.old.slot - 1).toNat {m.slot a.old.slot with used:=false}}:PlotM).slot a.old.slot).used=false
       rw [sN hi,if_pos rfl]
     ·show ((m.free++[(⟨a.old.slot⟩:N1)]).map N1.val).Nodup
      rw [List.map_append]
      refine qd h.nd fun hx=>?_
      obtain⟨y,hy,e⟩:=List.mem_map.1 hx
      have:=h.fu y hy
      rw [e,hu] at this
      cases this
    ·rw [if_neg k5]
     have hk:a.kind=1 \/ a.kind=2 \/ a.kind=3:=by
      by_cases hk:a.kind=1 \/ a.kind=2 \/ a.kind=3
      ·exact hk
      ·rw [if_neg hk,if_neg k4,if_neg k5] at hv;exact hv.elim
     rw [if_pos hk] at hv
     have rd:WOk n (({m with steps:=bp m.steps}:PlotM).read a.s a.f):=Hs h1 hv
     have wr:(({m with steps:=bp m.steps}:PlotM).write a.s a.f a.new).WF n:=FM h1 hv hw
     have hdw:(a.kind=2 \/ a.kind=3)->Hd hd (({m with steps:=bp m.steps}:PlotM).write a.s a.f a.new):=fun hk=>I1 h1 hh (PB hv) fun e hs hf=>hw0 e hk hs hf
     by_cases k1:a.kind=1
     ·rw [if_pos k1]
      refine⟨h1,hh,rd,fun hk=>absurd hk k4,fun _ hhd hs hf=>?_⟩
      show 1<=(({m with steps:=bp m.steps}:PlotM).read a.s a.f).slot
      unfold PlotM.read
      rw [if_pos hs,hf]
      exact hh hhd
     ·rw [if_neg k1]
      by_cases k2:a.kind=2
      ·rw [if_pos k2]
       exact⟨wr,hdw (.inl k2),ao n0,fun hk=>absurd hk k4,fun hk=>absurd hk k1⟩
      ·rw [if_neg k2]
       cases qS (({m with steps:=bp m.steps}:PlotM).read a.s a.f) a.old with
       | true=>exact⟨wr,hdw (.inr (by omega)),rd,fun hk=>absurd hk k4,fun hk=>absurd hk k1⟩
       | false=>exact⟨h1,hh,rd,fun hk=>absurd hk k4,fun hk=>absurd hk k1⟩
end Go.Proofs.YtcpdipfepeccgaaGreatDoor

namespace Go.Proofs.YtcpdipfepeccgaaGreatDoor
open Go Go.Sx Go.Proofs
set_option maxRecDepth 100000
set_option maxHeartbeats 4000000
structure AcOk (n:Int) (hd:Bool) (a:Acc):Prop where
 v:((a.kind=1 \/ a.kind=2 \/ a.kind=3) /\ AOk n ⟨a.s,a.g,a.f⟩) \/ a.kind=4 \/ (a.kind=5 /\ 1<=a.old.slot /\ a.old.slot<=n)
 w:WOk n a.new
 h:hd=true->(a.kind=2 \/ a.kind=3)->a.s=0->a.f=0->1<=a.new.slot
theorem AcOk.valid {n:Nat} {hd:Bool} {a:Acc} (h:AcOk n hd a) {p:PlotM} (hp:p.WF n):p.valid a:=by
 unfold PlotM.valid
 rcases h.v with⟨hk,ha⟩ | hk | ⟨hk,h1,h2⟩
 ·rw [if_pos hk]
  unfold PlotM.hasA
  rcases ha with⟨a1,a2,a3,a4⟩ | ⟨a1,a2,a3,a4⟩
  ·have a1:a.s=0:=a1
   rw [if_pos a1,hp.lb]
   exact⟨a2,a3,a4⟩
  ·have a1:1<=a.s:=a1
   rw [if_neg (by omega)]
   refine⟨⟨a1,?_⟩,a3,a4⟩
   rw [hp.ls];exact a2
 ·rw [if_neg (by omega),if_pos hk];trivial
 ·rw [if_neg (by omega),if_neg (by omega),if_pos hk]
  refine⟨h1,?_⟩
  rw [hp.ls];exact h2
structure XOk (n:Int) (hd:Bool) (a:Acc) (x:Rp1):Prop where
 w:WOk n x.w
 al:a.kind=4->x.ok=true->1<=x.w.slot
 ld:a.kind=1->hd=true->a.s=0->a.f=0->1<=x.w.slot
def NOk (n:Int) (x:Nt):Prop:=1<=x.slot /\ x.slot<=n
def ClB (n:Int) (hd:Bool) (c:Cl):Prop:=(kR n c /\ (hd=true->hdW c)) \/ c.kind=1 \/ c.kind=2 \/ c.kind=11
def H9.Ok (n:Int) (s:H9):Prop:=WOk n s.h0 /\ WOk n s.h1 /\ WOk n s.h2 /\ WOk n s.h3 /\ WOk n s.h4 /\ WOk n s.h5 /\ WOk n s.h6 /\ WOk n s.h7 /\ WOk n s.h8
theorem H9.get_ok {n:Int} {s:H9} (h:s.Ok n) (i:Int):WOk n (s.get i):=by
 obtain⟨a0,a1,a2,a3,a4,a5,a6,a7,a8⟩:=h
 unfold H9.get
 repeat' split
 all_goals assumption
theorem H9.put_ok {n:Int} {s:H9} (h:s.Ok n) (i:Int) {w:W} (hw:WOk n w):(s.put i w).Ok n:=by
 obtain⟨a0,a1,a2,a3,a4,a5,a6,a7,a8⟩:=h
 unfold H9.put
 repeat' split
 all_goals exact⟨by assumption,by assumption,by assumption,by assumption,by assumption,by assumption,by assumption,by assumption,by assumption⟩
def St (hd:Bool) (m:RiteM):Prop :=
 m.step=0 \/ (m.step=1 /\ (m.call.kind=8->m.acc.kind=4) /\ m.call.kind≠6) \/ (m.step=2 /\ m.call.kind≠8 /\ m.call.kind≠6) \/ (m.step=3 /\ m.call.kind=1) \/
 (m.step=4 /\ m.call.kind=2 /\ (m.engine=2 \/ m.engine=3) /\ 0<=m.index /\ m.index < 9) \/
 (m.step=5 /\ m.call.kind=6 /\ (0<=m.call.i /\ m.call.i < 9) /\ m.acc=⟨1,m.call.adr.s,m.call.adr.g,m.call.adr.f,aq,aq⟩) \/
 (m.step=6 /\ m.call.kind=6 /\ (0<=m.call.i /\ m.call.i < 9) /\ (m.engine=3 \/ m.engine=5) /\ (hd=true->m.call.adr.s=0->m.call.adr.f=0->1<=m.word.slot)) \/
 (m.step=7 /\ m.call.kind=6 /\ (0<=m.call.i /\ m.call.i < 9)) \/ (m.step=8 /\ m.call.kind=8) \/
 (m.step=9 /\ m.call.kind=10 /\ (m.engine=3 \/ m.engine=5) /\ m.seen=[]) \/ (m.step=10 /\ m.call.kind=10 /\ (m.engine=3 \/ m.engine=4 \/ m.engine=5) /\ m.seen=[]) \/ (m.step=11 /\ m.call.kind=10 /\ (m.engine=3 \/ m.engine=5) /\ m.seen=[]) \/
 (m.step=12 /\ (m.call.kind=10 \/ m.call.kind=11) /\ m.engine=4 /\ m.seen=[]) \/ (m.step=13 /\ (m.call.kind=10 \/ m.call.kind=11) /\ 2<=m.engine /\ 0<=m.index /\ m.index < 54 /\ (m.seen.length:Int)=m.index) \/
 (m.step=14 /\ (m.call.kind=10 \/ m.call.kind=11) /\ m.engine=4) \/ (m.step=15 /\ (m.call.kind=10 \/ m.call.kind=11) /\ m.engine=4) \/
 (m.step=16 /\ (m.call.kind=10 \/ m.call.kind=11) /\ 2<=m.engine /\ 0 < m.doomed.length /\ ∀x,m.doomed.count x<=m.notes.count x)
structure RiteM.B (n:Int) (hd:Bool) (K:Nat) (m:RiteM):Prop where
 eng:1<=m.engine /\ m.engine<=5
 me:0<=m.me /\ m.me < 6
 thr:1<=m.threads /\ m.threads<=6
 holds:m.holds.Ok n
 notes:∀x∈m.notes,NOk n x
 len:m.notes.length<=K
 word:WOk n m.word
 seen:m.seen.length<=54
structure RiteM.WF (n:Int) (hd:Bool) (K:Nat) (m:RiteM):Prop where
 b:m.B n hd K
 call:m.step≠0->ClB n hd m.call
 acc:m.step≠0->AcOk n hd m.acc
 st:St hd m
structure RRes (n:Int) (hd:Bool) (K:Nat) (c:Cl) (r:RiteM):Prop where
 wf:r.WF n hd K
 on:r.step≠0->r.call=c
 off:r.step=0->RpFor n hd c r.reply
section
variable {n:Int} {hd:Bool} {K:Nat} {c:Cl}
theorem B.mono {m:RiteM} {K':Nat} (h:m.B n hd K) (hk:K<=K'):m.B n hd K':=⟨h.eng,h.me,h.thr,h.holds,h.notes,Nat.le_trans h.len hk,h.word,h.seen⟩
theorem mA (h0:0<=n) {r:RT} (h:r.m.B n hd K) {x:Rp1} (hx:RpFor n hd c x):RRes n hd K c (eA x r).m :=
 ⟨⟨⟨h.eng,h.me,h.thr,h.holds,h.notes,h.len,ao h0,Nat.zero_le _⟩,fun e=>absurd rfl e,fun e=>absurd rfl e,.inl rfl⟩,fun e=>absurd rfl e,fun _=>hx⟩
theorem dt (h0:0<=n) {r:RT} (h:r.m.B n hd K) (h8:c.kind≠8) (h6:c.kind≠6):RRes n hd K c (iF RT.m r) :=
 mA h0 h ⟨ao h0,fun e=>absurd e h8,fun _ e=>absurd e h6⟩
theorem bx {r:RT} (h:r.m.B n hd K) (hcl:ClB n hd c) (hc:r.m.call=c) {s:Int} {a:Acc} (ha:AcOk n hd a) (hs:s≠0) (hst:St hd (gf s a r).m):RRes n hd K c (gf s a r).m :=
 ⟨⟨⟨h.eng,h.me,h.thr,h.holds,h.notes,h.len,h.word,h.seen⟩,fun _=>hc▸hcl,fun _=>ha,hst⟩,fun _=>hc,fun e=>absurd e hs⟩
theorem dn (h0:0<=n) {a:Ad} (ha:AOk n a):AcOk n hd ⟨1,a.s,a.g,a.f,aq,aq⟩:=⟨.inl ⟨.inl rfl,ha⟩,ao h0,fun _ h=>absurd h (by show ¬((1:Int)=2 \/ (1:Int)=3);decide)⟩
theorem A7 (h0:0<=n) {f:Int} {w:W} (hf:1<=f) (hf2:f < 85) (hw:WOk n w):AcOk n hd ⟨2,0,0,f,aq,w⟩:=⟨.inl ⟨.inr (.inl rfl),.inl ⟨rfl,rfl,by show 0<=f;omega,hf2⟩⟩,hw,fun _ _ _ e=>by have e:f=0:=e;omega⟩
theorem J6 {o w:W} (hw:WOk n w):AcOk n hd ⟨3,0,0,24,o,w⟩:=⟨.inl ⟨.inr (.inr rfl),.inl ⟨rfl,rfl,by show (0:Int)<=24;decide,by show (24:Int) < 85;decide⟩⟩,hw,fun _ _ _ e=>absurd (show (24:Int)=0 from e) (by decide)⟩
theorem J5 {w:W} (hw:WOk n w):AcOk n hd ⟨4,0,0,0,aq,w⟩:=⟨.inr (.inl rfl),hw,fun _ h=>absurd (show (4:Int)=2 \/ (4:Int)=3 from h) (by decide)⟩
theorem DY (h0:0<=n) {w:W} (h1:1<=w.slot) (h2:w.slot<=n):AcOk n hd ⟨5,0,0,0,w,aq⟩:=⟨.inr (.inr ⟨rfl,h1,h2⟩),ao h0,fun _ h=>absurd (show (5:Int)=2 \/ (5:Int)=3 from h) (by decide)⟩
theorem gz:AOk n qy:=.inl ⟨rfl,rfl,by show (0:Int)<=24;decide,by show (24:Int) < 85;decide⟩
structure RB (n:Int) (hd:Bool) (K:Nat) (c:Cl) (r:RT):Prop where
 b:r.m.B n hd K
 cl:ClB n hd c
 hc:r.m.call=c
 ln:r.ln=r.m.notes.length
 ld:r.ld=r.m.doomed.length
theorem dp {b:Bool} {t e:RiteM} (h1:b=true->RRes n hd K c t) (h2:b=false->RRes n hd K c e):RRes n hd K c (cond b t e):=cJ (P:=RRes n hd K c) h1 h2
theorem oS (h0:0<=n) {r:RT} (h:RB n hd K c r) {s k:Int} {w:W} (hk:0<=k /\ k < 9) (hw:WOk n w) (hs:s≠0)
 (hst:St hd (gf s ⟨2,0,0,25+r.m.me * 9+k,aq,w⟩ {r with m:={r.m with holds:=H9.put r.m.holds k w}}).m):RRes n hd K c (sW NN RT.m s k w r):=by
 have hm:=h.b.me
 exact bx (r:={r with m:={r.m with holds:=H9.put r.m.holds k w}}) ⟨h.b.eng,h.b.me,h.b.thr,H9.put_ok h.b.holds k hw,h.b.notes,h.b.len,h.b.word,h.b.seen⟩ h.cl h.hc (A7 h0 (by omega) (by omega) hw) hs hst
theorem ij (h0:0<=n) {r:RT} (h:RB n hd K c r) {s:Int} {sp:Sp} {w:W} (hw:WOk n w) (hs:s≠0) (hst:St hd (gf s ⟨2,0,0,79+r.m.me,aq,w⟩ {r with m:={r.m with span:=sp}}).m):RRes n hd K c (gg NN RT.m s sp w r):=by
 have hm:=h.b.me
 exact bx (r:={r with m:={r.m with span:=sp}}) ⟨h.b.eng,h.b.me,h.b.thr,h.b.holds,h.b.notes,h.b.len,h.b.word,h.b.seen⟩ h.cl h.hc (A7 h0 (by omega) (by omega) hw) hs hst
theorem ub (h0:0<=n) (h2:c.kind=2):∀(k:Nat) {r:RT} {i:Int},RB n hd K c r->(r.m.engine=2 \/ r.m.engine=3)->0<=i->i+k<=9->RRes n hd K c (mj cond NN RT.m r k i)
 | 0,r,i,h,_,_,_=>dt h0 h.b (by omega) (by omega)
 | k+1,r,i,h,he,hi,hk=>by
   unfold mj
   refine dp (fun _=>?_) fun _=>ub h0 h2 k h he (by omega) (by omega)
   exact oS h0 (r:={r with m:={r.m with index:=i}}) ⟨⟨h.b.eng,h.b.me,h.b.thr,h.b.holds,h.b.notes,h.b.len,h.b.word,h.b.seen⟩,h.cl,h.hc,h.ln,h.ld⟩ ⟨hi,by omega⟩ (ao h0) (by decide)
    (.inr (.inr (.inr (.inr (.inl ⟨rfl,by show r.m.call.kind=2;rw [h.hc];exact h2,he,hi,by show i < 9;omega⟩)))))
theorem wE (h0:0<=n) (h2:c.kind=2) {r:RT} (h:RB n hd K c r) {i:Nat} (hi:i<=9):RRes n hd K c (nH cond NN RT.m i r):=by
 unfold nH
 split
 ·refine dp (fun _=>?_) fun _=>dt h0 h.b (by omega) (by omega)
  exact ij h0 h (ao h0) (by decide) (.inr (.inr (.inl ⟨rfl,by show r.m.call.kind≠8;rw [h.hc];omega,by show r.m.call.kind≠6;rw [h.hc];omega⟩)))
 ·split
  ·rename_i he
   exact ub h0 h2 _ h he (by omega) (by omega)
  ·exact dt h0 h.b (by omega) (by omega)
theorem tX (h0:0<=n) (hc:c.kind=10 \/ c.kind=11) {r:RT} (h:RB n hd K c r) (he:2<=r.m.engine) {i:Nat} (hs:r.m.seen.length=i) {k:RiteM} (hk:r.m.seen.length<=54->(i:Int)>=(if r.m.engine=2 \/ r.m.engine=3 then r.m.threads * 9 else r.m.threads)->RRes n hd K c k) :
 RRes n hd K c (jV cond NN RT.m (i:Int) r k):=by
 have ht:=h.b.thr
 unfold jV
 split
 ·rename_i he2
  have ew:IntKind.wrap .i64 (r.m.threads * 9)=r.m.threads * 9:=mV (by omega)
  rw [ew]
  rw [if_pos he2] at hk
  refine dp (fun hb=>hk h.b.seen (of_decide_eq_true hb)) fun hb=>?_
  have hlt:(i:Int) < r.m.threads * 9:=by have:=of_decide_eq_false hb;omega
  have hd1:0<=Int.tdiv (i:Int) 9 /\ Int.tdiv (i:Int) 9 < 6:=by
   rw [Int.tdiv_eq_ediv_of_nonneg (by omega)];omega
  have hd2:0<=Int.tmod (i:Int) 9 /\ Int.tmod (i:Int) 9 < 9:=by
   rw [Int.tmod_eq_emod_of_nonneg (by omega)];omega
  have ew2:IntKind.wrap .i64 (Int.tdiv (i:Int) 9)=Int.tdiv (i:Int) 9:=mV (by omega)
  refine bx (r:={r with m:={r.m with index:=(i:Int)}}) ⟨h.b.eng,h.b.me,h.b.thr,h.b.holds,h.b.notes,h.b.len,h.b.word,h.b.seen⟩ h.cl h.hc (a:=⟨1,0,0,(DC (IntKind.wrap .i64 (Int.tdiv (i:Int) 9),Int.tmod (i:Int) 9)).f,aq,aq⟩) ?_ (by decide) ?_
  ·rw [ew2]
   exact dn h0 (a:=⟨0,0,25+Int.tdiv (i:Int) 9 * 9+Int.tmod (i:Int) 9⟩) (.inl ⟨rfl,rfl,by show 0<=25+Int.tdiv (i:Int) 9 * 9+Int.tmod (i:Int) 9;omega,by show 25+Int.tdiv (i:Int) 9 * 9+Int.tmod (i:Int) 9 < 85;omega⟩)
  ·refine .inr (.inr (.inr (.inr (.inr (.inr (.inr (.inr (.inr (.inr (.inr (.inr (.inr (.inl ⟨rfl,?_,he,?_,?_,?_⟩)))))))))))))
   ·show r.m.call.kind=10 \/ r.m.call.kind=11
    rw [h.hc];exact hc
   ·show 0<=(i:Int);omega
   ·show (i:Int) < 54;omega
   ·show (r.m.seen.length:Int)=(i:Int);omega
 ·rename_i he2
  rw [if_neg he2] at hk
  refine dp (fun hb=>hk h.b.seen (of_decide_eq_true hb)) fun hb=>?_
  have hlt:(i:Int) < r.m.threads:=by have:=of_decide_eq_false hb;omega
  refine bx (r:={r with m:={r.m with index:=(i:Int)}}) ⟨h.b.eng,h.b.me,h.b.thr,h.b.holds,h.b.notes,h.b.len,h.b.word,h.b.seen⟩ h.cl h.hc (a:=⟨1,0,0,79+(i:Int),aq,aq⟩) ?_ (by decide) ?_
  ·exact dn h0 (a:=⟨0,0,79+(i:Int)⟩) (.inl ⟨rfl,rfl,by show 0<=79+(i:Int);omega,by show 79+(i:Int) < 85;omega⟩)
  ·refine .inr (.inr (.inr (.inr (.inr (.inr (.inr (.inr (.inr (.inr (.inr (.inr (.inr (.inl ⟨rfl,?_,he,?_,?_,?_⟩)))))))))))))
   ·show r.m.call.kind=10 \/ r.m.call.kind=11
    rw [h.hc];exact hc
   ·show 0<=(i:Int);omega
   ·show (i:Int) < 54;omega
   ·show (r.m.seen.length:Int)=(i:Int);omega
theorem zm (h0:0<=n) (hc:c.kind=10 \/ c.kind=11) {r:RT} (h:RB n hd K c r) (hs:r.m.seen=[]):RRes n hd K c (qW cond NN RT.m r):=by
 have ht:=h.b.thr
 have he:=h.b.eng
 unfold qW
 split
 ·exact dt h0 h.b (by omega) (by omega)
 ·split
  ·rename_i he4
   exact bx h.b h.cl h.hc (dn h0 gz) (by decide) (.inr (.inr (.inr (.inr (.inr (.inr (.inr (.inr (.inr (.inr (.inr (.inr (.inl ⟨rfl,by show r.m.call.kind=10 \/ r.m.call.kind=11;rw [h.hc];exact hc,he4,hs⟩)))))))))))))
  ·refine tX h0 hc h (by omega) (i:=0) (by rw [hs];rfl) fun _ hk=>?_
   exfalso
   split at hk<;>omega
theorem wo (h0:0<=n) (hc:c.kind=10 \/ c.kind=11) {r:RT} (h:RB n hd K c r) (hs:r.m.seen=[]):RRes n hd K c (jB cond NN RT.m r):=by
 unfold jB
 exact dp (fun _=>zm h0 hc h hs) fun _=>dt h0 h.b (by omega) (by omega)
theorem J0 (h0:0<=n) {r:RT} (h:RB n hd K c r) (hk:1<=c.old.slot /\ c.old.slot<=n) (b d:Int):RB n hd (K+1) c (BS b d r):=by
 refine⟨⟨h.b.eng,h.b.me,h.b.thr,h.b.holds,fun x hx=>?_,?_,h.b.word,h.b.seen⟩,h.cl,h.hc,?_,h.ld⟩
 ·rcases List.mem_append.1 hx with hx | hx
  ·exact h.b.notes x hx
  ·simp only [List.mem_cons,List.not_mem_nil,or_false] at hx
   subst hx
   show 1<=r.m.call.old.slot /\ r.m.call.old.slot<=n
   rw [h.hc];exact hk
 ·show (r.m.notes++[_]).length<=K+1
  rw [List.length_append]
  have:=h.b.len
  simp only [List.length_cons,List.length_nil];omega
 ·show r.ln+1=(r.m.notes++[_]).length
  rw [List.length_append,h.ln];rfl
theorem RB.mono {r:RT} {K':Nat} (h:RB n hd K c r) (hk:K<=K'):RB n hd K' c r:=⟨B.mono h.b hk,h.cl,h.hc,h.ln,h.ld⟩
theorem RRes.mono {r:RiteM} {K':Nat} (h:RRes n hd K c r) (hk:K<=K'):RRes n hd K' c r:=⟨⟨B.mono h.wf.b hk,h.wf.call,h.wf.acc,h.wf.st⟩,h.on,h.off⟩
theorem zr (h0:0<=n) (hc:c.kind=10 \/ c.kind=11) {r:RT} (h:RB n hd K c r) (he:2<=r.m.engine) (hs:r.m.seen.length<=54) (hcnt:∀x,r.m.doomed.count x<=r.m.notes.count x):RRes n hd K c (qV r):=by
 unfold qV jn
 refine dp (fun _=>dt h0 h.b (by omega) (by omega)) fun hb=>?_
 have hne:r.m.doomed≠[]:=fun e=>by
  have h1:=h.ld
  rw [e] at h1
  have:=neI hb
  rw [h1] at this
  exact this rfl
 have hpos:0 < r.m.doomed.length:=List.length_pos_iff.2 hne
 have hmem:r.m.doomed.getD 0 knotes.dflt∈r.m.doomed:=cG hpos
 have hx:NOk n (r.m.doomed.getD 0 knotes.dflt):=h.b.notes _ (List.count_pos_iff.1 (Nat.lt_of_lt_of_le (List.count_pos_iff.2 hmem) (hcnt _)))
 exact bx h.b h.cl h.hc (DY h0 (w:=Hr (r.m.doomed.getD 0 knotes.dflt)) hx.1 hx.2) (by decide)
  (.inr (.inr (.inr (.inr (.inr (.inr (.inr (.inr (.inr (.inr (.inr (.inr (.inr (.inr (.inr (.inr ⟨rfl,by show r.m.call.kind=10 \/ r.m.call.kind=11;rw [h.hc];exact hc,he,hpos,hcnt⟩))))))))))))))))
theorem zj (h0:0<=n) (hc:c.kind=10 \/ c.kind=11) {m:RiteM} (h:m.B n hd K) (hcl:ClB n hd c) (hcc:m.call=c) (he:2<=m.engine):RRes n hd K c (iE m):=by
 unfold iE
 have hsub:∀x,(DQ m).count x<=m.notes.count x:=fun x=>by
  unfold DQ fr1 fr2 fr3 fr4 cW
  split
  ·exact List.Sublist.count_le _ List.filter_sublist
  ·split
   ·exact List.Sublist.count_le _ List.filter_sublist
   ·split
    all_goals (exact List.Sublist.count_le _ List.filter_sublist)
 exact zr h0 hc (r:=m8 (DQ m) (rOf m)) ⟨⟨h.eng,h.me,h.thr,h.holds,h.notes,h.len,h.word,h.seen⟩,hcl,hcc,rfl,rfl⟩ he h.seen hsub
theorem CC (h:ClB n hd c):vf c /\ (c.kind=3 \/ c.kind=4 \/ c.kind=5 \/ c.kind=6->AOk n c.adr) /\ (c.kind=9 \/ c.kind=10->1<=c.old.slot /\ c.old.slot<=n) /\ (c.kind=4 \/ c.kind=5->WOk n c.new /\ (hd=true->hdW c)):=by
 unfold vf
 rcases h with⟨⟨h1,h2,h3⟩,h4⟩ | h | h | h
 ·rcases h3 with⟨hk,ha⟩ | ⟨hk,ha,hi,hj,hz⟩ | ⟨hk,hp⟩ | hk | ⟨hk,hs⟩
  ·exact⟨by omega,fun _=>ha,fun h=>by omega,fun _=>⟨h2,h4⟩⟩
  ·exact⟨by omega,fun _=>ha,fun h=>by omega,fun h=>by omega⟩
  ·exact⟨.inr (.inr (.inr (.inr (.inr (.inr (.inl ⟨hk,hp⟩)))))),fun h=>by omega,fun h=>by omega,fun h=>by omega⟩
  ·exact⟨by omega,fun h=>by omega,fun h=>by omega,fun h=>by omega⟩
  ·exact⟨by omega,fun h=>by omega,fun _=>⟨hs,h1.2.1⟩,fun h=>by omega⟩
 all_goals (exact⟨by omega,fun h=>by omega,fun h=>by omega,fun h=>by omega⟩)
theorem lZ (h0:0<=n) {m:RiteM} (h:m.WF n hd K) (hs:m.step=0) (hcl:ClB n hd c) (hK:K<=100000):zG m c=true /\ RRes n hd (K+1) c (db m c):=by
 obtain⟨hkd,hadr,hold,hnew⟩:=CC hcl
 have hb:=h.b
 refine⟨decide_eq_true ⟨hs,⟨hb.eng.1,hb.eng.2,hb.me.1,hb.me.2,Nat.le_trans hb.len hK⟩,hkd⟩,?_⟩
 have rb:RB n hd K c (sX c (rOf m)):=⟨⟨hb.eng,hb.me,hb.thr,hb.holds,hb.notes,hb.len,ao h0,Nat.zero_le _⟩,hcl,rfl,rfl,rfl⟩
 unfold db nG
 split
 ·rename_i hk
  exact wo h0 (.inl hk.1) (J0 h0 rb (hold (.inr hk.1)) 0 0) rfl
 ·split
  ·rename_i hk
   exact(zm h0 (.inr hk.1) rb rfl).mono (by omega)
  ·refine RRes.mono (K:=K) ?_ (by omega)
   have he:(sX c (rOf m)).m.engine=m.engine:=rfl
   unfold vT
   by_cases k1:c.kind=1
   ·rw [if_pos k1]
    split
    ·exact bx rb.b hcl rfl (dn h0 gz) (by decide) (.inr (.inr (.inr (.inl ⟨rfl,k1⟩))))
    ·exact dt h0 rb.b (by omega) (by omega)
   ·rw [if_neg k1]
    by_cases k2:c.kind=2
    ·rw [if_pos k2]
     exact wE h0 k2 rb (by omega)
    ·rw [if_neg k2]
     by_cases k3:c.kind=3
     ·rw [if_pos k3]
      exact bx rb.b hcl rfl (dn h0 (hadr (.inl k3))) (by decide) (.inr (.inl ⟨rfl,fun e=>by have e:c.kind=8:=e;omega,by show c.kind≠6;omega⟩))
     ·rw [if_neg k3]
      by_cases k4:c.kind=4
      ·rw [if_pos k4]
       obtain⟨w1,w2⟩:=hnew (.inl k4)
       refine bx rb.b hcl rfl ⟨.inl ⟨.inr (.inl rfl),hadr (.inr (.inl k4))⟩,w1,fun e _ hs hf=>w2 e (.inl k4) hs hf⟩ (by decide) (.inr (.inl ⟨rfl,fun e=>by have e:c.kind=8:=e;omega,by show c.kind≠6;omega⟩))
      ·rw [if_neg k4]
       by_cases k5:c.kind=5
       ·rw [if_pos k5]
        obtain⟨w1,w2⟩:=hnew (.inr k5)
        refine bx rb.b hcl rfl ⟨.inl ⟨.inr (.inr rfl),hadr (.inr (.inr (.inl k5)))⟩,w1,fun e _ hs hf=>w2 e (.inr k5) hs hf⟩ (by decide) (.inr (.inl ⟨rfl,fun e=>by have e:c.kind=8:=e;omega,by show c.kind≠6;omega⟩))
       ·rw [if_neg k5]
        by_cases k6:c.kind=6
        ·rw [if_pos k6]
         have hi:0<=c.i /\ c.i < 9:=by unfold vf at hkd;unfold p6 at hkd;omega
         exact bx rb.b hcl rfl (dn h0 (hadr (.inr (.inr (.inr k6))))) (by decide) (.inr (.inr (.inr (.inr (.inr (.inl ⟨rfl,k6,hi,rfl⟩))))))
        ·rw [if_neg k6]
         by_cases k7:c.kind=7
         ·rw [if_pos k7]
          have hi:0<=c.i /\ c.i < 9:=by unfold vf at hkd;unfold p6 at hkd;omega
          split
          ·refine dp (fun _=>?_) fun _=>dt h0 rb.b (by omega) (by omega)
           exact oS h0 rb hi (H9.get_ok rb.b.holds _) (by decide) (.inr (.inr (.inl ⟨rfl,by show c.kind≠8;omega,by show c.kind≠6;omega⟩)))
          ·exact dt h0 rb.b (by omega) (by omega)
         ·rw [if_neg k7]
          by_cases k8:c.kind=8
          ·rw [if_pos k8]
           split
           ·exact bx rb.b hcl rfl (dn h0 gz) (by decide) (.inr (.inr (.inr (.inr (.inr (.inr (.inr (.inr (.inl ⟨rfl,k8⟩)))))))))
           ·exact bx rb.b hcl rfl (J5 (ao h0)) (by decide) (.inr (.inl ⟨rfl,fun _=>rfl,by show c.kind≠6;omega⟩))
          ·rw [if_neg k8]
           by_cases k9:c.kind=9
           ·rw [if_pos k9]
            obtain⟨o1,o2⟩:=hold (.inl k9)
            exact bx rb.b hcl rfl (DY h0 o1 o2) (by decide) (.inr (.inr (.inl ⟨rfl,by show c.kind≠8;omega,by show c.kind≠6;omega⟩)))
           ·rw [if_neg k9]
            by_cases k10:c.kind=10
            ·rw [if_pos k10]
             split
             ·rename_i he4
              exact bx rb.b hcl rfl (dn h0 gz) (by decide) (.inr (.inr (.inr (.inr (.inr (.inr (.inr (.inr (.inr (.inr (.inl ⟨rfl,k10,.inr (.inl he4),rfl⟩)))))))))))
             ·split
              ·rename_i he5
               obtain⟨o1,o2⟩:=hold (.inr k10)
               exact bx rb.b hcl rfl (dn h0 (a:=⟨c.old.slot,c.old.gen,9⟩) (.inr ⟨o1,o2,by show (0:Int)<=9;decide,by show (9:Int) < 10;decide⟩)) (by decide) (.inr (.inr (.inr (.inr (.inr (.inr (.inr (.inr (.inr (.inl ⟨rfl,k10,he5,rfl⟩))))))))))
              ·exact dt h0 rb.b (by omega) (by omega)
            ·rw [if_neg k10]
             have k11:c.kind=11:=by unfold vf at hkd;omega
             split
             ·rename_i he4
              exact bx rb.b hcl rfl (dn h0 gz) (by decide) (.inr (.inr (.inr (.inr (.inr (.inr (.inr (.inr (.inr (.inr (.inr (.inr (.inl ⟨rfl,.inr k11,he4,rfl⟩)))))))))))))
             ·exact dt h0 rb.b (by omega) (by omega)
theorem AH {x y:Nt}:ke x y=true↔x=y:=by
 obtain⟨a,b,c,d,e,f,g⟩:=x
 obtain⟨a',b',c',d',e',f',g'⟩:=y
 simp [ke]
theorem wJ {p:Nt->Bool}:∀(l:List Nt) (k:Nat),l.any p=true->k<=dH p k l /\ dH p k l < k+l.length /\ p (l.getD (dH p k l - k) knotes.dflt)=true
 | [],k,h=>by cases h
 | a::l,k,h=>by
   unfold dH
   cases ha:p a with
   | true=>exact⟨Nat.le_refl _,by simp,by simpa using ha⟩
   | false =>
     rw [List.any_cons,ha] at h
     obtain⟨h1,h2,h3⟩:=wJ l (k+1) h
     refine⟨by show k<=dH p (k+1) l;omega,by show dH p (k+1) l < _;rw [List.length_cons];omega,?_⟩
     show p ((a::l).getD (dH p (k+1) l - k) knotes.dflt)=true
     rw [show dH p (k+1) l - k=(dH p (k+1) l - (k+1))+1 by omega]
     exact h3
theorem IY {x:Nt} {l:List Nt} (h:x∈l):0<=cO x l /\ cO x l < (l.length:Int) /\ l.getD (cO x l).toNat knotes.dflt=x:=by
 have ha:l.any (ke x)=true:=List.any_eq_true.2 ⟨x,h,AH.2 rfl⟩
 obtain⟨h1,h2,h3⟩:=wJ l 0 ha
 have e:cO x l=(dH (ke x) 0 l:Int):=by unfold cO;rw [ha];rfl
 rw [e]
 exact⟨by omega,by omega,(AH.1 h3).symm⟩
theorem xh {l:List Nt} {i:Nat} (hi:i < l.length) (x:Nt):l.count x=(l.take i++l.drop (i+1)).count x+if l.getD i knotes.dflt=x then 1 else 0:=by
 have e:l=l.take i++(l.getD i knotes.dflt::l.drop (i+1)):=by
  rw [List.getD_eq_getElem?_getD,List.getElem?_eq_getElem hi]
  show l=l.take i++(l[i]::l.drop (i+1))
  rw [<- List.drop_eq_getElem_cons hi,List.take_append_drop]
 generalize l.getD i knotes.dflt=y at e ⊢
 rw [List.count_append]
 refine(congrArg (List.count x) e).trans ?_
 rw [List.count_append,List.count_cons]
 by_cases h:y=x
 ·rw [if_pos h,if_pos (beq_iff_eq.2 h)];omega
 ·rw [if_neg h,if_neg (by simpa using h)];omega
end
end Go.Proofs.YtcpdipfepeccgaaGreatDoor

namespace Go.Proofs.YtcpdipfepeccgaaGreatDoor
open Go Go.Sx Go.Proofs
set_option maxRecDepth 100000
set_option maxHeartbeats 4000000
section
variable {n:Int} {hd:Bool} {K:Nat}
theorem lC (h0:0<=n) {m:RiteM} (h:m.WF n hd K) {x:Rp1} (hx:XOk n hd m.acc x) (hs:(m.step=5 /\ m.acc=⟨1,m.call.adr.s,m.call.adr.g,m.call.adr.f,aq,aq⟩) \/ (m.step=6 /\ (m.engine=3 \/ m.engine=5) /\ (hd=true->m.call.adr.s=0->m.call.adr.f=0->1<=m.word.slot)) \/ m.step=7) (k6:m.call.kind=6) (hi:0<=m.call.i /\ m.call.i < 9):RRes n hd K m.call (gF cond NN RT.m x (rOf m)):=by
 have hb:=h.b
 have hcl:=h.call (by rcases hs with⟨e,_⟩ | ⟨e,_⟩ | e<;>omega)
 have hadr:=(CC hcl).2.1 (.inr (.inr (.inr k6)))
 have rb:RB n hd K m.call (rOf m):=⟨hb,hcl,rfl,rfl,rfl⟩
 unfold gF
 show RRes n hd K m.call (if m.step=7 then _ else if m.step=5 then _ else _)
 rcases hs with⟨hs,hacc⟩ | ⟨hs,he,hw⟩ | hs
 ·rw [if_neg (by omega),if_pos hs]
  have hrw:hd=true->m.call.adr.s=0->m.call.adr.f=0->1<=x.w.slot:=fun e a b=>hx.ld (by rw [hacc]) e (by rw [hacc];exact a) (by rw [hacc];exact b)
  have rbw:RB n hd K m.call {rOf m with m:={m with word:=x.w}}:=⟨⟨hb.eng,hb.me,hb.thr,hb.holds,hb.notes,hb.len,hx.w,hb.seen⟩,hcl,rfl,rfl,rfl⟩
  have rp:RpFor n hd m.call ⟨x.w,true⟩:=⟨hx.w,fun e=>by omega,fun e _ a b=>hrw e a b⟩
  show RRes n hd K m.call (if m.engine=3 \/ m.engine=5 then _ else if m.engine=2 then _ else _)
  by_cases he:m.engine=3 \/ m.engine=5
  ·rw [if_pos he]
   exact bx rbw.b hcl rfl (dn h0 gz) (by decide) (.inr (.inr (.inr (.inr (.inr (.inr (.inl ⟨rfl,k6,hi,he,hrw⟩)))))))
  ·rw [if_neg he]
   by_cases he2:m.engine=2
   ·rw [if_pos he2]
    refine dp (fun _=>?_) fun _=>mA h0 hb rp
    exact oS h0 rbw hi (aV hx.w) (by decide) (.inr (.inr (.inr (.inr (.inr (.inr (.inr (.inl ⟨rfl,k6,hi⟩))))))))
   ·rw [if_neg he2]
    exact mA h0 hb rp
 ·rw [if_neg (by omega),if_neg (by omega)]
  have rp:RpFor n hd m.call ⟨m.word,true⟩:=⟨hb.word,fun e=>by omega,fun e _ a b=>hw e a b⟩
  show RRes n hd K m.call (if m.engine=3 then _ else _)
  have st7:∀(r:RiteM),r.step=7->r.call=m.call->St hd r:=fun r h1 h2=>.inr (.inr (.inr (.inr (.inr (.inr (.inr (.inl ⟨h1,by rw [h2];exact k6,by rw [h2];exact hi⟩)))))))
  by_cases he3:m.engine=3
  ·rw [if_pos he3]
   refine dp (fun _=>mA h0 hb rp) fun _=>?_
   exact oS h0 rb hi (dj h0 _) (by decide) (st7 _ rfl rfl)
  ·rw [if_neg he3]
   have ws:∀{a b c:Int},WOk n ⟨0,0,a,b,true⟩:=⟨Int.le_refl _,h0,fun _=>rfl⟩
   refine dp (fun _=>mA h0 hb rp) fun _=>dp (fun _=>?_) fun _=>?_
   ·exact ij h0 rb (ws (c:=0)) (by decide) (st7 _ rfl rfl)
   ·exact ij h0 rb (ws (c:=0)) (by decide) (st7 _ rfl rfl)
 ·rw [if_pos hs]
  exact bx hb hcl rfl (dn h0 hadr) (by decide) (.inr (.inr (.inr (.inr (.inr (.inl ⟨rfl,k6,hi,rfl⟩))))))
theorem Kr (h0:0<=n) {m:RiteM} (h:m.WF n hd K) (hs:m.step≠0) {x:Rp1} (hx:XOk n hd m.acc x) (hK:K<=100000):ya m=true /\ RRes n hd (K+1) m.call (eJ m x):=by
 have hb:=h.b
 have hcl:=h.call hs
 have rb:RB n hd K m.call (rOf m):=⟨hb,hcl,rfl,rfl,rfl⟩
 have okr:ER m:=⟨hb.eng.1,hb.eng.2,hb.me.1,hb.me.2,Nat.le_trans hb.len hK⟩
 have oks:m.seen.length<=1000:=Nat.le_trans hb.seen (by decide)
 have okt:=hb.thr
 have low:∀{s:Int},m.step=s->s < 9->eJ m x=jU cond NN RT.m x (rOf m):=fun {s} e h=>by
  unfold eJ
  rw [if_neg (by omega),if_neg (by omega),if_neg (by omega),if_neg (by omega)]
 have mid:∀{s:Int},m.step=s->9<=s->s≠13->s≠15->s≠16->eJ m x=jA cond NN RT.m (fun _=>true) x (rOf m):=fun {s} e h h1 h2 h3=>by
  unfold eJ
  rw [if_neg (by omega),if_neg (by omega),if_neg (by omega),if_pos (by omega)]
 have em:(rOf m).m=m:=rfl
 have prot:∀{s:Int},m.step=s->(s=5 \/ s=6 \/ s=7)->jU cond NN RT.m x (rOf m)=gF cond NN RT.m x (rOf m):=fun {s} e h=>by
  unfold jU
  rw [em,if_neg (by omega),if_neg (by omega),if_neg (by omega),if_neg (by omega),if_neg (by omega)]
 rcases h.st with e | ⟨e,a1,a2⟩ | ⟨e,a1,a2⟩ | ⟨e,k⟩ | ⟨e,k,he,i0,i1⟩ | ⟨e,k,hi,ha⟩ | ⟨e,k,hi,he,hw⟩ | ⟨e,k,hi⟩ | ⟨e,k⟩ | ⟨e,k,he,sn⟩ | ⟨e,k,he,sn⟩ | ⟨e,k,he,sn⟩ | ⟨e,k,he,sn⟩ | ⟨e,k,he,i0,i1,i2⟩ | ⟨e,k,he⟩ | ⟨e,k,he⟩ | ⟨e,k,he,hd0,hcnt⟩
 ·exact absurd e hs
 ·refine⟨decide_eq_true ⟨okr,oks,okt.1,okt.2,.inl e⟩,RRes.mono (K:=K) ?_ (by omega)⟩
  rw [low e (by decide)]
  unfold jU
  rw [em,if_pos e]
  exact mA h0 hb ⟨hx.w,fun e8=>hx.al (a1 e8),fun _ e6=>absurd e6 a2⟩
 ·refine⟨decide_eq_true ⟨okr,oks,okt.1,okt.2,.inr (.inl e)⟩,RRes.mono (K:=K) ?_ (by omega)⟩
  rw [low e (by decide)]
  unfold jU
  rw [em,if_neg (by omega),if_pos e]
  exact dt h0 hb a1 a2
 ·refine⟨decide_eq_true ⟨okr,oks,okt.1,okt.2,.inr (.inr (.inl e))⟩,RRes.mono (K:=K) ?_ (by omega)⟩
  rw [low e (by decide)]
  unfold jU
  rw [em,if_neg (by omega),if_neg (by omega),if_pos e]
  exact ij h0 rb ⟨Int.le_refl _,h0,fun _=>rfl⟩ (by decide) (.inr (.inr (.inl ⟨rfl,by show m.call.kind≠8;omega,by show m.call.kind≠6;omega⟩)))
 ·refine⟨decide_eq_true ⟨okr,oks,okt.1,okt.2,.inr (.inr (.inr (.inl ⟨e,he,i0,i1⟩)))⟩,RRes.mono (K:=K) ?_ (by omega)⟩
  rw [low e (by decide)]
  unfold jU
  rw [em,if_neg (by omega),if_neg (by omega),if_neg (by omega),if_pos e]
  exact wE h0 k rb (by omega)
 ·refine⟨decide_eq_true ⟨okr,oks,okt.1,okt.2,.inr (.inr (.inr (.inr (.inl ⟨e,hi.1,hi.2⟩))))⟩,RRes.mono (K:=K) ?_ (by omega)⟩
  rw [low e (by decide),prot e (by decide)]
  exact lC h0 h hx (.inl ⟨e,ha⟩) k hi
 ·refine⟨decide_eq_true ⟨okr,oks,okt.1,okt.2,.inr (.inr (.inr (.inr (.inr (.inl ⟨e,he,hi.1,hi.2⟩)))))⟩,RRes.mono (K:=K) ?_ (by omega)⟩
  rw [low e (by decide),prot e (by decide)]
  exact lC h0 h hx (.inr (.inl ⟨e,he,hw⟩)) k hi
 ·refine⟨decide_eq_true ⟨okr,oks,okt.1,okt.2,.inr (.inr (.inr (.inr (.inr (.inr (.inl e))))))⟩,RRes.mono (K:=K) ?_ (by omega)⟩
  rw [low e (by decide),prot e (by decide)]
  exact lC h0 h hx (.inr (.inr e)) k hi
 ·refine⟨decide_eq_true ⟨okr,oks,okt.1,okt.2,.inr (.inr (.inr (.inr (.inr (.inr (.inr (.inl e)))))))⟩,RRes.mono (K:=K) ?_ (by omega)⟩
  rw [low e (by decide)]
  unfold jU
  rw [em,if_neg (by omega),if_neg (by omega),if_neg (by omega),if_neg (by omega),if_pos e]
  exact bx hb hcl rfl (J5 (dj h0 _)) (by decide) (.inr (.inl ⟨rfl,fun _=>rfl,by show m.call.kind≠6;omega⟩))
 ·refine⟨decide_eq_true ⟨okr,oks,okt.1,okt.2,.inr (.inr (.inr (.inr (.inr (.inr (.inr (.inr (.inl e))))))))⟩,RRes.mono (K:=K) ?_ (by omega)⟩
  rw [mid e (by decide) (by decide) (by decide) (by decide)]
  unfold jA
  rw [em,if_pos e]
  exact bx (r:={rOf m with m:={m with word:=x.w}}) ⟨hb.eng,hb.me,hb.thr,hb.holds,hb.notes,hb.len,hx.w,hb.seen⟩ hcl rfl (dn h0 gz) (by decide)
   (.inr (.inr (.inr (.inr (.inr (.inr (.inr (.inr (.inr (.inr (.inl ⟨rfl,k,he.elim .inl fun h=>.inr (.inr h),sn⟩)))))))))))
 ·refine⟨decide_eq_true ⟨okr,oks,okt.1,okt.2,.inr (.inr (.inr (.inr (.inr (.inr (.inr (.inr (.inr (.inl ⟨e,he⟩)))))))))⟩,?_⟩
  rw [mid e (by decide) (by decide) (by decide) (by decide)]
  unfold jA
  rw [em,if_neg (by omega),if_pos e]
  have hold:=(CC hcl).2.2.1 (.inr k)
  have rbc:RB n hd K m.call {rOf m with m:={m with clock:=x.w}}:=⟨⟨hb.eng,hb.me,hb.thr,hb.holds,hb.notes,hb.len,hb.word,hb.seen⟩,hcl,rfl,rfl,rfl⟩
  have rba:=J0 h0 rbc hold m.word.num x.w.num
  by_cases he5:m.engine=3 \/ m.engine=5
  ·rw [if_pos he5]
   exact bx rba.b hcl rfl (J6 (jK h0)) (by decide) (.inr (.inr (.inr (.inr (.inr (.inr (.inr (.inr (.inr (.inr (.inr (.inl ⟨rfl,k,he5,sn⟩))))))))))))
  ·rw [if_neg he5]
   have he4:m.engine=4:=by omega
   unfold jB
   refine dp (fun _=>?_) fun _=>dt h0 rba.b (by omega) (by omega)
   unfold qW
   show RRes n hd (K+1) m.call (if m.engine=1 then _ else if m.engine=4 then _ else _)
   rw [if_neg (by omega),if_pos he4]
   exact bx rba.b hcl rfl (dn h0 gz) (by decide) (.inr (.inr (.inr (.inr (.inr (.inr (.inr (.inr (.inr (.inr (.inr (.inr (.inl ⟨rfl,.inl k,he4,sn⟩)))))))))))))
 ·refine⟨decide_eq_true ⟨okr,oks,okt.1,okt.2,.inr (.inr (.inr (.inr (.inr (.inr (.inr (.inr (.inr (.inr (.inl ⟨e,he⟩))))))))))⟩,RRes.mono (K:=K) ?_ (by omega)⟩
  rw [mid e (by decide) (by decide) (by decide) (by decide)]
  unfold jA
  rw [em,if_neg (by omega),if_neg (by omega),if_pos e]
  exact wo h0 (.inl k) rb sn
 ·refine⟨decide_eq_true ⟨okr,oks,okt.1,okt.2,.inr (.inr (.inr (.inr (.inr (.inr (.inr (.inr (.inr (.inr (.inr (.inl ⟨e,he⟩)))))))))))⟩,RRes.mono (K:=K) ?_ (by omega)⟩
  rw [mid e (by decide) (by decide) (by decide) (by decide)]
  unfold jA
  rw [em,if_neg (by omega),if_neg (by omega),if_neg (by omega),if_pos e]
  refine tX h0 k (r:={rOf m with m:={m with clock:=x.w}}) ⟨⟨hb.eng,hb.me,hb.thr,hb.holds,hb.notes,hb.len,hb.word,hb.seen⟩,hcl,rfl,rfl,rfl⟩ (by show 2<=m.engine;omega) (i:=0) (by show m.seen.length=0;rw [sn];rfl) fun _ hk=>?_
  exfalso
  have hk:((0:Nat):Int)>=(if m.engine=2 \/ m.engine=3 then m.threads * 9 else m.threads):=hk
  split at hk<;>omega
 ·refine⟨decide_eq_true ⟨okr,oks,okt.1,okt.2,.inr (.inr (.inr (.inr (.inr (.inr (.inr (.inr (.inr (.inr (.inr (.inr (.inl ⟨e,he,i0,by omega⟩))))))))))))⟩,RRes.mono (K:=K) ?_ (by omega)⟩
  unfold eJ
  rw [if_pos e]
  have ew:IntKind.wrap .i64 (m.index+1)=((m.seen.length+1:Nat):Int):=by rw [mV (by omega)];omega
  rw [ew]
  have hsl:(m.seen++[x.w]).length=m.seen.length+1:=by rw [List.length_append];rfl
  have hsl54:(m.seen++[x.w]).length<=54:=by rw [hsl];omega
  have rbs:RB n hd K m.call (gE x.w (rOf m)):=⟨⟨hb.eng,hb.me,hb.thr,hb.holds,hb.notes,hb.len,hb.word,hsl54⟩,hcl,rfl,rfl,rfl⟩
  refine tX h0 k rbs he hsl fun _ _=>?_
  by_cases he4:m.engine=4
  ·rw [if_pos he4]
   refine dp (fun _=>?_) fun _=>?_
   ·exact bx rbs.b hcl rfl (J6 (jK h0)) (by decide) (.inr (.inr (.inr (.inr (.inr (.inr (.inr (.inr (.inr (.inr (.inr (.inr (.inr (.inr (.inl ⟨rfl,k,he4⟩)))))))))))))))
   ·exact bx rbs.b hcl rfl (dn h0 gz) (by decide) (.inr (.inr (.inr (.inr (.inr (.inr (.inr (.inr (.inr (.inr (.inr (.inr (.inr (.inr (.inr (.inl ⟨rfl,k,he4⟩))))))))))))))))
  ·rw [if_neg he4]
   exact zj h0 k rbs.b hcl rfl he
 ·refine⟨decide_eq_true ⟨okr,oks,okt.1,okt.2,.inr (.inr (.inr (.inr (.inr (.inr (.inr (.inr (.inr (.inr (.inr (.inr (.inr (.inl ⟨e,he⟩)))))))))))))⟩,RRes.mono (K:=K) ?_ (by omega)⟩
  rw [mid e (by decide) (by decide) (by decide) (by decide)]
  unfold jA
  rw [em,if_neg (by omega),if_neg (by omega),if_neg (by omega),if_neg (by omega)]
  exact bx hb hcl rfl (dn h0 gz) (by decide) (.inr (.inr (.inr (.inr (.inr (.inr (.inr (.inr (.inr (.inr (.inr (.inr (.inr (.inr (.inr (.inl ⟨rfl,k,he⟩))))))))))))))))
 ·refine⟨decide_eq_true ⟨okr,oks,okt.1,okt.2,.inr (.inr (.inr (.inr (.inr (.inr (.inr (.inr (.inr (.inr (.inr (.inr (.inr (.inr (.inl ⟨e,he⟩))))))))))))))⟩,RRes.mono (K:=K) ?_ (by omega)⟩
  unfold eJ
  rw [if_neg (by omega),if_pos e]
  exact zj h0 k (m:={m with clock:=x.w}) ⟨hb.eng,hb.me,hb.thr,hb.holds,hb.notes,hb.len,hb.word,hb.seen⟩ hcl rfl (by show 2<=m.engine;omega)
 ·have hmem:m.doomed.getD 0 knotes.dflt∈m.notes:=by
   have h1:m.doomed.getD 0 knotes.dflt∈m.doomed:=cG hd0
   exact List.count_pos_iff.1 (Nat.lt_of_lt_of_le (List.count_pos_iff.2 h1) (hcnt _))
  obtain⟨x1,x2,x3⟩:=IY hmem
  refine⟨decide_eq_true ⟨okr,oks,okt.1,okt.2,.inr (.inr (.inr (.inr (.inr (.inr (.inr (.inr (.inr (.inr (.inr (.inr (.inr (.inr (.inr ⟨e,hd0,x1,x2⟩))))))))))))))⟩,RRes.mono (K:=K) ?_ (by omega)⟩
  unfold eJ
  rw [if_neg (by omega),if_neg (by omega),if_pos e]
  unfold Ci
  have hi:(cO (m.doomed.getD 0 knotes.dflt) m.notes).toNat < m.notes.length:=by omega
  generalize hix:(cO (m.doomed.getD 0 knotes.dflt) m.notes).toNat=ix at hi x3
  have hln:(m.notes.take ix++m.notes.drop (ix+1)).length=m.notes.length - 1:=by
   rw [List.length_append,List.length_take,List.length_drop];omega
  refine zr h0 k (r:={m:={m with notes:=m.notes.take ix++m.notes.drop (ix+1),freed:=IntKind.wrap .i64 (m.freed+1),doomed:=m.doomed.drop 1},ls:=m.seen.length,ld:=m.doomed.length - 1,ln:=m.notes.length - 1}) ⟨⟨hb.eng,hb.me,hb.thr,hb.holds,fun y hy=>?_,by rw [hln];have:=hb.len;omega,hb.word,hb.seen⟩,hcl,rfl,hln.symm,by show m.doomed.length - 1=(m.doomed.drop 1).length;rw [List.length_drop]⟩ he hb.seen fun y=>?_
  ·rcases List.mem_append.1 hy with hy | hy
   ·exact hb.notes y (List.mem_of_mem_take hy)
   ·exact hb.notes y (List.mem_of_mem_drop hy)
  ·show (m.doomed.drop 1).count y<=(m.notes.take ix++m.notes.drop (ix+1)).count y
   have c1:=xh hi y
   have c2:=xh hd0 y
   rw [x3] at c1
   rw [List.take_zero,List.nil_append] at c2
   have:=hcnt y
   show (m.doomed.drop (0+1)).count y<=_
   omega
end
end Go.Proofs.YtcpdipfepeccgaaGreatDoor
