import Derived.Test.YtadmfaohjnjajaaGreatDoorOr
import Derived.Test.YtadmfaohjnjajaaGreatDoorSxM
import Derived.Test.YtadmfaohjnjajaaGreatDoorSxN
import Derived.Test.YtadmfaohjnjajaaGreatDoorSxAr
set_option linter.unusedVariables false
set_option linter.unusedSimpArgs false
set_option maxHeartbeats 0
set_option maxRecDepth 100000
namespace Go.Proofs.YtadmfaohjnjajaaGreatDoor
open Go Go.Sx Go.Proofs
theorem GH:∀(n:Nat) (l:List Int),l.Nodup->(∀x∈l,1<=x /\ x<=(n:Int))->l.length<=n
 | 0,l,_,h=>by
   cases l with
   | nil=>exact abV _
   | cons a r=>have:=h a abw;omega
 | n+1,l,hd,h=>by
   have h1:=GH n (l.filter (fun x=>x != ((n+1:Nat):Int))) (hd.sublist aeW) fun x hx=>by
    obtain⟨hx,dA⟩:=agS.1 hx
    have:=h x hx
    have dA:x≠((n+1:Nat):Int):=by simpa using dA
    omega
   have h2:l.length<=(l.filter (fun x=>x != ((n+1:Nat):Int))).length+1:=by
    clear h h1
    induction l with
    | nil=>simp
    | cons a r ih =>
      rw [aem] at hd
      rw [aeB]
      cases ha:a != ((n+1:Nat):Int) with
      | true=>simp only [if_true,abn];have:=ih hd.2;omega
      | false =>
        have ha:a=((n+1:Nat):Int):=by simpa using ha
        have hr:r.filter (fun x=>x != ((n+1:Nat):Int))=r:=List.filter_eq_self.2 fun x hx=>by
         have:x≠a:=fun e=>hd.1 (e▸hx)
         rw [<- ha]
         simpa using this
        simp only [Bool.false_eq_true,if_false,abn]
        rw [hr];omega
   omega
structure ai.WF (n:Nat) (m:ai):Prop where
 le:n<=1024
 lb:m.dO.length=85
 ls:m.aS.length=n
 bw:∀w∈m.dO,gD n w
 sl:∀s∈m.aS,s.cells.length=10
 sw:∀s∈m.aS,∀w∈s.cells,gD n w
 fr:∀x∈m.free,1<=x.val /\ x.val<=(n:Int)
 fu:∀x∈m.free,(m.af x.val).used=false
 nd:(m.free.map N1.val).Nodup
theorem ai.WF.ok {n:Nat} {m:ai} (h:m.WF n):m.Ok:=by
 have:=h.le
 refine⟨by rw [h.lb];decide,by rw [h.ls];omega,?_,fun x hx=>?_⟩
 ·have:=GH n (m.free.map N1.val) h.nd fun x hx=>by
   obtain⟨y,hy,rfl⟩:=adK.1 hx
   exact h.fr y hy
  rw [agR] at this
  omega
 ·have:=h.fr x hx
  exact⟨this.1,by rw [h.ls];exact this.2⟩
theorem mD {α:Type} {l:List α} {i:Nat} {d:α} (h:i < l.length):l.getD i d∈l:=by
 rw [adX,abj h]
 exact List.getElem_mem h
theorem Dp {n:Nat} {m:ai} (h:m.WF n) {s:Int} (h1:1<=s) (h2:s<=n):m.af s∈m.aS:=mD (by rw [h.ls];omega)
theorem Vx {n:Nat} {m:ai} (h:m.WF n) {s g f:Int} (ha:m.xJ s g f):gD n (m.read s f):=by
 unfold ai.xJ at ha
 unfold ai.read
 split at ha
 ·rename_i hs
  rw [if_pos hs]
  exact h.bw _ (mD (by omega))
 ·rename_i hs
  rw [if_neg hs]
  have h1:m.af s∈m.aS:=Dp h ha.1.1 (by have:=ha.1.2;rw [h.ls] at this;exact this)
  exact h.sw _ h1 _ (mD (by rw [h.sl _ h1];omega))
theorem yW {α:Type} {l:List α} {i:Nat} {a x:α} (h:x∈l.set i a):x∈l \/ x=a:=List.mem_or_eq_of_mem_set h
theorem jJ {m:ai} {i:Nat} {x:Sl} {s:Int} (hi:i < m.aS.length):({m with aS:=m.aS.set i x}:ai).af s=if (s - 1).toNat=i then x else m.af s:=by
 show (m.aS.set i x).getD (s - 1).toNat _=_
 rw [adX,List.getElem?_set]
 by_cases e:i=(s - 1).toNat
 ·rw [if_pos e,if_pos (e▸hi),if_pos e.symm];rfl
 ·rw [if_neg e,if_neg fun h=>e h.symm]
  show _=m.aS.getD _ _
  rw [adX]
theorem U7 {n:Nat} {m:ai} (h:m.WF n) {s:Int} {x:Sl} (h1:1<=s) (h2:s<=n) (hl:x.cells.length=10) (hw:∀w∈x.cells,gD n w) (hu:x.used=true->(m.af s).used=true):({m with aS:=m.aS.set (s - 1).toNat x}:ai).WF n:=by
 have hi:(s - 1).toNat < m.aS.length:=by rw [h.ls];omega
 refine⟨h.le,h.lb,(by show (m.aS.set _ _).length=n;rw [agO];exact h.ls),h.bw,fun t ht=>?_,fun t ht w hw2=>?_,h.fr,fun t ht=>?_,h.nd⟩
 ·rcases yW ht with ht | rfl
  ·exact h.sl t ht
  ·exact hl
 ·rcases yW ht with ht | rfl
  ·exact h.sw t ht w hw2
  ·exact hw w hw2
 ·rw [jJ hi]
  split
  ·rename_i e
   cases hx:x.used with
   | false=>rfl
   | true =>
     have hfr:=h.fr t ht
     have e2:t.val=s:=by omega
     have:=h.fu t ht
     rw [e2,hu hx] at this
     exact this
  ·exact h.fu t ht
theorem TM {n:Nat} {m:ai} (h:m.WF n) {s g f:Int} (ha:m.xJ s g f) {w:W} (hw:gD n w):(m.fE s f w).WF n:=by
 unfold ai.xJ at ha
 unfold ai.fE
 split at ha
 ·rename_i hs
  rw [if_pos hs]
  refine⟨h.le,(by show (m.dO.set _ _).length=85;rw [agO];exact h.lb),h.ls,fun x hx=>?_,h.sl,h.sw,h.fr,h.fu,h.nd⟩
  rcases yW hx with hx | rfl
  ·exact h.bw x hx
  ·exact hw
 ·rename_i hs
  rw [if_neg hs]
  have h2:s<=n:=by have:=ha.1.2;rw [h.ls] at this;exact this
  have hm:=Dp h ha.1.1 h2
  refine U7 h ha.1.1 h2 (by show ((List.range 10).map _).length=10;rw [agR,List.length_range]) (fun x hx=>?_) fun hu=>hu
  obtain⟨j,hj,rfl⟩:=adK.1 hx
  have hj:=List.mem_range.1 hj
  split
  ·exact hw
  ·exact h.sw _ hm _ (mD (by rw [h.sl _ hm];exact hj))
theorem Al {l:List Int} {x:Int} (h:l.Nodup) (hx:x ∉ l):(l++[x]).Nodup:=by
 rw [agd]
 refine⟨h,by simp,fun a ha b hb=>?_⟩
 simp only [abk,abo,or_false] at hb
 subst hb
 exact fun e=>hx (e▸ha)
theorem YW {n:Nat} {m:ai} (h:m.WF n) (b:Int):(m.alloc b).2.WF n /\ gD n (m.alloc b).1.w /\ ((m.alloc b).1.ok=true->1<=(m.alloc b).1.w.af):=by
 unfold ai.alloc
 split
 ·exact⟨h,aR (by omega),fun h=>by cases h⟩
 ·rename_i hl
  dsimp only
  have nB:m.free.getD (m.free.length - 1) kt.bR∈m.free:=mD (by omega)
  generalize hx:m.free.getD (m.free.length - 1) kt.bR=x at nB
  obtain⟨h1,h2⟩:=h.fr x nB
  have amj:m.free=m.free.take (m.free.length - 1)++[x]:=by
   have du:m.free.length - 1 < m.free.length:=by omega
   rw [<- hx,adX,abj du]
   have:=agU (m.free.length - 1) m.free
   rw [List.drop_eq_getElem_cons du,ad8 (by omega)] at this
   exact this.symm
  have iS:=h.nd
  rw [amj,aen,agd] at iS
  obtain⟨n1,_,n2⟩:=iS
  have hi:(x.val - 1).toNat < m.aS.length:=by rw [h.ls];omega
  have hm0:({m with free:=m.free.take (m.free.length - 1)}:ai).WF n:=⟨h.le,h.lb,h.ls,h.bw,h.sl,h.sw,fun t ht=>h.fr t (List.mem_of_mem_take ht),fun t ht=>h.fu t (List.mem_of_mem_take ht),n1⟩
  have hz:gD n ao:=aR (by omega)
  refine⟨⟨h.le,h.lb,(by show (m.aS.set _ _).length=n;rw [agO];exact h.ls),h.bw,fun t ht=>?_,fun t ht w hw2=>?_,hm0.fr,fun t ht=>?_,n1⟩,⟨by show 0<=x.val;omega,h2,fun e=>by have e:x.val=0:=e;omega⟩,fun _=>h1⟩
  ·rcases yW ht with ht | rfl
   ·exact h.sl t ht
   ·rfl
  ·rcases yW ht with ht | rfl
   ·exact h.sw t ht w hw2
   ·simp only [abk,abo,or_false] at hw2
    rcases hw2 with rfl | rfl | rfl | rfl | rfl | rfl | rfl | rfl | rfl | rfl<;>first | exact hz | exact gT (by omega) _
  ·show (({m with aS:=m.aS.set (x.val - 1).toNat _}:ai).af t.val).used=false
   rw [jJ hi]
   split
   ·rename_i e
    have:=hm0.fr t ht
    have e2:t.val=x.val:=by omega
    exact absurd e2 (n2 _ (ad9 ht) _ (by simp))
   ·exact hm0.fu t ht
def Hd (hd:Bool) (m:ai):Prop:=hd=true->1<=(m.dO.getD 0 dS.bR).af
structure anY (n:Nat) (hd:Bool) (a:oU) (r:cr×ai):Prop where
 wf:r.2.WF n
 h0:Hd hd r.2
 w:gD n r.1.w
 al:a.aj=4->r.1.ok=true->1<=r.1.w.af
 ld:a.aj=1->hd=true->a.s=0->a.f=0->1<=r.1.w.af
theorem SL {l:List W} {i:Nat} {w d:W} (h:l≠[]):(l.set i w).getD 0 d=if i=0 then w else l.getD 0 d:=by
 cases l with
 | nil=>exact absurd rfl h
 | cons a r=>cases i<;>simp
theorem XC {hd:Bool} {n:Nat} {m:ai} (hm:m.WF n) (h:Hd hd m) {s f:Int} {w:W} (hf:0<=f) (hw:hd=true->s=0->f=0->1<=w.af):Hd hd (m.fE s f w):=fun e=>by
 unfold ai.fE
 split
 ·rename_i hs
  show 1<=((m.dO.set f.toNat w).getD 0 dS.bR).af
  rw [SL (fun e=>by have:=hm.lb;rw [e] at this;cases this)]
  split
  ·exact hw e hs (by omega)
  ·exact h e
 ·exact h e
theorem ag7 {m:ai} {s g f:Int} (h:m.xJ s g f):0<=f:=by
 unfold ai.xJ at h
 split at h
 ·exact h.2.1
 ·exact h.2.1
theorem Bi {n:Nat} {hd:Bool} {m:ai} (h:m.WF n) (hh:Hd hd m) {a:oU} (hv:m.bG a) (hw:gD n a.new) (hw0:hd=true->(a.aj=2 \/ a.aj=3)->a.s=0->a.f=0->1<=a.new.af):anY n hd a (m.aU a):=by
 have h1:({m with steps:=cX m.steps}:ai).WF n:=⟨h.le,h.lb,h.ls,h.bw,h.sl,h.sw,h.fr,h.fu,h.nd⟩
 have n0:(0:Int)<=n:=by omega
 unfold ai.aU
 dsimp only
 unfold ai.bG at hv
 cases he:m.nY a with
 | some e =>
   dsimp only
   refine⟨?_,?_,?_,fun _ (h:false=true)=>(by cases h),fun hk hhd hs hf=>?_⟩
   ·cases m.fault<;>exact⟨h.le,h.lb,h.ls,h.bw,h.sl,h.sw,h.fr,h.fu,h.nd⟩
   ·cases m.fault<;>exact hh
   ·show gD n (if a.aj=1 \/ a.aj=3 then dX (-1) else ao)
    split
    ·exact gT n0 _
    ·exact aR n0
   ·exfalso
    unfold ai.nY ai.kK at he
    rw [if_neg (by omega),if_neg (by omega),if_pos hs] at he
    cases he
 | none =>
   dsimp only
   by_cases k4:a.aj=4
   ·rw [if_pos k4]
    obtain⟨w1,w2,w3⟩:=YW h1 a.new.bS
    refine⟨w1,?_,w2,fun _=>w3,fun hk=>by omega⟩
    unfold ai.alloc
    split
    ·exact hh
    ·exact hh
   ·rw [if_neg k4]
    by_cases k5:a.aj=5
    ·rw [if_pos k5]
     rw [if_neg (by omega),if_neg k4,if_pos k5] at hv
     obtain⟨v1,v2⟩:=hv
     rw [h.ls] at v2
     have hu:(m.af a.cU.af).used=true:=by
      unfold ai.nY ai.kK at he
      rw [if_neg k4,if_pos k5,if_neg (by omega)] at he
      cases hu:(m.af a.cU.af).used with
      | true=>rfl
      | false=>rw [if_pos hu] at he;cases he
     have hm:=Dp h v1 v2
     have hs:({m with steps:=cX m.steps,aS:=m.aS.set (a.cU.af - 1).toNat {m.af a.cU.af with used:=false}}:ai).WF n :=
      U7 h1 v1 v2 (show (m.af a.cU.af).cells.length=10 from h.sl _ hm) (show ∀w∈(m.af a.cU.af).cells,gD n w from h.sw _ hm) fun e=>by cases e
     have hi:(a.cU.af - 1).toNat < m.aS.length:=by rw [h.ls];omega
     refine⟨⟨h.le,h.lb,hs.ls,h.bw,hs.sl,hs.sw,fun x hx=>?_,fun x hx=>?_,?_⟩,hh,aR n0,fun hk=>absurd hk k4,fun hk=>by omega⟩
     ·rcases aec.1 hx with hx | hx
      ·exact h.fr x hx
      ·simp only [abk,abo,or_false] at hx
       subst hx;exact⟨v1,v2⟩
     ·rcases aec.1 hx with hx | hx
      ·exact hs.fu x hx
      ·simp only [abk,abo,or_false] at hx
       subst hx
       show (({m with aS:=m.aS.set (a.cU.af - 1).toNat {m.af a.cU.af with used:=false}}:ai).af a.cU.af).used=false
       rw [jJ hi,if_pos rfl]
     ·show ((m.free++[(⟨a.cU.af⟩:N1)]).map N1.val).Nodup
      rw [aen]
      refine Al h.nd fun hx=>?_
      obtain⟨y,hy,e⟩:=adK.1 hx
      have:=h.fu y hy
      rw [e,hu] at this
      cases this
    ·rw [if_neg k5]
     have hk:a.aj=1 \/ a.aj=2 \/ a.aj=3:=by
      by_cases hk:a.aj=1 \/ a.aj=2 \/ a.aj=3
      ·exact hk
      ·rw [if_neg hk,if_neg k4,if_neg k5] at hv;exact hv.elim
     rw [if_pos hk] at hv
     have rd:gD n (({m with steps:=cX m.steps}:ai).read a.s a.f):=Vx h1 hv
     have wr:(({m with steps:=cX m.steps}:ai).fE a.s a.f a.new).WF n:=TM h1 hv hw
     have hdw:(a.aj=2 \/ a.aj=3)->Hd hd (({m with steps:=cX m.steps}:ai).fE a.s a.f a.new):=fun hk=>XC h1 hh (ag7 hv) fun e hs hf=>hw0 e hk hs hf
     by_cases k1:a.aj=1
     ·rw [if_pos k1]
      refine⟨h1,hh,rd,fun hk=>absurd hk k4,fun _ hhd hs hf=>?_⟩
      show 1<=(({m with steps:=cX m.steps}:ai).read a.s a.f).af
      unfold ai.read
      rw [if_pos hs,hf]
      exact hh hhd
     ·rw [if_neg k1]
      by_cases k2:a.aj=2
      ·rw [if_pos k2]
       exact⟨wr,hdw (.inl k2),aR n0,fun hk=>absurd hk k4,fun hk=>absurd hk k1⟩
      ·rw [if_neg k2]
       cases kM (({m with steps:=cX m.steps}:ai).read a.s a.f) a.cU with
       | true=>exact⟨wr,hdw (.inr (by omega)),rd,fun hk=>absurd hk k4,fun hk=>absurd hk k1⟩
       | false=>exact⟨h1,hh,rd,fun hk=>absurd hk k4,fun hk=>absurd hk k1⟩
end Go.Proofs.YtadmfaohjnjajaaGreatDoor

namespace Go.Sx
section
variable {AV:Type} {P:Program}
end
section
variable {AV:Type} {P:Program} {N:dV AV}
def ig (N:dV AV) (d c:aG AV):Prop:=∀ρ n w,(d.q N ρ n w->c.q N ρ n w) /\ ∀k,c.fp ρ n k↔d.fp ρ n k
theorem ig.refl (d:aG AV):ig N d d:=fun _ _ _=>⟨id,fun _=>Iff.rfl⟩
structure vm (N:dV AV) (L nt:Nat) (s t:St AV) (π:Nat->Nat):Prop where
 E:∀k,k < nt->aF t.E k≠.lE->aF s.E k=(aF t.E k).cN π
 Eo:∀k,nt<=k->aF t.E k=dQ
 H:∀n c,ae t.H n=some c->∃d,ae s.H (π n)=some d /\ ig N d (c.cN π)
 inj:∀n m c d,ae t.H n=some c->ae t.H m=some d->π n=π m->n=m
 fix:∀n,n < L->π n=n
 Sr:∀n c,n < L->ae s.H n=some c->∃c',ae t.H n=some c'
 len:L<=t.H.length
 G:N.G<=L
 cl:bH N t
theorem aaj {π:Nat->Nat} {v:SV} (h:v.cN π=.lE):v=.lE:=by
 cases v<;>first | rfl | (simp [SV.cN] at h)
theorem vm.at {L nt:Nat} {s t:St AV} {π:Nat->Nat} (h:vm N L nt s t π) {ρ:Nm} {a:Act} {w:World} (bC:At N nt ρ s a w):At N nt (ρ.cN π) t a w:=by
 refine⟨⟨bC.em.size,fun k hk=>?_⟩,⟨⟨fun n c hc=>?_,fun n m c d tH hc hd k hk dW=>?_,fun g hg=>?_⟩,bC.own.ro.1,fun n c k hc hk=>?_⟩⟩
 ·rcases Nat.lt_or_ge k nt with du | FI
  case inr =>
   rw [h.Eo k FI]
   have:¬k < a.tmps.size:=by rw [bC.em.size];omega
   simp [Array.getD,this,dQ,SV.aq,undef]
  have he:=h.E k du hk
  have hs:aF s.E k≠.lE:=fun e=>hk (aaj (he.symm.trans e))
  rw [bC.em.get k hs,he,SV.lA]
 ·obtain⟨d,g1,g2⟩:=h.H n c hc
  exact KY.1 ((g2 ρ (π n) w).1 (bC.own.q _ _ g1))
 ·obtain⟨c',g1,g2⟩:=h.H n c hc
  obtain⟨d',g3,g4⟩:=h.H m d hd
  rw [<- oK] at hk dW
  exact bC.own.qz (π n) (π m) _ _ (fun e=>tH (h.inj n m c d hc hd e)) g1 g3 k (((g2 ρ (π n) w).2 k).1 hk) (((g4 ρ (π m) w).2 k).1 dW)
 ·show ρ (π g)=g
  rw [h.fix g (by have:=h.G;omega)]
  exact bC.own.qW g hg
 ·obtain⟨d,g1,g2⟩:=h.H n c hc
  rw [<- oK] at hk
  exact bC.own.ro.2 (π n) _ k g1 (((g2 ρ (π n) w).2 k).1 hk)
theorem vm.evo {L nt:Nat} {s t:St AV} {π:Nat->Nat} (h:vm N L nt s t π) {ρ0 ρ:Nm} {H0:Hp AV} {w0 w:World} (hL:H0.length=L) (he:iZ N L ρ0 H0 w0 ρ s.H w):iZ N L ρ0 H0 w0 (ρ.cN π) t.H w:=by
 refine⟨fun n c hc=>?_,fun n c hc=>?_,fun n hn hc=>?_,by rw [hL];exact h.len,he.mE,fun n c k hc hk=>?_,he.os,he.tape,he.output,he.size⟩
 ·obtain⟨c',nC⟩:=he.dw n c hc
  exact h.Sr n c' (by have:=bQ hc;omega) nC
 ·show ρ.L (π n)=_
  rw [h.fix n (by have:=bQ hc;omega)]
  exact he.jV n c hc
 ·cases ht:ae t.H n with
  | none=>rfl
  | some c =>
    obtain⟨d,g1,_⟩:=h.H n c ht
    rw [h.fix n hn,he.GY n hn hc] at g1
    cases g1
 ·obtain⟨d,g1,g2⟩:=h.H n c hc
  rw [<- oK] at hk
  exact he.new (π n) _ k g1 (((g2 ρ (π n) w).2 k).1 hk)
theorem Lq {nt:Nat} {c:Code} {ι:Type} (sH:ι->St AV) (μ:ι->Nat) (Fin:Ex->St AV->Prop) (L:Nat)
 (BF:∀i,∃ex s',Rnd P N nt c (sH i) ex s' /\ match ex with
   | .normal=>∃i' π,μ i' < μ i /\ vm N L nt s' (sH i') π
   | e=>Fin e s')
 {ρ0:Nm} {H0:Hp AV} {w0:World} (hL:H0.length=L):∀(n:Nat) (i:ι),μ i < n->bH N (sH i)->L<=(sH i).H.length->∀(ρ:Nm) (a:Act) (w:World),At N nt ρ (sH i) a w->iZ N L ρ0 H0 w0 ρ (sH i).H w->∀(Q:Exit->Act->World->Prop),
   (∀ex s' ρ' a' w',Fin ex s'->bH N s'->L<=s'.H.length->At N nt ρ' s' a' w'->iZ N L ρ0 H0 w0 ρ' s'.H w'->a'.defers=a.defers->Q (SN ex) a' w')->Code.rounds P c Q n a w
 | 0,i,h,_,_,_,_,_,_,_,_,_=>by omega
 | n+1,i,hm,hcl,hH,ρ,a,w,bC,dy,Q,hQ=>by
   obtain⟨ex,s',h1,h2⟩:=BF i
   obtain⟨c1,l1,k1⟩:=h1 L hcl hH
   refine wp_mono (k1 bC) ?_
   rintro e a₁ w₁ ⟨rfl,hl⟩
   obtain⟨⟨ρ₁,e1,o1,v1⟩,d1⟩:=hl
   cases ex with
   | normal =>
     obtain⟨i',π,hmu,hb⟩:=h2
     have arq:=hb.at (At.mk e1 o1)
     have aq1:=hb.evo hL (dy.trans v1)
     exact Lq sH μ Fin L BF hL n i' (by omega) hb.cl hb.len _ a₁ w₁ arq aq1 Q fun ex s'' ρ' a' w' hf hc hh ha he hd=>hQ ex s'' ρ' a' w' hf hc hh ha he (hd.trans d1)
   | exit id=>exact hQ _ s' ρ₁ a₁ w₁ h2 c1 l1 ⟨e1,o1⟩ (dy.trans v1) d1
   | ret=>exact hQ _ s' ρ₁ a₁ w₁ h2 c1 l1 ⟨e1,o1⟩ (dy.trans v1) d1
def Aq (nl:List Nat) (n:Nat):Nat:=match yc nl n with | some m=>m | none=>n
def qw:List Nat->Nat->Nat
 | [],_=>0
 | x::r,n=>match Nat.beq x n with | true=>0 | false=>qw r n+1
theorem xy:∀{nl:List Nat} {n:Nat},n∈nl->Aq nl (qw nl n)=n
 | x::r,n,h=>by
   simp only [qw]
   cases hb:Nat.beq x n with
   | true=>exact(aC _ _).1 hb
   | false =>
     rcases abk.1 h with rfl | h
     ·rw [agu] at hb;cases hb
     ·have:=xy h
      unfold Aq at this ⊢
      simp only [yc]
      cases hn:yc r (qw r n) with
      | some m=>rw [hn] at this;exact this
      | none =>
        rw [hn] at this
        exfalso
        rw [nth_eq] at hn
        have hlen:r.length<=qw r n:=by
         rcases Nat.lt_or_ge (qw r n) r.length with hh | hh
         ·rw [abj hh] at hn;cases hn
         ·exact hh
        have du:∀{l:List Nat},n∈l->qw l n < l.length:=by
         intro l
         induction l with
         | nil=>intro h;cases h
         | cons y l ih =>
           intro h
           simp only [qw]
           cases hy:Nat.beq y n with
           | true=>simp
           | false =>
             rcases abk.1 h with rfl | h
             ·rw [agu] at hy;cases hy
             ·have:=ih h;simp;omega
        have:=du h
        omega
def oE (nl ks:List Nat) (nt:Nat) (s:St AV):St AV :=
 {E:=only ks (s.E.map fun p=>(p.1,p.2.cN (qw nl))) nt,H:=nl.map fun m=>match ae s.H m with | some c=>some (c.cN (qw nl)) | none=>none}
theorem Lt (f:SV->SV) (h0:f dQ=dQ):∀(E:Ev) (k:Nat),aF (E.map fun p=>(p.1,f p.2)) k=f (aF E k)
 | [],k=>h0.symm
 | (j,v)::r,k=>by
   simp only [abv,aF]
   cases Nat.beq j k with
   | true=>rfl
   | false=>exact Lt f h0 r k
theorem AP (f:Nat->Option (aG AV)):∀(nl:List Nat) (n:Nat),ae (nl.map f) n=match nl[n]? with | some m=>f m | none=>none
 | [],n=>by simp [ae]
 | x::r,0=>by simp [ae]
 | x::r,n+1=>by simp only [abv,ae,AP f r n,aex]
def Uz (nl:List Nat):List Nat->Bool
 | []=>true
 | n::r=>match nD nl n with | true=>Uz nl r | false=>false
theorem zS {nl:List Nat}:∀{l:List Nat},Uz nl l=true->∀n∈l,n∈nl
 | [],_,n,h=>by cases h
 | x::r,hs,n,h=>by
   simp only [Uz] at hs
   split at hs
   ·rename_i hx
    rcases abk.1 h with rfl | h
    ·exact(gw _ _).1 hx
    ·exact zS hs n h
   ·cases hs
def ZR (nl:List Nat) (E:Ev):List Nat->Bool
 | []=>true
 | k::r=>match Uz nl (mu (aF E k)) with | true=>ZR nl E r | false=>false
theorem Gt {nl:List Nat} {E:Ev}:∀{ks:List Nat},ZR nl E ks=true->∀k∈ks,∀n∈mu (aF E k),n∈nl
 | [],_,k,h=>by cases h
 | x::r,hs,k,h=>by
   simp only [ZR] at hs
   split at hs
   ·rename_i hx
    rcases abk.1 h with rfl | h
    ·exact zS hx
    ·exact Gt hs k h
   ·cases hs
def UA (nl:List Nat) (H:Hp AV):List Nat->Bool
 | []=>true
 | m::r=>match (match ae H m with | some c=>Uz nl (eG c.cellsOf) | none=>true) with | true=>UA nl H r | false=>false
theorem zT {nl:List Nat} {H:Hp AV}:∀{l:List Nat},UA nl H l=true->∀m∈l,∀c,ae H m=some c->∀n∈eG c.cellsOf,n∈nl
 | [],_,m,h=>by cases h
 | x::r,hs,m,h=>by
   simp only [UA] at hs
   split at hs
   ·rename_i hx
    rcases abk.1 h with rfl | h
    ·intro c hc
     rw [hc] at hx
     exact zS hx
    ·exact zT hs m h
   ·cases hs
def XU:Nat->Nat->List Nat->Bool
 | 0,_,_=>true
 | L+1,i,x::r=>match Nat.beq x i with | true=>XU L (i+1) r | false=>false
 | _+1,_,[]=>false
theorem HC:∀{L i:Nat} {nl:List Nat},XU L i nl=true->L<=nl.length /\ ∀n,n < L->nl[n]?=some (i+n)
 | 0,_,_,_=>⟨adr _,fun n h=>by omega⟩
 | L+1,i,[],h=>by simp [XU] at h
 | L+1,i,x::r,h=>by
   simp only [XU] at h
   split at h
   ·rename_i hx
    have hx:=(aC _ _).1 hx
    obtain⟨h1,h2⟩:=HC h
    refine⟨by simp;omega,fun n hn=>?_⟩
    cases n with
    | zero=>simp [hx]
    | succ n =>
      rw [aex,h2 n (by omega)]
      congr 1
      omega
   ·cases h
def Jd:List Nat->Bool
 | []=>true
 | x::r=>match nD r x with | true=>false | false=>Jd r
theorem BB:∀{l:List Nat},Jd l=true->l.Nodup
 | [],_=>List.nodup_nil
 | x::r,h=>by
   simp only [Jd] at h
   split at h
   ·cases h
   ·rename_i hx
    exact aem.2 ⟨(fun e=>by rw [(gw _ _).2 e] at hx;cases hx),BB h⟩
def XR (L:Nat) (ks nl:List Nat) (s:St AV):Bool :=
 match Jd nl,XU L 0 nl,ZR nl s.E ks,UA nl s.H nl with | true,true,true,true=>true | _,_,_,_=>false
theorem BR {π σ:Nat->Nat} {c:aG AV} (h:∀n∈eG c.cellsOf,π (σ n)=n):(c.cN σ).cN π=c:=by
 have hl:∀l:List Cell,(∀n∈eG l,π (σ n)=n)->(l.map (Cell.cN σ)).map (Cell.cN π)=l:=fun l hl=>by
  have:=zO (π:=π) (σ:=σ) (x:=.agg l) hl
  simpa [V1.cN] using this
 cases c with
 | cells l ty=>simp only [aG.cN];rw [hl l h]
 | kD l es ty=>simp only [aG.cN];rw [hl l h]
 | j8=>rfl
 | bI a=>rfl
theorem KU {L nt:Nat} {ks nl:List Nat} {s:St AV} (h:XR L ks nl s=true) (hG:N.G<=L) (hcl:bH N (oE nl ks nt s)) :
 vm N L nt s (oE nl ks nt s) (Aq nl):=by
 unfold XR at h
 split at h
 ·rename_i h1 h2 h3 h4
  have h1:=BB h1
  obtain⟨h2,h2'⟩:=HC h2
  have h3:=Gt h3
  have h4:=zT h4
  have hgt:∀n c,ae (oE nl ks nt s).H n=some c->∃m d,nl[n]?=some m /\ ae s.H m=some d /\ c=d.cN (qw nl):=by
   intro n c hc
   rw [oE,AP] at hc
   split at hc
   ·rename_i m hm
    split at hc
    ·rename_i d hd
     cases hc
     exact⟨m,d,hm,hd,rfl⟩
    ·cases hc
   ·cases hc
  have tH:∀n m,nl[n]?=some m->Aq nl n=m:=fun n m hm=>by unfold Aq;rw [nth_eq,hm]
  refine⟨fun k hk dA=>?_,fun k hk=>?_,fun n c hc=>?_,fun n m c d hc hd he=>?_,fun n hn=>?_,fun n c hn hc=>?_,?_,hG,hcl⟩
  ·have e:aF (oE nl ks nt s).E k=match nD ks k with | true=>(aF s.E k).cN (qw nl) | false=>.lE:=by
    rw [oE,iF,if_pos hk,Lt (fun v=>v.cN (qw nl)) rfl]
    cases nD ks k<;>rfl
   cases hh:nD ks k with
   | false=>rw [e,hh] at dA;exact absurd rfl dA
   | true =>
     rw [e,hh]
     exact(zQ fun n hn=>xy (h3 k ((gw _ _).1 hh) n hn)).symm
  ·rw [oE,iF,if_neg (by omega)]
  ·obtain⟨m,d,g1,g2,rfl⟩:=hgt n c hc
   rw [tH n m g1,BR fun x hx=>xy (h4 m (ab8 g1) d g2 x hx)]
   exact⟨d,g2,ig.refl d⟩
  ·obtain⟨x,_,g1,_,_⟩:=hgt n c hc
   obtain⟨y,_,g2,_,_⟩:=hgt m d hd
   rw [tH n x g1,tH m y g2] at he
   subst he
   obtain⟨b1,e1⟩:=abt.1 g1
   exact(List.getElem?_inj b1 h1).1 (g1.trans g2.symm)
  ·rw [tH n n (by rw [h2' n hn];simp)]
  ·refine⟨c.cN (qw nl),?_⟩
   rw [oE,AP,h2' n hn]
   simp [hc]
  ·show L<=(nl.map _).length
   rw [agR];exact h2
 ·cases h
theorem vm.aly {L nt:Nat} {s t u:St AV} {π:Nat->Nat} (h:vm N L nt s t π) (hE:u.E=t.E) (hlen:u.H.length=t.H.length) (hH:∀n,(ae t.H n=none /\ ae u.H n=none) \/ ∃d c,ae t.H n=some d /\ ae u.H n=some c /\ ig N (d.cN π) (c.cN π)) (hcl:bH N u):vm N L nt s u π:=by
 have get:∀n c,ae u.H n=some c->∃d,ae t.H n=some d /\ ig N (d.cN π) (c.cN π):=fun n c hc=>by
  rcases hH n with⟨_,h2⟩ | ⟨d,c',h1,h2,h3⟩
  ·rw [h2] at hc;cases hc
  ·rw [h2] at hc;cases hc;exact⟨d,h1,h3⟩
 refine⟨fun k hk dA=>?_,fun k hk=>by rw [hE];exact h.Eo k hk,fun n c hc=>?_,fun n m c d hc hd he=>?_,h.fix,fun n c hn hc=>?_,by rw [hlen];exact h.len,h.G,hcl⟩
 ·rw [hE] at dA ⊢;exact h.E k hk dA
 ·obtain⟨d,g1,g2⟩:=get n c hc
  obtain⟨e,g3,g4⟩:=h.H n d g1
  exact⟨e,g3,fun ρ m w=>⟨fun hq=>(g2 ρ m w).1 ((g4 ρ m w).1 hq),fun k=>((g2 ρ m w).2 k).trans ((g4 ρ m w).2 k)⟩⟩
 ·obtain⟨x,g1,_⟩:=get n c hc
  obtain⟨y,g2,_⟩:=get m d hd
  exact h.inj n m x y g1 g2 he
 ·obtain⟨c',nC⟩:=h.Sr n c hn hc
  rcases hH n with⟨h1,_⟩ | ⟨d,c2,h1,h2,_⟩
  ·rw [h1] at nC;cases nC
  ·exact⟨c2,h2⟩
end
section
variable {AV:Type} {P:Program} {N:dV AV}
def eJ {M:Type} (step:M->T (Ex×M)):Nat->M->Option (Ex×M)
 | 0,_=>none
 | k+1,m=>match (step m).val with
   | some (.normal,m')=>eJ step k m'
   | some (.exit i,m')=>some (.exit i,m')
   | some (.ret,m')=>some (.ret,m')
   | none=>none
theorem Hf {M:Type} {step:M->T (Ex×M)} {ex:Ex} {m':M}:∀{k:Nat} {m:M},eJ step k m=some (ex,m')->∃m1,(step m1).val=some (ex,m')
 | 0,m,h=>by cases h
 | k+1,m,h=>by
   simp only [eJ] at h
   split at h
   ·exact Hf h
   ·rename_i hs;cases h;exact⟨m,hs⟩
   ·rename_i hs;cases h;exact⟨m,hs⟩
   ·cases h
def akt:Nat->Nat->List Nat
 | _,0=>[]
 | i,n+1=>i::akt (i+1) n
def Wr (E:Ev):List Nat->List Nat
 | []=>[]
 | k::r=>mu (aF E k)++Wr E r
def Jh (H:Hp AV):List Nat->List Nat
 | []=>[]
 | n::r=>(match ae H n with | some c=>eG c.cellsOf | none=>[])++Jh H r
def RY (H:Hp AV):Nat->List Nat->List Nat
 | 0,a=>a
 | k+1,a=>match CZ a (Jh H a) with
   | b=>match Nat.beq b.length a.length with
     | true=>b
     | false=>RY H k b
def OV (L:Nat) (ks:List Nat) (s:St AV):List Nat:=match CZ (akt 0 L) (Wr s.E ks) with
 | a=>RY s.H 9 a
def K3 (pk:aG AV->Option AV):Option (aG AV)->Option (aG AV)
 | none=>none
 | some c=>match pk c with | some a=>some (.bI a) | none=>some c
def adP (pk:aG AV->Option AV) (s:St AV):St AV:={E:=s.E,H:=s.H.map (K3 pk)}
def Td (H:Hp AV) (E:Ev):List Nat->Bool
 | []=>true
 | k::r=>match QN H (aF E k) with | true=>Td H E r | false=>false
theorem Ib {H:Hp AV} {E:Ev}:∀{ks:List Nat},Td H E ks=true->∀k∈ks,fh H (aF E k)
 | [],_,k,h=>by cases h
 | x::r,hs,k,h=>by
   simp only [Td] at hs
   split at hs
   ·rename_i hx
    rcases abk.1 h with rfl | h
    ·exact wm.1 hx
    ·exact Ib hs k h
   ·cases hs
def eQ (L nt:Nat) (ks:List Nat) (pk:aG AV->Option AV) (r:Ex×St AV):T (Ex×St AV) :=
 match OV L ks r.2 with
 | nl=>match XR L ks nl r.2 with
   | false=>.fail "back: names"
   | true=>match oE nl ks nt r.2 with
     | s=>match adP pk s with
       | t=>match Td s.H s.E ks,p6 s.H s.H,Td t.H t.E ks,p6 t.H t.H with
         | true,true,true,true=>.aE (r.1,t)
         | _,_,_,_=>.fail "back: closed"
theorem BO {nt:Nat} {ks:List Nat} {E:Ev} {H:Hp AV} (h1:Td H (only ks E nt) ks=true) (h2:p6 H H=true):bH N {E:=only ks E nt,H:=H}:=by
 refine⟨fun k=>?_,jh.1 h2⟩
 by_cases hk:k < nt
 ·cases hh:nD ks k with
  | true=>exact Ib h1 k ((gw _ _).1 hh)
  | false =>
    simp only [iF,if_pos hk,hh]
    trivial
 ·simp only [iF,if_neg hk]
  exact mf _
theorem RU {pk:aG AV->Option AV} (zH:∀d a,pk d=some a->∀π,ig N (d.cN π) (.bI a)) (π:Nat->Nat) (d:aG AV):∃c,K3 pk (some d)=some c /\ ig N (d.cN π) (c.cN π):=by
 simp only [K3]
 split
 ·rename_i a ha;exact⟨_,rfl,zH d a ha π⟩
 ·exact⟨d,rfl,ig.refl _⟩
theorem vP (f:Option (aG AV)->Option (aG AV)) (h0:f none=none):∀(H:Hp AV) (n:Nat),ae (H.map f) n=f (ae H n)
 | [],n=>by cases n<;>simp [ae,h0]
 | x::r,0=>rfl
 | x::r,n+1=>by simp only [abv,ae];exact vP f h0 r n
theorem Ff {L nt:Nat} {ks:List Nat} {pk:aG AV->Option AV} (zH:∀d a,pk d=some a->∀π,ig N (d.cN π) (.bI a)) (hG:N.G<=L) {r r':Ex×St AV} (h:(eQ L nt ks pk r).val=some r'):r'.1=r.1 /\ ∃π,vm N L nt r.2 r'.2 π:=by
 unfold eQ at h
 simp only at h
 split at h
 ·cases h
 ·rename_i hf
  split at h
  ·rename_i h1 h2 h3 h4
   cases h
   refine⟨rfl,_,(KU hf hG (BO h1 h2)).aly rfl (by simp [adP]) (fun n=>?_) (BO h3 h4)⟩
   show _ \/ ∃d c,_ /\ ae ((oE _ ks nt r.2).H.map (K3 pk)) n=some c /\ _
   rw [vP _ rfl]
   cases hd:ae (oE (OV L ks r.2) ks nt r.2).H n with
   | none=>exact .inl ⟨rfl,by show ae ((oE _ ks nt r.2).H.map (K3 pk)) n=none;rw [vP _ rfl,hd];rfl⟩
   | some d =>
     obtain⟨c,g1,g2⟩:=RU zH (Aq (OV L ks r.2)) d
     exact .inr ⟨d,c,rfl,g1,g2⟩
  ·cases h
def rX (N:dV AV) (nt:Nat) (s t:St AV):Prop:=bH N s->bH N t /\ s.H.length<=t.H.length /\ ∀(ρ:Nm) (a:Act) (w:World),At N nt ρ s a w->∃ρ',At N nt ρ' t a w /\ iZ N s.H.length ρ s.H w ρ' t.H w
theorem OG {nt:Nat} {s t:St AV} (hE:Tn nt s.E t.E) (hH:t.H=s.H):rX N nt s t:=by
 obtain⟨E,H⟩:=t
 simp only at hE hH
 subst hH
 exact fun h=>⟨Tn.closed (N:=N) (N':=N) hE h,abV _,fun ρ a w bC=>⟨ρ,⟨hE.em bC.em,bC.own⟩,iZ.refl _ _ _ _⟩⟩
theorem rX.trans {nt:Nat} {s t u:St AV} (h1:rX N nt s t) (h2:rX N nt t u):rX N nt s u:=fun h=>by
 obtain⟨c1,l1,k1⟩:=h1 h
 obtain⟨c2,l2,k2⟩:=h2 c1
 exact⟨c2,abL l1 l2,fun ρ a w bC=>by
  obtain⟨ρ1,a1,e1⟩:=k1 ρ a w bC
  obtain⟨ρ2,a2,e2⟩:=k2 ρ1 a w a1
  exact⟨ρ2,a2,e1.trans (e2.xo l1)⟩⟩
theorem OI {nt:Nat} {s t:St AV} {l:List AV} (hH:t.H=s.H++eN l) (hl:∀a∈l,∃es ty,N.F.fW a=some (es,ty,[])) (hG:N.G<=s.H.length)
 (hE:∀k,k < nt->aF t.E k=.lE \/ aF t.E k=aF s.E k \/ (aF s.E k≠.lE /\ tm (aF t.E k) /\ ∀ρ,(aF t.E k).aq ρ=(aF s.E k).aq ρ) \/ (aF s.E k=.v (.c .dq) /\ ∃j es,j < l.length /\ aF t.E k=.v (.c (.vs (s.H.length+j) 0 0 es false))))
 (hEo:∀k,nt<=k->aF t.E k=dQ):rX N nt s t:=fun hc=>by
 have Hv:∀n,ae t.H n=if n < s.H.length then ae s.H n else ae (eN l) (n - s.H.length):=fun n=>by rw [hH,bo]
 have dw:∀n c,ae s.H n=some c->ae t.H n=some c:=fun n c h=>by rw [Hv,if_pos (bQ h)];exact h
 refine⟨⟨fun k=>?_,fun n x hx=>?_⟩,by rw [hH];simp,fun ρ a w bC=>?_⟩
 ·rcases Nat.lt_or_ge k nt with hk | hk
  ·rcases hE k hk with e | e | ⟨_,e,_⟩ | ⟨_,j,es,hj,e⟩
   ·rw [e];trivial
   ·rw [e];exact(hc.E k).mono fun n c h=>⟨c,dw n c h⟩
   ·exact e.cl _
   ·rw [e]
    intro c F8 m hm
    simp [V1.cells] at F8
    subst F8
    simp only [Cell.name,aaC] at hm
    subst hm
    refine⟨.bI l[j],?_⟩
    rw [Hv,if_neg (by omega),aeu]
    exact(dx _ _ _).2 ⟨_,abj hj,rfl⟩
  ·rw [hEo k hk];exact mf _
 ·rw [Hv] at hx
  split at hx
  ·exact(hc.H n x hx).mono fun n c h=>⟨c,dw n c h⟩
  ·obtain⟨a,_,rfl⟩:=(dx _ _ _).1 hx
   intro c hc;cases hc
 ·let ρ':Nm:=⟨fun n=>if n < s.H.length then ρ.L n else⟨0,0,0⟩,fun n=>if n < s.H.length then ρ.S n else fun _=>False⟩
  have eL:∀n,n < s.H.length->ρ'.L n=ρ.L n:=fun n hn=>if_pos hn
  have eS:∀n,n < s.H.length->ρ'.S n=ρ.S n:=fun n hn=>if_pos hn
  have eL0:∀n,¬n < s.H.length->ρ'.L n=⟨0,0,0⟩:=fun n hn=>if_neg hn
  have eS0:∀n,¬n < s.H.length->ρ'.S n=fun _=>False:=fun n hn=>if_neg hn
  have agr:∀n c,ae s.H n=some c->ρ'.L n=ρ.L n:=fun n c h=>eL n (bQ h)
  have fp0:∀n c k,ae t.H n=some c->c.fp ρ' n k->n < s.H.length /\ ae s.H n=some c /\ c.fp ρ n k:=fun n c k hc hk=>by
   rw [Hv] at hc
   split at hc
   ·rename_i hn
    rw [cQ (eL n hn) (eS n hn)] at hk
    exact⟨hn,hc,hk⟩
   ·rename_i hn
    obtain⟨a,_,rfl⟩:=(dx _ _ _).1 hc
    have hk:ρ'.S n k:=hk
    rw [eS0 n hn] at hk
    exact hk.elim
  have own:eZ N ρ' t.H w:=by
   refine bC.own.sub ⟨fun n c hcn=>?_,fun n m c d tH hc hd k hk dW=>?_,fun g hg=>?_⟩ fun n c k hc hk=>?_
   ·rw [Hv] at hcn
    split at hcn
    ·rename_i hn
     exact oF (bC.own.q n c hcn) (eL n hn) (eS n hn) (dF (hc.H n c hcn) fun x y hy=>agr x y hy) (fun _ _=>rfl)
    ·rename_i hn
     obtain⟨a,ha,rfl⟩:=(dx _ _ _).1 hcn
     obtain⟨es,ty,F9⟩:=hl a (ab8 ha)
     show N.F.q a _ _ _
     rw [eL0 n hn,eS0 n hn]
     exact((N.F.mJ a _ _ _ F9).2 _ _ _).2 (.inl ⟨adr _,rfl,fun k h=>h⟩)
   ·obtain⟨h1,h2,h3⟩:=fp0 n c k hc hk
    obtain⟨g1,g2,g3⟩:=fp0 m d k hd dW
    exact bC.own.qz n m c d tH h2 g2 k h3 g3
   ·show (ρ'.L g).b=g
    rw [eL g (by omega)]
    exact bC.own.qW g hg
   ·obtain⟨h1,h2,h3⟩:=fp0 n c k hc hk
    exact⟨n,c,h2,h3⟩
  refine⟨ρ',⟨⟨bC.em.size,fun k hk=>?_⟩,own⟩,⟨fun n c h=>⟨c,dw n c h⟩,fun n c h=>agr n c h,fun n hn h=>?_,by rw [hH];simp,fun _ _ _=>rfl,fun n c k hc hk=>?_,rfl,rfl,rfl,abV _⟩⟩
  ·rcases Nat.lt_or_ge k nt with du | FI
   ·rcases hE k du with e | e | ⟨e1,e2,e3⟩ | ⟨e1,j,es,hj,e2⟩
    ·exact absurd e hk
    ·rw [e] at hk ⊢
     rw [bC.em.get k hk]
     exact(SV.b4 (hc.E k) agr).symm
    ·rw [e3,bC.em.get k e1]
     exact(SV.b4 (hc.E k) agr).symm
    ·rw [e2,bC.em.get k (by rw [e1];exact fun h=>by cases h),e1]
     show _=bN (ρ'.L (s.H.length+j)) 0 0 es
     rw [eL0 _ (by omega)]
     rfl
   ·rw [hEo k FI]
    have:¬k < a.tmps.size:=by rw [bC.em.size];omega
    simp [Array.getD,this,dQ,SV.aq,undef]
  ·rw [Hv,if_pos hn];exact h
  ·obtain⟨h1,h2,h3⟩:=fp0 n c k hc hk
   exact .inr ⟨n,c,h2,h3⟩
structure asu (N:dV AV) (cP:Callee AV) (lp:Nat->Option (St AV->T (Ex×St AV))) (nt:Nat) (c:Code) (s s':St AV) (ex:Ex) where
 M:Type
 sH:M->St AV
 step:M->T (Ex×M)
 ks:List Nat
 pk:aG AV->Option AV
 zH:∀d a,pk d=some a->∀π,ig N (d.cN π) (.bI a)
 L:Nat
 len:s.H.length=L
 FL:N.G<=L
 run:∀m r,(step m).val=some r->((xc N cP lp nt c (sH m)).bind (eQ L nt ks pk)).val=some (r.1,sH r.2)
 m:M
 k:Nat
 m':M
 Ka:rX N nt s (sH m)
 it:eJ step k m=some (ex,m')
 fin:s'=sH m'
structure ItG (P:Program) (N:dV AV) (nt:Nat) (c:Code) (s s':St AV) (ex:Ex) where
 M:Type
 sH:M->St AV
 step:M->T (Ex×M)
 L:Nat
 len:s.H.length=L
 FL:N.G<=L
 run:∀m r,(step m).val=some r->∃s1,Rnd P N nt c (sH m) r.1 s1 /\ ∃π,vm N L nt s1 (sH r.2) π
 m:M
 k:Nat
 m':M
 Ka:rX N nt s (sH m)
 it:eJ step k m=some (ex,m')
 fin:s'=sH m'
theorem D5 {N N':dV AV} (hF:N'.F=N.F) (hG:N'.G=N.G) {nt:Nat} {c:Code} {g:St AV->T (Ex×St AV)} (h:∀s s' ex,(g s).val=some (ex,s')->Nonempty (ItG P N nt c s s' ex)):fY P N' nt c g:=by
 intro L0 s s' ex hg hcl hL
 obtain⟨M,sH,step,L,rfl,FL,one,m,k,m',JA,Eu,rfl⟩:=h s s' ex hg
 have aq9:bH N s:=sM N hcl
 obtain⟨m1,hm1⟩:=Hf Eu
 obtain⟨s1,_,_,hb1⟩:=one m1 _ hm1
 simp only at hb1
 refine⟨sM N' hb1.cl,abL hL hb1.len,fun {ρ a w} bC=>?_⟩
 have arn:At N nt ρ s a w:=⟨bC.em,nO hF.symm hG.symm bC.own⟩
 obtain⟨amm,aml,amk⟩:=JA aq9
 obtain⟨ρ1,arp,aqZ⟩:=amk ρ a w arn
 refine wp_loop_rounds (k+1) (Lq (P:=P) (ι:={p:Nat×M // eJ step p.1 p.2=some (ex,m')}) (fun p=>sH p.1.2) (fun p=>p.1.1) (fun e s1=>e=ex /\ ∃π,vm N s.H.length nt s1 (sH m') π) s.H.length (fun i=>?_) (ρ0:=ρ) (H0:=s.H) (w0:=w) rfl (k+1) ⟨(k,m),Eu⟩ (by simp) amm aml ρ1 a w arp aqZ _ ?_)
 ·obtain⟨⟨j,n⟩,hi⟩:=i
  cases j with
  | zero=>cases hi
  | succ j =>
    simp only [eJ] at hi
    split at hi
    ·rename_i m2 hs
     obtain⟨s2,g1,π,g2⟩:=one n _ hs
     exact⟨.normal,s2,g1,⟨(j,m2),hi⟩,π,by simp,g2⟩
    ·rename_i id m2 hs
     cases hi
     obtain⟨s2,g1,π,g2⟩:=one n _ hs
     exact⟨.exit id,s2,g1,rfl,π,g2⟩
    ·rename_i m2 hs
     cases hi
     obtain⟨s2,g1,π,g2⟩:=one n _ hs
     exact⟨.ret,s2,g1,rfl,π,g2⟩
    ·cases hi
 ·rintro ex1 s2 ρ2 a' w' ⟨rfl,π,hb⟩ _ _ aro aqY d2
  have h3:=hb.at aro
  exact⟨rfl,⟨ρ2.cN π,h3.em,nO hF hG h3.own,zf N' ((hb.evo rfl aqY).xo hL)⟩,d2⟩
theorem eO {N N':dV AV} (hF:N'.F=N.F) (hG:N'.G=N.G) (hT:fD P N) {cP:Callee AV} (cH:gF P N cP) {lp:Nat->Option (St AV->T (Ex×St AV))} {nt:Nat} {c:Code} (qd:O7 P N nt c lp)
 {g:St AV->T (Ex×St AV)} (h:∀s s' ex,(g s).val=some (ex,s')->Nonempty (asu N cP lp nt c s s' ex)):fY P N' nt c g:=D5 hF hG fun s s' ex hg=>by
 obtain⟨M,sH,step,ks,pk,zH,L,hL,FL,j7,m,k,m',JA,Eu,aqX⟩:=h s s' ex hg
 exact⟨⟨M,sH,step,L,hL,FL,fun m r hr=>by
  obtain⟨⟨e1,s1⟩,h1,h2⟩:=T.bf (j7 m r hr)
  obtain⟨h3,π,h4⟩:=Ff zH FL h2
  exact⟨s1,Vp hT cH qd (by rw [h3];exact h1),π,h4⟩,m,k,m',JA,Eu,aqX⟩⟩
end
section
variable {AV:Type} {P:Program} {N:dV AV}
def My (H:Hp AV):List Nat->Option (List (aG AV))
 | []=>some []
 | n::r=>match ae H n with
   | some c=>match My H r with | some l=>some (c::l) | none=>none
   | none=>none
theorem E5 {H:Hp AV}:∀{ns:List Nat} {l:List (aG AV)},My H ns=some l->l.length=ns.length /\ ∀(i n:Nat),ns[i]?=some n->∃c,l[i]?=some c /\ ae H n=some c
 | [],l,h=>by simp only [My,aaC] at h;subst h;exact⟨rfl,fun i n h=>by simp at h⟩
 | n::r,l,h=>by
   simp only [My] at h
   split at h
   ·rename_i c hc
    split at h
    ·rename_i l' hl
     cases h
     obtain⟨h1,h2⟩:=E5 hl
     refine⟨congrArg (·+1) h1,fun i m hm=>?_⟩
     cases i with
     | zero=>cases hm;exact⟨c,rfl,hc⟩
     | succ i=>exact h2 i m hm
    ·cases h
   ·cases h
def Ic (l:List (aG AV)):Hp AV:=l.map some
theorem JQ (l:List (aG AV)) (n:Nat) (c:aG AV):ae (Ic l) n=some c↔l[n]?=some c:=by
 induction l generalizing n with
 | nil=>cases n<;>simp [Ic,ae]
 | cons a r ih =>
   cases n with
   | zero=>simp [Ic,ae]
   | succ n=>exact ih n
theorem acp (l:List (aG AV)):(Ic l).length=l.length:=by simp [Ic]
def DA:List Nat->List (aG AV)->Hp AV->Hp AV
 | n::r,c::l,H=>DA r l (cV H n (some c))
 | _,_,H=>H
theorem K1:∀(ns:List Nat) (l:List (aG AV)) (H:Hp AV),(DA ns l H).length=H.length
 | [],l,H=>by cases l<;>rfl
 | n::r,[],H=>rfl
 | n::r,a::l,H=>by
   show (DA r l (cV H n (some a))).length=_
   rw [K1 r l,ec]
theorem rE:∀(ns:List Nat) (l:List (aG AV)) (H:Hp AV) (m:Nat),m ∉ ns->ae (DA ns l H) m=ae H m
 | [],l,H,m,h=>by cases l<;>rfl
 | n::r,[],H,m,h=>rfl
 | n::r,a::l,H,m,h=>by
   show ae (DA r l (cV H n (some a))) m=_
   rw [rE r l _ m (fun e=>h (aby _ e)),bp _ (fun e=>h (by rw [e];exact abw))]
theorem Cy:∀(ns:List Nat) (l:List (aG AV)) (H:Hp AV),ns.Nodup->(∀n∈ns,n < H.length)->∀(i n:Nat) (a:aG AV),ns[i]?=some n->l[i]?=some a->ae (DA ns l H) n=some a
 | [],l,H,h,hl,i,n,a,h1,h2=>by simp at h1
 | n::r,[],H,h,hl,i,m,a,h1,h2=>by simp at h2
 | n::r,b::l,H,h,hl,i,m,a,h1,h2=>by
   show ae (DA r l (cV H n (some b))) m=_
   obtain⟨hn,hr⟩:=aem.1 h
   cases i with
   | zero =>
     simp only [aeC,aaC] at h1 h2
     subst h1 h2
     rw [rE r l _ _ hn,cg _ (hl _ abw)]
   | succ i =>
     simp only [aex] at h1 h2
     exact Cy r l _ hr (fun x hx=>by rw [ec];exact hl x (aby _ hx)) i m a h1 h2
def kF (H:Hp AV) (l:List Nat):List Nat:=match CZ [] l with
 | a=>RY H 9 a
theorem GQ (H:Hp AV):∀(k:Nat) (a:List Nat),a.Nodup->(RY H k a).Nodup /\ ∀n∈a,n∈RY H k a
 | 0,a,h=>⟨h,fun n hn=>hn⟩
 | k+1,a,h=>by
   obtain⟨b1,b2⟩:=q8 (Jh H a) a h
   simp only [RY]
   split
   ·exact⟨b1,fun n hn=>(b2 n).2 (.inl hn)⟩
   ·obtain⟨c1,c2⟩:=GQ H k _ b1
    exact⟨c1,fun n hn=>c2 n ((b2 n).2 (.inl hn))⟩
theorem RX (H:Hp AV) (l:List Nat):(kF H l).Nodup /\ ∀n∈l,n∈kF H l:=by
 unfold kF
 simp only
 obtain⟨a1,a2⟩:=q8 l [] List.nodup_nil
 obtain⟨b1,b2⟩:=GQ H 9 _ a1
 exact⟨b1,fun n hn=>b2 n ((a2 n).2 (.inr hn))⟩
def qh (cJ:AV->Nat->Bool) (M:List Bool) (tree:List SV->List (aG AV)->T (SV×List (aG AV)×List (aG AV))) (args:List SV) (H:Hp AV):T (SV×Hp AV) :=
 match sE cJ 0 M H with
 | false=>.fail "summary: variables"
 | true=>match kF H (iw args) with
   | ns=>match My H ns,ML M.length ns,UA ns H ns with
     | some l,true,true=>(tree (args.map (SV.cN fun n=>M.length+qk ns n)) (l.map (aG.cN fun n=>M.length+qk ns n))).bind fun r=>match Nat.beq r.2.1.length l.length with
       | true=>.aE (r.1.cN (B5 M.length ns H.length),DA ns (r.2.1.map (aG.cN (B5 M.length ns H.length))) H++Ic (r.2.2.map (aG.cN (B5 M.length ns H.length))))
       | false=>.fail "summary: things"
     | _,_,_=>.fail "summary: things"
theorem nN {cJ:AV->Nat->Bool} {sn:Nat->AV} (hs:∀a i,cJ a i=true->a=sn i) {M:List Bool} (hG:N.G=M.length) {tree:List SV->List (aG AV)->T (SV×List (aG AV)×List (aG AV))} {f:FuncId}
 (h:∀args l v l' nw,(tree args l).val=some (v,l',nw)->l'.length=l.length->(∀x∈args,fh (cS sn 0 M++Ic l) x)->dM N (cS sn 0 M++Ic l)->qT P N f args (cS sn 0 M++Ic l) v (cS sn 0 M++Ic (l'++nw))):cD P N f (qh cJ M tree):=by
 refine cD.of fun args H v H' hr ha hC=>?_
 unfold qh at hr
 split at hr
 ·cases hr
 rename_i Xz
 obtain⟨hML,Xz⟩:=uQ hs Xz
 dsimp only at hr
 obtain⟨iS,nB⟩:=RX H (iw args)
 generalize kF H (iw args)=ns at hr iS nB
 split at hr
 ·rename_i l0 hl FI zb
  obtain⟨⟨v1,l',nw⟩,ht,hr⟩:=T.bf hr
  have zb:=zT zb
  split at hr
  ·rename_i hlen
   have Hs:l'.length=l0.length:=(aC _ _).1 hlen
   cases hr
   obtain⟨al1,Zo⟩:=E5 hl
   have FI:=ya FI
   have AJ:∀n∈ns,n < H.length:=fun n hn=>by
    obtain⟨i,hi⟩:=aew.1 hn
    obtain⟨a,_,h2⟩:=Zo i n hi
    exact bQ h2
   let G:=M.length
   let π:=B5 G ns H.length
   let l:=l0.map (aG.cN fun n=>G+qk ns n)
   have hlen:l'.length=l.length:=by show _=(l0.map _).length;rw [agR];exact Hs
   have aqi:∀(j:Nat) (c:aG AV),l[j]?=some c->∃n,ns[j]?=some n /\ ae H n=some (c.cN π):=fun j c hj=>by
    have hj:(l0.map (aG.cN fun n=>G+qk ns n))[j]?=some c:=hj
    rw [aeR,abu] at hj
    obtain⟨d,hd,rfl⟩:=hj
    have Ht:j < ns.length:=by rw [<- al1];exact(abt.1 hd).1
    have h2:ns[j]?=some ns[j]:=abj Ht
    obtain⟨d',h3,h4⟩:=Zo j _ h2
    rw [hd] at h3
    cases h3
    exact⟨_,h2,by rw [h4,BR fun n hn=>oZ (rO (zb _ (List.getElem_mem Ht) d h4 n hn))]⟩
   have lat:∀n,n∈ns->∃d,ae H n=some d /\ l[qk ns n]?=some (d.cN fun n=>G+qk ns n):=fun n hn=>by
    obtain⟨d,h1,h2⟩:=Zo _ _ (rO hn)
    exact⟨d,h2,by show (l0.map _)[_]?=_;rw [aeR,h1];rfl⟩
   have back:∀x∈args,((x.cN fun n=>G+qk ns n).cN π)=x:=fun x hx=>zQ fun n hn=>by
    have:n∈ns:=nB n (qq.2 ⟨x,hx,hn⟩)
    exact oZ (rO this)
   have Yb:args=(args.map (SV.cN fun n=>G+qk ns n)).map (SV.cN π):=by
    rw [List.map_map]
    conv=>lhs;rw [<- List.map_id args]
    exact ad7 fun x hx=>(back x hx).symm
   have wF:(cS sn 0 M).length=G:=gg sn M 0
   have kS:∀(q:List (aG AV)) i c,ae (cS sn 0 M++Ic q) i=some c↔(i < G /\ M[i]?=some true /\ c=.bI (sn i)) \/ ∃j,i=G+j /\ q[j]?=some c:=fun q i c=>by
    rw [bo,wF]
    by_cases hi:i < G
    ·rw [if_pos hi,m5,abJ]
     constructor
     ·rintro ⟨h1,h2⟩;exact .inl ⟨hi,h1,h2⟩
     ·rintro (⟨_,h1,h2⟩ | ⟨j,h1,_⟩)
      ·exact⟨h1,h2⟩
      ·omega
    ·rw [if_neg hi,JQ]
     constructor
     ·intro h1;exact .inr ⟨i - G,by omega,h1⟩
     ·rintro (⟨h1,_⟩ | ⟨j,rfl,h1⟩)
      ·exact absurd h1 hi
      ·rw [aeu];exact h1
   have small:∀n,n∈ns->∃c,ae (cS sn 0 M++Ic l) (G+qk ns n)=some c:=fun n hn=>by
    obtain⟨d,_,h2⟩:=lat n hn
    exact⟨_,(kS l _ _).2 (.inr ⟨_,rfl,h2⟩)⟩
   have Hr:∀cs:List Cell,(∀n∈eG cs,n∈ns)->mL (cS sn 0 M++Ic l) (cs.map (Cell.cN fun n=>G+qk ns n)):=fun cs hcs c hc n hn=>by
    obtain⟨d,hd,rfl⟩:=adK.1 hc
    rw [yT] at hn
    obtain⟨m,hm,rfl⟩:=abu.1 hn
    exact small m (hcs m (yX.2 ⟨d,hd,hm⟩))
   have YR:∀x∈args.map (SV.cN fun n=>G+qk ns n),fh (cS sn 0 M++Ic l) x:=fun y hy=>by
    obtain⟨x,hx,rfl⟩:=adK.1 hy
    have one:∀z:V1,(∀n∈eG z.cells,n∈ns)->jG (cS sn 0 M++Ic l) (z.cN fun n=>G+qk ns n):=fun z hz=>by
     cases z with
     | c c =>
       have:=Hr [c] hz
       simpa [jG,V1.cells,V1.cN] using this
     | agg cs=>exact Hr cs hz
    have Jt:∀n∈mu x,n∈ns:=fun n hn=>nB n (qq.2 ⟨x,hx,hn⟩)
    cases x with
    | v x=>exact one x Jt
    | ji q =>
      intro z hz
      obtain⟨z',hz',rfl⟩:=adK.1 hz
      exact one z' fun n hn=>Jt n (sA.2 ⟨z',hz',hn⟩)
    | lE=>trivial
    | wJ f cs=>exact one (.agg cs) Jt
   have ag5:dM N (cS sn 0 M++Ic l):=by
    refine⟨fun i c hi=>?_,trivial⟩
    rcases (kS l i c).1 hi with⟨_,_,rfl⟩ | ⟨j,rfl,h1⟩
    ·intro c hc;cases hc
    ·have h1:(l0.map (aG.cN fun n=>G+qk ns n))[j]?=some c:=h1
     rw [aeR,abu] at h1
     obtain⟨d,hd,rfl⟩:=h1
     have Ht:j < ns.length:=by rw [<- al1];exact(abt.1 hd).1
     obtain⟨d',h3,h4⟩:=Zo j _ (abj Ht)
     rw [hd] at h3
     cases h3
     rw [BQ]
     exact Hr _ fun n hn=>zb _ (List.getElem_mem Ht) d h4 n hn
   have hc:=h _ l v1 l' nw ht hlen YR ag5
   rw [Yb]
   have qf:∀i,i < G->π i=i:=fun i hi=>PN hi
   have uI:=K1 ns (l'.map (aG.cN π)) H
   have aaT:∀(q:List (aG AV)) (j:Nat) a,q[j]?=some a->(q.map (aG.cN π))[j]?=some (a.cN π):=fun q j a hj=>by rw [aeR,hj];rfl
   have lens:l.length=ns.length:=by show (l0.map _).length=_;rw [agR,al1]
   have pC:∀j a,(l'++nw)[j]?=some a->(∃n,ns[j]?=some n /\ π (G+j)=n /\ ae (DA ns (l'.map (aG.cN π)) H++Ic (nw.map (aG.cN π))) n=some (a.cN π)) \/ (ns.length<=j /\ π (G+j)=H.length+(j - ns.length) /\ ae (DA ns (l'.map (aG.cN π)) H++Ic (nw.map (aG.cN π))) (H.length+(j - ns.length))=some (a.cN π)):=fun j a hj=>by
    by_cases Ht:j < ns.length
    ·have h1:ns[j]?=some ns[j]:=abj Ht
     rw [acQ (by omega)] at hj
     refine .inl ⟨ns[j],h1,oZ h1,?_⟩
     rw [bo,uI,if_pos (AJ _ (List.getElem_mem Ht))]
     exact Cy ns _ H iS AJ j _ _ h1 (aaT _ _ _ hj)
    ·rw [acR (by omega)] at hj
     refine .inr ⟨by omega,?_,?_⟩
     ·have:=yL (G:=G) (ns:=ns) (L:=H.length) (j:=j - ns.length)
      rw [show G+ns.length+(j - ns.length)=G+j by omega] at this
      exact this
     ·rw [bo,uI,if_neg (by omega),aeu]
      refine(JQ _ _ _).2 (aaT _ _ _ ?_)
      rw [hlen,lens] at hj
      exact hj
   have apq:∀i,(aG.bI (sn i):aG AV)=(aG.bI (sn i)).cN π:=fun i=>rfl
   refine HX (π:=π) hc (B':=DA ns (l'.map (aG.cN π)) H++Ic (nw.map (aG.cN π))) ?_ ?_ ?_ ?_ hC ?_ ?_ ?_ ?_ ?_ ?_ ?_
   ·intro i c hi
    rcases (kS l i c).1 hi with⟨h1,h2,rfl⟩ | ⟨j,rfl,h1⟩
    ·rw [qf i h1]
     have:=Xz i h2
     rw [abJ] at this
     exact this
    ·obtain⟨n,g1,g2⟩:=aqi j c h1
     rw [show π (G+j)=n from oZ g1]
     exact g2
   ·intro i j c d hi hj e
    rcases (kS _ i c).1 hi with⟨h1,_,_⟩ | ⟨x,rfl,h1⟩<;>rcases (kS _ j d).1 hj with⟨g1,_,_⟩ | ⟨y,rfl,g1⟩
    ·rw [qf i h1,qf j g1] at e;exact e
    ·rw [qf i h1] at e
     rcases pC y d g1 with⟨n,s1,s2,_⟩ | ⟨s0,s1,_⟩
     ·rw [s2] at e
      have:=FI n (ab8 s1)
      omega
     ·rw [s1] at e;omega
    ·rw [qf j g1] at e
     rcases pC x c h1 with⟨n,s1,s2,_⟩ | ⟨s0,s1,_⟩
     ·rw [s2] at e
      have:=FI n (ab8 s1)
      omega
     ·rw [s1] at e;omega
    ·rcases pC x c h1 with⟨n,s1,s2,_⟩ | ⟨s0,s1,_⟩<;>rcases pC y d g1 with⟨m,t1,t2,_⟩ | ⟨t0,t1,_⟩
     ·rw [s2,t2] at e
      subst e
      have:=Ak iS s1 t1
      omega
     ·rw [s2,t1] at e
      have:=AJ n (ab8 s1)
      omega
     ·rw [s1,t2] at e
      have:=AJ m (ab8 t1)
      omega
     ·rw [s1,t1] at e;omega
   ·intro i c hi
    rcases (kS l i c).1 hi with⟨h1,h2,rfl⟩ | ⟨j,rfl,h1⟩
    ·exact⟨_,(kS _ _ _).2 (.inl ⟨h1,h2,rfl⟩)⟩
    ·have hj:j < l'.length:=by rw [hlen];exact(abt.1 h1).1
     exact⟨_,(kS _ _ _).2 (.inr ⟨j,rfl,by rw [acQ hj];exact abj hj⟩)⟩
   ·intro g hg
    rw [hG] at hg
    exact qf g hg
   ·intro i c hi tC
    rcases (kS _ i c).1 hi with⟨h1,h2,rfl⟩ | ⟨j,rfl,h1⟩
    ·have:=(kS l i _).2 (.inl ⟨h1,h2,rfl⟩)
     rw [tC] at this;cases this
    ·by_cases hj:j < l.length
     ·have:=(kS l (G+j) _).2 (.inr ⟨j,rfl,abj hj⟩)
      rw [tC] at this;cases this
     ·rcases pC j c h1 with⟨n,s1,_,_⟩ | ⟨_,s1,_⟩
      ·have:=(abt.1 s1).1
       omega
      ·rw [s1];omega
   ·rw [hG];exact hML
   ·intro m c hm
    rw [bo,uI] at hm
    split at hm
    ·rename_i hml
     by_cases LQ:m∈ns
     ·obtain⟨j,hj⟩:=aew.1 LQ
      have Xx:j < l'.length:=by rw [hlen,lens];exact(abt.1 hj).1
      have:=Cy ns _ H iS AJ j m _ hj (aaT l' j _ (abj Xx))
      rw [this] at hm
      cases hm
      exact .inl ⟨G+j,_,(oZ hj).symm,(kS _ _ _).2 (.inr ⟨j,rfl,by rw [acQ Xx];exact abj Xx⟩),rfl⟩
     ·rw [rE ns _ H m LQ] at hm
      by_cases Xt:m < G /\ M[m]?=some true
      ·have:=Xz m Xt.2
       rw [abJ,hm] at this
       cases this
       exact .inl ⟨m,_,(qf m Xt.1).symm,(kS _ _ _).2 (.inl ⟨Xt.1,Xt.2,rfl⟩),apq m⟩
      ·refine .inr ⟨hm,fun i d hi e=>?_⟩
       rcases (kS _ i d).1 hi with⟨h1,h2,rfl⟩ | ⟨j,rfl,h1⟩
       ·rw [qf i h1] at e
        subst e
        exact Xt ⟨h1,h2⟩
       ·rcases pC j d h1 with⟨n,s1,s2,_⟩ | ⟨_,s1,_⟩
        ·rw [s2] at e
         subst e
         exact LQ (ab8 s1)
        ·rw [s1] at e;omega
    ·rename_i hml
     have h1:=(JQ _ _ _).1 hm
     rw [aeR,abu] at h1
     obtain⟨a,h1,rfl⟩:=h1
     refine .inl ⟨G+(ns.length+(m - H.length)),a,?_,(kS _ _ _).2 (.inr ⟨_,rfl,by rw [acR (by omega),hlen,lens,aeu];exact h1⟩),rfl⟩
     have:=yL (G:=G) (ns:=ns) (L:=H.length) (j:=m - H.length)
     rw [show G+(ns.length+(m - H.length))=G+ns.length+(m - H.length) by omega]
     rw [show π (G+ns.length+(m - H.length))=_ from this]
     omega
   ·intro i d hi
    rcases (kS _ i d).1 hi with⟨h1,h2,rfl⟩ | ⟨j,rfl,h1⟩
    ·rw [qf i h1,bo,uI,if_pos (by omega),rE]
     ·have:=Xz i h2
      rw [abJ] at this
      exact this
     ·intro nB
      have:=FI i nB
      omega
    ·rcases pC j d h1 with⟨n,_,s2,s3⟩ | ⟨_,s2,s3⟩
     ·rw [s2];exact s3
     ·rw [s2];exact s3
   ·intro m c hm
    by_cases LQ:m∈ns
    ·obtain⟨j,hj⟩:=aew.1 LQ
     have Xx:j < l'.length:=by rw [hlen,lens];exact(abt.1 hj).1
     exact⟨_,by rw [bo,uI,if_pos (bQ hm)];exact Cy ns _ H iS AJ j m _ hj (aaT l' j _ (abj Xx))⟩
    ·exact⟨c,by rw [bo,uI,if_pos (bQ hm),rE ns _ H m LQ];exact hm⟩
   ·intro m hm tC
    rw [bo,uI,if_pos hm,rE]
    ·exact tC
    ·intro LQ
     obtain⟨j,hj⟩:=aew.1 LQ
     obtain⟨a,_,h2⟩:=Zo j m hj
     rw [tC] at h2;cases h2
   ·rw [abl,uI];omega
  ·cases hr
 ·cases hr
