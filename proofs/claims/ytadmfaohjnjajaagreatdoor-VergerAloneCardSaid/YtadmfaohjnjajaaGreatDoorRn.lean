import Derived.Test.YtadmfaohjnjajaaGreatDoorOr
import Derived.Test.YtadmfaohjnjajaaGreatDoorSxM
import Derived.Test.YtadmfaohjnjajaaGreatDoorSxN
import Derived.Test.YtadmfaohjnjajaaGreatDoorSxAr
set_option linter.unusedVariables false
set_option linter.unusedSimpArgs false
set_option maxHeartbeats 0
set_option maxRecDepth 100000
namespace Go.Proofs.YtadmfaohjnjajaaGreatDoor
open Go Go.Sx Go.Proofs
theorem HK:∀(n:Nat) (l:List Int),l.Nodup->(∀x∈l,1<=x /\ x<=(n:Int))->l.length<=n
 | 0,l,_,h=>by
   cases l with
   | nil=>exact ab4 _
   | cons a r=>have:=h a aaV;omega
 | n+1,l,hd,h=>by
   have h1:=HK n (l.filter (fun x=>x != ((n+1:Nat):Int))) (hd.sublist afr) fun x hx=>by
    obtain⟨hx,dE⟩:=af2.1 hx;have:=h x hx;have dE:x≠((n+1:Nat):Int):=by simpa using dE
    omega
   have h2:l.length<=(l.filter (fun x=>x != ((n+1:Nat):Int))).length+1:=by
    clear h h1;induction l with
    | nil=>simp
    | cons a r ih =>
      rw [ads] at hd;rw [aeu];cases ha:a != ((n+1:Nat):Int) with
      | true=>simp only [if_true,aaQ];have:=ih hd.2;omega
      | false =>
        have ha:a=((n+1:Nat):Int):=by simpa using ha
        have hr:r.filter (fun x=>x != ((n+1:Nat):Int))=r:=List.filter_eq_self.2 fun x hx=>by have:x≠a:=fun e=>hd.1 (e▸hx);rw [<- ha];simpa using this
        simp only [Bool.false_eq_true,if_false,aaQ];rw [hr];omega
   omega
structure ah.WF (n:Nat) (m:ah):Prop where
 le:n<=1024
 lb:m.dX.length=85
 ls:m.aW.length=n
 bw:∀w∈m.dX,gV n w
 sl:∀s∈m.aW,s.cells.length=10
 sw:∀s∈m.aW,∀w∈s.cells,gV n w
 fr:∀x∈m.free,1<=x.val /\ x.val<=(n:Int)
 fu:∀x∈m.free,(m.ae x.val).used=false
 nd:(m.free.map N1.val).Nodup
theorem ah.WF.ok {n:Nat} {m:ah} (h:m.WF n):m.Ok:=by
 have:=h.le;refine⟨by rw [h.lb];decide,by rw [h.ls];omega,?_,fun x hx=>?_⟩
 ·have:=HK n (m.free.map N1.val) h.nd fun x hx=>by obtain⟨y,hy,rfl⟩:=ac0.1 hx;exact h.fr y hy
  rw [af1] at this;omega
 ·have:=h.fr x hx;exact⟨this.1,by rw [h.ls];exact this.2⟩
theorem kz {α:Type} {l:List α} {i:Nat} {d:α} (h:i < l.length):l.getD i d∈l:=by rw [ac7,aaN h];exact List.getElem_mem h
theorem Ee {n:Nat} {m:ah} (h:m.WF n) {s:Int} (h1:1<=s) (h2:s<=n):m.ae s∈m.aW:=kz (by rw [h.ls];omega)
theorem Xi {n:Nat} {m:ah} (h:m.WF n) {s g f:Int} (ha:m.yz s g f):gV n (m.read s f):=by
 unfold ah.yz at ha;unfold ah.read;split at ha
 ·rename_i hs;rw [if_pos hs];exact h.bw _ (kz (by omega))
 ·rename_i hs;rw [if_neg hs];have h1:m.ae s∈m.aW:=Ee h ha.1.1 (by have:=ha.1.2;rw [h.ls] at this;exact this);exact h.sw _ h1 _ (kz (by rw [h.sl _ h1];omega))
theorem zA {α:Type} {l:List α} {i:Nat} {a x:α} (h:x∈l.set i a):x∈l \/ x=a:=List.mem_or_eq_of_mem_set h
theorem j6 {m:ah} {i:Nat} {x:Sl} {s:Int} (hi:i < m.aW.length):({m with aW:=m.aW.set i x}:ah).ae s=if (s - 1).toNat=i then x else m.ae s:=by
 show (m.aW.set i x).getD (s - 1).toNat _=_;rw [ac7,List.getElem?_set];by_cases e:i=(s - 1).toNat
 ·rw [if_pos e,if_pos (e▸hi),if_pos e.symm];rfl
 ·rw [if_neg e,if_neg fun h=>e h.symm];show _=m.aW.getD _ _;rw [ac7]
theorem WU {n:Nat} {m:ah} (h:m.WF n) {s:Int} {x:Sl} (h1:1<=s) (h2:s<=n) (hl:x.cells.length=10) (hw:∀w∈x.cells,gV n w) (hu:x.used=true->(m.ae s).used=true):({m with aW:=m.aW.set (s - 1).toNat x}:ah).WF n:=by
 have hi:(s - 1).toNat < m.aW.length:=by rw [h.ls];omega
 refine⟨h.le,h.lb,(by show (m.aW.set _ _).length=n;rw [afX];exact h.ls),h.bw,fun t ht=>?_,fun t ht w hw2=>?_,h.fr,fun t ht=>?_,h.nd⟩
 ·rcases zA ht with ht | rfl
  ·exact h.sl t ht
  ·exact hl
 ·rcases zA ht with ht | rfl
  ·exact h.sw t ht w hw2
  ·exact hw w hw2
 ·rw [j6 hi];split
  ·rename_i e;cases hx:x.used with
   | false=>rfl
   | true =>
     have hfr:=h.fr t ht;have e2:t.val=s:=by omega
     have:=h.fu t ht;rw [e2,hu hx] at this;exact this
  ·exact h.fu t ht
theorem Vt {n:Nat} {m:ah} (h:m.WF n) {s g f:Int} (ha:m.yz s g f) {w:W} (hw:gV n w):(m.fP s f w).WF n:=by
 unfold ah.yz at ha;unfold ah.fP;split at ha
 ·rename_i hs;rw [if_pos hs];refine⟨h.le,(by show (m.dX.set _ _).length=85;rw [afX];exact h.lb),h.ls,fun x hx=>?_,h.sl,h.sw,h.fr,h.fu,h.nd⟩;rcases zA hx with hx | rfl
  ·exact h.bw x hx
  ·exact hw
 ·rename_i hs;rw [if_neg hs];have h2:s<=n:=by have:=ha.1.2;rw [h.ls] at this;exact this
  have hm:=Ee h ha.1.1 h2;refine WU h ha.1.1 h2 (by show ((List.range 10).map _).length=10;rw [af1,List.length_range]) (fun x hx=>?_) fun hu=>hu;obtain⟨j,hj,rfl⟩:=ac0.1 hx;have hj:=List.mem_range.1 hj;split
  ·exact hw
  ·exact h.sw _ hm _ (kz (by rw [h.sl _ hm];exact hj))
theorem Bd {l:List Int} {x:Int} (h:l.Nodup) (hx:x ∉ l):(l++[x]).Nodup:=by rw [afN];refine⟨h,by simp,fun a ha b hb=>?_⟩;simp only [aaO,aaR,or_false] at hb;subst hb;exact fun e=>hx (e▸ha)
theorem aaq {n:Nat} {m:ah} (h:m.WF n) (b:Int):(m.alloc b).2.WF n /\ gV n (m.alloc b).1.w /\ ((m.alloc b).1.ok=true->1<=(m.alloc b).1.w.ae):=by
 unfold ah.alloc;split
 ·exact⟨h,aU (by omega),fun h=>by cases h⟩
 ·rename_i hl;dsimp only;have nQ:m.free.getD (m.free.length - 1) gx.bK∈m.free:=kz (by omega);generalize hx:m.free.getD (m.free.length - 1) gx.bK=x at nQ;obtain⟨h1,h2⟩:=h.fr x nQ;have aow:m.free=m.free.take (m.free.length - 1)++[x]:=by
   have hlt:m.free.length - 1 < m.free.length:=by omega
   rw [<- hx,ac7,aaN hlt];have:=af9 (m.free.length - 1) m.free;rw [List.drop_eq_getElem_cons hlt,ade (by omega)] at this;exact this.symm
  have jQ:=h.nd;rw [aow,adA,afN] at jQ;obtain⟨n1,_,n2⟩:=jQ;have hi:(x.val - 1).toNat < m.aW.length:=by rw [h.ls];omega
  have hm0:({m with free:=m.free.take (m.free.length - 1)}:ah).WF n:=⟨h.le,h.lb,h.ls,h.bw,h.sl,h.sw,fun t ht=>h.fr t (List.mem_of_mem_take ht),fun t ht=>h.fu t (List.mem_of_mem_take ht),n1⟩;have hz:gV n aq:=aU (by omega);refine⟨⟨h.le,h.lb,(by show (m.aW.set _ _).length=n;rw [afX];exact h.ls),h.bw,fun t ht=>?_,fun t ht w hw2=>?_,hm0.fr,fun t ht=>?_,n1⟩,⟨by show 0<=x.val;omega,h2,fun e=>by have e:x.val=0:=e;omega⟩,fun _=>h1⟩
  ·rcases zA ht with ht | rfl
   ·exact h.sl t ht
   ·rfl
  ·rcases zA ht with ht | rfl
   ·exact h.sw t ht w hw2
   ·simp only [aaO,aaR,or_false] at hw2;rcases hw2 with rfl | rfl | rfl | rfl | rfl | rfl | rfl | rfl | rfl | rfl<;>first | exact hz | exact iy (by omega) _
  ·show (({m with aW:=m.aW.set (x.val - 1).toNat _}:ah).ae t.val).used=false;rw [j6 hi];split
   ·rename_i e;have:=hm0.fr t ht;have e2:t.val=x.val:=by omega
    exact absurd e2 (n2 _ (adf ht) _ (by simp))
   ·exact hm0.fu t ht
def Hd (hd:Bool) (m:ah):Prop:=hd=true->1<=(m.dX.getD 0 fg.bK).ae
structure aqe (n:Nat) (hd:Bool) (a:pB) (r:cJ×ah):Prop where
 wf:r.2.WF n
 h0:Hd hd r.2
 w:gV n r.1.w
 al:a.aj=4->r.1.ok=true->1<=r.1.w.ae
 ld:a.aj=1->hd=true->a.s=0->a.f=0->1<=r.1.w.ae
theorem Uy {l:List W} {i:Nat} {w d:W} (h:l≠[]):(l.set i w).getD 0 d=if i=0 then w else l.getD 0 d:=by
 cases l with
 | nil=>exact absurd rfl h
 | cons a r=>cases i<;>simp
theorem Za {hd:Bool} {n:Nat} {m:ah} (hm:m.WF n) (h:Hd hd m) {s f:Int} {w:W} (hf:0<=f) (hw:hd=true->s=0->f=0->1<=w.ae):Hd hd (m.fP s f w):=fun e=>by
 unfold ah.fP;split
 ·rename_i hs;show 1<=((m.dX.set f.toNat w).getD 0 fg.bK).ae;rw [Uy (fun e=>by have:=hm.lb;rw [e] at this;cases this)];split
  ·exact hw e hs (by omega)
  ·exact h e
 ·exact h e
theorem ai3 {m:ah} {s g f:Int} (h:m.yz s g f):0<=f:=by
 unfold ah.yz at h;split at h
 ·exact h.2.1
 ·exact h.2.1
theorem BV {n:Nat} {hd:Bool} {m:ah} (h:m.WF n) (hh:Hd hd m) {a:pB} (hv:m.bM a) (hw:gV n a.new) (hw0:hd=true->(a.aj=2 \/ a.aj=3)->a.s=0->a.f=0->1<=a.new.ae):aqe n hd a (m.aV a):=by
 have h1:({m with steps:=di m.steps}:ah).WF n:=⟨h.le,h.lb,h.ls,h.bw,h.sl,h.sw,h.fr,h.fu,h.nd⟩;have n0:(0:Int)<=n:=by omega
 unfold ah.aV;dsimp only;unfold ah.bM at hv;cases he:m.oz a with
 | some e =>
   dsimp only;refine⟨?_,?_,?_,fun _ (h:false=true)=>(by cases h),fun hk hhd hs hf=>?_⟩
   ·cases m.fault<;>exact⟨h.le,h.lb,h.ls,h.bw,h.sl,h.sw,h.fr,h.fu,h.nd⟩
   ·cases m.fault<;>exact hh
   ·show gV n (if a.aj=1 \/ a.aj=3 then dZ (-1) else aq);split
    ·exact iy n0 _
    ·exact aU n0
   ·exfalso;unfold ah.oz ah.lE at he;rw [if_neg (by omega),if_neg (by omega),if_pos hs] at he;cases he
 | none =>
   dsimp only;by_cases k4:a.aj=4
   ·rw [if_pos k4];obtain⟨w1,w2,w3⟩:=aaq h1 a.new.bU;refine⟨w1,?_,w2,fun _=>w3,fun hk=>by omega⟩;unfold ah.alloc;split
    ·exact hh
    ·exact hh
   ·rw [if_neg k4];by_cases k5:a.aj=5
    ·rw [if_pos k5];rw [if_neg (by omega),if_neg k4,if_pos k5] at hv;obtain⟨v1,v2⟩:=hv;rw [h.ls] at v2;have hu:(m.ae a.dy.ae).used=true:=by
      unfold ah.oz ah.lE at he;rw [if_neg k4,if_pos k5,if_neg (by omega)] at he;cases hu:(m.ae a.dy.ae).used with
      | true=>rfl
      | false=>rw [if_pos hu] at he;cases he
     have hm:=Ee h v1 v2
     have hs:({m with steps:=di m.steps,aW:=m.aW.set (a.dy.ae - 1).toNat {m.ae a.dy.ae with used:=false}}:ah).WF n :=
      WU h1 v1 v2 (show (m.ae a.dy.ae).cells.length=10 from h.sl _ hm) (show ∀w∈(m.ae a.dy.ae).cells,gV n w from h.sw _ hm) fun e=>by cases e
     have hi:(a.dy.ae - 1).toNat < m.aW.length:=by rw [h.ls];omega
     refine⟨⟨h.le,h.lb,hs.ls,h.bw,hs.sl,hs.sw,fun x hx=>?_,fun x hx=>?_,?_⟩,hh,aU n0,fun hk=>absurd hk k4,fun hk=>by omega⟩
     ·rcases adg.1 hx with hx | hx
      ·exact h.fr x hx
      ·simp only [aaO,aaR,or_false] at hx;subst hx;exact⟨v1,v2⟩
     ·rcases adg.1 hx with hx | hx
      ·exact hs.fu x hx
      ·simp only [aaO,aaR,or_false] at hx;subst hx;show (({m with aW:=m.aW.set (a.dy.ae - 1).toNat {m.ae a.dy.ae with used:=false}}:ah).ae a.dy.ae).used=false;rw [j6 hi,if_pos rfl]
     ·show ((m.free++[(⟨a.dy.ae⟩:N1)]).map N1.val).Nodup;rw [adA];refine Bd h.nd fun hx=>?_;obtain⟨y,hy,e⟩:=ac0.1 hx;have:=h.fu y hy;rw [e,hu] at this;cases this
    ·rw [if_neg k5];have hk:a.aj=1 \/ a.aj=2 \/ a.aj=3:=by
      by_cases hk:a.aj=1 \/ a.aj=2 \/ a.aj=3
      ·exact hk
      ·rw [if_neg hk,if_neg k4,if_neg k5] at hv;exact hv.elim
     rw [if_pos hk] at hv;have rd:gV n (({m with steps:=di m.steps}:ah).read a.s a.f):=Xi h1 hv;have wr:(({m with steps:=di m.steps}:ah).fP a.s a.f a.new).WF n:=Vt h1 hv hw;have hdw:(a.aj=2 \/ a.aj=3)->Hd hd (({m with steps:=di m.steps}:ah).fP a.s a.f a.new):=fun hk=>Za h1 hh (ai3 hv) fun e hs hf=>hw0 e hk hs hf;by_cases k1:a.aj=1
     ·rw [if_pos k1];refine⟨h1,hh,rd,fun hk=>absurd hk k4,fun _ hhd hs hf=>?_⟩;show 1<=(({m with steps:=di m.steps}:ah).read a.s a.f).ae;unfold ah.read;rw [if_pos hs,hf];exact hh hhd
     ·rw [if_neg k1];by_cases k2:a.aj=2
      ·rw [if_pos k2];exact⟨wr,hdw (.inl k2),aU n0,fun hk=>absurd hk k4,fun hk=>absurd hk k1⟩
      ·rw [if_neg k2];cases lG (({m with steps:=di m.steps}:ah).read a.s a.f) a.dy with
       | true=>exact⟨wr,hdw (.inr (by omega)),rd,fun hk=>absurd hk k4,fun hk=>absurd hk k1⟩
       | false=>exact⟨h1,hh,rd,fun hk=>absurd hk k4,fun hk=>absurd hk k1⟩
end Go.Proofs.YtadmfaohjnjajaaGreatDoor

namespace Go.Sx
section
variable {AV:Type} {P:Program}
end
section
variable {AV:Type} {P:Program} {N:eI AV}
def iM (N:eI AV) (d c:aK AV):Prop:=∀ρ n w,(d.q N ρ n w->c.q N ρ n w) /\ ∀k,c.fp ρ n k↔d.fp ρ n k
theorem iM.refl (d:aK AV):iM N d d:=fun _ _ _=>⟨id,fun _=>Iff.rfl⟩
structure wu (N:eI AV) (L nt:Nat) (s t:St AV) (π:Nat->Nat):Prop where
 E:∀k,k < nt->aJ t.E k≠.lU->aJ s.E k=(aJ t.E k).cV π
 Eo:∀k,nt<=k->aJ t.E k=ee
 H:∀n c,af t.H n=some c->∃d,af s.H (π n)=some d /\ iM N d (c.cV π)
 inj:∀n m c d,af t.H n=some c->af t.H m=some d->π n=π m->n=m
 fix:∀n,n < L->π n=n
 Uc:∀n c,n < L->af s.H n=some c->∃c',af t.H n=some c'
 len:L<=t.H.length
 G:N.G<=L
 cl:bO N t
theorem abN {π:Nat->Nat} {v:SV} (h:v.cV π=.lU):v=.lU:=by cases v<;>first | rfl | (simp [SV.cV] at h)
theorem wu.at {L nt:Nat} {s t:St AV} {π:Nat->Nat} (h:wu N L nt s t π) {ρ:Nm} {a:Act} {w:World} (bG:At N nt ρ s a w):At N nt (ρ.cV π) t a w:=by
 refine⟨⟨bG.em.size,fun k hk=>?_⟩,⟨⟨fun n c hc=>?_,fun n m c d uv hc hd k hk eh=>?_,fun g hg=>?_⟩,bG.own.ro.1,fun n c k hc hk=>?_⟩⟩
 ·rcases Nat.lt_or_ge k nt with hlt | GS;case inr =>
   rw [h.Eo k GS];have:¬k < a.tmps.size:=by rw [bG.em.size];omega
   simp [Array.getD,this,ee,SV.ay,undef]
  have he:=h.E k hlt hk;have hs:aJ s.E k≠.lU:=fun e=>hk (abN (he.symm.trans e));rw [bG.em.get k hs,he,SV.lZ]
 ·obtain⟨d,g1,g2⟩:=h.H n c hc;exact Mg.1 ((g2 ρ (π n) w).1 (bG.own.q _ _ g1))
 ·obtain⟨c',g1,g2⟩:=h.H n c hc;obtain⟨d',g3,g4⟩:=h.H m d hd;rw [<- ph] at hk eh;exact bG.own.qR (π n) (π m) _ _ (fun e=>uv (h.inj n m c d hc hd e)) g1 g3 k (((g2 ρ (π n) w).2 k).1 hk) (((g4 ρ (π m) w).2 k).1 eh)
 ·show ρ (π g)=g;rw [h.fix g (by have:=h.G;omega)];exact bG.own.rU g hg
 ·obtain⟨d,g1,g2⟩:=h.H n c hc;rw [<- ph] at hk;exact bG.own.ro.2 (π n) _ k g1 (((g2 ρ (π n) w).2 k).1 hk)
theorem wu.evo {L nt:Nat} {s t:St AV} {π:Nat->Nat} (h:wu N L nt s t π) {ρ0 ρ:Nm} {H0:Hp AV} {w0 w:World} (hL:H0.length=L) (he:lj N L ρ0 H0 w0 ρ s.H w):lj N L ρ0 H0 w0 (ρ.cV π) t.H w:=by
 refine⟨fun n c hc=>?_,fun n c hc=>?_,fun n hn hc=>?_,by rw [hL];exact h.len,he.mW,fun n c k hc hk=>?_,he.os,he.tape,he.output,he.size⟩
 ·obtain⟨c',oU⟩:=he.dC n c hc;exact h.Uc n c' (by have:=b7 hc;omega) oU
 ·show ρ.L (π n)=_;rw [h.fix n (by have:=b7 hc;omega)];exact he.kF n c hc
 ·cases ht:af t.H n with
  | none=>rfl
  | some c =>obtain⟨d,g1,_⟩:=h.H n c ht;rw [h.fix n hn,he.H6 n hn hc] at g1;cases g1
 ·obtain⟨d,g1,g2⟩:=h.H n c hc;rw [<- ph] at hk;exact he.new (π n) _ k g1 (((g2 ρ (π n) w).2 k).1 hk)
theorem MM {nt:Nat} {c:Code} {ι:Type} (tX:ι->St AV) (μ:ι->Nat) (Fin:Ex->St AV->Prop) (L:Nat)
 (Cm:∀i,∃ex s',Rnd P N nt c (tX i) ex s' /\ match ex with
   | .normal=>∃i' π,μ i' < μ i /\ wu N L nt s' (tX i') π
   | e=>Fin e s')
 {ρ0:Nm} {H0:Hp AV} {w0:World} (hL:H0.length=L):∀(n:Nat) (i:ι),μ i < n->bO N (tX i)->L<=(tX i).H.length->∀(ρ:Nm) (a:Act) (w:World),At N nt ρ (tX i) a w->lj N L ρ0 H0 w0 ρ (tX i).H w->∀(Q:Exit->Act->World->Prop),
   (∀ex s' ρ' a' w',Fin ex s'->bO N s'->L<=s'.H.length->At N nt ρ' s' a' w'->lj N L ρ0 H0 w0 ρ' s'.H w'->a'.defers=a.defers->Q (UB ex) a' w')->Code.rounds P c Q n a w
 | 0,i,h,_,_,_,_,_,_,_,_,_=>by omega
 | n+1,i,hm,hcl,hH,ρ,a,w,bG,dD,Q,hQ=>by
   obtain⟨ex,s',h1,h2⟩:=Cm i;obtain⟨c1,l1,k1⟩:=h1 L hcl hH;refine wp_mono (k1 bG) ?_;rintro e a₁ w₁ ⟨rfl,hl⟩;obtain⟨⟨ρ₁,e1,o1,v1⟩,d1⟩:=hl;cases ex with
   | normal =>obtain⟨i',π,hmu,hb⟩:=h2;have aub:=hb.at (At.mk e1 o1);have atM:=hb.evo hL (dD.trans v1);exact MM tX μ Fin L Cm hL n i' (by omega) hb.cl hb.len _ a₁ w₁ aub atM Q fun ex s'' ρ' a' w' hf hc hh ha he hd=>hQ ex s'' ρ' a' w' hf hc hh ha he (hd.trans d1)
   | exit id=>exact hQ _ s' ρ₁ a₁ w₁ h2 c1 l1 ⟨e1,o1⟩ (dD.trans v1) d1
   | ret=>exact hQ _ s' ρ₁ a₁ w₁ h2 c1 l1 ⟨e1,o1⟩ (dD.trans v1) d1
def Bg (nl:List Nat) (n:Nat):Nat:=match yQ nl n with | some m=>m | none=>n
def rh:List Nat->Nat->Nat
 | [],_=>0
 | x::r,n=>match Nat.beq x n with | true=>0 | false=>rh r n+1
theorem yk:∀{nl:List Nat} {n:Nat},n∈nl->Bg nl (rh nl n)=n
 | x::r,n,h=>by
   simp only [rh];cases hb:Nat.beq x n with
   | true=>exact(aG _ _).1 hb
   | false =>
     rcases aaO.1 h with rfl | h
     ·rw [afQ] at hb;cases hb
     ·have:=yk h;unfold Bg at this ⊢;simp only [yQ];cases hn:yQ r (rh r n) with
      | some m=>rw [hn] at this;exact this
      | none =>
        rw [hn] at this;exfalso;rw [nth_eq] at hn;have hlen:r.length<=rh r n:=by
         rcases Nat.lt_or_ge (rh r n) r.length with hh | hh
         ·rw [aaN hh] at hn;cases hn
         ·exact hh
        have hlt:∀{l:List Nat},n∈l->rh l n < l.length:=by
         intro l;induction l with
         | nil=>intro h;cases h
         | cons y l ih =>
           intro h;simp only [rh];cases hy:Nat.beq y n with
           | true=>simp
           | false =>
             rcases aaO.1 h with rfl | h
             ·rw [afQ] at hy;cases hy
             ·have:=ih h;simp;omega
        have:=hlt h;omega
def o6 (nl ks:List Nat) (nt:Nat) (s:St AV):St AV :=
 {E:=only ks (s.E.map fun p=>(p.1,p.2.cV (rh nl))) nt,H:=nl.map fun m=>match af s.H m with | some c=>some (c.cV (rh nl)) | none=>none}
theorem MQ (f:SV->SV) (h0:f ee=ee):∀(E:Ev) (k:Nat),aJ (E.map fun p=>(p.1,f p.2)) k=f (aJ E k)
 | [],k=>h0.symm
 | (j,v)::r,k=>by
   simp only [aaU,aJ];cases Nat.beq j k with
   | true=>rfl
   | false=>exact MQ f h0 r k
theorem Bu (f:Nat->Option (aK AV)):∀(nl:List Nat) (n:Nat),af (nl.map f) n=match nl[n]? with | some m=>f m | none=>none
 | [],n=>by simp [af]
 | x::r,0=>by simp [af]
 | x::r,n+1=>by simp only [aaU,af,Bu f r n,adU]
def Wk (nl:List Nat):List Nat->Bool
 | []=>true
 | n::r=>match nS nl n with | true=>Wk nl r | false=>false
theorem AL {nl:List Nat}:∀{l:List Nat},Wk nl l=true->∀n∈l,n∈nl
 | [],_,n,h=>by cases h
 | x::r,hs,n,h=>by
   simp only [Wk] at hs;split at hs
   ·rename_i hx;rcases aaO.1 h with rfl | h
    ·exact(gP _ _).1 hx
    ·exact AL hs n h
   ·cases hs
def abr (nl:List Nat) (E:Ev):List Nat->Bool
 | []=>true
 | k::r=>match Wk nl (mP (aJ E k)) with | true=>abr nl E r | false=>false
theorem Hv {nl:List Nat} {E:Ev}:∀{ks:List Nat},abr nl E ks=true->∀k∈ks,∀n∈mP (aJ E k),n∈nl
 | [],_,k,h=>by cases h
 | x::r,hs,k,h=>by
   simp only [abr] at hs;split at hs
   ·rename_i hx;rcases aaO.1 h with rfl | h
    ·exact AL hx
    ·exact Hv hs k h
   ·cases hs
def Wl (nl:List Nat) (H:Hp AV):List Nat->Bool
 | []=>true
 | m::r=>match (match af H m with | some c=>Wk nl (eR c.cellsOf) | none=>true) with | true=>Wl nl H r | false=>false
theorem AM {nl:List Nat} {H:Hp AV}:∀{l:List Nat},Wl nl H l=true->∀m∈l,∀c,af H m=some c->∀n∈eR c.cellsOf,n∈nl
 | [],_,m,h=>by cases h
 | x::r,hs,m,h=>by
   simp only [Wl] at hs;split at hs
   ·rename_i hx;rcases aaO.1 h with rfl | h
    ·intro c hc;rw [hc] at hx;exact AL hx
    ·exact AM hs m h
   ·cases hs
def Zp:Nat->Nat->List Nat->Bool
 | 0,_,_=>true
 | L+1,i,x::r=>match Nat.beq x i with | true=>Zp L (i+1) r | false=>false
 | _+1,_,[]=>false
theorem II:∀{L i:Nat} {nl:List Nat},Zp L i nl=true->L<=nl.length /\ ∀n,n < L->nl[n]?=some (i+n)
 | 0,_,_,_=>⟨acX _,fun n h=>by omega⟩
 | L+1,i,[],h=>by simp [Zp] at h
 | L+1,i,x::r,h=>by
   simp only [Zp] at h;split at h
   ·rename_i hx;have hx:=(aG _ _).1 hx;obtain⟨h1,h2⟩:=II h;refine⟨by simp;omega,fun n hn=>?_⟩;cases n with
    | zero=>simp [hx]
    | succ n =>rw [adU,h2 n (by omega)];congr 1;omega
   ·cases h
def J7:List Nat->Bool
 | []=>true
 | x::r=>match nS r x with | true=>false | false=>J7 r
theorem Ch:∀{l:List Nat},J7 l=true->l.Nodup
 | [],_=>List.nodup_nil
 | x::r,h=>by
   simp only [J7] at h;split at h
   ·cases h
   ·rename_i hx;exact ads.2 ⟨(fun e=>by rw [(gP _ _).2 e] at hx;cases hx),Ch h⟩
def Zm (L:Nat) (ks nl:List Nat) (s:St AV):Bool :=
 match J7 nl,Zp L 0 nl,abr nl s.E ks,Wl nl s.H nl with | true,true,true,true=>true | _,_,_,_=>false
theorem Cz {π σ:Nat->Nat} {c:aK AV} (h:∀n∈eR c.cellsOf,π (σ n)=n):(c.cV σ).cV π=c:=by
 have hl:∀l:List Cell,(∀n∈eR l,π (σ n)=n)->(l.map (Cell.cV σ)).map (Cell.cV π)=l:=fun l hl=>by have:=AB (π:=π) (σ:=σ) (x:=.agg l) hl;simpa [V1.cV] using this
 cases c with
 | cells l ty=>simp only [aK.cV];rw [hl l h]
 | oB l es ty=>simp only [aK.cV];rw [hl l h]
 | kN=>rfl
 | bN a=>rfl
theorem Mc {L nt:Nat} {ks nl:List Nat} {s:St AV} (h:Zm L ks nl s=true) (hG:N.G<=L) (hcl:bO N (o6 nl ks nt s)) :
 wu N L nt s (o6 nl ks nt s) (Bg nl):=by
 unfold Zm at h;split at h
 ·rename_i h1 h2 h3 h4;have h1:=Ch h1;obtain⟨h2,h2'⟩:=II h2;have h3:=Hv h3;have h4:=AM h4;have hgt:∀n c,af (o6 nl ks nt s).H n=some c->∃m d,nl[n]?=some m /\ af s.H m=some d /\ c=d.cV (rh nl):=by
   intro n c hc;rw [o6,Bu] at hc;split at hc
   ·rename_i m hm;split at hc
    ·rename_i d hd;cases hc;exact⟨m,d,hm,hd,rfl⟩
    ·cases hc
   ·cases hc
  have uv:∀n m,nl[n]?=some m->Bg nl n=m:=fun n m hm=>by unfold Bg;rw [nth_eq,hm]
  refine⟨fun k hk dE=>?_,fun k hk=>?_,fun n c hc=>?_,fun n m c d hc hd he=>?_,fun n hn=>?_,fun n c hn hc=>?_,?_,hG,hcl⟩
  ·have e:aJ (o6 nl ks nt s).E k=match nS ks k with | true=>(aJ s.E k).cV (rh nl) | false=>.lU:=by rw [o6,jd,if_pos hk,MQ (fun v=>v.cV (rh nl)) rfl];cases nS ks k<;>rfl
   cases hh:nS ks k with
   | false=>rw [e,hh] at dE;exact absurd rfl dE
   | true =>rw [e,hh];exact(AF fun n hn=>yk (h3 k ((gP _ _).1 hh) n hn)).symm
  ·rw [o6,jd,if_neg (by omega)]
  ·obtain⟨m,d,g1,g2,rfl⟩:=hgt n c hc;rw [uv n m g1,Cz fun x hx=>yk (h4 m (aca g1) d g2 x hx)];exact⟨d,g2,iM.refl d⟩
  ·obtain⟨x,_,g1,_,_⟩:=hgt n c hc;obtain⟨y,_,g2,_,_⟩:=hgt m d hd;rw [uv n x g1,uv m y g2] at he;subst he;obtain⟨b1,e1⟩:=aaS.1 g1;exact(List.getElem?_inj b1 h1).1 (g1.trans g2.symm)
  ·rw [uv n n (by rw [h2' n hn];simp)]
  ·refine⟨c.cV (rh nl),?_⟩;rw [o6,Bu,h2' n hn];simp [hc]
  ·show L<=(nl.map _).length;rw [af1];exact h2
 ·cases h
theorem wu.anL {L nt:Nat} {s t u:St AV} {π:Nat->Nat} (h:wu N L nt s t π) (hE:u.E=t.E) (hlen:u.H.length=t.H.length) (hH:∀n,(af t.H n=none /\ af u.H n=none) \/ ∃d c,af t.H n=some d /\ af u.H n=some c /\ iM N (d.cV π) (c.cV π)) (hcl:bO N u):wu N L nt s u π:=by
 have get:∀n c,af u.H n=some c->∃d,af t.H n=some d /\ iM N (d.cV π) (c.cV π):=fun n c hc=>by
  rcases hH n with⟨_,h2⟩ | ⟨d,c',h1,h2,h3⟩
  ·rw [h2] at hc;cases hc
  ·rw [h2] at hc;cases hc;exact⟨d,h1,h3⟩
 refine⟨fun k hk dE=>?_,fun k hk=>by rw [hE];exact h.Eo k hk,fun n c hc=>?_,fun n m c d hc hd he=>?_,h.fix,fun n c hn hc=>?_,by rw [hlen];exact h.len,h.G,hcl⟩
 ·rw [hE] at dE ⊢;exact h.E k hk dE
 ·obtain⟨d,g1,g2⟩:=get n c hc;obtain⟨e,g3,g4⟩:=h.H n d g1;exact⟨e,g3,fun ρ m w=>⟨fun hq=>(g2 ρ m w).1 ((g4 ρ m w).1 hq),fun k=>((g2 ρ m w).2 k).trans ((g4 ρ m w).2 k)⟩⟩
 ·obtain⟨x,g1,_⟩:=get n c hc;obtain⟨y,g2,_⟩:=get m d hd;exact h.inj n m x y g1 g2 he
 ·obtain⟨c',oU⟩:=h.Uc n c hn hc;rcases hH n with⟨h1,_⟩ | ⟨d,c2,h1,h2,_⟩
  ·rw [h1] at oU;cases oU
  ·exact⟨c2,h2⟩
end
section
variable {AV:Type} {P:Program} {N:eI AV}
def dK {M:Type} (step:M->T (Ex×M)):Nat->M->Option (Ex×M)
 | 0,_=>none
 | k+1,m=>match (step m).val with
   | some (.normal,m')=>dK step k m'
   | some (.exit i,m')=>some (.exit i,m')
   | some (.ret,m')=>some (.ret,m')
   | none=>none
theorem It {M:Type} {step:M->T (Ex×M)} {ex:Ex} {m':M}:∀{k:Nat} {m:M},dK step k m=some (ex,m')->∃m1,(step m1).val=some (ex,m')
 | 0,m,h=>by cases h
 | k+1,m,h=>by
   simp only [dK] at h;split at h
   ·exact It h
   ·rename_i hs;cases h;exact⟨m,hs⟩
   ·rename_i hs;cases h;exact⟨m,hs⟩
   ·cases h
def amK:Nat->Nat->List Nat
 | _,0=>[]
 | i,n+1=>i::amK (i+1) n
def X7 (E:Ev):List Nat->List Nat
 | []=>[]
 | k::r=>mP (aJ E k)++X7 E r
def Ka (H:Hp AV):List Nat->List Nat
 | []=>[]
 | n::r=>(match af H n with | some c=>eR c.cellsOf | none=>[])++Ka H r
def TU (H:Hp AV):Nat->List Nat->List Nat
 | 0,a=>a
 | k+1,a=>match DR a (Ka H a) with
   | b=>match Nat.beq b.length a.length with
     | true=>b
     | false=>TU H k b
def Qr (L:Nat) (ks:List Nat) (s:St AV):List Nat:=match DR (amK 0 L) (X7 s.E ks) with
 | a=>TU s.H 9 a
def Mm (pk:aK AV->Option AV):Option (aK AV)->Option (aK AV)
 | none=>none
 | some c=>match pk c with | some a=>some (.bN a) | none=>some c
def afy (pk:aK AV->Option AV) (s:St AV):St AV:={E:=s.E,H:=s.H.map (Mm pk)}
def UT (H:Hp AV) (E:Ev):List Nat->Bool
 | []=>true
 | k::r=>match SD H (aJ E k) with | true=>UT H E r | false=>false
theorem Jg {H:Hp AV} {E:Ev}:∀{ks:List Nat},UT H E ks=true->∀k∈ks,gf H (aJ E k)
 | [],_,k,h=>by cases h
 | x::r,hs,k,h=>by
   simp only [UT] at hs;split at hs
   ·rename_i hx;rcases aaO.1 h with rfl | h
    ·exact xh.1 hx
    ·exact Jg hs k h
   ·cases hs
def ff (L nt:Nat) (ks:List Nat) (pk:aK AV->Option AV) (r:Ex×St AV):T (Ex×St AV) :=
 match Qr L ks r.2 with
 | nl=>match Zm L ks nl r.2 with
   | false=>.fail "back: names"
   | true=>match o6 nl ks nt r.2 with
     | s=>match afy pk s with
       | t=>match UT s.H s.E ks,qy s.H s.H,UT t.H t.E ks,qy t.H t.H with
         | true,true,true,true=>.aD (r.1,t)
         | _,_,_,_=>.fail "back: closed"
theorem Cw {nt:Nat} {ks:List Nat} {E:Ev} {H:Hp AV} (h1:UT H (only ks E nt) ks=true) (h2:qy H H=true):bO N {E:=only ks E nt,H:=H}:=by
 refine⟨fun k=>?_,jH.1 h2⟩;by_cases hk:k < nt
 ·cases hh:nS ks k with
  | true=>exact Jg h1 k ((gP _ _).1 hh)
  | false =>simp only [jd,if_pos hk,hh];trivial
 ·simp only [jd,if_neg hk];exact mG _
theorem TQ {pk:aK AV->Option AV} (Aw:∀d a,pk d=some a->∀π,iM N (d.cV π) (.bN a)) (π:Nat->Nat) (d:aK AV):∃c,Mm pk (some d)=some c /\ iM N (d.cV π) (c.cV π):=by
 simp only [Mm];split
 ·rename_i a ha;exact⟨_,rfl,Aw d a ha π⟩
 ·exact⟨d,rfl,iM.refl _⟩
theorem wR (f:Option (aK AV)->Option (aK AV)) (h0:f none=none):∀(H:Hp AV) (n:Nat),af (H.map f) n=f (af H n)
 | [],n=>by cases n<;>simp [af,h0]
 | x::r,0=>rfl
 | x::r,n+1=>by simp only [aaU,af];exact wR f h0 r n
theorem Gl {L nt:Nat} {ks:List Nat} {pk:aK AV->Option AV} (Aw:∀d a,pk d=some a->∀π,iM N (d.cV π) (.bN a)) (hG:N.G<=L) {r r':Ex×St AV} (h:(ff L nt ks pk r).val=some r'):r'.1=r.1 /\ ∃π,wu N L nt r.2 r'.2 π:=by
 unfold ff at h;simp only at h;split at h
 ·cases h
 ·rename_i hf;split at h
  ·rename_i h1 h2 h3 h4;cases h;refine⟨rfl,_,(Mc hf hG (Cw h1 h2)).anL rfl (by simp [afy]) (fun n=>?_) (Cw h3 h4)⟩;show _ \/ ∃d c,_ /\ af ((o6 _ ks nt r.2).H.map (Mm pk)) n=some c /\ _;rw [wR _ rfl];cases hd:af (o6 (Qr L ks r.2) ks nt r.2).H n with
   | none=>exact .inl ⟨rfl,by show af ((o6 _ ks nt r.2).H.map (Mm pk)) n=none;rw [wR _ rfl,hd];rfl⟩
   | some d =>obtain⟨c,g1,g2⟩:=TQ Aw (Bg (Qr L ks r.2)) d;exact .inr ⟨d,c,rfl,g1,g2⟩
  ·cases h
def td (N:eI AV) (nt:Nat) (s t:St AV):Prop:=bO N s->bO N t /\ s.H.length<=t.H.length /\ ∀(ρ:Nm) (a:Act) (w:World),At N nt ρ s a w->∃ρ',At N nt ρ' t a w /\ lj N s.H.length ρ s.H w ρ' t.H w
theorem Qb {nt:Nat} {s t:St AV} (hE:U5 nt s.E t.E) (hH:t.H=s.H):td N nt s t:=by obtain⟨E,H⟩:=t;simp only at hE hH;subst hH;exact fun h=>⟨U5.closed (N:=N) (N':=N) hE h,ab4 _,fun ρ a w bG=>⟨ρ,⟨hE.em bG.em,bG.own⟩,lj.refl _ _ _ _⟩⟩
theorem td.trans {nt:Nat} {s t u:St AV} (h1:td N nt s t) (h2:td N nt t u):td N nt s u:=fun h=>by
 obtain⟨c1,l1,k1⟩:=h1 h;obtain⟨c2,l2,k2⟩:=h2 c1;exact⟨c2,abz l1 l2,fun ρ a w bG=>by
  obtain⟨ρ1,a1,e1⟩:=k1 ρ a w bG;obtain⟨ρ2,a2,e2⟩:=k2 ρ1 a w a1;exact⟨ρ2,a2,e1.trans (e2.yc l1)⟩⟩
theorem Qd {nt:Nat} {s t:St AV} {l:List AV} (hH:t.H=s.H++fA l) (hl:∀a∈l,∃es ty,N.F.gb a=some (es,ty,[])) (hG:N.G<=s.H.length)
 (hE:∀k,k < nt->aJ t.E k=.lU \/ aJ t.E k=aJ s.E k \/ (aJ s.E k≠.lU /\ uA (aJ t.E k) /\ ∀ρ,(aJ t.E k).ay ρ=(aJ s.E k).ay ρ) \/ (aJ s.E k=.v (.c .dP) /\ ∃j es,j < l.length /\ aJ t.E k=.v (.c (.vs (s.H.length+j) 0 0 es false))))
 (hEo:∀k,nt<=k->aJ t.E k=ee):td N nt s t:=fun hc=>by
 have IC:∀n,af t.H n=if n < s.H.length then af s.H n else af (fA l) (n - s.H.length):=fun n=>by rw [hH,bA]
 have dC:∀n c,af s.H n=some c->af t.H n=some c:=fun n c h=>by rw [IC,if_pos (b7 h)];exact h
 refine⟨⟨fun k=>?_,fun n x hx=>?_⟩,by rw [hH];simp,fun ρ a w bG=>?_⟩
 ·rcases Nat.lt_or_ge k nt with hk | hk
  ·rcases hE k hk with e | e | ⟨_,e,_⟩ | ⟨_,j,es,hj,e⟩
   ·rw [e];trivial
   ·rw [e];exact(hc.E k).mono fun n c h=>⟨c,dC n c h⟩
   ·exact e.cl _
   ·rw [e];intro c R8 m hm;simp [V1.cells] at R8;subst R8;simp only [Cell.name,aaf] at hm;subst hm;refine⟨.bN l[j],?_⟩;rw [IC,if_neg (by omega),adK];exact(eW _ _ _).2 ⟨_,aaN hj,rfl⟩
  ·rw [hEo k hk];exact mG _
 ·rw [IC] at hx;split at hx
  ·exact(hc.H n x hx).mono fun n c h=>⟨c,dC n c h⟩
  ·obtain⟨a,_,rfl⟩:=(eW _ _ _).1 hx;intro c hc;cases hc
 ·let ρ':Nm:=⟨fun n=>if n < s.H.length then ρ.L n else⟨0,0,0⟩,fun n=>if n < s.H.length then ρ.S n else fun _=>False⟩;have eL:∀n,n < s.H.length->ρ'.L n=ρ.L n:=fun n hn=>if_pos hn;have eS:∀n,n < s.H.length->ρ'.S n=ρ.S n:=fun n hn=>if_pos hn;have eL0:∀n,¬n < s.H.length->ρ'.L n=⟨0,0,0⟩:=fun n hn=>if_neg hn;have eS0:∀n,¬n < s.H.length->ρ'.S n=fun _=>False:=fun n hn=>if_neg hn;have agr:∀n c,af s.H n=some c->ρ'.L n=ρ.L n:=fun n c h=>eL n (b7 h);have fp0:∀n c k,af t.H n=some c->c.fp ρ' n k->n < s.H.length /\ af s.H n=some c /\ c.fp ρ n k:=fun n c k hc hk=>by
   rw [IC] at hc;split at hc
   ·rename_i hn;rw [cY (eL n hn) (eS n hn)] at hk;exact⟨hn,hc,hk⟩
   ·rename_i hn;obtain⟨a,_,rfl⟩:=(eW _ _ _).1 hc;have hk:ρ'.S n k:=hk;rw [eS0 n hn] at hk;exact hk.elim
  have own:gF N ρ' t.H w:=by
   refine bG.own.sub ⟨fun n c hcn=>?_,fun n m c d uv hc hd k hk eh=>?_,fun g hg=>?_⟩ fun n c k hc hk=>?_
   ·rw [IC] at hcn;split at hcn
    ·rename_i hn;exact o7 (bG.own.q n c hcn) (eL n hn) (eS n hn) (eV (hc.H n c hcn) fun x y hy=>agr x y hy) (fun _ _=>rfl)
    ·rename_i hn;obtain⟨a,ha,rfl⟩:=(eW _ _ _).1 hcn;obtain⟨es,ty,Nx⟩:=hl a (aca ha);show N.F.q a _ _ _;rw [eL0 n hn,eS0 n hn];exact((N.F.kZ a _ _ _ Nx).2 _ _ _).2 (.inl ⟨acX _,rfl,fun k h=>h⟩)
   ·obtain⟨h1,h2,h3⟩:=fp0 n c k hc hk;obtain⟨g1,g2,g3⟩:=fp0 m d k hd eh;exact bG.own.qR n m c d uv h2 g2 k h3 g3
   ·show (ρ'.L g).b=g;rw [eL g (by omega)];exact bG.own.rU g hg
   ·obtain⟨h1,h2,h3⟩:=fp0 n c k hc hk;exact⟨n,c,h2,h3⟩
  refine⟨ρ',⟨⟨bG.em.size,fun k hk=>?_⟩,own⟩,⟨fun n c h=>⟨c,dC n c h⟩,fun n c h=>agr n c h,fun n hn h=>?_,by rw [hH];simp,fun _ _ _=>rfl,fun n c k hc hk=>?_,rfl,rfl,rfl,ab4 _⟩⟩
  ·rcases Nat.lt_or_ge k nt with hlt | GS
   ·rcases hE k hlt with e | e | ⟨e1,e2,e3⟩ | ⟨e1,j,es,hj,e2⟩
    ·exact absurd e hk
    ·rw [e] at hk ⊢;rw [bG.em.get k hk];exact(SV.cg (hc.E k) agr).symm
    ·rw [e3,bG.em.get k e1];exact(SV.cg (hc.E k) agr).symm
    ·rw [e2,bG.em.get k (by rw [e1];exact fun h=>by cases h),e1];show _=cH (ρ'.L (s.H.length+j)) 0 0 es;rw [eL0 _ (by omega)];rfl
   ·rw [hEo k GS];have:¬k < a.tmps.size:=by rw [bG.em.size];omega
    simp [Array.getD,this,ee,SV.ay,undef]
  ·rw [IC,if_pos hn];exact h
  ·obtain⟨h1,h2,h3⟩:=fp0 n c k hc hk;exact .inr ⟨n,c,h2,h3⟩
structure avi (N:eI AV) (cX:Callee AV) (lp:Nat->Option (St AV->T (Ex×St AV))) (nt:Nat) (c:Code) (s s':St AV) (ex:Ex) where
 M:Type
 tX:M->St AV
 step:M->T (Ex×M)
 ks:List Nat
 pk:aK AV->Option AV
 Aw:∀d a,pk d=some a->∀π,iM N (d.cV π) (.bN a)
 L:Nat
 len:s.H.length=L
 GV:N.G<=L
 run:∀m r,(step m).val=some r->((xc N cX lp nt c (tX m)).bind (ff L nt ks pk)).val=some (r.1,tX r.2)
 m:M
 k:Nat
 m':M
 Ld:td N nt s (tX m)
 it:dK step k m=some (ex,m')
 fin:s'=tX m'
structure ItG (P:Program) (N:eI AV) (nt:Nat) (c:Code) (s s':St AV) (ex:Ex) where
 M:Type
 tX:M->St AV
 step:M->T (Ex×M)
 L:Nat
 len:s.H.length=L
 GV:N.G<=L
 run:∀m r,(step m).val=some r->∃s1,Rnd P N nt c (tX m) r.1 s1 /\ ∃π,wu N L nt s1 (tX r.2) π
 m:M
 k:Nat
 m':M
 Ld:td N nt s (tX m)
 it:dK step k m=some (ex,m')
 fin:s'=tX m'
theorem Fa {N N':eI AV} (hF:N'.F=N.F) (hG:N'.G=N.G) {nt:Nat} {c:Code} {g:St AV->T (Ex×St AV)} (h:∀s s' ex,(g s).val=some (ex,s')->Nonempty (ItG P N nt c s s' ex)):gr P N' nt c g:=by
 intro L0 s s' ex hg hcl hL;obtain⟨M,tX,step,L,rfl,GV,one,m,k,m',Kt,yS,rfl⟩:=h s s' ex hg;have atV:bO N s:=ub N hcl;obtain⟨m1,hm1⟩:=It yS;obtain⟨s1,_,_,hb1⟩:=one m1 _ hm1;simp only at hb1;refine⟨ub N' hb1.cl,abz hL hb1.len,fun {ρ a w} bG=>?_⟩;have at6:At N nt ρ s a w:=⟨bG.em,oc hF.symm hG.symm bG.own⟩;obtain⟨aoz,aoy,aox⟩:=Kt atV;obtain⟨ρ1,aua,atK⟩:=aox ρ a w at6;refine wp_loop_rounds (k+1) (MM (P:=P) (ι:={p:Nat×M // dK step p.1 p.2=some (ex,m')}) (fun p=>tX p.1.2) (fun p=>p.1.1) (fun e s1=>e=ex /\ ∃π,wu N s.H.length nt s1 (tX m') π) s.H.length (fun i=>?_) (ρ0:=ρ) (H0:=s.H) (w0:=w) rfl (k+1) ⟨(k,m),yS⟩ (by simp) aoz aoy ρ1 a w aua atK _ ?_)
 ·obtain⟨⟨j,n⟩,hi⟩:=i;cases j with
  | zero=>cases hi
  | succ j =>
    simp only [dK] at hi;split at hi
    ·rename_i m2 hs;obtain⟨s2,g1,π,g2⟩:=one n _ hs;exact⟨.normal,s2,g1,⟨(j,m2),hi⟩,π,by simp,g2⟩
    ·rename_i id m2 hs;cases hi;obtain⟨s2,g1,π,g2⟩:=one n _ hs;exact⟨.exit id,s2,g1,rfl,π,g2⟩
    ·rename_i m2 hs;cases hi;obtain⟨s2,g1,π,g2⟩:=one n _ hs;exact⟨.ret,s2,g1,rfl,π,g2⟩
    ·cases hi
 ·rintro ex1 s2 ρ2 a' w' ⟨rfl,π,hb⟩ _ _ at7 atJ d2;have h3:=hb.at at7;exact⟨rfl,⟨ρ2.cV π,h3.em,oc hF hG h3.own,zW N' ((hb.evo rfl atJ).yc hL)⟩,d2⟩
theorem eY {N N':eI AV} (hF:N'.F=N.F) (hG:N'.G=N.G) (hT:fN P N) {cX:Callee AV} (cR:gZ P N cX) {lp:Nat->Option (St AV->T (Ex×St AV))} {nt:Nat} {c:Code} (qG:QE P N nt c lp)
 {g:St AV->T (Ex×St AV)} (h:∀s s' ex,(g s).val=some (ex,s')->Nonempty (avi N cX lp nt c s s' ex)):gr P N' nt c g:=Fa hF hG fun s s' ex hg=>by
 obtain⟨M,tX,step,ks,pk,Aw,L,hL,GV,hrun,m,k,m',Kt,yS,atH⟩:=h s s' ex hg;exact⟨⟨M,tX,step,L,hL,GV,fun m r hr=>by
  obtain⟨⟨e1,s1⟩,h1,h2⟩:=T.bq (hrun m r hr);obtain⟨h3,π,h4⟩:=Gl Aw GV h2;exact⟨s1,Xb hT cR qG (by rw [h3];exact h1),π,h4⟩,m,k,m',Kt,yS,atH⟩⟩
end
section
variable {AV:Type} {P:Program} {N:eI AV}
def Ob (H:Hp AV):List Nat->Option (List (aK AV))
 | []=>some []
 | n::r=>match af H n with
   | some c=>match Ob H r with | some l=>some (c::l) | none=>none
   | none=>none
theorem Ga {H:Hp AV}:∀{ns:List Nat} {l:List (aK AV)},Ob H ns=some l->l.length=ns.length /\ ∀(i n:Nat),ns[i]?=some n->∃c,l[i]?=some c /\ af H n=some c
 | [],l,h=>by simp only [Ob,aaf] at h;subst h;exact⟨rfl,fun i n h=>by simp at h⟩
 | n::r,l,h=>by
   simp only [Ob] at h;split at h
   ·rename_i c hc;split at h
    ·rename_i l' hl;cases h;obtain⟨h1,h2⟩:=Ga hl;refine⟨congrArg (·+1) h1,fun i m hm=>?_⟩;cases i with
     | zero=>cases hm;exact⟨c,rfl,hc⟩
     | succ i=>exact h2 i m hm
    ·cases h
   ·cases h
def Jh (l:List (aK AV)):Hp AV:=l.map some
theorem KN (l:List (aK AV)) (n:Nat) (c:aK AV):af (Jh l) n=some c↔l[n]?=some c:=by
 induction l generalizing n with
 | nil=>cases n<;>simp [Jh,af]
 | cons a r ih =>
   cases n with
   | zero=>simp [Jh,af]
   | succ n=>exact ih n
theorem ad7 (l:List (aK AV)):(Jh l).length=l.length:=by simp [Jh]
def Et:List Nat->List (aK AV)->Hp AV->Hp AV
 | n::r,c::l,H=>Et r l (de H n (some c))
 | _,_,H=>H
theorem Mj:∀(ns:List Nat) (l:List (aK AV)) (H:Hp AV),(Et ns l H).length=H.length
 | [],l,H=>by cases l<;>rfl
 | n::r,[],H=>rfl
 | n::r,a::l,H=>by show (Et r l (de H n (some a))).length=_;rw [Mj r l,eB]
theorem sG:∀(ns:List Nat) (l:List (aK AV)) (H:Hp AV) (m:Nat),m ∉ ns->af (Et ns l H) m=af H m
 | [],l,H,m,h=>by cases l<;>rfl
 | n::r,[],H,m,h=>rfl
 | n::r,a::l,H,m,h=>by show af (Et r l (de H n (some a))) m=_;rw [sG r l _ m (fun e=>h (aaW _ e)),bz _ (fun e=>h (by rw [e];exact aaV))]
theorem Dh:∀(ns:List Nat) (l:List (aK AV)) (H:Hp AV),ns.Nodup->(∀n∈ns,n < H.length)->∀(i n:Nat) (a:aK AV),ns[i]?=some n->l[i]?=some a->af (Et ns l H) n=some a
 | [],l,H,h,hl,i,n,a,h1,h2=>by simp at h1
 | n::r,[],H,h,hl,i,m,a,h1,h2=>by simp at h2
 | n::r,b::l,H,h,hl,i,m,a,h1,h2=>by
   show af (Et r l (de H n (some b))) m=_;obtain⟨hn,hr⟩:=ads.1 h;cases i with
   | zero =>simp only [aeD,aaf] at h1 h2;subst h1 h2;rw [sG r l _ _ hn,cG _ (hl _ aaV)]
   | succ i =>simp only [adU] at h1 h2;exact Dh r l _ hr (fun x hx=>by rw [eB];exact hl x (aaW _ hx)) i m a h1 h2
def jc (H:Hp AV) (l:List Nat):List Nat:=match DR [] l with
 | a=>TU H 9 a
theorem HT (H:Hp AV):∀(k:Nat) (a:List Nat),a.Nodup->(TU H k a).Nodup /\ ∀n∈a,n∈TU H k a
 | 0,a,h=>⟨h,fun n hn=>hn⟩
 | k+1,a,h=>by
   obtain⟨b1,b2⟩:=rY (Ka H a) a h;simp only [TU];split
   ·exact⟨b1,fun n hn=>(b2 n).2 (.inl hn)⟩
   ·obtain⟨c1,c2⟩:=HT H k _ b1;exact⟨c1,fun n hn=>c2 n ((b2 n).2 (.inl hn))⟩
theorem TT (H:Hp AV) (l:List Nat):(jc H l).Nodup /\ ∀n∈l,n∈jc H l:=by unfold jc;simp only;obtain⟨a1,a2⟩:=rY l [] List.nodup_nil;obtain⟨b1,b2⟩:=HT H 9 _ a1;exact⟨b1,fun n hn=>b2 n ((a2 n).2 (.inr hn))⟩
def qK (cL:AV->Nat->Bool) (M:List Bool) (tree:List SV->List (aK AV)->T (SV×List (aK AV)×List (aK AV))) (args:List SV) (H:Hp AV):T (SV×Hp AV) :=
 match tQ cL 0 M H with
 | false=>.fail "summary: variables"
 | true=>match jc H (iP args) with
   | ns=>match Ob H ns,Om M.length ns,Wl ns H ns with
     | some l,true,true=>(tree (args.map (SV.cV fun n=>M.length+qQ ns n)) (l.map (aK.cV fun n=>M.length+qQ ns n))).bind fun r=>match Nat.beq r.2.1.length l.length with
       | true=>.aD (r.1.cV (CM M.length ns H.length),Et ns (r.2.1.map (aK.cV (CM M.length ns H.length))) H++Jh (r.2.2.map (aK.cV (CM M.length ns H.length))))
       | false=>.fail "summary: things"
     | _,_,_=>.fail "summary: things"
theorem n7 {cL:AV->Nat->Bool} {sn:Nat->AV} (hs:∀a i,cL a i=true->a=sn i) {M:List Bool} (hG:N.G=M.length) {tree:List SV->List (aK AV)->T (SV×List (aK AV)×List (aK AV))} {f:FuncId}
 (h:∀args l v l' nw,(tree args l).val=some (v,l',nw)->l'.length=l.length->(∀x∈args,gf (cZ sn 0 M++Jh l) x)->eX N (cZ sn 0 M++Jh l)->rT P N f args (cZ sn 0 M++Jh l) v (cZ sn 0 M++Jh (l'++nw))):cE P N f (qK cL M tree):=by
 refine cE.of fun args H v H' hr ha hC=>?_;unfold qK at hr;split at hr
 ·cases hr
 rename_i Y7;obtain⟨hML,Y7⟩:=vH hs Y7;dsimp only at hr;obtain⟨jQ,nQ⟩:=TT H (iP args);generalize jc H (iP args)=ns at hr jQ nQ;split at hr
 ·rename_i l0 hl GS zQ;obtain⟨⟨v1,l',nw⟩,ht,hr⟩:=T.bq hr;have zQ:=AM zQ;split at hr
  ·rename_i hlen;have IA:l'.length=l0.length:=(aG _ _).1 hlen;cases hr;obtain⟨al1,al2⟩:=Ga hl;have GS:=yO GS;have Bs:∀n∈ns,n < H.length:=fun n hn=>by obtain⟨i,hi⟩:=adQ.1 hn;obtain⟨a,_,h2⟩:=al2 i n hi;exact b7 h2
   let G:=M.length;let π:=CM G ns H.length;let l:=l0.map (aK.cV fun n=>G+qQ ns n);have hlen:l'.length=l.length:=by show _=(l0.map _).length;rw [af1];exact IA
   have asS:∀(j:Nat) (c:aK AV),l[j]?=some c->∃n,ns[j]?=some n /\ af H n=some (c.cV π):=fun j c hj=>by
    have hj:(l0.map (aK.cV fun n=>G+qQ ns n))[j]?=some c:=hj;rw [aeG,aaT] at hj;obtain⟨d,hd,rfl⟩:=hj;have hjl:j < ns.length:=by rw [<- al1];exact(aaS.1 hd).1
    have h2:ns[j]?=some ns[j]:=aaN hjl;obtain⟨d',h3,h4⟩:=al2 j _ h2;rw [hd] at h3;cases h3;exact⟨_,h2,by rw [h4,Cz fun n hn=>pH (sQ (zQ _ (List.getElem_mem hjl) d h4 n hn))]⟩
   have lat:∀n,n∈ns->∃d,af H n=some d /\ l[qQ ns n]?=some (d.cV fun n=>G+qQ ns n):=fun n hn=>by obtain⟨d,h1,h2⟩:=al2 _ _ (sQ hn);exact⟨d,h2,by show (l0.map _)[_]?=_;rw [aeG,h1];rfl⟩
   have back:∀x∈args,((x.cV fun n=>G+qQ ns n).cV π)=x:=fun x hx=>AF fun n hn=>by have:n∈ns:=nQ n (qY.2 ⟨x,hx,hn⟩);exact pH (sQ this)
   have ZH:args=(args.map (SV.cV fun n=>G+qQ ns n)).map (SV.cV π):=by
    rw [List.map_map];conv=>lhs;rw [<- List.map_id args]
    exact adb fun x hx=>(back x hx).symm
   have G7:(cZ sn 0 M).length=G:=ij sn M 0;have lP:∀(q:List (aK AV)) i c,af (cZ sn 0 M++Jh q) i=some c↔(i < G /\ M[i]?=some true /\ c=.bN (sn i)) \/ ∃j,i=G+j /\ q[j]?=some c:=fun q i c=>by
    rw [bA,G7];by_cases hi:i < G
    ·rw [if_pos hi,nH,aby];constructor
     ·rintro ⟨h1,h2⟩;exact .inl ⟨hi,h1,h2⟩
     ·rintro (⟨_,h1,h2⟩ | ⟨j,h1,_⟩)
      ·exact⟨h1,h2⟩
      ·omega
    ·rw [if_neg hi,KN];constructor
     ·intro h1;exact .inr ⟨i - G,by omega,h1⟩
     ·rintro (⟨h1,_⟩ | ⟨j,rfl,h1⟩)
      ·exact absurd h1 hi
      ·rw [adK];exact h1
   have small:∀n,n∈ns->∃c,af (cZ sn 0 M++Jh l) (G+qQ ns n)=some c:=fun n hn=>by obtain⟨d,_,h2⟩:=lat n hn;exact⟨_,(lP l _ _).2 (.inr ⟨_,rfl,h2⟩)⟩
   have Iz:∀cs:List Cell,(∀n∈eR cs,n∈ns)->oy (cZ sn 0 M++Jh l) (cs.map (Cell.cV fun n=>G+qQ ns n)):=fun cs hcs c hc n hn=>by obtain⟨d,hd,rfl⟩:=ac0.1 hc;rw [zx] at hn;obtain⟨m,hm,rfl⟩:=aaT.1 hn;exact small m (hcs m (zB.2 ⟨d,hd,hm⟩))
   have aam:∀x∈args.map (SV.cV fun n=>G+qQ ns n),gf (cZ sn 0 M++Jh l) x:=fun y hy=>by
    obtain⟨x,hx,rfl⟩:=ac0.1 hy;have one:∀z:V1,(∀n∈eR z.cells,n∈ns)->jY (cZ sn 0 M++Jh l) (z.cV fun n=>G+qQ ns n):=fun z hz=>by
     cases z with
     | c c =>have:=Iz [c] hz;simpa [jY,V1.cells,V1.cV] using this
     | agg cs=>exact Iz cs hz
    have Ko:∀n∈mP x,n∈ns:=fun n hn=>nQ n (qY.2 ⟨x,hx,hn⟩);cases x with
    | v x=>exact one x Ko
    | iW q =>intro z hz;obtain⟨z',hz',rfl⟩:=ac0.1 hz;exact one z' fun n hn=>Ko n (tE.2 ⟨z',hz',hn⟩)
    | lU=>trivial
    | xz f cs=>exact one (.agg cs) Ko
   have ai0:eX N (cZ sn 0 M++Jh l):=by
    refine⟨fun i c hi=>?_,trivial⟩;rcases (lP l i c).1 hi with⟨_,_,rfl⟩ | ⟨j,rfl,h1⟩
    ·intro c hc;cases hc
    ·have h1:(l0.map (aK.cV fun n=>G+qQ ns n))[j]?=some c:=h1;rw [aeG,aaT] at h1;obtain⟨d,hd,rfl⟩:=h1;have hjl:j < ns.length:=by rw [<- al1];exact(aaS.1 hd).1
     obtain⟨d',h3,h4⟩:=al2 j _ (aaN hjl);rw [hd] at h3;cases h3;rw [Cy];exact Iz _ fun n hn=>zQ _ (List.getElem_mem hjl) d h4 n hn
   have hc:=h _ l v1 l' nw ht hlen aam ai0;rw [ZH];have qI:∀i,i < G->π i=i:=fun i hi=>Rt hi;have vv:=Mj ns (l'.map (aK.cV π)) H;have acp:∀(q:List (aK AV)) (j:Nat) a,q[j]?=some a->(q.map (aK.cV π))[j]?=some (a.cV π):=fun q j a hj=>by rw [aeG,hj];rfl
   have lens:l.length=ns.length:=by show (l0.map _).length=_;rw [af1,al1]
   have p4:∀j a,(l'++nw)[j]?=some a->(∃n,ns[j]?=some n /\ π (G+j)=n /\ af (Et ns (l'.map (aK.cV π)) H++Jh (nw.map (aK.cV π))) n=some (a.cV π)) \/ (ns.length<=j /\ π (G+j)=H.length+(j - ns.length) /\ af (Et ns (l'.map (aK.cV π)) H++Jh (nw.map (aK.cV π))) (H.length+(j - ns.length))=some (a.cV π)):=fun j a hj=>by
    by_cases hjl:j < ns.length
    ·have h1:ns[j]?=some ns[j]:=aaN hjl;rw [acM (by omega)] at hj;refine .inl ⟨ns[j],h1,pH h1,?_⟩;rw [bA,vv,if_pos (Bs _ (List.getElem_mem hjl))];exact Dh ns _ H jQ Bs j _ _ h1 (acp _ _ _ hj)
    ·rw [acR (by omega)] at hj;refine .inr ⟨by omega,?_,?_⟩
     ·have:=zs (G:=G) (ns:=ns) (L:=H.length) (j:=j - ns.length);rw [show G+ns.length+(j - ns.length)=G+j by omega] at this;exact this
     ·rw [bA,vv,if_neg (by omega),adK];refine(KN _ _ _).2 (acp _ _ _ ?_);rw [hlen,lens] at hj;exact hj
   have arO:∀i,(aK.bN (sn i):aK AV)=(aK.bN (sn i)).cV π:=fun i=>rfl;refine I7 (π:=π) hc (B':=Et ns (l'.map (aK.cV π)) H++Jh (nw.map (aK.cV π))) ?_ ?_ ?_ ?_ hC ?_ ?_ ?_ ?_ ?_ ?_ ?_
   ·intro i c hi;rcases (lP l i c).1 hi with⟨h1,h2,rfl⟩ | ⟨j,rfl,h1⟩
    ·rw [qI i h1];have:=Y7 i h2;rw [aby] at this;exact this
    ·obtain⟨n,g1,g2⟩:=asS j c h1;rw [show π (G+j)=n from pH g1];exact g2
   ·intro i j c d hi hj e;rcases (lP _ i c).1 hi with⟨h1,_,_⟩ | ⟨x,rfl,h1⟩<;>rcases (lP _ j d).1 hj with⟨g1,_,_⟩ | ⟨y,rfl,g1⟩
    ·rw [qI i h1,qI j g1] at e;exact e
    ·rw [qI i h1] at e;rcases p4 y d g1 with⟨n,s1,s2,_⟩ | ⟨s0,s1,_⟩
     ·rw [s2] at e;have:=GS n (aca s1);omega
     ·rw [s1] at e;omega
    ·rw [qI j g1] at e;rcases p4 x c h1 with⟨n,s1,s2,_⟩ | ⟨s0,s1,_⟩
     ·rw [s2] at e;have:=GS n (aca s1);omega
     ·rw [s1] at e;omega
    ·rcases p4 x c h1 with⟨n,s1,s2,_⟩ | ⟨s0,s1,_⟩<;>rcases p4 y d g1 with⟨m,t1,t2,_⟩ | ⟨t0,t1,_⟩
     ·rw [s2,t2] at e;subst e;have:=Bc jQ s1 t1;omega
     ·rw [s2,t1] at e;have:=Bs n (aca s1);omega
     ·rw [s1,t2] at e;have:=Bs m (aca t1);omega
     ·rw [s1,t1] at e;omega
   ·intro i c hi;rcases (lP l i c).1 hi with⟨h1,h2,rfl⟩ | ⟨j,rfl,h1⟩
    ·exact⟨_,(lP _ _ _).2 (.inl ⟨h1,h2,rfl⟩)⟩
    ·have hj:j < l'.length:=by rw [hlen];exact(aaS.1 h1).1
     exact⟨_,(lP _ _ _).2 (.inr ⟨j,rfl,by rw [acM hj];exact aaN hj⟩)⟩
   ·intro g hg;rw [hG] at hg;exact qI g hg
   ·intro i c hi vD;rcases (lP _ i c).1 hi with⟨h1,h2,rfl⟩ | ⟨j,rfl,h1⟩
    ·have:=(lP l i _).2 (.inl ⟨h1,h2,rfl⟩);rw [vD] at this;cases this
    ·by_cases hj:j < l.length
     ·have:=(lP l (G+j) _).2 (.inr ⟨j,rfl,aaN hj⟩);rw [vD] at this;cases this
     ·rcases p4 j c h1 with⟨n,s1,_,_⟩ | ⟨_,s1,_⟩
      ·have:=(aaS.1 s1).1;omega
      ·rw [s1];omega
   ·rw [hG];exact hML
   ·intro m c hm;rw [bA,vv] at hm;split at hm
    ·rename_i hml;by_cases Nn:m∈ns
     ·obtain⟨j,hj⟩:=adQ.1 Nn;have Y6:j < l'.length:=by rw [hlen,lens];exact(aaS.1 hj).1
      have:=Dh ns _ H jQ Bs j m _ hj (acp l' j _ (aaN Y6));rw [this] at hm;cases hm;exact .inl ⟨G+j,_,(pH hj).symm,(lP _ _ _).2 (.inr ⟨j,rfl,by rw [acM Y6];exact aaN Y6⟩),rfl⟩
     ·rw [sG ns _ H m Nn] at hm;by_cases Up:m < G /\ M[m]?=some true
      ·have:=Y7 m Up.2;rw [aby,hm] at this;cases this;exact .inl ⟨m,_,(qI m Up.1).symm,(lP _ _ _).2 (.inl ⟨Up.1,Up.2,rfl⟩),arO m⟩
      ·refine .inr ⟨hm,fun i d hi e=>?_⟩;rcases (lP _ i d).1 hi with⟨h1,h2,rfl⟩ | ⟨j,rfl,h1⟩
       ·rw [qI i h1] at e;subst e;exact Up ⟨h1,h2⟩
       ·rcases p4 j d h1 with⟨n,s1,s2,_⟩ | ⟨_,s1,_⟩
        ·rw [s2] at e;subst e;exact Nn (aca s1)
        ·rw [s1] at e;omega
    ·rename_i hml;have h1:=(KN _ _ _).1 hm;rw [aeG,aaT] at h1;obtain⟨a,h1,rfl⟩:=h1;refine .inl ⟨G+(ns.length+(m - H.length)),a,?_,(lP _ _ _).2 (.inr ⟨_,rfl,by rw [acR (by omega),hlen,lens,adK];exact h1⟩),rfl⟩;have:=zs (G:=G) (ns:=ns) (L:=H.length) (j:=m - H.length);rw [show G+(ns.length+(m - H.length))=G+ns.length+(m - H.length) by omega];rw [show π (G+ns.length+(m - H.length))=_ from this];omega
   ·intro i d hi;rcases (lP _ i d).1 hi with⟨h1,h2,rfl⟩ | ⟨j,rfl,h1⟩
    ·rw [qI i h1,bA,vv,if_pos (by omega),sG]
     ·have:=Y7 i h2;rw [aby] at this;exact this
     ·intro nQ;have:=GS i nQ;omega
    ·rcases p4 j d h1 with⟨n,_,s2,s3⟩ | ⟨_,s2,s3⟩
     ·rw [s2];exact s3
     ·rw [s2];exact s3
   ·intro m c hm;by_cases Nn:m∈ns
    ·obtain⟨j,hj⟩:=adQ.1 Nn;have Y6:j < l'.length:=by rw [hlen,lens];exact(aaS.1 hj).1
     exact⟨_,by rw [bA,vv,if_pos (b7 hm)];exact Dh ns _ H jQ Bs j m _ hj (acp l' j _ (aaN Y6))⟩
    ·exact⟨c,by rw [bA,vv,if_pos (b7 hm),sG ns _ H m Nn];exact hm⟩
   ·intro m hm vD;rw [bA,vv,if_pos hm,sG]
    ·exact vD
    ·intro Nn;obtain⟨j,hj⟩:=adQ.1 Nn;obtain⟨a,_,h2⟩:=al2 j m hj;rw [vD] at h2;cases h2
   ·rw [aaP,vv];omega
  ·cases hr
 ·cases hr
