import Derived.Test.YtadmfaohjnjajaaGreatDoorEc
import Derived.Test.YtadmfaohjnjajaaGreatDoorRd
set_option linter.unusedVariables false
set_option linter.unusedSimpArgs false
set_option maxHeartbeats 0
set_option maxRecDepth 100000
noncomputable section
namespace Go.Proofs.YtadmfaohjnjajaaGreatDoor
section
open Go Go.Sx Go.Proofs
def YP (args:List SV) (H:Hp AV):T (SV×Hp AV):=match args with
 | [.v (.c (.vs n 0 len 2 false)),.v (.c x),.v (.c (.vs m 0 1 2 true))]=>match af H n,af H m,kL x,Nat.ble 7 H.length with
   | some (.bN (.aX p)),some (.oB [c0,c1] 2 187),some i,true=>match Pr.jm [c0,c1] with
     | some q=>.aE (decide (len=p.length /\ p.length<=100000 /\ 0<=i /\ i<=(p.length:Int))) (.aD (.v (.c (.vs H.length 0 (len+1) 2 false)),gM H (some n)++[some (.bN (.aX (p.take i.toNat++(q::p.drop i.toNat))))]))
     | none=>.fail "Insert"
   | _,_,_,_=>.fail "Insert"
 | _=>.fail "Insert"
def ZN (args:List SV) (H:Hp AV):T (SV×Hp AV):=match args with
 | [.v (.c (.vs n 0 len 2 false)),.v (.c x),.v (.c y)]=>match af H n,kL x,kL y,Nat.ble 7 H.length with
   | some (.bN (.aX p)),some i,some j,true=>.aE (decide (len=p.length /\ p.length<=100000 /\ 0<=i /\ i < (p.length:Int) /\ j=i+1)) (.aD (.v (.c (.vs H.length 0 (len - 1) 2 false)),gM H (some n)++[some (.bN (.aX (p.take i.toNat++p.drop (i.toNat+1))))]))
   | _,_,_,_=>.fail "Delete"
 | _=>.fail "Delete"
theorem bV (p:List Pr):(cq.aT p).length=p.length * 2:=cq.jZ p
theorem Er (p:List Pr) (i:Nat):(cq.aT p).take (i * 2)=cq.aT (p.take i):=cq.wA p i
theorem Es (p:List Pr) (i:Nat):(cq.aT p).drop (i * 2)=cq.aT (p.drop i):=cq.wB p i
theorem YN {ρ:Nm} {n:Nat} {w:World} (p:List Pr) (k:Nat) (hk:k<=p.length) (Nl:p.length<=100000) (hv:ng (ρ.L n) (ρ.S n) (cq.aT p) 2 187 w) (hone:∀v∈cq.aT p,v.oneCell'=true)
 (vb voff vc:Nat) (vs rv:List Value) (hvb:¬ρ.S n vb) (hvh:w.heap[vb]?=some (.cells rv.toArray 187 (0,0))) (hvs:∀(j:Nat) v,vs[j]?=some v->rv[voff+j]?=some v) (hvl:vs.length=2) (h1v:∀v∈vs,v.oneCell'=true) :
 Calls Tryz.prog 70 #[cH (ρ.L n) 0 p.length 2,.int .i64 (k:Int),.slice (some ⟨vb,voff,none⟩) 1 vc] w fun e w' =>
  ∃b o cap,e=.returned (.slice (some ⟨b,o,none⟩) (p.length+1) cap) /\ ng ⟨b,o,cap+1⟩ (fun x=>x=b) ((cq.aT p).take (k * 2)++vs++(cq.aT p).drop (k * 2)) 2 187 w' /\ Fr (ρ.S n) (fun x=>x=b) w w':=by
 have as6:vb < w.heap.size:=(ada.1 hvh).1
 have grown:∀(base:Option Addr) (c:Nat) (q:List Pr),q.length<=100000->q.length<=c->c < q.length+1->(base=none->q.length=0)->(∀a,base=some a->∀(j:Nat) v,(cq.aT q)[j]?=some v->w.cell? (a.add j)=some v) ->
  Calls Tryz.prog 70 #[.slice base q.length c,.int .i64 (q.length:Int),.slice (some ⟨vb,voff,none⟩) 1 vc] w fun e w' =>
  ∃b o cap,e=.returned (.slice (some ⟨b,o,none⟩) (q.length+1) cap) /\ ng ⟨b,o,cap+1⟩ (fun x=>x=b) (cq.aT q++vs) 2 187 w' /\ Fr (ρ.S n) (fun x=>x=b) w w':=fun base c q hq hqc hc hnil vF=>by
  refine(Kl base q.length c vb voff vc (cq.aT q) vs rv w hqc hc (by omega) (bV q) hnil vF hvh hvs hvl h1v).mono ?_;rintro e w' ⟨rfl,rfl⟩;have hG:=grownCap_ge w (q.length+1) c 187;generalize grownCap w (q.length+1) c 187=G at hG;have hlen:(cq.aT q++vs).length=(q.length+1) * 2:=by rw [aaP,bV,hvl];omega
  refine⟨_,0,G,rfl,.inr ⟨by simp,fun x=>Iff.rfl,(cq.aT q++vs)++(Builtin.zeroCells (Value.agg #[.int .i64 0,.int .i64 0]).cells (G - (q.length+1))).toList,?_,?_,?_,?_⟩,BA (.inr (ab4 _)) (fun j hj _=>CC (w:=w.drew) hj) rfl rfl rfl ?_⟩
  ·have:(w.drew.alloc (.cells ((cq.aT q++vs).toArray++Builtin.zeroCells (Value.agg #[.int .i64 0,.int .i64 0]).cells (G - (q.length+1))) 187)).heap[w.heap.size]?=_:=Gu (w:=w.drew);rw [this];congr 2;apply Array.ext';simp
  ·simp only [aaP,afI];rw [aaP] at hlen;simp [Builtin.zeroCells,Value.cells];omega
  ·rw [hlen];simp;omega
  ·intro j v hj;simp only [aby];rw [acM ((aaS.1 hj).1)];exact hj
  ·show w.heap.size<=(w.heap.push _).size;simp
 have tail:∀q:List Pr,(cq.aT q).take (q.length * 2)++vs++(cq.aT q).drop (q.length * 2)=cq.aT q++vs:=fun q=>by rw [List.take_of_length_le (by rw [bV];exact ab4 _),List.drop_of_length_le (by rw [bV];exact ab4 _),aeF]
 rw [vsDen_eq];rcases hv with⟨xR,hp0,hS0⟩ | ⟨hc1,hS,row,hh,hf,hl,hg⟩
 ·have hp:p=[]:=by
   have:(cq.aT p).length=0:=by rw [hp0];rfl
   rw [bV] at this;exact List.eq_nil_of_length_eq_zero (by omega)
  subst hp;have Y5:k=0:=by simpa using hk
  subst Y5;have ht:=tail [];simp only [ac8] at ht ⊢;rw [ht];split
  ·exact grown none 0 [] (by simp) (by simp) (by simp) (fun _=>rfl) (fun a h=>by cases h)
  ·exact grown _ ((ρ.L n).c - 1) [] (by simp) (by simp) (by simp;omega) (fun h=>by cases h) (fun a _ j v hj=>by simp [AK.aT] at hj)
 ·rw [bV] at hl;have hSb:ρ.S n (ρ.L n).b:=(hS _).2 rfl;have at2:vb≠(ρ.L n).b:=fun e=>hvb (e▸hSb);have at3:(ρ.L n).b < w.heap.size:=(ada.1 hh).1;rw [if_neg (by omega)];generalize (ρ.L n).b=b at *;generalize (ρ.L n).o=off at *;have hcn:p.length<=(ρ.L n).c - 1:=by omega
  generalize (ρ.L n).c - 1=c at *;have lO:∀j,j < p.length * 2->(cq.aT p)[j]?=row[off+j]?:=fun j hj=>by rw [hg j _ (aaN (by rw [bV];exact hj)),aaN (by rw [bV];exact hj)]
  have Nj:∀v∈(row.drop off).take (p.length * 2),v.oneCell'=true:=fun v hv=>by
   obtain⟨j,hj⟩:=adQ.1 hv;rw [aeE] at hj;split at hj
   ·rename_i hjl;rw [afG,<- lO j hjl] at hj;exact hone v (aca hj)
   ·cases hj
  by_cases hroom:p.length+1<=c
  ·by_cases PW:k < p.length
   ·refine(PO b off p.length c k vb voff vc row vs rv w PW hroom (by omega) at2 hh hf Nj hvh hvs hvl h1v).mono ?_;rintro e w' ⟨rfl,rfl⟩;have l1:((row.drop (off+k * 2)).take ((p.length - k) * 2)).length=(p.length - k) * 2:=by simp;omega
    have l2:(cS row (off+(k+1) * 2) ((row.drop (off+k * 2)).take ((p.length - k) * 2))).length=row.length:=fX (by omega);refine⟨b,off,c,rfl,.inr ⟨by simp,fun x=>Iff.rfl,_,setRow_heap _ b _ _ _ (0,0) (setRow_heap w.drew b _ _ _ (0,0) hh),?_,?_,?_⟩,BA (.inl hSb) (fun j hj dE=>by rw [fE dE,fE dE];rfl) rfl rfl rfl (by rw [setRow_size,setRow_size];exact ab4 _)⟩
    ·rw [fX (by omega),l2];simpa using hf
    ·simp only [aaP,aga,agb,bV,hvl,Nat.add_sub_cancel];omega
    ·intro j v hj;have hjl:=(aaS.1 hj).1;simp only [aaP,aga,agb,bV,hvl] at hjl;simp only;rw [j9 (by omega),hvl];by_cases h1:j < k * 2
     ·rw [if_pos (by omega),j9 (by omega),if_pos (by omega),<- lO j (by omega)];rw [acA,acM (by rw [aga,bV];omega),aeE,if_pos h1] at hj;exact hj
     ·by_cases h2:j < k * 2+2
      ·rw [if_neg (by omega),if_pos (by omega)];rw [acA,acR (by rw [aga,bV];omega),acM (by rw [aga,bV,hvl];omega),aga,bV] at hj;rw [<- hj];congr 1;omega
      ·rw [if_neg (by omega),if_neg (by omega),j9 (by omega),if_neg (by omega),if_pos (by omega),aeE,if_pos (by omega),afG];rw [acA,acR (by rw [aga,bV];omega),acR (by rw [aga,bV,hvl];omega),afG,aga,bV,hvl,lO _ (by omega)] at hj;rw [<- hj];congr 1;omega
   ·have hke:k=p.length:=by omega
    subst hke;refine(Kk b off p.length c vb voff vc row vs rv w hroom (by omega) hh hf hvh hvs hvl h1v).mono ?_;rintro e w' ⟨rfl,rfl⟩;refine⟨b,off,c,rfl,.inr ⟨by simp,fun x=>Iff.rfl,_,setRow_heap w b _ _ _ (0,0) hh,?_,?_,?_⟩,BA (.inl hSb) (fun j hj dE=>fE dE) rfl rfl rfl (by rw [setRow_size];exact ab4 _)⟩
    ·rw [fX (by omega)];simpa using hf
    ·simp only [aaP,aga,agb,bV,hvl,Nat.add_sub_cancel];omega
    ·intro j v hj;have hjl:=(aaS.1 hj).1;simp only [aaP,aga,agb,bV,hvl] at hjl;simp only;rw [j9 (by omega),hvl];by_cases h1:j < p.length * 2
     ·rw [if_pos (by omega),<- lO j h1];rw [acA,acM (by rw [aga,bV];omega),aeE,if_pos h1] at hj;exact hj
     ·rw [if_neg (by omega),if_pos (by omega)];rw [acA,acR (by rw [aga,bV];omega),acM (by rw [aga,bV,hvl];omega),aga,bV] at hj;rw [<- hj];congr 1;omega
  ·have vF:∀(j:Nat) v,(cq.aT p)[j]?=some v->w.cell? ((⟨b,off,none⟩:Addr).add j)=some v:=fun j v hj=>oV (w:=w) hh off j v (hg j v hj);by_cases PW:k < p.length
   ·refine(Ul b off p.length c k vb voff vc (cq.aT p) vs rv w PW hcn (by omega) (by omega) (bV p) hone at3 as6 vF hvh hvs hvl h1v).mono ?_;rintro e w' ⟨G,r2,g1,g2,rfl,g4,g5,g6,g7,g8,g9,g10⟩;refine⟨_,0,G,rfl,.inr ⟨by simp,fun x=>Iff.rfl,r2,g5,by simp [g2],?_,fun j v hj=>by rw [aby];exact g4 j v hj⟩,BA (.inr (ab4 _)) (fun j hj _=>g6 j hj) g7 g8 g9 g10⟩;simp only [aaP,aga,agb,bV,hvl,Nat.add_sub_cancel];omega
   ·have hke:k=p.length:=by omega
    subst hke;rw [tail];exact grown _ c p Nl hcn (by omega) (fun h=>by cases h) (fun a ha j v hj=>by cases ha;exact vF j v hj)
theorem YO {σ:Sg}:cE Tryz.prog (NV σ) 70 YP:=by
 refine cE.of fun args H v H' hr ha hC=>?_;unfold YP at hr;split at hr
 ·rename_i n len x m;split at hr
  ·rename_i p c0 c1 i hn hm hi hG;split at hr
   ·rename_i q hq
    replace hr:=aC hr
    obtain⟨hb,hr⟩:=hr;obtain⟨rfl,Nl,hi0,hi1⟩:=aaF hb;simp only [T.val,aaf,aaB] at hr;obtain⟨rfl,rfl⟩:=hr;obtain⟨k,rfl⟩:∃k:Nat,i=k:=⟨i.toNat,by omega⟩;have hk:k<=p.length:=by omega
    have hG:(NV σ).G<=H.length:=acZ hG;have hd:∀j,some n=some j->∃c,af H j=some c:=fun j hj=>by cases hj;exact⟨_,hn⟩
    have hpn:(NV σ).F.gb (.aX (p.take k++(q::p.drop k)))=some (2,187,cq.aT (p.take k++(q::p.drop k))):=rfl;have GQ:(NV σ).F.gb (.aX p)=some (2,187,cq.aT p):=rfl;refine⟨m6 hd 0 _ 2 false,DE hC hd (fun c hc=>by cases hc),fun ρ w hO=>?_⟩;have hv:=(((NV σ).F.kZ _ _ _ _ GQ).2 _ _ _).1 (hO.q n _ hn);have hone:=((NV σ).F.kZ _ _ _ _ GQ).1;have hmv:ng (ρ.L m) (ρ.S m) (aF ρ [c0,c1]) 2 187 w:=hO.q m _ hm;have uv:n≠m:=fun e=>by subst e;rw [hn] at hm;cases hm
    obtain⟨q1,q2⟩:=Pr.ig _ _ hq;have hvq:aF ρ [c0,c1]=aF Nm.id q.enc:=by rw [ke q2,q1]
    have aoe:∀u∈aF ρ [c0,c1],u.oneCell'=true:=fun u hu=>by obtain⟨c,_,rfl⟩:=ac0.1 hu;exact Ab _ c
    have yw:cq.aT (p.take k++(q::p.drop k))=(cq.aT p).take (k * 2)++aF ρ [c0,c1]++(cq.aT p).drop (k * 2):=by rw [Er,Es,hvq,acA,AK.mm];rfl
    rcases hmv with⟨_,h0,_⟩ | ⟨hm1,hmS,rv,hmh,hmf,hml,Up⟩
    ·simp [aF] at h0
    have avT:2<=((ρ.L m).c - 1) * 2:=by simpa [aF] using hml
    have aoC:(SV.v (.c (.vs m 0 1 2 true))).ay ρ=.slice (some ⟨(ρ.L m).b,(ρ.L m).o,none⟩) 1 ((ρ.L m).c - 1):=by show cH (ρ.L m) 0 1 2=_;rw [vsDen_eq,if_neg (by omega)]
    have hxd:x.ay ρ=.int .i64 (k:Int):=b6 hi ρ;show Calls Tryz.prog _ #[cH (ρ.L n) 0 p.length 2,x.ay ρ,(SV.v (.c (.vs m 0 1 2 true))).ay ρ] w _;rw [aoC,hxd];refine(YN p k hk Nl hv hone (ρ.L m).b (ρ.L m).o ((ρ.L m).c - 1) (aF ρ [c0,c1]) rv (fun hs=>hO.qR n m _ _ uv hn hm _ hs ((hmS _).2 rfl)) hmh Up rfl aoe).mono ?_;rintro e w' ⟨b,o,cap,rfl,g1,g2⟩;rw [<- yw] at g1;obtain⟨o1,o2⟩:=v7 (N:=NV σ) hO hC hG (d:=some n) hd hpn (S:=ρ.S n) (fun j hj=>⟨n,_,rfl,hn,hj⟩) g1 g2;refine⟨_,?_,o1,o2⟩;show _=Ending.returned (cH ((ρ.set H.length ⟨b,o,cap+1⟩ fun x=>x=b).L H.length) 0 (p.length+1) 2);rw [(p6 _ _ _ _).1,vsDen_eq,if_neg (by omega)];rfl
   ·simp [T.val] at hr
  ·simp [T.val] at hr
 ·simp [T.val] at hr
theorem ZM {σ:Sg}:cE Tryz.prog (NV σ) 71 ZN:=by
 refine cE.of fun args H v H' hr ha hC=>?_;unfold ZN at hr;split at hr
 ·rename_i n len x y;split at hr
  ·rename_i p i j hn hi hj hG
   replace hr:=aC hr
   obtain⟨hb,hr⟩:=hr;obtain⟨rfl,Nl,hi0,hi1,rfl⟩:=aaF hb;simp only [T.val,aaf,aaB] at hr;obtain⟨rfl,rfl⟩:=hr;obtain⟨k,rfl⟩:∃k:Nat,i=k:=⟨i.toNat,by omega⟩;have hk:k < p.length:=by omega
   have hG:(NV σ).G<=H.length:=acZ hG;have hd:∀j,some n=some j->∃c,af H j=some c:=fun j hj=>by cases hj;exact⟨_,hn⟩
   have hpn:(NV σ).F.gb (.aX (p.take k++p.drop (k+1)))=some (2,187,cq.aT (p.take k++p.drop (k+1))):=rfl;have GQ:(NV σ).F.gb (.aX p)=some (2,187,cq.aT p):=rfl;refine⟨m6 hd 0 _ 2 false,DE hC hd (fun c hc=>by cases hc),fun ρ w hO=>?_⟩;have hv:=(((NV σ).F.kZ _ _ _ _ GQ).2 _ _ _).1 (hO.q n _ hn);have hone:=((NV σ).F.kZ _ _ _ _ GQ).1;have hxd:x.ay ρ=.int .i64 (k:Int):=b6 hi ρ;have hyd:y.ay ρ=.int .i64 ((k+1:Nat):Int):=by rw [b6 hj ρ];congr 1
   show Calls Tryz.prog _ #[cH (ρ.L n) 0 p.length 2,x.ay ρ,y.ay ρ] w _;rw [hxd,hyd,vsDen_eq,if_neg (by omega)];rcases hv with⟨xR,hp0,hS0⟩ | ⟨hc1,hS,row,hh,hf,hl,hg⟩
   ·exfalso;have:(cq.aT p).length=0:=by rw [hp0];rfl
    rw [bV] at this;omega
   rw [bV] at hl;have hSb:ρ.S n (ρ.L n).b:=(hS _).2 rfl;have lO:∀j,j < p.length * 2->(cq.aT p)[j]?=row[(ρ.L n).o+j]?:=fun j hj=>by rw [hg j _ (aaN (by rw [bV];exact hj)),aaN (by rw [bV];exact hj)]
   have Nj:∀v∈(row.drop (ρ.L n).o).take (p.length * 2),v.oneCell'=true:=fun v hv=>by
    obtain⟨j,hj⟩:=adQ.1 hv;rw [aeE] at hj;split at hj
    ·rename_i hjl;rw [afG,<- lO j hjl] at hj;exact hone v (aca hj)
    ·cases hj
   refine(apL (ρ.L n).b (ρ.L n).o p.length ((ρ.L n).c - 1) k (k+1) row w rfl hk (by omega) (by omega) hh hf Nj).mono ?_;rintro e w' ⟨rfl,rfl⟩;have l1:((row.drop ((ρ.L n).o+(k+1) * 2)).take ((p.length - (k+1)) * 2)).length=(p.length - (k+1)) * 2:=by simp;omega
   have l2:(cS row ((ρ.L n).o+k * 2) ((row.drop ((ρ.L n).o+(k+1) * 2)).take ((p.length - (k+1)) * 2))).length=row.length:=fX (by omega);have hlen:(cq.aT (p.take k++p.drop (k+1))).length=(p.length - 1) * 2:=by rw [bV];simp;omega
   have hnv:ng ⟨(ρ.L n).b,(ρ.L n).o,(ρ.L n).c - 1+1⟩ (fun x=>x=(ρ.L n).b) (cq.aT (p.take k++p.drop (k+1))) 2 187 ((w.drew.setRow (ρ.L n).b (cS row ((ρ.L n).o+k * 2) ((row.drop ((ρ.L n).o+(k+1) * 2)).take ((p.length - (k+1)) * 2))).toArray).setRow (ρ.L n).b (cS (cS row ((ρ.L n).o+k * 2) ((row.drop ((ρ.L n).o+(k+1) * 2)).take ((p.length - (k+1)) * 2))) ((ρ.L n).o+(p.length - 1) * 2) [.int .i64 0,.int .i64 0]).toArray):=by
    refine .inr ⟨by simp,fun x=>Iff.rfl,_,setRow_heap _ _ _ _ _ (0,0) (setRow_heap w.drew _ _ _ _ (0,0) hh),?_,?_,?_⟩
    ·rw [fX (by simp;omega),l2];simpa using hf
    ·rw [hlen];simp only [Nat.add_sub_cancel];omega
    ·intro j v hj;have hjl:=(aaS.1 hj).1;rw [hlen] at hjl;simp only;rw [j9 (by simp;omega),if_pos (by omega),j9 (by omega)];rw [AK.mm,<- Er,<- Es] at hj;by_cases h1:j < k * 2
     ·rw [if_pos (by omega),<- lO j (by omega)];rw [acM (by rw [aga,bV];omega),aeE,if_pos h1] at hj;exact hj
     ·rw [if_neg (by omega),if_pos (by omega),aeE,if_pos (by omega),afG];rw [acR (by rw [aga,bV];omega),afG,aga,bV,lO _ (by omega)] at hj;rw [<- hj];congr 1;omega
   obtain⟨o1,o2⟩:=v7 (N:=NV σ) hO hC hG (d:=some n) hd hpn (S:=ρ.S n) (fun j hj=>⟨n,_,rfl,hn,hj⟩) hnv (BA (.inl hSb) (fun j hj dE=>by rw [fE dE,fE dE];rfl) rfl rfl rfl (by rw [setRow_size,setRow_size];exact ab4 _));refine⟨_,?_,o1,o2⟩;show _=Ending.returned (cH ((ρ.set H.length ⟨(ρ.L n).b,(ρ.L n).o,(ρ.L n).c - 1+1⟩ fun x=>x=(ρ.L n).b).L H.length) 0 (p.length - 1) 2);rw [(p6 _ _ _ _).1,vsDen_eq,if_neg (by simp)];rfl
  ·simp [T.val] at hr
 ·simp [T.val] at hr
end
section
open Go Go.Sx Go.Proofs
variable {σ:Sg}
def dR (key:Int):List Pr->Nat
 | []=>0
 | y::l=>if y.key < key then dR key l+1 else 0
abbrev Gm (p:List Pr) (i:Nat):Pr:=p.getD i cq.bK
theorem Di {key:Int}:∀p:List Pr,dR key p<=p.length
 | []=>ab4 _
 | y::l=>by
   unfold dR;split
   ·exact afu (Di l)
   ·exact acX _
theorem Rq {key:Int}:∀{p:List Pr} {i:Nat},i < dR key p->(Gm p i).key < key
 | [],i,h=>absurd h (Nat.not_lt_zero i)
 | y::l,i,h=>by
   unfold dR at h;split at h
   ·rename_i hy;cases i with
    | zero=>exact hy
    | succ i=>exact Rq (p:=l) (Nat.lt_of_succ_lt_succ h)
   ·exact absurd h (Nat.not_lt_zero i)
theorem Rr {key:Int}:∀{p:List Pr} {i:Nat},Ju p->dR key p<=i->i < p.length->key<=(Gm p i).key
 | [],i,_,_,h=>absurd h (Nat.not_lt_zero i)
 | y::l,i,hs,h,hi=>by
   unfold Ju at hs;rw [adF] at hs;unfold dR at h;split at h
   ·cases i with
    | zero=>omega
    | succ i=>exact Rr (p:=l) hs.2 (by omega) (Nat.lt_of_succ_lt_succ hi)
   ·cases i with
    | zero=>show key<=y.key;omega
    | succ i =>have:=hs.1 (Gm l i) (kz (Nat.lt_of_succ_lt_succ hi));show key<=(Gm l i).key;omega
theorem zS {key:Int}:∀{p:List Pr},Ju p->nT key p=if dR key p < p.length /\ (Gm p (dR key p)).key=key then some (Gm p (dR key p)) else none
 | [],_=>rfl
 | y::l,hs=>by
   have Dv:=hs;unfold Ju at hs;rw [adF] at hs;unfold nT dR;by_cases hy:y.key < key
   ·rw [if_neg (by omega),if_pos hy,zS hs.2];by_cases h:dR key l < l.length /\ (Gm l (dR key l)).key=key
    ·rw [if_pos h,if_pos ⟨Nat.succ_lt_succ h.1,h.2⟩];rfl
    ·rw [if_neg h,if_neg fun q=>h ⟨Nat.lt_of_succ_lt_succ q.1,q.2⟩]
   ·rw [if_neg hy];by_cases he:y.key=key
    ·rw [if_pos he,if_pos ⟨Nat.succ_pos _,he⟩];rfl
    ·rw [if_neg he,if_neg fun h=>he h.2];cases hg:nT key l with
     | none=>rfl
     | some x =>obtain⟨a,b⟩:=wS hg;have:=hs.1 x a;omega
theorem Nf {x:Pr}:∀{p:List Pr},(∀y∈p,y.key≠x.key)->FA x p=p.take (dR x.key p)++(x::p.drop (dR x.key p))
 | [],_=>rfl
 | y::l,h=>by
   have hy:=h y aaV;unfold FA dR;by_cases hl:y.key < x.key
   ·rw [if_neg (by omega),if_pos hl,Nf fun z hz=>h z (aaW _ hz)];rfl
   ·rw [if_pos (by omega),if_neg hl];rfl
theorem L9 {key:Int}:∀{p:List Pr},Ju p->nT key p≠none->G2 key p=p.take (dR key p)++p.drop (dR key p+1)
 | [],_,h=>absurd rfl h
 | y::l,hs,h=>by
   unfold Ju at hs;rw [adF] at hs;unfold nT at h;unfold G2 dR;by_cases he:y.key=key
   ·rw [if_pos he,if_neg (by omega)];rfl
   ·rw [if_neg he] at h;cases hg:nT key l with
    | none=>exact absurd hg h
    | some x =>obtain⟨a,b⟩:=wS hg;have:=hs.1 x a;rw [if_neg he,if_pos (by omega),L9 hs.2 (by rw [hg];exact fun e=>(by cases e))];rfl
def LB:Code:=jv 3 (cQ (eG Tryz.f95))
def ksB:List Nat:=[0,1,2,8,9,10]
def P4 (p:List Pr) (q:Nat) (key n i j:Int):St AV :=
 {E:=only ksB [(0,.v (.c (.vs 7 0 q 2 false))),(1,.v (.c (.it .i64 key))),(2,.v (.c (.fn 96))),(8,.v (.c (.it .i64 n))),(9,.v (.c (.it .i64 i))),(10,.v (.c (.it .i64 j)))] 49,H:=tj bS [.bN (.aX p)]}
def RH (i j:Int):Int:=IntKind.wrap .i64 (shI .shr .u64 (IntKind.wrap .u64 (IntKind.wrap .i64 (i+j))) 1)
theorem bR (σ:Sg) (p:List Pr) (q:Nat) (key n i j:Int):(xc (NV σ) (bE (lv (NV σ) b9 5)) (fun _=>none) 49 LB (P4 p q key n i j)).bind (ff 8 49 ksB fw) =
 .ite (decide (i < j)) (.aE (match decide (0<=RH i j /\ RH i j < (q:Int)) with | true=>decide (0+(RH i j).toNat < p.length) | false=>false)
  (.ite (decide (IntKind.wrap .i64 (Pr.key (p.getD (0+(RH i j).toNat) cq.bK) - key) < 0))
    (.aD (.normal,P4 p q key n (IntKind.wrap .i64 (RH i j+1)) j)) (.aD (.normal,P4 p q key n i (RH i j))))) (.aD (.exit 0,P4 p q key n i j)):=by kernel_rfl
structure MB where
 i:Nat
 j:Nat
def QD (p:List Pr) (key:Int):Prop:=Ju p /\ aaE p /\ p.length<=1000 /\ 0<=key /\ key < 256
def anX (p:List Pr) (key:Int) (m:MB):Prop:=m.i<=m.j /\ m.j<=p.length /\ m.i<=dR key p /\ dR key p<=m.j
def Q3 (p:List Pr) (key:Int) (m:MB):T (Ex×MB):=.aE (iI (anX p key m)) (.aD (if m.i < m.j then(if (Gm p ((m.i+m.j) / 2)).key < key then(.normal,⟨(m.i+m.j) / 2+1,m.j⟩) else(.normal,⟨m.i,(m.i+m.j) / 2⟩)) else(.exit 0,m)))
def Zt (p:List Pr) (key:Int) (m:MB):St AV:=P4 p p.length key p.length m.i m.j
theorem mid_eq {i j:Nat} (h:i+j < 9223372036854775808):RH i j=(((i+j) / 2:Nat):Int):=by
 unfold RH shI;have e1:IntKind.wrap .i64 ((i:Int)+(j:Int))=((i+j:Nat):Int):=by rw [uh (by omega)];omega
 rw [e1];have e2:IntKind.wrap .u64 (((i+j:Nat)):Int)=((i+j:Nat):Int):=by unfold IntKind.wrap;simp [IntKind.bits,IntKind.signed];omega
 rw [e2];have e3:(((i+j:Nat)):Int).fdiv (2 ^ min (1:Int).toNat (IntKind.bits .u64))=(((i+j) / 2:Nat):Int):=by
  have:(2:Int) ^ min (1:Int).toNat (IntKind.bits .u64)=2:=by decide
  rw [this,Int.fdiv_eq_ediv_of_nonneg _ (by decide)];omega
 simp only [e3];exact uh (by omega)
theorem M8 {p:List Pr} {key:Int} (h:QD p key) {i:Nat} (hi:i < p.length):IntKind.wrap .i64 ((Gm p i).key - key)=(Gm p i).key - key:=by obtain⟨_,hg,_,k0,k1⟩:=h;have:=hg (Gm p i) (kz hi);exact uh (by omega)
theorem To (σ:Sg) {p:List Pr} {key:Int} (ho:QD p key) (m:MB) (r:Ex×MB) (h:(Q3 p key m).val=some r) :
 ((xc (NV σ) (bE (lv (NV σ) b9 5)) (fun _=>none) 49 LB (Zt p key m)).bind (ff 8 49 ksB fw)).val=some (r.1,Zt p key r.2):=by
 obtain⟨hb,h⟩:=aC (h:(T.aE _ _).val=_);obtain⟨h1,h2,h3,h4⟩:=fv hb;obtain⟨i,j⟩:=m;dsimp only at h1 h2 h3 h4;have hl:=ho.2.2.1;cases h;show ((xc (NV σ) _ _ 49 LB (P4 p p.length key p.length i j)).bind _).val=_;rw [bR];by_cases hij:i < j
 ·have hm:=mid_eq (i:=i) (j:=j) (by omega);have hlt:(i+j) / 2 < p.length:=by omega
  rw [hm];have et:0+(((i+j) / 2:Nat):Int).toNat=(i+j) / 2:=by omega
  rw [et];refine(oX (aaC (by omega))).trans ((nv (by rw [aaC (show (0:Int)<=(((i+j) / 2:Nat):Int) /\ (((i+j) / 2:Nat):Int) < ((p.length:Nat):Int) by omega)];exact aaC hlt)).trans ?_);rw [show IntKind.wrap .i64 (Pr.key (p.getD ((i+j) / 2) cq.bK) - key)=_ from M8 ho hlt,if_pos hij];by_cases hk:(Gm p ((i+j) / 2)).key < key
  ·rw [if_pos hk];refine(oX (aaC (by show (Gm p _).key - key < 0;omega))).trans ?_;rw [show IntKind.wrap .i64 ((((i+j) / 2:Nat):Int)+1)=(((i+j) / 2+1:Nat):Int) by rw [uh (by omega)];omega];rfl
  ·rw [if_neg hk];exact oY (aaK (by show ¬((Gm p _).key - key < 0);omega))
 ·rw [if_neg hij];exact oY (aaK (by omega))
theorem YI {p:List Pr} {key:Int} (ho:QD p key):∀(d:Nat) {i j:Nat},j<=i+d->anX p key ⟨i,j⟩->dK (Q3 p key) (d+1) ⟨i,j⟩=some (.exit 0,⟨dR key p,dR key p⟩)
 | d,i,j,hd,hi=>by
   rw [dK,Q3,nv (fh hi)];obtain⟨h1,h2,h3,h4⟩:=hi;dsimp only at h1 h2 h3 h4;simp only [T.val];by_cases hij:i < j
   ·obtain⟨d,rfl⟩:∃d',d=d'+1:=⟨d - 1,by omega⟩;rw [if_pos hij];by_cases hk:(Gm p ((i+j) / 2)).key < key
    ·rw [if_pos hk];refine YI ho d (i:=(i+j) / 2+1) (j:=j) (by omega) ⟨by show (i+j) / 2+1<=j;omega,h2,?_,h4⟩;show (i+j) / 2+1<=dR key p;apply Nat.lt_of_not_le;intro hc;have:=Rr ho.1 hc (by omega);omega
    ·rw [if_neg hk];refine YI ho d (i:=i) (j:=(i+j) / 2) (by omega) ⟨by show i<=(i+j) / 2;omega,by show (i+j) / 2<=p.length;omega,h3,?_⟩;show dR key p<=(i+j) / 2;apply Nat.le_of_not_lt;intro hc;exact hk (Rq hc)
   ·rw [if_neg hij,show i=dR key p by omega,show j=dR key p by omega]
def gB (ok:List Pr->Int->Bool) (tf:Int->List Pr->Nat) (s:St AV):T (Ex×St AV):=match mI s.H 0 bS with
 | some [some (.bN (.aX p))] =>
   match Sx.aJ s.E 0,Sx.aJ s.E 1,Sx.aJ s.E 2,Sx.aJ s.E 8,Sx.aJ s.E 9,Sx.aJ s.E 10 with
   | .v (.c (.vs 7 0 q 2 false)),.v (.c (.it .i64 key)),.v (.c (.fn 96)),.v (.c (.it .i64 n)),.v (.c (.il .i64 0)),.v (.c (.it .i64 m)) =>
     .aE (decide (q=p.length /\ n=(p.length:Int) /\ m=(p.length:Int))&&ok p key) (.aD (.exit 0,P4 p p.length key p.length (tf key p) (tf key p)))
   | _,_,_,_,_,_=>.fail "search"
 | _=>.fail "search"
def okB (p:List Pr) (key:Int):Bool:=iI (QD p key)
theorem ao1 {N':eI AV} (hF:N'.F=(NV σ).F) (hG:N'.G=(NV σ).G):gr Tryz.prog N' 49 LB (gB okB dR):=by
 have cR:gZ Tryz.prog (NV σ) (bE (lv (NV σ) b9 5)):=dt (mQ sJ uD K7 bp 5);refine eY (N:=NV σ) hF hG sJ cR (lp:=fun _=>none) (fun _ _ _ g hg=>by cases hg) fun s s' ex cM=>?_;obtain⟨E1,H1⟩:=s;unfold gB at cM;split at cM
 ·rename_i p hs;have hs:=iY hs;simp only at hs;subst hs;split at cM
  ·rename_i q key n m e0 e1 e2 e8 e9 DA;simp only at e0 e1 e2 e8 e9 DA
   replace cM:=aC cM
   obtain⟨hb,cM⟩:=cM;rw [Bool.and_eq_true] at hb;obtain⟨rfl,rfl,rfl⟩:=aaF hb.1;have ho:QD p key:=fv hb.2;cases cM;refine⟨{M:=MB,tX:=Zt p key,step:=Q3 p key,ks:=ksB,pk:=fw,Aw:=(fun d a h=>by cases h),L:=8,len:=rfl,GV:=(by show 7<=8;decide),run:=To σ ho,m:=⟨0,p.length⟩,k:=p.length+1,m':=⟨dR key p,dR key p⟩,Ld:=?_,it:=YI ho p.length (by omega) ⟨acX _,ab4 _,acX _,Di p⟩,fin:=rfl}⟩;refine qp (N:=NV σ) (nt:=49) (E:=E1) (ks:=ksB) (E':=[(0,.v (.c (.vs 7 0 p.length 2 false))),(1,.v (.c (.it .i64 key))),(2,.v (.c (.fn 96))),(8,.v (.c (.it .i64 p.length))),(9,.v (.c (.it .i64 (0:Nat)))),(10,.v (.c (.it .i64 p.length)))]) fun k hk=>?_;simp only [ksB,aaO,aaR,or_false] at hk;rcases hk with rfl | rfl | rfl | rfl | rfl | rfl
   ·exact .inl e0.symm
   ·exact .inl e1.symm
   ·exact .inl e2.symm
   ·exact .inl e8.symm
   ·exact .inr ⟨by rw [e9];rintro ⟨⟩,tu _,fun ρ=>by rw [e9];rfl⟩
   ·exact .inl DA.symm
  ·cases cM
 ·cases cM
end
section
open Go Go.Sx Go.Proofs
variable {σ:Sg}
def Kx (key:Int) (p:List Pr):Bool:=match decide ((dR key p:Int) < (p.length:Int))==true with
 | true=>IntKind.wrap .i64 (Pr.key (p.getD (0+((dR key p:Nat):Int).toNat) cq.bK) - key)==0
 | false=>false
def lpB (ok:List Pr->Int->Bool) (tf:Int->List Pr->Nat):Lp:=lK 95 3 (gB ok tf) jE
theorem asM:fO Tryz.prog (iu (lpB okB dR) σ) :=
 lu nO (fn:=Tryz.f95) (by kernel_rfl) (c:=eG Tryz.f95) (by kernel_rfl) (nt:=49) (by kernel_rfl) (b:=LB) (cN (by kernel_rfl)) (ao1 rfl rfl)
def srA (q:Nat) (key:Int):List SV:=[.v (.c (.vs 7 0 q 2 false)),.v (.c (.it .i64 key)),.v (.c (.fn 96))]
theorem srR (σ:Sg) (ok:List Pr->Int->Bool) (tf:Int->List Pr->Nat) (p:List Pr) (q:Nat) (key:Int):uU (lpB ok tf) σ b9 95 bS (srA q key) [.bN (.aX p)] =
 .aE (decide (q=p.length /\ (q:Int)=(p.length:Int) /\ (q:Int)=(p.length:Int))&&ok p key)
  (.aE (match decide ((tf key p:Int) < (p.length:Int))==true with | true=>(match decide (0<=(tf key p:Int) /\ (tf key p:Int) < (p.length:Int)) with | true=>decide (0+((tf key p:Nat):Int).toNat < p.length) | false=>false) | false=>true)
    (.aD (C8 (.iW [.c (.it .i64 (match decide ((tf key p:Int) < (p.length:Int))==true with | true=>(tf key p:Int) | false=>(tf key p:Int))),
      .c (.bt (match decide ((tf key p:Int) < (p.length:Int))==true with | true=>IntKind.wrap .i64 (Pr.key (p.getD (0+((tf key p:Nat):Int).toNat) cq.bK) - key)==0 | false=>false))],tj bS [.bN (.aX p)])))):=by kernel_rfl
def srG (ok:List Pr->Int->Bool) (tf:Int->List Pr->Nat) (fnd:Int->List Pr->Bool) (args:List SV) (l:List AV):T (SV×List AV×List AV):=match args,l with
 | [.v (.c (.vs 7 0 q 2 false)),.v (.c k),.v (.c (.fn 96))],[.aX p]=>match kL k with
   | some key=>.aE (decide (q=p.length)) (.aE (ok p key) (.aD (.iW [.c (.it .i64 (tf key p:Int)),.c (.bt (fnd key p))],[.aX p],[])))
   | none=>.fail "search"
 | _,_=>.fail "search"
theorem amz:cE Tryz.prog (NV σ) 95 (bJ cL bS (srG okB dR Kx)):=by
 refine kC (N:=iu (lpB okB dR) σ) (N':=NV σ) rfl rfl (hZ dL rfl fun args l v l' nw h hl bZ=>?_);unfold srG at h;split at h
 ·rename_i q k p;split at h
  ·rename_i key hk
   replace h:=aC h
   obtain⟨h1,h⟩:=h
   replace h:=aC h
   obtain⟨h2,h⟩:=h;have h1:=aaF h1;subst h1;cases h;have hle:=Di (key:=key) p;have hr:=congrArg T.val (srR σ okB dR p p.length key);rw [nv (by rw [aaC (show p.length=p.length /\ (p.length:Int)=(p.length:Int) /\ (p.length:Int)=(p.length:Int) from⟨rfl,rfl,rfl⟩),h2];rfl)] at hr;have hc:=(jC asM B5 (M:=bS) rfl (hr.trans (nv (by
    by_cases hl:dR key p < p.length
    ·rw [aaC (show (dR key p:Int) < (p.length:Int) by omega),aaC (show 0<=(dR key p:Int) /\ (dR key p:Int) < (p.length:Int) by omega)];exact aaC (by omega)
    ·rw [aaK (show ¬(dR key p:Int) < (p.length:Int) by omega)];rfl))) (by rintro ⟨⟩))
   refine rA (jh hc fun ρ=>?_) (fun c hc n hn=>?_) fun ρ=>?_
   ·simp only [srA,aaU,afm,SV.ay,V1.ay,b6 hk ρ,Cell.ay]
   ·simp only [aaO,aaR,or_false] at hc;rcases hc with rfl | rfl<;>(rw [aet.1 hn];intro m hm;cases hm)
   ·show Value.tuple #[.int .i64 (dR key p:Int),.bool (Kx key p)]=_;simp only [SV.ay,V1.ay,Cell.ay,aaU,afm];congr 3;cases decide ((dR key p:Int) < (p.length:Int))==true<;>rfl
  ·cases h
 ·cases h
theorem Dx {p:List Pr} {key:Int} (h:QD p key):nT key p=match Kx key p with | true=>some (Gm p (dR key p)) | false=>none:=by
 rw [zS h.1];unfold Kx;have e0:0+((dR key p:Nat):Int).toNat=dR key p:=by omega
 rw [e0];by_cases hl:dR key p < p.length
 ·rw [aaC (show (dR key p:Int) < (p.length:Int) by omega)];show _=match IntKind.wrap .i64 ((Gm p (dR key p)).key - key)==0 with | true=>_ | false=>_
  rw [M8 h hl];by_cases hk:(Gm p (dR key p)).key=key
  ·rw [if_pos ⟨hl,hk⟩,show ((Gm p (dR key p)).key - key==0)=true by simpa using (by omega:(Gm p (dR key p)).key - key=0)]
  ·rw [if_neg fun h=>hk h.2,show ((Gm p (dR key p)).key - key==0)=false by simpa using (by omega:¬(Gm p (dR key p)).key - key=0)]
 ·rw [if_neg fun h=>hl h.1,aaK (show ¬(dR key p:Int) < (p.length:Int) by omega)];rfl
end
section
open Go Go.Sx Go.Proofs
variable {σ:Sg}
structure MyF where
 OD:Int->O->Bool
 ok:List Pr->Int->Bool
 tf:Int->List Pr->Nat
 fnd:Int->List Pr->Bool
def QS (F:MyF):m7:=br 15 (bJ cL Ye (xx aIO C5 (fun _=>none) (fun x=>F.OD x.1 x.2))) (br 95 (bJ cL bS (srG F.ok F.tf F.fnd))
 (br 70 YP (br 71 ZN b9)))
@[reducible] def Pv:xp aY:=⟨adS,ajW,fun _ _=>ajV,fun _=>rfl⟩
def mMy:List Bool:=mkM 18
def myA (k:Int) (o:O) (a:An):List SV:=[.v (.agg [.il .i64 k,.it .i64 o.key,.it .i64 o.val,.it .i64 o.bI]),.v (.agg [.it .i64 a.mZ,.it .i64 a.val])]
def lH (σ:Sg) (F:MyF) (k:Int) (m:aY) (o:O) (a:An):T (Option (Bool×aY)):=(gJ σ (QS F) 18 mMy (myA k o a) (adS m) AE (aY.wr m) []).map (lA C5 Pv)
abbrev TM:=T (Option (Bool×aY))
section
variable (σ:Sg) (F:MyF) (m:aY) (o:O) (a:An)
def lfY (nv np:Nat) (b:Bool) (m:aY):TM:=.aE (match decide (nv=gX.len (F6 σ) (AV.ie m.aT)) with | true=>(match decide (np=gX.len (F6 σ) (AV.aX m.aX)) with | true=>true | false=>false) | false=>false) (.aD (some (b,m)))
def lf0 (b:Bool):TM:=lfY σ m.aT.length m.aX.length b m
def KA (k:Int) (t:TM):TM:=.ite (!F.OD m.st ⟨k,o.key,o.val,o.bI⟩) (lf0 σ m false) t
def NF (t:TM):TM:=.ite (match (a.mZ==4&&a.val==0)==true with | true=>true | false=>false) (lf0 σ m true) t
def xy (c v:Int) (t:TM):TM:=.ite (!(c==a.mZ&&v==a.val)) (lf0 σ m false) (.ite (a.mZ != 1) (lf0 σ m true) t)
def nV:Int:=((m.aT.length:Nat):Int)
def Kg:Int:=IntKind.wrap .i64 (nV m - 1)
def Xv:TM:=.aE (decide (m.aT.length=gX.len (F6 σ) (AV.ie m.aT) /\ (m.aT.length+1) * (SI.bytes JQ+1)<=zF)) (lfY σ (m.aT.length+1) m.aX.length true ⟨m.st,m.aT++[⟨o.val⟩],m.aX⟩)
def PE (t:TM):TM:=.ite (decide (nV m > 0)) (.aE (decide (0<=Kg m /\ Kg m < nV m)) (.aE (decide (0+(Kg m).toNat < m.aT.length)) (xy σ m a 1 (m.aT.getD (0+(Kg m).toNat) gx.bK).val t))) (xy σ m a 2 0 t)
def ahJ:TM:=.aE (decide ((0:Int)<=0 /\ 0<=Kg m /\ Kg m<=nV m /\ m.aT.length=gX.len (F6 σ) (AV.ie m.aT))) (lfY σ ((Kg m).toNat - 0) m.aX.length true ⟨m.st,m.aT.take (Kg m).toNat,m.aX⟩)
def apJ:TM:=.aE (decide ((0:Int)<=1 /\ 1<=nV m /\ nV m<=nV m /\ m.aT.length=gX.len (F6 σ) (AV.ie m.aT))) (lfY σ ((nV m).toNat - 1) m.aX.length true ⟨m.st,(m.aT.take (nV m).toNat).drop 1,m.aX⟩)
def ao7 (t:TM):TM:=.ite (decide (nV m > 0)) (.aE (decide ((0:Int)<=0 /\ 0 < nV m)) (.aE (decide (0 < m.aT.length)) (xy σ m a 1 (m.aT.getD 0 gx.bK).val t))) (xy σ m a 2 0 t)
def Pp:Int:=((F.tf o.key m.aX:Nat):Int)
def srI (t:TM):TM:=.aE (decide (m.aX.length=m.aX.length)) (.aE (F.ok m.aX o.key) t)
def YM:TM:=srI F m o (.aE (decide (m.aX.length=m.aX.length /\ m.aX.length<=100000 /\ 0<=Pp F m o /\ Pp F m o<=(m.aX.length:Int))) (lfY σ m.aT.length (m.aX.length+1) true ⟨m.st,m.aT,m.aX.take (Pp F m o).toNat++(⟨o.key,o.val⟩::m.aX.drop (Pp F m o).toNat)⟩))
def ajN:TM:=srI F m o (.aE (decide (m.aX.length=m.aX.length /\ m.aX.length<=100000 /\ 0<=Pp F m o /\ Pp F m o < (m.aX.length:Int) /\ IntKind.wrap .i64 (Pp F m o+1)=Pp F m o+1)) (lfY σ m.aT.length (m.aX.length - 1) true ⟨m.st,m.aT,m.aX.take (Pp F m o).toNat++m.aX.drop ((Pp F m o).toNat+1)⟩))
def Ux (t:TM):TM:=srI F m o (.ite (F.fnd o.key m.aX) (.aE (decide (0<=Pp F m o /\ Pp F m o < (m.aX.length:Int))) (.aE (decide (0+(Pp F m o).toNat < m.aX.length)) (xy σ m a 1 (m.aX.getD (0+(Pp F m o).toNat) cq.bK).val t))) (xy σ m a 2 0 t))
theorem asC:lH σ F 1 m o a=KA σ F m o 1 (NF σ m a (xy σ m a 1 0 (Xv σ m o))):=by kernel_rfl
theorem asz:lH σ F 4 m o a=KA σ F m o 4 (NF σ m a (xy σ m a 1 0 (Xv σ m o))):=by kernel_rfl
theorem asB:lH σ F 2 m o a=KA σ F m o 2 (PE σ m a (ahJ σ m)):=by kernel_rfl
theorem asA:lH σ F 3 m o a=KA σ F m o 3 (PE σ m a (lf0 σ m true)):=by kernel_rfl
theorem asy:lH σ F 5 m o a=KA σ F m o 5 (ao7 σ m a (apJ σ m)):=by kernel_rfl
theorem asx:lH σ F 6 m o a=KA σ F m o 6 (NF σ m a (srI F m o (.ite (F.fnd o.key m.aX) (xy σ m a 3 0 (YM σ F m o)) (xy σ m a 1 0 (YM σ F m o))))):=by kernel_rfl
theorem asw:lH σ F 7 m o a=KA σ F m o 7 (Ux σ F m o a (ajN σ F m o)):=by kernel_rfl
theorem asv:lH σ F 8 m o a=KA σ F m o 8 (Ux σ F m o a (lf0 σ m true)):=by kernel_rfl
end
end
section
open Go Go.Sx Go.Proofs
variable {σ:Sg}
def A9 (c:aY) (o:O) (a:An):aY :=
 if a.mZ≠1 then c
 else if o.aj=1 \/ o.aj=4 then⟨c.st,c.aT++[⟨o.val⟩],c.aX⟩
 else if o.aj=2 then⟨c.st,c.aT.take (c.aT.length - 1),c.aX⟩
 else if o.aj=5 then⟨c.st,c.aT.drop 1,c.aX⟩
 else if o.aj=6 then⟨c.st,c.aT,FA ⟨o.key,o.val⟩ c.aX⟩
 else if o.aj=7 then⟨c.st,c.aT,G2 o.key c.aX⟩
 else c
def aev (c:aY) (o:O) (a:An):Prop:=∃s,(s=1 \/ s=2 \/ s=3 \/ s=4 \/ s=5) /\ Ov s c o a (A9 c o a) /\ dU c.st o=true /\ c.aT.length<=1000 /\ (3<=s->QD c.aX o.key)
def uC:MyF:=⟨dU,okB,dR,Kx⟩
section
variable {m:aY} {o:O} {a:An} {c v:Int} {t:TM}
theorem q8 {nv np:Nat} {b:Bool} (h1:nv=m.aT.length) (h2:np=m.aX.length):(lfY σ nv np b m).val=some (some (b,m)):=by unfold lfY;rw [aaC (show nv=gX.len (F6 σ) (AV.ie m.aT) from h1),aaC (show np=gX.len (F6 σ) (AV.aX m.aX) from h2)];rfl
theorem Ys {nv np:Nat} {b:Bool} {m':aY} (h1:nv=m.aT.length) (h2:np=m.aX.length) (e:m=m'):(lfY σ nv np b m).val=some (some (b,m')):=e▸q8 h1 h2
theorem rq {k:Int} (h:dU m.st ⟨k,o.key,o.val,o.bI⟩=true):(KA σ uC m o k t).val=t.val:=oY (by show (!dU _ _)=false;rw [h];rfl)
theorem PY:(NF σ m ⟨4,0⟩ t).val=some (some (true,m)):=(oX rfl).trans (q8 rfl rfl)
theorem Kw (h:a.mZ≠4):(NF σ m a t).val=t.val:=oY (by rw [show (a.mZ==4)=false by simpa using h];rfl)
theorem Jd:(xy σ m ⟨1,v⟩ 1 v t).val=t.val:=(oY (by simp)).trans (oY rfl)
theorem SA (h:c≠1):(xy σ m ⟨c,v⟩ c v t).val=some (some (true,m)):=(oY (by simp)).trans ((oX (by simpa using h)).trans (q8 rfl rfl))
theorem AP (h:QD m.aX o.key):(srI uC m o t).val=t.val:=(nv (aaC rfl)).trans (nv (fh h))
theorem lst_eq (h0:0 < m.aT.length) (h:m.aT.length<=1000):Kg m=((m.aT.length - 1:Nat):Int):=by unfold Kg nV;rw [uh (by omega)];omega
theorem MK (h0:0 < m.aT.length) (h:m.aT.length<=1000):(PE σ m ⟨1,(m.aT.getD (m.aT.length - 1) gx.bK).val⟩ t).val=t.val:=by have e:=lst_eq h0 h;unfold PE;rw [e,show 0+((m.aT.length - 1:Nat):Int).toNat=m.aT.length - 1 by omega];exact(oX (aaC (by unfold nV;omega))).trans ((nv (aaC (by unfold nV;omega))).trans ((nv (aaC (by omega))).trans Jd))
theorem ML (h0:m.aT=[]):(PE σ m ⟨2,0⟩ t).val=some (some (true,m)):=(oY (aaK (by unfold nV;rw [h0];decide))).trans (SA (by decide))
theorem Fo {r:List N1} {x:N1} (h:m.aT=r++[x]):0 < m.aT.length /\ m.aT.getD (m.aT.length - 1) gx.bK=x /\ m.aT.take (m.aT.length - 1)=r:=by
 rw [h];have:(r++[x]).length - 1=r.length:=by rw [aaP];rfl
 rw [this];refine⟨by rw [aaP];exact Nat.succ_pos _,?_,List.take_left⟩;rw [ac7,acR (ab4 _),Nat.sub_self];rfl
theorem go1 {r:Option (Option (Bool×aY))} (hf:dU m.st ⟨1,o.key,o.val,o.bI⟩=true) (h:(NF σ m a (xy σ m a 1 0 (Xv σ m o))).val=r):(lH σ uC 1 m o a).val=r:=(congrArg T.val (asC σ uC m o a)).trans ((rq hf).trans h)
theorem go4 {r:Option (Option (Bool×aY))} (hf:dU m.st ⟨4,o.key,o.val,o.bI⟩=true) (h:(NF σ m a (xy σ m a 1 0 (Xv σ m o))).val=r):(lH σ uC 4 m o a).val=r:=(congrArg T.val (asz σ uC m o a)).trans ((rq hf).trans h)
theorem go2 {r:Option (Option (Bool×aY))} (hf:dU m.st ⟨2,o.key,o.val,o.bI⟩=true) (h:(PE σ m a (ahJ σ m)).val=r):(lH σ uC 2 m o a).val=r:=(congrArg T.val (asB σ uC m o a)).trans ((rq hf).trans h)
theorem go3 {r:Option (Option (Bool×aY))} (hf:dU m.st ⟨3,o.key,o.val,o.bI⟩=true) (h:(PE σ m a (lf0 σ m true)).val=r):(lH σ uC 3 m o a).val=r:=(congrArg T.val (asA σ uC m o a)).trans ((rq hf).trans h)
theorem go5 {r:Option (Option (Bool×aY))} (hf:dU m.st ⟨5,o.key,o.val,o.bI⟩=true) (h:(ao7 σ m a (apJ σ m)).val=r):(lH σ uC 5 m o a).val=r:=(congrArg T.val (asy σ uC m o a)).trans ((rq hf).trans h)
theorem go6 {r:Option (Option (Bool×aY))} (hf:dU m.st ⟨6,o.key,o.val,o.bI⟩=true) (h:(NF σ m a (srI uC m o (.ite (uC.fnd o.key m.aX) (xy σ m a 3 0 (YM σ uC m o)) (xy σ m a 1 0 (YM σ uC m o))))).val=r):(lH σ uC 6 m o a).val=r:=(congrArg T.val (asx σ uC m o a)).trans ((rq hf).trans h)
theorem go7 {r:Option (Option (Bool×aY))} (hf:dU m.st ⟨7,o.key,o.val,o.bI⟩=true) (h:(Ux σ uC m o a (ajN σ uC m o)).val=r):(lH σ uC 7 m o a).val=r:=(congrArg T.val (asw σ uC m o a)).trans ((rq hf).trans h)
theorem go8 {r:Option (Option (Bool×aY))} (hf:dU m.st ⟨8,o.key,o.val,o.bI⟩=true) (h:(Ux σ uC m o a (lf0 σ m true)).val=r):(lH σ uC 8 m o a).val=r:=(congrArg T.val (asv σ uC m o a)).trans ((rq hf).trans h)
theorem Rp (hl:m.aT.length<=1000):(Xv σ m o).val=some (some (true,⟨m.st,m.aT++[⟨o.val⟩],m.aX⟩)) :=
 (nv (aaC ⟨rfl,abz (ac2 _ (by omega:m.aT.length+1<=1001)) (by decide)⟩)).trans (q8 (by simp) rfl)
theorem ack (hm:Ov 1 m o a (A9 m o a)) (hf:dU m.st o=true) (hl:m.aT.length<=1000):(lH σ uC o.aj m o a).val=some (some (true,A9 m o a)):=by
 obtain⟨k,ky,va,ta⟩:=o;obtain⟨_,hm⟩:=hm;rcases hm with⟨k1,⟨rfl,_⟩ | ⟨rfl,_⟩⟩ | ⟨k23,h0,rfl,_⟩ | ⟨x,r,h0,rfl,⟨k2,_⟩ | ⟨k3,_⟩⟩
 ·have k1:k=1:=k1;subst k1;exact go1 hf ((Kw (by decide)).trans (Jd.trans (Rp hl)))
 ·have k1:k=1:=k1;subst k1;exact go1 hf PY
 ·rcases k23 with k1 | k1<;>(have k1:k=_:=k1;subst k1)
  ·exact go2 hf (ML h0)
  ·exact go3 hf (ML h0)
 ·have k2:k=2:=k2;subst k2;obtain⟨e1,e2,e3⟩:=Fo h0;have e:=lst_eq e1 hl;rw [<- e2];refine go2 hf ((MK e1 hl).trans ?_);unfold ahJ;rw [e];refine(nv (aaC ⟨adi _,by omega,by unfold nV;omega,rfl⟩)).trans ((q8 ?_ rfl).trans rfl);show (((m.aT.length - 1:Nat):Int).toNat - 0)=(m.aT.take _).length;rw [aga];omega
 ·have k3:k=3:=k3;subst k3;obtain⟨e1,e2,e3⟩:=Fo h0;rw [<- e2];exact go3 hf ((MK e1 hl).trans (q8 rfl rfl))
theorem acm (hm:Ov 2 m o a (A9 m o a)) (hf:dU m.st o=true) (hl:m.aT.length<=1000):(lH σ uC o.aj m o a).val=some (some (true,A9 m o a)):=by
 obtain⟨k,ky,va,ta⟩:=o;obtain⟨_,hm⟩:=hm;rcases hm with⟨k1,⟨rfl,_⟩ | ⟨rfl,_⟩⟩ | ⟨k5,⟨h0,rfl,_⟩ | ⟨x,r,h0,rfl,_⟩⟩
 ·have k1:k=4:=k1;subst k1;exact go4 hf ((Kw (by decide)).trans (Jd.trans (Rp hl)))
 ·have k1:k=4:=k1;subst k1;exact go4 hf PY
 ·have k5:k=5:=k5;subst k5;exact go5 hf ((oY (aaK (by unfold nV;rw [h0];decide))).trans (SA (by decide)))
 ·have k5:k=5:=k5;subst k5;have e1:0 < m.aT.length:=by rw [h0];exact Nat.succ_pos _
  have e2:m.aT.getD 0 gx.bK=x:=by rw [h0];rfl
  rw [<- e2];refine go5 hf ((oX (aaC (by unfold nV;omega))).trans ((nv (aaC ⟨adi _,by unfold nV;omega⟩)).trans ((nv (aaC e1)).trans (Jd.trans ((nv (aaC ⟨by decide,by unfold nV;omega,adi _,rfl⟩)).trans ((q8 ?_ rfl).trans ?_))))))
  ·show ((m.aT.length:Nat):Int).toNat - 1=((m.aT.take ((m.aT.length:Nat):Int).toNat).drop 1).length;rw [agb,aga];omega
  ·show some (some (true,(⟨m.st,(m.aT.take ((m.aT.length:Nat):Int).toNat).drop 1,m.aX⟩:aY)))=some (some (true,⟨m.st,m.aT.drop 1,m.aX⟩));rw [Int.toNat_natCast,List.take_length]
theorem AZ:Pp uC m o=((dR o.key m.aX:Nat):Int):=rfl
theorem NB (h:QD m.aX o.key) {x:Pr} (hg:nT o.key m.aX=some x):(Ux σ uC m o ⟨1,x.val⟩ t).val=t.val:=by
 have hf:=Dx h;rw [hg] at hf;cases hb:Kx o.key m.aX with
 | false=>rw [hb] at hf;cases hf
 | true =>
   rw [hb] at hf;have hx:x=Gm m.aX (dR o.key m.aX):=afT hf;have hp:=zS (key:=o.key) h.1;rw [hg] at hp;split at hp
   ·rename_i hl;refine(AP h).trans ((oX hb).trans ?_);rw [AZ,show 0+((dR o.key m.aX:Nat):Int).toNat=dR o.key m.aX by omega];refine(nv (aaC ⟨by omega,by omega⟩)).trans ((nv (aaC hl.1)).trans ?_);rw [hx];exact Jd
   ·cases hp
theorem NC (h:QD m.aX o.key) (hg:nT o.key m.aX=none):(Ux σ uC m o ⟨2,0⟩ t).val=some (some (true,m)):=by
 have hf:=Dx h;rw [hg] at hf;cases hb:Kx o.key m.aX with
 | true=>rw [hb] at hf;cases hf
 | false=>exact(AP h).trans ((oY hb).trans (SA (by decide)))
theorem acT (h:QD m.aX o.key) (hg:nT o.key m.aX=none):(YM σ uC m o).val=some (some (true,⟨m.st,m.aT,FA ⟨o.key,o.val⟩ m.aX⟩)):=by
 have hle:=Di (key:=o.key) m.aX;have Nl:=h.2.2.1;refine(AP h).trans ((nv (aaC ⟨rfl,by omega,by rw [AZ];omega,by rw [AZ];omega⟩)).trans (Ys rfl ?_ ?_))
 ·show m.aX.length+1=(m.aX.take (((dR o.key m.aX:Nat):Int)).toNat++_::m.aX.drop (((dR o.key m.aX:Nat):Int)).toNat).length;rw [aaP,aaQ,aga,agb];omega
 ·rw [Nf (x:=⟨o.key,o.val⟩) (Bz hg)];rfl
theorem adJ (h:QD m.aX o.key) (hl:dR o.key m.aX < m.aX.length) (hg:nT o.key m.aX≠none):(ajN σ uC m o).val=some (some (true,⟨m.st,m.aT,G2 o.key m.aX⟩)):=by
 have Nl:=h.2.2.1;refine(AP h).trans ((nv (aaC ⟨rfl,by omega,by rw [AZ];omega,by rw [AZ];omega,by rw [AZ];exact uh (by omega)⟩)).trans (Ys rfl ?_ ?_))
 ·show m.aX.length - 1=(m.aX.take (((dR o.key m.aX:Nat):Int)).toNat++m.aX.drop ((((dR o.key m.aX:Nat):Int)).toNat+1)).length;rw [aaP,aga,agb];omega
 ·rw [L9 h.1 hg];rfl
theorem ahZ (hm:Ov 3 m o a (A9 m o a)) (hf:dU m.st o=true) (h:QD m.aX o.key):(lH σ uC o.aj m o a).val=some (some (true,A9 m o a)):=by
 obtain⟨_,hm⟩:=hm;obtain⟨k,ky,va,ta⟩:=o;rcases hm with⟨k6,⟨hg,rfl,_⟩ | ⟨hg,rfl,_⟩ | ⟨rfl,_⟩⟩ | ⟨k78,hg,rfl,_⟩ | ⟨x,hg,rfl,⟨k7,_⟩ | ⟨k8,_⟩⟩
 ·have k6:k=6:=k6;subst k6;have Nu:=Dx h;rw [show nT ky m.aX=none from hg] at Nu;cases hb:Kx ky m.aX with
  | true =>rw [hb] at Nu;cases Nu
  | false=>exact go6 hf ((Kw (by decide)).trans ((AP h).trans ((oY hb).trans (Jd.trans (acT h hg)))))
 ·have k6:k=6:=k6;subst k6;have Nu:=Dx h;cases hb:Kx ky m.aX with
  | false =>rw [hb] at Nu;exact absurd Nu hg
  | true=>exact go6 hf ((Kw (by decide)).trans ((AP h).trans ((oX hb).trans (SA (by decide)))))
 ·have k6:k=6:=k6;subst k6;exact go6 hf PY
 ·rcases k78 with k7 | k7<;>(have k7:k=_:=k7;subst k7)
  ·exact go7 hf (NC h hg)
  ·exact go8 hf (NC h hg)
 ·have k7:k=7:=k7;subst k7;have hp:=zS (key:=ky) h.1;rw [show nT ky m.aX=some x from hg] at hp;split at hp
  ·rename_i hl;exact go7 hf ((NB h hg).trans (adJ h hl.1 (by rw [hg];exact fun e=>(by cases e))))
  ·cases hp
 ·have k8:k=8:=k8;subst k8;exact go8 hf ((NB h hg).trans (q8 rfl rfl))
theorem ahY (h:aev m o a):(lH σ uC o.aj m o a).val=some (some (true,A9 m o a)):=by
 obtain⟨s,hs,hm,hf,hl,ho⟩:=h;rcases hs with rfl | rfl | rfl | rfl | rfl
 ·exact ack hm hf hl
 ·exact acm hm hf hl
 all_goals exact ahZ hm hf (ho (by decide))
end
def aMy:mh (O×An) where
 enc x:=[.v (.agg (Dw (O.wr x.1))),.v (.agg [.it .i64 x.2.mZ,.it .i64 x.2.val])]
 jm:=fun | [y,.v (.agg [c,v])]=>(match BZ.jm [y],kL c,kL v with | some o,some c,some v=>some (o,⟨c,v⟩) | _,_,_=>none) | _=>none
 ok:=fun l x h ρ=>by
  split at h
  ·split at h
   ·rename_i h0 h1 h2;cases h;have e0:SV.ay ρ (.v (.agg (Dw (O.wr _))))=SV.ay ρ _:=(List.cons.inj (BZ.ok _ _ h0 ρ)).1;show [SV.ay ρ _,SV.ay ρ _]=[SV.ay ρ _,SV.ay ρ _];rw [e0];simp only [SV.ay,V1.ay,aF,aaU,afm,b6 h1 ρ,b6 h2 ρ,Cell.ay]
   ·cases h
  ·cases h
 free:=fun _=>rfl
theorem VX:dH Tryz.prog (NV σ) (QS uC):=by unfold QS;exact aH Ky (aH amz (aH YO (aH ZM bp)))
def acf (c:aY) (x:O×An):Bool:=iI (aev c x.1 x.2)
theorem acu (c:aY):o9 σ (adS c)=some (gk AV.len AE (jl (aY.wr c))):=rfl
theorem acr (c:aY) (x:O×An) (h:aev c x.1 x.2):aew σ (QS uC) 18 mMy aMy C5 Pv c x (true,A9 c x.1 x.2):=by have e1:jq (myA x.1.aj x.1 x.2)=true:=rfl;have e2:∀ρ:Nm,(myA x.1.aj x.1 x.2).map (SV.ay ρ)=(aMy.enc x).map (SV.ay ρ):=fun ρ=>rfl;have e3:(lH σ uC x.1.aj c x.1 x.2).val=some (some (true,A9 c x.1 x.2)):=ahY h;exact⟨AE,aY.wr c,acu c,myA x.1.aj x.1 x.2,e1,e2,e3⟩
theorem acs:cE Tryz.prog (NV σ) 18 (bJ cL mMy (fS aMy C5 Pv (fun c x=>some (acf c x)) (fun c x=>(true,A9 c x.1 x.2)))) :=
 lJ VX (ju _) fun c x h=>acr c x (fv h)
end
section
open Go Go.Sx Go.Proofs
def Ap (f:Int) (w:W):pB:=⟨2,0,0,f,aq,w⟩
def pO:pB:=⟨4,0,0,0,aq,aq⟩
section
variable {β:Type} (I:Bool->β->β->β) (N:Bool->β->β) (fl:β)
def acI (f1 f2:Int) (w1 w2:W->W) (p:ah) (k:ah->β):β :=
 let r:=p.aV pO
 N (decide p.Ok) (I true (I (!r.1.ok) fl (N (decide r.2.Ok) (I (decide (r.2.bM (Ap f1 (w1 r.1.w)))) (N (decide (r.2.aV (Ap f1 (w1 r.1.w))).2.Ok)
   (I (decide ((r.2.aV (Ap f1 (w1 r.1.w))).2.bM (Ap f2 (w2 r.1.w)))) (k ((r.2.aV (Ap f1 (w1 r.1.w))).2.aV (Ap f2 (w2 r.1.w))).2) fl)) fl))) fl)
def ain (s:Nat) (p:ah) (k:ah->β):β:=match s with
 | 2=>acI I N fl 0 1 dB dB p k
 | 4=>acI I N fl 8 16 dB (fun _=>dZ 1) p k
 | _=>k p
