import Derived.Test.YtadmfaohjnjajaaGreatDoorCa
import Derived.Test.YtadmfaohjnjajaaGreatDoorDc
import Derived.Test.YtadmfaohjnjajaaGreatDoorRd
import Derived.Shelf.SlGeneric
import Derived.Ground.SlgnProg
import Derived.Shelf.SlicesE.Clone
set_option linter.unusedVariables false
set_option linter.unusedSimpArgs false
set_option maxHeartbeats 0
set_option maxRecDepth 100000
noncomputable section
namespace Go.Proofs.YtadmfaohjnjajaaGreatDoor
section
open Go Go.Sx Go.Proofs AH
def Zl:AH:=⟨fun _=>ao,fun _ _=>ao,fun _ _=>False⟩
theorem Y4 (k:Nat):zF (nQ k) Zl:=by
 refine⟨fun f f0 f1=>?_,fun s g _ hl=>hl.elim,fun s g f _ hl=>hl.elim⟩
 unfold ai.read
 rw [if_pos rfl]
 show (List.replicate 85 ao).getD f.toNat _=ao
 rw [adX,agN,if_pos (by omega)];rfl
def jv (k:Nat):ai:=((nQ k).aU (zE 24 (dX 1))).2
theorem Yr {k:Nat} (hk:k<=1024):(jv k).WF k:=IJ (xx hk) (f:=24) (w:=dX 1) (by decide) (by decide) (gT (by omega) _)
theorem Tb {k:Nat} (hk:k<=1024):zF (jv k) Zl:=by
 unfold jv
 rw [acK]
 exact Fu (vu (xx hk)) (Fs (k:=cX (nQ k).steps) (Y4 k)) (f:=24) (w:=dX 1) (by decide) (by decide)
theorem OS {k:Nat} (h1:1<=k):(jv k).free.length≠0:=by
 show (tf k).length≠0
 rw [v7];omega
def BE (f1 f2:Int) (w1 w2:W->W) (p:ai):ai:=(((p.aU pg).2.aU (zE f1 (w1 (p.aU pg).1.w))).2.aU (zE f2 (w2 (p.aU pg).1.w))).2
def qK (s:Nat) (p:ai):ai:=match s with
 | 2=>BE 0 1 dv dv p
 | 4=>BE 8 16 dv (fun _=>dX 1) p
 | _=>p
section
variable {n:Nat} {p:ai} {f1 f2:Int} {w1 w2:W->W}
theorem y8 {β:Type} {fl:T β} {k:ai->T β} (h:p.WF n) (hf:p.free.length≠0) (h1:0<=f1 /\ f1 < 85) (h2:0<=f2 /\ f2 < 85) (hw1:∀{w},gD n w->gD n (w1 w)) (hw2:∀{w},gD n w->gD n (w2 w)) :
 (BE f1 f2 w1 w2 p).WF n /\ (aa7 tI tN fl f1 f2 w1 w2 p k).val=(k (BE f1 f2 w1 w2 p)).val:=by
 obtain⟨a1,a2,a3,a4⟩:=QX h hf
 have b1:=IJ a4 h1.1 h1.2 (hw1 a3)
 refine⟨IJ b1 h2.1 h2.2 (hw2 a3),?_⟩
 unfold aa7
 dsimp only
 exact(nv (aaS h.ok)).trans ((tG rfl).trans ((wG (by rw [a1];rfl)).trans ((nv (aaS a4.ok)).trans ((tG (aaS (vw a4 h1.1 h1.2))).trans ((nv (aaS b1.ok)).trans (tG (aaS (vw b1 h2.1 h2.2))))))))
theorem LB (h:p.WF n) (hf:p.free.length≠0) (h1:0<=f1 /\ f1 < 18) (h2:0<=f2 /\ f2 < 18) (hw1:∀{w},gD n w->gD n (w1 w)) (A:zF p Zl) :
 ∃x:W,1<=x.af /\ zF (BE f1 f2 w1 w2 p) (((Zl.new x.af x.gen).wr (aV f1) (w1 x)).wr (aV f2) (w2 x)):=by
 obtain⟨a1,a2,a3,a4⟩:=QX h hf
 obtain⟨g1,A1,k1⟩:=Fv (c:=j9) h A (.inr (.inr (.inr (.inr (.inl rfl))))) (K:=fun x g=>x.ok=true->g=Zl.new x.w.af x.w.gen) (qX (fun e=>by cases e) fun w _ _ _=>rfl)
 have A1:zF (p.aU pg).2 g1:=A1
 have k1:=k1 a1
 rw [k1] at A1
 obtain⟨g2,A2,k2⟩:=Fv (c:=cO (aV f1) (w1 (p.aU pg).1.w)) a4 A1 (.inr (.inl rfl)) (K:=fun _ g=>g=(Zl.new (p.aU pg).1.w.af (p.aU pg).1.w.gen).wr (aV f1) (w1 (p.aU pg).1.w)) (gS (bU h1.1 h1.2) rfl)
 rw [k2] at A2
 have b1:=IJ a4 h1.1 (by omega) (hw1 a3)
 obtain⟨g3,A3,k3⟩:=Fv (c:=cO (aV f2) (w2 (p.aU pg).1.w)) b1 A2 (.inr (.inl rfl)) (K:=fun _ g=>g=((Zl.new (p.aU pg).1.w.af (p.aU pg).1.w.gen).wr (aV f1) (w1 (p.aU pg).1.w)).wr (aV f2) (w2 (p.aU pg).1.w)) (gS (bU h2.1 h2.2) rfl)
 rw [k3] at A3
 exact⟨(p.aU pg).1.w,a2,A3⟩
end
theorem Qc {k:Nat} (h1:1<=k) (hk:k<=1024) {s:Nat} (hs:1<=s /\ s<=5):(qK s (jv k)).WF k /\ Hd ((s:Int)==2) (qK s (jv k)) /\ (∃h,zF (qK s (jv k)) h /\ MV s 0 h) /\
 ∀{β:Type} {fl:T β} {c:ai->T β},(agv tI tN fl s (jv k) c).val=(c (qK s (jv k))).val:=by
 have W:=Yr hk
 have A:=Tb hk
 have F:=OS h1
 have nh:∀q,Hd false q:=fun q (e:false=true)=>by cases e
 rcases (by omega:s=1 \/ s=2 \/ s=3 \/ s=4 \/ s=5) with rfl | rfl | rfl | rfl | rfl
 ·exact⟨W,nh _,⟨Zl,A,[],⟨[],rfl,List.nodup_nil,rfl⟩,abV _⟩,fun {_ _ _}=>rfl⟩
 ·obtain⟨x,x1,B⟩:=LB (f1:=0) (f2:=1) (w1:=dv) (w2:=dv) W F (by decide) (by decide) (fun h=>ct h) A
  refine⟨(y8 (β:=Unit) (f1:=0) (f2:=1) (w1:=dv) (w2:=dv) (fl:=.aE ()) (k:=fun _=>.aE ()) W F (by decide) (by decide) (fun h=>ct h) (fun h=>ct h)).1,fun _=>?_,⟨_,B,[],⟨⟨x.af,x.gen,ao.bS⟩,[],[],⟨x.af,x.gen,ao.bS⟩,rfl,?_,?_,?_,?_,rfl⟩,abV _⟩,fun {_ _ _}=>(y8 (f1:=0) (f2:=1) (w1:=dv) (w2:=dv) W F (by decide) (by decide) (fun h=>ct h) (fun h=>ct h)).2⟩
  ·have:=B.bd 0 (by decide) (by decide)
   show 1<=((BE 0 1 dv dv (jv k)).dO.getD 0 dS.bR).af
   have e:(BE 0 1 dv dv (jv k)).dO.getD 0 dS.bR=dv x:=this
   rw [e];exact x1
  ·exact⟨rfl,rfl,x1,by show (if x.af=x.af then x.gen=x.gen else _);rw [if_pos rfl],by show (if x.af=x.af then ao else _).bS=_;rw [if_pos rfl],by show (if x.af=x.af then ao else _).af=0;rw [if_pos rfl];rfl⟩
  ·simp
  ·rfl
  ·rfl
 ·exact⟨W,nh _,⟨Zl,A,[],⟨⟨bU (by decide) (by decide),.inr rfl,⟨rfl,rfl⟩,List.nodup_nil,by simp⟩,List.Pairwise.nil,fun x hx=>by cases hx⟩,abV _⟩,fun {_ _ _}=>rfl⟩
 ·obtain⟨x,x1,B⟩:=LB (f1:=8) (f2:=16) (w1:=dv) (w2:=fun _=>dX 1) W F (by decide) (by decide) (fun h=>ct h) A
  refine⟨(y8 (β:=Unit) (f1:=8) (f2:=16) (w1:=dv) (w2:=fun _=>dX 1) (fl:=.aE ()) (k:=fun _=>.aE ()) W F (by decide) (by decide) (fun h=>ct h) (fun _=>gT (by omega) _)).1,nh _,⟨_,B,[⟨x.af,x.gen,0,0⟩],⟨?_,?_,?_,?_,?_,?_⟩,abV _⟩,fun {_ _ _}=>(y8 (f1:=8) (f2:=16) (w1:=dv) (w2:=fun _=>dX 1) W F (by decide) (by decide) (fun h=>ct h) (fun _=>gT (by omega) _)).2⟩
  ·exact⟨rfl,rfl,rfl,x1,by show (if x.af=x.af then x.gen=x.gen else _);rw [if_pos rfl],by show (if x.af=x.af then ao else _).bS=_;rw [if_pos rfl];rfl,by show (if x.af=x.af then ao else _).bS=_;rw [if_pos rfl];rfl,by show (if x.af=x.af then ao else _).af=0 /\ (if x.af=x.af then ao else _).mark=false;rw [if_pos rfl];exact⟨rfl,rfl⟩⟩
  ·simp
  ·exact List.pairwise_singleton _ _
  ·exact⟨_,abw,rfl,rfl,rfl⟩
  ·intro c c0 c8
   rcases (by omega:c=0 \/ c=1 \/ c=2 \/ c=3 \/ c=4 \/ c=5 \/ c=6 \/ c=7) with rfl | rfl | rfl | rfl | rfl | rfl | rfl | rfl
   ·exact .inr ⟨_,abw,rfl,rfl,rfl⟩
   all_goals exact .inl rfl
  ·intro y hy
   rw [aez.1 hy]
   exact⟨by show (0:Int)<=0;decide,by show (0:Int) < 512;decide,fun _=>rfl⟩
 ·exact⟨W,nh _,⟨Zl,A,[],⟨fun m _ _=>⟨rfl,rfl⟩,List.nodup_nil,List.Pairwise.nil,(fun x hx=>by cases hx),fun x hx=>by cases hx⟩,abV _⟩,fun {_ _ _}=>rfl⟩
end
section
open Go Go.Sx Go.Proofs Go.RowKit
theorem Xp (M:List Bool) (l:List AV) (j:Nat) (a:AV) (h:l[j]?=some a):ae (gM M l) (M.length+j)=some (.bI a):=by
 unfold gM
 rw [bo,gg,if_neg (by omega),show M.length+j - M.length=j by omega]
 exact(dx _ _ _).2 ⟨a,h,rfl⟩
def O8 (f:FuncId) (es:Nat) (ty:TypeId):Prop :=
 (∀(n c:Nat) (w:World),Calls Tryz.prog f #[.slice none n c] w fun e w'=>e=.returned (.slice none 0 0) /\ w'=w) /\
 ∀(b off n c:Nat) (news:List Value) (w:World),news.length=n * es->n<=1000000->(∀j u,news[j]?=some u->w.cell? ⟨b,off+j,none⟩=some u)->(∀u∈news,u.oneCell'=true) ->
   Calls Tryz.prog f #[.slice (some ⟨b,off,none⟩) n c] w fun e w'=>∃v',e=.returned v' /\ w'.ownsRow w.heap.size ty es v' n news /\ v'≠.slice none 0 0 /\ Below w.heap.size w w'
def JO (ok:AV->Bool) (es:Nat) (args:List SV) (l:List AV):T (SV×List AV×List AV):=match args,l with
 | [.v (.c (.vs n 0 len e false))],[a]=>match Nat.beq n 7,Nat.beq e es,ok a with
   | true,true,true=>.aJ (decide (len=a.len /\ len<=1000000)) (.aE (.v (.c (.vs (7+1) 0 len es false)),[a],[a]))
   | _,_,_=>.fail "copy"
 | _,_=>.fail "copy"
theorem S8 {σ:Sg} {f:FuncId} {es:Nat} {ty:TypeId} (hc:O8 f es ty) {ok:AV->Bool} (oI:∀a,ok a=true->∃vs,a.fW=some (es,ty,vs)):cD Tryz.prog (NV σ) f (bP cJ bL (JO ok es)):=by
 refine gH dE rfl fun args l v l' nw h hl bM=>?_
 unfold JO at h
 split at h
 ·rename_i n len e a
  split at h
  ·rename_i h1 h2 h3
   have hn:=(aC _ _).1 h1
   have he:=(aC _ _).1 h2
   subst hn he
   replace h:=aD h
   obtain⟨hb,h⟩:=h
   have hb:=aaV hb
   cases h
   obtain⟨vs,F9⟩:=oI a h3
   have hF:(NV σ).F.fW a=some (e,ty,vs):=F9
   have hlen:=(NV σ).F.qJ a _ _ _ hF
   have hla:(NV σ).F.len a=len:=hb.1.symm
   rw [hla] at hlen
   have h7:ae (gM bL [a]) 7=some (.bI a):=Xp bL [a] 0 _ rfl
   have h8:ae (gM bL [a,a]) (7+1)=some (.bI a):=Xp bL [a,a] 1 _ rfl
   refine⟨?_,AG bL [a,a],fun ρ w hO=>?_⟩
   ·intro c F8
    simp [V1.cells] at F8
    subst F8
    intro m hm
    cases hm
    exact⟨_,h8⟩
   ·obtain⟨hone,hq⟩:=(NV σ).F.mJ a _ _ _ hF
    have hv:=(hq _ _ _).1 (hO.q 7 _ h7)
    have fin:∀(w':World) (lc:Sx.l8) (S':Nat->Prop),mM lc S' vs e ty w'->Fr (fun _=>False) S' w w'->∃ρ',bN lc 0 len e=(SV.v (.c (.vs (7+1) 0 len e false))).aq ρ' /\ eZ (NV σ) ρ' (gM bL [a,a]) w' /\ iZ (NV σ) (gM bL [a]).length ρ (gM bL [a]) w ρ' (gM bL [a,a]) w':=by
     intro w' lc S' g1 g2
     obtain⟨o1,o2⟩:=zy (N:=NV σ) hO (AG bL [a]) (by show 7<=_;exact Nat.le_succ _) (d:=none) (fun n h=>by cases h) hF (S:=fun _=>False) (fun k h=>h.elim) g1 g2
     refine⟨_,?_,o1,o2⟩
     show _=bN ((ρ.set (7+1) lc S').L (7+1)) 0 len e
     rw [(jz _ _ _ _).1]
    show Calls Tryz.prog f #[bN (ρ.L 7) 0 len e] w _
    rw [vsDen_eq]
    by_cases hn:len=0 /\ (ρ.L 7).c=0
    ·rw [if_pos hn]
     refine(hc.1 0 0 w).mono ?_
     rintro ex w' ⟨rfl,rfl⟩
     have hvs:vs=[]:=List.eq_nil_of_length_eq_zero (by rw [hlen,hn.1,Nat.zero_mul])
     obtain⟨ρ',r1,r2,r3⟩:=fin w' ⟨0,0,0⟩ (fun _=>False) (.inl ⟨adr _,hvs,fun _ h=>h⟩) ⟨fun _ _ _=>rfl,fun k h=>h.elim,rfl,rfl,rfl,abV _⟩
     refine⟨ρ',?_,r2,r3⟩
     rw [<- r1,vsDen_eq,if_pos ⟨hn.1,rfl⟩]
    ·rw [if_neg hn]
     refine(hc.2 _ _ len _ vs w hlen hb.2 (fun j u hu=>?_) hone).mono ?_
     ·have:=Cp hv j u hu
      have ea:(⟨(ρ.L 7).b,(ρ.L 7).o,none⟩:Addr).add j=⟨(ρ.L 7).b,(ρ.L 7).o+j,none⟩:=by unfold Addr.add;split<;>simp_all
      rw [ea] at this
      exact this
     ·rintro ex w' ⟨v',rfl,⟨_,aqK⟩,dA,hbl⟩
      rcases aqK with⟨h0,_⟩ | ⟨g,cap,cur,rfl,hg,hh,hle,_,hcs,htk⟩
      ·exact absurd h0 dA
      ·obtain⟨ρ',r1,r2,r3⟩:=fin w' ⟨g,0,cap+1⟩ (fun k=>k=g) (.inr ⟨Nat.succ_pos _,fun k=>Iff.rfl,cur.toList,by rw [afe];exact hh,by simp [hcs],by rw [hlen];exact adN _ (by simpa using hle),fun j u hu=>by
        rw [<- htk,aeG] at hu
        split at hu
        ·simpa using hu
        ·cases hu⟩)
        ⟨fun k hk _=>hbl.block k hk,fun k hk=>.inl (by rw [hk];exact hg),hbl.os,hbl.tape,hbl.output,hbl.size⟩
       refine⟨ρ',?_,r2,r3⟩
       rw [<- r1,vsDen_eq,if_neg (fun h=>by cases h.2)]
       rfl
  ·cases h
 ·cases h
theorem Ta {f:FuncId} {rn:Go.Shelf.Ren} (L:SlLaysE0.n41 Tryz.prog rn) (hf:rn.f 41=f) {t:TypeId} {si:SI} (hs:Z2.get t=some si) (ht:rn.t 23=si.e) (hb:si.bytes<=1000):O8 f si.size si.e:=by
 subst hf
 obtain⟨hu,i,z,hi,hz,e1,e2,fq,B8,LO,Jr⟩:=jZ (Z3 t si hs)
 have Oh:z.cells.size=si.size:=by
  have:=congrArg List.length (LO Nm.id)
  rw [bY] at this
  simp at this
  omega
 refine⟨fun n c w=>AnyE.slices_Clone_nil L n c w,fun b off n c news w hl hn hc h1=>?_⟩
 have h:=AnyE.slices_Clone L i z si.size si.bytes (by rw [ht];exact hi) hz e1 e2 Oh fq (fun w=>by rw [ht];simp [Go.sizeOf,typeInfo,hi,e1]) b off n c news w hl (by simp only [maxLen];omega) (by
  have:n * si.bytes<=1000000 * 1000:=Nat.mul_le_mul hn hb
  omega) hc h1
 rw [ht] at h
 exact h
end
end Go.Proofs.YtadmfaohjnjajaaGreatDoor

namespace Go.Proofs
open Go Go.Sx Go.Proofs
open Go.Shelf in
def Tryz.Ms:Go.Shelf.Ren:=⟨fun | 41=>65 | n=>n,fun | 22=>41 | 23=>151 | 4=>4 | n=>n,fun | n=>n⟩
theorem Tryz.acg:Go.Proofs.SlLaysE0.n41 Tryz.prog Tryz.Ms:={
 mixed:=by kernel_rfl
 f41:=⟨Tryz.f65.name,by decide,Tryz.func65.trans (congrArg some (by kernel_rfl))⟩
 t4:=Tryz.underlying4
 a4:=Tryz.isAgg4
 z4:=Tryz.sizeOf4
 v4:=Tryz.zeroValue4
 t22:=Tryz.underlying41
 a22:=Tryz.isAgg41
 z22:=Tryz.sizeOf41
 v22:=Tryz.zeroValue41}
end Go.Proofs
namespace Go.Proofs.YtadmfaohjnjajaaGreatDoor
section
open Go Go.Sx Go.Proofs Go.RowKit
variable {σ:Sg} {lp:Lp}
theorem S9:O8 65 7 151:=Ta (t:=41) (si:=U2) Tryz.acg rfl (by kernel_rfl) rfl (by decide)
def akX:AV->Bool | .notes _=>true | _=>false
theorem OR:cD Tryz.prog (NV σ) 65 (bP cJ bL (JO akX 7)):=S8 S9 fun a ha=>by cases a<;>first | (cases ha;done) | exact⟨_,rfl⟩
def adv:mK:=bA 65 (bP cJ bL (JO akX 7)) ca
theorem Ul:dB Tryz.prog (NV σ) adv:=aK OR bn
def kW (v:az):Bool:=v.bh != 0
theorem MB:cD Tryz.prog (NV σ) 10 (bP cJ bL (fZ Kb J2 FX (fun _ _=>none) (fun v _=>(kW v,v)))) :=
 mw bn rfl fun v x _=>by
  obtain⟨so,en,ri,dg,cl,op,cC,an⟩:=v
  rcases cC with _ | ⟨j | j | j | j | j⟩<;>exact⟨qg,az.wr _,rfl,[],rfl,fun _=>rfl,congrArg T.val (by kernel_rfl:_=tN true (.aE (some (kW _,_))))⟩
def Du (args:List SV) (l:List AV):T (SV×List AV×List AV):=match args,l with
 | [.v (.c (.ptr 7 0))],[.aQ m]=>.aJ (decide (m.notes.length<=1000000)) (.aE (.v (.c (.vs 8 0 m.notes.length 7 false)),[.aQ m],[.notes m.notes]))
 | _,_=>.fail "Notes"
def Vj (σ:Sg) (m:au):T (SV×List AV×List AV):=NM σ adv 33 bL [.v (.c (.ptr 7 0))] [gV m] (fP AV.len fg (au.wr m))
theorem akA (σ:Sg) (m:au):Vj σ m=.aJ (decide (m.notes.length=m.notes.length /\ m.notes.length<=1000000)) (.aJ (y7 (dz m)) (.aE (.v (.c (.vs 8 0 m.notes.length 7 false)),[gV m],[.notes m.notes]))):=by kernel_rfl
theorem WK (m:au):y7 (dz m)=true:=by unfold y7 dz;simp
theorem NP:cD Tryz.prog (NV σ) 33 (bP cJ bL Du):=by
 refine gH dE rfl fun args l v l' nw h hl bM=>?_
 unfold Du at h
 split at h
 ·rename_i m
  obtain⟨h1,h⟩:=aD h
  have h1:=aaV h1
  have h2:(Vj σ m).val=some (v,l',nw):=(congrArg T.val (akA σ m)).trans ((nv (aaS ⟨rfl,h1⟩)).trans ((nv (WK m)).trans h))
  exact(IV Ul (σ:=σ) (M:=bL) rfl (a:=gV m) (l:=[]) (K:=fP AV.len fg (au.wr m)) rfl ⟨_,rfl⟩ rfl bM h2).1
 ·cases h
def N4 (args:List SV) (l:List AV):T (SV×List AV×List AV):=match args,l with
 | [.v (.c (.ptr 7 0))],[.tu v]=>.aJ (decide (v.aQ.notes.length<=1000000)) (.aE (.v (.c (.vs 8 0 v.aQ.notes.length 7 false)),[.tu v],[.notes v.aQ.notes]))
 | _,_=>.fail "Notes"
def Ug:mK:=bA 33 (bP cJ bL Du) ca
theorem Rh:dB Tryz.prog (NV σ) Ug:=aK NP bn
def Vh (σ:Sg) (v:az):T (SV×List AV×List AV):=NM σ Ug 12 bL [.v (.c (.ptr 7 0))] [iD v] (fP AV.len qg (az.wr v))
theorem R7 (σ:Sg) (v:az):Vh σ v=.aJ (decide (v.aQ.notes.length<=1000000)) (.aJ true (.aE (.v (.c (.vs 8 0 v.aQ.notes.length 7 false)),[iD v],[.notes v.aQ.notes]))):=by
 obtain⟨so,en,ri,dg,cl,op,cC,an⟩:=v
 rcases cC with _ | ⟨j | j | j | j | j⟩<;>as_aux_lemma=>kernel_rfl
theorem Wc:cD Tryz.prog (NV σ) 12 (bP cJ bL N4):=by
 refine gH dE rfl fun args l v l' nw h hl bM=>?_
 unfold N4 at h
 split at h
 ·rename_i w
  obtain⟨h1,h⟩:=aD h
  have h2:(Vh σ w).val=some (v,l',nw):=(congrArg T.val (R7 σ w)).trans ((nv h1).trans ((nv rfl).trans h))
  exact(IV Rh (σ:=σ) (M:=bL) rfl (a:=iD w) (l:=[]) (K:=fP AV.len qg (az.wr w)) rfl ⟨_,rfl⟩ rfl bM h2).1
 ·cases h
def mLd:List Bool:=mkM 7
def ajO (σ:Sg) (np:Int->ai):mK:=bA 20 (bP cJ bL (sm aI2 PT (fun x=>some (decide (0<=x.1 /\ x.1<=1024 /\ x.2=85))) (fun x=>np x.1))) (bA 22 (bP cJ mDo (doS σ)) ca)
def Yg:SV×List AV×List AV->Option ai
 | (.v (.c (.ptr 7 0)),[],[.gP p])=>some p
 | _=>none
theorem OM {r:SV×List AV×List AV} {p:ai} (h:Yg r=some p):r=(.v (.c (.ptr 7 0)),[],[.gP p]):=by
 unfold Yg at h
 split at h
 ·cases h;rfl
 ·cases h
def Dt (σ:Sg) (np:Int->ai) (s:Nat) (k:Int):T (Option ai):=(kN σ (ajO σ np) 7 mLd [.v (.c (.il .i64 (Int.ofNat s))),.v (.c (.it .i64 k))] []).map Yg
def Eg (np:Int->ai) (s:Nat) (k:Int):T (Option ai) :=
 .aJ (decide (0<=k /\ k<=1024 /\ (85:Int)=85)) (.aJ (decide (np k).Ok) (.ite (decide ((np k).bG (zE 24 (dX 1)))) (agv tI tN (.aE none) s ((np k).aU (zE 24 (dX 1))).2 fun p=>.aE (some p)) (agv tI tN (.aE none) s (np k) fun p=>.aE (some p))))
theorem agB (σ:Sg) (np:Int->ai) (k:Int):Dt σ np 1 k=Eg np 1 k:=by kernel_rfl
theorem agA (σ:Sg) (np:Int->ai) (k:Int):Dt σ np 2 k=Eg np 2 k:=by kernel_rfl
theorem agz (σ:Sg) (np:Int->ai) (k:Int):Dt σ np 3 k=Eg np 3 k:=by kernel_rfl
theorem agy (σ:Sg) (np:Int->ai) (k:Int):Dt σ np 4 k=Eg np 4 k:=by kernel_rfl
theorem agx (σ:Sg) (np:Int->ai) (k:Int):Dt σ np 5 k=Eg np 5 k:=by kernel_rfl
def WR (okl:Int->Int->Bool) (ld:Int->Int->ai) (args:List SV) (l:List AV):T (SV×List AV×List AV):=match args,l with
 | [.v (.c a),.v (.c b)],[]=>match j6 a,j6 b with
   | some s,some k=>.aJ (okl s k) (.aE (.v (.c (.ptr 7 0)),[],[.gP (ld s k)]))
   | _,_=>.fail "laid"
 | _,_=>.fail "laid"
def Qd (s k:Int):ai:=qK s.toNat (jv k.toNat)
def V2 (s k:Int):Bool:=decide (1<=s /\ s<=5 /\ 1<=k /\ k<=1024)
theorem WM (σ:Sg) {s:Nat} {k:Int} (hs:1<=s /\ s<=5) (h1:1<=k) (hk:k<=1024):(Dt σ (fun i=>nQ i.toNat) s k).val=some (some (qK s (jv k.toNat))):=by
 have e:Dt σ (fun i=>nQ i.toNat) s k=Eg (fun i=>nQ i.toNat) s k:=by
  rcases (by omega:s=1 \/ s=2 \/ s=3 \/ s=4 \/ s=5) with rfl | rfl | rfl | rfl | rfl
  ·exact agB σ _ k
  ·exact agA σ _ k
  ·exact agz σ _ k
  ·exact agy σ _ k
  ·exact agx σ _ k
 rw [e]
 have w0:=xx (k:=k.toNat) (by omega)
 unfold Eg
 refine(nv (aaS ⟨by omega,hk,rfl⟩)).trans ((nv (aaS w0.ok)).trans ((tG (aaS (vw w0 (by decide) (by decide)))).trans ?_))
 exact(Qc (k:=k.toNat) (by omega) (by omega) hs).2.2.2
theorem WQ:cD Tryz.prog (NV σ) 7 (bP cJ mLd (WR V2 Qd)):=by
 refine gH dE (jC _) fun args l v l' nw h hl bM=>?_
 unfold WR at h
 split at h
 ·rename_i a b
  split at h
  ·rename_i s k ha hb
   obtain⟨h1,h⟩:=aD h
   obtain⟨s1,s5,k1,k2⟩:=aaV h1
   obtain⟨s,rfl⟩:∃n:Nat,s=Int.ofNat n:=⟨s.toNat,by simp;omega⟩
   cases h
   have hs:1<=s /\ s<=5:=by simp at s1 s5;omega
   obtain⟨y,g1,g2⟩:=dp (WM σ hs k1 k2)
   have g2:=OM g2
   subst g2
   have hc:=(vD (aK N6 (aK Yd bn)) (M:=mLd) (jC _) (fI rfl) g1).1
   exact jg hc fun ρ=>by simp only [abv,aeU,SV.aq,V1.aq,cB ha ρ,cB hb ρ];rfl
  ·cases h
 ·cases h
end
section
open Go Go.Sx Go.Proofs
variable {σ:Sg}
theorem Ro {cJ:AV->Nat->Bool} {M:List Bool} {t1 t2:List SV->List AV->T (SV×List AV×List AV)} (h:∀args l r,(t2 args l).val=some r->(t1 args l).val=some r) {args:List SV} {H:Hp AV} {r:SV×Hp AV} (h2:(bP cJ M t2 args H).val=some r):(bP cJ M t1 args H).val=some r:=by
 unfold bP at h2 ⊢
 split at h2
 ·cases h2
 ·dsimp only at h2 ⊢
  split at h2
  ·obtain⟨y,g1,g2⟩:=T.bf h2
   rw [T.n5,h _ _ _ g1]
   exact g2
  ·cases h2
theorem HA {f:FuncId} {M:List Bool} {t1 t2:List SV->List AV->T (SV×List AV×List AV)} (hf:cD Tryz.prog (NV σ) f (bP cJ M t1)) (h:∀args l r,(t2 args l).val=some r->(t1 args l).val=some r):cD Tryz.prog (NV σ) f (bP cJ M t2) :=
 fun args H v H' h2=>hf args H v H' (Ro h h2)
structure Tm where
 okl:Int->Int->Bool
 ld:Int->Int->ai
 Bg:Int×Int×Int×Int×Int->Bool
 mv:Int×Int×Int×Int×Int->az
 okk:az->Bool
 fit:az->O->Bool
 okg:az->O->Bool
 gv:az->O->az
 qI:az->ai->Bool
 sr:az->ai->Ch
 sv:az->ai->az
 sp:az->ai->ai
def abH (σ:Sg) (F:Tm) (args:List SV) (l:List AV):T (SV×List AV×List AV):=match args,l with
 | [.v (.c (.ptr 7 0)),a],[.tu v]=>match Fx.iM [a] with
   | some o=>.aJ (F.okk v) (.ite (!F.fit v o) (.aE (.v (OC σ TE),[.tu v],[])) (.aJ (F.okg v o) (.aE (.v (.c .fL),[.tu (F.gv v o)],[]))))
   | none=>.fail "Give"
 | _,_=>.fail "Give"
def ZT (F:Tm) (args:List SV) (l:List AV):T (SV×List AV×List AV):=match args,l with
 | [.v (.c (.ptr 7 0)),.v (.c (.ptr 8 0))],[.tu v,.gP p]=>.aJ (F.qI v p) (.aE (.ji [ZS (F.sr v p),.c .fL],[.tu (F.sv v p),.gP (F.sp v p)],[]))
 | _,_=>.fail "Step"
def Gj:Tm where
 okl:=V2
 ld:=Qd
 Bg:=Fe
 mv:=uB
 okk v:=iI (Jb v /\ v.bh=0)
 fit v o:=kU v.sort o
 okg v o:=iI (K9 v o)
 gv:=xb
 qI v p:=iI (v.bh≠0 /\ p.Ok /\ p.bG (jB v.aQ).1 /\ VZ v p)
 sr v p:=(gU v p).1
 sv v p:=(gU v p).2.1
 sp v p:=(gU v p).2.2
theorem XL (args:List SV) (l:List AV) (r:SV×List AV×List AV) (h:(abH σ Gj args l).val=some r):(Qs σ args l).val=some r:=by
 unfold abH at h
 split at h
 ·split at h
  ·rename_i o h0
   obtain⟨h1,h⟩:=aD h
   obtain⟨k1,k2⟩:=gJ h1
   simp only [Qs,h0]
   rw [nv (iY k1),wG (by rw [k2];rfl)]
   exact h
  ·cases h
 ·cases h
theorem UC (args:List SV) (l:List AV) (r:SV×List AV×List AV) (h:(ZT Gj args l).val=some r):(Pw σ args l).val=some r:=by
 unfold ZT at h
 split at h
 ·rename_i v p
  obtain⟨h1,h⟩:=aD h
  obtain⟨k1,k2,k3,k4⟩:=gJ h1
  simp only [Pw]
  rw [wG (by simpa using k1),nv (aaS k2),tG (aaS k3),nv (iY k4)]
  exact h
 ·cases h
theorem ahg:cD Tryz.prog (NV σ) 9 (bP cJ mGv (abH σ Gj)):=HA abE XL
theorem afr:cD Tryz.prog (NV σ) 11 (bP cJ mSt (ZT Gj)):=HA ZU UC
end
section
open Go Go.Sx Go.Proofs
variable {σ:Sg}
def TC:Code:=ia 11 (cA (eM Tryz.f4))
def S15:Code:=ia 15 (cA (eM Tryz.f4))
def S22:Code:=ia 22 (cA (eM Tryz.f4))
structure ql where
 a0:Int
 a1:Int
 a2:Int
 a3:Int
 bZ:List O
 no:Nat
def adZ (x:ql):List Cell:=[.it .i64 x.a0,.it .i64 x.a1,.it .i64 x.a2,.it .i64 x.a3]
def Et (x:ql) (p:ai) (v:az):Hp AV:=gM zB [.I7 x.bZ]++[some (.cells (adZ x) 44),some (.bI (.gP p)),some (.bI (.tu v))]
def Zm (x:ql) (i:Int):Ev:=[(1,.v (.c (.vs 7 0 x.no 4 false))),(6,.v (.c (.ptr 9 0))),(7,.v (.c (.ptr 10 0))),(9,.v (.c (.it .i64 i)))]
def Sk:List Nat:=[1,6,7,9]
def Cc (x:ql) (i:Int) (p:ai) (v:az):Sx.St AV:={E:=only Sk (Zm x i) 108,H:=Et x p v}
def Sj:List Nat:=[1,6,7,9,10]
def L7 (x:ql) (i k:Int) (p:ai) (v:az):Sx.St AV:={E:=only Sj (Zm x i++[(10,.v (.c (.it .i64 k)))]) 108,H:=Et x p v}
def Si:List Nat:=[1,6,7,9,10,11]
def Xo (x:ql) (p:ai) (v:az) (l:List Nt):Hp AV:=Et x p v++[some (.bI (.notes l))]
def L6 (x:ql) (i k q:Int) (p:ai) (v:az) (l:List Nt):Sx.St AV:={E:=only Si (Zm x i++[(10,.v (.c (.it .i64 k))),(11,.v (.c (.it .i64 q)))]) 108,H:=Xo x p v l}
def C7 (F:Tm):mK:=bA 10 (bP cJ bL (fZ Kb J2 FX (fun _ _=>none) (fun v _=>(kW v,v)))) (bA 11 (bP cJ mSt (ZT F)) ca)
theorem apD (σ:Sg) (F:Tm) (x:ql) (i k:Int) (p:ai) (v:az):(xc (NV σ) (bs (lv (NV σ) (C7 F) 8)) (fun _=>none) 108 S15 (L7 x i k p v)).bind (eQ 11 108 Sj eV) =
 .ite (decide (k < 4000)==true) (.ite (kW v) (.aJ (F.qI v p) (.aE (.normal,L7 x i (IntKind.wrap .i64 (k+1)) (F.sp v p) (F.sv v p)))) (.aE (.exit 2,L7 x i k p v))) (.aE (.exit 2,L7 x i k p v)):=by kernel_rfl
theorem apC (σ:Sg) (F:Tm) (x:ql) (i k q:Int) (p:ai) (v:az) (l:List Nt):(xc (NV σ) (bs (lv (NV σ) (C7 F) 8)) (fun _=>none) 108 S22 (L6 x i k q p v l)).bind (eQ 12 108 Si eV) =
 .ite (decide (k<=IntKind.wrap .i64 (IntKind.wrap .i64 (9+q)+8))==true) (.ite (kW v) (.aJ (F.qI v p) (.aE (.normal,L6 x i (IntKind.wrap .i64 (k+1)) q (F.sp v p) (F.sv v p) l))) (.aE (.exit 4,L6 x i k q p v l))) (.aE (.exit 4,L6 x i k q p v l)):=by kernel_rfl
structure MI where
 k:Nat
 p:ai
 v:az
structure M4 (n:Nat) (e C:Int) (R:Nat) (s:Int) (Q:An->AH->Prop) (B K0:Nat) (m:MI):Prop where
 kb:m.k<=B
 wf:m.v.WF n (K0+17 * m.k)
 ml:m.v.ml
 pl:m.p.WF n
 hd:Hd (s==2) m.p
 so:m.v.sort=s
 st:Y6 n (Dn n e C R s Q) (B - m.k) m.v m.p
def nxI (m:MI):MI:=⟨m.k+1,(gU m.v m.p).2.2,(gU m.v m.p).2.1⟩
theorem Bf {v:az}:kW v=true↔v.bh≠0:=by unfold kW;simp
theorem acr {v:az} (h:kW v=false):v.bh=0:=by unfold kW at h;simpa using h
section
variable {n:Nat} {e C:Int} {R:Nat} {s:Int} {Q:An->AH->Prop} {B K0:Nat} {m:MI}
theorem Jm (h:M4 n e C R s Q B K0 m) (hK:K0+17 * B+17<=100000) (hb:m.v.bh≠0):Gj.qI m.v m.p=true /\ m.k < B /\ M4 n e C R s Q B K0 (nxI m):=by
 have du:m.k < B:=by
  rcases Nat.lt_or_ge m.k B with h1 | h1
  ·exact h1
  ·have h2:=h.st
   rw [show B - m.k=0 by omega] at h2
   exact absurd h2.1 hb
 have hk:=h.kb
 have hd2:Hd (m.v.sort==2) m.p:=by rw [h.so];exact h.hd
 obtain⟨s1,s2,s3,s4,s5,s6,s7⟩:=afq (by omega) h.wf h.ml hb h.pl hd2
 refine⟨iY ⟨hb,h.pl.ok,s2,s1⟩,du,du,?_,s4,s6,by rw [<- h.so];exact s7,s5.trans h.so,?_⟩
 ·show az.WF n (K0+17 * (m.k+1)) _
  rw [show K0+17 * (m.k+1)=K0+17 * m.k+17 by omega]
  exact s3
 ·have h2:=h.st
  rw [show B - m.k=(B - (m.k+1))+1 by omega] at h2
  rcases h2 with⟨h3,_⟩ | ⟨_,h3⟩
  ·exact absurd h3 hb
  ·exact h3 s1.2 s6
theorem P7 (h:M4 n e C R s Q B K0 m) (hb:m.v.bh=0):Dn n e C R s Q m.v m.p:=by
 have h2:=h.st
 generalize B - m.k=j at h2
 cases j with
 | zero=>exact h2.2
 | succ j =>
   rcases h2 with⟨_,q⟩ | ⟨h3,_⟩
   ·exact q
   ·exact absurd hb h3
def NL:Nat->MI->MI
 | 0,m=>m
 | f+1,m=>cond (kW m.v) (NL f (nxI m)) m
def Dd (P:MI->Prop) (x:Nat) (m:MI):T (Ex×MI):=.aJ (iI (P m)) (.aE (cond (kW m.v) (.normal,nxI m) (.exit x,m)))
theorem LG {x:Nat} (hK:K0+17 * B+17<=100000):∀{f:Nat} {m:MI},m.k+f=B->M4 n e C R s Q B K0 m->eJ (Dd (M4 n e C R s Q B K0) x) (f+1) m=some (.exit x,NL f m) /\ M4 n e C R s Q B K0 (NL f m) /\ (NL f m).v.bh=0
 | 0,m,hk,h=>by
   have hd:m.v.bh=0:=by
    have h2:=h.st
    rw [show B - m.k=0 by omega] at h2
    exact h2.1
   have hw:kW m.v=false:=by unfold kW;rw [hd];rfl
   refine⟨?_,h,hd⟩
   rw [eJ,Dd,nv (iY h),hw];rfl
 | f+1,m,hk,h=>by
   rw [eJ,Dd,nv (iY h),NL]
   cases hw:kW m.v with
   | false=>exact⟨rfl,h,acr hw⟩
   | true=>exact LG hK (f:=f) (m:=nxI m) (by show m.k+1+f=B;omega) (Jm h hK (Bf.1 hw)).2.2
end
theorem Kv:dB Tryz.prog (NV σ) (C7 Gj):=aK MB (aK afr bn)
def XN (x:ql) (i:Int) (m:MI):Sx.St AV:=L7 x i (m.k:Int) m.p m.v
def XM (x:ql) (i q:Int) (l:List Nt) (m:MI):Sx.St AV:=L6 x i (m.k:Int) q m.p m.v l
section
variable {n:Nat} {e C:Int} {R:Nat} {s:Int} {Q:An->AH->Prop} {K0 B:Nat}
theorem aad (σ:Sg) (hK:K0+17 * B+17<=100000) (hB:B < 4000) (x:ql) (i:Int) (m:MI) (r:Ex×MI) (h:(Dd (M4 n e C R s Q B K0) 2 m).val=some r) :
 ((xc (NV σ) (bs (lv (NV σ) (C7 Gj) 8)) (fun _=>none) 108 S15 (XN x i m)).bind (eQ 11 108 Sj eV)).val=some (r.1,XN x i r.2):=by
 obtain⟨hb,h⟩:=aD (h:(T.aJ _ _).val=_)
 have hi:=gJ hb
 have hl:=hi.kb
 cases h
 show ((xc (NV σ) _ _ 108 S15 (L7 x i m.k m.p m.v)).bind _).val=_
 rw [apD,tG (by rw [aaS (show (m.k:Int) < 4000 by omega)];rfl)]
 cases hw:kW m.v with
 | false=>rw [wG rfl];rfl
 | true =>
   obtain⟨o1,o2,o3⟩:=Jm hi hK (Bf.1 hw)
   rw [tG rfl]
   refine(nv o1).trans ?_
   show some (Ex.normal,L7 x i (IntKind.wrap .i64 ((m.k:Int)+1)) _ _)=_
   rw [CP (by omega)];rfl
theorem aac (σ:Sg) (hK:K0+17 * B+17<=100000) (x:ql) (i:Int) (q:Nat) (hq:B<=9+q) (hq2:q<=100000) (l:List Nt) (m:MI) (r:Ex×MI) (h:(Dd (M4 n e C R s Q B K0) 4 m).val=some r) :
 ((xc (NV σ) (bs (lv (NV σ) (C7 Gj) 8)) (fun _=>none) 108 S22 (XM x i q l m)).bind (eQ 12 108 Si eV)).val=some (r.1,XM x i q l r.2):=by
 obtain⟨hb,h⟩:=aD (h:(T.aJ _ _).val=_)
 have hi:=gJ hb
 have hl:=hi.kb
 cases h
 show ((xc (NV σ) _ _ 108 S22 (L6 x i m.k q m.p m.v l)).bind _).val=_
 rw [apC,CP (m:=(9:Int)+(q:Int)) (by omega),CP (m:=(9:Int)+(q:Int)+8) (by omega),tG (by rw [aaS (show (m.k:Int)<=9+(q:Int)+8 by omega)];rfl)]
 cases hw:kW m.v with
 | false=>rw [wG rfl];rfl
 | true =>
   obtain⟨o1,o2,o3⟩:=Jm hi hK (Bf.1 hw)
   rw [tG rfl]
   refine(nv o1).trans ?_
   show some (Ex.normal,L6 x i (IntKind.wrap .i64 ((m.k:Int)+1)) q _ _ l)=_
   rw [CP (by omega)];rfl
end
end
section
open Go Go.Sx Go.Proofs
variable {σ:Sg}
def anf (x:ql) (i:Int) (p:ai) (v:az) (s:Sx.St AV):Prop:=Sx.aF s.E 1=.v (.c (.vs 7 0 x.no 4 false)) /\ Sx.aF s.E 6=.v (.c (.ptr 9 0)) /\ Sx.aF s.E 7=.v (.c (.ptr 10 0)) /\ Sx.aF s.E 9=.v (.c (.it .i64 i)) /\ Sx.aF s.E 10=.v (.c (.il .i64 (Int.ofNat 0))) /\ s.H=Et x p v
def g15 (x:ql) (e:ai->az->MI) (c:ai->az->Prop) (s:Sx.St AV):T (Ex×Sx.St AV):=match Sx.aF s.E 9,ae s.H 9,ae s.H 10 with
 | .v (.c (.it .i64 i)),some (.bI (.gP p)),some (.bI (.tu v))=>.aJ (iI (anf x i p v s /\ c p v)) (.aE (.exit 2,L7 x i (e p v).k (e p v).p (e p v).v))
 | _,_,_=>.fail "enter"
def ane (x:ql) (i q:Int) (p:ai) (v:az) (l:List Nt) (s:Sx.St AV):Prop:=Sx.aF s.E 1=.v (.c (.vs 7 0 x.no 4 false)) /\ Sx.aF s.E 6=.v (.c (.ptr 9 0)) /\ Sx.aF s.E 7=.v (.c (.ptr 10 0)) /\ Sx.aF s.E 9=.v (.c (.it .i64 i)) /\ Sx.aF s.E 10=.v (.c (.il .i64 (Int.ofNat 0))) /\ Sx.aF s.E 11=.v (.c (.it .i64 q)) /\ s.H=Xo x p v l
def g22 (x:ql) (e:Int->ai->az->MI) (c:Int->ai->az->Prop) (s:Sx.St AV):T (Ex×Sx.St AV):=match Sx.aF s.E 9,Sx.aF s.E 11,ae s.H 9,ae s.H 10,ae s.H 11 with
 | .v (.c (.it .i64 i)),.v (.c (.it .i64 q)),some (.bI (.gP p)),some (.bI (.tu v)),some (.bI (.notes l))=>.aJ (iI (ane x i q p v l s /\ c q p v)) (.aE (.exit 4,L6 x i (e q p v).k q (e q p v).p (e q p v).v l))
 | _,_,_,_,_=>.fail "enter"
def HR (p:ai) (v:az):MI:=NL 3911 ⟨0,p,v⟩
def c15 (n:Nat) (e:Int) (p:ai) (v:az):Prop:=∃C R s Q,M4 n e C R s Q 3911 117 ⟨0,p,v⟩
def EN (q:Int) (p:ai) (v:az):MI:=NL (9+q.toNat) ⟨0,p,v⟩
def c22 (n:Nat) (e q:Int) (p:ai) (v:az):Prop:=0<=q /\ q<=1000 /\ ∃C R s Q,M4 n e C R s Q (9+q.toNat) 117 ⟨0,p,v⟩
theorem ahB {N':dV AV} (hF:N'.F=(NV σ).F) (hG:N'.G=(NV σ).G) (x:ql) (n:Nat) (e:Int):fY Tryz.prog N' 108 S15 (g15 x HR (c15 n e)):=by
 have cH:gF Tryz.prog (NV σ) (bs (lv (NV σ) (C7 Gj) 8)):=dj (my rH tA J7 Kv 8)
 refine eO (N:=NV σ) hF hG rH cH (lp:=fun _=>none) (fun _ _ _ g hg=>by cases hg) fun s s' ex cG=>?_
 obtain⟨E1,H1⟩:=s
 unfold g15 at cG
 split at cG
 ·rename_i i p v _ _ _
  replace cG:=aD cG
  obtain⟨hb,cG⟩:=cG
  obtain⟨⟨e1,e6,e7,e9,zo,eH⟩,C,R,so,Q,hv⟩:=gJ hb
  simp only at e1 e6 e7 e9 zo eH
  subst eH
  cases cG
  refine⟨{M:=MI,sH:=XN x i,step:=Dd (M4 n e C R so Q 3911 117) 2,ks:=Sj,pk:=eV,zH:=fun d a h=>(by cases h),L:=11,len:=rfl,FL:=(by show 7<=11;decide),run:=aad σ (by decide) (by decide) x i,m:=⟨0,p,v⟩,k:=3912,m':=HR p v,Ka:=?_,it:=(LG (B:=3911) (K0:=117) (f:=3911) (by decide) (m:=⟨0,p,v⟩) rfl hv).1,fin:=rfl}⟩
  have he:=ib (N:=NV σ) (nt:=108) (s:={E:=E1,H:=Et x p v}) (ks:=Sj) (E':=Zm x i++[(10,.v (.c (.it .i64 ((0:Nat):Int))))]) (l:=[]) (fun a h=>by cases h) (by show 7<=11;decide) fun k hk=>by
   simp only [Sj,abk,abo,or_false] at hk
   rcases hk with rfl | rfl | rfl | rfl | rfl
   ·exact .inl e1.symm
   ·exact .inl e6.symm
   ·exact .inl e7.symm
   ·exact .inl e9.symm
   ·refine .inr (.inl ⟨?_,?_,fun ρ=>?_⟩)
    ·show Sx.aF E1 10≠_
     rw [zo];exact fun h=>by cases h
    ·exact uo 0
    ·show _=(Sx.aF E1 10).aq ρ
     rw [zo];rfl
  exact he
 ·cases cG
theorem ahA {N':dV AV} (hF:N'.F=(NV σ).F) (hG:N'.G=(NV σ).G) (x:ql) (n:Nat) (e:Int):fY Tryz.prog N' 108 S22 (g22 x EN (c22 n e)):=by
 have cH:gF Tryz.prog (NV σ) (bs (lv (NV σ) (C7 Gj) 8)):=dj (my rH tA J7 Kv 8)
 refine eO (N:=NV σ) hF hG rH cH (lp:=fun _=>none) (fun _ _ _ g hg=>by cases hg) fun s s' ex cG=>?_
 obtain⟨E1,H1⟩:=s
 unfold g22 at cG
 split at cG
 ·rename_i i q p v l _ _ _ _ _
  replace cG:=aD cG
  obtain⟨hb,cG⟩:=cG
  obtain⟨⟨e1,e6,e7,e9,zo,Zn,eH⟩,q0,q1,C,R,so,Q,hv⟩:=gJ hb
  simp only at e1 e6 e7 e9 zo Zn eH
  subst eH
  cases cG
  obtain⟨q,rfl⟩:∃k:Nat,q=(k:Int):=⟨q.toNat,by omega⟩
  refine⟨{M:=MI,sH:=XM x i q l,step:=Dd (M4 n e C R so Q (9+q) 117) 4,ks:=Si,pk:=eV,zH:=fun d a h=>(by cases h),L:=12,len:=rfl,FL:=(by show 7<=12;decide),run:=aac σ (by omega) x i q (abV _) (by omega) l,m:=⟨0,p,v⟩,k:=9+q+1,m':=EN q p v,Ka:=?_,it:=(LG (B:=9+q) (K0:=117) (f:=9+q) (by omega) (m:=⟨0,p,v⟩) (by show 0+(9+q)=_;omega) hv).1,fin:=rfl}⟩
  have he:=ib (N:=NV σ) (nt:=108) (s:={E:=E1,H:=Xo x p v l}) (ks:=Si) (E':=Zm x i++[(10,.v (.c (.it .i64 ((0:Nat):Int)))),(11,.v (.c (.it .i64 (q:Int))))]) (l:=[]) (fun a h=>by cases h) (by show 7<=12;decide) fun k hk=>by
   simp only [Si,abk,abo,or_false] at hk
   rcases hk with rfl | rfl | rfl | rfl | rfl | rfl
   ·exact .inl e1.symm
   ·exact .inl e6.symm
   ·exact .inl e7.symm
   ·exact .inl e9.symm
   ·refine .inr (.inl ⟨?_,?_,fun ρ=>?_⟩)
    ·show Sx.aF E1 10≠_
     rw [zo];exact fun h=>by cases h
    ·exact uo 0
    ·show _=(Sx.aF E1 10).aq ρ
     rw [zo];rfl
   ·exact .inl Zn.symm
  exact he
 ·cases cG
def WA (x:ql) (e1:ai->az->MI) (k1:ai->az->Prop) (e2:Int->ai->az->MI) (k2:Int->ai->az->Prop):Nat->Option (Sx.St AV->T (Ex×Sx.St AV)):=fun id=>match Nat.beq id 15 with | true=>some (g15 x e1 k1) | false=>match Nat.beq id 22 with | true=>some (g22 x e2 k2) | false=>none
theorem aaW (x:ql) (n:Nat) (e:Int):O7 Tryz.prog (NV σ) 108 TC (WA x HR (c15 n e) EN (c22 n e)):=fun id b hb g hg=>by
 unfold WA at hg
 split at hg
 ·rename_i h1
  have h1:=(aC _ _).1 h1
  subst h1
  cases hg
  have:b=S15:=by
   have h:=cE (id:=15) (l:=cA TC) (by kernel_rfl) (15,b) hb rfl
   rw [show b=ia 15 (cA TC) from h]
   have:ia 15 (cA TC)=S15:=by kernel_rfl
   exact this
  rw [this]
  exact ahB rfl rfl x n e
 ·split at hg
  ·rename_i h2
   have h2:=(aC _ _).1 h2
   subst h2
   cases hg
   have:b=S22:=by
    have h:=cE (id:=22) (l:=cA TC) (by kernel_rfl) (22,b) hb rfl
    rw [show b=ia 22 (cA TC) from h]
    have:ia 22 (cA TC)=S22:=by kernel_rfl
    exact this
   rw [this]
   exact ahA rfl rfl x n e
  ·cases hg
def IF (σ:Sg) (F:Tm) (qI:az->Bool) (sc:az->az):mK:=bA 10 (bP cJ bL (fZ Kb J2 FX (fun _ _=>none) (fun v _=>(kW v,v)))) (bA 9 (bP cJ mGv (abH σ F)) (bA 12 (bP cJ bL N4) (bA 13 (bP cJ mSc (Vc qI sc)) ca)))
theorem Rj:dB Tryz.prog (NV σ) (IF σ Gj (fun v=>iI (DI v)) rz):=aK MB (aK ahg (aK Wc (aK Z9 bn)))
end
section
open Go Go.Sx Go.Proofs
variable {σ:Sg}
def VX (x:ql) (i:Int):O:=let o:=x.bZ.getD (0+i.toNat) rM.bR;⟨o.aj,o.key,o.val,o.bO⟩
def arW (x:ql) (i:Int) (p:ai) (v:az):Prop:=SV.v (.c (.vs 7 0 x.no 4 false))=.v (.c (.vs 7 0 x.no 4 false)) /\ SV.v (.c (.ptr 9 0))=.v (.c (.ptr 9 0)) /\ SV.v (.c (.ptr 10 0))=.v (.c (.ptr 10 0)) /\ SV.v (.c (.it .i64 i))=.v (.c (.it .i64 i)) /\ SV.v (.c (.il .i64 (Int.ofNat 0)))=.v (.c (.il .i64 (Int.ofNat 0))) /\ Et x p v=Et x p v
def arV (x:ql) (i q:Int) (p:ai) (v:az) (l:List Nt):Prop:=SV.v (.c (.vs 7 0 x.no 4 false))=.v (.c (.vs 7 0 x.no 4 false)) /\ SV.v (.c (.ptr 9 0))=.v (.c (.ptr 9 0)) /\ SV.v (.c (.ptr 10 0))=.v (.c (.ptr 10 0)) /\ SV.v (.c (.it .i64 i))=.v (.c (.it .i64 i)) /\ SV.v (.c (.il .i64 (Int.ofNat 0)))=.v (.c (.il .i64 (Int.ofNat 0))) /\ SV.v (.c (.it .i64 q))=.v (.c (.it .i64 q)) /\ Xo x p v l=Xo x p v l
def Vb (qI:az->Bool) (sc:az->az) (e2:Int->ai->az->MI) (k2:Int->ai->az->Prop) (x:ql) (i:Int) (r:MI):T (Ex×Sx.St AV) :=
 .aJ (decide (r.v.aQ.notes.length<=1000000)) (.ite (kW r.v==false) (.aJ (qI r.v) (.aJ (iI (arV x i (r.v.aQ.notes.length:Nat) r.p (sc r.v) r.v.aQ.notes /\ k2 (r.v.aQ.notes.length:Nat) r.p (sc r.v)))
  (.ite (kW (e2 (r.v.aQ.notes.length:Nat) r.p (sc r.v)).v) (.aE (.ret,Cc x i (e2 (r.v.aQ.notes.length:Nat) r.p (sc r.v)).p (e2 (r.v.aQ.notes.length:Nat) r.p (sc r.v)).v)) (.aE (.normal,Cc x (IntKind.wrap .i64 (i+1)) (e2 (r.v.aQ.notes.length:Nat) r.p (sc r.v)).p (e2 (r.v.aQ.notes.length:Nat) r.p (sc r.v)).v)))))
  (.aE (.ret,Cc x i r.p r.v)))
def anH (F:Tm) (qI:az->Bool) (sc:az->az) (e1:ai->az->MI) (k1:ai->az->Prop) (e2:Int->ai->az->MI) (k2:Int->ai->az->Prop) (x:ql) (i:Int) (p:ai) (v:az) (o:O):T (Ex×Sx.St AV) :=
 .aJ (F.okk v) (.ite (!F.fit v o) (.aE (.normal,Cc x (IntKind.wrap .i64 (i+1)) p v)) (.aJ (F.okg v o) (.aJ (iI (arW x i p (F.gv v o) /\ k1 p (F.gv v o))) (Vb qI sc e2 k2 x i (e1 p (F.gv v o))))))
theorem apE (σ:Sg) (F:Tm) (qI:az->Bool) (sc:az->az) (e1:ai->az->MI) (k1:ai->az->Prop) (e2:Int->ai->az->MI) (k2:Int->ai->az->Prop) (x:ql) (i:Int) (p:ai) (v:az):(xc (NV σ) (bs (lv (NV σ) (IF σ F qI sc) 8)) (WA x e1 k1 e2 k2) 108 TC (Cc x i p v)).bind (eQ 11 108 Sk eV) =
 .ite (decide (i < (x.no:Int))) (.aJ (decide (0<=i /\ i < (x.no:Int))) (.aJ (decide (0+i.toNat < x.bZ.length)) (anH F qI sc e1 k1 e2 k2 x i p v (VX x i)))) (.aE (.exit 0,Cc x i p v)):=by kernel_rfl
end
section
open Go Go.Sx Go.Proofs
variable {σ:Sg}
theorem TS {n:Int} {K K':Nat} {v:az} (h:v.WF n K) (hn:v.aQ.notes.length<=K'):v.WF n K':=by
 have b:=h.aQ.b
 exact⟨h.kj,h.dg,⟨⟨b.CI,b.me,b.mS,b.holds,b.notes,hn,b.word,b.seen⟩,h.aQ.call,h.aQ.acc,h.aQ.st⟩,h.call,h.Xc,h.cC⟩
theorem abT {s:Int} {o:O} (h:kU s o=true):anW s.toNat o:=by
 rcases Qv h with⟨rfl,hk⟩ | ⟨rfl,hk⟩ | ⟨hs,hk,k0,k1,ht⟩
 ·exact⟨fun _=>hk,fun e=>absurd e (by decide),fun e=>absurd e (by decide),fun e=>absurd e (by decide)⟩
 ·exact⟨fun e=>absurd e (by decide),fun _=>hk,fun e=>absurd e (by decide),fun e=>absurd e (by decide)⟩
 ·refine⟨fun e=>by omega,fun e=>by omega,fun _=>⟨hk,k0,k1⟩,fun e h6=>⟨?_,ht h6⟩⟩
  have e:s=5:=by omega
  subst e
  have h:cond (u7 o) false true=true:=h
  cases hb:u7 o with
  | true=>rw [hb] at h;cases h
  | false =>
    unfold u7 at hb
    rw [MG (by unfold u7;exact hb),h6] at hb
    have hb:decide (o.bO < 1)=false:=hb
    have:=abb hb
    omega
theorem agI {s i j:Nat} {h:AH} (hi:MV s i h) (hij:i<=j):MV s j h:=by
 unfold MV at hi ⊢
 split at hi<;>obtain⟨l,a,b⟩:=hi<;>exact⟨l,a,abL b hij⟩
structure SvI (s e:Int) (n i:Nat) (v:az) (p:ai):Prop where
 so:v.sort=s
 wf:v.WF n 100
 ml:v.ml
 pl:p.WF n
 hd:Hd (s==2) p
 dg:v.bh=0
 q:∃N h,RQ e N v.aQ /\ EB n (1+3 * (i:Int)) N p h /\ N.length<=i /\ MV s.toNat i h
section
variable {s e:Int} {n i:Nat} {v:az} {p:ai} {o:O}
theorem ajS (h:SvI s e n i v p):SvI s e n (i+1) v p:=by
 obtain⟨N,g,a,b,c,d⟩:=h.q
 exact⟨h.so,h.wf,h.ml,h.pl,h.hd,h.dg,N,g,a,o8 b (by omega),by omega,agI d (by omega)⟩
def QJ (s:Int) (i:Nat) (_:An) (h:AH):Prop:=MV s.toNat (i+1) h
theorem ZQ (he:1<=e /\ e<=5) (h:SvI s e n i v p) (hi:i < 40) (hf:kU s o=true):K9 v o /\ M4 n e (3+3 * (i:Int)) (i+1) s (QJ s i) 3911 117 ⟨0,p,xb v o⟩:=by
 have hf':kU v.sort o=true:=by rw [h.so];exact hf
 obtain⟨s1,s2,s3,s4⟩:=abD (by omega) (by omega) h.wf h.dg hf'
 obtain⟨N,g,a,b,c,d⟩:=h.q
 have hs:=h.wf.kj
 have hs:s.toNat=1 \/ s.toNat=2 \/ s.toNat=3 \/ s.toNat=4 \/ s.toNat=5:=by have:=hs.1;have:=hs.2.1;have:=h.so;omega
 have r:=Vf (n:=n) (e:=e) (C:=3+3 * (i:Int)) (R:=i+1) (Q:=QJ s i) (k:=3900) (v:=v) (o:=o) he (by omega) (by omega) a b (by omega) (by omega) s1.2 (by rw [h.so];exact W5 hs (by omega) d (abT hf))
 rw [h.so] at r
 exact⟨s1,adr _,s2,s3,h.pl,h.hd,s4.trans h.so,r⟩
theorem ZP (he:1<=e /\ e<=5) (hi:i < 40) {K:Nat} (hw:v.WF n K) (hr:v.ml) (hp:p.WF n) (hh:Hd (s==2) p) (hd:v.bh=0) (D:Dn n e (3+3 * (i:Int)) (i+1) s (QJ s i) v p) :
 DI v /\ v.aQ.notes.length<=i+1 /\ M4 n e (4+3 * (i:Int)) (i+1) s (QJ s i) (9+v.aQ.notes.length) 117 ⟨0,p,rz v⟩:=by
 obtain⟨N,g,a,b,c⟩:=D.q
 have hl:=D.no
 obtain⟨s1,s2,s3,s4⟩:=Z8 (by omega) (K:=100) (by omega) (TS hw (by omega)) hd
 have r:=Ve (n:=n) (e:=e) (R:=i+1) (Q:=QJ s i) (v:=v) he a b (by rw [<- a.no];exact hl) (by omega) s1.2.2 c
 rw [D.so,<- a.no,show 3+3 * (i:Int)+1=4+3 * (i:Int) by omega] at r
 exact⟨s1,hl,adr _,s2,s3,hp,hh,s4.trans D.so,r⟩
end
def ra (p:ai) (v:az) (o:O):MI:=HR p (xb v o)
def rb (r:MI):MI:=EN (r.v.aQ.notes.length:Nat) r.p (rz r.v)
section
variable {s e:Int} {n i:Nat} {v:az} {p:ai} {o:O}
theorem adB (he:1<=e /\ e<=5) (h:SvI s e n i v p) (hi:i < 40) (hf:kU s o=true) :
 K9 v o /\ c15 n e p (xb v o) /\ (ra p v o).v.bh=0 /\ (ra p v o).v.aQ.notes.length<=41 /\ DI (ra p v o).v /\ c22 n e ((ra p v o).v.aQ.notes.length:Nat) (ra p v o).p (rz (ra p v o).v) /\ (rb (ra p v o)).v.bh=0 /\ SvI s e n (i+1) (rb (ra p v o)).v (rb (ra p v o)).p:=by
 obtain⟨g1,g2⟩:=ZQ he h hi hf
 obtain⟨_,L1,d1⟩:=LG (x:=2) (K0:=117) (B:=3911) (by decide) (f:=3911) rfl g2
 have L1:M4 n e (3+3 * (i:Int)) (i+1) s (QJ s i) 3911 117 (ra p v o):=L1
 have d1:(ra p v o).v.bh=0:=d1
 obtain⟨c1,c2,c3⟩:=ZP he hi L1.wf L1.ml L1.pl L1.hd d1 (P7 L1 d1)
 obtain⟨_,L2,d2⟩:=LG (x:=4) (K0:=117) (B:=9+(ra p v o).v.aQ.notes.length) (by omega) (f:=9+(ra p v o).v.aQ.notes.length) (by show 0+_=_;omega) c3
 have L2:M4 n e (4+3 * (i:Int)) (i+1) s (QJ s i) (9+(ra p v o).v.aQ.notes.length) 117 (rb (ra p v o)):=L2
 have d2:(rb (ra p v o)).v.bh=0:=d2
 have D:=P7 L2 d2
 obtain⟨N,g,a,b,c⟩:=D.q
 have hn:=D.no
 refine⟨g1,⟨_,_,_,_,g2⟩,d1,by omega,c1,⟨by omega,by omega,_,_,_,_,c3⟩,d2,L2.so,TS L2.wf (by omega),L2.ml,L2.pl,L2.hd,d2,N,g,a,?_,by rw [<- a.no];exact hn,c⟩
 rw [show 1+3 * ((i+1:Nat):Int)=4+3 * (i:Int) by omega]
 exact b
end
structure MO where
 i:Nat
 p:ai
 v:az
def Hh (s e:Int) (n:Nat) (x:ql) (m:MO):Prop:=m.i<=x.bZ.length /\ x.bZ.length<=40 /\ SvI s e n m.i m.v m.p
def I8 (s:Int) (o:O) (m:MO):MO:=cond (kU s o) ⟨m.i+1,(rb (ra m.p m.v o)).p,(rb (ra m.p m.v o)).v⟩ ⟨m.i+1,m.p,m.v⟩
def tZ (s e:Int) (n:Nat) (x:ql) (m:MO):T (Ex×MO):=.aJ (iI (Hh s e n x m)) (.aE (if m.i < x.bZ.length then(.normal,I8 s (VX x m.i) m) else(.exit 0,m)))
def Qt (x:ql) (m:MO):Sx.St AV:=Cc x (m.i:Int) m.p m.v
section
variable {s e:Int} {n:Nat} {x:ql}
theorem af3 {o:O} {m:MO}:(I8 s o m).i=m.i+1:=by unfold I8;cases kU s o<;>rfl
theorem VY (he:1<=e /\ e<=5) {m:MO} (h:Hh s e n x m) (hl:m.i < x.bZ.length) (o:O):Hh s e n x (I8 s o m):=by
 obtain⟨h1,h2,h3⟩:=h
 unfold I8
 cases hf:kU s o with
 | false=>exact⟨hl,h2,ajS h3⟩
 | true=>exact⟨hl,h2,(adB he h3 (by omega) hf).2.2.2.2.2.2.2⟩
theorem QR {v:az} (h:v.bh=0):kW v=false:=by unfold kW;rw [h];rfl
theorem NC (σ:Sg) (he:1<=e /\ e<=5) (hx:x.no=x.bZ.length) (m:MO) (r:Ex×MO) (h:(tZ s e n x m).val=some r) :
 ((xc (NV σ) (bs (lv (NV σ) (IF σ Gj (fun v=>iI (DI v)) rz) 8)) (WA x HR (c15 n e) EN (c22 n e)) 108 TC (Qt x m)).bind (eQ 11 108 Sk eV)).val=some (r.1,Qt x r.2):=by
 obtain⟨hb,h⟩:=aD (h:(T.aJ _ _).val=_)
 obtain⟨hi,hs,hv⟩:=gJ hb
 obtain⟨i,p,v⟩:=m
 dsimp only at hi hv
 cases h
 show ((xc (NV σ) _ _ 108 TC (Cc x i p v)).bind _).val=_
 rw [apE,hx]
 by_cases hl:i < x.bZ.length
 ·rw [if_pos hl,tG (aaS (by omega)),nv (aaS ⟨by omega,by omega⟩),nv (aaS (by omega))]
  unfold anH
  refine(nv (iY ⟨hv.wf.kj,hv.dg⟩)).trans ?_
  show (T.ite (!kU v.sort (VX x i)) _ _).val=some (Ex.normal,Qt x (I8 s (VX x i) ⟨i,p,v⟩))
  rw [hv.so]
  unfold I8
  dsimp only
  cases hf:kU s (VX x i) with
  | false =>
    refine(tG rfl).trans ?_
    show some (Ex.normal,Cc x (IntKind.wrap .i64 ((i:Int)+1)) p v)=_
    rw [CP (by omega)];rfl
  | true =>
    obtain⟨g1,g2,g3,g4,g5,g6,g7,g8⟩:=adB he hv (by omega) hf
    refine(wG rfl).trans ((nv (iY g1)).trans ((nv (iY ⟨⟨rfl,rfl,rfl,rfl,rfl,rfl⟩,g2⟩)).trans ?_))
    show (Vb _ rz EN (c22 n e) x i (ra p v (VX x i))).val=some (Ex.normal,Cc x ((i+1:Nat):Int) (rb (ra p v (VX x i))).p (rb (ra p v (VX x i))).v)
    generalize ra p v (VX x i)=r at g3 g4 g5 g6 g7 g8 ⊢
    unfold Vb
    refine(nv (aaS (by omega))).trans ((tG (by rw [QR g3];rfl)).trans ((nv (iY g5)).trans ((nv (iY ⟨⟨rfl,rfl,rfl,rfl,rfl,rfl,rfl⟩,g6⟩)).trans ((wG (QR g7)).trans ?_))))
    show some (Ex.normal,Cc x (IntKind.wrap .i64 ((i:Int)+1)) _ _)=_
    rw [CP (by omega)];rfl
 ·rw [if_neg hl]
  exact wG (aaZ (by omega))
def KP (s:Int) (x:ql):Nat->MO->MO
 | 0,m=>m
 | f+1,m=>KP s x f (I8 s (VX x m.i) m)
theorem W9 (he:1<=e /\ e<=5):∀{f:Nat} {m:MO},m.i+f=x.bZ.length->Hh s e n x m->eJ (tZ s e n x) (f+1) m=some (.exit 0,KP s x f m)
 | 0,m,hk,h=>by
   rw [eJ,tZ,nv (iY h)]
   simp only [T.val]
   rw [if_neg (by omega)]
   rfl
 | f+1,m,hk,h=>by
   rw [eJ,tZ,nv (iY h)]
   simp only [T.val]
   rw [if_pos (by omega)]
   exact W9 he (f:=f) (m:=I8 s (VX x m.i) m) (by rw [af3];omega) (VY he h (by omega) _)
end
def ang (x:ql) (p:ai) (v:az) (s:Sx.St AV):Prop:=Sx.aF s.E 1=.v (.c (.vs 7 0 x.no 4 false)) /\ Sx.aF s.E 6=.v (.c (.ptr 9 0)) /\ Sx.aF s.E 7=.v (.c (.ptr 10 0)) /\ Sx.aF s.E 9=.v (.c (.il .i64 (Int.ofNat 0))) /\ s.H=Et x p v
def g11 (x:ql) (p:ai) (v:az) (m:MO) (c:Prop) (s:Sx.St AV):T (Ex×Sx.St AV):=.aJ (iI (ang x p v s /\ c)) (.aE (.exit 0,Cc x m.i m.p m.v))
theorem ahC {N':dV AV} (hF:N'.F=(NV σ).F) (hG:N'.G=(NV σ).G) {s e:Int} {n:Nat} {x:ql} (he:1<=e /\ e<=5) (hx:x.no=x.bZ.length) (p:ai) (v:az):fY Tryz.prog N' 108 TC (g11 x p v (KP s x x.bZ.length ⟨0,p,v⟩) (Hh s e n x ⟨0,p,v⟩)):=by
 have cH:gF Tryz.prog (NV σ) (bs (lv (NV σ) (IF σ Gj (fun v=>iI (DI v)) rz) 8)):=dj (my rH tA J7 Rj 8)
 refine eO (N:=NV σ) hF hG rH cH (lp:=WA x HR (c15 n e) EN (c22 n e)) (aaW x n e) fun s' s2 ex cG=>?_
 obtain⟨E1,H1⟩:=s'
 unfold g11 at cG
 replace cG:=aD cG
 obtain⟨hb,cG⟩:=cG
 obtain⟨⟨e1,e6,e7,e9,eH⟩,hv⟩:=gJ hb
 simp only at e1 e6 e7 e9 eH
 subst eH
 cases cG
 refine⟨{M:=MO,sH:=Qt x,step:=tZ s e n x,ks:=Sk,pk:=eV,zH:=fun d a h=>(by cases h),L:=11,len:=rfl,FL:=(by show 7<=11;decide),run:=NC σ he hx,m:=⟨0,p,v⟩,k:=x.bZ.length+1,m':=KP s x x.bZ.length ⟨0,p,v⟩,Ka:=?_,it:=W9 he (m:=⟨0,p,v⟩) (by show 0+_=_;omega) hv,fin:=rfl}⟩
 have JA:=ib (N:=NV σ) (nt:=108) (s:={E:=E1,H:=Et x p v}) (ks:=Sk) (E':=Zm x ((0:Nat):Int)) (l:=[]) (fun a h=>by cases h) (by show 7<=11;decide) fun k hk=>by
  simp only [Sk,abk,abo,or_false] at hk
  rcases hk with rfl | rfl | rfl | rfl
  ·exact .inl e1.symm
  ·exact .inl e6.symm
  ·exact .inl e7.symm
  ·refine .inr (.inl ⟨?_,?_,fun ρ=>?_⟩)
   ·show Sx.aF E1 9≠_
    rw [e9];exact fun h=>by cases h
   ·exact uo 0
   ·show _=(Sx.aF E1 9).aq ρ
    rw [e9];rfl
 exact JA
end
section
open Go Go.Sx Go.Proofs
def mAw:List Bool:=mkM 6
theorem RG (σ:Sg):kN σ afm 6 mAw [] []=.aJ (decide (σ TD=σ TD)) (.aJ (decide (σ TE=σ TE)) (.aE (.v (.c (.bt true)),[],[]))):=by kernel_rfl
variable {σ:Sg}
theorem Ua {tab:mK} (ht:dB Tryz.prog (NV σ) tab) {f:FuncId} {M:List Bool} (hM:7=M.length) (h:(kN σ tab f M [] []).val=some (.v (.c (.bt true)),[],[])):cD Tryz.prog (NV σ) f (bP cJ M Pn):=by
 refine gH dE hM fun args l v l' nw h' hl bM=>?_
 unfold Pn at h'
 split at h'
 ·simp only [T.val,aaC,aaF] at h'
  obtain⟨rfl,rfl,rfl⟩:=h'
  exact sJ (vD ht hM (fun x hx=>by cases hx) h).1 (fun c hc n hn=>by simp [V1.cells] at hc;subst hc;cases hn) fun ρ=>rfl
 ·simp [T.val] at h'
theorem YO:cD Tryz.prog (NV σ) 6 (bP cJ mAw Pn):=Ua Po (jC _) (by rw [RG];simp [T.val])
def ads (F:Tm):mK:=bA 6 (bP cJ mAw Pn) (bA 7 (bP cJ mLd (WR F.okl F.ld)) (bA 8 (bP cJ bL (sm aI5 FX (fun x=>some (!(F.Bg x))) F.mv)) ca))
theorem Ud:dB Tryz.prog (NV σ) (ads Gj):=aK YO (aK WQ (aK Q5 bn))
def yM (k s:Int):Int:=1+Int.tmod (IntKind.wrap .u64 s) k
def RN (F:Tm) (x:ql):ai:=F.ld (yM 5 x.a0) (yM 90 x.a3)
def yJ (x:ql):Int×Int×Int×Int×Int:=(yM 5 x.a0,yM 5 x.a1,0,1,yM 9 x.a2)
def alp (x:ql) (p:ai) (v:az) (m:MO) (c:Prop):Lp:=lV 4 11 (g11 x p v m c) jr
def Vg (σ:Sg) (F:Tm) (x:ql) (m:MO) (c:Prop):T (SV×Hp AV) :=
 Q.lv (hP (alp x (RN F x) (F.mv (yJ x)) m c) σ) (ads F) 24 (.fn 4) [.v (.agg (adZ x)),.v (.c (.vs 7 0 x.no 4 false))] (gM zB [.I7 x.bZ])
def arQ (x:ql) (p:ai) (v:az):Prop:=SV.v (.c (.vs 7 0 x.no 4 false))=.v (.c (.vs 7 0 x.no 4 false)) /\ SV.v (.c (.ptr 9 0))=.v (.c (.ptr 9 0)) /\ SV.v (.c (.ptr 10 0))=.v (.c (.ptr 10 0)) /\ SV.v (.c (.il .i64 (Int.ofNat 0)))=.v (.c (.il .i64 (Int.ofNat 0))) /\ Et x p v=Et x p v
theorem vsR (σ:Sg) (F:Tm) (x:ql) (m:MO) (c:Prop):Vg σ F x m c=.ite (decide ((x.no:Int) > 40)) (.aE (.v (.c (.bl true)),gM zB [.I7 x.bZ]))
 (.aJ (F.okl (yM 5 x.a0) (yM 90 x.a3)) (.aJ (!F.Bg (yJ x)) (.aJ (iI (arQ x (RN F x) (F.mv (yJ x)) /\ c)) (.aE (.v (.c (.bl true)),gM zB [.I7 x.bZ]))))):=by kernel_rfl
