import Derived.Test.YtcpdipfepeccgaaGreatDoorRr
import Derived.Test.YtcpdipfepeccgaaGreatDoorRk
import Derived.Test.YtcpdipfepeccgaaGreatDoorRd
set_option maxHeartbeats 4000000
set_option linter.unusedSimpArgs false
set_option linter.unusedVariables false
namespace Go.Proofs.YtcpdipfepeccgaaGreatDoor
open Go Go.Sx Go.Proofs
set_option maxRecDepth 100000
set_option maxHeartbeats 4000000
def OpOk (s:Int) (o:O):Prop:=(s=1 /\ (o.kind=1 \/ o.kind=2 \/ o.kind=3)) \/ (s=2 /\ (o.kind=4 \/ o.kind=5)) \/ ((s=3 \/ s=4 \/ s=5) /\ (o.kind=6 \/ o.kind=7 \/ o.kind=8) /\ 0<=o.key /\ o.key < 256 /\ (o.kind=6->o.tall<=3))
theorem goodL_s {o:O} (h:goodL o=true):(o.kind=6 \/ o.kind=7 \/ o.kind=8) /\ 0<=o.key /\ o.key < 256 /\ (o.kind=6->o.tall<=3):=by
 unfold goodL at h
 split at h
 ·cases h
 ·rename_i hk
  have hkey:0<=o.key /\ o.key < 256:=by
   split at hk
   ·rename_i h1
    have h1:¬o.key < 0:=of_decide_eq_false (eq_of_beq h1)
    have h2:¬o.key > 255:=of_decide_eq_false hk
    omega
   ·cases hk
  split at h
  ·rename_i h6
   have h6:o.kind=6:=eqI h6
   refine⟨.inl h6,hkey.1,hkey.2,fun _=>?_⟩
   split at h
   ·split at h
    ·split at h
     ·exact of_decide_eq_true h
     ·cases h
    ·cases h
   ·cases h
  ·rename_i h6
   have h6:o.kind≠6:=neI h6
   split at h
   ·rename_i h7
    exact⟨.inr (.inl (eqI h7)),hkey.1,hkey.2,fun e=>absurd e h6⟩
   ·split at h
    ·rename_i h8
     exact⟨.inr (.inr (eqI h8)),hkey.1,hkey.2,fun e=>absurd e h6⟩
    ·cases h
theorem badLit_s {o:O} (h:badLit o=false):goodL o=true:=by
 unfold badLit at h
 split at h
 ·rename_i hg
  have hg:(!goodL o)=false:=eq_of_beq hg
  simpa using hg
 ·cases h
theorem badSte_s {o:O} (h:badSte o=false):goodL o=true:=by
 unfold badSte at h
 split at h
 ·rename_i hg
  have hg:(!goodL o)=false:=eq_of_beq hg
  simpa using hg
 ·cases h
theorem fits_op {s:Int} {o:O} (h:fitsB s o=true):OpOk s o:=by
 unfold fitsB at h
 by_cases h1:s=1
 ·rw [if_pos h1] at h
  refine .inl ⟨h1,?_⟩
  unfold pileSt at h
  cases a:o.kind==1 with
  | true=>exact .inl (eqI a)
  | false =>
    cases b:o.kind==2 with
    | true=>exact .inr (.inl (eqI b))
    | false =>
      cases d:o.kind==3 with
      | true=>exact .inr (.inr (eqI d))
      | false=>rw [a,b,d] at h;cases h
 rw [if_neg h1] at h
 by_cases h2:s=2
 ·rw [if_pos h2] at h
  refine .inr (.inl ⟨h2,?_⟩)
  unfold cortSt at h
  cases a:o.kind==4 with
  | true=>exact .inl (eqI a)
  | false =>
    cases b:o.kind==5 with
    | true=>exact .inr (eqI b)
    | false=>rw [a,b] at h;cases h
 rw [if_neg h2] at h
 by_cases h3:s=3
 ·rw [if_pos h3] at h
  unfold litSt at h
  cases a:badLit o with
  | true=>rw [a] at h;cases h
  | false=>exact .inr (.inr ⟨.inl h3,goodL_s (badLit_s a)⟩)
 rw [if_neg h3] at h
 by_cases h4:s=4
 ·rw [if_pos h4] at h
  unfold vauSt at h
  cases a:badLit o with
  | true=>rw [a] at h;cases h
  | false=>exact .inr (.inr ⟨.inr (.inl h4),goodL_s (badLit_s a)⟩)
 rw [if_neg h4] at h
 by_cases h5:s=5
 ·rw [if_pos h5] at h
  unfold steSt at h
  cases a:badSte o with
  | true=>rw [a] at h;cases h
  | false=>exact .inr (.inr ⟨.inr (.inr h5),goodL_s (badSte_s a)⟩)
 rw [if_neg h5] at h
 cases h
theorem mkJob_wf {n:Int} (h0:0<=n) {s:Int} {o:O} (h:OpOk s o) (c:Cl):(mkJob s.toNat o).WF n (s==2) /\ (mkJob s.toNat o).aw c:=by
 have z:∀{p:Int} {P:Prop},(0:Int)=p->p≠0->P:=fun h h2=>absurd h.symm h2
 rcases h with⟨rfl,hk⟩ | ⟨rfl,hk⟩ | ⟨hs,hk,k0,k1,ht⟩
 ·refine⟨⟨⟨hk,.inr (.inl rfl),fun e=>z e (by decide),wok_nil h0,wok_nil h0,fun _ e=>absurd (show (0:Int)=2 \/ (0:Int)=3 \/ (0:Int)=4 from e) (by decide)⟩,rfl⟩,trivial⟩
 ·refine⟨⟨⟨hk,.inr (.inl rfl),fun e=>z e (by decide),wok_nil h0,wok_nil h0,wok_nil h0,wok_nil h0,fun _ e=>absurd (show (0:Int)=2 \/ (0:Int)=3 \/ (0:Int)=4 \/ (0:Int)=6 \/ (0:Int)=7 from e) (by decide),fun _ e=>absurd (show (0:Int)=6 \/ (0:Int)=7 from e) (by decide)⟩,rfl⟩,fun _ e=>absurd (show (0:Int)=1 from e) (by decide)⟩
 ·rcases hs with rfl | rfl | rfl
  ·exact⟨⟨newLit_wf h0 (aok_root (by decide) (by decide)) hk,rfl⟩,newLit_aw⟩
  ·refine⟨⟨⟨⟨k0,k1⟩,hk,⟨by show (0:Int)<=0;decide,by show (0:Int) < 8;decide⟩,.inr (.inl rfl),fun e=>z e (by decide),fun e=>z e (by decide),fun e=>absurd (show (3:Int)<=0 from e.1) (by decide),wok_nil h0,wok_nil h0,wok_nil h0,wok_nil h0,fun e=>absurd (show (4:Int)<=0 from e.1) (by decide),fun w e=>(by cases e),fun e=>z e (by decide)⟩,rfl⟩,⟨fun e=>z e (by decide),fun e=>z e (by decide)⟩⟩
  ·refine⟨⟨⟨hk,ht,?_,fun e=>z e (by decide),wok_nil h0,fun e=>?_,fun c e=>(by cases e),fun e=>?_⟩,rfl⟩,fun _ e=>absurd (show (0:Int)=1 from e) (by decide)⟩
   ·rcases hk with hk | hk | hk
    ·exact .inl ⟨hk,.inr (.inl rfl)⟩
    ·exact .inr (.inl ⟨hk,.inr (.inl rfl)⟩)
    ·exact .inr (.inr (.inl ⟨hk,.inr (.inl rfl)⟩))
   ·rcases e with⟨_,e⟩ | ⟨_,e⟩ | e
    ·exact absurd (show (2:Int)<=0 from e) (by decide)
    ·exact absurd (show (2:Int)<=0 from e) (by decide)
    ·exact absurd (show (101:Int)<=0 from e) (by decide)
   ·rcases e with⟨_,e⟩ | ⟨_,e⟩
    ·exact absurd (show (0:Int)=7 \/ (0:Int)=9 \/ (0:Int)=10 \/ (0:Int)=11 \/ (0:Int)=12 from e) (by decide)
    ·exact absurd (show (0:Int)=3 \/ (0:Int)=4 \/ (0:Int)=5 from e) (by decide)
theorem kind_mk {s:Int} (h1:1<=s) (h5:s<=5) (o:O) (v:VerM):(kindJ {v with job:=some (mkJob s.toNat o)}:Int)=s:=by
 rcases (by omega:s=1 \/ s=2 \/ s=3 \/ s=4 \/ s=5) with rfl | rfl | rfl | rfl | rfl<;>rfl
theorem give_wf {n:Int} (h0:0<=n) {K:Nat} {v:VerM} (hK:K+17<=100000) (h:v.WF n K) (hb:v.doing=0) {o:O} (hf:fitsB v.sort o=true):okGiv v o /\ (giveM v o).WF n (K+17) /\ (giveM v o).rest /\ (giveM v o).sort=v.sort:=by
 have hop:=fits_op hf
 obtain⟨ob,rr⟩:=begin_wf (c:=clEnter) h0 h.rite (h.idle hb) (.inr (.inl rfl)) (by omega)
 obtain⟨jw,ja⟩:=mkJob_wf h0 hop clEnter
 have hw:(givV beginM v.sort.toNat v o).WF n (K+1):=by
  refine⟨⟨h.kj.1,h.kj.2.1,.inr (kind_mk h.kj.1 h.kj.2.1 o v)⟩,⟨by show (0:Int)<=1;decide,by show (1:Int)<=4;decide⟩,rr.wf,rr.on,fun e=>absurd (show (1:Int)=0 from e) (by decide),fun _=>⟨_,rfl,jw,ja,rr.off⟩⟩
 obtain⟨a1,a2,a3,a4⟩:=adv_wf h0 (K:=K+1) (by omega) hw
 exact⟨⟨ob,a1⟩,a2,a3,a4⟩
theorem newVer_wf {n:Int} (h0:0<=n) {s e me th no:Int} (hs:1<=s /\ s<=5) (he:1<=e /\ e<=5) (ht:1<=th /\ th<=6) (hm:0<=me /\ me < th):(newVer (s,e,me,th,no)).WF n 0 /\ (newVer (s,e,me,th,no)).rest:=by
 refine⟨⟨⟨hs.1,hs.2,.inl rfl⟩,⟨by show (0:Int)<=0;decide,by show (0:Int)<=4;decide⟩,⟨⟨he,⟨hm.1,by show me < 6;omega⟩,ht,⟨wok_nil h0,wok_nil h0,wok_nil h0,wok_nil h0,wok_nil h0,wok_nil h0,wok_nil h0,wok_nil h0,wok_nil h0⟩,fun x hx=>(by cases hx),Nat.le_refl _,wok_nil h0,Nat.zero_le _⟩,fun e=>absurd rfl e,fun e=>absurd rfl e,.inl rfl⟩,fun e=>absurd rfl e,fun _=>rfl,fun e=>absurd (show (0:Int)=1 \/ (0:Int)=2 from e) (by decide)⟩,.inl rfl⟩
theorem VerM.WF.mono {n:Int} {K K':Nat} {v:VerM} (h:v.WF n K) (hk:K<=K'):v.WF n K':=⟨h.kj,h.dg,⟨B.mono h.rite.b hk,h.rite.call,h.rite.acc,h.rite.st⟩,h.call,h.idle,h.job⟩
end Go.Proofs.YtcpdipfepeccgaaGreatDoor

namespace Go.Proofs.YtcpdipfepeccgaaGreatDoor
open Go Go.Sx Go.Proofs
set_option maxRecDepth 100000
set_option maxHeartbeats 4000000
variable {σ:Sg} {lp:Lp}
noncomputable def nwM:NwF:=⟨fun x=>newPlot x.toNat,badVer,newVer⟩
structure Cfg where
 s:Int
 e:Int
 n:Int
 sl:Int
 no:Int
def aCfg:ArgK Cfg where
 enc x:=[.v (.agg [.it .i64 x.s,.it .i64 x.e,.it .i64 x.n,.it .i64 x.sl,.it .i64 x.no])]
 dec:=fun | [.v (.agg [a,b,c,d,e])]=>(match iOf a,iOf b,iOf c,iOf d,iOf e with | some a,some b,some c,some d,some e=>some ⟨a,b,c,d,e⟩ | _,_,_,_,_=>none) | _=>none
 ok:=fun l a h ρ=>by
  split at h
  ·split at h
   ·rename_i h0 h1 h2 h3 h4
    cases h
    simp only [List.map_cons,List.map_nil,SV.den,V1.den,denL,iOf_den h0 ρ,iOf_den h1 ρ,iOf_den h2 ρ,iOf_den h3 ρ,iOf_den h4 ρ];rfl
   ·cases h
  ·cases h
 free:=fun _=>rfl
@[reducible] def oPar:ObK ParM:=⟨parV,parX,fun _ _=>parX_s,fun _=>rfl⟩
def idxs (n:Int):List Int:=(List.range n.toNat).map fun(i:Nat)=>(i:Int)
def parD:ParM:=⟨0,newPlot 0,[],[]⟩
noncomputable def newPar (c:Cfg):ParM:=newT cond (fun _ t=>t) parD id nwM c.s.toNat c.e (idxs c.n) c.n c.sl c.no
noncomputable def okNew (c:Cfg):Bool:=newT cond bN false (fun _=>true) nwM c.s.toNat c.e (idxs c.n) c.n c.sl c.no
def okCfg (c:Cfg):Prop:=1<=c.s /\ c.s<=5 /\ 1<=c.n /\ c.n<=6
theorem rel_F {γ α:Type} {f:γ->α} {s:String} {x:γ}:RelF f (.fail s) false x:=fun h=>by cases h
theorem nw_rel (F:NwF) (s:Nat) (e:Int) (is:List Int) (n sl no:Int):RelF (fun m:ParM=>m) (newT tI tN nwF nwL F s e is n sl no) (newT cond bN false (fun _=>true) F s e is n sl no) (newT cond (fun _ t=>t) parD id F s e is n sl no):=by
 unfold newT layT
 dsimp only
 have bd:∀(k:Int) (is:List Int) {t:T (Option ParM)} {b:Bool} {x:ParM},RelF (fun m:ParM=>m) t b x->RelF (fun m:ParM=>m) (newBad tN F.bad (Int.ofNat s) e no k t is) (newBad bN F.bad (Int.ofNat s) e no k b is) (newBad (fun _ t=>t) F.bad (Int.ofNat s) e no k x is):=fun k is {t b x} h=>by
  induction is with
  | nil=>exact h
  | cons i r ih=>exact rel_N ih
 refine rel_I rel_F (rel_N (rel_N (rel_I ?_ rel_F)))
 split
 ·unfold lay2
  dsimp only
  refine rel_N (rel_I (rel_I rel_F (rel_N (rel_I (rel_N (rel_I ?_ rel_F)) rel_F))) rel_F)
  exact bd n is (rel_N (rel_N fun _=>rfl))
 ·unfold lay2
  dsimp only
  refine rel_N (rel_I (rel_I rel_F (rel_N (rel_I (rel_N (rel_I ?_ rel_F)) rel_F))) rel_F)
  exact bd n is (rel_N (rel_N fun _=>rfl))
 ·exact bd n is (rel_N (rel_N fun _=>rfl))
theorem decNP_spec {r:SV×List AV×List AV} {m:ParM} (h:decNP r=some m):r=(.tup [.c (.ptr 8 0),.c .inil],[],[.par m]):=by
 unfold decNP at h
 split at h
 ·cases h;rfl
 ·cases h
theorem tabNw_ok:TabOk Tryz.prog (NV σ) (tabNw σ nwM):=tabAdd_ok newPlot_ok (tabAdd_ok doS_ok (tabAdd_ok verNew_ok tab0_ok))
theorem nw_all (σ:Sg) (s n:Nat) (e sl no:Int) (hs:1<=s /\ s<=5) (hn:1<=n /\ n<=6):runNw σ nwM s e n sl no=newT tI tN nwF nwL nwM s e (idxs n) n sl no:=by
 rcases (by omega:s=1 \/ s=2 \/ s=3 \/ s=4 \/ s=5) with rfl | rfl | rfl | rfl | rfl<;>rcases (by omega:n=1 \/ n=2 \/ n=3 \/ n=4 \/ n=5 \/ n=6) with rfl | rfl | rfl | rfl | rfl | rfl
 ·exact nw1_1 σ nwM e sl no
 ·exact nw1_2 σ nwM e sl no
 ·exact nw1_3 σ nwM e sl no
 ·exact nw1_4 σ nwM e sl no
 ·exact nw1_5 σ nwM e sl no
 ·exact nw1_6 σ nwM e sl no
 ·exact nw2_1 σ nwM e sl no
 ·exact nw2_2 σ nwM e sl no
 ·exact nw2_3 σ nwM e sl no
 ·exact nw2_4 σ nwM e sl no
 ·exact nw2_5 σ nwM e sl no
 ·exact nw2_6 σ nwM e sl no
 ·exact nw3_1 σ nwM e sl no
 ·exact nw3_2 σ nwM e sl no
 ·exact nw3_3 σ nwM e sl no
 ·exact nw3_4 σ nwM e sl no
 ·exact nw3_5 σ nwM e sl no
 ·exact nw3_6 σ nwM e sl no
 ·exact nw4_1 σ nwM e sl no
 ·exact nw4_2 σ nwM e sl no
 ·exact nw4_3 σ nwM e sl no
 ·exact nw4_4 σ nwM e sl no
 ·exact nw4_5 σ nwM e sl no
 ·exact nw4_6 σ nwM e sl no
 ·exact nw5_1 σ nwM e sl no
 ·exact nw5_2 σ nwM e sl no
 ·exact nw5_3 σ nwM e sl no
 ·exact nw5_4 σ nwM e sl no
 ·exact nw5_5 σ nwM e sl no
 ·exact nw5_6 σ nwM e sl no
theorem newPar_ok:FnOk Tryz.prog (NV σ) 14 (sumG isS mNw (newE aCfg oPar (fun c=>some (decC (okCfg c /\ okNew c=true))) newPar)):=by
 refine sumG_ok isS_ok (mkM_len _) fun args l v l' nw h hl hargs=>?_
 unfold newE at h
 split at h
 ·split at h
  ·rename_i c hc
   replace h:=needO_some h
   obtain⟨hok,h⟩:=h
   obtain⟨hcf,hnew⟩:=decC_of (show decC _=true from hok)
   simp only [T.val,Option.some.injEq,Prod.mk.injEq] at h
   obtain⟨rfl,rfl,rfl⟩:=h
   obtain⟨s,e,n,sl,no⟩:=c
   obtain⟨h1,h2,h3,h4⟩:=hcf
   dsimp only at h1 h2 h3 h4
   obtain⟨s,rfl⟩:∃k:Nat,s=(k:Int):=⟨s.toNat,by omega⟩
   obtain⟨n,rfl⟩:∃k:Nat,n=(k:Int):=⟨n.toNat,by omega⟩
   have hr:=nw_rel nwM s e (idxs n) n sl no hnew
   have hv:(runNw σ nwM s e n sl no).val=some (some (newPar ⟨s,e,n,sl,no⟩)):=(congrArg T.val (nw_all σ s n e sl no ⟨by omega,by omega⟩ ⟨by omega,by omega⟩)).trans hr
   obtain⟨y,g1,g2⟩:=map_some hv
   have g2:=decNP_spec g2
   subst g2
   have hctr:=ctr_nv (runNP_ok lps0 (tabL tabNw_ok) (M:=mNw) (mkM_len _) (svsFree_cl rfl) g1)
   exact ctr_args hctr fun ρ=>by rw [<- aCfg.ok _ _ hc ρ];rfl
  ·simp [T.val] at h
 ·simp [T.val] at h
end Go.Proofs.YtcpdipfepeccgaaGreatDoor

namespace Go.Proofs.YtcpdipfepeccgaaGreatDoor
open Go Go.Sx Go.Proofs
set_option maxRecDepth 100000
set_option maxHeartbeats 4000000
theorem downN_mem:∀{k:Nat} {x:N1},x∈downN k->1<=x.val /\ x.val<=(k:Int)
 | 0,x,h=>by cases h
 | k+1,x,h=>by
   rcases List.mem_cons.1 h with rfl | h
   ·exact⟨by show 1<=((k+1:Nat):Int);omega,Int.le_refl _⟩
   ·have:=downN_mem h;omega
theorem downN_nd:∀(k:Nat),((downN k).map N1.val).Nodup
 | 0=>List.nodup_nil
 | k+1=>by
   refine List.nodup_cons.2 ⟨fun h=>?_,downN_nd k⟩
   obtain⟨y,hy,e⟩:=List.mem_map.1 h
   have:=downN_mem hy
   have e:y.val=((k+1:Nat):Int):=e
   omega
theorem slZ_at {k:Nat} {i:Nat}:(List.replicate k slZ).getD i kslots.dflt=slZ \/ (List.replicate k slZ).getD i kslots.dflt=kslots.dflt:=by
 rw [List.getD_eq_getElem?_getD,List.getElem?_replicate]
 split
 ·exact .inl rfl
 ·exact .inr rfl
theorem newPlot_wf {k:Nat} (hk:k<=1024):(newPlot k).WF k:=by
 have hz:WOk k wNil:=wok_nil (by omega)
 refine⟨hk,rfl,List.length_replicate,fun w hw=>?_,fun s hs=>?_,fun s hs w hw=>?_,fun x hx=>downN_mem hx,fun x hx=>?_,downN_nd k⟩
 ·rw [List.eq_of_mem_replicate (show w∈List.replicate 85 wNil from hw)];exact hz
 ·rw [List.eq_of_mem_replicate (show s∈List.replicate k slZ from hs)];rfl
 ·rw [List.eq_of_mem_replicate (show s∈List.replicate k slZ from hs)] at hw
  simp only [slZ,List.mem_cons,List.not_mem_nil,or_false] at hw
  rcases hw with rfl | rfl | rfl | rfl | rfl | rfl | rfl | rfl | rfl | rfl<;>exact hz
 ·show ((List.replicate k slZ).getD _ kslots.dflt).used=false
  rcases slZ_at (k:=k) (i:=(x.val - 1).toNat) with h | h<;>rw [h]<;>rfl
theorem str_valid {n:Nat} {p:PlotM} (h:p.WF n) {f:Int} {w:W} (h0:0<=f) (h1:f < 85):p.valid (aStr f w):=by
 show (if (2:Int)=1 \/ (2:Int)=2 \/ (2:Int)=3 then p.hasA 0 0 f else _)
 rw [if_pos (by decide)]
 unfold PlotM.hasA
 rw [if_pos rfl,h.lb]
 exact⟨rfl,h0,h1⟩
theorem str_wf {n:Nat} {p:PlotM} (h:p.WF n) {f:Int} {w:W} (h0:0<=f) (h1:f < 85) (hw:WOk n w):(p.access (aStr f w)).2.WF n :=
 (access_wf (hd:=false) h (fun e=>by cases e) (str_valid h h0 h1) hw fun e=>by cases e).wf
theorem acc_new {n:Nat} {p:PlotM} (h:p.WF n) (hf:p.free.length≠0):(p.access aNew).1.ok=true /\ 1<=(p.access aNew).1.w.slot /\ WOk n (p.access aNew).1.w /\ (p.access aNew).2.WF n:=by
 have hv:p.valid aNew:=by
  show (if (4:Int)=1 \/ (4:Int)=2 \/ (4:Int)=3 then _ else if (4:Int)=4 then True else _)
  rw [if_neg (by decide),if_pos rfl];trivial
 have ha:=access_wf (hd:=false) h (fun e=>by cases e) hv (wok_nil (by omega)) fun e=>by cases e
 have hok:(p.access aNew).1.ok=true:=by
  show (PlotM.alloc {p with steps:=wrap1 p.steps} 0).1.ok=true
  unfold PlotM.alloc
  rw [if_neg (show ¬({p with steps:=wrap1 p.steps}:PlotM).free.length=0 from hf)]
 exact⟨hok,ha.al rfl hok,ha.w,ha.wf⟩
structure ParM.WF (n:Nat) (K:Nat) (m:ParM):Prop where
 so:1<=m.sort /\ m.sort<=5
 th:1<=m.threads.length /\ m.threads.length<=6
 plot:m.plot.WF n
 hd:Hd (m.sort==2) m.plot
 ver:∀r∈m.threads,r.ver.WF n K /\ r.ver.rest /\ r.ver.sort=m.sort
 qu:∀r∈m.threads,∀o∈r.queue,fitsB m.sort o=true
 ql:∀r∈m.threads,r.queue.length<=100000
 la:∀r∈m.threads,r.last < (m.beats.length:Int)
 bl:m.beats.length<=K
theorem newThs_mem {mv:Int×Int×Int×Int×Int->VerM} {s e no n:Int}:∀{is:List Int} {r:RosM},r∈newThs mv s e no n is->∃i∈is,r=⟨mv (s,e,i,n,no),[],0,-1⟩
 | [],r,h=>by cases h
 | i::is,r,h=>by
   rcases List.mem_cons.1 h with rfl | h
   ·exact⟨i,List.mem_cons_self,rfl⟩
   ·obtain⟨j,h1,h2⟩:=newThs_mem h
    exact⟨j,List.mem_cons_of_mem _ h1,h2⟩
theorem newThs_len {mv:Int×Int×Int×Int×Int->VerM} {s e no n:Int}:∀(is:List Int),(newThs mv s e no n is).length=is.length
 | []=>rfl
 | i::is=>congrArg (·+1) (newThs_len is)
theorem newBad_t {bad:Int×Int×Int×Int×Int->Bool} {s e no n:Int}:∀{is:List Int},(∀i∈is,bad (s,e,i,n,no)=false)->newBad bN bad s e no n true is=true
 | [],_=>rfl
 | i::is,h=>by
   show (!(bad (s,e,i,n,no))&&newBad bN bad s e no n true is)=true
   rw [h i List.mem_cons_self,newBad_t fun j hj=>h j (List.mem_cons_of_mem _ hj)];rfl
theorem newBad_c {bad:Int×Int×Int×Int×Int->Bool} {s e no n:Int} {m:ParM}:∀{is:List Int},newBad (fun _ t=>t) bad s e no n m is=m
 | []=>rfl
 | i::is=>newBad_c (is:=is)
theorem badVer_f {s e i n no:Int} (hs:1<=s /\ s<=5) (he:1<=e /\ e<=5) (hn:1<=n /\ n<=6) (hno:1<=no /\ no<=64) (hi:0<=i /\ i < n):badVer (s,e,i,n,no)=false:=by
 unfold badVer badRi
 dsimp only
 rw [decide_eq_false (show ¬s < 1 by omega),decide_eq_false (show ¬s > 5 by omega),decide_eq_false (show ¬e < 1 by omega),decide_eq_false (show ¬e > 5 by omega),decide_eq_false (show ¬n < 1 by omega),decide_eq_false (show ¬n > 6 by omega),
  decide_eq_false (show ¬i < 0 by omega),decide_eq_false (show ¬i>=n by omega),decide_eq_false (show ¬no < 1 by omega),decide_eq_false (show ¬no > 64 by omega)]
 rfl
theorem idxs_mem {n i:Int} (h:i∈idxs n):0<=i /\ i < n:=by
 obtain⟨k,hk,rfl⟩:=List.mem_map.1 h
 have:=List.mem_range.1 hk
 omega
theorem idxs_len (n:Int):(idxs n).length=n.toNat:=by unfold idxs;rw [List.length_map,List.length_range]
structure Cfg.Good (c:Cfg):Prop where
 s:1<=c.s /\ c.s<=5
 e:1<=c.e /\ c.e<=5
 n:1<=c.n /\ c.n<=6
 sl:1<=c.sl /\ c.sl<=1024
 no:1<=c.no /\ c.no<=64
theorem good_t {e sl no:Int} (he:1<=e /\ e<=5) (hs:1<=sl /\ sl<=1024) (hn:1<=no /\ no<=64):goodC e sl no=true:=by
 unfold goodC
 rw [decide_eq_true (show e>=1 by omega),decide_eq_true (show e<=5 by omega),decide_eq_true (show sl>=0 by omega),decide_eq_true (show sl<=1024 by omega),decide_eq_true (show no>=1 by omega),decide_eq_true (show no<=64 by omega)]
 rfl
theorem lay2_s {n:Nat} {p:PlotM} (h:p.WF n) (hf:p.free.length≠0) {f1 f2:Int} (h1:0<=f1 /\ f1 < 85) (h2:0<=f2 /\ f2 < 85) {w1 w2:W->W} (hw1:∀{w},WOk n w->WOk n (w1 w)) (hw2:∀{w},WOk n w->WOk n (w2 w)) :
 ∃x,1<=x.slot /\ WOk n x /\ ∃p',p'.WF n /\ p'.board=((p.access aNew).2.board.set f1.toNat (w1 x)).set f2.toNat (w2 x) /\
   (∀(k:PlotM->Bool),lay2 cond bN false f1 f2 w1 w2 p k=k p') /\ (∀(k:PlotM->ParM),lay2 cond (fun _ t=>t) parD f1 f2 w1 w2 p k=k p'):=by
 obtain⟨a1,a2,a3,a4⟩:=acc_new h hf
 refine⟨(p.access aNew).1.w,a2,a3,(((p.access aNew).2.access (aStr f1 (w1 (p.access aNew).1.w))).2.access (aStr f2 (w2 (p.access aNew).1.w))).2,?_,rfl,fun k=>?_,fun k=>?_⟩
 ·exact str_wf (str_wf a4 h1.1 h1.2 (hw1 a3)) h2.1 h2.2 (hw2 a3)
 ·have b1:=str_wf a4 h1.1 h1.2 (hw1 a3)
  unfold lay2
  dsimp only
  rw [a1,decide_eq_true h.ok,decide_eq_true a4.ok,decide_eq_true (str_valid a4 h1.1 h1.2),decide_eq_true b1.ok,decide_eq_true (str_valid b1 h2.1 h2.2)]
  rfl
 ·have b1:=str_wf a4 h1.1 h1.2 (hw1 a3)
  unfold lay2
  dsimp only
  rw [a1,decide_eq_true (str_valid a4 h1.1 h1.2),decide_eq_true (str_valid b1 h2.1 h2.2)]
  rfl
theorem lay_s {n:Nat} {p:PlotM} (h:p.WF n) (hf:p.free.length≠0) (s:Nat) :
 ∃p',p'.WF n /\ Hd ((s:Int)==2) p' /\ (∀(k:PlotM->Bool),layT cond bN false s p k=k p') /\ (∀(k:PlotM->ParM),layT cond (fun _ t=>t) parD s p k=k p'):=by
 by_cases h2:s=2
 ·subst h2
  obtain⟨x,x1,x2,p',w,eb,k1,k2⟩:=lay2_s (f1:=0) (f2:=1) (w1:=wRef) (w2:=wRef) h hf (by decide) (by decide) (fun h=>wok_ref h) (fun h=>wok_ref h)
  refine⟨p',w,fun _=>?_,k1,k2⟩
  rw [eb]
  have hne:(p.access aNew).2.board≠[]:=fun e=>by
   have:=(acc_new h hf).2.2.2.lb
   rw [e] at this;cases this
  have hne2:(p.access aNew).2.board.set (0:Int).toNat (wRef x)≠[]:=fun e=>by
   have:=congrArg List.length e
   rw [List.length_set] at this
   exact hne (List.length_eq_zero_iff.1 this)
  rw [getD_set0 hne2,if_neg (by decide),getD_set0 hne,if_pos (by decide)]
  exact x1
 ·have hd:∀q,Hd ((s:Int)==2) q=Hd false q:=fun q=>by rw [show ((s:Int)==2)=false by simpa using (by omega:¬(s:Int)=2)]
  by_cases h4:s=4
  ·subst h4
   obtain⟨x,x1,x2,p',w,eb,k1,k2⟩:=lay2_s (f1:=8) (f2:=16) (w1:=wRef) (w2:=fun _=>wNum 1) h hf (by decide) (by decide) (fun h=>wok_ref h) (fun h=>wok_num (by omega) _)
   exact⟨p',w,(by rw [hd];exact fun(e:false=true)=>(by cases e)),k1,k2⟩
  ·refine⟨p,h,(by rw [hd];exact fun(e:false=true)=>(by cases e)),fun k=>?_,fun k=>?_⟩
   ·unfold layT;split<;>first | omega | rfl
   ·unfold layT;split<;>first | omega | rfl
theorem newPar_wf {c:Cfg} (h:c.Good):okCfg c /\ okNew c=true /\ (newPar c).WF c.sl.toNat 0 /\ (newPar c).sort=c.s /\ (newPar c).threads.length=c.n.toNat /\ (newPar c).beats=[] /\ ∀r∈(newPar c).threads,r.queue=[] /\ r.ver.doing=0 /\ r.given=0:=by
 have hk:c.sl.toNat<=1024:=by have:=h.sl;omega
 have w0:=newPlot_wf hk
 have w1:=str_wf w0 (f:=24) (w:=wNum 1) (by decide) (by decide) (wok_num (by omega) _)
 have hf:((newPlot c.sl.toNat).access (aStr 24 (wNum 1))).2.free.length≠0:=by
  show (downN c.sl.toNat).length≠0
  rw [downN_len]
  have:=h.sl;omega
 obtain⟨p',wp,hd,k1,k2⟩:=lay_s w1 hf c.s.toNat
 have es:((c.s.toNat:Nat):Int)=c.s:=by have:=h.s;omega
 have eNew:newPar c=⟨c.s,p',newThs newVer c.s c.e c.no c.n (idxs c.n),[]⟩:=by
  unfold newPar newT
  rw [good_t h.e h.sl h.no]
  rw [show nwM.np c.sl=newPlot c.sl.toNat from rfl,decide_eq_true (str_valid w0 (by decide) (by decide))]
  show layT cond (fun _ t=>t) parD c.s.toNat _ _=_
  rw [k2,newBad_c,es];rfl
 refine⟨⟨h.s.1,h.s.2,h.n.1,h.n.2⟩,?_,?_,?_,?_,?_,?_⟩
 ·unfold okNew newT
  rw [good_t h.e h.sl h.no]
  rw [show nwM.np c.sl=newPlot c.sl.toNat from rfl,decide_eq_true (show 0<=c.sl /\ c.sl<=1024 /\ (85:Int)=85 from⟨by have:=h.sl;omega,h.sl.2,rfl⟩),decide_eq_true w0.ok,decide_eq_true (str_valid w0 (by decide) (by decide))]
  show layT cond bN false c.s.toNat _ _=true
  rw [k1]
  refine newBad_t fun i hi=>?_
  rw [es]
  exact badVer_f h.s h.e h.n h.no (idxs_mem hi)
 ·rw [eNew]
  refine⟨h.s,?_,wp,by rw [es] at hd;exact hd,fun r hr=>?_,fun r hr=>?_,fun r hr=>?_,fun r hr=>?_,Nat.le_refl _⟩
  ·show 1<=(newThs newVer c.s c.e c.no c.n (idxs c.n)).length /\ _
   rw [newThs_len,idxs_len];have:=h.n;omega
  ·obtain⟨i,hi,rfl⟩:=newThs_mem hr
   have:=newVer_wf (n:=(c.sl.toNat:Nat)) (by omega) h.s h.e h.n (no:=c.no) (idxs_mem hi)
   exact⟨this.1,this.2,rfl⟩
  ·obtain⟨i,hi,rfl⟩:=newThs_mem hr
   intro o ho;cases ho
  ·obtain⟨i,hi,rfl⟩:=newThs_mem hr
   exact Nat.zero_le _
  ·obtain⟨i,hi,rfl⟩:=newThs_mem hr
   show (-1:Int) < 0;decide
 ·rw [eNew]
 ·rw [eNew];show (newThs newVer c.s c.e c.no c.n (idxs c.n)).length=_;rw [newThs_len,idxs_len]
 ·rw [eNew]
 ·rw [eNew]
  intro r hr
  obtain⟨i,hi,rfl⟩:=newThs_mem hr
  exact⟨rfl,rfl,rfl⟩
end Go.Proofs.YtcpdipfepeccgaaGreatDoor

namespace Go.Proofs.YtcpdipfepeccgaaGreatDoor
open Go Go.Sx Go.Proofs
set_option maxRecDepth 100000
set_option maxHeartbeats 4000000
theorem ste_fresh6 (k v t:Int) (x:Rp1):((mkJob (5:Int).toNat ⟨6,k,v,t⟩).next x).1.kind=8:=by kernel_rfl
theorem ste_fresh7 (k v t:Int) (x:Rp1):((mkJob (5:Int).toNat ⟨7,k,v,t⟩).next x).1.kind=6:=by kernel_rfl
theorem ste_fresh8 (k v t:Int) (x:Rp1):((mkJob (5:Int).toNat ⟨8,k,v,t⟩).next x).1.kind=6:=by kernel_rfl
theorem fresh_next {s:Int} {o:O} (h:OpOk s o) (x:Rp1):((mkJob s.toNat o).next x).1.kind=8 \/ ((mkJob s.toNat o).next x).1.kind=6 \/ ((mkJob s.toNat o).next x).1.kind=3:=by
 obtain⟨kd,key,val,tall⟩:=o
 rcases h with⟨rfl,hk⟩ | ⟨rfl,hk⟩ | ⟨hs,hk,_⟩
 ·have hk:kd=1 \/ kd=2 \/ kd=3:=hk
  rcases hk with rfl | rfl | rfl
  ·exact .inl rfl
  ·exact .inr (.inl rfl)
  ·exact .inr (.inl rfl)
 ·have hk:kd=4 \/ kd=5:=hk
  rcases hk with rfl | rfl
  ·exact .inl rfl
  ·exact .inr (.inl rfl)
 ·have hk:kd=6 \/ kd=7 \/ kd=8:=hk
  rcases hs with rfl | rfl | rfl
  ·rcases hk with rfl | rfl | rfl
   ·exact .inl rfl
   ·exact .inr (.inl rfl)
   ·exact .inr (.inl rfl)
  ·exact .inr (.inr rfl)
  ·rcases hk with rfl | rfl | rfl
   ·exact .inl (ste_fresh6 ..)
   ·exact .inr (.inl (ste_fresh7 ..))
   ·exact .inr (.inl (ste_fresh8 ..))
theorem stepAd_exit {v:VerM} (hd:v.doing≠0) (hs:v.rite.step≠0):(stepAd v).val=some (.exit 0,v):=by
 unfold stepAd adRound
 rw [show ((v.doing != 0)==true)=true by simpa using hd,show busyM v.rite=true by unfold busyM;simpa using hs]
 rfl
theorem adv_exit {v:VerM} (hd:v.doing≠0) (hs:v.rite.step≠0):advM v=v:=by
 have e:advI v=some (.exit 0,v):=by
  show iter stepAd 16 v=_
  rw [iter,stepAd_exit hd hs]
 unfold advM;rw [e]
theorem give_busy {n:Int} (h0:0<=n) {K:Nat} {v:VerM} (hK:K+17<=100000) (h:v.WF n K) (hb:v.doing=0) {o:O} (hf:fitsB v.sort o=true):(giveM v o).doing≠0:=by
 have hop:=fits_op hf
 obtain⟨ob,rr⟩:=begin_wf (c:=clEnter) h0 h.rite (h.idle hb) (.inr (.inl rfl)) (by omega)
 obtain⟨jw,ja⟩:=mkJob_wf h0 hop clEnter
 unfold giveM
 generalize hw0:givV beginM v.sort.toNat v o=w
 have wd:w.doing=1:=by rw [<- hw0];rfl
 have wr:w.rite=beginM v.rite clEnter:=by rw [<- hw0];rfl
 have wj:w.job=some (mkJob v.sort.toNat o):=by rw [<- hw0];rfl
 by_cases hs:w.rite.step=0
 ·have hrp:RpFor n (v.sort==2) clEnter w.rite.reply:=by rw [wr] at hs ⊢;exact rr.off hs
  have hn:=jnext_wf h0 jw ja hrp
  have hfr:=fresh_next hop w.rite.reply
  have hne:((mkJob v.sort.toNat o).next w.rite.reply).1.kind≠12:=by omega
  have hcl:=hn.nk hne
  have hni:¬imm ((mkJob v.sort.toNat o).next w.rite.reply).1:=fun e=>by unfold imm at e;omega
  have wrw:w.rite.WF n (v.sort==2) (K+1):=by rw [wr];exact rr.wf
  obtain⟨ob2,rr2⟩:=begin_wf h0 wrw hs (hn.res.elim (fun e=>absurd e hne) id) (by omega)
  have e1:(stepAd w).val=some (.normal,{w with doing:=2,call:=((mkJob v.sort.toNat o).next w.rite.reply).1,rite:=beginM w.rite ((mkJob v.sort.toNat o).next w.rite.reply).1,job:=some ((mkJob v.sort.toNat o).next w.rite.reply).2}):=by
   unfold stepAd adRound
   rw [wd,show busyM w.rite=false by unfold busyM;rw [hs];rfl,wj]
   refine(nv (JobM.ok_of jw)).trans ?_
   unfold adCall
   rw [show (((mkJob v.sort.toNat o).next w.rite.reply).1.kind != 12)=true by simpa using hne]
   exact nv ob2
  have e2:advI w=some (.exit 0,{w with doing:=2,call:=((mkJob v.sort.toNat o).next w.rite.reply).1,rite:=beginM w.rite ((mkJob v.sort.toNat o).next w.rite.reply).1,job:=some ((mkJob v.sort.toNat o).next w.rite.reply).2}):=by
   show iter stepAd 16 w=_
   rw [iter,e1]
   show iter stepAd 15 _=_
   rw [iter,stepAd_exit (show (2:Int)≠0 by decide) (begin_busy hcl hni)]
  unfold advM
  rw [e2]
  show (2:Int)≠0;decide
 ·rw [adv_exit (by rw [wd];decide) hs,wd];decide
theorem len_ros:∀ts:List RosM,(rosG ts).length=4 * ts.length
 | []=>rfl
 | r::ts=>by show (rosG ts).length+4=_;rw [len_ros ts,List.length_cons];omega
theorem av_ros (ts:List RosM):AV.len (rosV ts)=ts.length:=by
 show (rosG ts).length / 4=_
 rw [len_ros];omega
theorem lqB_of:∀{l:List (Nat×List O)},(∀x∈l,x.1=x.2.length)->lqB l=true
 | [],_=>rfl
 | x::l,h=>by
   show (match decide (x.1=AV.len (.ops x.2)) with | true=>lqB l | false=>false)=true
   rw [decide_eq_true (show x.1=AV.len (.ops x.2) from h x List.mem_cons_self)]
   exact lqB_of fun y hy=>h y (List.mem_cons_of_mem _ hy)
theorem hdr_mem {ts:List RosM} {x:Nat×List O} (h:x∈hdrT ts):x.1=x.2.length:=by
 obtain⟨r,_,rfl⟩:=List.mem_map.1 h
 rfl
theorem lpB_of {n0 nb:Nat} {ts:List RosM} {bs:List Bt} (h1:n0=ts.length) (h2:nb=bs.length):lpB n0 ts nb bs=true:=by
 unfold lpB
 rw [decide_eq_true (show n0=AV.len (rosV ts) by rw [av_ros];exact h1),decide_eq_true (show nb=AV.len (.beats bs) from h2)]
theorem size_ok {n:Nat} {c:Nat} (h:n<=100000) (hc:100001 * (c+1)<=lim):(n+1) * (c+1)<=lim:=Nat.le_trans (Nat.mul_le_mul_right _ (by omega)) hc
def idleT (t:RosM):Bool:=!busyV t.ver&&t.queue.isEmpty
theorem fn0_b {m:ParM} {b:Bool}:fn0 bN m b=b:=by
 unfold fn0 fnP
 rw [lqB_of fun x hx=>hdr_mem hx,lpB_of (nb:=AV.len (.beats m.beats)) (av_ros m.threads) rfl];rfl
theorem queue_wf {n K:Nat} (hK:K+1<=100000) {m:ParM} (h:m.WF n K) {k:Nat} (hk:k < m.threads.length) (o:O) (hq:∀r∈m.threads,r.queue.length+1<=100000):okQu m k o=true /\ (queueM m k o).2.WF n K /\
 queueM m k o=if fitsB m.sort o=true /\ (m.threads.getD k rosD).given < 64 then(0,{m with threads:=m.threads.set k {m.threads.getD k rosD with queue:=(m.threads.getD k rosD).queue++[o],given:=wrap1 (m.threads.getD k rosD).given}}) else(if fitsB m.sort o=true then ErF+1 else ErA+1,m):=by
 have hmem:m.threads.getD k rosD∈m.threads:=getD_mem hk
 have e:queueM m k o=if fitsB m.sort o=true /\ (m.threads.getD k rosD).given < 64 then(0,{m with threads:=m.threads.set k {m.threads.getD k rosD with queue:=(m.threads.getD k rosD).queue++[o],given:=wrap1 (m.threads.getD k rosD).given}}) else(if fitsB m.sort o=true then ErF+1 else ErA+1,m):=by
  unfold queueM queueF quF
  show cond true (cond (!fitsB m.sort o) _ (cond (decide ((m.threads.getD k rosD).given>=64)) _ _)) _=_
  cases hf:fitsB m.sort o with
  | false=>rw [if_neg (fun e=>by cases e.1),if_neg (by decide)];rfl
  | true =>
    by_cases hg:(m.threads.getD k rosD).given < 64
    ·rw [if_pos ⟨rfl,hg⟩,decide_eq_false (by omega)];rfl
    ·rw [if_neg (fun e=>hg e.2),if_pos rfl,decide_eq_true (by omega)];rfl
 refine⟨?_,?_,e⟩
 ·unfold okQu okQuF quF
  rw [fn0_b]
  have hl:(m.threads.getD k rosD).queue.length+1<=100000:=hq _ hmem
  have s1:decide (AV.len (.ops (m.threads.getD k rosD).queue)=AV.len (.ops (m.threads.getD k rosD).queue) /\ (AV.len (.ops (m.threads.getD k rosD).queue)+1) * (SI.bytes si23+1)<=lim)=true:=decide_eq_true ⟨rfl,size_ok (show (m.threads.getD k rosD).queue.length<=100000 by omega) (by decide)⟩
  have s2:fnP bN ((hdrT m.threads).set k (AV.len (.ops (m.threads.getD k rosD).queue)+1,(m.threads.getD k rosD).queue++[o])) (AV.len (rosV m.threads)) (AV.len (.beats m.beats)) {m with threads:=m.threads.set k {m.threads.getD k rosD with queue:=(m.threads.getD k rosD).queue++[o],given:=wrap1 (m.threads.getD k rosD).given}} true=true:=by
   unfold fnP
   rw [lqB_of fun x hx=>?_,lpB_of (nb:=AV.len (.beats m.beats)) ?_ rfl];rfl
   ·rw [av_ros];exact(List.length_set ..).symm
   ·rcases mem_set hx with hx | rfl
    ·exact hdr_mem hx
    ·show (m.threads.getD k rosD).queue.length+1=_
     rw [List.length_append];rfl
  show cond true (cond _ true (bN true (cond _ true (bN _ (fnP bN _ _ _ _ true))))) true=true
  rw [s1,s2]
  show cond true (cond (!fitsB m.sort o) true (bN true (cond (decide ((m.threads.getD k rosD).given>=64)) true (bN true true)))) true=true
  cases fitsB m.sort o<;>cases decide ((m.threads.getD k rosD).given>=64)<;>rfl
 ·rw [e]
  split
  ·rename_i hc
   refine⟨h.so,?_,h.plot,h.hd,fun r hr=>?_,fun r hr=>?_,fun r hr=>?_,fun r hr=>?_,h.bl⟩
   ·show 1<=(m.threads.set k _).length /\ (m.threads.set k _).length<=6
    rw [List.length_set];exact h.th
   ·rcases mem_set hr with hr | rfl
    ·exact h.ver r hr
    ·exact h.ver (m.threads.getD k rosD) hmem
   ·rcases mem_set hr with hr | rfl
    ·exact h.qu r hr
    ·intro q hq2
     rcases List.mem_append.1 hq2 with hq2 | hq2
     ·exact h.qu (m.threads.getD k rosD) hmem q hq2
     ·simp only [List.mem_cons,List.not_mem_nil,or_false] at hq2
      rw [hq2];exact hc.1
   ·rcases mem_set hr with hr | rfl
    ·exact h.ql r hr
    ·show ((m.threads.getD k rosD).queue++[o]).length<=100000
     rw [List.length_append]
     exact hq _ hmem
   ·rcases mem_set hr with hr | rfl
    ·exact h.la r hr
    ·exact h.la (m.threads.getD k rosD) hmem
  ·exact h
end Go.Proofs.YtcpdipfepeccgaaGreatDoor

namespace Go.Proofs.YtcpdipfepeccgaaGreatDoor
open Go Go.Sx Go.Proofs
set_option maxRecDepth 100000
set_option maxHeartbeats 4000000
theorem andB_snd {a b:Bool} (h:andB a b=true):b=true:=by cases a with | true=>exact h | false=>cases h
noncomputable def beatP (m:ParM) (k:Nat) (v:VerM) (bg:Bool) (o:O):Bt :=
 ⟨(k:Int),bg,o.kind,o.key,o.val,o.tall,(stepM v m.plot).1.real==0,(stepM v m.plot).1.over,(stepM v m.plot).1.code,(stepM v m.plot).1.val⟩
noncomputable def oldB (m:ParM) (v:VerM) (l:Int):List Bt:=cond (andB ((stepM v m.plot).1.real==1) (decide (l>=0))) (m.beats.set (0+l.toNat) {m.beats.getD (0+l.toNat) kbeats.dflt with real:=true}) m.beats
noncomputable def stepP (m:ParM) (k:Nat) (v:VerM) (q:List O) (bg:Bool) (o:O) (g l:Int):ParM :=
 {m with plot:=(stepM v m.plot).2.2,threads:=m.threads.set k ⟨(stepM v m.plot).2.1,q,g,(m.beats.length:Int)⟩,beats:=oldB m v l++[beatP m k v bg o]}
theorem oldB_len (m:ParM) (v:VerM) (l:Int):(oldB m v l).length=m.beats.length:=by
 unfold oldB
 cases andB ((stepM v m.plot).1.real==1) (decide (l>=0)) with
 | true=>exact List.length_set ..
 | false=>rfl
theorem pkStep_eq {β:Type} {N:Bool->β->β} (hN:∀t,N true t=t) (E:Nat->ParM->β) (L:Bt->ParM->β) {n K J:Nat} (hK:K<=100000) (hJ:J+17<=100000) {m:ParM} (h:m.WF n K) {k:Nat} (hk:k < m.threads.length) {v:VerM} (hv:v.WF n J) (hr:v.rest) (hb:v.doing≠0) (hs:v.sort=m.sort)
 (q:List O) {hq:List (Nat×List O)} (hl:lqB hq=true) (bg:Bool) (o:O) (g:Int) {l:Int} (hl2:l < (m.beats.length:Int)) :
 pkStep cond N E L pkM k m v q hq bg o g l=L (beatP m k v bg o) (stepP m k v q bg o g l):=by
 obtain⟨s1,s2,_⟩:=stp_wf hJ hv hr hb h.plot (by rw [hs];exact h.hd)
 have hfn:∀t:β,fnP N hq (AV.len (rosV m.threads)) (AV.len (.beats m.beats)+1) (stepP m k v q bg o g l) t=t:=fun t=>by
  unfold fnP
  rw [hl,lpB_of (nb:=AV.len (.beats m.beats)+1) ((av_ros m.threads).trans ?_) ?_,hN,hN]
  ·exact(List.length_set ..).symm
  ·show m.beats.length+1=(oldB m v l++[beatP m k v bg o]).length
   rw [List.length_append,oldB_len];rfl
 have hg:decide (AV.len (.beats m.beats)=AV.len (.beats (oldB m v l)) /\ (AV.len (.beats m.beats)+1) * (SI.bytes si41+1)<=lim)=true :=
  decide_eq_true ⟨(oldB_len m v l).symm,size_ok (show m.beats.length<=100000 from Nat.le_trans h.bl hK) (by decide)⟩
 show cond (!busyV v) _ (N (decide m.plot.Ok) (cond (decide (m.plot.valid (nextM v.rite).1)) (N (decC (okStp v m.plot)) (cond (andB ((stepM v m.plot).1.real==1) (decide (l>=0)))
  (N (decide (0<=l /\ l < ((AV.len (.beats m.beats):Nat):Int))) (N (decide (0+l.toNat < m.beats.length)) (N (decide (AV.len (.beats m.beats)=AV.len (.beats (m.beats.set (0+l.toNat) {m.beats.getD (0+l.toNat) kbeats.dflt with real:=true})) /\ (AV.len (.beats m.beats)+1) * (SI.bytes si41+1)<=lim)) (fnP N hq (AV.len (rosV m.threads)) (AV.len (.beats m.beats)+1) _ (L _ _)))))
  (N (decide (AV.len (.beats m.beats)=AV.len (.beats m.beats) /\ (AV.len (.beats m.beats)+1) * (SI.bytes si41+1)<=lim)) (fnP N hq (AV.len (rosV m.threads)) (AV.len (.beats m.beats)+1) _ (L _ _))))) _))=_
 rw [show busyV v=true by unfold busyV;simpa using hb,decide_eq_true h.plot.ok,decide_eq_true s2,decC_t s1,hN,hN]
 show cond _ _ _=_
 cases hc:andB ((stepM v m.plot).1.real==1) (decide (l>=0)) with
 | true =>
   have hl0:0<=l:=of_decide_eq_true (andB_snd hc)
   have eo:oldB m v l=m.beats.set (0+l.toNat) {m.beats.getD (0+l.toNat) kbeats.dflt with real:=true}:=by unfold oldB;rw [hc];rfl
   rw [eo] at hg
   rw [decide_eq_true (⟨hl0,hl2⟩:0<=l /\ l < ((AV.len (.beats m.beats):Nat):Int)),decide_eq_true (show 0+l.toNat < m.beats.length by omega),hg]
   show N true (N true (N true _))=_
   rw [hN,hN,hN]
   refine Eq.trans ?_ (hfn _)
   unfold stepP
   rw [eo];rfl
 | false =>
   have eo:oldB m v l=m.beats:=by unfold oldB;rw [hc];rfl
   rw [eo] at hg
   rw [hg]
   show N true _=_
   rw [hN]
   refine Eq.trans ?_ (hfn _)
   unfold stepP
   rw [eo];rfl
theorem ParM.WF.mono {n K K':Nat} {m:ParM} (h:m.WF n K) (hk:K<=K'):m.WF n K':=⟨h.so,h.th,h.plot,h.hd,fun r hr=>⟨(h.ver r hr).1.mono hk,(h.ver r hr).2⟩,h.qu,h.ql,h.la,Nat.le_trans h.bl hk⟩
theorem stepP_wf {n K J K':Nat} (hJ:J+17<=100000) {m:ParM} (h:m.WF n K) (hK':K+1<=K') (hJK:J+17<=K') {k:Nat} (hk:k < m.threads.length) {v:VerM} (hv:v.WF n J) (hr:v.rest) (hb:v.doing≠0) (hs:v.sort=m.sort)
 {q:List O} (hq:∀o∈q,fitsB m.sort o=true) (hql:q.length<=100000) (bg:Bool) (o:O) (g:Int) {l:Int}:(stepP m k v q bg o g l).WF n K':=by
 obtain⟨s1,s2,s3,s4,s5,s6,s7⟩:=stp_wf hJ hv hr hb h.plot (by rw [hs];exact h.hd)
 have hlen:(oldB m v l++[beatP m k v bg o]).length=m.beats.length+1:=by rw [List.length_append,oldB_len];rfl
 refine⟨h.so,?_,s6,by rw [hs] at s7;exact s7,fun r hr=>?_,fun r hr=>?_,fun r hr=>?_,fun r hr=>?_,?_⟩
 ·show 1<=(m.threads.set k _).length /\ (m.threads.set k _).length<=6
  rw [List.length_set];exact h.th
 ·rcases mem_set hr with hr | rfl
  ·obtain⟨a,b⟩:=h.ver r hr
   exact⟨a.mono (by omega),b⟩
  ·exact⟨s3.mono hJK,s4,s5.trans hs⟩
 ·rcases mem_set hr with hr | rfl
  ·exact h.qu r hr
  ·exact hq
 ·rcases mem_set hr with hr | rfl
  ·exact h.ql r hr
  ·exact hql
 ·show r.last < (((oldB m v l++[beatP m k v bg o]).length:Nat):Int)
  rw [hlen]
  rcases mem_set hr with hr | rfl
  ·have:=h.la r hr;omega
  ·show (m.beats.length:Int) < _;omega
 ·show (oldB m v l++[beatP m k v bg o]).length<=K'
  rw [hlen];have:=h.bl;omega
noncomputable def pickV (t:RosM):VerM:=cond (!busyV t.ver) (giveM t.ver (t.queue.getD 0 kops.dflt)) t.ver
def pickQ (t:RosM):List O:=cond (!busyV t.ver) (t.queue.drop 1) t.queue
def pickO (t:RosM):O:=cond (!busyV t.ver) (t.queue.getD 0 kops.dflt) ⟨0,0,0,0⟩
noncomputable def pickBt (m:ParM) (k:Nat):Bt:=beatP m k (pickV (m.threads.getD k rosD)) (!busyV (m.threads.getD k rosD).ver) (pickO (m.threads.getD k rosD))
noncomputable def pickPar (m:ParM) (k:Nat):ParM:=stepP m k (pickV (m.threads.getD k rosD)) (pickQ (m.threads.getD k rosD)) (!busyV (m.threads.getD k rosD).ver) (pickO (m.threads.getD k rosD)) (m.threads.getD k rosD).given (m.threads.getD k rosD).last
theorem pickV_wf {n K:Nat} (hK:K+17<=100000) {m:ParM} (h:m.WF n K) {t:RosM} (ht:t∈m.threads) (hi:idleT t=false):(pickV t).WF n (K+17) /\ (pickV t).rest /\ (pickV t).doing≠0 /\ (pickV t).sort=m.sort /\ (busyV t.ver=false->okGiv t.ver (t.queue.getD 0 kops.dflt) /\ fitsB t.ver.sort (t.queue.getD 0 kops.dflt)=true /\ 0 < t.queue.length):=by
 obtain⟨hv,hr,hs⟩:=h.ver t ht
 unfold pickV
 cases hb:busyV t.ver with
 | true=>exact⟨hv.mono (by omega),hr,by unfold busyV at hb;simpa using hb,hs,fun e=>by cases e⟩
 | false =>
   have hb0:t.ver.doing=0:=by unfold busyV at hb;simpa using hb
   have hq:0 < t.queue.length:=by
    unfold idleT at hi
    rw [hb] at hi
    cases e:t.queue with
    | nil=>rw [e] at hi;cases hi
    | cons o q=>exact Nat.succ_pos _
   have hf:fitsB t.ver.sort (t.queue.getD 0 kops.dflt)=true:=by rw [hs];exact h.qu t ht _ (getD_mem hq)
   obtain⟨g1,g2,g3,g4⟩:=give_wf (by omega) hK hv hb0 hf
   exact⟨g2,g3,give_busy (by omega) hK hv hb0 hf,g4.trans hs,fun _=>⟨g1,hf,hq⟩⟩
theorem pickPar_wf {n K:Nat} (hK:K+34<=100000) {m:ParM} (h:m.WF n K) {k:Nat} (hk:k < m.threads.length) (hi:idleT (m.threads.getD k rosD)=false):(pickPar m k).WF n (K+34):=by
 have hm:=getD_mem (d:=rosD) hk
 obtain⟨a,b,c,d,_⟩:=pickV_wf (by omega) h hm hi
 refine stepP_wf (J:=K+17) (by omega) h (by omega) (by omega) hk a b c d (fun o ho=>?_) ?_ _ _ _
 ·unfold pickQ at ho
  cases hb:busyV (m.threads.getD k rosD).ver<;>rw [hb] at ho
  ·exact h.qu _ hm o (List.mem_of_mem_drop ho)
  ·exact h.qu _ hm o ho
 ·unfold pickQ
  cases hb:busyV (m.threads.getD k rosD).ver
  ·show ((m.threads.getD k rosD).queue.drop 1).length<=_
   rw [List.length_drop];have:=h.ql _ hm;omega
  ·exact h.ql _ hm
theorem pkF_eq {β:Type} {N:Bool->β->β} (hN:∀t,N true t=t) (E:Nat->ParM->β) (L:Bt->ParM->β) {n K:Nat} (hK:K+34<=100000) {m:ParM} (h:m.WF n K) {k:Nat} (hk:k < m.threads.length) :
 pkF cond N E L pkM k m=cond (idleT (m.threads.getD k rosD)) (E ErS m) (L (pickBt m k) (pickPar m k)):=by
 have hm:=getD_mem (d:=rosD) hk
 have hf0:∀t:β,fn0 N m t=t:=fun t=>by
  unfold fn0 fnP
  rw [lqB_of fun x hx=>hdr_mem hx,lpB_of (nb:=AV.len (.beats m.beats)) (av_ros m.threads) rfl,hN,hN]
 obtain⟨hv,hr,hs⟩:=h.ver _ hm
 have hl:=h.la _ hm
 unfold pkF
 dsimp only
 cases hb:busyV (m.threads.getD k rosD).ver with
 | true =>
   have hi:idleT (m.threads.getD k rosD)=false:=by unfold idleT;rw [hb];rfl
   rw [hi]
   show N true (N true _)=_
   rw [hN,hN]
   refine(pkStep_eq hN E L (J:=K) (by omega) (by omega) h hk hv hr (by unfold busyV at hb;simpa using hb) hs _ (lqB_of fun x hx=>hdr_mem hx) false ⟨0,0,0,0⟩ _ hl).trans ?_
   unfold pickBt pickPar pickV pickQ pickO
   rw [hb];rfl
 | false =>
   cases hi:idleT (m.threads.getD k rosD) with
   | true =>
     have hq:(m.threads.getD k rosD).queue.length=0:=by
      unfold idleT at hi
      rw [hb] at hi
      cases e:(m.threads.getD k rosD).queue with
      | nil=>rfl
      | cons o q=>rw [e] at hi;cases hi
     show N true (N true (cond ((((m.threads.getD k rosD).queue.length:Nat):Int)==0) _ _))=_
     rw [hq,hN,hN]
     exact hf0 _
   | false =>
     obtain⟨a,b,c,d,hx⟩:=pickV_wf (by omega) h hm hi
     obtain⟨g1,g2,g3⟩:=hx hb
     have ev:pickV (m.threads.getD k rosD)=giveM (m.threads.getD k rosD).ver ((m.threads.getD k rosD).queue.getD 0 kops.dflt):=by unfold pickV;rw [hb];rfl
     rw [ev] at a b c d
     show N true (N true (cond ((((m.threads.getD k rosD).queue.length:Nat):Int)==0) _ _))=_
     rw [hN,hN,show ((((m.threads.getD k rosD).queue.length:Nat):Int)==0)=false from by simpa using (by omega:¬(m.threads.getD k rosD).queue.length=0)]
     show N true (N (decide ((0:Int)<=0 /\ (0:Int) < (((m.threads.getD k rosD).queue.length:Nat):Int))) (N (decide (0 < (m.threads.getD k rosD).queue.length)) (N (decC (okKj (m.threads.getD k rosD).ver)) (cond (!fitsB _ _) _ (N (decC (okGiv _ _)) (N (decide ((0:Int)<=1 /\ (1:Int)<=(((m.threads.getD k rosD).queue.length:Nat):Int) /\ (((m.threads.getD k rosD).queue.length:Nat):Int)<=(((m.threads.getD k rosD).queue.length:Nat):Int) /\ (m.threads.getD k rosD).queue.length=(m.threads.getD k rosD).queue.length)) (pkStep cond N E L pkM k m (giveM _ _) (((m.threads.getD k rosD).queue.take (m.threads.getD k rosD).queue.length).drop 1) ((hdrT m.threads).set k ((m.threads.getD k rosD).queue.length - 1,(((m.threads.getD k rosD).queue.take (m.threads.getD k rosD).queue.length).drop 1))) true _ _ _)))))))=_
     rw [decide_eq_true (show (0:Int)<=0 /\ (0:Int) < (((m.threads.getD k rosD).queue.length:Nat):Int) by omega),decide_eq_true g3,decC_t hv.kj,g2,decC_t g1,decide_eq_true (show (0:Int)<=1 /\ (1:Int)<=(((m.threads.getD k rosD).queue.length:Nat):Int) /\ (((m.threads.getD k rosD).queue.length:Nat):Int)<=(((m.threads.getD k rosD).queue.length:Nat):Int) /\ (m.threads.getD k rosD).queue.length=(m.threads.getD k rosD).queue.length by omega),List.take_length]
     show N true (N true (N true (N true (N true (N true _)))))=_
     rw [hN,hN,hN,hN,hN,hN]
     refine(pkStep_eq hN E L (J:=K+17) (by omega) (by omega) h hk a b c d _ (lqB_of fun x hx=>?_) true _ _ hl).trans ?_
     ·rcases mem_set hx with hx | rfl
      ·exact hdr_mem hx
      ·show (m.threads.getD k rosD).queue.length - 1=_
       rw [List.length_drop]
     ·unfold pickBt pickPar pickV pickQ pickO
      rw [hb];rfl
theorem pick_wf {n K:Nat} (hK:K+34<=100000) {m:ParM} (h:m.WF n K) {k:Nat} (hk:k < m.threads.length) :
 okPk m k=true /\ pickM m k=cond (idleT (m.threads.getD k rosD)) ((ErS+1,btD),m) ((0,pickBt m k),pickPar m k) /\ (pickM m k).2.WF n (K+34):=by
 have e:pickM m k=cond (idleT (m.threads.getD k rosD)) ((ErS+1,btD),m) ((0,pickBt m k),pickPar m k):=pkF_eq (N:=cN) (fun _=>rfl) (fun i m=>((i+1,btD),m)) (fun b m=>((0,b),m)) hK h hk
 refine⟨?_,e,?_⟩
 ·refine(pkF_eq (N:=bN) (fun t=>Bool.true_and t) (fun _ _=>true) (fun _ _=>true) hK h hk).trans ?_
  cases idleT (m.threads.getD k rosD)<;>rfl
 ·rw [e]
  cases hi:idleT (m.threads.getD k rosD) with
  | true=>exact h.mono (by omega)
  | false=>exact pickPar_wf hK h hk hi
end Go.Proofs.YtcpdipfepeccgaaGreatDoor

namespace Go.Proofs.YtcpdipfepeccgaaGreatDoor
open Go Go.Sx Go.Proofs
set_option maxRecDepth 100000
set_option maxHeartbeats 0
variable {σ:Sg}
noncomputable def openS (σ:Sg) (tab:Tab) (f:FuncId) (args:List SV) (H:Hp AV):T (SV×Hp AV):=match args with
 | [.v (.c (.ptr n 0))]=>match openAt σ n H with
   | some HB=>match Q.clVs HB args,Q.clHs HB HB with
     | true,true=>(Q.lv (NV σ) tab 24 (.fn f) args HB).bind fun r=>match shapeB H r.2 with
       | true=>.leaf r
       | false=>.fail "open"
     | _,_=>.fail "open"
   | none=>.fail "open"
 | _=>.fail "open"
theorem openS_ok {tab:Tab} (ht:TabOk Tryz.prog (NV σ) tab) (f:FuncId):FnOk Tryz.prog (NV σ) f (openS σ tab f):=fun args H v H' h hargs hcl=>by
 unfold openS at h
 split at h
 ·rename_i n
  split at h
  ·rename_i HB hB
   split at h
   ·rename_i h1 h2
    rw [Q.clVs_eq] at h1
    rw [Q.clHs_eq] at h2
    rw [Q.lv_eq] at h
    obtain⟨⟨v1,H2⟩,hr,hc⟩:=T.bind_some h
    split at hc
    ·rename_i hs
     simp only [T.val,Option.some.injEq,Prod.mk.injEq] at hc
     obtain⟨rfl,rfl⟩:=hc
     obtain⟨s1,s2,s3⟩:=shapeB_spec hs
     obtain⟨oB,lB,pB⟩:=openAt_ok (N:=NV σ) rfl rfl hB
     have hctr:=(fnVl lps0 (tabL ht) 24 f).ctr (by exact hr) (clVs_iff.1 h1) ⟨clHs_iff.1 h2,trivial⟩
     exact ctr_via oB pB (ctr_nv hctr) (Fld.refl _) hargs hctr.1 hctr.2.1 s2 s3 s1
    ·simp [T.val] at hc
   ·simp [T.val] at h
  ·simp [T.val] at h
 ·simp [T.val] at h
noncomputable def tabCl:Tab:=tabAdd 24 (sumG isS noM (cloneS okBt 10)) tab0
theorem tabCl_ok:TabOk Tryz.prog (NV σ) tabCl:=tabAdd_ok cloneBt_ok tab0_ok
def bornC (x:Cfg):Cfg:=⟨1+Int.tmod (IntKind.wrap .u64 x.s) 5,1+Int.tmod (IntKind.wrap .u64 x.e) 5,1+Int.tmod (IntKind.wrap .u64 x.n) 6,1+Int.tmod (IntKind.wrap .u64 x.sl) 90,1+Int.tmod (IntKind.wrap .u64 x.no) 9⟩
noncomputable def mBo:List Bool:=mkM 6
def bornG (ok:Cfg->Bool) (mk:Cfg->ParM) (args:List SV) (l:List AV):T (SV×List AV×List AV):=match l with
 | []=>match aCfg.dec args with
   | some x=>.need (ok (bornC x)) (.leaf (.v (.c (.ptr 8 0)),[],[.par (mk (bornC x))]))
   | none=>.fail "born"
 | _=>.fail "born"
noncomputable def tabBo (σ:Sg) (ok:Cfg->Bool) (mk:Cfg->ParM):Tab:=tabAdd 14 (sumG isS mNw (newE aCfg oPar (fun c=>some (ok c)) mk)) tab0
theorem bornR (σ:Sg) (ok:Cfg->Bool) (mk:Cfg->ParM) (s e n sl no:Int):runN σ (tabBo σ ok mk) 6 mBo [.v (.agg [.it .i64 s,.it .i64 e,.it .i64 n,.it .i64 sl,.it .i64 no])] [] =
 .need (ok (bornC ⟨s,e,n,sl,no⟩)) (.leaf (.v (.c (.ptr 8 0)),[],[.par (mk (bornC ⟨s,e,n,sl,no⟩))])):=by kernel_rfl
noncomputable def okNw (c:Cfg):Bool:=decC (okCfg c /\ okNew c=true)
theorem born_ok:FnOk Tryz.prog (NV σ) 6 (sumG isS mBo (bornG okNw newPar)):=by
 refine sumG_ok isS_ok (mkM_len _) fun args l v l' nw h hl hargs=>?_
 unfold bornG at h
 split at h
 ·split at h
  ·rename_i c hc
   have h1:(runN σ (tabBo σ okNw newPar) 6 mBo (aCfg.enc c) []).val=some (v,l',nw):=(congrArg T.val (bornR σ okNw newPar c.s c.e c.n c.sl c.no)).trans h
   obtain⟨_,h2⟩:=need_some h
   simp only [T.val,Option.some.injEq,Prod.mk.injEq] at h2
   obtain⟨rfl,rfl,rfl⟩:=h2
   have hc2:=(runN_ok (tabAdd_ok newPar_ok tab0_ok) (M:=mBo) (mkM_len _) (svsFree_cl (aCfg.free c)) h1).1
   exact ctr_args hc2 fun ρ=>(aCfg.ok _ _ hc ρ).symm
  ·simp [T.val] at h
 ·simp [T.val] at h
def stepsS (args:List SV) (l:List AV):T (SV×List AV×List AV):=match args,l with
 | [.v (.c (.ptr 8 0))],[.plot p]=>.leaf (.v (.c (.it .i64 p.steps)),[.plot p],[])
 | _,_=>.fail "Steps"
theorem stepsR0 (σ:Sg) (b:List W) (sl:List Sl) (fr:List N1) (st md:Int):runO σ tab0 12 noM [.v (.c (.ptr 8 0))] [.plot ⟨b,sl,fr,st,md,none⟩] (layP σ ⟨b,sl,fr,st,md,none⟩) =
 .need (decide (b.length=b.length)) (.need (decide (sl.length=sl.length)) (.need (decide (fr.length=fr.length)) (.need true (.leaf (.v (.c (.it .i64 st)),[.plot ⟨b,sl,fr,st,md,none⟩],[]))))):=by kernel_rfl
theorem stepsR1 (σ:Sg) (b:List W) (sl:List Sl) (fr:List N1) (st md:Int) (fk:Int) (fi:Nat):runO σ tab0 12 noM [.v (.c (.ptr 8 0))] [.plot ⟨b,sl,fr,st,md,some (fk,fi)⟩] (layP σ ⟨b,sl,fr,st,md,some (fk,fi)⟩) =
 .need (decide (b.length=b.length)) (.need (decide (sl.length=sl.length)) (.need (decide (fr.length=fr.length)) (.need (decide (σ fi=σ fi)) (.leaf (.v (.c (.it .i64 st)),[.plot ⟨b,sl,fr,st,md,some (fk,fi)⟩],[]))))):=by kernel_rfl
theorem steps_val (σ:Sg) (p:PlotM):(runO σ tab0 12 noM [.v (.c (.ptr 8 0))] [.plot p] (layP σ p)).val=some (.v (.c (.it .i64 p.steps)),[.plot p],[]):=by
 obtain⟨b,sl,fr,st,md,fa⟩:=p
 cases fa with
 | none=>rw [stepsR0];exact(nv (decide_eq_true rfl)).trans ((nv (decide_eq_true rfl)).trans ((nv (decide_eq_true rfl)).trans rfl))
 | some f =>
   obtain⟨fk,fi⟩:=f
   rw [stepsR1];exact(nv (decide_eq_true rfl)).trans ((nv (decide_eq_true rfl)).trans ((nv (decide_eq_true rfl)).trans (nv (decide_eq_true rfl))))
theorem steps_ok:FnOk Tryz.prog (NV σ) 12 (sumG isS noM stepsS):=by
 refine sumG_ok isS_ok rfl fun args l v l' nw h hl hargs=>?_
 unfold stepsS at h
 split at h
 ·rename_i p
  have h2:=(steps_val σ p).trans h
  exact(runO_ok tab0_ok (σ:=σ) (M:=noM) rfl (a:=.plot p) (l:=[]) (K:=layP σ p) rfl ⟨_,rfl⟩ rfl hargs h2).1
 ·simp [T.val] at h
structure RfF where
 okn:Cfg->Bool
 nw:Cfg->ParM
 okq:ParM->Nat->O->Bool
 qu:ParM->Nat->O->Nat×ParM
 okp:ParM->Nat->Bool
 pk:ParM->Nat->(Nat×Bt)×ParM
noncomputable def tabRf (σ:Sg) (F:RfF):Tab :=
 tabAdd 5 (sumG isS mAw treeT)
 (tabAdd 6 (sumG isS mBo (bornG F.okn F.nw))
 (tabAdd 7 (sumG isS mQu (queueG σ F.okq F.qu))
 (tabAdd 8 (sumG isS mPk (pickG σ F.okp F.pk))
 (tabAdd 10 (openS σ tabCl 10)
 (tabAdd 12 (sumG isS noM stepsS) tabE)))))
noncomputable def rfM:RfF:=⟨okNw,newPar,okQu,queueM,okPk,pickM⟩
theorem tabRf_ok:TabOk Tryz.prog (NV σ) (tabRf σ rfM) :=
 tabAdd_ok awake_ok (tabAdd_ok born_ok (tabAdd_ok queue_ok (tabAdd_ok pick_ok (tabAdd_ok (openS_ok tabCl_ok _) (tabAdd_ok steps_ok tabE_ok)))))
end Go.Proofs.YtcpdipfepeccgaaGreatDoor
