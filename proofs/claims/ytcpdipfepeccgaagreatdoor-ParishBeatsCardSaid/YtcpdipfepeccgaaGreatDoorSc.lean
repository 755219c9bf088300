import Derived.Test.YtcpdipfepeccgaaGreatDoorRd
import Derived.Shelf.SlGeneric
import Derived.Ground.SlgnProg
import Derived.Shelf.SlicesE.Clone
import Derived.Test.YtcpdipfepeccgaaGreatDoorQw
set_option linter.unusedVariables false
set_option linter.unusedSimpArgs false
set_option maxHeartbeats 4000000
namespace Go.Proofs
open Go Go.Sx Go.Proofs
open Go.Shelf in
def Tryz.cloneBt_ren:Go.Shelf.Ren:=⟨fun | 41=>24 | n=>n,fun | 22=>41 | 23=>37 | 4=>4 | n=>n,fun | n=>n⟩
theorem Tryz.cloneBt:Go.Proofs.SlLaysE0.n41 Tryz.prog Tryz.cloneBt_ren:={
 mixed:=by kernel_rfl
 f41:=⟨Tryz.f24.name,by decide,Tryz.func24.trans (congrArg some (by kernel_rfl))⟩
 t4:=Tryz.underlying4
 a4:=Tryz.isAgg4
 z4:=Tryz.sizeOf4
 v4:=Tryz.zeroValue4
 t22:=Tryz.underlying41
 a22:=Tryz.isAgg41
 z22:=Tryz.sizeOf41
 v22:=Tryz.zeroValue41}
end Go.Proofs
namespace Go.Proofs.YtcpdipfepeccgaaGreatDoor
open Go Go.Sx Go.Proofs Go.RowKit
theorem I0 (M:List Bool) (l:List AV) (j:Nat) (a:AV) (h:l[j]?=some a):hget (hpO M l) (M.length+j)=some (.abs a):=by
 unfold hpO
 rw [ax,cC,if_neg (by omega),show M.length+j - M.length=j by omega]
 exact(aW _ _ _).2 ⟨a,h,rfl⟩
def CL (f:FuncId) (es:Nat) (ty:TypeId):Prop :=
 (∀(n c:Nat) (w:World),Calls Tryz.prog f #[.slice none n c] w fun e w'=>e=.returned (.slice none 0 0) /\ w'=w) /\
 ∀(b off n c:Nat) (news:List Value) (w:World),news.length=n * es->n<=1000000->(∀j u,news[j]?=some u->w.cell? ⟨b,off+j,none⟩=some u)->(∀u∈news,u.oneCell'=true) ->
   Calls Tryz.prog f #[.slice (some ⟨b,off,none⟩) n c] w fun e w'=>∃v',e=.returned v' /\ w'.ownsRow w.heap.size ty es v' n news /\ v'≠.slice none 0 0 /\ Below w.heap.size w w'
def yF (ok:AV->Bool) (es:Nat) (args:List SV) (l:List AV):T (SV×List AV×List AV):=match args,l with
 | [.v (.c (.vs n 0 len e false))],[a]=>match Nat.beq n 8,Nat.beq e es,ok a with
   | true,true,true=>.need (decide (len=a.len /\ len<=1000000)) (.leaf (.v (.c (.vs (8+1) 0 len es false)),[a],[a]))
   | _,_,_=>.fail "copy"
 | _,_=>.fail "copy"
theorem Fw {σ:Sg} {f:FuncId} {es:Nat} {ty:TypeId} (hc:CL f es ty) {ok:AV->Bool} (hok:∀a,ok a=true->∃vs,a.arr=some (es,ty,vs)):FnOk Tryz.prog (NV σ) f (aL isS noM (yF ok es)):=by
 refine b9 bk rfl fun args l v l' nw h hl hargs=>?_
 unfold yF at h
 split at h
 ·rename_i n len e a
  split at h
  ·rename_i h1 h2 h3
   have hn:=(af _ _).1 h1
   have he:=(af _ _).1 h2
   subst hn he
   replace h:=ah h
   obtain⟨hb,h⟩:=h
   have hb:=of_decide_eq_true hb
   simp only [T.val,Option.some.injEq,Prod.mk.injEq] at h
   obtain⟨rfl,rfl,rfl⟩:=h
   obtain⟨vs,harr⟩:=hok a h3
   have hF:(NV σ).F.arr a=some (e,ty,vs):=harr
   have hlen:=(NV σ).F.len_ok a _ _ _ hF
   have hla:(NV σ).F.len a=len:=hb.1.symm
   rw [hla] at hlen
   have h7:hget (hpO noM [a]) 8=some (.abs a):=I0 noM [a] 0 _ rfl
   have h8:hget (hpO noM [a,a]) (8+1)=some (.abs a):=I0 noM [a,a] 1 _ rfl
   refine⟨?_,n6 noM [a,a],fun ρ w hO=>?_⟩
   ·intro c hcc
    simp [V1.cells] at hcc
    subst hcc
    intro m hm
    cases hm
    exact⟨_,h8⟩
   ·obtain⟨hone,hq⟩:=(NV σ).F.arr_q a _ _ _ hF
    have hv:=(hq _ _ _).1 (hO.q 8 _ h7)
    have fin:∀(w':World) (lc:Sx.Loc) (S':Nat->Prop),fQ lc S' vs e ty w'->Fr (fun _=>False) S' w w'->∃ρ',aG lc 0 len e=(SV.v (.c (.vs (8+1) 0 len e false))).den ρ' /\ Own (NV σ) ρ' (hpO noM [a,a]) w' /\ Evo (NV σ) (hpO noM [a]).length ρ (hpO noM [a]) w ρ' (hpO noM [a,a]) w':=by
     intro w' lc S' g1 g2
     obtain⟨o1,o2⟩:=pJ (N:=NV σ) hO (n6 noM [a]) (by show 8<=_;exact Nat.le_succ _) (d:=none) (fun n h=>by cases h) hF (S:=fun _=>False) (fun k h=>h.elim) g1 g2
     refine⟨_,?_,o1,o2⟩
     show _=aG ((ρ.set (8+1) lc S').L (8+1)) 0 len e
     rw [(dQ _ _ _ _).1]
    show Calls Tryz.prog f #[aG (ρ.L 8) 0 len e] w _
    rw [vsDen_eq]
    by_cases hn:len=0 /\ (ρ.L 8).c=0
    ·rw [if_pos hn]
     refine(hc.1 0 0 w).mono ?_
     rintro ex w' ⟨rfl,rfl⟩
     have hvs:vs=[]:=List.eq_nil_of_length_eq_zero (by rw [hlen,hn.1,Nat.zero_mul])
     obtain⟨ρ',r1,r2,r3⟩:=fin w' ⟨0,0,0⟩ (fun _=>False) (.inl ⟨Nat.zero_le _,hvs,fun _ h=>h⟩) ⟨fun _ _ _=>rfl,fun k h=>h.elim,rfl,rfl,rfl,Nat.le_refl _⟩
     refine⟨ρ',?_,r2,r3⟩
     rw [<- r1,vsDen_eq,if_pos ⟨hn.1,rfl⟩]
    ·rw [if_neg hn]
     refine(hc.2 _ _ len _ vs w hlen hb.2 (fun j u hu=>?_) hone).mono ?_
     ·have:=rJ hv j u hu
      have ea:(⟨(ρ.L 8).b,(ρ.L 8).o,none⟩:Addr).add j=⟨(ρ.L 8).b,(ρ.L 8).o+j,none⟩:=by unfold Addr.add;split<;>simp_all
      rw [ea] at this
      exact this
     ·rintro ex w' ⟨v',rfl,⟨_,hown⟩,hne,hbl⟩
      rcases hown with⟨h0,_⟩ | ⟨g,cap,cur,rfl,hg,hh,hle,_,hcs,htk⟩
      ·exact absurd h0 hne
      ·obtain⟨ρ',r1,r2,r3⟩:=fin w' ⟨g,0,cap+1⟩ (fun k=>k=g) (.inr ⟨Nat.succ_pos _,fun k=>Iff.rfl,cur.toList,by rw [Array.toArray_toList];exact hh,by simp [hcs],by rw [hlen];exact Nat.mul_le_mul_right _ (by simpa using hle),fun j u hu=>by
        rw [<- htk,List.getElem?_take] at hu
        split at hu
        ·simpa using hu
        ·cases hu⟩)
        ⟨fun k hk _=>hbl.block k hk,fun k hk=>.inl (by rw [hk];exact hg),hbl.os,hbl.tape,hbl.output,hbl.size⟩
       refine⟨ρ',?_,r2,r3⟩
       rw [<- r1,vsDen_eq,if_neg (fun h=>by cases h.2)]
       rfl
  ·simp [T.val] at h
 ·simp [T.val] at h
theorem Fx {f:FuncId} {rn:Go.Shelf.Ren} (L:SlLaysE0.n41 Tryz.prog rn) (hf:rn.f 41=f) {t:TypeId} {si:SI} (hs:slT.get t=some si) (ht:rn.t 23=si.e) (hb:si.bytes<=1000):CL f si.size si.e:=by
 subst hf
 obtain⟨hu,i,z,hi,hz,e1,e2,hpos,hzl,hzd,hzn⟩:=eC (G1 t si hs)
 have hzs:z.cells.size=si.size:=by
  have:=congrArg List.length (hzd Nm.id)
  rw [aN] at this
  simp at this
  omega
 refine⟨fun n c w=>AnyE.slices_Clone_nil L n c w,fun b off n c news w hl hn hc h1=>?_⟩
 have h:=AnyE.slices_Clone L i z si.size si.bytes (by rw [ht];exact hi) hz e1 e2 hzs hpos (fun w=>by rw [ht];simp [Go.sizeOf,typeInfo,hi,e1]) b off n c news w hl (by simp only [maxLen];omega) (by
  have:n * si.bytes<=1000000 * 1000:=Nat.mul_le_mul hn hb
  omega) hc h1
 rw [ht] at h
 exact h
theorem Fy:CL 24 10 37:=Fx (t:=41) (si:=BK) Tryz.cloneBt rfl (by kernel_rfl) rfl (by decide)
def RE:AV->Bool | .beats _=>true | _=>false
theorem CB {σ:Sg}:FnOk Tryz.prog (NV σ) 24 (aL isS noM (yF RE 10)):=Fw Fy fun a ha=>by cases a<;>first | (cases ha;done) | exact⟨_,rfl⟩
end Go.Proofs.YtcpdipfepeccgaaGreatDoor

namespace Go.Proofs.YtcpdipfepeccgaaGreatDoor
open Go Go.Sx Go.Proofs
set_option maxRecDepth 100000
variable {σ:Sg} {lp:Lp}
theorem Fi {N:Env AV} {nt:Nat} {E:Ev} {H H':Hp AV} (ho:Opn N H H') (hc':bB N H') (hs:lk H H'=true):Enter N nt {E:=E,H:=H} {E:=E,H:=H'}:=fun hc=>by
 obtain⟨len,pers,non⟩:=dY hs
 refine⟨⟨fun k=>(hc.E k).mono pers,hc'.1⟩,len,fun ρ a w hat=>?_⟩
 obtain⟨ρ1,o1,l1,f1⟩:=ho ρ w hat.own
 refine⟨ρ1,⟨⟨hat.em.size,fun k hk=>?_⟩,o1⟩,⟨pers,fun n c h=>l1 n (aH h),non,len,fun _ _ _=>rfl,fun n c k h hk=>.inr (f1 n c k h hk),rfl,rfl,rfl,Nat.le_refl _⟩⟩
 rw [hat.em.get k hk]
 exact(SV.den_congr (hc.E k) fun m c h=>l1 m (aH h)).symm
noncomputable def LN:Code:=dO 5 (aT (bC Tryz.f41))
def ksN:List Nat:=[6,7]
abbrev Oy:TypeId:=78
def HK (n:Nat) (len:Nat):List Cell:=[.vs 8 0 85 5 true,.vs 9 0 n 52 false,.vs 11 0 len 1 false,.il .i64 0,.il .i64 0,.inil]
def hpN (b:List W) (sl:List Sl) (n:Nat) (l:List N1) (len:Nat):Hp AV:=hpO noM [.words b,.slots sl]++[some (.cells (HK n len) Oy),some (.abs (.ints l))]
def AF (b:List W) (sl:List Sl) (n:Nat) (i:Int) (l:List N1) (len:Nat):St AV:={E:=only ksN [(6,.v (.c (.ptr 10 0))),(7,.v (.c (.it .i64 i)))] 45,H:=hpN b sl n l len}
def G4 (σ:Sg) (n:Nat) (l:List N1):Bool:=decide (n=Intf.len (F6 σ) (AV.ints l) /\ (n+1) * (SI.bytes zk+1)<=lim)
theorem nR (σ:Sg) (b:List W) (sl:List Sl) (n:Nat) (i:Int) (l:List N1) (len:Nat):(xc (NV σ) (joinCal (lv (NV σ) aQ 5)) (fun _=>none) 45 LN (AF b sl n i l len)).bind (bR 11 45 ksN bZ) =
 .ite (decide (i>=1)) (.need (G4 σ len l) (.leaf (.normal,AF b sl n (IntKind.wrap .i64 (i - 1)) (l++[⟨i⟩]) (len+1)))) (.leaf (.exit 0,AF b sl n i l len)):=by kernel_rfl
def kV:Nat->List N1
 | 0=>[]
 | n+1=>⟨(n+1:Nat)⟩::kV n
theorem mF:∀n,(kV n).length=n
 | 0=>rfl
 | n+1=>congrArg (·+1) (mF n)
structure MN where
 i:Nat
 l:List N1
def goN (m:MN):Ex×MN:=match m.i with
 | 0=>(.exit 0,m)
 | i+1=>(.normal,⟨i,m.l++[⟨(i+1:Nat)⟩]⟩)
def zg (m:MN):T (Ex×MN):=.need (decide (m.i<=1024 /\ m.l.length+m.i<=1024)) (.leaf (goN m))
theorem NX:∀(i:Nat) (l:List N1),l.length+i<=1024->bW zg (i+1) ⟨i,l⟩=some (.exit 0,⟨0,l++kV i⟩)
 | 0,l,h=>by
   rw [bW,zg,nv (decide_eq_true ⟨Nat.zero_le _,h⟩)]
   simp only [T.val,goN,kV,List.append_nil]
 | i+1,l,h=>by
   rw [bW,zg,nv (decide_eq_true ⟨by show i+1<=1024;omega,h⟩)]
   simp only [T.val,goN]
   rw [NX i _ (by rw [List.length_append];simp only [List.length_cons,List.length_nil];omega)]
   simp only [kV,List.append_assoc,List.singleton_append]
theorem G3 {n:Nat} {l:List N1} (h:n=l.length) (hn:l.length<=100000):G4 σ n l=true:=by
 unfold G4
 subst h
 exact decide_eq_true ⟨rfl,Nat.le_trans (Nat.mul_le_mul_right _ (Nat.succ_le_succ hn)) (by decide)⟩
def DL (b:List W) (sl:List Sl) (n:Nat) (m:MN):St AV:=AF b sl n (m.i:Int) m.l m.l.length
theorem Ei (σ:Sg) (b:List W) (sl:List Sl) (n:Nat) (m:MN) (r:Ex×MN) (h:(zg m).val=some r) :
 ((xc (NV σ) (joinCal (lv (NV σ) aQ 5)) (fun _=>none) 45 LN (DL b sl n m)).bind (bR 11 45 ksN bZ)).val=some (r.1,DL b sl n r.2):=by
 obtain⟨hb,h⟩:=ah (h:(T.need _ _).val=_)
 obtain⟨h1,h2⟩:=of_decide_eq_true hb
 obtain⟨i,l⟩:=m
 simp only [T.val,Option.some.injEq] at h
 subst h
 show ((xc (NV σ) _ _ 45 LN (AF b sl n i l l.length)).bind _).val=_
 rw [nR]
 cases i with
 | zero=>rw [ivF (by simp)];rfl
 | succ i =>
   rw [ivT (by simp;omega),nv (G3 rfl (by dsimp only at h2;omega))]
   show some (Ex.normal,AF b sl n (IntKind.wrap .i64 (((i+1:Nat):Int) - 1)) (l++[(⟨((i+1:Nat):Int)⟩:N1)]) (l.length+1))=_
   rw [mW (by dsimp only at h1;omega),show (((i+1:Nat):Int) - 1)=(i:Int) by omega]
   show _=some (Ex.normal,AF b sl n (i:Int) (l++[(⟨((i+1:Nat):Int)⟩:N1)]) (l++[(⟨((i+1:Nat):Int)⟩:N1)]).length)
   rw [List.length_append];rfl
theorem FW {α:Type} (K:AK α) {a:AV} {l:List Cell} {n:Nat} {rs:List α} (ha:a.arr=some (K.es,K.ty,K.vals rs)) (h:K.decs n l=some rs):Lesser (NV σ) (.vec l K.es K.ty) (.abs a):=by
 obtain⟨h1,h2⟩:=K.decs_ok h
 intro ρ n w
 refine⟨fun hv=>?_,fun k=>Iff.rfl⟩
 refine(((NV σ).F.arr_q a _ _ _ (show (NV σ).F.arr a=_ from ha)).2 _ _ _).2 ?_
 have hv:fQ (ρ.L n) (ρ.S n) (ae ρ l) K.es K.ty w:=hv
 rw [h1,show ae Nm.id l=ae ρ l from List.map_congr_left fun c hc=>den_congr _ fun m hm=>by rw [h2 c hc] at hm;cases hm]
 exact hv
def FJ:List Cell:=repsL [.il .i64 0,.il .i64 0,.il .i64 0,.il .i64 0,.bl false] 85
def nu:List W:=List.replicate 85 aq
def BU (n:Nat):List Cell:=[.vs 8 0 85 5 true,.vs 9 0 n 52 false,.snil,.il .i64 0,.il .i64 0,.inil]
def LO (sl:List Sl) (n:Nat):Hp AV:=hpO noM []++[some (.vec FJ 5 107),some (.abs (.slots sl)),some (.cells (BU n) Oy)]
def Uq (sl:List Sl) (n:Nat) (s:St AV):Prop:=Sx.look s.E 6=.v (.c (.ptr 10 0)) /\ Sx.look s.E 7=.v (.c (.it .i64 n)) /\ s.H=LO sl n
noncomputable def gN (sl:List Sl) (n:Nat) (s:St AV):T (Ex×St AV):=.need (cH (Uq sl n s /\ n<=1024)) (.leaf (.exit 0,AF nu sl n 0 (kV n) n))
theorem SW {N':Env AV} (hF:N'.F=(NV σ).F) (hG:N'.G=(NV σ).G) (sl:List Sl) (n:Nat):b7 Tryz.prog N' 45 LN (gN sl n):=by
 have hcal:cP Tryz.prog (NV σ) (joinCal (lv (NV σ) aQ 5)):=bo (fU okV mQ hvV au 5)
 refine cd (N:=NV σ) hF hG okV hcal (lp:=fun _=>none) (fun _ _ _ g hg=>by cases hg) fun s s' ex hgs=>?_
 obtain⟨E1,H1⟩:=s
 unfold gN at hgs
 replace hgs:=ah hgs
 obtain⟨hb,hgs⟩:=hgs
 obtain⟨⟨e6,e7,eH⟩,hn⟩:=cK hb
 simp only at e6 e7 eH
 subst eH
 simp only [T.val,Option.some.injEq,Prod.mk.injEq] at hgs
 obtain⟨rfl,rfl⟩:=hgs
 have hC:bB (NV σ) (lset (LO sl n) 8 (some (.abs (.words nu)))):=qF (by kernel_rfl)
 refine⟨{M:=MN,fam:=DL nu sl n,step:=zg,ks:=ksN,pk:=bZ,hpk:=fun d a h=>(by cases h),L:=11,len:=rfl,hGL:=(by show 8<=11;decide),run:=Ei σ nu sl n,m:=⟨n,[]⟩,k:=n+1,m':=⟨0,kV n⟩,ent:=?_,it:=(by rw [NX n [] (by simpa using hn)];rfl),fin:=(by unfold DL;simp only [mF];rfl)}⟩
 refine Enter.trans (Ct (nt:=45) (E:=E1) (E':=[(6,.v (.c (.ptr 10 0))),(7,.v (.c (.it .i64 n)))]) (ks:=ksN) (n:=8) (c:=.vec FJ 5 107) (c':=.abs (.words nu)) rfl (FW kwords (n:=85) rfl (by kernel_rfl)) rfl fun k hk=>?_) ?_
 ·simp only [ksN,List.mem_cons,List.not_mem_nil,or_false] at hk
  rcases hk with rfl | rfl
  ·exact .inl e6.symm
  ·exact .inl e7.symm
 ·refine Fi (H':=hpN nu sl n [] 0) (La (N:=NV σ) (n:=10) (l:=BU n) (l':=HK n 0) (ty:=Oy) (a:=.ints []) hC rfl rfl (fun ρ ρ' e1 e2=>?_) (by show 8<=11;decide)) (qF (by kernel_rfl)) (by kernel_rfl)
  have e8:ρ'.L 8=ρ.L 8:=e1 8 (by show 8 < 11;decide)
  have e9:ρ'.L 9=ρ.L 9:=e1 9 (by show 9 < 11;decide)
  have e11:ρ'.L 11=⟨0,0,0⟩:=e2
  simp only [HK,BU,ae,List.map_cons,List.map_nil,Cell.den,e8,e9,e11]
  rfl
noncomputable def Dd (lp:Lp) (σ:Sg) (tab:Tab) (f:FuncId) (M:List Bool) (args:List SV) (l:List AV):T (SV×List AV×List AV) :=
 (Q.bind (Q.lv (NVl lp σ) tab 24 (.fn f) args (hpO M l)) (ou (ox σ) isS M l.length [])).map B4
theorem Ha (hlp:bS Tryz.prog (NVl lp σ)) {tab:Tab} (ht:bm Tryz.prog (NVl lp σ) tab) {f:FuncId} {M:List Bool} (hM:8=M.length) {args:List SV} {l:List AV} {v:SV} {l' nw:List AV}
 (hargs:∀x∈args,ClV (hpO M l) x) (h:(Dd lp σ tab f M args l).val=some (v,l',nw)):Ctr Tryz.prog (NVl lp σ) f args (hpO M l) v (hpO M (l'++nw)) /\ l'.length=l.length:=by
 unfold Dd at h
 obtain⟨v0,rfl,h0⟩:=mo h
 rw [Q.bind_eq,Q.lv_eq] at h0
 obtain⟨⟨v1,H2⟩,hr,hc⟩:=T.bind_some h0
 exact(fun x=>⟨mH x.1,x.2⟩) (iz (N:=NVl lp σ) (fB rfl) bk hM hargs (Opn.refl _) (fun m c h=>⟨c,h⟩) ((Fc hlp ht 24 f).ctr hr hargs ⟨(n6 (σ:=σ) M l).1,trivial⟩) hc)
def slZ:Sl:=⟨0,false,[aq,aq,aq,aq,aq,aq,aq,aq,aq,aq]⟩
def hZ (n:Nat):PlotM:=⟨nu,List.replicate n slZ,kV n,0,0,none⟩
noncomputable def Pj (n:Nat):Lp:=dS 41 5 (gN (List.replicate n slZ) n) cZ
theorem Sq (n:Nat):bS Tryz.prog (NVl (Pj n) σ) :=
 fe fL (fn:=Tryz.f41) (by kernel_rfl) (c:=bC Tryz.f41) (by kernel_rfl) (nt:=45) (by kernel_rfl) (b:=LN) (aR (by kernel_rfl)) (SW (σ:=σ) (N':=NVl cZ σ) rfl rfl _ n)
def Tw (n:Nat):Prop:=(SV.v (.c (.ptr 10 0))=.v (.c (.ptr 10 0)) /\ SV.v (.c (.it .i64 n))=.v (.c (.it .i64 n)) /\ LO (List.replicate n slZ) n=LO (List.replicate n slZ) n) /\ n<=1024
@[reducible] def oPlot:ObK PlotM:=⟨AV.plot,fun | .plot m=>some m | _=>none,fun a j h=>by split at h<;>cases h;rfl,fun _=>rfl⟩
theorem Im (σ:Sg) (n:Nat):(Dd (Pj n) σ aQ 41 noM [.v (.c (.it .i64 (Int.ofNat n))),.v (.c (.il .i64 85))] []).map (kW oPlot) =
 .ite (orB (decide (Int.ofNat n < 0)) (orB (decide (Int.ofNat n > 1024)) (decide ((85:Int) > 200)))) (.fail "load") (.need (decide (0<=Int.ofNat n /\ Int.ofNat n=Int.ofNat n /\ (Int.ofNat n).toNat * (SI.bytes ON+1)<=lim)) (.need (cH (Tw n))
  (.need true (.need (decide (n=(List.replicate n slZ).length)) (.need (decide (n=(kV n).length)) (.need true (.leaf (some (hZ n))))))))):=by kernel_rfl
def aI2:ArgK (Int×Int) where
 enc x:=[.v (.c (.it .i64 x.1)),.v (.c (.it .i64 x.2))]
 dec:=fun | [.v (.c a),.v (.c b)]=>(match iOf a,iOf b with | some a,some b=>some (a,b) | _,_=>none) | _=>none
 ok:=fun l a h ρ=>by
  split at h
  ·split at h
   ·rename_i h0 h1
    cases h
    simp only [List.map_cons,List.map_nil,SV.den,V1.den,aM h0 ρ,aM h1 ρ];rfl
   ·cases h
  ·cases h
 free:=fun _=>rfl
theorem zO (σ:Sg) (n:Nat) (hn:n<=1024):((Dd (Pj n) σ aQ 41 noM [.v (.c (.it .i64 (Int.ofNat n))),.v (.c (.il .i64 85))] []).map (kW oPlot)).val=some (some (hZ n)):=by
 rw [Im]
 have e:orB (decide (Int.ofNat n < 0)) (orB (decide (Int.ofNat n > 1024)) (decide ((85:Int) > 200)))=false:=by
  rw [decide_eq_false (show ¬Int.ofNat n < 0 by simp),decide_eq_false (show ¬Int.ofNat n > 1024 by simp;omega)];rfl
 rw [ivF e]
 refine(nv (decide_eq_true ⟨by simp,rfl,Nat.le_trans (Nat.mul_le_mul_right _ (show (Int.ofNat n).toNat<=1024 from hn)) (by decide)⟩)).trans ((nv (cQ ⟨⟨rfl,rfl,rfl⟩,hn⟩)).trans ((nv rfl).trans ((nv (decide_eq_true List.length_replicate.symm)).trans ((nv (decide_eq_true (mF n).symm)).trans (nv rfl)))))
theorem B7:FnOk Tryz.prog (NV σ) 41 (aL isS noM (jh aI2 oPlot (fun x=>some (decide (0<=x.1 /\ x.1<=1024 /\ x.2=85))) (fun x=>hZ x.1.toNat))):=by
 refine b9 bk rfl fun args l v l' nw h hl hargs=>?_
 unfold jh at h
 split at h
 ·split at h
  ·rename_i x hx
   replace h:=dB h
   obtain⟨hok,h⟩:=h
   obtain⟨h1,h2,h3⟩:=of_decide_eq_true (show decide _=true from hok)
   simp only [T.val,Option.some.injEq,Prod.mk.injEq] at h
   obtain⟨rfl,rfl,rfl⟩:=h
   obtain⟨i,c⟩:=x
   dsimp only at h1 h2 h3
   subst h3
   obtain⟨n,rfl⟩:∃n:Nat,i=Int.ofNat n:=⟨i.toNat,by simp;omega⟩
   obtain⟨y,g1,g2⟩:=map_some (zO σ n (by simp at h2;omega))
   have g2:=uC g2
   subst g2
   have hc:=gZ (Ha (Sq n) (ny au) (M:=noM) rfl (bL rfl) g1).1
   exact bE hc fun ρ=>by rw [<- aI2.ok _ _ hx ρ];rfl
  ·simp [T.val] at h
 ·simp [T.val] at h
end Go.Proofs.YtcpdipfepeccgaaGreatDoor

namespace Go.Proofs.YtcpdipfepeccgaaGreatDoor
open Go Go.Sx Go.Proofs
set_option maxRecDepth 100000
variable {σ:Sg} {lp:Lp}
noncomputable def Jx (σ:Sg) (M:List Bool) (r:SV×Hp AV):T (SV×List AV×List AV):=match r.1 with
 | .tup [.c (.ptr n 0),.c .inil]=>match hget r.2 n with
   | some (.cells [_,_,.vs n2 _ _ _ _,_] _)=>yE σ M 0 n2 (hpO M []) r
   | _=>.fail "new: no parish"
 | _=>.fail "new: no parish"
noncomputable def Hc (lp:Lp) (σ:Sg) (tab:Tab) (f:FuncId) (M:List Bool) (args:List SV):T (SV×List AV×List AV) :=
 (Q.bind (Q.lv (NVl lp σ) tab 24 (.fn f) args (hpO M [])) (Jx σ M)).map B4
theorem Hb (hlp:bS Tryz.prog (NVl lp σ)) {tab:Tab} (ht:bm Tryz.prog (NVl lp σ) tab) {f:FuncId} {M:List Bool} (hM:8=M.length) {args:List SV} {v:SV} {l' nw:List AV}
 (hargs:∀x∈args,ClV (hpO M []) x) (h:(Hc lp σ tab f M args).val=some (v,l',nw)):Ctr Tryz.prog (NVl lp σ) f args (hpO M []) v (hpO M (l'++nw)):=by
 unfold Hc at h
 obtain⟨v0,rfl,h0⟩:=mo h
 rw [Q.bind_eq,Q.lv_eq] at h0
 obtain⟨⟨v1,H2⟩,hr,hc⟩:=T.bind_some h0
 have hctr:=(Fc hlp ht 24 f).ctr hr hargs ⟨(n6 (σ:=σ) M []).1,trivial⟩
 unfold Jx at hc
 split at hc
 ·rename_i n hv1
  dsimp only at hc
  split at hc
  ·rename_i n2 _ _ _ _ _ _ hn
   unfold yE at hc
   obtain⟨⟨a0,ns⟩,hv,hc⟩:=T.bind_some hc
   dsimp only at hc
   split at hc
   ·rename_i c1 c2 c3
    have hfl:Fl (NVl lp σ) H2 (jx (hpO M []) (gP n2 ns a0 0 H2)):=(rV ((fB (N:=NVl lp σ) rfl) H2 n2 a0 ns hv)).trans (ur (hpO M []) _)
    generalize jx (hpO M []) (gP n2 ns a0 0 H2)=R at *
    have hfd:Fld (NVl lp σ) H2 R:=fun ρ w hO=>by
     obtain⟨ρ1,o1,e1,f1⟩:=hfl ρ w hO
     exact⟨ρ1,o1,fun m _ _=>e1 m,f1⟩
    obtain⟨s1,s2,s3⟩:=dY c1
    have hctA:=yC (Opn.refl _) (fun m c h=>⟨c,h⟩) hctr hfd hargs (eP.1 c2 v1 (List.mem_cons_self)) ⟨cn.1 c3,trivial⟩ s2 s3 s1
    exact mH (iz (N:=NVl lp σ) (l:=[]) (fB rfl) bk hM hargs (Opn.refl _) (fun m c h=>⟨c,h⟩) hctA hc).1
   ·simp [T.val] at hc
  ·simp [T.val] at hc
 ·simp [T.val] at hc
def aI5:ArgK (Int×Int×Int×Int×Int) where
 enc x:=[.v (.c (.it .i64 x.1)),.v (.c (.it .i64 x.2.1)),.v (.c (.it .i64 x.2.2.1)),.v (.c (.it .i64 x.2.2.2.1)),.v (.c (.it .i64 x.2.2.2.2))]
 dec:=fun | [.v (.c a),.v (.c b),.v (.c c),.v (.c d),.v (.c e)]=>(match iOf a,iOf b,iOf c,iOf d,iOf e with | some a,some b,some c,some d,some e=>some (a,b,c,d,e) | _,_,_,_,_=>none) | _=>none
 ok:=fun l a h ρ=>by
  split at h
  ·split at h
   ·rename_i h0 h1 h2 h3 h4
    cases h
    simp only [List.map_cons,List.map_nil,SV.den,V1.den,aM h0 ρ,aM h1 ρ,aM h2 ρ,aM h3 ρ,aM h4 ρ];rfl
   ·cases h
  ·cases h
 free:=fun _=>rfl
def MP (s:Int) (r:RiteM) (e:Int):VerM:=⟨s,e,r,0,bu,⟨0,0,0,0⟩,none,⟨0,0⟩⟩
noncomputable def Np (bad:Int->Int->Int->Int->Bool) (mr:Int×Int×Int×Int->RiteM):Tab:=aC 47 (aL isS noM (jh aI4 oRite (fun x=>some (!(bad x.1 x.2.1 x.2.2.1 x.2.2.2))) mr)) aQ
theorem Ki (σ:Sg) (bad:Int->Int->Int->Int->Bool) (mr:Int×Int×Int×Int->RiteM) (s e me th no:Int):(eG σ (Np bad mr) 27 noM (aI5.enc (s,e,me,th,no)) []).map (kW oVer) =
 .ite (orB (decide (s < 1)) (decide (s > 5))) (.fail "load") (.need (!(bad e me th no)) (.need true (.leaf (some (MP s (mr (e,me,th,no)) e))))):=by kernel_rfl
def nM (x:Int×Int×Int×Int×Int):VerM:=MP x.1 (rT (x.2.1,x.2.2.1,x.2.2.2.1,x.2.2.2.2)) x.2.1
def yH (x:Int×Int×Int×Int×Int):Bool:=orB (orB (decide (x.1 < 1)) (decide (x.1 > 5))) (pH x.2.1 x.2.2.1 x.2.2.2.1 x.2.2.2.2)
theorem DZ:FnOk Tryz.prog (NV σ) 27 (aL isS noM (jh aI5 oVer (fun x=>some (!(yH x))) nM)) :=
 kz (tab:=Np pH rT) (aj Hn au) rfl fun x h=>⟨aI5.enc x,rfl,fun _=>rfl,by
  obtain⟨s,e,me,th,no⟩:=x
  have h:(!(orB (orB (decide (s < 1)) (decide (s > 5))) (pH e me th no)))=true:=h
  rw [Ki]
  cases h1:orB (decide (s < 1)) (decide (s > 5)) with
  | true=>rw [h1] at h;cases h
  | false =>
    rw [h1] at h
    cases h2:pH e me th no with
    | true=>rw [h2] at h;cases h
    | false=>rfl⟩
structure NwF where
 np:Int->PlotM
 bad:Int×Int×Int×Int×Int->Bool
 mv:Int×Int×Int×Int×Int->VerM
noncomputable def Nq (σ:Sg) (F:NwF):Tab:=aC 41 (aL isS noM (jh aI2 oPlot (fun x=>some (decide (0<=x.1 /\ x.1<=1024 /\ x.2=85))) (fun x=>F.np x.1)))
 (aC 38 (aL isS mDo (doS σ)) (aC 27 (aL isS noM (jh aI5 oVer (fun x=>some (!(F.bad x))) F.mv)) aQ))
noncomputable def mNw:List Bool:=mkM 14
def Jo:SV×List AV×List AV->Option ParM
 | (.tup [.c (.ptr 8 0),.c .inil],[],[.par a])=>some a
 | _=>none
def Uy (s:Nat) (e:Int) (n:Nat) (sl no:Int):List SV:=[.v (.agg [.il .i64 (Int.ofNat s),.it .i64 e,.il .i64 (Int.ofNat n),.it .i64 sl,.it .i64 no])]
noncomputable def cA (σ:Sg) (F:NwF) (s:Nat) (e:Int) (n:Nat) (sl no:Int):T (Option ParM):=(Hc cZ σ (Nq σ F) 14 mNw (Uy s e n sl no)).map Jo
end Go.Proofs.YtcpdipfepeccgaaGreatDoor

namespace Go.Proofs.YtcpdipfepeccgaaGreatDoor
open Go Go.Sx Go.Proofs
set_option maxRecDepth 100000
variable {σ:Sg} {lp:Lp}
def qM (f:Int) (w:W):Acc:=⟨2,0,0,f,aq,w⟩
def pN:Acc:=⟨4,0,0,0,aq,aq⟩
section
variable {β:Type} (I:Bool->β->β->β) (N:Bool->β->β) (fl:β)
def Ah (f1 f2:Int) (w1 w2:W->W) (p:PlotM) (k:PlotM->β):β :=
 let r:=p.access pN
 N (decide p.Ok) (I true (I (!r.1.ok) fl (N (decide r.2.Ok) (I (decide (r.2.valid (qM f1 (w1 r.1.w)))) (N (decide (r.2.access (qM f1 (w1 r.1.w))).2.Ok)
   (I (decide ((r.2.access (qM f1 (w1 r.1.w))).2.valid (qM f2 (w2 r.1.w)))) (k ((r.2.access (qM f1 (w1 r.1.w))).2.access (qM f2 (w2 r.1.w))).2) fl)) fl))) fl)
def Ag (s:Nat) (p:PlotM) (k:PlotM->β):β:=match s with
 | 2=>Ah I N fl 0 1 ko ko p k
 | 4=>Ah I N fl 8 16 ko (fun _=>g9 1) p k
 | _=>k p
def I4 (e sl no:Int):Bool:=match decide (e>=1)==true with
 | true=>(match decide (e<=5)==true with
   | true=>(match decide (sl>=0)==true with
     | true=>(match decide (sl<=1024)==true with
       | true=>(match decide (no>=1)==true with | true=>decide (no<=64) | false=>false)
       | false=>false)
     | false=>false)
   | false=>false)
 | false=>false
def nO (mv:Int×Int×Int×Int×Int->VerM) (s:Int) (e no n:Int):List Int->List RosM
 | []=>[]
 | i::r=>⟨mv (s,e,i,n,no),[],0,-1⟩::nO mv s e no n r
def lM (bad:Int×Int×Int×Int×Int->Bool) (s e no n:Int) (t:β):List Int->β
 | []=>t
 | i::r=>N (!(bad (s,e,i,n,no))) (lM bad s e no n t r)
def dA (L:ParM->β) (F:NwF) (s:Nat) (e:Int) (is:List Int) (n:Int) (sl no:Int):β :=
 I (!I4 e sl no) fl (N (decide (0<=sl /\ sl<=1024 /\ (85:Int)=85)) (N (decide (F.np sl).Ok) (I (decide ((F.np sl).valid (qM 24 (g9 1)))) (Ag I N fl s ((F.np sl).access (qM 24 (g9 1))).2 fun p =>
   lM N F.bad s e no n (N true (N true (L ⟨s,p,nO F.mv s e no n is,[]⟩))) is) fl)))
end
def nwF:T (Option ParM):=.fail "new: no parish"
def nwL (m:ParM):T (Option ParM):=.leaf (some m)
theorem R9 (σ:Sg) (F:NwF) (e sl no:Int):cA σ F 1 e 1 sl no=dA tI tN nwF nwL F 1 e [0] 1 sl no:=by kernel_rfl
theorem R8 (σ:Sg) (F:NwF) (e sl no:Int):cA σ F 1 e 2 sl no=dA tI tN nwF nwL F 1 e [0,1] 2 sl no:=by kernel_rfl
theorem R7 (σ:Sg) (F:NwF) (e sl no:Int):cA σ F 1 e 3 sl no=dA tI tN nwF nwL F 1 e [0,1,2] 3 sl no:=by kernel_rfl
theorem R6 (σ:Sg) (F:NwF) (e sl no:Int):cA σ F 1 e 4 sl no=dA tI tN nwF nwL F 1 e [0,1,2,3] 4 sl no:=by kernel_rfl
theorem R5 (σ:Sg) (F:NwF) (e sl no:Int):cA σ F 1 e 5 sl no=dA tI tN nwF nwL F 1 e [0,1,2,3,4] 5 sl no:=by kernel_rfl
theorem R4 (σ:Sg) (F:NwF) (e sl no:Int):cA σ F 1 e 6 sl no=dA tI tN nwF nwL F 1 e [0,1,2,3,4,5] 6 sl no:=by kernel_rfl
theorem R3 (σ:Sg) (F:NwF) (e sl no:Int):cA σ F 2 e 1 sl no=dA tI tN nwF nwL F 2 e [0] 1 sl no:=by kernel_rfl
theorem R2 (σ:Sg) (F:NwF) (e sl no:Int):cA σ F 2 e 2 sl no=dA tI tN nwF nwL F 2 e [0,1] 2 sl no:=by kernel_rfl
theorem R1 (σ:Sg) (F:NwF) (e sl no:Int):cA σ F 2 e 3 sl no=dA tI tN nwF nwL F 2 e [0,1,2] 3 sl no:=by kernel_rfl
theorem R0 (σ:Sg) (F:NwF) (e sl no:Int):cA σ F 2 e 4 sl no=dA tI tN nwF nwL F 2 e [0,1,2,3] 4 sl no:=by kernel_rfl
theorem RZ (σ:Sg) (F:NwF) (e sl no:Int):cA σ F 2 e 5 sl no=dA tI tN nwF nwL F 2 e [0,1,2,3,4] 5 sl no:=by kernel_rfl
theorem RY (σ:Sg) (F:NwF) (e sl no:Int):cA σ F 2 e 6 sl no=dA tI tN nwF nwL F 2 e [0,1,2,3,4,5] 6 sl no:=by kernel_rfl
theorem RX (σ:Sg) (F:NwF) (e sl no:Int):cA σ F 3 e 1 sl no=dA tI tN nwF nwL F 3 e [0] 1 sl no:=by kernel_rfl
theorem RW (σ:Sg) (F:NwF) (e sl no:Int):cA σ F 3 e 2 sl no=dA tI tN nwF nwL F 3 e [0,1] 2 sl no:=by kernel_rfl
theorem RV (σ:Sg) (F:NwF) (e sl no:Int):cA σ F 3 e 3 sl no=dA tI tN nwF nwL F 3 e [0,1,2] 3 sl no:=by kernel_rfl
theorem RU (σ:Sg) (F:NwF) (e sl no:Int):cA σ F 3 e 4 sl no=dA tI tN nwF nwL F 3 e [0,1,2,3] 4 sl no:=by kernel_rfl
theorem RS (σ:Sg) (F:NwF) (e sl no:Int):cA σ F 3 e 5 sl no=dA tI tN nwF nwL F 3 e [0,1,2,3,4] 5 sl no:=by kernel_rfl
theorem RR (σ:Sg) (F:NwF) (e sl no:Int):cA σ F 3 e 6 sl no=dA tI tN nwF nwL F 3 e [0,1,2,3,4,5] 6 sl no:=by kernel_rfl
theorem RQ (σ:Sg) (F:NwF) (e sl no:Int):cA σ F 4 e 1 sl no=dA tI tN nwF nwL F 4 e [0] 1 sl no:=by kernel_rfl
theorem RP (σ:Sg) (F:NwF) (e sl no:Int):cA σ F 4 e 2 sl no=dA tI tN nwF nwL F 4 e [0,1] 2 sl no:=by kernel_rfl
theorem RO (σ:Sg) (F:NwF) (e sl no:Int):cA σ F 4 e 3 sl no=dA tI tN nwF nwL F 4 e [0,1,2] 3 sl no:=by kernel_rfl
theorem RN (σ:Sg) (F:NwF) (e sl no:Int):cA σ F 4 e 4 sl no=dA tI tN nwF nwL F 4 e [0,1,2,3] 4 sl no:=by kernel_rfl
theorem RM (σ:Sg) (F:NwF) (e sl no:Int):cA σ F 4 e 5 sl no=dA tI tN nwF nwL F 4 e [0,1,2,3,4] 5 sl no:=by kernel_rfl
theorem RL (σ:Sg) (F:NwF) (e sl no:Int):cA σ F 4 e 6 sl no=dA tI tN nwF nwL F 4 e [0,1,2,3,4,5] 6 sl no:=by kernel_rfl
theorem RK (σ:Sg) (F:NwF) (e sl no:Int):cA σ F 5 e 1 sl no=dA tI tN nwF nwL F 5 e [0] 1 sl no:=by kernel_rfl
theorem RJ (σ:Sg) (F:NwF) (e sl no:Int):cA σ F 5 e 2 sl no=dA tI tN nwF nwL F 5 e [0,1] 2 sl no:=by kernel_rfl
theorem RI (σ:Sg) (F:NwF) (e sl no:Int):cA σ F 5 e 3 sl no=dA tI tN nwF nwL F 5 e [0,1,2] 3 sl no:=by kernel_rfl
theorem RH (σ:Sg) (F:NwF) (e sl no:Int):cA σ F 5 e 4 sl no=dA tI tN nwF nwL F 5 e [0,1,2,3] 4 sl no:=by kernel_rfl
theorem RG (σ:Sg) (F:NwF) (e sl no:Int):cA σ F 5 e 5 sl no=dA tI tN nwF nwL F 5 e [0,1,2,3,4] 5 sl no:=by kernel_rfl
theorem RF (σ:Sg) (F:NwF) (e sl no:Int):cA σ F 5 e 6 sl no=dA tI tN nwF nwL F 5 e [0,1,2,3,4,5] 6 sl no:=by kernel_rfl
end Go.Proofs.YtcpdipfepeccgaaGreatDoor

namespace Go.Proofs.YtcpdipfepeccgaaGreatDoor
open Go Go.Sx Go.Proofs
set_option maxRecDepth 100000
def WOk (n:Int) (w:W):Prop:=0<=w.slot /\ w.slot<=n /\ (w.slot=0->w.gen=0)
def AOk (n:Int) (a:Ad):Prop:=(a.s=0 /\ a.g=0 /\ 0<=a.f /\ a.f < 85) \/ (1<=a.s /\ a.s<=n /\ 0<=a.f /\ a.f < 10)
def rR (i j:Int):Prop:=(i=1 /\ j=0) \/ (i=2 /\ j=1) \/ (i=4 /\ j=3) \/ (i=5 /\ j=4) \/ (i=7 /\ j=6) \/ (i=8 /\ j=7) \/ (i=2 /\ j=5) \/ (i=5 /\ j=8)
def kR (n:Int) (c:Cl):Prop:=WOk n c.old /\ WOk n c.new /\ (((c.kind=3 \/ c.kind=4 \/ c.kind=5) /\ AOk n c.adr) \/ (c.kind=6 /\ AOk n c.adr /\ 0<=c.i /\ c.i < 9 /\ c.j=0) \/ (c.kind=7 /\ rR c.i c.j) \/ c.kind=8 \/ ((c.kind=9 \/ c.kind=10) /\ 1<=c.old.slot))
def imm (c:Cl):Prop:=c.kind=7 \/ c.kind=10
section
variable {n:Int}
theorem ao (h:0<=n):WOk n aq:=⟨Int.le_refl _,h,fun _=>rfl⟩
theorem dj (h:0<=n) (k:Int):WOk n (g9 k):=⟨Int.le_refl _,h,fun _=>rfl⟩
theorem aV {w:W} (h:WOk n w):WOk n (ko w):=h
theorem bI {w r:W} (h:WOk n r):WOk n (wTo w r):=h
theorem eZ {w:W} (h:WOk n w):WOk n (xC w):=h
theorem jK (h:0<=n) {w:W} {k:Int}:WOk n (gQ w k):=⟨Int.le_refl _,h,fun _=>rfl⟩
theorem ai {w:W} (h:WOk n w) {f:Int} (h0:0<=f) (h1:f < 10):AOk n (aY w f):=by
 obtain⟨a,b,c⟩:=h
 by_cases e:w.slot=0
 ·exact .inl ⟨e,c e,h0,by show f < 85;omega⟩
 ·exact .inr ⟨by show 1<=w.slot;omega,b,h0,h1⟩
theorem cq {k:Int} (h0:0<=k) (h1:k < 85):AOk n (bH k):=.inl ⟨rfl,rfl,h0,h1⟩
theorem aE (h:0<=n) {a:Ad} (ha:AOk n a):kR n (aZ a):=⟨ao h,ao h,.inl ⟨.inl rfl,ha⟩⟩
theorem az (h:0<=n) {a:Ad} {w:W} (ha:AOk n a) (hw:WOk n w):kR n (cY a w):=⟨ao h,hw,.inl ⟨.inr (.inl rfl),ha⟩⟩
theorem aK {a:Ad} {o w:W} (ha:AOk n a) (ho:WOk n o) (hw:WOk n w):kR n (bG a o w):=⟨ho,hw,.inl ⟨.inr (.inr rfl),ha⟩⟩
theorem cv (h:0<=n) {a:Ad} {i:Int} (ha:AOk n a) (h0:0<=i) (h1:i < 9):kR n (bX a i):=⟨ao h,ao h,.inr (.inl ⟨rfl,ha,h0,h1,rfl⟩)⟩
theorem xm (h:0<=n) {i j:Int} (hp:rR i j):kR n (qG i j):=⟨ao h,ao h,.inr (.inr (.inl ⟨rfl,hp⟩))⟩
theorem da (h:0<=n):kR n jy:=⟨ao h,ao h,.inr (.inr (.inr (.inl rfl)))⟩
theorem fx (h:0<=n) {w:W} (hw:WOk n w) (h1:1<=w.slot):kR n (qH w):=⟨hw,ao h,.inr (.inr (.inr (.inr ⟨.inl rfl,h1⟩)))⟩
theorem dx (h:0<=n) {w:W} (hw:WOk n w) (h1:1<=w.slot):kR n (km w):=⟨hw,ao h,.inr (.inr (.inr (.inr ⟨.inr rfl,h1⟩)))⟩
end
def Res (n:Int) (c:Cl):Prop:=c.kind=12 \/ kR n c
def hdW (c:Cl):Prop:=(c.kind=4 \/ c.kind=5)->c.adr.s=0->c.adr.f=0->1<=c.new.slot
theorem wL {c:Cl} {k:Int} (e:c.kind=k) (h4:k≠4) (h5:k≠5):hdW c:=fun h _ _=>by
 rcases h with h | h
 ·exact absurd (e.symm.trans h) h4
 ·exact absurd (e.symm.trans h) h5
theorem N0 {c:Cl} {k:Int} (e:c.adr.f=k) (h:k≠0):hdW c:=fun _ _ h2=>absurd (e.symm.trans h2) h
structure RpFor (n:Int) (hd:Bool) (c:Cl) (x:Rp1):Prop where
 w:WOk n x.w
 al:c.kind=8->x.ok=true->1<=x.w.slot
 hd:hd=true->c.kind=6->c.adr.s=0->c.adr.f=0->1<=x.w.slot
structure NextOk (n:Int) (c:Cl) (ok aw:Prop) (r0 r1:Nat):Prop where
 res:Res n c
 wf:ok
 rk:imm c->r1 < r0
 aw:aw
theorem dP {c:Cl} {k:Int} (e:c.kind=k) (h7:k≠7) (h10:k≠10):¬imm c:=fun h=>by
 rcases h with h | h
 ·exact h7 (e.symm.trans h)
 ·exact h10 (e.symm.trans h)
theorem bT {a:Ad}:¬imm (aZ a):=dP (k:=3) rfl (by decide) (by decide)
theorem cR {a:Ad} {w:W}:¬imm (cY a w):=dP (k:=4) rfl (by decide) (by decide)
theorem cE {a:Ad} {v w:W}:¬imm (bG a v w):=dP (k:=5) rfl (by decide) (by decide)
theorem gO {a:Ad} {i:Int}:¬imm (bX a i):=dP (k:=6) rfl (by decide) (by decide)
theorem dM:¬imm jy:=dP (k:=8) rfl (by decide) (by decide)
theorem eN {w:W}:¬imm (qH w):=dP (k:=9) rfl (by decide) (by decide)
theorem fM {a b:Int}:¬imm (kM a b):=dP (k:=12) rfl (by decide) (by decide)
theorem cJ {α:Type} {P:α->Prop} {b:Bool} {t e:α} (h1:b=true->P t) (h2:b=false->P e):P (cond b t e):=by
 cases b
 ·exact h2 rfl
 ·exact h1 rfl
theorem eqI {a b:Int} (h:(a==b)=true):a=b:=of_decide_eq_true h
theorem neI {a b:Int} (h:(a==b)=false):a≠b:=of_decide_eq_false h
structure PileM.WF (n:Int) (j:PileM):Prop where
 kd:j.op.kind=1 \/ j.op.kind=2 \/ j.op.kind=3
 pc:j.pc=-1 \/ j.pc=0 \/ j.pc=1 \/ j.pc=2 \/ j.pc=3 \/ j.pc=4 \/ j.pc=5
 last:j.pc=-1->j.last.kind=12
 node:WOk n j.node
 top:WOk n j.top
 nz:j.op.kind≠1->(j.pc=2 \/ j.pc=3 \/ j.pc=4)->1<=j.top.slot
def PileM.rk (j:PileM):Nat:=if j.pc=4 then 1 else 0
def TJ (n:Int) (r0:Nat) (r:Cl×PileM):Prop:=NextOk n r.1 (r.2.WF n) True r0 r.2.rk
theorem K5 {n:Int} (h0:0<=n) {j:PileM} (h:j.WF n) {x:Rp1} (hx:WOk n x.w):TJ n j.rk (iH j x):=by
 obtain⟨pc,last,⟨kd,key,val,tall⟩,node,top,v⟩:=j
 obtain⟨hk,hp,hl,hn,ht,hz⟩:=h
 dsimp only at hk hp hl hn ht hz
 have nx:0<=x.w.slot:=hx.1
 unfold iH zz
 dsimp only [id]
 rcases hk with rfl | rfl | rfl<;>rcases hp with rfl | rfl | rfl | rfl | rfl | rfl | rfl <;>
  (repeat' (refine cJ (fun hb=>?_) (fun hb=>?_)<;>first | (exact absurd hb (by decide)) | skip)) <;>
  (refine⟨?_,⟨?_,?_,?_,?_,?_,?_⟩,?_,trivial⟩)
 all_goals dsimp only [PileM.rk]
 all_goals first
  | exact .inl rfl
  | exact .inl (hl rfl)
  | exact .inr (da h0)
  | exact .inr (aE h0 (cq (by decide) (by decide)))
  | exact .inr (cv h0 (cq (by decide) (by decide)) (by decide) (by decide))
  | exact .inr (cv h0 (ai (by assumption) (by decide) (by decide)) (by decide) (by decide))
  | exact .inr (aE h0 (ai (by assumption) (by decide) (by decide)))
  | exact .inr (az h0 (ai (by assumption) (by decide) (by decide)) (dj h0 _))
  | exact .inr (az h0 (ai (by assumption) (by decide) (by decide)) (aV hx))
  | exact .inr (aK (cq (by decide) (by decide)) (by assumption) (bI (by assumption)))
  | exact .inr (aK (ai (by assumption) (by decide) (by decide)) (by assumption) (bI (by assumption)))
  | exact .inr (dx h0 (by assumption) (hz (by decide) (by decide)))
  | assumption
  | exact fun _=>rfl
  | (intro h;first | exact absurd h (by decide) | exact absurd h bT | exact absurd h cR | exact absurd h cE | exact absurd h gO | exact absurd h dM | exact absurd h eN | exact absurd h fM | exact absurd h (dP (hl rfl) (by decide) (by decide)))
  | (intro h1 h2;first | (exact absurd rfl h1) | (exact absurd h1 (by decide)) | (exact absurd h2 (by decide)) | exact hz h1 (by decide) | (have:=neI (by assumption:(x.w.slot==0)=false);omega))
  | (intro _;simp)
  | decide
structure CortM.WF (n:Int) (j:CortM):Prop where
 kd:j.op.kind=4 \/ j.op.kind=5
 pc:j.pc=-1 \/ j.pc=0 \/ j.pc=1 \/ j.pc=2 \/ j.pc=3 \/ j.pc=4 \/ j.pc=5 \/ j.pc=6 \/ j.pc=7 \/ j.pc=8
 last:j.pc=-1->j.last.kind=12
 node:WOk n j.node
 h:WOk n j.h
 t:WOk n j.t
 n:WOk n j.n
 hz:j.op.kind≠4->(j.pc=2 \/ j.pc=3 \/ j.pc=4 \/ j.pc=6 \/ j.pc=7)->1<=j.h.slot
 nz:j.op.kind≠4->(j.pc=6 \/ j.pc=7)->1<=j.n.slot
def CortM.aw (c:Cl) (j:CortM):Prop:=j.op.kind≠4->j.pc=1->c.kind=6 /\ c.adr=bH 0
def CortM.rk (j:CortM):Nat:=if j.pc=7 then 1 else 0
def TK (n:Int) (r0:Nat) (r:Cl×CortM):Prop:=NextOk n r.1 (r.2.WF n) (r.2.aw r.1 /\ hdW r.1) r0 r.2.rk
theorem Mg {n:Int} (h0:0<=n) {j:CortM} (h:j.WF n) {c:Cl} (ha:j.aw c) {x:Rp1} (hr:RpFor n true c x):TK n j.rk (iY j x):=by
 obtain⟨pc,last,⟨kd,key,val,tall⟩,node,hh,tt,nn,v⟩:=j
 obtain⟨hk,hp,hl,hn,h1,h2,h3,hz,nz⟩:=h
 dsimp only [CortM.aw] at hk hp hl hn h1 h2 h3 hz nz ha
 have hx:WOk n x.w:=hr.w
 have nx:0<=x.w.slot:=hx.1
 have nn0:0<=nn.slot:=h3.1
 unfold iY AM
 dsimp only [id]
 rcases hk with rfl | rfl<;>rcases hp with rfl | rfl | rfl | rfl | rfl | rfl | rfl | rfl | rfl | rfl <;>
  (repeat' (refine cJ (fun hb=>?_) (fun hb=>?_)<;>first | (exact absurd hb (by decide)) | skip)) <;>
  (refine⟨?_,⟨?_,?_,?_,?_,?_,?_,?_,?_,?_⟩,?_,⟨?_,?_⟩⟩)
 all_goals dsimp only [CortM.rk,CortM.aw]
 all_goals first
  | exact .inl rfl
  | exact .inl (hl rfl)
  | exact .inr (da h0)
  | exact .inr (aE h0 (cq (by decide) (by decide)))
  | exact .inr (cv h0 (cq (by decide) (by decide)) (by decide) (by decide))
  | exact .inr (cv h0 (ai (by assumption) (by decide) (by decide)) (by decide) (by decide))
  | exact .inr (aE h0 (ai (by assumption) (by decide) (by decide)))
  | exact .inr (az h0 (ai (by assumption) (by decide) (by decide)) (dj h0 _))
  | exact .inr (az h0 (ai (by assumption) (by decide) (by decide)) (aV hx))
  | exact .inr (aK (cq (by decide) (by decide)) (by assumption) (bI (by assumption)))
  | exact .inr (aK (ai (by assumption) (by decide) (by decide)) (by assumption) (bI (by assumption)))
  | exact .inr (dx h0 (by assumption) (hz (by decide) (by decide)))
  | assumption
  | exact fun _=>rfl
  | (intro h;first | exact absurd h (by decide) | exact absurd h bT | exact absurd h cR | exact absurd h cE | exact absurd h gO | exact absurd h dM | exact absurd h eN | exact absurd h fM | exact absurd h (dP (hl rfl) (by decide) (by decide)))
  | (intro g1 g2;first | (exact⟨rfl,rfl⟩) | (have hq:=ha (by decide) rfl;exact hr.hd rfl hq.1 (by rw [hq.2];rfl) (by rw [hq.2];rfl)) | (exact absurd rfl g1) | (exact absurd g1 (by decide)) | (exact absurd g2 (by decide)) | exact hz g1 (by decide) | exact nz g1 (by decide) | (have:=neI (by assumption:(nn.slot==0)=false);omega))
  | exact wL (k:=3) rfl (by decide) (by decide)
  | exact wL (k:=6) rfl (by decide) (by decide)
  | exact wL (k:=8) rfl (by decide) (by decide)
  | exact wL (k:=10) rfl (by decide) (by decide)
  | exact wL (k:=12) rfl (by decide) (by decide)
  | exact wL (hl rfl) (by decide) (by decide)
  | exact N0 (k:=1) rfl (by decide)
  | exact N0 (k:=2) rfl (by decide)
  | exact fun _ _ _=>nz (by decide) (by decide)
  | (intro _;simp)
  | decide
structure WalkM.WF (n:Int) (w:WalkM):Prop where
 start:AOk n w.start
 prev:AOk n w.prev
 cur:WOk n w.cur
 next:WOk n w.next
 pc:w.pc=-1 \/ w.pc=0 \/ w.pc=1 \/ w.pc=2 \/ w.pc=3 \/ w.pc=4 \/ w.pc=5 \/ w.pc=6 \/ w.pc=7 \/ w.pc=8
 nz:(w.pc=2 \/ w.pc=3 \/ w.pc=4 \/ w.pc=5 \/ w.pc=6 \/ w.pc=7 \/ w.pc=8)->1<=w.cur.slot
 fd:w.found=true->w.pc=-1 /\ 1<=w.cur.slot
def WalkM.rk (w:WalkM):Nat:=if w.pc=4 \/ w.pc=5 then 2 else if w.pc=6 \/ w.pc=7 then 1 else 0
structure WalkOk (n:Int) (pc0:Int) (r0:Nat) (r:(Cl×Bool)×WalkM):Prop where
 on:r.1.2=true->kR n r.1.1
 wf:r.2.WF n
 rk:r.1.2=true->imm r.1.1->r.2.rk < r0
 off:r.1.2=false->r.2.pc=-1
 st:pc0=0->r.1.2=true
theorem xz {n:Int} (h0:0<=n) {w:WalkM} (h:w.WF n) {x:Rp1} (hx:WOk n x.w):WalkOk n w.pc w.rk (bz w x):=by
 obtain⟨pc,last,start,key,prev,cur,next,k,found⟩:=w
 obtain⟨hs,hpv,hc,hn,hp,hz,hf⟩:=h
 dsimp only at hs hpv hc hn hp hz hf
 have nx:0<=x.w.slot:=hx.1
 have nn:0<=next.slot:=hn.1
 unfold bz yS
 dsimp only [id]
 rcases hp with rfl | rfl | rfl | rfl | rfl | rfl | rfl | rfl | rfl | rfl <;>
  (repeat' (refine cJ (fun hb=>?_) (fun hb=>?_)<;>first | (exact absurd hb (by decide)) | skip)) <;>
  (refine⟨?_,⟨?_,?_,?_,?_,?_,?_,?_⟩,?_,?_,?_⟩)
 all_goals dsimp only [WalkM.rk]
 all_goals first
  | assumption
  | exact fun h=>absurd h (by decide)
  | decide
  | exact fun _=>cv h0 (by assumption) (by decide) (by decide)
  | exact fun _=>cv h0 (ai (by assumption) (by decide) (by decide)) (by decide) (by decide)
  | exact fun _=>aE h0 (ai (by assumption) (by decide) (by decide))
  | exact fun _=>aE h0 (by assumption)
  | exact fun _=>aK (by assumption) (by assumption) (bI (by assumption))
  | exact fun _=>xm h0 (by unfold rR;decide)
  | exact fun _=>dx h0 (by assumption) (hz (by decide))
  | exact fun _=>hz (by decide)
  | exact fun _=>(by have:=neI (by assumption:(x.w.slot==0)=false);omega)
  | exact fun _=>(by have:=neI (by assumption:(next.slot==0)=false);omega)
  | exact fun _=>(by have:=neI (by assumption:((wTo cur next).slot==0)=false);show 1<=next.slot;exact(by have h:next.slot≠0:=this;omega))
  | exact fun h=>absurd (hf h).1 (by decide)
  | exact fun h=>⟨rfl,(hf h).2⟩
  | exact fun _=>⟨rfl,hz (by decide)⟩
  | exact fun _ h=>absurd h bT
  | exact fun _ h=>absurd h cE
  | exact fun _ h=>absurd h gO
  | exact fun _ _=>(by simp)
  | exact bI hn
  | exact ai hc (by decide) (by decide)
  | exact fun _=>rfl
theorem nL {n:Int} (h0:0<=n) {a:Ad} (ha:AOk n a) (k:Int):(eY (a,k)).WF n :=
 ⟨ha,ha,ao h0,ao h0,.inr (.inl rfl),fun h=>absurd h (by show ¬((0:Int)=2 \/ (0:Int)=3 \/ (0:Int)=4 \/ (0:Int)=5 \/ (0:Int)=6 \/ (0:Int)=7 \/ (0:Int)=8);decide),fun h=>by cases h⟩
structure LitM.WF (n:Int) (j:LitM):Prop where
 kd:j.op.kind=6 \/ j.op.kind=7 \/ j.op.kind=8
 start:AOk n j.start
 pc:(j.op.kind=6 /\ (j.pc=-1 \/ j.pc=0 \/ j.pc=1 \/ j.pc=2 \/ j.pc=3 \/ j.pc=4 \/ j.pc=5 \/ j.pc=6 \/ j.pc=7)) \/ (j.op.kind=7 /\ (j.pc=-1 \/ j.pc=0 \/ j.pc=1 \/ j.pc=2 \/ j.pc=3 \/ j.pc=4 \/ j.pc=5 \/ j.pc=6)) \/ (j.op.kind=8 /\ (j.pc=-1 \/ j.pc=0 \/ j.pc=1 \/ j.pc=2))
 last:j.pc=-1->j.last.kind=12
 node:WOk n j.node
 nd:j.op.kind=6->(j.pc=2 \/ j.pc=3 \/ j.pc=4 \/ j.pc=5 \/ j.pc=6 \/ j.pc=7)->1<=j.node.slot
 wk:∀w,j.walk=some w->w.WF n
 cz:j.op.kind=7->(j.pc=2 \/ j.pc=3 \/ j.pc=4)->∃w,j.walk=some w /\ 1<=w.cur.slot
def LitM.aw (c:Cl) (j:LitM):Prop:=j.op.kind=6->j.pc=1->c.kind=8
def wrk:Option WalkM->Nat
 | none=>0
 | some w=>w.rk
def LitM.rk (j:LitM):Nat:=wrk j.walk+if j.op.kind=7 /\ j.pc=4 then 1 else 0
def UE (n:Int) (r0:Nat) (r:Cl×LitM):Prop:=NextOk n r.1 (r.2.WF n) (r.2.aw r.1) r0 r.2.rk
theorem eQ {n:Int} {w:WalkM} (h:w.WF n):∀w',some w=some w'->w'.WF n:=fun w' e=>by cases e;exact h
theorem l9 {n:Int}:∀w',(none:Option WalkM)=some w'->w'.WF n:=fun w' e=>by cases e
end Go.Proofs.YtcpdipfepeccgaaGreatDoor
