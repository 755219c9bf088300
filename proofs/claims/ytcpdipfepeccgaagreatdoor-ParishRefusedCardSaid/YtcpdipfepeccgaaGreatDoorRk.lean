import Derived.Test.YtcpdipfepeccgaaGreatDoorRd
import Derived.Test.YtcpdipfepeccgaaGreatDoorQw
set_option maxHeartbeats 4000000
set_option linter.unusedSimpArgs false
set_option linter.unusedVariables false
namespace Go.Proofs.YtcpdipfepeccgaaGreatDoor
open Go Go.Sx Go.Proofs
set_option maxRecDepth 100000
variable {σ:Sg} {lp:Lp}
theorem enter_opn {N:Env AV} {nt:Nat} {E:Ev} {H H':Hp AV} (ho:Opn N H H') (hc':ClHp N H') (hs:shapeB H H'=true):Enter N nt {E:=E,H:=H} {E:=E,H:=H'}:=fun hc=>by
 obtain⟨len,pers,non⟩:=shapeB_spec hs
 refine⟨⟨fun k=>(hc.E k).mono pers,hc'.1⟩,len,fun ρ a w hat=>?_⟩
 obtain⟨ρ1,o1,l1,f1⟩:=ho ρ w hat.own
 refine⟨ρ1,⟨⟨hat.em.size,fun k hk=>?_⟩,o1⟩,⟨pers,fun n c h=>l1 n (hget_lt h),non,len,fun _ _ _=>rfl,fun n c k h hk=>.inr (f1 n c k h hk),rfl,rfl,rfl,Nat.le_refl _⟩⟩
 rw [hat.em.get k hk]
 exact(SV.den_congr (hc.E k) fun m c h=>l1 m (hget_lt h)).symm
noncomputable def LN:Code:=loopAt 5 (loopsOf (bodyOf Tryz.f41))
def ksN:List Nat:=[6,7]
abbrev tPlo:TypeId:=78
def plotC (n:Nat) (len:Nat):List Cell:=[.vs 8 0 85 5 true,.vs 9 0 n 52 false,.vs 11 0 len 1 false,.il .i64 0,.il .i64 0,.inil]
def hpN (b:List W) (sl:List Sl) (n:Nat) (l:List N1) (len:Nat):Hp AV:=hpO noM [.words b,.slots sl]++[some (.cells (plotC n len) tPlo),some (.abs (.ints l))]
def famN (b:List W) (sl:List Sl) (n:Nat) (i:Int) (l:List N1) (len:Nat):St AV:={E:=only ksN [(6,.v (.c (.ptr 10 0))),(7,.v (.c (.it .i64 i)))] 45,H:=hpN b sl n l len}
def sizeI (σ:Sg) (n:Nat) (l:List N1):Bool:=decide (n=Intf.len (F6 σ) (AV.ints l) /\ (n+1) * (SI.bytes si24+1)<=lim)
theorem nR (σ:Sg) (b:List W) (sl:List Sl) (n:Nat) (i:Int) (l:List N1) (len:Nat):(xc (NV σ) (joinCal (lv (NV σ) tab0 5)) (fun _=>none) 45 LN (famN b sl n i l len)).bind (backS 11 45 ksN noPk) =
 .ite (decide (i>=1)) (.need (sizeI σ len l) (.leaf (.normal,famN b sl n (IntKind.wrap .i64 (i - 1)) (l++[⟨i⟩]) (len+1)))) (.leaf (.exit 0,famN b sl n i l len)):=by kernel_rfl
def downN:Nat->List N1
 | 0=>[]
 | n+1=>⟨(n+1:Nat)⟩::downN n
theorem downN_len:∀n,(downN n).length=n
 | 0=>rfl
 | n+1=>congrArg (·+1) (downN_len n)
structure MN where
 i:Nat
 l:List N1
def goN (m:MN):Ex×MN:=match m.i with
 | 0=>(.exit 0,m)
 | i+1=>(.normal,⟨i,m.l++[⟨(i+1:Nat)⟩]⟩)
def stepN (m:MN):T (Ex×MN):=.need (decide (m.i<=1024 /\ m.l.length+m.i<=1024)) (.leaf (goN m))
theorem iterN:∀(i:Nat) (l:List N1),l.length+i<=1024->iter stepN (i+1) ⟨i,l⟩=some (.exit 0,⟨0,l++downN i⟩)
 | 0,l,h=>by
   rw [iter,stepN,nv (decide_eq_true ⟨Nat.zero_le _,h⟩)]
   simp only [T.val,goN,downN,List.append_nil]
 | i+1,l,h=>by
   rw [iter,stepN,nv (decide_eq_true ⟨by show i+1<=1024;omega,h⟩)]
   simp only [T.val,goN]
   rw [iterN i _ (by rw [List.length_append];simp only [List.length_cons,List.length_nil];omega)]
   simp only [downN,List.append_assoc,List.singleton_append]
theorem sizeI_of {n:Nat} {l:List N1} (h:n=l.length) (hn:l.length<=100000):sizeI σ n l=true:=by
 unfold sizeI
 subst h
 exact decide_eq_true ⟨rfl,Nat.le_trans (Nat.mul_le_mul_right _ (Nat.succ_le_succ hn)) (by decide)⟩
def famNM (b:List W) (sl:List Sl) (n:Nat) (m:MN):St AV:=famN b sl n (m.i:Int) m.l m.l.length
theorem stepN_run (σ:Sg) (b:List W) (sl:List Sl) (n:Nat) (m:MN) (r:Ex×MN) (h:(stepN m).val=some r) :
 ((xc (NV σ) (joinCal (lv (NV σ) tab0 5)) (fun _=>none) 45 LN (famNM b sl n m)).bind (backS 11 45 ksN noPk)).val=some (r.1,famNM b sl n r.2):=by
 obtain⟨hb,h⟩:=need_some (h:(T.need _ _).val=_)
 obtain⟨h1,h2⟩:=of_decide_eq_true hb
 obtain⟨i,l⟩:=m
 simp only [T.val,Option.some.injEq] at h
 subst h
 show ((xc (NV σ) _ _ 45 LN (famN b sl n i l l.length)).bind _).val=_
 rw [nR]
 cases i with
 | zero=>rw [ivF (by simp)];rfl
 | succ i =>
   rw [ivT (by simp;omega),nv (sizeI_of rfl (by dsimp only at h2;omega))]
   show some (Ex.normal,famN b sl n (IntKind.wrap .i64 (((i+1:Nat):Int) - 1)) (l++[(⟨((i+1:Nat):Int)⟩:N1)]) (l.length+1))=_
   rw [wrapI (by dsimp only at h1;omega),show (((i+1:Nat):Int) - 1)=(i:Int) by omega]
   show _=some (Ex.normal,famN b sl n (i:Int) (l++[(⟨((i+1:Nat):Int)⟩:N1)]) (l++[(⟨((i+1:Nat):Int)⟩:N1)]).length)
   rw [List.length_append];rfl
theorem vec_pack {α:Type} (K:AK α) {a:AV} {l:List Cell} {n:Nat} {rs:List α} (ha:a.arr=some (K.es,K.ty,K.vals rs)) (h:K.decs n l=some rs):Lesser (NV σ) (.vec l K.es K.ty) (.abs a):=by
 obtain⟨h1,h2⟩:=K.decs_ok h
 intro ρ n w
 refine⟨fun hv=>?_,fun k=>Iff.rfl⟩
 refine(((NV σ).F.arr_q a _ _ _ (show (NV σ).F.arr a=_ from ha)).2 _ _ _).2 ?_
 have hv:vecQ (ρ.L n) (ρ.S n) (denL ρ l) K.es K.ty w:=hv
 rw [h1,show denL Nm.id l=denL ρ l from List.map_congr_left fun c hc=>den_congr _ fun m hm=>by rw [h2 c hc] at hm;cases hm]
 exact hv
def zBoard:List Cell:=repsL [.il .i64 0,.il .i64 0,.il .i64 0,.il .i64 0,.bl false] 85
def zWords:List W:=List.replicate 85 wNil
def plotC0 (n:Nat):List Cell:=[.vs 8 0 85 5 true,.vs 9 0 n 52 false,.snil,.il .i64 0,.il .i64 0,.inil]
def hpN0 (sl:List Sl) (n:Nat):Hp AV:=hpO noM []++[some (.vec zBoard 5 107),some (.abs (.slots sl)),some (.cells (plotC0 n) tPlo)]
def entN (sl:List Sl) (n:Nat) (s:St AV):Prop:=Sx.look s.E 6=.v (.c (.ptr 10 0)) /\ Sx.look s.E 7=.v (.c (.it .i64 n)) /\ s.H=hpN0 sl n
noncomputable def gN (sl:List Sl) (n:Nat) (s:St AV):T (Ex×St AV):=.need (decC (entN sl n s /\ n<=1024)) (.leaf (.exit 0,famN zWords sl n 0 (downN n) n))
theorem gN_ok {N':Env AV} (hF:N'.F=(NV σ).F) (hG:N'.G=(NV σ).G) (sl:List Sl) (n:Nat):LoopOk Tryz.prog N' 45 LN (gN sl n):=by
 have hcal:CalOk Tryz.prog (NV σ) (joinCal (lv (NV σ) tab0 5)):=joinCal_ok (lv_ok okV lpsV hvV tab0_ok 5)
 refine loopOk_it (N:=NV σ) hF hG okV hcal (lp:=fun _=>none) (fun _ _ _ g hg=>by cases hg) fun s s' ex hgs=>?_
 obtain⟨E1,H1⟩:=s
 unfold gN at hgs
 replace hgs:=need_some hgs
 obtain⟨hb,hgs⟩:=hgs
 obtain⟨⟨e6,e7,eH⟩,hn⟩:=decC_of hb
 simp only at e6 e7 eH
 subst eH
 simp only [T.val,Option.some.injEq,Prod.mk.injEq] at hgs
 obtain⟨rfl,rfl⟩:=hgs
 have hC:ClHp (NV σ) (lset (hpN0 sl n) 8 (some (.abs (.words zWords)))):=clHs_spec (by kernel_rfl)
 refine⟨{M:=MN,fam:=famNM zWords sl n,step:=stepN,ks:=ksN,pk:=noPk,hpk:=fun d a h=>(by cases h),L:=11,len:=rfl,hGL:=(by show 8<=11;decide),run:=stepN_run σ zWords sl n,m:=⟨n,[]⟩,k:=n+1,m':=⟨0,downN n⟩,ent:=?_,it:=(by rw [iterN n [] (by simpa using hn)];rfl),fin:=(by unfold famNM;simp only [downN_len];rfl)}⟩
 refine Enter.trans (enter_pack (nt:=45) (E:=E1) (E':=[(6,.v (.c (.ptr 10 0))),(7,.v (.c (.it .i64 n)))]) (ks:=ksN) (n:=8) (c:=.vec zBoard 5 107) (c':=.abs (.words zWords)) rfl (vec_pack kwords (n:=85) rfl (by kernel_rfl)) rfl fun k hk=>?_) ?_
 ·simp only [ksN,List.mem_cons,List.not_mem_nil,or_false] at hk
  rcases hk with rfl | rfl
  ·exact .inl e6.symm
  ·exact .inl e7.symm
 ·refine enter_opn (H':=hpN zWords sl n [] 0) (opn_nil (N:=NV σ) (n:=10) (l:=plotC0 n) (l':=plotC n 0) (ty:=tPlo) (a:=.ints []) hC rfl rfl (fun ρ ρ' e1 e2=>?_) (by show 8<=11;decide)) (clHs_spec (by kernel_rfl)) (by kernel_rfl)
  have e8:ρ'.L 8=ρ.L 8:=e1 8 (by show 8 < 11;decide)
  have e9:ρ'.L 9=ρ.L 9:=e1 9 (by show 9 < 11;decide)
  have e11:ρ'.L 11=⟨0,0,0⟩:=e2
  simp only [plotC,plotC0,denL,List.map_cons,List.map_nil,Cell.den,e8,e9,e11]
  rfl
noncomputable def runNl (lp:Lp) (σ:Sg) (tab:Tab) (f:FuncId) (M:List Bool) (args:List SV) (l:List AV):T (SV×List AV×List AV) :=
 (Q.bind (Q.lv (NVl lp σ) tab 24 (.fn f) args (hpO M l)) (closeT (viewV σ) isS M l.length [])).map nrmR
theorem runNl_ok (hlp:LpsOk Tryz.prog (NVl lp σ)) {tab:Tab} (ht:TabOk Tryz.prog (NVl lp σ) tab) {f:FuncId} {M:List Bool} (hM:8=M.length) {args:List SV} {l:List AV} {v:SV} {l' nw:List AV}
 (hargs:∀x∈args,ClV (hpO M l) x) (h:(runNl lp σ tab f M args l).val=some (v,l',nw)):Ctr Tryz.prog (NVl lp σ) f args (hpO M l) v (hpO M (l'++nw)) /\ l'.length=l.length:=by
 unfold runNl at h
 obtain⟨v0,rfl,h0⟩:=map_nrm h
 rw [Q.bind_eq,Q.lv_eq] at h0
 obtain⟨⟨v1,H2⟩,hr,hc⟩:=T.bind_some h0
 exact(fun x=>⟨ctr_nrm x.1,x.2⟩) (closeT_ok (N:=NVl lp σ) (viewV_ok rfl) isS_ok hM hargs (Opn.refl _) (fun m c h=>⟨c,h⟩) ((fnVl hlp ht 24 f).ctr hr hargs ⟨(hpO_cl (σ:=σ) M l).1,trivial⟩) hc)
def slZ:Sl:=⟨0,false,[wNil,wNil,wNil,wNil,wNil,wNil,wNil,wNil,wNil,wNil]⟩
def newPlot (n:Nat):PlotM:=⟨zWords,List.replicate n slZ,downN n,0,0,none⟩
noncomputable def lpNw (n:Nat):Lp:=lpAdd 41 5 (gN (List.replicate n slZ) n) noLp
theorem lpsNw (n:Nat):LpsOk Tryz.prog (NVl (lpNw n) σ) :=
 lpsAdd lps0 (fn:=Tryz.f41) (by kernel_rfl) (c:=bodyOf Tryz.f41) (by kernel_rfl) (nt:=45) (by kernel_rfl) (b:=LN) (oneLoop_spec (by kernel_rfl)) (gN_ok (σ:=σ) (N':=NVl noLp σ) rfl rfl _ n)
def entNv (n:Nat):Prop:=(SV.v (.c (.ptr 10 0))=.v (.c (.ptr 10 0)) /\ SV.v (.c (.it .i64 n))=.v (.c (.it .i64 n)) /\ hpN0 (List.replicate n slZ) n=hpN0 (List.replicate n slZ) n) /\ n<=1024
@[reducible] def oPlot:ObK PlotM:=⟨AV.plot,fun | .plot m=>some m | _=>none,fun a j h=>by split at h<;>cases h;rfl,fun _=>rfl⟩
theorem newPlotR (σ:Sg) (n:Nat):(runNl (lpNw n) σ tab0 41 noM [.v (.c (.it .i64 (Int.ofNat n))),.v (.c (.il .i64 85))] []).map (decNE oPlot) =
 .ite (orB (decide (Int.ofNat n < 0)) (orB (decide (Int.ofNat n > 1024)) (decide ((85:Int) > 200)))) (.fail "load") (.need (decide (0<=Int.ofNat n /\ Int.ofNat n=Int.ofNat n /\ (Int.ofNat n).toNat * (SI.bytes si76+1)<=lim)) (.need (decC (entNv n))
  (.need true (.need (decide (n=(List.replicate n slZ).length)) (.need (decide (n=(downN n).length)) (.need true (.leaf (some (newPlot n))))))))):=by kernel_rfl
def aI2:ArgK (Int×Int) where
 enc x:=[.v (.c (.it .i64 x.1)),.v (.c (.it .i64 x.2))]
 dec:=fun | [.v (.c a),.v (.c b)]=>(match iOf a,iOf b with | some a,some b=>some (a,b) | _,_=>none) | _=>none
 ok:=fun l a h ρ=>by
  split at h
  ·split at h
   ·rename_i h0 h1
    cases h
    simp only [List.map_cons,List.map_nil,SV.den,V1.den,iOf_den h0 ρ,iOf_den h1 ρ];rfl
   ·cases h
  ·cases h
 free:=fun _=>rfl
theorem newPlot_run (σ:Sg) (n:Nat) (hn:n<=1024):((runNl (lpNw n) σ tab0 41 noM [.v (.c (.it .i64 (Int.ofNat n))),.v (.c (.il .i64 85))] []).map (decNE oPlot)).val=some (some (newPlot n)):=by
 rw [newPlotR]
 have e:orB (decide (Int.ofNat n < 0)) (orB (decide (Int.ofNat n > 1024)) (decide ((85:Int) > 200)))=false:=by
  rw [decide_eq_false (show ¬Int.ofNat n < 0 by simp),decide_eq_false (show ¬Int.ofNat n > 1024 by simp;omega)];rfl
 rw [ivF e]
 refine(nv (decide_eq_true ⟨by simp,rfl,Nat.le_trans (Nat.mul_le_mul_right _ (show (Int.ofNat n).toNat<=1024 from hn)) (by decide)⟩)).trans ((nv (decC_t ⟨⟨rfl,rfl,rfl⟩,hn⟩)).trans ((nv rfl).trans ((nv (decide_eq_true List.length_replicate.symm)).trans ((nv (decide_eq_true (downN_len n).symm)).trans (nv rfl)))))
theorem newPlot_ok:FnOk Tryz.prog (NV σ) 41 (sumG isS noM (newE aI2 oPlot (fun x=>some (decide (0<=x.1 /\ x.1<=1024 /\ x.2=85))) (fun x=>newPlot x.1.toNat))):=by
 refine sumG_ok isS_ok rfl fun args l v l' nw h hl hargs=>?_
 unfold newE at h
 split at h
 ·split at h
  ·rename_i x hx
   replace h:=needO_some h
   obtain⟨hok,h⟩:=h
   obtain⟨h1,h2,h3⟩:=of_decide_eq_true (show decide _=true from hok)
   simp only [T.val,Option.some.injEq,Prod.mk.injEq] at h
   obtain⟨rfl,rfl,rfl⟩:=h
   obtain⟨i,c⟩:=x
   dsimp only at h1 h2 h3
   subst h3
   obtain⟨n,rfl⟩:∃n:Nat,i=Int.ofNat n:=⟨i.toNat,by simp;omega⟩
   obtain⟨y,g1,g2⟩:=map_some (newPlot_run σ n (by simp at h2;omega))
   have g2:=decNE_spec g2
   subst g2
   have hc:=ctr_nv (runNl_ok (lpsNw n) (tabL tab0_ok) (M:=noM) rfl (svsFree_cl rfl) g1).1
   exact ctr_args hc fun ρ=>by rw [<- aI2.ok _ _ hx ρ];rfl
  ·simp [T.val] at h
 ·simp [T.val] at h
end Go.Proofs.YtcpdipfepeccgaaGreatDoor

namespace Go.Proofs.YtcpdipfepeccgaaGreatDoor
open Go Go.Sx Go.Proofs
set_option maxRecDepth 100000
variable {σ:Sg} {lp:Lp}
noncomputable def closeN (σ:Sg) (M:List Bool) (r:SV×Hp AV):T (SV×List AV×List AV):=match r.1 with
 | .tup [.c (.ptr n 0),.c .inil]=>match hget r.2 n with
   | some (.cells [_,_,.vs n2 _ _ _ _,_] _)=>closeP σ M 0 n2 (hpO M []) r
   | _=>.fail "new: no parish"
 | _=>.fail "new: no parish"
noncomputable def runNP (lp:Lp) (σ:Sg) (tab:Tab) (f:FuncId) (M:List Bool) (args:List SV):T (SV×List AV×List AV) :=
 (Q.bind (Q.lv (NVl lp σ) tab 24 (.fn f) args (hpO M [])) (closeN σ M)).map nrmR
theorem runNP_ok (hlp:LpsOk Tryz.prog (NVl lp σ)) {tab:Tab} (ht:TabOk Tryz.prog (NVl lp σ) tab) {f:FuncId} {M:List Bool} (hM:8=M.length) {args:List SV} {v:SV} {l' nw:List AV}
 (hargs:∀x∈args,ClV (hpO M []) x) (h:(runNP lp σ tab f M args).val=some (v,l',nw)):Ctr Tryz.prog (NVl lp σ) f args (hpO M []) v (hpO M (l'++nw)):=by
 unfold runNP at h
 obtain⟨v0,rfl,h0⟩:=map_nrm h
 rw [Q.bind_eq,Q.lv_eq] at h0
 obtain⟨⟨v1,H2⟩,hr,hc⟩:=T.bind_some h0
 have hctr:=(fnVl hlp ht 24 f).ctr hr hargs ⟨(hpO_cl (σ:=σ) M []).1,trivial⟩
 unfold closeN at hc
 split at hc
 ·rename_i n hv1
  dsimp only at hc
  split at hc
  ·rename_i n2 _ _ _ _ _ _ hn
   unfold closeP at hc
   obtain⟨⟨a0,ns⟩,hv,hc⟩:=T.bind_some hc
   dsimp only at hc
   split at hc
   ·rename_i c1 c2 c3
    have hfl:Fl (NVl lp σ) H2 (deadF (hpO M []) (foldH n2 ns a0 0 H2)):=(fl_fold ((viewV_ok (N:=NVl lp σ) rfl) H2 n2 a0 ns hv)).trans (fl_deadF (hpO M []) _)
    generalize deadF (hpO M []) (foldH n2 ns a0 0 H2)=R at *
    have hfd:Fld (NVl lp σ) H2 R:=fun ρ w hO=>by
     obtain⟨ρ1,o1,e1,f1⟩:=hfl ρ w hO
     exact⟨ρ1,o1,fun m _ _=>e1 m,f1⟩
    obtain⟨s1,s2,s3⟩:=shapeB_spec c1
    have hctA:=ctr_via (Opn.refl _) (fun m c h=>⟨c,h⟩) hctr hfd hargs (clVs_iff.1 c2 v1 (List.mem_cons_self)) ⟨clHs_iff.1 c3,trivial⟩ s2 s3 s1
    exact ctr_nrm (closeT_ok (N:=NVl lp σ) (l:=[]) (viewV_ok rfl) isS_ok hM hargs (Opn.refl _) (fun m c h=>⟨c,h⟩) hctA hc).1
   ·simp [T.val] at hc
  ·simp [T.val] at hc
 ·simp [T.val] at hc
def aI5:ArgK (Int×Int×Int×Int×Int) where
 enc x:=[.v (.c (.it .i64 x.1)),.v (.c (.it .i64 x.2.1)),.v (.c (.it .i64 x.2.2.1)),.v (.c (.it .i64 x.2.2.2.1)),.v (.c (.it .i64 x.2.2.2.2))]
 dec:=fun | [.v (.c a),.v (.c b),.v (.c c),.v (.c d),.v (.c e)]=>(match iOf a,iOf b,iOf c,iOf d,iOf e with | some a,some b,some c,some d,some e=>some (a,b,c,d,e) | _,_,_,_,_=>none) | _=>none
 ok:=fun l a h ρ=>by
  split at h
  ·split at h
   ·rename_i h0 h1 h2 h3 h4
    cases h
    simp only [List.map_cons,List.map_nil,SV.den,V1.den,iOf_den h0 ρ,iOf_den h1 ρ,iOf_den h2 ρ,iOf_den h3 ρ,iOf_den h4 ρ];rfl
   ·cases h
  ·cases h
 free:=fun _=>rfl
def verOf (s:Int) (r:RiteM) (e:Int):VerM:=⟨s,e,r,0,clNone,⟨0,0,0,0⟩,none,⟨0,0⟩⟩
noncomputable def tabVn (bad:Int->Int->Int->Int->Bool) (mr:Int×Int×Int×Int->RiteM):Tab:=tabAdd 47 (sumG isS noM (newE aI4 oRite (fun x=>some (!(bad x.1 x.2.1 x.2.2.1 x.2.2.2))) mr)) tab0
theorem verNewR (σ:Sg) (bad:Int->Int->Int->Int->Bool) (mr:Int×Int×Int×Int->RiteM) (s e me th no:Int):(runN σ (tabVn bad mr) 27 noM (aI5.enc (s,e,me,th,no)) []).map (decNE oVer) =
 .ite (orB (decide (s < 1)) (decide (s > 5))) (.fail "load") (.need (!(bad e me th no)) (.need true (.leaf (some (verOf s (mr (e,me,th,no)) e))))):=by kernel_rfl
def newVer (x:Int×Int×Int×Int×Int):VerM:=verOf x.1 (newRite (x.2.1,x.2.2.1,x.2.2.2.1,x.2.2.2.2)) x.2.1
def badVer (x:Int×Int×Int×Int×Int):Bool:=orB (orB (decide (x.1 < 1)) (decide (x.1 > 5))) (badRi x.2.1 x.2.2.1 x.2.2.2.1 x.2.2.2.2)
theorem verNew_ok:FnOk Tryz.prog (NV σ) 27 (sumG isS noM (newE aI5 oVer (fun x=>some (!(badVer x))) newVer)) :=
 newE_ok (tab:=tabVn badRi newRite) (tabAdd_ok riNew_ok tab0_ok) rfl fun x h=>⟨aI5.enc x,rfl,fun _=>rfl,by
  obtain⟨s,e,me,th,no⟩:=x
  have h:(!(orB (orB (decide (s < 1)) (decide (s > 5))) (badRi e me th no)))=true:=h
  rw [verNewR]
  cases h1:orB (decide (s < 1)) (decide (s > 5)) with
  | true=>rw [h1] at h;cases h
  | false =>
    rw [h1] at h
    cases h2:badRi e me th no with
    | true=>rw [h2] at h;cases h
    | false=>rfl⟩
structure NwF where
 np:Int->PlotM
 bad:Int×Int×Int×Int×Int->Bool
 mv:Int×Int×Int×Int×Int->VerM
noncomputable def tabNw (σ:Sg) (F:NwF):Tab:=tabAdd 41 (sumG isS noM (newE aI2 oPlot (fun x=>some (decide (0<=x.1 /\ x.1<=1024 /\ x.2=85))) (fun x=>F.np x.1)))
 (tabAdd 38 (sumG isS mDo (doS σ)) (tabAdd 27 (sumG isS noM (newE aI5 oVer (fun x=>some (!(F.bad x))) F.mv)) tab0))
noncomputable def mNw:List Bool:=mkM 14
def decNP:SV×List AV×List AV->Option ParM
 | (.tup [.c (.ptr 8 0),.c .inil],[],[.par a])=>some a
 | _=>none
def cfgA (s:Nat) (e:Int) (n:Nat) (sl no:Int):List SV:=[.v (.agg [.il .i64 (Int.ofNat s),.it .i64 e,.il .i64 (Int.ofNat n),.it .i64 sl,.it .i64 no])]
noncomputable def runNw (σ:Sg) (F:NwF) (s:Nat) (e:Int) (n:Nat) (sl no:Int):T (Option ParM):=(runNP noLp σ (tabNw σ F) 14 mNw (cfgA s e n sl no)).map decNP
end Go.Proofs.YtcpdipfepeccgaaGreatDoor

namespace Go.Proofs.YtcpdipfepeccgaaGreatDoor
open Go Go.Sx Go.Proofs
set_option maxRecDepth 100000
variable {σ:Sg} {lp:Lp}
def aStr (f:Int) (w:W):Acc:=⟨2,0,0,f,wNil,w⟩
def aNew:Acc:=⟨4,0,0,0,wNil,wNil⟩
section
variable {β:Type} (I:Bool->β->β->β) (N:Bool->β->β) (fl:β)
def lay2 (f1 f2:Int) (w1 w2:W->W) (p:PlotM) (k:PlotM->β):β :=
 let r:=p.access aNew
 N (decide p.Ok) (I true (I (!r.1.ok) fl (N (decide r.2.Ok) (I (decide (r.2.valid (aStr f1 (w1 r.1.w)))) (N (decide (r.2.access (aStr f1 (w1 r.1.w))).2.Ok)
   (I (decide ((r.2.access (aStr f1 (w1 r.1.w))).2.valid (aStr f2 (w2 r.1.w)))) (k ((r.2.access (aStr f1 (w1 r.1.w))).2.access (aStr f2 (w2 r.1.w))).2) fl)) fl))) fl)
def layT (s:Nat) (p:PlotM) (k:PlotM->β):β:=match s with
 | 2=>lay2 I N fl 0 1 wRef wRef p k
 | 4=>lay2 I N fl 8 16 wRef (fun _=>wNum 1) p k
 | _=>k p
def goodC (e sl no:Int):Bool:=match decide (e>=1)==true with
 | true=>(match decide (e<=5)==true with
   | true=>(match decide (sl>=0)==true with
     | true=>(match decide (sl<=1024)==true with
       | true=>(match decide (no>=1)==true with | true=>decide (no<=64) | false=>false)
       | false=>false)
     | false=>false)
   | false=>false)
 | false=>false
def newThs (mv:Int×Int×Int×Int×Int->VerM) (s:Int) (e no n:Int):List Int->List RosM
 | []=>[]
 | i::r=>⟨mv (s,e,i,n,no),[],0,-1⟩::newThs mv s e no n r
def newBad (bad:Int×Int×Int×Int×Int->Bool) (s e no n:Int) (t:β):List Int->β
 | []=>t
 | i::r=>N (!(bad (s,e,i,n,no))) (newBad bad s e no n t r)
def newT (L:ParM->β) (F:NwF) (s:Nat) (e:Int) (is:List Int) (n:Int) (sl no:Int):β :=
 I (!goodC e sl no) fl (N (decide (0<=sl /\ sl<=1024 /\ (85:Int)=85)) (N (decide (F.np sl).Ok) (I (decide ((F.np sl).valid (aStr 24 (wNum 1)))) (layT I N fl s ((F.np sl).access (aStr 24 (wNum 1))).2 fun p =>
   newBad N F.bad s e no n (N true (N true (L ⟨s,p,newThs F.mv s e no n is,[]⟩))) is) fl)))
end
def nwF:T (Option ParM):=.fail "new: no parish"
def nwL (m:ParM):T (Option ParM):=.leaf (some m)
theorem nw1_1 (σ:Sg) (F:NwF) (e sl no:Int):runNw σ F 1 e 1 sl no=newT tI tN nwF nwL F 1 e [0] 1 sl no:=by kernel_rfl
theorem nw1_2 (σ:Sg) (F:NwF) (e sl no:Int):runNw σ F 1 e 2 sl no=newT tI tN nwF nwL F 1 e [0,1] 2 sl no:=by kernel_rfl
theorem nw1_3 (σ:Sg) (F:NwF) (e sl no:Int):runNw σ F 1 e 3 sl no=newT tI tN nwF nwL F 1 e [0,1,2] 3 sl no:=by kernel_rfl
theorem nw1_4 (σ:Sg) (F:NwF) (e sl no:Int):runNw σ F 1 e 4 sl no=newT tI tN nwF nwL F 1 e [0,1,2,3] 4 sl no:=by kernel_rfl
theorem nw1_5 (σ:Sg) (F:NwF) (e sl no:Int):runNw σ F 1 e 5 sl no=newT tI tN nwF nwL F 1 e [0,1,2,3,4] 5 sl no:=by kernel_rfl
theorem nw1_6 (σ:Sg) (F:NwF) (e sl no:Int):runNw σ F 1 e 6 sl no=newT tI tN nwF nwL F 1 e [0,1,2,3,4,5] 6 sl no:=by kernel_rfl
theorem nw2_1 (σ:Sg) (F:NwF) (e sl no:Int):runNw σ F 2 e 1 sl no=newT tI tN nwF nwL F 2 e [0] 1 sl no:=by kernel_rfl
theorem nw2_2 (σ:Sg) (F:NwF) (e sl no:Int):runNw σ F 2 e 2 sl no=newT tI tN nwF nwL F 2 e [0,1] 2 sl no:=by kernel_rfl
theorem nw2_3 (σ:Sg) (F:NwF) (e sl no:Int):runNw σ F 2 e 3 sl no=newT tI tN nwF nwL F 2 e [0,1,2] 3 sl no:=by kernel_rfl
theorem nw2_4 (σ:Sg) (F:NwF) (e sl no:Int):runNw σ F 2 e 4 sl no=newT tI tN nwF nwL F 2 e [0,1,2,3] 4 sl no:=by kernel_rfl
theorem nw2_5 (σ:Sg) (F:NwF) (e sl no:Int):runNw σ F 2 e 5 sl no=newT tI tN nwF nwL F 2 e [0,1,2,3,4] 5 sl no:=by kernel_rfl
theorem nw2_6 (σ:Sg) (F:NwF) (e sl no:Int):runNw σ F 2 e 6 sl no=newT tI tN nwF nwL F 2 e [0,1,2,3,4,5] 6 sl no:=by kernel_rfl
theorem nw3_1 (σ:Sg) (F:NwF) (e sl no:Int):runNw σ F 3 e 1 sl no=newT tI tN nwF nwL F 3 e [0] 1 sl no:=by kernel_rfl
theorem nw3_2 (σ:Sg) (F:NwF) (e sl no:Int):runNw σ F 3 e 2 sl no=newT tI tN nwF nwL F 3 e [0,1] 2 sl no:=by kernel_rfl
theorem nw3_3 (σ:Sg) (F:NwF) (e sl no:Int):runNw σ F 3 e 3 sl no=newT tI tN nwF nwL F 3 e [0,1,2] 3 sl no:=by kernel_rfl
theorem nw3_4 (σ:Sg) (F:NwF) (e sl no:Int):runNw σ F 3 e 4 sl no=newT tI tN nwF nwL F 3 e [0,1,2,3] 4 sl no:=by kernel_rfl
theorem nw3_5 (σ:Sg) (F:NwF) (e sl no:Int):runNw σ F 3 e 5 sl no=newT tI tN nwF nwL F 3 e [0,1,2,3,4] 5 sl no:=by kernel_rfl
theorem nw3_6 (σ:Sg) (F:NwF) (e sl no:Int):runNw σ F 3 e 6 sl no=newT tI tN nwF nwL F 3 e [0,1,2,3,4,5] 6 sl no:=by kernel_rfl
theorem nw4_1 (σ:Sg) (F:NwF) (e sl no:Int):runNw σ F 4 e 1 sl no=newT tI tN nwF nwL F 4 e [0] 1 sl no:=by kernel_rfl
theorem nw4_2 (σ:Sg) (F:NwF) (e sl no:Int):runNw σ F 4 e 2 sl no=newT tI tN nwF nwL F 4 e [0,1] 2 sl no:=by kernel_rfl
theorem nw4_3 (σ:Sg) (F:NwF) (e sl no:Int):runNw σ F 4 e 3 sl no=newT tI tN nwF nwL F 4 e [0,1,2] 3 sl no:=by kernel_rfl
theorem nw4_4 (σ:Sg) (F:NwF) (e sl no:Int):runNw σ F 4 e 4 sl no=newT tI tN nwF nwL F 4 e [0,1,2,3] 4 sl no:=by kernel_rfl
theorem nw4_5 (σ:Sg) (F:NwF) (e sl no:Int):runNw σ F 4 e 5 sl no=newT tI tN nwF nwL F 4 e [0,1,2,3,4] 5 sl no:=by kernel_rfl
theorem nw4_6 (σ:Sg) (F:NwF) (e sl no:Int):runNw σ F 4 e 6 sl no=newT tI tN nwF nwL F 4 e [0,1,2,3,4,5] 6 sl no:=by kernel_rfl
theorem nw5_1 (σ:Sg) (F:NwF) (e sl no:Int):runNw σ F 5 e 1 sl no=newT tI tN nwF nwL F 5 e [0] 1 sl no:=by kernel_rfl
theorem nw5_2 (σ:Sg) (F:NwF) (e sl no:Int):runNw σ F 5 e 2 sl no=newT tI tN nwF nwL F 5 e [0,1] 2 sl no:=by kernel_rfl
theorem nw5_3 (σ:Sg) (F:NwF) (e sl no:Int):runNw σ F 5 e 3 sl no=newT tI tN nwF nwL F 5 e [0,1,2] 3 sl no:=by kernel_rfl
theorem nw5_4 (σ:Sg) (F:NwF) (e sl no:Int):runNw σ F 5 e 4 sl no=newT tI tN nwF nwL F 5 e [0,1,2,3] 4 sl no:=by kernel_rfl
theorem nw5_5 (σ:Sg) (F:NwF) (e sl no:Int):runNw σ F 5 e 5 sl no=newT tI tN nwF nwL F 5 e [0,1,2,3,4] 5 sl no:=by kernel_rfl
theorem nw5_6 (σ:Sg) (F:NwF) (e sl no:Int):runNw σ F 5 e 6 sl no=newT tI tN nwF nwL F 5 e [0,1,2,3,4,5] 6 sl no:=by kernel_rfl
end Go.Proofs.YtcpdipfepeccgaaGreatDoor

namespace Go.Proofs.YtcpdipfepeccgaaGreatDoor
open Go Go.Sx Go.Proofs
set_option maxRecDepth 100000
def WOk (n:Int) (w:W):Prop:=0<=w.slot /\ w.slot<=n /\ (w.slot=0->w.gen=0)
def AOk (n:Int) (a:Ad):Prop:=(a.s=0 /\ a.g=0 /\ 0<=a.f /\ a.f < 85) \/ (1<=a.s /\ a.s<=n /\ 0<=a.f /\ a.f < 10)
def okPair0 (i j:Int):Prop:=(i=1 /\ j=0) \/ (i=2 /\ j=1) \/ (i=4 /\ j=3) \/ (i=5 /\ j=4) \/ (i=7 /\ j=6) \/ (i=8 /\ j=7) \/ (i=2 /\ j=5) \/ (i=5 /\ j=8)
def ClOk (n:Int) (c:Cl):Prop:=WOk n c.old /\ WOk n c.new /\ (((c.kind=3 \/ c.kind=4 \/ c.kind=5) /\ AOk n c.adr) \/ (c.kind=6 /\ AOk n c.adr /\ 0<=c.i /\ c.i < 9 /\ c.j=0) \/ (c.kind=7 /\ okPair0 c.i c.j) \/ c.kind=8 \/ ((c.kind=9 \/ c.kind=10) /\ 1<=c.old.slot))
def imm (c:Cl):Prop:=c.kind=7 \/ c.kind=10
section
variable {n:Int}
theorem wok_nil (h:0<=n):WOk n wNil:=⟨Int.le_refl _,h,fun _=>rfl⟩
theorem wok_num (h:0<=n) (k:Int):WOk n (wNum k):=⟨Int.le_refl _,h,fun _=>rfl⟩
theorem wok_ref {w:W} (h:WOk n w):WOk n (wRef w):=h
theorem wok_to {w r:W} (h:WOk n r):WOk n (wTo w r):=h
theorem wok_marked {w:W} (h:WOk n w):WOk n (wMarked w):=h
theorem wok_count (h:0<=n) {w:W} {k:Int}:WOk n (wCount w k):=⟨Int.le_refl _,h,fun _=>rfl⟩
theorem aok_field {w:W} (h:WOk n w) {f:Int} (h0:0<=f) (h1:f < 10):AOk n (fieldA w f):=by
 obtain⟨a,b,c⟩:=h
 by_cases e:w.slot=0
 ·exact .inl ⟨e,c e,h0,by show f < 85;omega⟩
 ·exact .inr ⟨by show 1<=w.slot;omega,b,h0,h1⟩
theorem aok_root {k:Int} (h0:0<=k) (h1:k < 85):AOk n (rootA k):=.inl ⟨rfl,rfl,h0,h1⟩
theorem clok_load (h:0<=n) {a:Ad} (ha:AOk n a):ClOk n (clLoad a):=⟨wok_nil h,wok_nil h,.inl ⟨.inl rfl,ha⟩⟩
theorem clok_store (h:0<=n) {a:Ad} {w:W} (ha:AOk n a) (hw:WOk n w):ClOk n (clStore a w):=⟨wok_nil h,hw,.inl ⟨.inr (.inl rfl),ha⟩⟩
theorem clok_swap {a:Ad} {o w:W} (ha:AOk n a) (ho:WOk n o) (hw:WOk n w):ClOk n (clSwap a o w):=⟨ho,hw,.inl ⟨.inr (.inr rfl),ha⟩⟩
theorem clok_protect (h:0<=n) {a:Ad} {i:Int} (ha:AOk n a) (h0:0<=i) (h1:i < 9):ClOk n (clProtect a i):=⟨wok_nil h,wok_nil h,.inr (.inl ⟨rfl,ha,h0,h1,rfl⟩)⟩
theorem clok_hold (h:0<=n) {i j:Int} (hp:okPair0 i j):ClOk n (clHold i j):=⟨wok_nil h,wok_nil h,.inr (.inr (.inl ⟨rfl,hp⟩))⟩
theorem clok_alloc (h:0<=n):ClOk n clAlloc:=⟨wok_nil h,wok_nil h,.inr (.inr (.inr (.inl rfl)))⟩
theorem clok_drop (h:0<=n) {w:W} (hw:WOk n w) (h1:1<=w.slot):ClOk n (clDrop w):=⟨hw,wok_nil h,.inr (.inr (.inr (.inr ⟨.inl rfl,h1⟩)))⟩
theorem clok_retire (h:0<=n) {w:W} (hw:WOk n w) (h1:1<=w.slot):ClOk n (clRetire w):=⟨hw,wok_nil h,.inr (.inr (.inr (.inr ⟨.inr rfl,h1⟩)))⟩
end
def Res (n:Int) (c:Cl):Prop:=c.kind=12 \/ ClOk n c
def hdW (c:Cl):Prop:=(c.kind=4 \/ c.kind=5)->c.adr.s=0->c.adr.f=0->1<=c.new.slot
theorem hdW_k {c:Cl} {k:Int} (e:c.kind=k) (h4:k≠4) (h5:k≠5):hdW c:=fun h _ _=>by
 rcases h with h | h
 ·exact absurd (e.symm.trans h) h4
 ·exact absurd (e.symm.trans h) h5
theorem hdW_f {c:Cl} {k:Int} (e:c.adr.f=k) (h:k≠0):hdW c:=fun _ _ h2=>absurd (e.symm.trans h2) h
structure RpFor (n:Int) (hd:Bool) (c:Cl) (x:Rp1):Prop where
 w:WOk n x.w
 al:c.kind=8->x.ok=true->1<=x.w.slot
 hd:hd=true->c.kind=6->c.adr.s=0->c.adr.f=0->1<=x.w.slot
structure NextOk (n:Int) (c:Cl) (ok aw:Prop) (r0 r1:Nat):Prop where
 res:Res n c
 wf:ok
 rk:imm c->r1 < r0
 aw:aw
theorem imm_of {c:Cl} {k:Int} (e:c.kind=k) (h7:k≠7) (h10:k≠10):¬imm c:=fun h=>by
 rcases h with h | h
 ·exact h7 (e.symm.trans h)
 ·exact h10 (e.symm.trans h)
theorem imm_load {a:Ad}:¬imm (clLoad a):=imm_of (k:=3) rfl (by decide) (by decide)
theorem imm_store {a:Ad} {w:W}:¬imm (clStore a w):=imm_of (k:=4) rfl (by decide) (by decide)
theorem imm_swap {a:Ad} {v w:W}:¬imm (clSwap a v w):=imm_of (k:=5) rfl (by decide) (by decide)
theorem imm_protect {a:Ad} {i:Int}:¬imm (clProtect a i):=imm_of (k:=6) rfl (by decide) (by decide)
theorem imm_alloc:¬imm clAlloc:=imm_of (k:=8) rfl (by decide) (by decide)
theorem imm_drop {w:W}:¬imm (clDrop w):=imm_of (k:=9) rfl (by decide) (by decide)
theorem imm_done {a b:Int}:¬imm (clDone a b):=imm_of (k:=12) rfl (by decide) (by decide)
theorem P_cond {α:Type} {P:α->Prop} {b:Bool} {t e:α} (h1:b=true->P t) (h2:b=false->P e):P (cond b t e):=by
 cases b
 ·exact h2 rfl
 ·exact h1 rfl
theorem eqI {a b:Int} (h:(a==b)=true):a=b:=of_decide_eq_true h
theorem neI {a b:Int} (h:(a==b)=false):a≠b:=of_decide_eq_false h
structure PileM.WF (n:Int) (j:PileM):Prop where
 kd:j.op.kind=1 \/ j.op.kind=2 \/ j.op.kind=3
 pc:j.pc=-1 \/ j.pc=0 \/ j.pc=1 \/ j.pc=2 \/ j.pc=3 \/ j.pc=4 \/ j.pc=5
 last:j.pc=-1->j.last.kind=12
 node:WOk n j.node
 top:WOk n j.top
 nz:j.op.kind≠1->(j.pc=2 \/ j.pc=3 \/ j.pc=4)->1<=j.top.slot
def PileM.rk (j:PileM):Nat:=if j.pc=4 then 1 else 0
def NPile (n:Int) (r0:Nat) (r:Cl×PileM):Prop:=NextOk n r.1 (r.2.WF n) True r0 r.2.rk
theorem pile_wf {n:Int} (h0:0<=n) {j:PileM} (h:j.WF n) {x:Rp1} (hx:WOk n x.w):NPile n j.rk (pileNext j x):=by
 obtain⟨pc,last,⟨kd,key,val,tall⟩,node,top,v⟩:=j
 obtain⟨hk,hp,hl,hn,ht,hz⟩:=h
 dsimp only at hk hp hl hn ht hz
 have nx:0<=x.w.slot:=hx.1
 unfold pileNext pileF
 dsimp only [id]
 rcases hk with rfl | rfl | rfl<;>rcases hp with rfl | rfl | rfl | rfl | rfl | rfl | rfl <;>
  (repeat' (refine P_cond (fun hb=>?_) (fun hb=>?_)<;>first | (exact absurd hb (by decide)) | skip)) <;>
  (refine⟨?_,⟨?_,?_,?_,?_,?_,?_⟩,?_,trivial⟩)
 all_goals dsimp only [PileM.rk]
 all_goals first
  | exact .inl rfl
  | exact .inl (hl rfl)
  | exact .inr (clok_alloc h0)
  | exact .inr (clok_load h0 (aok_root (by decide) (by decide)))
  | exact .inr (clok_protect h0 (aok_root (by decide) (by decide)) (by decide) (by decide))
  | exact .inr (clok_protect h0 (aok_field (by assumption) (by decide) (by decide)) (by decide) (by decide))
  | exact .inr (clok_load h0 (aok_field (by assumption) (by decide) (by decide)))
  | exact .inr (clok_store h0 (aok_field (by assumption) (by decide) (by decide)) (wok_num h0 _))
  | exact .inr (clok_store h0 (aok_field (by assumption) (by decide) (by decide)) (wok_ref hx))
  | exact .inr (clok_swap (aok_root (by decide) (by decide)) (by assumption) (wok_to (by assumption)))
  | exact .inr (clok_swap (aok_field (by assumption) (by decide) (by decide)) (by assumption) (wok_to (by assumption)))
  | exact .inr (clok_retire h0 (by assumption) (hz (by decide) (by decide)))
  | assumption
  | exact fun _=>rfl
  | (intro h;first | exact absurd h (by decide) | exact absurd h imm_load | exact absurd h imm_store | exact absurd h imm_swap | exact absurd h imm_protect | exact absurd h imm_alloc | exact absurd h imm_drop | exact absurd h imm_done | exact absurd h (imm_of (hl rfl) (by decide) (by decide)))
  | (intro h1 h2;first | (exact absurd rfl h1) | (exact absurd h1 (by decide)) | (exact absurd h2 (by decide)) | exact hz h1 (by decide) | (have:=neI (by assumption:(x.w.slot==0)=false);omega))
  | (intro _;simp)
  | decide
structure CortM.WF (n:Int) (j:CortM):Prop where
 kd:j.op.kind=4 \/ j.op.kind=5
 pc:j.pc=-1 \/ j.pc=0 \/ j.pc=1 \/ j.pc=2 \/ j.pc=3 \/ j.pc=4 \/ j.pc=5 \/ j.pc=6 \/ j.pc=7 \/ j.pc=8
 last:j.pc=-1->j.last.kind=12
 node:WOk n j.node
 h:WOk n j.h
 t:WOk n j.t
 n:WOk n j.n
 hz:j.op.kind≠4->(j.pc=2 \/ j.pc=3 \/ j.pc=4 \/ j.pc=6 \/ j.pc=7)->1<=j.h.slot
 nz:j.op.kind≠4->(j.pc=6 \/ j.pc=7)->1<=j.n.slot
def CortM.aw (c:Cl) (j:CortM):Prop:=j.op.kind≠4->j.pc=1->c.kind=6 /\ c.adr=rootA 0
def CortM.rk (j:CortM):Nat:=if j.pc=7 then 1 else 0
def NCort (n:Int) (r0:Nat) (r:Cl×CortM):Prop:=NextOk n r.1 (r.2.WF n) (r.2.aw r.1 /\ hdW r.1) r0 r.2.rk
theorem cort_wf {n:Int} (h0:0<=n) {j:CortM} (h:j.WF n) {c:Cl} (ha:j.aw c) {x:Rp1} (hr:RpFor n true c x):NCort n j.rk (cortNext j x):=by
 obtain⟨pc,last,⟨kd,key,val,tall⟩,node,hh,tt,nn,v⟩:=j
 obtain⟨hk,hp,hl,hn,h1,h2,h3,hz,nz⟩:=h
 dsimp only [CortM.aw] at hk hp hl hn h1 h2 h3 hz nz ha
 have hx:WOk n x.w:=hr.w
 have nx:0<=x.w.slot:=hx.1
 have nn0:0<=nn.slot:=h3.1
 unfold cortNext cortF
 dsimp only [id]
 rcases hk with rfl | rfl<;>rcases hp with rfl | rfl | rfl | rfl | rfl | rfl | rfl | rfl | rfl | rfl <;>
  (repeat' (refine P_cond (fun hb=>?_) (fun hb=>?_)<;>first | (exact absurd hb (by decide)) | skip)) <;>
  (refine⟨?_,⟨?_,?_,?_,?_,?_,?_,?_,?_,?_⟩,?_,⟨?_,?_⟩⟩)
 all_goals dsimp only [CortM.rk,CortM.aw]
 all_goals first
  | exact .inl rfl
  | exact .inl (hl rfl)
  | exact .inr (clok_alloc h0)
  | exact .inr (clok_load h0 (aok_root (by decide) (by decide)))
  | exact .inr (clok_protect h0 (aok_root (by decide) (by decide)) (by decide) (by decide))
  | exact .inr (clok_protect h0 (aok_field (by assumption) (by decide) (by decide)) (by decide) (by decide))
  | exact .inr (clok_load h0 (aok_field (by assumption) (by decide) (by decide)))
  | exact .inr (clok_store h0 (aok_field (by assumption) (by decide) (by decide)) (wok_num h0 _))
  | exact .inr (clok_store h0 (aok_field (by assumption) (by decide) (by decide)) (wok_ref hx))
  | exact .inr (clok_swap (aok_root (by decide) (by decide)) (by assumption) (wok_to (by assumption)))
  | exact .inr (clok_swap (aok_field (by assumption) (by decide) (by decide)) (by assumption) (wok_to (by assumption)))
  | exact .inr (clok_retire h0 (by assumption) (hz (by decide) (by decide)))
  | assumption
  | exact fun _=>rfl
  | (intro h;first | exact absurd h (by decide) | exact absurd h imm_load | exact absurd h imm_store | exact absurd h imm_swap | exact absurd h imm_protect | exact absurd h imm_alloc | exact absurd h imm_drop | exact absurd h imm_done | exact absurd h (imm_of (hl rfl) (by decide) (by decide)))
  | (intro g1 g2;first | (exact⟨rfl,rfl⟩) | (have hq:=ha (by decide) rfl;exact hr.hd rfl hq.1 (by rw [hq.2];rfl) (by rw [hq.2];rfl)) | (exact absurd rfl g1) | (exact absurd g1 (by decide)) | (exact absurd g2 (by decide)) | exact hz g1 (by decide) | exact nz g1 (by decide) | (have:=neI (by assumption:(nn.slot==0)=false);omega))
  | exact hdW_k (k:=3) rfl (by decide) (by decide)
  | exact hdW_k (k:=6) rfl (by decide) (by decide)
  | exact hdW_k (k:=8) rfl (by decide) (by decide)
  | exact hdW_k (k:=10) rfl (by decide) (by decide)
  | exact hdW_k (k:=12) rfl (by decide) (by decide)
  | exact hdW_k (hl rfl) (by decide) (by decide)
  | exact hdW_f (k:=1) rfl (by decide)
  | exact hdW_f (k:=2) rfl (by decide)
  | exact fun _ _ _=>nz (by decide) (by decide)
  | (intro _;simp)
  | decide
structure WalkM.WF (n:Int) (w:WalkM):Prop where
 start:AOk n w.start
 prev:AOk n w.prev
 cur:WOk n w.cur
 next:WOk n w.next
 pc:w.pc=-1 \/ w.pc=0 \/ w.pc=1 \/ w.pc=2 \/ w.pc=3 \/ w.pc=4 \/ w.pc=5 \/ w.pc=6 \/ w.pc=7 \/ w.pc=8
 nz:(w.pc=2 \/ w.pc=3 \/ w.pc=4 \/ w.pc=5 \/ w.pc=6 \/ w.pc=7 \/ w.pc=8)->1<=w.cur.slot
 fd:w.found=true->w.pc=-1 /\ 1<=w.cur.slot
def WalkM.rk (w:WalkM):Nat:=if w.pc=4 \/ w.pc=5 then 2 else if w.pc=6 \/ w.pc=7 then 1 else 0
structure WalkOk (n:Int) (pc0:Int) (r0:Nat) (r:(Cl×Bool)×WalkM):Prop where
 on:r.1.2=true->ClOk n r.1.1
 wf:r.2.WF n
 rk:r.1.2=true->imm r.1.1->r.2.rk < r0
 off:r.1.2=false->r.2.pc=-1
 st:pc0=0->r.1.2=true
theorem walk_wf {n:Int} (h0:0<=n) {w:WalkM} (h:w.WF n) {x:Rp1} (hx:WOk n x.w):WalkOk n w.pc w.rk (walkNext w x):=by
 obtain⟨pc,last,start,key,prev,cur,next,k,found⟩:=w
 obtain⟨hs,hpv,hc,hn,hp,hz,hf⟩:=h
 dsimp only at hs hpv hc hn hp hz hf
 have nx:0<=x.w.slot:=hx.1
 have nn:0<=next.slot:=hn.1
 unfold walkNext walkF
 dsimp only [id]
 rcases hp with rfl | rfl | rfl | rfl | rfl | rfl | rfl | rfl | rfl | rfl <;>
  (repeat' (refine P_cond (fun hb=>?_) (fun hb=>?_)<;>first | (exact absurd hb (by decide)) | skip)) <;>
  (refine⟨?_,⟨?_,?_,?_,?_,?_,?_,?_⟩,?_,?_,?_⟩)
 all_goals dsimp only [WalkM.rk]
 all_goals first
  | assumption
  | exact fun h=>absurd h (by decide)
  | decide
  | exact fun _=>clok_protect h0 (by assumption) (by decide) (by decide)
  | exact fun _=>clok_protect h0 (aok_field (by assumption) (by decide) (by decide)) (by decide) (by decide)
  | exact fun _=>clok_load h0 (aok_field (by assumption) (by decide) (by decide))
  | exact fun _=>clok_load h0 (by assumption)
  | exact fun _=>clok_swap (by assumption) (by assumption) (wok_to (by assumption))
  | exact fun _=>clok_hold h0 (by unfold okPair0;decide)
  | exact fun _=>clok_retire h0 (by assumption) (hz (by decide))
  | exact fun _=>hz (by decide)
  | exact fun _=>(by have:=neI (by assumption:(x.w.slot==0)=false);omega)
  | exact fun _=>(by have:=neI (by assumption:(next.slot==0)=false);omega)
  | exact fun _=>(by have:=neI (by assumption:((wTo cur next).slot==0)=false);show 1<=next.slot;exact(by have h:next.slot≠0:=this;omega))
  | exact fun h=>absurd (hf h).1 (by decide)
  | exact fun h=>⟨rfl,(hf h).2⟩
  | exact fun _=>⟨rfl,hz (by decide)⟩
  | exact fun _ h=>absurd h imm_load
  | exact fun _ h=>absurd h imm_swap
  | exact fun _ h=>absurd h imm_protect
  | exact fun _ _=>(by simp)
  | exact wok_to hn
  | exact aok_field hc (by decide) (by decide)
  | exact fun _=>rfl
theorem newWalk_wf {n:Int} (h0:0<=n) {a:Ad} (ha:AOk n a) (k:Int):(newWalk (a,k)).WF n :=
 ⟨ha,ha,wok_nil h0,wok_nil h0,.inr (.inl rfl),fun h=>absurd h (by show ¬((0:Int)=2 \/ (0:Int)=3 \/ (0:Int)=4 \/ (0:Int)=5 \/ (0:Int)=6 \/ (0:Int)=7 \/ (0:Int)=8);decide),fun h=>by cases h⟩
structure LitM.WF (n:Int) (j:LitM):Prop where
 kd:j.op.kind=6 \/ j.op.kind=7 \/ j.op.kind=8
 start:AOk n j.start
 pc:(j.op.kind=6 /\ (j.pc=-1 \/ j.pc=0 \/ j.pc=1 \/ j.pc=2 \/ j.pc=3 \/ j.pc=4 \/ j.pc=5 \/ j.pc=6 \/ j.pc=7)) \/ (j.op.kind=7 /\ (j.pc=-1 \/ j.pc=0 \/ j.pc=1 \/ j.pc=2 \/ j.pc=3 \/ j.pc=4 \/ j.pc=5 \/ j.pc=6)) \/ (j.op.kind=8 /\ (j.pc=-1 \/ j.pc=0 \/ j.pc=1 \/ j.pc=2))
 last:j.pc=-1->j.last.kind=12
 node:WOk n j.node
 nd:j.op.kind=6->(j.pc=2 \/ j.pc=3 \/ j.pc=4 \/ j.pc=5 \/ j.pc=6 \/ j.pc=7)->1<=j.node.slot
 wk:∀w,j.walk=some w->w.WF n
 cz:j.op.kind=7->(j.pc=2 \/ j.pc=3 \/ j.pc=4)->∃w,j.walk=some w /\ 1<=w.cur.slot
def LitM.aw (c:Cl) (j:LitM):Prop:=j.op.kind=6->j.pc=1->c.kind=8
def wrk:Option WalkM->Nat
 | none=>0
 | some w=>w.rk
def LitM.rk (j:LitM):Nat:=wrk j.walk+if j.op.kind=7 /\ j.pc=4 then 1 else 0
def NLit (n:Int) (r0:Nat) (r:Cl×LitM):Prop:=NextOk n r.1 (r.2.WF n) (r.2.aw r.1) r0 r.2.rk
theorem wk_some {n:Int} {w:WalkM} (h:w.WF n):∀w',some w=some w'->w'.WF n:=fun w' e=>by cases e;exact h
theorem wk_none {n:Int}:∀w',(none:Option WalkM)=some w'->w'.WF n:=fun w' e=>by cases e
end Go.Proofs.YtcpdipfepeccgaaGreatDoor

namespace Go.Proofs.YtcpdipfepeccgaaGreatDoor
open Go Go.Sx Go.Proofs
set_option maxRecDepth 100000
theorem range_len:∀(n:Nat) (l:List Int),l.Nodup->(∀x∈l,1<=x /\ x<=(n:Int))->l.length<=n
 | 0,l,_,h=>by
   cases l with
   | nil=>exact Nat.le_refl _
   | cons a r=>have:=h a List.mem_cons_self;omega
 | n+1,l,hd,h=>by
   have h1:=range_len n (l.filter (fun x=>x != ((n+1:Nat):Int))) (hd.sublist List.filter_sublist) fun x hx=>by
    obtain⟨hx,hne⟩:=List.mem_filter.1 hx
    have:=h x hx
    have hne:x≠((n+1:Nat):Int):=by simpa using hne
    omega
   have h2:l.length<=(l.filter (fun x=>x != ((n+1:Nat):Int))).length+1:=by
    clear h h1
    induction l with
    | nil=>simp
    | cons a r ih =>
      rw [List.nodup_cons] at hd
      rw [List.filter_cons]
      cases ha:a != ((n+1:Nat):Int) with
      | true=>simp only [if_true,List.length_cons];have:=ih hd.2;omega
      | false =>
        have ha:a=((n+1:Nat):Int):=by simpa using ha
        have hr:r.filter (fun x=>x != ((n+1:Nat):Int))=r:=List.filter_eq_self.2 fun x hx=>by
         have:x≠a:=fun e=>hd.1 (e▸hx)
         rw [<- ha]
         simpa using this
        simp only [Bool.false_eq_true,if_false,List.length_cons]
        rw [hr];omega
   omega
structure PlotM.WF (n:Nat) (m:PlotM):Prop where
 le:n<=1024
 lb:m.board.length=85
 ls:m.slots.length=n
 bw:∀w∈m.board,WOk n w
 sl:∀s∈m.slots,s.cells.length=10
 sw:∀s∈m.slots,∀w∈s.cells,WOk n w
 fr:∀x∈m.free,1<=x.val /\ x.val<=(n:Int)
 fu:∀x∈m.free,(m.slot x.val).used=false
 nd:(m.free.map N1.val).Nodup
theorem PlotM.WF.ok {n:Nat} {m:PlotM} (h:m.WF n):m.Ok:=by
 have:=h.le
 refine⟨by rw [h.lb];decide,by rw [h.ls];omega,?_,fun x hx=>?_⟩
 ·have:=range_len n (m.free.map N1.val) h.nd fun x hx=>by
   obtain⟨y,hy,rfl⟩:=List.mem_map.1 hx
   exact h.fr y hy
  rw [List.length_map] at this
  omega
 ·have:=h.fr x hx
  exact⟨this.1,by rw [h.ls];exact this.2⟩
theorem getD_mem {α:Type} {l:List α} {i:Nat} {d:α} (h:i < l.length):l.getD i d∈l:=by
 rw [List.getD_eq_getElem?_getD,List.getElem?_eq_getElem h]
 exact List.getElem_mem h
theorem slot_mem {n:Nat} {m:PlotM} (h:m.WF n) {s:Int} (h1:1<=s) (h2:s<=n):m.slot s∈m.slots:=getD_mem (by rw [h.ls];omega)
theorem read_wok {n:Nat} {m:PlotM} (h:m.WF n) {s g f:Int} (ha:m.hasA s g f):WOk n (m.read s f):=by
 unfold PlotM.hasA at ha
 unfold PlotM.read
 split at ha
 ·rename_i hs
  rw [if_pos hs]
  exact h.bw _ (getD_mem (by omega))
 ·rename_i hs
  rw [if_neg hs]
  have h1:m.slot s∈m.slots:=slot_mem h ha.1.1 (by have:=ha.1.2;rw [h.ls] at this;exact this)
  exact h.sw _ h1 _ (getD_mem (by rw [h.sl _ h1];omega))
theorem mem_set {α:Type} {l:List α} {i:Nat} {a x:α} (h:x∈l.set i a):x∈l \/ x=a:=List.mem_or_eq_of_mem_set h
theorem slot_set {m:PlotM} {i:Nat} {x:Sl} {s:Int} (hi:i < m.slots.length):({m with slots:=m.slots.set i x}:PlotM).slot s=if (s - 1).toNat=i then x else m.slot s:=by
 show (m.slots.set i x).getD (s - 1).toNat _=_
 rw [List.getD_eq_getElem?_getD,List.getElem?_set]
 by_cases e:i=(s - 1).toNat
 ·rw [if_pos e,if_pos (e▸hi),if_pos e.symm];rfl
 ·rw [if_neg e,if_neg fun h=>e h.symm]
  show _=m.slots.getD _ _
  rw [List.getD_eq_getElem?_getD]
theorem set_wf {n:Nat} {m:PlotM} (h:m.WF n) {s:Int} {x:Sl} (h1:1<=s) (h2:s<=n) (hl:x.cells.length=10) (hw:∀w∈x.cells,WOk n w) (hu:x.used=true->(m.slot s).used=true):({m with slots:=m.slots.set (s - 1).toNat x}:PlotM).WF n:=by
 have hi:(s - 1).toNat < m.slots.length:=by rw [h.ls];omega
 refine⟨h.le,h.lb,(by show (m.slots.set _ _).length=n;rw [List.length_set];exact h.ls),h.bw,fun t ht=>?_,fun t ht w hw2=>?_,h.fr,fun t ht=>?_,h.nd⟩
 ·rcases mem_set ht with ht | rfl
  ·exact h.sl t ht
  ·exact hl
 ·rcases mem_set ht with ht | rfl
  ·exact h.sw t ht w hw2
  ·exact hw w hw2
 ·rw [slot_set hi]
  split
  ·rename_i e
   cases hx:x.used with
   | false=>rfl
   | true =>
     have hfr:=h.fr t ht
     have e2:t.val=s:=by omega
     have:=h.fu t ht
     rw [e2,hu hx] at this
     exact this
  ·exact h.fu t ht
theorem write_wf {n:Nat} {m:PlotM} (h:m.WF n) {s g f:Int} (ha:m.hasA s g f) {w:W} (hw:WOk n w):(m.write s f w).WF n:=by
 unfold PlotM.hasA at ha
 unfold PlotM.write
 split at ha
 ·rename_i hs
  rw [if_pos hs]
  refine⟨h.le,(by show (m.board.set _ _).length=85;rw [List.length_set];exact h.lb),h.ls,fun x hx=>?_,h.sl,h.sw,h.fr,h.fu,h.nd⟩
  rcases mem_set hx with hx | rfl
  ·exact h.bw x hx
  ·exact hw
 ·rename_i hs
  rw [if_neg hs]
  have h2:s<=n:=by have:=ha.1.2;rw [h.ls] at this;exact this
  have hm:=slot_mem h ha.1.1 h2
  refine set_wf h ha.1.1 h2 (by show ((List.range 10).map _).length=10;rw [List.length_map,List.length_range]) (fun x hx=>?_) fun hu=>hu
  obtain⟨j,hj,rfl⟩:=List.mem_map.1 hx
  have hj:=List.mem_range.1 hj
  split
  ·exact hw
  ·exact h.sw _ hm _ (getD_mem (by rw [h.sl _ hm];exact hj))
theorem nodup_append_one {l:List Int} {x:Int} (h:l.Nodup) (hx:x ∉ l):(l++[x]).Nodup:=by
 rw [List.nodup_append]
 refine⟨h,by simp,fun a ha b hb=>?_⟩
 simp only [List.mem_cons,List.not_mem_nil,or_false] at hb
 subst hb
 exact fun e=>hx (e▸ha)
theorem alloc_wf {n:Nat} {m:PlotM} (h:m.WF n) (b:Int):(m.alloc b).2.WF n /\ WOk n (m.alloc b).1.w /\ ((m.alloc b).1.ok=true->1<=(m.alloc b).1.w.slot):=by
 unfold PlotM.alloc
 split
 ·exact⟨h,wok_nil (by omega),fun h=>by cases h⟩
 ·rename_i hl
  dsimp only
  have hmem:m.free.getD (m.free.length - 1) kints.dflt∈m.free:=getD_mem (by omega)
  generalize hx:m.free.getD (m.free.length - 1) kints.dflt=x at hmem
  obtain⟨h1,h2⟩:=h.fr x hmem
  have hfree:m.free=m.free.take (m.free.length - 1)++[x]:=by
   have hlt:m.free.length - 1 < m.free.length:=by omega
   rw [<- hx,List.getD_eq_getElem?_getD,List.getElem?_eq_getElem hlt]
   have:=List.take_append_drop (m.free.length - 1) m.free
   rw [List.drop_eq_getElem_cons hlt,List.drop_eq_nil_of_le (by omega)] at this
   exact this.symm
  have hnd:=h.nd
  rw [hfree,List.map_append,List.nodup_append] at hnd
  obtain⟨n1,_,n2⟩:=hnd
  have hi:(x.val - 1).toNat < m.slots.length:=by rw [h.ls];omega
  have hm0:({m with free:=m.free.take (m.free.length - 1)}:PlotM).WF n:=⟨h.le,h.lb,h.ls,h.bw,h.sl,h.sw,fun t ht=>h.fr t (List.mem_of_mem_take ht),fun t ht=>h.fu t (List.mem_of_mem_take ht),n1⟩
  have hz:WOk n wNil:=wok_nil (by omega)
  refine⟨⟨h.le,h.lb,(by show (m.slots.set _ _).length=n;rw [List.length_set];exact h.ls),h.bw,fun t ht=>?_,fun t ht w hw2=>?_,hm0.fr,fun t ht=>?_,n1⟩,⟨by show 0<=x.val;omega,h2,fun e=>by have e:x.val=0:=e;omega⟩,fun _=>h1⟩
  ·rcases mem_set ht with ht | rfl
   ·exact h.sl t ht
   ·rfl
  ·rcases mem_set ht with ht | rfl
   ·exact h.sw t ht w hw2
   ·simp only [List.mem_cons,List.not_mem_nil,or_false] at hw2
    rcases hw2 with rfl | rfl | rfl | rfl | rfl | rfl | rfl | rfl | rfl | rfl<;>first | exact hz | exact wok_num (by omega) _
  ·show (({m with slots:=m.slots.set (x.val - 1).toNat _}:PlotM).slot t.val).used=false
   rw [slot_set hi]
   split
   ·rename_i e
    have:=hm0.fr t ht
    have e2:t.val=x.val:=by omega
    exact absurd e2 (n2 _ (List.mem_map_of_mem ht) _ (by simp))
   ·exact hm0.fu t ht
def Hd (hd:Bool) (m:PlotM):Prop:=hd=true->1<=(m.board.getD 0 kwords.dflt).slot
structure AccOk (n:Nat) (hd:Bool) (a:Acc) (r:Rp1×PlotM):Prop where
 wf:r.2.WF n
 h0:Hd hd r.2
 w:WOk n r.1.w
 al:a.kind=4->r.1.ok=true->1<=r.1.w.slot
 ld:a.kind=1->hd=true->a.s=0->a.f=0->1<=r.1.w.slot
theorem getD_set0 {l:List W} {i:Nat} {w d:W} (h:l≠[]):(l.set i w).getD 0 d=if i=0 then w else l.getD 0 d:=by
 cases l with
 | nil=>exact absurd rfl h
 | cons a r=>cases i<;>simp
theorem hd_write {hd:Bool} {n:Nat} {m:PlotM} (hm:m.WF n) (h:Hd hd m) {s f:Int} {w:W} (hf:0<=f) (hw:hd=true->s=0->f=0->1<=w.slot):Hd hd (m.write s f w):=fun e=>by
 unfold PlotM.write
 split
 ·rename_i hs
  show 1<=((m.board.set f.toNat w).getD 0 kwords.dflt).slot
  rw [getD_set0 (fun e=>by have:=hm.lb;rw [e] at this;cases this)]
  split
  ·exact hw e hs (by omega)
  ·exact h e
 ·exact h e
theorem hasA_f {m:PlotM} {s g f:Int} (h:m.hasA s g f):0<=f:=by
 unfold PlotM.hasA at h
 split at h
 ·exact h.2.1
 ·exact h.2.1
theorem access_wf {n:Nat} {hd:Bool} {m:PlotM} (h:m.WF n) (hh:Hd hd m) {a:Acc} (hv:m.valid a) (hw:WOk n a.new) (hw0:hd=true->(a.kind=2 \/ a.kind=3)->a.s=0->a.f=0->1<=a.new.slot):AccOk n hd a (m.access a):=by
 have h1:({m with steps:=wrap1 m.steps}:PlotM).WF n:=⟨h.le,h.lb,h.ls,h.bw,h.sl,h.sw,h.fr,h.fu,h.nd⟩
 have n0:(0:Int)<=n:=by omega
 unfold PlotM.access
 dsimp only
 unfold PlotM.valid at hv
 cases he:m.wrong a with
 | some e =>
   dsimp only
   refine⟨?_,?_,?_,fun _ (h:false=true)=>(by cases h),fun hk hhd hs hf=>?_⟩
   ·cases m.fault<;>exact⟨h.le,h.lb,h.ls,h.bw,h.sl,h.sw,h.fr,h.fu,h.nd⟩
   ·cases m.fault<;>exact hh
   ·show WOk n (if a.kind=1 \/ a.kind=3 then wNum (-1) else wNil)
    split
    ·exact wok_num n0 _
    ·exact wok_nil n0
   ·exfalso
    unfold PlotM.wrong PlotM.state at he
    rw [if_neg (by omega),if_neg (by omega),if_pos hs] at he
    cases he
 | none =>
   dsimp only
   by_cases k4:a.kind=4
   ·rw [if_pos k4]
    obtain⟨w1,w2,w3⟩:=alloc_wf h1 a.new.num
    refine⟨w1,?_,w2,fun _=>w3,fun hk=>by omega⟩
    unfold PlotM.alloc
    split
    ·exact hh
    ·exact hh
   ·rw [if_neg k4]
    by_cases k5:a.kind=5
    ·rw [if_pos k5]
     rw [if_neg (by omega),if_neg k4,if_pos k5] at hv
     obtain⟨v1,v2⟩:=hv
     rw [h.ls] at v2
     have hu:(m.slot a.old.slot).used=true:=by
      unfold PlotM.wrong PlotM.state at he
      rw [if_neg k4,if_pos k5,if_neg (by omega)] at he
      cases hu:(m.slot a.old.slot).used with
      | true=>rfl
      | false=>rw [if_pos hu] at he;cases he
     have hm:=slot_mem h v1 v2
     have hs:({m with steps:=wrap1 m.steps,slots:=m.slots.set (a.old.slot - 1).toNat {m.slot a.old.slot with used:=false}}:PlotM).WF n :=
      set_wf h1 v1 v2 (show (m.slot a.old.slot).cells.length=10 from h.sl _ hm) (show ∀w∈(m.slot a.old.slot).cells,WOk n w from h.sw _ hm) fun e=>by cases e
     have hi:(a.old.slot - 1).toNat < m.slots.length:=by rw [h.ls];omega
     refine⟨⟨h.le,h.lb,hs.ls,h.bw,hs.sl,hs.sw,fun x hx=>?_,fun x hx=>?_,?_⟩,hh,wok_nil n0,fun hk=>absurd hk k4,fun hk=>by omega⟩
     ·rcases List.mem_append.1 hx with hx | hx
      ·exact h.fr x hx
      ·simp only [List.mem_cons,List.not_mem_nil,or_false] at hx
       subst hx;exact⟨v1,v2⟩
     ·rcases List.mem_append.1 hx with hx | hx
      ·exact hs.fu x hx
      ·simp only [List.mem_cons,List.not_mem_nil,or_false] at hx
       subst hx
       show (({m with slots:=m.slots.set (a.old.slot - 1).toNat {m.slot a.old.slot with used:=false}}:PlotM).slot a.old.slot).used=false
       rw [slot_set hi,if_pos rfl]
     ·show ((m.free++[(⟨a.old.slot⟩:N1)]).map N1.val).Nodup
      rw [List.map_append]
      refine nodup_append_one h.nd fun hx=>?_
      obtain⟨y,hy,e⟩:=List.mem_map.1 hx
      have:=h.fu y hy
      rw [e,hu] at this
      cases this
    ·rw [if_neg k5]
     have hk:a.kind=1 \/ a.kind=2 \/ a.kind=3:=by
      by_cases hk:a.kind=1 \/ a.kind=2 \/ a.kind=3
      ·exact hk
      ·rw [if_neg hk,if_neg k4,if_neg k5] at hv;exact hv.elim
     rw [if_pos hk] at hv
     have rd:WOk n (({m with steps:=wrap1 m.steps}:PlotM).read a.s a.f):=read_wok h1 hv
     have wr:(({m with steps:=wrap1 m.steps}:PlotM).write a.s a.f a.new).WF n:=write_wf h1 hv hw
     have hdw:(a.kind=2 \/ a.kind=3)->Hd hd (({m with steps:=wrap1 m.steps}:PlotM).write a.s a.f a.new):=fun hk=>hd_write h1 hh (hasA_f hv) fun e hs hf=>hw0 e hk hs hf
     by_cases k1:a.kind=1
     ·rw [if_pos k1]
      refine⟨h1,hh,rd,fun hk=>absurd hk k4,fun _ hhd hs hf=>?_⟩
      show 1<=(({m with steps:=wrap1 m.steps}:PlotM).read a.s a.f).slot
      unfold PlotM.read
      rw [if_pos hs,hf]
      exact hh hhd
     ·rw [if_neg k1]
      by_cases k2:a.kind=2
      ·rw [if_pos k2]
       exact⟨wr,hdw (.inl k2),wok_nil n0,fun hk=>absurd hk k4,fun hk=>absurd hk k1⟩
      ·rw [if_neg k2]
       cases sameW (({m with steps:=wrap1 m.steps}:PlotM).read a.s a.f) a.old with
       | true=>exact⟨wr,hdw (.inr (by omega)),rd,fun hk=>absurd hk k4,fun hk=>absurd hk k1⟩
       | false=>exact⟨h1,hh,rd,fun hk=>absurd hk k4,fun hk=>absurd hk k1⟩
end Go.Proofs.YtcpdipfepeccgaaGreatDoor
