import Derived.Test.YtcpdipfepeccgaaGreatDoorQq
import Derived.Test.YtcpdipfepeccgaaGreatDoorOp
import Derived.Test.YtcpdipfepeccgaaGreatDoorPb
import Derived.Test.YtcpdipfepeccgaaGreatDoorSxOf
set_option linter.unusedVariables false
namespace Go.Proofs.YtcpdipfepeccgaaGreatDoor
open Go Go.Sx Go.Proofs
set_option maxRecDepth 100000
variable {σ:Sg} {lp:Lp}
theorem methC_ok {f:FuncId} {M:List Bool} (hM:8=M.length) {γ β α:Type} {A:ArgK γ} {B:ValK β} {O:ObK α} {ok:α->γ->Option Bool} {next:α->γ->β×α}
 (hrun:∀j x,okO (ok j x)=true->Ctr Tryz.prog (NV σ) f (.v (.c (.ptr 8 0))::A.enc x) (hpO M [O.V j]) (B.enc (next j x).1) (hpO M [O.V (next j x).2])):FnOk Tryz.prog (NV σ) f (sumG isS M (methS A B O ok next)):=by
 refine sumG_ok isS_ok hM fun args l v l' nw h hl hargs=>?_
 unfold methS at h
 split at h
 ·rename_i r a
  split at h
  ·rename_i x j hx hj
   replace h:=needO_some h
   obtain⟨hok,h⟩:=h
   simp only [T.val,Option.some.injEq,Prod.mk.injEq] at h
   obtain⟨rfl,rfl,rfl⟩:=h
   have ea:=O.ok _ _ hj
   subst ea
   exact ctr_args (hrun j x hok) fun ρ=>by
    simp only [List.map_cons]
    rw [A.ok _ _ hx ρ]
  ·simp [T.val] at h
 ·simp [T.val] at h
theorem ctr_me {tab:Tab} (ht:TabOk Tryz.prog (NV σ) tab) {f:FuncId} {M:List Bool} (hM:8=M.length) {β α:Type} {B:ValK β} {O:ObK α} {j:α} {ty:TypeId} {gs:Gs} (hl:layV σ (O.V j)=some (layG AV.len ty (nrmG gs))) {args:List SV} (hf:svsFree args=true) {r:β×α}
 (h:((runMe σ tab f M args (O.V j) ty gs []).map (decM B O)).val=some (some r)):Ctr Tryz.prog (NV σ) f (.v (.c (.ptr 8 0))::args) (hpO M [O.V j]) (B.enc r.1) (hpO M [O.V r.2]):=by
 obtain⟨y,h1,h2⟩:=map_some h
 rw [decM_spec h2] at h1
 exact(runMe_ok ht hM (O.okD j) hl (svsFree_cl hf) h1).1
theorem ctr_ml (hlp:LpsOk Tryz.prog (NVl lp σ)) {tab:Tab} (ht:TabOk Tryz.prog (NV σ) tab) {f:FuncId} {M:List Bool} (hM:8=M.length) {β α:Type} {B:ValK β} {O:ObK α} {j:α} {ty:TypeId} {gs:Gs} (hl:layV σ (O.V j)=some (layG AV.len ty (nrmG gs))) {args:List SV} (hf:svsFree args=true) {r:β×α}
 (h:((runMl lp σ tab f M args (O.V j) ty gs []).map (decM B O)).val=some (some r)):Ctr Tryz.prog (NV σ) f (.v (.c (.ptr 8 0))::args) (hpO M [O.V j]) (B.enc r.1) (hpO M [O.V r.2]):=by
 obtain⟨y,h1,h2⟩:=map_some h
 rw [decM_spec h2] at h1
 exact ctr_nv (runMl_ok hlp (tabL ht) hM (O.okD j) hl (svsFree_cl hf) h1).1
section
variable {β:Type} (I:Bool->β->β->β) (N:Bool->β->β) (L:RT->β)
def rTookZ (sz:RT->Bool) (x:Rp1) (r:RT):β :=
 if r.m.step=9 then L (rLoad 10 eraA {r with m:={r.m with word:=x.w}})
 else if r.m.step=10 then N (sz r) (
  if r.m.engine=3 \/ r.m.engine=5 then L (rAsk 11 ⟨3,0,0,24,x.w,wCount x.w 1⟩ (rAdd r.m.word.num x.w.num {r with m:={r.m with clock:=x.w}}))
  else rNoted I N L (rAdd r.m.word.num x.w.num {r with m:={r.m with clock:=x.w}}))
 else if r.m.step=11 then rNoted I N L r
 else if r.m.step=12 then rLook I N L 0 {r with m:={r.m with clock:=x.w}} (L {r with m:={r.m with clock:=x.w}})
 else L (rLoad 15 eraA r)
end
abbrev NN:Bool->RiteM->RiteM:=fun _ t=>t
def lookM (n:Int) (r:RT) (k:RiteM):RiteM:=rLook cond NN RT.m n r k
def freedM (m:RiteM):RiteM:=reapM {m:={m with notes:=m.notes.take (idxNt (m.doomed.getD 0 knotes.dflt) m.notes).toNat++m.notes.drop ((idxNt (m.doomed.getD 0 knotes.dflt) m.notes).toNat+1),freed:=IntKind.wrap .i64 (m.freed+1),doomed:=m.doomed.drop 1},ls:=m.seen.length,ld:=m.doomed.length - 1,ln:=m.notes.length - 1}
def tookM (m:RiteM) (x:Rp1):RiteM :=
 if m.step=13 then lookM (IntKind.wrap .i64 (m.index+1)) (rSeen x.w (rOf m)) (if m.engine=4 then cond (mayM m.clock.num ((m.seen++[x.w]).map hearM)) (rAsk 14 ⟨3,0,0,24,m.clock,wCount m.clock 1⟩ (rSeen x.w (rOf m))).m (rLoad 15 eraA (rSeen x.w (rOf m))).m else siftM (rSeen x.w (rOf m)).m)
 else if m.step=15 then siftM {m with clock:=x.w}
 else if m.step=16 then freedM m
 else if 9<=m.step then rTookZ cond NN RT.m (fun _=>true) x (rOf m)
 else rTook cond NN RT.m x (rOf m)
def okTk (m:RiteM):Bool:=decide (okRi m /\ m.seen.length<=1000 /\ 1<=m.threads /\ m.threads<=6 /\
 (m.step=1 \/ m.step=2 \/ m.step=3 \/ (m.step=4 /\ (m.engine=2 \/ m.engine=3) /\ 0<=m.index /\ m.index < 9) \/ (m.step=5 /\ 0<=m.call.i /\ m.call.i < 9) \/ (m.step=6 /\ (m.engine=3 \/ m.engine=5) /\ 0<=m.call.i /\ m.call.i < 9) \/ m.step=7 \/ m.step=8 \/ m.step=9 \/
  (m.step=10 /\ (m.engine=3 \/ m.engine=4 \/ m.engine=5)) \/ (m.step=11 /\ (m.engine=3 \/ m.engine=5)) \/ (m.step=12 /\ m.engine=4) \/ (m.step=13 /\ 2<=m.engine /\ 0<=m.index /\ m.index < 100) \/ (m.step=14 /\ m.engine=4) \/ (m.step=15 /\ m.engine=4) \/
  (m.step=16 /\ 0 < m.doomed.length /\ 0<=idxNt (m.doomed.getD 0 knotes.dflt) m.notes /\ idxNt (m.doomed.getD 0 knotes.dflt) m.notes < (m.notes.length:Int))))
theorem tv_I2 {b:Bool} {t e:T (Option (Unit×RiteM))} {x y:RiteM} (h1:b=true->TreeV t x) (h2:b=false->TreeV e y):TreeV (tI b t e) (cond b x y):=by
 cases b with
 | true=>exact h1 rfl
 | false=>exact h2 rfl
theorem tv_look {n:Int} {r:RT} (h:LensR r) {t:T (Option (Unit×RiteM))} {k:RiteM} (hk:TreeV t k) (hn:0<=n) (h1:1<=r.m.threads) (h2:r.m.threads<=6):TreeV (rLook tI tN tR n r t) (lookM n r k):=by
 have ew:IntKind.wrap .i64 (r.m.threads * 9)=r.m.threads * 9:=wrapQ (by omega)
 unfold lookM rLook
 refine tv_if (fun _=>tv_I2 (fun _=>hk) fun hb=>?_) fun _=>tv_I2 (fun _=>hk) fun hb=>?_
 ·have hlt:=of_decide_eq_false hb
  rw [ew] at hlt
  have e1:Int.tdiv n 9=n / 9:=Int.tdiv_eq_ediv_of_nonneg hn
  have e2:Int.tmod n 9=n % 9:=Int.tmod_eq_emod_of_nonneg hn
  have e3:IntKind.wrap .i64 (n / 9)=n / 9:=wrapQ (by omega)
  exact tv_N rfl (tv_N rfl (tv_N (by rw [e1,e2,e3];exact okKeep_of (by omega) (by omega) (by omega) (by omega)) (tv_L (r:=rAsk 13 _ {r with m:={r.m with index:=n}}) h)))
 ·have hlt:=of_decide_eq_false hb
  exact tv_N (okSpan_of hn (by omega)) (tv_L (r:=rAsk 13 _ {r with m:={r.m with index:=n}}) h)
theorem tv_protect {x:Rp1} {r:RT} (h:LensR r) (h1:0<=r.m.me) (h2:r.m.me < 6) (h3:0<=r.m.call.i) (h4:r.m.call.i < 9):TreeV (rProtect tI tN tR x r) (rProtect cond NN RT.m x r):=by
 unfold rProtect
 refine tv_if (fun _=>tv_L h) fun _=>tv_if (fun _=>tv_if (fun _=>tv_L h) fun _=>tv_if (fun _=>tv_I (tv_post (r:={r with m:={r.m with word:=x.w}}) h (okKeep_of h1 h2 h3 h4)) (tv_L (r:=rFinish ⟨x.w,true⟩ r) (lens_fin h))) fun _=>tv_L (r:=rFinish ⟨x.w,true⟩ r) (lens_fin h)) fun _=>?_
 exact tv_if (fun _=>tv_I (tv_L (r:=rFinish ⟨r.m.word,true⟩ r) (lens_fin h)) (tv_post h (okKeep_of h1 h2 h3 h4))) fun _=>tv_I (tv_L (r:=rFinish ⟨r.m.word,true⟩ r) (lens_fin h)) (tv_I (tv_ann h (okSpan_of h1 h2)) (tv_ann h (okSpan_of h1 h2)))
theorem tv_took {x:Rp1} {r:RT} (h:LensR r) (h1:0<=r.m.me) (h2:r.m.me < 6) (h3:r.m.step=4->0<=r.m.index /\ r.m.index < 9) (h4:(r.m.step=5 \/ r.m.step=6)->0<=r.m.call.i /\ r.m.call.i < 9) (h5:r.m.step=1 \/ r.m.step=2 \/ r.m.step=3 \/ r.m.step=4 \/ r.m.step=5 \/ r.m.step=6 \/ r.m.step=7 \/ r.m.step=8):TreeV (rTook tI tN tR x r) (rTook cond NN RT.m x r):=by
 unfold rTook
 refine tv_if (fun _=>tv_L (lens_fin h)) fun _=>tv_if (fun _=>tv_done h) fun _=>tv_if (fun _=>tv_ann h (okSpan_of h1 h2)) fun _=>tv_if (fun e=>tv_leave h h1 h2 _ (by have:=h3 e;omega)) fun _=>tv_if (fun _=>tv_L h) fun _=>?_
 by_cases h7:r.m.step=7
 ·unfold rProtect
  rw [if_pos h7,if_pos h7]
  exact tv_L h
 ·exact tv_protect h h1 h2 (h4 (by omega)).1 (h4 (by omega)).2
theorem tv_tookZ {x:Rp1} {r:RT} (h:LensR r) (hn:r.m.notes.length<=100000) (h1:1<=r.m.threads) (h2:r.m.threads<=6):TreeV (rTookZ tI tN tR (sizeN σ) x r) (rTookZ cond NN RT.m (fun _=>true) x r):=by
 unfold rTookZ
 exact tv_if (fun _=>tv_L h) fun _=>tv_if (fun _=>tv_N (size_of h hn) (tv_if (fun _=>tv_L (lens_add (r:={r with m:={r.m with clock:=x.w}}) h)) fun _=>tv_noted (lens_add (r:={r with m:={r.m with clock:=x.w}}) h))) fun _=>tv_if (fun _=>tv_noted h) fun _ =>
  tv_if (fun _=>tv_look (r:={r with m:={r.m with clock:=x.w}}) h (tv_L (r:={r with m:={r.m with clock:=x.w}}) h) (Int.le_refl 0) h1 h2) fun _=>tv_L h
theorem lens_seen {w:W} {r:RT} (h:LensR r):LensR (rSeen w r):=⟨by show r.ls+1=(r.m.seen++[w]).length;rw [List.length_append,h.1];rfl,h.2.1,h.2.2⟩
theorem sizeW_of {r:RT} (h:LensR r) (hn:r.m.seen.length<=100000):sizeW σ r=true:=by
 unfold sizeW
 refine decide_eq_true ⟨h.1,?_⟩
 rw [h.1]
 exact Nat.le_trans (Nat.mul_le_mul_right _ (Nat.succ_le_succ hn)) (by decide)
theorem tv_sift {r:RT} (h:LensR r) (hs:okSf r.m=true):TreeV (rSift tN tR siftM r) (siftM r.m):=tv_N (lens_of h.1 h.2.1 h.2.2) (tv_N hs (tv_L (r:=rOf (siftM r.m)) ⟨rfl,rfl,rfl⟩))
theorem tv_reap {r:RT} (h:LensR r):TreeV (rReap tI tN tR r) (reapM r):=by
 unfold rReap reapM rReap
 by_cases h0:r.m.doomed.length=0
 ·have e:((r.ld:Int)==0)=true:=by rw [h.2.1,h0];rfl
  rw [e]
  exact tv_done h
 ·have e:((r.ld:Int)==0)=false:=by rw [h.2.1];simp only [beq_eq_false_iff_ne];omega
  rw [e]
  exact tv_N (decide_eq_true ⟨Int.le_refl 0,by rw [h.2.1];omega⟩) (tv_N (decide_eq_true (by omega)) (tv_L (r:=rAsk 16 _ r) h))
def gsK (ks:List Nat) (m:RiteM):Gs:=ks.foldl (fun g k=>litAt k g) (RiteM.wr m)
def CtrTk (σ:Sg) (m:RiteM) (x:Rp1):Prop:=Ctr Tryz.prog (NV σ) 39 (.v (.c (.ptr 8 0))::aRp.enc x) (hpO noM [riteV m]) (.v (.c .inil)) (hpO noM [riteV (tookM m x)])
theorem ctr_tk {ks:List Nat} {m:RiteM} {x:Rp1} {t:T (Option (Unit×RiteM))} (hl:layV σ (riteV m)=some (layG AV.len tRite (nrmG (gsK ks m)))) (e:runTk σ ks m x=t) (hv:TreeV t (tookM m x)):CtrTk σ m x :=
 ctr_me (O:=oRite) (B:=vNil) (r:=((),tookM m x)) tabRi_ok rfl hl (aRp.free x) ((congrArg T.val e).trans hv)
theorem ctr_tl {lp:Lp} (hlp:LpsOk Tryz.prog (NVl lp σ)) {ks:List Nat} {m:RiteM} {x:Rp1} {t:T (Option (Unit×RiteM))} (hl:layV σ (riteV m)=some (layG AV.len tRite (nrmG (gsK ks m)))) (e:runTl lp σ (tabTkM σ) ks m x=t) (hv:TreeV t (tookM m x)):CtrTk σ m x :=
 ctr_ml (O:=oRite) (B:=vNil) (r:=((),tookM m x)) hlp tabTkM_ok rfl hl (aRp.free x) ((congrArg T.val e).trans hv)
theorem tkA {m:RiteM} {x:Rp1} (ks:List Nat) (h1:0<=m.me) (h2:m.me < 6) (h3:m.step=4->0<=m.index /\ m.index < 9) (h4:(m.step=5 \/ m.step=6)->0<=m.call.i /\ m.call.i < 9) (h5:1<=m.step /\ m.step<=8)
 (hl:layV σ (riteV m)=some (layG AV.len tRite (nrmG (gsK ks m)))) (e:runTk σ ks m x=rTook tI tN tR x (rOf m)):CtrTk σ m x:=ctr_tk hl e (by
 unfold tookM
 rw [if_neg (by omega),if_neg (by omega),if_neg (by omega),if_neg (by omega)]
 exact tv_took ⟨rfl,rfl,rfl⟩ h1 h2 h3 h4 (by dsimp only [rOf];omega))
theorem tkZ {m:RiteM} {x:Rp1} (ks:List Nat) (hn:m.notes.length<=100000) (h1:1<=m.threads) (h2:m.threads<=6) (h5:9<=m.step /\ m.step<=12 \/ m.step=14)
 (hl:layV σ (riteV m)=some (layG AV.len tRite (nrmG (gsK ks m)))) (e:runTk σ ks m x=rTookR tI tN tR σ x (rOf m)):CtrTk σ m x:=ctr_tk hl e (by
 unfold tookM
 rw [if_neg (by omega),if_neg (by omega),if_neg (by omega),if_pos (by omega)]
 exact tv_tookZ ⟨rfl,rfl,rfl⟩ hn h1 h2)
theorem took_run (σ:Sg) (m:RiteM) (x:Rp1) (h:okTk m=true):CtrTk σ m x:=by
 obtain⟨⟨h1,h2,h3,h4,h5⟩,h6,h7,h8,h9⟩:=of_decide_eq_true (h:decide _=true)
 clear h
 obtain⟨⟨k,adr,old,new,i,j,ans⟩,st,acc,wd,clk,ix,seen,doomed,e,me,thr,mst,holds,span,notes,freed,reply⟩:=m
 dsimp only at h1 h2 h3 h4 h5 h6 h7 h8 h9
 have he:e=1 \/ e=2 \/ e=3 \/ e=4 \/ e=5:=by omega
 have n9 {n:Int}:0<=n->n < 9->n=0 \/ n=1 \/ n=2 \/ n=3 \/ n=4 \/ n=5 \/ n=6 \/ n=7 \/ n=8:=by omega
 clear h1 h2
 rcases h9 with rfl | rfl | rfl | ⟨rfl,h9,ha,hb⟩ | ⟨rfl,ha,hb⟩ | ⟨rfl,h9,ha,hb⟩ | rfl | rfl | rfl | ⟨rfl,h9⟩ | ⟨rfl,h9⟩ | ⟨rfl,h9⟩ | ⟨rfl,h9,ha,hb⟩ | ⟨rfl,h9⟩ | ⟨rfl,h9⟩ | ⟨rfl,h9,ha,hb⟩
 ·exact tkA [18] h3 h4 (by dsimp only;omega) (by dsimp only;omega) (by dsimp only;omega) (by kernel_rfl) (by kernel_rfl)
 ·exact tkA [18] h3 h4 (by dsimp only;omega) (by dsimp only;omega) (by dsimp only;omega) (by kernel_rfl) (by kernel_rfl)
 ·exact tkA [18] h3 h4 (by dsimp only;omega) (by dsimp only;omega) (by dsimp only;omega) (by kernel_rfl) (by kernel_rfl)
 ·rcases h9 with rfl | rfl<;>rcases n9 ha hb with rfl | rfl | rfl | rfl | rfl | rfl | rfl | rfl | rfl<;>exact tkA [18,46,43] h3 h4 (by dsimp only;omega) (by dsimp only;omega) (by dsimp only;omega) (by kernel_rfl) (by kernel_rfl)
 ·rcases he with rfl | rfl | rfl | rfl | rfl
  ·exact tkA [18,46] h3 h4 (by dsimp only;omega) (by dsimp only;omega) (by dsimp only;omega) (by kernel_rfl) (by kernel_rfl)
  ·rcases n9 ha hb with rfl | rfl | rfl | rfl | rfl | rfl | rfl | rfl | rfl<;>exact tkA [18,46,14] h3 h4 (by dsimp only;omega) (by dsimp only;omega) (by dsimp only;omega) (by kernel_rfl) (by kernel_rfl)
  ·exact tkA [18,46] h3 h4 (by dsimp only;omega) (by dsimp only;omega) (by dsimp only;omega) (by kernel_rfl) (by kernel_rfl)
  ·exact tkA [18,46] h3 h4 (by dsimp only;omega) (by dsimp only;omega) (by dsimp only;omega) (by kernel_rfl) (by kernel_rfl)
  ·exact tkA [18,46] h3 h4 (by dsimp only;omega) (by dsimp only;omega) (by dsimp only;omega) (by kernel_rfl) (by kernel_rfl)
 ·rcases h9 with rfl | rfl
  ·rcases n9 ha hb with rfl | rfl | rfl | rfl | rfl | rfl | rfl | rfl | rfl<;>exact tkA [18,46,14] h3 h4 (by dsimp only;omega) (by dsimp only;omega) (by dsimp only;omega) (by kernel_rfl) (by kernel_rfl)
  ·exact tkA [18,46] h3 h4 (by dsimp only;omega) (by dsimp only;omega) (by dsimp only;omega) (by kernel_rfl) (by kernel_rfl)
 ·exact tkA [18] h3 h4 (by dsimp only;omega) (by dsimp only;omega) (by dsimp only;omega) (by kernel_rfl) (by kernel_rfl)
 ·exact tkA [18] h3 h4 (by dsimp only;omega) (by dsimp only;omega) (by dsimp only;omega) (by kernel_rfl) (by kernel_rfl)
 ·exact tkZ [18] h5 h7 h8 (by dsimp only;omega) (by kernel_rfl) (by kernel_rfl)
 ·rcases h9 with rfl | rfl | rfl<;>exact tkZ [18,46] h5 h7 h8 (by dsimp only;omega) (by kernel_rfl) (by kernel_rfl)
 ·rcases h9 with rfl | rfl<;>exact tkZ [18,46] h5 h7 h8 (by dsimp only;omega) (by kernel_rfl) (by kernel_rfl)
 ·subst h9;exact tkZ [18,46] h5 h7 h8 (by dsimp only;omega) (by kernel_rfl) (by kernel_rfl)
 ·have hw:IntKind.wrap .i64 (ix+1)=ix+1:=wrapQ (by omega)
  have hn:0<=IntKind.wrap .i64 (ix+1):=by rw [hw];omega
  rcases he with rfl | rfl | rfl | rfl | rfl
  ·exact absurd h9 (by decide)
  ·refine ctr_tl lps0 (ks:=[18,46]) rfl (tk13_2 σ siftM idxNt mayM ⟨⟨k,adr,old,new,i,j,ans⟩,13,acc,wd,clk,ix,seen,doomed,2,me,thr,mst,holds,span,notes,freed,reply⟩ x) ?_
   exact tv_N (sizeW_of (r:=rOf ⟨⟨k,adr,old,new,i,j,ans⟩,13,acc,wd,clk,ix,seen,doomed,2,me,thr,mst,holds,span,notes,freed,reply⟩) ⟨rfl,rfl,rfl⟩ (by show seen.length<=_;omega)) (tv_look (r:=rSeen x.w (rOf ⟨⟨k,adr,old,new,i,j,ans⟩,13,acc,wd,clk,ix,seen,doomed,2,me,thr,mst,holds,span,notes,freed,reply⟩)) (lens_seen ⟨rfl,rfl,rfl⟩) (tv_sift (lens_seen ⟨rfl,rfl,rfl⟩) (decide_eq_true ⟨by show (2:Int)<=2;decide,by show (2:Int)<=5;decide,by show (seen++[x.w]).length<=_;rw [List.length_append];simp only [List.length_cons,List.length_nil];omega,h5⟩)) hn h7 h8)
  ·refine ctr_tl lps0 (ks:=[18,46]) rfl (tk13_3 σ siftM idxNt mayM ⟨⟨k,adr,old,new,i,j,ans⟩,13,acc,wd,clk,ix,seen,doomed,3,me,thr,mst,holds,span,notes,freed,reply⟩ x) ?_
   exact tv_N (sizeW_of (r:=rOf ⟨⟨k,adr,old,new,i,j,ans⟩,13,acc,wd,clk,ix,seen,doomed,3,me,thr,mst,holds,span,notes,freed,reply⟩) ⟨rfl,rfl,rfl⟩ (by show seen.length<=_;omega)) (tv_look (r:=rSeen x.w (rOf ⟨⟨k,adr,old,new,i,j,ans⟩,13,acc,wd,clk,ix,seen,doomed,3,me,thr,mst,holds,span,notes,freed,reply⟩)) (lens_seen ⟨rfl,rfl,rfl⟩) (tv_sift (lens_seen ⟨rfl,rfl,rfl⟩) (decide_eq_true ⟨by show (2:Int)<=3;decide,by show (3:Int)<=5;decide,by show (seen++[x.w]).length<=_;rw [List.length_append];simp only [List.length_cons,List.length_nil];omega,h5⟩)) hn h7 h8)
  ·refine ctr_tl (lpsT4 lps0 ⟨⟨k,adr,old,new,i,j,ans⟩,13,acc,wd,clk,ix,seen,doomed,4,me,thr,mst,holds,span,notes,freed,reply⟩ (seen++[x.w]) (seen.length+1) (by rw [List.length_append];rfl) (by rw [List.length_append];simp only [List.length_cons,List.length_nil];omega)) (ks:=[18,46]) rfl (tk13_4 σ ((seen++[x.w]).map hearM) siftM idxNt mayM ⟨⟨k,adr,old,new,i,j,ans⟩,13,acc,wd,clk,ix,seen,doomed,4,me,thr,mst,holds,span,notes,freed,reply⟩ x) ?_
   exact tv_N (sizeW_of (r:=rOf ⟨⟨k,adr,old,new,i,j,ans⟩,13,acc,wd,clk,ix,seen,doomed,4,me,thr,mst,holds,span,notes,freed,reply⟩) ⟨rfl,rfl,rfl⟩ (by show seen.length<=_;omega)) (tv_look (r:=rSeen x.w (rOf ⟨⟨k,adr,old,new,i,j,ans⟩,13,acc,wd,clk,ix,seen,doomed,4,me,thr,mst,holds,span,notes,freed,reply⟩)) (lens_seen ⟨rfl,rfl,rfl⟩) (tv_N (entT4v_t _ _ _) (tv_N (same_self _ _) (tv_N (decide_eq_true ⟨rfl,by rw [List.length_map,List.length_append];simp only [List.length_cons,List.length_nil];omega⟩) (tv_I (tv_L (r:=rAsk 14 _ (rSeen x.w (rOf ⟨⟨k,adr,old,new,i,j,ans⟩,13,acc,wd,clk,ix,seen,doomed,4,me,thr,mst,holds,span,notes,freed,reply⟩))) (lens_seen ⟨rfl,rfl,rfl⟩)) (tv_L (r:=rLoad 15 _ (rSeen x.w (rOf ⟨⟨k,adr,old,new,i,j,ans⟩,13,acc,wd,clk,ix,seen,doomed,4,me,thr,mst,holds,span,notes,freed,reply⟩))) (lens_seen ⟨rfl,rfl,rfl⟩)))))) hn h7 h8)
  ·refine ctr_tl lps0 (ks:=[18,46]) rfl (tk13_5 σ siftM idxNt mayM ⟨⟨k,adr,old,new,i,j,ans⟩,13,acc,wd,clk,ix,seen,doomed,5,me,thr,mst,holds,span,notes,freed,reply⟩ x) ?_
   exact tv_N (sizeW_of (r:=rOf ⟨⟨k,adr,old,new,i,j,ans⟩,13,acc,wd,clk,ix,seen,doomed,5,me,thr,mst,holds,span,notes,freed,reply⟩) ⟨rfl,rfl,rfl⟩ (by show seen.length<=_;omega)) (tv_look (r:=rSeen x.w (rOf ⟨⟨k,adr,old,new,i,j,ans⟩,13,acc,wd,clk,ix,seen,doomed,5,me,thr,mst,holds,span,notes,freed,reply⟩)) (lens_seen ⟨rfl,rfl,rfl⟩) (tv_sift (lens_seen ⟨rfl,rfl,rfl⟩) (decide_eq_true ⟨by show (2:Int)<=5;decide,by show (5:Int)<=5;decide,by show (seen++[x.w]).length<=_;rw [List.length_append];simp only [List.length_cons,List.length_nil];omega,h5⟩)) hn h7 h8)
 ·subst h9;exact tkZ [18,46] h5 h7 h8 (by dsimp only;omega) (by kernel_rfl) (by kernel_rfl)
 ·subst h9
  refine ctr_tl lps0 (ks:=[18]) rfl (tk15 σ siftM idxNt mayM ⟨⟨k,adr,old,new,i,j,ans⟩,15,acc,wd,clk,ix,seen,doomed,4,me,thr,mst,holds,span,notes,freed,reply⟩ x) ?_
  exact tv_sift (r:={rOf ⟨⟨k,adr,old,new,i,j,ans⟩,15,acc,wd,clk,ix,seen,doomed,4,me,thr,mst,holds,span,notes,freed,reply⟩ with m:={(⟨⟨k,adr,old,new,i,j,ans⟩,15,acc,wd,clk,ix,seen,doomed,4,me,thr,mst,holds,span,notes,freed,reply⟩:RiteM) with clock:=x.w}}) ⟨rfl,rfl,rfl⟩ (decide_eq_true ⟨by show (2:Int)<=4;decide,by show (4:Int)<=5;decide,by show seen.length<=_;omega,h5⟩)
 ·refine ctr_tl lps0 (ks:=[18]) rfl (tk16 σ siftM idxNt mayM ⟨⟨k,adr,old,new,i,j,ans⟩,16,acc,wd,clk,ix,seen,doomed,e,me,thr,mst,holds,span,notes,freed,reply⟩ x) ?_
  have hl:(0:Int)<=doomed.length:=by omega
  have e1:((doomed.length:Int)).toNat=doomed.length:=by omega
  unfold rFreed
  refine tv_N (decide_eq_true ⟨Int.le_refl 0,by show (0:Int) < doomed.length;omega⟩) (tv_N (decide_eq_true h9) (tv_N (decide_eq_true ⟨rfl,h5⟩) (tv_N (decide_eq_true ⟨rfl,h5,ha,hb,wrapQ ?_⟩) (tv_N (decide_eq_true ⟨by decide,by show (1:Int)<=doomed.length;omega,Int.le_refl _,rfl⟩) ?_))))
  ·have h5:notes.length<=100000:=h5
   have ha:0<=idxNt (doomed.getD 0 knotes.dflt) notes:=ha
   have hb:idxNt (doomed.getD 0 knotes.dflt) notes < (notes.length:Int):=hb
   show _<=idxNt (doomed.getD 0 knotes.dflt) notes+1 /\ idxNt (doomed.getD 0 knotes.dflt) notes+1<=_
   omega
  ·have key:∀dd:List Nt,dd=doomed.drop 1->TreeV (rReap tI tN tR {m:={(⟨⟨k,adr,old,new,i,j,ans⟩,16,acc,wd,clk,ix,seen,doomed,e,me,thr,mst,holds,span,notes,freed,reply⟩:RiteM) with notes:=notes.take (idxNt (doomed.getD 0 knotes.dflt) notes).toNat++notes.drop ((idxNt (doomed.getD 0 knotes.dflt) notes).toNat+1),freed:=IntKind.wrap .i64 (freed+1),doomed:=dd},ls:=seen.length,ld:=doomed.length - 1,ln:=notes.length - 1}) (freedM ⟨⟨k,adr,old,new,i,j,ans⟩,16,acc,wd,clk,ix,seen,doomed,e,me,thr,mst,holds,span,notes,freed,reply⟩):=by
    rintro _ rfl
    refine tv_reap ⟨rfl,?_,?_⟩
    ·show doomed.length - 1=(doomed.drop 1).length
     rw [List.length_drop]
    ·show notes.length - 1=(notes.take (idxNt (doomed.getD 0 knotes.dflt) notes).toNat++notes.drop ((idxNt (doomed.getD 0 knotes.dflt) notes).toNat+1)).length
     have ha:0<=idxNt (doomed.getD 0 knotes.dflt) notes:=ha
     have hb:idxNt (doomed.getD 0 knotes.dflt) notes < (notes.length:Int):=hb
     rw [List.length_append,List.length_take,List.length_drop]
     omega
   exact key ((doomed.take doomed.length).drop 1) (by rw [List.take_length])
theorem took_ok:FnOk Tryz.prog (NV σ) 39 (sumG isS noM (methS aRp vNil oRite (fun m _=>some (okTk m)) (fun m x=>((),tookM m x)))) :=
 methC_ok rfl fun m x h=>took_run σ m x h
end Go.Proofs.YtcpdipfepeccgaaGreatDoor

namespace Go.Proofs.YtcpdipfepeccgaaGreatDoor
open Go Go.Sx Go.Proofs
set_option maxRecDepth 100000
variable {σ:Sg}
def vAd:ValK Ad where
 enc x:=.v (.agg [.it .i64 x.s,.it .i64 x.g,.it .i64 x.f])
 dec:=fun | .v (.agg [.it .i64 a,.it .i64 b,.it .i64 c])=>some ⟨a,b,c⟩ | _=>none
 ok:=fun v b h=>by split at h<;>cases h;rfl
def vInt:ValK Int where
 enc n:=.v (.c (.it .i64 n))
 dec:=fun | .v (.c (.it .i64 n))=>some n | _=>none
 ok:=fun v b h=>by split at h<;>cases h;rfl
def okRoot (n:Int):Bool:=decide (0<=n /\ n < 24)
theorem rootR (σ:Sg) (n:Int):(runN σ tab0 76 noM (aI.enc n) []).map (decF vAd)=.ite (orB (decide (n < 0)) (decide (n>=24))) (.fail "load") (.leaf (some ⟨0,0,IntKind.wrap .i64 (0+n)⟩)):=by kernel_rfl
theorem wrapV {m:Int} (h:-9223372036854775808<=m /\ m<=9223372036854775807):IntKind.wrap .i64 m=m:=by
 unfold IntKind.wrap
 simp only [IntKind.bits,IntKind.signed]
 first | omega | (simp;omega)
theorem root_ok:FnOk Tryz.prog (NV σ) 76 (sumG isS noM (funS aI vAd (fun n=>some (okRoot n)) rootA)) :=
 funS_ok tab0_ok rfl fun n h=>⟨aI.enc n,rfl,fun _=>rfl,by
  have h:0<=n /\ n < 24:=of_decide_eq_true h
  have e:orB (decide (n < 0)) (decide (n>=24))=false:=by
   rw [decide_eq_false (show ¬n < 0 by omega),decide_eq_false (show ¬n>=24 by omega)];rfl
  rw [rootR,e]
  show some (some (⟨0,0,_⟩:Ad))=_
  rw [wrapV (by omega:-9223372036854775808<=0+n /\ 0+n<=9223372036854775807),Int.zero_add];rfl⟩
def bordN (c:Int):Int:=if c=0 then 0 else if c=1 then 256 else if c=2 then 128 else if c=3 then 384 else if c=4 then 64 else if c=5 then 320 else if c=6 then 192 else 448
def revN (n:Nat):Nat:=n % 2 * 128+n / 2 % 2 * 64+n / 4 % 2 * 32+n / 8 % 2 * 16+n / 16 % 2 * 8+n / 32 % 2 * 4+n / 64 % 2 * 2+n / 128 % 2
def ordN (k:Int):Int:=2 * (revN k.toNat:Int)+1
def okBord (c:Int):Bool:=decide (0<=c /\ c < 8)
def okOrd (k:Int):Bool:=decide (0<=k /\ k < 256)
def litOk (t:T (Option Int)) (n:Int):Bool:=match t with | .leaf (some m)=>decide (m=n) | _=>false
theorem litOk_spec {t:T (Option Int)} {n:Int} (h:litOk t n=true):t.val=some (some n):=by
 unfold litOk at h
 split at h
 ·rw [of_decide_eq_true h];rfl
 ·cases h
def allN (p:Nat->Bool):Nat->Bool
 | 0=>true
 | k+1=>match p k with | true=>allN p k | false=>false
theorem allN_spec {p:Nat->Bool}:∀{n:Nat},allN p n=true->∀k,k < n->p k=true
 | 0,_,k,h=>by omega
 | n+1,h,k,hk=>by
   simp only [allN] at h
   split at h
   ·rename_i hn
    rcases Nat.lt_succ_iff_lt_or_eq.1 hk with hk | rfl
    ·exact allN_spec h k hk
    ·exact hn
   ·cases h
theorem bordAll (σ:Sg):allN (fun k=>litOk ((runN σ tab0 200 noM [.v (.c (.il .i64 (Int.ofNat k)))] []).map (decF vInt)) (bordN (Int.ofNat k))) 8=true:=by kernel_rfl
theorem ordAll (σ:Sg):allN (fun k=>litOk ((runN σ tab0 201 noM [.v (.c (.il .i64 (Int.ofNat k)))] []).map (decF vInt)) (ordN (Int.ofNat k))) 256=true:=by kernel_rfl
theorem bord_ok:FnOk Tryz.prog (NV σ) 200 (sumG isS noM (funS aI vInt (fun n=>some (okBord n)) bordN)) :=
 funS_ok tab0_ok rfl fun n h=>by
  have h:0<=n /\ n < 8:=of_decide_eq_true h
  obtain⟨k,rfl⟩:∃k:Nat,n=Int.ofNat k:=⟨n.toNat,by simp;omega⟩
  exact⟨[.v (.c (.il .i64 (Int.ofNat k)))],rfl,fun _=>rfl,litOk_spec (allN_spec (bordAll σ) k (by have:=h.2;simp at this;omega))⟩
theorem ord_ok:FnOk Tryz.prog (NV σ) 201 (sumG isS noM (funS aI vInt (fun n=>some (okOrd n)) ordN)) :=
 funS_ok tab0_ok rfl fun n h=>by
  have h:0<=n /\ n < 256:=of_decide_eq_true h
  obtain⟨k,rfl⟩:∃k:Nat,n=Int.ofNat k:=⟨n.toNat,by simp;omega⟩
  exact⟨[.v (.c (.il .i64 (Int.ofNat k)))],rfl,fun _=>rfl,litOk_spec (allN_spec (ordAll σ) k (by have:=h.2;simp at this;omega))⟩
def aFrom:ArgK (Ad×Int×O) where
 enc x:=[.v (.agg [.it .i64 x.1.s,.it .i64 x.1.g,.it .i64 x.1.f]),.v (.c (.it .i64 x.2.1)),.v (.agg x.2.2.enc)]
 dec:=fun | [.v (.agg [c0,c1,c2]),.v (.c c3),.v (.agg [c4,c5,c6,c7])]=>(match iOf c0,iOf c1,iOf c2,iOf c3,iOf c4,iOf c5,iOf c6,iOf c7 with | some a,some b,some c,some n,some k,some e,some v,some t=>some (⟨a,b,c⟩,n,⟨k,e,v,t⟩) | _,_,_,_,_,_,_,_=>none) | _=>none
 ok:=fun l a h ρ=>by
  split at h
  ·split at h
   ·rename_i h0 h1 h2 h3 h4 h5 h6 h7
    cases h
    simp only [List.map_cons,List.map_nil,SV.den,V1.den,denL,O.enc,iOf_den h0 ρ,iOf_den h1 ρ,iOf_den h2 ρ,iOf_den h3 ρ,iOf_den h4 ρ,iOf_den h5 ρ,iOf_den h6 ρ,iOf_den h7 ρ]
    rfl
   ·cases h
  ·cases h
 free:=fun _=>rfl
def newLit (x:Ad×Int×O):LitM:=⟨0,clNone,x.1,x.2.1,x.2.2,none,wNil,0⟩
def okKind (o:O):Bool:=decide (o.kind=6 \/ o.kind=7 \/ o.kind=8)
theorem fromR (σ:Sg) (k:Nat) (a:Ad) (n e v t:Int):k=6 \/ k=7 \/ k=8->(runN σ tab0 56 noM [.v (.agg [.it .i64 a.s,.it .i64 a.g,.it .i64 a.f]),.v (.c (.it .i64 n)),.v (.agg [.il .i64 (Int.ofNat k),.it .i64 e,.it .i64 v,.it .i64 t])] []).map (decN oLit)=tL (newLit (a,n,⟨Int.ofNat k,e,v,t⟩)):=by
 rintro (rfl | rfl | rfl)
 ·kernel_rfl
 ·kernel_rfl
 ·kernel_rfl
theorem from_ok:FnOk Tryz.prog (NV σ) 56 (sumG isS noM (newS aFrom oLit (fun x=>some (okKind x.2.2)) newLit)) :=
 newS_ok tab0_ok rfl fun x h=>by
  obtain⟨a,n,⟨k,e,v,t⟩⟩:=x
  have h:k=6 \/ k=7 \/ k=8:=of_decide_eq_true h
  obtain⟨i,rfl,hi⟩:∃i:Nat,k=Int.ofNat i /\ (i=6 \/ i=7 \/ i=8):=by
   rcases h with rfl | rfl | rfl
   ·exact⟨6,rfl,by decide⟩
   ·exact⟨7,rfl,by decide⟩
   ·exact⟨8,rfl,by decide⟩
  exact⟨[.v (.agg [.it .i64 a.s,.it .i64 a.g,.it .i64 a.f]),.v (.c (.it .i64 n)),.v (.agg [.il .i64 (Int.ofNat i),.it .i64 e,.it .i64 v,.it .i64 t])],rfl,fun _=>rfl,by rw [fromR σ i a n e v t hi];rfl⟩
noncomputable def tabVa:Tab:=tabAdd 76 (sumG isS noM (funS aI vAd (fun n=>some (okRoot n)) rootA)) (tabAdd 200 (sumG isS noM (funS aI vInt (fun n=>some (okBord n)) bordN)) (tabAdd 201 (sumG isS noM (funS aI vInt (fun n=>some (okOrd n)) ordN))
 (tabAdd 56 (sumG isS noM (newS aFrom oLit (fun x=>some (okKind x.2.2)) newLit)) (tabAdd 165 (sumG isS noM (methZ aRp vCl oLit (fun _ _=>none) litNext clNone)) tabWk))))
theorem tabVa_ok:TabOk Tryz.prog (NV σ) tabVa:=tabAdd_ok root_ok (tabAdd_ok bord_ok (tabAdd_ok ord_ok (tabAdd_ok from_ok (tabAdd_ok lit_ok tabWk_ok))))
@[reducible] def oVau:ObK VauM:=⟨vauV,vauX,fun _ _=>vauX_s,fun _=>rfl⟩
end Go.Proofs.YtcpdipfepeccgaaGreatDoor

namespace Go.Proofs.YtcpdipfepeccgaaGreatDoor
open Go Go.Sx Go.Proofs
set_option maxRecDepth 100000
variable {σ:Sg}
def parN (b:Int):Int:=if b=3 then 1 else if b=5 then 1 else if b=6 then 2 else if b=7 then 3 else 0
def szN (n:Int):Int:=match n==2 with
 | true=>(match n==2 with | true=>n | false=>1)
 | false=>match n==4 with
   | true=>(match n==4 with | true=>n | false=>1)
   | false=>match n==8 with | true=>n | false=>1
def childN:Nat->Int->Int->Int
 | 0,c,_=>c
 | k+1,c,b=>if parN c=b then c else childN k (parN c) b
noncomputable def vauF {β:Type} (I:Bool->β->β->β) (N:Bool->β->β) (L:Cl×VauM->β) (j:VauM) (x:Rp1):β :=
 let ask (n:Int) (c:Cl) (j:VauM):β:=L (c,{j with pc:=n})
 let done (a:An) (j:VauM):β:=L (⟨12,noAd,wNil,wNil,0,0,a⟩,{j with pc:=-1,last:=⟨12,noAd,wNil,wNil,0,0,a⟩})
 let root (n:Int) (k:Ad->β):β:=N (okRoot n) (k (rootA n))
 let rootB (b:Int) (k:Ad->β):β:=root (wrapA 8 b) k
 let fin11 (c:Cl) (j:VauM):β:=I (c.kind != 12) (L (c,j)) (I (orB (c.ans.code != 1) (j.op.kind==8)) (done c.ans {j with answer:=c.ans}) (root 17 fun a=>ask 12 (clLoad a) {j with answer:=c.ans}))
 let step11 (x:Rp1) (j:VauM):β:=match j.inner with
  | none=>fin11 clNone j
  | some l=>fin11 (litNext l x).1 {j with inner:=some (litNext l x).2}
 let perform (j:VauM):β:=N (okOrd j.op.key) (N (okKind j.op) (step11 ⟨wNil,false⟩ {j with inner:=some (newLit (fieldA j.base 2,ordN j.op.key,j.op)),pc:=11}))
 let descend (j:VauM):β:=if j.bucket=j.wanted then perform j else ask 3 clAlloc {j with child:=childN 4 j.wanted j.bucket}
 let place (j:VauM):Ad×W×W:=match j.walk with | none=>(noAd,wNil,wNil) | some w=>(w.prev,w.cur,w.next)
 let found (j:VauM):Bool:=match j.walk with | none=>false | some w=>w.found
 let walk5 (j:VauM):β :=
  let k (j:VauM):β:=I (found j) (ask 6 (clDrop j.node) {j with sentinel:=wRef (place j).2.1}) (ask 7 (clStore (fieldA j.node 2) (wRef (place j).2.1)) j)
  match j.walk with
  | none=>I false (L (clNone,j)) (k j)
  | some w=>I (walkNext w x).1.2 (L ((walkNext w x).1.1,{j with walk:=some (walkNext w x).2})) (k {j with walk:=some (walkNext w x).2})
 let seek (j:VauM):β:=N (okBord j.child) (walk5 {j with walk:=some (newWalk (fieldA j.base 2,bordN j.child)),pc:=5})
 if j.pc=0 then root 16 fun a=>ask 1 (clLoad a) j
 else if j.pc=1 then
  N (szN x.w.num != 0) (rootB (Int.tmod j.op.key (szN x.w.num)) fun a=>ask 2 (clLoad a) {j with size:=szN x.w.num,wanted:=Int.tmod j.op.key (szN x.w.num),bucket:=Int.tmod j.op.key (szN x.w.num)})
 else if j.pc=2 then
  I (!(x.w.slot==0)) (descend {j with base:=x.w}) (if j.bucket=0 then done ⟨4,0⟩ j else rootB (parN j.bucket) fun a=>ask 2 (clLoad a) {j with bucket:=parN j.bucket})
 else if j.pc=11 then step11 x j
 else if j.pc=12 then I (j.op.kind==7) (root 17 fun a=>ask 13 (clSwap a x.w (wCount x.w (-1))) {j with count:=x.w}) (root 17 fun a=>ask 13 (clSwap a x.w (wCount x.w 1)) {j with count:=x.w})
 else if j.pc=13 then I (!x.ok) (root 17 fun a=>ask 12 (clLoad a) j) (I (orB (j.op.kind==7) (orB (j.size==8) (decide (j.count.num < IntKind.wrap .i64 (2 * j.size))))) (done j.answer j) (root 16 fun a=>ask 14 (clLoad a) j))
 else if j.pc=14 then I (x.w.num==j.size) (root 16 fun a=>ask 15 (clSwap a x.w (wCount x.w j.size)) j) (done j.answer j)
 else if j.pc=15 then done j.answer j
 else if j.pc=-1 then L (j.last,j)
 else if j.pc=3 then I (!x.ok) (perform j) (N (okBord j.child) (ask 4 (clStore (fieldA x.w 0) (wNum (bordN j.child))) {j with node:=x.w}))
 else if j.pc=8 then I x.ok (rootB j.child fun a=>ask 9 (clLoad a) {j with sentinel:=j.node}) (seek j)
 else if j.pc=4 then seek j
 else if j.pc=5 then walk5 j
 else if j.pc=7 then ask 8 (clSwap (place j).1 (place j).2.1 (wTo (place j).2.1 j.node)) j
 else if j.pc=6 then rootB j.child fun a=>ask 9 (clLoad a) j
 else if j.pc=9 then I (x.w.slot==0) (rootB j.child fun a=>ask 10 (clSwap a x.w (wTo x.w j.sentinel)) j) (descend {j with base:=j.sentinel,bucket:=j.child})
 else if j.pc=10 then descend {j with base:=j.sentinel,bucket:=j.child}
 else L (j.last,j)
noncomputable def runVa (σ:Sg) (ks:List Nat) (j:VauM) (x:Rp1):T (Option (Cl×VauM)):=(runMe σ tabVa 187 noM (aRp.enc x) (vauV j) tVau (ks.foldl (fun g k=>litAt k g) (VauM.wr j)) []).map (decM vCl oVau)
def RunV (σ:Sg) (j:VauM) (x:Rp1):Prop:=∃gs,layV σ (vauV j)=some (layG AV.len tVau (nrmG gs)) /\ (runMe σ tabVa 187 noM (aRp.enc x) (vauV j) tVau gs []).map (decM vCl oVau)=vauF tI tN tL j x
end Go.Proofs.YtcpdipfepeccgaaGreatDoor

namespace Go.Proofs.YtcpdipfepeccgaaGreatDoor
open Go Go.Sx Go.Proofs
set_option maxRecDepth 100000
variable {σ:Sg}
def inZ:Int->List Int->Bool
 | _,[]=>false
 | n,m::r=>orB (decide (n=m)) (inZ n r)
theorem inZ_mem {n:Int}:∀{l:List Int},inZ n l=true->n∈l
 | [],h=>by cases h
 | m::r,h=>by
   unfold inZ orB at h
   cases hd:decide (n=m) with
   | true=>rw [of_decide_eq_true hd];exact List.mem_cons_self
   | false=>rw [hd] at h;exact List.mem_cons_of_mem _ (inZ_mem h)
def pcsV:List Int:=[0,1,3,4,5,6,7,8,11,12,13,14,15,-1]
def okWB (wanted bucket:Int):Bool :=
 orB (andB (decide (wanted=0)) (inZ bucket [0])) (
 orB (andB (decide (wanted=1)) (inZ bucket [1,0])) (
 orB (andB (decide (wanted=2)) (inZ bucket [2,0])) (
 orB (andB (decide (wanted=3)) (inZ bucket [3,1,0])) (
 orB (andB (decide (wanted=4)) (inZ bucket [4,0])) (
 orB (andB (decide (wanted=5)) (inZ bucket [5,1,0])) (
 orB (andB (decide (wanted=6)) (inZ bucket [6,2,0])) (
 orB (andB (decide (wanted=7)) (inZ bucket [7,3,1,0])) (
 false))))))))
def okWC (wanted child:Int):Bool :=
 orB (andB (decide (wanted=1)) (inZ child [1])) (
 orB (andB (decide (wanted=2)) (inZ child [2])) (
 orB (andB (decide (wanted=3)) (inZ child [3,1])) (
 orB (andB (decide (wanted=4)) (inZ child [4])) (
 orB (andB (decide (wanted=5)) (inZ child [5,1])) (
 orB (andB (decide (wanted=6)) (inZ child [6,2])) (
 orB (andB (decide (wanted=7)) (inZ child [7,3,1])) (
 false)))))))
def okVa (j:VauM):Bool :=
 andB (okOrd j.op.key) (andB (okKind j.op) (andB (okBord j.child) (orB (inZ j.pc pcsV) (orB (andB (decide (j.pc=2)) (okWB j.wanted j.bucket)) (andB (orB (decide (j.pc=9)) (decide (j.pc=10))) (okWC j.wanted j.child))))))
theorem orB_s {a b:Bool} (h:orB a b=true):a=true \/ b=true:=by unfold orB at h;cases a<;>simp_all
theorem andB_s {a b:Bool} (h:andB a b=true):a=true /\ b=true:=by unfold andB at h;cases a<;>simp_all
theorem vaK {j:VauM} {x:Rp1} (ks:List Nat) (h1:layV σ (vauV j)=some (layG AV.len tVau (nrmG (ks.foldl (fun g k=>litAt k g) (VauM.wr j))))) (h2:runVa σ ks j x=vauF tI tN tL j x):RunV σ j x:=⟨_,h1,h2⟩
theorem vaA (σ:Sg) (j:VauM) (x:Rp1) (h:inZ j.pc pcsV=true):RunV σ j x:=by
 have h:=inZ_mem h
 obtain⟨pc,last,op,size,wanted,bucket,child,base,node,sentinel,walk,inner,answer,count⟩:=j
 simp only [pcsV,List.mem_cons,List.not_mem_nil,or_false] at h
 rcases h with rfl | rfl | rfl | rfl | rfl | rfl | rfl | rfl | rfl | rfl | rfl | rfl | rfl | rfl<;>cases walk<;>cases inner<;>exact vaK [0] (by kernel_rfl) (by kernel_rfl)
theorem vaB (σ:Sg) (j:VauM) (x:Rp1) (hp:j.pc=2) (h:okWB j.wanted j.bucket=true):RunV σ j x:=by
 obtain⟨pc,last,op,size,wanted,bucket,child,base,node,sentinel,walk,inner,answer,count⟩:=j
 dsimp only at h hp
 subst hp
 unfold okWB at h
 repeat (rcases orB_s h with h | h;· (obtain⟨hw,h⟩:=andB_s h;have hw:=of_decide_eq_true hw;subst hw;have h:=inZ_mem h;simp only [List.mem_cons,List.not_mem_nil,or_false] at h;(repeat' (rcases (h:_ \/ _) with h | h))<;>subst h<;>cases walk<;>cases inner<;>exact vaK [0,24,25] (by kernel_rfl) (by kernel_rfl)))
 cases h
theorem vaC9 (σ:Sg) (j:VauM) (x:Rp1) (hj:j.pc=9) (h:okWC j.wanted j.child=true):RunV σ j x:=by
 obtain⟨pc,last,op,size,wanted,bucket,child,base,node,sentinel,walk,inner,answer,count⟩:=j
 dsimp only at h hj
 subst hj
 unfold okWC at h
 repeat (rcases orB_s h with h | h;· (obtain⟨hw,h⟩:=andB_s h;have hw:=of_decide_eq_true hw;subst hw;have h:=inZ_mem h;simp only [List.mem_cons,List.not_mem_nil,or_false] at h;(repeat' (rcases (h:_ \/ _) with h | h))<;>subst h<;>cases walk<;>cases inner<;>exact vaK [0,24,26] (by kernel_rfl) (by kernel_rfl)))
 cases h
theorem vaC10 (σ:Sg) (j:VauM) (x:Rp1) (hj:j.pc=10) (h:okWC j.wanted j.child=true):RunV σ j x:=by
 obtain⟨pc,last,op,size,wanted,bucket,child,base,node,sentinel,walk,inner,answer,count⟩:=j
 dsimp only at h hj
 subst hj
 unfold okWC at h
 repeat (rcases orB_s h with h | h;· (obtain⟨hw,h⟩:=andB_s h;have hw:=of_decide_eq_true hw;subst hw;have h:=inZ_mem h;simp only [List.mem_cons,List.not_mem_nil,or_false] at h;(repeat' (rcases (h:_ \/ _) with h | h))<;>subst h<;>cases walk<;>cases inner<;>exact vaK [0,24,26] (by kernel_rfl) (by kernel_rfl)))
 cases h
theorem va_run (σ:Sg) (j:VauM) (x:Rp1) (h:okVa j=true):RunV σ j x:=by
 obtain⟨_,h⟩:=andB_s h
 obtain⟨_,h⟩:=andB_s h
 obtain⟨_,h⟩:=andB_s h
 rcases orB_s h with h | h
 ·exact vaA σ j x h
 ·rcases orB_s h with h | h
  ·obtain⟨hp,h⟩:=andB_s h
   exact vaB σ j x (of_decide_eq_true hp) h
  ·obtain⟨hp,h⟩:=andB_s h
   rcases orB_s hp with hp | hp
   ·exact vaC9 σ j x (of_decide_eq_true hp) h
   ·exact vaC10 σ j x (of_decide_eq_true hp) h
theorem vIf {α:Type} {c:Prop} [Decidable c] {t e:T (Option α)} {x y:α} (h1:c->t.val=some (some x)) (h2:¬c->e.val=some (some y)):(if c then t else e).val=some (some (if c then x else y)):=by
 split
 ·exact h1 ‹_›
 ·exact h2 ‹_›
theorem sz_cases (n:Int):szN n=1 \/ szN n=2 \/ szN n=4 \/ szN n=8:=by
 unfold szN
 cases h2:n==2 with
 | true=>have h2:=eq_of_beq h2;subst h2;exact .inr (.inl rfl)
 | false =>
   cases h4:n==4 with
   | true=>have h4:=eq_of_beq h4;subst h4;exact .inr (.inr (.inl rfl))
   | false =>
     cases h8:n==8 with
     | true=>have h8:=eq_of_beq h8;subst h8;exact .inr (.inr (.inr rfl))
     | false=>exact .inl rfl
theorem sz_ne (n:Int):(szN n != 0)=true:=by rcases sz_cases n with h | h | h | h<;>rw [h]<;>rfl
theorem okRoot8 {n:Int} (h0:0<=n) (h1:n < 8):okRoot (wrapA 8 n)=true:=by
 unfold okRoot wrapA
 rw [wrapV (by omega)]
 exact decide_eq_true (by omega)
theorem okRootM {k:Int} (n:Int) (h:okOrd k=true):okRoot (wrapA 8 (Int.tmod k (szN n)))=true:=by
 have h:0<=k /\ k < 256:=of_decide_eq_true h
 have h1:0<=Int.tmod k (szN n):=Int.tmod_nonneg _ h.1
 have h2:Int.tmod k (szN n) < szN n:=Int.tmod_lt_of_pos k (by rcases sz_cases n with h | h | h | h<;>omega)
 exact okRoot8 h1 (by rcases sz_cases n with h | h | h | h<;>omega)
theorem okRootP (b:Int):okRoot (wrapA 8 (parN b))=true:=by
 unfold parN
 split
 ·rfl
 split
 ·rfl
 split
 ·rfl
 split<;>rfl
theorem okRootC {c:Int} (h:okBord c=true):okRoot (wrapA 8 c)=true:=by
 have h:0<=c /\ c < 8:=of_decide_eq_true h
 exact okRoot8 h.1 h.2
theorem wc_range {wanted child:Int} (h:okWC wanted child=true):0<=wanted /\ wanted < 8 /\ 0<=child /\ child < 8:=by
 unfold okWC at h
 repeat (rcases orB_s h with h | h;· (obtain⟨hw,h⟩:=andB_s h;have hw:=of_decide_eq_true hw;have h:=inZ_mem h;simp only [List.mem_cons,List.not_mem_nil,or_false] at h;omega))
 cases h
theorem wb_range {wanted bucket:Int} (h:okWB wanted bucket=true):0<=wanted /\ wanted < 8 /\ 0<=bucket /\ bucket < 8:=by
 unfold okWB at h
 repeat (rcases orB_s h with h | h;· (obtain⟨hw,h⟩:=andB_s h;have hw:=of_decide_eq_true hw;have h:=inZ_mem h;simp only [List.mem_cons,List.not_mem_nil,or_false] at h;omega))
 cases h
noncomputable def vauNext (j:VauM) (x:Rp1):Cl×VauM:=vauF cond (fun _ t=>t) id j x
set_option maxHeartbeats 4000000 in
theorem vau_val (j:VauM) (x:Rp1) (h:okVa j=true):(vauF tI tN tL j x).val=some (some (vauNext j x)):=by
 obtain⟨h1,h⟩:=andB_s h
 obtain⟨h2,h⟩:=andB_s h
 obtain⟨h3,h⟩:=andB_s h
 obtain⟨pc,last,op,size,wanted,bucket,child,base,node,sentinel,walk,inner,answer,count⟩:=j
 unfold vauNext vauF
 cases walk<;>cases inner<;>dsimp only at h1 h2 h3 ⊢ <;>
  repeat' first | (with_reducible exact vL) | (with_reducible apply vI) | (with_reducible refine vIf (fun _=>?_) (fun _=>?_)) | (with_reducible refine vN h1 ?_) | (with_reducible refine vN h2 ?_) | (with_reducible refine vN h3 ?_) | (with_reducible refine vN (sz_ne _) ?_) | (with_reducible refine vN (okRootM _ h1) ?_) | (with_reducible refine vN (okRootP _) ?_) | (with_reducible refine vN (okRootC h3) ?_) | (refine vN (by decide) ?_)
theorem vau_ok:FnOk Tryz.prog (NV σ) 187 (sumG isS noM (methS aRp vCl oVau (fun j _=>some (okVa j)) vauNext)) :=
 methS_ok tabVa_ok rfl fun j x h=>by
  obtain⟨gs,e1,e2⟩:=va_run σ j x h
  exact⟨tVau,gs,e1,aRp.enc x,rfl,fun _=>rfl,by rw [e2];exact vau_val j x h⟩
end Go.Proofs.YtcpdipfepeccgaaGreatDoor

namespace Go.Sx
variable {AV:Type} {P:Program} {N:Env AV}
def nrmK:Option (Chunk AV)->Option (Chunk AV)
 | some (.cells l ty)=>some (.cells (nrmL l) ty)
 | x=>x
def nrmSt (s:St AV):St AV:={E:=s.E,H:=s.H.map nrmK}
def backN (L nt:Nat) (ks:List Nat) (pk:Chunk AV->Option AV) (r:Ex×St AV):T (Ex×St AV):=(backS L nt ks pk r).bind fun r=>.leaf (r.1,nrmSt r.2)
theorem nrmK_get (H:Hp AV) (n:Nat):hget (H.map nrmK) n=nrmK (hget H n):=hget_mapF nrmK rfl H n
theorem nrmL_name {l:List Cell} {c:Cell} (h:c∈nrmL l):∃c'∈l,c'.name=c.name:=by
 rw [nrmL_map] at h
 obtain⟨c',h1,rfl⟩:=List.mem_map.1 h
 exact⟨c',h1,(nrmC_name c').symm⟩
theorem nrmSt_pers {H:Hp AV} {n:Nat} {c:Chunk AV} (h:hget H n=some c):∃c',hget (H.map nrmK) n=some c':=by
 rw [nrmK_get,h]
 cases c with
 | cells l ty=>exact⟨_,rfl⟩
 | vec l es ty=>exact⟨_,rfl⟩
 | dead=>exact⟨_,rfl⟩
 | abs a=>exact⟨_,rfl⟩
theorem closed_nrm {s:St AV} (h:Closed N s):Closed N (nrmSt s):=by
 have pers:∀{c:Cell},ClC s.H c->ClC (s.H.map nrmK) c:=fun hc n hn=>by
  obtain⟨x,hx⟩:=hc n hn
  exact nrmSt_pers hx
 refine⟨fun k=>ClV.mono (h.E k) fun n c hn=>nrmSt_pers hn,fun n x hx=>?_⟩
 have hx:hget (s.H.map nrmK) n=some x:=hx
 rw [nrmK_get] at hx
 cases hs:hget s.H n with
 | none=>rw [hs] at hx;cases hx
 | some d =>
   rw [hs] at hx
   have hd:=h.H n d hs
   cases d with
   | cells l ty =>
     cases hx
     intro c hc m hm
     obtain⟨c',h1,h2⟩:=nrmL_name hc
     exact pers (hd c' h1) m (by rw [h2];exact hm)
   | vec l es ty=>cases hx;exact fun c hc=>pers (hd c hc)
   | dead=>cases hx;exact fun c hc=>pers (hd c hc)
   | abs a=>cases hx;exact fun c hc=>pers (hd c hc)
theorem nrm_lesser (π:Nat->Nat) (d:Chunk AV):∃c,nrmK (some d)=some c /\ Lesser N (d.ren π) (c.ren π):=by
 cases d with
 | cells l ty =>
   refine⟨_,rfl,fun ρ n w=>⟨fun h=>?_,fun k=>Iff.rfl⟩⟩
   have h:w.heap[ρ n]?=some (.cells (denL ρ (l.map (Cell.ren π))).toArray ty (0,0)):=h
   show w.heap[ρ n]?=some (.cells (denL ρ ((nrmL l).map (Cell.ren π))).toArray ty (0,0))
   rw [denL_ren] at h ⊢
   rw [nrmL_den];exact h
 | vec l es ty=>exact⟨_,rfl,Lesser.refl _⟩
 | dead=>exact⟨_,rfl,Lesser.refl _⟩
 | abs a=>exact⟨_,rfl,Lesser.refl _⟩
theorem backN_ok {L nt:Nat} {ks:List Nat} {pk:Chunk AV->Option AV} (hpk:∀d a,pk d=some a->∀π,Lesser N (d.ren π) (.abs a)) (hG:N.G<=L) {r r':Ex×St AV} (h:(backN L nt ks pk r).val=some r'):r'.1=r.1 /\ ∃π,Back N L nt r.2 r'.2 π:=by
 obtain⟨r1,h1,h2⟩:=T.bind_some h
 obtain⟨e1,π,hb⟩:=backS_ok hpk hG h1
 simp only [T.val,Option.some.injEq] at h2
 subst h2
 refine⟨e1,π,hb.less rfl (by simp [nrmSt]) (fun n=>?_) (closed_nrm hb.cl)⟩
 show _ \/ ∃d c,_ /\ hget (r1.2.H.map nrmK) n=some c /\ _
 rw [show hget (nrmSt r1.2).H n=nrmK (hget r1.2.H n) from nrmK_get _ n]
 cases hd:hget r1.2.H n with
 | none=>exact .inl ⟨rfl,rfl⟩
 | some d =>
   obtain⟨c,g1,g2⟩:=nrm_lesser (N:=N) π d
   exact .inr ⟨d,c,rfl,by rw [nrmK_get,hd];exact g1,g2⟩
structure ItG (N:Env AV) (cal:Callee AV) (lp:Nat->Option (St AV->T (Ex×St AV))) (nt:Nat) (c:Code) (s s':St AV) (ex:Ex) where
 M:Type
 fam:M->St AV
 step:M->T (Ex×M)
 L:Nat
 len:s.H.length=L
 hGL:N.G<=L
 run:∀m r,(step m).val=some r->∃s1,(xc N cal lp nt c (fam m)).val=some (r.1,s1) /\ ∃π,Back N L nt s1 (fam r.2) π
 m:M
 k:Nat
 m':M
 ent:Enter N nt s (fam m)
 it:iter step k m=some (ex,m')
 fin:s'=fam m'
theorem loopOk_itG {N N':Env AV} (hF:N'.F=N.F) (hG:N'.G=N.G) (hT:TblOk P N) {cal:Callee AV} (hcal:CalOk P N cal) {lp:Nat->Option (St AV->T (Ex×St AV))} {nt:Nat} {c:Code} (hlp:LpOk P N nt c lp)
 {g:St AV->T (Ex×St AV)} (h:∀s s' ex,(g s).val=some (ex,s')->Nonempty (ItG N cal lp nt c s s' ex)):LoopOk P N' nt c g:=by
 intro L0 s s' ex hg hcl hL
 obtain⟨M,fam,step,L,rfl,hGL,hrun,m,k,m',hent,hit,rfl⟩:=h s s' ex hg
 have one:=hrun
 have hclN:Closed N s:=closed_env N hcl
 obtain⟨m1,hm1⟩:=iter_last hit
 obtain⟨s1,_,_,hb1⟩:=one m1 _ hm1
 simp only at hb1
 refine⟨closed_env N' hb1.cl,Nat.le_trans hL hb1.len,fun {ρ a w} hat=>?_⟩
 have hatN:At N nt ρ s a w:=⟨hat.em,own_env hF.symm hG.symm hat.own⟩
 obtain⟨hent1,hent2,hent3⟩:=hent hclN
 obtain⟨ρ1,hat1,hev1⟩:=hent3 ρ a w hatN
 refine wp_loop_rounds (k+1) (loop_ren hT hcal hlp (ι:={p:Nat×M // iter step p.1 p.2=some (ex,m')}) (fun p=>fam p.1.2) (fun p=>p.1.1) (fun e s1=>e=ex /\ ∃π,Back N s.H.length nt s1 (fam m') π) s.H.length (fun i=>?_) (ρ0:=ρ) (H0:=s.H) (w0:=w) rfl (k+1) ⟨(k,m),hit⟩ (by simp) hent1 hent2 ρ1 a w hat1 hev1 _ ?_)
 ·obtain⟨⟨j,n⟩,hi⟩:=i
  cases j with
  | zero=>cases hi
  | succ j =>
    simp only [iter] at hi
    split at hi
    ·rename_i m2 hs
     obtain⟨s2,g1,π,g2⟩:=one n _ hs
     exact⟨.normal,s2,g1,⟨(j,m2),hi⟩,π,by simp,g2⟩
    ·rename_i id m2 hs
     cases hi
     obtain⟨s2,g1,π,g2⟩:=one n _ hs
     exact⟨.exit id,s2,g1,rfl,π,g2⟩
    ·rename_i m2 hs
     cases hi
     obtain⟨s2,g1,π,g2⟩:=one n _ hs
     exact⟨.ret,s2,g1,rfl,π,g2⟩
    ·cases hi
 ·rintro ex1 s2 ρ2 a' w' ⟨rfl,π,hb⟩ _ _ hat2 hev2 d2
  have h3:=hb.at hat2
  exact⟨rfl,⟨ρ2.ren π,h3.em,own_env hF hG h3.own,evo_env N' ((hb.evo rfl hev2).weaken hL)⟩,d2⟩
theorem run_back {cal:Callee AV} {lp:Nat->Option (St AV->T (Ex×St AV))} {nt L:Nat} {c:Code} {ks:List Nat} {pk:Chunk AV->Option AV} (hpk:∀d a,pk d=some a->∀π,Lesser N (d.ren π) (.abs a)) (hG:N.G<=L) {s:St AV} {r:Ex×St AV}
 (h:((xc N cal lp nt c s).bind (backN L nt ks pk)).val=some r):∃s1,(xc N cal lp nt c s).val=some (r.1,s1) /\ ∃π,Back N L nt s1 r.2 π:=by
 obtain⟨⟨e1,s1⟩,h1,h2⟩:=T.bind_some h
 obtain⟨h3,π,h4⟩:=backN_ok hpk hG h2
 simp only at h3 h4
 exact⟨s1,by rw [h3];exact h1,π,h4⟩
end Go.Sx

namespace Go.Proofs.YtcpdipfepeccgaaGreatDoor
open Go Go.Sx Go.Proofs
set_option maxRecDepth 100000
variable {σ:Sg} {lp:Lp}
@[reducible] def oVer:ObK VerM:=⟨verV,verX,fun _ _=>verX_s,fun _=>rfl⟩
structure AdF where
 okb:RiteM->Cl->Bool
 bg:RiteM->Cl->RiteM
 np:PileM->Rp1->Cl×PileM
 nc:CortM->Rp1->Cl×CortM
 nl:LitM->Rp1->Cl×LitM
 okv:VauM->Bool
 nv:VauM->Rp1->Cl×VauM
 oks:SteM->Bool
 ns:SteM->Rp1->Cl×SteM
noncomputable def tabAd (F:AdF):Tab:=tabAdd 58 (sumG isS noM (methS aNo vBo oRite (fun _ _=>none) (fun m _=>(busyM m,m)))) (tabAdd 59 (sumG isS noM (methS aNo vRp oRite (fun _ _=>none) (fun m _=>(m.reply,m))))
 (tabAdd 57 (sumG isS noM (methS aCl vNil oRite (fun m c=>some (F.okb m c)) (fun m c=>((),F.bg m c))))
 (tabAdd 147 (sumG isS noM (methS aRp vCl oPile (fun _ _=>none) F.np)) (tabAdd 156 (sumG isS noM (methS aRp vCl oCort (fun _ _=>none) F.nc))
 (tabAdd 165 (sumG isS noM (methZ aRp vCl oLit (fun _ _=>none) F.nl clNone)) (tabAdd 187 (sumG isS noM (methS aRp vCl oVau (fun j _=>some (F.okv j)) F.nv)) (tabAdd 204 (sumG isS noM (methS aRp vCl oSte (fun j _=>some (F.oks j)) F.ns)) tab0)))))))
noncomputable def adF:AdF:=⟨okBg,beginM,pileNext,cortNext,litNext,okVa,vauNext,okSte,steNext⟩
theorem tabAd_ok:TabOk Tryz.prog (NV σ) (tabAd adF):=tabAdd_ok riBusy_ok (tabAdd_ok riReply_ok (tabAdd_ok begin_ok (tabAdd_ok pile_ok (tabAdd_ok cort_ok (tabAdd_ok lit_ok (tabAdd_ok vau_ok (tabAdd_ok ste_ok tab0_ok)))))))
def ksA:List Nat:=[0]
noncomputable def LA:Code:=loopAt 0 (loopsOf (bodyOf Tryz.f36))
def hpV (v:VerM):Hp AV:=openH (hpO noM [verV v]) 8 (layG AV.len tVer (VerM.wr v))
def famA (v:VerM):St AV:={E:=only ksA [(0,.v (.c (.ptr 8 2)))] 52,H:=hpV v}
def clLeave:Cl:=⟨2,noAd,wNil,wNil,0,0,⟨0,0⟩⟩
section
variable {β:Type} (I:Bool->β->β->β) (N:Bool->β->β) (L:Ex×VerM->β)
def adCall (F:AdF) (v:VerM) (nx:Cl×JobM):β :=
 I (nx.1.kind != 12) (N (F.okb v.rite nx.1) (L (.normal,{v with doing:=2,call:=nx.1,rite:=F.bg v.rite nx.1,job:=some nx.2})))
   (N (F.okb v.rite clLeave) (L (.normal,{v with answer:=nx.1.ans,doing:=3,call:=clLeave,rite:=F.bg v.rite clLeave,job:=some nx.2})))
def adRound (v:VerM) (c:β):β :=
 I ((v.doing != 0)==true) (I (!busyM v.rite) (I (v.doing==1) (I (v.doing==1) c (L (.normal,{v with doing:=0}))) (I (v.doing==2) c (L (.normal,{v with doing:=0})))) (L (.exit 0,v))) (L (.exit 0,v))
end
def tF (r:Ex×VerM):T (Ex×St AV):=.leaf (r.1,famA r.2)
theorem ad_pile (σ:Sg) (F:AdF) (v:VerM) (j:PileM):(xc (NV σ) (joinCal (lv (NV σ) (tabAd F) 5)) (fun _=>none) 52 LA (famA {v with job:=some (.pile j)})).bind (backN 11 52 ksA noPk) =
 adRound tI tF {v with job:=some (.pile j)} (adCall tI tN tF F {v with job:=some (.pile j)} ((F.np j v.rite.reply).1,.pile (F.np j v.rite.reply).2)):=by kernel_rfl
theorem ad_cort (σ:Sg) (F:AdF) (v:VerM) (j:CortM):(xc (NV σ) (joinCal (lv (NV σ) (tabAd F) 5)) (fun _=>none) 52 LA (famA {v with job:=some (.cort j)})).bind (backN 11 52 ksA noPk) =
 adRound tI tF {v with job:=some (.cort j)} (adCall tI tN tF F {v with job:=some (.cort j)} ((F.nc j v.rite.reply).1,.cort (F.nc j v.rite.reply).2)):=by kernel_rfl
theorem ad_lit (σ:Sg) (F:AdF) (v:VerM) (j:LitM):(xc (NV σ) (joinCal (lv (NV σ) (tabAd F) 5)) (fun _=>none) 52 LA (famA {v with job:=some (.lit j)})).bind (backN 11 52 ksA noPk) =
 adRound tI tF {v with job:=some (.lit j)} (adCall tI tN tF F {v with job:=some (.lit j)} ((F.nl j v.rite.reply).1,.lit (F.nl j v.rite.reply).2)):=by kernel_rfl
theorem ad_vau (σ:Sg) (F:AdF) (v:VerM) (j:VauM):(xc (NV σ) (joinCal (lv (NV σ) (tabAd F) 5)) (fun _=>none) 52 LA (famA {v with job:=some (.vau j)})).bind (backN 11 52 ksA noPk) =
 adRound tI tF {v with job:=some (.vau j)} (tN (F.okv j) (adCall tI tN tF F {v with job:=some (.vau j)} ((F.nv j v.rite.reply).1,.vau (F.nv j v.rite.reply).2))):=by kernel_rfl
theorem ad_ste (σ:Sg) (F:AdF) (v:VerM) (j:SteM):(xc (NV σ) (joinCal (lv (NV σ) (tabAd F) 5)) (fun _=>none) 52 LA (famA {v with job:=some (.ste j)})).bind (backN 11 52 ksA noPk) =
 adRound tI tF {v with job:=some (.ste j)} (tN (F.oks j) (adCall tI tN tF F {v with job:=some (.ste j)} ((F.ns j v.rite.reply).1,.ste (F.ns j v.rite.reply).2))):=by kernel_rfl
def tFail:T (Ex×St AV):=.fail "nilCheck"
theorem ad_none (σ:Sg) (F:AdF) (v:VerM):(xc (NV σ) (joinCal (lv (NV σ) (tabAd F) 5)) (fun _=>none) 52 LA (famA {v with job:=none})).bind (backN 10 52 ksA noPk) =
 adRound tI tF {v with job:=none} tFail:=by kernel_rfl
end Go.Proofs.YtcpdipfepeccgaaGreatDoor
