import Derived.Test.YtcpdipfepeccgaaGreatDoorQq
import Derived.Test.YtcpdipfepeccgaaGreatDoorOp
import Derived.Test.YtcpdipfepeccgaaGreatDoorPb
import Derived.Test.YtcpdipfepeccgaaGreatDoorSxOf
set_option linter.unusedVariables false
set_option linter.unusedSimpArgs false
set_option maxHeartbeats 4000000
namespace Go.Proofs.YtcpdipfepeccgaaGreatDoor
open Go Go.Sx Go.Proofs
set_option maxRecDepth 100000
variable {σ:Sg} {lp:Lp}
theorem Ir {f:FuncId} {M:List Bool} (hM:8=M.length) {γ β α:Type} {A:ArgK γ} {B:ValK β} {O:ObK α} {ok:α->γ->Option Bool} {next:α->γ->β×α}
 (hrun:∀j x,okO (ok j x)=true->Ctr Tryz.prog (NV σ) f (.v (.c (.ptr 8 0))::A.enc x) (hpO M [O.V j]) (B.enc (next j x).1) (hpO M [O.V (next j x).2])):FnOk Tryz.prog (NV σ) f (aL isS M (cU A B O ok next)):=by
 refine b9 bk hM fun args l v l' nw h hl hargs=>?_
 unfold cU at h
 split at h
 ·rename_i r a
  split at h
  ·rename_i x j hx hj
   replace h:=dB h
   obtain⟨hok,h⟩:=h
   simp only [T.val,Option.some.injEq,Prod.mk.injEq] at h
   obtain⟨rfl,rfl,rfl⟩:=h
   have ea:=O.ok _ _ hj
   subst ea
   exact bE (hrun j x hok) fun ρ=>by
    simp only [List.map_cons]
    rw [A.ok _ _ hx ρ]
  ·simp [T.val] at h
 ·simp [T.val] at h
theorem P8 {tab:Tab} (ht:bm Tryz.prog (NV σ) tab) {f:FuncId} {M:List Bool} (hM:8=M.length) {β α:Type} {B:ValK β} {O:ObK α} {j:α} {ty:TypeId} {gs:Gs} (hl:ia σ (O.V j)=some (cD AV.len ty (dz gs))) {args:List SV} (hf:cS args=true) {r:β×α}
 (h:((cM σ tab f M args (O.V j) ty gs []).map (eO B O)).val=some (some r)):Ctr Tryz.prog (NV σ) f (.v (.c (.ptr 8 0))::args) (hpO M [O.V j]) (B.enc r.1) (hpO M [O.V r.2]):=by
 obtain⟨y,h1,h2⟩:=map_some h
 rw [qC h2] at h1
 exact(zo ht hM (O.okD j) hl (bL hf) h1).1
theorem P7 (hlp:bS Tryz.prog (NVl lp σ)) {tab:Tab} (ht:bm Tryz.prog (NV σ) tab) {f:FuncId} {M:List Bool} (hM:8=M.length) {β α:Type} {B:ValK β} {O:ObK α} {j:α} {ty:TypeId} {gs:Gs} (hl:ia σ (O.V j)=some (cD AV.len ty (dz gs))) {args:List SV} (hf:cS args=true) {r:β×α}
 (h:((qU lp σ tab f M args (O.V j) ty gs []).map (eO B O)).val=some (some r)):Ctr Tryz.prog (NV σ) f (.v (.c (.ptr 8 0))::args) (hpO M [O.V j]) (B.enc r.1) (hpO M [O.V r.2]):=by
 obtain⟨y,h1,h2⟩:=map_some h
 rw [qC h2] at h1
 exact gZ (zn hlp (ny ht) hM (O.okD j) hl (bL hf) h1).1
section
variable {β:Type} (I:Bool->β->β->β) (N:Bool->β->β) (L:RT->β)
def jA (sz:RT->Bool) (x:Rp1) (r:RT):β :=
 if r.m.step=9 then L (gG 10 qy {r with m:={r.m with word:=x.w}})
 else if r.m.step=10 then N (sz r) (
  if r.m.engine=3 \/ r.m.engine=5 then L (gf 11 ⟨3,0,0,24,x.w,gQ x.w 1⟩ (BS r.m.word.num x.w.num {r with m:={r.m with clock:=x.w}}))
  else jB I N L (BS r.m.word.num x.w.num {r with m:={r.m with clock:=x.w}}))
 else if r.m.step=11 then jB I N L r
 else if r.m.step=12 then jV I N L 0 {r with m:={r.m with clock:=x.w}} (L {r with m:={r.m with clock:=x.w}})
 else L (gG 15 qy r)
end
abbrev NN:Bool->RiteM->RiteM:=fun _ t=>t
def Iw (n:Int) (r:RT) (k:RiteM):RiteM:=jV cond NN RT.m n r k
def Ci (m:RiteM):RiteM:=qV {m:={m with notes:=m.notes.take (cO (m.doomed.getD 0 knotes.dflt) m.notes).toNat++m.notes.drop ((cO (m.doomed.getD 0 knotes.dflt) m.notes).toNat+1),freed:=IntKind.wrap .i64 (m.freed+1),doomed:=m.doomed.drop 1},ls:=m.seen.length,ld:=m.doomed.length - 1,ln:=m.notes.length - 1}
def eJ (m:RiteM) (x:Rp1):RiteM :=
 if m.step=13 then Iw (IntKind.wrap .i64 (m.index+1)) (gE x.w (rOf m)) (if m.engine=4 then cond (zY m.clock.num ((m.seen++[x.w]).map jt)) (gf 14 ⟨3,0,0,24,m.clock,gQ m.clock 1⟩ (gE x.w (rOf m))).m (gG 15 qy (gE x.w (rOf m))).m else iE (gE x.w (rOf m)).m)
 else if m.step=15 then iE {m with clock:=x.w}
 else if m.step=16 then Ci m
 else if 9<=m.step then jA cond NN RT.m (fun _=>true) x (rOf m)
 else jU cond NN RT.m x (rOf m)
def ya (m:RiteM):Bool:=decide (ER m /\ m.seen.length<=1000 /\ 1<=m.threads /\ m.threads<=6 /\
 (m.step=1 \/ m.step=2 \/ m.step=3 \/ (m.step=4 /\ (m.engine=2 \/ m.engine=3) /\ 0<=m.index /\ m.index < 9) \/ (m.step=5 /\ 0<=m.call.i /\ m.call.i < 9) \/ (m.step=6 /\ (m.engine=3 \/ m.engine=5) /\ 0<=m.call.i /\ m.call.i < 9) \/ m.step=7 \/ m.step=8 \/ m.step=9 \/
  (m.step=10 /\ (m.engine=3 \/ m.engine=4 \/ m.engine=5)) \/ (m.step=11 /\ (m.engine=3 \/ m.engine=5)) \/ (m.step=12 /\ m.engine=4) \/ (m.step=13 /\ 2<=m.engine /\ 0<=m.index /\ m.index < 100) \/ (m.step=14 /\ m.engine=4) \/ (m.step=15 /\ m.engine=4) \/
  (m.step=16 /\ 0 < m.doomed.length /\ 0<=cO (m.doomed.getD 0 knotes.dflt) m.notes /\ cO (m.doomed.getD 0 knotes.dflt) m.notes < (m.notes.length:Int))))
theorem Nl {b:Bool} {t e:T (Option (Unit×RiteM))} {x y:RiteM} (h1:b=true->cB t x) (h2:b=false->cB e y):cB (tI b t e) (cond b x y):=by
 cases b with
 | true=>exact h1 rfl
 | false=>exact h2 rfl
theorem oC {n:Int} {r:RT} (h:du r) {t:T (Option (Unit×RiteM))} {k:RiteM} (hk:cB t k) (hn:0<=n) (h1:1<=r.m.threads) (h2:r.m.threads<=6):cB (jV tI tN tR n r t) (Iw n r k):=by
 have ew:IntKind.wrap .i64 (r.m.threads * 9)=r.m.threads * 9:=fh (by omega)
 unfold Iw jV
 refine bJ (fun _=>Nl (fun _=>hk) fun hb=>?_) fun _=>Nl (fun _=>hk) fun hb=>?_
 ·have hlt:=of_decide_eq_false hb
  rw [ew] at hlt
  have e1:Int.tdiv n 9=n / 9:=Int.tdiv_eq_ediv_of_nonneg hn
  have e2:Int.tmod n 9=n % 9:=Int.tmod_eq_emod_of_nonneg hn
  have e3:IntKind.wrap .i64 (n / 9)=n / 9:=fh (by omega)
  exact fS rfl (fS rfl (fS (by rw [e1,e2,e3];exact jZ (by omega) (by omega) (by omega) (by omega)) (dG (r:=gf 13 _ {r with m:={r.m with index:=n}}) h)))
 ·have hlt:=of_decide_eq_false hb
  exact fS (jY hn (by omega)) (dG (r:=gf 13 _ {r with m:={r.m with index:=n}}) h)
theorem Bg {x:Rp1} {r:RT} (h:du r) (h1:0<=r.m.me) (h2:r.m.me < 6) (h3:0<=r.m.call.i) (h4:r.m.call.i < 9):cB (gF tI tN tR x r) (gF cond NN RT.m x r):=by
 unfold gF
 refine bJ (fun _=>dG h) fun _=>bJ (fun _=>bJ (fun _=>dG h) fun _=>bJ (fun _=>su (rL (r:={r with m:={r.m with word:=x.w}}) h (jZ h1 h2 h3 h4)) (dG (r:=eA ⟨x.w,true⟩ r) (iP h))) fun _=>dG (r:=eA ⟨x.w,true⟩ r) (iP h)) fun _=>?_
 exact bJ (fun _=>su (dG (r:=eA ⟨r.m.word,true⟩ r) (iP h)) (rL h (jZ h1 h2 h3 h4))) fun _=>su (dG (r:=eA ⟨r.m.word,true⟩ r) (iP h)) (su (xH h (jY h1 h2)) (xH h (jY h1 h2)))
theorem Ko {x:Rp1} {r:RT} (h:du r) (h1:0<=r.m.me) (h2:r.m.me < 6) (h3:r.m.step=4->0<=r.m.index /\ r.m.index < 9) (h4:(r.m.step=5 \/ r.m.step=6)->0<=r.m.call.i /\ r.m.call.i < 9) (h5:r.m.step=1 \/ r.m.step=2 \/ r.m.step=3 \/ r.m.step=4 \/ r.m.step=5 \/ r.m.step=6 \/ r.m.step=7 \/ r.m.step=8):cB (jU tI tN tR x r) (jU cond NN RT.m x r):=by
 unfold jU
 refine bJ (fun _=>dG (iP h)) fun _=>bJ (fun _=>eT h) fun _=>bJ (fun _=>xH h (jY h1 h2)) fun _=>bJ (fun e=>yY h h1 h2 _ (by have:=h3 e;omega)) fun _=>bJ (fun _=>dG h) fun _=>?_
 by_cases h7:r.m.step=7
 ·unfold gF
  rw [if_pos h7,if_pos h7]
  exact dG h
 ·exact Bg h h1 h2 (h4 (by omega)).1 (h4 (by omega)).2
theorem F7 {x:Rp1} {r:RT} (h:du r) (hn:r.m.notes.length<=100000) (h1:1<=r.m.threads) (h2:r.m.threads<=6):cB (jA tI tN tR (vF σ) x r) (jA cond NN RT.m (fun _=>true) x r):=by
 unfold jA
 exact bJ (fun _=>dG h) fun _=>bJ (fun _=>fS (C7 h hn) (bJ (fun _=>dG (ua (r:={r with m:={r.m with clock:=x.w}}) h)) fun _=>ss (ua (r:={r with m:={r.m with clock:=x.w}}) h))) fun _=>bJ (fun _=>ss h) fun _ =>
  bJ (fun _=>oC (r:={r with m:={r.m with clock:=x.w}}) h (dG (r:={r with m:={r.m with clock:=x.w}}) h) (Int.le_refl 0) h1 h2) fun _=>dG h
theorem eD {w:W} {r:RT} (h:du r):du (gE w r):=⟨by show r.ls+1=(r.m.seen++[w]).length;rw [List.length_append,h.1];rfl,h.2.1,h.2.2⟩
theorem oM {r:RT} (h:du r) (hn:r.m.seen.length<=100000):C8 σ r=true:=by
 unfold C8
 refine decide_eq_true ⟨h.1,?_⟩
 rw [h.1]
 exact Nat.le_trans (Nat.mul_le_mul_right _ (Nat.succ_le_succ hn)) (by decide)
theorem rK {r:RT} (h:du r) (hs:HV r.m=true):cB (HG tN tR iE r) (iE r.m):=fS (rU h.1 h.2.1 h.2.2) (fS hs (dG (r:=rOf (iE r.m)) ⟨rfl,rfl,rfl⟩))
theorem Kp {r:RT} (h:du r):cB (jn tI tN tR r) (qV r):=by
 unfold jn qV jn
 by_cases h0:r.m.doomed.length=0
 ·have e:((r.ld:Int)==0)=true:=by rw [h.2.1,h0];rfl
  rw [e]
  exact eT h
 ·have e:((r.ld:Int)==0)=false:=by rw [h.2.1];simp only [beq_eq_false_iff_ne];omega
  rw [e]
  exact fS (decide_eq_true ⟨Int.le_refl 0,by rw [h.2.1];omega⟩) (fS (decide_eq_true (by omega)) (dG (r:=gf 16 _ r) h))
def gsK (ks:List Nat) (m:RiteM):Gs:=ks.foldl (fun g k=>bh k g) (RiteM.wr m)
def A9 (σ:Sg) (m:RiteM) (x:Rp1):Prop:=Ctr Tryz.prog (NV σ) 39 (.v (.c (.ptr 8 0))::aRp.enc x) (hpO noM [dw m]) (.v (.c .inil)) (hpO noM [dw (eJ m x)])
theorem Jq {ks:List Nat} {m:RiteM} {x:Rp1} {t:T (Option (Unit×RiteM))} (hl:ia σ (dw m)=some (cD AV.len b8 (dz (gsK ks m)))) (e:G8 σ ks m x=t) (hv:cB t (eJ m x)):A9 σ m x :=
 P8 (O:=oRite) (B:=sg) (r:=((),eJ m x)) sD rfl hl (aRp.free x) ((congrArg T.val e).trans hv)
theorem qE {lp:Lp} (hlp:bS Tryz.prog (NVl lp σ)) {ks:List Nat} {m:RiteM} {x:Rp1} {t:T (Option (Unit×RiteM))} (hl:ia σ (dw m)=some (cD AV.len b8 (dz (gsK ks m)))) (e:sS lp σ (Gf σ) ks m x=t) (hv:cB t (eJ m x)):A9 σ m x :=
 P7 (O:=oRite) (B:=sg) (r:=((),eJ m x)) hlp D7 rfl hl (aRp.free x) ((congrArg T.val e).trans hv)
theorem tkA {m:RiteM} {x:Rp1} (ks:List Nat) (h1:0<=m.me) (h2:m.me < 6) (h3:m.step=4->0<=m.index /\ m.index < 9) (h4:(m.step=5 \/ m.step=6)->0<=m.call.i /\ m.call.i < 9) (h5:1<=m.step /\ m.step<=8)
 (hl:ia σ (dw m)=some (cD AV.len b8 (dz (gsK ks m)))) (e:G8 σ ks m x=jU tI tN tR x (rOf m)):A9 σ m x:=Jq hl e (by
 unfold eJ
 rw [if_neg (by omega),if_neg (by omega),if_neg (by omega),if_neg (by omega)]
 exact Ko ⟨rfl,rfl,rfl⟩ h1 h2 h3 h4 (by dsimp only [rOf];omega))
theorem tkZ {m:RiteM} {x:Rp1} (ks:List Nat) (hn:m.notes.length<=100000) (h1:1<=m.threads) (h2:m.threads<=6) (h5:9<=m.step /\ m.step<=12 \/ m.step=14)
 (hl:ia σ (dw m)=some (cD AV.len b8 (dz (gsK ks m)))) (e:G8 σ ks m x=OT tI tN tR σ x (rOf m)):A9 σ m x:=Jq hl e (by
 unfold eJ
 rw [if_neg (by omega),if_neg (by omega),if_neg (by omega),if_pos (by omega)]
 exact F7 ⟨rfl,rfl,rfl⟩ hn h1 h2)
theorem Gb (σ:Sg) (m:RiteM) (x:Rp1) (h:ya m=true):A9 σ m x:=by
 obtain⟨⟨h1,h2,h3,h4,h5⟩,h6,h7,h8,h9⟩:=of_decide_eq_true (h:decide _=true)
 clear h
 obtain⟨⟨k,adr,old,new,i,j,ans⟩,st,acc,wd,clk,ix,seen,doomed,e,me,thr,mst,holds,span,notes,freed,reply⟩:=m
 dsimp only at h1 h2 h3 h4 h5 h6 h7 h8 h9
 have he:e=1 \/ e=2 \/ e=3 \/ e=4 \/ e=5:=by omega
 have n9 {n:Int}:0<=n->n < 9->n=0 \/ n=1 \/ n=2 \/ n=3 \/ n=4 \/ n=5 \/ n=6 \/ n=7 \/ n=8:=by omega
 clear h1 h2
 rcases h9 with rfl | rfl | rfl | ⟨rfl,h9,ha,hb⟩ | ⟨rfl,ha,hb⟩ | ⟨rfl,h9,ha,hb⟩ | rfl | rfl | rfl | ⟨rfl,h9⟩ | ⟨rfl,h9⟩ | ⟨rfl,h9⟩ | ⟨rfl,h9,ha,hb⟩ | ⟨rfl,h9⟩ | ⟨rfl,h9⟩ | ⟨rfl,h9,ha,hb⟩
 ·exact tkA [18] h3 h4 (by dsimp only;omega) (by dsimp only;omega) (by dsimp only;omega) (by kernel_rfl) (by kernel_rfl)
 ·exact tkA [18] h3 h4 (by dsimp only;omega) (by dsimp only;omega) (by dsimp only;omega) (by kernel_rfl) (by kernel_rfl)
 ·exact tkA [18] h3 h4 (by dsimp only;omega) (by dsimp only;omega) (by dsimp only;omega) (by kernel_rfl) (by kernel_rfl)
 ·rcases h9 with rfl | rfl<;>rcases n9 ha hb with rfl | rfl | rfl | rfl | rfl | rfl | rfl | rfl | rfl<;>exact tkA [18,46,43] h3 h4 (by dsimp only;omega) (by dsimp only;omega) (by dsimp only;omega) (by kernel_rfl) (by kernel_rfl)
 ·rcases he with rfl | rfl | rfl | rfl | rfl
  ·exact tkA [18,46] h3 h4 (by dsimp only;omega) (by dsimp only;omega) (by dsimp only;omega) (by kernel_rfl) (by kernel_rfl)
  ·rcases n9 ha hb with rfl | rfl | rfl | rfl | rfl | rfl | rfl | rfl | rfl<;>exact tkA [18,46,14] h3 h4 (by dsimp only;omega) (by dsimp only;omega) (by dsimp only;omega) (by kernel_rfl) (by kernel_rfl)
  ·exact tkA [18,46] h3 h4 (by dsimp only;omega) (by dsimp only;omega) (by dsimp only;omega) (by kernel_rfl) (by kernel_rfl)
  ·exact tkA [18,46] h3 h4 (by dsimp only;omega) (by dsimp only;omega) (by dsimp only;omega) (by kernel_rfl) (by kernel_rfl)
  ·exact tkA [18,46] h3 h4 (by dsimp only;omega) (by dsimp only;omega) (by dsimp only;omega) (by kernel_rfl) (by kernel_rfl)
 ·rcases h9 with rfl | rfl
  ·rcases n9 ha hb with rfl | rfl | rfl | rfl | rfl | rfl | rfl | rfl | rfl<;>exact tkA [18,46,14] h3 h4 (by dsimp only;omega) (by dsimp only;omega) (by dsimp only;omega) (by kernel_rfl) (by kernel_rfl)
  ·exact tkA [18,46] h3 h4 (by dsimp only;omega) (by dsimp only;omega) (by dsimp only;omega) (by kernel_rfl) (by kernel_rfl)
 ·exact tkA [18] h3 h4 (by dsimp only;omega) (by dsimp only;omega) (by dsimp only;omega) (by kernel_rfl) (by kernel_rfl)
 ·exact tkA [18] h3 h4 (by dsimp only;omega) (by dsimp only;omega) (by dsimp only;omega) (by kernel_rfl) (by kernel_rfl)
 ·exact tkZ [18] h5 h7 h8 (by dsimp only;omega) (by kernel_rfl) (by kernel_rfl)
 ·rcases h9 with rfl | rfl | rfl<;>exact tkZ [18,46] h5 h7 h8 (by dsimp only;omega) (by kernel_rfl) (by kernel_rfl)
 ·rcases h9 with rfl | rfl<;>exact tkZ [18,46] h5 h7 h8 (by dsimp only;omega) (by kernel_rfl) (by kernel_rfl)
 ·subst h9;exact tkZ [18,46] h5 h7 h8 (by dsimp only;omega) (by kernel_rfl) (by kernel_rfl)
 ·have hw:IntKind.wrap .i64 (ix+1)=ix+1:=fh (by omega)
  have hn:0<=IntKind.wrap .i64 (ix+1):=by rw [hw];omega
  rcases he with rfl | rfl | rfl | rfl | rfl
  ·exact absurd h9 (by decide)
  ·refine qE fL (ks:=[18,46]) rfl (Ou σ iE cO zY ⟨⟨k,adr,old,new,i,j,ans⟩,13,acc,wd,clk,ix,seen,doomed,2,me,thr,mst,holds,span,notes,freed,reply⟩ x) ?_
   exact fS (oM (r:=rOf ⟨⟨k,adr,old,new,i,j,ans⟩,13,acc,wd,clk,ix,seen,doomed,2,me,thr,mst,holds,span,notes,freed,reply⟩) ⟨rfl,rfl,rfl⟩ (by show seen.length<=_;omega)) (oC (r:=gE x.w (rOf ⟨⟨k,adr,old,new,i,j,ans⟩,13,acc,wd,clk,ix,seen,doomed,2,me,thr,mst,holds,span,notes,freed,reply⟩)) (eD ⟨rfl,rfl,rfl⟩) (rK (eD ⟨rfl,rfl,rfl⟩) (decide_eq_true ⟨by show (2:Int)<=2;decide,by show (2:Int)<=5;decide,by show (seen++[x.w]).length<=_;rw [List.length_append];simp only [List.length_cons,List.length_nil];omega,h5⟩)) hn h7 h8)
  ·refine qE fL (ks:=[18,46]) rfl (Ot σ iE cO zY ⟨⟨k,adr,old,new,i,j,ans⟩,13,acc,wd,clk,ix,seen,doomed,3,me,thr,mst,holds,span,notes,freed,reply⟩ x) ?_
   exact fS (oM (r:=rOf ⟨⟨k,adr,old,new,i,j,ans⟩,13,acc,wd,clk,ix,seen,doomed,3,me,thr,mst,holds,span,notes,freed,reply⟩) ⟨rfl,rfl,rfl⟩ (by show seen.length<=_;omega)) (oC (r:=gE x.w (rOf ⟨⟨k,adr,old,new,i,j,ans⟩,13,acc,wd,clk,ix,seen,doomed,3,me,thr,mst,holds,span,notes,freed,reply⟩)) (eD ⟨rfl,rfl,rfl⟩) (rK (eD ⟨rfl,rfl,rfl⟩) (decide_eq_true ⟨by show (2:Int)<=3;decide,by show (3:Int)<=5;decide,by show (seen++[x.w]).length<=_;rw [List.length_append];simp only [List.length_cons,List.length_nil];omega,h5⟩)) hn h7 h8)
  ·refine qE (Sm fL ⟨⟨k,adr,old,new,i,j,ans⟩,13,acc,wd,clk,ix,seen,doomed,4,me,thr,mst,holds,span,notes,freed,reply⟩ (seen++[x.w]) (seen.length+1) (by rw [List.length_append];rfl) (by rw [List.length_append];simp only [List.length_cons,List.length_nil];omega)) (ks:=[18,46]) rfl (Oq σ ((seen++[x.w]).map jt) iE cO zY ⟨⟨k,adr,old,new,i,j,ans⟩,13,acc,wd,clk,ix,seen,doomed,4,me,thr,mst,holds,span,notes,freed,reply⟩ x) ?_
   exact fS (oM (r:=rOf ⟨⟨k,adr,old,new,i,j,ans⟩,13,acc,wd,clk,ix,seen,doomed,4,me,thr,mst,holds,span,notes,freed,reply⟩) ⟨rfl,rfl,rfl⟩ (by show seen.length<=_;omega)) (oC (r:=gE x.w (rOf ⟨⟨k,adr,old,new,i,j,ans⟩,13,acc,wd,clk,ix,seen,doomed,4,me,thr,mst,holds,span,notes,freed,reply⟩)) (eD ⟨rfl,rfl,rfl⟩) (fS (Jg _ _ _) (fS (fm _ _) (fS (decide_eq_true ⟨rfl,by rw [List.length_map,List.length_append];simp only [List.length_cons,List.length_nil];omega⟩) (su (dG (r:=gf 14 _ (gE x.w (rOf ⟨⟨k,adr,old,new,i,j,ans⟩,13,acc,wd,clk,ix,seen,doomed,4,me,thr,mst,holds,span,notes,freed,reply⟩))) (eD ⟨rfl,rfl,rfl⟩)) (dG (r:=gG 15 _ (gE x.w (rOf ⟨⟨k,adr,old,new,i,j,ans⟩,13,acc,wd,clk,ix,seen,doomed,4,me,thr,mst,holds,span,notes,freed,reply⟩))) (eD ⟨rfl,rfl,rfl⟩)))))) hn h7 h8)
  ·refine qE fL (ks:=[18,46]) rfl (Oo σ iE cO zY ⟨⟨k,adr,old,new,i,j,ans⟩,13,acc,wd,clk,ix,seen,doomed,5,me,thr,mst,holds,span,notes,freed,reply⟩ x) ?_
   exact fS (oM (r:=rOf ⟨⟨k,adr,old,new,i,j,ans⟩,13,acc,wd,clk,ix,seen,doomed,5,me,thr,mst,holds,span,notes,freed,reply⟩) ⟨rfl,rfl,rfl⟩ (by show seen.length<=_;omega)) (oC (r:=gE x.w (rOf ⟨⟨k,adr,old,new,i,j,ans⟩,13,acc,wd,clk,ix,seen,doomed,5,me,thr,mst,holds,span,notes,freed,reply⟩)) (eD ⟨rfl,rfl,rfl⟩) (rK (eD ⟨rfl,rfl,rfl⟩) (decide_eq_true ⟨by show (2:Int)<=5;decide,by show (5:Int)<=5;decide,by show (seen++[x.w]).length<=_;rw [List.length_append];simp only [List.length_cons,List.length_nil];omega,h5⟩)) hn h7 h8)
 ·subst h9;exact tkZ [18,46] h5 h7 h8 (by dsimp only;omega) (by kernel_rfl) (by kernel_rfl)
 ·subst h9
  refine qE fL (ks:=[18]) rfl (TV σ iE cO zY ⟨⟨k,adr,old,new,i,j,ans⟩,15,acc,wd,clk,ix,seen,doomed,4,me,thr,mst,holds,span,notes,freed,reply⟩ x) ?_
  exact rK (r:={rOf ⟨⟨k,adr,old,new,i,j,ans⟩,15,acc,wd,clk,ix,seen,doomed,4,me,thr,mst,holds,span,notes,freed,reply⟩ with m:={(⟨⟨k,adr,old,new,i,j,ans⟩,15,acc,wd,clk,ix,seen,doomed,4,me,thr,mst,holds,span,notes,freed,reply⟩:RiteM) with clock:=x.w}}) ⟨rfl,rfl,rfl⟩ (decide_eq_true ⟨by show (2:Int)<=4;decide,by show (4:Int)<=5;decide,by show seen.length<=_;omega,h5⟩)
 ·refine qE fL (ks:=[18]) rfl (TU σ iE cO zY ⟨⟨k,adr,old,new,i,j,ans⟩,16,acc,wd,clk,ix,seen,doomed,e,me,thr,mst,holds,span,notes,freed,reply⟩ x) ?_
  have hl:(0:Int)<=doomed.length:=by omega
  have e1:((doomed.length:Int)).toNat=doomed.length:=by omega
  unfold HH
  refine fS (decide_eq_true ⟨Int.le_refl 0,by show (0:Int) < doomed.length;omega⟩) (fS (decide_eq_true h9) (fS (decide_eq_true ⟨rfl,h5⟩) (fS (decide_eq_true ⟨rfl,h5,ha,hb,fh ?_⟩) (fS (decide_eq_true ⟨by decide,by show (1:Int)<=doomed.length;omega,Int.le_refl _,rfl⟩) ?_))))
  ·have h5:notes.length<=100000:=h5
   have ha:0<=cO (doomed.getD 0 knotes.dflt) notes:=ha
   have hb:cO (doomed.getD 0 knotes.dflt) notes < (notes.length:Int):=hb
   show _<=cO (doomed.getD 0 knotes.dflt) notes+1 /\ cO (doomed.getD 0 knotes.dflt) notes+1<=_
   omega
  ·have key:∀dd:List Nt,dd=doomed.drop 1->cB (jn tI tN tR {m:={(⟨⟨k,adr,old,new,i,j,ans⟩,16,acc,wd,clk,ix,seen,doomed,e,me,thr,mst,holds,span,notes,freed,reply⟩:RiteM) with notes:=notes.take (cO (doomed.getD 0 knotes.dflt) notes).toNat++notes.drop ((cO (doomed.getD 0 knotes.dflt) notes).toNat+1),freed:=IntKind.wrap .i64 (freed+1),doomed:=dd},ls:=seen.length,ld:=doomed.length - 1,ln:=notes.length - 1}) (Ci ⟨⟨k,adr,old,new,i,j,ans⟩,16,acc,wd,clk,ix,seen,doomed,e,me,thr,mst,holds,span,notes,freed,reply⟩):=by
    rintro _ rfl
    refine Kp ⟨rfl,?_,?_⟩
    ·show doomed.length - 1=(doomed.drop 1).length
     rw [List.length_drop]
    ·show notes.length - 1=(notes.take (cO (doomed.getD 0 knotes.dflt) notes).toNat++notes.drop ((cO (doomed.getD 0 knotes.dflt) notes).toNat+1)).length
     have ha:0<=cO (doomed.getD 0 knotes.dflt) notes:=ha
     have hb:cO (doomed.getD 0 knotes.dflt) notes < (notes.length:Int):=hb
     rw [List.length_append,List.length_take,List.length_drop]
     omega
   exact key ((doomed.take doomed.length).drop 1) (by rw [List.take_length])
theorem Ks:FnOk Tryz.prog (NV σ) 39 (aL isS noM (cU aRp sg oRite (fun m _=>some (ya m)) (fun m x=>((),eJ m x)))) :=
 Ir rfl fun m x h=>Gb σ m x h
end Go.Proofs.YtcpdipfepeccgaaGreatDoor

namespace Go.Proofs.YtcpdipfepeccgaaGreatDoor
open Go Go.Sx Go.Proofs
set_option maxRecDepth 100000
variable {σ:Sg}
def vAd:ValK Ad where
 enc x:=.v (.agg [.it .i64 x.s,.it .i64 x.g,.it .i64 x.f])
 dec:=fun | .v (.agg [.it .i64 a,.it .i64 b,.it .i64 c])=>some ⟨a,b,c⟩ | _=>none
 ok:=fun v b h=>by split at h<;>cases h;rfl
def D3:ValK Int where
 enc n:=.v (.c (.it .i64 n))
 dec:=fun | .v (.c (.it .i64 n))=>some n | _=>none
 ok:=fun v b h=>by split at h<;>cases h;rfl
def lH (n:Int):Bool:=decide (0<=n /\ n < 24)
theorem Rq (σ:Sg) (n:Int):(eG σ aQ 76 noM (aI.enc n) []).map (iW vAd)=.ite (orB (decide (n < 0)) (decide (n>=24))) (.fail "load") (.leaf (some ⟨0,0,IntKind.wrap .i64 (0+n)⟩)):=by kernel_rfl
theorem mV {m:Int} (h:-9223372036854775808<=m /\ m<=9223372036854775807):IntKind.wrap .i64 m=m:=by
 unfold IntKind.wrap
 simp only [IntKind.bits,IntKind.signed]
 first | omega | (simp;omega)
theorem KK:FnOk Tryz.prog (NV σ) 76 (aL isS noM (n7 aI vAd (fun n=>some (lH n)) bH)) :=
 my au rfl fun n h=>⟨aI.enc n,rfl,fun _=>rfl,by
  have h:0<=n /\ n < 24:=of_decide_eq_true h
  have e:orB (decide (n < 0)) (decide (n>=24))=false:=by
   rw [decide_eq_false (show ¬n < 0 by omega),decide_eq_false (show ¬n>=24 by omega)];rfl
  rw [Rq,e]
  show some (some (⟨0,0,_⟩:Ad))=_
  rw [mV (by omega:-9223372036854775808<=0+n /\ 0+n<=9223372036854775807),Int.zero_add];rfl⟩
def pG (c:Int):Int:=if c=0 then 0 else if c=1 then 256 else if c=2 then 128 else if c=3 then 384 else if c=4 then 64 else if c=5 then 320 else if c=6 then 192 else 448
def T4 (n:Nat):Nat:=n % 2 * 128+n / 2 % 2 * 64+n / 4 % 2 * 32+n / 8 % 2 * 16+n / 16 % 2 * 8+n / 32 % 2 * 4+n / 64 % 2 * 2+n / 128 % 2
def oY (k:Int):Int:=2 * (T4 k.toNat:Int)+1
def p8 (c:Int):Bool:=decide (0<=c /\ c < 8)
def zE (k:Int):Bool:=decide (0<=k /\ k < 256)
def Dy (t:T (Option Int)) (n:Int):Bool:=match t with | .leaf (some m)=>decide (m=n) | _=>false
theorem tZ {t:T (Option Int)} {n:Int} (h:Dy t n=true):t.val=some (some n):=by
 unfold Dy at h
 split at h
 ·rw [of_decide_eq_true h];rfl
 ·cases h
def JW (p:Nat->Bool):Nat->Bool
 | 0=>true
 | k+1=>match p k with | true=>JW p k | false=>false
theorem qK {p:Nat->Bool}:∀{n:Nat},JW p n=true->∀k,k < n->p k=true
 | 0,_,k,h=>by omega
 | n+1,h,k,hk=>by
   simp only [JW] at h
   split at h
   ·rename_i hn
    rcases Nat.lt_succ_iff_lt_or_eq.1 hk with hk | rfl
    ·exact qK h k hk
    ·exact hn
   ·cases h
theorem Mw (σ:Sg):JW (fun k=>Dy ((eG σ aQ 200 noM [.v (.c (.il .i64 (Int.ofNat k)))] []).map (iW D3)) (pG (Int.ofNat k))) 8=true:=by kernel_rfl
theorem O5 (σ:Sg):JW (fun k=>Dy ((eG σ aQ 201 noM [.v (.c (.il .i64 (Int.ofNat k)))] []).map (iW D3)) (oY (Int.ofNat k))) 256=true:=by kernel_rfl
theorem Mv:FnOk Tryz.prog (NV σ) 200 (aL isS noM (n7 aI D3 (fun n=>some (p8 n)) pG)) :=
 my au rfl fun n h=>by
  have h:0<=n /\ n < 8:=of_decide_eq_true h
  obtain⟨k,rfl⟩:∃k:Nat,n=Int.ofNat k:=⟨n.toNat,by simp;omega⟩
  exact⟨[.v (.c (.il .i64 (Int.ofNat k)))],rfl,fun _=>rfl,tZ (qK (Mw σ) k (by have:=h.2;simp at this;omega))⟩
theorem O4:FnOk Tryz.prog (NV σ) 201 (aL isS noM (n7 aI D3 (fun n=>some (zE n)) oY)) :=
 my au rfl fun n h=>by
  have h:0<=n /\ n < 256:=of_decide_eq_true h
  obtain⟨k,rfl⟩:∃k:Nat,n=Int.ofNat k:=⟨n.toNat,by simp;omega⟩
  exact⟨[.v (.c (.il .i64 (Int.ofNat k)))],rfl,fun _=>rfl,tZ (qK (O5 σ) k (by have:=h.2;simp at this;omega))⟩
def N5:ArgK (Ad×Int×O) where
 enc x:=[.v (.agg [.it .i64 x.1.s,.it .i64 x.1.g,.it .i64 x.1.f]),.v (.c (.it .i64 x.2.1)),.v (.agg x.2.2.enc)]
 dec:=fun | [.v (.agg [c0,c1,c2]),.v (.c c3),.v (.agg [c4,c5,c6,c7])]=>(match iOf c0,iOf c1,iOf c2,iOf c3,iOf c4,iOf c5,iOf c6,iOf c7 with | some a,some b,some c,some n,some k,some e,some v,some t=>some (⟨a,b,c⟩,n,⟨k,e,v,t⟩) | _,_,_,_,_,_,_,_=>none) | _=>none
 ok:=fun l a h ρ=>by
  split at h
  ·split at h
   ·rename_i h0 h1 h2 h3 h4 h5 h6 h7
    cases h
    simp only [List.map_cons,List.map_nil,SV.den,V1.den,ae,O.enc,aM h0 ρ,aM h1 ρ,aM h2 ρ,aM h3 ρ,aM h4 ρ,aM h5 ρ,aM h6 ρ,aM h7 ρ]
    rfl
   ·cases h
  ·cases h
 free:=fun _=>rfl
def gW (x:Ad×Int×O):LitM:=⟨0,bu,x.1,x.2.1,x.2.2,none,aq,0⟩
def yb (o:O):Bool:=decide (o.kind=6 \/ o.kind=7 \/ o.kind=8)
theorem Tb (σ:Sg) (k:Nat) (a:Ad) (n e v t:Int):k=6 \/ k=7 \/ k=8->(eG σ aQ 56 noM [.v (.agg [.it .i64 a.s,.it .i64 a.g,.it .i64 a.f]),.v (.c (.it .i64 n)),.v (.agg [.il .i64 (Int.ofNat k),.it .i64 e,.it .i64 v,.it .i64 t])] []).map (Fp oLit)=tL (gW (a,n,⟨Int.ofNat k,e,v,t⟩)):=by
 rintro (rfl | rfl | rfl)
 ·kernel_rfl
 ·kernel_rfl
 ·kernel_rfl
theorem L5:FnOk Tryz.prog (NV σ) 56 (aL isS noM (zN N5 oLit (fun x=>some (yb x.2.2)) gW)) :=
 yh au rfl fun x h=>by
  obtain⟨a,n,⟨k,e,v,t⟩⟩:=x
  have h:k=6 \/ k=7 \/ k=8:=of_decide_eq_true h
  obtain⟨i,rfl,hi⟩:∃i:Nat,k=Int.ofNat i /\ (i=6 \/ i=7 \/ i=8):=by
   rcases h with rfl | rfl | rfl
   ·exact⟨6,rfl,by decide⟩
   ·exact⟨7,rfl,by decide⟩
   ·exact⟨8,rfl,by decide⟩
  exact⟨[.v (.agg [.it .i64 a.s,.it .i64 a.g,.it .i64 a.f]),.v (.c (.it .i64 n)),.v (.agg [.il .i64 (Int.ofNat i),.it .i64 e,.it .i64 v,.it .i64 t])],rfl,fun _=>rfl,by rw [Tb σ i a n e v t hi];rfl⟩
noncomputable def Ge:Tab:=aC 76 (aL isS noM (n7 aI vAd (fun n=>some (lH n)) bH)) (aC 200 (aL isS noM (n7 aI D3 (fun n=>some (p8 n)) pG)) (aC 201 (aL isS noM (n7 aI D3 (fun n=>some (zE n)) oY))
 (aC 56 (aL isS noM (zN N5 oLit (fun x=>some (yb x.2.2)) gW)) (aC 165 (aL isS noM (gK aRp vCl oLit (fun _ _=>none) dC bu)) y3))))
theorem Gd:bm Tryz.prog (NV σ) Ge:=aj KK (aj Mv (aj O4 (aj L5 (aj Iy yZ))))
@[reducible] def oVau:ObK VauM:=⟨xF,D1,fun _ _=>xE,fun _=>rfl⟩
end Go.Proofs.YtcpdipfepeccgaaGreatDoor

namespace Go.Proofs.YtcpdipfepeccgaaGreatDoor
open Go Go.Sx Go.Proofs
set_option maxRecDepth 100000
variable {σ:Sg}
def nJ (b:Int):Int:=if b=3 then 1 else if b=5 then 1 else if b=6 then 2 else if b=7 then 3 else 0
def szN (n:Int):Int:=match n==2 with
 | true=>(match n==2 with | true=>n | false=>1)
 | false=>match n==4 with
   | true=>(match n==4 with | true=>n | false=>1)
   | false=>match n==8 with | true=>n | false=>1
def kN:Nat->Int->Int->Int
 | 0,c,_=>c
 | k+1,c,b=>if nJ c=b then c else kN k (nJ c) b
noncomputable def FZ {β:Type} (I:Bool->β->β->β) (N:Bool->β->β) (L:Cl×VauM->β) (j:VauM) (x:Rp1):β :=
 let ask (n:Int) (c:Cl) (j:VauM):β:=L (c,{j with pc:=n})
 let done (a:An) (j:VauM):β:=L (⟨12,fc,aq,aq,0,0,a⟩,{j with pc:=-1,last:=⟨12,fc,aq,aq,0,0,a⟩})
 let root (n:Int) (k:Ad->β):β:=N (lH n) (k (bH n))
 let rootB (b:Int) (k:Ad->β):β:=root (fA 8 b) k
 let fin11 (c:Cl) (j:VauM):β:=I (c.kind != 12) (L (c,j)) (I (orB (c.ans.code != 1) (j.op.kind==8)) (done c.ans {j with answer:=c.ans}) (root 17 fun a=>ask 12 (aZ a) {j with answer:=c.ans}))
 let step11 (x:Rp1) (j:VauM):β:=match j.inner with
  | none=>fin11 bu j
  | some l=>fin11 (dC l x).1 {j with inner:=some (dC l x).2}
 let perform (j:VauM):β:=N (zE j.op.key) (N (yb j.op) (step11 ⟨aq,false⟩ {j with inner:=some (gW (aY j.base 2,oY j.op.key,j.op)),pc:=11}))
 let descend (j:VauM):β:=if j.bucket=j.wanted then perform j else ask 3 jy {j with child:=kN 4 j.wanted j.bucket}
 let place (j:VauM):Ad×W×W:=match j.walk with | none=>(fc,aq,aq) | some w=>(w.prev,w.cur,w.next)
 let found (j:VauM):Bool:=match j.walk with | none=>false | some w=>w.found
 let walk5 (j:VauM):β :=
  let k (j:VauM):β:=I (found j) (ask 6 (qH j.node) {j with sentinel:=ko (place j).2.1}) (ask 7 (cY (aY j.node 2) (ko (place j).2.1)) j)
  match j.walk with
  | none=>I false (L (bu,j)) (k j)
  | some w=>I (bz w x).1.2 (L ((bz w x).1.1,{j with walk:=some (bz w x).2})) (k {j with walk:=some (bz w x).2})
 let seek (j:VauM):β:=N (p8 j.child) (walk5 {j with walk:=some (eY (aY j.base 2,pG j.child)),pc:=5})
 if j.pc=0 then root 16 fun a=>ask 1 (aZ a) j
 else if j.pc=1 then
  N (szN x.w.num != 0) (rootB (Int.tmod j.op.key (szN x.w.num)) fun a=>ask 2 (aZ a) {j with size:=szN x.w.num,wanted:=Int.tmod j.op.key (szN x.w.num),bucket:=Int.tmod j.op.key (szN x.w.num)})
 else if j.pc=2 then
  I (!(x.w.slot==0)) (descend {j with base:=x.w}) (if j.bucket=0 then done ⟨4,0⟩ j else rootB (nJ j.bucket) fun a=>ask 2 (aZ a) {j with bucket:=nJ j.bucket})
 else if j.pc=11 then step11 x j
 else if j.pc=12 then I (j.op.kind==7) (root 17 fun a=>ask 13 (bG a x.w (gQ x.w (-1))) {j with count:=x.w}) (root 17 fun a=>ask 13 (bG a x.w (gQ x.w 1)) {j with count:=x.w})
 else if j.pc=13 then I (!x.ok) (root 17 fun a=>ask 12 (aZ a) j) (I (orB (j.op.kind==7) (orB (j.size==8) (decide (j.count.num < IntKind.wrap .i64 (2 * j.size))))) (done j.answer j) (root 16 fun a=>ask 14 (aZ a) j))
 else if j.pc=14 then I (x.w.num==j.size) (root 16 fun a=>ask 15 (bG a x.w (gQ x.w j.size)) j) (done j.answer j)
 else if j.pc=15 then done j.answer j
 else if j.pc=-1 then L (j.last,j)
 else if j.pc=3 then I (!x.ok) (perform j) (N (p8 j.child) (ask 4 (cY (aY x.w 0) (g9 (pG j.child))) {j with node:=x.w}))
 else if j.pc=8 then I x.ok (rootB j.child fun a=>ask 9 (aZ a) {j with sentinel:=j.node}) (seek j)
 else if j.pc=4 then seek j
 else if j.pc=5 then walk5 j
 else if j.pc=7 then ask 8 (bG (place j).1 (place j).2.1 (wTo (place j).2.1 j.node)) j
 else if j.pc=6 then rootB j.child fun a=>ask 9 (aZ a) j
 else if j.pc=9 then I (x.w.slot==0) (rootB j.child fun a=>ask 10 (bG a x.w (wTo x.w j.sentinel)) j) (descend {j with base:=j.sentinel,bucket:=j.child})
 else if j.pc=10 then descend {j with base:=j.sentinel,bucket:=j.child}
 else L (j.last,j)
noncomputable def Rp (σ:Sg) (ks:List Nat) (j:VauM) (x:Rp1):T (Option (Cl×VauM)):=(cM σ Ge 187 noM (aRp.enc x) (xF j) y7 (ks.foldl (fun g k=>bh k g) (VauM.wr j)) []).map (eO vCl oVau)
def FH (σ:Sg) (j:VauM) (x:Rp1):Prop:=∃gs,ia σ (xF j)=some (cD AV.len y7 (dz gs)) /\ (cM σ Ge 187 noM (aRp.enc x) (xF j) y7 gs []).map (eO vCl oVau)=FZ tI tN tL j x
end Go.Proofs.YtcpdipfepeccgaaGreatDoor

namespace Go.Proofs.YtcpdipfepeccgaaGreatDoor
open Go Go.Sx Go.Proofs
set_option maxRecDepth 100000
variable {σ:Sg}
def inZ:Int->List Int->Bool
 | _,[]=>false
 | n,m::r=>orB (decide (n=m)) (inZ n r)
theorem kE {n:Int}:∀{l:List Int},inZ n l=true->n∈l
 | [],h=>by cases h
 | m::r,h=>by
   unfold inZ orB at h
   cases hd:decide (n=m) with
   | true=>rw [of_decide_eq_true hd];exact List.mem_cons_self
   | false=>rw [hd] at h;exact List.mem_cons_of_mem _ (kE h)
def O3:List Int:=[0,1,3,4,5,6,7,8,11,12,13,14,15,-1]
def lG (wanted bucket:Int):Bool :=
 orB (de (decide (wanted=0)) (inZ bucket [0])) (
 orB (de (decide (wanted=1)) (inZ bucket [1,0])) (
 orB (de (decide (wanted=2)) (inZ bucket [2,0])) (
 orB (de (decide (wanted=3)) (inZ bucket [3,1,0])) (
 orB (de (decide (wanted=4)) (inZ bucket [4,0])) (
 orB (de (decide (wanted=5)) (inZ bucket [5,1,0])) (
 orB (de (decide (wanted=6)) (inZ bucket [6,2,0])) (
 orB (de (decide (wanted=7)) (inZ bucket [7,3,1,0])) (
 false))))))))
def mP (wanted child:Int):Bool :=
 orB (de (decide (wanted=1)) (inZ child [1])) (
 orB (de (decide (wanted=2)) (inZ child [2])) (
 orB (de (decide (wanted=3)) (inZ child [3,1])) (
 orB (de (decide (wanted=4)) (inZ child [4])) (
 orB (de (decide (wanted=5)) (inZ child [5,1])) (
 orB (de (decide (wanted=6)) (inZ child [6,2])) (
 orB (de (decide (wanted=7)) (inZ child [7,3,1])) (
 false)))))))
def EP (j:VauM):Bool :=
 de (zE j.op.key) (de (yb j.op) (de (p8 j.child) (orB (inZ j.pc O3) (orB (de (decide (j.pc=2)) (lG j.wanted j.bucket)) (de (orB (decide (j.pc=9)) (decide (j.pc=10))) (mP j.wanted j.child))))))
theorem qY {a b:Bool} (h:orB a b=true):a=true \/ b=true:=by unfold orB at h;cases a<;>simp_all
theorem fP {a b:Bool} (h:de a b=true):a=true /\ b=true:=by unfold de at h;cases a<;>simp_all
theorem vaK {j:VauM} {x:Rp1} (ks:List Nat) (h1:ia σ (xF j)=some (cD AV.len y7 (dz (ks.foldl (fun g k=>bh k g) (VauM.wr j))))) (h2:Rp σ ks j x=FZ tI tN tL j x):FH σ j x:=⟨_,h1,h2⟩
theorem vaA (σ:Sg) (j:VauM) (x:Rp1) (h:inZ j.pc O3=true):FH σ j x:=by
 have h:=kE h
 obtain⟨pc,last,op,size,wanted,bucket,child,base,node,sentinel,walk,inner,answer,count⟩:=j
 simp only [O3,List.mem_cons,List.not_mem_nil,or_false] at h
 rcases h with rfl | rfl | rfl | rfl | rfl | rfl | rfl | rfl | rfl | rfl | rfl | rfl | rfl | rfl<;>cases walk<;>cases inner<;>exact vaK [0] (by kernel_rfl) (by kernel_rfl)
theorem vaB (σ:Sg) (j:VauM) (x:Rp1) (hp:j.pc=2) (h:lG j.wanted j.bucket=true):FH σ j x:=by
 obtain⟨pc,last,op,size,wanted,bucket,child,base,node,sentinel,walk,inner,answer,count⟩:=j
 dsimp only at h hp
 subst hp
 unfold lG at h
 repeat (rcases qY h with h | h;· (obtain⟨hw,h⟩:=fP h;have hw:=of_decide_eq_true hw;subst hw;have h:=kE h;simp only [List.mem_cons,List.not_mem_nil,or_false] at h;(repeat' (rcases (h:_ \/ _) with h | h))<;>subst h<;>cases walk<;>cases inner<;>exact vaK [0,24,25] (by kernel_rfl) (by kernel_rfl)))
 cases h
theorem TL (σ:Sg) (j:VauM) (x:Rp1) (hj:j.pc=9) (h:mP j.wanted j.child=true):FH σ j x:=by
 obtain⟨pc,last,op,size,wanted,bucket,child,base,node,sentinel,walk,inner,answer,count⟩:=j
 dsimp only at h hj
 subst hj
 unfold mP at h
 repeat (rcases qY h with h | h;· (obtain⟨hw,h⟩:=fP h;have hw:=of_decide_eq_true hw;subst hw;have h:=kE h;simp only [List.mem_cons,List.not_mem_nil,or_false] at h;(repeat' (rcases (h:_ \/ _) with h | h))<;>subst h<;>cases walk<;>cases inner<;>exact vaK [0,24,26] (by kernel_rfl) (by kernel_rfl)))
 cases h
theorem QE (σ:Sg) (j:VauM) (x:Rp1) (hj:j.pc=10) (h:mP j.wanted j.child=true):FH σ j x:=by
 obtain⟨pc,last,op,size,wanted,bucket,child,base,node,sentinel,walk,inner,answer,count⟩:=j
 dsimp only at h hj
 subst hj
 unfold mP at h
 repeat (rcases qY h with h | h;· (obtain⟨hw,h⟩:=fP h;have hw:=of_decide_eq_true hw;subst hw;have h:=kE h;simp only [List.mem_cons,List.not_mem_nil,or_false] at h;(repeat' (rcases (h:_ \/ _) with h | h))<;>subst h<;>cases walk<;>cases inner<;>exact vaK [0,24,26] (by kernel_rfl) (by kernel_rfl)))
 cases h
theorem Og (σ:Sg) (j:VauM) (x:Rp1) (h:EP j=true):FH σ j x:=by
 obtain⟨_,h⟩:=fP h
 obtain⟨_,h⟩:=fP h
 obtain⟨_,h⟩:=fP h
 rcases qY h with h | h
 ·exact vaA σ j x h
 ·rcases qY h with h | h
  ·obtain⟨hp,h⟩:=fP h
   exact vaB σ j x (of_decide_eq_true hp) h
  ·obtain⟨hp,h⟩:=fP h
   rcases qY hp with hp | hp
   ·exact TL σ j x (of_decide_eq_true hp) h
   ·exact QE σ j x (of_decide_eq_true hp) h
theorem vIf {α:Type} {c:Prop} [Decidable c] {t e:T (Option α)} {x y:α} (h1:c->t.val=some (some x)) (h2:¬c->e.val=some (some y)):(if c then t else e).val=some (some (if c then x else y)):=by
 split
 ·exact h1 ‹_›
 ·exact h2 ‹_›
theorem sG (n:Int):szN n=1 \/ szN n=2 \/ szN n=4 \/ szN n=8:=by
 unfold szN
 cases h2:n==2 with
 | true=>have h2:=eq_of_beq h2;subst h2;exact .inr (.inl rfl)
 | false =>
   cases h4:n==4 with
   | true=>have h4:=eq_of_beq h4;subst h4;exact .inr (.inr (.inl rfl))
   | false =>
     cases h8:n==8 with
     | true=>have h8:=eq_of_beq h8;subst h8;exact .inr (.inr (.inr rfl))
     | false=>exact .inl rfl
theorem Q4 (n:Int):(szN n != 0)=true:=by rcases sG n with h | h | h | h<;>rw [h]<;>rfl
theorem Dp {n:Int} (h0:0<=n) (h1:n < 8):lH (fA 8 n)=true:=by
 unfold lH fA
 rw [mV (by omega)]
 exact decide_eq_true (by omega)
theorem Ld {k:Int} (n:Int) (h:zE k=true):lH (fA 8 (Int.tmod k (szN n)))=true:=by
 have h:0<=k /\ k < 256:=of_decide_eq_true h
 have h1:0<=Int.tmod k (szN n):=Int.tmod_nonneg _ h.1
 have h2:Int.tmod k (szN n) < szN n:=Int.tmod_lt_of_pos k (by rcases sG n with h | h | h | h<;>omega)
 exact Dp h1 (by rcases sG n with h | h | h | h<;>omega)
theorem Lc (b:Int):lH (fA 8 (nJ b))=true:=by
 unfold nJ
 split
 ·rfl
 split
 ·rfl
 split
 ·rfl
 split<;>rfl
theorem Le {c:Int} (h:p8 c=true):lH (fA 8 c)=true:=by
 have h:0<=c /\ c < 8:=of_decide_eq_true h
 exact Dp h.1 h.2
theorem FQ {wanted child:Int} (h:mP wanted child=true):0<=wanted /\ wanted < 8 /\ 0<=child /\ child < 8:=by
 unfold mP at h
 repeat (rcases qY h with h | h;· (obtain⟨hw,h⟩:=fP h;have hw:=of_decide_eq_true hw;have h:=kE h;simp only [List.mem_cons,List.not_mem_nil,or_false] at h;omega))
 cases h
theorem yO {wanted bucket:Int} (h:lG wanted bucket=true):0<=wanted /\ wanted < 8 /\ 0<=bucket /\ bucket < 8:=by
 unfold lG at h
 repeat (rcases qY h with h | h;· (obtain⟨hw,h⟩:=fP h;have hw:=of_decide_eq_true hw;have h:=kE h;simp only [List.mem_cons,List.not_mem_nil,or_false] at h;omega))
 cases h
noncomputable def kr (j:VauM) (x:Rp1):Cl×VauM:=FZ cond (fun _ t=>t) id j x
set_option maxHeartbeats 4000000 in
theorem Kj (j:VauM) (x:Rp1) (h:EP j=true):(FZ tI tN tL j x).val=some (some (kr j x)):=by
 obtain⟨h1,h⟩:=fP h
 obtain⟨h2,h⟩:=fP h
 obtain⟨h3,h⟩:=fP h
 obtain⟨pc,last,op,size,wanted,bucket,child,base,node,sentinel,walk,inner,answer,count⟩:=j
 unfold kr FZ
 cases walk<;>cases inner<;>dsimp only at h1 h2 h3 ⊢ <;>
  repeat' first | (with_reducible exact vL) | (with_reducible apply vI) | (with_reducible refine vIf (fun _=>?_) (fun _=>?_)) | (with_reducible refine vN h1 ?_) | (with_reducible refine vN h2 ?_) | (with_reducible refine vN h3 ?_) | (with_reducible refine vN (Q4 _) ?_) | (with_reducible refine vN (Ld _ h1) ?_) | (with_reducible refine vN (Lc _) ?_) | (with_reducible refine vN (Le h3) ?_) | (refine vN (by decide) ?_)
theorem Oe:FnOk Tryz.prog (NV σ) 187 (aL isS noM (cU aRp vCl oVau (fun j _=>some (EP j)) kr)) :=
 fK Gd rfl fun j x h=>by
  obtain⟨gs,e1,e2⟩:=Og σ j x h
  exact⟨y7,gs,e1,aRp.enc x,rfl,fun _=>rfl,by rw [e2];exact Kj j x h⟩
end Go.Proofs.YtcpdipfepeccgaaGreatDoor

namespace Go.Sx
variable {AV:Type} {P:Program} {N:Env AV}
def vg:Option (Chunk AV)->Option (Chunk AV)
 | some (.cells l ty)=>some (.cells (rD l) ty)
 | x=>x
def Dv (s:St AV):St AV:={E:=s.E,H:=s.H.map vg}
def ru (L nt:Nat) (ks:List Nat) (pk:Chunk AV->Option AV) (r:Ex×St AV):T (Ex×St AV):=(bR L nt ks pk r).bind fun r=>.leaf (r.1,Dv r.2)
theorem o8 (H:Hp AV) (n:Nat):hget (H.map vg) n=vg (hget H n):=mw vg rfl H n
theorem EU {l:List Cell} {c:Cell} (h:c∈rD l):∃c'∈l,c'.name=c.name:=by
 rw [tA] at h
 obtain⟨c',h1,rfl⟩:=List.mem_map.1 h
 exact⟨c',h1,(qa c').symm⟩
theorem tz {H:Hp AV} {n:Nat} {c:Chunk AV} (h:hget H n=some c):∃c',hget (H.map vg) n=some c':=by
 rw [o8,h]
 cases c with
 | cells l ty=>exact⟨_,rfl⟩
 | vec l es ty=>exact⟨_,rfl⟩
 | dead=>exact⟨_,rfl⟩
 | abs a=>exact⟨_,rfl⟩
theorem CA {s:St AV} (h:Closed N s):Closed N (Dv s):=by
 have pers:∀{c:Cell},ClC s.H c->ClC (s.H.map vg) c:=fun hc n hn=>by
  obtain⟨x,hx⟩:=hc n hn
  exact tz hx
 refine⟨fun k=>ClV.mono (h.E k) fun n c hn=>tz hn,fun n x hx=>?_⟩
 have hx:hget (s.H.map vg) n=some x:=hx
 rw [o8] at hx
 cases hs:hget s.H n with
 | none=>rw [hs] at hx;cases hx
 | some d =>
   rw [hs] at hx
   have hd:=h.H n d hs
   cases d with
   | cells l ty =>
     cases hx
     intro c hc m hm
     obtain⟨c',h1,h2⟩:=EU hc
     exact pers (hd c' h1) m (by rw [h2];exact hm)
   | vec l es ty=>cases hx;exact fun c hc=>pers (hd c hc)
   | dead=>cases hx;exact fun c hc=>pers (hd c hc)
   | abs a=>cases hx;exact fun c hc=>pers (hd c hc)
theorem B3 (π:Nat->Nat) (d:Chunk AV):∃c,vg (some d)=some c /\ Lesser N (d.ren π) (c.ren π):=by
 cases d with
 | cells l ty =>
   refine⟨_,rfl,fun ρ n w=>⟨fun h=>?_,fun k=>Iff.rfl⟩⟩
   have h:w.heap[ρ n]?=some (.cells (ae ρ (l.map (Cell.ren π))).toArray ty (0,0)):=h
   show w.heap[ρ n]?=some (.cells (ae ρ ((rD l).map (Cell.ren π))).toArray ty (0,0))
   rw [lY] at h ⊢
   rw [lK];exact h
 | vec l es ty=>exact⟨_,rfl,Lesser.refl _⟩
 | dead=>exact⟨_,rfl,Lesser.refl _⟩
 | abs a=>exact⟨_,rfl,Lesser.refl _⟩
theorem JO {L nt:Nat} {ks:List Nat} {pk:Chunk AV->Option AV} (hpk:∀d a,pk d=some a->∀π,Lesser N (d.ren π) (.abs a)) (hG:N.G<=L) {r r':Ex×St AV} (h:(ru L nt ks pk r).val=some r'):r'.1=r.1 /\ ∃π,Back N L nt r.2 r'.2 π:=by
 obtain⟨r1,h1,h2⟩:=T.bind_some h
 obtain⟨e1,π,hb⟩:=pI hpk hG h1
 simp only [T.val,Option.some.injEq] at h2
 subst h2
 refine⟨e1,π,hb.less rfl (by simp [Dv]) (fun n=>?_) (CA hb.cl)⟩
 show _ \/ ∃d c,_ /\ hget (r1.2.H.map vg) n=some c /\ _
 rw [show hget (Dv r1.2).H n=vg (hget r1.2.H n) from o8 _ n]
 cases hd:hget r1.2.H n with
 | none=>exact .inl ⟨rfl,rfl⟩
 | some d =>
   obtain⟨c,g1,g2⟩:=B3 (N:=N) π d
   exact .inr ⟨d,c,rfl,by rw [o8,hd];exact g1,g2⟩
theorem jQ (hT:TblOk P N) {cal:Callee AV} (hcal:cP P N cal) {lp:Nat->Option (St AV->T (Ex×St AV))} {nt L:Nat} {c:Code} (hlp:CK P N nt c lp) {ks:List Nat} {pk:Chunk AV->Option AV} (hpk:∀d a,pk d=some a->∀π,Lesser N (d.ren π) (.abs a)) (hG:N.G<=L) {s:St AV} {r:Ex×St AV}
 (h:((xc N cal lp nt c s).bind (ru L nt ks pk)).val=some r):∃s1,Rnd P N nt c s r.1 s1 /\ ∃π,Back N L nt s1 r.2 π:=by
 obtain⟨⟨e1,s1⟩,h1,h2⟩:=T.bind_some h
 obtain⟨h3,π,h4⟩:=JO hpk hG h2
 simp only at h3 h4
 exact⟨s1,BM hT hcal hlp (by rw [h3];exact h1),π,h4⟩
end Go.Sx

namespace Go.Proofs.YtcpdipfepeccgaaGreatDoor
open Go Go.Sx Go.Proofs
set_option maxRecDepth 100000
variable {σ:Sg} {lp:Lp}
@[reducible] def oVer:ObK VerM:=⟨dV,FV,fun _ _=>Bc,fun _=>rfl⟩
structure AdF where
 okb:RiteM->Cl->Bool
 bg:RiteM->Cl->RiteM
 np:PileM->Rp1->Cl×PileM
 nc:CortM->Rp1->Cl×CortM
 nl:LitM->Rp1->Cl×LitM
 okv:VauM->Bool
 nv:VauM->Rp1->Cl×VauM
 oks:SteM->Bool
 ns:SteM->Rp1->Cl×SteM
noncomputable def qO (F:AdF):Tab:=aC 58 (aL isS noM (cU aNo vBo oRite (fun _ _=>none) (fun m _=>(eE m,m)))) (aC 59 (aL isS noM (cU aNo vRp oRite (fun _ _=>none) (fun m _=>(m.reply,m))))
 (aC 57 (aL isS noM (cU aCl sg oRite (fun m c=>some (F.okb m c)) (fun m c=>((),F.bg m c))))
 (aC 147 (aL isS noM (cU aRp vCl oPile (fun _ _=>none) F.np)) (aC 156 (aL isS noM (cU aRp vCl oCort (fun _ _=>none) F.nc))
 (aC 165 (aL isS noM (gK aRp vCl oLit (fun _ _=>none) F.nl bu)) (aC 187 (aL isS noM (cU aRp vCl oVau (fun j _=>some (F.okv j)) F.nv)) (aC 204 (aL isS noM (cU aRp vCl oSte (fun j _=>some (F.oks j)) F.ns)) aQ)))))))
noncomputable def adF:AdF:=⟨zG,db,iH,iY,dC,EP,kr,zD,eU⟩
theorem Gn:bm Tryz.prog (NV σ) (qO adF):=aj pX (aj BN (aj AZ (aj K6 (aj Mh (aj Iy (aj Oe (aj OC au)))))))
def ksA:List Nat:=[0]
noncomputable def LA:Code:=dO 0 (aT (bC Tryz.f36))
def hpV (v:VerM):Hp AV:=g0 (hpO noM [dV v]) 8 (cD AV.len kX (VerM.wr v))
def od (v:VerM):St AV:={E:=only ksA [(0,.v (.c (.ptr 8 2)))] 52,H:=hpV v}
def ig:Cl:=⟨2,fc,aq,aq,0,0,⟨0,0⟩⟩
section
variable {β:Type} (I:Bool->β->β->β) (N:Bool->β->β) (L:Ex×VerM->β)
def ey (F:AdF) (v:VerM) (nx:Cl×JobM):β :=
 I (nx.1.kind != 12) (N (F.okb v.rite nx.1) (L (.normal,{v with doing:=2,call:=nx.1,rite:=F.bg v.rite nx.1,job:=some nx.2})))
   (N (F.okb v.rite ig) (L (.normal,{v with answer:=nx.1.ans,doing:=3,call:=ig,rite:=F.bg v.rite ig,job:=some nx.2})))
def dm (v:VerM) (c:β):β :=
 I ((v.doing != 0)==true) (I (!eE v.rite) (I (v.doing==1) (I (v.doing==1) c (L (.normal,{v with doing:=0}))) (I (v.doing==2) c (L (.normal,{v with doing:=0})))) (L (.exit 0,v))) (L (.exit 0,v))
end
def tF (r:Ex×VerM):T (Ex×St AV):=.leaf (r.1,od r.2)
theorem MG (σ:Sg) (F:AdF) (v:VerM) (j:PileM):(xc (NV σ) (joinCal (lv (NV σ) (qO F) 5)) (fun _=>none) 52 LA (od {v with job:=some (.pile j)})).bind (ru 11 52 ksA bZ) =
 dm tI tF {v with job:=some (.pile j)} (ey tI tN tF F {v with job:=some (.pile j)} ((F.np j v.rite.reply).1,.pile (F.np j v.rite.reply).2)):=by kernel_rfl
theorem MI (σ:Sg) (F:AdF) (v:VerM) (j:CortM):(xc (NV σ) (joinCal (lv (NV σ) (qO F) 5)) (fun _=>none) 52 LA (od {v with job:=some (.cort j)})).bind (ru 11 52 ksA bZ) =
 dm tI tF {v with job:=some (.cort j)} (ey tI tN tF F {v with job:=some (.cort j)} ((F.nc j v.rite.reply).1,.cort (F.nc j v.rite.reply).2)):=by kernel_rfl
theorem Qm (σ:Sg) (F:AdF) (v:VerM) (j:LitM):(xc (NV σ) (joinCal (lv (NV σ) (qO F) 5)) (fun _=>none) 52 LA (od {v with job:=some (.lit j)})).bind (ru 11 52 ksA bZ) =
 dm tI tF {v with job:=some (.lit j)} (ey tI tN tF F {v with job:=some (.lit j)} ((F.nl j v.rite.reply).1,.lit (F.nl j v.rite.reply).2)):=by kernel_rfl
theorem Qj (σ:Sg) (F:AdF) (v:VerM) (j:VauM):(xc (NV σ) (joinCal (lv (NV σ) (qO F) 5)) (fun _=>none) 52 LA (od {v with job:=some (.vau j)})).bind (ru 11 52 ksA bZ) =
 dm tI tF {v with job:=some (.vau j)} (tN (F.okv j) (ey tI tN tF F {v with job:=some (.vau j)} ((F.nv j v.rite.reply).1,.vau (F.nv j v.rite.reply).2))):=by kernel_rfl
theorem Qk (σ:Sg) (F:AdF) (v:VerM) (j:SteM):(xc (NV σ) (joinCal (lv (NV σ) (qO F) 5)) (fun _=>none) 52 LA (od {v with job:=some (.ste j)})).bind (ru 11 52 ksA bZ) =
 dm tI tF {v with job:=some (.ste j)} (tN (F.oks j) (ey tI tN tF F {v with job:=some (.ste j)} ((F.ns j v.rite.reply).1,.ste (F.ns j v.rite.reply).2))):=by kernel_rfl
def NA:T (Ex×St AV):=.fail "nilCheck"
theorem MH (σ:Sg) (F:AdF) (v:VerM):(xc (NV σ) (joinCal (lv (NV σ) (qO F) 5)) (fun _=>none) 52 LA (od {v with job:=none})).bind (ru 10 52 ksA bZ) =
 dm tI tF {v with job:=none} NA:=by kernel_rfl
end Go.Proofs.YtcpdipfepeccgaaGreatDoor
