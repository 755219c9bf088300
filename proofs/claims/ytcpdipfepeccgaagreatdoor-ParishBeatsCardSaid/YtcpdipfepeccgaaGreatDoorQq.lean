import Derived.Test.YtcpdipfepeccgaaGreatDoorQj
import Derived.Shelf.Spec.SlicesInsertGrow
import Derived.Laws.CopyRow
set_option linter.unusedVariables false
set_option linter.unusedSimpArgs false
set_option maxHeartbeats 4000000
namespace Go.Proofs.YtcpdipfepeccgaaGreatDoor
open Go Go.Sx Go.Proofs
set_option maxRecDepth 100000
variable {σ:Sg} {lp:Lp}
noncomputable def y4 (f1 s1:List W->List Nt->List Nt) (f2 s2:List N1->List Nt->List Nt) (f3 s3:List Sp->List Nt->List Nt) (f4 s4:Int->List Nt->List Nt):Tab:=aC 116 (jf isS noM (dv1 f1 s1)) (aC 117 (jf isS noM (dv2 f2 s2)) (aC 118 (jf isS noM (dv3 f3 s3)) (aC 119 (jf isS noM (dv4 f4 s4)) aQ)))
def fr1 (kept:List W) (l:List Nt):List Nt:=cW (fun n=>kept.any (bO n)) l
def fr2 (kept:List N1) (l:List Nt):List Nt:=cW (fun n=>kept.any (dF n)) l
def fr3 (kept:List Sp) (l:List Nt):List Nt:=cW (fun n=>kept.any (bM n)) l
def fr4 (now:Int) (l:List Nt):List Nt:=cW (epP now) l
noncomputable def sC:Tab:=y4 fr1 (fun kept l=>dh (fun n=>kept.any (bO n)) l) fr2 (fun kept l=>dh (fun n=>kept.any (dF n)) l) fr3 (fun kept l=>dh (fun n=>kept.any (bM n)) l) fr4 (fun now l=>dh (epP now) l)
theorem mc:bm Tryz.prog (NV σ) sC:=aj P1 (aj P0 (aj PZ (aj PY au)))
def Fm:SV×List AV×List AV->Option (SV×RiteM×List AV)
 | (v,[a],nw)=>match vO a with | some m=>some (v,m,nw) | none=>none
 | _=>none
theorem mG {r:SV×List AV×List AV} {v:SV} {m:RiteM} {nw:List AV} (h:Fm r=some (v,m,nw)):r=(v,[dw m],nw):=by
 unfold Fm at h
 split at h
 ·split at h
  ·rename_i hm
   cases h
   rw [rM hm]
  ·cases h
 ·cases h
def tS (r:RT):T (Option (SV×RiteM×List AV)):=.need (wD r) (.leaf (some (.tup [],r.m,[])))
def Hr (x:Nt):W:=⟨x.slot,x.gen,x.tag,x.num,x.mark⟩
section
variable {β:Type} (I:Bool->β->β->β) (N:Bool->β->β) (L:RT->β)
def jn (r:RT):β:=I ((r.ld:Int)==0) (iF L r) (N (decide ((0:Int)<=0 /\ 0 < (r.ld:Int))) (N (decide (0 < r.m.doomed.length)) (L (gf 16 ⟨5,0,0,0,Hr (r.m.doomed.getD 0 knotes.dflt),aq⟩ r))))
end
def m8 (l:List Nt) (r:RT):RT:={r with m:={r.m with doomed:=l},ld:=l.length}
theorem sf2 (σ:Sg) (f1 s1:List W->List Nt->List Nt) (f2 s2:List N1->List Nt->List Nt) (f3 s3:List Sp->List Nt->List Nt) (f4 s4:Int->List Nt->List Nt) (m:RiteM):(qU cZ σ (y4 f1 s1 f2 s2 f3 s3 f4 s4) 102 noM [] (dw {m with engine:=2}) b8 (bh 46 (RiteM.wr {m with engine:=2})) []).map Fm =
 .need (decide (m.notes.length=m.notes.length /\ m.seen.length=m.seen.length /\ m.seen.length<=100000 /\ m.notes.length<=100000)) (jn tI tN tS (m8 (f1 m.seen m.notes) (rOf {m with engine:=2}))):=by kernel_rfl
theorem sf3 (σ:Sg) (sp:List N1) (f1 s1:List W->List Nt->List Nt) (f2 s2:List N1->List Nt->List Nt) (f3 s3:List Sp->List Nt->List Nt) (f4 s4:Int->List Nt->List Nt) (m:RiteM):(qU (SA sp m cZ) σ (y4 f1 s1 f2 s2 f3 s3 f4 s4) 102 noM [] (dw {m with engine:=3}) b8 (bh 46 (RiteM.wr {m with engine:=3})) []).map Fm =
 .need (cH (Jl m)) (.need (decide (m.notes.length=m.notes.length /\ sp.length=sp.length /\ sp.length<=100000 /\ m.notes.length<=100000)) (jn tI tN tS (m8 (f2 sp m.notes) (rOf {m with engine:=3})))):=by kernel_rfl
theorem sf4 (σ:Sg) (f1 s1:List W->List Nt->List Nt) (f2 s2:List N1->List Nt->List Nt) (f3 s3:List Sp->List Nt->List Nt) (f4 s4:Int->List Nt->List Nt) (m:RiteM):(qU cZ σ (y4 f1 s1 f2 s2 f3 s3 f4 s4) 102 noM [] (dw {m with engine:=4}) b8 (bh 46 (RiteM.wr {m with engine:=4})) []).map Fm =
 .need (decide (m.notes.length=m.notes.length /\ m.notes.length<=100000)) (jn tI tN tS (m8 (f4 m.clock.num m.notes) (rOf {m with engine:=4}))):=by kernel_rfl
def JF (gs:Gs):List Cell:=(cI AV.len 1 gs).map (Cell.ren (opn 8 9))
theorem sf5 (σ:Sg) (sp:List Sp) (f1 s1:List W->List Nt->List Nt) (f2 s2:List N1->List Nt->List Nt) (f3 s3:List Sp->List Nt->List Nt) (f4 s4:Int->List Nt->List Nt) (m:RiteM):(qU (Sz sp m cZ) σ (y4 f1 s1 f2 s2 f3 s3 f4 s4) 102 noM [] (dw {m with engine:=5}) b8 (bh 46 (RiteM.wr {m with engine:=5})) []).map Fm =
 .need (cH (Jj m)) (.need (gb (JF (bh 46 (RiteM.wr {m with engine:=5}))) b8 (JF (bh 46 (RiteM.wr {m with engine:=5}))) b8) (.need (decide (m.notes.length=m.notes.length /\ sp.length=sp.length /\ sp.length<=100000 /\ m.notes.length<=100000)) (jn tI tN tS (m8 (f3 sp m.notes) (rOf {m with engine:=5}))))):=by kernel_rfl
def DQ (m:RiteM):List Nt:=if m.engine=2 then fr1 m.seen m.notes else if m.engine=3 then fr2 (m.seen.map B2) m.notes else if m.engine=4 then fr4 m.clock.num m.notes else fr3 (m.seen.map jt) m.notes
def qV (r:RT):RiteM:=jn cond (fun _ t=>t) RT.m r
def iE (m:RiteM):RiteM:=qV (m8 (DQ m) (rOf m))
theorem vS {r:RT} (h:du r):(tS r).val=some (some (.tup [],r.m,[])):=by
 unfold tS
 rw [rU h.1 h.2.1 h.2.2]
 rfl
theorem CO {r:RT} (h:du r):(jn tI tN tS r).val=some (some (.tup [],qV r,[])):=by
 unfold jn qV jn
 by_cases h0:r.m.doomed.length=0
 ·have e:((r.ld:Int)==0)=true:=by rw [h.2.1,h0];rfl
  rw [e]
  exact vS (r:=eA ⟨aq,true⟩ r) (iP h)
 ·have e:((r.ld:Int)==0)=false:=by rw [h.2.1];simp only [beq_eq_false_iff_ne];omega
  rw [e]
  show (T.need _ (T.need _ (tS (gf 16 _ r)))).val=_
  rw [nv (decide_eq_true ⟨Int.le_refl 0,by rw [h.2.1];omega⟩),nv (decide_eq_true (by omega))]
  exact vS (r:=gf 16 _ r) h
def HV (m:RiteM):Bool:=decide (2<=m.engine /\ m.engine<=5 /\ m.seen.length<=100000 /\ m.notes.length<=100000)
theorem KD:FnOk Tryz.prog (NV σ) 102 (aL isS noM (Dw aNo oRite (fun m _=>some (HV m)) fun m _=>(.tup [],iE m,[]))) :=
 Is rfl fun m x h=>by
  obtain⟨h1,h2,h3,h4⟩:=of_decide_eq_true (h:HV m=true)
  obtain⟨cl,st,acc,wd,clk,ix,seen,doomed,e,me,thr,mst,holds,span,notes,freed,reply⟩:=m
  dsimp only at h1 h2 h3 h4
  have he:e=2 \/ e=3 \/ e=4 \/ e=5:=by omega
  clear h h1 h2
  rcases he with rfl | rfl | rfl | rfl
  ·refine⟨cZ,sC,b8,bh 46 (RiteM.wr ⟨cl,st,acc,wd,clk,ix,seen,doomed,2,me,thr,mst,holds,span,notes,freed,reply⟩),[],fL,mc,rfl,rfl,fun _=>rfl,?_⟩
   obtain⟨r,e1,e2⟩:=map_some ((congrArg T.val (sf2 σ fr1 _ fr2 _ fr3 _ fr4 _ ⟨cl,st,acc,wd,clk,ix,seen,doomed,2,me,thr,mst,holds,span,notes,freed,reply⟩)).trans ((nv (decide_eq_true ⟨rfl,rfl,h3,h4⟩)).trans (CO (r:=m8 _ (rOf _)) ⟨rfl,rfl,rfl⟩)))
   rw [mG e2] at e1
   exact e1
  ·refine⟨_,sC,b8,bh 46 (RiteM.wr ⟨cl,st,acc,wd,clk,ix,seen,doomed,3,me,thr,mst,holds,span,notes,freed,reply⟩),[],So fL ⟨cl,st,acc,wd,clk,ix,seen,doomed,3,me,thr,mst,holds,span,notes,freed,reply⟩ h3,mc,rfl,rfl,fun _=>rfl,?_⟩
   obtain⟨r,e1,e2⟩:=map_some ((congrArg T.val (sf3 σ (seen.map B2) fr1 _ fr2 _ fr3 _ fr4 _ ⟨cl,st,acc,wd,clk,ix,seen,doomed,3,me,thr,mst,holds,span,notes,freed,reply⟩)).trans ((nv (Jk _)).trans ((nv (decide_eq_true ⟨rfl,rfl,by rw [List.length_map];exact h3,h4⟩)).trans (CO (r:=m8 _ (rOf _)) ⟨rfl,rfl,rfl⟩))))
   rw [mG e2] at e1
   exact e1
  ·refine⟨cZ,sC,b8,bh 46 (RiteM.wr ⟨cl,st,acc,wd,clk,ix,seen,doomed,4,me,thr,mst,holds,span,notes,freed,reply⟩),[],fL,mc,rfl,rfl,fun _=>rfl,?_⟩
   obtain⟨r,e1,e2⟩:=map_some ((congrArg T.val (sf4 σ fr1 _ fr2 _ fr3 _ fr4 _ ⟨cl,st,acc,wd,clk,ix,seen,doomed,4,me,thr,mst,holds,span,notes,freed,reply⟩)).trans ((nv (decide_eq_true ⟨rfl,h4⟩)).trans (CO (r:=m8 _ (rOf _)) ⟨rfl,rfl,rfl⟩)))
   rw [mG e2] at e1
   exact e1
  ·refine⟨_,sC,b8,bh 46 (RiteM.wr ⟨cl,st,acc,wd,clk,ix,seen,doomed,5,me,thr,mst,holds,span,notes,freed,reply⟩),[],Sn fL ⟨cl,st,acc,wd,clk,ix,seen,doomed,5,me,thr,mst,holds,span,notes,freed,reply⟩ h3,mc,rfl,rfl,fun _=>rfl,?_⟩
   obtain⟨r,e1,e2⟩:=map_some ((congrArg T.val (sf5 σ (seen.map jt) fr1 _ fr2 _ fr3 _ fr4 _ ⟨cl,st,acc,wd,clk,ix,seen,doomed,5,me,thr,mst,holds,span,notes,freed,reply⟩)).trans ((nv (Ji _)).trans ((nv (fm _ _)).trans ((nv (decide_eq_true ⟨rfl,rfl,by rw [List.length_map];exact h3,h4⟩)).trans (CO (r:=m8 _ (rOf _)) ⟨rfl,rfl,rfl⟩)))))
   rw [mG e2] at e1
   exact e1
end Go.Proofs.YtcpdipfepeccgaaGreatDoor

namespace Go.Proofs.YtcpdipfepeccgaaGreatDoor
open Go Go.Sx Go.Proofs
set_option maxRecDepth 100000
variable {σ:Sg} {lp:Lp}
def ksI:List Nat:=[0,3,4,6,7,8]
noncomputable def LI:Code:=dO 2 (aT (bC Tryz.f105))
def Cm (x:Nt) (q:Nat) (l:List Nt) (i:Int) (y:Int):St AV :=
 {E:=only ksI [(0,.v (.c (.vs 8 0 q 7 false))),(3,.v (.c (.ptr 9 0))),(4,.v (.c (.it .i64 y))),(6,.v (.c (.vs 8 0 q 7 false))),(7,.v (.c (.it .i64 q))),(8,.v (.c (.it .i64 i)))] 19,H:=hpC noM [.abs (.notes l),.cells (Nt.enc x) 235]}
def ke (x y:Nt):Bool:=x.slot==y.slot&&(x.gen==y.gen&&(x.tag==y.tag&&(x.num==y.num&&(x.mark==y.mark&&(x.birth==y.birth&&x.death==y.death)))))
theorem iR (σ:Sg) (x:Nt) (q:Nat) (l:List Nt) (i y:Int):(xc (NV σ) (joinCal (lv (NV σ) aQ 5)) (fun _=>none) 19 LI (Cm x q l i y)).bind (bR 10 19 ksI bZ) =
 .ite (decide (i < (q:Int))) (.need (match decide (0<=i /\ i < (q:Int)) with | true=>decide (0+i.toNat < l.length) | false=>false) (.ite (ke x (l.getD (0+i.toNat) knotes.dflt)) (.leaf (.ret,Cm x q l i i)) (.leaf (.normal,Cm x q l (IntKind.wrap .i64 (i+1)) y)))) (.leaf (.exit 0,Cm x q l i y)):=by kernel_rfl
def wU (x:Nt) (l:List Nt) (m:MA):St AV:=Cm x l.length l m.k (cond m.b m.k 0)
theorem Ej (σ:Sg) (x:Nt) (l:List Nt) (hl:l.length<=100000) (m:MA) (r:Ex×MA) (h:(jN l (ke x) m).val=some r) :
 ((xc (NV σ) (joinCal (lv (NV σ) aQ 5)) (fun _=>none) 19 LI (wU x l m)).bind (bR 10 19 ksI bZ)).val=some (r.1,wU x l r.2):=by
 replace h:=ah h
 obtain⟨hb,h⟩:=h
 obtain⟨h1,h2⟩:=of_decide_eq_true hb
 simp only [T.val,Option.some.injEq] at h
 subst h
 obtain⟨k,b⟩:=m
 simp only at h1 h2
 subst h2
 have e1:0+(k:Int).toNat=k:=by omega
 have hw:IntKind.wrap .i64 ((k:Int)+1)=((k+1:Nat):Int):=fh (by omega)
 dsimp only [wU]
 rw [iR]
 by_cases hk:k < l.length
 ·rw [ivT (decide_eq_true (by show (k:Int) < _;omega)),nv (by rw [decide_eq_true (by omega)];exact decide_eq_true (by omega)),e1,hw,cg knotes.dflt hk]
  cases hp:ke x (l.getD k knotes.dflt) with
  | true=>simp only [goA,hp];rfl
  | false=>simp only [goA,hp];rfl
 ·rw [ivF (decide_eq_false (by show ¬(k:Int) < _;omega)),List.drop_eq_nil_of_le (by omega)]
  rfl
def Ur (x:Nt) (l:List Nt) (s:St AV):Prop:=Sx.look s.E 0=.v (.c (.vs 8 0 l.length 7 false)) /\ Sx.look s.E 3=.v (.c (.ptr 9 0)) /\ Sx.look s.E 4=.v (.c (.il .i64 0)) /\ Sx.look s.E 6=.v (.c (.vs 8 0 l.length 7 false)) /\ Sx.look s.E 7=.v (.c (.it .i64 l.length)) /\ Sx.look s.E 8=.v (.c (.il .i64 0)) /\ s.H=hpC noM [.abs (.notes l),.cells (Nt.enc x) 235]
noncomputable def gI (an:Bool) (ix:Nat) (x:Nt) (l:List Nt) (s:St AV):T (Ex×St AV):=.need (cH (Ur x l s)) (.ite an (.leaf (.ret,Cm x l.length l ix ix)) (.leaf (.exit 0,Cm x l.length l l.length 0)))
theorem SX {N':Env AV} (hF:N'.F=(NV σ).F) (hG:N'.G=(NV σ).G) (x:Nt) (l:List Nt) (hl:l.length<=100000):b7 Tryz.prog N' 19 LI (gI (l.any (ke x)) (dH (ke x) 0 l) x l):=by
 have hcal:cP Tryz.prog (NV σ) (joinCal (lv (NV σ) aQ 5)):=bo (fU okV mQ hvV au 5)
 refine cd (N:=NV σ) hF hG okV hcal (lp:=fun _=>none) (fun _ _ _ g hg=>by cases hg) fun s s' ex hgs=>?_
 obtain⟨E1,H1⟩:=s
 unfold gI at hgs
 replace hgs:=ah hgs
 obtain⟨hb,hgs⟩:=hgs
 obtain⟨e0,e3,e4,e6,e7,e8,eH⟩:=cK hb
 simp only at e0 e3 e4 e6 e7 e8 eH
 subst eH
 have hgo:(ex,s')=((iV (ke x) 0 l).1,wU x l (iV (ke x) 0 l).2):=by
  cases ha:l.any (ke x) with
  | true =>
    rw [ivT ha] at hgs
    simp only [T.val,Option.some.injEq] at hgs
    rw [<- hgs];unfold iV;rw [ha];rfl
  | false =>
    rw [ivF ha] at hgs
    simp only [T.val,Option.some.injEq] at hgs
    rw [<- hgs];unfold iV;rw [ha]
    simp only [wU,Nat.zero_add,cond_false]
 simp only [Prod.mk.injEq] at hgo
 obtain⟨rfl,rfl⟩:=hgo
 refine⟨{M:=MA,fam:=wU x l,step:=jN l (ke x),ks:=ksI,pk:=bZ,hpk:=(fun d a h=>by cases h),L:=10,len:=rfl,hGL:=(by show 8<=10;decide),run:=Ej σ x l hl,m:=⟨0,false⟩,k:=_,m':=_,ent:=?_,it:=Am l 0 rfl (Nat.zero_le _),fin:=rfl}⟩
 refine kf (N:=NV σ) (nt:=19) (E:=E1) (ks:=ksI) (E':=[(0,.v (.c (.vs 8 0 l.length 7 false))),(3,.v (.c (.ptr 9 0))),(4,.v (.c (.it .i64 (0:Int)))),(6,.v (.c (.vs 8 0 l.length 7 false))),(7,.v (.c (.it .i64 l.length))),(8,.v (.c (.it .i64 (0:Nat))))]) fun k hk=>?_
 simp only [ksI,List.mem_cons,List.not_mem_nil,or_false] at hk
 rcases hk with rfl | rfl | rfl | rfl | rfl | rfl
 ·exact .inl e0.symm
 ·exact .inl e3.symm
 ·exact .inr ⟨by rw [e4];rintro ⟨⟩,oT _,fun ρ=>by rw [e4];rfl⟩
 ·exact .inl e6.symm
 ·exact .inl e7.symm
 ·exact .inr ⟨by rw [e8];rintro ⟨⟩,oT _,fun ρ=>by rw [e8];rfl⟩
noncomputable def lpI (an:Bool) (ix:Nat) (x:Nt) (l:List Nt):Lp:=dS 105 2 (gI an ix x l) cZ
theorem Sr (x:Nt) (l:List Nt) (hl:l.length<=100000):bS Tryz.prog (NVl (lpI (l.any (ke x)) (dH (ke x) 0 l) x l) σ) :=
 fe fL (fn:=Tryz.f105) (by kernel_rfl) (c:=bC Tryz.f105) (by kernel_rfl) (nt:=19) (by kernel_rfl) (b:=LI) (aR (by kernel_rfl)) (SX (σ:=σ) rfl rfl x l hl)
def Tx (x:Nt) (l:List Nt):Prop:=SV.v (.c (.vs 8 0 l.length 7 false))=.v (.c (.vs 8 0 l.length 7 false)) /\ SV.v (.c (.ptr 9 0))=.v (.c (.ptr 9 0)) /\ SV.v (.c (.il .i64 0))=.v (.c (.il .i64 0)) /\ SV.v (.c (.vs 8 0 l.length 7 false))=.v (.c (.vs 8 0 l.length 7 false)) /\ SV.v (.c (.it .i64 l.length))=.v (.c (.it .i64 l.length)) /\ SV.v (.c (.il .i64 0))=.v (.c (.il .i64 0)) /\ hpC noM [.abs (.notes l),.cells (Nt.enc x) 235]=hpC noM [.abs (.notes l),.cells (Nt.enc x) 235]
theorem ixR (σ:Sg) (an:Bool) (ix:Nat) (x:Nt) (l:List Nt):runC (lpI an ix x l) σ aQ 105 noM [.v (.c (.vs 8 0 l.length 7 false)),.v (.agg (Nt.enc x))] [.abs (.notes l)]=.need (cH (Tx x l)) (.ite an (.leaf (stV (.v (.c (.it .i64 ix)),hpC noM [.abs (.notes l)]))) (.leaf (stV (.v (.c (.il .i64 (-1))),hpC noM [.abs (.notes l)])))):=by kernel_rfl
def cO (x:Nt) (l:List Nt):Int:=cond (l.any (ke x)) (dH (ke x) 0 l) (-1)
def ixS (ix:Nt->List Nt->Int) (args:List SV) (ch:List (Chunk AV)):T (SV×List (Chunk AV)×List (Chunk AV)):=match args,ch with
 | [.v (.c (.vs 8 0 q 7 false)),.v (.agg [.it .i64 a,.it .i64 b,.it .i64 c,.it .i64 d,.bt e,.it .i64 f,.it .i64 g])],[.abs (.notes l)]=>.need (decide (q=l.length /\ l.length<=100000)) (.leaf (.v (.c (.it .i64 (ix ⟨a,b,c,d,e,f,g⟩ l))),[.abs (.notes l)],[]))
 | _,_=>.fail "Index"
theorem Pv:FnOk Tryz.prog (NV σ) 105 (jf isS noM (ixS cO)):=by
 refine gr bk rfl fun args ch v l' nw h hlen ha hC=>?_
 unfold ixS at h
 split at h
 ·rename_i q a b c d e f g l
  replace h:=ah h
  obtain⟨hb,h⟩:=h
  obtain⟨rfl,hl⟩:=of_decide_eq_true hb
  simp only [T.val,Option.some.injEq,Prod.mk.injEq] at h
  obtain⟨rfl,rfl,rfl⟩:=h
  have hr:=(congrArg T.val (ixR σ (l.any (ke ⟨a,b,c,d,e,f,g⟩)) (dH (ke ⟨a,b,c,d,e,f,g⟩) 0 l) ⟨a,b,c,d,e,f,g⟩ l)).trans (nv (cQ ⟨rfl,rfl,rfl,rfl,rfl,rfl,rfl⟩))
  unfold cO
  cases hp:l.any (ke ⟨a,b,c,d,e,f,g⟩) with
  | true =>
    rw [ivT hp] at hr
    exact gZ (dZ (Sr _ _ hl) sF rfl hr (by rintro ⟨⟩))
  | false =>
    rw [ivF hp] at hr
    exact kJ (gZ (dZ (Sr _ _ hl) sF rfl hr (by rintro ⟨⟩))) ((oT _).cl _) fun ρ=>rfl
 ·simp [T.val] at h
end Go.Proofs.YtcpdipfepeccgaaGreatDoor

namespace Go.Proofs.YtcpdipfepeccgaaGreatDoor
open Go Go.Sx Go.Proofs Go.RowKit Go.Lib
set_option maxRecDepth 100000
def fa (row:List Value) (p:Nat) (cs:List Value):List Value:=row.take p++cs++row.drop (p+cs.length)
theorem nI {row cs:List Value} {p:Nat} (h:p+cs.length<=row.length):(fa row p cs).length=row.length:=by simp [fa];omega
theorem KE (row:List Value) (p m:Nat) (h:p+m<=row.length):((row.drop p).take m).length=m /\ ∀(j:Nat) v,((row.drop p).take m)[j]?=some v->row[p+j]?=some v:=by
 refine⟨by simp;omega,fun j v hj=>?_⟩
 rw [List.getElem?_take] at hj
 split at hj
 ·rwa [List.getElem?_drop] at hj
 ·cases hj
theorem JG {w:World} {b:Nat} {row:List Value} {t:TypeId} (h:w.heap[b]?=some (.cells row.toArray t (0,0))) (o j:Nat) (v:Value) (hv:row[o+j]?=some v):w.cell? ((⟨b,o,none⟩:Addr).add j)=some v:=by
 have e:(⟨b,o,none⟩:Addr).add j=⟨b,o+j,none⟩:=by unfold Addr.add;split<;>simp_all
 rw [e]
 simp [World.cell?,h,hv]
theorem oN {w:World} {b c:Nat} {x:Array Value} (h:c≠b):(w.setRow b x).heap[c]?=w.heap[c]?:=by
 simp [World.setRow,Array.getElem?_modify,Ne.symm h]
theorem pV {P:Program} {ops:Array Oper} {o:Oper} {a:Act} {w:World} {K:Act->World->Prop} {Q:Exit->Act->World->Prop} {E:Prop}
 (hg:o.guard=none) (d x:Operand) (dT sT:TypeId) (hop:o.op=Op.call {callee:=Callee.builtin Builtin.append,args:=#[d,x],argTypes:=#[dT,sT]})
 (v u:Value) (hd:a.eval d=v) (hx:a.eval x=u) {v':Value} {w':World} (hr:(Builtin.append_ #[dT,sT] o.type #[v,u]).run P w=.ok v' w') (hK:K (a.put o.dst v') w') :
 if Region.wanted o (yielded ops a.tmps)=true then Oper.wp P o a w K Q else E:=by
 have hw:Region.wanted o (yielded ops a.tmps)=true:=by simp [Region.wanted,hg]
 rw [if_pos hw]
 unfold Oper.wp
 simp [execOp,hop,resolve,invoke,builtin,hd,hx,hr,Result.andThen]
 exact hK
theorem Sb:∃i:TypeInfo,Tryz.prog.info? 235=some i /\ i.size=7:=by
 have h:(match Tryz.prog.info? 235 with | some i=>i.size==7 | none=>false)=true:=by kernel_rfl
 cases hi:Tryz.prog.info? 235 with
 | none=>rw [hi] at h;cases h
 | some i =>
   rw [hi] at h
   exact⟨i,rfl,by simpa using h⟩
theorem va (w:World) (ty:TypeId) (b o c:Nat) (row:List Value) (hrow:w.heap[b]?=some (.cells row.toArray 235 (0,0))) (hfit:o+7<=row.length) :
 (Builtin.clear_ #[179] ty #[.slice (some ⟨b,o,none⟩) 1 c]).run Tryz.prog w=.ok (.tuple #[]) (w.setRow b (fa row o [.int .i64 0,.int .i64 0,.int .i64 0,.int .i64 0,.bool false,.int .i64 0,.int .i64 0]).toArray):=by
 have hzc:(Builtin.zeroCells (Value.agg #[.int .i64 0,.int .i64 0,.int .i64 0,.int .i64 0,.bool false,.int .i64 0,.int .i64 0]).cells 1).toList=[.int .i64 0,.int .i64 0,.int .i64 0,.int .i64 0,.bool false,.int .i64 0,.int .i64 0]:=by kernel_rfl
 have hst:=run_storeCells_at Tryz.prog b o 235 [.int .i64 0,.int .i64 0,.int .i64 0,.int .i64 0,.bool false,.int .i64 0,.int .i64 0] 0 row.toArray w hrow (by simpa using hfit) (by
  intro v hv
  simp only [List.mem_cons,List.not_mem_nil,or_false] at hv
  rcases hv with rfl | rfl | rfl | rfl | rfl | rfl | rfl<;>rfl)
 simp only [Nat.add_zero] at hst
 simp only [Builtin.clear_,Sem.run_bind]
 simp [run_underlying Tryz.underlying179,Tryz.zeroValue235,hzc,hst,fa]
set_option maxHeartbeats 4000000 in
theorem Ux (b off n c i j:Nat) (row:List Value) (w:World) (hij:j=i+1) (hi:i < n) (hnc:n<=c) (hc63:n<=1000000)
 (hrow:w.heap[b]?=some (.cells row.toArray 235 (0,0))) (hfit:off+c * 7<=row.length) (hone:∀v∈(row.drop off).take (n * 7),v.oneCell'=true) :
 Calls Tryz.prog 106 #[.slice (some ⟨b,off,none⟩) n c,.int .i64 i,.int .i64 j] w fun e w' =>
  e=.returned (.slice (some ⟨b,off,none⟩) (n - 1) c) /\ w'=(w.drew.setRow b (fa row (off+i * 7) ((row.drop (off+j * 7)).take ((n - j) * 7))).toArray).setRow b (fa (fa row (off+i * 7) ((row.drop (off+j * 7)).take ((n - j) * 7))) (off+(n - 1) * 7) [.int .i64 0,.int .i64 0,.int .i64 0,.int .i64 0,.bool false,.int .i64 0,.int .i64 0]).toArray:=by
 obtain⟨i0,hi0,hi1⟩:=Sb
 have mixed:Tryz.prog.follows Departure.mixedOrders=true:=by kernel_rfl
 obtain⟨s1,s2⟩:=KE row (off+j * 7) ((n - j) * 7) (by omega)
 obtain⟨cs,hcs⟩:∃cs,cs=(row.drop (off+j * 7)).take ((n - j) * 7):=⟨_,rfl⟩
 rw [<- hcs] at s1 s2 ⊢
 have hone1:∀v∈cs,v.oneCell'=true:=fun v hv=>by
  obtain⟨k,hk⟩:=List.mem_iff_getElem?.1 hv
  have q3:=s2 k v hk
  have hkl:=(List.getElem?_eq_some_iff.1 hk).1
  rw [s1] at hkl
  refine hone v (List.mem_iff_getElem?.2 ⟨j * 7+k,?_⟩)
  rw [List.getElem?_take,if_pos (by omega),List.getElem?_drop,show off+(j * 7+k)=off+j * 7+k by omega]
  exact q3
 obtain⟨A,hA,hsrc⟩:∃A:Addr,(if c=j then some (⟨b,off,none⟩:Addr) else some ⟨b,off+j * 7,none⟩)=some A /\ (∀(t:Nat) u,cs[t]?=some u->w.drew.cell? (A.add t)=some u):=by
  by_cases h:c=j
  ·refine⟨⟨b,off,none⟩,by simp [h],fun t u hu=>?_⟩
   have h0:cs.length=0:=by rw [s1,show n - j=0 by omega]
   rw [List.length_eq_zero_iff.1 h0] at hu
   simp at hu
  ·exact⟨⟨b,off+j * 7,none⟩,by simp [h],fun t u hu=>JG (w:=w.drew) hrow _ t u (s2 t u hu)⟩
 have hap:∀ty dc,(Builtin.append_ #[179,179] ty #[.slice (some ⟨b,off,none⟩) i c,.slice (some A) (n - j) dc]).run Tryz.prog w.drew=.ok (.slice (some ⟨b,off,none⟩) (n - 1) c) (w.drew.setRow b (fa row (off+i * 7) cs).toArray):=fun ty dc=>by
  have:=jz (P:=Tryz.prog) w.drew 179 ty 235 i0 Tryz.underlying179 hi0 b off i c row.toArray 235 hrow A (n - j) dc cs (by rw [s1,hi1]) hsrc hone1 (by omega) (by rw [hi1];simp;omega)
  rw [this,hi1,show i+(n - j)=n - 1 by omega]
  rfl
 obtain⟨r1,hr1⟩:∃r1,r1=fa row (off+i * 7) cs:=⟨_,rfl⟩
 have hr1l:r1.length=row.length:=by rw [hr1];exact nI (by omega)
 rw [<- hr1] at hap ⊢
 obtain⟨W1,hW1⟩:∃W1,W1=w.drew.setRow b r1.toArray:=⟨_,rfl⟩
 have hW1b:W1.heap[b]?=some (.cells r1.toArray 235 (0,0)):=by rw [hW1];exact setRow_heap w.drew b _ _ _ (0,0) hrow
 have hcl:∀ty dc,(Builtin.clear_ #[179] ty #[.slice (some ⟨b,off+(n - 1) * 7,none⟩) 1 dc]).run Tryz.prog W1=.ok (.tuple #[]) (W1.setRow b (fa r1 (off+(n - 1) * 7) [.int .i64 0,.int .i64 0,.int .i64 0,.int .i64 0,.bool false,.int .i64 0,.int .i64 0]).toArray):=fun ty dc=>va W1 ty b _ dc r1 hW1b (by omega)
 rw [<- hW1] at hap ⊢
 have hic:i<=c:=by omega
 have hjc:j<=c:=by omega
 have hjn:j<=n:=by omega
 have hin:i<=n:=by omega
 have hijle:i<=j:=by omega
 have hz:¬((i:Int)=(j:Int)):=by omega
 have h1n:n - (n - 1)=1:=by omega
 have hcn:¬(c=n - 1):=by omega
 have hle:n - 1<=n:=by omega
 have hle2:((n - 1:Nat):Int)<=(n:Int):=by omega
 clear hij hrow hone hone1 s1 s2 hcs hsrc hr1 hr1l hW1b hW1 hi0 hi1
 go_enter Tryz.func106,Tryz.ntmps106
 go_wp2_with fail
 go_region_law_o (refine pV rfl _ _ 179 179 rfl _ (.slice (some A) (n - j) (c - j)) (by simp [Act.eval,Act.put]) (by simp [Act.eval,Act.put,hA]) (hap _ _) ?_)
 go_wp2
 go_ret
 exact⟨rfl,rfl⟩
theorem setRow_size (w:World) (b:Nat) (x:Array Value):(w.setRow b x).heap.size=w.heap.size:=by simp [World.setRow]
theorem sZ {row cs:List Value} {p:Nat} (h:p+cs.length<=row.length) (j:Nat):(fa row p cs)[j]?=if j < p then row[j]? else if j < p+cs.length then cs[j - p]? else row[j]?:=oO h j
theorem PW {w w':World} {S:Nat->Prop} {b:Nat} (hb:S b \/ w.heap.size<=b) (h:∀k,k < w.heap.size->k≠b->w'.heap[k]?=w.heap[k]?) (h1:w'.os=w.os) (h2:w'.tape=w.tape) (h3:w'.output=w.output) (h4:w.heap.size<=w'.heap.size):Fr S (fun k=>k=b) w w' :=
 ⟨fun k hk hs=>h k hk (fun e=>by
   subst e
   rcases hb with hb | hb
   ·exact hs hb
   ·omega),fun k hk=>by
   rw [hk]
   exact hb.symm,h1,h2,h3,h4⟩
def P3 (args:List SV) (H:Hp AV):T (SV×Hp AV):=match args with
 | [.v (.c (.vs n 0 len 7 false)),.v (.c x),.v (.c y)]=>match hget H n,iOf x,iOf y,Nat.ble 8 H.length with
   | some (.abs (.notes p)),some i,some j,true=>.need (decide (len=p.length /\ p.length<=100000 /\ 0<=i /\ i < (p.length:Int) /\ j=i+1)) (.leaf (.v (.c (.vs H.length 0 (len - 1) 7 false)),cf H (some n)++[some (.abs (.notes (p.take i.toNat++p.drop (i.toNat+1))))]))
   | _,_,_,_=>.fail "Delete"
 | _=>.fail "Delete"
theorem fo (p:List Nt):(knotes.vals p).length=p.length * 7:=knotes.vals_len p
theorem B0 (p:List Nt) (i:Nat):(knotes.vals p).take (i * 7)=knotes.vals (p.take i):=knotes.vals_take p i
theorem B1 (p:List Nt) (i:Nat):(knotes.vals p).drop (i * 7)=knotes.vals (p.drop i):=knotes.vals_drop p i
theorem Mc {σ:Sg}:FnOk Tryz.prog (NV σ) 106 P3:=by
 refine FnOk.of fun args H v H' hr ha hC=>?_
 unfold P3 at hr
 split at hr
 ·rename_i n len x y
  split at hr
  ·rename_i p i j hn hi hj hG
   replace hr:=ah hr
   obtain⟨hb,hr⟩:=hr
   obtain⟨rfl,hpl,hi0,hi1,rfl⟩:=of_decide_eq_true hb
   simp only [T.val,Option.some.injEq,Prod.mk.injEq] at hr
   obtain⟨rfl,rfl⟩:=hr
   obtain⟨k,rfl⟩:∃k:Nat,i=k:=⟨i.toNat,by omega⟩
   have hk:k < p.length:=by omega
   have hG:(NV σ).G<=H.length:=Nat.le_of_ble_eq_true hG
   have hd:∀j,some n=some j->∃c,hget H j=some c:=fun j hj=>by cases hj;exact⟨_,hn⟩
   have hpn:(NV σ).F.arr (.notes (p.take k++p.drop (k+1)))=some (7,235,knotes.vals (p.take k++p.drop (k+1))):=rfl
   have hpo:(NV σ).F.arr (.notes p)=some (7,235,knotes.vals p):=rfl
   refine⟨uJ hd 0 _ 7 false,rY hC hd (fun c hc=>by cases hc),fun ρ w hO=>?_⟩
   have hv:=(((NV σ).F.arr_q _ _ _ _ hpo).2 _ _ _).1 (hO.q n _ hn)
   have hone:=((NV σ).F.arr_q _ _ _ _ hpo).1
   have hxd:x.den ρ=.int .i64 (k:Int):=aM hi ρ
   have hyd:y.den ρ=.int .i64 ((k+1:Nat):Int):=by rw [aM hj ρ];congr 1
   show Calls Tryz.prog _ #[aG (ρ.L n) 0 p.length 2,x.den ρ,y.den ρ] w _
   rw [hxd,hyd,vsDen_eq,if_neg (by omega)]
   rcases hv with⟨hc0,hp0,hS0⟩ | ⟨hc1,hS,row,hh,hf,hl,hg⟩
   ·exfalso
    have:(knotes.vals p).length=0:=by rw [hp0];rfl
    rw [fo] at this
    omega
   rw [fo] at hl
   have hSb:ρ.S n (ρ.L n).b:=(hS _).2 rfl
   have hval:∀j,j < p.length * 7->(knotes.vals p)[j]?=row[(ρ.L n).o+j]?:=fun j hj=>by
    rw [hg j _ (List.getElem?_eq_getElem (by rw [fo];exact hj)),List.getElem?_eq_getElem (by rw [fo];exact hj)]
   have hrone:∀v∈(row.drop (ρ.L n).o).take (p.length * 7),v.oneCell'=true:=fun v hv=>by
    obtain⟨j,hj⟩:=List.mem_iff_getElem?.1 hv
    rw [List.getElem?_take] at hj
    split at hj
    ·rename_i hjl
     rw [List.getElem?_drop,<- hval j hjl] at hj
     exact hone v (List.mem_of_getElem? hj)
    ·cases hj
   refine(Ux (ρ.L n).b (ρ.L n).o p.length ((ρ.L n).c - 1) k (k+1) row w rfl hk (by omega) (by omega) hh hf hrone).mono ?_
   rintro e w' ⟨rfl,rfl⟩
   have l1:((row.drop ((ρ.L n).o+(k+1) * 7)).take ((p.length - (k+1)) * 7)).length=(p.length - (k+1)) * 7:=by simp;omega
   have l2:(fa row ((ρ.L n).o+k * 7) ((row.drop ((ρ.L n).o+(k+1) * 7)).take ((p.length - (k+1)) * 7))).length=row.length:=nI (by omega)
   have hlen:(knotes.vals (p.take k++p.drop (k+1))).length=(p.length - 1) * 7:=by rw [fo];simp;omega
   have hnv:fQ ⟨(ρ.L n).b,(ρ.L n).o,(ρ.L n).c - 1+1⟩ (fun x=>x=(ρ.L n).b) (knotes.vals (p.take k++p.drop (k+1))) 7 235 ((w.drew.setRow (ρ.L n).b (fa row ((ρ.L n).o+k * 7) ((row.drop ((ρ.L n).o+(k+1) * 7)).take ((p.length - (k+1)) * 7))).toArray).setRow (ρ.L n).b (fa (fa row ((ρ.L n).o+k * 7) ((row.drop ((ρ.L n).o+(k+1) * 7)).take ((p.length - (k+1)) * 7))) ((ρ.L n).o+(p.length - 1) * 7) [.int .i64 0,.int .i64 0,.int .i64 0,.int .i64 0,.bool false,.int .i64 0,.int .i64 0]).toArray):=by
    refine .inr ⟨by simp,fun x=>Iff.rfl,_,setRow_heap _ _ _ _ _ (0,0) (setRow_heap w.drew _ _ _ _ (0,0) hh),?_,?_,?_⟩
    ·rw [nI (by simp;omega),l2]
     simpa using hf
    ·rw [hlen]
     simp only [Nat.add_sub_cancel]
     omega
    ·intro j v hj
     have hjl:=(List.getElem?_eq_some_iff.1 hj).1
     rw [hlen] at hjl
     simp only
     rw [sZ (by simp;omega),if_pos (by omega),sZ (by omega)]
     rw [AK.vals_append,<- B0,<- B1] at hj
     by_cases h1:j < k * 7
     ·rw [if_pos (by omega),<- hval j (by omega)]
      rw [List.getElem?_append_left (by rw [List.length_take,fo];omega),List.getElem?_take,if_pos h1] at hj
      exact hj
     ·rw [if_neg (by omega),if_pos (by omega),List.getElem?_take,if_pos (by omega),List.getElem?_drop]
      rw [List.getElem?_append_right (by rw [List.length_take,fo];omega),List.getElem?_drop,List.length_take,fo,hval _ (by omega)] at hj
      rw [<- hj]
      congr 1
      omega
   obtain⟨o1,o2⟩:=pJ (N:=NV σ) hO hC hG (d:=some n) hd hpn (S:=ρ.S n) (fun j hj=>⟨n,_,rfl,hn,hj⟩) hnv (PW (.inl hSb) (fun j hj hne=>by rw [oN hne,oN hne];rfl) rfl rfl rfl (by rw [setRow_size,setRow_size];exact Nat.le_refl _))
   refine⟨_,?_,o1,o2⟩
   show _=Ending.returned (aG ((ρ.set H.length ⟨(ρ.L n).b,(ρ.L n).o,(ρ.L n).c - 1+1⟩ fun x=>x=(ρ.L n).b).L H.length) 0 (p.length - 1) 7)
   rw [(dQ _ _ _ _).1,vsDen_eq,if_neg (by simp)]
   rfl
  ·simp [T.val] at hr
 ·simp [T.val] at hr
end Go.Proofs.YtcpdipfepeccgaaGreatDoor

namespace Go.Proofs.YtcpdipfepeccgaaGreatDoor
open Go Go.Sx Go.Proofs
set_option maxRecDepth 100000
variable {σ:Sg} {lp:Lp}
def nmT (n:Nat):Nat:=match n with | 0=>8 | 1=>15 | 2=>10 | _=>11
def CD (m:RiteM) (q:Nat):List Cell:=lset ((cI AV.len 1 (bh 46 (bh 18 (RiteM.wr {m with step:=13,engine:=4})))).map (Cell.ren nmT)) 44 (.vs 15 0 q 5 false)
def hpT (m:RiteM) (l:List W) (q:Nat):Hp AV:=aX AV.sent 0 noM++[some (.cells (CD m q) b8),none,some (.abs (.notes m.doomed)),some (.abs (.notes m.notes)),none,none,none,some (.abs (.words l))]
def IE:List Nat:=[2,3,10,11,12]
noncomputable def LT4:Code:=dO 3 (aT (bC Tryz.f104))
noncomputable def AB (m:RiteM) (l:List W) (q:Nat) (i:Int) (r:List Sp) (lr:Nat):St AV :=
 {E:=only IE [(2,.v (.c .snil)),(3,.v (.c (.vs 16 0 lr 3 false))),(10,.v (.c (.vs 15 0 q 5 false))),(11,.v (.c (.it .i64 q))),(12,.v (.c (.it .i64 i)))] 23,H:=(hpT m l q)++[some (.abs (.spans r))]}
def BH (σ:Sg) (n:Nat) (l:List Sp):Bool:=decide (n=Intf.len (F6 σ) (AV.spans l) /\ (n+1) * (SI.bytes C9+1)<=lim)
theorem rT4 (σ:Sg) (m:RiteM) (l:List W) (q:Nat) (i:Int) (r:List Sp) (lr:Nat):(xc (NV σ) (joinCal (lv (NV σ) aQ 5)) (fun _=>none) 23 LT4 (AB m l q i r lr)).bind (bR 16 23 IE bZ) =
 .ite (decide (i < (q:Int))) (.need (decide (0<=i /\ i < (q:Int))) (.need (decide (0+i.toNat < l.length)) (.need (BH σ lr r) (.leaf (.normal,AB m l q (IntKind.wrap .i64 (i+1)) (r++[jt (l.getD (0+i.toNat) kwords.dflt)]) (lr+1)))))) (.leaf (.exit 0,AB m l q i r lr)):=by kernel_rfl
theorem Er {n:Nat} {l:List Sp} (h:n=l.length) (hn:l.length<=100000):BH σ n l=true:=by
 unfold BH
 subst h
 exact decide_eq_true ⟨rfl,Nat.le_trans (Nat.mul_le_mul_right _ (Nat.succ_le_succ hn)) (by decide)⟩
noncomputable def uu (m:RiteM) (l:List W) (q:Nat) (c:MC Sp):St AV:=AB m l q c.k c.r c.r.length
theorem Bq (σ:Sg) (m:RiteM) (l:List W) (q:Nat) (hq:q=l.length) (hm:l.length<=100000) (c:MC Sp) (r:Ex×MC Sp) (h:(oJ 0 jt l c).val=some r) :
 ((xc (NV σ) (joinCal (lv (NV σ) aQ 5)) (fun _=>none) 23 LT4 (uu m l q c)).bind (bR 16 23 IE bZ)).val=some (r.1,uu m l q r.2):=by
 replace h:=ah h
 obtain⟨hb,h⟩:=h
 obtain⟨h1,h2⟩:=of_decide_eq_true hb
 simp only [T.val,Option.some.injEq] at h
 subst h
 obtain⟨k,s⟩:=c
 simp only at h1 h2
 have e1:0+(k:Int).toNat=k:=by omega
 have hw:IntKind.wrap .i64 ((k:Int)+1)=((k+1:Nat):Int):=fh (by omega)
 dsimp only [uu]
 rw [rT4]
 by_cases hlt:k < l.length
 ·rw [ivT (decide_eq_true (by show (k:Int) < _;omega)),nv (decide_eq_true (by omega)),nv (decide_eq_true (by omega)),nv (Er rfl (by omega)),hw,cg kwords.dflt hlt,e1]
  simp only [goC,T.val,List.length_append,List.length_cons,List.length_nil]
 ·rw [ivF (decide_eq_false (by show ¬(k:Int) < _;omega)),List.drop_eq_nil_of_le (by omega)]
  rfl
def Tq (m:RiteM) (l:List W) (q:Nat) (s:St AV):Prop:=Sx.look s.E 2=.v (.c .snil) /\ Sx.look s.E 3=.v (.c .snil) /\ Sx.look s.E 10=.v (.c (.vs 15 0 q 5 false)) /\ Sx.look s.E 11=.v (.c (.it .i64 q)) /\ Sx.look s.E 12=.v (.c (.il .i64 0)) /\ s.H=(hpT m l q)
noncomputable def gT4 (sp:List Sp) (m:RiteM) (l:List W) (q:Nat) (s:St AV):T (Ex×St AV):=.need (cH (Tq m l q s)) (.leaf (.exit 0,AB m l q l.length sp sp.length))
theorem PM {N':Env AV} (hF:N'.F=(NV σ).F) (hG:N'.G=(NV σ).G) (m:RiteM) (l:List W) (q:Nat) (hq:q=l.length) (hm:l.length<=100000):b7 Tryz.prog N' 23 LT4 (gT4 (l.map jt) m l q):=by
 have hcal:cP Tryz.prog (NV σ) (joinCal (lv (NV σ) aQ 5)):=bo (fU okV mQ hvV au 5)
 refine cd (N:=NV σ) hF hG okV hcal (lp:=fun _=>none) (fun _ _ _ g hg=>by cases hg) fun s s' ex hgs=>?_
 obtain⟨E1,H1⟩:=s
 unfold gT4 at hgs
 replace hgs:=ah hgs
 obtain⟨hb,hgs⟩:=hgs
 obtain⟨e2,e3,e10,e11,e12,eH⟩:=cK hb
 simp only at e2 e3 e10 e11 e12 eH
 subst eH
 simp only [T.val,Option.some.injEq,Prod.mk.injEq] at hgs
 obtain⟨rfl,rfl⟩:=hgs
 refine⟨{M:=MC Sp,fam:=uu m l q,step:=oJ 0 jt l,ks:=IE,pk:=bZ,hpk:=(fun d a h=>by cases h),L:=16,len:=rfl,hGL:=(by show 8<=16;decide),run:=Bq σ m l q hq hm,m:=⟨0,[]⟩,k:=_,m':=_,ent:=?_,it:=IV l 0 [] rfl (Nat.zero_add _) rfl,fin:=?_}⟩
 ·refine et (N:=NV σ) (s:=⟨E1,_⟩) (l:=[.spans []]) (fun a ha=>⟨3,kspans.ty,by simp only [List.mem_cons,List.not_mem_nil,or_false] at ha;rw [ha];rfl⟩) (by show 8<=16;decide) fun k hk=>?_
  simp only [IE,List.mem_cons,List.not_mem_nil,or_false] at hk
  rcases hk with rfl | rfl | rfl | rfl | rfl
  ·exact .inl e2.symm
  ·exact .inr (.inr ⟨e3,0,3,by decide,rfl⟩)
  ·exact .inl e10.symm
  ·exact .inl e11.symm
  ·exact .inr (.inl ⟨by show Sx.look E1 12≠_;rw [e12];rintro ⟨⟩,oT _,fun ρ=>by show _=(Sx.look E1 12).den ρ;rw [e12];rfl⟩)
 ·simp only [List.nil_append,uu]
noncomputable def Sy (sp:List Sp) (m:RiteM) (l:List W) (q:Nat) (lp:Lp):Lp:=dS 104 3 (gT4 sp m l q) lp
theorem Sm {lp:Lp} (h:bS Tryz.prog (NVl lp σ)) (m:RiteM) (l:List W) (q:Nat) (hq:q=l.length) (hm:l.length<=100000):bS Tryz.prog (NVl (Sy (l.map jt) m l q lp) σ) :=
 fe h (fn:=Tryz.f104) (by kernel_rfl) (c:=bC Tryz.f104) (by kernel_rfl) (nt:=23) (by kernel_rfl) (b:=LT4) (aR (by kernel_rfl)) (PM (σ:=σ) (N':=NVl lp σ) rfl rfl m l q hq hm)
def Jh (m:RiteM) (l:List W) (q:Nat):Prop:=SV.v (.c .snil)=.v (.c .snil) /\ SV.v (.c .snil)=.v (.c .snil) /\ SV.v (.c (.vs 15 0 q 5 false))=.v (.c (.vs 15 0 q 5 false)) /\ SV.v (.c (.it .i64 q))=.v (.c (.it .i64 q)) /\ SV.v (.c (.il .i64 0))=.v (.c (.il .i64 0)) /\ (hpT m l q)=(hpT m l q)
theorem Jg (m:RiteM) (l:List W) (q:Nat):cH (Jh m l q)=true:=cQ ⟨rfl,rfl,rfl,rfl,rfl,rfl⟩
end Go.Proofs.YtcpdipfepeccgaaGreatDoor

namespace Go.Proofs.YtcpdipfepeccgaaGreatDoor
open Go Go.Sx Go.Proofs
set_option maxRecDepth 100000
variable {σ:Sg} {lp:Lp}
noncomputable def sB (σ:Sg) (sf:RiteM->RiteM) (ix:Nt->List Nt->Int) (may:Int->List Sp->Bool):Tab:=aC 102 (FU σ (aL isS noM (Dw aNo oRite (fun m _=>some (HV m)) fun m _=>(.tup [],sf m,[])))) (aC 105 (jf isS noM (ixS ix)) (aC 106 P3 (aC 103 (jf isS noM (Ph may)) y5)))
def zY (n:Int) (l:List Sp):Bool:=!(l.any (jg n))
noncomputable def Gf (σ:Sg):Tab:=sB σ iE cO zY
theorem D7:bm Tryz.prog (NV σ) (Gf σ):=aj (xD KD) (aj Pv (aj Mc (aj Pg sD)))
noncomputable def sS (lp:Lp) (σ:Sg) (tab:Tab) (ks:List Nat) (m:RiteM) (x:Rp1):T (Option (Unit×RiteM)):=(qU lp σ tab 39 noM (aRp.enc x) (dw m) b8 (ks.foldl (fun g k=>bh k g) (RiteM.wr m)) []).map (eO sg oRite)
def C8 (σ:Sg) (r:RT):Bool:=decide (r.ls=Intf.len (F6 σ) (AV.words r.m.seen) /\ (r.ls+1) * (SI.bytes OO+1)<=lim)
section
variable {β:Type} (I:Bool->β->β->β) (N:Bool->β->β) (L:RT->β)
def HG (sf:RiteM->RiteM) (r:RT):β:=N (wD r) (N (HV r.m) (L (rOf (sf r.m))))
def gE (w:W) (r:RT):RT:={r with m:={r.m with seen:=r.m.seen++[w]},ls:=r.ls+1}
def xS (σ:Sg) (sf:RiteM->RiteM) (x:Rp1) (r:RT):β:=N (C8 σ r) (jV I N L (IntKind.wrap .i64 (r.m.index+1)) (gE x.w r) (HG N L sf (gE x.w r)))
def OV (sf:RiteM->RiteM) (x:Rp1) (r:RT):β:=HG N L sf {r with m:={r.m with clock:=x.w}}
def HH (σ:Sg) (ix:Nt->List Nt->Int) (r:RT):β :=
 N (decide ((0:Int)<=0 /\ 0 < (r.ld:Int))) (N (decide (0 < r.m.doomed.length)) (N (decide (r.ln=r.m.notes.length /\ r.m.notes.length<=100000))
   (N (decide (r.ln=r.m.notes.length /\ r.m.notes.length<=100000 /\ 0<=ix (r.m.doomed.getD 0 knotes.dflt) r.m.notes /\ ix (r.m.doomed.getD 0 knotes.dflt) r.m.notes < (r.m.notes.length:Int) /\ IntKind.wrap .i64 (ix (r.m.doomed.getD 0 knotes.dflt) r.m.notes+1)=ix (r.m.doomed.getD 0 knotes.dflt) r.m.notes+1))
     (N (decide ((0:Int)<=1 /\ 1<=(r.ld:Int) /\ (r.ld:Int)<=(r.ld:Int) /\ r.ld=Intf.len (F6 σ) (AV.notes r.m.doomed)))
       (jn I N L {m:={r.m with notes:=r.m.notes.take (ix (r.m.doomed.getD 0 knotes.dflt) r.m.notes).toNat++r.m.notes.drop ((ix (r.m.doomed.getD 0 knotes.dflt) r.m.notes).toNat+1),freed:=IntKind.wrap .i64 (r.m.freed+1),doomed:=(r.m.doomed.take (r.ld:Int).toNat).drop 1},ls:=r.ls,ld:=(r.ld:Int).toNat - 1,ln:=r.ln - 1})))))
end
theorem Ou (σ:Sg) (sf:RiteM->RiteM) (ix:Nt->List Nt->Int) (may:Int->List Sp->Bool) (m:RiteM) (x:Rp1):sS cZ σ (sB σ sf ix may) [18,46] {m with step:=13,engine:=2} x=xS tI tN tR σ sf x (rOf {m with step:=13,engine:=2}):=by kernel_rfl
theorem Ot (σ:Sg) (sf:RiteM->RiteM) (ix:Nt->List Nt->Int) (may:Int->List Sp->Bool) (m:RiteM) (x:Rp1):sS cZ σ (sB σ sf ix may) [18,46] {m with step:=13,engine:=3} x=xS tI tN tR σ sf x (rOf {m with step:=13,engine:=3}):=by kernel_rfl
theorem Oo (σ:Sg) (sf:RiteM->RiteM) (ix:Nt->List Nt->Int) (may:Int->List Sp->Bool) (m:RiteM) (x:Rp1):sS cZ σ (sB σ sf ix may) [18,46] {m with step:=13,engine:=5} x=xS tI tN tR σ sf x (rOf {m with step:=13,engine:=5}):=by kernel_rfl
theorem TV (σ:Sg) (sf:RiteM->RiteM) (ix:Nt->List Nt->Int) (may:Int->List Sp->Bool) (m:RiteM) (x:Rp1):sS cZ σ (sB σ sf ix may) [18] {m with step:=15} x=OV tN tR sf x (rOf {m with step:=15}):=by kernel_rfl
theorem TU (σ:Sg) (sf:RiteM->RiteM) (ix:Nt->List Nt->Int) (may:Int->List Sp->Bool) (m:RiteM) (x:Rp1):sS cZ σ (sB σ sf ix may) [18] {m with step:=16} x=HH tI tN tR σ ix (rOf {m with step:=16}):=by kernel_rfl
section
variable {β:Type} (I:Bool->β->β->β) (N:Bool->β->β) (L:RT->β)
noncomputable def OU (σ:Sg) (sp:List Sp) (may:Int->List Sp->Bool) (x:Rp1) (r:RT):β:=N (C8 σ r) (jV I N L (IntKind.wrap .i64 (r.m.index+1)) (gE x.w r)
 (N (cH (Jh r.m (r.m.seen++[x.w]) (r.ls+1))) (N (gb (CD r.m (r.ls+1)) b8 (CD r.m (r.ls+1)) b8) (N (decide (sp.length=sp.length /\ sp.length<=100000)) (I (may r.m.clock.num sp) (L (gf 14 ⟨3,0,0,24,r.m.clock,gQ r.m.clock 1⟩ (gE x.w r))) (L (gG 15 qy (gE x.w r))))))))
end
theorem Oq (σ:Sg) (sp:List Sp) (sf:RiteM->RiteM) (ix:Nt->List Nt->Int) (may:Int->List Sp->Bool) (m:RiteM) (x:Rp1):sS (Sy sp m (m.seen++[x.w]) (m.seen.length+1) cZ) σ (sB σ sf ix may) [18,46] {m with step:=13,engine:=4} x=OU tI tN tR σ sp may x (rOf {m with step:=13,engine:=4}):=by kernel_rfl
end Go.Proofs.YtcpdipfepeccgaaGreatDoor
