import Derived.Test.YtadmfaohjnjajaaGreatDoorSxL
import Derived.LoopN
import Derived.Laws.AppendOwn
import Derived.Laws.MakeOwn
import Derived.Laws.Slices
set_option linter.unusedVariables false
set_option linter.unusedSimpArgs false
set_option maxHeartbeats 0
set_option maxRecDepth 100000
namespace Go.Sx
section
variable {AV:Type} {P:Program} {N:eI AV}
def UB:Ex->Exit
 | .normal=>.normal
 | .exit id=>.exit id
 | .ret=>.ret
theorem BF {nt:Nat}:∀{l:List Oper},FU nt l=true->∀o∈l,∀d,o.dst=some d->d < nt
 | [],_,o,ho,_,_=>by cases ho
 | o::r,h,o',ho,d,hd=>by
   simp only [FU] at h;cases hod:o.dst with
   | none =>
     simp only [hod] at h;rcases aaO.1 ho with rfl | ho
     ·rw [hod] at hd;cases hd
     ·exact BF h o' ho d hd
   | some d' =>
     simp only [hod] at h;split at h
     ·rename_i hlt;rcases aaO.1 ho with rfl | ho
      ·rw [hod] at hd;cases hd;exact(fT _ _).1 hlt
      ·exact BF h o' ho d hd
     ·cases h
theorem CK {nt L:Nat} {ρ:Nm} {s:St AV} (k:Nat) (hcl:bO N s):bO N {s with H:=s.H++kV AV k} /\
 ∀{a:Act} {w:World},At N nt ρ s a w->At N nt ρ {s with H:=s.H++kV AV k} a w /\ lj N L ρ s.H w ρ (s.H++kV AV k) w:=by
 have hg:∀n,af (s.H++kV AV k) n=af s.H n:=PX s.H k;have up:∀n c,af s.H n=some c->∃c',af (s.H++kV AV k) n=some c':=fun n c h=>⟨c,by rw [hg];exact h⟩;refine⟨⟨fun k'=>(hcl.E k').mono up,fun n x h=>(hcl.H n x (by rw [<- hg n];exact h)).mono up⟩,fun {a w} bG=>⟨⟨bG.em,?_⟩,?_⟩⟩
 ·exact bG.own.sub ⟨fun n c h=>bG.own.q n c (by rw [<- hg n];exact h),fun n m c d uv h h'=>bG.own.qR n m c d uv (by rw [<- hg n];exact h) (by rw [<- hg m];exact h'),bG.own.rU⟩ fun n c k h hk=>⟨n,c,by rw [<- hg n];exact h,hk⟩
 ·refine⟨up,fun _ _ _=>rfl,fun n _ h=>by rw [hg];exact h,by simp,fun _ _ _=>rfl,fun n c k h hk=>.inr ⟨n,c,by rw [<- hg n];exact h,hk⟩,rfl,rfl,rfl,ab4 _⟩
def cQ:Code->List (Nat×Code)
 | .seq a b=>cQ a++cQ b
 | .cond _ a b=>cQ a++cQ b
 | .block _ c=>cQ c
 | .loop c=>match vT c with
   | some id=>(id,c)::cQ c
   | none=>cQ c
 | _=>[]
def gr (P:Program) (N:eI AV) (nt:Nat) (c:Code) (g:St AV->T (Ex×St AV)):Prop :=
 ∀(L:Nat) (s s':St AV) (ex:Ex),(g s).val=some (ex,s')->bO N s->L<=s.H.length ->
   bO N s' /\ L<=s'.H.length /\ ∀{ρ:Nm} {a:Act} {w:World},At N nt ρ s a w->(Code.loop c).wp P (fun e a' w'=>e=UB ex /\ oW N nt L ρ s w a s' a' w') a w
def QE (P:Program) (N:eI AV) (nt:Nat) (c:Code) (lp:Nat->Option (St AV->T (Ex×St AV))):Prop :=
 ∀id b,(id,b)∈cQ c->∀g,lp id=some g->gr P N nt b g
theorem AD (E:Ev):∀(n k:Nat),aJ (ON E n) k=if k < n then aJ E k else ee
 | 0,k=>by simp [ON,aJ]
 | n+1,k=>by
   simp only [ON,aJ];by_cases h:n=k
   ·subst h;simp [afQ]
   ·rw [(bT n k).2 h,AD E n k];by_cases h1:k < n
    ·rw [if_pos h1,if_pos (by omega)]
    ·rw [if_neg h1,if_neg (by omega)]
theorem abn {nt:Nat} {ρ:Nm} {s:St AV} {a:Act} {w:World} (h:At N nt ρ s a w):At N nt ρ {s with E:=ON s.E nt} a w:=by
 refine⟨⟨h.em.size,fun k hk=>?_⟩,h.own⟩;simp only [AD] at hk ⊢;split
 ·rename_i hl;rw [if_pos hl] at hk;exact h.em.get k hk
 ·rename_i hl;have:a.tmps[k]?=none:=by rw [Array.getElem?_eq_none];rw [h.em.size];omega
  simp [Array.getD_eq_getD_getElem?,this,ee,SV.ay,undef]
theorem abm {nt:Nat} {s:St AV} (h:bO N s):bO N {s with E:=ON s.E nt}:=by
 refine⟨fun k=>?_,h.H⟩;simp only [AD];split
 ·exact h.E k
 ·exact mG _
theorem HE {nt L:Nat} {c:Code} {f:St AV->T (Ex×St AV)}
 (hf:∀(s s':St AV) (ex:Ex),(f s).val=some (ex,s')->bO N s->L<=s.H.length->bO N s' /\ L<=s'.H.length /\ ∀{ρ:Nm} {a:Act} {w:World},At N nt ρ s a w->c.wp P (fun e a' w'=>e=UB ex /\ oW N nt L ρ s w a s' a' w') a w) :
 ∀(n:Nat) (s s':St AV) (ex:Ex),(rounds nt f n s).val=some (ex,s')->bO N s->L<=s.H.length ->
   bO N s' /\ L<=s'.H.length /\ ∀{ρ:Nm} {a:Act} {w:World},At N nt ρ s a w->∀{Q:Exit->Act->World->Prop},(∀a' w',oW N nt L ρ s w a s' a' w'->Q (UB ex) a' w')->Code.rounds P c Q n a w
 | 0,s,s',ex,h,_,_=>by simp [rounds,T.val] at h
 | n+1,s,s',ex,h,hcl,hH=>by
   simp only [rounds] at h;obtain⟨⟨ex1,s₁⟩,h1,h2⟩:=T.bq h;obtain⟨c1,l1,k1⟩:=hf s s₁ ex1 h1 hcl hH;cases ex1 with
   | normal =>simp only at h2;obtain⟨c2,l2,k2⟩:=HE hf n _ s' ex h2 (abm c1) l1;refine⟨c2,l2,fun {ρ a w} bG Q hQ=>wp_mono (k1 bG) ?_⟩;rintro e a₁ w₁ ⟨rfl,⟨⟨ρ₁,e1,o1,v1⟩,d1⟩⟩;refine k2 (abn ⟨e1,o1⟩) fun a₂ w₂ hl=>hQ a₂ w₂ ?_;obtain⟨⟨ρ₂,e2,o2,v2⟩,d2⟩:=hl;exact⟨⟨ρ₂,e2,o2,v1.trans v2⟩,d2.trans d1⟩
   | exit id =>cases h2;refine⟨c1,l1,fun {ρ a w} bG Q hQ=>wp_mono (k1 bG) ?_⟩;rintro e a₁ w₁ ⟨rfl,hl⟩;exact hQ a₁ w₁ hl
   | ret =>cases h2;refine⟨c1,l1,fun {ρ a w} bG Q hQ=>wp_mono (k1 bG) ?_⟩;rintro e a₁ w₁ ⟨rfl,hl⟩;exact hQ a₁ w₁ hl
theorem xB (hT:fN P N) {cX:Callee AV} (cR:gZ P N cX) {lp:Nat->Option (St AV->T (Ex×St AV))} {nt L:Nat}:∀(c:Code),QE P N nt c lp->∀(s s':St AV) (ex:Ex),(xc N cX lp nt c s).val=some (ex,s')->bO N s->L<=s.H.length ->
 bO N s' /\ L<=s'.H.length /\ ∀{ρ:Nm} {a:Act} {w:World},At N nt ρ s a w->c.wp P (fun e a' w'=>e=UB ex /\ oW N nt L ρ s w a s' a' w') a w
 | .skip,qG,s,s',ex,h,hcl,hH=>by simp only [xc,T.val,aaf,aaB] at h;obtain⟨rfl,rfl⟩:=h;exact⟨hcl,hH,fun {ρ a w} bG=>wp_skip ⟨rfl,⟨ρ,bG.em,bG.own,lj.refl _ _ _ _⟩,rfl⟩⟩
 | .label l,qG,s,s',ex,h,hcl,hH=>by simp only [xc,T.val,aaf,aaB] at h;obtain⟨rfl,rfl⟩:=h;exact⟨hcl,hH,fun {ρ a w} bG=>wp_label ⟨rfl,⟨ρ,bG.em,bG.own,lj.refl _ _ _ _⟩,rfl⟩⟩
 | .exit id,qG,s,s',ex,h,hcl,hH=>by simp only [xc,T.val,aaf,aaB] at h;obtain⟨rfl,rfl⟩:=h;exact⟨hcl,hH,fun {ρ a w} bG=>wp_exit ⟨rfl,⟨ρ,bG.em,bG.own,lj.refl _ _ _ _⟩,rfl⟩⟩
 | .ret,qG,s,s',ex,h,hcl,hH=>by simp only [xc,T.val,aaf,aaB] at h;obtain⟨rfl,rfl⟩:=h;exact⟨hcl,hH,fun {ρ a w} bG=>wp_ret ⟨rfl,⟨ρ,bG.em,bG.own,lj.refl _ _ _ _⟩,rfl⟩⟩
 | .region id bY d,qG,s,s',ex,h,hcl,hH=>by
   simp only [xc,growH_eq] at h;split at h
   ·cases h
   ·rename_i atQ;have hd:=BF atQ;split at h
    ·-- in the order of the text
     obtain⟨m,h1,h2⟩:=T.bq h;cases h2;have hr:=fun ρ=>CK (nt:=nt) (L:=L) (ρ:=ρ) (fG bY.toList) hcl;have IA:L<=(s.H++kV AV (fG bY.toList)).length:=by simp;omega
     have xR:=(hr Nm.id).1;have tg:=fun s₁ h1=>D4 (P:=P) (nt:=nt) hT cR bY hH bY.toList 0 _ s₁ h1 xR IA hd;have hA:=fun s' q h=>y9 (N:=N) (cX:=cX) (base:=s.H.length) (all:=bY.toList) ({s with H:=s.H++kV AV (fG bY.toList)}:St AV) bY.toList 0 [] true ({s with H:=s.H++kV AV (fG bY.toList)}:St AV) s' q (N3 _) ⟨[],rfl⟩ (fun _=>rfl) h;obtain⟨s₁,q₁,h1,Kp,hcm⟩:=Fv xR h1 (fun s' q h=>⟨(tg s' (hA s' q h).1).1,(hA s' q h).2⟩)
     replace h1:=(hA s₁ q₁ h1).1
     obtain⟨c1,k1⟩:=tg s₁ h1;refine⟨hcm,by rw [Kp.H];exact abz IA (B6 _ _ _ _ h1),fun {ρ a w} bG=>?_⟩;obtain⟨ai2,ev0⟩:=(hr ρ).2 bG;refine wp_region_list (k1 ai2 fun a' w' hl=>⟨rfl,?_⟩);obtain⟨⟨ρ₁,e1,o1,v1⟩,d1⟩:=hl;exact⟨⟨ρ₁,Kp.em e1,by rw [Kp.H];exact o1,by rw [Kp.H];exact ev0.trans v1⟩,d1⟩
    ·-- its order is open
     split at h
     ·cases h
     ·cases h
     ·rename_i hap hG;obtain⟨m,h1,h2⟩:=T.bq h;cases h2;have hG:=acZ hG;have hr:=fun ρ=>CK (nt:=nt) (L:=L) (ρ:=ρ) (fG bY.toList) hcl;have IA:L<=(s.H++kV AV (fG bY.toList)).length:=by simp;omega
      have xR:=(hr Nm.id).1;have tg:=fun s₁ h1=>LP (P:=P) (nt:=nt) (L:=L) (s':=s₁) hT cR bY hap hH hG h1 xR IA hd (by simp [H5]);have hA:=fun s' q h=>xG (N:=N) (cX:=cX) (base:=s.H.length) (all:=bY.toList) ({s with H:=s.H++kV AV (fG bY.toList)}:St AV) bY.toList 0 [] [] true ({s with H:=s.H++kV AV (fG bY.toList)}:St AV) s' q (N3 _) ⟨[],rfl⟩ (fun _=>rfl) h;obtain⟨s₁,q₁,h1,Kp,hcm⟩:=Fv xR h1 (fun s' q h=>⟨(tg s' (hA s' q h).1).1,(hA s' q h).2⟩)
      replace h1:=(hA s₁ q₁ h1).1
      obtain⟨c1,l1,k1⟩:=tg s₁ h1;refine⟨hcm,by rw [Kp.H];exact l1,fun {ρ a w} bG=>?_⟩;obtain⟨ai2,ev0⟩:=(hr ρ).2 bG;refine k1 ai2 fun a' w' hl=>⟨rfl,?_⟩;obtain⟨⟨ρ₁,e1,o1,v1⟩,d1⟩:=hl;exact⟨⟨ρ₁,Kp.em e1,by rw [Kp.H];exact o1,by rw [Kp.H];exact ev0.trans v1⟩,d1⟩
 | .seq x y,qG,s,s',ex,h,hcl,hH=>by
   simp only [xc] at h;obtain⟨⟨ex1,s₁⟩,h1,h2⟩:=T.bq h;obtain⟨c1,l1,k1⟩:=xB hT cR (nt:=nt) (L:=L) x (fun i b hb=>qG i b (by simp only [cQ,adg];exact .inl hb)) s s₁ ex1 h1 hcl hH;cases ex1 with
   | normal =>simp only at h2;obtain⟨c2,l2,k2⟩:=xB hT cR (nt:=nt) (L:=L) y (fun i b hb=>qG i b (by simp only [cQ,adg];exact .inr hb)) s₁ s' ex h2 c1 l1;refine⟨c2,l2,fun {ρ a w} bG=>wp_seq (wp_mono (k1 bG) ?_)⟩;rintro e a₁ w₁ ⟨rfl,⟨⟨ρ₁,e1,o1,v1⟩,d1⟩⟩;refine wp_mono (k2 ⟨e1,o1⟩) ?_;rintro e a₂ w₂ ⟨rfl,⟨⟨ρ₂,e2,o2,v2⟩,d2⟩⟩;exact⟨rfl,⟨ρ₂,e2,o2,v1.trans v2⟩,d2.trans d1⟩
   | exit id =>cases h2;refine⟨c1,l1,fun {ρ a w} bG=>wp_seq (wp_mono (k1 bG) ?_)⟩;rintro e a₁ w₁ ⟨rfl,hl⟩;exact⟨rfl,hl⟩
   | ret =>cases h2;refine⟨c1,l1,fun {ρ a w} bG=>wp_seq (wp_mono (k1 bG) ?_)⟩;rintro e a₁ w₁ ⟨rfl,hl⟩;exact⟨rfl,hl⟩
 | .cond c x y,qG,s,s',ex,h,hcl,hH=>by
   simp only [xc] at h;split at h
   ·rename_i cc hc;split at h
    ·rename_i t hb;split at h
     ·obtain⟨c1,l1,k1⟩:=xB hT cR (nt:=nt) (L:=L) x (fun i b hb=>qG i b (by simp only [cQ,adg];exact .inl hb)) s s' ex h hcl hH;refine⟨c1,l1,fun {ρ a w} bG=>wp_cond_true ?_ (k1 bG)⟩;exact((jx bG.em hcl bG.own.rU).ay _ _ hc).trans (fC ρ hb)
     ·obtain⟨c1,l1,k1⟩:=xB hT cR (nt:=nt) (L:=L) y (fun i b hb=>qG i b (by simp only [cQ,adg];exact .inr hb)) s s' ex h hcl hH;refine⟨c1,l1,fun {ρ a w} bG=>wp_cond_false ?_ (k1 bG)⟩;exact((jx bG.em hcl bG.own.rU).ay _ _ hc).trans (fC ρ hb)
    ·rename_i t hb;cases t with
     | true =>obtain⟨c1,l1,k1⟩:=xB hT cR (nt:=nt) (L:=L) x (fun i b hb=>qG i b (by simp only [cQ,adg];exact .inl hb)) s s' ex h hcl hH;refine⟨c1,l1,fun {ρ a w} bG=>wp_cond_true ?_ (k1 bG)⟩;exact((jx bG.em hcl bG.own.rU).ay _ _ hc).trans (fC ρ hb)
     | false =>obtain⟨c1,l1,k1⟩:=xB hT cR (nt:=nt) (L:=L) y (fun i b hb=>qG i b (by simp only [cQ,adg];exact .inr hb)) s s' ex h hcl hH;refine⟨c1,l1,fun {ρ a w} bG=>wp_cond_false ?_ (k1 bG)⟩;exact((jx bG.em hcl bG.own.rU).ay _ _ hc).trans (fC ρ hb)
    ·cases h
   ·cases h
 | .block id c,qG,s,s',ex,h,hcl,hH=>by
   simp only [xc] at h;obtain⟨⟨ex1,s₁⟩,h1,h2⟩:=T.bq h;obtain⟨c1,l1,k1⟩:=xB hT cR (nt:=nt) (L:=L) c (fun i b hb=>qG i b (by simpa [cQ] using hb)) s s₁ ex1 h1 hcl hH;cases ex1 with
   | normal =>cases h2;refine⟨c1,l1,fun {ρ a w} bG=>wp_block (wp_mono (k1 bG) ?_)⟩;rintro e a₁ w₁ ⟨rfl,hl⟩;exact⟨rfl,hl⟩
   | ret =>cases h2;refine⟨c1,l1,fun {ρ a w} bG=>wp_block (wp_mono (k1 bG) ?_)⟩;rintro e a₁ w₁ ⟨rfl,hl⟩;exact⟨rfl,hl⟩
   | exit j =>
     simp only at h2;split at h2
     ·rename_i hj;have hj:=(aG _ _).1 hj;subst hj;cases h2;refine⟨c1,l1,fun {ρ a w} bG=>wp_block (wp_mono (k1 bG) ?_)⟩;rintro e a₁ w₁ ⟨rfl,hl⟩;show Exit.inBlock j _ (.exit j) a₁ w₁;simp only [Exit.inBlock,if_true];exact⟨rfl,hl⟩
     ·rename_i hj;have hj:=(bT _ _).1 hj;cases h2;refine⟨c1,l1,fun {ρ a w} bG=>wp_block (wp_mono (k1 bG) ?_)⟩;rintro e a₁ w₁ ⟨rfl,hl⟩;show Exit.inBlock id _ (.exit j) a₁ w₁;simp only [Exit.inBlock,if_neg hj];exact⟨rfl,hl⟩
 | .loop c,qG,s,s',ex,h,hcl,hH=>by
   simp only [xc] at h;split at h
   ·cases h
   ·rename_i id hid;split at h
    ·rename_i g hg;exact qG id c (by simp [cQ,hid]) g hg L s s' ex h hcl hH
    ·obtain⟨c1,l1,k1⟩:=HE (P:=P) (c:=c) (fun s s' ex h hcl hH=>xB hT cR (nt:=nt) (L:=L) c (fun i b hb=>qG i b (by simp [cQ,hid,hb])) s s' ex h hcl hH) 3000 s s' ex h hcl hH;exact⟨c1,l1,fun {ρ a w} bG=>wp_loop_rounds 3000 (k1 bG fun a' w' hl=>⟨rfl,hl⟩)⟩
 | .rangeFunc _ _ _ _,_,_,_,_,h,_,_=>by simp [xc,T.val] at h
 | .scope _,_,_,_,_,h,_,_=>by simp [xc,T.val] at h
 | .goto _,_,_,_,_,h,_,_=>by simp [xc,T.val] at h
 | .refuse _,_,_,_,_,h,_,_=>by simp [xc,T.val] at h
def Rnd (P:Program) (N:eI AV) (nt:Nat) (c:Code) (s:St AV) (ex:Ex) (s':St AV):Prop:=∀(L:Nat),bO N s->L<=s.H.length ->
 bO N s' /\ L<=s'.H.length /\ ∀{ρ:Nm} {a:Act} {w:World},At N nt ρ s a w->c.wp P (fun e a' w'=>e=UB ex /\ oW N nt L ρ s w a s' a' w') a w
theorem Xb (hT:fN P N) {cX:Callee AV} (cR:gZ P N cX) {lp:Nat->Option (St AV->T (Ex×St AV))} {nt:Nat} {c:Code} (qG:QE P N nt c lp) {s s':St AV} {ex:Ex} (h:(xc N cX lp nt c s).val=some (ex,s')):Rnd P N nt c s ex s' :=
 fun L hcl hH=>xB hT cR c qG s s' ex h hcl hH
theorem Ek (hT:fN P N) {s:St AV} (hcl:bO N s):∀{rs:List ResultVar} {l:List V1},(L8 N s rs).val=some l ->
 (∀x∈l,jY s.H x) /\ ∀{ρ:Nm} {nt:Nat} {a:Act} {w:World},At N nt ρ s a w ->
   (rs.mapM (fun | .tmp t=>pure (a.tmps.getD t undef) | .cell c t=>do loadVar t (<- asAddr (a.tmps.getD c undef))):Sem (List Value)).run P w=.ok (l.map (V1.ay ρ)) w
 | [],l,h=>by simp only [L8,T.val,aaf] at h;subst h;exact⟨by simp,fun _=>by simp⟩
 | .tmp t::rs,l,h=>by
   simp only [L8] at h;split at h
   ·rename_i x hx;rw [T.gg] at h;obtain⟨l',Co,rfl⟩:=aaT.1 h;obtain⟨c1,k1⟩:=Ek hT hcl Co;refine⟨fun y hy=>?_,fun {ρ nt a w} bG=>?_⟩
    ·rcases aaO.1 hy with rfl | hy
     ·have:=hcl.E t;rw [hx] at this;exact this
     ·exact c1 y hy
    ·have e1:=bG.em.get t (by rw [hx];simp);rw [hx] at e1;have k2:=k1 bG;simp only [List.mapM_cons,aaY,aa0,aaX,k2,aaU,e1,SV.ay]
   ·cases h
 | .cell c t::rs,l,h=>by
   simp only [L8] at h;split at h
   ·rename_i n off hx;split at h
    ·rename_i cs ty hn;split at h
     ·rename_i x hp;rw [T.gg] at h;obtain⟨l',Co,rfl⟩:=aaT.1 h;obtain⟨c1,k1⟩:=Ek hT hcl Co;refine⟨fun y hy=>?_,fun {ρ nt a w} bG=>?_⟩
      ·rcases aaO.1 hy with rfl | hy
       ·exact km hp (hcl.H n _ hn)
       ·exact c1 y hy
      ·have e1:=bG.em.get c (by rw [hx];simp);rw [hx] at e1;have k2:=k1 bG;have:=mw (ρ:=ρ) (w:=w) hT hp (ρ n) 0 (fun j c hc=>by rw [aby];exact Gb bG.own hn j c hc);rw [aby] at this;have e2:a.tmps.getD c undef=.pointer (some ⟨ρ n,off,none⟩):=e1;have e3:(asAddr (a.tmps.getD c undef)).run P w=.ok ⟨ρ n,off,none⟩ w:=by rw [e2];rfl
       simp only [List.mapM_cons,aaY,e3,aa0,aaX,this,k2,aaU]
     ·cases h
    ·cases h
   ·cases h
theorem sa (len:Nat) (R:List Nat):∀(H:Hp AV) (i n:Nat),(af (xF len R i H) n=af H n \/ (af (xF len R i H) n=none /\ len<=i+n)) /\ (xF len R i H).length=H.length
 | [],i,n=>by simp [xF]
 | x::r,i,0=>by
   refine⟨?_,by simp [xF,(sa len R r (i+1) 0).2]⟩;simp only [xF,af];split
   ·exact .inl rfl
   ·rename_i hlt;have:=(jM _ _).1 hlt;split
    ·exact .inl rfl
    ·exact .inr ⟨rfl,by omega⟩
 | x::r,i,n+1=>by
   obtain⟨h1,h2⟩:=sa len R r (i+1) n;refine⟨?_,by simp [xF,h2]⟩;simp only [xF,af];rcases h1 with h1 | ⟨h1,h3⟩
   ·exact .inl h1
   ·exact .inr ⟨h1,by omega⟩
theorem pY:∀(k:Nat) (H:Hp AV) (n:Nat),af (DU k H) n=af H n /\ (k<=H.length->k<=(DU k H).length)
 | 0,[],n=>by simp [DU]
 | 0,none::r,n=>by
   have ih:=pY 0 r;simp only [DU];refine⟨?_,by simp⟩;split
   ·rename_i he;cases n with
    | zero=>simp [af]
    | succ n=>have:=(ih n).1;rw [he] at this;simp only [af] at this ⊢;exact this
   ·cases n with
    | zero=>simp [af]
    | succ n=>simp only [af];exact(ih n).1
 | 0,some c::r,n=>by
   simp only [DU];refine⟨?_,by simp⟩;cases n with
   | zero=>simp [af]
   | succ n=>simp only [af];exact(pY 0 r n).1
 | k+1,[],n=>by simp [DU]
 | k+1,x::r,n=>by
   simp only [DU];refine⟨?_,fun h=>by simp at h ⊢;exact(pY k r 0).2 h⟩;cases n with
   | zero=>simp [af]
   | succ n=>simp only [af];exact(pY k r n).1
theorem ado (len:Nat) (v:SV) (H:Hp AV) (hle:len<=H.length):(∀n c,af (gcH len v H) n=some c->af H n=some c) /\ (∀n,n < len->af (gcH len v H) n=af H n) /\ len<=(gcH len v H).length:=by
 unfold gcH;generalize kS H 400 (mP v++EW len H) []=R;refine⟨fun n c h=>?_,fun n hn=>?_,?_⟩
 ·rw [(pY len _ n).1] at h;rcases (sa len R H 0 n).1 with h1 | ⟨h1,_⟩
  ·rw [h1] at h;exact h
  ·rw [h1] at h;cases h
 ·rw [(pY len _ n).1];rcases (sa len R H 0 n).1 with h1 | ⟨_,h2⟩
  ·exact h1
  ·omega
 ·exact(pY len _ 0).2 (by rw [(sa len R H 0 0).2];exact hle)
theorem EA:∀(args:List SV) (n k:Nat),aJ (pad n args) k=if n<=k then(args[k - n]?).getD ee else ee
 | [],n,k=>by simp [pad,aJ]
 | x::r,n,k=>by
   simp only [pad,aJ];by_cases h:n=k
   ·subst h;simp [afQ]
   ·rw [(bT n k).2 h,EA r (n+1) k];by_cases h1:n+1<=k
    ·rw [if_pos h1,if_pos (by omega)];have:k - n=(k - (n+1))+1:=by omega
     rw [this,adU]
    ·rw [if_neg h1,if_neg (by omega)]
theorem XB (ρ:Nm) (l:List V1):(pr l).ay ρ=(if h:(l.map (V1.ay ρ)).toArray.size=1 then(l.map (V1.ay ρ)).toArray[0] else .tuple (l.map (V1.ay ρ)).toArray):=by
 match l with
 | []=>rfl
 | [x]=>simp [pr,SV.ay]
 | x::y::r=>simp [pr,SV.ay]
def fO (P:Program) (N:eI AV):Prop:=∀f fn c,N.ft.get f=some fn->fn.body=some c->QE P N fn.ntmps c (N.lp f)
def cE (P:Program) (N:eI AV) (f:FuncId) (g:List SV->Hp AV->T (SV×Hp AV)):Prop :=
 ∀(args:List SV) (H:Hp AV) (v:SV) (H':Hp AV),(g args H).val=some (v,H')->(∀x∈args,gf H x)->eX N H ->
   gf H' v /\ eX N H' /\ ∀(ρ:Nm) (w:World),gF N ρ H w ->
    Calls P f (args.map (SV.ay ρ)).toArray w fun e w'=>∃ρ',e=.returned (v.ay ρ') /\ gF N ρ' H' w' /\ lj N H.length ρ H w ρ' H' w'
theorem abI (hT:fN P N) (Ur:fO P N) {cX:Callee AV} (cR:gZ P N cX) (f:FuncId):cE P N f (ahw N cX f):=by
 intro args H v H' h bZ hC;unfold ahw at h;split at h
 ·rename_i fn Nu;obtain⟨k1,k2,k3⟩:=hT.fn f fn Nu;split at h
  ·rename_i c hc;split at h
   ·cases h
   ·rename_i at4;have hle:args.length<=fn.ntmps:=acZ at4;obtain⟨⟨ex,s'⟩,h1,h2⟩:=T.bq h;have hcl:bO N ({E:=pad 0 args,H:=H}:St AV):=by
     refine⟨fun k=>?_,hC.1⟩;show gf H (aJ (pad 0 args) k);rw [EA];simp only [acX,if_true,Nat.sub_zero];cases hk:args[k]? with
     | none=>exact mG H
     | some x=>exact bZ x (aca hk)
    obtain⟨c1,l1,wp1⟩:=xB (P:=P) (nt:=fn.ntmps) (L:=H.length) hT cR c (Ur f fn c Nu hc) _ s' ex h1 hcl (ab4 _);have h2':((L8 N s' fn.results.toList).bind fun l=>match gcH H.length (pr l) s'.H with
     | H'=>match SD H' (pr l) with
       | false=>T.fail "result: names"
       | true=>match qy H' H' with
         | false=>.fail "result: heap"
         | true=>.aD (pr l,H')).val=some (v,H') /\ ∀id,ex≠.exit id:=by
     cases ex with
     | exit id=>cases h2
     | normal=>exact⟨h2,by simp⟩
     | ret=>exact⟨h2,by simp⟩
    obtain⟨h2,hex⟩:=h2';obtain⟨l,hl,h3⟩:=T.bq h2;simp only at h3;split at h3
    ·cases h3
    ·rename_i hcv;split at h3
     ·cases h3
     ·rename_i hch;cases h3;obtain⟨g1,g2,g3⟩:=ado H.length (pr l) s'.H l1;have hC':eX N (gcH H.length (pr l) s'.H):=by exact⟨jH.1 hch,trivial⟩
      refine⟨xh.1 hcv,hC',fun ρ w hO=>?_⟩;obtain⟨_,ar1⟩:=Ek (P:=P) hT c1 hl;refine calls_of_wp k1 hc (wp_mono (wp1 (ρ:=ρ) ⟨⟨?_,?_⟩,hO⟩) ?_)
      ·simp;omega
      ·intro k _;show _=(aJ (pad 0 args) k).ay ρ;rw [EA];simp only [acX,if_true,Nat.sub_zero];rw [Array.getD_eq_getD_getElem?,Array.getElem?_append];split
       ·rename_i hk;simp at hk;simp [hk]
       ·rename_i hk;simp at hk;rw [List.getElem?_eq_none hk];simp only [Option.getD_none,ee,SV.ay,afm];rw [Array.getElem?_replicate];split<;>rfl
      ·rintro e a' w' ⟨rfl,⟨⟨ρ',e1,o1,v1⟩,d1⟩⟩;have ac4:=ar1 (ρ:=ρ') (w:=w') ⟨e1,o1⟩;have Nk:(results fn a'.tmps).run P w'=.ok ((pr l).ay ρ') w':=by unfold results;rw [<- afw (xs:=fn.results),List.mapM_toArray];simp only [aaY,Sem.run_map,aa0];erw [ac4];rw [XB];rfl
       have final:Ending.returned ((pr l).ay ρ')=.returned ((pr l).ay ρ') /\ gF N ρ' (gcH H.length (pr l) s'.H) w' /\ lj N H.length ρ H w ρ' (gcH H.length (pr l) s'.H) w':=by refine⟨rfl,o1.sub ⟨fun n c h=>o1.q n c (g1 n c h),fun n m c d uv h h'=>o1.qR n m c d uv (g1 n c h) (g1 m d h'),o1.rU⟩ (fun n c k h hk=>⟨n,c,g1 n c h,hk⟩),?_⟩;exact⟨fun n c h=>by obtain⟨c',oU⟩:=v1.dC n c h;exact⟨c',by rw [g2 n (b7 h)];exact oU⟩,v1.kF,fun n hn h=>by rw [g2 n hn];exact v1.H6 n hn h,g3,v1.mW,fun n c k h hk=>v1.new n c k (g1 n c h) hk,v1.os,v1.tape,v1.output,v1.size⟩
       cases ex with
       | exit id=>exact absurd rfl (hex id)
       | normal=>exact⟨d1,_,Nk,ρ',final⟩
       | ret=>exact⟨d1,_,Nk,ρ',final⟩
  ·cases h
 ·cases h
def dH (P:Program) (N:eI AV) (tab:FuncId->Option (List SV->Hp AV->T (SV×Hp AV))):Prop :=
 ∀f g,tab f=some g->cE P N f g
def U8 (P:Program) (N:eI AV):Prop:=∀o,∀(args:List SV) (H:Hp AV) (v:SV) (H':Hp AV),(N.hv o args H).val=some (v,H')->(∀x∈args,gf H x)->eX N H ->
    gf H' v /\ eX N H' /\ ∀(ρ:Nm) (w:World),gF N ρ H w ->
     KZ P (.op o) (args.map (SV.ay ρ)) w fun e w'=>∃ρ',e=v.ay ρ' /\ gF N ρ' H' w' /\ lj N H.length ρ H w ρ' H' w'
theorem cE.ajK {f:FuncId} {g:List SV->Hp AV->T (SV×Hp AV)} (h:cE P N f g) (args:List SV) (H:Hp AV) (v:SV) (H':Hp AV) (hr:(g args H).val=some (v,H')) (ha:∀x∈args,gf H x) (hC:eX N H) :
 gf H' v /\ eX N H' /\ ∀(ρ:Nm) (w:World),gF N ρ H w ->
  KZ P (.fn f) (args.map (SV.ay ρ)) w fun e w'=>∃ρ',e=v.ay ρ' /\ gF N ρ' H' w' /\ lj N H.length ρ H w ρ' H' w':=by
 obtain⟨h1,h2,h3⟩:=h args H v H' hr ha hC;refine⟨h1,h2,fun ρ w hO=>Calls.mono (h3 ρ w hO) ?_⟩;rintro e w' ⟨ρ',rfl,hk⟩;exact⟨_,rfl,ρ',rfl,hk⟩
theorem oP (H:Hp AV) {len:Nat}:∀{t:T (SV×Hp AV)} {n:Option Bool} {v:SV},pa len t=some (n,v)->vp n ->
 ∃r,t.val=some r /\ r.2.length=len /\ (v=.lU \/ (∀ρ:Nm,v.ay ρ=r.1.ay ρ))
 | .aD r,n,v,h,hn=>by
   simp only [pa] at h;split at h
   ·rename_i hl;cases h;exact⟨r,rfl,(aG _ _).1 hl,.inr fun _=>rfl⟩
   ·cases h
 | .aE b t,n,v,h,hn=>by
   simp only [pa] at h;split at h
   ·rename_i v' ht;cases h;have hb:b=true:=hn;subst hb;obtain⟨r,a1,a2,a3⟩:=oP H ht trivial;exact⟨r,a1,a2,a3⟩
   ·rename_i m v' ht;cases h;cases b with
    | false=>cases hn
    | true =>obtain⟨r,a1,a2,a3⟩:=oP H ht hn;exact⟨r,a1,a2,a3⟩
   ·cases h
 | .ite b t e,n,v,h,hn=>by
   have key:∀(n1 n2:Option Bool) (v1 v2:SV),pa len t=some (n1,v1)->pa len e=some (n2,v2)->(b=true->vp n1)->(b=false->vp n2)->v=ur b v1 v2 ->
    ∃r,(T.ite b t e).val=some r /\ r.2.length=len /\ (v=.lU \/ (∀ρ:Nm,v.ay ρ=r.1.ay ρ)):=by
    intro n1 n2 v1 v2 h1 h2 ht he hv;have hj:=(yt H b v1 v2).2;rw [<- hv] at hj;cases b with
    | true =>
      obtain⟨r,a1,a2,a3⟩:=oP H h1 (ht rfl);refine⟨r,a1,a2,?_⟩;rcases hj with hj | ⟨j1,_,j3⟩
      ·exact .inl hj
      ·rcases a3 with a3 | a3
       ·exact absurd a3 j1
       ·exact .inr fun ρ=>(j3 ρ).trans (a3 ρ)
    | false =>
      obtain⟨r,a1,a2,a3⟩:=oP H h2 (he rfl);refine⟨r,a1,a2,?_⟩;rcases hj with hj | ⟨j1,_,j3⟩
      ·exact .inl hj
      ·rcases a3 with a3 | a3
       ·exact absurd a3 j1
       ·exact .inr fun ρ=>(j3 ρ).trans (a3 ρ)
   simp only [pa] at h;split at h
   ·rename_i v1 v2 h1 h2;cases h;exact key none none v1 v2 h1 h2 (fun _=>trivial) (fun _=>trivial) rfl
   ·rename_i n1 v1 v2 h1 h2;cases h;exact key (some n1) none v1 v2 h1 h2 (fun hb=>by subst hb;exact hn) (fun _=>trivial) rfl
   ·rename_i v1 n2 v2 h1 h2;cases h;exact key none (some n2) v1 v2 h1 h2 (fun _=>trivial) (fun hb=>by subst hb;exact hn) rfl
   ·rename_i n1 v1 n2 v2 h1 h2;cases h;exact key (some n1) (some n2) v1 v2 h1 h2 (fun hb=>by subst hb;exact hn) (fun hb=>by subst hb;exact hn) rfl
   ·cases h
 | .fail _,_,_,h,_=>by simp [pa] at h
theorem v8:∀{A:Hp AV},Ak A=true->∀n,af A n=none
 | [],_,n=>by simp [af]
 | none::r,h,0=>by simp [af]
 | none::r,h,n+1=>by simp only [Ak] at h;simp only [af];exact v8 h n
 | some _::r,h,_=>by simp [Ak] at h
theorem none_eq:∀{A B:Hp AV},(∀n,af A n=none)->(∀n,af B n=none)->A.length=B.length->A=B
 | [],[],_,_,_=>rfl
 | [],_::_,_,_,h=>by simp at h
 | _::_,[],_,_,h=>by simp at h
 | x::r,y::q,h1,h2,hl=>by have e1:x=none:=h1 0;have e2:y=none:=h2 0;rw [e1,e2,none_eq (fun n=>h1 (n+1)) (fun n=>h2 (n+1)) (by simpa using hl)]
theorem dt {cX:Callee AV} (cR:gZ P N cX):gZ P N (bE cX):=by
 intro f args A v A' h bZ hC;unfold bE at h;split at h
 ·exact cR f args A v A' h bZ hC
 ·rename_i afV
  have main:∀(n:Option Bool) (u:SV),pa A.length (cX f args A)=some (n,u)->vp n->afL u=false->SD A u=true->gf A u /\ eX N A /\ ∀(ρ:Nm) (w:World),gF N ρ A w ->
   KZ P f (args.map (SV.ay ρ)) w fun e w'=>∃ρ',e=u.ay ρ' /\ gF N ρ' A w' /\ lj N A.length ρ A w ρ' A w':=by
   intro n u hj hn hu hcv;obtain⟨⟨v0,B⟩,hr,hlen,hv⟩:=oP A hj hn;obtain⟨c1,c2,k⟩:=cR f args A v0 B hr bZ hC;have hv:∀ρ:Nm,u.ay ρ=v0.ay ρ:=by
    rcases hv with hv | hv
    ·rw [hv] at hu;cases hu
    ·exact hv
   refine⟨xh.1 hcv,hC,fun ρ w hO=>(k ρ w hO).mono ?_⟩;rintro e w' ⟨ρ',rfl,Ny,OC⟩;have hB:B=A:=by
    refine none_eq (fun n=>?_) (v8 afV) hlen;rcases Nat.lt_or_ge n A.length with h | h
    ·exact OC.H6 n h (v8 afV n)
    ·cases hb:af B n with
     | none=>rfl
     | some c=>have:=b7 hb;simp only at hlen;omega
   subst hB;exact⟨ρ',by rw [hv ρ'],Ny,OC⟩
  split at h
  ·rename_i r hr;exact cR f args A v A' (by rw [hr];exact h) bZ hC
  ·split at h
   ·rename_i n u hj;split at h
    ·exact cR f args A v A' h bZ hC
    ·rename_i hu;split at h
     ·rename_i hcv hp;split at h
      ·simp only [T.val,aaf,aaB] at h;obtain⟨rfl,rfl⟩:=h;exact main none u hj trivial hu hcv
      ·rename_i b;obtain⟨hb,h⟩:=fZ h;simp only [T.val,aaf,aaB] at h;obtain⟨rfl,rfl⟩:=h;exact main (some b) u hj hb hu hcv
     ·exact cR f args A v A' h bZ hC
   ·exact cR f args A v A' h bZ hC
theorem mQ (hT:fN P N) (Ur:fO P N) (hhv:U8 P N) {tab:FuncId->Option (List SV->Hp AV->T (SV×Hp AV))} (YX:dH P N tab):∀n,gZ P N (lv N tab n)
 | 0=>by
   intro f args H v H' h;simp only [lv] at h;cases f with
   | op o=>exact hhv o args H v H' h
   | fn f =>
     simp only at h;cases ht:tab f with
     | none=>simp [ht,T.val] at h
     | some g=>simp only [ht] at h;exact(YX f g ht).ajK args H v H' h
 | n+1=>by
   intro f args H v H' h;simp only [lv] at h;cases f with
   | op o=>exact hhv o args H v H' h
   | fn f =>
     simp only at h;cases ht:tab f with
     | none =>simp only [ht] at h;exact(abI hT Ur (dt (mQ hT Ur hhv YX n)) f).ajK args H v H' h
     | some g =>simp only [ht] at h;exact(YX f g ht).ajK args H v H' h
theorem afE (hT:fN P N) (Ur:fO P N) (hhv:U8 P N) {tab:FuncId->Option (List SV->Hp AV->T (SV×Hp AV))} (YX:dH P N tab) (n:Nat) (f:FuncId):cE P N f (lv N tab n (.fn f)):=by intro args H v H' h ha hC;obtain⟨h1,h2,h3⟩:=mQ hT Ur hhv YX n (.fn f) args H v H' h ha hC;refine⟨h1,h2,fun ρ w hO=>Calls.mono (h3 ρ w hO) ?_⟩;rintro e w' ⟨_,rfl,ρ',rfl,hk⟩;exact⟨ρ',rfl,hk⟩
end
section
variable {AV:Type} {P:Program} {N:eI AV}
def T.bool:T (SV×Hp AV)->Bool
 | .aD r=>match r.1 with
   | .v (.c c)=>match lQ c with
     | some (b,_)=>b
     | none=>false
   | _=>false
 | .ite b t e=>match b with | true=>t.bool | false=>e.bool
 | .aE b t=>match b with | true=>t.bool | false=>false
 | .fail _=>false
structure wm (w w':World):Prop where
 block:∀k,k < w.heap.size->w'.heap[k]?=w.heap[k]?
 os:w'.os=w.os
 tape:w'.tape=w.tape
 output:w'.output=w.output
 size:w.heap.size<=w'.heap.size
def uA:SV->Prop
 | .v x=>∀c∈x.cells,c.name=none
 | .iW l=>∀x∈l,∀c∈x.cells,c.name=none
 | .lU=>True
 | .xz _ l=>∀c∈l,c.name=none
theorem uA.cl {v:SV} (h:uA v) (H:Hp AV):gf H v:=by
 cases v with
 | v x=>exact iT h
 | iW l=>exact fun x hx=>iT (h x hx)
 | lU=>trivial
 | xz f l=>exact iT h
theorem uA.ay {v:SV} (h:uA v) (ρ ρ':Nm):v.ay ρ'=v.ay ρ:=SV.cg (H:=([]:Hp Unit)) (h.cl _) (fun n c hc=>by simp [af] at hc)
end
section
variable {AV:Type} {P:Program} {N:eI AV}
structure Fr (S S':Nat->Prop) (w w':World):Prop where
 mW:∀k,k < w.heap.size->¬S k->w'.heap[k]?=w.heap[k]?
 new:∀k,S' k->w.heap.size<=k \/ S k
 os:w'.os=w.os
 tape:w'.tape=w.tape
 output:w'.output=w.output
 size:w.heap.size<=w'.heap.size
theorem wm.fr {w w':World} (h:wm w w') (S:Nat->Prop):Fr S S w w' :=
 ⟨fun k hk _=>h.block k hk,fun _ hk=>.inr hk,h.os,h.tape,h.output,h.size⟩
structure aex (s t:St AV):Prop where
 H:t.H=s.H
 E:∀k,aJ t.E k=.lU \/ aJ t.E k=aJ s.E k
theorem aex.at {s t:St AV} (h:aex s t) {nt:Nat} {ρ:Nm} {a:Act} {w:World} (ha:At N nt ρ s a w):At N nt ρ t a w:=by
 refine⟨⟨ha.em.size,fun k hk=>?_⟩,by rw [h.H];exact ha.own⟩;rcases h.E k with e | e
 ·exact absurd e hk
 ·rw [e] at hk ⊢;exact ha.em.get k hk
theorem aex.closed {s t:St AV} (h:aex s t) (hc:bO N s):bO N t:=by
 refine⟨fun k=>?_,by rw [h.H];exact hc.H⟩;rcases h.E k with e | e
 ·rw [e];trivial
 ·rw [e,h.H];exact hc.E k
def only (ks:List Nat) (E:Ev):Nat->Ev
 | 0=>[]
 | k+1=>(k,match nS ks k with | true=>aJ E k | false=>.lU)::only ks E k
theorem jd (ks:List Nat) (E:Ev):∀(n k:Nat),aJ (only ks E n) k=if k < n then(match nS ks k with | true=>aJ E k | false=>.lU) else ee
 | 0,k=>by simp [only,aJ]
 | n+1,k=>by
   simp only [only,aJ];by_cases h:n=k
   ·subst h;simp [afQ]
   ·rw [(bT n k).2 h,jd ks E n k];by_cases h1:k < n
    ·rw [if_pos h1,if_pos (by omega)]
    ·rw [if_neg h1,if_neg (by omega)]
end
section
variable {AV:Type}
theorem am0 {N N':eI AV} (hF:N'.F=N.F) {ρ:Nm} {n:Nat} {w:World} {c:aK AV} (h:c.q N ρ n w):c.q N' ρ n w:=by
 cases c with
 | cells l t=>exact h
 | oB l e t=>exact h
 | kN=>trivial
 | bN a=>show N'.F.q _ _ _ _;rw [hF];exact h
theorem oc {N N':eI AV} (hF:N'.F=N.F) (hG:N'.G=N.G) {ρ:Nm} {H:Hp AV} {w:World} (h:gF N ρ H w):gF N' ρ H w :=
 ⟨⟨fun n c hc=>am0 hF (h.q n c hc),h.qR,by rw [hG];exact h.rU⟩,by unfold ap4;rw [hF];exact h.ro⟩
theorem zW {N:eI AV} (N':eI AV) {L:Nat} {ρ ρ':Nm} {H H':Hp AV} {w w':World} (h:lj N L ρ H w ρ' H' w'):lj N' L ρ H w ρ' H' w' :=
 ⟨h.dC,h.kF,h.H6,h.len,h.mW,h.new,h.os,h.tape,h.output,h.size⟩
theorem ub {N:eI AV} (N':eI AV) {s:St AV} (h:bO N s):bO N' s:=⟨h.E,h.H⟩
def U5 (nt:Nat) (E E':Ev):Prop:=(∀k,k < nt->aJ E' k=.lU \/ aJ E' k=aJ E k \/ (aJ E k≠.lU /\ uA (aJ E' k) /\ ∀ρ,(aJ E' k).ay ρ=(aJ E k).ay ρ)) /\ ∀k,nt<=k->aJ E' k=ee
theorem U5.em {nt:Nat} {E E':Ev} (h:U5 nt E E') {ρ:Nm} {a:Act} (he:EM ρ nt E a):EM ρ nt E' a:=by
 refine⟨he.size,fun k hk=>?_⟩;rcases Nat.lt_or_ge k nt with hlt | GS
 ·rcases h.1 k hlt with e | e | ⟨e1,_,e2⟩
  ·exact absurd e hk
  ·rw [e] at hk ⊢;exact he.get k hk
  ·rw [e2];exact he.get k e1
 ·rw [h.2 k GS];have:a.tmps[k]?=none:=by rw [Array.getElem?_eq_none];rw [he.size];exact GS
  simp [Array.getD_eq_getD_getElem?,this,ee,SV.ay,undef]
theorem U5.closed {N N':eI AV} {nt:Nat} {E E':Ev} (h:U5 nt E E') {H:Hp AV} (hc:bO N {E:=E,H:=H}):bO N' {E:=E',H:=H}:=by
 refine⟨fun k=>?_,hc.H⟩;rcases Nat.lt_or_ge k nt with hlt | GS
 ·rcases h.1 k hlt with e | e | ⟨_,e,_⟩
  ·simp only [e];trivial
  ·simp only [e];exact hc.E k
  ·exact e.cl _
 ·simp only [h.2 k GS];exact mG _
end
section
variable {AV:Type} {P:Program} {N:eI AV}
theorem Ns (H:Hp AV) (c:aK AV) (n:Nat):af (H++[some c]) n=if n=H.length then some c else af H n:=by
 induction H generalizing n with
 | nil=>cases n<;>simp [af]
 | cons x r ih =>
   cases n with
   | zero=>simp [af]
   | succ n=>simp only [acY,af,ih n,aaQ,Nat.add_right_cancel_iff]
def gM (H:Hp AV):Option Nat->Hp AV
 | none=>H
 | some n=>de H n (some .kN)
theorem Fq (H:Hp AV) (d:Option Nat):(gM H d).length=H.length:=by cases d<;>simp [gM,eB]
theorem XC {ρ:Nm} {H:Hp AV} {w w':World} (hO:gF N ρ H w) (hC:eX N H) (hG:N.G<=H.length) {d:Option Nat} {ck:aK AV} (hd:∀n,d=some n->∃c,af H n=some c) (hck:oy H ck.cellsOf) {lc:m9} {S:Nat->Prop}
 (hfr:∀k,k < w.heap.size->(∀n c,d=some n->af H n=some c->¬c.fp ρ n k)->w'.heap[k]?=w.heap[k]?) (hos:w'.os=w.os) (htp:w'.tape=w.tape) (aiP:w'.output=w.output) (tP:w.heap.size<=w'.heap.size)
 (hq:ck.q N (ρ.set H.length lc S) H.length w') (hfp:∀k,ck.fp (ρ.set H.length lc S) H.length k->w.heap.size<=k \/ ∃n c,d=some n /\ af H n=some c /\ c.fp ρ n k) :
 gF N (ρ.set H.length lc S) (gM H d++[some ck]) w' /\ lj N H.length ρ H w (ρ.set H.length lc S) (gM H d++[some ck]) w' /\ eX N (gM H d++[some ck]):=by
 have Y8:∀n,af (gM H d++[some ck]) n=if n=H.length then some ck else if d=some n then some .kN else af H n:=fun n=>by
  rw [Ns,Fq];by_cases e:n=H.length
  ·rw [if_pos e,if_pos e]
  ·rw [if_neg e,if_neg e];cases d with
   | none=>simp [gM]
   | some m =>
     obtain⟨c,hc⟩:=hd m rfl;by_cases e':m=n
     ·subst e';simp [gM,cG _ (b7 hc)]
     ·have:¬(some m=some n):=fun h=>e' (afT h);rw [if_neg this];simp only [gM,bz _ e']
 have dE:∀n c,af H n=some c->n≠H.length:=fun n c h e=>by have:=b7 h;omega
 have xw:∀n c,af H n=some c->(ρ.set H.length lc S).L n=ρ.L n:=fun n c h=>(ρ.uR lc S (dE n c h)).1;have FD:∀n c,af H n=some c->(ρ.set H.length lc S).S n=ρ.S n:=fun n c h=>(ρ.uR lc S (dE n c h)).2;have dC:∀n c,af H n=some c->∃c',af (gM H d++[some ck]) n=some c':=fun n c h=>by
  rw [Y8,if_neg (dE n c h)];by_cases e:d=some n
  ·exact⟨_,if_pos e⟩
  ·exact⟨c,by rw [if_neg e];exact h⟩
 have BR:∀n c,af (gM H d++[some ck]) n=some c->(n=H.length /\ c=ck) \/ (c=.kN) \/ (n≠H.length /\ d≠some n /\ af H n=some c):=fun n c h=>by
  rw [Y8] at h;by_cases e:n=H.length
  ·rw [if_pos e] at h;exact .inl ⟨e,(afT h).symm⟩
  ·rw [if_neg e] at h;by_cases e':d=some n
   ·rw [if_pos e'] at h;exact .inr (.inl (afT h).symm)
   ·rw [if_neg e'] at h;exact .inr (.inr ⟨e,e',h⟩)
 have Uc:∀n c k,d≠some n->af H n=some c->c.fp ρ n k->w'.heap[k]?=w.heap[k]?:=fun n c k hn hc hk =>
  hfr k (hO.lt hc hk) fun m x hm hx hf=>hO.qR n m c x (fun e=>hn (by rw [hm,e])) hc hx k hk hf
 refine hO.up3 ⟨⟨?_,?_,?_⟩,⟨dC,xw,?_,?_,?_,?_,hos,htp,aiP,tP⟩,?_,trivial⟩
 ·intro n c hc;rcases BR n c hc with⟨rfl,rfl⟩ | rfl | ⟨_,hn,h⟩
  ·exact hq
  ·trivial
  ·exact o7 (hO.q n c h) (xw n c h) (FD n c h) (eV (hC.1 n c h) xw) (fun k hk=>Uc n c k hn h hk)
 ·intro n m c x uv hc hx k hk eh;rcases BR n c hc with⟨rfl,rfl⟩ | rfl | ⟨_,hn,h⟩
  ·rcases BR m x hx with⟨rfl,_⟩ | rfl | ⟨_,hm,h'⟩
   ·exact uv rfl
   ·exact eh
   ·rw [cY (xw m x h') (FD m x h')] at eh;rcases hfp k hk with h1 | ⟨n0,c0,hd0,xR,Y5⟩
    ·have:=hO.lt h' eh;omega
    ·exact hO.qR m n0 x c0 (fun e=>hm (by rw [hd0,e])) h' xR k eh Y5
  ·exact hk
  ·rw [cY (xw n c h) (FD n c h)] at hk;rcases BR m x hx with⟨rfl,rfl⟩ | rfl | ⟨_,hm,h'⟩
   ·rcases hfp k eh with h1 | ⟨n0,c0,hd0,xR,Y5⟩
    ·have:=hO.lt h hk;omega
    ·exact hO.qR n n0 c c0 (fun e=>hn (by rw [hd0,e])) h xR k hk Y5
   ·exact eh
   ·rw [cY (xw m x h') (FD m x h')] at eh;exact hO.qR n m c x uv h h' k hk eh
 ·intro g hg;have:g≠H.length:=by omega
  have h2:=(ρ.uR lc S this).1;simp only [Nm.f,h2];exact hO.rU g hg
 ·intro n hn hh;rw [Y8,if_neg (by omega)];have:d≠some n:=fun e=>by obtain⟨c,hc⟩:=hd n e;rw [hc] at hh;cases hh
  rw [if_neg this];exact hh
 ·simp [Fq]
 ·intro k hk vD;exact hfr k hk fun n c _ hc hf=>vD n c hc hf
 ·intro n c k hc hk;rcases BR n c hc with⟨rfl,rfl⟩ | rfl | ⟨_,_,h⟩
  ·rcases hfp k hk with h1 | ⟨n0,c0,_,xR,Y5⟩
   ·exact .inl h1
   ·exact .inr ⟨n0,c0,xR,Y5⟩
  ·exact hk.elim
  ·rw [cY (xw n c h) (FD n c h)] at hk;exact .inr ⟨n,c,h,hk⟩
 ·intro n x hc;rcases BR n x hc with⟨rfl,rfl⟩ | rfl | ⟨_,_,h⟩
  ·exact hck.mono dC
  ·intro c hc;cases hc
  ·exact(hC.1 n x h).mono dC
end
section
variable {AV:Type} {P:Program} {N:eI AV}
def ake (P:Program) (sl:Tr SI):Prop:=∀t si,sl.get t=some si->zy P t=some si
theorem yp:∀{l:List Cell} {n:Nat} {r:List Cell},oM l n=some r->r.length=n /\ ∀(j:Nat) c,r[j]?=some c->l[j]?=some c
 | _,0,r,h=>by simp only [oM,aaf] at h;subst h;simp
 | [],n+1,r,h=>by simp [oM] at h
 | x::l,n+1,r,h=>by
   simp only [oM] at h;split at h
   ·rename_i q hq;cases h;obtain⟨h1,h2⟩:=yp hq;refine⟨by simp [h1],fun j c hc=>?_⟩;cases j with
    | zero=>simpa using hc
    | succ j=>simp only [adU] at hc ⊢;exact h2 j c hc
   ·cases h
theorem Bl:∀{l:List Cell} {off n:Nat} {r:List Cell},qg l off n=some r->r.length=n /\ ∀(j:Nat) c,r[j]?=some c->l[off+j]?=some c
 | l,0,n,r,h=>by simp only [qg] at h;obtain⟨h1,h2⟩:=yp h;exact⟨h1,fun j c hc=>by rw [aby];exact h2 j c hc⟩
 | [],k+1,n,r,h=>by simp [qg] at h
 | x::l,k+1,n,r,h=>by simp only [qg] at h;obtain⟨h1,h2⟩:=Bl h;exact⟨h1,fun j c hc=>by rw [show k+1+j=(k+j)+1 by omega,adU];exact h2 j c hc⟩
theorem Yg {l:List Cell} {off n:Nat} {r:List Cell} (h:qg l off n=some r) {c:Cell} (hc:c∈r):c∈l:=by obtain⟨j,hj⟩:=List.getElem?_of_mem hc;exact aca ((Bl h).2 j c hj)
def p5 (H:Hp AV) (es:Nat):Cell->Option (List Cell)
 | .vs n o k Lc true=>match Nat.beq es Lc,af H n with
   | true,some (.oB l es2 _)=>match Nat.beq es es2 with
     | true=>qg l (o * es) (k * es)
     | false=>none
   | _,_=>none
 | _=>none
def KI:Cell->Bool
 | .dP=>true
 | .sx _ _=>true
 | .sf _ _ _ _ _ _=>true
 | .vs _ _ k _ true=>Nat.beq k 0
 | _=>false
def acy:SV->Option Nat
 | .v (.c (.il _ n))=>match decide (0<=n) with | true=>some n.toNat | false=>none
 | _=>none
abbrev afB (f:SfF):SfF:=.H6 f
theorem XZ (f:SfF) (o es:Nat):∀q:m9,((afB f).ap q).c<=1 \/ true=false /\ (afB f).ap q=⟨q.b,q.o+o * es,q.c - o⟩:=by
 intro q;simp only [SfF.ap];split
 ·exact .inl (acX _)
 ·exact .inl (ab4 _)
abbrev aoA (o es:Nat):SfF:=.H6 (.head o es)
def G7:Cell->Option Nat
 | .dP=>some 0
 | .sf _ _ _ _ _ _=>some 0
 | .vs _ _ len _ true=>some len
 | _=>none
def hvF (sl:Tr SI) (G:Nat) (o:Op) (args:List SV) (H:Hp AV):T (SV×Hp AV):=.fail "heavy"
theorem D0 {H:Hp AV} {d:Option Nat} {ck:aK AV} (hd:∀n,d=some n->∃c,af H n=some c) (n:Nat):af (gM H d++[some ck]) n=if n=H.length then some ck else if d=some n then some .kN else af H n:=by
 rw [Ns,Fq];by_cases e:n=H.length
 ·rw [if_pos e,if_pos e]
 ·rw [if_neg e,if_neg e];cases d with
  | none=>simp [gM]
  | some m =>
    obtain⟨c,hc⟩:=hd m rfl;by_cases e':m=n
    ·subst e';simp [gM,cG _ (b7 hc)]
    ·have:¬(some m=some n):=fun h=>e' (afT h);rw [if_neg this];simp only [gM,bz _ e']
theorem DE {H:Hp AV} (hC:eX N H) {d:Option Nat} {ck:aK AV} (hd:∀n,d=some n->∃c,af H n=some c) (hck:oy H ck.cellsOf):eX N (gM H d++[some ck]):=by
 have dE:∀n c,af H n=some c->n≠H.length:=fun n c h e=>by have:=b7 h;omega
 have dC:∀n c,af H n=some c->∃c',af (gM H d++[some ck]) n=some c':=fun n c h=>by
  rw [D0 hd,if_neg (dE n c h)];by_cases e:d=some n
  ·exact⟨_,if_pos e⟩
  ·exact⟨c,by rw [if_neg e];exact h⟩
 refine⟨fun n x h=>?_,trivial⟩;rw [D0 hd] at h;by_cases e:n=H.length
 ·rw [if_pos e] at h;cases h;exact hck.mono dC
 ·rw [if_neg e] at h;by_cases e':d=some n
  ·rw [if_pos e'] at h;cases h;intro c hc;cases hc
  ·rw [if_neg e'] at h;exact(hC.1 n x h).mono dC
theorem m6 {H:Hp AV} {d:Option Nat} {ck:aK AV} (hd:∀n,d=some n->∃c,af H n=some c) (o len es:Nat) (kn:Bool):gf (gM H d++[some ck]) (.v (.c (.vs H.length o len es kn))):=by intro c hc n hn;simp [V1.cells] at hc;subst hc;simp only [Cell.name,aaf] at hn;subst hn;exact⟨ck,by rw [D0 hd,if_pos rfl]⟩
theorem um {H:Hp AV} {es n o k Lc:Nat} {cs:List Cell} (h:p5 H es (.vs n o k Lc true)=some cs) :
 ∃l ty,af H n=some (.oB l es ty) /\ Lc=es /\ cs.length=k * es /\ (∀c∈cs,c∈l) /\ ∀(j:Nat) c,cs[j]?=some c->l[o * es+j]?=some c:=by
 simp only [p5] at h;split at h
 ·rename_i l es2 ty h1 h2;split at h
  ·rename_i h3;have h1:=(aG _ _).1 h1;have h3:=(aG _ _).1 h3;subst h1 h3;obtain⟨q1,q2⟩:=Bl h;exact⟨l,ty,h2,rfl,q1,fun c hc=>Yg h hc,q2⟩
  ·cases h
 ·cases h
theorem oa (w:World) (t ty e:TypeId) (i:TypeInfo) (ht:P.underlying t=some (.slice e)) (hi:P.info? e=some i)
 (g o0 zi WZ:Nat) (cur:Array Value) (te:TypeId) (hg:w.heap[g]?=some (.cells cur te (0,0)))
 (a:Addr) (m c:Nat) (news:List Value) (hl:news.length=m * i.size) (aoi:∀j u,news[j]?=some u->w.cell? (a.add j)=some u) (h1:∀u∈news,u.oneCell'=true)
 (hroom:zi+m<=WZ) (hfit:o0+zi * i.size+news.length<=cur.size) :
 (Builtin.append_ #[t,t] ty #[.slice (some ⟨g,o0,none⟩) zi WZ,.slice (some a) m c]).run P w =
   .ok (.slice (some ⟨g,o0,none⟩) (zi+m) WZ) (w.setRow g (cur.toList.take (o0+zi * i.size)++news++cur.toList.drop (o0+zi * i.size+news.length)).toArray):=by
 have hf:=run_firstCells_some (P:=P) w i.size m a m c news hl aoi;have tg:=run_storeCells_at P g (o0+zi * i.size) te news 0 cur w hg (by simpa using hfit) h1;simp only [Nat.add_zero] at tg;have e0:(⟨g,o0,none⟩:Addr).add (zi * i.size)=⟨g,o0+zi * i.size,none⟩:=by unfold Addr.add;by_cases hj:zi * i.size=0<;>simp [hj]
 simp [Builtin.append_,run_underlying ht,sizeOf,typeInfo,hi,Builtin.lenOf,hroom,hf,e0,tg]
theorem NS {ev:Operand->Value} {o:Oper} {c:Call} {w w':World} {v:Value} (ho:o.op=.call c) (hb:c.callee=.builtin .append) {t:TypeId} (ht:c.argTypes.toList=[t,t]) {s x:Value} (hv:(Op.call c).operands.toList.map ev=[s,x])
 (hr:(Builtin.append_ #[t,t] o.type #[s,x]).run P w=.ok v w'):(execOp ev o).run P w=.ok (.value v) w':=by
 obtain⟨dst,op,ty,tf,after,guard⟩:=o;simp only at ho hr;subst ho;obtain⟨cX,args,tys⟩:=c;simp only at hb ht;subst hb;have ht:tys=#[t,t]:=by have:=congrArg List.toArray ht;simpa using this
 subst ht;have ha:args.map ev=#[s,x]:=by
  have h:args.toList.map ev=[s,x]:=by simpa [Op.operands,Call.operands] using hv
  rw [<- afw (xs:=args),List.map_toArray,h]
 simp [execOp,resolve,invoke,builtin,ha,hr]
theorem T7 (q:Addr) (w:World):(loadCells q 0).run P w=.ok #[] w:=by have:=run_loadCells_list (P:=P) w q [] (fun j v h=>by simp at h);simpa using this
theorem UE {x:Cell} (h:KI x=true) (ρ:Nm):∃b cap,x.ay ρ=.slice b 0 cap:=by
 cases x<;>simp only [KI] at h<;>try cases h
 ·exact⟨none,0,rfl⟩
 ·exact⟨_,_,rfl⟩
 ·rename_i n o k es kn;cases kn with
  | false=>cases h
  | true =>
    have h:=(aG _ _).1 h;subst h;by_cases e:(ρ.L n).c=0
    ·exact⟨none,0,by simp [Cell.ay,cH,e]⟩
    ·exact⟨some ⟨(ρ.L n).b,(ρ.L n).o+o * es,none⟩,(ρ.L n).c - 1 - o,by simp [Cell.ay,cH,e]⟩
 ·simp only [Cell.ay,cH];split<;>exact⟨_,_,rfl⟩
theorem E8:∀{l:List Cell} {n:Nat} {r:List Cell},oM l n=some r->n<=l.length
 | _,0,_,_=>acX _
 | [],n+1,r,h=>by simp [oM] at h
 | x::l,n+1,r,h=>by
   simp only [oM] at h;split at h
   ·rename_i q hq;have:=E8 hq;simp;omega
   ·cases h
theorem RM:∀{l:List Cell} {off n:Nat} {r:List Cell},qg l off n=some r->off+n<=l.length
 | l,0,n,r,h=>by simp only [qg] at h;have:=E8 h;omega
 | [],k+1,n,r,h=>by simp [qg] at h
 | x::l,k+1,n,r,h=>by simp only [qg] at h;have:=RM h;simp;omega
theorem aa7 {ρ:Nm} {H:Hp AV} {w:World} (hO:gF N ρ H w) {es n o k Lc:Nat} {cs:List Cell} (Vj:0 < es) (h:p5 H es (.vs n o k Lc true)=some cs):o+k<=(ρ.L n).c - 1:=by
 obtain⟨l,ty,h1,rfl,_⟩:=um h;have hle:o * Lc+k * Lc<=l.length:=by simp only [p5,afQ,h1] at h;exact RM h
 rw [<- aei] at hle;rcases hO.q n _ h1 with⟨_,hnil,_⟩ | ⟨_,_,row,_,_,hc,_⟩
 ·have:l.length=0:=by rw [<- dM ρ l,hnil];rfl
  have h0:(o+k) * Lc=0:=by omega
  rcases Nat.mul_eq_zero.1 h0 with h0 | h0<;>omega
 ·rw [dM] at hc;exact Nat.le_of_mul_le_mul_right (abz hle hc) Vj
theorem Db {row news:List Value} {p:Nat} (hp:p+news.length<=row.length) (j:Nat):(row.take p++news++row.drop (p+news.length))[j]?=if j < p then row[j]? else if j < p+news.length then news[j - p]? else row[j]?:=by
 have hl:(row.take p).length=p:=by simp;omega
 by_cases h1:j < p
 ·rw [if_pos h1,acA,acM (by omega),aeE,if_pos h1]
 ·rw [if_neg h1];by_cases h2:j < p+news.length
  ·rw [if_pos h2,acA,acR (by omega),hl,acM (by omega)]
  ·rw [if_neg h2,acR (by simp;omega),afG];congr 1;simp;omega
theorem Il {x:SV} {n:Nat} (h:acy x=some n) (ρ:Nm):∃k,x.ay ρ=.int k (n:Int):=by
 unfold acy at h;split at h
 ·rename_i k m;split at h
  ·rename_i h0;have h0:=aaF h0;cases h;exact⟨k,by simp only [SV.ay,V1.ay,Cell.ay];rw [Int.toNat_of_nonneg h0]⟩
  ·cases h
 ·cases h
theorem aiI {sl:Tr SI} (K8:ake P sl) (hhv:N.hv=hvF sl N.G):U8 P N:=by intro o args H v H' h bZ hC;rw [hhv] at h;cases h
