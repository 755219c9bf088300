import Derived.Test.YtadmfaohjnjajaaGreatDoorSxL
import Derived.LoopN
set_option linter.unusedVariables false
set_option linter.unusedSimpArgs false
set_option maxHeartbeats 0
set_option maxRecDepth 100000
namespace Go.Sx
section
variable {AV:Type} {P:Program} {N:dV AV}
def SN:Ex->Exit
 | .normal=>.normal
 | .exit id=>.exit id
 | .ret=>.ret
theorem A0 {nt:Nat}:∀{l:List Oper},EP nt l=true->∀o∈l,∀d,o.dst=some d->d < nt
 | [],_,o,ho,_,_=>by cases ho
 | o::r,h,o',ho,d,hd=>by
   simp only [EP] at h
   cases hod:o.dst with
   | none =>
     simp only [hod] at h
     rcases abk.1 ho with rfl | ho
     ·rw [hod] at hd;cases hd
     ·exact A0 h o' ho d hd
   | some d' =>
     simp only [hod] at h
     split at h
     ·rename_i du
      rcases abk.1 ho with rfl | ho
      ·rw [hod] at hd;cases hd;exact(fw _ _).1 du
      ·exact A0 h o' ho d hd
     ·cases h
theorem yD {nt L:Nat} {ρ:Nm} {s:St AV} (k:Nat) (hcl:bH N s):bH N {s with H:=s.H++kr AV k} /\
 ∀{a:Act} {w:World},At N nt ρ s a w->At N nt ρ {s with H:=s.H++kr AV k} a w /\ iZ N L ρ s.H w ρ (s.H++kr AV k) w:=by
 have hg:∀n,ae (s.H++kr AV k) n=ae s.H n:=Oo s.H k
 have up:∀n c,ae s.H n=some c->∃c',ae (s.H++kr AV k) n=some c':=fun n c h=>⟨c,by rw [hg];exact h⟩
 refine⟨⟨fun k'=>(hcl.E k').mono up,fun n x h=>(hcl.H n x (by rw [<- hg n];exact h)).mono up⟩,fun {a w} bC=>⟨⟨bC.em,?_⟩,?_⟩⟩
 ·exact bC.own.sub ⟨fun n c h=>bC.own.q n c (by rw [<- hg n];exact h),fun n m c d tH h h'=>bC.own.qz n m c d tH (by rw [<- hg n];exact h) (by rw [<- hg m];exact h'),bC.own.qW⟩ fun n c k h hk=>⟨n,c,by rw [<- hg n];exact h,hk⟩
 ·refine⟨up,fun _ _ _=>rfl,fun n _ h=>by rw [hg];exact h,by simp,fun _ _ _=>rfl,fun n c k h hk=>.inr ⟨n,c,by rw [<- hg n];exact h,hk⟩,rfl,rfl,rfl,abV _⟩
def cA:Code->List (Nat×Code)
 | .seq a b=>cA a++cA b
 | .cond _ a b=>cA a++cA b
 | .block _ c=>cA c
 | .loop c=>match uY c with
   | some id=>(id,c)::cA c
   | none=>cA c
 | _=>[]
def fY (P:Program) (N:dV AV) (nt:Nat) (c:Code) (g:St AV->T (Ex×St AV)):Prop :=
 ∀(L:Nat) (s s':St AV) (ex:Ex),(g s).val=some (ex,s')->bH N s->L<=s.H.length ->
   bH N s' /\ L<=s'.H.length /\ ∀{ρ:Nm} {a:Act} {w:World},At N nt ρ s a w->(Code.loop c).wp P (fun e a' w'=>e=SN ex /\ oB N nt L ρ s w a s' a' w') a w
def O7 (P:Program) (N:dV AV) (nt:Nat) (c:Code) (lp:Nat->Option (St AV->T (Ex×St AV))):Prop :=
 ∀id b,(id,b)∈cA c->∀g,lp id=some g->fY P N nt b g
theorem zP (E:Ev):∀(n k:Nat),aF (Nf E n) k=if k < n then aF E k else dQ
 | 0,k=>by simp [Nf,aF]
 | n+1,k=>by
   simp only [Nf,aF]
   by_cases h:n=k
   ·subst h;simp [agu]
   ·rw [(bE n k).2 h,zP E n k]
    by_cases h1:k < n
    ·rw [if_pos h1,if_pos (by omega)]
    ·rw [if_neg h1,if_neg (by omega)]
theorem ZN {nt:Nat} {ρ:Nm} {s:St AV} {a:Act} {w:World} (h:At N nt ρ s a w):At N nt ρ {s with E:=Nf s.E nt} a w:=by
 refine⟨⟨h.em.size,fun k hk=>?_⟩,h.own⟩
 simp only [zP] at hk ⊢
 split
 ·rename_i hl
  rw [if_pos hl] at hk
  exact h.em.get k hk
 ·rename_i hl
  have:a.tmps[k]?=none:=by rw [Array.getElem?_eq_none];rw [h.em.size];omega
  simp [Array.getD_eq_getD_getElem?,this,dQ,SV.aq,undef]
theorem ZM {nt:Nat} {s:St AV} (h:bH N s):bH N {s with E:=Nf s.E nt}:=by
 refine⟨fun k=>?_,h.H⟩
 simp only [zP]
 split
 ·exact h.E k
 ·exact mf _
theorem Gz {nt L:Nat} {c:Code} {f:St AV->T (Ex×St AV)}
 (hf:∀(s s':St AV) (ex:Ex),(f s).val=some (ex,s')->bH N s->L<=s.H.length->bH N s' /\ L<=s'.H.length /\ ∀{ρ:Nm} {a:Act} {w:World},At N nt ρ s a w->c.wp P (fun e a' w'=>e=SN ex /\ oB N nt L ρ s w a s' a' w') a w) :
 ∀(n:Nat) (s s':St AV) (ex:Ex),(rounds nt f n s).val=some (ex,s')->bH N s->L<=s.H.length ->
   bH N s' /\ L<=s'.H.length /\ ∀{ρ:Nm} {a:Act} {w:World},At N nt ρ s a w->∀{Q:Exit->Act->World->Prop},(∀a' w',oB N nt L ρ s w a s' a' w'->Q (SN ex) a' w')->Code.rounds P c Q n a w
 | 0,s,s',ex,h,_,_=>by simp [rounds,T.val] at h
 | n+1,s,s',ex,h,hcl,hH=>by
   simp only [rounds] at h
   obtain⟨⟨ex1,s₁⟩,h1,h2⟩:=T.bf h
   obtain⟨c1,l1,k1⟩:=hf s s₁ ex1 h1 hcl hH
   cases ex1 with
   | normal =>
     simp only at h2
     obtain⟨c2,l2,k2⟩:=Gz hf n _ s' ex h2 (ZM c1) l1
     refine⟨c2,l2,fun {ρ a w} bC Q hQ=>wp_mono (k1 bC) ?_⟩
     rintro e a₁ w₁ ⟨rfl,⟨⟨ρ₁,e1,o1,v1⟩,d1⟩⟩
     refine k2 (ZN ⟨e1,o1⟩) fun a₂ w₂ hl=>hQ a₂ w₂ ?_
     obtain⟨⟨ρ₂,e2,o2,v2⟩,d2⟩:=hl
     exact⟨⟨ρ₂,e2,o2,v1.trans v2⟩,d2.trans d1⟩
   | exit id =>
     cases h2
     refine⟨c1,l1,fun {ρ a w} bC Q hQ=>wp_mono (k1 bC) ?_⟩
     rintro e a₁ w₁ ⟨rfl,hl⟩
     exact hQ a₁ w₁ hl
   | ret =>
     cases h2
     refine⟨c1,l1,fun {ρ a w} bC Q hQ=>wp_mono (k1 bC) ?_⟩
     rintro e a₁ w₁ ⟨rfl,hl⟩
     exact hQ a₁ w₁ hl
theorem wM (hT:fD P N) {cP:Callee AV} (cH:gF P N cP) {lp:Nat->Option (St AV->T (Ex×St AV))} {nt L:Nat}:∀(c:Code),O7 P N nt c lp->∀(s s':St AV) (ex:Ex),(xc N cP lp nt c s).val=some (ex,s')->bH N s->L<=s.H.length ->
 bH N s' /\ L<=s'.H.length /\ ∀{ρ:Nm} {a:Act} {w:World},At N nt ρ s a w->c.wp P (fun e a' w'=>e=SN ex /\ oB N nt L ρ s w a s' a' w') a w
 | .skip,qd,s,s',ex,h,hcl,hH=>by
   simp only [xc,T.val,aaC,aaF] at h
   obtain⟨rfl,rfl⟩:=h
   exact⟨hcl,hH,fun {ρ a w} bC=>wp_skip ⟨rfl,⟨ρ,bC.em,bC.own,iZ.refl _ _ _ _⟩,rfl⟩⟩
 | .label l,qd,s,s',ex,h,hcl,hH=>by
   simp only [xc,T.val,aaC,aaF] at h
   obtain⟨rfl,rfl⟩:=h
   exact⟨hcl,hH,fun {ρ a w} bC=>wp_label ⟨rfl,⟨ρ,bC.em,bC.own,iZ.refl _ _ _ _⟩,rfl⟩⟩
 | .exit id,qd,s,s',ex,h,hcl,hH=>by
   simp only [xc,T.val,aaC,aaF] at h
   obtain⟨rfl,rfl⟩:=h
   exact⟨hcl,hH,fun {ρ a w} bC=>wp_exit ⟨rfl,⟨ρ,bC.em,bC.own,iZ.refl _ _ _ _⟩,rfl⟩⟩
 | .ret,qd,s,s',ex,h,hcl,hH=>by
   simp only [xc,T.val,aaC,aaF] at h
   obtain⟨rfl,rfl⟩:=h
   exact⟨hcl,hH,fun {ρ a w} bC=>wp_ret ⟨rfl,⟨ρ,bC.em,bC.own,iZ.refl _ _ _ _⟩,rfl⟩⟩
 | .region id bZ d,qd,s,s',ex,h,hcl,hH=>by
   simp only [xc,growH_eq] at h
   split at h
   ·cases h
   ·rename_i aq4
    have hd:=A0 aq4
    split at h
    ·-- in the order of the text
     obtain⟨m,h1,h2⟩:=T.bf h
     cases h2
     have hr:=fun ρ=>yD (nt:=nt) (L:=L) (ρ:=ρ) (fv bZ.toList) hcl
     have Hs:L<=(s.H++kr AV (fv bZ.toList)).length:=by simp;omega
     have wH:=(hr Nm.id).1
     have uO:=fun s₁ h1=>Dc (P:=P) (nt:=nt) hT cH bZ hH bZ.toList 0 _ s₁ h1 wH Hs hd
     have hA:=fun s' q h=>yu (N:=N) (cP:=cP) (base:=s.H.length) (all:=bZ.toList) ({s with H:=s.H++kr AV (fv bZ.toList)}:St AV) bZ.toList 0 [] true ({s with H:=s.H++kr AV (fv bZ.toList)}:St AV) s' q (Mq _) ⟨[],rfl⟩ (fun _=>rfl) h
     obtain⟨s₁,q₁,h1,Ju,hcm⟩:=Em wH h1 (fun s' q h=>⟨(uO s' (hA s' q h).1).1,(hA s' q h).2⟩)
     replace h1:=(hA s₁ q₁ h1).1
     obtain⟨c1,k1⟩:=uO s₁ h1
     refine⟨hcm,by rw [Ju.H];exact abL Hs (Bo _ _ _ _ h1),fun {ρ a w} bC=>?_⟩
     obtain⟨ag6,Zm⟩:=(hr ρ).2 bC
     refine wp_region_list (k1 ag6 fun a' w' hl=>⟨rfl,?_⟩)
     obtain⟨⟨ρ₁,e1,o1,v1⟩,d1⟩:=hl
     exact⟨⟨ρ₁,Ju.em e1,by rw [Ju.H];exact o1,by rw [Ju.H];exact Zm.trans v1⟩,d1⟩
    ·-- its order is open
     split at h
     ·cases h
     ·cases h
     ·rename_i hap hG
      obtain⟨m,h1,h2⟩:=T.bf h
      cases h2
      have hG:=adI hG
      have hr:=fun ρ=>yD (nt:=nt) (L:=L) (ρ:=ρ) (fv bZ.toList) hcl
      have Hs:L<=(s.H++kr AV (fv bZ.toList)).length:=by simp;omega
      have wH:=(hr Nm.id).1
      have uO:=fun s₁ h1=>KD (P:=P) (nt:=nt) (L:=L) (s':=s₁) hT cH bZ hap hH hG h1 wH Hs hd (by simp [GX])
      have hA:=fun s' q h=>wQ (N:=N) (cP:=cP) (base:=s.H.length) (all:=bZ.toList) ({s with H:=s.H++kr AV (fv bZ.toList)}:St AV) bZ.toList 0 [] [] true ({s with H:=s.H++kr AV (fv bZ.toList)}:St AV) s' q (Mq _) ⟨[],rfl⟩ (fun _=>rfl) h
      obtain⟨s₁,q₁,h1,Ju,hcm⟩:=Em wH h1 (fun s' q h=>⟨(uO s' (hA s' q h).1).1,(hA s' q h).2⟩)
      replace h1:=(hA s₁ q₁ h1).1
      obtain⟨c1,l1,k1⟩:=uO s₁ h1
      refine⟨hcm,by rw [Ju.H];exact l1,fun {ρ a w} bC=>?_⟩
      obtain⟨ag6,Zm⟩:=(hr ρ).2 bC
      refine k1 ag6 fun a' w' hl=>⟨rfl,?_⟩
      obtain⟨⟨ρ₁,e1,o1,v1⟩,d1⟩:=hl
      exact⟨⟨ρ₁,Ju.em e1,by rw [Ju.H];exact o1,by rw [Ju.H];exact Zm.trans v1⟩,d1⟩
 | .seq x y,qd,s,s',ex,h,hcl,hH=>by
   simp only [xc] at h
   obtain⟨⟨ex1,s₁⟩,h1,h2⟩:=T.bf h
   obtain⟨c1,l1,k1⟩:=wM hT cH (nt:=nt) (L:=L) x (fun i b hb=>qd i b (by simp only [cA,aec];exact .inl hb)) s s₁ ex1 h1 hcl hH
   cases ex1 with
   | normal =>
     simp only at h2
     obtain⟨c2,l2,k2⟩:=wM hT cH (nt:=nt) (L:=L) y (fun i b hb=>qd i b (by simp only [cA,aec];exact .inr hb)) s₁ s' ex h2 c1 l1
     refine⟨c2,l2,fun {ρ a w} bC=>wp_seq (wp_mono (k1 bC) ?_)⟩
     rintro e a₁ w₁ ⟨rfl,⟨⟨ρ₁,e1,o1,v1⟩,d1⟩⟩
     refine wp_mono (k2 ⟨e1,o1⟩) ?_
     rintro e a₂ w₂ ⟨rfl,⟨⟨ρ₂,e2,o2,v2⟩,d2⟩⟩
     exact⟨rfl,⟨ρ₂,e2,o2,v1.trans v2⟩,d2.trans d1⟩
   | exit id =>
     cases h2
     refine⟨c1,l1,fun {ρ a w} bC=>wp_seq (wp_mono (k1 bC) ?_)⟩
     rintro e a₁ w₁ ⟨rfl,hl⟩
     exact⟨rfl,hl⟩
   | ret =>
     cases h2
     refine⟨c1,l1,fun {ρ a w} bC=>wp_seq (wp_mono (k1 bC) ?_)⟩
     rintro e a₁ w₁ ⟨rfl,hl⟩
     exact⟨rfl,hl⟩
 | .cond c x y,qd,s,s',ex,h,hcl,hH=>by
   simp only [xc] at h
   split at h
   ·rename_i cc hc
    split at h
    ·rename_i t hb
     split at h
     ·obtain⟨c1,l1,k1⟩:=wM hT cH (nt:=nt) (L:=L) x (fun i b hb=>qd i b (by simp only [cA,aec];exact .inl hb)) s s' ex h hcl hH
      refine⟨c1,l1,fun {ρ a w} bC=>wp_cond_true ?_ (k1 bC)⟩
      exact((iU bC.em hcl bC.own.qW).aq _ _ hc).trans (ff ρ hb)
     ·obtain⟨c1,l1,k1⟩:=wM hT cH (nt:=nt) (L:=L) y (fun i b hb=>qd i b (by simp only [cA,aec];exact .inr hb)) s s' ex h hcl hH
      refine⟨c1,l1,fun {ρ a w} bC=>wp_cond_false ?_ (k1 bC)⟩
      exact((iU bC.em hcl bC.own.qW).aq _ _ hc).trans (ff ρ hb)
    ·rename_i t hb
     cases t with
     | true =>
       obtain⟨c1,l1,k1⟩:=wM hT cH (nt:=nt) (L:=L) x (fun i b hb=>qd i b (by simp only [cA,aec];exact .inl hb)) s s' ex h hcl hH
       refine⟨c1,l1,fun {ρ a w} bC=>wp_cond_true ?_ (k1 bC)⟩
       exact((iU bC.em hcl bC.own.qW).aq _ _ hc).trans (ff ρ hb)
     | false =>
       obtain⟨c1,l1,k1⟩:=wM hT cH (nt:=nt) (L:=L) y (fun i b hb=>qd i b (by simp only [cA,aec];exact .inr hb)) s s' ex h hcl hH
       refine⟨c1,l1,fun {ρ a w} bC=>wp_cond_false ?_ (k1 bC)⟩
       exact((iU bC.em hcl bC.own.qW).aq _ _ hc).trans (ff ρ hb)
    ·cases h
   ·cases h
 | .block id c,qd,s,s',ex,h,hcl,hH=>by
   simp only [xc] at h
   obtain⟨⟨ex1,s₁⟩,h1,h2⟩:=T.bf h
   obtain⟨c1,l1,k1⟩:=wM hT cH (nt:=nt) (L:=L) c (fun i b hb=>qd i b (by simpa [cA] using hb)) s s₁ ex1 h1 hcl hH
   cases ex1 with
   | normal =>
     cases h2
     refine⟨c1,l1,fun {ρ a w} bC=>wp_block (wp_mono (k1 bC) ?_)⟩
     rintro e a₁ w₁ ⟨rfl,hl⟩
     exact⟨rfl,hl⟩
   | ret =>
     cases h2
     refine⟨c1,l1,fun {ρ a w} bC=>wp_block (wp_mono (k1 bC) ?_)⟩
     rintro e a₁ w₁ ⟨rfl,hl⟩
     exact⟨rfl,hl⟩
   | exit j =>
     simp only at h2
     split at h2
     ·rename_i hj
      have hj:=(aC _ _).1 hj
      subst hj
      cases h2
      refine⟨c1,l1,fun {ρ a w} bC=>wp_block (wp_mono (k1 bC) ?_)⟩
      rintro e a₁ w₁ ⟨rfl,hl⟩
      show Exit.inBlock j _ (.exit j) a₁ w₁
      simp only [Exit.inBlock,if_true]
      exact⟨rfl,hl⟩
     ·rename_i hj
      have hj:=(bE _ _).1 hj
      cases h2
      refine⟨c1,l1,fun {ρ a w} bC=>wp_block (wp_mono (k1 bC) ?_)⟩
      rintro e a₁ w₁ ⟨rfl,hl⟩
      show Exit.inBlock id _ (.exit j) a₁ w₁
      simp only [Exit.inBlock,if_neg hj]
      exact⟨rfl,hl⟩
 | .loop c,qd,s,s',ex,h,hcl,hH=>by
   simp only [xc] at h
   split at h
   ·cases h
   ·rename_i id hid
    split at h
    ·rename_i g hg
     exact qd id c (by simp [cA,hid]) g hg L s s' ex h hcl hH
    ·obtain⟨c1,l1,k1⟩:=Gz (P:=P) (c:=c) (fun s s' ex h hcl hH=>wM hT cH (nt:=nt) (L:=L) c (fun i b hb=>qd i b (by simp [cA,hid,hb])) s s' ex h hcl hH) 3000 s s' ex h hcl hH
     exact⟨c1,l1,fun {ρ a w} bC=>wp_loop_rounds 3000 (k1 bC fun a' w' hl=>⟨rfl,hl⟩)⟩
 | .rangeFunc _ _ _ _,_,_,_,_,h,_,_=>by simp [xc,T.val] at h
 | .scope _,_,_,_,_,h,_,_=>by simp [xc,T.val] at h
 | .goto _,_,_,_,_,h,_,_=>by simp [xc,T.val] at h
 | .refuse _,_,_,_,_,h,_,_=>by simp [xc,T.val] at h
def Rnd (P:Program) (N:dV AV) (nt:Nat) (c:Code) (s:St AV) (ex:Ex) (s':St AV):Prop:=∀(L:Nat),bH N s->L<=s.H.length ->
 bH N s' /\ L<=s'.H.length /\ ∀{ρ:Nm} {a:Act} {w:World},At N nt ρ s a w->c.wp P (fun e a' w'=>e=SN ex /\ oB N nt L ρ s w a s' a' w') a w
theorem Vp (hT:fD P N) {cP:Callee AV} (cH:gF P N cP) {lp:Nat->Option (St AV->T (Ex×St AV))} {nt:Nat} {c:Code} (qd:O7 P N nt c lp) {s s':St AV} {ex:Ex} (h:(xc N cP lp nt c s).val=some (ex,s')):Rnd P N nt c s ex s' :=
 fun L hcl hH=>wM hT cH c qd s s' ex h hcl hH
theorem Dv (hT:fD P N) {s:St AV} (hcl:bH N s):∀{rs:List ResultVar} {l:List V1},(KR N s rs).val=some l ->
 (∀x∈l,jG s.H x) /\ ∀{ρ:Nm} {nt:Nat} {a:Act} {w:World},At N nt ρ s a w ->
   (rs.mapM (fun | .tmp t=>pure (a.tmps.getD t undef) | .cell c t=>do loadVar t (<- asAddr (a.tmps.getD c undef))):Sem (List Value)).run P w=.ok (l.map (V1.aq ρ)) w
 | [],l,h=>by
   simp only [KR,T.val,aaC] at h
   subst h
   exact⟨by simp,fun _=>by simp⟩
 | .tmp t::rs,l,h=>by
   simp only [KR] at h
   split at h
   ·rename_i x hx
    rw [T.fR] at h
    obtain⟨l',AM,rfl⟩:=abu.1 h
    obtain⟨c1,k1⟩:=Dv hT hcl AM
    refine⟨fun y hy=>?_,fun {ρ nt a w} bC=>?_⟩
    ·rcases abk.1 hy with rfl | hy
     ·have:=hcl.E t;rw [hx] at this;exact this
     ·exact c1 y hy
    ·have e1:=bC.em.get t (by rw [hx];simp)
     rw [hx] at e1
     have k2:=k1 bC
     simp only [List.mapM_cons,abA,abC,abz,k2,abv,e1,SV.aq]
   ·cases h
 | .cell c t::rs,l,h=>by
   simp only [KR] at h
   split at h
   ·rename_i n off hx
    split at h
    ·rename_i cs ty hn
     split at h
     ·rename_i x hp
      rw [T.fR] at h
      obtain⟨l',AM,rfl⟩:=abu.1 h
      obtain⟨c1,k1⟩:=Dv hT hcl AM
      refine⟨fun y hy=>?_,fun {ρ nt a w} bC=>?_⟩
      ·rcases abk.1 hy with rfl | hy
       ·exact jO hp (hcl.H n _ hn)
       ·exact c1 y hy
      ·have e1:=bC.em.get c (by rw [hx];simp)
       rw [hx] at e1
       have k2:=k1 bC
       have:=lW (ρ:=ρ) (w:=w) hT hp (ρ n) 0 (fun j c hc=>by rw [abJ];exact E6 bC.own hn j c hc)
       rw [abJ] at this
       have e2:a.tmps.getD c undef=.pointer (some ⟨ρ n,off,none⟩):=e1
       have e3:(asAddr (a.tmps.getD c undef)).run P w=.ok ⟨ρ n,off,none⟩ w:=by rw [e2];rfl
       simp only [List.mapM_cons,abA,e3,abC,abz,this,k2,abv]
     ·cases h
    ·cases h
   ·cases h
theorem rf (len:Nat) (R:List Nat):∀(H:Hp AV) (i n:Nat),(ae (wP len R i H) n=ae H n \/ (ae (wP len R i H) n=none /\ len<=i+n)) /\ (wP len R i H).length=H.length
 | [],i,n=>by simp [wP]
 | x::r,i,0=>by
   refine⟨?_,by simp [wP,(rf len R r (i+1) 0).2]⟩
   simp only [wP,ae]
   split
   ·exact .inl rfl
   ·rename_i du
    have:=(jo _ _).1 du
    split
    ·exact .inl rfl
    ·exact .inr ⟨rfl,by omega⟩
 | x::r,i,n+1=>by
   obtain⟨h1,h2⟩:=rf len R r (i+1) n
   refine⟨?_,by simp [wP,h2]⟩
   simp only [wP,ae]
   rcases h1 with h1 | ⟨h1,h3⟩
   ·exact .inl h1
   ·exact .inr ⟨h1,by omega⟩
theorem pA:∀(k:Nat) (H:Hp AV) (n:Nat),ae (C2 k H) n=ae H n /\ (k<=H.length->k<=(C2 k H).length)
 | 0,[],n=>by simp [C2]
 | 0,none::r,n=>by
   have ih:=pA 0 r
   simp only [C2]
   refine⟨?_,by simp⟩
   split
   ·rename_i he
    cases n with
    | zero=>simp [ae]
    | succ n=>have:=(ih n).1;rw [he] at this;simp only [ae] at this ⊢;exact this
   ·cases n with
    | zero=>simp [ae]
    | succ n=>simp only [ae];exact(ih n).1
 | 0,some c::r,n=>by
   simp only [C2]
   refine⟨?_,by simp⟩
   cases n with
   | zero=>simp [ae]
   | succ n=>simp only [ae];exact(pA 0 r n).1
 | k+1,[],n=>by simp [C2]
 | k+1,x::r,n=>by
   simp only [C2]
   refine⟨?_,fun h=>by simp at h ⊢;exact(pA k r 0).2 h⟩
   cases n with
   | zero=>simp [ae]
   | succ n=>simp only [ae];exact(pA k r n).1
theorem abI (len:Nat) (v:SV) (H:Hp AV) (hle:len<=H.length):(∀n c,ae (gcH len v H) n=some c->ae H n=some c) /\ (∀n,n < len->ae (gcH len v H) n=ae H n) /\ len<=(gcH len v H).length:=by
 unfold gcH
 generalize km H 400 (mu v++DX len H) []=R
 refine⟨fun n c h=>?_,fun n hn=>?_,?_⟩
 ·rw [(pA len _ n).1] at h
  rcases (rf len R H 0 n).1 with h1 | ⟨h1,_⟩
  ·rw [h1] at h;exact h
  ·rw [h1] at h;cases h
 ·rw [(pA len _ n).1]
  rcases (rf len R H 0 n).1 with h1 | ⟨_,h2⟩
  ·exact h1
  ·omega
 ·exact(pA len _ 0).2 (by rw [(rf len R H 0 0).2];exact hle)
theorem DF:∀(args:List SV) (n k:Nat),aF (pad n args) k=if n<=k then(args[k - n]?).getD dQ else dQ
 | [],n,k=>by simp [pad,aF]
 | x::r,n,k=>by
   simp only [pad,aF]
   by_cases h:n=k
   ·subst h;simp [agu]
   ·rw [(bE n k).2 h,DF r (n+1) k]
    by_cases h1:n+1<=k
    ·rw [if_pos h1,if_pos (by omega)]
     have:k - n=(k - (n+1))+1:=by omega
     rw [this,aex]
    ·rw [if_neg h1,if_neg (by omega)]
theorem VS (ρ:Nm) (l:List V1):(oP l).aq ρ=(if h:(l.map (V1.aq ρ)).toArray.size=1 then(l.map (V1.aq ρ)).toArray[0] else .tuple (l.map (V1.aq ρ)).toArray):=by
 match l with
 | []=>rfl
 | [x]=>simp [oP,SV.aq]
 | x::y::r=>simp [oP,SV.aq]
def fH (P:Program) (N:dV AV):Prop:=∀f fn c,N.ft.get f=some fn->fn.body=some c->O7 P N fn.ntmps c (N.lp f)
def cD (P:Program) (N:dV AV) (f:FuncId) (g:List SV->Hp AV->T (SV×Hp AV)):Prop :=
 ∀(args:List SV) (H:Hp AV) (v:SV) (H':Hp AV),(g args H).val=some (v,H')->(∀x∈args,fh H x)->dM N H ->
   fh H' v /\ dM N H' /\ ∀(ρ:Nm) (w:World),eZ N ρ H w ->
    Calls P f (args.map (SV.aq ρ)).toArray w fun e w'=>∃ρ',e=.returned (v.aq ρ') /\ eZ N ρ' H' w' /\ iZ N H.length ρ H w ρ' H' w'
theorem aae (hT:fD P N) (SE:fH P N) {cP:Callee AV} (cH:gF P N cP) (f:FuncId):cD P N f (afJ N cP f):=by
 intro args H v H' h bM hC
 unfold afJ at h
 split at h
 ·rename_i fn Zj
  obtain⟨k1,k2,k3⟩:=hT.fn f fn Zj
  split at h
  ·rename_i c hc
   split at h
   ·cases h
   ·rename_i ari
    have hle:args.length<=fn.ntmps:=adI ari
    obtain⟨⟨ex,s'⟩,h1,h2⟩:=T.bf h
    have hcl:bH N ({E:=pad 0 args,H:=H}:St AV):=by
     refine⟨fun k=>?_,hC.1⟩
     show fh H (aF (pad 0 args) k)
     rw [DF]
     simp only [adr,if_true,Nat.sub_zero]
     cases hk:args[k]? with
     | none=>exact mf H
     | some x=>exact bM x (ab8 hk)
    obtain⟨c1,l1,wp1⟩:=wM (P:=P) (nt:=fn.ntmps) (L:=H.length) hT cH c (SE f fn c Zj hc) _ s' ex h1 hcl (abV _)
    have h2':((KR N s' fn.results.toList).bind fun l=>match gcH H.length (oP l) s'.H with
     | H'=>match QN H' (oP l) with
       | false=>T.fail "result: names"
       | true=>match p6 H' H' with
         | false=>.fail "result: heap"
         | true=>.aE (oP l,H')).val=some (v,H') /\ ∀id,ex≠.exit id:=by
     cases ex with
     | exit id=>cases h2
     | normal=>exact⟨h2,by simp⟩
     | ret=>exact⟨h2,by simp⟩
    obtain⟨h2,hex⟩:=h2'
    obtain⟨l,hl,h3⟩:=T.bf h2
    simp only at h3
    split at h3
    ·cases h3
    ·rename_i hcv
     split at h3
     ·cases h3
     ·rename_i hch
      cases h3
      obtain⟨g1,g2,g3⟩:=abI H.length (oP l) s'.H l1
      have hC':dM N (gcH H.length (oP l) s'.H):=by
       exact⟨jh.1 hch,trivial⟩
      refine⟨wm.1 hcv,hC',fun ρ w hO=>?_⟩
      obtain⟨_,apF⟩:=Dv (P:=P) hT c1 hl
      refine calls_of_wp k1 hc (wp_mono (wp1 (ρ:=ρ) ⟨⟨?_,?_⟩,hO⟩) ?_)
      ·simp;omega
      ·intro k _
       show _=(aF (pad 0 args) k).aq ρ
       rw [DF]
       simp only [adr,if_true,Nat.sub_zero]
       rw [Array.getD_eq_getD_getElem?,Array.getElem?_append]
       split
       ·rename_i hk
        simp at hk
        simp [hk]
       ·rename_i hk
        simp at hk
        rw [List.getElem?_eq_none hk]
        simp only [Option.getD_none,dQ,SV.aq,aeU]
        rw [Array.getElem?_replicate]
        split<;>rfl
      ·rintro e a' w' ⟨rfl,⟨⟨ρ',e1,o1,v1⟩,d1⟩⟩
       have abp:=apF (ρ:=ρ') (w:=w') ⟨e1,o1⟩
       have LP:(results fn a'.tmps).run P w'=.ok ((oP l).aq ρ') w':=by
        unfold results
        rw [<- afe (xs:=fn.results),List.mapM_toArray]
        simp only [abA,Sem.run_map,abC]
        erw [abp]
        rw [VS]
        rfl
       have final:Ending.returned ((oP l).aq ρ')=.returned ((oP l).aq ρ') /\ eZ N ρ' (gcH H.length (oP l) s'.H) w' /\ iZ N H.length ρ H w ρ' (gcH H.length (oP l) s'.H) w':=by
        refine⟨rfl,o1.sub ⟨fun n c h=>o1.q n c (g1 n c h),fun n m c d tH h h'=>o1.qz n m c d tH (g1 n c h) (g1 m d h'),o1.qW⟩ (fun n c k h hk=>⟨n,c,g1 n c h,hk⟩),?_⟩
        exact⟨fun n c h=>by obtain⟨c',nC⟩:=v1.dw n c h;exact⟨c',by rw [g2 n (bQ h)];exact nC⟩,v1.jV,fun n hn h=>by rw [g2 n hn];exact v1.GY n hn h,g3,v1.mE,fun n c k h hk=>v1.new n c k (g1 n c h) hk,v1.os,v1.tape,v1.output,v1.size⟩
       cases ex with
       | exit id=>exact absurd rfl (hex id)
       | normal=>exact⟨d1,_,LP,ρ',final⟩
       | ret=>exact⟨d1,_,LP,ρ',final⟩
  ·cases h
 ·cases h
def dB (P:Program) (N:dV AV) (tab:FuncId->Option (List SV->Hp AV->T (SV×Hp AV))):Prop :=
 ∀f g,tab f=some g->cD P N f g
def Tp (P:Program) (N:dV AV):Prop:=∀o,∀(args:List SV) (H:Hp AV) (v:SV) (H':Hp AV),(N.hv o args H).val=some (v,H')->(∀x∈args,fh H x)->dM N H ->
    fh H' v /\ dM N H' /\ ∀(ρ:Nm) (w:World),eZ N ρ H w ->
     J0 P (.op o) (args.map (SV.aq ρ)) w fun e w'=>∃ρ',e=v.aq ρ' /\ eZ N ρ' H' w' /\ iZ N H.length ρ H w ρ' H' w'
theorem cD.ahM {f:FuncId} {g:List SV->Hp AV->T (SV×Hp AV)} (h:cD P N f g) (args:List SV) (H:Hp AV) (v:SV) (H':Hp AV) (hr:(g args H).val=some (v,H')) (ha:∀x∈args,fh H x) (hC:dM N H) :
 fh H' v /\ dM N H' /\ ∀(ρ:Nm) (w:World),eZ N ρ H w ->
  J0 P (.fn f) (args.map (SV.aq ρ)) w fun e w'=>∃ρ',e=v.aq ρ' /\ eZ N ρ' H' w' /\ iZ N H.length ρ H w ρ' H' w':=by
 obtain⟨h1,h2,h3⟩:=h args H v H' hr ha hC
 refine⟨h1,h2,fun ρ w hO=>Calls.mono (h3 ρ w hO) ?_⟩
 rintro e w' ⟨ρ',rfl,hk⟩
 exact⟨_,rfl,ρ',rfl,hk⟩
theorem ox (H:Hp AV) {len:Nat}:∀{t:T (SV×Hp AV)} {n:Option Bool} {v:SV},oH len t=some (n,v)->uC n ->
 ∃r,t.val=some r /\ r.2.length=len /\ (v=.lE \/ (∀ρ:Nm,v.aq ρ=r.1.aq ρ))
 | .aE r,n,v,h,hn=>by
   simp only [oH] at h
   split at h
   ·rename_i hl
    cases h
    exact⟨r,rfl,(aC _ _).1 hl,.inr fun _=>rfl⟩
   ·cases h
 | .aJ b t,n,v,h,hn=>by
   simp only [oH] at h
   split at h
   ·rename_i v' ht
    cases h
    have hb:b=true:=hn
    subst hb
    obtain⟨r,a1,a2,a3⟩:=ox H ht trivial
    exact⟨r,a1,a2,a3⟩
   ·rename_i m v' ht
    cases h
    cases b with
    | false=>cases hn
    | true =>
      obtain⟨r,a1,a2,a3⟩:=ox H ht hn
      exact⟨r,a1,a2,a3⟩
   ·cases h
 | .ite b t e,n,v,h,hn=>by
   have key:∀(n1 n2:Option Bool) (v1 v2:SV),oH len t=some (n1,v1)->oH len e=some (n2,v2)->(b=true->uC n1)->(b=false->uC n2)->v=sZ b v1 v2 ->
    ∃r,(T.ite b t e).val=some r /\ r.2.length=len /\ (v=.lE \/ (∀ρ:Nm,v.aq ρ=r.1.aq ρ)):=by
    intro n1 n2 v1 v2 h1 h2 ht he hv
    have hj:=(xF H b v1 v2).2
    rw [<- hv] at hj
    cases b with
    | true =>
      obtain⟨r,a1,a2,a3⟩:=ox H h1 (ht rfl)
      refine⟨r,a1,a2,?_⟩
      rcases hj with hj | ⟨j1,_,j3⟩
      ·exact .inl hj
      ·rcases a3 with a3 | a3
       ·exact absurd a3 j1
       ·exact .inr fun ρ=>(j3 ρ).trans (a3 ρ)
    | false =>
      obtain⟨r,a1,a2,a3⟩:=ox H h2 (he rfl)
      refine⟨r,a1,a2,?_⟩
      rcases hj with hj | ⟨j1,_,j3⟩
      ·exact .inl hj
      ·rcases a3 with a3 | a3
       ·exact absurd a3 j1
       ·exact .inr fun ρ=>(j3 ρ).trans (a3 ρ)
   simp only [oH] at h
   split at h
   ·rename_i v1 v2 h1 h2
    cases h
    exact key none none v1 v2 h1 h2 (fun _=>trivial) (fun _=>trivial) rfl
   ·rename_i n1 v1 v2 h1 h2
    cases h
    exact key (some n1) none v1 v2 h1 h2 (fun hb=>by subst hb;exact hn) (fun _=>trivial) rfl
   ·rename_i v1 n2 v2 h1 h2
    cases h
    exact key none (some n2) v1 v2 h1 h2 (fun _=>trivial) (fun hb=>by subst hb;exact hn) rfl
   ·rename_i n1 v1 n2 v2 h1 h2
    cases h
    exact key (some n1) (some n2) v1 v2 h1 h2 (fun hb=>by subst hb;exact hn) (fun hb=>by subst hb;exact hn) rfl
   ·cases h
 | .fail _,_,_,h,_=>by simp [oH] at h
theorem vb:∀{A:Hp AV},zA A=true->∀n,ae A n=none
 | [],_,n=>by simp [ae]
 | none::r,h,0=>by simp [ae]
 | none::r,h,n+1=>by simp only [zA] at h;simp only [ae];exact vb h n
 | some _::r,h,_=>by simp [zA] at h
theorem none_eq:∀{A B:Hp AV},(∀n,ae A n=none)->(∀n,ae B n=none)->A.length=B.length->A=B
 | [],[],_,_,_=>rfl
 | [],_::_,_,_,h=>by simp at h
 | _::_,[],_,_,h=>by simp at h
 | x::r,y::q,h1,h2,hl=>by
   have e1:x=none:=h1 0
   have e2:y=none:=h2 0
   rw [e1,e2,none_eq (fun n=>h1 (n+1)) (fun n=>h2 (n+1)) (by simpa using hl)]
theorem dj {cP:Callee AV} (cH:gF P N cP):gF P N (bs cP):=by
 intro f args A v A' h bM hC
 unfold bs at h
 split at h
 ·exact cH f args A v A' h bM hC
 ·rename_i aeh
  have main:∀(n:Option Bool) (u:SV),oH A.length (cP f args A)=some (n,u)->uC n->ad3 u=false->QN A u=true->fh A u /\ dM N A /\ ∀(ρ:Nm) (w:World),eZ N ρ A w ->
   J0 P f (args.map (SV.aq ρ)) w fun e w'=>∃ρ',e=u.aq ρ' /\ eZ N ρ' A w' /\ iZ N A.length ρ A w ρ' A w':=by
   intro n u hj hn hu hcv
   obtain⟨⟨v0,B⟩,hr,hlen,hv⟩:=ox A hj hn
   obtain⟨c1,c2,k⟩:=cH f args A v0 B hr bM hC
   have hv:∀ρ:Nm,u.aq ρ=v0.aq ρ:=by
    rcases hv with hv | hv
    ·rw [hv] at hu;cases hu
    ·exact hv
   refine⟨wm.1 hcv,hC,fun ρ w hO=>(k ρ w hO).mono ?_⟩
   rintro e w' ⟨ρ',rfl,LZ,M3⟩
   have hB:B=A:=by
    refine none_eq (fun n=>?_) (vb aeh) hlen
    rcases Nat.lt_or_ge n A.length with h | h
    ·exact M3.GY n h (vb aeh n)
    ·cases hb:ae B n with
     | none=>rfl
     | some c=>have:=bQ hb;simp only at hlen;omega
   subst hB
   exact⟨ρ',by rw [hv ρ'],LZ,M3⟩
  split at h
  ·rename_i r hr
   exact cH f args A v A' (by rw [hr];exact h) bM hC
  ·split at h
   ·rename_i n u hj
    split at h
    ·exact cH f args A v A' h bM hC
    ·rename_i hu
     split at h
     ·rename_i hcv hp
      split at h
      ·simp only [T.val,aaC,aaF] at h
       obtain⟨rfl,rfl⟩:=h
       exact main none u hj trivial hu hcv
      ·rename_i b
       obtain⟨hb,h⟩:=fN h
       simp only [T.val,aaC,aaF] at h
       obtain⟨rfl,rfl⟩:=h
       exact main (some b) u hj hb hu hcv
     ·exact cH f args A v A' h bM hC
   ·exact cH f args A v A' h bM hC
theorem my (hT:fD P N) (SE:fH P N) (hhv:Tp P N) {tab:FuncId->Option (List SV->Hp AV->T (SV×Hp AV))} (Xj:dB P N tab):∀n,gF P N (lv N tab n)
 | 0=>by
   intro f args H v H' h
   simp only [lv] at h
   cases f with
   | op o=>exact hhv o args H v H' h
   | fn f =>
     simp only at h
     cases ht:tab f with
     | none=>simp [ht,T.val] at h
     | some g=>simp only [ht] at h;exact(Xj f g ht).ahM args H v H' h
 | n+1=>by
   intro f args H v H' h
   simp only [lv] at h
   cases f with
   | op o=>exact hhv o args H v H' h
   | fn f =>
     simp only at h
     cases ht:tab f with
     | none =>
       simp only [ht] at h
       exact(aae hT SE (dj (my hT SE hhv Xj n)) f).ahM args H v H' h
     | some g =>
       simp only [ht] at h
       exact(Xj f g ht).ahM args H v H' h
theorem adW (hT:fD P N) (SE:fH P N) (hhv:Tp P N) {tab:FuncId->Option (List SV->Hp AV->T (SV×Hp AV))} (Xj:dB P N tab) (n:Nat) (f:FuncId):cD P N f (lv N tab n (.fn f)):=by
 intro args H v H' h ha hC
 obtain⟨h1,h2,h3⟩:=my hT SE hhv Xj n (.fn f) args H v H' h ha hC
 refine⟨h1,h2,fun ρ w hO=>Calls.mono (h3 ρ w hO) ?_⟩
 rintro e w' ⟨_,rfl,ρ',rfl,hk⟩
 exact⟨ρ',rfl,hk⟩
end
section
variable {AV:Type} {P:Program} {N:dV AV}
def T.bool:T (SV×Hp AV)->Bool
 | .aE r=>match r.1 with
   | .v (.c c)=>match kX c with
     | some (b,_)=>b
     | none=>false
   | _=>false
 | .ite b t e=>match b with | true=>t.bool | false=>e.bool
 | .aJ b t=>match b with | true=>t.bool | false=>false
 | .fail _=>false
structure vh (w w':World):Prop where
 block:∀k,k < w.heap.size->w'.heap[k]?=w.heap[k]?
 os:w'.os=w.os
 tape:w'.tape=w.tape
 output:w'.output=w.output
 size:w.heap.size<=w'.heap.size
def tm:SV->Prop
 | .v x=>∀c∈x.cells,c.name=none
 | .ji l=>∀x∈l,∀c∈x.cells,c.name=none
 | .lE=>True
 | .wJ _ l=>∀c∈l,c.name=none
theorem tm.cl {v:SV} (h:tm v) (H:Hp AV):fh H v:=by
 cases v with
 | v x=>exact iz h
 | ji l=>exact fun x hx=>iz (h x hx)
 | lE=>trivial
 | wJ f l=>exact iz h
theorem tm.aq {v:SV} (h:tm v) (ρ ρ':Nm):v.aq ρ'=v.aq ρ:=SV.b4 (H:=([]:Hp Unit)) (h.cl _) (fun n c hc=>by simp [ae] at hc)
end
section
variable {AV:Type} {P:Program} {N:dV AV}
structure Fr (S S':Nat->Prop) (w w':World):Prop where
 mE:∀k,k < w.heap.size->¬S k->w'.heap[k]?=w.heap[k]?
 new:∀k,S' k->w.heap.size<=k \/ S k
 os:w'.os=w.os
 tape:w'.tape=w.tape
 output:w'.output=w.output
 size:w.heap.size<=w'.heap.size
theorem vh.fr {w w':World} (h:vh w w') (S:Nat->Prop):Fr S S w w' :=
 ⟨fun k hk _=>h.block k hk,fun _ hk=>.inr hk,h.os,h.tape,h.output,h.size⟩
structure acN (s t:St AV):Prop where
 H:t.H=s.H
 E:∀k,aF t.E k=.lE \/ aF t.E k=aF s.E k
theorem acN.at {s t:St AV} (h:acN s t) {nt:Nat} {ρ:Nm} {a:Act} {w:World} (ha:At N nt ρ s a w):At N nt ρ t a w:=by
 refine⟨⟨ha.em.size,fun k hk=>?_⟩,by rw [h.H];exact ha.own⟩
 rcases h.E k with e | e
 ·exact absurd e hk
 ·rw [e] at hk ⊢
  exact ha.em.get k hk
theorem acN.closed {s t:St AV} (h:acN s t) (hc:bH N s):bH N t:=by
 refine⟨fun k=>?_,by rw [h.H];exact hc.H⟩
 rcases h.E k with e | e
 ·rw [e];trivial
 ·rw [e,h.H];exact hc.E k
def only (ks:List Nat) (E:Ev):Nat->Ev
 | 0=>[]
 | k+1=>(k,match nD ks k with | true=>aF E k | false=>.lE)::only ks E k
theorem iF (ks:List Nat) (E:Ev):∀(n k:Nat),aF (only ks E n) k=if k < n then(match nD ks k with | true=>aF E k | false=>.lE) else dQ
 | 0,k=>by simp [only,aF]
 | n+1,k=>by
   simp only [only,aF]
   by_cases h:n=k
   ·subst h;simp [agu]
   ·rw [(bE n k).2 h,iF ks E n k]
    by_cases h1:k < n
    ·rw [if_pos h1,if_pos (by omega)]
    ·rw [if_neg h1,if_neg (by omega)]
end
section
variable {AV:Type}
theorem akN {N N':dV AV} (hF:N'.F=N.F) {ρ:Nm} {n:Nat} {w:World} {c:aG AV} (h:c.q N ρ n w):c.q N' ρ n w:=by
 cases c with
 | cells l t=>exact h
 | kD l e t=>exact h
 | j8=>trivial
 | bI a=>show N'.F.q _ _ _ _;rw [hF];exact h
theorem nO {N N':dV AV} (hF:N'.F=N.F) (hG:N'.G=N.G) {ρ:Nm} {H:Hp AV} {w:World} (h:eZ N ρ H w):eZ N' ρ H w :=
 ⟨⟨fun n c hc=>akN hF (h.q n c hc),h.qz,by rw [hG];exact h.qW⟩,by unfold anO;rw [hF];exact h.ro⟩
theorem zf {N:dV AV} (N':dV AV) {L:Nat} {ρ ρ':Nm} {H H':Hp AV} {w w':World} (h:iZ N L ρ H w ρ' H' w'):iZ N' L ρ H w ρ' H' w' :=
 ⟨h.dw,h.jV,h.GY,h.len,h.mE,h.new,h.os,h.tape,h.output,h.size⟩
theorem sM {N:dV AV} (N':dV AV) {s:St AV} (h:bH N s):bH N' s:=⟨h.E,h.H⟩
def Tn (nt:Nat) (E E':Ev):Prop:=(∀k,k < nt->aF E' k=.lE \/ aF E' k=aF E k \/ (aF E k≠.lE /\ tm (aF E' k) /\ ∀ρ,(aF E' k).aq ρ=(aF E k).aq ρ)) /\ ∀k,nt<=k->aF E' k=dQ
theorem Tn.em {nt:Nat} {E E':Ev} (h:Tn nt E E') {ρ:Nm} {a:Act} (he:EM ρ nt E a):EM ρ nt E' a:=by
 refine⟨he.size,fun k hk=>?_⟩
 rcases Nat.lt_or_ge k nt with du | FI
 ·rcases h.1 k du with e | e | ⟨e1,_,e2⟩
  ·exact absurd e hk
  ·rw [e] at hk ⊢
   exact he.get k hk
  ·rw [e2];exact he.get k e1
 ·rw [h.2 k FI]
  have:a.tmps[k]?=none:=by rw [Array.getElem?_eq_none];rw [he.size];exact FI
  simp [Array.getD_eq_getD_getElem?,this,dQ,SV.aq,undef]
theorem Tn.closed {N N':dV AV} {nt:Nat} {E E':Ev} (h:Tn nt E E') {H:Hp AV} (hc:bH N {E:=E,H:=H}):bH N' {E:=E',H:=H}:=by
 refine⟨fun k=>?_,hc.H⟩
 rcases Nat.lt_or_ge k nt with du | FI
 ·rcases h.1 k du with e | e | ⟨_,e,_⟩
  ·simp only [e];trivial
  ·simp only [e];exact hc.E k
  ·exact e.cl _
 ·simp only [h.2 k FI];exact mf _
end
section
variable {AV:Type} {P:Program} {N:dV AV}
theorem LV (H:Hp AV) (c:aG AV) (n:Nat):ae (H++[some c]) n=if n=H.length then some c else ae H n:=by
 induction H generalizing n with
 | nil=>cases n<;>simp [ae]
 | cons x r ih =>
   cases n with
   | zero=>simp [ae]
   | succ n=>simp only [adF,ae,ih n,abn,Nat.add_right_cancel_iff]
def fG (H:Hp AV):Option Nat->Hp AV
 | none=>H
 | some n=>cV H n (some .j8)
theorem Ei (H:Hp AV) (d:Option Nat):(fG H d).length=H.length:=by cases d<;>simp [fG,ec]
theorem DG {ρ:Nm} {H:Hp AV} {w w':World} (hO:eZ N ρ H w) (hC:dM N H) (hG:N.G<=H.length) {d:Option Nat} {ck:aG AV} (hd:∀n,d=some n->∃c,ae H n=some c) (hck:mL H ck.cellsOf) {lc:l8} {S:Nat->Prop}
 (hfr:∀k,k < w.heap.size->(∀n c,d=some n->ae H n=some c->¬c.fp ρ n k)->w'.heap[k]?=w.heap[k]?) (hos:w'.os=w.os) (htp:w'.tape=w.tape) (Xq:w'.output=w.output) (sD:w.heap.size<=w'.heap.size)
 (hq:ck.q N (ρ.set H.length lc S) H.length w') (Zi:∀k,ck.fp (ρ.set H.length lc S) H.length k->w.heap.size<=k \/ ∃n c,d=some n /\ ae H n=some c /\ c.fp ρ n k) :
 eZ N (ρ.set H.length lc S) (fG H d++[some ck]) w' /\ iZ N H.length ρ H w (ρ.set H.length lc S) (fG H d++[some ck]) w' /\ dM N (fG H d++[some ck]):=by
 have XA:∀n,ae (fG H d++[some ck]) n=if n=H.length then some ck else if d=some n then some .j8 else ae H n:=fun n=>by
  rw [LV,Ei]
  by_cases e:n=H.length
  ·rw [if_pos e,if_pos e]
  ·rw [if_neg e,if_neg e]
   cases d with
   | none=>simp [fG]
   | some m =>
     obtain⟨c,hc⟩:=hd m rfl
     by_cases e':m=n
     ·subst e';simp [fG,cg _ (bQ hc)]
     ·have:¬(some m=some n):=fun h=>e' (agM h)
      rw [if_neg this];simp only [fG,bp _ e']
 have dA:∀n c,ae H n=some c->n≠H.length:=fun n c h e=>by have:=bQ h;omega
 have wI:∀n c,ae H n=some c->(ρ.set H.length lc S).L n=ρ.L n:=fun n c h=>(ρ.qE lc S (dA n c h)).1
 have Ey:∀n c,ae H n=some c->(ρ.set H.length lc S).S n=ρ.S n:=fun n c h=>(ρ.qE lc S (dA n c h)).2
 have dw:∀n c,ae H n=some c->∃c',ae (fG H d++[some ck]) n=some c':=fun n c h=>by
  rw [XA,if_neg (dA n c h)]
  by_cases e:d=some n
  ·exact⟨_,if_pos e⟩
  ·exact⟨c,by rw [if_neg e];exact h⟩
 have Be:∀n c,ae (fG H d++[some ck]) n=some c->(n=H.length /\ c=ck) \/ (c=.j8) \/ (n≠H.length /\ d≠some n /\ ae H n=some c):=fun n c h=>by
  rw [XA] at h
  by_cases e:n=H.length
  ·rw [if_pos e] at h;exact .inl ⟨e,(agM h).symm⟩
  ·rw [if_neg e] at h
   by_cases e':d=some n
   ·rw [if_pos e'] at h;exact .inr (.inl (agM h).symm)
   ·rw [if_neg e'] at h;exact .inr (.inr ⟨e,e',h⟩)
 have Sr:∀n c k,d≠some n->ae H n=some c->c.fp ρ n k->w'.heap[k]?=w.heap[k]?:=fun n c k hn hc hk =>
  hfr k (hO.lt hc hk) fun m x hm hx hf=>hO.qz n m c x (fun e=>hn (by rw [hm,e])) hc hx k hk hf
 refine hO.up3 ⟨⟨?_,?_,?_⟩,⟨dw,wI,?_,?_,?_,?_,hos,htp,Xq,sD⟩,?_,trivial⟩
 ·intro n c hc
  rcases Be n c hc with⟨rfl,rfl⟩ | rfl | ⟨_,hn,h⟩
  ·exact hq
  ·trivial
  ·exact oF (hO.q n c h) (wI n c h) (Ey n c h) (dF (hC.1 n c h) wI) (fun k hk=>Sr n c k hn h hk)
 ·intro n m c x tH hc hx k hk dW
  rcases Be n c hc with⟨rfl,rfl⟩ | rfl | ⟨_,hn,h⟩
  ·rcases Be m x hx with⟨rfl,_⟩ | rfl | ⟨_,hm,h'⟩
   ·exact tH rfl
   ·exact dW
   ·rw [cQ (wI m x h') (Ey m x h')] at dW
    rcases Zi k hk with h1 | ⟨n0,c0,hd0,wH,hk0⟩
    ·have:=hO.lt h' dW;omega
    ·exact hO.qz m n0 x c0 (fun e=>hm (by rw [hd0,e])) h' wH k dW hk0
  ·exact hk
  ·rw [cQ (wI n c h) (Ey n c h)] at hk
   rcases Be m x hx with⟨rfl,rfl⟩ | rfl | ⟨_,hm,h'⟩
   ·rcases Zi k dW with h1 | ⟨n0,c0,hd0,wH,hk0⟩
    ·have:=hO.lt h hk;omega
    ·exact hO.qz n n0 c c0 (fun e=>hn (by rw [hd0,e])) h wH k hk hk0
   ·exact dW
   ·rw [cQ (wI m x h') (Ey m x h')] at dW
    exact hO.qz n m c x tH h h' k hk dW
 ·intro g hg
  have:g≠H.length:=by omega
  have h2:=(ρ.qE lc S this).1
  simp only [Nm.f,h2]
  exact hO.qW g hg
 ·intro n hn hh
  rw [XA,if_neg (by omega)]
  have:d≠some n:=fun e=>by obtain⟨c,hc⟩:=hd n e;rw [hc] at hh;cases hh
  rw [if_neg this];exact hh
 ·simp [Ei]
 ·intro k hk tC
  exact hfr k hk fun n c _ hc hf=>tC n c hc hf
 ·intro n c k hc hk
  rcases Be n c hc with⟨rfl,rfl⟩ | rfl | ⟨_,_,h⟩
  ·rcases Zi k hk with h1 | ⟨n0,c0,_,wH,hk0⟩
   ·exact .inl h1
   ·exact .inr ⟨n0,c0,wH,hk0⟩
  ·exact hk.elim
  ·rw [cQ (wI n c h) (Ey n c h)] at hk
   exact .inr ⟨n,c,h,hk⟩
 ·intro n x hc
  rcases Be n x hc with⟨rfl,rfl⟩ | rfl | ⟨_,_,h⟩
  ·exact hck.mono dw
  ·intro c hc;cases hc
  ·exact(hC.1 n x h).mono dw
