import Derived.Test.YtadmfaohjnjajaaGreatDoorSxL
import Derived.LoopN
set_option linter.unusedVariables false
set_option linter.unusedSimpArgs false
set_option maxHeartbeats 4000000
namespace Go.Sx
section
variable {AV:Type} {P:Program} {N:Env AV}
def IJ:Ex->Exit
 | .normal=>.normal
 | .exit id=>.exit id
 | .ret=>.ret
theorem ua {nt:Nat}:∀{l:List Oper},yf nt l=true->∀o∈l,∀d,o.dst=some d->d < nt
 | [],_,o,ho,_,_=>by cases ho
 | o::r,h,o',ho,d,hd=>by
   simp only [yf] at h
   cases hod:o.dst with
   | none =>
     simp only [hod] at h
     rcases List.mem_cons.1 ho with rfl | ho
     ·rw [hod] at hd;cases hd
     ·exact ua h o' ho d hd
   | some d' =>
     simp only [hod] at h
     split at h
     ·rename_i hlt
      rcases List.mem_cons.1 ho with rfl | ho
      ·rw [hod] at hd;cases hd;exact(cO _ _).1 hlt
      ·exact ua h o' ho d hd
     ·cases h
theorem room {nt L:Nat} {ρ:Nm} {s:St AV} (k:Nat) (hcl:Closed N s):Closed N {s with H:=s.H++fY AV k} /\
 ∀{a:Act} {w:World},At N nt ρ s a w->At N nt ρ {s with H:=s.H++fY AV k} a w /\ Evo N L ρ s.H w ρ (s.H++fY AV k) w:=by
 have hg:∀n,ab (s.H++fY AV k) n=ab s.H n:=EY s.H k
 have up:∀n c,ab s.H n=some c->∃c',ab (s.H++fY AV k) n=some c':=fun n c h=>⟨c,by rw [hg];exact h⟩
 refine⟨⟨fun k'=>(hcl.E k').mono up,fun n x h=>(hcl.H n x (by rw [<- hg n];exact h)).mono up⟩,fun {a w} hat=>⟨⟨hat.em,?_⟩,?_⟩⟩
 ·exact hat.own.sub ⟨fun n c h=>hat.own.q n c (by rw [<- hg n];exact h),fun n m c d hnm h h'=>hat.own.dis n m c d hnm (by rw [<- hg n];exact h) (by rw [<- hg m];exact h'),hat.own.glb⟩ fun n c k h hk=>⟨n,c,by rw [<- hg n];exact h,hk⟩
 ·refine⟨up,fun _ _ _=>rfl,fun n _ h=>by rw [hg];exact h,by simp,fun _ _ _=>rfl,fun n c k h hk=>.inr ⟨n,c,by rw [<- hg n];exact h,hk⟩,rfl,rfl,rfl,Nat.le_refl _⟩
def bx:Code->List (Nat×Code)
 | .seq a b=>bx a++bx b
 | .cond _ a b=>bx a++bx b
 | .block _ c=>bx c
 | .loop c=>match oH c with
   | some id=>(id,c)::bx c
   | none=>bx c
 | _=>[]
def dG (P:Program) (N:Env AV) (nt:Nat) (c:Code) (g:St AV->T (Ex×St AV)):Prop :=
 ∀(L:Nat) (s s':St AV) (ex:Ex),(g s).val=some (ex,s')->Closed N s->L<=s.H.length ->
   Closed N s' /\ L<=s'.H.length /\ ∀{ρ:Nm} {a:Act} {w:World},At N nt ρ s a w->(Code.loop c).wp P (fun e a' w'=>e=IJ ex /\ Lands N nt L ρ s w a s' a' w') a w
def FE (P:Program) (N:Env AV) (nt:Nat) (c:Code) (lp:Nat->Option (St AV->T (Ex×St AV))):Prop :=
 ∀id b,(id,b)∈bx c->∀g,lp id=some g->dG P N nt b g
theorem sJ (E:Ev):∀(n k:Nat),look (DZ E n) k=if k < n then look E k else bV
 | 0,k=>by simp [DZ,look]
 | n+1,k=>by
   simp only [DZ,look]
   by_cases h:n=k
   ·subst h;simp [Nat.beq_refl]
   ·rw [(aR n k).2 h,sJ E n k]
    by_cases h1:k < n
    ·rw [if_pos h1,if_pos (by omega)]
    ·rw [if_neg h1,if_neg (by omega)]
theorem Ot {nt:Nat} {ρ:Nm} {s:St AV} {a:Act} {w:World} (h:At N nt ρ s a w):At N nt ρ {s with E:=DZ s.E nt} a w:=by
 refine⟨⟨h.em.size,fun k hk=>?_⟩,h.own⟩
 simp only [sJ] at hk ⊢
 split
 ·rename_i hl
  rw [if_pos hl] at hk
  exact h.em.get k hk
 ·rename_i hl
  have:a.tmps[k]?=none:=by rw [Array.getElem?_eq_none];rw [h.em.size];omega
  simp [Array.getD_eq_getD_getElem?,this,bV,SV.den,undef]
theorem Oq {nt:Nat} {s:St AV} (h:Closed N s):Closed N {s with E:=DZ s.E nt}:=by
 refine⟨fun k=>?_,h.H⟩
 simp only [sJ]
 split
 ·exact h.E k
 ·exact hD _
theorem zc {nt L:Nat} {c:Code} {f:St AV->T (Ex×St AV)}
 (hf:∀(s s':St AV) (ex:Ex),(f s).val=some (ex,s')->Closed N s->L<=s.H.length->Closed N s' /\ L<=s'.H.length /\ ∀{ρ:Nm} {a:Act} {w:World},At N nt ρ s a w->c.wp P (fun e a' w'=>e=IJ ex /\ Lands N nt L ρ s w a s' a' w') a w) :
 ∀(n:Nat) (s s':St AV) (ex:Ex),(rounds nt f n s).val=some (ex,s')->Closed N s->L<=s.H.length ->
   Closed N s' /\ L<=s'.H.length /\ ∀{ρ:Nm} {a:Act} {w:World},At N nt ρ s a w->∀{Q:Exit->Act->World->Prop},(∀a' w',Lands N nt L ρ s w a s' a' w'->Q (IJ ex) a' w')->Code.rounds P c Q n a w
 | 0,s,s',ex,h,_,_=>by simp [rounds,T.val] at h
 | n+1,s,s',ex,h,hcl,hH=>by
   simp only [rounds] at h
   obtain⟨⟨ex1,s₁⟩,h1,h2⟩:=T.bind_some h
   obtain⟨c1,l1,k1⟩:=hf s s₁ ex1 h1 hcl hH
   cases ex1 with
   | normal =>
     simp only at h2
     obtain⟨c2,l2,k2⟩:=zc hf n _ s' ex h2 (Oq c1) l1
     refine⟨c2,l2,fun {ρ a w} hat Q hQ=>wp_mono (k1 hat) ?_⟩
     rintro e a₁ w₁ ⟨rfl,⟨⟨ρ₁,e1,o1,v1⟩,d1⟩⟩
     refine k2 (Ot ⟨e1,o1⟩) fun a₂ w₂ hl=>hQ a₂ w₂ ?_
     obtain⟨⟨ρ₂,e2,o2,v2⟩,d2⟩:=hl
     exact⟨⟨ρ₂,e2,o2,v1.trans v2⟩,d2.trans d1⟩
   | exit id =>
     simp only [T.val,Option.some.injEq,Prod.mk.injEq] at h2
     obtain⟨rfl,rfl⟩:=h2
     refine⟨c1,l1,fun {ρ a w} hat Q hQ=>wp_mono (k1 hat) ?_⟩
     rintro e a₁ w₁ ⟨rfl,hl⟩
     exact hQ a₁ w₁ hl
   | ret =>
     simp only [T.val,Option.some.injEq,Prod.mk.injEq] at h2
     obtain⟨rfl,rfl⟩:=h2
     refine⟨c1,l1,fun {ρ a w} hat Q hQ=>wp_mono (k1 hat) ?_⟩
     rintro e a₁ w₁ ⟨rfl,hl⟩
     exact hQ a₁ w₁ hl
theorem pP (hT:TblOk P N) {cal:Callee AV} (hcal:dM P N cal) {lp:Nat->Option (St AV->T (Ex×St AV))} {nt L:Nat}:∀(c:Code),FE P N nt c lp->∀(s s':St AV) (ex:Ex),(xc N cal lp nt c s).val=some (ex,s')->Closed N s->L<=s.H.length ->
 Closed N s' /\ L<=s'.H.length /\ ∀{ρ:Nm} {a:Act} {w:World},At N nt ρ s a w->c.wp P (fun e a' w'=>e=IJ ex /\ Lands N nt L ρ s w a s' a' w') a w
 | .skip,hlp,s,s',ex,h,hcl,hH=>by
   simp only [xc,T.val,Option.some.injEq,Prod.mk.injEq] at h
   obtain⟨rfl,rfl⟩:=h
   exact⟨hcl,hH,fun {ρ a w} hat=>wp_skip ⟨rfl,⟨ρ,hat.em,hat.own,Evo.refl _ _ _ _⟩,rfl⟩⟩
 | .label l,hlp,s,s',ex,h,hcl,hH=>by
   simp only [xc,T.val,Option.some.injEq,Prod.mk.injEq] at h
   obtain⟨rfl,rfl⟩:=h
   exact⟨hcl,hH,fun {ρ a w} hat=>wp_label ⟨rfl,⟨ρ,hat.em,hat.own,Evo.refl _ _ _ _⟩,rfl⟩⟩
 | .exit id,hlp,s,s',ex,h,hcl,hH=>by
   simp only [xc,T.val,Option.some.injEq,Prod.mk.injEq] at h
   obtain⟨rfl,rfl⟩:=h
   exact⟨hcl,hH,fun {ρ a w} hat=>wp_exit ⟨rfl,⟨ρ,hat.em,hat.own,Evo.refl _ _ _ _⟩,rfl⟩⟩
 | .ret,hlp,s,s',ex,h,hcl,hH=>by
   simp only [xc,T.val,Option.some.injEq,Prod.mk.injEq] at h
   obtain⟨rfl,rfl⟩:=h
   exact⟨hcl,hH,fun {ρ a w} hat=>wp_ret ⟨rfl,⟨ρ,hat.em,hat.own,Evo.refl _ _ _ _⟩,rfl⟩⟩
 | .region id ops d,hlp,s,s',ex,h,hcl,hH=>by
   simp only [xc,growH_eq] at h
   split at h
   ·simp [T.val] at h
   ·rename_i hdst
    have hd:=ua hdst
    split at h
    ·-- in the order of the text
     obtain⟨m,h1,h2⟩:=T.bind_some h
     simp only [T.val,Option.some.injEq,Prod.mk.injEq] at h2
     obtain⟨rfl,rfl⟩:=h2
     have hr:=fun ρ=>room (nt:=nt) (L:=L) (ρ:=ρ) (cN ops.toList) hcl
     have hlen0:L<=(s.H++fY AV (cN ops.toList)).length:=by simp;omega
     have hc0:=(hr Nm.id).1
     have hst:=fun s₁ h1=>wv (P:=P) (nt:=nt) hT hcal ops hH ops.toList 0 _ s₁ h1 hc0 hlen0 hd
     have hA:=fun s' q h=>qZ (N:=N) (cal:=cal) (base:=s.H.length) (all:=ops.toList) ({s with H:=s.H++fY AV (cN ops.toList)}:St AV) ops.toList 0 [] true ({s with H:=s.H++fY AV (cN ops.toList)}:St AV) s' q (Dt _) ⟨[],rfl⟩ (fun _=>rfl) h
     obtain⟨s₁,q₁,h1,href,hcm⟩:=xP hc0 h1 (fun s' q h=>⟨(hst s' (hA s' q h).1).1,(hA s' q h).2⟩)
     replace h1:=(hA s₁ q₁ h1).1
     obtain⟨c1,k1⟩:=hst s₁ h1
     refine⟨hcm,by rw [href.H];exact Nat.le_trans hlen0 (uw _ _ _ _ h1),fun {ρ a w} hat=>?_⟩
     obtain⟨hat0,ev0⟩:=(hr ρ).2 hat
     refine wp_region_list (k1 hat0 fun a' w' hl=>⟨rfl,?_⟩)
     obtain⟨⟨ρ₁,e1,o1,v1⟩,d1⟩:=hl
     exact⟨⟨ρ₁,href.em e1,by rw [href.H];exact o1,by rw [href.H];exact ev0.trans v1⟩,d1⟩
    ·-- its order is open
     split at h
     ·simp [T.val] at h
     ·simp [T.val] at h
     ·rename_i hap hG
      obtain⟨m,h1,h2⟩:=T.bind_some h
      simp only [T.val,Option.some.injEq,Prod.mk.injEq] at h2
      obtain⟨rfl,rfl⟩:=h2
      have hG:=Nat.le_of_ble_eq_true hG
      have hr:=fun ρ=>room (nt:=nt) (L:=L) (ρ:=ρ) (cN ops.toList) hcl
      have hlen0:L<=(s.H++fY AV (cN ops.toList)).length:=by simp;omega
      have hc0:=(hr Nm.id).1
      have hst:=fun s₁ h1=>Ck (P:=P) (nt:=nt) (L:=L) (s':=s₁) hT hcal ops hap hH hG h1 hc0 hlen0 hd (by simp [zw])
      have hA:=fun s' q h=>pT (N:=N) (cal:=cal) (base:=s.H.length) (all:=ops.toList) ({s with H:=s.H++fY AV (cN ops.toList)}:St AV) ops.toList 0 [] [] true ({s with H:=s.H++fY AV (cN ops.toList)}:St AV) s' q (Dt _) ⟨[],rfl⟩ (fun _=>rfl) h
      obtain⟨s₁,q₁,h1,href,hcm⟩:=xP hc0 h1 (fun s' q h=>⟨(hst s' (hA s' q h).1).1,(hA s' q h).2⟩)
      replace h1:=(hA s₁ q₁ h1).1
      obtain⟨c1,l1,k1⟩:=hst s₁ h1
      refine⟨hcm,by rw [href.H];exact l1,fun {ρ a w} hat=>?_⟩
      obtain⟨hat0,ev0⟩:=(hr ρ).2 hat
      refine k1 hat0 fun a' w' hl=>⟨rfl,?_⟩
      obtain⟨⟨ρ₁,e1,o1,v1⟩,d1⟩:=hl
      exact⟨⟨ρ₁,href.em e1,by rw [href.H];exact o1,by rw [href.H];exact ev0.trans v1⟩,d1⟩
 | .seq x y,hlp,s,s',ex,h,hcl,hH=>by
   simp only [xc] at h
   obtain⟨⟨ex1,s₁⟩,h1,h2⟩:=T.bind_some h
   obtain⟨c1,l1,k1⟩:=pP hT hcal (nt:=nt) (L:=L) x (fun i b hb=>hlp i b (by simp only [bx,List.mem_append];exact .inl hb)) s s₁ ex1 h1 hcl hH
   cases ex1 with
   | normal =>
     simp only at h2
     obtain⟨c2,l2,k2⟩:=pP hT hcal (nt:=nt) (L:=L) y (fun i b hb=>hlp i b (by simp only [bx,List.mem_append];exact .inr hb)) s₁ s' ex h2 c1 l1
     refine⟨c2,l2,fun {ρ a w} hat=>wp_seq (wp_mono (k1 hat) ?_)⟩
     rintro e a₁ w₁ ⟨rfl,⟨⟨ρ₁,e1,o1,v1⟩,d1⟩⟩
     refine wp_mono (k2 ⟨e1,o1⟩) ?_
     rintro e a₂ w₂ ⟨rfl,⟨⟨ρ₂,e2,o2,v2⟩,d2⟩⟩
     exact⟨rfl,⟨ρ₂,e2,o2,v1.trans v2⟩,d2.trans d1⟩
   | exit id =>
     simp only [T.val,Option.some.injEq,Prod.mk.injEq] at h2
     obtain⟨rfl,rfl⟩:=h2
     refine⟨c1,l1,fun {ρ a w} hat=>wp_seq (wp_mono (k1 hat) ?_)⟩
     rintro e a₁ w₁ ⟨rfl,hl⟩
     exact⟨rfl,hl⟩
   | ret =>
     simp only [T.val,Option.some.injEq,Prod.mk.injEq] at h2
     obtain⟨rfl,rfl⟩:=h2
     refine⟨c1,l1,fun {ρ a w} hat=>wp_seq (wp_mono (k1 hat) ?_)⟩
     rintro e a₁ w₁ ⟨rfl,hl⟩
     exact⟨rfl,hl⟩
 | .cond c x y,hlp,s,s',ex,h,hcl,hH=>by
   simp only [xc] at h
   split at h
   ·rename_i cc hc
    split at h
    ·rename_i t hb
     split at h
     ·obtain⟨c1,l1,k1⟩:=pP hT hcal (nt:=nt) (L:=L) x (fun i b hb=>hlp i b (by simp only [bx,List.mem_append];exact .inl hb)) s s' ex h hcl hH
      refine⟨c1,l1,fun {ρ a w} hat=>wp_cond_true ?_ (k1 hat)⟩
      exact((eQ hat.em hcl hat.own.glb).den _ _ hc).trans (cK ρ hb)
     ·obtain⟨c1,l1,k1⟩:=pP hT hcal (nt:=nt) (L:=L) y (fun i b hb=>hlp i b (by simp only [bx,List.mem_append];exact .inr hb)) s s' ex h hcl hH
      refine⟨c1,l1,fun {ρ a w} hat=>wp_cond_false ?_ (k1 hat)⟩
      exact((eQ hat.em hcl hat.own.glb).den _ _ hc).trans (cK ρ hb)
    ·rename_i t hb
     cases t with
     | true =>
       obtain⟨c1,l1,k1⟩:=pP hT hcal (nt:=nt) (L:=L) x (fun i b hb=>hlp i b (by simp only [bx,List.mem_append];exact .inl hb)) s s' ex h hcl hH
       refine⟨c1,l1,fun {ρ a w} hat=>wp_cond_true ?_ (k1 hat)⟩
       exact((eQ hat.em hcl hat.own.glb).den _ _ hc).trans (cK ρ hb)
     | false =>
       obtain⟨c1,l1,k1⟩:=pP hT hcal (nt:=nt) (L:=L) y (fun i b hb=>hlp i b (by simp only [bx,List.mem_append];exact .inr hb)) s s' ex h hcl hH
       refine⟨c1,l1,fun {ρ a w} hat=>wp_cond_false ?_ (k1 hat)⟩
       exact((eQ hat.em hcl hat.own.glb).den _ _ hc).trans (cK ρ hb)
    ·simp [T.val] at h
   ·simp [T.val] at h
 | .block id c,hlp,s,s',ex,h,hcl,hH=>by
   simp only [xc] at h
   obtain⟨⟨ex1,s₁⟩,h1,h2⟩:=T.bind_some h
   obtain⟨c1,l1,k1⟩:=pP hT hcal (nt:=nt) (L:=L) c (fun i b hb=>hlp i b (by simpa [bx] using hb)) s s₁ ex1 h1 hcl hH
   cases ex1 with
   | normal =>
     simp only [T.val,Option.some.injEq,Prod.mk.injEq] at h2
     obtain⟨rfl,rfl⟩:=h2
     refine⟨c1,l1,fun {ρ a w} hat=>wp_block (wp_mono (k1 hat) ?_)⟩
     rintro e a₁ w₁ ⟨rfl,hl⟩
     exact⟨rfl,hl⟩
   | ret =>
     simp only [T.val,Option.some.injEq,Prod.mk.injEq] at h2
     obtain⟨rfl,rfl⟩:=h2
     refine⟨c1,l1,fun {ρ a w} hat=>wp_block (wp_mono (k1 hat) ?_)⟩
     rintro e a₁ w₁ ⟨rfl,hl⟩
     exact⟨rfl,hl⟩
   | exit j =>
     simp only at h2
     split at h2
     ·rename_i hj
      have hj:=(ai _ _).1 hj
      subst hj
      simp only [T.val,Option.some.injEq,Prod.mk.injEq] at h2
      obtain⟨rfl,rfl⟩:=h2
      refine⟨c1,l1,fun {ρ a w} hat=>wp_block (wp_mono (k1 hat) ?_)⟩
      rintro e a₁ w₁ ⟨rfl,hl⟩
      show Exit.inBlock j _ (.exit j) a₁ w₁
      simp only [Exit.inBlock,if_true]
      exact⟨rfl,hl⟩
     ·rename_i hj
      have hj:=(aR _ _).1 hj
      simp only [T.val,Option.some.injEq,Prod.mk.injEq] at h2
      obtain⟨rfl,rfl⟩:=h2
      refine⟨c1,l1,fun {ρ a w} hat=>wp_block (wp_mono (k1 hat) ?_)⟩
      rintro e a₁ w₁ ⟨rfl,hl⟩
      show Exit.inBlock id _ (.exit j) a₁ w₁
      simp only [Exit.inBlock,if_neg hj]
      exact⟨rfl,hl⟩
 | .loop c,hlp,s,s',ex,h,hcl,hH=>by
   simp only [xc] at h
   split at h
   ·simp [T.val] at h
   ·rename_i id hid
    split at h
    ·rename_i g hg
     exact hlp id c (by simp [bx,hid]) g hg L s s' ex h hcl hH
    ·obtain⟨c1,l1,k1⟩:=zc (P:=P) (c:=c) (fun s s' ex h hcl hH=>pP hT hcal (nt:=nt) (L:=L) c (fun i b hb=>hlp i b (by simp [bx,hid,hb])) s s' ex h hcl hH) 3000 s s' ex h hcl hH
     exact⟨c1,l1,fun {ρ a w} hat=>wp_loop_rounds 3000 (k1 hat fun a' w' hl=>⟨rfl,hl⟩)⟩
 | .rangeFunc _ _ _ _,_,_,_,_,h,_,_=>by simp [xc,T.val] at h
 | .scope _,_,_,_,_,h,_,_=>by simp [xc,T.val] at h
 | .goto _,_,_,_,_,h,_,_=>by simp [xc,T.val] at h
 | .refuse _,_,_,_,_,h,_,_=>by simp [xc,T.val] at h
def Rnd (P:Program) (N:Env AV) (nt:Nat) (c:Code) (s:St AV) (ex:Ex) (s':St AV):Prop:=∀(L:Nat),Closed N s->L<=s.H.length ->
 Closed N s' /\ L<=s'.H.length /\ ∀{ρ:Nm} {a:Act} {w:World},At N nt ρ s a w->c.wp P (fun e a' w'=>e=IJ ex /\ Lands N nt L ρ s w a s' a' w') a w
theorem KN (hT:TblOk P N) {cal:Callee AV} (hcal:dM P N cal) {lp:Nat->Option (St AV->T (Ex×St AV))} {nt:Nat} {c:Code} (hlp:FE P N nt c lp) {s s':St AV} {ex:Ex} (h:(xc N cal lp nt c s).val=some (ex,s')):Rnd P N nt c s ex s' :=
 fun L hcl hH=>pP hT hcal c hlp s s' ex h hcl hH
theorem wM (hT:TblOk P N) {s:St AV} (hcl:Closed N s):∀{rs:List ResultVar} {l:List V1},(Cx N s rs).val=some l ->
 (∀x∈l,ClV1 s.H x) /\ ∀{ρ:Nm} {nt:Nat} {a:Act} {w:World},At N nt ρ s a w ->
   (rs.mapM (fun | .tmp t=>pure (a.tmps.getD t undef) | .cell c t=>do loadVar t (<- asAddr (a.tmps.getD c undef))):Sem (List Value)).run P w=.ok (l.map (V1.den ρ)) w
 | [],l,h=>by
   simp only [Cx,T.val,Option.some.injEq] at h
   subst h
   exact⟨by simp,fun _=>by simp⟩
 | .tmp t::rs,l,h=>by
   simp only [Cx] at h
   split at h
   ·rename_i x hx
    rw [T.val_map] at h
    obtain⟨l',hl',rfl⟩:=Option.map_eq_some_iff.1 h
    obtain⟨c1,k1⟩:=wM hT hcl hl'
    refine⟨fun y hy=>?_,fun {ρ nt a w} hat=>?_⟩
    ·rcases List.mem_cons.1 hy with rfl | hy
     ·have:=hcl.E t;rw [hx] at this;exact this
     ·exact c1 y hy
    ·have e1:=hat.em.get t (by rw [hx];simp)
     rw [hx] at e1
     have k2:=k1 hat
     simp only [List.mapM_cons,Sem.run_bind,Sem.run_pure,Result.andThen_ok,k2,List.map_cons,e1,SV.den]
   ·simp [T.val] at h
 | .cell c t::rs,l,h=>by
   simp only [Cx] at h
   split at h
   ·rename_i n off hx
    split at h
    ·rename_i cs ty hn
     split at h
     ·rename_i x hp
      rw [T.val_map] at h
      obtain⟨l',hl',rfl⟩:=Option.map_eq_some_iff.1 h
      obtain⟨c1,k1⟩:=wM hT hcl hl'
      refine⟨fun y hy=>?_,fun {ρ nt a w} hat=>?_⟩
      ·rcases List.mem_cons.1 hy with rfl | hy
       ·exact fI hp (hcl.H n _ hn)
       ·exact c1 y hy
      ·have e1:=hat.em.get c (by rw [hx];simp)
       rw [hx] at e1
       have k2:=k1 hat
       have:=gU (ρ:=ρ) (w:=w) hT hp (ρ n) 0 (fun j c hc=>by rw [Nat.zero_add];exact yr hat.own hn j c hc)
       rw [Nat.zero_add] at this
       have e2:a.tmps.getD c undef=.pointer (some ⟨ρ n,off,none⟩):=e1
       have e3:(asAddr (a.tmps.getD c undef)).run P w=.ok ⟨ρ n,off,none⟩ w:=by rw [e2];rfl
       simp only [List.mapM_cons,Sem.run_bind,e3,Sem.run_pure,Result.andThen_ok,this,k2,List.map_cons]
     ·simp [T.val] at h
    ·simp [T.val] at h
   ·simp [T.val] at h
theorem lY (len:Nat) (R:List Nat):∀(H:Hp AV) (i n:Nat),(ab (pS len R i H) n=ab H n \/ (ab (pS len R i H) n=none /\ len<=i+n)) /\ (pS len R i H).length=H.length
 | [],i,n=>by simp [pS]
 | x::r,i,0=>by
   refine⟨?_,by simp [pS,(lY len R r (i+1) 0).2]⟩
   simp only [pS,ab]
   split
   ·exact .inl rfl
   ·rename_i hlt
    have:=(fh _ _).1 hlt
    split
    ·exact .inl rfl
    ·exact .inr ⟨rfl,by omega⟩
 | x::r,i,n+1=>by
   obtain⟨h1,h2⟩:=lY len R r (i+1) n
   refine⟨?_,by simp [pS,h2]⟩
   simp only [pS,ab]
   rcases h1 with h1 | ⟨h1,h3⟩
   ·exact .inl h1
   ·exact .inr ⟨h1,by omega⟩
theorem kz:∀(k:Nat) (H:Hp AV) (n:Nat),ab (v7 k H) n=ab H n /\ (k<=H.length->k<=(v7 k H).length)
 | 0,[],n=>by simp [v7]
 | 0,none::r,n=>by
   have ih:=kz 0 r
   simp only [v7]
   refine⟨?_,by simp⟩
   split
   ·rename_i he
    cases n with
    | zero=>simp [ab]
    | succ n=>have:=(ih n).1;rw [he] at this;simp only [ab] at this ⊢;exact this
   ·cases n with
    | zero=>simp [ab]
    | succ n=>simp only [ab];exact(ih n).1
 | 0,some c::r,n=>by
   simp only [v7]
   refine⟨?_,by simp⟩
   cases n with
   | zero=>simp [ab]
   | succ n=>simp only [ab];exact(kz 0 r n).1
 | k+1,[],n=>by simp [v7]
 | k+1,x::r,n=>by
   simp only [v7]
   refine⟨?_,fun h=>by simp at h ⊢;exact(kz k r 0).2 h⟩
   cases n with
   | zero=>simp [ab]
   | succ n=>simp only [ab];exact(kz k r n).1
theorem PQ (len:Nat) (v:SV) (H:Hp AV) (hle:len<=H.length):(∀n c,ab (gcH len v H) n=some c->ab H n=some c) /\ (∀n,n < len->ab (gcH len v H) n=ab H n) /\ len<=(gcH len v H).length:=by
 unfold gcH
 generalize fX H 400 (ig v++xn len H) []=R
 refine⟨fun n c h=>?_,fun n hn=>?_,?_⟩
 ·rw [(kz len _ n).1] at h
  rcases (lY len R H 0 n).1 with h1 | ⟨h1,_⟩
  ·rw [h1] at h;exact h
  ·rw [h1] at h;cases h
 ·rw [(kz len _ n).1]
  rcases (lY len R H 0 n).1 with h1 | ⟨_,h2⟩
  ·exact h1
  ·omega
 ·exact(kz len _ 0).2 (by rw [(lY len R H 0 0).2];exact hle)
theorem wW:∀(args:List SV) (n k:Nat),look (pad n args) k=if n<=k then(args[k - n]?).getD bV else bV
 | [],n,k=>by simp [pad,look]
 | x::r,n,k=>by
   simp only [pad,look]
   by_cases h:n=k
   ·subst h;simp [Nat.beq_refl]
   ·rw [(aR n k).2 h,wW r (n+1) k]
    by_cases h1:n+1<=k
    ·rw [if_pos h1,if_pos (by omega)]
     have:k - n=(k - (n+1))+1:=by omega
     rw [this,List.getElem?_cons_succ]
    ·rw [if_neg h1,if_neg (by omega)]
theorem Le (ρ:Nm) (l:List V1):(jS l).den ρ=(if h:(l.map (V1.den ρ)).toArray.size=1 then(l.map (V1.den ρ)).toArray[0] else .tuple (l.map (V1.den ρ)).toArray):=by
 match l with
 | []=>rfl
 | [x]=>simp [jS,SV.den]
 | x::y::r=>simp [jS,SV.den]
def cV (P:Program) (N:Env AV):Prop:=∀f fn c,N.ft.get f=some fn->fn.body=some c->FE P N fn.ntmps c (N.lp f)
def FnOk (P:Program) (N:Env AV) (f:FuncId) (g:List SV->Hp AV->T (SV×Hp AV)):Prop :=
 ∀(args:List SV) (H:Hp AV) (v:SV) (H':Hp AV),(g args H).val=some (v,H')->(∀x∈args,ClV H x)->bU N H ->
   ClV H' v /\ bU N H' /\ ∀(ρ:Nm) (w:World),Own N ρ H w ->
    Calls P f (args.map (SV.den ρ)).toArray w fun e w'=>∃ρ',e=.returned (v.den ρ') /\ Own N ρ' H' w' /\ Evo N H.length ρ H w ρ' H' w'
theorem OL (hT:TblOk P N) (hlps:cV P N) {cal:Callee AV} (hcal:dM P N cal) (f:FuncId):FnOk P N f (SG N cal f):=by
 intro args H v H' h hargs hC
 unfold SG at h
 split at h
 ·rename_i fn hfn
  obtain⟨k1,k2,k3⟩:=hT.fn f fn hfn
  split at h
  ·rename_i c hc
   split at h
   ·simp [T.val] at h
   ·rename_i hble
    have hle:args.length<=fn.ntmps:=Nat.le_of_ble_eq_true hble
    obtain⟨⟨ex,s'⟩,h1,h2⟩:=T.bind_some h
    have hcl:Closed N ({E:=pad 0 args,H:=H}:St AV):=by
     refine⟨fun k=>?_,hC.1⟩
     show ClV H (look (pad 0 args) k)
     rw [wW]
     simp only [Nat.zero_le,if_true,Nat.sub_zero]
     cases hk:args[k]? with
     | none=>exact hD H
     | some x=>exact hargs x (List.mem_of_getElem? hk)
    obtain⟨c1,l1,wp1⟩:=pP (P:=P) (nt:=fn.ntmps) (L:=H.length) hT hcal c (hlps f fn c hfn hc) _ s' ex h1 hcl (Nat.le_refl _)
    have h2':((Cx N s' fn.results.toList).bind fun l=>match gcH H.length (jS l) s'.H with
     | H'=>match clV H' (jS l) with
       | false=>T.fail "result: names"
       | true=>match clHs H' H' with
         | false=>.fail "result: heap"
         | true=>.leaf (jS l,H')).val=some (v,H') /\ ∀id,ex≠.exit id:=by
     cases ex with
     | exit id=>simp [T.val] at h2
     | normal=>exact⟨h2,by simp⟩
     | ret=>exact⟨h2,by simp⟩
    obtain⟨h2,hex⟩:=h2'
    obtain⟨l,hl,h3⟩:=T.bind_some h2
    simp only at h3
    split at h3
    ·simp [T.val] at h3
    ·rename_i hcv
     split at h3
     ·simp [T.val] at h3
     ·rename_i hch
      simp only [T.val,Option.some.injEq,Prod.mk.injEq] at h3
      obtain⟨rfl,rfl⟩:=h3
      obtain⟨g1,g2,g3⟩:=PQ H.length (jS l) s'.H l1
      have hC':bU N (gcH H.length (jS l) s'.H):=by
       exact⟨eY.1 hch,trivial⟩
      refine⟨pB.1 hcv,hC',fun ρ w hO=>?_⟩
      obtain⟨_,rrun⟩:=wM (P:=P) hT c1 hl
      refine calls_of_wp k1 hc (wp_mono (wp1 (ρ:=ρ) ⟨⟨?_,?_⟩,hO⟩) ?_)
      ·simp;omega
      ·intro k _
       show _=(look (pad 0 args) k).den ρ
       rw [wW]
       simp only [Nat.zero_le,if_true,Nat.sub_zero]
       rw [Array.getD_eq_getD_getElem?,Array.getElem?_append]
       split
       ·rename_i hk
        simp at hk
        simp [hk]
       ·rename_i hk
        simp at hk
        rw [List.getElem?_eq_none hk]
        simp only [Option.getD_none,bV,SV.den,List.map_nil]
        rw [Array.getElem?_replicate]
        split<;>rfl
      ·rintro e a' w' ⟨rfl,⟨⟨ρ',e1,o1,v1⟩,d1⟩⟩
       have hres:=rrun (ρ:=ρ') (w:=w') ⟨e1,o1⟩
       have hresults:(results fn a'.tmps).run P w'=.ok ((jS l).den ρ') w':=by
        unfold results
        rw [<- Array.toArray_toList (xs:=fn.results),List.mapM_toArray]
        simp only [Sem.run_bind,Sem.run_map,Sem.run_pure]
        erw [hres]
        rw [Le]
        rfl
       have final:Ending.returned ((jS l).den ρ')=.returned ((jS l).den ρ') /\ Own N ρ' (gcH H.length (jS l) s'.H) w' /\ Evo N H.length ρ H w ρ' (gcH H.length (jS l) s'.H) w':=by
        refine⟨rfl,o1.sub ⟨fun n c h=>o1.q n c (g1 n c h),fun n m c d hnm h h'=>o1.dis n m c d hnm (g1 n c h) (g1 m d h'),o1.glb⟩ (fun n c k h hk=>⟨n,c,g1 n c h,hk⟩),?_⟩
        exact⟨fun n c h=>by obtain⟨c',hc'⟩:=v1.pers n c h;exact⟨c',by rw [g2 n (aX h)];exact hc'⟩,v1.agree,fun n hn h=>by rw [g2 n hn];exact v1.non n hn h,g3,v1.frame,fun n c k h hk=>v1.new n c k (g1 n c h) hk,v1.os,v1.tape,v1.output,v1.size⟩
       cases ex with
       | exit id=>exact absurd rfl (hex id)
       | normal=>exact⟨d1,_,hresults,ρ',final⟩
       | ret=>exact⟨d1,_,hresults,ρ',final⟩
  ·simp [T.val] at h
 ·simp [T.val] at h
def bO (P:Program) (N:Env AV) (tab:FuncId->Option (List SV->Hp AV->T (SV×Hp AV))):Prop :=
 ∀f g,tab f=some g->FnOk P N f g
def Jk (P:Program) (N:Env AV):Prop:=∀o,∀(args:List SV) (H:Hp AV) (v:SV) (H':Hp AV),(N.hv o args H).val=some (v,H')->(∀x∈args,ClV H x)->bU N H ->
    ClV H' v /\ bU N H' /\ ∀(ρ:Nm) (w:World),Own N ρ H w ->
     Does P (.op o) (args.map (SV.den ρ)) w fun e w'=>∃ρ',e=v.den ρ' /\ Own N ρ' H' w' /\ Evo N H.length ρ H w ρ' H' w'
theorem FnOk.does {f:FuncId} {g:List SV->Hp AV->T (SV×Hp AV)} (h:FnOk P N f g) (args:List SV) (H:Hp AV) (v:SV) (H':Hp AV) (hr:(g args H).val=some (v,H')) (ha:∀x∈args,ClV H x) (hC:bU N H) :
 ClV H' v /\ bU N H' /\ ∀(ρ:Nm) (w:World),Own N ρ H w ->
  Does P (.fn f) (args.map (SV.den ρ)) w fun e w'=>∃ρ',e=v.den ρ' /\ Own N ρ' H' w' /\ Evo N H.length ρ H w ρ' H' w':=by
 obtain⟨h1,h2,h3⟩:=h args H v H' hr ha hC
 refine⟨h1,h2,fun ρ w hO=>Calls.mono (h3 ρ w hO) ?_⟩
 rintro e w' ⟨ρ',rfl,hk⟩
 exact⟨_,rfl,ρ',rfl,hk⟩
theorem jC (H:Hp AV) {len:Nat}:∀{t:T (SV×Hp AV)} {n:Option Bool} {v:SV},jN len t=some (n,v)->oh n ->
 ∃r,t.val=some r /\ r.2.length=len /\ (v=.unk \/ (∀ρ:Nm,v.den ρ=r.1.den ρ))
 | .leaf r,n,v,h,hn=>by
   simp only [jN] at h
   split at h
   ·rename_i hl
    cases h
    exact⟨r,rfl,(ai _ _).1 hl,.inr fun _=>rfl⟩
   ·cases h
 | .need b t,n,v,h,hn=>by
   simp only [jN] at h
   split at h
   ·rename_i v' ht
    cases h
    have hb:b=true:=hn
    subst hb
    obtain⟨r,a1,a2,a3⟩:=jC H ht trivial
    exact⟨r,a1,a2,a3⟩
   ·rename_i m v' ht
    cases h
    cases b with
    | false=>cases hn
    | true =>
      obtain⟨r,a1,a2,a3⟩:=jC H ht hn
      exact⟨r,a1,a2,a3⟩
   ·cases h
 | .ite b t e,n,v,h,hn=>by
   have key:∀(n1 n2:Option Bool) (v1 v2:SV),jN len t=some (n1,v1)->jN len e=some (n2,v2)->(b=true->oh n1)->(b=false->oh n2)->v=ny b v1 v2 ->
    ∃r,(T.ite b t e).val=some r /\ r.2.length=len /\ (v=.unk \/ (∀ρ:Nm,v.den ρ=r.1.den ρ)):=by
    intro n1 n2 v1 v2 h1 h2 ht he hv
    have hj:=(qv H b v1 v2).2
    rw [<- hv] at hj
    cases b with
    | true =>
      obtain⟨r,a1,a2,a3⟩:=jC H h1 (ht rfl)
      refine⟨r,a1,a2,?_⟩
      rcases hj with hj | ⟨j1,_,j3⟩
      ·exact .inl hj
      ·rcases a3 with a3 | a3
       ·exact absurd a3 j1
       ·exact .inr fun ρ=>(j3 ρ).trans (a3 ρ)
    | false =>
      obtain⟨r,a1,a2,a3⟩:=jC H h2 (he rfl)
      refine⟨r,a1,a2,?_⟩
      rcases hj with hj | ⟨j1,_,j3⟩
      ·exact .inl hj
      ·rcases a3 with a3 | a3
       ·exact absurd a3 j1
       ·exact .inr fun ρ=>(j3 ρ).trans (a3 ρ)
   simp only [jN] at h
   split at h
   ·rename_i v1 v2 h1 h2
    cases h
    exact key none none v1 v2 h1 h2 (fun _=>trivial) (fun _=>trivial) rfl
   ·rename_i n1 v1 v2 h1 h2
    cases h
    exact key (some n1) none v1 v2 h1 h2 (fun hb=>by subst hb;exact hn) (fun _=>trivial) rfl
   ·rename_i v1 n2 v2 h1 h2
    cases h
    exact key none (some n2) v1 v2 h1 h2 (fun _=>trivial) (fun hb=>by subst hb;exact hn) rfl
   ·rename_i n1 v1 n2 v2 h1 h2
    cases h
    exact key (some n1) (some n2) v1 v2 h1 h2 (fun hb=>by subst hb;exact hn) (fun hb=>by subst hb;exact hn) rfl
   ·cases h
 | .fail _,_,_,h,_=>by simp [jN] at h
theorem oK:∀{A:Hp AV},sB A=true->∀n,ab A n=none
 | [],_,n=>by simp [ab]
 | none::r,h,0=>by simp [ab]
 | none::r,h,n+1=>by simp only [sB] at h;simp only [ab];exact oK h n
 | some _::r,h,_=>by simp [sB] at h
theorem none_eq:∀{A B:Hp AV},(∀n,ab A n=none)->(∀n,ab B n=none)->A.length=B.length->A=B
 | [],[],_,_,_=>rfl
 | [],_::_,_,_,h=>by simp at h
 | _::_,[],_,_,h=>by simp at h
 | x::r,y::q,h1,h2,hl=>by
   have e1:x=none:=h1 0
   have e2:y=none:=h2 0
   rw [e1,e2,none_eq (fun n=>h1 (n+1)) (fun n=>h2 (n+1)) (by simpa using hl)]
theorem bK {cal:Callee AV} (hcal:dM P N cal):dM P N (aN cal):=by
 intro f args A v A' h hargs hC
 unfold aN at h
 split at h
 ·exact hcal f args A v A' h hargs hC
 ·rename_i hnone
  have main:∀(n:Option Bool) (u:SV),jN A.length (cal f args A)=some (n,u)->oh n->Rz u=false->clV A u=true->ClV A u /\ bU N A /\ ∀(ρ:Nm) (w:World),Own N ρ A w ->
   Does P f (args.map (SV.den ρ)) w fun e w'=>∃ρ',e=u.den ρ' /\ Own N ρ' A w' /\ Evo N A.length ρ A w ρ' A w':=by
   intro n u hj hn hu hcv
   obtain⟨⟨v0,B⟩,hr,hlen,hv⟩:=jC A hj hn
   obtain⟨c1,c2,k⟩:=hcal f args A v0 B hr hargs hC
   have hv:∀ρ:Nm,u.den ρ=v0.den ρ:=by
    rcases hv with hv | hv
    ·rw [hv] at hu;cases hu
    ·exact hv
   refine⟨pB.1 hcv,hC,fun ρ w hO=>(k ρ w hO).mono ?_⟩
   rintro e w' ⟨ρ',rfl,hO',hE'⟩
   have hB:B=A:=by
    refine none_eq (fun n=>?_) (oK hnone) hlen
    rcases Nat.lt_or_ge n A.length with h | h
    ·exact hE'.non n h (oK hnone n)
    ·cases hb:ab B n with
     | none=>rfl
     | some c=>have:=aX hb;simp only at hlen;omega
   subst hB
   exact⟨ρ',by rw [hv ρ'],hO',hE'⟩
  split at h
  ·rename_i r hr
   exact hcal f args A v A' (by rw [hr];exact h) hargs hC
  ·split at h
   ·rename_i n u hj
    split at h
    ·exact hcal f args A v A' h hargs hC
    ·rename_i hu
     split at h
     ·rename_i hcv hp
      split at h
      ·simp only [T.val,Option.some.injEq,Prod.mk.injEq] at h
       obtain⟨rfl,rfl⟩:=h
       exact main none u hj trivial hu hcv
      ·rename_i b
       obtain⟨hb,h⟩:=cZ h
       simp only [T.val,Option.some.injEq,Prod.mk.injEq] at h
       obtain⟨rfl,rfl⟩:=h
       exact main (some b) u hj hb hu hcv
     ·exact hcal f args A v A' h hargs hC
   ·exact hcal f args A v A' h hargs hC
theorem iH (hT:TblOk P N) (hlps:cV P N) (hhv:Jk P N) {tab:FuncId->Option (List SV->Hp AV->T (SV×Hp AV))} (htab:bO P N tab):∀n,dM P N (lv N tab n)
 | 0=>by
   intro f args H v H' h
   simp only [lv] at h
   cases f with
   | op o=>exact hhv o args H v H' h
   | fn f =>
     simp only at h
     cases ht:tab f with
     | none=>simp [ht,T.val] at h
     | some g=>simp only [ht] at h;exact(htab f g ht).does args H v H' h
 | n+1=>by
   intro f args H v H' h
   simp only [lv] at h
   cases f with
   | op o=>exact hhv o args H v H' h
   | fn f =>
     simp only at h
     cases ht:tab f with
     | none =>
       simp only [ht] at h
       exact(OL hT hlps (bK (iH hT hlps hhv htab n)) f).does args H v H' h
     | some g =>
       simp only [ht] at h
       exact(htab f g ht).does args H v H' h
theorem Rw (hT:TblOk P N) (hlps:cV P N) (hhv:Jk P N) {tab:FuncId->Option (List SV->Hp AV->T (SV×Hp AV))} (htab:bO P N tab) (n:Nat) (f:FuncId):FnOk P N f (lv N tab n (.fn f)):=by
 intro args H v H' h ha hC
 obtain⟨h1,h2,h3⟩:=iH hT hlps hhv htab n (.fn f) args H v H' h ha hC
 refine⟨h1,h2,fun ρ w hO=>Calls.mono (h3 ρ w hO) ?_⟩
 rintro e w' ⟨_,rfl,ρ',rfl,hk⟩
 exact⟨ρ',rfl,hk⟩
end
section
variable {AV:Type} {P:Program} {N:Env AV}
def T.bool:T (SV×Hp AV)->Bool
 | .leaf r=>match r.1 with
   | .v (.c c)=>match gq c with
     | some (b,_)=>b
     | none=>false
   | _=>false
 | .ite b t e=>match b with | true=>t.bool | false=>e.bool
 | .need b t=>match b with | true=>t.bool | false=>false
 | .fail _=>false
structure Quiet (w w':World):Prop where
 block:∀k,k < w.heap.size->w'.heap[k]?=w.heap[k]?
 os:w'.os=w.os
 tape:w'.tape=w.tape
 output:w'.output=w.output
 size:w.heap.size<=w'.heap.size
def Plain:SV->Prop
 | .v x=>∀c∈x.cells,c.name=none
 | .tup l=>∀x∈l,∀c∈x.cells,c.name=none
 | .unk=>True
 | .clo _ l=>∀c∈l,c.name=none
theorem Plain.cl {v:SV} (h:Plain v) (H:Hp AV):ClV H v:=by
 cases v with
 | v x=>exact eh h
 | tup l=>exact fun x hx=>eh (h x hx)
 | unk=>trivial
 | clo f l=>exact eh h
theorem Plain.den {v:SV} (h:Plain v) (ρ ρ':Nm):v.den ρ'=v.den ρ:=SV.den_congr (H:=([]:Hp Unit)) (h.cl _) (fun n c hc=>by simp [ab] at hc)
end
section
variable {AV:Type} {P:Program} {N:Env AV}
structure Fr (S S':Nat->Prop) (w w':World):Prop where
 frame:∀k,k < w.heap.size->¬S k->w'.heap[k]?=w.heap[k]?
 new:∀k,S' k->w.heap.size<=k \/ S k
 os:w'.os=w.os
 tape:w'.tape=w.tape
 output:w'.output=w.output
 size:w.heap.size<=w'.heap.size
theorem Quiet.fr {w w':World} (h:Quiet w w') (S:Nat->Prop):Fr S S w w' :=
 ⟨fun k hk _=>h.block k hk,fun _ hk=>.inr hk,h.os,h.tape,h.output,h.size⟩
structure Less (s t:St AV):Prop where
 H:t.H=s.H
 E:∀k,look t.E k=.unk \/ look t.E k=look s.E k
theorem Less.at {s t:St AV} (h:Less s t) {nt:Nat} {ρ:Nm} {a:Act} {w:World} (ha:At N nt ρ s a w):At N nt ρ t a w:=by
 refine⟨⟨ha.em.size,fun k hk=>?_⟩,by rw [h.H];exact ha.own⟩
 rcases h.E k with e | e
 ·exact absurd e hk
 ·rw [e] at hk ⊢
  exact ha.em.get k hk
theorem Less.closed {s t:St AV} (h:Less s t) (hc:Closed N s):Closed N t:=by
 refine⟨fun k=>?_,by rw [h.H];exact hc.H⟩
 rcases h.E k with e | e
 ·rw [e];trivial
 ·rw [e,h.H];exact hc.E k
def only (ks:List Nat) (E:Ev):Nat->Ev
 | 0=>[]
 | k+1=>(k,match iU ks k with | true=>look E k | false=>.unk)::only ks E k
theorem eu (ks:List Nat) (E:Ev):∀(n k:Nat),look (only ks E n) k=if k < n then(match iU ks k with | true=>look E k | false=>.unk) else bV
 | 0,k=>by simp [only,look]
 | n+1,k=>by
   simp only [only,look]
   by_cases h:n=k
   ·subst h;simp [Nat.beq_refl]
   ·rw [(aR n k).2 h,eu ks E n k]
    by_cases h1:k < n
    ·rw [if_pos h1,if_pos (by omega)]
    ·rw [if_neg h1,if_neg (by omega)]
end
section
variable {AV:Type}
theorem V3 {N N':Env AV} (hF:N'.F=N.F) {ρ:Nm} {n:Nat} {w:World} {c:Chunk AV} (h:c.q N ρ n w):c.q N' ρ n w:=by
 cases c with
 | cells l t=>exact h
 | vec l e t=>exact h
 | dead=>trivial
 | abs a=>show N'.F.q _ _ _ _;rw [hF];exact h
theorem je {N N':Env AV} (hF:N'.F=N.F) (hG:N'.G=N.G) {ρ:Nm} {H:Hp AV} {w:World} (h:Own N ρ H w):Own N' ρ H w :=
 ⟨⟨fun n c hc=>V3 hF (h.q n c hc),h.dis,by rw [hG];exact h.glb⟩,by unfold Xz;rw [hF];exact h.ro⟩
theorem rY {N:Env AV} (N':Env AV) {L:Nat} {ρ ρ':Nm} {H H':Hp AV} {w w':World} (h:Evo N L ρ H w ρ' H' w'):Evo N' L ρ H w ρ' H' w' :=
 ⟨h.pers,h.agree,h.non,h.len,h.frame,h.new,h.os,h.tape,h.output,h.size⟩
theorem m5 {N:Env AV} (N':Env AV) {s:St AV} (h:Closed N s):Closed N' s:=⟨h.E,h.H⟩
def Says (nt:Nat) (E E':Ev):Prop:=(∀k,k < nt->look E' k=.unk \/ look E' k=look E k \/ (look E k≠.unk /\ Plain (look E' k) /\ ∀ρ,(look E' k).den ρ=(look E k).den ρ)) /\ ∀k,nt<=k->look E' k=bV
theorem Says.em {nt:Nat} {E E':Ev} (h:Says nt E E') {ρ:Nm} {a:Act} (he:EM ρ nt E a):EM ρ nt E' a:=by
 refine⟨he.size,fun k hk=>?_⟩
 rcases Nat.lt_or_ge k nt with hlt | hge
 ·rcases h.1 k hlt with e | e | ⟨e1,_,e2⟩
  ·exact absurd e hk
  ·rw [e] at hk ⊢
   exact he.get k hk
  ·rw [e2];exact he.get k e1
 ·rw [h.2 k hge]
  have:a.tmps[k]?=none:=by rw [Array.getElem?_eq_none];rw [he.size];exact hge
  simp [Array.getD_eq_getD_getElem?,this,bV,SV.den,undef]
theorem Says.closed {N N':Env AV} {nt:Nat} {E E':Ev} (h:Says nt E E') {H:Hp AV} (hc:Closed N {E:=E,H:=H}):Closed N' {E:=E',H:=H}:=by
 refine⟨fun k=>?_,hc.H⟩
 rcases Nat.lt_or_ge k nt with hlt | hge
 ·rcases h.1 k hlt with e | e | ⟨_,e,_⟩
  ·simp only [e];trivial
  ·simp only [e];exact hc.E k
  ·exact e.cl _
 ·simp only [h.2 k hge];exact hD _
end
section
variable {AV:Type} {P:Program} {N:Env AV}
theorem Dc (H:Hp AV) (c:Chunk AV) (n:Nat):ab (H++[some c]) n=if n=H.length then some c else ab H n:=by
 induction H generalizing n with
 | nil=>cases n<;>simp [ab]
 | cons x r ih =>
   cases n with
   | zero=>simp [ab]
   | succ n=>simp only [List.cons_append,ab,ih n,List.length_cons,Nat.add_right_cancel_iff]
def cU (H:Hp AV):Option Nat->Hp AV
 | none=>H
 | some n=>bC H n (some .dead)
theorem xL (H:Hp AV) (d:Option Nat):(cU H d).length=H.length:=by cases d<;>simp [cU,bX]
theorem wX {ρ:Nm} {H:Hp AV} {w w':World} (hO:Own N ρ H w) (hC:bU N H) (hG:N.G<=H.length) {d:Option Nat} {ck:Chunk AV} (hd:∀n,d=some n->∃c,ab H n=some c) (hck:ClL H ck.cellsOf) {lc:Loc} {S:Nat->Prop}
 (hfr:∀k,k < w.heap.size->(∀n c,d=some n->ab H n=some c->¬c.fp ρ n k)->w'.heap[k]?=w.heap[k]?) (hos:w'.os=w.os) (htp:w'.tape=w.tape) (hout:w'.output=w.output) (hsz:w.heap.size<=w'.heap.size)
 (hq:ck.q N (ρ.set H.length lc S) H.length w') (hfp:∀k,ck.fp (ρ.set H.length lc S) H.length k->w.heap.size<=k \/ ∃n c,d=some n /\ ab H n=some c /\ c.fp ρ n k) :
 Own N (ρ.set H.length lc S) (cU H d++[some ck]) w' /\ Evo N H.length ρ H w (ρ.set H.length lc S) (cU H d++[some ck]) w' /\ bU N (cU H d++[some ck]):=by
 have hget':∀n,ab (cU H d++[some ck]) n=if n=H.length then some ck else if d=some n then some .dead else ab H n:=fun n=>by
  rw [Dc,xL]
  by_cases e:n=H.length
  ·rw [if_pos e,if_pos e]
  ·rw [if_neg e,if_neg e]
   cases d with
   | none=>simp [cU]
   | some m =>
     obtain⟨c,hc⟩:=hd m rfl
     by_cases e':m=n
     ·subst e';simp [cU,bn _ (aX hc)]
     ·have:¬(some m=some n):=fun h=>e' (Option.some.inj h)
      rw [if_neg this];simp only [cU,aK _ e']
 have hne:∀n c,ab H n=some c->n≠H.length:=fun n c h e=>by have:=aX h;omega
 have hag:∀n c,ab H n=some c->(ρ.set H.length lc S).L n=ρ.L n:=fun n c h=>(ρ.set_ne lc S (hne n c h)).1
 have hagS:∀n c,ab H n=some c->(ρ.set H.length lc S).S n=ρ.S n:=fun n c h=>(ρ.set_ne lc S (hne n c h)).2
 have pers:∀n c,ab H n=some c->∃c',ab (cU H d++[some ck]) n=some c':=fun n c h=>by
  rw [hget',if_neg (hne n c h)]
  by_cases e:d=some n
  ·exact⟨_,if_pos e⟩
  ·exact⟨c,by rw [if_neg e];exact h⟩
 have cases3:∀n c,ab (cU H d++[some ck]) n=some c->(n=H.length /\ c=ck) \/ (c=.dead) \/ (n≠H.length /\ d≠some n /\ ab H n=some c):=fun n c h=>by
  rw [hget'] at h
  by_cases e:n=H.length
  ·rw [if_pos e] at h;exact .inl ⟨e,(Option.some.inj h).symm⟩
  ·rw [if_neg e] at h
   by_cases e':d=some n
   ·rw [if_pos e'] at h;exact .inr (.inl (Option.some.inj h).symm)
   ·rw [if_neg e'] at h;exact .inr (.inr ⟨e,e',h⟩)
 have keep:∀n c k,d≠some n->ab H n=some c->c.fp ρ n k->w'.heap[k]?=w.heap[k]?:=fun n c k hn hc hk =>
  hfr k (hO.lt hc hk) fun m x hm hx hf=>hO.dis n m c x (fun e=>hn (by rw [hm,e])) hc hx k hk hf
 refine hO.up3 ⟨⟨?_,?_,?_⟩,⟨pers,hag,?_,?_,?_,?_,hos,htp,hout,hsz⟩,?_,trivial⟩
 ·intro n c hc
  rcases cases3 n c hc with⟨rfl,rfl⟩ | rfl | ⟨_,hn,h⟩
  ·exact hq
  ·trivial
  ·exact jK (hO.q n c h) (hag n c h) (hagS n c h) (denL_congr (hC.1 n c h) hag) (fun k hk=>keep n c k hn h hk)
 ·intro n m c x hnm hc hx k hk hk'
  rcases cases3 n c hc with⟨rfl,rfl⟩ | rfl | ⟨_,hn,h⟩
  ·rcases cases3 m x hx with⟨rfl,_⟩ | rfl | ⟨_,hm,h'⟩
   ·exact hnm rfl
   ·exact hk'
   ·rw [bA (hag m x h') (hagS m x h')] at hk'
    rcases hfp k hk with h1 | ⟨n0,c0,hd0,hc0,hk0⟩
    ·have:=hO.lt h' hk';omega
    ·exact hO.dis m n0 x c0 (fun e=>hm (by rw [hd0,e])) h' hc0 k hk' hk0
  ·exact hk
  ·rw [bA (hag n c h) (hagS n c h)] at hk
   rcases cases3 m x hx with⟨rfl,rfl⟩ | rfl | ⟨_,hm,h'⟩
   ·rcases hfp k hk' with h1 | ⟨n0,c0,hd0,hc0,hk0⟩
    ·have:=hO.lt h hk;omega
    ·exact hO.dis n n0 c c0 (fun e=>hn (by rw [hd0,e])) h hc0 k hk hk0
   ·exact hk'
   ·rw [bA (hag m x h') (hagS m x h')] at hk'
    exact hO.dis n m c x hnm h h' k hk hk'
 ·intro g hg
  have:g≠H.length:=by omega
  have h2:=(ρ.set_ne lc S this).1
  simp only [Nm.f,h2]
  exact hO.glb g hg
 ·intro n hn hh
  rw [hget',if_neg (by omega)]
  have:d≠some n:=fun e=>by obtain⟨c,hc⟩:=hd n e;rw [hc] at hh;cases hh
  rw [if_neg this];exact hh
 ·simp [xL]
 ·intro k hk hno
  exact hfr k hk fun n c _ hc hf=>hno n c hc hf
 ·intro n c k hc hk
  rcases cases3 n c hc with⟨rfl,rfl⟩ | rfl | ⟨_,_,h⟩
  ·rcases hfp k hk with h1 | ⟨n0,c0,_,hc0,hk0⟩
   ·exact .inl h1
   ·exact .inr ⟨n0,c0,hc0,hk0⟩
  ·exact hk.elim
  ·rw [bA (hag n c h) (hagS n c h)] at hk
   exact .inr ⟨n,c,h,hk⟩
 ·intro n x hc
  rcases cases3 n x hc with⟨rfl,rfl⟩ | rfl | ⟨_,_,h⟩
  ·exact hck.mono pers
  ·intro c hc;cases hc
  ·exact(hC.1 n x h).mono pers
end
end Go.Sx
