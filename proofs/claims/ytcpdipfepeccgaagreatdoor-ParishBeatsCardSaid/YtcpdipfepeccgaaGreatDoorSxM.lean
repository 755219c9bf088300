import Derived.Test.YtcpdipfepeccgaaGreatDoorSxL
import Derived.LoopN
set_option linter.unusedVariables false
set_option linter.unusedSimpArgs false
set_option maxHeartbeats 4000000
namespace Go.Sx
variable {AV:Type} {P:Program} {N:Env AV}
def Fh:Ex->Exit
 | .normal=>.normal
 | .exit id=>.exit id
 | .ret=>.ret
theorem qA {nt:Nat}:∀{l:List Oper},dstsOk nt l=true->∀o∈l,∀d,o.dst=some d->d < nt
 | [],_,o,ho,_,_=>by cases ho
 | o::r,h,o',ho,d,hd=>by
   simp only [dstsOk] at h
   cases hod:o.dst with
   | none =>
     simp only [hod] at h
     rcases List.mem_cons.1 ho with rfl | ho
     ·rw [hod] at hd;cases hd
     ·exact qA h o' ho d hd
   | some d' =>
     simp only [hod] at h
     split at h
     ·rename_i hlt
      rcases List.mem_cons.1 ho with rfl | ho
      ·rw [hod] at hd;cases hd;exact(b4 _ _).1 hlt
      ·exact qA h o' ho d hd
     ·cases h
theorem room {nt L:Nat} {ρ:Nm} {s:St AV} (k:Nat) (hcl:Closed N s):Closed N {s with H:=s.H++nones AV k} /\
 ∀{a:Act} {w:World},At N nt ρ s a w->At N nt ρ {s with H:=s.H++nones AV k} a w /\ Evo N L ρ s.H w ρ (s.H++nones AV k) w:=by
 have hg:∀n,hget (s.H++nones AV k) n=hget s.H n:=Ce s.H k
 have up:∀n c,hget s.H n=some c->∃c',hget (s.H++nones AV k) n=some c':=fun n c h=>⟨c,by rw [hg];exact h⟩
 refine⟨⟨fun k'=>(hcl.E k').mono up,fun n x h=>(hcl.H n x (by rw [<- hg n];exact h)).mono up⟩,fun {a w} hat=>⟨⟨hat.em,?_⟩,?_⟩⟩
 ·exact hat.own.sub ⟨fun n c h=>hat.own.q n c (by rw [<- hg n];exact h),fun n m c d hnm h h'=>hat.own.dis n m c d hnm (by rw [<- hg n];exact h) (by rw [<- hg m];exact h'),hat.own.glb⟩ fun n c k h hk=>⟨n,c,by rw [<- hg n];exact h,hk⟩
 ·refine⟨up,fun _ _ _=>rfl,fun n _ h=>by rw [hg];exact h,by simp,fun _ _ _=>rfl,fun n c k h hk=>.inr ⟨n,c,by rw [<- hg n];exact h,hk⟩,rfl,rfl,rfl,Nat.le_refl _⟩
def aT:Code->List (Nat×Code)
 | .seq a b=>aT a++aT b
 | .cond _ a b=>aT a++aT b
 | .block _ c=>aT c
 | .loop c=>match kL c with
   | some id=>(id,c)::aT c
   | none=>aT c
 | _=>[]
def b7 (P:Program) (N:Env AV) (nt:Nat) (c:Code) (g:St AV->T (Ex×St AV)):Prop :=
 ∀(L:Nat) (s s':St AV) (ex:Ex),(g s).val=some (ex,s')->Closed N s->L<=s.H.length ->
   Closed N s' /\ L<=s'.H.length /\ ∀{ρ:Nm} {a:Act} {w:World},At N nt ρ s a w->(Code.loop c).wp P (fun e a' w'=>e=Fh ex /\ Lands N nt L ρ s w a s' a' w') a w
def CK (P:Program) (N:Env AV) (nt:Nat) (c:Code) (lp:Nat->Option (St AV->T (Ex×St AV))):Prop :=
 ∀id b,(id,b)∈aT c->∀g,lp id=some g->b7 P N nt b g
theorem pQ (E:Ev):∀(n k:Nat),look (tidy E n) k=if k < n then look E k else bc
 | 0,k=>by simp [tidy,look]
 | n+1,k=>by
   simp only [tidy,look]
   by_cases h:n=k
   ·subst h;simp [Nat.beq_refl]
   ·rw [(aD n k).2 h,pQ E n k]
    by_cases h1:k < n
    ·rw [if_pos h1,if_pos (by omega)]
    ·rw [if_neg h1,if_neg (by omega)]
theorem Kv {nt:Nat} {ρ:Nm} {s:St AV} {a:Act} {w:World} (h:At N nt ρ s a w):At N nt ρ {s with E:=tidy s.E nt} a w:=by
 refine⟨⟨h.em.size,fun k hk=>?_⟩,h.own⟩
 simp only [pQ] at hk ⊢
 split
 ·rename_i hl
  rw [if_pos hl] at hk
  exact h.em.get k hk
 ·rename_i hl
  have:a.tmps[k]?=none:=by rw [Array.getElem?_eq_none];rw [h.em.size];omega
  simp [Array.getD_eq_getD_getElem?,this,bc,SV.den,undef]
theorem Ku {nt:Nat} {s:St AV} (h:Closed N s):Closed N {s with E:=tidy s.E nt}:=by
 refine⟨fun k=>?_,h.H⟩
 simp only [pQ]
 split
 ·exact h.E k
 ·exact fC _
theorem vJ {nt L:Nat} {c:Code} {f:St AV->T (Ex×St AV)}
 (hf:∀(s s':St AV) (ex:Ex),(f s).val=some (ex,s')->Closed N s->L<=s.H.length->Closed N s' /\ L<=s'.H.length /\ ∀{ρ:Nm} {a:Act} {w:World},At N nt ρ s a w->c.wp P (fun e a' w'=>e=Fh ex /\ Lands N nt L ρ s w a s' a' w') a w) :
 ∀(n:Nat) (s s':St AV) (ex:Ex),(rounds nt f n s).val=some (ex,s')->Closed N s->L<=s.H.length ->
   Closed N s' /\ L<=s'.H.length /\ ∀{ρ:Nm} {a:Act} {w:World},At N nt ρ s a w->∀{Q:Exit->Act->World->Prop},(∀a' w',Lands N nt L ρ s w a s' a' w'->Q (Fh ex) a' w')->Code.rounds P c Q n a w
 | 0,s,s',ex,h,_,_=>by simp [rounds,T.val] at h
 | n+1,s,s',ex,h,hcl,hH=>by
   simp only [rounds] at h
   obtain⟨⟨ex1,s₁⟩,h1,h2⟩:=T.bind_some h
   obtain⟨c1,l1,k1⟩:=hf s s₁ ex1 h1 hcl hH
   cases ex1 with
   | normal =>
     simp only at h2
     obtain⟨c2,l2,k2⟩:=vJ hf n _ s' ex h2 (Ku c1) l1
     refine⟨c2,l2,fun {ρ a w} hat Q hQ=>wp_mono (k1 hat) ?_⟩
     rintro e a₁ w₁ ⟨rfl,⟨⟨ρ₁,e1,o1,v1⟩,d1⟩⟩
     refine k2 (Kv ⟨e1,o1⟩) fun a₂ w₂ hl=>hQ a₂ w₂ ?_
     obtain⟨⟨ρ₂,e2,o2,v2⟩,d2⟩:=hl
     exact⟨⟨ρ₂,e2,o2,v1.trans v2⟩,d2.trans d1⟩
   | exit id =>
     simp only [T.val,Option.some.injEq,Prod.mk.injEq] at h2
     obtain⟨rfl,rfl⟩:=h2
     refine⟨c1,l1,fun {ρ a w} hat Q hQ=>wp_mono (k1 hat) ?_⟩
     rintro e a₁ w₁ ⟨rfl,hl⟩
     exact hQ a₁ w₁ hl
   | ret =>
     simp only [T.val,Option.some.injEq,Prod.mk.injEq] at h2
     obtain⟨rfl,rfl⟩:=h2
     refine⟨c1,l1,fun {ρ a w} hat Q hQ=>wp_mono (k1 hat) ?_⟩
     rintro e a₁ w₁ ⟨rfl,hl⟩
     exact hQ a₁ w₁ hl
theorem mT (hT:TblOk P N) {cal:Callee AV} (hcal:cP P N cal) {lp:Nat->Option (St AV->T (Ex×St AV))} {nt L:Nat}:∀(c:Code),CK P N nt c lp->∀(s s':St AV) (ex:Ex),(xc N cal lp nt c s).val=some (ex,s')->Closed N s->L<=s.H.length ->
 Closed N s' /\ L<=s'.H.length /\ ∀{ρ:Nm} {a:Act} {w:World},At N nt ρ s a w->c.wp P (fun e a' w'=>e=Fh ex /\ Lands N nt L ρ s w a s' a' w') a w
 | .skip,hlp,s,s',ex,h,hcl,hH=>by
   simp only [xc,T.val,Option.some.injEq,Prod.mk.injEq] at h
   obtain⟨rfl,rfl⟩:=h
   exact⟨hcl,hH,fun {ρ a w} hat=>wp_skip ⟨rfl,⟨ρ,hat.em,hat.own,Evo.refl _ _ _ _⟩,rfl⟩⟩
 | .label l,hlp,s,s',ex,h,hcl,hH=>by
   simp only [xc,T.val,Option.some.injEq,Prod.mk.injEq] at h
   obtain⟨rfl,rfl⟩:=h
   exact⟨hcl,hH,fun {ρ a w} hat=>wp_label ⟨rfl,⟨ρ,hat.em,hat.own,Evo.refl _ _ _ _⟩,rfl⟩⟩
 | .exit id,hlp,s,s',ex,h,hcl,hH=>by
   simp only [xc,T.val,Option.some.injEq,Prod.mk.injEq] at h
   obtain⟨rfl,rfl⟩:=h
   exact⟨hcl,hH,fun {ρ a w} hat=>wp_exit ⟨rfl,⟨ρ,hat.em,hat.own,Evo.refl _ _ _ _⟩,rfl⟩⟩
 | .ret,hlp,s,s',ex,h,hcl,hH=>by
   simp only [xc,T.val,Option.some.injEq,Prod.mk.injEq] at h
   obtain⟨rfl,rfl⟩:=h
   exact⟨hcl,hH,fun {ρ a w} hat=>wp_ret ⟨rfl,⟨ρ,hat.em,hat.own,Evo.refl _ _ _ _⟩,rfl⟩⟩
 | .region id ops d,hlp,s,s',ex,h,hcl,hH=>by
   simp only [xc,growH_eq] at h
   split at h
   ·simp [T.val] at h
   ·rename_i hdst
    have hd:=qA hdst
    split at h
    ·-- in the order of the text
     obtain⟨m,h1,h2⟩:=T.bind_some h
     simp only [T.val,Option.some.injEq,Prod.mk.injEq] at h2
     obtain⟨rfl,rfl⟩:=h2
     have hr:=fun ρ=>room (nt:=nt) (L:=L) (ρ:=ρ) (countMk ops.toList) hcl
     have hlen0:L<=(s.H++nones AV (countMk ops.toList)).length:=by simp;omega
     have hc0:=(hr Nm.id).1
     have hst:=fun s₁ h1=>sK (P:=P) (nt:=nt) hT hcal ops hH ops.toList 0 _ s₁ h1 hc0 hlen0 hd
     have hA:=fun s' q h=>oI (N:=N) (cal:=cal) (base:=s.H.length) (all:=ops.toList) ({s with H:=s.H++nones AV (countMk ops.toList)}:St AV) ops.toList 0 [] true ({s with H:=s.H++nones AV (countMk ops.toList)}:St AV) s' q (AN _) ⟨[],rfl⟩ (fun _=>rfl) h
     obtain⟨s₁,q₁,h1,href,hcm⟩:=uh hc0 h1 (fun s' q h=>⟨(hst s' (hA s' q h).1).1,(hA s' q h).2⟩)
     replace h1:=(hA s₁ q₁ h1).1
     obtain⟨c1,k1⟩:=hst s₁ h1
     refine⟨hcm,by rw [href.H];exact Nat.le_trans hlen0 (qP _ _ _ _ h1),fun {ρ a w} hat=>?_⟩
     obtain⟨hat0,ev0⟩:=(hr ρ).2 hat
     refine wp_region_list (k1 hat0 fun a' w' hl=>⟨rfl,?_⟩)
     obtain⟨⟨ρ₁,e1,o1,v1⟩,d1⟩:=hl
     exact⟨⟨ρ₁,href.em e1,by rw [href.H];exact o1,by rw [href.H];exact ev0.trans v1⟩,d1⟩
    ·-- its order is open
     split at h
     ·simp [T.val] at h
     ·simp [T.val] at h
     ·rename_i hap hG
      obtain⟨m,h1,h2⟩:=T.bind_some h
      simp only [T.val,Option.some.injEq,Prod.mk.injEq] at h2
      obtain⟨rfl,rfl⟩:=h2
      have hG:=Nat.le_of_ble_eq_true hG
      have hr:=fun ρ=>room (nt:=nt) (L:=L) (ρ:=ρ) (countMk ops.toList) hcl
      have hlen0:L<=(s.H++nones AV (countMk ops.toList)).length:=by simp;omega
      have hc0:=(hr Nm.id).1
      have hst:=fun s₁ h1=>zf (P:=P) (nt:=nt) (L:=L) (s':=s₁) hT hcal ops hap hH hG h1 hc0 hlen0 hd (by simp [wq])
      have hA:=fun s' q h=>mZ (N:=N) (cal:=cal) (base:=s.H.length) (all:=ops.toList) ({s with H:=s.H++nones AV (countMk ops.toList)}:St AV) ops.toList 0 [] [] true ({s with H:=s.H++nones AV (countMk ops.toList)}:St AV) s' q (AN _) ⟨[],rfl⟩ (fun _=>rfl) h
      obtain⟨s₁,q₁,h1,href,hcm⟩:=uh hc0 h1 (fun s' q h=>⟨(hst s' (hA s' q h).1).1,(hA s' q h).2⟩)
      replace h1:=(hA s₁ q₁ h1).1
      obtain⟨c1,l1,k1⟩:=hst s₁ h1
      refine⟨hcm,by rw [href.H];exact l1,fun {ρ a w} hat=>?_⟩
      obtain⟨hat0,ev0⟩:=(hr ρ).2 hat
      refine k1 hat0 fun a' w' hl=>⟨rfl,?_⟩
      obtain⟨⟨ρ₁,e1,o1,v1⟩,d1⟩:=hl
      exact⟨⟨ρ₁,href.em e1,by rw [href.H];exact o1,by rw [href.H];exact ev0.trans v1⟩,d1⟩
 | .seq x y,hlp,s,s',ex,h,hcl,hH=>by
   simp only [xc] at h
   obtain⟨⟨ex1,s₁⟩,h1,h2⟩:=T.bind_some h
   obtain⟨c1,l1,k1⟩:=mT hT hcal (nt:=nt) (L:=L) x (fun i b hb=>hlp i b (by simp only [aT,List.mem_append];exact .inl hb)) s s₁ ex1 h1 hcl hH
   cases ex1 with
   | normal =>
     simp only at h2
     obtain⟨c2,l2,k2⟩:=mT hT hcal (nt:=nt) (L:=L) y (fun i b hb=>hlp i b (by simp only [aT,List.mem_append];exact .inr hb)) s₁ s' ex h2 c1 l1
     refine⟨c2,l2,fun {ρ a w} hat=>wp_seq (wp_mono (k1 hat) ?_)⟩
     rintro e a₁ w₁ ⟨rfl,⟨⟨ρ₁,e1,o1,v1⟩,d1⟩⟩
     refine wp_mono (k2 ⟨e1,o1⟩) ?_
     rintro e a₂ w₂ ⟨rfl,⟨⟨ρ₂,e2,o2,v2⟩,d2⟩⟩
     exact⟨rfl,⟨ρ₂,e2,o2,v1.trans v2⟩,d2.trans d1⟩
   | exit id =>
     simp only [T.val,Option.some.injEq,Prod.mk.injEq] at h2
     obtain⟨rfl,rfl⟩:=h2
     refine⟨c1,l1,fun {ρ a w} hat=>wp_seq (wp_mono (k1 hat) ?_)⟩
     rintro e a₁ w₁ ⟨rfl,hl⟩
     exact⟨rfl,hl⟩
   | ret =>
     simp only [T.val,Option.some.injEq,Prod.mk.injEq] at h2
     obtain⟨rfl,rfl⟩:=h2
     refine⟨c1,l1,fun {ρ a w} hat=>wp_seq (wp_mono (k1 hat) ?_)⟩
     rintro e a₁ w₁ ⟨rfl,hl⟩
     exact⟨rfl,hl⟩
 | .cond c x y,hlp,s,s',ex,h,hcl,hH=>by
   simp only [xc] at h
   split at h
   ·rename_i cc hc
    split at h
    ·rename_i t hb
     split at h
     ·obtain⟨c1,l1,k1⟩:=mT hT hcal (nt:=nt) (L:=L) x (fun i b hb=>hlp i b (by simp only [aT,List.mem_append];exact .inl hb)) s s' ex h hcl hH
      refine⟨c1,l1,fun {ρ a w} hat=>wp_cond_true ?_ (k1 hat)⟩
      exact((dE hat.em hcl hat.own.glb).den _ _ hc).trans (bY ρ hb)
     ·obtain⟨c1,l1,k1⟩:=mT hT hcal (nt:=nt) (L:=L) y (fun i b hb=>hlp i b (by simp only [aT,List.mem_append];exact .inr hb)) s s' ex h hcl hH
      refine⟨c1,l1,fun {ρ a w} hat=>wp_cond_false ?_ (k1 hat)⟩
      exact((dE hat.em hcl hat.own.glb).den _ _ hc).trans (bY ρ hb)
    ·rename_i t hb
     cases t with
     | true =>
       obtain⟨c1,l1,k1⟩:=mT hT hcal (nt:=nt) (L:=L) x (fun i b hb=>hlp i b (by simp only [aT,List.mem_append];exact .inl hb)) s s' ex h hcl hH
       refine⟨c1,l1,fun {ρ a w} hat=>wp_cond_true ?_ (k1 hat)⟩
       exact((dE hat.em hcl hat.own.glb).den _ _ hc).trans (bY ρ hb)
     | false =>
       obtain⟨c1,l1,k1⟩:=mT hT hcal (nt:=nt) (L:=L) y (fun i b hb=>hlp i b (by simp only [aT,List.mem_append];exact .inr hb)) s s' ex h hcl hH
       refine⟨c1,l1,fun {ρ a w} hat=>wp_cond_false ?_ (k1 hat)⟩
       exact((dE hat.em hcl hat.own.glb).den _ _ hc).trans (bY ρ hb)
    ·simp [T.val] at h
   ·simp [T.val] at h
 | .block id c,hlp,s,s',ex,h,hcl,hH=>by
   simp only [xc] at h
   obtain⟨⟨ex1,s₁⟩,h1,h2⟩:=T.bind_some h
   obtain⟨c1,l1,k1⟩:=mT hT hcal (nt:=nt) (L:=L) c (fun i b hb=>hlp i b (by simpa [aT] using hb)) s s₁ ex1 h1 hcl hH
   cases ex1 with
   | normal =>
     simp only [T.val,Option.some.injEq,Prod.mk.injEq] at h2
     obtain⟨rfl,rfl⟩:=h2
     refine⟨c1,l1,fun {ρ a w} hat=>wp_block (wp_mono (k1 hat) ?_)⟩
     rintro e a₁ w₁ ⟨rfl,hl⟩
     exact⟨rfl,hl⟩
   | ret =>
     simp only [T.val,Option.some.injEq,Prod.mk.injEq] at h2
     obtain⟨rfl,rfl⟩:=h2
     refine⟨c1,l1,fun {ρ a w} hat=>wp_block (wp_mono (k1 hat) ?_)⟩
     rintro e a₁ w₁ ⟨rfl,hl⟩
     exact⟨rfl,hl⟩
   | exit j =>
     simp only at h2
     split at h2
     ·rename_i hj
      have hj:=(af _ _).1 hj
      subst hj
      simp only [T.val,Option.some.injEq,Prod.mk.injEq] at h2
      obtain⟨rfl,rfl⟩:=h2
      refine⟨c1,l1,fun {ρ a w} hat=>wp_block (wp_mono (k1 hat) ?_)⟩
      rintro e a₁ w₁ ⟨rfl,hl⟩
      show Exit.inBlock j _ (.exit j) a₁ w₁
      simp only [Exit.inBlock,if_true]
      exact⟨rfl,hl⟩
     ·rename_i hj
      have hj:=(aD _ _).1 hj
      simp only [T.val,Option.some.injEq,Prod.mk.injEq] at h2
      obtain⟨rfl,rfl⟩:=h2
      refine⟨c1,l1,fun {ρ a w} hat=>wp_block (wp_mono (k1 hat) ?_)⟩
      rintro e a₁ w₁ ⟨rfl,hl⟩
      show Exit.inBlock id _ (.exit j) a₁ w₁
      simp only [Exit.inBlock,if_neg hj]
      exact⟨rfl,hl⟩
 | .loop c,hlp,s,s',ex,h,hcl,hH=>by
   simp only [xc] at h
   split at h
   ·simp [T.val] at h
   ·rename_i id hid
    split at h
    ·rename_i g hg
     exact hlp id c (by simp [aT,hid]) g hg L s s' ex h hcl hH
    ·obtain⟨c1,l1,k1⟩:=vJ (P:=P) (c:=c) (fun s s' ex h hcl hH=>mT hT hcal (nt:=nt) (L:=L) c (fun i b hb=>hlp i b (by simp [aT,hid,hb])) s s' ex h hcl hH) 3000 s s' ex h hcl hH
     exact⟨c1,l1,fun {ρ a w} hat=>wp_loop_rounds 3000 (k1 hat fun a' w' hl=>⟨rfl,hl⟩)⟩
 | .rangeFunc _ _ _ _,_,_,_,_,h,_,_=>by simp [xc,T.val] at h
 | .scope _,_,_,_,_,h,_,_=>by simp [xc,T.val] at h
 | .goto _,_,_,_,_,h,_,_=>by simp [xc,T.val] at h
 | .refuse _,_,_,_,_,h,_,_=>by simp [xc,T.val] at h
def Rnd (P:Program) (N:Env AV) (nt:Nat) (c:Code) (s:St AV) (ex:Ex) (s':St AV):Prop:=∀(L:Nat),Closed N s->L<=s.H.length ->
 Closed N s' /\ L<=s'.H.length /\ ∀{ρ:Nm} {a:Act} {w:World},At N nt ρ s a w->c.wp P (fun e a' w'=>e=Fh ex /\ Lands N nt L ρ s w a s' a' w') a w
theorem BM (hT:TblOk P N) {cal:Callee AV} (hcal:cP P N cal) {lp:Nat->Option (St AV->T (Ex×St AV))} {nt:Nat} {c:Code} (hlp:CK P N nt c lp) {s s':St AV} {ex:Ex} (h:(xc N cal lp nt c s).val=some (ex,s')):Rnd P N nt c s ex s' :=
 fun L hcl hH=>mT hT hcal c hlp s s' ex h hcl hH
theorem sU (hT:TblOk P N) {s:St AV} (hcl:Closed N s):∀{rs:List ResultVar} {l:List V1},(resV N s rs).val=some l ->
 (∀x∈l,ClV1 s.H x) /\ ∀{ρ:Nm} {nt:Nat} {a:Act} {w:World},At N nt ρ s a w ->
   (rs.mapM (fun | .tmp t=>pure (a.tmps.getD t undef) | .cell c t=>do loadVar t (<- asAddr (a.tmps.getD c undef))):Sem (List Value)).run P w=.ok (l.map (V1.den ρ)) w
 | [],l,h=>by
   simp only [resV,T.val,Option.some.injEq] at h
   subst h
   exact⟨by simp,fun _=>by simp⟩
 | .tmp t::rs,l,h=>by
   simp only [resV] at h
   split at h
   ·rename_i x hx
    rw [T.val_map] at h
    obtain⟨l',hl',rfl⟩:=Option.map_eq_some_iff.1 h
    obtain⟨c1,k1⟩:=sU hT hcl hl'
    refine⟨fun y hy=>?_,fun {ρ nt a w} hat=>?_⟩
    ·rcases List.mem_cons.1 hy with rfl | hy
     ·have:=hcl.E t;rw [hx] at this;exact this
     ·exact c1 y hy
    ·have e1:=hat.em.get t (by rw [hx];simp)
     rw [hx] at e1
     have k2:=k1 hat
     simp only [List.mapM_cons,Sem.run_bind,Sem.run_pure,Result.andThen_ok,k2,List.map_cons,e1,SV.den]
   ·simp [T.val] at h
 | .cell c t::rs,l,h=>by
   simp only [resV] at h
   split at h
   ·rename_i n off hx
    split at h
    ·rename_i cs ty hn
     split at h
     ·rename_i x hp
      rw [T.val_map] at h
      obtain⟨l',hl',rfl⟩:=Option.map_eq_some_iff.1 h
      obtain⟨c1,k1⟩:=sU hT hcl hl'
      refine⟨fun y hy=>?_,fun {ρ nt a w} hat=>?_⟩
      ·rcases List.mem_cons.1 hy with rfl | hy
       ·exact eg hp (hcl.H n _ hn)
       ·exact c1 y hy
      ·have e1:=hat.em.get c (by rw [hx];simp)
       rw [hx] at e1
       have k2:=k1 hat
       have:=fv (ρ:=ρ) (w:=w) hT hp (ρ n) 0 (fun j c hc=>by rw [Nat.zero_add];exact uL hat.own hn j c hc)
       rw [Nat.zero_add] at this
       have e2:a.tmps.getD c undef=.pointer (some ⟨ρ n,off,none⟩):=e1
       have e3:(asAddr (a.tmps.getD c undef)).run P w=.ok ⟨ρ n,off,none⟩ w:=by rw [e2];rfl
       simp only [List.mapM_cons,Sem.run_bind,e3,Sem.run_pure,Result.andThen_ok,this,k2,List.map_cons]
     ·simp [T.val] at h
    ·simp [T.val] at h
   ·simp [T.val] at h
theorem jM (len:Nat) (R:List Nat):∀(H:Hp AV) (i n:Nat),(hget (sweep len R i H) n=hget H n \/ (hget (sweep len R i H) n=none /\ len<=i+n)) /\ (sweep len R i H).length=H.length
 | [],i,n=>by simp [sweep]
 | x::r,i,0=>by
   refine⟨?_,by simp [sweep,(jM len R r (i+1) 0).2]⟩
   simp only [sweep,hget]
   split
   ·exact .inl rfl
   ·rename_i hlt
    have:=(dN _ _).1 hlt
    split
    ·exact .inl rfl
    ·exact .inr ⟨rfl,by omega⟩
 | x::r,i,n+1=>by
   obtain⟨h1,h2⟩:=jM len R r (i+1) n
   refine⟨?_,by simp [sweep,h2]⟩
   simp only [sweep,hget]
   rcases h1 with h1 | ⟨h1,h3⟩
   ·exact .inl h1
   ·exact .inr ⟨h1,by omega⟩
theorem iD:∀(k:Nat) (H:Hp AV) (n:Nat),hget (trim k H) n=hget H n /\ (k<=H.length->k<=(trim k H).length)
 | 0,[],n=>by simp [trim]
 | 0,none::r,n=>by
   have ih:=iD 0 r
   simp only [trim]
   refine⟨?_,by simp⟩
   split
   ·rename_i he
    cases n with
    | zero=>simp [hget]
    | succ n=>have:=(ih n).1;rw [he] at this;simp only [hget] at this ⊢;exact this
   ·cases n with
    | zero=>simp [hget]
    | succ n=>simp only [hget];exact(ih n).1
 | 0,some c::r,n=>by
   simp only [trim]
   refine⟨?_,by simp⟩
   cases n with
   | zero=>simp [hget]
   | succ n=>simp only [hget];exact(iD 0 r n).1
 | k+1,[],n=>by simp [trim]
 | k+1,x::r,n=>by
   simp only [trim]
   refine⟨?_,fun h=>by simp at h ⊢;exact(iD k r 0).2 h⟩
   cases n with
   | zero=>simp [hget]
   | succ n=>simp only [hget];exact(iD k r n).1
theorem LU (len:Nat) (v:SV) (H:Hp AV) (hle:len<=H.length):(∀n c,hget (gcH len v H) n=some c->hget H n=some c) /\ (∀n,n < len->hget (gcH len v H) n=hget H n) /\ len<=(gcH len v H).length:=by
 unfold gcH
 generalize reach H 400 (namesV v++namesH len H) []=R
 refine⟨fun n c h=>?_,fun n hn=>?_,?_⟩
 ·rw [(iD len _ n).1] at h
  rcases (jM len R H 0 n).1 with h1 | ⟨h1,_⟩
  ·rw [h1] at h;exact h
  ·rw [h1] at h;cases h
 ·rw [(iD len _ n).1]
  rcases (jM len R H 0 n).1 with h1 | ⟨_,h2⟩
  ·exact h1
  ·omega
 ·exact(iD len _ 0).2 (by rw [(jM len R H 0 0).2];exact hle)
theorem tm:∀(args:List SV) (n k:Nat),look (pad n args) k=if n<=k then(args[k - n]?).getD bc else bc
 | [],n,k=>by simp [pad,look]
 | x::r,n,k=>by
   simp only [pad,look]
   by_cases h:n=k
   ·subst h;simp [Nat.beq_refl]
   ·rw [(aD n k).2 h,tm r (n+1) k]
    by_cases h1:n+1<=k
    ·rw [if_pos h1,if_pos (by omega)]
     have:k - n=(k - (n+1))+1:=by omega
     rw [this,List.getElem?_cons_succ]
    ·rw [if_neg h1,if_neg (by omega)]
theorem HQ (ρ:Nm) (l:List V1):(fF l).den ρ=(if h:(l.map (V1.den ρ)).toArray.size=1 then(l.map (V1.den ρ)).toArray[0] else .tuple (l.map (V1.den ρ)).toArray):=by
 match l with
 | []=>rfl
 | [x]=>simp [fF,SV.den]
 | x::y::r=>simp [fF,SV.den]
def bS (P:Program) (N:Env AV):Prop:=∀f fn c,N.ft.get f=some fn->fn.body=some c->CK P N fn.ntmps c (N.lp f)
def FnOk (P:Program) (N:Env AV) (f:FuncId) (g:List SV->Hp AV->T (SV×Hp AV)):Prop :=
 ∀(args:List SV) (H:Hp AV) (v:SV) (H':Hp AV),(g args H).val=some (v,H')->(∀x∈args,ClV H x)->bB N H ->
   ClV H' v /\ bB N H' /\ ∀(ρ:Nm) (w:World),Own N ρ H w ->
    Calls P f (args.map (SV.den ρ)).toArray w fun e w'=>∃ρ',e=.returned (v.den ρ') /\ Own N ρ' H' w' /\ Evo N H.length ρ H w ρ' H' w'
theorem KJ (hT:TblOk P N) (hlps:bS P N) {cal:Callee AV} (hcal:cP P N cal) (f:FuncId):FnOk P N f (runF N cal f):=by
 intro args H v H' h hargs hC
 unfold runF at h
 split at h
 ·rename_i fn hfn
  obtain⟨k1,k2,k3⟩:=hT.fn f fn hfn
  split at h
  ·rename_i c hc
   split at h
   ·simp [T.val] at h
   ·rename_i hble
    have hle:args.length<=fn.ntmps:=Nat.le_of_ble_eq_true hble
    obtain⟨⟨ex,s'⟩,h1,h2⟩:=T.bind_some h
    have hcl:Closed N ({E:=pad 0 args,H:=H}:St AV):=by
     refine⟨fun k=>?_,hC.1⟩
     show ClV H (look (pad 0 args) k)
     rw [tm]
     simp only [Nat.zero_le,if_true,Nat.sub_zero]
     cases hk:args[k]? with
     | none=>exact fC H
     | some x=>exact hargs x (List.mem_of_getElem? hk)
    obtain⟨c1,l1,wp1⟩:=mT (P:=P) (nt:=fn.ntmps) (L:=H.length) hT hcal c (hlps f fn c hfn hc) _ s' ex h1 hcl (Nat.le_refl _)
    have h2':((resV N s' fn.results.toList).bind fun l=>match gcH H.length (fF l) s'.H with
     | H'=>match clV H' (fF l) with
       | false=>T.fail "result: names"
       | true=>match clHs H' H' with
         | false=>.fail "result: heap"
         | true=>.leaf (fF l,H')).val=some (v,H') /\ ∀id,ex≠.exit id:=by
     cases ex with
     | exit id=>simp [T.val] at h2
     | normal=>exact⟨h2,by simp⟩
     | ret=>exact⟨h2,by simp⟩
    obtain⟨h2,hex⟩:=h2'
    obtain⟨l,hl,h3⟩:=T.bind_some h2
    simp only at h3
    split at h3
    ·simp [T.val] at h3
    ·rename_i hcv
     split at h3
     ·simp [T.val] at h3
     ·rename_i hch
      simp only [T.val,Option.some.injEq,Prod.mk.injEq] at h3
      obtain⟨rfl,rfl⟩:=h3
      obtain⟨g1,g2,g3⟩:=LU H.length (fF l) s'.H l1
      have hC':bB N (gcH H.length (fF l) s'.H):=by
       exact⟨cn.1 hch,trivial⟩
      refine⟨mJ.1 hcv,hC',fun ρ w hO=>?_⟩
      obtain⟨_,rrun⟩:=sU (P:=P) hT c1 hl
      refine calls_of_wp k1 hc (wp_mono (wp1 (ρ:=ρ) ⟨⟨?_,?_⟩,hO⟩) ?_)
      ·simp;omega
      ·intro k _
       show _=(look (pad 0 args) k).den ρ
       rw [tm]
       simp only [Nat.zero_le,if_true,Nat.sub_zero]
       rw [Array.getD_eq_getD_getElem?,Array.getElem?_append]
       split
       ·rename_i hk
        simp at hk
        simp [hk]
       ·rename_i hk
        simp at hk
        rw [List.getElem?_eq_none hk]
        simp only [Option.getD_none,bc,SV.den,List.map_nil]
        rw [Array.getElem?_replicate]
        split<;>rfl
      ·rintro e a' w' ⟨rfl,⟨⟨ρ',e1,o1,v1⟩,d1⟩⟩
       have hres:=rrun (ρ:=ρ') (w:=w') ⟨e1,o1⟩
       have hresults:(results fn a'.tmps).run P w'=.ok ((fF l).den ρ') w':=by
        unfold results
        rw [<- Array.toArray_toList (xs:=fn.results),List.mapM_toArray]
        simp only [Sem.run_bind,Sem.run_map,Sem.run_pure]
        erw [hres]
        rw [HQ]
        rfl
       have final:Ending.returned ((fF l).den ρ')=.returned ((fF l).den ρ') /\ Own N ρ' (gcH H.length (fF l) s'.H) w' /\ Evo N H.length ρ H w ρ' (gcH H.length (fF l) s'.H) w':=by
        refine⟨rfl,o1.sub ⟨fun n c h=>o1.q n c (g1 n c h),fun n m c d hnm h h'=>o1.dis n m c d hnm (g1 n c h) (g1 m d h'),o1.glb⟩ (fun n c k h hk=>⟨n,c,g1 n c h,hk⟩),?_⟩
        exact⟨fun n c h=>by obtain⟨c',hc'⟩:=v1.pers n c h;exact⟨c',by rw [g2 n (aH h)];exact hc'⟩,v1.agree,fun n hn h=>by rw [g2 n hn];exact v1.non n hn h,g3,v1.frame,fun n c k h hk=>v1.new n c k (g1 n c h) hk,v1.os,v1.tape,v1.output,v1.size⟩
       cases ex with
       | exit id=>exact absurd rfl (hex id)
       | normal=>exact⟨d1,_,hresults,ρ',final⟩
       | ret=>exact⟨d1,_,hresults,ρ',final⟩
  ·simp [T.val] at h
 ·simp [T.val] at h
def bm (P:Program) (N:Env AV) (tab:FuncId->Option (List SV->Hp AV->T (SV×Hp AV))):Prop :=
 ∀f g,tab f=some g->FnOk P N f g
def FI (P:Program) (N:Env AV):Prop:=∀o,∀(args:List SV) (H:Hp AV) (v:SV) (H':Hp AV),(N.hv o args H).val=some (v,H')->(∀x∈args,ClV H x)->bB N H ->
    ClV H' v /\ bB N H' /\ ∀(ρ:Nm) (w:World),Own N ρ H w ->
     Does P (.op o) (args.map (SV.den ρ)) w fun e w'=>∃ρ',e=v.den ρ' /\ Own N ρ' H' w' /\ Evo N H.length ρ H w ρ' H' w'
theorem FnOk.does {f:FuncId} {g:List SV->Hp AV->T (SV×Hp AV)} (h:FnOk P N f g) (args:List SV) (H:Hp AV) (v:SV) (H':Hp AV) (hr:(g args H).val=some (v,H')) (ha:∀x∈args,ClV H x) (hC:bB N H) :
 ClV H' v /\ bB N H' /\ ∀(ρ:Nm) (w:World),Own N ρ H w ->
  Does P (.fn f) (args.map (SV.den ρ)) w fun e w'=>∃ρ',e=v.den ρ' /\ Own N ρ' H' w' /\ Evo N H.length ρ H w ρ' H' w':=by
 obtain⟨h1,h2,h3⟩:=h args H v H' hr ha hC
 refine⟨h1,h2,fun ρ w hO=>Calls.mono (h3 ρ w hO) ?_⟩
 rintro e w' ⟨ρ',rfl,hk⟩
 exact⟨_,rfl,ρ',rfl,hk⟩
theorem gM (H:Hp AV) {len:Nat}:∀{t:T (SV×Hp AV)} {n:Option Bool} {v:SV},joinCT len t=some (n,v)->lN n ->
 ∃r,t.val=some r /\ r.2.length=len /\ (v=.unk \/ (∀ρ:Nm,v.den ρ=r.1.den ρ))
 | .leaf r,n,v,h,hn=>by
   simp only [joinCT] at h
   split at h
   ·rename_i hl
    cases h
    exact⟨r,rfl,(af _ _).1 hl,.inr fun _=>rfl⟩
   ·cases h
 | .need b t,n,v,h,hn=>by
   simp only [joinCT] at h
   split at h
   ·rename_i v' ht
    cases h
    have hb:b=true:=hn
    subst hb
    obtain⟨r,a1,a2,a3⟩:=gM H ht trivial
    exact⟨r,a1,a2,a3⟩
   ·rename_i m v' ht
    cases h
    cases b with
    | false=>cases hn
    | true =>
      obtain⟨r,a1,a2,a3⟩:=gM H ht hn
      exact⟨r,a1,a2,a3⟩
   ·cases h
 | .ite b t e,n,v,h,hn=>by
   have key:∀(n1 n2:Option Bool) (v1 v2:SV),joinCT len t=some (n1,v1)->joinCT len e=some (n2,v2)->(b=true->lN n1)->(b=false->lN n2)->v=joinV b v1 v2 ->
    ∃r,(T.ite b t e).val=some r /\ r.2.length=len /\ (v=.unk \/ (∀ρ:Nm,v.den ρ=r.1.den ρ)):=by
    intro n1 n2 v1 v2 h1 h2 ht he hv
    have hj:=(nZ H b v1 v2).2
    rw [<- hv] at hj
    cases b with
    | true =>
      obtain⟨r,a1,a2,a3⟩:=gM H h1 (ht rfl)
      refine⟨r,a1,a2,?_⟩
      rcases hj with hj | ⟨j1,_,j3⟩
      ·exact .inl hj
      ·rcases a3 with a3 | a3
       ·exact absurd a3 j1
       ·exact .inr fun ρ=>(j3 ρ).trans (a3 ρ)
    | false =>
      obtain⟨r,a1,a2,a3⟩:=gM H h2 (he rfl)
      refine⟨r,a1,a2,?_⟩
      rcases hj with hj | ⟨j1,_,j3⟩
      ·exact .inl hj
      ·rcases a3 with a3 | a3
       ·exact absurd a3 j1
       ·exact .inr fun ρ=>(j3 ρ).trans (a3 ρ)
   simp only [joinCT] at h
   split at h
   ·rename_i v1 v2 h1 h2
    cases h
    exact key none none v1 v2 h1 h2 (fun _=>trivial) (fun _=>trivial) rfl
   ·rename_i n1 v1 v2 h1 h2
    cases h
    exact key (some n1) none v1 v2 h1 h2 (fun hb=>by subst hb;exact hn) (fun _=>trivial) rfl
   ·rename_i v1 n2 v2 h1 h2
    cases h
    exact key none (some n2) v1 v2 h1 h2 (fun _=>trivial) (fun hb=>by subst hb;exact hn) rfl
   ·rename_i n1 v1 n2 v2 h1 h2
    cases h
    exact key (some n1) (some n2) v1 v2 h1 h2 (fun hb=>by subst hb;exact hn) (fun hb=>by subst hb;exact hn) rfl
   ·cases h
 | .fail _,_,_,h,_=>by simp [joinCT] at h
theorem l6:∀{A:Hp AV},allNone A=true->∀n,hget A n=none
 | [],_,n=>by simp [hget]
 | none::r,h,0=>by simp [hget]
 | none::r,h,n+1=>by simp only [allNone] at h;simp only [hget];exact l6 h n
 | some _::r,h,_=>by simp [allNone] at h
theorem none_eq:∀{A B:Hp AV},(∀n,hget A n=none)->(∀n,hget B n=none)->A.length=B.length->A=B
 | [],[],_,_,_=>rfl
 | [],_::_,_,_,h=>by simp at h
 | _::_,[],_,_,h=>by simp at h
 | x::r,y::q,h1,h2,hl=>by
   have e1:x=none:=h1 0
   have e2:y=none:=h2 0
   rw [e1,e2,none_eq (fun n=>h1 (n+1)) (fun n=>h2 (n+1)) (by simpa using hl)]
theorem bo {cal:Callee AV} (hcal:cP P N cal):cP P N (joinCal cal):=by
 intro f args A v A' h hargs hC
 unfold joinCal at h
 split at h
 ·exact hcal f args A v A' h hargs hC
 ·rename_i hnone
  have main:∀(n:Option Bool) (u:SV),joinCT A.length (cal f args A)=some (n,u)->lN n->IW u=false->clV A u=true->ClV A u /\ bB N A /\ ∀(ρ:Nm) (w:World),Own N ρ A w ->
   Does P f (args.map (SV.den ρ)) w fun e w'=>∃ρ',e=u.den ρ' /\ Own N ρ' A w' /\ Evo N A.length ρ A w ρ' A w':=by
   intro n u hj hn hu hcv
   obtain⟨⟨v0,B⟩,hr,hlen,hv⟩:=gM A hj hn
   obtain⟨c1,c2,k⟩:=hcal f args A v0 B hr hargs hC
   have hv:∀ρ:Nm,u.den ρ=v0.den ρ:=by
    rcases hv with hv | hv
    ·rw [hv] at hu;cases hu
    ·exact hv
   refine⟨mJ.1 hcv,hC,fun ρ w hO=>(k ρ w hO).mono ?_⟩
   rintro e w' ⟨ρ',rfl,hO',hE'⟩
   have hB:B=A:=by
    refine none_eq (fun n=>?_) (l6 hnone) hlen
    rcases Nat.lt_or_ge n A.length with h | h
    ·exact hE'.non n h (l6 hnone n)
    ·cases hb:hget B n with
     | none=>rfl
     | some c=>have:=aH hb;simp only at hlen;omega
   subst hB
   exact⟨ρ',by rw [hv ρ'],hO',hE'⟩
  split at h
  ·rename_i r hr
   exact hcal f args A v A' (by rw [hr];exact h) hargs hC
  ·split at h
   ·rename_i n u hj
    split at h
    ·exact hcal f args A v A' h hargs hC
    ·rename_i hu
     split at h
     ·rename_i hcv hp
      split at h
      ·simp only [T.val,Option.some.injEq,Prod.mk.injEq] at h
       obtain⟨rfl,rfl⟩:=h
       exact main none u hj trivial hu hcv
      ·rename_i b
       obtain⟨hb,h⟩:=cm h
       simp only [T.val,Option.some.injEq,Prod.mk.injEq] at h
       obtain⟨rfl,rfl⟩:=h
       exact main (some b) u hj hb hu hcv
     ·exact hcal f args A v A' h hargs hC
   ·exact hcal f args A v A' h hargs hC
theorem fU (hT:TblOk P N) (hlps:bS P N) (hhv:FI P N) {tab:FuncId->Option (List SV->Hp AV->T (SV×Hp AV))} (htab:bm P N tab):∀n,cP P N (lv N tab n)
 | 0=>by
   intro f args H v H' h
   simp only [lv] at h
   cases f with
   | op o=>exact hhv o args H v H' h
   | fn f =>
     simp only at h
     cases ht:tab f with
     | none=>simp [ht,T.val] at h
     | some g=>simp only [ht] at h;exact(htab f g ht).does args H v H' h
 | n+1=>by
   intro f args H v H' h
   simp only [lv] at h
   cases f with
   | op o=>exact hhv o args H v H' h
   | fn f =>
     simp only at h
     cases ht:tab f with
     | none =>
       simp only [ht] at h
       exact(KJ hT hlps (bo (fU hT hlps hhv htab n)) f).does args H v H' h
     | some g =>
       simp only [ht] at h
       exact(htab f g ht).does args H v H' h
theorem NR (hT:TblOk P N) (hlps:bS P N) (hhv:FI P N) {tab:FuncId->Option (List SV->Hp AV->T (SV×Hp AV))} (htab:bm P N tab) (n:Nat) (f:FuncId):FnOk P N f (lv N tab n (.fn f)):=by
 intro args H v H' h ha hC
 obtain⟨h1,h2,h3⟩:=fU hT hlps hhv htab n (.fn f) args H v H' h ha hC
 refine⟨h1,h2,fun ρ w hO=>Calls.mono (h3 ρ w hO) ?_⟩
 rintro e w' ⟨_,rfl,ρ',rfl,hk⟩
 exact⟨ρ',rfl,hk⟩
end Go.Sx

namespace Go.Sx
variable {AV:Type} {P:Program} {N:Env AV}
def T.bool:T (SV×Hp AV)->Bool
 | .leaf r=>match r.1 with
   | .v (.c c)=>match di c with
     | some (b,_)=>b
     | none=>false
   | _=>false
 | .ite b t e=>match b with | true=>t.bool | false=>e.bool
 | .need b t=>match b with | true=>t.bool | false=>false
 | .fail _=>false
structure Quiet (w w':World):Prop where
 block:∀k,k < w.heap.size->w'.heap[k]?=w.heap[k]?
 os:w'.os=w.os
 tape:w'.tape=w.tape
 output:w'.output=w.output
 size:w.heap.size<=w'.heap.size
def Plain:SV->Prop
 | .v x=>∀c∈x.cells,c.name=none
 | .tup l=>∀x∈l,∀c∈x.cells,c.name=none
 | .unk=>True
 | .clo _ l=>∀c∈l,c.name=none
theorem Plain.cl {v:SV} (h:Plain v) (H:Hp AV):ClV H v:=by
 cases v with
 | v x=>exact dk h
 | tup l=>exact fun x hx=>dk (h x hx)
 | unk=>trivial
 | clo f l=>exact dk h
theorem Plain.den {v:SV} (h:Plain v) (ρ ρ':Nm):v.den ρ'=v.den ρ:=SV.den_congr (H:=([]:Hp Unit)) (h.cl _) (fun n c hc=>by simp [hget] at hc)
end Go.Sx

namespace Go.Sx
variable {AV:Type} {P:Program} {N:Env AV}
structure Fr (S S':Nat->Prop) (w w':World):Prop where
 frame:∀k,k < w.heap.size->¬S k->w'.heap[k]?=w.heap[k]?
 new:∀k,S' k->w.heap.size<=k \/ S k
 os:w'.os=w.os
 tape:w'.tape=w.tape
 output:w'.output=w.output
 size:w.heap.size<=w'.heap.size
theorem Quiet.fr {w w':World} (h:Quiet w w') (S:Nat->Prop):Fr S S w w' :=
 ⟨fun k hk _=>h.block k hk,fun _ hk=>.inr hk,h.os,h.tape,h.output,h.size⟩
structure Less (s t:St AV):Prop where
 H:t.H=s.H
 E:∀k,look t.E k=.unk \/ look t.E k=look s.E k
theorem Less.at {s t:St AV} (h:Less s t) {nt:Nat} {ρ:Nm} {a:Act} {w:World} (ha:At N nt ρ s a w):At N nt ρ t a w:=by
 refine⟨⟨ha.em.size,fun k hk=>?_⟩,by rw [h.H];exact ha.own⟩
 rcases h.E k with e | e
 ·exact absurd e hk
 ·rw [e] at hk ⊢
  exact ha.em.get k hk
theorem Less.closed {s t:St AV} (h:Less s t) (hc:Closed N s):Closed N t:=by
 refine⟨fun k=>?_,by rw [h.H];exact hc.H⟩
 rcases h.E k with e | e
 ·rw [e];trivial
 ·rw [e,h.H];exact hc.E k
def only (ks:List Nat) (E:Ev):Nat->Ev
 | 0=>[]
 | k+1=>(k,match hasN ks k with | true=>look E k | false=>.unk)::only ks E k
theorem dq (ks:List Nat) (E:Ev):∀(n k:Nat),look (only ks E n) k=if k < n then(match hasN ks k with | true=>look E k | false=>.unk) else bc
 | 0,k=>by simp [only,look]
 | n+1,k=>by
   simp only [only,look]
   by_cases h:n=k
   ·subst h;simp [Nat.beq_refl]
   ·rw [(aD n k).2 h,dq ks E n k]
    by_cases h1:k < n
    ·rw [if_pos h1,if_pos (by omega)]
    ·rw [if_neg h1,if_neg (by omega)]
end Go.Sx

namespace Go.Sx
variable {AV:Type}
theorem Ry {N N':Env AV} (hF:N'.F=N.F) {ρ:Nm} {n:Nat} {w:World} {c:Chunk AV} (h:c.q N ρ n w):c.q N' ρ n w:=by
 cases c with
 | cells l t=>exact h
 | vec l e t=>exact h
 | dead=>trivial
 | abs a=>show N'.F.q _ _ _ _;rw [hF];exact h
theorem eW {N N':Env AV} (hF:N'.F=N.F) (hG:N'.G=N.G) {ρ:Nm} {H:Hp AV} {w:World} (h:Own N ρ H w):Own N' ρ H w :=
 ⟨⟨fun n c hc=>Ry hF (h.q n c hc),h.dis,by rw [hG];exact h.glb⟩,by unfold TH;rw [hF];exact h.ro⟩
theorem mC {N:Env AV} (N':Env AV) {L:Nat} {ρ ρ':Nm} {H H':Hp AV} {w w':World} (h:Evo N L ρ H w ρ' H' w'):Evo N' L ρ H w ρ' H' w' :=
 ⟨h.pers,h.agree,h.non,h.len,h.frame,h.new,h.os,h.tape,h.output,h.size⟩
theorem gq {N:Env AV} (N':Env AV) {s:St AV} (h:Closed N s):Closed N' s:=⟨h.E,h.H⟩
def Says (nt:Nat) (E E':Ev):Prop:=(∀k,k < nt->look E' k=.unk \/ look E' k=look E k \/ (look E k≠.unk /\ Plain (look E' k) /\ ∀ρ,(look E' k).den ρ=(look E k).den ρ)) /\ ∀k,nt<=k->look E' k=bc
theorem Says.em {nt:Nat} {E E':Ev} (h:Says nt E E') {ρ:Nm} {a:Act} (he:EM ρ nt E a):EM ρ nt E' a:=by
 refine⟨he.size,fun k hk=>?_⟩
 rcases Nat.lt_or_ge k nt with hlt | hge
 ·rcases h.1 k hlt with e | e | ⟨e1,_,e2⟩
  ·exact absurd e hk
  ·rw [e] at hk ⊢
   exact he.get k hk
  ·rw [e2];exact he.get k e1
 ·rw [h.2 k hge]
  have:a.tmps[k]?=none:=by rw [Array.getElem?_eq_none];rw [he.size];exact hge
  simp [Array.getD_eq_getD_getElem?,this,bc,SV.den,undef]
theorem Says.closed {N N':Env AV} {nt:Nat} {E E':Ev} (h:Says nt E E') {H:Hp AV} (hc:Closed N {E:=E,H:=H}):Closed N' {E:=E',H:=H}:=by
 refine⟨fun k=>?_,hc.H⟩
 rcases Nat.lt_or_ge k nt with hlt | hge
 ·rcases h.1 k hlt with e | e | ⟨_,e,_⟩
  ·simp only [e];trivial
  ·simp only [e];exact hc.E k
  ·exact e.cl _
 ·simp only [h.2 k hge];exact fC _
end Go.Sx

namespace Go.Sx
variable {AV:Type} {P:Program} {N:Env AV}
theorem As (H:Hp AV) (c:Chunk AV) (n:Nat):hget (H++[some c]) n=if n=H.length then some c else hget H n:=by
 induction H generalizing n with
 | nil=>cases n<;>simp [hget]
 | cons x r ih =>
   cases n with
   | zero=>simp [hget]
   | succ n=>simp only [List.cons_append,hget,ih n,List.length_cons,Nat.add_right_cancel_iff]
def cf (H:Hp AV):Option Nat->Hp AV
 | none=>H
 | some n=>lset H n (some .dead)
theorem ud (H:Hp AV) (d:Option Nat):(cf H d).length=H.length:=by cases d<;>simp [cf,bn]
theorem tq {ρ:Nm} {H:Hp AV} {w w':World} (hO:Own N ρ H w) (hC:bB N H) (hG:N.G<=H.length) {d:Option Nat} {ck:Chunk AV} (hd:∀n,d=some n->∃c,hget H n=some c) (hck:ClL H ck.cellsOf) {lc:Loc} {S:Nat->Prop}
 (hfr:∀k,k < w.heap.size->(∀n c,d=some n->hget H n=some c->¬c.fp ρ n k)->w'.heap[k]?=w.heap[k]?) (hos:w'.os=w.os) (htp:w'.tape=w.tape) (hout:w'.output=w.output) (hsz:w.heap.size<=w'.heap.size)
 (hq:ck.q N (ρ.set H.length lc S) H.length w') (hfp:∀k,ck.fp (ρ.set H.length lc S) H.length k->w.heap.size<=k \/ ∃n c,d=some n /\ hget H n=some c /\ c.fp ρ n k) :
 Own N (ρ.set H.length lc S) (cf H d++[some ck]) w' /\ Evo N H.length ρ H w (ρ.set H.length lc S) (cf H d++[some ck]) w' /\ bB N (cf H d++[some ck]):=by
 have hget':∀n,hget (cf H d++[some ck]) n=if n=H.length then some ck else if d=some n then some .dead else hget H n:=fun n=>by
  rw [As,ud]
  by_cases e:n=H.length
  ·rw [if_pos e,if_pos e]
  ·rw [if_neg e,if_neg e]
   cases d with
   | none=>simp [cf]
   | some m =>
     obtain⟨c,hc⟩:=hd m rfl
     by_cases e':m=n
     ·subst e';simp [cf,aO _ (aH hc)]
     ·have:¬(some m=some n):=fun h=>e' (Option.some.inj h)
      rw [if_neg this];simp only [cf,ay _ e']
 have hne:∀n c,hget H n=some c->n≠H.length:=fun n c h e=>by have:=aH h;omega
 have hag:∀n c,hget H n=some c->(ρ.set H.length lc S).L n=ρ.L n:=fun n c h=>(ρ.set_ne lc S (hne n c h)).1
 have hagS:∀n c,hget H n=some c->(ρ.set H.length lc S).S n=ρ.S n:=fun n c h=>(ρ.set_ne lc S (hne n c h)).2
 have pers:∀n c,hget H n=some c->∃c',hget (cf H d++[some ck]) n=some c':=fun n c h=>by
  rw [hget',if_neg (hne n c h)]
  by_cases e:d=some n
  ·exact⟨_,if_pos e⟩
  ·exact⟨c,by rw [if_neg e];exact h⟩
 have cases3:∀n c,hget (cf H d++[some ck]) n=some c->(n=H.length /\ c=ck) \/ (c=.dead) \/ (n≠H.length /\ d≠some n /\ hget H n=some c):=fun n c h=>by
  rw [hget'] at h
  by_cases e:n=H.length
  ·rw [if_pos e] at h;exact .inl ⟨e,(Option.some.inj h).symm⟩
  ·rw [if_neg e] at h
   by_cases e':d=some n
   ·rw [if_pos e'] at h;exact .inr (.inl (Option.some.inj h).symm)
   ·rw [if_neg e'] at h;exact .inr (.inr ⟨e,e',h⟩)
 have keep:∀n c k,d≠some n->hget H n=some c->c.fp ρ n k->w'.heap[k]?=w.heap[k]?:=fun n c k hn hc hk =>
  hfr k (hO.lt hc hk) fun m x hm hx hf=>hO.dis n m c x (fun e=>hn (by rw [hm,e])) hc hx k hk hf
 refine hO.up3 ⟨⟨?_,?_,?_⟩,⟨pers,hag,?_,?_,?_,?_,hos,htp,hout,hsz⟩,?_,trivial⟩
 ·intro n c hc
  rcases cases3 n c hc with⟨rfl,rfl⟩ | rfl | ⟨_,hn,h⟩
  ·exact hq
  ·trivial
  ·exact gi (hO.q n c h) (hag n c h) (hagS n c h) (denL_congr (hC.1 n c h) hag) (fun k hk=>keep n c k hn h hk)
 ·intro n m c x hnm hc hx k hk hk'
  rcases cases3 n c hc with⟨rfl,rfl⟩ | rfl | ⟨_,hn,h⟩
  ·rcases cases3 m x hx with⟨rfl,_⟩ | rfl | ⟨_,hm,h'⟩
   ·exact hnm rfl
   ·exact hk'
   ·rw [aU (hag m x h') (hagS m x h')] at hk'
    rcases hfp k hk with h1 | ⟨n0,c0,hd0,hc0,hk0⟩
    ·have:=hO.lt h' hk';omega
    ·exact hO.dis m n0 x c0 (fun e=>hm (by rw [hd0,e])) h' hc0 k hk' hk0
  ·exact hk
  ·rw [aU (hag n c h) (hagS n c h)] at hk
   rcases cases3 m x hx with⟨rfl,rfl⟩ | rfl | ⟨_,hm,h'⟩
   ·rcases hfp k hk' with h1 | ⟨n0,c0,hd0,hc0,hk0⟩
    ·have:=hO.lt h hk;omega
    ·exact hO.dis n n0 c c0 (fun e=>hn (by rw [hd0,e])) h hc0 k hk hk0
   ·exact hk'
   ·rw [aU (hag m x h') (hagS m x h')] at hk'
    exact hO.dis n m c x hnm h h' k hk hk'
 ·intro g hg
  have:g≠H.length:=by omega
  have h2:=(ρ.set_ne lc S this).1
  simp only [Nm.f,h2]
  exact hO.glb g hg
 ·intro n hn hh
  rw [hget',if_neg (by omega)]
  have:d≠some n:=fun e=>by obtain⟨c,hc⟩:=hd n e;rw [hc] at hh;cases hh
  rw [if_neg this];exact hh
 ·simp [ud]
 ·intro k hk hno
  exact hfr k hk fun n c _ hc hf=>hno n c hc hf
 ·intro n c k hc hk
  rcases cases3 n c hc with⟨rfl,rfl⟩ | rfl | ⟨_,_,h⟩
  ·rcases hfp k hk with h1 | ⟨n0,c0,_,hc0,hk0⟩
   ·exact .inl h1
   ·exact .inr ⟨n0,c0,hc0,hk0⟩
  ·exact hk.elim
  ·rw [aU (hag n c h) (hagS n c h)] at hk
   exact .inr ⟨n,c,h,hk⟩
 ·intro n x hc
  rcases cases3 n x hc with⟨rfl,rfl⟩ | rfl | ⟨_,_,h⟩
  ·exact hck.mono pers
  ·intro c hc;cases hc
  ·exact(hC.1 n x h).mono pers
end Go.Sx
