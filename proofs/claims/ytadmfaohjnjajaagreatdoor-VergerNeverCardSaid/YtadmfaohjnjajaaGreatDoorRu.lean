import Derived.Test.YtadmfaohjnjajaaGreatDoorRn
import Derived.Test.YtadmfaohjnjajaaGreatDoorQr
import Derived.Test.YtadmfaohjnjajaaGreatDoorOr
set_option linter.unusedVariables false
set_option linter.unusedSimpArgs false
set_option maxHeartbeats 4000000
namespace Go.Proofs.YtadmfaohjnjajaaGreatDoor
section
open Go Go.Sx Go.Proofs
set_option maxRecDepth 100000
set_option maxHeartbeats 4000000
structure AcOk (n:Int) (hd:Bool) (a:Acc):Prop where
 v:((a.kind=1 \/ a.kind=2 \/ a.kind=3) /\ AOk n ⟨a.s,a.g,a.f⟩) \/ a.kind=4 \/ (a.kind=5 /\ 1<=a.old.slot /\ a.old.slot<=n)
 w:WOk n a.new
 h:hd=true->(a.kind=2 \/ a.kind=3)->a.s=0->a.f=0->1<=a.new.slot
theorem AcOk.valid {n:Nat} {hd:Bool} {a:Acc} (h:AcOk n hd a) {p:PlotM} (hp:p.WF n):p.valid a:=by
 unfold PlotM.valid
 rcases h.v with⟨hk,ha⟩ | hk | ⟨hk,h1,h2⟩
 ·rw [if_pos hk]
  unfold PlotM.hasA
  rcases ha with⟨a1,a2,a3,a4⟩ | ⟨a1,a2,a3,a4⟩
  ·have a1:a.s=0:=a1
   rw [if_pos a1,hp.lb]
   exact⟨a2,a3,a4⟩
  ·have a1:1<=a.s:=a1
   rw [if_neg (by omega)]
   refine⟨⟨a1,?_⟩,a3,a4⟩
   rw [hp.ls];exact a2
 ·rw [if_neg (by omega),if_pos hk];trivial
 ·rw [if_neg (by omega),if_neg (by omega),if_pos hk]
  refine⟨h1,?_⟩
  rw [hp.ls];exact h2
structure XOk (n:Int) (hd:Bool) (a:Acc) (x:Rp1):Prop where
 w:WOk n x.w
 al:a.kind=4->x.ok=true->1<=x.w.slot
 ld:a.kind=1->hd=true->a.s=0->a.f=0->1<=x.w.slot
def NOk (n:Int) (x:Nt):Prop:=1<=x.slot /\ x.slot<=n
def ClB (n:Int) (hd:Bool) (c:Cl):Prop:=(nr n c /\ (hd=true->hdW c)) \/ c.kind=1 \/ c.kind=2 \/ c.kind=11
def H9.Ok (n:Int) (s:H9):Prop:=WOk n s.h0 /\ WOk n s.h1 /\ WOk n s.h2 /\ WOk n s.h3 /\ WOk n s.h4 /\ WOk n s.h5 /\ WOk n s.h6 /\ WOk n s.h7 /\ WOk n s.h8
theorem H9.get_ok {n:Int} {s:H9} (h:s.Ok n) (i:Int):WOk n (s.get i):=by
 obtain⟨a0,a1,a2,a3,a4,a5,a6,a7,a8⟩:=h
 unfold H9.get
 repeat' split
 all_goals assumption
theorem H9.put_ok {n:Int} {s:H9} (h:s.Ok n) (i:Int) {w:W} (hw:WOk n w):(s.put i w).Ok n:=by
 obtain⟨a0,a1,a2,a3,a4,a5,a6,a7,a8⟩:=h
 unfold H9.put
 repeat' split
 all_goals exact⟨by assumption,by assumption,by assumption,by assumption,by assumption,by assumption,by assumption,by assumption,by assumption⟩
def StR (hd:Bool) (m:RiteM):Prop :=
 m.step=0 \/ (m.step=1 /\ (m.call.kind=8->m.acc.kind=4) /\ m.call.kind≠6) \/ (m.step=2 /\ m.call.kind≠8 /\ m.call.kind≠6) \/ (m.step=3 /\ m.call.kind=1) \/
 (m.step=4 /\ m.call.kind=2 /\ (m.engine=2 \/ m.engine=3) /\ 0<=m.index /\ m.index < 9) \/
 (m.step=5 /\ m.call.kind=6 /\ (0<=m.call.i /\ m.call.i < 9) /\ m.acc=⟨1,m.call.adr.s,m.call.adr.g,m.call.adr.f,wNil,wNil⟩) \/
 (m.step=6 /\ m.call.kind=6 /\ (0<=m.call.i /\ m.call.i < 9) /\ (m.engine=3 \/ m.engine=5) /\ (hd=true->m.call.adr.s=0->m.call.adr.f=0->1<=m.word.slot)) \/
 (m.step=7 /\ m.call.kind=6 /\ (0<=m.call.i /\ m.call.i < 9)) \/ (m.step=8 /\ m.call.kind=8) \/
 (m.step=9 /\ m.call.kind=10 /\ (m.engine=3 \/ m.engine=5) /\ m.seen=[]) \/ (m.step=10 /\ m.call.kind=10 /\ (m.engine=3 \/ m.engine=4 \/ m.engine=5) /\ m.seen=[]) \/ (m.step=11 /\ m.call.kind=10 /\ (m.engine=3 \/ m.engine=5) /\ m.seen=[]) \/
 (m.step=12 /\ (m.call.kind=10 \/ m.call.kind=11) /\ m.engine=4 /\ m.seen=[]) \/ (m.step=13 /\ (m.call.kind=10 \/ m.call.kind=11) /\ 2<=m.engine /\ 0<=m.index /\ m.index < 54 /\ (m.seen.length:Int)=m.index) \/
 (m.step=14 /\ (m.call.kind=10 \/ m.call.kind=11) /\ m.engine=4) \/ (m.step=15 /\ (m.call.kind=10 \/ m.call.kind=11) /\ m.engine=4) \/
 (m.step=16 /\ (m.call.kind=10 \/ m.call.kind=11) /\ 2<=m.engine /\ 0 < m.doomed.length /\ ∀x,m.doomed.count x<=m.notes.count x)
structure RiteM.B (n:Int) (hd:Bool) (K:Nat) (m:RiteM):Prop where
 eng:1<=m.engine /\ m.engine<=5
 me:0<=m.me /\ m.me < 6
 thr:1<=m.threads /\ m.threads<=6
 holds:m.holds.Ok n
 notes:∀x∈m.notes,NOk n x
 len:m.notes.length<=K
 word:WOk n m.word
 seen:m.seen.length<=54
structure RiteM.WF (n:Int) (hd:Bool) (K:Nat) (m:RiteM):Prop where
 b:m.B n hd K
 call:m.step≠0->ClB n hd m.call
 acc:m.step≠0->AcOk n hd m.acc
 st:StR hd m
structure RRes (n:Int) (hd:Bool) (K:Nat) (c:Cl) (r:RiteM):Prop where
 wf:r.WF n hd K
 on:r.step≠0->r.call=c
 off:r.step=0->RpFor n hd c r.reply
section
variable {n:Int} {hd:Bool} {K:Nat} {c:Cl}
theorem B.mono {m:RiteM} {K':Nat} (h:m.B n hd K) (hk:K<=K'):m.B n hd K':=⟨h.eng,h.me,h.thr,h.holds,h.notes,Nat.le_trans h.len hk,h.word,h.seen⟩
theorem ph (h0:0<=n) {r:RT} (h:r.m.B n hd K) {x:Rp1} (hx:RpFor n hd c x):RRes n hd K c (eM x r).m :=
 ⟨⟨⟨h.eng,h.me,h.thr,h.holds,h.notes,h.len,ay h0,Nat.zero_le _⟩,fun e=>absurd rfl e,fun e=>absurd rfl e,.inl rfl⟩,fun e=>absurd rfl e,fun _=>hx⟩
theorem eA (h0:0<=n) {r:RT} (h:r.m.B n hd K) (h8:c.kind≠8) (h6:c.kind≠6):RRes n hd K c (ju RT.m r) :=
 ph h0 h ⟨ay h0,fun e=>absurd e h8,fun _ e=>absurd e h6⟩
theorem bN {r:RT} (h:r.m.B n hd K) (hcl:ClB n hd c) (hc:r.m.call=c) {s:Int} {a:Acc} (ha:AcOk n hd a) (hs:s≠0) (hst:StR hd (iF s a r).m):RRes n hd K c (iF s a r).m :=
 ⟨⟨⟨h.eng,h.me,h.thr,h.holds,h.notes,h.len,h.word,h.seen⟩,fun _=>hc▸hcl,fun _=>ha,hst⟩,fun _=>hc,fun e=>absurd e hs⟩
theorem ek (h0:0<=n) {a:Ad} (ha:AOk n a):AcOk n hd ⟨1,a.s,a.g,a.f,wNil,wNil⟩:=⟨.inl ⟨.inl rfl,ha⟩,ay h0,fun _ h=>absurd h (by show ¬((1:Int)=2 \/ (1:Int)=3);decide)⟩
theorem DM (h0:0<=n) {f:Int} {w:W} (hf:1<=f) (hf2:f < 85) (hw:WOk n w):AcOk n hd ⟨2,0,0,f,wNil,w⟩:=⟨.inl ⟨.inr (.inl rfl),.inl ⟨rfl,rfl,by show 0<=f;omega,hf2⟩⟩,hw,fun _ _ _ e=>by have e:f=0:=e;omega⟩
theorem NW {o w:W} (hw:WOk n w):AcOk n hd ⟨3,0,0,24,o,w⟩:=⟨.inl ⟨.inr (.inr rfl),.inl ⟨rfl,rfl,by show (0:Int)<=24;decide,by show (24:Int) < 85;decide⟩⟩,hw,fun _ _ _ e=>absurd (show (24:Int)=0 from e) (by decide)⟩
theorem NU {w:W} (hw:WOk n w):AcOk n hd ⟨4,0,0,0,wNil,w⟩:=⟨.inr (.inl rfl),hw,fun _ h=>absurd (show (4:Int)=2 \/ (4:Int)=3 from h) (by decide)⟩
theorem Hk (h0:0<=n) {w:W} (h1:1<=w.slot) (h2:w.slot<=n):AcOk n hd ⟨5,0,0,0,w,wNil⟩:=⟨.inr (.inr ⟨rfl,h1,h2⟩),ay h0,fun _ h=>absurd (show (5:Int)=2 \/ (5:Int)=3 from h) (by decide)⟩
theorem jj:AOk n tY:=.inl ⟨rfl,rfl,by show (0:Int)<=24;decide,by show (24:Int) < 85;decide⟩
structure RB (n:Int) (hd:Bool) (K:Nat) (c:Cl) (r:RT):Prop where
 b:r.m.B n hd K
 cl:ClB n hd c
 hc:r.m.call=c
 ln:r.ln=r.m.notes.length
 ld:r.ld=r.m.doomed.length
theorem eo {b:Bool} {t e:RiteM} (h1:b=true->RRes n hd K c t) (h2:b=false->RRes n hd K c e):RRes n hd K c (cond b t e):=dF (P:=RRes n hd K c) h1 h2
theorem rz (h0:0<=n) {r:RT} (h:RB n hd K c r) {s k:Int} {w:W} (hk:0<=k /\ k < 9) (hw:WOk n w) (hs:s≠0)
 (hst:StR hd (iF s ⟨2,0,0,25+r.m.me * 9+k,wNil,w⟩ {r with m:={r.m with holds:=H9.put r.m.holds k w}}).m):RRes n hd K c (wP NN RT.m s k w r):=by
 have hm:=h.b.me
 exact bN (r:={r with m:={r.m with holds:=H9.put r.m.holds k w}}) ⟨h.b.eng,h.b.me,h.b.thr,H9.put_ok h.b.holds k hw,h.b.notes,h.b.len,h.b.word,h.b.seen⟩ h.cl h.hc (DM h0 (by omega) (by omega) hw) hs hst
theorem kg (h0:0<=n) {r:RT} (h:RB n hd K c r) {s:Int} {sp:Sp} {w:W} (hw:WOk n w) (hs:s≠0) (hst:StR hd (iF s ⟨2,0,0,79+r.m.me,wNil,w⟩ {r with m:={r.m with span:=sp}}).m):RRes n hd K c (iQ NN RT.m s sp w r):=by
 have hm:=h.b.me
 exact bN (r:={r with m:={r.m with span:=sp}}) ⟨h.b.eng,h.b.me,h.b.thr,h.b.holds,h.b.notes,h.b.len,h.b.word,h.b.seen⟩ h.cl h.hc (DM h0 (by omega) (by omega) hw) hs hst
theorem xH (h0:0<=n) (h2:c.kind=2):∀(k:Nat) {r:RT} {i:Int},RB n hd K c r->(r.m.engine=2 \/ r.m.engine=3)->0<=i->i+k<=9->RRes n hd K c (o4 cond NN RT.m r k i)
 | 0,r,i,h,_,_,_=>eA h0 h.b (by omega) (by omega)
 | k+1,r,i,h,he,hi,hk=>by
   unfold o4
   refine eo (fun _=>?_) fun _=>xH h0 h2 k h he (by omega) (by omega)
   exact rz h0 (r:={r with m:={r.m with index:=i}}) ⟨⟨h.b.eng,h.b.me,h.b.thr,h.b.holds,h.b.notes,h.b.len,h.b.word,h.b.seen⟩,h.cl,h.hc,h.ln,h.ld⟩ ⟨hi,by omega⟩ (ay h0) (by decide)
    (.inr (.inr (.inr (.inr (.inl ⟨rfl,by show r.m.call.kind=2;rw [h.hc];exact h2,he,hi,by show i < 9;omega⟩)))))
theorem zJ (h0:0<=n) (h2:c.kind=2) {r:RT} (h:RB n hd K c r) {i:Nat} (hi:i<=9):RRes n hd K c (nT cond NN RT.m i r):=by
 unfold nT
 split
 ·refine eo (fun _=>?_) fun _=>eA h0 h.b (by omega) (by omega)
  exact kg h0 h (ay h0) (by decide) (.inr (.inr (.inl ⟨rfl,by show r.m.call.kind≠8;rw [h.hc];omega,by show r.m.call.kind≠6;rw [h.hc];omega⟩)))
 ·split
  ·rename_i he
   exact xH h0 h2 _ h he (by omega) (by omega)
  ·exact eA h0 h.b (by omega) (by omega)
theorem xA (h0:0<=n) (hc:c.kind=10 \/ c.kind=11) {r:RT} (h:RB n hd K c r) (he:2<=r.m.engine) {i:Nat} (hs:r.m.seen.length=i) {k:RiteM} (hk:r.m.seen.length<=54->(i:Int)>=(if r.m.engine=2 \/ r.m.engine=3 then r.m.threads * 9 else r.m.threads)->RRes n hd K c k) :
 RRes n hd K c (mc cond NN RT.m (i:Int) r k):=by
 have ht:=h.b.thr
 unfold mc
 split
 ·rename_i he2
  have ew:IntKind.wrap .i64 (r.m.threads * 9)=r.m.threads * 9:=jl (by omega)
  rw [ew]
  rw [if_pos he2] at hk
  refine eo (fun hb=>hk h.b.seen (of_decide_eq_true hb)) fun hb=>?_
  have hlt:(i:Int) < r.m.threads * 9:=by have:=of_decide_eq_false hb;omega
  have hd1:0<=Int.tdiv (i:Int) 9 /\ Int.tdiv (i:Int) 9 < 6:=by
   rw [Int.tdiv_eq_ediv_of_nonneg (by omega)];omega
  have hd2:0<=Int.tmod (i:Int) 9 /\ Int.tmod (i:Int) 9 < 9:=by
   rw [Int.tmod_eq_emod_of_nonneg (by omega)];omega
  have ew2:IntKind.wrap .i64 (Int.tdiv (i:Int) 9)=Int.tdiv (i:Int) 9:=jl (by omega)
  refine bN (r:={r with m:={r.m with index:=(i:Int)}}) ⟨h.b.eng,h.b.me,h.b.thr,h.b.holds,h.b.notes,h.b.len,h.b.word,h.b.seen⟩ h.cl h.hc (a:=⟨1,0,0,(GN (IntKind.wrap .i64 (Int.tdiv (i:Int) 9),Int.tmod (i:Int) 9)).f,wNil,wNil⟩) ?_ (by decide) ?_
  ·rw [ew2]
   exact ek h0 (a:=⟨0,0,25+Int.tdiv (i:Int) 9 * 9+Int.tmod (i:Int) 9⟩) (.inl ⟨rfl,rfl,by show 0<=25+Int.tdiv (i:Int) 9 * 9+Int.tmod (i:Int) 9;omega,by show 25+Int.tdiv (i:Int) 9 * 9+Int.tmod (i:Int) 9 < 85;omega⟩)
  ·refine .inr (.inr (.inr (.inr (.inr (.inr (.inr (.inr (.inr (.inr (.inr (.inr (.inr (.inl ⟨rfl,?_,he,?_,?_,?_⟩)))))))))))))
   ·show r.m.call.kind=10 \/ r.m.call.kind=11
    rw [h.hc];exact hc
   ·show 0<=(i:Int);omega
   ·show (i:Int) < 54;omega
   ·show (r.m.seen.length:Int)=(i:Int);omega
 ·rename_i he2
  rw [if_neg he2] at hk
  refine eo (fun hb=>hk h.b.seen (of_decide_eq_true hb)) fun hb=>?_
  have hlt:(i:Int) < r.m.threads:=by have:=of_decide_eq_false hb;omega
  refine bN (r:={r with m:={r.m with index:=(i:Int)}}) ⟨h.b.eng,h.b.me,h.b.thr,h.b.holds,h.b.notes,h.b.len,h.b.word,h.b.seen⟩ h.cl h.hc (a:=⟨1,0,0,79+(i:Int),wNil,wNil⟩) ?_ (by decide) ?_
  ·exact ek h0 (a:=⟨0,0,79+(i:Int)⟩) (.inl ⟨rfl,rfl,by show 0<=79+(i:Int);omega,by show 79+(i:Int) < 85;omega⟩)
  ·refine .inr (.inr (.inr (.inr (.inr (.inr (.inr (.inr (.inr (.inr (.inr (.inr (.inr (.inl ⟨rfl,?_,he,?_,?_,?_⟩)))))))))))))
   ·show r.m.call.kind=10 \/ r.m.call.kind=11
    rw [h.hc];exact hc
   ·show 0<=(i:Int);omega
   ·show (i:Int) < 54;omega
   ·show (r.m.seen.length:Int)=(i:Int);omega
theorem Ct (h0:0<=n) (hc:c.kind=10 \/ c.kind=11) {r:RT} (h:RB n hd K c r) (hs:r.m.seen=[]):RRes n hd K c (uC cond NN RT.m r):=by
 have ht:=h.b.thr
 have he:=h.b.eng
 unfold uC
 split
 ·exact eA h0 h.b (by omega) (by omega)
 ·split
  ·rename_i he4
   exact bN h.b h.cl h.hc (ek h0 jj) (by decide) (.inr (.inr (.inr (.inr (.inr (.inr (.inr (.inr (.inr (.inr (.inr (.inr (.inl ⟨rfl,by show r.m.call.kind=10 \/ r.m.call.kind=11;rw [h.hc];exact hc,he4,hs⟩)))))))))))))
  ·refine xA h0 hc h (by omega) (i:=0) (by rw [hs];rfl) fun _ hk=>?_
   exfalso
   split at hk<;>omega
theorem zv (h0:0<=n) (hc:c.kind=10 \/ c.kind=11) {r:RT} (h:RB n hd K c r) (hs:r.m.seen=[]):RRes n hd K c (lJ cond NN RT.m r):=by
 unfold lJ
 exact eo (fun _=>Ct h0 hc h hs) fun _=>eA h0 h.b (by omega) (by omega)
theorem NO (h0:0<=n) {r:RT} (h:RB n hd K c r) (hk:1<=c.old.slot /\ c.old.slot<=n) (b d:Int):RB n hd (K+1) c (ED b d r):=by
 refine⟨⟨h.b.eng,h.b.me,h.b.thr,h.b.holds,fun x hx=>?_,?_,h.b.word,h.b.seen⟩,h.cl,h.hc,?_,h.ld⟩
 ·rcases List.mem_append.1 hx with hx | hx
  ·exact h.b.notes x hx
  ·simp only [List.mem_cons,List.not_mem_nil,or_false] at hx
   subst hx
   show 1<=r.m.call.old.slot /\ r.m.call.old.slot<=n
   rw [h.hc];exact hk
 ·show (r.m.notes++[_]).length<=K+1
  rw [List.length_append]
  have:=h.b.len
  simp only [List.length_cons,List.length_nil];omega
 ·show r.ln+1=(r.m.notes++[_]).length
  rw [List.length_append,h.ln];rfl
theorem RB.mono {r:RT} {K':Nat} (h:RB n hd K c r) (hk:K<=K'):RB n hd K' c r:=⟨B.mono h.b hk,h.cl,h.hc,h.ln,h.ld⟩
theorem RRes.mono {r:RiteM} {K':Nat} (h:RRes n hd K c r) (hk:K<=K'):RRes n hd K' c r:=⟨⟨B.mono h.wf.b hk,h.wf.call,h.wf.acc,h.wf.st⟩,h.on,h.off⟩
theorem Cz (h0:0<=n) (hc:c.kind=10 \/ c.kind=11) {r:RT} (h:RB n hd K c r) (he:2<=r.m.engine) (hs:r.m.seen.length<=54) (hcnt:∀x,r.m.doomed.count x<=r.m.notes.count x):RRes n hd K c (uB r):=by
 unfold uB lu
 refine eo (fun _=>eA h0 h.b (by omega) (by omega)) fun hb=>?_
 have hne:r.m.doomed≠[]:=fun e=>by
  have h1:=h.ld
  rw [e] at h1
  have:=neI hb
  rw [h1] at this
  exact this rfl
 have hpos:0 < r.m.doomed.length:=List.length_pos_iff.2 hne
 have hmem:r.m.doomed.getD 0 knotes.dflt∈r.m.doomed:=jF hpos
 have hx:NOk n (r.m.doomed.getD 0 knotes.dflt):=h.b.notes _ (List.count_pos_iff.1 (Nat.lt_of_lt_of_le (List.count_pos_iff.2 hmem) (hcnt _)))
 exact bN h.b h.cl h.hc (Hk h0 (w:=KU (r.m.doomed.getD 0 knotes.dflt)) hx.1 hx.2) (by decide)
  (.inr (.inr (.inr (.inr (.inr (.inr (.inr (.inr (.inr (.inr (.inr (.inr (.inr (.inr (.inr (.inr ⟨rfl,by show r.m.call.kind=10 \/ r.m.call.kind=11;rw [h.hc];exact hc,he,hpos,hcnt⟩))))))))))))))))
theorem Cq (h0:0<=n) (hc:c.kind=10 \/ c.kind=11) {m:RiteM} (h:m.B n hd K) (hcl:ClB n hd c) (hcc:m.call=c) (he:2<=m.engine):RRes n hd K c (kA m):=by
 unfold kA
 have hsub:∀x,(G5 m).count x<=m.notes.count x:=fun x=>by
  unfold G5 fr1 fr2 fr3 fr4 dV
  split
  ·exact List.Sublist.count_le _ List.filter_sublist
  ·split
   ·exact List.Sublist.count_le _ List.filter_sublist
   ·split
    all_goals (exact List.Sublist.count_le _ List.filter_sublist)
 exact Cz h0 hc (r:=pX (G5 m) (rOf m)) ⟨⟨h.eng,h.me,h.thr,h.holds,h.notes,h.len,h.word,h.seen⟩,hcl,hcc,rfl,rfl⟩ he h.seen hsub
theorem Fo (h:ClB n hd c):yP c /\ (c.kind=3 \/ c.kind=4 \/ c.kind=5 \/ c.kind=6->AOk n c.adr) /\ (c.kind=9 \/ c.kind=10->1<=c.old.slot /\ c.old.slot<=n) /\ (c.kind=4 \/ c.kind=5->WOk n c.new /\ (hd=true->hdW c)):=by
 unfold yP
 rcases h with⟨⟨h1,h2,h3⟩,h4⟩ | h | h | h
 ·rcases h3 with⟨hk,ha⟩ | ⟨hk,ha,hi,hj,hz⟩ | ⟨hk,hp⟩ | hk | ⟨hk,hs⟩
  ·exact⟨by omega,fun _=>ha,fun h=>by omega,fun _=>⟨h2,h4⟩⟩
  ·exact⟨by omega,fun _=>ha,fun h=>by omega,fun h=>by omega⟩
  ·exact⟨.inr (.inr (.inr (.inr (.inr (.inr (.inl ⟨hk,hp⟩)))))),fun h=>by omega,fun h=>by omega,fun h=>by omega⟩
  ·exact⟨by omega,fun h=>by omega,fun h=>by omega,fun h=>by omega⟩
  ·exact⟨by omega,fun h=>by omega,fun _=>⟨hs,h1.2.1⟩,fun h=>by omega⟩
 all_goals (exact⟨by omega,fun h=>by omega,fun h=>by omega,fun h=>by omega⟩)
theorem yv (h0:0<=n) {m:RiteM} (h:m.WF n hd K) (hs:m.step=0) (hcl:ClB n hd c) (hK:K<=100000):CJ m c=true /\ RRes n hd (K+1) c (bS m c):=by
 obtain⟨hkd,hadr,hold,hnew⟩:=Fo hcl
 have hb:=h.b
 refine⟨decide_eq_true ⟨hs,⟨hb.eng.1,hb.eng.2,hb.me.1,hb.me.2,Nat.le_trans hb.len hK⟩,hkd⟩,?_⟩
 have rb:RB n hd K c (qi c (rOf m)):=⟨⟨hb.eng,hb.me,hb.thr,hb.holds,hb.notes,hb.len,ay h0,Nat.zero_le _⟩,hcl,rfl,rfl,rfl⟩
 unfold bS mL
 split
 ·rename_i hk
  exact zv h0 (.inl hk.1) (NO h0 rb (hold (.inr hk.1)) 0 0) rfl
 ·split
  ·rename_i hk
   exact(Ct h0 (.inr hk.1) rb rfl).mono (by omega)
  ·refine RRes.mono (K:=K) ?_ (by omega)
   have he:(qi c (rOf m)).m.engine=m.engine:=rfl
   unfold uD
   by_cases k1:c.kind=1
   ·rw [if_pos k1]
    split
    ·exact bN rb.b hcl rfl (ek h0 jj) (by decide) (.inr (.inr (.inr (.inl ⟨rfl,k1⟩))))
    ·exact eA h0 rb.b (by omega) (by omega)
   ·rw [if_neg k1]
    by_cases k2:c.kind=2
    ·rw [if_pos k2]
     exact zJ h0 k2 rb (by omega)
    ·rw [if_neg k2]
     by_cases k3:c.kind=3
     ·rw [if_pos k3]
      exact bN rb.b hcl rfl (ek h0 (hadr (.inl k3))) (by decide) (.inr (.inl ⟨rfl,fun e=>by have e:c.kind=8:=e;omega,by show c.kind≠6;omega⟩))
     ·rw [if_neg k3]
      by_cases k4:c.kind=4
      ·rw [if_pos k4]
       obtain⟨w1,w2⟩:=hnew (.inl k4)
       refine bN rb.b hcl rfl ⟨.inl ⟨.inr (.inl rfl),hadr (.inr (.inl k4))⟩,w1,fun e _ hs hf=>w2 e (.inl k4) hs hf⟩ (by decide) (.inr (.inl ⟨rfl,fun e=>by have e:c.kind=8:=e;omega,by show c.kind≠6;omega⟩))
      ·rw [if_neg k4]
       by_cases k5:c.kind=5
       ·rw [if_pos k5]
        obtain⟨w1,w2⟩:=hnew (.inr k5)
        refine bN rb.b hcl rfl ⟨.inl ⟨.inr (.inr rfl),hadr (.inr (.inr (.inl k5)))⟩,w1,fun e _ hs hf=>w2 e (.inr k5) hs hf⟩ (by decide) (.inr (.inl ⟨rfl,fun e=>by have e:c.kind=8:=e;omega,by show c.kind≠6;omega⟩))
       ·rw [if_neg k5]
        by_cases k6:c.kind=6
        ·rw [if_pos k6]
         have hi:0<=c.i /\ c.i < 9:=by unfold yP at hkd;unfold tc at hkd;omega
         exact bN rb.b hcl rfl (ek h0 (hadr (.inr (.inr (.inr k6))))) (by decide) (.inr (.inr (.inr (.inr (.inr (.inl ⟨rfl,k6,hi,rfl⟩))))))
        ·rw [if_neg k6]
         by_cases k7:c.kind=7
         ·rw [if_pos k7]
          have hi:0<=c.i /\ c.i < 9:=by unfold yP at hkd;unfold tc at hkd;omega
          split
          ·refine eo (fun _=>?_) fun _=>eA h0 rb.b (by omega) (by omega)
           exact rz h0 rb hi (H9.get_ok rb.b.holds _) (by decide) (.inr (.inr (.inl ⟨rfl,by show c.kind≠8;omega,by show c.kind≠6;omega⟩)))
          ·exact eA h0 rb.b (by omega) (by omega)
         ·rw [if_neg k7]
          by_cases k8:c.kind=8
          ·rw [if_pos k8]
           split
           ·exact bN rb.b hcl rfl (ek h0 jj) (by decide) (.inr (.inr (.inr (.inr (.inr (.inr (.inr (.inr (.inl ⟨rfl,k8⟩)))))))))
           ·exact bN rb.b hcl rfl (NU (ay h0)) (by decide) (.inr (.inl ⟨rfl,fun _=>rfl,by show c.kind≠6;omega⟩))
          ·rw [if_neg k8]
           by_cases k9:c.kind=9
           ·rw [if_pos k9]
            obtain⟨o1,o2⟩:=hold (.inl k9)
            exact bN rb.b hcl rfl (Hk h0 o1 o2) (by decide) (.inr (.inr (.inl ⟨rfl,by show c.kind≠8;omega,by show c.kind≠6;omega⟩)))
           ·rw [if_neg k9]
            by_cases k10:c.kind=10
            ·rw [if_pos k10]
             split
             ·rename_i he4
              exact bN rb.b hcl rfl (ek h0 jj) (by decide) (.inr (.inr (.inr (.inr (.inr (.inr (.inr (.inr (.inr (.inr (.inl ⟨rfl,k10,.inr (.inl he4),rfl⟩)))))))))))
             ·split
              ·rename_i he5
               obtain⟨o1,o2⟩:=hold (.inr k10)
               exact bN rb.b hcl rfl (ek h0 (a:=⟨c.old.slot,c.old.gen,9⟩) (.inr ⟨o1,o2,by show (0:Int)<=9;decide,by show (9:Int) < 10;decide⟩)) (by decide) (.inr (.inr (.inr (.inr (.inr (.inr (.inr (.inr (.inr (.inl ⟨rfl,k10,he5,rfl⟩))))))))))
              ·exact eA h0 rb.b (by omega) (by omega)
            ·rw [if_neg k10]
             have k11:c.kind=11:=by unfold yP at hkd;omega
             split
             ·rename_i he4
              exact bN rb.b hcl rfl (ek h0 jj) (by decide) (.inr (.inr (.inr (.inr (.inr (.inr (.inr (.inr (.inr (.inr (.inr (.inr (.inl ⟨rfl,.inr k11,he4,rfl⟩)))))))))))))
             ·exact eA h0 rb.b (by omega) (by omega)
theorem Dp {x y:Nt}:my x y=true↔x=y:=by
 obtain⟨a,b,c,d,e,f,g⟩:=x
 obtain⟨a',b',c',d',e',f',g'⟩:=y
 simp [my]
theorem zQ {p:Nt->Bool}:∀(l:List Nt) (k:Nat),l.any p=true->k<=eW p k l /\ eW p k l < k+l.length /\ p (l.getD (eW p k l - k) knotes.dflt)=true
 | [],k,h=>by cases h
 | a::l,k,h=>by
   unfold eW
   cases ha:p a with
   | true=>exact⟨Nat.le_refl _,by simp,by simpa using ha⟩
   | false =>
     rw [List.any_cons,ha] at h
     obtain⟨h1,h2,h3⟩:=zQ l (k+1) h
     refine⟨by show k<=eW p (k+1) l;omega,by show eW p (k+1) l < _;rw [List.length_cons];omega,?_⟩
     show p ((a::l).getD (eW p (k+1) l - k) knotes.dflt)=true
     rw [show eW p (k+1) l - k=(eW p (k+1) l - (k+1))+1 by omega]
     exact h3
theorem ME {x:Nt} {l:List Nt} (h:x∈l):0<=dL x l /\ dL x l < (l.length:Int) /\ l.getD (dL x l).toNat knotes.dflt=x:=by
 have ha:l.any (my x)=true:=List.any_eq_true.2 ⟨x,h,Dp.2 rfl⟩
 obtain⟨h1,h2,h3⟩:=zQ l 0 ha
 have e:dL x l=(eW (my x) 0 l:Int):=by unfold dL;rw [ha];rfl
 rw [e]
 exact⟨by omega,by omega,(Dp.1 h3).symm⟩
theorem Am {l:List Nt} {i:Nat} (hi:i < l.length) (x:Nt):l.count x=(l.take i++l.drop (i+1)).count x+if l.getD i knotes.dflt=x then 1 else 0:=by
 have e:l=l.take i++(l.getD i knotes.dflt::l.drop (i+1)):=by
  rw [List.getD_eq_getElem?_getD,List.getElem?_eq_getElem hi]
  show l=l.take i++(l[i]::l.drop (i+1))
  rw [<- List.drop_eq_getElem_cons hi,List.take_append_drop]
 generalize l.getD i knotes.dflt=y at e ⊢
 rw [List.count_append]
 refine(congrArg (List.count x) e).trans ?_
 rw [List.count_append,List.count_cons]
 by_cases h:y=x
 ·rw [if_pos h,if_pos (beq_iff_eq.2 h)];omega
 ·rw [if_neg h,if_neg (by simpa using h)];omega
end
end
section
open Go Go.Sx Go.Proofs
set_option maxRecDepth 100000
set_option maxHeartbeats 4000000
section
variable {n:Int} {hd:Bool} {K:Nat}
theorem nY (h0:0<=n) {m:RiteM} (h:m.WF n hd K) {x:Rp1} (hx:XOk n hd m.acc x) (hs:(m.step=5 /\ m.acc=⟨1,m.call.adr.s,m.call.adr.g,m.call.adr.f,wNil,wNil⟩) \/ (m.step=6 /\ (m.engine=3 \/ m.engine=5) /\ (hd=true->m.call.adr.s=0->m.call.adr.f=0->1<=m.word.slot)) \/ m.step=7) (k6:m.call.kind=6) (hi:0<=m.call.i /\ m.call.i < 9):RRes n hd K m.call (ib cond NN RT.m x (rOf m)):=by
 have hb:=h.b
 have hcl:=h.call (by rcases hs with⟨e,_⟩ | ⟨e,_⟩ | e<;>omega)
 have hadr:=(Fo hcl).2.1 (.inr (.inr (.inr k6)))
 have rb:RB n hd K m.call (rOf m):=⟨hb,hcl,rfl,rfl,rfl⟩
 unfold ib
 show RRes n hd K m.call (if m.step=7 then _ else if m.step=5 then _ else _)
 rcases hs with⟨hs,hacc⟩ | ⟨hs,he,hw⟩ | hs
 ·rw [if_neg (by omega),if_pos hs]
  have hrw:hd=true->m.call.adr.s=0->m.call.adr.f=0->1<=x.w.slot:=fun e a b=>hx.ld (by rw [hacc]) e (by rw [hacc];exact a) (by rw [hacc];exact b)
  have rbw:RB n hd K m.call {rOf m with m:={m with word:=x.w}}:=⟨⟨hb.eng,hb.me,hb.thr,hb.holds,hb.notes,hb.len,hx.w,hb.seen⟩,hcl,rfl,rfl,rfl⟩
  have rp:RpFor n hd m.call ⟨x.w,true⟩:=⟨hx.w,fun e=>by omega,fun e _ a b=>hrw e a b⟩
  show RRes n hd K m.call (if m.engine=3 \/ m.engine=5 then _ else if m.engine=2 then _ else _)
  by_cases he:m.engine=3 \/ m.engine=5
  ·rw [if_pos he]
   exact bN rbw.b hcl rfl (ek h0 jj) (by decide) (.inr (.inr (.inr (.inr (.inr (.inr (.inl ⟨rfl,k6,hi,he,hrw⟩)))))))
  ·rw [if_neg he]
   by_cases he2:m.engine=2
   ·rw [if_pos he2]
    refine eo (fun _=>?_) fun _=>ph h0 hb rp
    exact rz h0 rbw hi (bo hx.w) (by decide) (.inr (.inr (.inr (.inr (.inr (.inr (.inr (.inl ⟨rfl,k6,hi⟩))))))))
   ·rw [if_neg he2]
    exact ph h0 hb rp
 ·rw [if_neg (by omega),if_neg (by omega)]
  have rp:RpFor n hd m.call ⟨m.word,true⟩:=⟨hb.word,fun e=>by omega,fun e _ a b=>hw e a b⟩
  show RRes n hd K m.call (if m.engine=3 then _ else _)
  have st7:∀(r:RiteM),r.step=7->r.call=m.call->StR hd r:=fun r h1 h2=>.inr (.inr (.inr (.inr (.inr (.inr (.inr (.inl ⟨h1,by rw [h2];exact k6,by rw [h2];exact hi⟩)))))))
  by_cases he3:m.engine=3
  ·rw [if_pos he3]
   refine eo (fun _=>ph h0 hb rp) fun _=>?_
   exact rz h0 rb hi (dP h0 _) (by decide) (st7 _ rfl rfl)
  ·rw [if_neg he3]
   have ws:∀{a b c:Int},WOk n ⟨0,0,a,b,true⟩:=⟨Int.le_refl _,h0,fun _=>rfl⟩
   refine eo (fun _=>ph h0 hb rp) fun _=>eo (fun _=>?_) fun _=>?_
   ·exact kg h0 rb (ws (c:=0)) (by decide) (st7 _ rfl rfl)
   ·exact kg h0 rb (ws (c:=0)) (by decide) (st7 _ rfl rfl)
 ·rw [if_pos hs]
  exact bN hb hcl rfl (ek h0 hadr) (by decide) (.inr (.inr (.inr (.inr (.inr (.inl ⟨rfl,k6,hi,rfl⟩))))))
theorem Om (h0:0<=n) {m:RiteM} (h:m.WF n hd K) (hs:m.step≠0) {x:Rp1} (hx:XOk n hd m.acc x) (hK:K<=100000):Bk m=true /\ RRes n hd (K+1) m.call (eE m x):=by
 have hb:=h.b
 have hcl:=h.call hs
 have rb:RB n hd K m.call (rOf m):=⟨hb,hcl,rfl,rfl,rfl⟩
 have okr:Im m:=⟨hb.eng.1,hb.eng.2,hb.me.1,hb.me.2,Nat.le_trans hb.len hK⟩
 have oks:m.seen.length<=1000:=Nat.le_trans hb.seen (by decide)
 have okt:=hb.thr
 have low:∀{s:Int},m.step=s->s < 9->eE m x=ll cond NN RT.m x (rOf m):=fun {s} e h=>by
  unfold eE
  rw [if_neg (by omega),if_neg (by omega),if_neg (by omega),if_neg (by omega)]
 have mid:∀{s:Int},m.step=s->9<=s->s≠13->s≠15->s≠16->eE m x=lI cond NN RT.m (fun _=>true) x (rOf m):=fun {s} e h h1 h2 h3=>by
  unfold eE
  rw [if_neg (by omega),if_neg (by omega),if_neg (by omega),if_pos (by omega)]
 have em:(rOf m).m=m:=rfl
 have prot:∀{s:Int},m.step=s->(s=5 \/ s=6 \/ s=7)->ll cond NN RT.m x (rOf m)=ib cond NN RT.m x (rOf m):=fun {s} e h=>by
  unfold ll
  rw [em,if_neg (by omega),if_neg (by omega),if_neg (by omega),if_neg (by omega),if_neg (by omega)]
 rcases h.st with e | ⟨e,a1,a2⟩ | ⟨e,a1,a2⟩ | ⟨e,k⟩ | ⟨e,k,he,i0,i1⟩ | ⟨e,k,hi,ha⟩ | ⟨e,k,hi,he,hw⟩ | ⟨e,k,hi⟩ | ⟨e,k⟩ | ⟨e,k,he,sn⟩ | ⟨e,k,he,sn⟩ | ⟨e,k,he,sn⟩ | ⟨e,k,he,sn⟩ | ⟨e,k,he,i0,i1,i2⟩ | ⟨e,k,he⟩ | ⟨e,k,he⟩ | ⟨e,k,he,hd0,hcnt⟩
 ·exact absurd e hs
 ·refine⟨decide_eq_true ⟨okr,oks,okt.1,okt.2,.inl e⟩,RRes.mono (K:=K) ?_ (by omega)⟩
  rw [low e (by decide)]
  unfold ll
  rw [em,if_pos e]
  exact ph h0 hb ⟨hx.w,fun e8=>hx.al (a1 e8),fun _ e6=>absurd e6 a2⟩
 ·refine⟨decide_eq_true ⟨okr,oks,okt.1,okt.2,.inr (.inl e)⟩,RRes.mono (K:=K) ?_ (by omega)⟩
  rw [low e (by decide)]
  unfold ll
  rw [em,if_neg (by omega),if_pos e]
  exact eA h0 hb a1 a2
 ·refine⟨decide_eq_true ⟨okr,oks,okt.1,okt.2,.inr (.inr (.inl e))⟩,RRes.mono (K:=K) ?_ (by omega)⟩
  rw [low e (by decide)]
  unfold ll
  rw [em,if_neg (by omega),if_neg (by omega),if_pos e]
  exact kg h0 rb ⟨Int.le_refl _,h0,fun _=>rfl⟩ (by decide) (.inr (.inr (.inl ⟨rfl,by show m.call.kind≠8;omega,by show m.call.kind≠6;omega⟩)))
 ·refine⟨decide_eq_true ⟨okr,oks,okt.1,okt.2,.inr (.inr (.inr (.inl ⟨e,he,i0,i1⟩)))⟩,RRes.mono (K:=K) ?_ (by omega)⟩
  rw [low e (by decide)]
  unfold ll
  rw [em,if_neg (by omega),if_neg (by omega),if_neg (by omega),if_pos e]
  exact zJ h0 k rb (by omega)
 ·refine⟨decide_eq_true ⟨okr,oks,okt.1,okt.2,.inr (.inr (.inr (.inr (.inl ⟨e,hi.1,hi.2⟩))))⟩,RRes.mono (K:=K) ?_ (by omega)⟩
  rw [low e (by decide),prot e (by decide)]
  exact nY h0 h hx (.inl ⟨e,ha⟩) k hi
 ·refine⟨decide_eq_true ⟨okr,oks,okt.1,okt.2,.inr (.inr (.inr (.inr (.inr (.inl ⟨e,he,hi.1,hi.2⟩)))))⟩,RRes.mono (K:=K) ?_ (by omega)⟩
  rw [low e (by decide),prot e (by decide)]
  exact nY h0 h hx (.inr (.inl ⟨e,he,hw⟩)) k hi
 ·refine⟨decide_eq_true ⟨okr,oks,okt.1,okt.2,.inr (.inr (.inr (.inr (.inr (.inr (.inl e))))))⟩,RRes.mono (K:=K) ?_ (by omega)⟩
  rw [low e (by decide),prot e (by decide)]
  exact nY h0 h hx (.inr (.inr e)) k hi
 ·refine⟨decide_eq_true ⟨okr,oks,okt.1,okt.2,.inr (.inr (.inr (.inr (.inr (.inr (.inr (.inl e)))))))⟩,RRes.mono (K:=K) ?_ (by omega)⟩
  rw [low e (by decide)]
  unfold ll
  rw [em,if_neg (by omega),if_neg (by omega),if_neg (by omega),if_neg (by omega),if_pos e]
  exact bN hb hcl rfl (NU (dP h0 _)) (by decide) (.inr (.inl ⟨rfl,fun _=>rfl,by show m.call.kind≠6;omega⟩))
 ·refine⟨decide_eq_true ⟨okr,oks,okt.1,okt.2,.inr (.inr (.inr (.inr (.inr (.inr (.inr (.inr (.inl e))))))))⟩,RRes.mono (K:=K) ?_ (by omega)⟩
  rw [mid e (by decide) (by decide) (by decide) (by decide)]
  unfold lI
  rw [em,if_pos e]
  exact bN (r:={rOf m with m:={m with word:=x.w}}) ⟨hb.eng,hb.me,hb.thr,hb.holds,hb.notes,hb.len,hx.w,hb.seen⟩ hcl rfl (ek h0 jj) (by decide)
   (.inr (.inr (.inr (.inr (.inr (.inr (.inr (.inr (.inr (.inr (.inl ⟨rfl,k,he.elim .inl fun h=>.inr (.inr h),sn⟩)))))))))))
 ·refine⟨decide_eq_true ⟨okr,oks,okt.1,okt.2,.inr (.inr (.inr (.inr (.inr (.inr (.inr (.inr (.inr (.inl ⟨e,he⟩)))))))))⟩,?_⟩
  rw [mid e (by decide) (by decide) (by decide) (by decide)]
  unfold lI
  rw [em,if_neg (by omega),if_pos e]
  have hold:=(Fo hcl).2.2.1 (.inr k)
  have rbc:RB n hd K m.call {rOf m with m:={m with clock:=x.w}}:=⟨⟨hb.eng,hb.me,hb.thr,hb.holds,hb.notes,hb.len,hb.word,hb.seen⟩,hcl,rfl,rfl,rfl⟩
  have rba:=NO h0 rbc hold m.word.num x.w.num
  by_cases he5:m.engine=3 \/ m.engine=5
  ·rw [if_pos he5]
   exact bN rba.b hcl rfl (NW (lT h0)) (by decide) (.inr (.inr (.inr (.inr (.inr (.inr (.inr (.inr (.inr (.inr (.inr (.inl ⟨rfl,k,he5,sn⟩))))))))))))
  ·rw [if_neg he5]
   have he4:m.engine=4:=by omega
   unfold lJ
   refine eo (fun _=>?_) fun _=>eA h0 rba.b (by omega) (by omega)
   unfold uC
   show RRes n hd (K+1) m.call (if m.engine=1 then _ else if m.engine=4 then _ else _)
   rw [if_neg (by omega),if_pos he4]
   exact bN rba.b hcl rfl (ek h0 jj) (by decide) (.inr (.inr (.inr (.inr (.inr (.inr (.inr (.inr (.inr (.inr (.inr (.inr (.inl ⟨rfl,.inl k,he4,sn⟩)))))))))))))
 ·refine⟨decide_eq_true ⟨okr,oks,okt.1,okt.2,.inr (.inr (.inr (.inr (.inr (.inr (.inr (.inr (.inr (.inr (.inl ⟨e,he⟩))))))))))⟩,RRes.mono (K:=K) ?_ (by omega)⟩
  rw [mid e (by decide) (by decide) (by decide) (by decide)]
  unfold lI
  rw [em,if_neg (by omega),if_neg (by omega),if_pos e]
  exact zv h0 (.inl k) rb sn
 ·refine⟨decide_eq_true ⟨okr,oks,okt.1,okt.2,.inr (.inr (.inr (.inr (.inr (.inr (.inr (.inr (.inr (.inr (.inr (.inl ⟨e,he⟩)))))))))))⟩,RRes.mono (K:=K) ?_ (by omega)⟩
  rw [mid e (by decide) (by decide) (by decide) (by decide)]
  unfold lI
  rw [em,if_neg (by omega),if_neg (by omega),if_neg (by omega),if_pos e]
  refine xA h0 k (r:={rOf m with m:={m with clock:=x.w}}) ⟨⟨hb.eng,hb.me,hb.thr,hb.holds,hb.notes,hb.len,hb.word,hb.seen⟩,hcl,rfl,rfl,rfl⟩ (by show 2<=m.engine;omega) (i:=0) (by show m.seen.length=0;rw [sn];rfl) fun _ hk=>?_
  exfalso
  have hk:((0:Nat):Int)>=(if m.engine=2 \/ m.engine=3 then m.threads * 9 else m.threads):=hk
  split at hk<;>omega
 ·refine⟨decide_eq_true ⟨okr,oks,okt.1,okt.2,.inr (.inr (.inr (.inr (.inr (.inr (.inr (.inr (.inr (.inr (.inr (.inr (.inl ⟨e,he,i0,by omega⟩))))))))))))⟩,RRes.mono (K:=K) ?_ (by omega)⟩
  unfold eE
  rw [if_pos e]
  have ew:IntKind.wrap .i64 (m.index+1)=((m.seen.length+1:Nat):Int):=by rw [jl (by omega)];omega
  rw [ew]
  have hsl:(m.seen++[x.w]).length=m.seen.length+1:=by rw [List.length_append];rfl
  have hsl54:(m.seen++[x.w]).length<=54:=by rw [hsl];omega
  have rbs:RB n hd K m.call (js x.w (rOf m)):=⟨⟨hb.eng,hb.me,hb.thr,hb.holds,hb.notes,hb.len,hb.word,hsl54⟩,hcl,rfl,rfl,rfl⟩
  refine xA h0 k rbs he hsl fun _ _=>?_
  by_cases he4:m.engine=4
  ·rw [if_pos he4]
   refine eo (fun _=>?_) fun _=>?_
   ·exact bN rbs.b hcl rfl (NW (lT h0)) (by decide) (.inr (.inr (.inr (.inr (.inr (.inr (.inr (.inr (.inr (.inr (.inr (.inr (.inr (.inr (.inl ⟨rfl,k,he4⟩)))))))))))))))
   ·exact bN rbs.b hcl rfl (ek h0 jj) (by decide) (.inr (.inr (.inr (.inr (.inr (.inr (.inr (.inr (.inr (.inr (.inr (.inr (.inr (.inr (.inr (.inl ⟨rfl,k,he4⟩))))))))))))))))
  ·rw [if_neg he4]
   exact Cq h0 k rbs.b hcl rfl he
 ·refine⟨decide_eq_true ⟨okr,oks,okt.1,okt.2,.inr (.inr (.inr (.inr (.inr (.inr (.inr (.inr (.inr (.inr (.inr (.inr (.inr (.inl ⟨e,he⟩)))))))))))))⟩,RRes.mono (K:=K) ?_ (by omega)⟩
  rw [mid e (by decide) (by decide) (by decide) (by decide)]
  unfold lI
  rw [em,if_neg (by omega),if_neg (by omega),if_neg (by omega),if_neg (by omega)]
  exact bN hb hcl rfl (ek h0 jj) (by decide) (.inr (.inr (.inr (.inr (.inr (.inr (.inr (.inr (.inr (.inr (.inr (.inr (.inr (.inr (.inr (.inl ⟨rfl,k,he⟩))))))))))))))))
 ·refine⟨decide_eq_true ⟨okr,oks,okt.1,okt.2,.inr (.inr (.inr (.inr (.inr (.inr (.inr (.inr (.inr (.inr (.inr (.inr (.inr (.inr (.inl ⟨e,he⟩))))))))))))))⟩,RRes.mono (K:=K) ?_ (by omega)⟩
  unfold eE
  rw [if_neg (by omega),if_pos e]
  exact Cq h0 k (m:={m with clock:=x.w}) ⟨hb.eng,hb.me,hb.thr,hb.holds,hb.notes,hb.len,hb.word,hb.seen⟩ hcl rfl (by show 2<=m.engine;omega)
 ·have hmem:m.doomed.getD 0 knotes.dflt∈m.notes:=by
   have h1:m.doomed.getD 0 knotes.dflt∈m.doomed:=jF hd0
   exact List.count_pos_iff.1 (Nat.lt_of_lt_of_le (List.count_pos_iff.2 h1) (hcnt _))
  obtain⟨x1,x2,x3⟩:=ME hmem
  refine⟨decide_eq_true ⟨okr,oks,okt.1,okt.2,.inr (.inr (.inr (.inr (.inr (.inr (.inr (.inr (.inr (.inr (.inr (.inr (.inr (.inr (.inr ⟨e,hd0,x1,x2⟩))))))))))))))⟩,RRes.mono (K:=K) ?_ (by omega)⟩
  unfold eE
  rw [if_neg (by omega),if_neg (by omega),if_pos e]
  unfold EZ
  have hi:(dL (m.doomed.getD 0 knotes.dflt) m.notes).toNat < m.notes.length:=by omega
  generalize hix:(dL (m.doomed.getD 0 knotes.dflt) m.notes).toNat=ix at hi x3
  have hln:(m.notes.take ix++m.notes.drop (ix+1)).length=m.notes.length - 1:=by
   rw [List.length_append,List.length_take,List.length_drop];omega
  refine Cz h0 k (r:={m:={m with notes:=m.notes.take ix++m.notes.drop (ix+1),freed:=IntKind.wrap .i64 (m.freed+1),doomed:=m.doomed.drop 1},ls:=m.seen.length,ld:=m.doomed.length - 1,ln:=m.notes.length - 1}) ⟨⟨hb.eng,hb.me,hb.thr,hb.holds,fun y hy=>?_,by rw [hln];have:=hb.len;omega,hb.word,hb.seen⟩,hcl,rfl,hln.symm,by show m.doomed.length - 1=(m.doomed.drop 1).length;rw [List.length_drop]⟩ he hb.seen fun y=>?_
  ·rcases List.mem_append.1 hy with hy | hy
   ·exact hb.notes y (List.mem_of_mem_take hy)
   ·exact hb.notes y (List.mem_of_mem_drop hy)
  ·show (m.doomed.drop 1).count y<=(m.notes.take ix++m.notes.drop (ix+1)).count y
   have c1:=Am hi y
   have c2:=Am hd0 y
   rw [x3] at c1
   rw [List.take_zero,List.nil_append] at c2
   have:=hcnt y
   show (m.doomed.drop (0+1)).count y<=_
   omega
end
end
section
open Go Go.Sx Go.Proofs
set_option maxRecDepth 100000
set_option maxHeartbeats 4000000
theorem lP {n:Int}:AOk n dX:=.inl ⟨rfl,rfl,by decide,by decide⟩
theorem ze {n:Int} {pc0:Int} {a:Ad×Int} {r:(Cl×Bool)×WalkM} (h:WalkOk n pc0 (dS a).rk r) (hb:r.1.2=true):¬imm r.1.1:=fun hi=>Nat.not_lt_zero _ (h.rk hb hi)
theorem j7 {n:Int} {w:WalkM} (h:w.WF n) (hb:(!w.found)=false):1<=w.cur.slot:=(h.fd (by cases hf:w.found with | true=>rfl | false=>rw [hf] at hb;cases hb)).2
theorem ES {n:Int} (h0:0<=n) {j:LitM} (h:j.WF n) {hd:Bool} {c:Cl} (ha:j.aw c) {x:Rp1} (hr:RpFor n hd c x):Yl n j.rk (bj j x):=by
 obtain⟨pc,last,start,key,⟨kd,ky,val,tall⟩,wk,node,v⟩:=j
 obtain⟨_,hs,hp,hl,hn,hnd,hw,hcz⟩:=h
 dsimp only [LitM.aw] at hs hp hl hn hnd hw hcz ha
 have hx:WOk n x.w:=hr.w
 have nx:0<=x.w.slot:=hx.1
 have hnk:=AM h0 (qk h0 hs key) hx
 have al:kd=6->pc=1->x.ok=true->1<=x.w.slot:=fun h6 h=>hr.al (ha h6 h)
 unfold bj C2
 dsimp only [id]
 cases wk with
 | none =>
   dsimp only
   generalize aG (dS (start,key)) x=r1 at hnk ⊢
   obtain⟨⟨c1,b1⟩,w1⟩:=r1
   rcases hp with⟨rfl,hp⟩ | ⟨rfl,hp⟩ | ⟨rfl,hp⟩
   ·rcases hp with rfl | rfl | rfl | rfl | rfl | rfl | rfl | rfl | rfl
    all_goals dsimp only
    all_goals (repeat' (refine dF (fun hb=>?_) (fun hb=>?_)<;>first | (exact absurd hb (by decide)) | skip))
    all_goals refine⟨?_,⟨?_,?_,?_,?_,?_,?_,?_,?_⟩,?_,?_⟩
    all_goals dsimp only [LitM.rk,LitM.aw]
    all_goals first
     | exact .inl rfl
     | exact .inl (hl rfl)
     | exact .inr (dY h0)
     | exact .inr (hnk.on (by assumption))
     | exact gw hnk.wf
     | exact .inr (aO h0 (aq hnk.wf.cur (by decide) (by decide)))
     | exact .inr (aL h0 (aq hn (by decide) (by decide)) (bo hnk.wf.cur))
     | exact fun _ _=>⟨_,rfl,j7 hnk.wf (by assumption)⟩
     | exact .inr (aL h0 (aq (by assumption) (by decide) (by decide)) (dP h0 _))
     | exact .inr (aL h0 (aq (by assumption) (by decide) (by decide)) (bo (ay h0)))
     | exact .inr (gW h0 hn (hnd rfl (by decide)))
     | exact .inr (aV lP (ay h0) (b5 hn))
     | exact .inr (aO h0 (aq (ay h0) (by decide) (by decide)))
     | exact .inr (aV (aq (ay h0) (by decide) (by decide)) (ay h0) (gE (ay h0)))
     | exact(hcz rfl (by decide)).elim fun w0 h=>by cases h.1
     | assumption
     | exact .inl rfl
     | exact .inr (.inl rfl)
     | exact .inr (.inr rfl)
     | decide
     | exact fun h=>absurd h (by decide)
     | exact fun _=>rfl
     | exact fun _ _=>rfl
     | exact fun h _=>absurd h (by decide)
     | exact fun _ h=>absurd h (by decide)
     | exact fun _ _=>hnd rfl (by decide)
     | exact fun _ _=>al rfl rfl (by have hq:=‹(!x.ok)=false›;revert hq;cases x.ok<;>decide)
     | exact fun _ _=>hcz rfl (by decide)
     | exact oQ
     | exact fun h=>absurd h cF
     | exact fun h=>absurd h dN
     | exact fun h=>absurd h dA
     | exact fun h=>absurd h fg
     | exact fun h=>absurd h gk
     | exact fun h=>absurd h iu
     | exact fun h=>absurd h (fw (hl rfl) (by decide) (by decide))
     | exact fun h=>absurd h (ze hnk (by assumption))
     | exact fun _=>(by simp)
     | skip
   ·rcases hp with rfl | rfl | rfl | rfl | rfl | rfl | rfl | rfl
    all_goals dsimp only
    all_goals (repeat' (refine dF (fun hb=>?_) (fun hb=>?_)<;>first | (exact absurd hb (by decide)) | skip))
    all_goals refine⟨?_,⟨?_,?_,?_,?_,?_,?_,?_,?_⟩,?_,?_⟩
    all_goals dsimp only [LitM.rk,LitM.aw]
    all_goals first
     | exact .inl rfl
     | exact .inl (hl rfl)
     | exact .inr (dY h0)
     | exact .inr (hnk.on (by assumption))
     | exact gw hnk.wf
     | exact .inr (aO h0 (aq hnk.wf.cur (by decide) (by decide)))
     | exact .inr (aL h0 (aq hn (by decide) (by decide)) (bo hnk.wf.cur))
     | exact fun _ _=>⟨_,rfl,j7 hnk.wf (by assumption)⟩
     | exact .inr (aL h0 (aq (by assumption) (by decide) (by decide)) (dP h0 _))
     | exact .inr (aL h0 (aq (by assumption) (by decide) (by decide)) (bo (ay h0)))
     | exact .inr (gW h0 hn (hnd rfl (by decide)))
     | exact .inr (aV lP (ay h0) (b5 hn))
     | exact .inr (aO h0 (aq (ay h0) (by decide) (by decide)))
     | exact .inr (aV (aq (ay h0) (by decide) (by decide)) (ay h0) (gE (ay h0)))
     | exact(hcz rfl (by decide)).elim fun w0 h=>by cases h.1
     | assumption
     | exact .inl rfl
     | exact .inr (.inl rfl)
     | exact .inr (.inr rfl)
     | decide
     | exact fun h=>absurd h (by decide)
     | exact fun _=>rfl
     | exact fun _ _=>rfl
     | exact fun h _=>absurd h (by decide)
     | exact fun _ h=>absurd h (by decide)
     | exact fun _ _=>hnd rfl (by decide)
     | exact fun _ _=>al rfl rfl (by have hq:=‹(!x.ok)=false›;revert hq;cases x.ok<;>decide)
     | exact fun _ _=>hcz rfl (by decide)
     | exact oQ
     | exact fun h=>absurd h cF
     | exact fun h=>absurd h dN
     | exact fun h=>absurd h dA
     | exact fun h=>absurd h fg
     | exact fun h=>absurd h gk
     | exact fun h=>absurd h iu
     | exact fun h=>absurd h (fw (hl rfl) (by decide) (by decide))
     | exact fun h=>absurd h (ze hnk (by assumption))
     | exact fun _=>(by simp)
     | skip
   ·rcases hp with rfl | rfl | rfl | rfl
    all_goals dsimp only
    all_goals (repeat' (refine dF (fun hb=>?_) (fun hb=>?_)<;>first | (exact absurd hb (by decide)) | skip))
    all_goals refine⟨?_,⟨?_,?_,?_,?_,?_,?_,?_,?_⟩,?_,?_⟩
    all_goals dsimp only [LitM.rk,LitM.aw]
    all_goals first
     | exact .inl rfl
     | exact .inl (hl rfl)
     | exact .inr (dY h0)
     | exact .inr (hnk.on (by assumption))
     | exact gw hnk.wf
     | exact .inr (aO h0 (aq hnk.wf.cur (by decide) (by decide)))
     | exact .inr (aL h0 (aq hn (by decide) (by decide)) (bo hnk.wf.cur))
     | exact fun _ _=>⟨_,rfl,j7 hnk.wf (by assumption)⟩
     | exact .inr (aL h0 (aq (by assumption) (by decide) (by decide)) (dP h0 _))
     | exact .inr (aL h0 (aq (by assumption) (by decide) (by decide)) (bo (ay h0)))
     | exact .inr (gW h0 hn (hnd rfl (by decide)))
     | exact .inr (aV lP (ay h0) (b5 hn))
     | exact .inr (aO h0 (aq (ay h0) (by decide) (by decide)))
     | exact .inr (aV (aq (ay h0) (by decide) (by decide)) (ay h0) (gE (ay h0)))
     | exact(hcz rfl (by decide)).elim fun w0 h=>by cases h.1
     | assumption
     | exact .inl rfl
     | exact .inr (.inl rfl)
     | exact .inr (.inr rfl)
     | decide
     | exact fun h=>absurd h (by decide)
     | exact fun _=>rfl
     | exact fun _ _=>rfl
     | exact fun h _=>absurd h (by decide)
     | exact fun _ h=>absurd h (by decide)
     | exact fun _ _=>hnd rfl (by decide)
     | exact fun _ _=>al rfl rfl (by have hq:=‹(!x.ok)=false›;revert hq;cases x.ok<;>decide)
     | exact fun _ _=>hcz rfl (by decide)
     | exact oQ
     | exact fun h=>absurd h cF
     | exact fun h=>absurd h dN
     | exact fun h=>absurd h dA
     | exact fun h=>absurd h fg
     | exact fun h=>absurd h gk
     | exact fun h=>absurd h iu
     | exact fun h=>absurd h (fw (hl rfl) (by decide) (by decide))
     | exact fun h=>absurd h (ze hnk (by assumption))
     | exact fun _=>(by simp)
     | skip
 | some w =>
   have hww:=hw w rfl
   have hwk:=AM h0 hww hx
   dsimp only
   generalize aG w x=r2 at hwk ⊢
   obtain⟨⟨c2,b2⟩,w2⟩:=r2
   generalize aG (dS (start,key)) x=r1 at hnk ⊢
   obtain⟨⟨c1,b1⟩,w1⟩:=r1
   rcases hp with⟨rfl,hp⟩ | ⟨rfl,hp⟩ | ⟨rfl,hp⟩
   ·rcases hp with rfl | rfl | rfl | rfl | rfl | rfl | rfl | rfl | rfl
    all_goals dsimp only
    all_goals (repeat' (refine dF (fun hb=>?_) (fun hb=>?_)<;>first | (exact absurd hb (by decide)) | skip))
    all_goals refine⟨?_,⟨?_,?_,?_,?_,?_,?_,?_,?_⟩,?_,?_⟩
    all_goals dsimp only [LitM.rk,LitM.aw]
    all_goals first
     | exact .inl rfl
     | exact .inl (hl rfl)
     | exact .inr (dY h0)
     | exact .inr (hwk.on (by assumption))
     | exact gw hwk.wf
     | exact .inr (aO h0 (aq hwk.wf.cur (by decide) (by decide)))
     | exact .inr (aL h0 (aq hn (by decide) (by decide)) (bo hwk.wf.cur))
     | exact fun _ _=>⟨_,rfl,j7 hwk.wf (by assumption)⟩
     | exact .inr (hnk.on (by assumption))
     | exact gw hnk.wf
     | exact .inr (aO h0 (aq hnk.wf.cur (by decide) (by decide)))
     | exact .inr (aL h0 (aq hn (by decide) (by decide)) (bo hnk.wf.cur))
     | exact fun _ _=>⟨_,rfl,j7 hnk.wf (by assumption)⟩
     | exact .inr (aL h0 (aq (by assumption) (by decide) (by decide)) (dP h0 _))
     | exact .inr (aL h0 (aq (by assumption) (by decide) (by decide)) (bo (ay h0)))
     | exact .inr (gW h0 hn (hnd rfl (by decide)))
     | exact .inr (aV hww.prev hww.cur (b5 hn))
     | exact .inr (aV hww.prev hww.cur (b5 hww.next))
     | exact .inr (aV (aq hww.cur (by decide) (by decide)) hww.next (gE hww.next))
     | exact .inr (eG h0 hww.cur ((hcz rfl (by decide)).elim fun w0 h=>by cases h.1;exact h.2))
     | exact .inr (aO h0 (aq hww.cur (by decide) (by decide)))
     | assumption
     | exact .inl rfl
     | exact .inr (.inl rfl)
     | exact .inr (.inr rfl)
     | decide
     | exact fun h=>absurd h (by decide)
     | exact fun _=>rfl
     | exact fun _ _=>rfl
     | exact fun h _=>absurd h (by decide)
     | exact fun _ h=>absurd h (by decide)
     | exact fun _ _=>hnd rfl (by decide)
     | exact fun _ _=>al rfl rfl (by have hq:=‹(!x.ok)=false›;revert hq;cases x.ok<;>decide)
     | exact fun _ _=>hcz rfl (by decide)
     | exact oQ
     | exact fun h=>absurd h cF
     | exact fun h=>absurd h dN
     | exact fun h=>absurd h dA
     | exact fun h=>absurd h fg
     | exact fun h=>absurd h gk
     | exact fun h=>absurd h iu
     | exact fun h=>absurd h (fw (hl rfl) (by decide) (by decide))
     | exact fun h=>absurd h (ze hnk (by assumption))
     | exact fun h=>(by have hq:=hwk.rk (by assumption) h;simp [wrk];exact hq)
     | exact fun _=>(by simp)
     | skip
   ·rcases hp with rfl | rfl | rfl | rfl | rfl | rfl | rfl | rfl
    all_goals dsimp only
    all_goals (repeat' (refine dF (fun hb=>?_) (fun hb=>?_)<;>first | (exact absurd hb (by decide)) | skip))
    all_goals refine⟨?_,⟨?_,?_,?_,?_,?_,?_,?_,?_⟩,?_,?_⟩
    all_goals dsimp only [LitM.rk,LitM.aw]
    all_goals first
     | exact .inl rfl
     | exact .inl (hl rfl)
     | exact .inr (dY h0)
     | exact .inr (hwk.on (by assumption))
     | exact gw hwk.wf
     | exact .inr (aO h0 (aq hwk.wf.cur (by decide) (by decide)))
     | exact .inr (aL h0 (aq hn (by decide) (by decide)) (bo hwk.wf.cur))
     | exact fun _ _=>⟨_,rfl,j7 hwk.wf (by assumption)⟩
     | exact .inr (hnk.on (by assumption))
     | exact gw hnk.wf
     | exact .inr (aO h0 (aq hnk.wf.cur (by decide) (by decide)))
     | exact .inr (aL h0 (aq hn (by decide) (by decide)) (bo hnk.wf.cur))
     | exact fun _ _=>⟨_,rfl,j7 hnk.wf (by assumption)⟩
     | exact .inr (aL h0 (aq (by assumption) (by decide) (by decide)) (dP h0 _))
     | exact .inr (aL h0 (aq (by assumption) (by decide) (by decide)) (bo (ay h0)))
     | exact .inr (gW h0 hn (hnd rfl (by decide)))
     | exact .inr (aV hww.prev hww.cur (b5 hn))
     | exact .inr (aV hww.prev hww.cur (b5 hww.next))
     | exact .inr (aV (aq hww.cur (by decide) (by decide)) hww.next (gE hww.next))
     | exact .inr (eG h0 hww.cur ((hcz rfl (by decide)).elim fun w0 h=>by cases h.1;exact h.2))
     | exact .inr (aO h0 (aq hww.cur (by decide) (by decide)))
     | assumption
     | exact .inl rfl
     | exact .inr (.inl rfl)
     | exact .inr (.inr rfl)
     | decide
     | exact fun h=>absurd h (by decide)
     | exact fun _=>rfl
     | exact fun _ _=>rfl
     | exact fun h _=>absurd h (by decide)
     | exact fun _ h=>absurd h (by decide)
     | exact fun _ _=>hnd rfl (by decide)
     | exact fun _ _=>al rfl rfl (by have hq:=‹(!x.ok)=false›;revert hq;cases x.ok<;>decide)
     | exact fun _ _=>hcz rfl (by decide)
     | exact oQ
     | exact fun h=>absurd h cF
     | exact fun h=>absurd h dN
     | exact fun h=>absurd h dA
     | exact fun h=>absurd h fg
     | exact fun h=>absurd h gk
     | exact fun h=>absurd h iu
     | exact fun h=>absurd h (fw (hl rfl) (by decide) (by decide))
     | exact fun h=>absurd h (ze hnk (by assumption))
     | exact fun h=>(by have hq:=hwk.rk (by assumption) h;simp [wrk];exact hq)
     | exact fun _=>(by simp)
     | skip
   ·rcases hp with rfl | rfl | rfl | rfl
    all_goals dsimp only
    all_goals (repeat' (refine dF (fun hb=>?_) (fun hb=>?_)<;>first | (exact absurd hb (by decide)) | skip))
    all_goals refine⟨?_,⟨?_,?_,?_,?_,?_,?_,?_,?_⟩,?_,?_⟩
    all_goals dsimp only [LitM.rk,LitM.aw]
    all_goals first
     | exact .inl rfl
     | exact .inl (hl rfl)
     | exact .inr (dY h0)
     | exact .inr (hwk.on (by assumption))
     | exact gw hwk.wf
     | exact .inr (aO h0 (aq hwk.wf.cur (by decide) (by decide)))
     | exact .inr (aL h0 (aq hn (by decide) (by decide)) (bo hwk.wf.cur))
     | exact fun _ _=>⟨_,rfl,j7 hwk.wf (by assumption)⟩
     | exact .inr (hnk.on (by assumption))
     | exact gw hnk.wf
     | exact .inr (aO h0 (aq hnk.wf.cur (by decide) (by decide)))
     | exact .inr (aL h0 (aq hn (by decide) (by decide)) (bo hnk.wf.cur))
     | exact fun _ _=>⟨_,rfl,j7 hnk.wf (by assumption)⟩
     | exact .inr (aL h0 (aq (by assumption) (by decide) (by decide)) (dP h0 _))
     | exact .inr (aL h0 (aq (by assumption) (by decide) (by decide)) (bo (ay h0)))
     | exact .inr (gW h0 hn (hnd rfl (by decide)))
     | exact .inr (aV hww.prev hww.cur (b5 hn))
     | exact .inr (aV hww.prev hww.cur (b5 hww.next))
     | exact .inr (aV (aq hww.cur (by decide) (by decide)) hww.next (gE hww.next))
     | exact .inr (eG h0 hww.cur ((hcz rfl (by decide)).elim fun w0 h=>by cases h.1;exact h.2))
     | exact .inr (aO h0 (aq hww.cur (by decide) (by decide)))
     | assumption
     | exact .inl rfl
     | exact .inr (.inl rfl)
     | exact .inr (.inr rfl)
     | decide
     | exact fun h=>absurd h (by decide)
     | exact fun _=>rfl
     | exact fun _ _=>rfl
     | exact fun h _=>absurd h (by decide)
     | exact fun _ h=>absurd h (by decide)
     | exact fun _ _=>hnd rfl (by decide)
     | exact fun _ _=>al rfl rfl (by have hq:=‹(!x.ok)=false›;revert hq;cases x.ok<;>decide)
     | exact fun _ _=>hcz rfl (by decide)
     | exact oQ
     | exact fun h=>absurd h cF
     | exact fun h=>absurd h dN
     | exact fun h=>absurd h dA
     | exact fun h=>absurd h fg
     | exact fun h=>absurd h gk
     | exact fun h=>absurd h iu
     | exact fun h=>absurd h (fw (hl rfl) (by decide) (by decide))
     | exact fun h=>absurd h (ze hnk (by assumption))
     | exact fun h=>(by have hq:=hwk.rk (by assumption) h;simp [wrk];exact hq)
     | exact fun _=>(by simp)
     | skip
end
end Go.Proofs.YtadmfaohjnjajaaGreatDoor
