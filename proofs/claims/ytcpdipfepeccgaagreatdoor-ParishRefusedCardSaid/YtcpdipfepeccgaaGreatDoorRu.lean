import Derived.Test.YtcpdipfepeccgaaGreatDoorRk
import Derived.Test.YtcpdipfepeccgaaGreatDoorQw
set_option maxHeartbeats 4000000
set_option linter.unusedSimpArgs false
set_option linter.unusedVariables false
namespace Go.Proofs.YtcpdipfepeccgaaGreatDoor
open Go Go.Sx Go.Proofs
set_option maxRecDepth 100000
set_option maxHeartbeats 4000000
structure AcOk (n:Int) (hd:Bool) (a:Acc):Prop where
 v:((a.kind=1 \/ a.kind=2 \/ a.kind=3) /\ AOk n ⟨a.s,a.g,a.f⟩) \/ a.kind=4 \/ (a.kind=5 /\ 1<=a.old.slot /\ a.old.slot<=n)
 w:WOk n a.new
 h:hd=true->(a.kind=2 \/ a.kind=3)->a.s=0->a.f=0->1<=a.new.slot
theorem AcOk.valid {n:Nat} {hd:Bool} {a:Acc} (h:AcOk n hd a) {p:PlotM} (hp:p.WF n):p.valid a:=by
 unfold PlotM.valid
 rcases h.v with⟨hk,ha⟩ | hk | ⟨hk,h1,h2⟩
 ·rw [if_pos hk]
  unfold PlotM.hasA
  rcases ha with⟨a1,a2,a3,a4⟩ | ⟨a1,a2,a3,a4⟩
  ·have a1:a.s=0:=a1
   rw [if_pos a1,hp.lb]
   exact⟨a2,a3,a4⟩
  ·have a1:1<=a.s:=a1
   rw [if_neg (by omega)]
   refine⟨⟨a1,?_⟩,a3,a4⟩
   rw [hp.ls];exact a2
 ·rw [if_neg (by omega),if_pos hk];trivial
 ·rw [if_neg (by omega),if_neg (by omega),if_pos hk]
  refine⟨h1,?_⟩
  rw [hp.ls];exact h2
structure XOk (n:Int) (hd:Bool) (a:Acc) (x:Rp1):Prop where
 w:WOk n x.w
 al:a.kind=4->x.ok=true->1<=x.w.slot
 ld:a.kind=1->hd=true->a.s=0->a.f=0->1<=x.w.slot
def NOk (n:Int) (x:Nt):Prop:=1<=x.slot /\ x.slot<=n
def ClB (n:Int) (hd:Bool) (c:Cl):Prop:=(ClOk n c /\ (hd=true->hdW c)) \/ c.kind=1 \/ c.kind=2 \/ c.kind=11
def H9.Ok (n:Int) (s:H9):Prop:=WOk n s.h0 /\ WOk n s.h1 /\ WOk n s.h2 /\ WOk n s.h3 /\ WOk n s.h4 /\ WOk n s.h5 /\ WOk n s.h6 /\ WOk n s.h7 /\ WOk n s.h8
theorem H9.get_ok {n:Int} {s:H9} (h:s.Ok n) (i:Int):WOk n (s.get i):=by
 obtain⟨a0,a1,a2,a3,a4,a5,a6,a7,a8⟩:=h
 unfold H9.get
 repeat' split
 all_goals assumption
theorem H9.put_ok {n:Int} {s:H9} (h:s.Ok n) (i:Int) {w:W} (hw:WOk n w):(s.put i w).Ok n:=by
 obtain⟨a0,a1,a2,a3,a4,a5,a6,a7,a8⟩:=h
 unfold H9.put
 repeat' split
 all_goals exact⟨by assumption,by assumption,by assumption,by assumption,by assumption,by assumption,by assumption,by assumption,by assumption⟩
def St (hd:Bool) (m:RiteM):Prop :=
 m.step=0 \/ (m.step=1 /\ (m.call.kind=8->m.acc.kind=4) /\ m.call.kind≠6) \/ (m.step=2 /\ m.call.kind≠8 /\ m.call.kind≠6) \/ (m.step=3 /\ m.call.kind=1) \/
 (m.step=4 /\ m.call.kind=2 /\ (m.engine=2 \/ m.engine=3) /\ 0<=m.index /\ m.index < 9) \/
 (m.step=5 /\ m.call.kind=6 /\ (0<=m.call.i /\ m.call.i < 9) /\ m.acc=⟨1,m.call.adr.s,m.call.adr.g,m.call.adr.f,wNil,wNil⟩) \/
 (m.step=6 /\ m.call.kind=6 /\ (0<=m.call.i /\ m.call.i < 9) /\ (m.engine=3 \/ m.engine=5) /\ (hd=true->m.call.adr.s=0->m.call.adr.f=0->1<=m.word.slot)) \/
 (m.step=7 /\ m.call.kind=6 /\ (0<=m.call.i /\ m.call.i < 9)) \/ (m.step=8 /\ m.call.kind=8) \/
 (m.step=9 /\ m.call.kind=10 /\ (m.engine=3 \/ m.engine=5) /\ m.seen=[]) \/ (m.step=10 /\ m.call.kind=10 /\ (m.engine=3 \/ m.engine=4 \/ m.engine=5) /\ m.seen=[]) \/ (m.step=11 /\ m.call.kind=10 /\ (m.engine=3 \/ m.engine=5) /\ m.seen=[]) \/
 (m.step=12 /\ (m.call.kind=10 \/ m.call.kind=11) /\ m.engine=4 /\ m.seen=[]) \/ (m.step=13 /\ (m.call.kind=10 \/ m.call.kind=11) /\ 2<=m.engine /\ 0<=m.index /\ m.index < 54 /\ (m.seen.length:Int)=m.index) \/
 (m.step=14 /\ (m.call.kind=10 \/ m.call.kind=11) /\ m.engine=4) \/ (m.step=15 /\ (m.call.kind=10 \/ m.call.kind=11) /\ m.engine=4) \/
 (m.step=16 /\ (m.call.kind=10 \/ m.call.kind=11) /\ 2<=m.engine /\ 0 < m.doomed.length /\ ∀x,m.doomed.count x<=m.notes.count x)
structure RiteM.B (n:Int) (hd:Bool) (K:Nat) (m:RiteM):Prop where
 eng:1<=m.engine /\ m.engine<=5
 me:0<=m.me /\ m.me < 6
 thr:1<=m.threads /\ m.threads<=6
 holds:m.holds.Ok n
 notes:∀x∈m.notes,NOk n x
 len:m.notes.length<=K
 word:WOk n m.word
 seen:m.seen.length<=54
structure RiteM.WF (n:Int) (hd:Bool) (K:Nat) (m:RiteM):Prop where
 b:m.B n hd K
 call:m.step≠0->ClB n hd m.call
 acc:m.step≠0->AcOk n hd m.acc
 st:St hd m
structure RRes (n:Int) (hd:Bool) (K:Nat) (c:Cl) (r:RiteM):Prop where
 wf:r.WF n hd K
 on:r.step≠0->r.call=c
 off:r.step=0->RpFor n hd c r.reply
section
variable {n:Int} {hd:Bool} {K:Nat} {c:Cl}
theorem B.mono {m:RiteM} {K':Nat} (h:m.B n hd K) (hk:K<=K'):m.B n hd K':=⟨h.eng,h.me,h.thr,h.holds,h.notes,Nat.le_trans h.len hk,h.word,h.seen⟩
theorem fin_res (h0:0<=n) {r:RT} (h:r.m.B n hd K) {x:Rp1} (hx:RpFor n hd c x):RRes n hd K c (rFinish x r).m :=
 ⟨⟨⟨h.eng,h.me,h.thr,h.holds,h.notes,h.len,wok_nil h0,Nat.zero_le _⟩,fun e=>absurd rfl e,fun e=>absurd rfl e,.inl rfl⟩,fun e=>absurd rfl e,fun _=>hx⟩
theorem done_res (h0:0<=n) {r:RT} (h:r.m.B n hd K) (h8:c.kind≠8) (h6:c.kind≠6):RRes n hd K c (rDone RT.m r) :=
 fin_res h0 h ⟨wok_nil h0,fun e=>absurd e h8,fun _ e=>absurd e h6⟩
theorem ask_res {r:RT} (h:r.m.B n hd K) (hcl:ClB n hd c) (hc:r.m.call=c) {s:Int} {a:Acc} (ha:AcOk n hd a) (hs:s≠0) (hst:St hd (rAsk s a r).m):RRes n hd K c (rAsk s a r).m :=
 ⟨⟨⟨h.eng,h.me,h.thr,h.holds,h.notes,h.len,h.word,h.seen⟩,fun _=>hc▸hcl,fun _=>ha,hst⟩,fun _=>hc,fun e=>absurd e hs⟩
theorem ac_load (h0:0<=n) {a:Ad} (ha:AOk n a):AcOk n hd ⟨1,a.s,a.g,a.f,wNil,wNil⟩:=⟨.inl ⟨.inl rfl,ha⟩,wok_nil h0,fun _ h=>absurd h (by show ¬((1:Int)=2 \/ (1:Int)=3);decide)⟩
theorem ac_board (h0:0<=n) {f:Int} {w:W} (hf:1<=f) (hf2:f < 85) (hw:WOk n w):AcOk n hd ⟨2,0,0,f,wNil,w⟩:=⟨.inl ⟨.inr (.inl rfl),.inl ⟨rfl,rfl,by show 0<=f;omega,hf2⟩⟩,hw,fun _ _ _ e=>by have e:f=0:=e;omega⟩
theorem ac_era {o w:W} (hw:WOk n w):AcOk n hd ⟨3,0,0,24,o,w⟩:=⟨.inl ⟨.inr (.inr rfl),.inl ⟨rfl,rfl,by show (0:Int)<=24;decide,by show (24:Int) < 85;decide⟩⟩,hw,fun _ _ _ e=>absurd (show (24:Int)=0 from e) (by decide)⟩
theorem ac_new {w:W} (hw:WOk n w):AcOk n hd ⟨4,0,0,0,wNil,w⟩:=⟨.inr (.inl rfl),hw,fun _ h=>absurd (show (4:Int)=2 \/ (4:Int)=3 from h) (by decide)⟩
theorem ac_free (h0:0<=n) {w:W} (h1:1<=w.slot) (h2:w.slot<=n):AcOk n hd ⟨5,0,0,0,w,wNil⟩:=⟨.inr (.inr ⟨rfl,h1,h2⟩),wok_nil h0,fun _ h=>absurd (show (5:Int)=2 \/ (5:Int)=3 from h) (by decide)⟩
theorem aok_era:AOk n eraA:=.inl ⟨rfl,rfl,by show (0:Int)<=24;decide,by show (24:Int) < 85;decide⟩
structure RB (n:Int) (hd:Bool) (K:Nat) (c:Cl) (r:RT):Prop where
 b:r.m.B n hd K
 cl:ClB n hd c
 hc:r.m.call=c
 ln:r.ln=r.m.notes.length
 ld:r.ld=r.m.doomed.length
theorem res_cond {b:Bool} {t e:RiteM} (h1:b=true->RRes n hd K c t) (h2:b=false->RRes n hd K c e):RRes n hd K c (cond b t e):=P_cond (P:=RRes n hd K c) h1 h2
theorem post_res (h0:0<=n) {r:RT} (h:RB n hd K c r) {s k:Int} {w:W} (hk:0<=k /\ k < 9) (hw:WOk n w) (hs:s≠0)
 (hst:St hd (rAsk s ⟨2,0,0,25+r.m.me * 9+k,wNil,w⟩ {r with m:={r.m with holds:=H9.put r.m.holds k w}}).m):RRes n hd K c (rPost NN RT.m s k w r):=by
 have hm:=h.b.me
 exact ask_res (r:={r with m:={r.m with holds:=H9.put r.m.holds k w}}) ⟨h.b.eng,h.b.me,h.b.thr,H9.put_ok h.b.holds k hw,h.b.notes,h.b.len,h.b.word,h.b.seen⟩ h.cl h.hc (ac_board h0 (by omega) (by omega) hw) hs hst
theorem announce_res (h0:0<=n) {r:RT} (h:RB n hd K c r) {s:Int} {sp:Sp} {w:W} (hw:WOk n w) (hs:s≠0) (hst:St hd (rAsk s ⟨2,0,0,79+r.m.me,wNil,w⟩ {r with m:={r.m with span:=sp}}).m):RRes n hd K c (rAnnounce NN RT.m s sp w r):=by
 have hm:=h.b.me
 exact ask_res (r:={r with m:={r.m with span:=sp}}) ⟨h.b.eng,h.b.me,h.b.thr,h.b.holds,h.b.notes,h.b.len,h.b.word,h.b.seen⟩ h.cl h.hc (ac_board h0 (by omega) (by omega) hw) hs hst
theorem leaveK_res (h0:0<=n) (h2:c.kind=2):∀(k:Nat) {r:RT} {i:Int},RB n hd K c r->(r.m.engine=2 \/ r.m.engine=3)->0<=i->i+k<=9->RRes n hd K c (rLeaveK cond NN RT.m r k i)
 | 0,r,i,h,_,_,_=>done_res h0 h.b (by omega) (by omega)
 | k+1,r,i,h,he,hi,hk=>by
   unfold rLeaveK
   refine res_cond (fun _=>?_) fun _=>leaveK_res h0 h2 k h he (by omega) (by omega)
   exact post_res h0 (r:={r with m:={r.m with index:=i}}) ⟨⟨h.b.eng,h.b.me,h.b.thr,h.b.holds,h.b.notes,h.b.len,h.b.word,h.b.seen⟩,h.cl,h.hc,h.ln,h.ld⟩ ⟨hi,by omega⟩ (wok_nil h0) (by decide)
    (.inr (.inr (.inr (.inr (.inl ⟨rfl,by show r.m.call.kind=2;rw [h.hc];exact h2,he,hi,by show i < 9;omega⟩)))))
theorem leave_res (h0:0<=n) (h2:c.kind=2) {r:RT} (h:RB n hd K c r) {i:Nat} (hi:i<=9):RRes n hd K c (rLeave cond NN RT.m i r):=by
 unfold rLeave
 split
 ·refine res_cond (fun _=>?_) fun _=>done_res h0 h.b (by omega) (by omega)
  exact announce_res h0 h (wok_nil h0) (by decide) (.inr (.inr (.inl ⟨rfl,by show r.m.call.kind≠8;rw [h.hc];omega,by show r.m.call.kind≠6;rw [h.hc];omega⟩)))
 ·split
  ·rename_i he
   exact leaveK_res h0 h2 _ h he (by omega) (by omega)
  ·exact done_res h0 h.b (by omega) (by omega)
theorem look_res (h0:0<=n) (hc:c.kind=10 \/ c.kind=11) {r:RT} (h:RB n hd K c r) (he:2<=r.m.engine) {i:Nat} (hs:r.m.seen.length=i) {k:RiteM} (hk:r.m.seen.length<=54->(i:Int)>=(if r.m.engine=2 \/ r.m.engine=3 then r.m.threads * 9 else r.m.threads)->RRes n hd K c k) :
 RRes n hd K c (rLook cond NN RT.m (i:Int) r k):=by
 have ht:=h.b.thr
 unfold rLook
 split
 ·rename_i he2
  have ew:IntKind.wrap .i64 (r.m.threads * 9)=r.m.threads * 9:=wrapV (by omega)
  rw [ew]
  rw [if_pos he2] at hk
  refine res_cond (fun hb=>hk h.b.seen (of_decide_eq_true hb)) fun hb=>?_
  have hlt:(i:Int) < r.m.threads * 9:=by have:=of_decide_eq_false hb;omega
  have hd1:0<=Int.tdiv (i:Int) 9 /\ Int.tdiv (i:Int) 9 < 6:=by
   rw [Int.tdiv_eq_ediv_of_nonneg (by omega)];omega
  have hd2:0<=Int.tmod (i:Int) 9 /\ Int.tmod (i:Int) 9 < 9:=by
   rw [Int.tmod_eq_emod_of_nonneg (by omega)];omega
  have ew2:IntKind.wrap .i64 (Int.tdiv (i:Int) 9)=Int.tdiv (i:Int) 9:=wrapV (by omega)
  refine ask_res (r:={r with m:={r.m with index:=(i:Int)}}) ⟨h.b.eng,h.b.me,h.b.thr,h.b.holds,h.b.notes,h.b.len,h.b.word,h.b.seen⟩ h.cl h.hc (a:=⟨1,0,0,(keepA (IntKind.wrap .i64 (Int.tdiv (i:Int) 9),Int.tmod (i:Int) 9)).f,wNil,wNil⟩) ?_ (by decide) ?_
  ·rw [ew2]
   exact ac_load h0 (a:=⟨0,0,25+Int.tdiv (i:Int) 9 * 9+Int.tmod (i:Int) 9⟩) (.inl ⟨rfl,rfl,by show 0<=25+Int.tdiv (i:Int) 9 * 9+Int.tmod (i:Int) 9;omega,by show 25+Int.tdiv (i:Int) 9 * 9+Int.tmod (i:Int) 9 < 85;omega⟩)
  ·refine .inr (.inr (.inr (.inr (.inr (.inr (.inr (.inr (.inr (.inr (.inr (.inr (.inr (.inl ⟨rfl,?_,he,?_,?_,?_⟩)))))))))))))
   ·show r.m.call.kind=10 \/ r.m.call.kind=11
    rw [h.hc];exact hc
   ·show 0<=(i:Int);omega
   ·show (i:Int) < 54;omega
   ·show (r.m.seen.length:Int)=(i:Int);omega
 ·rename_i he2
  rw [if_neg he2] at hk
  refine res_cond (fun hb=>hk h.b.seen (of_decide_eq_true hb)) fun hb=>?_
  have hlt:(i:Int) < r.m.threads:=by have:=of_decide_eq_false hb;omega
  refine ask_res (r:={r with m:={r.m with index:=(i:Int)}}) ⟨h.b.eng,h.b.me,h.b.thr,h.b.holds,h.b.notes,h.b.len,h.b.word,h.b.seen⟩ h.cl h.hc (a:=⟨1,0,0,79+(i:Int),wNil,wNil⟩) ?_ (by decide) ?_
  ·exact ac_load h0 (a:=⟨0,0,79+(i:Int)⟩) (.inl ⟨rfl,rfl,by show 0<=79+(i:Int);omega,by show 79+(i:Int) < 85;omega⟩)
  ·refine .inr (.inr (.inr (.inr (.inr (.inr (.inr (.inr (.inr (.inr (.inr (.inr (.inr (.inl ⟨rfl,?_,he,?_,?_,?_⟩)))))))))))))
   ·show r.m.call.kind=10 \/ r.m.call.kind=11
    rw [h.hc];exact hc
   ·show 0<=(i:Int);omega
   ·show (i:Int) < 54;omega
   ·show (r.m.seen.length:Int)=(i:Int);omega
theorem scan_res (h0:0<=n) (hc:c.kind=10 \/ c.kind=11) {r:RT} (h:RB n hd K c r) (hs:r.m.seen=[]):RRes n hd K c (rScan cond NN RT.m r):=by
 have ht:=h.b.thr
 have he:=h.b.eng
 unfold rScan
 split
 ·exact done_res h0 h.b (by omega) (by omega)
 ·split
  ·rename_i he4
   exact ask_res h.b h.cl h.hc (ac_load h0 aok_era) (by decide) (.inr (.inr (.inr (.inr (.inr (.inr (.inr (.inr (.inr (.inr (.inr (.inr (.inl ⟨rfl,by show r.m.call.kind=10 \/ r.m.call.kind=11;rw [h.hc];exact hc,he4,hs⟩)))))))))))))
  ·refine look_res h0 hc h (by omega) (i:=0) (by rw [hs];rfl) fun _ hk=>?_
   exfalso
   split at hk<;>omega
theorem noted_res (h0:0<=n) (hc:c.kind=10 \/ c.kind=11) {r:RT} (h:RB n hd K c r) (hs:r.m.seen=[]):RRes n hd K c (rNoted cond NN RT.m r):=by
 unfold rNoted
 exact res_cond (fun _=>scan_res h0 hc h hs) fun _=>done_res h0 h.b (by omega) (by omega)
theorem add_rb (h0:0<=n) {r:RT} (h:RB n hd K c r) (hk:1<=c.old.slot /\ c.old.slot<=n) (b d:Int):RB n hd (K+1) c (rAdd b d r):=by
 refine⟨⟨h.b.eng,h.b.me,h.b.thr,h.b.holds,fun x hx=>?_,?_,h.b.word,h.b.seen⟩,h.cl,h.hc,?_,h.ld⟩
 ·rcases List.mem_append.1 hx with hx | hx
  ·exact h.b.notes x hx
  ·simp only [List.mem_cons,List.not_mem_nil,or_false] at hx
   subst hx
   show 1<=r.m.call.old.slot /\ r.m.call.old.slot<=n
   rw [h.hc];exact hk
 ·show (r.m.notes++[_]).length<=K+1
  rw [List.length_append]
  have:=h.b.len
  simp only [List.length_cons,List.length_nil];omega
 ·show r.ln+1=(r.m.notes++[_]).length
  rw [List.length_append,h.ln];rfl
theorem RB.mono {r:RT} {K':Nat} (h:RB n hd K c r) (hk:K<=K'):RB n hd K' c r:=⟨B.mono h.b hk,h.cl,h.hc,h.ln,h.ld⟩
theorem RRes.mono {r:RiteM} {K':Nat} (h:RRes n hd K c r) (hk:K<=K'):RRes n hd K' c r:=⟨⟨B.mono h.wf.b hk,h.wf.call,h.wf.acc,h.wf.st⟩,h.on,h.off⟩
theorem reap_res (h0:0<=n) (hc:c.kind=10 \/ c.kind=11) {r:RT} (h:RB n hd K c r) (he:2<=r.m.engine) (hs:r.m.seen.length<=54) (hcnt:∀x,r.m.doomed.count x<=r.m.notes.count x):RRes n hd K c (reapM r):=by
 unfold reapM rReap
 refine res_cond (fun _=>done_res h0 h.b (by omega) (by omega)) fun hb=>?_
 have hne:r.m.doomed≠[]:=fun e=>by
  have h1:=h.ld
  rw [e] at h1
  have:=neI hb
  rw [h1] at this
  exact this rfl
 have hpos:0 < r.m.doomed.length:=List.length_pos_iff.2 hne
 have hmem:r.m.doomed.getD 0 knotes.dflt∈r.m.doomed:=getD_mem hpos
 have hx:NOk n (r.m.doomed.getD 0 knotes.dflt):=h.b.notes _ (List.count_pos_iff.1 (Nat.lt_of_lt_of_le (List.count_pos_iff.2 hmem) (hcnt _)))
 exact ask_res h.b h.cl h.hc (ac_free h0 (w:=refOfN (r.m.doomed.getD 0 knotes.dflt)) hx.1 hx.2) (by decide)
  (.inr (.inr (.inr (.inr (.inr (.inr (.inr (.inr (.inr (.inr (.inr (.inr (.inr (.inr (.inr (.inr ⟨rfl,by show r.m.call.kind=10 \/ r.m.call.kind=11;rw [h.hc];exact hc,he,hpos,hcnt⟩))))))))))))))))
theorem sift_res (h0:0<=n) (hc:c.kind=10 \/ c.kind=11) {m:RiteM} (h:m.B n hd K) (hcl:ClB n hd c) (hcc:m.call=c) (he:2<=m.engine):RRes n hd K c (siftM m):=by
 unfold siftM
 have hsub:∀x,(doomM m).count x<=m.notes.count x:=fun x=>by
  unfold doomM fr1 fr2 fr3 fr4 freeD
  split
  ·exact List.Sublist.count_le _ List.filter_sublist
  ·split
   ·exact List.Sublist.count_le _ List.filter_sublist
   ·split
    all_goals (exact List.Sublist.count_le _ List.filter_sublist)
 exact reap_res h0 hc (r:=rDoom (doomM m) (rOf m)) ⟨⟨h.eng,h.me,h.thr,h.holds,h.notes,h.len,h.word,h.seen⟩,hcl,hcc,rfl,rfl⟩ he h.seen hsub
theorem clb_kd (h:ClB n hd c):okKd c /\ (c.kind=3 \/ c.kind=4 \/ c.kind=5 \/ c.kind=6->AOk n c.adr) /\ (c.kind=9 \/ c.kind=10->1<=c.old.slot /\ c.old.slot<=n) /\ (c.kind=4 \/ c.kind=5->WOk n c.new /\ (hd=true->hdW c)):=by
 unfold okKd
 rcases h with⟨⟨h1,h2,h3⟩,h4⟩ | h | h | h
 ·rcases h3 with⟨hk,ha⟩ | ⟨hk,ha,hi,hj,hz⟩ | ⟨hk,hp⟩ | hk | ⟨hk,hs⟩
  ·exact⟨by omega,fun _=>ha,fun h=>by omega,fun _=>⟨h2,h4⟩⟩
  ·exact⟨by omega,fun _=>ha,fun h=>by omega,fun h=>by omega⟩
  ·exact⟨.inr (.inr (.inr (.inr (.inr (.inr (.inl ⟨hk,hp⟩)))))),fun h=>by omega,fun h=>by omega,fun h=>by omega⟩
  ·exact⟨by omega,fun h=>by omega,fun h=>by omega,fun h=>by omega⟩
  ·exact⟨by omega,fun h=>by omega,fun _=>⟨hs,h1.2.1⟩,fun h=>by omega⟩
 all_goals (exact⟨by omega,fun h=>by omega,fun h=>by omega,fun h=>by omega⟩)
theorem begin_wf (h0:0<=n) {m:RiteM} (h:m.WF n hd K) (hs:m.step=0) (hcl:ClB n hd c) (hK:K<=100000):okBg m c=true /\ RRes n hd (K+1) c (beginM m c):=by
 obtain⟨hkd,hadr,hold,hnew⟩:=clb_kd hcl
 have hb:=h.b
 refine⟨decide_eq_true ⟨hs,⟨hb.eng.1,hb.eng.2,hb.me.1,hb.me.2,Nat.le_trans hb.len hK⟩,hkd⟩,?_⟩
 have rb:RB n hd K c (rClear c (rOf m)):=⟨⟨hb.eng,hb.me,hb.thr,hb.holds,hb.notes,hb.len,wok_nil h0,Nat.zero_le _⟩,hcl,rfl,rfl,rfl⟩
 unfold beginM rOpenA
 split
 ·rename_i hk
  exact noted_res h0 (.inl hk.1) (add_rb h0 rb (hold (.inr hk.1)) 0 0) rfl
 ·split
  ·rename_i hk
   exact(scan_res h0 (.inr hk.1) rb rfl).mono (by omega)
  ·refine RRes.mono (K:=K) ?_ (by omega)
   have he:(rClear c (rOf m)).m.engine=m.engine:=rfl
   unfold rOpen
   by_cases k1:c.kind=1
   ·rw [if_pos k1]
    split
    ·exact ask_res rb.b hcl rfl (ac_load h0 aok_era) (by decide) (.inr (.inr (.inr (.inl ⟨rfl,k1⟩))))
    ·exact done_res h0 rb.b (by omega) (by omega)
   ·rw [if_neg k1]
    by_cases k2:c.kind=2
    ·rw [if_pos k2]
     exact leave_res h0 k2 rb (by omega)
    ·rw [if_neg k2]
     by_cases k3:c.kind=3
     ·rw [if_pos k3]
      exact ask_res rb.b hcl rfl (ac_load h0 (hadr (.inl k3))) (by decide) (.inr (.inl ⟨rfl,fun e=>by have e:c.kind=8:=e;omega,by show c.kind≠6;omega⟩))
     ·rw [if_neg k3]
      by_cases k4:c.kind=4
      ·rw [if_pos k4]
       obtain⟨w1,w2⟩:=hnew (.inl k4)
       refine ask_res rb.b hcl rfl ⟨.inl ⟨.inr (.inl rfl),hadr (.inr (.inl k4))⟩,w1,fun e _ hs hf=>w2 e (.inl k4) hs hf⟩ (by decide) (.inr (.inl ⟨rfl,fun e=>by have e:c.kind=8:=e;omega,by show c.kind≠6;omega⟩))
      ·rw [if_neg k4]
       by_cases k5:c.kind=5
       ·rw [if_pos k5]
        obtain⟨w1,w2⟩:=hnew (.inr k5)
        refine ask_res rb.b hcl rfl ⟨.inl ⟨.inr (.inr rfl),hadr (.inr (.inr (.inl k5)))⟩,w1,fun e _ hs hf=>w2 e (.inr k5) hs hf⟩ (by decide) (.inr (.inl ⟨rfl,fun e=>by have e:c.kind=8:=e;omega,by show c.kind≠6;omega⟩))
       ·rw [if_neg k5]
        by_cases k6:c.kind=6
        ·rw [if_pos k6]
         have hi:0<=c.i /\ c.i < 9:=by unfold okKd at hkd;unfold okPair at hkd;omega
         exact ask_res rb.b hcl rfl (ac_load h0 (hadr (.inr (.inr (.inr k6))))) (by decide) (.inr (.inr (.inr (.inr (.inr (.inl ⟨rfl,k6,hi,rfl⟩))))))
        ·rw [if_neg k6]
         by_cases k7:c.kind=7
         ·rw [if_pos k7]
          have hi:0<=c.i /\ c.i < 9:=by unfold okKd at hkd;unfold okPair at hkd;omega
          split
          ·refine res_cond (fun _=>?_) fun _=>done_res h0 rb.b (by omega) (by omega)
           exact post_res h0 rb hi (H9.get_ok rb.b.holds _) (by decide) (.inr (.inr (.inl ⟨rfl,by show c.kind≠8;omega,by show c.kind≠6;omega⟩)))
          ·exact done_res h0 rb.b (by omega) (by omega)
         ·rw [if_neg k7]
          by_cases k8:c.kind=8
          ·rw [if_pos k8]
           split
           ·exact ask_res rb.b hcl rfl (ac_load h0 aok_era) (by decide) (.inr (.inr (.inr (.inr (.inr (.inr (.inr (.inr (.inl ⟨rfl,k8⟩)))))))))
           ·exact ask_res rb.b hcl rfl (ac_new (wok_nil h0)) (by decide) (.inr (.inl ⟨rfl,fun _=>rfl,by show c.kind≠6;omega⟩))
          ·rw [if_neg k8]
           by_cases k9:c.kind=9
           ·rw [if_pos k9]
            obtain⟨o1,o2⟩:=hold (.inl k9)
            exact ask_res rb.b hcl rfl (ac_free h0 o1 o2) (by decide) (.inr (.inr (.inl ⟨rfl,by show c.kind≠8;omega,by show c.kind≠6;omega⟩)))
           ·rw [if_neg k9]
            by_cases k10:c.kind=10
            ·rw [if_pos k10]
             split
             ·rename_i he4
              exact ask_res rb.b hcl rfl (ac_load h0 aok_era) (by decide) (.inr (.inr (.inr (.inr (.inr (.inr (.inr (.inr (.inr (.inr (.inl ⟨rfl,k10,.inr (.inl he4),rfl⟩)))))))))))
             ·split
              ·rename_i he5
               obtain⟨o1,o2⟩:=hold (.inr k10)
               exact ask_res rb.b hcl rfl (ac_load h0 (a:=⟨c.old.slot,c.old.gen,9⟩) (.inr ⟨o1,o2,by show (0:Int)<=9;decide,by show (9:Int) < 10;decide⟩)) (by decide) (.inr (.inr (.inr (.inr (.inr (.inr (.inr (.inr (.inr (.inl ⟨rfl,k10,he5,rfl⟩))))))))))
              ·exact done_res h0 rb.b (by omega) (by omega)
            ·rw [if_neg k10]
             have k11:c.kind=11:=by unfold okKd at hkd;omega
             split
             ·rename_i he4
              exact ask_res rb.b hcl rfl (ac_load h0 aok_era) (by decide) (.inr (.inr (.inr (.inr (.inr (.inr (.inr (.inr (.inr (.inr (.inr (.inr (.inl ⟨rfl,.inr k11,he4,rfl⟩)))))))))))))
             ·exact done_res h0 rb.b (by omega) (by omega)
theorem eqNt_iff {x y:Nt}:eqNt x y=true↔x=y:=by
 obtain⟨a,b,c,d,e,f,g⟩:=x
 obtain⟨a',b',c',d',e',f',g'⟩:=y
 simp [eqNt]
theorem idxK_spec {p:Nt->Bool}:∀(l:List Nt) (k:Nat),l.any p=true->k<=idxK p k l /\ idxK p k l < k+l.length /\ p (l.getD (idxK p k l - k) knotes.dflt)=true
 | [],k,h=>by cases h
 | a::l,k,h=>by
   unfold idxK
   cases ha:p a with
   | true=>exact⟨Nat.le_refl _,by simp,by simpa using ha⟩
   | false =>
     rw [List.any_cons,ha] at h
     obtain⟨h1,h2,h3⟩:=idxK_spec l (k+1) h
     refine⟨by show k<=idxK p (k+1) l;omega,by show idxK p (k+1) l < _;rw [List.length_cons];omega,?_⟩
     show p ((a::l).getD (idxK p (k+1) l - k) knotes.dflt)=true
     rw [show idxK p (k+1) l - k=(idxK p (k+1) l - (k+1))+1 by omega]
     exact h3
theorem idx_spec {x:Nt} {l:List Nt} (h:x∈l):0<=idxNt x l /\ idxNt x l < (l.length:Int) /\ l.getD (idxNt x l).toNat knotes.dflt=x:=by
 have ha:l.any (eqNt x)=true:=List.any_eq_true.2 ⟨x,h,eqNt_iff.2 rfl⟩
 obtain⟨h1,h2,h3⟩:=idxK_spec l 0 ha
 have e:idxNt x l=(idxK (eqNt x) 0 l:Int):=by unfold idxNt;rw [ha];rfl
 rw [e]
 exact⟨by omega,by omega,(eqNt_iff.1 h3).symm⟩
theorem count_cut {l:List Nt} {i:Nat} (hi:i < l.length) (x:Nt):l.count x=(l.take i++l.drop (i+1)).count x+if l.getD i knotes.dflt=x then 1 else 0:=by
 have e:l=l.take i++(l.getD i knotes.dflt::l.drop (i+1)):=by
  rw [List.getD_eq_getElem?_getD,List.getElem?_eq_getElem hi]
  show l=l.take i++(l[i]::l.drop (i+1))
  rw [<- List.drop_eq_getElem_cons hi,List.take_append_drop]
 generalize l.getD i knotes.dflt=y at e ⊢
 rw [List.count_append]
 refine(congrArg (List.count x) e).trans ?_
 rw [List.count_append,List.count_cons]
 by_cases h:y=x
 ·rw [if_pos h,if_pos (beq_iff_eq.2 h)];omega
 ·rw [if_neg h,if_neg (by simpa using h)];omega
end
end Go.Proofs.YtcpdipfepeccgaaGreatDoor

namespace Go.Proofs.YtcpdipfepeccgaaGreatDoor
open Go Go.Sx Go.Proofs
set_option maxRecDepth 100000
set_option maxHeartbeats 4000000
section
variable {n:Int} {hd:Bool} {K:Nat}
theorem protect_res (h0:0<=n) {m:RiteM} (h:m.WF n hd K) {x:Rp1} (hx:XOk n hd m.acc x) (hs:(m.step=5 /\ m.acc=⟨1,m.call.adr.s,m.call.adr.g,m.call.adr.f,wNil,wNil⟩) \/ (m.step=6 /\ (m.engine=3 \/ m.engine=5) /\ (hd=true->m.call.adr.s=0->m.call.adr.f=0->1<=m.word.slot)) \/ m.step=7) (k6:m.call.kind=6) (hi:0<=m.call.i /\ m.call.i < 9):RRes n hd K m.call (rProtect cond NN RT.m x (rOf m)):=by
 have hb:=h.b
 have hcl:=h.call (by rcases hs with⟨e,_⟩ | ⟨e,_⟩ | e<;>omega)
 have hadr:=(clb_kd hcl).2.1 (.inr (.inr (.inr k6)))
 have rb:RB n hd K m.call (rOf m):=⟨hb,hcl,rfl,rfl,rfl⟩
 unfold rProtect
 show RRes n hd K m.call (if m.step=7 then _ else if m.step=5 then _ else _)
 rcases hs with⟨hs,hacc⟩ | ⟨hs,he,hw⟩ | hs
 ·rw [if_neg (by omega),if_pos hs]
  have hrw:hd=true->m.call.adr.s=0->m.call.adr.f=0->1<=x.w.slot:=fun e a b=>hx.ld (by rw [hacc]) e (by rw [hacc];exact a) (by rw [hacc];exact b)
  have rbw:RB n hd K m.call {rOf m with m:={m with word:=x.w}}:=⟨⟨hb.eng,hb.me,hb.thr,hb.holds,hb.notes,hb.len,hx.w,hb.seen⟩,hcl,rfl,rfl,rfl⟩
  have rp:RpFor n hd m.call ⟨x.w,true⟩:=⟨hx.w,fun e=>by omega,fun e _ a b=>hrw e a b⟩
  show RRes n hd K m.call (if m.engine=3 \/ m.engine=5 then _ else if m.engine=2 then _ else _)
  by_cases he:m.engine=3 \/ m.engine=5
  ·rw [if_pos he]
   exact ask_res rbw.b hcl rfl (ac_load h0 aok_era) (by decide) (.inr (.inr (.inr (.inr (.inr (.inr (.inl ⟨rfl,k6,hi,he,hrw⟩)))))))
  ·rw [if_neg he]
   by_cases he2:m.engine=2
   ·rw [if_pos he2]
    refine res_cond (fun _=>?_) fun _=>fin_res h0 hb rp
    exact post_res h0 rbw hi (wok_ref hx.w) (by decide) (.inr (.inr (.inr (.inr (.inr (.inr (.inr (.inl ⟨rfl,k6,hi⟩))))))))
   ·rw [if_neg he2]
    exact fin_res h0 hb rp
 ·rw [if_neg (by omega),if_neg (by omega)]
  have rp:RpFor n hd m.call ⟨m.word,true⟩:=⟨hb.word,fun e=>by omega,fun e _ a b=>hw e a b⟩
  show RRes n hd K m.call (if m.engine=3 then _ else _)
  have st7:∀(r:RiteM),r.step=7->r.call=m.call->St hd r:=fun r h1 h2=>.inr (.inr (.inr (.inr (.inr (.inr (.inr (.inl ⟨h1,by rw [h2];exact k6,by rw [h2];exact hi⟩)))))))
  by_cases he3:m.engine=3
  ·rw [if_pos he3]
   refine res_cond (fun _=>fin_res h0 hb rp) fun _=>?_
   exact post_res h0 rb hi (wok_num h0 _) (by decide) (st7 _ rfl rfl)
  ·rw [if_neg he3]
   have ws:∀{a b c:Int},WOk n ⟨0,0,a,b,true⟩:=⟨Int.le_refl _,h0,fun _=>rfl⟩
   refine res_cond (fun _=>fin_res h0 hb rp) fun _=>res_cond (fun _=>?_) fun _=>?_
   ·exact announce_res h0 rb (ws (c:=0)) (by decide) (st7 _ rfl rfl)
   ·exact announce_res h0 rb (ws (c:=0)) (by decide) (st7 _ rfl rfl)
 ·rw [if_pos hs]
  exact ask_res hb hcl rfl (ac_load h0 hadr) (by decide) (.inr (.inr (.inr (.inr (.inr (.inl ⟨rfl,k6,hi,rfl⟩))))))
theorem took_wf (h0:0<=n) {m:RiteM} (h:m.WF n hd K) (hs:m.step≠0) {x:Rp1} (hx:XOk n hd m.acc x) (hK:K<=100000):okTk m=true /\ RRes n hd (K+1) m.call (tookM m x):=by
 have hb:=h.b
 have hcl:=h.call hs
 have rb:RB n hd K m.call (rOf m):=⟨hb,hcl,rfl,rfl,rfl⟩
 have okr:okRi m:=⟨hb.eng.1,hb.eng.2,hb.me.1,hb.me.2,Nat.le_trans hb.len hK⟩
 have oks:m.seen.length<=1000:=Nat.le_trans hb.seen (by decide)
 have okt:=hb.thr
 have low:∀{s:Int},m.step=s->s < 9->tookM m x=rTook cond NN RT.m x (rOf m):=fun {s} e h=>by
  unfold tookM
  rw [if_neg (by omega),if_neg (by omega),if_neg (by omega),if_neg (by omega)]
 have mid:∀{s:Int},m.step=s->9<=s->s≠13->s≠15->s≠16->tookM m x=rTookZ cond NN RT.m (fun _=>true) x (rOf m):=fun {s} e h h1 h2 h3=>by
  unfold tookM
  rw [if_neg (by omega),if_neg (by omega),if_neg (by omega),if_pos (by omega)]
 have em:(rOf m).m=m:=rfl
 have prot:∀{s:Int},m.step=s->(s=5 \/ s=6 \/ s=7)->rTook cond NN RT.m x (rOf m)=rProtect cond NN RT.m x (rOf m):=fun {s} e h=>by
  unfold rTook
  rw [em,if_neg (by omega),if_neg (by omega),if_neg (by omega),if_neg (by omega),if_neg (by omega)]
 rcases h.st with e | ⟨e,a1,a2⟩ | ⟨e,a1,a2⟩ | ⟨e,k⟩ | ⟨e,k,he,i0,i1⟩ | ⟨e,k,hi,ha⟩ | ⟨e,k,hi,he,hw⟩ | ⟨e,k,hi⟩ | ⟨e,k⟩ | ⟨e,k,he,sn⟩ | ⟨e,k,he,sn⟩ | ⟨e,k,he,sn⟩ | ⟨e,k,he,sn⟩ | ⟨e,k,he,i0,i1,i2⟩ | ⟨e,k,he⟩ | ⟨e,k,he⟩ | ⟨e,k,he,hd0,hcnt⟩
 ·exact absurd e hs
 ·refine⟨decide_eq_true ⟨okr,oks,okt.1,okt.2,.inl e⟩,RRes.mono (K:=K) ?_ (by omega)⟩
  rw [low e (by decide)]
  unfold rTook
  rw [em,if_pos e]
  exact fin_res h0 hb ⟨hx.w,fun e8=>hx.al (a1 e8),fun _ e6=>absurd e6 a2⟩
 ·refine⟨decide_eq_true ⟨okr,oks,okt.1,okt.2,.inr (.inl e)⟩,RRes.mono (K:=K) ?_ (by omega)⟩
  rw [low e (by decide)]
  unfold rTook
  rw [em,if_neg (by omega),if_pos e]
  exact done_res h0 hb a1 a2
 ·refine⟨decide_eq_true ⟨okr,oks,okt.1,okt.2,.inr (.inr (.inl e))⟩,RRes.mono (K:=K) ?_ (by omega)⟩
  rw [low e (by decide)]
  unfold rTook
  rw [em,if_neg (by omega),if_neg (by omega),if_pos e]
  exact announce_res h0 rb ⟨Int.le_refl _,h0,fun _=>rfl⟩ (by decide) (.inr (.inr (.inl ⟨rfl,by show m.call.kind≠8;omega,by show m.call.kind≠6;omega⟩)))
 ·refine⟨decide_eq_true ⟨okr,oks,okt.1,okt.2,.inr (.inr (.inr (.inl ⟨e,he,i0,i1⟩)))⟩,RRes.mono (K:=K) ?_ (by omega)⟩
  rw [low e (by decide)]
  unfold rTook
  rw [em,if_neg (by omega),if_neg (by omega),if_neg (by omega),if_pos e]
  exact leave_res h0 k rb (by omega)
 ·refine⟨decide_eq_true ⟨okr,oks,okt.1,okt.2,.inr (.inr (.inr (.inr (.inl ⟨e,hi.1,hi.2⟩))))⟩,RRes.mono (K:=K) ?_ (by omega)⟩
  rw [low e (by decide),prot e (by decide)]
  exact protect_res h0 h hx (.inl ⟨e,ha⟩) k hi
 ·refine⟨decide_eq_true ⟨okr,oks,okt.1,okt.2,.inr (.inr (.inr (.inr (.inr (.inl ⟨e,he,hi.1,hi.2⟩)))))⟩,RRes.mono (K:=K) ?_ (by omega)⟩
  rw [low e (by decide),prot e (by decide)]
  exact protect_res h0 h hx (.inr (.inl ⟨e,he,hw⟩)) k hi
 ·refine⟨decide_eq_true ⟨okr,oks,okt.1,okt.2,.inr (.inr (.inr (.inr (.inr (.inr (.inl e))))))⟩,RRes.mono (K:=K) ?_ (by omega)⟩
  rw [low e (by decide),prot e (by decide)]
  exact protect_res h0 h hx (.inr (.inr e)) k hi
 ·refine⟨decide_eq_true ⟨okr,oks,okt.1,okt.2,.inr (.inr (.inr (.inr (.inr (.inr (.inr (.inl e)))))))⟩,RRes.mono (K:=K) ?_ (by omega)⟩
  rw [low e (by decide)]
  unfold rTook
  rw [em,if_neg (by omega),if_neg (by omega),if_neg (by omega),if_neg (by omega),if_pos e]
  exact ask_res hb hcl rfl (ac_new (wok_num h0 _)) (by decide) (.inr (.inl ⟨rfl,fun _=>rfl,by show m.call.kind≠6;omega⟩))
 ·refine⟨decide_eq_true ⟨okr,oks,okt.1,okt.2,.inr (.inr (.inr (.inr (.inr (.inr (.inr (.inr (.inl e))))))))⟩,RRes.mono (K:=K) ?_ (by omega)⟩
  rw [mid e (by decide) (by decide) (by decide) (by decide)]
  unfold rTookZ
  rw [em,if_pos e]
  exact ask_res (r:={rOf m with m:={m with word:=x.w}}) ⟨hb.eng,hb.me,hb.thr,hb.holds,hb.notes,hb.len,hx.w,hb.seen⟩ hcl rfl (ac_load h0 aok_era) (by decide)
   (.inr (.inr (.inr (.inr (.inr (.inr (.inr (.inr (.inr (.inr (.inl ⟨rfl,k,he.elim .inl fun h=>.inr (.inr h),sn⟩)))))))))))
 ·refine⟨decide_eq_true ⟨okr,oks,okt.1,okt.2,.inr (.inr (.inr (.inr (.inr (.inr (.inr (.inr (.inr (.inl ⟨e,he⟩)))))))))⟩,?_⟩
  rw [mid e (by decide) (by decide) (by decide) (by decide)]
  unfold rTookZ
  rw [em,if_neg (by omega),if_pos e]
  have hold:=(clb_kd hcl).2.2.1 (.inr k)
  have rbc:RB n hd K m.call {rOf m with m:={m with clock:=x.w}}:=⟨⟨hb.eng,hb.me,hb.thr,hb.holds,hb.notes,hb.len,hb.word,hb.seen⟩,hcl,rfl,rfl,rfl⟩
  have rba:=add_rb h0 rbc hold m.word.num x.w.num
  by_cases he5:m.engine=3 \/ m.engine=5
  ·rw [if_pos he5]
   exact ask_res rba.b hcl rfl (ac_era (wok_count h0)) (by decide) (.inr (.inr (.inr (.inr (.inr (.inr (.inr (.inr (.inr (.inr (.inr (.inl ⟨rfl,k,he5,sn⟩))))))))))))
  ·rw [if_neg he5]
   have he4:m.engine=4:=by omega
   unfold rNoted
   refine res_cond (fun _=>?_) fun _=>done_res h0 rba.b (by omega) (by omega)
   unfold rScan
   show RRes n hd (K+1) m.call (if m.engine=1 then _ else if m.engine=4 then _ else _)
   rw [if_neg (by omega),if_pos he4]
   exact ask_res rba.b hcl rfl (ac_load h0 aok_era) (by decide) (.inr (.inr (.inr (.inr (.inr (.inr (.inr (.inr (.inr (.inr (.inr (.inr (.inl ⟨rfl,.inl k,he4,sn⟩)))))))))))))
 ·refine⟨decide_eq_true ⟨okr,oks,okt.1,okt.2,.inr (.inr (.inr (.inr (.inr (.inr (.inr (.inr (.inr (.inr (.inl ⟨e,he⟩))))))))))⟩,RRes.mono (K:=K) ?_ (by omega)⟩
  rw [mid e (by decide) (by decide) (by decide) (by decide)]
  unfold rTookZ
  rw [em,if_neg (by omega),if_neg (by omega),if_pos e]
  exact noted_res h0 (.inl k) rb sn
 ·refine⟨decide_eq_true ⟨okr,oks,okt.1,okt.2,.inr (.inr (.inr (.inr (.inr (.inr (.inr (.inr (.inr (.inr (.inr (.inl ⟨e,he⟩)))))))))))⟩,RRes.mono (K:=K) ?_ (by omega)⟩
  rw [mid e (by decide) (by decide) (by decide) (by decide)]
  unfold rTookZ
  rw [em,if_neg (by omega),if_neg (by omega),if_neg (by omega),if_pos e]
  refine look_res h0 k (r:={rOf m with m:={m with clock:=x.w}}) ⟨⟨hb.eng,hb.me,hb.thr,hb.holds,hb.notes,hb.len,hb.word,hb.seen⟩,hcl,rfl,rfl,rfl⟩ (by show 2<=m.engine;omega) (i:=0) (by show m.seen.length=0;rw [sn];rfl) fun _ hk=>?_
  exfalso
  have hk:((0:Nat):Int)>=(if m.engine=2 \/ m.engine=3 then m.threads * 9 else m.threads):=hk
  split at hk<;>omega
 ·refine⟨decide_eq_true ⟨okr,oks,okt.1,okt.2,.inr (.inr (.inr (.inr (.inr (.inr (.inr (.inr (.inr (.inr (.inr (.inr (.inl ⟨e,he,i0,by omega⟩))))))))))))⟩,RRes.mono (K:=K) ?_ (by omega)⟩
  unfold tookM
  rw [if_pos e]
  have ew:IntKind.wrap .i64 (m.index+1)=((m.seen.length+1:Nat):Int):=by rw [wrapV (by omega)];omega
  rw [ew]
  have hsl:(m.seen++[x.w]).length=m.seen.length+1:=by rw [List.length_append];rfl
  have hsl54:(m.seen++[x.w]).length<=54:=by rw [hsl];omega
  have rbs:RB n hd K m.call (rSeen x.w (rOf m)):=⟨⟨hb.eng,hb.me,hb.thr,hb.holds,hb.notes,hb.len,hb.word,hsl54⟩,hcl,rfl,rfl,rfl⟩
  refine look_res h0 k rbs he hsl fun _ _=>?_
  by_cases he4:m.engine=4
  ·rw [if_pos he4]
   refine res_cond (fun _=>?_) fun _=>?_
   ·exact ask_res rbs.b hcl rfl (ac_era (wok_count h0)) (by decide) (.inr (.inr (.inr (.inr (.inr (.inr (.inr (.inr (.inr (.inr (.inr (.inr (.inr (.inr (.inl ⟨rfl,k,he4⟩)))))))))))))))
   ·exact ask_res rbs.b hcl rfl (ac_load h0 aok_era) (by decide) (.inr (.inr (.inr (.inr (.inr (.inr (.inr (.inr (.inr (.inr (.inr (.inr (.inr (.inr (.inr (.inl ⟨rfl,k,he4⟩))))))))))))))))
  ·rw [if_neg he4]
   exact sift_res h0 k rbs.b hcl rfl he
 ·refine⟨decide_eq_true ⟨okr,oks,okt.1,okt.2,.inr (.inr (.inr (.inr (.inr (.inr (.inr (.inr (.inr (.inr (.inr (.inr (.inr (.inl ⟨e,he⟩)))))))))))))⟩,RRes.mono (K:=K) ?_ (by omega)⟩
  rw [mid e (by decide) (by decide) (by decide) (by decide)]
  unfold rTookZ
  rw [em,if_neg (by omega),if_neg (by omega),if_neg (by omega),if_neg (by omega)]
  exact ask_res hb hcl rfl (ac_load h0 aok_era) (by decide) (.inr (.inr (.inr (.inr (.inr (.inr (.inr (.inr (.inr (.inr (.inr (.inr (.inr (.inr (.inr (.inl ⟨rfl,k,he⟩))))))))))))))))
 ·refine⟨decide_eq_true ⟨okr,oks,okt.1,okt.2,.inr (.inr (.inr (.inr (.inr (.inr (.inr (.inr (.inr (.inr (.inr (.inr (.inr (.inr (.inl ⟨e,he⟩))))))))))))))⟩,RRes.mono (K:=K) ?_ (by omega)⟩
  unfold tookM
  rw [if_neg (by omega),if_pos e]
  exact sift_res h0 k (m:={m with clock:=x.w}) ⟨hb.eng,hb.me,hb.thr,hb.holds,hb.notes,hb.len,hb.word,hb.seen⟩ hcl rfl (by show 2<=m.engine;omega)
 ·have hmem:m.doomed.getD 0 knotes.dflt∈m.notes:=by
   have h1:m.doomed.getD 0 knotes.dflt∈m.doomed:=getD_mem hd0
   exact List.count_pos_iff.1 (Nat.lt_of_lt_of_le (List.count_pos_iff.2 h1) (hcnt _))
  obtain⟨x1,x2,x3⟩:=idx_spec hmem
  refine⟨decide_eq_true ⟨okr,oks,okt.1,okt.2,.inr (.inr (.inr (.inr (.inr (.inr (.inr (.inr (.inr (.inr (.inr (.inr (.inr (.inr (.inr ⟨e,hd0,x1,x2⟩))))))))))))))⟩,RRes.mono (K:=K) ?_ (by omega)⟩
  unfold tookM
  rw [if_neg (by omega),if_neg (by omega),if_pos e]
  unfold freedM
  have hi:(idxNt (m.doomed.getD 0 knotes.dflt) m.notes).toNat < m.notes.length:=by omega
  generalize hix:(idxNt (m.doomed.getD 0 knotes.dflt) m.notes).toNat=ix at hi x3
  have hln:(m.notes.take ix++m.notes.drop (ix+1)).length=m.notes.length - 1:=by
   rw [List.length_append,List.length_take,List.length_drop];omega
  refine reap_res h0 k (r:={m:={m with notes:=m.notes.take ix++m.notes.drop (ix+1),freed:=IntKind.wrap .i64 (m.freed+1),doomed:=m.doomed.drop 1},ls:=m.seen.length,ld:=m.doomed.length - 1,ln:=m.notes.length - 1}) ⟨⟨hb.eng,hb.me,hb.thr,hb.holds,fun y hy=>?_,by rw [hln];have:=hb.len;omega,hb.word,hb.seen⟩,hcl,rfl,hln.symm,by show m.doomed.length - 1=(m.doomed.drop 1).length;rw [List.length_drop]⟩ he hb.seen fun y=>?_
  ·rcases List.mem_append.1 hy with hy | hy
   ·exact hb.notes y (List.mem_of_mem_take hy)
   ·exact hb.notes y (List.mem_of_mem_drop hy)
  ·show (m.doomed.drop 1).count y<=(m.notes.take ix++m.notes.drop (ix+1)).count y
   have c1:=count_cut hi y
   have c2:=count_cut hd0 y
   rw [x3] at c1
   rw [List.take_zero,List.nil_append] at c2
   have:=hcnt y
   show (m.doomed.drop (0+1)).count y<=_
   omega
end
end Go.Proofs.YtcpdipfepeccgaaGreatDoor

namespace Go.Proofs.YtcpdipfepeccgaaGreatDoor
open Go Go.Sx Go.Proofs
set_option maxRecDepth 100000
set_option maxHeartbeats 4000000
theorem aok_no {n:Int}:AOk n noAd:=.inl ⟨rfl,rfl,by decide,by decide⟩
theorem rk_no {n:Int} {pc0:Int} {a:Ad×Int} {r:(Cl×Bool)×WalkM} (h:WalkOk n pc0 (newWalk a).rk r) (hb:r.1.2=true):¬imm r.1.1:=fun hi=>Nat.not_lt_zero _ (h.rk hb hi)
theorem fd_slot {n:Int} {w:WalkM} (h:w.WF n) (hb:(!w.found)=false):1<=w.cur.slot:=(h.fd (by cases hf:w.found with | true=>rfl | false=>rw [hf] at hb;cases hb)).2
theorem lit_wf {n:Int} (h0:0<=n) {j:LitM} (h:j.WF n) {hd:Bool} {c:Cl} (ha:j.aw c) {x:Rp1} (hr:RpFor n hd c x):NLit n j.rk (litNext j x):=by
 obtain⟨pc,last,start,key,⟨kd,ky,val,tall⟩,wk,node,v⟩:=j
 obtain⟨_,hs,hp,hl,hn,hnd,hw,hcz⟩:=h
 dsimp only [LitM.aw] at hs hp hl hn hnd hw hcz ha
 have hx:WOk n x.w:=hr.w
 have nx:0<=x.w.slot:=hx.1
 have hnk:=walk_wf h0 (newWalk_wf h0 hs key) hx
 have al:kd=6->pc=1->x.ok=true->1<=x.w.slot:=fun h6 h=>hr.al (ha h6 h)
 unfold litNext litF
 dsimp only [id]
 cases wk with
 | none =>
   dsimp only
   generalize walkNext (newWalk (start,key)) x=r1 at hnk ⊢
   obtain⟨⟨c1,b1⟩,w1⟩:=r1
   rcases hp with⟨rfl,hp⟩ | ⟨rfl,hp⟩ | ⟨rfl,hp⟩
   ·rcases hp with rfl | rfl | rfl | rfl | rfl | rfl | rfl | rfl | rfl
    all_goals dsimp only
    all_goals (repeat' (refine P_cond (fun hb=>?_) (fun hb=>?_)<;>first | (exact absurd hb (by decide)) | skip))
    all_goals refine⟨?_,⟨?_,?_,?_,?_,?_,?_,?_,?_⟩,?_,?_⟩
    all_goals dsimp only [LitM.rk,LitM.aw]
    all_goals first
     | exact .inl rfl
     | exact .inl (hl rfl)
     | exact .inr (clok_alloc h0)
     | exact .inr (hnk.on (by assumption))
     | exact wk_some hnk.wf
     | exact .inr (clok_load h0 (aok_field hnk.wf.cur (by decide) (by decide)))
     | exact .inr (clok_store h0 (aok_field hn (by decide) (by decide)) (wok_ref hnk.wf.cur))
     | exact fun _ _=>⟨_,rfl,fd_slot hnk.wf (by assumption)⟩
     | exact .inr (clok_store h0 (aok_field (by assumption) (by decide) (by decide)) (wok_num h0 _))
     | exact .inr (clok_store h0 (aok_field (by assumption) (by decide) (by decide)) (wok_ref (wok_nil h0)))
     | exact .inr (clok_drop h0 hn (hnd rfl (by decide)))
     | exact .inr (clok_swap aok_no (wok_nil h0) (wok_to hn))
     | exact .inr (clok_load h0 (aok_field (wok_nil h0) (by decide) (by decide)))
     | exact .inr (clok_swap (aok_field (wok_nil h0) (by decide) (by decide)) (wok_nil h0) (wok_marked (wok_nil h0)))
     | exact(hcz rfl (by decide)).elim fun w0 h=>by cases h.1
     | assumption
     | exact .inl rfl
     | exact .inr (.inl rfl)
     | exact .inr (.inr rfl)
     | decide
     | exact fun h=>absurd h (by decide)
     | exact fun _=>rfl
     | exact fun _ _=>rfl
     | exact fun h _=>absurd h (by decide)
     | exact fun _ h=>absurd h (by decide)
     | exact fun _ _=>hnd rfl (by decide)
     | exact fun _ _=>al rfl rfl (by have hq:=‹(!x.ok)=false›;revert hq;cases x.ok<;>decide)
     | exact fun _ _=>hcz rfl (by decide)
     | exact wk_none
     | exact fun h=>absurd h imm_load
     | exact fun h=>absurd h imm_store
     | exact fun h=>absurd h imm_swap
     | exact fun h=>absurd h imm_alloc
     | exact fun h=>absurd h imm_drop
     | exact fun h=>absurd h imm_done
     | exact fun h=>absurd h (imm_of (hl rfl) (by decide) (by decide))
     | exact fun h=>absurd h (rk_no hnk (by assumption))
     | exact fun _=>(by simp)
     | skip
   ·rcases hp with rfl | rfl | rfl | rfl | rfl | rfl | rfl | rfl
    all_goals dsimp only
    all_goals (repeat' (refine P_cond (fun hb=>?_) (fun hb=>?_)<;>first | (exact absurd hb (by decide)) | skip))
    all_goals refine⟨?_,⟨?_,?_,?_,?_,?_,?_,?_,?_⟩,?_,?_⟩
    all_goals dsimp only [LitM.rk,LitM.aw]
    all_goals first
     | exact .inl rfl
     | exact .inl (hl rfl)
     | exact .inr (clok_alloc h0)
     | exact .inr (hnk.on (by assumption))
     | exact wk_some hnk.wf
     | exact .inr (clok_load h0 (aok_field hnk.wf.cur (by decide) (by decide)))
     | exact .inr (clok_store h0 (aok_field hn (by decide) (by decide)) (wok_ref hnk.wf.cur))
     | exact fun _ _=>⟨_,rfl,fd_slot hnk.wf (by assumption)⟩
     | exact .inr (clok_store h0 (aok_field (by assumption) (by decide) (by decide)) (wok_num h0 _))
     | exact .inr (clok_store h0 (aok_field (by assumption) (by decide) (by decide)) (wok_ref (wok_nil h0)))
     | exact .inr (clok_drop h0 hn (hnd rfl (by decide)))
     | exact .inr (clok_swap aok_no (wok_nil h0) (wok_to hn))
     | exact .inr (clok_load h0 (aok_field (wok_nil h0) (by decide) (by decide)))
     | exact .inr (clok_swap (aok_field (wok_nil h0) (by decide) (by decide)) (wok_nil h0) (wok_marked (wok_nil h0)))
     | exact(hcz rfl (by decide)).elim fun w0 h=>by cases h.1
     | assumption
     | exact .inl rfl
     | exact .inr (.inl rfl)
     | exact .inr (.inr rfl)
     | decide
     | exact fun h=>absurd h (by decide)
     | exact fun _=>rfl
     | exact fun _ _=>rfl
     | exact fun h _=>absurd h (by decide)
     | exact fun _ h=>absurd h (by decide)
     | exact fun _ _=>hnd rfl (by decide)
     | exact fun _ _=>al rfl rfl (by have hq:=‹(!x.ok)=false›;revert hq;cases x.ok<;>decide)
     | exact fun _ _=>hcz rfl (by decide)
     | exact wk_none
     | exact fun h=>absurd h imm_load
     | exact fun h=>absurd h imm_store
     | exact fun h=>absurd h imm_swap
     | exact fun h=>absurd h imm_alloc
     | exact fun h=>absurd h imm_drop
     | exact fun h=>absurd h imm_done
     | exact fun h=>absurd h (imm_of (hl rfl) (by decide) (by decide))
     | exact fun h=>absurd h (rk_no hnk (by assumption))
     | exact fun _=>(by simp)
     | skip
   ·rcases hp with rfl | rfl | rfl | rfl
    all_goals dsimp only
    all_goals (repeat' (refine P_cond (fun hb=>?_) (fun hb=>?_)<;>first | (exact absurd hb (by decide)) | skip))
    all_goals refine⟨?_,⟨?_,?_,?_,?_,?_,?_,?_,?_⟩,?_,?_⟩
    all_goals dsimp only [LitM.rk,LitM.aw]
    all_goals first
     | exact .inl rfl
     | exact .inl (hl rfl)
     | exact .inr (clok_alloc h0)
     | exact .inr (hnk.on (by assumption))
     | exact wk_some hnk.wf
     | exact .inr (clok_load h0 (aok_field hnk.wf.cur (by decide) (by decide)))
     | exact .inr (clok_store h0 (aok_field hn (by decide) (by decide)) (wok_ref hnk.wf.cur))
     | exact fun _ _=>⟨_,rfl,fd_slot hnk.wf (by assumption)⟩
     | exact .inr (clok_store h0 (aok_field (by assumption) (by decide) (by decide)) (wok_num h0 _))
     | exact .inr (clok_store h0 (aok_field (by assumption) (by decide) (by decide)) (wok_ref (wok_nil h0)))
     | exact .inr (clok_drop h0 hn (hnd rfl (by decide)))
     | exact .inr (clok_swap aok_no (wok_nil h0) (wok_to hn))
     | exact .inr (clok_load h0 (aok_field (wok_nil h0) (by decide) (by decide)))
     | exact .inr (clok_swap (aok_field (wok_nil h0) (by decide) (by decide)) (wok_nil h0) (wok_marked (wok_nil h0)))
     | exact(hcz rfl (by decide)).elim fun w0 h=>by cases h.1
     | assumption
     | exact .inl rfl
     | exact .inr (.inl rfl)
     | exact .inr (.inr rfl)
     | decide
     | exact fun h=>absurd h (by decide)
     | exact fun _=>rfl
     | exact fun _ _=>rfl
     | exact fun h _=>absurd h (by decide)
     | exact fun _ h=>absurd h (by decide)
     | exact fun _ _=>hnd rfl (by decide)
     | exact fun _ _=>al rfl rfl (by have hq:=‹(!x.ok)=false›;revert hq;cases x.ok<;>decide)
     | exact fun _ _=>hcz rfl (by decide)
     | exact wk_none
     | exact fun h=>absurd h imm_load
     | exact fun h=>absurd h imm_store
     | exact fun h=>absurd h imm_swap
     | exact fun h=>absurd h imm_alloc
     | exact fun h=>absurd h imm_drop
     | exact fun h=>absurd h imm_done
     | exact fun h=>absurd h (imm_of (hl rfl) (by decide) (by decide))
     | exact fun h=>absurd h (rk_no hnk (by assumption))
     | exact fun _=>(by simp)
     | skip
 | some w =>
   have hww:=hw w rfl
   have hwk:=walk_wf h0 hww hx
   dsimp only
   generalize walkNext w x=r2 at hwk ⊢
   obtain⟨⟨c2,b2⟩,w2⟩:=r2
   generalize walkNext (newWalk (start,key)) x=r1 at hnk ⊢
   obtain⟨⟨c1,b1⟩,w1⟩:=r1
   rcases hp with⟨rfl,hp⟩ | ⟨rfl,hp⟩ | ⟨rfl,hp⟩
   ·rcases hp with rfl | rfl | rfl | rfl | rfl | rfl | rfl | rfl | rfl
    all_goals dsimp only
    all_goals (repeat' (refine P_cond (fun hb=>?_) (fun hb=>?_)<;>first | (exact absurd hb (by decide)) | skip))
    all_goals refine⟨?_,⟨?_,?_,?_,?_,?_,?_,?_,?_⟩,?_,?_⟩
    all_goals dsimp only [LitM.rk,LitM.aw]
    all_goals first
     | exact .inl rfl
     | exact .inl (hl rfl)
     | exact .inr (clok_alloc h0)
     | exact .inr (hwk.on (by assumption))
     | exact wk_some hwk.wf
     | exact .inr (clok_load h0 (aok_field hwk.wf.cur (by decide) (by decide)))
     | exact .inr (clok_store h0 (aok_field hn (by decide) (by decide)) (wok_ref hwk.wf.cur))
     | exact fun _ _=>⟨_,rfl,fd_slot hwk.wf (by assumption)⟩
     | exact .inr (hnk.on (by assumption))
     | exact wk_some hnk.wf
     | exact .inr (clok_load h0 (aok_field hnk.wf.cur (by decide) (by decide)))
     | exact .inr (clok_store h0 (aok_field hn (by decide) (by decide)) (wok_ref hnk.wf.cur))
     | exact fun _ _=>⟨_,rfl,fd_slot hnk.wf (by assumption)⟩
     | exact .inr (clok_store h0 (aok_field (by assumption) (by decide) (by decide)) (wok_num h0 _))
     | exact .inr (clok_store h0 (aok_field (by assumption) (by decide) (by decide)) (wok_ref (wok_nil h0)))
     | exact .inr (clok_drop h0 hn (hnd rfl (by decide)))
     | exact .inr (clok_swap hww.prev hww.cur (wok_to hn))
     | exact .inr (clok_swap hww.prev hww.cur (wok_to hww.next))
     | exact .inr (clok_swap (aok_field hww.cur (by decide) (by decide)) hww.next (wok_marked hww.next))
     | exact .inr (clok_retire h0 hww.cur ((hcz rfl (by decide)).elim fun w0 h=>by cases h.1;exact h.2))
     | exact .inr (clok_load h0 (aok_field hww.cur (by decide) (by decide)))
     | assumption
     | exact .inl rfl
     | exact .inr (.inl rfl)
     | exact .inr (.inr rfl)
     | decide
     | exact fun h=>absurd h (by decide)
     | exact fun _=>rfl
     | exact fun _ _=>rfl
     | exact fun h _=>absurd h (by decide)
     | exact fun _ h=>absurd h (by decide)
     | exact fun _ _=>hnd rfl (by decide)
     | exact fun _ _=>al rfl rfl (by have hq:=‹(!x.ok)=false›;revert hq;cases x.ok<;>decide)
     | exact fun _ _=>hcz rfl (by decide)
     | exact wk_none
     | exact fun h=>absurd h imm_load
     | exact fun h=>absurd h imm_store
     | exact fun h=>absurd h imm_swap
     | exact fun h=>absurd h imm_alloc
     | exact fun h=>absurd h imm_drop
     | exact fun h=>absurd h imm_done
     | exact fun h=>absurd h (imm_of (hl rfl) (by decide) (by decide))
     | exact fun h=>absurd h (rk_no hnk (by assumption))
     | exact fun h=>(by have hq:=hwk.rk (by assumption) h;simp [wrk];exact hq)
     | exact fun _=>(by simp)
     | skip
   ·rcases hp with rfl | rfl | rfl | rfl | rfl | rfl | rfl | rfl
    all_goals dsimp only
    all_goals (repeat' (refine P_cond (fun hb=>?_) (fun hb=>?_)<;>first | (exact absurd hb (by decide)) | skip))
    all_goals refine⟨?_,⟨?_,?_,?_,?_,?_,?_,?_,?_⟩,?_,?_⟩
    all_goals dsimp only [LitM.rk,LitM.aw]
    all_goals first
     | exact .inl rfl
     | exact .inl (hl rfl)
     | exact .inr (clok_alloc h0)
     | exact .inr (hwk.on (by assumption))
     | exact wk_some hwk.wf
     | exact .inr (clok_load h0 (aok_field hwk.wf.cur (by decide) (by decide)))
     | exact .inr (clok_store h0 (aok_field hn (by decide) (by decide)) (wok_ref hwk.wf.cur))
     | exact fun _ _=>⟨_,rfl,fd_slot hwk.wf (by assumption)⟩
     | exact .inr (hnk.on (by assumption))
     | exact wk_some hnk.wf
     | exact .inr (clok_load h0 (aok_field hnk.wf.cur (by decide) (by decide)))
     | exact .inr (clok_store h0 (aok_field hn (by decide) (by decide)) (wok_ref hnk.wf.cur))
     | exact fun _ _=>⟨_,rfl,fd_slot hnk.wf (by assumption)⟩
     | exact .inr (clok_store h0 (aok_field (by assumption) (by decide) (by decide)) (wok_num h0 _))
     | exact .inr (clok_store h0 (aok_field (by assumption) (by decide) (by decide)) (wok_ref (wok_nil h0)))
     | exact .inr (clok_drop h0 hn (hnd rfl (by decide)))
     | exact .inr (clok_swap hww.prev hww.cur (wok_to hn))
     | exact .inr (clok_swap hww.prev hww.cur (wok_to hww.next))
     | exact .inr (clok_swap (aok_field hww.cur (by decide) (by decide)) hww.next (wok_marked hww.next))
     | exact .inr (clok_retire h0 hww.cur ((hcz rfl (by decide)).elim fun w0 h=>by cases h.1;exact h.2))
     | exact .inr (clok_load h0 (aok_field hww.cur (by decide) (by decide)))
     | assumption
     | exact .inl rfl
     | exact .inr (.inl rfl)
     | exact .inr (.inr rfl)
     | decide
     | exact fun h=>absurd h (by decide)
     | exact fun _=>rfl
     | exact fun _ _=>rfl
     | exact fun h _=>absurd h (by decide)
     | exact fun _ h=>absurd h (by decide)
     | exact fun _ _=>hnd rfl (by decide)
     | exact fun _ _=>al rfl rfl (by have hq:=‹(!x.ok)=false›;revert hq;cases x.ok<;>decide)
     | exact fun _ _=>hcz rfl (by decide)
     | exact wk_none
     | exact fun h=>absurd h imm_load
     | exact fun h=>absurd h imm_store
     | exact fun h=>absurd h imm_swap
     | exact fun h=>absurd h imm_alloc
     | exact fun h=>absurd h imm_drop
     | exact fun h=>absurd h imm_done
     | exact fun h=>absurd h (imm_of (hl rfl) (by decide) (by decide))
     | exact fun h=>absurd h (rk_no hnk (by assumption))
     | exact fun h=>(by have hq:=hwk.rk (by assumption) h;simp [wrk];exact hq)
     | exact fun _=>(by simp)
     | skip
   ·rcases hp with rfl | rfl | rfl | rfl
    all_goals dsimp only
    all_goals (repeat' (refine P_cond (fun hb=>?_) (fun hb=>?_)<;>first | (exact absurd hb (by decide)) | skip))
    all_goals refine⟨?_,⟨?_,?_,?_,?_,?_,?_,?_,?_⟩,?_,?_⟩
    all_goals dsimp only [LitM.rk,LitM.aw]
    all_goals first
     | exact .inl rfl
     | exact .inl (hl rfl)
     | exact .inr (clok_alloc h0)
     | exact .inr (hwk.on (by assumption))
     | exact wk_some hwk.wf
     | exact .inr (clok_load h0 (aok_field hwk.wf.cur (by decide) (by decide)))
     | exact .inr (clok_store h0 (aok_field hn (by decide) (by decide)) (wok_ref hwk.wf.cur))
     | exact fun _ _=>⟨_,rfl,fd_slot hwk.wf (by assumption)⟩
     | exact .inr (hnk.on (by assumption))
     | exact wk_some hnk.wf
     | exact .inr (clok_load h0 (aok_field hnk.wf.cur (by decide) (by decide)))
     | exact .inr (clok_store h0 (aok_field hn (by decide) (by decide)) (wok_ref hnk.wf.cur))
     | exact fun _ _=>⟨_,rfl,fd_slot hnk.wf (by assumption)⟩
     | exact .inr (clok_store h0 (aok_field (by assumption) (by decide) (by decide)) (wok_num h0 _))
     | exact .inr (clok_store h0 (aok_field (by assumption) (by decide) (by decide)) (wok_ref (wok_nil h0)))
     | exact .inr (clok_drop h0 hn (hnd rfl (by decide)))
     | exact .inr (clok_swap hww.prev hww.cur (wok_to hn))
     | exact .inr (clok_swap hww.prev hww.cur (wok_to hww.next))
     | exact .inr (clok_swap (aok_field hww.cur (by decide) (by decide)) hww.next (wok_marked hww.next))
     | exact .inr (clok_retire h0 hww.cur ((hcz rfl (by decide)).elim fun w0 h=>by cases h.1;exact h.2))
     | exact .inr (clok_load h0 (aok_field hww.cur (by decide) (by decide)))
     | assumption
     | exact .inl rfl
     | exact .inr (.inl rfl)
     | exact .inr (.inr rfl)
     | decide
     | exact fun h=>absurd h (by decide)
     | exact fun _=>rfl
     | exact fun _ _=>rfl
     | exact fun h _=>absurd h (by decide)
     | exact fun _ h=>absurd h (by decide)
     | exact fun _ _=>hnd rfl (by decide)
     | exact fun _ _=>al rfl rfl (by have hq:=‹(!x.ok)=false›;revert hq;cases x.ok<;>decide)
     | exact fun _ _=>hcz rfl (by decide)
     | exact wk_none
     | exact fun h=>absurd h imm_load
     | exact fun h=>absurd h imm_store
     | exact fun h=>absurd h imm_swap
     | exact fun h=>absurd h imm_alloc
     | exact fun h=>absurd h imm_drop
     | exact fun h=>absurd h imm_done
     | exact fun h=>absurd h (imm_of (hl rfl) (by decide) (by decide))
     | exact fun h=>absurd h (rk_no hnk (by assumption))
     | exact fun h=>(by have hq:=hwk.rk (by assumption) h;simp [wrk];exact hq)
     | exact fun _=>(by simp)
     | skip
end Go.Proofs.YtcpdipfepeccgaaGreatDoor
