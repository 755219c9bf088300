import Derived.Test.YtadmfaohjnjajaaGreatDoorRn
import Derived.Test.YtadmfaohjnjajaaGreatDoorQr
import Derived.Test.YtadmfaohjnjajaaGreatDoorOr
set_option linter.unusedVariables false
set_option linter.unusedSimpArgs false
set_option maxHeartbeats 0
set_option maxRecDepth 100000
namespace Go.Proofs.YtadmfaohjnjajaaGreatDoor
section
open Go Go.Sx Go.Proofs
structure Gh (n:Int) (hd:Bool) (a:oU):Prop where
 v:((a.aj=1 \/ a.aj=2 \/ a.aj=3) /\ zJ n ⟨a.s,a.g,a.f⟩) \/ a.aj=4 \/ (a.aj=5 /\ 1<=a.cU.af /\ a.cU.af<=n)
 w:gD n a.new
 h:hd=true->(a.aj=2 \/ a.aj=3)->a.s=0->a.f=0->1<=a.new.af
theorem Gh.bG {n:Nat} {hd:Bool} {a:oU} (h:Gh n hd a) {p:ai} (hp:p.WF n):p.bG a:=by
 unfold ai.bG
 rcases h.v with⟨hk,ha⟩ | hk | ⟨hk,h1,h2⟩
 ·rw [if_pos hk]
  unfold ai.xJ
  rcases ha with⟨a1,a2,a3,a4⟩ | ⟨a1,a2,a3,a4⟩
  ·have a1:a.s=0:=a1
   rw [if_pos a1,hp.lb]
   exact⟨a2,a3,a4⟩
  ·have a1:1<=a.s:=a1
   rw [if_neg (by omega)]
   refine⟨⟨a1,?_⟩,a3,a4⟩
   rw [hp.ls];exact a2
 ·rw [if_neg (by omega),if_pos hk];trivial
 ·rw [if_neg (by omega),if_neg (by omega),if_pos hk]
  refine⟨h1,?_⟩
  rw [hp.ls];exact h2
structure XOk (n:Int) (hd:Bool) (a:oU) (x:cr):Prop where
 w:gD n x.w
 al:a.aj=4->x.ok=true->1<=x.w.af
 ld:a.aj=1->hd=true->a.s=0->a.f=0->1<=x.w.af
def NOk (n:Int) (x:Nt):Prop:=1<=x.af /\ x.af<=n
def ClB (n:Int) (hd:Bool) (c:Cl):Prop:=(sU n c /\ (hd=true->hdW c)) \/ c.aj=1 \/ c.aj=2 \/ c.aj=11
def H9.Ok (n:Int) (s:H9):Prop:=gD n s.h0 /\ gD n s.h1 /\ gD n s.h2 /\ gD n s.h3 /\ gD n s.h4 /\ gD n s.h5 /\ gD n s.h6 /\ gD n s.h7 /\ gD n s.h8
theorem H9.ahr {n:Int} {s:H9} (h:s.Ok n) (i:Int):gD n (s.get i):=by
 obtain⟨a0,a1,a2,a3,a4,a5,a6,a7,a8⟩:=h
 unfold H9.get
 repeat' split
 all_goals assumption
theorem H9.I1 {n:Int} {s:H9} (h:s.Ok n) (i:Int) {w:W} (hw:gD n w):(s.put i w).Ok n:=by
 obtain⟨a0,a1,a2,a3,a4,a5,a6,a7,a8⟩:=h
 unfold H9.put
 repeat' split
 all_goals exact⟨by assumption,by assumption,by assumption,by assumption,by assumption,by assumption,by assumption,by assumption,by assumption⟩
def StR (hd:Bool) (m:au):Prop :=
 m.step=0 \/ (m.step=1 /\ (m.call.aj=8->m.acc.aj=4) /\ m.call.aj≠6) \/ (m.step=2 /\ m.call.aj≠8 /\ m.call.aj≠6) \/ (m.step=3 /\ m.call.aj=1) \/
 (m.step=4 /\ m.call.aj=2 /\ (m.ax=2 \/ m.ax=3) /\ 0<=m.index /\ m.index < 9) \/
 (m.step=5 /\ m.call.aj=6 /\ (0<=m.call.i /\ m.call.i < 9) /\ m.acc=⟨1,m.call.cW.s,m.call.cW.g,m.call.cW.f,ao,ao⟩) \/
 (m.step=6 /\ m.call.aj=6 /\ (0<=m.call.i /\ m.call.i < 9) /\ (m.ax=3 \/ m.ax=5) /\ (hd=true->m.call.cW.s=0->m.call.cW.f=0->1<=m.word.af)) \/
 (m.step=7 /\ m.call.aj=6 /\ (0<=m.call.i /\ m.call.i < 9)) \/ (m.step=8 /\ m.call.aj=8) \/
 (m.step=9 /\ m.call.aj=10 /\ (m.ax=3 \/ m.ax=5) /\ m.seen=[]) \/ (m.step=10 /\ m.call.aj=10 /\ (m.ax=3 \/ m.ax=4 \/ m.ax=5) /\ m.seen=[]) \/ (m.step=11 /\ m.call.aj=10 /\ (m.ax=3 \/ m.ax=5) /\ m.seen=[]) \/
 (m.step=12 /\ (m.call.aj=10 \/ m.call.aj=11) /\ m.ax=4 /\ m.seen=[]) \/ (m.step=13 /\ (m.call.aj=10 \/ m.call.aj=11) /\ 2<=m.ax /\ 0<=m.index /\ m.index < 54 /\ (m.seen.length:Int)=m.index) \/
 (m.step=14 /\ (m.call.aj=10 \/ m.call.aj=11) /\ m.ax=4) \/ (m.step=15 /\ (m.call.aj=10 \/ m.call.aj=11) /\ m.ax=4) \/
 (m.step=16 /\ (m.call.aj=10 \/ m.call.aj=11) /\ 2<=m.ax /\ 0 < m.aP.length /\ ∀x,m.aP.count x<=m.notes.count x)
structure au.B (n:Int) (hd:Bool) (K:Nat) (m:au):Prop where
 CI:1<=m.ax /\ m.ax<=5
 me:0<=m.me /\ m.me < 6
 mS:1<=m.cR /\ m.cR<=6
 holds:m.holds.Ok n
 notes:∀x∈m.notes,NOk n x
 len:m.notes.length<=K
 word:gD n m.word
 seen:m.seen.length<=54
structure au.WF (n:Int) (hd:Bool) (K:Nat) (m:au):Prop where
 b:m.B n hd K
 call:m.step≠0->ClB n hd m.call
 acc:m.step≠0->Gh n hd m.acc
 st:StR hd m
structure ie (n:Int) (hd:Bool) (K:Nat) (c:Cl) (r:au):Prop where
 wf:r.WF n hd K
 on:r.step≠0->r.call=c
 off:r.step=0->vg n hd c r.bz
section
variable {n:Int} {hd:Bool} {K:Nat} {c:Cl}
theorem B.mono {m:au} {K':Nat} (h:m.B n hd K) (hk:K<=K'):m.B n hd K':=⟨h.CI,h.me,h.mS,h.holds,h.notes,abL h.len hk,h.word,h.seen⟩
theorem vU (h0:0<=n) {r:RT} (h:r.m.B n hd K) {x:cr} (hx:vg n hd c x):ie n hd K c (dt x r).m :=
 ⟨⟨⟨h.CI,h.me,h.mS,h.holds,h.notes,h.len,aR h0,adr _⟩,fun e=>absurd rfl e,fun e=>absurd rfl e,.inl rfl⟩,fun e=>absurd rfl e,fun _=>hx⟩
theorem iH (h0:0<=n) {r:RT} (h:r.m.B n hd K) (h8:c.aj≠8) (h6:c.aj≠6):ie n hd K c (jM RT.m r) :=
 vU h0 h ⟨aR h0,fun e=>absurd e h8,fun _ e=>absurd e h6⟩
theorem dG {r:RT} (h:r.m.B n hd K) (hcl:ClB n hd c) (hc:r.m.call=c) {s:Int} {a:oU} (ha:Gh n hd a) (hs:s≠0) (uO:StR hd (fA s a r).m):ie n hd K c (fA s a r).m :=
 ⟨⟨⟨h.CI,h.me,h.mS,h.holds,h.notes,h.len,h.word,h.seen⟩,fun _=>hc▸hcl,fun _=>ha,uO⟩,fun _=>hc,fun e=>absurd e hs⟩
theorem iA (h0:0<=n) {a:Ad} (ha:zJ n a):Gh n hd ⟨1,a.s,a.g,a.f,ao,ao⟩:=⟨.inl ⟨.inl rfl,ha⟩,aR h0,fun _ h=>absurd h (by show ¬((1:Int)=2 \/ (1:Int)=3);decide)⟩
theorem MP (h0:0<=n) {f:Int} {w:W} (hf:1<=f) (AQ:f < 85) (hw:gD n w):Gh n hd ⟨2,0,0,f,ao,w⟩:=⟨.inl ⟨.inr (.inl rfl),.inl ⟨rfl,rfl,by show 0<=f;omega,AQ⟩⟩,hw,fun _ _ _ e=>by have e:f=0:=e;omega⟩
theorem Y3 {o w:W} (hw:gD n w):Gh n hd ⟨3,0,0,24,o,w⟩:=⟨.inl ⟨.inr (.inr rfl),.inl ⟨rfl,rfl,by show (0:Int)<=24;decide,by show (24:Int) < 85;decide⟩⟩,hw,fun _ _ _ e=>absurd (show (24:Int)=0 from e) (by decide)⟩
theorem Y2 {w:W} (hw:gD n w):Gh n hd ⟨4,0,0,0,ao,w⟩:=⟨.inr (.inl rfl),hw,fun _ h=>absurd (show (4:Int)=2 \/ (4:Int)=3 from h) (by decide)⟩
theorem QY (h0:0<=n) {w:W} (h1:1<=w.af) (h2:w.af<=n):Gh n hd ⟨5,0,0,0,w,ao⟩:=⟨.inr (.inr ⟨rfl,h1,h2⟩),aR h0,fun _ h=>absurd (show (5:Int)=2 \/ (5:Int)=3 from h) (by decide)⟩
theorem nX:zJ n kG:=.inl ⟨rfl,rfl,by show (0:Int)<=24;decide,by show (24:Int) < 85;decide⟩
structure RB (n:Int) (hd:Bool) (K:Nat) (c:Cl) (r:RT):Prop where
 b:r.m.B n hd K
 cl:ClB n hd c
 hc:r.m.call=c
 ln:r.ln=r.m.notes.length
 ld:r.ld=r.m.aP.length
theorem iE {b:Bool} {t e:au} (h1:b=true->ie n hd K c t) (h2:b=false->ie n hd K c e):ie n hd K c (cond b t e):=gE (P:=ie n hd K c) h1 h2
theorem yH (h0:0<=n) {r:RT} (h:RB n hd K c r) {s k:Int} {w:W} (hk:0<=k /\ k < 9) (hw:gD n w) (hs:s≠0)
 (uO:StR hd (fA s ⟨2,0,0,25+r.m.me * 9+k,ao,w⟩ {r with m:={r.m with holds:=H9.put r.m.holds k w}}).m):ie n hd K c (uf NN RT.m s k w r):=by
 have hm:=h.b.me
 exact dG (r:={r with m:={r.m with holds:=H9.put r.m.holds k w}}) ⟨h.b.CI,h.b.me,h.b.mS,H9.I1 h.b.holds k hw,h.b.notes,h.b.len,h.b.word,h.b.seen⟩ h.cl h.hc (MP h0 (by omega) (by omega) hw) hs uO
theorem pf (h0:0<=n) {r:RT} (h:RB n hd K c r) {s:Int} {sp:Sp} {w:W} (hw:gD n w) (hs:s≠0) (uO:StR hd (fA s ⟨2,0,0,79+r.m.me,ao,w⟩ {r with m:={r.m with span:=sp}}).m):ie n hd K c (jX NN RT.m s sp w r):=by
 have hm:=h.b.me
 exact dG (r:={r with m:={r.m with span:=sp}}) ⟨h.b.CI,h.b.me,h.b.mS,h.b.holds,h.b.notes,h.b.len,h.b.word,h.b.seen⟩ h.cl h.hc (MP h0 (by omega) (by omega) hw) hs uO
theorem Ef (h0:0<=n) (h2:c.aj=2):∀(k:Nat) {r:RT} {i:Int},RB n hd K c r->(r.m.ax=2 \/ r.m.ax=3)->0<=i->i+k<=9->ie n hd K c (qp cond NN RT.m r k i)
 | 0,r,i,h,_,_,_=>iH h0 h.b (by omega) (by omega)
 | k+1,r,i,h,he,hi,hk=>by
   unfold qp
   refine iE (fun _=>?_) fun _=>Ef h0 h2 k h he (by omega) (by omega)
   exact yH h0 (r:={r with m:={r.m with index:=i}}) ⟨⟨h.b.CI,h.b.me,h.b.mS,h.b.holds,h.b.notes,h.b.len,h.b.word,h.b.seen⟩,h.cl,h.hc,h.ln,h.ld⟩ ⟨hi,by omega⟩ (aR h0) (by decide)
    (.inr (.inr (.inr (.inr (.inl ⟨rfl,by show r.m.call.aj=2;rw [h.hc];exact h2,he,hi,by show i < 9;omega⟩)))))
theorem Hb (h0:0<=n) (h2:c.aj=2) {r:RT} (h:RB n hd K c r) {i:Nat} (hi:i<=9):ie n hd K c (m9 cond NN RT.m i r):=by
 unfold m9
 split
 ·refine iE (fun _=>?_) fun _=>iH h0 h.b (by omega) (by omega)
  exact pf h0 h (aR h0) (by decide) (.inr (.inr (.inl ⟨rfl,by show r.m.call.aj≠8;rw [h.hc];omega,by show r.m.call.aj≠6;rw [h.hc];omega⟩)))
 ·split
  ·rename_i he
   exact Ef h0 h2 _ h he (by omega) (by omega)
  ·exact iH h0 h.b (by omega) (by omega)
theorem D7 (h0:0<=n) (hc:c.aj=10 \/ c.aj=11) {r:RT} (h:RB n hd K c r) (he:2<=r.m.ax) {i:Nat} (hs:r.m.seen.length=i) {k:au} (hk:r.m.seen.length<=54->(i:Int)>=(if r.m.ax=2 \/ r.m.ax=3 then r.m.cR * 9 else r.m.cR)->ie n hd K c k) :
 ie n hd K c (kO cond NN RT.m (i:Int) r k):=by
 have ht:=h.b.mS
 unfold kO
 split
 ·rename_i Zk
  have ew:IntKind.wrap .i64 (r.m.cR * 9)=r.m.cR * 9:=ma (by omega)
  rw [ew]
  rw [if_pos Zk] at hk
  refine iE (fun hb=>hk h.b.seen (aaV hb)) fun hb=>?_
  have du:(i:Int) < r.m.cR * 9:=by have:=abb hb;omega
  have hd1:0<=Int.tdiv (i:Int) 9 /\ Int.tdiv (i:Int) 9 < 6:=by
   rw [Int.tdiv_eq_ediv_of_nonneg (by omega)];omega
  have hd2:0<=Int.tmod (i:Int) 9 /\ Int.tmod (i:Int) 9 < 9:=by
   rw [Int.tmod_eq_emod_of_nonneg (by omega)];omega
  have ew2:IntKind.wrap .i64 (Int.tdiv (i:Int) 9)=Int.tdiv (i:Int) 9:=ma (by omega)
  refine dG (r:={r with m:={r.m with index:=(i:Int)}}) ⟨h.b.CI,h.b.me,h.b.mS,h.b.holds,h.b.notes,h.b.len,h.b.word,h.b.seen⟩ h.cl h.hc (a:=⟨1,0,0,(Qe (IntKind.wrap .i64 (Int.tdiv (i:Int) 9),Int.tmod (i:Int) 9)).f,ao,ao⟩) ?_ (by decide) ?_
  ·rw [ew2]
   exact iA h0 (a:=⟨0,0,25+Int.tdiv (i:Int) 9 * 9+Int.tmod (i:Int) 9⟩) (.inl ⟨rfl,rfl,by show 0<=25+Int.tdiv (i:Int) 9 * 9+Int.tmod (i:Int) 9;omega,by show 25+Int.tdiv (i:Int) 9 * 9+Int.tmod (i:Int) 9 < 85;omega⟩)
  ·refine .inr (.inr (.inr (.inr (.inr (.inr (.inr (.inr (.inr (.inr (.inr (.inr (.inr (.inl ⟨rfl,?_,he,?_,?_,?_⟩)))))))))))))
   ·show r.m.call.aj=10 \/ r.m.call.aj=11
    rw [h.hc];exact hc
   ·show 0<=(i:Int);omega
   ·show (i:Int) < 54;omega
   ·show (r.m.seen.length:Int)=(i:Int);omega
 ·rename_i Zk
  rw [if_neg Zk] at hk
  refine iE (fun hb=>hk h.b.seen (aaV hb)) fun hb=>?_
  have du:(i:Int) < r.m.cR:=by have:=abb hb;omega
  refine dG (r:={r with m:={r.m with index:=(i:Int)}}) ⟨h.b.CI,h.b.me,h.b.mS,h.b.holds,h.b.notes,h.b.len,h.b.word,h.b.seen⟩ h.cl h.hc (a:=⟨1,0,0,79+(i:Int),ao,ao⟩) ?_ (by decide) ?_
  ·exact iA h0 (a:=⟨0,0,79+(i:Int)⟩) (.inl ⟨rfl,rfl,by show 0<=79+(i:Int);omega,by show 79+(i:Int) < 85;omega⟩)
  ·refine .inr (.inr (.inr (.inr (.inr (.inr (.inr (.inr (.inr (.inr (.inr (.inr (.inr (.inl ⟨rfl,?_,he,?_,?_,?_⟩)))))))))))))
   ·show r.m.call.aj=10 \/ r.m.call.aj=11
    rw [h.hc];exact hc
   ·show 0<=(i:Int);omega
   ·show (i:Int) < 54;omega
   ·show (r.m.seen.length:Int)=(i:Int);omega
theorem KM (h0:0<=n) (hc:c.aj=10 \/ c.aj=11) {r:RT} (h:RB n hd K c r) (hs:r.m.seen=[]):ie n hd K c (sV cond NN RT.m r):=by
 have ht:=h.b.mS
 have he:=h.b.CI
 unfold sV
 split
 ·exact iH h0 h.b (by omega) (by omega)
 ·split
  ·rename_i SG
   exact dG h.b h.cl h.hc (iA h0 nX) (by decide) (.inr (.inr (.inr (.inr (.inr (.inr (.inr (.inr (.inr (.inr (.inr (.inr (.inl ⟨rfl,by show r.m.call.aj=10 \/ r.m.call.aj=11;rw [h.hc];exact hc,SG,hs⟩)))))))))))))
  ·refine D7 h0 hc h (by omega) (i:=0) (by rw [hs];rfl) fun _ hk=>?_
   exfalso
   split at hk<;>omega
theorem GW (h0:0<=n) (hc:c.aj=10 \/ c.aj=11) {r:RT} (h:RB n hd K c r) (hs:r.m.seen=[]):ie n hd K c (lI cond NN RT.m r):=by
 unfold lI
 exact iE (fun _=>KM h0 hc h hs) fun _=>iH h0 h.b (by omega) (by omega)
theorem YX (h0:0<=n) {r:RT} (h:RB n hd K c r) (hk:1<=c.cU.af /\ c.cU.af<=n) (b d:Int):RB n hd (K+1) c (Dy b d r):=by
 refine⟨⟨h.b.CI,h.b.me,h.b.mS,h.b.holds,fun x hx=>?_,?_,h.b.word,h.b.seen⟩,h.cl,h.hc,?_,h.ld⟩
 ·rcases aec.1 hx with hx | hx
  ·exact h.b.notes x hx
  ·simp only [abk,abo,or_false] at hx
   subst hx
   show 1<=r.m.call.cU.af /\ r.m.call.cU.af<=n
   rw [h.hc];exact hk
 ·show (r.m.notes++[_]).length<=K+1
  rw [abl]
  have:=h.b.len
  simp only [abn,adY];omega
 ·show r.ln+1=(r.m.notes++[_]).length
  rw [abl,h.ln];rfl
theorem RB.mono {r:RT} {K':Nat} (h:RB n hd K c r) (hk:K<=K'):RB n hd K' c r:=⟨B.mono h.b hk,h.cl,h.hc,h.ln,h.ld⟩
theorem ie.mono {r:au} {K':Nat} (h:ie n hd K c r) (hk:K<=K'):ie n hd K' c r:=⟨⟨B.mono h.wf.b hk,h.wf.call,h.wf.acc,h.wf.st⟩,h.on,h.off⟩
theorem KV (h0:0<=n) (hc:c.aj=10 \/ c.aj=11) {r:RT} (h:RB n hd K c r) (he:2<=r.m.ax) (hs:r.m.seen.length<=54) (XE:∀x,r.m.aP.count x<=r.m.notes.count x):ie n hd K c (rD r):=by
 unfold rD oO
 refine iE (fun _=>iH h0 h.b (by omega) (by omega)) fun hb=>?_
 have dA:r.m.aP≠[]:=fun e=>by
  have h1:=h.ld
  rw [e] at h1
  have:=PW hb
  rw [h1] at this
  exact this rfl
 have fq:0 < r.m.aP.length:=List.length_pos_iff.2 dA
 have nB:r.m.aP.getD 0 bj.bR∈r.m.aP:=mD fq
 have hx:NOk n (r.m.aP.getD 0 bj.bR):=h.b.notes _ (List.count_pos_iff.1 (Nat.lt_of_lt_of_le (List.count_pos_iff.2 nB) (XE _)))
 exact dG h.b h.cl h.hc (QY h0 (w:=pD (r.m.aP.getD 0 bj.bR)) hx.1 hx.2) (by decide)
  (.inr (.inr (.inr (.inr (.inr (.inr (.inr (.inr (.inr (.inr (.inr (.inr (.inr (.inr (.inr (.inr ⟨rfl,by show r.m.call.aj=10 \/ r.m.call.aj=11;rw [h.hc];exact hc,he,fq,XE⟩))))))))))))))))
theorem KI (h0:0<=n) (hc:c.aj=10 \/ c.aj=11) {m:au} (h:m.B n hd K) (hcl:ClB n hd c) (F8:m.call=c) (he:2<=m.ax):ie n hd K c (kL m):=by
 unfold kL
 have zb:∀x,(ER m).count x<=m.notes.count x:=fun x=>by
  unfold ER fr1 fr2 fr3 fr4 gO
  split
  ·exact List.Sublist.count_le _ aeW
  ·split
   ·exact List.Sublist.count_le _ aeW
   ·split
    all_goals (exact List.Sublist.count_le _ aeW)
 exact KV h0 hc (r:=wU (ER m) (dz m)) ⟨⟨h.CI,h.me,h.mS,h.holds,h.notes,h.len,h.word,h.seen⟩,hcl,F8,rfl,rfl⟩ he h.seen zb
theorem OT (h:ClB n hd c):yN c /\ (c.aj=3 \/ c.aj=4 \/ c.aj=5 \/ c.aj=6->zJ n c.cW) /\ (c.aj=9 \/ c.aj=10->1<=c.cU.af /\ c.cU.af<=n) /\ (c.aj=4 \/ c.aj=5->gD n c.new /\ (hd=true->hdW c)):=by
 unfold yN
 rcases h with⟨⟨h1,h2,h3⟩,h4⟩ | h | h | h
 ·rcases h3 with⟨hk,ha⟩ | ⟨hk,ha,hi,hj,hz⟩ | ⟨hk,hp⟩ | hk | ⟨hk,hs⟩
  ·exact⟨by omega,fun _=>ha,fun h=>by omega,fun _=>⟨h2,h4⟩⟩
  ·exact⟨by omega,fun _=>ha,fun h=>by omega,fun h=>by omega⟩
  ·exact⟨.inr (.inr (.inr (.inr (.inr (.inr (.inl ⟨hk,hp⟩)))))),fun h=>by omega,fun h=>by omega,fun h=>by omega⟩
  ·exact⟨by omega,fun h=>by omega,fun h=>by omega,fun h=>by omega⟩
  ·exact⟨by omega,fun h=>by omega,fun _=>⟨hs,h1.2.1⟩,fun h=>by omega⟩
 all_goals (exact⟨by omega,fun h=>by omega,fun h=>by omega,fun h=>by omega⟩)
theorem zw (h0:0<=n) {m:au} (h:m.WF n hd K) (hs:m.step=0) (hcl:ClB n hd c) (hK:K<=100000):FW m c=true /\ ie n hd (K+1) c (aX m c):=by
 obtain⟨Zh,SJ,hold,AL⟩:=OT hcl
 have hb:=h.b
 refine⟨aaS ⟨hs,⟨hb.CI.1,hb.CI.2,hb.me.1,hb.me.2,abL hb.len hK⟩,Zh⟩,?_⟩
 have rb:RB n hd K c (bX c (dz m)):=⟨⟨hb.CI,hb.me,hb.mS,hb.holds,hb.notes,hb.len,aR h0,adr _⟩,hcl,rfl,rfl,rfl⟩
 unfold aX fz
 split
 ·rename_i hk
  exact GW h0 (.inl hk.1) (YX h0 rb (hold (.inr hk.1)) 0 0) rfl
 ·split
  ·rename_i hk
   exact(KM h0 (.inr hk.1) rb rfl).mono (by omega)
  ·refine ie.mono (K:=K) ?_ (by omega)
   have he:(bX c (dz m)).m.ax=m.ax:=rfl
   unfold jA
   by_cases k1:c.aj=1
   ·rw [if_pos k1]
    split
    ·exact dG rb.b hcl rfl (iA h0 nX) (by decide) (.inr (.inr (.inr (.inl ⟨rfl,k1⟩))))
    ·exact iH h0 rb.b (by omega) (by omega)
   ·rw [if_neg k1]
    by_cases k2:c.aj=2
    ·rw [if_pos k2]
     exact Hb h0 k2 rb (by omega)
    ·rw [if_neg k2]
     by_cases k3:c.aj=3
     ·rw [if_pos k3]
      exact dG rb.b hcl rfl (iA h0 (SJ (.inl k3))) (by decide) (.inr (.inl ⟨rfl,fun e=>by have e:c.aj=8:=e;omega,by show c.aj≠6;omega⟩))
     ·rw [if_neg k3]
      by_cases k4:c.aj=4
      ·rw [if_pos k4]
       obtain⟨w1,w2⟩:=AL (.inl k4)
       refine dG rb.b hcl rfl ⟨.inl ⟨.inr (.inl rfl),SJ (.inr (.inl k4))⟩,w1,fun e _ hs hf=>w2 e (.inl k4) hs hf⟩ (by decide) (.inr (.inl ⟨rfl,fun e=>by have e:c.aj=8:=e;omega,by show c.aj≠6;omega⟩))
      ·rw [if_neg k4]
       by_cases k5:c.aj=5
       ·rw [if_pos k5]
        obtain⟨w1,w2⟩:=AL (.inr k5)
        refine dG rb.b hcl rfl ⟨.inl ⟨.inr (.inr rfl),SJ (.inr (.inr (.inl k5)))⟩,w1,fun e _ hs hf=>w2 e (.inr k5) hs hf⟩ (by decide) (.inr (.inl ⟨rfl,fun e=>by have e:c.aj=8:=e;omega,by show c.aj≠6;omega⟩))
       ·rw [if_neg k5]
        by_cases k6:c.aj=6
        ·rw [if_pos k6]
         have hi:0<=c.i /\ c.i < 9:=by unfold yN at Zh;unfold uw at Zh;omega
         exact dG rb.b hcl rfl (iA h0 (SJ (.inr (.inr (.inr k6))))) (by decide) (.inr (.inr (.inr (.inr (.inr (.inl ⟨rfl,k6,hi,rfl⟩))))))
        ·rw [if_neg k6]
         by_cases k7:c.aj=7
         ·rw [if_pos k7]
          have hi:0<=c.i /\ c.i < 9:=by unfold yN at Zh;unfold uw at Zh;omega
          split
          ·refine iE (fun _=>?_) fun _=>iH h0 rb.b (by omega) (by omega)
           exact yH h0 rb hi (H9.ahr rb.b.holds _) (by decide) (.inr (.inr (.inl ⟨rfl,by show c.aj≠8;omega,by show c.aj≠6;omega⟩)))
          ·exact iH h0 rb.b (by omega) (by omega)
         ·rw [if_neg k7]
          by_cases k8:c.aj=8
          ·rw [if_pos k8]
           split
           ·exact dG rb.b hcl rfl (iA h0 nX) (by decide) (.inr (.inr (.inr (.inr (.inr (.inr (.inr (.inr (.inl ⟨rfl,k8⟩)))))))))
           ·exact dG rb.b hcl rfl (Y2 (aR h0)) (by decide) (.inr (.inl ⟨rfl,fun _=>rfl,by show c.aj≠6;omega⟩))
          ·rw [if_neg k8]
           by_cases k9:c.aj=9
           ·rw [if_pos k9]
            obtain⟨o1,o2⟩:=hold (.inl k9)
            exact dG rb.b hcl rfl (QY h0 o1 o2) (by decide) (.inr (.inr (.inl ⟨rfl,by show c.aj≠8;omega,by show c.aj≠6;omega⟩)))
           ·rw [if_neg k9]
            by_cases k10:c.aj=10
            ·rw [if_pos k10]
             split
             ·rename_i SG
              exact dG rb.b hcl rfl (iA h0 nX) (by decide) (.inr (.inr (.inr (.inr (.inr (.inr (.inr (.inr (.inr (.inr (.inl ⟨rfl,k10,.inr (.inl SG),rfl⟩)))))))))))
             ·split
              ·rename_i he5
               obtain⟨o1,o2⟩:=hold (.inr k10)
               exact dG rb.b hcl rfl (iA h0 (a:=⟨c.cU.af,c.cU.gen,9⟩) (.inr ⟨o1,o2,by show (0:Int)<=9;decide,by show (9:Int) < 10;decide⟩)) (by decide) (.inr (.inr (.inr (.inr (.inr (.inr (.inr (.inr (.inr (.inl ⟨rfl,k10,he5,rfl⟩))))))))))
              ·exact iH h0 rb.b (by omega) (by omega)
            ·rw [if_neg k10]
             have k11:c.aj=11:=by unfold yN at Zh;omega
             split
             ·rename_i SG
              exact dG rb.b hcl rfl (iA h0 nX) (by decide) (.inr (.inr (.inr (.inr (.inr (.inr (.inr (.inr (.inr (.inr (.inr (.inr (.inl ⟨rfl,.inr k11,SG,rfl⟩)))))))))))))
             ·exact iH h0 rb.b (by omega) (by omega)
theorem Mh {x y:Nt}:rR x y=true↔x=y:=by
 obtain⟨a,b,c,d,e,f,g⟩:=x
 obtain⟨a',b',c',d',e',f',g'⟩:=y
 simp [rR]
theorem Hm {p:Nt->Bool}:∀(l:List Nt) (k:Nat),l.any p=true->k<=je p k l /\ je p k l < k+l.length /\ p (l.getD (je p k l - k) bj.bR)=true
 | [],k,h=>by cases h
 | a::l,k,h=>by
   unfold je
   cases ha:p a with
   | true=>exact⟨abV _,by simp,by simpa using ha⟩
   | false =>
     rw [List.any_cons,ha] at h
     obtain⟨h1,h2,h3⟩:=Hm l (k+1) h
     refine⟨by show k<=je p (k+1) l;omega,by show je p (k+1) l < _;rw [abn];omega,?_⟩
     show p ((a::l).getD (je p (k+1) l - k) bj.bR)=true
     rw [show je p (k+1) l - k=(je p (k+1) l - (k+1))+1 by omega]
     exact h3
theorem LM {x:Nt} {l:List Nt} (h:x∈l):0<=eY x l /\ eY x l < (l.length:Int) /\ l.getD (eY x l).toNat bj.bR=x:=by
 have ha:l.any (rR x)=true:=List.any_eq_true.2 ⟨x,h,Mh.2 rfl⟩
 obtain⟨h1,h2,h3⟩:=Hm l 0 ha
 have e:eY x l=(je (rR x) 0 l:Int):=by unfold eY;rw [ha];rfl
 rw [e]
 exact⟨by omega,by omega,(Mh.1 h3).symm⟩
theorem HY {l:List Nt} {i:Nat} (hi:i < l.length) (x:Nt):l.count x=(l.take i++l.drop (i+1)).count x+if l.getD i bj.bR=x then 1 else 0:=by
 have e:l=l.take i++(l.getD i bj.bR::l.drop (i+1)):=by
  rw [adX,abj hi]
  show l=l.take i++(l[i]::l.drop (i+1))
  rw [<- List.drop_eq_getElem_cons hi,agU]
 generalize l.getD i bj.bR=y at e ⊢
 rw [List.count_append]
 refine(congrArg (List.count x) e).trans ?_
 rw [List.count_append,List.count_cons]
 by_cases h:y=x
 ·rw [if_pos h,if_pos (beq_iff_eq.2 h)];omega
 ·rw [if_neg h,if_neg (by simpa using h)];omega
end
end
section
open Go Go.Sx Go.Proofs
section
variable {n:Int} {hd:Bool} {K:Nat}
theorem um (h0:0<=n) {m:au} (h:m.WF n hd K) {x:cr} (hx:XOk n hd m.acc x) (hs:(m.step=5 /\ m.acc=⟨1,m.call.cW.s,m.call.cW.g,m.call.cW.f,ao,ao⟩) \/ (m.step=6 /\ (m.ax=3 \/ m.ax=5) /\ (hd=true->m.call.cW.s=0->m.call.cW.f=0->1<=m.word.af)) \/ m.step=7) (k6:m.call.aj=6) (hi:0<=m.call.i /\ m.call.i < 9):ie n hd K m.call (gm cond NN RT.m x (dz m)):=by
 have hb:=h.b
 have hcl:=h.call (by rcases hs with⟨e,_⟩ | ⟨e,_⟩ | e<;>omega)
 have SJ:=(OT hcl).2.1 (.inr (.inr (.inr k6)))
 have rb:RB n hd K m.call (dz m):=⟨hb,hcl,rfl,rfl,rfl⟩
 unfold gm
 show ie n hd K m.call (if m.step=7 then _ else if m.step=5 then _ else _)
 rcases hs with⟨hs,ag9⟩ | ⟨hs,he,hw⟩ | hs
 ·rw [if_neg (by omega),if_pos hs]
  have hrw:hd=true->m.call.cW.s=0->m.call.cW.f=0->1<=x.w.af:=fun e a b=>hx.ld (by rw [ag9]) e (by rw [ag9];exact a) (by rw [ag9];exact b)
  have rbw:RB n hd K m.call {dz m with m:={m with word:=x.w}}:=⟨⟨hb.CI,hb.me,hb.mS,hb.holds,hb.notes,hb.len,hx.w,hb.seen⟩,hcl,rfl,rfl,rfl⟩
  have rp:vg n hd m.call ⟨x.w,true⟩:=⟨hx.w,fun e=>by omega,fun e _ a b=>hrw e a b⟩
  show ie n hd K m.call (if m.ax=3 \/ m.ax=5 then _ else if m.ax=2 then _ else _)
  by_cases he:m.ax=3 \/ m.ax=5
  ·rw [if_pos he]
   exact dG rbw.b hcl rfl (iA h0 nX) (by decide) (.inr (.inr (.inr (.inr (.inr (.inr (.inl ⟨rfl,k6,hi,he,hrw⟩)))))))
  ·rw [if_neg he]
   by_cases Zk:m.ax=2
   ·rw [if_pos Zk]
    refine iE (fun _=>?_) fun _=>vU h0 hb rp
    exact yH h0 rbw hi (ct hx.w) (by decide) (.inr (.inr (.inr (.inr (.inr (.inr (.inr (.inl ⟨rfl,k6,hi⟩))))))))
   ·rw [if_neg Zk]
    exact vU h0 hb rp
 ·rw [if_neg (by omega),if_neg (by omega)]
  have rp:vg n hd m.call ⟨m.word,true⟩:=⟨hb.word,fun e=>by omega,fun e _ a b=>hw e a b⟩
  show ie n hd K m.call (if m.ax=3 then _ else _)
  have st7:∀(r:au),r.step=7->r.call=m.call->StR hd r:=fun r h1 h2=>.inr (.inr (.inr (.inr (.inr (.inr (.inr (.inl ⟨h1,by rw [h2];exact k6,by rw [h2];exact hi⟩)))))))
  by_cases he3:m.ax=3
  ·rw [if_pos he3]
   refine iE (fun _=>vU h0 hb rp) fun _=>?_
   exact yH h0 rb hi (gT h0 _) (by decide) (st7 _ rfl rfl)
  ·rw [if_neg he3]
   have ws:∀{a b c:Int},gD n ⟨0,0,a,b,true⟩:=⟨aef _,h0,fun _=>rfl⟩
   refine iE (fun _=>vU h0 hb rp) fun _=>iE (fun _=>?_) fun _=>?_
   ·exact pf h0 rb (ws (c:=0)) (by decide) (st7 _ rfl rfl)
   ·exact pf h0 rb (ws (c:=0)) (by decide) (st7 _ rfl rfl)
 ·rw [if_pos hs]
  exact dG hb hcl rfl (iA h0 SJ) (by decide) (.inr (.inr (.inr (.inr (.inr (.inl ⟨rfl,k6,hi,rfl⟩))))))
theorem ZI (h0:0<=n) {m:au} (h:m.WF n hd K) (hs:m.step≠0) {x:cr} (hx:XOk n hd m.acc x) (hK:K<=100000):Ja m=true /\ ie n hd (K+1) m.call (bV m x):=by
 have hb:=h.b
 have hcl:=h.call hs
 have rb:RB n hd K m.call (dz m):=⟨hb,hcl,rfl,rfl,rfl⟩
 have MX:R2 m:=⟨hb.CI.1,hb.CI.2,hb.me.1,hb.me.2,abL hb.len hK⟩
 have qI:m.seen.length<=1000:=abL hb.seen (by decide)
 have qH:=hb.mS
 have BD:∀{s:Int},m.step=s->s < 9->bV m x=jd cond NN RT.m x (dz m):=fun {s} e h=>by
  unfold bV
  rw [if_neg (by omega),if_neg (by omega),if_neg (by omega),if_neg (by omega)]
 have mid:∀{s:Int},m.step=s->9<=s->s≠13->s≠15->s≠16->bV m x=kE cond NN RT.m (fun _=>true) x (dz m):=fun {s} e h h1 h2 h3=>by
  unfold bV
  rw [if_neg (by omega),if_neg (by omega),if_neg (by omega),if_pos (by omega)]
 have em:(dz m).m=m:=rfl
 have afV:∀{s:Int},m.step=s->(s=5 \/ s=6 \/ s=7)->jd cond NN RT.m x (dz m)=gm cond NN RT.m x (dz m):=fun {s} e h=>by
  unfold jd
  rw [em,if_neg (by omega),if_neg (by omega),if_neg (by omega),if_neg (by omega),if_neg (by omega)]
 rcases h.st with e | ⟨e,a1,a2⟩ | ⟨e,a1,a2⟩ | ⟨e,k⟩ | ⟨e,k,he,i0,i1⟩ | ⟨e,k,hi,ha⟩ | ⟨e,k,hi,he,hw⟩ | ⟨e,k,hi⟩ | ⟨e,k⟩ | ⟨e,k,he,sn⟩ | ⟨e,k,he,sn⟩ | ⟨e,k,he,sn⟩ | ⟨e,k,he,sn⟩ | ⟨e,k,he,i0,i1,i2⟩ | ⟨e,k,he⟩ | ⟨e,k,he⟩ | ⟨e,k,he,hd0,XE⟩
 ·exact absurd e hs
 ·refine⟨aaS ⟨MX,qI,qH.1,qH.2,.inl e⟩,ie.mono (K:=K) ?_ (by omega)⟩
  rw [BD e (by decide)]
  unfold jd
  rw [em,if_pos e]
  exact vU h0 hb ⟨hx.w,fun e8=>hx.al (a1 e8),fun _ e6=>absurd e6 a2⟩
 ·refine⟨aaS ⟨MX,qI,qH.1,qH.2,.inr (.inl e)⟩,ie.mono (K:=K) ?_ (by omega)⟩
  rw [BD e (by decide)]
  unfold jd
  rw [em,if_neg (by omega),if_pos e]
  exact iH h0 hb a1 a2
 ·refine⟨aaS ⟨MX,qI,qH.1,qH.2,.inr (.inr (.inl e))⟩,ie.mono (K:=K) ?_ (by omega)⟩
  rw [BD e (by decide)]
  unfold jd
  rw [em,if_neg (by omega),if_neg (by omega),if_pos e]
  exact pf h0 rb ⟨aef _,h0,fun _=>rfl⟩ (by decide) (.inr (.inr (.inl ⟨rfl,by show m.call.aj≠8;omega,by show m.call.aj≠6;omega⟩)))
 ·refine⟨aaS ⟨MX,qI,qH.1,qH.2,.inr (.inr (.inr (.inl ⟨e,he,i0,i1⟩)))⟩,ie.mono (K:=K) ?_ (by omega)⟩
  rw [BD e (by decide)]
  unfold jd
  rw [em,if_neg (by omega),if_neg (by omega),if_neg (by omega),if_pos e]
  exact Hb h0 k rb (by omega)
 ·refine⟨aaS ⟨MX,qI,qH.1,qH.2,.inr (.inr (.inr (.inr (.inl ⟨e,hi.1,hi.2⟩))))⟩,ie.mono (K:=K) ?_ (by omega)⟩
  rw [BD e (by decide),afV e (by decide)]
  exact um h0 h hx (.inl ⟨e,ha⟩) k hi
 ·refine⟨aaS ⟨MX,qI,qH.1,qH.2,.inr (.inr (.inr (.inr (.inr (.inl ⟨e,he,hi.1,hi.2⟩)))))⟩,ie.mono (K:=K) ?_ (by omega)⟩
  rw [BD e (by decide),afV e (by decide)]
  exact um h0 h hx (.inr (.inl ⟨e,he,hw⟩)) k hi
 ·refine⟨aaS ⟨MX,qI,qH.1,qH.2,.inr (.inr (.inr (.inr (.inr (.inr (.inl e))))))⟩,ie.mono (K:=K) ?_ (by omega)⟩
  rw [BD e (by decide),afV e (by decide)]
  exact um h0 h hx (.inr (.inr e)) k hi
 ·refine⟨aaS ⟨MX,qI,qH.1,qH.2,.inr (.inr (.inr (.inr (.inr (.inr (.inr (.inl e)))))))⟩,ie.mono (K:=K) ?_ (by omega)⟩
  rw [BD e (by decide)]
  unfold jd
  rw [em,if_neg (by omega),if_neg (by omega),if_neg (by omega),if_neg (by omega),if_pos e]
  exact dG hb hcl rfl (Y2 (gT h0 _)) (by decide) (.inr (.inl ⟨rfl,fun _=>rfl,by show m.call.aj≠6;omega⟩))
 ·refine⟨aaS ⟨MX,qI,qH.1,qH.2,.inr (.inr (.inr (.inr (.inr (.inr (.inr (.inr (.inl e))))))))⟩,ie.mono (K:=K) ?_ (by omega)⟩
  rw [mid e (by decide) (by decide) (by decide) (by decide)]
  unfold kE
  rw [em,if_pos e]
  exact dG (r:={dz m with m:={m with word:=x.w}}) ⟨hb.CI,hb.me,hb.mS,hb.holds,hb.notes,hb.len,hx.w,hb.seen⟩ hcl rfl (iA h0 nX) (by decide)
   (.inr (.inr (.inr (.inr (.inr (.inr (.inr (.inr (.inr (.inr (.inl ⟨rfl,k,he.elim .inl fun h=>.inr (.inr h),sn⟩)))))))))))
 ·refine⟨aaS ⟨MX,qI,qH.1,qH.2,.inr (.inr (.inr (.inr (.inr (.inr (.inr (.inr (.inr (.inl ⟨e,he⟩)))))))))⟩,?_⟩
  rw [mid e (by decide) (by decide) (by decide) (by decide)]
  unfold kE
  rw [em,if_neg (by omega),if_pos e]
  have hold:=(OT hcl).2.2.1 (.inr k)
  have rbc:RB n hd K m.call {dz m with m:={m with clock:=x.w}}:=⟨⟨hb.CI,hb.me,hb.mS,hb.holds,hb.notes,hb.len,hb.word,hb.seen⟩,hcl,rfl,rfl,rfl⟩
  have rba:=YX h0 rbc hold m.word.bS x.w.bS
  by_cases he5:m.ax=3 \/ m.ax=5
  ·rw [if_pos he5]
   exact dG rba.b hcl rfl (Y3 (qZ h0)) (by decide) (.inr (.inr (.inr (.inr (.inr (.inr (.inr (.inr (.inr (.inr (.inr (.inl ⟨rfl,k,he5,sn⟩))))))))))))
  ·rw [if_neg he5]
   have SG:m.ax=4:=by omega
   unfold lI
   refine iE (fun _=>?_) fun _=>iH h0 rba.b (by omega) (by omega)
   unfold sV
   show ie n hd (K+1) m.call (if m.ax=1 then _ else if m.ax=4 then _ else _)
   rw [if_neg (by omega),if_pos SG]
   exact dG rba.b hcl rfl (iA h0 nX) (by decide) (.inr (.inr (.inr (.inr (.inr (.inr (.inr (.inr (.inr (.inr (.inr (.inr (.inl ⟨rfl,.inl k,SG,sn⟩)))))))))))))
 ·refine⟨aaS ⟨MX,qI,qH.1,qH.2,.inr (.inr (.inr (.inr (.inr (.inr (.inr (.inr (.inr (.inr (.inl ⟨e,he⟩))))))))))⟩,ie.mono (K:=K) ?_ (by omega)⟩
  rw [mid e (by decide) (by decide) (by decide) (by decide)]
  unfold kE
  rw [em,if_neg (by omega),if_neg (by omega),if_pos e]
  exact GW h0 (.inl k) rb sn
 ·refine⟨aaS ⟨MX,qI,qH.1,qH.2,.inr (.inr (.inr (.inr (.inr (.inr (.inr (.inr (.inr (.inr (.inr (.inl ⟨e,he⟩)))))))))))⟩,ie.mono (K:=K) ?_ (by omega)⟩
  rw [mid e (by decide) (by decide) (by decide) (by decide)]
  unfold kE
  rw [em,if_neg (by omega),if_neg (by omega),if_neg (by omega),if_pos e]
  refine D7 h0 k (r:={dz m with m:={m with clock:=x.w}}) ⟨⟨hb.CI,hb.me,hb.mS,hb.holds,hb.notes,hb.len,hb.word,hb.seen⟩,hcl,rfl,rfl,rfl⟩ (by show 2<=m.ax;omega) (i:=0) (by show m.seen.length=0;rw [sn];rfl) fun _ hk=>?_
  exfalso
  have hk:((0:Nat):Int)>=(if m.ax=2 \/ m.ax=3 then m.cR * 9 else m.cR):=hk
  split at hk<;>omega
 ·refine⟨aaS ⟨MX,qI,qH.1,qH.2,.inr (.inr (.inr (.inr (.inr (.inr (.inr (.inr (.inr (.inr (.inr (.inr (.inl ⟨e,he,i0,by omega⟩))))))))))))⟩,ie.mono (K:=K) ?_ (by omega)⟩
  unfold bV
  rw [if_pos e]
  have ew:IntKind.wrap .i64 (m.index+1)=((m.seen.length+1:Nat):Int):=by rw [ma (by omega)];omega
  rw [ew]
  have Ho:(m.seen++[x.w]).length=m.seen.length+1:=by rw [abl];rfl
  have alU:(m.seen++[x.w]).length<=54:=by rw [Ho];omega
  have rbs:RB n hd K m.call (ko x.w (dz m)):=⟨⟨hb.CI,hb.me,hb.mS,hb.holds,hb.notes,hb.len,hb.word,alU⟩,hcl,rfl,rfl,rfl⟩
  refine D7 h0 k rbs he Ho fun _ _=>?_
  by_cases SG:m.ax=4
  ·rw [if_pos SG]
   refine iE (fun _=>?_) fun _=>?_
   ·exact dG rbs.b hcl rfl (Y3 (qZ h0)) (by decide) (.inr (.inr (.inr (.inr (.inr (.inr (.inr (.inr (.inr (.inr (.inr (.inr (.inr (.inr (.inl ⟨rfl,k,SG⟩)))))))))))))))
   ·exact dG rbs.b hcl rfl (iA h0 nX) (by decide) (.inr (.inr (.inr (.inr (.inr (.inr (.inr (.inr (.inr (.inr (.inr (.inr (.inr (.inr (.inr (.inl ⟨rfl,k,SG⟩))))))))))))))))
  ·rw [if_neg SG]
   exact KI h0 k rbs.b hcl rfl he
 ·refine⟨aaS ⟨MX,qI,qH.1,qH.2,.inr (.inr (.inr (.inr (.inr (.inr (.inr (.inr (.inr (.inr (.inr (.inr (.inr (.inl ⟨e,he⟩)))))))))))))⟩,ie.mono (K:=K) ?_ (by omega)⟩
  rw [mid e (by decide) (by decide) (by decide) (by decide)]
  unfold kE
  rw [em,if_neg (by omega),if_neg (by omega),if_neg (by omega),if_neg (by omega)]
  exact dG hb hcl rfl (iA h0 nX) (by decide) (.inr (.inr (.inr (.inr (.inr (.inr (.inr (.inr (.inr (.inr (.inr (.inr (.inr (.inr (.inr (.inl ⟨rfl,k,he⟩))))))))))))))))
 ·refine⟨aaS ⟨MX,qI,qH.1,qH.2,.inr (.inr (.inr (.inr (.inr (.inr (.inr (.inr (.inr (.inr (.inr (.inr (.inr (.inr (.inl ⟨e,he⟩))))))))))))))⟩,ie.mono (K:=K) ?_ (by omega)⟩
  unfold bV
  rw [if_neg (by omega),if_pos e]
  exact KI h0 k (m:={m with clock:=x.w}) ⟨hb.CI,hb.me,hb.mS,hb.holds,hb.notes,hb.len,hb.word,hb.seen⟩ hcl rfl (by show 2<=m.ax;omega)
 ·have nB:m.aP.getD 0 bj.bR∈m.notes:=by
   have h1:m.aP.getD 0 bj.bR∈m.aP:=mD hd0
   exact List.count_pos_iff.1 (Nat.lt_of_lt_of_le (List.count_pos_iff.2 h1) (XE _))
  obtain⟨x1,x2,x3⟩:=LM nB
  refine⟨aaS ⟨MX,qI,qH.1,qH.2,.inr (.inr (.inr (.inr (.inr (.inr (.inr (.inr (.inr (.inr (.inr (.inr (.inr (.inr (.inr ⟨e,hd0,x1,x2⟩))))))))))))))⟩,ie.mono (K:=K) ?_ (by omega)⟩
  unfold bV
  rw [if_neg (by omega),if_neg (by omega),if_pos e]
  unfold Ez
  have hi:(eY (m.aP.getD 0 bj.bR) m.notes).toNat < m.notes.length:=by omega
  generalize hix:(eY (m.aP.getD 0 bj.bR) m.notes).toNat=ix at hi x3
  have hln:(m.notes.take ix++m.notes.drop (ix+1)).length=m.notes.length - 1:=by
   rw [abl,agV,agW];omega
  refine KV h0 k (r:={m:={m with notes:=m.notes.take ix++m.notes.drop (ix+1),dK:=IntKind.wrap .i64 (m.dK+1),aP:=m.aP.drop 1},ls:=m.seen.length,ld:=m.aP.length - 1,ln:=m.notes.length - 1}) ⟨⟨hb.CI,hb.me,hb.mS,hb.holds,fun y hy=>?_,by rw [hln];have:=hb.len;omega,hb.word,hb.seen⟩,hcl,rfl,hln.symm,by show m.aP.length - 1=(m.aP.drop 1).length;rw [agW]⟩ he hb.seen fun y=>?_
  ·rcases aec.1 hy with hy | hy
   ·exact hb.notes y (List.mem_of_mem_take hy)
   ·exact hb.notes y (List.mem_of_mem_drop hy)
  ·show (m.aP.drop 1).count y<=(m.notes.take ix++m.notes.drop (ix+1)).count y
   have c1:=HY hi y
   have c2:=HY hd0 y
   rw [x3] at c1
   rw [List.take_zero,acM] at c2
   have:=XE y
   show (m.aP.drop (0+1)).count y<=_
   omega
end
end
section
open Go Go.Sx Go.Proofs
theorem qS {n:Int}:zJ n gX:=.inl ⟨rfl,rfl,by decide,by decide⟩
theorem GB {n:Int} {pc0:Int} {a:Ad×Int} {r:(Cl×Bool)×bm} (h:Y5 n pc0 (gZ a).rk r) (hb:r.1.2=true):¬FG r.1.1:=fun hi=>Nat.not_lt_zero _ (h.rk hb hi)
theorem o7 {n:Int} {w:bm} (h:w.WF n) (hb:(!w.found)=false):1<=w.cur.af:=(h.fd (by cases hf:w.found with | true=>rfl | false=>rw [hf] at hb;cases hb)).2
theorem Oa {n:Int} (h0:0<=n) {j:cM} (h:j.WF n) {hd:Bool} {c:Cl} (ha:j.aw c) {x:cr} (hr:vg n hd c x):asr n j.rk (b6 j x):=by
 obtain⟨pc,last,start,key,⟨kd,ky,val,bO⟩,wk,node,v⟩:=j
 obtain⟨_,hs,hp,hl,hn,iS,hw,SH⟩:=h
 dsimp only [cM.aw] at hs hp hl hn iS hw SH ha
 have hx:gD n x.w:=hr.w
 have nx:0<=x.w.af:=hx.1
 have oJ:=Iv h0 (xw h0 hs key) hx
 have al:kd=6->pc=1->x.ok=true->1<=x.w.af:=fun h6 h=>hr.al (ha h6 h)
 unfold b6 Lv
 dsimp only [id]
 cases wk with
 | none =>
   dsimp only
   generalize aY (gZ (start,key)) x=r1 at oJ ⊢
   obtain⟨⟨c1,b1⟩,w1⟩:=r1
   rcases hp with⟨rfl,hp⟩ | ⟨rfl,hp⟩ | ⟨rfl,hp⟩
   ·rcases hp with rfl | rfl | rfl | rfl | rfl | rfl | rfl | rfl | rfl
    all_goals dsimp only
    all_goals (repeat' (refine gE (fun hb=>?_) (fun hb=>?_)<;>first | (exact absurd hb (by decide)) | skip))
    all_goals refine⟨?_,⟨?_,?_,?_,?_,?_,?_,?_,?_⟩,?_,?_⟩
    all_goals dsimp only [cM.rk,cM.aw]
    all_goals first
     | exact .inl rfl
     | exact .inl (hl rfl)
     | exact .inr (ic h0)
     | exact .inr (oJ.on (by assumption))
     | exact lh oJ.wf
     | exact .inr (bD h0 (aL oJ.wf.cur (by decide) (by decide)))
     | exact .inr (bq h0 (aL hn (by decide) (by decide)) (ct oJ.wf.cur))
     | exact fun _ _=>⟨_,rfl,o7 oJ.wf (by assumption)⟩
     | exact .inr (bq h0 (aL (by assumption) (by decide) (by decide)) (gT h0 _))
     | exact .inr (bq h0 (aL (by assumption) (by decide) (by decide)) (ct (aR h0)))
     | exact .inr (lY h0 hn (iS rfl (by decide)))
     | exact .inr (bK qS (aR h0) (eu hn))
     | exact .inr (bD h0 (aL (aR h0) (by decide) (by decide)))
     | exact .inr (bK (aL (aR h0) (by decide) (by decide)) (aR h0) (lD (aR h0)))
     | exact(SH rfl (by decide)).elim fun w0 h=>by cases h.1
     | assumption
     | exact .inl rfl
     | exact .inr (.inl rfl)
     | exact .inr (.inr rfl)
     | decide
     | exact fun h=>absurd h (by decide)
     | exact fun _=>rfl
     | exact fun _ _=>rfl
     | exact fun h _=>absurd h (by decide)
     | exact fun _ h=>absurd h (by decide)
     | exact fun _ _=>iS rfl (by decide)
     | exact fun _ _=>al rfl rfl (by have hq:=‹(!x.ok)=false›;revert hq;cases x.ok<;>decide)
     | exact fun _ _=>SH rfl (by decide)
     | exact vq
     | exact fun h=>absurd h eX
     | exact fun h=>absurd h gQ
     | exact fun h=>absurd h gr
     | exact fun h=>absurd h jn
     | exact fun h=>absurd h kR
     | exact fun h=>absurd h mC
     | exact fun h=>absurd h (ju (hl rfl) (by decide) (by decide))
     | exact fun h=>absurd h (GB oJ (by assumption))
     | exact fun _=>(by simp)
     | skip
   ·rcases hp with rfl | rfl | rfl | rfl | rfl | rfl | rfl | rfl
    all_goals dsimp only
    all_goals (repeat' (refine gE (fun hb=>?_) (fun hb=>?_)<;>first | (exact absurd hb (by decide)) | skip))
    all_goals refine⟨?_,⟨?_,?_,?_,?_,?_,?_,?_,?_⟩,?_,?_⟩
    all_goals dsimp only [cM.rk,cM.aw]
    all_goals first
     | exact .inl rfl
     | exact .inl (hl rfl)
     | exact .inr (ic h0)
     | exact .inr (oJ.on (by assumption))
     | exact lh oJ.wf
     | exact .inr (bD h0 (aL oJ.wf.cur (by decide) (by decide)))
     | exact .inr (bq h0 (aL hn (by decide) (by decide)) (ct oJ.wf.cur))
     | exact fun _ _=>⟨_,rfl,o7 oJ.wf (by assumption)⟩
     | exact .inr (bq h0 (aL (by assumption) (by decide) (by decide)) (gT h0 _))
     | exact .inr (bq h0 (aL (by assumption) (by decide) (by decide)) (ct (aR h0)))
     | exact .inr (lY h0 hn (iS rfl (by decide)))
     | exact .inr (bK qS (aR h0) (eu hn))
     | exact .inr (bD h0 (aL (aR h0) (by decide) (by decide)))
     | exact .inr (bK (aL (aR h0) (by decide) (by decide)) (aR h0) (lD (aR h0)))
     | exact(SH rfl (by decide)).elim fun w0 h=>by cases h.1
     | assumption
     | exact .inl rfl
     | exact .inr (.inl rfl)
     | exact .inr (.inr rfl)
     | decide
     | exact fun h=>absurd h (by decide)
     | exact fun _=>rfl
     | exact fun _ _=>rfl
     | exact fun h _=>absurd h (by decide)
     | exact fun _ h=>absurd h (by decide)
     | exact fun _ _=>iS rfl (by decide)
     | exact fun _ _=>al rfl rfl (by have hq:=‹(!x.ok)=false›;revert hq;cases x.ok<;>decide)
     | exact fun _ _=>SH rfl (by decide)
     | exact vq
     | exact fun h=>absurd h eX
     | exact fun h=>absurd h gQ
     | exact fun h=>absurd h gr
     | exact fun h=>absurd h jn
     | exact fun h=>absurd h kR
     | exact fun h=>absurd h mC
     | exact fun h=>absurd h (ju (hl rfl) (by decide) (by decide))
     | exact fun h=>absurd h (GB oJ (by assumption))
     | exact fun _=>(by simp)
     | skip
   ·rcases hp with rfl | rfl | rfl | rfl
    all_goals dsimp only
    all_goals (repeat' (refine gE (fun hb=>?_) (fun hb=>?_)<;>first | (exact absurd hb (by decide)) | skip))
    all_goals refine⟨?_,⟨?_,?_,?_,?_,?_,?_,?_,?_⟩,?_,?_⟩
    all_goals dsimp only [cM.rk,cM.aw]
    all_goals first
     | exact .inl rfl
     | exact .inl (hl rfl)
     | exact .inr (ic h0)
     | exact .inr (oJ.on (by assumption))
     | exact lh oJ.wf
     | exact .inr (bD h0 (aL oJ.wf.cur (by decide) (by decide)))
     | exact .inr (bq h0 (aL hn (by decide) (by decide)) (ct oJ.wf.cur))
     | exact fun _ _=>⟨_,rfl,o7 oJ.wf (by assumption)⟩
     | exact .inr (bq h0 (aL (by assumption) (by decide) (by decide)) (gT h0 _))
     | exact .inr (bq h0 (aL (by assumption) (by decide) (by decide)) (ct (aR h0)))
     | exact .inr (lY h0 hn (iS rfl (by decide)))
     | exact .inr (bK qS (aR h0) (eu hn))
     | exact .inr (bD h0 (aL (aR h0) (by decide) (by decide)))
     | exact .inr (bK (aL (aR h0) (by decide) (by decide)) (aR h0) (lD (aR h0)))
     | exact(SH rfl (by decide)).elim fun w0 h=>by cases h.1
     | assumption
     | exact .inl rfl
     | exact .inr (.inl rfl)
     | exact .inr (.inr rfl)
     | decide
     | exact fun h=>absurd h (by decide)
     | exact fun _=>rfl
     | exact fun _ _=>rfl
     | exact fun h _=>absurd h (by decide)
     | exact fun _ h=>absurd h (by decide)
     | exact fun _ _=>iS rfl (by decide)
     | exact fun _ _=>al rfl rfl (by have hq:=‹(!x.ok)=false›;revert hq;cases x.ok<;>decide)
     | exact fun _ _=>SH rfl (by decide)
     | exact vq
     | exact fun h=>absurd h eX
     | exact fun h=>absurd h gQ
     | exact fun h=>absurd h gr
     | exact fun h=>absurd h jn
     | exact fun h=>absurd h kR
     | exact fun h=>absurd h mC
     | exact fun h=>absurd h (ju (hl rfl) (by decide) (by decide))
     | exact fun h=>absurd h (GB oJ (by assumption))
     | exact fun _=>(by simp)
     | skip
 | some w =>
   have uN:=hw w rfl
   have xa:=Iv h0 uN hx
   dsimp only
   generalize aY w x=r2 at xa ⊢
   obtain⟨⟨c2,b2⟩,w2⟩:=r2
   generalize aY (gZ (start,key)) x=r1 at oJ ⊢
   obtain⟨⟨c1,b1⟩,w1⟩:=r1
   rcases hp with⟨rfl,hp⟩ | ⟨rfl,hp⟩ | ⟨rfl,hp⟩
   ·rcases hp with rfl | rfl | rfl | rfl | rfl | rfl | rfl | rfl | rfl
    all_goals dsimp only
    all_goals (repeat' (refine gE (fun hb=>?_) (fun hb=>?_)<;>first | (exact absurd hb (by decide)) | skip))
    all_goals refine⟨?_,⟨?_,?_,?_,?_,?_,?_,?_,?_⟩,?_,?_⟩
    all_goals dsimp only [cM.rk,cM.aw]
    all_goals first
     | exact .inl rfl
     | exact .inl (hl rfl)
     | exact .inr (ic h0)
     | exact .inr (xa.on (by assumption))
     | exact lh xa.wf
     | exact .inr (bD h0 (aL xa.wf.cur (by decide) (by decide)))
     | exact .inr (bq h0 (aL hn (by decide) (by decide)) (ct xa.wf.cur))
     | exact fun _ _=>⟨_,rfl,o7 xa.wf (by assumption)⟩
     | exact .inr (oJ.on (by assumption))
     | exact lh oJ.wf
     | exact .inr (bD h0 (aL oJ.wf.cur (by decide) (by decide)))
     | exact .inr (bq h0 (aL hn (by decide) (by decide)) (ct oJ.wf.cur))
     | exact fun _ _=>⟨_,rfl,o7 oJ.wf (by assumption)⟩
     | exact .inr (bq h0 (aL (by assumption) (by decide) (by decide)) (gT h0 _))
     | exact .inr (bq h0 (aL (by assumption) (by decide) (by decide)) (ct (aR h0)))
     | exact .inr (lY h0 hn (iS rfl (by decide)))
     | exact .inr (bK uN.prev uN.cur (eu hn))
     | exact .inr (bK uN.prev uN.cur (eu uN.next))
     | exact .inr (bK (aL uN.cur (by decide) (by decide)) uN.next (lD uN.next))
     | exact .inr (iN h0 uN.cur ((SH rfl (by decide)).elim fun w0 h=>by cases h.1;exact h.2))
     | exact .inr (bD h0 (aL uN.cur (by decide) (by decide)))
     | assumption
     | exact .inl rfl
     | exact .inr (.inl rfl)
     | exact .inr (.inr rfl)
     | decide
     | exact fun h=>absurd h (by decide)
     | exact fun _=>rfl
     | exact fun _ _=>rfl
     | exact fun h _=>absurd h (by decide)
     | exact fun _ h=>absurd h (by decide)
     | exact fun _ _=>iS rfl (by decide)
     | exact fun _ _=>al rfl rfl (by have hq:=‹(!x.ok)=false›;revert hq;cases x.ok<;>decide)
     | exact fun _ _=>SH rfl (by decide)
     | exact vq
     | exact fun h=>absurd h eX
     | exact fun h=>absurd h gQ
     | exact fun h=>absurd h gr
     | exact fun h=>absurd h jn
     | exact fun h=>absurd h kR
     | exact fun h=>absurd h mC
     | exact fun h=>absurd h (ju (hl rfl) (by decide) (by decide))
     | exact fun h=>absurd h (GB oJ (by assumption))
     | exact fun h=>(by have hq:=xa.rk (by assumption) h;simp [wrk];exact hq)
     | exact fun _=>(by simp)
     | skip
   ·rcases hp with rfl | rfl | rfl | rfl | rfl | rfl | rfl | rfl
    all_goals dsimp only
    all_goals (repeat' (refine gE (fun hb=>?_) (fun hb=>?_)<;>first | (exact absurd hb (by decide)) | skip))
    all_goals refine⟨?_,⟨?_,?_,?_,?_,?_,?_,?_,?_⟩,?_,?_⟩
    all_goals dsimp only [cM.rk,cM.aw]
    all_goals first
     | exact .inl rfl
     | exact .inl (hl rfl)
     | exact .inr (ic h0)
     | exact .inr (xa.on (by assumption))
     | exact lh xa.wf
     | exact .inr (bD h0 (aL xa.wf.cur (by decide) (by decide)))
     | exact .inr (bq h0 (aL hn (by decide) (by decide)) (ct xa.wf.cur))
     | exact fun _ _=>⟨_,rfl,o7 xa.wf (by assumption)⟩
     | exact .inr (oJ.on (by assumption))
     | exact lh oJ.wf
     | exact .inr (bD h0 (aL oJ.wf.cur (by decide) (by decide)))
     | exact .inr (bq h0 (aL hn (by decide) (by decide)) (ct oJ.wf.cur))
     | exact fun _ _=>⟨_,rfl,o7 oJ.wf (by assumption)⟩
     | exact .inr (bq h0 (aL (by assumption) (by decide) (by decide)) (gT h0 _))
     | exact .inr (bq h0 (aL (by assumption) (by decide) (by decide)) (ct (aR h0)))
     | exact .inr (lY h0 hn (iS rfl (by decide)))
     | exact .inr (bK uN.prev uN.cur (eu hn))
     | exact .inr (bK uN.prev uN.cur (eu uN.next))
     | exact .inr (bK (aL uN.cur (by decide) (by decide)) uN.next (lD uN.next))
     | exact .inr (iN h0 uN.cur ((SH rfl (by decide)).elim fun w0 h=>by cases h.1;exact h.2))
     | exact .inr (bD h0 (aL uN.cur (by decide) (by decide)))
     | assumption
     | exact .inl rfl
     | exact .inr (.inl rfl)
     | exact .inr (.inr rfl)
     | decide
     | exact fun h=>absurd h (by decide)
     | exact fun _=>rfl
     | exact fun _ _=>rfl
     | exact fun h _=>absurd h (by decide)
     | exact fun _ h=>absurd h (by decide)
     | exact fun _ _=>iS rfl (by decide)
     | exact fun _ _=>al rfl rfl (by have hq:=‹(!x.ok)=false›;revert hq;cases x.ok<;>decide)
     | exact fun _ _=>SH rfl (by decide)
     | exact vq
     | exact fun h=>absurd h eX
     | exact fun h=>absurd h gQ
     | exact fun h=>absurd h gr
     | exact fun h=>absurd h jn
     | exact fun h=>absurd h kR
     | exact fun h=>absurd h mC
     | exact fun h=>absurd h (ju (hl rfl) (by decide) (by decide))
     | exact fun h=>absurd h (GB oJ (by assumption))
     | exact fun h=>(by have hq:=xa.rk (by assumption) h;simp [wrk];exact hq)
     | exact fun _=>(by simp)
     | skip
   ·rcases hp with rfl | rfl | rfl | rfl
    all_goals dsimp only
    all_goals (repeat' (refine gE (fun hb=>?_) (fun hb=>?_)<;>first | (exact absurd hb (by decide)) | skip))
    all_goals refine⟨?_,⟨?_,?_,?_,?_,?_,?_,?_,?_⟩,?_,?_⟩
    all_goals dsimp only [cM.rk,cM.aw]
    all_goals first
     | exact .inl rfl
     | exact .inl (hl rfl)
     | exact .inr (ic h0)
     | exact .inr (xa.on (by assumption))
     | exact lh xa.wf
     | exact .inr (bD h0 (aL xa.wf.cur (by decide) (by decide)))
     | exact .inr (bq h0 (aL hn (by decide) (by decide)) (ct xa.wf.cur))
     | exact fun _ _=>⟨_,rfl,o7 xa.wf (by assumption)⟩
     | exact .inr (oJ.on (by assumption))
     | exact lh oJ.wf
     | exact .inr (bD h0 (aL oJ.wf.cur (by decide) (by decide)))
     | exact .inr (bq h0 (aL hn (by decide) (by decide)) (ct oJ.wf.cur))
     | exact fun _ _=>⟨_,rfl,o7 oJ.wf (by assumption)⟩
     | exact .inr (bq h0 (aL (by assumption) (by decide) (by decide)) (gT h0 _))
     | exact .inr (bq h0 (aL (by assumption) (by decide) (by decide)) (ct (aR h0)))
     | exact .inr (lY h0 hn (iS rfl (by decide)))
     | exact .inr (bK uN.prev uN.cur (eu hn))
     | exact .inr (bK uN.prev uN.cur (eu uN.next))
     | exact .inr (bK (aL uN.cur (by decide) (by decide)) uN.next (lD uN.next))
     | exact .inr (iN h0 uN.cur ((SH rfl (by decide)).elim fun w0 h=>by cases h.1;exact h.2))
     | exact .inr (bD h0 (aL uN.cur (by decide) (by decide)))
     | assumption
     | exact .inl rfl
     | exact .inr (.inl rfl)
     | exact .inr (.inr rfl)
     | decide
     | exact fun h=>absurd h (by decide)
     | exact fun _=>rfl
     | exact fun _ _=>rfl
     | exact fun h _=>absurd h (by decide)
     | exact fun _ h=>absurd h (by decide)
     | exact fun _ _=>iS rfl (by decide)
     | exact fun _ _=>al rfl rfl (by have hq:=‹(!x.ok)=false›;revert hq;cases x.ok<;>decide)
     | exact fun _ _=>SH rfl (by decide)
     | exact vq
     | exact fun h=>absurd h eX
     | exact fun h=>absurd h gQ
     | exact fun h=>absurd h gr
     | exact fun h=>absurd h jn
     | exact fun h=>absurd h kR
     | exact fun h=>absurd h mC
     | exact fun h=>absurd h (ju (hl rfl) (by decide) (by decide))
     | exact fun h=>absurd h (GB oJ (by assumption))
     | exact fun h=>(by have hq:=xa.rk (by assumption) h;simp [wrk];exact hq)
     | exact fun _=>(by simp)
     | skip
