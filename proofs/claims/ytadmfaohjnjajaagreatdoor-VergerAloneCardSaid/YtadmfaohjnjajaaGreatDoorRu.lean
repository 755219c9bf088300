import Derived.Test.YtadmfaohjnjajaaGreatDoorRn
import Derived.Test.YtadmfaohjnjajaaGreatDoorQr
import Derived.Test.YtadmfaohjnjajaaGreatDoorOr
set_option linter.unusedVariables false
set_option linter.unusedSimpArgs false
set_option maxHeartbeats 0
set_option maxRecDepth 100000
namespace Go.Proofs.YtadmfaohjnjajaaGreatDoor
section
open Go Go.Sx Go.Proofs
structure Hh (n:Int) (hd:Bool) (a:pB):Prop where
 v:((a.aj=1 \/ a.aj=2 \/ a.aj=3) /\ Ay n ⟨a.s,a.g,a.f⟩) \/ a.aj=4 \/ (a.aj=5 /\ 1<=a.dy.ae /\ a.dy.ae<=n)
 w:gV n a.new
 h:hd=true->(a.aj=2 \/ a.aj=3)->a.s=0->a.f=0->1<=a.new.ae
theorem Hh.bM {n:Nat} {hd:Bool} {a:pB} (h:Hh n hd a) {p:ah} (hp:p.WF n):p.bM a:=by
 unfold ah.bM;rcases h.v with⟨hk,ha⟩ | hk | ⟨hk,h1,h2⟩
 ·rw [if_pos hk];unfold ah.yz;rcases ha with⟨a1,a2,a3,a4⟩ | ⟨a1,a2,a3,a4⟩
  ·have a1:a.s=0:=a1;rw [if_pos a1,hp.lb];exact⟨a2,a3,a4⟩
  ·have a1:1<=a.s:=a1;rw [if_neg (by omega)];refine⟨⟨a1,?_⟩,a3,a4⟩;rw [hp.ls];exact a2
 ·rw [if_neg (by omega),if_pos hk];trivial
 ·rw [if_neg (by omega),if_neg (by omega),if_pos hk];refine⟨h1,?_⟩;rw [hp.ls];exact h2
structure XOk (n:Int) (hd:Bool) (a:pB) (x:cJ):Prop where
 w:gV n x.w
 al:a.aj=4->x.ok=true->1<=x.w.ae
 ld:a.aj=1->hd=true->a.s=0->a.f=0->1<=x.w.ae
def NOk (n:Int) (x:Nt):Prop:=1<=x.ae /\ x.ae<=n
def ClB (n:Int) (hd:Bool) (c:Cl):Prop:=(ug n c /\ (hd=true->hdW c)) \/ c.aj=1 \/ c.aj=2 \/ c.aj=11
def H9.Ok (n:Int) (s:H9):Prop:=gV n s.h0 /\ gV n s.h1 /\ gV n s.h2 /\ gV n s.h3 /\ gV n s.h4 /\ gV n s.h5 /\ gV n s.h6 /\ gV n s.h7 /\ gV n s.h8
theorem H9.ajp {n:Int} {s:H9} (h:s.Ok n) (i:Int):gV n (s.get i):=by
 obtain⟨a0,a1,a2,a3,a4,a5,a6,a7,a8⟩:=h;unfold H9.get
 repeat' split
 all_goals assumption
theorem H9.JY {n:Int} {s:H9} (h:s.Ok n) (i:Int) {w:W} (hw:gV n w):(s.put i w).Ok n:=by
 obtain⟨a0,a1,a2,a3,a4,a5,a6,a7,a8⟩:=h;unfold H9.put
 repeat' split
 all_goals exact⟨by assumption,by assumption,by assumption,by assumption,by assumption,by assumption,by assumption,by assumption,by assumption⟩
def StR (hd:Bool) (m:ax):Prop :=
 m.step=0 \/ (m.step=1 /\ (m.call.aj=8->m.acc.aj=4) /\ m.call.aj≠6) \/ (m.step=2 /\ m.call.aj≠8 /\ m.call.aj≠6) \/ (m.step=3 /\ m.call.aj=1) \/
 (m.step=4 /\ m.call.aj=2 /\ (m.au=2 \/ m.au=3) /\ 0<=m.index /\ m.index < 9) \/
 (m.step=5 /\ m.call.aj=6 /\ (0<=m.call.i /\ m.call.i < 9) /\ m.acc=⟨1,m.call.dh.s,m.call.dh.g,m.call.dh.f,aq,aq⟩) \/
 (m.step=6 /\ m.call.aj=6 /\ (0<=m.call.i /\ m.call.i < 9) /\ (m.au=3 \/ m.au=5) /\ (hd=true->m.call.dh.s=0->m.call.dh.f=0->1<=m.word.ae)) \/
 (m.step=7 /\ m.call.aj=6 /\ (0<=m.call.i /\ m.call.i < 9)) \/ (m.step=8 /\ m.call.aj=8) \/
 (m.step=9 /\ m.call.aj=10 /\ (m.au=3 \/ m.au=5) /\ m.seen=[]) \/ (m.step=10 /\ m.call.aj=10 /\ (m.au=3 \/ m.au=4 \/ m.au=5) /\ m.seen=[]) \/ (m.step=11 /\ m.call.aj=10 /\ (m.au=3 \/ m.au=5) /\ m.seen=[]) \/
 (m.step=12 /\ (m.call.aj=10 \/ m.call.aj=11) /\ m.au=4 /\ m.seen=[]) \/ (m.step=13 /\ (m.call.aj=10 \/ m.call.aj=11) /\ 2<=m.au /\ 0<=m.index /\ m.index < 54 /\ (m.seen.length:Int)=m.index) \/
 (m.step=14 /\ (m.call.aj=10 \/ m.call.aj=11) /\ m.au=4) \/ (m.step=15 /\ (m.call.aj=10 \/ m.call.aj=11) /\ m.au=4) \/
 (m.step=16 /\ (m.call.aj=10 \/ m.call.aj=11) /\ 2<=m.au /\ 0 < m.aS.length /\ ∀x,m.aS.count x<=m.notes.count x)
structure ax.B (n:Int) (hd:Bool) (K:Nat) (m:ax):Prop where
 Dz:1<=m.au /\ m.au<=5
 me:0<=m.me /\ m.me < 6
 nA:1<=m.dk /\ m.dk<=6
 holds:m.holds.Ok n
 notes:∀x∈m.notes,NOk n x
 len:m.notes.length<=K
 word:gV n m.word
 seen:m.seen.length<=54
structure ax.WF (n:Int) (hd:Bool) (K:Nat) (m:ax):Prop where
 b:m.B n hd K
 call:m.step≠0->ClB n hd m.call
 acc:m.step≠0->Hh n hd m.acc
 st:StR hd m
structure iL (n:Int) (hd:Bool) (K:Nat) (c:Cl) (r:ax):Prop where
 wf:r.WF n hd K
 on:r.step≠0->r.call=c
 off:r.step=0->wh n hd c r.bD
section
variable {n:Int} {hd:Bool} {K:Nat} {c:Cl}
theorem B.mono {m:ax} {K':Nat} (h:m.B n hd K) (hk:K<=K'):m.B n hd K':=⟨h.Dz,h.me,h.nA,h.holds,h.notes,abz h.len hk,h.word,h.seen⟩
theorem wV (h0:0<=n) {r:RT} (h:r.m.B n hd K) {x:cJ} (hx:wh n hd c x):iL n hd K c (dA x r).m :=
 ⟨⟨⟨h.Dz,h.me,h.nA,h.holds,h.notes,h.len,aU h0,acX _⟩,fun e=>absurd rfl e,fun e=>absurd rfl e,.inl rfl⟩,fun e=>absurd rfl e,fun _=>hx⟩
theorem jg (h0:0<=n) {r:RT} (h:r.m.B n hd K) (h8:c.aj≠8) (h6:c.aj≠6):iL n hd K c (kU RT.m r) :=
 wV h0 h ⟨aU h0,fun e=>absurd e h8,fun _ e=>absurd e h6⟩
theorem dN {r:RT} (h:r.m.B n hd K) (hcl:ClB n hd c) (hc:r.m.call=c) {s:Int} {a:pB} (ha:Hh n hd a) (hs:s≠0) (tg:StR hd (fF s a r).m):iL n hd K c (fF s a r).m :=
 ⟨⟨⟨h.Dz,h.me,h.nA,h.holds,h.notes,h.len,h.word,h.seen⟩,fun _=>hc▸hcl,fun _=>ha,tg⟩,fun _=>hc,fun e=>absurd e hs⟩
theorem iU (h0:0<=n) {a:Ad} (ha:Ay n a):Hh n hd ⟨1,a.s,a.g,a.f,aq,aq⟩:=⟨.inl ⟨.inl rfl,ha⟩,aU h0,fun _ h=>absurd h (by show ¬((1:Int)=2 \/ (1:Int)=3);decide)⟩
theorem Oo (h0:0<=n) {f:Int} {w:W} (hf:1<=f) (Bv:f < 85) (hw:gV n w):Hh n hd ⟨2,0,0,f,aq,w⟩:=⟨.inl ⟨.inr (.inl rfl),.inl ⟨rfl,rfl,by show 0<=f;omega,Bv⟩⟩,hw,fun _ _ _ e=>by have e:f=0:=e;omega⟩
theorem aay {o w:W} (hw:gV n w):Hh n hd ⟨3,0,0,24,o,w⟩:=⟨.inl ⟨.inr (.inr rfl),.inl ⟨rfl,rfl,by show (0:Int)<=24;decide,by show (24:Int) < 85;decide⟩⟩,hw,fun _ _ _ e=>absurd (show (24:Int)=0 from e) (by decide)⟩
theorem aax {w:W} (hw:gV n w):Hh n hd ⟨4,0,0,0,aq,w⟩:=⟨.inr (.inl rfl),hw,fun _ h=>absurd (show (4:Int)=2 \/ (4:Int)=3 from h) (by decide)⟩
theorem SQ (h0:0<=n) {w:W} (h1:1<=w.ae) (h2:w.ae<=n):Hh n hd ⟨5,0,0,0,w,aq⟩:=⟨.inr (.inr ⟨rfl,h1,h2⟩),aU h0,fun _ h=>absurd (show (5:Int)=2 \/ (5:Int)=3 from h) (by decide)⟩
theorem ox:Ay n lz:=.inl ⟨rfl,rfl,by show (0:Int)<=24;decide,by show (24:Int) < 85;decide⟩
structure RB (n:Int) (hd:Bool) (K:Nat) (c:Cl) (r:RT):Prop where
 b:r.m.B n hd K
 cl:ClB n hd c
 hc:r.m.call=c
 ln:r.ln=r.m.notes.length
 ld:r.ld=r.m.aS.length
theorem iZ {b:Bool} {t e:ax} (h1:b=true->iL n hd K c t) (h2:b=false->iL n hd K c e):iL n hd K c (cond b t e):=gW (P:=iL n hd K c) h1 h2
theorem zo (h0:0<=n) {r:RT} (h:RB n hd K c r) {s k:Int} {w:W} (hk:0<=k /\ k < 9) (hw:gV n w) (hs:s≠0)
 (tg:StR hd (fF s ⟨2,0,0,25+r.m.me * 9+k,aq,w⟩ {r with m:={r.m with holds:=H9.put r.m.holds k w}}).m):iL n hd K c (uY NN RT.m s k w r):=by
 have hm:=h.b.me;exact dN (r:={r with m:={r.m with holds:=H9.put r.m.holds k w}}) ⟨h.b.Dz,h.b.me,h.b.nA,H9.JY h.b.holds k hw,h.b.notes,h.b.len,h.b.word,h.b.seen⟩ h.cl h.hc (Oo h0 (by omega) (by omega) hw) hs tg
theorem pN (h0:0<=n) {r:RT} (h:RB n hd K c r) {s:Int} {sp:Sp} {w:W} (hw:gV n w) (hs:s≠0) (tg:StR hd (fF s ⟨2,0,0,79+r.m.me,aq,w⟩ {r with m:={r.m with span:=sp}}).m):iL n hd K c (kH NN RT.m s sp w r):=by have hm:=h.b.me;exact dN (r:={r with m:={r.m with span:=sp}}) ⟨h.b.Dz,h.b.me,h.b.nA,h.b.holds,h.b.notes,h.b.len,h.b.word,h.b.seen⟩ h.cl h.hc (Oo h0 (by omega) (by omega) hw) hs tg
theorem Fm (h0:0<=n) (h2:c.aj=2):∀(k:Nat) {r:RT} {i:Int},RB n hd K c r->(r.m.au=2 \/ r.m.au=3)->0<=i->i+k<=9->iL n hd K c (qV cond NN RT.m r k i)
 | 0,r,i,h,_,_,_=>jg h0 h.b (by omega) (by omega)
 | k+1,r,i,h,he,hi,hk=>by
   unfold qV;refine iZ (fun _=>?_) fun _=>Fm h0 h2 k h he (by omega) (by omega)
   exact zo h0 (r:={r with m:={r.m with index:=i}}) ⟨⟨h.b.Dz,h.b.me,h.b.nA,h.b.holds,h.b.notes,h.b.len,h.b.word,h.b.seen⟩,h.cl,h.hc,h.ln,h.ld⟩ ⟨hi,by omega⟩ (aU h0) (by decide)
    (.inr (.inr (.inr (.inr (.inl ⟨rfl,by show r.m.call.aj=2;rw [h.hc];exact h2,he,hi,by show i < 9;omega⟩)))))
theorem Iq (h0:0<=n) (h2:c.aj=2) {r:RT} (h:RB n hd K c r) {i:Nat} (hi:i<=9):iL n hd K c (nM cond NN RT.m i r):=by
 unfold nM;split
 ·refine iZ (fun _=>?_) fun _=>jg h0 h.b (by omega) (by omega);exact pN h0 h (aU h0) (by decide) (.inr (.inr (.inl ⟨rfl,by show r.m.call.aj≠8;rw [h.hc];omega,by show r.m.call.aj≠6;rw [h.hc];omega⟩)))
 ·split
  ·rename_i he;exact Fm h0 h2 _ h he (by omega) (by omega)
  ·exact jg h0 h.b (by omega) (by omega)
theorem Fc (h0:0<=n) (hc:c.aj=10 \/ c.aj=11) {r:RT} (h:RB n hd K c r) (he:2<=r.m.au) {i:Nat} (hs:r.m.seen.length=i) {k:ax} (hk:r.m.seen.length<=54->(i:Int)>=(if r.m.au=2 \/ r.m.au=3 then r.m.dk * 9 else r.m.dk)->iL n hd K c k) :
 iL n hd K c (lI cond NN RT.m (i:Int) r k):=by
 have ht:=h.b.nA;unfold lI;split
 ·rename_i he2;have ew:IntKind.wrap .i64 (r.m.dk * 9)=r.m.dk * 9:=mD (by omega);rw [ew];rw [if_pos he2] at hk;refine iZ (fun hb=>hk h.b.seen (aaF hb)) fun hb=>?_;have hlt:(i:Int) < r.m.dk * 9:=by have:=aaL hb;omega
  have hd1:0<=Int.tdiv (i:Int) 9 /\ Int.tdiv (i:Int) 9 < 6:=by rw [Int.tdiv_eq_ediv_of_nonneg (by omega)];omega
  have hd2:0<=Int.tmod (i:Int) 9 /\ Int.tmod (i:Int) 9 < 9:=by rw [Int.tmod_eq_emod_of_nonneg (by omega)];omega
  have ew2:IntKind.wrap .i64 (Int.tdiv (i:Int) 9)=Int.tdiv (i:Int) 9:=mD (by omega);refine dN (r:={r with m:={r.m with index:=(i:Int)}}) ⟨h.b.Dz,h.b.me,h.b.nA,h.b.holds,h.b.notes,h.b.len,h.b.word,h.b.seen⟩ h.cl h.hc (a:=⟨1,0,0,(RW (IntKind.wrap .i64 (Int.tdiv (i:Int) 9),Int.tmod (i:Int) 9)).f,aq,aq⟩) ?_ (by decide) ?_
  ·rw [ew2];exact iU h0 (a:=⟨0,0,25+Int.tdiv (i:Int) 9 * 9+Int.tmod (i:Int) 9⟩) (.inl ⟨rfl,rfl,by show 0<=25+Int.tdiv (i:Int) 9 * 9+Int.tmod (i:Int) 9;omega,by show 25+Int.tdiv (i:Int) 9 * 9+Int.tmod (i:Int) 9 < 85;omega⟩)
  ·refine .inr (.inr (.inr (.inr (.inr (.inr (.inr (.inr (.inr (.inr (.inr (.inr (.inr (.inl ⟨rfl,?_,he,?_,?_,?_⟩)))))))))))))
   ·show r.m.call.aj=10 \/ r.m.call.aj=11;rw [h.hc];exact hc
   ·show 0<=(i:Int);omega
   ·show (i:Int) < 54;omega
   ·show (r.m.seen.length:Int)=(i:Int);omega
 ·rename_i he2;rw [if_neg he2] at hk;refine iZ (fun hb=>hk h.b.seen (aaF hb)) fun hb=>?_;have hlt:(i:Int) < r.m.dk:=by have:=aaL hb;omega
  refine dN (r:={r with m:={r.m with index:=(i:Int)}}) ⟨h.b.Dz,h.b.me,h.b.nA,h.b.holds,h.b.notes,h.b.len,h.b.word,h.b.seen⟩ h.cl h.hc (a:=⟨1,0,0,79+(i:Int),aq,aq⟩) ?_ (by decide) ?_
  ·exact iU h0 (a:=⟨0,0,79+(i:Int)⟩) (.inl ⟨rfl,rfl,by show 0<=79+(i:Int);omega,by show 79+(i:Int) < 85;omega⟩)
  ·refine .inr (.inr (.inr (.inr (.inr (.inr (.inr (.inr (.inr (.inr (.inr (.inr (.inr (.inl ⟨rfl,?_,he,?_,?_,?_⟩)))))))))))))
   ·show r.m.call.aj=10 \/ r.m.call.aj=11;rw [h.hc];exact hc
   ·show 0<=(i:Int);omega
   ·show (i:Int) < 54;omega
   ·show (r.m.seen.length:Int)=(i:Int);omega
theorem LX (h0:0<=n) (hc:c.aj=10 \/ c.aj=11) {r:RT} (h:RB n hd K c r) (hs:r.m.seen=[]):iL n hd K c (xI cond NN RT.m r):=by
 have ht:=h.b.nA;have he:=h.b.Dz;unfold xI;split
 ·exact jg h0 h.b (by omega) (by omega)
 ·split
  ·rename_i Ut;exact dN h.b h.cl h.hc (iU h0 ox) (by decide) (.inr (.inr (.inr (.inr (.inr (.inr (.inr (.inr (.inr (.inr (.inr (.inr (.inl ⟨rfl,by show r.m.call.aj=10 \/ r.m.call.aj=11;rw [h.hc];exact hc,Ut,hs⟩)))))))))))))
  ·refine Fc h0 hc h (by omega) (i:=0) (by rw [hs];rfl) fun _ hk=>?_;exfalso;split at hk<;>omega
theorem HZ (h0:0<=n) (hc:c.aj=10 \/ c.aj=11) {r:RT} (h:RB n hd K c r) (hs:r.m.seen=[]):iL n hd K c (mb cond NN RT.m r):=by unfold mb;exact iZ (fun _=>LX h0 hc h hs) fun _=>jg h0 h.b (by omega) (by omega)
theorem aas (h0:0<=n) {r:RT} (h:RB n hd K c r) (hk:1<=c.dy.ae /\ c.dy.ae<=n) (b d:Int):RB n hd (K+1) c (Ep b d r):=by
 refine⟨⟨h.b.Dz,h.b.me,h.b.nA,h.b.holds,fun x hx=>?_,?_,h.b.word,h.b.seen⟩,h.cl,h.hc,?_,h.ld⟩
 ·rcases adg.1 hx with hx | hx
  ·exact h.b.notes x hx
  ·simp only [aaO,aaR,or_false] at hx;subst hx;show 1<=r.m.call.dy.ae /\ r.m.call.dy.ae<=n;rw [h.hc];exact hk
 ·show (r.m.notes++[_]).length<=K+1;rw [aaP];have:=h.b.len;simp only [aaQ,ac8];omega
 ·show r.ln+1=(r.m.notes++[_]).length;rw [aaP,h.ln];rfl
theorem RB.mono {r:RT} {K':Nat} (h:RB n hd K c r) (hk:K<=K'):RB n hd K' c r:=⟨B.mono h.b hk,h.cl,h.hc,h.ln,h.ld⟩
theorem iL.mono {r:ax} {K':Nat} (h:iL n hd K c r) (hk:K<=K'):iL n hd K' c r:=⟨⟨B.mono h.wf.b hk,h.wf.call,h.wf.acc,h.wf.st⟩,h.on,h.off⟩
theorem Md (h0:0<=n) (hc:c.aj=10 \/ c.aj=11) {r:RT} (h:RB n hd K c r) (he:2<=r.m.au) (hs:r.m.seen.length<=54) (Zc:∀x,r.m.aS.count x<=r.m.notes.count x):iL n hd K c (sF r):=by
 unfold sF pq;refine iZ (fun _=>jg h0 h.b (by omega) (by omega)) fun hb=>?_;have dE:r.m.aS≠[]:=fun e=>by have h1:=h.ld;rw [e] at h1;have:=RC hb;rw [h1] at this;exact this rfl
 have kM:0 < r.m.aS.length:=List.length_pos_iff.2 dE;have nQ:r.m.aS.getD 0 bx.bK∈r.m.aS:=kz kM;have hx:NOk n (r.m.aS.getD 0 bx.bK):=h.b.notes _ (List.count_pos_iff.1 (Nat.lt_of_lt_of_le (List.count_pos_iff.2 nQ) (Zc _)))
 exact dN h.b h.cl h.hc (SQ h0 (w:=p7 (r.m.aS.getD 0 bx.bK)) hx.1 hx.2) (by decide)
  (.inr (.inr (.inr (.inr (.inr (.inr (.inr (.inr (.inr (.inr (.inr (.inr (.inr (.inr (.inr (.inr ⟨rfl,by show r.m.call.aj=10 \/ r.m.call.aj=11;rw [h.hc];exact hc,he,kM,Zc⟩))))))))))))))))
theorem LU (h0:0<=n) (hc:c.aj=10 \/ c.aj=11) {m:ax} (h:m.B n hd K) (hcl:ClB n hd c) (R8:m.call=c) (he:2<=m.au):iL n hd K c (lF m):=by
 unfold lF;have zQ:∀x,(FV m).count x<=m.notes.count x:=fun x=>by
  unfold FV fr1 fr2 fr3 fr4 ib;split
  ·exact List.Sublist.count_le _ afr
  ·split
   ·exact List.Sublist.count_le _ afr
   ·split;all_goals (exact List.Sublist.count_le _ afr)
 exact Md h0 hc (r:=xJ (FV m) (dI m)) ⟨⟨h.Dz,h.me,h.nA,h.holds,h.notes,h.len,h.word,h.seen⟩,hcl,R8,rfl,rfl⟩ he h.seen zQ
theorem Qo (h:ClB n hd c):yh c /\ (c.aj=3 \/ c.aj=4 \/ c.aj=5 \/ c.aj=6->Ay n c.dh) /\ (c.aj=9 \/ c.aj=10->1<=c.dy.ae /\ c.dy.ae<=n) /\ (c.aj=4 \/ c.aj=5->gV n c.new /\ (hd=true->hdW c)):=by
 unfold yh;rcases h with⟨⟨h1,h2,h3⟩,h4⟩ | h | h | h
 ·rcases h3 with⟨hk,ha⟩ | ⟨hk,ha,hi,hj,hz⟩ | ⟨hk,hp⟩ | hk | ⟨hk,hs⟩
  ·exact⟨by omega,fun _=>ha,fun h=>by omega,fun _=>⟨h2,h4⟩⟩
  ·exact⟨by omega,fun _=>ha,fun h=>by omega,fun h=>by omega⟩
  ·exact⟨.inr (.inr (.inr (.inr (.inr (.inr (.inl ⟨hk,hp⟩)))))),fun h=>by omega,fun h=>by omega,fun h=>by omega⟩
  ·exact⟨by omega,fun h=>by omega,fun h=>by omega,fun h=>by omega⟩
  ·exact⟨by omega,fun h=>by omega,fun _=>⟨hs,h1.2.1⟩,fun h=>by omega⟩
 all_goals (exact⟨by omega,fun h=>by omega,fun h=>by omega,fun h=>by omega⟩)
theorem Gf (h0:0<=n) {m:ax} (h:m.WF n hd K) (hs:m.step=0) (hcl:ClB n hd c) (hK:K<=100000):G5 m c=true /\ iL n hd (K+1) c (bj m c):=by
 obtain⟨Vh,Uv,hold,yw⟩:=Qo hcl;have hb:=h.b;refine⟨aaC ⟨hs,⟨hb.Dz.1,hb.Dz.2,hb.me.1,hb.me.2,abz hb.len hK⟩,Vh⟩,?_⟩;have rb:RB n hd K c (cC c (dI m)):=⟨⟨hb.Dz,hb.me,hb.nA,hb.holds,hb.notes,hb.len,aU h0,acX _⟩,hcl,rfl,rfl,rfl⟩;unfold bj fW;split
 ·rename_i hk;exact HZ h0 (.inl hk.1) (aas h0 rb (hold (.inr hk.1)) 0 0) rfl
 ·split
  ·rename_i hk;exact(LX h0 (.inr hk.1) rb rfl).mono (by omega)
  ·refine iL.mono (K:=K) ?_ (by omega);have he:(cC c (dI m)).m.au=m.au:=rfl;unfold j8;by_cases k1:c.aj=1
   ·rw [if_pos k1];split
    ·exact dN rb.b hcl rfl (iU h0 ox) (by decide) (.inr (.inr (.inr (.inl ⟨rfl,k1⟩))))
    ·exact jg h0 rb.b (by omega) (by omega)
   ·rw [if_neg k1];by_cases k2:c.aj=2
    ·rw [if_pos k2];exact Iq h0 k2 rb (by omega)
    ·rw [if_neg k2];by_cases k3:c.aj=3
     ·rw [if_pos k3];exact dN rb.b hcl rfl (iU h0 (Uv (.inl k3))) (by decide) (.inr (.inl ⟨rfl,fun e=>by have e:c.aj=8:=e;omega,by show c.aj≠6;omega⟩))
     ·rw [if_neg k3];by_cases k4:c.aj=4
      ·rw [if_pos k4];obtain⟨w1,w2⟩:=yw (.inl k4);refine dN rb.b hcl rfl ⟨.inl ⟨.inr (.inl rfl),Uv (.inr (.inl k4))⟩,w1,fun e _ hs hf=>w2 e (.inl k4) hs hf⟩ (by decide) (.inr (.inl ⟨rfl,fun e=>by have e:c.aj=8:=e;omega,by show c.aj≠6;omega⟩))
      ·rw [if_neg k4];by_cases k5:c.aj=5
       ·rw [if_pos k5];obtain⟨w1,w2⟩:=yw (.inr k5);refine dN rb.b hcl rfl ⟨.inl ⟨.inr (.inr rfl),Uv (.inr (.inr (.inl k5)))⟩,w1,fun e _ hs hf=>w2 e (.inr k5) hs hf⟩ (by decide) (.inr (.inl ⟨rfl,fun e=>by have e:c.aj=8:=e;omega,by show c.aj≠6;omega⟩))
       ·rw [if_neg k5];by_cases k6:c.aj=6
        ·rw [if_pos k6];have hi:0<=c.i /\ c.i < 9:=by unfold yh at Vh;unfold vh at Vh;omega
         exact dN rb.b hcl rfl (iU h0 (Uv (.inr (.inr (.inr k6))))) (by decide) (.inr (.inr (.inr (.inr (.inr (.inl ⟨rfl,k6,hi,rfl⟩))))))
        ·rw [if_neg k6];by_cases k7:c.aj=7
         ·rw [if_pos k7];have hi:0<=c.i /\ c.i < 9:=by unfold yh at Vh;unfold vh at Vh;omega
          split
          ·refine iZ (fun _=>?_) fun _=>jg h0 rb.b (by omega) (by omega);exact zo h0 rb hi (H9.ajp rb.b.holds _) (by decide) (.inr (.inr (.inl ⟨rfl,by show c.aj≠8;omega,by show c.aj≠6;omega⟩)))
          ·exact jg h0 rb.b (by omega) (by omega)
         ·rw [if_neg k7];by_cases k8:c.aj=8
          ·rw [if_pos k8];split
           ·exact dN rb.b hcl rfl (iU h0 ox) (by decide) (.inr (.inr (.inr (.inr (.inr (.inr (.inr (.inr (.inl ⟨rfl,k8⟩)))))))))
           ·exact dN rb.b hcl rfl (aax (aU h0)) (by decide) (.inr (.inl ⟨rfl,fun _=>rfl,by show c.aj≠6;omega⟩))
          ·rw [if_neg k8];by_cases k9:c.aj=9
           ·rw [if_pos k9];obtain⟨o1,o2⟩:=hold (.inl k9);exact dN rb.b hcl rfl (SQ h0 o1 o2) (by decide) (.inr (.inr (.inl ⟨rfl,by show c.aj≠8;omega,by show c.aj≠6;omega⟩)))
           ·rw [if_neg k9];by_cases k10:c.aj=10
            ·rw [if_pos k10];split
             ·rename_i Ut;exact dN rb.b hcl rfl (iU h0 ox) (by decide) (.inr (.inr (.inr (.inr (.inr (.inr (.inr (.inr (.inr (.inr (.inl ⟨rfl,k10,.inr (.inl Ut),rfl⟩)))))))))))
             ·split
              ·rename_i he5;obtain⟨o1,o2⟩:=hold (.inr k10);exact dN rb.b hcl rfl (iU h0 (a:=⟨c.dy.ae,c.dy.gen,9⟩) (.inr ⟨o1,o2,by show (0:Int)<=9;decide,by show (9:Int) < 10;decide⟩)) (by decide) (.inr (.inr (.inr (.inr (.inr (.inr (.inr (.inr (.inr (.inl ⟨rfl,k10,he5,rfl⟩))))))))))
              ·exact jg h0 rb.b (by omega) (by omega)
            ·rw [if_neg k10];have k11:c.aj=11:=by unfold yh at Vh;omega
             split
             ·rename_i Ut;exact dN rb.b hcl rfl (iU h0 ox) (by decide) (.inr (.inr (.inr (.inr (.inr (.inr (.inr (.inr (.inr (.inr (.inr (.inr (.inl ⟨rfl,.inr k11,Ut,rfl⟩)))))))))))))
             ·exact jg h0 rb.b (by omega) (by omega)
theorem NT {x y:Nt}:sU x y=true↔x=y:=by obtain⟨a,b,c,d,e,f,g⟩:=x;obtain⟨a',b',c',d',e',f',g'⟩:=y;simp [sU]
theorem Ix {p:Nt->Bool}:∀(l:List Nt) (k:Nat),l.any p=true->k<=jF p k l /\ jF p k l < k+l.length /\ p (l.getD (jF p k l - k) bx.bK)=true
 | [],k,h=>by cases h
 | a::l,k,h=>by
   unfold jF;cases ha:p a with
   | true=>exact⟨ab4 _,by simp,by simpa using ha⟩
   | false =>rw [List.any_cons,ha] at h;obtain⟨h1,h2,h3⟩:=Ix l (k+1) h;refine⟨by show k<=jF p (k+1) l;omega,by show jF p (k+1) l < _;rw [aaQ];omega,?_⟩;show p ((a::l).getD (jF p (k+1) l - k) bx.bK)=true;rw [show jF p (k+1) l - k=(jF p (k+1) l - (k+1))+1 by omega];exact h3
theorem Nh {x:Nt} {l:List Nt} (h:x∈l):0<=fz x l /\ fz x l < (l.length:Int) /\ l.getD (fz x l).toNat bx.bK=x:=by
 have ha:l.any (sU x)=true:=List.any_eq_true.2 ⟨x,h,NT.2 rfl⟩;obtain⟨h1,h2,h3⟩:=Ix l 0 ha;have e:fz x l=(jF (sU x) 0 l:Int):=by unfold fz;rw [ha];rfl
 rw [e];exact⟨by omega,by omega,(NT.1 h3).symm⟩
theorem I8 {l:List Nt} {i:Nat} (hi:i < l.length) (x:Nt):l.count x=(l.take i++l.drop (i+1)).count x+if l.getD i bx.bK=x then 1 else 0:=by
 have e:l=l.take i++(l.getD i bx.bK::l.drop (i+1)):=by rw [ac7,aaN hi];show l=l.take i++(l[i]::l.drop (i+1));rw [<- List.drop_eq_getElem_cons hi,af9]
 generalize l.getD i bx.bK=y at e ⊢;rw [List.count_append];refine(congrArg (List.count x) e).trans ?_;rw [List.count_append,List.count_cons];by_cases h:y=x
 ·rw [if_pos h,if_pos (beq_iff_eq.2 h)];omega
 ·rw [if_neg h,if_neg (by simpa using h)];omega
end
end
section
open Go Go.Sx Go.Proofs
section
variable {n:Int} {hd:Bool} {K:Nat}
theorem u7 (h0:0<=n) {m:ax} (h:m.WF n hd K) {x:cJ} (hx:XOk n hd m.acc x) (hs:(m.step=5 /\ m.acc=⟨1,m.call.dh.s,m.call.dh.g,m.call.dh.f,aq,aq⟩) \/ (m.step=6 /\ (m.au=3 \/ m.au=5) /\ (hd=true->m.call.dh.s=0->m.call.dh.f=0->1<=m.word.ae)) \/ m.step=7) (k6:m.call.aj=6) (hi:0<=m.call.i /\ m.call.i < 9):iL n hd K m.call (gK cond NN RT.m x (dI m)):=by
 have hb:=h.b;have hcl:=h.call (by rcases hs with⟨e,_⟩ | ⟨e,_⟩ | e<;>omega);have Uv:=(Qo hcl).2.1 (.inr (.inr (.inr k6)));have rb:RB n hd K m.call (dI m):=⟨hb,hcl,rfl,rfl,rfl⟩;unfold gK;show iL n hd K m.call (if m.step=7 then _ else if m.step=5 then _ else _);rcases hs with⟨hs,ai5⟩ | ⟨hs,he,hw⟩ | hs
 ·rw [if_neg (by omega),if_pos hs];have hrw:hd=true->m.call.dh.s=0->m.call.dh.f=0->1<=x.w.ae:=fun e a b=>hx.ld (by rw [ai5]) e (by rw [ai5];exact a) (by rw [ai5];exact b);have rbw:RB n hd K m.call {dI m with m:={m with word:=x.w}}:=⟨⟨hb.Dz,hb.me,hb.nA,hb.holds,hb.notes,hb.len,hx.w,hb.seen⟩,hcl,rfl,rfl,rfl⟩;have rp:wh n hd m.call ⟨x.w,true⟩:=⟨hx.w,fun e=>by omega,fun e _ a b=>hrw e a b⟩;show iL n hd K m.call (if m.au=3 \/ m.au=5 then _ else if m.au=2 then _ else _);by_cases he:m.au=3 \/ m.au=5
  ·rw [if_pos he];exact dN rbw.b hcl rfl (iU h0 ox) (by decide) (.inr (.inr (.inr (.inr (.inr (.inr (.inl ⟨rfl,k6,hi,he,hrw⟩)))))))
  ·rw [if_neg he];by_cases he2:m.au=2
   ·rw [if_pos he2];refine iZ (fun _=>?_) fun _=>wV h0 hb rp;exact zo h0 rbw hi (cK hx.w) (by decide) (.inr (.inr (.inr (.inr (.inr (.inr (.inr (.inl ⟨rfl,k6,hi⟩))))))))
   ·rw [if_neg he2];exact wV h0 hb rp
 ·rw [if_neg (by omega),if_neg (by omega)];have rp:wh n hd m.call ⟨m.word,true⟩:=⟨hb.word,fun e=>by omega,fun e _ a b=>hw e a b⟩;show iL n hd K m.call (if m.au=3 then _ else _);have st7:∀(r:ax),r.step=7->r.call=m.call->StR hd r:=fun r h1 h2=>.inr (.inr (.inr (.inr (.inr (.inr (.inr (.inl ⟨h1,by rw [h2];exact k6,by rw [h2];exact hi⟩)))))));by_cases he3:m.au=3
  ·rw [if_pos he3];refine iZ (fun _=>wV h0 hb rp) fun _=>?_;exact zo h0 rb hi (iy h0 _) (by decide) (st7 _ rfl rfl)
  ·rw [if_neg he3];have ws:∀{a b c:Int},gV n ⟨0,0,a,b,true⟩:=⟨adi _,h0,fun _=>rfl⟩;refine iZ (fun _=>wV h0 hb rp) fun _=>iZ (fun _=>?_) fun _=>?_
   ·exact pN h0 rb (ws (c:=0)) (by decide) (st7 _ rfl rfl)
   ·exact pN h0 rb (ws (c:=0)) (by decide) (st7 _ rfl rfl)
 ·rw [if_pos hs];exact dN hb hcl rfl (iU h0 Uv) (by decide) (.inr (.inr (.inr (.inr (.inr (.inl ⟨rfl,k6,hi,rfl⟩))))))
theorem abi (h0:0<=n) {m:ax} (h:m.WF n hd K) (hs:m.step≠0) {x:cJ} (hx:XOk n hd m.acc x) (hK:K<=100000):J5 m=true /\ iL n hd (K+1) m.call (bX m x):=by
 have hb:=h.b;have hcl:=h.call hs;have rb:RB n hd K m.call (dI m):=⟨hb,hcl,rfl,rfl,rfl⟩;have Ox:TY m:=⟨hb.Dz.1,hb.Dz.2,hb.me.1,hb.me.2,abz hb.len hK⟩;have qM:m.seen.length<=1000:=abz hb.seen (by decide);have rJ:=hb.nA;have Cj:∀{s:Int},m.step=s->s < 9->bX m x=jD cond NN RT.m x (dI m):=fun {s} e h=>by unfold bX;rw [if_neg (by omega),if_neg (by omega),if_neg (by omega),if_neg (by omega)]
 have RH:∀{s:Int},m.step=s->9<=s->s≠13->s≠15->s≠16->bX m x=lk cond NN RT.m (fun _=>true) x (dI m):=fun {s} e h h1 h2 h3=>by unfold bX;rw [if_neg (by omega),if_neg (by omega),if_neg (by omega),if_pos (by omega)]
 have em:(dI m).m=m:=rfl;have ahI:∀{s:Int},m.step=s->(s=5 \/ s=6 \/ s=7)->jD cond NN RT.m x (dI m)=gK cond NN RT.m x (dI m):=fun {s} e h=>by unfold jD;rw [em,if_neg (by omega),if_neg (by omega),if_neg (by omega),if_neg (by omega),if_neg (by omega)]
 rcases h.st with e | ⟨e,a1,a2⟩ | ⟨e,a1,a2⟩ | ⟨e,k⟩ | ⟨e,k,he,i0,i1⟩ | ⟨e,k,hi,ha⟩ | ⟨e,k,hi,he,hw⟩ | ⟨e,k,hi⟩ | ⟨e,k⟩ | ⟨e,k,he,sn⟩ | ⟨e,k,he,sn⟩ | ⟨e,k,he,sn⟩ | ⟨e,k,he,sn⟩ | ⟨e,k,he,i0,i1,i2⟩ | ⟨e,k,he⟩ | ⟨e,k,he⟩ | ⟨e,k,he,hd0,Zc⟩
 ·exact absurd e hs
 ·refine⟨aaC ⟨Ox,qM,rJ.1,rJ.2,.inl e⟩,iL.mono (K:=K) ?_ (by omega)⟩;rw [Cj e (by decide)];unfold jD;rw [em,if_pos e];exact wV h0 hb ⟨hx.w,fun e8=>hx.al (a1 e8),fun _ e6=>absurd e6 a2⟩
 ·refine⟨aaC ⟨Ox,qM,rJ.1,rJ.2,.inr (.inl e)⟩,iL.mono (K:=K) ?_ (by omega)⟩;rw [Cj e (by decide)];unfold jD;rw [em,if_neg (by omega),if_pos e];exact jg h0 hb a1 a2
 ·refine⟨aaC ⟨Ox,qM,rJ.1,rJ.2,.inr (.inr (.inl e))⟩,iL.mono (K:=K) ?_ (by omega)⟩;rw [Cj e (by decide)];unfold jD;rw [em,if_neg (by omega),if_neg (by omega),if_pos e];exact pN h0 rb ⟨adi _,h0,fun _=>rfl⟩ (by decide) (.inr (.inr (.inl ⟨rfl,by show m.call.aj≠8;omega,by show m.call.aj≠6;omega⟩)))
 ·refine⟨aaC ⟨Ox,qM,rJ.1,rJ.2,.inr (.inr (.inr (.inl ⟨e,he,i0,i1⟩)))⟩,iL.mono (K:=K) ?_ (by omega)⟩;rw [Cj e (by decide)];unfold jD;rw [em,if_neg (by omega),if_neg (by omega),if_neg (by omega),if_pos e];exact Iq h0 k rb (by omega)
 ·refine⟨aaC ⟨Ox,qM,rJ.1,rJ.2,.inr (.inr (.inr (.inr (.inl ⟨e,hi.1,hi.2⟩))))⟩,iL.mono (K:=K) ?_ (by omega)⟩;rw [Cj e (by decide),ahI e (by decide)];exact u7 h0 h hx (.inl ⟨e,ha⟩) k hi
 ·refine⟨aaC ⟨Ox,qM,rJ.1,rJ.2,.inr (.inr (.inr (.inr (.inr (.inl ⟨e,he,hi.1,hi.2⟩)))))⟩,iL.mono (K:=K) ?_ (by omega)⟩;rw [Cj e (by decide),ahI e (by decide)];exact u7 h0 h hx (.inr (.inl ⟨e,he,hw⟩)) k hi
 ·refine⟨aaC ⟨Ox,qM,rJ.1,rJ.2,.inr (.inr (.inr (.inr (.inr (.inr (.inl e))))))⟩,iL.mono (K:=K) ?_ (by omega)⟩;rw [Cj e (by decide),ahI e (by decide)];exact u7 h0 h hx (.inr (.inr e)) k hi
 ·refine⟨aaC ⟨Ox,qM,rJ.1,rJ.2,.inr (.inr (.inr (.inr (.inr (.inr (.inr (.inl e)))))))⟩,iL.mono (K:=K) ?_ (by omega)⟩;rw [Cj e (by decide)];unfold jD;rw [em,if_neg (by omega),if_neg (by omega),if_neg (by omega),if_neg (by omega),if_pos e];exact dN hb hcl rfl (aax (iy h0 _)) (by decide) (.inr (.inl ⟨rfl,fun _=>rfl,by show m.call.aj≠6;omega⟩))
 ·refine⟨aaC ⟨Ox,qM,rJ.1,rJ.2,.inr (.inr (.inr (.inr (.inr (.inr (.inr (.inr (.inl e))))))))⟩,iL.mono (K:=K) ?_ (by omega)⟩;rw [RH e (by decide) (by decide) (by decide) (by decide)];unfold lk;rw [em,if_pos e]
  exact dN (r:={dI m with m:={m with word:=x.w}}) ⟨hb.Dz,hb.me,hb.nA,hb.holds,hb.notes,hb.len,hx.w,hb.seen⟩ hcl rfl (iU h0 ox) (by decide)
   (.inr (.inr (.inr (.inr (.inr (.inr (.inr (.inr (.inr (.inr (.inl ⟨rfl,k,he.elim .inl fun h=>.inr (.inr h),sn⟩)))))))))))
 ·refine⟨aaC ⟨Ox,qM,rJ.1,rJ.2,.inr (.inr (.inr (.inr (.inr (.inr (.inr (.inr (.inr (.inl ⟨e,he⟩)))))))))⟩,?_⟩;rw [RH e (by decide) (by decide) (by decide) (by decide)];unfold lk;rw [em,if_neg (by omega),if_pos e];have hold:=(Qo hcl).2.2.1 (.inr k);have rbc:RB n hd K m.call {dI m with m:={m with clock:=x.w}}:=⟨⟨hb.Dz,hb.me,hb.nA,hb.holds,hb.notes,hb.len,hb.word,hb.seen⟩,hcl,rfl,rfl,rfl⟩;have rba:=aas h0 rbc hold m.word.bU x.w.bU;by_cases he5:m.au=3 \/ m.au=5
  ·rw [if_pos he5];exact dN rba.b hcl rfl (aay (rX h0)) (by decide) (.inr (.inr (.inr (.inr (.inr (.inr (.inr (.inr (.inr (.inr (.inr (.inl ⟨rfl,k,he5,sn⟩))))))))))))
  ·rw [if_neg he5];have Ut:m.au=4:=by omega
   unfold mb;refine iZ (fun _=>?_) fun _=>jg h0 rba.b (by omega) (by omega);unfold xI;show iL n hd (K+1) m.call (if m.au=1 then _ else if m.au=4 then _ else _);rw [if_neg (by omega),if_pos Ut];exact dN rba.b hcl rfl (iU h0 ox) (by decide) (.inr (.inr (.inr (.inr (.inr (.inr (.inr (.inr (.inr (.inr (.inr (.inr (.inl ⟨rfl,.inl k,Ut,sn⟩)))))))))))))
 ·refine⟨aaC ⟨Ox,qM,rJ.1,rJ.2,.inr (.inr (.inr (.inr (.inr (.inr (.inr (.inr (.inr (.inr (.inl ⟨e,he⟩))))))))))⟩,iL.mono (K:=K) ?_ (by omega)⟩;rw [RH e (by decide) (by decide) (by decide) (by decide)];unfold lk;rw [em,if_neg (by omega),if_neg (by omega),if_pos e];exact HZ h0 (.inl k) rb sn
 ·refine⟨aaC ⟨Ox,qM,rJ.1,rJ.2,.inr (.inr (.inr (.inr (.inr (.inr (.inr (.inr (.inr (.inr (.inr (.inl ⟨e,he⟩)))))))))))⟩,iL.mono (K:=K) ?_ (by omega)⟩;rw [RH e (by decide) (by decide) (by decide) (by decide)];unfold lk;rw [em,if_neg (by omega),if_neg (by omega),if_neg (by omega),if_pos e];refine Fc h0 k (r:={dI m with m:={m with clock:=x.w}}) ⟨⟨hb.Dz,hb.me,hb.nA,hb.holds,hb.notes,hb.len,hb.word,hb.seen⟩,hcl,rfl,rfl,rfl⟩ (by show 2<=m.au;omega) (i:=0) (by show m.seen.length=0;rw [sn];rfl) fun _ hk=>?_;exfalso;have hk:((0:Nat):Int)>=(if m.au=2 \/ m.au=3 then m.dk * 9 else m.dk):=hk;split at hk<;>omega
 ·refine⟨aaC ⟨Ox,qM,rJ.1,rJ.2,.inr (.inr (.inr (.inr (.inr (.inr (.inr (.inr (.inr (.inr (.inr (.inr (.inl ⟨e,he,i0,by omega⟩))))))))))))⟩,iL.mono (K:=K) ?_ (by omega)⟩;unfold bX;rw [if_pos e];have ew:IntKind.wrap .i64 (m.index+1)=((m.seen.length+1:Nat):Int):=by rw [mD (by omega)];omega
  rw [ew];have K8:(m.seen++[x.w]).length=m.seen.length+1:=by rw [aaP];rfl
  have an9:(m.seen++[x.w]).length<=54:=by rw [K8];omega
  have rbs:RB n hd K m.call (kT x.w (dI m)):=⟨⟨hb.Dz,hb.me,hb.nA,hb.holds,hb.notes,hb.len,hb.word,an9⟩,hcl,rfl,rfl,rfl⟩;refine Fc h0 k rbs he K8 fun _ _=>?_;by_cases Ut:m.au=4
  ·rw [if_pos Ut];refine iZ (fun _=>?_) fun _=>?_
   ·exact dN rbs.b hcl rfl (aay (rX h0)) (by decide) (.inr (.inr (.inr (.inr (.inr (.inr (.inr (.inr (.inr (.inr (.inr (.inr (.inr (.inr (.inl ⟨rfl,k,Ut⟩)))))))))))))))
   ·exact dN rbs.b hcl rfl (iU h0 ox) (by decide) (.inr (.inr (.inr (.inr (.inr (.inr (.inr (.inr (.inr (.inr (.inr (.inr (.inr (.inr (.inr (.inl ⟨rfl,k,Ut⟩))))))))))))))))
  ·rw [if_neg Ut];exact LU h0 k rbs.b hcl rfl he
 ·refine⟨aaC ⟨Ox,qM,rJ.1,rJ.2,.inr (.inr (.inr (.inr (.inr (.inr (.inr (.inr (.inr (.inr (.inr (.inr (.inr (.inl ⟨e,he⟩)))))))))))))⟩,iL.mono (K:=K) ?_ (by omega)⟩;rw [RH e (by decide) (by decide) (by decide) (by decide)];unfold lk;rw [em,if_neg (by omega),if_neg (by omega),if_neg (by omega),if_neg (by omega)];exact dN hb hcl rfl (iU h0 ox) (by decide) (.inr (.inr (.inr (.inr (.inr (.inr (.inr (.inr (.inr (.inr (.inr (.inr (.inr (.inr (.inr (.inl ⟨rfl,k,he⟩))))))))))))))))
 ·refine⟨aaC ⟨Ox,qM,rJ.1,rJ.2,.inr (.inr (.inr (.inr (.inr (.inr (.inr (.inr (.inr (.inr (.inr (.inr (.inr (.inr (.inl ⟨e,he⟩))))))))))))))⟩,iL.mono (K:=K) ?_ (by omega)⟩;unfold bX;rw [if_neg (by omega),if_pos e];exact LU h0 k (m:={m with clock:=x.w}) ⟨hb.Dz,hb.me,hb.nA,hb.holds,hb.notes,hb.len,hb.word,hb.seen⟩ hcl rfl (by show 2<=m.au;omega)
 ·have nQ:m.aS.getD 0 bx.bK∈m.notes:=by have h1:m.aS.getD 0 bx.bK∈m.aS:=kz hd0;exact List.count_pos_iff.1 (Nat.lt_of_lt_of_le (List.count_pos_iff.2 h1) (Zc _))
  obtain⟨x1,x2,x3⟩:=Nh nQ;refine⟨aaC ⟨Ox,qM,rJ.1,rJ.2,.inr (.inr (.inr (.inr (.inr (.inr (.inr (.inr (.inr (.inr (.inr (.inr (.inr (.inr (.inr ⟨e,hd0,x1,x2⟩))))))))))))))⟩,iL.mono (K:=K) ?_ (by omega)⟩;unfold bX;rw [if_neg (by omega),if_neg (by omega),if_pos e];unfold FE;have hi:(fz (m.aS.getD 0 bx.bK) m.notes).toNat < m.notes.length:=by omega
  generalize hix:(fz (m.aS.getD 0 bx.bK) m.notes).toNat=ix at hi x3;have hln:(m.notes.take ix++m.notes.drop (ix+1)).length=m.notes.length - 1:=by rw [aaP,aga,agb];omega
  refine Md h0 k (r:={m:={m with notes:=m.notes.take ix++m.notes.drop (ix+1),dS:=IntKind.wrap .i64 (m.dS+1),aS:=m.aS.drop 1},ls:=m.seen.length,ld:=m.aS.length - 1,ln:=m.notes.length - 1}) ⟨⟨hb.Dz,hb.me,hb.nA,hb.holds,fun y hy=>?_,by rw [hln];have:=hb.len;omega,hb.word,hb.seen⟩,hcl,rfl,hln.symm,by show m.aS.length - 1=(m.aS.drop 1).length;rw [agb]⟩ he hb.seen fun y=>?_
  ·rcases adg.1 hy with hy | hy
   ·exact hb.notes y (List.mem_of_mem_take hy)
   ·exact hb.notes y (List.mem_of_mem_drop hy)
  ·show (m.aS.drop 1).count y<=(m.notes.take ix++m.notes.drop (ix+1)).count y;have c1:=I8 hi y;have c2:=I8 hd0 y;rw [x3] at c1;rw [List.take_zero,acB] at c2;have:=Zc y;show (m.aS.drop (0+1)).count y<=_;omega
end
end
section
open Go Go.Sx Go.Proofs
theorem rS {n:Int}:Ay n iC:=.inl ⟨rfl,rfl,by decide,by decide⟩
theorem HG {n:Int} {pc0:Int} {a:Ad×Int} {r:(Cl×Bool)×bs} (h:aaA n pc0 (iD a).rk r) (hb:r.1.2=true):¬GO r.1.1:=fun hi=>Nat.not_lt_zero _ (h.rk hb hi)
theorem pJ {n:Int} {w:bs} (h:w.WF n) (hb:(!w.found)=false):1<=w.cur.ae:=(h.fd (by cases hf:w.found with | true=>rfl | false=>rw [hf] at hb;cases hb)).2
theorem PG {n:Int} (h0:0<=n) {j:cU} (h:j.WF n) {hd:Bool} {c:Cl} (ha:j.aw c) {x:cJ} (hr:wh n hd c x):avf n j.rk (ct j x):=by
 obtain⟨pc,last,start,key,⟨kd,ky,val,bI⟩,wk,node,v⟩:=j;obtain⟨_,hs,hp,hl,hn,jQ,hw,Uu⟩:=h;dsimp only [cU.aw] at hs hp hl hn jQ hw Uu ha;have hx:gV n x.w:=hr.w;have nx:0<=x.w.ae:=hx.1;have pg:=Jx h0 (yi h0 hs key) hx;have al:kd=6->pc=1->x.ok=true->1<=x.w.ae:=fun h6 h=>hr.al (ha h6 h);unfold ct MS;dsimp only [id];cases wk with
 | none =>
   dsimp only;generalize bh (iD (start,key)) x=r1 at pg ⊢;obtain⟨⟨c1,b1⟩,w1⟩:=r1;rcases hp with⟨rfl,hp⟩ | ⟨rfl,hp⟩ | ⟨rfl,hp⟩
   ·rcases hp with rfl | rfl | rfl | rfl | rfl | rfl | rfl | rfl | rfl;all_goals dsimp only
    all_goals (repeat' (refine gW (fun hb=>?_) (fun hb=>?_)<;>first | (exact absurd hb (by decide)) | skip))
    all_goals refine⟨?_,⟨?_,?_,?_,?_,?_,?_,?_,?_⟩,?_,?_⟩
    all_goals dsimp only [cU.rk,cU.aw]
    all_goals first
     | exact .inl rfl
     | exact .inl (hl rfl)
     | exact .inr (iJ h0)
     | exact .inr (pg.on (by assumption))
     | exact lS pg.wf
     | exact .inr (bH h0 (aM pg.wf.cur (by decide) (by decide)))
     | exact .inr (bB h0 (aM hn (by decide) (by decide)) (cK pg.wf.cur))
     | exact fun _ _=>⟨_,rfl,pJ pg.wf (by assumption)⟩
     | exact .inr (bB h0 (aM (by assumption) (by decide) (by decide)) (iy h0 _))
     | exact .inr (bB h0 (aM (by assumption) (by decide) (by decide)) (cK (aU h0)))
     | exact .inr (my h0 hn (jQ rfl (by decide)))
     | exact .inr (bQ rS (aU h0) (eK hn))
     | exact .inr (bH h0 (aM (aU h0) (by decide) (by decide)))
     | exact .inr (bQ (aM (aU h0) (by decide) (by decide)) (aU h0) (l7 (aU h0)))
     | exact(Uu rfl (by decide)).elim fun w0 h=>by cases h.1
     | assumption
     | exact .inl rfl
     | exact .inr (.inl rfl)
     | exact .inr (.inr rfl)
     | decide
     | exact fun h=>absurd h (by decide)
     | exact fun _=>rfl
     | exact fun _ _=>rfl
     | exact fun h _=>absurd h (by decide)
     | exact fun _ h=>absurd h (by decide)
     | exact fun _ _=>jQ rfl (by decide)
     | exact fun _ _=>al rfl rfl (by have hq:=‹(!x.ok)=false›;revert hq;cases x.ok<;>decide)
     | exact fun _ _=>Uu rfl (by decide)
     | exact wz
     | exact fun h=>absurd h fy
     | exact fun h=>absurd h iq
     | exact fun h=>absurd h gO
     | exact fun h=>absurd h jL
     | exact fun h=>absurd h lN
     | exact fun h=>absurd h mV
     | exact fun h=>absurd h (jP (hl rfl) (by decide) (by decide))
     | exact fun h=>absurd h (HG pg (by assumption))
     | exact fun _=>(by simp)
     | skip
   ·rcases hp with rfl | rfl | rfl | rfl | rfl | rfl | rfl | rfl;all_goals dsimp only
    all_goals (repeat' (refine gW (fun hb=>?_) (fun hb=>?_)<;>first | (exact absurd hb (by decide)) | skip))
    all_goals refine⟨?_,⟨?_,?_,?_,?_,?_,?_,?_,?_⟩,?_,?_⟩
    all_goals dsimp only [cU.rk,cU.aw]
    all_goals first
     | exact .inl rfl
     | exact .inl (hl rfl)
     | exact .inr (iJ h0)
     | exact .inr (pg.on (by assumption))
     | exact lS pg.wf
     | exact .inr (bH h0 (aM pg.wf.cur (by decide) (by decide)))
     | exact .inr (bB h0 (aM hn (by decide) (by decide)) (cK pg.wf.cur))
     | exact fun _ _=>⟨_,rfl,pJ pg.wf (by assumption)⟩
     | exact .inr (bB h0 (aM (by assumption) (by decide) (by decide)) (iy h0 _))
     | exact .inr (bB h0 (aM (by assumption) (by decide) (by decide)) (cK (aU h0)))
     | exact .inr (my h0 hn (jQ rfl (by decide)))
     | exact .inr (bQ rS (aU h0) (eK hn))
     | exact .inr (bH h0 (aM (aU h0) (by decide) (by decide)))
     | exact .inr (bQ (aM (aU h0) (by decide) (by decide)) (aU h0) (l7 (aU h0)))
     | exact(Uu rfl (by decide)).elim fun w0 h=>by cases h.1
     | assumption
     | exact .inl rfl
     | exact .inr (.inl rfl)
     | exact .inr (.inr rfl)
     | decide
     | exact fun h=>absurd h (by decide)
     | exact fun _=>rfl
     | exact fun _ _=>rfl
     | exact fun h _=>absurd h (by decide)
     | exact fun _ h=>absurd h (by decide)
     | exact fun _ _=>jQ rfl (by decide)
     | exact fun _ _=>al rfl rfl (by have hq:=‹(!x.ok)=false›;revert hq;cases x.ok<;>decide)
     | exact fun _ _=>Uu rfl (by decide)
     | exact wz
     | exact fun h=>absurd h fy
     | exact fun h=>absurd h iq
     | exact fun h=>absurd h gO
     | exact fun h=>absurd h jL
     | exact fun h=>absurd h lN
     | exact fun h=>absurd h mV
     | exact fun h=>absurd h (jP (hl rfl) (by decide) (by decide))
     | exact fun h=>absurd h (HG pg (by assumption))
     | exact fun _=>(by simp)
     | skip
   ·rcases hp with rfl | rfl | rfl | rfl;all_goals dsimp only
    all_goals (repeat' (refine gW (fun hb=>?_) (fun hb=>?_)<;>first | (exact absurd hb (by decide)) | skip))
    all_goals refine⟨?_,⟨?_,?_,?_,?_,?_,?_,?_,?_⟩,?_,?_⟩
    all_goals dsimp only [cU.rk,cU.aw]
    all_goals first
     | exact .inl rfl
     | exact .inl (hl rfl)
     | exact .inr (iJ h0)
     | exact .inr (pg.on (by assumption))
     | exact lS pg.wf
     | exact .inr (bH h0 (aM pg.wf.cur (by decide) (by decide)))
     | exact .inr (bB h0 (aM hn (by decide) (by decide)) (cK pg.wf.cur))
     | exact fun _ _=>⟨_,rfl,pJ pg.wf (by assumption)⟩
     | exact .inr (bB h0 (aM (by assumption) (by decide) (by decide)) (iy h0 _))
     | exact .inr (bB h0 (aM (by assumption) (by decide) (by decide)) (cK (aU h0)))
     | exact .inr (my h0 hn (jQ rfl (by decide)))
     | exact .inr (bQ rS (aU h0) (eK hn))
     | exact .inr (bH h0 (aM (aU h0) (by decide) (by decide)))
     | exact .inr (bQ (aM (aU h0) (by decide) (by decide)) (aU h0) (l7 (aU h0)))
     | exact(Uu rfl (by decide)).elim fun w0 h=>by cases h.1
     | assumption
     | exact .inl rfl
     | exact .inr (.inl rfl)
     | exact .inr (.inr rfl)
     | decide
     | exact fun h=>absurd h (by decide)
     | exact fun _=>rfl
     | exact fun _ _=>rfl
     | exact fun h _=>absurd h (by decide)
     | exact fun _ h=>absurd h (by decide)
     | exact fun _ _=>jQ rfl (by decide)
     | exact fun _ _=>al rfl rfl (by have hq:=‹(!x.ok)=false›;revert hq;cases x.ok<;>decide)
     | exact fun _ _=>Uu rfl (by decide)
     | exact wz
     | exact fun h=>absurd h fy
     | exact fun h=>absurd h iq
     | exact fun h=>absurd h gO
     | exact fun h=>absurd h jL
     | exact fun h=>absurd h lN
     | exact fun h=>absurd h mV
     | exact fun h=>absurd h (jP (hl rfl) (by decide) (by decide))
     | exact fun h=>absurd h (HG pg (by assumption))
     | exact fun _=>(by simp)
     | skip
 | some w =>
   have vC:=hw w rfl;have xQ:=Jx h0 vC hx;dsimp only;generalize bh w x=r2 at xQ ⊢;obtain⟨⟨c2,b2⟩,w2⟩:=r2;generalize bh (iD (start,key)) x=r1 at pg ⊢;obtain⟨⟨c1,b1⟩,w1⟩:=r1;rcases hp with⟨rfl,hp⟩ | ⟨rfl,hp⟩ | ⟨rfl,hp⟩
   ·rcases hp with rfl | rfl | rfl | rfl | rfl | rfl | rfl | rfl | rfl;all_goals dsimp only
    all_goals (repeat' (refine gW (fun hb=>?_) (fun hb=>?_)<;>first | (exact absurd hb (by decide)) | skip))
    all_goals refine⟨?_,⟨?_,?_,?_,?_,?_,?_,?_,?_⟩,?_,?_⟩
    all_goals dsimp only [cU.rk,cU.aw]
    all_goals first
     | exact .inl rfl
     | exact .inl (hl rfl)
     | exact .inr (iJ h0)
     | exact .inr (xQ.on (by assumption))
     | exact lS xQ.wf
     | exact .inr (bH h0 (aM xQ.wf.cur (by decide) (by decide)))
     | exact .inr (bB h0 (aM hn (by decide) (by decide)) (cK xQ.wf.cur))
     | exact fun _ _=>⟨_,rfl,pJ xQ.wf (by assumption)⟩
     | exact .inr (pg.on (by assumption))
     | exact lS pg.wf
     | exact .inr (bH h0 (aM pg.wf.cur (by decide) (by decide)))
     | exact .inr (bB h0 (aM hn (by decide) (by decide)) (cK pg.wf.cur))
     | exact fun _ _=>⟨_,rfl,pJ pg.wf (by assumption)⟩
     | exact .inr (bB h0 (aM (by assumption) (by decide) (by decide)) (iy h0 _))
     | exact .inr (bB h0 (aM (by assumption) (by decide) (by decide)) (cK (aU h0)))
     | exact .inr (my h0 hn (jQ rfl (by decide)))
     | exact .inr (bQ vC.prev vC.cur (eK hn))
     | exact .inr (bQ vC.prev vC.cur (eK vC.next))
     | exact .inr (bQ (aM vC.cur (by decide) (by decide)) vC.next (l7 vC.next))
     | exact .inr (jo h0 vC.cur ((Uu rfl (by decide)).elim fun w0 h=>by cases h.1;exact h.2))
     | exact .inr (bH h0 (aM vC.cur (by decide) (by decide)))
     | assumption
     | exact .inl rfl
     | exact .inr (.inl rfl)
     | exact .inr (.inr rfl)
     | decide
     | exact fun h=>absurd h (by decide)
     | exact fun _=>rfl
     | exact fun _ _=>rfl
     | exact fun h _=>absurd h (by decide)
     | exact fun _ h=>absurd h (by decide)
     | exact fun _ _=>jQ rfl (by decide)
     | exact fun _ _=>al rfl rfl (by have hq:=‹(!x.ok)=false›;revert hq;cases x.ok<;>decide)
     | exact fun _ _=>Uu rfl (by decide)
     | exact wz
     | exact fun h=>absurd h fy
     | exact fun h=>absurd h iq
     | exact fun h=>absurd h gO
     | exact fun h=>absurd h jL
     | exact fun h=>absurd h lN
     | exact fun h=>absurd h mV
     | exact fun h=>absurd h (jP (hl rfl) (by decide) (by decide))
     | exact fun h=>absurd h (HG pg (by assumption))
     | exact fun h=>(by have hq:=xQ.rk (by assumption) h;simp [wrk];exact hq)
     | exact fun _=>(by simp)
     | skip
   ·rcases hp with rfl | rfl | rfl | rfl | rfl | rfl | rfl | rfl;all_goals dsimp only
    all_goals (repeat' (refine gW (fun hb=>?_) (fun hb=>?_)<;>first | (exact absurd hb (by decide)) | skip))
    all_goals refine⟨?_,⟨?_,?_,?_,?_,?_,?_,?_,?_⟩,?_,?_⟩
    all_goals dsimp only [cU.rk,cU.aw]
    all_goals first
     | exact .inl rfl
     | exact .inl (hl rfl)
     | exact .inr (iJ h0)
     | exact .inr (xQ.on (by assumption))
     | exact lS xQ.wf
     | exact .inr (bH h0 (aM xQ.wf.cur (by decide) (by decide)))
     | exact .inr (bB h0 (aM hn (by decide) (by decide)) (cK xQ.wf.cur))
     | exact fun _ _=>⟨_,rfl,pJ xQ.wf (by assumption)⟩
     | exact .inr (pg.on (by assumption))
     | exact lS pg.wf
     | exact .inr (bH h0 (aM pg.wf.cur (by decide) (by decide)))
     | exact .inr (bB h0 (aM hn (by decide) (by decide)) (cK pg.wf.cur))
     | exact fun _ _=>⟨_,rfl,pJ pg.wf (by assumption)⟩
     | exact .inr (bB h0 (aM (by assumption) (by decide) (by decide)) (iy h0 _))
     | exact .inr (bB h0 (aM (by assumption) (by decide) (by decide)) (cK (aU h0)))
     | exact .inr (my h0 hn (jQ rfl (by decide)))
     | exact .inr (bQ vC.prev vC.cur (eK hn))
     | exact .inr (bQ vC.prev vC.cur (eK vC.next))
     | exact .inr (bQ (aM vC.cur (by decide) (by decide)) vC.next (l7 vC.next))
     | exact .inr (jo h0 vC.cur ((Uu rfl (by decide)).elim fun w0 h=>by cases h.1;exact h.2))
     | exact .inr (bH h0 (aM vC.cur (by decide) (by decide)))
     | assumption
     | exact .inl rfl
     | exact .inr (.inl rfl)
     | exact .inr (.inr rfl)
     | decide
     | exact fun h=>absurd h (by decide)
     | exact fun _=>rfl
     | exact fun _ _=>rfl
     | exact fun h _=>absurd h (by decide)
     | exact fun _ h=>absurd h (by decide)
     | exact fun _ _=>jQ rfl (by decide)
     | exact fun _ _=>al rfl rfl (by have hq:=‹(!x.ok)=false›;revert hq;cases x.ok<;>decide)
     | exact fun _ _=>Uu rfl (by decide)
     | exact wz
     | exact fun h=>absurd h fy
     | exact fun h=>absurd h iq
     | exact fun h=>absurd h gO
     | exact fun h=>absurd h jL
     | exact fun h=>absurd h lN
     | exact fun h=>absurd h mV
     | exact fun h=>absurd h (jP (hl rfl) (by decide) (by decide))
     | exact fun h=>absurd h (HG pg (by assumption))
     | exact fun h=>(by have hq:=xQ.rk (by assumption) h;simp [wrk];exact hq)
     | exact fun _=>(by simp)
     | skip
   ·rcases hp with rfl | rfl | rfl | rfl;all_goals dsimp only
    all_goals (repeat' (refine gW (fun hb=>?_) (fun hb=>?_)<;>first | (exact absurd hb (by decide)) | skip))
    all_goals refine⟨?_,⟨?_,?_,?_,?_,?_,?_,?_,?_⟩,?_,?_⟩
    all_goals dsimp only [cU.rk,cU.aw]
    all_goals first
     | exact .inl rfl
     | exact .inl (hl rfl)
     | exact .inr (iJ h0)
     | exact .inr (xQ.on (by assumption))
     | exact lS xQ.wf
     | exact .inr (bH h0 (aM xQ.wf.cur (by decide) (by decide)))
     | exact .inr (bB h0 (aM hn (by decide) (by decide)) (cK xQ.wf.cur))
     | exact fun _ _=>⟨_,rfl,pJ xQ.wf (by assumption)⟩
     | exact .inr (pg.on (by assumption))
     | exact lS pg.wf
     | exact .inr (bH h0 (aM pg.wf.cur (by decide) (by decide)))
     | exact .inr (bB h0 (aM hn (by decide) (by decide)) (cK pg.wf.cur))
     | exact fun _ _=>⟨_,rfl,pJ pg.wf (by assumption)⟩
     | exact .inr (bB h0 (aM (by assumption) (by decide) (by decide)) (iy h0 _))
     | exact .inr (bB h0 (aM (by assumption) (by decide) (by decide)) (cK (aU h0)))
     | exact .inr (my h0 hn (jQ rfl (by decide)))
     | exact .inr (bQ vC.prev vC.cur (eK hn))
     | exact .inr (bQ vC.prev vC.cur (eK vC.next))
     | exact .inr (bQ (aM vC.cur (by decide) (by decide)) vC.next (l7 vC.next))
     | exact .inr (jo h0 vC.cur ((Uu rfl (by decide)).elim fun w0 h=>by cases h.1;exact h.2))
     | exact .inr (bH h0 (aM vC.cur (by decide) (by decide)))
     | assumption
     | exact .inl rfl
     | exact .inr (.inl rfl)
     | exact .inr (.inr rfl)
     | decide
     | exact fun h=>absurd h (by decide)
     | exact fun _=>rfl
     | exact fun _ _=>rfl
     | exact fun h _=>absurd h (by decide)
     | exact fun _ h=>absurd h (by decide)
     | exact fun _ _=>jQ rfl (by decide)
     | exact fun _ _=>al rfl rfl (by have hq:=‹(!x.ok)=false›;revert hq;cases x.ok<;>decide)
     | exact fun _ _=>Uu rfl (by decide)
     | exact wz
     | exact fun h=>absurd h fy
     | exact fun h=>absurd h iq
     | exact fun h=>absurd h gO
     | exact fun h=>absurd h jL
     | exact fun h=>absurd h lN
     | exact fun h=>absurd h mV
     | exact fun h=>absurd h (jP (hl rfl) (by decide) (by decide))
     | exact fun h=>absurd h (HG pg (by assumption))
     | exact fun h=>(by have hq:=xQ.rk (by assumption) h;simp [wrk];exact hq)
     | exact fun _=>(by simp)
     | skip
