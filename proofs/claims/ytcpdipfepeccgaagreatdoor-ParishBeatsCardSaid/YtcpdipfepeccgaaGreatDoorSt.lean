import Derived.Test.YtcpdipfepeccgaaGreatDoorSb
import Derived.Test.YtcpdipfepeccgaaGreatDoorSxM
import Derived.WideKeyArgs
import Derived.ChangeSame
import Derived.RowKit
import Derived.RowKit3
import Derived.LaidLaws
import Derived.Deep.DeepHandedRow
import Derived.SevenTiedAt
import Derived.JoinedCond
import Derived.OpenShut
import Derived.Deep.Slices
set_option linter.unusedVariables false
set_option linter.unusedSimpArgs false
set_option maxHeartbeats 4000000
namespace Go.Proofs.YtcpdipfepeccgaaGreatDoor
open Go Go.Sx Go.Proofs
set_option maxRecDepth 100000
set_option maxHeartbeats 4000000
variable {σ:Sg}
def yl:SV->SV
 | .v (.c (.il k n))=>.v (.c (.it k n))
 | v=>v
def ym (l:Ev):Ev:=l.map fun x=>(x.1,yl x.2)
def uz:Ev->Ev->Prop
 | [],_=>True
 | (k,v)::r,E=>Sx.look E k=v /\ uz r E
theorem xa:∀{l E:Ev},uz l E->∀k∈l.map Prod.fst,(Sx.look (ym l) k=yl (Sx.look E k) /\ ∃v,(k,v)∈l /\ Sx.look E k=v)
 | (n,v)::l,E,⟨h1,h2⟩,k,hk=>by
   show (match Nat.beq n k with | true=>yl v | false=>Sx.look (ym l) k)=_ /\ _
   cases hb:Nat.beq n k with
   | true =>
     have e:=(af _ _).1 hb;subst e
     exact⟨by rw [h1],v,List.mem_cons_self,h1⟩
   | false =>
     have hne:=(aD _ _).1 hb
     rcases List.mem_cons.1 hk with e | hk
     ·exact absurd e.symm hne
     ·obtain⟨a,w,b,c⟩:=xa h2 k hk
      exact⟨a,w,List.mem_cons_of_mem _ b,c⟩
theorem mD {nt:Nat} {N:Env AV} {s:Sx.St AV} {l:Ev} (h:uz l s.E) (hu:∀x∈l,x.2≠.unk) (hG:N.G<=s.H.length):Enter N nt s {E:=only (l.map Prod.fst) (ym l) nt,H:=s.H}:=by
 have he:=et (N:=N) (nt:=nt) (s:=s) (ks:=l.map Prod.fst) (E':=ym l) (l:=[]) (fun a h=>by cases h) hG fun k hk=>by
  obtain⟨a,v,hv,b⟩:=xa h k hk
  have ne:=hu _ hv
  dsimp only at ne
  rw [a,b]
  unfold yl
  split
  ·exact .inr (.inl ⟨ne,(by intro c hc;simp [V1.cells] at hc;subst hc;rfl),fun ρ=>rfl⟩)
  ·exact .inl rfl
 rwa [show s.H++bq []=s.H from List.append_nil _] at he
theorem rS {N:Env AV}:∀d a,bZ d=some a->∀π,Lesser N (d.ren π) (.abs a):=fun d a h=>by cases h
structure M9 where
 i:Nat
 p:ParM
 t:S6 TD
def k9 (x:RfI) (m:M9):Nat:=(kI x m.i).toNat
noncomputable def nx9 (x:RfI) (m:M9):M9:=⟨m.i+1,(cj m.p (k9 x m) (o5 x m.i)).2,cond (Nat.beq (cj m.p (k9 x m) (o5 x m.i)).1 0) (m.t.put ⟨(m.t.get (k9 x m)).q+1,(m.t.get (k9 x m)).l++[o5 x m.i]⟩ (k9 x m)) m.t⟩
def ok9 (x:RfI) (N:Nat) (m:M9):Prop:=m.i<=x.ops.length /\ x.no=x.ops.length /\ x.ops.length<=40 /\ QuInv N m.i x.n m.t m.p
noncomputable def st9 (x:RfI) (N:Nat) (m:M9):T (Ex×M9):=.need (cH (ok9 x N m)) (.leaf (if m.i < x.ops.length then(.normal,nx9 x m) else(.exit 0,m)))
def fm9 (x:RfI) (m:M9):Sx.St AV:=fb9 x m.i m.p m.t
theorem NW (x:RfI) {i:Int} (h:0<=i):0<=kI x i /\ kI x i < x.n /\ (kI x i).toNat < 6:=by
 have hn:=x.hn
 have h1:0<=kI x i:=Int.tmod_nonneg _ h
 have h2:kI x i < x.n:=Int.tmod_lt_of_pos _ (by omega)
 exact⟨h1,h2,by omega⟩
theorem zH {x:RfI} {N:Nat} {m:M9} (h:ok9 x N m) (hi:m.i < x.ops.length):BX m.p (k9 x m) (o5 x m.i)=true /\ ((cj m.p (k9 x m) (o5 x m.i)).1=0 \/ (cj m.p (k9 x m) (o5 x m.i)).1=ErA+1) /\ ok9 x N (nx9 x m):=by
 obtain⟨h1,h2,h3,h4⟩:=h
 obtain⟨k1,k2,k3⟩:=NW x (i:=(m.i:Int)) (by omega)
 have hk:k9 x m < m.p.threads.length:=by unfold k9;have:=h4.len;omega
 obtain⟨a,b⟩:=h4.qu (by omega) (o5 x m.i) hk
 refine⟨a,?_,by show m.i+1<=_;omega,h2,h3,?_⟩
 ·rcases b with⟨b,_⟩ | ⟨b,_⟩
  ·exact .inl b
  ·exact .inr b
 ·show QuInv N (m.i+1) x.n (cond _ _ _) (cj m.p (k9 x m) (o5 x m.i)).2
  rcases b with⟨b,c⟩ | ⟨b,c⟩
  ·rw [b];exact c
  ·rw [b];exact c
theorem KB {x:RfI} {N:Nat} (m:M9) (r:Ex×M9) (h:(st9 x N m).val=some r):∃s1,Rnd Tryz.prog (NV σ) 220 B9 (fm9 x m) r.1 s1 /\ ∃π,Back (NV σ) 13 220 s1 (fm9 x r.2) π:=by
 obtain⟨hb,h⟩:=ah (h:(T.need _ _).val=_)
 have hok:=cK hb
 obtain⟨h1,h2,h3,h4⟩:=hok
 simp only [T.val,Option.some.injEq] at h
 subst h
 have hn:=x.hn
 obtain⟨k1,k2,k3⟩:=NW x (i:=(m.i:Int)) (by omega)
 have ek:decide (kI x m.i=((k9 x m:Nat):Int))=true:=decide_eq_true (by unfold k9;omega)
 refine xO (N:=NV σ) (N':=NVo (k9 x m) σ) (r:=((if m.i < x.ops.length then(Ex.normal,nx9 x m) else(Ex.exit 0,m)).1,fm9 x (if m.i < x.ops.length then(Ex.normal,nx9 x m) else(Ex.exit 0,m)).2)) rfl rfl Lb (P9 Kw 8) (fun _ _ _ g hg=>by cases hg) rS (by show 8<=13;decide) ((congrArg T.val (b9R σ rfM x m.i m.p m.t k3)).trans ?_)
 unfold tB9
 dsimp only
 by_cases hi:m.i < x.ops.length
 ·rw [if_pos hi]
  obtain⟨g1,g2,_⟩:=zH ⟨h1,h2,h3,h4⟩ hi
  have i1:decide (0<=(m.i:Int) /\ (m.i:Int) < (x.no:Int))=true:=decide_eq_true (by omega)
  have i2:decide (0+(m.i:Int).toNat < x.ops.length)=true:=decide_eq_true (by omega)
  have n0:(x.n != 0)=true:=by simp;omega
  have hhas:j8 m.p.threads.length (kI x m.i)=true:=qv.2 ⟨k1,by have:=h4.len;omega⟩
  have hin:∀t,(inO x m.i t).val=t.val:=fun t=>(nv i1).trans (nv i2)
  refine(ivT (decide_eq_true (by omega))).trans ((nv n0).trans ((hin _).trans ((nv (decide_eq_true h4.wf.th)).trans ((nv hhas).trans ((nv g1).trans ?_)))))
  show (T.ite (Nat.beq (cj m.p (k9 x m) (o5 x m.i)).1 0) _ (.need (!(Nat.beq (cj m.p (k9 x m) (o5 x m.i)).1 (ErF+1))) (.need (Nat.beq (cj m.p (k9 x m) (o5 x m.i)).1 (ErA+1)) _))).val=some (Ex.normal,fb9 x ((m.i+1:Nat):Int) (cj m.p (k9 x m) (o5 x m.i)).2 (cond (Nat.beq (cj m.p (k9 x m) (o5 x m.i)).1 0) _ _))
  have hw:IntKind.wrap .i64 ((m.i:Int)+1)=((m.i+1:Nat):Int):=by rw [mW (by omega)];omega
  rcases g2 with g2 | g2
  ·obtain⟨e1,e2⟩:=h4.tl (k9 x m) k3
   rw [g2]
   have hs:((m.t.get (k9 x m)).q+1) * (SI.bytes Eu+1)<=lim:=xN (show (m.t.get (k9 x m)).q<=100000 by omega) (by decide)
   refine(ivT rfl).trans ((nv n0).trans ((nv n0).trans ((nv ek).trans ((hin _).trans ((nv (decide_eq_true ⟨e1,hs⟩)).trans ((nv ek).trans ?_))))))
   ·show some (Ex.normal,fb9 x (IntKind.wrap .i64 ((m.i:Int)+1)) _ _)=_
    rw [hw];rfl
  ·rw [g2]
   refine(ivF (show Nat.beq (ErA+1) 0=false from rfl)).trans ((nv (show (!(Nat.beq (ErA+1) (ErF+1)))=true from rfl)).trans ((nv (show Nat.beq (ErA+1) (ErA+1)=true from rfl)).trans ?_))
   show some (Ex.normal,fb9 x (IntKind.wrap .i64 ((m.i:Int)+1)) _ _)=_
   rw [hw];rfl
 ·rw [if_neg hi]
  exact ivF (decide_eq_false (by omega))
noncomputable def go9 (x:RfI):Nat->M9->M9
 | 0,m=>m
 | r+1,m=>go9 x r (nx9 x m)
theorem I5 {x:RfI} {N:Nat}:∀{r:Nat} {m:M9},m.i+r=x.ops.length->ok9 x N m->bW (st9 x N) (r+1) m=some (.exit 0,go9 x r m) /\ ok9 x N (go9 x r m) /\ (go9 x r m).i=x.ops.length
 | 0,m,hr,h=>by
   rw [bW,st9,nv (cQ h)]
   simp only [T.val]
   rw [if_neg (by omega)]
   exact⟨rfl,h,by show m.i=_;omega⟩
 | r+1,m,hr,h=>by
   rw [bW,st9,nv (cQ h)]
   simp only [T.val]
   rw [if_pos (by omega)]
   exact I5 (r:=r) (m:=nx9 x m) (by show m.i+1+r=_;omega) (zH h (by omega)).2.2
def t0:S6 TD:=⟨⟨0,[]⟩,⟨0,[]⟩,⟨0,[]⟩,⟨0,[]⟩,⟨0,[]⟩,⟨0,[]⟩⟩
def Se:List Cell:=[.snil,.snil,.snil,.snil,.snil,.snil]
def E9 (x:RfI):Ev:=[(1,.v (.c (.vs 8 0 x.no 4 false))),(2,.v (.c (.vs 9 0 x.nt 1 false))),(7,.v (.c (.ptr 11 0))),(8,.v (.c (.ir .i64 x.n 1 7 x.hn))),(9,.v (.c (.ptr 12 0))),(10,.v (.c (.il .i64 (Int.ofNat 0))))]
def H9e (x:RfI) (p:ParM):Hp AV:=SS x p++[some (.cells Se 47)]
noncomputable def gB9 (x:RfI) (p:ParM) (e:M9) (c:Prop) (s:Sx.St AV):TB:=.need (cH ((uz (E9 x) s.E /\ s.H=H9e x p) /\ c)) (.leaf (.exit 0,fm9 x e))
theorem PU {N':Env AV} (hF:N'.F=(NV σ).F) (hG:N'.G=(NV σ).G) (x:RfI) (p:ParM) (N:Nat):b7 Tryz.prog N' 220 B9 (gB9 x p (go9 x x.ops.length ⟨0,p,t0⟩) (ok9 x N ⟨0,p,t0⟩)):=by
 refine iO (N:=NV σ) hF hG fun s s' ex hgs=>?_
 obtain⟨hb,hgs⟩:=ah (hgs:(T.need _ _).val=_)
 obtain⟨⟨hE,hH⟩,hok⟩:=cK hb
 simp only [T.val,Option.some.injEq,Prod.mk.injEq] at hgs
 obtain⟨rfl,rfl⟩:=hgs
 obtain⟨E1,H1⟩:=s
 dsimp only at hE hH
 subst hH
 refine⟨{M:=M9,fam:=fm9 x,step:=st9 x N,L:=13,len:=rfl,hGL:=(by show 8<=13;decide),run:=KB,m:=⟨0,p,t0⟩,k:=x.ops.length+1,m':=go9 x x.ops.length ⟨0,p,t0⟩,ent:=?_,it:=(I5 (by simp) hok).1,fin:=rfl}⟩
 refine Enter.trans (mD (N:=NV σ) (nt:=220) (s:={E:=E1,H:=H9e x p}) hE (fun x hx=>?_) (by show 8<=13;decide)) ?_
 ·simp only [E9,List.mem_cons,List.not_mem_nil,or_false] at hx
  rcases hx with rfl | rfl | rfl | rfl | rfl | rfl<;>exact fun h=>by cases h
 ·exact uy (N:=NV σ) (n0:=12) (l:=Se) (l':=tdC t0) (news:=tdH t0) rfl (fun a ha=>⟨4,kops.ty,by simp only [tdH,List.mem_cons,List.not_mem_nil,or_false] at ha;rcases ha with rfl | rfl | rfl | rfl | rfl | rfl<;>rfl⟩) (by show 8<=13;decide) (fun ρ hρ=>by
   have h:=fun j=>hρ j
   show [aG (ρ.L (13+0)) 0 0 4,aG (ρ.L (13+1)) 0 0 4,aG (ρ.L (13+2)) 0 0 4,aG (ρ.L (13+3)) 0 0 4,aG (ρ.L (13+4)) 0 0 4,aG (ρ.L (13+5)) 0 0 4]=_
   rw [show ρ.L (13+0)=_ from hρ 0,show ρ.L (13+1)=_ from hρ 1,show ρ.L (13+2)=_ from hρ 2,show ρ.L (13+3)=_ from hρ 3,show ρ.L (13+4)=_ from hρ 4,show ρ.L (13+5)=_ from hρ 5]
   rfl) (fun c hc m hm=>.inr (by
   show 13<=m /\ m < 13+6
   simp only [tdC,List.mem_cons,List.not_mem_nil,or_false] at hc
   rcases hc with rfl | rfl | rfl | rfl | rfl | rfl<;>(simp only [Cell.name,Option.some.injEq] at hm;omega)))
end Go.Proofs.YtcpdipfepeccgaaGreatDoor

namespace Go.Proofs.YtcpdipfepeccgaaGreatDoor
open Go Go.Sx Go.Proofs
set_option maxRecDepth 100000
set_option maxHeartbeats 4000000
variable {σ:Sg}
structure M15 where
 i:Nat
 made:Nat
 p:ParM
def k15 (x:RfI) (m:M15):Nat:=(kP x m.i).toNat
noncomputable def Ib (x:RfI) (m:M15):M15:=⟨m.i+1,cond (Nat.beq (dR m.p (k15 x m)).1.1 0) (m.made+1) m.made,(dR m.p (k15 x m)).2⟩
def yc (x:RfI) (N:Nat) (t:S6 TD) (m:M15):Prop:=m.i<=2000 /\ x.nt=x.ts.length /\ m.made=m.p.beats.length /\ m.made<=m.i /\ ∃u a,BtInv N (34 * m.i) x.n t m.p u a
noncomputable def GU (x:RfI) (N:Nat) (t:S6 TD) (m:M15):T (Ex×M15):=.need (cH (yc x N t m)) (.leaf (if m.i < x.ts.length /\ m.i < 2000 then(.normal,Ib x m) else(.exit 2,m)))
def L7 (x:RfI) (t:S6 TD) (m:M15):Sx.St AV:=Ff x m.i m.made m.p t
theorem NU (x:RfI) (i:Int):0<=kP x i /\ kP x i < x.n:=by
 have hn:=x.hn
 have e:IntKind.wrap .u64 x.n=x.n:=by
  unfold IntKind.wrap
  simp only [IntKind.bits,IntKind.signed,Bool.false_and,Bool.false_eq_true,if_false]
  omega
 have h:0<=IntKind.wrap .u64 (x.ts.getD (0+i.toNat) kints.dflt).val:=(vp _).1
 unfold kP
 rw [e]
 have h1:=Int.tmod_nonneg x.n h
 have h2:=Int.tmod_lt_of_pos (IntKind.wrap .u64 (x.ts.getD (0+i.toNat) kints.dflt).val) (show 0 < x.n by omega)
 rw [mW (by omega)]
 exact⟨h1,h2⟩
theorem wg {x:RfI} {N:Nat} {t:S6 TD} {m:M15} (h:yc x N t m) (hi:m.i < 2000):ES m.p (k15 x m)=true /\ ((dR m.p (k15 x m)).1.1=0 \/ (dR m.p (k15 x m)).1.1=ErS+1) /\ yc x N t (Ib x m):=by
 obtain⟨h1,h2,h3,h4,u,a,h5⟩:=h
 obtain⟨k1,k2⟩:=NU x (m.i:Int)
 have hk:k15 x m < m.p.threads.length:=by unfold k15;have:=h5.len;omega
 obtain⟨b,u',a',c,d⟩:=h5.pk (by omega) hk
 refine⟨b,?_,by show m.i+1<=2000;omega,h2,?_,?_,u',a',by rw [show 34 * (Ib x m).i=34 * m.i+34 by show 34 * (m.i+1)=_;omega];exact c⟩
 ·rcases d with⟨d,_⟩ | ⟨d,_⟩
  ·exact .inl d
  ·exact .inr d
 ·show cond _ _ _=(dR m.p (k15 x m)).2.beats.length
  rcases d with⟨d,e⟩ | ⟨d,e⟩
  ·rw [d,e];show m.made+1=_;omega
  ·rw [d,e];exact h3
 ·show cond _ _ _<=m.i+1
  cases Nat.beq (dR m.p (k15 x m)).1.1 0
  ·show m.made<=_;omega
  ·show m.made+1<=_;omega
theorem GS {x:RfI} {N:Nat} {t:S6 TD} (m:M15) (r:Ex×M15) (h:(GU x N t m).val=some r):((xc (NV σ) (joinCal (lv (NV σ) (Gr σ rfM) 8)) (fun _=>none) 220 B15 (L7 x t m)).bind (bR 19 220 LG bZ)).val=some (r.1,L7 x t r.2):=by
 obtain⟨hb,h⟩:=ah (h:(T.need _ _).val=_)
 have hok:=cK hb
 obtain⟨h1,h2,h3,h4,u,a,h5⟩:=id hok
 simp only [T.val,Option.some.injEq] at h
 subst h
 have hn:=x.hn
 obtain⟨k1,k2⟩:=NU x (m.i:Int)
 refine(congrArg T.val (UB σ rfM x m.i m.made m.p t)).trans ?_
 unfold Q3
 dsimp only
 by_cases hi:m.i < x.ts.length /\ m.i < 2000
 ·rw [if_pos hi]
  obtain⟨g1,g2,_⟩:=wg hok hi.2
  have hw:IntKind.wrap .i64 ((m.i:Int)+1)=((m.i+1:Nat):Int):=by rw [mW (by omega)];omega
  have n0:(IntKind.wrap .u64 x.n != 0)=true:=by
   have e:IntKind.wrap .u64 x.n=x.n:=by
    unfold IntKind.wrap
    simp only [IntKind.bits,IntKind.signed,Bool.false_and,Bool.false_eq_true,if_false]
    omega
   rw [e];simp;omega
  refine(ivT (by rw [decide_eq_true (show (m.i:Int) < (x.nt:Int) by omega)];exact decide_eq_true (by omega))).trans ((nv (decide_eq_true (by omega))).trans ((nv (decide_eq_true (by omega))).trans ((nv n0).trans ((nv (decide_eq_true h5.wf.th)).trans ((nv (qv.2 ⟨k1,by have:=h5.len;omega⟩)).trans ((nv g1).trans ?_))))))
  show (T.ite (Nat.beq (dR m.p (k15 x m)).1.1 0) _ (.need (Nat.beq (dR m.p (k15 x m)).1.1 (ErS+1)) _)).val=some (Ex.normal,Ff x ((m.i+1:Nat):Int) ((cond (Nat.beq (dR m.p (k15 x m)).1.1 0) _ _:Nat):Int) _ t)
  rw [hw]
  rcases g2 with g2 | g2
  ·rw [g2]
   refine(ivT rfl).trans ?_
   rw [mW (by omega)];rfl
  ·rw [g2]
   exact(ivF rfl).trans ((nv rfl).trans rfl)
 ·rw [if_neg hi]
  refine(ivF ?_).trans rfl
  by_cases hl:m.i < x.ts.length
  ·rw [decide_eq_true (show (m.i:Int) < (x.nt:Int) by omega)];exact decide_eq_false (by omega)
  ·rw [decide_eq_false (show ¬(m.i:Int) < (x.nt:Int) by omega)];rfl
noncomputable def Fa (x:RfI):Nat->M15->M15
 | 0,m=>m
 | r+1,m=>Fa x r (Ib x m)
theorem Cg {x:RfI} {N:Nat} {t:S6 TD}:∀{r:Nat} {m:M15},m.i+r=min x.ts.length 2000->yc x N t m->bW (GU x N t) (r+1) m=some (.exit 2,Fa x r m) /\ yc x N t (Fa x r m)
 | 0,m,hr,h=>by
   rw [bW,GU,nv (cQ h)]
   simp only [T.val]
   rw [if_neg (by omega)]
   exact⟨rfl,h⟩
 | r+1,m,hr,h=>by
   rw [bW,GU,nv (cQ h)]
   simp only [T.val]
   rw [if_pos (by omega)]
   exact Cg (r:=r) (m:=Ib x m) (by show m.i+1+r=_;omega) (wg h (by omega)).2.2
def E15 (x:RfI):Ev:=[(2,.v (.c (.vs 9 0 x.nt 1 false))),(7,.v (.c (.ptr 11 0))),(8,.v (.c (.ir .i64 x.n 1 7 x.hn))),(9,.v (.c (.ptr 12 0))),(11,.v (.c (.il .i64 (Int.ofNat 0)))),(12,.v (.c (.il .i64 (Int.ofNat 0))))]
noncomputable def S0 (x:RfI) (p:ParM) (t:S6 TD) (e:M15) (c:Prop) (s:Sx.St AV):TB:=.need (cH ((uz (E15 x) s.E /\ s.H=hpB x p t) /\ c)) (.leaf (.exit 2,L7 x t e))
theorem LX {N':Env AV} (hF:N'.F=(NV σ).F) (hG:N'.G=(NV σ).G) (x:RfI) (p:ParM) (t:S6 TD) (N:Nat):b7 Tryz.prog N' 220 B15 (S0 x p t (Fa x (min x.ts.length 2000) ⟨0,0,p⟩) (yc x N t ⟨0,0,p⟩)):=by
 refine cd (N:=NV σ) hF hG okV (bo (fU okV mQ hvV Gq 8)) (lp:=fun _=>none) (fun _ _ _ g hg=>by cases hg) fun s s' ex hgs=>?_
 obtain⟨hb,hgs⟩:=ah (hgs:(T.need _ _).val=_)
 obtain⟨⟨hE,hH⟩,hok⟩:=cK hb
 simp only [T.val,Option.some.injEq,Prod.mk.injEq] at hgs
 obtain⟨rfl,rfl⟩:=hgs
 obtain⟨E1,H1⟩:=s
 dsimp only at hE hH
 subst hH
 refine⟨{M:=M15,fam:=L7 x t,step:=GU x N t,ks:=LG,pk:=bZ,hpk:=rS,L:=19,len:=rfl,hGL:=(by show 8<=19;decide),run:=GS,m:=⟨0,0,p⟩,k:=min x.ts.length 2000+1,m':=Fa x (min x.ts.length 2000) ⟨0,0,p⟩,ent:=?_,it:=(Cg (by simp) hok).1,fin:=rfl}⟩
 refine mD (N:=NV σ) (nt:=220) (s:={E:=E1,H:=hpB x p t}) hE (fun x hx=>?_) (by show 8<=19;decide)
 simp only [E15,List.mem_cons,List.not_mem_nil,or_false] at hx
 rcases hx with rfl | rfl | rfl | rfl | rfl | rfl<;>exact fun h=>by cases h
structure M26 where
 i:Nat
 u:S6 Bool
 a:S6 Int
def bt (l:List Bt) (i:Nat):Bt:=l.getD i kbeats.dflt
def yd (l:List Bt) (m:M26):M26:=⟨m.i+1,nxU (bt l m.i) m.u,nxA (bt l m.i) m.a⟩
def Ov (t:S6 TD):Prop:=∀k,k < 6->(t.get k).q=(t.get k).l.length /\ (t.get k).l.length<=40
def BZ (x:RfI) (t:S6 TD) (q:Nat) (l:List Bt) (uF:S6 Bool) (aF:S6 Int) (m:M26):Prop:=m.i<=l.length /\ q=l.length /\ l.length<=2000 /\ Ov t /\ Rep x.n t (l.drop m.i) m.u m.a uF aF
noncomputable def GR (x:RfI) (t:S6 TD) (q:Nat) (l:List Bt) (uF:S6 Bool) (aF:S6 Int) (m:M26):T (Ex×M26):=.need (cH (BZ x t q l uF aF m)) (.leaf (if m.i < l.length then(.normal,yd l m) else(.exit 4,m)))
def Ax (x:RfI) (p:ParM) (t:S6 TD) (q:Nat) (l:List Bt) (m:M26):Sx.St AV:=Fe x m.i p t q l m.u m.a
theorem we {x:RfI} {t:S6 TD} {q:Nat} {l:List Bt} {uF:S6 Bool} {aF:S6 Int} {m:M26} (h:BZ x t q l uF aF m) (hi:m.i < l.length):OkBt x.n t (bt l m.i) m.u m.a /\ BZ x t q l uF aF (yd l m):=by
 obtain⟨h1,h2,h3,h4,h5⟩:=h
 rw [cg kbeats.dflt hi] at h5
 exact⟨h5.1,by show m.i+1<=_;omega,h2,h3,h4,h5.2⟩
theorem TC {n:Int} {t:S6 TD} {b:Bt} {u:S6 Bool} {a:S6 Int} (h:OkBt n t b u a):c1B n b (u.get b.thread.toNat)=false:=by
 obtain⟨h1,h2,h3,h4,h5,_⟩:=h
 unfold c1B
 rw [decide_eq_false (show ¬b.thread < 0 by omega),decide_eq_false (show ¬b.thread>=n by omega),h3]
 have hc:caB b=false:=by
  unfold caB
  cases he:b.ends with
  | true=>rfl
  | false=>obtain⟨g1,g2⟩:=h5 he;rw [g1,g2];rfl
 rw [hc]
 cases hu:u.get b.thread.toNat with
 | false=>rfl
 | true =>
   rw [hu] at h3
   have ho:opB b=⟨0,0,0,0⟩:=h4 h3
   simp only [opB,O.mk.injEq] at ho
   obtain⟨o1,o2,o3,o4⟩:=ho
   rw [o1,o2,o3,o4];rfl
theorem oB_eq {t:TD} {a:Int} {b:Bt} (h:t.l.getD a.toNat kops.dflt=opB b):oB t a=opB b:=by unfold oB;rw [Nat.zero_add];exact h
theorem GQ {x:RfI} {p:ParM} {t:S6 TD} {q:Nat} {l:List Bt} {uF:S6 Bool} {aF:S6 Int} (m:M26) (r:Ex×M26) (h:(GR x t q l uF aF m).val=some r):∃s1,Rnd Tryz.prog (NV σ) 220 B26 (Ax x p t q l m) r.1 s1 /\ ∃π,Back (NV σ) 22 220 s1 (Ax x p t q l r.2) π:=by
 obtain⟨hb,h⟩:=ah (h:(T.need _ _).val=_)
 have hok:=cK hb
 obtain⟨h1,h2,h3,h4,h5⟩:=id hok
 simp only [T.val,Option.some.injEq] at h
 subst h
 have hn:=x.hn
 have K:∀{j:Nat},j < 6->(OA x m.i p t q l m.u m.a j).val=some ((if m.i < l.length then(Ex.normal,yd l m) else(Ex.exit 4,m)).1,Ax x p t q l (if m.i < l.length then(Ex.normal,yd l m) else(Ex.exit 4,m)).2) ->
  ∃s1,Rnd Tryz.prog (NV σ) 220 B26 (Ax x p t q l m) (if m.i < l.length then(Ex.normal,yd l m) else(Ex.exit 4,m)).1 s1 /\ ∃π,Back (NV σ) 22 220 s1 (Ax x p t q l (if m.i < l.length then(Ex.normal,yd l m) else(Ex.exit 4,m)).2) π:=fun {j} hj hv =>
  xO (N:=NV σ) (N':=NVo j σ) (r:=((if m.i < l.length then(Ex.normal,yd l m) else(Ex.exit 4,m)).1,Ax x p t q l (if m.i < l.length then(Ex.normal,yd l m) else(Ex.exit 4,m)).2)) rfl rfl Lb (P9 au 8) (fun _ _ _ g hg=>by cases hg) rS (by show 8<=22;decide) ((congrArg T.val (UA σ x m.i p t q l m.u m.a hj)).trans hv)
 by_cases hi:m.i < l.length
 ·obtain⟨ob,_⟩:=we hok hi
  have hj:(bt l m.i).thread.toNat < 6:=by have:=ob.t0;have:=ob.tn;omega
  refine K hj ?_
  rw [if_pos hi]
  have ew:IntKind.wrap .i64 ((m.i:Int)+1)=((m.i+1:Nat):Int):=by rw [mW (by omega)];omega
  have eb:l.getD (0+(m.i:Int).toNat) kbeats.dflt=bt l m.i:=by unfold bt;rw [show 0+(m.i:Int).toNat=m.i by omega]
  unfold OA
  dsimp only
  rw [eb,ew]
  have ht0:=ob.t0
  have he:decide ((bt l m.i).thread=(((bt l m.i).thread.toNat:Nat):Int))=true:=decide_eq_true (by omega)
  have hn1:n1B x.n (bt l m.i) (bt l m.i).thread.toNat=true:=by
   unfold n1B
   rw [decide_eq_false (show ¬(bt l m.i).thread < 0 by omega),decide_eq_false (show ¬(bt l m.i).thread>=x.n by have:=ob.tn;omega)]
   exact he
  refine(ivT (decide_eq_true (by omega))).trans ((nv (decide_eq_true (by omega))).trans ((nv (decide_eq_true (by omega))).trans ((nv hn1).trans ((ivF (TC ob)).trans ?_))))
  show _=some (Ex.normal,Fe x ((m.i+1:Nat):Int) p t q l (nxU (bt l m.i) m.u) (nxA (bt l m.i) m.a))
  unfold nxU nxA
  cases hg:(bt l m.i).begins with
  | false=>exact(ivF rfl).trans (nv he)
  | true =>
    obtain⟨o1,o2,o3⟩:=ob.op hg
    obtain⟨g1,g2⟩:=h4 _ hj
    have hge:decide (m.a.get (bt l m.i).thread.toNat>=((t.get (bt l m.i).thread.toNat).q:Int))=false:=decide_eq_false (by omega)
    have hn2:n2B (bt l m.i) (bt l m.i).thread.toNat (t.get (bt l m.i).thread.toNat) (m.a.get (bt l m.i).thread.toNat)=true:=by
     unfold n2B
     dsimp only
     rw [he,hge,decide_eq_true (show 0<=m.a.get (bt l m.i).thread.toNat /\ m.a.get (bt l m.i).thread.toNat < ((t.get (bt l m.i).thread.toNat).q:Int) from⟨o1,by omega⟩)]
     exact decide_eq_true (by omega)
    have hc2:c2B (bt l m.i) (t.get (bt l m.i).thread.toNat) (m.a.get (bt l m.i).thread.toNat)=false:=by
     unfold c2B
     rw [hge,oB_eq o3]
     simp [opB]
    refine(ivT rfl).trans ((nv hn2).trans ((ivF hc2).trans ((nv he).trans ((nv he).trans ((nv he).trans ?_)))))
    rw [mW (by omega)];rfl
 ·refine K (j:=0) (by decide) ?_
  rw [if_neg hi]
  exact ivF (decide_eq_false (by omega))
theorem I7 {x:RfI} {t:S6 TD} {q:Nat} {l:List Bt} {uF:S6 Bool} {aF:S6 Int}:∀{r:Nat} {m:M26},m.i+r=l.length->BZ x t q l uF aF m->bW (GR x t q l uF aF) (r+1) m=some (.exit 4,⟨l.length,uF,aF⟩)
 | 0,m,hr,h=>by
   rw [bW,GR,nv (cQ h)]
   simp only [T.val]
   rw [if_neg (by omega)]
   obtain⟨h1,h2,h3,h4,h5⟩:=h
   rw [List.drop_eq_nil_of_le (by omega)] at h5
   obtain⟨e1,e2⟩:=h5
   obtain⟨i,u,a⟩:=m
   dsimp only at e1 e2 hr
   subst e1 e2
   rw [show i=l.length by omega]
 | r+1,m,hr,h=>by
   rw [bW,GR,nv (cQ h)]
   simp only [T.val]
   rw [if_pos (by omega)]
   exact I7 (r:=r) (m:=yd l m) (by show m.i+1+r=_;omega) (we h (by omega)).2
def E26 (x:RfI) (q:Nat):Ev:=[(7,.v (.c (.ptr 11 0))),(8,.v (.c (.ir .i64 x.n 1 7 x.hn))),(9,.v (.c (.ptr 12 0))),(15,.v (.c (.vs 19 0 q 10 false))),(16,.v (.c (.ptr 20 0))),(17,.v (.c (.ptr 21 0))),(18,.v (.c (.il .i64 (Int.ofNat 0))))]
def un6:List Cell:=[.bl false,.bl false,.bl false,.bl false,.bl false,.bl false]
def at6:List Cell:=[.il .i64 (Int.ofNat 0),.il .i64 (Int.ofNat 0),.il .i64 (Int.ofNat 0),.il .i64 (Int.ofNat 0),.il .i64 (Int.ofNat 0),.il .i64 (Int.ofNat 0)]
def H26 (x:RfI) (p:ParM) (t:S6 TD) (l:List Bt):Hp AV:=hpB x p t++[some (.abs (.beats l)),some (.cells un6 48),some (.cells at6 49)]
noncomputable def SZ (x:RfI) (p:ParM) (t:S6 TD) (q:Nat) (l:List Bt) (uF:S6 Bool) (aF:S6 Int) (c:Prop) (s:Sx.St AV):TB:=.need (cH ((uz (E26 x q) s.E /\ s.H=H26 x p t l) /\ c)) (.leaf (.exit 4,Ax x p t q l ⟨l.length,uF,aF⟩))
theorem LW {N':Env AV} (hF:N'.F=(NV σ).F) (hG:N'.G=(NV σ).G) (x:RfI) (p:ParM) (t:S6 TD) (q:Nat) (l:List Bt) (uF:S6 Bool) (aF:S6 Int):b7 Tryz.prog N' 220 B26 (SZ x p t q l uF aF (BZ x t q l uF aF ⟨0,u0,a0⟩)):=by
 refine iO (N:=NV σ) hF hG fun s s' ex hgs=>?_
 obtain⟨hb,hgs⟩:=ah (hgs:(T.need _ _).val=_)
 obtain⟨⟨hE,hH⟩,hok⟩:=cK hb
 simp only [T.val,Option.some.injEq,Prod.mk.injEq] at hgs
 obtain⟨rfl,rfl⟩:=hgs
 obtain⟨E1,H1⟩:=s
 dsimp only at hE hH
 subst hH
 refine⟨{M:=M26,fam:=Ax x p t q l,step:=GR x t q l uF aF,L:=22,len:=rfl,hGL:=(by show 8<=22;decide),run:=GQ,m:=⟨0,u0,a0⟩,k:=l.length+1,m':=⟨l.length,uF,aF⟩,ent:=?_,it:=I7 (by simp) hok,fin:=rfl}⟩
 refine Enter.trans (mD (N:=NV σ) (nt:=220) (s:={E:=E1,H:=H26 x p t l}) hE (fun x hx=>?_) (by show 8<=22;decide)) (Enter.trans (rf (N:=NV σ) (n:=20) (l:=un6) (l':=unC u0) rfl (by show 8<=22;decide) (fun ρ=>rfl) fun c hc m hm=>?_)
  (rf (N:=NV σ) (n:=21) (l:=at6) (l':=atC a0) rfl (by show 8<=22;decide) (fun ρ=>rfl) fun c hc m hm=>?_))
 ·simp only [E26,List.mem_cons,List.not_mem_nil,or_false] at hx
  rcases hx with rfl | rfl | rfl | rfl | rfl | rfl | rfl<;>exact fun h=>by cases h
 ·simp only [unC,List.mem_cons,List.not_mem_nil,or_false] at hc
  rcases hc with rfl | rfl | rfl | rfl | rfl | rfl<;>cases hm
 ·simp only [atC,List.mem_cons,List.not_mem_nil,or_false] at hc
  rcases hc with rfl | rfl | rfl | rfl | rfl | rfl<;>cases hm
def H5 (x:RfI) (p:ParM) (t:S6 TD) (u:S6 Bool) (a:S6 Int) (i:Nat):Prop:=(i:Int)<=x.n /\ Ov t /\ ∃N K,BtInv N K x.n t p u a
noncomputable def GP (x:RfI) (p:ParM) (t:S6 TD) (u:S6 Bool) (a:S6 Int) (i:Nat):T (Ex×Nat):=.need (cH (H5 x p t u a i)) (.leaf (if (i:Int) < x.n then(.normal,i+1) else(.exit 6,i)))
def Aw (x:RfI) (p:ParM) (t:S6 TD) (l:List Bt) (u:S6 Bool) (a:S6 Int) (i:Nat):Sx.St AV:=Jf x i p t l u a
theorem GO {x:RfI} {p:ParM} {t:S6 TD} {l:List Bt} {u:S6 Bool} {a:S6 Int} (i:Nat) (r:Ex×Nat) (h:(GP x p t u a i).val=some r):∃s1,Rnd Tryz.prog (NV σ) 220 B37 (Aw x p t l u a i) r.1 s1 /\ ∃π,Back (NV σ) 22 220 s1 (Aw x p t l u a r.2) π:=by
 obtain⟨hb,h⟩:=ah (h:(T.need _ _).val=_)
 obtain⟨h1,h2,N,K,h3⟩:=cK hb
 simp only [T.val,Option.some.injEq] at h
 subst h
 have hn:=x.hn
 have go:∀{j:Nat} {r:Ex×Nat},j < 6->(Oz uo x i p t l u a j).val=some (r.1,Aw x p t l u a r.2)->∃s1,Rnd Tryz.prog (NV σ) 220 B37 (Aw x p t l u a i) r.1 s1 /\ ∃π,Back (NV σ) 22 220 s1 (Aw x p t l u a r.2) π:=fun {j r} hj hv =>
  xO (N:=NV σ) (N':=NVo j σ) (r:=(r.1,Aw x p t l u a r.2)) rfl rfl Lb (P9 Gp 8) (fun _ _ _ g hg=>by cases hg) rS (by show 8<=22;decide) ((congrArg T.val (Uz σ uo x i p t l u a hj)).trans hv)
 by_cases hi:(i:Int) < x.n
 ·have hj:i < 6:=by omega
  refine go hj ?_
  rw [if_pos hi]
  have e:=h3.idl (k:=i) (by have:=h3.len;omega)
  obtain⟨g1,g2⟩:=h2 i hj
  unfold Oz
  dsimp only
  rw [mW (by omega),e]
  refine(ivT (decide_eq_true hi)).trans ((nv (decide_eq_true h3.wf.th)).trans ((nv (decide_eq_true rfl)).trans ?_))
  cases u.get i with
  | true=>exact(ivF rfl).trans (ivF rfl)
  | false =>
    refine(ivT rfl).trans ((nv (decide_eq_true rfl)).trans ((nv (decide_eq_true rfl)).trans (ivF ?_)))
    rw [g1]
    by_cases ea:a.get i=((t.get i).l.length:Int)
    ·rw [decide_eq_true ea,ea];simp
    ·rw [decide_eq_false ea];simp [ea]
 ·refine go (j:=0) (by decide) ?_
  rw [if_neg hi]
  exact ivF (decide_eq_false hi)
theorem I6 {x:RfI} {p:ParM} {t:S6 TD} {u:S6 Bool} {a:S6 Int}:∀{r i:Nat},i+r=x.n.toNat->H5 x p t u a i->bW (GP x p t u a) (r+1) i=some (.exit 6,x.n.toNat)
 | 0,i,hr,h=>by
   have hn:=x.hn
   rw [bW,GP,nv (cQ h)]
   simp only [T.val]
   rw [if_neg (by omega),show i=x.n.toNat by omega]
 | r+1,i,hr,h=>by
   have hn:=x.hn
   rw [bW,GP,nv (cQ h)]
   simp only [T.val]
   rw [if_pos (by omega)]
   exact I6 (r:=r) (i:=i+1) (by omega) ⟨by omega,h.2⟩
def E37 (x:RfI):Ev:=[(7,.v (.c (.ptr 11 0))),(8,.v (.c (.ir .i64 x.n 1 7 x.hn))),(9,.v (.c (.ptr 12 0))),(16,.v (.c (.ptr 20 0))),(17,.v (.c (.ptr 21 0))),(20,.v (.c (.il .i64 (Int.ofNat 0))))]
noncomputable def SY (x:RfI) (p:ParM) (t:S6 TD) (l:List Bt) (u:S6 Bool) (a:S6 Int) (c:Prop) (s:Sx.St AV):TB:=.need (cH ((uz (E37 x) s.E /\ s.H=hpU x p t l u a) /\ c)) (.leaf (.exit 6,Aw x p t l u a x.n.toNat))
theorem LV {N':Env AV} (hF:N'.F=(NV σ).F) (hG:N'.G=(NV σ).G) (x:RfI) (p:ParM) (t:S6 TD) (l:List Bt) (u:S6 Bool) (a:S6 Int):b7 Tryz.prog N' 220 B37 (SY x p t l u a (H5 x p t u a 0)):=by
 refine iO (N:=NV σ) hF hG fun s s' ex hgs=>?_
 obtain⟨hb,hgs⟩:=ah (hgs:(T.need _ _).val=_)
 obtain⟨⟨hE,hH⟩,hok⟩:=cK hb
 simp only [T.val,Option.some.injEq,Prod.mk.injEq] at hgs
 obtain⟨rfl,rfl⟩:=hgs
 obtain⟨E1,H1⟩:=s
 dsimp only at hE hH
 subst hH
 refine⟨{M:=Nat,fam:=Aw x p t l u a,step:=GP x p t u a,L:=22,len:=rfl,hGL:=(by show 8<=22;decide),run:=GO,m:=0,k:=x.n.toNat+1,m':=x.n.toNat,ent:=?_,it:=I6 (by simp) hok,fin:=rfl}⟩
 refine mD (N:=NV σ) (nt:=220) (s:={E:=E1,H:=hpU x p t l u a}) hE (fun x hx=>?_) (by show 8<=22;decide)
 simp only [E37,List.mem_cons,List.not_mem_nil,or_false] at hx
 rcases hx with rfl | rfl | rfl | rfl | rfl | rfl<;>exact fun h=>by cases h
end Go.Proofs.YtcpdipfepeccgaaGreatDoor

namespace Go.Proofs.YtcpdipfepeccgaaGreatDoor
open Go Go.Sx Go.Proofs
set_option maxRecDepth 100000
set_option maxHeartbeats 0
variable {σ:Sg}
structure RfI.Ok (x:RfI):Prop where
 no:x.no=x.ops.length
 nt:x.nt=x.ts.length
 small:x.ops.length<=20
end Go.Proofs.YtcpdipfepeccgaaGreatDoor

namespace Go.Proofs.YtcpdipfepeccgaaGreatDoor
open Go Go.Sx Go.Proofs
set_option maxRecDepth 100000
set_option maxHeartbeats 0
variable {σ:Sg}
theorem JI (lay:Cfg):1<=(dU lay).n /\ (dU lay).n < 7:=by
 have h:0<=IntKind.wrap .u64 lay.n:=by
  unfold IntKind.wrap
  simp only [IntKind.bits,IntKind.signed,Bool.false_and,Bool.false_eq_true,if_false]
  exact Int.emod_nonneg _ (by decide)
 have h1:0<=Int.tmod (IntKind.wrap .u64 lay.n) 6:=Int.tmod_nonneg _ h
 have h2:Int.tmod (IntKind.wrap .u64 lay.n) 6 < 6:=Int.tmod_lt_of_pos _ (by decide)
 show 1<=1+Int.tmod (IntKind.wrap .u64 lay.n) 6 /\ 1+Int.tmod (IntKind.wrap .u64 lay.n) 6 < 7
 omega
def xOf (lay:Cfg) (ops:List O) (no:Nat) (ts:List N1) (nt:Nat):RfI:=⟨lay,ops,no,ts,nt,(dU lay).n,JI lay⟩
def Lw (lay:Cfg) (no nt:Nat):List SV:=[.v (.agg (SJ lay)),.v (.c (.vs 8 0 no 4 false)),.v (.c (.vs 9 0 nt 1 false))]
def HY (bs:List Bt):Bool:=decide (AV.len (.beats bs)=AV.len (.beats bs) /\ AV.len (.beats bs)<=1000000)
end Go.Proofs.YtcpdipfepeccgaaGreatDoor

namespace Go.Proofs.YtcpdipfepeccgaaGreatDoor
open Go Go.Sx Go.Proofs
set_option maxRecDepth 100000
set_option maxHeartbeats 0
variable {σ:Sg}
def vB (bs:List Bt):SV:=.v (.c (.vs 9 0 (AV.len (.beats bs)) 10 false))
noncomputable def Hg (σ:Sg) (m:ParM):T (SV×List AV×List AV):=oP cZ σ Ns 10 noM [gV] [gH m] (cD AV.len Bl (ParM.wr m))
theorem Qc (σ:Sg) (m:ParM) (hn:m.threads.length<=6) (h0:1<=m.threads.length):Hg σ m=.need (HY m.beats) (.need (lpM m) (.leaf (vB m.beats,[gH m],[.beats m.beats]))):=by
 obtain⟨so,p,ts,bs⟩:=m
 apply Df (P:=fun ts=>Hg σ ⟨so,p,ts,bs⟩=.need (HY bs) (.need (lpM ⟨so,p,ts,bs⟩) (.leaf (vB bs,[gH ⟨so,p,ts,bs⟩],[.beats bs])))) hn h0<;>(intros;as_aux_lemma=>kernel_rfl)
noncomputable def beS (args:List SV) (l:List AV):T (SV×List AV×List AV):=match args,l with
 | [.v (.c (.ptr 8 0))],[.par m]=>.need (okN m) (.need (HY m.beats) (.leaf (vB m.beats,[.par m],[.beats m.beats])))
 | _,_=>.fail "Beats"
theorem TF:FnOk Tryz.prog (NV σ) 10 (aL isS noM beS):=by
 refine b9 bk rfl fun args l v l' nw h hl hargs=>?_
 unfold beS at h
 split at h
 ·rename_i m
  obtain⟨h1,h⟩:=ah h
  obtain⟨h2,h⟩:=ah h
  obtain⟨g1,g6⟩:=Ds h1
  have hr:(Hg σ m).val=some (v,l',nw):=(congrArg T.val (Qc σ m g6 g1)).trans ((nv h2).trans ((nv (z6 m)).trans h))
  exact gZ (jR fL (ny Gk) (M:=noM) rfl (a:=gH m) (K:=cD AV.len Bl (ParM.wr m)) ⟨_,rfl⟩ (fun L S w hq=>(jW (N:=NVl cZ σ) rfl (by exact rfl) rfl L S w).1 hq) (uf rfl (args:=[]) rfl) hr).1
 ·simp [T.val] at h
noncomputable def Nu (σ:Sg) (F:RfF):Tab:=aC 5 (aL isS mAw CV) (aC 6 (aL isS mBo (JJ F.okn F.nw)) (aC 10 (aL isS noM beS) aQ))
theorem Gm:bm Tryz.prog (NV σ) (Nu σ rfM):=aj JP (aj Mu (aj TF au))
structure BtE where
 e9:M9
 e15:M15
 u:S6 Bool
 a:S6 Int
 c9:Prop
 c15:Prop
 c26:Prop
 c37:Prop
def BtE.l (e:BtE):List Bt:=e.e15.p.beats
def BtE.q (e:BtE):Nat:=AV.len (.beats e.e15.p.beats)
abbrev fBt:FuncId:=4
noncomputable def Um (x:RfI) (p:ParM) (e:BtE):Lp:=dS fBt 9 (gB9 x p e.e9 e.c9) cZ
noncomputable def SC (x:RfI) (p:ParM) (e:BtE):Lp:=dS fBt 15 (S0 x e.e9.p e.e9.t e.e15 e.c15) (Um x p e)
noncomputable def SB (x:RfI) (p:ParM) (e:BtE):Lp:=dS fBt 26 (SZ x e.e15.p e.e9.t e.q e.l e.u e.a e.c26) (SC x p e)
noncomputable def NT (x:RfI) (p:ParM) (e:BtE):Lp:=dS fBt 37 (SY x e.e15.p e.e9.t e.l e.u e.a e.c37) (SB x p e)
noncomputable def Hf (σ:Sg) (F:RfF) (lay:Cfg) (ops:List O) (no:Nat) (ts:List N1) (nt:Nat) (e:BtE):T (SV×Hp AV) :=
 Q.lv (NVl (NT (xOf lay ops no ts nt) (F.nw (dU lay)) e) σ) (Nu σ F) 24 (.fn fBt) (Lw lay no nt) (hpO allM [.opsA ops,.intsA ts])
theorem btR (σ:Sg) (F:RfF) (lay:Cfg) (ops:List O) (no:Nat) (ts:List N1) (nt:Nat) (e:BtE):Hf σ F lay ops no ts nt e =
 .need (F.okn (dU lay)) (.ite (decide ((no:Int) > 40)) (.leaf (.v (.c (.bl true)),hpO allM [.opsA ops,.intsA ts]))
  (.need (cH ((uz (E9 (xOf lay ops no ts nt)) (E9 (xOf lay ops no ts nt)) /\ H9e (xOf lay ops no ts nt) (F.nw (dU lay))=H9e (xOf lay ops no ts nt) (F.nw (dU lay))) /\ e.c9))
  (.need (cH ((uz (E15 (xOf lay ops no ts nt)) (E15 (xOf lay ops no ts nt)) /\ hpB (xOf lay ops no ts nt) e.e9.p e.e9.t=hpB (xOf lay ops no ts nt) e.e9.p e.e9.t) /\ e.c15))
  (.need (okN e.e15.p) (.need (HY e.l) (.ite (((e.q:Nat):Int) != ((e.e15.made:Nat):Int)) (.leaf (.v (.c (.bl false)),hpO allM [.opsA ops,.intsA ts]))
  (.need (cH ((uz (E26 (xOf lay ops no ts nt) e.q) (E26 (xOf lay ops no ts nt) e.q) /\ H26 (xOf lay ops no ts nt) e.e15.p e.e9.t e.l=H26 (xOf lay ops no ts nt) e.e15.p e.e9.t e.l) /\ e.c26))
  (.need (cH ((uz (E37 (xOf lay ops no ts nt)) (E37 (xOf lay ops no ts nt)) /\ hpU (xOf lay ops no ts nt) e.e15.p e.e9.t e.l e.u e.a=hpU (xOf lay ops no ts nt) e.e15.p e.e9.t e.l e.u e.a) /\ e.c37))
    (.leaf (.v (.c (.bl true)),hpO allM [.opsA ops,.intsA ts])))))))))):=by kernel_rfl
end Go.Proofs.YtcpdipfepeccgaaGreatDoor

namespace Go.Sx
open Go.ChangeShapes Go.WideShapes Go.RowKit
theorem Quiet.same {W W':World} (h:Quiet W W') {p:MemPlace} (hp:p.block < W.heap.size):W.sameAt W' p:=by
 cases p with
 | cell b off =>
   have:=h.block b hp
   simp only [World.sameAt,World.cell?,this]
 | map b=>exact h.block b hp
theorem Quiet.frozen {W W':World} (h:Quiet W W') (a:Addr) (ha:a.block < W.heap.size):W'.frozen? a=W.frozen? a:=by
 simp only [World.frozen?,h.block a.block ha]
theorem Quiet.kept {W W':World} (h:Quiet W W') (may:MemPlace->Prop):W.keptBut W' may:=by
 refine⟨h.os,h.output,fun i hi=>?_⟩
 rw [h.block i hi]
 cases hx:W.heap[i]? with
 | none=>trivial
 | some o=>cases o<;>simp
section
variable {H:Type} {enc:TypeId×Value->H} {P:Program}
theorem mY (hl:laidOutB P=true) {W W':World} {sp':Nat->Bool}:∀{ts:List TypeId} {vs:List Value} {ds:List (DataW H)} {ps:List MemPlace},(∀t∈ts,P.readableRec t=true /\ t < P.types.size) ->
 DataW.TrodAll enc P W 0 (fun _=>true) true ts vs ds ps->(∀p∈ps,W.sameAt W' p)->(∀p∈ps,sp' p.block=true)->DataW.TrodAll enc P W' 0 sp' true ts vs ds ps
 | [],[],[],_,_,h,_,_=>h
 | t::ts,v::vs,d::ds,ps,ht,h,hs,hsp=>by
   obtain⟨p,q,h1,h2,rfl⟩:=h
   have:=ht t (List.mem_cons_self ..)
   refine⟨p,q,WideElems.Trod_stays hl this.1 this.2 h1 (fun x hx=>hs x (List.mem_append_left _ hx)) (fun x hx=>hsp x (List.mem_append_left _ hx)),?_,rfl⟩
   exact mY hl (fun x hx=>ht x (List.mem_cons_of_mem _ hx)) h2 (fun x hx=>hs x (List.mem_append_right _ hx)) (fun x hx=>hsp x (List.mem_append_right _ hx))
 | [],[],_::_,_,_,h,_,_=>by simp [DataW.TrodAll] at h
 | [],_::_,_,_,_,h,_,_=>by simp [DataW.TrodAll] at h
 | _::_,[],_,_,_,h,_,_=>by simp [DataW.TrodAll] at h
 | _::_,_::_,[],_,_,h,_,_=>by simp [DataW.TrodAll] at h
theorem vc (hl:laidOutB P=true) {f:Func} {s:ChangeSpec} {apart fresh handsOn again:Bool} {W W':World} {args:Array Value} {ds gs:List (DataW H)} {before:List MemPlace} {tb:TypeId}
 (hvars:s.vars=[]) (hpar:∀t∈f.params.toList,P.readableRec t=true /\ t < P.types.size) (hres:f.resultTypes=#[tb]) (htb:P.underlying tb=some .bool)
 (hW:DataW.Whole enc P f.params.toList s.vars apart W args.toList ds gs before)
 (hspec:s.fn H ds={results:=[.lit (.bool true)],args:=ds}) (hq:Quiet W W') :
 s.post enc P f apart fresh handsOn again W args (.bool true) W':=by
 have hW':=hW
 obtain⟨p,q,hA,hV,rfl,hfz,hnd⟩:=hW
 rw [hvars] at hV
 obtain⟨rfl,rfl⟩:=trodVars_none hV
 have hlt:=hW'.lt
 simp only [List.append_nil] at hW' hlt hfz
 have hspec':s.fn H (ds++[])={results:=[.lit (.bool true)],args:=ds}:=by rw [List.append_nil];exact hspec
 have hok:=ok_one (P:=P) (W':=W') (f:=f) (v:=.bool true) hres rfl (okWide_bool_mk htb true)
 have hold:∀p'∈p,(fun b=>decide (b < W.heap.size)) p'.block=true:=fun p' hp=>by simpa using hlt p' hp
 have hargs:∀sp:Nat->Bool,(∀x∈p,sp x.block=true)->DataW.TrodAll enc P W' 0 sp true f.params.toList args.toList (s.fn H (ds++[])).args p:=by
  intro sp hsp
  rw [hspec']
  exact mY hl hpar hA (fun x hx=>hq.same (hlt x hx)) hsp
 have hres':∀(b:Nat) (sp:Nat->Bool) (hd:Bool),DataW.TrodAll enc P W' b sp hd f.resultTypes.toList ((Value.bool true).resultList f.resultTypes.size) (s.fn H (ds++[])).results []:=by
  intro b sp hd
  rw [hspec',hres]
  exact⟨[],[],shut_bool htb _,rfl,rfl⟩
 have hvars':∀sp:Nat->Bool,DataW.TrodVars enc P W' sp s.vars (s.fn H (ds++[])).vars []:=by
  intro sp
  rw [hspec',hvars]
  exact rfl
 refine⟨ds,[],p,[],p,[],hW',hres' _ _ _,hargs _ hold,hvars' _,World.keptBut_mono (fun x hx=>⟨hx,Or.inr (by simpa using hx)⟩) (hq.kept _),fun _=>?_⟩
 obtain⟨_,_,_,_,_,hz,hn⟩:=hW'
 refine⟨hok,_,_,([]++p)++[],⟨[]++p,[],trodAll_append (hargs _ (fun _ _=>rfl)) (hres' _ _ _),hvars' _,rfl,?_,?_⟩,?_⟩
 ·intro b off hp
  simp only [List.nil_append,List.append_nil] at hp
  rw [hq.frozen _ (hlt _ hp)]
  exact hfz b off hp
 ·intro ha
  simpa using hnd ha
 ·intro x hx _
  simpa using hx
end
structure SentTy (P:Program) (ti tp te ts:TypeId):Prop where
 hi:∃ms,P.underlying ti=some (.interface ms)
 row:∀u,P.typeName? 3 u=some "*errors.errorString" -> u=tp
 hp:P.underlying tp=some (.pointer te)
 he:∃f:Field,P.underlying te=some (.struct #[f]) /\ f.type=ts /\ f.offset=0
 hs:P.underlying ts=some .string
 hc:P.cellsOf te=1
 hcs:P.cellsOf ts=1
def sent (text:List UInt8):DataW Unit:=.iface "*errors.errorString" (.ptr (.agg [.lit (.string text)]))
end Go.Sx

namespace Go.Sx
open Go.ChangeShapes Go.WideShapes
def ct:List FK->List Value->Prop
 | [],[]=>True
 | .bool::ks,.bool _::vs=>ct ks vs
 | .int k::ks,.int k' _::vs=>k'=k /\ ct ks vs
 | .str::ks,.string _::vs=>ct ks vs
 | _,_=>False
theorem jE:∀{ks ks':List FK} {vs vs':List Value},ct ks vs->ct ks' vs'->ct (ks++ks') (vs++vs')
 | [],_,[],_,_,h'=>h'
 | [],_,_::_,_,h,_=>by simp [ct] at h
 | k::_,_,[],_,h,_=>by cases k<;>simp [ct] at h
 | k::ks,ks',v::vs,vs',h,h'=>by
   cases k<;>cases v<;>first | exact jE (ks:=ks) (vs:=vs) h h' | exact⟨h.1,jE (ks:=ks) (vs:=vs) h.2 h'⟩ | exact absurd h (by simp [ct])
theorem kO {P:Program} {t:TypeId} {n:Nat} (h:gC P t=some n):P.cellsOf t=n:=by
 unfold gC at h
 unfold Program.cellsOf
 cases hi:P.info? t with
 | none=>rw [hi] at h;cases h
 | some i=>rw [hi] at h;cases h;rfl
section
variable {H:Type} {enc:TypeId×Value->H} {P:Program} {w:World} {base:Nat} {sp:Nat->Bool} {held:Bool}
theorem lV {rec:TypeId->Option (List FK)} {cs:List Value} {n:Nat}
 (hrec:∀t ks vs x,rec t=some ks->DataW.trod enc P w base sp held n t vs=some x->P.cellsOf t=ks.length->ct ks vs) :
 ∀(fs:List Field) (off:Nat) (ks:List FK),kH P rec fs off=some ks->(∀f∈fs,∃y,DataW.trod enc P w base sp held n f.type ((cs.drop f.offset).take (P.cellsOf f.type))=some y)->ct ks ((cs.drop off).take ks.length)
 | [],off,ks,h,_=>by
   simp only [kH,Option.some.injEq] at h
   subst h
   simp [ct]
 | f::fs,off,ks,h,hf=>by
   simp only [kH] at h
   split at h
   ·cases h
   ·split at h
    ·cases h
    ·rename_i hoff
     have hoff:=(af _ _).1 hoff
     split at h
     ·cases h
     ·rename_i k1 hk1
      split at h
      ·cases h
      ·rename_i m hm
       split at h
       ·cases h
       ·rename_i hlen
        have hlen:=(af _ _).1 hlen
        split at h
        ·rename_i l hl
         cases h
         have hc:=kO hm
         obtain⟨y,hy⟩:=hf f (List.mem_cons_self ..)
         have h1:=hrec f.type k1 _ y hk1 hy (hc.trans hlen)
         rw [hoff,hc,hlen] at h1
         have h2:=lV hrec fs (off+m) l hl (fun g hg=>hf g (List.mem_cons_of_mem _ hg))
         have e:(cs.drop off).take (k1++l).length=(cs.drop off).take k1.length++(cs.drop (off+m)).take l.length:=by
          rw [List.length_append,List.take_add,List.drop_drop,hlen]
         rw [e]
         exact jE h1 h2
        ·cases h
theorem mb:∀(d n:Nat) (t:TypeId) (ks:List FK) (cs:List Value) (x:DataW H×List MemPlace),g8 P d t=some ks->DataW.trod enc P w base sp held n t cs=some x->P.cellsOf t=ks.length->ct ks cs
 | 0,_,_,_,_,_,h,_,_=>by simp [g8] at h
 | d+1,n,t,ks,cs,x,h,ht,hc=>by
   simp only [g8] at h
   split at h
   ·rename_i hu
    cases h
    obtain⟨b,rfl,_⟩:=DataW.trod_bool hu ht
    simp [ct]
   ·rename_i k hu
    cases h
    obtain⟨m,rfl,_⟩:=DataW.trod_int hu ht
    simp [ct]
   ·rename_i hu
    cases h
    obtain⟨m,rfl,_⟩:=DataW.trod_string hu ht
    simp [ct]
   ·rename_i fs hu
    split at h
    ·cases h
    ·obtain⟨xs,m,rfl,_,hl,hxl,hx⟩:=DataW.trod_struct hu ht
     have:=lV (H:=H) (enc:=enc) (w:=w) (base:=base) (sp:=sp) (held:=held) (n:=m) (cs:=cs) (fun t ks vs x h1 h2 h3=>mb d m t ks vs x h1 h2 h3) fs.toList 0 ks h (fun f hf=>by
      obtain⟨i,hi⟩:=List.mem_iff_getElem?.1 hf
      have hi':fs[i]?=some f:=by simpa using hi
      have hlt:i < xs.length:=by rw [hxl];exact(Array.getElem?_eq_some_iff.1 hi').1
      exact⟨xs[i],by rw [hx i f hi',List.getElem?_eq_getElem hlt]⟩)
     rw [List.drop_zero,List.take_of_length_le (by omega)] at this
     exact this
   ·rename_i len e hu
    split at h
    ·rename_i sz hs
     obtain⟨xs,m,rfl,_,hl,hxl,hx⟩:=DataW.trod_array hu ht
     have:=lV (H:=H) (enc:=enc) (w:=w) (base:=base) (sp:=sp) (held:=held) (n:=m) (cs:=cs) (fun t ks vs x h1 h2 h3=>mb d m t ks vs x h1 h2 h3) (xw e sz len 0) 0 ks h (fun f hf=>by
      rw [arrFs_eq] at hf
      obtain⟨i,hi,rfl⟩:=List.mem_map.1 hf
      have hi:i < len:=by simpa using List.mem_range'_1.1 hi
      have hlt:i < xs.length:=by omega
      have hx:=hx i hi
      rw [kO hs] at hx
      exact⟨xs[i],by simp only [DV];rw [kO hs,hx,List.getElem?_eq_getElem hlt]⟩)
     rw [List.drop_zero,List.take_of_length_le (by omega)] at this
     exact this
    ·cases h
   ·cases h
end
end Go.Sx
