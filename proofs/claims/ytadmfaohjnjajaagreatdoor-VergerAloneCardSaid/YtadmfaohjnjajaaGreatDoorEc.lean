import Derived.Test.YtadmfaohjnjajaaGreatDoorDd
import Derived.Test.YtadmfaohjnjajaaGreatDoorRd
import Derived.Shelf.SlGeneric
import Derived.Ground.SlgnProg
import Derived.Shelf.SlicesE.Clone
import Derived.Test.YtadmfaohjnjajaaGreatDoorQr
import Derived.Shelf.Spec.SlicesInsertGrow
import Derived.Laws.CopyRow
set_option linter.unusedVariables false
set_option linter.unusedSimpArgs false
set_option maxHeartbeats 0
set_option maxRecDepth 100000
namespace Go.Proofs.YtadmfaohjnjajaaGreatDoor
section
open Go Go.Sx Go.Proofs AH
def nT (k:Int):List Pr->Option Pr
 | []=>none
 | x::l=>if x.key=k then some x else nT k l
def FA (x:Pr):List Pr->List Pr
 | []=>[x]
 | y::l=>if x.key < y.key then x::y::l else y::FA x l
def G2 (k:Int):List Pr->List Pr
 | []=>[]
 | y::l=>if y.key=k then l else y::G2 k l
theorem zM {x z:Pr}:∀{l:List Pr},z∈FA x l↔z=x \/ z∈l
 | []=>by rw [FA,aet];exact⟨.inl,fun h=>h.elim id fun h=>(by cases h)⟩
 | y::l=>by
   unfold FA;split
   ·exact aaO
   ·rw [aaO,zM (l:=l),aaO];exact⟨fun h=>h.elim (fun h=>.inr (.inl h)) (fun h=>h.elim .inl fun h=>.inr (.inr h)),fun h=>h.elim (fun h=>.inr (.inl h)) (fun h=>h.elim .inl fun h=>.inr (.inr h))⟩
theorem Bz {k:Int}:∀{l:List Pr},nT k l=none->∀x∈l,x.key≠k
 | y::l,h,x,hx=>by
   unfold nT at h;split at h
   ·cases h
   ·rename_i hn;rcases aaO.1 hx with rfl | hx
    ·exact hn
    ·exact Bz h x hx
theorem wS {k:Int} {x:Pr}:∀{l:List Pr},nT k l=some x->x∈l /\ x.key=k
 | y::l,h=>by
   unfold nT at h;split at h
   ·cases h;exact⟨aaV,by assumption⟩
   ·obtain⟨a,b⟩:=wS h;exact⟨aaW _ a,b⟩
theorem adn {p:List Pr} (hs:Ju p) {x:Pr} (hx:x∈p):nT x.key p=some x:=by
 induction p with
 | nil=>cases hx
 | cons y l ih =>
   unfold Ju at hs;rw [adF] at hs;unfold nT;rcases aaO.1 hx with rfl | hx
   ·rw [if_pos rfl]
   ·rw [if_neg (by have:=hs.1 x hx;omega)];exact ih hs.2 hx
theorem Ma {k:Int} {z:Pr}:∀{l:List Pr},Ju l->(z∈G2 k l↔z.key≠k /\ z∈l)
 | [],_=>⟨fun h=>(by cases h),fun h=>(by cases h.2)⟩
 | y::l,hs=>by
   unfold Ju at hs;rw [adF] at hs;unfold G2;split
   ·rename_i hk;rw [aaO];exact⟨fun h=>⟨by have:=hs.1 z h;omega,.inr h⟩,fun⟨a,b⟩=>b.elim (fun e=>absurd (e▸hk) a) id⟩
   ·rename_i hk;rw [aaO,Ma hs.2,aaO];exact⟨fun h=>h.elim (fun e=>⟨e▸hk,.inl e⟩) fun h=>⟨h.1,.inr h.2⟩,fun⟨a,b⟩=>b.elim .inl fun b=>.inr ⟨a,b⟩⟩
theorem Nc {x:Pr}:∀{l:List Pr},Ju l->(∀y∈l,y.key≠x.key)->Ju (FA x l)
 | [],_,_=>List.pairwise_singleton _ _
 | y::l,hs,hn=>by
   have Dv:=hs;unfold Ju at Dv;rw [adF] at Dv;unfold FA;split
   ·rename_i h;exact adF.2 ⟨fun z hz=>by rcases aaO.1 hz with rfl | hz;exact h;exact Int.lt_trans h (Dv.1 z hz),hs⟩
   ·rename_i h;refine adF.2 ⟨fun z hz=>?_,Nc Dv.2 fun z hz=>hn z (aaW _ hz)⟩;rcases zM.1 hz with rfl | hz
    ·have:=hn y aaV;omega
    ·exact Dv.1 z hz
theorem El {k:Int}:∀{l:List Pr},(G2 k l).Sublist l
 | []=>List.Sublist.refl _
 | y::l=>by
   unfold G2;split
   ·exact List.sublist_cons_self _ _
   ·exact El.cons_cons _
def aaE (p:List Pr):Prop:=∀x∈p,0<=x.key /\ x.key < 256
def akg (p:List Pr) (o:O) (a:An) (p':List Pr):Prop :=
 (o.aj=6 /\ ((nT o.key p=none /\ a=⟨1,0⟩ /\ p'=FA ⟨o.key,o.val⟩ p) \/ (nT o.key p≠none /\ a=⟨3,0⟩ /\ p'=p) \/ (a=⟨4,0⟩ /\ p'=p)))
 \/ ((o.aj=7 \/ o.aj=8) /\ nT o.key p=none /\ a=⟨2,0⟩ /\ p'=p)
 \/ (∃x,nT o.key p=some x /\ a=⟨1,x.val⟩ /\ ((o.aj=7 /\ p'=G2 o.key p) \/ (o.aj=8 /\ p'=p)))
theorem E6 {f:Int->Int} (fi:aez f) {o:O} (ko:o.aj=6 \/ o.aj=7 \/ o.aj=8) (k0:0<=o.key) (k1:o.key < 256) {l l':List (Int×Int)} {a:An} {p:List Pr} (hr:Rep f l p) (hs:Ju p) (hg:aaE p) (st:SS (f o.key) o l a l') :
 ∃p',akg p o a p' /\ Rep f l' p' /\ Ju p' /\ aaE p':=by
 obtain⟨R,hm,hR⟩:=Wt fi ko k0 k1 hr st;have gn:(∀v,¬vr p o.key v)->nT o.key p=none:=fun h=>by
  cases hp:nT o.key p with
  | none=>rfl
  | some x =>obtain⟨h1,h2⟩:=wS hp;exact absurd (show vr p o.key x.val by unfold vr;rw [<- h2];exact h1) (h _)
 have gs:∀{v},vr p o.key v->nT o.key p=some ⟨o.key,v⟩:=fun h=>adn hs h;have rF:(∀k v,0<=k->k < 256->((f k,v)∈l'↔vr p k v))->Rep f l' p:=fun h=>h;rcases hm with⟨k6,⟨q1,q2,rfl⟩ | ⟨⟨v,q1⟩,q2,rfl⟩ | ⟨q2,rfl⟩⟩ | ⟨k78,q1,q2,rfl⟩ | ⟨v,q1,q2,⟨k7,rfl⟩ | ⟨k8,rfl⟩⟩
 ·refine⟨_,.inl ⟨k6,.inl ⟨gn q1,q2,rfl⟩⟩,fun k v h0 h1=>?_,Nc hs (Bz (gn q1)),fun x hx=>?_⟩
  ·rw [hR k v h0 h1,zM];unfold anZ vr;rw [Pr.mk.injEq]
  ·rcases zM.1 hx with rfl | hx
   ·exact⟨k0,k1⟩
   ·exact hg x hx
 ·exact⟨p,.inl ⟨k6,.inr (.inl ⟨by rw [gs q1];exact fun h=>(by cases h),q2,rfl⟩)⟩,rF hR,hs,hg⟩
 ·exact⟨p,.inl ⟨k6,.inr (.inr ⟨q2,rfl⟩)⟩,rF hR,hs,hg⟩
 ·exact⟨p,.inr (.inl ⟨k78,gn q1,q2,rfl⟩),rF hR,hs,hg⟩
 ·refine⟨_,.inr (.inr ⟨⟨o.key,v⟩,gs q1,q2,.inl ⟨k7,rfl⟩⟩),fun k v h0 h1=>?_,List.Pairwise.sublist El hs,fun x hx=>hg x (El.subset hx)⟩;rw [hR k v h0 h1,Ma hs];exact Iff.rfl
 ·exact⟨p,.inr (.inr ⟨⟨o.key,v⟩,gs q1,q2,.inr ⟨k8,rfl⟩⟩),rF hR,hs,hg⟩
def As (s n:Nat) (c:aY) (h:AH):Prop:=aaI s n c h /\ Ju c.aX /\ aaE c.aX
def Ov (s:Nat) (c:aY) (o:O) (a:An) (c':aY):Prop:=match s with
 | 1=>c'.aX=c.aX /\ ((o.aj=1 /\ ((a=⟨1,0⟩ /\ c'.aT=c.aT++[⟨o.val⟩]) \/ (a=⟨4,0⟩ /\ c'.aT=c.aT)))
     \/ ((o.aj=2 \/ o.aj=3) /\ c.aT=[] /\ a=⟨2,0⟩ /\ c'.aT=[])
     \/ (∃v r,c.aT=r++[v] /\ a=⟨1,v.val⟩ /\ ((o.aj=2 /\ c'.aT=r) \/ (o.aj=3 /\ c'.aT=c.aT))))
 | 2=>c'.aX=c.aX /\ ((o.aj=4 /\ ((a=⟨1,0⟩ /\ c'.aT=c.aT++[⟨o.val⟩]) \/ (a=⟨4,0⟩ /\ c'.aT=c.aT)))
     \/ (o.aj=5 /\ ((c.aT=[] /\ a=⟨2,0⟩ /\ c'.aT=[]) \/ ∃v r,c.aT=v::r /\ a=⟨1,v.val⟩ /\ c'.aT=r)))
 | _=>c'.aT=c.aT /\ akg c.aX o a c'.aX
theorem YE {s n:Nat} (hs:s=1 \/ s=2 \/ s=3 \/ s=4 \/ s=5) (hn:n<=40) {c:aY} {h:AH} (hi:As s n c h) {o:O} (hf:aki s o) :
 kQ (fun a h'=>∃c':aY,c'.st=c.st /\ Ov s c o a c' /\ As s (n+1) c' h') 3900 h ((iE s o).next ⟨aq,true⟩):=by
 obtain⟨hi,hp,hg⟩:=hi;rcases hs with rfl | rfl | rfl | rfl | rfl
 ·obtain⟨hi,hl⟩:=hi;refine bW (fun a h' hq=>?_) (by omega:120<=3900) (TL hi (hf.k1 rfl));rcases hq with⟨k1,⟨e,q⟩ | ⟨e,q⟩⟩ | ⟨k1,e0,e,q⟩ | ⟨v,r,e0,e,kq⟩
  ·exact⟨⟨c.st,c.aT++[⟨o.val⟩],c.aX⟩,rfl,⟨rfl,.inl ⟨k1,.inl ⟨e,rfl⟩⟩⟩,⟨by show m8 h' _;rw [adA,List.reverse_append];exact q,by show (c.aT++_).length<=_;rw [aaP];exact afu hl⟩,hp,hg⟩
  ·exact⟨c,rfl,⟨rfl,.inl ⟨k1,.inr ⟨e,rfl⟩⟩⟩,⟨q,Nat.le_succ_of_le hl⟩,hp,hg⟩
  ·have ev:c.aT=[]:=by simpa using e0
   have hk:=hf.k1 rfl;exact⟨c,rfl,⟨rfl,.inr (.inl ⟨by omega,ev,e,ev⟩)⟩,⟨by show m8 h' _;rw [ev];exact q,Nat.le_succ_of_le hl⟩,hp,hg⟩
  ·have e1:c.aT.map N1.val=r.reverse++[v]:=by have:=congrArg List.reverse e0;rwa [List.reverse_reverse,List.reverse_cons] at this
   obtain⟨l1,l2,e2,e3,e4⟩:=List.map_eq_append_iff.1 e1;obtain⟨x,rfl,rfl⟩:=List.map_eq_singleton_iff.1 e4;have el:c.aT.length=l1.length+1:=by rw [e2,aaP];rfl
   rcases kq with⟨k2,q⟩ | ⟨k3,q⟩
   ·refine⟨⟨c.st,l1,c.aX⟩,rfl,⟨rfl,.inr (.inr ⟨x,l1,e2,e,.inl ⟨k2,rfl⟩⟩)⟩,⟨?_,by show l1.length<=_;omega⟩,hp,hg⟩;show m8 h' (l1.map N1.val).reverse;rw [e3,List.reverse_reverse];exact q
   ·exact⟨c,rfl,⟨rfl,.inr (.inr ⟨x,l1,e2,e,.inr ⟨k3,rfl⟩⟩)⟩,⟨q,Nat.le_succ_of_le hl⟩,hp,hg⟩
 ·obtain⟨hi,hl⟩:=hi;refine bW (fun a h' hq=>?_) (by omega:120<=3900) (UO hi (hf.k2 rfl));rcases hq with⟨k1,⟨e,q⟩ | ⟨e,q⟩⟩ | ⟨k1,⟨e0,e,q⟩ | ⟨v,r,e0,e,q⟩⟩
  ·exact⟨⟨c.st,c.aT++[⟨o.val⟩],c.aX⟩,rfl,⟨rfl,.inl ⟨k1,.inl ⟨e,rfl⟩⟩⟩,⟨by show pP h' _;rw [adA];exact q,by show (c.aT++_).length<=_;rw [aaP];exact afu hl⟩,hp,hg⟩
  ·exact⟨c,rfl,⟨rfl,.inl ⟨k1,.inr ⟨e,rfl⟩⟩⟩,⟨q,Nat.le_succ_of_le hl⟩,hp,hg⟩
  ·have ev:c.aT=[]:=by simpa using e0
   exact⟨c,rfl,⟨rfl,.inr ⟨k1,.inl ⟨ev,e,ev⟩⟩⟩,⟨by show pP h' _;rw [ev];exact q,Nat.le_succ_of_le hl⟩,hp,hg⟩
  ·obtain⟨x,l1,e2,rfl,rfl⟩:=List.map_eq_cons_iff.1 e0;have el:c.aT.length=l1.length+1:=by rw [e2];rfl
   exact⟨⟨c.st,l1,c.aX⟩,rfl,⟨rfl,.inr ⟨k1,.inr ⟨x,l1,e2,e,rfl⟩⟩⟩,⟨q,by show l1.length<=_;omega⟩,hp,hg⟩
 ·obtain⟨l,hi,hl,hr⟩:=hi;obtain⟨k,k0,k1⟩:=hf.k3 (by decide);refine bW (fun a h' hq=>?_) (by omega:10 * l.length+120<=3900) (z6 (f:=dV.lit) (fun _ _=>rfl) (acx hi k k0 k1 ⟨aq,true⟩));obtain⟨l',ls,q⟩:=hq;have:=RP ls fun _=>true;rw [List.filter_eq_self.2 fun _ _=>rfl,List.filter_eq_self.2 fun _ _=>rfl] at this;obtain⟨p',m1,m2,m3,m4⟩:=E6 YR k k0 k1 hr hp hg (Ik hi.sr ls);exact⟨⟨c.st,c.aT,p'⟩,rfl,⟨rfl,m1⟩,⟨l',q,by omega,m2⟩,m3,m4⟩
 ·obtain⟨L,hi,hl,hr⟩:=hi;obtain⟨k,k0,k1⟩:=hf.k3 (by decide);refine bW (fun a h' hq=>?_) (by omega:40 * 48+260<=3900) (z6 (f:=dV.pQ) (fun _ _=>rfl) (VE hi k (aaC ⟨k0,k1⟩) (M:=48) (fun {g L'} hv hs=>by have:=abP hv;have:=Xf hv hs;omega) ⟨aq,true⟩));obtain⟨L1,L',h1,hs,hr1,ls,q⟩:=hq;have rj:Rep jc (kv L1) c.aX:=fun k v h0 h1=>by
   rw [<- hr k v h0 h1,tK,tK];have od:∀x:Kn,x.k=jc k->x.k % 2=1:=fun x e=>by rw [e];exact Dl
   exact⟨fun⟨x,hx,e,g⟩=>⟨x,(hs x (od x e)).1 hx,e,g⟩,fun⟨x,hx,e,g⟩=>⟨x,(hs x (od x e)).2 hx,e,g⟩⟩
  obtain⟨p',m1,m2,m3,m4⟩:=E6 XH k k0 k1 rj hp hg (Ik hr1 ls);refine⟨⟨c.st,c.aT,p'⟩,rfl,⟨rfl,m1⟩,⟨L',q,abz (RP ls _) (afu (abz ?_ hl)),m2⟩,m3,m4⟩;exact JK (List.Pairwise.sublist afr hr1) fun x hx=>by obtain⟨g1,g2⟩:=af2.1 hx;exact af2.2 ⟨(hs x (by simpa using g2)).1 g1,g2⟩
 ·obtain⟨L,hi,hl,hr⟩:=hi;obtain⟨k,k0,k1⟩:=hf.k3 (by decide);have fin:∀{a:An} {h':AH},KW L o a h'->∃c':aY,c'.st=c.st /\ Ov 5 c o a c' /\ As 5 (n+1) c' h':=fun {a h'} hq=>by obtain⟨L',q,hlen,st⟩:=Tt hi.sr hq;obtain⟨p',m1,m2,m3,m4⟩:=E6 YR k k0 k1 hr hp hg st;exact⟨⟨c.st,c.aT,p'⟩,rfl,⟨rfl,m1⟩,⟨L',q,by omega,m2⟩,m3,m4⟩
  obtain⟨kd,ky,va,ta⟩:=o;dsimp only at k k0 k1;rcases k with rfl | rfl | rfl
  ·obtain⟨t1,t3⟩:=hf.k5 rfl rfl;exact bW (fun _ _ hq=>fin hq) (by omega:30 * L.length+58+2<=3900) (z6 (f:=dV.pn) (fun _ _=>rfl) (abv hi k0 k1 t1 t3 (la:=bf) (cb:=none) (nd:=aq) (lv:=0) (inc:=0) ⟨aq,true⟩))
  ·exact bW (fun _ _ hq=>fin hq) (by omega:90 * L.length+200<=3900) (z6 (f:=dV.pn) (fun _ _=>rfl) (abx hi k0 k1 (la:=bf) (cb:=none) (nd:=aq) (lv:=0) (inc:=0) (v:=0) ⟨aq,true⟩))
  ·exact bW (fun _ _ hq=>fin hq) (by omega:30 * L.length+30<=3900) (z6 (f:=dV.pn) (fun _ _=>rfl) (abw hi (la:=bf) (cb:=none) (nd:=aq) (lv:=0) (inc:=0) (v:=0) ⟨aq,true⟩))
end
section
open Go Go.Sx Go.Proofs Go.RowKit
end
section
open Go Go.Sx Go.Proofs Go.RowKit Go.Lib
theorem n8 {P:Program} (w:World) (dT sT ty elem:TypeId) (es:Nat) (g o ajR auZ:Nat) (a:Addr) (zi WZ:Nat) (cur:Array Value) (t:TypeId) (cs:List Value)
 (hu:P.underlying dT=some (.slice elem)) (hs:(P.info? elem).map (·.size)=some es)
 (hg:w.heap[g]?=some (.cells cur t (0,0))) (hn:cs.length=Nat.min zi ajR * es)
 (hsrc:∀j v,cs[j]?=some v->w.cell? (a.add j)=some v) (hfit:o+cs.length<=cur.size) (h1:∀v∈cs,v.oneCell'=true) :
 (Builtin.copy_ #[dT,sT] ty #[.slice (some ⟨g,o,none⟩) ajR auZ,.slice (some a) zi WZ]).run P w =
   .ok (goInt (Nat.min zi ajR)) (w.setRow g (cur.toList.take o++cs++cur.toList.drop (o+cs.length)).toArray):=by
 have hl:=run_loadCells_list (P:=P) w a cs hsrc;have tg:=run_storeCells_at P g o t cs 0 cur w hg (by simpa using hfit) h1;cases hq:P.info? elem with
 | none=>simp [hq] at hs
 | some i =>
   have hi:i.size=es:=by simpa [hq] using hs
   simp [Builtin.copy_,run_underlying hu,Builtin.lenOf,Builtin.firstCells,sizeOf,typeInfo,hq,hi,<- hn,hl,tg]
theorem G8 (w:World) (vb voff vc b off lb cb:Nat) (kA kB:Nat) (tA tB:TypeId) (hvb:vb≠b) (hsa:w.shape? vb=some (tA,kA)) (hsb:w.shape? b=some (tB,kB)) (hkB:kB≠0) (hfa:w.frozen? ⟨vb,voff,none⟩=false) (hfe:w.frozen? ⟨vb,kA,none⟩=false) :
 (callFunc 97 #[.slice (some ⟨vb,voff,none⟩) 1 vc,.slice (some ⟨b,off,none⟩) lb cb]).run Tryz.prog w=.ok (.value (.bool false)) w:=by
 rw [run_callFunc_extern Tryz.func97 (by kernel_rfl) (by kernel_rfl) (by kernel_rfl) (e:=Extern.SlicesOverlaps.overlaps #[91,91] #[4]) (by kernel_rfl),
  Lib.run_overlaps_apart w 91 4 187 Tryz.underlying91 2 Tryz.sizeOf187 ⟨vb,voff,none⟩ ⟨b,off,none⟩ 1 vc lb cb hvb tA tB kA kB hsa hsb hkB hfa hfe]
 rfl
theorem zN:(Tryz.prog.info? 187).map (·.size)=some 2:=by kernel_rfl
set_option maxHeartbeats 4000000 in
theorem PO (b off n c i vb voff vc:Nat) (row vs rv:List Value) (w:World) (hi:i < n) (hroom:n+1<=c) (hc63:n<=1000000) (hvb:vb≠b)
 (hrow:w.heap[b]?=some (.cells row.toArray 187 (0,0))) (hfit:off+c * 2<=row.length) (hone:∀v∈(row.drop off).take (n * 2),v.oneCell'=true)
 (hv:w.heap[vb]?=some (.cells rv.toArray 187 (0,0))) (hvs:∀(j:Nat) v,vs[j]?=some v->rv[voff+j]?=some v) (hvl:vs.length=2) (h1v:∀v∈vs,v.oneCell'=true) :
 Calls Tryz.prog 70 #[.slice (some ⟨b,off,none⟩) n c,.int .i64 i,.slice (some ⟨vb,voff,none⟩) 1 vc] w fun e w' =>
  e=.returned (.slice (some ⟨b,off,none⟩) (n+1) c) /\ w'=(w.drew.setRow b (cS row (off+(i+1) * 2) ((row.drop (off+i * 2)).take ((n - i) * 2))).toArray).setRow b (cS (cS row (off+(i+1) * 2) ((row.drop (off+i * 2)).take ((n - i) * 2))) (off+i * 2) vs).toArray:=by
 have hz2:¬((i:Int)=(n:Int)):=by omega
 have hshb:w.shape? b=some (187,row.length):=by simp [World.shape?,hrow]
 have hshv:w.shape? vb=some (187,rv.length):=by simp [World.shape?,hv]
 have hfr:∀k,w.frozen? ⟨vb,k,none⟩=false:=fun k=>by simp [World.frozen?,hv]
 have hov:∀lb cb,(callFunc 97 #[.slice (some ⟨vb,voff,none⟩) 1 vc,.slice (some ⟨b,off+(i+1) * 2,none⟩) lb cb]).run Tryz.prog w=.ok (.value (.bool false)) w:=fun lb cb =>
  G8 w vb voff vc b _ lb cb rv.length row.length _ _ hvb hshv hshb (by omega) (hfr _) (hfr _)
 obtain⟨s1,s2⟩:=zh row (off+i * 2) ((n - i) * 2) (by omega);obtain⟨cs,hcs⟩:∃cs,cs=(row.drop (off+i * 2)).take ((n - i) * 2):=⟨_,rfl⟩;rw [<- hcs] at s1 s2 ⊢;have hone1:∀v∈cs,v.oneCell'=true:=fun v hv=>by rw [hcs] at hv;obtain⟨j,hj⟩:=adQ.1 hv;obtain⟨_,q2⟩:=zh row (off+i * 2) ((n - i) * 2) (by omega);have q3:=q2 j v hj;have hjl:=(aaS.1 hj).1;rw [zh row (off+i * 2) ((n - i) * 2) (by omega) |>.1] at hjl;refine hone v (adQ.2 ⟨i * 2+j,?_⟩);rw [aeE,if_pos (by omega),afG,show off+(i * 2+j)=off+i * 2+j by omega];exact q3
 have hcp1:∀ty dc sc,(Builtin.copy_ #[91,91] ty #[.slice (some ⟨b,off+(i+1) * 2,none⟩) (n - i) dc,.slice (some ⟨b,off+i * 2,none⟩) (n+1 - i) sc]).run Tryz.prog w.drew=.ok (goInt ((n - i:Nat):Int)) (w.drew.setRow b (cS row (off+(i+1) * 2) cs).toArray):=fun ty dc sc=>by
  have:=n8 (P:=Tryz.prog) w.drew 91 91 ty 187 2 b (off+(i+1) * 2) (n - i) dc ⟨b,off+i * 2,none⟩ (n+1 - i) sc row.toArray 187 cs Tryz.underlying91 zN hrow (by rw [s1];simp only [Nat.min_def];split<;>omega) (fun j v hj=>oV (w:=w.drew) hrow _ j v (s2 j v hj)) (by simp;omega) hone1;rw [this];have e:(n+1 - i).min (n - i)=n - i:=by simp only [Nat.min_def];split<;>omega
  rw [e];rfl
 obtain⟨r1,hr1⟩:∃r1,r1=cS row (off+(i+1) * 2) cs:=⟨_,rfl⟩;have hr1l:r1.length=row.length:=by rw [hr1];exact fX (by omega)
 rw [<- hr1] at hcp1 ⊢;obtain⟨W1,hW1⟩:∃W1,W1=w.drew.setRow b r1.toArray:=⟨_,rfl⟩;have hW1b:W1.heap[b]?=some (.cells r1.toArray 187 (0,0)):=by rw [hW1];exact setRow_heap w.drew b _ _ _ (0,0) hrow
 have hW1v:W1.heap[vb]?=some (.cells rv.toArray 187 (0,0)):=by rw [hW1,fE hvb];exact hv
 have hcp2:∀ty dc,(Builtin.copy_ #[91,91] ty #[.slice (some ⟨b,off+i * 2,none⟩) (n+1 - i) dc,.slice (some ⟨vb,voff,none⟩) 1 vc]).run Tryz.prog W1=.ok (goInt 1) (W1.setRow b (cS r1 (off+i * 2) vs).toArray):=fun ty dc=>by
  have:=n8 (P:=Tryz.prog) W1 91 91 ty 187 2 b (off+i * 2) (n+1 - i) dc ⟨vb,voff,none⟩ 1 vc r1.toArray 187 vs Tryz.underlying91 zN hW1b (by rw [hvl];simp only [Nat.min_def];split<;>omega) (fun j v hj=>oV (w:=W1) hW1v voff j v (hvs j v hj)) (by simp;omega) h1v;rw [this];have e:(1:Nat).min (n+1 - i)=1:=by simp only [Nat.min_def];split<;>omega
  rw [e];rfl
 rw [<- hW1] at hcp1 ⊢;have hin:i<=n:=by omega
 have mixed:Tryz.prog.follows Departure.mixedOrders=true:=by kernel_rfl
 have hw1:IntKind.i64.wrap ((i:Int)+1)=(i:Int)+1:=uh (by omega);have hb1:(0:Int)<=(i:Int)+1:=by omega
 have htn:((i:Int)+1).toNat=i+1:=by omega
 have hb2:¬(c=i+1):=by omega
 have hb3:(i:Int)<=(n:Int)+1:=by omega
 have hb4:¬(c=i):=by omega
 have hb5:(i:Int)+1<=(n:Int)+1:=by omega
 have hb6:n+1 - (i+1)=n - i:=by omega
 clear hW1b hW1v hW1 hfr hshb hshv hone hone1 hrow hv s1 s2 hcs hr1
 go_enter Tryz.func70,Tryz.ntmps70
 go_wp2_with (simp only [hov])
 go_region_law_o (refine step_copy_runI rfl _ _ 91 91 rfl _ _ (by simp [Act.eval,Act.put]) (by simp [Act.eval,Act.put]) (hcp1 _ _ _) ?_)
 go_wp2_with (at_builtin;refine wpList_copy_runI _ rfl _ _ 91 91 rfl _ _ rfl rfl (hcp2 _ _) ?_)
 go_ret
 exact⟨rfl,rfl⟩
theorem Rs:∃i:TypeInfo,Tryz.prog.info? 187=some i /\ i.size=2 /\ i.bytes=16 /\ i.zero=some (.agg #[.int .i64 0,.int .i64 0]):=by
 have h:(match Tryz.prog.info? 187 with
  | some i=>(match i.zero with | some (.agg a)=>(match a.toList with | [.int .i64 x,.int .i64 y]=>i.size==2&&i.bytes==16&&x==0&&y==0 | _=>false) | _=>false)
  | none=>false)=true:=by kernel_rfl
 cases hi:Tryz.prog.info? 187 with
 | none=>rw [hi] at h;cases h
 | some i =>
   rw [hi] at h;simp only at h;split at h
   ·rename_i a ha;split at h
    ·rename_i x y PQ;simp at h;obtain⟨⟨⟨h1,h2⟩,h3⟩,h4⟩:=h;refine⟨i,rfl,h1,h2,?_⟩;rw [ha];subst h3 h4;have:a=#[.int .i64 0,.int .i64 0]:=by rw [<- afw (xs:=a),PQ]
     rw [this]
    ·cases h
   ·cases h
set_option maxHeartbeats 4000000 in
theorem Kk (b off n c vb voff vc:Nat) (row vs rv:List Value) (w:World) (hroom:n+1<=c) (hc63:n<=1000000)
 (hrow:w.heap[b]?=some (.cells row.toArray 187 (0,0))) (hfit:off+c * 2<=row.length)
 (hv:w.heap[vb]?=some (.cells rv.toArray 187 (0,0))) (hvs:∀(j:Nat) v,vs[j]?=some v->rv[voff+j]?=some v) (hvl:vs.length=2) (h1v:∀v∈vs,v.oneCell'=true) :
 Calls Tryz.prog 70 #[.slice (some ⟨b,off,none⟩) n c,.int .i64 n,.slice (some ⟨vb,voff,none⟩) 1 vc] w fun e w' =>
  e=.returned (.slice (some ⟨b,off,none⟩) (n+1) c) /\ w'=w.setRow b (cS row (off+n * 2) vs).toArray:=by
 obtain⟨i0,hi0,hi1,hi2,hi3⟩:=Rs;have hap:∀ty,(Builtin.append_ #[91,91] ty #[.slice (some ⟨b,off,none⟩) n c,.slice (some ⟨vb,voff,none⟩) 1 vc]).run Tryz.prog w=.ok (.slice (some ⟨b,off,none⟩) (n+1) c) (w.setRow b (cS row (off+n * 2) vs).toArray):=fun ty=>by have:=oa (P:=Tryz.prog) w 91 ty 187 i0 Tryz.underlying91 hi0 b off n c row.toArray 187 hrow ⟨vb,voff,none⟩ 1 vc vs (by rw [hvl,hi1]) (fun j v hj=>oV (w:=w) hv voff j v (hvs j v hj)) h1v hroom (by rw [hi1];simp;omega);rw [this,hi1];rfl
 have mixed:Tryz.prog.follows Departure.mixedOrders=true:=by kernel_rfl
 clear hrow hv
 go_enter Tryz.func70,Tryz.ntmps70
 go_wp2_with (at_builtin;refine Lib.wpList_append_run _ rfl _ _ _ _ rfl _ _ rfl rfl _ _ (hap _) ?_)
 go_ret
 exact⟨rfl,rfl⟩
set_option maxHeartbeats 4000000 in
theorem Kl (base:Option Addr) (n c vb voff vc:Nat) (cs vs rv:List Value) (w:World) (hnc:n<=c) (hroom:c < n+1) (hbig:n<=1000000) (hcl:cs.length=n * 2) (hnil:base=none->n=0)
 (hcs:∀a,base=some a->∀j v,cs[j]?=some v->w.cell? (a.add j)=some v)
 (hv:w.heap[vb]?=some (.cells rv.toArray 187 (0,0))) (hvs:∀(j:Nat) v,vs[j]?=some v->rv[voff+j]?=some v) (hvl:vs.length=2) (h1v:∀v∈vs,v.oneCell'=true) :
 Calls Tryz.prog 70 #[.slice base n c,.int .i64 n,.slice (some ⟨vb,voff,none⟩) 1 vc] w fun e w' =>
  e=.returned (.slice (some ⟨w.heap.size,0,none⟩) (n+1) (grownCap w (n+1) c 187)) /\
  w'=w.drew.alloc (.cells ((cs++vs).toArray++Builtin.zeroCells (Value.agg #[.int .i64 0,.int .i64 0]).cells (grownCap w (n+1) c 187 - (n+1))) 187):=by
 obtain⟨i0,hi0,hi1,hi2,hi3⟩:=Rs;have mixed:Tryz.prog.follows Departure.mixedOrders=true:=by kernel_rfl
 have hsrc:Src Tryz.prog i0.size 91 (.slice (some ⟨vb,voff,none⟩) 1 vc) 1 vs w:=by rw [hi1];exact Src.ofSlice w Tryz.underlying91 ⟨vb,voff,none⟩ 1 vc vs (by omega) (fun j u hj=>oV (w:=w) hv voff j u (hvs j u hj)) h1v
 have hold:(Builtin.firstCells i0.size n (.slice base n c)).run Tryz.prog w.drew=.ok cs.toArray w.drew:=by
  rw [hi1];cases base with
  | none =>have h0:=hnil rfl;subst h0;rw [afO.1 hcl];exact run_firstCells_none w.drew 2 0 0 c
  | some a=>exact run_firstCells_some w.drew 2 n a n c cs (by omega) (fun j v hj=>hcs a rfl j v hj)
 have hrun:∀ty,(Builtin.append_ #[91,91] ty #[.slice base n c,.slice (some ⟨vb,voff,none⟩) 1 vc]).run Tryz.prog w=_:=fun ty =>
  run_append_grow_src w 91 91 ty 187 i0 _ Tryz.underlying91 hi0 hi3 base n c cs hold _ 1 vs hsrc hroom (by omega) (by rw [hi2];exact growslice_fits hroom (by omega))
 clear hv hold hsrc
 go_enter Tryz.func70,Tryz.ntmps70
 cases base with
 | none =>
   have h0:=hnil rfl;subst h0
   go_wp2_with (at_builtin;refine Lib.wpList_append_run _ rfl _ _ _ _ rfl _ _ rfl rfl _ _ (hrun _) ?_)
   go_ret
   exact⟨rfl,rfl⟩
 | some a =>
   obtain⟨ab,ao,asp⟩:=a
   go_wp2_with (at_builtin;refine Lib.wpList_append_run _ rfl _ _ _ _ rfl _ _ rfl rfl _ _ (hrun _) ?_)
   all_goals (go_ret;exact⟨rfl,rfl⟩)
theorem CC {w:World} {o:Obj} {k:Nat} (h:k < w.heap.size):(w.alloc o).heap[k]?=w.heap[k]?:=by show (w.heap.push o)[k]?=_;rw [Array.getElem?_push,if_neg (by omega)]
theorem Gu {w:World} {o:Obj}:(w.alloc o).heap[w.heap.size]?=some o:=by show (w.heap.push o)[w.heap.size]?=_;simp
set_option maxHeartbeats 4000000 in
theorem Ul (b off n c i vb voff vc:Nat) (cs vs rv:List Value) (w:World) (hi:i < n) (hnc:n<=c) (hroom:c < n+1) (hbig:n<=1000000) (hcl:cs.length=n * 2) (hone:∀v∈cs,v.oneCell'=true)
 (hbw:b < w.heap.size) (hvw:vb < w.heap.size) (hcs:∀(j:Nat) v,cs[j]?=some v->w.cell? ((⟨b,off,none⟩:Addr).add j)=some v)
 (hv:w.heap[vb]?=some (.cells rv.toArray 187 (0,0))) (hvs:∀(j:Nat) v,vs[j]?=some v->rv[voff+j]?=some v) (hvl:vs.length=2) (h1v:∀v∈vs,v.oneCell'=true) :
 Calls Tryz.prog 70 #[.slice (some ⟨b,off,none⟩) n c,.int .i64 i,.slice (some ⟨vb,voff,none⟩) 1 vc] w fun e w' =>
  ∃(G:Nat) (row:List Value),n+1<=G /\ row.length=G * 2 /\ e=.returned (.slice (some ⟨w.heap.size,0,none⟩) (n+1) G) /\
  (∀(j:Nat) v,(cs.take (i * 2)++vs++cs.drop (i * 2))[j]?=some v->row[j]?=some v) /\ w'.heap[w.heap.size]?=some (.cells row.toArray 187 (0,0)) /\ (∀k,k < w.heap.size->w'.heap[k]?=w.heap[k]?) /\ w'.os=w.os /\ w'.tape=w.tape /\ w'.output=w.output /\ w.heap.size<=w'.heap.size:=by
 obtain⟨i0,hi0,hi1,hi2,hi3⟩:=Rs;have mixed:Tryz.prog.follows Departure.mixedOrders=true:=by kernel_rfl
 have hold:(Builtin.firstCells i0.size i (.slice (some ⟨b,off,none⟩) i c)).run Tryz.prog w.drew=.ok (cs.take (i * 2)).toArray w.drew:=by
  rw [hi1];exact run_firstCells_some w.drew 2 i ⟨b,off,none⟩ i c (cs.take (i * 2)) (by rw [aga];omega) (fun j v hj=>by
   rw [aeE] at hj;split at hj
   ·exact hcs j v hj
   ·cases hj)
 have hkk:(n:Int)+1 - (i:Int)=((n+1 - i:Nat):Int):=by omega
 have hik:i+(n+1 - i)=n+1:=by omega
 have hrz:∀ty,(Builtin.append_ #[91,3] ty #[.slice (some ⟨b,off,none⟩) i c,.int .i64 ((n:Int)+1 - (i:Int))]).run Tryz.prog w =
  .ok (.slice (some ⟨w.heap.size,0,none⟩) (n+1) (grownCap w (n+1) c 187)) (w.drew.alloc (.cells ((cs.take (i * 2)).toArray++Builtin.zeroCells (Value.agg #[.int .i64 0,.int .i64 0]).cells (n+1 - i)++Builtin.zeroCells (Value.agg #[.int .i64 0,.int .i64 0]).cells (grownCap w (n+1) c 187 - (n+1))) 187)):=fun ty=>by
  have h:=Lib.run_append_grow_zeros w 91 3 ty 187 i0 _ .i64 .i64 Tryz.underlying91 Tryz.underlying3 hi0 hi3 (some ⟨b,off,none⟩) i c (cs.take (i * 2)) hold (n+1 - i) (by omega) (by omega) (by omega) (by omega) (by rw [hi2];omega) (by rw [hi2,hik];exact growslice_fits hroom (by omega));rw [hik] at h;rw [hkk];exact h
 obtain⟨G,hG⟩:∃G,G=grownCap w (n+1) c 187:=⟨_,rfl⟩;have hGn:n+1<=G:=by rw [hG];exact grownCap_ge w _ _ _
 have hG63:G<=9223372036854775807:=by have:=grownCap_le_maxLen w (n+1) c 187 (by unfold maxLen;omega);rw [<- hG] at this;unfold maxLen at this;omega
 rw [<- hG] at hrz;obtain⟨ROW,hROW⟩:∃ROW:List Value,ROW.toArray=(cs.take (i * 2)).toArray++Builtin.zeroCells (Value.agg #[.int .i64 0,.int .i64 0]).cells (n+1 - i)++Builtin.zeroCells (Value.agg #[.int .i64 0,.int .i64 0]).cells (G - (n+1)):=⟨_,afw⟩;have hRl:ROW.length=G * 2:=by have:=congrArg Array.size hROW;simp [Builtin.zeroCells,Value.cells] at this;omega
 have hRt:∀(j:Nat) v,(cs.take (i * 2))[j]?=some v->ROW[j]?=some v:=fun j v hj=>by
  have hlt:=(aaS.1 hj).1;have e:ROW[j]?=ROW.toArray[j]?:=by simp
  rw [e,hROW,Array.getElem?_append_left (by simp at hlt ⊢;omega),Array.getElem?_append_left (by simp at hlt ⊢;omega)];simpa using hj
 rw [<- hROW] at hrz;obtain⟨W1,hW1⟩:∃W1,W1=w.drew.alloc (.cells ROW.toArray 187):=⟨_,rfl⟩;have hN1:W1.heap[w.heap.size]?=some (.cells ROW.toArray 187 (0,0)):=by rw [hW1];exact Gu (w:=w.drew)
 have hO1:∀k,k < w.heap.size->W1.heap[k]?=w.heap[k]?:=fun k hk=>by rw [hW1];exact CC (w:=w.drew) hk
 have hcpA:∀(W:World),W.heap=W1.heap->∀ty dc,(Builtin.copy_ #[91,91] ty #[.slice (some ⟨w.heap.size,i * 2,none⟩) (n+1 - i) dc,.slice (some ⟨vb,voff,none⟩) 1 vc]).run Tryz.prog W=.ok (goInt 1) (W.setRow w.heap.size (cS ROW (i * 2) vs).toArray):=fun W hW ty dc=>by
  have:=n8 (P:=Tryz.prog) W 91 91 ty 187 2 w.heap.size (i * 2) (n+1 - i) dc ⟨vb,voff,none⟩ 1 vc ROW.toArray 187 vs Tryz.underlying91 zN (by rw [hW];exact hN1) (by rw [hvl];simp only [Nat.min_def];split<;>omega)
   (fun j v hj=>oV (w:=W) (by rw [hW,hO1 vb hvw];exact hv) voff j v (hvs j v hj)) (by simp;omega) h1v
  rw [this];have e:(1:Nat).min (n+1 - i)=1:=by simp only [Nat.min_def];split<;>omega
  rw [e];rfl
 obtain⟨R2,hR2⟩:∃R2,R2=cS ROW (i * 2) vs:=⟨_,rfl⟩;have hR2l:R2.length=ROW.length:=by rw [hR2];exact fX (by omega)
 rw [<- hR2] at hcpA;obtain⟨W2,hW2⟩:∃W2,W2=W1.setRow w.heap.size R2.toArray:=⟨_,rfl⟩;have hN2:W2.heap[w.heap.size]?=some (.cells R2.toArray 187 (0,0)):=by rw [hW2];exact setRow_heap W1 _ _ _ _ (0,0) hN1
 have hO2:∀k,k < w.heap.size->W2.heap[k]?=w.heap[k]?:=fun k hk=>by rw [hW2,fE (by omega)];exact hO1 k hk
 have hdl:(cs.drop (i * 2)).length=(n - i) * 2:=by rw [agb,hcl];omega
 have hcellb:∀(W:World),W.heap=W2.heap->∀(j:Nat) v,(cs.drop (i * 2))[j]?=some v->W.cell? ((⟨b,off+i * 2,none⟩:Addr).add j)=some v:=fun W hW j v hj=>by
  rw [afG] at hj;have:=hcs _ v hj;have e1:(⟨b,off+i * 2,none⟩:Addr).add j=⟨b,off+i * 2+j,none⟩:=by unfold Addr.add;split<;>simp_all
  have e2:(⟨b,off,none⟩:Addr).add (i * 2+j)=⟨b,off+i * 2+j,none⟩:=by unfold Addr.add;split<;>simp_all<;>omega
  rw [e1];rw [e2] at this;have hb:W.heap[b]?=w.heap[b]?:=by rw [hW];exact hO2 b hbw
  simpa [World.cell?,hb] using this
 have hcpB:∀(W:World),W.heap=W2.heap->∀ty dc sc,(Builtin.copy_ #[91,91] ty #[.slice (some ⟨w.heap.size,(i+1) * 2,none⟩) (n - i) dc,.slice (some ⟨b,off+i * 2,none⟩) (n - i) sc]).run Tryz.prog W=.ok (goInt ((n - i:Nat):Int)) (W.setRow w.heap.size (cS R2 ((i+1) * 2) (cs.drop (i * 2))).toArray):=fun W hW ty dc sc=>by
  have:=n8 (P:=Tryz.prog) W 91 91 ty 187 2 w.heap.size ((i+1) * 2) (n - i) dc ⟨b,off+i * 2,none⟩ (n - i) sc R2.toArray 187 (cs.drop (i * 2)) Tryz.underlying91 zN (by rw [hW];exact hN2) (by rw [hdl];simp only [Nat.min_def];split<;>omega)
   (hcellb W hW) (by simp;omega) (fun v hv=>hone v (List.mem_of_mem_drop hv))
  rw [this];have e:(n - i).min (n - i)=n - i:=by simp only [Nat.min_def];split<;>omega
  rw [e];rfl
 have fin:∀w':World,w'.heap=(W2.setRow w.heap.size (cS R2 ((i+1) * 2) (cs.drop (i * 2))).toArray).heap->w'.os=w.os->w'.tape=w.tape->w'.output=w.output->∃(G':Nat) (row:List Value),n+1<=G' /\ row.length=G' * 2 /\ (Ending.returned (.slice (some ⟨w.heap.size,0,none⟩) (n+1) G):Ending)=.returned (.slice (some ⟨w.heap.size,0,none⟩) (n+1) G') /\
  (∀(j:Nat) v,(cs.take (i * 2)++vs++cs.drop (i * 2))[j]?=some v->row[j]?=some v) /\ w'.heap[w.heap.size]?=some (.cells row.toArray 187 (0,0)) /\ (∀k,k < w.heap.size->w'.heap[k]?=w.heap[k]?) /\ w'.os=w.os /\ w'.tape=w.tape /\ w'.output=w.output /\ w.heap.size<=w'.heap.size:=fun w' h1 h2 h3 h4=>by
  refine⟨G,cS R2 ((i+1) * 2) (cs.drop (i * 2)),hGn,by rw [fX (by omega),hR2l,hRl],rfl,fun j v hj=>?_,by rw [h1];exact setRow_heap W2 _ _ _ _ (0,0) hN2,fun k hk=>by rw [h1,fE (by omega)];exact hO2 k hk,h2,h3,h4,?_⟩
  ·have hjl:=(aaS.1 hj).1;simp only [aaP,aga] at hjl;unfold cS;by_cases h5:j < (i+1) * 2
   ·rw [acA,acM (by simp;omega),aeE,if_pos h5,hR2];unfold cS;by_cases h6:j < i * 2
    ·rw [acA,acM (by simp;omega),aeE,if_pos h6];rw [acA,acM (by simp;omega)] at hj;exact hRt j v hj
    ·rw [acA,acR (by simp;omega),acM (by simp;omega)];rw [acA,acR (by simp;omega),acM (by simp;omega)] at hj;rw [<- hj];simp;congr 1;omega
   ·rw [acA,acR (by simp;omega),acM (by simp;omega)];rw [acA,acR (by simp;omega),acR (by simp;omega)] at hj;rw [<- hj];congr 1;simp;omega
  ·have:w'.heap.size=W2.heap.size:=by rw [h1];simp [World.setRow]
   have e2:W2.heap.size=W1.heap.size:=by rw [hW2];simp [World.setRow]
   have e1:W1.heap.size=w.heap.size+1:=by rw [hW1];exact Array.size_push _
   omega
 have hGi:¬(G=i):=by omega
 have hGim:¬(G=i+1):=by omega
 have hci:¬(c=i):=by omega
 have hw1:IntKind.i64.wrap ((i:Int)+1)=(i:Int)+1:=uh (by omega);have hb1:(0:Int)<=(i:Int)+1:=by omega
 have hin:i<=n:=by omega
 have htn:((i:Int)+1).toNat=i+1:=by omega
 have hb3:(i:Int)<=(n:Int):=by omega
 have hb3':(i:Int)<=(n:Int)+1:=by omega
 have hb5:(i:Int)+1<=(n:Int)+1:=by omega
 have hb6:n+1 - (i+1)=n - i:=by omega
 have hz2:¬((i:Int)=(n:Int)):=by omega
 have hz3:(c:Int) < (n:Int)+1:=by omega
 have eA:∀W:World,W=W1->W.heap=W1.heap:=fun W h=>by rw [h]
 subst hW2;subst hW1;have hcpA':=hcpA (w.alloc (.cells ROW.toArray 187)).drew rfl;have hcpB':=hcpB ((w.alloc (.cells ROW.toArray 187)).drew.setRow w.heap.size R2.toArray).drew rfl;clear hkk hik hold hROW hG hRl hRt hR2 hR2l hN1 hO1 hN2 hO2 hdl hcellb eA hv hcs hone hcl
 go_enter Tryz.func70,Tryz.ntmps70
 go_wp2_with (first
  | (at_builtin;refine Lib.wpList_append_run _ rfl _ _ _ _ rfl _ _ rfl rfl _ _ (hrz _) ?_)
  | (at_builtin;refine wpList_copy_runI _ rfl _ _ 91 91 rfl _ _ rfl rfl (hcpA' _ _) ?_))
 go_region_law_o (refine step_copy_runI rfl _ _ 91 91 rfl _ _ (by simp [Act.eval,Act.put]) (by simp [Act.eval,Act.put]) (hcpB' _ _ _) ?_)
 go_wp2
 go_ret
 exact fin _ rfl rfl rfl rfl
theorem Eg (w:World) (ty:TypeId) (b o c:Nat) (row:List Value) (hrow:w.heap[b]?=some (.cells row.toArray 187 (0,0))) (hfit:o+2<=row.length) :
 (Builtin.clear_ #[91] ty #[.slice (some ⟨b,o,none⟩) 1 c]).run Tryz.prog w=.ok (.tuple #[]) (w.setRow b (cS row o [.int .i64 0,.int .i64 0]).toArray):=by
 have hzc:(Builtin.zeroCells (Value.agg #[.int .i64 0,.int .i64 0]).cells 1).toList=[.int .i64 0,.int .i64 0]:=by kernel_rfl
 have tg:=run_storeCells_at Tryz.prog b o 187 [.int .i64 0,.int .i64 0] 0 row.toArray w hrow (by simpa using hfit) (by
  intro v hv;simp only [aaO,aaR,or_false] at hv;rcases hv with rfl | rfl<;>rfl)
 simp only [Nat.add_zero] at tg;simp only [Builtin.clear_,aaY];simp [run_underlying Tryz.underlying91,Tryz.zeroValue187,hzc,tg,cS]
set_option maxHeartbeats 4000000 in
theorem apL (b off n c i j:Nat) (row:List Value) (w:World) (hij:j=i+1) (hi:i < n) (hnc:n<=c) (hc63:n<=1000000)
 (hrow:w.heap[b]?=some (.cells row.toArray 187 (0,0))) (hfit:off+c * 2<=row.length) (hone:∀v∈(row.drop off).take (n * 2),v.oneCell'=true) :
 Calls Tryz.prog 71 #[.slice (some ⟨b,off,none⟩) n c,.int .i64 i,.int .i64 j] w fun e w' =>
  e=.returned (.slice (some ⟨b,off,none⟩) (n - 1) c) /\ w'=(w.drew.setRow b (cS row (off+i * 2) ((row.drop (off+j * 2)).take ((n - j) * 2))).toArray).setRow b (cS (cS row (off+i * 2) ((row.drop (off+j * 2)).take ((n - j) * 2))) (off+(n - 1) * 2) [.int .i64 0,.int .i64 0]).toArray:=by
 obtain⟨i0,hi0,hi1,hi2,hi3⟩:=Rs;have mixed:Tryz.prog.follows Departure.mixedOrders=true:=by kernel_rfl
 obtain⟨s1,s2⟩:=zh row (off+j * 2) ((n - j) * 2) (by omega);obtain⟨cs,hcs⟩:∃cs,cs=(row.drop (off+j * 2)).take ((n - j) * 2):=⟨_,rfl⟩;rw [<- hcs] at s1 s2 ⊢;have hone1:∀v∈cs,v.oneCell'=true:=fun v hv=>by obtain⟨k,hk⟩:=adQ.1 hv;have q3:=s2 k v hk;have hkl:=(aaS.1 hk).1;rw [s1] at hkl;refine hone v (adQ.2 ⟨j * 2+k,?_⟩);rw [aeE,if_pos (by omega),afG,show off+(j * 2+k)=off+j * 2+k by omega];exact q3
 obtain⟨A,hA,hsrc⟩:∃A:Addr,(if c=j then some (⟨b,off,none⟩:Addr) else some ⟨b,off+j * 2,none⟩)=some A /\ (∀(t:Nat) u,cs[t]?=some u->w.drew.cell? (A.add t)=some u):=by
  by_cases h:c=j
  ·refine⟨⟨b,off,none⟩,by simp [h],fun t u hu=>?_⟩
   have h0:cs.length=0:=by rw [s1];have:n - j=0:=by omega
                           rw [this]
   rw [afO.1 h0] at hu;simp at hu
  ·exact⟨⟨b,off+j * 2,none⟩,by simp [h],fun t u hu=>oV (w:=w.drew) hrow _ t u (s2 t u hu)⟩
 have hap:∀ty dc,(Builtin.append_ #[91,91] ty #[.slice (some ⟨b,off,none⟩) i c,.slice (some A) (n - j) dc]).run Tryz.prog w.drew=.ok (.slice (some ⟨b,off,none⟩) (n - 1) c) (w.drew.setRow b (cS row (off+i * 2) cs).toArray):=fun ty dc=>by have:=oa (P:=Tryz.prog) w.drew 91 ty 187 i0 Tryz.underlying91 hi0 b off i c row.toArray 187 hrow A (n - j) dc cs (by rw [s1,hi1]) hsrc hone1 (by omega) (by rw [hi1];simp;omega);rw [this,hi1,show i+(n - j)=n - 1 by omega];rfl
 obtain⟨r1,hr1⟩:∃r1,r1=cS row (off+i * 2) cs:=⟨_,rfl⟩;have hr1l:r1.length=row.length:=by rw [hr1];exact fX (by omega)
 rw [<- hr1] at hap ⊢;obtain⟨W1,hW1⟩:∃W1,W1=w.drew.setRow b r1.toArray:=⟨_,rfl⟩;have hW1b:W1.heap[b]?=some (.cells r1.toArray 187 (0,0)):=by rw [hW1];exact setRow_heap w.drew b _ _ _ (0,0) hrow
 have hcl:∀ty dc,(Builtin.clear_ #[91] ty #[.slice (some ⟨b,off+(n - 1) * 2,none⟩) 1 dc]).run Tryz.prog W1=.ok (.tuple #[]) (W1.setRow b (cS r1 (off+(n - 1) * 2) [.int .i64 0,.int .i64 0]).toArray):=fun ty dc=>Eg W1 ty b _ dc r1 hW1b (by omega);rw [<- hW1] at hap ⊢;have hic:i<=c:=by omega
 have hjc:j<=c:=by omega
 have hjn:j<=n:=by omega
 have hin:i<=n:=by omega
 have hijle:i<=j:=by omega
 have hz:¬((i:Int)=(j:Int)):=by omega
 have h1n:n - (n - 1)=1:=by omega
 have hcn:¬(c=n - 1):=by omega
 have hle:n - 1<=n:=by omega
 have hle2:((n - 1:Nat):Int)<=(n:Int):=by omega
 clear hij hrow hone hone1 s1 s2 hcs hsrc hr1 hr1l hW1b hW1 hi0 hi1 hi2 hi3
 go_enter Tryz.func71,Tryz.ntmps71
 go_wp2_with fail
 go_region_law_o (refine sd rfl _ _ 91 91 rfl _ (.slice (some A) (n - j) (c - j)) (by simp [Act.eval,Act.put]) (by simp [Act.eval,Act.put,hA]) (hap _ _) ?_)
 go_wp2
 go_ret
 exact⟨rfl,rfl⟩
