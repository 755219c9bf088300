import Derived.Test.YtadmfaohjnjajaaGreatDoorQk
import Derived.Shelf.Spec.SlicesInsertGrow
import Derived.Laws.CopyRow
set_option linter.unusedVariables false
set_option linter.unusedSimpArgs false
set_option maxHeartbeats 0
set_option maxRecDepth 100000
noncomputable section
namespace Go.Proofs.YtadmfaohjnjajaaGreatDoor
section
open Go Go.Sx Go.Proofs
variable {σ:Sg} {lp:Lp}
def ksI:List Nat:=[0,3,4,6,7,8]
def LI:Code:=ia 2 (cA (eM Tryz.f92))
def Ox (x:Nt) (q:Nat) (l:List Nt) (i:Int) (y:Int):St AV :=
 {E:=only ksI [(0,.v (.c (.vs 7 0 q 7 false))),(3,.v (.c (.ptr 8 0))),(4,.v (.c (.it .i64 y))),(6,.v (.c (.vs 7 0 q 7 false))),(7,.v (.c (.it .i64 q))),(8,.v (.c (.it .i64 i)))] 19,H:=s9 bL [.bI (.notes l),.cells (Nt.bx x) 151]}
def rR (x y:Nt):Bool:=x.af==y.af&&(x.gen==y.gen&&(x.tag==y.tag&&(x.bS==y.bS&&(x.mark==y.mark&&(x.zv==y.zv&&x.BM==y.BM)))))
theorem iR (σ:Sg) (x:Nt) (q:Nat) (l:List Nt) (i y:Int):(xc (NV σ) (bs (lv (NV σ) ca 5)) (fun _=>none) 19 LI (Ox x q l i y)).bind (eQ 9 19 ksI eV) =
 .ite (decide (i < (q:Int))) (.aJ (match decide (0<=i /\ i < (q:Int)) with | true=>decide (0+i.toNat < l.length) | false=>false) (.ite (rR x (l.getD (0+i.toNat) bj.bR)) (.aE (.ret,Ox x q l i i)) (.aE (.normal,Ox x q l (IntKind.wrap .i64 (i+1)) y)))) (.aE (.exit 0,Ox x q l i y)):=by kernel_rfl
def HJ (x:Nt) (l:List Nt) (m:MA):St AV:=Ox x l.length l m.k (cond m.b m.k 0)
theorem Ru (σ:Sg) (x:Nt) (l:List Nt) (hl:l.length<=100000) (m:MA) (r:Ex×MA) (h:(rj l (rR x) m).val=some r) :
 ((xc (NV σ) (bs (lv (NV σ) ca 5)) (fun _=>none) 19 LI (HJ x l m)).bind (eQ 9 19 ksI eV)).val=some (r.1,HJ x l r.2):=by
 replace h:=aD h
 obtain⟨hb,h⟩:=h
 obtain⟨h1,h2⟩:=aaV hb
 cases h
 obtain⟨k,b⟩:=m
 simp only at h1 h2
 subst h2
 have e1:0+(k:Int).toNat=k:=by omega
 have hw:IntKind.wrap .i64 ((k:Int)+1)=((k+1:Nat):Int):=lR (by omega)
 dsimp only [HJ]
 rw [iR]
 by_cases hk:k < l.length
 ·rw [tG (aaS (by show (k:Int) < _;omega)),nv (by rw [aaS (by omega)];exact aaS (by omega)),e1,hw,gi bj.bR hk]
  cases hp:rR x (l.getD k bj.bR) with
  | true=>simp only [SK,hp];rfl
  | false=>simp only [SK,hp];rfl
 ·rw [wG (aaZ (by show ¬(k:Int) < _;omega)),ad8 (by omega)]
  rfl
def arS (x:Nt) (l:List Nt) (s:St AV):Prop:=Sx.aF s.E 0=.v (.c (.vs 7 0 l.length 7 false)) /\ Sx.aF s.E 3=.v (.c (.ptr 8 0)) /\ Sx.aF s.E 4=.v (.c (.il .i64 0)) /\ Sx.aF s.E 6=.v (.c (.vs 7 0 l.length 7 false)) /\ Sx.aF s.E 7=.v (.c (.it .i64 l.length)) /\ Sx.aF s.E 8=.v (.c (.il .i64 0)) /\ s.H=s9 bL [.bI (.notes l),.cells (Nt.bx x) 151]
def gI (an:Bool) (ix:Nat) (x:Nt) (l:List Nt) (s:St AV):T (Ex×St AV):=.aJ (iI (arS x l s)) (.ite an (.aE (.ret,Ox x l.length l ix ix)) (.aE (.exit 0,Ox x l.length l l.length 0)))
theorem amL {N':dV AV} (hF:N'.F=(NV σ).F) (hG:N'.G=(NV σ).G) (x:Nt) (l:List Nt) (hl:l.length<=100000):fY Tryz.prog N' 19 LI (gI (l.any (rR x)) (je (rR x) 0 l) x l):=by
 have cH:gF Tryz.prog (NV σ) (bs (lv (NV σ) ca 5)):=dj (my rH tA J7 bn 5)
 refine eO (N:=NV σ) hF hG rH cH (lp:=fun _=>none) (fun _ _ _ g hg=>by cases hg) fun s s' ex cG=>?_
 obtain⟨E1,H1⟩:=s
 unfold gI at cG
 replace cG:=aD cG
 obtain⟨hb,cG⟩:=cG
 obtain⟨e0,e3,e4,e6,e7,e8,eH⟩:=gJ hb
 simp only at e0 e3 e4 e6 e7 e8 eH
 subst eH
 have Qm:(ex,s')=((pY (rR x) 0 l).1,HJ x l (pY (rR x) 0 l).2):=by
  cases ha:l.any (rR x) with
  | true =>
    rw [tG ha] at cG
    simp only [T.val,aaC] at cG
    rw [<- cG];unfold pY;rw [ha];rfl
  | false =>
    rw [wG ha] at cG
    simp only [T.val,aaC] at cG
    rw [<- cG];unfold pY;rw [ha]
    simp only [HJ,abJ,cond_false]
 simp only [aaF] at Qm
 obtain⟨rfl,rfl⟩:=Qm
 refine⟨{M:=MA,sH:=HJ x l,step:=rj l (rR x),ks:=ksI,pk:=eV,zH:=(fun d a h=>by cases h),L:=9,len:=rfl,FL:=(by show 7<=9;decide),run:=Ru σ x l hl,m:=⟨0,false⟩,k:=_,m':=_,Ka:=?_,it:=LH l 0 rfl (adr _),fin:=rfl}⟩
 refine rS (N:=NV σ) (nt:=19) (E:=E1) (ks:=ksI) (E':=[(0,.v (.c (.vs 7 0 l.length 7 false))),(3,.v (.c (.ptr 8 0))),(4,.v (.c (.it .i64 (0:Int)))),(6,.v (.c (.vs 7 0 l.length 7 false))),(7,.v (.c (.it .i64 l.length))),(8,.v (.c (.it .i64 (0:Nat))))]) fun k hk=>?_
 simp only [ksI,abk,abo,or_false] at hk
 rcases hk with rfl | rfl | rfl | rfl | rfl | rfl
 ·exact .inl e0.symm
 ·exact .inl e3.symm
 ·exact .inr ⟨by rw [e4];rintro ⟨⟩,uo _,fun ρ=>by rw [e4];rfl⟩
 ·exact .inl e6.symm
 ·exact .inl e7.symm
 ·exact .inr ⟨by rw [e8];rintro ⟨⟩,uo _,fun ρ=>by rw [e8];rfl⟩
def lpI (an:Bool) (ix:Nat) (x:Nt) (l:List Nt):Lp:=lV 92 2 (gI an ix x l) jr
theorem alj (x:Nt) (l:List Nt) (hl:l.length<=100000):fH Tryz.prog (hP (lpI (l.any (rR x)) (je (rR x) 0 l) x l) σ) :=
 lM ou (fn:=Tryz.f92) (by kernel_rfl) (c:=eM Tryz.f92) (by kernel_rfl) (nt:=19) (by kernel_rfl) (b:=LI) (cE (by kernel_rfl)) (amL (σ:=σ) rfl rfl x l hl)
def anc (x:Nt) (l:List Nt):Prop:=SV.v (.c (.vs 7 0 l.length 7 false))=.v (.c (.vs 7 0 l.length 7 false)) /\ SV.v (.c (.ptr 8 0))=.v (.c (.ptr 8 0)) /\ SV.v (.c (.il .i64 0))=.v (.c (.il .i64 0)) /\ SV.v (.c (.vs 7 0 l.length 7 false))=.v (.c (.vs 7 0 l.length 7 false)) /\ SV.v (.c (.it .i64 l.length))=.v (.c (.it .i64 l.length)) /\ SV.v (.c (.il .i64 0))=.v (.c (.il .i64 0)) /\ s9 bL [.bI (.notes l),.cells (Nt.bx x) 151]=s9 bL [.bI (.notes l),.cells (Nt.bx x) 151]
theorem ixR (σ:Sg) (an:Bool) (ix:Nat) (x:Nt) (l:List Nt):wC (lpI an ix x l) σ ca 92 bL [.v (.c (.vs 7 0 l.length 7 false)),.v (.agg (Nt.bx x))] [.bI (.notes l)]=.aJ (iI (anc x l)) (.ite an (.aE (Di (.v (.c (.it .i64 ix)),s9 bL [.bI (.notes l)]))) (.aE (Di (.v (.c (.il .i64 (-1))),s9 bL [.bI (.notes l)])))):=by kernel_rfl
def eY (x:Nt) (l:List Nt):Int:=cond (l.any (rR x)) (je (rR x) 0 l) (-1)
def ixS (ix:Nt->List Nt->Int) (args:List SV) (ch:List (aG AV)):T (SV×List (aG AV)×List (aG AV)):=match args,ch with
 | [.v (.c (.vs 7 0 q 7 false)),.v (.agg [.it .i64 a,.it .i64 b,.it .i64 c,.it .i64 d,.bt e,.it .i64 f,.it .i64 g])],[.bI (.notes l)]=>.aJ (decide (q=l.length /\ l.length<=100000)) (.aE (.v (.c (.it .i64 (ix ⟨a,b,c,d,e,f,g⟩ l))),[.bI (.notes l)],[]))
 | _,_=>.fail "Index"
theorem agF:cD Tryz.prog (NV σ) 92 (qh cJ bL (ixS eY)):=by
 refine nN dE rfl fun args ch v l' nw h hlen ha hC=>?_
 unfold ixS at h
 split at h
 ·rename_i q a b c d e f g l
  replace h:=aD h
  obtain⟨hb,h⟩:=h
  obtain⟨rfl,hl⟩:=aaV hb
  cases h
  have hr:=(congrArg T.val (ixR σ (l.any (rR ⟨a,b,c,d,e,f,g⟩)) (je (rR ⟨a,b,c,d,e,f,g⟩) 0 l) ⟨a,b,c,d,e,f,g⟩ l)).trans (nv (iY ⟨rfl,rfl,rfl,rfl,rfl,rfl,rfl⟩))
  unfold eY
  cases hp:l.any (rR ⟨a,b,c,d,e,f,g⟩) with
  | true =>
    rw [tG hp] at hr
    exact sK (jK (alj _ _ hl) C9 rfl hr (by rintro ⟨⟩))
  | false =>
    rw [wG hp] at hr
    exact sJ (sK (jK (alj _ _ hl) C9 rfl hr (by rintro ⟨⟩))) ((uo _).cl _) fun ρ=>rfl
 ·cases h
end
section
open Go Go.Sx Go.Proofs Go.RowKit Go.Lib
def lJ (row:List Value) (p:Nat) (cs:List Value):List Value:=row.take p++cs++row.drop (p+cs.length)
theorem xv {row cs:List Value} {p:Nat} (h:p+cs.length<=row.length):(lJ row p cs).length=row.length:=by simp [lJ];omega
theorem Z6 (row:List Value) (p m:Nat) (h:p+m<=row.length):((row.drop p).take m).length=m /\ ∀(j:Nat) v,((row.drop p).take m)[j]?=some v->row[p+j]?=some v:=by
 refine⟨by simp;omega,fun j v hj=>?_⟩
 rw [aeG] at hj
 split at hj
 ·rwa [af2] at hj
 ·cases hj
theorem YD {w:World} {b:Nat} {row:List Value} {t:TypeId} (h:w.heap[b]?=some (.cells row.toArray t (0,0))) (o j:Nat) (v:Value) (hv:row[o+j]?=some v):w.cell? ((⟨b,o,none⟩:Addr).add j)=some v:=by
 have e:(⟨b,o,none⟩:Addr).add j=⟨b,o+j,none⟩:=by unfold Addr.add;split<;>simp_all
 rw [e]
 simp [World.cell?,h,hv]
theorem yB {w:World} {b c:Nat} {x:Array Value} (h:c≠b):(w.setRow b x).heap[c]?=w.heap[c]?:=by
 simp [World.setRow,Array.getElem?_modify,Ne.symm h]
theorem zU {P:Program} {bZ:Array Oper} {o:Oper} {a:Act} {w:World} {K:Act->World->Prop} {Q:Exit->Act->World->Prop} {E:Prop}
 (hg:o.guard=none) (d x:Operand) (dT sT:TypeId) (oA:o.op=Op.call {callee:=Callee.builtin Builtin.append,args:=#[d,x],argTypes:=#[dT,sT]})
 (v u:Value) (hd:a.eval d=v) (hx:a.eval x=u) {v':Value} {w':World} (hr:(Builtin.append_ #[dT,sT] o.type #[v,u]).run P w=.ok v' w') (hK:K (a.put o.dst v') w') :
 if Region.wanted o (yielded bZ a.tmps)=true then Oper.wp P o a w K Q else E:=by
 have hw:Region.wanted o (yielded bZ a.tmps)=true:=by simp [Region.wanted,hg]
 rw [if_pos hw]
 unfold Oper.wp
 simp [execOp,oA,resolve,invoke,builtin,hd,hx,hr,Result.andThen]
 exact hK
theorem ak2:∃i:TypeInfo,Tryz.prog.info? 151=some i /\ i.size=7:=by
 have h:(match Tryz.prog.info? 151 with | some i=>i.size==7 | none=>false)=true:=by kernel_rfl
 cases hi:Tryz.prog.info? 151 with
 | none=>rw [hi] at h;cases h
 | some i =>
   rw [hi] at h
   exact⟨i,rfl,by simpa using h⟩
theorem FR (w:World) (ty:TypeId) (b o c:Nat) (row:List Value) (hrow:w.heap[b]?=some (.cells row.toArray 151 (0,0))) (hfit:o+7<=row.length) :
 (Builtin.clear_ #[41] ty #[.slice (some ⟨b,o,none⟩) 1 c]).run Tryz.prog w=.ok (.tuple #[]) (w.setRow b (lJ row o [.int .i64 0,.int .i64 0,.int .i64 0,.int .i64 0,.bool false,.int .i64 0,.int .i64 0]).toArray):=by
 have hzc:(Builtin.zeroCells (Value.agg #[.int .i64 0,.int .i64 0,.int .i64 0,.int .i64 0,.bool false,.int .i64 0,.int .i64 0]).cells 1).toList=[.int .i64 0,.int .i64 0,.int .i64 0,.int .i64 0,.bool false,.int .i64 0,.int .i64 0]:=by kernel_rfl
 have uO:=run_storeCells_at Tryz.prog b o 151 [.int .i64 0,.int .i64 0,.int .i64 0,.int .i64 0,.bool false,.int .i64 0,.int .i64 0] 0 row.toArray w hrow (by simpa using hfit) (by
  intro v hv
  simp only [abk,abo,or_false] at hv
  rcases hv with rfl | rfl | rfl | rfl | rfl | rfl | rfl<;>rfl)
 simp only [Nat.add_zero] at uO
 simp only [Builtin.clear_,abA]
 simp [run_underlying Tryz.underlying41,Tryz.zeroValue151,hzc,uO,lJ]
set_option maxHeartbeats 4000000 in
theorem ar8 (b off n c i j:Nat) (row:List Value) (w:World) (hij:j=i+1) (hi:i < n) (hnc:n<=c) (hc63:n<=1000000)
 (hrow:w.heap[b]?=some (.cells row.toArray 151 (0,0))) (hfit:off+c * 7<=row.length) (hone:∀v∈(row.drop off).take (n * 7),v.oneCell'=true) :
 Calls Tryz.prog 93 #[.slice (some ⟨b,off,none⟩) n c,.int .i64 i,.int .i64 j] w fun e w' =>
  e=.returned (.slice (some ⟨b,off,none⟩) (n - 1) c) /\ w'=(w.drew.setRow b (lJ row (off+i * 7) ((row.drop (off+j * 7)).take ((n - j) * 7))).toArray).setRow b (lJ (lJ row (off+i * 7) ((row.drop (off+j * 7)).take ((n - j) * 7))) (off+(n - 1) * 7) [.int .i64 0,.int .i64 0,.int .i64 0,.int .i64 0,.bool false,.int .i64 0,.int .i64 0]).toArray:=by
 obtain⟨i0,hi0,hi1⟩:=ak2
 have mixed:Tryz.prog.follows Departure.mixedOrders=true:=by kernel_rfl
 obtain⟨s1,s2⟩:=Z6 row (off+j * 7) ((n - j) * 7) (by omega)
 obtain⟨cs,hcs⟩:∃cs,cs=(row.drop (off+j * 7)).take ((n - j) * 7):=⟨_,rfl⟩
 rw [<- hcs] at s1 s2 ⊢
 have hone1:∀v∈cs,v.oneCell'=true:=fun v hv=>by
  obtain⟨k,hk⟩:=aew.1 hv
  have q3:=s2 k v hk
  have hkl:=(abt.1 hk).1
  rw [s1] at hkl
  refine hone v (aew.2 ⟨j * 7+k,?_⟩)
  rw [aeG,if_pos (by omega),af2,show off+(j * 7+k)=off+j * 7+k by omega]
  exact q3
 obtain⟨A,hA,hsrc⟩:∃A:Addr,(if c=j then some (⟨b,off,none⟩:Addr) else some ⟨b,off+j * 7,none⟩)=some A /\ (∀(t:Nat) u,cs[t]?=some u->w.drew.cell? (A.add t)=some u):=by
  by_cases h:c=j
  ·refine⟨⟨b,off,none⟩,by simp [h],fun t u hu=>?_⟩
   have h0:cs.length=0:=by rw [s1,show n - j=0 by omega]
   rw [agk.1 h0] at hu
   simp at hu
  ·exact⟨⟨b,off+j * 7,none⟩,by simp [h],fun t u hu=>YD (w:=w.drew) hrow _ t u (s2 t u hu)⟩
 have hap:∀ty dc,(Builtin.append_ #[41,41] ty #[.slice (some ⟨b,off,none⟩) i c,.slice (some A) (n - j) dc]).run Tryz.prog w.drew=.ok (.slice (some ⟨b,off,none⟩) (n - 1) c) (w.drew.setRow b (lJ row (off+i * 7) cs).toArray):=fun ty dc=>by
  have:=qF (P:=Tryz.prog) w.drew 41 ty 151 i0 Tryz.underlying41 hi0 b off i c row.toArray 151 hrow A (n - j) dc cs (by rw [s1,hi1]) hsrc hone1 (by omega) (by rw [hi1];simp;omega)
  rw [this,hi1,show i+(n - j)=n - 1 by omega]
  rfl
 obtain⟨r1,hr1⟩:∃r1,r1=lJ row (off+i * 7) cs:=⟨_,rfl⟩
 have hr1l:r1.length=row.length:=by rw [hr1];exact xv (by omega)
 rw [<- hr1] at hap ⊢
 obtain⟨W1,hW1⟩:∃W1,W1=w.drew.setRow b r1.toArray:=⟨_,rfl⟩
 have hW1b:W1.heap[b]?=some (.cells r1.toArray 151 (0,0)):=by rw [hW1];exact setRow_heap w.drew b _ _ _ (0,0) hrow
 have hcl:∀ty dc,(Builtin.clear_ #[41] ty #[.slice (some ⟨b,off+(n - 1) * 7,none⟩) 1 dc]).run Tryz.prog W1=.ok (.tuple #[]) (W1.setRow b (lJ r1 (off+(n - 1) * 7) [.int .i64 0,.int .i64 0,.int .i64 0,.int .i64 0,.bool false,.int .i64 0,.int .i64 0]).toArray):=fun ty dc=>FR W1 ty b _ dc r1 hW1b (by omega)
 rw [<- hW1] at hap ⊢
 have hic:i<=c:=by omega
 have hjc:j<=c:=by omega
 have hjn:j<=n:=by omega
 have hin:i<=n:=by omega
 have hijle:i<=j:=by omega
 have hz:¬((i:Int)=(j:Int)):=by omega
 have h1n:n - (n - 1)=1:=by omega
 have hcn:¬(c=n - 1):=by omega
 have hle:n - 1<=n:=by omega
 have hle2:((n - 1:Nat):Int)<=(n:Int):=by omega
 clear hij hrow hone hone1 s1 s2 hcs hsrc hr1 hr1l hW1b hW1 hi0 hi1
 go_enter Tryz.func93,Tryz.ntmps93
 go_wp2_with fail
 go_region_law_o (refine zU rfl _ _ 41 41 rfl _ (.slice (some A) (n - j) (c - j)) (by simp [Act.eval,Act.put]) (by simp [Act.eval,Act.put,hA]) (hap _ _) ?_)
 go_wp2
 go_ret
 exact⟨rfl,rfl⟩
theorem setRow_size (w:World) (b:Nat) (x:Array Value):(w.setRow b x).heap.size=w.heap.size:=by simp [World.setRow]
theorem Dz {row cs:List Value} {p:Nat} (h:p+cs.length<=row.length) (j:Nat):(lJ row p cs)[j]?=if j < p then row[j]? else if j < p+cs.length then cs[j - p]? else row[j]?:=yC h j
theorem ahD {w w':World} {S:Nat->Prop} {b:Nat} (hb:S b \/ w.heap.size<=b) (h:∀k,k < w.heap.size->k≠b->w'.heap[k]?=w.heap[k]?) (h1:w'.os=w.os) (h2:w'.tape=w.tape) (h3:w'.output=w.output) (h4:w.heap.size<=w'.heap.size):Fr S (fun k=>k=b) w w' :=
 ⟨fun k hk hs=>h k hk (fun e=>by
   subst e
   rcases hb with hb | hb
   ·exact hs hb
   ·omega),fun k hk=>by
   rw [hk]
   exact hb.symm,h1,h2,h3,h4⟩
def ahP (args:List SV) (H:Hp AV):T (SV×Hp AV):=match args with
 | [.v (.c (.vs n 0 len 7 false)),.v (.c x),.v (.c y)]=>match ae H n,j6 x,j6 y,Nat.ble 7 H.length with
   | some (.bI (.notes p)),some i,some j,true=>.aJ (decide (len=p.length /\ p.length<=100000 /\ 0<=i /\ i < (p.length:Int) /\ j=i+1)) (.aE (.v (.c (.vs H.length 0 (len - 1) 7 false)),fG H (some n)++[some (.bI (.notes (p.take i.toNat++p.drop (i.toNat+1))))]))
   | _,_,_,_=>.fail "Delete"
 | _=>.fail "Delete"
theorem lU (p:List Nt):(bj.dC p).length=p.length * 7:=bj.kJ p
theorem NZ (p:List Nt) (i:Nat):(bj.dC p).take (i * 7)=bj.dC (p.take i):=bj.zM p i
theorem N0 (p:List Nt) (i:Nat):(bj.dC p).drop (i * 7)=bj.dC (p.drop i):=bj.zN p i
theorem ab4 {σ:Sg}:cD Tryz.prog (NV σ) 93 ahP:=by
 refine cD.of fun args H v H' hr ha hC=>?_
 unfold ahP at hr
 split at hr
 ·rename_i n len x y
  split at hr
  ·rename_i p i j hn hi hj hG
   replace hr:=aD hr
   obtain⟨hb,hr⟩:=hr
   obtain⟨rfl,Zg,hi0,hi1,rfl⟩:=aaV hb
   cases hr
   obtain⟨k,rfl⟩:∃k:Nat,i=k:=⟨i.toNat,by omega⟩
   have hk:k < p.length:=by omega
   have hG:(NV σ).G<=H.length:=adI hG
   have hd:∀j,some n=some j->∃c,ae H j=some c:=fun j hj=>by cases hj;exact⟨_,hn⟩
   have hpn:(NV σ).F.fW (.notes (p.take k++p.drop (k+1)))=some (7,151,bj.dC (p.take k++p.drop (k+1))):=rfl
   have M0:(NV σ).F.fW (.notes p)=some (7,151,bj.dC p):=rfl
   refine⟨mH hd 0 _ 7 false,CL hC hd (fun c hc=>by cases hc),fun ρ w hO=>?_⟩
   have hv:=(((NV σ).F.mJ _ _ _ _ M0).2 _ _ _).1 (hO.q n _ hn)
   have hone:=((NV σ).F.mJ _ _ _ _ M0).1
   have hxd:x.aq ρ=.int .i64 (k:Int):=cB hi ρ
   have hyd:y.aq ρ=.int .i64 ((k+1:Nat):Int):=by rw [cB hj ρ];congr 1
   show Calls Tryz.prog _ #[bN (ρ.L n) 0 p.length 2,x.aq ρ,y.aq ρ] w _
   rw [hxd,hyd,vsDen_eq,if_neg (by omega)]
   rcases hv with⟨wH,hp0,hS0⟩ | ⟨hc1,hS,row,hh,hf,hl,hg⟩
   ·exfalso
    have:(bj.dC p).length=0:=by rw [hp0];rfl
    rw [lU] at this
    omega
   rw [lU] at hl
   have hSb:ρ.S n (ρ.L n).b:=(hS _).2 rfl
   have pQ:∀j,j < p.length * 7->(bj.dC p)[j]?=row[(ρ.L n).o+j]?:=fun j hj=>by
    rw [hg j _ (abj (by rw [lU];exact hj)),abj (by rw [lU];exact hj)]
   have alW:∀v∈(row.drop (ρ.L n).o).take (p.length * 7),v.oneCell'=true:=fun v hv=>by
    obtain⟨j,hj⟩:=aew.1 hv
    rw [aeG] at hj
    split at hj
    ·rename_i Ht
     rw [af2,<- pQ j Ht] at hj
     exact hone v (ab8 hj)
    ·cases hj
   refine(ar8 (ρ.L n).b (ρ.L n).o p.length ((ρ.L n).c - 1) k (k+1) row w rfl hk (by omega) (by omega) hh hf alW).mono ?_
   rintro e w' ⟨rfl,rfl⟩
   have l1:((row.drop ((ρ.L n).o+(k+1) * 7)).take ((p.length - (k+1)) * 7)).length=(p.length - (k+1)) * 7:=by simp;omega
   have l2:(lJ row ((ρ.L n).o+k * 7) ((row.drop ((ρ.L n).o+(k+1) * 7)).take ((p.length - (k+1)) * 7))).length=row.length:=xv (by omega)
   have hlen:(bj.dC (p.take k++p.drop (k+1))).length=(p.length - 1) * 7:=by rw [lU];simp;omega
   have hnv:mM ⟨(ρ.L n).b,(ρ.L n).o,(ρ.L n).c - 1+1⟩ (fun x=>x=(ρ.L n).b) (bj.dC (p.take k++p.drop (k+1))) 7 151 ((w.drew.setRow (ρ.L n).b (lJ row ((ρ.L n).o+k * 7) ((row.drop ((ρ.L n).o+(k+1) * 7)).take ((p.length - (k+1)) * 7))).toArray).setRow (ρ.L n).b (lJ (lJ row ((ρ.L n).o+k * 7) ((row.drop ((ρ.L n).o+(k+1) * 7)).take ((p.length - (k+1)) * 7))) ((ρ.L n).o+(p.length - 1) * 7) [.int .i64 0,.int .i64 0,.int .i64 0,.int .i64 0,.bool false,.int .i64 0,.int .i64 0]).toArray):=by
    refine .inr ⟨by simp,fun x=>Iff.rfl,_,setRow_heap _ _ _ _ _ (0,0) (setRow_heap w.drew _ _ _ _ (0,0) hh),?_,?_,?_⟩
    ·rw [xv (by simp;omega),l2]
     simpa using hf
    ·rw [hlen]
     simp only [Nat.add_sub_cancel]
     omega
    ·intro j v hj
     have Ht:=(abt.1 hj).1
     rw [hlen] at Ht
     simp only
     rw [Dz (by simp;omega),if_pos (by omega),Dz (by omega)]
     rw [AK.fy,<- NZ,<- N0] at hj
     by_cases h1:j < k * 7
     ·rw [if_pos (by omega),<- pQ j (by omega)]
      rw [acQ (by rw [agV,lU];omega),aeG,if_pos h1] at hj
      exact hj
     ·rw [if_neg (by omega),if_pos (by omega),aeG,if_pos (by omega),af2]
      rw [acR (by rw [agV,lU];omega),af2,agV,lU,pQ _ (by omega)] at hj
      rw [<- hj]
      congr 1
      omega
   obtain⟨o1,o2⟩:=zy (N:=NV σ) hO hC hG (d:=some n) hd hpn (S:=ρ.S n) (fun j hj=>⟨n,_,rfl,hn,hj⟩) hnv (ahD (.inl hSb) (fun j hj dA=>by rw [yB dA,yB dA];rfl) rfl rfl rfl (by rw [setRow_size,setRow_size];exact abV _))
   refine⟨_,?_,o1,o2⟩
   show _=Ending.returned (bN ((ρ.set H.length ⟨(ρ.L n).b,(ρ.L n).o,(ρ.L n).c - 1+1⟩ fun x=>x=(ρ.L n).b).L H.length) 0 (p.length - 1) 7)
   rw [(jz _ _ _ _).1,vsDen_eq,if_neg (by simp)]
   rfl
  ·cases hr
 ·cases hr
end
section
open Go Go.Sx Go.Proofs
variable {σ:Sg} {lp:Lp}
def nmT (n:Nat):Nat:=match n with | 0=>7 | 1=>14 | 2=>9 | _=>10
def OU (m:au) (q:Nat):List Cell:=cV ((gB AV.len 1 (dh 46 (dh 18 (au.wr {m with step:=13,ax:=4})))).map (Cell.cN nmT)) 44 (.vs 14 0 q 5 false)
def hpT (m:au) (l:List W) (q:Nat):Hp AV:=cS AV.gk 0 bL++[some (.cells (OU m q) fg),none,some (.bI (.notes m.aP)),some (.bI (.notes m.notes)),none,none,none,some (.bI (.eU l))]
def WS:List Nat:=[2,3,10,11,12]
def LT4:Code:=ia 3 (cA (eM Tryz.f91))
def Mc (m:au) (l:List W) (q:Nat) (i:Int) (r:List Sp) (lr:Nat):St AV :=
 {E:=only WS [(2,.v (.c .dq)),(3,.v (.c (.vs 15 0 lr 3 false))),(10,.v (.c (.vs 14 0 q 5 false))),(11,.v (.c (.it .i64 q))),(12,.v (.c (.it .i64 i)))] 23,H:=(hpT m l q)++[some (.bI (.eC r))]}
def NI (σ:Sg) (n:Nat) (l:List Sp):Bool:=decide (n=iL.len (F6 σ) (AV.eC l) /\ (n+1) * (SI.bytes PD+1)<=qU)
theorem rT4 (σ:Sg) (m:au) (l:List W) (q:Nat) (i:Int) (r:List Sp) (lr:Nat):(xc (NV σ) (bs (lv (NV σ) ca 5)) (fun _=>none) 23 LT4 (Mc m l q i r lr)).bind (eQ 15 23 WS eV) =
 .ite (decide (i < (q:Int))) (.aJ (decide (0<=i /\ i < (q:Int))) (.aJ (decide (0+i.toNat < l.length)) (.aJ (NI σ lr r) (.aE (.normal,Mc m l q (IntKind.wrap .i64 (i+1)) (r++[pT (l.getD (0+i.toNat) dS.bR)]) (lr+1)))))) (.aE (.exit 0,Mc m l q i r lr)):=by kernel_rfl
theorem RA {n:Nat} {l:List Sp} (h:n=l.length) (hn:l.length<=100000):NI σ n l=true:=by
 unfold NI
 subst h
 exact aaS ⟨rfl,abL (adN _ (afc hn)) (by decide)⟩
def EE (m:au) (l:List W) (q:Nat) (c:MC Sp):St AV:=Mc m l q c.k c.r c.r.length
theorem Nr (σ:Sg) (m:au) (l:List W) (q:Nat) (hq:q=l.length) (hm:l.length<=100000) (c:MC Sp) (r:Ex×MC Sp) (h:(yv 0 pT l c).val=some r) :
 ((xc (NV σ) (bs (lv (NV σ) ca 5)) (fun _=>none) 23 LT4 (EE m l q c)).bind (eQ 15 23 WS eV)).val=some (r.1,EE m l q r.2):=by
 replace h:=aD h
 obtain⟨hb,h⟩:=h
 obtain⟨h1,h2⟩:=aaV hb
 cases h
 obtain⟨k,s⟩:=c
 simp only at h1 h2
 have e1:0+(k:Int).toNat=k:=by omega
 have hw:IntKind.wrap .i64 ((k:Int)+1)=((k+1:Nat):Int):=lR (by omega)
 dsimp only [EE]
 rw [rT4]
 by_cases du:k < l.length
 ·rw [tG (aaS (by show (k:Int) < _;omega)),nv (aaS (by omega)),nv (aaS (by omega)),nv (RA rfl (by omega)),hw,gi dS.bR du,e1]
  simp only [goC,T.val,abl,abn,adY]
 ·rw [wG (aaZ (by show ¬(k:Int) < _;omega)),ad8 (by omega)]
  rfl
def am8 (m:au) (l:List W) (q:Nat) (s:St AV):Prop:=Sx.aF s.E 2=.v (.c .dq) /\ Sx.aF s.E 3=.v (.c .dq) /\ Sx.aF s.E 10=.v (.c (.vs 14 0 q 5 false)) /\ Sx.aF s.E 11=.v (.c (.it .i64 q)) /\ Sx.aF s.E 12=.v (.c (.il .i64 0)) /\ s.H=(hpT m l q)
def gT4 (sp:List Sp) (m:au) (l:List W) (q:Nat) (s:St AV):T (Ex×St AV):=.aJ (iI (am8 m l q s)) (.aE (.exit 0,Mc m l q l.length sp sp.length))
theorem aht {N':dV AV} (hF:N'.F=(NV σ).F) (hG:N'.G=(NV σ).G) (m:au) (l:List W) (q:Nat) (hq:q=l.length) (hm:l.length<=100000):fY Tryz.prog N' 23 LT4 (gT4 (l.map pT) m l q):=by
 have cH:gF Tryz.prog (NV σ) (bs (lv (NV σ) ca 5)):=dj (my rH tA J7 bn 5)
 refine eO (N:=NV σ) hF hG rH cH (lp:=fun _=>none) (fun _ _ _ g hg=>by cases hg) fun s s' ex cG=>?_
 obtain⟨E1,H1⟩:=s
 unfold gT4 at cG
 replace cG:=aD cG
 obtain⟨hb,cG⟩:=cG
 obtain⟨e2,e3,zo,Zn,e12,eH⟩:=gJ hb
 simp only at e2 e3 zo Zn e12 eH
 subst eH
 cases cG
 refine⟨{M:=MC Sp,sH:=EE m l q,step:=yv 0 pT l,ks:=WS,pk:=eV,zH:=(fun d a h=>by cases h),L:=15,len:=rfl,FL:=(by show 7<=15;decide),run:=Nr σ m l q hq hm,m:=⟨0,[]⟩,k:=_,m':=_,Ka:=?_,it:=W8 l 0 [] rfl (abJ _) rfl,fin:=?_}⟩
 ·refine ib (N:=NV σ) (s:=⟨E1,_⟩) (l:=[.eC []]) (fun a ha=>⟨3,mA.ty,by simp only [abk,abo,or_false] at ha;rw [ha];rfl⟩) (by show 7<=15;decide) fun k hk=>?_
  simp only [WS,abk,abo,or_false] at hk
  rcases hk with rfl | rfl | rfl | rfl | rfl
  ·exact .inl e2.symm
  ·exact .inr (.inr ⟨e3,0,3,by decide,rfl⟩)
  ·exact .inl zo.symm
  ·exact .inl Zn.symm
  ·exact .inr (.inl ⟨by show Sx.aF E1 12≠_;rw [e12];rintro ⟨⟩,uo _,fun ρ=>by show _=(Sx.aF E1 12).aq ρ;rw [e12];rfl⟩)
 ·simp only [acM,EE]
def alq (sp:List Sp) (m:au) (l:List W) (q:Nat) (lp:Lp):Lp:=lV 91 3 (gT4 sp m l q) lp
theorem alf {lp:Lp} (h:fH Tryz.prog (hP lp σ)) (m:au) (l:List W) (q:Nat) (hq:q=l.length) (hm:l.length<=100000):fH Tryz.prog (hP (alq (l.map pT) m l q lp) σ) :=
 lM h (fn:=Tryz.f91) (by kernel_rfl) (c:=eM Tryz.f91) (by kernel_rfl) (nt:=23) (by kernel_rfl) (b:=LT4) (cE (by kernel_rfl)) (aht (σ:=σ) (N':=hP lp σ) rfl rfl m l q hq hm)
def X1 (m:au) (l:List W) (q:Nat):Prop:=SV.v (.c .dq)=.v (.c .dq) /\ SV.v (.c .dq)=.v (.c .dq) /\ SV.v (.c (.vs 14 0 q 5 false))=.v (.c (.vs 14 0 q 5 false)) /\ SV.v (.c (.it .i64 q))=.v (.c (.it .i64 q)) /\ SV.v (.c (.il .i64 0))=.v (.c (.il .i64 0)) /\ (hpT m l q)=(hpT m l q)
theorem X0 (m:au) (l:List W) (q:Nat):iI (X1 m l q)=true:=iY ⟨rfl,rfl,rfl,rfl,rfl,rfl⟩
end
section
open Go Go.Sx Go.Proofs
variable {σ:Sg} {lp:Lp}
def C4 (σ:Sg) (sf:au->au) (ix:Nt->List Nt->Int) (may:Int->List Sp->Bool):mK:=bA 89 (Q4 σ (bP cJ bL (P1 Kb gW (fun m _=>some (V0 m)) fun m _=>(.ji [],sf m,[])))) (bA 92 (qh cJ bL (ixS ix)) (bA 93 ahP (bA 90 (qh cJ bL (agi may)) Ku)))
def B7 (n:Int) (l:List Sp):Bool:=!(l.any (qi n))
def Uh (σ:Sg):mK:=C4 σ kL eY B7
theorem Ri:dB Tryz.prog (NV σ) (Uh σ):=aK (Iz Z4) (aK agF (aK ab4 (aK agh C6)))
def Ds (lp:Lp) (σ:Sg) (tab:mK) (ks:List Nat) (m:au) (x:cr):T (Option (Unit×au)):=(Bv lp σ tab 31 bL (mW.bx x) (gV m) fg (ks.foldl (fun g k=>dh k g) (au.wr m)) []).map (kV B0 gW)
def PC (σ:Sg) (r:RT):Bool:=decide (r.ls=iL.len (F6 σ) (AV.eU r.m.seen) /\ (r.ls+1) * (SI.bytes U4+1)<=qU)
section
variable {β:Type} (I:Bool->β->β->β) (N:Bool->β->β) (L:RT->β)
def VI (sf:au->au) (r:RT):β:=N (y7 r) (N (V0 r.m) (L (dz (sf r.m))))
def ko (w:W) (r:RT):RT:={r with m:={r.m with seen:=r.m.seen++[w]},ls:=r.ls+1}
def I0 (σ:Sg) (sf:au->au) (x:cr) (r:RT):β:=N (PC σ r) (kO I N L (IntKind.wrap .i64 (r.m.index+1)) (ko x.w r) (VI N L sf (ko x.w r)))
def afS (sf:au->au) (x:cr) (r:RT):β:=VI N L sf {r with m:={r.m with clock:=x.w}}
def VJ (σ:Sg) (ix:Nt->List Nt->Int) (r:RT):β :=
 N (decide ((0:Int)<=0 /\ 0 < (r.ld:Int))) (N (decide (0 < r.m.aP.length)) (N (decide (r.ln=r.m.notes.length /\ r.m.notes.length<=100000))
   (N (decide (r.ln=r.m.notes.length /\ r.m.notes.length<=100000 /\ 0<=ix (r.m.aP.getD 0 bj.bR) r.m.notes /\ ix (r.m.aP.getD 0 bj.bR) r.m.notes < (r.m.notes.length:Int) /\ IntKind.wrap .i64 (ix (r.m.aP.getD 0 bj.bR) r.m.notes+1)=ix (r.m.aP.getD 0 bj.bR) r.m.notes+1))
     (N (decide ((0:Int)<=1 /\ 1<=(r.ld:Int) /\ (r.ld:Int)<=(r.ld:Int) /\ r.ld=iL.len (F6 σ) (AV.notes r.m.aP)))
       (oO I N L {m:={r.m with notes:=r.m.notes.take (ix (r.m.aP.getD 0 bj.bR) r.m.notes).toNat++r.m.notes.drop ((ix (r.m.aP.getD 0 bj.bR) r.m.notes).toNat+1),dK:=IntKind.wrap .i64 (r.m.dK+1),aP:=(r.m.aP.take (r.ld:Int).toNat).drop 1},ls:=r.ls,ld:=(r.ld:Int).toNat - 1,ln:=r.ln - 1})))))
end
theorem afj (σ:Sg) (sf:au->au) (ix:Nt->List Nt->Int) (may:Int->List Sp->Bool) (m:au) (x:cr):Ds jr σ (C4 σ sf ix may) [18,46] {m with step:=13,ax:=2} x=I0 tI tN tR σ sf x (dz {m with step:=13,ax:=2}):=by kernel_rfl
theorem afi (σ:Sg) (sf:au->au) (ix:Nt->List Nt->Int) (may:Int->List Sp->Bool) (m:au) (x:cr):Ds jr σ (C4 σ sf ix may) [18,46] {m with step:=13,ax:=3} x=I0 tI tN tR σ sf x (dz {m with step:=13,ax:=3}):=by kernel_rfl
theorem afg (σ:Sg) (sf:au->au) (ix:Nt->List Nt->Int) (may:Int->List Sp->Bool) (m:au) (x:cr):Ds jr σ (C4 σ sf ix may) [18,46] {m with step:=13,ax:=5} x=I0 tI tN tR σ sf x (dz {m with step:=13,ax:=5}):=by kernel_rfl
theorem ape (σ:Sg) (sf:au->au) (ix:Nt->List Nt->Int) (may:Int->List Sp->Bool) (m:au) (x:cr):Ds jr σ (C4 σ sf ix may) [18] {m with step:=15} x=afS tN tR sf x (dz {m with step:=15}):=by kernel_rfl
theorem apd (σ:Sg) (sf:au->au) (ix:Nt->List Nt->Int) (may:Int->List Sp->Bool) (m:au) (x:cr):Ds jr σ (C4 σ sf ix may) [18] {m with step:=16} x=VJ tI tN tR σ ix (dz {m with step:=16}):=by kernel_rfl
section
variable {β:Type} (I:Bool->β->β->β) (N:Bool->β->β) (L:RT->β)
def afR (σ:Sg) (sp:List Sp) (may:Int->List Sp->Bool) (x:cr) (r:RT):β:=N (PC σ r) (kO I N L (IntKind.wrap .i64 (r.m.index+1)) (ko x.w r)
 (N (iI (X1 r.m (r.m.seen++[x.w]) (r.ls+1))) (N (m7 (OU r.m (r.ls+1)) fg (OU r.m (r.ls+1)) fg) (N (decide (sp.length=sp.length /\ sp.length<=100000)) (I (may r.m.clock.bS sp) (L (fA 14 ⟨3,0,0,24,r.m.clock,fx r.m.clock 1⟩ (ko x.w r))) (L (dY 15 kG (ko x.w r))))))))
end
theorem afh (σ:Sg) (sp:List Sp) (sf:au->au) (ix:Nt->List Nt->Int) (may:Int->List Sp->Bool) (m:au) (x:cr):Ds (alq sp m (m.seen++[x.w]) (m.seen.length+1) jr) σ (C4 σ sf ix may) [18,46] {m with step:=13,ax:=4} x=afR tI tN tR σ sp may x (dz {m with step:=13,ax:=4}):=by kernel_rfl
end
section
open Go Go.Sx Go.Proofs
variable {σ:Sg} {lp:Lp}
theorem Wv {f:FuncId} {M:List Bool} (hM:7=M.length) {γ β α:Type} {A:l9 γ} {B:nL β} {O:wL α} {ok:α->γ->Option Bool} {next:α->γ->β×α}
 (j7:∀j x,Zc (ok j x)=true->qT Tryz.prog (NV σ) f (.v (.c (.ptr 7 0))::A.bx x) (gM M [O.V j]) (B.bx (next j x).1) (gM M [O.V (next j x).2])):cD Tryz.prog (NV σ) f (bP cJ M (fZ A B O ok next)):=by
 refine gH dE hM fun args l v l' nw h hl bM=>?_
 unfold fZ at h
 split at h
 ·rename_i r a
  split at h
  ·rename_i x j hx hj
   replace h:=jQ h
   obtain⟨oI,h⟩:=h
   cases h
   have ea:=O.ok _ _ hj
   subst ea
   exact jg (j7 j x oI) fun ρ=>by
    simp only [abv]
    rw [A.ok _ _ hx ρ]
  ·cases h
 ·cases h
theorem ahU {tab:mK} (ht:dB Tryz.prog (NV σ) tab) {f:FuncId} {M:List Bool} (hM:7=M.length) {β α:Type} {B:nL β} {O:wL α} {j:α} {ty:TypeId} {gs:Gs} (hl:o4 σ (O.V j)=some (fP AV.len ty (iQ gs))) {args:List SV} (hf:jy args=true) {r:β×α}
 (h:((gL σ tab f M args (O.V j) ty gs []).map (kV B O)).val=some (some r)):qT Tryz.prog (NV σ) f (.v (.c (.ptr 7 0))::args) (gM M [O.V j]) (B.bx r.1) (gM M [O.V r.2]):=by
 obtain⟨y,h1,h2⟩:=dp h
 rw [A7 h2] at h1
 exact(KO ht hM (O.FV j) hl (fI hf) h1).1
theorem ahT (qd:fH Tryz.prog (hP lp σ)) {tab:mK} (ht:dB Tryz.prog (NV σ) tab) {f:FuncId} {M:List Bool} (hM:7=M.length) {β α:Type} {B:nL β} {O:wL α} {j:α} {ty:TypeId} {gs:Gs} (hl:o4 σ (O.V j)=some (fP AV.len ty (iQ gs))) {args:List SV} (hf:jy args=true) {r:β×α}
 (h:((Bv lp σ tab f M args (O.V j) ty gs []).map (kV B O)).val=some (some r)):qT Tryz.prog (NV σ) f (.v (.c (.ptr 7 0))::args) (gM M [O.V j]) (B.bx r.1) (gM M [O.V r.2]):=by
 obtain⟨y,h1,h2⟩:=dp h
 rw [A7 h2] at h1
 exact sK (KN qd (B3 ht) hM (O.FV j) hl (fI hf) h1).1
section
variable {β:Type} (I:Bool->β->β->β) (N:Bool->β->β) (L:RT->β)
def kE (sz:RT->Bool) (x:cr) (r:RT):β :=
 if r.m.step=9 then L (dY 10 kG {r with m:={r.m with word:=x.w}})
 else if r.m.step=10 then N (sz r) (
  if r.m.ax=3 \/ r.m.ax=5 then L (fA 11 ⟨3,0,0,24,x.w,fx x.w 1⟩ (Dy r.m.word.bS x.w.bS {r with m:={r.m with clock:=x.w}}))
  else lI I N L (Dy r.m.word.bS x.w.bS {r with m:={r.m with clock:=x.w}}))
 else if r.m.step=11 then lI I N L r
 else if r.m.step=12 then kO I N L 0 {r with m:={r.m with clock:=x.w}} (L {r with m:={r.m with clock:=x.w}})
 else L (dY 15 kG r)
end
abbrev NN:Bool->au->au:=fun _ t=>t
def D8 (n:Int) (r:RT) (k:au):au:=kO cond NN RT.m n r k
def Ez (m:au):au:=rD {m:={m with notes:=m.notes.take (eY (m.aP.getD 0 bj.bR) m.notes).toNat++m.notes.drop ((eY (m.aP.getD 0 bj.bR) m.notes).toNat+1),dK:=IntKind.wrap .i64 (m.dK+1),aP:=m.aP.drop 1},ls:=m.seen.length,ld:=m.aP.length - 1,ln:=m.notes.length - 1}
def bV (m:au) (x:cr):au :=
 if m.step=13 then D8 (IntKind.wrap .i64 (m.index+1)) (ko x.w (dz m)) (if m.ax=4 then cond (B7 m.clock.bS ((m.seen++[x.w]).map pT)) (fA 14 ⟨3,0,0,24,m.clock,fx m.clock 1⟩ (ko x.w (dz m))).m (dY 15 kG (ko x.w (dz m))).m else kL (ko x.w (dz m)).m)
 else if m.step=15 then kL {m with clock:=x.w}
 else if m.step=16 then Ez m
 else if 9<=m.step then kE cond NN RT.m (fun _=>true) x (dz m)
 else jd cond NN RT.m x (dz m)
def Ja (m:au):Bool:=decide (R2 m /\ m.seen.length<=1000 /\ 1<=m.cR /\ m.cR<=6 /\
 (m.step=1 \/ m.step=2 \/ m.step=3 \/ (m.step=4 /\ (m.ax=2 \/ m.ax=3) /\ 0<=m.index /\ m.index < 9) \/ (m.step=5 /\ 0<=m.call.i /\ m.call.i < 9) \/ (m.step=6 /\ (m.ax=3 \/ m.ax=5) /\ 0<=m.call.i /\ m.call.i < 9) \/ m.step=7 \/ m.step=8 \/ m.step=9 \/
  (m.step=10 /\ (m.ax=3 \/ m.ax=4 \/ m.ax=5)) \/ (m.step=11 /\ (m.ax=3 \/ m.ax=5)) \/ (m.step=12 /\ m.ax=4) \/ (m.step=13 /\ 2<=m.ax /\ 0<=m.index /\ m.index < 100) \/ (m.step=14 /\ m.ax=4) \/ (m.step=15 /\ m.ax=4) \/
  (m.step=16 /\ 0 < m.aP.length /\ 0<=eY (m.aP.getD 0 bj.bR) m.notes /\ eY (m.aP.getD 0 bj.bR) m.notes < (m.notes.length:Int))))
theorem adp {b:Bool} {t e:T (Option (Unit×au))} {x y:au} (h1:b=true->gd t x) (h2:b=false->gd e y):gd (tI b t e) (cond b x y):=by
 cases b with
 | true=>exact h1 rfl
 | false=>exact h2 rfl
theorem yn {n:Int} {r:RT} (h:iJ r) {t:T (Option (Unit×au))} {k:au} (hk:gd t k) (hn:0<=n) (h1:1<=r.m.cR) (h2:r.m.cR<=6):gd (kO tI tN tR n r t) (D8 n r k):=by
 have ew:IntKind.wrap .i64 (r.m.cR * 9)=r.m.cR * 9:=lR (by omega)
 unfold D8 kO
 refine eA (fun _=>adp (fun _=>hk) fun hb=>?_) fun _=>adp (fun _=>hk) fun hb=>?_
 ·have du:=abb hb
  rw [ew] at du
  have e1:Int.tdiv n 9=n / 9:=Int.tdiv_eq_ediv_of_nonneg hn
  have e2:Int.tmod n 9=n % 9:=Int.tmod_eq_emod_of_nonneg hn
  have e3:IntKind.wrap .i64 (n / 9)=n / 9:=lR (by omega)
  exact mO rfl (mO rfl (mO (by rw [e1,e2,e3];exact rJ (by omega) (by omega) (by omega) (by omega)) (jc (r:=fA 13 _ {r with m:={r.m with index:=n}}) h)))
 ·have du:=abb hb
  exact mO (rI hn (by omega)) (jc (r:=fA 13 _ {r with m:={r.m with index:=n}}) h)
theorem Nc {x:cr} {r:RT} (h:iJ r) (h1:0<=r.m.me) (h2:r.m.me < 6) (h3:0<=r.m.call.i) (h4:r.m.call.i < 9):gd (gm tI tN tR x r) (gm cond NN RT.m x r):=by
 unfold gm
 refine eA (fun _=>jc h) fun _=>eA (fun _=>eA (fun _=>jc h) fun _=>eA (fun _=>C1 (Cs (r:={r with m:={r.m with word:=x.w}}) h (rJ h1 h2 h3 h4)) (jc (r:=dt ⟨x.w,true⟩ r) (pN h))) fun _=>jc (r:=dt ⟨x.w,true⟩ r) (pN h)) fun _=>?_
 exact eA (fun _=>C1 (jc (r:=dt ⟨r.m.word,true⟩ r) (pN h)) (Cs h (rJ h1 h2 h3 h4))) fun _=>C1 (jc (r:=dt ⟨r.m.word,true⟩ r) (pN h)) (C1 (IE h (rI h1 h2)) (IE h (rI h1 h2)))
theorem ZF {x:cr} {r:RT} (h:iJ r) (h1:0<=r.m.me) (h2:r.m.me < 6) (h3:r.m.step=4->0<=r.m.index /\ r.m.index < 9) (h4:(r.m.step=5 \/ r.m.step=6)->0<=r.m.call.i /\ r.m.call.i < 9) (h5:r.m.step=1 \/ r.m.step=2 \/ r.m.step=3 \/ r.m.step=4 \/ r.m.step=5 \/ r.m.step=6 \/ r.m.step=7 \/ r.m.step=8):gd (jd tI tN tR x r) (jd cond NN RT.m x r):=by
 unfold jd
 refine eA (fun _=>jc (pN h)) fun _=>eA (fun _=>lk h) fun _=>eA (fun _=>IE h (rI h1 h2)) fun _=>eA (fun e=>Kq h h1 h2 _ (by have:=h3 e;omega)) fun _=>eA (fun _=>jc h) fun _=>?_
 by_cases h7:r.m.step=7
 ·unfold gm
  rw [if_pos h7,if_pos h7]
  exact jc h
 ·exact Nc h h1 h2 (h4 (by omega)).1 (h4 (by omega)).2
theorem T7 {x:cr} {r:RT} (h:iJ r) (hn:r.m.notes.length<=100000) (h1:1<=r.m.cR) (h2:r.m.cR<=6):gd (kE tI tN tR (Gw σ) x r) (kE cond NN RT.m (fun _=>true) x r):=by
 unfold kE
 exact eA (fun _=>jc h) fun _=>eA (fun _=>mO (PB h hn) (eA (fun _=>jc (Ee (r:={r with m:={r.m with clock:=x.w}}) h)) fun _=>C0 (Ee (r:={r with m:={r.m with clock:=x.w}}) h))) fun _=>eA (fun _=>C0 h) fun _ =>
  eA (fun _=>yn (r:={r with m:={r.m with clock:=x.w}}) h (jc (r:={r with m:={r.m with clock:=x.w}}) h) (aef 0) h1 h2) fun _=>jc h
theorem j5 {w:W} {r:RT} (h:iJ r):iJ (ko w r):=⟨by show r.ls+1=(r.m.seen++[w]).length;rw [abl,h.1];rfl,h.2.1,h.2.2⟩
theorem yz {r:RT} (h:iJ r) (hn:r.m.seen.length<=100000):PC σ r=true:=by
 unfold PC
 refine aaS ⟨h.1,?_⟩
 rw [h.1]
 exact abL (adN _ (afc hn)) (by decide)
theorem Cr {r:RT} (h:iJ r) (hs:V0 r.m=true):gd (VI tN tR kL r) (kL r.m):=mO (CG h.1 h.2.1 h.2.2) (mO hs (jc (r:=dz (kL r.m)) ⟨rfl,rfl,rfl⟩))
theorem ZG {r:RT} (h:iJ r):gd (oO tI tN tR r) (rD r):=by
 unfold oO rD oO
 by_cases h0:r.m.aP.length=0
 ·have e:((r.ld:Int)==0)=true:=by rw [h.2.1,h0];rfl
  rw [e]
  exact lk h
 ·have e:((r.ld:Int)==0)=false:=by rw [h.2.1];simp only [beq_eq_false_iff_ne];omega
  rw [e]
  exact mO (aaS ⟨aef 0,by rw [h.2.1];omega⟩) (mO (aaS (by omega)) (jc (r:=fA 16 _ r) h))
def gsK (ks:List Nat) (m:au):Gs:=ks.foldl (fun g k=>dh k g) (au.wr m)
def MW (σ:Sg) (m:au) (x:cr):Prop:=qT Tryz.prog (NV σ) 31 (.v (.c (.ptr 7 0))::mW.bx x) (gM bL [gV m]) (.v (.c .fL)) (gM bL [gV (bV m x)])
theorem Yj {ks:List Nat} {m:au} {x:cr} {t:T (Option (Unit×au))} (hl:o4 σ (gV m)=some (fP AV.len fg (iQ (gsK ks m)))) (e:Vi σ ks m x=t) (hv:gd t (bV m x)):MW σ m x :=
 ahU (O:=gW) (B:=B0) (r:=((),bV m x)) C6 rfl hl (mW.free x) ((congrArg T.val e).trans hv)
theorem A9 {lp:Lp} (qd:fH Tryz.prog (hP lp σ)) {ks:List Nat} {m:au} {x:cr} {t:T (Option (Unit×au))} (hl:o4 σ (gV m)=some (fP AV.len fg (iQ (gsK ks m)))) (e:Ds lp σ (Uh σ) ks m x=t) (hv:gd t (bV m x)):MW σ m x :=
 ahT (O:=gW) (B:=B0) (r:=((),bV m x)) qd Ri rfl hl (mW.free x) ((congrArg T.val e).trans hv)
theorem Rf {m:au} {x:cr} (ks:List Nat) (h1:0<=m.me) (h2:m.me < 6) (h3:m.step=4->0<=m.index /\ m.index < 9) (h4:(m.step=5 \/ m.step=6)->0<=m.call.i /\ m.call.i < 9) (h5:1<=m.step /\ m.step<=8)
 (hl:o4 σ (gV m)=some (fP AV.len fg (iQ (gsK ks m)))) (e:Vi σ ks m x=jd tI tN tR x (dz m)):MW σ m x:=Yj hl e (by
 unfold bV
 rw [if_neg (by omega),if_neg (by omega),if_neg (by omega),if_neg (by omega)]
 exact ZF ⟨rfl,rfl,rfl⟩ h1 h2 h3 h4 (by dsimp only [dz];omega))
theorem tkZ {m:au} {x:cr} (ks:List Nat) (hn:m.notes.length<=100000) (h1:1<=m.cR) (h2:m.cR<=6) (h5:9<=m.step /\ m.step<=12 \/ m.step=14)
 (hl:o4 σ (gV m)=some (fP AV.len fg (iQ (gsK ks m)))) (e:Vi σ ks m x=afQ tI tN tR σ x (dz m)):MW σ m x:=Yj hl e (by
 unfold bV
 rw [if_neg (by omega),if_neg (by omega),if_neg (by omega),if_pos (by omega)]
 exact T7 ⟨rfl,rfl,rfl⟩ hn h1 h2)
theorem Ub (σ:Sg) (m:au) (x:cr) (h:Ja m=true):MW σ m x:=by
 obtain⟨⟨h1,h2,h3,h4,h5⟩,h6,h7,h8,h9⟩:=aaV (h:decide _=true)
 clear h
 obtain⟨⟨k,cW,cU,new,i,j,p9⟩,st,acc,wd,wK,ix,seen,aP,e,me,mS,wE,holds,span,notes,dK,bz⟩:=m
 dsimp only at h1 h2 h3 h4 h5 h6 h7 h8 h9
 have he:e=1 \/ e=2 \/ e=3 \/ e=4 \/ e=5:=by omega
 have n9 {n:Int}:0<=n->n < 9->n=0 \/ n=1 \/ n=2 \/ n=3 \/ n=4 \/ n=5 \/ n=6 \/ n=7 \/ n=8:=by omega
 clear h1 h2
 rcases h9 with rfl | rfl | rfl | ⟨rfl,h9,ha,hb⟩ | ⟨rfl,ha,hb⟩ | ⟨rfl,h9,ha,hb⟩ | rfl | rfl | rfl | ⟨rfl,h9⟩ | ⟨rfl,h9⟩ | ⟨rfl,h9⟩ | ⟨rfl,h9,ha,hb⟩ | ⟨rfl,h9⟩ | ⟨rfl,h9⟩ | ⟨rfl,h9,ha,hb⟩
 ·exact Rf [18] h3 h4 (by dsimp only;omega) (by dsimp only;omega) (by dsimp only;omega) (by as_aux_lemma=>kernel_rfl) (by as_aux_lemma=>kernel_rfl)
 ·exact Rf [18] h3 h4 (by dsimp only;omega) (by dsimp only;omega) (by dsimp only;omega) (by as_aux_lemma=>kernel_rfl) (by as_aux_lemma=>kernel_rfl)
 ·exact Rf [18] h3 h4 (by dsimp only;omega) (by dsimp only;omega) (by dsimp only;omega) (by as_aux_lemma=>kernel_rfl) (by as_aux_lemma=>kernel_rfl)
 ·rcases h9 with rfl | rfl<;>rcases n9 ha hb with rfl | rfl | rfl | rfl | rfl | rfl | rfl | rfl | rfl<;>exact Rf [18,46,43] h3 h4 (by dsimp only;omega) (by dsimp only;omega) (by dsimp only;omega) (by as_aux_lemma=>kernel_rfl) (by as_aux_lemma=>kernel_rfl)
 ·rcases he with rfl | rfl | rfl | rfl | rfl
  ·exact Rf [18,46] h3 h4 (by dsimp only;omega) (by dsimp only;omega) (by dsimp only;omega) (by as_aux_lemma=>kernel_rfl) (by as_aux_lemma=>kernel_rfl)
  ·rcases n9 ha hb with rfl | rfl | rfl | rfl | rfl | rfl | rfl | rfl | rfl<;>exact Rf [18,46,14] h3 h4 (by dsimp only;omega) (by dsimp only;omega) (by dsimp only;omega) (by as_aux_lemma=>kernel_rfl) (by as_aux_lemma=>kernel_rfl)
  ·exact Rf [18,46] h3 h4 (by dsimp only;omega) (by dsimp only;omega) (by dsimp only;omega) (by as_aux_lemma=>kernel_rfl) (by as_aux_lemma=>kernel_rfl)
  ·exact Rf [18,46] h3 h4 (by dsimp only;omega) (by dsimp only;omega) (by dsimp only;omega) (by as_aux_lemma=>kernel_rfl) (by as_aux_lemma=>kernel_rfl)
  ·exact Rf [18,46] h3 h4 (by dsimp only;omega) (by dsimp only;omega) (by dsimp only;omega) (by as_aux_lemma=>kernel_rfl) (by as_aux_lemma=>kernel_rfl)
 ·rcases h9 with rfl | rfl
  ·rcases n9 ha hb with rfl | rfl | rfl | rfl | rfl | rfl | rfl | rfl | rfl<;>exact Rf [18,46,14] h3 h4 (by dsimp only;omega) (by dsimp only;omega) (by dsimp only;omega) (by as_aux_lemma=>kernel_rfl) (by as_aux_lemma=>kernel_rfl)
  ·exact Rf [18,46] h3 h4 (by dsimp only;omega) (by dsimp only;omega) (by dsimp only;omega) (by as_aux_lemma=>kernel_rfl) (by as_aux_lemma=>kernel_rfl)
 ·exact Rf [18] h3 h4 (by dsimp only;omega) (by dsimp only;omega) (by dsimp only;omega) (by as_aux_lemma=>kernel_rfl) (by as_aux_lemma=>kernel_rfl)
 ·exact Rf [18] h3 h4 (by dsimp only;omega) (by dsimp only;omega) (by dsimp only;omega) (by as_aux_lemma=>kernel_rfl) (by as_aux_lemma=>kernel_rfl)
 ·exact tkZ [18] h5 h7 h8 (by dsimp only;omega) (by as_aux_lemma=>kernel_rfl) (by as_aux_lemma=>kernel_rfl)
 ·rcases h9 with rfl | rfl | rfl<;>exact tkZ [18,46] h5 h7 h8 (by dsimp only;omega) (by as_aux_lemma=>kernel_rfl) (by as_aux_lemma=>kernel_rfl)
 ·rcases h9 with rfl | rfl<;>exact tkZ [18,46] h5 h7 h8 (by dsimp only;omega) (by as_aux_lemma=>kernel_rfl) (by as_aux_lemma=>kernel_rfl)
 ·subst h9;exact tkZ [18,46] h5 h7 h8 (by dsimp only;omega) (by as_aux_lemma=>kernel_rfl) (by as_aux_lemma=>kernel_rfl)
 ·have hw:IntKind.wrap .i64 (ix+1)=ix+1:=lR (by omega)
  have hn:0<=IntKind.wrap .i64 (ix+1):=by rw [hw];omega
  rcases he with rfl | rfl | rfl | rfl | rfl
  ·exact absurd h9 (by decide)
  ·refine A9 ou (ks:=[18,46]) rfl (afj σ kL eY B7 ⟨⟨k,cW,cU,new,i,j,p9⟩,13,acc,wd,wK,ix,seen,aP,2,me,mS,wE,holds,span,notes,dK,bz⟩ x) ?_
   exact mO (yz (r:=dz ⟨⟨k,cW,cU,new,i,j,p9⟩,13,acc,wd,wK,ix,seen,aP,2,me,mS,wE,holds,span,notes,dK,bz⟩) ⟨rfl,rfl,rfl⟩ (by show seen.length<=_;omega)) (yn (r:=ko x.w (dz ⟨⟨k,cW,cU,new,i,j,p9⟩,13,acc,wd,wK,ix,seen,aP,2,me,mS,wE,holds,span,notes,dK,bz⟩)) (j5 ⟨rfl,rfl,rfl⟩) (Cr (j5 ⟨rfl,rfl,rfl⟩) (aaS ⟨by show (2:Int)<=2;decide,by show (2:Int)<=5;decide,by show (seen++[x.w]).length<=_;rw [abl];simp only [abn,adY];omega,h5⟩)) hn h7 h8)
  ·refine A9 ou (ks:=[18,46]) rfl (afi σ kL eY B7 ⟨⟨k,cW,cU,new,i,j,p9⟩,13,acc,wd,wK,ix,seen,aP,3,me,mS,wE,holds,span,notes,dK,bz⟩ x) ?_
   exact mO (yz (r:=dz ⟨⟨k,cW,cU,new,i,j,p9⟩,13,acc,wd,wK,ix,seen,aP,3,me,mS,wE,holds,span,notes,dK,bz⟩) ⟨rfl,rfl,rfl⟩ (by show seen.length<=_;omega)) (yn (r:=ko x.w (dz ⟨⟨k,cW,cU,new,i,j,p9⟩,13,acc,wd,wK,ix,seen,aP,3,me,mS,wE,holds,span,notes,dK,bz⟩)) (j5 ⟨rfl,rfl,rfl⟩) (Cr (j5 ⟨rfl,rfl,rfl⟩) (aaS ⟨by show (2:Int)<=3;decide,by show (3:Int)<=5;decide,by show (seen++[x.w]).length<=_;rw [abl];simp only [abn,adY];omega,h5⟩)) hn h7 h8)
  ·refine A9 (alf ou ⟨⟨k,cW,cU,new,i,j,p9⟩,13,acc,wd,wK,ix,seen,aP,4,me,mS,wE,holds,span,notes,dK,bz⟩ (seen++[x.w]) (seen.length+1) (by rw [abl];rfl) (by rw [abl];simp only [abn,adY];omega)) (ks:=[18,46]) rfl (afh σ ((seen++[x.w]).map pT) kL eY B7 ⟨⟨k,cW,cU,new,i,j,p9⟩,13,acc,wd,wK,ix,seen,aP,4,me,mS,wE,holds,span,notes,dK,bz⟩ x) ?_
   exact mO (yz (r:=dz ⟨⟨k,cW,cU,new,i,j,p9⟩,13,acc,wd,wK,ix,seen,aP,4,me,mS,wE,holds,span,notes,dK,bz⟩) ⟨rfl,rfl,rfl⟩ (by show seen.length<=_;omega)) (yn (r:=ko x.w (dz ⟨⟨k,cW,cU,new,i,j,p9⟩,13,acc,wd,wK,ix,seen,aP,4,me,mS,wE,holds,span,notes,dK,bz⟩)) (j5 ⟨rfl,rfl,rfl⟩) (mO (X0 _ _ _) (mO (lS _ _) (mO (aaS ⟨rfl,by rw [agR,abl];simp only [abn,adY];omega⟩) (C1 (jc (r:=fA 14 _ (ko x.w (dz ⟨⟨k,cW,cU,new,i,j,p9⟩,13,acc,wd,wK,ix,seen,aP,4,me,mS,wE,holds,span,notes,dK,bz⟩))) (j5 ⟨rfl,rfl,rfl⟩)) (jc (r:=dY 15 _ (ko x.w (dz ⟨⟨k,cW,cU,new,i,j,p9⟩,13,acc,wd,wK,ix,seen,aP,4,me,mS,wE,holds,span,notes,dK,bz⟩))) (j5 ⟨rfl,rfl,rfl⟩)))))) hn h7 h8)
  ·refine A9 ou (ks:=[18,46]) rfl (afg σ kL eY B7 ⟨⟨k,cW,cU,new,i,j,p9⟩,13,acc,wd,wK,ix,seen,aP,5,me,mS,wE,holds,span,notes,dK,bz⟩ x) ?_
   exact mO (yz (r:=dz ⟨⟨k,cW,cU,new,i,j,p9⟩,13,acc,wd,wK,ix,seen,aP,5,me,mS,wE,holds,span,notes,dK,bz⟩) ⟨rfl,rfl,rfl⟩ (by show seen.length<=_;omega)) (yn (r:=ko x.w (dz ⟨⟨k,cW,cU,new,i,j,p9⟩,13,acc,wd,wK,ix,seen,aP,5,me,mS,wE,holds,span,notes,dK,bz⟩)) (j5 ⟨rfl,rfl,rfl⟩) (Cr (j5 ⟨rfl,rfl,rfl⟩) (aaS ⟨by show (2:Int)<=5;decide,by show (5:Int)<=5;decide,by show (seen++[x.w]).length<=_;rw [abl];simp only [abn,adY];omega,h5⟩)) hn h7 h8)
 ·subst h9;exact tkZ [18,46] h5 h7 h8 (by dsimp only;omega) (by as_aux_lemma=>kernel_rfl) (by as_aux_lemma=>kernel_rfl)
 ·subst h9
  refine A9 ou (ks:=[18]) rfl (ape σ kL eY B7 ⟨⟨k,cW,cU,new,i,j,p9⟩,15,acc,wd,wK,ix,seen,aP,4,me,mS,wE,holds,span,notes,dK,bz⟩ x) ?_
  exact Cr (r:={dz ⟨⟨k,cW,cU,new,i,j,p9⟩,15,acc,wd,wK,ix,seen,aP,4,me,mS,wE,holds,span,notes,dK,bz⟩ with m:={(⟨⟨k,cW,cU,new,i,j,p9⟩,15,acc,wd,wK,ix,seen,aP,4,me,mS,wE,holds,span,notes,dK,bz⟩:au) with clock:=x.w}}) ⟨rfl,rfl,rfl⟩ (aaS ⟨by show (2:Int)<=4;decide,by show (4:Int)<=5;decide,by show seen.length<=_;omega,h5⟩)
 ·refine A9 ou (ks:=[18]) rfl (apd σ kL eY B7 ⟨⟨k,cW,cU,new,i,j,p9⟩,16,acc,wd,wK,ix,seen,aP,e,me,mS,wE,holds,span,notes,dK,bz⟩ x) ?_
  have hl:(0:Int)<=aP.length:=by omega
  have e1:((aP.length:Int)).toNat=aP.length:=by omega
  unfold VJ
  refine mO (aaS ⟨aef 0,by show (0:Int) < aP.length;omega⟩) (mO (aaS h9) (mO (aaS ⟨rfl,h5⟩) (mO (aaS ⟨rfl,h5,ha,hb,lR ?_⟩) (mO (aaS ⟨by decide,by show (1:Int)<=aP.length;omega,aef _,rfl⟩) ?_))))
  ·have h5:notes.length<=100000:=h5
   have ha:0<=eY (aP.getD 0 bj.bR) notes:=ha
   have hb:eY (aP.getD 0 bj.bR) notes < (notes.length:Int):=hb
   show _<=eY (aP.getD 0 bj.bR) notes+1 /\ eY (aP.getD 0 bj.bR) notes+1<=_
   omega
  ·have key:∀dd:List Nt,dd=aP.drop 1->gd (oO tI tN tR {m:={(⟨⟨k,cW,cU,new,i,j,p9⟩,16,acc,wd,wK,ix,seen,aP,e,me,mS,wE,holds,span,notes,dK,bz⟩:au) with notes:=notes.take (eY (aP.getD 0 bj.bR) notes).toNat++notes.drop ((eY (aP.getD 0 bj.bR) notes).toNat+1),dK:=IntKind.wrap .i64 (dK+1),aP:=dd},ls:=seen.length,ld:=aP.length - 1,ln:=notes.length - 1}) (Ez ⟨⟨k,cW,cU,new,i,j,p9⟩,16,acc,wd,wK,ix,seen,aP,e,me,mS,wE,holds,span,notes,dK,bz⟩):=by
    rintro _ rfl
    refine ZG ⟨rfl,?_,?_⟩
    ·show aP.length - 1=(aP.drop 1).length
     rw [agW]
    ·show notes.length - 1=(notes.take (eY (aP.getD 0 bj.bR) notes).toNat++notes.drop ((eY (aP.getD 0 bj.bR) notes).toNat+1)).length
     have ha:0<=eY (aP.getD 0 bj.bR) notes:=ha
     have hb:eY (aP.getD 0 bj.bR) notes < (notes.length:Int):=hb
     rw [abl,agV,agW]
     omega
   exact key ((aP.take aP.length).drop 1) (by rw [List.take_length])
theorem ZJ:cD Tryz.prog (NV σ) 31 (bP cJ bL (fZ mW B0 gW (fun m _=>some (Ja m)) (fun m x=>((),bV m x)))) :=
 Wv rfl fun m x h=>Ub σ m x h
