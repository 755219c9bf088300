import Derived.Test.YtadmfaohjnjajaaGreatDoorQk
import Derived.Shelf.Spec.SlicesInsertGrow
import Derived.Laws.CopyRow
set_option linter.unusedVariables false
set_option linter.unusedSimpArgs false
set_option maxHeartbeats 4000000
namespace Go.Proofs.YtadmfaohjnjajaaGreatDoor
section
open Go Go.Sx Go.Proofs
set_option maxRecDepth 100000
variable {σ:Sg} {lp:Lp}
def ksI:List Nat:=[0,3,4,6,7,8]
noncomputable def LI:Code:=fv 2 (bx (cB Tryz.f92))
def E3 (x:Nt) (q:Nat) (l:List Nt) (i:Int) (y:Int):St AV :=
 {E:=only ksI [(0,.v (.c (.vs 7 0 q 7 false))),(3,.v (.c (.ptr 8 0))),(4,.v (.c (.it .i64 y))),(6,.v (.c (.vs 7 0 q 7 false))),(7,.v (.c (.it .i64 q))),(8,.v (.c (.it .i64 i)))] 19,H:=hpC noM [.abs (.notes l),.cells (Nt.enc x) 151]}
def my (x y:Nt):Bool:=x.slot==y.slot&&(x.gen==y.gen&&(x.tag==y.tag&&(x.num==y.num&&(x.mark==y.mark&&(x.birth==y.birth&&x.death==y.death)))))
theorem iR (σ:Sg) (x:Nt) (q:Nat) (l:List Nt) (i y:Int):(xc (NV σ) (aN (lv (NV σ) bm 5)) (fun _=>none) 19 LI (E3 x q l i y)).bind (cM 9 19 ksI cP) =
 .ite (decide (i < (q:Int))) (.need (match decide (0<=i /\ i < (q:Int)) with | true=>decide (0+i.toNat < l.length) | false=>false) (.ite (my x (l.getD (0+i.toNat) knotes.dflt)) (.leaf (.ret,E3 x q l i i)) (.leaf (.normal,E3 x q l (IntKind.wrap .i64 (i+1)) y)))) (.leaf (.exit 0,E3 x q l i y)):=by kernel_rfl
def z7 (x:Nt) (l:List Nt) (m:MA):St AV:=E3 x l.length l m.k (cond m.b m.k 0)
theorem HK (σ:Sg) (x:Nt) (l:List Nt) (hl:l.length<=100000) (m:MA) (r:Ex×MA) (h:(l5 l (my x) m).val=some r) :
 ((xc (NV σ) (aN (lv (NV σ) bm 5)) (fun _=>none) 19 LI (z7 x l m)).bind (cM 9 19 ksI cP)).val=some (r.1,z7 x l r.2):=by
 replace h:=aj h
 obtain⟨hb,h⟩:=h
 obtain⟨h1,h2⟩:=of_decide_eq_true hb
 simp only [T.val,Option.some.injEq] at h
 subst h
 obtain⟨k,b⟩:=m
 simp only at h1 h2
 subst h2
 have e1:0+(k:Int).toNat=k:=by omega
 have hw:IntKind.wrap .i64 ((k:Int)+1)=((k+1:Nat):Int):=gM (by omega)
 dsimp only [z7]
 rw [iR]
 by_cases hk:k < l.length
 ·rw [ivT (decide_eq_true (by show (k:Int) < _;omega)),nv (by rw [decide_eq_true (by omega)];exact decide_eq_true (by omega)),e1,hw,dx knotes.dflt hk]
  cases hp:my x (l.getD k knotes.dflt) with
  | true=>simp only [goA,hp];rfl
  | false=>simp only [goA,hp];rfl
 ·rw [ivF (decide_eq_false (by show ¬(k:Int) < _;omega)),List.drop_eq_nil_of_le (by omega)]
  rfl
def Yb (x:Nt) (l:List Nt) (s:St AV):Prop:=Sx.look s.E 0=.v (.c (.vs 7 0 l.length 7 false)) /\ Sx.look s.E 3=.v (.c (.ptr 8 0)) /\ Sx.look s.E 4=.v (.c (.il .i64 0)) /\ Sx.look s.E 6=.v (.c (.vs 7 0 l.length 7 false)) /\ Sx.look s.E 7=.v (.c (.it .i64 l.length)) /\ Sx.look s.E 8=.v (.c (.il .i64 0)) /\ s.H=hpC noM [.abs (.notes l),.cells (Nt.enc x) 151]
noncomputable def gI (an:Bool) (ix:Nat) (x:Nt) (l:List Nt) (s:St AV):T (Ex×St AV):=.need (fO (Yb x l s)) (.ite an (.leaf (.ret,E3 x l.length l ix ix)) (.leaf (.exit 0,E3 x l.length l l.length 0)))
theorem WV {N':Env AV} (hF:N'.F=(NV σ).F) (hG:N'.G=(NV σ).G) (x:Nt) (l:List Nt) (hl:l.length<=100000):dG Tryz.prog N' 19 LI (gI (l.any (my x)) (eW (my x) 0 l) x l):=by
 have hcal:dM Tryz.prog (NV σ) (aN (lv (NV σ) bm 5)):=bK (iH okV oq hvV aJ 5)
 refine cJ (N:=NV σ) hF hG okV hcal (lp:=fun _=>none) (fun _ _ _ g hg=>by cases hg) fun s s' ex hgs=>?_
 obtain⟨E1,H1⟩:=s
 unfold gI at hgs
 replace hgs:=aj hgs
 obtain⟨hb,hgs⟩:=hgs
 obtain⟨e0,e3,e4,e6,e7,e8,eH⟩:=eU hb
 simp only at e0 e3 e4 e6 e7 e8 eH
 subst eH
 have hgo:(ex,s')=((kO (my x) 0 l).1,z7 x l (kO (my x) 0 l).2):=by
  cases ha:l.any (my x) with
  | true =>
    rw [ivT ha] at hgs
    simp only [T.val,Option.some.injEq] at hgs
    rw [<- hgs];unfold kO;rw [ha];rfl
  | false =>
    rw [ivF ha] at hgs
    simp only [T.val,Option.some.injEq] at hgs
    rw [<- hgs];unfold kO;rw [ha]
    simp only [z7,Nat.zero_add,cond_false]
 simp only [Prod.mk.injEq] at hgo
 obtain⟨rfl,rfl⟩:=hgo
 refine⟨{M:=MA,fam:=z7 x l,step:=l5 l (my x),ks:=ksI,pk:=cP,hpk:=(fun d a h=>by cases h),L:=9,len:=rfl,hGL:=(by show 7<=9;decide),run:=HK σ x l hl,m:=⟨0,false⟩,k:=_,m':=_,ent:=?_,it:=C8 l 0 rfl (Nat.zero_le _),fin:=rfl}⟩
 refine mz (N:=NV σ) (nt:=19) (E:=E1) (ks:=ksI) (E':=[(0,.v (.c (.vs 7 0 l.length 7 false))),(3,.v (.c (.ptr 8 0))),(4,.v (.c (.it .i64 (0:Int)))),(6,.v (.c (.vs 7 0 l.length 7 false))),(7,.v (.c (.it .i64 l.length))),(8,.v (.c (.it .i64 (0:Nat))))]) fun k hk=>?_
 simp only [ksI,List.mem_cons,List.not_mem_nil,or_false] at hk
 rcases hk with rfl | rfl | rfl | rfl | rfl | rfl
 ·exact .inl e0.symm
 ·exact .inl e3.symm
 ·exact .inr ⟨by rw [e4];rintro ⟨⟩,pL _,fun ρ=>by rw [e4];rfl⟩
 ·exact .inl e6.symm
 ·exact .inl e7.symm
 ·exact .inr ⟨by rw [e8];rintro ⟨⟩,pL _,fun ρ=>by rw [e8];rfl⟩
noncomputable def lpI (an:Bool) (ix:Nat) (x:Nt) (l:List Nt):Lp:=gT 92 2 (gI an ix x l) fJ
theorem Wv (x:Nt) (l:List Nt) (hl:l.length<=100000):cV Tryz.prog (NVl (lpI (l.any (my x)) (eW (my x) 0 l) x l) σ) :=
 gJ jM (fn:=Tryz.f92) (by kernel_rfl) (c:=cB Tryz.f92) (by kernel_rfl) (nt:=19) (by kernel_rfl) (b:=LI) (br (by kernel_rfl)) (WV (σ:=σ) rfl rfl x l hl)
def Xl (x:Nt) (l:List Nt):Prop:=SV.v (.c (.vs 7 0 l.length 7 false))=.v (.c (.vs 7 0 l.length 7 false)) /\ SV.v (.c (.ptr 8 0))=.v (.c (.ptr 8 0)) /\ SV.v (.c (.il .i64 0))=.v (.c (.il .i64 0)) /\ SV.v (.c (.vs 7 0 l.length 7 false))=.v (.c (.vs 7 0 l.length 7 false)) /\ SV.v (.c (.it .i64 l.length))=.v (.c (.it .i64 l.length)) /\ SV.v (.c (.il .i64 0))=.v (.c (.il .i64 0)) /\ hpC noM [.abs (.notes l),.cells (Nt.enc x) 151]=hpC noM [.abs (.notes l),.cells (Nt.enc x) 151]
theorem ixR (σ:Sg) (an:Bool) (ix:Nat) (x:Nt) (l:List Nt):pK (lpI an ix x l) σ bm 92 noM [.v (.c (.vs 7 0 l.length 7 false)),.v (.agg (Nt.enc x))] [.abs (.notes l)]=.need (fO (Xl x l)) (.ite an (.leaf (stV (.v (.c (.it .i64 ix)),hpC noM [.abs (.notes l)]))) (.leaf (stV (.v (.c (.il .i64 (-1))),hpC noM [.abs (.notes l)])))):=by kernel_rfl
def dL (x:Nt) (l:List Nt):Int:=cond (l.any (my x)) (eW (my x) 0 l) (-1)
def ixS (ix:Nt->List Nt->Int) (args:List SV) (ch:List (Chunk AV)):T (SV×List (Chunk AV)×List (Chunk AV)):=match args,ch with
 | [.v (.c (.vs 7 0 q 7 false)),.v (.agg [.it .i64 a,.it .i64 b,.it .i64 c,.it .i64 d,.bt e,.it .i64 f,.it .i64 g])],[.abs (.notes l)]=>.need (decide (q=l.length /\ l.length<=100000)) (.leaf (.v (.c (.it .i64 (ix ⟨a,b,c,d,e,f,g⟩ l))),[.abs (.notes l)],[]))
 | _,_=>.fail "Index"
theorem Ts:FnOk Tryz.prog (NV σ) 92 (kW isS noM (ixS dL)):=by
 refine jd bR rfl fun args ch v l' nw h hlen ha hC=>?_
 unfold ixS at h
 split at h
 ·rename_i q a b c d e f g l
  replace h:=aj h
  obtain⟨hb,h⟩:=h
  obtain⟨rfl,hl⟩:=of_decide_eq_true hb
  simp only [T.val,Option.some.injEq,Prod.mk.injEq] at h
  obtain⟨rfl,rfl,rfl⟩:=h
  have hr:=(congrArg T.val (ixR σ (l.any (my ⟨a,b,c,d,e,f,g⟩)) (eW (my ⟨a,b,c,d,e,f,g⟩) 0 l) ⟨a,b,c,d,e,f,g⟩ l)).trans (nv (fN ⟨rfl,rfl,rfl,rfl,rfl,rfl,rfl⟩))
  unfold dL
  cases hp:l.any (my ⟨a,b,c,d,e,f,g⟩) with
  | true =>
    rw [ivT hp] at hr
    exact oG (fF (Wv _ _ hl) wo rfl hr (by rintro ⟨⟩))
  | false =>
    rw [ivF hp] at hr
    exact mZ (oG (fF (Wv _ _ hl) wo rfl hr (by rintro ⟨⟩))) ((pL _).cl _) fun ρ=>rfl
 ·simp [T.val] at h
end
section
open Go Go.Sx Go.Proofs Go.RowKit Go.Lib
set_option maxRecDepth 100000
def gG (row:List Value) (p:Nat) (cs:List Value):List Value:=row.take p++cs++row.drop (p+cs.length)
theorem qj {row cs:List Value} {p:Nat} (h:p+cs.length<=row.length):(gG row p cs).length=row.length:=by simp [gG];omega
theorem OI (row:List Value) (p m:Nat) (h:p+m<=row.length):((row.drop p).take m).length=m /\ ∀(j:Nat) v,((row.drop p).take m)[j]?=some v->row[p+j]?=some v:=by
 refine⟨by simp;omega,fun j v hj=>?_⟩
 rw [List.getElem?_take] at hj
 split at hj
 ·rwa [List.getElem?_drop] at hj
 ·cases hj
theorem Nw {w:World} {b:Nat} {row:List Value} {t:TypeId} (h:w.heap[b]?=some (.cells row.toArray t (0,0))) (o j:Nat) (v:Value) (hv:row[o+j]?=some v):w.cell? ((⟨b,o,none⟩:Addr).add j)=some v:=by
 have e:(⟨b,o,none⟩:Addr).add j=⟨b,o+j,none⟩:=by unfold Addr.add;split<;>simp_all
 rw [e]
 simp [World.cell?,h,hv]
theorem rl {w:World} {b c:Nat} {x:Array Value} (h:c≠b):(w.setRow b x).heap[c]?=w.heap[c]?:=by
 simp [World.setRow,Array.getElem?_modify,Ne.symm h]
theorem sO {P:Program} {ops:Array Oper} {o:Oper} {a:Act} {w:World} {K:Act->World->Prop} {Q:Exit->Act->World->Prop} {E:Prop}
 (hg:o.guard=none) (d x:Operand) (dT sT:TypeId) (hop:o.op=Op.call {callee:=Callee.builtin Builtin.append,args:=#[d,x],argTypes:=#[dT,sT]})
 (v u:Value) (hd:a.eval d=v) (hx:a.eval x=u) {v':Value} {w':World} (hr:(Builtin.append_ #[dT,sT] o.type #[v,u]).run P w=.ok v' w') (hK:K (a.put o.dst v') w') :
 if Region.wanted o (yielded ops a.tmps)=true then Oper.wp P o a w K Q else E:=by
 have hw:Region.wanted o (yielded ops a.tmps)=true:=by simp [Region.wanted,hg]
 rw [if_pos hw]
 unfold Oper.wp
 simp [execOp,hop,resolve,invoke,builtin,hd,hx,hr,Result.andThen]
 exact hK
theorem Wf:∃i:TypeInfo,Tryz.prog.info? 151=some i /\ i.size=7:=by
 have h:(match Tryz.prog.info? 151 with | some i=>i.size==7 | none=>false)=true:=by kernel_rfl
 cases hi:Tryz.prog.info? 151 with
 | none=>rw [hi] at h;cases h
 | some i =>
   rw [hi] at h
   exact⟨i,rfl,by simpa using h⟩
theorem yL (w:World) (ty:TypeId) (b o c:Nat) (row:List Value) (hrow:w.heap[b]?=some (.cells row.toArray 151 (0,0))) (hfit:o+7<=row.length) :
 (Builtin.clear_ #[41] ty #[.slice (some ⟨b,o,none⟩) 1 c]).run Tryz.prog w=.ok (.tuple #[]) (w.setRow b (gG row o [.int .i64 0,.int .i64 0,.int .i64 0,.int .i64 0,.bool false,.int .i64 0,.int .i64 0]).toArray):=by
 have hzc:(Builtin.zeroCells (Value.agg #[.int .i64 0,.int .i64 0,.int .i64 0,.int .i64 0,.bool false,.int .i64 0,.int .i64 0]).cells 1).toList=[.int .i64 0,.int .i64 0,.int .i64 0,.int .i64 0,.bool false,.int .i64 0,.int .i64 0]:=by kernel_rfl
 have hst:=run_storeCells_at Tryz.prog b o 151 [.int .i64 0,.int .i64 0,.int .i64 0,.int .i64 0,.bool false,.int .i64 0,.int .i64 0] 0 row.toArray w hrow (by simpa using hfit) (by
  intro v hv
  simp only [List.mem_cons,List.not_mem_nil,or_false] at hv
  rcases hv with rfl | rfl | rfl | rfl | rfl | rfl | rfl<;>rfl)
 simp only [Nat.add_zero] at hst
 simp only [Builtin.clear_,Sem.run_bind]
 simp [run_underlying Tryz.underlying41,Tryz.zeroValue151,hzc,hst,gG]
set_option maxHeartbeats 4000000 in
theorem Yh (b off n c i j:Nat) (row:List Value) (w:World) (hij:j=i+1) (hi:i < n) (hnc:n<=c) (hc63:n<=1000000)
 (hrow:w.heap[b]?=some (.cells row.toArray 151 (0,0))) (hfit:off+c * 7<=row.length) (hone:∀v∈(row.drop off).take (n * 7),v.oneCell'=true) :
 Calls Tryz.prog 93 #[.slice (some ⟨b,off,none⟩) n c,.int .i64 i,.int .i64 j] w fun e w' =>
  e=.returned (.slice (some ⟨b,off,none⟩) (n - 1) c) /\ w'=(w.drew.setRow b (gG row (off+i * 7) ((row.drop (off+j * 7)).take ((n - j) * 7))).toArray).setRow b (gG (gG row (off+i * 7) ((row.drop (off+j * 7)).take ((n - j) * 7))) (off+(n - 1) * 7) [.int .i64 0,.int .i64 0,.int .i64 0,.int .i64 0,.bool false,.int .i64 0,.int .i64 0]).toArray:=by
 obtain⟨i0,hi0,hi1⟩:=Wf
 have mixed:Tryz.prog.follows Departure.mixedOrders=true:=by kernel_rfl
 obtain⟨s1,s2⟩:=OI row (off+j * 7) ((n - j) * 7) (by omega)
 obtain⟨cs,hcs⟩:∃cs,cs=(row.drop (off+j * 7)).take ((n - j) * 7):=⟨_,rfl⟩
 rw [<- hcs] at s1 s2 ⊢
 have hone1:∀v∈cs,v.oneCell'=true:=fun v hv=>by
  obtain⟨k,hk⟩:=List.mem_iff_getElem?.1 hv
  have q3:=s2 k v hk
  have hkl:=(List.getElem?_eq_some_iff.1 hk).1
  rw [s1] at hkl
  refine hone v (List.mem_iff_getElem?.2 ⟨j * 7+k,?_⟩)
  rw [List.getElem?_take,if_pos (by omega),List.getElem?_drop,show off+(j * 7+k)=off+j * 7+k by omega]
  exact q3
 obtain⟨A,hA,hsrc⟩:∃A:Addr,(if c=j then some (⟨b,off,none⟩:Addr) else some ⟨b,off+j * 7,none⟩)=some A /\ (∀(t:Nat) u,cs[t]?=some u->w.drew.cell? (A.add t)=some u):=by
  by_cases h:c=j
  ·refine⟨⟨b,off,none⟩,by simp [h],fun t u hu=>?_⟩
   have h0:cs.length=0:=by rw [s1,show n - j=0 by omega]
   rw [List.length_eq_zero_iff.1 h0] at hu
   simp at hu
  ·exact⟨⟨b,off+j * 7,none⟩,by simp [h],fun t u hu=>Nw (w:=w.drew) hrow _ t u (s2 t u hu)⟩
 have hap:∀ty dc,(Builtin.append_ #[41,41] ty #[.slice (some ⟨b,off,none⟩) i c,.slice (some A) (n - j) dc]).run Tryz.prog w.drew=.ok (.slice (some ⟨b,off,none⟩) (n - 1) c) (w.drew.setRow b (gG row (off+i * 7) cs).toArray):=fun ty dc=>by
  have:=lH (P:=Tryz.prog) w.drew 41 ty 151 i0 Tryz.underlying41 hi0 b off i c row.toArray 151 hrow A (n - j) dc cs (by rw [s1,hi1]) hsrc hone1 (by omega) (by rw [hi1];simp;omega)
  rw [this,hi1,show i+(n - j)=n - 1 by omega]
  rfl
 obtain⟨r1,hr1⟩:∃r1,r1=gG row (off+i * 7) cs:=⟨_,rfl⟩
 have hr1l:r1.length=row.length:=by rw [hr1];exact qj (by omega)
 rw [<- hr1] at hap ⊢
 obtain⟨W1,hW1⟩:∃W1,W1=w.drew.setRow b r1.toArray:=⟨_,rfl⟩
 have hW1b:W1.heap[b]?=some (.cells r1.toArray 151 (0,0)):=by rw [hW1];exact setRow_heap w.drew b _ _ _ (0,0) hrow
 have hcl:∀ty dc,(Builtin.clear_ #[41] ty #[.slice (some ⟨b,off+(n - 1) * 7,none⟩) 1 dc]).run Tryz.prog W1=.ok (.tuple #[]) (W1.setRow b (gG r1 (off+(n - 1) * 7) [.int .i64 0,.int .i64 0,.int .i64 0,.int .i64 0,.bool false,.int .i64 0,.int .i64 0]).toArray):=fun ty dc=>yL W1 ty b _ dc r1 hW1b (by omega)
 rw [<- hW1] at hap ⊢
 have hic:i<=c:=by omega
 have hjc:j<=c:=by omega
 have hjn:j<=n:=by omega
 have hin:i<=n:=by omega
 have hijle:i<=j:=by omega
 have hz:¬((i:Int)=(j:Int)):=by omega
 have h1n:n - (n - 1)=1:=by omega
 have hcn:¬(c=n - 1):=by omega
 have hle:n - 1<=n:=by omega
 have hle2:((n - 1:Nat):Int)<=(n:Int):=by omega
 clear hij hrow hone hone1 s1 s2 hcs hsrc hr1 hr1l hW1b hW1 hi0 hi1
 go_enter Tryz.func93,Tryz.ntmps93
 go_wp2_with fail
 go_region_law_o (refine sO rfl _ _ 41 41 rfl _ (.slice (some A) (n - j) (c - j)) (by simp [Act.eval,Act.put]) (by simp [Act.eval,Act.put,hA]) (hap _ _) ?_)
 go_wp2
 go_ret
 exact⟨rfl,rfl⟩
theorem setRow_size (w:World) (b:Nat) (x:Array Value):(w.setRow b x).heap.size=w.heap.size:=by simp [World.setRow]
theorem wQ {row cs:List Value} {p:Nat} (h:p+cs.length<=row.length) (j:Nat):(gG row p cs)[j]?=if j < p then row[j]? else if j < p+cs.length then cs[j - p]? else row[j]?:=rm h j
theorem TT {w w':World} {S:Nat->Prop} {b:Nat} (hb:S b \/ w.heap.size<=b) (h:∀k,k < w.heap.size->k≠b->w'.heap[k]?=w.heap[k]?) (h1:w'.os=w.os) (h2:w'.tape=w.tape) (h3:w'.output=w.output) (h4:w.heap.size<=w'.heap.size):Fr S (fun k=>k=b) w w' :=
 ⟨fun k hk hs=>h k hk (fun e=>by
   subst e
   rcases hb with hb | hb
   ·exact hs hb
   ·omega),fun k hk=>by
   rw [hk]
   exact hb.symm,h1,h2,h3,h4⟩
def T3 (args:List SV) (H:Hp AV):T (SV×Hp AV):=match args with
 | [.v (.c (.vs n 0 len 7 false)),.v (.c x),.v (.c y)]=>match ab H n,iOf x,iOf y,Nat.ble 7 H.length with
   | some (.abs (.notes p)),some i,some j,true=>.need (decide (len=p.length /\ p.length<=100000 /\ 0<=i /\ i < (p.length:Int) /\ j=i+1)) (.leaf (.v (.c (.vs H.length 0 (len - 1) 7 false)),cU H (some n)++[some (.abs (.notes (p.take i.toNat++p.drop (i.toNat+1))))]))
   | _,_,_,_=>.fail "Delete"
 | _=>.fail "Delete"
theorem gQ (p:List Nt):(knotes.vals p).length=p.length * 7:=knotes.vals_len p
theorem EG (p:List Nt) (i:Nat):(knotes.vals p).take (i * 7)=knotes.vals (p.take i):=knotes.vals_take p i
theorem EH (p:List Nt) (i:Nat):(knotes.vals p).drop (i * 7)=knotes.vals (p.drop i):=knotes.vals_drop p i
theorem P5 {σ:Sg}:FnOk Tryz.prog (NV σ) 93 T3:=by
 refine FnOk.of fun args H v H' hr ha hC=>?_
 unfold T3 at hr
 split at hr
 ·rename_i n len x y
  split at hr
  ·rename_i p i j hn hi hj hG
   replace hr:=aj hr
   obtain⟨hb,hr⟩:=hr
   obtain⟨rfl,hpl,hi0,hi1,rfl⟩:=of_decide_eq_true hb
   simp only [T.val,Option.some.injEq,Prod.mk.injEq] at hr
   obtain⟨rfl,rfl⟩:=hr
   obtain⟨k,rfl⟩:∃k:Nat,i=k:=⟨i.toNat,by omega⟩
   have hk:k < p.length:=by omega
   have hG:(NV σ).G<=H.length:=Nat.le_of_ble_eq_true hG
   have hd:∀j,some n=some j->∃c,ab H j=some c:=fun j hj=>by cases hj;exact⟨_,hn⟩
   have hpn:(NV σ).F.arr (.notes (p.take k++p.drop (k+1)))=some (7,151,knotes.vals (p.take k++p.drop (k+1))):=rfl
   have hpo:(NV σ).F.arr (.notes p)=some (7,151,knotes.vals p):=rfl
   refine⟨cl_new hd 0 _ 7 false,vF hC hd (fun c hc=>by cases hc),fun ρ w hO=>?_⟩
   have hv:=(((NV σ).F.arr_q _ _ _ _ hpo).2 _ _ _).1 (hO.q n _ hn)
   have hone:=((NV σ).F.arr_q _ _ _ _ hpo).1
   have hxd:x.den ρ=.int .i64 (k:Int):=bp hi ρ
   have hyd:y.den ρ=.int .i64 ((k+1:Nat):Int):=by rw [bp hj ρ];congr 1
   show Calls Tryz.prog _ #[aW (ρ.L n) 0 p.length 2,x.den ρ,y.den ρ] w _
   rw [hxd,hyd,vsDen_eq,if_neg (by omega)]
   rcases hv with⟨hc0,hp0,hS0⟩ | ⟨hc1,hS,row,hh,hf,hl,hg⟩
   ·exfalso
    have:(knotes.vals p).length=0:=by rw [hp0];rfl
    rw [gQ] at this
    omega
   rw [gQ] at hl
   have hSb:ρ.S n (ρ.L n).b:=(hS _).2 rfl
   have hval:∀j,j < p.length * 7->(knotes.vals p)[j]?=row[(ρ.L n).o+j]?:=fun j hj=>by
    rw [hg j _ (List.getElem?_eq_getElem (by rw [gQ];exact hj)),List.getElem?_eq_getElem (by rw [gQ];exact hj)]
   have hrone:∀v∈(row.drop (ρ.L n).o).take (p.length * 7),v.oneCell'=true:=fun v hv=>by
    obtain⟨j,hj⟩:=List.mem_iff_getElem?.1 hv
    rw [List.getElem?_take] at hj
    split at hj
    ·rename_i hjl
     rw [List.getElem?_drop,<- hval j hjl] at hj
     exact hone v (List.mem_of_getElem? hj)
    ·cases hj
   refine(Yh (ρ.L n).b (ρ.L n).o p.length ((ρ.L n).c - 1) k (k+1) row w rfl hk (by omega) (by omega) hh hf hrone).mono ?_
   rintro e w' ⟨rfl,rfl⟩
   have l1:((row.drop ((ρ.L n).o+(k+1) * 7)).take ((p.length - (k+1)) * 7)).length=(p.length - (k+1)) * 7:=by simp;omega
   have l2:(gG row ((ρ.L n).o+k * 7) ((row.drop ((ρ.L n).o+(k+1) * 7)).take ((p.length - (k+1)) * 7))).length=row.length:=qj (by omega)
   have hlen:(knotes.vals (p.take k++p.drop (k+1))).length=(p.length - 1) * 7:=by rw [gQ];simp;omega
   have hnv:iC ⟨(ρ.L n).b,(ρ.L n).o,(ρ.L n).c - 1+1⟩ (fun x=>x=(ρ.L n).b) (knotes.vals (p.take k++p.drop (k+1))) 7 151 ((w.drew.setRow (ρ.L n).b (gG row ((ρ.L n).o+k * 7) ((row.drop ((ρ.L n).o+(k+1) * 7)).take ((p.length - (k+1)) * 7))).toArray).setRow (ρ.L n).b (gG (gG row ((ρ.L n).o+k * 7) ((row.drop ((ρ.L n).o+(k+1) * 7)).take ((p.length - (k+1)) * 7))) ((ρ.L n).o+(p.length - 1) * 7) [.int .i64 0,.int .i64 0,.int .i64 0,.int .i64 0,.bool false,.int .i64 0,.int .i64 0]).toArray):=by
    refine .inr ⟨by simp,fun x=>Iff.rfl,_,setRow_heap _ _ _ _ _ (0,0) (setRow_heap w.drew _ _ _ _ (0,0) hh),?_,?_,?_⟩
    ·rw [qj (by simp;omega),l2]
     simpa using hf
    ·rw [hlen]
     simp only [Nat.add_sub_cancel]
     omega
    ·intro j v hj
     have hjl:=(List.getElem?_eq_some_iff.1 hj).1
     rw [hlen] at hjl
     simp only
     rw [wQ (by simp;omega),if_pos (by omega),wQ (by omega)]
     rw [AK.vals_append,<- EG,<- EH] at hj
     by_cases h1:j < k * 7
     ·rw [if_pos (by omega),<- hval j (by omega)]
      rw [List.getElem?_append_left (by rw [List.length_take,gQ];omega),List.getElem?_take,if_pos h1] at hj
      exact hj
     ·rw [if_neg (by omega),if_pos (by omega),List.getElem?_take,if_pos (by omega),List.getElem?_drop]
      rw [List.getElem?_append_right (by rw [List.length_take,gQ];omega),List.getElem?_drop,List.length_take,gQ,hval _ (by omega)] at hj
      rw [<- hj]
      congr 1
      omega
   obtain⟨o1,o2⟩:=su (N:=NV σ) hO hC hG (d:=some n) hd hpn (S:=ρ.S n) (fun j hj=>⟨n,_,rfl,hn,hj⟩) hnv (TT (.inl hSb) (fun j hj hne=>by rw [rl hne,rl hne];rfl) rfl rfl rfl (by rw [setRow_size,setRow_size];exact Nat.le_refl _))
   refine⟨_,?_,o1,o2⟩
   show _=Ending.returned (aW ((ρ.set H.length ⟨(ρ.L n).b,(ρ.L n).o,(ρ.L n).c - 1+1⟩ fun x=>x=(ρ.L n).b).L H.length) 0 (p.length - 1) 7)
   rw [(fz _ _ _ _).1,vsDen_eq,if_neg (by simp)]
   rfl
  ·simp [T.val] at hr
 ·simp [T.val] at hr
end
section
open Go Go.Sx Go.Proofs
set_option maxRecDepth 100000
variable {σ:Sg} {lp:Lp}
def nmT (n:Nat):Nat:=match n with | 0=>7 | 1=>14 | 2=>9 | _=>10
def Fp (m:RiteM) (q:Nat):List Cell:=bC ((dE AV.len 1 (bE 46 (bE 18 (RiteM.wr {m with step:=13,engine:=4})))).map (Cell.ren nmT)) 44 (.vs 14 0 q 5 false)
def hpT (m:RiteM) (l:List W) (q:Nat):Hp AV:=bB AV.sent 0 noM++[some (.cells (Fp m q) cL),none,some (.abs (.notes m.doomed)),some (.abs (.notes m.notes)),none,none,none,some (.abs (.words l))]
def Mj:List Nat:=[2,3,10,11,12]
noncomputable def LT4:Code:=fv 3 (bx (cB Tryz.f91))
noncomputable def Di (m:RiteM) (l:List W) (q:Nat) (i:Int) (r:List Sp) (lr:Nat):St AV :=
 {E:=only Mj [(2,.v (.c .snil)),(3,.v (.c (.vs 15 0 lr 3 false))),(10,.v (.c (.vs 14 0 q 5 false))),(11,.v (.c (.it .i64 q))),(12,.v (.c (.it .i64 i)))] 23,H:=(hpT m l q)++[some (.abs (.spans r))]}
def Ep (σ:Sg) (n:Nat) (l:List Sp):Bool:=decide (n=Intf.len (F6 σ) (AV.spans l) /\ (n+1) * (SI.bytes Gh+1)<=lim)
theorem rT4 (σ:Sg) (m:RiteM) (l:List W) (q:Nat) (i:Int) (r:List Sp) (lr:Nat):(xc (NV σ) (aN (lv (NV σ) bm 5)) (fun _=>none) 23 LT4 (Di m l q i r lr)).bind (cM 15 23 Mj cP) =
 .ite (decide (i < (q:Int))) (.need (decide (0<=i /\ i < (q:Int))) (.need (decide (0+i.toNat < l.length)) (.need (Ep σ lr r) (.leaf (.normal,Di m l q (IntKind.wrap .i64 (i+1)) (r++[lD (l.getD (0+i.toNat) kwords.dflt)]) (lr+1)))))) (.leaf (.exit 0,Di m l q i r lr)):=by kernel_rfl
theorem HQ {n:Nat} {l:List Sp} (h:n=l.length) (hn:l.length<=100000):Ep σ n l=true:=by
 unfold Ep
 subst h
 exact decide_eq_true ⟨rfl,Nat.le_trans (Nat.mul_le_mul_right _ (Nat.succ_le_succ hn)) (by decide)⟩
noncomputable def ya (m:RiteM) (l:List W) (q:Nat) (c:MC Sp):St AV:=Di m l q c.k c.r c.r.length
theorem D8 (σ:Sg) (m:RiteM) (l:List W) (q:Nat) (hq:q=l.length) (hm:l.length<=100000) (c:MC Sp) (r:Ex×MC Sp) (h:(q8 0 lD l c).val=some r) :
 ((xc (NV σ) (aN (lv (NV σ) bm 5)) (fun _=>none) 23 LT4 (ya m l q c)).bind (cM 15 23 Mj cP)).val=some (r.1,ya m l q r.2):=by
 replace h:=aj h
 obtain⟨hb,h⟩:=h
 obtain⟨h1,h2⟩:=of_decide_eq_true hb
 simp only [T.val,Option.some.injEq] at h
 subst h
 obtain⟨k,s⟩:=c
 simp only at h1 h2
 have e1:0+(k:Int).toNat=k:=by omega
 have hw:IntKind.wrap .i64 ((k:Int)+1)=((k+1:Nat):Int):=gM (by omega)
 dsimp only [ya]
 rw [rT4]
 by_cases hlt:k < l.length
 ·rw [ivT (decide_eq_true (by show (k:Int) < _;omega)),nv (decide_eq_true (by omega)),nv (decide_eq_true (by omega)),nv (HQ rfl (by omega)),hw,dx kwords.dflt hlt,e1]
  simp only [goC,T.val,List.length_append,List.length_cons,List.length_nil]
 ·rw [ivF (decide_eq_false (by show ¬(k:Int) < _;omega)),List.drop_eq_nil_of_le (by omega)]
  rfl
def Xh (m:RiteM) (l:List W) (q:Nat) (s:St AV):Prop:=Sx.look s.E 2=.v (.c .snil) /\ Sx.look s.E 3=.v (.c .snil) /\ Sx.look s.E 10=.v (.c (.vs 14 0 q 5 false)) /\ Sx.look s.E 11=.v (.c (.it .i64 q)) /\ Sx.look s.E 12=.v (.c (.il .i64 0)) /\ s.H=(hpT m l q)
noncomputable def gT4 (sp:List Sp) (m:RiteM) (l:List W) (q:Nat) (s:St AV):T (Ex×St AV):=.need (fO (Xh m l q s)) (.leaf (.exit 0,Di m l q l.length sp sp.length))
theorem TK {N':Env AV} (hF:N'.F=(NV σ).F) (hG:N'.G=(NV σ).G) (m:RiteM) (l:List W) (q:Nat) (hq:q=l.length) (hm:l.length<=100000):dG Tryz.prog N' 23 LT4 (gT4 (l.map lD) m l q):=by
 have hcal:dM Tryz.prog (NV σ) (aN (lv (NV σ) bm 5)):=bK (iH okV oq hvV aJ 5)
 refine cJ (N:=NV σ) hF hG okV hcal (lp:=fun _=>none) (fun _ _ _ g hg=>by cases hg) fun s s' ex hgs=>?_
 obtain⟨E1,H1⟩:=s
 unfold gT4 at hgs
 replace hgs:=aj hgs
 obtain⟨hb,hgs⟩:=hgs
 obtain⟨e2,e3,e10,e11,e12,eH⟩:=eU hb
 simp only at e2 e3 e10 e11 e12 eH
 subst eH
 simp only [T.val,Option.some.injEq,Prod.mk.injEq] at hgs
 obtain⟨rfl,rfl⟩:=hgs
 refine⟨{M:=MC Sp,fam:=ya m l q,step:=q8 0 lD l,ks:=Mj,pk:=cP,hpk:=(fun d a h=>by cases h),L:=15,len:=rfl,hGL:=(by show 7<=15;decide),run:=D8 σ m l q hq hm,m:=⟨0,[]⟩,k:=_,m':=_,ent:=?_,it:=Mx l 0 [] rfl (Nat.zero_add _) rfl,fin:=?_}⟩
 ·refine eT (N:=NV σ) (s:=⟨E1,_⟩) (l:=[.spans []]) (fun a ha=>⟨3,kspans.ty,by simp only [List.mem_cons,List.not_mem_nil,or_false] at ha;rw [ha];rfl⟩) (by show 7<=15;decide) fun k hk=>?_
  simp only [Mj,List.mem_cons,List.not_mem_nil,or_false] at hk
  rcases hk with rfl | rfl | rfl | rfl | rfl
  ·exact .inl e2.symm
  ·exact .inr (.inr ⟨e3,0,3,by decide,rfl⟩)
  ·exact .inl e10.symm
  ·exact .inl e11.symm
  ·exact .inr (.inl ⟨by show Sx.look E1 12≠_;rw [e12];rintro ⟨⟩,pL _,fun ρ=>by show _=(Sx.look E1 12).den ρ;rw [e12];rfl⟩)
 ·simp only [List.nil_append,ya]
noncomputable def WA (sp:List Sp) (m:RiteM) (l:List W) (q:Nat) (lp:Lp):Lp:=gT 91 3 (gT4 sp m l q) lp
theorem Wq {lp:Lp} (h:cV Tryz.prog (NVl lp σ)) (m:RiteM) (l:List W) (q:Nat) (hq:q=l.length) (hm:l.length<=100000):cV Tryz.prog (NVl (WA (l.map lD) m l q lp) σ) :=
 gJ h (fn:=Tryz.f91) (by kernel_rfl) (c:=cB Tryz.f91) (by kernel_rfl) (nt:=23) (by kernel_rfl) (b:=LT4) (br (by kernel_rfl)) (TK (σ:=σ) (N':=NVl lp σ) rfl rfl m l q hq hm)
def MX (m:RiteM) (l:List W) (q:Nat):Prop:=SV.v (.c .snil)=.v (.c .snil) /\ SV.v (.c .snil)=.v (.c .snil) /\ SV.v (.c (.vs 14 0 q 5 false))=.v (.c (.vs 14 0 q 5 false)) /\ SV.v (.c (.it .i64 q))=.v (.c (.it .i64 q)) /\ SV.v (.c (.il .i64 0))=.v (.c (.il .i64 0)) /\ (hpT m l q)=(hpT m l q)
theorem MW (m:RiteM) (l:List W) (q:Nat):fO (MX m l q)=true:=fN ⟨rfl,rfl,rfl,rfl,rfl,rfl⟩
end
section
open Go Go.Sx Go.Proofs
set_option maxRecDepth 100000
variable {σ:Sg} {lp:Lp}
noncomputable def wa (σ:Sg) (sf:RiteM->RiteM) (ix:Nt->List Nt->Int) (may:Int->List Sp->Bool):Tab:=aQ 89 (Jv σ (aZ isS noM (GF aNo oRite (fun m _=>some (Ll m)) fun m _=>(.tup [],sf m,[])))) (aQ 92 (kW isS noM (ixS ix)) (aQ 93 T3 (aQ 90 (kW isS noM (S8 may)) Cc)))
def CV (n:Int) (l:List Sp):Bool:=!(l.any (kX n))
noncomputable def JM (σ:Sg):Tab:=wa σ kA dL CV
theorem Hz:bO Tryz.prog (NV σ) (JM σ):=au (AQ OG) (au Ts (au P5 (au S7 wg)))
noncomputable def wH (lp:Lp) (σ:Sg) (tab:Tab) (ks:List Nat) (m:RiteM) (x:Rp1):T (Option (Unit×RiteM)):=(uz lp σ tab 31 noM (aRp.enc x) (dR m) cL (ks.foldl (fun g k=>bE k g) (RiteM.wr m)) []).map (gp vQ oRite)
def Gg (σ:Sg) (r:RT):Bool:=decide (r.ls=Intf.len (F6 σ) (AV.words r.m.seen) /\ (r.ls+1) * (SI.bytes Ky+1)<=lim)
section
variable {β:Type} (I:Bool->β->β->β) (N:Bool->β->β) (L:RT->β)
def K7 (sf:RiteM->RiteM) (r:RT):β:=N (rS r) (N (Ll r.m) (L (rOf (sf r.m))))
def js (w:W) (r:RT):RT:={r with m:={r.m with seen:=r.m.seen++[w]},ls:=r.ls+1}
def Be (σ:Sg) (sf:RiteM->RiteM) (x:Rp1) (r:RT):β:=N (Gg σ r) (mc I N L (IntKind.wrap .i64 (r.m.index+1)) (js x.w r) (K7 N L sf (js x.w r)))
def SP (sf:RiteM->RiteM) (x:Rp1) (r:RT):β:=K7 N L sf {r with m:={r.m with clock:=x.w}}
def K8 (σ:Sg) (ix:Nt->List Nt->Int) (r:RT):β :=
 N (decide ((0:Int)<=0 /\ 0 < (r.ld:Int))) (N (decide (0 < r.m.doomed.length)) (N (decide (r.ln=r.m.notes.length /\ r.m.notes.length<=100000))
   (N (decide (r.ln=r.m.notes.length /\ r.m.notes.length<=100000 /\ 0<=ix (r.m.doomed.getD 0 knotes.dflt) r.m.notes /\ ix (r.m.doomed.getD 0 knotes.dflt) r.m.notes < (r.m.notes.length:Int) /\ IntKind.wrap .i64 (ix (r.m.doomed.getD 0 knotes.dflt) r.m.notes+1)=ix (r.m.doomed.getD 0 knotes.dflt) r.m.notes+1))
     (N (decide ((0:Int)<=1 /\ 1<=(r.ld:Int) /\ (r.ld:Int)<=(r.ld:Int) /\ r.ld=Intf.len (F6 σ) (AV.notes r.m.doomed)))
       (lu I N L {m:={r.m with notes:=r.m.notes.take (ix (r.m.doomed.getD 0 knotes.dflt) r.m.notes).toNat++r.m.notes.drop ((ix (r.m.doomed.getD 0 knotes.dflt) r.m.notes).toNat+1),freed:=IntKind.wrap .i64 (r.m.freed+1),doomed:=(r.m.doomed.take (r.ld:Int).toNat).drop 1},ls:=r.ls,ld:=(r.ld:Int).toNat - 1,ln:=r.ln - 1})))))
end
theorem Sb (σ:Sg) (sf:RiteM->RiteM) (ix:Nt->List Nt->Int) (may:Int->List Sp->Bool) (m:RiteM) (x:Rp1):wH fJ σ (wa σ sf ix may) [18,46] {m with step:=13,engine:=2} x=Be tI tN tR σ sf x (rOf {m with step:=13,engine:=2}):=by kernel_rfl
theorem Sa (σ:Sg) (sf:RiteM->RiteM) (ix:Nt->List Nt->Int) (may:Int->List Sp->Bool) (m:RiteM) (x:Rp1):wH fJ σ (wa σ sf ix may) [18,46] {m with step:=13,engine:=3} x=Be tI tN tR σ sf x (rOf {m with step:=13,engine:=3}):=by kernel_rfl
theorem R8 (σ:Sg) (sf:RiteM->RiteM) (ix:Nt->List Nt->Int) (may:Int->List Sp->Bool) (m:RiteM) (x:Rp1):wH fJ σ (wa σ sf ix may) [18,46] {m with step:=13,engine:=5} x=Be tI tN tR σ sf x (rOf {m with step:=13,engine:=5}):=by kernel_rfl
theorem XL (σ:Sg) (sf:RiteM->RiteM) (ix:Nt->List Nt->Int) (may:Int->List Sp->Bool) (m:RiteM) (x:Rp1):wH fJ σ (wa σ sf ix may) [18] {m with step:=15} x=SP tN tR sf x (rOf {m with step:=15}):=by kernel_rfl
theorem XK (σ:Sg) (sf:RiteM->RiteM) (ix:Nt->List Nt->Int) (may:Int->List Sp->Bool) (m:RiteM) (x:Rp1):wH fJ σ (wa σ sf ix may) [18] {m with step:=16} x=K8 tI tN tR σ ix (rOf {m with step:=16}):=by kernel_rfl
section
variable {β:Type} (I:Bool->β->β->β) (N:Bool->β->β) (L:RT->β)
noncomputable def SO (σ:Sg) (sp:List Sp) (may:Int->List Sp->Bool) (x:Rp1) (r:RT):β:=N (Gg σ r) (mc I N L (IntKind.wrap .i64 (r.m.index+1)) (js x.w r)
 (N (fO (MX r.m (r.m.seen++[x.w]) (r.ls+1))) (N (iO (Fp r.m (r.ls+1)) cL (Fp r.m (r.ls+1)) cL) (N (decide (sp.length=sp.length /\ sp.length<=100000)) (I (may r.m.clock.num sp) (L (iF 14 ⟨3,0,0,24,r.m.clock,eI r.m.clock 1⟩ (js x.w r))) (L (iG 15 tY (js x.w r))))))))
end
theorem R9 (σ:Sg) (sp:List Sp) (sf:RiteM->RiteM) (ix:Nt->List Nt->Int) (may:Int->List Sp->Bool) (m:RiteM) (x:Rp1):wH (WA sp m (m.seen++[x.w]) (m.seen.length+1) fJ) σ (wa σ sf ix may) [18,46] {m with step:=13,engine:=4} x=SO tI tN tR σ sp may x (rOf {m with step:=13,engine:=4}):=by kernel_rfl
end
section
open Go Go.Sx Go.Proofs
set_option maxRecDepth 100000
variable {σ:Sg} {lp:Lp}
theorem LR {f:FuncId} {M:List Bool} (hM:7=M.length) {γ β α:Type} {A:ArgK γ} {B:ValK β} {O:ObK α} {ok:α->γ->Option Bool} {next:α->γ->β×α}
 (hrun:∀j x,okO (ok j x)=true->Ctr Tryz.prog (NV σ) f (.v (.c (.ptr 7 0))::A.enc x) (hpO M [O.V j]) (B.enc (next j x).1) (hpO M [O.V (next j x).2])):FnOk Tryz.prog (NV σ) f (aZ isS M (dK A B O ok next)):=by
 refine dQ bR hM fun args l v l' nw h hl hargs=>?_
 unfold dK at h
 split at h
 ·rename_i r a
  split at h
  ·rename_i x j hx hj
   replace h:=fL h
   obtain⟨hok,h⟩:=h
   simp only [T.val,Option.some.injEq,Prod.mk.injEq] at h
   obtain⟨rfl,rfl,rfl⟩:=h
   have ea:=O.ok _ _ hj
   subst ea
   exact eX (hrun j x hok) fun ρ=>by
    simp only [List.map_cons]
    rw [A.ok _ _ hx ρ]
  ·simp [T.val] at h
 ·simp [T.val] at h
theorem T9 {tab:Tab} (ht:bO Tryz.prog (NV σ) tab) {f:FuncId} {M:List Bool} (hM:7=M.length) {β α:Type} {B:ValK β} {O:ObK α} {j:α} {ty:TypeId} {gs:Gs} (hl:j5 σ (O.V j)=some (dw AV.len ty (eO gs))) {args:List SV} (hf:fy args=true) {r:β×α}
 (h:((dJ σ tab f M args (O.V j) ty gs []).map (gp B O)).val=some (some r)):Ctr Tryz.prog (NV σ) f (.v (.c (.ptr 7 0))::args) (hpO M [O.V j]) (B.enc r.1) (hpO M [O.V r.2]):=by
 obtain⟨y,h1,h2⟩:=map_some h
 rw [ud h2] at h1
 exact(Cw ht hM (O.okD j) hl (cW hf) h1).1
theorem T8 (hlp:cV Tryz.prog (NVl lp σ)) {tab:Tab} (ht:bO Tryz.prog (NV σ) tab) {f:FuncId} {M:List Bool} (hM:7=M.length) {β α:Type} {B:ValK β} {O:ObK α} {j:α} {ty:TypeId} {gs:Gs} (hl:j5 σ (O.V j)=some (dw AV.len ty (eO gs))) {args:List SV} (hf:fy args=true) {r:β×α}
 (h:((uz lp σ tab f M args (O.V j) ty gs []).map (gp B O)).val=some (some r)):Ctr Tryz.prog (NV σ) f (.v (.c (.ptr 7 0))::args) (hpO M [O.V j]) (B.enc r.1) (hpO M [O.V r.2]):=by
 obtain⟨y,h1,h2⟩:=map_some h
 rw [ud h2] at h1
 exact oG (Cv hlp (wh ht) hM (O.okD j) hl (cW hf) h1).1
section
variable {β:Type} (I:Bool->β->β->β) (N:Bool->β->β) (L:RT->β)
def lI (sz:RT->Bool) (x:Rp1) (r:RT):β :=
 if r.m.step=9 then L (iG 10 tY {r with m:={r.m with word:=x.w}})
 else if r.m.step=10 then N (sz r) (
  if r.m.engine=3 \/ r.m.engine=5 then L (iF 11 ⟨3,0,0,24,x.w,eI x.w 1⟩ (ED r.m.word.num x.w.num {r with m:={r.m with clock:=x.w}}))
  else lJ I N L (ED r.m.word.num x.w.num {r with m:={r.m with clock:=x.w}}))
 else if r.m.step=11 then lJ I N L r
 else if r.m.step=12 then mc I N L 0 {r with m:={r.m with clock:=x.w}} (L {r with m:={r.m with clock:=x.w}})
 else L (iG 15 tY r)
end
abbrev NN:Bool->RiteM->RiteM:=fun _ t=>t
def L5 (n:Int) (r:RT) (k:RiteM):RiteM:=mc cond NN RT.m n r k
def EZ (m:RiteM):RiteM:=uB {m:={m with notes:=m.notes.take (dL (m.doomed.getD 0 knotes.dflt) m.notes).toNat++m.notes.drop ((dL (m.doomed.getD 0 knotes.dflt) m.notes).toNat+1),freed:=IntKind.wrap .i64 (m.freed+1),doomed:=m.doomed.drop 1},ls:=m.seen.length,ld:=m.doomed.length - 1,ln:=m.notes.length - 1}
def eE (m:RiteM) (x:Rp1):RiteM :=
 if m.step=13 then L5 (IntKind.wrap .i64 (m.index+1)) (js x.w (rOf m)) (if m.engine=4 then cond (CV m.clock.num ((m.seen++[x.w]).map lD)) (iF 14 ⟨3,0,0,24,m.clock,eI m.clock 1⟩ (js x.w (rOf m))).m (iG 15 tY (js x.w (rOf m))).m else kA (js x.w (rOf m)).m)
 else if m.step=15 then kA {m with clock:=x.w}
 else if m.step=16 then EZ m
 else if 9<=m.step then lI cond NN RT.m (fun _=>true) x (rOf m)
 else ll cond NN RT.m x (rOf m)
def Bk (m:RiteM):Bool:=decide (Im m /\ m.seen.length<=1000 /\ 1<=m.threads /\ m.threads<=6 /\
 (m.step=1 \/ m.step=2 \/ m.step=3 \/ (m.step=4 /\ (m.engine=2 \/ m.engine=3) /\ 0<=m.index /\ m.index < 9) \/ (m.step=5 /\ 0<=m.call.i /\ m.call.i < 9) \/ (m.step=6 /\ (m.engine=3 \/ m.engine=5) /\ 0<=m.call.i /\ m.call.i < 9) \/ m.step=7 \/ m.step=8 \/ m.step=9 \/
  (m.step=10 /\ (m.engine=3 \/ m.engine=4 \/ m.engine=5)) \/ (m.step=11 /\ (m.engine=3 \/ m.engine=5)) \/ (m.step=12 /\ m.engine=4) \/ (m.step=13 /\ 2<=m.engine /\ 0<=m.index /\ m.index < 100) \/ (m.step=14 /\ m.engine=4) \/ (m.step=15 /\ m.engine=4) \/
  (m.step=16 /\ 0 < m.doomed.length /\ 0<=dL (m.doomed.getD 0 knotes.dflt) m.notes /\ dL (m.doomed.getD 0 knotes.dflt) m.notes < (m.notes.length:Int))))
theorem Q9 {b:Bool} {t e:T (Option (Unit×RiteM))} {x y:RiteM} (h1:b=true->dr t x) (h2:b=false->dr e y):dr (tI b t e) (cond b x y):=by
 cases b with
 | true=>exact h1 rfl
 | false=>exact h2 rfl
theorem qT {n:Int} {r:RT} (h:eD r) {t:T (Option (Unit×RiteM))} {k:RiteM} (hk:dr t k) (hn:0<=n) (h1:1<=r.m.threads) (h2:r.m.threads<=6):dr (mc tI tN tR n r t) (L5 n r k):=by
 have ew:IntKind.wrap .i64 (r.m.threads * 9)=r.m.threads * 9:=gM (by omega)
 unfold L5 mc
 refine b6 (fun _=>Q9 (fun _=>hk) fun hb=>?_) fun _=>Q9 (fun _=>hk) fun hb=>?_
 ·have hlt:=of_decide_eq_false hb
  rw [ew] at hlt
  have e1:Int.tdiv n 9=n / 9:=Int.tdiv_eq_ediv_of_nonneg hn
  have e2:Int.tmod n 9=n % 9:=Int.tmod_eq_emod_of_nonneg hn
  have e3:IntKind.wrap .i64 (n / 9)=n / 9:=gM (by omega)
  exact iE rfl (iE rfl (iE (by rw [e1,e2,e3];exact ml (by omega) (by omega) (by omega) (by omega)) (eV (r:=iF 13 _ {r with m:={r.m with index:=n}}) h)))
 ·have hlt:=of_decide_eq_false hb
  exact iE (mh hn (by omega)) (eV (r:=iF 13 _ {r with m:={r.m with index:=n}}) h)
theorem DY {x:Rp1} {r:RT} (h:eD r) (h1:0<=r.m.me) (h2:r.m.me < 6) (h3:0<=r.m.call.i) (h4:r.m.call.i < 9):dr (ib tI tN tR x r) (ib cond NN RT.m x r):=by
 unfold ib
 refine b6 (fun _=>eV h) fun _=>b6 (fun _=>b6 (fun _=>eV h) fun _=>b6 (fun _=>vZ (vh (r:={r with m:={r.m with word:=x.w}}) h (ml h1 h2 h3 h4)) (eV (r:=eM ⟨x.w,true⟩ r) (kK h))) fun _=>eV (r:=eM ⟨x.w,true⟩ r) (kK h)) fun _=>?_
 exact b6 (fun _=>vZ (eV (r:=eM ⟨r.m.word,true⟩ r) (kK h)) (vh h (ml h1 h2 h3 h4))) fun _=>vZ (eV (r:=eM ⟨r.m.word,true⟩ r) (kK h)) (vZ (AX h (mh h1 h2)) (AX h (mh h1 h2)))
theorem Oi {x:Rp1} {r:RT} (h:eD r) (h1:0<=r.m.me) (h2:r.m.me < 6) (h3:r.m.step=4->0<=r.m.index /\ r.m.index < 9) (h4:(r.m.step=5 \/ r.m.step=6)->0<=r.m.call.i /\ r.m.call.i < 9) (h5:r.m.step=1 \/ r.m.step=2 \/ r.m.step=3 \/ r.m.step=4 \/ r.m.step=5 \/ r.m.step=6 \/ r.m.step=7 \/ r.m.step=8):dr (ll tI tN tR x r) (ll cond NN RT.m x r):=by
 unfold ll
 refine b6 (fun _=>eV (kK h)) fun _=>b6 (fun _=>gy h) fun _=>b6 (fun _=>AX h (mh h1 h2)) fun _=>b6 (fun e=>B8 h h1 h2 _ (by have:=h3 e;omega)) fun _=>b6 (fun _=>eV h) fun _=>?_
 by_cases h7:r.m.step=7
 ·unfold ib
  rw [if_pos h7,if_pos h7]
  exact eV h
 ·exact DY h h1 h2 (h4 (by omega)).1 (h4 (by omega)).2
theorem JD {x:Rp1} {r:RT} (h:eD r) (hn:r.m.notes.length<=100000) (h1:1<=r.m.threads) (h2:r.m.threads<=6):dr (lI tI tN tR (y8 σ) x r) (lI cond NN RT.m (fun _=>true) x r):=by
 unfold lI
 exact b6 (fun _=>eV h) fun _=>b6 (fun _=>iE (Gf h hn) (b6 (fun _=>eV (xG (r:={r with m:={r.m with clock:=x.w}}) h)) fun _=>vY (xG (r:={r with m:={r.m with clock:=x.w}}) h))) fun _=>b6 (fun _=>vY h) fun _ =>
  b6 (fun _=>qT (r:={r with m:={r.m with clock:=x.w}}) h (eV (r:={r with m:={r.m with clock:=x.w}}) h) (Int.le_refl 0) h1 h2) fun _=>eV h
theorem fU {w:W} {r:RT} (h:eD r):eD (js w r):=⟨by show r.ls+1=(r.m.seen++[w]).length;rw [List.length_append,h.1];rfl,h.2.1,h.2.2⟩
theorem rh {r:RT} (h:eD r) (hn:r.m.seen.length<=100000):Gg σ r=true:=by
 unfold Gg
 refine decide_eq_true ⟨h.1,?_⟩
 rw [h.1]
 exact Nat.le_trans (Nat.mul_le_mul_right _ (Nat.succ_le_succ hn)) (by decide)
theorem vg {r:RT} (h:eD r) (hs:Ll r.m=true):dr (K7 tN tR kA r) (kA r.m):=iE (vA h.1 h.2.1 h.2.2) (iE hs (eV (r:=rOf (kA r.m)) ⟨rfl,rfl,rfl⟩))
theorem Oj {r:RT} (h:eD r):dr (lu tI tN tR r) (uB r):=by
 unfold lu uB lu
 by_cases h0:r.m.doomed.length=0
 ·have e:((r.ld:Int)==0)=true:=by rw [h.2.1,h0];rfl
  rw [e]
  exact gy h
 ·have e:((r.ld:Int)==0)=false:=by rw [h.2.1];simp only [beq_eq_false_iff_ne];omega
  rw [e]
  exact iE (decide_eq_true ⟨Int.le_refl 0,by rw [h.2.1];omega⟩) (iE (decide_eq_true (by omega)) (eV (r:=iF 16 _ r) h))
def gsK (ks:List Nat) (m:RiteM):Gs:=ks.foldl (fun g k=>bE k g) (RiteM.wr m)
def DQ (σ:Sg) (m:RiteM) (x:Rp1):Prop:=Ctr Tryz.prog (NV σ) 31 (.v (.c (.ptr 7 0))::aRp.enc x) (hpO noM [dR m]) (.v (.c .inil)) (hpO noM [dR (eE m x)])
theorem M9 {ks:List Nat} {m:RiteM} {x:Rp1} {t:T (Option (Unit×RiteM))} (hl:j5 σ (dR m)=some (dw AV.len cL (eO (gsK ks m)))) (e:KG σ ks m x=t) (hv:dr t (eE m x)):DQ σ m x :=
 T9 (O:=oRite) (B:=vQ) (r:=((),eE m x)) wg rfl hl (aRp.free x) ((congrArg T.val e).trans hv)
theorem uf {lp:Lp} (hlp:cV Tryz.prog (NVl lp σ)) {ks:List Nat} {m:RiteM} {x:Rp1} {t:T (Option (Unit×RiteM))} (hl:j5 σ (dR m)=some (dw AV.len cL (eO (gsK ks m)))) (e:wH lp σ (JM σ) ks m x=t) (hv:dr t (eE m x)):DQ σ m x :=
 T8 (O:=oRite) (B:=vQ) (r:=((),eE m x)) hlp Hz rfl hl (aRp.free x) ((congrArg T.val e).trans hv)
theorem tkA {m:RiteM} {x:Rp1} (ks:List Nat) (h1:0<=m.me) (h2:m.me < 6) (h3:m.step=4->0<=m.index /\ m.index < 9) (h4:(m.step=5 \/ m.step=6)->0<=m.call.i /\ m.call.i < 9) (h5:1<=m.step /\ m.step<=8)
 (hl:j5 σ (dR m)=some (dw AV.len cL (eO (gsK ks m)))) (e:KG σ ks m x=ll tI tN tR x (rOf m)):DQ σ m x:=M9 hl e (by
 unfold eE
 rw [if_neg (by omega),if_neg (by omega),if_neg (by omega),if_neg (by omega)]
 exact Oi ⟨rfl,rfl,rfl⟩ h1 h2 h3 h4 (by dsimp only [rOf];omega))
theorem tkZ {m:RiteM} {x:Rp1} (ks:List Nat) (hn:m.notes.length<=100000) (h1:1<=m.threads) (h2:m.threads<=6) (h5:9<=m.step /\ m.step<=12 \/ m.step=14)
 (hl:j5 σ (dR m)=some (dw AV.len cL (eO (gsK ks m)))) (e:KG σ ks m x=SN tI tN tR σ x (rOf m)):DQ σ m x:=M9 hl e (by
 unfold eE
 rw [if_neg (by omega),if_neg (by omega),if_neg (by omega),if_pos (by omega)]
 exact JD ⟨rfl,rfl,rfl⟩ hn h1 h2)
theorem JH (σ:Sg) (m:RiteM) (x:Rp1) (h:Bk m=true):DQ σ m x:=by
 obtain⟨⟨h1,h2,h3,h4,h5⟩,h6,h7,h8,h9⟩:=of_decide_eq_true (h:decide _=true)
 clear h
 obtain⟨⟨k,adr,old,new,i,j,ans⟩,st,acc,wd,clk,ix,seen,doomed,e,me,thr,mst,holds,span,notes,freed,reply⟩:=m
 dsimp only at h1 h2 h3 h4 h5 h6 h7 h8 h9
 have he:e=1 \/ e=2 \/ e=3 \/ e=4 \/ e=5:=by omega
 have n9 {n:Int}:0<=n->n < 9->n=0 \/ n=1 \/ n=2 \/ n=3 \/ n=4 \/ n=5 \/ n=6 \/ n=7 \/ n=8:=by omega
 clear h1 h2
 rcases h9 with rfl | rfl | rfl | ⟨rfl,h9,ha,hb⟩ | ⟨rfl,ha,hb⟩ | ⟨rfl,h9,ha,hb⟩ | rfl | rfl | rfl | ⟨rfl,h9⟩ | ⟨rfl,h9⟩ | ⟨rfl,h9⟩ | ⟨rfl,h9,ha,hb⟩ | ⟨rfl,h9⟩ | ⟨rfl,h9⟩ | ⟨rfl,h9,ha,hb⟩
 ·exact tkA [18] h3 h4 (by dsimp only;omega) (by dsimp only;omega) (by dsimp only;omega) (by as_aux_lemma=>kernel_rfl) (by as_aux_lemma=>kernel_rfl)
 ·exact tkA [18] h3 h4 (by dsimp only;omega) (by dsimp only;omega) (by dsimp only;omega) (by as_aux_lemma=>kernel_rfl) (by as_aux_lemma=>kernel_rfl)
 ·exact tkA [18] h3 h4 (by dsimp only;omega) (by dsimp only;omega) (by dsimp only;omega) (by as_aux_lemma=>kernel_rfl) (by as_aux_lemma=>kernel_rfl)
 ·rcases h9 with rfl | rfl<;>rcases n9 ha hb with rfl | rfl | rfl | rfl | rfl | rfl | rfl | rfl | rfl<;>exact tkA [18,46,43] h3 h4 (by dsimp only;omega) (by dsimp only;omega) (by dsimp only;omega) (by as_aux_lemma=>kernel_rfl) (by as_aux_lemma=>kernel_rfl)
 ·rcases he with rfl | rfl | rfl | rfl | rfl
  ·exact tkA [18,46] h3 h4 (by dsimp only;omega) (by dsimp only;omega) (by dsimp only;omega) (by as_aux_lemma=>kernel_rfl) (by as_aux_lemma=>kernel_rfl)
  ·rcases n9 ha hb with rfl | rfl | rfl | rfl | rfl | rfl | rfl | rfl | rfl<;>exact tkA [18,46,14] h3 h4 (by dsimp only;omega) (by dsimp only;omega) (by dsimp only;omega) (by as_aux_lemma=>kernel_rfl) (by as_aux_lemma=>kernel_rfl)
  ·exact tkA [18,46] h3 h4 (by dsimp only;omega) (by dsimp only;omega) (by dsimp only;omega) (by as_aux_lemma=>kernel_rfl) (by as_aux_lemma=>kernel_rfl)
  ·exact tkA [18,46] h3 h4 (by dsimp only;omega) (by dsimp only;omega) (by dsimp only;omega) (by as_aux_lemma=>kernel_rfl) (by as_aux_lemma=>kernel_rfl)
  ·exact tkA [18,46] h3 h4 (by dsimp only;omega) (by dsimp only;omega) (by dsimp only;omega) (by as_aux_lemma=>kernel_rfl) (by as_aux_lemma=>kernel_rfl)
 ·rcases h9 with rfl | rfl
  ·rcases n9 ha hb with rfl | rfl | rfl | rfl | rfl | rfl | rfl | rfl | rfl<;>exact tkA [18,46,14] h3 h4 (by dsimp only;omega) (by dsimp only;omega) (by dsimp only;omega) (by as_aux_lemma=>kernel_rfl) (by as_aux_lemma=>kernel_rfl)
  ·exact tkA [18,46] h3 h4 (by dsimp only;omega) (by dsimp only;omega) (by dsimp only;omega) (by as_aux_lemma=>kernel_rfl) (by as_aux_lemma=>kernel_rfl)
 ·exact tkA [18] h3 h4 (by dsimp only;omega) (by dsimp only;omega) (by dsimp only;omega) (by as_aux_lemma=>kernel_rfl) (by as_aux_lemma=>kernel_rfl)
 ·exact tkA [18] h3 h4 (by dsimp only;omega) (by dsimp only;omega) (by dsimp only;omega) (by as_aux_lemma=>kernel_rfl) (by as_aux_lemma=>kernel_rfl)
 ·exact tkZ [18] h5 h7 h8 (by dsimp only;omega) (by as_aux_lemma=>kernel_rfl) (by as_aux_lemma=>kernel_rfl)
 ·rcases h9 with rfl | rfl | rfl<;>exact tkZ [18,46] h5 h7 h8 (by dsimp only;omega) (by as_aux_lemma=>kernel_rfl) (by as_aux_lemma=>kernel_rfl)
 ·rcases h9 with rfl | rfl<;>exact tkZ [18,46] h5 h7 h8 (by dsimp only;omega) (by as_aux_lemma=>kernel_rfl) (by as_aux_lemma=>kernel_rfl)
 ·subst h9;exact tkZ [18,46] h5 h7 h8 (by dsimp only;omega) (by as_aux_lemma=>kernel_rfl) (by as_aux_lemma=>kernel_rfl)
 ·have hw:IntKind.wrap .i64 (ix+1)=ix+1:=gM (by omega)
  have hn:0<=IntKind.wrap .i64 (ix+1):=by rw [hw];omega
  rcases he with rfl | rfl | rfl | rfl | rfl
  ·exact absurd h9 (by decide)
  ·refine uf jM (ks:=[18,46]) rfl (Sb σ kA dL CV ⟨⟨k,adr,old,new,i,j,ans⟩,13,acc,wd,clk,ix,seen,doomed,2,me,thr,mst,holds,span,notes,freed,reply⟩ x) ?_
   exact iE (rh (r:=rOf ⟨⟨k,adr,old,new,i,j,ans⟩,13,acc,wd,clk,ix,seen,doomed,2,me,thr,mst,holds,span,notes,freed,reply⟩) ⟨rfl,rfl,rfl⟩ (by show seen.length<=_;omega)) (qT (r:=js x.w (rOf ⟨⟨k,adr,old,new,i,j,ans⟩,13,acc,wd,clk,ix,seen,doomed,2,me,thr,mst,holds,span,notes,freed,reply⟩)) (fU ⟨rfl,rfl,rfl⟩) (vg (fU ⟨rfl,rfl,rfl⟩) (decide_eq_true ⟨by show (2:Int)<=2;decide,by show (2:Int)<=5;decide,by show (seen++[x.w]).length<=_;rw [List.length_append];simp only [List.length_cons,List.length_nil];omega,h5⟩)) hn h7 h8)
  ·refine uf jM (ks:=[18,46]) rfl (Sa σ kA dL CV ⟨⟨k,adr,old,new,i,j,ans⟩,13,acc,wd,clk,ix,seen,doomed,3,me,thr,mst,holds,span,notes,freed,reply⟩ x) ?_
   exact iE (rh (r:=rOf ⟨⟨k,adr,old,new,i,j,ans⟩,13,acc,wd,clk,ix,seen,doomed,3,me,thr,mst,holds,span,notes,freed,reply⟩) ⟨rfl,rfl,rfl⟩ (by show seen.length<=_;omega)) (qT (r:=js x.w (rOf ⟨⟨k,adr,old,new,i,j,ans⟩,13,acc,wd,clk,ix,seen,doomed,3,me,thr,mst,holds,span,notes,freed,reply⟩)) (fU ⟨rfl,rfl,rfl⟩) (vg (fU ⟨rfl,rfl,rfl⟩) (decide_eq_true ⟨by show (2:Int)<=3;decide,by show (3:Int)<=5;decide,by show (seen++[x.w]).length<=_;rw [List.length_append];simp only [List.length_cons,List.length_nil];omega,h5⟩)) hn h7 h8)
  ·refine uf (Wq jM ⟨⟨k,adr,old,new,i,j,ans⟩,13,acc,wd,clk,ix,seen,doomed,4,me,thr,mst,holds,span,notes,freed,reply⟩ (seen++[x.w]) (seen.length+1) (by rw [List.length_append];rfl) (by rw [List.length_append];simp only [List.length_cons,List.length_nil];omega)) (ks:=[18,46]) rfl (R9 σ ((seen++[x.w]).map lD) kA dL CV ⟨⟨k,adr,old,new,i,j,ans⟩,13,acc,wd,clk,ix,seen,doomed,4,me,thr,mst,holds,span,notes,freed,reply⟩ x) ?_
   exact iE (rh (r:=rOf ⟨⟨k,adr,old,new,i,j,ans⟩,13,acc,wd,clk,ix,seen,doomed,4,me,thr,mst,holds,span,notes,freed,reply⟩) ⟨rfl,rfl,rfl⟩ (by show seen.length<=_;omega)) (qT (r:=js x.w (rOf ⟨⟨k,adr,old,new,i,j,ans⟩,13,acc,wd,clk,ix,seen,doomed,4,me,thr,mst,holds,span,notes,freed,reply⟩)) (fU ⟨rfl,rfl,rfl⟩) (iE (MW _ _ _) (iE (gO _ _) (iE (decide_eq_true ⟨rfl,by rw [List.length_map,List.length_append];simp only [List.length_cons,List.length_nil];omega⟩) (vZ (eV (r:=iF 14 _ (js x.w (rOf ⟨⟨k,adr,old,new,i,j,ans⟩,13,acc,wd,clk,ix,seen,doomed,4,me,thr,mst,holds,span,notes,freed,reply⟩))) (fU ⟨rfl,rfl,rfl⟩)) (eV (r:=iG 15 _ (js x.w (rOf ⟨⟨k,adr,old,new,i,j,ans⟩,13,acc,wd,clk,ix,seen,doomed,4,me,thr,mst,holds,span,notes,freed,reply⟩))) (fU ⟨rfl,rfl,rfl⟩)))))) hn h7 h8)
  ·refine uf jM (ks:=[18,46]) rfl (R8 σ kA dL CV ⟨⟨k,adr,old,new,i,j,ans⟩,13,acc,wd,clk,ix,seen,doomed,5,me,thr,mst,holds,span,notes,freed,reply⟩ x) ?_
   exact iE (rh (r:=rOf ⟨⟨k,adr,old,new,i,j,ans⟩,13,acc,wd,clk,ix,seen,doomed,5,me,thr,mst,holds,span,notes,freed,reply⟩) ⟨rfl,rfl,rfl⟩ (by show seen.length<=_;omega)) (qT (r:=js x.w (rOf ⟨⟨k,adr,old,new,i,j,ans⟩,13,acc,wd,clk,ix,seen,doomed,5,me,thr,mst,holds,span,notes,freed,reply⟩)) (fU ⟨rfl,rfl,rfl⟩) (vg (fU ⟨rfl,rfl,rfl⟩) (decide_eq_true ⟨by show (2:Int)<=5;decide,by show (5:Int)<=5;decide,by show (seen++[x.w]).length<=_;rw [List.length_append];simp only [List.length_cons,List.length_nil];omega,h5⟩)) hn h7 h8)
 ·subst h9;exact tkZ [18,46] h5 h7 h8 (by dsimp only;omega) (by as_aux_lemma=>kernel_rfl) (by as_aux_lemma=>kernel_rfl)
 ·subst h9
  refine uf jM (ks:=[18]) rfl (XL σ kA dL CV ⟨⟨k,adr,old,new,i,j,ans⟩,15,acc,wd,clk,ix,seen,doomed,4,me,thr,mst,holds,span,notes,freed,reply⟩ x) ?_
  exact vg (r:={rOf ⟨⟨k,adr,old,new,i,j,ans⟩,15,acc,wd,clk,ix,seen,doomed,4,me,thr,mst,holds,span,notes,freed,reply⟩ with m:={(⟨⟨k,adr,old,new,i,j,ans⟩,15,acc,wd,clk,ix,seen,doomed,4,me,thr,mst,holds,span,notes,freed,reply⟩:RiteM) with clock:=x.w}}) ⟨rfl,rfl,rfl⟩ (decide_eq_true ⟨by show (2:Int)<=4;decide,by show (4:Int)<=5;decide,by show seen.length<=_;omega,h5⟩)
 ·refine uf jM (ks:=[18]) rfl (XK σ kA dL CV ⟨⟨k,adr,old,new,i,j,ans⟩,16,acc,wd,clk,ix,seen,doomed,e,me,thr,mst,holds,span,notes,freed,reply⟩ x) ?_
  have hl:(0:Int)<=doomed.length:=by omega
  have e1:((doomed.length:Int)).toNat=doomed.length:=by omega
  unfold K8
  refine iE (decide_eq_true ⟨Int.le_refl 0,by show (0:Int) < doomed.length;omega⟩) (iE (decide_eq_true h9) (iE (decide_eq_true ⟨rfl,h5⟩) (iE (decide_eq_true ⟨rfl,h5,ha,hb,gM ?_⟩) (iE (decide_eq_true ⟨by decide,by show (1:Int)<=doomed.length;omega,Int.le_refl _,rfl⟩) ?_))))
  ·have h5:notes.length<=100000:=h5
   have ha:0<=dL (doomed.getD 0 knotes.dflt) notes:=ha
   have hb:dL (doomed.getD 0 knotes.dflt) notes < (notes.length:Int):=hb
   show _<=dL (doomed.getD 0 knotes.dflt) notes+1 /\ dL (doomed.getD 0 knotes.dflt) notes+1<=_
   omega
  ·have key:∀dd:List Nt,dd=doomed.drop 1->dr (lu tI tN tR {m:={(⟨⟨k,adr,old,new,i,j,ans⟩,16,acc,wd,clk,ix,seen,doomed,e,me,thr,mst,holds,span,notes,freed,reply⟩:RiteM) with notes:=notes.take (dL (doomed.getD 0 knotes.dflt) notes).toNat++notes.drop ((dL (doomed.getD 0 knotes.dflt) notes).toNat+1),freed:=IntKind.wrap .i64 (freed+1),doomed:=dd},ls:=seen.length,ld:=doomed.length - 1,ln:=notes.length - 1}) (EZ ⟨⟨k,adr,old,new,i,j,ans⟩,16,acc,wd,clk,ix,seen,doomed,e,me,thr,mst,holds,span,notes,freed,reply⟩):=by
    rintro _ rfl
    refine Oj ⟨rfl,?_,?_⟩
    ·show doomed.length - 1=(doomed.drop 1).length
     rw [List.length_drop]
    ·show notes.length - 1=(notes.take (dL (doomed.getD 0 knotes.dflt) notes).toNat++notes.drop ((dL (doomed.getD 0 knotes.dflt) notes).toNat+1)).length
     have ha:0<=dL (doomed.getD 0 knotes.dflt) notes:=ha
     have hb:dL (doomed.getD 0 knotes.dflt) notes < (notes.length:Int):=hb
     rw [List.length_append,List.length_take,List.length_drop]
     omega
   exact key ((doomed.take doomed.length).drop 1) (by rw [List.take_length])
theorem On:FnOk Tryz.prog (NV σ) 31 (aZ isS noM (dK aRp vQ oRite (fun m _=>some (Bk m)) (fun m x=>((),eE m x)))) :=
 LR rfl fun m x h=>JH σ m x h
end
end Go.Proofs.YtadmfaohjnjajaaGreatDoor
