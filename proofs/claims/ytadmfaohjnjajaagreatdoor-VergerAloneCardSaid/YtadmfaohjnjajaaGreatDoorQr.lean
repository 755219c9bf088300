import Derived.Test.YtadmfaohjnjajaaGreatDoorQk
import Derived.Shelf.Spec.SlicesInsertGrow
import Derived.Laws.CopyRow
set_option linter.unusedVariables false
set_option linter.unusedSimpArgs false
set_option maxHeartbeats 0
set_option maxRecDepth 100000
noncomputable section
namespace Go.Proofs.YtadmfaohjnjajaaGreatDoor
section
open Go Go.Sx Go.Proofs
variable {σ:Sg} {lp:Lp}
def ksI:List Nat:=[0,3,4,6,7,8]
def LI:Code:=jv 2 (cQ (eG Tryz.f92))
def P3 (x:Nt) (q:Nat) (l:List Nt) (i:Int) (y:Int):St AV :=
 {E:=only ksI [(0,.v (.c (.vs 7 0 q 7 false))),(3,.v (.c (.ptr 8 0))),(4,.v (.c (.it .i64 y))),(6,.v (.c (.vs 7 0 q 7 false))),(7,.v (.c (.it .i64 q))),(8,.v (.c (.it .i64 i)))] 19,H:=tj bS [.bN (.notes l),.cells (Nt.enc x) 151]}
def sU (x y:Nt):Bool:=x.ae==y.ae&&(x.gen==y.gen&&(x.tag==y.tag&&(x.bU==y.bU&&(x.mark==y.mark&&(x.Ah==y.Ah&&x.Cu==y.Cu)))))
theorem iR (σ:Sg) (x:Nt) (q:Nat) (l:List Nt) (i y:Int):(xc (NV σ) (bE (lv (NV σ) b9 5)) (fun _=>none) 19 LI (P3 x q l i y)).bind (ff 9 19 ksI fw) =
 .ite (decide (i < (q:Int))) (.aE (match decide (0<=i /\ i < (q:Int)) with | true=>decide (0+i.toNat < l.length) | false=>false) (.ite (sU x (l.getD (0+i.toNat) bx.bK)) (.aD (.ret,P3 x q l i i)) (.aD (.normal,P3 x q l (IntKind.wrap .i64 (i+1)) y)))) (.aD (.exit 0,P3 x q l i y)):=by kernel_rfl
def IU (x:Nt) (l:List Nt) (m:MA):St AV:=P3 x l.length l m.k (cond m.b m.k 0)
theorem Tn (σ:Sg) (x:Nt) (l:List Nt) (hl:l.length<=100000) (m:MA) (r:Ex×MA) (h:(sj l (sU x) m).val=some r) :
 ((xc (NV σ) (bE (lv (NV σ) b9 5)) (fun _=>none) 19 LI (IU x l m)).bind (ff 9 19 ksI fw)).val=some (r.1,IU x l r.2):=by
 replace h:=aC h
 obtain⟨hb,h⟩:=h;obtain⟨h1,h2⟩:=aaF hb;cases h;obtain⟨k,b⟩:=m;simp only at h1 h2;subst h2;have e1:0+(k:Int).toNat=k:=by omega
 have hw:IntKind.wrap .i64 ((k:Int)+1)=((k+1:Nat):Int):=ml (by omega);dsimp only [IU];rw [iR];by_cases hk:k < l.length
 ·rw [oX (aaC (by show (k:Int) < _;omega)),nv (by rw [aaC (by omega)];exact aaC (by omega)),e1,hw,gE bx.bK hk];cases hp:sU x (l.getD k bx.bK) with
  | true=>simp only [Uw,hp];rfl
  | false=>simp only [Uw,hp];rfl
 ·rw [oY (aaK (by show ¬(k:Int) < _;omega)),ade (by omega)];rfl
def auH (x:Nt) (l:List Nt) (s:St AV):Prop:=Sx.aJ s.E 0=.v (.c (.vs 7 0 l.length 7 false)) /\ Sx.aJ s.E 3=.v (.c (.ptr 8 0)) /\ Sx.aJ s.E 4=.v (.c (.il .i64 0)) /\ Sx.aJ s.E 6=.v (.c (.vs 7 0 l.length 7 false)) /\ Sx.aJ s.E 7=.v (.c (.it .i64 l.length)) /\ Sx.aJ s.E 8=.v (.c (.il .i64 0)) /\ s.H=tj bS [.bN (.notes l),.cells (Nt.enc x) 151]
def gI (an:Bool) (ix:Nat) (x:Nt) (l:List Nt) (s:St AV):T (Ex×St AV):=.aE (iI (auH x l s)) (.ite an (.aD (.ret,P3 x l.length l ix ix)) (.aD (.exit 0,P3 x l.length l l.length 0)))
theorem ao0 {N':eI AV} (hF:N'.F=(NV σ).F) (hG:N'.G=(NV σ).G) (x:Nt) (l:List Nt) (hl:l.length<=100000):gr Tryz.prog N' 19 LI (gI (l.any (sU x)) (jF (sU x) 0 l) x l):=by
 have cR:gZ Tryz.prog (NV σ) (bE (lv (NV σ) b9 5)):=dt (mQ sJ uD K7 bp 5);refine eY (N:=NV σ) hF hG sJ cR (lp:=fun _=>none) (fun _ _ _ g hg=>by cases hg) fun s s' ex cM=>?_;obtain⟨E1,H1⟩:=s;unfold gI at cM
 replace cM:=aC cM
 obtain⟨hb,cM⟩:=cM;obtain⟨e0,e3,e4,e6,e7,e8,eH⟩:=fv hb;simp only at e0 e3 e4 e6 e7 e8 eH;subst eH;have R5:(ex,s')=((qu (sU x) 0 l).1,IU x l (qu (sU x) 0 l).2):=by
  cases ha:l.any (sU x) with
  | true =>rw [oX ha] at cM;simp only [T.val,aaf] at cM;rw [<- cM];unfold qu;rw [ha];rfl
  | false =>rw [oY ha] at cM;simp only [T.val,aaf] at cM;rw [<- cM];unfold qu;rw [ha];simp only [IU,aby,cond_false]
 simp only [aaB] at R5;obtain⟨rfl,rfl⟩:=R5;refine⟨{M:=MA,tX:=IU x l,step:=sj l (sU x),ks:=ksI,pk:=fw,Aw:=(fun d a h=>by cases h),L:=9,len:=rfl,GV:=(by show 7<=9;decide),run:=Tn σ x l hl,m:=⟨0,false⟩,k:=_,m':=_,Ld:=?_,it:=M9 l 0 rfl (acX _),fin:=rfl}⟩;refine qp (N:=NV σ) (nt:=19) (E:=E1) (ks:=ksI) (E':=[(0,.v (.c (.vs 7 0 l.length 7 false))),(3,.v (.c (.ptr 8 0))),(4,.v (.c (.it .i64 (0:Int)))),(6,.v (.c (.vs 7 0 l.length 7 false))),(7,.v (.c (.it .i64 l.length))),(8,.v (.c (.it .i64 (0:Nat))))]) fun k hk=>?_;simp only [ksI,aaO,aaR,or_false] at hk;rcases hk with rfl | rfl | rfl | rfl | rfl | rfl
 ·exact .inl e0.symm
 ·exact .inl e3.symm
 ·exact .inr ⟨by rw [e4];rintro ⟨⟩,tu _,fun ρ=>by rw [e4];rfl⟩
 ·exact .inl e6.symm
 ·exact .inl e7.symm
 ·exact .inr ⟨by rw [e8];rintro ⟨⟩,tu _,fun ρ=>by rw [e8];rfl⟩
def lpI (an:Bool) (ix:Nat) (x:Nt) (l:List Nt):Lp:=lK 92 2 (gI an ix x l) jE
theorem anx (x:Nt) (l:List Nt) (hl:l.length<=100000):fO Tryz.prog (iu (lpI (l.any (sU x)) (jF (sU x) 0 l) x l) σ) :=
 lu nO (fn:=Tryz.f92) (by kernel_rfl) (c:=eG Tryz.f92) (by kernel_rfl) (nt:=19) (by kernel_rfl) (b:=LI) (cN (by kernel_rfl)) (ao0 (σ:=σ) rfl rfl x l hl)
def apu (x:Nt) (l:List Nt):Prop:=SV.v (.c (.vs 7 0 l.length 7 false))=.v (.c (.vs 7 0 l.length 7 false)) /\ SV.v (.c (.ptr 8 0))=.v (.c (.ptr 8 0)) /\ SV.v (.c (.il .i64 0))=.v (.c (.il .i64 0)) /\ SV.v (.c (.vs 7 0 l.length 7 false))=.v (.c (.vs 7 0 l.length 7 false)) /\ SV.v (.c (.it .i64 l.length))=.v (.c (.it .i64 l.length)) /\ SV.v (.c (.il .i64 0))=.v (.c (.il .i64 0)) /\ tj bS [.bN (.notes l),.cells (Nt.enc x) 151]=tj bS [.bN (.notes l),.cells (Nt.enc x) 151]
theorem ixR (σ:Sg) (an:Bool) (ix:Nat) (x:Nt) (l:List Nt):uU (lpI an ix x l) σ b9 92 bS [.v (.c (.vs 7 0 l.length 7 false)),.v (.agg (Nt.enc x))] [.bN (.notes l)]=.aE (iI (apu x l)) (.ite an (.aD (C8 (.v (.c (.it .i64 ix)),tj bS [.bN (.notes l)]))) (.aD (C8 (.v (.c (.il .i64 (-1))),tj bS [.bN (.notes l)])))):=by kernel_rfl
def fz (x:Nt) (l:List Nt):Int:=cond (l.any (sU x)) (jF (sU x) 0 l) (-1)
def ixS (ix:Nt->List Nt->Int) (args:List SV) (ch:List (aK AV)):T (SV×List (aK AV)×List (aK AV)):=match args,ch with
 | [.v (.c (.vs 7 0 q 7 false)),.v (.agg [.it .i64 a,.it .i64 b,.it .i64 c,.it .i64 d,.bt e,.it .i64 f,.it .i64 g])],[.bN (.notes l)]=>.aE (decide (q=l.length /\ l.length<=100000)) (.aD (.v (.c (.it .i64 (ix ⟨a,b,c,d,e,f,g⟩ l))),[.bN (.notes l)],[]))
 | _,_=>.fail "Index"
theorem aiz:cE Tryz.prog (NV σ) 92 (qK cL bS (ixS fz)):=by
 refine n7 dL rfl fun args ch v l' nw h hlen ha hC=>?_;unfold ixS at h;split at h
 ·rename_i q a b c d e f g l
  replace h:=aC h
  obtain⟨hb,h⟩:=h;obtain⟨rfl,hl⟩:=aaF hb;cases h;have hr:=(congrArg T.val (ixR σ (l.any (sU ⟨a,b,c,d,e,f,g⟩)) (jF (sU ⟨a,b,c,d,e,f,g⟩) 0 l) ⟨a,b,c,d,e,f,g⟩ l)).trans (nv (fh ⟨rfl,rfl,rfl,rfl,rfl,rfl,rfl⟩));unfold fz;cases hp:l.any (sU ⟨a,b,c,d,e,f,g⟩) with
  | true =>rw [oX hp] at hr;exact tZ (jC (anx _ _ hl) B5 rfl hr (by rintro ⟨⟩))
  | false =>rw [oY hp] at hr;exact rA (tZ (jC (anx _ _ hl) B5 rfl hr (by rintro ⟨⟩))) ((tu _).cl _) fun ρ=>rfl
 ·cases h
end
section
open Go Go.Sx Go.Proofs Go.RowKit Go.Lib
def cS (row:List Value) (p:Nat) (cs:List Value):List Value:=row.take p++cs++row.drop (p+cs.length)
theorem fX {row cs:List Value} {p:Nat} (h:p+cs.length<=row.length):(cS row p cs).length=row.length:=by simp [cS];omega
theorem zh (row:List Value) (p m:Nat) (h:p+m<=row.length):((row.drop p).take m).length=m /\ ∀(j:Nat) v,((row.drop p).take m)[j]?=some v->row[p+j]?=some v:=by
 refine⟨by simp;omega,fun j v hj=>?_⟩;rw [aeE] at hj;split at hj
 ·rwa [afG] at hj
 ·cases hj
theorem oV {w:World} {b:Nat} {row:List Value} {t:TypeId} (h:w.heap[b]?=some (.cells row.toArray t (0,0))) (o j:Nat) (v:Value) (hv:row[o+j]?=some v):w.cell? ((⟨b,o,none⟩:Addr).add j)=some v:=by
 have e:(⟨b,o,none⟩:Addr).add j=⟨b,o+j,none⟩:=by unfold Addr.add;split<;>simp_all
 rw [e];simp [World.cell?,h,hv]
theorem fE {w:World} {b c:Nat} {x:Array Value} (h:c≠b):(w.setRow b x).heap[c]?=w.heap[c]?:=by simp [World.setRow,Array.getElem?_modify,Ne.symm h]
theorem sd {P:Program} {bY:Array Oper} {o:Oper} {a:Act} {w:World} {K:Act->World->Prop} {Q:Exit->Act->World->Prop} {E:Prop}
 (hg:o.guard=none) (d x:Operand) (dT sT:TypeId) (oT:o.op=Op.call {callee:=Callee.builtin Builtin.append,args:=#[d,x],argTypes:=#[dT,sT]})
 (v u:Value) (hd:a.eval d=v) (hx:a.eval x=u) {v':Value} {w':World} (hr:(Builtin.append_ #[dT,sT] o.type #[v,u]).run P w=.ok v' w') (hK:K (a.put o.dst v') w') :
 if Region.wanted o (yielded bY a.tmps)=true then Oper.wp P o a w K Q else E:=by
 have hw:Region.wanted o (yielded bY a.tmps)=true:=by simp [Region.wanted,hg]
 rw [if_pos hw];unfold Oper.wp;simp [execOp,oT,resolve,invoke,builtin,hd,hx,hr,Result.andThen];exact hK
theorem anf:∃i:TypeInfo,Tryz.prog.info? 151=some i /\ i.size=7:=by
 have h:(match Tryz.prog.info? 151 with | some i=>i.size==7 | none=>false)=true:=by kernel_rfl
 cases hi:Tryz.prog.info? 151 with
 | none=>rw [hi] at h;cases h
 | some i =>rw [hi] at h;exact⟨i,rfl,by simpa using h⟩
theorem G1 (w:World) (ty:TypeId) (b o c:Nat) (row:List Value) (hrow:w.heap[b]?=some (.cells row.toArray 151 (0,0))) (hfit:o+7<=row.length) :
 (Builtin.clear_ #[41] ty #[.slice (some ⟨b,o,none⟩) 1 c]).run Tryz.prog w=.ok (.tuple #[]) (w.setRow b (cS row o [.int .i64 0,.int .i64 0,.int .i64 0,.int .i64 0,.bool false,.int .i64 0,.int .i64 0]).toArray):=by
 have hzc:(Builtin.zeroCells (Value.agg #[.int .i64 0,.int .i64 0,.int .i64 0,.int .i64 0,.bool false,.int .i64 0,.int .i64 0]).cells 1).toList=[.int .i64 0,.int .i64 0,.int .i64 0,.int .i64 0,.bool false,.int .i64 0,.int .i64 0]:=by kernel_rfl
 have tg:=run_storeCells_at Tryz.prog b o 151 [.int .i64 0,.int .i64 0,.int .i64 0,.int .i64 0,.bool false,.int .i64 0,.int .i64 0] 0 row.toArray w hrow (by simpa using hfit) (by
  intro v hv;simp only [aaO,aaR,or_false] at hv;rcases hv with rfl | rfl | rfl | rfl | rfl | rfl | rfl<;>rfl)
 simp only [Nat.add_zero] at tg;simp only [Builtin.clear_,aaY];simp [run_underlying Tryz.underlying41,Tryz.zeroValue151,hzc,tg,cS]
set_option maxHeartbeats 4000000 in
theorem auY (b off n c i j:Nat) (row:List Value) (w:World) (hij:j=i+1) (hi:i < n) (hnc:n<=c) (hc63:n<=1000000)
 (hrow:w.heap[b]?=some (.cells row.toArray 151 (0,0))) (hfit:off+c * 7<=row.length) (hone:∀v∈(row.drop off).take (n * 7),v.oneCell'=true) :
 Calls Tryz.prog 93 #[.slice (some ⟨b,off,none⟩) n c,.int .i64 i,.int .i64 j] w fun e w' =>
  e=.returned (.slice (some ⟨b,off,none⟩) (n - 1) c) /\ w'=(w.drew.setRow b (cS row (off+i * 7) ((row.drop (off+j * 7)).take ((n - j) * 7))).toArray).setRow b (cS (cS row (off+i * 7) ((row.drop (off+j * 7)).take ((n - j) * 7))) (off+(n - 1) * 7) [.int .i64 0,.int .i64 0,.int .i64 0,.int .i64 0,.bool false,.int .i64 0,.int .i64 0]).toArray:=by
 obtain⟨i0,hi0,hi1⟩:=anf;have mixed:Tryz.prog.follows Departure.mixedOrders=true:=by kernel_rfl
 obtain⟨s1,s2⟩:=zh row (off+j * 7) ((n - j) * 7) (by omega);obtain⟨cs,hcs⟩:∃cs,cs=(row.drop (off+j * 7)).take ((n - j) * 7):=⟨_,rfl⟩;rw [<- hcs] at s1 s2 ⊢;have hone1:∀v∈cs,v.oneCell'=true:=fun v hv=>by obtain⟨k,hk⟩:=adQ.1 hv;have q3:=s2 k v hk;have hkl:=(aaS.1 hk).1;rw [s1] at hkl;refine hone v (adQ.2 ⟨j * 7+k,?_⟩);rw [aeE,if_pos (by omega),afG,show off+(j * 7+k)=off+j * 7+k by omega];exact q3
 obtain⟨A,hA,hsrc⟩:∃A:Addr,(if c=j then some (⟨b,off,none⟩:Addr) else some ⟨b,off+j * 7,none⟩)=some A /\ (∀(t:Nat) u,cs[t]?=some u->w.drew.cell? (A.add t)=some u):=by
  by_cases h:c=j
  ·refine⟨⟨b,off,none⟩,by simp [h],fun t u hu=>?_⟩;have h0:cs.length=0:=by rw [s1,show n - j=0 by omega]
   rw [afO.1 h0] at hu;simp at hu
  ·exact⟨⟨b,off+j * 7,none⟩,by simp [h],fun t u hu=>oV (w:=w.drew) hrow _ t u (s2 t u hu)⟩
 have hap:∀ty dc,(Builtin.append_ #[41,41] ty #[.slice (some ⟨b,off,none⟩) i c,.slice (some A) (n - j) dc]).run Tryz.prog w.drew=.ok (.slice (some ⟨b,off,none⟩) (n - 1) c) (w.drew.setRow b (cS row (off+i * 7) cs).toArray):=fun ty dc=>by have:=oa (P:=Tryz.prog) w.drew 41 ty 151 i0 Tryz.underlying41 hi0 b off i c row.toArray 151 hrow A (n - j) dc cs (by rw [s1,hi1]) hsrc hone1 (by omega) (by rw [hi1];simp;omega);rw [this,hi1,show i+(n - j)=n - 1 by omega];rfl
 obtain⟨r1,hr1⟩:∃r1,r1=cS row (off+i * 7) cs:=⟨_,rfl⟩;have hr1l:r1.length=row.length:=by rw [hr1];exact fX (by omega)
 rw [<- hr1] at hap ⊢;obtain⟨W1,hW1⟩:∃W1,W1=w.drew.setRow b r1.toArray:=⟨_,rfl⟩;have hW1b:W1.heap[b]?=some (.cells r1.toArray 151 (0,0)):=by rw [hW1];exact setRow_heap w.drew b _ _ _ (0,0) hrow
 have hcl:∀ty dc,(Builtin.clear_ #[41] ty #[.slice (some ⟨b,off+(n - 1) * 7,none⟩) 1 dc]).run Tryz.prog W1=.ok (.tuple #[]) (W1.setRow b (cS r1 (off+(n - 1) * 7) [.int .i64 0,.int .i64 0,.int .i64 0,.int .i64 0,.bool false,.int .i64 0,.int .i64 0]).toArray):=fun ty dc=>G1 W1 ty b _ dc r1 hW1b (by omega);rw [<- hW1] at hap ⊢;have hic:i<=c:=by omega
 have hjc:j<=c:=by omega
 have hjn:j<=n:=by omega
 have hin:i<=n:=by omega
 have hijle:i<=j:=by omega
 have hz:¬((i:Int)=(j:Int)):=by omega
 have h1n:n - (n - 1)=1:=by omega
 have hcn:¬(c=n - 1):=by omega
 have hle:n - 1<=n:=by omega
 have hle2:((n - 1:Nat):Int)<=(n:Int):=by omega
 clear hij hrow hone hone1 s1 s2 hcs hsrc hr1 hr1l hW1b hW1 hi0 hi1
 go_enter Tryz.func93,Tryz.ntmps93
 go_wp2_with fail
 go_region_law_o (refine sd rfl _ _ 41 41 rfl _ (.slice (some A) (n - j) (c - j)) (by simp [Act.eval,Act.put]) (by simp [Act.eval,Act.put,hA]) (hap _ _) ?_)
 go_wp2
 go_ret
 exact⟨rfl,rfl⟩
theorem setRow_size (w:World) (b:Nat) (x:Array Value):(w.setRow b x).heap.size=w.heap.size:=by simp [World.setRow]
theorem j9 {row cs:List Value} {p:Nat} (h:p+cs.length<=row.length) (j:Nat):(cS row p cs)[j]?=if j < p then row[j]? else if j < p+cs.length then cs[j - p]? else row[j]?:=Db h j
theorem BA {w w':World} {S:Nat->Prop} {b:Nat} (hb:S b \/ w.heap.size<=b) (h:∀k,k < w.heap.size->k≠b->w'.heap[k]?=w.heap[k]?) (h1:w'.os=w.os) (h2:w'.tape=w.tape) (h3:w'.output=w.output) (h4:w.heap.size<=w'.heap.size):Fr S (fun k=>k=b) w w' :=
 ⟨fun k hk hs=>h k hk (fun e=>by
   subst e;rcases hb with hb | hb
   ·exact hs hb
   ·omega),fun k hk=>by
   rw [hk];exact hb.symm,h1,h2,h3,h4⟩
def ajO (args:List SV) (H:Hp AV):T (SV×Hp AV):=match args with
 | [.v (.c (.vs n 0 len 7 false)),.v (.c x),.v (.c y)]=>match af H n,kL x,kL y,Nat.ble 7 H.length with
   | some (.bN (.notes p)),some i,some j,true=>.aE (decide (len=p.length /\ p.length<=100000 /\ 0<=i /\ i < (p.length:Int) /\ j=i+1)) (.aD (.v (.c (.vs H.length 0 (len - 1) 7 false)),gM H (some n)++[some (.bN (.notes (p.take i.toNat++p.drop (i.toNat+1))))]))
   | _,_,_,_=>.fail "Delete"
 | _=>.fail "Delete"
theorem mu (p:List Nt):(bx.aT p).length=p.length * 7:=bx.jZ p
theorem Pw (p:List Nt) (i:Nat):(bx.aT p).take (i * 7)=bx.aT (p.take i):=bx.wA p i
theorem Px (p:List Nt) (i:Nat):(bx.aT p).drop (i * 7)=bx.aT (p.drop i):=bx.wB p i
theorem adM {σ:Sg}:cE Tryz.prog (NV σ) 93 ajO:=by
 refine cE.of fun args H v H' hr ha hC=>?_;unfold ajO at hr;split at hr
 ·rename_i n len x y;split at hr
  ·rename_i p i j hn hi hj hG
   replace hr:=aC hr
   obtain⟨hb,hr⟩:=hr;obtain⟨rfl,Nl,hi0,hi1,rfl⟩:=aaF hb;cases hr;obtain⟨k,rfl⟩:∃k:Nat,i=k:=⟨i.toNat,by omega⟩;have hk:k < p.length:=by omega
   have hG:(NV σ).G<=H.length:=acZ hG;have hd:∀j,some n=some j->∃c,af H j=some c:=fun j hj=>by cases hj;exact⟨_,hn⟩
   have hpn:(NV σ).F.gb (.notes (p.take k++p.drop (k+1)))=some (7,151,bx.aT (p.take k++p.drop (k+1))):=rfl;have GQ:(NV σ).F.gb (.notes p)=some (7,151,bx.aT p):=rfl;refine⟨m6 hd 0 _ 7 false,DE hC hd (fun c hc=>by cases hc),fun ρ w hO=>?_⟩;have hv:=(((NV σ).F.kZ _ _ _ _ GQ).2 _ _ _).1 (hO.q n _ hn);have hone:=((NV σ).F.kZ _ _ _ _ GQ).1;have hxd:x.ay ρ=.int .i64 (k:Int):=b6 hi ρ;have hyd:y.ay ρ=.int .i64 ((k+1:Nat):Int):=by rw [b6 hj ρ];congr 1
   show Calls Tryz.prog _ #[cH (ρ.L n) 0 p.length 2,x.ay ρ,y.ay ρ] w _;rw [hxd,hyd,vsDen_eq,if_neg (by omega)];rcases hv with⟨xR,hp0,hS0⟩ | ⟨hc1,hS,row,hh,hf,hl,hg⟩
   ·exfalso;have:(bx.aT p).length=0:=by rw [hp0];rfl
    rw [mu] at this;omega
   rw [mu] at hl;have hSb:ρ.S n (ρ.L n).b:=(hS _).2 rfl;have lO:∀j,j < p.length * 7->(bx.aT p)[j]?=row[(ρ.L n).o+j]?:=fun j hj=>by rw [hg j _ (aaN (by rw [mu];exact hj)),aaN (by rw [mu];exact hj)]
   have Nj:∀v∈(row.drop (ρ.L n).o).take (p.length * 7),v.oneCell'=true:=fun v hv=>by
    obtain⟨j,hj⟩:=adQ.1 hv;rw [aeE] at hj;split at hj
    ·rename_i hjl;rw [afG,<- lO j hjl] at hj;exact hone v (aca hj)
    ·cases hj
   refine(auY (ρ.L n).b (ρ.L n).o p.length ((ρ.L n).c - 1) k (k+1) row w rfl hk (by omega) (by omega) hh hf Nj).mono ?_;rintro e w' ⟨rfl,rfl⟩;have l1:((row.drop ((ρ.L n).o+(k+1) * 7)).take ((p.length - (k+1)) * 7)).length=(p.length - (k+1)) * 7:=by simp;omega
   have l2:(cS row ((ρ.L n).o+k * 7) ((row.drop ((ρ.L n).o+(k+1) * 7)).take ((p.length - (k+1)) * 7))).length=row.length:=fX (by omega);have hlen:(bx.aT (p.take k++p.drop (k+1))).length=(p.length - 1) * 7:=by rw [mu];simp;omega
   have hnv:ng ⟨(ρ.L n).b,(ρ.L n).o,(ρ.L n).c - 1+1⟩ (fun x=>x=(ρ.L n).b) (bx.aT (p.take k++p.drop (k+1))) 7 151 ((w.drew.setRow (ρ.L n).b (cS row ((ρ.L n).o+k * 7) ((row.drop ((ρ.L n).o+(k+1) * 7)).take ((p.length - (k+1)) * 7))).toArray).setRow (ρ.L n).b (cS (cS row ((ρ.L n).o+k * 7) ((row.drop ((ρ.L n).o+(k+1) * 7)).take ((p.length - (k+1)) * 7))) ((ρ.L n).o+(p.length - 1) * 7) [.int .i64 0,.int .i64 0,.int .i64 0,.int .i64 0,.bool false,.int .i64 0,.int .i64 0]).toArray):=by
    refine .inr ⟨by simp,fun x=>Iff.rfl,_,setRow_heap _ _ _ _ _ (0,0) (setRow_heap w.drew _ _ _ _ (0,0) hh),?_,?_,?_⟩
    ·rw [fX (by simp;omega),l2];simpa using hf
    ·rw [hlen];simp only [Nat.add_sub_cancel];omega
    ·intro j v hj;have hjl:=(aaS.1 hj).1;rw [hlen] at hjl;simp only;rw [j9 (by simp;omega),if_pos (by omega),j9 (by omega)];rw [AK.mm,<- Pw,<- Px] at hj;by_cases h1:j < k * 7
     ·rw [if_pos (by omega),<- lO j (by omega)];rw [acM (by rw [aga,mu];omega),aeE,if_pos h1] at hj;exact hj
     ·rw [if_neg (by omega),if_pos (by omega),aeE,if_pos (by omega),afG];rw [acR (by rw [aga,mu];omega),afG,aga,mu,lO _ (by omega)] at hj;rw [<- hj];congr 1;omega
   obtain⟨o1,o2⟩:=v7 (N:=NV σ) hO hC hG (d:=some n) hd hpn (S:=ρ.S n) (fun j hj=>⟨n,_,rfl,hn,hj⟩) hnv (BA (.inl hSb) (fun j hj dE=>by rw [fE dE,fE dE];rfl) rfl rfl rfl (by rw [setRow_size,setRow_size];exact ab4 _));refine⟨_,?_,o1,o2⟩;show _=Ending.returned (cH ((ρ.set H.length ⟨(ρ.L n).b,(ρ.L n).o,(ρ.L n).c - 1+1⟩ fun x=>x=(ρ.L n).b).L H.length) 0 (p.length - 1) 7);rw [(p6 _ _ _ _).1,vsDen_eq,if_neg (by simp)];rfl
  ·cases hr
 ·cases hr
end
section
open Go Go.Sx Go.Proofs
variable {σ:Sg} {lp:Lp}
def nmT (n:Nat):Nat:=match n with | 0=>7 | 1=>14 | 2=>9 | _=>10
def Qq (m:ax) (q:Nat):List Cell:=de ((iK AV.len 1 (dp 46 (dp 18 (ax.wr {m with step:=13,au:=4})))).map (Cell.cV nmT)) 44 (.vs 14 0 q 5 false)
def hpT (m:ax) (l:List W) (q:Nat):Hp AV:=cZ AV.gH 0 bS++[some (.cells (Qq m q) fQ),none,some (.bN (.notes m.aS)),some (.bN (.notes m.notes)),none,none,none,some (.bN (.fD l))]
def Yx:List Nat:=[2,3,10,11,12]
def LT4:Code:=jv 3 (cQ (eG Tryz.f91))
def NK (m:ax) (l:List W) (q:Nat) (i:Int) (r:List Sp) (lr:Nat):St AV :=
 {E:=only Yx [(2,.v (.c .dP)),(3,.v (.c (.vs 15 0 lr 3 false))),(10,.v (.c (.vs 14 0 q 5 false))),(11,.v (.c (.it .i64 q))),(12,.v (.c (.it .i64 i)))] 23,H:=(hpT m l q)++[some (.bN (.fe r))]}
def Pd (σ:Sg) (n:Nat) (l:List Sp):Bool:=decide (n=gX.len (F6 σ) (AV.fe l) /\ (n+1) * (SI.bytes Ra+1)<=zF)
theorem rT4 (σ:Sg) (m:ax) (l:List W) (q:Nat) (i:Int) (r:List Sp) (lr:Nat):(xc (NV σ) (bE (lv (NV σ) b9 5)) (fun _=>none) 23 LT4 (NK m l q i r lr)).bind (ff 15 23 Yx fw) =
 .ite (decide (i < (q:Int))) (.aE (decide (0<=i /\ i < (q:Int))) (.aE (decide (0+i.toNat < l.length)) (.aE (Pd σ lr r) (.aD (.normal,NK m l q (IntKind.wrap .i64 (i+1)) (r++[ql (l.getD (0+i.toNat) fg.bK)]) (lr+1)))))) (.aD (.exit 0,NK m l q i r lr)):=by kernel_rfl
theorem Tv {n:Nat} {l:List Sp} (h:n=l.length) (hn:l.length<=100000):Pd σ n l=true:=by unfold Pd;subst h;exact aaC ⟨rfl,abz (ac2 _ (afu hn)) (by decide)⟩
def FJ (m:ax) (l:List W) (q:Nat) (c:MC Sp):St AV:=NK m l q c.k c.r c.r.length
theorem OX (σ:Sg) (m:ax) (l:List W) (q:Nat) (hq:q=l.length) (hm:l.length<=100000) (c:MC Sp) (r:Ex×MC Sp) (h:(za 0 ql l c).val=some r) :
 ((xc (NV σ) (bE (lv (NV σ) b9 5)) (fun _=>none) 23 LT4 (FJ m l q c)).bind (ff 15 23 Yx fw)).val=some (r.1,FJ m l q r.2):=by
 replace h:=aC h
 obtain⟨hb,h⟩:=h;obtain⟨h1,h2⟩:=aaF hb;cases h;obtain⟨k,s⟩:=c;simp only at h1 h2;have e1:0+(k:Int).toNat=k:=by omega
 have hw:IntKind.wrap .i64 ((k:Int)+1)=((k+1:Nat):Int):=ml (by omega);dsimp only [FJ];rw [rT4];by_cases hlt:k < l.length
 ·rw [oX (aaC (by show (k:Int) < _;omega)),nv (aaC (by omega)),nv (aaC (by omega)),nv (Tv rfl (by omega)),hw,gE fg.bK hlt,e1];simp only [goC,T.val,aaP,aaQ,ac8]
 ·rw [oY (aaK (by show ¬(k:Int) < _;omega)),ade (by omega)];rfl
def apq (m:ax) (l:List W) (q:Nat) (s:St AV):Prop:=Sx.aJ s.E 2=.v (.c .dP) /\ Sx.aJ s.E 3=.v (.c .dP) /\ Sx.aJ s.E 10=.v (.c (.vs 14 0 q 5 false)) /\ Sx.aJ s.E 11=.v (.c (.it .i64 q)) /\ Sx.aJ s.E 12=.v (.c (.il .i64 0)) /\ s.H=(hpT m l q)
def gT4 (sp:List Sp) (m:ax) (l:List W) (q:Nat) (s:St AV):T (Ex×St AV):=.aE (iI (apq m l q s)) (.aD (.exit 0,NK m l q l.length sp sp.length))
theorem ajr {N':eI AV} (hF:N'.F=(NV σ).F) (hG:N'.G=(NV σ).G) (m:ax) (l:List W) (q:Nat) (hq:q=l.length) (hm:l.length<=100000):gr Tryz.prog N' 23 LT4 (gT4 (l.map ql) m l q):=by
 have cR:gZ Tryz.prog (NV σ) (bE (lv (NV σ) b9 5)):=dt (mQ sJ uD K7 bp 5);refine eY (N:=NV σ) hF hG sJ cR (lp:=fun _=>none) (fun _ _ _ g hg=>by cases hg) fun s s' ex cM=>?_;obtain⟨E1,H1⟩:=s;unfold gT4 at cM
 replace cM:=aC cM
 obtain⟨hb,cM⟩:=cM;obtain⟨e2,e3,DA,Ss,e12,eH⟩:=fv hb;simp only at e2 e3 DA Ss e12 eH;subst eH;cases cM;refine⟨{M:=MC Sp,tX:=FJ m l q,step:=za 0 ql l,ks:=Yx,pk:=fw,Aw:=(fun d a h=>by cases h),L:=15,len:=rfl,GV:=(by show 7<=15;decide),run:=OX σ m l q hq hm,m:=⟨0,[]⟩,k:=_,m':=_,Ld:=?_,it:=YH l 0 [] rfl (aby _) rfl,fin:=?_}⟩
 ·refine jz (N:=NV σ) (s:=⟨E1,_⟩) (l:=[.fe []]) (fun a ha=>⟨3,qi.ty,by simp only [aaO,aaR,or_false] at ha;rw [ha];rfl⟩) (by show 7<=15;decide) fun k hk=>?_;simp only [Yx,aaO,aaR,or_false] at hk;rcases hk with rfl | rfl | rfl | rfl | rfl
  ·exact .inl e2.symm
  ·exact .inr (.inr ⟨e3,0,3,by decide,rfl⟩)
  ·exact .inl DA.symm
  ·exact .inl Ss.symm
  ·exact .inr (.inl ⟨by show Sx.aJ E1 12≠_;rw [e12];rintro ⟨⟩,tu _,fun ρ=>by show _=(Sx.aJ E1 12).ay ρ;rw [e12];rfl⟩)
 ·simp only [acB,FJ]
def anD (sp:List Sp) (m:ax) (l:List W) (q:Nat) (lp:Lp):Lp:=lK 91 3 (gT4 sp m l q) lp
theorem ant {lp:Lp} (h:fO Tryz.prog (iu lp σ)) (m:ax) (l:List W) (q:Nat) (hq:q=l.length) (hm:l.length<=100000):fO Tryz.prog (iu (anD (l.map ql) m l q lp) σ) :=
 lu h (fn:=Tryz.f91) (by kernel_rfl) (c:=eG Tryz.f91) (by kernel_rfl) (nt:=23) (by kernel_rfl) (b:=LT4) (cN (by kernel_rfl)) (ajr (σ:=σ) (N':=iu lp σ) rfl rfl m l q hq hm)
def Zx (m:ax) (l:List W) (q:Nat):Prop:=SV.v (.c .dP)=.v (.c .dP) /\ SV.v (.c .dP)=.v (.c .dP) /\ SV.v (.c (.vs 14 0 q 5 false))=.v (.c (.vs 14 0 q 5 false)) /\ SV.v (.c (.it .i64 q))=.v (.c (.it .i64 q)) /\ SV.v (.c (.il .i64 0))=.v (.c (.il .i64 0)) /\ (hpT m l q)=(hpT m l q)
theorem Zw (m:ax) (l:List W) (q:Nat):iI (Zx m l q)=true:=fh ⟨rfl,rfl,rfl,rfl,rfl,rfl⟩
end
section
open Go Go.Sx Go.Proofs
variable {σ:Sg} {lp:Lp}
def DW (σ:Sg) (sf:ax->ax) (ix:Nt->List Nt->Int) (may:Int->List Sp->Bool):m7:=br 89 (SZ σ (bJ cL bS (RI Lf iA (fun m _=>some (XN m)) fun m _=>(.iW [],sf m,[])))) (br 92 (qK cL bS (ixS ix)) (br 93 ajO (br 90 (qK cL bS (aia may)) Ly)))
def CQ (n:Int) (l:List Sp):Bool:=!(l.any (qN n))
def VT (σ:Sg):m7:=DW σ lF fz CQ
theorem Td:dH Tryz.prog (NV σ) (VT σ):=aH (JB abC) (aH aiz (aH adM (aH ah8 DY)))
def Eh (lp:Lp) (σ:Sg) (tab:m7) (ks:List Nat) (m:ax) (x:cJ):T (Option (Unit×ax)):=(Cc lp σ tab 31 bS (nD.enc x) (jn m) fQ (ks.foldl (fun g k=>dp k g) (ax.wr m)) []).map (lA CI iA)
def Q9 (σ:Sg) (r:RT):Bool:=decide (r.ls=gX.len (F6 σ) (AV.fD r.m.seen) /\ (r.ls+1) * (SI.bytes WR+1)<=zF)
section
variable {β:Type} (I:Bool->β->β->β) (N:Bool->β->β) (L:RT->β)
def Xs (sf:ax->ax) (r:RT):β:=N (Ip r) (N (XN r.m) (L (dI (sf r.m))))
def kT (w:W) (r:RT):RT:={r with m:={r.m with seen:=r.m.seen++[w]},ls:=r.ls+1}
def JX (σ:Sg) (sf:ax->ax) (x:cJ) (r:RT):β:=N (Q9 σ r) (lI I N L (IntKind.wrap .i64 (r.m.index+1)) (kT x.w r) (Xs N L sf (kT x.w r)))
def ahF (sf:ax->ax) (x:cJ) (r:RT):β:=Xs N L sf {r with m:={r.m with clock:=x.w}}
def Xt (σ:Sg) (ix:Nt->List Nt->Int) (r:RT):β :=
 N (decide ((0:Int)<=0 /\ 0 < (r.ld:Int))) (N (decide (0 < r.m.aS.length)) (N (decide (r.ln=r.m.notes.length /\ r.m.notes.length<=100000))
   (N (decide (r.ln=r.m.notes.length /\ r.m.notes.length<=100000 /\ 0<=ix (r.m.aS.getD 0 bx.bK) r.m.notes /\ ix (r.m.aS.getD 0 bx.bK) r.m.notes < (r.m.notes.length:Int) /\ IntKind.wrap .i64 (ix (r.m.aS.getD 0 bx.bK) r.m.notes+1)=ix (r.m.aS.getD 0 bx.bK) r.m.notes+1))
     (N (decide ((0:Int)<=1 /\ 1<=(r.ld:Int) /\ (r.ld:Int)<=(r.ld:Int) /\ r.ld=gX.len (F6 σ) (AV.notes r.m.aS)))
       (pq I N L {m:={r.m with notes:=r.m.notes.take (ix (r.m.aS.getD 0 bx.bK) r.m.notes).toNat++r.m.notes.drop ((ix (r.m.aS.getD 0 bx.bK) r.m.notes).toNat+1),dS:=IntKind.wrap .i64 (r.m.dS+1),aS:=(r.m.aS.take (r.ld:Int).toNat).drop 1},ls:=r.ls,ld:=(r.ld:Int).toNat - 1,ln:=r.ln - 1})))))
end
theorem ag1 (σ:Sg) (sf:ax->ax) (ix:Nt->List Nt->Int) (may:Int->List Sp->Bool) (m:ax) (x:cJ):Eh jE σ (DW σ sf ix may) [18,46] {m with step:=13,au:=2} x=JX tI tN tR σ sf x (dI {m with step:=13,au:=2}):=by kernel_rfl
theorem ag0 (σ:Sg) (sf:ax->ax) (ix:Nt->List Nt->Int) (may:Int->List Sp->Bool) (m:ax) (x:cJ):Eh jE σ (DW σ sf ix may) [18,46] {m with step:=13,au:=3} x=JX tI tN tR σ sf x (dI {m with step:=13,au:=3}):=by kernel_rfl
theorem agY (σ:Sg) (sf:ax->ax) (ix:Nt->List Nt->Int) (may:Int->List Sp->Bool) (m:ax) (x:cJ):Eh jE σ (DW σ sf ix may) [18,46] {m with step:=13,au:=5} x=JX tI tN tR σ sf x (dI {m with step:=13,au:=5}):=by kernel_rfl
theorem arE (σ:Sg) (sf:ax->ax) (ix:Nt->List Nt->Int) (may:Int->List Sp->Bool) (m:ax) (x:cJ):Eh jE σ (DW σ sf ix may) [18] {m with step:=15} x=ahF tN tR sf x (dI {m with step:=15}):=by kernel_rfl
theorem arD (σ:Sg) (sf:ax->ax) (ix:Nt->List Nt->Int) (may:Int->List Sp->Bool) (m:ax) (x:cJ):Eh jE σ (DW σ sf ix may) [18] {m with step:=16} x=Xt tI tN tR σ ix (dI {m with step:=16}):=by kernel_rfl
section
variable {β:Type} (I:Bool->β->β->β) (N:Bool->β->β) (L:RT->β)
def ahE (σ:Sg) (sp:List Sp) (may:Int->List Sp->Bool) (x:cJ) (r:RT):β:=N (Q9 σ r) (lI I N L (IntKind.wrap .i64 (r.m.index+1)) (kT x.w r)
 (N (iI (Zx r.m (r.m.seen++[x.w]) (r.ls+1))) (N (nJ (Qq r.m (r.ls+1)) fQ (Qq r.m (r.ls+1)) fQ) (N (decide (sp.length=sp.length /\ sp.length<=100000)) (I (may r.m.clock.bU sp) (L (fF 14 ⟨3,0,0,24,r.m.clock,fH r.m.clock 1⟩ (kT x.w r))) (L (eo 15 lz (kT x.w r))))))))
end
theorem agZ (σ:Sg) (sp:List Sp) (sf:ax->ax) (ix:Nt->List Nt->Int) (may:Int->List Sp->Bool) (m:ax) (x:cJ):Eh (anD sp m (m.seen++[x.w]) (m.seen.length+1) jE) σ (DW σ sf ix may) [18,46] {m with step:=13,au:=4} x=ahE tI tN tR σ sp may x (dI {m with step:=13,au:=4}):=by kernel_rfl
end
section
open Go Go.Sx Go.Proofs
variable {σ:Sg} {lp:Lp}
theorem Yb {f:FuncId} {M:List Bool} (hM:7=M.length) {γ β α:Type} {A:mh γ} {B:n5 β} {O:xp α} {ok:α->γ->Option Bool} {next:α->γ->β×α}
 (hrun:∀j x,okO (ok j x)=true->rT Tryz.prog (NV σ) f (.v (.c (.ptr 7 0))::A.enc x) (iQ M [O.V j]) (B.enc (next j x).1) (iQ M [O.V (next j x).2])):cE Tryz.prog (NV σ) f (bJ cL M (fS A B O ok next)):=by
 refine hZ dL hM fun args l v l' nw h hl bZ=>?_;unfold fS at h;split at h
 ·rename_i r a;split at h
  ·rename_i x j hx hj
   replace h:=kt h
   obtain⟨pf,h⟩:=h;cases h;have ea:=O.ok _ _ hj;subst ea;exact jh (hrun j x pf) fun ρ=>by simp only [aaU];rw [A.ok _ _ hx ρ]
  ·cases h
 ·cases h
theorem ajU {tab:m7} (ht:dH Tryz.prog (NV σ) tab) {f:FuncId} {M:List Bool} (hM:7=M.length) {β α:Type} {B:n5 β} {O:xp α} {j:α} {ty:TypeId} {gs:Gs} (hl:o9 σ (O.V j)=some (gk AV.len ty (jl gs))) {args:List SV} (hf:jq args=true) {r:β×α}
 (h:((gJ σ tab f M args (O.V j) ty gs []).map (lA B O)).val=some (some r)):rT Tryz.prog (NV σ) f (.v (.c (.ptr 7 0))::args) (iQ M [O.V j]) (B.enc r.1) (iQ M [O.V r.2]):=by
 obtain⟨y,h1,h2⟩:=dw h;rw [BJ h2] at h1;exact(L6 ht hM (O.K3 j) hl (fU hf) h1).1
theorem ajT (qG:fO Tryz.prog (iu lp σ)) {tab:m7} (ht:dH Tryz.prog (NV σ) tab) {f:FuncId} {M:List Bool} (hM:7=M.length) {β α:Type} {B:n5 β} {O:xp α} {j:α} {ty:TypeId} {gs:Gs} (hl:o9 σ (O.V j)=some (gk AV.len ty (jl gs))) {args:List SV} (hf:jq args=true) {r:β×α}
 (h:((Cc lp σ tab f M args (O.V j) ty gs []).map (lA B O)).val=some (some r)):rT Tryz.prog (NV σ) f (.v (.c (.ptr 7 0))::args) (iQ M [O.V j]) (B.enc r.1) (iQ M [O.V r.2]):=by
 obtain⟨y,h1,h2⟩:=dw h;rw [BJ h2] at h1;exact tZ (L5 qG (CJ ht) hM (O.K3 j) hl (fU hf) h1).1
section
variable {β:Type} (I:Bool->β->β->β) (N:Bool->β->β) (L:RT->β)
def lk (sz:RT->Bool) (x:cJ) (r:RT):β :=
 if r.m.step=9 then L (eo 10 lz {r with m:={r.m with word:=x.w}})
 else if r.m.step=10 then N (sz r) (
  if r.m.au=3 \/ r.m.au=5 then L (fF 11 ⟨3,0,0,24,x.w,fH x.w 1⟩ (Ep r.m.word.bU x.w.bU {r with m:={r.m with clock:=x.w}}))
  else mb I N L (Ep r.m.word.bU x.w.bU {r with m:={r.m with clock:=x.w}}))
 else if r.m.step=11 then mb I N L r
 else if r.m.step=12 then lI I N L 0 {r with m:={r.m with clock:=x.w}} (L {r with m:={r.m with clock:=x.w}})
 else L (eo 15 lz r)
end
abbrev NN:Bool->ax->ax:=fun _ t=>t
def Fe (n:Int) (r:RT) (k:ax):ax:=lI cond NN RT.m n r k
def FE (m:ax):ax:=sF {m:={m with notes:=m.notes.take (fz (m.aS.getD 0 bx.bK) m.notes).toNat++m.notes.drop ((fz (m.aS.getD 0 bx.bK) m.notes).toNat+1),dS:=IntKind.wrap .i64 (m.dS+1),aS:=m.aS.drop 1},ls:=m.seen.length,ld:=m.aS.length - 1,ln:=m.notes.length - 1}
def bX (m:ax) (x:cJ):ax :=
 if m.step=13 then Fe (IntKind.wrap .i64 (m.index+1)) (kT x.w (dI m)) (if m.au=4 then cond (CQ m.clock.bU ((m.seen++[x.w]).map ql)) (fF 14 ⟨3,0,0,24,m.clock,fH m.clock 1⟩ (kT x.w (dI m))).m (eo 15 lz (kT x.w (dI m))).m else lF (kT x.w (dI m)).m)
 else if m.step=15 then lF {m with clock:=x.w}
 else if m.step=16 then FE m
 else if 9<=m.step then lk cond NN RT.m (fun _=>true) x (dI m)
 else jD cond NN RT.m x (dI m)
def J5 (m:ax):Bool:=decide (TY m /\ m.seen.length<=1000 /\ 1<=m.dk /\ m.dk<=6 /\
 (m.step=1 \/ m.step=2 \/ m.step=3 \/ (m.step=4 /\ (m.au=2 \/ m.au=3) /\ 0<=m.index /\ m.index < 9) \/ (m.step=5 /\ 0<=m.call.i /\ m.call.i < 9) \/ (m.step=6 /\ (m.au=3 \/ m.au=5) /\ 0<=m.call.i /\ m.call.i < 9) \/ m.step=7 \/ m.step=8 \/ m.step=9 \/
  (m.step=10 /\ (m.au=3 \/ m.au=4 \/ m.au=5)) \/ (m.step=11 /\ (m.au=3 \/ m.au=5)) \/ (m.step=12 /\ m.au=4) \/ (m.step=13 /\ 2<=m.au /\ 0<=m.index /\ m.index < 100) \/ (m.step=14 /\ m.au=4) \/ (m.step=15 /\ m.au=4) \/
  (m.step=16 /\ 0 < m.aS.length /\ 0<=fz (m.aS.getD 0 bx.bK) m.notes /\ fz (m.aS.getD 0 bx.bK) m.notes < (m.notes.length:Int))))
theorem afa {b:Bool} {t e:T (Option (Unit×ax))} {x y:ax} (h1:b=true->gC t x) (h2:b=false->gC e y):gC (tI b t e) (cond b x y):=by
 cases b with
 | true=>exact h1 rfl
 | false=>exact h2 rfl
theorem y3 {n:Int} {r:RT} (h:ji r) {t:T (Option (Unit×ax))} {k:ax} (hk:gC t k) (hn:0<=n) (h1:1<=r.m.dk) (h2:r.m.dk<=6):gC (lI tI tN tR n r t) (Fe n r k):=by
 have ew:IntKind.wrap .i64 (r.m.dk * 9)=r.m.dk * 9:=ml (by omega);unfold Fe lI;refine eM (fun _=>afa (fun _=>hk) fun hb=>?_) fun _=>afa (fun _=>hk) fun hb=>?_
 ·have hlt:=aaL hb;rw [ew] at hlt;have e1:Int.tdiv n 9=n / 9:=Int.tdiv_eq_ediv_of_nonneg hn;have e2:Int.tmod n 9=n % 9:=Int.tmod_eq_emod_of_nonneg hn;have e3:IntKind.wrap .i64 (n / 9)=n / 9:=ml (by omega);exact nu rfl (nu rfl (nu (by rw [e1,e2,e3];exact sL (by omega) (by omega) (by omega) (by omega)) (jB (r:=fF 13 _ {r with m:={r.m with index:=n}}) h)))
 ·have hlt:=aaL hb;exact nu (sK hn (by omega)) (jB (r:=fF 13 _ {r with m:={r.m with index:=n}}) h)
theorem OM {x:cJ} {r:RT} (h:ji r) (h1:0<=r.m.me) (h2:r.m.me < 6) (h3:0<=r.m.call.i) (h4:r.m.call.i < 9):gC (gK tI tN tR x r) (gK cond NN RT.m x r):=by unfold gK;refine eM (fun _=>jB h) fun _=>eM (fun _=>eM (fun _=>jB h) fun _=>eM (fun _=>DT (C7 (r:={r with m:={r.m with word:=x.w}}) h (sL h1 h2 h3 h4)) (jB (r:=dA ⟨x.w,true⟩ r) (qh h))) fun _=>jB (r:=dA ⟨x.w,true⟩ r) (qh h)) fun _=>?_;exact eM (fun _=>DT (jB (r:=dA ⟨r.m.word,true⟩ r) (qh h)) (C7 h (sL h1 h2 h3 h4))) fun _=>DT (jB (r:=dA ⟨r.m.word,true⟩ r) (qh h)) (DT (JH h (sK h1 h2)) (JH h (sK h1 h2)))
theorem abf {x:cJ} {r:RT} (h:ji r) (h1:0<=r.m.me) (h2:r.m.me < 6) (h3:r.m.step=4->0<=r.m.index /\ r.m.index < 9) (h4:(r.m.step=5 \/ r.m.step=6)->0<=r.m.call.i /\ r.m.call.i < 9) (h5:r.m.step=1 \/ r.m.step=2 \/ r.m.step=3 \/ r.m.step=4 \/ r.m.step=5 \/ r.m.step=6 \/ r.m.step=7 \/ r.m.step=8):gC (jD tI tN tR x r) (jD cond NN RT.m x r):=by
 unfold jD;refine eM (fun _=>jB (qh h)) fun _=>eM (fun _=>lV h) fun _=>eM (fun _=>JH h (sK h1 h2)) fun _=>eM (fun e=>Lu h h1 h2 _ (by have:=h3 e;omega)) fun _=>eM (fun _=>jB h) fun _=>?_;by_cases h7:r.m.step=7
 ·unfold gK;rw [if_pos h7,if_pos h7];exact jB h
 ·exact OM h h1 h2 (h4 (by omega)).1 (h4 (by omega)).2
theorem VL {x:cJ} {r:RT} (h:ji r) (hn:r.m.notes.length<=100000) (h1:1<=r.m.dk) (h2:r.m.dk<=6):gC (lk tI tN tR (HA σ) x r) (lk cond NN RT.m (fun _=>true) x r):=by
 unfold lk;exact eM (fun _=>jB h) fun _=>eM (fun _=>nu (Q8 h hn) (eM (fun _=>jB (Fk (r:={r with m:={r.m with clock:=x.w}}) h)) fun _=>DS (Fk (r:={r with m:={r.m with clock:=x.w}}) h))) fun _=>eM (fun _=>DS h) fun _ =>
  eM (fun _=>y3 (r:={r with m:={r.m with clock:=x.w}}) h (jB (r:={r with m:={r.m with clock:=x.w}}) h) (adi 0) h1 h2) fun _=>jB h
theorem kK {w:W} {r:RT} (h:ji r):ji (kT w r):=⟨by show r.ls+1=(r.m.seen++[w]).length;rw [aaP,h.1];rfl,h.2.1,h.2.2⟩
theorem zf {r:RT} (h:ji r) (hn:r.m.seen.length<=100000):Q9 σ r=true:=by unfold Q9;refine aaC ⟨h.1,?_⟩;rw [h.1];exact abz (ac2 _ (afu hn)) (by decide)
theorem C6 {r:RT} (h:ji r) (hs:XN r.m=true):gC (Xs tN tR lF r) (lF r.m):=nu (Du h.1 h.2.1 h.2.2) (nu hs (jB (r:=dI (lF r.m)) ⟨rfl,rfl,rfl⟩))
theorem abg {r:RT} (h:ji r):gC (pq tI tN tR r) (sF r):=by
 unfold pq sF pq;by_cases h0:r.m.aS.length=0
 ·have e:((r.ld:Int)==0)=true:=by rw [h.2.1,h0];rfl
  rw [e];exact lV h
 ·have e:((r.ld:Int)==0)=false:=by rw [h.2.1];simp only [beq_eq_false_iff_ne];omega
  rw [e];exact nu (aaC ⟨adi 0,by rw [h.2.1];omega⟩) (nu (aaC (by omega)) (jB (r:=fF 16 _ r) h))
def gsK (ks:List Nat) (m:ax):Gs:=ks.foldl (fun g k=>dp k g) (ax.wr m)
def Ow (σ:Sg) (m:ax) (x:cJ):Prop:=rT Tryz.prog (NV σ) 31 (.v (.c (.ptr 7 0))::nD.enc x) (iQ bS [jn m]) (.v (.c .fL)) (iQ bS [jn (bX m x)])
theorem ZR {ks:List Nat} {m:ax} {x:cJ} {t:T (Option (Unit×ax))} (hl:o9 σ (jn m)=some (gk AV.len fQ (jl (gsK ks m)))) (e:W5 σ ks m x=t) (hv:gC t (bX m x)):Ow σ m x :=
 ajU (O:=iA) (B:=CI) (r:=((),bX m x)) DY rfl hl (nD.free x) ((congrArg T.val e).trans hv)
theorem BM {lp:Lp} (qG:fO Tryz.prog (iu lp σ)) {ks:List Nat} {m:ax} {x:cJ} {t:T (Option (Unit×ax))} (hl:o9 σ (jn m)=some (gk AV.len fQ (jl (gsK ks m)))) (e:Eh lp σ (VT σ) ks m x=t) (hv:gC t (bX m x)):Ow σ m x :=
 ajT (O:=iA) (B:=CI) (r:=((),bX m x)) qG Td rfl hl (nD.free x) ((congrArg T.val e).trans hv)
theorem Tb {m:ax} {x:cJ} (ks:List Nat) (h1:0<=m.me) (h2:m.me < 6) (h3:m.step=4->0<=m.index /\ m.index < 9) (h4:(m.step=5 \/ m.step=6)->0<=m.call.i /\ m.call.i < 9) (h5:1<=m.step /\ m.step<=8)
 (hl:o9 σ (jn m)=some (gk AV.len fQ (jl (gsK ks m)))) (e:W5 σ ks m x=jD tI tN tR x (dI m)):Ow σ m x:=ZR hl e (by
 unfold bX;rw [if_neg (by omega),if_neg (by omega),if_neg (by omega),if_neg (by omega)];exact abf ⟨rfl,rfl,rfl⟩ h1 h2 h3 h4 (by dsimp only [dI];omega))
theorem tkZ {m:ax} {x:cJ} (ks:List Nat) (hn:m.notes.length<=100000) (h1:1<=m.dk) (h2:m.dk<=6) (h5:9<=m.step /\ m.step<=12 \/ m.step=14)
 (hl:o9 σ (jn m)=some (gk AV.len fQ (jl (gsK ks m)))) (e:W5 σ ks m x=ahD tI tN tR σ x (dI m)):Ow σ m x:=ZR hl e (by
 unfold bX;rw [if_neg (by omega),if_neg (by omega),if_neg (by omega),if_pos (by omega)];exact VL ⟨rfl,rfl,rfl⟩ hn h1 h2)
theorem VP (σ:Sg) (m:ax) (x:cJ) (h:J5 m=true):Ow σ m x:=by
 obtain⟨⟨h1,h2,h3,h4,h5⟩,h6,h7,h8,h9⟩:=aaF (h:decide _=true);clear h;obtain⟨⟨k,dh,dy,new,i,j,qB⟩,st,acc,wd,xA,ix,seen,aS,e,me,nA,xv,holds,span,notes,dS,bD⟩:=m;dsimp only at h1 h2 h3 h4 h5 h6 h7 h8 h9;have he:e=1 \/ e=2 \/ e=3 \/ e=4 \/ e=5:=by omega
 have n9 {n:Int}:0<=n->n < 9->n=0 \/ n=1 \/ n=2 \/ n=3 \/ n=4 \/ n=5 \/ n=6 \/ n=7 \/ n=8:=by omega
 clear h1 h2;rcases h9 with rfl | rfl | rfl | ⟨rfl,h9,ha,hb⟩ | ⟨rfl,ha,hb⟩ | ⟨rfl,h9,ha,hb⟩ | rfl | rfl | rfl | ⟨rfl,h9⟩ | ⟨rfl,h9⟩ | ⟨rfl,h9⟩ | ⟨rfl,h9,ha,hb⟩ | ⟨rfl,h9⟩ | ⟨rfl,h9⟩ | ⟨rfl,h9,ha,hb⟩
 ·exact Tb [18] h3 h4 (by dsimp only;omega) (by dsimp only;omega) (by dsimp only;omega) (by as_aux_lemma=>kernel_rfl) (by as_aux_lemma=>kernel_rfl)
 ·exact Tb [18] h3 h4 (by dsimp only;omega) (by dsimp only;omega) (by dsimp only;omega) (by as_aux_lemma=>kernel_rfl) (by as_aux_lemma=>kernel_rfl)
 ·exact Tb [18] h3 h4 (by dsimp only;omega) (by dsimp only;omega) (by dsimp only;omega) (by as_aux_lemma=>kernel_rfl) (by as_aux_lemma=>kernel_rfl)
 ·rcases h9 with rfl | rfl<;>rcases n9 ha hb with rfl | rfl | rfl | rfl | rfl | rfl | rfl | rfl | rfl<;>exact Tb [18,46,43] h3 h4 (by dsimp only;omega) (by dsimp only;omega) (by dsimp only;omega) (by as_aux_lemma=>kernel_rfl) (by as_aux_lemma=>kernel_rfl)
 ·rcases he with rfl | rfl | rfl | rfl | rfl
  ·exact Tb [18,46] h3 h4 (by dsimp only;omega) (by dsimp only;omega) (by dsimp only;omega) (by as_aux_lemma=>kernel_rfl) (by as_aux_lemma=>kernel_rfl)
  ·rcases n9 ha hb with rfl | rfl | rfl | rfl | rfl | rfl | rfl | rfl | rfl<;>exact Tb [18,46,14] h3 h4 (by dsimp only;omega) (by dsimp only;omega) (by dsimp only;omega) (by as_aux_lemma=>kernel_rfl) (by as_aux_lemma=>kernel_rfl)
  ·exact Tb [18,46] h3 h4 (by dsimp only;omega) (by dsimp only;omega) (by dsimp only;omega) (by as_aux_lemma=>kernel_rfl) (by as_aux_lemma=>kernel_rfl)
  ·exact Tb [18,46] h3 h4 (by dsimp only;omega) (by dsimp only;omega) (by dsimp only;omega) (by as_aux_lemma=>kernel_rfl) (by as_aux_lemma=>kernel_rfl)
  ·exact Tb [18,46] h3 h4 (by dsimp only;omega) (by dsimp only;omega) (by dsimp only;omega) (by as_aux_lemma=>kernel_rfl) (by as_aux_lemma=>kernel_rfl)
 ·rcases h9 with rfl | rfl
  ·rcases n9 ha hb with rfl | rfl | rfl | rfl | rfl | rfl | rfl | rfl | rfl<;>exact Tb [18,46,14] h3 h4 (by dsimp only;omega) (by dsimp only;omega) (by dsimp only;omega) (by as_aux_lemma=>kernel_rfl) (by as_aux_lemma=>kernel_rfl)
  ·exact Tb [18,46] h3 h4 (by dsimp only;omega) (by dsimp only;omega) (by dsimp only;omega) (by as_aux_lemma=>kernel_rfl) (by as_aux_lemma=>kernel_rfl)
 ·exact Tb [18] h3 h4 (by dsimp only;omega) (by dsimp only;omega) (by dsimp only;omega) (by as_aux_lemma=>kernel_rfl) (by as_aux_lemma=>kernel_rfl)
 ·exact Tb [18] h3 h4 (by dsimp only;omega) (by dsimp only;omega) (by dsimp only;omega) (by as_aux_lemma=>kernel_rfl) (by as_aux_lemma=>kernel_rfl)
 ·exact tkZ [18] h5 h7 h8 (by dsimp only;omega) (by as_aux_lemma=>kernel_rfl) (by as_aux_lemma=>kernel_rfl)
 ·rcases h9 with rfl | rfl | rfl<;>exact tkZ [18,46] h5 h7 h8 (by dsimp only;omega) (by as_aux_lemma=>kernel_rfl) (by as_aux_lemma=>kernel_rfl)
 ·rcases h9 with rfl | rfl<;>exact tkZ [18,46] h5 h7 h8 (by dsimp only;omega) (by as_aux_lemma=>kernel_rfl) (by as_aux_lemma=>kernel_rfl)
 ·subst h9;exact tkZ [18,46] h5 h7 h8 (by dsimp only;omega) (by as_aux_lemma=>kernel_rfl) (by as_aux_lemma=>kernel_rfl)
 ·have hw:IntKind.wrap .i64 (ix+1)=ix+1:=ml (by omega);have hn:0<=IntKind.wrap .i64 (ix+1):=by rw [hw];omega
  rcases he with rfl | rfl | rfl | rfl | rfl
  ·exact absurd h9 (by decide)
  ·refine BM nO (ks:=[18,46]) rfl (ag1 σ lF fz CQ ⟨⟨k,dh,dy,new,i,j,qB⟩,13,acc,wd,xA,ix,seen,aS,2,me,nA,xv,holds,span,notes,dS,bD⟩ x) ?_;exact nu (zf (r:=dI ⟨⟨k,dh,dy,new,i,j,qB⟩,13,acc,wd,xA,ix,seen,aS,2,me,nA,xv,holds,span,notes,dS,bD⟩) ⟨rfl,rfl,rfl⟩ (by show seen.length<=_;omega)) (y3 (r:=kT x.w (dI ⟨⟨k,dh,dy,new,i,j,qB⟩,13,acc,wd,xA,ix,seen,aS,2,me,nA,xv,holds,span,notes,dS,bD⟩)) (kK ⟨rfl,rfl,rfl⟩) (C6 (kK ⟨rfl,rfl,rfl⟩) (aaC ⟨by show (2:Int)<=2;decide,by show (2:Int)<=5;decide,by show (seen++[x.w]).length<=_;rw [aaP];simp only [aaQ,ac8];omega,h5⟩)) hn h7 h8)
  ·refine BM nO (ks:=[18,46]) rfl (ag0 σ lF fz CQ ⟨⟨k,dh,dy,new,i,j,qB⟩,13,acc,wd,xA,ix,seen,aS,3,me,nA,xv,holds,span,notes,dS,bD⟩ x) ?_;exact nu (zf (r:=dI ⟨⟨k,dh,dy,new,i,j,qB⟩,13,acc,wd,xA,ix,seen,aS,3,me,nA,xv,holds,span,notes,dS,bD⟩) ⟨rfl,rfl,rfl⟩ (by show seen.length<=_;omega)) (y3 (r:=kT x.w (dI ⟨⟨k,dh,dy,new,i,j,qB⟩,13,acc,wd,xA,ix,seen,aS,3,me,nA,xv,holds,span,notes,dS,bD⟩)) (kK ⟨rfl,rfl,rfl⟩) (C6 (kK ⟨rfl,rfl,rfl⟩) (aaC ⟨by show (2:Int)<=3;decide,by show (3:Int)<=5;decide,by show (seen++[x.w]).length<=_;rw [aaP];simp only [aaQ,ac8];omega,h5⟩)) hn h7 h8)
  ·refine BM (ant nO ⟨⟨k,dh,dy,new,i,j,qB⟩,13,acc,wd,xA,ix,seen,aS,4,me,nA,xv,holds,span,notes,dS,bD⟩ (seen++[x.w]) (seen.length+1) (by rw [aaP];rfl) (by rw [aaP];simp only [aaQ,ac8];omega)) (ks:=[18,46]) rfl (agZ σ ((seen++[x.w]).map ql) lF fz CQ ⟨⟨k,dh,dy,new,i,j,qB⟩,13,acc,wd,xA,ix,seen,aS,4,me,nA,xv,holds,span,notes,dS,bD⟩ x) ?_;exact nu (zf (r:=dI ⟨⟨k,dh,dy,new,i,j,qB⟩,13,acc,wd,xA,ix,seen,aS,4,me,nA,xv,holds,span,notes,dS,bD⟩) ⟨rfl,rfl,rfl⟩ (by show seen.length<=_;omega)) (y3 (r:=kT x.w (dI ⟨⟨k,dh,dy,new,i,j,qB⟩,13,acc,wd,xA,ix,seen,aS,4,me,nA,xv,holds,span,notes,dS,bD⟩)) (kK ⟨rfl,rfl,rfl⟩) (nu (Zw _ _ _) (nu (mn _ _) (nu (aaC ⟨rfl,by rw [af1,aaP];simp only [aaQ,ac8];omega⟩) (DT (jB (r:=fF 14 _ (kT x.w (dI ⟨⟨k,dh,dy,new,i,j,qB⟩,13,acc,wd,xA,ix,seen,aS,4,me,nA,xv,holds,span,notes,dS,bD⟩))) (kK ⟨rfl,rfl,rfl⟩)) (jB (r:=eo 15 _ (kT x.w (dI ⟨⟨k,dh,dy,new,i,j,qB⟩,13,acc,wd,xA,ix,seen,aS,4,me,nA,xv,holds,span,notes,dS,bD⟩))) (kK ⟨rfl,rfl,rfl⟩)))))) hn h7 h8)
  ·refine BM nO (ks:=[18,46]) rfl (agY σ lF fz CQ ⟨⟨k,dh,dy,new,i,j,qB⟩,13,acc,wd,xA,ix,seen,aS,5,me,nA,xv,holds,span,notes,dS,bD⟩ x) ?_;exact nu (zf (r:=dI ⟨⟨k,dh,dy,new,i,j,qB⟩,13,acc,wd,xA,ix,seen,aS,5,me,nA,xv,holds,span,notes,dS,bD⟩) ⟨rfl,rfl,rfl⟩ (by show seen.length<=_;omega)) (y3 (r:=kT x.w (dI ⟨⟨k,dh,dy,new,i,j,qB⟩,13,acc,wd,xA,ix,seen,aS,5,me,nA,xv,holds,span,notes,dS,bD⟩)) (kK ⟨rfl,rfl,rfl⟩) (C6 (kK ⟨rfl,rfl,rfl⟩) (aaC ⟨by show (2:Int)<=5;decide,by show (5:Int)<=5;decide,by show (seen++[x.w]).length<=_;rw [aaP];simp only [aaQ,ac8];omega,h5⟩)) hn h7 h8)
 ·subst h9;exact tkZ [18,46] h5 h7 h8 (by dsimp only;omega) (by as_aux_lemma=>kernel_rfl) (by as_aux_lemma=>kernel_rfl)
 ·subst h9;refine BM nO (ks:=[18]) rfl (arE σ lF fz CQ ⟨⟨k,dh,dy,new,i,j,qB⟩,15,acc,wd,xA,ix,seen,aS,4,me,nA,xv,holds,span,notes,dS,bD⟩ x) ?_;exact C6 (r:={dI ⟨⟨k,dh,dy,new,i,j,qB⟩,15,acc,wd,xA,ix,seen,aS,4,me,nA,xv,holds,span,notes,dS,bD⟩ with m:={(⟨⟨k,dh,dy,new,i,j,qB⟩,15,acc,wd,xA,ix,seen,aS,4,me,nA,xv,holds,span,notes,dS,bD⟩:ax) with clock:=x.w}}) ⟨rfl,rfl,rfl⟩ (aaC ⟨by show (2:Int)<=4;decide,by show (4:Int)<=5;decide,by show seen.length<=_;omega,h5⟩)
 ·refine BM nO (ks:=[18]) rfl (arD σ lF fz CQ ⟨⟨k,dh,dy,new,i,j,qB⟩,16,acc,wd,xA,ix,seen,aS,e,me,nA,xv,holds,span,notes,dS,bD⟩ x) ?_;have hl:(0:Int)<=aS.length:=by omega
  have e1:((aS.length:Int)).toNat=aS.length:=by omega
  unfold Xt;refine nu (aaC ⟨adi 0,by show (0:Int) < aS.length;omega⟩) (nu (aaC h9) (nu (aaC ⟨rfl,h5⟩) (nu (aaC ⟨rfl,h5,ha,hb,ml ?_⟩) (nu (aaC ⟨by decide,by show (1:Int)<=aS.length;omega,adi _,rfl⟩) ?_))))
  ·have h5:notes.length<=100000:=h5;have ha:0<=fz (aS.getD 0 bx.bK) notes:=ha;have hb:fz (aS.getD 0 bx.bK) notes < (notes.length:Int):=hb;show _<=fz (aS.getD 0 bx.bK) notes+1 /\ fz (aS.getD 0 bx.bK) notes+1<=_;omega
  ·have key:∀dd:List Nt,dd=aS.drop 1->gC (pq tI tN tR {m:={(⟨⟨k,dh,dy,new,i,j,qB⟩,16,acc,wd,xA,ix,seen,aS,e,me,nA,xv,holds,span,notes,dS,bD⟩:ax) with notes:=notes.take (fz (aS.getD 0 bx.bK) notes).toNat++notes.drop ((fz (aS.getD 0 bx.bK) notes).toNat+1),dS:=IntKind.wrap .i64 (dS+1),aS:=dd},ls:=seen.length,ld:=aS.length - 1,ln:=notes.length - 1}) (FE ⟨⟨k,dh,dy,new,i,j,qB⟩,16,acc,wd,xA,ix,seen,aS,e,me,nA,xv,holds,span,notes,dS,bD⟩):=by
    rintro _ rfl;refine abg ⟨rfl,?_,?_⟩
    ·show aS.length - 1=(aS.drop 1).length;rw [agb]
    ·show notes.length - 1=(notes.take (fz (aS.getD 0 bx.bK) notes).toNat++notes.drop ((fz (aS.getD 0 bx.bK) notes).toNat+1)).length;have ha:0<=fz (aS.getD 0 bx.bK) notes:=ha;have hb:fz (aS.getD 0 bx.bK) notes < (notes.length:Int):=hb;rw [aaP,aga,agb];omega
   exact key ((aS.take aS.length).drop 1) (by rw [List.take_length])
theorem abj:cE Tryz.prog (NV σ) 31 (bJ cL bS (fS nD CI iA (fun m _=>some (J5 m)) (fun m x=>((),bX m x)))) :=
 Yb rfl fun m x h=>VP σ m x h
