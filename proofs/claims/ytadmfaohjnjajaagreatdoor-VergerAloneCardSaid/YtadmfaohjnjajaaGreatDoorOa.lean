import Derived.Test.YtadmfaohjnjajaaGreatDoorMd
import Derived.Test.YtadmfaohjnjajaaGreatDoorSxM
import Derived.Test.YtadmfaohjnjajaaGreatDoorSxOf
set_option linter.unusedVariables false
set_option linter.unusedSimpArgs false
set_option maxHeartbeats 0
set_option maxRecDepth 100000
namespace Go.Proofs.YtadmfaohjnjajaaGreatDoor
open Go Go.Sx Go.Proofs
abbrev Gs:=List (GC AV)
def mL:Gs->Option (Int×Gs)
 | .p (.it .i64 n)::r=>some (n,r)
 | _=>none
theorem amU {gs r:Gs} {n:Int} (h:mL gs=some (n,r)):gs=.p (.it .i64 n)::r:=by unfold mL at h;split at h<;>cases h;rfl
def rdB:Gs->Option (Bool×Gs)
 | .p (.bt b)::r=>some (b,r)
 | _=>none
theorem amV {gs r:Gs} {b:Bool} (h:rdB gs=some (b,r)):gs=.p (.bt b)::r:=by unfold rdB at h;split at h<;>cases h;rfl
class jV {α:Type} (f:Gs->Option (α×Gs)) (w:outParam (α->Gs)):Prop where
 s:∀{gs r:Gs} {x:α},f gs=some (x,r)->gs=w x++r
theorem jV.Jo {α β:Type} {f:Gs->Option (α×Gs)} {w:α->Gs} [jV f w] {gs:Gs} {k:α×Gs->Option β} {y:β} (h:(f gs).bind k=some y):∃x r,gs=w x++r /\ k (x,r)=some y:=by obtain⟨⟨x,r⟩,h0,h⟩:=aaM.1 h;exact⟨x,r,jV.s h0,h⟩
def wrO {α:Type} (V:α->AV):Option α->Gs
 | none=>[.p .jj]
 | some m=>[.r (V m)]
def Xr {α:Type} (X:AV->Option α):Gs->Option (Option α×Gs)
 | .p .jj::r=>some (none,r)
 | .r a::r=>match X a with | some m=>some (some m,r) | none=>none
 | _=>none
def Xn {α:Type} (X:AV->Option α):Gs->Option (α×Gs)
 | .r a::r=>match X a with | some m=>some (m,r) | none=>none
 | _=>none
theorem zn {α:Type} {X:AV->Option α} {V:α->AV} (hX:∀{a m},X a=some m->a=V m):jV (Xr X) (wrO V):=⟨fun {gs r x} h=>by
 unfold Xr at h;split at h
 ·cases h;rfl
 ·split at h
  ·rename_i hm;cases h;rw [hX hm];rfl
  ·cases h
 ·cases h⟩
theorem zm {α:Type} {X:AV->Option α} {V:α->AV} (hX:∀{a m},X a=some m->a=V m):jV (Xn X) (fun m=>[.r (V m)]):=⟨fun {gs r x} h=>by
 unfold Xn at h;split at h
 ·split at h
  ·rename_i hm;cases h;rw [hX hm];rfl
  ·cases h
 ·cases h⟩
instance:jV mL (fun n=>[.p (.it .i64 n)]):=⟨amU⟩
instance:jV rdB (fun n=>[.p (.bt n)]):=⟨amV⟩
def zj:Gs->Option (List W×Gs)
 | .s (.fD l) es::r=>match Nat.beq es fg.es with | true=>some (l,r) | false=>none
 | _=>none
theorem Pj {gs r:Gs} {l:List W} (h:zj gs=some (l,r)):gs=.s (.fD l) fg.es::r:=by
 unfold zj at h;split at h
 ·split at h
  ·rename_i e;have e:=(aG _ _).1 e;subst e;cases h;rfl
  ·cases h
 ·cases h
instance:jV zj (fun l=>[.s (.fD l) fg.es]):=⟨Pj⟩
def uX:Gs->Option (List Nt×Gs)
 | .s (.notes l) es::r=>match Nat.beq es bx.es with | true=>some (l,r) | false=>none
 | _=>none
theorem Pn {gs r:Gs} {l:List Nt} (h:uX gs=some (l,r)):gs=.s (.notes l) bx.es::r:=by
 unfold uX at h;split at h
 ·split at h
  ·rename_i e;have e:=(aG _ _).1 e;subst e;cases h;rfl
  ·cases h
 ·cases h
instance:jV uX (fun l=>[.s (.notes l) bx.es]):=⟨Pn⟩
def Pm:Gs->Option (List O×Gs)
 | .s (.bY l) es::r=>match Nat.beq es CR.es with | true=>some (l,r) | false=>none
 | _=>none
theorem Xj {gs r:Gs} {l:List O} (h:Pm gs=some (l,r)):gs=.s (.bY l) CR.es::r:=by
 unfold Pm at h;split at h
 ·split at h
  ·rename_i e;have e:=(aG _ _).1 e;subst e;cases h;rfl
  ·cases h
 ·cases h
instance:jV Pm (fun l=>[.s (.bY l) CR.es]):=⟨Xj⟩
def Dg:Gs->Option (List N1×Gs)
 | .s (.ie l) es::r=>match Nat.beq es gx.es with | true=>some (l,r) | false=>none
 | _=>none
theorem TG {gs r:Gs} {l:List N1} (h:Dg gs=some (l,r)):gs=.s (.ie l) gx.es::r:=by
 unfold Dg at h;split at h
 ·split at h
  ·rename_i e;have e:=(aG _ _).1 e;subst e;cases h;rfl
  ·cases h
 ·cases h
instance:jV Dg (fun l=>[.s (.ie l) gx.es]):=⟨TG⟩
def zk:Gs->Option (List Pr×Gs)
 | .s (.aX l) es::r=>match Nat.beq es cq.es with | true=>some (l,r) | false=>none
 | _=>none
theorem Pk {gs r:Gs} {l:List Pr} (h:zk gs=some (l,r)):gs=.s (.aX l) cq.es::r:=by
 unfold zk at h;split at h
 ·split at h
  ·rename_i e;have e:=(aG _ _).1 e;subst e;cases h;rfl
  ·cases h
 ·cases h
instance:jV zk (fun l=>[.s (.aX l) cq.es]):=⟨Pk⟩
def W.wr (x:W):Gs:=[.p (.it .i64 x.ae)]++([.p (.it .i64 x.gen)]++([.p (.it .i64 x.tag)]++([.p (.it .i64 x.bU)]++([.p (.bt x.mark)]))))
def W.rd (gs:Gs):Option (W×Gs):=(mL gs).bind fun(x0,r0)=>(mL r0).bind fun(x1,r1)=>(mL r1).bind fun(x2,r2)=>(mL r2).bind fun(x3,r3)=>(rdB r3).bind fun(x4,r4)=>some (⟨x0,x1,x2,x3,x4⟩,r4)
theorem W.ia {gs r:Gs} {x:W} (h:W.rd gs=some (x,r)):gs=W.wr x++r:=by
 unfold W.rd at h;repeat (have e:=jV.Jo h;clear h;obtain⟨_,_,rfl,h⟩:=e)
 cases h;simp only [W.wr,acA,acW,acY,acB]
instance:jV W.rd W.wr:=⟨W.ia⟩
def O.wr (x:O):Gs:=[.p (.it .i64 x.aj)]++([.p (.it .i64 x.key)]++([.p (.it .i64 x.val)]++([.p (.it .i64 x.bI)])))
def O.rd (gs:Gs):Option (O×Gs):=(mL gs).bind fun(x0,r0)=>(mL r0).bind fun(x1,r1)=>(mL r1).bind fun(x2,r2)=>(mL r2).bind fun(x3,r3)=>some (⟨x0,x1,x2,x3⟩,r3)
theorem O.ia {gs r:Gs} {x:O} (h:O.rd gs=some (x,r)):gs=O.wr x++r:=by
 unfold O.rd at h;repeat (have e:=jV.Jo h;clear h;obtain⟨_,_,rfl,h⟩:=e)
 cases h;simp only [O.wr,acA,acW,acY,acB]
instance:jV O.rd O.wr:=⟨O.ia⟩
def Sp.wr (x:Sp):Gs:=[.p (.bt x.is)]++([.p (.it .i64 x.Cj)]++([.p (.it .i64 x.Ks)]))
def Sp.rd (gs:Gs):Option (Sp×Gs):=(rdB gs).bind fun(x0,r0)=>(mL r0).bind fun(x1,r1)=>(mL r1).bind fun(x2,r2)=>some (⟨x0,x1,x2⟩,r2)
theorem Sp.ia {gs r:Gs} {x:Sp} (h:Sp.rd gs=some (x,r)):gs=Sp.wr x++r:=by
 unfold Sp.rd at h;repeat (have e:=jV.Jo h;clear h;obtain⟨_,_,rfl,h⟩:=e)
 cases h;simp only [Sp.wr,acA,acW,acY,acB]
instance:jV Sp.rd Sp.wr:=⟨Sp.ia⟩
def Ad.wr (x:Ad):Gs:=[.p (.it .i64 x.s)]++([.p (.it .i64 x.g)]++([.p (.it .i64 x.f)]))
def Ad.rd (gs:Gs):Option (Ad×Gs):=(mL gs).bind fun(x0,r0)=>(mL r0).bind fun(x1,r1)=>(mL r1).bind fun(x2,r2)=>some (⟨x0,x1,x2⟩,r2)
theorem Ad.ia {gs r:Gs} {x:Ad} (h:Ad.rd gs=some (x,r)):gs=Ad.wr x++r:=by
 unfold Ad.rd at h;repeat (have e:=jV.Jo h;clear h;obtain⟨_,_,rfl,h⟩:=e)
 cases h;simp only [Ad.wr,acA,acW,acY,acB]
instance:jV Ad.rd Ad.wr:=⟨Ad.ia⟩
def An.wr (x:An):Gs:=[.p (.it .i64 x.mZ)]++([.p (.it .i64 x.val)])
def An.rd (gs:Gs):Option (An×Gs):=(mL gs).bind fun(x0,r0)=>(mL r0).bind fun(x1,r1)=>some (⟨x0,x1⟩,r1)
theorem An.ia {gs r:Gs} {x:An} (h:An.rd gs=some (x,r)):gs=An.wr x++r:=by
 unfold An.rd at h;repeat (have e:=jV.Jo h;clear h;obtain⟨_,_,rfl,h⟩:=e)
 cases h;simp only [An.wr,acA,acW,acY,acB]
instance:jV An.rd An.wr:=⟨An.ia⟩
def pB.wr (x:pB):Gs:=[.p (.it .i64 x.aj)]++([.p (.it .i64 x.s)]++([.p (.it .i64 x.g)]++([.p (.it .i64 x.f)]++(W.wr x.dy++(W.wr x.new)))))
def pB.rd (gs:Gs):Option (pB×Gs):=(mL gs).bind fun(x0,r0)=>(mL r0).bind fun(x1,r1)=>(mL r1).bind fun(x2,r2)=>(mL r2).bind fun(x3,r3)=>(W.rd r3).bind fun(x4,r4)=>(W.rd r4).bind fun(x5,r5)=>some (⟨x0,x1,x2,x3,x4,x5⟩,r5)
theorem pB.ia {gs r:Gs} {x:pB} (h:pB.rd gs=some (x,r)):gs=pB.wr x++r:=by
 unfold pB.rd at h;repeat (have e:=jV.Jo h;clear h;obtain⟨_,_,rfl,h⟩:=e)
 cases h;simp only [pB.wr,acA,acW,acY,acB]
instance:jV pB.rd pB.wr:=⟨pB.ia⟩
def cJ.wr (x:cJ):Gs:=W.wr x.w++([.p (.bt x.ok)])
def cJ.rd (gs:Gs):Option (cJ×Gs):=(W.rd gs).bind fun(x0,r0)=>(rdB r0).bind fun(x1,r1)=>some (⟨x0,x1⟩,r1)
theorem cJ.ia {gs r:Gs} {x:cJ} (h:cJ.rd gs=some (x,r)):gs=cJ.wr x++r:=by
 unfold cJ.rd at h;repeat (have e:=jV.Jo h;clear h;obtain⟨_,_,rfl,h⟩:=e)
 cases h;simp only [cJ.wr,acA,acW,acY,acB]
instance:jV cJ.rd cJ.wr:=⟨cJ.ia⟩
def Cl.wr (x:Cl):Gs:=[.p (.it .i64 x.aj)]++(Ad.wr x.dh++(W.wr x.dy++(W.wr x.new++([.p (.it .i64 x.i)]++([.p (.it .i64 x.j)]++(An.wr x.qB))))))
def Cl.rd (gs:Gs):Option (Cl×Gs):=(mL gs).bind fun(x0,r0)=>(Ad.rd r0).bind fun(x1,r1)=>(W.rd r1).bind fun(x2,r2)=>(W.rd r2).bind fun(x3,r3)=>(mL r3).bind fun(x4,r4)=>(mL r4).bind fun(x5,r5)=>(An.rd r5).bind fun(x6,r6)=>some (⟨x0,x1,x2,x3,x4,x5,x6⟩,r6)
theorem Cl.ia {gs r:Gs} {x:Cl} (h:Cl.rd gs=some (x,r)):gs=Cl.wr x++r:=by
 unfold Cl.rd at h;repeat (have e:=jV.Jo h;clear h;obtain⟨_,_,rfl,h⟩:=e)
 cases h;simp only [Cl.wr,acA,acW,acY,acB]
instance:jV Cl.rd Cl.wr:=⟨Cl.ia⟩
def H9.wr (x:H9):Gs:=W.wr x.h0++(W.wr x.h1++(W.wr x.h2++(W.wr x.h3++(W.wr x.h4++(W.wr x.h5++(W.wr x.h6++(W.wr x.h7++(W.wr x.h8))))))))
def H9.rd (gs:Gs):Option (H9×Gs):=(W.rd gs).bind fun(x0,r0)=>(W.rd r0).bind fun(x1,r1)=>(W.rd r1).bind fun(x2,r2)=>(W.rd r2).bind fun(x3,r3)=>(W.rd r3).bind fun(x4,r4)=>(W.rd r4).bind fun(x5,r5)=>(W.rd r5).bind fun(x6,r6)=>(W.rd r6).bind fun(x7,r7)=>(W.rd r7).bind fun(x8,r8)=>some (⟨x0,x1,x2,x3,x4,x5,x6,x7,x8⟩,r8)
theorem H9.ia {gs r:Gs} {x:H9} (h:H9.rd gs=some (x,r)):gs=H9.wr x++r:=by
 unfold H9.rd at h;repeat (have e:=jV.Jo h;clear h;obtain⟨_,_,rfl,h⟩:=e)
 cases h;simp only [H9.wr,acA,acW,acY,acB]
instance:jV H9.rd H9.wr:=⟨H9.ia⟩
def S3.wr (x:S3):Gs:=Ad.wr x.p0++(W.wr x.c0++(Ad.wr x.p1++(W.wr x.c1++(Ad.wr x.p2++(W.wr x.c2)))))
def S3.rd (gs:Gs):Option (S3×Gs):=(Ad.rd gs).bind fun(x0,r0)=>(W.rd r0).bind fun(x1,r1)=>(Ad.rd r1).bind fun(x2,r2)=>(W.rd r2).bind fun(x3,r3)=>(Ad.rd r3).bind fun(x4,r4)=>(W.rd r4).bind fun(x5,r5)=>some (⟨x0,x1,x2,x3,x4,x5⟩,r5)
theorem S3.ia {gs r:Gs} {x:S3} (h:S3.rd gs=some (x,r)):gs=S3.wr x++r:=by
 unfold S3.rd at h;repeat (have e:=jV.Jo h;clear h;obtain⟨_,_,rfl,h⟩:=e)
 cases h;simp only [S3.wr,acA,acW,acY,acB]
instance:jV S3.rd S3.wr:=⟨S3.ia⟩
def ax.wr (x:ax):Gs:=Cl.wr x.call++([.p (.it .i64 x.step)]++(pB.wr x.acc++(W.wr x.word++(W.wr x.clock++([.p (.it .i64 x.index)]++([.s (.fD x.seen) fg.es]++([.s (.notes x.aS) bx.es]++([.p (.it .i64 x.au)]++([.p (.it .i64 x.me)]++([.p (.it .i64 x.dk)]++([.p (.it .i64 x.most)]++(H9.wr x.holds++(Sp.wr x.span++([.s (.notes x.notes) bx.es]++([.p (.it .i64 x.dS)]++(cJ.wr x.bD))))))))))))))))
def ax.rd (gs:Gs):Option (ax×Gs):=(Cl.rd gs).bind fun(x0,r0)=>(mL r0).bind fun(x1,r1)=>(pB.rd r1).bind fun(x2,r2)=>(W.rd r2).bind fun(x3,r3)=>(W.rd r3).bind fun(x4,r4)=>(mL r4).bind fun(x5,r5)=>(zj r5).bind fun(x6,r6)=>(uX r6).bind fun(x7,r7)=>(mL r7).bind fun(x8,r8)=>(mL r8).bind fun(x9,r9)=>(mL r9).bind fun(x10,r10)=>(mL r10).bind fun(x11,r11)=>(H9.rd r11).bind fun(x12,r12)=>(Sp.rd r12).bind fun(x13,r13)=>(uX r13).bind fun(x14,r14)=>(mL r14).bind fun(x15,r15)=>(cJ.rd r15).bind fun(x16,r16)=>some (⟨x0,x1,x2,x3,x4,x5,x6,x7,x8,x9,x10,x11,x12,x13,x14,x15,x16⟩,r16)
theorem ax.ia {gs r:Gs} {x:ax} (h:ax.rd gs=some (x,r)):gs=ax.wr x++r:=by
 unfold ax.rd at h;repeat (have e:=jV.Jo h;clear h;obtain⟨_,_,rfl,h⟩:=e)
 cases h;simp only [ax.wr,acA,acW,acY,acB]
instance:jV ax.rd ax.wr:=⟨ax.ia⟩
abbrev fQ:Nat:=141
abbrev jn (m:ax):AV:=.aP m
def HH:AV->Option ax
 | .aP m=>some m
 | _=>none
theorem Dd {a:AV} {m:ax} (h:HH a=some m):a=jn m:=by unfold HH at h;split at h<;>cases h;rfl
abbrev Vu:=wrO jn
abbrev Xo:=Xr HH
abbrev Mf:=Xn HH
instance:jV Xo Vu:=zn Dd
instance:jV Mf (fun m=>[.r (jn m)]):=zm Dd
def dz.wr (x:dz):Gs:=[.p (.it .i64 x.pc)]++(Cl.wr x.last++(O.wr x.op++(W.wr x.node++(W.wr x.top++([.p (.it .i64 x.val)])))))
def dz.rd (gs:Gs):Option (dz×Gs):=(mL gs).bind fun(x0,r0)=>(Cl.rd r0).bind fun(x1,r1)=>(O.rd r1).bind fun(x2,r2)=>(W.rd r2).bind fun(x3,r3)=>(W.rd r3).bind fun(x4,r4)=>(mL r4).bind fun(x5,r5)=>some (⟨x0,x1,x2,x3,x4,x5⟩,r5)
theorem dz.ia {gs r:Gs} {x:dz} (h:dz.rd gs=some (x,r)):gs=dz.wr x++r:=by
 unfold dz.rd at h;repeat (have e:=jV.Jo h;clear h;obtain⟨_,_,rfl,h⟩:=e)
 cases h;simp only [dz.wr,acA,acW,acY,acB]
instance:jV dz.rd dz.wr:=⟨dz.ia⟩
abbrev LG:Nat:=155
abbrev HM (m:dz):AV:=.eu m
def HL:AV->Option dz
 | .eu m=>some m
 | _=>none
theorem Dj {a:AV} {m:dz} (h:HL a=some m):a=HM m:=by unfold HL at h;split at h<;>cases h;rfl
abbrev Vv:=wrO HM
abbrev Xp:=Xr HL
abbrev Xl:=Xn HL
instance:jV Xp Vv:=zn Dj
instance:jV Xl (fun m=>[.r (HM m)]):=zm Dj
def dj.wr (x:dj):Gs:=[.p (.it .i64 x.pc)]++(Cl.wr x.last++(O.wr x.op++(W.wr x.node++(W.wr x.h++(W.wr x.t++(W.wr x.n++([.p (.it .i64 x.val)])))))))
def dj.rd (gs:Gs):Option (dj×Gs):=(mL gs).bind fun(x0,r0)=>(Cl.rd r0).bind fun(x1,r1)=>(O.rd r1).bind fun(x2,r2)=>(W.rd r2).bind fun(x3,r3)=>(W.rd r3).bind fun(x4,r4)=>(W.rd r4).bind fun(x5,r5)=>(W.rd r5).bind fun(x6,r6)=>(mL r6).bind fun(x7,r7)=>some (⟨x0,x1,x2,x3,x4,x5,x6,x7⟩,r7)
theorem dj.ia {gs r:Gs} {x:dj} (h:dj.rd gs=some (x,r)):gs=dj.wr x++r:=by
 unfold dj.rd at h;repeat (have e:=jV.Jo h;clear h;obtain⟨_,_,rfl,h⟩:=e)
 cases h;simp only [dj.wr,acA,acW,acY,acB]
instance:jV dj.rd dj.wr:=⟨dj.ia⟩
abbrev LJ:Nat:=159
abbrev Jb (m:dj):AV:=.dO m
def Ja:AV->Option dj
 | .dO m=>some m
 | _=>none
theorem DD {a:AV} {m:dj} (h:Ja a=some m):a=Jb m:=by unfold Ja at h;split at h<;>cases h;rfl
abbrev Vw:=wrO Jb
abbrev Xq:=Xr Ja
abbrev Xm:=Xn Ja
instance:jV Xq Vw:=zn DD
instance:jV Xm (fun m=>[.r (Jb m)]):=zm DD
def bs.wr (x:bs):Gs:=[.p (.it .i64 x.pc)]++(Cl.wr x.last++(Ad.wr x.start++([.p (.it .i64 x.key)]++(Ad.wr x.prev++(W.wr x.cur++(W.wr x.next++([.p (.it .i64 x.k)]++([.p (.bt x.found)]))))))))
def bs.rd (gs:Gs):Option (bs×Gs):=(mL gs).bind fun(x0,r0)=>(Cl.rd r0).bind fun(x1,r1)=>(Ad.rd r1).bind fun(x2,r2)=>(mL r2).bind fun(x3,r3)=>(Ad.rd r3).bind fun(x4,r4)=>(W.rd r4).bind fun(x5,r5)=>(W.rd r5).bind fun(x6,r6)=>(mL r6).bind fun(x7,r7)=>(rdB r7).bind fun(x8,r8)=>some (⟨x0,x1,x2,x3,x4,x5,x6,x7,x8⟩,r8)
theorem bs.ia {gs r:Gs} {x:bs} (h:bs.rd gs=some (x,r)):gs=bs.wr x++r:=by
 unfold bs.rd at h;repeat (have e:=jV.Jo h;clear h;obtain⟨_,_,rfl,h⟩:=e)
 cases h;simp only [bs.wr,acA,acW,acY,acB]
instance:jV bs.rd bs.wr:=⟨bs.ia⟩
abbrev y5:Nat:=262
abbrev DK (m:bs):AV:=.walk m
def Lj:AV->Option bs
 | .walk m=>some m
 | _=>none
theorem Jy {a:AV} {m:bs} (h:Lj a=some m):a=DK m:=by unfold Lj at h;split at h<;>cases h;rfl
abbrev DI:=wrO DK
abbrev En:=Xr Lj
abbrev Xk:=Xn Lj
instance:jV En DI:=zn Jy
instance:jV Xk (fun m=>[.r (DK m)]):=zm Jy
def cU.wr (x:cU):Gs:=[.p (.it .i64 x.pc)]++(Cl.wr x.last++(Ad.wr x.start++([.p (.it .i64 x.key)]++(O.wr x.op++(DI x.walk++(W.wr x.node++([.p (.it .i64 x.val)])))))))
def cU.rd (gs:Gs):Option (cU×Gs):=(mL gs).bind fun(x0,r0)=>(Cl.rd r0).bind fun(x1,r1)=>(Ad.rd r1).bind fun(x2,r2)=>(mL r2).bind fun(x3,r3)=>(O.rd r3).bind fun(x4,r4)=>(En r4).bind fun(x5,r5)=>(W.rd r5).bind fun(x6,r6)=>(mL r6).bind fun(x7,r7)=>some (⟨x0,x1,x2,x3,x4,x5,x6,x7⟩,r7)
theorem cU.ia {gs r:Gs} {x:cU} (h:cU.rd gs=some (x,r)):gs=cU.wr x++r:=by
 unfold cU.rd at h;repeat (have e:=jV.Jo h;clear h;obtain⟨_,_,rfl,h⟩:=e)
 cases h;simp only [cU.wr,acA,acW,acY,acB]
instance:jV cU.rd cU.wr:=⟨cU.ia⟩
abbrev OR:Nat:=211
abbrev PH (m:cU):AV:=.lit m
def T8:AV->Option cU
 | .lit m=>some m
 | _=>none
theorem Kh {a:AV} {m:cU} (h:T8 a=some m):a=PH m:=by unfold T8 at h;split at h<;>cases h;rfl
abbrev QH:=wrO PH
abbrev Ro:=Xr T8
abbrev abT:=Xn T8
instance:jV Ro QH:=zn Kh
instance:jV abT (fun m=>[.r (PH m)]):=zm Kh
def aQ.wr (x:aQ):Gs:=[.p (.it .i64 x.pc)]++(Cl.wr x.last++(Ad.wr x.prev++(W.wr x.cur++([.p (.it .i64 x.CA)]++([.p (.it .i64 x.level)]++(W.wr x.next++([.p (.it .i64 x.k)]++(S3.wr x.eJ++(W.wr x.found)))))))))
def aQ.rd (gs:Gs):Option (aQ×Gs):=(mL gs).bind fun(x0,r0)=>(Cl.rd r0).bind fun(x1,r1)=>(Ad.rd r1).bind fun(x2,r2)=>(W.rd r2).bind fun(x3,r3)=>(mL r3).bind fun(x4,r4)=>(mL r4).bind fun(x5,r5)=>(W.rd r5).bind fun(x6,r6)=>(mL r6).bind fun(x7,r7)=>(S3.rd r7).bind fun(x8,r8)=>(W.rd r8).bind fun(x9,r9)=>some (⟨x0,x1,x2,x3,x4,x5,x6,x7,x8,x9⟩,r9)
theorem aQ.ia {gs r:Gs} {x:aQ} (h:aQ.rd gs=some (x,r)):gs=aQ.wr x++r:=by
 unfold aQ.rd at h;repeat (have e:=jV.Jo h;clear h;obtain⟨_,_,rfl,h⟩:=e)
 cases h;simp only [aQ.wr,acA,acW,acY,acB]
instance:jV aQ.rd aQ.wr:=⟨aQ.ia⟩
abbrev mH:Nat:=285
abbrev rR (m:aQ):AV:=.kY m
def F9:AV->Option aQ
 | .kY m=>some m
 | _=>none
theorem F8 {a:AV} {m:aQ} (h:F9 a=some m):a=rR m:=by unfold F9 at h;split at h<;>cases h;rfl
abbrev Hk:=wrO rR
abbrev HJ:=Xr F9
abbrev TH:=Xn F9
instance:jV HJ Hk:=zn F8
instance:jV TH (fun m=>[.r (rR m)]):=zm F8
def cD.wr (x:cD):Gs:=[.p (.it .i64 x.pc)]++(Cl.wr x.last++(O.wr x.op++(Hk x.kY++(W.wr x.node++([.p (.it .i64 x.level)]++([.p (.it .i64 x.inc)]++([.p (.it .i64 x.val)])))))))
def cD.rd (gs:Gs):Option (cD×Gs):=(mL gs).bind fun(x0,r0)=>(Cl.rd r0).bind fun(x1,r1)=>(O.rd r1).bind fun(x2,r2)=>(HJ r2).bind fun(x3,r3)=>(W.rd r3).bind fun(x4,r4)=>(mL r4).bind fun(x5,r5)=>(mL r5).bind fun(x6,r6)=>(mL r6).bind fun(x7,r7)=>some (⟨x0,x1,x2,x3,x4,x5,x6,x7⟩,r7)
theorem cD.ia {gs r:Gs} {x:cD} (h:cD.rd gs=some (x,r)):gs=cD.wr x++r:=by
 unfold cD.rd at h;repeat (have e:=jV.Jo h;clear h;obtain⟨_,_,rfl,h⟩:=e)
 cases h;simp only [cD.wr,acA,acW,acY,acB]
instance:jV cD.rd cD.wr:=⟨cD.ia⟩
abbrev uM:Nat:=173
abbrev D8 (m:cD):AV:=.pn m
def Tu:AV->Option cD
 | .pn m=>some m
 | _=>none
theorem JN {a:AV} {m:cD} (h:Tu a=some m):a=D8 m:=by unfold Tu at h;split at h<;>cases h;rfl
abbrev aa4:=wrO D8
abbrev abW:=Xr Tu
abbrev abS:=Xn Tu
instance:jV abW aa4:=zn JN
instance:jV abS (fun m=>[.r (D8 m)]):=zm JN
def ca.wr (x:ca):Gs:=[.p (.it .i64 x.pc)]++(Cl.wr x.last++(O.wr x.op++([.p (.it .i64 x.size)]++([.p (.it .i64 x.wanted)]++([.p (.it .i64 x.bucket)]++([.p (.it .i64 x.child)]++(W.wr x.base++(W.wr x.node++(W.wr x.sentinel++(DI x.walk++(QH x.inner++(An.wr x.answer++(W.wr x.count)))))))))))))
def ca.rd (gs:Gs):Option (ca×Gs):=(mL gs).bind fun(x0,r0)=>(Cl.rd r0).bind fun(x1,r1)=>(O.rd r1).bind fun(x2,r2)=>(mL r2).bind fun(x3,r3)=>(mL r3).bind fun(x4,r4)=>(mL r4).bind fun(x5,r5)=>(mL r5).bind fun(x6,r6)=>(W.rd r6).bind fun(x7,r7)=>(W.rd r7).bind fun(x8,r8)=>(W.rd r8).bind fun(x9,r9)=>(En r9).bind fun(x10,r10)=>(Ro r10).bind fun(x11,r11)=>(An.rd r11).bind fun(x12,r12)=>(W.rd r12).bind fun(x13,r13)=>some (⟨x0,x1,x2,x3,x4,x5,x6,x7,x8,x9,x10,x11,x12,x13⟩,r13)
theorem ca.ia {gs r:Gs} {x:ca} (h:ca.rd gs=some (x,r)):gs=ca.wr x++r:=by
 unfold ca.rd at h;repeat (have e:=jV.Jo h;clear h;obtain⟨_,_,rfl,h⟩:=e)
 cases h;simp only [ca.wr,acA,acW,acY,acB]
instance:jV ca.rd ca.wr:=⟨ca.ia⟩
abbrev LC:Nat:=168
abbrev JE (m:ca):AV:=.pQ m
def S5:AV->Option ca
 | .pQ m=>some m
 | _=>none
theorem JD {a:AV} {m:ca} (h:S5 a=some m):a=JE m:=by unfold S5 at h;split at h<;>cases h;rfl
abbrev aa3:=wrO JE
abbrev abV:=Xr S5
abbrev abR:=Xn S5
instance:jV abV aa3:=zn JD
instance:jV abR (fun m=>[.r (JE m)]):=zm JD
def wrJ:Option dV->Gs
 | none=>[.p .fL]
 | some (.eu j)=>[.i 96 (HM j)]
 | some (.dO j)=>[.i 99 (Jb j)]
 | some (.lit j)=>[.i 102 (PH j)]
 | some (.pQ j)=>[.i 105 (JE j)]
 | some (.pn j)=>[.i 108 (D8 j)]
def orJ {α:Type} (c:Bool) (X:AV->Option α) (k:α->dV) (a:AV) (e:Option dV):Option dV:=match c with
 | true=>match X a with | some j=>some (k j) | none=>none
 | false=>e
theorem Mn {α:Type} {c:Bool} {X:AV->Option α} {V:α->AV} (hX:∀{a m},X a=some m->a=V m) {k:α->dV} {a:AV} {e:Option dV} {j:dV} (h:orJ c X k a e=some j):(∃m,c=true /\ a=V m /\ j=k m) \/ e=some j:=by
 unfold orJ at h;split at h
 ·split at h
  ·rename_i hm;cases h;exact .inl ⟨_,rfl,hX hm,rfl⟩
  ·cases h
 ·exact .inr h
def asV (t:Nat) (a:AV):Option dV:=orJ (Nat.beq t 96) HL .eu a (orJ (Nat.beq t 99) Ja .dO a (orJ (Nat.beq t 102) T8 .lit a (orJ (Nat.beq t 105) S5 .pQ a (orJ (Nat.beq t 108) Tu .pn a (none)))))
def rdJ:Gs->Option (Option dV×Gs)
 | .p .fL::r=>some (none,r)
 | .i t a::r=>match asV t a with | some j=>some (some j,r) | none=>none
 | _=>none
theorem amT {gs r:Gs} {m:Option dV} (h:rdJ gs=some (m,r)):gs=wrJ m++r:=by
 unfold rdJ at h;split at h
 ·cases h;rfl
 ·split at h
  ·rename_i hj;cases h;rcases Mn Dj hj with⟨m,e,rfl,rfl⟩ | hj
   ·have e:=(aG _ _).1 e;subst e;rfl
   rcases Mn DD hj with⟨m,e,rfl,rfl⟩ | hj
   ·have e:=(aG _ _).1 e;subst e;rfl
   rcases Mn Kh hj with⟨m,e,rfl,rfl⟩ | hj
   ·have e:=(aG _ _).1 e;subst e;rfl
   rcases Mn JD hj with⟨m,e,rfl,rfl⟩ | hj
   ·have e:=(aG _ _).1 e;subst e;rfl
   rcases Mn JN hj with⟨m,e,rfl,rfl⟩ | hj
   ·have e:=(aG _ _).1 e;subst e;rfl
   cases hj
  ·cases h
 ·cases h
instance:jV rdJ wrJ:=⟨amT⟩
def aA.wr (x:aA):Gs:=[.p (.it .i64 x.sort)]++([.p (.it .i64 x.au)]++([.r (jn x.aP)]++([.p (.it .i64 x.aO)]++(Cl.wr x.call++(O.wr x.op++(wrJ x.cF++(An.wr x.answer)))))))
def aA.rd (gs:Gs):Option (aA×Gs):=(mL gs).bind fun(x0,r0)=>(mL r0).bind fun(x1,r1)=>(Mf r1).bind fun(x2,r2)=>(mL r2).bind fun(x3,r3)=>(Cl.rd r3).bind fun(x4,r4)=>(O.rd r4).bind fun(x5,r5)=>(rdJ r5).bind fun(x6,r6)=>(An.rd r6).bind fun(x7,r7)=>some (⟨x0,x1,x2,x3,x4,x5,x6,x7⟩,r7)
theorem aA.ia {gs r:Gs} {x:aA} (h:aA.rd gs=some (x,r)):gs=aA.wr x++r:=by
 unfold aA.rd at h;repeat (have e:=jV.Jo h;clear h;obtain⟨_,_,rfl,h⟩:=e)
 cases h;simp only [aA.wr,acA,acW,acY,acB]
instance:jV aA.rd aA.wr:=⟨aA.ia⟩
abbrev qJ:Nat:=81
abbrev iG (m:aA):AV:=.rE m
def VB:AV->Option aA
 | .rE m=>some m
 | _=>none
theorem OI {a:AV} {m:aA} (h:VB a=some m):a=iG m:=by unfold VB at h;split at h<;>cases h;rfl
abbrev aa2:=wrO iG
abbrev abU:=Xr VB
abbrev abQ:=Xn VB
instance:jV abU aa2:=zn OI
instance:jV abQ (fun m=>[.r (iG m)]):=zm OI
def JU:Gs->Option (ah×Gs)
 | .r (.gi m)::r=>some (m,r)
 | _=>none
theorem TF {gs r:Gs} {m:ah} (h:JU gs=some (m,r)):gs=.r (.gi m)::r:=by unfold JU at h;split at h<;>cases h;rfl
instance:jV JU (fun m=>[.r (.gi m)]):=⟨TF⟩
def aY.wr (x:aY):Gs:=[.p (.it .i64 x.st)]++([.s (.ie x.aT) gx.es]++([.s (.aX x.aX) cq.es]))
def aY.rd (gs:Gs):Option (aY×Gs):=(mL gs).bind fun(x0,r0)=>(Dg r0).bind fun(x1,r1)=>(zk r1).bind fun(x2,r2)=>some (⟨x0,x1,x2⟩,r2)
theorem aY.ia {gs r:Gs} {x:aY} (h:aY.rd gs=some (x,r)):gs=aY.wr x++r:=by
 unfold aY.rd at h;repeat (have e:=jV.Jo h;clear h;obtain⟨_,_,rfl,h⟩:=e)
 cases h;simp only [aY.wr,acA,acW,acY,acB]
instance:jV aY.rd aY.wr:=⟨aY.ia⟩
abbrev AE:Nat:=95
abbrev adS (m:aY):AV:=.cre m
def ajW:AV->Option aY
 | .cre m=>some m
 | _=>none
theorem ajV {a:AV} {m:aY} (h:ajW a=some m):a=adS m:=by unfold ajW at h;split at h<;>cases h;rfl
def AV.ob:AV->Option (Nat×TypeId×Gs)
 | .aP m=>some (1,fQ,ax.wr m)
 | .eu m=>some (1,LG,dz.wr m)
 | .dO m=>some (1,LJ,dj.wr m)
 | .walk m=>some (1,y5,bs.wr m)
 | .lit m=>some (2,OR,cU.wr m)
 | .kY m=>some (1,mH,aQ.wr m)
 | .pn m=>some (2,uM,cD.wr m)
 | .pQ m=>some (3,LC,ca.wr m)
 | .rE m=>some (4,qJ,aA.wr m)
 | .cre m=>some (1,AE,aY.wr m)
 | _=>none
def Vb {α:Type} (c:Bool) (rd:Gs->Option (α×Gs)) (k:α->AV) (gs:Gs) (e:Option AV):Option AV:=match c with
 | true=>match rd gs with | some (m,[])=>some (k m) | _=>none
 | false=>e
theorem xM {α:Type} {c:Bool} {rd:Gs->Option (α×Gs)} {w:α->Gs} [jV rd w] {k:α->AV} {gs:Gs} {e:Option AV} {a:AV} (h:Vb c rd k gs e=some a):(∃m,c=true /\ gs=w m /\ a=k m) \/ e=some a:=by
 unfold Vb at h;split at h
 ·split at h
  ·rename_i hm;cases h;exact .inl ⟨_,rfl,by rw [jV.s hm,aeF],rfl⟩
  ·cases h
 ·exact .inr h
def mkO (ty:TypeId) (gs:Gs):Option AV:=Vb (Nat.beq ty fQ) ax.rd .aP gs (Vb (Nat.beq ty LG) dz.rd .eu gs (Vb (Nat.beq ty LJ) dj.rd .dO gs (Vb (Nat.beq ty y5) bs.rd .walk gs (Vb (Nat.beq ty OR) cU.rd .lit gs (Vb (Nat.beq ty mH) aQ.rd .kY gs (Vb (Nat.beq ty uM) cD.rd .pn gs (Vb (Nat.beq ty LC) ca.rd .pQ gs (Vb (Nat.beq ty qJ) aA.rd .rE gs (Vb (Nat.beq ty AE) aY.rd .cre gs (none))))))))))
theorem ah6 {ty:TypeId} {gs:Gs} {a:AV} (h:mkO ty gs=some a):∃d,a.ob=some (d,ty,gs):=by
 unfold mkO at h;rcases xM h with⟨m,e,rfl,rfl⟩ | h
 ·have e:=(aG _ _).1 e;subst e;exact⟨_,rfl⟩
 rcases xM h with⟨m,e,rfl,rfl⟩ | h
 ·have e:=(aG _ _).1 e;subst e;exact⟨_,rfl⟩
 rcases xM h with⟨m,e,rfl,rfl⟩ | h
 ·have e:=(aG _ _).1 e;subst e;exact⟨_,rfl⟩
 rcases xM h with⟨m,e,rfl,rfl⟩ | h
 ·have e:=(aG _ _).1 e;subst e;exact⟨_,rfl⟩
 rcases xM h with⟨m,e,rfl,rfl⟩ | h
 ·have e:=(aG _ _).1 e;subst e;exact⟨_,rfl⟩
 rcases xM h with⟨m,e,rfl,rfl⟩ | h
 ·have e:=(aG _ _).1 e;subst e;exact⟨_,rfl⟩
 rcases xM h with⟨m,e,rfl,rfl⟩ | h
 ·have e:=(aG _ _).1 e;subst e;exact⟨_,rfl⟩
 rcases xM h with⟨m,e,rfl,rfl⟩ | h
 ·have e:=(aG _ _).1 e;subst e;exact⟨_,rfl⟩
 rcases xM h with⟨m,e,rfl,rfl⟩ | h
 ·have e:=(aG _ _).1 e;subst e;exact⟨_,rfl⟩
 rcases xM h with⟨m,e,rfl,rfl⟩ | h
 ·have e:=(aG _ _).1 e;subst e;exact⟨_,rfl⟩
 cases h
end Go.Proofs.YtadmfaohjnjajaaGreatDoor

namespace Go.Sx.Q
open Go Go.Sx
variable {AV:Type}
abbrev bind {α β:Type} (t:T α) (f:α->T β):T β:=t.bind f
theorem bind_eq {α β:Type} (t:T α) (f:α->T β):Q.bind t f=t.bind f:=rfl
abbrev BP (H:Hp AV) (l:List SV):Bool:=Sx.BP H l
theorem clVs_eq (H:Hp AV) (l:List SV):Q.BP H l=Sx.BP H l:=rfl
abbrev qy (H l:Hp AV):Bool:=Sx.qy H l
theorem clHs_eq (H l:Hp AV):Q.qy H l=Sx.qy H l:=rfl
noncomputable abbrev lv (N:eI AV) (tab:FuncId->Option (List SV->Hp AV->T (SV×Hp AV))) (n:Nat):Callee AV:=Sx.lv N tab n
theorem lv_eq (N:eI AV) (tab:FuncId->Option (List SV->Hp AV->T (SV×Hp AV))) (n:Nat):Q.lv N tab n=Sx.lv N tab n:=rfl
end Go.Sx.Q

namespace Go.Proofs.YtadmfaohjnjajaaGreatDoor
open Go Go.Sx Go.Proofs
def LF:Nat:=120
def abp:Nat:=195
def afg:Nat:=193
def QZ:Nat:=229
def KC:Option (Int×Nat)->Cell
 | none=>.fL
 | some _=>.xP afg (.ptr 4 0)
def yD (σ:Sg):Option (Int×Nat)->Hp AV
 | none=>[]
 | some (k,i)=>[some (.cells [.it .i64 k,.xP QZ (.op i (σ i))] abp)]
def tH (σ:Sg) (m:ah):Hp AV:=some (.cells [.vs 1 0 m.dX.length 5 false,.vs 2 0 m.aW.length 52 false,.vs 3 0 m.free.length 1 false,.it .i64 m.steps,.it .i64 m.made,KC m.fault] LF) ::
 some (.bN (.fD m.dX))::some (.bN (.aW m.aW))::some (.bN (.ie m.free))::yD σ m.fault
def AV.xa:AV->Nat
 | .gi _=>1
 | .Pt d _ _=>d
 | a=>match a.ob with | some (d,_,_)=>d | none=>0
def o9 (σ:Sg):AV->Option (Hp AV)
 | .gi m=>some (tH σ m)
 | .Pt _ ty cs=>some (gk AV.len ty cs)
 | a=>match a.ob with | some (_,ty,gs)=>some (gk AV.len ty gs) | none=>none
def I5 (d:Nat):List AV->Bool
 | []=>true
 | a::r=>match Nat.blt a.xa d with | true=>I5 d r | false=>false
def AV.K3:AV->Bool
 | .Pt d _ cs=>match Nat.blt 0 d,Nat.ble d 6,I5 d (gj cs) with | true,true,true=>true | _,_,_=>false
 | _=>true
theorem FX {d:Nat}:∀{l:List AV},I5 d l=true->∀a∈l,a.xa < d
 | [],_,a,h=>by cases h
 | b::r,h,a,ha=>by
   simp only [I5] at h;split at h
   ·rename_i hb;rcases aaO.1 ha with rfl | ha
    ·exact(fT _ _).1 hb
    ·exact FX h a ha
   ·cases h
def qP (k:Nat) (σ:Sg) (a:AV):Option (Hp AV):=match Nat.beq a.xa k with
 | true=>o9 σ a
 | false=>none
theorem cA {k:Nat} {σ:Sg} {a:AV} (h:a.xa≠k):qP k σ a=none:=by unfold qP;rw [(bT _ _).2 h]
theorem layK_eq {k:Nat} {σ:Sg} {a:AV} (h:a.xa=k):qP k σ a=o9 σ a:=by unfold qP;rw [(aG _ _).2 h]
theorem lT {a:AV} {i e o:Nat} {cs:List Cell} {b:Bool} {a':AV} (h:a.xC i e o cs=some (b,a')):a.xa=0 /\ a'.xa=0:=by
 unfold AV.xC at h;split at h;all_goals first
  | (cases h;done)
  | (split at h
     ·simp only [aaf,aaB] at h;have h:=h.2;subst h;exact⟨rfl,rfl⟩
     ·cases h)
  | (split at h
     ·simp only [aaf,aaB] at h;have h:=h.2;subst h;exact⟨rfl,rfl⟩
     ·split at h
      ·simp only [aaf,aaB] at h;have h:=h.2;subst h;exact⟨rfl,rfl⟩
      ·cases h)
theorem xj {a:AV} {x:Nat×TypeId×List Value} (h:a.gb=some x):a.xa=0:=by cases a<;>first | rfl | cases h
theorem wL {a:AV} {i e:Nat} {x:Bool×List Cell} (h:a.row i e=some x):a.xa=0:=by cases a<;>first | rfl | cases h
theorem wO {a:AV} {i e o n:Nat} {x:Bool×List Cell} (h:a.K2 i e o n=some x):a.xa=0:=by cases a<;>first | rfl | cases h
theorem rW {σ:Sg} {a:AV} {cs:List Cell} (h:a.word σ=some cs):a.xa=0:=by cases a<;>first | rfl | cases h
theorem acJ (σ:Sg):GJ (avF σ) (qP 1 σ) where
 gb:=fun a x h=>cA (by rw [xj h];decide)
 row:=fun a i e x h=>cA (by rw [wL h];decide)
 K2:=fun a i e o n x h=>cA (by rw [wO h];decide)
 xC:=fun a i e o cs b a' h=>⟨cA (by rw [(lT h).1];decide),cA (by rw [(lT h).2];decide)⟩
 word:=fun a cs h=>cA (by rw [rW h];decide)
def F1 (σ:Sg):gX AV:=(avF σ).Pt (qP 1 σ) (acJ σ)
theorem acH (σ:Sg):GJ (F1 σ) (qP 2 σ) where
 gb:=fun a x h=>cA (by rw [xj h];decide)
 row:=fun a i e x h=>cA (by rw [wL h];decide)
 K2:=fun a i e o n x h=>cA (by rw [wO h];decide)
 xC:=fun a i e o cs b a' h=>⟨cA (by rw [(lT h).1];decide),cA (by rw [(lT h).2];decide)⟩
 word:=fun a cs h=>cA (by rw [rW h];decide)
def F2 (σ:Sg):gX AV:=(F1 σ).Pt (qP 2 σ) (acH σ)
theorem acG (σ:Sg):GJ (F2 σ) (qP 3 σ) where
 gb:=fun a x h=>cA (by rw [xj h];decide)
 row:=fun a i e x h=>cA (by rw [wL h];decide)
 K2:=fun a i e o n x h=>cA (by rw [wO h];decide)
 xC:=fun a i e o cs b a' h=>⟨cA (by rw [(lT h).1];decide),cA (by rw [(lT h).2];decide)⟩
 word:=fun a cs h=>cA (by rw [rW h];decide)
def F3 (σ:Sg):gX AV:=(F2 σ).Pt (qP 3 σ) (acG σ)
theorem acF (σ:Sg):GJ (F3 σ) (qP 4 σ) where
 gb:=fun a x h=>cA (by rw [xj h];decide)
 row:=fun a i e x h=>cA (by rw [wL h];decide)
 K2:=fun a i e o n x h=>cA (by rw [wO h];decide)
 xC:=fun a i e o cs b a' h=>⟨cA (by rw [(lT h).1];decide),cA (by rw [(lT h).2];decide)⟩
 word:=fun a cs h=>cA (by rw [rW h];decide)
def F4 (σ:Sg):gX AV:=(F3 σ).Pt (qP 4 σ) (acF σ)
theorem acE (σ:Sg):GJ (F4 σ) (qP 5 σ) where
 gb:=fun a x h=>cA (by rw [xj h];decide)
 row:=fun a i e x h=>cA (by rw [wL h];decide)
 K2:=fun a i e o n x h=>cA (by rw [wO h];decide)
 xC:=fun a i e o cs b a' h=>⟨cA (by rw [(lT h).1];decide),cA (by rw [(lT h).2];decide)⟩
 word:=fun a cs h=>cA (by rw [rW h];decide)
def F5 (σ:Sg):gX AV:=(F4 σ).Pt (qP 5 σ) (acE σ)
theorem acD (σ:Sg):GJ (F5 σ) (qP 6 σ) where
 gb:=fun a x h=>cA (by rw [xj h];decide)
 row:=fun a i e x h=>cA (by rw [wL h];decide)
 K2:=fun a i e o n x h=>cA (by rw [wO h];decide)
 xC:=fun a i e o cs b a' h=>⟨cA (by rw [(lT h).1];decide),cA (by rw [(lT h).2];decide)⟩
 word:=fun a cs h=>cA (by rw [rW h];decide)
def F6 (σ:Sg):gX AV:=(F5 σ).Pt (qP 6 σ) (acD σ)
section
variable {σ:Sg} {a:AV} (l:Sx.m9) (S:Nat->Prop) (w:World)
theorem CL (h:a.xa≠6):(F6 σ).q a l S w↔(F5 σ).q a l S w:=fR (cA h) l S w
theorem G3 (h:a.xa≠5):(F5 σ).q a l S w↔(F4 σ).q a l S w:=fR (cA h) l S w
theorem Mi (h:a.xa≠4):(F4 σ).q a l S w↔(F3 σ).q a l S w:=fR (cA h) l S w
theorem TJ (h:a.xa≠3):(F3 σ).q a l S w↔(F2 σ).q a l S w:=fR (cA h) l S w
theorem abX (h:a.xa≠2):(F2 σ).q a l S w↔(F1 σ).q a l S w:=fR (cA h) l S w
theorem am1 (h:a.xa≠1):(F1 σ).q a l S w↔AV.q σ a l S w:=fR (cA h) l S w
theorem ar9 (h:a.xa=0):(F6 σ).q a l S w↔AV.q σ a l S w:=(CL l S w (by omega)).trans ((G3 l S w (by omega)).trans ((Mi l S w (by omega)).trans ((TJ l S w (by omega)).trans ((abX l S w (by omega)).trans (am1 l S w (by omega))))))
end
theorem PL {σ:Sg} {m:ah} {i:Nat} {a:AV} (h:af (tH σ m) i=some (.bN a)):a.xa=0:=by
 match i,h with
 | 0,h=>simp [tH,af] at h
 | 1,h=>simp only [tH,af,aaf,aK.bN.injEq] at h;subst h;rfl
 | 2,h=>simp only [tH,af,aaf,aK.bN.injEq] at h;subst h;rfl
 | 3,h=>simp only [tH,af,aaf,aK.bN.injEq] at h;subst h;rfl
 | i+4,h =>
   simp only [tH,af] at h;cases hf:m.fault with
   | none=>rw [hf] at h;cases i<;>simp [af,yD] at h
   | some x=>rw [hf] at h;cases i with
     | zero=>simp [af,yD] at h
     | succ i=>cases i<;>simp [af,yD] at h
theorem jJ {a:AV} {d:Nat} {ty:TypeId} {gs:Gs} (h:a.ob=some (d,ty,gs)):0 < d /\ d<=6 /\ I5 d (gj gs)=true:=by
 cases a<;>first | (cases h;done) | skip
 all_goals cases h
 ·exact⟨by decide,by decide,rfl⟩
 ·exact⟨by decide,by decide,rfl⟩
 ·exact⟨by decide,by decide,rfl⟩
 ·exact⟨by decide,by decide,rfl⟩
 ·rename_i m;refine⟨by decide,by decide,?_⟩;obtain⟨_,_,_,_,_,w,_,_⟩:=m;cases w<;>rfl
 ·exact⟨by decide,by decide,rfl⟩
 ·rename_i m;refine⟨by decide,by decide,?_⟩;obtain⟨_,_,_,w,_,_,_,_⟩:=m;cases w<;>rfl
 ·rename_i m;refine⟨by decide,by decide,?_⟩;obtain⟨_,_,_,_,_,_,_,_,_,_,w,l,_,_⟩:=m;cases w<;>cases l<;>rfl
 ·rename_i m;refine⟨by decide,by decide,?_⟩;obtain⟨_,_,_,_,_,_,j,_⟩:=m;cases j with
  | none=>rfl
  | some j=>cases j<;>rfl
 ·exact⟨by decide,by decide,rfl⟩
theorem kg {d:Nat} {ty:TypeId} {gs:Gs} (hd:I5 d (gj gs)=true) {i:Nat} {b:AV} (h:af (gk AV.len ty gs) i=some (.bN b)):b.xa < d:=by
 cases i with
 | zero=>simp [gk,af] at h
 | succ i =>obtain⟨c,hc,e⟩:=(eW _ _ _).1 (show af (fA (gj gs)) i=some (.bN b) from h);cases e;exact FX hd b (aca hc)
theorem PK {σ:Sg} {a:AV} {K:Hp AV} (hK:o9 σ a=some K) (ho:a.K3=true) {i:Nat} {b:AV} (h:af K i=some (.bN b)):b.xa < a.xa:=by
 cases a with
 | gi m =>cases hK;rw [PL h];show 0 < 1;decide
 | Pt d ty cs =>
   cases hK;simp only [AV.K3] at ho;split at ho
   ·rename_i h3;exact kg h3 h
   ·cases ho
 | aP m=>cases hK;exact kg (jJ (a:=.aP m) rfl).2.2 h
 | eu m=>cases hK;exact kg (jJ (a:=.eu m) rfl).2.2 h
 | dO m=>cases hK;exact kg (jJ (a:=.dO m) rfl).2.2 h
 | walk m=>cases hK;exact kg (jJ (a:=.walk m) rfl).2.2 h
 | lit m=>cases hK;exact kg (jJ (a:=.lit m) rfl).2.2 h
 | kY m=>cases hK;exact kg (jJ (a:=.kY m) rfl).2.2 h
 | pn m=>cases hK;exact kg (jJ (a:=.pn m) rfl).2.2 h
 | pQ m=>cases hK;exact kg (jJ (a:=.pQ m) rfl).2.2 h
 | rE m=>cases hK;exact kg (jJ (a:=.rE m) rfl).2.2 h
 | cre m=>cases hK;exact kg (jJ (a:=.cre m) rfl).2.2 h
 | _=>cases hK
theorem Yt {σ:Sg} {a:AV} {K:Hp AV} (hK:o9 σ a=some K) (ho:a.K3=true):a.xa=1 \/ a.xa=2 \/ a.xa=3 \/ a.xa=4 \/ a.xa=5 \/ a.xa=6:=by
 have key:0 < a.xa /\ a.xa<=6:=by
  cases a with
  | gi m=>show 0 < 1 /\ 1<=6;decide
  | Pt d ty cs =>
    simp only [AV.K3] at ho;split at ho
    ·rename_i h1 h2 _;exact⟨(fT _ _).1 h1,acZ h2⟩
    ·cases ho
  | aP m=>show 0 < 1 /\ 1<=6;decide
  | eu m=>show 0 < 1 /\ 1<=6;decide
  | dO m=>show 0 < 1 /\ 1<=6;decide
  | walk m=>show 0 < 1 /\ 1<=6;decide
  | lit m=>show 0 < 2 /\ 2<=6;decide
  | kY m=>show 0 < 1 /\ 1<=6;decide
  | pn m=>show 0 < 2 /\ 2<=6;decide
  | pQ m=>show 0 < 3 /\ 3<=6;decide
  | rE m=>show 0 < 4 /\ 4<=6;decide
  | cre m=>show 0 < 1 /\ 1<=6;decide
  | _=>cases hK
 omega
theorem uZ {σ:Sg} {N:eI AV} (hF:N.F=F6 σ) {a:AV} {K:Hp AV} (hK:o9 σ a=some K) (ho:a.K3=true) (l:Sx.m9) (S:Nat->Prop) (w:World):N.F.q a l S w↔oK N K l S w:=by
 have parts:=fun i b h=>PK (i:=i) (b:=b) hK ho h;have go:∀(F:gX AV),(∀b,b.xa < a.xa->∀l S w,F.q b l S w↔(F6 σ).q b l S w)->(oK (He F) K l S w↔oK N K l S w):=fun F hb=>by
  constructor
  ·exact HV (N:=He F) (N':=N) fun i b h l S w hq=>by rw [hF];exact(hb b (parts i b h) l S w).1 hq
  ·exact HV (N:=N) (N':=He F) fun i b h l S w hq=>by rw [hF] at hq;exact(hb b (parts i b h) l S w).2 hq
 rw [hF];rcases Yt hK ho with h1 | h2 | h3 | h4 | h5 | h6
 ·have e:(F1 σ).q a l S w↔oK (He (avF σ)) K l S w:=by show vk (avF σ) (qP 1 σ) a l S w↔_;unfold vk;rw [layK_eq h1,hK]
  exact((CL l S w (by omega)).trans ((G3 l S w (by omega)).trans ((Mi l S w (by omega)).trans ((TJ l S w (by omega)).trans (abX l S w (by omega)))))).trans (e.trans (go _ fun b hb l S w=>((CL l S w (by omega)).trans ((G3 l S w (by omega)).trans ((Mi l S w (by omega)).trans ((TJ l S w (by omega)).trans ((abX l S w (by omega)).trans (am1 l S w (by omega))))))).symm))
 ·have e:(F2 σ).q a l S w↔oK (He (F1 σ)) K l S w:=by show vk (F1 σ) (qP 2 σ) a l S w↔_;unfold vk;rw [layK_eq h2,hK]
  exact((CL l S w (by omega)).trans ((G3 l S w (by omega)).trans ((Mi l S w (by omega)).trans (TJ l S w (by omega))))).trans (e.trans (go _ fun b hb l S w=>((CL l S w (by omega)).trans ((G3 l S w (by omega)).trans ((Mi l S w (by omega)).trans ((TJ l S w (by omega)).trans (abX l S w (by omega)))))).symm))
 ·have e:(F3 σ).q a l S w↔oK (He (F2 σ)) K l S w:=by show vk (F2 σ) (qP 3 σ) a l S w↔_;unfold vk;rw [layK_eq h3,hK]
  exact((CL l S w (by omega)).trans ((G3 l S w (by omega)).trans (Mi l S w (by omega)))).trans (e.trans (go _ fun b hb l S w=>((CL l S w (by omega)).trans ((G3 l S w (by omega)).trans ((Mi l S w (by omega)).trans (TJ l S w (by omega))))).symm))
 ·have e:(F4 σ).q a l S w↔oK (He (F3 σ)) K l S w:=by show vk (F3 σ) (qP 4 σ) a l S w↔_;unfold vk;rw [layK_eq h4,hK]
  exact((CL l S w (by omega)).trans (G3 l S w (by omega))).trans (e.trans (go _ fun b hb l S w=>((CL l S w (by omega)).trans ((G3 l S w (by omega)).trans (Mi l S w (by omega)))).symm))
 ·have e:(F5 σ).q a l S w↔oK (He (F4 σ)) K l S w:=by show vk (F4 σ) (qP 5 σ) a l S w↔_;unfold vk;rw [layK_eq h5,hK]
  exact(CL l S w (by omega)).trans (e.trans (go _ fun b hb l S w=>((CL l S w (by omega)).trans (G3 l S w (by omega))).symm))
 ·have e:(F6 σ).q a l S w↔oK (He (F5 σ)) K l S w:=by show vk (F5 σ) (qP 6 σ) a l S w↔_;unfold vk;rw [layK_eq h6,hK]
  exact(e.trans (go _ fun b hb l S w=>(CL l S w (by omega)).symm))
def exW:AV->Option (List W) | .fD l=>some l | _=>none
def exS:AV->Option (List Sl) | .aW l=>some l | _=>none
def exI:AV->Option (List N1) | .ie l=>some l | _=>none
def EP:List Nat->Bool
 | []=>true
 | x::r=>match nS r x with | true=>false | false=>EP r
theorem qW:∀{l:List Nat},EP l=true->l.Nodup
 | [],_=>List.nodup_nil
 | x::r,h=>by
   simp only [EP] at h;split at h
   ·cases h
   ·rename_i hx;exact ads.2 ⟨(fun e=>by rw [(gP _ _).2 e] at hx;cases hx),qW h⟩
def Sf (σ:Sg) (H:Hp AV):Cell->Option (Option (Int×Nat)×Bool×Option Nat)
 | .fL=>some (none,true,none)
 | .xP t (.ptr m 0)=>match af H m with
   | some (.cells [c,.xP t2 (.op i a)] ty)=>match kL c,Nat.beq t afg,Nat.beq t2 QZ,Nat.beq ty abp with
     | some k,true,true,true=>some (some (k,i),decide (a=σ i),some m)
     | _,_,_,_=>none
   | _=>none
 | _=>none
def agp (lb ls lf:Nat) (m:ah) (ok:Bool) (ns:List Nat):T (AV×List Nat) :=
 .aE (decide (lb=m.dX.length)) <| .aE (decide (ls=m.aW.length)) <| .aE (decide (lf=m.free.length)) <| .aE ok <| .aD (.gi m,ns)
def VA (σ:Sg) (H:Hp AV) (n:Nat):T (AV×List Nat):=match af H n with
 | some (.cells [c0,c1,c2,c3,c4,c5] ty)=>match Nat.beq ty LF,Jq fg exW H c0,Jq ic exS H c1,Jq gx exI H c2,kL c3,kL c4,Sf σ H c5 with
   | true,some (b,lb,nb),some (s,ls,ns),some (f,lf,nf),some st,some md,some (ft,ok,nk)=>match EP (n::je [nb,ns,nf,nk]) with
     | true=>agp lb ls lf ⟨b,s,f,st,md,ft⟩ ok (je [nb,ns,nf,nk])
     | false=>.fail "plot: names"
   | _,_,_,_,_,_,_=>.fail "plot: parts"
 | _=>.fail "plot"
variable {N:eI AV}
theorem u0 {σ:Sg} (hF:N.F=F6 σ) {a:AV} (h:a.xa=0) (l:Sx.m9) (S:Nat->Prop) (w:World):N.F.q a l S w↔AV.q σ a l S w:=by rw [hF];exact ar9 l S w h
theorem b6 {c:Cell} {n:Int} (h:kL c=some n) (ρ:Nm):c.ay ρ=.int .i64 n:=by obtain⟨h1,h2⟩:=dG h;rw [<- h1];exact cg c fun m hm=>by rw [h2] at hm;cases hm
theorem Vz {σ:Sg} (hF:N.F=F6 σ):GG N (VA σ):=by
 intro H n a ns0 h ρ w hO;unfold VA at h;split at h
 ·rename_i c0 c1 c2 c3 c4 c5 ty hH;split at h
  ·rename_i b lb nb s ls ns f lf nf st md ft ok nk hty h0 h1 h2 h3 h4 h5;split at h
   ·rename_i jQ;have jQ:=qW jQ;unfold agp at h;obtain⟨e1,h⟩:=aC h;obtain⟨e2,h⟩:=aC h;obtain⟨e3,h⟩:=aC h;obtain⟨e4,h⟩:=aC h;cases h;have hty:=(aG _ _).1 hty;subst hty;obtain⟨l1,S1,d1,q1,p1⟩:=Aj (N:=N) (fun a l ha lc S w hq=>by cases a<;>first | (cases ha;done) | (cases ha;exact(u0 hF rfl _ _ _).1 hq)) h0 (aaF e1) hO;obtain⟨l2,S2,d2,q2,p2⟩:=Aj (N:=N) (fun a l ha lc S w hq=>by cases a<;>first | (cases ha;done) | (cases ha;exact(u0 hF rfl _ _ _).1 hq)) h1 (aaF e2) hO;obtain⟨l3,S3,d3,q3,p3⟩:=Aj (N:=N) (fun a l ha lc S w hq=>by cases a<;>first | (cases ha;done) | (cases ha;exact(u0 hF rfl _ _ _).1 hq)) h2 (aaF e3) hO;have hn0:=hO.q n _ hH;have hk:∃l4:Sx.m9,∃S4:Nat->Prop,c5.ay ρ=(KC ft).ay ⟨fun _=>l4,fun _ _=>False⟩ /\ (∀k i,ft=some (k,i)->w.heap[l4.b]?=some (.cells (aF ρ [.it .i64 k,.xP QZ (.op i (σ i))]).toArray abp (0,0)) /\ ∃m d,nk=some m /\ af H m=some d /\ (∀k,k=l4.b↔d.fp ρ m k)) /\ (ft=none->nk=none):=by
     unfold Sf at h5;split at h5
     ·cases h5;exact⟨⟨0,0,0⟩,fun _=>False,rfl,fun k i e=>(by cases e),fun _=>rfl⟩
     ·rename_i t m;split at h5
      ·rename_i c t2 i ad OL hm;split at h5
       ·rename_i k hk1 ht1 ht2 ht3;have ht1:=(aG _ _).1 ht1;have ht2:=(aG _ _).1 ht2;have ht3:=(aG _ _).1 ht3;subst ht1 ht2 ht3;cases h5;have ead:=aaF e4;subst ead;have hm0:=hO.q m _ hm;refine⟨ρ.L m,fun k=>k=(ρ.L m).b,rfl,fun k' i' e=>?_,fun e=>by cases e⟩;cases e;refine⟨?_,m,_,rfl,hm,fun k=>Iff.rfl⟩;have hm0:w.heap[ρ m]?=some (.cells (aF ρ [c,.xP QZ (.op i (σ i))]).toArray abp (0,0)):=hm0;rw [hm0];simp only [aF,aaU,afm,b6 hk1 ρ];rfl
       ·cases h5
      ·cases h5
     ·cases h5
    obtain⟨l4,S4,d4,f1,f2⟩:=hk;have hq:oK N (tH σ ⟨b,s,f,st,md,ft⟩) (ρ.L n) (jN ρ H n (je [nb,ns,nf,nk])) w:=by
     let ρ0:Nm:=⟨fun i=>match i with | 0=>ρ.L n | 1=>l1 | 2=>l2 | 3=>l3 | _=>l4,fun i=>match i with | 1=>S1 | 2=>S2 | 3=>S3 | _=>fun _=>False⟩;have hfc:(KC ft).ay ρ0=c5.ay ρ:=by
      rw [d4];cases ft with
      | none=>rfl
      | some x=>rfl
     refine HU hO ρ0 jQ (fun i m hi=>?_) (fun i c hc=>?_)
     ·match i,hi with
      | 0,_=>exact⟨_,rfl⟩
      | 1,_=>exact⟨_,rfl⟩
      | 2,_=>exact⟨_,rfl⟩
      | 3,_=>exact⟨_,rfl⟩
      | 4,hi =>
        have hi:nk=some m:=by simpa using hi
        cases ft with
        | none=>rw [f2 rfl] at hi;cases hi
        | some x=>exact⟨_,rfl⟩
      | i+5,hi=>simp at hi
     ·match i,hc with
      | 0,hc =>simp only [tH,af,aaf] at hc;subst hc;refine⟨?_,some n,rfl,_,hH,fun k=>Iff.rfl⟩;have hn0:w.heap[ρ n]?=some (.cells (aF ρ [c0,c1,c2,c3,c4,c5]).toArray LF (0,0)):=hn0;show w.heap[ρ n]?=some (.cells (aF ρ0 [.vs 1 0 b.length 5 false,.vs 2 0 s.length 52 false,.vs 3 0 f.length 1 false,.it .i64 st,.it .i64 md,KC ft]).toArray LF (0,0));rw [hn0];simp only [aF,aaU,afm,b6 h3 ρ,b6 h4 ρ,hfc,d1,d2,d3];rfl
      | 1,hc =>simp only [tH,af,aaf] at hc;subst hc;exact⟨(u0 hF rfl _ _ _).2 q1,nb,rfl,p1⟩
      | 2,hc =>simp only [tH,af,aaf] at hc;subst hc;exact⟨(u0 hF rfl _ _ _).2 q2,ns,rfl,p2⟩
      | 3,hc =>simp only [tH,af,aaf] at hc;subst hc;exact⟨(u0 hF rfl _ _ _).2 q3,nf,rfl,p3⟩
      | i+4,hc =>
        cases ft with
        | none=>cases i<;>simp [tH,af,yD] at hc
        | some x =>
          obtain⟨k,j⟩:=x;obtain⟨g1,m,d,g2,g3,g4⟩:=f1 k j rfl;cases i with
          | succ i=>cases i<;>simp [tH,af,yD] at hc
          | zero =>simp only [tH,af,yD,aaf] at hc;subst hc;exact⟨g1,some m,by rw [<- g2];rfl,d,g3,g4⟩
    exact(uZ hF (a:=.gi ⟨b,s,f,st,md,ft⟩) rfl rfl (ρ.L n) (jN ρ H n (je [nb,ns,nf,nk])) w).2 hq
   ·cases h
  ·cases h
 ·cases h
