import Derived.Test.YtadmfaohjnjajaaGreatDoorMd
import Derived.Test.YtadmfaohjnjajaaGreatDoorSxM
import Derived.Test.YtadmfaohjnjajaaGreatDoorSxOf
set_option linter.unusedVariables false
set_option linter.unusedSimpArgs false
set_option maxHeartbeats 4000000
namespace Go.Proofs.YtadmfaohjnjajaaGreatDoor
open Go Go.Sx Go.Proofs
abbrev Gs:=List (GC AV)
def rdI:Gs->Option (Int×Gs)
 | .p (.it .i64 n)::r=>some (n,r)
 | _=>none
theorem VX {gs r:Gs} {n:Int} (h:rdI gs=some (n,r)):gs=.p (.it .i64 n)::r:=by
 unfold rdI at h;split at h<;>cases h;rfl
def rdB:Gs->Option (Bool×Gs)
 | .p (.bt b)::r=>some (b,r)
 | _=>none
theorem VY {gs r:Gs} {b:Bool} (h:rdB gs=some (b,r)):gs=.p (.bt b)::r:=by
 unfold rdB at h;split at h<;>cases h;rfl
class Cdc {α:Type} (f:Gs->Option (α×Gs)) (w:outParam (α->Gs)):Prop where
 s:∀{gs r:Gs} {x:α},f gs=some (x,r)->gs=w x++r
theorem Cdc.bnd {α β:Type} {f:Gs->Option (α×Gs)} {w:α->Gs} [Cdc f w] {gs:Gs} {k:α×Gs->Option β} {y:β} (h:(f gs).bind k=some y):∃x r,gs=w x++r /\ k (x,r)=some y:=by
 obtain⟨⟨x,r⟩,h0,h⟩:=Option.bind_eq_some_iff.1 h
 exact⟨x,r,Cdc.s h0,h⟩
def wrO {α:Type} (V:α->AV):Option α->Gs
 | none=>[.p .pnil]
 | some m=>[.r (V m)]
def rdO {α:Type} (X:AV->Option α):Gs->Option (Option α×Gs)
 | .p .pnil::r=>some (none,r)
 | .r a::r=>match X a with | some m=>some (some m,r) | none=>none
 | _=>none
def rdP {α:Type} (X:AV->Option α):Gs->Option (α×Gs)
 | .r a::r=>match X a with | some m=>some (m,r) | none=>none
 | _=>none
theorem pW {α:Type} {X:AV->Option α} {V:α->AV} (hX:∀{a m},X a=some m->a=V m):Cdc (rdO X) (wrO V):=⟨fun {gs r x} h=>by
 unfold rdO at h
 split at h
 ·cases h;rfl
 ·split at h
  ·rename_i hm;cases h;rw [hX hm];rfl
  ·cases h
 ·cases h⟩
theorem pV {α:Type} {X:AV->Option α} {V:α->AV} (hX:∀{a m},X a=some m->a=V m):Cdc (rdP X) (fun m=>[.r (V m)]):=⟨fun {gs r x} h=>by
 unfold rdP at h
 split at h
 ·split at h
  ·rename_i hm;cases h;rw [hX hm];rfl
  ·cases h
 ·cases h⟩
instance:Cdc rdI (fun n=>[.p (.it .i64 n)]):=⟨VX⟩
instance:Cdc rdB (fun n=>[.p (.bt n)]):=⟨VY⟩
def ru:Gs->Option (List W×Gs)
 | .s (.words l) es::r=>match Nat.beq es kwords.es with | true=>some (l,r) | false=>none
 | _=>none
theorem Ez {gs r:Gs} {l:List W} (h:ru gs=some (l,r)):gs=.s (.words l) kwords.es::r:=by
 unfold ru at h
 split at h
 ·split at h
  ·rename_i e;have e:=(ai _ _).1 e;subst e;cases h;rfl
  ·cases h
 ·cases h
instance:Cdc ru (fun l=>[.s (.words l) kwords.es]):=⟨Ez⟩
def nS:Gs->Option (List Nt×Gs)
 | .s (.notes l) es::r=>match Nat.beq es knotes.es with | true=>some (l,r) | false=>none
 | _=>none
theorem EB {gs r:Gs} {l:List Nt} (h:nS gs=some (l,r)):gs=.s (.notes l) knotes.es::r:=by
 unfold nS at h
 split at h
 ·split at h
  ·rename_i e;have e:=(ai _ _).1 e;subst e;cases h;rfl
  ·cases h
 ·cases h
instance:Cdc nS (fun l=>[.s (.notes l) knotes.es]):=⟨EB⟩
def EA:Gs->Option (List O×Gs)
 | .s (.ops l) es::r=>match Nat.beq es kops.es with | true=>some (l,r) | false=>none
 | _=>none
theorem KY {gs r:Gs} {l:List O} (h:EA gs=some (l,r)):gs=.s (.ops l) kops.es::r:=by
 unfold EA at h
 split at h
 ·split at h
  ·rename_i e;have e:=(ai _ _).1 e;subst e;cases h;rfl
  ·cases h
 ·cases h
instance:Cdc EA (fun l=>[.s (.ops l) kops.es]):=⟨KY⟩
def rv:Gs->Option (List Bt×Gs)
 | .s (.beats l) es::r=>match Nat.beq es kbeats.es with | true=>some (l,r) | false=>none
 | _=>none
theorem EC {gs r:Gs} {l:List Bt} (h:rv gs=some (l,r)):gs=.s (.beats l) kbeats.es::r:=by
 unfold rv at h
 split at h
 ·split at h
  ·rename_i e;have e:=(ai _ _).1 e;subst e;cases h;rfl
  ·cases h
 ·cases h
instance:Cdc rv (fun l=>[.s (.beats l) kbeats.es]):=⟨EC⟩
def W.wr (x:W):Gs:=[.p (.it .i64 x.slot)]++([.p (.it .i64 x.gen)]++([.p (.it .i64 x.tag)]++([.p (.it .i64 x.num)]++([.p (.bt x.mark)]))))
def W.rd (gs:Gs):Option (W×Gs):=(rdI gs).bind fun(x0,r0)=>(rdI r0).bind fun(x1,r1)=>(rdI r1).bind fun(x2,r2)=>(rdI r2).bind fun(x3,r3)=>(rdB r3).bind fun(x4,r4)=>some (⟨x0,x1,x2,x3,x4⟩,r4)
theorem W.rd_s {gs r:Gs} {x:W} (h:W.rd gs=some (x,r)):gs=W.wr x++r:=by
 unfold W.rd at h
 repeat (have e:=Cdc.bnd h;clear h;obtain⟨_,_,rfl,h⟩:=e)
 cases h
 simp only [W.wr,List.append_assoc,List.singleton_append,List.cons_append,List.nil_append]
instance:Cdc W.rd W.wr:=⟨W.rd_s⟩
def O.wr (x:O):Gs:=[.p (.it .i64 x.kind)]++([.p (.it .i64 x.key)]++([.p (.it .i64 x.val)]++([.p (.it .i64 x.tall)])))
def O.rd (gs:Gs):Option (O×Gs):=(rdI gs).bind fun(x0,r0)=>(rdI r0).bind fun(x1,r1)=>(rdI r1).bind fun(x2,r2)=>(rdI r2).bind fun(x3,r3)=>some (⟨x0,x1,x2,x3⟩,r3)
theorem O.rd_s {gs r:Gs} {x:O} (h:O.rd gs=some (x,r)):gs=O.wr x++r:=by
 unfold O.rd at h
 repeat (have e:=Cdc.bnd h;clear h;obtain⟨_,_,rfl,h⟩:=e)
 cases h
 simp only [O.wr,List.append_assoc,List.singleton_append,List.cons_append,List.nil_append]
instance:Cdc O.rd O.wr:=⟨O.rd_s⟩
def Sp.wr (x:Sp):Gs:=[.p (.bt x.is)]++([.p (.it .i64 x.low)]++([.p (.it .i64 x.high)]))
def Sp.rd (gs:Gs):Option (Sp×Gs):=(rdB gs).bind fun(x0,r0)=>(rdI r0).bind fun(x1,r1)=>(rdI r1).bind fun(x2,r2)=>some (⟨x0,x1,x2⟩,r2)
theorem Sp.rd_s {gs r:Gs} {x:Sp} (h:Sp.rd gs=some (x,r)):gs=Sp.wr x++r:=by
 unfold Sp.rd at h
 repeat (have e:=Cdc.bnd h;clear h;obtain⟨_,_,rfl,h⟩:=e)
 cases h
 simp only [Sp.wr,List.append_assoc,List.singleton_append,List.cons_append,List.nil_append]
instance:Cdc Sp.rd Sp.wr:=⟨Sp.rd_s⟩
def Ad.wr (x:Ad):Gs:=[.p (.it .i64 x.s)]++([.p (.it .i64 x.g)]++([.p (.it .i64 x.f)]))
def Ad.rd (gs:Gs):Option (Ad×Gs):=(rdI gs).bind fun(x0,r0)=>(rdI r0).bind fun(x1,r1)=>(rdI r1).bind fun(x2,r2)=>some (⟨x0,x1,x2⟩,r2)
theorem Ad.rd_s {gs r:Gs} {x:Ad} (h:Ad.rd gs=some (x,r)):gs=Ad.wr x++r:=by
 unfold Ad.rd at h
 repeat (have e:=Cdc.bnd h;clear h;obtain⟨_,_,rfl,h⟩:=e)
 cases h
 simp only [Ad.wr,List.append_assoc,List.singleton_append,List.cons_append,List.nil_append]
instance:Cdc Ad.rd Ad.wr:=⟨Ad.rd_s⟩
def An.wr (x:An):Gs:=[.p (.it .i64 x.code)]++([.p (.it .i64 x.val)])
def An.rd (gs:Gs):Option (An×Gs):=(rdI gs).bind fun(x0,r0)=>(rdI r0).bind fun(x1,r1)=>some (⟨x0,x1⟩,r1)
theorem An.rd_s {gs r:Gs} {x:An} (h:An.rd gs=some (x,r)):gs=An.wr x++r:=by
 unfold An.rd at h
 repeat (have e:=Cdc.bnd h;clear h;obtain⟨_,_,rfl,h⟩:=e)
 cases h
 simp only [An.wr,List.append_assoc,List.singleton_append,List.cons_append,List.nil_append]
instance:Cdc An.rd An.wr:=⟨An.rd_s⟩
def Acc.wr (x:Acc):Gs:=[.p (.it .i64 x.kind)]++([.p (.it .i64 x.s)]++([.p (.it .i64 x.g)]++([.p (.it .i64 x.f)]++(W.wr x.old++(W.wr x.new)))))
def Acc.rd (gs:Gs):Option (Acc×Gs):=(rdI gs).bind fun(x0,r0)=>(rdI r0).bind fun(x1,r1)=>(rdI r1).bind fun(x2,r2)=>(rdI r2).bind fun(x3,r3)=>(W.rd r3).bind fun(x4,r4)=>(W.rd r4).bind fun(x5,r5)=>some (⟨x0,x1,x2,x3,x4,x5⟩,r5)
theorem Acc.rd_s {gs r:Gs} {x:Acc} (h:Acc.rd gs=some (x,r)):gs=Acc.wr x++r:=by
 unfold Acc.rd at h
 repeat (have e:=Cdc.bnd h;clear h;obtain⟨_,_,rfl,h⟩:=e)
 cases h
 simp only [Acc.wr,List.append_assoc,List.singleton_append,List.cons_append,List.nil_append]
instance:Cdc Acc.rd Acc.wr:=⟨Acc.rd_s⟩
def Rp1.wr (x:Rp1):Gs:=W.wr x.w++([.p (.bt x.ok)])
def Rp1.rd (gs:Gs):Option (Rp1×Gs):=(W.rd gs).bind fun(x0,r0)=>(rdB r0).bind fun(x1,r1)=>some (⟨x0,x1⟩,r1)
theorem Rp1.rd_s {gs r:Gs} {x:Rp1} (h:Rp1.rd gs=some (x,r)):gs=Rp1.wr x++r:=by
 unfold Rp1.rd at h
 repeat (have e:=Cdc.bnd h;clear h;obtain⟨_,_,rfl,h⟩:=e)
 cases h
 simp only [Rp1.wr,List.append_assoc,List.singleton_append,List.cons_append,List.nil_append]
instance:Cdc Rp1.rd Rp1.wr:=⟨Rp1.rd_s⟩
def Cl.wr (x:Cl):Gs:=[.p (.it .i64 x.kind)]++(Ad.wr x.adr++(W.wr x.old++(W.wr x.new++([.p (.it .i64 x.i)]++([.p (.it .i64 x.j)]++(An.wr x.ans))))))
def Cl.rd (gs:Gs):Option (Cl×Gs):=(rdI gs).bind fun(x0,r0)=>(Ad.rd r0).bind fun(x1,r1)=>(W.rd r1).bind fun(x2,r2)=>(W.rd r2).bind fun(x3,r3)=>(rdI r3).bind fun(x4,r4)=>(rdI r4).bind fun(x5,r5)=>(An.rd r5).bind fun(x6,r6)=>some (⟨x0,x1,x2,x3,x4,x5,x6⟩,r6)
theorem Cl.rd_s {gs r:Gs} {x:Cl} (h:Cl.rd gs=some (x,r)):gs=Cl.wr x++r:=by
 unfold Cl.rd at h
 repeat (have e:=Cdc.bnd h;clear h;obtain⟨_,_,rfl,h⟩:=e)
 cases h
 simp only [Cl.wr,List.append_assoc,List.singleton_append,List.cons_append,List.nil_append]
instance:Cdc Cl.rd Cl.wr:=⟨Cl.rd_s⟩
def H9.wr (x:H9):Gs:=W.wr x.h0++(W.wr x.h1++(W.wr x.h2++(W.wr x.h3++(W.wr x.h4++(W.wr x.h5++(W.wr x.h6++(W.wr x.h7++(W.wr x.h8))))))))
def H9.rd (gs:Gs):Option (H9×Gs):=(W.rd gs).bind fun(x0,r0)=>(W.rd r0).bind fun(x1,r1)=>(W.rd r1).bind fun(x2,r2)=>(W.rd r2).bind fun(x3,r3)=>(W.rd r3).bind fun(x4,r4)=>(W.rd r4).bind fun(x5,r5)=>(W.rd r5).bind fun(x6,r6)=>(W.rd r6).bind fun(x7,r7)=>(W.rd r7).bind fun(x8,r8)=>some (⟨x0,x1,x2,x3,x4,x5,x6,x7,x8⟩,r8)
theorem H9.rd_s {gs r:Gs} {x:H9} (h:H9.rd gs=some (x,r)):gs=H9.wr x++r:=by
 unfold H9.rd at h
 repeat (have e:=Cdc.bnd h;clear h;obtain⟨_,_,rfl,h⟩:=e)
 cases h
 simp only [H9.wr,List.append_assoc,List.singleton_append,List.cons_append,List.nil_append]
instance:Cdc H9.rd H9.wr:=⟨H9.rd_s⟩
def S3.wr (x:S3):Gs:=Ad.wr x.p0++(W.wr x.c0++(Ad.wr x.p1++(W.wr x.c1++(Ad.wr x.p2++(W.wr x.c2)))))
def S3.rd (gs:Gs):Option (S3×Gs):=(Ad.rd gs).bind fun(x0,r0)=>(W.rd r0).bind fun(x1,r1)=>(Ad.rd r1).bind fun(x2,r2)=>(W.rd r2).bind fun(x3,r3)=>(Ad.rd r3).bind fun(x4,r4)=>(W.rd r4).bind fun(x5,r5)=>some (⟨x0,x1,x2,x3,x4,x5⟩,r5)
theorem S3.rd_s {gs r:Gs} {x:S3} (h:S3.rd gs=some (x,r)):gs=S3.wr x++r:=by
 unfold S3.rd at h
 repeat (have e:=Cdc.bnd h;clear h;obtain⟨_,_,rfl,h⟩:=e)
 cases h
 simp only [S3.wr,List.append_assoc,List.singleton_append,List.cons_append,List.nil_append]
instance:Cdc S3.rd S3.wr:=⟨S3.rd_s⟩
def RiteM.wr (x:RiteM):Gs:=Cl.wr x.call++([.p (.it .i64 x.step)]++(Acc.wr x.acc++(W.wr x.word++(W.wr x.clock++([.p (.it .i64 x.index)]++([.s (.words x.seen) kwords.es]++([.s (.notes x.doomed) knotes.es]++([.p (.it .i64 x.engine)]++([.p (.it .i64 x.me)]++([.p (.it .i64 x.threads)]++([.p (.it .i64 x.most)]++(H9.wr x.holds++(Sp.wr x.span++([.s (.notes x.notes) knotes.es]++([.p (.it .i64 x.freed)]++(Rp1.wr x.reply))))))))))))))))
def RiteM.rd (gs:Gs):Option (RiteM×Gs):=(Cl.rd gs).bind fun(x0,r0)=>(rdI r0).bind fun(x1,r1)=>(Acc.rd r1).bind fun(x2,r2)=>(W.rd r2).bind fun(x3,r3)=>(W.rd r3).bind fun(x4,r4)=>(rdI r4).bind fun(x5,r5)=>(ru r5).bind fun(x6,r6)=>(nS r6).bind fun(x7,r7)=>(rdI r7).bind fun(x8,r8)=>(rdI r8).bind fun(x9,r9)=>(rdI r9).bind fun(x10,r10)=>(rdI r10).bind fun(x11,r11)=>(H9.rd r11).bind fun(x12,r12)=>(Sp.rd r12).bind fun(x13,r13)=>(nS r13).bind fun(x14,r14)=>(rdI r14).bind fun(x15,r15)=>(Rp1.rd r15).bind fun(x16,r16)=>some (⟨x0,x1,x2,x3,x4,x5,x6,x7,x8,x9,x10,x11,x12,x13,x14,x15,x16⟩,r16)
theorem RiteM.rd_s {gs r:Gs} {x:RiteM} (h:RiteM.rd gs=some (x,r)):gs=RiteM.wr x++r:=by
 unfold RiteM.rd at h
 repeat (have e:=Cdc.bnd h;clear h;obtain⟨_,_,rfl,h⟩:=e)
 cases h
 simp only [RiteM.wr,List.append_assoc,List.singleton_append,List.cons_append,List.nil_append]
instance:Cdc RiteM.rd RiteM.wr:=⟨RiteM.rd_s⟩
abbrev cL:Nat:=141
abbrev dR (m:RiteM):AV:=.rite m
def zf:AV->Option RiteM
 | .rite m=>some m
 | _=>none
theorem vm {a:AV} {m:RiteM} (h:zf a=some m):a=dR m:=by
 unfold zf at h;split at h<;>cases h;rfl
abbrev Jo:=wrO dR
abbrev K4:=rdO zf
abbrev CB:=rdP zf
instance:Cdc K4 Jo:=pW vm
instance:Cdc CB (fun m=>[.r (dR m)]):=pV vm
def PileM.wr (x:PileM):Gs:=[.p (.it .i64 x.pc)]++(Cl.wr x.last++(O.wr x.op++(W.wr x.node++(W.wr x.top++([.p (.it .i64 x.val)])))))
def PileM.rd (gs:Gs):Option (PileM×Gs):=(rdI gs).bind fun(x0,r0)=>(Cl.rd r0).bind fun(x1,r1)=>(O.rd r1).bind fun(x2,r2)=>(W.rd r2).bind fun(x3,r3)=>(W.rd r3).bind fun(x4,r4)=>(rdI r4).bind fun(x5,r5)=>some (⟨x0,x1,x2,x3,x4,x5⟩,r5)
theorem PileM.rd_s {gs r:Gs} {x:PileM} (h:PileM.rd gs=some (x,r)):gs=PileM.wr x++r:=by
 unfold PileM.rd at h
 repeat (have e:=Cdc.bnd h;clear h;obtain⟨_,_,rfl,h⟩:=e)
 cases h
 simp only [PileM.wr,List.append_assoc,List.singleton_append,List.cons_append,List.nil_append]
instance:Cdc PileM.rd PileM.wr:=⟨PileM.rd_s⟩
abbrev Cf:Nat:=155
abbrev zk (m:PileM):AV:=.pile m
def zj:AV->Option PileM
 | .pile m=>some m
 | _=>none
theorem vq {a:AV} {m:PileM} (h:zj a=some m):a=zk m:=by
 unfold zj at h;split at h<;>cases h;rfl
abbrev Jp:=wrO zk
abbrev K5:=rdO zj
abbrev K0:=rdP zj
instance:Cdc K5 Jp:=pW vq
instance:Cdc K0 (fun m=>[.r (zk m)]):=pV vq
def CortM.wr (x:CortM):Gs:=[.p (.it .i64 x.pc)]++(Cl.wr x.last++(O.wr x.op++(W.wr x.node++(W.wr x.h++(W.wr x.t++(W.wr x.n++([.p (.it .i64 x.val)])))))))
def CortM.rd (gs:Gs):Option (CortM×Gs):=(rdI gs).bind fun(x0,r0)=>(Cl.rd r0).bind fun(x1,r1)=>(O.rd r1).bind fun(x2,r2)=>(W.rd r2).bind fun(x3,r3)=>(W.rd r3).bind fun(x4,r4)=>(W.rd r4).bind fun(x5,r5)=>(W.rd r5).bind fun(x6,r6)=>(rdI r6).bind fun(x7,r7)=>some (⟨x0,x1,x2,x3,x4,x5,x6,x7⟩,r7)
theorem CortM.rd_s {gs r:Gs} {x:CortM} (h:CortM.rd gs=some (x,r)):gs=CortM.wr x++r:=by
 unfold CortM.rd at h
 repeat (have e:=Cdc.bnd h;clear h;obtain⟨_,_,rfl,h⟩:=e)
 cases h
 simp only [CortM.wr,List.append_assoc,List.singleton_append,List.cons_append,List.nil_append]
instance:Cdc CortM.rd CortM.wr:=⟨CortM.rd_s⟩
abbrev Ch:Nat:=159
abbrev Aq (m:CortM):AV:=.cort m
def Ap:AV->Option CortM
 | .cort m=>some m
 | _=>none
theorem vD {a:AV} {m:CortM} (h:Ap a=some m):a=Aq m:=by
 unfold Ap at h;split at h<;>cases h;rfl
abbrev Jq:=wrO Aq
abbrev K6:=rdO Ap
abbrev K1:=rdP Ap
instance:Cdc K6 Jq:=pW vD
instance:Cdc K1 (fun m=>[.r (Aq m)]):=pV vD
def WalkM.wr (x:WalkM):Gs:=[.p (.it .i64 x.pc)]++(Cl.wr x.last++(Ad.wr x.start++([.p (.it .i64 x.key)]++(Ad.wr x.prev++(W.wr x.cur++(W.wr x.next++([.p (.it .i64 x.k)]++([.p (.bt x.found)]))))))))
def WalkM.rd (gs:Gs):Option (WalkM×Gs):=(rdI gs).bind fun(x0,r0)=>(Cl.rd r0).bind fun(x1,r1)=>(Ad.rd r1).bind fun(x2,r2)=>(rdI r2).bind fun(x3,r3)=>(Ad.rd r3).bind fun(x4,r4)=>(W.rd r4).bind fun(x5,r5)=>(W.rd r5).bind fun(x6,r6)=>(rdI r6).bind fun(x7,r7)=>(rdB r7).bind fun(x8,r8)=>some (⟨x0,x1,x2,x3,x4,x5,x6,x7,x8⟩,r8)
theorem WalkM.rd_s {gs r:Gs} {x:WalkM} (h:WalkM.rd gs=some (x,r)):gs=WalkM.wr x++r:=by
 unfold WalkM.rd at h
 repeat (have e:=Cdc.bnd h;clear h;obtain⟨_,_,rfl,h⟩:=e)
 cases h
 simp only [WalkM.wr,List.append_assoc,List.singleton_append,List.cons_append,List.nil_append]
instance:Cdc WalkM.rd WalkM.wr:=⟨WalkM.rd_s⟩
abbrev qW:Nat:=262
abbrev vK (m:WalkM):AV:=.walk m
def B0:AV->Option WalkM
 | .walk m=>some m
 | _=>none
theorem AN {a:AV} {m:WalkM} (h:B0 a=some m):a=vK m:=by
 unfold B0 at h;split at h<;>cases h;rfl
abbrev vJ:=wrO vK
abbrev wO:=rdO B0
abbrev KZ:=rdP B0
instance:Cdc wO vJ:=pW AN
instance:Cdc KZ (fun m=>[.r (vK m)]):=pV AN
def LitM.wr (x:LitM):Gs:=[.p (.it .i64 x.pc)]++(Cl.wr x.last++(Ad.wr x.start++([.p (.it .i64 x.key)]++(O.wr x.op++(vJ x.walk++(W.wr x.node++([.p (.it .i64 x.val)])))))))
def LitM.rd (gs:Gs):Option (LitM×Gs):=(rdI gs).bind fun(x0,r0)=>(Cl.rd r0).bind fun(x1,r1)=>(Ad.rd r1).bind fun(x2,r2)=>(rdI r2).bind fun(x3,r3)=>(O.rd r3).bind fun(x4,r4)=>(wO r4).bind fun(x5,r5)=>(W.rd r5).bind fun(x6,r6)=>(rdI r6).bind fun(x7,r7)=>some (⟨x0,x1,x2,x3,x4,x5,x6,x7⟩,r7)
theorem LitM.rd_s {gs r:Gs} {x:LitM} (h:LitM.rd gs=some (x,r)):gs=LitM.wr x++r:=by
 unfold LitM.rd at h
 repeat (have e:=Cdc.bnd h;clear h;obtain⟨_,_,rfl,h⟩:=e)
 cases h
 simp only [LitM.wr,List.append_assoc,List.singleton_append,List.cons_append,List.nil_append]
instance:Cdc LitM.rd LitM.wr:=⟨LitM.rd_s⟩
abbrev D3:Nat:=211
abbrev ET (m:LitM):AV:=.lit m
def Ix:AV->Option LitM
 | .lit m=>some m
 | _=>none
theorem Bw {a:AV} {m:LitM} (h:Ix a=some m):a=ET m:=by
 unfold Ix at h;split at h<;>cases h;rfl
abbrev FJ:=wrO ET
abbrev Gt:=rdO Ix
abbrev OW:=rdP Ix
instance:Cdc Gt FJ:=pW Bw
instance:Cdc OW (fun m=>[.r (ET m)]):=pV Bw
def ClimbM.wr (x:ClimbM):Gs:=[.p (.it .i64 x.pc)]++(Cl.wr x.last++(Ad.wr x.prev++(W.wr x.cur++([.p (.it .i64 x.bound)]++([.p (.it .i64 x.level)]++(W.wr x.next++([.p (.it .i64 x.k)]++(S3.wr x.spots++(W.wr x.found)))))))))
def ClimbM.rd (gs:Gs):Option (ClimbM×Gs):=(rdI gs).bind fun(x0,r0)=>(Cl.rd r0).bind fun(x1,r1)=>(Ad.rd r1).bind fun(x2,r2)=>(W.rd r2).bind fun(x3,r3)=>(rdI r3).bind fun(x4,r4)=>(rdI r4).bind fun(x5,r5)=>(W.rd r5).bind fun(x6,r6)=>(rdI r6).bind fun(x7,r7)=>(S3.rd r7).bind fun(x8,r8)=>(W.rd r8).bind fun(x9,r9)=>some (⟨x0,x1,x2,x3,x4,x5,x6,x7,x8,x9⟩,r9)
theorem ClimbM.rd_s {gs r:Gs} {x:ClimbM} (h:ClimbM.rd gs=some (x,r)):gs=ClimbM.wr x++r:=by
 unfold ClimbM.rd at h
 repeat (have e:=Cdc.bnd h;clear h;obtain⟨_,_,rfl,h⟩:=e)
 cases h
 simp only [ClimbM.wr,List.append_assoc,List.singleton_append,List.cons_append,List.nil_append]
instance:Cdc ClimbM.rd ClimbM.wr:=⟨ClimbM.rd_s⟩
abbrev hI:Nat:=285
abbrev lO (m:ClimbM):AV:=.climb m
def yp:AV->Option ClimbM
 | .climb m=>some m
 | _=>none
theorem yo {a:AV} {m:ClimbM} (h:yp a=some m):a=lO m:=by
 unfold yp at h;split at h<;>cases h;rfl
abbrev yX:=wrO lO
abbrev zh:=rdO yp
abbrev H6:=rdP yp
instance:Cdc zh yX:=pW yo
instance:Cdc H6 (fun m=>[.r (lO m)]):=pV yo
def SteM.wr (x:SteM):Gs:=[.p (.it .i64 x.pc)]++(Cl.wr x.last++(O.wr x.op++(yX x.climb++(W.wr x.node++([.p (.it .i64 x.level)]++([.p (.it .i64 x.inc)]++([.p (.it .i64 x.val)])))))))
def SteM.rd (gs:Gs):Option (SteM×Gs):=(rdI gs).bind fun(x0,r0)=>(Cl.rd r0).bind fun(x1,r1)=>(O.rd r1).bind fun(x2,r2)=>(zh r2).bind fun(x3,r3)=>(W.rd r3).bind fun(x4,r4)=>(rdI r4).bind fun(x5,r5)=>(rdI r5).bind fun(x6,r6)=>(rdI r6).bind fun(x7,r7)=>some (⟨x0,x1,x2,x3,x4,x5,x6,x7⟩,r7)
theorem SteM.rd_s {gs r:Gs} {x:SteM} (h:SteM.rd gs=some (x,r)):gs=SteM.wr x++r:=by
 unfold SteM.rd at h
 repeat (have e:=Cdc.bnd h;clear h;obtain⟨_,_,rfl,h⟩:=e)
 cases h
 simp only [SteM.wr,List.append_assoc,List.singleton_append,List.cons_append,List.nil_append]
instance:Cdc SteM.rd SteM.wr:=⟨SteM.rd_s⟩
abbrev nK:Nat:=173
abbrev wz (m:SteM):AV:=.ste m
def HO:AV->Option SteM
 | .ste m=>some m
 | _=>none
theorem A5 {a:AV} {m:SteM} (h:HO a=some m):a=wz m:=by
 unfold HO at h;split at h<;>cases h;rfl
abbrev N6:=wrO wz
abbrev OZ:=rdO HO
abbrev OU:=rdP HO
instance:Cdc OZ N6:=pW A5
instance:Cdc OU (fun m=>[.r (wz m)]):=pV A5
def VauM.wr (x:VauM):Gs:=[.p (.it .i64 x.pc)]++(Cl.wr x.last++(O.wr x.op++([.p (.it .i64 x.size)]++([.p (.it .i64 x.wanted)]++([.p (.it .i64 x.bucket)]++([.p (.it .i64 x.child)]++(W.wr x.base++(W.wr x.node++(W.wr x.sentinel++(vJ x.walk++(FJ x.inner++(An.wr x.answer++(W.wr x.count)))))))))))))
def VauM.rd (gs:Gs):Option (VauM×Gs):=(rdI gs).bind fun(x0,r0)=>(Cl.rd r0).bind fun(x1,r1)=>(O.rd r1).bind fun(x2,r2)=>(rdI r2).bind fun(x3,r3)=>(rdI r3).bind fun(x4,r4)=>(rdI r4).bind fun(x5,r5)=>(rdI r5).bind fun(x6,r6)=>(W.rd r6).bind fun(x7,r7)=>(W.rd r7).bind fun(x8,r8)=>(W.rd r8).bind fun(x9,r9)=>(wO r9).bind fun(x10,r10)=>(Gt r10).bind fun(x11,r11)=>(An.rd r11).bind fun(x12,r12)=>(W.rd r12).bind fun(x13,r13)=>some (⟨x0,x1,x2,x3,x4,x5,x6,x7,x8,x9,x10,x11,x12,x13⟩,r13)
theorem VauM.rd_s {gs r:Gs} {x:VauM} (h:VauM.rd gs=some (x,r)):gs=VauM.wr x++r:=by
 unfold VauM.rd at h
 repeat (have e:=Cdc.bnd h;clear h;obtain⟨_,_,rfl,h⟩:=e)
 cases h
 simp only [VauM.wr,List.append_assoc,List.singleton_append,List.cons_append,List.nil_append]
instance:Cdc VauM.rd VauM.wr:=⟨VauM.rd_s⟩
abbrev Cd:Nat:=168
abbrev AU (m:VauM):AV:=.vau m
def Hq:AV->Option VauM
 | .vau m=>some m
 | _=>none
theorem AR {a:AV} {m:VauM} (h:Hq a=some m):a=AU m:=by
 unfold Hq at h;split at h<;>cases h;rfl
abbrev N5:=wrO AU
abbrev OY:=rdO Hq
abbrev OT:=rdP Hq
instance:Cdc OY N5:=pW AR
instance:Cdc OT (fun m=>[.r (AU m)]):=pV AR
def wrJ:Option JobM->Gs
 | none=>[.p .inil]
 | some (.pile j)=>[.i 96 (zk j)]
 | some (.cort j)=>[.i 99 (Aq j)]
 | some (.lit j)=>[.i 102 (ET j)]
 | some (.vau j)=>[.i 105 (AU j)]
 | some (.ste j)=>[.i 108 (wz j)]
def orJ {α:Type} (c:Bool) (X:AV->Option α) (k:α->JobM) (a:AV) (e:Option JobM):Option JobM:=match c with
 | true=>match X a with | some j=>some (k j) | none=>none
 | false=>e
theorem CG {α:Type} {c:Bool} {X:AV->Option α} {V:α->AV} (hX:∀{a m},X a=some m->a=V m) {k:α->JobM} {a:AV} {e:Option JobM} {j:JobM} (h:orJ c X k a e=some j):(∃m,c=true /\ a=V m /\ j=k m) \/ e=some j:=by
 unfold orJ at h
 split at h
 ·split at h
  ·rename_i hm;cases h;exact .inl ⟨_,rfl,hX hm,rfl⟩
  ·cases h
 ·exact .inr h
def X6 (t:Nat) (a:AV):Option JobM:=orJ (Nat.beq t 96) zj .pile a (orJ (Nat.beq t 99) Ap .cort a (orJ (Nat.beq t 102) Ix .lit a (orJ (Nat.beq t 105) Hq .vau a (orJ (Nat.beq t 108) HO .ste a (none)))))
def rdJ:Gs->Option (Option JobM×Gs)
 | .p .inil::r=>some (none,r)
 | .i t a::r=>match X6 t a with | some j=>some (some j,r) | none=>none
 | _=>none
theorem VW {gs r:Gs} {m:Option JobM} (h:rdJ gs=some (m,r)):gs=wrJ m++r:=by
 unfold rdJ at h
 split at h
 ·cases h;rfl
 ·split at h
  ·rename_i hj
   cases h
   rcases CG vq hj with⟨m,e,rfl,rfl⟩ | hj
   ·have e:=(ai _ _).1 e;subst e;rfl
   rcases CG vD hj with⟨m,e,rfl,rfl⟩ | hj
   ·have e:=(ai _ _).1 e;subst e;rfl
   rcases CG Bw hj with⟨m,e,rfl,rfl⟩ | hj
   ·have e:=(ai _ _).1 e;subst e;rfl
   rcases CG AR hj with⟨m,e,rfl,rfl⟩ | hj
   ·have e:=(ai _ _).1 e;subst e;rfl
   rcases CG A5 hj with⟨m,e,rfl,rfl⟩ | hj
   ·have e:=(ai _ _).1 e;subst e;rfl
   cases hj
  ·cases h
 ·cases h
instance:Cdc rdJ wrJ:=⟨VW⟩
def VerM.wr (x:VerM):Gs:=[.p (.it .i64 x.sort)]++([.p (.it .i64 x.engine)]++([.r (dR x.rite)]++([.p (.it .i64 x.doing)]++(Cl.wr x.call++(O.wr x.op++(wrJ x.job++(An.wr x.answer)))))))
def VerM.rd (gs:Gs):Option (VerM×Gs):=(rdI gs).bind fun(x0,r0)=>(rdI r0).bind fun(x1,r1)=>(CB r1).bind fun(x2,r2)=>(rdI r2).bind fun(x3,r3)=>(Cl.rd r3).bind fun(x4,r4)=>(O.rd r4).bind fun(x5,r5)=>(rdJ r5).bind fun(x6,r6)=>(An.rd r6).bind fun(x7,r7)=>some (⟨x0,x1,x2,x3,x4,x5,x6,x7⟩,r7)
theorem VerM.rd_s {gs r:Gs} {x:VerM} (h:VerM.rd gs=some (x,r)):gs=VerM.wr x++r:=by
 unfold VerM.rd at h
 repeat (have e:=Cdc.bnd h;clear h;obtain⟨_,_,rfl,h⟩:=e)
 cases h
 simp only [VerM.wr,List.append_assoc,List.singleton_append,List.cons_append,List.nil_append]
instance:Cdc VerM.rd VerM.wr:=⟨VerM.rd_s⟩
abbrev lW:Nat:=81
abbrev eJ (m:VerM):AV:=.ver m
def Jw:AV->Option VerM
 | .ver m=>some m
 | _=>none
theorem DU {a:AV} {m:VerM} (h:Jw a=some m):a=eJ m:=by
 unfold Jw at h;split at h<;>cases h;rfl
abbrev N4:=wrO eJ
abbrev OX:=rdO Jw
abbrev OS:=rdP Jw
instance:Cdc OX N4:=pW DU
instance:Cdc OS (fun m=>[.r (eJ m)]):=pV DU
def vo:Gs->Option (PlotM×Gs)
 | .r (.plot m)::r=>some (m,r)
 | _=>none
theorem H5 {gs r:Gs} {m:PlotM} (h:vo gs=some (m,r)):gs=.r (.plot m)::r:=by
 unfold vo at h;split at h<;>cases h;rfl
instance:Cdc vo (fun m=>[.r (.plot m)]):=⟨H5⟩
abbrev Sd:Nat:=968147
def SK:List RosM->Gs
 | []=>[]
 | x::r=>.r (.ver x.ver)::.s (.ops x.queue) kops.es::.p (.it .i64 x.given)::.p (.it .i64 x.last)::SK r
abbrev SH (l:List RosM):AV:=.oba 5 4 Sd (SK l)
def KM:Nat->Gs->Option (List RosM)
 | _,[]=>some []
 | n+1,.r (.ver v)::.s (.ops q) es::.p (.it .i64 g)::.p (.it .i64 l)::r=>match Nat.beq es kops.es with
   | true=>(match KM n r with | some x=>some (⟨v,q,g,l⟩::x) | none=>none)
   | false=>none
 | _,_=>none
theorem SJ:∀{n:Nat} {gs:Gs} {l:List RosM},KM n gs=some l->gs=SK l:=by
 intro n
 induction n with
 | zero =>
   intro gs l h
   unfold KM at h
   split at h
   ·cases h;rfl
   ·rename_i e;cases e
   ·cases h
 | succ n ih =>
   intro gs l h
   unfold KM at h
   split at h
   ·cases h;rfl
   ·rename_i e
    cases e
    split at h
    ·rename_i e2
     have e2:=(ai _ _).1 e2
     subst e2
     split at h
     ·rename_i y hy
      cases h
      rw [ih hy];rfl
     ·cases h
    ·cases h
   ·cases h
def Bb:Gs->Option (List RosM×Gs)
 | .s (.oba d es ty gs) e::r=>match Nat.beq d 5,Nat.beq es 4,Nat.beq ty Sd,Nat.beq e 4,KM gs.length gs with
   | true,true,true,true,some l=>some (l,r)
   | _,_,_,_,_=>none
 | _=>none
theorem KX {gs r:Gs} {l:List RosM} (h:Bb gs=some (l,r)):gs=.s (SH l) 4::r:=by
 unfold Bb at h
 split at h
 ·split at h
  ·rename_i h1 h2 h3 h4 h5
   have h1:=(ai _ _).1 h1
   have h2:=(ai _ _).1 h2
   have h3:=(ai _ _).1 h3
   have h4:=(ai _ _).1 h4
   subst h1 h2 h3 h4
   cases h
   rw [SJ h5]
  ·cases h
 ·cases h
instance:Cdc Bb (fun l=>[.s (SH l) 4]):=⟨KX⟩
def ParM.wr (x:ParM):Gs:=[.p (.it .i64 x.sort)]++([.r (.plot x.plot)]++([.s (SH x.threads) 4]++([.s (.beats x.beats) kbeats.es])))
def ParM.rd (gs:Gs):Option (ParM×Gs):=(rdI gs).bind fun(x0,r0)=>(vo r0).bind fun(x1,r1)=>(Bb r1).bind fun(x2,r2)=>(rv r2).bind fun(x3,r3)=>some (⟨x0,x1,x2,x3⟩,r3)
theorem ParM.rd_s {gs r:Gs} {x:ParM} (h:ParM.rd gs=some (x,r)):gs=ParM.wr x++r:=by
 unfold ParM.rd at h
 repeat (have e:=Cdc.bnd h;clear h;obtain⟨_,_,rfl,h⟩:=e)
 cases h
 simp only [ParM.wr,List.append_assoc,List.singleton_append,List.cons_append,List.nil_append]
instance:Cdc ParM.rd ParM.wr:=⟨ParM.rd_s⟩
abbrev Sf:Nat:=970825
abbrev SW (m:ParM):AV:=.par m
def O9:AV->Option ParM
 | .par m=>some m
 | _=>none
theorem Ld {a:AV} {m:ParM} (h:O9 a=some m):a=SW m:=by
 unfold O9 at h;split at h<;>cases h;rfl
abbrev N7:=wrO SW
abbrev O0:=rdO O9
abbrev OV:=rdP O9
instance:Cdc O0 N7:=pW Ld
instance:Cdc OV (fun m=>[.r (SW m)]):=pV Ld
def AV.ob:AV->Option (Nat×TypeId×Gs)
 | .rite m=>some (1,cL,RiteM.wr m)
 | .pile m=>some (1,Cf,PileM.wr m)
 | .cort m=>some (1,Ch,CortM.wr m)
 | .walk m=>some (1,qW,WalkM.wr m)
 | .lit m=>some (2,D3,LitM.wr m)
 | .climb m=>some (1,hI,ClimbM.wr m)
 | .ste m=>some (2,nK,SteM.wr m)
 | .vau m=>some (3,Cd,VauM.wr m)
 | .ver m=>some (4,lW,VerM.wr m)
 | .par m=>some (6,Sf,ParM.wr m)
 | _=>none
def orR {α:Type} (c:Bool) (rd:Gs->Option (α×Gs)) (k:α->AV) (gs:Gs) (e:Option AV):Option AV:=match c with
 | true=>match rd gs with | some (m,[])=>some (k m) | _=>none
 | false=>e
theorem p4 {α:Type} {c:Bool} {rd:Gs->Option (α×Gs)} {w:α->Gs} [Cdc rd w] {k:α->AV} {gs:Gs} {e:Option AV} {a:AV} (h:orR c rd k gs e=some a):(∃m,c=true /\ gs=w m /\ a=k m) \/ e=some a:=by
 unfold orR at h
 split at h
 ·split at h
  ·rename_i hm;cases h;exact .inl ⟨_,rfl,by rw [Cdc.s hm,List.append_nil],rfl⟩
  ·cases h
 ·exact .inr h
def mkO (ty:TypeId) (gs:Gs):Option AV:=orR (Nat.beq ty cL) RiteM.rd .rite gs (orR (Nat.beq ty Cf) PileM.rd .pile gs (orR (Nat.beq ty Ch) CortM.rd .cort gs (orR (Nat.beq ty qW) WalkM.rd .walk gs (orR (Nat.beq ty D3) LitM.rd .lit gs (orR (Nat.beq ty hI) ClimbM.rd .climb gs (orR (Nat.beq ty nK) SteM.rd .ste gs (orR (Nat.beq ty Cd) VauM.rd .vau gs (orR (Nat.beq ty lW) VerM.rd .ver gs (orR (Nat.beq ty Sf) ParM.rd .par gs (none))))))))))
theorem S6 {ty:TypeId} {gs:Gs} {a:AV} (h:mkO ty gs=some a):∃d,a.ob=some (d,ty,gs):=by
 unfold mkO at h
 rcases p4 h with⟨m,e,rfl,rfl⟩ | h
 ·have e:=(ai _ _).1 e;subst e;exact⟨_,rfl⟩
 rcases p4 h with⟨m,e,rfl,rfl⟩ | h
 ·have e:=(ai _ _).1 e;subst e;exact⟨_,rfl⟩
 rcases p4 h with⟨m,e,rfl,rfl⟩ | h
 ·have e:=(ai _ _).1 e;subst e;exact⟨_,rfl⟩
 rcases p4 h with⟨m,e,rfl,rfl⟩ | h
 ·have e:=(ai _ _).1 e;subst e;exact⟨_,rfl⟩
 rcases p4 h with⟨m,e,rfl,rfl⟩ | h
 ·have e:=(ai _ _).1 e;subst e;exact⟨_,rfl⟩
 rcases p4 h with⟨m,e,rfl,rfl⟩ | h
 ·have e:=(ai _ _).1 e;subst e;exact⟨_,rfl⟩
 rcases p4 h with⟨m,e,rfl,rfl⟩ | h
 ·have e:=(ai _ _).1 e;subst e;exact⟨_,rfl⟩
 rcases p4 h with⟨m,e,rfl,rfl⟩ | h
 ·have e:=(ai _ _).1 e;subst e;exact⟨_,rfl⟩
 rcases p4 h with⟨m,e,rfl,rfl⟩ | h
 ·have e:=(ai _ _).1 e;subst e;exact⟨_,rfl⟩
 rcases p4 h with⟨m,e,rfl,rfl⟩ | h
 ·have e:=(ai _ _).1 e;subst e;exact⟨_,rfl⟩
 cases h
end Go.Proofs.YtadmfaohjnjajaaGreatDoor

namespace Go.Sx.Q
open Go Go.Sx
variable {AV:Type}
abbrev bind {α β:Type} (t:T α) (f:α->T β):T β:=t.bind f
theorem bind_eq {α β:Type} (t:T α) (f:α->T β):Q.bind t f=t.bind f:=rfl
abbrev clVs (H:Hp AV) (l:List SV):Bool:=Sx.clVs H l
theorem clVs_eq (H:Hp AV) (l:List SV):Q.clVs H l=Sx.clVs H l:=rfl
abbrev clHs (H l:Hp AV):Bool:=Sx.clHs H l
theorem clHs_eq (H l:Hp AV):Q.clHs H l=Sx.clHs H l:=rfl
noncomputable abbrev lv (N:Env AV) (tab:FuncId->Option (List SV->Hp AV->T (SV×Hp AV))) (n:Nat):Callee AV:=Sx.lv N tab n
theorem lv_eq (N:Env AV) (tab:FuncId->Option (List SV->Hp AV->T (SV×Hp AV))) (n:Nat):Q.lv N tab n=Sx.lv N tab n:=rfl
end Go.Sx.Q

namespace Go.Proofs.YtadmfaohjnjajaaGreatDoor
open Go Go.Sx Go.Proofs
def Ce:Nat:=120
def Ou:Nat:=195
def Rg:Nat:=193
def F8:Nat:=229
def BH:Option (Int×Nat)->Cell
 | none=>.inil
 | some _=>.ifc Rg (.ptr 4 0)
def qC (σ:Sg):Option (Int×Nat)->Hp AV
 | none=>[]
 | some (k,i)=>[some (.cells [.it .i64 k,.ifc F8 (.op i (σ i))] Ou)]
def ow (σ:Sg) (m:PlotM):Hp AV:=some (.cells [.vs 1 0 m.board.length 5 false,.vs 2 0 m.slots.length 52 false,.vs 3 0 m.free.length 1 false,.it .i64 m.steps,.it .i64 m.made,BH m.fault] Ce) ::
 some (.abs (.words m.board))::some (.abs (.slots m.slots))::some (.abs (.ints m.free))::qC σ m.fault
def AV.dep:AV->Nat
 | .plot _=>1
 | .obj d _ _=>d
 | .oba d _ _ _=>d
 | a=>match a.ob with | some (d,_,_)=>d | none=>0
def j5 (σ:Sg):AV->Option (Hp AV)
 | .plot m=>some (ow σ m)
 | .obj _ ty cs=>some (dw AV.len ty cs)
 | .oba _ es ty cs=>some (Pu AV.len es ty cs)
 | a=>match a.ob with | some (_,ty,gs)=>some (dw AV.len ty gs) | none=>none
def yh (d:Nat):List AV->Bool
 | []=>true
 | a::r=>match Nat.blt a.dep d with | true=>yh d r | false=>false
def AV.okD:AV->Bool
 | .obj d _ cs=>match Nat.blt 0 d,Nat.ble d 6,yh d (cd cs) with | true,true,true=>true | _,_,_=>false
 | .oba d _ _ cs=>match Nat.blt 0 d,Nat.ble d 6,yh d (cd cs) with | true,true,true=>true | _,_,_=>false
 | _=>true
theorem qH {d:Nat}:∀{l:List AV},yh d l=true->∀a∈l,a.dep < d
 | [],_,a,h=>by cases h
 | b::r,h,a,ha=>by
   simp only [yh] at h
   split at h
   ·rename_i hb
    rcases List.mem_cons.1 ha with rfl | ha
    ·exact(cO _ _).1 hb
    ·exact qH h a ha
   ·cases h
def kY (k:Nat) (σ:Sg) (a:AV):Option (Hp AV):=match Nat.beq a.dep k with
 | true=>j5 σ a
 | false=>none
theorem bh {k:Nat} {σ:Sg} {a:AV} (h:a.dep≠k):kY k σ a=none:=by
 unfold kY;rw [(aR _ _).2 h]
theorem layK_eq {k:Nat} {σ:Sg} {a:AV} (h:a.dep=k):kY k σ a=j5 σ a:=by
 unfold kY;rw [(ai _ _).2 h]
theorem gx {a:AV} {i e o:Nat} {cs:List Cell} {b:Bool} {a':AV} (h:a.upd i e o cs=some (b,a')):a.dep=0 /\ a'.dep=0:=by
 unfold AV.upd at h
 split at h
 all_goals first
  | (cases h;done)
  | (split at h
     ·simp only [Option.some.injEq,Prod.mk.injEq] at h
      have h:=h.2
      subst h
      exact⟨rfl,rfl⟩
     ·cases h)
  | (split at h
     ·simp only [Option.some.injEq,Prod.mk.injEq] at h
      have h:=h.2
      subst h
      exact⟨rfl,rfl⟩
     ·split at h
      ·simp only [Option.some.injEq,Prod.mk.injEq] at h
       have h:=h.2
       subst h
       exact⟨rfl,rfl⟩
      ·cases h)
theorem pD {a:AV} {x:Nat×TypeId×List Value} (h:a.arr=some x):a.dep=0:=by cases a<;>first | rfl | cases h
theorem oZ {a:AV} {i e:Nat} {x:Bool×List Cell} (h:a.row i e=some x):a.dep=0:=by cases a<;>first | rfl | cases h
theorem o6 {a:AV} {i e o n:Nat} {x:Bool×List Cell} (h:a.prt i e o n=some x):a.dep=0:=by cases a<;>first | rfl | cases h
theorem lS {σ:Sg} {a:AV} {cs:List Cell} (h:a.word σ=some cs):a.dep=0:=by cases a<;>first | rfl | cases h
theorem PB (σ:Sg):LayOk (avF σ) (kY 1 σ) where
 arr:=fun a x h=>bh (by rw [pD h];decide)
 row:=fun a i e x h=>bh (by rw [oZ h];decide)
 prt:=fun a i e o n x h=>bh (by rw [o6 h];decide)
 upd:=fun a i e o cs b a' h=>⟨bh (by rw [(gx h).1];decide),bh (by rw [(gx h).2];decide)⟩
 word:=fun a cs h=>bh (by rw [lS h];decide)
def F1 (σ:Sg):Intf AV:=(avF σ).obj (kY 1 σ) (PB σ)
theorem Pz (σ:Sg):LayOk (F1 σ) (kY 2 σ) where
 arr:=fun a x h=>bh (by rw [pD h];decide)
 row:=fun a i e x h=>bh (by rw [oZ h];decide)
 prt:=fun a i e o n x h=>bh (by rw [o6 h];decide)
 upd:=fun a i e o cs b a' h=>⟨bh (by rw [(gx h).1];decide),bh (by rw [(gx h).2];decide)⟩
 word:=fun a cs h=>bh (by rw [lS h];decide)
def F2 (σ:Sg):Intf AV:=(F1 σ).obj (kY 2 σ) (Pz σ)
theorem Py (σ:Sg):LayOk (F2 σ) (kY 3 σ) where
 arr:=fun a x h=>bh (by rw [pD h];decide)
 row:=fun a i e x h=>bh (by rw [oZ h];decide)
 prt:=fun a i e o n x h=>bh (by rw [o6 h];decide)
 upd:=fun a i e o cs b a' h=>⟨bh (by rw [(gx h).1];decide),bh (by rw [(gx h).2];decide)⟩
 word:=fun a cs h=>bh (by rw [lS h];decide)
def F3 (σ:Sg):Intf AV:=(F2 σ).obj (kY 3 σ) (Py σ)
theorem Px (σ:Sg):LayOk (F3 σ) (kY 4 σ) where
 arr:=fun a x h=>bh (by rw [pD h];decide)
 row:=fun a i e x h=>bh (by rw [oZ h];decide)
 prt:=fun a i e o n x h=>bh (by rw [o6 h];decide)
 upd:=fun a i e o cs b a' h=>⟨bh (by rw [(gx h).1];decide),bh (by rw [(gx h).2];decide)⟩
 word:=fun a cs h=>bh (by rw [lS h];decide)
def F4 (σ:Sg):Intf AV:=(F3 σ).obj (kY 4 σ) (Px σ)
theorem Pw (σ:Sg):LayOk (F4 σ) (kY 5 σ) where
 arr:=fun a x h=>bh (by rw [pD h];decide)
 row:=fun a i e x h=>bh (by rw [oZ h];decide)
 prt:=fun a i e o n x h=>bh (by rw [o6 h];decide)
 upd:=fun a i e o cs b a' h=>⟨bh (by rw [(gx h).1];decide),bh (by rw [(gx h).2];decide)⟩
 word:=fun a cs h=>bh (by rw [lS h];decide)
def F5 (σ:Sg):Intf AV:=(F4 σ).obj (kY 5 σ) (Pw σ)
theorem Pv (σ:Sg):LayOk (F5 σ) (kY 6 σ) where
 arr:=fun a x h=>bh (by rw [pD h];decide)
 row:=fun a i e x h=>bh (by rw [oZ h];decide)
 prt:=fun a i e o n x h=>bh (by rw [o6 h];decide)
 upd:=fun a i e o cs b a' h=>⟨bh (by rw [(gx h).1];decide),bh (by rw [(gx h).2];decide)⟩
 word:=fun a cs h=>bh (by rw [lS h];decide)
def F6 (σ:Sg):Intf AV:=(F5 σ).obj (kY 6 σ) (Pv σ)
section
variable {σ:Sg} {a:AV} (l:Sx.Loc) (S:Nat->Prop) (w:World)
theorem uY (h:a.dep≠6):(F6 σ).q a l S w↔(F5 σ).q a l S w:=cS (bh h) l S w
theorem yM (h:a.dep≠5):(F5 σ).q a l S w↔(F4 σ).q a l S w:=cS (bh h) l S w
theorem CD (h:a.dep≠4):(F4 σ).q a l S w↔(F3 σ).q a l S w:=cS (bh h) l S w
theorem H7 (h:a.dep≠3):(F3 σ).q a l S w↔(F2 σ).q a l S w:=cS (bh h) l S w
theorem O1 (h:a.dep≠2):(F2 σ).q a l S w↔(F1 σ).q a l S w:=cS (bh h) l S w
theorem V4 (h:a.dep≠1):(F1 σ).q a l S w↔AV.q σ a l S w:=cS (bh h) l S w
theorem XS (h:a.dep=0):(F6 σ).q a l S w↔AV.q σ a l S w:=(uY l S w (by omega)).trans ((yM l S w (by omega)).trans ((CD l S w (by omega)).trans ((H7 l S w (by omega)).trans ((O1 l S w (by omega)).trans (V4 l S w (by omega))))))
end
theorem EW {σ:Sg} {m:PlotM} {i:Nat} {a:AV} (h:ab (ow σ m) i=some (.abs a)):a.dep=0:=by
 match i,h with
 | 0,h=>simp [ow,ab] at h
 | 1,h=>simp only [ow,ab,Option.some.injEq,Chunk.abs.injEq] at h;subst h;rfl
 | 2,h=>simp only [ow,ab,Option.some.injEq,Chunk.abs.injEq] at h;subst h;rfl
 | 3,h=>simp only [ow,ab,Option.some.injEq,Chunk.abs.injEq] at h;subst h;rfl
 | i+4,h =>
   simp only [ow,ab] at h
   cases hf:m.fault with
   | none=>rw [hf] at h;cases i<;>simp [ab,qC] at h
   | some x=>rw [hf] at h;cases i with
     | zero=>simp [ab,qC] at h
     | succ i=>cases i<;>simp [ab,qC] at h
theorem fe {a:AV} {d:Nat} {ty:TypeId} {gs:Gs} (h:a.ob=some (d,ty,gs)):0 < d /\ d<=6 /\ yh d (cd gs)=true:=by
 cases a<;>first | (cases h;done) | skip
 all_goals cases h
 ·exact⟨by decide,by decide,rfl⟩
 ·exact⟨by decide,by decide,rfl⟩
 ·exact⟨by decide,by decide,rfl⟩
 ·exact⟨by decide,by decide,rfl⟩
 ·rename_i m
  refine⟨by decide,by decide,?_⟩
  obtain⟨_,_,_,_,_,w,_,_⟩:=m
  cases w<;>rfl
 ·exact⟨by decide,by decide,rfl⟩
 ·rename_i m
  refine⟨by decide,by decide,?_⟩
  obtain⟨_,_,_,w,_,_,_,_⟩:=m
  cases w<;>rfl
 ·rename_i m
  refine⟨by decide,by decide,?_⟩
  obtain⟨_,_,_,_,_,_,_,_,_,_,w,l,_,_⟩:=m
  cases w<;>cases l<;>rfl
 ·rename_i m
  refine⟨by decide,by decide,?_⟩
  obtain⟨_,_,_,_,_,_,j,_⟩:=m
  cases j with
  | none=>rfl
  | some j=>cases j<;>rfl
 ·exact⟨by decide,by decide,rfl⟩
theorem fH {d:Nat} {ty:TypeId} {gs:Gs} (hd:yh d (cd gs)=true) {i:Nat} {b:AV} (h:ab (dw AV.len ty gs) i=some (.abs b)):b.dep < d:=by
 cases i with
 | zero=>simp [dw,ab] at h
 | succ i =>
   obtain⟨c,hc,e⟩:=(bL _ _ _).1 (show ab (cr (cd gs)) i=some (.abs b) from h)
   cases e
   exact qH hd b (List.mem_of_getElem? hc)
theorem EV {σ:Sg} {a:AV} {K:Hp AV} (hK:j5 σ a=some K) (ho:a.okD=true) {i:Nat} {b:AV} (h:ab K i=some (.abs b)):b.dep < a.dep:=by
 cases a with
 | plot m =>
   cases hK
   rw [EW h];show 0 < 1;decide
 | obj d ty cs =>
   cases hK
   simp only [AV.okD] at ho
   split at ho
   ·rename_i h3
    exact fH h3 h
   ·cases ho
 | oba d es ty cs =>
   cases hK
   simp only [AV.okD] at ho
   split at ho
   ·rename_i h3
    cases i with
    | zero=>simp [Pu,ab] at h
    | succ i =>
      obtain⟨c,hc,e⟩:=(bL _ _ _).1 (show ab (cr (cd cs)) i=some (.abs b) from h)
      cases e
      exact qH h3 b (List.mem_of_getElem? hc)
   ·cases ho
 | rite m=>cases hK;exact fH (fe (a:=.rite m) rfl).2.2 h
 | pile m=>cases hK;exact fH (fe (a:=.pile m) rfl).2.2 h
 | cort m=>cases hK;exact fH (fe (a:=.cort m) rfl).2.2 h
 | walk m=>cases hK;exact fH (fe (a:=.walk m) rfl).2.2 h
 | lit m=>cases hK;exact fH (fe (a:=.lit m) rfl).2.2 h
 | climb m=>cases hK;exact fH (fe (a:=.climb m) rfl).2.2 h
 | ste m=>cases hK;exact fH (fe (a:=.ste m) rfl).2.2 h
 | vau m=>cases hK;exact fH (fe (a:=.vau m) rfl).2.2 h
 | ver m=>cases hK;exact fH (fe (a:=.ver m) rfl).2.2 h
 | par m=>cases hK;exact fH (fe (a:=.par m) rfl).2.2 h
 | _=>cases hK
theorem Me {σ:Sg} {a:AV} {K:Hp AV} (hK:j5 σ a=some K) (ho:a.okD=true):a.dep=1 \/ a.dep=2 \/ a.dep=3 \/ a.dep=4 \/ a.dep=5 \/ a.dep=6:=by
 have key:0 < a.dep /\ a.dep<=6:=by
  cases a with
  | plot m=>show 0 < 1 /\ 1<=6;decide
  | obj d ty cs =>
    simp only [AV.okD] at ho
    split at ho
    ·rename_i h1 h2 _
     exact⟨(cO _ _).1 h1,Nat.le_of_ble_eq_true h2⟩
    ·cases ho
  | oba d es ty cs =>
    simp only [AV.okD] at ho
    split at ho
    ·rename_i h1 h2 _
     exact⟨(cO _ _).1 h1,Nat.le_of_ble_eq_true h2⟩
    ·cases ho
  | rite m=>show 0 < 1 /\ 1<=6;decide
  | pile m=>show 0 < 1 /\ 1<=6;decide
  | cort m=>show 0 < 1 /\ 1<=6;decide
  | walk m=>show 0 < 1 /\ 1<=6;decide
  | lit m=>show 0 < 2 /\ 2<=6;decide
  | climb m=>show 0 < 1 /\ 1<=6;decide
  | ste m=>show 0 < 2 /\ 2<=6;decide
  | vau m=>show 0 < 3 /\ 3<=6;decide
  | ver m=>show 0 < 4 /\ 4<=6;decide
  | par m=>show 0 < 6 /\ 6<=6;decide
  | _=>cases hK
 omega
theorem nU {σ:Sg} {N:Env AV} (hF:N.F=F6 σ) {a:AV} {K:Hp AV} (hK:j5 σ a=some K) (ho:a.okD=true) (l:Sx.Loc) (S:Nat->Prop) (w:World):N.F.q a l S w↔iT N K l S w:=by
 have parts:=fun i b h=>EV (i:=i) (b:=b) hK ho h
 have go:∀(F:Intf AV),(∀b,b.dep < a.dep->∀l S w,F.q b l S w↔(F6 σ).q b l S w)->(iT (yV F) K l S w↔iT N K l S w):=fun F hb=>by
  constructor
  ·exact zt (N:=yV F) (N':=N) fun i b h l S w hq=>by rw [hF];exact(hb b (parts i b h) l S w).1 hq
  ·exact zt (N:=N) (N':=yV F) fun i b h l S w hq=>by rw [hF] at hq;exact(hb b (parts i b h) l S w).2 hq
 rw [hF]
 rcases Me hK ho with h1 | h2 | h3 | h4 | h5 | h6
 ·have e:(F1 σ).q a l S w↔iT (yV (avF σ)) K l S w:=by
   show n8 (avF σ) (kY 1 σ) a l S w↔_
   unfold n8
   rw [layK_eq h1,hK]
  exact((uY l S w (by omega)).trans ((yM l S w (by omega)).trans ((CD l S w (by omega)).trans ((H7 l S w (by omega)).trans (O1 l S w (by omega)))))).trans (e.trans (go _ fun b hb l S w=>((uY l S w (by omega)).trans ((yM l S w (by omega)).trans ((CD l S w (by omega)).trans ((H7 l S w (by omega)).trans ((O1 l S w (by omega)).trans (V4 l S w (by omega))))))).symm))
 ·have e:(F2 σ).q a l S w↔iT (yV (F1 σ)) K l S w:=by
   show n8 (F1 σ) (kY 2 σ) a l S w↔_
   unfold n8
   rw [layK_eq h2,hK]
  exact((uY l S w (by omega)).trans ((yM l S w (by omega)).trans ((CD l S w (by omega)).trans (H7 l S w (by omega))))).trans (e.trans (go _ fun b hb l S w=>((uY l S w (by omega)).trans ((yM l S w (by omega)).trans ((CD l S w (by omega)).trans ((H7 l S w (by omega)).trans (O1 l S w (by omega)))))).symm))
 ·have e:(F3 σ).q a l S w↔iT (yV (F2 σ)) K l S w:=by
   show n8 (F2 σ) (kY 3 σ) a l S w↔_
   unfold n8
   rw [layK_eq h3,hK]
  exact((uY l S w (by omega)).trans ((yM l S w (by omega)).trans (CD l S w (by omega)))).trans (e.trans (go _ fun b hb l S w=>((uY l S w (by omega)).trans ((yM l S w (by omega)).trans ((CD l S w (by omega)).trans (H7 l S w (by omega))))).symm))
 ·have e:(F4 σ).q a l S w↔iT (yV (F3 σ)) K l S w:=by
   show n8 (F3 σ) (kY 4 σ) a l S w↔_
   unfold n8
   rw [layK_eq h4,hK]
  exact((uY l S w (by omega)).trans (yM l S w (by omega))).trans (e.trans (go _ fun b hb l S w=>((uY l S w (by omega)).trans ((yM l S w (by omega)).trans (CD l S w (by omega)))).symm))
 ·have e:(F5 σ).q a l S w↔iT (yV (F4 σ)) K l S w:=by
   show n8 (F4 σ) (kY 5 σ) a l S w↔_
   unfold n8
   rw [layK_eq h5,hK]
  exact(uY l S w (by omega)).trans (e.trans (go _ fun b hb l S w=>((uY l S w (by omega)).trans (yM l S w (by omega))).symm))
 ·have e:(F6 σ).q a l S w↔iT (yV (F5 σ)) K l S w:=by
   show n8 (F5 σ) (kY 6 σ) a l S w↔_
   unfold n8
   rw [layK_eq h6,hK]
  exact(e.trans (go _ fun b hb l S w=>(uY l S w (by omega)).symm))
def exW:AV->Option (List W) | .words l=>some l | _=>none
def exS:AV->Option (List Sl) | .slots l=>some l | _=>none
def exI:AV->Option (List N1) | .ints l=>some l | _=>none
def tu:List Nat->Bool
 | []=>true
 | x::r=>match iU r x with | true=>false | false=>tu r
theorem jx:∀{l:List Nat},tu l=true->l.Nodup
 | [],_=>List.nodup_nil
 | x::r,h=>by
   simp only [tu] at h
   split at h
   ·cases h
   ·rename_i hx
    exact List.nodup_cons.2 ⟨(fun e=>by rw [(dB _ _).2 e] at hx;cases hx),jx h⟩
def GZ (σ:Sg) (H:Hp AV):Cell->Option (Option (Int×Nat)×Bool×Option Nat)
 | .inil=>some (none,true,none)
 | .ifc t (.ptr m 0)=>match ab H m with
   | some (.cells [c,.ifc t2 (.op i a)] ty)=>match iOf c,Nat.beq t Rg,Nat.beq t2 F8,Nat.beq ty Ou with
     | some k,true,true,true=>some (some (k,i),decide (a=σ i),some m)
     | _,_,_,_=>none
   | _=>none
 | _=>none
def RL (lb ls lf:Nat) (m:PlotM) (ok:Bool) (ns:List Nat):T (AV×List Nat) :=
 .need (decide (lb=m.board.length)) <| .need (decide (ls=m.slots.length)) <| .need (decide (lf=m.free.length)) <| .need ok <| .leaf (.plot m,ns)
def Ju (σ:Sg) (H:Hp AV) (n:Nat):T (AV×List Nat):=match ab H n with
 | some (.cells [c0,c1,c2,c3,c4,c5] ty)=>match Nat.beq ty Ce,AF kwords exW H c0,AF kslots exS H c1,AF kints exI H c2,iOf c3,iOf c4,GZ σ H c5 with
   | true,some (b,lb,nb),some (s,ls,ns),some (f,lf,nf),some st,some md,some (ft,ok,nk)=>match tu (n::di [nb,ns,nf,nk]) with
     | true=>RL lb ls lf ⟨b,s,f,st,md,ft⟩ ok (di [nb,ns,nf,nk])
     | false=>.fail "plot: names"
   | _,_,_,_,_,_,_=>.fail "plot: parts"
 | _=>.fail "plot"
variable {N:Env AV}
theorem nV {σ:Sg} (hF:N.F=F6 σ) {a:AV} (h:a.dep=0) (l:Sx.Loc) (S:Nat->Prop) (w:World):N.F.q a l S w↔AV.q σ a l S w:=by
 rw [hF];exact XS l S w h
theorem bp {c:Cell} {n:Int} (h:iOf c=some n) (ρ:Nm):c.den ρ=.int .i64 n:=by
 obtain⟨h1,h2⟩:=bs h
 rw [<- h1]
 exact den_congr c fun m hm=>by rw [h2] at hm;cases hm
theorem Jt {σ:Sg} (hF:N.F=F6 σ):yG N (Ju σ):=by
 intro H n a ns0 h ρ w hO
 unfold Ju at h
 split at h
 ·rename_i c0 c1 c2 c3 c4 c5 ty hH
  split at h
  ·rename_i b lb nb s ls ns f lf nf st md ft ok nk hty h0 h1 h2 h3 h4 h5
   split at h
   ·rename_i hnd
    have hnd:=jx hnd
    unfold RL at h
    obtain⟨e1,h⟩:=aj h
    obtain⟨e2,h⟩:=aj h
    obtain⟨e3,h⟩:=aj h
    obtain⟨e4,h⟩:=aj h
    simp only [T.val,Option.some.injEq,Prod.mk.injEq] at h
    obtain⟨rfl,rfl⟩:=h
    have hty:=(ai _ _).1 hty
    subst hty
    obtain⟨l1,S1,d1,q1,p1⟩:=sA (N:=N) (fun a l ha lc S w hq=>by cases a<;>first | (cases ha;done) | (cases ha;exact(nV hF rfl _ _ _).1 hq)) h0 (of_decide_eq_true e1) hO
    obtain⟨l2,S2,d2,q2,p2⟩:=sA (N:=N) (fun a l ha lc S w hq=>by cases a<;>first | (cases ha;done) | (cases ha;exact(nV hF rfl _ _ _).1 hq)) h1 (of_decide_eq_true e2) hO
    obtain⟨l3,S3,d3,q3,p3⟩:=sA (N:=N) (fun a l ha lc S w hq=>by cases a<;>first | (cases ha;done) | (cases ha;exact(nV hF rfl _ _ _).1 hq)) h2 (of_decide_eq_true e3) hO
    have hn0:=hO.q n _ hH
    have hk:∃l4:Sx.Loc,∃S4:Nat->Prop,c5.den ρ=(BH ft).den ⟨fun _=>l4,fun _ _=>False⟩ /\ (∀k i,ft=some (k,i)->w.heap[l4.b]?=some (.cells (ah ρ [.it .i64 k,.ifc F8 (.op i (σ i))]).toArray Ou (0,0)) /\ ∃m d,nk=some m /\ ab H m=some d /\ (∀k,k=l4.b↔d.fp ρ m k)) /\ (ft=none->nk=none):=by
     unfold GZ at h5
     split at h5
     ·cases h5
      exact⟨⟨0,0,0⟩,fun _=>False,rfl,fun k i e=>(by cases e),fun _=>rfl⟩
     ·rename_i t m
      split at h5
      ·rename_i c t2 i ad ty2 hm
       split at h5
       ·rename_i k hk1 ht1 ht2 ht3
        have ht1:=(ai _ _).1 ht1
        have ht2:=(ai _ _).1 ht2
        have ht3:=(ai _ _).1 ht3
        subst ht1 ht2 ht3
        simp only [Option.some.injEq,Prod.mk.injEq] at h5
        obtain⟨rfl,rfl,rfl⟩:=h5
        have ead:=of_decide_eq_true e4
        subst ead
        have hm0:=hO.q m _ hm
        refine⟨ρ.L m,fun k=>k=(ρ.L m).b,rfl,fun k' i' e=>?_,fun e=>by cases e⟩
        cases e
        refine⟨?_,m,_,rfl,hm,fun k=>Iff.rfl⟩
        have hm0:w.heap[ρ m]?=some (.cells (ah ρ [c,.ifc F8 (.op i (σ i))]).toArray Ou (0,0)):=hm0
        rw [hm0]
        simp only [ah,List.map_cons,List.map_nil,bp hk1 ρ]
        rfl
       ·cases h5
      ·cases h5
     ·cases h5
    obtain⟨l4,S4,d4,f1,f2⟩:=hk
    have hq:iT N (ow σ ⟨b,s,f,st,md,ft⟩) (ρ.L n) (eN ρ H n (di [nb,ns,nf,nk])) w:=by
     let ρ0:Nm:=⟨fun i=>match i with | 0=>ρ.L n | 1=>l1 | 2=>l2 | 3=>l3 | _=>l4,fun i=>match i with | 1=>S1 | 2=>S2 | 3=>S3 | _=>fun _=>False⟩
     have hfc:(BH ft).den ρ0=c5.den ρ:=by
      rw [d4]
      cases ft with
      | none=>rfl
      | some x=>rfl
     refine tg hO ρ0 hnd (fun i m hi=>?_) (fun i c hc=>?_)
     ·match i,hi with
      | 0,_=>exact⟨_,rfl⟩
      | 1,_=>exact⟨_,rfl⟩
      | 2,_=>exact⟨_,rfl⟩
      | 3,_=>exact⟨_,rfl⟩
      | 4,hi =>
        have hi:nk=some m:=by simpa using hi
        cases ft with
        | none=>rw [f2 rfl] at hi;cases hi
        | some x=>exact⟨_,rfl⟩
      | i+5,hi=>simp at hi
     ·match i,hc with
      | 0,hc =>
        simp only [ow,ab,Option.some.injEq] at hc
        subst hc
        refine⟨?_,some n,rfl,_,hH,fun k=>Iff.rfl⟩
        have hn0:w.heap[ρ n]?=some (.cells (ah ρ [c0,c1,c2,c3,c4,c5]).toArray Ce (0,0)):=hn0
        show w.heap[ρ n]?=some (.cells (ah ρ0 [.vs 1 0 b.length 5 false,.vs 2 0 s.length 52 false,.vs 3 0 f.length 1 false,.it .i64 st,.it .i64 md,BH ft]).toArray Ce (0,0))
        rw [hn0]
        simp only [ah,List.map_cons,List.map_nil,bp h3 ρ,bp h4 ρ,hfc,d1,d2,d3]
        rfl
      | 1,hc =>
        simp only [ow,ab,Option.some.injEq] at hc
        subst hc
        exact⟨(nV hF rfl _ _ _).2 q1,nb,rfl,p1⟩
      | 2,hc =>
        simp only [ow,ab,Option.some.injEq] at hc
        subst hc
        exact⟨(nV hF rfl _ _ _).2 q2,ns,rfl,p2⟩
      | 3,hc =>
        simp only [ow,ab,Option.some.injEq] at hc
        subst hc
        exact⟨(nV hF rfl _ _ _).2 q3,nf,rfl,p3⟩
      | i+4,hc =>
        cases ft with
        | none=>cases i<;>simp [ow,ab,qC] at hc
        | some x =>
          obtain⟨k,j⟩:=x
          obtain⟨g1,m,d,g2,g3,g4⟩:=f1 k j rfl
          cases i with
          | succ i=>cases i<;>simp [ow,ab,qC] at hc
          | zero =>
            simp only [ow,ab,qC,Option.some.injEq] at hc
            subst hc
            exact⟨g1,some m,by rw [<- g2];rfl,d,g3,g4⟩
    exact(nU hF (a:=.plot ⟨b,s,f,st,md,ft⟩) rfl rfl (ρ.L n) (eN ρ H n (di [nb,ns,nf,nk])) w).2 hq
   ·simp [T.val] at h
  ·simp [T.val] at h
 ·simp [T.val] at h
end Go.Proofs.YtadmfaohjnjajaaGreatDoor
