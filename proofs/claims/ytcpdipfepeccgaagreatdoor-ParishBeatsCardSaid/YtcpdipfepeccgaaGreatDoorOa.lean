import Derived.Test.YtcpdipfepeccgaaGreatDoorMd
set_option linter.unusedVariables false
set_option linter.unusedSimpArgs false
set_option maxHeartbeats 4000000
namespace Go.Proofs.YtcpdipfepeccgaaGreatDoor
open Go Go.Sx Go.Proofs
abbrev Gs:=List (GC AV)
def rdI:Gs->Option (Int×Gs)
 | .p (.it .i64 n)::r=>some (n,r)
 | _=>none
theorem Rt {gs r:Gs} {n:Int} (h:rdI gs=some (n,r)):gs=.p (.it .i64 n)::r:=by
 unfold rdI at h;split at h<;>cases h;rfl
def rdB:Gs->Option (Bool×Gs)
 | .p (.bt b)::r=>some (b,r)
 | _=>none
theorem Ru {gs r:Gs} {b:Bool} (h:rdB gs=some (b,r)):gs=.p (.bt b)::r:=by
 unfold rdB at h;split at h<;>cases h;rfl
class Cdc {α:Type} (f:Gs->Option (α×Gs)) (w:outParam (α->Gs)):Prop where
 s:∀{gs r:Gs} {x:α},f gs=some (x,r)->gs=w x++r
theorem Cdc.bnd {α β:Type} {f:Gs->Option (α×Gs)} {w:α->Gs} [Cdc f w] {gs:Gs} {k:α×Gs->Option β} {y:β} (h:(f gs).bind k=some y):∃x r,gs=w x++r /\ k (x,r)=some y:=by
 obtain⟨⟨x,r⟩,h0,h⟩:=Option.bind_eq_some_iff.1 h
 exact⟨x,r,Cdc.s h0,h⟩
def wrO {α:Type} (V:α->AV):Option α->Gs
 | none=>[.p .pnil]
 | some m=>[.r (V m)]
def rdO {α:Type} (X:AV->Option α):Gs->Option (Option α×Gs)
 | .p .pnil::r=>some (none,r)
 | .r a::r=>match X a with | some m=>some (some m,r) | none=>none
 | _=>none
def rdP {α:Type} (X:AV->Option α):Gs->Option (α×Gs)
 | .r a::r=>match X a with | some m=>some (m,r) | none=>none
 | _=>none
theorem m7 {α:Type} {X:AV->Option α} {V:α->AV} (hX:∀{a m},X a=some m->a=V m):Cdc (rdO X) (wrO V):=⟨fun {gs r x} h=>by
 unfold rdO at h
 split at h
 ·cases h;rfl
 ·split at h
  ·rename_i hm;cases h;rw [hX hm];rfl
  ·cases h
 ·cases h⟩
theorem m6 {α:Type} {X:AV->Option α} {V:α->AV} (hX:∀{a m},X a=some m->a=V m):Cdc (rdP X) (fun m=>[.r (V m)]):=⟨fun {gs r x} h=>by
 unfold rdP at h
 split at h
 ·split at h
  ·rename_i hm;cases h;rw [hX hm];rfl
  ·cases h
 ·cases h⟩
instance:Cdc rdI (fun n=>[.p (.it .i64 n)]):=⟨Rt⟩
instance:Cdc rdB (fun n=>[.p (.bt n)]):=⟨Ru⟩
def oQ:Gs->Option (List W×Gs)
 | .s (.words l) es::r=>match Nat.beq es kwords.es with | true=>some (l,r) | false=>none
 | _=>none
theorem BO {gs r:Gs} {l:List W} (h:oQ gs=some (l,r)):gs=.s (.words l) kwords.es::r:=by
 unfold oQ at h
 split at h
 ·split at h
  ·rename_i e;have e:=(af _ _).1 e;subst e;cases h;rfl
  ·cases h
 ·cases h
instance:Cdc oQ (fun l=>[.s (.words l) kwords.es]):=⟨BO⟩
def lz:Gs->Option (List Nt×Gs)
 | .s (.notes l) es::r=>match Nat.beq es knotes.es with | true=>some (l,r) | false=>none
 | _=>none
theorem BQ {gs r:Gs} {l:List Nt} (h:lz gs=some (l,r)):gs=.s (.notes l) knotes.es::r:=by
 unfold lz at h
 split at h
 ·split at h
  ·rename_i e;have e:=(af _ _).1 e;subst e;cases h;rfl
  ·cases h
 ·cases h
instance:Cdc lz (fun l=>[.s (.notes l) knotes.es]):=⟨BQ⟩
def BP:Gs->Option (List O×Gs)
 | .s (.ops l) es::r=>match Nat.beq es kops.es with | true=>some (l,r) | false=>none
 | _=>none
theorem Hu {gs r:Gs} {l:List O} (h:BP gs=some (l,r)):gs=.s (.ops l) kops.es::r:=by
 unfold BP at h
 split at h
 ·split at h
  ·rename_i e;have e:=(af _ _).1 e;subst e;cases h;rfl
  ·cases h
 ·cases h
instance:Cdc BP (fun l=>[.s (.ops l) kops.es]):=⟨Hu⟩
def oR:Gs->Option (List Bt×Gs)
 | .s (.beats l) es::r=>match Nat.beq es kbeats.es with | true=>some (l,r) | false=>none
 | _=>none
theorem BR {gs r:Gs} {l:List Bt} (h:oR gs=some (l,r)):gs=.s (.beats l) kbeats.es::r:=by
 unfold oR at h
 split at h
 ·split at h
  ·rename_i e;have e:=(af _ _).1 e;subst e;cases h;rfl
  ·cases h
 ·cases h
instance:Cdc oR (fun l=>[.s (.beats l) kbeats.es]):=⟨BR⟩
def W.wr (x:W):Gs:=[.p (.it .i64 x.slot)]++([.p (.it .i64 x.gen)]++([.p (.it .i64 x.tag)]++([.p (.it .i64 x.num)]++([.p (.bt x.mark)]))))
def W.rd (gs:Gs):Option (W×Gs):=(rdI gs).bind fun(x0,r0)=>(rdI r0).bind fun(x1,r1)=>(rdI r1).bind fun(x2,r2)=>(rdI r2).bind fun(x3,r3)=>(rdB r3).bind fun(x4,r4)=>some (⟨x0,x1,x2,x3,x4⟩,r4)
theorem W.rd_s {gs r:Gs} {x:W} (h:W.rd gs=some (x,r)):gs=W.wr x++r:=by
 unfold W.rd at h
 repeat (have e:=Cdc.bnd h;clear h;obtain⟨_,_,rfl,h⟩:=e)
 cases h
 simp only [W.wr,List.append_assoc,List.singleton_append,List.cons_append,List.nil_append]
instance:Cdc W.rd W.wr:=⟨W.rd_s⟩
def O.wr (x:O):Gs:=[.p (.it .i64 x.kind)]++([.p (.it .i64 x.key)]++([.p (.it .i64 x.val)]++([.p (.it .i64 x.tall)])))
def O.rd (gs:Gs):Option (O×Gs):=(rdI gs).bind fun(x0,r0)=>(rdI r0).bind fun(x1,r1)=>(rdI r1).bind fun(x2,r2)=>(rdI r2).bind fun(x3,r3)=>some (⟨x0,x1,x2,x3⟩,r3)
theorem O.rd_s {gs r:Gs} {x:O} (h:O.rd gs=some (x,r)):gs=O.wr x++r:=by
 unfold O.rd at h
 repeat (have e:=Cdc.bnd h;clear h;obtain⟨_,_,rfl,h⟩:=e)
 cases h
 simp only [O.wr,List.append_assoc,List.singleton_append,List.cons_append,List.nil_append]
instance:Cdc O.rd O.wr:=⟨O.rd_s⟩
def Sp.wr (x:Sp):Gs:=[.p (.bt x.is)]++([.p (.it .i64 x.low)]++([.p (.it .i64 x.high)]))
def Sp.rd (gs:Gs):Option (Sp×Gs):=(rdB gs).bind fun(x0,r0)=>(rdI r0).bind fun(x1,r1)=>(rdI r1).bind fun(x2,r2)=>some (⟨x0,x1,x2⟩,r2)
theorem Sp.rd_s {gs r:Gs} {x:Sp} (h:Sp.rd gs=some (x,r)):gs=Sp.wr x++r:=by
 unfold Sp.rd at h
 repeat (have e:=Cdc.bnd h;clear h;obtain⟨_,_,rfl,h⟩:=e)
 cases h
 simp only [Sp.wr,List.append_assoc,List.singleton_append,List.cons_append,List.nil_append]
instance:Cdc Sp.rd Sp.wr:=⟨Sp.rd_s⟩
def Ad.wr (x:Ad):Gs:=[.p (.it .i64 x.s)]++([.p (.it .i64 x.g)]++([.p (.it .i64 x.f)]))
def Ad.rd (gs:Gs):Option (Ad×Gs):=(rdI gs).bind fun(x0,r0)=>(rdI r0).bind fun(x1,r1)=>(rdI r1).bind fun(x2,r2)=>some (⟨x0,x1,x2⟩,r2)
theorem Ad.rd_s {gs r:Gs} {x:Ad} (h:Ad.rd gs=some (x,r)):gs=Ad.wr x++r:=by
 unfold Ad.rd at h
 repeat (have e:=Cdc.bnd h;clear h;obtain⟨_,_,rfl,h⟩:=e)
 cases h
 simp only [Ad.wr,List.append_assoc,List.singleton_append,List.cons_append,List.nil_append]
instance:Cdc Ad.rd Ad.wr:=⟨Ad.rd_s⟩
def An.wr (x:An):Gs:=[.p (.it .i64 x.code)]++([.p (.it .i64 x.val)])
def An.rd (gs:Gs):Option (An×Gs):=(rdI gs).bind fun(x0,r0)=>(rdI r0).bind fun(x1,r1)=>some (⟨x0,x1⟩,r1)
theorem An.rd_s {gs r:Gs} {x:An} (h:An.rd gs=some (x,r)):gs=An.wr x++r:=by
 unfold An.rd at h
 repeat (have e:=Cdc.bnd h;clear h;obtain⟨_,_,rfl,h⟩:=e)
 cases h
 simp only [An.wr,List.append_assoc,List.singleton_append,List.cons_append,List.nil_append]
instance:Cdc An.rd An.wr:=⟨An.rd_s⟩
def Acc.wr (x:Acc):Gs:=[.p (.it .i64 x.kind)]++([.p (.it .i64 x.s)]++([.p (.it .i64 x.g)]++([.p (.it .i64 x.f)]++(W.wr x.old++(W.wr x.new)))))
def Acc.rd (gs:Gs):Option (Acc×Gs):=(rdI gs).bind fun(x0,r0)=>(rdI r0).bind fun(x1,r1)=>(rdI r1).bind fun(x2,r2)=>(rdI r2).bind fun(x3,r3)=>(W.rd r3).bind fun(x4,r4)=>(W.rd r4).bind fun(x5,r5)=>some (⟨x0,x1,x2,x3,x4,x5⟩,r5)
theorem Acc.rd_s {gs r:Gs} {x:Acc} (h:Acc.rd gs=some (x,r)):gs=Acc.wr x++r:=by
 unfold Acc.rd at h
 repeat (have e:=Cdc.bnd h;clear h;obtain⟨_,_,rfl,h⟩:=e)
 cases h
 simp only [Acc.wr,List.append_assoc,List.singleton_append,List.cons_append,List.nil_append]
instance:Cdc Acc.rd Acc.wr:=⟨Acc.rd_s⟩
def Rp1.wr (x:Rp1):Gs:=W.wr x.w++([.p (.bt x.ok)])
def Rp1.rd (gs:Gs):Option (Rp1×Gs):=(W.rd gs).bind fun(x0,r0)=>(rdB r0).bind fun(x1,r1)=>some (⟨x0,x1⟩,r1)
theorem Rp1.rd_s {gs r:Gs} {x:Rp1} (h:Rp1.rd gs=some (x,r)):gs=Rp1.wr x++r:=by
 unfold Rp1.rd at h
 repeat (have e:=Cdc.bnd h;clear h;obtain⟨_,_,rfl,h⟩:=e)
 cases h
 simp only [Rp1.wr,List.append_assoc,List.singleton_append,List.cons_append,List.nil_append]
instance:Cdc Rp1.rd Rp1.wr:=⟨Rp1.rd_s⟩
def Cl.wr (x:Cl):Gs:=[.p (.it .i64 x.kind)]++(Ad.wr x.adr++(W.wr x.old++(W.wr x.new++([.p (.it .i64 x.i)]++([.p (.it .i64 x.j)]++(An.wr x.ans))))))
def Cl.rd (gs:Gs):Option (Cl×Gs):=(rdI gs).bind fun(x0,r0)=>(Ad.rd r0).bind fun(x1,r1)=>(W.rd r1).bind fun(x2,r2)=>(W.rd r2).bind fun(x3,r3)=>(rdI r3).bind fun(x4,r4)=>(rdI r4).bind fun(x5,r5)=>(An.rd r5).bind fun(x6,r6)=>some (⟨x0,x1,x2,x3,x4,x5,x6⟩,r6)
theorem Cl.rd_s {gs r:Gs} {x:Cl} (h:Cl.rd gs=some (x,r)):gs=Cl.wr x++r:=by
 unfold Cl.rd at h
 repeat (have e:=Cdc.bnd h;clear h;obtain⟨_,_,rfl,h⟩:=e)
 cases h
 simp only [Cl.wr,List.append_assoc,List.singleton_append,List.cons_append,List.nil_append]
instance:Cdc Cl.rd Cl.wr:=⟨Cl.rd_s⟩
def H9.wr (x:H9):Gs:=W.wr x.h0++(W.wr x.h1++(W.wr x.h2++(W.wr x.h3++(W.wr x.h4++(W.wr x.h5++(W.wr x.h6++(W.wr x.h7++(W.wr x.h8))))))))
def H9.rd (gs:Gs):Option (H9×Gs):=(W.rd gs).bind fun(x0,r0)=>(W.rd r0).bind fun(x1,r1)=>(W.rd r1).bind fun(x2,r2)=>(W.rd r2).bind fun(x3,r3)=>(W.rd r3).bind fun(x4,r4)=>(W.rd r4).bind fun(x5,r5)=>(W.rd r5).bind fun(x6,r6)=>(W.rd r6).bind fun(x7,r7)=>(W.rd r7).bind fun(x8,r8)=>some (⟨x0,x1,x2,x3,x4,x5,x6,x7,x8⟩,r8)
theorem H9.rd_s {gs r:Gs} {x:H9} (h:H9.rd gs=some (x,r)):gs=H9.wr x++r:=by
 unfold H9.rd at h
 repeat (have e:=Cdc.bnd h;clear h;obtain⟨_,_,rfl,h⟩:=e)
 cases h
 simp only [H9.wr,List.append_assoc,List.singleton_append,List.cons_append,List.nil_append]
instance:Cdc H9.rd H9.wr:=⟨H9.rd_s⟩
def S3.wr (x:S3):Gs:=Ad.wr x.p0++(W.wr x.c0++(Ad.wr x.p1++(W.wr x.c1++(Ad.wr x.p2++(W.wr x.c2)))))
def S3.rd (gs:Gs):Option (S3×Gs):=(Ad.rd gs).bind fun(x0,r0)=>(W.rd r0).bind fun(x1,r1)=>(Ad.rd r1).bind fun(x2,r2)=>(W.rd r2).bind fun(x3,r3)=>(Ad.rd r3).bind fun(x4,r4)=>(W.rd r4).bind fun(x5,r5)=>some (⟨x0,x1,x2,x3,x4,x5⟩,r5)
theorem S3.rd_s {gs r:Gs} {x:S3} (h:S3.rd gs=some (x,r)):gs=S3.wr x++r:=by
 unfold S3.rd at h
 repeat (have e:=Cdc.bnd h;clear h;obtain⟨_,_,rfl,h⟩:=e)
 cases h
 simp only [S3.wr,List.append_assoc,List.singleton_append,List.cons_append,List.nil_append]
instance:Cdc S3.rd S3.wr:=⟨S3.rd_s⟩
def RiteM.wr (x:RiteM):Gs:=Cl.wr x.call++([.p (.it .i64 x.step)]++(Acc.wr x.acc++(W.wr x.word++(W.wr x.clock++([.p (.it .i64 x.index)]++([.s (.words x.seen) kwords.es]++([.s (.notes x.doomed) knotes.es]++([.p (.it .i64 x.engine)]++([.p (.it .i64 x.me)]++([.p (.it .i64 x.threads)]++([.p (.it .i64 x.most)]++(H9.wr x.holds++(Sp.wr x.span++([.s (.notes x.notes) knotes.es]++([.p (.it .i64 x.freed)]++(Rp1.wr x.reply))))))))))))))))
def RiteM.rd (gs:Gs):Option (RiteM×Gs):=(Cl.rd gs).bind fun(x0,r0)=>(rdI r0).bind fun(x1,r1)=>(Acc.rd r1).bind fun(x2,r2)=>(W.rd r2).bind fun(x3,r3)=>(W.rd r3).bind fun(x4,r4)=>(rdI r4).bind fun(x5,r5)=>(oQ r5).bind fun(x6,r6)=>(lz r6).bind fun(x7,r7)=>(rdI r7).bind fun(x8,r8)=>(rdI r8).bind fun(x9,r9)=>(rdI r9).bind fun(x10,r10)=>(rdI r10).bind fun(x11,r11)=>(H9.rd r11).bind fun(x12,r12)=>(Sp.rd r12).bind fun(x13,r13)=>(lz r13).bind fun(x14,r14)=>(rdI r14).bind fun(x15,r15)=>(Rp1.rd r15).bind fun(x16,r16)=>some (⟨x0,x1,x2,x3,x4,x5,x6,x7,x8,x9,x10,x11,x12,x13,x14,x15,x16⟩,r16)
theorem RiteM.rd_s {gs r:Gs} {x:RiteM} (h:RiteM.rd gs=some (x,r)):gs=RiteM.wr x++r:=by
 unfold RiteM.rd at h
 repeat (have e:=Cdc.bnd h;clear h;obtain⟨_,_,rfl,h⟩:=e)
 cases h
 simp only [RiteM.wr,List.append_assoc,List.singleton_append,List.cons_append,List.nil_append]
instance:Cdc RiteM.rd RiteM.wr:=⟨RiteM.rd_s⟩
abbrev b8:Nat:=186
abbrev dw (m:RiteM):AV:=.rite m
def vO:AV->Option RiteM
 | .rite m=>some m
 | _=>none
theorem rM {a:AV} {m:RiteM} (h:vO a=some m):a=dw m:=by
 unfold vO at h;split at h<;>cases h;rfl
abbrev FN:=wrO dw
abbrev HD:=rdO vO
abbrev zu:=rdP vO
instance:Cdc HD FN:=m7 rM
instance:Cdc zu (fun m=>[.r (dw m)]):=m6 rM
def PileM.wr (x:PileM):Gs:=[.p (.it .i64 x.pc)]++(Cl.wr x.last++(O.wr x.op++(W.wr x.node++(W.wr x.top++([.p (.it .i64 x.val)])))))
def PileM.rd (gs:Gs):Option (PileM×Gs):=(rdI gs).bind fun(x0,r0)=>(Cl.rd r0).bind fun(x1,r1)=>(O.rd r1).bind fun(x2,r2)=>(W.rd r2).bind fun(x3,r3)=>(W.rd r3).bind fun(x4,r4)=>(rdI r4).bind fun(x5,r5)=>some (⟨x0,x1,x2,x3,x4,x5⟩,r5)
theorem PileM.rd_s {gs r:Gs} {x:PileM} (h:PileM.rd gs=some (x,r)):gs=PileM.wr x++r:=by
 unfold PileM.rd at h
 repeat (have e:=Cdc.bnd h;clear h;obtain⟨_,_,rfl,h⟩:=e)
 cases h
 simp only [PileM.wr,List.append_assoc,List.singleton_append,List.cons_append,List.nil_append]
instance:Cdc PileM.rd PileM.wr:=⟨PileM.rd_s⟩
abbrev y9:Nat:=159
abbrev vX (m:PileM):AV:=.pile m
def vU:AV->Option PileM
 | .pile m=>some m
 | _=>none
theorem rQ {a:AV} {m:PileM} (h:vU a=some m):a=vX m:=by
 unfold vU at h;split at h<;>cases h;rfl
abbrev FO:=wrO vX
abbrev HE:=rdO vU
abbrev Hw:=rdP vU
instance:Cdc HE FO:=m7 rQ
instance:Cdc Hw (fun m=>[.r (vX m)]):=m6 rQ
def CortM.wr (x:CortM):Gs:=[.p (.it .i64 x.pc)]++(Cl.wr x.last++(O.wr x.op++(W.wr x.node++(W.wr x.h++(W.wr x.t++(W.wr x.n++([.p (.it .i64 x.val)])))))))
def CortM.rd (gs:Gs):Option (CortM×Gs):=(rdI gs).bind fun(x0,r0)=>(Cl.rd r0).bind fun(x1,r1)=>(O.rd r1).bind fun(x2,r2)=>(W.rd r2).bind fun(x3,r3)=>(W.rd r3).bind fun(x4,r4)=>(W.rd r4).bind fun(x5,r5)=>(W.rd r5).bind fun(x6,r6)=>(rdI r6).bind fun(x7,r7)=>some (⟨x0,x1,x2,x3,x4,x5,x6,x7⟩,r7)
theorem CortM.rd_s {gs r:Gs} {x:CortM} (h:CortM.rd gs=some (x,r)):gs=CortM.wr x++r:=by
 unfold CortM.rd at h
 repeat (have e:=Cdc.bnd h;clear h;obtain⟨_,_,rfl,h⟩:=e)
 cases h
 simp only [CortM.wr,List.append_assoc,List.singleton_append,List.cons_append,List.nil_append]
instance:Cdc CortM.rd CortM.wr:=⟨CortM.rd_s⟩
abbrev zb:Nat:=163
abbrev xj (m:CortM):AV:=.cort m
def xi:AV->Option CortM
 | .cort m=>some m
 | _=>none
theorem rX {a:AV} {m:CortM} (h:xi a=some m):a=xj m:=by
 unfold xi at h;split at h<;>cases h;rfl
abbrev FP:=wrO xj
abbrev HF:=rdO xi
abbrev Hy:=rdP xi
instance:Cdc HF FP:=m7 rX
instance:Cdc Hy (fun m=>[.r (xj m)]):=m6 rX
def WalkM.wr (x:WalkM):Gs:=[.p (.it .i64 x.pc)]++(Cl.wr x.last++(Ad.wr x.start++([.p (.it .i64 x.key)]++(Ad.wr x.prev++(W.wr x.cur++(W.wr x.next++([.p (.it .i64 x.k)]++([.p (.bt x.found)]))))))))
def WalkM.rd (gs:Gs):Option (WalkM×Gs):=(rdI gs).bind fun(x0,r0)=>(Cl.rd r0).bind fun(x1,r1)=>(Ad.rd r1).bind fun(x2,r2)=>(rdI r2).bind fun(x3,r3)=>(Ad.rd r3).bind fun(x4,r4)=>(W.rd r4).bind fun(x5,r5)=>(W.rd r5).bind fun(x6,r6)=>(rdI r6).bind fun(x7,r7)=>(rdB r7).bind fun(x8,r8)=>some (⟨x0,x1,x2,x3,x4,x5,x6,x7,x8⟩,r8)
theorem WalkM.rd_s {gs r:Gs} {x:WalkM} (h:WalkM.rd gs=some (x,r)):gs=WalkM.wr x++r:=by
 unfold WalkM.rd at h
 repeat (have e:=Cdc.bnd h;clear h;obtain⟨_,_,rfl,h⟩:=e)
 cases h
 simp only [WalkM.wr,List.append_assoc,List.singleton_append,List.cons_append,List.nil_append]
instance:Cdc WalkM.rd WalkM.wr:=⟨WalkM.rd_s⟩
abbrev oE:Nat:=291
abbrev sc (m:WalkM):AV:=.walk m
def yQ:AV->Option WalkM
 | .walk m=>some m
 | _=>none
theorem xA {a:AV} {m:WalkM} (h:yQ a=some m):a=sc m:=by
 unfold yQ at h;split at h<;>cases h;rfl
abbrev sb:=wrO sc
abbrev sV:=rdO yQ
abbrev Hv:=rdP yQ
instance:Cdc sV sb:=m7 xA
instance:Cdc Hv (fun m=>[.r (sc m)]):=m6 xA
def LitM.wr (x:LitM):Gs:=[.p (.it .i64 x.pc)]++(Cl.wr x.last++(Ad.wr x.start++([.p (.it .i64 x.key)]++(O.wr x.op++(sb x.walk++(W.wr x.node++([.p (.it .i64 x.val)])))))))
def LitM.rd (gs:Gs):Option (LitM×Gs):=(rdI gs).bind fun(x0,r0)=>(Cl.rd r0).bind fun(x1,r1)=>(Ad.rd r1).bind fun(x2,r2)=>(rdI r2).bind fun(x3,r3)=>(O.rd r3).bind fun(x4,r4)=>(sV r4).bind fun(x5,r5)=>(W.rd r5).bind fun(x6,r6)=>(rdI r6).bind fun(x7,r7)=>some (⟨x0,x1,x2,x3,x4,x5,x6,x7⟩,r7)
theorem LitM.rd_s {gs r:Gs} {x:LitM} (h:LitM.rd gs=some (x,r)):gs=LitM.wr x++r:=by
 unfold LitM.rd at h
 repeat (have e:=Cdc.bnd h;clear h;obtain⟨_,_,rfl,h⟩:=e)
 cases h
 simp only [LitM.wr,List.append_assoc,List.singleton_append,List.cons_append,List.nil_append]
instance:Cdc LitM.rd LitM.wr:=⟨LitM.rd_s⟩
abbrev Bm:Nat:=221
abbrev Ca (m:LitM):AV:=.lit m
def E3:AV->Option LitM
 | .lit m=>some m
 | _=>none
theorem yn {a:AV} {m:LitM} (h:E3 a=some m):a=Ca m:=by
 unfold E3 at h;split at h<;>cases h;rfl
abbrev CN:=wrO Ca
abbrev Di:=rdO E3
abbrev KU:=rdP E3
instance:Cdc Di CN:=m7 yn
instance:Cdc KU (fun m=>[.r (Ca m)]):=m6 yn
def ClimbM.wr (x:ClimbM):Gs:=[.p (.it .i64 x.pc)]++(Cl.wr x.last++(Ad.wr x.prev++(W.wr x.cur++([.p (.it .i64 x.bound)]++([.p (.it .i64 x.level)]++(W.wr x.next++([.p (.it .i64 x.k)]++(S3.wr x.spots++(W.wr x.found)))))))))
def ClimbM.rd (gs:Gs):Option (ClimbM×Gs):=(rdI gs).bind fun(x0,r0)=>(Cl.rd r0).bind fun(x1,r1)=>(Ad.rd r1).bind fun(x2,r2)=>(W.rd r2).bind fun(x3,r3)=>(rdI r3).bind fun(x4,r4)=>(rdI r4).bind fun(x5,r5)=>(W.rd r5).bind fun(x6,r6)=>(rdI r6).bind fun(x7,r7)=>(S3.rd r7).bind fun(x8,r8)=>(W.rd r8).bind fun(x9,r9)=>some (⟨x0,x1,x2,x3,x4,x5,x6,x7,x8,x9⟩,r9)
theorem ClimbM.rd_s {gs r:Gs} {x:ClimbM} (h:ClimbM.rd gs=some (x,r)):gs=ClimbM.wr x++r:=by
 unfold ClimbM.rd at h
 repeat (have e:=Cdc.bnd h;clear h;obtain⟨_,_,rfl,h⟩:=e)
 cases h
 simp only [ClimbM.wr,List.append_assoc,List.singleton_append,List.cons_append,List.nil_append]
instance:Cdc ClimbM.rd ClimbM.wr:=⟨ClimbM.rd_s⟩
abbrev fD:Nat:=312
abbrev jG (m:ClimbM):AV:=.climb m
def uI:AV->Option ClimbM
 | .climb m=>some m
 | _=>none
theorem uH {a:AV} {m:ClimbM} (h:uI a=some m):a=jG m:=by
 unfold uI at h;split at h<;>cases h;rfl
abbrev vq:=wrO jG
abbrev vP:=rdO uI
abbrev EF:=rdP uI
instance:Cdc vP vq:=m7 uH
instance:Cdc EF (fun m=>[.r (jG m)]):=m6 uH
def SteM.wr (x:SteM):Gs:=[.p (.it .i64 x.pc)]++(Cl.wr x.last++(O.wr x.op++(vq x.climb++(W.wr x.node++([.p (.it .i64 x.level)]++([.p (.it .i64 x.inc)]++([.p (.it .i64 x.val)])))))))
def SteM.rd (gs:Gs):Option (SteM×Gs):=(rdI gs).bind fun(x0,r0)=>(Cl.rd r0).bind fun(x1,r1)=>(O.rd r1).bind fun(x2,r2)=>(vP r2).bind fun(x3,r3)=>(W.rd r3).bind fun(x4,r4)=>(rdI r4).bind fun(x5,r5)=>(rdI r5).bind fun(x6,r6)=>(rdI r6).bind fun(x7,r7)=>some (⟨x0,x1,x2,x3,x4,x5,x6,x7⟩,r7)
theorem SteM.rd_s {gs r:Gs} {x:SteM} (h:SteM.rd gs=some (x,r)):gs=SteM.wr x++r:=by
 unfold SteM.rd at h
 repeat (have e:=Cdc.bnd h;clear h;obtain⟨_,_,rfl,h⟩:=e)
 cases h
 simp only [SteM.wr,List.append_assoc,List.singleton_append,List.cons_append,List.nil_append]
instance:Cdc SteM.rd SteM.wr:=⟨SteM.rd_s⟩
abbrev lg:Nat:=175
abbrev sM (m:SteM):AV:=.ste m
def En:AV->Option SteM
 | .ste m=>some m
 | _=>none
theorem xL {a:AV} {m:SteM} (h:En a=some m):a=sM m:=by
 unfold En at h;split at h<;>cases h;rfl
abbrev Kc:=wrO sM
abbrev KX:=rdO En
abbrev KR:=rdP En
instance:Cdc KX Kc:=m7 xL
instance:Cdc KR (fun m=>[.r (sM m)]):=m6 xL
def VauM.wr (x:VauM):Gs:=[.p (.it .i64 x.pc)]++(Cl.wr x.last++(O.wr x.op++([.p (.it .i64 x.size)]++([.p (.it .i64 x.wanted)]++([.p (.it .i64 x.bucket)]++([.p (.it .i64 x.child)]++(W.wr x.base++(W.wr x.node++(W.wr x.sentinel++(sb x.walk++(CN x.inner++(An.wr x.answer++(W.wr x.count)))))))))))))
def VauM.rd (gs:Gs):Option (VauM×Gs):=(rdI gs).bind fun(x0,r0)=>(Cl.rd r0).bind fun(x1,r1)=>(O.rd r1).bind fun(x2,r2)=>(rdI r2).bind fun(x3,r3)=>(rdI r3).bind fun(x4,r4)=>(rdI r4).bind fun(x5,r5)=>(rdI r5).bind fun(x6,r6)=>(W.rd r6).bind fun(x7,r7)=>(W.rd r7).bind fun(x8,r8)=>(W.rd r8).bind fun(x9,r9)=>(sV r9).bind fun(x10,r10)=>(Di r10).bind fun(x11,r11)=>(An.rd r11).bind fun(x12,r12)=>(W.rd r12).bind fun(x13,r13)=>some (⟨x0,x1,x2,x3,x4,x5,x6,x7,x8,x9,x10,x11,x12,x13⟩,r13)
theorem VauM.rd_s {gs r:Gs} {x:VauM} (h:VauM.rd gs=some (x,r)):gs=VauM.wr x++r:=by
 unfold VauM.rd at h
 repeat (have e:=Cdc.bnd h;clear h;obtain⟨_,_,rfl,h⟩:=e)
 cases h
 simp only [VauM.wr,List.append_assoc,List.singleton_append,List.cons_append,List.nil_append]
instance:Cdc VauM.rd VauM.wr:=⟨VauM.rd_s⟩
abbrev y7:Nat:=170
abbrev xF (m:VauM):AV:=.vau m
def D1:AV->Option VauM
 | .vau m=>some m
 | _=>none
theorem xE {a:AV} {m:VauM} (h:D1 a=some m):a=xF m:=by
 unfold D1 at h;split at h<;>cases h;rfl
abbrev Kb:=wrO xF
abbrev KW:=rdO D1
abbrev KQ:=rdP D1
instance:Cdc KW Kb:=m7 xE
instance:Cdc KQ (fun m=>[.r (xF m)]):=m6 xE
def wrJ:Option JobM->Gs
 | none=>[.p .inil]
 | some (.pile j)=>[.i 88 (vX j)]
 | some (.cort j)=>[.i 91 (xj j)]
 | some (.lit j)=>[.i 94 (Ca j)]
 | some (.vau j)=>[.i 97 (xF j)]
 | some (.ste j)=>[.i 100 (sM j)]
def orJ {α:Type} (c:Bool) (X:AV->Option α) (k:α->JobM) (a:AV) (e:Option JobM):Option JobM:=match c with
 | true=>match X a with | some j=>some (k j) | none=>none
 | false=>e
theorem zB {α:Type} {c:Bool} {X:AV->Option α} {V:α->AV} (hX:∀{a m},X a=some m->a=V m) {k:α->JobM} {a:AV} {e:Option JobM} {j:JobM} (h:orJ c X k a e=some j):(∃m,c=true /\ a=V m /\ j=k m) \/ e=some j:=by
 unfold orJ at h
 split at h
 ·split at h
  ·rename_i hm;cases h;exact .inl ⟨_,rfl,hX hm,rfl⟩
  ·cases h
 ·exact .inr h
def Un (t:Nat) (a:AV):Option JobM:=orJ (Nat.beq t 88) vU .pile a (orJ (Nat.beq t 91) xi .cort a (orJ (Nat.beq t 94) E3 .lit a (orJ (Nat.beq t 97) D1 .vau a (orJ (Nat.beq t 100) En .ste a (none)))))
def rdJ:Gs->Option (Option JobM×Gs)
 | .p .inil::r=>some (none,r)
 | .i t a::r=>match Un t a with | some j=>some (some j,r) | none=>none
 | _=>none
theorem Rs {gs r:Gs} {m:Option JobM} (h:rdJ gs=some (m,r)):gs=wrJ m++r:=by
 unfold rdJ at h
 split at h
 ·cases h;rfl
 ·split at h
  ·rename_i hj
   cases h
   rcases zB rQ hj with⟨m,e,rfl,rfl⟩ | hj
   ·have e:=(af _ _).1 e;subst e;rfl
   rcases zB rX hj with⟨m,e,rfl,rfl⟩ | hj
   ·have e:=(af _ _).1 e;subst e;rfl
   rcases zB yn hj with⟨m,e,rfl,rfl⟩ | hj
   ·have e:=(af _ _).1 e;subst e;rfl
   rcases zB xE hj with⟨m,e,rfl,rfl⟩ | hj
   ·have e:=(af _ _).1 e;subst e;rfl
   rcases zB xL hj with⟨m,e,rfl,rfl⟩ | hj
   ·have e:=(af _ _).1 e;subst e;rfl
   cases hj
  ·cases h
 ·cases h
instance:Cdc rdJ wrJ:=⟨Rs⟩
def VerM.wr (x:VerM):Gs:=[.p (.it .i64 x.sort)]++([.p (.it .i64 x.engine)]++([.r (dw x.rite)]++([.p (.it .i64 x.doing)]++(Cl.wr x.call++(O.wr x.op++(wrJ x.job++(An.wr x.answer)))))))
def VerM.rd (gs:Gs):Option (VerM×Gs):=(rdI gs).bind fun(x0,r0)=>(rdI r0).bind fun(x1,r1)=>(zu r1).bind fun(x2,r2)=>(rdI r2).bind fun(x3,r3)=>(Cl.rd r3).bind fun(x4,r4)=>(O.rd r4).bind fun(x5,r5)=>(rdJ r5).bind fun(x6,r6)=>(An.rd r6).bind fun(x7,r7)=>some (⟨x0,x1,x2,x3,x4,x5,x6,x7⟩,r7)
theorem VerM.rd_s {gs r:Gs} {x:VerM} (h:VerM.rd gs=some (x,r)):gs=VerM.wr x++r:=by
 unfold VerM.rd at h
 repeat (have e:=Cdc.bnd h;clear h;obtain⟨_,_,rfl,h⟩:=e)
 cases h
 simp only [VerM.wr,List.append_assoc,List.singleton_append,List.cons_append,List.nil_append]
instance:Cdc VerM.rd VerM.wr:=⟨VerM.rd_s⟩
abbrev kX:Nat:=115
abbrev dV (m:VerM):AV:=.ver m
def FV:AV->Option VerM
 | .ver m=>some m
 | _=>none
theorem Bc {a:AV} {m:VerM} (h:FV a=some m):a=dV m:=by
 unfold FV at h;split at h<;>cases h;rfl
abbrev Ka:=wrO dV
abbrev KV:=rdO FV
abbrev KP:=rdP FV
instance:Cdc KV Ka:=m7 Bc
instance:Cdc KP (fun m=>[.r (dV m)]):=m6 Bc
def rO:Gs->Option (PlotM×Gs)
 | .r (.plot m)::r=>some (m,r)
 | _=>none
theorem EE {gs r:Gs} {m:PlotM} (h:rO gs=some (m,r)):gs=.r (.plot m)::r:=by
 unfold rO at h;split at h<;>cases h;rfl
instance:Cdc rO (fun m=>[.r (.plot m)]):=⟨EE⟩
abbrev Ox:Nat:=64
def EA:List RosM->Gs
 | []=>[]
 | x::r=>.r (.ver x.ver)::.s (.ops x.queue) kops.es::.p (.it .i64 x.given)::.p (.it .i64 x.last)::EA r
abbrev nD (l:List RosM):AV:=.oba 5 4 Ox (EA l)
def Hl:Nat->Gs->Option (List RosM)
 | _,[]=>some []
 | n+1,.r (.ver v)::.s (.ops q) es::.p (.it .i64 g)::.p (.it .i64 l)::r=>match Nat.beq es kops.es with
   | true=>(match Hl n r with | some x=>some (⟨v,q,g,l⟩::x) | none=>none)
   | false=>none
 | _,_=>none
theorem OR:∀{n:Nat} {gs:Gs} {l:List RosM},Hl n gs=some l->gs=EA l:=by
 intro n
 induction n with
 | zero =>
   intro gs l h
   unfold Hl at h
   split at h
   ·cases h;rfl
   ·rename_i e;cases e
   ·cases h
 | succ n ih =>
   intro gs l h
   unfold Hl at h
   split at h
   ·cases h;rfl
   ·rename_i e
    cases e
    split at h
    ·rename_i e2
     have e2:=(af _ _).1 e2
     subst e2
     split at h
     ·rename_i y hy
      cases h
      rw [ih hy];rfl
     ·cases h
    ·cases h
   ·cases h
def xQ:Gs->Option (List RosM×Gs)
 | .s (.oba d es ty gs) e::r=>match Nat.beq d 5,Nat.beq es 4,Nat.beq ty Ox,Nat.beq e 4,Hl gs.length gs with
   | true,true,true,true,some l=>some (l,r)
   | _,_,_,_,_=>none
 | _=>none
theorem Ht {gs r:Gs} {l:List RosM} (h:xQ gs=some (l,r)):gs=.s (nD l) 4::r:=by
 unfold xQ at h
 split at h
 ·split at h
  ·rename_i h1 h2 h3 h4 h5
   have h1:=(af _ _).1 h1
   have h2:=(af _ _).1 h2
   have h3:=(af _ _).1 h3
   have h4:=(af _ _).1 h4
   subst h1 h2 h3 h4
   cases h
   rw [OR h5]
  ·cases h
 ·cases h
instance:Cdc xQ (fun l=>[.s (nD l) 4]):=⟨Ht⟩
def ParM.wr (x:ParM):Gs:=[.p (.it .i64 x.sort)]++([.r (.plot x.plot)]++([.s (nD x.threads) 4]++([.s (.beats x.beats) kbeats.es])))
def ParM.rd (gs:Gs):Option (ParM×Gs):=(rdI gs).bind fun(x0,r0)=>(rO r0).bind fun(x1,r1)=>(xQ r1).bind fun(x2,r2)=>(oR r2).bind fun(x3,r3)=>some (⟨x0,x1,x2,x3⟩,r3)
theorem ParM.rd_s {gs r:Gs} {x:ParM} (h:ParM.rd gs=some (x,r)):gs=ParM.wr x++r:=by
 unfold ParM.rd at h
 repeat (have e:=Cdc.bnd h;clear h;obtain⟨_,_,rfl,h⟩:=e)
 cases h
 simp only [ParM.wr,List.append_assoc,List.singleton_append,List.cons_append,List.nil_append]
instance:Cdc ParM.rd ParM.wr:=⟨ParM.rd_s⟩
abbrev Bl:Nat:=60
abbrev gH (m:ParM):AV:=.par m
def HO:AV->Option ParM
 | .par m=>some m
 | _=>none
theorem BW {a:AV} {m:ParM} (h:HO a=some m):a=gH m:=by
 unfold HO at h;split at h<;>cases h;rfl
abbrev Ke:=wrO gH
abbrev KY:=rdO HO
abbrev KT:=rdP HO
instance:Cdc KY Ke:=m7 BW
instance:Cdc KT (fun m=>[.r (gH m)]):=m6 BW
def AV.ob:AV->Option (Nat×TypeId×Gs)
 | .rite m=>some (1,b8,RiteM.wr m)
 | .pile m=>some (1,y9,PileM.wr m)
 | .cort m=>some (1,zb,CortM.wr m)
 | .walk m=>some (1,oE,WalkM.wr m)
 | .lit m=>some (2,Bm,LitM.wr m)
 | .climb m=>some (1,fD,ClimbM.wr m)
 | .ste m=>some (2,lg,SteM.wr m)
 | .vau m=>some (3,y7,VauM.wr m)
 | .ver m=>some (4,kX,VerM.wr m)
 | .par m=>some (6,Bl,ParM.wr m)
 | _=>none
def orR {α:Type} (c:Bool) (rd:Gs->Option (α×Gs)) (k:α->AV) (gs:Gs) (e:Option AV):Option AV:=match c with
 | true=>match rd gs with | some (m,[])=>some (k m) | _=>none
 | false=>e
theorem m9 {α:Type} {c:Bool} {rd:Gs->Option (α×Gs)} {w:α->Gs} [Cdc rd w] {k:α->AV} {gs:Gs} {e:Option AV} {a:AV} (h:orR c rd k gs e=some a):(∃m,c=true /\ gs=w m /\ a=k m) \/ e=some a:=by
 unfold orR at h
 split at h
 ·split at h
  ·rename_i hm;cases h;exact .inl ⟨_,rfl,by rw [Cdc.s hm,List.append_nil],rfl⟩
  ·cases h
 ·exact .inr h
def mkO (ty:TypeId) (gs:Gs):Option AV:=orR (Nat.beq ty b8) RiteM.rd .rite gs (orR (Nat.beq ty y9) PileM.rd .pile gs (orR (Nat.beq ty zb) CortM.rd .cort gs (orR (Nat.beq ty oE) WalkM.rd .walk gs (orR (Nat.beq ty Bm) LitM.rd .lit gs (orR (Nat.beq ty fD) ClimbM.rd .climb gs (orR (Nat.beq ty lg) SteM.rd .ste gs (orR (Nat.beq ty y7) VauM.rd .vau gs (orR (Nat.beq ty kX) VerM.rd .ver gs (orR (Nat.beq ty Bl) ParM.rd .par gs (none))))))))))
theorem Pf {ty:TypeId} {gs:Gs} {a:AV} (h:mkO ty gs=some a):∃d,a.ob=some (d,ty,gs):=by
 unfold mkO at h
 rcases m9 h with⟨m,e,rfl,rfl⟩ | h
 ·have e:=(af _ _).1 e;subst e;exact⟨_,rfl⟩
 rcases m9 h with⟨m,e,rfl,rfl⟩ | h
 ·have e:=(af _ _).1 e;subst e;exact⟨_,rfl⟩
 rcases m9 h with⟨m,e,rfl,rfl⟩ | h
 ·have e:=(af _ _).1 e;subst e;exact⟨_,rfl⟩
 rcases m9 h with⟨m,e,rfl,rfl⟩ | h
 ·have e:=(af _ _).1 e;subst e;exact⟨_,rfl⟩
 rcases m9 h with⟨m,e,rfl,rfl⟩ | h
 ·have e:=(af _ _).1 e;subst e;exact⟨_,rfl⟩
 rcases m9 h with⟨m,e,rfl,rfl⟩ | h
 ·have e:=(af _ _).1 e;subst e;exact⟨_,rfl⟩
 rcases m9 h with⟨m,e,rfl,rfl⟩ | h
 ·have e:=(af _ _).1 e;subst e;exact⟨_,rfl⟩
 rcases m9 h with⟨m,e,rfl,rfl⟩ | h
 ·have e:=(af _ _).1 e;subst e;exact⟨_,rfl⟩
 rcases m9 h with⟨m,e,rfl,rfl⟩ | h
 ·have e:=(af _ _).1 e;subst e;exact⟨_,rfl⟩
 rcases m9 h with⟨m,e,rfl,rfl⟩ | h
 ·have e:=(af _ _).1 e;subst e;exact⟨_,rfl⟩
 cases h
end Go.Proofs.YtcpdipfepeccgaaGreatDoor
