import Derived.Test.YtcpdipfepeccgaaGreatDoorMd
set_option linter.unusedSimpArgs false
set_option linter.unusedVariables false
namespace Go.Proofs.YtcpdipfepeccgaaGreatDoor
open Go Go.Sx Go.Proofs
abbrev Gs:=List (GC AV)
def rdI:Gs->Option (Int×Gs)
 | .p (.it .i64 n)::r=>some (n,r)
 | _=>none
theorem rdI_s {gs r:Gs} {n:Int} (h:rdI gs=some (n,r)):gs=.p (.it .i64 n)::r:=by
 unfold rdI at h;split at h<;>cases h;rfl
def rdB:Gs->Option (Bool×Gs)
 | .p (.bt b)::r=>some (b,r)
 | _=>none
theorem rdB_s {gs r:Gs} {b:Bool} (h:rdB gs=some (b,r)):gs=.p (.bt b)::r:=by
 unfold rdB at h;split at h<;>cases h;rfl
class Cdc {α:Type} (f:Gs->Option (α×Gs)) (w:outParam (α->Gs)):Prop where
 s:∀{gs r:Gs} {x:α},f gs=some (x,r)->gs=w x++r
theorem Cdc.bnd {α β:Type} {f:Gs->Option (α×Gs)} {w:α->Gs} [Cdc f w] {gs:Gs} {k:α×Gs->Option β} {y:β} (h:(f gs).bind k=some y):∃x r,gs=w x++r /\ k (x,r)=some y:=by
 obtain⟨⟨x,r⟩,h0,h⟩:=Option.bind_eq_some_iff.1 h
 exact⟨x,r,Cdc.s h0,h⟩
def wrO {α:Type} (V:α->AV):Option α->Gs
 | none=>[.p .pnil]
 | some m=>[.r (V m)]
def rdO {α:Type} (X:AV->Option α):Gs->Option (Option α×Gs)
 | .p .pnil::r=>some (none,r)
 | .r a::r=>match X a with | some m=>some (some m,r) | none=>none
 | _=>none
def rdP {α:Type} (X:AV->Option α):Gs->Option (α×Gs)
 | .r a::r=>match X a with | some m=>some (m,r) | none=>none
 | _=>none
theorem rdO_c {α:Type} {X:AV->Option α} {V:α->AV} (hX:∀{a m},X a=some m->a=V m):Cdc (rdO X) (wrO V):=⟨fun {gs r x} h=>by
 unfold rdO at h
 split at h
 ·cases h;rfl
 ·split at h
  ·rename_i hm;cases h;rw [hX hm];rfl
  ·cases h
 ·cases h⟩
theorem rdP_c {α:Type} {X:AV->Option α} {V:α->AV} (hX:∀{a m},X a=some m->a=V m):Cdc (rdP X) (fun m=>[.r (V m)]):=⟨fun {gs r x} h=>by
 unfold rdP at h
 split at h
 ·split at h
  ·rename_i hm;cases h;rw [hX hm];rfl
  ·cases h
 ·cases h⟩
instance:Cdc rdI (fun n=>[.p (.it .i64 n)]):=⟨rdI_s⟩
instance:Cdc rdB (fun n=>[.p (.bt n)]):=⟨rdB_s⟩
def rd_words:Gs->Option (List W×Gs)
 | .s (.words l) es::r=>match Nat.beq es kwords.es with | true=>some (l,r) | false=>none
 | _=>none
theorem rd_words_s {gs r:Gs} {l:List W} (h:rd_words gs=some (l,r)):gs=.s (.words l) kwords.es::r:=by
 unfold rd_words at h
 split at h
 ·split at h
  ·rename_i e;have e:=(beq_iff _ _).1 e;subst e;cases h;rfl
  ·cases h
 ·cases h
instance:Cdc rd_words (fun l=>[.s (.words l) kwords.es]):=⟨rd_words_s⟩
def rd_notes:Gs->Option (List Nt×Gs)
 | .s (.notes l) es::r=>match Nat.beq es knotes.es with | true=>some (l,r) | false=>none
 | _=>none
theorem rd_notes_s {gs r:Gs} {l:List Nt} (h:rd_notes gs=some (l,r)):gs=.s (.notes l) knotes.es::r:=by
 unfold rd_notes at h
 split at h
 ·split at h
  ·rename_i e;have e:=(beq_iff _ _).1 e;subst e;cases h;rfl
  ·cases h
 ·cases h
instance:Cdc rd_notes (fun l=>[.s (.notes l) knotes.es]):=⟨rd_notes_s⟩
def rd_ops:Gs->Option (List O×Gs)
 | .s (.ops l) es::r=>match Nat.beq es kops.es with | true=>some (l,r) | false=>none
 | _=>none
theorem rd_ops_s {gs r:Gs} {l:List O} (h:rd_ops gs=some (l,r)):gs=.s (.ops l) kops.es::r:=by
 unfold rd_ops at h
 split at h
 ·split at h
  ·rename_i e;have e:=(beq_iff _ _).1 e;subst e;cases h;rfl
  ·cases h
 ·cases h
instance:Cdc rd_ops (fun l=>[.s (.ops l) kops.es]):=⟨rd_ops_s⟩
def rd_beats:Gs->Option (List Bt×Gs)
 | .s (.beats l) es::r=>match Nat.beq es kbeats.es with | true=>some (l,r) | false=>none
 | _=>none
theorem rd_beats_s {gs r:Gs} {l:List Bt} (h:rd_beats gs=some (l,r)):gs=.s (.beats l) kbeats.es::r:=by
 unfold rd_beats at h
 split at h
 ·split at h
  ·rename_i e;have e:=(beq_iff _ _).1 e;subst e;cases h;rfl
  ·cases h
 ·cases h
instance:Cdc rd_beats (fun l=>[.s (.beats l) kbeats.es]):=⟨rd_beats_s⟩
def W.wr (x:W):Gs:=[.p (.it .i64 x.slot)]++([.p (.it .i64 x.gen)]++([.p (.it .i64 x.tag)]++([.p (.it .i64 x.num)]++([.p (.bt x.mark)]))))
def W.rd (gs:Gs):Option (W×Gs):=(rdI gs).bind fun(x0,r0)=>(rdI r0).bind fun(x1,r1)=>(rdI r1).bind fun(x2,r2)=>(rdI r2).bind fun(x3,r3)=>(rdB r3).bind fun(x4,r4)=>some (⟨x0,x1,x2,x3,x4⟩,r4)
theorem W.rd_s {gs r:Gs} {x:W} (h:W.rd gs=some (x,r)):gs=W.wr x++r:=by
 unfold W.rd at h
 repeat (have e:=Cdc.bnd h;clear h;obtain⟨_,_,rfl,h⟩:=e)
 cases h
 simp only [W.wr,List.append_assoc,List.singleton_append,List.cons_append,List.nil_append]
instance:Cdc W.rd W.wr:=⟨W.rd_s⟩
def O.wr (x:O):Gs:=[.p (.it .i64 x.kind)]++([.p (.it .i64 x.key)]++([.p (.it .i64 x.val)]++([.p (.it .i64 x.tall)])))
def O.rd (gs:Gs):Option (O×Gs):=(rdI gs).bind fun(x0,r0)=>(rdI r0).bind fun(x1,r1)=>(rdI r1).bind fun(x2,r2)=>(rdI r2).bind fun(x3,r3)=>some (⟨x0,x1,x2,x3⟩,r3)
theorem O.rd_s {gs r:Gs} {x:O} (h:O.rd gs=some (x,r)):gs=O.wr x++r:=by
 unfold O.rd at h
 repeat (have e:=Cdc.bnd h;clear h;obtain⟨_,_,rfl,h⟩:=e)
 cases h
 simp only [O.wr,List.append_assoc,List.singleton_append,List.cons_append,List.nil_append]
instance:Cdc O.rd O.wr:=⟨O.rd_s⟩
def Sp.wr (x:Sp):Gs:=[.p (.bt x.is)]++([.p (.it .i64 x.low)]++([.p (.it .i64 x.high)]))
def Sp.rd (gs:Gs):Option (Sp×Gs):=(rdB gs).bind fun(x0,r0)=>(rdI r0).bind fun(x1,r1)=>(rdI r1).bind fun(x2,r2)=>some (⟨x0,x1,x2⟩,r2)
theorem Sp.rd_s {gs r:Gs} {x:Sp} (h:Sp.rd gs=some (x,r)):gs=Sp.wr x++r:=by
 unfold Sp.rd at h
 repeat (have e:=Cdc.bnd h;clear h;obtain⟨_,_,rfl,h⟩:=e)
 cases h
 simp only [Sp.wr,List.append_assoc,List.singleton_append,List.cons_append,List.nil_append]
instance:Cdc Sp.rd Sp.wr:=⟨Sp.rd_s⟩
def Ad.wr (x:Ad):Gs:=[.p (.it .i64 x.s)]++([.p (.it .i64 x.g)]++([.p (.it .i64 x.f)]))
def Ad.rd (gs:Gs):Option (Ad×Gs):=(rdI gs).bind fun(x0,r0)=>(rdI r0).bind fun(x1,r1)=>(rdI r1).bind fun(x2,r2)=>some (⟨x0,x1,x2⟩,r2)
theorem Ad.rd_s {gs r:Gs} {x:Ad} (h:Ad.rd gs=some (x,r)):gs=Ad.wr x++r:=by
 unfold Ad.rd at h
 repeat (have e:=Cdc.bnd h;clear h;obtain⟨_,_,rfl,h⟩:=e)
 cases h
 simp only [Ad.wr,List.append_assoc,List.singleton_append,List.cons_append,List.nil_append]
instance:Cdc Ad.rd Ad.wr:=⟨Ad.rd_s⟩
def An.wr (x:An):Gs:=[.p (.it .i64 x.code)]++([.p (.it .i64 x.val)])
def An.rd (gs:Gs):Option (An×Gs):=(rdI gs).bind fun(x0,r0)=>(rdI r0).bind fun(x1,r1)=>some (⟨x0,x1⟩,r1)
theorem An.rd_s {gs r:Gs} {x:An} (h:An.rd gs=some (x,r)):gs=An.wr x++r:=by
 unfold An.rd at h
 repeat (have e:=Cdc.bnd h;clear h;obtain⟨_,_,rfl,h⟩:=e)
 cases h
 simp only [An.wr,List.append_assoc,List.singleton_append,List.cons_append,List.nil_append]
instance:Cdc An.rd An.wr:=⟨An.rd_s⟩
def Acc.wr (x:Acc):Gs:=[.p (.it .i64 x.kind)]++([.p (.it .i64 x.s)]++([.p (.it .i64 x.g)]++([.p (.it .i64 x.f)]++(W.wr x.old++(W.wr x.new)))))
def Acc.rd (gs:Gs):Option (Acc×Gs):=(rdI gs).bind fun(x0,r0)=>(rdI r0).bind fun(x1,r1)=>(rdI r1).bind fun(x2,r2)=>(rdI r2).bind fun(x3,r3)=>(W.rd r3).bind fun(x4,r4)=>(W.rd r4).bind fun(x5,r5)=>some (⟨x0,x1,x2,x3,x4,x5⟩,r5)
theorem Acc.rd_s {gs r:Gs} {x:Acc} (h:Acc.rd gs=some (x,r)):gs=Acc.wr x++r:=by
 unfold Acc.rd at h
 repeat (have e:=Cdc.bnd h;clear h;obtain⟨_,_,rfl,h⟩:=e)
 cases h
 simp only [Acc.wr,List.append_assoc,List.singleton_append,List.cons_append,List.nil_append]
instance:Cdc Acc.rd Acc.wr:=⟨Acc.rd_s⟩
def Rp1.wr (x:Rp1):Gs:=W.wr x.w++([.p (.bt x.ok)])
def Rp1.rd (gs:Gs):Option (Rp1×Gs):=(W.rd gs).bind fun(x0,r0)=>(rdB r0).bind fun(x1,r1)=>some (⟨x0,x1⟩,r1)
theorem Rp1.rd_s {gs r:Gs} {x:Rp1} (h:Rp1.rd gs=some (x,r)):gs=Rp1.wr x++r:=by
 unfold Rp1.rd at h
 repeat (have e:=Cdc.bnd h;clear h;obtain⟨_,_,rfl,h⟩:=e)
 cases h
 simp only [Rp1.wr,List.append_assoc,List.singleton_append,List.cons_append,List.nil_append]
instance:Cdc Rp1.rd Rp1.wr:=⟨Rp1.rd_s⟩
def Cl.wr (x:Cl):Gs:=[.p (.it .i64 x.kind)]++(Ad.wr x.adr++(W.wr x.old++(W.wr x.new++([.p (.it .i64 x.i)]++([.p (.it .i64 x.j)]++(An.wr x.ans))))))
def Cl.rd (gs:Gs):Option (Cl×Gs):=(rdI gs).bind fun(x0,r0)=>(Ad.rd r0).bind fun(x1,r1)=>(W.rd r1).bind fun(x2,r2)=>(W.rd r2).bind fun(x3,r3)=>(rdI r3).bind fun(x4,r4)=>(rdI r4).bind fun(x5,r5)=>(An.rd r5).bind fun(x6,r6)=>some (⟨x0,x1,x2,x3,x4,x5,x6⟩,r6)
theorem Cl.rd_s {gs r:Gs} {x:Cl} (h:Cl.rd gs=some (x,r)):gs=Cl.wr x++r:=by
 unfold Cl.rd at h
 repeat (have e:=Cdc.bnd h;clear h;obtain⟨_,_,rfl,h⟩:=e)
 cases h
 simp only [Cl.wr,List.append_assoc,List.singleton_append,List.cons_append,List.nil_append]
instance:Cdc Cl.rd Cl.wr:=⟨Cl.rd_s⟩
def H9.wr (x:H9):Gs:=W.wr x.h0++(W.wr x.h1++(W.wr x.h2++(W.wr x.h3++(W.wr x.h4++(W.wr x.h5++(W.wr x.h6++(W.wr x.h7++(W.wr x.h8))))))))
def H9.rd (gs:Gs):Option (H9×Gs):=(W.rd gs).bind fun(x0,r0)=>(W.rd r0).bind fun(x1,r1)=>(W.rd r1).bind fun(x2,r2)=>(W.rd r2).bind fun(x3,r3)=>(W.rd r3).bind fun(x4,r4)=>(W.rd r4).bind fun(x5,r5)=>(W.rd r5).bind fun(x6,r6)=>(W.rd r6).bind fun(x7,r7)=>(W.rd r7).bind fun(x8,r8)=>some (⟨x0,x1,x2,x3,x4,x5,x6,x7,x8⟩,r8)
theorem H9.rd_s {gs r:Gs} {x:H9} (h:H9.rd gs=some (x,r)):gs=H9.wr x++r:=by
 unfold H9.rd at h
 repeat (have e:=Cdc.bnd h;clear h;obtain⟨_,_,rfl,h⟩:=e)
 cases h
 simp only [H9.wr,List.append_assoc,List.singleton_append,List.cons_append,List.nil_append]
instance:Cdc H9.rd H9.wr:=⟨H9.rd_s⟩
def S3.wr (x:S3):Gs:=Ad.wr x.p0++(W.wr x.c0++(Ad.wr x.p1++(W.wr x.c1++(Ad.wr x.p2++(W.wr x.c2)))))
def S3.rd (gs:Gs):Option (S3×Gs):=(Ad.rd gs).bind fun(x0,r0)=>(W.rd r0).bind fun(x1,r1)=>(Ad.rd r1).bind fun(x2,r2)=>(W.rd r2).bind fun(x3,r3)=>(Ad.rd r3).bind fun(x4,r4)=>(W.rd r4).bind fun(x5,r5)=>some (⟨x0,x1,x2,x3,x4,x5⟩,r5)
theorem S3.rd_s {gs r:Gs} {x:S3} (h:S3.rd gs=some (x,r)):gs=S3.wr x++r:=by
 unfold S3.rd at h
 repeat (have e:=Cdc.bnd h;clear h;obtain⟨_,_,rfl,h⟩:=e)
 cases h
 simp only [S3.wr,List.append_assoc,List.singleton_append,List.cons_append,List.nil_append]
instance:Cdc S3.rd S3.wr:=⟨S3.rd_s⟩
def RiteM.wr (x:RiteM):Gs:=Cl.wr x.call++([.p (.it .i64 x.step)]++(Acc.wr x.acc++(W.wr x.word++(W.wr x.clock++([.p (.it .i64 x.index)]++([.s (.words x.seen) kwords.es]++([.s (.notes x.doomed) knotes.es]++([.p (.it .i64 x.engine)]++([.p (.it .i64 x.me)]++([.p (.it .i64 x.threads)]++([.p (.it .i64 x.most)]++(H9.wr x.holds++(Sp.wr x.span++([.s (.notes x.notes) knotes.es]++([.p (.it .i64 x.freed)]++(Rp1.wr x.reply))))))))))))))))
def RiteM.rd (gs:Gs):Option (RiteM×Gs):=(Cl.rd gs).bind fun(x0,r0)=>(rdI r0).bind fun(x1,r1)=>(Acc.rd r1).bind fun(x2,r2)=>(W.rd r2).bind fun(x3,r3)=>(W.rd r3).bind fun(x4,r4)=>(rdI r4).bind fun(x5,r5)=>(rd_words r5).bind fun(x6,r6)=>(rd_notes r6).bind fun(x7,r7)=>(rdI r7).bind fun(x8,r8)=>(rdI r8).bind fun(x9,r9)=>(rdI r9).bind fun(x10,r10)=>(rdI r10).bind fun(x11,r11)=>(H9.rd r11).bind fun(x12,r12)=>(Sp.rd r12).bind fun(x13,r13)=>(rd_notes r13).bind fun(x14,r14)=>(rdI r14).bind fun(x15,r15)=>(Rp1.rd r15).bind fun(x16,r16)=>some (⟨x0,x1,x2,x3,x4,x5,x6,x7,x8,x9,x10,x11,x12,x13,x14,x15,x16⟩,r16)
theorem RiteM.rd_s {gs r:Gs} {x:RiteM} (h:RiteM.rd gs=some (x,r)):gs=RiteM.wr x++r:=by
 unfold RiteM.rd at h
 repeat (have e:=Cdc.bnd h;clear h;obtain⟨_,_,rfl,h⟩:=e)
 cases h
 simp only [RiteM.wr,List.append_assoc,List.singleton_append,List.cons_append,List.nil_append]
instance:Cdc RiteM.rd RiteM.wr:=⟨RiteM.rd_s⟩
abbrev tRite:Nat:=186
abbrev riteV (m:RiteM):AV:=.rite m
def riteX:AV->Option RiteM
 | .rite m=>some m
 | _=>none
theorem riteX_s {a:AV} {m:RiteM} (h:riteX a=some m):a=riteV m:=by
 unfold riteX at h;split at h<;>cases h;rfl
abbrev wrO_rite:=wrO riteV
abbrev rdO_rite:=rdO riteX
abbrev rdP_rite:=rdP riteX
instance:Cdc rdO_rite wrO_rite:=rdO_c riteX_s
instance:Cdc rdP_rite (fun m=>[.r (riteV m)]):=rdP_c riteX_s
def PileM.wr (x:PileM):Gs:=[.p (.it .i64 x.pc)]++(Cl.wr x.last++(O.wr x.op++(W.wr x.node++(W.wr x.top++([.p (.it .i64 x.val)])))))
def PileM.rd (gs:Gs):Option (PileM×Gs):=(rdI gs).bind fun(x0,r0)=>(Cl.rd r0).bind fun(x1,r1)=>(O.rd r1).bind fun(x2,r2)=>(W.rd r2).bind fun(x3,r3)=>(W.rd r3).bind fun(x4,r4)=>(rdI r4).bind fun(x5,r5)=>some (⟨x0,x1,x2,x3,x4,x5⟩,r5)
theorem PileM.rd_s {gs r:Gs} {x:PileM} (h:PileM.rd gs=some (x,r)):gs=PileM.wr x++r:=by
 unfold PileM.rd at h
 repeat (have e:=Cdc.bnd h;clear h;obtain⟨_,_,rfl,h⟩:=e)
 cases h
 simp only [PileM.wr,List.append_assoc,List.singleton_append,List.cons_append,List.nil_append]
instance:Cdc PileM.rd PileM.wr:=⟨PileM.rd_s⟩
abbrev tPile:Nat:=159
abbrev pileV (m:PileM):AV:=.pile m
def pileX:AV->Option PileM
 | .pile m=>some m
 | _=>none
theorem pileX_s {a:AV} {m:PileM} (h:pileX a=some m):a=pileV m:=by
 unfold pileX at h;split at h<;>cases h;rfl
abbrev wrO_pile:=wrO pileV
abbrev rdO_pile:=rdO pileX
abbrev rdP_pile:=rdP pileX
instance:Cdc rdO_pile wrO_pile:=rdO_c pileX_s
instance:Cdc rdP_pile (fun m=>[.r (pileV m)]):=rdP_c pileX_s
def CortM.wr (x:CortM):Gs:=[.p (.it .i64 x.pc)]++(Cl.wr x.last++(O.wr x.op++(W.wr x.node++(W.wr x.h++(W.wr x.t++(W.wr x.n++([.p (.it .i64 x.val)])))))))
def CortM.rd (gs:Gs):Option (CortM×Gs):=(rdI gs).bind fun(x0,r0)=>(Cl.rd r0).bind fun(x1,r1)=>(O.rd r1).bind fun(x2,r2)=>(W.rd r2).bind fun(x3,r3)=>(W.rd r3).bind fun(x4,r4)=>(W.rd r4).bind fun(x5,r5)=>(W.rd r5).bind fun(x6,r6)=>(rdI r6).bind fun(x7,r7)=>some (⟨x0,x1,x2,x3,x4,x5,x6,x7⟩,r7)
theorem CortM.rd_s {gs r:Gs} {x:CortM} (h:CortM.rd gs=some (x,r)):gs=CortM.wr x++r:=by
 unfold CortM.rd at h
 repeat (have e:=Cdc.bnd h;clear h;obtain⟨_,_,rfl,h⟩:=e)
 cases h
 simp only [CortM.wr,List.append_assoc,List.singleton_append,List.cons_append,List.nil_append]
instance:Cdc CortM.rd CortM.wr:=⟨CortM.rd_s⟩
abbrev tCort:Nat:=163
abbrev cortV (m:CortM):AV:=.cort m
def cortX:AV->Option CortM
 | .cort m=>some m
 | _=>none
theorem cortX_s {a:AV} {m:CortM} (h:cortX a=some m):a=cortV m:=by
 unfold cortX at h;split at h<;>cases h;rfl
abbrev wrO_cort:=wrO cortV
abbrev rdO_cort:=rdO cortX
abbrev rdP_cort:=rdP cortX
instance:Cdc rdO_cort wrO_cort:=rdO_c cortX_s
instance:Cdc rdP_cort (fun m=>[.r (cortV m)]):=rdP_c cortX_s
def WalkM.wr (x:WalkM):Gs:=[.p (.it .i64 x.pc)]++(Cl.wr x.last++(Ad.wr x.start++([.p (.it .i64 x.key)]++(Ad.wr x.prev++(W.wr x.cur++(W.wr x.next++([.p (.it .i64 x.k)]++([.p (.bt x.found)]))))))))
def WalkM.rd (gs:Gs):Option (WalkM×Gs):=(rdI gs).bind fun(x0,r0)=>(Cl.rd r0).bind fun(x1,r1)=>(Ad.rd r1).bind fun(x2,r2)=>(rdI r2).bind fun(x3,r3)=>(Ad.rd r3).bind fun(x4,r4)=>(W.rd r4).bind fun(x5,r5)=>(W.rd r5).bind fun(x6,r6)=>(rdI r6).bind fun(x7,r7)=>(rdB r7).bind fun(x8,r8)=>some (⟨x0,x1,x2,x3,x4,x5,x6,x7,x8⟩,r8)
theorem WalkM.rd_s {gs r:Gs} {x:WalkM} (h:WalkM.rd gs=some (x,r)):gs=WalkM.wr x++r:=by
 unfold WalkM.rd at h
 repeat (have e:=Cdc.bnd h;clear h;obtain⟨_,_,rfl,h⟩:=e)
 cases h
 simp only [WalkM.wr,List.append_assoc,List.singleton_append,List.cons_append,List.nil_append]
instance:Cdc WalkM.rd WalkM.wr:=⟨WalkM.rd_s⟩
abbrev tWalk:Nat:=291
abbrev walkV (m:WalkM):AV:=.walk m
def walkX:AV->Option WalkM
 | .walk m=>some m
 | _=>none
theorem walkX_s {a:AV} {m:WalkM} (h:walkX a=some m):a=walkV m:=by
 unfold walkX at h;split at h<;>cases h;rfl
abbrev wrO_walk:=wrO walkV
abbrev rdO_walk:=rdO walkX
abbrev rdP_walk:=rdP walkX
instance:Cdc rdO_walk wrO_walk:=rdO_c walkX_s
instance:Cdc rdP_walk (fun m=>[.r (walkV m)]):=rdP_c walkX_s
def LitM.wr (x:LitM):Gs:=[.p (.it .i64 x.pc)]++(Cl.wr x.last++(Ad.wr x.start++([.p (.it .i64 x.key)]++(O.wr x.op++(wrO_walk x.walk++(W.wr x.node++([.p (.it .i64 x.val)])))))))
def LitM.rd (gs:Gs):Option (LitM×Gs):=(rdI gs).bind fun(x0,r0)=>(Cl.rd r0).bind fun(x1,r1)=>(Ad.rd r1).bind fun(x2,r2)=>(rdI r2).bind fun(x3,r3)=>(O.rd r3).bind fun(x4,r4)=>(rdO_walk r4).bind fun(x5,r5)=>(W.rd r5).bind fun(x6,r6)=>(rdI r6).bind fun(x7,r7)=>some (⟨x0,x1,x2,x3,x4,x5,x6,x7⟩,r7)
theorem LitM.rd_s {gs r:Gs} {x:LitM} (h:LitM.rd gs=some (x,r)):gs=LitM.wr x++r:=by
 unfold LitM.rd at h
 repeat (have e:=Cdc.bnd h;clear h;obtain⟨_,_,rfl,h⟩:=e)
 cases h
 simp only [LitM.wr,List.append_assoc,List.singleton_append,List.cons_append,List.nil_append]
instance:Cdc LitM.rd LitM.wr:=⟨LitM.rd_s⟩
abbrev tLit:Nat:=221
abbrev litV (m:LitM):AV:=.lit m
def litX:AV->Option LitM
 | .lit m=>some m
 | _=>none
theorem litX_s {a:AV} {m:LitM} (h:litX a=some m):a=litV m:=by
 unfold litX at h;split at h<;>cases h;rfl
abbrev wrO_lit:=wrO litV
abbrev rdO_lit:=rdO litX
abbrev rdP_lit:=rdP litX
instance:Cdc rdO_lit wrO_lit:=rdO_c litX_s
instance:Cdc rdP_lit (fun m=>[.r (litV m)]):=rdP_c litX_s
def ClimbM.wr (x:ClimbM):Gs:=[.p (.it .i64 x.pc)]++(Cl.wr x.last++(Ad.wr x.prev++(W.wr x.cur++([.p (.it .i64 x.bound)]++([.p (.it .i64 x.level)]++(W.wr x.next++([.p (.it .i64 x.k)]++(S3.wr x.spots++(W.wr x.found)))))))))
def ClimbM.rd (gs:Gs):Option (ClimbM×Gs):=(rdI gs).bind fun(x0,r0)=>(Cl.rd r0).bind fun(x1,r1)=>(Ad.rd r1).bind fun(x2,r2)=>(W.rd r2).bind fun(x3,r3)=>(rdI r3).bind fun(x4,r4)=>(rdI r4).bind fun(x5,r5)=>(W.rd r5).bind fun(x6,r6)=>(rdI r6).bind fun(x7,r7)=>(S3.rd r7).bind fun(x8,r8)=>(W.rd r8).bind fun(x9,r9)=>some (⟨x0,x1,x2,x3,x4,x5,x6,x7,x8,x9⟩,r9)
theorem ClimbM.rd_s {gs r:Gs} {x:ClimbM} (h:ClimbM.rd gs=some (x,r)):gs=ClimbM.wr x++r:=by
 unfold ClimbM.rd at h
 repeat (have e:=Cdc.bnd h;clear h;obtain⟨_,_,rfl,h⟩:=e)
 cases h
 simp only [ClimbM.wr,List.append_assoc,List.singleton_append,List.cons_append,List.nil_append]
instance:Cdc ClimbM.rd ClimbM.wr:=⟨ClimbM.rd_s⟩
abbrev tClimb:Nat:=312
abbrev climbV (m:ClimbM):AV:=.climb m
def climbX:AV->Option ClimbM
 | .climb m=>some m
 | _=>none
theorem climbX_s {a:AV} {m:ClimbM} (h:climbX a=some m):a=climbV m:=by
 unfold climbX at h;split at h<;>cases h;rfl
abbrev wrO_climb:=wrO climbV
abbrev rdO_climb:=rdO climbX
abbrev rdP_climb:=rdP climbX
instance:Cdc rdO_climb wrO_climb:=rdO_c climbX_s
instance:Cdc rdP_climb (fun m=>[.r (climbV m)]):=rdP_c climbX_s
def SteM.wr (x:SteM):Gs:=[.p (.it .i64 x.pc)]++(Cl.wr x.last++(O.wr x.op++(wrO_climb x.climb++(W.wr x.node++([.p (.it .i64 x.level)]++([.p (.it .i64 x.inc)]++([.p (.it .i64 x.val)])))))))
def SteM.rd (gs:Gs):Option (SteM×Gs):=(rdI gs).bind fun(x0,r0)=>(Cl.rd r0).bind fun(x1,r1)=>(O.rd r1).bind fun(x2,r2)=>(rdO_climb r2).bind fun(x3,r3)=>(W.rd r3).bind fun(x4,r4)=>(rdI r4).bind fun(x5,r5)=>(rdI r5).bind fun(x6,r6)=>(rdI r6).bind fun(x7,r7)=>some (⟨x0,x1,x2,x3,x4,x5,x6,x7⟩,r7)
theorem SteM.rd_s {gs r:Gs} {x:SteM} (h:SteM.rd gs=some (x,r)):gs=SteM.wr x++r:=by
 unfold SteM.rd at h
 repeat (have e:=Cdc.bnd h;clear h;obtain⟨_,_,rfl,h⟩:=e)
 cases h
 simp only [SteM.wr,List.append_assoc,List.singleton_append,List.cons_append,List.nil_append]
instance:Cdc SteM.rd SteM.wr:=⟨SteM.rd_s⟩
abbrev tSte:Nat:=175
abbrev steV (m:SteM):AV:=.ste m
def steX:AV->Option SteM
 | .ste m=>some m
 | _=>none
theorem steX_s {a:AV} {m:SteM} (h:steX a=some m):a=steV m:=by
 unfold steX at h;split at h<;>cases h;rfl
abbrev wrO_ste:=wrO steV
abbrev rdO_ste:=rdO steX
abbrev rdP_ste:=rdP steX
instance:Cdc rdO_ste wrO_ste:=rdO_c steX_s
instance:Cdc rdP_ste (fun m=>[.r (steV m)]):=rdP_c steX_s
def VauM.wr (x:VauM):Gs:=[.p (.it .i64 x.pc)]++(Cl.wr x.last++(O.wr x.op++([.p (.it .i64 x.size)]++([.p (.it .i64 x.wanted)]++([.p (.it .i64 x.bucket)]++([.p (.it .i64 x.child)]++(W.wr x.base++(W.wr x.node++(W.wr x.sentinel++(wrO_walk x.walk++(wrO_lit x.inner++(An.wr x.answer++(W.wr x.count)))))))))))))
def VauM.rd (gs:Gs):Option (VauM×Gs):=(rdI gs).bind fun(x0,r0)=>(Cl.rd r0).bind fun(x1,r1)=>(O.rd r1).bind fun(x2,r2)=>(rdI r2).bind fun(x3,r3)=>(rdI r3).bind fun(x4,r4)=>(rdI r4).bind fun(x5,r5)=>(rdI r5).bind fun(x6,r6)=>(W.rd r6).bind fun(x7,r7)=>(W.rd r7).bind fun(x8,r8)=>(W.rd r8).bind fun(x9,r9)=>(rdO_walk r9).bind fun(x10,r10)=>(rdO_lit r10).bind fun(x11,r11)=>(An.rd r11).bind fun(x12,r12)=>(W.rd r12).bind fun(x13,r13)=>some (⟨x0,x1,x2,x3,x4,x5,x6,x7,x8,x9,x10,x11,x12,x13⟩,r13)
theorem VauM.rd_s {gs r:Gs} {x:VauM} (h:VauM.rd gs=some (x,r)):gs=VauM.wr x++r:=by
 unfold VauM.rd at h
 repeat (have e:=Cdc.bnd h;clear h;obtain⟨_,_,rfl,h⟩:=e)
 cases h
 simp only [VauM.wr,List.append_assoc,List.singleton_append,List.cons_append,List.nil_append]
instance:Cdc VauM.rd VauM.wr:=⟨VauM.rd_s⟩
abbrev tVau:Nat:=170
abbrev vauV (m:VauM):AV:=.vau m
def vauX:AV->Option VauM
 | .vau m=>some m
 | _=>none
theorem vauX_s {a:AV} {m:VauM} (h:vauX a=some m):a=vauV m:=by
 unfold vauX at h;split at h<;>cases h;rfl
abbrev wrO_vau:=wrO vauV
abbrev rdO_vau:=rdO vauX
abbrev rdP_vau:=rdP vauX
instance:Cdc rdO_vau wrO_vau:=rdO_c vauX_s
instance:Cdc rdP_vau (fun m=>[.r (vauV m)]):=rdP_c vauX_s
def wrJ:Option JobM->Gs
 | none=>[.p .inil]
 | some (.pile j)=>[.i 88 (pileV j)]
 | some (.cort j)=>[.i 91 (cortV j)]
 | some (.lit j)=>[.i 94 (litV j)]
 | some (.vau j)=>[.i 97 (vauV j)]
 | some (.ste j)=>[.i 100 (steV j)]
def orJ {α:Type} (c:Bool) (X:AV->Option α) (k:α->JobM) (a:AV) (e:Option JobM):Option JobM:=match c with
 | true=>match X a with | some j=>some (k j) | none=>none
 | false=>e
theorem orJ_s {α:Type} {c:Bool} {X:AV->Option α} {V:α->AV} (hX:∀{a m},X a=some m->a=V m) {k:α->JobM} {a:AV} {e:Option JobM} {j:JobM} (h:orJ c X k a e=some j):(∃m,c=true /\ a=V m /\ j=k m) \/ e=some j:=by
 unfold orJ at h
 split at h
 ·split at h
  ·rename_i hm;cases h;exact .inl ⟨_,rfl,hX hm,rfl⟩
  ·cases h
 ·exact .inr h
def jobX (t:Nat) (a:AV):Option JobM:=orJ (Nat.beq t 88) pileX .pile a (orJ (Nat.beq t 91) cortX .cort a (orJ (Nat.beq t 94) litX .lit a (orJ (Nat.beq t 97) vauX .vau a (orJ (Nat.beq t 100) steX .ste a (none)))))
def rdJ:Gs->Option (Option JobM×Gs)
 | .p .inil::r=>some (none,r)
 | .i t a::r=>match jobX t a with | some j=>some (some j,r) | none=>none
 | _=>none
theorem rdJ_s {gs r:Gs} {m:Option JobM} (h:rdJ gs=some (m,r)):gs=wrJ m++r:=by
 unfold rdJ at h
 split at h
 ·cases h;rfl
 ·split at h
  ·rename_i hj
   cases h
   rcases orJ_s pileX_s hj with⟨m,e,rfl,rfl⟩ | hj
   ·have e:=(beq_iff _ _).1 e;subst e;rfl
   rcases orJ_s cortX_s hj with⟨m,e,rfl,rfl⟩ | hj
   ·have e:=(beq_iff _ _).1 e;subst e;rfl
   rcases orJ_s litX_s hj with⟨m,e,rfl,rfl⟩ | hj
   ·have e:=(beq_iff _ _).1 e;subst e;rfl
   rcases orJ_s vauX_s hj with⟨m,e,rfl,rfl⟩ | hj
   ·have e:=(beq_iff _ _).1 e;subst e;rfl
   rcases orJ_s steX_s hj with⟨m,e,rfl,rfl⟩ | hj
   ·have e:=(beq_iff _ _).1 e;subst e;rfl
   cases hj
  ·cases h
 ·cases h
instance:Cdc rdJ wrJ:=⟨rdJ_s⟩
def VerM.wr (x:VerM):Gs:=[.p (.it .i64 x.sort)]++([.p (.it .i64 x.engine)]++([.r (riteV x.rite)]++([.p (.it .i64 x.doing)]++(Cl.wr x.call++(O.wr x.op++(wrJ x.job++(An.wr x.answer)))))))
def VerM.rd (gs:Gs):Option (VerM×Gs):=(rdI gs).bind fun(x0,r0)=>(rdI r0).bind fun(x1,r1)=>(rdP_rite r1).bind fun(x2,r2)=>(rdI r2).bind fun(x3,r3)=>(Cl.rd r3).bind fun(x4,r4)=>(O.rd r4).bind fun(x5,r5)=>(rdJ r5).bind fun(x6,r6)=>(An.rd r6).bind fun(x7,r7)=>some (⟨x0,x1,x2,x3,x4,x5,x6,x7⟩,r7)
theorem VerM.rd_s {gs r:Gs} {x:VerM} (h:VerM.rd gs=some (x,r)):gs=VerM.wr x++r:=by
 unfold VerM.rd at h
 repeat (have e:=Cdc.bnd h;clear h;obtain⟨_,_,rfl,h⟩:=e)
 cases h
 simp only [VerM.wr,List.append_assoc,List.singleton_append,List.cons_append,List.nil_append]
instance:Cdc VerM.rd VerM.wr:=⟨VerM.rd_s⟩
abbrev tVer:Nat:=115
abbrev verV (m:VerM):AV:=.ver m
def verX:AV->Option VerM
 | .ver m=>some m
 | _=>none
theorem verX_s {a:AV} {m:VerM} (h:verX a=some m):a=verV m:=by
 unfold verX at h;split at h<;>cases h;rfl
abbrev wrO_ver:=wrO verV
abbrev rdO_ver:=rdO verX
abbrev rdP_ver:=rdP verX
instance:Cdc rdO_ver wrO_ver:=rdO_c verX_s
instance:Cdc rdP_ver (fun m=>[.r (verV m)]):=rdP_c verX_s
def rd_plot:Gs->Option (PlotM×Gs)
 | .r (.plot m)::r=>some (m,r)
 | _=>none
theorem rd_plot_s {gs r:Gs} {m:PlotM} (h:rd_plot gs=some (m,r)):gs=.r (.plot m)::r:=by
 unfold rd_plot at h;split at h<;>cases h;rfl
instance:Cdc rd_plot (fun m=>[.r (.plot m)]):=⟨rd_plot_s⟩
abbrev tRos:Nat:=64
def rosG:List RosM->Gs
 | []=>[]
 | x::r=>.r (.ver x.ver)::.s (.ops x.queue) kops.es::.p (.it .i64 x.given)::.p (.it .i64 x.last)::rosG r
abbrev rosV (l:List RosM):AV:=.oba 5 4 tRos (rosG l)
def rosR:Nat->Gs->Option (List RosM)
 | _,[]=>some []
 | n+1,.r (.ver v)::.s (.ops q) es::.p (.it .i64 g)::.p (.it .i64 l)::r=>match Nat.beq es kops.es with
   | true=>(match rosR n r with | some x=>some (⟨v,q,g,l⟩::x) | none=>none)
   | false=>none
 | _,_=>none
theorem rosR_s:∀{n:Nat} {gs:Gs} {l:List RosM},rosR n gs=some l->gs=rosG l:=by
 intro n
 induction n with
 | zero =>
   intro gs l h
   unfold rosR at h
   split at h
   ·cases h;rfl
   ·rename_i e;cases e
   ·cases h
 | succ n ih =>
   intro gs l h
   unfold rosR at h
   split at h
   ·cases h;rfl
   ·rename_i e
    cases e
    split at h
    ·rename_i e2
     have e2:=(beq_iff _ _).1 e2
     subst e2
     split at h
     ·rename_i y hy
      cases h
      rw [ih hy];rfl
     ·cases h
    ·cases h
   ·cases h
def rd_ros:Gs->Option (List RosM×Gs)
 | .s (.oba d es ty gs) e::r=>match Nat.beq d 5,Nat.beq es 4,Nat.beq ty tRos,Nat.beq e 4,rosR gs.length gs with
   | true,true,true,true,some l=>some (l,r)
   | _,_,_,_,_=>none
 | _=>none
theorem rd_ros_s {gs r:Gs} {l:List RosM} (h:rd_ros gs=some (l,r)):gs=.s (rosV l) 4::r:=by
 unfold rd_ros at h
 split at h
 ·split at h
  ·rename_i h1 h2 h3 h4 h5
   have h1:=(beq_iff _ _).1 h1
   have h2:=(beq_iff _ _).1 h2
   have h3:=(beq_iff _ _).1 h3
   have h4:=(beq_iff _ _).1 h4
   subst h1 h2 h3 h4
   cases h
   rw [rosR_s h5]
  ·cases h
 ·cases h
instance:Cdc rd_ros (fun l=>[.s (rosV l) 4]):=⟨rd_ros_s⟩
def ParM.wr (x:ParM):Gs:=[.p (.it .i64 x.sort)]++([.r (.plot x.plot)]++([.s (rosV x.threads) 4]++([.s (.beats x.beats) kbeats.es])))
def ParM.rd (gs:Gs):Option (ParM×Gs):=(rdI gs).bind fun(x0,r0)=>(rd_plot r0).bind fun(x1,r1)=>(rd_ros r1).bind fun(x2,r2)=>(rd_beats r2).bind fun(x3,r3)=>some (⟨x0,x1,x2,x3⟩,r3)
theorem ParM.rd_s {gs r:Gs} {x:ParM} (h:ParM.rd gs=some (x,r)):gs=ParM.wr x++r:=by
 unfold ParM.rd at h
 repeat (have e:=Cdc.bnd h;clear h;obtain⟨_,_,rfl,h⟩:=e)
 cases h
 simp only [ParM.wr,List.append_assoc,List.singleton_append,List.cons_append,List.nil_append]
instance:Cdc ParM.rd ParM.wr:=⟨ParM.rd_s⟩
abbrev tPar:Nat:=60
abbrev parV (m:ParM):AV:=.par m
def parX:AV->Option ParM
 | .par m=>some m
 | _=>none
theorem parX_s {a:AV} {m:ParM} (h:parX a=some m):a=parV m:=by
 unfold parX at h;split at h<;>cases h;rfl
abbrev wrO_par:=wrO parV
abbrev rdO_par:=rdO parX
abbrev rdP_par:=rdP parX
instance:Cdc rdO_par wrO_par:=rdO_c parX_s
instance:Cdc rdP_par (fun m=>[.r (parV m)]):=rdP_c parX_s
def AV.ob:AV->Option (Nat×TypeId×Gs)
 | .rite m=>some (1,tRite,RiteM.wr m)
 | .pile m=>some (1,tPile,PileM.wr m)
 | .cort m=>some (1,tCort,CortM.wr m)
 | .walk m=>some (1,tWalk,WalkM.wr m)
 | .lit m=>some (2,tLit,LitM.wr m)
 | .climb m=>some (1,tClimb,ClimbM.wr m)
 | .ste m=>some (2,tSte,SteM.wr m)
 | .vau m=>some (3,tVau,VauM.wr m)
 | .ver m=>some (4,tVer,VerM.wr m)
 | .par m=>some (6,tPar,ParM.wr m)
 | _=>none
def orR {α:Type} (c:Bool) (rd:Gs->Option (α×Gs)) (k:α->AV) (gs:Gs) (e:Option AV):Option AV:=match c with
 | true=>match rd gs with | some (m,[])=>some (k m) | _=>none
 | false=>e
theorem orR_s {α:Type} {c:Bool} {rd:Gs->Option (α×Gs)} {w:α->Gs} [Cdc rd w] {k:α->AV} {gs:Gs} {e:Option AV} {a:AV} (h:orR c rd k gs e=some a):(∃m,c=true /\ gs=w m /\ a=k m) \/ e=some a:=by
 unfold orR at h
 split at h
 ·split at h
  ·rename_i hm;cases h;exact .inl ⟨_,rfl,by rw [Cdc.s hm,List.append_nil],rfl⟩
  ·cases h
 ·exact .inr h
def mkO (ty:TypeId) (gs:Gs):Option AV:=orR (Nat.beq ty tRite) RiteM.rd .rite gs (orR (Nat.beq ty tPile) PileM.rd .pile gs (orR (Nat.beq ty tCort) CortM.rd .cort gs (orR (Nat.beq ty tWalk) WalkM.rd .walk gs (orR (Nat.beq ty tLit) LitM.rd .lit gs (orR (Nat.beq ty tClimb) ClimbM.rd .climb gs (orR (Nat.beq ty tSte) SteM.rd .ste gs (orR (Nat.beq ty tVau) VauM.rd .vau gs (orR (Nat.beq ty tVer) VerM.rd .ver gs (orR (Nat.beq ty tPar) ParM.rd .par gs (none))))))))))
theorem mkO_ok {ty:TypeId} {gs:Gs} {a:AV} (h:mkO ty gs=some a):∃d,a.ob=some (d,ty,gs):=by
 unfold mkO at h
 rcases orR_s h with⟨m,e,rfl,rfl⟩ | h
 ·have e:=(beq_iff _ _).1 e;subst e;exact⟨_,rfl⟩
 rcases orR_s h with⟨m,e,rfl,rfl⟩ | h
 ·have e:=(beq_iff _ _).1 e;subst e;exact⟨_,rfl⟩
 rcases orR_s h with⟨m,e,rfl,rfl⟩ | h
 ·have e:=(beq_iff _ _).1 e;subst e;exact⟨_,rfl⟩
 rcases orR_s h with⟨m,e,rfl,rfl⟩ | h
 ·have e:=(beq_iff _ _).1 e;subst e;exact⟨_,rfl⟩
 rcases orR_s h with⟨m,e,rfl,rfl⟩ | h
 ·have e:=(beq_iff _ _).1 e;subst e;exact⟨_,rfl⟩
 rcases orR_s h with⟨m,e,rfl,rfl⟩ | h
 ·have e:=(beq_iff _ _).1 e;subst e;exact⟨_,rfl⟩
 rcases orR_s h with⟨m,e,rfl,rfl⟩ | h
 ·have e:=(beq_iff _ _).1 e;subst e;exact⟨_,rfl⟩
 rcases orR_s h with⟨m,e,rfl,rfl⟩ | h
 ·have e:=(beq_iff _ _).1 e;subst e;exact⟨_,rfl⟩
 rcases orR_s h with⟨m,e,rfl,rfl⟩ | h
 ·have e:=(beq_iff _ _).1 e;subst e;exact⟨_,rfl⟩
 rcases orR_s h with⟨m,e,rfl,rfl⟩ | h
 ·have e:=(beq_iff _ _).1 e;subst e;exact⟨_,rfl⟩
 cases h
end Go.Proofs.YtcpdipfepeccgaaGreatDoor
