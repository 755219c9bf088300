import Derived.Test.YtadmfaohjnjajaaGreatDoorMd
import Derived.Test.YtadmfaohjnjajaaGreatDoorSxM
import Derived.Test.YtadmfaohjnjajaaGreatDoorSxOf
set_option linter.unusedVariables false
set_option linter.unusedSimpArgs false
set_option maxHeartbeats 0
set_option maxRecDepth 100000
namespace Go.Proofs.YtadmfaohjnjajaaGreatDoor
open Go Go.Sx Go.Proofs
abbrev Gs:=List (GC AV)
def mm:Gs->Option (Int×Gs)
 | .p (.it .i64 n)::r=>some (n,r)
 | _=>none
theorem akG {gs r:Gs} {n:Int} (h:mm gs=some (n,r)):gs=.p (.it .i64 n)::r:=by
 unfold mm at h;split at h<;>cases h;rfl
def rdB:Gs->Option (Bool×Gs)
 | .p (.bt b)::r=>some (b,r)
 | _=>none
theorem akH {gs r:Gs} {b:Bool} (h:rdB gs=some (b,r)):gs=.p (.bt b)::r:=by
 unfold rdB at h;split at h<;>cases h;rfl
class jq {α:Type} (f:Gs->Option (α×Gs)) (w:outParam (α->Gs)):Prop where
 s:∀{gs r:Gs} {x:α},f gs=some (x,r)->gs=w x++r
theorem jq.Il {α β:Type} {f:Gs->Option (α×Gs)} {w:α->Gs} [jq f w] {gs:Gs} {k:α×Gs->Option β} {y:β} (h:(f gs).bind k=some y):∃x r,gs=w x++r /\ k (x,r)=some y:=by
 obtain⟨⟨x,r⟩,h0,h⟩:=abi.1 h
 exact⟨x,r,jq.s h0,h⟩
def TQ {α:Type} (V:α->AV):Option α->Gs
 | none=>[.p .iK]
 | some m=>[.r (V m)]
def Tt {α:Type} (X:AV->Option α):Gs->Option (Option α×Gs)
 | .p .iK::r=>some (none,r)
 | .r a::r=>match X a with | some m=>some (some m,r) | none=>none
 | _=>none
def Ts {α:Type} (X:AV->Option α):Gs->Option (α×Gs)
 | .r a::r=>match X a with | some m=>some (m,r) | none=>none
 | _=>none
theorem wT {α:Type} {X:AV->Option α} {V:α->AV} (hX:∀{a m},X a=some m->a=V m):jq (Tt X) (TQ V):=⟨fun {gs r x} h=>by
 unfold Tt at h
 split at h
 ·cases h;rfl
 ·split at h
  ·rename_i hm;cases h;rw [hX hm];rfl
  ·cases h
 ·cases h⟩
theorem wS {α:Type} {X:AV->Option α} {V:α->AV} (hX:∀{a m},X a=some m->a=V m):jq (Ts X) (fun m=>[.r (V m)]):=⟨fun {gs r x} h=>by
 unfold Ts at h
 split at h
 ·split at h
  ·rename_i hm;cases h;rw [hX hm];rfl
  ·cases h
 ·cases h⟩
instance:jq mm (fun n=>[.p (.it .i64 n)]):=⟨akG⟩
instance:jq rdB (fun n=>[.p (.bt n)]):=⟨akH⟩
def yE:Gs->Option (List W×Gs)
 | .s (.eU l) es::r=>match Nat.beq es dS.es with | true=>some (l,r) | false=>none
 | _=>none
theorem NQ {gs r:Gs} {l:List W} (h:yE gs=some (l,r)):gs=.s (.eU l) dS.es::r:=by
 unfold yE at h
 split at h
 ·split at h
  ·rename_i e;have e:=(aC _ _).1 e;subst e;cases h;rfl
  ·cases h
 ·cases h
instance:jq yE (fun l=>[.s (.eU l) dS.es]):=⟨NQ⟩
def ue:Gs->Option (List Nt×Gs)
 | .s (.notes l) es::r=>match Nat.beq es bj.es with | true=>some (l,r) | false=>none
 | _=>none
theorem NS {gs r:Gs} {l:List Nt} (h:ue gs=some (l,r)):gs=.s (.notes l) bj.es::r:=by
 unfold ue at h
 split at h
 ·split at h
  ·rename_i e;have e:=(aC _ _).1 e;subst e;cases h;rfl
  ·cases h
 ·cases h
instance:jq ue (fun l=>[.s (.notes l) bj.es]):=⟨NS⟩
def NR:Gs->Option (List O×Gs)
 | .s (.bZ l) es::r=>match Nat.beq es rM.es with | true=>some (l,r) | false=>none
 | _=>none
theorem Vz {gs r:Gs} {l:List O} (h:NR gs=some (l,r)):gs=.s (.bZ l) rM.es::r:=by
 unfold NR at h
 split at h
 ·split at h
  ·rename_i e;have e:=(aC _ _).1 e;subst e;cases h;rfl
  ·cases h
 ·cases h
instance:jq NR (fun l=>[.s (.bZ l) rM.es]):=⟨Vz⟩
def yF:Gs->Option (List Bt×Gs)
 | .s (.kA l) es::r=>match Nat.beq es mB.es with | true=>some (l,r) | false=>none
 | _=>none
theorem NT {gs r:Gs} {l:List Bt} (h:yF gs=some (l,r)):gs=.s (.kA l) mB.es::r:=by
 unfold yF at h
 split at h
 ·split at h
  ·rename_i e;have e:=(aC _ _).1 e;subst e;cases h;rfl
  ·cases h
 ·cases h
instance:jq yF (fun l=>[.s (.kA l) mB.es]):=⟨NT⟩
def W.wr (x:W):Gs:=[.p (.it .i64 x.af)]++([.p (.it .i64 x.gen)]++([.p (.it .i64 x.tag)]++([.p (.it .i64 x.bS)]++([.p (.bt x.mark)]))))
def W.rd (gs:Gs):Option (W×Gs):=(mm gs).bind fun(x0,r0)=>(mm r0).bind fun(x1,r1)=>(mm r1).bind fun(x2,r2)=>(mm r2).bind fun(x3,r3)=>(rdB r3).bind fun(x4,r4)=>some (⟨x0,x1,x2,x3,x4⟩,r4)
theorem W.gK {gs r:Gs} {x:W} (h:W.rd gs=some (x,r)):gs=W.wr x++r:=by
 unfold W.rd at h
 repeat (have e:=jq.Il h;clear h;obtain⟨_,_,rfl,h⟩:=e)
 cases h
 simp only [W.wr,acC,acS,adF,acM]
instance:jq W.rd W.wr:=⟨W.gK⟩
def O.wr (x:O):Gs:=[.p (.it .i64 x.aj)]++([.p (.it .i64 x.key)]++([.p (.it .i64 x.val)]++([.p (.it .i64 x.bO)])))
def O.rd (gs:Gs):Option (O×Gs):=(mm gs).bind fun(x0,r0)=>(mm r0).bind fun(x1,r1)=>(mm r1).bind fun(x2,r2)=>(mm r2).bind fun(x3,r3)=>some (⟨x0,x1,x2,x3⟩,r3)
theorem O.gK {gs r:Gs} {x:O} (h:O.rd gs=some (x,r)):gs=O.wr x++r:=by
 unfold O.rd at h
 repeat (have e:=jq.Il h;clear h;obtain⟨_,_,rfl,h⟩:=e)
 cases h
 simp only [O.wr,acC,acS,adF,acM]
instance:jq O.rd O.wr:=⟨O.gK⟩
def Sp.wr (x:Sp):Gs:=[.p (.bt x.is)]++([.p (.it .i64 x.BD)]++([.p (.it .i64 x.Jy)]))
def Sp.rd (gs:Gs):Option (Sp×Gs):=(rdB gs).bind fun(x0,r0)=>(mm r0).bind fun(x1,r1)=>(mm r1).bind fun(x2,r2)=>some (⟨x0,x1,x2⟩,r2)
theorem Sp.gK {gs r:Gs} {x:Sp} (h:Sp.rd gs=some (x,r)):gs=Sp.wr x++r:=by
 unfold Sp.rd at h
 repeat (have e:=jq.Il h;clear h;obtain⟨_,_,rfl,h⟩:=e)
 cases h
 simp only [Sp.wr,acC,acS,adF,acM]
instance:jq Sp.rd Sp.wr:=⟨Sp.gK⟩
def Ad.wr (x:Ad):Gs:=[.p (.it .i64 x.s)]++([.p (.it .i64 x.g)]++([.p (.it .i64 x.f)]))
def Ad.rd (gs:Gs):Option (Ad×Gs):=(mm gs).bind fun(x0,r0)=>(mm r0).bind fun(x1,r1)=>(mm r1).bind fun(x2,r2)=>some (⟨x0,x1,x2⟩,r2)
theorem Ad.gK {gs r:Gs} {x:Ad} (h:Ad.rd gs=some (x,r)):gs=Ad.wr x++r:=by
 unfold Ad.rd at h
 repeat (have e:=jq.Il h;clear h;obtain⟨_,_,rfl,h⟩:=e)
 cases h
 simp only [Ad.wr,acC,acS,adF,acM]
instance:jq Ad.rd Ad.wr:=⟨Ad.gK⟩
def An.wr (x:An):Gs:=[.p (.it .i64 x.Cd)]++([.p (.it .i64 x.val)])
def An.rd (gs:Gs):Option (An×Gs):=(mm gs).bind fun(x0,r0)=>(mm r0).bind fun(x1,r1)=>some (⟨x0,x1⟩,r1)
theorem An.gK {gs r:Gs} {x:An} (h:An.rd gs=some (x,r)):gs=An.wr x++r:=by
 unfold An.rd at h
 repeat (have e:=jq.Il h;clear h;obtain⟨_,_,rfl,h⟩:=e)
 cases h
 simp only [An.wr,acC,acS,adF,acM]
instance:jq An.rd An.wr:=⟨An.gK⟩
def oU.wr (x:oU):Gs:=[.p (.it .i64 x.aj)]++([.p (.it .i64 x.s)]++([.p (.it .i64 x.g)]++([.p (.it .i64 x.f)]++(W.wr x.cU++(W.wr x.new)))))
def oU.rd (gs:Gs):Option (oU×Gs):=(mm gs).bind fun(x0,r0)=>(mm r0).bind fun(x1,r1)=>(mm r1).bind fun(x2,r2)=>(mm r2).bind fun(x3,r3)=>(W.rd r3).bind fun(x4,r4)=>(W.rd r4).bind fun(x5,r5)=>some (⟨x0,x1,x2,x3,x4,x5⟩,r5)
theorem oU.gK {gs r:Gs} {x:oU} (h:oU.rd gs=some (x,r)):gs=oU.wr x++r:=by
 unfold oU.rd at h
 repeat (have e:=jq.Il h;clear h;obtain⟨_,_,rfl,h⟩:=e)
 cases h
 simp only [oU.wr,acC,acS,adF,acM]
instance:jq oU.rd oU.wr:=⟨oU.gK⟩
def cr.wr (x:cr):Gs:=W.wr x.w++([.p (.bt x.ok)])
def cr.rd (gs:Gs):Option (cr×Gs):=(W.rd gs).bind fun(x0,r0)=>(rdB r0).bind fun(x1,r1)=>some (⟨x0,x1⟩,r1)
theorem cr.gK {gs r:Gs} {x:cr} (h:cr.rd gs=some (x,r)):gs=cr.wr x++r:=by
 unfold cr.rd at h
 repeat (have e:=jq.Il h;clear h;obtain⟨_,_,rfl,h⟩:=e)
 cases h
 simp only [cr.wr,acC,acS,adF,acM]
instance:jq cr.rd cr.wr:=⟨cr.gK⟩
def Cl.wr (x:Cl):Gs:=[.p (.it .i64 x.aj)]++(Ad.wr x.cW++(W.wr x.cU++(W.wr x.new++([.p (.it .i64 x.i)]++([.p (.it .i64 x.j)]++(An.wr x.p9))))))
def Cl.rd (gs:Gs):Option (Cl×Gs):=(mm gs).bind fun(x0,r0)=>(Ad.rd r0).bind fun(x1,r1)=>(W.rd r1).bind fun(x2,r2)=>(W.rd r2).bind fun(x3,r3)=>(mm r3).bind fun(x4,r4)=>(mm r4).bind fun(x5,r5)=>(An.rd r5).bind fun(x6,r6)=>some (⟨x0,x1,x2,x3,x4,x5,x6⟩,r6)
theorem Cl.gK {gs r:Gs} {x:Cl} (h:Cl.rd gs=some (x,r)):gs=Cl.wr x++r:=by
 unfold Cl.rd at h
 repeat (have e:=jq.Il h;clear h;obtain⟨_,_,rfl,h⟩:=e)
 cases h
 simp only [Cl.wr,acC,acS,adF,acM]
instance:jq Cl.rd Cl.wr:=⟨Cl.gK⟩
def H9.wr (x:H9):Gs:=W.wr x.h0++(W.wr x.h1++(W.wr x.h2++(W.wr x.h3++(W.wr x.h4++(W.wr x.h5++(W.wr x.h6++(W.wr x.h7++(W.wr x.h8))))))))
def H9.rd (gs:Gs):Option (H9×Gs):=(W.rd gs).bind fun(x0,r0)=>(W.rd r0).bind fun(x1,r1)=>(W.rd r1).bind fun(x2,r2)=>(W.rd r2).bind fun(x3,r3)=>(W.rd r3).bind fun(x4,r4)=>(W.rd r4).bind fun(x5,r5)=>(W.rd r5).bind fun(x6,r6)=>(W.rd r6).bind fun(x7,r7)=>(W.rd r7).bind fun(x8,r8)=>some (⟨x0,x1,x2,x3,x4,x5,x6,x7,x8⟩,r8)
theorem H9.gK {gs r:Gs} {x:H9} (h:H9.rd gs=some (x,r)):gs=H9.wr x++r:=by
 unfold H9.rd at h
 repeat (have e:=jq.Il h;clear h;obtain⟨_,_,rfl,h⟩:=e)
 cases h
 simp only [H9.wr,acC,acS,adF,acM]
instance:jq H9.rd H9.wr:=⟨H9.gK⟩
def S3.wr (x:S3):Gs:=Ad.wr x.p0++(W.wr x.c0++(Ad.wr x.p1++(W.wr x.c1++(Ad.wr x.p2++(W.wr x.c2)))))
def S3.rd (gs:Gs):Option (S3×Gs):=(Ad.rd gs).bind fun(x0,r0)=>(W.rd r0).bind fun(x1,r1)=>(Ad.rd r1).bind fun(x2,r2)=>(W.rd r2).bind fun(x3,r3)=>(Ad.rd r3).bind fun(x4,r4)=>(W.rd r4).bind fun(x5,r5)=>some (⟨x0,x1,x2,x3,x4,x5⟩,r5)
theorem S3.gK {gs r:Gs} {x:S3} (h:S3.rd gs=some (x,r)):gs=S3.wr x++r:=by
 unfold S3.rd at h
 repeat (have e:=jq.Il h;clear h;obtain⟨_,_,rfl,h⟩:=e)
 cases h
 simp only [S3.wr,acC,acS,adF,acM]
instance:jq S3.rd S3.wr:=⟨S3.gK⟩
def au.wr (x:au):Gs:=Cl.wr x.call++([.p (.it .i64 x.step)]++(oU.wr x.acc++(W.wr x.word++(W.wr x.clock++([.p (.it .i64 x.index)]++([.s (.eU x.seen) dS.es]++([.s (.notes x.aP) bj.es]++([.p (.it .i64 x.ax)]++([.p (.it .i64 x.me)]++([.p (.it .i64 x.cR)]++([.p (.it .i64 x.most)]++(H9.wr x.holds++(Sp.wr x.span++([.s (.notes x.notes) bj.es]++([.p (.it .i64 x.dK)]++(cr.wr x.bz))))))))))))))))
def au.rd (gs:Gs):Option (au×Gs):=(Cl.rd gs).bind fun(x0,r0)=>(mm r0).bind fun(x1,r1)=>(oU.rd r1).bind fun(x2,r2)=>(W.rd r2).bind fun(x3,r3)=>(W.rd r3).bind fun(x4,r4)=>(mm r4).bind fun(x5,r5)=>(yE r5).bind fun(x6,r6)=>(ue r6).bind fun(x7,r7)=>(mm r7).bind fun(x8,r8)=>(mm r8).bind fun(x9,r9)=>(mm r9).bind fun(x10,r10)=>(mm r10).bind fun(x11,r11)=>(H9.rd r11).bind fun(x12,r12)=>(Sp.rd r12).bind fun(x13,r13)=>(ue r13).bind fun(x14,r14)=>(mm r14).bind fun(x15,r15)=>(cr.rd r15).bind fun(x16,r16)=>some (⟨x0,x1,x2,x3,x4,x5,x6,x7,x8,x9,x10,x11,x12,x13,x14,x15,x16⟩,r16)
theorem au.gK {gs r:Gs} {x:au} (h:au.rd gs=some (x,r)):gs=au.wr x++r:=by
 unfold au.rd at h
 repeat (have e:=jq.Il h;clear h;obtain⟨_,_,rfl,h⟩:=e)
 cases h
 simp only [au.wr,acC,acS,adF,acM]
instance:jq au.rd au.wr:=⟨au.gK⟩
abbrev fg:Nat:=141
abbrev gV (m:au):AV:=.aQ m
def GD:AV->Option au
 | .aQ m=>some m
 | _=>none
theorem Cv {a:AV} {m:au} (h:GD a=some m):a=gV m:=by
 unfold GD at h;split at h<;>cases h;rfl
abbrev TN:=TQ gV
abbrev VF:=Tt GD
abbrev KX:=Ts GD
instance:jq VF TN:=wT Cv
instance:jq KX (fun m=>[.r (gV m)]):=wS Cv
def dr.wr (x:dr):Gs:=[.p (.it .i64 x.pc)]++(Cl.wr x.last++(O.wr x.op++(W.wr x.node++(W.wr x.top++([.p (.it .i64 x.val)])))))
def dr.rd (gs:Gs):Option (dr×Gs):=(mm gs).bind fun(x0,r0)=>(Cl.rd r0).bind fun(x1,r1)=>(O.rd r1).bind fun(x2,r2)=>(W.rd r2).bind fun(x3,r3)=>(W.rd r3).bind fun(x4,r4)=>(mm r4).bind fun(x5,r5)=>some (⟨x0,x1,x2,x3,x4,x5⟩,r5)
theorem dr.gK {gs r:Gs} {x:dr} (h:dr.rd gs=some (x,r)):gs=dr.wr x++r:=by
 unfold dr.rd at h
 repeat (have e:=jq.Il h;clear h;obtain⟨_,_,rfl,h⟩:=e)
 cases h
 simp only [dr.wr,acC,acS,adF,acM]
instance:jq dr.rd dr.wr:=⟨dr.gK⟩
abbrev Ky:Nat:=155
abbrev GJ (m:dr):AV:=.dZ m
def GI:AV->Option dr
 | .dZ m=>some m
 | _=>none
theorem Cz {a:AV} {m:dr} (h:GI a=some m):a=GJ m:=by
 unfold GI at h;split at h<;>cases h;rfl
abbrev TO:=TQ GJ
abbrev VG:=Tt GI
abbrev VB:=Ts GI
instance:jq VG TO:=wT Cz
instance:jq VB (fun m=>[.r (GJ m)]):=wS Cz
def cY.wr (x:cY):Gs:=[.p (.it .i64 x.pc)]++(Cl.wr x.last++(O.wr x.op++(W.wr x.node++(W.wr x.h++(W.wr x.t++(W.wr x.n++([.p (.it .i64 x.val)])))))))
def cY.rd (gs:Gs):Option (cY×Gs):=(mm gs).bind fun(x0,r0)=>(Cl.rd r0).bind fun(x1,r1)=>(O.rd r1).bind fun(x2,r2)=>(W.rd r2).bind fun(x3,r3)=>(W.rd r3).bind fun(x4,r4)=>(W.rd r4).bind fun(x5,r5)=>(W.rd r5).bind fun(x6,r6)=>(mm r6).bind fun(x7,r7)=>some (⟨x0,x1,x2,x3,x4,x5,x6,x7⟩,r7)
theorem cY.gK {gs r:Gs} {x:cY} (h:cY.rd gs=some (x,r)):gs=cY.wr x++r:=by
 unfold cY.rd at h
 repeat (have e:=jq.Il h;clear h;obtain⟨_,_,rfl,h⟩:=e)
 cases h
 simp only [cY.wr,acC,acS,adF,acM]
instance:jq cY.rd cY.wr:=⟨cY.gK⟩
abbrev KA:Nat:=159
abbrev H6 (m:cY):AV:=.dH m
def H5:AV->Option cY
 | .dH m=>some m
 | _=>none
theorem CK {a:AV} {m:cY} (h:H5 a=some m):a=H6 m:=by
 unfold H5 at h;split at h<;>cases h;rfl
abbrev TP:=TQ H6
abbrev VH:=Tt H5
abbrev VC:=Ts H5
instance:jq VH TP:=wT CK
instance:jq VC (fun m=>[.r (H6 m)]):=wS CK
def bm.wr (x:bm):Gs:=[.p (.it .i64 x.pc)]++(Cl.wr x.last++(Ad.wr x.start++([.p (.it .i64 x.key)]++(Ad.wr x.prev++(W.wr x.cur++(W.wr x.next++([.p (.it .i64 x.k)]++([.p (.bt x.found)]))))))))
def bm.rd (gs:Gs):Option (bm×Gs):=(mm gs).bind fun(x0,r0)=>(Cl.rd r0).bind fun(x1,r1)=>(Ad.rd r1).bind fun(x2,r2)=>(mm r2).bind fun(x3,r3)=>(Ad.rd r3).bind fun(x4,r4)=>(W.rd r4).bind fun(x5,r5)=>(W.rd r5).bind fun(x6,r6)=>(mm r6).bind fun(x7,r7)=>(rdB r7).bind fun(x8,r8)=>some (⟨x0,x1,x2,x3,x4,x5,x6,x7,x8⟩,r8)
theorem bm.gK {gs r:Gs} {x:bm} (h:bm.rd gs=some (x,r)):gs=bm.wr x++r:=by
 unfold bm.rd at h
 repeat (have e:=jq.Il h;clear h;obtain⟨_,_,rfl,h⟩:=e)
 cases h
 simp only [bm.wr,acC,acS,adF,acM]
instance:jq bm.rd bm.wr:=⟨bm.gK⟩
abbrev yp:Nat:=262
abbrev CS (m:bm):AV:=.walk m
def Kh:AV->Option bm
 | .walk m=>some m
 | _=>none
theorem Iw {a:AV} {m:bm} (h:Kh a=some m):a=CS m:=by
 unfold Kh at h;split at h<;>cases h;rfl
abbrev CQ:=TQ CS
abbrev Dx:=Tt Kh
abbrev VA:=Ts Kh
instance:jq Dx CQ:=wT Iw
instance:jq VA (fun m=>[.r (CS m)]):=wS Iw
def cM.wr (x:cM):Gs:=[.p (.it .i64 x.pc)]++(Cl.wr x.last++(Ad.wr x.start++([.p (.it .i64 x.key)]++(O.wr x.op++(CQ x.walk++(W.wr x.node++([.p (.it .i64 x.val)])))))))
def cM.rd (gs:Gs):Option (cM×Gs):=(mm gs).bind fun(x0,r0)=>(Cl.rd r0).bind fun(x1,r1)=>(Ad.rd r1).bind fun(x2,r2)=>(mm r2).bind fun(x3,r3)=>(O.rd r3).bind fun(x4,r4)=>(Dx r4).bind fun(x5,r5)=>(W.rd r5).bind fun(x6,r6)=>(mm r6).bind fun(x7,r7)=>some (⟨x0,x1,x2,x3,x4,x5,x6,x7⟩,r7)
theorem cM.gK {gs r:Gs} {x:cM} (h:cM.rd gs=some (x,r)):gs=cM.wr x++r:=by
 unfold cM.rd at h
 repeat (have e:=jq.Il h;clear h;obtain⟨_,_,rfl,h⟩:=e)
 cases h
 simp only [cM.wr,acC,acS,adF,acM]
instance:jq cM.rd cM.wr:=⟨cM.gK⟩
abbrev Nj:Nat:=211
abbrev Ob (m:cM):AV:=.lit m
def Sf:AV->Option cM
 | .lit m=>some m
 | _=>none
theorem Jn {a:AV} {m:cM} (h:Sf a=some m):a=Ob m:=by
 unfold Sf at h;split at h<;>cases h;rfl
abbrev Pb:=TQ Ob
abbrev PM:=Tt Sf
abbrev aaq:=Ts Sf
instance:jq PM Pb:=wT Jn
instance:jq aaq (fun m=>[.r (Ob m)]):=wS Jn
def aN.wr (x:aN):Gs:=[.p (.it .i64 x.pc)]++(Cl.wr x.last++(Ad.wr x.prev++(W.wr x.cur++([.p (.it .i64 x.BS)]++([.p (.it .i64 x.level)]++(W.wr x.next++([.p (.it .i64 x.k)]++(S3.wr x.eo++(W.wr x.found)))))))))
def aN.rd (gs:Gs):Option (aN×Gs):=(mm gs).bind fun(x0,r0)=>(Cl.rd r0).bind fun(x1,r1)=>(Ad.rd r1).bind fun(x2,r2)=>(W.rd r2).bind fun(x3,r3)=>(mm r3).bind fun(x4,r4)=>(mm r4).bind fun(x5,r5)=>(W.rd r5).bind fun(x6,r6)=>(mm r6).bind fun(x7,r7)=>(S3.rd r7).bind fun(x8,r8)=>(W.rd r8).bind fun(x9,r9)=>some (⟨x0,x1,x2,x3,x4,x5,x6,x7,x8,x9⟩,r9)
theorem aN.gK {gs r:Gs} {x:aN} (h:aN.rd gs=some (x,r)):gs=aN.wr x++r:=by
 unfold aN.rd at h
 repeat (have e:=jq.Il h;clear h;obtain⟨_,_,rfl,h⟩:=e)
 cases h
 simp only [aN.wr,acC,acS,adF,acM]
instance:jq aN.rd aN.wr:=⟨aN.gK⟩
abbrev mg:Nat:=285
abbrev qR (m:aN):AV:=.kz m
def EZ:AV->Option aN
 | .kz m=>some m
 | _=>none
theorem EY {a:AV} {m:aN} (h:EZ a=some m):a=qR m:=by
 unfold EZ at h;split at h<;>cases h;rfl
abbrev Gi:=TQ qR
abbrev GG:=Tt EZ
abbrev RL:=Ts EZ
instance:jq GG Gi:=wT EY
instance:jq RL (fun m=>[.r (qR m)]):=wS EY
def cd.wr (x:cd):Gs:=[.p (.it .i64 x.pc)]++(Cl.wr x.last++(O.wr x.op++(Gi x.kz++(W.wr x.node++([.p (.it .i64 x.level)]++([.p (.it .i64 x.inc)]++([.p (.it .i64 x.val)])))))))
def cd.rd (gs:Gs):Option (cd×Gs):=(mm gs).bind fun(x0,r0)=>(Cl.rd r0).bind fun(x1,r1)=>(O.rd r1).bind fun(x2,r2)=>(GG r2).bind fun(x3,r3)=>(W.rd r3).bind fun(x4,r4)=>(mm r4).bind fun(x5,r5)=>(mm r5).bind fun(x6,r6)=>(mm r6).bind fun(x7,r7)=>some (⟨x0,x1,x2,x3,x4,x5,x6,x7⟩,r7)
theorem cd.gK {gs r:Gs} {x:cd} (h:cd.rd gs=some (x,r)):gs=cd.wr x++r:=by
 unfold cd.rd at h
 repeat (have e:=jq.Il h;clear h;obtain⟨_,_,rfl,h⟩:=e)
 cases h
 simp only [cd.wr,acC,acS,adF,acM]
instance:jq cd.rd cd.wr:=⟨cd.gK⟩
abbrev tU:Nat:=173
abbrev Df (m:cd):AV:=.oM m
def Ry:AV->Option cd
 | .oM m=>some m
 | _=>none
theorem IL {a:AV} {m:cd} (h:Ry a=some m):a=Df m:=by
 unfold Ry at h;split at h<;>cases h;rfl
abbrev Zu:=TQ Df
abbrev aat:=Tt Ry
abbrev aao:=Ts Ry
instance:jq aat Zu:=wT IL
instance:jq aao (fun m=>[.r (Df m)]):=wS IL
def bW.wr (x:bW):Gs:=[.p (.it .i64 x.pc)]++(Cl.wr x.last++(O.wr x.op++([.p (.it .i64 x.size)]++([.p (.it .i64 x.wanted)]++([.p (.it .i64 x.bucket)]++([.p (.it .i64 x.child)]++(W.wr x.base++(W.wr x.node++(W.wr x.sentinel++(CQ x.walk++(Pb x.inner++(An.wr x.answer++(W.wr x.count)))))))))))))
def bW.rd (gs:Gs):Option (bW×Gs):=(mm gs).bind fun(x0,r0)=>(Cl.rd r0).bind fun(x1,r1)=>(O.rd r1).bind fun(x2,r2)=>(mm r2).bind fun(x3,r3)=>(mm r3).bind fun(x4,r4)=>(mm r4).bind fun(x5,r5)=>(mm r5).bind fun(x6,r6)=>(W.rd r6).bind fun(x7,r7)=>(W.rd r7).bind fun(x8,r8)=>(W.rd r8).bind fun(x9,r9)=>(Dx r9).bind fun(x10,r10)=>(PM r10).bind fun(x11,r11)=>(An.rd r11).bind fun(x12,r12)=>(W.rd r12).bind fun(x13,r13)=>some (⟨x0,x1,x2,x3,x4,x5,x6,x7,x8,x9,x10,x11,x12,x13⟩,r13)
theorem bW.gK {gs r:Gs} {x:bW} (h:bW.rd gs=some (x,r)):gs=bW.wr x++r:=by
 unfold bW.rd at h
 repeat (have e:=jq.Il h;clear h;obtain⟨_,_,rfl,h⟩:=e)
 cases h
 simp only [bW.wr,acC,acS,adF,acM]
instance:jq bW.rd bW.wr:=⟨bW.gK⟩
abbrev Kw:Nat:=168
abbrev IB (m:bW):AV:=.ph m
def Q7:AV->Option bW
 | .ph m=>some m
 | _=>none
theorem IA {a:AV} {m:bW} (h:Q7 a=some m):a=IB m:=by
 unfold Q7 at h;split at h<;>cases h;rfl
abbrev Zt:=TQ IB
abbrev aas:=Tt Q7
abbrev aan:=Ts Q7
instance:jq aas Zt:=wT IA
instance:jq aan (fun m=>[.r (IB m)]):=wS IA
def wrJ:Option dU->Gs
 | none=>[.p .fL]
 | some (.dZ j)=>[.i 96 (GJ j)]
 | some (.dH j)=>[.i 99 (H6 j)]
 | some (.lit j)=>[.i 102 (Ob j)]
 | some (.ph j)=>[.i 105 (IB j)]
 | some (.oM j)=>[.i 108 (Df j)]
def orJ {α:Type} (c:Bool) (X:AV->Option α) (k:α->dU) (a:AV) (e:Option dU):Option dU:=match c with
 | true=>match X a with | some j=>some (k j) | none=>none
 | false=>e
theorem K4 {α:Type} {c:Bool} {X:AV->Option α} {V:α->AV} (hX:∀{a m},X a=some m->a=V m) {k:α->dU} {a:AV} {e:Option dU} {j:dU} (h:orJ c X k a e=some j):(∃m,c=true /\ a=V m /\ j=k m) \/ e=some j:=by
 unfold orJ at h
 split at h
 ·split at h
  ·rename_i hm;cases h;exact .inl ⟨_,rfl,hX hm,rfl⟩
  ·cases h
 ·exact .inr h
def aqk (t:Nat) (a:AV):Option dU:=orJ (Nat.beq t 96) GI .dZ a (orJ (Nat.beq t 99) H5 .dH a (orJ (Nat.beq t 102) Sf .lit a (orJ (Nat.beq t 105) Q7 .ph a (orJ (Nat.beq t 108) Ry .oM a (none)))))
def rdJ:Gs->Option (Option dU×Gs)
 | .p .fL::r=>some (none,r)
 | .i t a::r=>match aqk t a with | some j=>some (some j,r) | none=>none
 | _=>none
theorem akF {gs r:Gs} {m:Option dU} (h:rdJ gs=some (m,r)):gs=wrJ m++r:=by
 unfold rdJ at h
 split at h
 ·cases h;rfl
 ·split at h
  ·rename_i hj
   cases h
   rcases K4 Cz hj with⟨m,e,rfl,rfl⟩ | hj
   ·have e:=(aC _ _).1 e;subst e;rfl
   rcases K4 CK hj with⟨m,e,rfl,rfl⟩ | hj
   ·have e:=(aC _ _).1 e;subst e;rfl
   rcases K4 Jn hj with⟨m,e,rfl,rfl⟩ | hj
   ·have e:=(aC _ _).1 e;subst e;rfl
   rcases K4 IA hj with⟨m,e,rfl,rfl⟩ | hj
   ·have e:=(aC _ _).1 e;subst e;rfl
   rcases K4 IL hj with⟨m,e,rfl,rfl⟩ | hj
   ·have e:=(aC _ _).1 e;subst e;rfl
   cases hj
  ·cases h
 ·cases h
instance:jq rdJ wrJ:=⟨akF⟩
def az.wr (x:az):Gs:=[.p (.it .i64 x.sort)]++([.p (.it .i64 x.ax)]++([.r (gV x.aQ)]++([.p (.it .i64 x.bh)]++(Cl.wr x.call++(O.wr x.op++(wrJ x.cC++(An.wr x.answer)))))))
def az.rd (gs:Gs):Option (az×Gs):=(mm gs).bind fun(x0,r0)=>(mm r0).bind fun(x1,r1)=>(KX r1).bind fun(x2,r2)=>(mm r2).bind fun(x3,r3)=>(Cl.rd r3).bind fun(x4,r4)=>(O.rd r4).bind fun(x5,r5)=>(rdJ r5).bind fun(x6,r6)=>(An.rd r6).bind fun(x7,r7)=>some (⟨x0,x1,x2,x3,x4,x5,x6,x7⟩,r7)
theorem az.gK {gs r:Gs} {x:az} (h:az.rd gs=some (x,r)):gs=az.wr x++r:=by
 unfold az.rd at h
 repeat (have e:=jq.Il h;clear h;obtain⟨_,_,rfl,h⟩:=e)
 cases h
 simp only [az.wr,acC,acS,adF,acM]
instance:jq az.rd az.wr:=⟨az.gK⟩
abbrev qg:Nat:=81
abbrev iD (m:az):AV:=.tu m
def TX:AV->Option az
 | .tu m=>some m
 | _=>none
theorem M8 {a:AV} {m:az} (h:TX a=some m):a=iD m:=by
 unfold TX at h;split at h<;>cases h;rfl
abbrev Zs:=TQ iD
abbrev aar:=Tt TX
abbrev aam:=Ts TX
instance:jq aar Zs:=wT M8
instance:jq aam (fun m=>[.r (iD m)]):=wS M8
def Cx:Gs->Option (ai×Gs)
 | .r (.gP m)::r=>some (m,r)
 | _=>none
theorem RK {gs r:Gs} {m:ai} (h:Cx gs=some (m,r)):gs=.r (.gP m)::r:=by
 unfold Cx at h;split at h<;>cases h;rfl
instance:jq Cx (fun m=>[.r (.gP m)]):=⟨RK⟩
abbrev afn:Nat:=968147
def afM:List O5->Gs
 | []=>[]
 | x::r=>.r (.tu x.tu)::.s (.bZ x.akL) rM.es::.p (.it .i64 x.given)::.p (.it .i64 x.last)::afM r
abbrev afK (l:List O5):AV:=.R4 5 4 afn (afM l)
def Vo:Nat->Gs->Option (List O5)
 | _,[]=>some []
 | n+1,.r (.tu v)::.s (.bZ q) es::.p (.it .i64 g)::.p (.it .i64 l)::r=>match Nat.beq es rM.es with
   | true=>(match Vo n r with | some x=>some (⟨v,q,g,l⟩::x) | none=>none)
   | false=>none
 | _,_=>none
theorem afL:∀{n:Nat} {gs:Gs} {l:List O5},Vo n gs=some l->gs=afM l:=by
 intro n
 induction n with
 | zero =>
   intro gs l h
   unfold Vo at h
   split at h
   ·cases h;rfl
   ·rename_i e;cases e
   ·cases h
 | succ n ih =>
   intro gs l h
   unfold Vo at h
   split at h
   ·cases h;rfl
   ·rename_i e
    cases e
    split at h
    ·rename_i e2
     have e2:=(aC _ _).1 e2
     subst e2
     split at h
     ·rename_i y hy
      cases h
      rw [ih hy];rfl
     ·cases h
    ·cases h
   ·cases h
def IX:Gs->Option (List O5×Gs)
 | .s (.R4 d es ty gs) e::r=>match Nat.beq d 5,Nat.beq es 4,Nat.beq ty afn,Nat.beq e 4,Vo gs.length gs with
   | true,true,true,true,some l=>some (l,r)
   | _,_,_,_,_=>none
 | _=>none
theorem Vy {gs r:Gs} {l:List O5} (h:IX gs=some (l,r)):gs=.s (afK l) 4::r:=by
 unfold IX at h
 split at h
 ·split at h
  ·rename_i h1 h2 h3 h4 h5
   have h1:=(aC _ _).1 h1
   have h2:=(aC _ _).1 h2
   have h3:=(aC _ _).1 h3
   have h4:=(aC _ _).1 h4
   subst h1 h2 h3 h4
   cases h
   rw [afL h5]
  ·cases h
 ·cases h
instance:jq IX (fun l=>[.s (afK l) 4]):=⟨Vy⟩
def sR.wr (x:sR):Gs:=[.p (.it .i64 x.sort)]++([.r (.gP x.gP)]++([.s (afK x.cR) 4]++([.s (.kA x.kA) mB.es])))
def sR.rd (gs:Gs):Option (sR×Gs):=(mm gs).bind fun(x0,r0)=>(Cx r0).bind fun(x1,r1)=>(IX r1).bind fun(x2,r2)=>(yF r2).bind fun(x3,r3)=>some (⟨x0,x1,x2,x3⟩,r3)
theorem sR.gK {gs r:Gs} {x:sR} (h:sR.rd gs=some (x,r)):gs=sR.wr x++r:=by
 unfold sR.rd at h
 repeat (have e:=jq.Il h;clear h;obtain⟨_,_,rfl,h⟩:=e)
 cases h
 simp only [sR.wr,acC,acS,adF,acM]
instance:jq sR.rd sR.wr:=⟨sR.gK⟩
abbrev afp:Nat:=970825
abbrev afY (m:sR):AV:=.par m
def aaE:AV->Option sR
 | .par m=>some m
 | _=>none
theorem VQ {a:AV} {m:sR} (h:aaE a=some m):a=afY m:=by
 unfold aaE at h;split at h<;>cases h;rfl
abbrev Zv:=TQ afY
abbrev aau:=Tt aaE
abbrev aap:=Ts aaE
instance:jq aau Zv:=wT VQ
instance:jq aap (fun m=>[.r (afY m)]):=wS VQ
def AV.ob:AV->Option (Nat×TypeId×Gs)
 | .aQ m=>some (1,fg,au.wr m)
 | .dZ m=>some (1,Ky,dr.wr m)
 | .dH m=>some (1,KA,cY.wr m)
 | .walk m=>some (1,yp,bm.wr m)
 | .lit m=>some (2,Nj,cM.wr m)
 | .kz m=>some (1,mg,aN.wr m)
 | .oM m=>some (2,tU,cd.wr m)
 | .ph m=>some (3,Kw,bW.wr m)
 | .tu m=>some (4,qg,az.wr m)
 | .par m=>some (6,afp,sR.wr m)
 | _=>none
def Tu {α:Type} (c:Bool) (rd:Gs->Option (α×Gs)) (k:α->AV) (gs:Gs) (e:Option AV):Option AV:=match c with
 | true=>match rd gs with | some (m,[])=>some (k m) | _=>none
 | false=>e
theorem wX {α:Type} {c:Bool} {rd:Gs->Option (α×Gs)} {w:α->Gs} [jq rd w] {k:α->AV} {gs:Gs} {e:Option AV} {a:AV} (h:Tu c rd k gs e=some a):(∃m,c=true /\ gs=w m /\ a=k m) \/ e=some a:=by
 unfold Tu at h
 split at h
 ·split at h
  ·rename_i hm;cases h;exact .inl ⟨_,rfl,by rw [jq.s hm,aeJ],rfl⟩
  ·cases h
 ·exact .inr h
def mkO (ty:TypeId) (gs:Gs):Option AV:=Tu (Nat.beq ty fg) au.rd .aQ gs (Tu (Nat.beq ty Ky) dr.rd .dZ gs (Tu (Nat.beq ty KA) cY.rd .dH gs (Tu (Nat.beq ty yp) bm.rd .walk gs (Tu (Nat.beq ty Nj) cM.rd .lit gs (Tu (Nat.beq ty mg) aN.rd .kz gs (Tu (Nat.beq ty tU) cd.rd .oM gs (Tu (Nat.beq ty Kw) bW.rd .ph gs (Tu (Nat.beq ty qg) az.rd .tu gs (Tu (Nat.beq ty afp) sR.rd .par gs (none))))))))))
theorem age {ty:TypeId} {gs:Gs} {a:AV} (h:mkO ty gs=some a):∃d,a.ob=some (d,ty,gs):=by
 unfold mkO at h
 rcases wX h with⟨m,e,rfl,rfl⟩ | h
 ·have e:=(aC _ _).1 e;subst e;exact⟨_,rfl⟩
 rcases wX h with⟨m,e,rfl,rfl⟩ | h
 ·have e:=(aC _ _).1 e;subst e;exact⟨_,rfl⟩
 rcases wX h with⟨m,e,rfl,rfl⟩ | h
 ·have e:=(aC _ _).1 e;subst e;exact⟨_,rfl⟩
 rcases wX h with⟨m,e,rfl,rfl⟩ | h
 ·have e:=(aC _ _).1 e;subst e;exact⟨_,rfl⟩
 rcases wX h with⟨m,e,rfl,rfl⟩ | h
 ·have e:=(aC _ _).1 e;subst e;exact⟨_,rfl⟩
 rcases wX h with⟨m,e,rfl,rfl⟩ | h
 ·have e:=(aC _ _).1 e;subst e;exact⟨_,rfl⟩
 rcases wX h with⟨m,e,rfl,rfl⟩ | h
 ·have e:=(aC _ _).1 e;subst e;exact⟨_,rfl⟩
 rcases wX h with⟨m,e,rfl,rfl⟩ | h
 ·have e:=(aC _ _).1 e;subst e;exact⟨_,rfl⟩
 rcases wX h with⟨m,e,rfl,rfl⟩ | h
 ·have e:=(aC _ _).1 e;subst e;exact⟨_,rfl⟩
 rcases wX h with⟨m,e,rfl,rfl⟩ | h
 ·have e:=(aC _ _).1 e;subst e;exact⟨_,rfl⟩
 cases h
end Go.Proofs.YtadmfaohjnjajaaGreatDoor

namespace Go.Sx.Q
open Go Go.Sx
variable {AV:Type}
abbrev bind {α β:Type} (t:T α) (f:α->T β):T β:=t.bind f
theorem bind_eq {α β:Type} (t:T α) (f:α->T β):Q.bind t f=t.bind f:=rfl
abbrev Bc (H:Hp AV) (l:List SV):Bool:=Sx.Bc H l
theorem clVs_eq (H:Hp AV) (l:List SV):Q.Bc H l=Sx.Bc H l:=rfl
abbrev p6 (H l:Hp AV):Bool:=Sx.p6 H l
theorem clHs_eq (H l:Hp AV):Q.p6 H l=Sx.p6 H l:=rfl
noncomputable abbrev lv (N:dV AV) (tab:FuncId->Option (List SV->Hp AV->T (SV×Hp AV))) (n:Nat):Callee AV:=Sx.lv N tab n
theorem lv_eq (N:dV AV) (tab:FuncId->Option (List SV->Hp AV->T (SV×Hp AV))) (n:Nat):Q.lv N tab n=Sx.lv N tab n:=rfl
end Go.Sx.Q

namespace Go.Proofs.YtadmfaohjnjajaaGreatDoor
open Go Go.Sx Go.Proofs
def Kx:Nat:=120
def ZO:Nat:=195
def adx:Nat:=193
def Pu:Nat:=229
def JF:Option (Int×Nat)->Cell
 | none=>.fL
 | some _=>.wZ adx (.ptr 4 0)
def xO (σ:Sg):Option (Int×Nat)->Hp AV
 | none=>[]
 | some (k,i)=>[some (.cells [.it .i64 k,.wZ Pu (.op i (σ i))] ZO)]
def uJ (σ:Sg) (m:ai):Hp AV:=some (.cells [.vs 1 0 m.dO.length 5 false,.vs 2 0 m.aS.length 52 false,.vs 3 0 m.free.length 1 false,.it .i64 m.steps,.it .i64 m.made,JF m.fault] Kx) ::
 some (.bI (.eU m.dO))::some (.bI (.aS m.aS))::some (.bI (.jS m.free))::xO σ m.fault
def AV.v8:AV->Nat
 | .gP _=>1
 | .NX d _ _=>d
 | .R4 d _ _ _=>d
 | a=>match a.ob with | some (d,_,_)=>d | none=>0
def o4 (σ:Sg):AV->Option (Hp AV)
 | .gP m=>some (uJ σ m)
 | .NX _ ty cs=>some (fP AV.len ty cs)
 | .R4 _ es ty cs=>some (aa1 AV.len es ty cs)
 | a=>match a.ob with | some (_,ty,gs)=>some (fP AV.len ty gs) | none=>none
def ET (d:Nat):List AV->Bool
 | []=>true
 | a::r=>match Nat.blt a.v8 d with | true=>ET d r | false=>false
def AV.FV:AV->Bool
 | .NX d _ cs=>match Nat.blt 0 d,Nat.ble d 6,ET d (eF cs) with | true,true,true=>true | _,_,_=>false
 | .R4 d _ _ cs=>match Nat.blt 0 d,Nat.ble d 6,ET d (eF cs) with | true,true,true=>true | _,_,_=>false
 | _=>true
theorem xX {d:Nat}:∀{l:List AV},ET d l=true->∀a∈l,a.v8 < d
 | [],_,a,h=>by cases h
 | b::r,h,a,ha=>by
   simp only [ET] at h
   split at h
   ·rename_i hb
    rcases abk.1 ha with rfl | ha
    ·exact(fw _ _).1 hb
    ·exact xX h a ha
   ·cases h
def qj (k:Nat) (σ:Sg) (a:AV):Option (Hp AV):=match Nat.beq a.v8 k with
 | true=>o4 σ a
 | false=>none
theorem b7 {k:Nat} {σ:Sg} {a:AV} (h:a.v8≠k):qj k σ a=none:=by
 unfold qj;rw [(bE _ _).2 h]
theorem layK_eq {k:Nat} {σ:Sg} {a:AV} (h:a.v8=k):qj k σ a=o4 σ a:=by
 unfold qj;rw [(aC _ _).2 h]
theorem lj {a:AV} {i e o:Nat} {cs:List Cell} {b:Bool} {a':AV} (h:a.wz i e o cs=some (b,a')):a.v8=0 /\ a'.v8=0:=by
 unfold AV.wz at h
 split at h
 all_goals first
  | (cases h;done)
  | (split at h
     ·simp only [aaC,aaF] at h
      have h:=h.2
      subst h
      exact⟨rfl,rfl⟩
     ·cases h)
  | (split at h
     ·simp only [aaC,aaF] at h
      have h:=h.2
      subst h
      exact⟨rfl,rfl⟩
     ·split at h
      ·simp only [aaC,aaF] at h
       have h:=h.2
       subst h
       exact⟨rfl,rfl⟩
      ·cases h)
theorem wq {a:AV} {x:Nat×TypeId×List Value} (h:a.fW=some x):a.v8=0:=by cases a<;>first | rfl | cases h
theorem vF {a:AV} {i e:Nat} {x:Bool×List Cell} (h:a.row i e=some x):a.v8=0:=by cases a<;>first | rfl | cases h
theorem vJ {a:AV} {i e o n:Nat} {x:Bool×List Cell} (h:a.J3 i e o n=some x):a.v8=0:=by cases a<;>first | rfl | cases h
theorem qY {σ:Sg} {a:AV} {cs:List Cell} (h:a.word σ=some cs):a.v8=0:=by cases a<;>first | rfl | cases h
theorem aa8 (σ:Sg):FC (avF σ) (qj 1 σ) where
 fW:=fun a x h=>b7 (by rw [wq h];decide)
 row:=fun a i e x h=>b7 (by rw [vF h];decide)
 J3:=fun a i e o n x h=>b7 (by rw [vJ h];decide)
 wz:=fun a i e o cs b a' h=>⟨b7 (by rw [(lj h).1];decide),b7 (by rw [(lj h).2];decide)⟩
 word:=fun a cs h=>b7 (by rw [qY h];decide)
def F1 (σ:Sg):iL AV:=(avF σ).NX (qj 1 σ) (aa8 σ)
theorem aa6 (σ:Sg):FC (F1 σ) (qj 2 σ) where
 fW:=fun a x h=>b7 (by rw [wq h];decide)
 row:=fun a i e x h=>b7 (by rw [vF h];decide)
 J3:=fun a i e o n x h=>b7 (by rw [vJ h];decide)
 wz:=fun a i e o cs b a' h=>⟨b7 (by rw [(lj h).1];decide),b7 (by rw [(lj h).2];decide)⟩
 word:=fun a cs h=>b7 (by rw [qY h];decide)
def F2 (σ:Sg):iL AV:=(F1 σ).NX (qj 2 σ) (aa6 σ)
theorem aa5 (σ:Sg):FC (F2 σ) (qj 3 σ) where
 fW:=fun a x h=>b7 (by rw [wq h];decide)
 row:=fun a i e x h=>b7 (by rw [vF h];decide)
 J3:=fun a i e o n x h=>b7 (by rw [vJ h];decide)
 wz:=fun a i e o cs b a' h=>⟨b7 (by rw [(lj h).1];decide),b7 (by rw [(lj h).2];decide)⟩
 word:=fun a cs h=>b7 (by rw [qY h];decide)
def F3 (σ:Sg):iL AV:=(F2 σ).NX (qj 3 σ) (aa5 σ)
theorem aa4 (σ:Sg):FC (F3 σ) (qj 4 σ) where
 fW:=fun a x h=>b7 (by rw [wq h];decide)
 row:=fun a i e x h=>b7 (by rw [vF h];decide)
 J3:=fun a i e o n x h=>b7 (by rw [vJ h];decide)
 wz:=fun a i e o cs b a' h=>⟨b7 (by rw [(lj h).1];decide),b7 (by rw [(lj h).2];decide)⟩
 word:=fun a cs h=>b7 (by rw [qY h];decide)
def F4 (σ:Sg):iL AV:=(F3 σ).NX (qj 4 σ) (aa4 σ)
theorem aa3 (σ:Sg):FC (F4 σ) (qj 5 σ) where
 fW:=fun a x h=>b7 (by rw [wq h];decide)
 row:=fun a i e x h=>b7 (by rw [vF h];decide)
 J3:=fun a i e o n x h=>b7 (by rw [vJ h];decide)
 wz:=fun a i e o cs b a' h=>⟨b7 (by rw [(lj h).1];decide),b7 (by rw [(lj h).2];decide)⟩
 word:=fun a cs h=>b7 (by rw [qY h];decide)
def F5 (σ:Sg):iL AV:=(F4 σ).NX (qj 5 σ) (aa3 σ)
theorem aa2 (σ:Sg):FC (F5 σ) (qj 6 σ) where
 fW:=fun a x h=>b7 (by rw [wq h];decide)
 row:=fun a i e x h=>b7 (by rw [vF h];decide)
 J3:=fun a i e o n x h=>b7 (by rw [vJ h];decide)
 wz:=fun a i e o cs b a' h=>⟨b7 (by rw [(lj h).1];decide),b7 (by rw [(lj h).2];decide)⟩
 word:=fun a cs h=>b7 (by rw [qY h];decide)
def F6 (σ:Sg):iL AV:=(F5 σ).NX (qj 6 σ) (aa2 σ)
section
variable {σ:Sg} {a:AV} (l:Sx.l8) (S:Nat->Prop) (w:World)
theorem B4 (h:a.v8≠6):(F6 σ).q a l S w↔(F5 σ).q a l S w:=fF (b7 h) l S w
theorem FT (h:a.v8≠5):(F5 σ).q a l S w↔(F4 σ).q a l S w:=fF (b7 h) l S w
theorem KZ (h:a.v8≠4):(F4 σ).q a l S w↔(F3 σ).q a l S w:=fF (b7 h) l S w
theorem RM (h:a.v8≠3):(F3 σ).q a l S w↔(F2 σ).q a l S w:=fF (b7 h) l S w
theorem aav (h:a.v8≠2):(F2 σ).q a l S w↔(F1 σ).q a l S w:=fF (b7 h) l S w
theorem akO (h:a.v8≠1):(F1 σ).q a l S w↔AV.q σ a l S w:=fF (b7 h) l S w
theorem apM (h:a.v8=0):(F6 σ).q a l S w↔AV.q σ a l S w:=(B4 l S w (by omega)).trans ((FT l S w (by omega)).trans ((KZ l S w (by omega)).trans ((RM l S w (by omega)).trans ((aav l S w (by omega)).trans (akO l S w (by omega))))))
end
theorem Of {σ:Sg} {m:ai} {i:Nat} {a:AV} (h:ae (uJ σ m) i=some (.bI a)):a.v8=0:=by
 match i,h with
 | 0,h=>simp [uJ,ae] at h
 | 1,h=>simp only [uJ,ae,aaC,aG.bI.injEq] at h;subst h;rfl
 | 2,h=>simp only [uJ,ae,aaC,aG.bI.injEq] at h;subst h;rfl
 | 3,h=>simp only [uJ,ae,aaC,aG.bI.injEq] at h;subst h;rfl
 | i+4,h =>
   simp only [uJ,ae] at h
   cases hf:m.fault with
   | none=>rw [hf] at h;cases i<;>simp [ae,xO] at h
   | some x=>rw [hf] at h;cases i with
     | zero=>simp [ae,xO] at h
     | succ i=>cases i<;>simp [ae,xO] at h
theorem jl {a:AV} {d:Nat} {ty:TypeId} {gs:Gs} (h:a.ob=some (d,ty,gs)):0 < d /\ d<=6 /\ ET d (eF gs)=true:=by
 cases a<;>first | (cases h;done) | skip
 all_goals cases h
 ·exact⟨by decide,by decide,rfl⟩
 ·exact⟨by decide,by decide,rfl⟩
 ·exact⟨by decide,by decide,rfl⟩
 ·exact⟨by decide,by decide,rfl⟩
 ·rename_i m
  refine⟨by decide,by decide,?_⟩
  obtain⟨_,_,_,_,_,w,_,_⟩:=m
  cases w<;>rfl
 ·exact⟨by decide,by decide,rfl⟩
 ·rename_i m
  refine⟨by decide,by decide,?_⟩
  obtain⟨_,_,_,w,_,_,_,_⟩:=m
  cases w<;>rfl
 ·rename_i m
  refine⟨by decide,by decide,?_⟩
  obtain⟨_,_,_,_,_,_,_,_,_,_,w,l,_,_⟩:=m
  cases w<;>cases l<;>rfl
 ·rename_i m
  refine⟨by decide,by decide,?_⟩
  obtain⟨_,_,_,_,_,_,j,_⟩:=m
  cases j with
  | none=>rfl
  | some j=>cases j<;>rfl
 ·exact⟨by decide,by decide,rfl⟩
theorem jN {d:Nat} {ty:TypeId} {gs:Gs} (hd:ET d (eF gs)=true) {i:Nat} {b:AV} (h:ae (fP AV.len ty gs) i=some (.bI b)):b.v8 < d:=by
 cases i with
 | zero=>simp [fP,ae] at h
 | succ i =>
   obtain⟨c,hc,e⟩:=(dx _ _ _).1 (show ae (eN (eF gs)) i=some (.bI b) from h)
   cases e
   exact xX hd b (ab8 hc)
theorem Oe {σ:Sg} {a:AV} {K:Hp AV} (hK:o4 σ a=some K) (ho:a.FV=true) {i:Nat} {b:AV} (h:ae K i=some (.bI b)):b.v8 < a.v8:=by
 cases a with
 | gP m =>
   cases hK
   rw [Of h];show 0 < 1;decide
 | NX d ty cs =>
   cases hK
   simp only [AV.FV] at ho
   split at ho
   ·rename_i h3
    exact jN h3 h
   ·cases ho
 | R4 d es ty cs =>
   cases hK
   simp only [AV.FV] at ho
   split at ho
   ·rename_i h3
    cases i with
    | zero=>simp [aa1,ae] at h
    | succ i =>
      obtain⟨c,hc,e⟩:=(dx _ _ _).1 (show ae (eN (eF cs)) i=some (.bI b) from h)
      cases e
      exact xX h3 b (ab8 hc)
   ·cases ho
 | aQ m=>cases hK;exact jN (jl (a:=.aQ m) rfl).2.2 h
 | dZ m=>cases hK;exact jN (jl (a:=.dZ m) rfl).2.2 h
 | dH m=>cases hK;exact jN (jl (a:=.dH m) rfl).2.2 h
 | walk m=>cases hK;exact jN (jl (a:=.walk m) rfl).2.2 h
 | lit m=>cases hK;exact jN (jl (a:=.lit m) rfl).2.2 h
 | kz m=>cases hK;exact jN (jl (a:=.kz m) rfl).2.2 h
 | oM m=>cases hK;exact jN (jl (a:=.oM m) rfl).2.2 h
 | ph m=>cases hK;exact jN (jl (a:=.ph m) rfl).2.2 h
 | tu m=>cases hK;exact jN (jl (a:=.tu m) rfl).2.2 h
 | par m=>cases hK;exact jN (jl (a:=.par m) rfl).2.2 h
 | _=>cases hK
theorem WL {σ:Sg} {a:AV} {K:Hp AV} (hK:o4 σ a=some K) (ho:a.FV=true):a.v8=1 \/ a.v8=2 \/ a.v8=3 \/ a.v8=4 \/ a.v8=5 \/ a.v8=6:=by
 have key:0 < a.v8 /\ a.v8<=6:=by
  cases a with
  | gP m=>show 0 < 1 /\ 1<=6;decide
  | NX d ty cs =>
    simp only [AV.FV] at ho
    split at ho
    ·rename_i h1 h2 _
     exact⟨(fw _ _).1 h1,adI h2⟩
    ·cases ho
  | R4 d es ty cs =>
    simp only [AV.FV] at ho
    split at ho
    ·rename_i h1 h2 _
     exact⟨(fw _ _).1 h1,adI h2⟩
    ·cases ho
  | aQ m=>show 0 < 1 /\ 1<=6;decide
  | dZ m=>show 0 < 1 /\ 1<=6;decide
  | dH m=>show 0 < 1 /\ 1<=6;decide
  | walk m=>show 0 < 1 /\ 1<=6;decide
  | lit m=>show 0 < 2 /\ 2<=6;decide
  | kz m=>show 0 < 1 /\ 1<=6;decide
  | oM m=>show 0 < 2 /\ 2<=6;decide
  | ph m=>show 0 < 3 /\ 3<=6;decide
  | tu m=>show 0 < 4 /\ 4<=6;decide
  | par m=>show 0 < 6 /\ 6<=6;decide
  | _=>cases hK
 omega
theorem sW {σ:Sg} {N:dV AV} (hF:N.F=F6 σ) {a:AV} {K:Hp AV} (hK:o4 σ a=some K) (ho:a.FV=true) (l:Sx.l8) (S:Nat->Prop) (w:World):N.F.q a l S w↔nu N K l S w:=by
 have parts:=fun i b h=>Oe (i:=i) (b:=b) hK ho h
 have go:∀(F:iL AV),(∀b,b.v8 < a.v8->∀l S w,F.q b l S w↔(F6 σ).q b l S w)->(nu (Gd F) K l S w↔nu N K l S w):=fun F hb=>by
  constructor
  ·exact GR (N:=Gd F) (N':=N) fun i b h l S w hq=>by rw [hF];exact(hb b (parts i b h) l S w).1 hq
  ·exact GR (N:=N) (N':=Gd F) fun i b h l S w hq=>by rw [hF] at hq;exact(hb b (parts i b h) l S w).2 hq
 rw [hF]
 rcases WL hK ho with h1 | h2 | h3 | h4 | h5 | h6
 ·have e:(F1 σ).q a l S w↔nu (Gd (avF σ)) K l S w:=by
   show ux (avF σ) (qj 1 σ) a l S w↔_
   unfold ux
   rw [layK_eq h1,hK]
  exact((B4 l S w (by omega)).trans ((FT l S w (by omega)).trans ((KZ l S w (by omega)).trans ((RM l S w (by omega)).trans (aav l S w (by omega)))))).trans (e.trans (go _ fun b hb l S w=>((B4 l S w (by omega)).trans ((FT l S w (by omega)).trans ((KZ l S w (by omega)).trans ((RM l S w (by omega)).trans ((aav l S w (by omega)).trans (akO l S w (by omega))))))).symm))
 ·have e:(F2 σ).q a l S w↔nu (Gd (F1 σ)) K l S w:=by
   show ux (F1 σ) (qj 2 σ) a l S w↔_
   unfold ux
   rw [layK_eq h2,hK]
  exact((B4 l S w (by omega)).trans ((FT l S w (by omega)).trans ((KZ l S w (by omega)).trans (RM l S w (by omega))))).trans (e.trans (go _ fun b hb l S w=>((B4 l S w (by omega)).trans ((FT l S w (by omega)).trans ((KZ l S w (by omega)).trans ((RM l S w (by omega)).trans (aav l S w (by omega)))))).symm))
 ·have e:(F3 σ).q a l S w↔nu (Gd (F2 σ)) K l S w:=by
   show ux (F2 σ) (qj 3 σ) a l S w↔_
   unfold ux
   rw [layK_eq h3,hK]
  exact((B4 l S w (by omega)).trans ((FT l S w (by omega)).trans (KZ l S w (by omega)))).trans (e.trans (go _ fun b hb l S w=>((B4 l S w (by omega)).trans ((FT l S w (by omega)).trans ((KZ l S w (by omega)).trans (RM l S w (by omega))))).symm))
 ·have e:(F4 σ).q a l S w↔nu (Gd (F3 σ)) K l S w:=by
   show ux (F3 σ) (qj 4 σ) a l S w↔_
   unfold ux
   rw [layK_eq h4,hK]
  exact((B4 l S w (by omega)).trans (FT l S w (by omega))).trans (e.trans (go _ fun b hb l S w=>((B4 l S w (by omega)).trans ((FT l S w (by omega)).trans (KZ l S w (by omega)))).symm))
 ·have e:(F5 σ).q a l S w↔nu (Gd (F4 σ)) K l S w:=by
   show ux (F4 σ) (qj 5 σ) a l S w↔_
   unfold ux
   rw [layK_eq h5,hK]
  exact(B4 l S w (by omega)).trans (e.trans (go _ fun b hb l S w=>((B4 l S w (by omega)).trans (FT l S w (by omega))).symm))
 ·have e:(F6 σ).q a l S w↔nu (Gd (F5 σ)) K l S w:=by
   show ux (F5 σ) (qj 6 σ) a l S w↔_
   unfold ux
   rw [layK_eq h6,hK]
  exact(e.trans (go _ fun b hb l S w=>(B4 l S w (by omega)).symm))
def exW:AV->Option (List W) | .eU l=>some l | _=>none
def exS:AV->Option (List Sl) | .aS l=>some l | _=>none
def exI:AV->Option (List N1) | .jS l=>some l | _=>none
def Am:List Nat->Bool
 | []=>true
 | x::r=>match nD r x with | true=>false | false=>Am r
theorem oh:∀{l:List Nat},Am l=true->l.Nodup
 | [],_=>List.nodup_nil
 | x::r,h=>by
   simp only [Am] at h
   split at h
   ·cases h
   ·rename_i hx
    exact aem.2 ⟨(fun e=>by rw [(gw _ _).2 e] at hx;cases hx),oh h⟩
def Qx (σ:Sg) (H:Hp AV):Cell->Option (Option (Int×Nat)×Bool×Option Nat)
 | .fL=>some (none,true,none)
 | .wZ t (.ptr m 0)=>match ae H m with
   | some (.cells [c,.wZ t2 (.op i a)] ty)=>match j6 c,Nat.beq t adx,Nat.beq t2 Pu,Nat.beq ty ZO with
     | some k,true,true,true=>some (some (k,i),decide (a=σ i),some m)
     | _,_,_,_=>none
   | _=>none
 | _=>none
def aeL (lb ls lf:Nat) (m:ai) (ok:Bool) (ns:List Nat):T (AV×List Nat) :=
 .aJ (decide (lb=m.dO.length)) <| .aJ (decide (ls=m.aS.length)) <| .aJ (decide (lf=m.free.length)) <| .aJ ok <| .aE (.gP m,ns)
def TW (σ:Sg) (H:Hp AV) (n:Nat):T (AV×List Nat):=match ae H n with
 | some (.cells [c0,c1,c2,c3,c4,c5] ty)=>match Nat.beq ty Kx,Io dS exW H c0,Io gq exS H c1,Io kt exI H c2,j6 c3,j6 c4,Qx σ H c5 with
   | true,some (b,lb,nb),some (s,ls,ns),some (f,lf,nf),some st,some md,some (ft,ok,nk)=>match Am (n::fS [nb,ns,nf,nk]) with
     | true=>aeL lb ls lf ⟨b,s,f,st,md,ft⟩ ok (fS [nb,ns,nf,nk])
     | false=>.fail "plot: names"
   | _,_,_,_,_,_,_=>.fail "plot: parts"
 | _=>.fail "plot"
variable {N:dV AV}
theorem uh {σ:Sg} (hF:N.F=F6 σ) {a:AV} (h:a.v8=0) (l:Sx.l8) (S:Nat->Prop) (w:World):N.F.q a l S w↔AV.q σ a l S w:=by
 rw [hF];exact apM l S w h
theorem cB {c:Cell} {n:Int} (h:j6 c=some n) (ρ:Nm):c.aq ρ=.int .i64 n:=by
 obtain⟨h1,h2⟩:=cL h
 rw [<- h1]
 exact b4 c fun m hm=>by rw [h2] at hm;cases hm
theorem TV {σ:Sg} (hF:N.F=F6 σ):Fz N (TW σ):=by
 intro H n a ns0 h ρ w hO
 unfold TW at h
 split at h
 ·rename_i c0 c1 c2 c3 c4 c5 ty hH
  split at h
  ·rename_i b lb nb s ls ns f lf nf st md ft ok nk hty h0 h1 h2 h3 h4 h5
   split at h
   ·rename_i iS
    have iS:=oh iS
    unfold aeL at h
    obtain⟨e1,h⟩:=aD h
    obtain⟨e2,h⟩:=aD h
    obtain⟨e3,h⟩:=aD h
    obtain⟨e4,h⟩:=aD h
    cases h
    have hty:=(aC _ _).1 hty
    subst hty
    obtain⟨l1,S1,d1,q1,p1⟩:=zz (N:=N) (fun a l ha lc S w hq=>by cases a<;>first | (cases ha;done) | (cases ha;exact(uh hF rfl _ _ _).1 hq)) h0 (aaV e1) hO
    obtain⟨l2,S2,d2,q2,p2⟩:=zz (N:=N) (fun a l ha lc S w hq=>by cases a<;>first | (cases ha;done) | (cases ha;exact(uh hF rfl _ _ _).1 hq)) h1 (aaV e2) hO
    obtain⟨l3,S3,d3,q3,p3⟩:=zz (N:=N) (fun a l ha lc S w hq=>by cases a<;>first | (cases ha;done) | (cases ha;exact(uh hF rfl _ _ _).1 hq)) h2 (aaV e3) hO
    have hn0:=hO.q n _ hH
    have hk:∃l4:Sx.l8,∃S4:Nat->Prop,c5.aq ρ=(JF ft).aq ⟨fun _=>l4,fun _ _=>False⟩ /\ (∀k i,ft=some (k,i)->w.heap[l4.b]?=some (.cells (aA ρ [.it .i64 k,.wZ Pu (.op i (σ i))]).toArray ZO (0,0)) /\ ∃m d,nk=some m /\ ae H m=some d /\ (∀k,k=l4.b↔d.fp ρ m k)) /\ (ft=none->nk=none):=by
     unfold Qx at h5
     split at h5
     ·cases h5
      exact⟨⟨0,0,0⟩,fun _=>False,rfl,fun k i e=>(by cases e),fun _=>rfl⟩
     ·rename_i t m
      split at h5
      ·rename_i c t2 i ad Kp hm
       split at h5
       ·rename_i k hk1 ht1 ht2 ht3
        have ht1:=(aC _ _).1 ht1
        have ht2:=(aC _ _).1 ht2
        have ht3:=(aC _ _).1 ht3
        subst ht1 ht2 ht3
        cases h5
        have ead:=aaV e4
        subst ead
        have hm0:=hO.q m _ hm
        refine⟨ρ.L m,fun k=>k=(ρ.L m).b,rfl,fun k' i' e=>?_,fun e=>by cases e⟩
        cases e
        refine⟨?_,m,_,rfl,hm,fun k=>Iff.rfl⟩
        have hm0:w.heap[ρ m]?=some (.cells (aA ρ [c,.wZ Pu (.op i (σ i))]).toArray ZO (0,0)):=hm0
        rw [hm0]
        simp only [aA,abv,aeU,cB hk1 ρ]
        rfl
       ·cases h5
      ·cases h5
     ·cases h5
    obtain⟨l4,S4,d4,f1,f2⟩:=hk
    have hq:nu N (uJ σ ⟨b,s,f,st,md,ft⟩) (ρ.L n) (iP ρ H n (fS [nb,ns,nf,nk])) w:=by
     let ρ0:Nm:=⟨fun i=>match i with | 0=>ρ.L n | 1=>l1 | 2=>l2 | 3=>l3 | _=>l4,fun i=>match i with | 1=>S1 | 2=>S2 | 3=>S3 | _=>fun _=>False⟩
     have hfc:(JF ft).aq ρ0=c5.aq ρ:=by
      rw [d4]
      cases ft with
      | none=>rfl
      | some x=>rfl
     refine Ah hO ρ0 iS (fun i m hi=>?_) (fun i c hc=>?_)
     ·match i,hi with
      | 0,_=>exact⟨_,rfl⟩
      | 1,_=>exact⟨_,rfl⟩
      | 2,_=>exact⟨_,rfl⟩
      | 3,_=>exact⟨_,rfl⟩
      | 4,hi =>
        have hi:nk=some m:=by simpa using hi
        cases ft with
        | none=>rw [f2 rfl] at hi;cases hi
        | some x=>exact⟨_,rfl⟩
      | i+5,hi=>simp at hi
     ·match i,hc with
      | 0,hc =>
        simp only [uJ,ae,aaC] at hc
        subst hc
        refine⟨?_,some n,rfl,_,hH,fun k=>Iff.rfl⟩
        have hn0:w.heap[ρ n]?=some (.cells (aA ρ [c0,c1,c2,c3,c4,c5]).toArray Kx (0,0)):=hn0
        show w.heap[ρ n]?=some (.cells (aA ρ0 [.vs 1 0 b.length 5 false,.vs 2 0 s.length 52 false,.vs 3 0 f.length 1 false,.it .i64 st,.it .i64 md,JF ft]).toArray Kx (0,0))
        rw [hn0]
        simp only [aA,abv,aeU,cB h3 ρ,cB h4 ρ,hfc,d1,d2,d3]
        rfl
      | 1,hc =>
        simp only [uJ,ae,aaC] at hc
        subst hc
        exact⟨(uh hF rfl _ _ _).2 q1,nb,rfl,p1⟩
      | 2,hc =>
        simp only [uJ,ae,aaC] at hc
        subst hc
        exact⟨(uh hF rfl _ _ _).2 q2,ns,rfl,p2⟩
      | 3,hc =>
        simp only [uJ,ae,aaC] at hc
        subst hc
        exact⟨(uh hF rfl _ _ _).2 q3,nf,rfl,p3⟩
      | i+4,hc =>
        cases ft with
        | none=>cases i<;>simp [uJ,ae,xO] at hc
        | some x =>
          obtain⟨k,j⟩:=x
          obtain⟨g1,m,d,g2,g3,g4⟩:=f1 k j rfl
          cases i with
          | succ i=>cases i<;>simp [uJ,ae,xO] at hc
          | zero =>
            simp only [uJ,ae,xO,aaC] at hc
            subst hc
            exact⟨g1,some m,by rw [<- g2];rfl,d,g3,g4⟩
    exact(sW hF (a:=.gP ⟨b,s,f,st,md,ft⟩) rfl rfl (ρ.L n) (iP ρ H n (fS [nb,ns,nf,nk])) w).2 hq
   ·cases h
  ·cases h
 ·cases h
