import Derived.Test.YtcpdipfepeccgaaGreatDoorPb
import Derived.Test.YtcpdipfepeccgaaGreatDoorOa
set_option linter.unusedVariables false
set_option linter.unusedSimpArgs false
set_option maxHeartbeats 4000000
namespace Go.Sx
variable {AV:Type} {P:Program} {N:Env AV}
def AU (H:Hp AV):List Nat->Option (List (Chunk AV))
 | []=>some []
 | n::r=>match hget H n with
   | some c=>match AU H r with | some l=>some (c::l) | none=>none
   | none=>none
theorem uK {H:Hp AV}:∀{ns:List Nat} {l:List (Chunk AV)},AU H ns=some l->l.length=ns.length /\ ∀(i n:Nat),ns[i]?=some n->∃c,l[i]?=some c /\ hget H n=some c
 | [],l,h=>by simp only [AU,Option.some.injEq] at h;subst h;exact⟨rfl,fun i n h=>by simp at h⟩
 | n::r,l,h=>by
   simp only [AU] at h
   split at h
   ·rename_i c hc
    split at h
    ·rename_i l' hl
     cases h
     obtain⟨h1,h2⟩:=uK hl
     refine⟨congrArg (·+1) h1,fun i m hm=>?_⟩
     cases i with
     | zero=>cases hm;exact⟨c,rfl,hc⟩
     | succ i=>exact h2 i m hm
    ·cases h
   ·cases h
def chL (l:List (Chunk AV)):Hp AV:=l.map some
theorem yG (l:List (Chunk AV)) (n:Nat) (c:Chunk AV):hget (chL l) n=some c↔l[n]?=some c:=by
 induction l generalizing n with
 | nil=>cases n<;>simp [chL,hget]
 | cons a r ih =>
   cases n with
   | zero=>simp [chL,hget]
   | succ n=>exact ih n
theorem Mq (l:List (Chunk AV)):(chL l).length=l.length:=by simp [chL]
def s8:List Nat->List (Chunk AV)->Hp AV->Hp AV
 | n::r,c::l,H=>s8 r l (lset H n (some c))
 | _,_,H=>H
theorem zy:∀(ns:List Nat) (l:List (Chunk AV)) (H:Hp AV),(s8 ns l H).length=H.length
 | [],l,H=>by cases l<;>rfl
 | n::r,[],H=>rfl
 | n::r,a::l,H=>by
   show (s8 r l (lset H n (some a))).length=_
   rw [zy r l,bn]
theorem jX:∀(ns:List Nat) (l:List (Chunk AV)) (H:Hp AV) (m:Nat),m ∉ ns->hget (s8 ns l H) m=hget H m
 | [],l,H,m,h=>by cases l<;>rfl
 | n::r,[],H,m,h=>rfl
 | n::r,a::l,H,m,h=>by
   show hget (s8 r l (lset H n (some a))) m=_
   rw [jX r l _ m (fun e=>h (List.mem_cons_of_mem _ e)),ay _ (fun e=>h (by rw [e];exact List.mem_cons_self))]
theorem rP:∀(ns:List Nat) (l:List (Chunk AV)) (H:Hp AV),ns.Nodup->(∀n∈ns,n < H.length)->∀(i n:Nat) (a:Chunk AV),ns[i]?=some n->l[i]?=some a->hget (s8 ns l H) n=some a
 | [],l,H,h,hl,i,n,a,h1,h2=>by simp at h1
 | n::r,[],H,h,hl,i,m,a,h1,h2=>by simp at h2
 | n::r,b::l,H,h,hl,i,m,a,h1,h2=>by
   show hget (s8 r l (lset H n (some b))) m=_
   obtain⟨hn,hr⟩:=List.nodup_cons.1 h
   cases i with
   | zero =>
     simp only [List.getElem?_cons_zero,Option.some.injEq] at h1 h2
     subst h1 h2
     rw [jX r l _ _ hn,aO _ (hl _ List.mem_cons_self)]
   | succ i =>
     simp only [List.getElem?_cons_succ] at h1 h2
     exact rP r l _ hr (fun x hx=>by rw [bn];exact hl x (List.mem_cons_of_mem _ hx)) i m a h1 h2
def oY (H:Hp AV) (l:List Nat):List Nat:=match sq [] l with
 | a=>EO H 9 a
theorem v5 (H:Hp AV):∀(k:Nat) (a:List Nat),a.Nodup->(EO H k a).Nodup /\ ∀n∈a,n∈EO H k a
 | 0,a,h=>⟨h,fun n hn=>hn⟩
 | k+1,a,h=>by
   obtain⟨b1,b2⟩:=jL (yi H a) a h
   simp only [EO]
   split
   ·exact⟨b1,fun n hn=>(b2 n).2 (.inl hn)⟩
   ·obtain⟨c1,c2⟩:=v5 H k _ b1
    exact⟨c1,fun n hn=>c2 n ((b2 n).2 (.inl hn))⟩
theorem EN (H:Hp AV) (l:List Nat):(oY H l).Nodup /\ ∀n∈l,n∈oY H l:=by
 unfold oY
 simp only
 obtain⟨a1,a2⟩:=jL l [] List.nodup_nil
 obtain⟨b1,b2⟩:=v5 H 9 _ a1
 exact⟨b1,fun n hn=>b2 n ((a2 n).2 (.inr hn))⟩
def jf (isS:AV->Nat->Bool) (M:List Bool) (tree:List SV->List (Chunk AV)->T (SV×List (Chunk AV)×List (Chunk AV))) (args:List SV) (H:Hp AV):T (SV×Hp AV) :=
 match kF isS 0 M H with
 | false=>.fail "summary: variables"
 | true=>match oY H (namesVs args) with
   | ns=>match AU H ns,A5 M.length ns,GF ns H ns with
     | some l,true,true=>(tree (args.map (SV.ren fun n=>M.length+jj ns n)) (l.map (Chunk.ren fun n=>M.length+jj ns n))).bind fun r=>match Nat.beq r.2.1.length l.length with
       | true=>.leaf (r.1.ren (rB M.length ns H.length),s8 ns (r.2.1.map (Chunk.ren (rB M.length ns H.length))) H++chL (r.2.2.map (Chunk.ren (rB M.length ns H.length))))
       | false=>.fail "summary: things"
     | _,_,_=>.fail "summary: things"
theorem gr {isS:AV->Nat->Bool} {sn:Nat->AV} (hs:∀a i,isS a i=true->a=sn i) {M:List Bool} (hG:N.G=M.length) {tree:List SV->List (Chunk AV)->T (SV×List (Chunk AV)×List (Chunk AV))} {f:FuncId}
 (h:∀args l v l' nw,(tree args l).val=some (v,l',nw)->l'.length=l.length->(∀x∈args,ClV (aX sn 0 M++chL l) x)->bB N (aX sn 0 M++chL l)->Ctr P N f args (aX sn 0 M++chL l) v (aX sn 0 M++chL (l'++nw))):FnOk P N f (jf isS M tree):=by
 refine FnOk.of fun args H v H' hr ha hC=>?_
 unfold jf at hr
 split at hr
 ·simp [T.val] at hr
 rename_i hgl
 obtain⟨hML,hgl⟩:=lS hs hgl
 dsimp only at hr
 obtain⟨hnd,hmem⟩:=EN H (namesVs args)
 generalize oY H (namesVs args)=ns at hr hnd hmem
 split at hr
 ·rename_i l0 hl hge hsub
  obtain⟨⟨v1,l',nw⟩,ht,hr⟩:=T.bind_some hr
  have hsub:=pU hsub
  split at hr
  ·rename_i hlen
   have hlen0:l'.length=l0.length:=(af _ _).1 hlen
   simp only [T.val,Option.some.injEq,Prod.mk.injEq] at hr
   obtain⟨rfl,rfl⟩:=hr
   obtain⟨al1,al2⟩:=uK hl
   have hge:=ov hge
   have hnlt:∀n∈ns,n < H.length:=fun n hn=>by
    obtain⟨i,hi⟩:=List.mem_iff_getElem?.1 hn
    obtain⟨a,_,h2⟩:=al2 i n hi
    exact aH h2
   let G:=M.length
   let π:=rB G ns H.length
   let l:=l0.map (Chunk.ren fun n=>G+jj ns n)
   have hlen:l'.length=l.length:=by show _=(l0.map _).length;rw [List.length_map];exact hlen0
   have lget:∀(j:Nat) (c:Chunk AV),l[j]?=some c->∃n,ns[j]?=some n /\ hget H n=some (c.ren π):=fun j c hj=>by
    have hj:(l0.map (Chunk.ren fun n=>G+jj ns n))[j]?=some c:=hj
    rw [List.getElem?_map,Option.map_eq_some_iff] at hj
    obtain⟨d,hd,rfl⟩:=hj
    have hjl:j < ns.length:=by rw [<- al1];exact(List.getElem?_eq_some_iff.1 hd).1
    have h2:ns[j]?=some ns[j]:=List.getElem?_eq_getElem hjl
    obtain⟨d',h3,h4⟩:=al2 j _ h2
    rw [hd] at h3
    cases h3
    exact⟨_,h2,by rw [h4,rm fun n hn=>hP (j6 (hsub _ (List.getElem_mem hjl) d h4 n hn))]⟩
   have lat:∀n,n∈ns->∃d,hget H n=some d /\ l[jj ns n]?=some (d.ren fun n=>G+jj ns n):=fun n hn=>by
    obtain⟨d,h1,h2⟩:=al2 _ _ (j6 hn)
    exact⟨d,h2,by show (l0.map _)[_]?=_;rw [List.getElem?_map,h1];rfl⟩
   have back:∀x∈args,((x.ren fun n=>G+jj ns n).ren π)=x:=fun x hx=>pR fun n hn=>by
    have:n∈ns:=hmem n (jq.2 ⟨x,hx,hn⟩)
    exact hP (j6 this)
   have eargs:args=(args.map (SV.ren fun n=>G+jj ns n)).map (SV.ren π):=by
    rw [List.map_map]
    conv=>lhs;rw [<- List.map_id args]
    exact List.map_congr_left fun x hx=>(back x hx).symm
   have mS:(aX sn 0 M).length=G:=cC sn M 0
   have getS:∀(q:List (Chunk AV)) i c,hget (aX sn 0 M++chL q) i=some c↔(i < G /\ M[i]?=some true /\ c=.abs (sn i)) \/ ∃j,i=G+j /\ q[j]?=some c:=fun q i c=>by
    rw [ax,mS]
    by_cases hi:i < G
    ·rw [if_pos hi,ga,Nat.zero_add]
     constructor
     ·rintro ⟨h1,h2⟩;exact .inl ⟨hi,h1,h2⟩
     ·rintro (⟨_,h1,h2⟩ | ⟨j,h1,_⟩)
      ·exact⟨h1,h2⟩
      ·omega
    ·rw [if_neg hi,yG]
     constructor
     ·intro h1;exact .inr ⟨i - G,by omega,h1⟩
     ·rintro (⟨h1,_⟩ | ⟨j,rfl,h1⟩)
      ·exact absurd h1 hi
      ·rw [Nat.add_sub_cancel_left];exact h1
   have small:∀n,n∈ns->∃c,hget (aX sn 0 M++chL l) (G+jj ns n)=some c:=fun n hn=>by
    obtain⟨d,_,h2⟩:=lat n hn
    exact⟨_,(getS l _ _).2 (.inr ⟨_,rfl,h2⟩)⟩
   have hlist:∀cs:List Cell,(∀n∈namesL cs,n∈ns)->ClL (aX sn 0 M++chL l) (cs.map (Cell.ren fun n=>G+jj ns n)):=fun cs hcs c hc n hn=>by
    obtain⟨d,hd,rfl⟩:=List.mem_map.1 hc
    rw [pe] at hn
    obtain⟨m,hm,rfl⟩:=Option.map_eq_some_iff.1 hn
    exact small m (hcs m (pg.2 ⟨d,hd,hm⟩))
   have argcl:∀x∈args.map (SV.ren fun n=>G+jj ns n),ClV (aX sn 0 M++chL l) x:=fun y hy=>by
    obtain⟨x,hx,rfl⟩:=List.mem_map.1 hy
    have one:∀z:V1,(∀n∈namesL z.cells,n∈ns)->ClV1 (aX sn 0 M++chL l) (z.ren fun n=>G+jj ns n):=fun z hz=>by
     cases z with
     | c c =>
       have:=hlist [c] hz
       simpa [ClV1,V1.cells,V1.ren] using this
     | agg cs=>exact hlist cs hz
    have hx':∀n∈namesV x,n∈ns:=fun n hn=>hmem n (jq.2 ⟨x,hx,hn⟩)
    cases x with
    | v x=>exact one x hx'
    | tup q =>
      intro z hz
      obtain⟨z',hz',rfl⟩:=List.mem_map.1 hz
      exact one z' fun n hn=>hx' n (kC.2 ⟨z',hz',hn⟩)
    | unk=>trivial
    | clo f cs=>exact one (.agg cs) hx'
   have heapcl:bB N (aX sn 0 M++chL l):=by
    refine⟨fun i c hi=>?_,trivial⟩
    rcases (getS l i c).1 hi with⟨_,_,rfl⟩ | ⟨j,rfl,h1⟩
    ·intro c hc;cases hc
    ·have h1:(l0.map (Chunk.ren fun n=>G+jj ns n))[j]?=some c:=h1
     rw [List.getElem?_map,Option.map_eq_some_iff] at h1
     obtain⟨d,hd,rfl⟩:=h1
     have hjl:j < ns.length:=by rw [<- al1];exact(List.getElem?_eq_some_iff.1 hd).1
     obtain⟨d',h3,h4⟩:=al2 j _ (List.getElem?_eq_getElem hjl)
     rw [hd] at h3
     cases h3
     rw [rl]
     exact hlist _ fun n hn=>hsub _ (List.getElem_mem hjl) d h4 n hn
   have hc:=h _ l v1 l' nw ht hlen argcl heapcl
   rw [eargs]
   have πlt:∀i,i < G->π i=i:=fun i hi=>Dm hi
   have lenP:=zy ns (l'.map (Chunk.ren π)) H
   have mget:∀(q:List (Chunk AV)) (j:Nat) a,q[j]?=some a->(q.map (Chunk.ren π))[j]?=some (a.ren π):=fun q j a hj=>by rw [List.getElem?_map,hj];rfl
   have lens:l.length=ns.length:=by show (l0.map _).length=_;rw [List.length_map,al1]
   have stand:∀j a,(l'++nw)[j]?=some a->(∃n,ns[j]?=some n /\ π (G+j)=n /\ hget (s8 ns (l'.map (Chunk.ren π)) H++chL (nw.map (Chunk.ren π))) n=some (a.ren π)) \/ (ns.length<=j /\ π (G+j)=H.length+(j - ns.length) /\ hget (s8 ns (l'.map (Chunk.ren π)) H++chL (nw.map (Chunk.ren π))) (H.length+(j - ns.length))=some (a.ren π)):=fun j a hj=>by
    by_cases hjl:j < ns.length
    ·have h1:ns[j]?=some ns[j]:=List.getElem?_eq_getElem hjl
     rw [List.getElem?_append_left (by omega)] at hj
     refine .inl ⟨ns[j],h1,hP h1,?_⟩
     rw [ax,lenP,if_pos (hnlt _ (List.getElem_mem hjl))]
     exact rP ns _ H hnd hnlt j _ _ h1 (mget _ _ _ hj)
    ·rw [List.getElem?_append_right (by omega)] at hj
     refine .inr ⟨by omega,?_,?_⟩
     ·have:=oX (G:=G) (ns:=ns) (L:=H.length) (j:=j - ns.length)
      rw [show G+ns.length+(j - ns.length)=G+j by omega] at this
      exact this
     ·rw [ax,lenP,if_neg (by omega),Nat.add_sub_cancel_left]
      refine(yG _ _ _).2 (mget _ _ _ ?_)
      rw [hlen,lens] at hj
      exact hj
   have sren:∀i,(Chunk.abs (sn i):Chunk AV)=(Chunk.abs (sn i)).ren π:=fun i=>rfl
   refine xg (π:=π) hc (B':=s8 ns (l'.map (Chunk.ren π)) H++chL (nw.map (Chunk.ren π))) ?_ ?_ ?_ ?_ hC ?_ ?_ ?_ ?_ ?_ ?_ ?_
   ·intro i c hi
    rcases (getS l i c).1 hi with⟨h1,h2,rfl⟩ | ⟨j,rfl,h1⟩
    ·rw [πlt i h1]
     have:=hgl i h2
     rw [Nat.zero_add] at this
     exact this
    ·obtain⟨n,g1,g2⟩:=lget j c h1
     rw [show π (G+j)=n from hP g1]
     exact g2
   ·intro i j c d hi hj e
    rcases (getS _ i c).1 hi with⟨h1,_,_⟩ | ⟨x,rfl,h1⟩<;>rcases (getS _ j d).1 hj with⟨g1,_,_⟩ | ⟨y,rfl,g1⟩
    ·rw [πlt i h1,πlt j g1] at e;exact e
    ·rw [πlt i h1] at e
     rcases stand y d g1 with⟨n,s1,s2,_⟩ | ⟨s0,s1,_⟩
     ·rw [s2] at e
      have:=hge n (List.mem_of_getElem? s1)
      omega
     ·rw [s1] at e;omega
    ·rw [πlt j g1] at e
     rcases stand x c h1 with⟨n,s1,s2,_⟩ | ⟨s0,s1,_⟩
     ·rw [s2] at e
      have:=hge n (List.mem_of_getElem? s1)
      omega
     ·rw [s1] at e;omega
    ·rcases stand x c h1 with⟨n,s1,s2,_⟩ | ⟨s0,s1,_⟩<;>rcases stand y d g1 with⟨m,t1,t2,_⟩ | ⟨t0,t1,_⟩
     ·rw [s2,t2] at e
      subst e
      have:=qc hnd s1 t1
      omega
     ·rw [s2,t1] at e
      have:=hnlt n (List.mem_of_getElem? s1)
      omega
     ·rw [s1,t2] at e
      have:=hnlt m (List.mem_of_getElem? t1)
      omega
     ·rw [s1,t1] at e;omega
   ·intro i c hi
    rcases (getS l i c).1 hi with⟨h1,h2,rfl⟩ | ⟨j,rfl,h1⟩
    ·exact⟨_,(getS _ _ _).2 (.inl ⟨h1,h2,rfl⟩)⟩
    ·have hj:j < l'.length:=by rw [hlen];exact(List.getElem?_eq_some_iff.1 h1).1
     exact⟨_,(getS _ _ _).2 (.inr ⟨j,rfl,by rw [List.getElem?_append_left hj];exact List.getElem?_eq_getElem hj⟩)⟩
   ·intro g hg
    rw [hG] at hg
    exact πlt g hg
   ·intro i c hi hno
    rcases (getS _ i c).1 hi with⟨h1,h2,rfl⟩ | ⟨j,rfl,h1⟩
    ·have:=(getS l i _).2 (.inl ⟨h1,h2,rfl⟩)
     rw [hno] at this;cases this
    ·by_cases hj:j < l.length
     ·have:=(getS l (G+j) _).2 (.inr ⟨j,rfl,List.getElem?_eq_getElem hj⟩)
      rw [hno] at this;cases this
     ·rcases stand j c h1 with⟨n,s1,_,_⟩ | ⟨_,s1,_⟩
      ·have:=(List.getElem?_eq_some_iff.1 s1).1
       omega
      ·rw [s1];omega
   ·rw [hG];exact hML
   ·intro m c hm
    rw [ax,lenP] at hm
    split at hm
    ·rename_i hml
     by_cases hmn:m∈ns
     ·obtain⟨j,hj⟩:=List.mem_iff_getElem?.1 hmn
      have hj':j < l'.length:=by rw [hlen,lens];exact(List.getElem?_eq_some_iff.1 hj).1
      have:=rP ns _ H hnd hnlt j m _ hj (mget l' j _ (List.getElem?_eq_getElem hj'))
      rw [this] at hm
      cases hm
      exact .inl ⟨G+j,_,(hP hj).symm,(getS _ _ _).2 (.inr ⟨j,rfl,by rw [List.getElem?_append_left hj'];exact List.getElem?_eq_getElem hj'⟩),rfl⟩
     ·rw [jX ns _ H m hmn] at hm
      by_cases hmg:m < G /\ M[m]?=some true
      ·have:=hgl m hmg.2
       rw [Nat.zero_add,hm] at this
       cases this
       exact .inl ⟨m,_,(πlt m hmg.1).symm,(getS _ _ _).2 (.inl ⟨hmg.1,hmg.2,rfl⟩),sren m⟩
      ·refine .inr ⟨hm,fun i d hi e=>?_⟩
       rcases (getS _ i d).1 hi with⟨h1,h2,rfl⟩ | ⟨j,rfl,h1⟩
       ·rw [πlt i h1] at e
        subst e
        exact hmg ⟨h1,h2⟩
       ·rcases stand j d h1 with⟨n,s1,s2,_⟩ | ⟨_,s1,_⟩
        ·rw [s2] at e
         subst e
         exact hmn (List.mem_of_getElem? s1)
        ·rw [s1] at e;omega
    ·rename_i hml
     have h1:=(yG _ _ _).1 hm
     rw [List.getElem?_map,Option.map_eq_some_iff] at h1
     obtain⟨a,h1,rfl⟩:=h1
     refine .inl ⟨G+(ns.length+(m - H.length)),a,?_,(getS _ _ _).2 (.inr ⟨_,rfl,by rw [List.getElem?_append_right (by omega),hlen,lens,Nat.add_sub_cancel_left];exact h1⟩),rfl⟩
     have:=oX (G:=G) (ns:=ns) (L:=H.length) (j:=m - H.length)
     rw [show G+(ns.length+(m - H.length))=G+ns.length+(m - H.length) by omega]
     rw [show π (G+ns.length+(m - H.length))=_ from this]
     omega
   ·intro i d hi
    rcases (getS _ i d).1 hi with⟨h1,h2,rfl⟩ | ⟨j,rfl,h1⟩
    ·rw [πlt i h1,ax,lenP,if_pos (by omega),jX]
     ·have:=hgl i h2
      rw [Nat.zero_add] at this
      exact this
     ·intro hmem
      have:=hge i hmem
      omega
    ·rcases stand j d h1 with⟨n,_,s2,s3⟩ | ⟨_,s2,s3⟩
     ·rw [s2];exact s3
     ·rw [s2];exact s3
   ·intro m c hm
    by_cases hmn:m∈ns
    ·obtain⟨j,hj⟩:=List.mem_iff_getElem?.1 hmn
     have hj':j < l'.length:=by rw [hlen,lens];exact(List.getElem?_eq_some_iff.1 hj).1
     exact⟨_,by rw [ax,lenP,if_pos (aH hm)];exact rP ns _ H hnd hnlt j m _ hj (mget l' j _ (List.getElem?_eq_getElem hj'))⟩
    ·exact⟨c,by rw [ax,lenP,if_pos (aH hm),jX ns _ H m hmn];exact hm⟩
   ·intro m hm hno
    rw [ax,lenP,if_pos hm,jX]
    ·exact hno
    ·intro hmn
     obtain⟨j,hj⟩:=List.mem_iff_getElem?.1 hmn
     obtain⟨a,_,h2⟩:=al2 j m hj
     rw [hno] at h2;cases h2
   ·rw [List.length_append,lenP];omega
  ·simp [T.val] at hr
 ·simp [T.val] at hr
end Go.Sx

namespace Go.Sx
variable {AV:Type} {P:Program} {N:Env AV}
theorem Back.own {L nt:Nat} {s t:St AV} {π:Nat->Nat} (h:Back N L nt s t π) {ρ:Nm} {w:World} (ho:Own N ρ s.H w):Own N (ρ.ren π) t.H w:=by
 refine⟨⟨fun n c hc=>?_,fun n m c d hnm hc hd k hk hk'=>?_,fun g hg=>?_⟩,ho.ro.1,fun n c k hc hk=>?_⟩
 ·obtain⟨d,g1,g2⟩:=h.H n c hc
  exact zw.1 ((g2 ρ (π n) w).1 (ho.q _ _ g1))
 ·obtain⟨c',g1,g2⟩:=h.H n c hc
  obtain⟨d',g3,g4⟩:=h.H m d hd
  rw [<- gX] at hk hk'
  exact ho.dis (π n) (π m) _ _ (fun e=>hnm (h.inj n m c d hc hd e)) g1 g3 k (((g2 ρ (π n) w).2 k).1 hk) (((g4 ρ (π m) w).2 k).1 hk')
 ·show ρ (π g)=g
  rw [h.fix g (by have:=h.G;omega)]
  exact ho.glb g hg
 ·obtain⟨d,g1,g2⟩:=h.H n c hc
  rw [<- gX] at hk
  exact ho.ro.2 (π n) _ k g1 (((g2 ρ (π n) w).2 k).1 hk)
def stV (r:SV×Hp AV):Ex×St AV:=(.ret,{E:=only [0] [(0,r.1)] 1,H:=r.2})
theorem Jr {L:Nat} {f:FuncId} {args:List SV} {H H2:Hp AV} {v:SV} (hL:H.length=L) (hG:N.G<=L) (hc:Ctr P N f args H v H2) {pk:Chunk AV->Option AV} (hpk:∀d a,pk d=some a->∀π,Lesser N (d.ren π) (.abs a))
 {v':SV} {H':Hp AV} (hv:v'≠.unk) (hb:(bR L 1 [0] pk (stV (v,H2))).val=some (stV (v',H'))):Ctr P N f args H v' H':=by
 subst hL
 obtain⟨_,π,hb⟩:=pI hpk hG hb
 obtain⟨h1,h2,h3⟩:=hc
 have e0:v=v'.ren π:=hb.E 0 (by omega) hv
 refine⟨hb.cl.E 0,⟨hb.cl.H,trivial⟩,fun ρ w hO=>(h3 ρ w hO).mono ?_⟩
 rintro e w' ⟨ρ',rfl,o,ev⟩
 refine⟨ρ'.ren π,?_,hb.own o,hb.evo rfl ev⟩
 rw [e0,SV.den_ren]
theorem La {H:Hp AV} (hC:bB N H) {n:Nat} {l l':List Cell} {ty:TypeId} (hn:hget H n=some (.cells l ty)) {a:AV} {es:Nat} {aty:TypeId} (ha:N.F.arr a=some (es,aty,[]))
 (hl:∀ρ ρ':Nm,(∀m,m < H.length->ρ'.L m=ρ.L m)->ρ'.L H.length=⟨0,0,0⟩->ae ρ' l'=ae ρ l) (hG:N.G<=H.length):Opn N H (lset H n (some (.cells l' ty))++bq [a]):=fun ρ w hO=>by
 have hlt:=aH hn
 have get:∀m,hget (lset H n (some (.cells l' ty))++bq [a]) m=if m < H.length then(if m=n then some (.cells l' ty) else hget H m) else if m=H.length then some (.abs a) else none:=fun m=>by
  rw [ax,bn]
  by_cases h1:m < H.length
  ·rw [if_pos h1,if_pos h1]
   by_cases h2:m=n
   ·subst h2;rw [if_pos rfl,aO _ h1]
   ·rw [if_neg h2,ay _ fun e=>h2 e.symm]
  ·rw [if_neg h1,if_neg h1]
   by_cases h2:m=H.length
   ·subst h2;rw [if_pos rfl,Nat.sub_self];rfl
   ·rw [if_neg h2]
    obtain⟨k,hk⟩:∃k,m - H.length=k+1:=⟨m - H.length - 1,by omega⟩
    rw [hk];rfl
 let ρ':Nm:=⟨fun m=>if m < H.length then ρ.L m else⟨0,0,0⟩,fun m=>if m < H.length then ρ.S m else fun _=>False⟩
 have eL:∀m,m < H.length->ρ'.L m=ρ.L m:=fun m h=>if_pos h
 have eS:∀m,m < H.length->ρ'.S m=ρ.S m:=fun m h=>if_pos h
 have eL0:ρ'.L H.length=⟨0,0,0⟩:=if_neg (by omega)
 have eS0:ρ'.S H.length=fun _=>False:=if_neg (by omega)
 have agr:∀m c,hget H m=some c->ρ'.L m=ρ.L m:=fun m c h=>eL m (aH h)
 have fp0:∀m c k,hget (lset H n (some (.cells l' ty))++bq [a]) m=some c->c.fp ρ' m k->∃d,hget H m=some d /\ d.fp ρ m k:=fun m c k hc hk=>by
  rw [get] at hc
  split at hc
  ·rename_i h1
   split at hc
   ·rename_i h2
    cases hc
    subst h2
    rw [aU (eL _ h1) (eS _ h1)] at hk
    exact⟨_,hn,hk⟩
   ·rw [aU (eL m h1) (eS m h1)] at hk
    exact⟨c,hc,hk⟩
  ·split at hc
   ·rename_i h2
    cases hc
    subst h2
    have hk:ρ'.S H.length k:=hk
    rw [eS0] at hk
    exact hk.elim
   ·cases hc
 refine⟨ρ',hO.sub ⟨fun m c hc=>?_,fun m m' c d hne hc hd k hk hk'=>?_,fun g hg=>?_⟩ fun m c k hc hk=>?_,fun m h=>eL m h,fun m d k hd hk=>?_⟩
 ·rw [get] at hc
  split at hc
  ·rename_i h1
   split at hc
   ·rename_i h2
    cases hc
    subst h2
    have hq:=hO.q _ _ hn
    have e:=hl ρ ρ' eL eL0
    have hf:ρ' m=ρ m:=by simp only [Nm.f,eL m h1]
    show w.heap[ρ' m]?=_
    rw [hf,e]
    exact hq
   ·exact gi (hO.q m c hc) (eL m h1) (eS m h1) (denL_congr (hC.1 m c hc) fun x y hy=>agr x y hy) (fun _ _=>rfl)
  ·split at hc
   ·rename_i h2
    cases hc
    subst h2
    show N.F.q a _ _ _
    rw [eL0,eS0]
    exact((N.F.arr_q a _ _ _ ha).2 _ _ _).2 (.inl ⟨Nat.zero_le _,rfl,fun k h=>h⟩)
   ·cases hc
 ·obtain⟨c',h1,h2⟩:=fp0 m c k hc hk
  obtain⟨d',h3,h4⟩:=fp0 m' d k hd hk'
  exact hO.dis m m' c' d' hne h1 h3 k h2 h4
 ·show (ρ'.L g).b=g
  rw [eL g (by omega)]
  exact hO.glb g hg
 ·obtain⟨c',h1,h2⟩:=fp0 m c k hc hk
  exact⟨m,c',h1,h2⟩
 ·obtain⟨c',h1,h2⟩:=fp0 m d k hd hk
  exact⟨m,c',h1,h2⟩
end Go.Sx

namespace Go.Proofs.YtcpdipfepeccgaaGreatDoor
open Go Go.Sx Go.Proofs
set_option maxRecDepth 100000
abbrev Lp:=FuncId->Nat->Option (St AV->T (Ex×St AV))
def cZ:Lp:=fun _ _=>none
noncomputable def NVl (lp:Lp) (σ:Sg):Env AV:={tt:=tt,ft:=ft,gu:=gu,G:=8,F:=F6 σ,hv:=hvG (F6 σ) slT 8,lp:=lp,mt:=mtF,sl:=slT}
variable {σ:Sg} {lp:Lp}
theorem Ub:TblOk Tryz.prog (NVl lp σ):=by
 obtain⟨a,b,c,d,e⟩:=okV (σ:=σ)
 exact⟨a,b,c,d,e⟩
theorem Up:FI Tryz.prog (NVl lp σ):=Cd G1 rfl
theorem eh {N N':Env AV} (hF:N'.F=N.F) (hG:N'.G=N.G) {f:FuncId} {g:List SV->Hp AV->T (SV×Hp AV)} (h:FnOk Tryz.prog N f g):FnOk Tryz.prog N' f g:=fun args H v H' hr ha hC=>by
 obtain⟨h1,h2,h3⟩:=h args H v H' hr ha ⟨hC.1,trivial⟩
 refine⟨h1,⟨h2.1,trivial⟩,fun ρ w hO=>(h3 ρ w (eW hF.symm hG.symm hO)).mono ?_⟩
 rintro e w' ⟨ρ',he,o,ev⟩
 exact⟨ρ',he,eW hF hG o,mC N' ev⟩
theorem Fc (hlp:bS Tryz.prog (NVl lp σ)) {tab:Tab} (ht:bm Tryz.prog (NVl lp σ) tab) (n:Nat) (f:FuncId):FnOk Tryz.prog (NVl lp σ) f (lv (NVl lp σ) tab n (.fn f)):=NR Ub hlp Up ht n f
theorem ny {tab:Tab} (h:bm Tryz.prog (NV σ) tab):bm Tryz.prog (NVl lp σ) tab:=fun f g hg=>eh (N:=NV σ) (N':=NVl lp σ) rfl rfl (h f g hg)
theorem fL:bS Tryz.prog (NVl cZ σ):=fun f fn c _ _ id b _ g hg=>by cases hg
def dO (id:Nat):List (Nat×Code)->Code
 | []=>.skip
 | (k,c)::r=>match Nat.beq k id with | true=>c | false=>dO id r
noncomputable def bC (fn:Func):Code:=match fn.body with | some c=>c | none=>.skip
theorem nU {P:Program} {N N':Env AV} (hF:N'.F=N.F) (hG:N'.G=N.G) {nt:Nat} {c:Code} {g:St AV->T (Ex×St AV)} (h:b7 P N nt c g):b7 P N' nt c g:=by
 intro L s s' ex hg hcl hL
 obtain⟨h1,h2,h3⟩:=h L s s' ex hg (gq N hcl) hL
 refine⟨gq N' h1,h2,fun {ρ a w} hat=>?_⟩
 refine wp_mono (h3 ⟨hat.em,eW hF.symm hG.symm hat.own⟩) ?_
 rintro e a' w' ⟨he,⟨ρ',e1,o1,v1⟩,d1⟩
 exact⟨he,⟨ρ',e1,eW hF hG o1,mC N' v1⟩,d1⟩
def dS (f id:Nat) (g:St AV->T (Ex×St AV)) (lp:Lp):Lp:=fun f'=>match Nat.beq f' f with
 | true=>fun id'=>match Nat.beq id' id with
   | true=>some g
   | false=>lp f' id'
 | false=>lp f'
theorem fe {f id:Nat} {g:St AV->T (Ex×St AV)} {lp:Lp} (h:bS Tryz.prog (NVl lp σ)) {fn:Func} (hf:ft.get f=some fn) {c:Code} (hc:fn.body=some c) {nt:Nat} (hnt:fn.ntmps=nt) {b:Code} (hb:∀x∈aT c,x.1=id->x.2=b) (hg:b7 Tryz.prog (NVl lp σ) nt b g):bS Tryz.prog (NVl (dS f id g lp) σ):=by
 intro f' fn' c' hf' hc' id' b' hb' g' hg'
 have hg':dS f id g lp f' id'=some g':=hg'
 have old:lp f' id'=some g'->b7 Tryz.prog (NVl (dS f id g lp) σ) fn'.ntmps b' g':=fun h1=>nU (N:=NVl lp σ) (N':=NVl (dS f id g lp) σ) rfl rfl (h f' fn' c' hf' hc' id' b' hb' g' h1)
 by_cases e:f'=f
 ·subst e
  by_cases e2:id'=id
  ·subst e2
   have hg':(match Nat.beq f' f' with
    | true=>fun id=>match Nat.beq id id' with
      | true=>some g
      | false=>lp f' id
    | false=>lp f') id'=some g':=hg'
   simp only [Nat.beq_refl] at hg'
   cases hg'
   have hf':ft.get f'=some fn':=hf'
   rw [hf] at hf'
   cases hf'
   rw [hc] at hc'
   cases hc'
   have hbb:b'=b:=hb _ hb' rfl
   rw [hnt,hbb]
   exact nU (N:=NVl lp σ) (N':=NVl (dS f' id' g lp) σ) rfl rfl hg
  ·refine old ?_
   have hg':(match Nat.beq f' f' with
    | true=>fun id'=>match Nat.beq id' id with
      | true=>some g
      | false=>lp f' id'
    | false=>lp f') id'=some g':=hg'
   simp only [Nat.beq_refl,(aD _ _).2 e2] at hg'
   exact hg'
 ·refine old ?_
  have hg':(match Nat.beq f' f with
   | true=>fun id'=>match Nat.beq id' id with
     | true=>some g
     | false=>lp f' id'
   | false=>lp f') id'=some g':=hg'
  simp only [(aD _ _).2 e] at hg'
  exact hg'
def xZ (id:Nat):List (Nat×Code)->Bool
 | []=>true
 | (k,c)::r=>match Nat.beq k id with
   | true=>match hasN (r.map Prod.fst) id with | true=>false | false=>true
   | false=>xZ id r
theorem aR {id:Nat}:∀{l:List (Nat×Code)},xZ id l=true->∀x∈l,x.1=id->x.2=dO id l
 | [],_,x,h,_=>by cases h
 | (k,c)::r,h,x,hx,he=>by
   simp only [xZ] at h
   show x.2=match Nat.beq k id with | true=>c | false=>dO id r
   cases hk:Nat.beq k id with
   | true =>
     rw [hk] at h
     have hk:=(af _ _).1 hk
     simp only at h ⊢
     split at h
     ·cases h
     ·rename_i hn
      rcases List.mem_cons.1 hx with rfl | hx
      ·rfl
      ·exfalso
       have:id∈r.map Prod.fst:=List.mem_map.2 ⟨x,hx,he⟩
       rw [(cF _ _).2 this] at hn
       cases hn
   | false =>
     rw [hk] at h
     simp only at h ⊢
     rcases List.mem_cons.1 hx with rfl | hx
     ·exact absurd he ((aD _ _).1 hk)
     ·exact aR h x hx he
theorem nv {α:Type} {b:Bool} {t:T α} (h:b=true):(T.need b t).val=t.val:=by subst h;rfl
theorem ivT {α:Type} {c:Bool} {t u:T α} (h:c=true):(T.ite c t u).val=t.val:=by subst h;rfl
theorem ivF {α:Type} {c:Bool} {t u:T α} (h:c=false):(T.ite c t u).val=u.val:=by subst h;rfl
theorem Ct {N:Env AV} {nt:Nat} {E E':Ev} {H:Hp AV} {ks:List Nat} {n:Nat} {c c':Chunk AV} (hn:hget H n=some c) (hl:Lesser N c c') (hcc:c'.cellsOf=[])
 (hE:∀k∈ks,Sx.look E' k=Sx.look E k \/ (Sx.look E k≠.unk /\ ClV H (Sx.look E' k) /\ ∀ρ,(Sx.look E' k).den ρ=(Sx.look E k).den ρ)):Enter N nt {E:=E,H:=H} {E:=only ks E' nt,H:=lset H n (some c')}:=fun hc=>by
 have hlt:=aH hn
 have get:∀m,hget (lset H n (some c')) m=if m=n then some c' else hget H m:=fun m=>by
  by_cases h2:m=n
  ·subst h2;rw [if_pos rfl,aO _ hlt]
  ·rw [if_neg h2,ay _ fun e=>h2 e.symm]
 have pers:∀m d,hget H m=some d->∃d',hget (lset H n (some c')) m=some d':=fun m d h=>by
  rw [get]
  by_cases h2:m=n
  ·rw [if_pos h2];exact⟨_,rfl⟩
  ·rw [if_neg h2];exact⟨d,h⟩
 have src:∀m d,hget (lset H n (some c')) m=some d->∃d',hget H m=some d' /\ (∀ρ w,d'.q N ρ m w->d.q N ρ m w) /\ ∀ρ k,d.fp ρ m k↔d'.fp ρ m k:=fun m d h=>by
  rw [get] at h
  split at h
  ·rename_i e
   subst e
   cases h
   exact⟨_,hn,fun ρ w hq=>(hl ρ m w).1 hq,fun ρ k=>(hl ρ m default).2 k⟩
  ·exact⟨d,h,fun _ _ h=>h,fun _ _=>Iff.rfl⟩
 refine⟨⟨fun k=>?_,fun m x hx=>?_⟩,by show H.length<=(lset H n _).length;rw [bn];exact Nat.le_refl _,fun ρ a w hat=>⟨ρ,⟨⟨hat.em.size,fun k hk=>?_⟩,?_⟩,⟨pers,fun _ _ _=>rfl,fun m hm h=>?_,by show H.length<=(lset H n _).length;rw [bn];exact Nat.le_refl _,fun _ _ _=>rfl,fun m d k h hk=>?_,rfl,rfl,rfl,Nat.le_refl _⟩⟩⟩
 ·show ClV (lset H n (some c')) (Sx.look (only ks E' nt) k)
  simp only [dq]
  split
  ·cases hh:hasN ks k with
   | false=>trivial
   | true =>
     rcases hE k ((cF _ _).1 hh) with e | ⟨_,e,_⟩
     ·simp only [e];exact(hc.E k).mono fun m d h=>pers m d h
     ·exact e.mono fun m d h=>pers m d h
  ·exact fC _
 ·have hx':hget (lset H n (some c')) m=some x:=hx
  clear hx
  rw [get] at hx'
  split at hx'
  ·cases hx'
   intro d hd;rw [hcc] at hd;cases hd
  ·exact(hc.H m x hx').mono fun m d h=>pers m d h
 ·have hk:Sx.look (only ks E' nt) k≠.unk:=hk
  show a.tmps.getD k undef=(Sx.look (only ks E' nt) k).den ρ
  simp only [dq] at hk ⊢
  split
  ·rename_i hkn
   rw [if_pos hkn] at hk
   cases hh:hasN ks k with
   | false=>rw [hh] at hk;exact absurd rfl hk
   | true =>
     rw [hh] at hk
     simp only at hk ⊢
     rcases hE k ((cF _ _).1 hh) with e | ⟨e0,_,e⟩
     ·rw [e] at hk ⊢;exact hat.em.get k hk
     ·rw [e ρ];exact hat.em.get k e0
  ·rename_i hkn
   have:nt<=k:=by omega
   rw [Array.getD_eq_getD_getElem?,Array.getElem?_eq_none (by rw [hat.em.size];exact this)]
   rfl
 ·refine hat.own.sub ⟨fun m d h=>?_,fun m m' d d' hne h h' k hk hk'=>?_,hat.own.glb⟩ fun m d k h hk=>?_
  ·obtain⟨d',h1,h2,_⟩:=src m d h
   exact h2 ρ w (hat.own.q m d' h1)
  ·obtain⟨e,h1,_,h3⟩:=src m d h
   obtain⟨e',g1,_,g3⟩:=src m' d' h'
   exact hat.own.dis m m' e e' hne h1 g1 k ((h3 ρ k).1 hk) ((g3 ρ k).1 hk')
  ·obtain⟨e,h1,_,h3⟩:=src m d h
   exact⟨m,e,h1,(h3 ρ k).1 hk⟩
 ·have h:hget H m=none:=h
  show hget (lset H n _) m=none
  rw [get]
  split
  ·rename_i e;subst e;rw [h] at hn;cases hn
  ·exact h
 ·obtain⟨e,h1,_,h3⟩:=src m d h
  exact .inr ⟨m,e,h1,(h3 ρ k).1 hk⟩
theorem mW {m:Int} (h:-9223372036854775808<=m /\ m<=9223372036854775807):IntKind.wrap .i64 m=m:=by
 unfold IntKind.wrap
 simp only [IntKind.bits,IntKind.signed]
 first | omega | (simp;omega)
theorem kf {N:Env AV} {nt:Nat} {E E':Ev} {H:Hp AV} {ks:List Nat} (hE:∀k∈ks,Sx.look E' k=Sx.look E k \/ (Sx.look E k≠.unk /\ Plain (Sx.look E' k) /\ ∀ρ,(Sx.look E' k).den ρ=(Sx.look E k).den ρ)):Enter N nt {E:=E,H:=H} {E:=only ks E' nt,H:=H}:=by
 refine Cs ⟨fun k hk=>?_,fun k hk=>?_⟩ rfl
 ·show Sx.look (only ks E' nt) k=_ \/ Sx.look (only ks E' nt) k=_ \/ _
  simp only [dq,if_pos hk]
  cases hh:hasN ks k with
  | false=>exact .inl rfl
  | true =>
    rcases hE k ((cF _ _).1 hh) with e | ⟨e0,e1,e2⟩
    ·exact .inr (.inl e)
    ·exact .inr (.inr ⟨e0,e1,e2⟩)
 ·show Sx.look (only ks E' nt) k=_
  rw [dq,if_neg (by omega)]
def hpC (M:List Bool) (l:List (Chunk AV)):Hp AV:=aX AV.sent 0 M++chL l
def bZ:Chunk AV->Option AV:=fun _=>none
noncomputable def runC (lp:Lp) (σ:Sg) (tab:Tab) (f:FuncId) (M:List Bool) (args:List SV) (l:List (Chunk AV)):T (Ex×St AV) :=
 match clVs (hpC M l) args,clHs (hpC M l) (hpC M l) with
 | true,true=>(Q.lv (NVl lp σ) tab 26 (.fn f) args (hpC M l)).bind fun r=>bR (M.length+l.length) 1 [0] bZ (stV r)
 | _,_=>.fail "names"
theorem dZ (hlp:bS Tryz.prog (NVl lp σ)) {tab:Tab} (ht:bm Tryz.prog (NVl lp σ) tab) {f:FuncId} {M:List Bool} (hM:M.length=8) {args:List SV} {l:List (Chunk AV)} {v:SV} {H':Hp AV} (h:(runC lp σ tab f M args l).val=some (stV (v,H'))) (hv:v≠.unk) :
 Ctr Tryz.prog (NVl lp σ) f args (hpC M l) v H':=by
 unfold runC at h
 split at h
 ·rename_i h1 h2
  obtain⟨⟨v1,H2⟩,hr,hb⟩:=T.bind_some h
  rw [Q.lv_eq] at hr
  have hctr:=(Fc hlp ht 26 f).ctr hr (eP.1 h1) ⟨cn.1 h2,trivial⟩
  have hlen:(hpC M l).length=M.length+l.length:=by simp [hpC,cC,Mq]
  exact Jr hlen (by show 8<=_;omega) hctr (fun d a h=>by cases h) hv hb
 ·simp [T.val] at h
def fX:Hp AV->Nat->List Bool->Option (Hp AV)
 | H,_,[]=>some H
 | some (.abs a)::r,i,true::M=>match isS a i with | true=>fX r (i+1) M | false=>none
 | none::r,i,false::M=>fX r (i+1) M
 | _,_,_::_=>none
theorem dJ:∀{M:List Bool} {H R:Hp AV} {i:Nat},fX H i M=some R->H=aX AV.sent i M++R
 | [],H,R,i,h=>by
   simp only [fX,Option.some.injEq] at h
   rw [h];rfl
 | b::M,H,R,i,h=>by
   unfold fX at h
   split at h
   ·cases ‹b::M=[]›
   ·rename_i e
    cases e
    split at h
    ·rename_i hs
     rw [dJ h,bk _ _ hs];rfl
    ·cases h
   ·rename_i e
    cases e
    rw [dJ h];rfl
   ·cases h
end Go.Proofs.YtcpdipfepeccgaaGreatDoor

namespace Go.Proofs.YtcpdipfepeccgaaGreatDoor
open Go Go.Sx Go.Proofs
set_option maxRecDepth 100000
variable {σ:Sg}
abbrev bp (n:Int):Int:=IntKind.wrap .i64 (n+1)
def aq:W:=⟨0,0,0,0,false⟩
def g9 (n:Int):W:=⟨0,0,0,n,false⟩
def qS (a b:W):Bool:=a.slot==b.slot&&(a.tag==b.tag&&(a.num==b.num&&a.mark==b.mark))
def PlotM.slot (m:PlotM) (n:Int):Sl:=m.slots.getD (n - 1).toNat kslots.dflt
def PlotM.has (m:PlotM) (n:Int):Prop:=1<=n /\ n<=(m.slots.length:Int)
instance (m:PlotM) (n:Int):Decidable (m.has n):=inferInstanceAs (Decidable (_ /\ _))
def PlotM.hasA (m:PlotM) (s g f:Int):Prop:=if s=0 then g=0 /\ 0<=f /\ f < (m.board.length:Int) else m.has s /\ 0<=f /\ f < 10
instance (m:PlotM) (s g f:Int):Decidable (m.hasA s g f):=by unfold PlotM.hasA;exact inferInstance
def PlotM.valid (m:PlotM) (a:Acc):Prop:=if a.kind=1 \/ a.kind=2 \/ a.kind=3 then m.hasA a.s a.g a.f else if a.kind=4 then True else if a.kind=5 then m.has a.old.slot else False
instance (m:PlotM) (a:Acc):Decidable (m.valid a):=by unfold PlotM.valid;exact inferInstance
def PlotM.state (m:PlotM) (n g:Int) (wf:Nat):Option Nat:=if n=0 then none else if (m.slot n).used=false then some wf else if (m.slot n).gen=g then none else some 7
def PlotM.wrong (m:PlotM) (a:Acc):Option Nat:=if a.kind=4 then none else if a.kind=5 then m.state a.old.slot a.old.gen 5 else m.state a.s a.g 6
def PlotM.read (m:PlotM) (s f:Int):W:=if s=0 then m.board.getD f.toNat kwords.dflt else(m.slot s).at f.toNat
def PlotM.write (m:PlotM) (s f:Int) (w:W):PlotM:=if s=0 then {m with board:=m.board.set f.toNat w} else {m with slots:=m.slots.set (s - 1).toNat ((m.slot s).setAt f.toNat w)}
def PlotM.alloc (m:PlotM) (birth:Int):Rp1×PlotM:=if m.free.length=0 then(⟨aq,false⟩,m) else
 let n:=(m.free.getD (m.free.length - 1) kints.dflt).val
 let g:=bp (m.slot n).gen
 (⟨⟨n,g,0,0,false⟩,true⟩,{m with slots:=m.slots.set (n - 1).toNat ⟨g,true,[aq,aq,aq,aq,aq,aq,aq,aq,aq,g9 birth]⟩,free:=m.free.take (m.free.length - 1),made:=bp m.made})
def PlotM.access (m:PlotM) (a:Acc):Rp1×PlotM :=
 let m1:={m with steps:=bp m.steps}
 match m.wrong a with
 | some e=>(⟨if a.kind=1 \/ a.kind=3 then g9 (-1) else aq,false⟩,match m.fault with | none=>{m1 with fault:=some (m1.steps,e)} | some _=>m1)
 | none=>if a.kind=4 then m1.alloc a.new.num
   else if a.kind=5 then(⟨aq,true⟩,{m1 with slots:=m1.slots.set (a.old.slot - 1).toNat {m1.slot a.old.slot with used:=false},free:=m1.free++[⟨a.old.slot⟩]})
   else if a.kind=1 then(⟨m1.read a.s a.f,true⟩,m1)
   else if a.kind=2 then(⟨aq,true⟩,m1.write a.s a.f a.new)
   else if qS (m1.read a.s a.f) a.old then(⟨m1.read a.s a.f,true⟩,m1.write a.s a.f a.new) else(⟨m1.read a.s a.f,false⟩,m1)
structure PlotM.Ok (m:PlotM):Prop where
 lb:m.board.length<=5000
 ls:m.slots.length<=5000
 lf:m.free.length<=5000
 fr:∀x∈m.free,m.has x.val
def rpC (r:Rp1):V1:=.agg (r.w.enc++[.bt r.ok])
end Go.Proofs.YtcpdipfepeccgaaGreatDoor

namespace Go.Proofs.YtcpdipfepeccgaaGreatDoor
open Go Go.Sx Go.Proofs
set_option maxRecDepth 100000
variable {σ:Sg}
def noM:List Bool:=List.replicate 8 false
def gsC:Gs->List Cell
 | .p c::r=>c::gsC r
 | _=>[]
theorem ju:∀(l:List Cell),gsC (l.map .p)=l
 | []=>rfl
 | c::r=>by show c::gsC (r.map .p)=_;rw [ju r]
def qf:List Cell->Bool
 | []=>true
 | c::r=>match c.name with | none=>qf r | some _=>false
theorem lL:∀{l:List Cell},qf l=true->∀c∈l,c.name=none
 | [],_,c,hc=>by cases hc
 | x::r,h,c,hc=>by
   simp only [qf] at h
   split at h
   ·rename_i hx
    rcases List.mem_cons.1 hc with rfl | hc
    ·exact hx
    ·exact lL h c hc
   ·cases h
def Gw:SV->Bool
 | .v x=>qf x.cells
 | .unk=>true
 | _=>false
def cS:List SV->Bool
 | []=>true
 | x::r=>match Gw x with | true=>cS r | false=>false
theorem pS {x:SV} (h:Gw x=true) {H:Hp AV}:ClV H x:=by
 cases x with
 | v x=>intro c hc n hn;rw [lL (l:=x.cells) h c hc] at hn;cases hn
 | unk=>trivial
 | tup l=>cases h
 | clo f l=>cases h
theorem bL:∀{l:List SV},cS l=true->∀{H:Hp AV},∀x∈l,ClV H x
 | [],_,H,x,hx=>by cases hx
 | y::r,h,H,x,hx=>by
   simp only [cS] at h
   split at h
   ·rename_i hy
    rcases List.mem_cons.1 hx with rfl | hx
    ·exact pS hy
    ·exact bL h x hx
   ·cases h
structure ArgK (A:Type) where
 enc:A->List SV
 dec:List SV->Option A
 ok:∀l a,dec l=some a->∀ρ:Nm,(enc a).map (SV.den ρ)=l.map (SV.den ρ)
 free:∀a,cS (enc a)=true
structure ValK (B:Type) where
 enc:B->SV
 dec:SV->Option B
 ok:∀v b,dec v=some b->v=enc b
structure ObK (α:Type) where
 V:α->AV
 X:AV->Option α
 ok:∀a j,X a=some j->a=V j
 okD:∀j,(V j).okD=true
def dz:Gs->Gs
 | []=>[]
 | .p c::r=>.p (tC c)::dz r
 | x::r=>x::dz r
theorem iJ:∀gs:Gs,bP (dz gs)=bP gs
 | []=>rfl
 | .p c::r=>iJ r
 | .s a es::r=>by show a::bP (dz r)=_;rw [iJ r];rfl
 | .r a::r=>by show a::bP (dz r)=_;rw [iJ r];rfl
 | .i t a::r=>by show a::bP (dz r)=_;rw [iJ r];rfl
theorem iK (ρ:Nm):∀(gs:Gs) (k:Nat),ae ρ (cI AV.len k (dz gs))=ae ρ (cI AV.len k gs)
 | [],k=>rfl
 | .p c::r,k=>by
   show (tC c).den ρ::ae ρ (cI AV.len k (dz r))=_
   rw [pa,iK ρ r k];rfl
 | .s a es::r,k=>by
   show _::ae ρ (cI AV.len (k+1) (dz r))=_
   rw [iK ρ r (k+1)];rfl
 | .r a::r,k=>by
   show _::ae ρ (cI AV.len (k+1) (dz r))=_
   rw [iK ρ r (k+1)];rfl
 | .i t a::r,k=>by
   show _::ae ρ (cI AV.len (k+1) (dz r))=_
   rw [iK ρ r (k+1)];rfl
theorem o7 {N:Env AV} {ty:TypeId} {gs:Gs} {l:Sx.Loc} {S:Nat->Prop} {w:World} (h:fI N (cD AV.len ty (dz gs)) l S w):fI N (cD AV.len ty gs) l S w:=by
 obtain⟨ρ,hl,⟨hq,hd⟩,hS⟩:=h
 have hp:=iJ gs
 have get:∀i c,hget (cD AV.len ty gs) i=some c->∃c',hget (cD AV.len ty (dz gs)) i=some c' /\ (c'.q N ρ i w->c.q N ρ i w) /\ ∀k,c.fp ρ i k↔c'.fp ρ i k:=fun i c hc=>by
  cases i with
  | zero =>
    simp only [cD,hget,Option.some.injEq] at hc
    subst hc
    refine⟨_,rfl,fun h=>?_,fun k=>Iff.rfl⟩
    have h:w.heap[ρ 0]?=some (.cells (ae ρ (cI AV.len 1 (dz gs))).toArray ty (0,0)):=h
    rw [iK] at h
    exact h
  | succ i =>
    refine⟨c,?_,id,fun k=>Iff.rfl⟩
    show hget (bq (bP (dz gs))) i=some c
    rw [hp];exact hc
 have back:∀i c,hget (cD AV.len ty (dz gs)) i=some c->∃c',hget (cD AV.len ty gs) i=some c' /\ ∀k,c.fp ρ i k↔c'.fp ρ i k:=fun i c hc=>by
  cases i with
  | zero =>
    simp only [cD,hget,Option.some.injEq] at hc
    subst hc
    exact⟨_,rfl,fun k=>Iff.rfl⟩
  | succ i =>
    refine⟨c,?_,fun k=>Iff.rfl⟩
    show hget (bq (bP gs)) i=some c
    rw [<- hp];exact hc
 refine⟨ρ,hl,⟨fun i c hc=>?_,fun i j c d hij hc hd' k hk hk'=>?_⟩,fun k=>?_⟩
 ·obtain⟨c',h1,h2,_⟩:=get i c hc
  exact h2 (hq i c' h1)
 ·obtain⟨c',h1,_,h3⟩:=get i c hc
  obtain⟨d',g1,_,g3⟩:=get j d hd'
  exact hd i j c' d' hij h1 g1 k ((h3 k).1 hk) ((g3 k).1 hk')
 ·rw [hS k]
  constructor
  ·rintro ⟨i,c,hc,hf⟩
   obtain⟨c',h1,h2⟩:=back i c hc
   exact⟨i,c',h1,(h2 k).1 hf⟩
  ·rintro ⟨i,c,hc,hf⟩
   obtain⟨c',h1,_,h3⟩:=get i c hc
   exact⟨i,c',h1,(h3 k).1 hf⟩
noncomputable def cM (σ:Sg) (tab:Tab) (f:FuncId) (M:List Bool) (args:List SV) (a:AV) (ty:TypeId) (gs:Gs) (l:List AV):T (SV×List AV×List AV) :=
 G9 σ tab f M (.v (.c (.ptr 8 0))::args) (a::l) (cD AV.len ty gs)
theorem tc {M:List Bool} {a:AV} {l:List AV} (hM:8=M.length):ClV (hpO M (a::l)) (.v (.c (.ptr 8 0))):=by
 intro c hc n hn
 have hc:c∈[Cell.ptr 8 0]:=hc
 rw [List.mem_singleton.1 hc] at hn
 cases hn
 refine⟨.abs a,?_⟩
 unfold hpO
 rw [ax,cC,if_neg (by omega),hM,Nat.sub_self]
 rfl
theorem zo {tab:Tab} (ht:bm Tryz.prog (NV σ) tab) {f:FuncId} {M:List Bool} (hM:8=M.length) {args:List SV} {a:AV} {ty:TypeId} {gs:Gs} {l:List AV} (ho:a.okD=true) (hl:ia σ a=some (cD AV.len ty (dz gs))) {v:SV} {l' nw:List AV}
 (hargs:∀x∈args,ClV (hpO M (a::l)) x) (h:(cM σ tab f M args a ty gs l).val=some (v,l',nw)) :
 Ctr Tryz.prog (NV σ) f (.v (.c (.ptr 8 0))::args) (hpO M (a::l)) v (hpO M (l'++nw)) /\ l'.length=l.length+1 :=
 Dc ht hM (a:=a) (K:=cD AV.len ty gs) ⟨_,rfl⟩ (fun L S w hq=>o7 ((jW (N:=NV σ) rfl hl ho L S w).1 hq)) (fun x hx=>by
  rcases List.mem_cons.1 hx with rfl | hx
  ·exact tc hM
  ·exact hargs x hx) h
def eO {β α:Type} (B:ValK β) (O:ObK α):SV×List AV×List AV->Option (β×α)
 | (v,[a],[])=>match B.dec v,O.X a with
   | some b,some j=>some (b,j)
   | _,_=>none
 | _=>none
def tH {α:Type}:Option Bool->T α->T α
 | none,t=>t
 | some b,t=>.need b t
def okO:Option Bool->Bool
 | none=>true
 | some b=>b
theorem dB {α:Type} {o:Option Bool} {t:T α} {r:α} (h:(tH o t).val=some r):okO o=true /\ t.val=some r:=by
 cases o with
 | none=>exact⟨rfl,h⟩
 | some b=>exact ah h
def cU {γ β α:Type} (A:ArgK γ) (B:ValK β) (O:ObK α) (ok:α->γ->Option Bool) (next:α->γ->β×α) (args:List SV) (l:List AV):T (SV×List AV×List AV):=match args,l with
 | .v (.c (.ptr 8 0))::r,[a]=>match A.dec r,O.X a with
   | some x,some j=>tH (ok j x) (.leaf (B.enc (next j x).1,[O.V (next j x).2],[]))
   | _,_=>.fail "method"
 | _,_=>.fail "method"
theorem map_some {α β:Type} {t:T α} {d:α->β} {y:β} (h:(t.map d).val=some y):∃r,t.val=some r /\ d r=y:=by
 rw [T.val_map] at h
 obtain⟨r,h1,h2⟩:=Option.map_eq_some_iff.1 h
 exact⟨r,h1,h2⟩
theorem qC {β α:Type} {B:ValK β} {O:ObK α} {r:SV×List AV×List AV} {b:β} {j:α} (h:eO B O r=some (b,j)):r=(B.enc b,[O.V j],[]):=by
 unfold eO at h
 split at h
 ·split at h
  ·rename_i hb hj
   cases h
   rw [B.ok _ _ hb,O.ok _ _ hj]
  ·cases h
 ·cases h
def Qq {γ β α:Type} (σ:Sg) (tab:Tab) (f:FuncId) (M:List Bool) (A:ArgK γ) (B:ValK β) (O:ObK α) (j:α) (x:γ) (r:β×α):Prop :=
 ∃ty gs,ia σ (O.V j)=some (cD AV.len ty (dz gs)) /\ ∃args,cS args=true /\ (∀ρ:Nm,args.map (SV.den ρ)=(A.enc x).map (SV.den ρ)) /\ ((cM σ tab f M args (O.V j) ty gs []).map (eO B O)).val=some (some r)
theorem wA {tab:Tab} (ht:bm Tryz.prog (NV σ) tab) {f:FuncId} {M:List Bool} (hM:8=M.length) {γ β α:Type} {A:ArgK γ} {B:ValK β} {O:ObK α} {ok:α->γ->Option Bool} {next:α->γ->β×α} (hrun:∀j x,okO (ok j x)=true->Qq σ tab f M A B O j x (next j x))
 {args:List SV} {l:List AV} {v:SV} {l' nw:List AV} (h:(cU A B O ok next args l).val=some (v,l',nw)) (hl:l'.length=l.length) (hargs:∀x∈args,ClV (aX AV.sent 0 M++bq l) x):Ctr Tryz.prog (NV σ) f args (aX AV.sent 0 M++bq l) v (aX AV.sent 0 M++bq (l'++nw)):=by
 unfold cU at h
 split at h
 ·rename_i r a
  split at h
  ·rename_i x j hx hj
   replace h:=dB h
   obtain⟨hok,h⟩:=h
   simp only [T.val,Option.some.injEq,Prod.mk.injEq] at h
   obtain⟨rfl,rfl,rfl⟩:=h
   have ea:=O.ok _ _ hj
   subst ea
   obtain⟨ty,gs,e1,args',e2,e3,e4⟩:=hrun j x hok
   obtain⟨y,h1,h2⟩:=map_some e4
   have h2:=qC h2
   subst h2
   have hc:=zo ht hM (O.okD j) e1 (bL e2) h1
   exact bE hc.1 fun ρ=>by
    simp only [List.map_cons]
    rw [e3 ρ,A.ok _ _ hx ρ]
  ·simp [T.val] at h
 ·simp [T.val] at h
theorem fK {tab:Tab} (ht:bm Tryz.prog (NV σ) tab) {f:FuncId} {M:List Bool} (hM:8=M.length) {γ β α:Type} {A:ArgK γ} {B:ValK β} {O:ObK α} {ok:α->γ->Option Bool} {next:α->γ->β×α} (hrun:∀j x,okO (ok j x)=true->Qq σ tab f M A B O j x (next j x)) :
 FnOk Tryz.prog (NV σ) f (aL isS M (cU A B O ok next)) :=
 b9 bk hM fun args l v l' nw h hl hargs=>wA ht hM hrun h hl hargs
def iW {β:Type} (B:ValK β):SV×List AV×List AV->Option β
 | (v,[],[])=>B.dec v
 | _=>none
def gK {γ β α:Type} (A:ArgK γ) (B:ValK β) (O:ObK α) (ok:α->γ->Option Bool) (next:α->γ->β×α) (z:β) (args:List SV) (l:List AV):T (SV×List AV×List AV):=match args,l with
 | .v (.c .pnil)::r,[]=>match A.dec r with
   | some x=>.leaf (B.enc z,[],[])
   | none=>.fail "method"
 | _,_=>cU A B O ok next args l
theorem iL {tab:Tab} (ht:bm Tryz.prog (NV σ) tab) {f:FuncId} {M:List Bool} (hM:8=M.length) {γ β α:Type} {A:ArgK γ} {B:ValK β} {O:ObK α} {ok:α->γ->Option Bool} {next:α->γ->β×α} {z:β} (hrun:∀j x,okO (ok j x)=true->Qq σ tab f M A B O j x (next j x))
 (hz:∀x,((eG σ tab f M (.v (.c .pnil)::A.enc x) []).map (iW B)).val=some (some z)):FnOk Tryz.prog (NV σ) f (aL isS M (gK A B O ok next z)):=by
 refine b9 bk hM fun args l v l' nw h hl hargs=>?_
 unfold gK at h
 split at h
 ·split at h
  ·rename_i r x hx
   simp only [T.val,Option.some.injEq,Prod.mk.injEq] at h
   obtain⟨rfl,rfl,rfl⟩:=h
   obtain⟨⟨y0,y1,y2⟩,h1,h2⟩:=map_some (hz x)
   unfold iW at h2
   split at h2
   ·rename_i v0 he
    cases he
    rw [B.ok _ _ h2] at h1
    have hc:=mh ht hM (args:=.v (.c .pnil)::A.enc x) (fun y hy=>by
     rcases List.mem_cons.1 hy with rfl | hy
     ·exact pS rfl
     ·exact bL (A.free x) y hy) h1
    exact bE hc.1 fun ρ=>by
     simp only [List.map_cons]
     rw [A.ok _ _ hx ρ]
   ·cases h2
  ·simp [T.val] at h
 ·exact wA ht hM hrun h hl hargs
def Fp {α:Type} (O:ObK α):SV×List AV×List AV->Option α
 | (.v (.c (.ptr 8 0)),[],[a])=>O.X a
 | _=>none
theorem Fo {α:Type} {O:ObK α} {r:SV×List AV×List AV} {j:α} (h:Fp O r=some j):r=(.v (.c (.ptr 8 0)),[],[O.V j]):=by
 unfold Fp at h
 split at h
 ·rw [O.ok _ _ h]
 ·cases h
def zN {γ α:Type} (A:ArgK γ) (O:ObK α) (ok:γ->Option Bool) (mk:γ->α) (args:List SV) (l:List AV):T (SV×List AV×List AV):=match l with
 | []=>match A.dec args with
   | some x=>tH (ok x) (.leaf (.v (.c (.ptr 8 0)),[],[O.V (mk x)]))
   | none=>.fail "maker"
 | _=>.fail "maker"
theorem yh {tab:Tab} (ht:bm Tryz.prog (NV σ) tab) {f:FuncId} {M:List Bool} (hM:8=M.length) {γ α:Type} {A:ArgK γ} {O:ObK α} {ok:γ->Option Bool} {mk:γ->α}
 (hrun:∀x,okO (ok x)=true->∃args,cS args=true /\ (∀ρ:Nm,args.map (SV.den ρ)=(A.enc x).map (SV.den ρ)) /\ ((eG σ tab f M args []).map (Fp O)).val=some (some (mk x))):FnOk Tryz.prog (NV σ) f (aL isS M (zN A O ok mk)):=by
 refine b9 bk hM fun args l v l' nw h hl hargs=>?_
 unfold zN at h
 split at h
 ·split at h
  ·rename_i x hx
   replace h:=dB h
   obtain⟨hok,h⟩:=h
   simp only [T.val,Option.some.injEq,Prod.mk.injEq] at h
   obtain⟨rfl,rfl,rfl⟩:=h
   obtain⟨args',e2,e3,e4⟩:=hrun x hok
   obtain⟨y,h1,h2⟩:=map_some e4
   have h2:=Fo h2
   subst h2
   have hc:=mh ht hM (bL e2) h1
   exact bE hc.1 fun ρ=>by rw [e3 ρ,A.ok _ _ hx ρ]
  ·simp [T.val] at h
 ·simp [T.val] at h
def n7 {γ β:Type} (A:ArgK γ) (B:ValK β) (ok:γ->Option Bool) (fn:γ->β) (args:List SV) (l:List AV):T (SV×List AV×List AV):=match l with
 | []=>match A.dec args with
   | some x=>tH (ok x) (.leaf (B.enc (fn x),[],[]))
   | none=>.fail "function"
 | _=>.fail "function"
theorem my {tab:Tab} (ht:bm Tryz.prog (NV σ) tab) {f:FuncId} {M:List Bool} (hM:8=M.length) {γ β:Type} {A:ArgK γ} {B:ValK β} {ok:γ->Option Bool} {fn:γ->β}
 (hrun:∀x,okO (ok x)=true->∃args,cS args=true /\ (∀ρ:Nm,args.map (SV.den ρ)=(A.enc x).map (SV.den ρ)) /\ ((eG σ tab f M args []).map (iW B)).val=some (some (fn x))):FnOk Tryz.prog (NV σ) f (aL isS M (n7 A B ok fn)):=by
 refine b9 bk hM fun args l v l' nw h hl hargs=>?_
 unfold n7 at h
 split at h
 ·split at h
  ·rename_i x hx
   replace h:=dB h
   obtain⟨hok,h⟩:=h
   simp only [T.val,Option.some.injEq,Prod.mk.injEq] at h
   obtain⟨rfl,rfl,rfl⟩:=h
   obtain⟨args',e2,e3,e4⟩:=hrun x hok
   obtain⟨⟨y0,y1,y2⟩,h1,h2⟩:=map_some e4
   unfold iW at h2
   split at h2
   ·rename_i v0 he
    cases he
    rw [B.ok _ _ h2] at h1
    have hc:=mh ht hM (bL e2) h1
    exact bE hc.1 fun ρ=>by rw [e3 ρ,A.ok _ _ hx ρ]
   ·cases h2
  ·simp [T.val] at h
 ·simp [T.val] at h
def tI {α:Type} (b:Bool) (t e:T α):T α:=.ite b t e
def tL {α:Type} (a:α):T (Option α):=.need true (.leaf (some a))
theorem vI {α:Type} {b:Bool} {t e:T (Option α)} {x y:α} (h1:t.val=some (some x)) (h2:e.val=some (some y)):(tI b t e).val=some (some (cond b x y)):=by cases b<;>assumption
theorem vL {α:Type} {a:α}:(tL a).val=some (some (id a)):=rfl
def De (x:Rp1):List Cell:=x.w.enc++[.bt x.ok]
def aRp:ArgK Rp1 where
 enc x:=[.v (.agg (De x))]
 dec:=fun | [.v (.agg [c0,c1,c2,c3,c4,c5])]=>(match W.dec [c0,c1,c2,c3,c4],bOf c5 with | some w,some b=>some ⟨w,b⟩ | _,_=>none) | _=>none
 ok:=fun l a h ρ=>by
  split at h
  ·split at h
   ·rename_i w b hw hb
    cases h
    have e:=W.dec_ok _ _ hw
    have e2:=fO hb
    have d:ae ρ w.enc=ae ρ _:=(fb fun c hc=>(by simp [W.enc] at hc;rcases hc with rfl | rfl | rfl | rfl | rfl<;>rfl)).trans (e.1.trans (fb e.2).symm)
    have d2:Cell.den ρ (.bt b)=Cell.den ρ _:=(e2.1.symm.trans (den_congr _ fun m hm=>by rw [e2.2] at hm;cases hm))
    simp only [De,List.map_cons,List.map_nil,SV.den,V1.den,ae,List.map_append] at d d2 ⊢
    rw [d,d2];rfl
   ·cases h
  ·cases h
 free:=fun _=>rfl
def vCl:ValK Cl where
 enc c:=.v (.agg (gsC (Cl.wr c)))
 dec:=fun | .v (.agg cs)=>(match Cl.rd (cs.map .p) with | some (c,[])=>some c | _=>none) | _=>none
 ok:=fun v b h=>by
  split at h
  ·split at h
   ·rename_i hc
    cases h
    have:=Cl.rd_s hc
    rw [List.append_nil] at this
    rw [<- this,ju]
   ·cases h
  ·cases h
@[reducible] def oPile:ObK PileM:=⟨vX,vU,fun _ _=>rQ,fun _=>rfl⟩
@[reducible] def oCort:ObK CortM:=⟨xj,xi,fun _ _=>rX,fun _=>rfl⟩
@[reducible] def oWalk:ObK WalkM:=⟨sc,yQ,fun _ _=>xA,fun _=>rfl⟩
@[reducible] def oLit:ObK LitM:=⟨Ca,E3,fun _ _=>yn,fun _=>rfl⟩
@[reducible] def oClimb:ObK ClimbM:=⟨jG,uI,fun _ _=>uH,fun _=>rfl⟩
@[reducible] def oSte:ObK SteM:=⟨sM,En,fun _ _=>xL,fun _=>rfl⟩
@[reducible] def oRite:ObK RiteM:=⟨dw,vO,fun _ _=>rM,fun _=>rfl⟩
end Go.Proofs.YtcpdipfepeccgaaGreatDoor
