/- SpaceRoots: a part of its proof; conditions: its statement's. -/
import Derived.Test.YtefepnnfphdkpaaGreatF04
import Derived.Laws.StructEq
namespace Go.Proofs.YtefepnnfphdkpaaGreat.Am
open Go
section
variable {P:Program} {c:Ctx} {σ:H} {w:World}
theorem Lz : ∀(cs:List V) (l:List Nat),bytesOf cs=some l →
  ∃I:List Int,cs.map (conc c)=I.map (Value.int .u8)∧l=I.map (fun n=>n.toNat%256):=by
 intro cs
 induction cs with
 | nil=>intro l h; simp [bytesOf] at h; subst h; exact ⟨[],by simp,by simp⟩
 | cons x cs ih =>
  intro l h
  unfold bytesOf at h
  split at h
  ·simp at *
  ·rename_i n cs' he
   simp only [vV] at he
   obtain ⟨rfl,rfl⟩:=he
   cases J:bytesOf cs with
   | none=>simp [J] at h
   | some m =>
    simp [J] at h
    subst h
    obtain ⟨I,h1,h2⟩:=ih m J
    exact ⟨n::I,by simp [conc,h1],by simp [h2]⟩
  ·simp at h
theorem foldl_push_bytes : ∀(I:List Int) (s:ByteArray),(I.foldl (fun r n=>r.push (UInt8.ofNat n.toNat)) s)=⟨s.data++(I.map fun n=>UInt8.ofNat n.toNat).toArray⟩:=by
 intro I
 induction I with
 | nil=>intro s; apply s_; simp
 | cons n I J =>
  intro s
  rw [List.foldl_cons,J]
  apply s_
  simp [ByteArray.push]
theorem AI {id off len m:Nat}{cap:Cap}{cs:List V}(h:Rel c σ w)(hw:wf c (.sl id off len cap))(hr:rdN σ id off m=some cs)(hm:len=0→m=0):
  ∃a n,conc c (.sl id off len cap)=.slice (some a) len n∧(loadCells a m).run P w=.ok (cs.map (conc c)).toArray w∧(m≠0→a=fG c id off) ∧
   (∀j x,(cs.map (conc c))[j]?=some x→w.cell? (a.add j)=some x):=by
 have hl:=El (P:=P) h hr
 have J:=tM h hr
 cases cap with
 | exact n=>exact ⟨fG c id off,n,by simp only [conc,fG],hl,fun _=>rfl,J.2.2⟩
 | rest I alt =>
  by_cases h3:c.room id off I=0
  ·have hlen:len=0:=by
    have:id<c.N∧1≤I∧len≤c.room id off I:=by simpa [wf] using hw
    omega
   have Br:=hm hlen
   subst Br
   have lG:cs=[]:=List.length_eq_zero_iff.1 J.1
   subst lG
   refine ⟨⟨(c.ρ id).1,(c.ρ id).2+(if c.room id off I=0 then alt else off),none⟩,c.room id off I,by simp only [conc],?_,fun hx=>absurd rfl hx,fun j x hx=>by simp at hx⟩
   simp [loadCells,loadCellsFrom]
  ·exact ⟨fG c id off,c.room id off I,by simp only [conc,h3,bN,fG],hl,fun _=>rfl,J.2.2⟩
theorem ofNat_mod (n:Nat): UInt8.ofNat (n%256)=UInt8.ofNat n:=by
 apply UInt8.toNat.inj
 simp [sV]
theorem Qq {s d:TypeId}{x v:V}{eS:H}(h:Rel c σ w)(I:convV P σ s d x=some (v,eS)):
  wf c x→(convert s d (conc c x)).run P w=.ok (conc c v) w∧wf c v∧eS=σ:=by
 intro hx
 unfold convV at I
 generalize hs:P.underlying s=ds at I
 generalize hd:P.underlying d=dd at I
 split at I
 ·simp only [aq,aF] at I
  obtain ⟨rfl,rfl⟩:=I
  exact ⟨by simp [convert,run_underlying hs,run_underlying hd,conc,Conv.intToInt],by simp [wf],rfl⟩
 ·simp only [aq,aF] at I
  obtain ⟨rfl,rfl⟩:=I
  exact ⟨by simp [convert,run_underlying hs,run_underlying hd,conc],hx,rfl⟩
 ·generalize he:P.underlying _=de at I
  split at I
  ·simp only [aq,aF] at I
   obtain ⟨rfl,rfl⟩:=I
   refine ⟨?_,by simp [wf],rfl⟩
   simp only [conc,convert,Sem.run_bind,run_underlying hs,run_underlying hd,run_underlying he,Result.andThen_ok]
   simp [Conv.bytesToString]
   rfl
  ·simp at I
 ·generalize he:P.underlying _=de at I
  split at I
  ·simp only [aq,aF] at I
   obtain ⟨rfl,rfl⟩:=I
   refine ⟨?_,by simp [wf],rfl⟩
   simp only [conc,convert,Sem.run_bind,run_underlying hs,run_underlying hd,run_underlying he,Result.andThen_ok]
   simp [Conv.bytesToString]
   rfl
  ·simp at I
 ·rename_i e id off len cap
  generalize he:P.underlying e=de at I
  split at I
  ·cases J:rdN σ id off len with
   | none=>simp [J] at I
   | some cs =>
    cases hb:bytesOf cs with
    | none=>simp [J,hb] at I
    | some l =>
     simp [J,hb] at I
     obtain ⟨rfl,rfl⟩:=I
     obtain ⟨ns,h1,h2⟩:=Lz (c:=c) cs l hb
     obtain ⟨a,n,ha,hl,_,_⟩:=AI (P:=P) h hx J (fun h=>h)
     rw [h1] at hl
     refine ⟨?_,?_,rfl⟩
     ·rw [ha,run_convert_bytes_string w s d e (some a) len n hs he hd,run_bytesToString w a len n ns hl,foldl_push_bytes]
      simp only [conc,h2,vX]
      congr 2
      apply s_
      simp [vR,ofNat_mod]
     ·simp only [wf,h2,nT]
      rintro x ⟨n,_,rfl⟩
      omega
  ·simp at I
 ·simp only [aq,aF] at I
  obtain ⟨rfl,rfl⟩:=I
  exact ⟨by simp [convert,run_underlying hs,run_underlying hd,conc,Conv.intToFloat],by simp [wf],rfl⟩
 ·rename_i k fk b
  cases J:Ieee.Datum.toInt Ieee.Toward.zero (fk.decode b) with
  | none=>rw [J] at I; cases I
  | some n =>
   rw [J] at I
   simp only at I
   cases hb:(decide (k.min≤n)&&decide (n≤k.max)) with
   | false=>rw [hb] at I; cases I
   | true =>
    rw [hb,ag] at I
    simp only [aq,aF] at I
    obtain ⟨rfl,rfl⟩:=I
    simp only [aO,eL] at hb
    exact ⟨by simp [convert,run_underlying hs,run_underlying hd,conc,Conv.floatToInt,J,hb],by simp [wf],rfl⟩
 ·simp at I
theorem LA {d:TypeId}{x v:V}(I:arrPtrV P d x=some v)(hx:wf c x)(w:World):
  (Instr.arrayAt d (conc c x)).run P w=.ok (conc c v) w∧wf c v:=by
 unfold arrPtrV at I
 split at I
 ·rename_i id off len cap
  generalize hd:P.underlying d=dd at I
  split at I
  ·rename_i n e
   cases hq:(Nat.ble n len&&Nat.ble 1 n) with
   | false=>simp [hq] at I
   | true =>
    simp only [hq,ag,aq] at I
    subst I
    simp only [aO] at hq
    have q1:=aJ.1 hq.1
    have q2:=aJ.1 hq.2
    cases cap with
    | exact m =>
     have J:id<c.N∧len≤m:=by simpa [wf] using hx
     exact ⟨by simp [Instr.arrayAt,run_underlying hd,conc,Nat.not_lt.2 q1],by simpa [wf] using J.1⟩
    | rest iy alt =>
     have J:id<c.N∧1≤iy∧len≤c.room id off iy:=by simpa [wf] using hx
     have h3:c.room id off iy≠0:=by omega
     exact ⟨by simp [Instr.arrayAt,run_underlying hd,conc,Nat.not_lt.2 q1,h3],by simpa [wf] using J.1⟩
  ·simp at I
 ·simp at I
theorem Gh {t:TypeId}{x v:V}(I:makeIfaceV P t x=some v)(J:wf c x)(w:World):
  (Instr.makeInterface t (conc c x)).run P w=.ok (conc c v) w∧wf c v:=by
 unfold makeIfaceV at I
 generalize ht:P.underlying t=dt at I
 split at I
 ·simp at I
 ·rename_i d hd
  simp only [aq] at I
  subst I
  refine ⟨?_,by simpa [wf] using J⟩
  simp only [Instr.makeInterface,Sem.run_bind,run_underlying ht,Result.andThen_ok]
  simp [conc]
 ·simp at I
theorem wZ {t:TypeId}{cs:List V}{off:Nat}{v:V}(I:oJ P t cs off=some v)(hx:∀x∈cs,wf c x)(w:World):
  (part t ((cs.map (conc c)).toArray) off).run P w=.ok (conc c v) w∧wf c v:=by
 unfold oJ at I
 split at I
 ·rename_i J
  cases hk:bH P t with
  | none=>simp [hk] at I
  | some k =>
   simp [hk] at I
   subst I
   refine ⟨?_,?_⟩
   ·simp only [part,Sem.run_bind,sD J,Result.andThen_ok,bO,cW hk,Sem.run_pure,conc,gC]
    congr 2
    simp [qO,qP]
   ·simp only [wf,gK]
    exact fun x hy=>hx x (iT (gW hy))
 ·rename_i J
  rw [fF] at I
  refine ⟨?_,hx v (bC I)⟩
  simp [part,sD J,I]
 ·simp at I
theorem Bt {t:TypeId}{I:List Go.Field}(h:fieldsOf P t=some I): P.underlying t=some (.struct I.toArray):=by
 unfold fieldsOf at h
 split at h
 ·rename_i f J
  simp only [aq] at h
  subst h
  simpa using J
 ·simp at h
theorem Gi {t:TypeId}{x v:V}{i:Nat}(I:fieldAddrV P t x i=some v)(hx:wf c x)(w:World):
  (Instr.fieldAt t (conc c x) i).run P w=.ok (conc c v) w∧wf c v:=by
 unfold fieldAddrV at I
 split at I
 ·rename_i id off
  cases J:fieldsOf P t with
  | none=>simp [J] at I
  | some fs =>
   have hu:=Bt J
   simp only [J,fF] at I
   cases hi:fs[i]? with
   | none=>simp [hi] at I
   | some f =>
    simp only [hi] at I
    cases hk:bH P f.type with
    | none=>simp [hk] at I
    | some k =>
     simp only [hk] at I
     cases hq:Nat.ble 1 k with
     | false=>simp [hq] at I
     | true =>
      have q:=aJ.1 hq
      simp only [hq,ag,aq] at I
      subst I
      refine ⟨?_,by simpa [wf] using hx⟩
      have SX:k≠0:=by omega
      simp only [Instr.fieldAt,Sem.run_bind,run_underlying hu,Result.andThen_ok]
      simp [hi,conc,Instr.sureAddr,fieldPlace,cW hk,SX,Addr.add_lit,gx]
 ·simp at I
theorem Nn {t:TypeId}{x v:V}{i:Nat}(I:pQ P t x i=some v)(hx:wf c x)(w:World):
  (Instr.field t (conc c x) i).run P w=.ok (conc c v) w∧wf c v:=by
 unfold pQ at I
 split at I
 ·rename_i cs
  cases J:fieldsOf P t with
  | none=>simp [J] at I
  | some fs =>
   have hu:=Bt J
   simp only [J,fF] at I
   cases hi:fs[i]? with
   | none=>simp [hi] at I
   | some f =>
    simp only [hi] at I
    obtain ⟨h1,h2⟩:=wZ I (by simpa [wf,gK] using hx) w
    refine ⟨?_,h2⟩
    simp only [Instr.field,Sem.run_bind,run_underlying hu,Result.andThen_ok,conc,gC]
    simp [hi,asAgg,h1]
 ·simp at I
theorem Gj {t:TypeId}{x i v:V}(I:indexAddrV P t x i=some v)(hx:wf c x)(w:World):
  (Instr.indexAt t (conc c x) (conc c i)).run P w=.ok (conc c v) w∧wf c v:=by
 unfold indexAddrV at I
 split at I
 ·rename_i k n
  generalize ht:P.underlying t=dt at I
  split at I
  ·rename_i e id off len cap
   cases hk:bH P e with
   | none=>simp [hk] at I
   | some s =>
    simp only [hk] at I
    cases J:(decide (0≤n)&&decide (n<(len:Int))) with
    | false=>simp [J] at I
    | true =>
     simp only [J,ag,aq] at I
     subst I
     simp only [aO,eL] at J
     have hlen:0<len:=by omega
     have key:∃m,conc c (.sl id off len cap)=.slice (some (fG c id off)) len m∧id<c.N:=by
      cases cap with
      | exact m =>
       have jA:id<c.N∧len≤m:=by simpa [wf] using hx
       exact ⟨m,by simp only [conc,fG],jA.1⟩
      | rest iy alt =>
       have jA:id<c.N∧1≤iy∧len≤c.room id off iy:=by simpa [wf] using hx
       have h3:c.room id off iy≠0:=by omega
       exact ⟨c.room id off iy,by simp only [conc,fG,h3,bN],jA.1⟩
     obtain ⟨m,h1,h2⟩:=key
     refine ⟨?_,by simpa [wf] using h2⟩
     rw [h1]
     simp [Instr.indexAt,asIntOf,conc,run_underlying ht,J,cW hk,tu]
     simp [fG]
  ·rename_i len e id off
   cases hk:bH P e with
   | none=>simp [hk] at I
   | some s =>
    simp only [hk] at I
    cases J:(decide (0≤n)&&decide (n<(len:Int))) with
    | false=>simp [J] at I
    | true =>
     simp only [J,ag,aq] at I
     subst I
     simp only [aO,eL] at J
     refine ⟨?_,by simpa [wf] using hx⟩
     simp [Instr.indexAt,asIntOf,conc,run_underlying ht,J,cW hk,Instr.sureAddr,Addr.add_lit,gx]
  ·simp at I
 ·simp at I
theorem No {t:TypeId}{x i v:V}(I:indexV P t x i=some v)(hx:wf c x)(w:World):
  (Instr.index t (conc c x) (conc c i)).run P w=.ok (conc c v) w∧wf c v:=by
 unfold indexV at I
 split at I
 ·rename_i k n
  generalize ht:P.underlying t=dt at I
  split at I
  ·rename_i len e cs
   cases hk:bH P e with
   | none=>simp [hk] at I
   | some s =>
    simp only [hk] at I
    cases J:(decide (0≤n)&&decide (n<(len:Int))) with
    | false=>simp [J] at I
    | true =>
     simp only [J,ag] at I
     simp only [aO,eL] at J
     obtain ⟨h1,h2⟩:=wZ I (by simpa [wf,gK] using hx) w
     refine ⟨?_,h2⟩
     simp [Instr.index,asIntOf,conc,gC,run_underlying ht,J,cW hk,h1]
  ·rename_i l
   cases J:decide (0≤n) with
   | false=>simp [J] at I
   | true =>
    simp only [J,ag,fF] at I
    simp only [eL] at J
    cases hb:l[n.toNat]? with
    | none=>simp [hb] at I
    | some b =>
     simp [hb] at I
     subst I
     refine ⟨?_,by simp [wf]⟩
     have bF:b<256:=by
      have jA:∀y∈l,y<256:=by simpa [wf] using hx
      exact jA b (bC hb)
     have G1:(⟨(l.map UInt8.ofNat).toArray⟩:ByteArray)[n.toNat]?=some (UInt8.ofNat b):=by
      have hl:n.toNat<l.length:=(List.getElem?_eq_some_iff.1 hb).1
      rw [ByteArray.getElem?_lt' _ _ (by simpa [ByteArray.size] using hl)]
      have he:=(List.getElem?_eq_some_iff.1 hb).2
      simp only [ByteArray.getElem_eq_getElem_data]
      simp [he]
     simp only [Instr.index,asIntOf,conc,Sem.run_bind,Sem.run_pure,Result.andThen_ok,run_underlying ht,J,bO,G1]
     simp [sV,gY bF]
  ·simp at I
 ·simp at I
theorem Em {x:V}{n:Nat}(h:bndV x=some n){y:Nat}(J:n≤y)(code:BoundsCode)(w:World): (Instr.sliceBound (conc c x) y code).run P w=.ok n w:=by
 unfold bndV at h
 split at h
 ·rename_i k i
  cases I:decide (0≤i) with
  | false=>simp [I] at h
  | true =>
   simp only [I,ag,aq] at h
   simp only [eL] at I
   subst h
   have:i≤(y:Int):=by omega
   simp [Instr.sliceBound,asIntOf,conc,I,this]
 ·simp at h
theorem sH {x:Option V}{b:Option Nat}(h:gI x=some b): (x=none∧b=none)∨∃v n,x=some v∧b=some n∧bndV v=some n:=by
 cases x with
 | none=>simp [gI] at h; exact .inl ⟨rfl,h.symm⟩
 | some v =>
  simp only [gI] at h
  cases I:bndV v with
  | none=>simp [I] at h
  | some n=>simp [I] at h; exact .inr ⟨v,n,rfl,h.symm,I⟩
theorem kU {lo hi mx:Option V}{a b m:Option Nat}(J:gI lo=some a)(h2:gI hi=some b)(h3:gI mx=some m)(I:Bool){len cap:Nat}
 (hb:m.isSome=true→b.isSome=true)(q1:a.getD 0≤b.getD len)(q2:b.getD len≤m.getD cap∨b=none∧m=none)(q3:m.getD cap≤cap)(w:World):
  (Instr.sliceBounds I len cap (lo.map (conc c)) (hi.map (conc c)) (mx.map (conc c))).run P w=.ok (a.getD 0,b.getD len,m.getD cap) w:=by
 rcases sH J with ⟨rfl,rfl⟩ | ⟨lv,ln,rfl,rfl,hl⟩ <;> rcases sH h2 with ⟨rfl,rfl⟩ | ⟨hv,hn,rfl,rfl,hh⟩ <;>
  rcases sH h3 with ⟨rfl,rfl⟩ | ⟨mv,mn,rfl,rfl,hm⟩
 all_goals simp only [fh,qI,Option.isSome_some,Option.isSome_none,dY,forall_const,reduceCtorEq,false_and,qT,or_true,and_self] at *
 all_goals simp only [Instr.sliceBounds,jN,iV,Sem.run_bind,Sem.run_pure,Result.andThen_ok]
 all_goals (try rw [Em hm q3])
 all_goals (try simp only [Result.andThen_ok])
 all_goals (try rw [Em hh (by first | exact q2 | omega)])
 all_goals (try simp only [Result.andThen_ok])
 all_goals (try rw [Em hl q1])
 all_goals (try simp only [Result.andThen_ok])
theorem Fc {id off k:Nat}(h:Rel c σ w): kN σ id off k≤c.room id off k:=by
 unfold kN
 split
 ·rename_i n cs st I
  obtain ⟨_,_,C,e,fz,J,hle,_⟩:=h.obj id _ I
  have hz:=h.zz id (h.live id _ I)
  unfold Ctx.room
  rw [hz]
  unfold rowSize
  rw [J]
  exact Nat.div_le_div_right (by simp only; omega)
 ·exact ew _
theorem jY {t:TypeId}{d:TypeDesc}(I:P.underlying t=some d)(J:∀n e,d≠.array n e)(x:Value)(lo hi mx:Option Value)(w:World):
  (Instr.sliceAt t x lo hi mx).run P w=(Instr.slice t x lo hi mx).run P w:=by
 simp only [Instr.sliceAt,Sem.run_bind,run_underlying I,Result.andThen_ok]
 try (split <;> first | rfl | (rename_i n e; exact absurd rfl (J n e)))
theorem Qr (c:Ctx)(id off k a:Nat): c.room id (off+a*k) k=c.room id off k-a:=by
 unfold Ctx.room
 have:c.Z (c.ρ id).1-((c.ρ id).2+(off+a*k))=(c.Z (c.ρ id).1-((c.ρ id).2+off))-k*a:=by
  rw [qQ k a]; omega
 rw [this,Nat.sub_mul_div]
theorem Np {t:TypeId}{x v:V}{lo hi mx:Option V}{a b m:Option Nat}(h:Rel c σ w)(h1:gI lo=some a)(h2:gI hi=some b)(h3:gI mx=some m)
 (I:sliceV P σ t x a b m=some v)(hx:wf c x):
  (Instr.sliceAt t (conc c x) (lo.map (conc c)) (hi.map (conc c)) (mx.map (conc c))).run P w=.ok (conc c v) w∧wf c v:=by
 have Nq:m=none→mx=none:=by
  intro e; rcases sH h3 with ⟨e1,_⟩ | ⟨_,_,_,e2,_⟩
  ·exact e1
  ·rw [e2] at e; simp at e
 unfold sliceV at I
 generalize ht:P.underlying t=dt at I
 split at I
 ·-- a string
  rename_i l
  split at I
  ·simp at I
  ·simp only at I
   cases J:(Nat.ble (a.getD 0) (b.getD l.length)&&Nat.ble (b.getD l.length) l.length) with
   | false=>simp [J] at I
   | true =>
    simp only [J,ag,aq] at I
    subst I
    simp only [aO] at J
    have q1:=aJ.1 J.1
    have q2:=aJ.1 J.2
    have Cp:=Nq rfl
    subst Cp
    have eZ:(⟨(l.map UInt8.ofNat).toArray⟩:ByteArray).size=l.length:=by simp [ByteArray.size]
    refine ⟨?_,?_⟩
    ·rw [jY ht (by simp)]
     have hb:=kU (P:=P) (c:=c) h1 h2 h3 false (len:=l.length) (cap:=l.length) (by simp) q1 (.inl q2) (aD _) w
     simp only [iV] at hb
     simp only [conc,Instr.slice,Sem.run_bind,run_underlying ht,Result.andThen_ok,iV,Option.isSome_none,dY,bN,Sem.run_pure,eZ,hb]
     congr 2
     apply s_
     simp [ByteArray.data_extract,qO,qP,qL]
    ·have jA:∀y∈l,y<256:=by simpa [wf] using hx
     simp only [wf]
     exact fun y hy=>jA y (gW (iT hy))
 ·-- nil
  rename_i e
  split at I
  ·rename_i s hs
   cases J:(Nat.beq (b.getD 0) 0&&Nat.beq (a.getD 0) 0) with
   | false=>simp [J] at I
   | true =>
    simp only [J,ag,aq] at I
    subst I
    simp only [aO] at J
    have q1:=beq_iff.1 J.1
    have q2:=beq_iff.1 J.2
    have Cp:=Nq rfl
    subst Cp
    refine ⟨?_,by simp [wf]⟩
    rw [jY ht (by simp)]
    have hb:=kU (P:=P) (c:=c) h1 h2 h3 true (len:=0) (cap:=0) (by simp) (by omega) (.inl (by simp; omega)) (aD _) w
    simp only [iV] at hb
    simp only [conc,Instr.slice,Sem.run_bind,run_underlying ht,Result.andThen_ok,iV,Sem.run_pure,hb,cW hs]
    simp [q1,q2]
  ·simp at I
 ·-- empty, somewhere
  split at I
  ·rename_i s hs
   cases J:(Nat.beq (b.getD 0) 0&&Nat.beq (a.getD 0) 0) with
   | false=>simp [J] at I
   | true =>
    simp only [J,ag,aq] at I
    subst I
    simp only [aO] at J
    have q1:=beq_iff.1 J.1
    have q2:=beq_iff.1 J.2
    have Cp:=Nq rfl
    subst Cp
    refine ⟨?_,by simp [wf]⟩
    rw [jY ht (by simp)]
    have hb:=kU (P:=P) (c:=c) h1 h2 h3 true (len:=0) (cap:=0) (by simp) (by omega) (.inl (by simp; omega)) (aD _) w
    simp only [iV] at hb
    simp only [conc,Instr.slice,Sem.run_bind,run_underlying ht,Result.andThen_ok,iV,Sem.run_pure,hb,cW hs]
    simp [q1,q2]
  ·simp at I
 ·rename_i e id off len cap
  rw [jY ht (by simp)]
  split at I
  ·simp at I
  ·rename_i k hk
   split at I
   ·rename_i cc
    have jA:id<c.N∧len≤cc:=by simpa [wf] using hx
    split at I
    ·rename_i mm bb
     simp only at I
     cases J:(Nat.ble (a.getD 0) bb&&Nat.ble bb mm&&Nat.ble mm cc) with
     | false=>simp [J] at I
     | true =>
      simp only [J,ag,aq] at I
      subst I
      simp only [aO] at J
      have q1:=aJ.1 J.1.1
      have q2:=aJ.1 J.1.2
      have q3:=aJ.1 J.2
      have hb:=kU (P:=P) (c:=c) h1 h2 h3 true (len:=len) (cap:=cc) (by simp) q1 (.inl q2) q3 w
      simp only [fh] at hb
      refine ⟨?_,by simp [wf,jA.1]; omega⟩
      simp only [conc,Instr.slice,Sem.run_bind,run_underlying ht,Result.andThen_ok,hb,cW hk,Sem.run_pure]
      by_cases e1:mm=a.getD 0
      ·simp [e1]
      ·simp [e1,dc e1,Addr.add_lit,gx]
    ·simp at I
    ·simp only at I
     cases J:(Nat.ble (a.getD 0) (b.getD len)&&Nat.ble (b.getD len) cc) with
     | false=>simp [J] at I
     | true =>
      simp only [J,ag,aq] at I
      subst I
      simp only [aO] at J
      have q1:=aJ.1 J.1
      have q2:=aJ.1 J.2
      have hb:=kU (P:=P) (c:=c) h1 h2 h3 true (len:=len) (cap:=cc) (by simp) q1 (.inl q2) (aD _) w
      simp only [qI] at hb
      refine ⟨?_,by simp [wf,jA.1]; omega⟩
      simp only [conc,Instr.slice,Sem.run_bind,run_underlying ht,Result.andThen_ok,hb,cW hk,Sem.run_pure]
      by_cases e1:cc=a.getD 0
      ·simp [e1]
      ·simp [e1,dc e1,Addr.add_lit,gx]
   ·rename_i iy alt
    have jA:id<c.N∧1≤iy∧len≤c.room id off iy:=by simpa [wf] using hx
    cases tR:(Nat.beq iy k&&Nat.ble 1 k) with
    | false=>simp [tR] at I
    | true =>
     simp only [tR,ag] at I
     simp only [aO] at tR
     have e0:=beq_iff.1 tR.1
     subst e0
     have Bq:=jA.2.1
     have BU:=Fc (id:=id) (off:=off) (k:=iy) h
     split at I
     ·rename_i mm bb
      cases J:(Nat.ble (a.getD 0) bb&&Nat.ble bb mm&&(Nat.ble mm len||Nat.ble mm (kN σ id off iy))&&Nat.blt 0 len) with
      | false=>simp [J] at I
      | true =>
       simp only [J,ag,aq] at I
       subst I
       simp only [aO,nP,aJ,gJ] at J
       have q3:mm≤c.room id off iy:=by omega
       have hb:=kU (P:=P) (c:=c) h1 h2 h3 true (len:=len) (cap:=c.room id off iy) (by simp) J.1.1.1 (.inl J.1.1.2) q3 w
       simp only [fh] at hb
       refine ⟨?_,by simp [wf,jA.1]; omega⟩
       have h4:c.room id off iy≠0:=by omega
       simp only [conc,Instr.slice,Sem.run_bind,run_underlying ht,Result.andThen_ok,hb,cW hk,Sem.run_pure,h4,bN]
       by_cases e1:mm=a.getD 0
       ·simp [e1]
       ·simp [e1,dc e1,Addr.add_lit,gx]
     ·simp at I
     ·cases J:(Nat.ble (a.getD 0) (b.getD len)&&(Nat.ble (b.getD len) len||Nat.ble (b.getD len) (kN σ id off iy))) with
      | false=>simp [J] at I
      | true =>
       simp only [J,ag,aq] at I
       subst I
       simp only [aO,nP,aJ] at J
       have q3:b.getD len≤c.room id off iy:=by omega
       have hb:=kU (P:=P) (c:=c) h1 h2 h3 true (len:=len) (cap:=c.room id off iy) (by simp) J.1 (.inl q3) (aD _) w
       simp only [qI] at hb
       have w6:=Qr c id off iy (a.getD 0)
       refine ⟨?_,by simp only [wf,w6]; exact ⟨jA.1,Bq,by omega⟩⟩
       simp only [conc,Instr.slice,Sem.run_bind,run_underlying ht,Result.andThen_ok,hb,cW hk,Sem.run_pure,w6]
       by_cases ha:a.getD 0=0
       ·rw [ha]
        by_cases h4:c.room id off iy=0
        ·simp [h4]
        ·simp [h4,Addr.add_lit]
       ·have h4:c.room id off iy≠0:=by omega
        simp only [h4,bN,dc ha,az]
        by_cases e1:c.room id off iy=a.getD 0
        ·have e2:Nat.blt (a.getD 0) (b.getD len)=false:=by
          cases sx:Nat.blt (a.getD 0) (b.getD len) with
          | false=>rfl
          | true=>have:=gJ.1 sx; omega
         simp [e1,e2]
        ·have e3:¬ (c.room id off iy-a.getD 0=0):=by omega
         simp [e1,e3,Addr.add_lit,gx]
 ·rename_i ar id off
  rw [jY ht (by simp)]
  generalize har:P.underlying ar=da at I
  split at I
  ·rename_i n e
   split at I
   ·rename_i k hk
    simp only at I
    cases J:(Nat.ble (a.getD 0) (b.getD n)&&Nat.ble (b.getD n) n) with
    | false=>simp [J] at I
    | true =>
     simp only [J,ag,aq] at I
     subst I
     simp only [aO,aJ] at J
     have Cp:=Nq rfl
     subst Cp
     have hb:=kU (P:=P) (c:=c) h1 h2 h3 false (len:=n) (cap:=n) (by simp) J.1 (.inl J.2) (aD _) w
     simp only [iV,qI] at hb
     have jA:id<c.N:=by simpa [wf] using hx
     refine ⟨?_,by simp [wf,jA]; omega⟩
     simp only [conc,Instr.slice,Sem.run_bind,run_underlying ht,run_underlying har,Result.andThen_ok,hb,cW hk,Sem.run_pure,iV,asAddr]
     by_cases e1:n=a.getD 0
     ·simp [e1]
     ·simp [e1,dc e1,Addr.add_lit,gx]
   ·simp at I
  ·simp at I
 ·rename_i n e id off
  split at I
  ·rename_i k hk
   simp only at I
   cases J:(Nat.ble (a.getD 0) (b.getD n)&&Nat.ble (b.getD n) n) with
   | false=>simp [J] at I
   | true =>
    simp only [J,ag,aq] at I
    subst I
    simp only [aO,aJ] at J
    have Cp:=Nq rfl
    subst Cp
    have hb:=kU (P:=P) (c:=c) h1 h2 h3 false (len:=n) (cap:=n) (by simp) J.1 (.inl J.2) (aD _) w
    simp only [iV,qI] at hb
    have jA:id<c.N:=by simpa [wf] using hx
    refine ⟨?_,by simp [wf,jA]; omega⟩
    simp only [conc,Instr.sliceAt,Sem.run_bind,run_underlying ht,Result.andThen_ok,hb,cW hk,Sem.run_pure,iV,Instr.sureAddr]
    by_cases e1:n=a.getD 0
    ·simp [e1]
    ·simp [e1,dc e1,Addr.add_lit,gx]
  ·simp at I
 ·simp at I
theorem yF {a b:List Nat}(I:∀x∈a,x<256)(J:∀x∈b,x<256):
  ((⟨(a.map UInt8.ofNat).toArray⟩:ByteArray) == ⟨(b.map UInt8.ofNat).toArray⟩)=natsBeq a b:=by
 rw [sG,←bytes_beq a b I J,beq_toListBytes,ByteArray.toList_mk,ByteArray.toList_mk]
theorem Nr {d:TypeDesc}{a b:V}{r:Bool}(h:keyBeq d a b=some r)(J:wf c a)(hb:wf c b): Instr.sameNow d (conc c a) (conc c b)=some r:=by
 unfold keyBeq at h
 split at h
 ·rename_i j x k y
  cases I:ikBeq j k with
  | false=>simp [I] at h
  | true =>
   have:=oN I
   subst this
   simp only [I,ag,aq,nu] at h
   simp [Instr.sameNow,conc,h]
 ·rename_i x y
  simp only [aq] at h
  simp only [Instr.sameNow,conc]
  rw [yF (by simpa [wf] using J) (by simpa [wf] using hb),h]
 ·simp at h
theorem Jk {d:TypeDesc}{a b:V}{r:Bool}(h:keyBeq d a b=some r): (∃k,d=.int k)∨d=.string:=by
 unfold keyBeq at h
 split at h
 ·exact .inl ⟨_,rfl⟩
 ·exact .inr rfl
 ·simp at h
theorem jt {kt:TypeId}{d:TypeDesc}(I:P.underlying kt=some d){a b:V}{r:Bool}(h:keyBeq d a b=some r)(e:Bool)(n:Nat)(k:Value)(w:World):
  (Instr.checkKey e (n+1) kt k).run P w=.ok () w:=by
 rcases Jk h with ⟨j,rfl⟩ | rfl
 ·simp [Instr.checkKey,run_underlying I]
 ·simp [Instr.checkKey,run_underlying I]
theorem w8 {d:TypeDesc}{k:V}(hk:wf c k): ∀(es:List (V×V×Nat)) (i:Nat) (r:Option (Nat×V)),findK d k es i=some r→(∀x∈es,wf c x.1∧wf c x.2.1) →
  Instr.findNow d (conc c k) (es.map (cj c)) i=some (r.map fun x=>(x.1,conc c x.2))∧(∀x,r=some x→∃e,es[x.1-i]?=some e∧i≤x.1∧x.2=e.2.1∧keyBeq d k e.1=some true):=by
 intro es
 induction es with
 | nil=>intro i r h _; simp [findK] at h; subst h; simp [Instr.findNow]
 | cons e es ih =>
  intro i r h hw
  simp only [findK] at h
  cases I:keyBeq d k e.1 with
  | none=>simp [I] at h
  | some b =>
   have h1:=Nr (c:=c) I hk (hw e (by simp)).1
   cases b with
   | true =>
    simp [I] at h
    subst h
    refine ⟨by simp [Instr.findNow,cj,h1],?_⟩
    rintro x ⟨rfl⟩
    exact ⟨e,by simp,aD _,rfl,I⟩
   | false =>
    simp [I] at h
    obtain ⟨h2,h3⟩:=ih (i+1) r h (fun x J=>hw x (by simp [J]))
    refine ⟨by simp [Instr.findNow,cj,h1]; exact h2,?_⟩
    intro x J
    obtain ⟨e',g1,g2,g3⟩:=h3 x J
    refine ⟨e',?_,by omega,g3⟩
    have:x.1-i=(x.1-(i+1))+1:=by omega
    rw [this]; simpa using g1
theorem kV {kt:TypeId}{d:TypeDesc}(I:P.underlying kt=some d){k:V}(J:wf c k){es:List (V×V×Nat)}{r:Option (Nat×V)}(h:findK d k es 0=some r)
 (hw:∀x∈es,wf c x.1∧wf c x.2.1)(w:World): (Instr.findKey kt (conc c k) (es.map (cj c))).run P w=.ok (r.map fun x=>(x.1,conc c x.2)) w:=by
 have:=(w8 J es 0 r h hw).1
 simp [Instr.findKey,run_underlying I,this]
theorem LB {t:TypeId}{x k v:V}{ok:Bool}(h:Rel c σ w)(I:lookupV P σ t x k ok=some v)(hx:wf c x)(hk:wf c k):
  (Instr.lookup t (conc c x) (conc c k) ok).run P w=.ok (conc c v) w∧wf c v:=by
 unfold lookupV at I
 generalize ht:P.underlying t=dt at I
 split at I
 ·rename_i kt et
  generalize hd:P.underlying kt=dk at I
  split at I
  ·rename_i d z hz
   obtain ⟨z1,z2⟩:=gD hz c w
   split at I
   ·split at I
    ·rename_i b hb
     simp only [aq] at I
     subst I
     refine ⟨?_,?_⟩
     ·simp only [Instr.lookup,Sem.run_bind,run_underlying ht,Result.andThen_ok,conc,Sem.run_pure]
      rw [jt hd hb]
      simp only [Result.andThen_ok]
      have:(Instr.findKey kt (conc c k) (#[]:Array MapEntry).toList).run P w=.ok none w:=by simp [Instr.findKey,run_underlying hd,Instr.findNow]
      rw [this]
      simp only [Result.andThen_ok,Sem.run_bind,z1,Sem.run_pure]
      cases ok <;> simp [conc,concL]
     ·cases ok <;> simp [wf,fu,z2]
    ·simp at I
   ·rename_i id
    split at I
    ·rename_i es clock hg
     obtain ⟨hw,hb⟩:=h.obj id _ hg
     have pV:=j6 (P:=P) hb (by simp)
     split at I
     ·rename_i b i u J hf
      simp only [aq] at I
      subst I
      have tS:=kV (P:=P) hd hk hf hw w
      obtain ⟨e,g1,_,g3,_⟩:=(w8 hk es 0 _ hf hw).2 (i,u) rfl
      have hu:wf c u:=by
       simp only at g3; rw [g3]; exact (hw e (bC g1)).2
      refine ⟨?_,by cases ok <;> simp [wf,fu,hu]⟩
      simp only [Instr.lookup,Sem.run_bind,run_underlying ht,Result.andThen_ok,conc,Sem.run_pure,pV]
      rw [jt hd J]
      simp only [Result.andThen_ok,tS,jN]
      cases ok <;> simp [conc,concL]
     ·rename_i b J hf
      simp only [aq] at I
      subst I
      have tS:=kV (P:=P) hd hk hf hw w
      refine ⟨?_,by cases ok <;> simp [wf,fu,z2]⟩
      simp only [Instr.lookup,Sem.run_bind,run_underlying ht,Result.andThen_ok,conc,Sem.run_pure,pV]
      rw [jt hd J]
      simp only [Result.andThen_ok,tS,iV,Sem.run_bind,z1,Sem.run_pure]
      cases ok <;> simp [conc,concL]
     ·simp at I
    ·simp at I
   ·simp at I
  ·simp at I
 ·simp at I
theorem LC {t:TypeId}{x k v:V}{ok:Bool}(h:Rel c σ w)(I:eV P σ t x k ok=some v)(hx:wf c x)(hk:wf c k):
  (Instr.lookup t (conc c x) (conc c k) ok).run P w=.ok (conc c v) w∧wf c v:=by
 unfold eV at I
 split at I
 ·rename_i u hu
  simp only [aq] at I
  subst I
  exact LB h hu hx hk
 ·unfold lookupE at I
  generalize ht:P.underlying t=dt at I
  split at I
  ·rename_i kt et a b G2
   split at I
   ·rename_i n e z id hd hz
    obtain ⟨z1,z2⟩:=gD hz c w
    split at I
    ·rename_i m clock he eZ SY hg
     cases hq:(Nat.beq n 2&&Nat.beq m 1) with
     | false=>rw [hq] at I; cases I
     | true =>
      rw [hq,ag] at I
      simp only [aO,beq_iff] at hq
      obtain ⟨rfl,rfl⟩:=hq
      simp only [aq] at I
      subst I
      obtain ⟨hw,hb⟩:=h.obj id _ hg
      have pV:=j6 (P:=P) hb (by simp)
      have p0:=wZ (P:=P) (c:=c) (t:=e) (cs:=[.str a,.str b]) (off:=0) (v:=.str a) (by simp [oJ,SY,nth]) (by intro y hy; have:=(gK.1 (by simpa [wf] using hk:fu c [V.str a,V.str b])); exact this y hy) w
      have p1:=wZ (P:=P) (c:=c) (t:=e) (cs:=[.str a,.str b]) (off:=1) (v:=.str b) (by simp [oJ,SY,nth,show Nat.beq 1 0=false from rfl]) (by intro y hy; have:=(gK.1 (by simpa [wf] using hk:fu c [V.str a,V.str b])); exact this y hy) w
      refine ⟨?_,by cases ok <;> simp [wf,fu,z2]⟩
      have ig:=cW eZ w
      have aab:∀(J:Bool) (m:Nat) (u:List Nat),(Instr.checkKey J (m+1) e (conc c (.str u))).run P w=.ok () w:=fun J m u=>by
       simp [Instr.checkKey,run_underlying he,conc]
      have Yi:∀(J:Bool) (m:Nat),(Instr.checkKey J (m+1+1) kt (conc c (.agg [.str a,.str b]))).run P w=.ok () w:=fun J m=>by
       rw [show conc c (.agg [.str a,.str b])=.agg ([V.str a,V.str b].map (conc c)).toArray from by simp [conc,concL]]
       unfold Instr.checkKey
       simp only [Sem.run_bind,run_underlying hd,Result.andThen_ok]
       simp only [Kf,Std.Legacy.Range.size,kf,Nat.add_one_sub_one,Nat.div_one]
       simp only [show List.range' 0 2 1=[0,1] from rfl,List.forIn_cons,List.forIn_nil,Sem.run_bind,ig,Result.andThen_ok,qR,vY,p0.1,p1.1,aab,Sem.run_pure]
      have Qs:∀J,(Instr.checkKey J 10000 kt (conc c (.agg [.str a,.str b]))).run P w=.ok () w:=fun J=>Yi J 9998
      have Yj:(Instr.findKey kt (conc c (.agg [.str a,.str b])) (#[]:Array MapEntry).toList).run P w=.ok none w:=by simp [Instr.findKey,run_underlying hd,Instr.findNow]
      simp only [Instr.lookup,Sem.run_bind,run_underlying ht,Result.andThen_ok,Sem.run_pure]
      rw [show conc c (.map id)=.map (some (c.ρ id).1) from by simp [conc]]
      simp only [Sem.run_bind,pV,Result.andThen_ok,Sem.run_pure,AD,Qs,Yj,z1]
      cases ok <;> simp [conc,concL]
    ·cases I
   ·cases I
  ·cases I
theorem T6 {t:TypeId}{x v:V}(h:Rel c σ w)(I:lenV P σ t x=some v)(ts:Array TypeId)(J:ts[0]?=some t)(ty:TypeId):
  (Builtin.len_ ts ty #[conc c x]).run P w=.ok (conc c v) w∧wf c v:=by
 unfold lenV at I
 generalize ht:P.underlying t=dt at I
 split at I
 ·rename_i l
  simp only [aq] at I; subst I
  have eZ:(⟨(l.map UInt8.ofNat).toArray⟩:ByteArray).size=l.length:=by simp [ByteArray.size]
  exact ⟨by simp [Builtin.len_,J,run_underlying ht,conc,goInt,eZ],by simp [wf]⟩
 ·simp only [aq] at I; subst I
  exact ⟨by simp [Builtin.len_,J,run_underlying ht,conc,goInt],by simp [wf]⟩
 ·simp only [aq] at I; subst I
  exact ⟨by simp [Builtin.len_,J,run_underlying ht,conc,goInt],by simp [wf]⟩
 ·rename_i id off n cap
  simp only [aq] at I; subst I
  obtain ⟨a,m,hs⟩:=qV c id off n cap
  rw [hs]
  exact ⟨by simp [Builtin.len_,J,run_underlying ht,conc,goInt],by simp [wf]⟩
 ·simp only [aq] at I; subst I
  exact ⟨by simp [Builtin.len_,J,run_underlying ht,conc,goInt],by simp [wf]⟩
 ·simp only [aq] at I; subst I
  exact ⟨by simp [Builtin.len_,J,run_underlying ht,conc,goInt],by simp [wf]⟩
 ·rename_i id
  split at I
  ·rename_i es clock hg
   simp only [aq] at I; subst I
   obtain ⟨hw,hb⟩:=h.obj id _ hg
   have pV:=j6 (P:=P) hb (by simp)
   exact ⟨by simp [Builtin.len_,J,run_underlying ht,conc,goInt,pV],by simp [wf]⟩
  ·simp at I
 ·simp at I
theorem T7 {x y v:V}(I:maxV x y=some v)(w:World): (Builtin.max2 (conc c x) (conc c y)).run P w=.ok (conc c v) w∧wf c v:=by
 unfold maxV at I
 split at I
 ·rename_i k a j b
  cases hq:ikBeq k j with
  | false=>simp [hq] at I
  | true =>
   have:=oN hq
   subst this
   simp only [hq,ag,aq] at I
   subst I
   refine ⟨?_,by simp [wf]⟩
   by_cases J:b>a
   ·simp [Builtin.max2,conc,J]
   ·simp [Builtin.max2,conc,J]
 ·simp at I
theorem T8 {x y v:V}(I:BT x y=some v)(w:World): (Builtin.min2 (conc c x) (conc c y)).run P w=.ok (conc c v) w∧wf c v:=by
 unfold BT at I
 split at I
 ·rename_i k a j b
  cases hq:ikBeq k j with
  | false=>simp [hq] at I
  | true =>
   have:=oN hq
   subst this
   simp only [hq,ag,aq] at I
   subst I
   refine ⟨?_,by simp [wf]⟩
   by_cases J:b<a
   ·simp [Builtin.min2,conc,J]
   ·simp [Builtin.min2,conc,J]
 ·simp at I
theorem G3 (f:V→V→Option V)(g:Value→Value→Sem Value)(hf:∀x y v,f x y=some v→(g (conc c x) (conc c y)).run P w=.ok (conc c v) w∧wf c v):
  ∀(l:List V) (x v:V),foldV f x l=some v→wf c x→((l.map (conc c)).foldlM g (conc c x)).run P w=.ok (conc c v) w∧wf c v:=by
 intro l
 induction l with
 | nil=>intro x v h J; simp [foldV] at h; subst h; exact ⟨by simp,J⟩
 | cons y l ih =>
  intro x v h J
  simp only [foldV] at h
  cases I:f x y with
  | none=>simp [I] at h
  | some z =>
   simp only [I] at h
   obtain ⟨h1,h2⟩:=hf x y z I
   obtain ⟨h3,h4⟩:=ih z v h h2
   exact ⟨by simp [List.foldlM_cons,h1,h3],h4⟩
theorem LF {x v:V}{xt t:TypeId}{ok:Bool}(I:assertV P x t ok=some v)(hx:wf c x)(w:World):
  (Instr.typeAssert (conc c x) xt t ok).run P w=.ok (conc c v) w∧wf c v:=by
 unfold assertV at I
 generalize ht:P.underlying t=dt at I
 split at I
 ·simp at I
 ·rename_i d hd
  split at I
  ·rename_i u y
   cases J:Nat.beq u t with
   | true =>
    have:=beq_iff.1 J
    subst this
    simp only [J,ag,aq] at I
    subst I
    have hy:wf c y:=by simpa [wf] using hx
    refine ⟨?_,by cases ok <;> simp [wf,fu,hy]⟩
    simp only [Instr.typeAssert,Sem.run_bind,run_underlying ht,Result.andThen_ok,conc]
    cases d <;> first | exact absurd rfl (hd _) | (cases ok <;> simp [conc,concL])
   | false =>
    have dS:u≠t:=fun e=>by rw [gP e] at J; cases J
    simp only [J,az] at I
    split at I
    ·rename_i z hz
     simp only [aq] at I
     subst I
     obtain ⟨z1,z2⟩:=gD hz c w
     refine ⟨?_,by simp [wf,fu,z2]⟩
     simp only [Instr.typeAssert,Sem.run_bind,run_underlying ht,Result.andThen_ok,conc]
     cases d <;> first | exact absurd rfl (hd _) | simp [conc,concL,dS,z1]
    ·simp at I
  ·split at I
   ·rename_i z hz
    simp only [aq] at I
    subst I
    obtain ⟨z1,z2⟩:=gD hz c w
    refine ⟨?_,by simp [wf,fu,z2]⟩
    simp only [Instr.typeAssert,Sem.run_bind,run_underlying ht,Result.andThen_ok,conc]
    cases d <;> first | exact absurd rfl (hd _) | simp [conc,concL,z1]
   ·simp at I
  ·simp at I
 ·simp at I
end
end Go.Proofs.YtefepnnfphdkpaaGreat.Am
