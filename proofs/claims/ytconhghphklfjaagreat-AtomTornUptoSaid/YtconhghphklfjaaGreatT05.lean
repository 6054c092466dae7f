/- AtomTorn: a part of its proof; conditions: its statement's. -/
import Derived.Test.YtconhghphklfjaaGreatT04
import Derived.Laws.StructEq
namespace Go.Proofs.YtconhghphklfjaaGreat.Am
open Go
section
variable {P:Program} {c:Ctx} {σ:H} {w:World}
theorem Lb : ∀(cs:List V) (l:List Nat),bytesOf cs=some l →
  ∃I:List Int,cs.map (conc c)=I.map (Value.int .u8)∧l=I.map (fun n=>n.toNat%256):=by
 intro cs
 induction cs with
 | nil=>intro l h; simp [bytesOf] at h; subst h; exact ⟨[],by simp,by simp⟩
 | cons x cs U =>
  intro l h
  unfold bytesOf at h
  split at h
  ·simp at *
  ·rename_i n cs' he
   simp only [v7] at he
   obtain ⟨rfl,rfl⟩:=he
   cases J:bytesOf cs with
   | none=>simp [J] at h
   | some m =>
    simp [J] at h
    subst h
    obtain ⟨I,h1,h2⟩:=U m J
    exact ⟨n::I,by simp [conc,h1],by simp [h2]⟩
  ·simp at h
theorem foldl_push_bytes : ∀(I:List Int) (s:ByteArray),(I.foldl (fun r n=>r.push (UInt8.ofNat n.toNat)) s)=⟨s.data++(I.map fun n=>UInt8.ofNat n.toNat).toArray⟩:=by
 intro I
 induction I with
 | nil=>intro s; apply tN; simp
 | cons n I J =>
  intro s
  rw [D7,J]
  apply tN
  simp [ByteArray.push]
theorem AT {id off len m:Nat}{cap:Cap}{cs:List V}(h:Rel c σ w)(hw:wf c (.sl id off len cap))(hr:rdN σ id off m=some cs)(hm:len=0→m=0):
  ∃a n,conc c (.sl id off len cap)=.slice (some a) len n∧(loadCells a m).run P w=.ok (cs.map (conc c)).toArray w∧(m≠0→a=fL c id off) ∧
   (∀j x,(cs.map (conc c))[j]?=some x→w.cell? (a.add j)=some x):=by
 have hl:=Ec (P:=P) h hr
 have J:=ug h hr
 cases cap with
 | exact n=>exact ⟨fL c id off,n,by simp only [conc,fL],hl,fun _=>rfl,J.2.2⟩
 | rest I alt =>
  by_cases h3:c.room id off I=0
  ·have hlen:len=0:=by
    have:id<c.N∧1≤I∧len≤c.room id off I:=by simpa [wf] using hw
    omega
   have U:=hm hlen
   subst U
   have qS:cs=[]:=List.length_eq_zero_iff.1 J.1
   subst qS
   refine ⟨⟨(c.ρ id).1,(c.ρ id).2+(if c.room id off I=0 then alt else off),none⟩,c.room id off I,by simp only [conc],?_,fun hx=>absurd rfl hx,fun j x hx=>by simp at hx⟩
   simp [loadCells,loadCellsFrom]
  ·exact ⟨fL c id off,c.room id off I,by simp only [conc,h3,bN,fL],hl,fun _=>rfl,J.2.2⟩
theorem ofNat_mod (n:Nat): UInt8.ofNat (n%256)=UInt8.ofNat n:=by
 apply UInt8.toNat.inj
 simp [tE]
theorem PS {s d:TypeId}{x v:V}{iJ:H}(h:Rel c σ w)(I:convV P σ s d x=some (v,iJ)):
  wf c x→(convert s d (conc c x)).run P w=.ok (conc c v) w∧wf c v∧iJ=σ:=by
 intro hx
 unfold convV at I
 generalize hs:P.underlying s=ds at I
 generalize hd:P.underlying d=dd at I
 split at I
 ·simp only [au,aP] at I
  obtain ⟨rfl,rfl⟩:=I
  exact ⟨by simp [convert,run_underlying hs,run_underlying hd,conc,Conv.intToInt],by simp [wf],rfl⟩
 ·simp only [au,aP] at I
  obtain ⟨rfl,rfl⟩:=I
  exact ⟨by simp [convert,run_underlying hs,run_underlying hd,conc],hx,rfl⟩
 ·generalize he:P.underlying _=de at I
  split at I
  ·simp only [au,aP] at I
   obtain ⟨rfl,rfl⟩:=I
   refine ⟨?_,by simp [wf],rfl⟩
   simp only [conc,convert,Sem.run_bind,run_underlying hs,run_underlying hd,run_underlying he,Result.andThen_ok]
   simp [Conv.bytesToString]
   rfl
  ·simp at I
 ·generalize he:P.underlying _=de at I
  split at I
  ·simp only [au,aP] at I
   obtain ⟨rfl,rfl⟩:=I
   refine ⟨?_,by simp [wf],rfl⟩
   simp only [conc,convert,Sem.run_bind,run_underlying hs,run_underlying hd,run_underlying he,Result.andThen_ok]
   simp [Conv.bytesToString]
   rfl
  ·simp at I
 ·rename_i e id off len cap
  generalize he:P.underlying e=de at I
  split at I
  ·cases J:rdN σ id off len with
   | none=>simp [J] at I
   | some cs =>
    cases U:bytesOf cs with
    | none=>simp [J,U] at I
    | some l =>
     simp [J,U] at I
     obtain ⟨rfl,rfl⟩:=I
     obtain ⟨ns,h1,h2⟩:=Lb (c:=c) cs l U
     obtain ⟨a,n,ha,hl,_,_⟩:=AT (P:=P) h hx J (fun h=>h)
     rw [h1] at hl
     refine ⟨?_,?_,rfl⟩
     ·rw [ha,run_convert_bytes_string w s d e (some a) len n hs he hd,run_bytesToString w a len n ns hl,foldl_push_bytes]
      simp only [conc,h2,v8]
      congr 2
      apply tN
      simp [vX,ofNat_mod]
     ·simp only [wf,h2,nY]
      rintro x ⟨n,_,rfl⟩
      omega
  ·simp at I
 ·simp only [au,aP] at I
  obtain ⟨rfl,rfl⟩:=I
  exact ⟨by simp [convert,run_underlying hs,run_underlying hd,conc,Conv.intToFloat],by simp [wf],rfl⟩
 ·rename_i k fk b
  cases J:Ieee.Datum.toInt Ieee.Toward.zero (fk.decode b) with
  | none=>rw [J] at I; cases I
  | some n =>
   rw [J] at I
   simp only at I
   cases U:(decide (k.min≤n)&&decide (n≤k.max)) with
   | false=>rw [U] at I; cases I
   | true =>
    rw [U,ag] at I
    simp only [au,aP] at I
    obtain ⟨rfl,rfl⟩:=I
    simp only [aZ,dZ] at U
    exact ⟨by simp [convert,run_underlying hs,run_underlying hd,conc,Conv.floatToInt,J,U],by simp [wf],rfl⟩
 ·simp at I
theorem Lc {d:TypeId}{x v:V}(I:arrPtrV P d x=some v)(hx:wf c x)(w:World):
  (Instr.arrayAt d (conc c x)).run P w=.ok (conc c v) w∧wf c v:=by
 unfold arrPtrV at I
 split at I
 ·rename_i id off len cap
  generalize hd:P.underlying d=dd at I
  split at I
  ·rename_i n e
   cases hq:(Nat.ble n len&&Nat.ble 1 n) with
   | false=>simp [hq] at I
   | true =>
    simp only [hq,ag,au] at I
    subst I
    simp only [aZ] at hq
    have q1:=aQ.1 hq.1
    have q2:=aQ.1 hq.2
    cases cap with
    | exact m =>
     have J:id<c.N∧len≤m:=by simpa [wf] using hx
     exact ⟨by simp [Instr.arrayAt,run_underlying hd,conc,Nat.not_lt.2 q1],by simpa [wf] using J.1⟩
    | rest U alt =>
     have J:id<c.N∧1≤U∧len≤c.room id off U:=by simpa [wf] using hx
     have h3:c.room id off U≠0:=by omega
     exact ⟨by simp [Instr.arrayAt,run_underlying hd,conc,Nat.not_lt.2 q1,h3],by simpa [wf] using J.1⟩
  ·simp at I
 ·simp at I
theorem F0 {t:TypeId}{x v:V}(I:makeIfaceV P t x=some v)(J:wf c x)(w:World):
  (Instr.makeInterface t (conc c x)).run P w=.ok (conc c v) w∧wf c v:=by
 unfold makeIfaceV at I
 generalize U:P.underlying t=dt at I
 split at I
 ·simp at I
 ·rename_i d hd
  simp only [au] at I
  subst I
  refine ⟨?_,by simpa [wf] using J⟩
  simp only [Instr.makeInterface,Sem.run_bind,run_underlying U,Result.andThen_ok]
  simp [conc]
 ·simp at I
theorem w6 {t:TypeId}{cs:List V}{off:Nat}{v:V}(I:oS P t cs off=some v)(hx:∀x∈cs,wf c x)(w:World):
  (part t ((cs.map (conc c)).toArray) off).run P w=.ok (conc c v) w∧wf c v:=by
 unfold oS at I
 split at I
 ·rename_i J
  cases U:bJ P t with
  | none=>simp [U] at I
  | some k =>
   simp [U] at I
   subst I
   refine ⟨?_,?_⟩
   ·simp only [part,Sem.run_bind,sW J,Result.andThen_ok,bQ,c_ U,Sem.run_pure,conc,iy]
    congr 2
    simp [ru,ry]
   ·simp only [wf,ja]
    exact fun x hy=>hx x (iC (gH hy))
 ·rename_i J
  rw [fV] at I
  refine ⟨?_,hx v (bw I)⟩
  simp [part,sW J,I]
 ·simp at I
theorem Bq {t:TypeId}{I:List Go.Field}(h:fieldsOf P t=some I): P.underlying t=some (.struct I.toArray):=by
 unfold fieldsOf at h
 split at h
 ·rename_i f J
  simp only [au] at h
  subst h
  simpa using J
 ·simp at h
theorem F1 {t:TypeId}{x v:V}{i:Nat}(I:fieldAddrV P t x i=some v)(hx:wf c x)(w:World):
  (Instr.fieldAt t (conc c x) i).run P w=.ok (conc c v) w∧wf c v:=by
 unfold fieldAddrV at I
 split at I
 ·rename_i id off
  cases J:fieldsOf P t with
  | none=>simp [J] at I
  | some fs =>
   have hu:=Bq J
   simp only [J,fV] at I
   cases hi:fs[i]? with
   | none=>simp [hi] at I
   | some f =>
    simp only [hi] at I
    cases U:bJ P f.type with
    | none=>simp [U] at I
    | some k =>
     simp only [U] at I
     cases hq:Nat.ble 1 k with
     | false=>simp [hq] at I
     | true =>
      have q:=aQ.1 hq
      simp only [hq,ag,au] at I
      subst I
      refine ⟨?_,by simpa [wf] using hx⟩
      have Vi:k≠0:=by omega
      simp only [Instr.fieldAt,Sem.run_bind,run_underlying hu,Result.andThen_ok]
      simp [hi,conc,Instr.sureAddr,fieldPlace,c_ U,Vi,Addr.add_lit,gK]
 ·simp at I
theorem MY {t:TypeId}{x v:V}{i:Nat}(I:sj P t x i=some v)(U:wf c x)(w:World):
  (Instr.field t (conc c x) i).run P w=.ok (conc c v) w∧wf c v:=by
 unfold sj at I
 split at I
 ·rename_i cs
  cases J:fieldsOf P t with
  | none=>simp [J] at I
  | some fs =>
   have hu:=Bq J
   simp only [J,fV] at I
   cases hi:fs[i]? with
   | none=>simp [hi] at I
   | some f =>
    simp only [hi] at I
    obtain ⟨h1,h2⟩:=w6 I (by simpa [wf,ja] using U) w
    refine ⟨?_,h2⟩
    simp only [Instr.field,Sem.run_bind,run_underlying hu,Result.andThen_ok,conc,iy]
    simp [hi,asAgg,h1]
 ·simp at I
theorem F2 {t:TypeId}{x i v:V}(I:indexAddrV P t x i=some v)(hx:wf c x)(w:World):
  (Instr.indexAt t (conc c x) (conc c i)).run P w=.ok (conc c v) w∧wf c v:=by
 unfold indexAddrV at I
 split at I
 ·rename_i k n
  generalize ht:P.underlying t=dt at I
  split at I
  ·rename_i e id off len cap
   cases hk:bJ P e with
   | none=>simp [hk] at I
   | some s =>
    simp only [hk] at I
    cases J:(decide (0≤n)&&decide (n<(len:Int))) with
    | false=>simp [J] at I
    | true =>
     simp only [J,ag,au] at I
     subst I
     simp only [aZ,dZ] at J
     have hlen:0<len:=by omega
     have key:∃m,conc c (.sl id off len cap)=.slice (some (fL c id off)) len m∧id<c.N:=by
      cases cap with
      | exact m =>
       have ji:id<c.N∧len≤m:=by simpa [wf] using hx
       exact ⟨m,by simp only [conc,fL],ji.1⟩
      | rest U alt =>
       have ji:id<c.N∧1≤U∧len≤c.room id off U:=by simpa [wf] using hx
       have h3:c.room id off U≠0:=by omega
       exact ⟨c.room id off U,by simp only [conc,fL,h3,bN],ji.1⟩
     obtain ⟨m,h1,h2⟩:=key
     refine ⟨?_,by simpa [wf] using h2⟩
     rw [h1]
     simp [Instr.indexAt,asIntOf,conc,run_underlying ht,J,c_ hk,tV]
     simp [fL]
  ·rename_i len e id off
   cases hk:bJ P e with
   | none=>simp [hk] at I
   | some s =>
    simp only [hk] at I
    cases J:(decide (0≤n)&&decide (n<(len:Int))) with
    | false=>simp [J] at I
    | true =>
     simp only [J,ag,au] at I
     subst I
     simp only [aZ,dZ] at J
     refine ⟨?_,by simpa [wf] using hx⟩
     simp [Instr.indexAt,asIntOf,conc,run_underlying ht,J,c_ hk,Instr.sureAddr,Addr.add_lit,gK]
  ·simp at I
 ·simp at I
theorem MZ {t:TypeId}{x i v:V}(I:indexV P t x i=some v)(hx:wf c x)(w:World):
  (Instr.index t (conc c x) (conc c i)).run P w=.ok (conc c v) w∧wf c v:=by
 unfold indexV at I
 split at I
 ·rename_i k n
  generalize ht:P.underlying t=dt at I
  split at I
  ·rename_i len e cs
   cases hk:bJ P e with
   | none=>simp [hk] at I
   | some s =>
    simp only [hk] at I
    cases J:(decide (0≤n)&&decide (n<(len:Int))) with
    | false=>simp [J] at I
    | true =>
     simp only [J,ag] at I
     simp only [aZ,dZ] at J
     obtain ⟨h1,h2⟩:=w6 I (by simpa [wf,ja] using hx) w
     refine ⟨?_,h2⟩
     simp [Instr.index,asIntOf,conc,iy,run_underlying ht,J,c_ hk,h1]
  ·rename_i l
   cases J:decide (0≤n) with
   | false=>simp [J] at I
   | true =>
    simp only [J,ag,fV] at I
    simp only [dZ] at J
    cases U:l[n.toNat]? with
    | none=>simp [U] at I
    | some b =>
     simp [U] at I
     subst I
     refine ⟨?_,by simp [wf]⟩
     have bV:b<256:=by
      have ji:∀y∈l,y<256:=by simpa [wf] using hx
      exact ji b (bw U)
     have GG:(⟨(l.map UInt8.ofNat).toArray⟩:ByteArray)[n.toNat]?=some (UInt8.ofNat b):=by
      have hl:n.toNat<l.length:=(List.getElem?_eq_some_iff.1 U).1
      rw [ByteArray.getElem?_lt' _ _ (by simpa [ByteArray.size] using hl)]
      have he:=(List.getElem?_eq_some_iff.1 U).2
      simp only [ByteArray.getElem_eq_getElem_data]
      simp [he]
     simp only [Instr.index,asIntOf,conc,Sem.run_bind,Sem.run_pure,Result.andThen_ok,run_underlying ht,J,bQ,GG]
     simp [tE,gJ bV]
  ·simp at I
 ·simp at I
theorem Ee {x:V}{n:Nat}(h:bndV x=some n){y:Nat}(J:n≤y)(code:BoundsCode)(w:World): (Instr.sliceBound (conc c x) y code).run P w=.ok n w:=by
 unfold bndV at h
 split at h
 ·rename_i k i
  cases I:decide (0≤i) with
  | false=>simp [I] at h
  | true =>
   simp only [I,ag,au] at h
   simp only [dZ] at I
   subst h
   have:i≤(y:Int):=by omega
   simp [Instr.sliceBound,asIntOf,conc,I,this]
 ·simp at h
theorem sZ {x:Option V}{b:Option Nat}(h:g8 x=some b): (x=none∧b=none)∨∃v n,x=some v∧b=some n∧bndV v=some n:=by
 cases x with
 | none=>simp [g8] at h; exact .inl ⟨rfl,h.symm⟩
 | some v =>
  simp only [g8] at h
  cases I:bndV v with
  | none=>simp [I] at h
  | some n=>simp [I] at h; exact .inr ⟨v,n,rfl,h.symm,I⟩
theorem lI {lo hi mx:Option V}{a b m:Option Nat}(J:g8 lo=some a)(U:g8 hi=some b)(h3:g8 mx=some m)(I:Bool){len cap:Nat}
 (hb:m.isSome=true→b.isSome=true)(q1:a.getD 0≤b.getD len)(q2:b.getD len≤m.getD cap∨b=none∧m=none)(q3:m.getD cap≤cap)(w:World):
  (Instr.sliceBounds I len cap (lo.map (conc c)) (hi.map (conc c)) (mx.map (conc c))).run P w=.ok (a.getD 0,b.getD len,m.getD cap) w:=by
 rcases sZ J with ⟨rfl,rfl⟩ | ⟨lv,ln,rfl,rfl,hl⟩ <;> rcases sZ U with ⟨rfl,rfl⟩ | ⟨hv,hn,rfl,rfl,hh⟩ <;>
  rcases sZ h3 with ⟨rfl,rfl⟩ | ⟨mv,mn,rfl,rfl,hm⟩
 all_goals simp only [eZ,nV,Option.isSome_some,Option.isSome_none,eY,forall_const,reduceCtorEq,false_and,rD,or_true,and_self] at *
 all_goals simp only [Instr.sliceBounds,iW,iX,Sem.run_bind,Sem.run_pure,Result.andThen_ok]
 all_goals (try rw [Ee hm q3])
 all_goals (try simp only [Result.andThen_ok])
 all_goals (try rw [Ee hh (by first | exact q2 | omega)])
 all_goals (try simp only [Result.andThen_ok])
 all_goals (try rw [Ee hl q1])
 all_goals (try simp only [Result.andThen_ok])
theorem E6 {id off k:Nat}(h:Rel c σ w): kP σ id off k≤c.room id off k:=by
 unfold kP
 split
 ·rename_i n cs st I
  obtain ⟨_,_,C,e,fz,J,hle,_⟩:=h.obj id _ I
  have U:=h.zz id (h.live id _ I)
  unfold Ctx.room
  rw [U]
  unfold rowSize
  rw [J]
  exact Nat.div_le_div_right (by simp only; omega)
 ·exact eM _
theorem j9 {t:TypeId}{d:TypeDesc}(I:P.underlying t=some d)(J:∀n e,d≠.array n e)(x:Value)(lo hi mx:Option Value)(w:World):
  (Instr.sliceAt t x lo hi mx).run P w=(Instr.slice t x lo hi mx).run P w:=by
 simp only [Instr.sliceAt,Sem.run_bind,run_underlying I,Result.andThen_ok]
 try (split <;> first | rfl | (rename_i n e; exact absurd rfl (J n e)))
theorem PT (c:Ctx)(id off k a:Nat): c.room id (off+a*k) k=c.room id off k-a:=by
 unfold Ctx.room
 have:c.Z (c.ρ id).1-((c.ρ id).2+(off+a*k))=(c.Z (c.ρ id).1-((c.ρ id).2+off))-k*a:=by
  rw [rB k a]; omega
 rw [this,Nat.sub_mul_div]
theorem M0 {t:TypeId}{x v:V}{lo hi mx:Option V}{a b m:Option Nat}(h:Rel c σ w)(h1:g8 lo=some a)(h2:g8 hi=some b)(h3:g8 mx=some m)
 (I:sliceV P σ t x a b m=some v)(hx:wf c x):
  (Instr.sliceAt t (conc c x) (lo.map (conc c)) (hi.map (conc c)) (mx.map (conc c))).run P w=.ok (conc c v) w∧wf c v:=by
 have M1:m=none→mx=none:=by
  intro e; rcases sZ h3 with ⟨e1,_⟩ | ⟨_,_,_,e2,_⟩
  ·exact e1
  ·rw [e2] at e; simp at e
 unfold sliceV at I
 generalize ht:P.underlying t=dt at I
 split at I
 ·-- a string
  rename_i l
  split at I
  ·simp at I
  ·simp only at I
   cases J:(Nat.ble (a.getD 0) (b.getD l.length)&&Nat.ble (b.getD l.length) l.length) with
   | false=>simp [J] at I
   | true =>
    simp only [J,ag,au] at I
    subst I
    simp only [aZ] at J
    have q1:=aQ.1 J.1
    have q2:=aQ.1 J.2
    have Co:=M1 rfl
    subst Co
    have eX:(⟨(l.map UInt8.ofNat).toArray⟩:ByteArray).size=l.length:=by simp [ByteArray.size]
    refine ⟨?_,?_⟩
    ·rw [j9 ht (by simp)]
     have hb:=lI (P:=P) (c:=c) h1 h2 h3 false (len:=l.length) (cap:=l.length) (by simp) q1 (.inl q2) (aI _) w
     simp only [iX] at hb
     simp only [conc,Instr.slice,Sem.run_bind,run_underlying ht,Result.andThen_ok,iX,Option.isSome_none,eY,bN,Sem.run_pure,eX,hb]
     congr 2
     apply tN
     simp [ByteArray.data_extract,ru,ry,tJ]
    ·have ji:∀y∈l,y<256:=by simpa [wf] using hx
     simp only [wf]
     exact fun y hy=>ji y (gH (iC hy))
 ·-- nil
  rename_i e
  split at I
  ·rename_i s hs
   cases J:(Nat.beq (b.getD 0) 0&&Nat.beq (a.getD 0) 0) with
   | false=>simp [J] at I
   | true =>
    simp only [J,ag,au] at I
    subst I
    simp only [aZ] at J
    have q1:=beq_iff.1 J.1
    have q2:=beq_iff.1 J.2
    have Co:=M1 rfl
    subst Co
    refine ⟨?_,by simp [wf]⟩
    rw [j9 ht (by simp)]
    have hb:=lI (P:=P) (c:=c) h1 h2 h3 true (len:=0) (cap:=0) (by simp) (by omega) (.inl (by simp; omega)) (aI _) w
    simp only [iX] at hb
    simp only [conc,Instr.slice,Sem.run_bind,run_underlying ht,Result.andThen_ok,iX,Sem.run_pure,hb,c_ hs]
    simp [q1,q2]
  ·simp at I
 ·-- empty, somewhere
  split at I
  ·rename_i s hs
   cases J:(Nat.beq (b.getD 0) 0&&Nat.beq (a.getD 0) 0) with
   | false=>simp [J] at I
   | true =>
    simp only [J,ag,au] at I
    subst I
    simp only [aZ] at J
    have q1:=beq_iff.1 J.1
    have q2:=beq_iff.1 J.2
    have Co:=M1 rfl
    subst Co
    refine ⟨?_,by simp [wf]⟩
    rw [j9 ht (by simp)]
    have hb:=lI (P:=P) (c:=c) h1 h2 h3 true (len:=0) (cap:=0) (by simp) (by omega) (.inl (by simp; omega)) (aI _) w
    simp only [iX] at hb
    simp only [conc,Instr.slice,Sem.run_bind,run_underlying ht,Result.andThen_ok,iX,Sem.run_pure,hb,c_ hs]
    simp [q1,q2]
  ·simp at I
 ·rename_i e id off len cap
  rw [j9 ht (by simp)]
  split at I
  ·simp at I
  ·rename_i k hk
   split at I
   ·rename_i cc
    have ji:id<c.N∧len≤cc:=by simpa [wf] using hx
    split at I
    ·rename_i mm bb
     simp only at I
     cases J:(Nat.ble (a.getD 0) bb&&Nat.ble bb mm&&Nat.ble mm cc) with
     | false=>simp [J] at I
     | true =>
      simp only [J,ag,au] at I
      subst I
      simp only [aZ] at J
      have q1:=aQ.1 J.1.1
      have q2:=aQ.1 J.1.2
      have q3:=aQ.1 J.2
      have hb:=lI (P:=P) (c:=c) h1 h2 h3 true (len:=len) (cap:=cc) (by simp) q1 (.inl q2) q3 w
      simp only [eZ] at hb
      refine ⟨?_,by simp [wf,ji.1]; omega⟩
      simp only [conc,Instr.slice,Sem.run_bind,run_underlying ht,Result.andThen_ok,hb,c_ hk,Sem.run_pure]
      by_cases e1:mm=a.getD 0
      ·simp [e1]
      ·simp [e1,cS e1,Addr.add_lit,gK]
    ·simp at I
    ·simp only at I
     cases J:(Nat.ble (a.getD 0) (b.getD len)&&Nat.ble (b.getD len) cc) with
     | false=>simp [J] at I
     | true =>
      simp only [J,ag,au] at I
      subst I
      simp only [aZ] at J
      have q1:=aQ.1 J.1
      have q2:=aQ.1 J.2
      have hb:=lI (P:=P) (c:=c) h1 h2 h3 true (len:=len) (cap:=cc) (by simp) q1 (.inl q2) (aI _) w
      simp only [nV] at hb
      refine ⟨?_,by simp [wf,ji.1]; omega⟩
      simp only [conc,Instr.slice,Sem.run_bind,run_underlying ht,Result.andThen_ok,hb,c_ hk,Sem.run_pure]
      by_cases e1:cc=a.getD 0
      ·simp [e1]
      ·simp [e1,cS e1,Addr.add_lit,gK]
   ·rename_i U alt
    have ji:id<c.N∧1≤U∧len≤c.room id off U:=by simpa [wf] using hx
    cases uo:(Nat.beq U k&&Nat.ble 1 k) with
    | false=>simp [uo] at I
    | true =>
     simp only [uo,ag] at I
     simp only [aZ] at uo
     have e0:=beq_iff.1 uo.1
     subst e0
     have yM:=ji.2.1
     have GH:=E6 (id:=id) (off:=off) (k:=U) h
     split at I
     ·rename_i mm bb
      cases J:(Nat.ble (a.getD 0) bb&&Nat.ble bb mm&&(Nat.ble mm len||Nat.ble mm (kP σ id off U))&&Nat.blt 0 len) with
      | false=>simp [J] at I
      | true =>
       simp only [J,ag,au] at I
       subst I
       simp only [aZ,m8,aQ,i_] at J
       have q3:mm≤c.room id off U:=by omega
       have hb:=lI (P:=P) (c:=c) h1 h2 h3 true (len:=len) (cap:=c.room id off U) (by simp) J.1.1.1 (.inl J.1.1.2) q3 w
       simp only [eZ] at hb
       refine ⟨?_,by simp [wf,ji.1]; omega⟩
       have h4:c.room id off U≠0:=by omega
       simp only [conc,Instr.slice,Sem.run_bind,run_underlying ht,Result.andThen_ok,hb,c_ hk,Sem.run_pure,h4,bN]
       by_cases e1:mm=a.getD 0
       ·simp [e1]
       ·simp [e1,cS e1,Addr.add_lit,gK]
     ·simp at I
     ·cases J:(Nat.ble (a.getD 0) (b.getD len)&&(Nat.ble (b.getD len) len||Nat.ble (b.getD len) (kP σ id off U))) with
      | false=>simp [J] at I
      | true =>
       simp only [J,ag,au] at I
       subst I
       simp only [aZ,m8,aQ] at J
       have q3:b.getD len≤c.room id off U:=by omega
       have hb:=lI (P:=P) (c:=c) h1 h2 h3 true (len:=len) (cap:=c.room id off U) (by simp) J.1 (.inl q3) (aI _) w
       simp only [nV] at hb
       have Cp:=PT c id off U (a.getD 0)
       refine ⟨?_,by simp only [wf,Cp]; exact ⟨ji.1,yM,by omega⟩⟩
       simp only [conc,Instr.slice,Sem.run_bind,run_underlying ht,Result.andThen_ok,hb,c_ hk,Sem.run_pure,Cp]
       by_cases ha:a.getD 0=0
       ·rw [ha]
        by_cases h4:c.room id off U=0
        ·simp [h4]
        ·simp [h4,Addr.add_lit]
       ·have h4:c.room id off U≠0:=by omega
        simp only [h4,bN,cS ha,ay]
        by_cases e1:c.room id off U=a.getD 0
        ·have e2:Nat.blt (a.getD 0) (b.getD len)=false:=by
          cases uq:Nat.blt (a.getD 0) (b.getD len) with
          | false=>rfl
          | true=>have:=i_.1 uq; omega
         simp [e1,e2]
        ·have e3:¬ (c.room id off U-a.getD 0=0):=by omega
         simp [e1,e3,Addr.add_lit,gK]
 ·rename_i ar id off
  rw [j9 ht (by simp)]
  generalize har:P.underlying ar=da at I
  split at I
  ·rename_i n e
   split at I
   ·rename_i k hk
    simp only at I
    cases J:(Nat.ble (a.getD 0) (b.getD n)&&Nat.ble (b.getD n) n) with
    | false=>simp [J] at I
    | true =>
     simp only [J,ag,au] at I
     subst I
     simp only [aZ,aQ] at J
     have Co:=M1 rfl
     subst Co
     have hb:=lI (P:=P) (c:=c) h1 h2 h3 false (len:=n) (cap:=n) (by simp) J.1 (.inl J.2) (aI _) w
     simp only [iX,nV] at hb
     have ji:id<c.N:=by simpa [wf] using hx
     refine ⟨?_,by simp [wf,ji]; omega⟩
     simp only [conc,Instr.slice,Sem.run_bind,run_underlying ht,run_underlying har,Result.andThen_ok,hb,c_ hk,Sem.run_pure,iX,asAddr]
     by_cases e1:n=a.getD 0
     ·simp [e1]
     ·simp [e1,cS e1,Addr.add_lit,gK]
   ·simp at I
  ·simp at I
 ·rename_i n e id off
  split at I
  ·rename_i k hk
   simp only at I
   cases J:(Nat.ble (a.getD 0) (b.getD n)&&Nat.ble (b.getD n) n) with
   | false=>simp [J] at I
   | true =>
    simp only [J,ag,au] at I
    subst I
    simp only [aZ,aQ] at J
    have Co:=M1 rfl
    subst Co
    have hb:=lI (P:=P) (c:=c) h1 h2 h3 false (len:=n) (cap:=n) (by simp) J.1 (.inl J.2) (aI _) w
    simp only [iX,nV] at hb
    have ji:id<c.N:=by simpa [wf] using hx
    refine ⟨?_,by simp [wf,ji]; omega⟩
    simp only [conc,Instr.sliceAt,Sem.run_bind,run_underlying ht,Result.andThen_ok,hb,c_ hk,Sem.run_pure,iX,Instr.sureAddr]
    by_cases e1:n=a.getD 0
    ·simp [e1]
    ·simp [e1,cS e1,Addr.add_lit,gK]
  ·simp at I
 ·simp at I
theorem yN {a b:List Nat}(I:∀x∈a,x<256)(J:∀x∈b,x<256):
  ((⟨(a.map UInt8.ofNat).toArray⟩:ByteArray) == ⟨(b.map UInt8.ofNat).toArray⟩)=natsBeq a b:=by
 rw [sY,←bytes_beq a b I J,beq_toListBytes,ByteArray.toList_mk,ByteArray.toList_mk]
theorem M3 {d:TypeDesc}{a b:V}{r:Bool}(h:keyBeq d a b=some r)(J:wf c a)(U:wf c b): Instr.sameNow d (conc c a) (conc c b)=some r:=by
 unfold keyBeq at h
 split at h
 ·rename_i j x k y
  cases I:ikBeq j k with
  | false=>simp [I] at h
  | true =>
   have:=oW I
   subst this
   simp only [I,ag,au,ny] at h
   simp [Instr.sameNow,conc,h]
 ·rename_i x y
  simp only [au] at h
  simp only [Instr.sameNow,conc]
  rw [yN (by simpa [wf] using J) (by simpa [wf] using U),h]
 ·simp at h
theorem I3 {d:TypeDesc}{a b:V}{r:Bool}(h:keyBeq d a b=some r): (∃k,d=.int k)∨d=.string:=by
 unfold keyBeq at h
 split at h
 ·exact .inl ⟨_,rfl⟩
 ·exact .inr rfl
 ·simp at h
theorem jy {kt:TypeId}{d:TypeDesc}(I:P.underlying kt=some d){a b:V}{r:Bool}(h:keyBeq d a b=some r)(e:Bool)(n:Nat)(k:Value)(w:World):
  (Instr.checkKey e (n+1) kt k).run P w=.ok () w:=by
 rcases I3 h with ⟨j,rfl⟩ | rfl
 ·simp [Instr.checkKey,run_underlying I]
 ·simp [Instr.checkKey,run_underlying I]
theorem w8 {d:TypeDesc}{k:V}(hk:wf c k): ∀(es:List (V×V×Nat)) (i:Nat) (r:Option (Nat×V)),findK d k es i=some r→(∀x∈es,wf c x.1∧wf c x.2.1) →
  Instr.findNow d (conc c k) (es.map (cq c)) i=some (r.map fun x=>(x.1,conc c x.2))∧(∀x,r=some x→∃e,es[x.1-i]?=some e∧i≤x.1∧x.2=e.2.1∧keyBeq d k e.1=some true):=by
 intro es
 induction es with
 | nil=>intro i r h _; simp [findK] at h; subst h; simp [Instr.findNow]
 | cons e es ih =>
  intro i r h hw
  simp only [findK] at h
  cases I:keyBeq d k e.1 with
  | none=>simp [I] at h
  | some b =>
   have U:=M3 (c:=c) I hk (hw e (by simp)).1
   cases b with
   | true =>
    simp [I] at h
    subst h
    refine ⟨by simp [Instr.findNow,cq,U],?_⟩
    rintro x ⟨rfl⟩
    exact ⟨e,by simp,aI _,rfl,I⟩
   | false =>
    simp [I] at h
    obtain ⟨h2,h3⟩:=ih (i+1) r h (fun x J=>hw x (by simp [J]))
    refine ⟨by simp [Instr.findNow,cq,U]; exact h2,?_⟩
    intro x J
    obtain ⟨e',g1,g2,g3⟩:=h3 x J
    refine ⟨e',?_,by omega,g3⟩
    have:x.1-i=(x.1-(i+1))+1:=by omega
    rw [this]; simpa using g1
theorem lJ {kt:TypeId}{d:TypeDesc}(I:P.underlying kt=some d){k:V}(J:wf c k){es:List (V×V×Nat)}{r:Option (Nat×V)}(h:findK d k es 0=some r)
 (hw:∀x∈es,wf c x.1∧wf c x.2.1)(w:World): (Instr.findKey kt (conc c k) (es.map (cq c))).run P w=.ok (r.map fun x=>(x.1,conc c x.2)) w:=by
 have:=(w8 J es 0 r h hw).1
 simp [Instr.findKey,run_underlying I,this]
theorem Ld {t:TypeId}{x k v:V}{ok:Bool}(h:Rel c σ w)(I:lookupV P σ t x k ok=some v)(hx:wf c x)(hk:wf c k):
  (Instr.lookup t (conc c x) (conc c k) ok).run P w=.ok (conc c v) w∧wf c v:=by
 unfold lookupV at I
 generalize ht:P.underlying t=dt at I
 split at I
 ·rename_i kt et
  generalize hd:P.underlying kt=dk at I
  split at I
  ·rename_i d z hz
   obtain ⟨z1,z2⟩:=ga hz c w
   split at I
   ·split at I
    ·rename_i b hb
     simp only [au] at I
     subst I
     refine ⟨?_,?_⟩
     ·simp only [Instr.lookup,Sem.run_bind,run_underlying ht,Result.andThen_ok,conc,Sem.run_pure]
      rw [jy hd hb]
      simp only [Result.andThen_ok]
      have:(Instr.findKey kt (conc c k) (#[]:Array MapEntry).toList).run P w=.ok none w:=by simp [Instr.findKey,run_underlying hd,Instr.findNow]
      rw [this]
      simp only [Result.andThen_ok,Sem.run_bind,z1,Sem.run_pure]
      cases ok <;> simp [conc,concL]
     ·cases ok <;> simp [wf,fW,z2]
    ·simp at I
   ·rename_i id
    split at I
    ·rename_i es clock hg
     obtain ⟨hw,hb⟩:=h.obj id _ hg
     have sq:=ko (P:=P) hb (by simp)
     split at I
     ·rename_i b i u J hf
      simp only [au] at I
      subst I
      have U:=lJ (P:=P) hd hk hf hw w
      obtain ⟨e,g1,_,g3,_⟩:=(w8 hk es 0 _ hf hw).2 (i,u) rfl
      have hu:wf c u:=by
       simp only at g3; rw [g3]; exact (hw e (bw g1)).2
      refine ⟨?_,by cases ok <;> simp [wf,fW,hu]⟩
      simp only [Instr.lookup,Sem.run_bind,run_underlying ht,Result.andThen_ok,conc,Sem.run_pure,sq]
      rw [jy hd J]
      simp only [Result.andThen_ok,U,iW]
      cases ok <;> simp [conc,concL]
     ·rename_i b J hf
      simp only [au] at I
      subst I
      have U:=lJ (P:=P) hd hk hf hw w
      refine ⟨?_,by cases ok <;> simp [wf,fW,z2]⟩
      simp only [Instr.lookup,Sem.run_bind,run_underlying ht,Result.andThen_ok,conc,Sem.run_pure,sq]
      rw [jy hd J]
      simp only [Result.andThen_ok,U,iX,Sem.run_bind,z1,Sem.run_pure]
      cases ok <;> simp [conc,concL]
     ·simp at I
    ·simp at I
   ·simp at I
  ·simp at I
 ·simp at I
theorem Le {t:TypeId}{x k v:V}{ok:Bool}(h:Rel c σ w)(I:fq P σ t x k ok=some v)(hx:wf c x)(hk:wf c k):
  (Instr.lookup t (conc c x) (conc c k) ok).run P w=.ok (conc c v) w∧wf c v:=by
 unfold fq at I
 split at I
 ·rename_i u hu
  simp only [au] at I
  subst I
  exact Ld h hu hx hk
 ·unfold lookupE at I
  generalize ht:P.underlying t=dt at I
  split at I
  ·rename_i kt et a b E7
   split at I
   ·rename_i n e z id hd hz
    obtain ⟨z1,z2⟩:=ga hz c w
    split at I
    ·rename_i m clock he eX J2 hg
     cases hq:(Nat.beq n 2&&Nat.beq m 1) with
     | false=>rw [hq] at I; cases I
     | true =>
      rw [hq,ag] at I
      simp only [aZ,beq_iff] at hq
      obtain ⟨rfl,rfl⟩:=hq
      simp only [au] at I
      subst I
      obtain ⟨hw,hb⟩:=h.obj id _ hg
      have sq:=ko (P:=P) hb (by simp)
      have p0:=w6 (P:=P) (c:=c) (t:=e) (cs:=[.str a,.str b]) (off:=0) (v:=.str a) (by simp [oS,J2,nth]) (by intro y hy; have:=(ja.1 (by simpa [wf] using hk:fW c [V.str a,V.str b])); exact this y hy) w
      have p1:=w6 (P:=P) (c:=c) (t:=e) (cs:=[.str a,.str b]) (off:=1) (v:=.str b) (by simp [oS,J2,nth,show Nat.beq 1 0=false from rfl]) (by intro y hy; have:=(ja.1 (by simpa [wf] using hk:fW c [V.str a,V.str b])); exact this y hy) w
      refine ⟨?_,by cases ok <;> simp [wf,fW,z2]⟩
      have yO:=c_ eX w
      have aaa:∀(J:Bool) (m:Nat) (u:List Nat),(Instr.checkKey J (m+1) e (conc c (.str u))).run P w=.ok () w:=fun J m u=>by
       simp [Instr.checkKey,run_underlying he,conc]
      have U:∀(J:Bool) (m:Nat),(Instr.checkKey J (m+1+1) kt (conc c (.agg [.str a,.str b]))).run P w=.ok () w:=fun J m=>by
       rw [show conc c (.agg [.str a,.str b])=.agg ([V.str a,V.str b].map (conc c)).toArray from by simp [conc,concL]]
       unfold Instr.checkKey
       simp only [Sem.run_bind,run_underlying hd,Result.andThen_ok]
       simp only [JV,Std.Legacy.Range.size,kH,Nat.add_one_sub_one,Nat.div_one]
       simp only [show List.range' 0 2 1=[0,1] from rfl,List.forIn_cons,List.forIn_nil,Sem.run_bind,yO,Result.andThen_ok,v_,we,p0.1,p1.1,aaa,Sem.run_pure]
      have PU:∀J,(Instr.checkKey J 10000 kt (conc c (.agg [.str a,.str b]))).run P w=.ok () w:=fun J=>U J 9998
      have X1:(Instr.findKey kt (conc c (.agg [.str a,.str b])) (#[]:Array MapEntry).toList).run P w=.ok none w:=by simp [Instr.findKey,run_underlying hd,Instr.findNow]
      simp only [Instr.lookup,Sem.run_bind,run_underlying ht,Result.andThen_ok,Sem.run_pure]
      rw [show conc c (.map id)=.map (some (c.ρ id).1) from by simp [conc]]
      simp only [Sem.run_bind,sq,Result.andThen_ok,Sem.run_pure,List.map_nil,PU,X1,z1]
      cases ok <;> simp [conc,concL]
    ·cases I
   ·cases I
  ·cases I
theorem Tx {t:TypeId}{x v:V}(h:Rel c σ w)(I:lenV P σ t x=some v)(ts:Array TypeId)(J:ts[0]?=some t)(ty:TypeId):
  (Builtin.len_ ts ty #[conc c x]).run P w=.ok (conc c v) w∧wf c v:=by
 unfold lenV at I
 generalize U:P.underlying t=dt at I
 split at I
 ·rename_i l
  simp only [au] at I; subst I
  have eX:(⟨(l.map UInt8.ofNat).toArray⟩:ByteArray).size=l.length:=by simp [ByteArray.size]
  exact ⟨by simp [Builtin.len_,J,run_underlying U,conc,goInt,eX],by simp [wf]⟩
 ·simp only [au] at I; subst I
  exact ⟨by simp [Builtin.len_,J,run_underlying U,conc,goInt],by simp [wf]⟩
 ·simp only [au] at I; subst I
  exact ⟨by simp [Builtin.len_,J,run_underlying U,conc,goInt],by simp [wf]⟩
 ·rename_i id off n cap
  simp only [au] at I; subst I
  obtain ⟨a,m,hs⟩:=rF c id off n cap
  rw [hs]
  exact ⟨by simp [Builtin.len_,J,run_underlying U,conc,goInt],by simp [wf]⟩
 ·simp only [au] at I; subst I
  exact ⟨by simp [Builtin.len_,J,run_underlying U,conc,goInt],by simp [wf]⟩
 ·simp only [au] at I; subst I
  exact ⟨by simp [Builtin.len_,J,run_underlying U,conc,goInt],by simp [wf]⟩
 ·rename_i id
  split at I
  ·rename_i es clock hg
   simp only [au] at I; subst I
   obtain ⟨hw,hb⟩:=h.obj id _ hg
   have sq:=ko (P:=P) hb (by simp)
   exact ⟨by simp [Builtin.len_,J,run_underlying U,conc,goInt,sq],by simp [wf]⟩
  ·simp at I
 ·simp at I
theorem Ty {x y v:V}(I:maxV x y=some v)(w:World): (Builtin.max2 (conc c x) (conc c y)).run P w=.ok (conc c v) w∧wf c v:=by
 unfold maxV at I
 split at I
 ·rename_i k a j b
  cases U:ikBeq k j with
  | false=>simp [U] at I
  | true =>
   have:=oW U
   subst this
   simp only [U,ag,au] at I
   subst I
   refine ⟨?_,by simp [wf]⟩
   by_cases J:b>a
   ·simp [Builtin.max2,conc,J]
   ·simp [Builtin.max2,conc,J]
 ·simp at I
theorem Tz {x y v:V}(I:BT x y=some v)(w:World): (Builtin.min2 (conc c x) (conc c y)).run P w=.ok (conc c v) w∧wf c v:=by
 unfold BT at I
 split at I
 ·rename_i k a j b
  cases U:ikBeq k j with
  | false=>simp [U] at I
  | true =>
   have:=oW U
   subst this
   simp only [U,ag,au] at I
   subst I
   refine ⟨?_,by simp [wf]⟩
   by_cases J:b<a
   ·simp [Builtin.min2,conc,J]
   ·simp [Builtin.min2,conc,J]
 ·simp at I
theorem GI (f:V→V→Option V)(g:Value→Value→Sem Value)(U:∀x y v,f x y=some v→(g (conc c x) (conc c y)).run P w=.ok (conc c v) w∧wf c v):
  ∀(l:List V) (x v:V),foldV f x l=some v→wf c x→((l.map (conc c)).foldlM g (conc c x)).run P w=.ok (conc c v) w∧wf c v:=by
 intro l
 induction l with
 | nil=>intro x v h J; simp [foldV] at h; subst h; exact ⟨by simp,J⟩
 | cons y l ih =>
  intro x v h J
  simp only [foldV] at h
  cases I:f x y with
  | none=>simp [I] at h
  | some z =>
   simp only [I] at h
   obtain ⟨h1,h2⟩:=U x y z I
   obtain ⟨h3,h4⟩:=ih z v h h2
   exact ⟨by simp [List.foldlM_cons,h1,h3],h4⟩
theorem Lf {x v:V}{xt t:TypeId}{ok:Bool}(I:assertV P x t ok=some v)(hx:wf c x)(w:World):
  (Instr.typeAssert (conc c x) xt t ok).run P w=.ok (conc c v) w∧wf c v:=by
 unfold assertV at I
 generalize U:P.underlying t=dt at I
 split at I
 ·simp at I
 ·rename_i d hd
  split at I
  ·rename_i u y
   cases J:Nat.beq u t with
   | true =>
    have:=beq_iff.1 J
    subst this
    simp only [J,ag,au] at I
    subst I
    have hy:wf c y:=by simpa [wf] using hx
    refine ⟨?_,by cases ok <;> simp [wf,fW,hy]⟩
    simp only [Instr.typeAssert,Sem.run_bind,run_underlying U,Result.andThen_ok,conc]
    cases d <;> first | exact absurd rfl (hd _) | (cases ok <;> simp [conc,concL])
   | false =>
    have gy:u≠t:=fun e=>by rw [g9 e] at J; cases J
    simp only [J,ay] at I
    split at I
    ·rename_i z hz
     simp only [au] at I
     subst I
     obtain ⟨z1,z2⟩:=ga hz c w
     refine ⟨?_,by simp [wf,fW,z2]⟩
     simp only [Instr.typeAssert,Sem.run_bind,run_underlying U,Result.andThen_ok,conc]
     cases d <;> first | exact absurd rfl (hd _) | simp [conc,concL,gy,z1]
    ·simp at I
  ·split at I
   ·rename_i z hz
    simp only [au] at I
    subst I
    obtain ⟨z1,z2⟩:=ga hz c w
    refine ⟨?_,by simp [wf,fW,z2]⟩
    simp only [Instr.typeAssert,Sem.run_bind,run_underlying U,Result.andThen_ok,conc]
    cases d <;> first | exact absurd rfl (hd _) | simp [conc,concL,z1]
   ·simp at I
  ·simp at I
 ·simp at I
end
end Go.Proofs.YtconhghphklfjaaGreat.Am
