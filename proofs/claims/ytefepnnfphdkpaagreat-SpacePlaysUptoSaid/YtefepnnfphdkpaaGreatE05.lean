/- SpacePlays: a part of its proof; conditions: its statement's. -/
import Derived.Test.YtefepnnfphdkpaaGreatE04
import Derived.Laws.StructEq
namespace Go.Proofs.YtefepnnfphdkpaaGreat.Am
open Go
section
variable {P:Program} {c:Ctx} {σ:H} {w:World}
theorem I_ : ∀(cs:List V) (l:List Nat),bytesOf cs=some l →
  ∃I:List Int,cs.map (conc c)=I.map (Value.int .u8)∧l=I.map (fun n=>n.toNat%256):=by
 intro cs
 induction cs with
 | nil=>intro l h; simp [bytesOf] at h; subst h; exact ⟨[],by simp,by simp⟩
 | cons x cs ih =>
  intro l h
  unfold bytesOf at h
  split at h
  ·simp at *
  ·rename_i n cs' he
   simp only [uS] at he
   obtain ⟨rfl,rfl⟩:=he
   cases J:bytesOf cs with
   | none=>simp [J] at h
   | some m =>
    simp [J] at h
    subst h
    obtain ⟨I,h1,h2⟩:=ih m J
    exact ⟨n::I,by simp [conc,h1],by simp [h2]⟩
  ·simp at h
theorem foldl_push_bytes : ∀(I:List Int) (s:ByteArray),(I.foldl (fun r n=>r.push (UInt8.ofNat n.toNat)) s)=⟨s.data++(I.map fun n=>UInt8.ofNat n.toNat).toArray⟩:=by
 intro I
 induction I with
 | nil=>intro s; apply rS; simp
 | cons n I J =>
  intro s
  rw [List.foldl_cons,J]
  apply rS
  simp [ByteArray.push]
theorem y6 {id off len m:Nat}{cap:Cap}{cs:List V}(h:Rel c σ w)(hw:wf c (.sl id off len cap))(hr:rdN σ id off m=some cs)(hm:len=0→m=0):
  ∃a n,conc c (.sl id off len cap)=.slice (some a) len n∧(loadCells a m).run P w=.ok (cs.map (conc c)).toArray w∧(m≠0→a=eX c id off) ∧
   (∀j x,(cs.map (conc c))[j]?=some x→w.cell? (a.add j)=some x):=by
 have hl:=Cw (P:=P) h hr
 have J:=sB h hr
 cases cap with
 | exact n=>exact ⟨eX c id off,n,by simp only [conc,eX],hl,fun _=>rfl,J.2.2⟩
 | rest I alt =>
  by_cases h3:c.room id off I=0
  ·have hlen:len=0:=by
    have:id<c.N∧1≤I∧len≤c.room id off I:=by simpa [wf] using hw
    omega
   have A4:=hm hlen
   subst A4
   have lI:cs=[]:=List.length_eq_zero_iff.1 J.1
   subst lI
   refine ⟨⟨(c.ρ id).1,(c.ρ id).2+(if c.room id off I=0 then alt else off),none⟩,c.room id off I,by simp only [conc],?_,fun hx=>absurd rfl hx,fun j x hx=>by simp at hx⟩
   simp [loadCells,loadCellsFrom]
  ·exact ⟨eX c id off,c.room id off I,by simp only [conc,h3,bG,eX],hl,fun _=>rfl,J.2.2⟩
theorem ofNat_mod (n:Nat): UInt8.ofNat (n%256)=UInt8.ofNat n:=by
 apply UInt8.toNat.inj
 simp [rJ]
theorem Ny {s d:TypeId}{x v:V}{eL:H}(h:Rel c σ w)(I:convV P σ s d x=some (v,eL)):
  wf c x→(convert s d (conc c x)).run P w=.ok (conc c v) w∧wf c v∧eL=σ:=by
 intro hx
 unfold convV at I
 generalize hs:P.underlying s=ds at I
 generalize hd:P.underlying d=dd at I
 split at I
 ·simp only [ak,aC] at I
  obtain ⟨rfl,rfl⟩:=I
  exact ⟨by simp [convert,run_underlying hs,run_underlying hd,conc,Conv.intToInt],by simp [wf],rfl⟩
 ·simp only [ak,aC] at I
  obtain ⟨rfl,rfl⟩:=I
  exact ⟨by simp [convert,run_underlying hs,run_underlying hd,conc],hx,rfl⟩
 ·generalize he:P.underlying _=de at I
  split at I
  ·simp only [ak,aC] at I
   obtain ⟨rfl,rfl⟩:=I
   refine ⟨?_,by simp [wf],rfl⟩
   simp only [conc,convert,Sem.run_bind,run_underlying hs,run_underlying hd,run_underlying he,Result.andThen_ok]
   simp [Conv.bytesToString]
   rfl
  ·simp at I
 ·generalize he:P.underlying _=de at I
  split at I
  ·simp only [ak,aC] at I
   obtain ⟨rfl,rfl⟩:=I
   refine ⟨?_,by simp [wf],rfl⟩
   simp only [conc,convert,Sem.run_bind,run_underlying hs,run_underlying hd,run_underlying he,Result.andThen_ok]
   simp [Conv.bytesToString]
   rfl
  ·simp at I
 ·rename_i e id off len cap
  generalize he:P.underlying e=de at I
  split at I
  ·cases J:rdN σ id off len with
   | none=>simp [J] at I
   | some cs =>
    cases hb:bytesOf cs with
    | none=>simp [J,hb] at I
    | some l =>
     simp [J,hb] at I
     obtain ⟨rfl,rfl⟩:=I
     obtain ⟨ns,h1,h2⟩:=I_ (c:=c) cs l hb
     obtain ⟨a,n,ha,hl,_,_⟩:=y6 (P:=P) h hx J (fun h=>h)
     rw [h1] at hl
     refine ⟨?_,?_,rfl⟩
     ·rw [ha,run_convert_bytes_string w s d e (some a) len n hs he hd,run_bytesToString w a len n ns hl,foldl_push_bytes]
      simp only [conc,h2,yU]
      congr 2
      apply rS
      simp [uM,ofNat_mod]
     ·simp only [wf,h2,m_]
      rintro x ⟨n,_,rfl⟩
      omega
  ·simp at I
 ·simp only [ak,aC] at I
  obtain ⟨rfl,rfl⟩:=I
  exact ⟨by simp [convert,run_underlying hs,run_underlying hd,conc,Conv.intToFloat],by simp [wf],rfl⟩
 ·rename_i k fk b
  cases J:Ieee.Datum.toInt Ieee.Toward.zero (fk.decode b) with
  | none=>rw [J] at I; cases I
  | some n =>
   rw [J] at I
   simp only at I
   cases hb:(decide (k.min≤n)&&decide (n≤k.max)) with
   | false=>rw [hb] at I; cases I
   | true =>
    rw [hb,ag] at I
    simp only [ak,aC] at I
    obtain ⟨rfl,rfl⟩:=I
    simp only [aJ,eu] at hb
    exact ⟨by simp [convert,run_underlying hs,run_underlying hd,conc,Conv.floatToInt,J,hb],by simp [wf],rfl⟩
 ·simp at I
theorem Ja {d:TypeId}{x v:V}(I:arrPtrV P d x=some v)(hx:wf c x)(w:World):
  (Instr.arrayAt d (conc c x)).run P w=.ok (conc c v) w∧wf c v:=by
 unfold arrPtrV at I
 split at I
 ·rename_i id off len cap
  generalize hd:P.underlying d=dd at I
  split at I
  ·rename_i n e
   cases hq:(Nat.ble n len&&Nat.ble 1 n) with
   | false=>simp [hq] at I
   | true =>
    simp only [hq,ag,ak] at I
    subst I
    simp only [aJ] at hq
    have q1:=aF.1 hq.1
    have q2:=aF.1 hq.2
    cases cap with
    | exact m =>
     have J:id<c.N∧len≤m:=by simpa [wf] using hx
     exact ⟨by simp [Instr.arrayAt,run_underlying hd,conc,Nat.not_lt.2 q1],by simpa [wf] using J.1⟩
    | rest gW alt =>
     have J:id<c.N∧1≤gW∧len≤c.room id off gW:=by simpa [wf] using hx
     have h3:c.room id off gW≠0:=by omega
     exact ⟨by simp [Instr.arrayAt,run_underlying hd,conc,Nat.not_lt.2 q1,h3],by simpa [wf] using J.1⟩
  ·simp at I
 ·simp at I
theorem Ea {t:TypeId}{x v:V}(I:makeIfaceV P t x=some v)(J:wf c x)(w:World):
  (Instr.makeInterface t (conc c x)).run P w=.ok (conc c v) w∧wf c v:=by
 unfold makeIfaceV at I
 generalize ht:P.underlying t=dt at I
 split at I
 ·simp at I
 ·rename_i d hd
  simp only [ak] at I
  subst I
  refine ⟨?_,by simpa [wf] using J⟩
  simp only [Instr.makeInterface,Sem.run_bind,run_underlying ht,Result.andThen_ok]
  simp [conc]
 ·simp at I
theorem vJ {t:TypeId}{cs:List V}{off:Nat}{v:V}(I:qZ P t cs off=some v)(hx:∀x∈cs,wf c x)(w:World):
  (part t ((cs.map (conc c)).toArray) off).run P w=.ok (conc c v) w∧wf c v:=by
 unfold qZ at I
 split at I
 ·rename_i J
  cases hk:bq P t with
  | none=>simp [hk] at I
  | some k =>
   simp [hk] at I
   subst I
   refine ⟨?_,?_⟩
   ·simp only [part,Sem.run_bind,q_ J,Result.andThen_ok,bE,cC hk,Sem.run_pure,conc,fL]
    congr 2
    simp [pN,pO]
   ·simp only [wf,fR]
    exact fun x hy=>hx x (iH (je hy))
 ·rename_i J
  rw [fG] at I
  refine ⟨?_,hx v (a_ I)⟩
  simp [part,q_ J,I]
 ·simp at I
theorem Ai {t:TypeId}{I:List Go.Field}(h:fieldsOf P t=some I): P.underlying t=some (.struct I.toArray):=by
 unfold fieldsOf at h
 split at h
 ·rename_i f J
  simp only [ak] at h
  subst h
  simpa using J
 ·simp at h
theorem Eb {t:TypeId}{x v:V}{i:Nat}(I:fieldAddrV P t x i=some v)(hx:wf c x)(w:World):
  (Instr.fieldAt t (conc c x) i).run P w=.ok (conc c v) w∧wf c v:=by
 unfold fieldAddrV at I
 split at I
 ·rename_i id off
  cases J:fieldsOf P t with
  | none=>simp [J] at I
  | some fs =>
   have hu:=Ai J
   simp only [J,fG] at I
   cases hi:fs[i]? with
   | none=>simp [hi] at I
   | some f =>
    simp only [hi] at I
    cases hk:bq P f.type with
    | none=>simp [hk] at I
    | some k =>
     simp only [hk] at I
     cases hq:Nat.ble 1 k with
     | false=>simp [hq] at I
     | true =>
      have q:=aF.1 hq
      simp only [hq,ag,ak] at I
      subst I
      refine ⟨?_,by simpa [wf] using hx⟩
      have Y8:k≠0:=by omega
      simp only [Instr.fieldAt,Sem.run_bind,run_underlying hu,Result.andThen_ok]
      simp [hi,conc,Instr.sureAddr,fieldPlace,cC hk,Y8,Addr.add_lit,jf]
 ·simp at I
theorem KN {t:TypeId}{x v:V}{i:Nat}(I:oL P t x i=some v)(hx:wf c x)(w:World):
  (Instr.field t (conc c x) i).run P w=.ok (conc c v) w∧wf c v:=by
 unfold oL at I
 split at I
 ·rename_i cs
  cases J:fieldsOf P t with
  | none=>simp [J] at I
  | some fs =>
   have hu:=Ai J
   simp only [J,fG] at I
   cases hi:fs[i]? with
   | none=>simp [hi] at I
   | some f =>
    simp only [hi] at I
    obtain ⟨h1,h2⟩:=vJ I (by simpa [wf,fR] using hx) w
    refine ⟨?_,h2⟩
    simp only [Instr.field,Sem.run_bind,run_underlying hu,Result.andThen_ok,conc,fL]
    simp [hi,asAgg,h1]
 ·simp at I
theorem Ec {t:TypeId}{x i v:V}(I:indexAddrV P t x i=some v)(hx:wf c x)(w:World):
  (Instr.indexAt t (conc c x) (conc c i)).run P w=.ok (conc c v) w∧wf c v:=by
 unfold indexAddrV at I
 split at I
 ·rename_i k n
  generalize ht:P.underlying t=dt at I
  split at I
  ·rename_i e id off len cap
   cases hk:bq P e with
   | none=>simp [hk] at I
   | some s =>
    simp only [hk] at I
    cases J:(decide (0≤n)&&decide (n<(len:Int))) with
    | false=>simp [J] at I
    | true =>
     simp only [J,ag,ak] at I
     subst I
     simp only [aJ,eu] at J
     have hlen:0<len:=by omega
     have key:∃m,conc c (.sl id off len cap)=.slice (some (eX c id off)) len m∧id<c.N:=by
      cases cap with
      | exact m =>
       have js:id<c.N∧len≤m:=by simpa [wf] using hx
       exact ⟨m,by simp only [conc,eX],js.1⟩
      | rest gW alt =>
       have js:id<c.N∧1≤gW∧len≤c.room id off gW:=by simpa [wf] using hx
       have h3:c.room id off gW≠0:=by omega
       exact ⟨c.room id off gW,by simp only [conc,eX,h3,bG],js.1⟩
     obtain ⟨m,h1,h2⟩:=key
     refine ⟨?_,by simpa [wf] using h2⟩
     rw [h1]
     simp [Instr.indexAt,asIntOf,conc,run_underlying ht,J,cC hk,r6]
     simp [eX]
  ·rename_i len e id off
   cases hk:bq P e with
   | none=>simp [hk] at I
   | some s =>
    simp only [hk] at I
    cases J:(decide (0≤n)&&decide (n<(len:Int))) with
    | false=>simp [J] at I
    | true =>
     simp only [J,ag,ak] at I
     subst I
     simp only [aJ,eu] at J
     refine ⟨?_,by simpa [wf] using hx⟩
     simp [Instr.indexAt,asIntOf,conc,run_underlying ht,J,cC hk,Instr.sureAddr,Addr.add_lit,jf]
  ·simp at I
 ·simp at I
theorem KO {t:TypeId}{x i v:V}(I:indexV P t x i=some v)(hx:wf c x)(w:World):
  (Instr.index t (conc c x) (conc c i)).run P w=.ok (conc c v) w∧wf c v:=by
 unfold indexV at I
 split at I
 ·rename_i k n
  generalize ht:P.underlying t=dt at I
  split at I
  ·rename_i len e cs
   cases hk:bq P e with
   | none=>simp [hk] at I
   | some s =>
    simp only [hk] at I
    cases J:(decide (0≤n)&&decide (n<(len:Int))) with
    | false=>simp [J] at I
    | true =>
     simp only [J,ag] at I
     simp only [aJ,eu] at J
     obtain ⟨h1,h2⟩:=vJ I (by simpa [wf,fR] using hx) w
     refine ⟨?_,h2⟩
     simp [Instr.index,asIntOf,conc,fL,run_underlying ht,J,cC hk,h1]
  ·rename_i l
   cases J:decide (0≤n) with
   | false=>simp [J] at I
   | true =>
    simp only [J,ag,fG] at I
    simp only [eu] at J
    cases hb:l[n.toNat]? with
    | none=>simp [hb] at I
    | some b =>
     simp [hb] at I
     subst I
     refine ⟨?_,by simp [wf]⟩
     have bC:b<256:=by
      have js:∀y∈l,y<256:=by simpa [wf] using hx
      exact js b (a_ hb)
     have ES:(⟨(l.map UInt8.ofNat).toArray⟩:ByteArray)[n.toNat]?=some (UInt8.ofNat b):=by
      have hl:n.toNat<l.length:=(List.getElem?_eq_some_iff.1 hb).1
      rw [ByteArray.getElem?_lt' _ _ (by simpa [ByteArray.size] using hl)]
      have he:=(List.getElem?_eq_some_iff.1 hb).2
      simp only [ByteArray.getElem_eq_getElem_data]
      simp [he]
     simp only [Instr.index,asIntOf,conc,Sem.run_bind,Sem.run_pure,Result.andThen_ok,run_underlying ht,J,bE,ES]
     simp [rJ,kY bC]
  ·simp at I
 ·simp at I
theorem Cx {x:V}{n:Nat}(h:bndV x=some n){y:Nat}(J:n≤y)(code:BoundsCode)(w:World): (Instr.sliceBound (conc c x) y code).run P w=.ok n w:=by
 unfold bndV at h
 split at h
 ·rename_i k i
  cases I:decide (0≤i) with
  | false=>simp [I] at h
  | true =>
   simp only [I,ag,ak] at h
   simp only [eu] at I
   subst h
   have:i≤(y:Int):=by omega
   simp [Instr.sliceBound,asIntOf,conc,I,this]
 ·simp at h
theorem rj {x:Option V}{b:Option Nat}(h:iN x=some b): (x=none∧b=none)∨∃v n,x=some v∧b=some n∧bndV v=some n:=by
 cases x with
 | none=>simp [iN] at h; exact .inl ⟨rfl,h.symm⟩
 | some v =>
  simp only [iN] at h
  cases I:bndV v with
  | none=>simp [I] at h
  | some n=>simp [I] at h; exact .inr ⟨v,n,rfl,h.symm,I⟩
theorem kq {lo hi mx:Option V}{a b m:Option Nat}(J:iN lo=some a)(h2:iN hi=some b)(h3:iN mx=some m)(I:Bool){len cap:Nat}
 (hb:m.isSome=true→b.isSome=true)(q1:a.getD 0≤b.getD len)(q2:b.getD len≤m.getD cap∨b=none∧m=none)(q3:m.getD cap≤cap)(w:World):
  (Instr.sliceBounds I len cap (lo.map (conc c)) (hi.map (conc c)) (mx.map (conc c))).run P w=.ok (a.getD 0,b.getD len,m.getD cap) w:=by
 rcases rj J with ⟨rfl,rfl⟩ | ⟨lv,ln,rfl,rfl,hl⟩ <;> rcases rj h2 with ⟨rfl,rfl⟩ | ⟨hv,hn,rfl,rfl,hh⟩ <;>
  rcases rj h3 with ⟨rfl,rfl⟩ | ⟨mv,mn,rfl,rfl,hm⟩
 all_goals simp only [ew,n4,Option.isSome_some,Option.isSome_none,dW,forall_const,reduceCtorEq,false_and,rW,or_true,and_self] at *
 all_goals simp only [Instr.sliceBounds,iI,ig,Sem.run_bind,Sem.run_pure,Result.andThen_ok]
 all_goals (try rw [Cx hm q3])
 all_goals (try simp only [Result.andThen_ok])
 all_goals (try rw [Cx hh (by first | exact q2 | omega)])
 all_goals (try simp only [Result.andThen_ok])
 all_goals (try rw [Cx hl q1])
 all_goals (try simp only [Result.andThen_ok])
theorem Ds {id off k:Nat}(h:Rel c σ w): jP σ id off k≤c.room id off k:=by
 unfold jP
 split
 ·rename_i n cs st I
  obtain ⟨_,_,C,e,fz,J,hle,_⟩:=h.obj id _ I
  have hz:=h.zz id (h.live id _ I)
  unfold Ctx.room
  rw [hz]
  unfold rowSize
  rw [J]
  exact Nat.div_le_div_right (by simp only; omega)
 ·exact gV _
theorem jt {t:TypeId}{d:TypeDesc}(I:P.underlying t=some d)(J:∀n e,d≠.array n e)(x:Value)(lo hi mx:Option Value)(w:World):
  (Instr.sliceAt t x lo hi mx).run P w=(Instr.slice t x lo hi mx).run P w:=by
 simp only [Instr.sliceAt,Sem.run_bind,run_underlying I,Result.andThen_ok]
 try (split <;> first | rfl | (rename_i n e; exact absurd rfl (J n e)))
theorem Nz (c:Ctx)(id off k a:Nat): c.room id (off+a*k) k=c.room id off k-a:=by
 unfold Ctx.room
 have:c.Z (c.ρ id).1-((c.ρ id).2+(off+a*k))=(c.Z (c.ρ id).1-((c.ρ id).2+off))-k*a:=by
  rw [rT k a]; omega
 rw [this,Nat.sub_mul_div]
theorem KP {t:TypeId}{x v:V}{lo hi mx:Option V}{a b m:Option Nat}(h:Rel c σ w)(h1:iN lo=some a)(h2:iN hi=some b)(h3:iN mx=some m)
 (I:sliceV P σ t x a b m=some v)(hx:wf c x):
  (Instr.sliceAt t (conc c x) (lo.map (conc c)) (hi.map (conc c)) (mx.map (conc c))).run P w=.ok (conc c v) w∧wf c v:=by
 have KQ:m=none→mx=none:=by
  intro e; rcases rj h3 with ⟨e1,_⟩ | ⟨_,_,_,e2,_⟩
  ·exact e1
  ·rw [e2] at e; simp at e
 unfold sliceV at I
 generalize ht:P.underlying t=dt at I
 split at I
 ·-- a string
  rename_i l
  split at I
  ·simp at I
  ·simp only at I
   cases J:(Nat.ble (a.getD 0) (b.getD l.length)&&Nat.ble (b.getD l.length) l.length) with
   | false=>simp [J] at I
   | true =>
    simp only [J,ag,ak] at I
    subst I
    simp only [aJ] at J
    have q1:=aF.1 J.1
    have q2:=aF.1 J.2
    have A5:=KQ rfl
    subst A5
    have fC:(⟨(l.map UInt8.ofNat).toArray⟩:ByteArray).size=l.length:=by simp [ByteArray.size]
    refine ⟨?_,?_⟩
    ·rw [jt ht (by simp)]
     have hb:=kq (P:=P) (c:=c) h1 h2 h3 false (len:=l.length) (cap:=l.length) (by simp) q1 (.inl q2) (aD _) w
     simp only [ig] at hb
     simp only [conc,Instr.slice,Sem.run_bind,run_underlying ht,Result.andThen_ok,ig,Option.isSome_none,dW,bG,Sem.run_pure,fC,hb]
     congr 2
     apply rS
     simp [ByteArray.data_extract,pN,pO,rQ]
    ·have js:∀y∈l,y<256:=by simpa [wf] using hx
     simp only [wf]
     exact fun y hy=>js y (je (iH hy))
 ·-- nil
  rename_i e
  split at I
  ·rename_i s hs
   cases J:(Nat.beq (b.getD 0) 0&&Nat.beq (a.getD 0) 0) with
   | false=>simp [J] at I
   | true =>
    simp only [J,ag,ak] at I
    subst I
    simp only [aJ] at J
    have q1:=beq_iff.1 J.1
    have q2:=beq_iff.1 J.2
    have A5:=KQ rfl
    subst A5
    refine ⟨?_,by simp [wf]⟩
    rw [jt ht (by simp)]
    have hb:=kq (P:=P) (c:=c) h1 h2 h3 true (len:=0) (cap:=0) (by simp) (by omega) (.inl (by simp; omega)) (aD _) w
    simp only [ig] at hb
    simp only [conc,Instr.slice,Sem.run_bind,run_underlying ht,Result.andThen_ok,ig,Sem.run_pure,hb,cC hs]
    simp [q1,q2]
  ·simp at I
 ·-- empty, somewhere
  split at I
  ·rename_i s hs
   cases J:(Nat.beq (b.getD 0) 0&&Nat.beq (a.getD 0) 0) with
   | false=>simp [J] at I
   | true =>
    simp only [J,ag,ak] at I
    subst I
    simp only [aJ] at J
    have q1:=beq_iff.1 J.1
    have q2:=beq_iff.1 J.2
    have A5:=KQ rfl
    subst A5
    refine ⟨?_,by simp [wf]⟩
    rw [jt ht (by simp)]
    have hb:=kq (P:=P) (c:=c) h1 h2 h3 true (len:=0) (cap:=0) (by simp) (by omega) (.inl (by simp; omega)) (aD _) w
    simp only [ig] at hb
    simp only [conc,Instr.slice,Sem.run_bind,run_underlying ht,Result.andThen_ok,ig,Sem.run_pure,hb,cC hs]
    simp [q1,q2]
  ·simp at I
 ·rename_i e id off len cap
  rw [jt ht (by simp)]
  split at I
  ·simp at I
  ·rename_i k hk
   split at I
   ·rename_i cc
    have js:id<c.N∧len≤cc:=by simpa [wf] using hx
    split at I
    ·rename_i mm bb
     simp only at I
     cases J:(Nat.ble (a.getD 0) bb&&Nat.ble bb mm&&Nat.ble mm cc) with
     | false=>simp [J] at I
     | true =>
      simp only [J,ag,ak] at I
      subst I
      simp only [aJ] at J
      have q1:=aF.1 J.1.1
      have q2:=aF.1 J.1.2
      have q3:=aF.1 J.2
      have hb:=kq (P:=P) (c:=c) h1 h2 h3 true (len:=len) (cap:=cc) (by simp) q1 (.inl q2) q3 w
      simp only [ew] at hb
      refine ⟨?_,by simp [wf,js.1]; omega⟩
      simp only [conc,Instr.slice,Sem.run_bind,run_underlying ht,Result.andThen_ok,hb,cC hk,Sem.run_pure]
      by_cases e1:mm=a.getD 0
      ·simp [e1]
      ·simp [e1,cH e1,Addr.add_lit,jf]
    ·simp at I
    ·simp only at I
     cases J:(Nat.ble (a.getD 0) (b.getD len)&&Nat.ble (b.getD len) cc) with
     | false=>simp [J] at I
     | true =>
      simp only [J,ag,ak] at I
      subst I
      simp only [aJ] at J
      have q1:=aF.1 J.1
      have q2:=aF.1 J.2
      have hb:=kq (P:=P) (c:=c) h1 h2 h3 true (len:=len) (cap:=cc) (by simp) q1 (.inl q2) (aD _) w
      simp only [n4] at hb
      refine ⟨?_,by simp [wf,js.1]; omega⟩
      simp only [conc,Instr.slice,Sem.run_bind,run_underlying ht,Result.andThen_ok,hb,cC hk,Sem.run_pure]
      by_cases e1:cc=a.getD 0
      ·simp [e1]
      ·simp [e1,cH e1,Addr.add_lit,jf]
   ·rename_i gW alt
    have js:id<c.N∧1≤gW∧len≤c.room id off gW:=by simpa [wf] using hx
    cases tK:(Nat.beq gW k&&Nat.ble 1 k) with
    | false=>simp [tK] at I
    | true =>
     simp only [tK,ag] at I
     simp only [aJ] at tK
     have e0:=beq_iff.1 tK.1
     subst e0
     have Ag:=js.2.1
     have ET:=Ds (id:=id) (off:=off) (k:=gW) h
     split at I
     ·rename_i mm bb
      cases J:(Nat.ble (a.getD 0) bb&&Nat.ble bb mm&&(Nat.ble mm len||Nat.ble mm (jP σ id off gW))&&Nat.blt 0 len) with
      | false=>simp [J] at I
      | true =>
       simp only [J,ag,ak] at I
       subst I
       simp only [aJ,mh,aF,gB] at J
       have q3:mm≤c.room id off gW:=by omega
       have hb:=kq (P:=P) (c:=c) h1 h2 h3 true (len:=len) (cap:=c.room id off gW) (by simp) J.1.1.1 (.inl J.1.1.2) q3 w
       simp only [ew] at hb
       refine ⟨?_,by simp [wf,js.1]; omega⟩
       have h4:c.room id off gW≠0:=by omega
       simp only [conc,Instr.slice,Sem.run_bind,run_underlying ht,Result.andThen_ok,hb,cC hk,Sem.run_pure,h4,bG]
       by_cases e1:mm=a.getD 0
       ·simp [e1]
       ·simp [e1,cH e1,Addr.add_lit,jf]
     ·simp at I
     ·cases J:(Nat.ble (a.getD 0) (b.getD len)&&(Nat.ble (b.getD len) len||Nat.ble (b.getD len) (jP σ id off gW))) with
      | false=>simp [J] at I
      | true =>
       simp only [J,ag,ak] at I
       subst I
       simp only [aJ,mh,aF] at J
       have q3:b.getD len≤c.room id off gW:=by omega
       have hb:=kq (P:=P) (c:=c) h1 h2 h3 true (len:=len) (cap:=c.room id off gW) (by simp) J.1 (.inl q3) (aD _) w
       simp only [n4] at hb
       have vK:=Nz c id off gW (a.getD 0)
       refine ⟨?_,by simp only [wf,vK]; exact ⟨js.1,Ag,by omega⟩⟩
       simp only [conc,Instr.slice,Sem.run_bind,run_underlying ht,Result.andThen_ok,hb,cC hk,Sem.run_pure,vK]
       by_cases ha:a.getD 0=0
       ·rw [ha]
        by_cases h4:c.room id off gW=0
        ·simp [h4]
        ·simp [h4,Addr.add_lit]
       ·have h4:c.room id off gW≠0:=by omega
        simp only [h4,bG,cH ha,ay]
        by_cases e1:c.room id off gW=a.getD 0
        ·have e2:Nat.blt (a.getD 0) (b.getD len)=false:=by
          cases Dt:Nat.blt (a.getD 0) (b.getD len) with
          | false=>rfl
          | true=>have:=gB.1 Dt; omega
         simp [e1,e2]
        ·have e3:¬ (c.room id off gW-a.getD 0=0):=by omega
         simp [e1,e3,Addr.add_lit,jf]
 ·rename_i ar id off
  rw [jt ht (by simp)]
  generalize Y9:P.underlying ar=da at I
  split at I
  ·rename_i n e
   split at I
   ·rename_i k hk
    simp only at I
    cases J:(Nat.ble (a.getD 0) (b.getD n)&&Nat.ble (b.getD n) n) with
    | false=>simp [J] at I
    | true =>
     simp only [J,ag,ak] at I
     subst I
     simp only [aJ,aF] at J
     have A5:=KQ rfl
     subst A5
     have hb:=kq (P:=P) (c:=c) h1 h2 h3 false (len:=n) (cap:=n) (by simp) J.1 (.inl J.2) (aD _) w
     simp only [ig,n4] at hb
     have js:id<c.N:=by simpa [wf] using hx
     refine ⟨?_,by simp [wf,js]; omega⟩
     simp only [conc,Instr.slice,Sem.run_bind,run_underlying ht,run_underlying Y9,Result.andThen_ok,hb,cC hk,Sem.run_pure,ig,asAddr]
     by_cases e1:n=a.getD 0
     ·simp [e1]
     ·simp [e1,cH e1,Addr.add_lit,jf]
   ·simp at I
  ·simp at I
 ·rename_i n e id off
  split at I
  ·rename_i k hk
   simp only at I
   cases J:(Nat.ble (a.getD 0) (b.getD n)&&Nat.ble (b.getD n) n) with
   | false=>simp [J] at I
   | true =>
    simp only [J,ag,ak] at I
    subst I
    simp only [aJ,aF] at J
    have A5:=KQ rfl
    subst A5
    have hb:=kq (P:=P) (c:=c) h1 h2 h3 false (len:=n) (cap:=n) (by simp) J.1 (.inl J.2) (aD _) w
    simp only [ig,n4] at hb
    have js:id<c.N:=by simpa [wf] using hx
    refine ⟨?_,by simp [wf,js]; omega⟩
    simp only [conc,Instr.sliceAt,Sem.run_bind,run_underlying ht,Result.andThen_ok,hb,cC hk,Sem.run_pure,ig,Instr.sureAddr]
    by_cases e1:n=a.getD 0
    ·simp [e1]
    ·simp [e1,cH e1,Addr.add_lit,jf]
  ·simp at I
 ·simp at I
theorem xg {a b:List Nat}(I:∀x∈a,x<256)(J:∀x∈b,x<256):
  ((⟨(a.map UInt8.ofNat).toArray⟩:ByteArray) == ⟨(b.map UInt8.ofNat).toArray⟩)=natsBeq a b:=by
 rw [ri,←bytes_beq a b I J,beq_toListBytes,ByteArray.toList_mk,ByteArray.toList_mk]
theorem KR {d:TypeDesc}{a b:V}{r:Bool}(h:keyBeq d a b=some r)(J:wf c a)(hb:wf c b): Instr.sameNow d (conc c a) (conc c b)=some r:=by
 unfold keyBeq at h
 split at h
 ·rename_i j x k y
  cases I:ikBeq j k with
  | false=>simp [I] at h
  | true =>
   have:=nP I
   subst this
   simp only [I,ag,ak,mO] at h
   simp [Instr.sameNow,conc,h]
 ·rename_i x y
  simp only [ak] at h
  simp only [Instr.sameNow,conc]
  rw [xg (by simpa [wf] using J) (by simpa [wf] using hb),h]
 ·simp at h
theorem GX {d:TypeDesc}{a b:V}{r:Bool}(h:keyBeq d a b=some r): (∃k,d=.int k)∨d=.string:=by
 unfold keyBeq at h
 split at h
 ·exact .inl ⟨_,rfl⟩
 ·exact .inr rfl
 ·simp at h
theorem iW {kt:TypeId}{d:TypeDesc}(I:P.underlying kt=some d){a b:V}{r:Bool}(h:keyBeq d a b=some r)(e:Bool)(n:Nat)(k:Value)(w:World):
  (Instr.checkKey e (n+1) kt k).run P w=.ok () w:=by
 rcases GX h with ⟨j,rfl⟩ | rfl
 ·simp [Instr.checkKey,run_underlying I]
 ·simp [Instr.checkKey,run_underlying I]
theorem vL {d:TypeDesc}{k:V}(hk:wf c k): ∀(es:List (V×V×Nat)) (i:Nat) (r:Option (Nat×V)),findK d k es i=some r→(∀x∈es,wf c x.1∧wf c x.2.1) →
  Instr.findNow d (conc c k) (es.map (bY c)) i=some (r.map fun x=>(x.1,conc c x.2))∧(∀x,r=some x→∃e,es[x.1-i]?=some e∧i≤x.1∧x.2=e.2.1∧keyBeq d k e.1=some true):=by
 intro es
 induction es with
 | nil=>intro i r h _; simp [findK] at h; subst h; simp [Instr.findNow]
 | cons e es ih =>
  intro i r h hw
  simp only [findK] at h
  cases I:keyBeq d k e.1 with
  | none=>simp [I] at h
  | some b =>
   have h1:=KR (c:=c) I hk (hw e (by simp)).1
   cases b with
   | true =>
    simp [I] at h
    subst h
    refine ⟨by simp [Instr.findNow,bY,h1],?_⟩
    rintro x ⟨rfl⟩
    exact ⟨e,by simp,aD _,rfl,I⟩
   | false =>
    simp [I] at h
    obtain ⟨h2,h3⟩:=ih (i+1) r h (fun x J=>hw x (by simp [J]))
    refine ⟨by simp [Instr.findNow,bY,h1]; exact h2,?_⟩
    intro x J
    obtain ⟨e',g1,g2,g3⟩:=h3 x J
    refine ⟨e',?_,by omega,g3⟩
    have:x.1-i=(x.1-(i+1))+1:=by omega
    rw [this]; simpa using g1
theorem kr {kt:TypeId}{d:TypeDesc}(I:P.underlying kt=some d){k:V}(J:wf c k){es:List (V×V×Nat)}{r:Option (Nat×V)}(h:findK d k es 0=some r)
 (hw:∀x∈es,wf c x.1∧wf c x.2.1)(w:World): (Instr.findKey kt (conc c k) (es.map (bY c))).run P w=.ok (r.map fun x=>(x.1,conc c x.2)) w:=by
 have:=(vL J es 0 r h hw).1
 simp [Instr.findKey,run_underlying I,this]
theorem Jb {t:TypeId}{x k v:V}{ok:Bool}(h:Rel c σ w)(I:lookupV P σ t x k ok=some v)(hx:wf c x)(hk:wf c k):
  (Instr.lookup t (conc c x) (conc c k) ok).run P w=.ok (conc c v) w∧wf c v:=by
 unfold lookupV at I
 generalize ht:P.underlying t=dt at I
 split at I
 ·rename_i kt et
  generalize hd:P.underlying kt=dk at I
  split at I
  ·rename_i d z hz
   obtain ⟨z1,z2⟩:=fM hz c w
   split at I
   ·split at I
    ·rename_i b hb
     simp only [ak] at I
     subst I
     refine ⟨?_,?_⟩
     ·simp only [Instr.lookup,Sem.run_bind,run_underlying ht,Result.andThen_ok,conc,Sem.run_pure]
      rw [iW hd hb]
      simp only [Result.andThen_ok]
      have:(Instr.findKey kt (conc c k) (#[]:Array MapEntry).toList).run P w=.ok none w:=by simp [Instr.findKey,run_underlying hd,Instr.findNow]
      rw [this]
      simp only [Result.andThen_ok,Sem.run_bind,z1,Sem.run_pure]
      cases ok <;> simp [conc,concL]
     ·cases ok <;> simp [wf,eW,z2]
    ·simp at I
   ·rename_i id
    split at I
    ·rename_i es clock hg
     obtain ⟨hw,hb⟩:=h.obj id _ hg
     have nD:=jz (P:=P) hb (by simp)
     split at I
     ·rename_i b i u J hf
      simp only [ak] at I
      subst I
      have sE:=kr (P:=P) hd hk hf hw w
      obtain ⟨e,g1,_,g3,_⟩:=(vL hk es 0 _ hf hw).2 (i,u) rfl
      have hu:wf c u:=by
       simp only at g3; rw [g3]; exact (hw e (a_ g1)).2
      refine ⟨?_,by cases ok <;> simp [wf,eW,hu]⟩
      simp only [Instr.lookup,Sem.run_bind,run_underlying ht,Result.andThen_ok,conc,Sem.run_pure,nD]
      rw [iW hd J]
      simp only [Result.andThen_ok,sE,iI]
      cases ok <;> simp [conc,concL]
     ·rename_i b J hf
      simp only [ak] at I
      subst I
      have sE:=kr (P:=P) hd hk hf hw w
      refine ⟨?_,by cases ok <;> simp [wf,eW,z2]⟩
      simp only [Instr.lookup,Sem.run_bind,run_underlying ht,Result.andThen_ok,conc,Sem.run_pure,nD]
      rw [iW hd J]
      simp only [Result.andThen_ok,sE,ig,Sem.run_bind,z1,Sem.run_pure]
      cases ok <;> simp [conc,concL]
     ·simp at I
    ·simp at I
   ·simp at I
  ·simp at I
 ·simp at I
theorem Jc {t:TypeId}{x k v:V}{ok:Bool}(h:Rel c σ w)(I:eB P σ t x k ok=some v)(hx:wf c x)(hk:wf c k):
  (Instr.lookup t (conc c x) (conc c k) ok).run P w=.ok (conc c v) w∧wf c v:=by
 unfold eB at I
 split at I
 ·rename_i u hu
  simp only [ak] at I
  subst I
  exact Jb h hu hx hk
 ·unfold lookupE at I
  generalize ht:P.underlying t=dt at I
  split at I
  ·rename_i kt et a b A6
   split at I
   ·rename_i n e z id hd hz
    obtain ⟨z1,z2⟩:=fM hz c w
    split at I
    ·rename_i m clock he fC WE hg
     cases hq:(Nat.beq n 2&&Nat.beq m 1) with
     | false=>rw [hq] at I; cases I
     | true =>
      rw [hq,ag] at I
      simp only [aJ,beq_iff] at hq
      obtain ⟨rfl,rfl⟩:=hq
      simp only [ak] at I
      subst I
      obtain ⟨hw,hb⟩:=h.obj id _ hg
      have nD:=jz (P:=P) hb (by simp)
      have p0:=vJ (P:=P) (c:=c) (t:=e) (cs:=[.str a,.str b]) (off:=0) (v:=.str a) (by simp [qZ,WE,nth]) (by intro y hy; have:=(fR.1 (by simpa [wf] using hk:eW c [V.str a,V.str b])); exact this y hy) w
      have p1:=vJ (P:=P) (c:=c) (t:=e) (cs:=[.str a,.str b]) (off:=1) (v:=.str b) (by simp [qZ,WE,nth,show Nat.beq 1 0=false from rfl]) (by intro y hy; have:=(fR.1 (by simpa [wf] using hk:eW c [V.str a,V.str b])); exact this y hy) w
      refine ⟨?_,by cases ok <;> simp [wf,eW,z2]⟩
      have eF:=cC fC w
      have XV:∀(J:Bool) (m:Nat) (u:List Nat),(Instr.checkKey J (m+1) e (conc c (.str u))).run P w=.ok () w:=fun J m u=>by
       simp [Instr.checkKey,run_underlying he,conc]
      have Vw:∀(J:Bool) (m:Nat),(Instr.checkKey J (m+1+1) kt (conc c (.agg [.str a,.str b]))).run P w=.ok () w:=fun J m=>by
       rw [show conc c (.agg [.str a,.str b])=.agg ([V.str a,V.str b].map (conc c)).toArray from by simp [conc,concL]]
       unfold Instr.checkKey
       simp only [Sem.run_bind,run_underlying hd,Result.andThen_ok]
       simp only [HN,Std.Legacy.Range.size,k9,Nat.add_one_sub_one,Nat.div_one]
       simp only [show List.range' 0 2 1=[0,1] from rfl,List.forIn_cons,List.forIn_nil,Sem.run_bind,eF,Result.andThen_ok,uU,yX,p0.1,p1.1,XV,Sem.run_pure]
      have NA:∀J,(Instr.checkKey J 10000 kt (conc c (.agg [.str a,.str b]))).run P w=.ok () w:=fun J=>Vw J 9998
      have Vx:(Instr.findKey kt (conc c (.agg [.str a,.str b])) (#[]:Array MapEntry).toList).run P w=.ok none w:=by simp [Instr.findKey,run_underlying hd,Instr.findNow]
      simp only [Instr.lookup,Sem.run_bind,run_underlying ht,Result.andThen_ok,Sem.run_pure]
      rw [show conc c (.map id)=.map (some (c.ρ id).1) from by simp [conc]]
      simp only [Sem.run_bind,nD,Result.andThen_ok,Sem.run_pure,List.map_nil,NA,Vx,z1]
      cases ok <;> simp [conc,concL]
    ·cases I
   ·cases I
  ·cases I
theorem Q7 {t:TypeId}{x v:V}(h:Rel c σ w)(I:lenV P σ t x=some v)(ts:Array TypeId)(J:ts[0]?=some t)(ty:TypeId):
  (Builtin.len_ ts ty #[conc c x]).run P w=.ok (conc c v) w∧wf c v:=by
 unfold lenV at I
 generalize ht:P.underlying t=dt at I
 split at I
 ·rename_i l
  simp only [ak] at I; subst I
  have fC:(⟨(l.map UInt8.ofNat).toArray⟩:ByteArray).size=l.length:=by simp [ByteArray.size]
  exact ⟨by simp [Builtin.len_,J,run_underlying ht,conc,goInt,fC],by simp [wf]⟩
 ·simp only [ak] at I; subst I
  exact ⟨by simp [Builtin.len_,J,run_underlying ht,conc,goInt],by simp [wf]⟩
 ·simp only [ak] at I; subst I
  exact ⟨by simp [Builtin.len_,J,run_underlying ht,conc,goInt],by simp [wf]⟩
 ·rename_i id off n cap
  simp only [ak] at I; subst I
  obtain ⟨a,m,hs⟩:=pQ c id off n cap
  rw [hs]
  exact ⟨by simp [Builtin.len_,J,run_underlying ht,conc,goInt],by simp [wf]⟩
 ·simp only [ak] at I; subst I
  exact ⟨by simp [Builtin.len_,J,run_underlying ht,conc,goInt],by simp [wf]⟩
 ·simp only [ak] at I; subst I
  exact ⟨by simp [Builtin.len_,J,run_underlying ht,conc,goInt],by simp [wf]⟩
 ·rename_i id
  split at I
  ·rename_i es clock hg
   simp only [ak] at I; subst I
   obtain ⟨hw,hb⟩:=h.obj id _ hg
   have nD:=jz (P:=P) hb (by simp)
   exact ⟨by simp [Builtin.len_,J,run_underlying ht,conc,goInt,nD],by simp [wf]⟩
  ·simp at I
 ·simp at I
theorem Q8 {x y v:V}(I:maxV x y=some v)(w:World): (Builtin.max2 (conc c x) (conc c y)).run P w=.ok (conc c v) w∧wf c v:=by
 unfold maxV at I
 split at I
 ·rename_i k a j b
  cases hq:ikBeq k j with
  | false=>simp [hq] at I
  | true =>
   have:=nP hq
   subst this
   simp only [hq,ag,ak] at I
   subst I
   refine ⟨?_,by simp [wf]⟩
   by_cases J:b>a
   ·simp [Builtin.max2,conc,J]
   ·simp [Builtin.max2,conc,J]
 ·simp at I
theorem Q9 {x y v:V}(I:wY x y=some v)(w:World): (Builtin.min2 (conc c x) (conc c y)).run P w=.ok (conc c v) w∧wf c v:=by
 unfold wY at I
 split at I
 ·rename_i k a j b
  cases hq:ikBeq k j with
  | false=>simp [hq] at I
  | true =>
   have:=nP hq
   subst this
   simp only [hq,ag,ak] at I
   subst I
   refine ⟨?_,by simp [wf]⟩
   by_cases J:b<a
   ·simp [Builtin.min2,conc,J]
   ·simp [Builtin.min2,conc,J]
 ·simp at I
theorem EU (f:V→V→Option V)(g:Value→Value→Sem Value)(hf:∀x y v,f x y=some v→(g (conc c x) (conc c y)).run P w=.ok (conc c v) w∧wf c v):
  ∀(l:List V) (x v:V),foldV f x l=some v→wf c x→((l.map (conc c)).foldlM g (conc c x)).run P w=.ok (conc c v) w∧wf c v:=by
 intro l
 induction l with
 | nil=>intro x v h J; simp [foldV] at h; subst h; exact ⟨by simp,J⟩
 | cons y l ih =>
  intro x v h J
  simp only [foldV] at h
  cases I:f x y with
  | none=>simp [I] at h
  | some z =>
   simp only [I] at h
   obtain ⟨h1,h2⟩:=hf x y z I
   obtain ⟨h3,h4⟩:=ih z v h h2
   exact ⟨by simp [List.foldlM_cons,h1,h3],h4⟩
theorem Jd {x v:V}{xt t:TypeId}{ok:Bool}(I:assertV P x t ok=some v)(hx:wf c x)(w:World):
  (Instr.typeAssert (conc c x) xt t ok).run P w=.ok (conc c v) w∧wf c v:=by
 unfold assertV at I
 generalize ht:P.underlying t=dt at I
 split at I
 ·simp at I
 ·rename_i d hd
  split at I
  ·rename_i u y
   cases J:Nat.beq u t with
   | true =>
    have:=beq_iff.1 J
    subst this
    simp only [J,ag,ak] at I
    subst I
    have hy:wf c y:=by simpa [wf] using hx
    refine ⟨?_,by cases ok <;> simp [wf,eW,hy]⟩
    simp only [Instr.typeAssert,Sem.run_bind,run_underlying ht,Result.andThen_ok,conc]
    cases d <;> first | exact absurd rfl (hd _) | (cases ok <;> simp [conc,concL])
   | false =>
    have dz:u≠t:=fun e=>by rw [iA e] at J; cases J
    simp only [J,ay] at I
    split at I
    ·rename_i z hz
     simp only [ak] at I
     subst I
     obtain ⟨z1,z2⟩:=fM hz c w
     refine ⟨?_,by simp [wf,eW,z2]⟩
     simp only [Instr.typeAssert,Sem.run_bind,run_underlying ht,Result.andThen_ok,conc]
     cases d <;> first | exact absurd rfl (hd _) | simp [conc,concL,dz,z1]
    ·simp at I
  ·split at I
   ·rename_i z hz
    simp only [ak] at I
    subst I
    obtain ⟨z1,z2⟩:=fM hz c w
    refine ⟨?_,by simp [wf,eW,z2]⟩
    simp only [Instr.typeAssert,Sem.run_bind,run_underlying ht,Result.andThen_ok,conc]
    cases d <;> first | exact absurd rfl (hd _) | simp [conc,concL,z1]
   ·simp at I
  ·simp at I
 ·simp at I
end
end Go.Proofs.YtefepnnfphdkpaaGreat.Am
