/- SpaceRoots: a part of its proof; conditions: its statement's. -/
import Derived.Test.YtefepnnfphdkpaaGreatF03
import Derived.Laws.BytesString
import Derived.Laws.Strings
import Derived.LaidEql
namespace Go.Proofs.YtefepnnfphdkpaaGreat.Am
open Go
section
variable {P:Program} {c:Ctx} {σ:H} {w:World}
theorem Qn {α β:Type}(f:α→Sem β)(g:α→Option β)(w:World)(hf:∀x y,g x=some y→(f x).run P w=.ok y w):
  ∀(l:List α) (m:List β),mapO g l=some m→(l.mapM f).run P w=.ok m w:=by
 intro l
 induction l with
 | nil=>intro m h; simp [mapO] at h; subst h; simp
 | cons x l ih =>
  intro m h
  simp only [mapO] at h
  cases I:g x with
  | none=>simp [I] at h
  | some y =>
   cases J:mapO g l with
   | none=>simp [I,J] at h
   | some m' =>
    simp [I,J] at h
    subst h
    simp [List.mapM_cons,hf x y I,ih m' J]
theorem Nk : ∀(xs:List Value) (k off:Nat) (cs:Array Value),off+k+xs.length≤cs.size →
  ((xs.zipIdx k).foldl (fun cs (x:Value×Nat)=>cs.setIfInBounds (off+x.2) x.1) cs).toList=cs.toList.take (off+k)++(xs++cs.toList.drop (off+k+xs.length)):=by
 intro xs
 induction xs with
 | nil=>intro k off cs _; simp
 | cons x xs I =>
  intro k off cs h
  simp only [aS] at h
  simp only [List.zipIdx_cons,List.foldl_cons]
  rw [I (k+1) off _ (by simp; omega)]
  simp only [Array.toList_setIfInBounds]
  have J:off+k<cs.toList.length:=by simp; omega
  rw [show off+(k+1)=(off+k)+1 from by omega]
  rw [List.take_succ_eq_append_getElem (by simpa using J)]
  simp only [List.getElem_set_self,List.take_set_of_le (aD _)]
  rw [List.drop_set_of_lt (by omega)]
  simp only [bS,fg,cZ,aS]
  congr 3
  congr 1
  omega
theorem AH (place:Nat→Option (Nat×Nat)): ∀(parts:List (Nat×V)) (cells out:List V),fillV place cells parts=some out →
  (∀v∈cells,wf c v)→(∀x∈parts,wf c x.2) →
  Instr.fill place (cells.map (conc c)).toArray (parts.map fun x=>(x.1,conc c x.2))=some (out.map (conc c)).toArray∧(∀v∈out,wf c v)∧out.length=cells.length:=by
 intro parts
 induction parts with
 | nil=>intro cells out h hw _; simp [fillV] at h; subst h; exact ⟨by simp [Instr.fill],hw,rfl⟩
 | cons x parts ih =>
  intro cells out h hw hp
  obtain ⟨i,v⟩:=x
  simp only [fillV] at h
  cases J:place i with
  | none=>simp [J] at h
  | some os =>
   obtain ⟨off,size⟩:=os
   simp only [J] at h
   cases hq:(Nat.beq v.cells.length size&&Nat.ble (off+v.cells.length) cells.length) with
   | false=>simp [hq] at h
   | true =>
    simp only [hq,ag] at h
    simp only [aO] at hq
    have h1:=beq_iff.1 hq.1
    have h2:=aJ.1 hq.2
    have hv:wf c v:=hp (i,v) (by simp)
    obtain ⟨e1,e2,e3⟩:=ih _ out h (by
     intro y I
     simp only [qK] at I
     rcases I with I | I | I
     ·exact hw y (gW I)
     ·exact jV hv y I
     ·exact hw y (iT I)) (fun y I=>hp y (by simp [I]))
    refine ⟨?_,e2,by rw [e3]; simp; omega⟩
    simp only [b6,Instr.fill,J]
    have eZ:(conc c v).cells.size=v.cells.length:=by rw [fT]; simp
    rw [ah (by rw [eZ]; simp; omega)]
    rw [←e1]
    congr 1
    apply ji
    have:=Nk (v.cells.map (conc c)) 0 off (cells.map (conc c)).toArray (by simp; omega)
    rw [←Array.foldl_toList,Array.toList_zipIdx,wW]
    simpa [qO,qP] using this
theorem wY {env:Env}{a:Act}: ∀(ps:List (Nat×Operand)) (l:List (Nat×V)),(∀x∈ps,∀v,evO env x.2=some v→a.eval x.2=conc c v∧wf c v)→evParts env ps=some l →
  (ps.map fun x=>(x.1,a.eval x.2))=(l.map fun x=>(x.1,conc c x.2))∧∀x∈l,wf c x.2:=by
 intro ps
 induction ps with
 | nil=>intro l _ h; simp [evParts] at h; subst h; simp
 | cons x ps ih =>
  intro l he h
  obtain ⟨i,o⟩:=x
  simp only [evParts] at h
  cases J:evO env o with
  | none=>simp [J] at h
  | some v =>
   cases hl:evParts env ps with
   | none=>simp [J,hl] at h
   | some m =>
    simp [J,hl] at h
    subst h
    have h1:=he (i,o) (by simp) v J
    have h2:=ih m (fun y I=>he y (by simp [I])) hl
    refine ⟨by simp [h1.1,h2.1],fun y I => ?_⟩
    rcases List.mem_cons.1 I with rfl | I
    ·exact h1.2
    ·exact h2.2 y I
theorem yD {env:Env}{a:Act}: ∀(ps:List Operand) (l:List V),(∀x∈ps,∀v,evO env x=some v→a.eval x=conc c v∧wf c v)→evArgs env ps=some l →
  ps.map a.eval=l.map (conc c)∧∀x∈l,wf c x:=by
 intro ps
 induction ps with
 | nil=>intro l _ h; simp [evArgs] at h; subst h; simp
 | cons o ps ih =>
  intro l he h
  simp only [evArgs] at h
  cases J:evO env o with
  | none=>simp [J] at h
  | some v =>
   cases hl:evArgs env ps with
   | none=>simp [J,hl] at h
   | some m =>
    simp [J,hl] at h
    subst h
    have h1:=he o (by simp) v J
    have h2:=ih m (fun y I=>he y (by simp [I])) hl
    refine ⟨by simp [h1.1,h2.1],fun y I => ?_⟩
    rcases List.mem_cons.1 I with rfl | I
    ·exact h1.2
    ·exact h2.2 y I
theorem Ji {I:Array Go.Field}{pl:List (Nat×Nat)}(h:Ej P I.toList=some pl)(w:World):
  (I.mapM fun f=>do pure (f.offset,←sizeOf f.type):Sem (Array (Nat×Nat))).run P w=.ok pl.toArray w:=by
 rw [Kk]
 simp only [Sem.run_map]
 rw [Qn (P:=P) _ (fun (f:Go.Field)=>match bH P f.type with
  | some k=>some (f.offset,k)
  | none=>none) w ?_ I.toList pl h]
 ·simp
 ·intro f y J
  cases hk:bH P f.type with
  | none=>simp [hk] at J
  | some k =>
   simp [hk] at J
   subst J
   simp [cW hk]
theorem Nl {t:TypeId}{l:List (Nat×V)}{v:V}(h:buildV P t l=some v)(hl:∀x∈l,wf c x.2)(w:World):
  (Instr.build t (l.map fun x=>(x.1,conc c x.2)).toArray).run P w=.ok (conc c v) w∧wf c v:=by
 unfold buildV at h
 split at h
 ·rename_i z hz
  obtain ⟨z1,z2⟩:=gD hz c w
  split at h
  ·rename_i fs hu
   cases J:Ej P fs.toList with
   | none=>simp [J] at h
   | some pl =>
    simp only [J] at h
    cases I:fillV (nth pl) z.cells l with
    | none=>simp [I] at h
    | some cs =>
     simp [I] at h
     subst h
     obtain ⟨f1,f2,_⟩:=AH (c:=c) (nth pl) l z.cells cs I (jV z2) hl
     have Cn:nth pl=fun i=>pl.toArray[i]?:=by funext i; simp [fF]
     refine ⟨?_,by simp only [wf,gK]; exact f2⟩
     simp only [Instr.build,Sem.run_bind,z1,Result.andThen_ok,run_underlying hu,Ji J,fT]
     rw [←Cn,f1]
     simp [conc,gC]
  ·rename_i n e hu
   split at h
   ·rename_i k hk
    cases I:fillV (fun i=>some (i*k,k)) z.cells l with
    | none=>simp [I] at h
    | some cs =>
     simp [I] at h
     subst h
     obtain ⟨f1,f2,_⟩:=AH (c:=c) (fun i=>some (i*k,k)) l z.cells cs I (jV z2) hl
     refine ⟨?_,by simp only [wf,gK]; exact f2⟩
     simp only [Instr.build,Sem.run_bind,z1,Result.andThen_ok,run_underlying hu,cW hk,fT]
     rw [f1]
     simp [conc,gC]
   ·simp at h
  ·simp at h
 ·simp at h
theorem nu (a b:Int): intBeq a b=(a == b):=by
 rw [Ed,beq_iff_eq]
 cases a <;> cases b <;> simp only [intBeq,beq_iff,Int.negSucc.injEq,reduceCtorEq,dY,Int.ofNat_eq_natCast]
 all_goals omega
theorem oN {j k:IntKind}(h:ikBeq j k=true): j=k:=by cases j <;> cases k <;> simp_all [ikBeq]
theorem Jj (n:Nat)(x:Int): (BitVec.ofInt n x).toNat=(x%(2^n:Int)).toNat:=by
 rw [BitVec.toNat_ofInt]
 norm_cast
theorem tP {op:BinOp}{k:IntKind}{x y:Int}{v:V}(h:bitsV op k x y=some v)(w:World):
  (Op.intBits op k x y).run P w=.ok (conc c v) w∧wf c v:=by
 unfold bitsV at h
 simp only at h
 cases op <;> simp only [aq,reduceCtorEq] at h
 all_goals subst h
 all_goals refine ⟨?_,by simp [wf]⟩
 all_goals simp only [Op.intBits,Sem.run_pure,conc,BitVec.toNat_and,BitVec.toNat_or,BitVec.toNat_xor,BitVec.toNat_not,Jj]
 all_goals rfl
theorem T1 {op:BinOp}{k:IntKind}{x y:Int}{v:V}(h:intV op k x y=some v)(h1:op≠.shl)(h2:op≠.shr)(t:TypeId)(w:World):
  (binOp op t (.int k x) (.int k y)).run P w=.ok (conc c v) w∧wf c v:=by
 cases op <;> simp only [intV,aq,reduceCtorEq] at h
 case and=>have:=tP (P:=P) (c:=c) h w; simpa [binOp] using this
 case or=>have:=tP (P:=P) (c:=c) h w; simpa [binOp] using this
 case xor=>have:=tP (P:=P) (c:=c) h w; simpa [binOp] using this
 case andNot=>have:=tP (P:=P) (c:=c) h w; simpa [binOp] using this
 case quo =>
  rw [nu] at h
  by_cases I:y=0
  ·subst I; simp at h
  ·have J:(y == 0)=false:=by simpa using I
   rw [J,az,aq] at h
   subst h
   exact ⟨by simp [binOp,Op.intDiv,I,conc],by simp [wf]⟩
 case rem =>
  rw [nu] at h
  by_cases I:y=0
  ·subst I; simp at h
  ·have J:(y == 0)=false:=by simpa using I
   rw [J,az,aq] at h
   subst h
   exact ⟨by simp [binOp,Op.intDiv,I,conc],by simp [wf]⟩
 all_goals subst h
 all_goals refine ⟨?_,by simp [wf]⟩
 all_goals simp [binOp,Op.intArith,Op.intCmp,conc,nu]
 all_goals rfl
theorem Fb {op:BinOp}{k j:IntKind}{x y:Int}{v:V}(h:shiftV op k x y=some v)(t:TypeId)(w:World)(ho:op=.shl∨op=.shr):
  (binOp op t (.int k x) (.int j y)).run P w=.ok (conc c v) w∧wf c v:=by
 unfold shiftV at h
 by_cases I:y<0
 ·simp [I] at h
 ·simp only [I,o6,az] at h
  rcases ho with rfl | rfl
  ·simp only [aq] at h
   subst h
   exact ⟨by simp [binOp,Op.shift,I,conc],by simp [wf]⟩
  ·simp only [aq] at h
   subst h
   exact ⟨by simp [binOp,Op.shift,I,conc],by simp [wf]⟩
theorem sG : ∀(a b:List Nat),natsBeq a b=(a == b):=by
 intro a
 induction a with
 | nil=>intro b; cases b <;> rfl
 | cons x a I =>
  intro b
  cases b with
  | nil=>rfl
  | cons y b =>
   simp only [natsBeq,I]
   by_cases h:x=y
   ·subst h; simp
   ·simp [dc h,h]
theorem ofNat_inj {a b:Nat}(I:a<256)(J:b<256): (UInt8.ofNat a=UInt8.ofNat b)↔a=b:=by
 constructor
 ·intro h
  have:=gy UInt8.toNat h
  simpa [sV,gY I,gY J] using this
 ·intro h; rw [h]
theorem bytes_beq : ∀(a b:List Nat),(∀x∈a,x<256)→(∀x∈b,x<256)→((a.map UInt8.ofNat == b.map UInt8.ofNat)=(a == b)):=by
 intro a
 induction a with
 | nil=>intro b _ _; cases b <;> rfl
 | cons x a ih =>
  intro b J hb
  cases b with
  | nil=>rfl
  | cons y b =>
   have h1:=ih b (fun z I=>J z (by simp [I])) (fun z I=>hb z (by simp [I]))
   have h2:=ofNat_inj (J x (by simp)) (hb y (by simp))
   simp only [b6,List.cons_beq_cons,h1]
   congr 1
   rw [Ed]
   simp [h2]
theorem Qo : ∀(a b:List Nat),(∀x∈a,x<256)→(∀x∈b,x<256)→lessL a b=Op.bytesLess (a.map UInt8.ofNat) (b.map UInt8.ofNat):=by
 intro a
 induction a with
 | nil=>intro b _ _; cases b <;> rfl
 | cons x a ih =>
  intro b ha J
  cases b with
  | nil=>rfl
  | cons y b =>
   have h1:=ih b (fun z hz=>ha z (by simp [hz])) (fun z hz=>J z (by simp [hz]))
   have hx:=ha x (by simp)
   have hy:=J y (by simp)
   simp only [lessL,b6,Op.bytesLess,h1]
   have I:(UInt8.ofNat x<UInt8.ofNat y)↔x<y:=by
    rw [UInt8.lt_iff_toNat_lt]
    simp [sV,gY hx,gY hy]
   by_cases h3:x<y
   ·simp [gJ.2 h3,I.2 h3]
   ·have GX:Nat.blt x y=false:=by
     cases J:Nat.blt x y with
     | false=>rfl
     | true=>exact absurd (gJ.1 J) h3
    have h4:¬ (UInt8.ofNat x<UInt8.ofNat y):=fun e=>h3 (I.1 e)
    simp only [GX,az,h4,o6,vW]
    by_cases h5:x=y
    ·subst h5; simp
    ·have h6:UInt8.ofNat x≠UInt8.ofNat y:=fun e=>h5 ((ofNat_inj hx hy).1 e)
     simp [dc h5,h6]
theorem T2 {op:BinOp}{a b:List Nat}{v:V}(h:strV op a b=some v)(I:∀x∈a,x<256)(J:∀x∈b,x<256)(t:TypeId)(w:World):
  (binOp op t (conc c (.str a)) (conc c (.str b))).run P w=.ok (conc c v) w∧wf c v:=by
 have e1:=bytes_beq a b I J
 have e2:=Qo a b I J
 cases op <;> simp only [strV,aq,reduceCtorEq] at h
 case add =>
  cases hq:Nat.ble (a.length+b.length) 4611686018427387904 with
  | false=>simp [hq] at h
  | true =>
   have hle:=aJ.1 hq
   simp only [hq,ag,aq] at h
   subst h
   refine ⟨?_,?_⟩
   ·simp only [conc,binOp]
    have eZ:¬ (((ByteArray.size ⟨(a.map UInt8.ofNat).toArray⟩+ByteArray.size ⟨(b.map UInt8.ofNat).toArray⟩:Nat):Int)>IntKind.i64.max):=by
     simp [ByteArray.size]; omega
    simp only [Op.stringOp]
    rw [ah eZ]
    simp only [Sem.run_pure]
    congr 2
    apply s_
    simp
   ·simp only [wf,qK]
    rintro x (hx | hx)
    ·exact I x hx
    ·exact J x hx
 all_goals subst h
 all_goals refine ⟨?_,by simp [wf]⟩
 all_goals simp only [conc,binOp,Op.stringOp,ByteArray.toList_mk,Sem.run_pure,e1,e2,sG]
end
section
variable {P:Program} {c:Ctx} {σ:H} {w:World}
theorem yE {e:TypeId}{k:IntKind}(he:P.underlying e=some (.int k))(X:Array Value)(i:Nat)(v:Value)(hv:X[i]?=some v)(w:World):
  (part e X i).run P w=.ok v w:=by
 simp [part,isAgg,run_underlying he,hv]
theorem GY {k:IntKind}{xs I:List V}{r:Bool}(h:intsBeq k xs I=some r):
  (∀x∈xs,∃n,x=.int k n)∧(∀y∈I,∃n,y=.int k n)∧xs.length=I.length:=by
 induction xs generalizing I r with
 | nil=>cases I <;> simp_all [intsBeq]
 | cons x xs ih =>
  cases I with
  | nil=>cases x <;> simp [intsBeq] at h
  | cons y I =>
   cases x <;> cases y <;> simp only [intsBeq,reduceCtorEq] at h
   rename_i j a j' b
   cases hq:(ikBeq j k&&ikBeq j' k) with
   | false=>simp [hq] at h
   | true =>
    simp only [hq,ag] at h
    simp only [aO] at hq
    have h1:=(oN hq.1).symm
    have h2:=(oN hq.2).symm
    subst h1; subst h2
    have:∃r',intsBeq k xs I=some r':=by
     cases hb:intBeq a b with
     | true=>rw [hb] at h; exact ⟨r,h⟩
     | false =>
      rw [hb] at h
      cases J:intsBeq k xs I with
      | none=>simp [J] at h
      | some r'=>exact ⟨r',rfl⟩
    obtain ⟨r',GZ⟩:=this
    obtain ⟨i1,i2,i3⟩:=ih GZ
    refine ⟨?_,?_,by simp [i3]⟩
    ·intro x J
     rcases List.mem_cons.1 J with rfl | J
     ·exact ⟨a,rfl⟩
     ·exact i1 x J
    ·intro x J
     rcases List.mem_cons.1 J with rfl | J
     ·exact ⟨b,rfl⟩
     ·exact i2 x J
theorem T3 {e:TypeId}{k:IntKind}(he:P.underlying e=some (.int k))(d:Nat)(w:World): ∀(xs ys:List V) (pre I:List V) (r:Bool),intsBeq k xs ys=some r →
  pre.length=I.length →
  (forIn (List.range' pre.length xs.length) ((none,()):Option Bool×PUnit) (fun i (_:Option Bool×PUnit)=>do
   let a ← part e ((pre++xs).map (conc c)).toArray (i*1)
   let b ← part e ((I++ys).map (conc c)).toArray (i*1)
   let q ← Op.equalIn (d+1) e a b
   if (!q)=true then pure (ForInStep.done (some false,())) else pure (ForInStep.yield (none,()))):Sem (Option Bool×PUnit)).run P w =
   .ok (if r then (none,()) else (some false,())) w:=by
 intro xs
 induction xs with
 | nil =>
  intro ys pre I r h hp
  cases ys with
  | nil=>simp [intsBeq] at h; subst h; simp
  | cons y ys=>simp [intsBeq] at h
 | cons x xs ih =>
  intro ys pre I r h hp
  obtain ⟨h1,h2,h3⟩:=GY h
  cases ys with
  | nil=>simp at h3
  | cons y ys =>
   obtain ⟨a,rfl⟩:=h1 x (by simp)
   obtain ⟨b,rfl⟩:=h2 y (by simp)
   have g1:((pre++V.int k a::xs).map (conc c)).toArray[pre.length*1]?=some (.int k a):=by simp [conc]
   have g2:((I++V.int k b::ys).map (conc c)).toArray[pre.length*1]?=some (.int k b):=by rw [hp]; simp [conc]
   have g3:(Op.equalIn (d+1) e (.int k a) (.int k b)).run P w=.ok (a == b) w:=by simp [Op.equalIn,run_underlying he]
   simp only [aS,Ay,List.forIn_cons,Sem.run_bind,yE he _ _ _ g1,yE he _ _ _ g2,Result.andThen_ok,g3]
   have hk:ikBeq k k=true:=by cases k <;> rfl
   simp only [intsBeq,hk,iu,ag,nu] at h
   by_cases mL:a=b
   ·have J:(a == b)=true:=by simpa using mL
    simp only [J,ag] at h
    simp only [J,Bool.not_true,dY,bN,Sem.run_pure,Result.andThen_ok]
    have:=ih ys (pre++[.int k a]) (I++[.int k b]) r h (by simp [hp])
    simpa using this
   ·have J:(a == b)=false:=by simpa using mL
    simp only [J,az] at h
    simp only [J,Ei,bO,Sem.run_pure,Result.andThen_ok]
    cases hx:intsBeq k xs ys with
    | none=>simp [hx] at h
    | some r'=>simp [hx] at h; subst h; simp
theorem Qp (d:Nat){t e:TypeId}{n:Nat}{k:IntKind}{xs I:List V}{r:Bool}(J:P.underlying t=some (.array n e))(he:P.underlying e=some (.int k))
 (hs:bH P e=some 1)(hn:xs.length=n)(h:intsBeq k xs I=some r)(w:World):
  (Op.equalIn (d+1+1) t (conc c (.agg xs)) (conc c (.agg I))).run P w=.ok r w:=by
 have:=T3 (c:=c) he d w xs I [] [] r h rfl
 generalize d+1=D at this ⊢
 simp only [conc,gC,Op.equalIn,Sem.run_bind,run_underlying J,Result.andThen_ok,cW hs]
 rw [Kf]
 simp only [bT,cZ] at this
 simp only [Std.Legacy.Range.size,kf,sU,Nat.div_one,←hn]
 rw [this]
 cases r <;> simp
theorem G0 {t:TypeId}{xs J:List V}{r:Bool}(h:eqArr P t xs J=some r)(w:World):
  (Op.equal t (conc c (.agg xs)) (conc c (.agg J))).run P w=.ok r w∧P.eqGuardType P.depth t=false:=by
 unfold eqArr at h
 split at h
 ·rename_i n e ht
  split at h
  ·rename_i k he
   split at h
   ·rename_i s hs
    cases I:(Nat.beq s 1&&Nat.beq xs.length n&&Nat.beq J.length n) with
    | false=>simp [I] at h
    | true =>
     simp only [I,ag] at h
     simp only [aO] at I
     have q1:=beq_iff.1 I.1.1
     have q2:=beq_iff.1 I.1.2
     have q3:=beq_iff.1 I.2
     subst q1
     constructor
     ·exact Qp 9998 ht he hs q2 h w
     ·have hd:P.depth=(2*(P.types.size+Made.depth))+1+1:=by simp [Program.depth]
      rw [hd]
      simp [Program.eqGuardType,ht,he]
   ·simp at h
  ·simp at h
 ·simp at h
theorem T4 {id I off off':Nat}{o o':Obj}(h:Rel c σ w)(J:σ.tr.get id=some o)(h2:σ.tr.get I=some o')(hX:c.X I=false):
  fG c id off=fG c I off'↔id=I∧off=off':=by
 constructor
 ·intro e
  simp only [fG,Addr.mk.injEq] at e
  have:=h.wV J h2 e.1 hX
  subst this
  exact ⟨rfl,by omega⟩
 ·rintro ⟨rfl,rfl⟩; rfl
theorem Co (d:Nat){t e:TypeId}{k:Nat}(I:P.underlying t=some (.pointer e))(J:bH P e=some k)(h1:k≠0)(a b:Addr)(w:World):
  (Op.equalIn (d+1) t (.pointer (some a)) (.pointer (some b))).run P w=(sameAddr a b).run P w:=by
 simp [Op.equalIn,run_underlying I,cW J,h1]
theorem qV (c:Ctx)(id off len:Nat)(cap:Cap): ∃a n,conc c (.sl id off len cap)=.slice (some a) len n:=by
 cases cap <;> simp only [conc] <;> exact ⟨_,_,rfl⟩
theorem VN (d:Nat){t:TypeId}{x y:V}{r:Bool}(h:Rel c σ w)(I:eqV P σ t x y=some r):
  (Op.equalIn (d+1) t (conc c x) (conc c y)).run P w=.ok r w ∧
  (∀op J oy,eqGuard op t J oy (conc c x) (conc c y)=pure ()) ∧
  (binOp .eql t (conc c x) (conc c y)=(do pure (.bool (← Op.equal t (conc c x) (conc c y)))) ∧
   binOp .neq t (conc c x) (conc c y)=(do pure (.bool (!(← Op.equal t (conc c x) (conc c y)))))):=by
 unfold eqV at I
 generalize ht:P.underlying t=du at I
 split at I
 case h_1 =>
  simp only [aq] at I; subst I
  exact ⟨by simp [Op.equalIn,run_underlying ht,conc],fun op J oy=>by simp only [conc]; exact eqGuard_at_bool ..,⟨by simp [binOp,conc],by simp [binOp,conc]⟩⟩
 case h_2 =>
  simp only [aq] at I; subst I
  exact ⟨by simp [Op.equalIn,run_underlying ht,conc],fun op J oy=>by simp only [conc]; exact eqGuard_at_pointer ..,⟨by simp [binOp,conc],by simp [binOp,conc]⟩⟩
 case h_3 =>
  simp only [aq] at I; subst I
  exact ⟨by simp [Op.equalIn,run_underlying ht,conc],fun op J oy=>by simp only [conc]; exact eqGuard_at_pointer ..,⟨by simp [binOp,conc],by simp [binOp,conc]⟩⟩
 case h_4 =>
  simp only [aq] at I; subst I
  exact ⟨by simp [Op.equalIn,run_underlying ht,conc],fun op J oy=>by simp only [conc]; exact eqGuard_at_pointer ..,⟨by simp [binOp,conc],by simp [binOp,conc]⟩⟩
 case h_5 _ _ _ i o j o' =>
  refine ⟨?_,fun op J oy=>by simp only [conc]; exact eqGuard_at_pointer ..,⟨by simp [binOp,conc],by simp [binOp,conc]⟩⟩
  split at I
  ·rename_i k hk
   cases hq:Nat.ble 1 k with
   | false=>simp [hq] at I
   | true =>
    have Bq:=aJ.1 hq
    simp only [hq,ag] at I
    split at I
    ·rename_i n cs m cs' g1 g2
     cases iF:(Nat.ble 1 n&&Nat.ble 1 m) with
     | false=>simp [iF] at I
     | true =>
      simp only [iF,ag,aq] at I
      subst I
      have e1:conc c (.ptr i o)=.pointer (some (fG c i o)):=by simp [conc,fG]
      have e2:conc c (.ptr j o')=.pointer (some (fG c j o')):=by simp [conc,fG]
      rw [e1,e2,Co d ht hk (by omega)]
      obtain ⟨_,_,C,el,fz,hb,_,_,wj⟩:=h.obj i _ g1
      obtain ⟨_,_,C',el',qv,pS,_,_,Lw⟩:=h.obj j _ g2
      simp only [FzOk] at wj Lw
      subst wj; subst Lw
      have iff:=T4 (off:=o) (off':=o') h g1 g2 (h.yz g2 (by intro _ _ he; cases he))
      by_cases tQ:i=j∧o=o'
      ·obtain ⟨rfl,rfl⟩:=tQ
       rw [run_sameAddr_same]; simp
      ·rw [run_sameAddr_other w (fun e=>tQ (iff.1 e)) hb pS]
       congr 1
       symm
       rw [Bool.eq_false_iff]
       simp only [mY,aO,beq_iff]
       exact tQ
    ·simp at I
  ·simp at I
 case h_6 =>
  simp only [aq] at I; subst I
  exact ⟨by simp [Op.equalIn,run_underlying ht,conc],fun op J oy=>by simp only [conc]; exact eqGuard_nil_iface ..,⟨by simp [binOp,conc],by simp [binOp,conc]⟩⟩
 case h_7 =>
  simp only [aq] at I; subst I
  exact ⟨by simp [Op.equalIn,run_underlying ht,conc],fun op J oy=>by simp only [conc]; exact eqGuard_at_iface ..,⟨by simp [binOp,conc],by simp [binOp,conc]⟩⟩
 case h_8 =>
  simp only [aq] at I; subst I
  exact ⟨by simp [Op.equalIn,run_underlying ht,conc],fun op J oy=>by simp only [conc]; exact eqGuard_at_slice ..,⟨by simp [binOp,conc],by simp [binOp,conc]⟩⟩
 case h_9 _ _ i o n cap =>
  obtain ⟨a,m,hs⟩:=qV c i o n cap
  simp only [aq] at I; subst I
  rw [hs]
  exact ⟨by simp [Op.equalIn,run_underlying ht,conc],fun op J oy=>by simp only [conc]; exact eqGuard_at_slice ..,⟨by simp [binOp,conc],by simp [binOp,conc]⟩⟩
 case h_10 _ _ i o n cap =>
  obtain ⟨a,m,hs⟩:=qV c i o n cap
  simp only [aq] at I; subst I
  rw [hs]
  exact ⟨by simp [Op.equalIn,run_underlying ht,conc],fun op J oy=>by exact eqGuard_at_slice ..,⟨by simp [binOp,conc],by simp [binOp,conc]⟩⟩
 case h_11 =>
  simp only [aq] at I; subst I
  exact ⟨by simp [Op.equalIn,run_underlying ht,conc],fun op J oy=>by simp only [conc]; exact eqGuard_at_slice ..,⟨by simp [binOp,conc],by simp [binOp,conc]⟩⟩
 case h_12 =>
  simp only [aq] at I; subst I
  exact ⟨by simp [Op.equalIn,run_underlying ht,conc],fun op J oy=>by simp only [conc]; exact eqGuard_at_slice ..,⟨by simp [binOp,conc],by simp [binOp,conc]⟩⟩
 case h_13 =>
  simp only [aq] at I; subst I
  exact ⟨by simp [Op.equalIn,run_underlying ht,conc],fun op J oy=>by simp only [conc]; exact eqGuard_at_map ..,⟨by simp [binOp,conc],by simp [binOp,conc]⟩⟩
 case h_14 =>
  simp only [aq] at I; subst I
  exact ⟨by simp [Op.equalIn,run_underlying ht,conc],fun op J oy=>by simp only [conc]; exact eqGuard_at_map ..,⟨by simp [binOp,conc],by simp [binOp,conc]⟩⟩
 case h_15 =>
  simp only [aq] at I; subst I
  exact ⟨by simp [Op.equalIn,run_underlying ht,conc],fun op J oy=>by simp only [conc]; exact eqGuard_at_map ..,⟨by simp [binOp,conc],by simp [binOp,conc]⟩⟩
 case h_16=>simp at I
theorem Nm {t:TypeId}{x y:V}{r:Bool}(h:Rel c σ w)(hr:eqV P σ t x y=some r)(J oy:Operand):
  ((do eqGuard .eql t J oy (conc c x) (conc c y); binOp .eql t (conc c x) (conc c y)):Sem Value).run P w=.ok (.bool r) w ∧
  ((do eqGuard .neq t J oy (conc c x) (conc c y); binOp .neq t (conc c x) (conc c y)):Sem Value).run P w=.ok (.bool (!r)) w:=by
 obtain ⟨h1,h2,h3⟩:=VN 9999 h hr
 have I:(Op.equal t (conc c x) (conc c y)).run P w=.ok r w:=h1
 rw [h2,h2,h3.1,h3.2]
 simp [I]
theorem yh {x:Operand}(h:isNilConst x=true): x=.const .nilIface:=by
 unfold isNilConst at h
 split at h
 ·rfl
 ·simp at h
theorem yj {t:TypeId}{ms:Array (String×TypeId)}(I:P.underlying t=some (.interface ms))(w:World): (Op.equal t .nilIface .nilIface).run P w=.ok true w:=by
 have:(Op.equalIn (9999+1) t .nilIface .nilIface).run P w=.ok true w:=by
  generalize 9999=d
  simp [Op.equalIn,run_underlying I]
 exact this
theorem T5 {op:BinOp}{t:TypeId}{ox oy:Operand}{x y v:V}(h:Rel c σ w)(I:binV P σ op t ox oy x y=some v)(hx:wf c x)(hy:wf c y):
  ((do eqGuard op t ox oy (conc c x) (conc c y); binOp op t (conc c x) (conc c y)):Sem Value).run P w=.ok (conc c v) w∧wf c v:=by
 unfold binV at I
 split at I
 ·rename_i k a j b
  have g:∀op,eqGuard op t ox oy (conc c (.int k a)) (conc c (.int j b))=pure ():=fun op=>by simp only [conc]; exact eqGuard_at_int ..
  rw [g,pure_bind]
  simp only [conc]
  split at I
  ·exact Fb I t w (.inl rfl)
  ·exact Fb I t w (.inr rfl)
  ·rename_i n1 n2
   cases J:ikBeq k j with
   | false=>simp [J] at I
   | true =>
    have:=oN J
    subst this
    simp only [J,ag] at I
    exact T1 I n1 n2 t w
 ·rename_i a b
  have g:∀op,eqGuard op t ox oy (conc c (.str a)) (conc c (.str b))=pure ():=fun op=>by simp only [conc]; exact eqGuard_at_string ..
  rw [g,pure_bind]
  exact T2 I (by simpa [wf] using hx) (by simpa [wf] using hy) t w
 ·rename_i j a k b
  cases J:fkBeq j k with
  | false=>rw [J] at I; cases I
  | true =>
   have hjk:j=k:=by cases j <;> cases k <;> first | rfl | (simp [fkBeq] at J)
   subst hjk
   rw [J,ag] at I
   have g:∀op,eqGuard op t ox oy (conc c (.tJ j a)) (conc c (.tJ j b))=pure ():=fun op=>by simp only [conc]; unfold eqGuard; split <;> rfl
   rw [g,pure_bind]
   unfold fltV at I
   split at I <;> first
    | (simp only [aq] at I; subst I; exact ⟨by simp [conc,binOp,Op.floatCmp],by simp [wf]⟩)
    | cases I
 ·rename_i a b
  split at I
  ·cases he:eqArr P t a b with
   | none=>simp [he] at I
   | some r =>
    simp [he] at I
    subst I
    obtain ⟨e1,e2⟩:=G0 (c:=c) he w
    refine ⟨?_,by simp [wf]⟩
    simp only [conc] at e1 ⊢
    simp [eqGuard,e2,binOp,e1]
  ·cases he:eqArr P t a b with
   | none=>simp [he] at I
   | some r =>
    simp [he] at I
    subst I
    obtain ⟨e1,e2⟩:=G0 (c:=c) he w
    refine ⟨?_,by simp [wf]⟩
    simp only [conc] at e1 ⊢
    simp [eqGuard,e2,binOp,e1]
  ·simp at I
 ·cases J:(isNilConst ox||isNilConst oy) with
  | false=>simp [J] at I
  | true =>
   simp only [J,ag] at I
   have g:∀op,eqGuard op t ox oy .nilIface .nilIface=pure ():=by
    intro op
    rcases nP _ _ ▸ J with q | q
    ·rw [yh q]; exact eqGuard_nil_constL ..
    ·rw [yh q]; exact eqGuard_nil_constR ..
   simp only [conc]
   rw [g,pure_bind]
   split at I
   ·rename_i ms hu
    simp only [aq] at I; subst I
    exact ⟨by simp [binOp,yj hu,conc],by simp [wf]⟩
   ·rename_i ms hu
    simp only [aq] at I; subst I
    exact ⟨by simp [binOp,yj hu,conc],by simp [wf]⟩
   ·simp at I
 ·split at I
  ·cases he:eqV P σ t x y with
   | none=>simp [he] at I
   | some r =>
    simp [he] at I
    subst I
    exact ⟨by rw [(Nm h he ox oy).1]; simp [conc],by simp [wf]⟩
  ·cases he:eqV P σ t x y with
   | none=>simp [he] at I
   | some r =>
    simp [he] at I
    subst I
    exact ⟨by rw [(Nm h he ox oy).2]; simp [conc],by simp [wf]⟩
  ·simp at I
theorem VO {op:UnOp}{x v:V}(I:unV op x=some v)(w:World): (Op.unary op (conc c x)).run P w=.ok (conc c v) w∧wf c v:=by
 unfold unV at I
 split at I
 ·split at I
  ·simp only [aq] at I; subst I
   exact ⟨by simp [Op.unary,conc],by simp [wf]⟩
  ·simp at I
 ·split at I
  ·simp only [aq] at I; subst I
   exact ⟨by simp [Op.unary,Op.intArith,conc],by simp [wf]⟩
  ·rename_i k n
   have:=tP (P:=P) (c:=c) I w
   rw [Ek] at this
   simpa [Op.unary,conc] using this
  ·simp at I
 ·simp at I
end
end Go.Proofs.YtefepnnfphdkpaaGreat.Am
