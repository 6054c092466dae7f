/- ChainKept: a part of its proof; conditions: its statement's. -/
import Derived.Test.YtefepnnfphdkpaaGreatC09
namespace Go.Proofs.YtefepnnfphdkpaaGreat.Am
open Go
section
variable {C:b8} {self:Self} {c:Ctx} {w:World}
variable {L:List Oper} {s:St} {st:Nat→St} {vv:Nat→V} {es:List Nat} {Hs:Nat→H}
variable {c₀:Ctx} {w₀:World} {d₀:List Deferred} {S:Nat→Prop} {early:Nat→Option (Nat×FV)} {k i:Nat} {a:Act} {o:Oper}
structure jM (L:List Oper)(S:Nat→Prop)(i:Nat)(o:Oper): Prop where
 at_:L[i]?=some o
 not:¬ S i
 G2:∀e∈o.after,eA e=true→S e.on
theorem jM.Qo (D:fN C self L s st vv es Hs)(I:∀i o,S i→L[i]?=some o→∀e∈o.after,eA e=true→S e.on)(R:jM L S i o){j:Nat}
 (h:bit ((nth (ancs L []) i).getD 0) j=true): S j∧j<i :=
 CV D.back S i o R.at_ (fun k o' _ J hk=>I k o' hk J) R.G2 j h
theorem CZ (D:fN C self L s st vv es Hs)(I:∀i o,S i→L[i]?=some o→∀e∈o.after,eA e=true→S e.on){j q:Nat}{x:Oper}(hj:S j)(hx:L[j]?=some x)
 (h:bit ((nth (ancs L []) j).getD 0) q=true): S q∧q<j :=
 CV D.back S j x hx (fun k o' _ J hk=>I k o' hk J) (I j x hj hx) q h
theorem jM.later (D:fN C self L s st vv es Hs)(I:∀i o,S i→L[i]?=some o→∀e∈o.after,eA e=true→S e.on)(R:jM L S i o){j:Nat}{x:Oper}
 (hj:S j)(hx:L[j]?=some x)(J:i<j): jo L o x=true:=by
 rcases D.GZ j x hx i o J R.at_ with h | ⟨h,_⟩
 ·exact absurd (CZ D I hj hx h).1 R.not
 ·exact h
theorem jM.before (D:fN C self L s st vv es Hs)(I:∀i o,S i→L[i]?=some o→∀e∈o.after,eA e=true→S e.on)(R:jM L S i o){j:Nat}{x:Oper}
 (hx:L[j]?=some x)(J:j<i): S j∨(jo L x o=true∧(isEff C x.op=false∨isEff C o.op=false∨isAlloc o=true)):=by
 rcases D.GZ i o R.at_ j x J hx with h | h
 ·exact .inl (R.Qo D I h).1
 ·exact .inr h
theorem fh.FH (D:fN C self L s st vv es Hs)(I:fh C self L s st vv es Hs c₀ w₀ d₀ S early k c a w)(iy:∀p,es[k]?=some p→¬ S p)(R:jM L S i o)
 {t:Tmp}(ht:t∈looks L o): a.tmps.getD t undef=conc c ((st i).env.v t)∧wf c ((st i).env.v t):=by
 have hlen:i<L.length:=(List.getElem?_eq_some_iff.1 R.at_).1
 -- those that write it and have come stand ahead in the text
 have Oo:∀j x,S j→L[j]?=some x→x.dst=some t→j<i:=fun j x hj hx hd=>by
  rcases AF j i with h | h | h
  ·exact h
  ·subst h; exact absurd hj R.not
  ·exact absurd ht ((ru (R.later D I.closed hj hx h)).2 t hd)
 have Ni:∀j x,j<i→L[j]?=some x→x.dst=some t→S j:=fun j x a_ hx hd=>by
  rcases R.before D I.closed hx a_ with h | ⟨h,_⟩
  ·exact h
  ·exact absurd ht ((ru h).1 t hd).1
 rcases I.tmp t with ⟨J,G3,g1,g2,g3,g4,g5⟩ | ⟨g1,g2,g3⟩
 ·have a_:=Oo J G3 g1 g2 g3
  have m6:(st i).env.v t=vv J:=by
   rcases D.Cu t i (by omega) with ⟨j,oj,h1,h2,h3,h4,h5⟩ | ⟨h1,_⟩
   ·have e1:=h4 J G3 a_ g2 g3
    have e2:=g4 j oj (Ni j oj h1 h2 h3) h2 h3
    have:j=J:=by omega
    subst this; exact h5
   ·exact absurd g3 (h1 J G3 a_ g2)
  rcases g5 with ⟨b,e1,_⟩ | ⟨_,e2,e3⟩
  ·exfalso
   obtain ⟨_,idx,f2,f3⟩:=I.qb J b e1
   obtain ⟨PX,_,f4,f5,_⟩:=I.late idx J f2 f3 g1
   rw [g2] at f4
   simp at f4
   subst f4
   obtain ⟨q,hq⟩:∃q,es[k]?=some q:=⟨_,aN (by have:=(List.getElem?_eq_some_iff.1 f3).1; omega)⟩
   by_cases Nj:q=J
   ·subst Nj; exact iy _ hq g1
   ·have UL:q<J:=by
     have:k≠idx:=fun e=>by subst e; rw [hq] at f3; simp at f3; exact Nj f3
     exact (wA D hq f3).1 (by omega)
    rcases D.I6 J G3 g2 f5 i o R.at_ a_ with h | h
    ·exact ((ru h).1 t g3).1 ht
    ·exact iy q hq (R.Qo D I.closed (h q (aY hq) UL)).1
  ·rw [m6]; exact ⟨e2,e3⟩
 ·have m6:(st i).env.v t=s.env.v t:=by
   rcases D.Cu t i (by omega) with ⟨j,oj,h1,h2,h3,h4,h5⟩ | ⟨_,h⟩
   ·exact absurd h3 (g1 j oj (Ni j oj h1 h2 h3) h2)
   ·exact h
  rw [m6]; exact ⟨g2,g3⟩
theorem fh.FB (D:fN C self L s st vv es Hs)(I:fh C self L s st vv es Hs c₀ w₀ d₀ S early k c a w)(J:∀p,es[k]?=some p→¬ S p)(R:jM L S i o): yG c (st i).env a o:=by
 intro x hx v hv
 cases x with
 | tmp t =>
  simp only [evO,aj] at hv
  subst hv
  have hl:t∈looks L o:=List.mem_append_left _ (List.mem_filterMap.2 ⟨.tmp t,by simpa using hx,rfl⟩)
  exact I.FH D J R hl
 | const x =>
  simp only [evO] at hv
  obtain ⟨h1,h2⟩:=o8 hv c
  exact ⟨h1.symm,h2⟩
 | global g=>simp [evO] at hv
 | func f =>
  simp only [evO,aj] at hv
  subst hv
  exact ⟨by simp [Act.eval,conc,concL],by simp [wf,eo]⟩
theorem fh.wanted (D:fN C self L s st vv es Hs){ops:Array Oper}(hL:ops.toList=L)(I:fh C self L s st vv es Hs c₀ w₀ d₀ S early k c a w)(J:∀p,es[k]?=some p→¬ S p)(R:jM L S i o):
  Region.wanted o (yielded ops a.tmps)=wantedV L (st i).env o:=by
 rw [←hL]
 refine yJ (c:=c) fun j w d hg hd => ?_
 have hl:d∈looks L o:=by
  refine List.mem_append_right _ ?_
  rw [hg]
  simp only [eW]
  rw [←hL,ie,hd]
  simp
 exact (I.FH D J R hl).1
theorem fh.FI (D:fN C self L s st vv es Hs)(I:fh C self L s st vv es Hs c₀ w₀ d₀ S early k c a w)(R:jM L S i o){c':Ctx}(e:Ext c c'){kV:Nat→Option (Nat×FV)}
 (FJ:∀j,j≠i→kV j=early j)(X:Value)
 (hX:(∃b,kV i=some b∧X=b.2.val b.1)∨(kV i=none∧X=conc c' (vv i)∧wf c' (vv i)))(t:Tmp):
  (∃J G3,(S J∨J=i)∧L[J]?=some G3∧G3.dst=some t∧(∀j o',(S j∨j=i)→L[j]?=some o'→o'.dst=some t→j≤J) ∧
    ((∃b,kV J=some b∧(a.put o.dst X).tmps.getD t undef=b.2.val b.1)∨(kV J=none∧(a.put o.dst X).tmps.getD t undef=conc c' (vv J)∧wf c' (vv J)))) ∨
   ((∀j o',(S j∨j=i)→L[j]?=some o'→o'.dst≠some t)∧(a.put o.dst X).tmps.getD t undef=conc c' (s.env.v t)∧wf c' (s.env.v t)):=by
 have hlen:i<L.length:=(List.getElem?_eq_some_iff.1 R.at_).1
 by_cases hd:o.dst=some t
 ·left
  refine ⟨i,o,.inr rfl,R.at_,hd,fun j x hj hx Nk => ?_,?_⟩
  ·rcases hj with hj | hj
   ·rcases iq i j with h | h
    ·exact absurd Nk ((ru (R.later D I.closed hj hx h)).1 t hd).2
    ·exact h
   ·omega
  ·obtain ⟨h,p1,_,_⟩:=D.step i o R.at_
   obtain ⟨_,_,p3,_⟩:=mK p1
   have eC:t<a.tmps.size:=by rw [I.size,←D.ax i (by omega)]; exact p3 t hd
   have xH:(a.put o.dst X).tmps.getD t undef=X:=by rw [hd]; simp [Act.put,Array.getD,eC]
   rw [xH]
   exact hX
 ·have xH:(a.put o.dst X).tmps.getD t undef=a.tmps.getD t undef:=by
   cases ho:o.dst with
   | none=>rfl
   | some d =>
    have:d≠t:=fun e=>hd (by rw [ho,e])
    simp [Act.put,jP,vP this]
  rw [xH]
  rcases I.tmp t with ⟨J,G3,g1,g2,g3,g4,g5⟩ | ⟨g1,g2,g3⟩
  ·left
   have dh:J≠i:=fun e=>by subst e; exact R.not g1
   refine ⟨J,G3,.inl g1,g2,g3,fun j x hj hx Nk => ?_,?_⟩
   ·rcases hj with hj | hj
    ·exact g4 j x hj hx Nk
    ·subst hj; rw [R.at_] at hx; simp at hx; subst hx; exact absurd Nk hd
   ·rw [FJ J dh]
    rcases g5 with h | ⟨e1,e2,e3⟩
    ·exact .inl h
    ·exact .inr ⟨e1,by rw [e2,(bX e _ e3).1],(bX e _ e3).2⟩
  ·right
   refine ⟨fun j x hj hx => ?_,by rw [g2,(bX e _ g3).1],(bX e _ g3).2⟩
   rcases hj with hj | hj
   ·exact g1 j x hj hx
   ·subst hj; rw [R.at_] at hx; simp at hx; subst hx; exact hd
theorem fh.yQ (I:fh C self L s st vv es Hs c₀ w₀ d₀ S early k c a w)(R:jM L S i o):
  ∀j x,(S j∨j=i)→L[j]?=some x→∀e∈x.after,eA e=true→(S e.on∨e.on=i):=by
 intro j x J hx e he hb
 rcases J with J | J
 ·exact .inl (I.closed j x J hx e he hb)
 ·subst J; rw [R.at_] at hx; simp at hx; subst hx; exact .inl (R.G2 e he hb)
theorem C0 (a:Act)(d:Option Tmp)(X:Value): (a.put d X).tmps.size=a.tmps.size:=by cases d <;> simp [Act.put]
theorem put_defers (a:Act)(d:Option Tmp)(X:Value): (a.put d X).defers=a.defers:=by cases d <;> rfl
theorem fh.next (D:fN C self L s st vv es Hs)(I:fh C self L s st vv es Hs c₀ w₀ d₀ S early k c a w)(R:jM L S i o){c':Ctx}{w':World}(X:bY c w c' w')(k':Nat)
 (J:(k'=k∧isEff C o.op=false)∨(k'=k+1∧es[k]?=some i))(oR:Rel c' (Hs k') w')(hv:wf c' (vv i)):
  fh C self L s st vv es Hs c₀ w₀ d₀ (fun j=>S j∨j=i) early k' c' (a.put o.dst (conc c' (vv i))) w':=by
 have Wj:early i=none:=by
  cases h:early i with
  | none=>rfl
  | some b=>exact absurd (I.qb i b h).1 R.not
 refine ⟨I.yQ R,fun idx p a_ hp => ?_,?_,fun idx p hle hp uk => ?_,fun p b hp => ?_,oR,by rw [C0]; exact I.size,
  fun t=>I.FI D R X.ext (fun j _=>rfl) _ (.inr ⟨Wj,rfl,hv⟩) t,fun p b hp => ?_,I.distinct,I.FG.trans X,by rw [put_defers]; exact I.defers⟩
 ·rcases J with ⟨rfl,_⟩ | ⟨rfl,J⟩
  ·exact .inl (I.pre idx p a_ hp)
  ·by_cases h:idx=k
   ·subst h; rw [J] at hp; simp at hp; exact .inr hp.symm
   ·exact .inl (I.pre idx p (by omega) hp)
 ·rcases J with ⟨rfl,_⟩ | ⟨rfl,J⟩
  ·exact I.CY
  ·have:=(List.getElem?_eq_some_iff.1 J).1; omega
 ·rcases uk with uk | uk
  ·refine I.late idx p ?_ hp uk
   rcases J with ⟨rfl,_⟩ | ⟨rfl,J⟩ <;> omega
  ·subst uk
   exfalso
   rcases J with ⟨rfl,J⟩ | ⟨rfl,J⟩
   ·obtain ⟨o',h1,h2⟩:=(D.oD p).1 (aY hp)
    rw [R.at_] at h1; simp at h1; subst h1; rw [J] at h2; cases h2
   ·have:=I9 D hp J; omega
 ·obtain ⟨g1,idx,g2,g3⟩:=I.qb p b hp
  refine ⟨.inl g1,idx,?_,g3⟩
  rcases J with ⟨rfl,_⟩ | ⟨rfl,J⟩
  ·exact g2
  ·rcases su g2 with e | e
   ·subst e; rw [J] at g3; simp at g3; subst g3; exact absurd g1 R.not
   ·exact e
 ·obtain ⟨g1,g2,g3,o',T,cs,g4,g5,g7⟩:=I.blocks p b hp
  refine ⟨g1,gz g2 X.size,fun id uj he => ?_,o',T,cs,g4,g5,by rw [X.kF b.1 g2 (fun id hi he=>absurd he (g3 id hi)),g5.same c _]; exact g7⟩
  by_cases Qp:id<c.N
  ·exact g3 id Qp (by rw [←X.ext.ρ id Qp]; exact he)
  ·rcases X.fresh id (by omega) uj with h | ⟨j,hj,h,_⟩
   ·omega
   ·exact g3 j hj (by rw [h]; exact he)
theorem fh.float (D:fN C self L s st vv es Hs)(I:fh C self L s st vv es Hs c₀ w₀ d₀ S early k c a w)(R:jM L S i o)(I8:isAlloc o=true){fv:FV}{cs:List V}{T:TypeId}
 (F:A1 C self (st i).env o fv cs T){idx:Nat}(UM:es[idx]?=some i)(hle:k≤idx):
  fh C self L s st vv es Hs c₀ w₀ d₀ (fun j=>S j∨j=i) (fun j=>if j=i then some (w.heap.size,fv) else early j) k c (a.put o.dst (fv.val w.heap.size))
   (w.alloc (.cells (cs.map (conc c)).toArray T (0,0))):=by
 obtain ⟨j1,j2⟩:=I.rel.UH (.cells (cs.map (conc c)).toArray T (0,0))
 have nS:∀j,S j→j≠i:=fun j hj e=>by subst e; exact R.not hj
 refine ⟨I.yQ R,fun idx p a_ J=>.inl (I.pre idx p a_ J),I.CY,fun UN p PW J uk => ?_,fun p b J => ?_,j1,by rw [C0]; exact I.size,
  fun t=>I.FI D R (Ext.refl c) (fun j hj=>by simp [hj]) _ (.inl ⟨(w.heap.size,fv),by simp,rfl⟩) t,fun p b J => ?_,fun p q b b' J hq he => ?_,I.FG.trans j2,by rw [put_defers]; exact I.defers⟩
 ·rcases uk with uk | uk
  ·obtain ⟨o',b,g1,g2,g3⟩:=I.late UN p PW J uk
   exact ⟨o',b,g1,g2,by simp [nS p uk,g3]⟩
  ·subst uk
   exact ⟨o,_,R.at_,I8,by simp; rfl⟩
 ·by_cases h:p=i
  ·subst h; exact ⟨.inr rfl,idx,hle,UM⟩
  ·simp [h] at J
   obtain ⟨g1,g2⟩:=I.qb p b J
   exact ⟨.inl g1,g2⟩
 ·by_cases h:p=i
  ·subst h
   simp at J
   subst J
   refine ⟨I.FG.size,by simp,fun id uj=>fE (I.rel.je id uj),o,T,cs,R.at_,F,by rw [fy]; simp⟩
  ·simp [h] at J
   obtain ⟨g1,g2,g3,o',T',cs',g4,g5,g7⟩:=I.blocks p b J
   exact ⟨g1,by simp; omega,g3,o',T',cs',g4,g5,by rw [fy,ai (fE g2)]; exact g7⟩
 ·by_cases h1:p=i <;> by_cases h2:q=i
  ·omega
  ·simp [h1] at J
   simp [h2] at hq
   have:=(I.blocks q b' hq).2.1
   rw [←J] at he
   simp at he
   omega
  ·simp [h1] at J
   simp [h2] at hq
   have:=(I.blocks p b J).2.1
   rw [←hq] at he
   simp at he
   omega
  ·simp [h1] at J
   simp [h2] at hq
   exact I.distinct p q b b' J hq he
theorem fh.Qq (hS:ir C.P self)(hT:fe C){r:Option Nat}{ops:Array Oper}(hL:ops.toList=L){Q:Exit→Act→World→Prop}(D:fN C self L s st vv es Hs)
 (I:fh C self L s st vv es Hs c₀ w₀ d₀ S early k c a w)(iy:∀p,es[k]?=some p→¬ S p)(R:jM L S i o){K:Act→World→Prop}
 (hK:∀kV k' c' a' w',fh C self L s st vv es Hs c₀ w₀ d₀ (fun j=>S j∨j=i) kV k' c' a' w'→K a' w'): wpOpIn (Fr r) 0 C.P ops Q i K a w:=by
 have hlen:i<L.length:=(List.getElem?_eq_some_iff.1 R.at_).1
 have Wk:ops[i]?=some o:=by rw [←ie,hL]; exact R.at_
 obtain ⟨h,p1,p2,p3⟩:=D.step i o R.at_
 have ph:=(mK p1).1
 -- an effect that is no new variable comes in its place
 have place:isEff C o.op=true→isAlloc o=false→es[k]?=some i:=by
  intro he ha
  obtain ⟨idx,J⟩:=sg ((D.oD i).2 ⟨o,R.at_,he⟩)
  have h1:¬ idx<k:=fun a_=>R.not (I.pre idx i a_ J)
  by_cases h2:idx=k
  ·subst h2; exact J
  ·exfalso
   obtain ⟨q,hq⟩:∃q,es[k]?=some q:=⟨_,aN (by have:=(List.getElem?_eq_some_iff.1 J).1; omega)⟩
   obtain ⟨oq,g1,g2⟩:=(D.oD q).1 (aY hq)
   have Nj:q<i:=(wA D hq J).1 (by omega)
   rcases R.before D I.closed g1 Nj with hb | ⟨_,hb⟩
   ·exact iy q hq hb
   ·rw [g2,he,ha] at hb; simp at hb
 have Nl:es[k]?=some i→(st i).h=Hs k:=fun hk=>D.CX i k (by omega) I.CY (fun idx q a_ hq=>(wA D hq hk).1 a_) (fun idx q hle hq=>by
  rcases su hle with e | e
  ·subst e; rw [hk] at hq; simp at hq; omega
  ·exact Nat.le_of_lt ((wA D hk hq).1 e))
 unfold wpOpIn
 rw [Wk]
 simp only [I.wanted D hL iy R]
 cases hw:wantedV L (st i).env o with
 | false =>
  simp only [dP,bF]
  refine ⟨fun _ _=>trivial,?_⟩
  obtain ⟨hv,hh⟩:=p3 hw
  have Qr:wf c (vv i):=by rw [hv]; simp [bH,wf,eo]
  have hX:conc c (vv i)=undef:=by rw [hv,mW]
  cases he:isEff C o.op with
  | false =>
   have:=I.next D R (bY.refl c w) k (.inl ⟨rfl,he⟩) I.rel Qr
   rw [hX] at this
   exact hK _ _ _ _ _ this
  | true =>
   have ha:isAlloc o=false:=by
    cases ha:isAlloc o with
    | false=>rfl
    | true=>obtain ⟨_,hg,_⟩:=tJ ha; simp [wantedV,hg] at hw
   have hk:=place he ha
   have oR:Rel c (Hs (k+1)) w:=by rw [D.yN k i hk,ph,hh,Nl hk]; exact I.rel
   have:=I.next D R (bY.refl c w) (k+1) (.inr ⟨rfl,hk⟩) oR Qr
   rw [hX] at this
   exact hK _ _ _ _ _ this
 | true =>
  simp only [bC]
  cases he:isEff C o.op with
  | false =>
   obtain ⟨h',jY⟩:=D.same i o R.at_ he k I.CY (fun idx p a_ hp=>by
    cases hb:bit ((nth (ancs L []) p).getD 0) i with
    | false=>rfl
    | true =>
     obtain ⟨x,hx,_⟩:=(D.oD p).1 (aY hp)
     exact absurd (CZ D I.closed (I.pre idx p a_ hp) hx hb).1 R.not) (fun idx p hle hp=>by
    cases hb:bit ((nth (ancs L []) i).getD 0) p with
    | false=>rfl
    | true =>
     obtain ⟨q,hq⟩:∃q,es[k]?=some q:=⟨_,aN (by have:=(List.getElem?_eq_some_iff.1 hp).1; omega)⟩
     exact absurd (R.Qo D I.closed (D.Ty i o R.at_ he k idx q p hle hq hp hb)).1 (iy q hq)) hw
   have hh:=BI he jY
   subst hh
   refine (wz hS hT I.rel (I.FB D iy R) jY).wpIn (kU jY) ?_
   intro c' w' r1 r2 r3
   exact hK _ _ _ _ _ (I.next D R r2 k (.inl ⟨rfl,he⟩) r1 r3)
  | true =>
   have jY:=p2 hw
   by_cases hk:es[k]?=some i
   ·rw [Nl hk] at jY
    refine (wz hS hT I.rel (I.FB D iy R) jY).wpIn (kU jY) ?_
    intro c' w' r1 r2 r3
    exact hK _ _ _ _ _ (I.next D R r2 (k+1) (.inr ⟨rfl,hk⟩) (by rw [D.yN k i hk,ph]; exact r1) r3)
   ·have ha:isAlloc o=true:=by
     cases ha:isAlloc o with
     | true=>rfl
     | false=>exact absurd (place he ha) hk
    obtain ⟨idx,J⟩:=sg ((D.oD i).2 ⟨o,R.at_,he⟩)
    have hle:k≤idx:=nL fun a_=>R.not (I.pre idx i a_ J)
    obtain ⟨fv,cs,T,F⟩:=G1 ha jY
    refine ⟨fun _ _=>trivial,?_⟩
    rw [Oper.semAt_eq _ _ _ (kU jY),F.run c a (I.FB D iy R) w]
    exact hK _ _ _ _ _ (I.float D R ha F J hle)
end
end Go.Proofs.YtefepnnfphdkpaaGreat.Am
namespace Go.Proofs.YtefepnnfphdkpaaGreat.Am
open Go
theorem Lp {a b:IntKind}(h:ikBeq a b=true): a=b:=by cases a <;> cases b <;> first | rfl | (simp [ikBeq] at h)
theorem ry {a b:Int}(h:intBeq a b=true): a=b:=by
 cases a <;> cases b <;> simp [intBeq] at h <;> rw [h]
theorem yR : ∀ {a b:List Nat},natsBeq a b=true→a=b
 | [],[],_=>rfl
 | [],_::_,h=>by simp [natsBeq] at h
 | _::_,[],h=>by simp [natsBeq] at h
 | x::a,y::b,h=>by
  simp only [natsBeq] at h
  cases I:Nat.beq x y with
  | false=>rw [I] at h; cases h
  | true=>rw [I,af] at h; rw [beq_iff.1 I,yR h]
theorem I_ {a b:Cap}(h:a.beq b=true): a=b:=by
 cases a <;> cases b <;> simp [Cap.beq] at h
 ·rw [h]
 ·rw [h.1,h.2]
mutual
theorem A2 : ∀(a b:V),V.beq a b=true→a=b
 | .bool a,b,h=>by cases b <;> simp [V.beq] at h; rw [h]
 | .int j a,b,h=>by
  cases b <;> simp [V.beq] at h
  rw [Lp h.1,ry h.2]
 | .str a,b,h=>by cases b <;> simp [V.beq] at h; rw [yR h]
 | .cU,b,h=>by cases b <;> simp [V.beq] at h; rfl
 | .ptr x y,b,h=>by cases b <;> simp [V.beq] at h; rw [h.1,h.2]
 | .bp,b,h=>by cases b <;> simp [V.beq] at h; rfl
 | .sl x y z u,b,h=>by
  cases b <;> simp [V.beq] at h
  rw [h.1.1.1,h.1.1.2,h.1.2,I_ h.2]
 | .jC,b,h=>by cases b <;> simp [V.beq] at h; rfl
 | .map x,b,h=>by cases b <;> simp [V.beq] at h; rw [h]
 | .fn f x y,b,h=>by
  cases f with
  | func k=>cases b with
   | fn g u v=>cases g with
    | func j =>
     simp [V.beq] at h
     rw [h.1.1,qw x u h.1.2,qw y v h.2]
    | _=>simp [V.beq] at h
   | _=>simp [V.beq] at h
  | _=>cases b <;> simp [V.beq] at h
 | .BC,b,h=>by cases b <;> simp [V.beq] at h; rfl
 | .iface t v,b,h=>by
  cases b <;> simp [V.beq] at h
  rw [h.1,A2 v _ h.2]
 | .lT,b,h=>by cases b <;> simp [V.beq] at h; rfl
 | .agg l,b,h=>by cases b <;> simp [V.beq] at h; rw [qw l _ h]
 | .bh l,b,h=>by cases b <;> simp [V.beq] at h; rw [qw l _ h]
 | .uD _,b,h=>by cases b <;> simp [V.beq] at h
 | .sle a,b,h=>by cases b <;> simp [V.beq] at h; rw [h]
 | .ql k x,b,h=>by
  cases b with
  | ql j y =>
   simp [V.beq] at h
   rw [h.2]
   cases k <;> cases j <;> first | rfl | (simp [fkBeq] at h)
  | _=>simp [V.beq] at h
theorem qw : ∀(a b:List V),V.beqL a b=true→a=b
 | [],b,h=>by cases b <;> simp [V.beqL] at h; rfl
 | x::a,b,h=>by
  cases b with
  | nil=>simp [V.beqL] at h
  | cons y b =>
   simp only [V.beqL] at h
   cases I:V.beq x y with
   | false=>rw [I] at h; cases h
   | true=>rw [I,af] at h; rw [A2 x y I,qw a b h]
end
theorem A3 {m:Nat}: ∀(es:List Nat),(∀idx p,idx<fR m es→es[idx]?=some p→bit m p=true)∧fR m es≤es.length:=by
 intro es
 induction es with
 | nil=>exact ⟨fun idx p _ h=>by simp at h,by simp [fR]⟩
 | cons q es J =>
  simp only [fR]
  cases hq:bit m q with
  | true =>
   rw [af]
   refine ⟨fun idx p h1 I => ?_,by have:=J.2; simp; exact this⟩
   cases idx with
   | zero=>simp at I; subst I; exact hq
   | succ idx=>exact J.1 idx p (by omega) (by simpa using I)
  | false=>rw [ay]; exact ⟨fun idx p h=>by omega,by simp⟩
theorem Lq {m:Nat}: ∀(es:List Nat),jq m es=true→∀(J I p q:Nat),J≤I→es[J]?=some p→es[I]?=some q→bit m q=true→bit m p=true:=by
 intro es
 induction es with
 | nil=>intro _ J I p q _ h; simp at h
 | cons x es ih =>
  intro h J I p q hle h1 h2 hb
  simp only [jq] at h
  cases hx:bit m x with
  | true =>
   rw [hx,af] at h
   cases J with
   | zero=>simp at h1; subst h1; exact hx
   | succ J =>
    cases I with
    | zero=>omega
    | succ I=>exact ih h J I p q (by omega) (by simpa using h1) (by simpa using h2) hb
  | false =>
   rw [hx,ay] at h
   cases I with
   | zero =>
    simp at h2
    subst h2
    rw [hx] at hb; cases hb
   | succ I =>
    have:=List.all_eq_true.1 h q (aY (by simpa using h2))
    rw [hb] at this; cases this
theorem FK {as:List Nat}{i:Nat}: ∀(es:List Nat),iG as i es≤es.length∧∀p,es[iG as i es]?=some p→bit ((nth as p).getD 0) i=true:=by
 intro es
 induction es with
 | nil=>exact ⟨by simp [iG],fun p h=>by simp at h⟩
 | cons q es I =>
  simp only [iG]
  cases J:bit ((nth as q).getD 0) i with
  | true=>rw [af]; exact ⟨by simp,fun p h=>by simp at h; subst h; exact J⟩
  | false=>rw [ay]; exact ⟨by have:=I.1; simp; exact this,fun p h=>I.2 p (by simpa using h)⟩
section
variable {C:b8} {self:Self}
theorem Ja {L:List Oper}{o:Oper}{x:Env×V}: ∀(l:List H),sameIn C self L o x l=true→wantedV L x.1 o=true→∀h∈l,∃h',evOp C self x.1 h o=some (x.2,h'):=by
 intro l
 induction l with
 | nil=>intro _ _ h hm; simp at hm
 | cons y l J =>
  intro hs hw h hm
  simp only [sameIn,hw,af] at hs
  cases he:evOp C self x.1 y o with
  | none=>simp [he] at hs
  | some r =>
   obtain ⟨v,h'⟩:=r
   simp only [he] at hs
   cases I:v.beq x.2 with
   | false=>rw [I] at hs; cases hs
   | true =>
    rw [I,af] at hs
    rcases List.mem_cons.1 hm with rfl | hm
    ·exact ⟨h',by rw [he,A2 _ _ I]⟩
    ·exact J hs hw h hm
theorem BK {L:List Oper}{as es:List Nat}{hs:List H}: ∀(l:List Oper) (tr:List (Env×V)) (k:Nat),stayOk C self L as es hs l tr k=true →
  ∀j o x,l[j]?=some o→tr[j]?=some x→isEff C o.op=false →
   jq ((nth as (k+j)).getD 0) es=true∧(fR ((nth as (k+j)).getD 0) es=iG as (k+j) es ∨
    sameIn C self L o x ((hs.drop (fR ((nth as (k+j)).getD 0) es)).take (iG as (k+j) es+1-fR ((nth as (k+j)).getD 0) es))=true):=by
 intro l
 induction l with
 | nil=>intro tr k _ j o x h; simp at h
 | cons y l ih =>
  intro tr k h j o x ho hx he
  cases tr with
  | nil=>simp [stayOk] at h
  | cons z tr =>
   simp only [stayOk] at h
   have I:stayOk C self L as es hs l tr (k+1)=true:=by
    cases h1:isEff C y.op with
    | true=>rw [h1,af] at h; exact h
    | false =>
     rw [h1,ay] at h
     cases J:(jq ((nth as k).getD 0) es&&Nat.beq (fR ((nth as k).getD 0) es) (iG as k es)) with
     | true=>rw [J,af] at h; exact h
     | false =>
      rw [J,ay] at h
      cases h3:(jq ((nth as k).getD 0) es&&sameIn C self L y z ((hs.drop (fR ((nth as k).getD 0) es)).take (iG as k es+1-fR ((nth as k).getD 0) es))) with
      | true=>rw [h3,af] at h; exact h
      | false=>rw [h3] at h; cases h
   cases j with
   | zero =>
    simp at ho hx
    subst ho hx
    rw [he,ay] at h
    simp only [ik]
    cases J:(jq ((nth as k).getD 0) es&&Nat.beq (fR ((nth as k).getD 0) es) (iG as k es)) with
    | true =>
     rw [aI,beq_iff] at J
     exact ⟨J.1,.inl J.2⟩
    | false =>
     rw [J,ay] at h
     cases h3:(jq ((nth as k).getD 0) es&&sameIn C self L y z ((hs.drop (fR ((nth as k).getD 0) es)).take (iG as k es+1-fR ((nth as k).getD 0) es))) with
     | true =>
      rw [aI] at h3
      exact ⟨h3.1,.inr h3.2⟩
     | false=>rw [h3] at h; cases h
   | succ j =>
    have:=ih tr (k+1) I j o x (by simpa using ho) (by simpa using hx) he
    rwa [show k+1+j=k+(j+1) from by omega] at this
theorem Lr {L:List Oper}{s z:St}(hr:jV C self L s=some z):
    ∃st vv Hs,fN C self L s st vv (cJ C L 0) Hs∧st L.length=z∧L.all (fun o => !CH o.op)=true:=by
  unfold jV at hr
  cases jZ:nU C L with
  | false=>rw [jZ] at hr; cases hr
  | true =>
    rw [jZ,af] at hr
    cases Qs:trace C self L L s [s.h] with
    | none=>simp [Qs] at hr
    | some q =>
      obtain ⟨tr,hs,z'⟩:=q
      simp only [Qs] at hr
      cases wB:stayOk C self L (ancs L []) (cJ C L 0) hs L tr 0 with
      | false=>rw [wB] at hr; cases hr
      | true =>
        rw [wB,af] at hr
        simp only [aj] at hr
        subst hr
        simp only [nU,aI] at jZ
        obtain ⟨⟨⟨s1,s2⟩,s3⟩,s4⟩:=jZ
        obtain ⟨st,t1,t2,t3,t4,t5⟩:=Lo L 0 s [s.h] tr hs z' Qs
        simp only [dJ] at t2 t5
        have Nm:∀i o,L[i]?=some o→∀e∈o.after,eA e=true→e.on<i:=fun i o ho e he hb=>by
          have:=CW L 0 s1 i o ho e he hb; omega
        have Qt:∀i o,L[i]?=some o→∀j,bit ((nth (ancs L []) i).getD 0) j=true→j<i:=fun i o ho j hj =>
          (CV Nm (fun _=>True) i o ho (fun _ _ _ _ _ _ _ _=>trivial) (fun _ _ _=>trivial) j hj).2
        have I:=(uV (C:=C) L 0).1
        have FF:∀p,p∈cJ C L 0↔∃o,L[p]?=some o∧isEff C o.op=true:=fun p=>by
          rw [I4]
          constructor
          · rintro ⟨i,o,rfl,h1,h2⟩; exact ⟨o,by simpa using h1,h2⟩
          · rintro ⟨o,h1,h2⟩; exact ⟨p,o,by omega,h1,h2⟩
        have TA:∀k p,(cJ C L 0)[k]?=some p→hs[k+1]?=some (st (p+1)).h:=fun k p J=>by
          rw [t4]; simp [J]
        have TB:hs[0]?=some s.h:=by rw [t4]; simp
        have Yl:hs.length=(cJ C L 0).length+1:=by rw [t4]; simp
        have o9:∀i o,L[i]?=some o→∃h,(st i).put o.dst (((tr[i]?).map (·.2)).getD bH) h=some (st (i+1)) ∧
            (wantedV L (st i).env o=true→evOp C self (st i).env (st i).h o=some (((tr[i]?).map (·.2)).getD bH,h))∧(wantedV L (st i).env o=false→((tr[i]?).map (·.2)).getD bH=bH∧h=(st i).h):=fun i o ho=>by
          obtain ⟨v,h,e1,e2,e3,e4⟩:=t5 i o ho
          refine ⟨h,?_,?_,?_⟩ <;> rw [e1] <;> simp only [ig,dB]
          · exact e2
          · exact e3
          · exact e4
        -- all but 'same'; it is wanted for 'heapAt'
        have Yr:(∀i o,L[i]?=some o→isEff C o.op=false→∀k,k≤(cJ C L 0).length→(∀idx p,idx<k→(cJ C L 0)[idx]?=some p→bit ((nth (ancs L []) p).getD 0) i=false) →
              (∀idx p,k≤idx→(cJ C L 0)[idx]?=some p→bit ((nth (ancs L []) i).getD 0) p=false) →
              wantedV L (st i).env o=true→∃h',evOp C self (st i).env ((hs[k]?).getD s.h) o=some (((tr[i]?).map (·.2)).getD bH,h')) →
            fN C self L s st (fun i=>((tr[i]?).map (·.2)).getD bH) (cJ C L 0) (fun k=>(hs[k]?).getD s.h):=fun GO =>
          { back:=Nm
            GZ:=fun j o ho i x hi hx=>by
              have:=GX L 0 s2 j o ho i x (by omega) hx
              simpa using this
            I6:=fun i o ho ha j u hu a_=>by
              rcases EN L 0 s3 i o ho ha j u hu (by omega) with h | h
              · exact .inl h
              · right
                intro p J YU
                exact I5 I h p J (by omega)
            oD:=FF
            sorted:=I
            start:=t1
            step:=o9
            G0:=by rw [TB]; rfl
            yN:=fun k p J=>by rw [TA k p J]; rfl
            Ty:=fun i o ho he=>by
              obtain ⟨v,h,e1,_⟩:=t5 i o ho
              have:=(BK L tr 0 wB i o _ ho e1 he).1
              simp only [dJ] at this
              exact Lq _ this
            same:=GO }
        refine ⟨st,_,_,Yr ?_,t2,s4⟩
        intro i o ho he k hk h1 h2 hw
        obtain ⟨v,h,e1,e2,e3,e4⟩:=t5 i o ho
        obtain ⟨g1,g2⟩:=BK L tr 0 wB i o _ ho e1 he
        simp only [dJ] at g1 g2
        have UO:fR ((nth (ancs L []) i).getD 0) (cJ C L 0)≤k:=nL fun a_=>by
          obtain ⟨p,J⟩:∃p,(cJ C L 0)[k]?=some p:=⟨_,aN (by have:=(A3 (m:=(nth (ancs L []) i).getD 0) (cJ C L 0)).2; omega)⟩
          have:=(A3 (cJ C L 0)).1 k p a_ J
          rw [h2 k p (aD _) J] at this
          cases this
        have Ys:k≤iG (ancs L []) i (cJ C L 0):=nL fun a_=>by
          obtain ⟨p,J⟩:∃p,(cJ C L 0)[iG (ancs L []) i (cJ C L 0)]?=some p:=⟨_,aN (by omega)⟩
          have:=(FK (as:=ancs L []) (i:=i) (cJ C L 0)).2 p J
          rw [h1 _ p a_ J] at this
          cases this
        have Li:((tr[i]?).map (·.2)).getD bH=v:=by rw [e1]; rfl
        rw [Li]
        rcases g2 with g2 | g2
        · -- its place is known
          have yw:(st i).h=(hs[k]?).getD s.h:=by
            have uM:k=iG (ancs L []) i (cJ C L 0):=by omega
            have a_:∀idx p,idx<k→(cJ C L 0)[idx]?=some p→p<i:=fun idx p a_ J=>by
              have:=(A3 (m:=(nth (ancs L []) i).getD 0) (cJ C L 0)).1 idx p (by omega) J
              exact Qt i o ho p this
            have TC:∀idx p,k≤idx→(cJ C L 0)[idx]?=some p→i≤p:=fun idx p hle J=>by
              obtain ⟨q,hq⟩:∃q,(cJ C L 0)[k]?=some q:=⟨_,aN (by have:=(List.getElem?_eq_some_iff.1 J).1; omega)⟩
              have hb:=(FK (as:=ancs L []) (i:=i) (cJ C L 0)).2 q (by rw [←uM]; exact hq)
              obtain ⟨x,hx,_⟩:=(FF q).1 (aY hq)
              have YV:=Qt q x hx i hb
              rcases su hle with e | e
              · subst e; rw [hq] at J; simp at J; omega
              · obtain ⟨a1,b1⟩:=List.getElem?_eq_some_iff.1 hq
                obtain ⟨a2,b2⟩:=List.getElem?_eq_some_iff.1 J
                have:=(List.pairwise_iff_getElem.1 I) k idx a1 a2 e
                omega
            exact yO (Hs:=fun k=>(hs[k]?).getD s.h) o9 (fun p=>FF p) I t1 (by rw [TB]; rfl) (fun k p J=>by rw [TA k p J]; rfl) i k (by have:=(List.getElem?_eq_some_iff.1 ho).1; omega) hk a_ TC
          rw [←yw]
          exact ⟨h,e3 hw⟩
        · have hm:(hs[k]?).getD s.h∈(hs.drop (fR ((nth (ancs L []) i).getD 0) (cJ C L 0))).take (iG (ancs L []) i (cJ C L 0)+1-fR ((nth (ancs L []) i).getD 0) (cJ C L 0)):=by
            have UP:k<hs.length:=by omega
            refine aY (i:=k-fR ((nth (ancs L []) i).getD 0) (cJ C L 0)) ?_
            rw [jj,au (by omega),jk,Nat.add_sub_cancel' UO,aN UP]
            simp
          exact Ja _ g2 hw _ hm
theorem Oq {L:List Oper}{S:Nat→Prop}(J:∀i o,L[i]?=some o→∀e∈o.after,eA e=true→e.on<i)(hn:∀i o,¬ jM L S i o): ∀i,i<L.length→S i:=by
 intro i
 induction i using Nat.strongRecOn with
 | _ i ih =>
  intro hi
  refine Classical.byContradiction fun hS => ?_
  refine hn i L[i] ⟨aN hi,hS,fun e he I => ?_⟩
  have:=J i L[i] (aN hi) e he I
  exact ih e.on this (by omega)
theorem fh.done {L:List Oper}{s:St}{st:Nat→St}{vv:Nat→V}{es:List Nat}{Hs:Nat→H}{c₀ c:Ctx}{w₀ w:World}{d₀:List Deferred}{S:Nat→Prop}{early:Nat→Option (Nat×FV)}{k:Nat}{a:Act}
 (D:fN C self L s st vv es Hs)(I:fh C self L s st vv es Hs c₀ w₀ d₀ S early k c a w)(iy:∀p,es[k]?=some p→¬ S p)(J:∀i,i<L.length→S i):
  Rel c (st L.length).h w∧c8 c (st L.length).env (st L.length).ax a:=by
 have a_:∀p∈es,p<L.length:=fun p hp=>by
  obtain ⟨o,ho,_⟩:=(D.oD p).1 hp
  exact (List.getElem?_eq_some_iff.1 ho).1
 have hk:k=es.length:=by
  refine Nat.le_antisymm I.CY (nL fun h => ?_)
  exact iy _ (aN h) (J _ (a_ _ (pR h)))
 have Qu:∀p,early p=none:=fun p=>by
  cases h:early p with
  | none=>rfl
  | some b =>
   obtain ⟨_,idx,h1,h2⟩:=I.qb p b h
   have:=(List.getElem?_eq_some_iff.1 h2).1
   omega
 refine ⟨?_,?_⟩
 ·rw [D.CX L.length k (aD _) I.CY (fun idx p _ hp=>a_ p (aY hp)) (fun idx p hle hp=>by have:=(List.getElem?_eq_some_iff.1 hp).1; omega)]
  exact I.rel
 ·have hv:∀t,a.tmps.getD t undef=conc c ((st L.length).env.v t)∧wf c ((st L.length).env.v t):=fun t=>by
   rcases I.tmp t with ⟨i,o,g1,g2,g3,g4,g5⟩ | ⟨g1,g2,g3⟩
   ·have:(st L.length).env.v t=vv i:=by
     rcases D.Cu t L.length (aD _) with ⟨j,oj,h1,h2,h3,h4,h5⟩ | ⟨h1,_⟩
     ·have e1:=h4 i o (List.getElem?_eq_some_iff.1 g2).1 g2 g3
      have e2:=g4 j oj (J j h1) h2 h3
      have:j=i:=by omega
      subst this; exact h5
     ·exact absurd g3 (h1 i o (List.getElem?_eq_some_iff.1 g2).1 g2)
    rcases g5 with ⟨b,e1,_⟩ | ⟨_,e2,e3⟩
    ·rw [Qu i] at e1; cases e1
    ·rw [this]; exact ⟨e2,e3⟩
   ·have:(st L.length).env.v t=s.env.v t:=by
     rcases D.Cu t L.length (aD _) with ⟨j,oj,h1,h2,h3,h4,h5⟩ | ⟨_,h⟩
     ·exact absurd h3 (g1 j oj (J j h1) h2)
     ·exact h
    rw [this]; exact ⟨g2,g3⟩
  exact ⟨by rw [I.size,D.ax L.length (aD _)],fun t=>(hv t).1,fun t=>(hv t).2⟩
theorem fh.congr {L:List Oper}{s:St}{st:Nat→St}{vv:Nat→V}{es:List Nat}{Hs:Nat→H}{c₀ c:Ctx}{w₀ w:World}{d₀:List Deferred}{S S':Nat→Prop}{early:Nat→Option (Nat×FV)}{k:Nat}{a:Act}
 (I:fh C self L s st vv es Hs c₀ w₀ d₀ S early k c a w)(h:∀j,S j↔S' j): fh C self L s st vv es Hs c₀ w₀ d₀ S' early k c a w:=by
 have:S=S':=funext fun j=>propext (h j)
 rw [←this]; exact I
theorem Ls (hS:ir C.P self)(hT:fe C){r:Option Nat}{ops:Array Oper}{L:List Oper}(hL:ops.toList=L){Q:Exit→Act→World→Prop}{s:St}{st:Nat→St}{vv:Nat→V}{es:List Nat}{Hs:Nat→H}
 {c₀:Ctx}{w₀:World}{d₀:List Deferred}(D:fN C self L s st vv es Hs)
 (hQ:∀c a w,Rel c (st L.length).h w→c8 c (st L.length).env (st L.length).ax a→bY c₀ w₀ c w→a.defers=d₀→Q .normal a w):
  ∀(fuel:Nat) (J:Array Bool) (early:Nat→Option (Nat×FV)) (k:Nat) (c:Ctx) (a:Act) (w:World),J.size=L.length→J.count false≤fuel →
   fh C self L s st vv es Hs c₀ w₀ d₀ (fun j=>J.getD j false=true) early k c a w→wpAnyIn (Fr r) 0 C.P .any ops Q fuel J a w:=by
 intro fuel
 induction fuel with
 | zero =>
  intro J early k c a w eC Qv I
  have kT:∀i,i<L.length→J.getD i false=true:=fun i hi=>by
   have h0:J.count false=0:=by omega
   have:false∉J:=Array.count_eq_zero.1 h0
   rw [jP,r8 (by omega)]
   cases hb:J[i]'(by omega) with
   | true=>rfl
   | false=>exact absurd (by rw [←hb]; exact Array.getElem_mem _) this
  obtain ⟨kV,k',c',I',iy⟩:=fh.BJ D (es.length-k) k early c rfl I
  obtain ⟨r1,r2⟩:=I'.done D iy kT
  refine ⟨?_,hQ c' a w r1 r2 I'.FG I'.defers⟩
  refine List.eq_nil_iff_forall_not_mem.2 fun j hj => ?_
  obtain ⟨h1,o,h2,_⟩:=mem_ready.1 hj
  have a_:j<L.length:=by rw [←hL]; simpa using (Array.getElem?_eq_some_iff.1 h2).1
  have h3:=kT j a_
  rw [jP,r8 (by omega)] at h1 h3
  simp at h1 h3
  rw [h1] at h3; cases h3
 | succ fuel ih =>
  intro J early k c a w eC Qv I
  obtain ⟨kV,k',c',I',iy⟩:=fh.BJ D (es.length-k) k early c rfl I
  have Jb:∀j,j∈Region.ready .any ops J↔∃o,jM L (fun j=>J.getD j false=true) j o:=fun j=>by
   rw [mem_ready]
   constructor
   ·rintro ⟨h1,o,h2,h3⟩
    refine ⟨o,by rw [←hL,ie]; exact h2,fun h4 => ?_,fun e he hb=>h3 e he ?_⟩
    ·have a_:j<J.size:=by rw [eC,←hL]; simpa using (Array.getElem?_eq_some_iff.1 h2).1
     rw [jP,r8 a_] at h1 h4
     simp at h1 h4
     rw [h1] at h4; cases h4
    ·rw [←hb]; cases e; rename_i on g; cases g <;> rfl
   ·rintro ⟨o,R⟩
    have h2:=R.at_
    rw [←hL,ie] at h2
    refine ⟨?_,o,h2,fun e he hb=>R.G2 e he ?_⟩
    ·have a_:j<J.size:=by rw [eC,←hL]; simpa using (Array.getElem?_eq_some_iff.1 h2).1
     have h4:=R.not
     rw [jP,r8 a_] at h4 ⊢
     simpa using h4
    ·rw [←hb]; cases e; rename_i on g; cases g <;> rfl
  refine ⟨fun xJ => ?_,fun i hi => ?_⟩
  ·have kT:=Oq (S:=fun j=>J.getD j false=true) D.back (fun i o R=>by
    have:=(Jb i).2 ⟨o,R⟩
    rw [xJ] at this; simp at this)
   obtain ⟨r1,r2⟩:=I'.done D iy kT
   exact hQ c' a w r1 r2 I'.FG I'.defers
  ·obtain ⟨o,R⟩:=(Jb i).1 hi
   have a_:i<J.size:=by rw [eC]; exact (List.getElem?_eq_some_iff.1 R.at_).1
   have Qw:J[i]=false:=by
    have:=R.not
    rw [jP,r8 a_] at this
    simpa using this
   refine I'.Qq hS hT hL D iy R ?_
   intro Ot Wl oX uT uU Wm
   refine ih (J.setIfInBounds i true) Ot Wl oX uT uU (by simp [eC]) ?_ (Wm.congr fun j => ?_)
   ·have:(J.setIfInBounds i true).count false=J.count false-1:=by
     rw [Array.setIfInBounds_def,dif_pos a_,Array.count_set]
     simp [Qw]
    omega
   ·by_cases oY:j=i
    ·subst oY
     simp [jP,a_]
    ·simp [jP,vP (iS oY),oY]
theorem Jc (hS:ir C.P self)(hT:fe C)(hm:C.P.follows .mixedOrders=true){r:Option Nat}{id:Nat}{ops:Array Oper}{s s':St}(hr:jV C self ops.toList s=some s'){Q:Exit→Act→World→Prop}
 {c:Ctx}{a:Act}{w:World}(h:Rel c s.h w)(he:c8 c s.env s.ax a)
 (hQ:∀c' J w',Rel c' s'.h w'→c8 c' s'.env s'.ax J→bY c w c' w'→J.defers=a.defers→Q .normal J w'):
  (Code.region id ops true).wpIn (Fr r) 0 C.P Q a w:=by
 obtain ⟨st,vv,Hs,D,hz,_⟩:=Lr hr
 refine wpIn_region_any hm ?_
 have UQ:bY c w c { w with drawn:=w.drawn+1 }:=bY.drew c w
 have oR:Rel c s.h { w with drawn:=w.drawn+1 }:=h.drew
 refine Ls hS hT rfl D (c₀:=c) (w₀:=w) (d₀:=a.defers) (fun c' J w' r1 r2 r3 r4=>hQ c' J w' (by rw [←hz]; exact r1) (by rw [←hz]; exact r2) r3 r4)
  ops.size (Array.replicate ops.size false) (fun _=>none) 0 c a _ (by simp) (by simp) ?_
 have I:∀j,¬ (Array.replicate ops.size false).getD j false=true:=fun j=>by
  rw [jP,Array.getElem?_replicate]; split <;> simp
 refine ⟨fun i o hi=>absurd hi (I i),fun idx p h=>by omega,dR _,fun idx p _ _ hp=>absurd hp (I p),(fun p b h=>by cases h),(by rw [D.G0]; exact oR),he.size,
  fun t=>.inr ⟨fun j o hj=>absurd hj (I j),he.val t,he.uf t⟩,(fun p b h=>by cases h),(fun p q b b' h=>by cases h),UQ,rfl⟩
end
end Go.Proofs.YtefepnnfphdkpaaGreat.Am
