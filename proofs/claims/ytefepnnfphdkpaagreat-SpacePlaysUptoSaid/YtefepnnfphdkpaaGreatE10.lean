/- SpacePlays: a part of its proof; conditions: its statement's. -/
import Derived.Test.YtefepnnfphdkpaaGreatE09
namespace Go.Proofs.YtefepnnfphdkpaaGreat.Am
open Go
section
variable {C:cB} {self:Self} {c:Ctx} {w:World}
variable {Fl:Nat→Prop} {L:List Oper} {s:St} {st:Nat→St} {vv:Nat→V} {es:List Nat} {Hs:Nat→H}
variable {c₀:Ctx} {w₀:World} {d₀:List Deferred} {S:Nat→Prop} {early:Nat→Option (Nat×FV)} {k i:Nat} {a:Act} {o:Oper}
structure kT (L:List Oper)(S:Nat→Prop)(i:Nat)(o:Oper): Prop where
 at_:L[i]?=some o
 not:¬ S i
 Jt:∀e∈o.after,fb e=true→S e.on
theorem kT.Tr (D:gL C self Fl L s st vv es Hs)(I:∀i o,S i→L[i]?=some o→∀e∈o.after,fb e=true→S e.on)(R:kT L S i o){j:Nat}
 (h:bit ((nth (ancs L []) i).getD 0) j=true): S j∧j<i :=
 E3 D.back S i o R.at_ (fun k o' _ J hk=>I k o' hk J) R.Jt j h
theorem E8 (D:gL C self Fl L s st vv es Hs)(I:∀i o,S i→L[i]?=some o→∀e∈o.after,fb e=true→S e.on){j q:Nat}{x:Oper}(hj:S j)(hx:L[j]?=some x)
 (h:bit ((nth (ancs L []) j).getD 0) q=true): S q∧q<j :=
 E3 D.back S j x hx (fun k o' _ J hk=>I k o' hk J) (I j x hj hx) q h
theorem kT.later (D:gL C self Fl L s st vv es Hs)(I:∀i o,S i→L[i]?=some o→∀e∈o.after,fb e=true→S e.on)(R:kT L S i o){j:Nat}{x:Oper}
 (hj:S j)(hx:L[j]?=some x)(J:i<j): kg L o x=true:=by
 rcases D.Jp j x hx i o J R.at_ with h | ⟨h,_⟩
 ·exact absurd (E8 D I hj hx h).1 R.not
 ·exact h
theorem kT.before (D:gL C self Fl L s st vv es Hs)(I:∀i o,S i→L[i]?=some o→∀e∈o.after,fb e=true→S e.on)(R:kT L S i o){j:Nat}{x:Oper}
 (hx:L[j]?=some x)(J:j<i): S j∨(kg L x o=true∧(isEff C x.op=false∨isEff C o.op=false∨Fl i)):=by
 rcases D.Jp i o R.at_ j x J hx with h | h
 ·exact .inl (R.Tr D I h).1
 ·exact .inr h
theorem gh.Ig (D:gL C self Fl L s st vv es Hs)(I:gh C self Fl L s st vv es Hs c₀ w₀ d₀ S early k c a w)(jo:∀p,es[k]?=some p→¬ S p)(R:kT L S i o)
 {t:Tmp}(ht:t∈looks L o): a.tmps.getD t undef=conc c ((st i).env.v t)∧wf c ((st i).env.v t):=by
 have hlen:i<L.length:=(List.getElem?_eq_some_iff.1 R.at_).1
 -- those that write it and have come stand ahead in the text
 have Rf:∀j x,S j→L[j]?=some x→x.dst=some t→j<i:=fun j x hj hx hd=>by
  rcases Ck j i with h | h | h
  ·exact h
  ·subst h; exact absurd hj R.not
  ·exact absurd ht ((tP (R.later D I.closed hj hx h)).2 t hd)
 have P3:∀j x,j<i→L[j]?=some x→x.dst=some t→S j:=fun j x bC hx hd=>by
  rcases R.before D I.closed hx bC with h | ⟨h,_⟩
  ·exact h
  ·exact absurd ht ((tP h).1 t hd).1
 rcases I.tmp t with ⟨J,Ju,g1,g2,g3,g4,g5⟩ | ⟨g1,g2,g3⟩
 ·have bC:=Rf J Ju g1 g2 g3
  have sJ:(st i).env.v t=vv J:=by
   rcases D.Er t i (by omega) with ⟨j,oj,h1,h2,h3,h4,h5⟩ | ⟨h1,_⟩
   ·have e1:=h4 J Ju bC g2 g3
    have e2:=g4 j oj (P3 j oj h1 h2 h3) h2 h3
    have:j=J:=by omega
    subst this; exact h5
   ·exact absurd g3 (h1 J Ju bC g2)
  rcases g5 with ⟨b,e1,_⟩ | ⟨_,e2,e3⟩
  ·exfalso
   obtain ⟨_,idx,f2,f3⟩:=I.r7 J b e1
   obtain ⟨f5,_⟩:=I.late idx J f2 f3 g1
   obtain ⟨q,hq⟩:∃q,es[k]?=some q:=⟨_,aN (by have:=(List.getElem?_eq_some_iff.1 f3).1; omega)⟩
   by_cases P4:q=J
   ·subst P4; exact jo _ hq g1
   ·have X_:q<J:=by
     have:k≠idx:=fun e=>by subst e; rw [hq] at f3; simp at f3; exact P4 f3
     exact (y_ D hq f3).1 (by omega)
    rcases D.Lb J Ju g2 f5 i o R.at_ bC with h | h
    ·exact ((tP h).1 t g3).1 ht
    ·exact jo q hq (R.Tr D I.closed (h q (a_ hq) X_)).1
  ·rw [sJ]; exact ⟨e2,e3⟩
 ·have sJ:(st i).env.v t=s.env.v t:=by
   rcases D.Er t i (by omega) with ⟨j,oj,h1,h2,h3,h4,h5⟩ | ⟨_,h⟩
   ·exact absurd h3 (g1 j oj (P3 j oj h1 h2 h3) h2)
   ·exact h
  rw [sJ]; exact ⟨g2,g3⟩
theorem gh.EY (D:gL C self Fl L s st vv es Hs)(I:gh C self Fl L s st vv es Hs c₀ w₀ d₀ S early k c a w)(J:∀p,es[k]?=some p→¬ S p)(R:kT L S i o): y7 c (st i).env a o:=by
 intro x hx v hv
 cases x with
 | tmp t =>
  simp only [evO,ak] at hv
  subst hv
  have hl:t∈looks L o:=List.mem_append_left _ (List.mem_filterMap.2 ⟨.tmp t,by simpa using hx,rfl⟩)
  exact I.Ig D J R hl
 | const x =>
  simp only [evO] at hv
  obtain ⟨h1,h2⟩:=rf hv c
  exact ⟨h1.symm,h2⟩
 | global g=>simp [evO] at hv
 | func f =>
  simp only [evO,ak] at hv
  subst hv
  exact ⟨by simp [Act.eval,conc,concL],by simp [wf,eW]⟩
theorem gh.wanted (D:gL C self Fl L s st vv es Hs){ops:Array Oper}(hL:ops.toList=L)(I:gh C self Fl L s st vv es Hs c₀ w₀ d₀ S early k c a w)(J:∀p,es[k]?=some p→¬ S p)(R:kT L S i o):
  Region.wanted o (yielded ops a.tmps)=wantedV L (st i).env o:=by
 rw [←hL]
 refine Bc (c:=c) fun j w d hg hd => ?_
 have hl:d∈looks L o:=by
  refine List.mem_append_right _ ?_
  rw [hg]
  simp only [fG]
  rw [←hL,iG,hd]
  simp
 exact (I.Ig D J R hl).1
theorem gh.Ih (D:gL C self Fl L s st vv es Hs)(I:gh C self Fl L s st vv es Hs c₀ w₀ d₀ S early k c a w)(R:kT L S i o){c':Ctx}(e:Ext c c'){mS:Nat→Option (Nat×FV)}
 (Ii:∀j,j≠i→mS j=early j)(X:Value)
 (hX:(∃b,mS i=some b∧X=b.2.val b.1)∨(mS i=none∧X=conc c' (vv i)∧wf c' (vv i)))(t:Tmp):
  (∃J Ju,(S J∨J=i)∧L[J]?=some Ju∧Ju.dst=some t∧(∀j o',(S j∨j=i)→L[j]?=some o'→o'.dst=some t→j≤J) ∧
    ((∃b,mS J=some b∧(a.put o.dst X).tmps.getD t undef=b.2.val b.1)∨(mS J=none∧(a.put o.dst X).tmps.getD t undef=conc c' (vv J)∧wf c' (vv J)))) ∨
   ((∀j o',(S j∨j=i)→L[j]?=some o'→o'.dst≠some t)∧(a.put o.dst X).tmps.getD t undef=conc c' (s.env.v t)∧wf c' (s.env.v t)):=by
 have hlen:i<L.length:=(List.getElem?_eq_some_iff.1 R.at_).1
 by_cases hd:o.dst=some t
 ·left
  refine ⟨i,o,.inr rfl,R.at_,hd,fun j x hj hx P5 => ?_,?_⟩
  ·rcases hj with hj | hj
   ·rcases j8 i j with h | h
    ·exact absurd P5 ((tP (R.later D I.closed hj hx h)).1 t hd).2
    ·exact h
   ·omega
  ·obtain ⟨h,p1,_,_⟩:=D.step i o R.at_
   obtain ⟨_,_,p3,_⟩:=om p1
   have fC:t<a.tmps.size:=by rw [I.size,←D.ax i (by omega)]; exact p3 t hd
   have ES:(a.put o.dst X).tmps.getD t undef=X:=by rw [hd]; simp [Act.put,Array.getD,fC]
   rw [ES]
   exact hX
 ·have ES:(a.put o.dst X).tmps.getD t undef=a.tmps.getD t undef:=by
   cases ho:o.dst with
   | none=>rfl
   | some d =>
    have:d≠t:=fun e=>hd (by rw [ho,e])
    simp [Act.put,kU,yB this]
  rw [ES]
  rcases I.tmp t with ⟨J,Ju,g1,g2,g3,g4,g5⟩ | ⟨g1,g2,g3⟩
  ·left
   have dz:J≠i:=fun e=>by subst e; exact R.not g1
   refine ⟨J,Ju,.inl g1,g2,g3,fun j x hj hx P5 => ?_,?_⟩
   ·rcases hj with hj | hj
    ·exact g4 j x hj hx P5
    ·subst hj; rw [R.at_] at hx; simp at hx; subst hx; exact absurd P5 hd
   ·rw [Ii J dz]
    rcases g5 with h | ⟨e1,e2,e3⟩
    ·exact .inl h
    ·exact .inr ⟨e1,by rw [e2,(b_ e _ e3).1],(b_ e _ e3).2⟩
  ·right
   refine ⟨fun j x hj hx => ?_,by rw [g2,(b_ e _ g3).1],(b_ e _ g3).2⟩
   rcases hj with hj | hj
   ·exact g1 j x hj hx
   ·subst hj; rw [R.at_] at hx; simp at hx; subst hx; exact hd
theorem gh.Bf (I:gh C self Fl L s st vv es Hs c₀ w₀ d₀ S early k c a w)(R:kT L S i o):
  ∀j x,(S j∨j=i)→L[j]?=some x→∀e∈x.after,fb e=true→(S e.on∨e.on=i):=by
 intro j x J hx e he hb
 rcases J with J | J
 ·exact .inl (I.closed j x J hx e he hb)
 ·subst J; rw [R.at_] at hx; simp at hx; subst hx; exact .inl (R.Jt e he hb)
theorem E9 (a:Act)(d:Option Tmp)(X:Value): (a.put d X).tmps.size=a.tmps.size:=by cases d <;> simp [Act.put]
theorem put_defers (a:Act)(d:Option Tmp)(X:Value): (a.put d X).defers=a.defers:=by cases d <;> rfl
theorem gh.next (D:gL C self Fl L s st vv es Hs)(I:gh C self Fl L s st vv es Hs c₀ w₀ d₀ S early k c a w)(R:kT L S i o){c':Ctx}{w':World}(X:cF c w c' w')(k':Nat)
 (J:(k'=k∧isEff C o.op=false)∨(k'=k+1∧es[k]?=some i))(uu:Rel c' (Hs k') w')(hv:wf c' (vv i)):
  gh C self Fl L s st vv es Hs c₀ w₀ d₀ (fun j=>S j∨j=i) early k' c' (a.put o.dst (conc c' (vv i))) w':=by
 have ZA:early i=none:=by
  cases h:early i with
  | none=>rfl
  | some b=>exact absurd (I.r7 i b h).1 R.not
 refine ⟨I.Bf R,fun idx p bC hp => ?_,?_,fun idx p hle hp wM => ?_,fun p b hp => ?_,uu,by rw [E9]; exact I.size,
  fun t=>I.Ih D R X.ext (fun j _=>rfl) _ (.inr ⟨ZA,rfl,hv⟩) t,fun p b hp => ?_,I.distinct,I.Ie.trans X,by rw [put_defers]; exact I.defers⟩
 ·rcases J with ⟨rfl,_⟩ | ⟨rfl,J⟩
  ·exact .inl (I.pre idx p bC hp)
  ·by_cases h:idx=k
   ·subst h; rw [J] at hp; simp at hp; exact .inr hp.symm
   ·exact .inl (I.pre idx p (by omega) hp)
 ·rcases J with ⟨rfl,_⟩ | ⟨rfl,J⟩
  ·exact I.E7
  ·have:=(List.getElem?_eq_some_iff.1 J).1; omega
 ·rcases wM with wM | wM
  ·refine I.late idx p ?_ hp wM
   rcases J with ⟨rfl,_⟩ | ⟨rfl,J⟩ <;> omega
  ·subst wM
   exfalso
   rcases J with ⟨rfl,J⟩ | ⟨rfl,J⟩
   ·obtain ⟨o',h1,h2⟩:=(D.qw p).1 (a_ hp)
    rw [R.at_] at h1; simp at h1; subst h1; rw [J] at h2; cases h2
   ·have:=Ld D hp J; omega
 ·obtain ⟨g1,idx,g2,g3⟩:=I.r7 p b hp
  refine ⟨.inl g1,idx,?_,g3⟩
  rcases J with ⟨rfl,_⟩ | ⟨rfl,J⟩
  ·exact g2
  ·rcases uL g2 with e | e
   ·subst e; rw [J] at g3; simp at g3; subst g3; exact absurd g1 R.not
   ·exact e
 ·obtain ⟨g1,g2,g3,o',T,cs,g4,g5,g6,g7⟩:=I.blocks p b hp
  refine ⟨g1,ie g2 X.size,fun id wJ he => ?_,o',T,cs,g4,g5,fun v hv=>⟨(b_ X.ext v (g6 v hv).1).2,(g6 v hv).2⟩,by rw [X.j5 b.1 g2 (fun id hi he=>absurd he (g3 id hi)),nZ fun v hv=>(b_ X.ext v (g6 v hv).1).1]; exact g7⟩
  by_cases Ts:id<c.N
  ·exact g3 id Ts (by rw [←X.ext.ρ id Ts]; exact he)
  ·rcases X.fresh id (by omega) wJ with h | ⟨j,hj,h,_⟩
   ·omega
   ·exact g3 j hj (by rw [h]; exact he)
theorem gh.float (D:gL C self Fl L s st vv es Hs)(I:gh C self Fl L s st vv es Hs c₀ w₀ d₀ S early k c a w)(R:kT L S i o)(E6:Fl i){fv:FV}{cs:List V}{T:TypeId}
 (F:CE C self (st i).env o fv cs T)(iS:∀v∈cs,wf c v∧storable v=true){idx:Nat}(Ya:es[idx]?=some i)(hle:k≤idx):
  gh C self Fl L s st vv es Hs c₀ w₀ d₀ (fun j=>S j∨j=i) (fun j=>if j=i then some (w.heap.size,fv) else early j) k c (a.put o.dst (fv.val w.heap.size))
   (w.alloc (.cells (cs.map (conc c)).toArray T (0,0))):=by
 obtain ⟨j1,j2⟩:=I.rel.X5 (.cells (cs.map (conc c)).toArray T (0,0))
 have nS:∀j,S j→j≠i:=fun j hj e=>by subst e; exact R.not hj
 refine ⟨I.Bf R,fun idx p bC J=>.inl (I.pre idx p bC J),I.E7,fun Yb p S9 J wM => ?_,fun p b J => ?_,j1,by rw [E9]; exact I.size,
  fun t=>I.Ih D R (Ext.refl c) (fun j hj=>by simp [hj]) _ (.inl ⟨(w.heap.size,fv),by simp,rfl⟩) t,fun p b J => ?_,fun p q b b' J hq he => ?_,I.Ie.trans j2,by rw [put_defers]; exact I.defers⟩
 ·rcases wM with wM | wM
  ·obtain ⟨g1,b,g3⟩:=I.late Yb p S9 J wM
   exact ⟨g1,b,by simp [nS p wM,g3]⟩
  ·subst wM
   exact ⟨E6,_,by simp; rfl⟩
 ·by_cases h:p=i
  ·subst h; exact ⟨.inr rfl,idx,hle,Ya⟩
  ·simp [h] at J
   obtain ⟨g1,g2⟩:=I.r7 p b J
   exact ⟨.inl g1,g2⟩
 ·by_cases h:p=i
  ·subst h
   simp at J
   subst J
   refine ⟨I.Ie.size,by simp,fun id wJ=>iJ (I.rel.kP id wJ),o,T,cs,R.at_,F,iS,by rw [gX]; simp⟩
  ·simp [h] at J
   obtain ⟨g1,g2,g3,o',T',cs',g4,g5,g6,g7⟩:=I.blocks p b J
   exact ⟨g1,by simp; omega,g3,o',T',cs',g4,g5,g6,by rw [gX,ah (iJ g2)]; exact g7⟩
 ·by_cases h1:p=i <;> by_cases h2:q=i
  ·omega
  ·simp [h1] at J
   simp [h2] at hq
   have:=(I.blocks q b' hq).2.1
   rw [←J] at he
   simp at he
   omega
  ·simp [h1] at J
   simp [h2] at hq
   have:=(I.blocks p b J).2.1
   rw [←hq] at he
   simp at he
   omega
  ·simp [h1] at J
   simp [h2] at hq
   exact I.distinct p q b b' J hq he
theorem gh.Tt (hS:ik C.P self)(hT:fo C){r:Option Nat}{ops:Array Oper}(hL:ops.toList=L){Q:Exit→Act→World→Prop}(D:gL C self Fl L s st vv es Hs)
 (I:gh C self Fl L s st vv es Hs c₀ w₀ d₀ S early k c a w)(jo:∀p,es[k]?=some p→¬ S p)(R:kT L S i o){K:Act→World→Prop}
 (hK:∀mS k' c' a' w',gh C self Fl L s st vv es Hs c₀ w₀ d₀ (fun j=>S j∨j=i) mS k' c' a' w'→K a' w'): wpOpIn (Fr r) 0 C.P ops Q i K a w:=by
 have hlen:i<L.length:=(List.getElem?_eq_some_iff.1 R.at_).1
 have ZB:ops[i]?=some o:=by rw [←iG,hL]; exact R.at_
 obtain ⟨h,p1,p2,p3⟩:=D.step i o R.at_
 have ph:=(om p1).1
 -- an effect that is no new variable comes in its place
 have place:isEff C o.op=true→¬ Fl i→es[k]?=some i:=by
  intro he ha
  obtain ⟨idx,J⟩:=uF ((D.qw i).2 ⟨o,R.at_,he⟩)
  have h1:¬ idx<k:=fun bC=>R.not (I.pre idx i bC J)
  by_cases h2:idx=k
  ·subst h2; exact J
  ·exfalso
   obtain ⟨q,hq⟩:∃q,es[k]?=some q:=⟨_,aN (by have:=(List.getElem?_eq_some_iff.1 J).1; omega)⟩
   obtain ⟨oq,g1,g2⟩:=(D.qw q).1 (a_ hq)
   have P4:q<i:=(y_ D hq J).1 (by omega)
   rcases R.before D I.closed g1 P4 with hb | ⟨_,hb⟩
   ·exact jo q hq hb
   ·rcases hb with hb | hb | hb
    ·rw [g2] at hb; cases hb
    ·rw [he] at hb; cases hb
    ·exact ha hb
 have P6:es[k]?=some i→(st i).h=Hs k:=fun hk=>D.E5 i k (by omega) I.E7 (fun idx q bC hq=>(y_ D hq hk).1 bC) (fun idx q hle hq=>by
  rcases uL hle with e | e
  ·subst e; rw [hk] at hq; simp at hq; omega
  ·exact Nat.le_of_lt ((y_ D hk hq).1 e))
 unfold wpOpIn
 rw [ZB]
 simp only [I.wanted D hL jo R]
 cases hw:wantedV L (st i).env o with
 | false =>
  simp only [dW,bG]
  refine ⟨fun _ _=>trivial,?_⟩
  obtain ⟨hv,hh⟩:=p3 hw
  have Tu:wf c (vv i):=by rw [hv]; simp [bK,wf,eW]
  have hX:conc c (vv i)=undef:=by rw [hv,ng]
  cases he:isEff C o.op with
  | false =>
   have:=I.next D R (cF.refl c w) k (.inl ⟨rfl,he⟩) I.rel Tu
   rw [hX] at this
   exact hK _ _ _ _ _ this
  | true =>
   have ha:¬ Fl i:=fun q=>by rw [(D.y9 i o R.at_ q).2] at hw; cases hw
   have hk:=place he ha
   have uu:Rel c (Hs (k+1)) w:=by rw [D.Bd k i hk,ph,hh,P6 hk]; exact I.rel
   have:=I.next D R (cF.refl c w) (k+1) (.inr ⟨rfl,hk⟩) uu Tu
   rw [hX] at this
   exact hK _ _ _ _ _ this
 | true =>
  simp only [bE]
  cases he:isEff C o.op with
  | false =>
   obtain ⟨h',kx⟩:=D.same i o R.at_ he k I.E7 (fun idx p bC hp=>by
    cases hb:bit ((nth (ancs L []) p).getD 0) i with
    | false=>rfl
    | true =>
     obtain ⟨x,hx,_⟩:=(D.qw p).1 (a_ hp)
     exact absurd (E8 D I.closed (I.pre idx p bC hp) hx hb).1 R.not) (fun idx p hle hp=>by
    cases hb:bit ((nth (ancs L []) i).getD 0) p with
    | false=>rfl
    | true =>
     obtain ⟨q,hq⟩:∃q,es[k]?=some q:=⟨_,aN (by have:=(List.getElem?_eq_some_iff.1 hp).1; omega)⟩
     exact absurd (R.Tr D I.closed (D.WM i o R.at_ he k idx q p hle hq hp hb)).1 (jo q hq)) hw
   have hh:=Dx he kx
   subst hh
   refine (ve hS hT I.rel (I.EY D jo R) kx).wpIn (lz kx) ?_
   intro c' w' r1 r2 r3
   exact hK _ _ _ _ _ (I.next D R r2 k (.inl ⟨rfl,he⟩) r1 r3)
  | true =>
   have kx:=p2 hw
   by_cases hk:es[k]?=some i
   ·rw [P6 hk] at kx
    refine (ve hS hT I.rel (I.EY D jo R) kx).wpIn (lz kx) ?_
    intro c' w' r1 r2 r3
    exact hK _ _ _ _ _ (I.next D R r2 (k+1) (.inr ⟨rfl,hk⟩) (by rw [D.Bd k i hk,ph]; exact r1) r3)
   ·have ha:Fl i:=HV fun ha=>hk (place he ha)
    obtain ⟨idx,J⟩:=uF ((D.qw i).2 ⟨o,R.at_,he⟩)
    have hle:k≤idx:=rM fun bC=>R.not (I.pre idx i bC J)
    obtain ⟨fv,cs,T,F⟩:=Js (D.y9 i o R.at_ ha).1 kx
    obtain ⟨iS,xj⟩:=F.run c a (I.EY D jo R)
    refine ⟨fun _ _=>trivial,?_⟩
    rw [Oper.semAt_eq _ _ _ (lz kx),xj w]
    exact hK _ _ _ _ _ (I.float D R ha F iS J hle)
end
end Go.Proofs.YtefepnnfphdkpaaGreat.Am
namespace Go.Proofs.YtefepnnfphdkpaaGreat.Am
open Go
theorem NP {a b:IntKind}(h:ikBeq a b=true): a=b:=by cases a <;> cases b <;> first | rfl | (simp [ikBeq] at h)
theorem tQ {a b:Int}(h:intBeq a b=true): a=b:=by
 cases a <;> cases b <;> simp [intBeq] at h <;> rw [h]
theorem Bg : ∀ {a b:List Nat},natsBeq a b=true→a=b
 | [],[],_=>rfl
 | [],_::_,h=>by simp [natsBeq] at h
 | _::_,[],h=>by simp [natsBeq] at h
 | x::a,y::b,h=>by
  simp only [natsBeq] at h
  cases I:Nat.beq x y with
  | false=>rw [I] at h; cases h
  | true=>rw [I,ag] at h; rw [beq_iff.1 I,Bg h]
theorem Le {a b:Cap}(h:a.beq b=true): a=b:=by
 cases a <;> cases b <;> simp [Cap.beq] at h
 ·rw [h]
 ·rw [h.1,h.2]
mutual
theorem CF : ∀(a b:V),V.beq a b=true→a=b
 | .bool a,b,h=>by cases b <;> simp [V.beq] at h; rw [h]
 | .int j a,b,h=>by
  cases b <;> simp [V.beq] at h
  rw [NP h.1,tQ h.2]
 | .str a,b,h=>by cases b <;> simp [V.beq] at h; rw [Bg h]
 | .b7,b,h=>by cases b <;> simp [V.beq] at h; rfl
 | .ptr x y,b,h=>by cases b <;> simp [V.beq] at h; rw [h.1,h.2]
 | .bu,b,h=>by cases b <;> simp [V.beq] at h; rfl
 | .sl x y z u,b,h=>by
  cases b <;> simp [V.beq] at h
  rw [h.1.1.1,h.1.1.2,h.1.2,Le h.2]
 | .kJ,b,h=>by cases b <;> simp [V.beq] at h; rfl
 | .map x,b,h=>by cases b <;> simp [V.beq] at h; rw [h]
 | .fn f x y,b,h=>by
  cases f with
  | func k=>cases b with
   | fn g u v=>cases g with
    | func j =>
     simp [V.beq] at h
     rw [h.1.1,sN x u h.1.2,sN y v h.2]
    | _=>simp [V.beq] at h
   | _=>simp [V.beq] at h
  | _=>cases b <;> simp [V.beq] at h
 | .Dq,b,h=>by cases b <;> simp [V.beq] at h; rfl
 | .iface t v,b,h=>by
  cases b <;> simp [V.beq] at h
  rw [h.1,CF v _ h.2]
 | .nu,b,h=>by cases b <;> simp [V.beq] at h; rfl
 | .agg l,b,h=>by cases b <;> simp [V.beq] at h; rw [sN l _ h]
 | .aY l,b,h=>by cases b <;> simp [V.beq] at h; rw [sN l _ h]
 | .KI _,b,h=>by cases b <;> simp [V.beq] at h
 | .sle a,b,h=>by cases b <;> simp [V.beq] at h; rw [h]
 | .su k x,b,h=>by
  cases b with
  | su j y =>
   simp [V.beq] at h
   rw [h.2]
   cases k <;> cases j <;> first | rfl | (simp [fkBeq] at h)
  | _=>simp [V.beq] at h
theorem sN : ∀(a b:List V),V.beqL a b=true→a=b
 | [],b,h=>by cases b <;> simp [V.beqL] at h; rfl
 | x::a,b,h=>by
  cases b with
  | nil=>simp [V.beqL] at h
  | cons y b =>
   simp only [V.beqL] at h
   cases I:V.beq x y with
   | false=>rw [I] at h; cases h
   | true=>rw [I,ag] at h; rw [CF x y I,sN a b h]
end
theorem CG {m:Nat}: ∀(es:List Nat),(∀idx p,idx<gP m es→es[idx]?=some p→bit m p=true)∧gP m es≤es.length:=by
 intro es
 induction es with
 | nil=>exact ⟨fun idx p _ h=>by simp at h,by simp [gP]⟩
 | cons q es J =>
  simp only [gP]
  cases hq:bit m q with
  | true =>
   rw [ag]
   refine ⟨fun idx p h1 I => ?_,by have:=J.2; simp; exact this⟩
   cases idx with
   | zero=>simp at I; subst I; exact hq
   | succ idx=>exact J.1 idx p (by omega) (by simpa using I)
  | false=>rw [ay]; exact ⟨fun idx p h=>by omega,by simp⟩
theorem NQ {m:Nat}: ∀(es:List Nat),ki m es=true→∀(J I p q:Nat),J≤I→es[J]?=some p→es[I]?=some q→bit m q=true→bit m p=true:=by
 intro es
 induction es with
 | nil=>intro _ J I p q _ h; simp at h
 | cons x es ih =>
  intro h J I p q hle h1 h2 hb
  simp only [ki] at h
  cases hx:bit m x with
  | true =>
   rw [hx,ag] at h
   cases J with
   | zero=>simp at h1; subst h1; exact hx
   | succ J =>
    cases I with
    | zero=>omega
    | succ I=>exact ih h J I p q (by omega) (by simpa using h1) (by simpa using h2) hb
  | false =>
   rw [hx,ay] at h
   cases I with
   | zero =>
    simp at h2
    subst h2
    rw [hx] at hb; cases hb
   | succ I =>
    have:=List.all_eq_true.1 h q (a_ (by simpa using h2))
    rw [hb] at this; cases this
theorem Ij {as:List Nat}{i:Nat}: ∀(es:List Nat),jy as i es≤es.length∧∀p,es[jy as i es]?=some p→bit ((nth as p).getD 0) i=true:=by
 intro es
 induction es with
 | nil=>exact ⟨by simp [jy],fun p h=>by simp at h⟩
 | cons q es I =>
  simp only [jy]
  cases J:bit ((nth as q).getD 0) i with
  | true=>rw [ag]; exact ⟨by simp,fun p h=>by simp at h; subst h; exact J⟩
  | false=>rw [ay]; exact ⟨by have:=I.1; simp; exact this,fun p h=>I.2 p (by simpa using h)⟩
section
variable {C:cB} {self:Self}
theorem Lf {L:List Oper}{o:Oper}{x:Env×V}: ∀(l:List H),sameIn C self L o x l=true→wantedV L x.1 o=true→∀h∈l,∃h',evOp C self x.1 h o=some (x.2,h'):=by
 intro l
 induction l with
 | nil=>intro _ _ h hm; simp at hm
 | cons y l J =>
  intro hs hw h hm
  simp only [sameIn,hw,ag] at hs
  cases he:evOp C self x.1 y o with
  | none=>simp [he] at hs
  | some r =>
   obtain ⟨v,h'⟩:=r
   simp only [he] at hs
   cases I:v.beq x.2 with
   | false=>rw [I] at hs; cases hs
   | true =>
    rw [I,ag] at hs
    rcases List.mem_cons.1 hm with rfl | hm
    ·exact ⟨h',by rw [he,CF _ _ I]⟩
    ·exact J hs hw h hm
theorem Dz {L:List Oper}{as es:List Nat}{hs:List H}: ∀(l:List Oper) (tr:List (Env×V)) (k:Nat),stayOk C self L as es hs l tr k=true →
  ∀j o x,l[j]?=some o→tr[j]?=some x→isEff C o.op=false →
   ki ((nth as (k+j)).getD 0) es=true∧(gP ((nth as (k+j)).getD 0) es=jy as (k+j) es ∨
    sameIn C self L o x ((hs.drop (gP ((nth as (k+j)).getD 0) es)).take (jy as (k+j) es+1-gP ((nth as (k+j)).getD 0) es))=true):=by
 intro l
 induction l with
 | nil=>intro tr k _ j o x h; simp at h
 | cons y l ih =>
  intro tr k h j o x ho hx he
  cases tr with
  | nil=>simp [stayOk] at h
  | cons z tr =>
   simp only [stayOk] at h
   have I:stayOk C self L as es hs l tr (k+1)=true:=by
    cases h1:isEff C y.op with
    | true=>rw [h1,ag] at h; exact h
    | false =>
     rw [h1,ay] at h
     cases J:(ki ((nth as k).getD 0) es&&Nat.beq (gP ((nth as k).getD 0) es) (jy as k es)) with
     | true=>rw [J,ag] at h; exact h
     | false =>
      rw [J,ay] at h
      cases h3:(ki ((nth as k).getD 0) es&&sameIn C self L y z ((hs.drop (gP ((nth as k).getD 0) es)).take (jy as k es+1-gP ((nth as k).getD 0) es))) with
      | true=>rw [h3,ag] at h; exact h
      | false=>rw [h3] at h; cases h
   cases j with
   | zero =>
    simp at ho hx
    subst ho hx
    rw [he,ay] at h
    simp only [jg]
    cases J:(ki ((nth as k).getD 0) es&&Nat.beq (gP ((nth as k).getD 0) es) (jy as k es)) with
    | true =>
     rw [aJ,beq_iff] at J
     exact ⟨J.1,.inl J.2⟩
    | false =>
     rw [J,ay] at h
     cases h3:(ki ((nth as k).getD 0) es&&sameIn C self L y z ((hs.drop (gP ((nth as k).getD 0) es)).take (jy as k es+1-gP ((nth as k).getD 0) es))) with
     | true =>
      rw [aJ] at h3
      exact ⟨h3.1,.inr h3.2⟩
     | false=>rw [h3] at h; cases h
   | succ j =>
    have:=ih tr (k+1) I j o x (by simpa using ho) (by simpa using hx) he
    rwa [show k+1+j=k+(j+1) from by omega] at this
theorem Rg {ops:List Oper}: ∀(l:List Oper) (tr:List (Env×V)),allW ops l tr=true→∀(i:Nat) (o:Oper) (x:Env×V),l[i]?=some o→tr[i]?=some x→isAlloc true o=true→wantedV ops x.1 o=true:=by
 intro l
 induction l with
 | nil=>intro tr _ i o x h; simp at h
 | cons y l ih =>
  intro tr h i o x ho I ha
  cases tr with
  | nil=>simp at I
  | cons z tr =>
   simp only [allW] at h
   cases J:(!isAlloc true y||wantedV ops z.1 y) with
   | false=>rw [J,ay] at h; cases h
   | true =>
    rw [J,ag] at h
    cases i with
    | zero =>
     simp at ho I
     subst ho
     subst I
     simpa [ha] using J
    | succ i=>exact ih tr h i o x (by simpa using ho) (by simpa using I) ha
theorem Eg {o:Oper}(h:isAlloc false o=true): isAlloc true o=true∧o.guard=none:=by
 unfold isAlloc at h ⊢
 split at h
 ·rename_i T d I J h3; simp [I,J,h3]
 ·rename_i t x y d I J h3; simp [I,J,h3]
 ·simp at h
 ·simp at h
theorem NR {L:List Oper}{s z:St}(hr:lp C self L s=some z):
    ∃Fl st vv Hs,gL C self Fl L s st vv (cU C L 0) Hs∧st L.length=z∧L.all (fun o => !EH o.op)=true:=by
  unfold lp at hr
  cases Tv:trace C self L L s [s.h] with
  | none=>simp [Tv] at hr
  | some q =>
      obtain ⟨tr,hs,z'⟩:=q
      simp only [Tv] at hr
      cases zu:stayOk C self L (ancs L []) (cU C L 0) hs L tr 0 with
      | false=>rw [zu] at hr; cases hr
      | true =>
        rw [zu,ag] at hr
        obtain ⟨fl,gq,hW,hr⟩:∃fl,mL C fl L=true∧(∀(i:Nat) (o:Oper) (x:Env×V),L[i]?=some o→tr[i]?=some x→isAlloc fl o=true→isAlloc true o=true∧wantedV L x.1 o=true)∧z'=z:=by
          cases h0:mL C false L with
          | true =>
            rw [h0,ag] at hr
            refine ⟨false,h0,fun i o x _ _ ha => ?_,bB hr⟩
            obtain ⟨k1,k2⟩:=Eg ha
            exact ⟨k1,by simp [wantedV,k2]⟩
          | false =>
            rw [h0,ay] at hr
            cases h1:(mL C true L&&allW L L tr) with
            | false=>rw [h1] at hr; cases hr
            | true =>
              rw [h1,ag] at hr
              rw [aJ] at h1
              exact ⟨true,h1.1,fun i o x ho hx ha=>⟨ha,Rg L tr h1.2 i o x ho hx ha⟩,bB hr⟩
        subst hr
        simp only [mL,aJ] at gq
        obtain ⟨⟨⟨s1,s2⟩,s3⟩,s4⟩:=gq
        obtain ⟨st,t1,t2,t3,t4,t5⟩:=NO L 0 s [s.h] tr hs z' Tv
        simp only [dY] at t2 t5
        have P7:∀i o,L[i]?=some o→∀e∈o.after,fb e=true→e.on<i:=fun i o ho e he hb=>by
          have:=E4 L 0 s1 i o ho e he hb; omega
        have Tw:∀i o,L[i]?=some o→∀j,bit ((nth (ancs L []) i).getD 0) j=true→j<i:=fun i o ho j hj =>
          (E3 P7 (fun _=>True) i o ho (fun _ _ _ _ _ _ _ _=>trivial) (fun _ _ _=>trivial) j hj).2
        have I:=(xo (C:=C) L 0).1
        have Ic:∀p,p∈cU C L 0↔∃o,L[p]?=some o∧isEff C o.op=true:=fun p=>by
          rw [K_]
          constructor
          · rintro ⟨i,o,rfl,h1,h2⟩; exact ⟨o,by simpa using h1,h2⟩
          · rintro ⟨o,h1,h2⟩; exact ⟨p,o,by omega,h1,h2⟩
        have WO:∀k p,(cU C L 0)[k]?=some p→hs[k+1]?=some (st (p+1)).h:=fun k p J=>by
          rw [t4]; simp [J]
        have WQ:hs[0]?=some s.h:=by rw [t4]; simp
        have aag:hs.length=(cU C L 0).length+1:=by rw [t4]; simp
        have ql:∀i o,L[i]?=some o→∃h,(st i).put o.dst (((tr[i]?).map (·.2)).getD bK) h=some (st (i+1)) ∧
            (wantedV L (st i).env o=true→evOp C self (st i).env (st i).h o=some (((tr[i]?).map (·.2)).getD bK,h))∧(wantedV L (st i).env o=false→((tr[i]?).map (·.2)).getD bK=bK∧h=(st i).h):=fun i o ho=>by
          obtain ⟨v,h,e1,e2,e3,e4⟩:=t5 i o ho
          refine ⟨h,?_,?_,?_⟩ <;> rw [e1] <;> simp only [iI,ew]
          · exact e2
          · exact e3
          · exact e4
        -- all but 'same'; it is wanted for 'heapAt'
        have aan:(∀i o,L[i]?=some o→isEff C o.op=false→∀k,k≤(cU C L 0).length→(∀idx p,idx<k→(cU C L 0)[idx]?=some p→bit ((nth (ancs L []) p).getD 0) i=false) →
              (∀idx p,k≤idx→(cU C L 0)[idx]?=some p→bit ((nth (ancs L []) i).getD 0) p=false) →
              wantedV L (st i).env o=true→∃h',evOp C self (st i).env ((hs[k]?).getD s.h) o=some (((tr[i]?).map (·.2)).getD bK,h')) →
            gL C self (fun i=>∃o,L[i]?=some o∧isAlloc fl o=true) L s st (fun i=>((tr[i]?).map (·.2)).getD bK) (cU C L 0) (fun k=>(hs[k]?).getD s.h):=fun Jf =>
          { back:=P7
            Jp:=fun j o ho i x hi hx=>by
              have:=Jn L 0 s2 j o ho i x (by omega) hx
              rw [dY] at this
              exact this.imp id fun q=>⟨q.1,q.2.imp id fun q=>q.imp id fun q=>⟨o,ho,q⟩⟩
            y9:=fun i o ho ⟨o',tO,ha⟩=>by
              rw [ho] at tO
              obtain rfl:=bB tO
              obtain ⟨v,h,e1,_⟩:=t5 i o ho
              exact hW i o _ ho e1 ha
            Lb:=fun i o ho ⟨o',tO,ha⟩ j u hu bC=>by
              rw [ho] at tO
              obtain rfl:=bB tO
              rcases G5 L 0 s3 i o ho ha j u hu (by omega) with h | h
              · exact .inl h
              · right
                intro p J hpi
                exact La I h p J (by omega)
            qw:=Ic
            sorted:=I
            start:=t1
            step:=ql
            Jq:=by rw [WQ]; rfl
            Bd:=fun k p J=>by rw [WO k p J]; rfl
            WM:=fun i o ho he=>by
              obtain ⟨v,h,e1,_⟩:=t5 i o ho
              have:=(Dz L tr 0 zu i o _ ho e1 he).1
              simp only [dY] at this
              exact NQ _ this
            same:=Jf }
        refine ⟨_,st,_,_,aan ?_,t2,s4⟩
        intro i o ho he k hk h1 h2 hw
        obtain ⟨v,h,e1,e2,e3,e4⟩:=t5 i o ho
        obtain ⟨g1,g2⟩:=Dz L tr 0 zu i o _ ho e1 he
        simp only [dY] at g1 g2
        have Yc:gP ((nth (ancs L []) i).getD 0) (cU C L 0)≤k:=rM fun bC=>by
          obtain ⟨p,J⟩:∃p,(cU C L 0)[k]?=some p:=⟨_,aN (by have:=(CG (m:=(nth (ancs L []) i).getD 0) (cU C L 0)).2; omega)⟩
          have:=(CG (cU C L 0)).1 k p bC J
          rw [h2 k p (aD _) J] at this
          cases this
        have aao:k≤jy (ancs L []) i (cU C L 0):=rM fun bC=>by
          obtain ⟨p,J⟩:∃p,(cU C L 0)[jy (ancs L []) i (cU C L 0)]?=some p:=⟨_,aN (by omega)⟩
          have:=(Ij (as:=ancs L []) (i:=i) (cU C L 0)).2 p J
          rw [h1 _ p bC J] at this
          cases this
        have NI:((tr[i]?).map (·.2)).getD bK=v:=by rw [e1]; rfl
        rw [NI]
        rcases g2 with g2 | g2
        · -- its place is known
          have PU:(st i).h=(hs[k]?).getD s.h:=by
            have Ag:k=jy (ancs L []) i (cU C L 0):=by omega
            have bC:∀idx p,idx<k→(cU C L 0)[idx]?=some p→p<i:=fun idx p bC J=>by
              have:=(CG (m:=(nth (ancs L []) i).getD 0) (cU C L 0)).1 idx p (by omega) J
              exact Tw i o ho p this
            have P8:∀idx p,k≤idx→(cU C L 0)[idx]?=some p→i≤p:=fun idx p hle J=>by
              obtain ⟨q,hq⟩:∃q,(cU C L 0)[k]?=some q:=⟨_,aN (by have:=(List.getElem?_eq_some_iff.1 J).1; omega)⟩
              have hb:=(Ij (as:=ancs L []) (i:=i) (cU C L 0)).2 q (by rw [←Ag]; exact hq)
              obtain ⟨x,hx,_⟩:=(Ic q).1 (a_ hq)
              have hiq:=Tw q x hx i hb
              rcases uL hle with e | e
              · subst e; rw [hq] at J; simp at J; omega
              · obtain ⟨a1,b1⟩:=List.getElem?_eq_some_iff.1 hq
                obtain ⟨a2,b2⟩:=List.getElem?_eq_some_iff.1 J
                have:=(List.pairwise_iff_getElem.1 I) k idx a1 a2 e
                omega
            exact Be (Hs:=fun k=>(hs[k]?).getD s.h) ql (fun p=>Ic p) I t1 (by rw [WQ]; rfl) (fun k p J=>by rw [WO k p J]; rfl) i k (by have:=(List.getElem?_eq_some_iff.1 ho).1; omega) hk bC P8
          rw [←PU]
          exact ⟨h,e3 hw⟩
        · have hm:(hs[k]?).getD s.h∈(hs.drop (gP ((nth (ancs L []) i).getD 0) (cU C L 0))).take (jy (ancs L []) i (cU C L 0)+1-gP ((nth (ancs L []) i).getD 0) (cU C L 0)):=by
            have Yd:k<hs.length:=by omega
            refine a_ (i:=k-gP ((nth (ancs L []) i).getD 0) (cU C L 0)) ?_
            rw [kX,aq (by omega),jH,Nat.add_sub_cancel' Yc,aN Yd]
            simp
          exact Lf _ g2 hw _ hm
theorem Rh {L:List Oper}{S:Nat→Prop}(J:∀i o,L[i]?=some o→∀e∈o.after,fb e=true→e.on<i)(hn:∀i o,¬ kT L S i o): ∀i,i<L.length→S i:=by
 intro i
 induction i using Nat.strongRecOn with
 | _ i ih =>
  intro hi
  refine HV fun hS => ?_
  refine hn i L[i] ⟨aN hi,hS,fun e he I => ?_⟩
  have:=J i L[i] (aN hi) e he I
  exact ih e.on this (by omega)
theorem gh.done {Fl:Nat→Prop}{L:List Oper}{s:St}{st:Nat→St}{vv:Nat→V}{es:List Nat}{Hs:Nat→H}{c₀ c:Ctx}{w₀ w:World}{d₀:List Deferred}{S:Nat→Prop}{early:Nat→Option (Nat×FV)}{k:Nat}{a:Act}
 (D:gL C self Fl L s st vv es Hs)(I:gh C self Fl L s st vv es Hs c₀ w₀ d₀ S early k c a w)(jo:∀p,es[k]?=some p→¬ S p)(J:∀i,i<L.length→S i):
  Rel c (st L.length).h w∧dy c (st L.length).env (st L.length).ax a:=by
 have bC:∀p∈es,p<L.length:=fun p hp=>by
  obtain ⟨o,ho,_⟩:=(D.qw p).1 hp
  exact (List.getElem?_eq_some_iff.1 ho).1
 have hk:k=es.length:=by
  refine Nat.le_antisymm I.E7 (rM fun h => ?_)
  exact jo _ (aN h) (J _ (bC _ (pJ h)))
 have Tx:∀p,early p=none:=fun p=>by
  cases h:early p with
  | none=>rfl
  | some b =>
   obtain ⟨_,idx,h1,h2⟩:=I.r7 p b h
   have:=(List.getElem?_eq_some_iff.1 h2).1
   omega
 refine ⟨?_,?_⟩
 ·rw [D.E5 L.length k (aD _) I.E7 (fun idx p _ hp=>bC p (a_ hp)) (fun idx p hle hp=>by have:=(List.getElem?_eq_some_iff.1 hp).1; omega)]
  exact I.rel
 ·have hv:∀t,a.tmps.getD t undef=conc c ((st L.length).env.v t)∧wf c ((st L.length).env.v t):=fun t=>by
   rcases I.tmp t with ⟨i,o,g1,g2,g3,g4,g5⟩ | ⟨g1,g2,g3⟩
   ·have:(st L.length).env.v t=vv i:=by
     rcases D.Er t L.length (aD _) with ⟨j,oj,h1,h2,h3,h4,h5⟩ | ⟨h1,_⟩
     ·have e1:=h4 i o (List.getElem?_eq_some_iff.1 g2).1 g2 g3
      have e2:=g4 j oj (J j h1) h2 h3
      have:j=i:=by omega
      subst this; exact h5
     ·exact absurd g3 (h1 i o (List.getElem?_eq_some_iff.1 g2).1 g2)
    rcases g5 with ⟨b,e1,_⟩ | ⟨_,e2,e3⟩
    ·rw [Tx i] at e1; cases e1
    ·rw [this]; exact ⟨e2,e3⟩
   ·have:(st L.length).env.v t=s.env.v t:=by
     rcases D.Er t L.length (aD _) with ⟨j,oj,h1,h2,h3,h4,h5⟩ | ⟨_,h⟩
     ·exact absurd h3 (g1 j oj (J j h1) h2)
     ·exact h
    rw [this]; exact ⟨g2,g3⟩
  exact ⟨by rw [I.size,D.ax L.length (aD _)],fun t=>(hv t).1,fun t=>(hv t).2⟩
theorem gh.congr {Fl:Nat→Prop}{L:List Oper}{s:St}{st:Nat→St}{vv:Nat→V}{es:List Nat}{Hs:Nat→H}{c₀ c:Ctx}{w₀ w:World}{d₀:List Deferred}{S S':Nat→Prop}{early:Nat→Option (Nat×FV)}{k:Nat}{a:Act}
 (I:gh C self Fl L s st vv es Hs c₀ w₀ d₀ S early k c a w)(h:∀j,S j↔S' j): gh C self Fl L s st vv es Hs c₀ w₀ d₀ S' early k c a w:=by
 have:S=S':=funext fun j=>propext (h j)
 rw [←this]; exact I
theorem NS (hS:ik C.P self)(hT:fo C){r:Option Nat}{ops:Array Oper}{Fl:Nat→Prop}{L:List Oper}(hL:ops.toList=L){Q:Exit→Act→World→Prop}{s:St}{st:Nat→St}{vv:Nat→V}{es:List Nat}{Hs:Nat→H}
 {c₀:Ctx}{w₀:World}{d₀:List Deferred}(D:gL C self Fl L s st vv es Hs)
 (hQ:∀c a w,Rel c (st L.length).h w→dy c (st L.length).env (st L.length).ax a→cF c₀ w₀ c w→a.defers=d₀→Q .normal a w):
  ∀(fuel:Nat) (J:Array Bool) (early:Nat→Option (Nat×FV)) (k:Nat) (c:Ctx) (a:Act) (w:World),J.size=L.length→J.count false≤fuel →
   gh C self Fl L s st vv es Hs c₀ w₀ d₀ (fun j=>J.getD j false=true) early k c a w→wpAnyIn (Fr r) 0 C.P .any ops Q fuel J a w:=by
 intro fuel
 induction fuel with
 | zero =>
  intro J early k c a w fC Ye I
  have mC:∀i,i<L.length→J.getD i false=true:=fun i hi=>by
   have h0:J.count false=0:=by omega
   have:false∉J:=Array.count_eq_zero.1 h0
   rw [kU,uC (by omega)]
   cases hb:J[i]'(by omega) with
   | true=>rfl
   | false=>exact absurd (by rw [←hb]; exact Array.getElem_mem _) this
  obtain ⟨mS,k',c',I',jo⟩:=gh.Dy D (es.length-k) k early c rfl I
  obtain ⟨r1,r2⟩:=I'.done D jo mC
  refine ⟨?_,hQ c' a w r1 r2 I'.Ie I'.defers⟩
  refine List.eq_nil_iff_forall_not_mem.2 fun j hj => ?_
  obtain ⟨h1,o,h2,_⟩:=mem_ready.1 hj
  have bC:j<L.length:=by rw [←hL]; simpa using (Array.getElem?_eq_some_iff.1 h2).1
  have h3:=mC j bC
  rw [kU,uC (by omega)] at h1 h3
  simp at h1 h3
  rw [h1] at h3; cases h3
 | succ fuel ih =>
  intro J early k c a w fC Ye I
  obtain ⟨mS,k',c',I',jo⟩:=gh.Dy D (es.length-k) k early c rfl I
  have Lh:∀j,j∈Region.ready .any ops J↔∃o,kT L (fun j=>J.getD j false=true) j o:=fun j=>by
   rw [mem_ready]
   constructor
   ·rintro ⟨h1,o,h2,h3⟩
    refine ⟨o,by rw [←hL,iG]; exact h2,fun h4 => ?_,fun e he hb=>h3 e he ?_⟩
    ·have bC:j<J.size:=by rw [fC,←hL]; simpa using (Array.getElem?_eq_some_iff.1 h2).1
     rw [kU,uC bC] at h1 h4
     simp at h1 h4
     rw [h1] at h4; cases h4
    ·rw [←hb]; cases e; rename_i on g; cases g <;> rfl
   ·rintro ⟨o,R⟩
    have h2:=R.at_
    rw [←hL,iG] at h2
    refine ⟨?_,o,h2,fun e he hb=>R.Jt e he ?_⟩
    ·have bC:j<J.size:=by rw [fC,←hL]; simpa using (Array.getElem?_eq_some_iff.1 h2).1
     have h4:=R.not
     rw [kU,uC bC] at h4 ⊢
     simpa using h4
    ·rw [←hb]; cases e; rename_i on g; cases g <;> rfl
  refine ⟨fun vP => ?_,fun i hi => ?_⟩
  ·have mC:=Rh (S:=fun j=>J.getD j false=true) D.back (fun i o R=>by
    have:=(Lh i).2 ⟨o,R⟩
    rw [vP] at this; simp at this)
   obtain ⟨r1,r2⟩:=I'.done D jo mC
   exact hQ c' a w r1 r2 I'.Ie I'.defers
  ·obtain ⟨o,R⟩:=(Lh i).1 hi
   have bC:i<J.size:=by rw [fC]; exact (List.getElem?_eq_some_iff.1 R.at_).1
   have Ty:J[i]=false:=by
    have:=R.not
    rw [kU,uC bC] at this
    simpa using this
   refine I'.Tt hS hT hL D jo R ?_
   intro Ri ZC lZ sL sM ZD
   refine ih (J.setIfInBounds i true) Ri ZC lZ sL sM (by simp [fC]) ?_ (ZD.congr fun j => ?_)
   ·have:(J.setIfInBounds i true).count false=J.count false-1:=by
     rw [Array.setIfInBounds_def,dif_pos bC,Array.count_set]
     simp [Ty]
    omega
   ·by_cases wL:j=i
    ·subst wL
     simp [kU,bC]
    ·simp [kU,yB (iM wL),wL]
theorem Li (hS:ik C.P self)(hT:fo C)(hm:C.P.follows .mixedOrders=true){r:Option Nat}{id:Nat}{ops:Array Oper}{s s':St}(hr:lp C self ops.toList s=some s'){Q:Exit→Act→World→Prop}
 {c:Ctx}{a:Act}{w:World}(h:Rel c s.h w)(he:dy c s.env s.ax a)
 (hQ:∀c' J w',Rel c' s'.h w'→dy c' s'.env s'.ax J→cF c w c' w'→J.defers=a.defers→Q .normal J w'):
  (Code.region id ops true).wpIn (Fr r) 0 C.P Q a w:=by
 obtain ⟨Fl,st,vv,Hs,D,hz,_⟩:=NR hr
 refine wpIn_region_any hm ?_
 have Yf:cF c w c { w with drawn:=w.drawn+1 }:=cF.drew c w
 have uu:Rel c s.h { w with drawn:=w.drawn+1 }:=h.drew
 refine NS hS hT rfl D (c₀:=c) (w₀:=w) (d₀:=a.defers) (fun c' J w' r1 r2 r3 r4=>hQ c' J w' (by rw [←hz]; exact r1) (by rw [←hz]; exact r2) r3 r4)
  ops.size (Array.replicate ops.size false) (fun _=>none) 0 c a _ (by simp) (by simp) ?_
 have I:∀j,¬ (Array.replicate ops.size false).getD j false=true:=fun j=>by
  rw [kU,Array.getElem?_replicate]; split <;> simp
 refine ⟨fun i o hi=>absurd hi (I i),fun idx p h=>by omega,gV _,fun idx p _ _ hp=>absurd hp (I p),(fun p b h=>by cases h),(by rw [D.Jq]; exact uu),he.size,
  fun t=>.inr ⟨fun j o hj=>absurd hj (I j),he.val t,he.A2 t⟩,(fun p b h=>by cases h),(fun p q b b' h=>by cases h),Yf,rfl⟩
end
end Go.Proofs.YtefepnnfphdkpaaGreat.Am
