/- SpaceRoots: a part of its proof; conditions: its statement's. -/
import Derived.Test.YtefepnnfphdkpaaGreatF09
namespace Go.Proofs.YtefepnnfphdkpaaGreat.Am
open Go
section
variable {C:cL} {self:Self} {c:Ctx} {w:World}
variable {Fl:Nat→Prop} {L:List Oper} {s:St} {st:Nat→St} {vv:Nat→V} {es:List Nat} {Hs:Nat→H}
variable {c₀:Ctx} {w₀:World} {d₀:List Deferred} {S:Nat→Prop} {early:Nat→Option (Nat×FV)} {k i:Nat} {a:Act} {o:Oper}
structure lI (L:List Oper)(S:Nat→Prop)(i:Nat)(o:Oper): Prop where
 at_:L[i]?=some o
 not:¬ S i
 LX:∀e∈o.after,fK e=true→S e.on
theorem lI.V3 (D:ic C self Fl L s st vv es Hs)(I:∀i o,S i→L[i]?=some o→∀e∈o.after,fK e=true→S e.on)(R:lI L S i o){j:Nat}
 (h:bit ((nth (ancs L []) i).getD 0) j=true): S j∧j<i :=
 G_ D.back S i o R.at_ (fun k o' _ J hk=>I k o' hk J) R.LX j h
theorem Hh (D:ic C self Fl L s st vv es Hs)(I:∀i o,S i→L[i]?=some o→∀e∈o.after,fK e=true→S e.on){j q:Nat}{x:Oper}(hj:S j)(hx:L[j]?=some x)
 (h:bit ((nth (ancs L []) j).getD 0) q=true): S q∧q<j :=
 G_ D.back S j x hx (fun k o' _ J hk=>I k o' hk J) (I j x hj hx) q h
theorem lI.later (D:ic C self Fl L s st vv es Hs)(I:∀i o,S i→L[i]?=some o→∀e∈o.after,fK e=true→S e.on)(R:lI L S i o){j:Nat}{x:Oper}
 (hj:S j)(hx:L[j]?=some x)(J:i<j): kP L o x=true:=by
 rcases D.LS j x hx i o J R.at_ with h | ⟨h,_⟩
 ·exact absurd (Hh D I hj hx h).1 R.not
 ·exact h
theorem lI.before (D:ic C self Fl L s st vv es Hs)(I:∀i o,S i→L[i]?=some o→∀e∈o.after,fK e=true→S e.on)(R:lI L S i o){j:Nat}{x:Oper}
 (hx:L[j]?=some x)(J:j<i): S j∨(kP L x o=true∧(isEff C x.op=false∨isEff C o.op=false∨Fl i)):=by
 rcases D.LS i o R.at_ j x J hx with h | h
 ·exact .inl (R.V3 D I h).1
 ·exact .inr h
theorem gQ.Kw (D:ic C self Fl L s st vv es Hs)(I:gQ C self Fl L s st vv es Hs c₀ w₀ d₀ S early k c a w)(jW:∀p,es[k]?=some p→¬ S p)(R:lI L S i o)
 {t:Tmp}(ht:t∈looks L o): a.tmps.getD t undef=conc c ((st i).env.v t)∧wf c ((st i).env.v t):=by
 have hlen:i<L.length:=(List.getElem?_eq_some_iff.1 R.at_).1
 -- those that write it and have come stand ahead in the text
 have Ud:∀j x,S j→L[j]?=some x→x.dst=some t→j<i:=fun j x hj hx hd=>by
  rcases D6 j i with h | h | h
  ·exact h
  ·subst h; exact absurd hj R.not
  ·exact absurd ht ((uZ (R.later D I.closed hj hx h)).2 t hd)
 have S3:∀j x,j<i→L[j]?=some x→x.dst=some t→S j:=fun j x bF hx hd=>by
  rcases R.before D I.closed hx bF with h | ⟨h,_⟩
  ·exact h
  ·exact absurd ht ((uZ h).1 t hd).1
 rcases I.tmp t with ⟨J,LY,g1,g2,g3,g4,g5⟩ | ⟨g1,g2,g3⟩
 ·have bF:=Ud J LY g1 g2 g3
  have tW:(st i).env.v t=vv J:=by
   rcases D.GB t i (by omega) with ⟨j,oj,h1,h2,h3,h4,h5⟩ | ⟨h1,_⟩
   ·have e1:=h4 J LY bF g2 g3
    have e2:=g4 j oj (S3 j oj h1 h2 h3) h2 h3
    have:j=J:=by omega
    subst this; exact h5
   ·exact absurd g3 (h1 J LY bF g2)
  rcases g5 with ⟨b,e1,_⟩ | ⟨_,e2,e3⟩
  ·exfalso
   obtain ⟨_,idx,f2,f3⟩:=I.tv J b e1
   obtain ⟨f5,_⟩:=I.late idx J f2 f3 g1
   obtain ⟨q,hq⟩:∃q,es[k]?=some q:=⟨_,bf (by have:=(List.getElem?_eq_some_iff.1 f3).1; omega)⟩
   by_cases S4:q=J
   ·subst S4; exact jW _ hq g1
   ·have aan:q<J:=by
     have:k≠idx:=fun e=>by subst e; rw [hq] at f3; simp at f3; exact S4 f3
     exact (AM D hq f3).1 (by omega)
    rcases D.NO J LY g2 f5 i o R.at_ bF with h | h
    ·exact ((uZ h).1 t g3).1 ht
    ·exact jW q hq (R.V3 D I.closed (h q (bC hq) aan)).1
  ·rw [tW]; exact ⟨e2,e3⟩
 ·have tW:(st i).env.v t=s.env.v t:=by
   rcases D.GB t i (by omega) with ⟨j,oj,h1,h2,h3,h4,h5⟩ | ⟨_,h⟩
   ·exact absurd h3 (g1 j oj (S3 j oj h1 h2 h3) h2)
   ·exact h
  rw [tW]; exact ⟨g2,g3⟩
theorem gQ.G7 (D:ic C self Fl L s st vv es Hs)(I:gQ C self Fl L s st vv es Hs c₀ w₀ d₀ S early k c a w)(J:∀p,es[k]?=some p→¬ S p)(R:lI L S i o): AJ c (st i).env a o:=by
 intro x hx v hv
 cases x with
 | tmp t =>
  simp only [evO,aq] at hv
  subst hv
  have hl:t∈looks L o:=List.mem_append_left _ (List.mem_filterMap.2 ⟨.tmp t,by simpa using hx,rfl⟩)
  exact I.Kw D J R hl
 | const x =>
  simp only [evO] at hv
  obtain ⟨h1,h2⟩:=sE hv c
  exact ⟨h1.symm,h2⟩
 | global g=>simp [evO] at hv
 | func f =>
  simp only [evO,aq] at hv
  subst hv
  exact ⟨by simp [Act.eval,conc,concL],by simp [wf,fu]⟩
theorem gQ.wanted (D:ic C self Fl L s st vv es Hs){ops:Array Oper}(hL:ops.toList=L)(I:gQ C self Fl L s st vv es Hs c₀ w₀ d₀ S early k c a w)(J:∀p,es[k]?=some p→¬ S p)(R:lI L S i o):
  Region.wanted o (yielded ops a.tmps)=wantedV L (st i).env o:=by
 rw [←hL]
 refine CA (c:=c) fun j w d hg hd => ?_
 have hl:d∈looks L o:=by
  refine List.mem_append_right _ ?_
  rw [hg]
  simp only [fF]
  rw [←hL,jf,hd]
  simp
 exact (I.Kw D J R hl).1
theorem gQ.Kx (D:ic C self Fl L s st vv es Hs)(I:gQ C self Fl L s st vv es Hs c₀ w₀ d₀ S early k c a w)(R:lI L S i o){c':Ctx}(e:Ext c c'){nB:Nat→Option (Nat×FV)}
 (Ky:∀j,j≠i→nB j=early j)(X:Value)
 (hX:(∃b,nB i=some b∧X=b.2.val b.1)∨(nB i=none∧X=conc c' (vv i)∧wf c' (vv i)))(t:Tmp):
  (∃J LY,(S J∨J=i)∧L[J]?=some LY∧LY.dst=some t∧(∀j o',(S j∨j=i)→L[j]?=some o'→o'.dst=some t→j≤J) ∧
    ((∃b,nB J=some b∧(a.put o.dst X).tmps.getD t undef=b.2.val b.1)∨(nB J=none∧(a.put o.dst X).tmps.getD t undef=conc c' (vv J)∧wf c' (vv J)))) ∨
   ((∀j o',(S j∨j=i)→L[j]?=some o'→o'.dst≠some t)∧(a.put o.dst X).tmps.getD t undef=conc c' (s.env.v t)∧wf c' (s.env.v t)):=by
 have hlen:i<L.length:=(List.getElem?_eq_some_iff.1 R.at_).1
 by_cases hd:o.dst=some t
 ·left
  refine ⟨i,o,.inr rfl,R.at_,hd,fun j x hj hx S5 => ?_,?_⟩
  ·rcases hj with hj | hj
   ·rcases lR i j with h | h
    ·exact absurd S5 ((uZ (R.later D I.closed hj hx h)).1 t hd).2
    ·exact h
   ·omega
  ·obtain ⟨h,p1,_,_⟩:=D.step i o R.at_
   obtain ⟨_,_,p3,_⟩:=o_ p1
   have eZ:t<a.tmps.size:=by rw [I.size,←D.ay i (by omega)]; exact p3 t hd
   have G1:(a.put o.dst X).tmps.getD t undef=X:=by rw [hd]; simp [Act.put,Array.getD,eZ]
   rw [G1]
   exact hX
 ·have G1:(a.put o.dst X).tmps.getD t undef=a.tmps.getD t undef:=by
   cases ho:o.dst with
   | none=>rfl
   | some d =>
    have:d≠t:=fun e=>hd (by rw [ho,e])
    simp [Act.put,lK,Ar this]
  rw [G1]
  rcases I.tmp t with ⟨J,LY,g1,g2,g3,g4,g5⟩ | ⟨g1,g2,g3⟩
  ·left
   have dS:J≠i:=fun e=>by subst e; exact R.not g1
   refine ⟨J,LY,.inl g1,g2,g3,fun j x hj hx S5 => ?_,?_⟩
   ·rcases hj with hj | hj
    ·exact g4 j x hj hx S5
    ·subst hj; rw [R.at_] at hx; simp at hx; subst hx; exact absurd S5 hd
   ·rw [Ky J dS]
    rcases g5 with h | ⟨e1,e2,e3⟩
    ·exact .inl h
    ·exact .inr ⟨e1,by rw [e2,(cg e _ e3).1],(cg e _ e3).2⟩
  ·right
   refine ⟨fun j x hj hx => ?_,by rw [g2,(cg e _ g3).1],(cg e _ g3).2⟩
   rcases hj with hj | hj
   ·exact g1 j x hj hx
   ·subst hj; rw [R.at_] at hx; simp at hx; subst hx; exact hd
theorem gQ.CG (I:gQ C self Fl L s st vv es Hs c₀ w₀ d₀ S early k c a w)(R:lI L S i o):
  ∀j x,(S j∨j=i)→L[j]?=some x→∀e∈x.after,fK e=true→(S e.on∨e.on=i):=by
 intro j x J hx e he hb
 rcases J with J | J
 ·exact .inl (I.closed j x J hx e he hb)
 ·subst J; rw [R.at_] at hx; simp at hx; subst hx; exact .inl (R.LX e he hb)
theorem Hi (a:Act)(d:Option Tmp)(X:Value): (a.put d X).tmps.size=a.tmps.size:=by cases d <;> simp [Act.put]
theorem put_defers (a:Act)(d:Option Tmp)(X:Value): (a.put d X).defers=a.defers:=by cases d <;> rfl
theorem gQ.next (D:ic C self Fl L s st vv es Hs)(I:gQ C self Fl L s st vv es Hs c₀ w₀ d₀ S early k c a w)(R:lI L S i o){c':Ctx}{w':World}(X:cV c w c' w')(k':Nat)
 (J:(k'=k∧isEff C o.op=false)∨(k'=k+1∧es[k]?=some i))(vu:Rel c' (Hs k') w')(hv:wf c' (vv i)):
  gQ C self Fl L s st vv es Hs c₀ w₀ d₀ (fun j=>S j∨j=i) early k' c' (a.put o.dst (conc c' (vv i))) w':=by
 have hei:early i=none:=by
  cases h:early i with
  | none=>rfl
  | some b=>exact absurd (I.tv i b h).1 R.not
 refine ⟨I.CG R,fun idx p bF hp => ?_,?_,fun idx p hle hp yn => ?_,fun p b hp => ?_,vu,by rw [Hi]; exact I.size,
  fun t=>I.Kx D R X.ext (fun j _=>rfl) _ (.inr ⟨hei,rfl,hv⟩) t,fun p b hp => ?_,I.distinct,I.Kv.trans X,by rw [put_defers]; exact I.defers⟩
 ·rcases J with ⟨rfl,_⟩ | ⟨rfl,J⟩
  ·exact .inl (I.pre idx p bF hp)
  ·by_cases h:idx=k
   ·subst h; rw [J] at hp; simp at hp; exact .inr hp.symm
   ·exact .inl (I.pre idx p (by omega) hp)
 ·rcases J with ⟨rfl,_⟩ | ⟨rfl,J⟩
  ·exact I.Hg
  ·have:=(List.getElem?_eq_some_iff.1 J).1; omega
 ·rcases yn with yn | yn
  ·refine I.late idx p ?_ hp yn
   rcases J with ⟨rfl,_⟩ | ⟨rfl,J⟩ <;> omega
  ·subst yn
   exfalso
   rcases J with ⟨rfl,J⟩ | ⟨rfl,J⟩
   ·obtain ⟨o',h1,h2⟩:=(D.rU p).1 (bC hp)
    rw [R.at_] at h1; simp at h1; subst h1; rw [J] at h2; cases h2
   ·have:=NQ D hp J; omega
 ·obtain ⟨g1,idx,g2,g3⟩:=I.tv p b hp
  refine ⟨.inl g1,idx,?_,g3⟩
  rcases J with ⟨rfl,_⟩ | ⟨rfl,J⟩
  ·exact g2
  ·rcases vQ g2 with e | e
   ·subst e; rw [J] at g3; simp at g3; subst g3; exact absurd g1 R.not
   ·exact e
 ·obtain ⟨g1,g2,g3,o',T,cs,g4,g5,g6,g7⟩:=I.blocks p b hp
  refine ⟨g1,gX g2 X.size,fun id yl he => ?_,o',T,cs,g4,g5,fun v hv=>⟨(cg X.ext v (g6 v hv).1).2,(g6 v hv).2⟩,by rw [X.mD b.1 g2 (fun id hi he=>absurd he (g3 id hi)),oX fun v hv=>(cg X.ext v (g6 v hv).1).1]; exact g7⟩
  by_cases V4:id<c.N
  ·exact g3 id V4 (by rw [←X.ext.ρ id V4]; exact he)
  ·rcases X.fresh id (by omega) yl with h | ⟨j,hj,h,_⟩
   ·omega
   ·exact g3 j hj (by rw [h]; exact he)
theorem gQ.float (D:ic C self Fl L s st vv es Hs)(I:gQ C self Fl L s st vv es Hs c₀ w₀ d₀ S early k c a w)(R:lI L S i o)(CF:Fl i){fv:FV}{cs:List V}{T:TypeId}
 (F:Es C self (st i).env o fv cs T)(jP:∀v∈cs,wf c v∧storable v=true){idx:Nat}(aao:es[idx]?=some i)(hle:k≤idx):
  gQ C self Fl L s st vv es Hs c₀ w₀ d₀ (fun j=>S j∨j=i) (fun j=>if j=i then some (w.heap.size,fv) else early j) k c (a.put o.dst (fv.val w.heap.size))
   (w.alloc (.cells (cs.map (conc c)).toArray T (0,0))):=by
 obtain ⟨j1,j2⟩:=I.rel.aai (.cells (cs.map (conc c)).toArray T (0,0))
 have nS:∀j,S j→j≠i:=fun j hj e=>by subst e; exact R.not hj
 refine ⟨I.CG R,fun idx p bF J=>.inl (I.pre idx p bF J),I.Hg,fun aap p VK J yn => ?_,fun p b J => ?_,j1,by rw [Hi]; exact I.size,
  fun t=>I.Kx D R (Ext.refl c) (fun j hj=>by simp [hj]) _ (.inl ⟨(w.heap.size,fv),by simp,rfl⟩) t,fun p b J => ?_,fun p q b b' J hq he => ?_,I.Kv.trans j2,by rw [put_defers]; exact I.defers⟩
 ·rcases yn with yn | yn
  ·obtain ⟨g1,b,g3⟩:=I.late aap p VK J yn
   exact ⟨g1,b,by simp [nS p yn,g3]⟩
  ·subst yn
   exact ⟨CF,_,by simp; rfl⟩
 ·by_cases h:p=i
  ·subst h; exact ⟨.inr rfl,idx,hle,aao⟩
  ·simp [h] at J
   obtain ⟨g1,g2⟩:=I.tv p b J
   exact ⟨.inl g1,g2⟩
 ·by_cases h:p=i
  ·subst h
   simp at J
   subst J
   refine ⟨I.Kv.size,by simp,fun id yl=>jg (I.rel.lF id yl),o,T,cs,R.at_,F,jP,by rw [iA]; simp⟩
  ·simp [h] at J
   obtain ⟨g1,g2,g3,o',T',cs',g4,g5,g6,g7⟩:=I.blocks p b J
   exact ⟨g1,by simp; omega,g3,o',T',cs',g4,g5,g6,by rw [iA,ah (jg g2)]; exact g7⟩
 ·by_cases h1:p=i <;> by_cases h2:q=i
  ·omega
  ·simp [h1] at J
   simp [h2] at hq
   have:=(I.blocks q b' hq).2.1
   rw [←J] at he
   simp at he
   omega
  ·simp [h1] at J
   simp [h2] at hq
   have:=(I.blocks p b J).2.1
   rw [←hq] at he
   simp at he
   omega
  ·simp [h1] at J
   simp [h2] at hq
   exact I.distinct p q b b' J hq he
theorem gQ.V5 (hS:iW C.P self)(hT:fy C){r:Option Nat}{ops:Array Oper}(hL:ops.toList=L){Q:Exit→Act→World→Prop}(D:ic C self Fl L s st vv es Hs)
 (I:gQ C self Fl L s st vv es Hs c₀ w₀ d₀ S early k c a w)(jW:∀p,es[k]?=some p→¬ S p)(R:lI L S i o){K:Act→World→Prop}
 (hK:∀nB k' c' a' w',gQ C self Fl L s st vv es Hs c₀ w₀ d₀ (fun j=>S j∨j=i) nB k' c' a' w'→K a' w'): wpOpIn (Fr r) 0 C.P ops Q i K a w:=by
 have hlen:i<L.length:=(List.getElem?_eq_some_iff.1 R.at_).1
 have hoi:ops[i]?=some o:=by rw [←jf,hL]; exact R.at_
 obtain ⟨h,p1,p2,p3⟩:=D.step i o R.at_
 have ph:=(o_ p1).1
 -- an effect that is no new variable comes in its place
 have place:isEff C o.op=true→¬ Fl i→es[k]?=some i:=by
  intro he ha
  obtain ⟨idx,J⟩:=Av ((D.rU i).2 ⟨o,R.at_,he⟩)
  have h1:¬ idx<k:=fun bF=>R.not (I.pre idx i bF J)
  by_cases h2:idx=k
  ·subst h2; exact J
  ·exfalso
   obtain ⟨q,hq⟩:∃q,es[k]?=some q:=⟨_,bf (by have:=(List.getElem?_eq_some_iff.1 J).1; omega)⟩
   obtain ⟨oq,g1,g2⟩:=(D.rU q).1 (bC hq)
   have S4:q<i:=(AM D hq J).1 (by omega)
   rcases R.before D I.closed g1 S4 with hb | ⟨_,hb⟩
   ·exact jW q hq hb
   ·rcases hb with hb | hb | hb
    ·rw [g2] at hb; cases hb
    ·rw [he] at hb; cases hb
    ·exact ha hb
 have S6:es[k]?=some i→(st i).h=Hs k:=fun hk=>D.Hf i k (by omega) I.Hg (fun idx q bF hq=>(AM D hq hk).1 bF) (fun idx q hle hq=>by
  rcases vQ hle with e | e
  ·subst e; rw [hk] at hq; simp at hq; omega
  ·exact Nat.le_of_lt ((AM D hk hq).1 e))
 unfold wpOpIn
 rw [hoi]
 simp only [I.wanted D hL jW R]
 cases hw:wantedV L (st i).env o with
 | false =>
  simp only [dY,bN]
  refine ⟨fun _ _=>trivial,?_⟩
  obtain ⟨hv,hh⟩:=p3 hw
  have V6:wf c (vv i):=by rw [hv]; simp [bV,wf,fu]
  have hX:conc c (vv i)=undef:=by rw [hv,nV]
  cases he:isEff C o.op with
  | false =>
   have:=I.next D R (cV.refl c w) k (.inl ⟨rfl,he⟩) I.rel V6
   rw [hX] at this
   exact hK _ _ _ _ _ this
  | true =>
   have ha:¬ Fl i:=fun q=>by rw [(D.AL i o R.at_ q).2] at hw; cases hw
   have hk:=place he ha
   have vu:Rel c (Hs (k+1)) w:=by rw [D.CD k i hk,ph,hh,S6 hk]; exact I.rel
   have:=I.next D R (cV.refl c w) (k+1) (.inr ⟨rfl,hk⟩) vu V6
   rw [hX] at this
   exact hK _ _ _ _ _ this
 | true =>
  simp only [bO]
  cases he:isEff C o.op with
  | false =>
   obtain ⟨h',jZ⟩:=D.same i o R.at_ he k I.Hg (fun idx p bF hp=>by
    cases hb:bit ((nth (ancs L []) p).getD 0) i with
    | false=>rfl
    | true =>
     obtain ⟨x,hx,_⟩:=(D.rU p).1 (bC hp)
     exact absurd (Hh D I.closed (I.pre idx p bF hp) hx hb).1 R.not) (fun idx p hle hp=>by
    cases hb:bit ((nth (ancs L []) i).getD 0) p with
    | false=>rfl
    | true =>
     obtain ⟨q,hq⟩:∃q,es[k]?=some q:=⟨_,bf (by have:=(List.getElem?_eq_some_iff.1 hp).1; omega)⟩
     exact absurd (R.V3 D I.closed (D.ZB i o R.at_ he k idx q p hle hq hp hb)).1 (jW q hq)) hw
   have hh:=Fg he jZ
   subst hh
   refine (wm hS hT I.rel (I.G7 D jW R) jZ).wpIn (lV jZ) ?_
   intro c' w' r1 r2 r3
   exact hK _ _ _ _ _ (I.next D R r2 k (.inl ⟨rfl,he⟩) r1 r3)
  | true =>
   have jZ:=p2 hw
   by_cases hk:es[k]?=some i
   ·rw [S6 hk] at jZ
    refine (wm hS hT I.rel (I.G7 D jW R) jZ).wpIn (lV jZ) ?_
    intro c' w' r1 r2 r3
    exact hK _ _ _ _ _ (I.next D R r2 (k+1) (.inr ⟨rfl,hk⟩) (by rw [D.CD k i hk,ph]; exact r1) r3)
   ·have ha:Fl i:=DU fun ha=>hk (place he ha)
    obtain ⟨idx,J⟩:=Av ((D.rU i).2 ⟨o,R.at_,he⟩)
    have hle:k≤idx:=sW fun bF=>R.not (I.pre idx i bF J)
    obtain ⟨fv,cs,T,F⟩:=LW (D.AL i o R.at_ ha).1 jZ
    obtain ⟨jP,tT⟩:=F.run c a (I.G7 D jW R)
    refine ⟨fun _ _=>trivial,?_⟩
    rw [Oper.semAt_eq _ _ _ (lV jZ),tT w]
    exact hK _ _ _ _ _ (I.float D R ha F jP J hle)
end
end Go.Proofs.YtefepnnfphdkpaaGreat.Am
namespace Go.Proofs.YtefepnnfphdkpaaGreat.Am
open Go
theorem QG {a b:IntKind}(h:ikBeq a b=true): a=b:=by cases a <;> cases b <;> first | rfl | (simp [ikBeq] at h)
theorem u5 {a b:Int}(h:intBeq a b=true): a=b:=by
 cases a <;> cases b <;> simp [intBeq] at h <;> rw [h]
theorem CH : ∀ {a b:List Nat},natsBeq a b=true→a=b
 | [],[],_=>rfl
 | [],_::_,h=>by simp [natsBeq] at h
 | _::_,[],h=>by simp [natsBeq] at h
 | x::a,y::b,h=>by
  simp only [natsBeq] at h
  cases I:Nat.beq x y with
  | false=>rw [I] at h; cases h
  | true=>rw [I,ag] at h; rw [beq_iff.1 I,CH h]
theorem NR {a b:Cap}(h:a.beq b=true): a=b:=by
 cases a <;> cases b <;> simp [Cap.beq] at h
 ·rw [h]
 ·rw [h.1,h.2]
mutual
theorem Et : ∀(a b:V),V.beq a b=true→a=b
 | .bool a,b,h=>by cases b <;> simp [V.beq] at h; rw [h]
 | .int j a,b,h=>by
  cases b <;> simp [V.beq] at h
  rw [QG h.1,u5 h.2]
 | .str a,b,h=>by cases b <;> simp [V.beq] at h; rw [CH h]
 | .cu,b,h=>by cases b <;> simp [V.beq] at h; rfl
 | .ptr x y,b,h=>by cases b <;> simp [V.beq] at h; rw [h.1,h.2]
 | .bw,b,h=>by cases b <;> simp [V.beq] at h; rfl
 | .sl x y z u,b,h=>by
  cases b <;> simp [V.beq] at h
  rw [h.1.1.1,h.1.1.2,h.1.2,NR h.2]
 | .lu,b,h=>by cases b <;> simp [V.beq] at h; rfl
 | .map x,b,h=>by cases b <;> simp [V.beq] at h; rw [h]
 | .fn f x y,b,h=>by
  cases f with
  | func k=>cases b with
   | fn g u v=>cases g with
    | func j =>
     simp [V.beq] at h
     rw [h.1.1,t_ x u h.1.2,t_ y v h.2]
    | _=>simp [V.beq] at h
   | _=>simp [V.beq] at h
  | _=>cases b <;> simp [V.beq] at h
 | .Fa,b,h=>by cases b <;> simp [V.beq] at h; rfl
 | .iface t v,b,h=>by
  cases b <;> simp [V.beq] at h
  rw [h.1,Et v _ h.2]
 | .jz,b,h=>by cases b <;> simp [V.beq] at h; rfl
 | .agg l,b,h=>by cases b <;> simp [V.beq] at h; rw [t_ l _ h]
 | .bj l,b,h=>by cases b <;> simp [V.beq] at h; rw [t_ l _ h]
 | .Nh _,b,h=>by cases b <;> simp [V.beq] at h
 | .sle a,b,h=>by cases b <;> simp [V.beq] at h; rw [h]
 | .tJ k x,b,h=>by
  cases b with
  | tJ j y =>
   simp [V.beq] at h
   rw [h.2]
   cases k <;> cases j <;> first | rfl | (simp [fkBeq] at h)
  | _=>simp [V.beq] at h
theorem t_ : ∀(a b:List V),V.beqL a b=true→a=b
 | [],b,h=>by cases b <;> simp [V.beqL] at h; rfl
 | x::a,b,h=>by
  cases b with
  | nil=>simp [V.beqL] at h
  | cons y b =>
   simp only [V.beqL] at h
   cases I:V.beq x y with
   | false=>rw [I] at h; cases h
   | true=>rw [I,ag] at h; rw [Et x y I,t_ a b h]
end
theorem Eu {m:Nat}: ∀(es:List Nat),(∀idx p,idx<ij m es→es[idx]?=some p→bit m p=true)∧ij m es≤es.length:=by
 intro es
 induction es with
 | nil=>exact ⟨fun idx p _ h=>by simp at h,by simp [ij]⟩
 | cons q es J =>
  simp only [ij]
  cases hq:bit m q with
  | true =>
   rw [ag]
   refine ⟨fun idx p h1 I => ?_,by have:=J.2; simp; exact this⟩
   cases idx with
   | zero=>simp at I; subst I; exact hq
   | succ idx=>exact J.1 idx p (by omega) (by simpa using I)
  | false=>rw [az]; exact ⟨fun idx p h=>by omega,by simp⟩
theorem QH {m:Nat}: ∀(es:List Nat),kQ m es=true→∀(J I p q:Nat),J≤I→es[J]?=some p→es[I]?=some q→bit m q=true→bit m p=true:=by
 intro es
 induction es with
 | nil=>intro _ J I p q _ h; simp at h
 | cons x es ih =>
  intro h J I p q hle h1 h2 hb
  simp only [kQ] at h
  cases hx:bit m x with
  | true =>
   rw [hx,ag] at h
   cases J with
   | zero=>simp at h1; subst h1; exact hx
   | succ J =>
    cases I with
    | zero=>omega
    | succ I=>exact ih h J I p q (by omega) (by simpa using h1) (by simpa using h2) hb
  | false =>
   rw [hx,az] at h
   cases I with
   | zero =>
    simp at h2
    subst h2
    rw [hx] at hb; cases hb
   | succ I =>
    have:=List.all_eq_true.1 h q (bC (by simpa using h2))
    rw [hb] at this; cases this
theorem Kz {as:List Nat}{i:Nat}: ∀(es:List Nat),j5 as i es≤es.length∧∀p,es[j5 as i es]?=some p→bit ((nth as p).getD 0) i=true:=by
 intro es
 induction es with
 | nil=>exact ⟨by simp [j5],fun p h=>by simp at h⟩
 | cons q es I =>
  simp only [j5]
  cases J:bit ((nth as q).getD 0) i with
  | true=>rw [ag]; exact ⟨by simp,fun p h=>by simp at h; subst h; exact J⟩
  | false=>rw [az]; exact ⟨by have:=I.1; simp; exact this,fun p h=>I.2 p (by simpa using h)⟩
section
variable {C:cL} {self:Self}
theorem NS {L:List Oper}{o:Oper}{x:Env×V}: ∀(l:List H),sameIn C self L o x l=true→wantedV L x.1 o=true→∀h∈l,∃h',evOp C self x.1 h o=some (x.2,h'):=by
 intro l
 induction l with
 | nil=>intro _ _ h hm; simp at hm
 | cons y l J =>
  intro hs hw h hm
  simp only [sameIn,hw,ag] at hs
  cases he:evOp C self x.1 y o with
  | none=>simp [he] at hs
  | some r =>
   obtain ⟨v,h'⟩:=r
   simp only [he] at hs
   cases I:v.beq x.2 with
   | false=>rw [I] at hs; cases hs
   | true =>
    rw [I,ag] at hs
    rcases List.mem_cons.1 hm with rfl | hm
    ·exact ⟨h',by rw [he,Et _ _ I]⟩
    ·exact J hs hw h hm
theorem Fi {L:List Oper}{as es:List Nat}{hs:List H}: ∀(l:List Oper) (tr:List (Env×V)) (k:Nat),stayOk C self L as es hs l tr k=true →
  ∀j o x,l[j]?=some o→tr[j]?=some x→isEff C o.op=false →
   kQ ((nth as (k+j)).getD 0) es=true∧(ij ((nth as (k+j)).getD 0) es=j5 as (k+j) es ∨
    sameIn C self L o x ((hs.drop (ij ((nth as (k+j)).getD 0) es)).take (j5 as (k+j) es+1-ij ((nth as (k+j)).getD 0) es))=true):=by
 intro l
 induction l with
 | nil=>intro tr k _ j o x h; simp at h
 | cons y l ih =>
  intro tr k h j o x ho hx he
  cases tr with
  | nil=>simp [stayOk] at h
  | cons z tr =>
   simp only [stayOk] at h
   have I:stayOk C self L as es hs l tr (k+1)=true:=by
    cases h1:isEff C y.op with
    | true=>rw [h1,ag] at h; exact h
    | false =>
     rw [h1,az] at h
     cases J:(kQ ((nth as k).getD 0) es&&Nat.beq (ij ((nth as k).getD 0) es) (j5 as k es)) with
     | true=>rw [J,ag] at h; exact h
     | false =>
      rw [J,az] at h
      cases h3:(kQ ((nth as k).getD 0) es&&sameIn C self L y z ((hs.drop (ij ((nth as k).getD 0) es)).take (j5 as k es+1-ij ((nth as k).getD 0) es))) with
      | true=>rw [h3,ag] at h; exact h
      | false=>rw [h3] at h; cases h
   cases j with
   | zero =>
    simp at ho hx
    subst ho hx
    rw [he,az] at h
    simp only [gH]
    cases J:(kQ ((nth as k).getD 0) es&&Nat.beq (ij ((nth as k).getD 0) es) (j5 as k es)) with
    | true =>
     rw [aO,beq_iff] at J
     exact ⟨J.1,.inl J.2⟩
    | false =>
     rw [J,az] at h
     cases h3:(kQ ((nth as k).getD 0) es&&sameIn C self L y z ((hs.drop (ij ((nth as k).getD 0) es)).take (j5 as k es+1-ij ((nth as k).getD 0) es))) with
     | true =>
      rw [aO] at h3
      exact ⟨h3.1,.inr h3.2⟩
     | false=>rw [h3] at h; cases h
   | succ j =>
    have:=ih tr (k+1) I j o x (by simpa using ho) (by simpa using hx) he
    rwa [show k+1+j=k+(j+1) from by omega] at this
theorem Ue {ops:List Oper}: ∀(l:List Oper) (tr:List (Env×V)),allW ops l tr=true→∀(i:Nat) (o:Oper) (x:Env×V),l[i]?=some o→tr[i]?=some x→isAlloc true o=true→wantedV ops x.1 o=true:=by
 intro l
 induction l with
 | nil=>intro tr _ i o x h; simp at h
 | cons y l ih =>
  intro tr h i o x ho I ha
  cases tr with
  | nil=>simp at I
  | cons z tr =>
   simp only [allW] at h
   cases J:(!isAlloc true y||wantedV ops z.1 y) with
   | false=>rw [J,az] at h; cases h
   | true =>
    rw [J,ag] at h
    cases i with
    | zero =>
     simp at ho I
     subst ho
     subst I
     simpa [ha] using J
    | succ i=>exact ih tr h i o x (by simpa using ho) (by simpa using I) ha
theorem Gp {o:Oper}(h:isAlloc false o=true): isAlloc true o=true∧o.guard=none:=by
 unfold isAlloc at h ⊢
 split at h
 ·rename_i T d I J h3; simp [I,J,h3]
 ·rename_i t x y d I J h3; simp [I,J,h3]
 ·simp at h
 ·simp at h
theorem QI {L:List Oper}{s z:St}(hr:lS C self L s=some z):
    ∃Fl st vv Hs,ic C self Fl L s st vv (dA C L 0) Hs∧st L.length=z∧L.all (fun o => !GR o.op)=true:=by
  unfold lS at hr
  cases V7:trace C self L L s [s.h] with
  | none=>simp [V7] at hr
  | some q =>
      obtain ⟨tr,hs,z'⟩:=q
      simp only [V7] at hr
      cases AN:stayOk C self L (ancs L []) (dA C L 0) hs L tr 0 with
      | false=>rw [AN] at hr; cases hr
      | true =>
        rw [AN,ag] at hr
        obtain ⟨fl,fN,hW,hr⟩:∃fl,nq C fl L=true∧(∀(i:Nat) (o:Oper) (x:Env×V),L[i]?=some o→tr[i]?=some x→isAlloc fl o=true→isAlloc true o=true∧wantedV L x.1 o=true)∧z'=z:=by
          cases h0:nq C false L with
          | true =>
            rw [h0,ag] at hr
            refine ⟨false,h0,fun i o x _ _ ha => ?_,bk hr⟩
            obtain ⟨k1,k2⟩:=Gp ha
            exact ⟨k1,by simp [wantedV,k2]⟩
          | false =>
            rw [h0,az] at hr
            cases h1:(nq C true L&&allW L L tr) with
            | false=>rw [h1] at hr; cases hr
            | true =>
              rw [h1,ag] at hr
              rw [aO] at h1
              exact ⟨true,h1.1,fun i o x ho hx ha=>⟨ha,Ue L tr h1.2 i o x ho hx ha⟩,bk hr⟩
        subst hr
        simp only [nq,aO] at fN
        obtain ⟨⟨⟨s1,s2⟩,s3⟩,s4⟩:=fN
        obtain ⟨st,t1,t2,t3,t4,t5⟩:=QF L 0 s [s.h] tr hs z' V7
        simp only [dH] at t2 t5
        have S7:∀i o,L[i]?=some o→∀e∈o.after,fK e=true→e.on<i:=fun i o ho e he hb=>by
          have:=He L 0 s1 i o ho e he hb; omega
        have V8:∀i o,L[i]?=some o→∀j,bit ((nth (ancs L []) i).getD 0) j=true→j<i:=fun i o ho j hj =>
          (G_ S7 (fun _=>True) i o ho (fun _ _ _ _ _ _ _ _=>trivial) (fun _ _ _=>trivial) j hj).2
        have I:=(yM (C:=C) L 0).1
        have Ku:∀p,p∈dA C L 0↔∃o,L[p]?=some o∧isEff C o.op=true:=fun p=>by
          rw [NM]
          constructor
          · rintro ⟨i,o,rfl,h1,h2⟩; exact ⟨o,by simpa using h1,h2⟩
          · rintro ⟨o,h1,h2⟩; exact ⟨p,o,by omega,h1,h2⟩
        have ZD:∀k p,(dA C L 0)[k]?=some p→hs[k+1]?=some (st (p+1)).h:=fun k p J=>by
          rw [t4]; simp [J]
        have ZE:hs[0]?=some s.h:=by rw [t4]; simp
        have abY:hs.length=(dA C L 0).length+1:=by rw [t4]; simp
        have sF:∀i o,L[i]?=some o→∃h,(st i).put o.dst (((tr[i]?).map (·.2)).getD bV) h=some (st (i+1)) ∧
            (wantedV L (st i).env o=true→evOp C self (st i).env (st i).h o=some (((tr[i]?).map (·.2)).getD bV,h))∧(wantedV L (st i).env o=false→((tr[i]?).map (·.2)).getD bV=bV∧h=(st i).h):=fun i o ho=>by
          obtain ⟨v,h,e1,e2,e3,e4⟩:=t5 i o ho
          refine ⟨h,?_,?_,?_⟩ <;> rw [e1] <;> simp only [jN,fh]
          · exact e2
          · exact e3
          · exact e4
        -- all but 'same'; it is wanted for 'heapAt'
        have ab3:(∀i o,L[i]?=some o→isEff C o.op=false→∀k,k≤(dA C L 0).length→(∀idx p,idx<k→(dA C L 0)[idx]?=some p→bit ((nth (ancs L []) p).getD 0) i=false) →
              (∀idx p,k≤idx→(dA C L 0)[idx]?=some p→bit ((nth (ancs L []) i).getD 0) p=false) →
              wantedV L (st i).env o=true→∃h',evOp C self (st i).env ((hs[k]?).getD s.h) o=some (((tr[i]?).map (·.2)).getD bV,h')) →
            ic C self (fun i=>∃o,L[i]?=some o∧isAlloc fl o=true) L s st (fun i=>((tr[i]?).map (·.2)).getD bV) (dA C L 0) (fun k=>(hs[k]?).getD s.h):=fun LI =>
          { back:=S7
            LS:=fun j o ho i x hi hx=>by
              have:=LP L 0 s2 j o ho i x (by omega) hx
              rw [dH] at this
              exact this.imp id fun q=>⟨q.1,q.2.imp id fun q=>q.imp id fun q=>⟨o,ho,q⟩⟩
            AL:=fun i o ho ⟨o',uY,ha⟩=>by
              rw [ho] at uY
              obtain rfl:=bk uY
              obtain ⟨v,h,e1,_⟩:=t5 i o ho
              exact hW i o _ ho e1 ha
            NO:=fun i o ho ⟨o',uY,ha⟩ j u hu bF=>by
              rw [ho] at uY
              obtain rfl:=bk uY
              rcases Jt L 0 s3 i o ho ha j u hu (by omega) with h | h
              · exact .inl h
              · right
                intro p J hpi
                exact NN I h p J (by omega)
            rU:=Ku
            sorted:=I
            start:=t1
            step:=sF
            LU:=by rw [ZE]; rfl
            CD:=fun k p J=>by rw [ZD k p J]; rfl
            ZB:=fun i o ho he=>by
              obtain ⟨v,h,e1,_⟩:=t5 i o ho
              have:=(Fi L tr 0 AN i o _ ho e1 he).1
              simp only [dH] at this
              exact QH _ this
            same:=LI }
        refine ⟨_,st,_,_,ab3 ?_,t2,s4⟩
        intro i o ho he k hk h1 h2 hw
        obtain ⟨v,h,e1,e2,e3,e4⟩:=t5 i o ho
        obtain ⟨g1,g2⟩:=Fi L tr 0 AN i o _ ho e1 he
        simp only [dH] at g1 g2
        have aaq:ij ((nth (ancs L []) i).getD 0) (dA C L 0)≤k:=sW fun bF=>by
          obtain ⟨p,J⟩:∃p,(dA C L 0)[k]?=some p:=⟨_,bf (by have:=(Eu (m:=(nth (ancs L []) i).getD 0) (dA C L 0)).2; omega)⟩
          have:=(Eu (dA C L 0)).1 k p bF J
          rw [h2 k p (aD _) J] at this
          cases this
        have ab4:k≤j5 (ancs L []) i (dA C L 0):=sW fun bF=>by
          obtain ⟨p,J⟩:∃p,(dA C L 0)[j5 (ancs L []) i (dA C L 0)]?=some p:=⟨_,bf (by omega)⟩
          have:=(Kz (as:=ancs L []) (i:=i) (dA C L 0)).2 p J
          rw [h1 _ p bF J] at this
          cases this
        have Qz:((tr[i]?).map (·.2)).getD bV=v:=by rw [e1]; rfl
        rw [Qz]
        rcases g2 with g2 | g2
        · -- its place is known
          have Cn:(st i).h=(hs[k]?).getD s.h:=by
            have Bq:k=j5 (ancs L []) i (dA C L 0):=by omega
            have bF:∀idx p,idx<k→(dA C L 0)[idx]?=some p→p<i:=fun idx p bF J=>by
              have:=(Eu (m:=(nth (ancs L []) i).getD 0) (dA C L 0)).1 idx p (by omega) J
              exact V8 i o ho p this
            have ZF:∀idx p,k≤idx→(dA C L 0)[idx]?=some p→i≤p:=fun idx p hle J=>by
              obtain ⟨q,hq⟩:∃q,(dA C L 0)[k]?=some q:=⟨_,bf (by have:=(List.getElem?_eq_some_iff.1 J).1; omega)⟩
              have hb:=(Kz (as:=ancs L []) (i:=i) (dA C L 0)).2 q (by rw [←Bq]; exact hq)
              obtain ⟨x,hx,_⟩:=(Ku q).1 (bC hq)
              have hiq:=V8 q x hx i hb
              rcases vQ hle with e | e
              · subst e; rw [hq] at J; simp at J; omega
              · obtain ⟨a1,b1⟩:=List.getElem?_eq_some_iff.1 hq
                obtain ⟨a2,b2⟩:=List.getElem?_eq_some_iff.1 J
                have:=(List.pairwise_iff_getElem.1 I) k idx a1 a2 e
                omega
            exact CE (Hs:=fun k=>(hs[k]?).getD s.h) sF (fun p=>Ku p) I t1 (by rw [ZE]; rfl) (fun k p J=>by rw [ZD k p J]; rfl) i k (by have:=(List.getElem?_eq_some_iff.1 ho).1; omega) hk bF ZF
          rw [←Cn]
          exact ⟨h,e3 hw⟩
        · have hm:(hs[k]?).getD s.h∈(hs.drop (ij ((nth (ancs L []) i).getD 0) (dA C L 0))).take (j5 (ancs L []) i (dA C L 0)+1-ij ((nth (ancs L []) i).getD 0) (dA C L 0)):=by
            have aar:k<hs.length:=by omega
            refine bC (i:=k-ij ((nth (ancs L []) i).getD 0) (dA C L 0)) ?_
            rw [jM,aj (by omega),iU,Nat.add_sub_cancel' aaq,bf aar]
            simp
          exact NS _ g2 hw _ hm
theorem Uf {L:List Oper}{S:Nat→Prop}(J:∀i o,L[i]?=some o→∀e∈o.after,fK e=true→e.on<i)(hn:∀i o,¬ lI L S i o): ∀i,i<L.length→S i:=by
 intro i
 induction i using Nat.strongRecOn with
 | _ i ih =>
  intro hi
  refine DU fun hS => ?_
  refine hn i L[i] ⟨bf hi,hS,fun e he I => ?_⟩
  have:=J i L[i] (bf hi) e he I
  exact ih e.on this (by omega)
theorem gQ.done {Fl:Nat→Prop}{L:List Oper}{s:St}{st:Nat→St}{vv:Nat→V}{es:List Nat}{Hs:Nat→H}{c₀ c:Ctx}{w₀ w:World}{d₀:List Deferred}{S:Nat→Prop}{early:Nat→Option (Nat×FV)}{k:Nat}{a:Act}
 (D:ic C self Fl L s st vv es Hs)(I:gQ C self Fl L s st vv es Hs c₀ w₀ d₀ S early k c a w)(jW:∀p,es[k]?=some p→¬ S p)(J:∀i,i<L.length→S i):
  Rel c (st L.length).h w∧dQ c (st L.length).env (st L.length).ay a:=by
 have bF:∀p∈es,p<L.length:=fun p hp=>by
  obtain ⟨o,ho,_⟩:=(D.rU p).1 hp
  exact (List.getElem?_eq_some_iff.1 ho).1
 have hk:k=es.length:=by
  refine Nat.le_antisymm I.Hg (sW fun h => ?_)
  exact jW _ (bf h) (J _ (bF _ (qJ h)))
 have V9:∀p,early p=none:=fun p=>by
  cases h:early p with
  | none=>rfl
  | some b =>
   obtain ⟨_,idx,h1,h2⟩:=I.tv p b h
   have:=(List.getElem?_eq_some_iff.1 h2).1
   omega
 refine ⟨?_,?_⟩
 ·rw [D.Hf L.length k (aD _) I.Hg (fun idx p _ hp=>bF p (bC hp)) (fun idx p hle hp=>by have:=(List.getElem?_eq_some_iff.1 hp).1; omega)]
  exact I.rel
 ·have hv:∀t,a.tmps.getD t undef=conc c ((st L.length).env.v t)∧wf c ((st L.length).env.v t):=fun t=>by
   rcases I.tmp t with ⟨i,o,g1,g2,g3,g4,g5⟩ | ⟨g1,g2,g3⟩
   ·have:(st L.length).env.v t=vv i:=by
     rcases D.GB t L.length (aD _) with ⟨j,oj,h1,h2,h3,h4,h5⟩ | ⟨h1,_⟩
     ·have e1:=h4 i o (List.getElem?_eq_some_iff.1 g2).1 g2 g3
      have e2:=g4 j oj (J j h1) h2 h3
      have:j=i:=by omega
      subst this; exact h5
     ·exact absurd g3 (h1 i o (List.getElem?_eq_some_iff.1 g2).1 g2)
    rcases g5 with ⟨b,e1,_⟩ | ⟨_,e2,e3⟩
    ·rw [V9 i] at e1; cases e1
    ·rw [this]; exact ⟨e2,e3⟩
   ·have:(st L.length).env.v t=s.env.v t:=by
     rcases D.GB t L.length (aD _) with ⟨j,oj,h1,h2,h3,h4,h5⟩ | ⟨_,h⟩
     ·exact absurd h3 (g1 j oj (J j h1) h2)
     ·exact h
    rw [this]; exact ⟨g2,g3⟩
  exact ⟨by rw [I.size,D.ay L.length (aD _)],fun t=>(hv t).1,fun t=>(hv t).2⟩
theorem gQ.congr {Fl:Nat→Prop}{L:List Oper}{s:St}{st:Nat→St}{vv:Nat→V}{es:List Nat}{Hs:Nat→H}{c₀ c:Ctx}{w₀ w:World}{d₀:List Deferred}{S S':Nat→Prop}{early:Nat→Option (Nat×FV)}{k:Nat}{a:Act}
 (I:gQ C self Fl L s st vv es Hs c₀ w₀ d₀ S early k c a w)(h:∀j,S j↔S' j): gQ C self Fl L s st vv es Hs c₀ w₀ d₀ S' early k c a w:=by
 have:S=S':=funext fun j=>propext (h j)
 rw [←this]; exact I
theorem QJ (hS:iW C.P self)(hT:fy C){r:Option Nat}{ops:Array Oper}{Fl:Nat→Prop}{L:List Oper}(hL:ops.toList=L){Q:Exit→Act→World→Prop}{s:St}{st:Nat→St}{vv:Nat→V}{es:List Nat}{Hs:Nat→H}
 {c₀:Ctx}{w₀:World}{d₀:List Deferred}(D:ic C self Fl L s st vv es Hs)
 (hQ:∀c a w,Rel c (st L.length).h w→dQ c (st L.length).env (st L.length).ay a→cV c₀ w₀ c w→a.defers=d₀→Q .normal a w):
  ∀(fuel:Nat) (J:Array Bool) (early:Nat→Option (Nat×FV)) (k:Nat) (c:Ctx) (a:Act) (w:World),J.size=L.length→J.count false≤fuel →
   gQ C self Fl L s st vv es Hs c₀ w₀ d₀ (fun j=>J.getD j false=true) early k c a w→wpAnyIn (Fr r) 0 C.P .any ops Q fuel J a w:=by
 intro fuel
 induction fuel with
 | zero =>
  intro J early k c a w eZ aas I
  have mE:∀i,i<L.length→J.getD i false=true:=fun i hi=>by
   have h0:J.count false=0:=by omega
   have:false∉J:=Array.count_eq_zero.1 h0
   rw [lK,vI (by omega)]
   cases hb:J[i]'(by omega) with
   | true=>rfl
   | false=>exact absurd (by rw [←hb]; exact Array.getElem_mem _) this
  obtain ⟨nB,k',c',I',jW⟩:=gQ.Fh D (es.length-k) k early c rfl I
  obtain ⟨r1,r2⟩:=I'.done D jW mE
  refine ⟨?_,hQ c' a w r1 r2 I'.Kv I'.defers⟩
  refine List.eq_nil_iff_forall_not_mem.2 fun j hj => ?_
  obtain ⟨h1,o,h2,_⟩:=mem_ready.1 hj
  have bF:j<L.length:=by rw [←hL]; simpa using (Array.getElem?_eq_some_iff.1 h2).1
  have h3:=mE j bF
  rw [lK,vI (by omega)] at h1 h3
  simp at h1 h3
  rw [h1] at h3; cases h3
 | succ fuel ih =>
  intro J early k c a w eZ aas I
  obtain ⟨nB,k',c',I',jW⟩:=gQ.Fh D (es.length-k) k early c rfl I
  have NT:∀j,j∈Region.ready .any ops J↔∃o,lI L (fun j=>J.getD j false=true) j o:=fun j=>by
   rw [mem_ready]
   constructor
   ·rintro ⟨h1,o,h2,h3⟩
    refine ⟨o,by rw [←hL,jf]; exact h2,fun h4 => ?_,fun e he hb=>h3 e he ?_⟩
    ·have bF:j<J.size:=by rw [eZ,←hL]; simpa using (Array.getElem?_eq_some_iff.1 h2).1
     rw [lK,vI bF] at h1 h4
     simp at h1 h4
     rw [h1] at h4; cases h4
    ·rw [←hb]; cases e; rename_i on g; cases g <;> rfl
   ·rintro ⟨o,R⟩
    have h2:=R.at_
    rw [←hL,jf] at h2
    refine ⟨?_,o,h2,fun e he hb=>R.LX e he ?_⟩
    ·have bF:j<J.size:=by rw [eZ,←hL]; simpa using (Array.getElem?_eq_some_iff.1 h2).1
     have h4:=R.not
     rw [lK,vI bF] at h4 ⊢
     simpa using h4
    ·rw [←hb]; cases e; rename_i on g; cases g <;> rfl
  refine ⟨fun BV => ?_,fun i hi => ?_⟩
  ·have mE:=Uf (S:=fun j=>J.getD j false=true) D.back (fun i o R=>by
    have:=(NT i).2 ⟨o,R⟩
    rw [BV] at this; simp at this)
   obtain ⟨r1,r2⟩:=I'.done D jW mE
   exact hQ c' a w r1 r2 I'.Kv I'.defers
  ·obtain ⟨o,R⟩:=(NT i).1 hi
   have bF:i<J.size:=by rw [eZ]; exact (List.getElem?_eq_some_iff.1 R.at_).1
   have V_:J[i]=false:=by
    have:=R.not
    rw [lK,vI bF] at this
    simpa using this
   refine I'.V5 hS hT hL D jW R ?_
   intro Ug k'' mM rT tZ I''
   refine ih (J.setIfInBounds i true) Ug k'' mM rT tZ (by simp [eZ]) ?_ (I''.congr fun j => ?_)
   ·have:(J.setIfInBounds i true).count false=J.count false-1:=by
     rw [Array.setIfInBounds_def,dif_pos bF,Array.count_set]
     simp [V_]
    omega
   ·by_cases rV:j=i
    ·subst rV
     simp [lK,bF]
    ·simp [lK,Ar (jO rV),rV]
theorem NU (hS:iW C.P self)(hT:fy C)(hm:C.P.follows .mixedOrders=true){r:Option Nat}{id:Nat}{ops:Array Oper}{s s':St}(hr:lS C self ops.toList s=some s'){Q:Exit→Act→World→Prop}
 {c:Ctx}{a:Act}{w:World}(h:Rel c s.h w)(he:dQ c s.env s.ay a)
 (hQ:∀c' J w',Rel c' s'.h w'→dQ c' s'.env s'.ay J→cV c w c' w'→J.defers=a.defers→Q .normal J w'):
  (Code.region id ops true).wpIn (Fr r) 0 C.P Q a w:=by
 obtain ⟨Fl,st,vv,Hs,D,hz,_⟩:=QI hr
 refine wpIn_region_any hm ?_
 have aat:cV c w c { w with drawn:=w.drawn+1 }:=cV.drew c w
 have vu:Rel c s.h { w with drawn:=w.drawn+1 }:=h.drew
 refine QJ hS hT rfl D (c₀:=c) (w₀:=w) (d₀:=a.defers) (fun c' J w' r1 r2 r3 r4=>hQ c' J w' (by rw [←hz]; exact r1) (by rw [←hz]; exact r2) r3 r4)
  ops.size (Array.replicate ops.size false) (fun _=>none) 0 c a _ (by simp) (by simp) ?_
 have I:∀j,¬ (Array.replicate ops.size false).getD j false=true:=fun j=>by
  rw [lK,Array.getElem?_replicate]; split <;> simp
 refine ⟨fun i o hi=>absurd hi (I i),fun idx p h=>by omega,ew _,fun idx p _ _ hp=>absurd hp (I p),(fun p b h=>by cases h),(by rw [D.LU]; exact vu),he.size,
  fun t=>.inr ⟨fun j o hj=>absurd hj (I j),he.val t,he.uS t⟩,(fun p b h=>by cases h),(fun p q b b' h=>by cases h),aat,rfl⟩
end
end Go.Proofs.YtefepnnfphdkpaaGreat.Am
