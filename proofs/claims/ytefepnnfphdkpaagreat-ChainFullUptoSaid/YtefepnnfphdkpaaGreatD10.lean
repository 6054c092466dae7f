/- ChainFull: a part of its proof; conditions: its statement's. -/
import Derived.Test.YtefepnnfphdkpaaGreatD09
namespace Go.Proofs.YtefepnnfphdkpaaGreat.Am
open Go
section
variable {C:b9} {self:Self} {c:Ctx} {w:World}
variable {Fl:Nat→Prop} {L:List Oper} {s:St} {st:Nat→St} {vv:Nat→V} {es:List Nat} {Hs:Nat→H}
variable {c₀:Ctx} {w₀:World} {d₀:List Deferred} {S:Nat→Prop} {early:Nat→Option (Nat×FV)} {k i:Nat} {a:Act} {o:Oper}
structure jY (L:List Oper)(S:Nat→Prop)(i:Nat)(o:Oper): Prop where
 at_:L[i]?=some o
 not:¬ S i
 HQ:∀e∈o.after,ew e=true→S e.on
theorem jY.Rc (D:fQ C self Fl L s st vv es Hs)(I:∀i o,S i→L[i]?=some o→∀e∈o.after,ew e=true→S e.on)(R:jY L S i o){j:Nat}
 (h:bit ((nth (ancs L []) i).getD 0) j=true): S j∧j<i :=
 Dr D.back S i o R.at_ (fun k o' _ J hk=>I k o' hk J) R.HQ j h
theorem Dv (D:fQ C self Fl L s st vv es Hs)(I:∀i o,S i→L[i]?=some o→∀e∈o.after,ew e=true→S e.on){j q:Nat}{x:Oper}(hj:S j)(hx:L[j]?=some x)
 (h:bit ((nth (ancs L []) j).getD 0) q=true): S q∧q<j :=
 Dr D.back S j x hx (fun k o' _ J hk=>I k o' hk J) (I j x hj hx) q h
theorem jY.later (D:fQ C self Fl L s st vv es Hs)(I:∀i o,S i→L[i]?=some o→∀e∈o.after,ew e=true→S e.on)(R:jY L S i o){j:Nat}{x:Oper}
 (hj:S j)(hx:L[j]?=some x)(J:i<j): jC L o x=true:=by
 rcases D.HM j x hx i o J R.at_ with h | ⟨h,_⟩
 ·exact absurd (Dv D I hj hx h).1 R.not
 ·exact h
theorem jY.before (D:fQ C self Fl L s st vv es Hs)(I:∀i o,S i→L[i]?=some o→∀e∈o.after,ew e=true→S e.on)(R:jY L S i o){j:Nat}{x:Oper}
 (hx:L[j]?=some x)(J:j<i): S j∨(jC L x o=true∧(isEff C x.op=false∨isEff C o.op=false∨Fl i)):=by
 rcases D.HM i o R.at_ j x J hx with h | h
 ·exact .inl (R.Rc D I h).1
 ·exact .inr h
theorem fC.Gk (D:fQ C self Fl L s st vv es Hs)(I:fC C self Fl L s st vv es Hs c₀ w₀ d₀ S early k c a w)(iG:∀p,es[k]?=some p→¬ S p)(R:jY L S i o)
 {t:Tmp}(ht:t∈looks L o): a.tmps.getD t undef=conc c ((st i).env.v t)∧wf c ((st i).env.v t):=by
 have hlen:i<L.length:=(List.getElem?_eq_some_iff.1 R.at_).1
 -- those that write it and have come stand ahead in the text
 have Pd:∀j x,S j→L[j]?=some x→x.dst=some t→j<i:=fun j x hj hx hd=>by
  rcases A9 j i with h | h | h
  ·exact h
  ·subst h; exact absurd hj R.not
  ·exact absurd ht ((rU (R.later D I.closed hj hx h)).2 t hd)
 have N5:∀j x,j<i→L[j]?=some x→x.dst=some t→S j:=fun j x aY hx hd=>by
  rcases R.before D I.closed hx aY with h | ⟨h,_⟩
  ·exact h
  ·exact absurd ht ((rU h).1 t hd).1
 rcases I.tmp t with ⟨J,HR,g1,g2,g3,g4,g5⟩ | ⟨g1,g2,g3⟩
 ·have aY:=Pd J HR g1 g2 g3
  have nu:(st i).env.v t=vv J:=by
   rcases D.C0 t i (by omega) with ⟨j,oj,h1,h2,h3,h4,h5⟩ | ⟨h1,_⟩
   ·have e1:=h4 J HR aY g2 g3
    have e2:=g4 j oj (N5 j oj h1 h2 h3) h2 h3
    have:j=J:=by omega
    subst this; exact h5
   ·exact absurd g3 (h1 J HR aY g2)
  rcases g5 with ⟨b,e1,_⟩ | ⟨_,e2,e3⟩
  ·exfalso
   obtain ⟨_,idx,f2,f3⟩:=I.qF J b e1
   obtain ⟨f5,_⟩:=I.late idx J f2 f3 g1
   obtain ⟨q,hq⟩:∃q,es[k]?=some q:=⟨_,aM (by have:=(List.getElem?_eq_some_iff.1 f3).1; omega)⟩
   by_cases N6:q=J
   ·subst N6; exact iG _ hq g1
   ·have VK:q<J:=by
     have:k≠idx:=fun e=>by subst e; rw [hq] at f3; simp at f3; exact N6 f3
     exact (xg D hq f3).1 (by omega)
    rcases D.JK J HR g2 f5 i o R.at_ aY with h | h
    ·exact ((rU h).1 t g3).1 ht
    ·exact iG q hq (R.Rc D I.closed (h q (aV hq) VK)).1
  ·rw [nu]; exact ⟨e2,e3⟩
 ·have nu:(st i).env.v t=s.env.v t:=by
   rcases D.C0 t i (by omega) with ⟨j,oj,h1,h2,h3,h4,h5⟩ | ⟨_,h⟩
   ·exact absurd h3 (g1 j oj (N5 j oj h1 h2 h3) h2)
   ·exact h
  rw [nu]; exact ⟨g2,g3⟩
theorem fC.Ge (D:fQ C self Fl L s st vv es Hs)(I:fC C self Fl L s st vv es Hs c₀ w₀ d₀ S early k c a w)(J:∀p,es[k]?=some p→¬ S p)(R:jY L S i o): zG c (st i).env a o:=by
 intro x hx v hv
 cases x with
 | tmp t =>
  simp only [evO,aj] at hv
  subst hv
  have hl:t∈looks L o:=List.mem_append_left _ (List.mem_filterMap.2 ⟨.tmp t,by simpa using hx,rfl⟩)
  exact I.Gk D J R hl
 | const x =>
  simp only [evO] at hv
  obtain ⟨h1,h2⟩:=pW hv c
  exact ⟨h1.symm,h2⟩
 | global g=>simp [evO] at hv
 | func f =>
  simp only [evO,aj] at hv
  subst hv
  exact ⟨by simp [Act.eval,conc,concL],by simp [wf,ej]⟩
theorem fC.wanted (D:fQ C self Fl L s st vv es Hs){ops:Array Oper}(hL:ops.toList=L)(I:fC C self Fl L s st vv es Hs c₀ w₀ d₀ S early k c a w)(J:∀p,es[k]?=some p→¬ S p)(R:jY L S i o):
  Region.wanted o (yielded ops a.tmps)=wantedV L (st i).env o:=by
 rw [←hL]
 refine zH (c:=c) fun j w d hg hd => ?_
 have hl:d∈looks L o:=by
  refine List.mem_append_right _ ?_
  rw [hg]
  simp only [eW]
  rw [←hL,iA,hd]
  simp
 exact (I.Gk D J R hl).1
theorem fC.Gm (D:fQ C self Fl L s st vv es Hs)(I:fC C self Fl L s st vv es Hs c₀ w₀ d₀ S early k c a w)(R:jY L S i o){c':Ctx}(e:Ext c c'){lE:Nat→Option (Nat×FV)}
 (Gn:∀j,j≠i→lE j=early j)(X:Value)
 (hX:(∃b,lE i=some b∧X=b.2.val b.1)∨(lE i=none∧X=conc c' (vv i)∧wf c' (vv i)))(t:Tmp):
  (∃J HR,(S J∨J=i)∧L[J]?=some HR∧HR.dst=some t∧(∀j o',(S j∨j=i)→L[j]?=some o'→o'.dst=some t→j≤J) ∧
    ((∃b,lE J=some b∧(a.put o.dst X).tmps.getD t undef=b.2.val b.1)∨(lE J=none∧(a.put o.dst X).tmps.getD t undef=conc c' (vv J)∧wf c' (vv J)))) ∨
   ((∀j o',(S j∨j=i)→L[j]?=some o'→o'.dst≠some t)∧(a.put o.dst X).tmps.getD t undef=conc c' (s.env.v t)∧wf c' (s.env.v t)):=by
 have hlen:i<L.length:=(List.getElem?_eq_some_iff.1 R.at_).1
 by_cases hd:o.dst=some t
 ·left
  refine ⟨i,o,.inr rfl,R.at_,hd,fun j x hj hx N7 => ?_,?_⟩
  ·rcases hj with hj | hj
   ·rcases iD i j with h | h
    ·exact absurd N7 ((rU (R.later D I.closed hj hx h)).1 t hd).2
    ·exact h
   ·omega
  ·obtain ⟨h,p1,_,_⟩:=D.step i o R.at_
   obtain ⟨_,_,p3,_⟩:=m7 p1
   have eA:t<a.tmps.size:=by rw [I.size,←D.au i (by omega)]; exact p3 t hd
   have Dg:(a.put o.dst X).tmps.getD t undef=X:=by rw [hd]; simp [Act.put,Array.getD,eA]
   rw [Dg]
   exact hX
 ·have Dg:(a.put o.dst X).tmps.getD t undef=a.tmps.getD t undef:=by
   cases ho:o.dst with
   | none=>rfl
   | some d =>
    have:d≠t:=fun e=>hd (by rw [ho,e])
    simp [Act.put,j3,wI this]
  rw [Dg]
  rcases I.tmp t with ⟨J,HR,g1,g2,g3,g4,g5⟩ | ⟨g1,g2,g3⟩
  ·left
   have dw:J≠i:=fun e=>by subst e; exact R.not g1
   refine ⟨J,HR,.inl g1,g2,g3,fun j x hj hx N7 => ?_,?_⟩
   ·rcases hj with hj | hj
    ·exact g4 j x hj hx N7
    ·subst hj; rw [R.at_] at hx; simp at hx; subst hx; exact absurd N7 hd
   ·rw [Gn J dw]
    rcases g5 with h | ⟨e1,e2,e3⟩
    ·exact .inl h
    ·exact .inr ⟨e1,by rw [e2,(bM e _ e3).1],(bM e _ e3).2⟩
  ·right
   refine ⟨fun j x hj hx => ?_,by rw [g2,(bM e _ g3).1],(bM e _ g3).2⟩
   rcases hj with hj | hj
   ·exact g1 j x hj hx
   ·subst hj; rw [R.at_] at hx; simp at hx; subst hx; exact hd
theorem fC.zT (I:fC C self Fl L s st vv es Hs c₀ w₀ d₀ S early k c a w)(R:jY L S i o):
  ∀j x,(S j∨j=i)→L[j]?=some x→∀e∈x.after,ew e=true→(S e.on∨e.on=i):=by
 intro j x J hx e he hb
 rcases J with J | J
 ·exact .inl (I.closed j x J hx e he hb)
 ·subst J; rw [R.at_] at hx; simp at hx; subst hx; exact .inl (R.HQ e he hb)
theorem Dw (a:Act)(d:Option Tmp)(X:Value): (a.put d X).tmps.size=a.tmps.size:=by cases d <;> simp [Act.put]
theorem put_defers (a:Act)(d:Option Tmp)(X:Value): (a.put d X).defers=a.defers:=by cases d <;> rfl
theorem fC.next (D:fQ C self Fl L s st vv es Hs)(I:fC C self Fl L s st vv es Hs c₀ w₀ d₀ S early k c a w)(R:jY L S i o){c':Ctx}{w':World}(X:b7 c w c' w')(k':Nat)
 (J:(k'=k∧isEff C o.op=false)∨(k'=k+1∧es[k]?=some i))(pG:Rel c' (Hs k') w')(hv:wf c' (vv i)):
  fC C self Fl L s st vv es Hs c₀ w₀ d₀ (fun j=>S j∨j=i) early k' c' (a.put o.dst (conc c' (vv i))) w':=by
 have Xm:early i=none:=by
  cases h:early i with
  | none=>rfl
  | some b=>exact absurd (I.qF i b h).1 R.not
 refine ⟨I.zT R,fun idx p aY hp => ?_,?_,fun idx p hle hp uR => ?_,fun p b hp => ?_,pG,by rw [Dw]; exact I.size,
  fun t=>I.Gm D R X.ext (fun j _=>rfl) _ (.inr ⟨Xm,rfl,hv⟩) t,fun p b hp => ?_,I.distinct,I.Gj.trans X,by rw [put_defers]; exact I.defers⟩
 ·rcases J with ⟨rfl,_⟩ | ⟨rfl,J⟩
  ·exact .inl (I.pre idx p aY hp)
  ·by_cases h:idx=k
   ·subst h; rw [J] at hp; simp at hp; exact .inr hp.symm
   ·exact .inl (I.pre idx p (by omega) hp)
 ·rcases J with ⟨rfl,_⟩ | ⟨rfl,J⟩
  ·exact I.Du
  ·have:=(List.getElem?_eq_some_iff.1 J).1; omega
 ·rcases uR with uR | uR
  ·refine I.late idx p ?_ hp uR
   rcases J with ⟨rfl,_⟩ | ⟨rfl,J⟩ <;> omega
  ·subst uR
   exfalso
   rcases J with ⟨rfl,J⟩ | ⟨rfl,J⟩
   ·obtain ⟨o',h1,h2⟩:=(D.oQ p).1 (aV hp)
    rw [R.at_] at h1; simp at h1; subst h1; rw [J] at h2; cases h2
   ·have:=JM D hp J; omega
 ·obtain ⟨g1,idx,g2,g3⟩:=I.qF p b hp
  refine ⟨.inl g1,idx,?_,g3⟩
  rcases J with ⟨rfl,_⟩ | ⟨rfl,J⟩
  ·exact g2
  ·rcases sQ g2 with e | e
   ·subst e; rw [J] at g3; simp at g3; subst g3; exact absurd g1 R.not
   ·exact e
 ·obtain ⟨g1,g2,g3,o',T,cs,g4,g5,g6,g7⟩:=I.blocks p b hp
  refine ⟨g1,gH g2 X.size,fun id uP he => ?_,o',T,cs,g4,g5,fun v hv=>⟨(bM X.ext v (g6 v hv).1).2,(g6 v hv).2⟩,by rw [X.kU b.1 g2 (fun id hi he=>absurd he (g3 id hi)),mS fun v hv=>(bM X.ext v (g6 v hv).1).1]; exact g7⟩
  by_cases Re:id<c.N
  ·exact g3 id Re (by rw [←X.ext.ρ id Re]; exact he)
  ·rcases X.fresh id (by omega) uP with h | ⟨j,hj,h,_⟩
   ·omega
   ·exact g3 j hj (by rw [h]; exact he)
theorem fC.float (D:fQ C self Fl L s st vv es Hs)(I:fC C self Fl L s st vv es Hs c₀ w₀ d₀ S early k c a w)(R:jY L S i o)(NY:Fl i){fv:FV}{cs:List V}{T:TypeId}
 (F:Bu C self (st i).env o fv cs T)(hG:∀v∈cs,wf c v∧storable v=true){idx:Nat}(VL:es[idx]?=some i)(hle:k≤idx):
  fC C self Fl L s st vv es Hs c₀ w₀ d₀ (fun j=>S j∨j=i) (fun j=>if j=i then some (w.heap.size,fv) else early j) k c (a.put o.dst (fv.val w.heap.size))
   (w.alloc (.cells (cs.map (conc c)).toArray T (0,0))):=by
 obtain ⟨j1,j2⟩:=I.rel.VF (.cells (cs.map (conc c)).toArray T (0,0))
 have nS:∀j,S j→j≠i:=fun j hj e=>by subst e; exact R.not hj
 refine ⟨I.zT R,fun idx p aY J=>.inl (I.pre idx p aY J),I.Du,fun VM p QL J uR => ?_,fun p b J => ?_,j1,by rw [Dw]; exact I.size,
  fun t=>I.Gm D R (Ext.refl c) (fun j hj=>by simp [hj]) _ (.inl ⟨(w.heap.size,fv),by simp,rfl⟩) t,fun p b J => ?_,fun p q b b' J hq he => ?_,I.Gj.trans j2,by rw [put_defers]; exact I.defers⟩
 ·rcases uR with uR | uR
  ·obtain ⟨g1,b,g3⟩:=I.late VM p QL J uR
   exact ⟨g1,b,by simp [nS p uR,g3]⟩
  ·subst uR
   exact ⟨NY,_,by simp; rfl⟩
 ·by_cases h:p=i
  ·subst h; exact ⟨.inr rfl,idx,hle,VL⟩
  ·simp [h] at J
   obtain ⟨g1,g2⟩:=I.qF p b J
   exact ⟨.inl g1,g2⟩
 ·by_cases h:p=i
  ·subst h
   simp at J
   subst J
   refine ⟨I.Gj.size,by simp,fun id uP=>fJ (I.rel.jr id uP),o,T,cs,R.at_,F,hG,by rw [fE]; simp⟩
  ·simp [h] at J
   obtain ⟨g1,g2,g3,o',T',cs',g4,g5,g6,g7⟩:=I.blocks p b J
   exact ⟨g1,by simp; omega,g3,o',T',cs',g4,g5,g6,by rw [fE,ai (fJ g2)]; exact g7⟩
 ·by_cases h1:p=i <;> by_cases h2:q=i
  ·omega
  ·simp [h1] at J
   simp [h2] at hq
   have:=(I.blocks q b' hq).2.1
   rw [←J] at he
   simp at he
   omega
  ·simp [h1] at J
   simp [h2] at hq
   have:=(I.blocks p b J).2.1
   rw [←hq] at he
   simp at he
   omega
  ·simp [h1] at J
   simp [h2] at hq
   exact I.distinct p q b b' J hq he
theorem fC.Rf (hS:iE C.P self)(hT:fA C){r:Option Nat}{ops:Array Oper}(hL:ops.toList=L){Q:Exit→Act→World→Prop}(D:fQ C self Fl L s st vv es Hs)
 (I:fC C self Fl L s st vv es Hs c₀ w₀ d₀ S early k c a w)(iG:∀p,es[k]?=some p→¬ S p)(R:jY L S i o){K:Act→World→Prop}
 (hK:∀lE k' c' a' w',fC C self Fl L s st vv es Hs c₀ w₀ d₀ (fun j=>S j∨j=i) lE k' c' a' w'→K a' w'): wpOpIn (Fr r) 0 C.P ops Q i K a w:=by
 have hlen:i<L.length:=(List.getElem?_eq_some_iff.1 R.at_).1
 have Xn:ops[i]?=some o:=by rw [←iA,hL]; exact R.at_
 obtain ⟨h,p1,p2,p3⟩:=D.step i o R.at_
 have ph:=(m7 p1).1
 -- an effect that is no new variable comes in its place
 have place:isEff C o.op=true→¬ Fl i→es[k]?=some i:=by
  intro he ha
  obtain ⟨idx,J⟩:=sK ((D.oQ i).2 ⟨o,R.at_,he⟩)
  have h1:¬ idx<k:=fun aY=>R.not (I.pre idx i aY J)
  by_cases h2:idx=k
  ·subst h2; exact J
  ·exfalso
   obtain ⟨q,hq⟩:∃q,es[k]?=some q:=⟨_,aM (by have:=(List.getElem?_eq_some_iff.1 J).1; omega)⟩
   obtain ⟨oq,g1,g2⟩:=(D.oQ q).1 (aV hq)
   have N6:q<i:=(xg D hq J).1 (by omega)
   rcases R.before D I.closed g1 N6 with hb | ⟨_,hb⟩
   ·exact iG q hq hb
   ·rcases hb with hb | hb | hb
    ·rw [g2] at hb; cases hb
    ·rw [he] at hb; cases hb
    ·exact ha hb
 have N8:es[k]?=some i→(st i).h=Hs k:=fun hk=>D.Dt i k (by omega) I.Du (fun idx q aY hq=>(xg D hq hk).1 aY) (fun idx q hle hq=>by
  rcases sQ hle with e | e
  ·subst e; rw [hk] at hq; simp at hq; omega
  ·exact Nat.le_of_lt ((xg D hk hq).1 e))
 unfold wpOpIn
 rw [Xn]
 simp only [I.wanted D hL iG R]
 cases hw:wantedV L (st i).env o with
 | false =>
  simp only [dV,bF]
  refine ⟨fun _ _=>trivial,?_⟩
  obtain ⟨hv,hh⟩:=p3 hw
  have Rg:wf c (vv i):=by rw [hv]; simp [bJ,wf,ej]
  have hX:conc c (vv i)=undef:=by rw [hv,nm]
  cases he:isEff C o.op with
  | false =>
   have:=I.next D R (b7.refl c w) k (.inl ⟨rfl,he⟩) I.rel Rg
   rw [hX] at this
   exact hK _ _ _ _ _ this
  | true =>
   have ha:¬ Fl i:=fun q=>by rw [(D.xb i o R.at_ q).2] at hw; cases hw
   have hk:=place he ha
   have pG:Rel c (Hs (k+1)) w:=by rw [D.zQ k i hk,ph,hh,N8 hk]; exact I.rel
   have:=I.next D R (b7.refl c w) (k+1) (.inr ⟨rfl,hk⟩) pG Rg
   rw [hX] at this
   exact hK _ _ _ _ _ this
 | true =>
  simp only [bB]
  cases he:isEff C o.op with
  | false =>
   obtain ⟨h',ke⟩:=D.same i o R.at_ he k I.Du (fun idx p aY hp=>by
    cases hb:bit ((nth (ancs L []) p).getD 0) i with
    | false=>rfl
    | true =>
     obtain ⟨x,hx,_⟩:=(D.oQ p).1 (aV hp)
     exact absurd (Dv D I.closed (I.pre idx p aY hp) hx hb).1 R.not) (fun idx p hle hp=>by
    cases hb:bit ((nth (ancs L []) i).getD 0) p with
    | false=>rfl
    | true =>
     obtain ⟨q,hq⟩:∃q,es[k]?=some q:=⟨_,aM (by have:=(List.getElem?_eq_some_iff.1 hp).1; omega)⟩
     exact absurd (R.Rc D I.closed (D.Ur i o R.at_ he k idx q p hle hq hp hb)).1 (iG q hq)) hw
   have hh:=B8 he ke
   subst hh
   refine (w_ hS hT I.rel (I.Ge D iG R) ke).wpIn (lD ke) ?_
   intro c' w' r1 r2 r3
   exact hK _ _ _ _ _ (I.next D R r2 k (.inl ⟨rfl,he⟩) r1 r3)
  | true =>
   have ke:=p2 hw
   by_cases hk:es[k]?=some i
   ·rw [N8 hk] at ke
    refine (w_ hS hT I.rel (I.Ge D iG R) ke).wpIn (lD ke) ?_
    intro c' w' r1 r2 r3
    exact hK _ _ _ _ _ (I.next D R r2 (k+1) (.inr ⟨rfl,hk⟩) (by rw [D.zQ k i hk,ph]; exact r1) r3)
   ·have ha:Fl i:=F8 fun ha=>hk (place he ha)
    obtain ⟨idx,J⟩:=sK ((D.oQ i).2 ⟨o,R.at_,he⟩)
    have hle:k≤idx:=oa fun aY=>R.not (I.pre idx i aY J)
    obtain ⟨fv,cs,T,F⟩:=HP (D.xb i o R.at_ ha).1 ke
    obtain ⟨hG,vl⟩:=F.run c a (I.Ge D iG R)
    refine ⟨fun _ _=>trivial,?_⟩
    rw [Oper.semAt_eq _ _ _ (lD ke),vl w]
    exact hK _ _ _ _ _ (I.float D R ha F hG J hle)
end
end Go.Proofs.YtefepnnfphdkpaaGreat.Am
namespace Go.Proofs.YtefepnnfphdkpaaGreat.Am
open Go
theorem L6 {a b:IntKind}(h:ikBeq a b=true): a=b:=by cases a <;> cases b <;> first | rfl | (simp [ikBeq] at h)
theorem rV {a b:Int}(h:intBeq a b=true): a=b:=by
 cases a <;> cases b <;> simp [intBeq] at h <;> rw [h]
theorem zU : ∀ {a b:List Nat},natsBeq a b=true→a=b
 | [],[],_=>rfl
 | [],_::_,h=>by simp [natsBeq] at h
 | _::_,[],h=>by simp [natsBeq] at h
 | x::a,y::b,h=>by
  simp only [natsBeq] at h
  cases I:Nat.beq x y with
  | false=>rw [I] at h; cases h
  | true=>rw [I,af] at h; rw [beq_iff.1 I,zU h]
theorem JN {a b:Cap}(h:a.beq b=true): a=b:=by
 cases a <;> cases b <;> simp [Cap.beq] at h
 ·rw [h]
 ·rw [h.1,h.2]
mutual
theorem Bv : ∀(a b:V),V.beq a b=true→a=b
 | .bool a,b,h=>by cases b <;> simp [V.beq] at h; rw [h]
 | .int j a,b,h=>by
  cases b <;> simp [V.beq] at h
  rw [L6 h.1,rV h.2]
 | .str a,b,h=>by cases b <;> simp [V.beq] at h; rw [zU h]
 | .cO,b,h=>by cases b <;> simp [V.beq] at h; rfl
 | .ptr x y,b,h=>by cases b <;> simp [V.beq] at h; rw [h.1,h.2]
 | .bn,b,h=>by cases b <;> simp [V.beq] at h; rfl
 | .sl x y z u,b,h=>by
  cases b <;> simp [V.beq] at h
  rw [h.1.1.1,h.1.1.2,h.1.2,JN h.2]
 | .jO,b,h=>by cases b <;> simp [V.beq] at h; rfl
 | .map x,b,h=>by cases b <;> simp [V.beq] at h; rw [h]
 | .fn f x y,b,h=>by
  cases f with
  | func k=>cases b with
   | fn g u v=>cases g with
    | func j =>
     simp [V.beq] at h
     rw [h.1.1,qY x u h.1.2,qY y v h.2]
    | _=>simp [V.beq] at h
   | _=>simp [V.beq] at h
  | _=>cases b <;> simp [V.beq] at h
 | .B5,b,h=>by cases b <;> simp [V.beq] at h; rfl
 | .iface t v,b,h=>by
  cases b <;> simp [V.beq] at h
  rw [h.1,Bv v _ h.2]
 | .mg,b,h=>by cases b <;> simp [V.beq] at h; rfl
 | .agg l,b,h=>by cases b <;> simp [V.beq] at h; rw [qY l _ h]
 | .aX l,b,h=>by cases b <;> simp [V.beq] at h; rw [qY l _ h]
 | .u_ _,b,h=>by cases b <;> simp [V.beq] at h
 | .sle a,b,h=>by cases b <;> simp [V.beq] at h; rw [h]
 | .qO k x,b,h=>by
  cases b with
  | qO j y =>
   simp [V.beq] at h
   rw [h.2]
   cases k <;> cases j <;> first | rfl | (simp [fkBeq] at h)
  | _=>simp [V.beq] at h
theorem qY : ∀(a b:List V),V.beqL a b=true→a=b
 | [],b,h=>by cases b <;> simp [V.beqL] at h; rfl
 | x::a,b,h=>by
  cases b with
  | nil=>simp [V.beqL] at h
  | cons y b =>
   simp only [V.beqL] at h
   cases I:V.beq x y with
   | false=>rw [I] at h; cases h
   | true=>rw [I,af] at h; rw [Bv x y I,qY a b h]
end
theorem Bw {m:Nat}: ∀(es:List Nat),(∀idx p,idx<fW m es→es[idx]?=some p→bit m p=true)∧fW m es≤es.length:=by
 intro es
 induction es with
 | nil=>exact ⟨fun idx p _ h=>by simp at h,by simp [fW]⟩
 | cons q es J =>
  simp only [fW]
  cases hq:bit m q with
  | true =>
   rw [af]
   refine ⟨fun idx p h1 I => ?_,by have:=J.2; simp; exact this⟩
   cases idx with
   | zero=>simp at I; subst I; exact hq
   | succ idx=>exact J.1 idx p (by omega) (by simpa using I)
  | false=>rw [ay]; exact ⟨fun idx p h=>by omega,by simp⟩
theorem L7 {m:Nat}: ∀(es:List Nat),jD m es=true→∀(J I p q:Nat),J≤I→es[J]?=some p→es[I]?=some q→bit m q=true→bit m p=true:=by
 intro es
 induction es with
 | nil=>intro _ J I p q _ h; simp at h
 | cons x es ih =>
  intro h J I p q hle h1 h2 hb
  simp only [jD] at h
  cases hx:bit m x with
  | true =>
   rw [hx,af] at h
   cases J with
   | zero=>simp at h1; subst h1; exact hx
   | succ J =>
    cases I with
    | zero=>omega
    | succ I=>exact ih h J I p q (by omega) (by simpa using h1) (by simpa using h2) hb
  | false =>
   rw [hx,ay] at h
   cases I with
   | zero =>
    simp at h2
    subst h2
    rw [hx] at hb; cases hb
   | succ I =>
    have:=List.all_eq_true.1 h q (aV (by simpa using h2))
    rw [hb] at this; cases this
theorem Gp {as:List Nat}{i:Nat}: ∀(es:List Nat),iP as i es≤es.length∧∀p,es[iP as i es]?=some p→bit ((nth as p).getD 0) i=true:=by
 intro es
 induction es with
 | nil=>exact ⟨by simp [iP],fun p h=>by simp at h⟩
 | cons q es I =>
  simp only [iP]
  cases J:bit ((nth as q).getD 0) i with
  | true=>rw [af]; exact ⟨by simp,fun p h=>by simp at h; subst h; exact J⟩
  | false=>rw [ay]; exact ⟨by have:=I.1; simp; exact this,fun p h=>I.2 p (by simpa using h)⟩
section
variable {C:b9} {self:Self}
theorem JO {L:List Oper}{o:Oper}{x:Env×V}: ∀(l:List H),sameIn C self L o x l=true→wantedV L x.1 o=true→∀h∈l,∃h',evOp C self x.1 h o=some (x.2,h'):=by
 intro l
 induction l with
 | nil=>intro _ _ h hm; simp at hm
 | cons y l J =>
  intro hs hw h hm
  simp only [sameIn,hw,af] at hs
  cases he:evOp C self x.1 y o with
  | none=>simp [he] at hs
  | some r =>
   obtain ⟨v,h'⟩:=r
   simp only [he] at hs
   cases I:v.beq x.2 with
   | false=>rw [I] at hs; cases hs
   | true =>
    rw [I,af] at hs
    rcases List.mem_cons.1 hm with rfl | hm
    ·exact ⟨h',by rw [he,Bv _ _ I]⟩
    ·exact J hs hw h hm
theorem B_ {L:List Oper}{as es:List Nat}{hs:List H}: ∀(l:List Oper) (tr:List (Env×V)) (k:Nat),stayOk C self L as es hs l tr k=true →
  ∀j o x,l[j]?=some o→tr[j]?=some x→isEff C o.op=false →
   jD ((nth as (k+j)).getD 0) es=true∧(fW ((nth as (k+j)).getD 0) es=iP as (k+j) es ∨
    sameIn C self L o x ((hs.drop (fW ((nth as (k+j)).getD 0) es)).take (iP as (k+j) es+1-fW ((nth as (k+j)).getD 0) es))=true):=by
 intro l
 induction l with
 | nil=>intro tr k _ j o x h; simp at h
 | cons y l ih =>
  intro tr k h j o x ho hx he
  cases tr with
  | nil=>simp [stayOk] at h
  | cons z tr =>
   simp only [stayOk] at h
   have I:stayOk C self L as es hs l tr (k+1)=true:=by
    cases h1:isEff C y.op with
    | true=>rw [h1,af] at h; exact h
    | false =>
     rw [h1,ay] at h
     cases J:(jD ((nth as k).getD 0) es&&Nat.beq (fW ((nth as k).getD 0) es) (iP as k es)) with
     | true=>rw [J,af] at h; exact h
     | false =>
      rw [J,ay] at h
      cases h3:(jD ((nth as k).getD 0) es&&sameIn C self L y z ((hs.drop (fW ((nth as k).getD 0) es)).take (iP as k es+1-fW ((nth as k).getD 0) es))) with
      | true=>rw [h3,af] at h; exact h
      | false=>rw [h3] at h; cases h
   cases j with
   | zero =>
    simp at ho hx
    subst ho hx
    rw [he,ay] at h
    simp only [iC]
    cases J:(jD ((nth as k).getD 0) es&&Nat.beq (fW ((nth as k).getD 0) es) (iP as k es)) with
    | true =>
     rw [aH,beq_iff] at J
     exact ⟨J.1,.inl J.2⟩
    | false =>
     rw [J,ay] at h
     cases h3:(jD ((nth as k).getD 0) es&&sameIn C self L y z ((hs.drop (fW ((nth as k).getD 0) es)).take (iP as k es+1-fW ((nth as k).getD 0) es))) with
     | true =>
      rw [aH] at h3
      exact ⟨h3.1,.inr h3.2⟩
     | false=>rw [h3] at h; cases h
   | succ j =>
    have:=ih tr (k+1) I j o x (by simpa using ho) (by simpa using hx) he
    rwa [show k+1+j=k+(j+1) from by omega] at this
theorem Pe {ops:List Oper}: ∀(l:List Oper) (tr:List (Env×V)),allW ops l tr=true→∀(i:Nat) (o:Oper) (x:Env×V),l[i]?=some o→tr[i]?=some x→isAlloc true o=true→wantedV ops x.1 o=true:=by
 intro l
 induction l with
 | nil=>intro tr _ i o x h; simp at h
 | cons y l ih =>
  intro tr h i o x ho I ha
  cases tr with
  | nil=>simp at I
  | cons z tr =>
   simp only [allW] at h
   cases J:(!isAlloc true y||wantedV ops z.1 y) with
   | false=>rw [J,ay] at h; cases h
   | true =>
    rw [J,af] at h
    cases i with
    | zero =>
     simp at ho I
     subst ho
     subst I
     simpa [ha] using J
    | succ i=>exact ih tr h i o x (by simpa using ho) (by simpa using I) ha
theorem CT {o:Oper}(h:isAlloc false o=true): isAlloc true o=true∧o.guard=none:=by
 unfold isAlloc at h ⊢
 split at h
 ·rename_i T d I J h3; simp [I,J,h3]
 ·rename_i t x y d I J h3; simp [I,J,h3]
 ·simp at h
 ·simp at h
theorem L8 {L:List Oper}{s z:St}(hr:jE C self L s=some z):
    ∃Fl st vv Hs,fQ C self Fl L s st vv (cD C L 0) Hs∧st L.length=z∧L.all (fun o => !C_ o.op)=true:=by
  unfold jE at hr
  cases Rh:trace C self L L s [s.h] with
  | none=>simp [Rh] at hr
  | some q =>
      obtain ⟨tr,hs,z'⟩:=q
      simp only [Rh] at hr
      cases xh:stayOk C self L (ancs L []) (cD C L 0) hs L tr 0 with
      | false=>rw [xh] at hr; cases hr
      | true =>
        rw [xh,af] at hr
        obtain ⟨fl,jK,hW,hr⟩:∃fl,jg C fl L=true∧(∀(i:Nat) (o:Oper) (x:Env×V),L[i]?=some o→tr[i]?=some x→isAlloc fl o=true→isAlloc true o=true∧wantedV L x.1 o=true)∧z'=z:=by
          cases h0:jg C false L with
          | true =>
            rw [h0,af] at hr
            refine ⟨false,h0,fun i o x _ _ ha => ?_,bE hr⟩
            obtain ⟨k1,k2⟩:=CT ha
            exact ⟨k1,by simp [wantedV,k2]⟩
          | false =>
            rw [h0,ay] at hr
            cases h1:(jg C true L&&allW L L tr) with
            | false=>rw [h1] at hr; cases hr
            | true =>
              rw [h1,af] at hr
              rw [aH] at h1
              exact ⟨true,h1.1,fun i o x ho hx ha=>⟨ha,Pe L tr h1.2 i o x ho hx ha⟩,bE hr⟩
        subst hr
        simp only [jg,aH] at jK
        obtain ⟨⟨⟨s1,s2⟩,s3⟩,s4⟩:=jK
        obtain ⟨st,t1,t2,t3,t4,t5⟩:=L5 L 0 s [s.h] tr hs z' Rh
        simp only [dA] at t2 t5
        have N9:∀i o,L[i]?=some o→∀e∈o.after,ew e=true→e.on<i:=fun i o ho e he hb=>by
          have:=Ds L 0 s1 i o ho e he hb; omega
        have Ri:∀i o,L[i]?=some o→∀j,bit ((nth (ancs L []) i).getD 0) j=true→j<i:=fun i o ho j hj =>
          (Dr N9 (fun _=>True) i o ho (fun _ _ _ _ _ _ _ _=>trivial) (fun _ _ _=>trivial) j hj).2
        have I:=(vx (C:=C) L 0).1
        have Gi:∀p,p∈cD C L 0↔∃o,L[p]?=some o∧isEff C o.op=true:=fun p=>by
          rw [JI]
          constructor
          · rintro ⟨i,o,rfl,h1,h2⟩; exact ⟨o,by simpa using h1,h2⟩
          · rintro ⟨o,h1,h2⟩; exact ⟨p,o,by omega,h1,h2⟩
        have Ut:∀k p,(cD C L 0)[k]?=some p→hs[k+1]?=some (st (p+1)).h:=fun k p J=>by
          rw [t4]; simp [J]
        have Uu:hs[0]?=some s.h:=by rw [t4]; simp
        have Zj:hs.length=(cD C L 0).length+1:=by rw [t4]; simp
        have pX:∀i o,L[i]?=some o→∃h,(st i).put o.dst (((tr[i]?).map (·.2)).getD bJ) h=some (st (i+1)) ∧
            (wantedV L (st i).env o=true→evOp C self (st i).env (st i).h o=some (((tr[i]?).map (·.2)).getD bJ,h))∧(wantedV L (st i).env o=false→((tr[i]?).map (·.2)).getD bJ=bJ∧h=(st i).h):=fun i o ho=>by
          obtain ⟨v,h,e1,e2,e3,e4⟩:=t5 i o ho
          refine ⟨h,?_,?_,?_⟩ <;> rw [e1] <;> simp only [gY,dO]
          · exact e2
          · exact e3
          · exact e4
        -- all but 'same'; it is wanted for 'heapAt'
        have Zo:(∀i o,L[i]?=some o→isEff C o.op=false→∀k,k≤(cD C L 0).length→(∀idx p,idx<k→(cD C L 0)[idx]?=some p→bit ((nth (ancs L []) p).getD 0) i=false) →
              (∀idx p,k≤idx→(cD C L 0)[idx]?=some p→bit ((nth (ancs L []) i).getD 0) p=false) →
              wantedV L (st i).env o=true→∃h',evOp C self (st i).env ((hs[k]?).getD s.h) o=some (((tr[i]?).map (·.2)).getD bJ,h')) →
            fQ C self (fun i=>∃o,L[i]?=some o∧isAlloc fl o=true) L s st (fun i=>((tr[i]?).map (·.2)).getD bJ) (cD C L 0) (fun k=>(hs[k]?).getD s.h):=fun HB =>
          { back:=N9
            HM:=fun j o ho i x hi hx=>by
              have:=HK L 0 s2 j o ho i x (by omega) hx
              rw [dA] at this
              exact this.imp id fun q=>⟨q.1,q.2.imp id fun q=>q.imp id fun q=>⟨o,ho,q⟩⟩
            xb:=fun i o ho ⟨o',pN,ha⟩=>by
              rw [ho] at pN
              obtain rfl:=bE pN
              obtain ⟨v,h,e1,_⟩:=t5 i o ho
              exact hW i o _ ho e1 ha
            JK:=fun i o ho ⟨o',pN,ha⟩ j u hu aY=>by
              rw [ho] at pN
              obtain rfl:=bE pN
              rcases Fu L 0 s3 i o ho ha j u hu (by omega) with h | h
              · exact .inl h
              · right
                intro p J ZR
                exact JJ I h p J (by omega)
            oQ:=Gi
            sorted:=I
            start:=t1
            step:=pX
            HN:=by rw [Uu]; rfl
            zQ:=fun k p J=>by rw [Ut k p J]; rfl
            Ur:=fun i o ho he=>by
              obtain ⟨v,h,e1,_⟩:=t5 i o ho
              have:=(B_ L tr 0 xh i o _ ho e1 he).1
              simp only [dA] at this
              exact L7 _ this
            same:=HB }
        refine ⟨_,st,_,_,Zo ?_,t2,s4⟩
        intro i o ho he k hk h1 h2 hw
        obtain ⟨v,h,e1,e2,e3,e4⟩:=t5 i o ho
        obtain ⟨g1,g2⟩:=B_ L tr 0 xh i o _ ho e1 he
        simp only [dA] at g1 g2
        have VN:fW ((nth (ancs L []) i).getD 0) (cD C L 0)≤k:=oa fun aY=>by
          obtain ⟨p,J⟩:∃p,(cD C L 0)[k]?=some p:=⟨_,aM (by have:=(Bw (m:=(nth (ancs L []) i).getD 0) (cD C L 0)).2; omega)⟩
          have:=(Bw (cD C L 0)).1 k p aY J
          rw [h2 k p (aD _) J] at this
          cases this
        have Zp:k≤iP (ancs L []) i (cD C L 0):=oa fun aY=>by
          obtain ⟨p,J⟩:∃p,(cD C L 0)[iP (ancs L []) i (cD C L 0)]?=some p:=⟨_,aM (by omega)⟩
          have:=(Gp (as:=ancs L []) (i:=i) (cD C L 0)).2 p J
          rw [h1 _ p aY J] at this
          cases this
        have LZ:((tr[i]?).map (·.2)).getD bJ=v:=by rw [e1]; rfl
        rw [LZ]
        rcases g2 with g2 | g2
        · -- its place is known
          have xR:(st i).h=(hs[k]?).getD s.h:=by
            have xS:k=iP (ancs L []) i (cD C L 0):=by omega
            have aY:∀idx p,idx<k→(cD C L 0)[idx]?=some p→p<i:=fun idx p aY J=>by
              have:=(Bw (m:=(nth (ancs L []) i).getD 0) (cD C L 0)).1 idx p (by omega) J
              exact Ri i o ho p this
            have Uv:∀idx p,k≤idx→(cD C L 0)[idx]?=some p→i≤p:=fun idx p hle J=>by
              obtain ⟨q,hq⟩:∃q,(cD C L 0)[k]?=some q:=⟨_,aM (by have:=(List.getElem?_eq_some_iff.1 J).1; omega)⟩
              have hb:=(Gp (as:=ancs L []) (i:=i) (cD C L 0)).2 q (by rw [←xS]; exact hq)
              obtain ⟨x,hx,_⟩:=(Gi q).1 (aV hq)
              have ZS:=Ri q x hx i hb
              rcases sQ hle with e | e
              · subst e; rw [hq] at J; simp at J; omega
              · obtain ⟨a1,b1⟩:=List.getElem?_eq_some_iff.1 hq
                obtain ⟨a2,b2⟩:=List.getElem?_eq_some_iff.1 J
                have:=(List.pairwise_iff_getElem.1 I) k idx a1 a2 e
                omega
            exact zR (Hs:=fun k=>(hs[k]?).getD s.h) pX (fun p=>Gi p) I t1 (by rw [Uu]; rfl) (fun k p J=>by rw [Ut k p J]; rfl) i k (by have:=(List.getElem?_eq_some_iff.1 ho).1; omega) hk aY Uv
          rw [←xR]
          exact ⟨h,e3 hw⟩
        · have hm:(hs[k]?).getD s.h∈(hs.drop (fW ((nth (ancs L []) i).getD 0) (cD C L 0))).take (iP (ancs L []) i (cD C L 0)+1-fW ((nth (ancs L []) i).getD 0) (cD C L 0)):=by
            have VO:k<hs.length:=by omega
            refine aV (i:=k-fW ((nth (ancs L []) i).getD 0) (cD C L 0)) ?_
            rw [jx,ax (by omega),jy,Nat.add_sub_cancel' VN,aM VO]
            simp
          exact JO _ g2 hw _ hm
theorem Pf {L:List Oper}{S:Nat→Prop}(J:∀i o,L[i]?=some o→∀e∈o.after,ew e=true→e.on<i)(hn:∀i o,¬ jY L S i o): ∀i,i<L.length→S i:=by
 intro i
 induction i using Nat.strongRecOn with
 | _ i ih =>
  intro hi
  refine F8 fun hS => ?_
  refine hn i L[i] ⟨aM hi,hS,fun e he I => ?_⟩
  have:=J i L[i] (aM hi) e he I
  exact ih e.on this (by omega)
theorem fC.done {Fl:Nat→Prop}{L:List Oper}{s:St}{st:Nat→St}{vv:Nat→V}{es:List Nat}{Hs:Nat→H}{c₀ c:Ctx}{w₀ w:World}{d₀:List Deferred}{S:Nat→Prop}{early:Nat→Option (Nat×FV)}{k:Nat}{a:Act}
 (D:fQ C self Fl L s st vv es Hs)(I:fC C self Fl L s st vv es Hs c₀ w₀ d₀ S early k c a w)(iG:∀p,es[k]?=some p→¬ S p)(J:∀i,i<L.length→S i):
  Rel c (st L.length).h w∧c7 c (st L.length).env (st L.length).au a:=by
 have aY:∀p∈es,p<L.length:=fun p hp=>by
  obtain ⟨o,ho,_⟩:=(D.oQ p).1 hp
  exact (List.getElem?_eq_some_iff.1 ho).1
 have hk:k=es.length:=by
  refine Nat.le_antisymm I.Du (oa fun h => ?_)
  exact iG _ (aM h) (J _ (aY _ (qq h)))
 have Rj:∀p,early p=none:=fun p=>by
  cases h:early p with
  | none=>rfl
  | some b =>
   obtain ⟨_,idx,h1,h2⟩:=I.qF p b h
   have:=(List.getElem?_eq_some_iff.1 h2).1
   omega
 refine ⟨?_,?_⟩
 ·rw [D.Dt L.length k (aD _) I.Du (fun idx p _ hp=>aY p (aV hp)) (fun idx p hle hp=>by have:=(List.getElem?_eq_some_iff.1 hp).1; omega)]
  exact I.rel
 ·have hv:∀t,a.tmps.getD t undef=conc c ((st L.length).env.v t)∧wf c ((st L.length).env.v t):=fun t=>by
   rcases I.tmp t with ⟨i,o,g1,g2,g3,g4,g5⟩ | ⟨g1,g2,g3⟩
   ·have:(st L.length).env.v t=vv i:=by
     rcases D.C0 t L.length (aD _) with ⟨j,oj,h1,h2,h3,h4,h5⟩ | ⟨h1,_⟩
     ·have e1:=h4 i o (List.getElem?_eq_some_iff.1 g2).1 g2 g3
      have e2:=g4 j oj (J j h1) h2 h3
      have:j=i:=by omega
      subst this; exact h5
     ·exact absurd g3 (h1 i o (List.getElem?_eq_some_iff.1 g2).1 g2)
    rcases g5 with ⟨b,e1,_⟩ | ⟨_,e2,e3⟩
    ·rw [Rj i] at e1; cases e1
    ·rw [this]; exact ⟨e2,e3⟩
   ·have:(st L.length).env.v t=s.env.v t:=by
     rcases D.C0 t L.length (aD _) with ⟨j,oj,h1,h2,h3,h4,h5⟩ | ⟨_,h⟩
     ·exact absurd h3 (g1 j oj (J j h1) h2)
     ·exact h
    rw [this]; exact ⟨g2,g3⟩
  exact ⟨by rw [I.size,D.au L.length (aD _)],fun t=>(hv t).1,fun t=>(hv t).2⟩
theorem fC.congr {Fl:Nat→Prop}{L:List Oper}{s:St}{st:Nat→St}{vv:Nat→V}{es:List Nat}{Hs:Nat→H}{c₀ c:Ctx}{w₀ w:World}{d₀:List Deferred}{S S':Nat→Prop}{early:Nat→Option (Nat×FV)}{k:Nat}{a:Act}
 (I:fC C self Fl L s st vv es Hs c₀ w₀ d₀ S early k c a w)(h:∀j,S j↔S' j): fC C self Fl L s st vv es Hs c₀ w₀ d₀ S' early k c a w:=by
 have:S=S':=funext fun j=>propext (h j)
 rw [←this]; exact I
theorem L9 (hS:iE C.P self)(hT:fA C){r:Option Nat}{ops:Array Oper}{Fl:Nat→Prop}{L:List Oper}(hL:ops.toList=L){Q:Exit→Act→World→Prop}{s:St}{st:Nat→St}{vv:Nat→V}{es:List Nat}{Hs:Nat→H}
 {c₀:Ctx}{w₀:World}{d₀:List Deferred}(D:fQ C self Fl L s st vv es Hs)
 (hQ:∀c a w,Rel c (st L.length).h w→c7 c (st L.length).env (st L.length).au a→b7 c₀ w₀ c w→a.defers=d₀→Q .normal a w):
  ∀(fuel:Nat) (J:Array Bool) (early:Nat→Option (Nat×FV)) (k:Nat) (c:Ctx) (a:Act) (w:World),J.size=L.length→J.count false≤fuel →
   fC C self Fl L s st vv es Hs c₀ w₀ d₀ (fun j=>J.getD j false=true) early k c a w→wpAnyIn (Fr r) 0 C.P .any ops Q fuel J a w:=by
 intro fuel
 induction fuel with
 | zero =>
  intro J early k c a w eA Rk I
  have lC:∀i,i<L.length→J.getD i false=true:=fun i hi=>by
   have h0:J.count false=0:=by omega
   have:false∉J:=Array.count_eq_zero.1 h0
   rw [j3,sH (by omega)]
   cases hb:J[i]'(by omega) with
   | true=>rfl
   | false=>exact absurd (by rw [←hb]; exact Array.getElem_mem _) this
  obtain ⟨lE,k',c',I',iG⟩:=fC.B9 D (es.length-k) k early c rfl I
  obtain ⟨r1,r2⟩:=I'.done D iG lC
  refine ⟨?_,hQ c' a w r1 r2 I'.Gj I'.defers⟩
  refine List.eq_nil_iff_forall_not_mem.2 fun j hj => ?_
  obtain ⟨h1,o,h2,_⟩:=mem_ready.1 hj
  have aY:j<L.length:=by rw [←hL]; simpa using (Array.getElem?_eq_some_iff.1 h2).1
  have h3:=lC j aY
  rw [j3,sH (by omega)] at h1 h3
  simp at h1 h3
  rw [h1] at h3; cases h3
 | succ fuel ih =>
  intro J early k c a w eA Rk I
  obtain ⟨lE,k',c',I',iG⟩:=fC.B9 D (es.length-k) k early c rfl I
  have JP:∀j,j∈Region.ready .any ops J↔∃o,jY L (fun j=>J.getD j false=true) j o:=fun j=>by
   rw [mem_ready]
   constructor
   ·rintro ⟨h1,o,h2,h3⟩
    refine ⟨o,by rw [←hL,iA]; exact h2,fun h4 => ?_,fun e he hb=>h3 e he ?_⟩
    ·have aY:j<J.size:=by rw [eA,←hL]; simpa using (Array.getElem?_eq_some_iff.1 h2).1
     rw [j3,sH aY] at h1 h4
     simp at h1 h4
     rw [h1] at h4; cases h4
    ·rw [←hb]; cases e; rename_i on g; cases g <;> rfl
   ·rintro ⟨o,R⟩
    have h2:=R.at_
    rw [←hL,iA] at h2
    refine ⟨?_,o,h2,fun e he hb=>R.HQ e he ?_⟩
    ·have aY:j<J.size:=by rw [eA,←hL]; simpa using (Array.getElem?_eq_some_iff.1 h2).1
     have h4:=R.not
     rw [j3,sH aY] at h4 ⊢
     simpa using h4
    ·rw [←hb]; cases e; rename_i on g; cases g <;> rfl
  refine ⟨fun yz => ?_,fun i hi => ?_⟩
  ·have lC:=Pf (S:=fun j=>J.getD j false=true) D.back (fun i o R=>by
    have:=(JP i).2 ⟨o,R⟩
    rw [yz] at this; simp at this)
   obtain ⟨r1,r2⟩:=I'.done D iG lC
   exact hQ c' a w r1 r2 I'.Gj I'.defers
  ·obtain ⟨o,R⟩:=(JP i).1 hi
   have aY:i<J.size:=by rw [eA]; exact (List.getElem?_eq_some_iff.1 R.at_).1
   have Rl:J[i]=false:=by
    have:=R.not
    rw [j3,sH aY] at this
    simpa using this
   refine I'.Rf hS hT hL D iG R ?_
   intro Pg Xo pM vt vu Xp
   refine ih (J.setIfInBounds i true) Pg Xo pM vt vu (by simp [eA]) ?_ (Xp.congr fun j => ?_)
   ·have:(J.setIfInBounds i true).count false=J.count false-1:=by
     rw [Array.setIfInBounds_def,dif_pos aY,Array.count_set]
     simp [Rl]
    omega
   ·by_cases pO:j=i
    ·subst pO
     simp [j3,aY]
    ·simp [j3,wI (ja pO),pO]
theorem JQ (hS:iE C.P self)(hT:fA C)(hm:C.P.follows .mixedOrders=true){r:Option Nat}{id:Nat}{ops:Array Oper}{s s':St}(hr:jE C self ops.toList s=some s'){Q:Exit→Act→World→Prop}
 {c:Ctx}{a:Act}{w:World}(h:Rel c s.h w)(he:c7 c s.env s.au a)
 (hQ:∀c' J w',Rel c' s'.h w'→c7 c' s'.env s'.au J→b7 c w c' w'→J.defers=a.defers→Q .normal J w'):
  (Code.region id ops true).wpIn (Fr r) 0 C.P Q a w:=by
 obtain ⟨Fl,st,vv,Hs,D,hz,_⟩:=L8 hr
 refine wpIn_region_any hm ?_
 have VQ:b7 c w c { w with drawn:=w.drawn+1 }:=b7.drew c w
 have pG:Rel c s.h { w with drawn:=w.drawn+1 }:=h.drew
 refine L9 hS hT rfl D (c₀:=c) (w₀:=w) (d₀:=a.defers) (fun c' J w' r1 r2 r3 r4=>hQ c' J w' (by rw [←hz]; exact r1) (by rw [←hz]; exact r2) r3 r4)
  ops.size (Array.replicate ops.size false) (fun _=>none) 0 c a _ (by simp) (by simp) ?_
 have I:∀j,¬ (Array.replicate ops.size false).getD j false=true:=fun j=>by
  rw [j3,Array.getElem?_replicate]; split <;> simp
 refine ⟨fun i o hi=>absurd hi (I i),fun idx p h=>by omega,fh _,fun idx p _ _ hp=>absurd hp (I p),(fun p b h=>by cases h),(by rw [D.HN]; exact pG),he.size,
  fun t=>.inr ⟨fun j o hj=>absurd hj (I j),he.val t,he.uM t⟩,(fun p b h=>by cases h),(fun p q b b' h=>by cases h),VQ,rfl⟩
end
end Go.Proofs.YtefepnnfphdkpaaGreat.Am
