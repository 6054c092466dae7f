/- AtomTorn: a part of its proof; conditions: its statement's. -/
import Derived.Test.YtconhghphklfjaaGreatT09
namespace Go.Proofs.YtconhghphklfjaaGreat.Am
open Go
section
variable {C:dF} {self:Self} {c:Ctx} {w:World}
variable {L:List Oper} {s:St} {st:Nat→St} {vv:Nat→V} {es:List Nat} {Hs:Nat→H}
variable {c₀:Ctx} {w₀:World} {d₀:List Deferred} {S:Nat→Prop} {early:Nat→Option (Nat×FV)} {k i:Nat} {a:Act} {o:Oper}
structure me (L:List Oper)(S:Nat→Prop)(i:Nat)(o:Oper): Prop where
 at_:L[i]?=some o
 not:¬ S i
 Lx:∀e∈o.after,fT e=true→S e.on
theorem me.Vy (D:ij C self L s st vv es Hs)(I:∀i o,S i→L[i]?=some o→∀e∈o.after,fT e=true→S e.on)(R:me L S i o){j:Nat}
 (h:bit ((nth (ancs L []) i).getD 0) j=true): S j∧j<i :=
 GQ D.back S i o R.at_ (fun k o' _ J U=>I k o' U J) R.Lx j h
theorem GV (D:ij C self L s st vv es Hs)(I:∀i o,S i→L[i]?=some o→∀e∈o.after,fT e=true→S e.on){j q:Nat}{x:Oper}(hj:S j)(U:L[j]?=some x)
 (h:bit ((nth (ancs L []) j).getD 0) q=true): S q∧q<j :=
 GQ D.back S j x U (fun k o' _ J hk=>I k o' hk J) (I j x hj U) q h
theorem me.later (D:ij C self L s st vv es Hs)(I:∀i o,S i→L[i]?=some o→∀e∈o.after,fT e=true→S e.on)(R:me L S i o){j:Nat}{x:Oper}
 (hj:S j)(U:L[j]?=some x)(J:i<j): lE L o x=true:=by
 rcases D.Lt j x U i o J R.at_ with h | ⟨h,_⟩
 ·exact absurd (GV D I hj U h).1 R.not
 ·exact h
theorem me.before (D:ij C self L s st vv es Hs)(I:∀i o,S i→L[i]?=some o→∀e∈o.after,fT e=true→S e.on)(R:me L S i o){j:Nat}{x:Oper}
 (U:L[j]?=some x)(J:j<i): S j∨(lE L x o=true∧(isEff C x.op=false∨isEff C o.op=false∨isAlloc o=true)):=by
 rcases D.Lt i o R.at_ j x J U with h | h
 ·exact .inl (R.Vy D I h).1
 ·exact .inr h
theorem gU.J_ (D:ij C self L s st vv es Hs)(I:gU C self L s st vv es Hs c₀ w₀ d₀ S early k c a w)(qt:∀p,es[k]?=some p→¬ S p)(R:me L S i o)
 {t:Tmp}(ht:t∈looks L o): a.tmps.getD t undef=conc c ((st i).env.v t)∧wf c ((st i).env.v t):=by
 have hlen:i<L.length:=(List.getElem?_eq_some_iff.1 R.at_).1
 -- those that write it and have come stand ahead in the text
 have TF:∀j x,S j→L[j]?=some x→x.dst=some t→j<i:=fun j x hj hx hd=>by
  rcases D1 j i with h | h | h
  ·exact h
  ·subst h; exact absurd hj R.not
  ·exact absurd ht ((ve (R.later D I.closed hj hx h)).2 t hd)
 have Sb:∀j x,j<i→L[j]?=some x→x.dst=some t→S j:=fun j x bV hx hd=>by
  rcases R.before D I.closed hx bV with h | ⟨h,_⟩
  ·exact h
  ·exact absurd ht ((ve h).1 t hd).1
 rcases I.tmp t with ⟨J,U,g1,g2,g3,g4,g5⟩ | ⟨g1,g2,g3⟩
 ·have bV:=TF J U g1 g2 g3
  have BU:(st i).env.v t=vv J:=by
   rcases D.Gd t i (by omega) with ⟨j,oj,h1,h2,h3,h4,h5⟩ | ⟨h1,_⟩
   ·have e1:=h4 J U bV g2 g3
    have e2:=g4 j oj (Sb j oj h1 h2 h3) h2 h3
    have:j=J:=by omega
    subst this; exact h5
   ·exact absurd g3 (h1 J U bV g2)
  rcases g5 with ⟨b,e1,_⟩ | ⟨_,e2,e3⟩
  ·exfalso
   obtain ⟨_,idx,f2,f3⟩:=I.tW J b e1
   obtain ⟨PL,_,f4,f5,_⟩:=I.late idx J f2 f3 g1
   rw [g2] at f4
   simp at f4
   subst f4
   obtain ⟨q,hq⟩:∃q,es[k]?=some q:=⟨_,bg (by have:=(List.getElem?_eq_some_iff.1 f3).1; omega)⟩
   by_cases Sc:q=J
   ·subst Sc; exact qt _ hq g1
   ·have aao:q<J:=by
     have:k≠idx:=fun e=>by subst e; rw [hq] at f3; simp at f3; exact Sc f3
     exact (AX D hq f3).1 (by omega)
    rcases D.Nq J U g2 f5 i o R.at_ bV with h | h
    ·exact ((ve h).1 t g3).1 ht
    ·exact qt q hq (R.Vy D I.closed (h q (bw hq) aao)).1
  ·rw [BU]; exact ⟨e2,e3⟩
 ·have BU:(st i).env.v t=s.env.v t:=by
   rcases D.Gd t i (by omega) with ⟨j,oj,h1,h2,h3,h4,h5⟩ | ⟨_,h⟩
   ·exact absurd h3 (g1 j oj (Sb j oj h1 h2 h3) h2)
   ·exact h
  rw [BU]; exact ⟨g2,g3⟩
theorem gU.J5 (D:ij C self L s st vv es Hs)(I:gU C self L s st vv es Hs c₀ w₀ d₀ S early k c a w)(U:∀p,es[k]?=some p→¬ S p)(R:me L S i o): AU c (st i).env a o:=by
 intro x hx v J
 cases x with
 | tmp t =>
  simp only [evO,au] at J
  subst J
  have hl:t∈looks L o:=AE _ (List.mem_filterMap.2 ⟨.tmp t,by simpa using hx,rfl⟩)
  exact I.J_ D U R hl
 | const x =>
  simp only [evO] at J
  obtain ⟨h1,h2⟩:=sX J c
  exact ⟨h1.symm,h2⟩
 | global g=>simp [evO] at J
 | func f =>
  simp only [evO,au] at J
  subst J
  exact ⟨by simp [Act.eval,conc,concL],by simp [wf,fW]⟩
theorem gU.wanted (D:ij C self L s st vv es Hs){ops:Array Oper}(U:ops.toList=L)(I:gU C self L s st vv es Hs c₀ w₀ d₀ S early k c a w)(J:∀p,es[k]?=some p→¬ S p)(R:me L S i o):
  Region.wanted o (yielded ops a.tmps)=wantedV L (st i).env o:=by
 rw [←U]
 refine Cw (c:=c) fun j w d hg hd => ?_
 have hl:d∈looks L o:=by
  refine vR _ ?_
  rw [hg]
  simp only [fV]
  rw [←U,jV,hd]
  simp
 exact (I.J_ D J R hl).1
theorem gU.Ka (D:ij C self L s st vv es Hs)(I:gU C self L s st vv es Hs c₀ w₀ d₀ S early k c a w)(R:me L S i o){c':Ctx}(e:Ext c c'){U:Nat→Option (Nat×FV)}
 (Kb:∀j,j≠i→U j=early j)(X:Value)
 (hX:(∃b,U i=some b∧X=b.2.val b.1)∨(U i=none∧X=conc c' (vv i)∧wf c' (vv i)))(t:Tmp):
  (∃J X7,(S J∨J=i)∧L[J]?=some X7∧X7.dst=some t∧(∀j o',(S j∨j=i)→L[j]?=some o'→o'.dst=some t→j≤J) ∧
    ((∃b,U J=some b∧(a.put o.dst X).tmps.getD t undef=b.2.val b.1)∨(U J=none∧(a.put o.dst X).tmps.getD t undef=conc c' (vv J)∧wf c' (vv J)))) ∨
   ((∀j o',(S j∨j=i)→L[j]?=some o'→o'.dst≠some t)∧(a.put o.dst X).tmps.getD t undef=conc c' (s.env.v t)∧wf c' (s.env.v t)):=by
 have hlen:i<L.length:=(List.getElem?_eq_some_iff.1 R.at_).1
 by_cases hd:o.dst=some t
 ·left
  refine ⟨i,o,.inr rfl,R.at_,hd,fun j x hj hx Sd => ?_,?_⟩
  ·rcases hj with hj | hj
   ·rcases rC i j with h | h
    ·exact absurd Sd ((ve (R.later D I.closed hj hx h)).1 t hd).2
    ·exact h
   ·omega
  ·obtain ⟨h,p1,_,_⟩:=D.step i o R.at_
   obtain ⟨_,_,p3,_⟩:=pS p1
   have eX:t<a.tmps.size:=by rw [I.size,←D.az i (by omega)]; exact p3 t hd
   have GG:(a.put o.dst X).tmps.getD t undef=X:=by rw [hd]; simp [Act.put,Array.getD,eX]
   rw [GG]
   exact hX
 ·have GG:(a.put o.dst X).tmps.getD t undef=a.tmps.getD t undef:=by
   cases ho:o.dst with
   | none=>rfl
   | some d =>
    have:d≠t:=fun e=>hd (by rw [ho,e])
    simp [Act.put,mh,AA this]
  rw [GG]
  rcases I.tmp t with ⟨J,X7,g1,g2,g3,g4,g5⟩ | ⟨g1,g2,g3⟩
  ·left
   have gy:J≠i:=fun e=>by subst e; exact R.not g1
   refine ⟨J,X7,.inl g1,g2,g3,fun j x hj hx Sd => ?_,?_⟩
   ·rcases hj with hj | hj
    ·exact g4 j x hj hx Sd
    ·subst hj; rw [R.at_] at hx; simp at hx; subst hx; exact absurd Sd hd
   ·rw [Kb J gy]
    rcases g5 with h | ⟨e1,e2,e3⟩
    ·exact .inl h
    ·exact .inr ⟨e1,by rw [e2,(cu e _ e3).1],(cu e _ e3).2⟩
  ·right
   refine ⟨fun j x hj hx => ?_,by rw [g2,(cu e _ g3).1],(cu e _ g3).2⟩
   rcases hj with hj | hj
   ·exact g1 j x hj hx
   ·subst hj; rw [R.at_] at hx; simp at hx; subst hx; exact hd
theorem gU.CF (I:gU C self L s st vv es Hs c₀ w₀ d₀ S early k c a w)(R:me L S i o):
  ∀j x,(S j∨j=i)→L[j]?=some x→∀e∈x.after,fT e=true→(S e.on∨e.on=i):=by
 intro j x J U e he hb
 rcases J with J | J
 ·exact .inl (I.closed j x J U e he hb)
 ·subst J; rw [R.at_] at U; simp at U; subst U; exact .inl (R.Lx e he hb)
theorem GW (a:Act)(d:Option Tmp)(X:Value): (a.put d X).tmps.size=a.tmps.size:=by cases d <;> simp [Act.put]
theorem put_defers (a:Act)(d:Option Tmp)(X:Value): (a.put d X).defers=a.defers:=by cases d <;> rfl
theorem gU.next (D:ij C self L s st vv es Hs)(I:gU C self L s st vv es Hs c₀ w₀ d₀ S early k c a w)(R:me L S i o){c':Ctx}{w':World}(X:dL c w c' w')(k':Nat)
 (J:(k'=k∧isEff C o.op=false)∨(k'=k+1∧es[k]?=some i))(yT:Rel c' (Hs k') w')(hv:wf c' (vv i)):
  gU C self L s st vv es Hs c₀ w₀ d₀ (fun j=>S j∨j=i) early k' c' (a.put o.dst (conc c' (vv i))) w':=by
 have hei:early i=none:=by
  cases h:early i with
  | none=>rfl
  | some b=>exact absurd (I.tW i b h).1 R.not
 refine ⟨I.CF R,fun idx p bV U => ?_,?_,fun idx p hle U Nu => ?_,fun p b U => ?_,yT,by rw [GW]; exact I.size,
  fun t=>I.Ka D R X.ext (fun j _=>rfl) _ (.inr ⟨hei,rfl,hv⟩) t,fun p b U => ?_,I.distinct,I.J9.trans X,by rw [put_defers]; exact I.defers⟩
 ·rcases J with ⟨rfl,_⟩ | ⟨rfl,J⟩
  ·exact .inl (I.pre idx p bV U)
  ·by_cases h:idx=k
   ·subst h; rw [J] at U; simp at U; exact .inr U.symm
   ·exact .inl (I.pre idx p (by omega) U)
 ·rcases J with ⟨rfl,_⟩ | ⟨rfl,J⟩
  ·exact I.GU
  ·have:=(List.getElem?_eq_some_iff.1 J).1; omega
 ·rcases Nu with Nu | Nu
  ·refine I.late idx p ?_ U Nu
   rcases J with ⟨rfl,_⟩ | ⟨rfl,J⟩ <;> omega
  ·subst Nu
   exfalso
   rcases J with ⟨rfl,J⟩ | ⟨rfl,J⟩
   ·obtain ⟨o',h1,h2⟩:=(D.sr p).1 (bw U)
    rw [R.at_] at h1; simp at h1; subst h1; rw [J] at h2; cases h2
   ·have:=Nt D U J; omega
 ·obtain ⟨g1,idx,g2,g3⟩:=I.tW p b U
  refine ⟨.inl g1,idx,?_,g3⟩
  rcases J with ⟨rfl,_⟩ | ⟨rfl,J⟩
  ·exact g2
  ·rcases vW g2 with e | e
   ·subst e; rw [J] at g3; simp at g3; subst g3; exact absurd g1 R.not
   ·exact e
 ·obtain ⟨g1,g2,g3,o',T,cs,g4,g5,g7⟩:=I.blocks p b U
  refine ⟨g1,gI g2 X.size,fun id yh he => ?_,o',T,cs,g4,g5,by rw [X.cX b.1 g2 (fun id hi he=>absurd he (g3 id hi)),g5.same c _]; exact g7⟩
  by_cases Vz:id<c.N
  ·exact g3 id Vz (by rw [←X.ext.ρ id Vz]; exact he)
  ·rcases X.fresh id (by omega) yh with h | ⟨j,hj,h,_⟩
   ·omega
   ·exact g3 j hj (by rw [h]; exact he)
theorem gU.float (D:ij C self L s st vv es Hs)(I:gU C self L s st vv es Hs c₀ w₀ d₀ S early k c a w)(R:me L S i o)(Fa:isAlloc o=true){fv:FV}{cs:List V}{T:TypeId}
 (F:Ek C self (st i).env o fv cs T){idx:Nat}(aap:es[idx]?=some i)(hle:k≤idx):
  gU C self L s st vv es Hs c₀ w₀ d₀ (fun j=>S j∨j=i) (fun j=>if j=i then some (w.heap.size,fv) else early j) k c (a.put o.dst (fv.val w.heap.size))
   (w.alloc (.cells (cs.map (conc c)).toArray T (0,0))):=by
 obtain ⟨j1,j2⟩:=I.rel.aak (.cells (cs.map (conc c)).toArray T (0,0))
 have nS:∀j,S j→j≠i:=fun j hj e=>by subst e; exact R.not hj
 refine ⟨I.CF R,fun idx p bV J=>.inl (I.pre idx p bV J),I.GU,fun aaq p Vd J U => ?_,fun p b J => ?_,j1,by rw [GW]; exact I.size,
  fun t=>I.Ka D R (Ext.refl c) (fun j hj=>by simp [hj]) _ (.inl ⟨(w.heap.size,fv),by simp,rfl⟩) t,fun p b J => ?_,fun p q b b' J hq he => ?_,I.J9.trans j2,by rw [put_defers]; exact I.defers⟩
 ·rcases U with U | U
  ·obtain ⟨o',b,g1,g2,g3⟩:=I.late aaq p Vd J U
   exact ⟨o',b,g1,g2,by simp [nS p U,g3]⟩
  ·subst U
   exact ⟨o,_,R.at_,Fa,by simp; rfl⟩
 ·by_cases h:p=i
  ·subst h; exact ⟨.inr rfl,idx,hle,aap⟩
  ·simp [h] at J
   obtain ⟨g1,g2⟩:=I.tW p b J
   exact ⟨.inl g1,g2⟩
 ·by_cases h:p=i
  ·subst h
   simp at J
   subst J
   refine ⟨I.J9.size,by simp,fun id yh=>jm (I.rel.kQ id yh),o,T,cs,R.at_,F,by rw [iF]; simp⟩
  ·simp [h] at J
   obtain ⟨g1,g2,g3,o',T',cs',g4,g5,g7⟩:=I.blocks p b J
   exact ⟨g1,by simp; omega,g3,o',T',cs',g4,g5,by rw [iF,af (jm g2)]; exact g7⟩
 ·by_cases h1:p=i <;> by_cases h2:q=i
  ·omega
  ·simp [h1] at J
   simp [h2] at hq
   have:=(I.blocks q b' hq).2.1
   rw [←J] at he
   simp at he
   omega
  ·simp [h1] at J
   simp [h2] at hq
   have:=(I.blocks p b J).2.1
   rw [←hq] at he
   simp at he
   omega
  ·simp [h1] at J
   simp [h2] at hq
   exact I.distinct p q b b' J hq he
theorem gU.VA (hS:jr C.P self)(hT:hG C){r:Option Nat}{ops:Array Oper}(hL:ops.toList=L){Q:Exit→Act→World→Prop}(D:ij C self L s st vv es Hs)
 (I:gU C self L s st vv es Hs c₀ w₀ d₀ S early k c a w)(U:∀p,es[k]?=some p→¬ S p)(R:me L S i o){K:Act→World→Prop}
 (hK:∀yW k' c' a' w',gU C self L s st vv es Hs c₀ w₀ d₀ (fun j=>S j∨j=i) yW k' c' a' w'→K a' w'): wpOpIn (Fr r) 0 C.P ops Q i K a w:=by
 have hlen:i<L.length:=(List.getElem?_eq_some_iff.1 R.at_).1
 have hoi:ops[i]?=some o:=by rw [←jV,hL]; exact R.at_
 obtain ⟨h,p1,p2,p3⟩:=D.step i o R.at_
 have ph:=(pS p1).1
 -- an effect that is no new variable comes in its place
 have place:isEff C o.op=true→isAlloc o=false→es[k]?=some i:=by
  intro he ha
  obtain ⟨idx,J⟩:=AD ((D.sr i).2 ⟨o,R.at_,he⟩)
  have h1:¬ idx<k:=fun bV=>R.not (I.pre idx i bV J)
  by_cases h2:idx=k
  ·subst h2; exact J
  ·exfalso
   obtain ⟨q,hq⟩:∃q,es[k]?=some q:=⟨_,bg (by have:=(List.getElem?_eq_some_iff.1 J).1; omega)⟩
   obtain ⟨oq,g1,g2⟩:=(D.sr q).1 (bw hq)
   have Sc:q<i:=(AX D hq J).1 (by omega)
   rcases R.before D I.closed g1 Sc with hb | ⟨_,hb⟩
   ·exact U q hq hb
   ·rw [g2,he,ha] at hb; simp at hb
 have Se:es[k]?=some i→(st i).h=Hs k:=fun hk=>D.GS i k (by omega) I.GU (fun idx q bV hq=>(AX D hq hk).1 bV) (fun idx q hle hq=>by
  rcases vW hle with e | e
  ·subst e; rw [hk] at hq; simp at hq; omega
  ·exact AO ((AX D hk hq).1 e))
 unfold wpOpIn
 rw [hoi]
 simp only [I.wanted D hL U R]
 cases hw:wantedV L (st i).env o with
 | false =>
  simp only [eY,bN]
  refine ⟨fun _ _=>trivial,?_⟩
  obtain ⟨hv,hh⟩:=p3 hw
  have VB:wf c (vv i):=by rw [hv]; simp [cz,wf,fW]
  have hX:conc c (vv i)=undef:=by rw [hv,ql]
  cases he:isEff C o.op with
  | false =>
   have:=I.next D R (dL.refl c w) k (.inl ⟨rfl,he⟩) I.rel VB
   rw [hX] at this
   exact hK _ _ _ _ _ this
  | true =>
   have ha:isAlloc o=false:=by
    cases ha:isAlloc o with
    | false=>rfl
    | true=>obtain ⟨_,hg,_⟩:=xj ha; simp [wantedV,hg] at hw
   have hk:=place he ha
   have yT:Rel c (Hs (k+1)) w:=by rw [D.CA k i hk,ph,hh,Se hk]; exact I.rel
   have:=I.next D R (dL.refl c w) (k+1) (.inr ⟨rfl,hk⟩) yT VB
   rw [hX] at this
   exact hK _ _ _ _ _ this
 | true =>
  simp only [bQ]
  cases he:isEff C o.op with
  | false =>
   obtain ⟨h',mW⟩:=D.same i o R.at_ he k I.GU (fun idx p bV hp=>by
    cases hb:bit ((nth (ancs L []) p).getD 0) i with
    | false=>rfl
    | true =>
     obtain ⟨x,hx,_⟩:=(D.sr p).1 (bw hp)
     exact absurd (GV D I.closed (I.pre idx p bV hp) hx hb).1 R.not) (fun idx p hle hp=>by
    cases hb:bit ((nth (ancs L []) i).getD 0) p with
    | false=>rfl
    | true =>
     obtain ⟨q,hq⟩:∃q,es[k]?=some q:=⟨_,bg (by have:=(List.getElem?_eq_some_iff.1 hp).1; omega)⟩
     exact absurd (R.Vy D I.closed (D.Zn i o R.at_ he k idx q p hle hq hp hb)).1 (U q hq)) hw
   have hh:=E_ he mW
   subst hh
   refine (AW hS hT I.rel (I.J5 D U R) mW).wpIn (nA mW) ?_
   intro c' w' r1 r2 r3
   exact hK _ _ _ _ _ (I.next D R r2 k (.inl ⟨rfl,he⟩) r1 r3)
  | true =>
   have mW:=p2 hw
   by_cases hk:es[k]?=some i
   ·rw [Se hk] at mW
    refine (AW hS hT I.rel (I.J5 D U R) mW).wpIn (nA mW) ?_
    intro c' w' r1 r2 r3
    exact hK _ _ _ _ _ (I.next D R r2 (k+1) (.inr ⟨rfl,hk⟩) (by rw [D.CA k i hk,ph]; exact r1) r3)
   ·have ha:isAlloc o=true:=by
     cases ha:isAlloc o with
     | true=>rfl
     | false=>exact absurd (place he ha) hk
    obtain ⟨idx,J⟩:=AD ((D.sr i).2 ⟨o,R.at_,he⟩)
    have hle:k≤idx:=vZ fun bV=>R.not (I.pre idx i bV J)
    obtain ⟨fv,cs,T,F⟩:=Lw ha mW
    refine ⟨fun _ _=>trivial,?_⟩
    rw [Oper.semAt_eq _ _ _ (nA mW),F.run c a (I.J5 D U R) w]
    exact hK _ _ _ _ _ (I.float D R ha F J hle)
end
end Go.Proofs.YtconhghphklfjaaGreat.Am
namespace Go.Proofs.YtconhghphklfjaaGreat.Am
open Go
theorem P_ {a b:IntKind}(h:ikBeq a b=true): a=b:=by cases a <;> cases b <;> first | rfl | (simp [ikBeq] at h)
theorem vf {a b:Int}(h:intBeq a b=true): a=b:=by
 cases a <;> cases b <;> simp [intBeq] at h <;> rw [h]
theorem CG : ∀ {a b:List Nat},natsBeq a b=true→a=b
 | [],[],_=>rfl
 | [],_::_,h=>by simp [natsBeq] at h
 | _::_,[],h=>by simp [natsBeq] at h
 | x::a,y::b,h=>by
  simp only [natsBeq] at h
  cases I:Nat.beq x y with
  | false=>rw [I] at h; cases h
  | true=>rw [I,ag] at h; rw [beq_iff.1 I,CG h]
theorem Nv {a b:Cap}(h:a.beq b=true): a=b:=by
 cases a <;> cases b <;> simp [Cap.beq] at h
 ·rw [h]
 ·rw [h.1,h.2]
mutual
theorem El : ∀(a b:V),V.beq a b=true→a=b
 | .bool a,b,h=>by cases b <;> simp [V.beq] at h; rw [h]
 | .int j a,b,h=>by
  cases b <;> simp [V.beq] at h
  rw [P_ h.1,vf h.2]
 | .str a,b,h=>by cases b <;> simp [V.beq] at h; rw [CG h]
 | .cK,b,h=>by cases b <;> simp [V.beq] at h; rfl
 | .ptr x y,b,h=>by cases b <;> simp [V.beq] at h; rw [h.1,h.2]
 | .bz,b,h=>by cases b <;> simp [V.beq] at h; rfl
 | .sl x y z u,b,h=>by
  cases b <;> simp [V.beq] at h
  rw [h.1.1.1,h.1.1.2,h.1.2,Nv h.2]
 | .lS,b,h=>by cases b <;> simp [V.beq] at h; rfl
 | .map x,b,h=>by cases b <;> simp [V.beq] at h; rw [h]
 | .fn f x y,b,h=>by
  cases f with
  | func k=>cases b with
   | fn g u v=>cases g with
    | func j =>
     simp [V.beq] at h
     rw [h.1.1,uw x u h.1.2,uw y v h.2]
    | _=>simp [V.beq] at h
   | _=>simp [V.beq] at h
  | _=>cases b <;> simp [V.beq] at h
 | .E4,b,h=>by cases b <;> simp [V.beq] at h; rfl
 | .iface t v,b,h=>by
  cases b <;> simp [V.beq] at h
  rw [h.1,El v _ h.2]
 | .mJ,b,h=>by cases b <;> simp [V.beq] at h; rfl
 | .agg l,b,h=>by cases b <;> simp [V.beq] at h; rw [uw l _ h]
 | .bE l,b,h=>by cases b <;> simp [V.beq] at h; rw [uw l _ h]
 | .MS _,b,h=>by cases b <;> simp [V.beq] at h
 | .sle a,b,h=>by cases b <;> simp [V.beq] at h; rw [h]
 | .ue k x,b,h=>by
  cases b with
  | ue j y =>
   simp [V.beq] at h
   rw [h.2]
   cases k <;> cases j <;> first | rfl | (simp [fkBeq] at h)
  | _=>simp [V.beq] at h
theorem uw : ∀(a b:List V),V.beqL a b=true→a=b
 | [],b,h=>by cases b <;> simp [V.beqL] at h; rfl
 | x::a,b,h=>by
  cases b with
  | nil=>simp [V.beqL] at h
  | cons y b =>
   simp only [V.beqL] at h
   cases I:V.beq x y with
   | false=>rw [I] at h; cases h
   | true=>rw [I,ag] at h; rw [El x y I,uw a b h]
end
theorem Em {m:Nat}: ∀(es:List Nat),(∀idx p,idx<iw m es→es[idx]?=some p→bit m p=true)∧iw m es≤es.length:=by
 intro es
 induction es with
 | nil=>exact ⟨fun idx p _ h=>by simp at h,by simp [iw]⟩
 | cons q es J =>
  simp only [iw]
  cases U:bit m q with
  | true =>
   rw [ag]
   refine ⟨fun idx p h1 I => ?_,by have:=J.2; simp; exact this⟩
   cases idx with
   | zero=>simp at I; subst I; exact U
   | succ idx=>exact J.1 idx p (by omega) (by simpa using I)
  | false=>rw [ay]; exact ⟨fun idx p h=>by omega,by simp⟩
theorem Qa {m:Nat}: ∀(es:List Nat),lF m es=true→∀(J I p q:Nat),J≤I→es[J]?=some p→es[I]?=some q→bit m q=true→bit m p=true:=by
 intro es
 induction es with
 | nil=>intro _ J I p q _ h; simp at h
 | cons x es ih =>
  intro h J I p q hle h1 U hb
  simp only [lF] at h
  cases hx:bit m x with
  | true =>
   rw [hx,ag] at h
   cases J with
   | zero=>simp at h1; subst h1; exact hx
   | succ J =>
    cases I with
    | zero=>omega
    | succ I=>exact ih h J I p q (by omega) (by simpa using h1) (by simpa using U) hb
  | false =>
   rw [hx,ay] at h
   cases I with
   | zero =>
    simp at U
    subst U
    rw [hx] at hb; cases hb
   | succ I =>
    have:=List.all_eq_true.1 h q (bw (by simpa using U))
    rw [hb] at this; cases this
theorem Kc {as:List Nat}{i:Nat}: ∀(es:List Nat),kn as i es≤es.length∧∀p,es[kn as i es]?=some p→bit ((nth as p).getD 0) i=true:=by
 intro es
 induction es with
 | nil=>exact ⟨by simp [kn],fun p h=>by simp at h⟩
 | cons q es I =>
  simp only [kn]
  cases J:bit ((nth as q).getD 0) i with
  | true=>rw [ag]; exact ⟨by simp,fun p h=>by simp at h; subst h; exact J⟩
  | false=>rw [ay]; exact ⟨by have:=I.1; simp; exact this,fun p h=>I.2 p (by simpa using h)⟩
section
variable {C:dF} {self:Self}
theorem Nw {L:List Oper}{o:Oper}{x:Env×V}: ∀(l:List H),sameIn C self L o x l=true→wantedV L x.1 o=true→∀h∈l,∃h',evOp C self x.1 h o=some (x.2,h'):=by
 intro l
 induction l with
 | nil=>intro _ _ h hm; simp at hm
 | cons y l J =>
  intro hs hw h hm
  simp only [sameIn,hw,ag] at hs
  cases he:evOp C self x.1 y o with
  | none=>simp [he] at hs
  | some r =>
   obtain ⟨v,h'⟩:=r
   simp only [he] at hs
   cases I:v.beq x.2 with
   | false=>rw [I] at hs; cases hs
   | true =>
    rw [I,ag] at hs
    rcases List.mem_cons.1 hm with rfl | hm
    ·exact ⟨h',by rw [he,El _ _ I]⟩
    ·exact J hs hw h hm
theorem Fc {L:List Oper}{as es:List Nat}{hs:List H}: ∀(l:List Oper) (tr:List (Env×V)) (k:Nat),stayOk C self L as es hs l tr k=true →
  ∀j o x,l[j]?=some o→tr[j]?=some x→isEff C o.op=false →
   lF ((nth as (k+j)).getD 0) es=true∧(iw ((nth as (k+j)).getD 0) es=kn as (k+j) es ∨
    sameIn C self L o x ((hs.drop (iw ((nth as (k+j)).getD 0) es)).take (kn as (k+j) es+1-iw ((nth as (k+j)).getD 0) es))=true):=by
 intro l
 induction l with
 | nil=>intro tr k _ j o x h; simp at h
 | cons y l ih =>
  intro tr k h j o x ho hx he
  cases tr with
  | nil=>simp [stayOk] at h
  | cons z tr =>
   simp only [stayOk] at h
   have I:stayOk C self L as es hs l tr (k+1)=true:=by
    cases h1:isEff C y.op with
    | true=>rw [h1,ag] at h; exact h
    | false =>
     rw [h1,ay] at h
     cases J:(lF ((nth as k).getD 0) es&&Nat.beq (iw ((nth as k).getD 0) es) (kn as k es)) with
     | true=>rw [J,ag] at h; exact h
     | false =>
      rw [J,ay] at h
      cases U:(lF ((nth as k).getD 0) es&&sameIn C self L y z ((hs.drop (iw ((nth as k).getD 0) es)).take (kn as k es+1-iw ((nth as k).getD 0) es))) with
      | true=>rw [U,ag] at h; exact h
      | false=>rw [U] at h; cases h
   cases j with
   | zero =>
    simp at ho hx
    subst ho hx
    rw [he,ay] at h
    simp only [iY]
    cases J:(lF ((nth as k).getD 0) es&&Nat.beq (iw ((nth as k).getD 0) es) (kn as k es)) with
    | true =>
     rw [aZ,beq_iff] at J
     exact ⟨J.1,.inl J.2⟩
    | false =>
     rw [J,ay] at h
     cases U:(lF ((nth as k).getD 0) es&&sameIn C self L y z ((hs.drop (iw ((nth as k).getD 0) es)).take (kn as k es+1-iw ((nth as k).getD 0) es))) with
     | true =>
      rw [aZ] at U
      exact ⟨U.1,.inr U.2⟩
     | false=>rw [U] at h; cases h
   | succ j =>
    have:=ih tr (k+1) I j o x (by simpa using ho) (by simpa using hx) he
    rwa [show k+1+j=k+(j+1) from by omega] at this
theorem Qb {L:List Oper}{s z:St}(hr:oH C self L s=some z):
    ∃st vv Hs,ij C self L s st vv (dG C L 0) Hs∧st L.length=z∧L.all (fun o => !Gv o.op)=true:=by
  unfold oH at hr
  cases gF:rE C L with
  | false=>rw [gF] at hr; cases hr
  | true =>
    rw [gF,ag] at hr
    cases VC:trace C self L L s [s.h] with
    | none=>simp [VC] at hr
    | some q =>
      obtain ⟨tr,hs,z'⟩:=q
      simp only [VC] at hr
      cases U:stayOk C self L (ancs L []) (dG C L 0) hs L tr 0 with
      | false=>rw [U] at hr; cases hr
      | true =>
        rw [U,ag] at hr
        simp only [au] at hr
        subst hr
        simp only [rE,aZ] at gF
        obtain ⟨⟨⟨s1,s2⟩,s3⟩,s4⟩:=gF
        obtain ⟨st,t1,t2,t3,t4,t5⟩:=P8 L 0 s [s.h] tr hs z' VC
        simp only [dV] at t2 t5
        have Sf:∀i o,L[i]?=some o→∀e∈o.after,fT e=true→e.on<i:=fun i o ho e he hb=>by
          have:=GR L 0 s1 i o ho e he hb; omega
        have VD:∀i o,L[i]?=some o→∀j,bit ((nth (ancs L []) i).getD 0) j=true→j<i:=fun i o ho j hj =>
          (GQ Sf (fun _=>True) i o ho (fun _ _ _ _ _ _ _ _=>trivial) (fun _ _ _=>trivial) j hj).2
        have I:=(yV (C:=C) L 0).1
        have J8:∀p,p∈dG C L 0↔∃o,L[p]?=some o∧isEff C o.op=true:=fun p=>by
          rw [No]
          constructor
          · rintro ⟨i,o,rfl,h1,h2⟩; exact ⟨o,by simpa using h1,h2⟩
          · rintro ⟨o,h1,h2⟩; exact ⟨p,o,by omega,h1,h2⟩
        have Zp:∀k p,(dG C L 0)[k]?=some p→hs[k+1]?=some (st (p+1)).h:=fun k p J=>by
          rw [t4]; simp [J]
        have Zq:hs[0]?=some s.h:=by rw [t4]; simp
        have ab3:hs.length=(dG C L 0).length+1:=by rw [t4]; simp
        have rV:∀i o,L[i]?=some o→∃h,(st i).put o.dst (((tr[i]?).map (·.2)).getD cz) h=some (st (i+1)) ∧
            (wantedV L (st i).env o=true→evOp C self (st i).env (st i).h o=some (((tr[i]?).map (·.2)).getD cz,h))∧(wantedV L (st i).env o=false→((tr[i]?).map (·.2)).getD cz=cz∧h=(st i).h):=fun i o ho=>by
          obtain ⟨v,h,e1,e2,e3,e4⟩:=t5 i o ho
          refine ⟨h,?_,?_,?_⟩ <;> rw [e1] <;> simp only [iW,eZ]
          · exact e2
          · exact e3
          · exact e4
        -- all but 'same'; it is wanted for 'heapAt'
        have acg:(∀i o,L[i]?=some o→isEff C o.op=false→∀k,k≤(dG C L 0).length→(∀idx p,idx<k→(dG C L 0)[idx]?=some p→bit ((nth (ancs L []) p).getD 0) i=false) →
              (∀idx p,k≤idx→(dG C L 0)[idx]?=some p→bit ((nth (ancs L []) i).getD 0) p=false) →
              wantedV L (st i).env o=true→∃h',evOp C self (st i).env ((hs[k]?).getD s.h) o=some (((tr[i]?).map (·.2)).getD cz,h')) →
            ij C self L s st (fun i=>((tr[i]?).map (·.2)).getD cz) (dG C L 0) (fun k=>(hs[k]?).getD s.h):=fun Lj =>
          { back:=Sf
            Lt:=fun j o ho i x hi hx=>by
              have:=Lr L 0 s2 j o ho i x (by omega) hx
              simpa using this
            Nq:=fun i o ho ha j u hu bV=>by
              rcases Jb L 0 s3 i o ho ha j u hu (by omega) with h | h
              · exact .inl h
              · right
                intro p J hpi
                exact Np I h p J (by omega)
            sr:=J8
            sorted:=I
            start:=t1
            step:=rV
            Lu:=by rw [Zq]; rfl
            CA:=fun k p J=>by rw [Zp k p J]; rfl
            Zn:=fun i o ho he=>by
              obtain ⟨v,h,e1,_⟩:=t5 i o ho
              have:=(Fc L tr 0 U i o _ ho e1 he).1
              simp only [dV] at this
              exact Qa _ this
            same:=Lj }
        refine ⟨st,_,_,acg ?_,t2,s4⟩
        intro i o ho he k hk h1 h2 hw
        obtain ⟨v,h,e1,e2,e3,e4⟩:=t5 i o ho
        obtain ⟨g1,g2⟩:=Fc L tr 0 U i o _ ho e1 he
        simp only [dV] at g1 g2
        have aar:iw ((nth (ancs L []) i).getD 0) (dG C L 0)≤k:=vZ fun bV=>by
          obtain ⟨p,J⟩:∃p,(dG C L 0)[k]?=some p:=⟨_,bg (by have:=(Em (m:=(nth (ancs L []) i).getD 0) (dG C L 0)).2; omega)⟩
          have:=(Em (dG C L 0)).1 k p bV J
          rw [h2 k p (aI _) J] at this
          cases this
        have ach:k≤kn (ancs L []) i (dG C L 0):=vZ fun bV=>by
          obtain ⟨p,J⟩:∃p,(dG C L 0)[kn (ancs L []) i (dG C L 0)]?=some p:=⟨_,bg (by omega)⟩
          have:=(Kc (as:=ancs L []) (i:=i) (dG C L 0)).2 p J
          rw [h1 _ p bV J] at this
          cases this
        have P0:((tr[i]?).map (·.2)).getD cz=v:=by rw [e1]; rfl
        rw [P0]
        rcases g2 with g2 | g2
        · -- its place is known
          have GX:(st i).h=(hs[k]?).getD s.h:=by
            have yM:k=kn (ancs L []) i (dG C L 0):=by omega
            have bV:∀idx p,idx<k→(dG C L 0)[idx]?=some p→p<i:=fun idx p bV J=>by
              have:=(Em (m:=(nth (ancs L []) i).getD 0) (dG C L 0)).1 idx p (by omega) J
              exact VD i o ho p this
            have Sg:∀idx p,k≤idx→(dG C L 0)[idx]?=some p→i≤p:=fun idx p hle J=>by
              obtain ⟨q,hq⟩:∃q,(dG C L 0)[k]?=some q:=⟨_,bg (by have:=(List.getElem?_eq_some_iff.1 J).1; omega)⟩
              have hb:=(Kc (as:=ancs L []) (i:=i) (dG C L 0)).2 q (by rw [←yM]; exact hq)
              obtain ⟨x,hx,_⟩:=(J8 q).1 (bw hq)
              have hiq:=VD q x hx i hb
              rcases vW hle with e | e
              · subst e; rw [hq] at J; simp at J; omega
              · obtain ⟨a1,b1⟩:=List.getElem?_eq_some_iff.1 hq
                obtain ⟨a2,b2⟩:=List.getElem?_eq_some_iff.1 J
                have:=(List.pairwise_iff_getElem.1 I) k idx a1 a2 e
                omega
            exact CC (Hs:=fun k=>(hs[k]?).getD s.h) rV (fun p=>J8 p) I t1 (by rw [Zq]; rfl) (fun k p J=>by rw [Zp k p J]; rfl) i k (by have:=(List.getElem?_eq_some_iff.1 ho).1; omega) hk bV Sg
          rw [←GX]
          exact ⟨h,e3 hw⟩
        · have hm:(hs[k]?).getD s.h∈(hs.drop (iw ((nth (ancs L []) i).getD 0) (dG C L 0))).take (kn (ancs L []) i (dG C L 0)+1-iw ((nth (ancs L []) i).getD 0) (dG C L 0)):=by
            have aas:k<hs.length:=by omega
            refine bw (i:=k-iw ((nth (ancs L []) i).getD 0) (dG C L 0)) ?_
            rw [mj,aj (by omega),jW,Nat.add_sub_cancel' aar,bg aas]
            simp
          exact Nw _ g2 hw _ hm
theorem TG {L:List Oper}{S:Nat→Prop}(J:∀i o,L[i]?=some o→∀e∈o.after,fT e=true→e.on<i)(U:∀i o,¬ me L S i o): ∀i,i<L.length→S i:=by
 intro i
 induction i using Nat.strongRecOn with
 | _ i ih =>
  intro hi
  refine AB fun hS => ?_
  refine U i L[i] ⟨bg hi,hS,fun e he I => ?_⟩
  have:=J i L[i] (bg hi) e he I
  exact ih e.on this (by omega)
theorem gU.done {L:List Oper}{s:St}{st:Nat→St}{vv:Nat→V}{es:List Nat}{Hs:Nat→H}{c₀ c:Ctx}{w₀ w:World}{d₀:List Deferred}{S:Nat→Prop}{early:Nat→Option (Nat×FV)}{k:Nat}{a:Act}
 (D:ij C self L s st vv es Hs)(I:gU C self L s st vv es Hs c₀ w₀ d₀ S early k c a w)(qt:∀p,es[k]?=some p→¬ S p)(J:∀i,i<L.length→S i):
  Rel c (st L.length).h w∧fu c (st L.length).env (st L.length).az a:=by
 have bV:∀p∈es,p<L.length:=fun p hp=>by
  obtain ⟨o,ho,_⟩:=(D.sr p).1 hp
  exact (List.getElem?_eq_some_iff.1 ho).1
 have hk:k=es.length:=by
  refine Nat.le_antisymm I.GU (vZ fun h => ?_)
  exact qt _ (bg h) (J _ (bV _ (pI h)))
 have U:∀p,early p=none:=fun p=>by
  cases h:early p with
  | none=>rfl
  | some b =>
   obtain ⟨_,idx,h1,h2⟩:=I.tW p b h
   have:=(List.getElem?_eq_some_iff.1 h2).1
   omega
 refine ⟨?_,?_⟩
 ·rw [D.GS L.length k (aI _) I.GU (fun idx p _ hp=>bV p (bw hp)) (fun idx p hle hp=>by have:=(List.getElem?_eq_some_iff.1 hp).1; omega)]
  exact I.rel
 ·have hv:∀t,a.tmps.getD t undef=conc c ((st L.length).env.v t)∧wf c ((st L.length).env.v t):=fun t=>by
   rcases I.tmp t with ⟨i,o,g1,g2,g3,g4,g5⟩ | ⟨g1,g2,g3⟩
   ·have:(st L.length).env.v t=vv i:=by
     rcases D.Gd t L.length (aI _) with ⟨j,oj,h1,h2,h3,h4,h5⟩ | ⟨h1,_⟩
     ·have e1:=h4 i o (List.getElem?_eq_some_iff.1 g2).1 g2 g3
      have e2:=g4 j oj (J j h1) h2 h3
      have:j=i:=by omega
      subst this; exact h5
     ·exact absurd g3 (h1 i o (List.getElem?_eq_some_iff.1 g2).1 g2)
    rcases g5 with ⟨b,e1,_⟩ | ⟨_,e2,e3⟩
    ·rw [U i] at e1; cases e1
    ·rw [this]; exact ⟨e2,e3⟩
   ·have:(st L.length).env.v t=s.env.v t:=by
     rcases D.Gd t L.length (aI _) with ⟨j,oj,h1,h2,h3,h4,h5⟩ | ⟨_,h⟩
     ·exact absurd h3 (g1 j oj (J j h1) h2)
     ·exact h
    rw [this]; exact ⟨g2,g3⟩
  exact ⟨by rw [I.size,D.az L.length (aI _)],fun t=>(hv t).1,fun t=>(hv t).2⟩
theorem gU.congr {L:List Oper}{s:St}{st:Nat→St}{vv:Nat→V}{es:List Nat}{Hs:Nat→H}{c₀ c:Ctx}{w₀ w:World}{d₀:List Deferred}{S S':Nat→Prop}{early:Nat→Option (Nat×FV)}{k:Nat}{a:Act}
 (I:gU C self L s st vv es Hs c₀ w₀ d₀ S early k c a w)(h:∀j,S j↔S' j): gU C self L s st vv es Hs c₀ w₀ d₀ S' early k c a w:=by
 have:S=S':=funext fun j=>propext (h j)
 rw [←this]; exact I
theorem Qc (hS:jr C.P self)(hT:hG C){r:Option Nat}{ops:Array Oper}{L:List Oper}(hL:ops.toList=L){Q:Exit→Act→World→Prop}{s:St}{st:Nat→St}{vv:Nat→V}{es:List Nat}{Hs:Nat→H}
 {c₀:Ctx}{w₀:World}{d₀:List Deferred}(D:ij C self L s st vv es Hs)
 (hQ:∀c a w,Rel c (st L.length).h w→fu c (st L.length).env (st L.length).az a→dL c₀ w₀ c w→a.defers=d₀→Q .normal a w):
  ∀(fuel:Nat) (J:Array Bool) (early:Nat→Option (Nat×FV)) (k:Nat) (c:Ctx) (a:Act) (w:World),J.size=L.length→J.count false≤fuel →
   gU C self L s st vv es Hs c₀ w₀ d₀ (fun j=>J.getD j false=true) early k c a w→wpAnyIn (Fr r) 0 C.P .any ops Q fuel J a w:=by
 intro fuel
 induction fuel with
 | zero =>
  intro J early k c a w eX aat I
  have mz:∀i,i<L.length→J.getD i false=true:=fun i hi=>by
   have h0:J.count false=0:=by omega
   have:false∉J:=Array.count_eq_zero.1 h0
   rw [mh,vQ (by omega)]
   cases hb:J[i]'(by omega) with
   | true=>rfl
   | false=>exact absurd (by rw [←hb]; exact Array.getElem_mem _) this
  obtain ⟨yW,k',c',I',qt⟩:=gU.Fb D (es.length-k) k early c rfl I
  obtain ⟨r1,r2⟩:=I'.done D qt mz
  refine ⟨?_,hQ c' a w r1 r2 I'.J9 I'.defers⟩
  refine List.eq_nil_iff_forall_not_mem.2 fun j hj => ?_
  obtain ⟨h1,o,h2,_⟩:=mem_ready.1 hj
  have U:j<L.length:=by rw [←hL]; simpa using (Array.getElem?_eq_some_iff.1 h2).1
  have h3:=mz j U
  rw [mh,vQ (by omega)] at h1 h3
  simp at h1 h3
  rw [h1] at h3; cases h3
 | succ fuel ih =>
  intro J early k c a w eX aat I
  obtain ⟨yW,k',c',I',qt⟩:=gU.Fb D (es.length-k) k early c rfl I
  have Nx:∀j,j∈Region.ready .any ops J↔∃o,me L (fun j=>J.getD j false=true) j o:=fun j=>by
   rw [mem_ready]
   constructor
   ·rintro ⟨h1,o,h2,h3⟩
    refine ⟨o,by rw [←hL,jV]; exact h2,fun h4 => ?_,fun e he hb=>h3 e he ?_⟩
    ·have U:j<J.size:=by rw [eX,←hL]; simpa using (Array.getElem?_eq_some_iff.1 h2).1
     rw [mh,vQ U] at h1 h4
     simp at h1 h4
     rw [h1] at h4; cases h4
    ·rw [←hb]; cases e; rename_i on g; cases g <;> rfl
   ·rintro ⟨o,R⟩
    have h2:=R.at_
    rw [←hL,jV] at h2
    refine ⟨?_,o,h2,fun e he hb=>R.Lx e he ?_⟩
    ·have U:j<J.size:=by rw [eX,←hL]; simpa using (Array.getElem?_eq_some_iff.1 h2).1
     have h4:=R.not
     rw [mh,vQ U] at h4 ⊢
     simpa using h4
    ·rw [←hb]; cases e; rename_i on g; cases g <;> rfl
  refine ⟨fun xg => ?_,fun i hi => ?_⟩
  ·have mz:=TG (S:=fun j=>J.getD j false=true) D.back (fun i o R=>by
    have:=(Nx i).2 ⟨o,R⟩
    rw [xg] at this; simp at this)
   obtain ⟨r1,r2⟩:=I'.done D qt mz
   exact hQ c' a w r1 r2 I'.J9 I'.defers
  ·obtain ⟨o,R⟩:=(Nx i).1 hi
   have U:i<J.size:=by rw [eX]; exact (List.getElem?_eq_some_iff.1 R.at_).1
   have VE:J[i]=false:=by
    have:=R.not
    rw [mh,vQ U] at this
    simpa using this
   refine I'.VA hS hT hL D qt R ?_
   intro TH k'' qq yU Cy I''
   refine ih (J.setIfInBounds i true) TH k'' qq yU Cy (by simp [eX]) ?_ (I''.congr fun j => ?_)
   ·have:(J.setIfInBounds i true).count false=J.count false-1:=by
     rw [Array.setIfInBounds_def,dif_pos U,Array.count_set]
     simp [VE]
    omega
   ·by_cases Fe:j=i
    ·subst Fe
     simp [mh,U]
    ·simp [mh,AA (jo Fe),Fe]
theorem Ny (hS:jr C.P self)(hT:hG C)(hm:C.P.follows .mixedOrders=true){r:Option Nat}{id:Nat}{ops:Array Oper}{s s':St}(hr:oH C self ops.toList s=some s'){Q:Exit→Act→World→Prop}
 {c:Ctx}{a:Act}{w:World}(h:Rel c s.h w)(he:fu c s.env s.az a)
 (hQ:∀J U w',Rel J s'.h w'→fu J s'.env s'.az U→dL c w J w'→U.defers=a.defers→Q .normal U w'):
  (Code.region id ops true).wpIn (Fr r) 0 C.P Q a w:=by
 obtain ⟨st,vv,Hs,D,hz,_⟩:=Qb hr
 refine wpIn_region_any hm ?_
 have aau:dL c w c { w with drawn:=w.drawn+1 }:=dL.drew c w
 have yT:Rel c s.h { w with drawn:=w.drawn+1 }:=h.drew
 refine Qc hS hT rfl D (c₀:=c) (w₀:=w) (d₀:=a.defers) (fun J U w' r1 r2 r3 r4=>hQ J U w' (by rw [←hz]; exact r1) (by rw [←hz]; exact r2) r3 r4)
  ops.size (Array.replicate ops.size false) (fun _=>none) 0 c a _ (by simp) (by simp) ?_
 have I:∀j,¬ (Array.replicate ops.size false).getD j false=true:=fun j=>by
  rw [mh,Array.getElem?_replicate]; split <;> simp
 refine ⟨fun i o hi=>absurd hi (I i),fun idx p h=>by omega,eM _,fun idx p _ _ hp=>absurd hp (I p),(fun p b h=>by cases h),(by rw [D.Lu]; exact yT),he.size,
  fun t=>.inr ⟨fun j o hj=>absurd hj (I j),he.val t,he.wo t⟩,(fun p b h=>by cases h),(fun p q b b' h=>by cases h),aau,rfl⟩
end
end Go.Proofs.YtconhghphklfjaaGreat.Am
