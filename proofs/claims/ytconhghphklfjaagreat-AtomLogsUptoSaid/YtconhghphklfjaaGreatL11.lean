/- After a crash the log has the records of the groups that are there and no others, with their numbers and data; the conditions are those of the given statement, for arguments that a machine can hold. Part 11 of 54. -/
import Derived.Test.YtconhghphklfjaaGreatL10
namespace Go.Proofs.YtconhghphklfjaaGreat.Am
open Go
section
variable {C:cf} {self:Self} {c:Ctx} {w:World}
variable {L:List Oper} {s:St} {st:Nat→St} {vv:Nat→V} {es:List Nat} {Hs:Nat→H}
variable {c₀:Ctx} {w₀:World} {d₀:List Deferred} {S:Nat→Prop} {early:Nat→Option (Nat×FV)} {k i:Nat} {a:Act} {o:Oper}
structure iy (L:List Oper)(S:Nat→Prop)(i:Nat)(o:Oper): Prop where
 at_:L[i]?=some o
 not:¬ S i
 DB:∀e∈o.after,dy e=true→S e.on
theorem iy.MD (D:eP C self L s st vv es Hs)(I:∀i o,S i→L[i]?=some o→∀e∈o.after,dy e=true→S e.on)(R:iy L S i o){j:Nat}
 (h:bit ((nth (ancs L []) i).getD 0) j=true): S j∧j<i :=
 zD D.back S i o R.at_ (fun k o' _ J U=>I k o' U J) R.DB j h
theorem zI (D:eP C self L s st vv es Hs)(I:∀i o,S i→L[i]?=some o→∀e∈o.after,dy e=true→S e.on){j q:Nat}{x:Oper}(hj:S j)(U:L[j]?=some x)
 (h:bit ((nth (ancs L []) j).getD 0) q=true): S q∧q<j :=
 zD D.back S j x U (fun k o' _ J hk=>I k o' hk J) (I j x hj U) q h
theorem iy.later (D:eP C self L s st vv es Hs)(I:∀i o,S i→L[i]?=some o→∀e∈o.after,dy e=true→S e.on)(R:iy L S i o){j:Nat}{x:Oper}
 (hj:S j)(U:L[j]?=some x)(J:i<j): gZ L o x=true:=by
 rcases D.Dx j x U i o J R.at_ with h | ⟨h,_⟩
 ·exact absurd (zI D I hj U h).1 R.not
 ·exact h
theorem iy.before (D:eP C self L s st vv es Hs)(I:∀i o,S i→L[i]?=some o→∀e∈o.after,dy e=true→S e.on)(R:iy L S i o){j:Nat}{x:Oper}
 (U:L[j]?=some x)(J:j<i): S j∨(gZ L x o=true∧(isEff C x.op=false∨isEff C o.op=false∨isAlloc o=true)):=by
 rcases D.Dx i o R.at_ j x J U with h | h
 ·exact .inl (R.MD D I h).1
 ·exact .inr h
theorem eD.Ct (D:eP C self L s st vv es Hs)(I:eD C self L s st vv es Hs c₀ w₀ d₀ S early k c a w)(kW:∀p,es[k]?=some p→¬ S p)(R:iy L S i o)
 {t:Tmp}(ht:t∈looks L o): a.tmps.getD t undef=conc c ((st i).env.v t)∧wf c ((st i).env.v t):=by
 have hlen:i<L.length:=(List.getElem?_eq_some_iff.1 R.at_).1
 -- those that write it and have come stand ahead in the text
 have KU:∀j x,S j→L[j]?=some x→x.dst=some t→j<i:=fun j x hj hx hd=>by
  rcases Nat.lt_trichotomy j i with h | h | h
  ·exact h
  ·subst h; exact absurd hj R.not
  ·exact absurd ht ((oo (R.later D I.closed hj hx h)).2 t hd)
 have JN:∀j x,j<i→L[j]?=some x→x.dst=some t→S j:=fun j x bB hx hd=>by
  rcases R.before D I.closed hx bB with h | ⟨h,_⟩
  ·exact h
  ·exact absurd ht ((oo h).1 t hd).1
 rcases I.tmp t with ⟨J,U,g1,g2,g3,g4,g5⟩ | ⟨g1,g2,g3⟩
 ·have bB:=KU J U g1 g2 g3
  have ud:(st i).env.v t=vv J:=by
   rcases D.yG t i (by omega) with ⟨j,oj,h1,h2,h3,h4,h5⟩ | ⟨h1,_⟩
   ·have e1:=h4 J U bB g2 g3
    have e2:=g4 j oj (JN j oj h1 h2 h3) h2 h3
    have:j=J:=by omega
    subst this; exact h5
   ·exact absurd g3 (h1 J U bB g2)
  rcases g5 with ⟨b,e1,_⟩ | ⟨_,e2,e3⟩
  ·exfalso
   obtain ⟨_,idx,f2,f3⟩:=I.nc J b e1
   obtain ⟨KG,_,f4,f5,_⟩:=I.late idx J f2 f3 g1
   rw [g2] at f4
   simp at f4
   subst f4
   obtain ⟨q,hq⟩:∃q,es[k]?=some q:=⟨_,List.getElem?_eq_getElem (by have:=(List.getElem?_eq_some_iff.1 f3).1; omega)⟩
   by_cases JO:q=J
   ·subst JO; exact kW _ hq g1
   ·have Ru:q<J:=by
     have:k≠idx:=fun e=>by subst e; rw [hq] at f3; simp at f3; exact JO f3
     exact (sB D hq f3).1 (by omega)
    rcases D.Fl J U g2 f5 i o R.at_ bB with h | h
    ·exact ((oo h).1 t g3).1 ht
    ·exact kW q hq (R.MD D I.closed (h q (List.mem_of_getElem? hq) Ru)).1
  ·rw [ud]; exact ⟨e2,e3⟩
 ·have ud:(st i).env.v t=s.env.v t:=by
   rcases D.yG t i (by omega) with ⟨j,oj,h1,h2,h3,h4,h5⟩ | ⟨_,h⟩
   ·exact absurd h3 (g1 j oj (JN j oj h1 h2 h3) h2)
   ·exact h
  rw [ud]; exact ⟨g2,g3⟩
theorem eD.Cn (D:eP C self L s st vv es Hs)(I:eD C self L s st vv es Hs c₀ w₀ d₀ S early k c a w)(U:∀p,es[k]?=some p→¬ S p)(R:iy L S i o): sx c (st i).env a o:=by
 intro x hx v J
 cases x with
 | tmp t =>
  simp only [evO,Option.some.injEq] at J
  subst J
  have hl:t∈looks L o:=List.mem_append_left _ (List.mem_filterMap.2 ⟨.tmp t,by simpa using hx,rfl⟩)
  exact I.Ct D U R hl
 | const x =>
  simp only [evO] at J
  obtain ⟨h1,h2⟩:=mP J c
  exact ⟨h1.symm,h2⟩
 | global g=>simp [evO] at J
 | func f =>
  simp only [evO,Option.some.injEq] at J
  subst J
  exact ⟨by simp [Act.eval,conc,concL],by simp [wf,dH]⟩
theorem eD.wanted (D:eP C self L s st vv es Hs){ops:Array Oper}(U:ops.toList=L)(I:eD C self L s st vv es Hs c₀ w₀ d₀ S early k c a w)(J:∀p,es[k]?=some p→¬ S p)(R:iy L S i o):
  Region.wanted o (yielded ops a.tmps)=wantedV L (st i).env o:=by
 rw [←U]
 refine uT (c:=c) fun j w d hg hd => ?_
 have hl:d∈looks L o:=by
  refine List.mem_append_right _ ?_
  rw [hg]
  simp only [dG]
  rw [←U,Array.getElem?_toList,hd]
  simp
 exact (I.Ct D J R hl).1
theorem eD.Cv (D:eP C self L s st vv es Hs)(I:eD C self L s st vv es Hs c₀ w₀ d₀ S early k c a w)(R:iy L S i o){c':Ctx}(e:Ext c c'){U:Nat→Option (Nat×FV)}
 (Cw:∀j,j≠i→U j=early j)(X:Value)
 (hX:(∃b,U i=some b∧X=b.2.val b.1)∨(U i=none∧X=conc c' (vv i)∧wf c' (vv i)))(t:Tmp):
  (∃J OK,(S J∨J=i)∧L[J]?=some OK∧OK.dst=some t∧(∀j o',(S j∨j=i)→L[j]?=some o'→o'.dst=some t→j≤J) ∧
    ((∃b,U J=some b∧(a.put o.dst X).tmps.getD t undef=b.2.val b.1)∨(U J=none∧(a.put o.dst X).tmps.getD t undef=conc c' (vv J)∧wf c' (vv J)))) ∨
   ((∀j o',(S j∨j=i)→L[j]?=some o'→o'.dst≠some t)∧(a.put o.dst X).tmps.getD t undef=conc c' (s.env.v t)∧wf c' (s.env.v t)):=by
 have hlen:i<L.length:=(List.getElem?_eq_some_iff.1 R.at_).1
 by_cases hd:o.dst=some t
 ·left
  refine ⟨i,o,.inr rfl,R.at_,hd,fun j x hj hx JP => ?_,?_⟩
  ·rcases hj with hj | hj
   ·rcases Nat.lt_or_ge i j with h | h
    ·exact absurd JP ((oo (R.later D I.closed hj hx h)).1 t hd).2
    ·exact h
   ·omega
  ·obtain ⟨h,p1,_,_⟩:=D.step i o R.at_
   obtain ⟨_,_,p3,_⟩:=kz p1
   have ee:t<a.tmps.size:=by rw [I.size,←D.ak i (by omega)]; exact p3 t hd
   have y_:(a.put o.dst X).tmps.getD t undef=X:=by rw [hd]; simp [Act.put,Array.getD,ee]
   rw [y_]
   exact hX
 ·have y_:(a.put o.dst X).tmps.getD t undef=a.tmps.getD t undef:=by
   cases ho:o.dst with
   | none=>rfl
   | some d =>
    have:d≠t:=fun e=>hd (by rw [ho,e])
    simp [Act.put,Array.getD_eq_getD_getElem?,Array.getElem?_setIfInBounds_ne this]
  rw [y_]
  rcases I.tmp t with ⟨J,OK,g1,g2,g3,g4,g5⟩ | ⟨g1,g2,g3⟩
  ·left
   have ep:J≠i:=fun e=>by subst e; exact R.not g1
   refine ⟨J,OK,.inl g1,g2,g3,fun j x hj hx JP => ?_,?_⟩
   ·rcases hj with hj | hj
    ·exact g4 j x hj hx JP
    ·subst hj; rw [R.at_] at hx; simp at hx; subst hx; exact absurd JP hd
   ·rw [Cw J ep]
    rcases g5 with h | ⟨e1,e2,e3⟩
    ·exact .inl h
    ·exact .inr ⟨e1,by rw [e2,(bG e _ e3).1],(bG e _ e3).2⟩
  ·right
   refine ⟨fun j x hj hx => ?_,by rw [g2,(bG e _ g3).1],(bG e _ g3).2⟩
   rcases hj with hj | hj
   ·exact g1 j x hj hx
   ·subst hj; rw [R.at_] at hx; simp at hx; subst hx; exact hd
theorem eD.u9 (I:eD C self L s st vv es Hs c₀ w₀ d₀ S early k c a w)(R:iy L S i o):
  ∀j x,(S j∨j=i)→L[j]?=some x→∀e∈x.after,dy e=true→(S e.on∨e.on=i):=by
 intro j x J U e he hb
 rcases J with J | J
 ·exact .inl (I.closed j x J U e he hb)
 ·subst J; rw [R.at_] at U; simp at U; subst U; exact .inl (R.DB e he hb)
theorem zJ (a:Act)(d:Option Tmp)(X:Value): (a.put d X).tmps.size=a.tmps.size:=by cases d <;> simp [Act.put]
theorem put_defers (a:Act)(d:Option Tmp)(X:Value): (a.put d X).defers=a.defers:=by cases d <;> rfl
theorem eD.next (D:eP C self L s st vv es Hs)(I:eD C self L s st vv es Hs c₀ w₀ d₀ S early k c a w)(R:iy L S i o){c':Ctx}{w':World}(X:cm c w c' w')(k':Nat)
 (J:(k'=k∧isEff C o.op=false)∨(k'=k+1∧es[k]?=some i))(rj:Rel c' (Hs k') w')(hv:wf c' (vv i)):
  eD C self L s st vv es Hs c₀ w₀ d₀ (fun j=>S j∨j=i) early k' c' (a.put o.dst (conc c' (vv i))) w':=by
 have S3:early i=none:=by
  cases h:early i with
  | none=>rfl
  | some b=>exact absurd (I.nc i b h).1 R.not
 refine ⟨I.u9 R,fun idx p bB U => ?_,?_,fun idx p hle U Ft => ?_,fun p b U => ?_,rj,by rw [zJ]; exact I.size,
  fun t=>I.Cv D R X.ext (fun j _=>rfl) _ (.inr ⟨S3,rfl,hv⟩) t,fun p b U => ?_,I.distinct,I.Cs.trans X,by rw [put_defers]; exact I.defers⟩
 ·rcases J with ⟨rfl,_⟩ | ⟨rfl,J⟩
  ·exact .inl (I.pre idx p bB U)
  ·by_cases h:idx=k
   ·subst h; rw [J] at U; simp at U; exact .inr U.symm
   ·exact .inl (I.pre idx p (by omega) U)
 ·rcases J with ⟨rfl,_⟩ | ⟨rfl,J⟩
  ·exact I.zH
  ·have:=(List.getElem?_eq_some_iff.1 J).1; omega
 ·rcases Ft with Ft | Ft
  ·refine I.late idx p ?_ U Ft
   rcases J with ⟨rfl,_⟩ | ⟨rfl,J⟩ <;> omega
  ·subst Ft
   exfalso
   rcases J with ⟨rfl,J⟩ | ⟨rfl,J⟩
   ·obtain ⟨o',h1,h2⟩:=(D.mq p).1 (List.mem_of_getElem? U)
    rw [R.at_] at h1; simp at h1; subst h1; rw [J] at h2; cases h2
   ·have:=Fs D U J; omega
 ·obtain ⟨g1,idx,g2,g3⟩:=I.nc p b U
  refine ⟨.inl g1,idx,?_,g3⟩
  rcases J with ⟨rfl,_⟩ | ⟨rfl,J⟩
  ·exact g2
  ·rcases Nat.eq_or_lt_of_le g2 with e | e
   ·subst e; rw [J] at g3; simp at g3; subst g3; exact absurd g1 R.not
   ·exact e
 ·obtain ⟨g1,g2,g3,o',T,cs,g4,g5,g7⟩:=I.blocks p b U
  refine ⟨g1,Nat.lt_of_lt_of_le g2 X.size,fun id qG he => ?_,o',T,cs,g4,g5,by rw [X.bX b.1 g2 (fun id hi he=>absurd he (g3 id hi)),g5.same c _]; exact g7⟩
  by_cases ME:id<c.N
  ·exact g3 id ME (by rw [←X.ext.ρ id ME]; exact he)
  ·rcases X.fresh id (by omega) qG with h | ⟨j,hj,h,_⟩
   ·omega
   ·exact g3 j hj (by rw [h]; exact he)
theorem eD.float (D:eP C self L s st vv es Hs)(I:eD C self L s st vv es Hs c₀ w₀ d₀ S early k c a w)(R:iy L S i o)(Fq:isAlloc o=true){fv:FV}{cs:List V}{T:TypeId}
 (F:wC C self (st i).env o fv cs T){idx:Nat}(Rv:es[idx]?=some i)(hle:k≤idx):
  eD C self L s st vv es Hs c₀ w₀ d₀ (fun j=>S j∨j=i) (fun j=>if j=i then some (w.heap.size,fv) else early j) k c (a.put o.dst (fv.val w.heap.size))
   (w.alloc (.cells (cs.map (conc c)).toArray T (0,0))):=by
 obtain ⟨j1,j2⟩:=I.rel.Rq (.cells (cs.map (conc c)).toArray T (0,0))
 have nS:∀j,S j→j≠i:=fun j hj e=>by subst e; exact R.not hj
 refine ⟨I.u9 R,fun idx p bB J=>.inl (I.pre idx p bB J),I.zH,fun Rw p Mf J U => ?_,fun p b J => ?_,j1,by rw [zJ]; exact I.size,
  fun t=>I.Cv D R (Ext.refl c) (fun j hj=>by simp [hj]) _ (.inl ⟨(w.heap.size,fv),by simp,rfl⟩) t,fun p b J => ?_,fun p q b b' J hq he => ?_,I.Cs.trans j2,by rw [put_defers]; exact I.defers⟩
 ·rcases U with U | U
  ·obtain ⟨o',b,g1,g2,g3⟩:=I.late Rw p Mf J U
   exact ⟨o',b,g1,g2,by simp [nS p U,g3]⟩
  ·subst U
   exact ⟨o,_,R.at_,Fq,by simp; rfl⟩
 ·by_cases h:p=i
  ·subst h; exact ⟨.inr rfl,idx,hle,Rv⟩
  ·simp [h] at J
   obtain ⟨g1,g2⟩:=I.nc p b J
   exact ⟨.inl g1,g2⟩
 ·by_cases h:p=i
  ·subst h
   simp at J
   subst J
   refine ⟨I.Cs.size,by simp,fun id qG=>Nat.ne_of_lt (I.rel.gL id qG),o,T,cs,R.at_,F,by rw [e_]; simp⟩
  ·simp [h] at J
   obtain ⟨g1,g2,g3,o',T',cs',g4,g5,g7⟩:=I.blocks p b J
   exact ⟨g1,by simp; omega,g3,o',T',cs',g4,g5,by rw [e_,if_neg (Nat.ne_of_lt g2)]; exact g7⟩
 ·by_cases h1:p=i <;> by_cases h2:q=i
  ·omega
  ·simp [h1] at J
   simp [h2] at hq
   have:=(I.blocks q b' hq).2.1
   rw [←J] at he
   simp at he
   omega
  ·simp [h1] at J
   simp [h2] at hq
   have:=(I.blocks p b J).2.1
   rw [←hq] at he
   simp at he
   omega
  ·simp [h1] at J
   simp [h2] at hq
   exact I.distinct p q b b' J hq he
theorem eD.MF (hS:fH C.P self)(hT:eM C){r:Option Nat}{ops:Array Oper}(hL:ops.toList=L){Q:Exit→Act→World→Prop}(D:eP C self L s st vv es Hs)
 (I:eD C self L s st vv es Hs c₀ w₀ d₀ S early k c a w)(U:∀p,es[k]?=some p→¬ S p)(R:iy L S i o){K:Act→World→Prop}
 (hK:∀ru k' c' a' w',eD C self L s st vv es Hs c₀ w₀ d₀ (fun j=>S j∨j=i) ru k' c' a' w'→K a' w'): wpOpIn (Fr r) 0 C.P ops Q i K a w:=by
 have hlen:i<L.length:=(List.getElem?_eq_some_iff.1 R.at_).1
 have S4:ops[i]?=some o:=by rw [←Array.getElem?_toList,hL]; exact R.at_
 obtain ⟨h,p1,p2,p3⟩:=D.step i o R.at_
 have ph:=(kz p1).1
 -- an effect that is no new variable comes in its place
 have place:isEff C o.op=true→isAlloc o=false→es[k]?=some i:=by
  intro he ha
  obtain ⟨idx,J⟩:=List.getElem?_of_mem ((D.mq i).2 ⟨o,R.at_,he⟩)
  have h1:¬ idx<k:=fun bB=>R.not (I.pre idx i bB J)
  by_cases h2:idx=k
  ·subst h2; exact J
  ·exfalso
   obtain ⟨q,hq⟩:∃q,es[k]?=some q:=⟨_,List.getElem?_eq_getElem (by have:=(List.getElem?_eq_some_iff.1 J).1; omega)⟩
   obtain ⟨oq,g1,g2⟩:=(D.mq q).1 (List.mem_of_getElem? hq)
   have JO:q<i:=(sB D hq J).1 (by omega)
   rcases R.before D I.closed g1 JO with hb | ⟨_,hb⟩
   ·exact U q hq hb
   ·rw [g2,he,ha] at hb; simp at hb
 have JQ:es[k]?=some i→(st i).h=Hs k:=fun hk=>D.zG i k (by omega) I.zH (fun idx q bB hq=>(sB D hq hk).1 bB) (fun idx q hle hq=>by
  rcases Nat.eq_or_lt_of_le hle with e | e
  ·subst e; rw [hk] at hq; simp at hq; omega
  ·exact Nat.le_of_lt ((sB D hk hq).1 e))
 unfold wpOpIn
 rw [S4]
 simp only [I.wanted D hL U R]
 cases hw:wantedV L (st i).env o with
 | false =>
  simp only [Bool.false_eq_true,if_false]
  refine ⟨fun _ _=>trivial,?_⟩
  obtain ⟨hv,hh⟩:=p3 hw
  have MG:wf c (vv i):=by rw [hv]; simp [bt,wf,dH]
  have hX:conc c (vv i)=undef:=by rw [hv,kQ]
  cases he:isEff C o.op with
  | false =>
   have:=I.next D R (cm.refl c w) k (.inl ⟨rfl,he⟩) I.rel MG
   rw [hX] at this
   exact hK _ _ _ _ _ this
  | true =>
   have ha:isAlloc o=false:=by
    cases ha:isAlloc o with
    | false=>rfl
    | true=>obtain ⟨_,hg,_⟩:=pW ha; simp [wantedV,hg] at hw
   have hk:=place he ha
   have rj:Rel c (Hs (k+1)) w:=by rw [D.uZ k i hk,ph,hh,JQ hk]; exact I.rel
   have:=I.next D R (cm.refl c w) (k+1) (.inr ⟨rfl,hk⟩) rj MG
   rw [hX] at this
   exact hK _ _ _ _ _ this
 | true =>
  simp only [if_true]
  cases he:isEff C o.op with
  | false =>
   obtain ⟨h',iV⟩:=D.same i o R.at_ he k I.zH (fun idx p bB hp=>by
    cases hb:bit ((nth (ancs L []) p).getD 0) i with
    | false=>rfl
    | true =>
     obtain ⟨x,hx,_⟩:=(D.mq p).1 (List.mem_of_getElem? hp)
     exact absurd (zI D I.closed (I.pre idx p bB hp) hx hb).1 R.not) (fun idx p hle hp=>by
    cases hb:bit ((nth (ancs L []) i).getD 0) p with
    | false=>rfl
    | true =>
     obtain ⟨q,hq⟩:∃q,es[k]?=some q:=⟨_,List.getElem?_eq_getElem (by have:=(List.getElem?_eq_some_iff.1 hp).1; omega)⟩
     exact absurd (R.MD D I.closed (D.PZ i o R.at_ he k idx q p hle hq hp hb)).1 (U q hq)) hw
   have hh:=xq he iV
   subst hh
   refine (sA hS hT I.rel (I.Cn D U R) iV).wpIn (jo iV) ?_
   intro c' w' r1 r2 r3
   exact hK _ _ _ _ _ (I.next D R r2 k (.inl ⟨rfl,he⟩) r1 r3)
  | true =>
   have iV:=p2 hw
   by_cases hk:es[k]?=some i
   ·rw [JQ hk] at iV
    refine (sA hS hT I.rel (I.Cn D U R) iV).wpIn (jo iV) ?_
    intro c' w' r1 r2 r3
    exact hK _ _ _ _ _ (I.next D R r2 (k+1) (.inr ⟨rfl,hk⟩) (by rw [D.uZ k i hk,ph]; exact r1) r3)
   ·have ha:isAlloc o=true:=by
     cases ha:isAlloc o with
     | true=>rfl
     | false=>exact absurd (place he ha) hk
    obtain ⟨idx,J⟩:=List.getElem?_of_mem ((D.mq i).2 ⟨o,R.at_,he⟩)
    have hle:k≤idx:=Nat.le_of_not_lt fun bB=>R.not (I.pre idx i bB J)
    obtain ⟨fv,cs,T,F⟩:=Dz ha iV
    refine ⟨fun _ _=>trivial,?_⟩
    rw [Oper.semAt_eq _ _ _ (jo iV),F.run c a (I.Cn D U R) w]
    exact hK _ _ _ _ _ (I.float D R ha F J hle)
end
end Go.Proofs.YtconhghphklfjaaGreat.Am
