/- ChainNeeds: a part of its proof; conditions: its statement's. -/
import Derived.Test.YtefepnnfphdkpaaGreatB09
namespace Go.Proofs.YtefepnnfphdkpaaGreat.Am
open Go
section
variable {C:bX} {self:Self} {c:Ctx} {w:World}
variable {L:List Oper} {s:St} {st:Nat→St} {vv:Nat→V} {es:List Nat} {Hs:Nat→H}
variable {c₀:Ctx} {w₀:World} {d₀:List Deferred} {S:Nat→Prop} {early:Nat→Option (Nat×FV)} {k i:Nat} {a:Act} {o:Oper}
structure js (L:List Oper)(S:Nat→Prop)(i:Nat)(o:Oper): Prop where
 at_:L[i]?=some o
 not:¬ S i
 F8:∀e∈o.after,dX e=true→S e.on
theorem js.OP (D:fB C self L s st vv es Hs)(I:∀i o,S i→L[i]?=some o→∀e∈o.after,dX e=true→S e.on)(R:js L S i o){j:Nat}
 (h:bit ((nth (ancs L []) i).getD 0) j=true): S j∧j<i :=
 Cd D.back S i o R.at_ (fun k o' _ J hk=>I k o' hk J) R.F8 j h
theorem Ch (D:fB C self L s st vv es Hs)(I:∀i o,S i→L[i]?=some o→∀e∈o.after,dX e=true→S e.on){j q:Nat}{x:Oper}(hj:S j)(hx:L[j]?=some x)
 (h:bit ((nth (ancs L []) j).getD 0) q=true): S q∧q<j :=
 Cd D.back S j x hx (fun k o' _ J hk=>I k o' hk J) (I j x hj hx) q h
theorem js.later (D:fB C self L s st vv es Hs)(I:∀i o,S i→L[i]?=some o→∀e∈o.after,dX e=true→S e.on)(R:js L S i o){j:Nat}{x:Oper}
 (hj:S j)(hx:L[j]?=some x)(J:i<j): iX L o x=true:=by
 rcases D.F5 j x hx i o J R.at_ with h | ⟨h,_⟩
 ·exact absurd (Ch D I hj hx h).1 R.not
 ·exact h
theorem js.before (D:fB C self L s st vv es Hs)(I:∀i o,S i→L[i]?=some o→∀e∈o.after,dX e=true→S e.on)(R:js L S i o){j:Nat}{x:Oper}
 (hx:L[j]?=some x)(J:j<i): S j∨(iX L x o=true∧(isEff C x.op=false∨isEff C o.op=false∨isAlloc o=true)):=by
 rcases D.F5 i o R.at_ j x J hx with h | h
 ·exact .inl (R.OP D I h).1
 ·exact .inr h
theorem eW.EJ (D:fB C self L s st vv es Hs)(I:eW C self L s st vv es Hs c₀ w₀ d₀ S early k c a w)(gA:∀p,es[k]?=some p→¬ S p)(R:js L S i o)
 {t:Tmp}(ht:t∈looks L o): a.tmps.getD t undef=conc c ((st i).env.v t)∧wf c ((st i).env.v t):=by
 have hlen:i<L.length:=(List.getElem?_eq_some_iff.1 R.at_).1
 -- those that write it and have come stand ahead in the text
 have MZ:∀j x,S j→L[j]?=some x→x.dst=some t→j<i:=fun j x hj hx hd=>by
  rcases zG j i with h | h | h
  ·exact h
  ·subst h; exact absurd hj R.not
  ·exact absurd ht ((qF (R.later D I.closed hj hx h)).2 t hd)
 have L1:∀j x,j<i→L[j]?=some x→x.dst=some t→S j:=fun j x bk hx hd=>by
  rcases R.before D I.closed hx bk with h | ⟨h,_⟩
  ·exact h
  ·exact absurd ht ((qF h).1 t hd).1
 rcases I.tmp t with ⟨J,F9,g1,g2,g3,g4,g5⟩ | ⟨g1,g2,g3⟩
 ·have bk:=MZ J F9 g1 g2 g3
  have mI:(st i).env.v t=vv J:=by
   rcases D.BK t i (by omega) with ⟨j,oj,h1,h2,h3,h4,h5⟩ | ⟨h1,_⟩
   ·have e1:=h4 J F9 bk g2 g3
    have e2:=g4 j oj (L1 j oj h1 h2 h3) h2 h3
    have:j=J:=by omega
    subst this; exact h5
   ·exact absurd g3 (h1 J F9 bk g2)
  rcases g5 with ⟨b,e1,_⟩ | ⟨_,e2,e3⟩
  ·exfalso
   obtain ⟨_,idx,f2,f3⟩:=I.pF J b e1
   obtain ⟨On,_,f4,f5,_⟩:=I.late idx J f2 f3 g1
   rw [g2] at f4
   simp at f4
   subst f4
   obtain ⟨q,hq⟩:∃q,es[k]?=some q:=⟨_,aY (by have:=(List.getElem?_eq_some_iff.1 f3).1; omega)⟩
   by_cases L2:q=J
   ·subst L2; exact gA _ hq g1
   ·have Tg:q<J:=by
     have:k≠idx:=fun e=>by subst e; rw [hq] at f3; simp at f3; exact L2 f3
     exact (vE D hq f3).1 (by omega)
    rcases D.H6 J F9 g2 f5 i o R.at_ bk with h | h
    ·exact ((qF h).1 t g3).1 ht
    ·exact gA q hq (R.OP D I.closed (h q (bh hq) Tg)).1
  ·rw [mI]; exact ⟨e2,e3⟩
 ·have mI:(st i).env.v t=s.env.v t:=by
   rcases D.BK t i (by omega) with ⟨j,oj,h1,h2,h3,h4,h5⟩ | ⟨_,h⟩
   ·exact absurd h3 (g1 j oj (L1 j oj h1 h2 h3) h2)
   ·exact h
  rw [mI]; exact ⟨g2,g3⟩
theorem eW.EB (D:fB C self L s st vv es Hs)(I:eW C self L s st vv es Hs c₀ w₀ d₀ S early k c a w)(gA:∀p,es[k]?=some p→¬ S p)(R:js L S i o): xL c (st i).env a o:=by
 intro x hx v J
 cases x with
 | tmp t =>
  simp only [evO,aj] at J
  subst J
  have hl:t∈looks L o:=List.mem_append_left _ (List.mem_filterMap.2 ⟨.tmp t,by simpa using hx,rfl⟩)
  exact I.EJ D gA R hl
 | const x =>
  simp only [evO] at J
  obtain ⟨h1,h2⟩:=oG J c
  exact ⟨h1.symm,h2⟩
 | global g=>simp [evO] at J
 | func f =>
  simp only [evO,aj] at J
  subst J
  exact ⟨by simp [Act.eval,conc,concL],by simp [wf,dS]⟩
theorem eW.wanted (D:fB C self L s st vv es Hs){ops:Array Oper}(hL:ops.toList=L)(I:eW C self L s st vv es Hs c₀ w₀ d₀ S early k c a w)(J:∀p,es[k]?=some p→¬ S p)(R:js L S i o):
  Region.wanted o (yielded ops a.tmps)=wantedV L (st i).env o:=by
 rw [←hL]
 refine xN (c:=c) fun j w d hg hd => ?_
 have hl:d∈looks L o:=by
  refine List.mem_append_right _ ?_
  rw [hg]
  simp only [fh]
  rw [←hL,gU,hd]
  simp
 exact (I.EJ D J R hl).1
theorem eW.EK (D:fB C self L s st vv es Hs)(I:eW C self L s st vv es Hs c₀ w₀ d₀ S early k c a w)(R:js L S i o){c':Ctx}(e:Ext c c'){kG:Nat→Option (Nat×FV)}
 (L3:∀j,j≠i→kG j=early j)(X:Value)
 (hX:(∃b,kG i=some b∧X=b.2.val b.1)∨(kG i=none∧X=conc c' (vv i)∧wf c' (vv i)))(t:Tmp):
  (∃J F9,(S J∨J=i)∧L[J]?=some F9∧F9.dst=some t∧(∀j o',(S j∨j=i)→L[j]?=some o'→o'.dst=some t→j≤J) ∧
    ((∃b,kG J=some b∧(a.put o.dst X).tmps.getD t undef=b.2.val b.1)∨(kG J=none∧(a.put o.dst X).tmps.getD t undef=conc c' (vv J)∧wf c' (vv J)))) ∨
   ((∀j o',(S j∨j=i)→L[j]?=some o'→o'.dst≠some t)∧(a.put o.dst X).tmps.getD t undef=conc c' (s.env.v t)∧wf c' (s.env.v t)):=by
 have hlen:i<L.length:=(List.getElem?_eq_some_iff.1 R.at_).1
 by_cases hd:o.dst=some t
 ·left
  refine ⟨i,o,.inr rfl,R.at_,hd,fun j x hj hx L4 => ?_,?_⟩
  ·rcases hj with hj | hj
   ·rcases gZ i j with h | h
    ·exact absurd L4 ((qF (R.later D I.closed hj hx h)).1 t hd).2
    ·exact h
   ·omega
  ·obtain ⟨h,p1,_,_⟩:=D.step i o R.at_
   obtain ⟨_,_,p3,_⟩:=me p1
   have er:t<a.tmps.size:=by rw [I.size,←D.au i (by omega)]; exact p3 t hd
   have B4:(a.put o.dst X).tmps.getD t undef=X:=by rw [hd]; simp [Act.put,Array.getD,er]
   rw [B4]
   exact hX
 ·have B4:(a.put o.dst X).tmps.getD t undef=a.tmps.getD t undef:=by
   cases ho:o.dst with
   | none=>rfl
   | some d =>
    have:d≠t:=fun e=>hd (by rw [ho,e])
    simp [Act.put,jv,ve this]
  rw [B4]
  rcases I.tmp t with ⟨J,F9,g1,g2,g3,g4,g5⟩ | ⟨g1,g2,g3⟩
  ·left
   have dg:J≠i:=fun e=>by subst e; exact R.not g1
   refine ⟨J,F9,.inl g1,g2,g3,fun j x hj hx L4 => ?_,?_⟩
   ·rcases hj with hj | hj
    ·exact g4 j x hj hx L4
    ·subst hj; rw [R.at_] at hx; simp at hx; subst hx; exact absurd L4 hd
   ·rw [L3 J dg]
    rcases g5 with h | ⟨e1,e2,e3⟩
    ·exact .inl h
    ·exact .inr ⟨e1,by rw [e2,(bV e _ e3).1],(bV e _ e3).2⟩
  ·right
   refine ⟨fun j x hj hx => ?_,by rw [g2,(bV e _ g3).1],(bV e _ g3).2⟩
   rcases hj with hj | hj
   ·exact g1 j x hj hx
   ·subst hj; rw [R.at_] at hx; simp at hx; subst hx; exact hd
theorem eW.xV (I:eW C self L s st vv es Hs c₀ w₀ d₀ S early k c a w)(R:js L S i o):
  ∀j x,(S j∨j=i)→L[j]?=some x→∀e∈x.after,dX e=true→(S e.on∨e.on=i):=by
 intro j x J hx e he hb
 rcases J with J | J
 ·exact .inl (I.closed j x J hx e he hb)
 ·subst J; rw [R.at_] at hx; simp at hx; subst hx; exact .inl (R.F8 e he hb)
theorem Ci (a:Act)(d:Option Tmp)(X:Value): (a.put d X).tmps.size=a.tmps.size:=by cases d <;> simp [Act.put]
theorem put_defers (a:Act)(d:Option Tmp)(X:Value): (a.put d X).defers=a.defers:=by cases d <;> rfl
theorem eW.next (D:fB C self L s st vv es Hs)(I:eW C self L s st vv es Hs c₀ w₀ d₀ S early k c a w)(R:js L S i o){c':Ctx}{w':World}(X:bU c w c' w')(k':Nat)
 (J:(k'=k∧isEff C o.op=false)∨(k'=k+1∧es[k]?=some i))(oo:Rel c' (Hs k') w')(hv:wf c' (vv i)):
  eW C self L s st vv es Hs c₀ w₀ d₀ (fun j=>S j∨j=i) early k' c' (a.put o.dst (conc c' (vv i))) w':=by
 have UD:early i=none:=by
  cases h:early i with
  | none=>rfl
  | some b=>exact absurd (I.pF i b h).1 R.not
 refine ⟨I.xV R,fun idx p bk hp => ?_,?_,fun idx p hle hp tB => ?_,fun p b hp => ?_,oo,by rw [Ci]; exact I.size,
  fun t=>I.EK D R X.ext (fun j _=>rfl) _ (.inr ⟨UD,rfl,hv⟩) t,fun p b hp => ?_,I.distinct,I.EH.trans X,by rw [put_defers]; exact I.defers⟩
 ·rcases J with ⟨rfl,_⟩ | ⟨rfl,J⟩
  ·exact .inl (I.pre idx p bk hp)
  ·by_cases h:idx=k
   ·subst h; rw [J] at hp; simp at hp; exact .inr hp.symm
   ·exact .inl (I.pre idx p (by omega) hp)
 ·rcases J with ⟨rfl,_⟩ | ⟨rfl,J⟩
  ·exact I.Cg
  ·have:=(List.getElem?_eq_some_iff.1 J).1; omega
 ·rcases tB with tB | tB
  ·refine I.late idx p ?_ hp tB
   rcases J with ⟨rfl,_⟩ | ⟨rfl,J⟩ <;> omega
  ·subst tB
   exfalso
   rcases J with ⟨rfl,J⟩ | ⟨rfl,J⟩
   ·obtain ⟨o',h1,h2⟩:=(D.nT p).1 (bh hp)
    rw [R.at_] at h1; simp at h1; subst h1; rw [J] at h2; cases h2
   ·have:=H9 D hp J; omega
 ·obtain ⟨g1,idx,g2,g3⟩:=I.pF p b hp
  refine ⟨.inl g1,idx,?_,g3⟩
  rcases J with ⟨rfl,_⟩ | ⟨rfl,J⟩
  ·exact g2
  ·rcases rI g2 with e | e
   ·subst e; rw [J] at g3; simp at g3; subst g3; exact absurd g1 R.not
   ·exact e
 ·obtain ⟨g1,g2,g3,o',T,cs,g4,g5,g7⟩:=I.blocks p b hp
  refine ⟨g1,gi g2 X.size,fun id tw he => ?_,o',T,cs,g4,g5,by rw [X.kn b.1 g2 (fun id hi he=>absurd he (g3 id hi)),g5.same c _]; exact g7⟩
  by_cases OQ:id<c.N
  ·exact g3 id OQ (by rw [←X.ext.ρ id OQ]; exact he)
  ·rcases X.fresh id (by omega) tw with h | ⟨j,hj,h,_⟩
   ·omega
   ·exact g3 j hj (by rw [h]; exact he)
theorem eW.float (D:fB C self L s st vv es Hs)(I:eW C self L s st vv es Hs c₀ w₀ d₀ S early k c a w)(R:js L S i o)(H8:isAlloc o=true){fv:FV}{cs:List V}{T:TypeId}
 (F:Ag C self (st i).env o fv cs T){idx:Nat}(Th:es[idx]?=some i)(hle:k≤idx):
  eW C self L s st vv es Hs c₀ w₀ d₀ (fun j=>S j∨j=i) (fun j=>if j=i then some (w.heap.size,fv) else early j) k c (a.put o.dst (fv.val w.heap.size))
   (w.alloc (.cells (cs.map (conc c)).toArray T (0,0))):=by
 obtain ⟨j1,j2⟩:=I.rel.Tc (.cells (cs.map (conc c)).toArray T (0,0))
 have nS:∀j,S j→j≠i:=fun j hj e=>by subst e; exact R.not hj
 refine ⟨I.xV R,fun idx p bk J=>.inl (I.pre idx p bk J),I.Cg,fun Ti p Om J tB => ?_,fun p b J => ?_,j1,by rw [Ci]; exact I.size,
  fun t=>I.EK D R (Ext.refl c) (fun j hj=>by simp [hj]) _ (.inl ⟨(w.heap.size,fv),by simp,rfl⟩) t,fun p b J => ?_,fun p q b b' J hq he => ?_,I.EH.trans j2,by rw [put_defers]; exact I.defers⟩
 ·rcases tB with tB | tB
  ·obtain ⟨o',b,g1,g2,g3⟩:=I.late Ti p Om J tB
   exact ⟨o',b,g1,g2,by simp [nS p tB,g3]⟩
  ·subst tB
   exact ⟨o,_,R.at_,H8,by simp; rfl⟩
 ·by_cases h:p=i
  ·subst h; exact ⟨.inr rfl,idx,hle,Th⟩
  ·simp [h] at J
   obtain ⟨g1,g2⟩:=I.pF p b J
   exact ⟨.inl g1,g2⟩
 ·by_cases h:p=i
  ·subst h
   simp at J
   subst J
   refine ⟨I.EH.size,by simp,fun id tw=>gY (I.rel.iZ id tw),o,T,cs,R.at_,F,by rw [eZ]; simp⟩
  ·simp [h] at J
   obtain ⟨g1,g2,g3,o',T',cs',g4,g5,g7⟩:=I.blocks p b J
   exact ⟨g1,by simp; omega,g3,o',T',cs',g4,g5,by rw [eZ,ai (gY g2)]; exact g7⟩
 ·by_cases h1:p=i <;> by_cases h2:q=i
  ·omega
  ·simp [h1] at J
   simp [h2] at hq
   have:=(I.blocks q b' hq).2.1
   rw [←J] at he
   simp at he
   omega
  ·simp [h1] at J
   simp [h2] at hq
   have:=(I.blocks p b J).2.1
   rw [←hq] at he
   simp at he
   omega
  ·simp [h1] at J
   simp [h2] at hq
   exact I.distinct p q b b' J hq he
theorem eW.OR (hS:g9 C.P self)(hT:eU C){r:Option Nat}{ops:Array Oper}(hL:ops.toList=L){Q:Exit→Act→World→Prop}(D:fB C self L s st vv es Hs)
 (I:eW C self L s st vv es Hs c₀ w₀ d₀ S early k c a w)(gA:∀p,es[k]?=some p→¬ S p)(R:js L S i o){K:Act→World→Prop}
 (hK:∀kG k' c' a' w',eW C self L s st vv es Hs c₀ w₀ d₀ (fun j=>S j∨j=i) kG k' c' a' w'→K a' w'): wpOpIn (Fr r) 0 C.P ops Q i K a w:=by
 have hlen:i<L.length:=(List.getElem?_eq_some_iff.1 R.at_).1
 have UE:ops[i]?=some o:=by rw [←gU,hL]; exact R.at_
 obtain ⟨h,p1,p2,p3⟩:=D.step i o R.at_
 have ph:=(me p1).1
 -- an effect that is no new variable comes in its place
 have place:isEff C o.op=true→isAlloc o=false→es[k]?=some i:=by
  intro he ha
  obtain ⟨idx,J⟩:=vh ((D.nT i).2 ⟨o,R.at_,he⟩)
  have h1:¬ idx<k:=fun bk=>R.not (I.pre idx i bk J)
  by_cases h2:idx=k
  ·subst h2; exact J
  ·exfalso
   obtain ⟨q,hq⟩:∃q,es[k]?=some q:=⟨_,aY (by have:=(List.getElem?_eq_some_iff.1 J).1; omega)⟩
   obtain ⟨oq,g1,g2⟩:=(D.nT q).1 (bh hq)
   have L2:q<i:=(vE D hq J).1 (by omega)
   rcases R.before D I.closed g1 L2 with hb | ⟨_,hb⟩
   ·exact gA q hq hb
   ·rw [g2,he,ha] at hb; simp at hb
 have L5:es[k]?=some i→(st i).h=Hs k:=fun hk=>D.Cf i k (by omega) I.Cg (fun idx q bk hq=>(vE D hq hk).1 bk) (fun idx q hle hq=>by
  rcases rI hle with e | e
  ·subst e; rw [hk] at hq; simp at hq; omega
  ·exact Nat.le_of_lt ((vE D hk hq).1 e))
 unfold wpOpIn
 rw [UE]
 simp only [I.wanted D hL gA R]
 cases hw:wantedV L (st i).env o with
 | false =>
  simp only [dI,bC]
  refine ⟨fun _ _=>trivial,?_⟩
  obtain ⟨hv,hh⟩:=p3 hw
  have OS:wf c (vv i):=by rw [hv]; simp [bE,wf,dS]
  have hX:conc c (vv i)=undef:=by rw [hv,mB]
  cases he:isEff C o.op with
  | false =>
   have:=I.next D R (bU.refl c w) k (.inl ⟨rfl,he⟩) I.rel OS
   rw [hX] at this
   exact hK _ _ _ _ _ this
  | true =>
   have ha:isAlloc o=false:=by
    cases ha:isAlloc o with
    | false=>rfl
    | true=>obtain ⟨_,hg,_⟩:=sK ha; simp [wantedV,hg] at hw
   have hk:=place he ha
   have oo:Rel c (Hs (k+1)) w:=by rw [D.xR k i hk,ph,hh,L5 hk]; exact I.rel
   have:=I.next D R (bU.refl c w) (k+1) (.inr ⟨rfl,hk⟩) oo OS
   rw [hX] at this
   exact hK _ _ _ _ _ this
 | true =>
  simp only [bz]
  cases he:isEff C o.op with
  | false =>
   obtain ⟨h',jE⟩:=D.same i o R.at_ he k I.Cg (fun idx p bk hp=>by
    cases hb:bit ((nth (ancs L []) p).getD 0) i with
    | false=>rfl
    | true =>
     obtain ⟨x,hx,_⟩:=(D.nT p).1 (bh hp)
     exact absurd (Ch D I.closed (I.pre idx p bk hp) hx hb).1 R.not) (fun idx p hle hp=>by
    cases hb:bit ((nth (ancs L []) i).getD 0) p with
    | false=>rfl
    | true =>
     obtain ⟨q,hq⟩:∃q,es[k]?=some q:=⟨_,aY (by have:=(List.getElem?_eq_some_iff.1 hp).1; omega)⟩
     exact absurd (R.OP D I.closed (D.RT i o R.at_ he k idx q p hle hq hp hb)).1 (gA q hq)) hw
   have hh:=AY he jE
   subst hh
   refine (vD hS hT I.rel (I.EB D gA R) jE).wpIn (kF jE) ?_
   intro c' w' r1 r2 r3
   exact hK _ _ _ _ _ (I.next D R r2 k (.inl ⟨rfl,he⟩) r1 r3)
  | true =>
   have jE:=p2 hw
   by_cases hk:es[k]?=some i
   ·rw [L5 hk] at jE
    refine (vD hS hT I.rel (I.EB D gA R) jE).wpIn (kF jE) ?_
    intro c' w' r1 r2 r3
    exact hK _ _ _ _ _ (I.next D R r2 (k+1) (.inr ⟨rfl,hk⟩) (by rw [D.xR k i hk,ph]; exact r1) r3)
   ·have ha:isAlloc o=true:=by
     cases ha:isAlloc o with
     | true=>rfl
     | false=>exact absurd (place he ha) hk
    obtain ⟨idx,J⟩:=vh ((D.nT i).2 ⟨o,R.at_,he⟩)
    have hle:k≤idx:=nf fun bk=>R.not (I.pre idx i bk J)
    obtain ⟨fv,cs,T,F⟩:=F7 ha jE
    refine ⟨fun _ _=>trivial,?_⟩
    rw [Oper.semAt_eq _ _ _ (kF jE),F.run c a (I.EB D gA R) w]
    exact hK _ _ _ _ _ (I.float D R ha F J hle)
end
end Go.Proofs.YtefepnnfphdkpaaGreat.Am
namespace Go.Proofs.YtefepnnfphdkpaaGreat.Am
open Go
theorem Km {a b:IntKind}(h:ikBeq a b=true): a=b:=by cases a <;> cases b <;> first | rfl | (simp [ikBeq] at h)
theorem qG {a b:Int}(h:intBeq a b=true): a=b:=by
 cases a <;> cases b <;> simp [intBeq] at h <;> rw [h]
theorem xW : ∀ {a b:List Nat},natsBeq a b=true→a=b
 | [],[],_=>rfl
 | [],_::_,h=>by simp [natsBeq] at h
 | _::_,[],h=>by simp [natsBeq] at h
 | x::a,y::b,h=>by
  simp only [natsBeq] at h
  cases I:Nat.beq x y with
  | false=>rw [I] at h; cases h
  | true=>rw [I,af] at h; rw [beq_iff.1 I,xW h]
theorem H_ {a b:Cap}(h:a.beq b=true): a=b:=by
 cases a <;> cases b <;> simp [Cap.beq] at h
 ·rw [h]
 ·rw [h.1,h.2]
mutual
theorem Ah : ∀(a b:V),V.beq a b=true→a=b
 | .bool a,b,h=>by cases b <;> simp [V.beq] at h; rw [h]
 | .int j a,b,h=>by
  cases b <;> simp [V.beq] at h
  rw [Km h.1,qG h.2]
 | .str a,b,h=>by cases b <;> simp [V.beq] at h; rw [xW h]
 | .cN,b,h=>by cases b <;> simp [V.beq] at h; rfl
 | .ptr x y,b,h=>by cases b <;> simp [V.beq] at h; rw [h.1,h.2]
 | .bu,b,h=>by cases b <;> simp [V.beq] at h; rfl
 | .sl x y z u,b,h=>by
  cases b <;> simp [V.beq] at h
  rw [h.1.1.1,h.1.1.2,h.1.2,H_ h.2]
 | .jh,b,h=>by cases b <;> simp [V.beq] at h; rfl
 | .map x,b,h=>by cases b <;> simp [V.beq] at h; rw [h]
 | .fn f x y,b,h=>by
  cases f with
  | func k=>cases b with
   | fn g u v=>cases g with
    | func j =>
     simp [V.beq] at h
     rw [h.1.1,pX x u h.1.2,pX y v h.2]
    | _=>simp [V.beq] at h
   | _=>simp [V.beq] at h
  | _=>cases b <;> simp [V.beq] at h
 | .AT,b,h=>by cases b <;> simp [V.beq] at h; rfl
 | .iface t v,b,h=>by
  cases b <;> simp [V.beq] at h
  rw [h.1,Ah v _ h.2]
 | .lB,b,h=>by cases b <;> simp [V.beq] at h; rfl
 | .agg l,b,h=>by cases b <;> simp [V.beq] at h; rw [pX l _ h]
 | .aX l,b,h=>by cases b <;> simp [V.beq] at h; rw [pX l _ h]
 | .tN _,b,h=>by cases b <;> simp [V.beq] at h
 | .sle a,b,h=>by cases b <;> simp [V.beq] at h; rw [h]
 | .pO k x,b,h=>by
  cases b with
  | pO j y =>
   simp [V.beq] at h
   rw [h.2]
   cases k <;> cases j <;> first | rfl | (simp [fkBeq] at h)
  | _=>simp [V.beq] at h
theorem pX : ∀(a b:List V),V.beqL a b=true→a=b
 | [],b,h=>by cases b <;> simp [V.beqL] at h; rfl
 | x::a,b,h=>by
  cases b with
  | nil=>simp [V.beqL] at h
  | cons y b =>
   simp only [V.beqL] at h
   cases I:V.beq x y with
   | false=>rw [I] at h; cases h
   | true=>rw [I,af] at h; rw [Ah x y I,pX a b h]
end
theorem Ai {m:Nat}: ∀(es:List Nat),(∀idx p,idx<fE m es→es[idx]?=some p→bit m p=true)∧fE m es≤es.length:=by
 intro es
 induction es with
 | nil=>exact ⟨fun idx p _ h=>by simp at h,by simp [fE]⟩
 | cons q es J =>
  simp only [fE]
  cases hq:bit m q with
  | true =>
   rw [af]
   refine ⟨fun idx p h1 I => ?_,by have:=J.2; simp; exact this⟩
   cases idx with
   | zero=>simp at I; subst I; exact hq
   | succ idx=>exact J.1 idx p (by omega) (by simpa using I)
  | false=>rw [ay]; exact ⟨fun idx p h=>by omega,by simp⟩
theorem Kn {m:Nat}: ∀(es:List Nat),iY m es=true→∀(J I p q:Nat),J≤I→es[J]?=some p→es[I]?=some q→bit m q=true→bit m p=true:=by
 intro es
 induction es with
 | nil=>intro _ J I p q _ h; simp at h
 | cons x es ih =>
  intro h J I p q hle h1 h2 hb
  simp only [iY] at h
  cases hx:bit m x with
  | true =>
   rw [hx,af] at h
   cases J with
   | zero=>simp at h1; subst h1; exact hx
   | succ J =>
    cases I with
    | zero=>omega
    | succ I=>exact ih h J I p q (by omega) (by simpa using h1) (by simpa using h2) hb
  | false =>
   rw [hx,ay] at h
   cases I with
   | zero =>
    simp at h2
    subst h2
    rw [hx] at hb; cases hb
   | succ I =>
    have:=List.all_eq_true.1 h q (bh (by simpa using h2))
    rw [hb] at this; cases this
theorem EM {as:List Nat}{i:Nat}: ∀(es:List Nat),ig as i es≤es.length∧∀p,es[ig as i es]?=some p→bit ((nth as p).getD 0) i=true:=by
 intro es
 induction es with
 | nil=>exact ⟨by simp [ig],fun p h=>by simp at h⟩
 | cons q es I =>
  simp only [ig]
  cases J:bit ((nth as q).getD 0) i with
  | true=>rw [af]; exact ⟨by simp,fun p h=>by simp at h; subst h; exact J⟩
  | false=>rw [ay]; exact ⟨by have:=I.1; simp; exact this,fun p h=>I.2 p (by simpa using h)⟩
section
variable {C:bX} {self:Self}
theorem Ia {L:List Oper}{o:Oper}{x:Env×V}: ∀(l:List H),sameIn C self L o x l=true→wantedV L x.1 o=true→∀h∈l,∃h',evOp C self x.1 h o=some (x.2,h'):=by
 intro l
 induction l with
 | nil=>intro _ _ h hm; simp at hm
 | cons y l J =>
  intro hs hw h hm
  simp only [sameIn,hw,af] at hs
  cases he:evOp C self x.1 y o with
  | none=>simp [he] at hs
  | some r =>
   obtain ⟨v,h'⟩:=r
   simp only [he] at hs
   cases I:v.beq x.2 with
   | false=>rw [I] at hs; cases hs
   | true =>
    rw [I,af] at hs
    rcases List.mem_cons.1 hm with rfl | hm
    ·exact ⟨h',by rw [he,Ah _ _ I]⟩
    ·exact J hs hw h hm
theorem A0 {L:List Oper}{as es:List Nat}{hs:List H}: ∀(l:List Oper) (tr:List (Env×V)) (k:Nat),stayOk C self L as es hs l tr k=true →
  ∀j o x,l[j]?=some o→tr[j]?=some x→isEff C o.op=false →
   iY ((nth as (k+j)).getD 0) es=true∧(fE ((nth as (k+j)).getD 0) es=ig as (k+j) es ∨
    sameIn C self L o x ((hs.drop (fE ((nth as (k+j)).getD 0) es)).take (ig as (k+j) es+1-fE ((nth as (k+j)).getD 0) es))=true):=by
 intro l
 induction l with
 | nil=>intro tr k _ j o x h; simp at h
 | cons y l ih =>
  intro tr k h j o x ho hx he
  cases tr with
  | nil=>simp [stayOk] at h
  | cons z tr =>
   simp only [stayOk] at h
   have I:stayOk C self L as es hs l tr (k+1)=true:=by
    cases h1:isEff C y.op with
    | true=>rw [h1,af] at h; exact h
    | false =>
     rw [h1,ay] at h
     cases J:(iY ((nth as k).getD 0) es&&Nat.beq (fE ((nth as k).getD 0) es) (ig as k es)) with
     | true=>rw [J,af] at h; exact h
     | false =>
      rw [J,ay] at h
      cases h3:(iY ((nth as k).getD 0) es&&sameIn C self L y z ((hs.drop (fE ((nth as k).getD 0) es)).take (ig as k es+1-fE ((nth as k).getD 0) es))) with
      | true=>rw [h3,af] at h; exact h
      | false=>rw [h3] at h; cases h
   cases j with
   | zero =>
    simp at ho hx
    subst ho hx
    rw [he,ay] at h
    simp only [iC]
    cases J:(iY ((nth as k).getD 0) es&&Nat.beq (fE ((nth as k).getD 0) es) (ig as k es)) with
    | true =>
     rw [aG,beq_iff] at J
     exact ⟨J.1,.inl J.2⟩
    | false =>
     rw [J,ay] at h
     cases h3:(iY ((nth as k).getD 0) es&&sameIn C self L y z ((hs.drop (fE ((nth as k).getD 0) es)).take (ig as k es+1-fE ((nth as k).getD 0) es))) with
     | true =>
      rw [aG] at h3
      exact ⟨h3.1,.inr h3.2⟩
     | false=>rw [h3] at h; cases h
   | succ j =>
    have:=ih tr (k+1) I j o x (by simpa using ho) (by simpa using hx) he
    rwa [show k+1+j=k+(j+1) from by omega] at this
theorem Ko {L:List Oper}{s z:St}(hr:jC C self L s=some z):
    ∃st vv Hs,fB C self L s st vv (cz C L 0) Hs∧st L.length=z∧L.all (fun o => !BW o.op)=true:=by
  unfold jC at hr
  cases jF:nm C L with
  | false=>rw [jF] at hr; cases hr
  | true =>
    rw [jF,af] at hr
    cases OT:trace C self L L s [s.h] with
    | none=>simp [OT] at hr
    | some q =>
      obtain ⟨tr,hs,z'⟩:=q
      simp only [OT] at hr
      cases BL:stayOk C self L (ancs L []) (cz C L 0) hs L tr 0 with
      | false=>rw [BL] at hr; cases hr
      | true =>
        rw [BL,af] at hr
        simp only [aj] at hr
        subst hr
        simp only [nm,aG] at jF
        obtain ⟨⟨⟨s1,s2⟩,s3⟩,s4⟩:=jF
        obtain ⟨st,t1,t2,t3,t4,t5⟩:=Kl L 0 s [s.h] tr hs z' OT
        simp only [dB] at t2 t5
        have L6:∀i o,L[i]?=some o→∀e∈o.after,dX e=true→e.on<i:=fun i o ho e he hb=>by
          have:=Ce L 0 s1 i o ho e he hb; omega
        have OU:∀i o,L[i]?=some o→∀j,bit ((nth (ancs L []) i).getD 0) j=true→j<i:=fun i o ho j hj =>
          (Cd L6 (fun _=>True) i o ho (fun _ _ _ _ _ _ _ _=>trivial) (fun _ _ _=>trivial) j hj).2
        have I:=(ug (C:=C) L 0).1
        have EG:∀p,p∈cz C L 0↔∃o,L[p]?=some o∧isEff C o.op=true:=fun p=>by
          rw [HY]
          constructor
          · rintro ⟨i,o,rfl,h1,h2⟩; exact ⟨o,by simpa using h1,h2⟩
          · rintro ⟨o,h1,h2⟩; exact ⟨p,o,by omega,h1,h2⟩
        have RV:∀k p,(cz C L 0)[k]?=some p→hs[k+1]?=some (st (p+1)).h:=fun k p J=>by
          rw [t4]; simp [J]
        have RW:hs[0]?=some s.h:=by rw [t4]; simp
        have Wh:hs.length=(cz C L 0).length+1:=by rw [t4]; simp
        have oH:∀i o,L[i]?=some o→∃h,(st i).put o.dst (((tr[i]?).map (·.2)).getD bE) h=some (st (i+1)) ∧
            (wantedV L (st i).env o=true→evOp C self (st i).env (st i).h o=some (((tr[i]?).map (·.2)).getD bE,h))∧(wantedV L (st i).env o=false→((tr[i]?).map (·.2)).getD bE=bE∧h=(st i).h):=fun i o ho=>by
          obtain ⟨v,h,e1,e2,e3,e4⟩:=t5 i o ho
          refine ⟨h,?_,?_,?_⟩ <;> rw [e1] <;> simp only [gV,dV]
          · exact e2
          · exact e3
          · exact e4
        -- all but 'same'; it is wanted for 'heapAt'
        have Wn:(∀i o,L[i]?=some o→isEff C o.op=false→∀k,k≤(cz C L 0).length→(∀idx p,idx<k→(cz C L 0)[idx]?=some p→bit ((nth (ancs L []) p).getD 0) i=false) →
              (∀idx p,k≤idx→(cz C L 0)[idx]?=some p→bit ((nth (ancs L []) i).getD 0) p=false) →
              wantedV L (st i).env o=true→∃h',evOp C self (st i).env ((hs[k]?).getD s.h) o=some (((tr[i]?).map (·.2)).getD bE,h')) →
            fB C self L s st (fun i=>((tr[i]?).map (·.2)).getD bE) (cz C L 0) (fun k=>(hs[k]?).getD s.h):=fun FW =>
          { back:=L6
            F5:=fun j o ho i x hi hx=>by
              have:=F3 L 0 s2 j o ho i x (by omega) hx
              simpa using this
            H6:=fun i o ho ha j u hu bk=>by
              rcases DT L 0 s3 i o ho ha j u hu (by omega) with h | h
              · exact .inl h
              · right
                intro p J WU
                exact HZ I h p J (by omega)
            nT:=EG
            sorted:=I
            start:=t1
            step:=oH
            F6:=by rw [RW]; rfl
            xR:=fun k p J=>by rw [RV k p J]; rfl
            RT:=fun i o ho he=>by
              obtain ⟨v,h,e1,_⟩:=t5 i o ho
              have:=(A0 L tr 0 BL i o _ ho e1 he).1
              simp only [dB] at this
              exact Kn _ this
            same:=FW }
        refine ⟨st,_,_,Wn ?_,t2,s4⟩
        intro i o ho he k hk h1 h2 hw
        obtain ⟨v,h,e1,e2,e3,e4⟩:=t5 i o ho
        obtain ⟨g1,g2⟩:=A0 L tr 0 BL i o _ ho e1 he
        simp only [dB] at g1 g2
        have Tj:fE ((nth (ancs L []) i).getD 0) (cz C L 0)≤k:=nf fun bk=>by
          obtain ⟨p,J⟩:∃p,(cz C L 0)[k]?=some p:=⟨_,aY (by have:=(Ai (m:=(nth (ancs L []) i).getD 0) (cz C L 0)).2; omega)⟩
          have:=(Ai (cz C L 0)).1 k p bk J
          rw [h2 k p (aD _) J] at this
          cases this
        have Wo:k≤ig (ancs L []) i (cz C L 0):=nf fun bk=>by
          obtain ⟨p,J⟩:∃p,(cz C L 0)[ig (ancs L []) i (cz C L 0)]?=some p:=⟨_,aY (by omega)⟩
          have:=(EM (as:=ancs L []) (i:=i) (cz C L 0)).2 p J
          rw [h1 _ p bk J] at this
          cases this
        have Kf:((tr[i]?).map (·.2)).getD bE=v:=by rw [e1]; rfl
        rw [Kf]
        rcases g2 with g2 | g2
        · -- its place is known
          have B0:(st i).h=(hs[k]?).getD s.h:=by
            have wj:k=ig (ancs L []) i (cz C L 0):=by omega
            have bk:∀idx p,idx<k→(cz C L 0)[idx]?=some p→p<i:=fun idx p bk J=>by
              have:=(Ai (m:=(nth (ancs L []) i).getD 0) (cz C L 0)).1 idx p (by omega) J
              exact OU i o ho p this
            have RX:∀idx p,k≤idx→(cz C L 0)[idx]?=some p→i≤p:=fun idx p hle J=>by
              obtain ⟨q,hq⟩:∃q,(cz C L 0)[k]?=some q:=⟨_,aY (by have:=(List.getElem?_eq_some_iff.1 J).1; omega)⟩
              have hb:=(EM (as:=ancs L []) (i:=i) (cz C L 0)).2 q (by rw [←wj]; exact hq)
              obtain ⟨x,hx,_⟩:=(EG q).1 (bh hq)
              have WV:=OU q x hx i hb
              rcases rI hle with e | e
              · subst e; rw [hq] at J; simp at J; omega
              · obtain ⟨a1,b1⟩:=List.getElem?_eq_some_iff.1 hq
                obtain ⟨a2,b2⟩:=List.getElem?_eq_some_iff.1 J
                have:=(List.pairwise_iff_getElem.1 I) k idx a1 a2 e
                omega
            exact xS (Hs:=fun k=>(hs[k]?).getD s.h) oH (fun p=>EG p) I t1 (by rw [RW]; rfl) (fun k p J=>by rw [RV k p J]; rfl) i k (by have:=(List.getElem?_eq_some_iff.1 ho).1; omega) hk bk RX
          rw [←B0]
          exact ⟨h,e3 hw⟩
        · have hm:(hs[k]?).getD s.h∈(hs.drop (fE ((nth (ancs L []) i).getD 0) (cz C L 0))).take (ig (ancs L []) i (cz C L 0)+1-fE ((nth (ancs L []) i).getD 0) (cz C L 0)):=by
            have Tk:k<hs.length:=by omega
            refine bh (i:=k-fE ((nth (ancs L []) i).getD 0) (cz C L 0)) ?_
            rw [jx,ax (by omega),jy,Nat.add_sub_cancel' Tj,aY Tk]
            simp
          exact Ia _ g2 hw _ hm
theorem M3 {L:List Oper}{S:Nat→Prop}(J:∀i o,L[i]?=some o→∀e∈o.after,dX e=true→e.on<i)(hn:∀i o,¬ js L S i o): ∀i,i<L.length→S i:=by
 intro i
 induction i using Nat.strongRecOn with
 | _ i ih =>
  intro hi
  refine Classical.byContradiction fun hS => ?_
  refine hn i L[i] ⟨aY hi,hS,fun e he I => ?_⟩
  have:=J i L[i] (aY hi) e he I
  exact ih e.on this (by omega)
theorem eW.done {L:List Oper}{s:St}{st:Nat→St}{vv:Nat→V}{es:List Nat}{Hs:Nat→H}{c₀ c:Ctx}{w₀ w:World}{d₀:List Deferred}{S:Nat→Prop}{early:Nat→Option (Nat×FV)}{k:Nat}{a:Act}
 (D:fB C self L s st vv es Hs)(I:eW C self L s st vv es Hs c₀ w₀ d₀ S early k c a w)(gA:∀p,es[k]?=some p→¬ S p)(J:∀i,i<L.length→S i):
  Rel c (st L.length).h w∧cU c (st L.length).env (st L.length).au a:=by
 have bk:∀p∈es,p<L.length:=fun p hp=>by
  obtain ⟨o,ho,_⟩:=(D.nT p).1 hp
  exact (List.getElem?_eq_some_iff.1 ho).1
 have hk:k=es.length:=by
  refine Nat.le_antisymm I.Cg (nf fun h => ?_)
  exact gA _ (aY h) (J _ (bk _ (rN h)))
 have OV:∀p,early p=none:=fun p=>by
  cases h:early p with
  | none=>rfl
  | some b =>
   obtain ⟨_,idx,h1,h2⟩:=I.pF p b h
   have:=(List.getElem?_eq_some_iff.1 h2).1
   omega
 refine ⟨?_,?_⟩
 ·rw [D.Cf L.length k (aD _) I.Cg (fun idx p _ hp=>bk p (bh hp)) (fun idx p hle hp=>by have:=(List.getElem?_eq_some_iff.1 hp).1; omega)]
  exact I.rel
 ·have hv:∀t,a.tmps.getD t undef=conc c ((st L.length).env.v t)∧wf c ((st L.length).env.v t):=fun t=>by
   rcases I.tmp t with ⟨i,o,g1,g2,g3,g4,g5⟩ | ⟨g1,g2,g3⟩
   ·have:(st L.length).env.v t=vv i:=by
     rcases D.BK t L.length (aD _) with ⟨j,oj,h1,h2,h3,h4,h5⟩ | ⟨h1,_⟩
     ·have e1:=h4 i o (List.getElem?_eq_some_iff.1 g2).1 g2 g3
      have e2:=g4 j oj (J j h1) h2 h3
      have:j=i:=by omega
      subst this; exact h5
     ·exact absurd g3 (h1 i o (List.getElem?_eq_some_iff.1 g2).1 g2)
    rcases g5 with ⟨b,e1,_⟩ | ⟨_,e2,e3⟩
    ·rw [OV i] at e1; cases e1
    ·rw [this]; exact ⟨e2,e3⟩
   ·have:(st L.length).env.v t=s.env.v t:=by
     rcases D.BK t L.length (aD _) with ⟨j,oj,h1,h2,h3,h4,h5⟩ | ⟨_,h⟩
     ·exact absurd h3 (g1 j oj (J j h1) h2)
     ·exact h
    rw [this]; exact ⟨g2,g3⟩
  exact ⟨by rw [I.size,D.au L.length (aD _)],fun t=>(hv t).1,fun t=>(hv t).2⟩
theorem eW.congr {L:List Oper}{s:St}{st:Nat→St}{vv:Nat→V}{es:List Nat}{Hs:Nat→H}{c₀ c:Ctx}{w₀ w:World}{d₀:List Deferred}{S S':Nat→Prop}{early:Nat→Option (Nat×FV)}{k:Nat}{a:Act}
 (I:eW C self L s st vv es Hs c₀ w₀ d₀ S early k c a w)(h:∀j,S j↔S' j): eW C self L s st vv es Hs c₀ w₀ d₀ S' early k c a w:=by
 have:S=S':=funext fun j=>propext (h j)
 rw [←this]; exact I
theorem Kp (hS:g9 C.P self)(hT:eU C){r:Option Nat}{ops:Array Oper}{L:List Oper}(hL:ops.toList=L){Q:Exit→Act→World→Prop}{s:St}{st:Nat→St}{vv:Nat→V}{es:List Nat}{Hs:Nat→H}
 {c₀:Ctx}{w₀:World}{d₀:List Deferred}(D:fB C self L s st vv es Hs)
 (hQ:∀c a w,Rel c (st L.length).h w→cU c (st L.length).env (st L.length).au a→bU c₀ w₀ c w→a.defers=d₀→Q .normal a w):
  ∀(fuel:Nat) (J:Array Bool) (early:Nat→Option (Nat×FV)) (k:Nat) (c:Ctx) (a:Act) (w:World),J.size=L.length→J.count false≤fuel →
   eW C self L s st vv es Hs c₀ w₀ d₀ (fun j=>J.getD j false=true) early k c a w→wpAnyIn (Fr r) 0 C.P .any ops Q fuel J a w:=by
 intro fuel
 induction fuel with
 | zero =>
  intro J early k c a w er Tl I
  have ot:∀i,i<L.length→J.getD i false=true:=fun i hi=>by
   have h0:J.count false=0:=by omega
   have:false∉J:=Array.count_eq_zero.1 h0
   rw [jv,ru (by omega)]
   cases hb:J[i]'(by omega) with
   | true=>rfl
   | false=>exact absurd (by rw [←hb]; exact Array.getElem_mem _) this
  obtain ⟨kG,k',c',I',gA⟩:=eW.AZ D (es.length-k) k early c rfl I
  obtain ⟨r1,r2⟩:=I'.done D gA ot
  refine ⟨?_,hQ c' a w r1 r2 I'.EH I'.defers⟩
  refine List.eq_nil_iff_forall_not_mem.2 fun j hj => ?_
  obtain ⟨h1,o,h2,_⟩:=mem_ready.1 hj
  have bk:j<L.length:=by rw [←hL]; simpa using (Array.getElem?_eq_some_iff.1 h2).1
  have h3:=ot j bk
  rw [jv,ru (by omega)] at h1 h3
  simp at h1 h3
  rw [h1] at h3; cases h3
 | succ fuel ih =>
  intro J early k c a w er Tl I
  obtain ⟨kG,k',c',I',gA⟩:=eW.AZ D (es.length-k) k early c rfl I
  have Ib:∀j,j∈Region.ready .any ops J↔∃o,js L (fun j=>J.getD j false=true) j o:=fun j=>by
   rw [mem_ready]
   constructor
   ·rintro ⟨h1,o,h2,h3⟩
    refine ⟨o,by rw [←hL,gU]; exact h2,fun h4 => ?_,fun e he hb=>h3 e he ?_⟩
    ·have bk:j<J.size:=by rw [er,←hL]; simpa using (Array.getElem?_eq_some_iff.1 h2).1
     rw [jv,ru bk] at h1 h4
     simp at h1 h4
     rw [h1] at h4; cases h4
    ·rw [←hb]; cases e; rename_i on g; cases g <;> rfl
   ·rintro ⟨o,R⟩
    have h2:=R.at_
    rw [←hL,gU] at h2
    refine ⟨?_,o,h2,fun e he hb=>R.F8 e he ?_⟩
    ·have bk:j<J.size:=by rw [er,←hL]; simpa using (Array.getElem?_eq_some_iff.1 h2).1
     have h4:=R.not
     rw [jv,ru bk] at h4 ⊢
     simpa using h4
    ·rw [←hb]; cases e; rename_i on g; cases g <;> rfl
  refine ⟨fun Cb => ?_,fun i hi => ?_⟩
  ·have ot:=M3 (S:=fun j=>J.getD j false=true) D.back (fun i o R=>by
    have:=(Ib i).2 ⟨o,R⟩
    rw [Cb] at this; simp at this)
   obtain ⟨r1,r2⟩:=I'.done D gA ot
   exact hQ c' a w r1 r2 I'.EH I'.defers
  ·obtain ⟨o,R⟩:=(Ib i).1 hi
   have bk:i<J.size:=by rw [er]; exact (List.getElem?_eq_some_iff.1 R.at_).1
   have OW:J[i]=false:=by
    have:=R.not
    rw [jv,ru bk] at this
    simpa using this
   refine I'.OR hS hT hL D gA R ?_
   intro M4 UF oB ue uf UG
   refine ih (J.setIfInBounds i true) M4 UF oB ue uf (by simp [er]) ?_ (UG.congr fun j => ?_)
   ·have:(J.setIfInBounds i true).count false=J.count false-1:=by
     rw [Array.setIfInBounds_def,dif_pos bk,Array.count_set]
     simp [OW]
    omega
   ·by_cases oC:j=i
    ·subst oC
     simp [jv,bk]
    ·simp [jv,ve (iD oC),oC]
theorem Ic (hS:g9 C.P self)(hT:eU C)(hm:C.P.follows .mixedOrders=true){r:Option Nat}{id:Nat}{ops:Array Oper}{s s':St}(hr:jC C self ops.toList s=some s'){Q:Exit→Act→World→Prop}
 {c:Ctx}{a:Act}{w:World}(h:Rel c s.h w)(he:cU c s.env s.au a)
 (hQ:∀c' J w',Rel c' s'.h w'→cU c' s'.env s'.au J→bU c w c' w'→J.defers=a.defers→Q .normal J w'):
  (Code.region id ops true).wpIn (Fr r) 0 C.P Q a w:=by
 obtain ⟨st,vv,Hs,D,hz,_⟩:=Ko hr
 refine wpIn_region_any hm ?_
 have Tm:bU c w c { w with drawn:=w.drawn+1 }:=bU.drew c w
 have oo:Rel c s.h { w with drawn:=w.drawn+1 }:=h.drew
 refine Kp hS hT rfl D (c₀:=c) (w₀:=w) (d₀:=a.defers) (fun c' J w' r1 r2 r3 r4=>hQ c' J w' (by rw [←hz]; exact r1) (by rw [←hz]; exact r2) r3 r4)
  ops.size (Array.replicate ops.size false) (fun _=>none) 0 c a _ (by simp) (by simp) ?_
 have I:∀j,¬ (Array.replicate ops.size false).getD j false=true:=fun j=>by
  rw [jv,Array.getElem?_replicate]; split <;> simp
 refine ⟨fun i o hi=>absurd hi (I i),fun idx p h=>by omega,gy _,fun idx p _ _ hp=>absurd hp (I p),(fun p b h=>by cases h),(by rw [D.F6]; exact oo),he.size,
  fun t=>.inr ⟨fun j o hj=>absurd hj (I j),he.val t,he.tj t⟩,(fun p b h=>by cases h),(fun p q b b' h=>by cases h),Tm,rfl⟩
end
end Go.Proofs.YtefepnnfphdkpaaGreat.Am
