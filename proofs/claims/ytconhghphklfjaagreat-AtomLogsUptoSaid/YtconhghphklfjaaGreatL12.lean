/- After a crash the log has the records of the groups that are there and no others, with their numbers and data; the conditions are those of the given statement, for arguments that a machine can hold. Part 12 of 54. -/
import Derived.Test.YtconhghphklfjaaGreatL11
import Derived.Scope
namespace Go.Proofs.YtconhghphklfjaaGreat.Am
open Go
theorem HQ {a b:IntKind}(h:ikBeq a b=true): a=b:=by cases a <;> cases b <;> first | rfl | (simp [ikBeq] at h)
theorem ot {a b:Int}(h:intBeq a b=true): a=b:=by
 cases a <;> cases b <;> simp [intBeq] at h <;> rw [h]
theorem u_ : ∀ {a b:List Nat},natsBeq a b=true→a=b
 | [],[],_=>rfl
 | [],_::_,h=>by simp [natsBeq] at h
 | _::_,[],h=>by simp [natsBeq] at h
 | x::a,y::b,h=>by
  simp only [natsBeq] at h
  cases I:Nat.beq x y with
  | false=>rw [I] at h; cases h
  | true=>rw [I,cond_true] at h; rw [beq_iff.1 I,u_ h]
theorem Fu {a b:Cap}(h:a.beq b=true): a=b:=by
 cases a <;> cases b <;> simp [Cap.beq] at h
 ·rw [h]
 ·rw [h.1,h.2]
mutual
theorem wD : ∀(a b:V),V.beq a b=true→a=b
 | .bool a,b,h=>by cases b <;> simp [V.beq] at h; rw [h]
 | .int j a,b,h=>by
  cases b <;> simp [V.beq] at h
  rw [HQ h.1,ot h.2]
 | .str a,b,h=>by cases b <;> simp [V.beq] at h; rw [u_ h]
 | .bI,b,h=>by cases b <;> simp [V.beq] at h; rfl
 | .ptr x y,b,h=>by cases b <;> simp [V.beq] at h; rw [h.1,h.2]
 | .aH,b,h=>by cases b <;> simp [V.beq] at h; rfl
 | .sl x y z u,b,h=>by
  cases b <;> simp [V.beq] at h
  rw [h.1.1.1,h.1.1.2,h.1.2,Fu h.2]
 | .fG,b,h=>by cases b <;> simp [V.beq] at h; rfl
 | .map x,b,h=>by cases b <;> simp [V.beq] at h; rw [h]
 | .fn f x y,b,h=>by
  cases f with
  | func k=>cases b with
   | fn g u v=>cases g with
    | func j =>
     simp [V.beq] at h
     rw [h.1.1,nK x u h.1.2,nK y v h.2]
    | _=>simp [V.beq] at h
   | _=>simp [V.beq] at h
  | _=>cases b <;> simp [V.beq] at h
 | .xh,b,h=>by cases b <;> simp [V.beq] at h; rfl
 | .iface t v,b,h=>by
  cases b <;> simp [V.beq] at h
  rw [h.1,wD v _ h.2]
 | .iJ,b,h=>by cases b <;> simp [V.beq] at h; rfl
 | .agg l,b,h=>by cases b <;> simp [V.beq] at h; rw [nK l _ h]
 | .aW l,b,h=>by cases b <;> simp [V.beq] at h; rw [nK l _ h]
 | .EH _,b,h=>by cases b <;> simp [V.beq] at h
 | .sle a,b,h=>by cases b <;> simp [V.beq] at h; rw [h]
 | .nu k x,b,h=>by
  cases b with
  | nu j y =>
   simp [V.beq] at h
   rw [h.2]
   cases k <;> cases j <;> first | rfl | (simp [fkBeq] at h)
  | _=>simp [V.beq] at h
theorem nK : ∀(a b:List V),V.beqL a b=true→a=b
 | [],b,h=>by cases b <;> simp [V.beqL] at h; rfl
 | x::a,b,h=>by
  cases b with
  | nil=>simp [V.beqL] at h
  | cons y b =>
   simp only [V.beqL] at h
   cases I:V.beq x y with
   | false=>rw [I] at h; cases h
   | true=>rw [I,cond_true] at h; rw [wD x y I,nK a b h]
end
theorem wE {m:Nat}: ∀(es:List Nat),(∀idx p,idx<eT m es→es[idx]?=some p→bit m p=true)∧eT m es≤es.length:=by
 intro es
 induction es with
 | nil=>exact ⟨fun idx p _ h=>by simp at h,by simp [eT]⟩
 | cons q es J =>
  simp only [eT]
  cases U:bit m q with
  | true =>
   rw [cond_true]
   refine ⟨fun idx p h1 I => ?_,by have:=J.2; simp; exact this⟩
   cases idx with
   | zero=>simp at I; subst I; exact U
   | succ idx=>exact J.1 idx p (by omega) (by simpa using I)
  | false=>rw [cond_false]; exact ⟨fun idx p h=>by omega,by simp⟩
theorem HR {m:Nat}: ∀(es:List Nat),g6 m es=true→∀(J I p q:Nat),J≤I→es[J]?=some p→es[I]?=some q→bit m q=true→bit m p=true:=by
 intro es
 induction es with
 | nil=>intro _ J I p q _ h; simp at h
 | cons x es ih =>
  intro h J I p q hle h1 U hb
  simp only [g6] at h
  cases hx:bit m x with
  | true =>
   rw [hx,cond_true] at h
   cases J with
   | zero=>simp at h1; subst h1; exact hx
   | succ J =>
    cases I with
    | zero=>omega
    | succ I=>exact ih h J I p q (by omega) (by simpa using h1) (by simpa using U) hb
  | false =>
   rw [hx,cond_false] at h
   cases I with
   | zero =>
    simp at U
    subst U
    rw [hx] at hb; cases hb
   | succ I =>
    have:=List.all_eq_true.1 h q (List.mem_of_getElem? (by simpa using U))
    rw [hb] at this; cases this
theorem Cx {as:List Nat}{i:Nat}: ∀(es:List Nat),gu as i es≤es.length∧∀p,es[gu as i es]?=some p→bit ((nth as p).getD 0) i=true:=by
 intro es
 induction es with
 | nil=>exact ⟨by simp [gu],fun p h=>by simp at h⟩
 | cons q es I =>
  simp only [gu]
  cases J:bit ((nth as q).getD 0) i with
  | true=>rw [cond_true]; exact ⟨by simp,fun p h=>by simp at h; subst h; exact J⟩
  | false=>rw [cond_false]; exact ⟨by have:=I.1; simp; exact this,fun p h=>I.2 p (by simpa using h)⟩
section
variable {C:cf} {self:Self}
theorem Fv {L:List Oper}{o:Oper}{x:Env×V}: ∀(l:List H),sameIn C self L o x l=true→wantedV L x.1 o=true→∀h∈l,∃h',evOp C self x.1 h o=some (x.2,h'):=by
 intro l
 induction l with
 | nil=>intro _ _ h hm; simp at hm
 | cons y l J =>
  intro hs hw h hm
  simp only [sameIn,hw,cond_true] at hs
  cases he:evOp C self x.1 y o with
  | none=>simp [he] at hs
  | some r =>
   obtain ⟨v,h'⟩:=r
   simp only [he] at hs
   cases I:v.beq x.2 with
   | false=>rw [I] at hs; cases hs
   | true =>
    rw [I,cond_true] at hs
    rcases List.mem_cons.1 hm with rfl | hm
    ·exact ⟨h',by rw [he,wD _ _ I]⟩
    ·exact J hs hw h hm
theorem xw {L:List Oper}{as es:List Nat}{hs:List H}: ∀(l:List Oper) (tr:List (Env×V)) (k:Nat),stayOk C self L as es hs l tr k=true →
  ∀j o x,l[j]?=some o→tr[j]?=some x→isEff C o.op=false →
   g6 ((nth as (k+j)).getD 0) es=true∧(eT ((nth as (k+j)).getD 0) es=gu as (k+j) es ∨
    sameIn C self L o x ((hs.drop (eT ((nth as (k+j)).getD 0) es)).take (gu as (k+j) es+1-eT ((nth as (k+j)).getD 0) es))=true):=by
 intro l
 induction l with
 | nil=>intro tr k _ j o x h; simp at h
 | cons y l ih =>
  intro tr k h j o x ho hx he
  cases tr with
  | nil=>simp [stayOk] at h
  | cons z tr =>
   simp only [stayOk] at h
   have I:stayOk C self L as es hs l tr (k+1)=true:=by
    cases h1:isEff C y.op with
    | true=>rw [h1,cond_true] at h; exact h
    | false =>
     rw [h1,cond_false] at h
     cases J:(g6 ((nth as k).getD 0) es&&Nat.beq (eT ((nth as k).getD 0) es) (gu as k es)) with
     | true=>rw [J,cond_true] at h; exact h
     | false =>
      rw [J,cond_false] at h
      cases U:(g6 ((nth as k).getD 0) es&&sameIn C self L y z ((hs.drop (eT ((nth as k).getD 0) es)).take (gu as k es+1-eT ((nth as k).getD 0) es))) with
      | true=>rw [U,cond_true] at h; exact h
      | false=>rw [U] at h; cases h
   cases j with
   | zero =>
    simp at ho hx
    subst ho hx
    rw [he,cond_false] at h
    simp only [Nat.add_zero]
    cases J:(g6 ((nth as k).getD 0) es&&Nat.beq (eT ((nth as k).getD 0) es) (gu as k es)) with
    | true =>
     rw [Bool.and_eq_true,beq_iff] at J
     exact ⟨J.1,.inl J.2⟩
    | false =>
     rw [J,cond_false] at h
     cases U:(g6 ((nth as k).getD 0) es&&sameIn C self L y z ((hs.drop (eT ((nth as k).getD 0) es)).take (gu as k es+1-eT ((nth as k).getD 0) es))) with
     | true =>
      rw [Bool.and_eq_true] at U
      exact ⟨U.1,.inr U.2⟩
     | false=>rw [U] at h; cases h
   | succ j =>
    have:=ih tr (k+1) I j o x (by simpa using ho) (by simpa using hx) he
    rwa [show k+1+j=k+(j+1) from by omega] at this
theorem HS {L:List Oper}{s z:St}(hr:iA C self L s=some z):
    ∃st vv Hs,eP C self L s st vv (b_ C L 0) Hs∧st L.length=z∧L.all (fun o => !yW o.op)=true:=by
  unfold iA at hr
  cases fK:lN C L with
  | false=>rw [fK] at hr; cases hr
  | true =>
    rw [fK,cond_true] at hr
    cases MH:trace C self L L s [s.h] with
    | none=>simp [MH] at hr
    | some q =>
      obtain ⟨tr,hs,z'⟩:=q
      simp only [MH] at hr
      cases U:stayOk C self L (ancs L []) (b_ C L 0) hs L tr 0 with
      | false=>rw [U] at hr; cases hr
      | true =>
        rw [U,cond_true] at hr
        simp only [Option.some.injEq] at hr
        subst hr
        simp only [lN,Bool.and_eq_true] at fK
        obtain ⟨⟨⟨s1,s2⟩,s3⟩,s4⟩:=fK
        obtain ⟨st,t1,t2,t3,t4,t5⟩:=HO L 0 s [s.h] tr hs z' MH
        simp only [Nat.zero_add] at t2 t5
        have JR:∀i o,L[i]?=some o→∀e∈o.after,dy e=true→e.on<i:=fun i o ho e he hb=>by
          have:=zE L 0 s1 i o ho e he hb; omega
        have MI:∀i o,L[i]?=some o→∀j,bit ((nth (ancs L []) i).getD 0) j=true→j<i:=fun i o ho j hj =>
          (zD JR (fun _=>True) i o ho (fun _ _ _ _ _ _ _ _=>trivial) (fun _ _ _=>trivial) j hj).2
        have I:=(rq (C:=C) L 0).1
        have Cq:∀p,p∈b_ C L 0↔∃o,L[p]?=some o∧isEff C o.op=true:=fun p=>by
          rw [Fj]
          constructor
          · rintro ⟨i,o,rfl,h1,h2⟩; exact ⟨o,by simpa using h1,h2⟩
          · rintro ⟨o,h1,h2⟩; exact ⟨p,o,by omega,h1,h2⟩
        have P3:∀k p,(b_ C L 0)[k]?=some p→hs[k+1]?=some (st (p+1)).h:=fun k p J=>by
          rw [t4]; simp [J]
        have P4:hs[0]?=some s.h:=by rw [t4]; simp
        have Vg:hs.length=(b_ C L 0).length+1:=by rw [t4]; simp
        have mQ:∀i o,L[i]?=some o→∃h,(st i).put o.dst (((tr[i]?).map (·.2)).getD bt) h=some (st (i+1)) ∧
            (wantedV L (st i).env o=true→evOp C self (st i).env (st i).h o=some (((tr[i]?).map (·.2)).getD bt,h))∧(wantedV L (st i).env o=false→((tr[i]?).map (·.2)).getD bt=bt∧h=(st i).h):=fun i o ho=>by
          obtain ⟨v,h,e1,e2,e3,e4⟩:=t5 i o ho
          refine ⟨h,?_,?_,?_⟩ <;> rw [e1] <;> simp only [Option.map_some,Option.getD_some]
          · exact e2
          · exact e3
          · exact e4
        -- all but 'same'; it is wanted for 'heapAt'
        have Vo:(∀i o,L[i]?=some o→isEff C o.op=false→∀k,k≤(b_ C L 0).length→(∀idx p,idx<k→(b_ C L 0)[idx]?=some p→bit ((nth (ancs L []) p).getD 0) i=false) →
              (∀idx p,k≤idx→(b_ C L 0)[idx]?=some p→bit ((nth (ancs L []) i).getD 0) p=false) →
              wantedV L (st i).env o=true→∃h',evOp C self (st i).env ((hs[k]?).getD s.h) o=some (((tr[i]?).map (·.2)).getD bt,h')) →
            eP C self L s st (fun i=>((tr[i]?).map (·.2)).getD bt) (b_ C L 0) (fun k=>(hs[k]?).getD s.h):=fun Dm =>
          { back:=JR
            Dx:=fun j o ho i x hi hx=>by
              have:=Dv L 0 s2 j o ho i x (by omega) hx
              simpa using this
            Fl:=fun i o ho ha j u hu bB=>by
              rcases Bz L 0 s3 i o ho ha j u hu (by omega) with h | h
              · exact .inl h
              · right
                intro p J VW
                exact Fk I h p J (by omega)
            mq:=Cq
            sorted:=I
            start:=t1
            step:=mQ
            Dy:=by rw [P4]; rfl
            uZ:=fun k p J=>by rw [P3 k p J]; rfl
            PZ:=fun i o ho he=>by
              obtain ⟨v,h,e1,_⟩:=t5 i o ho
              have:=(xw L tr 0 U i o _ ho e1 he).1
              simp only [Nat.zero_add] at this
              exact HR _ this
            same:=Dm }
        refine ⟨st,_,_,Vo ?_,t2,s4⟩
        intro i o ho he k hk h1 h2 hw
        obtain ⟨v,h,e1,e2,e3,e4⟩:=t5 i o ho
        obtain ⟨g1,g2⟩:=xw L tr 0 U i o _ ho e1 he
        simp only [Nat.zero_add] at g1 g2
        have Rx:eT ((nth (ancs L []) i).getD 0) (b_ C L 0)≤k:=Nat.le_of_not_lt fun bB=>by
          obtain ⟨p,J⟩:∃p,(b_ C L 0)[k]?=some p:=⟨_,List.getElem?_eq_getElem (by have:=(wE (m:=(nth (ancs L []) i).getD 0) (b_ C L 0)).2; omega)⟩
          have:=(wE (b_ C L 0)).1 k p bB J
          rw [h2 k p (Nat.le_refl _) J] at this
          cases this
        have Vp:k≤gu (ancs L []) i (b_ C L 0):=Nat.le_of_not_lt fun bB=>by
          obtain ⟨p,J⟩:∃p,(b_ C L 0)[gu (ancs L []) i (b_ C L 0)]?=some p:=⟨_,List.getElem?_eq_getElem (by omega)⟩
          have:=(Cx (as:=ancs L []) (i:=i) (b_ C L 0)).2 p J
          rw [h1 _ p bB J] at this
          cases this
        have HI:((tr[i]?).map (·.2)).getD bt=v:=by rw [e1]; rfl
        rw [HI]
        rcases g2 with g2 | g2
        · -- its place is known
          have Fw:(st i).h=(hs[k]?).getD s.h:=by
            have tC:k=gu (ancs L []) i (b_ C L 0):=by omega
            have bB:∀idx p,idx<k→(b_ C L 0)[idx]?=some p→p<i:=fun idx p bB J=>by
              have:=(wE (m:=(nth (ancs L []) i).getD 0) (b_ C L 0)).1 idx p (by omega) J
              exact MI i o ho p this
            have P5:∀idx p,k≤idx→(b_ C L 0)[idx]?=some p→i≤p:=fun idx p hle J=>by
              obtain ⟨q,hq⟩:∃q,(b_ C L 0)[k]?=some q:=⟨_,List.getElem?_eq_getElem (by have:=(List.getElem?_eq_some_iff.1 J).1; omega)⟩
              have hb:=(Cx (as:=ancs L []) (i:=i) (b_ C L 0)).2 q (by rw [←tC]; exact hq)
              obtain ⟨x,hx,_⟩:=(Cq q).1 (List.mem_of_getElem? hq)
              have VX:=MI q x hx i hb
              rcases Nat.eq_or_lt_of_le hle with e | e
              · subst e; rw [hq] at J; simp at J; omega
              · obtain ⟨a1,b1⟩:=List.getElem?_eq_some_iff.1 hq
                obtain ⟨a2,b2⟩:=List.getElem?_eq_some_iff.1 J
                have:=(List.pairwise_iff_getElem.1 I) k idx a1 a2 e
                omega
            exact u5 (Hs:=fun k=>(hs[k]?).getD s.h) mQ (fun p=>Cq p) I t1 (by rw [P4]; rfl) (fun k p J=>by rw [P3 k p J]; rfl) i k (by have:=(List.getElem?_eq_some_iff.1 ho).1; omega) hk bB P5
          rw [←Fw]
          exact ⟨h,e3 hw⟩
        · have hm:(hs[k]?).getD s.h∈(hs.drop (eT ((nth (ancs L []) i).getD 0) (b_ C L 0))).take (gu (ancs L []) i (b_ C L 0)+1-eT ((nth (ancs L []) i).getD 0) (b_ C L 0)):=by
            have Ry:k<hs.length:=by omega
            refine List.mem_of_getElem? (i:=k-eT ((nth (ancs L []) i).getD 0) (b_ C L 0)) ?_
            rw [List.getElem?_take,if_pos (by omega),List.getElem?_drop,Nat.add_sub_cancel' Rx,List.getElem?_eq_getElem Ry]
            simp
          exact Fv _ g2 hw _ hm
theorem KV {L:List Oper}{S:Nat→Prop}(J:∀i o,L[i]?=some o→∀e∈o.after,dy e=true→e.on<i)(U:∀i o,¬ iy L S i o): ∀i,i<L.length→S i:=by
 intro i
 induction i using Nat.strongRecOn with
 | _ i ih =>
  intro hi
  refine Classical.byContradiction fun hS => ?_
  refine U i L[i] ⟨List.getElem?_eq_getElem hi,hS,fun e he I => ?_⟩
  have:=J i L[i] (List.getElem?_eq_getElem hi) e he I
  exact ih e.on this (by omega)
theorem eD.done {L:List Oper}{s:St}{st:Nat→St}{vv:Nat→V}{es:List Nat}{Hs:Nat→H}{c₀ c:Ctx}{w₀ w:World}{d₀:List Deferred}{S:Nat→Prop}{early:Nat→Option (Nat×FV)}{k:Nat}{a:Act}
 (D:eP C self L s st vv es Hs)(I:eD C self L s st vv es Hs c₀ w₀ d₀ S early k c a w)(kW:∀p,es[k]?=some p→¬ S p)(J:∀i,i<L.length→S i):
  Rel c (st L.length).h w∧cW c (st L.length).env (st L.length).ak a:=by
 have bB:∀p∈es,p<L.length:=fun p hp=>by
  obtain ⟨o,ho,_⟩:=(D.mq p).1 hp
  exact (List.getElem?_eq_some_iff.1 ho).1
 have hk:k=es.length:=by
  refine Nat.le_antisymm I.zH (Nat.le_of_not_lt fun h => ?_)
  exact kW _ (List.getElem?_eq_getElem h) (J _ (bB _ (List.getElem_mem h)))
 have U:∀p,early p=none:=fun p=>by
  cases h:early p with
  | none=>rfl
  | some b =>
   obtain ⟨_,idx,h1,h2⟩:=I.nc p b h
   have:=(List.getElem?_eq_some_iff.1 h2).1
   omega
 refine ⟨?_,?_⟩
 ·rw [D.zG L.length k (Nat.le_refl _) I.zH (fun idx p _ hp=>bB p (List.mem_of_getElem? hp)) (fun idx p hle hp=>by have:=(List.getElem?_eq_some_iff.1 hp).1; omega)]
  exact I.rel
 ·have hv:∀t,a.tmps.getD t undef=conc c ((st L.length).env.v t)∧wf c ((st L.length).env.v t):=fun t=>by
   rcases I.tmp t with ⟨i,o,g1,g2,g3,g4,g5⟩ | ⟨g1,g2,g3⟩
   ·have:(st L.length).env.v t=vv i:=by
     rcases D.yG t L.length (Nat.le_refl _) with ⟨j,oj,h1,h2,h3,h4,h5⟩ | ⟨h1,_⟩
     ·have e1:=h4 i o (List.getElem?_eq_some_iff.1 g2).1 g2 g3
      have e2:=g4 j oj (J j h1) h2 h3
      have:j=i:=by omega
      subst this; exact h5
     ·exact absurd g3 (h1 i o (List.getElem?_eq_some_iff.1 g2).1 g2)
    rcases g5 with ⟨b,e1,_⟩ | ⟨_,e2,e3⟩
    ·rw [U i] at e1; cases e1
    ·rw [this]; exact ⟨e2,e3⟩
   ·have:(st L.length).env.v t=s.env.v t:=by
     rcases D.yG t L.length (Nat.le_refl _) with ⟨j,oj,h1,h2,h3,h4,h5⟩ | ⟨_,h⟩
     ·exact absurd h3 (g1 j oj (J j h1) h2)
     ·exact h
    rw [this]; exact ⟨g2,g3⟩
  exact ⟨by rw [I.size,D.ak L.length (Nat.le_refl _)],fun t=>(hv t).1,fun t=>(hv t).2⟩
theorem eD.congr {L:List Oper}{s:St}{st:Nat→St}{vv:Nat→V}{es:List Nat}{Hs:Nat→H}{c₀ c:Ctx}{w₀ w:World}{d₀:List Deferred}{S S':Nat→Prop}{early:Nat→Option (Nat×FV)}{k:Nat}{a:Act}
 (I:eD C self L s st vv es Hs c₀ w₀ d₀ S early k c a w)(h:∀j,S j↔S' j): eD C self L s st vv es Hs c₀ w₀ d₀ S' early k c a w:=by
 have:S=S':=funext fun j=>propext (h j)
 rw [←this]; exact I
theorem HT (hS:fH C.P self)(hT:eM C){r:Option Nat}{ops:Array Oper}{L:List Oper}(hL:ops.toList=L){Q:Exit→Act→World→Prop}{s:St}{st:Nat→St}{vv:Nat→V}{es:List Nat}{Hs:Nat→H}
 {c₀:Ctx}{w₀:World}{d₀:List Deferred}(D:eP C self L s st vv es Hs)
 (hQ:∀c a w,Rel c (st L.length).h w→cW c (st L.length).env (st L.length).ak a→cm c₀ w₀ c w→a.defers=d₀→Q .normal a w):
  ∀(fuel:Nat) (J:Array Bool) (early:Nat→Option (Nat×FV)) (k:Nat) (c:Ctx) (a:Act) (w:World),J.size=L.length→J.count false≤fuel →
   eD C self L s st vv es Hs c₀ w₀ d₀ (fun j=>J.getD j false=true) early k c a w→wpAnyIn (Fr r) 0 C.P .any ops Q fuel J a w:=by
 intro fuel
 induction fuel with
 | zero =>
  intro J early k c a w ee Rz I
  have oM:∀i,i<L.length→J.getD i false=true:=fun i hi=>by
   have h0:J.count false=0:=by omega
   have:false∉J:=Array.count_eq_zero.1 h0
   rw [Array.getD_eq_getD_getElem?,Array.getElem?_eq_getElem (by omega)]
   cases hb:J[i]'(by omega) with
   | true=>rfl
   | false=>exact absurd (by rw [←hb]; exact Array.getElem_mem _) this
  obtain ⟨ru,k',c',I',kW⟩:=eD.xu D (es.length-k) k early c rfl I
  obtain ⟨r1,r2⟩:=I'.done D kW oM
  refine ⟨?_,hQ c' a w r1 r2 I'.Cs I'.defers⟩
  refine List.eq_nil_iff_forall_not_mem.2 fun j hj => ?_
  obtain ⟨h1,o,h2,_⟩:=mem_ready.1 hj
  have U:j<L.length:=by rw [←hL]; simpa using (Array.getElem?_eq_some_iff.1 h2).1
  have h3:=oM j U
  rw [Array.getD_eq_getD_getElem?,Array.getElem?_eq_getElem (by omega)] at h1 h3
  simp at h1 h3
  rw [h1] at h3; cases h3
 | succ fuel ih =>
  intro J early k c a w ee Rz I
  obtain ⟨ru,k',c',I',kW⟩:=eD.xu D (es.length-k) k early c rfl I
  have Fx:∀j,j∈Region.ready .any ops J↔∃o,iy L (fun j=>J.getD j false=true) j o:=fun j=>by
   rw [mem_ready]
   constructor
   ·rintro ⟨h1,o,h2,h3⟩
    refine ⟨o,by rw [←hL,Array.getElem?_toList]; exact h2,fun h4 => ?_,fun e he hb=>h3 e he ?_⟩
    ·have U:j<J.size:=by rw [ee,←hL]; simpa using (Array.getElem?_eq_some_iff.1 h2).1
     rw [Array.getD_eq_getD_getElem?,Array.getElem?_eq_getElem U] at h1 h4
     simp at h1 h4
     rw [h1] at h4; cases h4
    ·rw [←hb]; cases e; rename_i on g; cases g <;> rfl
   ·rintro ⟨o,R⟩
    have h2:=R.at_
    rw [←hL,Array.getElem?_toList] at h2
    refine ⟨?_,o,h2,fun e he hb=>R.DB e he ?_⟩
    ·have U:j<J.size:=by rw [ee,←hL]; simpa using (Array.getElem?_eq_some_iff.1 h2).1
     have h4:=R.not
     rw [Array.getD_eq_getD_getElem?,Array.getElem?_eq_getElem U] at h4 ⊢
     simpa using h4
    ·rw [←hb]; cases e; rename_i on g; cases g <;> rfl
  refine ⟨fun ue => ?_,fun i hi => ?_⟩
  ·have oM:=KV (S:=fun j=>J.getD j false=true) D.back (fun i o R=>by
    have:=(Fx i).2 ⟨o,R⟩
    rw [ue] at this; simp at this)
   obtain ⟨r1,r2⟩:=I'.done D kW oM
   exact hQ c' a w r1 r2 I'.Cs I'.defers
  ·obtain ⟨o,R⟩:=(Fx i).1 hi
   have U:i<J.size:=by rw [ee]; exact (List.getElem?_eq_some_iff.1 R.at_).1
   have MJ:J[i]=false:=by
    have:=R.not
    rw [Array.getD_eq_getD_getElem?,Array.getElem?_eq_getElem U] at this
    simpa using this
   refine I'.MF hS hT hL D kW R ?_
   intro KW S5 kV uV uW S6
   refine ih (J.setIfInBounds i true) KW S5 kV uV uW (by simp [ee]) ?_ (S6.congr fun j => ?_)
   ·have:(J.setIfInBounds i true).count false=J.count false-1:=by
     rw [Array.setIfInBounds_def,dif_pos U,Array.count_set]
     simp [MJ]
    omega
   ·by_cases MK:j=i
    ·subst MK
     simp [Array.getD_eq_getD_getElem?,U]
    ·simp [Array.getD_eq_getD_getElem?,Array.getElem?_setIfInBounds_ne (Ne.symm MK),MK]
theorem Fy (hS:fH C.P self)(hT:eM C)(hm:C.P.follows .mixedOrders=true){r:Option Nat}{id:Nat}{ops:Array Oper}{s s':St}(hr:iA C self ops.toList s=some s'){Q:Exit→Act→World→Prop}
 {c:Ctx}{a:Act}{w:World}(h:Rel c s.h w)(he:cW c s.env s.ak a)
 (hQ:∀J U w',Rel J s'.h w'→cW J s'.env s'.ak U→cm c w J w'→U.defers=a.defers→Q .normal U w'):
  (Code.region id ops true).wpIn (Fr r) 0 C.P Q a w:=by
 obtain ⟨st,vv,Hs,D,hz,_⟩:=HS hr
 refine wpIn_region_any hm ?_
 have RA:cm c w c { w with drawn:=w.drawn+1 }:=cm.drew c w
 have rj:Rel c s.h { w with drawn:=w.drawn+1 }:=h.drew
 refine HT hS hT rfl D (c₀:=c) (w₀:=w) (d₀:=a.defers) (fun J U w' r1 r2 r3 r4=>hQ J U w' (by rw [←hz]; exact r1) (by rw [←hz]; exact r2) r3 r4)
  ops.size (Array.replicate ops.size false) (fun _=>none) 0 c a _ (by simp) (by simp) ?_
 have I:∀j,¬ (Array.replicate ops.size false).getD j false=true:=fun j=>by
  rw [Array.getD_eq_getD_getElem?,Array.getElem?_replicate]; split <;> simp
 refine ⟨fun i o hi=>absurd hi (I i),fun idx p h=>by omega,Nat.zero_le _,fun idx p _ _ hp=>absurd hp (I p),(fun p b h=>by cases h),(by rw [D.Dy]; exact rj),he.size,
  fun t=>.inr ⟨fun j o hj=>absurd hj (I j),he.val t,he.oW t⟩,(fun p b h=>by cases h),(fun p q b b' h=>by cases h),RA,rfl⟩
end
end Go.Proofs.YtconhghphklfjaaGreat.Am
namespace Go.Proofs.YtconhghphklfjaaGreat.Am
open Go
section
variable {P:Program} {b:Frame} {a:Act} {k:List Item} {cs:List Frame} {w:World}
theorem jT {c:Code}: step P (lone (b.atR a (.code (.scope c)::k)) cs w)=.next (lone (b.atR a (.code c::.inScope c::k)) cs w) :=
 step_lone_go (by simp [stepG,stepG.exec,Frame.atR])
theorem yz {c:Code}: step P (lone (b.atR a (.inScope c::k)) cs w)=.next (lone (b.atR a k) cs w) :=
 step_lone_go (by simp [stepG,stepG.exec,Frame.atR])
end
theorem DC {P:Program}{r:Option Nat}{c:Code}{Q:Exit→Act→World→Prop}{a:Act}{w:World}(h:c.wpIn (Fr r) 0 P (Exit.noGoto Q) a w): (Code.scope c).wpIn (Fr r) 0 P Q a w:=by
 intro b k cs S7 hb hr
 obtain ⟨e,J,U,hq,I⟩:=h b (.inScope c::k) cs S7 hb hr
 cases e with
 | normal=>exact ⟨.normal,J,U,hq,.of_steps (.one (fenced_calm hb hr rfl) jT) (StepsIn.trans I (.one (fenced_calm hb hr rfl) yz))⟩
 | exit id=>exact ⟨.exit id,J,U,hq,.of_steps (.one (fenced_calm hb hr rfl) jT) ⟨fun k' hk=>I.1 k' (by simpa [exitTo] using hk),fun hr hk=>I.2 hr (by simpa [exitTo] using hk)⟩⟩
 | goto l=>exact hq.elim
 | ret=>exact ⟨_,J,U,hq,.of_steps (.one (fenced_calm hb hr rfl) jT) I⟩
 | panic ch=>exact ⟨_,J,U,hq,.of_steps (.one (fenced_calm hb hr rfl) jT) I⟩
 | outgrown=>exact ⟨_,J,U,hq,.of_steps (.one (fenced_calm hb hr rfl) jT) I⟩
def va (P:Program)(self:Self)(m:Nat): Prop:=∀(b:Code) (s:St) (ex:Ex) (s':St),self (.loop b) s=some (ex,s') →
 ∀(r:Option Nat) (c:Ctx) (a:Act) (w:World) (Q:Exit→Act→World→Prop),Rel c s.h w→cW c s.env s.ak a →
  (∀e I w',(e=exOf ex∧I.defers=a.defers∧∃J,Rel J s'.h w'∧cW J s'.env s'.ak I∧cm c w J w')→Q e I w')→Code.roundsIn (Fr r) 0 P b Q m a w
section
variable {C:cf} {self:Self}
theorem tN {m:Nat}(hS:fH C.P self)(hL:va C.P self m): va C.P (evStep C self) (m+1):=by
 intro b s ex s' I r c a w Q h he hQ
 rw [roundsIn_succ]
 unfold evStep at I
 simp only at I
 cases hb:self b s with
 | none=>rw [hb] at I; simp at I
 | some q =>
  obtain ⟨J,U⟩:=q
  rw [hb] at I
  refine wpIn_mono (hS b s J U hb r c a w h he) ?_
  rintro e Bx wA ⟨rfl,q2,c₁,q3,q4,q5⟩
  cases J with
  | normal =>
   simp only at I
   refine hL b U ex s' I r c₁ Bx wA Q q3 q4 ?_
   rintro KR Rn Ro ⟨p1,p2,c₂,p3,p4,p5⟩
   exact hQ _ _ _ ⟨p1,by rw [p2,q2],c₂,p3,p4,q5.trans p5⟩
  | exit i =>
   simp only [Option.some.injEq,Prod.mk.injEq] at I
   obtain ⟨rfl,rfl⟩:=I
   exact hQ _ _ _ ⟨rfl,q2,c₁,q3,q4,q5⟩
  | ret =>
   simp only [Option.some.injEq,Prod.mk.injEq] at I
   obtain ⟨rfl,rfl⟩:=I
   exact hQ _ _ _ ⟨rfl,q2,c₁,q3,q4,q5⟩
theorem Fz {m:Nat}(hm:C.P.follows .mixedOrders=true)(hT:eM C)(hS:fH C.P self)(hL:va C.P self m): fH C.P (evStep C self):=by
 intro code s ex s' I r c a w h he
 have same:∀ {ex:Ex} {s':St},(Ex.normal,s)=(ex,s')→exOf ex=.normal∧s'=s:=fun e=>by cases e; exact ⟨rfl,rfl⟩
 cases code with
 | skip =>
  simp only [evStep,Option.some.injEq,Prod.mk.injEq] at I
  obtain ⟨rfl,rfl⟩:=I
  exact wpIn_skip ⟨rfl,rfl,c,h,he,cm.refl c w⟩
 | label l =>
  simp only [evStep,Option.some.injEq,Prod.mk.injEq] at I
  obtain ⟨rfl,rfl⟩:=I
  exact wpIn_label ⟨rfl,rfl,c,h,he,cm.refl c w⟩
 | region id ops draw =>
  unfold evStep at I
  simp only at I
  cases draw with
  | true =>
   rw [cond_true] at I
   cases hd:iA C self ops.toList s with
   | none=>simp [hd] at I
   | some J =>
    simp only [hd,Option.some.injEq,Prod.mk.injEq] at I
    obtain ⟨rfl,rfl⟩:=I
    exact Fy hS hT hm hd h he fun c' a' w' r1 r2 r3 r4=>⟨rfl,r4,c',r1,r2,r3⟩
  | false =>
   rw [cond_false] at I
   cases hd:evOps C self ops.toList ops.toList s with
   | none=>simp [hd] at I
   | some J =>
    simp only [hd,Option.some.injEq,Prod.mk.injEq] at I
    obtain ⟨rfl,rfl⟩:=I
    refine wpIn_region ?_
    rw [List.range_eq_range',←Array.length_toList]
    exact HL hS hT ops.toList 0 s J c a w (fun j=>by rw [Nat.zero_add,Array.getElem?_toList]) hd h he fun c' a' w' r1 r2 r3 r4=>⟨rfl,r4,c',r1,r2,r3⟩
 | seq x y =>
  unfold evStep at I
  simp only at I
  cases hx:self x s with
  | none=>rw [hx] at I; simp at I
  | some r =>
   obtain ⟨U,J⟩:=r
   rw [hx] at I
   refine wpIn_seq (wpIn_mono (hS x s U J hx r c a w h he) ?_)
   rintro e Bx wA ⟨rfl,q2,c₁,q3,q4,q5⟩
   cases U with
   | normal =>
    simp only at I
    refine wpIn_mono (hS y J ex s' I r c₁ Bx wA q3 q4) ?_
    rintro e Rn Ro ⟨rfl,p2,c₂,p3,p4,p5⟩
    exact ⟨rfl,by rw [p2,q2],c₂,p3,p4,q5.trans p5⟩
   | exit i =>
    simp only [Option.some.injEq,Prod.mk.injEq] at I
    obtain ⟨rfl,rfl⟩:=I
    exact ⟨rfl,q2,c₁,q3,q4,q5⟩
   | ret =>
    simp only [Option.some.injEq,Prod.mk.injEq] at I
    obtain ⟨rfl,rfl⟩:=I
    exact ⟨rfl,q2,c₁,q3,q4,q5⟩
 | cond x y z =>
  unfold evStep at I
  simp only at I
  split at I
  ·rename_i t hx
   obtain ⟨e1,_⟩:=yZ he hx
   refine wpIn_cond (t:=t) (by rw [e1]; rfl) ?_
   have:=hS (cond t y z) s ex s' I r c a w h he
   cases t <;> simpa using this
  ·cases I
 | block id b =>
  unfold evStep at I
  simp only at I
  cases hb:self b s with
  | none=>rw [hb] at I; simp at I
  | some r =>
   obtain ⟨U,J⟩:=r
   rw [hb] at I
   refine wpIn_block (wpIn_mono (hS b s U J hb r c a w h he) ?_)
   rintro e Bx wA ⟨rfl,q2,c₁,q3,q4,q5⟩
   cases U with
   | normal =>
    simp only [Option.some.injEq,Prod.mk.injEq] at I
    obtain ⟨rfl,rfl⟩:=I
    simp only [exOf,Exit.inBlock]
    exact ⟨trivial,q2,c₁,q3,q4,q5⟩
   | exit i =>
    simp only at I
    by_cases hi:i=id
    ·rw [eH hi,cond_true] at I
     simp only [Option.some.injEq,Prod.mk.injEq] at I
     obtain ⟨rfl,rfl⟩:=I
     simp only [exOf,Exit.inBlock,hi,if_true]
     exact ⟨trivial,q2,c₁,q3,q4,q5⟩
    ·rw [bT hi,cond_false] at I
     simp only [Option.some.injEq,Prod.mk.injEq] at I
     obtain ⟨rfl,rfl⟩:=I
     simp only [exOf,Exit.inBlock,hi,if_false]
     exact ⟨trivial,q2,c₁,q3,q4,q5⟩
   | ret =>
    simp only [Option.some.injEq,Prod.mk.injEq] at I
    obtain ⟨rfl,rfl⟩:=I
    simp only [exOf,Exit.inBlock]
    exact ⟨trivial,q2,c₁,q3,q4,q5⟩
 | loop b =>
  exact wpIn_loop_rounds (m+1) (tN hS hL b s ex s' I r c a w _ h he (fun _ _ _ hq=>hq))
 | exit id =>
  simp only [evStep,Option.some.injEq,Prod.mk.injEq] at I
  obtain ⟨rfl,rfl⟩:=I
  exact wpIn_exit ⟨rfl,rfl,c,h,he,cm.refl c w⟩
 | scope b =>
  unfold evStep at I
  simp only at I
  refine DC (wpIn_mono (hS b s ex s' I r c a w h he) ?_)
  rintro e Bx wA ⟨rfl,q2,c₁,q3,q4,q5⟩
  cases ex <;> exact ⟨rfl,q2,c₁,q3,q4,q5⟩
 | ret =>
  simp only [evStep,Option.some.injEq,Prod.mk.injEq] at I
  obtain ⟨rfl,rfl⟩:=I
  exact wpIn_ret ⟨rfl,rfl,c,h,he,cm.refl c w⟩
 | _=>simp [evStep] at I
theorem zK (hm:C.P.follows .mixedOrders=true)(J:eM C): ∀n,fH C.P (ev C n)∧va C.P (ev C n) n:=by
 intro n
 induction n with
 | zero=>exact ⟨fun _ _ _ _ h=>by simp [ev] at h,fun _ _ _ _ h=>by simp [ev] at h⟩
 | succ n I=>exact ⟨Fz hm J I.1 I.2,tN I.1 I.2⟩
theorem yH (hm:C.P.follows .mixedOrders=true)(I:eM C)(n:Nat): zB C.P (ev C n)∧True:=⟨(zK hm I n).1.wide,trivial⟩
theorem vb (hm:C.P.follows .mixedOrders=true)(J:eM C){n:Nat}{f:FuncId}{args:List V}{h:H}{v:V}{h':H}(U:run C n f args h=some (v,h')){c:Ctx}{w:World}
 (I:Rel c h w)(hw:∀x∈args,wf c x): ei C.P f args c w v h' :=
 (pU (yH hm J n).1 J U I hw).1
theorem Rel.empty (w:World): Rel ⟨fun _=>(0,0),fun _=>0,0,fun _=>false⟩ ⟨0,.lf⟩ w :=
 ⟨rfl,fun id o h=>by simp [T.gh] at h,fun id h=>absurd h (Nat.not_lt_zero _),fun id h=>absurd h (Nat.not_lt_zero _),fun i j o o' h=>by simp [T.gh] at h,fun id o h=>by simp [T.gh] at h,fun id cs st h=>by simp [T.gh] at h,fun id o h=>by simp [T.gh] at h⟩
end
end Go.Proofs.YtconhghphklfjaaGreat.Am
