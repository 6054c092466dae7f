/- After a crash the log has the records of the groups that are there and no others, with their numbers and data; the conditions are those of the given statement, for arguments that a machine can hold. Part 10 of 54. -/
import Derived.Test.YtconhghphklfjaaGreatL09
namespace Go.Proofs.YtconhghphklfjaaGreat.Am
open Go
section
variable {C:cf} {self:Self} {c:Ctx} {σ:H} {w:World}
theorem Rel.Rq (h:Rel c σ w)(O:Go.Obj): Rel c σ (w.alloc O)∧cm c w c (w.alloc O):=by
 have old:∀id,id<c.N→(w.alloc O).heap[(c.ρ id).1]?=w.heap[(c.ρ id).1]?:=fun id hi=>by
  rw [e_]; simp [Nat.ne_of_lt (h.gL id hi)]
 refine ⟨⟨h.next,h.live,fun id hi=>by have:=h.gL id hi; simp; omega,fun id hi=>by rw [iw w O (h.gL id hi)]; exact h.zz id hi,h.inj,fun id o ho=>(h.obj id o ho).later (Ext.refl c) (h.live id o ho) (old id (h.live id o ho)),h.one,h.fx⟩,
  ⟨Ext.refl c,by simp,fun b I=>iw w O I,fun b I _=>by rw [e_]; simp [Nat.ne_of_lt I],fun id J U=>by omega,rfl,rfl⟩⟩
theorem l_ {b:Nat}(I:∀id,id<c.N→(c.ρ id).1≠b)(base size:Nat): Ext c (c.grow b base size) :=
 ⟨by simp [Ctx.grow],fun id hi=>bY c _ _ _ hi,fun id hi=>by simp [Ctx.grow,I id hi],fun id hi=>dL c _ _ _ hi⟩
theorem Rel.yF {b:Nat}{cs:List V}{T:TypeId}(h:Rel c σ w)(hb:b<w.heap.size)(hr:∀id,id<c.N→(c.ρ id).1≠b)(U:∀v∈cs,wf c v∧storable v=true)
 (hg:w.heap[b]?=some (.cells (cs.map (conc c)).toArray T (0,0))): Rel (c.grow b 0 cs.length) (Am.newRow σ cs) w:=by
 have e:=l_ hr 0 cs.length
 have hN:(c.grow b 0 cs.length).N=c.N+1:=rfl
 have key:∀i o,(Am.newRow σ cs).tr.get i=some o→(i=c.N∧o=.cells cs.length cs false)∨(i<c.N∧σ.tr.get i=some o):=by
  intro i o hi
  rw [Am.newRow,eZ,h.next] at hi
  by_cases J:i=c.N
  ·simp [J] at hi; exact .inl ⟨J,hi.symm⟩
  ·simp [J] at hi; exact .inr ⟨h.live i o hi,hi⟩
 refine ⟨by simp [Am.newRow,H.new,Ctx.grow,h.next],fun i o hi => ?_,fun i hi => ?_,fun i hi => ?_,fun i j o o' hi hj he => ?_,fun i o hi => ?_,fun i mK jl hi hx => ?_,fun i o hi hx => ?_⟩
 ·rw [hN]; rcases key i o hi with ⟨J,_⟩ | ⟨J,_⟩ <;> omega
 ·rw [hN] at hi
  by_cases J:i=c.N
  ·subst J; rw [aP]; exact hb
  ·rw [bY c _ _ _ (by omega)]; exact h.gL i (by omega)
 ·rw [hN] at hi
  by_cases J:i=c.N
  ·subst J; rw [aP]; simp [Ctx.grow,rowSize,hg]
  ·rw [bY c _ _ _ (by omega),←h.zz i (by omega)]; simp [Ctx.grow,hr i (by omega)]
 ·rcases key i o hi with ⟨I,_⟩ | ⟨I,a2⟩ <;> rcases key j o' hj with ⟨b1,_⟩ | ⟨b1,b2⟩
  ·exact .inl (by omega)
  ·subst I; rw [aP,bY c _ _ _ b1] at he; exact absurd he.symm (hr j b1)
  ·subst b1; rw [aP,bY c _ _ _ I] at he; exact absurd he (hr i I)
  ·rw [bY c _ _ _ I,bY c _ _ _ b1] at he; rw [dL c _ _ _ I,dL c _ _ _ b1]; exact h.inj i j _ _ a2 b2 he
 ·rcases key i o hi with ⟨rfl,rfl⟩ | ⟨I,a2⟩
  ·refine ⟨rfl,fun v hv=>⟨(bG e v (U v hv).1).2,(U v hv).2⟩,(cs.map (conc c)).toArray,T,(0,0),by rw [aP]; exact hg,by rw [aP]; simp,fun j v hj => ?_,rfl⟩
   rw [aP,(bG e v (U v (List.mem_of_getElem? hj)).1).1]
   simp [hj]
  ·exact (h.obj i o a2).later e I rfl
 ·rcases key i _ hi with ⟨rfl,_⟩ | ⟨I,a2⟩
  ·rw [aP]
  ·rw [dL c _ _ _ I] at hx
   rw [bY c _ _ _ I]; exact h.one i mK jl a2 hx
 ·rcases key i o hi with ⟨rfl,_⟩ | ⟨I,a2⟩
  ·rw [pQ] at hx; cases hx
  ·rw [dL c _ _ _ I] at hx; exact h.fx i o a2 hx
theorem cm.yF {c₀:Ctx}{w₀:World}{b n:Nat}(h:cm c₀ w₀ c w)(I:∀id,id<c.N→(c.ρ id).1≠b)(J:w₀.heap.size≤b): cm c₀ w₀ (c.grow b 0 n) w where
 ext:=h.ext.trans (l_ I 0 n)
 size:=h.size
 rows:=h.rows
 bX:=h.bX
 sys:=h.sys
 fresh:=fun id U h2=>by
  by_cases h3:id=c.N
  ·subst h3; left; rw [aP]; exact J
  ·have:id<c.N:=by
    have:(c.grow b 0 n).N=c.N+1:=rfl
    omega
   rw [bY c _ _ _ this]
   exact h.fresh id U this
theorem HO {L:List Oper}: ∀(l:List Oper) (k:Nat) (s:St) (hs:List H) (tr:List (Env×V)) (J:List H) (z:St),
  trace C self L l s hs=some (tr,J,z) →
  ∃st:Nat→St,st k=s∧st (k+l.length)=z∧tr.length=l.length∧J=hs++(b_ C l k).map (fun p=>(st (p+1)).h) ∧
   ∀j o,l[j]?=some o→∃v h,tr[j]?=some ((st (k+j)).env,v)∧(st (k+j)).put o.dst v h=some (st (k+j+1)) ∧
    (wantedV L (st (k+j)).env o=true→evOp C self (st (k+j)).env (st (k+j)).h o=some (v,h)) ∧
    (wantedV L (st (k+j)).env o=false→v=bt∧h=(st (k+j)).h):=by
 intro l
 induction l with
 | nil =>
  intro k s hs tr J z h
  simp only [trace,Option.some.injEq,Prod.mk.injEq] at h
  obtain ⟨rfl,rfl,rfl⟩:=h
  exact ⟨fun _=>s,rfl,rfl,rfl,by simp [b_],fun j o h=>by simp at h⟩
 | cons o l ih =>
  intro k s hs tr J z h
  simp only [trace] at h
  cases U:cond (wantedV L s.env o) (evOp C self s.env s.h o) (some (bt,s.h)) with
  | none=>simp [U] at h
  | some r =>
   obtain ⟨v,h'⟩:=r
   simp only [U] at h
   cases I:s.put o.dst v h' with
   | none=>simp [I] at h
   | some s' =>
    simp only [I] at h
    cases h3:trace C self L l s' (cond (isEff C o.op) (hs++[h']) hs) with
    | none=>simp [h3] at h
    | some q =>
     obtain ⟨SX,Rr,z'⟩:=q
     simp only [h3,Option.some.injEq,Prod.mk.injEq] at h
     obtain ⟨rfl,rfl,rfl⟩:=h
     obtain ⟨st,i1,i2,i3,i4,i5⟩:=ih (k+1) s' _ SX Rr z' h3
     have Rs:s'.h=h':=by
      cases hd:o.dst with
      | none=>rw [hd] at I; simp [St.put] at I; subst I; rfl
      | some d =>
       rw [hd] at I
       simp only [St.put] at I
       cases hq:Nat.blt d s.ak with
       | false=>simp [hq] at I
       | true=>simp [hq] at I; subst I; rfl
     refine ⟨fun i=>if i=k then s else st i,by simp,?_,by simp [i3],?_,?_⟩
     ·simp only [List.length_cons]
      rw [if_neg (by omega),show k+(l.length+1)=k+1+l.length from by omega]
      exact i2
     ·rw [i4]
      have My:(b_ C l (k+1)).map (fun p=>(st (p+1)).h)=(b_ C l (k+1)).map (fun p=>(if p+1=k then s else st (p+1)).h):=by
       refine List.map_congr_left fun p hp => ?_
       have:=(rq l (k+1)).2 p hp
       rw [if_neg (by omega)]
      simp only [b_]
      cases isEff C o.op with
      | true =>
       simp only [cond_true,List.map_cons]
       rw [My,if_neg (by omega),i1,Rs]
       simp
      | false=>simp only [cond_false]; rw [My]
     ·intro j x hx
      cases j with
      | zero =>
       simp at hx
       subst hx
       refine ⟨v,h',by simp,?_,?_,?_⟩
       ·simp only [Nat.add_zero,if_true]
        rw [if_neg (by omega),i1]; exact I
       ·intro hw
        simp only [Nat.add_zero,if_true] at hw ⊢
        rw [hw,cond_true] at U; exact U
       ·intro hw
        simp only [Nat.add_zero,if_true] at hw ⊢
        rw [hw,cond_false] at U
        simp at U
        exact ⟨U.1.symm,U.2.symm⟩
      | succ j =>
       simp at hx
       obtain ⟨OG,HP,e1,e2,e3,e4⟩:=i5 j x hx
       have n1:¬ (k+(j+1)=k):=by omega
       have n2:¬ (k+(j+1)+1=k):=by omega
       have n3:k+(j+1)=k+1+j:=by omega
       refine ⟨OG,HP,?_,?_,?_,?_⟩
       ·simp only [n1,if_false]; rw [n3]; simpa using e1
       ·simp only [n1,n2,if_false]; rw [n3]; exact e2
       ·simp only [n1,if_false]; rw [n3]; exact e3
       ·simp only [n1,if_false]; rw [n3]; exact e4
theorem kz {s s':St}{dst:Option Tmp}{v:V}{h:H}(I:s.put dst v h=some s'):
  s'.h=h∧s'.ak=s.ak∧(∀d,dst=some d→d<s.ak)∧∀t,s'.env.v t=if dst=some t then v else s.env.v t:=by
 cases hd:dst with
 | none=>rw [hd] at I; simp [St.put] at I; subst I; simp
 | some d =>
  rw [hd] at I
  simp only [St.put] at I
  cases J:Nat.blt d s.ak with
  | false=>simp [J] at I
  | true =>
   simp [J] at I
   subst I
   refine ⟨rfl,rfl,fun d' h'=>by simp at h'; subst h'; exact fA.1 J,fun t => ?_⟩
   simp only [Env.v,aC,Option.some.injEq]
   by_cases U:t=d
   ·subst U; simp
   ·simp [U,Ne.symm U]
structure eP (C:cf)(sf:Self)(L:List Oper)(s:St)(st:Nat→St)(vv:Nat→V)(es:List Nat)(Hs:Nat→H): Prop where
 back:∀i o,L[i]?=some o→∀e∈o.after,dy e=true→e.on<i
 Dx:∀j o,L[j]?=some o→∀i x,i<j→L[i]?=some x→bit ((nth (ancs L []) j).getD 0) i=true∨(gZ L x o=true∧(isEff C x.op=false∨isEff C o.op=false∨isAlloc o=true))
 Fl:∀i o,L[i]?=some o→isAlloc o=true→∀j u,L[j]?=some u→i<j→gZ L o u=true∨∀p∈es,p<i→bit ((nth (ancs L []) j).getD 0) p=true
 mq:∀p,p∈es↔∃o,L[p]?=some o∧isEff C o.op=true
 sorted:es.Pairwise (· < ·)
 start:st 0=s
 step:∀i o,L[i]?=some o→∃h,(st i).put o.dst (vv i) h=some (st (i+1)) ∧
    (wantedV L (st i).env o=true→evOp C sf (st i).env (st i).h o=some (vv i,h))∧(wantedV L (st i).env o=false→vv i=bt∧h=(st i).h)
 Dy:Hs 0=s.h
 uZ:∀k p,es[k]?=some p→Hs (k+1)=(st (p+1)).h
 PZ:∀i o,L[i]?=some o→isEff C o.op=false→∀(SY SZ p q:Nat),SY≤SZ→es[SY]?=some p→es[SZ]?=some q→bit ((nth (ancs L []) i).getD 0) q=true→bit ((nth (ancs L []) i).getD 0) p=true
 same:∀i o,L[i]?=some o→isEff C o.op=false→∀k,k≤es.length→(∀idx p,idx<k→es[idx]?=some p→bit ((nth (ancs L []) p).getD 0) i=false) →
  (∀idx p,k≤idx→es[idx]?=some p→bit ((nth (ancs L []) i).getD 0) p=false) →
  wantedV L (st i).env o=true→∃h',evOp C sf (st i).env (Hs k) o=some (vv i,h')
section draw
variable {L:List Oper} {s:St} {st:Nat→St} {vv:Nat→V} {es:List Nat} {Hs:Nat→H}
theorem u5 (mQ:∀i o,L[i]?=some o→∃h,(st i).put o.dst (vv i) h=some (st (i+1)) ∧
    (wantedV L (st i).env o=true→evOp C self (st i).env (st i).h o=some (vv i,h))∧(wantedV L (st i).env o=false→vv i=bt∧h=(st i).h))
 (Cq:∀p,p∈es↔∃o,L[p]?=some o∧isEff C o.op=true)(I:es.Pairwise (· < ·))(U:st 0=s)(Mz:Hs 0=s.h)(MA:∀k p,es[k]?=some p→Hs (k+1)=(st (p+1)).h): ∀(i k:Nat),i≤L.length→k≤es.length→(∀idx p,idx<k→es[idx]?=some p→p<i)→(∀idx p,k≤idx→es[idx]?=some p→i≤p)→(st i).h=Hs k:=by
 intro i
 induction i with
 | zero =>
  intro k _ hk h1 _
  have:k=0:=by
   rcases Nat.eq_zero_or_pos k with h | h
   ·exact h
   ·have h0:0<es.length:=by omega
    have:=h1 0 es[0] h (List.getElem?_eq_getElem h0)
    omega
  subst this
  rw [U,Mz]
 | succ i ih =>
  intro k hi hk h1 h2
  obtain ⟨o,ho⟩:∃o,L[i]?=some o:=⟨_,List.getElem?_eq_getElem (by omega)⟩
  obtain ⟨h,p1,p2,p3⟩:=mQ i o ho
  have ph:=(kz p1).1
  cases he:isEff C o.op with
  | true =>
   have hm:=(Cq i).2 ⟨o,ho,he⟩
   obtain ⟨idx,J⟩:=List.getElem?_of_mem hm
   -- its place is k - 1
   have VV:idx<k:=by
    rcases Nat.lt_or_ge idx k with h' | h'
    ·exact h'
    ·have:=h2 idx i h' J; omega
   have S0:k=idx+1:=by
    rcases Nat.lt_or_ge (idx+1) k with h' | h'
    ·exfalso
     have bB:idx+1<es.length:=by omega
     have h3:=h1 (idx+1) es[idx+1] h' (List.getElem?_eq_getElem bB)
     obtain ⟨OH,hv⟩:=List.getElem?_eq_some_iff.1 J
     have h4:=(List.pairwise_iff_getElem.1 I) idx (idx+1) OH bB (by omega)
     rw [hv] at h4
     omega
    ·omega
   rw [S0,MA idx i J]
  | false =>
   have hn:∀idx p,es[idx]?=some p→p≠i:=fun idx p hp e=>by
    subst e
    obtain ⟨o',qI,uY⟩:=(Cq p).1 (List.mem_of_getElem? hp)
    rw [ho] at qI
    simp at qI
    subst qI
    rw [he] at uY
    cases uY
   have:=ih k (by omega) hk (fun idx p bB hp=>by have:=h1 idx p bB hp; have:=hn idx p hp; omega) (fun idx p hle hp=>by have:=h2 idx p hle hp; omega)
   rw [ph,←this]
   cases hw:wantedV L (st i).env o with
   | true=>exact xq he (p2 hw)
   | false=>exact (p3 hw).2
theorem eP.zG (D:eP C self L s st vv es Hs): ∀(i k:Nat),i≤L.length→k≤es.length→(∀idx p,idx<k→es[idx]?=some p→p<i)→(∀idx p,k≤idx→es[idx]?=some p→i≤p)→(st i).h=Hs k :=
 u5 D.step D.mq D.sorted D.start D.Dy D.uZ
theorem eP.yG (D:eP C self L s st vv es Hs)(t:Nat): ∀(i:Nat),i≤L.length →
  (∃j o,j<i∧L[j]?=some o∧o.dst=some t∧(∀J o',J<i→L[J]?=some o'→o'.dst=some t→J≤j)∧(st i).env.v t=vv j) ∨
  ((∀J o',J<i→L[J]?=some o'→o'.dst≠some t)∧(st i).env.v t=s.env.v t):=by
 intro i
 induction i with
 | zero=>intro _; right; exact ⟨fun J o' h=>by omega,by rw [D.start]⟩
 | succ i ih =>
  intro hi
  obtain ⟨o,ho⟩:∃o,L[i]?=some o:=⟨_,List.getElem?_eq_getElem (by omega)⟩
  obtain ⟨h,p1,_,_⟩:=D.step i o ho
  obtain ⟨_,_,_,pe⟩:=kz p1
  by_cases hd:o.dst=some t
  ·left
   exact ⟨i,o,by omega,ho,hd,fun J o' h' _ _=>by omega,by rw [pe,if_pos hd]⟩
  ·rcases ih (by omega) with ⟨j,oj,h1,h2,h3,h4,h5⟩ | ⟨h1,h2⟩
   ·left
    refine ⟨j,oj,by omega,h2,h3,fun J o' hj I Fo => ?_,by rw [pe,if_neg hd]; exact h5⟩
    by_cases U:J=i
    ·subst U; rw [ho] at I; simp at I; subst I; exact absurd Fo hd
    ·exact h4 J o' (by omega) I Fo
   ·right
    refine ⟨fun J o' hj I => ?_,by rw [pe,if_neg hd]; exact h2⟩
    by_cases U:J=i
    ·subst U; rw [ho] at I; simp at I; subst I; exact hd
    ·exact h1 J o' (by omega) I
theorem eP.ak (D:eP C self L s st vv es Hs): ∀i,i≤L.length→(st i).ak=s.ak:=by
 intro i
 induction i with
 | zero=>intro _; rw [D.start]
 | succ i I =>
  intro hi
  obtain ⟨o,ho⟩:∃o,L[i]?=some o:=⟨_,List.getElem?_eq_getElem (by omega)⟩
  obtain ⟨h,J,_,_⟩:=D.step i o ho
  rw [(kz J).2.1,I (by omega)]
inductive FV where
 | ptr
 | sl (n m:Nat)
def FV.v : FV→Nat→V
 | .ptr,i=>.ptr i 0
 | .sl n m,i=>.sl i 0 n (.exact m)
def FV.val : FV→Nat→Value
 | .ptr,b=>.pointer (some ⟨b,0,none⟩)
 | .sl n m,b=>.slice (some ⟨b,0,none⟩) n m
def FV.good : FV→Prop
 | .ptr=>True
 | .sl n m=>n≤m
theorem FV.Fp (fv:FV)(c:Ctx)(b size:Nat): conc (c.grow b 0 size) (fv.v c.N)=fv.val b:=by
 cases fv <;> simp [FV.v,FV.val,conc,aP]
theorem FV.KT {fv:FV}(h:fv.good)(c:Ctx)(b size:Nat): wf (c.grow b 0 size) (fv.v c.N):=by
 cases fv with
 | ptr=>simp [FV.v,wf,g8]
 | sl n m=>simp only [FV.v,wf,g8]; exact ⟨Nat.lt_succ_self _,h⟩
structure wC (C:cf)(sf:Self)(env:Env)(o:Oper)(fv:FV)(cs:List V)(T:TypeId): Prop where
 ev:∀h,evOp C sf env h o=some (fv.v h.next,Am.newRow h cs)
 good:fv.good
 S1:∀(c:Ctx) (v:V),v∈cs→wf c v∧storable v=true
 same:∀c c':Ctx,cs.map (conc c')=cs.map (conc c)
 run:∀(c:Ctx) (a:Act),sx c env a o→∀w,(execOp a.eval o).run C.P w=.ok (.value (fv.val w.heap.size)) (w.alloc (.cells (cs.map (conc c)).toArray T))
theorem u7 {P:Program}{T:TypeId}{z:V}(J:zeroT P T=some z)(c U:Ctx): z.cells.map (conc U)=z.cells.map (conc c):=by
 have h1:=(dI (P:=P) J c default).1
 have I:=(dI (P:=P) J U default).1
 rw [h1] at I
 simp only [Result.ok.injEq,and_true] at I
 have h3:=congrArg Value.cells I
 rw [dg,dg] at h3
 simpa using h3.symm
theorem tM {β:Type}(f:V→β)(z:List V): ∀n,(repeatL z n).map f=(List.replicate n (z.map f)).flatten:=by
 intro n
 induction n with
 | zero=>rfl
 | succ n I=>simp [repeatL,I,List.replicate_succ]
theorem run_makeSlice {P:Program}{t e:TypeId}{i:TypeInfo}{z:V}{k1 k2:IntKind}{l n:Int}(ht:P.underlying t=some (.slice e))(hi:P.info? e=some i)(hz:zeroT P e=some z)
 (q1:0≤l)(q2:l≤n)(q3:n<1073741824)(q4:i.bytes≤4096)(q5:z.cells.length=i.size)(q6:1≤i.size)(c:Ctx)(w:World):
  (Instr.makeSlice t (.int k1 l) (.int k2 n)).run P w=.ok (.slice (some ⟨w.heap.size,0,none⟩) l.toNat n.toNat) (w.alloc (.cells ((repeatL z.cells n.toNat).map (conc c)).toArray e)):=by
 obtain ⟨z1,z2⟩:=dI hz c w
 have w1:=oh q1 (by omega)
 have w2:=oh (x:=n) (by omega) (by omega)
 have hb:¬ ((i.bytes:Int)*n>2^48):=by
  have:(i.bytes:Int)*n≤4096*1073741824:=Int.mul_le_mul (by omega) (by omega) (by omega) (by omega)
  omega
 have U:¬ (n<0):=by omega
 have xo:¬ (l<0):=by omega
 have Mn:¬ (l>n):=by omega
 have J:(sizeOf e).run P w=.ok i.size w:=by simp [sizeOf,typeInfo,hi]
 have E0:(typeInfo e).run P w=.ok i w:=by simp [typeInfo,hi]
 simp only [Instr.makeSlice,Sem.run_bind,run_underlying ht,Result.andThen_ok,asInt,asIntOf,Sem.run_pure,E0,w1,w2]
 have I:(((decide (n<0)||decide ((i.bytes:Int)*n>2^48))||decide (l<0))||decide (l>n))=false:=by
  simp only [U,hb,xo,Mn,decide_false,Bool.or_self]
 rw [I]
 simp only [Bool.false_eq_true,if_false]
 by_cases h0:n.toNat*i.size=0
 ·have hn:n.toNat=0:=by
   rcases Nat.mul_eq_zero.1 h0 with e1 | e1
   ·exact e1
   ·omega
  rw [hn]
  have tG:(Array.map (fun (_:Nat)=>(default:Value)) (Array.range 0)) = #[]:=by simp [Array.range]
  simp [Go.newRow,repeatL,J,tG]
 ·have tF:((Array.range (n.toNat*i.size)).map fun j=>((z.cells.map (conc c)).toArray)[j%((z.cells.map (conc c)).toArray).size]!)=((repeatL z.cells n.toNat).map (conc c)).toArray:=by
   rw [←q5]; exact kT c z.cells n.toNat (by omega)
  have zk:(conc c z).cells=(z.cells.map (conc c)).toArray:=dg c z
  simp only [Sem.run_bind,Sem.run_pure,run_askRoom,Result.andThen_ok,J,h0,if_false,z1,zk,tF,Go.newRow,run_newObj]
  rfl
theorem pW {o:Oper}(h:isAlloc o=true): ((∃T,o.op=.alloc T)∨∃t x y,o.op=.makeSlice t x y)∧o.guard=none∧∃d,o.dst=some d:=by
 unfold isAlloc at h
 split at h
 ·rename_i T d I J U
  exact ⟨.inl ⟨T,I⟩,J,⟨d,U⟩⟩
 ·rename_i t x y d I J U
  exact ⟨.inr ⟨t,x,y,I⟩,J,⟨d,U⟩⟩
 ·simp at h
theorem Dz {o:Oper}{env:Env}{h h':H}{v:V}(Fq:isAlloc o=true)(I:evOp C self env h o=some (v,h')): ∃fv cs T,wC C self env o fv cs T:=by
 obtain ⟨J,hg,d,hd⟩:=pW Fq
 rcases J with ⟨T,J⟩ | ⟨t,x,y,J⟩
 ·cases U:zeroT C.P T with
  | none=>simp [evOp,J,U] at I
  | some z =>
   refine ⟨.ptr,z.cells,T,fun h=>by simp [evOp,J,U,FV.v],trivial,fun c v hv=>⟨gM (dI (P:=C.P) U c default).2 v hv,iB U v hv⟩,u7 U,fun c a _ w => ?_⟩
   simp [execOp,J,Instr.alloc,(dI U c w).1,newVar,Go.newRow,dg,FV.val]
 ·simp only [evOp,J] at I
  cases hx:evO env x with
  | none=>simp [hx] at I
  | some u =>
   cases hy:evO env y with
   | none=>simp [hx,hy] at I
   | some u' =>
    simp only [hx,hy] at I
    have Vn:=I
    unfold makeSliceV at I
    generalize ht:C.P.underlying t=dt at I
    split at I
    ·rename_i e
     split at I
     ·rename_i i z k1 l k2 n hi U
      cases hq:(decide (0≤l)&&decide (l≤n)&&decide (n<1073741824)&&Nat.ble i.bytes 4096&&Nat.beq z.cells.length i.size&&Nat.ble 1 i.size) with
      | false=>simp [hq] at I
      | true =>
       have nI:=hq
       simp only [Bool.and_eq_true,decide_eq_true_eq,beq_iff,ay] at hq
       obtain ⟨⟨⟨⟨⟨q1,q2⟩,q3⟩,q4⟩,q5⟩,q6⟩:=hq
       have hlen:(repeatL z.cells n.toNat).length=n.toNat*i.size:=by rw [jE,q5]
       refine ⟨.sl l.toNat n.toNat,repeatL z.cells n.toNat,e,fun h => ?_,by simp only [FV.good]; omega,fun c v hv=>⟨gM (dI (P:=C.P) U c default).2 v (ic hv),iB U v (ic hv)⟩,
        fun c c'=>by rw [tM,tM,u7 U c c'],fun c a ho w => ?_⟩
       ·simp only [evOp,J,hx,hy,makeSliceV,ht,hi,U,nI,cond_true,FV.v,Am.newRow,hlen]
       ·obtain ⟨x1,_⟩:=ho x (by simp [J,Op.operands]) _ hx
        obtain ⟨y1,_⟩:=ho y (by simp [J,Op.operands]) _ hy
        have:=run_makeSlice (k1:=k1) (k2:=k2) ht hi U q1 q2 q3 q4 q5 q6 c w
        simp only [conc] at x1 y1
        simp [execOp,J,x1,y1,this,FV.val]
     ·cases I
    ·cases I
structure eD (C:cf)(sf:Self)(L:List Oper)(s:St)(st:Nat→St)(vv:Nat→V)(es:List Nat)(Hs:Nat→H)(c₀:Ctx)(w₀:World)(d₀:List Deferred)
 (S:Nat→Prop)(early:Nat→Option (Nat×FV))(k:Nat)(c:Ctx)(a:Act)(w:World): Prop where
 closed:∀i o,S i→L[i]?=some o→∀e∈o.after,dy e=true→S e.on
 pre:∀idx p,idx<k→es[idx]?=some p→S p
 zH:k≤es.length
 late:∀idx p,k≤idx→es[idx]?=some p→S p→∃o b,L[p]?=some o∧isAlloc o=true∧early p=some b
 nc:∀p b,early p=some b→S p∧∃idx,k≤idx∧es[idx]?=some p
 rel:Rel c (Hs k) w
 size:a.tmps.size=s.ak
 tmp:∀t,(∃i o,S i∧L[i]?=some o∧o.dst=some t∧(∀j o',S j→L[j]?=some o'→o'.dst=some t→j≤i) ∧
     ((∃b,early i=some b∧a.tmps.getD t undef=b.2.val b.1)∨(early i=none∧a.tmps.getD t undef=conc c (vv i)∧wf c (vv i)))) ∨
    ((∀j o',S j→L[j]?=some o'→o'.dst≠some t)∧a.tmps.getD t undef=conc c (s.env.v t)∧wf c (s.env.v t))
 blocks:∀p b,early p=some b→w₀.heap.size≤b.1∧b.1<w.heap.size∧(∀id,id<c.N→(c.ρ id).1≠b.1) ∧
  ∃o T cs,L[p]?=some o∧wC C sf (st p).env o b.2 cs T∧w.heap[b.1]?=some (.cells (cs.map (conc c)).toArray T (0,0))
 distinct:∀p q b b',early p=some b→early q=some b'→b.1=b'.1→p=q
 Cs:cm c₀ w₀ c w
 defers:a.defers=d₀
theorem Fs (D:eP C self L s st vv es Hs){i j p:Nat}(U:es[i]?=some p)(h2:es[j]?=some p): i=j:=by
 obtain ⟨I,b1⟩:=List.getElem?_eq_some_iff.1 U
 obtain ⟨J,b2⟩:=List.getElem?_eq_some_iff.1 h2
 rcases Nat.lt_trichotomy i j with h | h | h
 ·have:=(List.pairwise_iff_getElem.1 D.sorted) i j I J h; omega
 ·exact h
 ·have:=(List.pairwise_iff_getElem.1 D.sorted) j i J I h; omega
theorem sB (D:eP C self L s st vv es Hs){i j p q:Nat}(U:es[i]?=some p)(h2:es[j]?=some q): i<j↔p<q:=by
 obtain ⟨I,b1⟩:=List.getElem?_eq_some_iff.1 U
 obtain ⟨J,b2⟩:=List.getElem?_eq_some_iff.1 h2
 constructor
 ·intro h; have:=(List.pairwise_iff_getElem.1 D.sorted) i j I J h; omega
 ·intro h
  rcases Nat.lt_trichotomy i j with h' | h' | h'
  ·exact h'
  ·subst h'; omega
  ·have:=(List.pairwise_iff_getElem.1 D.sorted) j i J I h'; omega
theorem eD.MB {c₀:Ctx}{w₀:World}{d₀:List Deferred}{S:Nat→Prop}{early:Nat→Option (Nat×FV)}{k p:Nat}{a:Act}(D:eP C self L s st vv es Hs)
 (I:eD C self L s st vv es Hs c₀ w₀ d₀ S early k c a w)(hp:es[k]?=some p)(hS:S p):
  ∃ru c',eD C self L s st vv es Hs c₀ w₀ d₀ S ru (k+1) c' a w:=by
 obtain ⟨o,b,ho,Fq,JM⟩:=I.late k p (Nat.le_refl _) hp hS
 obtain ⟨b1,b2,b3,o',T,cs,qI,F,sC⟩:=I.blocks p b JM
 rw [ho] at qI
 simp at qI
 subst qI
 obtain ⟨_,hg,d,hd⟩:=pW Fq
 obtain ⟨h,p1,p2,_⟩:=D.step p o ho
 have hw:wantedV L (st p).env o=true:=by simp [wantedV,hg]
 have iV:=p2 hw
 have hlen:p<L.length:=(List.getElem?_eq_some_iff.1 ho).1
 have OI:(st p).h=Hs k:=D.zG p k (by omega) I.zH (fun idx q bB J=>(sB D J hp).1 bB) (fun idx q hle J=>by
  rcases Nat.eq_or_lt_of_le hle with e | e
  ·subst e; rw [hp] at J; simp at J; omega
  ·exact Nat.le_of_lt ((sB D hp J).1 e))
 rw [F.ev] at iV
 simp only [OI,Option.some.injEq,Prod.mk.injEq] at iV
 obtain ⟨hv,hh⟩:=iV
 have OJ:Hs (k+1)=Am.newRow (Hs k) cs:=by rw [D.uZ k p hp,(kz p1).1,hh]
 have ex:=l_ b3 0 cs.length
 have Rt:∀v∈cs,wf c v∧storable v=true:=fun v hv=>F.S1 c v hv
 refine ⟨fun q=>if q=p then none else early q,c.grow b.1 0 cs.length,⟨I.closed,fun idx q bB J => ?_,?_,fun idx q hle J S2 => ?_,fun q b' J => ?_,?_,I.size,fun t => ?_,fun q b' J => ?_,fun q q' b' P0 J nI he => ?_,?_,I.defers⟩⟩
 ·by_cases e:idx=k
  ·subst e; rw [hp] at J; simp at J; subst J; exact hS
  ·exact I.pre idx q (by omega) J
 ·have:=(List.getElem?_eq_some_iff.1 hp).1; omega
 ·obtain ⟨o',b',g1,g2,g3⟩:=I.late idx q (by omega) J S2
  have U:q≠p:=fun e=>by subst e; have:=Fs D J hp; omega
  exact ⟨o',b',g1,g2,by simp [U,g3]⟩
 ·by_cases U:q=p
  ·simp [U] at J
  ·simp [U] at J
   obtain ⟨g1,idx,g2,g3⟩:=I.nc q b' J
   refine ⟨g1,idx,?_,g3⟩
   rcases Nat.eq_or_lt_of_le g2 with e | e
   ·subst e; rw [hp] at g3; simp at g3; exact absurd g3.symm U
   ·exact e
 ·rw [OJ]
  exact I.rel.yF b2 b3 Rt sC
 ·rcases I.tmp t with ⟨i,oi,g1,g2,g3,g4,g5⟩ | ⟨g1,g2,g3⟩
  ·left
   refine ⟨i,oi,g1,g2,g3,g4,?_⟩
   by_cases MC:i=p
   ·subst MC
    right
    refine ⟨by simp,?_,?_⟩
    ·rcases g5 with ⟨b',e1,e2⟩ | ⟨e1,_⟩
     ·rw [JM] at e1
      simp at e1
      subst e1
      rw [e2,←hv,I.rel.next,FV.Fp]
     ·rw [JM] at e1; cases e1
    ·rw [←hv,I.rel.next]; exact FV.KT F.good c _ _
   ·rcases g5 with ⟨b',e1,e2⟩ | ⟨e1,e2,e3⟩
    ·left; exact ⟨b',by simp [MC,e1],e2⟩
    ·right
     exact ⟨by simp [MC,e1],by rw [e2,(bG ex _ e3).1],(bG ex _ e3).2⟩
  ·right
   exact ⟨g1,by rw [g2,(bG ex _ g3).1],(bG ex _ g3).2⟩
 ·by_cases U:q=p
  ·simp [U] at J
  ·simp [U] at J
   obtain ⟨g1,g2,g3,o',T',cs',g4,g5,g7⟩:=I.blocks q b' J
   refine ⟨g1,g2,fun id qG => ?_,o',T',cs',g4,g5,by rw [g5.same c _]; exact g7⟩
   by_cases hN:id=c.N
   ·subst hN
    rw [aP]
    intro e
    exact U (I.distinct q p b' b J JM e.symm)
   ·have:(c.grow b.1 0 cs.length).N=c.N+1:=rfl
    rw [bY c _ _ _ (by omega)]
    exact g3 id (by omega)
 ·by_cases h1:q=p
  ·simp [h1] at J
  ·by_cases h2:q'=p
   ·simp [h2] at nI
   ·simp [h1] at J; simp [h2] at nI; exact I.distinct q q' b' P0 J nI he
 ·exact I.Cs.yF b3 b1
theorem eD.xu {c₀:Ctx}{w₀:World}{d₀:List Deferred}{S:Nat→Prop}{a:Act}(D:eP C self L s st vv es Hs): ∀(m k:Nat) (early:Nat→Option (Nat×FV)) (c:Ctx),
  es.length-k=m→eD C self L s st vv es Hs c₀ w₀ d₀ S early k c a w→∃J k' c',eD C self L s st vv es Hs c₀ w₀ d₀ S J k' c' a w∧∀p,es[k']?=some p→¬ S p:=by
 intro m
 induction m with
 | zero =>
  intro k early c hm I
  refine ⟨early,k,c,I,fun p hp => ?_⟩
  have:=(List.getElem?_eq_some_iff.1 hp).1
  omega
 | succ m ih =>
  intro k early c hm I
  cases hq:es[k]? with
  | none=>exact ⟨early,k,c,I,fun p hp=>by rw [hq] at hp; cases hp⟩
  | some p =>
   by_cases hS:S p
   ·obtain ⟨e',c',I'⟩:=I.MB D hq hS
    exact ih (k+1) e' c' (by omega) I'
   ·exact ⟨early,k,c,I,fun p' U=>by rw [hq] at U; simp at U; subst U; exact hS⟩
end draw
end
end Go.Proofs.YtconhghphklfjaaGreat.Am
