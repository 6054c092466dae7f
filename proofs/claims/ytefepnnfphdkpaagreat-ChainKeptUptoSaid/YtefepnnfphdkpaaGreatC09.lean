/- ChainKept: a part of its proof; conditions: its statement's. -/
import Derived.Test.YtefepnnfphdkpaaGreatC08
import Derived.Orders
namespace Go.Proofs.YtefepnnfphdkpaaGreat.Am
open Go
theorem CU (m i:Nat): bit m i=m.testBit i:=by
 rw [Fo,bit,AK,beq_iff]
 simp
theorem FD (a b i:Nat): bit (Nat.lor a b) i=(bit a i||bit b i):=by
 simp only [CU]; exact Nat.testBit_or a b i
theorem Ol (k i:Nat): bit (2^k) i=decide (k=i):=by
 rw [CU]; exact AB
theorem Lm (i:Nat): bit 0 i=false:=by simp [CU]
theorem I2 {acc:List Nat}{es:List Edge}{j:Nat}(h:bit (ancOf acc es) j=true):
  ∃e∈es,eA e=true∧(e.on=j∨bit ((nth acc e.on).getD 0) j=true):=by
 induction es with
 | nil=>simp [ancOf,Lm] at h
 | cons e es ih =>
  simp only [ancOf] at h
  cases I:eA e with
  | true =>
   rw [I,af,FD,FD,Ol] at h
   simp only [jS,dx] at h
   rcases h with (h | h) | h
   ·exact ⟨e,by simp,I,.inl h⟩
   ·exact ⟨e,by simp,I,.inr h⟩
   ·obtain ⟨J,h1,h2⟩:=ih h
    exact ⟨J,by simp [h1],h2⟩
  | false =>
   rw [I,ay] at h
   obtain ⟨J,h1,h2⟩:=ih h
   exact ⟨J,by simp [h1],h2⟩
theorem Ln : ∀(l:List Oper) (acc:List Nat),(∀j,j<acc.length→(ancs l acc)[j]?=acc[j]?) ∧
  (∀j o,l[j]?=some o→∃pre,pre.length=acc.length+j∧(∀k,k<acc.length+j→pre[k]?=(ancs l acc)[k]?)∧(ancs l acc)[acc.length+j]?=some (ancOf pre o.after.toList)):=by
 intro l
 induction l with
 | nil=>intro acc; exact ⟨fun _ _=>rfl,fun j o h=>by simp at h⟩
 | cons x l ih =>
  intro acc
  obtain ⟨I,h2⟩:=ih (acc++[ancOf acc x.after.toList])
  simp only [ancs]
  refine ⟨fun j hj => ?_,fun j o ho => ?_⟩
  ·rw [I j (by simp; omega),gx hj]
  ·cases j with
   | zero =>
    simp at ho
    subst ho
    refine ⟨acc,by simp,fun k J => ?_,?_⟩
    ·rw [I k (by simp; omega),gx (by simpa using J)]
    ·rw [ik,I acc.length (by simp)]
     simp
   | succ j =>
    simp at ho
    obtain ⟨pre,p1,p2,p3⟩:=h2 j o ho
    simp only [bD,List.length_singleton] at p1 p2 p3
    exact ⟨pre,by omega,fun k J=>p2 k (by omega),by rw [show acc.length+(j+1)=acc.length+1+j from by omega]; exact p3⟩
section
variable {C:b8} {self:Self}
theorem CV {L:List Oper}(hb:∀i o,L[i]?=some o→∀e∈o.after,eA e=true→e.on<i)(S:Nat→Prop):
  ∀(i:Nat) (o:Oper),L[i]?=some o→(∀k o',k<i→L[k]?=some o'→S k→∀e∈o'.after,eA e=true→S e.on)→(∀e∈o.after,eA e=true→S e.on) →
  ∀j,bit ((nth (ancs L []) i).getD 0) j=true→S j∧j<i:=by
 intro i
 induction i using Nat.strongRecOn with
 | _ i ih =>
  intro o ho jf hi j hj
  obtain ⟨pre,p1,p2,p3⟩:=(Ln L []).2 i o ho
  simp only [bB,dJ] at p1 p2 p3
  rw [eW,p3] at hj
  obtain ⟨e,he,FE,J⟩:=I2 hj
  have yM:e∈o.after:=by simpa using he
  have I:=hb i o ho e yM FE
  have hS:=hi e yM FE
  rcases J with J | J
  ·rw [←J]; exact ⟨hS,I⟩
  ·have hlen:i<L.length:=(List.getElem?_eq_some_iff.1 ho).1
   obtain ⟨o',rq⟩:∃o',L[e.on]?=some o':=⟨_,aN (Nat.lt_trans I hlen)⟩
   rw [eW,p2 e.on I,←eW] at J
   obtain ⟨r1,r2⟩:=ih e.on I o' rq (fun k PZ hk=>jf k PZ (Nat.lt_trans hk I)) (fun e'=>jf e.on o' I rq hS e') j J
   exact ⟨r1,Nat.lt_trans r2 I⟩
theorem CW : ∀(l:List Oper) (k:Nat),edgesBack l k=true→∀i o,l[i]?=some o→∀e∈o.after,eA e=true→e.on<k+i:=by
 intro l
 induction l with
 | nil=>intro k _ i o h; simp at h
 | cons x l ih =>
  intro k h i o ho e he J
  simp only [edgesBack] at h
  cases I:(x.after.toList.all fun e => !eA e||Nat.blt e.on k) with
  | false=>rw [I,ay] at h; cases h
  | true =>
   rw [I,af] at h
   cases i with
   | zero =>
    simp at ho
    subst ho
    have:=List.all_eq_true.1 I e (by simpa using he)
    simp only [J,Bool.not_true,pV] at this
    have:=fF.1 this
    omega
   | succ i =>
    simp at ho
    have:=ih (k+1) h i o ho e he J
    omega
theorem I3 {ops:List Oper}{o:Oper}{m:Nat}: ∀(l:List Oper) (k:Nat),uF C ops o m l k=true→∀i x,l[i]?=some x →
  bit m (k+i)=true∨(jo ops x o=true∧(isEff C x.op=false∨isEff C o.op=false∨isAlloc o=true)):=by
 intro l
 induction l with
 | nil=>intro k _ i x h; simp at h
 | cons y l ih =>
  intro k h i x hx
  simp only [uF] at h
  cases J:(bit m k||(jo ops y o&&(!(isEff C y.op&&isEff C o.op)||isAlloc o))) with
  | false=>rw [J,ay] at h; cases h
  | true =>
   rw [J,af] at h
   cases i with
   | zero =>
    simp at hx
    subst hx
    simp only [jS,aI,sy,Bool.and_eq_false_iff] at J
    rcases J with J | ⟨h1,I | I⟩
    ·exact .inl J
    ·rcases I with I | I
     ·exact .inr ⟨h1,.inl I⟩
     ·exact .inr ⟨h1,.inr (.inl I)⟩
    ·exact .inr ⟨h1,.inr (.inr I)⟩
   | succ i =>
    simp at hx
    have:=ih (k+1) h i x hx
    rwa [show k+1+i=k+(i+1) from by omega] at this
theorem GX {ops:List Oper}{as:List Nat}: ∀(l:List Oper) (k:Nat),wo C ops as l k=true→∀j o,l[j]?=some o→∀i x,i<k+j→ops[i]?=some x →
  bit ((nth as (k+j)).getD 0) i=true∨(jo ops x o=true∧(isEff C x.op=false∨isEff C o.op=false∨isAlloc o=true)):=by
 intro l
 induction l with
 | nil=>intro k _ j o h; simp at h
 | cons y l ih =>
  intro k h j o ho i x hi J
  simp only [wo] at h
  cases I:uF C ops y ((nth as k).getD 0) (ops.take k) 0 with
  | false=>rw [I,ay] at h; cases h
  | true =>
   rw [I,af] at h
   cases j with
   | zero =>
    simp at ho
    subst ho
    have:=I3 (ops.take k) 0 I i x (by rw [jj,au (by omega)]; exact J)
    simpa using this
   | succ j =>
    simp at ho
    have:=ih (k+1) h j o ho i x (by omega) J
    rwa [show k+1+j=k+(j+1) from by omega] at this
theorem I4 : ∀(l:List Oper) (k p:Nat),p∈cJ C l k↔∃i o,p=k+i∧l[i]?=some o∧isEff C o.op=true:=by
 intro l
 induction l with
 | nil=>intro k p; simp [cJ]
 | cons y l ih =>
  intro k p
  simp only [cJ]
  cases hy:isEff C y.op with
  | true =>
   rw [af,gC,ih]
   constructor
   ·rintro (rfl | ⟨i,o,rfl,I,J⟩)
    ·exact ⟨0,y,by simp,by simp,hy⟩
    ·exact ⟨i+1,o,by omega,by simpa using I,J⟩
   ·rintro ⟨i,o,rfl,I,J⟩
    cases i with
    | zero=>left; rfl
    | succ i=>right; exact ⟨i,o,by omega,by simpa using I,J⟩
  | false =>
   rw [ay,ih]
   constructor
   ·rintro ⟨i,o,rfl,I,J⟩
    exact ⟨i+1,o,by omega,by simpa using I,J⟩
   ·rintro ⟨i,o,rfl,I,J⟩
    cases i with
    | zero=>simp at I; subst I; rw [hy] at J; cases J
    | succ i=>exact ⟨i,o,by omega,by simpa using I,J⟩
theorem uV : ∀(l:List Oper) (k:Nat),(cJ C l k).Pairwise (· < ·)∧∀p∈cJ C l k,k≤p:=by
 intro l
 induction l with
 | nil=>intro k; simp [cJ]
 | cons y l ih =>
  intro k
  obtain ⟨h1,J⟩:=ih (k+1)
  simp only [cJ]
  cases isEff C y.op with
  | true =>
   rw [af]
   exact ⟨List.pairwise_cons.2 ⟨fun p I=>by have:=J p I; omega,h1⟩,fun p I=>by
    rcases List.mem_cons.1 I with rfl | I
    ·exact aD _
    ·have:=J p I; omega⟩
  | false=>exact ⟨h1,fun p I=>by have:=J p I; omega⟩
theorem I5 {m j:Nat}: ∀ {l:List Nat},l.Pairwise (· < ·)→effsIn m j l=true→∀p∈l,p<j→bit m p=true:=by
 intro l
 induction l with
 | nil=>intro _ _ p I; simp at I
 | cons q l ih =>
  intro hs h p I J
  simp only [effsIn] at h
  rw [nK] at hs
  cases hq:Nat.blt q j with
  | true =>
   rw [hq,af] at h
   cases hb:bit m q with
   | false=>simp [hb] at h
   | true =>
    rw [hb,af] at h
    rcases List.mem_cons.1 I with rfl | I
    ·exact hb
    ·exact ih hs.2 h p I J
  | false =>
   have mZ:¬ q<j:=fun e=>by rw [fF.2 e] at hq; cases hq
   rcases List.mem_cons.1 I with rfl | I
   ·exact absurd J mZ
   ·have:=hs.1 p I; omega
theorem GY {ops:List Oper}{as es:List Nat}{o:Oper}{j:Nat}: ∀(l:List Oper) (k:Nat),sJ ops as es o j l k=true→∀i u,l[i]?=some u→j<k+i →
  jo ops o u=true∨effsIn ((nth as (k+i)).getD 0) j es=true:=by
 intro l
 induction l with
 | nil=>intro k _ i u h; simp at h
 | cons y l J =>
  intro k h i u hu a_
  simp only [sJ] at h
  cases I:(Nat.ble k j||jo ops o y||effsIn ((nth as k).getD 0) j es) with
  | false=>rw [I,ay] at h; cases h
  | true =>
   rw [I,af] at h
   cases i with
   | zero =>
    simp at hu
    subst hu
    simp only [jS,aE] at I
    rcases I with (I | I) | I
    ·omega
    ·exact .inl I
    ·exact .inr I
   | succ i =>
    simp at hu
    have:=J (k+1) h i u hu (by omega)
    rwa [show k+1+i=k+(i+1) from by omega] at this
theorem EN {ops:List Oper}{as es:List Nat}: ∀(l:List Oper) (k:Nat),tu ops as es l k=true→∀i o,l[i]?=some o→isAlloc o=true →
  ∀j u,ops[j]?=some u→k+i<j→jo ops o u=true∨effsIn ((nth as j).getD 0) (k+i) es=true:=by
 intro l
 induction l with
 | nil=>intro k _ i o h; simp at h
 | cons y l ih =>
  intro k h i o ho J j u hu a_
  simp only [tu] at h
  cases I:(!isAlloc y||sJ ops as es y k ops 0) with
  | false=>rw [I,ay] at h; cases h
  | true =>
   rw [I,af] at h
   cases i with
   | zero =>
    simp at ho
    subst ho
    simp only [J,Bool.not_true,pV] at I
    have:=GY ops 0 I j u hu (by omega)
    simpa using this
   | succ i =>
    simp at ho
    have:=ih (k+1) h i o ho J j u hu (by omega)
    rwa [show k+1+i=k+(i+1) from by omega] at this
theorem xL {l:List Nat}{k:Nat}: tq l k=true↔k∈l:=by
 induction l with
 | nil=>simp [tq]
 | cons x l I =>
  simp only [tq,gC]
  by_cases h:x=k
  ·subst h; simp
  ·rw [cT h,ay,I]
   exact ⟨.inr,fun e=>e.resolve_left (fun e=>h e.symm)⟩
theorem ru {ops:List Oper}{x y:Oper}(h:jo ops x y=true):
  (∀d,x.dst=some d→d∉looks ops y∧y.dst≠some d)∧(∀d,y.dst=some d→d∉looks ops x):=by
 simp only [jo,aI] at h
 refine ⟨fun d hd => ?_,fun d hd => ?_⟩
 ·have I:=h.1
  rw [hd] at I
  simp only [aI,sy] at I
  refine ⟨fun hm => ?_,fun he => ?_⟩
  ·rw [xL.2 hm] at I; cases I.1
  ·rw [he] at I
   simp [optBeq] at I
 ·have I:=h.2
  rw [hd] at I
  simp only [sy] at I
  exact fun hm=>by rw [xL.2 hm] at I; cases I
theorem BI {env:Env}{h h':H}{o:Oper}{v:V}(he:isEff C o.op=false)(I:evOp C self env h o=some (v,h')): h'=h:=by
  unfold evOp at I
  have pv:∀ {x:Option V},aL x h=some (v,h')→h'=h:=fun {x} e=>by
    cases x with
    | none=>simp [aL] at e
    | some u=>simp [aL] at e; exact e.2.symm
  split at I
  case h_13 s d x ho =>
    simp only [isEff,ho] at he
    split at I
    · rename_i u hu
      split at I
      · rename_i r J
        obtain ⟨r1,r2⟩:=r
        simp only [aj,aB] at I
        obtain ⟨rfl,rfl⟩:=I
        unfold convV at J
        repeat' (split at J)
        all_goals first
          | (simp only [aj,aB] at J; exact J.2.symm)
          | (rw [AS] at J
             split at J
             · simp only [aj,aB] at J
               exact J.2.symm
             · cases J)
          | (simp at J; done)
      · unfold convB at I
        generalize C.P.underlying s=ds at I
        generalize C.P.underlying d=dd at I he
        split at I
        · simp at he
        · simp at he
        · simp at I
    · simp at I
  case h_31 cl ho =>
    simp only [isEff,ho] at he
    unfold evCall at I
    split at I
    · simp at I
    · rename_i args _
      split at I
      · rename_i b hb
        rw [hb] at he
        unfold builtinV at I
        split at I
        · repeat' (split at I)
          · rename_i t _ _
            cases hl:lenV C.P h t _ with
            | none=>rw [hl] at I; simp at I
            | some q=>rw [hl] at I; simp at I; exact I.2.symm
          · simp at I
        · simp at he
        · simp at he
        · simp at he
        · simp at he
        · rename_i x l _
          cases hl:foldV maxV x l with
          | none=>simp [hl] at I
          | some q=>simp [hl] at I; exact I.2.symm
        · rename_i x l _
          cases hl:foldV xF x l with
          | none=>simp [hl] at I
          | some q=>simp [hl] at I; exact I.2.symm
        · simp at I
      · rename_i f hf; rw [hf] at he; simp at he
      · rename_i f m hf; rw [hf] at he; simp at he
  all_goals (try (rename_i ho; simp only [isEff,ho] at he; cases he; done))
  all_goals first
    | exact pv I
    | (repeat' (split at I)
       all_goals first
         | exact pv I
         | (simp only [aj,aB] at I; exact I.2.symm)
         | (simp at I; done))
end
section
variable {C:b8} {self:Self} {c:Ctx} {σ:H} {w:World}
theorem Rel.UH (h:Rel c σ w)(O:Go.Obj): Rel c σ (w.alloc O)∧bY c w c (w.alloc O):=by
 have old:∀id,id<c.N→(w.alloc O).heap[(c.ρ id).1]?=w.heap[(c.ρ id).1]?:=fun id hi=>by
  rw [fy]; simp [fE (h.je id hi)]
 refine ⟨⟨h.next,h.live,fun id hi=>by have:=h.je id hi; simp; omega,fun id hi=>by rw [jL w O (h.je id hi)]; exact h.zz id hi,h.inj,fun id o ho=>(h.obj id o ho).later (Ext.refl c) (h.live id o ho) (old id (h.live id o ho)),h.one,h.fx⟩,
  ⟨Ext.refl c,by simp,fun b I=>jL w O I,fun b I _=>by rw [fy]; simp [fE I],fun id J h2=>by omega,rfl,rfl⟩⟩
theorem ot {b:Nat}(I:∀id,id<c.N→(c.ρ id).1≠b)(base size:Nat): Ext c (c.grow b base size) :=
 ⟨by simp [Ctx.grow],fun id hi=>cD c _ _ _ hi,fun id hi=>by simp [Ctx.grow,I id hi],fun id hi=>eP c _ _ _ hi⟩
theorem Rel.Ct {b:Nat}{cs:List V}{T:TypeId}(h:Rel c σ w)(hb:b<w.heap.size)(hr:∀id,id<c.N→(c.ρ id).1≠b)(js:∀v∈cs,wf c v∧storable v=true)
 (hg:w.heap[b]?=some (.cells (cs.map (conc c)).toArray T (0,0))): Rel (c.grow b 0 cs.length) (Am.newRow σ cs) w:=by
 have e:=ot hr 0 cs.length
 have hN:(c.grow b 0 cs.length).N=c.N+1:=rfl
 have key:∀i o,(Am.newRow σ cs).tr.get i=some o→(i=c.N∧o=.cells cs.length cs false)∨(i<c.N∧σ.tr.get i=some o):=by
  intro i o hi
  rw [Am.newRow,fW,h.next] at hi
  by_cases J:i=c.N
  ·simp [J] at hi; exact .inl ⟨J,hi.symm⟩
  ·simp [J] at hi; exact .inr ⟨h.live i o hi,hi⟩
 refine ⟨by simp [Am.newRow,H.new,Ctx.grow,h.next],fun i o hi => ?_,fun i hi => ?_,fun i hi => ?_,fun i j o o' hi hj he => ?_,fun i o hi => ?_,fun i mI j9 hi hx => ?_,fun i o hi hx => ?_⟩
 ·rw [hN]; rcases key i o hi with ⟨J,_⟩ | ⟨J,_⟩ <;> omega
 ·rw [hN] at hi
  by_cases J:i=c.N
  ·subst J; rw [aT]; exact hb
  ·rw [cD c _ _ _ (by omega)]; exact h.je i (by omega)
 ·rw [hN] at hi
  by_cases J:i=c.N
  ·subst J; rw [aT]; simp [Ctx.grow,rowSize,hg]
  ·rw [cD c _ _ _ (by omega),←h.zz i (by omega)]; simp [Ctx.grow,hr i (by omega)]
 ·rcases key i o hi with ⟨I,_⟩ | ⟨I,a2⟩ <;> rcases key j o' hj with ⟨b1,_⟩ | ⟨b1,b2⟩
  ·exact .inl (by omega)
  ·subst I; rw [aT,cD c _ _ _ b1] at he; exact absurd he.symm (hr j b1)
  ·subst b1; rw [aT,cD c _ _ _ I] at he; exact absurd he (hr i I)
  ·rw [cD c _ _ _ I,cD c _ _ _ b1] at he; rw [eP c _ _ _ I,eP c _ _ _ b1]; exact h.inj i j _ _ a2 b2 he
 ·rcases key i o hi with ⟨rfl,rfl⟩ | ⟨I,a2⟩
  ·refine ⟨rfl,fun v hv=>⟨(bX e v (js v hv).1).2,(js v hv).2⟩,(cs.map (conc c)).toArray,T,(0,0),by rw [aT]; exact hg,by rw [aT]; simp,fun j v hj => ?_,rfl⟩
   rw [aT,(bX e v (js v (aY hj)).1).1]
   simp [hj]
  ·exact (h.obj i o a2).later e I rfl
 ·rcases key i _ hi with ⟨rfl,_⟩ | ⟨I,a2⟩
  ·rw [aT]
  ·rw [eP c _ _ _ I] at hx
   rw [cD c _ _ _ I]; exact h.one i mI j9 a2 hx
 ·rcases key i o hi with ⟨rfl,_⟩ | ⟨I,a2⟩
  ·rw [tB] at hx; cases hx
  ·rw [eP c _ _ _ I] at hx; exact h.fx i o a2 hx
theorem bY.Ct {c₀:Ctx}{w₀:World}{b n:Nat}(h:bY c₀ w₀ c w)(I:∀id,id<c.N→(c.ρ id).1≠b)(J:w₀.heap.size≤b): bY c₀ w₀ (c.grow b 0 n) w where
 ext:=h.ext.trans (ot I 0 n)
 size:=h.size
 rows:=h.rows
 kF:=h.kF
 sys:=h.sys
 fresh:=fun id h1 h2=>by
  by_cases h3:id=c.N
  ·subst h3; left; rw [aT]; exact J
  ·have:id<c.N:=by
    have:(c.grow b 0 n).N=c.N+1:=rfl
    omega
   rw [cD c _ _ _ this]
   exact h.fresh id h1 this
theorem Lo {L:List Oper}: ∀(l:List Oper) (k:Nat) (s:St) (hs:List H) (tr:List (Env×V)) (J:List H) (z:St),
  trace C self L l s hs=some (tr,J,z) →
  ∃st:Nat→St,st k=s∧st (k+l.length)=z∧tr.length=l.length∧J=hs++(cJ C l k).map (fun p=>(st (p+1)).h) ∧
   ∀j o,l[j]?=some o→∃v h,tr[j]?=some ((st (k+j)).env,v)∧(st (k+j)).put o.dst v h=some (st (k+j+1)) ∧
    (wantedV L (st (k+j)).env o=true→evOp C self (st (k+j)).env (st (k+j)).h o=some (v,h)) ∧
    (wantedV L (st (k+j)).env o=false→v=bH∧h=(st (k+j)).h):=by
 intro l
 induction l with
 | nil =>
  intro k s hs tr J z h
  simp only [trace,aj,aB] at h
  obtain ⟨rfl,rfl,rfl⟩:=h
  exact ⟨fun _=>s,rfl,rfl,rfl,by simp [cJ],fun j o h=>by simp at h⟩
 | cons o l ih =>
  intro k s hs tr J z h
  simp only [trace] at h
  cases h1:cond (wantedV L s.env o) (evOp C self s.env s.h o) (some (bH,s.h)) with
  | none=>simp [h1] at h
  | some r =>
   obtain ⟨v,h'⟩:=r
   simp only [h1] at h
   cases I:s.put o.dst v h' with
   | none=>simp [I] at h
   | some s' =>
    simp only [I] at h
    cases h3:trace C self L l s' (cond (isEff C o.op) (hs++[h']) hs) with
    | none=>simp [h3] at h
    | some q =>
     obtain ⟨Wd,UI,z'⟩:=q
     simp only [h3,aj,aB] at h
     obtain ⟨rfl,rfl,rfl⟩:=h
     obtain ⟨st,i1,i2,i3,i4,i5⟩:=ih (k+1) s' _ Wd UI z' h3
     have UJ:s'.h=h':=by
      cases hd:o.dst with
      | none=>rw [hd] at I; simp [St.put] at I; subst I; rfl
      | some d =>
       rw [hd] at I
       simp only [St.put] at I
       cases hq:Nat.blt d s.ax with
       | false=>simp [hq] at I
       | true=>simp [hq] at I; subst I; rfl
     refine ⟨fun i=>if i=k then s else st i,by simp,?_,by simp [i3],?_,?_⟩
     ·simp only [aO]
      rw [ai (by omega),show k+(l.length+1)=k+1+l.length from by omega]
      exact i2
     ·rw [i4]
      have Qh:(cJ C l (k+1)).map (fun p=>(st (p+1)).h)=(cJ C l (k+1)).map (fun p=>(if p+1=k then s else st (p+1)).h):=by
       refine pN fun p hp => ?_
       have:=(uV l (k+1)).2 p hp
       rw [ai (by omega)]
      simp only [cJ]
      cases isEff C o.op with
      | true =>
       simp only [af,cm]
       rw [Qh,ai (by omega),i1,UJ]
       simp
      | false=>simp only [ay]; rw [Qh]
     ·intro j x hx
      cases j with
      | zero =>
       simp at hx
       subst hx
       refine ⟨v,h',by simp,?_,?_,?_⟩
       ·simp only [ik,bC]
        rw [ai (by omega),i1]; exact I
       ·intro hw
        simp only [ik,bC] at hw ⊢
        rw [hw,af] at h1; exact h1
       ·intro hw
        simp only [ik,bC] at hw ⊢
        rw [hw,ay] at h1
        simp at h1
        exact ⟨h1.1.symm,h1.2.symm⟩
      | succ j =>
       simp at hx
       obtain ⟨Yp,Om,e1,e2,e3,e4⟩:=i5 j x hx
       have n1:¬ (k+(j+1)=k):=by omega
       have n2:¬ (k+(j+1)+1=k):=by omega
       have n3:k+(j+1)=k+1+j:=by omega
       refine ⟨Yp,Om,?_,?_,?_,?_⟩
       ·simp only [n1,bF]; rw [n3]; simpa using e1
       ·simp only [n1,n2,bF]; rw [n3]; exact e2
       ·simp only [n1,bF]; rw [n3]; exact e3
       ·simp only [n1,bF]; rw [n3]; exact e4
theorem mK {s s':St}{dst:Option Tmp}{v:V}{h:H}(I:s.put dst v h=some s'):
  s'.h=h∧s'.ax=s.ax∧(∀d,dst=some d→d<s.ax)∧∀t,s'.env.v t=if dst=some t then v else s.env.v t:=by
 cases hd:dst with
 | none=>rw [hd] at I; simp [St.put] at I; subst I; simp
 | some d =>
  rw [hd] at I
  simp only [St.put] at I
  cases J:Nat.blt d s.ax with
  | false=>simp [J] at I
  | true =>
   simp [J] at I
   subst I
   refine ⟨rfl,rfl,fun d' h'=>by simp at h'; subst h'; exact fF.1 J,fun t => ?_⟩
   simp only [Env.v,aK,aj]
   by_cases ht:t=d
   ·subst ht; simp
   ·simp [ht,iS ht]
structure fN (C:b8)(sf:Self)(L:List Oper)(s:St)(st:Nat→St)(vv:Nat→V)(es:List Nat)(Hs:Nat→H): Prop where
 back:∀i o,L[i]?=some o→∀e∈o.after,eA e=true→e.on<i
 GZ:∀j o,L[j]?=some o→∀i x,i<j→L[i]?=some x→bit ((nth (ancs L []) j).getD 0) i=true∨(jo L x o=true∧(isEff C x.op=false∨isEff C o.op=false∨isAlloc o=true))
 I6:∀i o,L[i]?=some o→isAlloc o=true→∀j u,L[j]?=some u→i<j→jo L o u=true∨∀p∈es,p<i→bit ((nth (ancs L []) j).getD 0) p=true
 oD:∀p,p∈es↔∃o,L[p]?=some o∧isEff C o.op=true
 sorted:es.Pairwise (· < ·)
 start:st 0=s
 step:∀i o,L[i]?=some o→∃h,(st i).put o.dst (vv i) h=some (st (i+1)) ∧
    (wantedV L (st i).env o=true→evOp C sf (st i).env (st i).h o=some (vv i,h))∧(wantedV L (st i).env o=false→vv i=bH∧h=(st i).h)
 G0:Hs 0=s.h
 yN:∀k p,es[k]?=some p→Hs (k+1)=(st (p+1)).h
 Ty:∀i o,L[i]?=some o→isEff C o.op=false→∀(We Wf p q:Nat),We≤Wf→es[We]?=some p→es[Wf]?=some q→bit ((nth (ancs L []) i).getD 0) q=true→bit ((nth (ancs L []) i).getD 0) p=true
 same:∀i o,L[i]?=some o→isEff C o.op=false→∀k,k≤es.length→(∀idx p,idx<k→es[idx]?=some p→bit ((nth (ancs L []) p).getD 0) i=false) →
  (∀idx p,k≤idx→es[idx]?=some p→bit ((nth (ancs L []) i).getD 0) p=false) →
  wantedV L (st i).env o=true→∃h',evOp C sf (st i).env (Hs k) o=some (vv i,h')
section draw
variable {L:List Oper} {s:St} {st:Nat→St} {vv:Nat→V} {es:List Nat} {Hs:Nat→H}
theorem yO (o9:∀i o,L[i]?=some o→∃h,(st i).put o.dst (vv i) h=some (st (i+1)) ∧
    (wantedV L (st i).env o=true→evOp C self (st i).env (st i).h o=some (vv i,h))∧(wantedV L (st i).env o=false→vv i=bH∧h=(st i).h))
 (FF:∀p,p∈es↔∃o,L[p]?=some o∧isEff C o.op=true)(I:es.Pairwise (· < ·))(Qi:st 0=s)(Qj:Hs 0=s.h)(Qk:∀k p,es[k]?=some p→Hs (k+1)=(st (p+1)).h): ∀(i k:Nat),i≤L.length→k≤es.length→(∀idx p,idx<k→es[idx]?=some p→p<i)→(∀idx p,k≤idx→es[idx]?=some p→i≤p)→(st i).h=Hs k:=by
 intro i
 induction i with
 | zero =>
  intro k _ hk h1 _
  have:k=0:=by
   rcases sr k with h | h
   ·exact h
   ·have h0:0<es.length:=by omega
    have:=h1 0 es[0] h (aN h0)
    omega
  subst this
  rw [Qi,Qj]
 | succ i ih =>
  intro k hi hk h1 h2
  obtain ⟨o,ho⟩:∃o,L[i]?=some o:=⟨_,aN (by omega)⟩
  obtain ⟨h,p1,p2,p3⟩:=o9 i o ho
  have ph:=(mK p1).1
  cases he:isEff C o.op with
  | true =>
   have hm:=(FF i).2 ⟨o,ho,he⟩
   obtain ⟨idx,J⟩:=sg hm
   -- its place is k - 1
   have Ql:idx<k:=by
    rcases iq idx k with h' | h'
    ·exact h'
    ·have:=h2 idx i h' J; omega
   have Wg:k=idx+1:=by
    rcases iq (idx+1) k with h' | h'
    ·exfalso
     have a_:idx+1<es.length:=by omega
     have h3:=h1 (idx+1) es[idx+1] h' (aN a_)
     obtain ⟨Sl,hv⟩:=List.getElem?_eq_some_iff.1 J
     have h4:=(List.pairwise_iff_getElem.1 I) idx (idx+1) Sl a_ (by omega)
     rw [hv] at h4
     omega
    ·omega
   rw [Wg,Qk idx i J]
  | false =>
   have hn:∀idx p,es[idx]?=some p→p≠i:=fun idx p hp e=>by
    subst e
    obtain ⟨o',rq,yM⟩:=(FF p).1 (aY hp)
    rw [ho] at rq
    simp at rq
    subst rq
    rw [he] at yM
    cases yM
   have:=ih k (by omega) hk (fun idx p a_ hp=>by have:=h1 idx p a_ hp; have:=hn idx p hp; omega) (fun idx p hle hp=>by have:=h2 idx p hle hp; omega)
   rw [ph,←this]
   cases hw:wantedV L (st i).env o with
   | true=>exact BI he (p2 hw)
   | false=>exact (p3 hw).2
theorem fN.CX (D:fN C self L s st vv es Hs): ∀(i k:Nat),i≤L.length→k≤es.length→(∀idx p,idx<k→es[idx]?=some p→p<i)→(∀idx p,k≤idx→es[idx]?=some p→i≤p)→(st i).h=Hs k :=
 yO D.step D.oD D.sorted D.start D.G0 D.yN
theorem fN.Cu (D:fN C self L s st vv es Hs)(t:Nat): ∀(i:Nat),i≤L.length →
  (∃j o,j<i∧L[j]?=some o∧o.dst=some t∧(∀J o',J<i→L[J]?=some o'→o'.dst=some t→J≤j)∧(st i).env.v t=vv j) ∨
  ((∀J o',J<i→L[J]?=some o'→o'.dst≠some t)∧(st i).env.v t=s.env.v t):=by
 intro i
 induction i with
 | zero=>intro _; right; exact ⟨fun J o' h=>by omega,by rw [D.start]⟩
 | succ i ih =>
  intro hi
  obtain ⟨o,ho⟩:∃o,L[i]?=some o:=⟨_,aN (by omega)⟩
  obtain ⟨h,p1,_,_⟩:=D.step i o ho
  obtain ⟨_,_,_,pe⟩:=mK p1
  by_cases hd:o.dst=some t
  ·left
   exact ⟨i,o,by omega,ho,hd,fun J o' h' _ _=>by omega,by rw [pe,au hd]⟩
  ·rcases ih (by omega) with ⟨j,oj,h1,h2,h3,h4,h5⟩ | ⟨h1,h2⟩
   ·left
    refine ⟨j,oj,by omega,h2,h3,fun J o' hj I Ng => ?_,by rw [pe,ai hd]; exact h5⟩
    by_cases oY:J=i
    ·subst oY; rw [ho] at I; simp at I; subst I; exact absurd Ng hd
    ·exact h4 J o' (by omega) I Ng
   ·right
    refine ⟨fun J o' hj I => ?_,by rw [pe,ai hd]; exact h2⟩
    by_cases oY:J=i
    ·subst oY; rw [ho] at I; simp at I; subst I; exact hd
    ·exact h1 J o' (by omega) I
theorem fN.ax (D:fN C self L s st vv es Hs): ∀i,i≤L.length→(st i).ax=s.ax:=by
 intro i
 induction i with
 | zero=>intro _; rw [D.start]
 | succ i I =>
  intro hi
  obtain ⟨o,ho⟩:∃o,L[i]?=some o:=⟨_,aN (by omega)⟩
  obtain ⟨h,J,_,_⟩:=D.step i o ho
  rw [(mK J).2.1,I (by omega)]
inductive FV where
 | ptr
 | sl (n m:Nat)
def FV.v : FV→Nat→V
 | .ptr,i=>.ptr i 0
 | .sl n m,i=>.sl i 0 n (.exact m)
def FV.val : FV→Nat→Value
 | .ptr,b=>.pointer (some ⟨b,0,none⟩)
 | .sl n m,b=>.slice (some ⟨b,0,none⟩) n m
def FV.good : FV→Prop
 | .ptr=>True
 | .sl n m=>n≤m
theorem FV.I7 (I:FV)(c:Ctx)(b size:Nat): conc (c.grow b 0 size) (I.v c.N)=I.val b:=by
 cases I <;> simp [FV.v,FV.val,conc,aT]
theorem FV.On {I:FV}(h:I.good)(c:Ctx)(b size:Nat): wf (c.grow b 0 size) (I.v c.N):=by
 cases I with
 | ptr=>simp [FV.v,wf,jt]
 | sl n m=>simp only [FV.v,wf,jt]; exact ⟨AI _,h⟩
structure A1 (C:b8)(sf:Self)(env:Env)(o:Oper)(fv:FV)(cs:List V)(T:TypeId): Prop where
 ev:∀h,evOp C sf env h o=some (fv.v h.next,Am.newRow h cs)
 good:fv.good
 Wh:∀(c:Ctx) (v:V),v∈cs→wf c v∧storable v=true
 same:∀c c':Ctx,cs.map (conc c')=cs.map (conc c)
 run:∀(c:Ctx) (a:Act),yG c env a o→∀w,(execOp a.eval o).run C.P w=.ok (.value (fv.val w.heap.size)) (w.alloc (.cells (cs.map (conc c)).toArray T))
theorem yP {P:Program}{T:TypeId}{z:V}(J:zeroT P T=some z)(c c':Ctx): z.cells.map (conc c')=z.cells.map (conc c):=by
 have h1:=(eH (P:=P) J c default).1
 have I:=(eH (P:=P) J c' default).1
 rw [h1] at I
 simp only [Result.ok.injEq,sI] at I
 have h3:=fb Value.cells I
 rw [dX,dX] at h3
 simpa using h3.symm
theorem xm {β:Type}(f:V→β)(z:List V): ∀n,(repeatL z n).map f=(List.replicate n (z.map f)).flatten:=by
 intro n
 induction n with
 | zero=>rfl
 | succ n I=>simp [repeatL,I,sj]
theorem run_makeSlice {P:Program}{t e:TypeId}{i:TypeInfo}{z:V}{k1 k2:IntKind}{l n:Int}(ht:P.underlying t=some (.slice e))(hi:P.info? e=some i)(hz:zeroT P e=some z)
 (q1:0≤l)(q2:l≤n)(q3:n<1073741824)(q4:i.bytes≤4096)(q5:z.cells.length=i.size)(q6:1≤i.size)(c:Ctx)(w:World):
  (Instr.makeSlice t (.int k1 l) (.int k2 n)).run P w=.ok (.slice (some ⟨w.heap.size,0,none⟩) l.toNat n.toNat) (w.alloc (.cells ((repeatL z.cells n.toNat).map (conc c)).toArray e)):=by
 obtain ⟨z1,z2⟩:=eH hz c w
 have w1:=q_ q1 (by omega)
 have w2:=q_ (x:=n) (by omega) (by omega)
 have hb:¬ ((i.bytes:Int)*n>2^48):=by
  have:(i.bytes:Int)*n≤4096*1073741824:=Int.mul_le_mul (by omega) (by omega) (by omega) (by omega)
  omega
 have Fy:¬ (n<0):=by omega
 have BG:¬ (l<0):=by omega
 have P7:¬ (l>n):=by omega
 have J:(sizeOf e).run P w=.ok i.size w:=by simp [sizeOf,typeInfo,hi]
 have IL:(typeInfo e).run P w=.ok i w:=by simp [typeInfo,hi]
 simp only [Instr.makeSlice,Sem.run_bind,run_underlying ht,Result.andThen_ok,asInt,asIntOf,Sem.run_pure,IL,w1,w2]
 have I:(((decide (n<0)||decide ((i.bytes:Int)*n>2^48))||decide (l<0))||decide (l>n))=false:=by
  simp only [Fy,hb,BG,P7,mF,Bool.or_self]
 rw [I]
 simp only [dP,bF]
 by_cases h0:n.toNat*i.size=0
 ·have hn:n.toNat=0:=by
   rcases Nat.mul_eq_zero.1 h0 with e1 | e1
   ·exact e1
   ·omega
  rw [hn]
  have BF:(Array.map (fun (_:Nat)=>(default:Value)) (Array.range 0)) = #[]:=by simp [Array.range]
  simp [Go.newRow,repeatL,J,BF]
 ·have xg:((Array.range (n.toNat*i.size)).map fun j=>((z.cells.map (conc c)).toArray)[j%((z.cells.map (conc c)).toArray).size]!)=((repeatL z.cells n.toNat).map (conc c)).toArray:=by
   rw [←q5]; exact m5 c z.cells n.toNat (by omega)
  have rf:(conc c z).cells=(z.cells.map (conc c)).toArray:=dX c z
  simp only [Sem.run_bind,Sem.run_pure,run_askRoom,Result.andThen_ok,J,h0,bF,z1,rf,xg,Go.newRow,run_newObj]
  rfl
theorem tJ {o:Oper}(h:isAlloc o=true): ((∃T,o.op=.alloc T)∨∃t x y,o.op=.makeSlice t x y)∧o.guard=none∧∃d,o.dst=some d:=by
 unfold isAlloc at h
 split at h
 ·rename_i T d I J h3
  exact ⟨.inl ⟨T,I⟩,J,⟨d,h3⟩⟩
 ·rename_i t x y d I J h3
  exact ⟨.inr ⟨t,x,y,I⟩,J,⟨d,h3⟩⟩
 ·simp at h
theorem G1 {o:Oper}{env:Env}{h h':H}{v:V}(I8:isAlloc o=true)(I:evOp C self env h o=some (v,h')): ∃fv cs T,A1 C self env o fv cs T:=by
 obtain ⟨J,hg,d,hd⟩:=tJ I8
 rcases J with ⟨T,J⟩ | ⟨t,x,y,J⟩
 ·cases hz:zeroT C.P T with
  | none=>simp [evOp,J,hz] at I
  | some z =>
   refine ⟨.ptr,z.cells,T,fun h=>by simp [evOp,J,hz,FV.v],aa,fun c v hv=>⟨iW (eH (P:=C.P) hz c default).2 v hv,jX hz v hv⟩,yP hz,fun c a _ w => ?_⟩
   simp [execOp,J,Instr.alloc,(eH hz c w).1,newVar,Go.newRow,dX,FV.val]
 ·simp only [evOp,J] at I
  cases hx:evO env x with
  | none=>simp [hx] at I
  | some u =>
   cases hy:evO env y with
   | none=>simp [hx,hy] at I
   | some u' =>
    simp only [hx,hy] at I
    have Yq:=I
    unfold makeSliceV at I
    generalize ht:C.P.underlying t=dt at I
    split at I
    ·rename_i e
     split at I
     ·rename_i i z k1 l k2 n hi hz
      cases hq:(decide (0≤l)&&decide (l≤n)&&decide (n<1073741824)&&Nat.ble i.bytes 4096&&Nat.beq z.cells.length i.size&&Nat.ble 1 i.size) with
      | false=>simp [hq] at I
      | true =>
       have mZ:=hq
       simp only [aI,dx,beq_iff,aE] at hq
       obtain ⟨⟨⟨⟨⟨q1,q2⟩,q3⟩,q4⟩,q5⟩,q6⟩:=hq
       have hlen:(repeatL z.cells n.toNat).length=n.toNat*i.size:=by rw [lK,q5]
       refine ⟨.sl l.toNat n.toNat,repeatL z.cells n.toNat,e,fun h => ?_,by simp only [FV.good]; omega,fun c v hv=>⟨iW (eH (P:=C.P) hz c default).2 v (jD hv),jX hz v (jD hv)⟩,
        fun c c'=>by rw [xm,xm,yP hz c c'],fun c a ho w => ?_⟩
       ·simp only [evOp,J,hx,hy,makeSliceV,ht,hi,hz,mZ,af,FV.v,Am.newRow,hlen]
       ·obtain ⟨x1,_⟩:=ho x (by simp [J,Op.operands]) _ hx
        obtain ⟨y1,_⟩:=ho y (by simp [J,Op.operands]) _ hy
        have:=run_makeSlice (k1:=k1) (k2:=k2) ht hi hz q1 q2 q3 q4 q5 q6 c w
        simp only [conc] at x1 y1
        simp [execOp,J,x1,y1,this,FV.val]
     ·cases I
    ·cases I
structure fh (C:b8)(sf:Self)(L:List Oper)(s:St)(st:Nat→St)(vv:Nat→V)(es:List Nat)(Hs:Nat→H)(c₀:Ctx)(w₀:World)(d₀:List Deferred)
 (S:Nat→Prop)(early:Nat→Option (Nat×FV))(k:Nat)(c:Ctx)(a:Act)(w:World): Prop where
 closed:∀i o,S i→L[i]?=some o→∀e∈o.after,eA e=true→S e.on
 pre:∀idx p,idx<k→es[idx]?=some p→S p
 CY:k≤es.length
 late:∀idx p,k≤idx→es[idx]?=some p→S p→∃o b,L[p]?=some o∧isAlloc o=true∧early p=some b
 qb:∀p b,early p=some b→S p∧∃idx,k≤idx∧es[idx]?=some p
 rel:Rel c (Hs k) w
 size:a.tmps.size=s.ax
 tmp:∀t,(∃i o,S i∧L[i]?=some o∧o.dst=some t∧(∀j o',S j→L[j]?=some o'→o'.dst=some t→j≤i) ∧
     ((∃b,early i=some b∧a.tmps.getD t undef=b.2.val b.1)∨(early i=none∧a.tmps.getD t undef=conc c (vv i)∧wf c (vv i)))) ∨
    ((∀j o',S j→L[j]?=some o'→o'.dst≠some t)∧a.tmps.getD t undef=conc c (s.env.v t)∧wf c (s.env.v t))
 blocks:∀p b,early p=some b→w₀.heap.size≤b.1∧b.1<w.heap.size∧(∀id,id<c.N→(c.ρ id).1≠b.1) ∧
  ∃o T cs,L[p]?=some o∧A1 C sf (st p).env o b.2 cs T∧w.heap[b.1]?=some (.cells (cs.map (conc c)).toArray T (0,0))
 distinct:∀p q b b',early p=some b→early q=some b'→b.1=b'.1→p=q
 FG:bY c₀ w₀ c w
 defers:a.defers=d₀
theorem I9 (D:fN C self L s st vv es Hs){i j p:Nat}(h1:es[i]?=some p)(h2:es[j]?=some p): i=j:=by
 obtain ⟨I,b1⟩:=List.getElem?_eq_some_iff.1 h1
 obtain ⟨J,b2⟩:=List.getElem?_eq_some_iff.1 h2
 rcases AF i j with h | h | h
 ·have:=(List.pairwise_iff_getElem.1 D.sorted) i j I J h; omega
 ·exact h
 ·have:=(List.pairwise_iff_getElem.1 D.sorted) j i J I h; omega
theorem wA (D:fN C self L s st vv es Hs){i j p q:Nat}(h1:es[i]?=some p)(h2:es[j]?=some q): i<j↔p<q:=by
 obtain ⟨I,b1⟩:=List.getElem?_eq_some_iff.1 h1
 obtain ⟨J,b2⟩:=List.getElem?_eq_some_iff.1 h2
 constructor
 ·intro h; have:=(List.pairwise_iff_getElem.1 D.sorted) i j I J h; omega
 ·intro h
  rcases AF i j with h' | h' | h'
  ·exact h'
  ·subst h'; omega
  ·have:=(List.pairwise_iff_getElem.1 D.sorted) j i J I h'; omega
theorem fh.Qm {c₀:Ctx}{w₀:World}{d₀:List Deferred}{S:Nat→Prop}{early:Nat→Option (Nat×FV)}{k p:Nat}{a:Act}(D:fN C self L s st vv es Hs)
 (I:fh C self L s st vv es Hs c₀ w₀ d₀ S early k c a w)(hp:es[k]?=some p)(hS:S p):
  ∃kV c',fh C self L s st vv es Hs c₀ w₀ d₀ S kV (k+1) c' a w:=by
 obtain ⟨o,b,ho,I8,Nh⟩:=I.late k p (aD _) hp hS
 obtain ⟨b1,b2,b3,o',T,cs,rq,F,qW⟩:=I.blocks p b Nh
 rw [ho] at rq
 simp at rq
 subst rq
 obtain ⟨_,hg,d,hd⟩:=tJ I8
 obtain ⟨h,p1,p2,_⟩:=D.step p o ho
 have hw:wantedV L (st p).env o=true:=by simp [wantedV,hg]
 have jY:=p2 hw
 have hlen:p<L.length:=(List.getElem?_eq_some_iff.1 ho).1
 have Sn:(st p).h=Hs k:=D.CX p k (by omega) I.CY (fun idx q a_ J=>(wA D J hp).1 a_) (fun idx q hle J=>by
  rcases su hle with e | e
  ·subst e; rw [hp] at J; simp at J; omega
  ·exact Nat.le_of_lt ((wA D hp J).1 e))
 rw [F.ev] at jY
 simp only [Sn,aj,aB] at jY
 obtain ⟨hv,hh⟩:=jY
 have Sq:Hs (k+1)=Am.newRow (Hs k) cs:=by rw [D.yN k p hp,(mK p1).1,hh]
 have ex:=ot b3 0 cs.length
 have UK:∀v∈cs,wf c v∧storable v=true:=fun v hv=>F.Wh c v hv
 refine ⟨fun q=>if q=p then none else early q,c.grow b.1 0 cs.length,⟨I.closed,fun idx q a_ J => ?_,?_,fun idx q hle J Wi => ?_,fun q b' J => ?_,?_,I.size,fun t => ?_,fun q b' J => ?_,fun q q' b' Tz J mZ he => ?_,?_,I.defers⟩⟩
 ·by_cases e:idx=k
  ·subst e; rw [hp] at J; simp at J; subst J; exact hS
  ·exact I.pre idx q (by omega) J
 ·have:=(List.getElem?_eq_some_iff.1 hp).1; omega
 ·obtain ⟨o',b',g1,g2,g3⟩:=I.late idx q (by omega) J Wi
  have dh:q≠p:=fun e=>by subst e; have:=I9 D J hp; omega
  exact ⟨o',b',g1,g2,by simp [dh,g3]⟩
 ·by_cases dh:q=p
  ·simp [dh] at J
  ·simp [dh] at J
   obtain ⟨g1,idx,g2,g3⟩:=I.qb q b' J
   refine ⟨g1,idx,?_,g3⟩
   rcases su g2 with e | e
   ·subst e; rw [hp] at g3; simp at g3; exact absurd g3.symm dh
   ·exact e
 ·rw [Sq]
  exact I.rel.Ct b2 b3 UK qW
 ·rcases I.tmp t with ⟨i,oi,g1,g2,g3,g4,g5⟩ | ⟨g1,g2,g3⟩
  ·left
   refine ⟨i,oi,g1,g2,g3,g4,?_⟩
   by_cases Qn:i=p
   ·subst Qn
    right
    refine ⟨by simp,?_,?_⟩
    ·rcases g5 with ⟨b',e1,e2⟩ | ⟨e1,_⟩
     ·rw [Nh] at e1
      simp at e1
      subst e1
      rw [e2,←hv,I.rel.next,FV.I7]
     ·rw [Nh] at e1; cases e1
    ·rw [←hv,I.rel.next]; exact FV.On F.good c _ _
   ·rcases g5 with ⟨b',e1,e2⟩ | ⟨e1,e2,e3⟩
    ·left; exact ⟨b',by simp [Qn,e1],e2⟩
    ·right
     exact ⟨by simp [Qn,e1],by rw [e2,(bX ex _ e3).1],(bX ex _ e3).2⟩
  ·right
   exact ⟨g1,by rw [g2,(bX ex _ g3).1],(bX ex _ g3).2⟩
 ·by_cases dh:q=p
  ·simp [dh] at J
  ·simp [dh] at J
   obtain ⟨g1,g2,g3,o',T',cs',g4,g5,g7⟩:=I.blocks q b' J
   refine ⟨g1,g2,fun id uj => ?_,o',T',cs',g4,g5,by rw [g5.same c _]; exact g7⟩
   by_cases hN:id=c.N
   ·subst hN
    rw [aT]
    intro e
    exact dh (I.distinct q p b' b J Nh e.symm)
   ·have:(c.grow b.1 0 cs.length).N=c.N+1:=rfl
    rw [cD c _ _ _ (by omega)]
    exact g3 id (by omega)
 ·by_cases h1:q=p
  ·simp [h1] at J
  ·by_cases h2:q'=p
   ·simp [h2] at mZ
   ·simp [h1] at J; simp [h2] at mZ; exact I.distinct q q' b' Tz J mZ he
 ·exact I.FG.Ct b3 b1
theorem fh.BJ {c₀:Ctx}{w₀:World}{d₀:List Deferred}{S:Nat→Prop}{a:Act}(D:fN C self L s st vv es Hs): ∀(m k:Nat) (early:Nat→Option (Nat×FV)) (c:Ctx),
  es.length-k=m→fh C self L s st vv es Hs c₀ w₀ d₀ S early k c a w→∃J k' c',fh C self L s st vv es Hs c₀ w₀ d₀ S J k' c' a w∧∀p,es[k']?=some p→¬ S p:=by
 intro m
 induction m with
 | zero =>
  intro k early c hm I
  refine ⟨early,k,c,I,fun p hp => ?_⟩
  have:=(List.getElem?_eq_some_iff.1 hp).1
  omega
 | succ m ih =>
  intro k early c hm I
  cases hq:es[k]? with
  | none=>exact ⟨early,k,c,I,fun p hp=>by rw [hq] at hp; cases hp⟩
  | some p =>
   by_cases hS:S p
   ·obtain ⟨e',c',I'⟩:=I.Qm D hq hS
    exact ih (k+1) e' c' (by omega) I'
   ·exact ⟨early,k,c,I,fun p' yH=>by rw [hq] at yH; simp at yH; subst yH; exact hS⟩
end draw
end
end Go.Proofs.YtefepnnfphdkpaaGreat.Am
