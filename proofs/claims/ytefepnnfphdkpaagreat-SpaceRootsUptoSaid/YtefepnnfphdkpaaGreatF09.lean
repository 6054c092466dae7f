/- SpaceRoots: a part of its proof; conditions: its statement's. -/
import Derived.Test.YtefepnnfphdkpaaGreatF08
import Derived.Orders
namespace Go.Proofs.YtefepnnfphdkpaaGreat.Am
open Go
theorem G9 (m i:Nat): bit m i=m.testBit i:=by
 rw [Kh,bit,Ed,beq_iff]
 simp
theorem Ks (a b i:Nat): bit (Nat.lor a b) i=(bit a i||bit b i):=by
 simp only [G9]; exact Nat.testBit_or a b i
theorem Ub (k i:Nat): bit (2^k) i=decide (k=i):=by
 rw [G9]; exact D3
theorem QD (i:Nat): bit 0 i=false:=by simp [G9]
theorem NK {acc:List Nat}{es:List Edge}{j:Nat}(h:bit (ancOf acc es) j=true):
  ∃e∈es,fK e=true∧(e.on=j∨bit ((nth acc e.on).getD 0) j=true):=by
 induction es with
 | nil=>simp [ancOf,QD] at h
 | cons e es ih =>
  simp only [ancOf] at h
  cases I:fK e with
  | true =>
   rw [I,ag,Ks,Ks,Ub] at h
   simp only [nP,eL] at h
   rcases h with (h | h) | h
   ·exact ⟨e,by simp,I,.inl h⟩
   ·exact ⟨e,by simp,I,.inr h⟩
   ·obtain ⟨J,h1,h2⟩:=ih h
    exact ⟨J,by simp [h1],h2⟩
  | false =>
   rw [I,az] at h
   obtain ⟨J,h1,h2⟩:=ih h
   exact ⟨J,by simp [h1],h2⟩
theorem QE : ∀(l:List Oper) (acc:List Nat),(∀j,j<acc.length→(ancs l acc)[j]?=acc[j]?) ∧
  (∀j o,l[j]?=some o→∃pre,pre.length=acc.length+j∧(∀k,k<acc.length+j→pre[k]?=(ancs l acc)[k]?)∧(ancs l acc)[acc.length+j]?=some (ancOf pre o.after.toList)):=by
 intro l
 induction l with
 | nil=>intro acc; exact ⟨fun _ _=>rfl,fun j o h=>by simp at h⟩
 | cons x l ih =>
  intro acc
  obtain ⟨I,h2⟩:=ih (acc++[ancOf acc x.after.toList])
  simp only [ancs]
  refine ⟨fun j hj => ?_,fun j o ho => ?_⟩
  ·rw [I j (by simp; omega),jL hj]
  ·cases j with
   | zero =>
    simp at ho
    subst ho
    refine ⟨acc,by simp,fun k J => ?_,?_⟩
    ·rw [I k (by simp; omega),jL (by simpa using J)]
    ·rw [gH,I acc.length (by simp)]
     simp
   | succ j =>
    simp at ho
    obtain ⟨pre,p1,p2,p3⟩:=h2 j o ho
    simp only [bx,List.length_singleton] at p1 p2 p3
    exact ⟨pre,by omega,fun k J=>p2 k (by omega),by rw [show acc.length+(j+1)=acc.length+1+j from by omega]; exact p3⟩
section
variable {C:cL} {self:Self}
theorem G_ {L:List Oper}(hb:∀i o,L[i]?=some o→∀e∈o.after,fK e=true→e.on<i)(S:Nat→Prop):
  ∀(i:Nat) (o:Oper),L[i]?=some o→(∀k o',k<i→L[k]?=some o'→S k→∀e∈o'.after,fK e=true→S e.on)→(∀e∈o.after,fK e=true→S e.on) →
  ∀j,bit ((nth (ancs L []) i).getD 0) j=true→S j∧j<i:=by
 intro i
 induction i using Nat.strongRecOn with
 | _ i ih =>
  intro o ho iG hi j hj
  obtain ⟨pre,p1,p2,p3⟩:=(QE L []).2 i o ho
  simp only [bT,dH] at p1 p2 p3
  rw [fF,p3] at hj
  obtain ⟨e,he,Kt,J⟩:=NK hj
  have CC:e∈o.after:=by simpa using he
  have I:=hb i o ho e CC Kt
  have hS:=hi e CC Kt
  rcases J with J | J
  ·rw [←J]; exact ⟨hS,I⟩
  ·have hlen:i<L.length:=(List.getElem?_eq_some_iff.1 ho).1
   obtain ⟨o',uY⟩:∃o',L[e.on]?=some o':=⟨_,bf (Nat.lt_trans I hlen)⟩
   rw [fF,p2 e.on I,←fF] at J
   obtain ⟨r1,r2⟩:=ih e.on I o' uY (fun k VL hk=>iG k VL (Nat.lt_trans hk I)) (fun e'=>iG e.on o' I uY hS e') j J
   exact ⟨r1,Nat.lt_trans r2 I⟩
theorem He : ∀(l:List Oper) (k:Nat),edgesBack l k=true→∀i o,l[i]?=some o→∀e∈o.after,fK e=true→e.on<k+i:=by
 intro l
 induction l with
 | nil=>intro k _ i o h; simp at h
 | cons x l ih =>
  intro k h i o ho e he J
  simp only [edgesBack] at h
  cases I:(x.after.toList.all fun e => !fK e||Nat.blt e.on k) with
  | false=>rw [I,az] at h; cases h
  | true =>
   rw [I,ag] at h
   cases i with
   | zero =>
    simp at ho
    subst ho
    have:=List.all_eq_true.1 I e (by simpa using he)
    simp only [J,Bool.not_true,vW] at this
    have:=gJ.1 this
    omega
   | succ i =>
    simp at ho
    have:=ih (k+1) h i o ho e he J
    omega
theorem NL {fl:Bool}{ops:List Oper}{o:Oper}{m:Nat}: ∀(l:List Oper) (k:Nat),yy C fl ops o m l k=true→∀i x,l[i]?=some x →
  bit m (k+i)=true∨(kP ops x o=true∧(isEff C x.op=false∨isEff C o.op=false∨isAlloc fl o=true)):=by
 intro l
 induction l with
 | nil=>intro k _ i x h; simp at h
 | cons y l ih =>
  intro k h i x hx
  simp only [yy] at h
  cases J:(bit m k||(kP ops y o&&(!(isEff C y.op&&isEff C o.op)||isAlloc fl o))) with
  | false=>rw [J,az] at h; cases h
  | true =>
   rw [J,ag] at h
   cases i with
   | zero =>
    simp at hx
    subst hx
    simp only [nP,aO,vS,Bool.and_eq_false_iff] at J
    rcases J with J | ⟨h1,I | I⟩
    ·exact .inl J
    ·rcases I with I | I
     ·exact .inr ⟨h1,.inl I⟩
     ·exact .inr ⟨h1,.inr (.inl I)⟩
    ·exact .inr ⟨h1,.inr (.inr I)⟩
   | succ i =>
    simp at hx
    have:=ih (k+1) h i x hx
    rwa [show k+1+i=k+(i+1) from by omega] at this
theorem LP {I:Bool}{ops:List Oper}{as:List Nat}: ∀(l:List Oper) (k:Nat),AG C I ops as l k=true→∀j o,l[j]?=some o→∀i x,i<k+j→ops[i]?=some x →
  bit ((nth as (k+j)).getD 0) i=true∨(kP ops x o=true∧(isEff C x.op=false∨isEff C o.op=false∨isAlloc I o=true)):=by
 intro l
 induction l with
 | nil=>intro k _ j o h; simp at h
 | cons y l ih =>
  intro k h j o ho i x hi hx
  simp only [AG] at h
  cases J:yy C I ops y ((nth as k).getD 0) (ops.take k) 0 with
  | false=>rw [J,az] at h; cases h
  | true =>
   rw [J,ag] at h
   cases j with
   | zero =>
    simp at ho
    subst ho
    have:=NL (ops.take k) 0 J i x (by rw [jM,aj (by omega)]; exact hx)
    simpa using this
   | succ j =>
    simp at ho
    have:=ih (k+1) h j o ho i x (by omega) hx
    rwa [show k+1+j=k+(j+1) from by omega] at this
theorem NM : ∀(l:List Oper) (k p:Nat),p∈dA C l k↔∃i o,p=k+i∧l[i]?=some o∧isEff C o.op=true:=by
 intro l
 induction l with
 | nil=>intro k p; simp [dA]
 | cons y l ih =>
  intro k p
  simp only [dA]
  cases hy:isEff C y.op with
  | true =>
   rw [ag,fq,ih]
   constructor
   ·rintro (rfl | ⟨i,o,rfl,I,J⟩)
    ·exact ⟨0,y,by simp,by simp,hy⟩
    ·exact ⟨i+1,o,by omega,by simpa using I,J⟩
   ·rintro ⟨i,o,rfl,I,J⟩
    cases i with
    | zero=>left; rfl
    | succ i=>right; exact ⟨i,o,by omega,by simpa using I,J⟩
  | false =>
   rw [az,ih]
   constructor
   ·rintro ⟨i,o,rfl,I,J⟩
    exact ⟨i+1,o,by omega,by simpa using I,J⟩
   ·rintro ⟨i,o,rfl,I,J⟩
    cases i with
    | zero=>simp at I; subst I; rw [hy] at J; cases J
    | succ i=>exact ⟨i,o,by omega,by simpa using I,J⟩
theorem yM : ∀(l:List Oper) (k:Nat),(dA C l k).Pairwise (· < ·)∧∀p∈dA C l k,k≤p:=by
 intro l
 induction l with
 | nil=>intro k; simp [dA]
 | cons y l ih =>
  intro k
  obtain ⟨h1,J⟩:=ih (k+1)
  simp only [dA]
  cases isEff C y.op with
  | true =>
   rw [ag]
   exact ⟨List.pairwise_cons.2 ⟨fun p I=>by have:=J p I; omega,h1⟩,fun p I=>by
    rcases List.mem_cons.1 I with rfl | I
    ·exact aD _
    ·have:=J p I; omega⟩
  | false=>exact ⟨h1,fun p I=>by have:=J p I; omega⟩
theorem NN {m j:Nat}: ∀ {l:List Nat},l.Pairwise (· < ·)→effsIn m j l=true→∀p∈l,p<j→bit m p=true:=by
 intro l
 induction l with
 | nil=>intro _ _ p I; simp at I
 | cons q l ih =>
  intro hs h p I J
  simp only [effsIn] at h
  rw [oY] at hs
  cases hq:Nat.blt q j with
  | true =>
   rw [hq,ag] at h
   cases hb:bit m q with
   | false=>simp [hb] at h
   | true =>
    rw [hb,ag] at h
    rcases List.mem_cons.1 I with rfl | I
    ·exact hb
    ·exact ih hs.2 h p I J
  | false =>
   have rR:¬ q<j:=fun e=>by rw [gJ.2 e] at hq; cases hq
   rcases List.mem_cons.1 I with rfl | I
   ·exact absurd J rR
   ·have:=hs.1 p I; omega
theorem LQ {ops:List Oper}{as es:List Nat}{o:Oper}{j:Nat}: ∀(l:List Oper) (k:Nat),v8 ops as es o j l k=true→∀i u,l[i]?=some u→j<k+i →
  kP ops o u=true∨effsIn ((nth as (k+i)).getD 0) j es=true:=by
 intro l
 induction l with
 | nil=>intro k _ i u h; simp at h
 | cons y l J =>
  intro k h i u hu bF
  simp only [v8] at h
  cases I:(Nat.ble k j||kP ops o y||effsIn ((nth as k).getD 0) j es) with
  | false=>rw [I,az] at h; cases h
  | true =>
   rw [I,ag] at h
   cases i with
   | zero =>
    simp at hu
    subst hu
    simp only [nP,aJ] at I
    rcases I with (I | I) | I
    ·omega
    ·exact .inl I
    ·exact .inr I
   | succ i =>
    simp at hu
    have:=J (k+1) h i u hu (by omega)
    rwa [show k+1+i=k+(i+1) from by omega] at this
theorem Jt {J:Bool}{ops:List Oper}{as es:List Nat}: ∀(l:List Oper) (k:Nat),wU J ops as es l k=true→∀i o,l[i]?=some o→isAlloc J o=true →
  ∀j u,ops[j]?=some u→k+i<j→kP ops o u=true∨effsIn ((nth as j).getD 0) (k+i) es=true:=by
 intro l
 induction l with
 | nil=>intro k _ i o h; simp at h
 | cons y l ih =>
  intro k h i o ho ha j u hu bF
  simp only [wU] at h
  cases I:(!isAlloc J y||v8 ops as es y k ops 0) with
  | false=>rw [I,az] at h; cases h
  | true =>
   rw [I,ag] at h
   cases i with
   | zero =>
    simp at ho
    subst ho
    simp only [ha,Bool.not_true,vW] at I
    have:=LQ ops 0 I j u hu (by omega)
    simpa using this
   | succ i =>
    simp at ho
    have:=ih (k+1) h i o ho ha j u hu (by omega)
    rwa [show k+1+i=k+(i+1) from by omega] at this
theorem BW {l:List Nat}{k:Nat}: wT l k=true↔k∈l:=by
 induction l with
 | nil=>simp [wT]
 | cons x l I =>
  simp only [wT,fq]
  by_cases h:x=k
  ·subst h; simp
  ·rw [dc h,az,I]
   exact ⟨.inr,fun e=>e.resolve_left (fun e=>h e.symm)⟩
theorem uZ {ops:List Oper}{x y:Oper}(h:kP ops x y=true):
  (∀d,x.dst=some d→d∉looks ops y∧y.dst≠some d)∧(∀d,y.dst=some d→d∉looks ops x):=by
 simp only [kP,aO] at h
 refine ⟨fun d J => ?_,fun d J => ?_⟩
 ·have I:=h.1
  rw [J] at I
  simp only [aO,vS] at I
  refine ⟨fun hm => ?_,fun he => ?_⟩
  ·rw [BW.2 hm] at I; cases I.1
  ·rw [he] at I
   simp [optBeq] at I
 ·have I:=h.2
  rw [J] at I
  simp only [vS] at I
  exact fun hm=>by rw [BW.2 hm] at I; cases I
theorem Fg {env:Env}{h h':H}{o:Oper}{v:V}(he:isEff C o.op=false)(I:evOp C self env h o=some (v,h')): h'=h:=by
  unfold evOp at I
  have pv:∀ {x:Option V},aY x h=some (v,h')→h'=h:=fun {x} e=>by
    cases x with
    | none=>simp [aY] at e
    | some u=>simp [aY] at e; exact e.2.symm
  split at I
  case h_13 s d x ho =>
    simp only [isEff,ho] at he
    split at I
    · rename_i u hu
      split at I
      · rename_i r J
        obtain ⟨r1,r2⟩:=r
        simp only [aq,aF] at I
        obtain ⟨rfl,rfl⟩:=I
        unfold convV at J
        repeat' (split at J)
        all_goals first
          | (simp only [aq,aF] at J; exact J.2.symm)
          | (rw [Ek] at J
             split at J
             · simp only [aq,aF] at J
               exact J.2.symm
             · cases J)
          | (simp at J; done)
      · unfold convB at I
        generalize C.P.underlying s=ds at I
        generalize C.P.underlying d=dd at I he
        split at I
        · simp at he
        · simp at he
        · simp at I
    · simp at I
  case h_31 cl ho =>
    simp only [isEff,ho] at he
    unfold evCall at I
    split at I
    · simp at I
    · rename_i args _
      split at I
      · rename_i b hb
        rw [hb] at he
        unfold builtinV at I
        split at I
        · repeat' (split at I)
          · rename_i t _ _
            cases hl:lenV C.P h t _ with
            | none=>rw [hl] at I; simp at I
            | some q=>rw [hl] at I; simp at I; exact I.2.symm
          · simp at I
        · simp at he
        · simp at he
        · simp at he
        · simp at he
        · rename_i x l _
          cases hl:foldV maxV x l with
          | none=>simp [hl] at I
          | some q=>simp [hl] at I; exact I.2.symm
        · rename_i x l _
          cases hl:foldV BT x l with
          | none=>simp [hl] at I
          | some q=>simp [hl] at I; exact I.2.symm
        · simp at I
      · rename_i f hf; rw [hf] at he; simp at he
      · rename_i f m hf; rw [hf] at he; simp at he
  all_goals (try (rename_i ho; simp only [isEff,ho] at he; cases he; done))
  all_goals first
    | exact pv I
    | (repeat' (split at I)
       all_goals first
         | exact pv I
         | (simp only [aq,aF] at I; exact I.2.symm)
         | (simp at I; done))
end
section
variable {C:cL} {self:Self} {c:Ctx} {σ:H} {w:World}
theorem Rel.aai (h:Rel c σ w)(O:Go.Obj): Rel c σ (w.alloc O)∧cV c w c (w.alloc O):=by
 have old:∀id,id<c.N→(w.alloc O).heap[(c.ρ id).1]?=w.heap[(c.ρ id).1]?:=fun id hi=>by
  rw [iA]; simp [jg (h.lF id hi)]
 refine ⟨⟨h.next,h.live,fun id hi=>by have:=h.lF id hi; simp; omega,fun id hi=>by rw [lH w O (h.lF id hi)]; exact h.zz id hi,h.inj,fun id o ho=>(h.obj id o ho).later (Ext.refl c) (h.live id o ho) (old id (h.live id o ho)),h.one,h.fx⟩,
  ⟨Ext.refl c,by simp,fun b I=>lH w O I,fun b I _=>by rw [iA]; simp [jg I],fun id J h2=>by omega,rfl,rfl⟩⟩
theorem rF {b:Nat}(I:∀id,id<c.N→(c.ρ id).1≠b)(base size:Nat): Ext c (c.grow b base size) :=
 ⟨by simp [Ctx.grow],fun id hi=>dx c _ _ _ hi,fun id hi=>by simp [Ctx.grow,I id hi],fun id hi=>ga c _ _ _ hi⟩
theorem Rel.Gz {b:Nat}{cs:List V}{T:TypeId}(h:Rel c σ w)(hb:b<w.heap.size)(hr:∀id,id<c.N→(c.ρ id).1≠b)(lG:∀v∈cs,wf c v∧storable v=true)
 (hg:w.heap[b]?=some (.cells (cs.map (conc c)).toArray T (0,0))): Rel (c.grow b 0 cs.length) (Am.newRow σ cs) w:=by
 have e:=rF hr 0 cs.length
 have hN:(c.grow b 0 cs.length).N=c.N+1:=rfl
 have key:∀i o,(Am.newRow σ cs).tr.get i=some o→(i=c.N∧o=.cells cs.length cs false)∨(i<c.N∧σ.tr.get i=some o):=by
  intro i o hi
  rw [Am.newRow,iz,h.next] at hi
  by_cases J:i=c.N
  ·simp [J] at hi; exact .inl ⟨J,hi.symm⟩
  ·simp [J] at hi; exact .inr ⟨h.live i o hi,hi⟩
 refine ⟨by simp [Am.newRow,H.new,Ctx.grow,h.next],fun i o hi => ?_,fun i hi => ?_,fun i hi => ?_,fun i j o o' hi hj he => ?_,fun i o hi => ?_,fun i o9 nt hi hx => ?_,fun i o hi hx => ?_⟩
 ·rw [hN]; rcases key i o hi with ⟨J,_⟩ | ⟨J,_⟩ <;> omega
 ·rw [hN] at hi
  by_cases J:i=c.N
  ·subst J; rw [bB]; exact hb
  ·rw [dx c _ _ _ (by omega)]; exact h.lF i (by omega)
 ·rw [hN] at hi
  by_cases J:i=c.N
  ·subst J; rw [bB]; simp [Ctx.grow,rowSize,hg]
  ·rw [dx c _ _ _ (by omega),←h.zz i (by omega)]; simp [Ctx.grow,hr i (by omega)]
 ·rcases key i o hi with ⟨I,_⟩ | ⟨I,a2⟩ <;> rcases key j o' hj with ⟨b1,_⟩ | ⟨b1,b2⟩
  ·exact .inl (by omega)
  ·subst I; rw [bB,dx c _ _ _ b1] at he; exact absurd he.symm (hr j b1)
  ·subst b1; rw [bB,dx c _ _ _ I] at he; exact absurd he (hr i I)
  ·rw [dx c _ _ _ I,dx c _ _ _ b1] at he; rw [ga c _ _ _ I,ga c _ _ _ b1]; exact h.inj i j _ _ a2 b2 he
 ·rcases key i o hi with ⟨rfl,rfl⟩ | ⟨I,a2⟩
  ·refine ⟨rfl,fun v hv=>⟨(cg e v (lG v hv).1).2,(lG v hv).2⟩,(cs.map (conc c)).toArray,T,(0,0),by rw [bB]; exact hg,by rw [bB]; simp,fun j v hj => ?_,rfl⟩
   rw [bB,(cg e v (lG v (bC hj)).1).1]
   simp [hj]
  ·exact (h.obj i o a2).later e I rfl
 ·rcases key i _ hi with ⟨rfl,_⟩ | ⟨I,a2⟩
  ·rw [bB]
  ·rw [ga c _ _ _ I] at hx
   rw [dx c _ _ _ I]; exact h.one i o9 nt a2 hx
 ·rcases key i o hi with ⟨rfl,_⟩ | ⟨I,a2⟩
  ·rw [wX] at hx; cases hx
  ·rw [ga c _ _ _ I] at hx; exact h.fx i o a2 hx
theorem cV.Gz {c₀:Ctx}{w₀:World}{b n:Nat}(h:cV c₀ w₀ c w)(I:∀id,id<c.N→(c.ρ id).1≠b)(J:w₀.heap.size≤b): cV c₀ w₀ (c.grow b 0 n) w where
 ext:=h.ext.trans (rF I 0 n)
 size:=h.size
 rows:=h.rows
 mD:=h.mD
 sys:=h.sys
 fresh:=fun id h1 h2=>by
  by_cases h3:id=c.N
  ·subst h3; left; rw [bB]; exact J
  ·have:id<c.N:=by
    have:(c.grow b 0 n).N=c.N+1:=rfl
    omega
   rw [dx c _ _ _ this]
   exact h.fresh id h1 this
theorem QF {L:List Oper}: ∀(l:List Oper) (k:Nat) (s:St) (hs:List H) (tr:List (Env×V)) (J:List H) (z:St),
  trace C self L l s hs=some (tr,J,z) →
  ∃st:Nat→St,st k=s∧st (k+l.length)=z∧tr.length=l.length∧J=hs++(dA C l k).map (fun p=>(st (p+1)).h) ∧
   ∀j o,l[j]?=some o→∃v h,tr[j]?=some ((st (k+j)).env,v)∧(st (k+j)).put o.dst v h=some (st (k+j+1)) ∧
    (wantedV L (st (k+j)).env o=true→evOp C self (st (k+j)).env (st (k+j)).h o=some (v,h)) ∧
    (wantedV L (st (k+j)).env o=false→v=bV∧h=(st (k+j)).h):=by
 intro l
 induction l with
 | nil =>
  intro k s hs tr J z h
  simp only [trace,aq,aF] at h
  obtain ⟨rfl,rfl,rfl⟩:=h
  exact ⟨fun _=>s,rfl,rfl,rfl,by simp [dA],fun j o h=>by simp at h⟩
 | cons o l ih =>
  intro k s hs tr J z h
  simp only [trace] at h
  cases h1:cond (wantedV L s.env o) (evOp C self s.env s.h o) (some (bV,s.h)) with
  | none=>simp [h1] at h
  | some r =>
   obtain ⟨v,h'⟩:=r
   simp only [h1] at h
   cases I:s.put o.dst v h' with
   | none=>simp [I] at h
   | some s' =>
    simp only [I] at h
    cases h3:trace C self L l s' (cond (isEff C o.op) (hs++[h']) hs) with
    | none=>simp [h3] at h
    | some q =>
     obtain ⟨tr',aaj,z'⟩:=q
     simp only [h3,aq,aF] at h
     obtain ⟨rfl,rfl,rfl⟩:=h
     obtain ⟨st,i1,i2,i3,i4,i5⟩:=ih (k+1) s' _ tr' aaj z' h3
     have aak:s'.h=h':=by
      cases hd:o.dst with
      | none=>rw [hd] at I; simp [St.put] at I; subst I; rfl
      | some d =>
       rw [hd] at I
       simp only [St.put] at I
       cases hq:Nat.blt d s.ay with
       | false=>simp [hq] at I
       | true=>simp [hq] at I; subst I; rfl
     refine ⟨fun i=>if i=k then s else st i,by simp,?_,by simp [i3],?_,?_⟩
     ·simp only [aS]
      rw [ah (by omega),show k+(l.length+1)=k+1+l.length from by omega]
      exact i2
     ·rw [i4]
      have VX:(dA C l (k+1)).map (fun p=>(st (p+1)).h)=(dA C l (k+1)).map (fun p=>(if p+1=k then s else st (p+1)).h):=by
       refine oX fun p hp => ?_
       have:=(yM l (k+1)).2 p hp
       rw [ah (by omega)]
      simp only [dA]
      cases isEff C o.op with
      | true =>
       simp only [ag,b6]
       rw [VX,ah (by omega),i1,aak]
       simp
      | false=>simp only [az]; rw [VX]
     ·intro j x hx
      cases j with
      | zero =>
       simp at hx
       subst hx
       refine ⟨v,h',by simp,?_,?_,?_⟩
       ·simp only [gH,bO]
        rw [ah (by omega),i1]; exact I
       ·intro hw
        simp only [gH,bO] at hw ⊢
        rw [hw,ag] at h1; exact h1
       ·intro hw
        simp only [gH,bO] at hw ⊢
        rw [hw,az] at h1
        simp at h1
        exact ⟨h1.1.symm,h1.2.symm⟩
      | succ j =>
       simp at hx
       obtain ⟨Yo,Ju,e1,e2,e3,e4⟩:=i5 j x hx
       have n1:¬ (k+(j+1)=k):=by omega
       have n2:¬ (k+(j+1)+1=k):=by omega
       have n3:k+(j+1)=k+1+j:=by omega
       refine ⟨Yo,Ju,?_,?_,?_,?_⟩
       ·simp only [n1,bN]; rw [n3]; simpa using e1
       ·simp only [n1,n2,bN]; rw [n3]; exact e2
       ·simp only [n1,bN]; rw [n3]; exact e3
       ·simp only [n1,bN]; rw [n3]; exact e4
theorem o_ {s s':St}{dst:Option Tmp}{v:V}{h:H}(I:s.put dst v h=some s'):
  s'.h=h∧s'.ay=s.ay∧(∀d,dst=some d→d<s.ay)∧∀t,s'.env.v t=if dst=some t then v else s.env.v t:=by
 cases hd:dst with
 | none=>rw [hd] at I; simp [St.put] at I; subst I; simp
 | some d =>
  rw [hd] at I
  simp only [St.put] at I
  cases J:Nat.blt d s.ay with
  | false=>simp [J] at I
  | true =>
   simp [J] at I
   subst I
   refine ⟨rfl,rfl,fun d' h'=>by simp at h'; subst h'; exact gJ.1 J,fun t => ?_⟩
   simp only [Env.v,aX,aq]
   by_cases ht:t=d
   ·subst ht; simp
   ·simp [ht,jO ht]
structure ic (C:cL)(sf:Self)(Fl:Nat→Prop)(L:List Oper)(s:St)(st:Nat→St)(vv:Nat→V)(es:List Nat)(Hs:Nat→H): Prop where
 back:∀i o,L[i]?=some o→∀e∈o.after,fK e=true→e.on<i
 LS:∀j o,L[j]?=some o→∀i x,i<j→L[i]?=some x→bit ((nth (ancs L []) j).getD 0) i=true∨(kP L x o=true∧(isEff C x.op=false∨isEff C o.op=false∨Fl j))
 AL:∀i o,L[i]?=some o→Fl i→isAlloc true o=true∧wantedV L (st i).env o=true
 NO:∀i o,L[i]?=some o→Fl i→∀j u,L[j]?=some u→i<j→kP L o u=true∨∀p∈es,p<i→bit ((nth (ancs L []) j).getD 0) p=true
 rU:∀p,p∈es↔∃o,L[p]?=some o∧isEff C o.op=true
 sorted:es.Pairwise (· < ·)
 start:st 0=s
 step:∀i o,L[i]?=some o→∃h,(st i).put o.dst (vv i) h=some (st (i+1)) ∧
    (wantedV L (st i).env o=true→evOp C sf (st i).env (st i).h o=some (vv i,h))∧(wantedV L (st i).env o=false→vv i=bV∧h=(st i).h)
 LU:Hs 0=s.h
 CD:∀k p,es[k]?=some p→Hs (k+1)=(st (p+1)).h
 ZB:∀i o,L[i]?=some o→isEff C o.op=false→∀(abL abM p q:Nat),abL≤abM→es[abL]?=some p→es[abM]?=some q→bit ((nth (ancs L []) i).getD 0) q=true→bit ((nth (ancs L []) i).getD 0) p=true
 same:∀i o,L[i]?=some o→isEff C o.op=false→∀k,k≤es.length→(∀idx p,idx<k→es[idx]?=some p→bit ((nth (ancs L []) p).getD 0) i=false) →
  (∀idx p,k≤idx→es[idx]?=some p→bit ((nth (ancs L []) i).getD 0) p=false) →
  wantedV L (st i).env o=true→∃h',evOp C sf (st i).env (Hs k) o=some (vv i,h')
section draw
variable {Fl:Nat→Prop} {L:List Oper} {s:St} {st:Nat→St} {vv:Nat→V} {es:List Nat} {Hs:Nat→H}
theorem CE (sF:∀i o,L[i]?=some o→∃h,(st i).put o.dst (vv i) h=some (st (i+1)) ∧
    (wantedV L (st i).env o=true→evOp C self (st i).env (st i).h o=some (vv i,h))∧(wantedV L (st i).env o=false→vv i=bV∧h=(st i).h))
 (Ku:∀p,p∈es↔∃o,L[p]?=some o∧isEff C o.op=true)(I:es.Pairwise (· < ·))(VY:st 0=s)(VZ:Hs 0=s.h)(V0:∀k p,es[k]?=some p→Hs (k+1)=(st (p+1)).h): ∀(i k:Nat),i≤L.length→k≤es.length→(∀idx p,idx<k→es[idx]?=some p→p<i)→(∀idx p,k≤idx→es[idx]?=some p→i≤p)→(st i).h=Hs k:=by
 intro i
 induction i with
 | zero =>
  intro k _ hk h1 _
  have:k=0:=by
   rcases vP k with h | h
   ·exact h
   ·have h0:0<es.length:=by omega
    have:=h1 0 es[0] h (bf h0)
    omega
  subst this
  rw [VY,VZ]
 | succ i ih =>
  intro k hi hk h1 h2
  obtain ⟨o,ho⟩:∃o,L[i]?=some o:=⟨_,bf (by omega)⟩
  obtain ⟨h,p1,p2,p3⟩:=sF i o ho
  have ph:=(o_ p1).1
  cases he:isEff C o.op with
  | true =>
   have hm:=(Ku i).2 ⟨o,ho,he⟩
   obtain ⟨idx,J⟩:=Av hm
   -- its place is k - 1
   have hik:idx<k:=by
    rcases lR idx k with h' | h'
    ·exact h'
    ·have:=h2 idx i h' J; omega
   have hki:k=idx+1:=by
    rcases lR (idx+1) k with h' | h'
    ·exfalso
     have bF:idx+1<es.length:=by omega
     have h3:=h1 (idx+1) es[idx+1] h' (bf bF)
     obtain ⟨Yp,hv⟩:=List.getElem?_eq_some_iff.1 J
     have h4:=(List.pairwise_iff_getElem.1 I) idx (idx+1) Yp bF (by omega)
     rw [hv] at h4
     omega
    ·omega
   rw [hki,V0 idx i J]
  | false =>
   have hn:∀idx p,es[idx]?=some p→p≠i:=fun idx p hp e=>by
    subst e
    obtain ⟨o',uY,CC⟩:=(Ku p).1 (bC hp)
    rw [ho] at uY
    simp at uY
    subst uY
    rw [he] at CC
    cases CC
   have:=ih k (by omega) hk (fun idx p bF hp=>by have:=h1 idx p bF hp; have:=hn idx p hp; omega) (fun idx p hle hp=>by have:=h2 idx p hle hp; omega)
   rw [ph,←this]
   cases hw:wantedV L (st i).env o with
   | true=>exact Fg he (p2 hw)
   | false=>exact (p3 hw).2
theorem ic.Hf (D:ic C self Fl L s st vv es Hs): ∀(i k:Nat),i≤L.length→k≤es.length→(∀idx p,idx<k→es[idx]?=some p→p<i)→(∀idx p,k≤idx→es[idx]?=some p→i≤p)→(st i).h=Hs k :=
 CE D.step D.rU D.sorted D.start D.LU D.CD
theorem ic.GB (D:ic C self Fl L s st vv es Hs)(t:Nat): ∀(i:Nat),i≤L.length →
  (∃j o,j<i∧L[j]?=some o∧o.dst=some t∧(∀J o',J<i→L[J]?=some o'→o'.dst=some t→J≤j)∧(st i).env.v t=vv j) ∨
  ((∀J o',J<i→L[J]?=some o'→o'.dst≠some t)∧(st i).env.v t=s.env.v t):=by
 intro i
 induction i with
 | zero=>intro _; right; exact ⟨fun J o' h=>by omega,by rw [D.start]⟩
 | succ i ih =>
  intro hi
  obtain ⟨o,ho⟩:∃o,L[i]?=some o:=⟨_,bf (by omega)⟩
  obtain ⟨h,p1,_,_⟩:=D.step i o ho
  obtain ⟨_,_,_,pe⟩:=o_ p1
  by_cases hd:o.dst=some t
  ·left
   exact ⟨i,o,by omega,ho,hd,fun J o' h' _ _=>by omega,by rw [pe,aj hd]⟩
  ·rcases ih (by omega) with ⟨j,oj,h1,h2,h3,h4,h5⟩ | ⟨h1,h2⟩
   ·left
    refine ⟨j,oj,by omega,h2,h3,fun J o' hj I ym => ?_,by rw [pe,ah hd]; exact h5⟩
    by_cases rV:J=i
    ·subst rV; rw [ho] at I; simp at I; subst I; exact absurd ym hd
    ·exact h4 J o' (by omega) I ym
   ·right
    refine ⟨fun J o' hj I => ?_,by rw [pe,ah hd]; exact h2⟩
    by_cases rV:J=i
    ·subst rV; rw [ho] at I; simp at I; subst I; exact hd
    ·exact h1 J o' (by omega) I
theorem ic.ay (D:ic C self Fl L s st vv es Hs): ∀i,i≤L.length→(st i).ay=s.ay:=by
 intro i
 induction i with
 | zero=>intro _; rw [D.start]
 | succ i I =>
  intro hi
  obtain ⟨o,ho⟩:∃o,L[i]?=some o:=⟨_,bf (by omega)⟩
  obtain ⟨h,J,_,_⟩:=D.step i o ho
  rw [(o_ J).2.1,I (by omega)]
inductive FV where
 | ptr
 | sl (n m:Nat)
def FV.v : FV→Nat→V
 | .ptr,i=>.ptr i 0
 | .sl n m,i=>.sl i 0 n (.exact m)
def FV.val : FV→Nat→Value
 | .ptr,b=>.pointer (some ⟨b,0,none⟩)
 | .sl n m,b=>.slice (some ⟨b,0,none⟩) n m
def FV.good : FV→Prop
 | .ptr=>True
 | .sl n m=>n≤m
theorem FV.NP (fv:FV)(c:Ctx)(b size:Nat): conc (c.grow b 0 size) (fv.v c.N)=fv.val b:=by
 cases fv <;> simp [FV.v,FV.val,conc,bB]
theorem FV.Uc {fv:FV}(h:fv.good)(c:Ctx)(b size:Nat): wf (c.grow b 0 size) (fv.v c.N):=by
 cases fv with
 | ptr=>simp [FV.v,wf,kS]
 | sl n m=>simp only [FV.v,wf,kS]; exact ⟨Ea _,h⟩
structure Es (C:cL)(sf:Self)(env:Env)(o:Oper)(fv:FV)(cs:List V)(T:TypeId): Prop where
 ev:∀h,evOp C sf env h o=some (fv.v h.next,Am.newRow h cs)
 good:fv.good
 run:∀(c:Ctx) (a:Act),AJ c env a o→(∀v∈cs,wf c v∧storable v=true)∧∀w,(execOp a.eval o).run C.P w=.ok (.value (fv.val w.heap.size)) (w.alloc (.cells (cs.map (conc c)).toArray T))
theorem run_makeSlice {P:Program}{t e:TypeId}{i:TypeInfo}{z:V}{k1 k2:IntKind}{l n:Int}(ht:P.underlying t=some (.slice e))(hi:P.info? e=some i)(hz:zeroT P e=some z)
 (q1:0≤l)(q2:l≤n)(q3:n<1073741824)(q4:i.bytes≤4096)(q5:z.cells.length=i.size)(q6:1≤i.size)(c:Ctx)(w:World):
  (Instr.makeSlice t (.int k1 l) (.int k2 n)).run P w=.ok (.slice (some ⟨w.heap.size,0,none⟩) l.toNat n.toNat) (w.alloc (.cells ((repeatL z.cells n.toNat).map (conc c)).toArray e)):=by
 obtain ⟨z1,z2⟩:=gD hz c w
 have w1:=uV q1 (by omega)
 have w2:=uV (x:=n) (by omega) (by omega)
 have hb:¬ ((i.bytes:Int)*n>2^48):=by
  have:(i.bytes:Int)*n≤4096*1073741824:=Int.mul_le_mul (by omega) (by omega) (by omega) (by omega)
  omega
 have rO:¬ (n<0):=by omega
 have Cs:¬ (l<0):=by omega
 have VR:¬ (l>n):=by omega
 have J:(sizeOf e).run P w=.ok i.size w:=by simp [sizeOf,typeInfo,hi]
 have Nw:(typeInfo e).run P w=.ok i w:=by simp [typeInfo,hi]
 simp only [Instr.makeSlice,Sem.run_bind,run_underlying ht,Result.andThen_ok,asInt,asIntOf,Sem.run_pure,Nw,w1,w2]
 have I:(((decide (n<0)||decide ((i.bytes:Int)*n>2^48))||decide (l<0))||decide (l>n))=false:=by
  simp only [rO,hb,Cs,VR,o6,Bool.or_self]
 rw [I]
 simp only [dY,bN]
 by_cases h0:n.toNat*i.size=0
 ·have hn:n.toNat=0:=by
   rcases Nat.mul_eq_zero.1 h0 with e1 | e1
   ·exact e1
   ·omega
  rw [hn]
  have Bv:(Array.map (fun (_:Nat)=>(default:Value)) (Array.range 0)) = #[]:=by simp [Array.range]
  simp [Go.newRow,repeatL,J,Bv]
 ·have Bu:((Array.range (n.toNat*i.size)).map fun j=>((z.cells.map (conc c)).toArray)[j%((z.cells.map (conc c)).toArray).size]!)=((repeatL z.cells n.toNat).map (conc c)).toArray:=by
   rw [←q5]; exact ny c z.cells n.toNat (by omega)
  have Ct:(conc c z).cells=(z.cells.map (conc c)).toArray:=fT c z
  simp only [Sem.run_bind,Sem.run_pure,run_askRoom,Result.andThen_ok,J,h0,bN,z1,Ct,Bu,Go.newRow,run_newObj]
  rfl
theorem LV {o:Oper}(h:isAlloc true o=true): ((∃T,o.op=.alloc T)∨(∃t x y,o.op=.makeSlice t x y)∨∃t n ps,o.op=.buildSlice t n ps)∧∃d,o.dst=some d:=by
 unfold isAlloc at h
 split at h
 ·rename_i T d I h2 J
  exact ⟨.inl ⟨T,I⟩,⟨d,J⟩⟩
 ·rename_i t x y d I h2 J
  exact ⟨.inr (.inl ⟨t,x,y,I⟩),⟨d,J⟩⟩
 ·rename_i t n ps d I J
  exact ⟨.inr (.inr ⟨t,n,ps,I⟩),⟨d,J⟩⟩
 ·simp at h
theorem wo {P:Program}{t e:TypeId}{n k:Nat}{z:V}{l:List (Nat×V)}{cs:List V}(ht:P.underlying t=some (.slice e))(hk:bH P e=some k)(hz:zeroT P e=some z)(q1:z.cells.length=k)(q2:n*k≤65536)(q3:1≤k)
 (hf:fillV (fun i=>some (i*k,k)) (repeatL z.cells n) l=some cs)(c:Ctx)(hl:∀x∈l,wf c x.2)(w:World):
  (∀v∈cs,wf c v)∧(Instr.buildSlice t n (l.map fun x=>(x.1,conc c x.2)).toArray).run P w=.ok (.slice (some ⟨w.heap.size,0,none⟩) n n) (w.alloc (.cells (cs.map (conc c)).toArray e)):=by
 obtain ⟨z1,z2⟩:=gD hz c w
 obtain ⟨f1,f2,f3⟩:=AH (c:=c) _ l _ cs hf (fun v hv=>jV z2 v (j9 hv)) hl
 refine ⟨f2,?_⟩
 have I:¬ (n*k>2^24):=by omega
 have J:((Array.range (n*k)).map fun i=>((z.cells.map (conc c)).toArray)[i%((z.cells.map (conc c)).toArray).size]!)=((repeatL z.cells n).map (conc c)).toArray:=by
  rw [←q1]; exact ny c z.cells n (by omega)
 by_cases h0:n*k=0
 ·have lG:(repeatL z.cells n)=[]:=by
   have:(repeatL z.cells n).length=0:=by rw [lU,q1]; exact h0
   exact List.length_eq_zero_iff.1 this
  rw [lG] at f1
  simp only [AD] at f1
  simp only [Instr.buildSlice,Sem.run_bind,run_underlying ht,Result.andThen_ok,cW hk,h0,bO]
  have Bv:(Array.map (fun (_:Nat)=>(default:Value)) (Array.range 0)) = #[]:=by simp [Array.range]
  simp [Bv,f1,Go.newRow]
 ·simp only [Instr.buildSlice,Sem.run_bind,run_underlying ht,Result.andThen_ok,cW hk,I,bN,h0,Sem.run_pure,z1,fT,J,f1]
  simp [Go.newRow]
theorem LW {o:Oper}{env:Env}{h h':H}{v:V}(CF:isAlloc true o=true)(I:evOp C self env h o=some (v,h')): ∃fv cs T,Es C self env o fv cs T:=by
 obtain ⟨J,d,hd⟩:=LV CF
 rcases J with ⟨T,J⟩ | ⟨t,x,y,J⟩ | ⟨t,n,ps,J⟩
 ·cases hz:zeroT C.P T with
  | none=>simp [evOp,J,hz] at I
  | some z =>
   refine ⟨.ptr,z.cells,T,fun h=>by simp [evOp,J,hz,FV.v],aa,fun c a _=>⟨fun v hv=>⟨jV (gD (P:=C.P) hz c default).2 v hv,lT hz v hv⟩,fun w => ?_⟩⟩
   simp [execOp,J,Instr.alloc,(gD hz c w).1,newVar,Go.newRow,fT,FV.val]
 ·simp only [evOp,J] at I
  cases hx:evO env x with
  | none=>simp [hx] at I
  | some u =>
   cases hy:evO env y with
   | none=>simp [hx,hy] at I
   | some u' =>
    simp only [hx,hy] at I
    have aal:=I
    unfold makeSliceV at I
    generalize ht:C.P.underlying t=dt at I
    split at I
    ·rename_i e
     split at I
     ·rename_i i z k1 l k2 n hi hz
      cases hq:(decide (0≤l)&&decide (l≤n)&&decide (n<1073741824)&&Nat.ble i.bytes 4096&&Nat.beq z.cells.length i.size&&Nat.ble 1 i.size) with
      | false=>simp [hq] at I
      | true =>
       have rR:=hq
       simp only [aO,eL,beq_iff,aJ] at hq
       obtain ⟨⟨⟨⟨⟨q1,q2⟩,q3⟩,q4⟩,q5⟩,q6⟩:=hq
       have hlen:(repeatL z.cells n.toNat).length=n.toNat*i.size:=by rw [lU,q5]
       refine ⟨.sl l.toNat n.toNat,repeatL z.cells n.toNat,e,fun h => ?_,by simp only [FV.good]; omega,fun c a ho=>⟨fun v hv=>⟨jV (gD (P:=C.P) hz c default).2 v (j9 hv),lT hz v (j9 hv)⟩,fun w => ?_⟩⟩
       ·simp only [evOp,J,hx,hy,makeSliceV,ht,hi,hz,rR,ag,FV.v,Am.newRow,hlen]
       ·obtain ⟨x1,_⟩:=ho x (by simp [J,Op.operands]) _ hx
        obtain ⟨y1,_⟩:=ho y (by simp [J,Op.operands]) _ hy
        have:=run_makeSlice (k1:=k1) (k2:=k2) ht hi hz q1 q2 q3 q4 q5 q6 c w
        simp only [conc] at x1 y1
        simp [execOp,J,x1,y1,this,FV.val]
     ·cases I
    ·cases I
 ·simp only [evOp,J] at I
  cases Ff:evParts env ps.toList with
  | none=>simp [Ff] at I
  | some l =>
   simp only [Ff] at I
   have aal:=I
   unfold buildSliceV at I
   generalize ht:C.P.underlying t=dt at I
   split at I
   ·rename_i e
    cases hk:bH C.P e with
    | none=>simp [hk] at I
    | some k =>
     cases hz:zeroT C.P e with
     | none=>simp [hk,hz] at I
     | some z =>
      simp only [hk,hz] at I
      cases hq:(Nat.beq z.cells.length k&&Nat.ble (n*k) 65536&&Nat.ble 1 k) with
      | false=>simp [hq] at I
      | true =>
       simp only [hq,ag] at I
       have rR:=hq
       simp only [aO,beq_iff,aJ] at hq
       obtain ⟨⟨q1,q2⟩,q3⟩:=hq
       cases hf:fillV (fun i=>some (i*k,k)) (repeatL z.cells n) l with
       | none=>simp [hf] at I
       | some cs =>
        simp only [hf] at I
        cases hs:cs.all storable with
        | false=>simp [hs] at I
        | true =>
         refine ⟨.sl n n,cs,e,fun h => ?_,aD _,fun c a ho => ?_⟩
         ·simp only [evOp,J,Ff,buildSliceV,ht,hk,hz,rR,hf,hs,ag,FV.v]
         ·obtain ⟨f1,f2⟩:=wY (a:=a) (c:=c) _ _ (fun x hx=>ho x.2 (by simp only [J,Op.operands]; simp; exact ⟨x.1,by simpa using hx⟩)) Ff
          have hpe:(ps.map fun (i,x)=>(i,a.eval x))=(l.map fun x=>(x.1,conc c x.2)).toArray:=by
           apply ji
           simpa using f1
          refine ⟨fun v hv=>⟨(wo ht hk hz q1 q2 q3 hf c f2 default).1 v hv,(List.all_eq_true.1 hs) v hv⟩,fun w => ?_⟩
          have:=(wo ht hk hz q1 q2 q3 hf c f2 w).2
          simp only [execOp,J]
          rw [hpe]
          simp [this,FV.val]
   ·cases I
structure gQ (C:cL)(sf:Self)(Fl:Nat→Prop)(L:List Oper)(s:St)(st:Nat→St)(vv:Nat→V)(es:List Nat)(Hs:Nat→H)(c₀:Ctx)(w₀:World)(d₀:List Deferred)
 (S:Nat→Prop)(early:Nat→Option (Nat×FV))(k:Nat)(c:Ctx)(a:Act)(w:World): Prop where
 closed:∀i o,S i→L[i]?=some o→∀e∈o.after,fK e=true→S e.on
 pre:∀idx p,idx<k→es[idx]?=some p→S p
 Hg:k≤es.length
 late:∀idx p,k≤idx→es[idx]?=some p→S p→Fl p∧∃b,early p=some b
 tv:∀p b,early p=some b→S p∧∃idx,k≤idx∧es[idx]?=some p
 rel:Rel c (Hs k) w
 size:a.tmps.size=s.ay
 tmp:∀t,(∃i o,S i∧L[i]?=some o∧o.dst=some t∧(∀j o',S j→L[j]?=some o'→o'.dst=some t→j≤i) ∧
     ((∃b,early i=some b∧a.tmps.getD t undef=b.2.val b.1)∨(early i=none∧a.tmps.getD t undef=conc c (vv i)∧wf c (vv i)))) ∨
    ((∀j o',S j→L[j]?=some o'→o'.dst≠some t)∧a.tmps.getD t undef=conc c (s.env.v t)∧wf c (s.env.v t))
 blocks:∀p b,early p=some b→w₀.heap.size≤b.1∧b.1<w.heap.size∧(∀id,id<c.N→(c.ρ id).1≠b.1) ∧
  ∃o T cs,L[p]?=some o∧Es C sf (st p).env o b.2 cs T∧(∀v∈cs,wf c v∧storable v=true)∧w.heap[b.1]?=some (.cells (cs.map (conc c)).toArray T (0,0))
 distinct:∀p q b b',early p=some b→early q=some b'→b.1=b'.1→p=q
 Kv:cV c₀ w₀ c w
 defers:a.defers=d₀
theorem NQ (D:ic C self Fl L s st vv es Hs){i j p:Nat}(h1:es[i]?=some p)(h2:es[j]?=some p): i=j:=by
 obtain ⟨I,b1⟩:=List.getElem?_eq_some_iff.1 h1
 obtain ⟨J,b2⟩:=List.getElem?_eq_some_iff.1 h2
 rcases D6 i j with h | h | h
 ·have:=(List.pairwise_iff_getElem.1 D.sorted) i j I J h; omega
 ·exact h
 ·have:=(List.pairwise_iff_getElem.1 D.sorted) j i J I h; omega
theorem AM (D:ic C self Fl L s st vv es Hs){i j p q:Nat}(h1:es[i]?=some p)(h2:es[j]?=some q): i<j↔p<q:=by
 obtain ⟨I,b1⟩:=List.getElem?_eq_some_iff.1 h1
 obtain ⟨J,b2⟩:=List.getElem?_eq_some_iff.1 h2
 constructor
 ·intro h; have:=(List.pairwise_iff_getElem.1 D.sorted) i j I J h; omega
 ·intro h
  rcases D6 i j with h' | h' | h'
  ·exact h'
  ·subst h'; omega
  ·have:=(List.pairwise_iff_getElem.1 D.sorted) j i J I h'; omega
theorem gQ.V1 {c₀:Ctx}{w₀:World}{d₀:List Deferred}{S:Nat→Prop}{early:Nat→Option (Nat×FV)}{k p:Nat}{a:Act}(D:ic C self Fl L s st vv es Hs)
 (I:gQ C self Fl L s st vv es Hs c₀ w₀ d₀ S early k c a w)(hp:es[k]?=some p)(hS:S p):
  ∃nB c',gQ C self Fl L s st vv es Hs c₀ w₀ d₀ S nB (k+1) c' a w:=by
 obtain ⟨S1,b,S2⟩:=I.late k p (aD _) hp hS
 obtain ⟨b1,b2,b3,o,T,cs,ho,F,aam,uT⟩:=I.blocks p b S2
 obtain ⟨CF,hw⟩:=D.AL p o ho S1
 obtain ⟨h,p1,p2,_⟩:=D.step p o ho
 have jZ:=p2 hw
 have hlen:p<L.length:=(List.getElem?_eq_some_iff.1 ho).1
 have Yq:(st p).h=Hs k:=D.Hf p k (by omega) I.Hg (fun idx q bF J=>(AM D J hp).1 bF) (fun idx q hle J=>by
  rcases vQ hle with e | e
  ·subst e; rw [hp] at J; simp at J; omega
  ·exact Nat.le_of_lt ((AM D hp J).1 e))
 rw [F.ev] at jZ
 simp only [Yq,aq,aF] at jZ
 obtain ⟨hv,hh⟩:=jZ
 have Yr:Hs (k+1)=Am.newRow (Hs k) cs:=by rw [D.CD k p hp,(o_ p1).1,hh]
 have ex:=rF b3 0 cs.length
 refine ⟨fun q=>if q=p then none else early q,c.grow b.1 0 cs.length,⟨I.closed,fun idx q bF J => ?_,?_,fun idx q hle J hSq => ?_,fun q b' J => ?_,?_,I.size,fun t => ?_,fun q b' J => ?_,fun q q' b' ZC J rR he => ?_,?_,I.defers⟩⟩
 ·by_cases e:idx=k
  ·subst e; rw [hp] at J; simp at J; subst J; exact hS
  ·exact I.pre idx q (by omega) J
 ·have:=(List.getElem?_eq_some_iff.1 hp).1; omega
 ·obtain ⟨g1,b',g3⟩:=I.late idx q (by omega) J hSq
  have dS:q≠p:=fun e=>by subst e; have:=NQ D J hp; omega
  exact ⟨g1,b',by simp [dS,g3]⟩
 ·by_cases dS:q=p
  ·simp [dS] at J
  ·simp [dS] at J
   obtain ⟨g1,idx,g2,g3⟩:=I.tv q b' J
   refine ⟨g1,idx,?_,g3⟩
   rcases vQ g2 with e | e
   ·subst e; rw [hp] at g3; simp at g3; exact absurd g3.symm dS
   ·exact e
 ·rw [Yr]
  exact I.rel.Gz b2 b3 aam uT
 ·rcases I.tmp t with ⟨i,oi,g1,g2,g3,g4,g5⟩ | ⟨g1,g2,g3⟩
  ·left
   refine ⟨i,oi,g1,g2,g3,g4,?_⟩
   by_cases V2:i=p
   ·subst V2
    right
    refine ⟨by simp,?_,?_⟩
    ·rcases g5 with ⟨b',e1,e2⟩ | ⟨e1,_⟩
     ·rw [S2] at e1
      simp at e1
      subst e1
      rw [e2,←hv,I.rel.next,FV.NP]
     ·rw [S2] at e1; cases e1
    ·rw [←hv,I.rel.next]; exact FV.Uc F.good c _ _
   ·rcases g5 with ⟨b',e1,e2⟩ | ⟨e1,e2,e3⟩
    ·left; exact ⟨b',by simp [V2,e1],e2⟩
    ·right
     exact ⟨by simp [V2,e1],by rw [e2,(cg ex _ e3).1],(cg ex _ e3).2⟩
  ·right
   exact ⟨g1,by rw [g2,(cg ex _ g3).1],(cg ex _ g3).2⟩
 ·by_cases dS:q=p
  ·simp [dS] at J
  ·simp [dS] at J
   obtain ⟨g1,g2,g3,o',T',cs',g4,g5,g6,g7⟩:=I.blocks q b' J
   refine ⟨g1,g2,fun id yl => ?_,o',T',cs',g4,g5,fun v hv=>⟨(cg ex v (g6 v hv).1).2,(g6 v hv).2⟩,by rw [oX fun v hv=>(cg ex v (g6 v hv).1).1]; exact g7⟩
   by_cases hN:id=c.N
   ·subst hN
    rw [bB]
    intro e
    exact dS (I.distinct q p b' b J S2 e.symm)
   ·have:(c.grow b.1 0 cs.length).N=c.N+1:=rfl
    rw [dx c _ _ _ (by omega)]
    exact g3 id (by omega)
 ·by_cases h1:q=p
  ·simp [h1] at J
  ·by_cases h2:q'=p
   ·simp [h2] at rR
   ·simp [h1] at J; simp [h2] at rR; exact I.distinct q q' b' ZC J rR he
 ·exact I.Kv.Gz b3 b1
theorem gQ.Fh {c₀:Ctx}{w₀:World}{d₀:List Deferred}{S:Nat→Prop}{a:Act}(D:ic C self Fl L s st vv es Hs): ∀(m k:Nat) (early:Nat→Option (Nat×FV)) (c:Ctx),
  es.length-k=m→gQ C self Fl L s st vv es Hs c₀ w₀ d₀ S early k c a w→∃J k' c',gQ C self Fl L s st vv es Hs c₀ w₀ d₀ S J k' c' a w∧∀p,es[k']?=some p→¬ S p:=by
 intro m
 induction m with
 | zero =>
  intro k early c hm I
  refine ⟨early,k,c,I,fun p hp => ?_⟩
  have:=(List.getElem?_eq_some_iff.1 hp).1
  omega
 | succ m ih =>
  intro k early c hm I
  cases hq:es[k]? with
  | none=>exact ⟨early,k,c,I,fun p hp=>by rw [hq] at hp; cases hp⟩
  | some p =>
   by_cases hS:S p
   ·obtain ⟨e',c',I'⟩:=I.V1 D hq hS
    exact ih (k+1) e' c' (by omega) I'
   ·exact ⟨early,k,c,I,fun p' G8=>by rw [hq] at G8; simp at G8; subst G8; exact hS⟩
end draw
end
end Go.Proofs.YtefepnnfphdkpaaGreat.Am
