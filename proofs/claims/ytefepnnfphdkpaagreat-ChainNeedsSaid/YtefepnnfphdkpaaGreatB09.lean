/- ChainNeeds: a part of its proof; conditions: its statement's. -/
import Derived.Test.YtefepnnfphdkpaaGreatB08
import Derived.Orders
namespace Go.Proofs.YtefepnnfphdkpaaGreat.Am
open Go
theorem Cc (m i:Nat): bit m i=m.testBit i:=by
 rw [Nat.testBit_eq_decide_div_mod_eq,bit,zT,beq_iff]
 simp
theorem EE (a b i:Nat): bit (Nat.lor a b) i=(bit a i||bit b i):=by
 simp only [Cc]; exact Nat.testBit_or a b i
theorem MW (k i:Nat): bit (2^k) i=decide (k=i):=by
 rw [Cc]; exact zC
theorem Kj (i:Nat): bit 0 i=false:=by simp [Cc]
theorem HW {acc:List Nat}{es:List Edge}{j:Nat}(h:bit (ancOf acc es) j=true):
  ∃e∈es,dX e=true∧(e.on=j∨bit ((nth acc e.on).getD 0) j=true):=by
 induction es with
 | nil=>simp [ancOf,Kj] at h
 | cons e es ih =>
  simp only [ancOf] at h
  cases I:dX e with
  | true =>
   rw [I,af,EE,EE,MW] at h
   simp only [kX,ej] at h
   rcases h with (h | h) | h
   ·exact ⟨e,by simp,I,.inl h⟩
   ·exact ⟨e,by simp,I,.inr h⟩
   ·obtain ⟨J,h1,h2⟩:=ih h
    exact ⟨J,by simp [h1],h2⟩
  | false =>
   rw [I,ay] at h
   obtain ⟨J,h1,h2⟩:=ih h
   exact ⟨J,by simp [h1],h2⟩
theorem Kk : ∀(l:List Oper) (acc:List Nat),(∀j,j<acc.length→(ancs l acc)[j]?=acc[j]?) ∧
  (∀j o,l[j]?=some o→∃pre,pre.length=acc.length+j∧(∀k,k<acc.length+j→pre[k]?=(ancs l acc)[k]?)∧(ancs l acc)[acc.length+j]?=some (ancOf pre o.after.toList)):=by
 intro l
 induction l with
 | nil=>intro acc; exact ⟨fun _ _=>rfl,fun j o h=>by simp at h⟩
 | cons x l ih =>
  intro acc
  obtain ⟨I,h2⟩:=ih (acc++[ancOf acc x.after.toList])
  simp only [ancs]
  refine ⟨fun j hj => ?_,fun j o ho => ?_⟩
  ·rw [I j (by simp; omega),iS hj]
  ·cases j with
   | zero =>
    simp at ho
    subst ho
    refine ⟨acc,by simp,fun k J => ?_,?_⟩
    ·rw [I k (by simp; omega),iS (by simpa using J)]
    ·rw [iC,I acc.length (by simp)]
     simp
   | succ j =>
    simp at ho
    obtain ⟨pre,p1,p2,p3⟩:=h2 j o ho
    simp only [bQ,List.length_singleton] at p1 p2 p3
    exact ⟨pre,by omega,fun k J=>p2 k (by omega),by rw [show acc.length+(j+1)=acc.length+1+j from by omega]; exact p3⟩
section
variable {C:bX} {self:Self}
theorem Cd {L:List Oper}(hb:∀i o,L[i]?=some o→∀e∈o.after,dX e=true→e.on<i)(S:Nat→Prop):
  ∀(i:Nat) (o:Oper),L[i]?=some o→(∀k o',k<i→L[k]?=some o'→S k→∀e∈o'.after,dX e=true→S e.on)→(∀e∈o.after,dX e=true→S e.on) →
  ∀j,bit ((nth (ancs L []) i).getD 0) j=true→S j∧j<i:=by
 intro i
 induction i using Nat.strongRecOn with
 | _ i ih =>
  intro o ho j4 hi j hj
  obtain ⟨pre,p1,p2,p3⟩:=(Kk L []).2 i o ho
  simp only [bF,dB] at p1 p2 p3
  rw [fh,p3] at hj
  obtain ⟨e,he,EF,J⟩:=HW hj
  have xQ:e∈o.after:=by simpa using he
  have I:=hb i o ho e xQ EF
  have hS:=hi e xQ EF
  rcases J with J | J
  ·rw [←J]; exact ⟨hS,I⟩
  ·have hlen:i<L.length:=(List.getElem?_eq_some_iff.1 ho).1
   obtain ⟨o',qE⟩:∃o',L[e.on]?=some o':=⟨_,aY (Nat.lt_trans I hlen)⟩
   rw [fh,p2 e.on I,←fh] at J
   obtain ⟨r1,r2⟩:=ih e.on I o' qE (fun k Oq hk=>j4 k Oq (Nat.lt_trans hk I)) (fun e'=>j4 e.on o' I qE hS e') j J
   exact ⟨r1,Nat.lt_trans r2 I⟩
theorem Ce : ∀(l:List Oper) (k:Nat),edgesBack l k=true→∀i o,l[i]?=some o→∀e∈o.after,dX e=true→e.on<k+i:=by
 intro l
 induction l with
 | nil=>intro k _ i o h; simp at h
 | cons x l ih =>
  intro k h i o ho e he J
  simp only [edgesBack] at h
  cases I:(x.after.toList.all fun e => !dX e||Nat.blt e.on k) with
  | false=>rw [I,ay] at h; cases h
  | true =>
   rw [I,af] at h
   cases i with
   | zero =>
    simp at ho
    subst ho
    have:=List.all_eq_true.1 I e (by simpa using he)
    simp only [J,Bool.not_true,o6] at this
    have:=fe.1 this
    omega
   | succ i =>
    simp at ho
    have:=ih (k+1) h i o ho e he J
    omega
theorem HX {ops:List Oper}{o:Oper}{m:Nat}: ∀(l:List Oper) (k:Nat),tP C ops o m l k=true→∀i x,l[i]?=some x →
  bit m (k+i)=true∨(iX ops x o=true∧(isEff C x.op=false∨isEff C o.op=false∨isAlloc o=true)):=by
 intro l
 induction l with
 | nil=>intro k _ i x h; simp at h
 | cons y l ih =>
  intro k h i x hx
  simp only [tP] at h
  cases J:(bit m k||(iX ops y o&&(!(isEff C y.op&&isEff C o.op)||isAlloc o))) with
  | false=>rw [J,ay] at h; cases h
  | true =>
   rw [J,af] at h
   cases i with
   | zero =>
    simp at hx
    subst hx
    simp only [kX,aG,rK,Bool.and_eq_false_iff] at J
    rcases J with J | ⟨h1,I | I⟩
    ·exact .inl J
    ·rcases I with I | I
     ·exact .inr ⟨h1,.inl I⟩
     ·exact .inr ⟨h1,.inr (.inl I)⟩
    ·exact .inr ⟨h1,.inr (.inr I)⟩
   | succ i =>
    simp at hx
    have:=ih (k+1) h i x hx
    rwa [show k+1+i=k+(i+1) from by omega] at this
theorem F3 {ops:List Oper}{as:List Nat}: ∀(l:List Oper) (k:Nat),vz C ops as l k=true→∀j o,l[j]?=some o→∀i x,i<k+j→ops[i]?=some x →
  bit ((nth as (k+j)).getD 0) i=true∨(iX ops x o=true∧(isEff C x.op=false∨isEff C o.op=false∨isAlloc o=true)):=by
 intro l
 induction l with
 | nil=>intro k _ j o h; simp at h
 | cons y l ih =>
  intro k h j o ho i x hi J
  simp only [vz] at h
  cases I:tP C ops y ((nth as k).getD 0) (ops.take k) 0 with
  | false=>rw [I,ay] at h; cases h
  | true =>
   rw [I,af] at h
   cases j with
   | zero =>
    simp at ho
    subst ho
    have:=HX (ops.take k) 0 I i x (by rw [jx,ax (by omega)]; exact J)
    simpa using this
   | succ j =>
    simp at ho
    have:=ih (k+1) h j o ho i x (by omega) J
    rwa [show k+1+j=k+(j+1) from by omega] at this
theorem HY : ∀(l:List Oper) (k p:Nat),p∈cz C l k↔∃i o,p=k+i∧l[i]?=some o∧isEff C o.op=true:=by
 intro l
 induction l with
 | nil=>intro k p; simp [cz]
 | cons y l ih =>
  intro k p
  simp only [cz]
  cases hy:isEff C y.op with
  | true =>
   rw [af,gX,ih]
   constructor
   ·rintro (rfl | ⟨i,o,rfl,I,J⟩)
    ·exact ⟨0,y,by simp,by simp,hy⟩
    ·exact ⟨i+1,o,by omega,by simpa using I,J⟩
   ·rintro ⟨i,o,rfl,I,J⟩
    cases i with
    | zero=>left; rfl
    | succ i=>right; exact ⟨i,o,by omega,by simpa using I,J⟩
  | false =>
   rw [ay,ih]
   constructor
   ·rintro ⟨i,o,rfl,I,J⟩
    exact ⟨i+1,o,by omega,by simpa using I,J⟩
   ·rintro ⟨i,o,rfl,I,J⟩
    cases i with
    | zero=>simp at I; subst I; rw [hy] at J; cases J
    | succ i=>exact ⟨i,o,by omega,by simpa using I,J⟩
theorem ug : ∀(l:List Oper) (k:Nat),(cz C l k).Pairwise (· < ·)∧∀p∈cz C l k,k≤p:=by
 intro l
 induction l with
 | nil=>intro k; simp [cz]
 | cons y l ih =>
  intro k
  obtain ⟨h1,J⟩:=ih (k+1)
  simp only [cz]
  cases isEff C y.op with
  | true =>
   rw [af]
   exact ⟨List.pairwise_cons.2 ⟨fun p I=>by have:=J p I; omega,h1⟩,fun p I=>by
    rcases List.mem_cons.1 I with rfl | I
    ·exact aD _
    ·have:=J p I; omega⟩
  | false=>exact ⟨h1,fun p I=>by have:=J p I; omega⟩
theorem HZ {m j:Nat}: ∀ {l:List Nat},l.Pairwise (· < ·)→effsIn m j l=true→∀p∈l,p<j→bit m p=true:=by
 intro l
 induction l with
 | nil=>intro _ _ p I; simp at I
 | cons q l ih =>
  intro hs h p I J
  simp only [effsIn] at h
  rw [nc] at hs
  cases hq:Nat.blt q j with
  | true =>
   rw [hq,af] at h
   cases hb:bit m q with
   | false=>simp [hb] at h
   | true =>
    rw [hb,af] at h
    rcases List.mem_cons.1 I with rfl | I
    ·exact hb
    ·exact ih hs.2 h p I J
  | false =>
   have mF:¬ q<j:=fun e=>by rw [fe.2 e] at hq; cases hq
   rcases List.mem_cons.1 I with rfl | I
   ·exact absurd J mF
   ·have:=hs.1 p I; omega
theorem F4 {ops:List Oper}{as es:List Nat}{o:Oper}{j:Nat}: ∀(l:List Oper) (k:Nat),rS ops as es o j l k=true→∀i u,l[i]?=some u→j<k+i →
  iX ops o u=true∨effsIn ((nth as (k+i)).getD 0) j es=true:=by
 intro l
 induction l with
 | nil=>intro k _ i u h; simp at h
 | cons y l J =>
  intro k h i u hu bk
  simp only [rS] at h
  cases I:(Nat.ble k j||iX ops o y||effsIn ((nth as k).getD 0) j es) with
  | false=>rw [I,ay] at h; cases h
  | true =>
   rw [I,af] at h
   cases i with
   | zero =>
    simp at hu
    subst hu
    simp only [kX,aE] at I
    rcases I with (I | I) | I
    ·omega
    ·exact .inl I
    ·exact .inr I
   | succ i =>
    simp at hu
    have:=J (k+1) h i u hu (by omega)
    rwa [show k+1+i=k+(i+1) from by omega] at this
theorem DT {ops:List Oper}{as es:List Nat}: ∀(l:List Oper) (k:Nat),sA ops as es l k=true→∀i o,l[i]?=some o→isAlloc o=true →
  ∀j u,ops[j]?=some u→k+i<j→iX ops o u=true∨effsIn ((nth as j).getD 0) (k+i) es=true:=by
 intro l
 induction l with
 | nil=>intro k _ i o h; simp at h
 | cons y l ih =>
  intro k h i o ho J j u hu bk
  simp only [sA] at h
  cases I:(!isAlloc y||rS ops as es y k ops 0) with
  | false=>rw [I,ay] at h; cases h
  | true =>
   rw [I,af] at h
   cases i with
   | zero =>
    simp at ho
    subst ho
    simp only [J,Bool.not_true,o6] at I
    have:=F4 ops 0 I j u hu (by omega)
    simpa using this
   | succ i =>
    simp at ho
    have:=ih (k+1) h i o ho J j u hu (by omega)
    rwa [show k+1+i=k+(i+1) from by omega] at this
theorem wV {l:List Nat}{k:Nat}: sy l k=true↔k∈l:=by
 induction l with
 | nil=>simp [sy]
 | cons x l I =>
  simp only [sy,gX]
  by_cases h:x=k
  ·subst h; simp
  ·rw [cO h,ay,I]
   exact ⟨.inr,fun e=>e.resolve_left (fun e=>h e.symm)⟩
theorem qF {ops:List Oper}{x y:Oper}(h:iX ops x y=true):
  (∀d,x.dst=some d→d∉looks ops y∧y.dst≠some d)∧(∀d,y.dst=some d→d∉looks ops x):=by
 simp only [iX,aG] at h
 refine ⟨fun d J => ?_,fun d J => ?_⟩
 ·have I:=h.1
  rw [J] at I
  simp only [aG,rK] at I
  refine ⟨fun hm => ?_,fun he => ?_⟩
  ·rw [wV.2 hm] at I; cases I.1
  ·rw [he] at I
   simp [optBeq] at I
 ·have I:=h.2
  rw [J] at I
  simp only [rK] at I
  exact fun hm=>by rw [wV.2 hm] at I; cases I
theorem AY {env:Env}{h h':H}{o:Oper}{v:V}(he:isEff C o.op=false)(I:evOp C self env h o=some (v,h')): h'=h:=by
  unfold evOp at I
  have pv:∀ {x:Option V},aK x h=some (v,h')→h'=h:=fun {x} e=>by
    cases x with
    | none=>simp [aK] at e
    | some u=>simp [aK] at e; exact e.2.symm
  split at I
  case h_13 s d x ho =>
    simp only [isEff,ho] at he
    split at I
    · rename_i u hu
      split at I
      · rename_i r J
        obtain ⟨r1,r2⟩:=r
        simp only [aj,aA] at I
        obtain ⟨rfl,rfl⟩:=I
        unfold convV at J
        repeat' (split at J)
        all_goals first
          | (simp only [aj,aA] at J; exact J.2.symm)
          | (rw [z7] at J
             split at J
             · simp only [aj,aA] at J
               exact J.2.symm
             · cases J)
          | (simp at J; done)
      · unfold convB at I
        generalize C.P.underlying s=ds at I
        generalize C.P.underlying d=dd at I he
        split at I
        · simp at he
        · simp at he
        · simp at I
    · simp at I
  case h_31 cl ho =>
    simp only [isEff,ho] at he
    unfold evCall at I
    split at I
    · simp at I
    · rename_i args _
      split at I
      · rename_i b hb
        rw [hb] at he
        unfold builtinV at I
        split at I
        · repeat' (split at I)
          · rename_i t _ _
            cases hl:lenV C.P h t _ with
            | none=>rw [hl] at I; simp at I
            | some q=>rw [hl] at I; simp at I; exact I.2.symm
          · simp at I
        · simp at he
        · simp at he
        · simp at he
        · simp at he
        · rename_i x l _
          cases hl:foldV maxV x l with
          | none=>simp [hl] at I
          | some q=>simp [hl] at I; exact I.2.symm
        · rename_i x l _
          cases hl:foldV wR x l with
          | none=>simp [hl] at I
          | some q=>simp [hl] at I; exact I.2.symm
        · simp at I
      · rename_i f hf; rw [hf] at he; simp at he
      · rename_i f m hf; rw [hf] at he; simp at he
  all_goals (try (rename_i ho; simp only [isEff,ho] at he; cases he; done))
  all_goals first
    | exact pv I
    | (repeat' (split at I)
       all_goals first
         | exact pv I
         | (simp only [aj,aA] at I; exact I.2.symm)
         | (simp at I; done))
end
section
variable {C:bX} {self:Self} {c:Ctx} {σ:H} {w:World}
theorem Rel.Tc (h:Rel c σ w)(O:Go.Obj): Rel c σ (w.alloc O)∧bU c w c (w.alloc O):=by
 have old:∀id,id<c.N→(w.alloc O).heap[(c.ρ id).1]?=w.heap[(c.ρ id).1]?:=fun id hi=>by
  rw [eZ]; simp [gY (h.iZ id hi)]
 refine ⟨⟨h.next,h.live,fun id hi=>by have:=h.iZ id hi; simp; omega,fun id hi=>by rw [jr w O (h.iZ id hi)]; exact h.zz id hi,h.inj,fun id o ho=>(h.obj id o ho).later (Ext.refl c) (h.live id o ho) (old id (h.live id o ho)),h.one,h.fx⟩,
  ⟨Ext.refl c,by simp,fun b I=>jr w O I,fun b I _=>by rw [eZ]; simp [gY I],fun id J h2=>by omega,rfl,rfl⟩⟩
theorem nL {b:Nat}(I:∀id,id<c.N→(c.ρ id).1≠b)(base size:Nat): Ext c (c.grow b base size) :=
 ⟨by simp [Ctx.grow],fun id hi=>cn c _ _ _ hi,fun id hi=>by simp [Ctx.grow,I id hi],fun id hi=>eA c _ _ _ hi⟩
theorem Rel.BJ {b:Nat}{cs:List V}{T:TypeId}(h:Rel c σ w)(hb:b<w.heap.size)(hr:∀id,id<c.N→(c.ρ id).1≠b)(jN:∀v∈cs,wf c v∧storable v=true)
 (hg:w.heap[b]?=some (.cells (cs.map (conc c)).toArray T (0,0))): Rel (c.grow b 0 cs.length) (Am.newRow σ cs) w:=by
 have e:=nL hr 0 cs.length
 have hN:(c.grow b 0 cs.length).N=c.N+1:=rfl
 have key:∀i o,(Am.newRow σ cs).tr.get i=some o→(i=c.N∧o=.cells cs.length cs false)∨(i<c.N∧σ.tr.get i=some o):=by
  intro i o hi
  rw [Am.newRow,gm,h.next] at hi
  by_cases J:i=c.N
  ·simp [J] at hi; exact .inl ⟨J,hi.symm⟩
  ·simp [J] at hi; exact .inr ⟨h.live i o hi,hi⟩
 refine ⟨by simp [Am.newRow,H.new,Ctx.grow,h.next],fun i o hi => ?_,fun i hi => ?_,fun i hi => ?_,fun i j o o' hi hj he => ?_,fun i o hi => ?_,fun i mC j3 hi hx => ?_,fun i o hi hx => ?_⟩
 ·rw [hN]; rcases key i o hi with ⟨J,_⟩ | ⟨J,_⟩ <;> omega
 ·rw [hN] at hi
  by_cases J:i=c.N
  ·subst J; rw [aN]; exact hb
  ·rw [cn c _ _ _ (by omega)]; exact h.iZ i (by omega)
 ·rw [hN] at hi
  by_cases J:i=c.N
  ·subst J; rw [aN]; simp [Ctx.grow,rowSize,hg]
  ·rw [cn c _ _ _ (by omega),←h.zz i (by omega)]; simp [Ctx.grow,hr i (by omega)]
 ·rcases key i o hi with ⟨I,_⟩ | ⟨I,a2⟩ <;> rcases key j o' hj with ⟨b1,_⟩ | ⟨b1,b2⟩
  ·exact .inl (by omega)
  ·subst I; rw [aN,cn c _ _ _ b1] at he; exact absurd he.symm (hr j b1)
  ·subst b1; rw [aN,cn c _ _ _ I] at he; exact absurd he (hr i I)
  ·rw [cn c _ _ _ I,cn c _ _ _ b1] at he; rw [eA c _ _ _ I,eA c _ _ _ b1]; exact h.inj i j _ _ a2 b2 he
 ·rcases key i o hi with ⟨rfl,rfl⟩ | ⟨I,a2⟩
  ·refine ⟨rfl,fun v hv=>⟨(bV e v (jN v hv).1).2,(jN v hv).2⟩,(cs.map (conc c)).toArray,T,(0,0),by rw [aN]; exact hg,by rw [aN]; simp,fun j v hj => ?_,rfl⟩
   rw [aN,(bV e v (jN v (bh hj)).1).1]
   simp [hj]
  ·exact (h.obj i o a2).later e I rfl
 ·rcases key i _ hi with ⟨rfl,_⟩ | ⟨I,a2⟩
  ·rw [aN]
  ·rw [eA c _ _ _ I] at hx
   rw [cn c _ _ _ I]; exact h.one i mC j3 a2 hx
 ·rcases key i o hi with ⟨rfl,_⟩ | ⟨I,a2⟩
  ·rw [sD] at hx; cases hx
  ·rw [eA c _ _ _ I] at hx; exact h.fx i o a2 hx
theorem bU.BJ {c₀:Ctx}{w₀:World}{b n:Nat}(h:bU c₀ w₀ c w)(I:∀id,id<c.N→(c.ρ id).1≠b)(J:w₀.heap.size≤b): bU c₀ w₀ (c.grow b 0 n) w where
 ext:=h.ext.trans (nL I 0 n)
 size:=h.size
 rows:=h.rows
 kn:=h.kn
 sys:=h.sys
 fresh:=fun id h1 h2=>by
  by_cases h3:id=c.N
  ·subst h3; left; rw [aN]; exact J
  ·have:id<c.N:=by
    have:(c.grow b 0 n).N=c.N+1:=rfl
    omega
   rw [cn c _ _ _ this]
   exact h.fresh id h1 this
theorem Kl {L:List Oper}: ∀(l:List Oper) (k:Nat) (s:St) (hs:List H) (tr:List (Env×V)) (J:List H) (z:St),
  trace C self L l s hs=some (tr,J,z) →
  ∃st:Nat→St,st k=s∧st (k+l.length)=z∧tr.length=l.length∧J=hs++(cz C l k).map (fun p=>(st (p+1)).h) ∧
   ∀j o,l[j]?=some o→∃v h,tr[j]?=some ((st (k+j)).env,v)∧(st (k+j)).put o.dst v h=some (st (k+j+1)) ∧
    (wantedV L (st (k+j)).env o=true→evOp C self (st (k+j)).env (st (k+j)).h o=some (v,h)) ∧
    (wantedV L (st (k+j)).env o=false→v=bE∧h=(st (k+j)).h):=by
 intro l
 induction l with
 | nil =>
  intro k s hs tr J z h
  simp only [trace,aj,aA] at h
  obtain ⟨rfl,rfl,rfl⟩:=h
  exact ⟨fun _=>s,rfl,rfl,rfl,by simp [cz],fun j o h=>by simp at h⟩
 | cons o l ih =>
  intro k s hs tr J z h
  simp only [trace] at h
  cases h1:cond (wantedV L s.env o) (evOp C self s.env s.h o) (some (bE,s.h)) with
  | none=>simp [h1] at h
  | some r =>
   obtain ⟨v,h'⟩:=r
   simp only [h1] at h
   cases I:s.put o.dst v h' with
   | none=>simp [I] at h
   | some s' =>
    simp only [I] at h
    cases h3:trace C self L l s' (cond (isEff C o.op) (hs++[h']) hs) with
    | none=>simp [h3] at h
    | some q =>
     obtain ⟨Ux,Td,z'⟩:=q
     simp only [h3,aj,aA] at h
     obtain ⟨rfl,rfl,rfl⟩:=h
     obtain ⟨st,i1,i2,i3,i4,i5⟩:=ih (k+1) s' _ Ux Td z' h3
     have Te:s'.h=h':=by
      cases hd:o.dst with
      | none=>rw [hd] at I; simp [St.put] at I; subst I; rfl
      | some d =>
       rw [hd] at I
       simp only [St.put] at I
       cases hq:Nat.blt d s.au with
       | false=>simp [hq] at I
       | true=>simp [hq] at I; subst I; rfl
     refine ⟨fun i=>if i=k then s else st i,by simp,?_,by simp [i3],?_,?_⟩
     ·simp only [aQ]
      rw [ai (by omega),show k+(l.length+1)=k+1+l.length from by omega]
      exact i2
     ·rw [i4]
      have OI:(cz C l (k+1)).map (fun p=>(st (p+1)).h)=(cz C l (k+1)).map (fun p=>(if p+1=k then s else st (p+1)).h):=by
       refine oU fun p hp => ?_
       have:=(ug l (k+1)).2 p hp
       rw [ai (by omega)]
      simp only [cz]
      cases isEff C o.op with
      | true =>
       simp only [af,b8]
       rw [OI,ai (by omega),i1,Te]
       simp
      | false=>simp only [ay]; rw [OI]
     ·intro j x hx
      cases j with
      | zero =>
       simp at hx
       subst hx
       refine ⟨v,h',by simp,?_,?_,?_⟩
       ·simp only [iC,bz]
        rw [ai (by omega),i1]; exact I
       ·intro hw
        simp only [iC,bz] at hw ⊢
        rw [hw,af] at h1; exact h1
       ·intro hw
        simp only [iC,bz] at hw ⊢
        rw [hw,ay] at h1
        simp at h1
        exact ⟨h1.1.symm,h1.2.symm⟩
      | succ j =>
       simp at hx
       obtain ⟨Wl,MX,e1,e2,e3,e4⟩:=i5 j x hx
       have n1:¬ (k+(j+1)=k):=by omega
       have n2:¬ (k+(j+1)+1=k):=by omega
       have n3:k+(j+1)=k+1+j:=by omega
       refine ⟨Wl,MX,?_,?_,?_,?_⟩
       ·simp only [n1,bC]; rw [n3]; simpa using e1
       ·simp only [n1,n2,bC]; rw [n3]; exact e2
       ·simp only [n1,bC]; rw [n3]; exact e3
       ·simp only [n1,bC]; rw [n3]; exact e4
theorem me {s s':St}{dst:Option Tmp}{v:V}{h:H}(I:s.put dst v h=some s'):
  s'.h=h∧s'.au=s.au∧(∀d,dst=some d→d<s.au)∧∀t,s'.env.v t=if dst=some t then v else s.env.v t:=by
 cases hd:dst with
 | none=>rw [hd] at I; simp [St.put] at I; subst I; simp
 | some d =>
  rw [hd] at I
  simp only [St.put] at I
  cases J:Nat.blt d s.au with
  | false=>simp [J] at I
  | true =>
   simp [J] at I
   subst I
   refine ⟨rfl,rfl,fun d' h'=>by simp at h'; subst h'; exact fe.1 J,fun t => ?_⟩
   simp only [Env.v,aJ,aj]
   by_cases ht:t=d
   ·subst ht; simp
   ·simp [ht,iD ht]
structure fB (C:bX)(sf:Self)(L:List Oper)(s:St)(st:Nat→St)(vv:Nat→V)(es:List Nat)(Hs:Nat→H): Prop where
 back:∀i o,L[i]?=some o→∀e∈o.after,dX e=true→e.on<i
 F5:∀j o,L[j]?=some o→∀i x,i<j→L[i]?=some x→bit ((nth (ancs L []) j).getD 0) i=true∨(iX L x o=true∧(isEff C x.op=false∨isEff C o.op=false∨isAlloc o=true))
 H6:∀i o,L[i]?=some o→isAlloc o=true→∀j u,L[j]?=some u→i<j→iX L o u=true∨∀p∈es,p<i→bit ((nth (ancs L []) j).getD 0) p=true
 nT:∀p,p∈es↔∃o,L[p]?=some o∧isEff C o.op=true
 sorted:es.Pairwise (· < ·)
 start:st 0=s
 step:∀i o,L[i]?=some o→∃h,(st i).put o.dst (vv i) h=some (st (i+1)) ∧
    (wantedV L (st i).env o=true→evOp C sf (st i).env (st i).h o=some (vv i,h))∧(wantedV L (st i).env o=false→vv i=bE∧h=(st i).h)
 F6:Hs 0=s.h
 xR:∀k p,es[k]?=some p→Hs (k+1)=(st (p+1)).h
 RT:∀i o,L[i]?=some o→isEff C o.op=false→∀(Uy Uz p q:Nat),Uy≤Uz→es[Uy]?=some p→es[Uz]?=some q→bit ((nth (ancs L []) i).getD 0) q=true→bit ((nth (ancs L []) i).getD 0) p=true
 same:∀i o,L[i]?=some o→isEff C o.op=false→∀k,k≤es.length→(∀idx p,idx<k→es[idx]?=some p→bit ((nth (ancs L []) p).getD 0) i=false) →
  (∀idx p,k≤idx→es[idx]?=some p→bit ((nth (ancs L []) i).getD 0) p=false) →
  wantedV L (st i).env o=true→∃h',evOp C sf (st i).env (Hs k) o=some (vv i,h')
section draw
variable {L:List Oper} {s:St} {st:Nat→St} {vv:Nat→V} {es:List Nat} {Hs:Nat→H}
theorem xS (oH:∀i o,L[i]?=some o→∃h,(st i).put o.dst (vv i) h=some (st (i+1)) ∧
    (wantedV L (st i).env o=true→evOp C self (st i).env (st i).h o=some (vv i,h))∧(wantedV L (st i).env o=false→vv i=bE∧h=(st i).h))
 (EG:∀p,p∈es↔∃o,L[p]?=some o∧isEff C o.op=true)(I:es.Pairwise (· < ·))(OJ:st 0=s)(OK:Hs 0=s.h)(OL:∀k p,es[k]?=some p→Hs (k+1)=(st (p+1)).h): ∀(i k:Nat),i≤L.length→k≤es.length→(∀idx p,idx<k→es[idx]?=some p→p<i)→(∀idx p,k≤idx→es[idx]?=some p→i≤p)→(st i).h=Hs k:=by
 intro i
 induction i with
 | zero =>
  intro k _ hk h1 _
  have:k=0:=by
   rcases rH k with h | h
   ·exact h
   ·have h0:0<es.length:=by omega
    have:=h1 0 es[0] h (aY h0)
    omega
  subst this
  rw [OJ,OK]
 | succ i ih =>
  intro k hi hk h1 h2
  obtain ⟨o,ho⟩:∃o,L[i]?=some o:=⟨_,aY (by omega)⟩
  obtain ⟨h,p1,p2,p3⟩:=oH i o ho
  have ph:=(me p1).1
  cases he:isEff C o.op with
  | true =>
   have hm:=(EG i).2 ⟨o,ho,he⟩
   obtain ⟨idx,J⟩:=vh hm
   -- its place is k - 1
   have OM:idx<k:=by
    rcases gZ idx k with h' | h'
    ·exact h'
    ·have:=h2 idx i h' J; omega
   have UA:k=idx+1:=by
    rcases gZ (idx+1) k with h' | h'
    ·exfalso
     have bk:idx+1<es.length:=by omega
     have h3:=h1 (idx+1) es[idx+1] h' (aY bk)
     obtain ⟨QI,hv⟩:=List.getElem?_eq_some_iff.1 J
     have h4:=(List.pairwise_iff_getElem.1 I) idx (idx+1) QI bk (by omega)
     rw [hv] at h4
     omega
    ·omega
   rw [UA,OL idx i J]
  | false =>
   have hn:∀idx p,es[idx]?=some p→p≠i:=fun idx p hp e=>by
    subst e
    obtain ⟨o',qE,xQ⟩:=(EG p).1 (bh hp)
    rw [ho] at qE
    simp at qE
    subst qE
    rw [he] at xQ
    cases xQ
   have:=ih k (by omega) hk (fun idx p bk hp=>by have:=h1 idx p bk hp; have:=hn idx p hp; omega) (fun idx p hle hp=>by have:=h2 idx p hle hp; omega)
   rw [ph,←this]
   cases hw:wantedV L (st i).env o with
   | true=>exact AY he (p2 hw)
   | false=>exact (p3 hw).2
theorem fB.Cf (D:fB C self L s st vv es Hs): ∀(i k:Nat),i≤L.length→k≤es.length→(∀idx p,idx<k→es[idx]?=some p→p<i)→(∀idx p,k≤idx→es[idx]?=some p→i≤p)→(st i).h=Hs k :=
 xS D.step D.nT D.sorted D.start D.F6 D.xR
theorem fB.BK (D:fB C self L s st vv es Hs)(t:Nat): ∀(i:Nat),i≤L.length →
  (∃j o,j<i∧L[j]?=some o∧o.dst=some t∧(∀J o',J<i→L[J]?=some o'→o'.dst=some t→J≤j)∧(st i).env.v t=vv j) ∨
  ((∀J o',J<i→L[J]?=some o'→o'.dst≠some t)∧(st i).env.v t=s.env.v t):=by
 intro i
 induction i with
 | zero=>intro _; right; exact ⟨fun J o' h=>by omega,by rw [D.start]⟩
 | succ i ih =>
  intro hi
  obtain ⟨o,ho⟩:∃o,L[i]?=some o:=⟨_,aY (by omega)⟩
  obtain ⟨h,p1,_,_⟩:=D.step i o ho
  obtain ⟨_,_,_,pe⟩:=me p1
  by_cases hd:o.dst=some t
  ·left
   exact ⟨i,o,by omega,ho,hd,fun J o' h' _ _=>by omega,by rw [pe,ax hd]⟩
  ·rcases ih (by omega) with ⟨j,oj,h1,h2,h3,h4,h5⟩ | ⟨h1,h2⟩
   ·left
    refine ⟨j,oj,by omega,h2,h3,fun J o' hj I xT => ?_,by rw [pe,ai hd]; exact h5⟩
    by_cases oC:J=i
    ·subst oC; rw [ho] at I; simp at I; subst I; exact absurd xT hd
    ·exact h4 J o' (by omega) I xT
   ·right
    refine ⟨fun J o' hj I => ?_,by rw [pe,ai hd]; exact h2⟩
    by_cases oC:J=i
    ·subst oC; rw [ho] at I; simp at I; subst I; exact hd
    ·exact h1 J o' (by omega) I
theorem fB.au (D:fB C self L s st vv es Hs): ∀i,i≤L.length→(st i).au=s.au:=by
 intro i
 induction i with
 | zero=>intro _; rw [D.start]
 | succ i I =>
  intro hi
  obtain ⟨o,ho⟩:∃o,L[i]?=some o:=⟨_,aY (by omega)⟩
  obtain ⟨h,J,_,_⟩:=D.step i o ho
  rw [(me J).2.1,I (by omega)]
inductive FV where
 | ptr
 | sl (n m:Nat)
def FV.v : FV→Nat→V
 | .ptr,i=>.ptr i 0
 | .sl n m,i=>.sl i 0 n (.exact m)
def FV.val : FV→Nat→Value
 | .ptr,b=>.pointer (some ⟨b,0,none⟩)
 | .sl n m,b=>.slice (some ⟨b,0,none⟩) n m
def FV.good : FV→Prop
 | .ptr=>True
 | .sl n m=>n≤m
theorem FV.H7 (I:FV)(c:Ctx)(b size:Nat): conc (c.grow b 0 size) (I.v c.N)=I.val b:=by
 cases I <;> simp [FV.v,FV.val,conc,aN]
theorem FV.MY {I:FV}(h:I.good)(c:Ctx)(b size:Nat): wf (c.grow b 0 size) (I.v c.N):=by
 cases I with
 | ptr=>simp [FV.v,wf,ja]
 | sl n m=>simp only [FV.v,wf,ja]; exact ⟨zQ _,h⟩
structure Ag (C:bX)(sf:Self)(env:Env)(o:Oper)(fv:FV)(cs:List V)(T:TypeId): Prop where
 ev:∀h,evOp C sf env h o=some (fv.v h.next,Am.newRow h cs)
 good:fv.good
 UB:∀(c:Ctx) (v:V),v∈cs→wf c v∧storable v=true
 same:∀c c':Ctx,cs.map (conc c')=cs.map (conc c)
 run:∀(c:Ctx) (a:Act),xL c env a o→∀w,(execOp a.eval o).run C.P w=.ok (.value (fv.val w.heap.size)) (w.alloc (.cells (cs.map (conc c)).toArray T))
theorem xU {P:Program}{T:TypeId}{z:V}(J:zeroT P T=some z)(c c':Ctx): z.cells.map (conc c')=z.cells.map (conc c):=by
 have h1:=(ep (P:=P) J c default).1
 have I:=(ep (P:=P) J c' default).1
 rw [h1] at I
 simp only [Result.ok.injEq,and_true] at I
 have h3:=eS Value.cells I
 rw [dN,dN] at h3
 simpa using h3.symm
theorem wB {β:Type}(f:V→β)(z:List V): ∀n,(repeatL z n).map f=(List.replicate n (z.map f)).flatten:=by
 intro n
 induction n with
 | zero=>rfl
 | succ n I=>simp [repeatL,I,rD]
theorem run_makeSlice {P:Program}{t e:TypeId}{i:TypeInfo}{z:V}{k1 k2:IntKind}{l n:Int}(ht:P.underlying t=some (.slice e))(hi:P.info? e=some i)(hz:zeroT P e=some z)
 (q1:0≤l)(q2:l≤n)(q3:n<1073741824)(q4:i.bytes≤4096)(q5:z.cells.length=i.size)(q6:1≤i.size)(c:Ctx)(w:World):
  (Instr.makeSlice t (.int k1 l) (.int k2 n)).run P w=.ok (.slice (some ⟨w.heap.size,0,none⟩) l.toNat n.toNat) (w.alloc (.cells ((repeatL z.cells n.toNat).map (conc c)).toArray e)):=by
 obtain ⟨z1,z2⟩:=ep hz c w
 have w1:=qC q1 (by omega)
 have w2:=qC (x:=n) (by omega) (by omega)
 have hb:¬ ((i.bytes:Int)*n>2^48):=by
  have:(i.bytes:Int)*n≤4096*1073741824:=Int.mul_le_mul (by omega) (by omega) (by omega) (by omega)
  omega
 have Ew:¬ (n<0):=by omega
 have Ey:¬ (l<0):=by omega
 have Ox:¬ (l>n):=by omega
 have J:(sizeOf e).run P w=.ok i.size w:=by simp [sizeOf,typeInfo,hi]
 have HG:(typeInfo e).run P w=.ok i w:=by simp [typeInfo,hi]
 simp only [Instr.makeSlice,Sem.run_bind,run_underlying ht,Result.andThen_ok,asInt,asIntOf,Sem.run_pure,HG,w1,w2]
 have I:(((decide (n<0)||decide ((i.bytes:Int)*n>2^48))||decide (l<0))||decide (l>n))=false:=by
  simp only [Ew,hb,Ey,Ox,l8,Bool.or_self]
 rw [I]
 simp only [dI,bC]
 by_cases h0:n.toNat*i.size=0
 ·have hn:n.toNat=0:=by
   rcases Nat.mul_eq_zero.1 h0 with e1 | e1
   ·exact e1
   ·omega
  rw [hn]
  have AW:(Array.map (fun (_:Nat)=>(default:Value)) (Array.range 0)) = #[]:=by simp [Array.range]
  simp [Go.newRow,repeatL,J,AW]
 ·have wo:((Array.range (n.toNat*i.size)).map fun j=>((z.cells.map (conc c)).toArray)[j%((z.cells.map (conc c)).toArray).size]!)=((repeatL z.cells n.toNat).map (conc c)).toArray:=by
   rw [←q5]; exact mH c z.cells n.toNat (by omega)
  have B8:(conc c z).cells=(z.cells.map (conc c)).toArray:=dN c z
  simp only [Sem.run_bind,Sem.run_pure,run_askRoom,Result.andThen_ok,J,h0,bC,z1,B8,wo,Go.newRow,run_newObj]
  rfl
theorem sK {o:Oper}(h:isAlloc o=true): ((∃T,o.op=.alloc T)∨∃t x y,o.op=.makeSlice t x y)∧o.guard=none∧∃d,o.dst=some d:=by
 unfold isAlloc at h
 split at h
 ·rename_i T d I J h3
  exact ⟨.inl ⟨T,I⟩,J,⟨d,h3⟩⟩
 ·rename_i t x y d I J h3
  exact ⟨.inr ⟨t,x,y,I⟩,J,⟨d,h3⟩⟩
 ·simp at h
theorem F7 {o:Oper}{env:Env}{h h':H}{v:V}(H8:isAlloc o=true)(I:evOp C self env h o=some (v,h')): ∃fv cs T,Ag C self env o fv cs T:=by
 obtain ⟨J,hg,d,hd⟩:=sK H8
 rcases J with ⟨T,J⟩ | ⟨t,x,y,J⟩
 ·cases hz:zeroT C.P T with
  | none=>simp [evOp,J,hz] at I
  | some z =>
   refine ⟨.ptr,z.cells,T,fun h=>by simp [evOp,J,hz,FV.v],aa,fun c v hv=>⟨iH (ep (P:=C.P) hz c default).2 v hv,jD hz v hv⟩,xU hz,fun c a _ w => ?_⟩
   simp [execOp,J,Instr.alloc,(ep hz c w).1,newVar,Go.newRow,dN,FV.val]
 ·simp only [evOp,J] at I
  cases hx:evO env x with
  | none=>simp [hx] at I
  | some u =>
   cases hy:evO env y with
   | none=>simp [hx,hy] at I
   | some u' =>
    simp only [hx,hy] at I
    have Wm:=I
    unfold makeSliceV at I
    generalize ht:C.P.underlying t=dt at I
    split at I
    ·rename_i e
     split at I
     ·rename_i i z k1 l k2 n hi hz
      cases hq:(decide (0≤l)&&decide (l≤n)&&decide (n<1073741824)&&Nat.ble i.bytes 4096&&Nat.beq z.cells.length i.size&&Nat.ble 1 i.size) with
      | false=>simp [hq] at I
      | true =>
       have mF:=hq
       simp only [aG,ej,beq_iff,aE] at hq
       obtain ⟨⟨⟨⟨⟨q1,q2⟩,q3⟩,q4⟩,q5⟩,q6⟩:=hq
       have hlen:(repeatL z.cells n.toNat).length=n.toNat*i.size:=by rw [k_,q5]
       refine ⟨.sl l.toNat n.toNat,repeatL z.cells n.toNat,e,fun h => ?_,by simp only [FV.good]; omega,fun c v hv=>⟨iH (ep (P:=C.P) hz c default).2 v (ji hv),jD hz v (ji hv)⟩,
        fun c c'=>by rw [wB,wB,xU hz c c'],fun c a ho w => ?_⟩
       ·simp only [evOp,J,hx,hy,makeSliceV,ht,hi,hz,mF,af,FV.v,Am.newRow,hlen]
       ·obtain ⟨x1,_⟩:=ho x (by simp [J,Op.operands]) _ hx
        obtain ⟨y1,_⟩:=ho y (by simp [J,Op.operands]) _ hy
        have:=run_makeSlice (k1:=k1) (k2:=k2) ht hi hz q1 q2 q3 q4 q5 q6 c w
        simp only [conc] at x1 y1
        simp [execOp,J,x1,y1,this,FV.val]
     ·cases I
    ·cases I
structure eW (C:bX)(sf:Self)(L:List Oper)(s:St)(st:Nat→St)(vv:Nat→V)(es:List Nat)(Hs:Nat→H)(c₀:Ctx)(w₀:World)(d₀:List Deferred)
 (S:Nat→Prop)(early:Nat→Option (Nat×FV))(k:Nat)(c:Ctx)(a:Act)(w:World): Prop where
 closed:∀i o,S i→L[i]?=some o→∀e∈o.after,dX e=true→S e.on
 pre:∀idx p,idx<k→es[idx]?=some p→S p
 Cg:k≤es.length
 late:∀idx p,k≤idx→es[idx]?=some p→S p→∃o b,L[p]?=some o∧isAlloc o=true∧early p=some b
 pF:∀p b,early p=some b→S p∧∃idx,k≤idx∧es[idx]?=some p
 rel:Rel c (Hs k) w
 size:a.tmps.size=s.au
 tmp:∀t,(∃i o,S i∧L[i]?=some o∧o.dst=some t∧(∀j o',S j→L[j]?=some o'→o'.dst=some t→j≤i) ∧
     ((∃b,early i=some b∧a.tmps.getD t undef=b.2.val b.1)∨(early i=none∧a.tmps.getD t undef=conc c (vv i)∧wf c (vv i)))) ∨
    ((∀j o',S j→L[j]?=some o'→o'.dst≠some t)∧a.tmps.getD t undef=conc c (s.env.v t)∧wf c (s.env.v t))
 blocks:∀p b,early p=some b→w₀.heap.size≤b.1∧b.1<w.heap.size∧(∀id,id<c.N→(c.ρ id).1≠b.1) ∧
  ∃o T cs,L[p]?=some o∧Ag C sf (st p).env o b.2 cs T∧w.heap[b.1]?=some (.cells (cs.map (conc c)).toArray T (0,0))
 distinct:∀p q b b',early p=some b→early q=some b'→b.1=b'.1→p=q
 EH:bU c₀ w₀ c w
 defers:a.defers=d₀
theorem H9 (D:fB C self L s st vv es Hs){i j p:Nat}(h1:es[i]?=some p)(h2:es[j]?=some p): i=j:=by
 obtain ⟨I,b1⟩:=List.getElem?_eq_some_iff.1 h1
 obtain ⟨J,b2⟩:=List.getElem?_eq_some_iff.1 h2
 rcases zG i j with h | h | h
 ·have:=(List.pairwise_iff_getElem.1 D.sorted) i j I J h; omega
 ·exact h
 ·have:=(List.pairwise_iff_getElem.1 D.sorted) j i J I h; omega
theorem vE (D:fB C self L s st vv es Hs){i j p q:Nat}(h1:es[i]?=some p)(h2:es[j]?=some q): i<j↔p<q:=by
 obtain ⟨I,b1⟩:=List.getElem?_eq_some_iff.1 h1
 obtain ⟨J,b2⟩:=List.getElem?_eq_some_iff.1 h2
 constructor
 ·intro h; have:=(List.pairwise_iff_getElem.1 D.sorted) i j I J h; omega
 ·intro h
  rcases zG i j with h' | h' | h'
  ·exact h'
  ·subst h'; omega
  ·have:=(List.pairwise_iff_getElem.1 D.sorted) j i J I h'; omega
theorem eW.ON {c₀:Ctx}{w₀:World}{d₀:List Deferred}{S:Nat→Prop}{early:Nat→Option (Nat×FV)}{k p:Nat}{a:Act}(D:fB C self L s st vv es Hs)
 (I:eW C self L s st vv es Hs c₀ w₀ d₀ S early k c a w)(hp:es[k]?=some p)(hS:S p):
  ∃kG c',eW C self L s st vv es Hs c₀ w₀ d₀ S kG (k+1) c' a w:=by
 obtain ⟨o,b,ho,H8,L0⟩:=I.late k p (aD _) hp hS
 obtain ⟨b1,b2,b3,o',T,cs,qE,F,vA⟩:=I.blocks p b L0
 rw [ho] at qE
 simp at qE
 subst qE
 obtain ⟨_,hg,d,hd⟩:=sK H8
 obtain ⟨h,p1,p2,_⟩:=D.step p o ho
 have hw:wantedV L (st p).env o=true:=by simp [wantedV,hg]
 have jE:=p2 hw
 have hlen:p<L.length:=(List.getElem?_eq_some_iff.1 ho).1
 have QJ:(st p).h=Hs k:=D.Cf p k (by omega) I.Cg (fun idx q bk J=>(vE D J hp).1 bk) (fun idx q hle J=>by
  rcases rI hle with e | e
  ·subst e; rw [hp] at J; simp at J; omega
  ·exact Nat.le_of_lt ((vE D hp J).1 e))
 rw [F.ev] at jE
 simp only [QJ,aj,aA] at jE
 obtain ⟨hv,hh⟩:=jE
 have QK:Hs (k+1)=Am.newRow (Hs k) cs:=by rw [D.xR k p hp,(me p1).1,hh]
 have ex:=nL b3 0 cs.length
 have Tf:∀v∈cs,wf c v∧storable v=true:=fun v hv=>F.UB c v hv
 refine ⟨fun q=>if q=p then none else early q,c.grow b.1 0 cs.length,⟨I.closed,fun idx q bk J => ?_,?_,fun idx q hle J UC => ?_,fun q b' J => ?_,?_,I.size,fun t => ?_,fun q b' J => ?_,fun q q' b' RU J mF he => ?_,?_,I.defers⟩⟩
 ·by_cases e:idx=k
  ·subst e; rw [hp] at J; simp at J; subst J; exact hS
  ·exact I.pre idx q (by omega) J
 ·have:=(List.getElem?_eq_some_iff.1 hp).1; omega
 ·obtain ⟨o',b',g1,g2,g3⟩:=I.late idx q (by omega) J UC
  have dg:q≠p:=fun e=>by subst e; have:=H9 D J hp; omega
  exact ⟨o',b',g1,g2,by simp [dg,g3]⟩
 ·by_cases dg:q=p
  ·simp [dg] at J
  ·simp [dg] at J
   obtain ⟨g1,idx,g2,g3⟩:=I.pF q b' J
   refine ⟨g1,idx,?_,g3⟩
   rcases rI g2 with e | e
   ·subst e; rw [hp] at g3; simp at g3; exact absurd g3.symm dg
   ·exact e
 ·rw [QK]
  exact I.rel.BJ b2 b3 Tf vA
 ·rcases I.tmp t with ⟨i,oi,g1,g2,g3,g4,g5⟩ | ⟨g1,g2,g3⟩
  ·left
   refine ⟨i,oi,g1,g2,g3,g4,?_⟩
   by_cases OO:i=p
   ·subst OO
    right
    refine ⟨by simp,?_,?_⟩
    ·rcases g5 with ⟨b',e1,e2⟩ | ⟨e1,_⟩
     ·rw [L0] at e1
      simp at e1
      subst e1
      rw [e2,←hv,I.rel.next,FV.H7]
     ·rw [L0] at e1; cases e1
    ·rw [←hv,I.rel.next]; exact FV.MY F.good c _ _
   ·rcases g5 with ⟨b',e1,e2⟩ | ⟨e1,e2,e3⟩
    ·left; exact ⟨b',by simp [OO,e1],e2⟩
    ·right
     exact ⟨by simp [OO,e1],by rw [e2,(bV ex _ e3).1],(bV ex _ e3).2⟩
  ·right
   exact ⟨g1,by rw [g2,(bV ex _ g3).1],(bV ex _ g3).2⟩
 ·by_cases dg:q=p
  ·simp [dg] at J
  ·simp [dg] at J
   obtain ⟨g1,g2,g3,o',T',cs',g4,g5,g7⟩:=I.blocks q b' J
   refine ⟨g1,g2,fun id tw => ?_,o',T',cs',g4,g5,by rw [g5.same c _]; exact g7⟩
   by_cases hN:id=c.N
   ·subst hN
    rw [aN]
    intro e
    exact dg (I.distinct q p b' b J L0 e.symm)
   ·have:(c.grow b.1 0 cs.length).N=c.N+1:=rfl
    rw [cn c _ _ _ (by omega)]
    exact g3 id (by omega)
 ·by_cases h1:q=p
  ·simp [h1] at J
  ·by_cases h2:q'=p
   ·simp [h2] at mF
   ·simp [h1] at J; simp [h2] at mF; exact I.distinct q q' b' RU J mF he
 ·exact I.EH.BJ b3 b1
theorem eW.AZ {c₀:Ctx}{w₀:World}{d₀:List Deferred}{S:Nat→Prop}{a:Act}(D:fB C self L s st vv es Hs): ∀(m k:Nat) (early:Nat→Option (Nat×FV)) (c:Ctx),
  es.length-k=m→eW C self L s st vv es Hs c₀ w₀ d₀ S early k c a w→∃J k' c',eW C self L s st vv es Hs c₀ w₀ d₀ S J k' c' a w∧∀p,es[k']?=some p→¬ S p:=by
 intro m
 induction m with
 | zero =>
  intro k early c hm I
  refine ⟨early,k,c,I,fun p hp => ?_⟩
  have:=(List.getElem?_eq_some_iff.1 hp).1
  omega
 | succ m ih =>
  intro k early c hm I
  cases hq:es[k]? with
  | none=>exact ⟨early,k,c,I,fun p hp=>by rw [hq] at hp; cases hp⟩
  | some p =>
   by_cases hS:S p
   ·obtain ⟨e',c',I'⟩:=I.ON D hq hS
    exact ih (k+1) e' c' (by omega) I'
   ·exact ⟨early,k,c,I,fun p' xM=>by rw [hq] at xM; simp at xM; subst xM; exact hS⟩
end draw
end
end Go.Proofs.YtefepnnfphdkpaaGreat.Am
