/- After a crash the log has the records of the groups that are there and no others, with their numbers and data; the conditions are those of the given statement, for arguments that a machine can hold. Part 9 of 54. -/
import Derived.Test.YtconhghphklfjaaGreatL08
import Derived.Orders
namespace Go.Proofs.YtconhghphklfjaaGreat.Am
open Go
theorem zC (m i:Nat): bit m i=m.testBit i:=by
 rw [Nat.testBit_eq_decide_div_mod_eq,bit,Bool.eq_iff_iff,beq_iff]
 simp
theorem Cp (a b i:Nat): bit (Nat.lor a b) i=(bit a i||bit b i):=by
 simp only [zC]; exact Nat.testBit_or a b i
theorem KS (k i:Nat): bit (2^k) i=decide (k=i):=by
 rw [zC]; exact Nat.testBit_two_pow
theorem HM (i:Nat): bit 0 i=false:=by simp [zC]
theorem Fh {acc:List Nat}{es:List Edge}{j:Nat}(h:bit (ancOf acc es) j=true):
  ∃e∈es,dy e=true∧(e.on=j∨bit ((nth acc e.on).getD 0) j=true):=by
 induction es with
 | nil=>simp [ancOf,HM] at h
 | cons e es ih =>
  simp only [ancOf] at h
  cases I:dy e with
  | true =>
   rw [I,cond_true,Cp,Cp,KS] at h
   simp only [Bool.or_eq_true,decide_eq_true_eq] at h
   rcases h with (h | h) | h
   ·exact ⟨e,by simp,I,.inl h⟩
   ·exact ⟨e,by simp,I,.inr h⟩
   ·obtain ⟨J,U,h2⟩:=ih h
    exact ⟨J,by simp [U],h2⟩
  | false =>
   rw [I,cond_false] at h
   obtain ⟨J,U,h2⟩:=ih h
   exact ⟨J,by simp [U],h2⟩
theorem HN : ∀(l:List Oper) (acc:List Nat),(∀j,j<acc.length→(ancs l acc)[j]?=acc[j]?) ∧
  (∀j o,l[j]?=some o→∃pre,pre.length=acc.length+j∧(∀k,k<acc.length+j→pre[k]?=(ancs l acc)[k]?)∧(ancs l acc)[acc.length+j]?=some (ancOf pre o.after.toList)):=by
 intro l
 induction l with
 | nil=>intro acc; exact ⟨fun _ _=>rfl,fun j o h=>by simp at h⟩
 | cons x l ih =>
  intro acc
  obtain ⟨I,h2⟩:=ih (acc++[ancOf acc x.after.toList])
  simp only [ancs]
  refine ⟨fun j hj => ?_,fun j o ho => ?_⟩
  ·rw [I j (by simp; omega),List.getElem?_append_left hj]
  ·cases j with
   | zero =>
    simp at ho
    subst ho
    refine ⟨acc,by simp,fun k J => ?_,?_⟩
    ·rw [I k (by simp; omega),List.getElem?_append_left (by simpa using J)]
    ·rw [Nat.add_zero,I acc.length (by simp)]
     simp
   | succ j =>
    simp at ho
    obtain ⟨pre,p1,U,p3⟩:=h2 j o ho
    simp only [List.length_append,List.length_singleton] at p1 U p3
    exact ⟨pre,by omega,fun k J=>U k (by omega),by rw [show acc.length+(j+1)=acc.length+1+j from by omega]; exact p3⟩
section
variable {C:cf} {self:Self}
theorem zD {L:List Oper}(hb:∀i o,L[i]?=some o→∀e∈o.after,dy e=true→e.on<i)(S:Nat→Prop):
  ∀(i:Nat) (o:Oper),L[i]?=some o→(∀k o',k<i→L[k]?=some o'→S k→∀e∈o'.after,dy e=true→S e.on)→(∀e∈o.after,dy e=true→S e.on) →
  ∀j,bit ((nth (ancs L []) i).getD 0) j=true→S j∧j<i:=by
 intro i
 induction i using Nat.strongRecOn with
 | _ i ih =>
  intro o ho U hi j hj
  obtain ⟨pre,p1,p2,p3⟩:=(HN L []).2 i o ho
  simp only [List.length_nil,Nat.zero_add] at p1 p2 p3
  rw [dG,p3] at hj
  obtain ⟨e,he,uX,J⟩:=Fh hj
  have uY:e∈o.after:=by simpa using he
  have I:=hb i o ho e uY uX
  have hS:=hi e uY uX
  rcases J with J | J
  ·rw [←J]; exact ⟨hS,I⟩
  ·have hlen:i<L.length:=(List.getElem?_eq_some_iff.1 ho).1
   obtain ⟨o',qI⟩:∃o',L[e.on]?=some o':=⟨_,List.getElem?_eq_getElem (Nat.lt_trans I hlen)⟩
   rw [dG,p2 e.on I,←dG] at J
   obtain ⟨r1,r2⟩:=ih e.on I o' qI (fun k Mh hk=>U k Mh (Nat.lt_trans hk I)) (fun e'=>U e.on o' I qI hS e') j J
   exact ⟨r1,Nat.lt_trans r2 I⟩
theorem zE : ∀(l:List Oper) (k:Nat),edgesBack l k=true→∀i o,l[i]?=some o→∀e∈o.after,dy e=true→e.on<k+i:=by
 intro l
 induction l with
 | nil=>intro k _ i o h; simp at h
 | cons x l U =>
  intro k h i o ho e he J
  simp only [edgesBack] at h
  cases I:(x.after.toList.all fun e => !dy e||Nat.blt e.on k) with
  | false=>rw [I,cond_false] at h; cases h
  | true =>
   rw [I,cond_true] at h
   cases i with
   | zero =>
    simp at ho
    subst ho
    have:=List.all_eq_true.1 I e (by simpa using he)
    simp only [J,Bool.not_true,Bool.false_or] at this
    have:=fA.1 this
    omega
   | succ i =>
    simp at ho
    have:=U (k+1) h i o ho e he J
    omega
theorem Fi {ops:List Oper}{o:Oper}{m:Nat}: ∀(l:List Oper) (k:Nat),qQ C ops o m l k=true→∀i x,l[i]?=some x →
  bit m (k+i)=true∨(gZ ops x o=true∧(isEff C x.op=false∨isEff C o.op=false∨isAlloc o=true)):=by
 intro l
 induction l with
 | nil=>intro k _ i x h; simp at h
 | cons y l ih =>
  intro k h i x U
  simp only [qQ] at h
  cases J:(bit m k||(gZ ops y o&&(!(isEff C y.op&&isEff C o.op)||isAlloc o))) with
  | false=>rw [J,cond_false] at h; cases h
  | true =>
   rw [J,cond_true] at h
   cases i with
   | zero =>
    simp at U
    subst U
    simp only [Bool.or_eq_true,Bool.and_eq_true,Bool.not_eq_true',Bool.and_eq_false_iff] at J
    rcases J with J | ⟨h1,I | I⟩
    ·exact .inl J
    ·rcases I with I | I
     ·exact .inr ⟨h1,.inl I⟩
     ·exact .inr ⟨h1,.inr (.inl I)⟩
    ·exact .inr ⟨h1,.inr (.inr I)⟩
   | succ i =>
    simp at U
    have:=ih (k+1) h i x U
    rwa [show k+1+i=k+(i+1) from by omega] at this
theorem Dv {ops:List Oper}{as:List Nat}: ∀(l:List Oper) (k:Nat),sr C ops as l k=true→∀j o,l[j]?=some o→∀i x,i<k+j→ops[i]?=some x →
  bit ((nth as (k+j)).getD 0) i=true∨(gZ ops x o=true∧(isEff C x.op=false∨isEff C o.op=false∨isAlloc o=true)):=by
 intro l
 induction l with
 | nil=>intro k _ j o h; simp at h
 | cons y l U =>
  intro k h j o ho i x hi J
  simp only [sr] at h
  cases I:qQ C ops y ((nth as k).getD 0) (ops.take k) 0 with
  | false=>rw [I,cond_false] at h; cases h
  | true =>
   rw [I,cond_true] at h
   cases j with
   | zero =>
    simp at ho
    subst ho
    have:=Fi (ops.take k) 0 I i x (by rw [List.getElem?_take,if_pos (by omega)]; exact J)
    simpa using this
   | succ j =>
    simp at ho
    have:=U (k+1) h j o ho i x (by omega) J
    rwa [show k+1+j=k+(j+1) from by omega] at this
theorem Fj : ∀(l:List Oper) (k p:Nat),p∈b_ C l k↔∃i o,p=k+i∧l[i]?=some o∧isEff C o.op=true:=by
 intro l
 induction l with
 | nil=>intro k p; simp [b_]
 | cons y l U =>
  intro k p
  simp only [b_]
  cases hy:isEff C y.op with
  | true =>
   rw [cond_true,List.mem_cons,U]
   constructor
   ·rintro (rfl | ⟨i,o,rfl,I,J⟩)
    ·exact ⟨0,y,by simp,by simp,hy⟩
    ·exact ⟨i+1,o,by omega,by simpa using I,J⟩
   ·rintro ⟨i,o,rfl,I,J⟩
    cases i with
    | zero=>left; rfl
    | succ i=>right; exact ⟨i,o,by omega,by simpa using I,J⟩
  | false =>
   rw [cond_false,U]
   constructor
   ·rintro ⟨i,o,rfl,I,J⟩
    exact ⟨i+1,o,by omega,by simpa using I,J⟩
   ·rintro ⟨i,o,rfl,I,J⟩
    cases i with
    | zero=>simp at I; subst I; rw [hy] at J; cases J
    | succ i=>exact ⟨i,o,by omega,by simpa using I,J⟩
theorem rq : ∀(l:List Oper) (k:Nat),(b_ C l k).Pairwise (· < ·)∧∀p∈b_ C l k,k≤p:=by
 intro l
 induction l with
 | nil=>intro k; simp [b_]
 | cons y l ih =>
  intro k
  obtain ⟨U,J⟩:=ih (k+1)
  simp only [b_]
  cases isEff C y.op with
  | true =>
   rw [cond_true]
   exact ⟨List.pairwise_cons.2 ⟨fun p I=>by have:=J p I; omega,U⟩,fun p I=>by
    rcases List.mem_cons.1 I with rfl | I
    ·exact Nat.le_refl _
    ·have:=J p I; omega⟩
  | false=>exact ⟨U,fun p I=>by have:=J p I; omega⟩
theorem Fk {m j:Nat}: ∀ {l:List Nat},l.Pairwise (· < ·)→effsIn m j l=true→∀p∈l,p<j→bit m p=true:=by
 intro l
 induction l with
 | nil=>intro _ _ p I; simp at I
 | cons q l ih =>
  intro hs h p I J
  simp only [effsIn] at h
  rw [List.pairwise_cons] at hs
  cases U:Nat.blt q j with
  | true =>
   rw [U,cond_true] at h
   cases hb:bit m q with
   | false=>simp [hb] at h
   | true =>
    rw [hb,cond_true] at h
    rcases List.mem_cons.1 I with rfl | I
    ·exact hb
    ·exact ih hs.2 h p I J
  | false =>
   have nI:¬ q<j:=fun e=>by rw [fA.2 e] at U; cases U
   rcases List.mem_cons.1 I with rfl | I
   ·exact absurd J nI
   ·have:=hs.1 p I; omega
theorem Dw {ops:List Oper}{as es:List Nat}{o:Oper}{j:Nat}: ∀(l:List Oper) (k:Nat),oU ops as es o j l k=true→∀i u,l[i]?=some u→j<k+i →
  gZ ops o u=true∨effsIn ((nth as (k+i)).getD 0) j es=true:=by
 intro l
 induction l with
 | nil=>intro k _ i u h; simp at h
 | cons y l J =>
  intro k h i u hu U
  simp only [oU] at h
  cases I:(Nat.ble k j||gZ ops o y||effsIn ((nth as k).getD 0) j es) with
  | false=>rw [I,cond_false] at h; cases h
  | true =>
   rw [I,cond_true] at h
   cases i with
   | zero =>
    simp at hu
    subst hu
    simp only [Bool.or_eq_true,ay] at I
    rcases I with (I | I) | I
    ·omega
    ·exact .inl I
    ·exact .inr I
   | succ i =>
    simp at hu
    have:=J (k+1) h i u hu (by omega)
    rwa [show k+1+i=k+(i+1) from by omega] at this
theorem Bz {ops:List Oper}{as es:List Nat}: ∀(l:List Oper) (k:Nat),pN ops as es l k=true→∀i o,l[i]?=some o→isAlloc o=true →
  ∀j u,ops[j]?=some u→k+i<j→gZ ops o u=true∨effsIn ((nth as j).getD 0) (k+i) es=true:=by
 intro l
 induction l with
 | nil=>intro k _ i o h; simp at h
 | cons y l U =>
  intro k h i o ho J j u hu bB
  simp only [pN] at h
  cases I:(!isAlloc y||oU ops as es y k ops 0) with
  | false=>rw [I,cond_false] at h; cases h
  | true =>
   rw [I,cond_true] at h
   cases i with
   | zero =>
    simp at ho
    subst ho
    simp only [J,Bool.not_true,Bool.false_or] at I
    have:=Dw ops 0 I j u hu (by omega)
    simpa using this
   | succ i =>
    simp at ho
    have:=U (k+1) h i o ho J j u hu (by omega)
    rwa [show k+1+i=k+(i+1) from by omega] at this
theorem ug {l:List Nat}{k:Nat}: pM l k=true↔k∈l:=by
 induction l with
 | nil=>simp [pM]
 | cons x l I =>
  simp only [pM,List.mem_cons]
  by_cases h:x=k
  ·subst h; simp
  ·rw [bT h,cond_false,I]
   exact ⟨.inr,fun e=>e.resolve_left (fun e=>h e.symm)⟩
theorem oo {ops:List Oper}{x y:Oper}(h:gZ ops x y=true):
  (∀d,x.dst=some d→d∉looks ops y∧y.dst≠some d)∧(∀d,y.dst=some d→d∉looks ops x):=by
 simp only [gZ,Bool.and_eq_true] at h
 refine ⟨fun d J => ?_,fun d J => ?_⟩
 ·have I:=h.1
  rw [J] at I
  simp only [Bool.and_eq_true,Bool.not_eq_true'] at I
  refine ⟨fun hm => ?_,fun he => ?_⟩
  ·rw [ug.2 hm] at I; cases I.1
  ·rw [he] at I
   simp [optBeq] at I
 ·have I:=h.2
  rw [J] at I
  simp only [Bool.not_eq_true'] at I
  exact fun hm=>by rw [ug.2 hm] at I; cases I
theorem xq {env:Env}{h h':H}{o:Oper}{v:V}(he:isEff C o.op=false)(I:evOp C self env h o=some (v,h')): h'=h:=by
  unfold evOp at I
  have pv:∀ {x:Option V},aB x h=some (v,h')→h'=h:=fun {x} e=>by
    cases x with
    | none=>simp [aB] at e
    | some u=>simp [aB] at e; exact e.2.symm
  split at I
  case h_13 s d x ho =>
    simp only [isEff,ho] at he
    split at I
    · rename_i u hu
      split at I
      · rename_i r J
        obtain ⟨r1,r2⟩:=r
        simp only [Option.some.injEq,Prod.mk.injEq] at I
        obtain ⟨rfl,rfl⟩:=I
        unfold convV at J
        repeat' (split at J)
        all_goals first
          | (simp only [Option.some.injEq,Prod.mk.injEq] at J; exact J.2.symm)
          | (rw [wg] at J
             split at J
             · simp only [Option.some.injEq,Prod.mk.injEq] at J
               exact J.2.symm
             · cases J)
          | (simp at J; done)
      · unfold convB at I
        generalize C.P.underlying s=ds at I
        generalize C.P.underlying d=dd at I he
        split at I
        · simp at he
        · simp at he
        · simp at I
    · simp at I
  case h_31 cl ho =>
    simp only [isEff,ho] at he
    unfold evCall at I
    split at I
    · simp at I
    · rename_i args _
      split at I
      · rename_i b hb
        rw [hb] at he
        unfold builtinV at I
        split at I
        · repeat' (split at I)
          · rename_i t _ _
            cases U:lenV C.P h t _ with
            | none=>rw [U] at I; simp at I
            | some q=>rw [U] at I; simp at I; exact I.2.symm
          · simp at I
        · simp at he
        · simp at he
        · simp at he
        · simp at he
        · rename_i x l _
          cases U:foldV maxV x l with
          | none=>simp [U] at I
          | some q=>simp [U] at I; exact I.2.symm
        · rename_i x l _
          cases U:foldV we x l with
          | none=>simp [U] at I
          | some q=>simp [U] at I; exact I.2.symm
        · simp at I
      · rename_i f hf; rw [hf] at he; simp at he
      · rename_i f m hf; rw [hf] at he; simp at he
  all_goals (try (rename_i ho; simp only [isEff,ho] at he; cases he; done))
  all_goals first
    | exact pv I
    | (repeat' (split at I)
       all_goals first
         | exact pv I
         | (simp only [Option.some.injEq,Prod.mk.injEq] at I; exact I.2.symm)
         | (simp at I; done))
end
end Go.Proofs.YtconhghphklfjaaGreat.Am
