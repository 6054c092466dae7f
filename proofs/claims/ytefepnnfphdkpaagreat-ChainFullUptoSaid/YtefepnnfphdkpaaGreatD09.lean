/- ChainFull: a part of its proof; conditions: its statement's. -/
import Derived.Test.YtefepnnfphdkpaaGreatD08
import Derived.Orders
namespace Go.Proofs.YtefepnnfphdkpaaGreat.Am
open Go
theorem Dq (m i:Nat): bit m i=m.testBit i:=by
 rw [F2,bit,Bd,beq_iff]
 simp
theorem Gg (a b i:Nat): bit (Nat.lor a b) i=(bit a i||bit b i):=by
 simp only [Dq]; exact Nat.testBit_or a b i
theorem Pa (k i:Nat): bit (2^k) i=decide (k=i):=by
 rw [Dq]; exact A5
theorem L3 (i:Nat): bit 0 i=false:=by simp [Dq]
theorem JG {acc:List Nat}{es:List Edge}{j:Nat}(h:bit (ancOf acc es) j=true):
  ∃e∈es,ew e=true∧(e.on=j∨bit ((nth acc e.on).getD 0) j=true):=by
 induction es with
 | nil=>simp [ancOf,L3] at h
 | cons e es ih =>
  simp only [ancOf] at h
  cases I:ew e with
  | true =>
   rw [I,af,Gg,Gg,Pa] at h
   simp only [j6,dz] at h
   rcases h with (h | h) | h
   ·exact ⟨e,by simp,I,.inl h⟩
   ·exact ⟨e,by simp,I,.inr h⟩
   ·obtain ⟨J,h1,h2⟩:=ih h
    exact ⟨J,by simp [h1],h2⟩
  | false =>
   rw [I,ay] at h
   obtain ⟨J,h1,h2⟩:=ih h
   exact ⟨J,by simp [h1],h2⟩
theorem L4 : ∀(l:List Oper) (acc:List Nat),(∀j,j<acc.length→(ancs l acc)[j]?=acc[j]?) ∧
  (∀j o,l[j]?=some o→∃pre,pre.length=acc.length+j∧(∀k,k<acc.length+j→pre[k]?=(ancs l acc)[k]?)∧(ancs l acc)[acc.length+j]?=some (ancOf pre o.after.toList)):=by
 intro l
 induction l with
 | nil=>intro acc; exact ⟨fun _ _=>rfl,fun j o h=>by simp at h⟩
 | cons x l ih =>
  intro acc
  obtain ⟨I,h2⟩:=ih (acc++[ancOf acc x.after.toList])
  simp only [ancs]
  refine ⟨fun j hj => ?_,fun j o ho => ?_⟩
  ·rw [I j (by simp; omega),gF hj]
  ·cases j with
   | zero =>
    simp at ho
    subst ho
    refine ⟨acc,by simp,fun k J => ?_,?_⟩
    ·rw [I k (by simp; omega),gF (by simpa using J)]
    ·rw [iC,I acc.length (by simp)]
     simp
   | succ j =>
    simp at ho
    obtain ⟨pre,p1,p2,p3⟩:=h2 j o ho
    simp only [bD,List.length_singleton] at p1 p2 p3
    exact ⟨pre,by omega,fun k J=>p2 k (by omega),by rw [show acc.length+(j+1)=acc.length+1+j from by omega]; exact p3⟩
section
variable {C:b9} {self:Self}
theorem Dr {L:List Oper}(hb:∀i o,L[i]?=some o→∀e∈o.after,ew e=true→e.on<i)(S:Nat→Prop):
  ∀(i:Nat) (o:Oper),L[i]?=some o→(∀k o',k<i→L[k]?=some o'→S k→∀e∈o'.after,ew e=true→S e.on)→(∀e∈o.after,ew e=true→S e.on) →
  ∀j,bit ((nth (ancs L []) i).getD 0) j=true→S j∧j<i:=by
 intro i
 induction i using Nat.strongRecOn with
 | _ i ih =>
  intro o ho ik hi j hj
  obtain ⟨pre,p1,p2,p3⟩:=(L4 L []).2 i o ho
  simp only [bG,dA] at p1 p2 p3
  rw [eW,p3] at hj
  obtain ⟨e,he,Gh,J⟩:=JG hj
  have zP:e∈o.after:=by simpa using he
  have I:=hb i o ho e zP Gh
  have hS:=hi e zP Gh
  rcases J with J | J
  ·rw [←J]; exact ⟨hS,I⟩
  ·have hlen:i<L.length:=(List.getElem?_eq_some_iff.1 ho).1
   obtain ⟨o',pN⟩:∃o',L[e.on]?=some o':=⟨_,aM (Nat.lt_trans I hlen)⟩
   rw [eW,p2 e.on I,←eW] at J
   obtain ⟨r1,r2⟩:=ih e.on I o' pN (fun k QN hk=>ik k QN (Nat.lt_trans hk I)) (fun e'=>ik e.on o' I pN hS e') j J
   exact ⟨r1,Nat.lt_trans r2 I⟩
theorem Ds : ∀(l:List Oper) (k:Nat),edgesBack l k=true→∀i o,l[i]?=some o→∀e∈o.after,ew e=true→e.on<k+i:=by
 intro l
 induction l with
 | nil=>intro k _ i o h; simp at h
 | cons x l ih =>
  intro k h i o ho e he J
  simp only [edgesBack] at h
  cases I:(x.after.toList.all fun e => !ew e||Nat.blt e.on k) with
  | false=>rw [I,ay] at h; cases h
  | true =>
   rw [I,af] at h
   cases i with
   | zero =>
    simp at ho
    subst ho
    have:=List.all_eq_true.1 I e (by simpa using he)
    simp only [J,Bool.not_true,qw] at this
    have:=fK.1 this
    omega
   | succ i =>
    simp at ho
    have:=ih (k+1) h i o ho e he J
    omega
theorem JH {fl:Bool}{ops:List Oper}{o:Oper}{m:Nat}: ∀(l:List Oper) (k:Nat),vb C fl ops o m l k=true→∀i x,l[i]?=some x →
  bit m (k+i)=true∨(jC ops x o=true∧(isEff C x.op=false∨isEff C o.op=false∨isAlloc fl o=true)):=by
 intro l
 induction l with
 | nil=>intro k _ i x h; simp at h
 | cons y l ih =>
  intro k h i x hx
  simp only [vb] at h
  cases J:(bit m k||(jC ops y o&&(!(isEff C y.op&&isEff C o.op)||isAlloc fl o))) with
  | false=>rw [J,ay] at h; cases h
  | true =>
   rw [J,af] at h
   cases i with
   | zero =>
    simp at hx
    subst hx
    simp only [j6,aH,sS,Bool.and_eq_false_iff] at J
    rcases J with J | ⟨h1,I | I⟩
    ·exact .inl J
    ·rcases I with I | I
     ·exact .inr ⟨h1,.inl I⟩
     ·exact .inr ⟨h1,.inr (.inl I)⟩
    ·exact .inr ⟨h1,.inr (.inr I)⟩
   | succ i =>
    simp at hx
    have:=ih (k+1) h i x hx
    rwa [show k+1+i=k+(i+1) from by omega] at this
theorem HK {I:Bool}{ops:List Oper}{as:List Nat}: ∀(l:List Oper) (k:Nat),w5 C I ops as l k=true→∀j o,l[j]?=some o→∀i x,i<k+j→ops[i]?=some x →
  bit ((nth as (k+j)).getD 0) i=true∨(jC ops x o=true∧(isEff C x.op=false∨isEff C o.op=false∨isAlloc I o=true)):=by
 intro l
 induction l with
 | nil=>intro k _ j o h; simp at h
 | cons y l ih =>
  intro k h j o ho i x hi hx
  simp only [w5] at h
  cases J:vb C I ops y ((nth as k).getD 0) (ops.take k) 0 with
  | false=>rw [J,ay] at h; cases h
  | true =>
   rw [J,af] at h
   cases j with
   | zero =>
    simp at ho
    subst ho
    have:=JH (ops.take k) 0 J i x (by rw [jx,ax (by omega)]; exact hx)
    simpa using this
   | succ j =>
    simp at ho
    have:=ih (k+1) h j o ho i x (by omega) hx
    rwa [show k+1+j=k+(j+1) from by omega] at this
theorem JI : ∀(l:List Oper) (k p:Nat),p∈cD C l k↔∃i o,p=k+i∧l[i]?=some o∧isEff C o.op=true:=by
 intro l
 induction l with
 | nil=>intro k p; simp [cD]
 | cons y l ih =>
  intro k p
  simp only [cD]
  cases hy:isEff C y.op with
  | true =>
   rw [af,gL,ih]
   constructor
   ·rintro (rfl | ⟨i,o,rfl,I,J⟩)
    ·exact ⟨0,y,by simp,by simp,hy⟩
    ·exact ⟨i+1,o,by omega,by simpa using I,J⟩
   ·rintro ⟨i,o,rfl,I,J⟩
    cases i with
    | zero=>left; rfl
    | succ i=>right; exact ⟨i,o,by omega,by simpa using I,J⟩
  | false =>
   rw [ay,ih]
   constructor
   ·rintro ⟨i,o,rfl,I,J⟩
    exact ⟨i+1,o,by omega,by simpa using I,J⟩
   ·rintro ⟨i,o,rfl,I,J⟩
    cases i with
    | zero=>simp at I; subst I; rw [hy] at J; cases J
    | succ i=>exact ⟨i,o,by omega,by simpa using I,J⟩
theorem vx : ∀(l:List Oper) (k:Nat),(cD C l k).Pairwise (· < ·)∧∀p∈cD C l k,k≤p:=by
 intro l
 induction l with
 | nil=>intro k; simp [cD]
 | cons y l ih =>
  intro k
  obtain ⟨h1,J⟩:=ih (k+1)
  simp only [cD]
  cases isEff C y.op with
  | true =>
   rw [af]
   exact ⟨List.pairwise_cons.2 ⟨fun p I=>by have:=J p I; omega,h1⟩,fun p I=>by
    rcases List.mem_cons.1 I with rfl | I
    ·exact aD _
    ·have:=J p I; omega⟩
  | false=>exact ⟨h1,fun p I=>by have:=J p I; omega⟩
theorem JJ {m j:Nat}: ∀ {l:List Nat},l.Pairwise (· < ·)→effsIn m j l=true→∀p∈l,p<j→bit m p=true:=by
 intro l
 induction l with
 | nil=>intro _ _ p I; simp at I
 | cons q l ih =>
  intro hs h p I J
  simp only [effsIn] at h
  rw [n_] at hs
  cases hq:Nat.blt q j with
  | true =>
   rw [hq,af] at h
   cases hb:bit m q with
   | false=>simp [hb] at h
   | true =>
    rw [hb,af] at h
    rcases List.mem_cons.1 I with rfl | I
    ·exact hb
    ·exact ih hs.2 h p I J
  | false =>
   have mu:¬ q<j:=fun e=>by rw [fK.2 e] at hq; cases hq
   rcases List.mem_cons.1 I with rfl | I
   ·exact absurd J mu
   ·have:=hs.1 p I; omega
theorem HL {ops:List Oper}{as es:List Nat}{o:Oper}{j:Nat}: ∀(l:List Oper) (k:Nat),th ops as es o j l k=true→∀i u,l[i]?=some u→j<k+i →
  jC ops o u=true∨effsIn ((nth as (k+i)).getD 0) j es=true:=by
 intro l
 induction l with
 | nil=>intro k _ i u h; simp at h
 | cons y l J =>
  intro k h i u hu aY
  simp only [th] at h
  cases I:(Nat.ble k j||jC ops o y||effsIn ((nth as k).getD 0) j es) with
  | false=>rw [I,ay] at h; cases h
  | true =>
   rw [I,af] at h
   cases i with
   | zero =>
    simp at hu
    subst hu
    simp only [j6,aE] at I
    rcases I with (I | I) | I
    ·omega
    ·exact .inl I
    ·exact .inr I
   | succ i =>
    simp at hu
    have:=J (k+1) h i u hu (by omega)
    rwa [show k+1+i=k+(i+1) from by omega] at this
theorem Fu {J:Bool}{ops:List Oper}{as es:List Nat}: ∀(l:List Oper) (k:Nat),tV J ops as es l k=true→∀i o,l[i]?=some o→isAlloc J o=true →
  ∀j u,ops[j]?=some u→k+i<j→jC ops o u=true∨effsIn ((nth as j).getD 0) (k+i) es=true:=by
 intro l
 induction l with
 | nil=>intro k _ i o h; simp at h
 | cons y l ih =>
  intro k h i o ho ha j u hu aY
  simp only [tV] at h
  cases I:(!isAlloc J y||th ops as es y k ops 0) with
  | false=>rw [I,ay] at h; cases h
  | true =>
   rw [I,af] at h
   cases i with
   | zero =>
    simp at ho
    subst ho
    simp only [ha,Bool.not_true,qw] at I
    have:=HL ops 0 I j u hu (by omega)
    simpa using this
   | succ i =>
    simp at ho
    have:=ih (k+1) h i o ho ha j u hu (by omega)
    rwa [show k+1+i=k+(i+1) from by omega] at this
theorem yA {l:List Nat}{k:Nat}: tU l k=true↔k∈l:=by
 induction l with
 | nil=>simp [tU]
 | cons x l I =>
  simp only [tU,gL]
  by_cases h:x=k
  ·subst h; simp
  ·rw [cV h,ay,I]
   exact ⟨.inr,fun e=>e.resolve_left (fun e=>h e.symm)⟩
theorem rU {ops:List Oper}{x y:Oper}(h:jC ops x y=true):
  (∀d,x.dst=some d→d∉looks ops y∧y.dst≠some d)∧(∀d,y.dst=some d→d∉looks ops x):=by
 simp only [jC,aH] at h
 refine ⟨fun d hd => ?_,fun d hd => ?_⟩
 ·have I:=h.1
  rw [hd] at I
  simp only [aH,sS] at I
  refine ⟨fun hm => ?_,fun he => ?_⟩
  ·rw [yA.2 hm] at I; cases I.1
  ·rw [he] at I
   simp [optBeq] at I
 ·have I:=h.2
  rw [hd] at I
  simp only [sS] at I
  exact fun hm=>by rw [yA.2 hm] at I; cases I
theorem B8 {env:Env}{h h':H}{o:Oper}{v:V}(he:isEff C o.op=false)(I:evOp C self env h o=some (v,h')): h'=h:=by
  unfold evOp at I
  have pv:∀ {x:Option V},aL x h=some (v,h')→h'=h:=fun {x} e=>by
    cases x with
    | none=>simp [aL] at e
    | some u=>simp [aL] at e; exact e.2.symm
  split at I
  case h_13 s d x ho =>
    simp only [isEff,ho] at he
    split at I
    · rename_i u hu
      split at I
      · rename_i r J
        obtain ⟨r1,r2⟩:=r
        simp only [aj,aC] at I
        obtain ⟨rfl,rfl⟩:=I
        unfold convV at J
        repeat' (split at J)
        all_goals first
          | (simp only [aj,aC] at J; exact J.2.symm)
          | (rw [Bl] at J
             split at J
             · simp only [aj,aC] at J
               exact J.2.symm
             · cases J)
          | (simp at J; done)
      · unfold convB at I
        generalize C.P.underlying s=ds at I
        generalize C.P.underlying d=dd at I he
        split at I
        · simp at he
        · simp at he
        · simp at I
    · simp at I
  case h_31 cl ho =>
    simp only [isEff,ho] at he
    unfold evCall at I
    split at I
    · simp at I
    · rename_i args _
      split at I
      · rename_i b hb
        rw [hb] at he
        unfold builtinV at I
        split at I
        · repeat' (split at I)
          · rename_i t _ _
            cases hl:lenV C.P h t _ with
            | none=>rw [hl] at I; simp at I
            | some q=>rw [hl] at I; simp at I; exact I.2.symm
          · simp at I
        · simp at he
        · simp at he
        · simp at he
        · simp at he
        · rename_i x l _
          cases hl:foldV maxV x l with
          | none=>simp [hl] at I
          | some q=>simp [hl] at I; exact I.2.symm
        · rename_i x l _
          cases hl:foldV yw x l with
          | none=>simp [hl] at I
          | some q=>simp [hl] at I; exact I.2.symm
        · simp at I
      · rename_i f hf; rw [hf] at he; simp at he
      · rename_i f m hf; rw [hf] at he; simp at he
  all_goals (try (rename_i ho; simp only [isEff,ho] at he; cases he; done))
  all_goals first
    | exact pv I
    | (repeat' (split at I)
       all_goals first
         | exact pv I
         | (simp only [aj,aC] at I; exact I.2.symm)
         | (simp at I; done))
end
section
variable {C:b9} {self:Self} {c:Ctx} {σ:H} {w:World}
theorem Rel.VF (h:Rel c σ w)(O:Go.Obj): Rel c σ (w.alloc O)∧b7 c w c (w.alloc O):=by
 have old:∀id,id<c.N→(w.alloc O).heap[(c.ρ id).1]?=w.heap[(c.ρ id).1]?:=fun id hi=>by
  rw [fE]; simp [fJ (h.jr id hi)]
 refine ⟨⟨h.next,h.live,fun id hi=>by have:=h.jr id hi; simp; omega,fun id hi=>by rw [jX w O (h.jr id hi)]; exact h.zz id hi,h.inj,fun id o ho=>(h.obj id o ho).later (Ext.refl c) (h.live id o ho) (old id (h.live id o ho)),h.one,h.fx⟩,
  ⟨Ext.refl c,by simp,fun b I=>jX w O I,fun b I _=>by rw [fE]; simp [fJ I],fun id J h2=>by omega,rfl,rfl⟩⟩
theorem oK {b:Nat}(I:∀id,id<c.N→(c.ρ id).1≠b)(base size:Nat): Ext c (c.grow b base size) :=
 ⟨by simp [Ctx.grow],fun id hi=>cH c _ _ _ hi,fun id hi=>by simp [Ctx.grow,I id hi],fun id hi=>eP c _ _ _ hi⟩
theorem Rel.CZ {b:Nat}{cs:List V}{T:TypeId}(h:Rel c σ w)(hb:b<w.heap.size)(hr:∀id,id<c.N→(c.ρ id).1≠b)(iV:∀v∈cs,wf c v∧storable v=true)
 (hg:w.heap[b]?=some (.cells (cs.map (conc c)).toArray T (0,0))): Rel (c.grow b 0 cs.length) (Am.newRow σ cs) w:=by
 have e:=oK hr 0 cs.length
 have hN:(c.grow b 0 cs.length).N=c.N+1:=rfl
 have key:∀i o,(Am.newRow σ cs).tr.get i=some o→(i=c.N∧o=.cells cs.length cs false)∨(i<c.N∧σ.tr.get i=some o):=by
  intro i o hi
  rw [Am.newRow,gh,h.next] at hi
  by_cases J:i=c.N
  ·simp [J] at hi; exact .inl ⟨J,hi.symm⟩
  ·simp [J] at hi; exact .inr ⟨h.live i o hi,hi⟩
 refine ⟨by simp [Am.newRow,H.new,Ctx.grow,h.next],fun i o hi => ?_,fun i hi => ?_,fun i hi => ?_,fun i j o o' hi hj he => ?_,fun i o hi => ?_,fun i m6 kz hi hx => ?_,fun i o hi hx => ?_⟩
 ·rw [hN]; rcases key i o hi with ⟨J,_⟩ | ⟨J,_⟩ <;> omega
 ·rw [hN] at hi
  by_cases J:i=c.N
  ·subst J; rw [aT]; exact hb
  ·rw [cH c _ _ _ (by omega)]; exact h.jr i (by omega)
 ·rw [hN] at hi
  by_cases J:i=c.N
  ·subst J; rw [aT]; simp [Ctx.grow,rowSize,hg]
  ·rw [cH c _ _ _ (by omega),←h.zz i (by omega)]; simp [Ctx.grow,hr i (by omega)]
 ·rcases key i o hi with ⟨I,_⟩ | ⟨I,a2⟩ <;> rcases key j o' hj with ⟨b1,_⟩ | ⟨b1,b2⟩
  ·exact .inl (by omega)
  ·subst I; rw [aT,cH c _ _ _ b1] at he; exact absurd he.symm (hr j b1)
  ·subst b1; rw [aT,cH c _ _ _ I] at he; exact absurd he (hr i I)
  ·rw [cH c _ _ _ I,cH c _ _ _ b1] at he; rw [eP c _ _ _ I,eP c _ _ _ b1]; exact h.inj i j _ _ a2 b2 he
 ·rcases key i o hi with ⟨rfl,rfl⟩ | ⟨I,a2⟩
  ·refine ⟨rfl,fun v hv=>⟨(bM e v (iV v hv).1).2,(iV v hv).2⟩,(cs.map (conc c)).toArray,T,(0,0),by rw [aT]; exact hg,by rw [aT]; simp,fun j v hj => ?_,rfl⟩
   rw [aT,(bM e v (iV v (aV hj)).1).1]
   simp [hj]
  ·exact (h.obj i o a2).later e I rfl
 ·rcases key i _ hi with ⟨rfl,_⟩ | ⟨I,a2⟩
  ·rw [aT]
  ·rw [eP c _ _ _ I] at hx
   rw [cH c _ _ _ I]; exact h.one i m6 kz a2 hx
 ·rcases key i o hi with ⟨rfl,_⟩ | ⟨I,a2⟩
  ·rw [tY] at hx; cases hx
  ·rw [eP c _ _ _ I] at hx; exact h.fx i o a2 hx
theorem b7.CZ {c₀:Ctx}{w₀:World}{b n:Nat}(h:b7 c₀ w₀ c w)(I:∀id,id<c.N→(c.ρ id).1≠b)(J:w₀.heap.size≤b): b7 c₀ w₀ (c.grow b 0 n) w where
 ext:=h.ext.trans (oK I 0 n)
 size:=h.size
 rows:=h.rows
 kU:=h.kU
 sys:=h.sys
 fresh:=fun id h1 h2=>by
  by_cases h3:id=c.N
  ·subst h3; left; rw [aT]; exact J
  ·have:id<c.N:=by
    have:(c.grow b 0 n).N=c.N+1:=rfl
    omega
   rw [cH c _ _ _ this]
   exact h.fresh id h1 this
theorem L5 {L:List Oper}: ∀(l:List Oper) (k:Nat) (s:St) (hs:List H) (tr:List (Env×V)) (J:List H) (z:St),
  trace C self L l s hs=some (tr,J,z) →
  ∃st:Nat→St,st k=s∧st (k+l.length)=z∧tr.length=l.length∧J=hs++(cD C l k).map (fun p=>(st (p+1)).h) ∧
   ∀j o,l[j]?=some o→∃v h,tr[j]?=some ((st (k+j)).env,v)∧(st (k+j)).put o.dst v h=some (st (k+j+1)) ∧
    (wantedV L (st (k+j)).env o=true→evOp C self (st (k+j)).env (st (k+j)).h o=some (v,h)) ∧
    (wantedV L (st (k+j)).env o=false→v=bJ∧h=(st (k+j)).h):=by
 intro l
 induction l with
 | nil =>
  intro k s hs tr J z h
  simp only [trace,aj,aC] at h
  obtain ⟨rfl,rfl,rfl⟩:=h
  exact ⟨fun _=>s,rfl,rfl,rfl,by simp [cD],fun j o h=>by simp at h⟩
 | cons o l ih =>
  intro k s hs tr J z h
  simp only [trace] at h
  cases h1:cond (wantedV L s.env o) (evOp C self s.env s.h o) (some (bJ,s.h)) with
  | none=>simp [h1] at h
  | some r =>
   obtain ⟨v,h'⟩:=r
   simp only [h1] at h
   cases I:s.put o.dst v h' with
   | none=>simp [I] at h
   | some s' =>
    simp only [I] at h
    cases h3:trace C self L l s' (cond (isEff C o.op) (hs++[h']) hs) with
    | none=>simp [h3] at h
    | some q =>
     obtain ⟨Xg,VG,z'⟩:=q
     simp only [h3,aj,aC] at h
     obtain ⟨rfl,rfl,rfl⟩:=h
     obtain ⟨st,i1,i2,i3,i4,i5⟩:=ih (k+1) s' _ Xg VG z' h3
     have VH:s'.h=h':=by
      cases hd:o.dst with
      | none=>rw [hd] at I; simp [St.put] at I; subst I; rfl
      | some d =>
       rw [hd] at I
       simp only [St.put] at I
       cases hq:Nat.blt d s.au with
       | false=>simp [hq] at I
       | true=>simp [hq] at I; subst I; rfl
     refine ⟨fun i=>if i=k then s else st i,by simp,?_,by simp [i3],?_,?_⟩
     ·simp only [aN]
      rw [ai (by omega),show k+(l.length+1)=k+1+l.length from by omega]
      exact i2
     ·rw [i4]
      have Q6:(cD C l (k+1)).map (fun p=>(st (p+1)).h)=(cD C l (k+1)).map (fun p=>(if p+1=k then s else st (p+1)).h):=by
       refine mS fun p hp => ?_
       have:=(vx l (k+1)).2 p hp
       rw [ai (by omega)]
      simp only [cD]
      cases isEff C o.op with
      | true =>
       simp only [af,cu]
       rw [Q6,ai (by omega),i1,VH]
       simp
      | false=>simp only [ay]; rw [Q6]
     ·intro j x hx
      cases j with
      | zero =>
       simp at hx
       subst hx
       refine ⟨v,h',by simp,?_,?_,?_⟩
       ·simp only [iC,bB]
        rw [ai (by omega),i1]; exact I
       ·intro hw
        simp only [iC,bB] at hw ⊢
        rw [hw,af] at h1; exact h1
       ·intro hw
        simp only [iC,bB] at hw ⊢
        rw [hw,ay] at h1
        simp at h1
        exact ⟨h1.1.symm,h1.2.symm⟩
      | succ j =>
       simp at hx
       obtain ⟨Zn,Pb,e1,e2,e3,e4⟩:=i5 j x hx
       have n1:¬ (k+(j+1)=k):=by omega
       have n2:¬ (k+(j+1)+1=k):=by omega
       have n3:k+(j+1)=k+1+j:=by omega
       refine ⟨Zn,Pb,?_,?_,?_,?_⟩
       ·simp only [n1,bF]; rw [n3]; simpa using e1
       ·simp only [n1,n2,bF]; rw [n3]; exact e2
       ·simp only [n1,bF]; rw [n3]; exact e3
       ·simp only [n1,bF]; rw [n3]; exact e4
theorem m7 {s s':St}{dst:Option Tmp}{v:V}{h:H}(I:s.put dst v h=some s'):
  s'.h=h∧s'.au=s.au∧(∀d,dst=some d→d<s.au)∧∀t,s'.env.v t=if dst=some t then v else s.env.v t:=by
 cases hd:dst with
 | none=>rw [hd] at I; simp [St.put] at I; subst I; simp
 | some d =>
  rw [hd] at I
  simp only [St.put] at I
  cases J:Nat.blt d s.au with
  | false=>simp [J] at I
  | true =>
   simp [J] at I
   subst I
   refine ⟨rfl,rfl,fun d' h'=>by simp at h'; subst h'; exact fK.1 J,fun t => ?_⟩
   simp only [Env.v,aK,aj]
   by_cases ht:t=d
   ·subst ht; simp
   ·simp [ht,ja ht]
structure fQ (C:b9)(sf:Self)(Fl:Nat→Prop)(L:List Oper)(s:St)(st:Nat→St)(vv:Nat→V)(es:List Nat)(Hs:Nat→H): Prop where
 back:∀i o,L[i]?=some o→∀e∈o.after,ew e=true→e.on<i
 HM:∀j o,L[j]?=some o→∀i x,i<j→L[i]?=some x→bit ((nth (ancs L []) j).getD 0) i=true∨(jC L x o=true∧(isEff C x.op=false∨isEff C o.op=false∨Fl j))
 xb:∀i o,L[i]?=some o→Fl i→isAlloc true o=true∧wantedV L (st i).env o=true
 JK:∀i o,L[i]?=some o→Fl i→∀j u,L[j]?=some u→i<j→jC L o u=true∨∀p∈es,p<i→bit ((nth (ancs L []) j).getD 0) p=true
 oQ:∀p,p∈es↔∃o,L[p]?=some o∧isEff C o.op=true
 sorted:es.Pairwise (· < ·)
 start:st 0=s
 step:∀i o,L[i]?=some o→∃h,(st i).put o.dst (vv i) h=some (st (i+1)) ∧
    (wantedV L (st i).env o=true→evOp C sf (st i).env (st i).h o=some (vv i,h))∧(wantedV L (st i).env o=false→vv i=bJ∧h=(st i).h)
 HN:Hs 0=s.h
 zQ:∀k p,es[k]?=some p→Hs (k+1)=(st (p+1)).h
 Ur:∀i o,L[i]?=some o→isEff C o.op=false→∀(Xh Xi p q:Nat),Xh≤Xi→es[Xh]?=some p→es[Xi]?=some q→bit ((nth (ancs L []) i).getD 0) q=true→bit ((nth (ancs L []) i).getD 0) p=true
 same:∀i o,L[i]?=some o→isEff C o.op=false→∀k,k≤es.length→(∀idx p,idx<k→es[idx]?=some p→bit ((nth (ancs L []) p).getD 0) i=false) →
  (∀idx p,k≤idx→es[idx]?=some p→bit ((nth (ancs L []) i).getD 0) p=false) →
  wantedV L (st i).env o=true→∃h',evOp C sf (st i).env (Hs k) o=some (vv i,h')
section draw
variable {Fl:Nat→Prop} {L:List Oper} {s:St} {st:Nat→St} {vv:Nat→V} {es:List Nat} {Hs:Nat→H}
theorem zR (pX:∀i o,L[i]?=some o→∃h,(st i).put o.dst (vv i) h=some (st (i+1)) ∧
    (wantedV L (st i).env o=true→evOp C self (st i).env (st i).h o=some (vv i,h))∧(wantedV L (st i).env o=false→vv i=bJ∧h=(st i).h))
 (Gi:∀p,p∈es↔∃o,L[p]?=some o∧isEff C o.op=true)(I:es.Pairwise (· < ·))(Q7:st 0=s)(Q8:Hs 0=s.h)(Q9:∀k p,es[k]?=some p→Hs (k+1)=(st (p+1)).h): ∀(i k:Nat),i≤L.length→k≤es.length→(∀idx p,idx<k→es[idx]?=some p→p<i)→(∀idx p,k≤idx→es[idx]?=some p→i≤p)→(st i).h=Hs k:=by
 intro i
 induction i with
 | zero =>
  intro k _ hk h1 _
  have:k=0:=by
   rcases sP k with h | h
   ·exact h
   ·have h0:0<es.length:=by omega
    have:=h1 0 es[0] h (aM h0)
    omega
  subst this
  rw [Q7,Q8]
 | succ i ih =>
  intro k hi hk h1 h2
  obtain ⟨o,ho⟩:∃o,L[i]?=some o:=⟨_,aM (by omega)⟩
  obtain ⟨h,p1,p2,p3⟩:=pX i o ho
  have ph:=(m7 p1).1
  cases he:isEff C o.op with
  | true =>
   have hm:=(Gi i).2 ⟨o,ho,he⟩
   obtain ⟨idx,J⟩:=sK hm
   -- its place is k - 1
   have Q_:idx<k:=by
    rcases iD idx k with h' | h'
    ·exact h'
    ·have:=h2 idx i h' J; omega
   have Xj:k=idx+1:=by
    rcases iD (idx+1) k with h' | h'
    ·exfalso
     have aY:idx+1<es.length:=by omega
     have h3:=h1 (idx+1) es[idx+1] h' (aM aY)
     obtain ⟨Th,hv⟩:=List.getElem?_eq_some_iff.1 J
     have h4:=(List.pairwise_iff_getElem.1 I) idx (idx+1) Th aY (by omega)
     rw [hv] at h4
     omega
    ·omega
   rw [Xj,Q9 idx i J]
  | false =>
   have hn:∀idx p,es[idx]?=some p→p≠i:=fun idx p hp e=>by
    subst e
    obtain ⟨o',pN,zP⟩:=(Gi p).1 (aV hp)
    rw [ho] at pN
    simp at pN
    subst pN
    rw [he] at zP
    cases zP
   have:=ih k (by omega) hk (fun idx p aY hp=>by have:=h1 idx p aY hp; have:=hn idx p hp; omega) (fun idx p hle hp=>by have:=h2 idx p hle hp; omega)
   rw [ph,←this]
   cases hw:wantedV L (st i).env o with
   | true=>exact B8 he (p2 hw)
   | false=>exact (p3 hw).2
theorem fQ.Dt (D:fQ C self Fl L s st vv es Hs): ∀(i k:Nat),i≤L.length→k≤es.length→(∀idx p,idx<k→es[idx]?=some p→p<i)→(∀idx p,k≤idx→es[idx]?=some p→i≤p)→(st i).h=Hs k :=
 zR D.step D.oQ D.sorted D.start D.HN D.zQ
theorem fQ.C0 (D:fQ C self Fl L s st vv es Hs)(t:Nat): ∀(i:Nat),i≤L.length →
  (∃j o,j<i∧L[j]?=some o∧o.dst=some t∧(∀J o',J<i→L[J]?=some o'→o'.dst=some t→J≤j)∧(st i).env.v t=vv j) ∨
  ((∀J o',J<i→L[J]?=some o'→o'.dst≠some t)∧(st i).env.v t=s.env.v t):=by
 intro i
 induction i with
 | zero=>intro _; right; exact ⟨fun J o' h=>by omega,by rw [D.start]⟩
 | succ i ih =>
  intro hi
  obtain ⟨o,ho⟩:∃o,L[i]?=some o:=⟨_,aM (by omega)⟩
  obtain ⟨h,p1,_,_⟩:=D.step i o ho
  obtain ⟨_,_,_,pe⟩:=m7 p1
  by_cases hd:o.dst=some t
  ·left
   exact ⟨i,o,by omega,ho,hd,fun J o' h' _ _=>by omega,by rw [pe,ax hd]⟩
  ·rcases ih (by omega) with ⟨j,oj,h1,h2,h3,h4,h5⟩ | ⟨h1,h2⟩
   ·left
    refine ⟨j,oj,by omega,h2,h3,fun J o' hj I NX => ?_,by rw [pe,ai hd]; exact h5⟩
    by_cases pO:J=i
    ·subst pO; rw [ho] at I; simp at I; subst I; exact absurd NX hd
    ·exact h4 J o' (by omega) I NX
   ·right
    refine ⟨fun J o' hj I => ?_,by rw [pe,ai hd]; exact h2⟩
    by_cases pO:J=i
    ·subst pO; rw [ho] at I; simp at I; subst I; exact hd
    ·exact h1 J o' (by omega) I
theorem fQ.au (D:fQ C self Fl L s st vv es Hs): ∀i,i≤L.length→(st i).au=s.au:=by
 intro i
 induction i with
 | zero=>intro _; rw [D.start]
 | succ i I =>
  intro hi
  obtain ⟨o,ho⟩:∃o,L[i]?=some o:=⟨_,aM (by omega)⟩
  obtain ⟨h,J,_,_⟩:=D.step i o ho
  rw [(m7 J).2.1,I (by omega)]
inductive FV where
 | ptr
 | sl (n m:Nat)
def FV.v : FV→Nat→V
 | .ptr,i=>.ptr i 0
 | .sl n m,i=>.sl i 0 n (.exact m)
def FV.val : FV→Nat→Value
 | .ptr,b=>.pointer (some ⟨b,0,none⟩)
 | .sl n m,b=>.slice (some ⟨b,0,none⟩) n m
def FV.good : FV→Prop
 | .ptr=>True
 | .sl n m=>n≤m
theorem FV.JL (I:FV)(c:Ctx)(b size:Nat): conc (c.grow b 0 size) (I.v c.N)=I.val b:=by
 cases I <;> simp [FV.v,FV.val,conc,aT]
theorem FV.Pc {I:FV}(h:I.good)(c:Ctx)(b size:Nat): wf (c.grow b 0 size) (I.v c.N):=by
 cases I with
 | ptr=>simp [FV.v,wf,jG]
 | sl n m=>simp only [FV.v,wf,jG]; exact ⟨Bb _,h⟩
structure Bu (C:b9)(sf:Self)(env:Env)(o:Oper)(fv:FV)(cs:List V)(T:TypeId): Prop where
 ev:∀h,evOp C sf env h o=some (fv.v h.next,Am.newRow h cs)
 good:fv.good
 run:∀(c:Ctx) (a:Act),zG c env a o→(∀v∈cs,wf c v∧storable v=true)∧∀w,(execOp a.eval o).run C.P w=.ok (.value (fv.val w.heap.size)) (w.alloc (.cells (cs.map (conc c)).toArray T))
theorem run_makeSlice {P:Program}{t e:TypeId}{i:TypeInfo}{z:V}{k1 k2:IntKind}{l n:Int}(ht:P.underlying t=some (.slice e))(hi:P.info? e=some i)(hz:zeroT P e=some z)
 (q1:0≤l)(q2:l≤n)(q3:n<1073741824)(q4:i.bytes≤4096)(q5:z.cells.length=i.size)(q6:1≤i.size)(c:Ctx)(w:World):
  (Instr.makeSlice t (.int k1 l) (.int k2 n)).run P w=.ok (.slice (some ⟨w.heap.size,0,none⟩) l.toNat n.toNat) (w.alloc (.cells ((repeatL z.cells n.toNat).map (conc c)).toArray e)):=by
 obtain ⟨z1,z2⟩:=eX hz c w
 have w1:=rQ q1 (by omega)
 have w2:=rQ (x:=n) (by omega) (by omega)
 have hb:¬ ((i.bytes:Int)*n>2^48):=by
  have:(i.bytes:Int)*n≤4096*1073741824:=Int.mul_le_mul (by omega) (by omega) (by omega) (by omega)
  omega
 have Gb:¬ (n<0):=by omega
 have vn:¬ (l<0):=by omega
 have QV:¬ (l>n):=by omega
 have J:(sizeOf e).run P w=.ok i.size w:=by simp [sizeOf,typeInfo,hi]
 have Jr:(typeInfo e).run P w=.ok i w:=by simp [typeInfo,hi]
 simp only [Instr.makeSlice,Sem.run_bind,run_underlying ht,Result.andThen_ok,asInt,asIntOf,Sem.run_pure,Jr,w1,w2]
 have I:(((decide (n<0)||decide ((i.bytes:Int)*n>2^48))||decide (l<0))||decide (l>n))=false:=by
  simp only [Gb,hb,vn,QV,mZ,Bool.or_self]
 rw [I]
 simp only [dV,bF]
 by_cases h0:n.toNat*i.size=0
 ·have hn:n.toNat=0:=by
   rcases Nat.mul_eq_zero.1 h0 with e1 | e1
   ·exact e1
   ·omega
  rw [hn]
  have xW:(Array.map (fun (_:Nat)=>(default:Value)) (Array.range 0)) = #[]:=by simp [Array.range]
  simp [Go.newRow,repeatL,J,xW]
 ·have xV:((Array.range (n.toNat*i.size)).map fun j=>((z.cells.map (conc c)).toArray)[j%((z.cells.map (conc c)).toArray).size]!)=((repeatL z.cells n.toNat).map (conc c)).toArray:=by
   rw [←q5]; exact lq c z.cells n.toNat (by omega)
  have vo:(conc c z).cells=(z.cells.map (conc c)).toArray:=eE c z
  simp only [Sem.run_bind,Sem.run_pure,run_askRoom,Result.andThen_ok,J,h0,bF,z1,vo,xV,Go.newRow,run_newObj]
  rfl
theorem HO {o:Oper}(h:isAlloc true o=true): ((∃T,o.op=.alloc T)∨(∃t x y,o.op=.makeSlice t x y)∨∃t n ps,o.op=.buildSlice t n ps)∧∃d,o.dst=some d:=by
 unfold isAlloc at h
 split at h
 ·rename_i T d I h2 J
  exact ⟨.inl ⟨T,I⟩,⟨d,J⟩⟩
 ·rename_i t x y d I h2 J
  exact ⟨.inr (.inl ⟨t,x,y,I⟩),⟨d,J⟩⟩
 ·rename_i t n ps d I J
  exact ⟨.inr (.inr ⟨t,n,ps,I⟩),⟨d,J⟩⟩
 ·simp at h
theorem tB {P:Program}{t e:TypeId}{n k:Nat}{z:V}{l:List (Nat×V)}{cs:List V}(ht:P.underlying t=some (.slice e))(hk:bk P e=some k)(hz:zeroT P e=some z)(q1:z.cells.length=k)(q2:n*k≤65536)(q3:1≤k)
 (hf:fillV (fun i=>some (i*k,k)) (repeatL z.cells n) l=some cs)(c:Ctx)(hl:∀x∈l,wf c x.2)(w:World):
  (∀v∈cs,wf c v)∧(Instr.buildSlice t n (l.map fun x=>(x.1,conc c x.2)).toArray).run P w=.ok (.slice (some ⟨w.heap.size,0,none⟩) n n) (w.alloc (.cells (cs.map (conc c)).toArray e)):=by
 obtain ⟨z1,z2⟩:=eX hz c w
 obtain ⟨f1,f2,f3⟩:=w6 (c:=c) _ l _ cs hf (fun v hv=>iF z2 v (iW hv)) hl
 refine ⟨f2,?_⟩
 have I:¬ (n*k>2^24):=by omega
 have J:((Array.range (n*k)).map fun i=>((z.cells.map (conc c)).toArray)[i%((z.cells.map (conc c)).toArray).size]!)=((repeatL z.cells n).map (conc c)).toArray:=by
  rw [←q1]; exact lq c z.cells n (by omega)
 by_cases h0:n*k=0
 ·have iV:(repeatL z.cells n)=[]:=by
   have:(repeatL z.cells n).length=0:=by rw [j_,q1]; exact h0
   exact List.length_eq_zero_iff.1 this
  rw [iV] at f1
  simp only [List.map_nil] at f1
  simp only [Instr.buildSlice,Sem.run_bind,run_underlying ht,Result.andThen_ok,b_ hk,h0,bB]
  have xW:(Array.map (fun (_:Nat)=>(default:Value)) (Array.range 0)) = #[]:=by simp [Array.range]
  simp [xW,f1,Go.newRow]
 ·simp only [Instr.buildSlice,Sem.run_bind,run_underlying ht,Result.andThen_ok,b_ hk,I,bF,h0,Sem.run_pure,z1,eE,J,f1]
  simp [Go.newRow]
theorem HP {o:Oper}{env:Env}{h h':H}{v:V}(NY:isAlloc true o=true)(I:evOp C self env h o=some (v,h')): ∃fv cs T,Bu C self env o fv cs T:=by
 obtain ⟨J,d,hd⟩:=HO NY
 rcases J with ⟨T,J⟩ | ⟨t,x,y,J⟩ | ⟨t,n,ps,J⟩
 ·cases hz:zeroT C.P T with
  | none=>simp [evOp,J,hz] at I
  | some z =>
   refine ⟨.ptr,z.cells,T,fun h=>by simp [evOp,J,hz,FV.v],aa,fun c a _=>⟨fun v hv=>⟨iF (eX (P:=C.P) hz c default).2 v hv,j9 hz v hv⟩,fun w => ?_⟩⟩
   simp [execOp,J,Instr.alloc,(eX hz c w).1,newVar,Go.newRow,eE,FV.val]
 ·simp only [evOp,J] at I
  cases hx:evO env x with
  | none=>simp [hx] at I
  | some u =>
   cases hy:evO env y with
   | none=>simp [hx,hy] at I
   | some u' =>
    simp only [hx,hy] at I
    have VI:=I
    unfold makeSliceV at I
    generalize ht:C.P.underlying t=dt at I
    split at I
    ·rename_i e
     split at I
     ·rename_i i z k1 l k2 n hi hz
      cases hq:(decide (0≤l)&&decide (l≤n)&&decide (n<1073741824)&&Nat.ble i.bytes 4096&&Nat.beq z.cells.length i.size&&Nat.ble 1 i.size) with
      | false=>simp [hq] at I
      | true =>
       have mu:=hq
       simp only [aH,dz,beq_iff,aE] at hq
       obtain ⟨⟨⟨⟨⟨q1,q2⟩,q3⟩,q4⟩,q5⟩,q6⟩:=hq
       have hlen:(repeatL z.cells n.toNat).length=n.toNat*i.size:=by rw [j_,q5]
       refine ⟨.sl l.toNat n.toNat,repeatL z.cells n.toNat,e,fun h => ?_,by simp only [FV.good]; omega,fun c a ho=>⟨fun v hv=>⟨iF (eX (P:=C.P) hz c default).2 v (iW hv),j9 hz v (iW hv)⟩,fun w => ?_⟩⟩
       ·simp only [evOp,J,hx,hy,makeSliceV,ht,hi,hz,mu,af,FV.v,Am.newRow,hlen]
       ·obtain ⟨x1,_⟩:=ho x (by simp [J,Op.operands]) _ hx
        obtain ⟨y1,_⟩:=ho y (by simp [J,Op.operands]) _ hy
        have:=run_makeSlice (k1:=k1) (k2:=k2) ht hi hz q1 q2 q3 q4 q5 q6 c w
        simp only [conc] at x1 y1
        simp [execOp,J,x1,y1,this,FV.val]
     ·cases I
    ·cases I
 ·simp only [evOp,J] at I
  cases rT:evParts env ps.toList with
  | none=>simp [rT] at I
  | some l =>
   simp only [rT] at I
   have VI:=I
   unfold buildSliceV at I
   generalize ht:C.P.underlying t=dt at I
   split at I
   ·rename_i e
    cases hk:bk C.P e with
    | none=>simp [hk] at I
    | some k =>
     cases hz:zeroT C.P e with
     | none=>simp [hk,hz] at I
     | some z =>
      simp only [hk,hz] at I
      cases hq:(Nat.beq z.cells.length k&&Nat.ble (n*k) 65536&&Nat.ble 1 k) with
      | false=>simp [hq] at I
      | true =>
       simp only [hq,af] at I
       have mu:=hq
       simp only [aH,beq_iff,aE] at hq
       obtain ⟨⟨q1,q2⟩,q3⟩:=hq
       cases hf:fillV (fun i=>some (i*k,k)) (repeatL z.cells n) l with
       | none=>simp [hf] at I
       | some cs =>
        simp only [hf] at I
        cases hs:cs.all storable with
        | false=>simp [hs] at I
        | true =>
         refine ⟨.sl n n,cs,e,fun h => ?_,aD _,fun c a ho => ?_⟩
         ·simp only [evOp,J,rT,buildSliceV,ht,hk,hz,mu,hf,hs,af,FV.v]
         ·obtain ⟨f1,f2⟩:=tZ (a:=a) (c:=c) _ _ (fun x hx=>ho x.2 (by simp only [J,Op.operands]; simp; exact ⟨x.1,by simpa using hx⟩)) rT
          have Xk:(ps.map fun (i,x)=>(i,a.eval x))=(l.map fun x=>(x.1,conc c x.2)).toArray:=by
           apply gN
           simpa using f1
          refine ⟨fun v hv=>⟨(tB ht hk hz q1 q2 q3 hf c f2 default).1 v hv,(List.all_eq_true.1 hs) v hv⟩,fun w => ?_⟩
          have:=(tB ht hk hz q1 q2 q3 hf c f2 w).2
          simp only [execOp,J]
          rw [Xk]
          simp [this,FV.val]
   ·cases I
structure fC (C:b9)(sf:Self)(Fl:Nat→Prop)(L:List Oper)(s:St)(st:Nat→St)(vv:Nat→V)(es:List Nat)(Hs:Nat→H)(c₀:Ctx)(w₀:World)(d₀:List Deferred)
 (S:Nat→Prop)(early:Nat→Option (Nat×FV))(k:Nat)(c:Ctx)(a:Act)(w:World): Prop where
 closed:∀i o,S i→L[i]?=some o→∀e∈o.after,ew e=true→S e.on
 pre:∀idx p,idx<k→es[idx]?=some p→S p
 Du:k≤es.length
 late:∀idx p,k≤idx→es[idx]?=some p→S p→Fl p∧∃b,early p=some b
 qF:∀p b,early p=some b→S p∧∃idx,k≤idx∧es[idx]?=some p
 rel:Rel c (Hs k) w
 size:a.tmps.size=s.au
 tmp:∀t,(∃i o,S i∧L[i]?=some o∧o.dst=some t∧(∀j o',S j→L[j]?=some o'→o'.dst=some t→j≤i) ∧
     ((∃b,early i=some b∧a.tmps.getD t undef=b.2.val b.1)∨(early i=none∧a.tmps.getD t undef=conc c (vv i)∧wf c (vv i)))) ∨
    ((∀j o',S j→L[j]?=some o'→o'.dst≠some t)∧a.tmps.getD t undef=conc c (s.env.v t)∧wf c (s.env.v t))
 blocks:∀p b,early p=some b→w₀.heap.size≤b.1∧b.1<w.heap.size∧(∀id,id<c.N→(c.ρ id).1≠b.1) ∧
  ∃o T cs,L[p]?=some o∧Bu C sf (st p).env o b.2 cs T∧(∀v∈cs,wf c v∧storable v=true)∧w.heap[b.1]?=some (.cells (cs.map (conc c)).toArray T (0,0))
 distinct:∀p q b b',early p=some b→early q=some b'→b.1=b'.1→p=q
 Gj:b7 c₀ w₀ c w
 defers:a.defers=d₀
theorem JM (D:fQ C self Fl L s st vv es Hs){i j p:Nat}(h1:es[i]?=some p)(h2:es[j]?=some p): i=j:=by
 obtain ⟨I,b1⟩:=List.getElem?_eq_some_iff.1 h1
 obtain ⟨J,b2⟩:=List.getElem?_eq_some_iff.1 h2
 rcases A9 i j with h | h | h
 ·have:=(List.pairwise_iff_getElem.1 D.sorted) i j I J h; omega
 ·exact h
 ·have:=(List.pairwise_iff_getElem.1 D.sorted) j i J I h; omega
theorem xg (D:fQ C self Fl L s st vv es Hs){i j p q:Nat}(h1:es[i]?=some p)(h2:es[j]?=some q): i<j↔p<q:=by
 obtain ⟨I,b1⟩:=List.getElem?_eq_some_iff.1 h1
 obtain ⟨J,b2⟩:=List.getElem?_eq_some_iff.1 h2
 constructor
 ·intro h; have:=(List.pairwise_iff_getElem.1 D.sorted) i j I J h; omega
 ·intro h
  rcases A9 i j with h' | h' | h'
  ·exact h'
  ·subst h'; omega
  ·have:=(List.pairwise_iff_getElem.1 D.sorted) j i J I h'; omega
theorem fC.Ra {c₀:Ctx}{w₀:World}{d₀:List Deferred}{S:Nat→Prop}{early:Nat→Option (Nat×FV)}{k p:Nat}{a:Act}(D:fQ C self Fl L s st vv es Hs)
 (I:fC C self Fl L s st vv es Hs c₀ w₀ d₀ S early k c a w)(hp:es[k]?=some p)(hS:S p):
  ∃lE c',fC C self Fl L s st vv es Hs c₀ w₀ d₀ S lE (k+1) c' a w:=by
 obtain ⟨lF,b,NZ⟩:=I.late k p (aD _) hp hS
 obtain ⟨b1,b2,b3,o,T,cs,ho,F,VJ,rM⟩:=I.blocks p b NZ
 obtain ⟨NY,hw⟩:=D.xb p o ho lF
 obtain ⟨h,p1,p2,_⟩:=D.step p o ho
 have ke:=p2 hw
 have hlen:p<L.length:=(List.getElem?_eq_some_iff.1 ho).1
 have Ti:(st p).h=Hs k:=D.Dt p k (by omega) I.Du (fun idx q aY J=>(xg D J hp).1 aY) (fun idx q hle J=>by
  rcases sQ hle with e | e
  ·subst e; rw [hp] at J; simp at J; omega
  ·exact Nat.le_of_lt ((xg D hp J).1 e))
 rw [F.ev] at ke
 simp only [Ti,aj,aC] at ke
 obtain ⟨hv,hh⟩:=ke
 have Tj:Hs (k+1)=Am.newRow (Hs k) cs:=by rw [D.zQ k p hp,(m7 p1).1,hh]
 have ex:=oK b3 0 cs.length
 refine ⟨fun q=>if q=p then none else early q,c.grow b.1 0 cs.length,⟨I.closed,fun idx q aY J => ?_,?_,fun idx q hle J Xl => ?_,fun q b' J => ?_,?_,I.size,fun t => ?_,fun q b' J => ?_,fun q q' b' Us J mu he => ?_,?_,I.defers⟩⟩
 ·by_cases e:idx=k
  ·subst e; rw [hp] at J; simp at J; subst J; exact hS
  ·exact I.pre idx q (by omega) J
 ·have:=(List.getElem?_eq_some_iff.1 hp).1; omega
 ·obtain ⟨g1,b',g3⟩:=I.late idx q (by omega) J Xl
  have dw:q≠p:=fun e=>by subst e; have:=JM D J hp; omega
  exact ⟨g1,b',by simp [dw,g3]⟩
 ·by_cases dw:q=p
  ·simp [dw] at J
  ·simp [dw] at J
   obtain ⟨g1,idx,g2,g3⟩:=I.qF q b' J
   refine ⟨g1,idx,?_,g3⟩
   rcases sQ g2 with e | e
   ·subst e; rw [hp] at g3; simp at g3; exact absurd g3.symm dw
   ·exact e
 ·rw [Tj]
  exact I.rel.CZ b2 b3 VJ rM
 ·rcases I.tmp t with ⟨i,oi,g1,g2,g3,g4,g5⟩ | ⟨g1,g2,g3⟩
  ·left
   refine ⟨i,oi,g1,g2,g3,g4,?_⟩
   by_cases Rb:i=p
   ·subst Rb
    right
    refine ⟨by simp,?_,?_⟩
    ·rcases g5 with ⟨b',e1,e2⟩ | ⟨e1,_⟩
     ·rw [NZ] at e1
      simp at e1
      subst e1
      rw [e2,←hv,I.rel.next,FV.JL]
     ·rw [NZ] at e1; cases e1
    ·rw [←hv,I.rel.next]; exact FV.Pc F.good c _ _
   ·rcases g5 with ⟨b',e1,e2⟩ | ⟨e1,e2,e3⟩
    ·left; exact ⟨b',by simp [Rb,e1],e2⟩
    ·right
     exact ⟨by simp [Rb,e1],by rw [e2,(bM ex _ e3).1],(bM ex _ e3).2⟩
  ·right
   exact ⟨g1,by rw [g2,(bM ex _ g3).1],(bM ex _ g3).2⟩
 ·by_cases dw:q=p
  ·simp [dw] at J
  ·simp [dw] at J
   obtain ⟨g1,g2,g3,o',T',cs',g4,g5,g6,g7⟩:=I.blocks q b' J
   refine ⟨g1,g2,fun id uP => ?_,o',T',cs',g4,g5,fun v hv=>⟨(bM ex v (g6 v hv).1).2,(g6 v hv).2⟩,by rw [mS fun v hv=>(bM ex v (g6 v hv).1).1]; exact g7⟩
   by_cases hN:id=c.N
   ·subst hN
    rw [aT]
    intro e
    exact dw (I.distinct q p b' b J NZ e.symm)
   ·have:(c.grow b.1 0 cs.length).N=c.N+1:=rfl
    rw [cH c _ _ _ (by omega)]
    exact g3 id (by omega)
 ·by_cases h1:q=p
  ·simp [h1] at J
  ·by_cases h2:q'=p
   ·simp [h2] at mu
   ·simp [h1] at J; simp [h2] at mu; exact I.distinct q q' b' Us J mu he
 ·exact I.Gj.CZ b3 b1
theorem fC.B9 {c₀:Ctx}{w₀:World}{d₀:List Deferred}{S:Nat→Prop}{a:Act}(D:fQ C self Fl L s st vv es Hs): ∀(m k:Nat) (early:Nat→Option (Nat×FV)) (c:Ctx),
  es.length-k=m→fC C self Fl L s st vv es Hs c₀ w₀ d₀ S early k c a w→∃J k' c',fC C self Fl L s st vv es Hs c₀ w₀ d₀ S J k' c' a w∧∀p,es[k']?=some p→¬ S p:=by
 intro m
 induction m with
 | zero =>
  intro k early c hm I
  refine ⟨early,k,c,I,fun p hp => ?_⟩
  have:=(List.getElem?_eq_some_iff.1 hp).1
  omega
 | succ m ih =>
  intro k early c hm I
  cases hq:es[k]? with
  | none=>exact ⟨early,k,c,I,fun p hp=>by rw [hq] at hp; cases hp⟩
  | some p =>
   by_cases hS:S p
   ·obtain ⟨e',c',I'⟩:=I.Ra D hq hS
    exact ih (k+1) e' c' (by omega) I'
   ·exact ⟨early,k,c,I,fun p' uQ=>by rw [hq] at uQ; simp at uQ; subst uQ; exact hS⟩
end draw
end
end Go.Proofs.YtefepnnfphdkpaaGreat.Am
