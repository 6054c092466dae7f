/- After a crash the log has the records of the groups that are there and no others, with their numbers and data; the conditions are those of the given statement, for arguments that a machine can hold. Part 22 of 54. -/
import Derived.Test.YtconhghphklfjaaGreatL12
import Derived.Shelf.SlIterI.Sorted
namespace Go.Proofs.YtconhghphklfjaaGreat.Am
open Go Go.Maps Go.RowKit
def keyInts : List (V×V×Nat)→Option (List Int)
 | []=>some []
 | (.int .i64 n,_,_)::l=>cond (Lit.int .i64 n).wf (match keyInts l with
  | some m=>some (n::m)
  | none=>none) none
 | _=>none
def bornUp (clock:Nat): Nat→List (V×V×Nat)→Bool
 | _,[]=>true
 | b,(_,_,x)::l=>cond (Nat.ble b x&&Nat.blt x clock) (bornUp clock (x+1) l) false
def insI (x:Int): List Int→List Int
 | []=>[x]
 | y::l=>cond (decide (x≤y)) (x::y::l) (y::insI x l)
def jc : List Int→List Int
 | []=>[]
 | x::l=>insI x (jc l)
def my : List Int→Bool
 | []=>true
 | x::l=>l.all (fun y=>decide (x<y))&&my l
def dO (l:List Int): List V:=l.map (V.int .i64)
noncomputable def toldSorted (gs:List Nat): List V→H→Option (V×H)
 | [.fn (.func g) [] [.ptr b 0]],h=>match h.tr.get b with
  | some (.cells n [.map id] false)=>match h.tr.get id with
   | some (.map es clock)=>cond (Nat.beq n 1&&pM gs g&&bornUp clock 0 es&&Nat.ble es.length 1048576) (match keyInts es with
    | some ks=>cond (my (jc ks)) (match ks with
     | []=>some (.aH,h)
     | _=>some (.sl h.next 0 ks.length (.rest 1 0),newRow h (dO (jc ks)))) none
    | none=>none) none
   | _=>none
  | _=>none
 | _,_=>none
theorem rR (x:Int): ∀l:List Int,(insI x l).Perm (x::l)
 | []=>.refl _
 | y::l=>by
  simp only [insI]
  cases decide (x≤y) with
  | true=>exact .refl _
  | false=>exact ((rR x l).cons y).trans (.swap x y l)
theorem en : ∀l:List Int,(jc l).Perm l
 | []=>.refl _
 | x::l=>(rR x _).trans ((en l).cons x)
theorem xJ : ∀l:List Int,my l=true→l.Pairwise (· < ·)
 | [],_=>.nil
 | x::l,h=>by
  simp only [my,Bool.and_eq_true,List.all_eq_true,decide_eq_true_eq] at h
  exact List.pairwise_cons.2 ⟨h.1,xJ l h.2⟩
theorem pn : ∀ {l m:List Int},l.Perm m→l.Pairwise (· ≤ ·)→m.Pairwise (· ≤ ·)→l=m
 | [],m,I,_,_=>I.nil_eq
 | a::r,[],I,_,_=>absurd I.symm.nil_eq (by simp)
 | a::r,b::s,I,U,h2=>by
  obtain ⟨a1,a2⟩:=List.pairwise_cons.1 U
  obtain ⟨b1,b2⟩:=List.pairwise_cons.1 h2
  have J:a=b:=by
   have ha:a∈b::s:=I.mem_iff.1 (by simp)
   have hb:b∈a::r:=I.mem_iff.2 (by simp)
   have l1:b≤a:=by
    rcases List.mem_cons.1 ha with h | h
    ·omega
    ·exact b1 a h
   have l2:a≤b:=by
    rcases List.mem_cons.1 hb with h | h
    ·omega
    ·exact a1 b h
   omega
  subst J
  rw [pn (List.Perm.cons_inv I) a2 b2]
theorem xK {clock:Nat}: ∀(l:List (V×V×Nat)) (b:Nat),bornUp clock b l=true→(∀x∈l,b≤x.2.2∧x.2.2<clock)∧(l.map (·.2.2)).Nodup
 | [],_,_=>⟨by simp,by simp⟩
 | (k,v,x)::l,b,h=>by
  simp only [bornUp] at h
  cases J:(Nat.ble b x&&Nat.blt x clock) with
  | false=>rw [J] at h; cases h
  | true =>
   rw [J,cond_true] at h
   simp only [Bool.and_eq_true,ay,fA] at J
   obtain ⟨i1,i2⟩:=xK l (x+1) h
   refine ⟨fun y I => ?_,?_⟩
   ·rcases List.mem_cons.1 I with rfl | I
    ·exact J
    ·have:=i1 y I; omega
   ·simp only [List.map_cons,List.nodup_cons,List.mem_map,not_exists,not_and]
    exact ⟨fun y I e=>by have:=i1 y I; omega,i2⟩
theorem vD {c:Ctx}: ∀(l:List (V×V×Nat)) (ks:List Int),keyInts l=some ks→l.map (fun x=>conc c x.1)=ks.map (Value.int .i64)∧∀n∈ks,(Lit.int .i64 n).wf=true
 | [],ks,h=>by simp [keyInts] at h; subst h; simp
 | (k,v,b)::l,ks,h=>by
  unfold keyInts at h
  split at h
  ·rename_i he; cases he
  ·rename_i n v' J U he
   simp only [List.cons.injEq,Prod.mk.injEq] at he
   obtain ⟨⟨rfl,rfl,rfl⟩,rfl⟩:=he
   cases hw:(Lit.int .i64 n).wf with
   | false=>simp [hw] at h
   | true =>
    cases hm:keyInts l with
    | none=>simp [hw,hm] at h
    | some m =>
     simp [hw,hm] at h
     subst h
     obtain ⟨i1,i2⟩:=vD (c:=c) l m hm
     refine ⟨by simp [conc,i1],fun x I => ?_⟩
     rcases List.mem_cons.1 I with rfl | I
     ·exact hw
     ·exact i2 x I
  ·cases h
section
variable {c:Ctx} {σ:H} {w w':World}
theorem Rel.below (h:Rel c σ w)(I:Below w.heap.size w w'): Rel c σ w'∧cm c w c w':=by
 have rows:∀b,b<w.heap.size→rowSize w' b=rowSize w b:=fun b J=>by unfold rowSize; rw [I.block b J]
 refine ⟨⟨h.next,h.live,fun id hi=>Nat.lt_of_lt_of_le (h.gL id hi) I.size,fun id hi=>by rw [rows _ (h.gL id hi)]; exact h.zz id hi,h.inj,
  fun id o ho=>(h.obj id o ho).later (Ext.refl c) (h.live id o ho) (I.block _ (h.gL id (h.live id o ho))),h.one,h.fx⟩,
  ⟨Ext.refl c,I.size,rows,fun b J _=>I.block b J,fun id U h2=>by omega,I.os,I.output⟩⟩
theorem Rel.take {b:Nat}{cs:List V}{C:Array Value}{T:TypeId}(h:Rel c σ w)(hb:b<w.heap.size)(hr:∀id,id<c.N→(c.ρ id).1≠b)(U:∀v∈cs,wf c v∧storable v=true)
 (hg:w.heap[b]?=some (.cells C T (0,0)))(hC:C.toList.take cs.length=cs.map (conc c)): Rel (c.grow b 0 C.size) (Am.newRow σ cs) w:=by
 have e:=l_ hr 0 C.size
 have hN:(c.grow b 0 C.size).N=c.N+1:=rfl
 have hle:cs.length≤C.size:=by
  have:=congrArg List.length hC
  simp at this
  omega
 have key:∀i o,(Am.newRow σ cs).tr.get i=some o→(i=c.N∧o=.cells cs.length cs false)∨(i<c.N∧σ.tr.get i=some o):=by
  intro i o hi
  rw [Am.newRow,eZ,h.next] at hi
  by_cases J:i=c.N
  ·simp [J] at hi; exact .inl ⟨J,hi.symm⟩
  ·simp [J] at hi; exact .inr ⟨h.live i o hi,hi⟩
 refine ⟨by simp [Am.newRow,H.new,Ctx.grow,h.next],fun i o hi => ?_,fun i hi => ?_,fun i hi => ?_,fun i j o o' hi hj he => ?_,fun i o hi => ?_,fun i mK jl hi hx => ?_,fun i o hi hx => ?_⟩
 ·rw [hN]; rcases key i o hi with ⟨J,_⟩ | ⟨J,_⟩ <;> omega
 ·rw [hN] at hi
  by_cases J:i=c.N
  ·subst J; rw [aP]; exact hb
  ·rw [bY c _ _ _ (by omega)]; exact h.gL i (by omega)
 ·rw [hN] at hi
  by_cases J:i=c.N
  ·subst J; rw [aP]; simp [Ctx.grow,rowSize,hg]
  ·rw [bY c _ _ _ (by omega),←h.zz i (by omega)]; simp [Ctx.grow,hr i (by omega)]
 ·rcases key i o hi with ⟨I,_⟩ | ⟨I,a2⟩ <;> rcases key j o' hj with ⟨b1,_⟩ | ⟨b1,b2⟩
  ·exact .inl (by omega)
  ·subst I; rw [aP,bY c _ _ _ b1] at he; exact absurd he.symm (hr j b1)
  ·subst b1; rw [aP,bY c _ _ _ I] at he; exact absurd he (hr i I)
  ·rw [bY c _ _ _ I,bY c _ _ _ b1] at he; rw [dL c _ _ _ I,dL c _ _ _ b1]; exact h.inj i j _ _ a2 b2 he
 ·rcases key i o hi with ⟨rfl,rfl⟩ | ⟨I,a2⟩
  ·refine ⟨rfl,fun v hv=>⟨(bG e v (U v hv).1).2,(U v hv).2⟩,C,T,(0,0),by rw [aP]; exact hg,by rw [aP]; simpa using hle,fun j v hj => ?_,rfl⟩
   rw [aP,(bG e v (U v (List.mem_of_getElem? hj)).1).1]
   have Qi:j<cs.length:=(List.getElem?_eq_some_iff.1 hj).1
   have J:(C.toList.take cs.length)[j]?=some (conc c v):=by rw [hC]; simp [hj]
   rw [List.getElem?_take,if_pos Qi,Array.getElem?_toList] at J
   simpa using J
  ·exact (h.obj i o a2).later e I rfl
 ·rcases key i _ hi with ⟨rfl,_⟩ | ⟨I,a2⟩
  ·rw [aP]
  ·rw [dL c _ _ _ I] at hx
   rw [bY c _ _ _ I]; exact h.one i mK jl a2 hx
 ·rcases key i o hi with ⟨rfl,_⟩ | ⟨I,a2⟩
  ·rw [pQ] at hx; cases hx
  ·rw [dL c _ _ _ I] at hx; exact h.fx i o a2 hx
def j3 (_:Value): Option (DataW Unit×List MemPlace):=some (.nil,[])
def xL (P:Program)(f K:Nat)(gs:List Nat): Prop:=∀g∈gs,∀(U b nn:Nat) (I:DataW Unit) (w:World),U<w.heap.size→w.cell? ⟨U,0,none⟩=some (.map (some b)) →
 w.ownsMap P K j3 b nn I→Maps.size I≤maxLen→Maps.size I*8≤140737488355328 →
 Calls P f #[.func (.func g) #[] #[.pointer (some ⟨U,0,none⟩)]] w fun e w'=>∃(v:Value) (J:List Int),e=.returned v∧J.Perm (intKeys I) ∧
  w'.ownsRow w.heap.size K 1 v J.length ((J.mergeSort (fun x y=>decide (x≤y))).map encZ)∧(v=.slice none 0 0↔J=[])∧Below w.heap.size w w'
theorem yA {P:Program}{f K:Nat}{gs:List Nat}(hK:P.underlying K=some (.int .i64))(hS:xL P f K gs){args:List V}{v:V}{fg:H}(I:toldSorted gs args σ=some (v,fg))
 (h:Rel c σ w): ei P f args c w v fg:=by
 unfold toldSorted at I
 split at I
 ·rename_i g b
  split at I
  ·rename_i n id Ka
   split at I
   ·rename_i es clock Tp
    cases hq:(Nat.beq n 1&&pM gs g&&bornUp clock 0 es&&Nat.ble es.length 1048576) with
    | false=>simp [hq] at I
    | true =>
     rw [hq,cond_true] at I
     simp only [Bool.and_eq_true,beq_iff,ay,ug] at hq
     obtain ⟨⟨⟨q1,q2⟩,q3⟩,q4⟩:=hq
     subst q1
     cases hk:keyInts es with
     | none=>simp [hk] at I
     | some ks =>
      simp only [hk] at I
      cases J:my (jc ks) with
      | false=>simp [J] at I
      | true =>
       simp only [J,cond_true] at I
       obtain ⟨k1,k2⟩:=vD (c:=c) es ks hk
       obtain ⟨b1,b2⟩:=xK es 0 q3
       have hlen:ks.length=es.length:=by simpa using (congrArg List.length k1).symm
       have bB:=xJ _ J
       have nH:ks.Nodup:=(en ks).nodup_iff.1 (bB.imp fun {a b} nE=>by omega)
       have qb:=h.one b _ _ Ka (h.qR Ka (by intro _ _ he; cases he))
       have sC:=cell_of h Ka (j:=0) (v:=.map id) rfl
       have RL:dx c b 0=⟨(c.ρ b).1,0,none⟩:=by simp [dx,qb]
       rw [RL] at sC
       have Nu:w.cell? ⟨(c.ρ b).1,0,none⟩=some (.map (some (c.ρ id).1)):=by simpa [conc] using sC
       obtain ⟨m1,m2⟩:=h.obj id _ Tp
       have Kb:∀x∈es,∃n,n∈ks∧(br c x).key=.int .i64 n:=fun x U=>by
        have:conc c x.1∈ks.map (Value.int .i64):=by rw [←k1]; exact List.mem_map.2 ⟨x,U,rfl⟩
        obtain ⟨n,hn,he⟩:=List.mem_map.1 this
        exact ⟨n,hn,he.symm⟩
       have ir:∀x∈es,∀n,(br c x).key=.int .i64 n→n∈ks→WideElems.rd P K j3 (br c x)=some (.int .i64 n,.nil):=fun x U n hn hm=>by
        simp [WideElems.rd,hn,Maps.keyOf_int_mk hK (k2 n hm),j3]
       have RM:w.ownsMap P K j3 (c.ρ id).1 es.length (.map (((es.map (br c)).toArray.toList.map (WideElems.rg P K j3)).foldr DataW.insert [])):=by
        refine ⟨(es.map (br c)).toArray,clock,m2,⟨by simp [maxLen]; omega,⟨fun x U => ?_,?_,?_⟩,fun x U => ?_⟩,by simp,rfl⟩
        ·simp only [List.mem_map] at U
         obtain ⟨y,hy,rfl⟩:=U
         exact (b1 y hy).2
        ·simpa [br,Function.comp_def] using b2
        ·have:(es.map (br c)).toArray.toList.map (·.key)=ks.map (Value.int .i64):=by rw [←k1]; simp [br,Function.comp_def]
         rw [this]
         exact List.pairwise_map.2 (nH.imp fun {a b} ep e=>ep (by simpa using e))
        ·simp only [List.mem_map] at U
         obtain ⟨y,hy,rfl⟩:=U
         obtain ⟨n,hn,he⟩:=Kb y hy
         exact ⟨_,ir y hy n he hn⟩
       have ee:Maps.size (H:=Unit) (.map (((es.map (br c)).toArray.toList.map (WideElems.rg P K j3)).foldr DataW.insert []))=es.length:=by
        rw [Maps.size_eq,(WideShapes.sorted_perm _).length_eq]; simp
       have DX:(intKeys (H:=Unit) (.map (((es.map (br c)).toArray.toList.map (WideElems.rg P K j3)).foldr DataW.insert []))).Perm ks:=by
        refine ((WideShapes.sorted_perm _).map _).trans ?_
        have:(((es.map (br c)).toArray.toList.map (WideElems.rg P K j3)).map fun p=>intOf p.1)=ks:=by
         have Qj:∀x∈es,Value.int .i64 (intOf (WideElems.rg P K j3 (br c x)).1)=conc c x.1:=fun x U=>by
          obtain ⟨n,hn,he⟩:=Kb x U
          rw [WideElems.rg_of (ir x U n he hn)]
          exact he.symm
         have h1:((((es.map (br c)).toArray.toList.map (WideElems.rg P K j3)).map fun p=>intOf p.1).map (Value.int .i64))=ks.map (Value.int .i64):=by
          rw [←k1]
          simp only [List.map_map]
          exact List.map_congr_left fun x U=>Qj x U
         exact List.map_inj_right (fun x y e=>by simpa using e) |>.1 h1
        rw [this]
       have Pa:=hS g q2 (c.ρ b).1 (c.ρ id).1 es.length _ w (h.gL b (h.live b _ Ka)) Nu RM (by rw [ee]; simp [maxLen]; omega) (by rw [ee]; omega)
       have Kc:([V.fn (.func g) [] [.ptr b 0]].map (conc c)).toArray = #[.func (.func g) #[] #[.pointer (some ⟨(c.ρ b).1,0,none⟩)]]:=by simp [conc,concL,qb]
       unfold ei
       rw [Kc]
       refine Pa.mono ?_
       rintro e w' ⟨rv,ss,rfl,s1,s2,s3,s4⟩
       obtain ⟨g1,g2⟩:=h.below s4
       have Ke:ss.Perm ks:=s1.trans DX
       have Tq:ss.mergeSort (fun x y=>decide (x≤y))=jc ks:=by
        refine pn (((List.mergeSort_perm ss _).trans Ke).trans (en ks).symm) ?_ (bB.imp fun {a b} nE=>by omega)
        have:=List.pairwise_mergeSort (le:=fun x y:Int=>decide (x≤y)) (fun a b c h1 h2=>by simp at h1 h2 ⊢; omega) (fun a b=>by simp; omega) ss
        exact this.imp fun {a b} nE=>by simpa using nE
       rw [Tq] at s2
       split at I
       ·-- no key
        have ue:ss=[]:=by simpa using Ke
        have hv:=s3.2 ue
        simp only [Option.some.injEq,Prod.mk.injEq] at I
        obtain ⟨rfl,rfl⟩:=I
        exact ⟨c,by rw [hv]; simp [conc],by simp [wf],g1,g2⟩
       ·rename_i ep
        simp only [Option.some.injEq,Prod.mk.injEq] at I
        obtain ⟨rfl,rfl⟩:=I
        have RN:ss≠[]:=fun e=>by
         subst e
         exact ep (by simpa using Ke.symm)
        have iU:ss.length=ks.length:=Ke.length_eq
        rcases s2.2 with ⟨e1,_⟩ | ⟨gb,cap,cur,rfl,l1,l2,l3,l4,l5,l6⟩
        ·exact absurd (s3.1 e1) RN
        have RO:gb<w'.heap.size:=(Array.getElem?_eq_some_iff.1 l2).1
        have tF:∀i,i<c.N→(c.ρ i).1≠gb:=fun i hi e=>by have:=h.gL i hi; omega
        have kx:∀x∈dO (jc ks),wf c x∧storable x=true:=fun x U=>by
         obtain ⟨n,_,rfl⟩:=List.mem_map.1 U
         simp [wf,storable]
        have Ag:(dO (jc ks)).length=ks.length:=by simp [dO,(en ks).length_eq]
        have Pb:cur.toList.take (dO (jc ks)).length=(dO (jc ks)).map (conc c):=by
         rw [Ag,←iU]
         have:ss.length*1=ss.length:=Nat.mul_one _
         rw [this] at l6
         rw [l6]
         simp [dO,conc,encZ,Function.comp_def]
        have R:=g1.take RO tF kx l2 Pb
        have uO:(c.grow gb 0 cur.size).room σ.next 0 1=cap:=by
         simp only [Ctx.room,h.next,Ctx.grow,if_true]
         simp [l5]
        refine ⟨c.grow gb 0 cur.size,?_,?_,R,g2.yF tF l1⟩
        ·simp only [conc,uO]
         simp [h.next,Ctx.grow,iU]
        ·simp only [wf,uO]
         exact ⟨by rw [h.next]; simp [Ctx.grow],Nat.le_refl _,by omega⟩
   ·cases I
  ·cases I
 ·cases I
end
end Go.Proofs.YtconhghphklfjaaGreat.Am
