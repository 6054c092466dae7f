/- After a crash the log has the records of the groups that are there and no others, with their numbers and data; the conditions are those of the given statement, for arguments that a machine can hold. Part 35 of 54. -/
import Derived.Test.YtconhghphklfjaaGreatL34
namespace Go.Proofs.YtconhghphklfjaaGreat.Am
open Go
def doneRow (seen:List Nat): bJ→List V→List V
 | [],row=>row
 | e::l,row=>doneRow seen l (cond (inL seen e.2.2) (row.set e.1.toNat e.2.1) row)
def jx : bJ→List V→List V
 | [],row=>row
 | e::l,row=>jx l (row.set e.1.toNat e.2.1)
theorem BS {seen:List Nat}: ∀ {l:bJ} {row:List V},(∀e∈l,inL seen e.2.2=true)→doneRow seen l row=jx l row:=by
 intro l
 induction l with
 | nil=>intro row _; rfl
 | cons e l J =>
  intro row h
  simp only [doneRow,jx,h e List.mem_cons_self,cond_true]
  exact J fun U I=>h U (List.mem_cons_of_mem _ I)
theorem BT : ∀ {l:bJ} {row:List V},doneRow [] l row=row:=by
 intro l
 induction l with
 | nil=>intro row; rfl
 | cons e l I=>intro row; simp only [doneRow,inL,cond_false]; exact I
theorem BU {seen:List Nat}: ∀ {l:bJ} {row:List V},(doneRow seen l row).length=row.length:=by
 intro l
 induction l with
 | nil=>intro row; rfl
 | cons e l I=>intro row; simp only [doneRow]; rw [I]; cases inL seen e.2.2 <;> simp
theorem BV {seen:List Nat}{i:Nat}{v:V}: ∀ {l:bJ} {row:List V},(∀e∈l,e.1.toNat≠i)→doneRow seen l (row.set i v)=(doneRow seen l row).set i v:=by
 intro l
 induction l with
 | nil=>intro row _; rfl
 | cons e l U =>
  intro row h
  simp only [doneRow]
  have h1:=h e List.mem_cons_self
  cases inL seen e.2.2 with
  | true=>rw [cond_true,cond_true,List.set_comm _ _ (Ne.symm h1)]; exact U fun J I=>h J (List.mem_cons_of_mem _ I)
  | false=>exact U fun J I=>h J (List.mem_cons_of_mem _ I)
theorem yC {seen:List Nat}{b:Nat}: ∀ {l:bJ} {row:List V},(∀e∈l,e.2.2≠b)→doneRow (seen++[b]) l row=doneRow seen l row:=by
 intro l
 induction l with
 | nil=>intro row _; rfl
 | cons e l J =>
  intro row h
  simp only [doneRow,nt,bT (Ne.symm (h e List.mem_cons_self)),Bool.or_false]
  exact J fun U I=>h U (List.mem_cons_of_mem _ I)
theorem AE {seen:List Nat}{c:Nat}: ∀ {l:bJ} {b:Nat} {row:List V} {e:Int×V×Nat},dZ c b l→(l.map fun e=>e.1.toNat).Nodup→e∈l→inL seen e.2.2=false →
  doneRow (seen++[e.2.2]) l row=(doneRow seen l row).set e.1.toNat e.2.1:=by
 intro l
 induction l with
 | nil=>intro b row e _ _ he; cases he
 | cons y l ih =>
  intro b row e J U he hs
  simp only [List.map_cons,List.nodup_cons] at U
  rcases List.mem_cons.1 he with rfl | he
  ·simp only [doneRow,nt,hs,Nat.beq_refl,Bool.or_true,cond_true,cond_false]
   rw [yC fun e' I=>by have:=uy J.2.2 e' I; omega]
   exact BV fun e' I hq=>U.1 (hq ▸ List.mem_map_of_mem (f:=fun e:Int×V×Nat=>e.1.toNat) I)
  ·have:=uy J.2.2 e he
   simp only [doneRow,nt,bT (show e.2.2≠y.2.2 by omega),Bool.or_false]
   exact ih J.2.2 U.2 he hs
def laidP : List (Int×List Nat)→List (Option (List Nat))→List (Option (List Nat))
 | [],m=>m
 | e::l,m=>laidP l (m.set e.1.toNat (some e.2))
theorem GA : ∀ {l:List (Int×List Nat)} {m:List (Option (List Nat))},(laidP l m).length=m.length:=by
 intro l
 induction l with
 | nil=>intro row; rfl
 | cons e l I=>intro row; simp only [laidP]; rw [I]; simp
theorem BW {a b:PM}: ∀ {es:bJ} {m:List (Int×List Nat)} {row:List V} {pg:List (Option (List Nat))},(cX (fun v x=>.bp v x) es m).p a b→(∀e∈m,e.2≠[])→(each hO row pg).p a b→(each hO (jx es row) (laidP m pg)).p a b:=by
 intro es
 induction es with
 | nil=>intro m row pg h _ hr; cases m with
  | nil=>exact hr
  | cons x m=>exact h.elim
 | cons e es ih=>intro m row pg h I hr; cases m with
  | nil=>exact h.elim
  | cons x m =>
   obtain ⟨⟨h1,h2⟩,h3⟩:=h
   simp only [jx,laidP]
   have hk:e.1=x.1:=h1
   refine ih h3 (fun e he=>I e (List.mem_cons_of_mem _ he)) ?_
   rw [hk]
   refine ur hr ⟨?_,h2⟩
   rintro hv
   have J:eR b e.2.1 x.2:=h2
   rw [hv] at J
   rcases J.2 with ⟨_,U⟩ | U
   ·exact I x List.mem_cons_self U
   ·obtain ⟨_,_,_,_,_,_,U,_⟩:=U
    cases U
def Dk.sync (δ:Dk): Dk:={ δ with aj:=laidP δ.now δ.aj,waiting:=[],now:=[] }
section
variable {told:Nat→Option (List V→H→Option (V×H))} {h:H} {S:List ah} {X:ah} {r k q p bw:Nat} {v x wh di:V} {l b:List Nat} {π:Pl} {m:List Fm} {μ:Lg} {δ:Dk}
noncomputable def vM (h:H)(p:Nat)(cs:List V)(I N:Nat)(row:List V)(bR:Nat)(es:bJ)(clock:Nat): H :=
 ((((h.new (.iter bR clock clock [])).put I (some (.cells N (jx es row) false))).put p (some (.cells 12 (cs.set 2 .aH) false))).put bR (some (.map [] clock))).put h.next none
def w5 (args:List V)(h:H)(r:V×H): Prop:=∃p cs,args=[.ptr p 0]∧T.get h.tr p=some (.cells 12 cs false) ∧
 ((nth cs 9=some (.bool true)∧r=(.int .i64 9,h))∨(nth cs 9=some (.bool false)∧∃v1 I,fb CB 118 [.ptr p 0] h v1 I ∧
  ((v1=.bool false∧r=(.int .i64 9,I))∨(v1=.bool true∧∃cs J N row bR es clock,T.get I.tr p=some (.cells 12 cs false)∧nth cs 1=some (.sl J 0 N (.exact N))∧nth cs 3=some (.map bR) ∧
   T.get I.tr J=some (.cells N row false)∧T.get I.tr bR=some (.map (es.map eB) clock)∧r=(.int .i64 0,vM I p cs J N row bR es clock)))))
structure w6 (h h':H)(X:List Nat): Prop where
 next:h'.next=h.next
 get:∀i,i∉X→T.get h'.tr i=T.get h.tr i
theorem w6.put {h h':H}{X:List Nat}(s:w6 h h' X){i:Nat}{o:Option Obj}(hi:i∈X): w6 h (h'.put i o) X :=
 ⟨s.next,fun j I=>by rw [bC,if_neg (fun (e:j=i)=>I (e ▸ hi))]; exact s.get j I⟩
theorem xX {α:Type}{f:V→α→ah}{a b:PM}: ∀ {l:bJ} {m:List (Int×α)},(cX f l m).p a b→∀e∈l,∃x,(e.1,x)∈m∧(f e.2.1 x).p a b:=by
 intro l
 induction l with
 | nil=>intro m _ e he; cases he
 | cons y l I=>intro m h e he; cases m with
  | nil=>exact h.elim
  | cons x m =>
   obtain ⟨⟨J,U⟩,h3⟩:=h
   rcases List.mem_cons.1 he with rfl | he
   ·exact ⟨x.2,by rw [show e.1=x.1 from J]; exact List.mem_cons_self,U⟩
   ·obtain ⟨z,k1,k2⟩:=I h3 e he
    exact ⟨z,List.mem_cons_of_mem _ k1,k2⟩
noncomputable def TM : Code:=cn [0] ((Tryz.f75.body).getD .skip)
noncomputable def TN : Code:=cn [1,0] ((Tryz.f75.body).getD .skip)
noncomputable def TO : Code:=cn [1,1,0,0] ((Tryz.f75.body).getD .skip)
noncomputable def NJ : Code:=cn [1,1,0,1,0,0,0] ((Tryz.f75.body).getD .skip)
noncomputable def Qz : Code:=cn [1,1,0,1,0,0,1,1,0] ((Tryz.f75.body).getD .skip)
noncomputable def TP : Code:=cn [1,1,1] ((Tryz.f75.body).getD .skip)
theorem uz : Tryz.f75.body=some (.seq TM (.seq TN (.seq (.seq TO (.block 0 (.loop (.seq NJ (.seq (.cond (.tmp 20) .skip (.exit 0)) (.block 1 Qz)))))) TP))):=rfl
theorem LA : ∃id I J,NJ=.region id #[I,J] false∧I.guard=none∧J.guard=none∧I.op=.next (.tmp 18) false∧I.dst=some 19∧J.op=.extract (.tmp 19) 0∧J.dst=some 20:=⟨_,_,_,rfl,rfl,rfl,rfl,rfl,rfl,rfl⟩
def QA (I:H)(p it J N bR clock:Nat)(cs row:List V)(es:bJ)(S:List ah)(j:Nat)(E:List (Nat×V))(h:H): Prop :=
 ∃seen,Has E [(0,.ptr p 0),(18,.ptr it 0)]∧j=(leftV seen (es.map eB)).length∧w6 I h [it,J] ∧
  Sat h (pt it (.iter bR clock clock seen)::pt p (.cells 12 cs false)::pt J (.cells N (doneRow seen es row) false)::ej bR es clock::S)
theorem GB {I:H}{it J N bR clock:Nat}{cs row:List V}{es:bJ}(tI:nth cs 1=some (.sl J 0 N (.exact N)))(hl:row.length=N)(hb:dZ clock 0 es)(hn:(es.map fun e=>e.1.toNat).Nodup)
 (hk:∀e∈es,0≤e.1∧e.1<N)(hv:∀e∈es,e.2.1.cells=[e.2.1]∧storable e.2.1=true){j:Nat}{E:List (Nat×V)}(h0:QA I p it J N bR clock cs row es S j E h):
  dJ CB 38 (.loop (.seq NJ (.seq (.cond (.tmp 20) .skip (.exit 0)) (.block 1 Qz)))) E h fun ex E' h'=>ex=.exit 0∧Has E' [(0,.ptr p 0)]∧w6 I h' [it,J] ∧
   ∃seen,Sat h' (pt it (.iter bR clock clock seen)::pt p (.cells 12 cs false)::pt J (.cells N (jx es row) false)::ej bR es clock::S):=by
 refine dJ.loop (QA I p it J N bR clock cs row es S) ?_ h0
 rintro j E h ⟨seen,hE,rfl,hs,s⟩
 have g1:=s.row (k:=0) rfl
 have g2:=s.row (k:=3) rfl
 obtain ⟨id,KG,Mg,q0,q1,q2,q3,q4,q5,q6⟩:=LA
 refine dJ.seq ?_
 rw [q0]
 have hL:=next_at g1 (Nat.le_refl _) g2 hb
 refine dJ.next gq eX q1 q2 q3 q4 q5 rfl q6 rfl rfl (r:=it) ?_ hL fun q hq => ?_
 ·exact hE.2.1
 ·rcases IQ g1 (Nat.le_refl _) g2 hb hL q hq with ⟨rfl,U⟩ | ⟨e,he,TQ,bB,rfl⟩
  ·refine ⟨.bool false,[],rfl,?_⟩
   refine dJ.seq (dJ.cond (t:=false) rfl ?_)
   refine dJ.of gq eX (WP.exit ?_)
   refine ⟨rfl,⟨hE.1,trivial⟩,hs,seen,?_⟩
   rw [←BS U]
   exact s
  ·refine ⟨.bool true,_,rfl,?_⟩
   refine dJ.seq (dJ.cond (t:=true) rfl ?_)
   refine dJ.of gq eX (WP.skip ?_)
   refine dJ.block (dJ.of gq eX ?_)
   have s:=s.put (o':=.iter bR clock clock (seen++[e.2.2])) (k:=0) rfl
   have hs:=hs.put (i:=it) (o:=some (.iter bR clock clock (seen++[e.2.2]))) List.mem_cons_self
   generalize h.put it (some (.iter bR clock clock (seen++[e.2.2])))=h' at s hs
   dsimp only [setA] at s
   have g1:=s.row (k:=0) rfl
   have g2:=s.row (k:=3) rfl
   refine WP.has (F:=[(0,.ptr p 0),(18,.ptr it 0),(20,.bool true)]) ⟨hE.1,hE.2.1,rfl,trivial⟩ (zg rfl (ae.any rfl rfl rfl (OpR.entry rfl rfl (IP g1 g2 hb he)) ?_))
   rintro v h ⟨rfl,rfl⟩
   refine ze rfl (ze rfl (za rfl (za rfl (zv (zr rfl (zm rfl (zn rfl (zf rfl (i_ _ _) (zl rfl (s.ld (k:=1) rfl mg tI) (zm rfl (zm rfl ?_)))))))))))
   obtain ⟨k1,k2⟩:=hk e he
   refine zo rfl (cH (r:=.ptr J e.1.toNat) rfl rfl (by rw [JZ,show (decide (0≤e.1)&&decide (e.1<(N:Int)))=true by simp; omega,cond_true]; simp)) ?_
   have e1:=s.NI (P:=Tryz.prog) (k:=2) (t:=32) (off:=e.1.toNat) rfl ig (by rw [BU]; exact hl) (by omega) (hv e he).1 (hv e he).2
   have s1:=s.put (o':=.cells N ((doneRow seen es row).set e.1.toNat e.2.1) false) (k:=2) rfl
   dsimp only [setA] at s1
   refine ae.MN rfl rfl (sG rfl rfl e1) (zv ?_)
   refine ⟨_,bB,seen++[e.2.2],⟨rfl,rfl,trivial⟩,rfl,hs.put (by simp),?_⟩
   rw [AE hb hn he TQ]
   exact s1
theorem IS {h₁ h':H}{p I N bR clock:Nat}{cs row:List V}{es:bJ}(hs:w6 (h₁.new (.iter bR clock clock [])) h' [h₁.next,I])(hi:T.get h'.tr I=some (.cells N (jx es row) false))(hp:p≠I)(hm:bR≠I):
  (vM h₁ p cs I N row bR es clock).next=((h'.put p (some (.cells 12 (cs.set 2 .aH) false))).put bR (some (.map [] clock))).next ∧
  ∀id o,T.get (vM h₁ p cs I N row bR es clock).tr id=some o→T.get ((h'.put p (some (.cells 12 (cs.set 2 .aH) false))).put bR (some (.map [] clock))).tr id=some o:=by
 refine ⟨hs.next.symm,fun id o ho => ?_⟩
 unfold vM at ho
 rw [bC] at ho
 by_cases U:id=h₁.next
 ·rw [if_pos U] at ho; cases ho
 ·rw [if_neg U,bC] at ho
  rw [bC]
  by_cases h2:id=bR
  ·rw [if_pos h2] at ho ⊢; exact ho
  ·rw [if_neg h2,bC] at ho
   rw [if_neg h2,bC]
   by_cases h3:id=p
   ·rw [if_pos h3] at ho ⊢; exact ho
   ·rw [if_neg h3,bC] at ho
    rw [if_neg h3]
    by_cases J:id=I
    ·rw [if_pos J] at ho; rw [J,hi]; exact ho
    ·rw [if_neg J] at ho
     rw [hs.get id (by simp [U,J])]
     exact ho
theorem IT {P:Program}{bR c:Nat}{es:List (V×V×Nat)}{t kt et:TypeId}(I:T.get h.tr bR=some (.map es c))(hu:P.underlying t=some (.map kt et)):
  ∃v h₁,builtinV P h .clear #[t] [.map bR]=some (v,h₁)∧(fun (_:V) (h₁:H)=>h₁=h.put bR (some (.map [] c))) v h₁ :=
 ⟨bt,_,by simp only [builtinV,clearV,hu,I]; rfl,rfl⟩
theorem GC (s:Sat h (az p δ::S))(qO:δ.Ok)(hk:∀e∈δ.now,0≤e.1∧e.1<δ.aj.length):
  ∃r,w5 [.ptr p 0] h r∧∀(c:Ctx) (w:World),Rel c h w→(∀x∈[V.ptr p 0],wf c x)→ei Tryz.prog 75 [.ptr p 0] c w r.1 r.2:=by
 obtain ⟨pg,wt,nw,lg,mk,tn,tl,ops,s1⟩:=aQ.1 s
 have gp:=s1.row (k:=0) rfl
 cases hd:δ.dead with
 | true =>
  refine ⟨(.int .i64 9,h),⟨p,_,rfl,gp,.inl ⟨by rw [hd]; rfl,rfl⟩⟩,fun c w hr ha => ?_⟩
  refine ei.AB (C:=CB) (args:=[.ptr p 0]) Tryz.func75 uz (show 1≤Tryz.f75.ntmps by decide) ?_ hr ha
  refine dJ.seq (dJ.of gq eX ?_)
  have s:=s1
  refine zr rfl (za rfl (zv ?_))
  refine dJ.seq (dJ.of gq eX ?_)
  refine zg rfl (zm rfl (zn rfl (zf rfl (gI _ _) (ae.aR rfl rfl rfl (aI rfl (by exact s.ld (k:=0) rfl gU rfl)) (hd) ?_))))
  refine zm rfl (zx rfl (zx rfl (zx rfl (zq rfl (zv (zi rfl (zg rfl (za rfl (zv (WP.ret ?_))))))))))
  exact ⟨trivial,oO rfl,rfl,fun _ _ h=>h⟩
 | false =>
  obtain ⟨v1,J,vg,hR⟩:=kH W.base s qO.aJ
  have I:Call CB 118 [.ptr p 0] h (fun v' h'=>v'=v1∧h'=J):=⟨v1,J,vg,rfl,rfl⟩
  rcases hR with ⟨h0,rfl,s2⟩ | ⟨h0,rfl,s2⟩
  ·refine ⟨(.int .i64 9,J),⟨p,_,rfl,gp,.inr ⟨by rw [hd]; rfl,_,J,vg,.inl ⟨rfl,rfl⟩⟩⟩,fun c w hr ha => ?_⟩
   refine ei.AB (C:=CB) (args:=[.ptr p 0]) Tryz.func75 uz (show 1≤Tryz.f75.ntmps by decide) ?_ hr ha
   refine dJ.seq (dJ.of gq eX ?_)
   have s:=s1
   refine zr rfl (za rfl (zv ?_))
   refine dJ.seq (dJ.of gq eX ?_)
   refine zg rfl (zm rfl (zn rfl (zf rfl (gI _ _) (ae.aE rfl rfl rfl (aI rfl (by exact s.ld (k:=0) rfl gU rfl)) (hd) ?_))))
   refine zm rfl (zm rfl (ae.call rfl rfl rfl rfl rfl rfl rfl (I) ?_))
   rintro v h ⟨rfl,rfl⟩
   refine zo rfl (dA rfl rfl) (zp rfl (zv (zi rfl (zg rfl (za rfl (zv (WP.ret ?_)))))))
   exact ⟨trivial,oO rfl,rfl,fun _ _ h=>h⟩
  ·obtain ⟨pg,wt,nw,lg,mk,tn,tl,ops,s3⟩:=aQ.1 s2
   obtain ⟨im,row,rfl,s4⟩:=dP.1 (s3.aa [1])
   obtain ⟨bR,es,clock,rfl,hb,hn,s5⟩:=c9.1 (s4.aa [4])
   dsimp only [bringA,getA,ai] at s5
   have s6:=s5.aa [4,2,0,0,0,0]
   dsimp only [bringA,getA,ai] at s6
   have TR:=s6.row (k:=0) rfl
   have gi:=s6.row (k:=1) rfl
   have gm:=s6.row (k:=2) rfl
   obtain ⟨a,b,_,_,q3⟩:=s6.at (k:=3) rfl
   obtain ⟨a',b',_,_,q4⟩:=s6.at (k:=4) rfl
   have uj:row.length=δ.cO.aj.length:=nU q4
   have HC:=qa q3
   have GD:∀e∈es,0≤e.1∧e.1<(δ.cO.aj.length:Int):=fun e he=>by
    obtain ⟨x,k1,_⟩:=xX q3 e he
    exact hk _ k1
   have fK:∀e∈es,e.2.1.cells=[e.2.1]∧storable e.2.1=true:=fun e he=>by
    obtain ⟨x,_,k2⟩:=xX q3 e he
    have k3:eR b e.2.1 x:=k2
    rcases k3.2 with ⟨k4 | ⟨_,k4⟩,_⟩ | ⟨_,_,_,_,_,_,k4,_⟩
    ·rw [k4]; exact ⟨rfl,rfl⟩
    ·rw [k4]; exact ⟨rfl,rfl⟩
    ·rw [k4]; exact ⟨rfl,rfl⟩
   have nH:(es.map fun e=>e.1.toNat).Nodup:=by
    have J:(es.map (·.1)).Nodup:=by rw [HC]; exact hn
    rw [List.nodup_iff_pairwise_ne,List.pairwise_map] at J ⊢
    refine (List.pairwise_iff_forall_sublist.2 fun {x y} NK => ?_)
    have h2:=(List.pairwise_iff_forall_sublist.1 J) NK
    have hx:=(GD x (NK.subset List.mem_cons_self)).1
    have hy:=(GD y (NK.subset (List.mem_cons_of_mem _ List.mem_cons_self))).1
    omega
   refine ⟨(.int .i64 0,vM J p _ im δ.cO.aj.length row bR es clock),⟨p,_,rfl,gp,.inr ⟨by rw [hd]; rfl,_,J,vg,.inr ⟨rfl,_,im,_,row,bR,es,clock,TR,rfl,rfl,gi,gm,rfl⟩⟩⟩,fun c w hr ha => ?_⟩
   refine ei.AB (C:=CB) (args:=[.ptr p 0]) Tryz.func75 uz (show 1≤Tryz.f75.ntmps by decide) ?_ hr ha
   refine dJ.seq (dJ.of gq eX ?_)
   have s:=s1
   refine zr rfl (za rfl (zv ?_))
   refine dJ.seq (dJ.of gq eX ?_)
   refine zg rfl (zm rfl (zn rfl (zf rfl (gI _ _) (ae.aE rfl rfl rfl (aI rfl (by exact s.ld (k:=0) rfl gU rfl)) (hd) ?_))))
   refine zm rfl (zm rfl (ae.call rfl rfl rfl rfl rfl rfl rfl (I) ?_))
   rintro v h ⟨rfl,rfl⟩
   refine zo rfl (dA rfl rfl) (zp rfl (zv (zj rfl (WP.skip ?_))))
   refine dJ.seq (dJ.seq (dJ.of gq eX ?_))
   have s:=s6
   refine zr rfl (zm rfl (zn rfl (zf rfl (sI _ _) (zl rfl (by exact s.ld (k:=0) rfl iD rfl) ?_))))
   refine ae.any rfl rfl rfl (OpR.range rfl rfl (show rangeV Tryz.prog h 86 (.map bR)=some (.ptr h.next 0,h.new (.iter bR clock clock [])) by simp only [rangeV,Tryz.underlying86,gm])) ?_
   rintro v h' ⟨rfl,rfl⟩
   refine zv ?_
   have s7:=s.new (.iter bR clock clock [])
   refine dJ.block ((GB (row:=row) (es:=es) (S:=_) rfl uj hb nH GD fK ⟨[],⟨rfl,rfl,trivial⟩,rfl,⟨rfl,fun _ _=>rfl⟩,by rw [BT]; exact s7⟩).mono ?_)
   rintro ex E' h' ⟨rfl,fu,hs,seen,s⟩
   refine dJ.of gq eX (WP.has fu ?_)
   have e1:=s.NI (P:=Tryz.prog) (k:=1) (t:=120) (off:=2) (v:=.aH) rfl J0 rfl (by decide) rfl rfl
   have s8:=s.put (o':=.cells 12 (List.set (lI δ.cO.room (.sl im 0 δ.cO.aj.length (.exact δ.cO.aj.length)) wt (.map bR) lg δ.cO.aT mk δ.cO.aJ ops δ.cO.dead tn tl) 2 .aH) false) (k:=1) rfl
   have ep:p≠im:=(s.aa [1,1]).ne
   have AF:bR≠im:=(s.aa [3,2]).ne
   have gi:=s.row (k:=2) rfl
   have U:=IS (p:=p) (cs:=(lI δ.cO.room (.sl im 0 δ.cO.aj.length (.exact δ.cO.aj.length)) wt (.map bR) lg δ.cO.aT mk δ.cO.aJ ops δ.cO.dead tn tl)) hs gi ep AF
   dsimp only [setA] at s8
   refine zg rfl (zm rfl (zn rfl (zf rfl (nh _ _) (ae.MN rfl rfl (sG rfl rfl e1) ?_))))
   have s:=s8
   have TS:=s.row (k:=3) rfl
   refine zv (zg rfl (zm rfl (zn rfl (zf rfl (sI _ _) (zl rfl (by exact s.ld (k:=1) rfl iD rfl) ?_)))))
   refine ae.fI rfl rfl (OpR.builtin rfl rfl rfl (IT TS Tryz.underlying86)) ?_
   rintro v V_ rfl
   refine zv (zg rfl (za rfl (zv (WP.ret ?_))))
   exact ⟨trivial,oO rfl,U.1,U.2⟩
end
end Go.Proofs.YtconhghphklfjaaGreat.Am
namespace Go.Proofs.YtconhghphklfjaaGreat.Am
open Go
def Pj : V→Bool
 | .agg [_,.bool b]=>b
 | _=>true
section
variable {told:Nat→Option (List V→H→Option (V×H))} {h:H} {S:List ah} {X:ah} {r k q p bw:Nat} {v x wh di:V} {l b:List Nat} {π:Pl} {m:List Fm} {μ:Lg} {δ:Dk}
abbrev NL : V:=.fn (.func 77) [] []
end
end Go.Proofs.YtconhghphklfjaaGreat.Am
namespace Go.Proofs.YtconhghphklfjaaGreat.Am
open Go
def GF (args:List V)(h:H)(r:V×H): Prop:=∃(bR:Nat) (es:bJ) (clock:Nat),args=[.map bR,NL]∧T.get h.tr bR=some (.map (es.map eB) clock) ∧
 r=(.aW [],⟨h.next+1+2*es.length,(h.put bR (some (.map ((es.filter (fun e=>Pj e.2.1)).map eB) clock))).tr⟩)
structure W2 (told:Nat→Option (List V→H→Option (V×H))): Prop where
 w:W told
 sync:told 75=some (ju Tryz.prog 75 w5)
 del:told 76=some (ju Tryz.prog 76 GF)
theorem LB : ∀ {l m:bJ},l.map eB=m.map eB→l=m:=by
 intro l
 induction l with
 | nil=>intro m h; cases m with
  | nil=>rfl
  | cons _ _=>cases h
 | cons e l J=>intro m h; cases m with
  | nil=>cases h
  | cons x m =>
   simp only [List.map_cons,List.cons.injEq] at h
   obtain ⟨I,U⟩:=h
   rw [J U]
   obtain ⟨e1,e2⟩:=e
   obtain ⟨x1,x2⟩:=x
   simp only [eB,Prod.mk.injEq,V.int.injEq,true_and] at I
   rw [I.1,I.2]
def Dk.lD (δ:Dk): Int×Dk:=if δ.dead=true then (9,δ) else if δ.aJ=0 then (9,δ.die) else (0,δ.cO.sync)
section
variable {told:Nat→Option (List V→H→Option (V×H))} {h:H} {S:List ah} {X:ah} {r k q p bw:Nat} {v x wh di:V} {l b:List Nat} {π:Pl} {m:List (Int×(Nat×Bool))} {μ:Lg} {δ:Dk}
theorem qj {a b:Obj}{id:Nat}(J:T.get h.tr id=some a)(I:T.get h.tr id=some b): a=b:=by rw [J] at I; exact Option.some.inj I
theorem LC (hT:W2 told)(s:Sat h (az p δ::S))(U:δ.Ok)(hk:∀e∈δ.now,0≤e.1∧e.1<δ.aj.length): Call ⟨Tryz.prog,told⟩ 75 [.ptr p 0] h fun v h'=>v=.int .i64 δ.lD.1∧Sat h' (az p δ.lD.2::S):=by
 obtain ⟨r,h1,h2⟩:=GC s U hk
 obtain ⟨r,h3,h4⟩:=xW h1 h2
 refine ⟨r.1,r.2,fb.told hT.sync Tryz.func75 rfl h3,?_⟩
 clear h1 h2 h3
 obtain ⟨p',cs,e1,TT,h4⟩:=h4
 injection e1 with e1 _
 injection e1 with e1 _
 subst e1
 obtain ⟨pg,wt,nw,lg,mk,tn,tl,ops,s1⟩:=aQ.1 s
 have gp:=s1.row (k:=0) rfl
 have e2:=qj gp TT
 injection e2 with _ e2 _
 subst e2
 rcases h4 with ⟨hd,rfl⟩ | ⟨hd,v1,h1,vg,h4⟩
 ·have hd:δ.dead=true:=by injection (Option.some.inj hd)
  simp only [Dk.lD,if_pos hd]
  exact ⟨trivial,s⟩
 ·have hd:δ.dead=false:=by injection (Option.some.inj hd)
  obtain ⟨v2,h2,R1,hR⟩:=kH W.base s U.aJ
  obtain ⟨rfl,rfl⟩:=fb.TL vg R1
  simp only [Dk.lD,hd,Bool.false_eq_true,if_false]
  rcases hR with ⟨h0,rfl,s2⟩ | ⟨h0,rfl,s2⟩
  ·rcases h4 with ⟨_,rfl⟩ | ⟨hv,_⟩
   ·rw [if_pos h0]; exact ⟨rfl,s2⟩
   ·cases hv
  ·rcases h4 with ⟨hv,_⟩ | ⟨_,cs,im,N,row,bR,es,clock,g0,c1,c3,g1,g2,rfl⟩
   ·cases hv
   ·rw [if_neg h0]
    refine ⟨rfl,?_⟩
    obtain ⟨pg,wt,nw,lg,mk,tn,tl,ops,s3⟩:=aQ.1 s2
    obtain ⟨QB,row',rfl,s4⟩:=dP.1 (s3.aa [1])
    obtain ⟨J,es',I,rfl,hb,hn,s5⟩:=c9.1 (s4.aa [4])
    dsimp only [bringA,getA,ai] at s5
    have s6:=s5.aa [4,2,0,0,0,0]
    dsimp only [bringA,getA,ai] at s6
    have e3:=qj (s6.row (k:=0) rfl) g0
    injection e3 with _ e3 _
    subst e3
    have c1:=Option.some.inj c1
    injection c1 with c1 _ c2 _
    subst c1; subst c2
    have c3:=Option.some.inj c3
    injection c3 with c3
    subst c3
    have e4:=qj (s6.row (k:=1) rfl) g1
    injection e4 with _ e4 _
    subst e4
    have e5:=qj (s6.row (k:=2) rfl) g2
    injection e5 with e5 e6
    have e5:=LB e5
    subst e5; subst e6
    have s7:=s6.new (.iter J I I [])
    have s8:=s7.put (o':=.cells δ.cO.aj.length (jx es' row') false) (k:=2) rfl
    dsimp only [setA] at s8
    have s9:=s8.put (o':=.cells 12 (List.set (lI δ.cO.room (.sl QB 0 δ.cO.aj.length (.exact δ.cO.aj.length)) wt (.map J) lg δ.cO.aT mk δ.cO.aJ ops δ.cO.dead tn tl) 2 .aH) false) (k:=1) rfl
    dsimp only [setA] at s9
    have QC:=s9.put (o':=.map [] I) (k:=3) rfl
    dsimp only [setA] at QC
    have TU:=QC.kill
    have TV:Sat _ (each hO row' δ.cO.aj::cX (fun v b=>.bp v b) es' δ.cO.now::_):=TU.aa [4,3]
    have QD:=TV.two (C:=each hO (jx es' row') (laidP δ.cO.now δ.cO.aj)) (aq.each aq.hO _ _) (aq.Ad (fun _ _=>aq.bp _ _) _ _) fun a b q1 q2=>BW q2 (fun e he=>by
     have:=U.now e he
     rintro hq; rw [hq] at this; simp at this) q1
    dsimp only [bringA,getA,ai] at QD
    have QE:=(c9 (f:=fun v b=>.bp v b) (v:=.map J) (m:=([]:List (Int×List Nat)))).2 ⟨J,[],I,rfl,trivial,List.nodup_nil,((QD.aa [3]).eu trivial).aa [1,0]⟩
    dsimp only [bringA,getA,ai] at QE
    have hlen:(laidP δ.cO.now δ.cO.aj).length=δ.cO.aj.length:=GA
    have NM:=dP.2 ⟨QB,jx es' row',rfl,by rw [hlen]; exact QE.aa [3,1]⟩
    dsimp only [bringA,getA,ai] at NM
    rw [hlen] at NM
    have QF:=(iM (v:=.aH) (m:=[])).2 ⟨[],((NM.del 3).eu trivial).jZ⟩
    dsimp only [bringA,getA,ai] at QF
    exact aQ.2 ⟨_,_,_,_,_,_,_,ops,QF.aa [3,1,0,0]⟩
end
end Go.Proofs.YtconhghphklfjaaGreat.Am
namespace Go.Proofs.YtconhghphklfjaaGreat.Am
open Go
theorem dU.ag {π I:Pl}(J:dU π I): ∀g∈I.ag,∃f∈π.ag,∃t,g={ f with dn:=t }:=by
 intro g hg
 obtain ⟨i,hi,rfl⟩:=List.mem_iff_getElem.1 hg
 have hf:π.ag[i]?=some (π.ag[i]'(by rw [←J.len]; exact hi)):=List.getElem?_eq_getElem _
 obtain ⟨t,U⟩:=J.get i _ hf
 rw [List.getElem?_eq_getElem hi] at U
 exact ⟨_,List.getElem_mem _,t,Option.some.inj U⟩
theorem dU.ok {π I:Pl}(J:dU π I)(h:π.Ok)(hh:I.hand<I.ag.length): I.Ok:=by
 refine ⟨hh,by rw [J.len]; exact h.many,by rw [J.aZ,J.len]; exact h.aZ,fun g U => ?_,fun g U => ?_⟩
 ·obtain ⟨f,hf,t,rfl⟩:=J.ag g U
  exact h.len f hf
 ·obtain ⟨f,hf,t,rfl⟩:=J.ag g U
  exact h.pins f hf
theorem Pl.Ok.set {π:Pl}{i:Nat}{f:Fm}{w:List (Int×Int)}{d:List (Int×(Nat×Bool))}(h:π.Ok)(hw:∀e∈w,0≤e.2∧e.2<π.ag.length)(J:f.b.length≤512)(U:0≤f.pins∧f.pins≤4294967296): Pl.Ok { π with ag:=π.ag.set i f,aZ:=w,cC:=d }:=by
 refine ⟨by simp only [List.length_set]; exact h.hand,by simp only [List.length_set]; exact h.many,fun e he=>by simp only [List.length_set]; exact hw e he,fun g I => ?_,fun g I => ?_⟩
 ·rcases List.mem_or_eq_of_mem_set I with I | rfl
  ·exact h.len g I
  ·exact J
 ·rcases List.mem_or_eq_of_mem_set I with I | rfl
  ·exact h.pins g I
  ·exact U
theorem LF {α:Type}{n:Int}: ∀ {l:List (Int×α)} {e:Int×α},e∈jb n l→e∈l:=by
 intro l
 induction l with
 | nil=>intro e h; exact h
 | cons x l I =>
  intro e h
  simp only [jb] at h
  split at h
  ·exact List.mem_cons_of_mem _ h
  ·rcases List.mem_cons.1 h with rfl | h
   ·exact List.mem_cons_self
   ·exact List.mem_cons_of_mem _ (I h)
theorem LG {α:Type}{n:Int}{x:α}: ∀ {l:List (Int×α)} {e:Int×α},e∈cA n x l→e=(n,x)∨e∈l:=by
 intro l
 induction l with
 | nil=>intro e h; simp only [cA,List.mem_singleton] at h; exact .inl h
 | cons y l I =>
  intro e h
  simp only [cA] at h
  split at h
  ·rcases List.mem_cons.1 h with rfl | h
   ·exact .inl rfl
   ·exact .inr (List.mem_cons_of_mem _ h)
  ·rcases List.mem_cons.1 h with rfl | h
   ·exact .inr List.mem_cons_self
   ·rcases I h with h | h
    ·exact .inl h
    ·exact .inr (List.mem_cons_of_mem _ h)
theorem uA {π:Pl}{i:Nat}{f:Fm}(h:π.Ok): (cD π i f).Ok:=by
 unfold cD
 refine h.set (fun e he => ?_) (by simp [c7]) (by simp [c7])
 split at he
 ·exact h.aZ e he
 ·exact h.aZ e (LF he)
theorem dV.ok {ε ε':aM}{n e:Int}{b:List Nat}(hr:dV ε n e b ε')(h:rY ε)(hp:∀f∈ε.1.ag,f.pins=0): rY ε':=by
 cases hr with
 | arg _=>exact h
 | xV i f h1 h2 hl hf =>
  have hm:=List.mem_of_getElem? hf
  exact ⟨h.pl.set h.pl.aZ (h.pl.len f hm) (by have:=hp f hm; simp only; omega),h.lg,h.dk⟩
 | out I i f h1 h2 hl J hf U he=>exact qi (ε:=(I,ε.2)) ⟨J.ok h.pl U,h.lg,h.dk⟩
 | read I i f h1 h2 hl J hf U he hr =>
  have:=qi (i:=i) (ε:=(I,ε.2)) ⟨J.ok h.pl U,h.lg,h.dk⟩
  exact ⟨uA this.pl,this.lg,this.dk⟩
 | bad I i f h1 h2 hl J hf U he hr hc =>
  have:=qi (i:=i) (ε:=(I,ε.2)) ⟨J.ok h.pl U,h.lg,h.dk⟩
  exact ⟨uA this.pl,this.lg,this.dk⟩
 | load I i f h1 h2 hl J hf U he hr hc =>
  have:=qi (i:=i) (ε:=(I,ε.2)) ⟨J.ok h.pl U,h.lg,h.dk⟩
  have h3:=uA (i:=i) (f:=f) this.pl
  have hlen:i<(cD (outF (I,ε.2) i).2.1 i f).ag.length:=by
   obtain ⟨c,hc⟩:=jJ (ε:=(I,ε.2)) hf
   have:=(List.getElem?_eq_some_iff.1 hc).1
   simpa [cD] using this
  refine ⟨h3.set (fun e he => ?_) (by simp only; rw [this.dk.at]; omega) (by simp),this.lg,this.dk⟩
  rcases LG he with rfl | he
  ·simp only; omega
  ·exact h3.aZ e he
theorem xY {π:Pl}{n:Int}(h:π.Ok): (unpinF π n).2.Ok:=by
 unfold unpinF
 split
 ·exact h
 ·rename_i i hi
  split
  ·exact h
  ·rename_i f I
   have hm:=List.mem_of_getElem? I
   refine h.set h.aZ (h.len f hm) ?_
   have:=h.pins f hm
   have J:f.pins≠0:=by
    unfold heldI at hi
    split at hi
    ·cases hi
    ·split at hi
     ·cases hi
     ·rename_i g U
      split at hi
      ·cases hi
      ·rename_i hp
       have:=Option.some.inj hi
       subst this
       rw [U] at I
       have:=Option.some.inj I
       subst this
       exact hp
   simp only; omega
inductive kK (ε:aM)(n:Int): Int→List Nat→aM→Prop where
 | dead (h:ε.2.2.dead=true):kK ε n 9 [] ε
 | gS (e:Int) (b:List Nat) (ε':aM) (h:ε.2.2.dead=false) (hr:dV ε n e b ε') (he:e≠0):kK ε n e [] ε'
 | oB (b:List Nat) (ε':aM) (h:ε.2.2.dead=false) (hr:dV ε n 0 b ε') (he:(unpinF ε'.1 n).1≠0):kK ε n (unpinF ε'.1 n).1 [] ((unpinF ε'.1 n).2,ε'.2)
 | read (b:List Nat) (ε':aM) (h:ε.2.2.dead=false) (hr:dV ε n 0 b ε') (he:(unpinF ε'.1 n).1=0):kK ε n 0 b ((unpinF ε'.1 n).2,ε'.2)
theorem kK.ok {ε ε':aM}{n e:Int}{b:List Nat}(I:kK ε n e b ε')(h:rY ε)(J:∀f∈ε.1.ag,f.pins=0): rY ε':=by
 cases I with
 | dead _=>exact h
 | gS e b ε' U I he=>exact I.ok h J
 | oB b ε' U I he=>have:=I.ok h J; exact ⟨xY this.pl,this.lg,this.dk⟩
 | read b ε' U I he=>have:=I.ok h J; exact ⟨xY this.pl,this.lg,this.dk⟩
def j6 (a p q r:Nat)(op dv:V)(aK:Nat): List V:=[.ptr p 0,.ptr q 0,.ptr r 0,op,dv,.int .u64 (aK:Int)]
def cz (a p q r:Nat)(op:V)(data:List Nat)(aK:Nat): ah:=xs fun dv:V=>star [pt a (.cells 6 (j6 a p q r op dv aK) false),.bp dv data]
def eE (g a:Nat)(now:List (Int×List Nat))(bq:Bool): ah:=xs fun nv:V=>star [pt g (.cells 3 [.ptr a 0,nv,.bool bq] false),fE (fun v b=>.bp v b) nv now]
section
variable {told:Nat→Option (List V→H→Option (V×H))} {h:H} {S:List ah} {X:ah} {r k q p bw a g aK:Nat} {op v x wh di:V} {l b data:List Nat} {π:Pl} {m:List Fm} {μ:Lg} {δ:Dk} {now:List (Int×List Nat)} {bq:Bool}
theorem bQ : Sat h (cz a p q r op data aK::S)↔∃dv,Sat h (pt a (.cells 6 (j6 a p q r op dv aK) false)::.bp dv data::S):=by
 simp only [cz,eA,cG,List.cons_append,List.nil_append]
theorem dc : Sat h (eE g a now bq::S)↔∃nv,Sat h (pt g (.cells 3 [.ptr a 0,nv,.bool bq] false)::fE (fun v b=>.bp v b) nv now::S):=by
 simp only [eE,eA,cG,List.cons_append,List.nil_append]
theorem AG (U:W told){n:Int}(s:Sat h (cz a p q r op data aK::cB r p q π::bj q p μ::az p δ::S))(I:rY (π,μ,δ))(J:∀f∈π.ag,f.pins=0)(hw:δ.waiting.length≤268435456):
  Call ⟨Tryz.prog,told⟩ 23 [.ptr a 0,.int .i64 n] h fun v h'=>∃(e:Int) (b:List Nat) (ε:aM),kK (π,μ,δ) n e b ε ∧
   ((e≠0∧v=.aW [.aH,.int .i64 e]∧Sat h' (cz a p q r op data aK::cB r p q ε.1::bj q p ε.2.1::az p ε.2.2::S)) ∨
    (e=0∧∃u,v=.aW [u,.int .i64 0]∧Sat h' (a_ u b::cz a p q r op data aK::cB r p q ε.1::bj q p ε.2.1::az p ε.2.2::S))):=by
 have s0:=s
 obtain ⟨dv,s⟩:=bQ.1 s
 refine Call.of_wp (U.free _ rfl) Tryz.func23 rfl rfl (zg rfl (za rfl (za rfl (zv (zw (zg rfl (zm rfl (zn rfl (zf rfl (o6 _ _) (zl rfl (by exact s.ld (k:=0) rfl mF rfl) ?_))))))))))
 refine ae.call rfl rfl rfl rfl rfl rfl rfl (Al U (s.aa [4])) ?_
 rintro v h ⟨rfl,rfl⟩
 refine zv ?_
 cases hd:δ.dead with
 | true =>
  refine zi rfl (zg rfl (za rfl (za rfl (zv ?_))))
  refine WP.ret ⟨trivial,_,rfl,?_⟩
  exact ⟨9,[],_,.dead hd,.inl ⟨by decide,rfl,s0⟩⟩
 | false =>
  refine zj rfl (WP.skip (zg rfl (zm rfl (zn rfl (zf rfl (o7 _ _) (zl rfl (by exact s.ld (k:=0) rfl wM rfl) ?_))))))
  refine zm rfl (ae.call rfl rfl rfl rfl rfl rfl rfl (Gs (n:=n) U (s.aa [2,2,2]) I.pl J I.lg I.dk hw) ?_)
  rintro v h ⟨e,b,ε,hr,(⟨he,rfl,s⟩ | ⟨rfl,u,rfl,s⟩)⟩
  ·dsimp only [bringA,getA,ai] at s
   refine zm rfl (ze rfl (ze rfl (za rfl (za rfl (zv (zw (zg rfl (zm rfl (ae.aR rfl rfl rfl (af rfl rfl aN) (by simp; exact he) ?_)))))))))
   refine zv (zi rfl (zg rfl (zm rfl (za rfl (za rfl (zv ?_))))))
   refine WP.ret ⟨trivial,_,rfl,?_⟩
   exact ⟨e,[],ε,.gS e b ε hd hr he,.inl ⟨he,rfl,bQ.2 ⟨dv,s.aa [3,3,0,0,0]⟩⟩⟩
  ·dsimp only [bringA,getA,ai] at s
   refine zm rfl (ze rfl (ze rfl (za rfl (za rfl (zv (zw (zg rfl (zm rfl (ae.aE rfl rfl rfl (af rfl rfl aN) (rfl) ?_)))))))))
   have s:=s.aa [4,4,0,0,0,0]
   dsimp only [bringA,getA,ai] at s
   refine zv (zj rfl (WP.skip (zw (zg rfl (zm rfl (zn rfl (zf rfl (o7 _ _) (zl rfl (by exact s.ld (k:=0) rfl wM rfl) ?_))))))))
   refine zm rfl ?_
   have mM:=hr.ok I J
   refine ae.call rfl rfl rfl rfl rfl rfl rfl (Az (n:=n) U (s.aa [3]) mM.pl) ?_
   rintro v h ⟨rfl,s⟩
   dsimp only [bringA,getA,ai] at s
   refine za rfl (zv (zg rfl (zm rfl ?_)))
   by_cases he:(unpinF ε.1 n).1=0
   ·skip
    refine ae.aE rfl rfl rfl (af rfl rfl aN) (by simp; exact he) ?_
    refine zv (zj rfl (WP.skip (zg rfl (zm rfl (za rfl (za rfl (zv ?_)))))))
    refine WP.ret ⟨trivial,_,rfl,?_⟩
    exact ⟨0,b,_,.read b ε hd hr he,.inr ⟨rfl,u,rfl,(bQ.2 ⟨dv,s.aa [1,1,0,1,1,0]⟩).aa [4,0,0,0,0]⟩⟩
   ·skip
    refine ae.aR rfl rfl rfl (af rfl rfl aN) (by simp; exact he) ?_
    refine zv (zi rfl (zg rfl (zm rfl (za rfl (za rfl (zv ?_))))))
    refine WP.ret ⟨trivial,_,rfl,?_⟩
    exact ⟨_,[],_,.oB b ε hd hr he,.inl ⟨he,rfl,(bQ.2 ⟨dv,(s.aa [1,1,0,1,1,0]).del 5⟩)⟩⟩
end
end Go.Proofs.YtconhghphklfjaaGreat.Am
