/- SpaceRoots: a part of its proof; conditions: its statement's. -/
import Derived.Test.YtefepnnfphdkpaaGreatF01
import Derived.Laws.Append
import Derived.Laws.Slices
namespace Go.Proofs.YtefepnnfphdkpaaGreat.Am
open Go
theorem gP {a b:Nat}(h:a=b): Nat.beq a b=true:=by subst h; exact dR a
theorem dc {a b:Nat}(h:a≠b): Nat.beq a b=false:=by
 cases I:Nat.beq a b with
 | false=>rfl
 | true=>exact absurd (Nat.eq_of_beq_eq_true I) h
theorem beq_iff {a b:Nat}: Nat.beq a b=true↔a=b:=⟨Nat.eq_of_beq_eq_true,gP⟩
theorem aJ {a b:Nat}: Nat.ble a b=true↔a≤b:=⟨Nat.le_of_ble_eq_true,Nat.ble_eq_true_of_le⟩
theorem gJ {a b:Nat}: Nat.blt a b=true↔a<b:=by rw [Nat.blt_eq]
theorem Ek {α:Type}(b:Bool)(x y:α): cond b x y=if b=true then x else y:=by cases b <;> rfl
theorem T.jX {α:Type}(k:Nat): T.get (.lf:T α) k=none:=rfl
theorem th {α:Type}(b:Bool)(x y:α): (Bool.rec (motive:=fun _=>α) y x b:α)=cond b x y:=by cases b <;> rfl
theorem T.v_ {α:Type}(l r:T α)(v:Option α)(k:Nat): T.get (.nd l v r) k=cond (Nat.beq k 0) v (cond (Nat.beq (k%2) 1) (l.get (k/2)) (r.get (k/2-1))) :=
 (th (Nat.beq k 0) v _).trans (congrArg (cond (Nat.beq k 0) v) (th (Nat.beq (k%2) 1) _ _))
theorem T.tj {α:Type}(f k:Nat)(o:Option α): T.yx (f+1) .lf k o=cond (Nat.beq k 0) (.nd .lf o .lf) (cond (Nat.beq (k%2) 1) (.nd (T.yx f .lf (k/2) o) none .lf) (.nd .lf none (T.yx f .lf (k/2-1) o))) :=
 (th (Nat.beq k 0) _ _).trans (congrArg (cond (Nat.beq k 0) _) (th (Nat.beq (k%2) 1) _ _))
theorem T.tq {α:Type}(f k:Nat)(l r:T α)(v o:Option α): T.yx (f+1) (.nd l v r) k o=cond (Nat.beq k 0) (.nd l o r) (cond (Nat.beq (k%2) 1) (.nd (T.yx f l (k/2) o) v r) (.nd l v (T.yx f r (k/2-1) o))) :=
 (th (Nat.beq k 0) _ _).trans (congrArg (cond (Nat.beq k 0) _) (th (Nat.beq (k%2) 1) _ _))
theorem Qm {α:Type}: ∀(f:Nat) (t:T α) (k:Nat) (o:Option α) (j:Nat),k<f→(T.yx f t k o).get j=if j=k then o else t.get j:=by
 intro f
 induction f with
 | zero=>intro t k o j h; omega
 | succ f ih =>
  intro t k o j h
  cases t with
  | lf =>
   by_cases h0:k=0
   ·subst h0
    simp only [T.tj,T.tq,T.jX,T.v_,dR,ag]
    by_cases hj:j=0
    ·subst hj; simp
    ·have:Nat.beq j 0=false:=dc hj
     simp [this,hj,Ek]
   ·have hb:Nat.beq k 0=false:=dc h0
    by_cases h1:k%2=1
    ·have pR:Nat.beq (k%2) 1=true:=gP h1
     simp only [T.tj,T.tq,hb,pR,ag,az,T.jX,T.v_]
     by_cases hj:j=0
     ·subst hj; simp [jO h0]
     ·have GS:Nat.beq j 0=false:=dc hj
      simp only [GS,az]
      by_cases J:j%2=1
      ·have I:Nat.beq (j%2) 1=true:=gP J
       simp only [I,ag]
       rw [ih _ _ _ _ (by omega)]
       have:(j/2=k/2)↔(j=k):=by omega
       simp [this,T.jX]
      ·have I:Nat.beq (j%2) 1=false:=dc J
       have:j≠k:=by intro e; subst e; exact J h1
       simp [I,this]
    ·have pR:Nat.beq (k%2) 1=false:=dc h1
     simp only [T.tj,T.tq,hb,pR,az,T.jX,T.v_]
     by_cases hj:j=0
     ·subst hj; simp [jO h0]
     ·have GS:Nat.beq j 0=false:=dc hj
      simp only [GS,az]
      by_cases J:j%2=1
      ·have I:Nat.beq (j%2) 1=true:=gP J
       have:j≠k:=by intro e; subst e; exact h1 J
       simp [I,this]
      ·have I:Nat.beq (j%2) 1=false:=dc J
       simp only [I,az]
       rw [ih _ _ _ _ (by omega)]
       have:(j/2-1=k/2-1)↔(j=k):=by omega
       simp [this,T.jX]
  | nd l v r =>
   by_cases h0:k=0
   ·subst h0
    simp only [T.tj,T.tq,T.jX,T.v_,dR,ag]
    by_cases hj:j=0
    ·subst hj; simp
    ·have:Nat.beq j 0=false:=dc hj
     simp [this,hj]
   ·have hb:Nat.beq k 0=false:=dc h0
    by_cases h1:k%2=1
    ·have pR:Nat.beq (k%2) 1=true:=gP h1
     simp only [T.tj,T.tq,hb,pR,ag,az,T.jX,T.v_]
     by_cases hj:j=0
     ·subst hj; simp [jO h0]
     ·have GS:Nat.beq j 0=false:=dc hj
      simp only [GS,az]
      by_cases J:j%2=1
      ·have I:Nat.beq (j%2) 1=true:=gP J
       simp only [I,ag]
       rw [ih _ _ _ _ (by omega)]
       have:(j/2=k/2)↔(j=k):=by omega
       simp [this]
      ·have I:Nat.beq (j%2) 1=false:=dc J
       have:j≠k:=by intro e; subst e; exact J h1
       simp [I,this]
    ·have pR:Nat.beq (k%2) 1=false:=dc h1
     simp only [T.tj,T.tq,hb,pR,az,T.jX,T.v_]
     by_cases hj:j=0
     ·subst hj; simp [jO h0]
     ·have GS:Nat.beq j 0=false:=dc hj
      simp only [GS,az]
      by_cases J:j%2=1
      ·have I:Nat.beq (j%2) 1=true:=gP J
       have:j≠k:=by intro e; subst e; exact h1 J
       simp [I,this]
      ·have I:Nat.beq (j%2) 1=false:=dc J
       simp only [I,az]
       rw [ih _ _ _ _ (by omega)]
       have:(j/2-1=k/2-1)↔(j=k):=by omega
       simp [this]
theorem aX {α:Type}(t:T α)(k:Nat)(o:Option α)(j:Nat): (t.set k o).get j=if j=k then o else t.get j :=
 Qm (k+1) t k o j (by omega)
theorem fF {α:Type}: ∀(l:List α) (k:Nat),nth l k=l[k]?:=by
 intro l
 induction l with
 | nil=>intro k; simp [nth]
 | cons x l I =>
  intro k
  cases k with
  | zero=>simp [nth]
  | succ k=>simp only [nth,dc (vT k),az,sU,I,kK]
structure Ctx where
 ρ:Nat→Nat×Nat
 Z:Nat→Nat
 N:Nat
 X:Nat→Bool
def Ctx.room (c:Ctx)(id off I:Nat): Nat:=(c.Z (c.ρ id).1-((c.ρ id).2+off))/I
mutual
def conc (c:Ctx): V→Value
 | .bool b=>.bool b
 | .int k n=>.int k n
 | .str l=>.string ⟨(l.map UInt8.ofNat).toArray⟩
 | .cu=>.pointer none
 | .ptr id off=>.pointer (some ⟨(c.ρ id).1,(c.ρ id).2+off,none⟩)
 | .bw=>.slice none 0 0
 | .sl id off len (.exact n)=>.slice (some ⟨(c.ρ id).1,(c.ρ id).2+off,none⟩) len n
 | .sl id off len (.rest I alt)=>.slice (some ⟨(c.ρ id).1,(c.ρ id).2+(if c.room id off I=0 then alt else off),none⟩) len (c.room id off I)
 | .lu=>.map none
 | .map id=>.map (some (c.ρ id).1)
 | .fn f a b=>.func f (concL c a).toArray (concL c b).toArray
 | .Nh id=>.func (.yield (c.ρ id).1) #[] #[]
 | .tJ k b=>.float k b
 | .sle a=>.slice (some a) 0 0
 | .Fa=>.nilFunc
 | .iface t v=>.iface t (conc c v)
 | .jz=>.nilIface
 | .agg l=>.agg (concL c l).toArray
 | .bj l=>.tuple (concL c l).toArray
def concL (c:Ctx): List V→List Value
 | []=>[]
 | v::l=>conc c v::concL c l
end
theorem gC (c:Ctx)(l:List V): concL c l=l.map (conc c):=by
 induction l with
 | nil=>simp [concL]
 | cons v l I=>simp [concL,I]
mutual
def wf (c:Ctx): V→Prop
 | .bool _ | .int _ _ | .cu | .bw | .lu | .Fa | .jz | .tJ _ _ | .sle _=>True
 | .str l=>∀x∈l,x<256
 | .ptr id _=>id<c.N
 | .sl id _ len (.exact n)=>id<c.N∧len≤n
 | .sl id off len (.rest I _)=>id<c.N∧1≤I∧len≤c.room id off I
 | .map id=>id<c.N
 | .fn _ a b=>fu c a∧fu c b
 | .Nh id=>id<c.N
 | .iface _ v=>wf c v
 | .agg l=>fu c l
 | .bj l=>fu c l
def fu (c:Ctx): List V→Prop
 | []=>True
 | v::l=>wf c v∧fu c l
end
theorem gK {c:Ctx}{l:List V}: fu c l↔∀v∈l,wf c v:=by
 induction l with
 | nil=>simp [fu]
 | cons v l I=>simp [fu,I]
structure Ext (c c':Ctx): Prop where
 le:c.N≤c'.N
 ρ:∀id,id<c.N→c'.ρ id=c.ρ id
 Z:∀id,id<c.N→c'.Z (c.ρ id).1=c.Z (c.ρ id).1
 X:∀id,id<c.N→c'.X id=c.X id
theorem Ext.refl (c:Ctx): Ext c c:=⟨aD _,fun _ _=>rfl,fun _ _=>rfl,fun _ _=>rfl⟩
theorem Ext.trans {a b c:Ctx}(h:Ext a b)(g:Ext b c): Ext a c :=
 ⟨cC h.le g.le,fun id hi=>by rw [g.ρ id (gX hi h.le),h.ρ id hi],fun id hi=>by
  have I:=g.Z id (gX hi h.le)
  rw [h.ρ id hi] at I
  rw [I,h.Z id hi],fun id hi=>by rw [g.X id (gX hi h.le),h.X id hi]⟩
theorem Ext.room {c c':Ctx}(e:Ext c c'){id:Nat}(h:id<c.N)(off I:Nat): c'.room id off I=c.room id off I:=by
 unfold Ctx.room; rw [e.ρ id h,e.Z id h]
mutual
theorem cg {c c':Ctx}(e:Ext c c'): ∀(v:V),wf c v→conc c' v=conc c v∧wf c' v
 | .bool _,_=>⟨by simp [conc],by simp [wf]⟩
 | .int _ _,_=>⟨by simp [conc],by simp [wf]⟩
 | .str _,h=>⟨by simp [conc],by simpa [wf] using h⟩
 | .cu,_=>⟨by simp [conc],by simp [wf]⟩
 | .ptr id off,h=>by
  have h':id<c.N:=by simpa [wf] using h
  exact ⟨by simp [conc,e.ρ id h'],by simpa [wf] using gX h' e.le⟩
 | .bw,_=>⟨by simp [conc],by simp [wf]⟩
 | .sle _,_=>⟨by simp [conc],by simp [wf]⟩
 | .sl id off len (.exact n),h=>by
  have h':id<c.N∧len≤n:=by simpa [wf] using h
  exact ⟨by simp [conc,e.ρ id h'.1],by simpa [wf] using ⟨gX h'.1 e.le,h'.2⟩⟩
 | .sl id off len (.rest J alt),h=>by
  have h':id<c.N∧1≤J∧len≤c.room id off J:=by simpa [wf] using h
  exact ⟨by simp [conc,e.ρ id h'.1,e.room h'.1],by simpa [wf,e.room h'.1] using ⟨gX h'.1 e.le,h'.2⟩⟩
 | .lu,_=>⟨by simp [conc],by simp [wf]⟩
 | .map id,h=>by
  have h':id<c.N:=by simpa [wf] using h
  exact ⟨by simp [conc,e.ρ id h'],by simpa [wf] using gX h' e.le⟩
 | .fn f a b,h=>by
  have h':fu c a∧fu c b:=by simpa [wf] using h
  have I:=rN e a h'.1
  have h2:=rN e b h'.2
  exact ⟨by simp [conc,I.1,h2.1],by simpa [wf] using ⟨I.2,h2.2⟩⟩
 | .Fa,_=>⟨by simp [conc],by simp [wf]⟩
 | .iface t v,h=>by
  have h':wf c v:=by simpa [wf] using h
  have I:=cg e v h'
  exact ⟨by simp [conc,I.1],by simpa [wf] using I.2⟩
 | .jz,_=>⟨by simp [conc],by simp [wf]⟩
 | .agg l,h=>by
  have h':fu c l:=by simpa [wf] using h
  have I:=rN e l h'
  exact ⟨by simp [conc,I.1],by simpa [wf] using I.2⟩
 | .bj l,h=>by
  have h':fu c l:=by simpa [wf] using h
  have I:=rN e l h'
  exact ⟨by simp [conc,I.1],by simpa [wf] using I.2⟩
 | .Nh id,h=>by
  have h':id<c.N:=by simpa [wf] using h
  exact ⟨by simp [conc,e.ρ id h'],by simpa [wf] using gX h' e.le⟩
 | .tJ _ _,_=>⟨by simp [conc],by simp [wf]⟩
theorem rN {c c':Ctx}(e:Ext c c'): ∀(l:List V),fu c l→concL c' l=concL c l∧fu c' l
 | [],_=>⟨by simp [concL],by simp [fu]⟩
 | v::l,h=>by
  have h':wf c v∧fu c l:=by simpa [fu] using h
  have I:=cg e v h'.1
  have J:=rN e l h'.2
  exact ⟨by simp [concL,I.1,J.1],by simpa [fu] using ⟨I.2,J.2⟩⟩
end
theorem nr {c c':Ctx}(e:Ext c c'){l:List V}(h:∀v∈l,wf c v): l.map (conc c')=l.map (conc c)∧∀v∈l,wf c' v :=
 ⟨oX fun v hv=>(cg e v (h v hv)).1,fun v hv=>(cg e v (h v hv)).2⟩
def rowSize (w:World)(b:Nat): Nat:=match w.heap[b]? with
 | some (.cells C _ _)=>C.size
 | _=>0
def cj (c:Ctx)(e:V×V×Nat): MapEntry:=⟨conc c e.1,conc c e.2.1,e.2.2⟩
def FzOk (st:Bool)(I:Nat×Nat)(size:Nat): Prop:=match st with
 | false=>I=(0,0)
 | true=>True
def Cm (c:Ctx)(w:World)(id:Nat): Obj→Prop
 | .cells n cs st=>n=cs.length∧(∀v∈cs,wf c v∧storable v=true)∧∃C e I,w.heap[(c.ρ id).1]?=some (.cells C e I)∧(c.ρ id).2+n≤C.size ∧
   (∀j v,cs[j]?=some v→C[(c.ρ id).2+j]?=some (conc c v))∧FzOk st I C.size
 | .map es clock=>(∀x∈es,wf c x.1∧wf c x.2.1)∧w.heap[(c.ρ id).1]?=some (.map (es.map (cj c)).toArray clock)
 | .loop busy ay env ps assign body=>∃fn tmps D,w.heap[(c.ρ id).1]?=some (.loop ⟨cond busy .busy .ready,none,fn,tmps,ps.toArray,assign,body,D⟩) ∧
   tmps.size=ay∧(∀t,tmps.getD t undef=conc c (Env.v env t))∧(∀t,wf c (Env.v env t))
 | .iter dh since last seen=>dh<c.N∧(c.ρ id).2=0∧w.heap[(c.ρ id).1]?=some (.mapIter (some (c.ρ dh).1) since seen.toArray last)
 | .kg l pos=>(∀x∈l,x<256)∧(c.ρ id).2=0∧w.heap[(c.ρ id).1]?=some (.stringIter ⟨(l.map UInt8.ofNat).toArray⟩ pos)
structure Rel (c:Ctx)(σ:H)(w:World): Prop where
 next:σ.next=c.N
 live:∀id o,σ.tr.get id=some o→id<c.N
 lF:∀id,id<c.N→(c.ρ id).1<w.heap.size
 zz:∀id,id<c.N→c.Z (c.ρ id).1=rowSize w (c.ρ id).1
 inj:∀i j o o',σ.tr.get i=some o→σ.tr.get j=some o'→(c.ρ i).1=(c.ρ j).1→i=j∨(c.X i=true∧c.X j=true)
 obj:∀id o,σ.tr.get id=some o→Cm c w id o
 one:∀id cs st,σ.tr.get id=some (.cells 1 cs st)→c.X id=false→(c.ρ id).2=0
 fx:∀id o,σ.tr.get id=some o→c.X id=true→∃n cs,o=.cells n cs true
theorem Rel.yz {c:Ctx}{σ:H}{w:World}(h:Rel c σ w){id:Nat}{o:Obj}(I:σ.tr.get id=some o)(ho:∀n cs,o≠.cells n cs true): c.X id=false:=by
 cases J:c.X id with
 | false=>rfl
 | true=>obtain ⟨n,cs,he⟩:=h.fx id o I J; exact absurd he (ho n cs)
theorem Rel.wV {c:Ctx}{σ:H}{w:World}(h:Rel c σ w){i j:Nat}{o o':Obj}(hi:σ.tr.get i=some o)(J:σ.tr.get j=some o')(he:(c.ρ i).1=(c.ρ j).1)(hx:c.X j=false): i=j:=by
 rcases h.inj i j o o' hi J he with I | ⟨_,I⟩
 ·exact I
 ·rw [hx] at I; cases I
structure cV (c:Ctx)(w:World)(c':Ctx)(w':World): Prop where
 ext:Ext c c'
 size:w.heap.size≤w'.heap.size
 rows:∀b,b<w.heap.size→rowSize w' b=rowSize w b
 mD:∀b,b<w.heap.size→(∀id,id<c.N→(c.ρ id).1=b→c.X id=true)→w'.heap[b]?=w.heap[b]?
 fresh:∀id,c.N≤id→id<c'.N→w.heap.size≤(c'.ρ id).1∨∃j,j<c.N∧(c.ρ j).1=(c'.ρ id).1∧c.X j=false
 sys:w'.os=w.os∧w'.output=w.output
theorem cV.refl (c:Ctx)(w:World): cV c w c w :=
 ⟨Ext.refl c,aD _,fun _ _=>rfl,fun _ _ _=>rfl,fun id I J=>by omega,rfl,rfl⟩
theorem cV.trans {c c' I:Ctx}{w w' J:World}(h:cV c w c' w')(g:cV c' w' I J): cV c w I J where
 ext:=h.ext.trans g.ext
 size:=cC h.size g.size
 rows:=fun b hb=>by rw [g.rows b (gX hb h.size),h.rows b hb]
 mD:=fun b hb hn=>by
  rw [g.mD b (gX hb h.size),h.mD b hb hn]
  intro id hi he
  by_cases h1:id<c.N
  ·rw [h.ext.X id h1]; exact hn id h1 (by rw [←h.ext.ρ id h1]; exact he)
  ·rcases h.fresh id (by omega) hi with h2 | ⟨j,hj,h2,h3⟩
   ·omega
   ·have:=hn j hj (by rw [h2]; exact he)
    rw [h3] at this; cases this
 sys:=⟨g.sys.1.trans h.sys.1,g.sys.2.trans h.sys.2⟩
 fresh:=fun id h1 h2=>by
  by_cases h3:id<c'.N
  ·rw [g.ext.ρ id h3]
   exact h.fresh id h1 h3
  ·rcases g.fresh id (by omega) h2 with h4 | ⟨j,hj,h4,hx⟩
   ·exact .inl (cC h.size h4)
   ·by_cases h5:j<c.N
    ·exact .inr ⟨j,h5,by rw [←h4,h.ext.ρ j h5],by rw [←h.ext.X j h5]; exact hx⟩
    ·rcases h.fresh j (by omega) hj with h6 | ⟨i,hi,h6,h7⟩
     ·exact .inl (by omega)
     ·exact .inr ⟨i,hi,by rw [h6,h4],h7⟩
theorem Rel.drew {c:Ctx}{σ:H}{w:World}(h:Rel c σ w): Rel c σ w.drew :=
 ⟨h.next,h.live,h.lF,h.zz,h.inj,fun id o ho=>by have:=h.obj id o ho; cases o <;> exact this,h.one,h.fx⟩
theorem cV.drew (c:Ctx)(w:World): cV c w c w.drew :=
 ⟨Ext.refl c,aD _,fun _ _=>rfl,fun _ _ _=>rfl,fun id I J=>by omega,rfl,rfl⟩
structure dQ (c:Ctx)(env:Env)(ay:Nat)(a:Act): Prop where
 size:a.tmps.size=ay
 val:∀t,a.tmps.getD t undef=conc c (env.v t)
 uS:∀t,wf c (env.v t)
theorem nV (c:Ctx): conc c bV=undef:=by simp [bV,conc,concL,undef]
theorem dQ.ext {c c':Ctx}{env:Env}{n:Nat}{a:Act}(h:dQ c env n a)(e:Ext c c'): dQ c' env n a :=
 ⟨h.size,fun t=>by rw [h.val t,(cg e _ (h.uS t)).1],fun t=>(cg e _ (h.uS t)).2⟩
theorem dQ.put {c:Ctx}{env:Env}{n:Nat}{a:Act}(h:dQ c env n a){d:Nat}{v:V}(hd:d<n)(hv:wf c v):
  dQ c (env.set d (some v)) n (a.put (some d) (conc c v)) where
 size:=by simp [Act.put,h.size]
 val:=fun t=>by
  simp only [Act.put,Env.v,aX]
  by_cases I:t=d
  ·subst I
   simp [h.size,hd,Array.getD]
  ·have J:=h.val t
   simp only [Env.v] at J
   simp only [I,bN]
   rw [←J]
   simp [Ar (jO I)]
 uS:=fun t=>by
  simp only [Env.v,aX]
  by_cases I:t=d
  ·subst I; simpa using hv
  ·simp only [I,bN]; exact h.uS t
theorem St.we {c:Ctx}{s s':St}{a:Act}{dst:Option Tmp}{v:V}{h:H}(he:dQ c s.env s.ay a)(hv:wf c v)
 (I:s.put dst v h=some s'): dQ c s'.env s'.ay (a.put dst (conc c v))∧s'.h=h∧s'.ay=s.ay:=by
 cases dst with
 | none=>simp only [St.put,aq] at I; subst I; exact ⟨he,rfl,rfl⟩
 | some d =>
  simp only [St.put] at I
  by_cases J:d<s.ay
  ·have:Nat.blt d s.ay=true:=gJ.2 J
   rw [this] at I
   simp only [ag,aq] at I
   subst I
   exact ⟨he.put J hv,rfl,rfl⟩
  ·have:Nat.blt d s.ay=false:=by
    cases hb:Nat.blt d s.ay with
    | false=>rfl
    | true=>exact absurd (gJ.1 hb) J
   rw [this] at I
   simp at I
end Go.Proofs.YtefepnnfphdkpaaGreat.Am
