/- SpacePlays: a part of its proof; conditions: its statement's. -/
import Derived.Test.YtefepnnfphdkpaaGreatE15
import Derived.Test.YtefepnnfphdkpaaGreatE11
import Derived.Shelf.SlIterI.Sorted
namespace Go.Proofs.YtefepnnfphdkpaaGreat.Am
open Go
abbrev cE := List (Int×V×Nat)
def eG (e:Int×V×Nat): V×V×Nat:=(.int .i64 e.1,e.2)
def lookE (n:Int): cE→Option V
 | []=>none
 | e::l=>if e.1=n then some e.2.1 else lookE n l
def mU (n:Int)(v:V)(c:Nat): cE→cE
 | []=>[(n,v,c)]
 | e::l=>if e.1=n then (e.1,v,e.2.2)::l else e::mU n v c l
def lQ (n:Int): cE→cE
 | []=>[]
 | e::l=>if e.1=n then l else e::lQ n l
def clkE (n:Int)(c:Nat)(l:cE): Nat:=match lookE n l with
 | some _=>c
 | none=>c+1
abbrev gQ (id:Nat)(l:cE)(c:Nat): au:=pt id (.map (l.map eG) c)
def idxE (n:Int): cE→Nat→Option (Nat×V)
 | [],_=>none
 | e::l,i=>if e.1=n then some (i,e.2.1) else idxE n l (i+1)
theorem lR (a b:Int): intBeq a b=decide (a=b):=by
 cases I:intBeq a b with
 | true=>simp [tQ I]
 | false =>
  by_cases he:a=b
  ·subst he; rw [qn] at I; cases I
  ·simp [he]
theorem sj {k:IntKind}{n:Int}: ∀(l:cE) (i:Nat),findK (.int k) (.int .i64 n) (l.map eG) i=some (idxE n l i):=by
 intro l
 induction l with
 | nil=>intro i; rfl
 | cons e l I =>
  intro i
  simp only [bQ,findK,eG,keyBeq,dg,ag,lR,idxE]
  by_cases he:e.1=n
  ·have:n=e.1:=he.symm
   simp [this]
  ·have:decide (n=e.1)=false:=by simp; exact fun h=>he h.symm
   rw [this,ah he]
   exact I (i+1)
theorem qz {n:Int}: ∀(l:cE) (i:Nat),(idxE n l i).map (·.2)=lookE n l:=by
 intro l
 induction l with
 | nil=>intro i; rfl
 | cons e l I =>
  intro i
  simp only [idxE,lookE]
  by_cases he:e.1=n
  ·simp [he]
  ·simp only [ah he]; exact I (i+1)
theorem Iy {n:Int}: ∀(l:cE) (i j:Nat) (v:V),idxE n l i=some (j,v)→i≤j:=by
 intro l
 induction l with
 | nil=>intro i j v h; cases h
 | cons e l I =>
  intro i j v h
  simp only [idxE] at h
  by_cases he:e.1=n
  ·rw [aq he] at h; injection h with h; injection h with J h2; omega
  ·rw [ah he] at h; have:=I _ _ _ h; omega
theorem V1 {n:Int}{v:V}{c:Nat}: ∀(l:cE) (i j:Nat) (u:V),idxE n l i=some (j,u)→setNth (l.map eG) (j-i) (fun e=>(e.1,v,e.2.2))=(mU n v c l).map eG:=by
 intro l
 induction l with
 | nil=>intro i j u h; cases h
 | cons e l I =>
  intro i j u h
  simp only [idxE] at h
  simp only [mU,bQ,setNth]
  by_cases he:e.1=n
  ·rw [aq he] at h; injection h with h; injection h with J h2
   subst J
   rw [aq he,uW]
   rfl
  ·rw [ah he] at h
   have h3:=Iy _ _ _ _ h
   rw [ah he,cH (by omega),ay,show j-i-1=j-(i+1) by omega,I _ _ _ h]
   rfl
theorem Ui {n:Int}: ∀(l:cE) (i j:Nat) (u:V),idxE n l i=some (j,u)→jJ (l.map eG) (j-i)=(lQ n l).map eG:=by
 intro l
 induction l with
 | nil=>intro i j u h; cases h
 | cons e l I =>
  intro i j u h
  simp only [idxE] at h
  simp only [lQ,bQ,jJ]
  by_cases he:e.1=n
  ·rw [aq he] at h; injection h with h; injection h with J h2
   subst J
   rw [aq he,uW]
   rfl
  ·rw [ah he] at h
   have h3:=Iy _ _ _ _ h
   rw [ah he,cH (by omega),ay,show j-i-1=j-(i+1) by omega,I _ _ _ h]
   rfl
theorem RD {n:Int}{v:V}{c:Nat}: ∀(l:cE),lookE n l=none→mU n v c l=l++[(n,v,c)]:=by
 intro l
 induction l with
 | nil=>intro _; rfl
 | cons e l I =>
  intro h
  simp only [lookE] at h
  by_cases he:e.1=n
  ·rw [aq he] at h; cases h
  ·rw [ah he] at h; simp only [mU,ah he,I h,gy]
theorem Og {n:Int}: ∀(l:cE),lookE n l=none→lQ n l=l:=by
 intro l
 induction l with
 | nil=>intro _; rfl
 | cons e l I =>
  intro h
  simp only [lookE] at h
  by_cases he:e.1=n
  ·rw [aq he] at h; cases h
  ·rw [ah he] at h; simp only [lQ,ah he,I h]
section
variable {P:Program} {h h':H} {S:List au} {v z:V} {t kt et:TypeId} {k:IntKind} {id c j:Nat} {l:cE} {n:Int}
theorem Sat.V2 (s:Sat h S)(I:getA S j=some (gQ id l c))(hu:P.underlying t=some (.map kt et))(J:P.underlying kt=some (.int k))(hz:zeroT P et=some z):
  eB P h t (.map id) (.int .i64 n) true=some (match lookE n l with | some v=>.aY [v,.bool true] | none=>.aY [z,.bool false]):=by
 have hg:=s.row I
 simp only [eB,lookupV,hu,J,hz,hg,keyBeq,dg,ag,sj]
 rw [←qz l 0]
 cases idxE n l 0 with
 | none=>rfl
 | some q=>rfl
theorem Sat.V3 (s:Sat h S)(I:getA S j=some (gQ id l c))(hu:P.underlying t=some (.map kt et))(J:P.underlying kt=some (.int k))(hz:zeroT P et=some z):
  eB P h t (.map id) (.int .i64 n) false=some (match lookE n l with | some v=>v | none=>z):=by
 have hg:=s.row I
 simp only [eB,lookupV,hu,J,hz,hg,keyBeq,dg,ag,sj]
 rw [←qz l 0]
 cases idxE n l 0 with
 | none=>rfl
 | some q=>rfl
theorem Sat.update (s:Sat h S)(hj:getA S j=some (gQ id l c))(hu:P.underlying t=some (.map kt et))(hk:P.underlying kt=some (.int k)):
  ∃h',mapUpdateV P h t (.map id) (.int .i64 n) v=some h'∧Sat h' (setA S j (gQ id (mU n v c l) (clkE n c l))):=by
 have hg:=s.row hj
 refine ⟨h.put id (some (.map ((mU n v c l).map eG) (clkE n c l))),?_,s.put hj⟩
 simp only [mapUpdateV,hu,hk,hg,keyBeq,dg,ag,sj]
 have I:=qz (n:=n) l 0
 cases J:idxE n l 0 with
 | none =>
  rw [J] at I
  have I:lookE n l=none:=I.symm
  simp only [clkE,I,RD l I,Cp]
  rfl
 | some q =>
  obtain ⟨i,u⟩:=q
  rw [J] at I
  have I:lookE n l=some u:=I.symm
  simp only [clkE,I]
  rw [←V1 (v:=v) (c:=c) l 0 i u J,k9]
theorem Sat.delete (s:Sat h S)(J:getA S j=some (gQ id l c))(hu:P.underlying t=some (.map kt et))(hk:P.underlying kt=some (.int k)):
  ∃h',mo P h t (.map id) (.int .i64 n)=some h'∧Sat h' (setA S j (gQ id (lQ n l) c)):=by
 have hg:=s.row J
 simp only [mo,hu,hk,hg,keyBeq,dg,ag,sj]
 have I:=qz (n:=n) l 0
 cases hq:idxE n l 0 with
 | none =>
  rw [hq] at I
  have I:lookE n l=none:=I.symm
  refine ⟨h,rfl,?_⟩
  rw [Og l I]
  have:∀(S:List au) (j:Nat) (A:au),getA S j=some A→setA S j A=S:=by
   intro S
   induction S with
   | nil=>intro j A h; cases h
   | cons B S ih =>
    intro j A h
    cases j with
    | zero=>simp only [getA] at h; injection h with h; subst h; rfl
    | succ j=>simp only [getA] at h; simp only [setA,ih j A h]
  rw [this S j _ J]
  exact s
 | some q =>
  obtain ⟨i,u⟩:=q
  refine ⟨_,rfl,?_⟩
  have e:=Ui l 0 i u hq
  rw [k9] at e
  rw [e]
  exact s.put J
theorem Sat.Yl (s:Sat h S)(I:getA S j=some (gQ id l c))(hu:P.underlying t=some (.map kt et)): lenV P h t (.map id)=some (.int .i64 (l.length:Int)):=by
 have J:=s.row I
 simp only [lenV,hu,J,dF]
end
section
variable {C:cB} {E:List (Nat×V)} {h h':H} {o:Oper} {S':List au} {x y z:Operand} {a b v u:V} {t:TypeId} {cl:Go.Call}
theorem OpR.upd (I:∀env,ja env E→evOp C (ev C 0) env h o=(match mapUpdateV C.P h t a b v with | some h'=>some (bK,h') | none=>none))
 (ho:∃h₁,mapUpdateV C.P h t a b v=some h₁∧Sat h₁ S'): OpR C E h o fun _ h₁=>Sat h₁ S':=by
 obtain ⟨h₁,J,e2⟩:=ho
 exact ⟨bK,h₁,e2,fun env he=>⟨0,by rw [I env he,J]⟩⟩
theorem OpR.mapUpdate (I:o.op=.mapUpdate t x y z)(J:lookO E x=some a)(hy:lookO E y=some b)(hz:lookO E z=some v)
 (ho:∃h₁,mapUpdateV C.P h t a b v=some h₁∧Sat h₁ S'): OpR C E h o fun _ h₁=>Sat h₁ S':=by
 refine OpR.upd (t:=t) (a:=a) (b:=b) (v:=v) (fun env he => ?_) ho
 simp only [evOp,I,bN he J,bN he hy,bN he hz,nf]
 cases mapUpdateV C.P h t a b v <;> rfl
theorem OpR.builtin {args:List V}{bi:Builtin}{R:V→H→Prop}(I:o.op=.call cl)(J:cl.callee=.builtin bi)(ha:lookArgs E cl.args.toList=some args)(ho:∃v h₁,builtinV C.P h bi cl.argTypes args=some (v,h₁)∧R v h₁): OpR C E h o R:=by
 obtain ⟨v,h₁,e1,e2⟩:=ho
 refine OpR.of ?_ e2
 rw [I]
 simp only [opE,J,ha,e1]
theorem OpR.oU {l m:List Nat}{S:List au}{X:au}(hP:C.P=Tryz.prog)(s:Sat h (aZ v l::X::S))(hX:c8 X (c9 u m))(I:o.op=.call cl)(hc:cl.callee=.builtin .append)(J:cl.argTypes = #[28,28])(ha:lookArgs E cl.args.toList=some [v,u])
 (fC:l.length+m.length≤140737488355328): OpR C E h o fun v' h₁=>Sat h₁ (aZ v' (l++m)::X::S):=by
 obtain ⟨v',h₁,e1,e2⟩:=JQ s hX fC
 refine OpR.builtin I hc ha ⟨v',h₁,?_,e2⟩
 simp only [builtinV,hP,J,e1]
theorem OpR.vt {S:List au}{c:Nat}(J:C.P=Tryz.prog)(s:Sat h S)(I:o.op=.makeSlice t x y)(ht:t=28)(hx:lookO E x=some (.int .i64 0))(hy:lookO E y=some (.int .i64 (c:Int)))(hc:c<1073741824): OpR C E h o fun v' h₁=>Sat h₁ (aZ v' []::S):=by
 obtain ⟨v',h₁,e1,e2⟩:=LI s hc
 exact OpR.of (by rw [I,ht,J]; exact ry hx hy e1) e2
theorem OpR.BD {S:List au}{c:Nat}(J:C.P=Tryz.prog)(s:Sat h S)(I:o.op=.makeSlice t x y)(ht:t=28)(hx:lookO E x=some (.int .i64 (c:Int)))(hy:lookO E y=some (.int .i64 (c:Int)))(hc:c<1073741824): OpR C E h o fun v' h₁=>Sat h₁ (aZ v' (List.replicate c 0)::S):=by
 obtain ⟨v',h₁,e1,e2⟩:=LJ s hc
 exact OpR.of (by rw [I,ht,J]; exact ry hx hy e1) e2
theorem OpR.Qp {l m:List Nat}{S:List au}{X:au}{p q:Nat}(hP:C.P=Tryz.prog)(s:Sat h (aZ v l::X::S))(hX:c8 X (c9 u m))(I:o.op=.call cl)(hc:cl.callee=.builtin .copy)(J:cl.argTypes = #[28,28])(ha:lookArgs E cl.args.toList=some [slR v p q,u])
 (ZW:p<q)(hq:q≤l.length)(hm:1≤m.length): OpR C E h o fun _ h₁=>Sat h₁ (aZ v (bk l p (m.take (q-p)))::X::S):=by
 obtain ⟨h₁,e1,e2⟩:=Fw s hX ZW hq hm
 refine OpR.builtin I hc ha ⟨.int .i64 (min m.length (q-p):Nat),h₁,?_,e2⟩
 simp only [builtinV,hP,J,e1]
theorem OpR.EA {S:List au}{n:Nat}{ps:Array (Nat×Operand)}(J:C.P=Tryz.prog)(s:Sat h S)(I:o.op=.buildSlice t 1 ps)(ht:t=28)(hx:lookParts E ps.toList=some [(0,.int .u8 (n:Int))])(hn:n<256): OpR C E h o fun v' h₁=>Sat h₁ (aZ v' [n]::S):=by
 obtain ⟨v',h₁,e1,e2⟩:=LK s hn
 exact OpR.of (by rw [I,ht,J]; exact mD hx e1) e2
end
section
variable {α:Type}
def lookL (n:Int): List (Int×α)→Option α
 | []=>none
 | e::l=>if e.1=n then some e.2 else lookL n l
def dO (n:Int)(a:α): List (Int×α)→List (Int×α)
 | []=>[(n,a)]
 | e::l=>if e.1=n then (n,a)::l else e::dO n a l
def mE (n:Int): List (Int×α)→List (Int×α)
 | []=>[]
 | e::l=>if e.1=n then l else e::mE n l
theorem qA {n k:Int}{a:α}: ∀l:List (Int×α),lookL k (dO n a l)=if n=k then some a else lookL k l:=by
 intro l
 induction l with
 | nil=>simp [dO,lookL]
 | cons e l J =>
  simp only [dO]
  by_cases he:e.1=n
  ·rw [aq he]
   simp only [lookL]
   by_cases I:n=k
   ·simp [I]
   ·have:¬ e.1=k:=fun h=>I (by rw [←he,h])
    simp [I,this]
  ·rw [ah he]
   simp only [lookL,J]
   by_cases I:e.1=k
   ·have:¬ n=k:=fun h=>he (by rw [I,h])
    simp [I,this]
   ·simp [I]
theorem kC {n:Int}: ∀ {l:List (Int×α)},lookL n l=none↔n∉l.map (·.1):=by
 intro l
 induction l with
 | nil=>simp [lookL]
 | cons e l I =>
  simp only [lookL,bQ,ij,not_or]
  by_cases he:e.1=n
  ·simp [he]
  ·rw [ah he,I]
   exact ⟨fun h=>⟨fun J=>he J.symm,h⟩,fun h=>h.2⟩
theorem DJ {n k:Int}: ∀ {l:List (Int×α)},(l.map (·.1)).Nodup→lookL k (mE n l)=if n=k then none else lookL k l:=by
 intro l
 induction l with
 | nil=>simp [mE,lookL]
 | cons e l ih =>
  intro J
  simp only [bQ,k8] at J
  simp only [mE]
  by_cases he:e.1=n
  ·rw [aq he]
   by_cases I:n=k
   ·rw [aq I,←I,kC,←he]; exact J.1
   ·have:¬ e.1=k:=fun h=>I (by rw [←he,h])
    simp [lookL,I,this]
  ·rw [ah he]
   simp only [lookL,ih J.2]
   by_cases I:e.1=k
   ·have:¬ n=k:=fun h=>he (by rw [I,h])
    simp [I,this]
   ·simp [I]
theorem sX {n:Int}{a:α}: ∀ {l:List (Int×α)} {k:Int},k∈(dO n a l).map (·.1)↔k=n∨k∈l.map (·.1):=by
 intro l
 induction l with
 | nil=>intro k; simp [dO]
 | cons e l I =>
  intro k
  simp only [dO]
  by_cases he:e.1=n
  ·rw [aq he]; simp [he]
  ·rw [ah he]
   simp only [bQ,ij,I]
   constructor
   ·rintro (h | h | h) <;> simp [h]
   ·rintro (h | h | h) <;> simp [h]
theorem lS {n:Int}{a:α}: ∀ {l:List (Int×α)},(l.map (·.1)).Nodup→((dO n a l).map (·.1)).Nodup:=by
 intro l
 induction l with
 | nil=>simp [dO]
 | cons e l J =>
  intro I
  simp only [bQ,k8] at I
  simp only [dO]
  by_cases he:e.1=n
  ·rw [aq he]; simp only [bQ,k8]; rw [←he]; exact I
  ·rw [ah he]
   simp only [bQ,k8]
   refine ⟨fun h => ?_,J I.2⟩
   rcases sX.1 h with h | h
   ·exact he h
   ·exact I.1 h
theorem Oh {n:Int}: ∀ {l:List (Int×α)} {k:Int},k∈(mE n l).map (·.1)→k∈l.map (·.1):=by
 intro l
 induction l with
 | nil=>intro k h; exact h
 | cons e l I =>
  intro k h
  simp only [mE] at h
  by_cases he:e.1=n
  ·rw [aq he] at h; simp only [bQ,ij]; exact .inr h
  ·rw [ah he] at h
   simp only [bQ,ij] at h ⊢
   exact h.imp_right I
theorem vZ {n:Int}: ∀ {l:List (Int×α)},(l.map (·.1)).Nodup→((mE n l).map (·.1)).Nodup:=by
 intro l
 induction l with
 | nil=>simp [mE]
 | cons e l J =>
  intro I
  simp only [bQ,k8] at I
  simp only [mE]
  by_cases he:e.1=n
  ·rw [aq he]; exact I.2
  ·rw [ah he]
   simp only [bQ,k8]
   exact ⟨fun h=>I.1 (Oh h),J I.2⟩
def eM (f:V→α→au): cE→List (Int×α)→au
 | [],[]=>.pu True
 | e::l,x::m=>.an (.an (.pu (e.1=x.1)) (f e.2.1 x.2)) (eM f l m)
 | _,_=>.pu False
variable {f:V→α→au} {a b:PM}
theorem rA : ∀ {l:cE} {m:List (Int×α)},(eM f l m).p a b→l.map (·.1)=m.map (·.1):=by
 intro l
 induction l with
 | nil=>intro m h; cases m with
  | nil=>rfl
  | cons x m=>exact h.elim
 | cons e l I=>intro m h; cases m with
  | nil=>exact h.elim
  | cons x m=>simp only [bQ]; rw [h.1.1,I h.2]
theorem rB {n:Int}: ∀ {l:cE} {m:List (Int×α)},(eM f l m).p a b→(lookE n l=none∧lookL n m=none)∨∃u x,lookE n l=some u∧lookL n m=some x∧(f u x).p a b:=by
 intro l
 induction l with
 | nil=>intro m h; cases m with
  | nil=>exact .inl ⟨rfl,rfl⟩
  | cons x m=>exact h.elim
 | cons e l J=>intro m h; cases m with
  | nil=>exact h.elim
  | cons x m =>
   obtain ⟨⟨I,h2⟩,h3⟩:=h
   have I:e.1=x.1:=I
   simp only [lookE,lookL,←I]
   by_cases he:e.1=n
   ·rw [aq he,aq he]; exact .inr ⟨_,_,rfl,rfl,h2⟩
   ·rw [ah he,ah he]; exact J h3
theorem LM {n:Int}{u:V}{x:α}{c:Nat}(hu:(f u x).p a b): ∀ {l:cE} {m:List (Int×α)},(eM f l m).p a b→(eM f (mU n u c l) (dO n x m)).p a b:=by
 intro l
 induction l with
 | nil=>intro m h; cases m with
  | nil=>exact ⟨⟨rfl,hu⟩,aa⟩
  | cons x m=>exact h.elim
 | cons e l ih=>intro m h; cases m with
  | nil=>exact h.elim
  | cons y m =>
   obtain ⟨⟨I,h2⟩,J⟩:=h
   have I:e.1=y.1:=I
   simp only [mU,dO,←I]
   by_cases he:e.1=n
   ·rw [aq he,aq he]; exact ⟨⟨he,hu⟩,J⟩
   ·rw [ah he,ah he]; exact ⟨⟨I,h2⟩,ih J⟩
theorem LN {n:Int}: ∀ {l:cE} {m:List (Int×α)},(eM f l m).p a b→(eM f (lQ n l) (mE n m)).p a b:=by
 intro l
 induction l with
 | nil=>intro m h; cases m with
  | nil=>trivial
  | cons x m=>exact h.elim
 | cons e l ih=>intro m h; cases m with
  | nil=>exact h.elim
  | cons y m =>
   obtain ⟨⟨I,h2⟩,J⟩:=h
   have I:e.1=y.1:=I
   simp only [lQ,mE,←I]
   by_cases he:e.1=n
   ·rw [aq he,aq he]; exact J
   ·rw [ah he,ah he]; exact ⟨⟨I,h2⟩,ih J⟩
theorem aX.JS (I:∀u x,aX (f u x)): ∀(l:cE) (m:List (Int×α)),aX (eM f l m):=by
 intro l
 induction l with
 | nil=>intro m; cases m <;> exact aX.pu _
 | cons e l J=>intro m; cases m with
  | nil=>exact aX.pu _
  | cons x m=>exact aX.an (aX.an (aX.pu _) (I _ _)) (J m)
def gv (c:Nat): Nat→cE→Prop
 | _,[]=>True
 | b,e::l=>b≤e.2.2∧e.2.2<c∧gv c (e.2.2+1) l
theorem BE {c:Nat}: ∀ {l:cE} {b I:Nat},I≤b→gv c b l→gv c I l:=by
 intro l
 cases l with
 | nil=>intro b I _ _; trivial
 | cons e l=>intro b I h J; exact ⟨cu h J.1,J.2⟩
theorem LO {c n:Nat}{k:Int}{u:V}(hn:n=c): ∀ {l:cE} {b:Nat},b≤c→gv c b l→gv (clkE k c l) b (mU k u n l):=by
 subst hn
 intro l
 induction l with
 | nil=>intro b J _; simp only [mU,clkE,lookE]; exact ⟨J,yO _,aa⟩
 | cons e l ih =>
  intro b J h
  have I:=ih (b:=e.2.2+1) (by have:=h.2.1; omega) h.2.2
  simp only [clkE] at I
  by_cases he:e.1=k
  ·simp only [mU,clkE,lookE,aq he]; exact h
  ·simp only [mU,clkE,lookE,ah he]
   refine ⟨h.1,?_,I⟩
   have:=h.2.1
   split <;> omega
theorem LP {c:Nat}{k:Int}: ∀ {l:cE} {b:Nat},gv c b l→gv c b (lQ k l):=by
 intro l
 induction l with
 | nil=>intro b h; exact h
 | cons e l I =>
  intro b h
  simp only [lQ]
  by_cases he:e.1=k
  ·rw [aq he]; exact BE (by have:=h.1; omega) h.2.2
  ·rw [ah he]; exact ⟨h.1,h.2.1,I h.2.2⟩
def jV (f:V→α→au)(v:V)(m:List (Int×α)): au :=
 xs fun id:Nat=>xs fun l:cE=>xs fun c:Nat=>star [.pu (v=.map id∧gv c 0 l∧(m.map (·.1)).Nodup),gQ id l c,eM f l m]
section
variable {P:Program} {h h':H} {S:List au} {v u z:V} {t kt et:TypeId} {k:IntKind} {m:List (Int×α)} {n:Int} {x:α}
theorem ej : Sat h (jV f v m::S)↔∃id l c,v=.map id∧gv c 0 l∧(m.map (·.1)).Nodup∧Sat h (gQ id l c::eM f l m::S):=by
 simp only [jV,kz,cq,gy,dn,sS,and_assoc,gQ]
theorem oB (hf:∀u x,aX (f u x))(s:Sat h (jV f v m::S))(hu:P.underlying t=some (.map kt et))(hk:P.underlying kt=some (.int k))(hz:zeroT P et=some z):
  (lookL n m=none∧eB P h t v (.int .i64 n) true=some (.aY [z,.bool false])∧eB P h t v (.int .i64 n) false=some z) ∨
  ∃u x,lookL n m=some x∧eB P h t v (.int .i64 n) true=some (.aY [u,.bool true])∧eB P h t v (.int .i64 n) false=some u∧Sat h (f u x::jV f v m::S):=by
 obtain ⟨id,l,c,rfl,hb,hn,s1⟩:=ej.1 s
 have e2:=s1.V2 (n:=n) (j:=0) rfl hu hk hz
 have e1:=s1.V3 (n:=n) (j:=0) rfl hu hk hz
 obtain ⟨a,b,q1,q2,q3⟩:=s1.at (k:=1) rfl
 rcases rB (n:=n) q3 with ⟨g1,g2⟩ | ⟨u,x,g1,g2,g3⟩
 ·rw [g1] at e1 e2; exact .inl ⟨g2,e2,e1⟩
 ·rw [g1] at e1 e2
  refine .inr ⟨u,x,g2,e2,e1,?_⟩
  have s2:Sat h (eM f l m::gQ id l c::S):=s1.oR [1]
  have s3:=s2.dup (aX.JS hf l m)
  have s4:Sat h (f u x::eM f l m::gQ id l c::S):=s3.iU fun a' b' h'=>by
   rcases rB (n:=n) h' with ⟨I,_⟩ | ⟨u',x',I,J,Uj⟩
   ·rw [g1] at I; cases I
   ·rw [g1] at I; rw [g2] at J; injection I with I; injection J with J; subst I; subst J; exact Uj
  have s5:Sat h (gQ id l c::eM f l m::f u x::S):=s4.oR [2,1]
  exact (ej.2 ⟨id,l,c,rfl,hb,hn,s5⟩:Sat h (jV f (.map id) m::f u x::S)).oR [1]
theorem nQ (J:∀u x,aX (f u x))(s:Sat h (f u x::jV f v m::S))(hu:P.underlying t=some (.map kt et))(hk:P.underlying kt=some (.int k)):
  ∃h',mapUpdateV P h t v (.int .i64 n) u=some h'∧Sat h' (jV f v (dO n x m)::S):=by
 have s0:Sat h (jV f v m::f u x::S):=s.oR [1]
 obtain ⟨id,l,c,rfl,hb,hn,s1⟩:=ej.1 s0
 obtain ⟨h',e1,I⟩:=s1.update (n:=n) (v:=u) (j:=0) rfl hu hk
 refine ⟨h',e1,?_⟩
 have I:Sat h' (gQ id (mU n u c l) (clkE n c l)::eM f l m::f u x::S):=I
 have e3:Sat h' (f u x::eM f l m::gQ id (mU n u c l) (clkE n c l)::S):=I.oR [2,1]
 have e4:Sat h' (eM f (mU n u c l) (dO n x m)::gQ id (mU n u c l) (clkE n c l)::S):=e3.map fun a b h=>by
  obtain ⟨p1,p2,d1,d2,d3,d4,p3,p4,d5,d6,d7,d8,d9⟩:=h
  exact ⟨fun _=>none,p4,fun _=>.inl rfl,fun _ _ h=>(by cases h),PM.le_trans d7 d3,LM (J _ _ _ _ d4) (aX.JS J _ _ _ _ d8),d9⟩
 exact ej.2 ⟨id,_,_,rfl,LO rfl (gV _) hb,lS hn,e4.oR [1]⟩
theorem Oi (s:Sat h (jV f v m::S))(hu:P.underlying t=some (.map kt et))(J:P.underlying kt=some (.int k)):
  ∃h',mo P h t v (.int .i64 n)=some h'∧Sat h' (jV f v (mE n m)::S):=by
 obtain ⟨id,l,c,rfl,hb,hn,s1⟩:=ej.1 s
 obtain ⟨h',e1,I⟩:=s1.delete (n:=n) (j:=0) rfl hu J
 refine ⟨h',e1,?_⟩
 have I:Sat h' (gQ id (lQ n l) c::eM f l m::S):=I
 have e3:Sat h' (eM f l m::gQ id (lQ n l) c::S):=I.oR [1]
 have e4:Sat h' (eM f (lQ n l) (mE n m)::gQ id (lQ n l) c::S):=e3.iU fun a b h=>LN h
 exact ej.2 ⟨id,_,_,rfl,LP hb,vZ hn,e4.oR [1]⟩
theorem FA (s:Sat h (jV f v m::S))(hu:P.underlying t=some (.map kt et)): lenV P h t v=some (.int .i64 (m.length:Int)):=by
 obtain ⟨id,l,c,rfl,J,hn,s1⟩:=ej.1 s
 have e:=s1.Yl (j:=0) rfl hu
 obtain ⟨a,b,q1,q2,I⟩:=s1.at (k:=1) rfl
 have:=fQ List.length (rA I)
 simp only [dF] at this
 rw [this] at e
 exact e
theorem sY {id:Nat}(s:Sat h (pt id (.map [] 0)::S)): Sat h (jV f (.map id) []::S):=by
 have s1:Sat h (eM f [] []::pt id (.map [] 0)::S):=s.gr aa
 exact ej.2 ⟨id,[],0,rfl,aa,by simp,s1.oR [1]⟩
theorem xJ {j:Nat}(s:Sat h S)(I:getA S j=some (jV f v m)): ∃id,v=.map id:=by
 have s1:=s.take j I
 obtain ⟨id,l,c,rfl,_⟩:=ej.1 s1
 exact ⟨id,rfl⟩
end
end
theorem OpR.delete {C:cB}{E:List (Nat×V)}{h:H}{o:Oper}{S':List au}{cl:Go.Call}{t u:TypeId}{m k:V}(I:o.op=.call cl)(hc:cl.callee=.builtin .delete)(J:cl.argTypes = #[t,u])(ha:lookArgs E cl.args.toList=some [m,k])
 (ho:∃h₁,mo C.P h t m k=some h₁∧Sat h₁ S'): OpR C E h o fun _ h₁=>Sat h₁ S':=by
 obtain ⟨h₁,e1,e2⟩:=ho
 refine OpR.builtin I hc ha ⟨.aY [],h₁,?_,e2⟩
 simp only [builtinV,J,e1,iI]
end Go.Proofs.YtefepnnfphdkpaaGreat.Am
namespace Go.Proofs.YtefepnnfphdkpaaGreat.Am
open Go Go.Maps Go.RowKit
def keyInts : List (V×V×Nat)→Option (List Int)
 | []=>some []
 | (.int .i64 n,_,_)::l=>cond (Lit.int .i64 n).wf (match keyInts l with
  | some m=>some (n::m)
  | none=>none) none
 | _=>none
def bornUp (clock:Nat): Nat→List (V×V×Nat)→Bool
 | _,[]=>true
 | b,(_,_,x)::l=>cond (Nat.ble b x&&Nat.blt x clock) (bornUp clock (x+1) l) false
def insI (x:Int): List Int→List Int
 | []=>[x]
 | y::l=>cond (decide (x≤y)) (x::y::l) (y::insI x l)
def mF : List Int→List Int
 | []=>[]
 | x::l=>insI x (mF l)
def qB : List Int→Bool
 | []=>true
 | x::l=>l.all (fun y=>decide (x<y))&&qB l
def eT (l:List Int): List V:=l.map (V.int .i64)
noncomputable def toldSorted (gs:List Nat): List V→H→Option (V×H)
 | [.fn (.func g) [] [.ptr b 0]],h=>match h.tr.get b with
  | some (.cells n [.map id] false)=>match h.tr.get id with
   | some (.map es clock)=>cond (Nat.beq n 1&&vD gs g&&bornUp clock 0 es&&Nat.ble es.length 1048576) (match keyInts es with
    | some ks=>cond (qB (mF ks)) (match ks with
     | []=>some (.bu,h)
     | _=>some (.sl h.next 0 ks.length (.rest 1 0),newRow h (eT (mF ks)))) none
    | none=>none) none
   | _=>none
  | _=>none
 | _,_=>none
theorem xK (x:Int): ∀l:List Int,(insI x l).Perm (x::l)
 | []=>.refl _
 | y::l=>by
  simp only [insI]
  cases decide (x≤y) with
  | true=>exact .refl _
  | false=>exact ((xK x l).cons y).trans (.swap x y l)
theorem e_ : ∀l:List Int,(mF l).Perm l
 | []=>.refl _
 | x::l=>(xK x _).trans ((e_ l).cons x)
theorem DL : ∀l:List Int,qB l=true→l.Pairwise (· < ·)
 | [],_=>.nil
 | x::l,h=>by
  simp only [qB,aJ,m9,eu] at h
  exact List.pairwise_cons.2 ⟨h.1,DL l h.2⟩
theorem vu : ∀ {l m:List Int},l.Perm m→l.Pairwise (· ≤ ·)→m.Pairwise (· ≤ ·)→l=m
 | [],m,I,_,_=>I.nil_eq
 | a::r,[],I,_,_=>absurd I.symm.nil_eq (by simp)
 | a::r,b::s,I,h1,h2=>by
  obtain ⟨a1,a2⟩:=List.pairwise_cons.1 h1
  obtain ⟨b1,b2⟩:=List.pairwise_cons.1 h2
  have J:a=b:=by
   have ha:a∈b::s:=I.mem_iff.1 (by simp)
   have hb:b∈a::r:=I.mem_iff.2 (by simp)
   have l1:b≤a:=by
    rcases List.mem_cons.1 ha with h | h
    ·omega
    ·exact b1 a h
   have l2:a≤b:=by
    rcases List.mem_cons.1 hb with h | h
    ·omega
    ·exact a1 b h
   omega
  subst J
  rw [vu (List.Perm.cons_inv I) a2 b2]
theorem DM {clock:Nat}: ∀(l:List (V×V×Nat)) (b:Nat),bornUp clock b l=true→(∀x∈l,b≤x.2.2∧x.2.2<clock)∧(l.map (·.2.2)).Nodup
 | [],_,_=>⟨by simp,by simp⟩
 | (k,v,x)::l,b,h=>by
  simp only [bornUp] at h
  cases J:(Nat.ble b x&&Nat.blt x clock) with
  | false=>rw [J] at h; cases h
  | true =>
   rw [J,ag] at h
   simp only [aJ,aF,gB] at J
   obtain ⟨i1,i2⟩:=DM l (x+1) h
   refine ⟨fun y I => ?_,?_⟩
   ·rcases List.mem_cons.1 I with rfl | I
    ·exact J
    ·have:=i1 y I; omega
   ·simp only [bQ,k8,m_,not_exists,not_and]
    exact ⟨fun y I e=>by have:=i1 y I; omega,i2⟩
theorem BF {c:Ctx}: ∀(l:List (V×V×Nat)) (ks:List Int),keyInts l=some ks→l.map (fun x=>conc c x.1)=ks.map (Value.int .i64)∧∀n∈ks,(Lit.int .i64 n).wf=true
 | [],ks,h=>by simp [keyInts] at h; subst h; simp
 | (k,v,b)::l,ks,h=>by
  unfold keyInts at h
  split at h
  ·rename_i he; cases he
  ·rename_i n v' J l' he
   simp only [uS,aC] at he
   obtain ⟨⟨rfl,rfl,rfl⟩,rfl⟩:=he
   cases hw:(Lit.int .i64 n).wf with
   | false=>simp [hw] at h
   | true =>
    cases hm:keyInts l with
    | none=>simp [hw,hm] at h
    | some m =>
     simp [hw,hm] at h
     subst h
     obtain ⟨i1,i2⟩:=BF (c:=c) l m hm
     refine ⟨by simp [conc,i1],fun x I => ?_⟩
     rcases List.mem_cons.1 I with rfl | I
     ·exact hw
     ·exact i2 x I
  ·cases h
section
variable {c:Ctx} {σ:H} {w w':World}
theorem Rel.below (h:Rel c σ w)(I:Below w.heap.size w w'): Rel c σ w'∧cF c w c w':=by
 have rows:∀b,b<w.heap.size→rowSize w' b=rowSize w b:=fun b J=>by unfold rowSize; rw [I.block b J]
 refine ⟨⟨h.next,h.live,fun id hi=>ie (h.kP id hi) I.size,fun id hi=>by rw [rows _ (h.kP id hi)]; exact h.zz id hi,h.inj,
  fun id o ho=>(h.obj id o ho).later (Ext.refl c) (h.live id o ho) (I.block _ (h.kP id (h.live id o ho))),h.one,h.fx⟩,
  ⟨Ext.refl c,I.size,rows,fun b J _=>I.block b J,fun id h1 h2=>by omega,I.os,I.output⟩⟩
theorem Rel.take {b:Nat}{cs:List V}{C:Array Value}{T:TypeId}(h:Rel c σ w)(hb:b<w.heap.size)(hr:∀id,id<c.N→(c.ρ id).1≠b)(lI:∀v∈cs,wf c v∧storable v=true)
 (hg:w.heap[b]?=some (.cells C T (0,0)))(hC:C.toList.take cs.length=cs.map (conc c)): Rel (c.grow b 0 C.size) (Am.newRow σ cs) w:=by
 have e:=qm hr 0 C.size
 have hN:(c.grow b 0 C.size).N=c.N+1:=rfl
 have hle:cs.length≤C.size:=by
  have:=fQ List.length hC
  simp at this
  omega
 have key:∀i o,(Am.newRow σ cs).tr.get i=some o→(i=c.N∧o=.cells cs.length cs false)∨(i<c.N∧σ.tr.get i=some o):=by
  intro i o hi
  rw [Am.newRow,fA,h.next] at hi
  by_cases J:i=c.N
  ·simp [J] at hi; exact .inl ⟨J,hi.symm⟩
  ·simp [J] at hi; exact .inr ⟨h.live i o hi,hi⟩
 refine ⟨by simp [Am.newRow,H.new,Ctx.grow,h.next],fun i o hi => ?_,fun i hi => ?_,fun i hi => ?_,fun i j o o' hi hj he => ?_,fun i o hi => ?_,fun i og mN hi hx => ?_,fun i o hi hx => ?_⟩
 ·rw [hN]; rcases key i o hi with ⟨J,_⟩ | ⟨J,_⟩ <;> omega
 ·rw [hN] at hi
  by_cases J:i=c.N
  ·subst J; rw [bh]; exact hb
  ·rw [cQ c _ _ _ (by omega)]; exact h.kP i (by omega)
 ·rw [hN] at hi
  by_cases J:i=c.N
  ·subst J; rw [bh]; simp [Ctx.grow,rowSize,hg]
  ·rw [cQ c _ _ _ (by omega),←h.zz i (by omega)]; simp [Ctx.grow,hr i (by omega)]
 ·rcases key i o hi with ⟨I,_⟩ | ⟨I,a2⟩ <;> rcases key j o' hj with ⟨b1,_⟩ | ⟨b1,b2⟩
  ·exact .inl (by omega)
  ·subst I; rw [bh,cQ c _ _ _ b1] at he; exact absurd he.symm (hr j b1)
  ·subst b1; rw [bh,cQ c _ _ _ I] at he; exact absurd he (hr i I)
  ·rw [cQ c _ _ _ I,cQ c _ _ _ b1] at he; rw [fH c _ _ _ I,fH c _ _ _ b1]; exact h.inj i j _ _ a2 b2 he
 ·rcases key i o hi with ⟨rfl,rfl⟩ | ⟨I,a2⟩
  ·refine ⟨rfl,fun v hv=>⟨(b_ e v (lI v hv).1).2,(lI v hv).2⟩,C,T,(0,0),by rw [bh]; exact hg,by rw [bh]; simpa using hle,fun j v hj => ?_,rfl⟩
   rw [bh,(b_ e v (lI v (a_ hj)).1).1]
   have W8:j<cs.length:=(List.getElem?_eq_some_iff.1 hj).1
   have J:(C.toList.take cs.length)[j]?=some (conc c v):=by rw [hC]; simp [hj]
   rw [kX,aq W8,iG] at J
   simpa using J
  ·exact (h.obj i o a2).later e I rfl
 ·rcases key i _ hi with ⟨rfl,_⟩ | ⟨I,a2⟩
  ·rw [bh]
  ·rw [fH c _ _ _ I] at hx
   rw [cQ c _ _ _ I]; exact h.one i og mN a2 hx
 ·rcases key i o hi with ⟨rfl,_⟩ | ⟨I,a2⟩
  ·rw [vH] at hx; cases hx
  ·rw [fH c _ _ _ I] at hx; exact h.fx i o a2 hx
def nJ (_:Value): Option (DataW Unit×List MemPlace):=some (.nil,[])
def DN (P:Program)(f K:Nat)(gs:List Nat): Prop:=∀g∈gs,∀(Bm b nn:Nat) (I:DataW Unit) (w:World),Bm<w.heap.size→w.cell? ⟨Bm,0,none⟩=some (.map (some b)) →
 w.ownsMap P K nJ b nn I→Maps.size I≤maxLen→Maps.size I*8≤140737488355328 →
 Calls P f #[.func (.func g) #[] #[.pointer (some ⟨Bm,0,none⟩)]] w fun e w'=>∃(v:Value) (J:List Int),e=.returned v∧J.Perm (intKeys I) ∧
  w'.ownsRow w.heap.size K 1 v J.length ((J.mergeSort (fun x y=>decide (x≤y))).map encZ)∧(v=.slice none 0 0↔J=[])∧Below w.heap.size w w'
theorem Ei {P:Program}{f K:Nat}{gs:List Nat}(hK:P.underlying K=some (.int .i64))(hS:DN P f K gs){args:List V}{v:V}{eL:H}(I:toldSorted gs args σ=some (v,eL))
 (h:Rel c σ w): fI P f args c w v eL:=by
 unfold toldSorted at I
 split at I
 ·rename_i g b
  split at I
  ·rename_i n id Qq
   split at I
   ·rename_i es clock ZX
    cases hq:(Nat.beq n 1&&vD gs g&&bornUp clock 0 es&&Nat.ble es.length 1048576) with
    | false=>simp [hq] at I
    | true =>
     rw [hq,ag] at I
     simp only [aJ,beq_iff,aF,AG] at hq
     obtain ⟨⟨⟨q1,q2⟩,q3⟩,q4⟩:=hq
     subst q1
     cases hk:keyInts es with
     | none=>simp [hk] at I
     | some ks =>
      simp only [hk] at I
      cases J:qB (mF ks) with
      | false=>simp [J] at I
      | true =>
       simp only [J,ag] at I
       obtain ⟨k1,k2⟩:=BF (c:=c) es ks hk
       obtain ⟨b1,b2⟩:=DM es 0 q3
       have hlen:ks.length=es.length:=by simpa using (congrArg List.length k1).symm
       have bC:=DL _ J
       have vb:ks.Nodup:=(e_ ks).nodup_iff.1 (bC.imp fun {a b} lY=>by omega)
       have Qr:=h.one b _ _ Qq (h.w5 Qq (by intro _ _ he; cases he))
       have tH:=cell_of h Qq (j:=0) (v:=.map id) rfl
       have Ym:eX c b 0=⟨(c.ρ b).1,0,none⟩:=by simp [eX,Qr]
       rw [Ym] at tH
       have Ul:w.cell? ⟨(c.ρ b).1,0,none⟩=some (.map (some (c.ρ id).1)):=by simpa [conc] using tH
       obtain ⟨m1,m2⟩:=h.obj id _ ZX
       have Qs:∀x∈es,∃n,n∈ks∧(bY c x).key=.int .i64 n:=fun x hx=>by
        have:conc c x.1∈ks.map (Value.int .i64):=by rw [←k1]; exact List.mem_map.2 ⟨x,hx,rfl⟩
        obtain ⟨n,hn,he⟩:=List.mem_map.1 this
        exact ⟨n,hn,he.symm⟩
       have iT:∀x∈es,∀n,(bY c x).key=.int .i64 n→n∈ks→WideElems.rd P K nJ (bY c x)=some (.int .i64 n,.nil):=fun x hx n hn hm=>by
        simp [WideElems.rd,hn,Maps.keyOf_int_mk hK (k2 n hm),nJ]
       have Yn:w.ownsMap P K nJ (c.ρ id).1 es.length (.map (((es.map (bY c)).toArray.toList.map (WideElems.rg P K nJ)).foldr DataW.insert [])):=by
        refine ⟨(es.map (bY c)).toArray,clock,m2,⟨by simp [maxLen]; omega,⟨fun x hx => ?_,?_,?_⟩,fun x hx => ?_⟩,by simp,rfl⟩
        ·simp only [m_] at hx
         obtain ⟨y,hy,rfl⟩:=hx
         exact (b1 y hy).2
        ·simpa [bY,uM] using b2
        ·have:(es.map (bY c)).toArray.toList.map (·.key)=ks.map (Value.int .i64):=by rw [←k1]; simp [bY,uM]
         rw [this]
         exact List.pairwise_map.2 (vb.imp fun {a b} dz e=>dz (by simpa using e))
        ·simp only [m_] at hx
         obtain ⟨y,hy,rfl⟩:=hx
         obtain ⟨n,hn,he⟩:=Qs y hy
         exact ⟨_,iT y hy n he hn⟩
       have fC:Maps.size (H:=Unit) (.map (((es.map (bY c)).toArray.toList.map (WideElems.rg P K nJ)).foldr DataW.insert []))=es.length:=by
        rw [Maps.size_eq,(WideShapes.sorted_perm _).length_eq]; simp
       have V4:(intKeys (H:=Unit) (.map (((es.map (bY c)).toArray.toList.map (WideElems.rg P K nJ)).foldr DataW.insert []))).Perm ks:=by
        refine ((WideShapes.sorted_perm _).map _).trans ?_
        have:(((es.map (bY c)).toArray.toList.map (WideElems.rg P K nJ)).map fun p=>intOf p.1)=ks:=by
         have W9:∀x∈es,Value.int .i64 (intOf (WideElems.rg P K nJ (bY c x)).1)=conc c x.1:=fun x hx=>by
          obtain ⟨n,hn,he⟩:=Qs x hx
          rw [WideElems.rg_of (iT x hx n he hn)]
          exact he.symm
         have h1:((((es.map (bY c)).toArray.toList.map (WideElems.rg P K nJ)).map fun p=>intOf p.1).map (Value.int .i64))=ks.map (Value.int .i64):=by
          rw [←k1]
          simp only [yU]
          exact nZ fun x hx=>W9 x hx
         exact List.map_inj_right (fun x y e=>by simpa using e) |>.1 h1
        rw [this]
       have V5:=hS g q2 (c.ρ b).1 (c.ρ id).1 es.length _ w (h.kP b (h.live b _ Qq)) Ul Yn (by rw [fC]; simp [maxLen]; omega) (by rw [fC]; omega)
       have EB:([V.fn (.func g) [] [.ptr b 0]].map (conc c)).toArray = #[.func (.func g) #[] #[.pointer (some ⟨(c.ρ b).1,0,none⟩)]]:=by simp [conc,concL,Qr]
       unfold fI
       rw [EB]
       refine V5.mono ?_
       rintro e w' ⟨rv,ss,rfl,s1,s2,s3,s4⟩
       obtain ⟨g1,g2⟩:=h.below s4
       have Qt:ss.Perm ks:=s1.trans V4
       have ZY:ss.mergeSort (fun x y=>decide (x≤y))=mF ks:=by
        refine vu (((List.mergeSort_perm ss _).trans Qt).trans (e_ ks).symm) ?_ (bC.imp fun {a b} lY=>by omega)
        have:=List.pairwise_mergeSort (le:=fun x y:Int=>decide (x≤y)) (fun a b c h1 h2=>by simp at h1 h2 ⊢; omega) (fun a b=>by simp; omega) ss
        exact this.imp fun {a b} lY=>by simpa using lY
       rw [ZY] at s2
       split at I
       ·-- no key
        have vP:ss=[]:=by simpa using Qt
        have hv:=s3.2 vP
        simp only [ak,aC] at I
        obtain ⟨rfl,rfl⟩:=I
        exact ⟨c,by rw [hv]; simp [conc],by simp [wf],g1,g2⟩
       ·rename_i dz
        simp only [ak,aC] at I
        obtain ⟨rfl,rfl⟩:=I
        have Yo:ss≠[]:=fun e=>by
         subst e
         exact dz (by simpa using Qt.symm)
        have ku:ss.length=ks.length:=Qt.length_eq
        rcases s2.2 with ⟨e1,_⟩ | ⟨gb,cap,cur,rfl,l1,l2,l3,l4,l5,l6⟩
        ·exact absurd (s3.1 e1) Yo
        have Yp:gb<w'.heap.size:=(Array.getElem?_eq_some_iff.1 l2).1
        have Aj:∀i,i<c.N→(c.ρ i).1≠gb:=fun i hi e=>by have:=h.kP i hi; omega
        have lI:∀x∈eT (mF ks),wf c x∧storable x=true:=fun x hx=>by
         obtain ⟨n,_,rfl⟩:=List.mem_map.1 hx
         simp [wf,storable]
        have tW:(eT (mF ks)).length=ks.length:=by simp [eT,(e_ ks).length_eq]
        have V6:cur.toList.take (eT (mF ks)).length=(eT (mF ks)).map (conc c):=by
         rw [tW,←ku]
         have:ss.length*1=ss.length:=cx _
         rw [this] at l6
         rw [l6]
         simp [eT,conc,encZ,uM]
        have R:=g1.take Yp Aj lI l2 V6
        have vK:(c.grow gb 0 cur.size).room σ.next 0 1=cap:=by
         simp only [Ctx.room,h.next,Ctx.grow,bE]
         simp [l5]
        refine ⟨c.grow gb 0 cur.size,?_,?_,R,g2.Ep Aj l1⟩
        ·simp only [conc,vK]
         simp [h.next,Ctx.grow,ku]
        ·simp only [wf,vK]
         exact ⟨by rw [h.next]; simp [Ctx.grow],aD _,by omega⟩
   ·cases I
  ·cases I
 ·cases I
end
end Go.Proofs.YtefepnnfphdkpaaGreat.Am
