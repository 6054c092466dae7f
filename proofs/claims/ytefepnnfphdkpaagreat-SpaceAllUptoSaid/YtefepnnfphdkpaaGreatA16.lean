/- SpaceAll: a part of its proof; conditions: its statement's. -/
import Derived.Test.YtefepnnfphdkpaaGreatA15
import Derived.Test.YtefepnnfphdkpaaGreatA11
import Derived.Shelf.SlIterI.Sorted
namespace Go.Proofs.YtefepnnfphdkpaaGreat.Am
open Go
abbrev fl := List (Int×V×Nat)
def rX (e:Int×V×Nat): V×V×Nat:=(.int .i64 e.1,e.2)
def lookE (n:Int): fl→Option V
 | []=>none
 | e::l=>if e.1=n then some e.2.1 else lookE n l
def kA (n:Int)(v:V)(c:Nat): fl→fl
 | []=>[(n,v,c)]
 | e::l=>if e.1=n then (e.1,v,e.2.2)::l else e::kA n v c l
def mO (n:Int): fl→fl
 | []=>[]
 | e::l=>if e.1=n then l else e::mO n l
def clkE (n:Int)(c:Nat)(l:fl): Nat:=match lookE n l with
 | some _=>c
 | none=>c+1
abbrev iK (id:Nat)(l:fl)(c:Nat): au:=pt id (.map (l.map rX) c)
def idxE (n:Int): fl→Nat→Option (Nat×V)
 | [],_=>none
 | e::l,i=>if e.1=n then some (i,e.2.1) else idxE n l (i+1)
theorem kV (a b:Int): intBeq a b=decide (a=b):=by
 cases I:intBeq a b with
 | true=>simp [qB I]
 | false =>
  by_cases he:a=b
  ·subst he; rw [nK] at I; cases I
  ·simp [he]
theorem rY {k:IntKind}{n:Int}: ∀(l:fl) (i:Nat),findK (.int k) (.int .i64 n) (l.map rX) i=some (idxE n l i):=by
 intro l
 induction l with
 | nil=>intro i; rfl
 | cons e l I =>
  intro i
  simp only [bX,findK,rX,keyBeq,c6,af,kV,idxE]
  by_cases he:e.1=n
  ·have:n=e.1:=he.symm
   simp [this]
  ·have:decide (n=e.1)=false:=by simp; exact fun h=>he h.symm
   rw [this,ai he]
   exact I (i+1)
theorem nR {n:Int}: ∀(l:fl) (i:Nat),(idxE n l i).map (·.2)=lookE n l:=by
 intro l
 induction l with
 | nil=>intro i; rfl
 | cons e l I =>
  intro i
  simp only [idxE,lookE]
  by_cases he:e.1=n
  ·simp [he]
  ·simp only [ai he]; exact I (i+1)
theorem EU {n:Int}: ∀(l:fl) (i j:Nat) (v:V),idxE n l i=some (j,v)→i≤j:=by
 intro l
 induction l with
 | nil=>intro i j v h; cases h
 | cons e l I =>
  intro i j v h
  simp only [idxE] at h
  by_cases he:e.1=n
  ·rw [aq he] at h; injection h with h; injection h with J h2; omega
  ·rw [ai he] at h; have:=I _ _ _ h; omega
theorem QL {n:Int}{v:V}{c:Nat}: ∀(l:fl) (i j:Nat) (u:V),idxE n l i=some (j,u)→setNth (l.map rX) (j-i) (fun e=>(e.1,v,e.2.2))=(kA n v c l).map rX:=by
 intro l
 induction l with
 | nil=>intro i j u h; cases h
 | cons e l I =>
  intro i j u h
  simp only [idxE] at h
  simp only [kA,bX,setNth]
  by_cases he:e.1=n
  ·rw [aq he] at h; injection h with h; injection h with J h2
   subst J
   rw [aq he,rH]
   rfl
  ·rw [ai he] at h
   have h3:=EU _ _ _ _ h
   rw [ai he,cE (by omega),ay,show j-i-1=j-(i+1) by omega,I _ _ _ h]
   rfl
theorem Pw {n:Int}: ∀(l:fl) (i j:Nat) (u:V),idxE n l i=some (j,u)→iA (l.map rX) (j-i)=(mO n l).map rX:=by
 intro l
 induction l with
 | nil=>intro i j u h; cases h
 | cons e l I =>
  intro i j u h
  simp only [idxE] at h
  simp only [mO,bX,iA]
  by_cases he:e.1=n
  ·rw [aq he] at h; injection h with h; injection h with J h2
   subst J
   rw [aq he,rH]
   rfl
  ·rw [ai he] at h
   have h3:=EU _ _ _ _ h
   rw [ai he,cE (by omega),ay,show j-i-1=j-(i+1) by omega,I _ _ _ h]
   rfl
theorem MZ {n:Int}{v:V}{c:Nat}: ∀(l:fl),lookE n l=none→kA n v c l=l++[(n,v,c)]:=by
 intro l
 induction l with
 | nil=>intro _; rfl
 | cons e l I =>
  intro h
  simp only [lookE] at h
  by_cases he:e.1=n
  ·rw [aq he] at h; cases h
  ·rw [ai he] at h; simp only [kA,ai he,I h,gL]
theorem Ku {n:Int}: ∀(l:fl),lookE n l=none→mO n l=l:=by
 intro l
 induction l with
 | nil=>intro _; rfl
 | cons e l I =>
  intro h
  simp only [lookE] at h
  by_cases he:e.1=n
  ·rw [aq he] at h; cases h
  ·rw [ai he] at h; simp only [mO,ai he,I h]
section
variable {P:Program} {h h':H} {S:List au} {v z:V} {t kt et:TypeId} {k:IntKind} {id c j:Nat} {l:fl} {n:Int}
theorem Sat.QM (s:Sat h S)(I:getA S j=some (iK id l c))(hu:P.underlying t=some (.map kt et))(J:P.underlying kt=some (.int k))(hz:zeroT P et=some z):
  dI P h t (.map id) (.int .i64 n) true=some (match lookE n l with | some v=>.aX [v,.bool true] | none=>.aX [z,.bool false]):=by
 have hg:=s.row I
 simp only [dI,lookupV,hu,J,hz,hg,keyBeq,c6,af,rY]
 rw [←nR l 0]
 cases idxE n l 0 with
 | none=>rfl
 | some q=>rfl
theorem Sat.QN (s:Sat h S)(I:getA S j=some (iK id l c))(hu:P.underlying t=some (.map kt et))(J:P.underlying kt=some (.int k))(hz:zeroT P et=some z):
  dI P h t (.map id) (.int .i64 n) false=some (match lookE n l with | some v=>v | none=>z):=by
 have hg:=s.row I
 simp only [dI,lookupV,hu,J,hz,hg,keyBeq,c6,af,rY]
 rw [←nR l 0]
 cases idxE n l 0 with
 | none=>rfl
 | some q=>rfl
theorem Sat.update (s:Sat h S)(hj:getA S j=some (iK id l c))(hu:P.underlying t=some (.map kt et))(hk:P.underlying kt=some (.int k)):
  ∃h',mapUpdateV P h t (.map id) (.int .i64 n) v=some h'∧Sat h' (setA S j (iK id (kA n v c l) (clkE n c l))):=by
 have hg:=s.row hj
 refine ⟨h.put id (some (.map ((kA n v c l).map rX) (clkE n c l))),?_,s.put hj⟩
 simp only [mapUpdateV,hu,hk,hg,keyBeq,c6,af,rY]
 have I:=nR (n:=n) l 0
 cases J:idxE n l 0 with
 | none =>
  rw [J] at I
  have I:lookE n l=none:=I.symm
  simp only [clkE,I,MZ l I,List.map_append]
  rfl
 | some q =>
  obtain ⟨i,u⟩:=q
  rw [J] at I
  have I:lookE n l=some u:=I.symm
  simp only [clkE,I]
  rw [←QL (v:=v) (c:=c) l 0 i u J,iy]
theorem Sat.delete (s:Sat h S)(J:getA S j=some (iK id l c))(hu:P.underlying t=some (.map kt et))(hk:P.underlying kt=some (.int k)):
  ∃h',lZ P h t (.map id) (.int .i64 n)=some h'∧Sat h' (setA S j (iK id (mO n l) c)):=by
 have hg:=s.row J
 simp only [lZ,hu,hk,hg,keyBeq,c6,af,rY]
 have I:=nR (n:=n) l 0
 cases hq:idxE n l 0 with
 | none =>
  rw [hq] at I
  have I:lookE n l=none:=I.symm
  refine ⟨h,rfl,?_⟩
  rw [Ku l I]
  have:∀(S:List au) (j:Nat) (A:au),getA S j=some A→setA S j A=S:=by
   intro S
   induction S with
   | nil=>intro j A h; cases h
   | cons B S ih =>
    intro j A h
    cases j with
    | zero=>simp only [getA] at h; injection h with h; subst h; rfl
    | succ j=>simp only [getA] at h; simp only [setA,ih j A h]
  rw [this S j _ J]
  exact s
 | some q =>
  obtain ⟨i,u⟩:=q
  refine ⟨_,rfl,?_⟩
  have e:=Pw l 0 i u hq
  rw [iy] at e
  rw [e]
  exact s.put J
theorem Sat.SX (s:Sat h S)(I:getA S j=some (iK id l c))(hu:P.underlying t=some (.map kt et)): lenV P h t (.map id)=some (.int .i64 (l.length:Int)):=by
 have J:=s.row I
 simp only [lenV,hu,J,eM]
end
section
variable {C:bY} {E:List (Nat×V)} {h h':H} {o:Oper} {S':List au} {x y z:Operand} {a b v u:V} {t:TypeId} {cl:Go.Call}
theorem OpR.upd (I:∀env,iG env E→evOp C (ev C 0) env h o=(match mapUpdateV C.P h t a b v with | some h'=>some (bB,h') | none=>none))
 (ho:∃h₁,mapUpdateV C.P h t a b v=some h₁∧Sat h₁ S'): OpR C E h o fun _ h₁=>Sat h₁ S':=by
 obtain ⟨h₁,J,e2⟩:=ho
 exact ⟨bB,h₁,e2,fun env he=>⟨0,by rw [I env he,J]⟩⟩
theorem OpR.mapUpdate (I:o.op=.mapUpdate t x y z)(J:lookO E x=some a)(hy:lookO E y=some b)(hz:lookO E z=some v)
 (ho:∃h₁,mapUpdateV C.P h t a b v=some h₁∧Sat h₁ S'): OpR C E h o fun _ h₁=>Sat h₁ S':=by
 refine OpR.upd (t:=t) (a:=a) (b:=b) (v:=v) (fun env he => ?_) ho
 simp only [evOp,I,bD he J,bD he hy,bD he hz,kP]
 cases mapUpdateV C.P h t a b v <;> rfl
theorem OpR.builtin {args:List V}{bi:Builtin}{R:V→H→Prop}(I:o.op=.call cl)(J:cl.callee=.builtin bi)(ha:lookArgs E cl.args.toList=some args)(ho:∃v h₁,builtinV C.P h bi cl.argTypes args=some (v,h₁)∧R v h₁): OpR C E h o R:=by
 obtain ⟨v,h₁,e1,e2⟩:=ho
 refine OpR.of ?_ e2
 rw [I]
 simp only [opE,J,ha,e1]
theorem OpR.qU {l m:List Nat}{S:List au}{X:au}(hP:C.P=Tryz.prog)(s:Sat h (bg v l::X::S))(hX:cN X (cQ u m))(I:o.op=.call cl)(hc:cl.callee=.builtin .append)(J:cl.argTypes = #[28,28])(ha:lookArgs E cl.args.toList=some [v,u])
 (dW:l.length+m.length≤140737488355328): OpR C E h o fun v' h₁=>Sat h₁ (bg v' (l++m)::X::S):=by
 obtain ⟨v',h₁,e1,e2⟩:=Ge s hX dW
 refine OpR.builtin I hc ha ⟨v',h₁,?_,e2⟩
 simp only [builtinV,hP,J,e1]
theorem OpR.rZ {S:List au}{c:Nat}(J:C.P=Tryz.prog)(s:Sat h S)(I:o.op=.makeSlice t x y)(ht:t=28)(hx:lookO E x=some (.int .i64 0))(hy:lookO E y=some (.int .i64 (c:Int)))(hc:c<1073741824): OpR C E h o fun v' h₁=>Sat h₁ (bg v' []::S):=by
 obtain ⟨v',h₁,e1,e2⟩:=Ib s hc
 exact OpR.of (by rw [I,ht,J]; exact sN hx hy e1) e2
theorem OpR.BC {S:List au}{c:Nat}(J:C.P=Tryz.prog)(s:Sat h S)(I:o.op=.makeSlice t x y)(ht:t=28)(hx:lookO E x=some (.int .i64 (c:Int)))(hy:lookO E y=some (.int .i64 (c:Int)))(hc:c<1073741824): OpR C E h o fun v' h₁=>Sat h₁ (bg v' (List.replicate c 0)::S):=by
 obtain ⟨v',h₁,e1,e2⟩:=Ic s hc
 exact OpR.of (by rw [I,ht,J]; exact sN hx hy e1) e2
theorem OpR.QO {l m:List Nat}{S:List au}{X:au}{p q:Nat}(hP:C.P=Tryz.prog)(s:Sat h (bg v l::X::S))(hX:cN X (cQ u m))(I:o.op=.call cl)(hc:cl.callee=.builtin .copy)(J:cl.argTypes = #[28,28])(ha:lookArgs E cl.args.toList=some [slR v p q,u])
 (Ur:p<q)(hq:q≤l.length)(hm:1≤m.length): OpR C E h o fun _ h₁=>Sat h₁ (bg v (aR l p (m.take (q-p)))::X::S):=by
 obtain ⟨h₁,e1,e2⟩:=Cl s hX Ur hq hm
 refine OpR.builtin I hc ha ⟨.int .i64 (min m.length (q-p):Nat),h₁,?_,e2⟩
 simp only [builtinV,hP,J,e1]
theorem OpR.Gg {S:List au}{n:Nat}{ps:Array (Nat×Operand)}(J:C.P=Tryz.prog)(s:Sat h S)(I:o.op=.buildSlice t 1 ps)(ht:t=28)(hx:lookParts E ps.toList=some [(0,.int .u8 (n:Int))])(hn:n<256): OpR C E h o fun v' h₁=>Sat h₁ (bg v' [n]::S):=by
 obtain ⟨v',h₁,e1,e2⟩:=Ie s hn
 exact OpR.of (by rw [I,ht,J]; exact lP hx e1) e2
end
section
variable {α:Type}
def lookL (n:Int): List (Int×α)→Option α
 | []=>none
 | e::l=>if e.1=n then some e.2 else lookL n l
def dr (n:Int)(a:α): List (Int×α)→List (Int×α)
 | []=>[(n,a)]
 | e::l=>if e.1=n then (n,a)::l else e::dr n a l
def j5 (n:Int): List (Int×α)→List (Int×α)
 | []=>[]
 | e::l=>if e.1=n then l else e::j5 n l
theorem nT {n k:Int}{a:α}: ∀l:List (Int×α),lookL k (dr n a l)=if n=k then some a else lookL k l:=by
 intro l
 induction l with
 | nil=>simp [dr,lookL]
 | cons e l J =>
  simp only [dr]
  by_cases he:e.1=n
  ·rw [aq he]
   simp only [lookL]
   by_cases I:n=k
   ·simp [I]
   ·have:¬ e.1=k:=fun h=>I (by rw [←he,h])
    simp [I,this]
  ·rw [ai he]
   simp only [lookL,J]
   by_cases I:e.1=k
   ·have:¬ n=k:=fun h=>he (by rw [I,h])
    simp [I,this]
   ·simp [I]
theorem mP {n:Int}: ∀ {l:List (Int×α)},lookL n l=none↔n∉l.map (·.1):=by
 intro l
 induction l with
 | nil=>simp [lookL]
 | cons e l I =>
  simp only [lookL,bX,gn,not_or]
  by_cases he:e.1=n
  ·simp [he]
  ·rw [ai he,I]
   exact ⟨fun h=>⟨fun J=>he J.symm,h⟩,fun h=>h.2⟩
theorem A3 {n k:Int}: ∀ {l:List (Int×α)},(l.map (·.1)).Nodup→lookL k (j5 n l)=if n=k then none else lookL k l:=by
 intro l
 induction l with
 | nil=>simp [j5,lookL]
 | cons e l ih =>
  intro J
  simp only [bX,lW] at J
  simp only [j5]
  by_cases he:e.1=n
  ·rw [aq he]
   by_cases I:n=k
   ·rw [aq I,←I,mP,←he]; exact J.1
   ·have:¬ e.1=k:=fun h=>I (by rw [←he,h])
    simp [lookL,I,this]
  ·rw [ai he]
   simp only [lookL,ih J.2]
   by_cases I:e.1=k
   ·have:¬ n=k:=fun h=>he (by rw [I,h])
    simp [I,this]
   ·simp [I]
theorem qb {n:Int}{a:α}: ∀ {l:List (Int×α)} {k:Int},k∈(dr n a l).map (·.1)↔k=n∨k∈l.map (·.1):=by
 intro l
 induction l with
 | nil=>intro k; simp [dr]
 | cons e l I =>
  intro k
  simp only [dr]
  by_cases he:e.1=n
  ·rw [aq he]; simp [he]
  ·rw [ai he]
   simp only [bX,gn,I]
   constructor
   ·rintro (h | h | h) <;> simp [h]
   ·rintro (h | h | h) <;> simp [h]
theorem jM {n:Int}{a:α}: ∀ {l:List (Int×α)},(l.map (·.1)).Nodup→((dr n a l).map (·.1)).Nodup:=by
 intro l
 induction l with
 | nil=>simp [dr]
 | cons e l J =>
  intro I
  simp only [bX,lW] at I
  simp only [dr]
  by_cases he:e.1=n
  ·rw [aq he]; simp only [bX,lW]; rw [←he]; exact I
  ·rw [ai he]
   simp only [bX,lW]
   refine ⟨fun h => ?_,J I.2⟩
   rcases qb.1 h with h | h
   ·exact he h
   ·exact I.1 h
theorem Kv {n:Int}: ∀ {l:List (Int×α)} {k:Int},k∈(j5 n l).map (·.1)→k∈l.map (·.1):=by
 intro l
 induction l with
 | nil=>intro k h; exact h
 | cons e l I =>
  intro k h
  simp only [j5] at h
  by_cases he:e.1=n
  ·rw [aq he] at h; simp only [bX,gn]; exact .inr h
  ·rw [ai he] at h
   simp only [bX,gn] at h ⊢
   exact h.imp_right I
theorem sR {n:Int}: ∀ {l:List (Int×α)},(l.map (·.1)).Nodup→((j5 n l).map (·.1)).Nodup:=by
 intro l
 induction l with
 | nil=>simp [j5]
 | cons e l J =>
  intro I
  simp only [bX,lW] at I
  simp only [j5]
  by_cases he:e.1=n
  ·rw [aq he]; exact I.2
  ·rw [ai he]
   simp only [bX,lW]
   exact ⟨fun h=>I.1 (Kv h),J I.2⟩
def fD (f:V→α→au): fl→List (Int×α)→au
 | [],[]=>.pu True
 | e::l,x::m=>.an (.an (.pu (e.1=x.1)) (f e.2.1 x.2)) (fD f l m)
 | _,_=>.pu False
variable {f:V→α→au} {a b:PM}
theorem yp : ∀ {l:fl} {m:List (Int×α)},(fD f l m).p a b→l.map (·.1)=m.map (·.1):=by
 intro l
 induction l with
 | nil=>intro m h; cases m with
  | nil=>rfl
  | cons x m=>exact h.elim
 | cons e l I=>intro m h; cases m with
  | nil=>exact h.elim
  | cons x m=>simp only [bX]; rw [h.1.1,I h.2]
theorem oK {n:Int}: ∀ {l:fl} {m:List (Int×α)},(fD f l m).p a b→(lookE n l=none∧lookL n m=none)∨∃u x,lookE n l=some u∧lookL n m=some x∧(f u x).p a b:=by
 intro l
 induction l with
 | nil=>intro m h; cases m with
  | nil=>exact .inl ⟨rfl,rfl⟩
  | cons x m=>exact h.elim
 | cons e l J=>intro m h; cases m with
  | nil=>exact h.elim
  | cons x m =>
   obtain ⟨⟨I,h2⟩,h3⟩:=h
   have I:e.1=x.1:=I
   simp only [lookE,lookL,←I]
   by_cases he:e.1=n
   ·rw [aq he,aq he]; exact .inr ⟨_,_,rfl,rfl,h2⟩
   ·rw [ai he,ai he]; exact J h3
theorem Ih {n:Int}{u:V}{x:α}{c:Nat}(hu:(f u x).p a b): ∀ {l:fl} {m:List (Int×α)},(fD f l m).p a b→(fD f (kA n u c l) (dr n x m)).p a b:=by
 intro l
 induction l with
 | nil=>intro m h; cases m with
  | nil=>exact ⟨⟨rfl,hu⟩,aa⟩
  | cons x m=>exact h.elim
 | cons e l ih=>intro m h; cases m with
  | nil=>exact h.elim
  | cons y m =>
   obtain ⟨⟨I,h2⟩,J⟩:=h
   have I:e.1=y.1:=I
   simp only [kA,dr,←I]
   by_cases he:e.1=n
   ·rw [aq he,aq he]; exact ⟨⟨he,hu⟩,J⟩
   ·rw [ai he,ai he]; exact ⟨⟨I,h2⟩,ih J⟩
theorem Ii {n:Int}: ∀ {l:fl} {m:List (Int×α)},(fD f l m).p a b→(fD f (mO n l) (j5 n m)).p a b:=by
 intro l
 induction l with
 | nil=>intro m h; cases m with
  | nil=>trivial
  | cons x m=>exact h.elim
 | cons e l ih=>intro m h; cases m with
  | nil=>exact h.elim
  | cons y m =>
   obtain ⟨⟨I,h2⟩,J⟩:=h
   have I:e.1=y.1:=I
   simp only [mO,j5,←I]
   by_cases he:e.1=n
   ·rw [aq he,aq he]; exact J
   ·rw [ai he,ai he]; exact ⟨⟨I,h2⟩,ih J⟩
theorem a_.Kw (I:∀u x,a_ (f u x)): ∀(l:fl) (m:List (Int×α)),a_ (fD f l m):=by
 intro l
 induction l with
 | nil=>intro m; cases m <;> exact a_.pu _
 | cons e l J=>intro m; cases m with
  | nil=>exact a_.pu _
  | cons x m=>exact a_.an (a_.an (a_.pu _) (I _ _)) (J m)
def nL (c:Nat): Nat→fl→Prop
 | _,[]=>True
 | b,e::l=>b≤e.2.2∧e.2.2<c∧nL c (e.2.2+1) l
theorem Gh {c:Nat}: ∀ {l:fl} {b I:Nat},I≤b→nL c b l→nL c I l:=by
 intro l
 cases l with
 | nil=>intro b I _ _; trivial
 | cons e l=>intro b I h J; exact ⟨b5 h J.1,J.2⟩
theorem Ij {c n:Nat}{k:Int}{u:V}(hn:n=c): ∀ {l:fl} {b:Nat},b≤c→nL c b l→nL (clkE k c l) b (kA k u n l):=by
 subst hn
 intro l
 induction l with
 | nil=>intro b J _; simp only [kA,clkE,lookE]; exact ⟨J,zC _,aa⟩
 | cons e l ih =>
  intro b J h
  have I:=ih (b:=e.2.2+1) (by have:=h.2.1; omega) h.2.2
  simp only [clkE] at I
  by_cases he:e.1=k
  ·simp only [kA,clkE,lookE,aq he]; exact h
  ·simp only [kA,clkE,lookE,ai he]
   refine ⟨h.1,?_,I⟩
   have:=h.2.1
   split <;> omega
theorem Ik {c:Nat}{k:Int}: ∀ {l:fl} {b:Nat},nL c b l→nL c b (mO k l):=by
 intro l
 induction l with
 | nil=>intro b h; exact h
 | cons e l I =>
  intro b h
  simp only [mO]
  by_cases he:e.1=k
  ·rw [aq he]; exact Gh (by have:=h.1; omega) h.2.2
  ·rw [ai he]; exact ⟨h.1,h.2.1,I h.2.2⟩
def iL (f:V→α→au)(v:V)(m:List (Int×α)): au :=
 xs fun id:Nat=>xs fun l:fl=>xs fun c:Nat=>star [.pu (v=.map id∧nL c 0 l∧(m.map (·.1)).Nodup),iK id l c,fD f l m]
section
variable {P:Program} {h h':H} {S:List au} {v u z:V} {t kt et:TypeId} {k:IntKind} {m:List (Int×α)} {n:Int} {x:α}
theorem fM : Sat h (iL f v m::S)↔∃id l c,v=.map id∧nL c 0 l∧(m.map (·.1)).Nodup∧Sat h (iK id l c::fD f l m::S):=by
 simp only [iL,g8,cP,gL,dh,p_,and_assoc,iK]
theorem mh (hf:∀u x,a_ (f u x))(s:Sat h (iL f v m::S))(hu:P.underlying t=some (.map kt et))(hk:P.underlying kt=some (.int k))(hz:zeroT P et=some z):
  (lookL n m=none∧dI P h t v (.int .i64 n) true=some (.aX [z,.bool false])∧dI P h t v (.int .i64 n) false=some z) ∨
  ∃u x,lookL n m=some x∧dI P h t v (.int .i64 n) true=some (.aX [u,.bool true])∧dI P h t v (.int .i64 n) false=some u∧Sat h (f u x::iL f v m::S):=by
 obtain ⟨id,l,c,rfl,hb,hn,s1⟩:=fM.1 s
 have e2:=s1.QM (n:=n) (j:=0) rfl hu hk hz
 have e1:=s1.QN (n:=n) (j:=0) rfl hu hk hz
 obtain ⟨a,b,q1,q2,q3⟩:=s1.at (k:=1) rfl
 rcases oK (n:=n) q3 with ⟨g1,g2⟩ | ⟨u,x,g1,g2,g3⟩
 ·rw [g1] at e1 e2; exact .inl ⟨g2,e2,e1⟩
 ·rw [g1] at e1 e2
  refine .inr ⟨u,x,g2,e2,e1,?_⟩
  have s2:Sat h (fD f l m::iK id l c::S):=s1.mH [1]
  have s3:=s2.dup (a_.Kw hf l m)
  have s4:Sat h (f u x::fD f l m::iK id l c::S):=s3.gR fun a' b' h'=>by
   rcases oK (n:=n) h' with ⟨I,_⟩ | ⟨u',x',I,J,Px⟩
   ·rw [g1] at I; cases I
   ·rw [g1] at I; rw [g2] at J; injection I with I; injection J with J; subst I; subst J; exact Px
  have s5:Sat h (iK id l c::fD f l m::f u x::S):=s4.mH [2,1]
  exact (fM.2 ⟨id,l,c,rfl,hb,hn,s5⟩:Sat h (iL f (.map id) m::f u x::S)).mH [1]
theorem lR (J:∀u x,a_ (f u x))(s:Sat h (f u x::iL f v m::S))(hu:P.underlying t=some (.map kt et))(hk:P.underlying kt=some (.int k)):
  ∃h',mapUpdateV P h t v (.int .i64 n) u=some h'∧Sat h' (iL f v (dr n x m)::S):=by
 have s0:Sat h (iL f v m::f u x::S):=s.mH [1]
 obtain ⟨id,l,c,rfl,hb,hn,s1⟩:=fM.1 s0
 obtain ⟨h',e1,I⟩:=s1.update (n:=n) (v:=u) (j:=0) rfl hu hk
 refine ⟨h',e1,?_⟩
 have I:Sat h' (iK id (kA n u c l) (clkE n c l)::fD f l m::f u x::S):=I
 have e3:Sat h' (f u x::fD f l m::iK id (kA n u c l) (clkE n c l)::S):=I.mH [2,1]
 have e4:Sat h' (fD f (kA n u c l) (dr n x m)::iK id (kA n u c l) (clkE n c l)::S):=e3.map fun a b h=>by
  obtain ⟨p1,p2,d1,d2,d3,d4,p3,p4,d5,d6,d7,d8,d9⟩:=h
  exact ⟨fun _=>none,p4,fun _=>.inl rfl,fun _ _ h=>(by cases h),PM.le_trans d7 d3,Ih (J _ _ _ _ d4) (a_.Kw J _ _ _ _ d8),d9⟩
 exact fM.2 ⟨id,_,_,rfl,Ij rfl (eO _) hb,jM hn,e4.mH [1]⟩
theorem Kx (s:Sat h (iL f v m::S))(hu:P.underlying t=some (.map kt et))(J:P.underlying kt=some (.int k)):
  ∃h',lZ P h t v (.int .i64 n)=some h'∧Sat h' (iL f v (j5 n m)::S):=by
 obtain ⟨id,l,c,rfl,hb,hn,s1⟩:=fM.1 s
 obtain ⟨h',e1,I⟩:=s1.delete (n:=n) (j:=0) rfl hu J
 refine ⟨h',e1,?_⟩
 have I:Sat h' (iK id (mO n l) c::fD f l m::S):=I
 have e3:Sat h' (fD f l m::iK id (mO n l) c::S):=I.mH [1]
 have e4:Sat h' (fD f (mO n l) (j5 n m)::iK id (mO n l) c::S):=e3.gR fun a b h=>Ii h
 exact fM.2 ⟨id,_,_,rfl,Ik hb,sR hn,e4.mH [1]⟩
theorem Ky (s:Sat h (iL f v m::S))(hu:P.underlying t=some (.map kt et)): lenV P h t v=some (.int .i64 (m.length:Int)):=by
 obtain ⟨id,l,c,rfl,J,hn,s1⟩:=fM.1 s
 have e:=s1.SX (j:=0) rfl hu
 obtain ⟨a,b,q1,q2,I⟩:=s1.at (k:=1) rfl
 have:=eB List.length (yp I)
 simp only [eM] at this
 rw [this] at e
 exact e
theorem qc {id:Nat}(s:Sat h (pt id (.map [] 0)::S)): Sat h (iL f (.map id) []::S):=by
 have s1:Sat h (fD f [] []::pt id (.map [] 0)::S):=s.hO aa
 exact fM.2 ⟨id,[],0,rfl,aa,by simp,s1.mH [1]⟩
theorem Co {j:Nat}(s:Sat h S)(I:getA S j=some (iL f v m)): ∃id,v=.map id:=by
 have s1:=s.take j I
 obtain ⟨id,l,c,rfl,_⟩:=fM.1 s1
 exact ⟨id,rfl⟩
end
end
theorem OpR.delete {C:bY}{E:List (Nat×V)}{h:H}{o:Oper}{S':List au}{cl:Go.Call}{t u:TypeId}{m k:V}(I:o.op=.call cl)(hc:cl.callee=.builtin .delete)(J:cl.argTypes = #[t,u])(ha:lookArgs E cl.args.toList=some [m,k])
 (ho:∃h₁,lZ C.P h t m k=some h₁∧Sat h₁ S'): OpR C E h o fun _ h₁=>Sat h₁ S':=by
 obtain ⟨h₁,e1,e2⟩:=ho
 refine OpR.builtin I hc ha ⟨.aX [],h₁,?_,e2⟩
 simp only [builtinV,J,e1,gN]
end Go.Proofs.YtefepnnfphdkpaaGreat.Am
namespace Go.Proofs.YtefepnnfphdkpaaGreat.Am
open Go Go.Maps Go.RowKit
def keyInts : List (V×V×Nat)→Option (List Int)
 | []=>some []
 | (.int .i64 n,_,_)::l=>cond (Lit.int .i64 n).wf (match keyInts l with
  | some m=>some (n::m)
  | none=>none) none
 | _=>none
def bornUp (clock:Nat): Nat→List (V×V×Nat)→Bool
 | _,[]=>true
 | b,(_,_,x)::l=>cond (Nat.ble b x&&Nat.blt x clock) (bornUp clock (x+1) l) false
def insI (x:Int): List Int→List Int
 | []=>[x]
 | y::l=>cond (decide (x≤y)) (x::y::l) (y::insI x l)
def j6 : List Int→List Int
 | []=>[]
 | x::l=>insI x (j6 l)
def nU : List Int→Bool
 | []=>true
 | x::l=>l.all (fun y=>decide (x<y))&&nU l
def fQ (l:List Int): List V:=l.map (V.int .i64)
noncomputable def toldSorted (gs:List Nat): List V→H→Option (V×H)
 | [.fn (.func g) [] [.ptr b 0]],h=>match h.tr.get b with
  | some (.cells n [.map id] false)=>match h.tr.get id with
   | some (.map es clock)=>cond (Nat.beq n 1&&sn gs g&&bornUp clock 0 es&&Nat.ble es.length 1048576) (match keyInts es with
    | some ks=>cond (nU (j6 ks)) (match ks with
     | []=>some (.bq,h)
     | _=>some (.sl h.next 0 ks.length (.rest 1 0),newRow h (fQ (j6 ks)))) none
    | none=>none) none
   | _=>none
  | _=>none
 | _,_=>none
theorem uy (x:Int): ∀l:List Int,(insI x l).Perm (x::l)
 | []=>.refl _
 | y::l=>by
  simp only [insI]
  cases decide (x≤y) with
  | true=>exact .refl _
  | false=>exact ((uy x l).cons y).trans (.swap x y l)
theorem eX : ∀l:List Int,(j6 l).Perm l
 | []=>.refl _
 | x::l=>(uy x _).trans ((eX l).cons x)
theorem A4 : ∀l:List Int,nU l=true→l.Pairwise (· < ·)
 | [],_=>.nil
 | x::l,h=>by
  simp only [nU,aG,m_,dR] at h
  exact List.pairwise_cons.2 ⟨h.1,A4 l h.2⟩
theorem r5 : ∀ {l m:List Int},l.Perm m→l.Pairwise (· ≤ ·)→m.Pairwise (· ≤ ·)→l=m
 | [],m,I,_,_=>I.nil_eq
 | a::r,[],I,_,_=>absurd I.symm.nil_eq (by simp)
 | a::r,b::s,I,h1,h2=>by
  obtain ⟨a1,a2⟩:=List.pairwise_cons.1 h1
  obtain ⟨b1,b2⟩:=List.pairwise_cons.1 h2
  have J:a=b:=by
   have ha:a∈b::s:=I.mem_iff.1 (by simp)
   have hb:b∈a::r:=I.mem_iff.2 (by simp)
   have l1:b≤a:=by
    rcases List.mem_cons.1 ha with h | h
    ·omega
    ·exact b1 a h
   have l2:a≤b:=by
    rcases List.mem_cons.1 hb with h | h
    ·omega
    ·exact a1 b h
   omega
  subst J
  rw [r5 (List.Perm.cons_inv I) a2 b2]
theorem A5 {clock:Nat}: ∀(l:List (V×V×Nat)) (b:Nat),bornUp clock b l=true→(∀x∈l,b≤x.2.2∧x.2.2<clock)∧(l.map (·.2.2)).Nodup
 | [],_,_=>⟨by simp,by simp⟩
 | (k,v,x)::l,b,h=>by
  simp only [bornUp] at h
  cases J:(Nat.ble b x&&Nat.blt x clock) with
  | false=>rw [J] at h; cases h
  | true =>
   rw [J,af] at h
   simp only [aG,aB,fb] at J
   obtain ⟨i1,i2⟩:=A5 l (x+1) h
   refine ⟨fun y I => ?_,?_⟩
   ·rcases List.mem_cons.1 I with rfl | I
    ·exact J
    ·have:=i1 y I; omega
   ·simp only [bX,lW,jW,not_exists,not_and]
    exact ⟨fun y I e=>by have:=i1 y I; omega,i2⟩
theorem yq {c:Ctx}: ∀(l:List (V×V×Nat)) (ks:List Int),keyInts l=some ks→l.map (fun x=>conc c x.1)=ks.map (Value.int .i64)∧∀n∈ks,(Lit.int .i64 n).wf=true
 | [],ks,h=>by simp [keyInts] at h; subst h; simp
 | (k,v,b)::l,ks,h=>by
  unfold keyInts at h
  split at h
  ·rename_i he; cases he
  ·rename_i n v' J l' he
   simp only [vi,aC] at he
   obtain ⟨⟨rfl,rfl,rfl⟩,rfl⟩:=he
   cases hw:(Lit.int .i64 n).wf with
   | false=>simp [hw] at h
   | true =>
    cases hm:keyInts l with
    | none=>simp [hw,hm] at h
    | some m =>
     simp [hw,hm] at h
     subst h
     obtain ⟨i1,i2⟩:=yq (c:=c) l m hm
     refine ⟨by simp [conc,i1],fun x I => ?_⟩
     rcases List.mem_cons.1 I with rfl | I
     ·exact hw
     ·exact i2 x I
  ·cases h
section
variable {c:Ctx} {σ:H} {w w':World}
theorem Rel.below (h:Rel c σ w)(I:Below w.heap.size w w'): Rel c σ w'∧b6 c w c w':=by
 have rows:∀b,b<w.heap.size→rowSize w' b=rowSize w b:=fun b J=>by unfold rowSize; rw [I.block b J]
 refine ⟨⟨h.next,h.live,fun id hi=>fZ (h.jz id hi) I.size,fun id hi=>by rw [rows _ (h.jz id hi)]; exact h.zz id hi,h.inj,
  fun id o ho=>(h.obj id o ho).later (Ext.refl c) (h.live id o ho) (I.block _ (h.jz id (h.live id o ho))),h.one,h.fx⟩,
  ⟨Ext.refl c,I.size,rows,fun b J _=>I.block b J,fun id h1 h2=>by omega,I.os,I.output⟩⟩
theorem Rel.take {b:Nat}{cs:List V}{C:Array Value}{T:TypeId}(h:Rel c σ w)(hb:b<w.heap.size)(hr:∀id,id<c.N→(c.ρ id).1≠b)(j8:∀v∈cs,wf c v∧storable v=true)
 (hg:w.heap[b]?=some (.cells C T (0,0)))(hC:C.toList.take cs.length=cs.map (conc c)): Rel (c.grow b 0 C.size) (Am.newRow σ cs) w:=by
 have e:=nI hr 0 C.size
 have hN:(c.grow b 0 C.size).N=c.N+1:=rfl
 have hle:cs.length≤C.size:=by
  have:=eB List.length hC
  simp at this
  omega
 have key:∀i o,(Am.newRow σ cs).tr.get i=some o→(i=c.N∧o=.cells cs.length cs false)∨(i<c.N∧σ.tr.get i=some o):=by
  intro i o hi
  rw [Am.newRow,fJ,h.next] at hi
  by_cases J:i=c.N
  ·simp [J] at hi; exact .inl ⟨J,hi.symm⟩
  ·simp [J] at hi; exact .inr ⟨h.live i o hi,hi⟩
 refine ⟨by simp [Am.newRow,H.new,Ctx.grow,h.next],fun i o hi => ?_,fun i hi => ?_,fun i hi => ?_,fun i j o o' hi hj he => ?_,fun i o hi => ?_,fun i l7 ki hi hx => ?_,fun i o hi hx => ?_⟩
 ·rw [hN]; rcases key i o hi with ⟨J,_⟩ | ⟨J,_⟩ <;> omega
 ·rw [hN] at hi
  by_cases J:i=c.N
  ·subst J; rw [aP]; exact hb
  ·rw [cj c _ _ _ (by omega)]; exact h.jz i (by omega)
 ·rw [hN] at hi
  by_cases J:i=c.N
  ·subst J; rw [aP]; simp [Ctx.grow,rowSize,hg]
  ·rw [cj c _ _ _ (by omega),←h.zz i (by omega)]; simp [Ctx.grow,hr i (by omega)]
 ·rcases key i o hi with ⟨I,_⟩ | ⟨I,a2⟩ <;> rcases key j o' hj with ⟨b1,_⟩ | ⟨b1,b2⟩
  ·exact .inl (by omega)
  ·subst I; rw [aP,cj c _ _ _ b1] at he; exact absurd he.symm (hr j b1)
  ·subst b1; rw [aP,cj c _ _ _ I] at he; exact absurd he (hr i I)
  ·rw [cj c _ _ _ I,cj c _ _ _ b1] at he; rw [ew c _ _ _ I,ew c _ _ _ b1]; exact h.inj i j _ _ a2 b2 he
 ·rcases key i o hi with ⟨rfl,rfl⟩ | ⟨I,a2⟩
  ·refine ⟨rfl,fun v hv=>⟨(bW e v (j8 v hv).1).2,(j8 v hv).2⟩,C,T,(0,0),by rw [aP]; exact hg,by rw [aP]; simpa using hle,fun j v hj => ?_,rfl⟩
   rw [aP,(bW e v (j8 v (aU hj)).1).1]
   have RG:j<cs.length:=(List.getElem?_eq_some_iff.1 hj).1
   have J:(C.toList.take cs.length)[j]?=some (conc c v):=by rw [hC]; simp [hj]
   rw [iP,aq RG,gK] at J
   simpa using J
  ·exact (h.obj i o a2).later e I rfl
 ·rcases key i _ hi with ⟨rfl,_⟩ | ⟨I,a2⟩
  ·rw [aP]
  ·rw [ew c _ _ _ I] at hx
   rw [cj c _ _ _ I]; exact h.one i l7 ki a2 hx
 ·rcases key i o hi with ⟨rfl,_⟩ | ⟨I,a2⟩
  ·rw [sx] at hx; cases hx
  ·rw [ew c _ _ _ I] at hx; exact h.fx i o a2 hx
def lF (_:Value): Option (DataW Unit×List MemPlace):=some (.nil,[])
def A6 (P:Program)(f K:Nat)(gs:List Nat): Prop:=∀g∈gs,∀(Bm b nn:Nat) (I:DataW Unit) (w:World),Bm<w.heap.size→w.cell? ⟨Bm,0,none⟩=some (.map (some b)) →
 w.ownsMap P K lF b nn I→Maps.size I≤maxLen→Maps.size I*8≤140737488355328 →
 Calls P f #[.func (.func g) #[] #[.pointer (some ⟨Bm,0,none⟩)]] w fun e w'=>∃(v:Value) (J:List Int),e=.returned v∧J.Perm (intKeys I) ∧
  w'.ownsRow w.heap.size K 1 v J.length ((J.mergeSort (fun x y=>decide (x≤y))).map encZ)∧(v=.slice none 0 0↔J=[])∧Below w.heap.size w w'
theorem Bq {P:Program}{f K:Nat}{gs:List Nat}(hK:P.underlying K=some (.int .i64))(hS:A6 P f K gs){args:List V}{v:V}{dY:H}(I:toldSorted gs args σ=some (v,dY))
 (h:Rel c σ w): iF P f args c w v dY:=by
 unfold toldSorted at I
 split at I
 ·rename_i g b
  split at I
  ·rename_i n id L5
   split at I
   ·rename_i es clock Us
    cases hq:(Nat.beq n 1&&sn gs g&&bornUp clock 0 es&&Nat.ble es.length 1048576) with
    | false=>simp [hq] at I
    | true =>
     rw [hq,af] at I
     simp only [aG,beq_iff,aB,wK] at hq
     obtain ⟨⟨⟨q1,q2⟩,q3⟩,q4⟩:=hq
     subst q1
     cases hk:keyInts es with
     | none=>simp [hk] at I
     | some ks =>
      simp only [hk] at I
      cases J:nU (j6 ks) with
      | false=>simp [J] at I
      | true =>
       simp only [J,af] at I
       obtain ⟨k1,k2⟩:=yq (c:=c) es ks hk
       obtain ⟨b1,b2⟩:=A5 es 0 q3
       have hlen:ks.length=es.length:=by simpa using (congrArg List.length k1).symm
       have br:=A4 _ J
       have qz:ks.Nodup:=(eX ks).nodup_iff.1 (br.imp fun {a b} l8=>by omega)
       have L6:=h.one b _ _ L5 (h.tN L5 (by intro _ _ he; cases he))
       have qt:=cell_of h L5 (j:=0) (v:=.map id) rfl
       have SY:dQ c b 0=⟨(c.ρ b).1,0,none⟩:=by simp [dQ,L6]
       rw [SY] at qt
       have Py:w.cell? ⟨(c.ρ b).1,0,none⟩=some (.map (some (c.ρ id).1)):=by simpa [conc] using qt
       obtain ⟨m1,m2⟩:=h.obj id _ Us
       have L7:∀x∈es,∃n,n∈ks∧(bC c x).key=.int .i64 n:=fun x hx=>by
        have:conc c x.1∈ks.map (Value.int .i64):=by rw [←k1]; exact List.mem_map.2 ⟨x,hx,rfl⟩
        obtain ⟨n,hn,he⟩:=List.mem_map.1 this
        exact ⟨n,hn,he.symm⟩
       have gh:∀x∈es,∀n,(bC c x).key=.int .i64 n→n∈ks→WideElems.rd P K lF (bC c x)=some (.int .i64 n,.nil):=fun x hx n hn hm=>by
        simp [WideElems.rd,hn,Maps.keyOf_int_mk hK (k2 n hm),lF]
       have SZ:w.ownsMap P K lF (c.ρ id).1 es.length (.map (((es.map (bC c)).toArray.toList.map (WideElems.rg P K lF)).foldr DataW.insert [])):=by
        refine ⟨(es.map (bC c)).toArray,clock,m2,⟨by simp [maxLen]; omega,⟨fun x hx => ?_,?_,?_⟩,fun x hx => ?_⟩,by simp,rfl⟩
        ·simp only [jW] at hx
         obtain ⟨y,hy,rfl⟩:=hx
         exact (b1 y hy).2
        ·simpa [bC,ry] using b2
        ·have:(es.map (bC c)).toArray.toList.map (·.key)=ks.map (Value.int .i64):=by rw [←k1]; simp [bC,ry]
         rw [this]
         exact List.pairwise_map.2 (qz.imp fun {a b} cT e=>cT (by simpa using e))
        ·simp only [jW] at hx
         obtain ⟨y,hy,rfl⟩:=hx
         obtain ⟨n,hn,he⟩:=L7 y hy
         exact ⟨_,gh y hy n he hn⟩
       have dW:Maps.size (H:=Unit) (.map (((es.map (bC c)).toArray.toList.map (WideElems.rg P K lF)).foldr DataW.insert []))=es.length:=by
        rw [Maps.size_eq,(WideShapes.sorted_perm _).length_eq]; simp
       have QS:(intKeys (H:=Unit) (.map (((es.map (bC c)).toArray.toList.map (WideElems.rg P K lF)).foldr DataW.insert []))).Perm ks:=by
        refine ((WideShapes.sorted_perm _).map _).trans ?_
        have:(((es.map (bC c)).toArray.toList.map (WideElems.rg P K lF)).map fun p=>intOf p.1)=ks:=by
         have RH:∀x∈es,Value.int .i64 (intOf (WideElems.rg P K lF (bC c x)).1)=conc c x.1:=fun x hx=>by
          obtain ⟨n,hn,he⟩:=L7 x hx
          rw [WideElems.rg_of (gh x hx n he hn)]
          exact he.symm
         have h1:((((es.map (bC c)).toArray.toList.map (WideElems.rg P K lF)).map fun p=>intOf p.1).map (Value.int .i64))=ks.map (Value.int .i64):=by
          rw [←k1]
          simp only [rF]
          exact oS fun x hx=>RH x hx
         exact List.map_inj_right (fun x y e=>by simpa using e) |>.1 h1
        rw [this]
       have QT:=hS g q2 (c.ρ b).1 (c.ρ id).1 es.length _ w (h.jz b (h.live b _ L5)) Py SZ (by rw [dW]; simp [maxLen]; omega) (by rw [dW]; omega)
       have BD:([V.fn (.func g) [] [.ptr b 0]].map (conc c)).toArray = #[.func (.func g) #[] #[.pointer (some ⟨(c.ρ b).1,0,none⟩)]]:=by simp [conc,concL,L6]
       unfold iF
       rw [BD]
       refine QT.mono ?_
       rintro e w' ⟨rv,ss,rfl,s1,s2,s3,s4⟩
       obtain ⟨g1,g2⟩:=h.below s4
       have L8:ss.Perm ks:=s1.trans QS
       have Ut:ss.mergeSort (fun x y=>decide (x≤y))=j6 ks:=by
        refine r5 (((List.mergeSort_perm ss _).trans L8).trans (eX ks).symm) ?_ (br.imp fun {a b} l8=>by omega)
        have:=List.pairwise_mergeSort (le:=fun x y:Int=>decide (x≤y)) (fun a b c h1 h2=>by simp at h1 h2 ⊢; omega) (fun a b=>by simp; omega) ss
        exact this.imp fun {a b} l8=>by simpa using l8
       rw [Ut] at s2
       split at I
       ·-- no key
        have BW:ss=[]:=by simpa using L8
        have hv:=s3.2 BW
        simp only [aj,aC] at I
        obtain ⟨rfl,rfl⟩:=I
        exact ⟨c,by rw [hv]; simp [conc],by simp [wf],g1,g2⟩
       ·rename_i cT
        simp only [aj,aC] at I
        obtain ⟨rfl,rfl⟩:=I
        have S0:ss≠[]:=fun e=>by
         subst e
         exact cT (by simpa using L8.symm)
        have j9:ss.length=ks.length:=L8.length_eq
        rcases s2.2 with ⟨e1,_⟩ | ⟨gb,cap,cur,rfl,l1,l2,l3,l4,l5,l6⟩
        ·exact absurd (s3.1 e1) S0
        have S1:gb<w'.heap.size:=(Array.getElem?_eq_some_iff.1 l2).1
        have v_:∀i,i<c.N→(c.ρ i).1≠gb:=fun i hi e=>by have:=h.jz i hi; omega
        have j8:∀x∈fQ (j6 ks),wf c x∧storable x=true:=fun x hx=>by
         obtain ⟨n,_,rfl⟩:=List.mem_map.1 hx
         simp [wf,storable]
        have L9:(fQ (j6 ks)).length=ks.length:=by simp [fQ,(eX ks).length_eq]
        have QU:cur.toList.take (fQ (j6 ks)).length=(fQ (j6 ks)).map (conc c):=by
         rw [L9,←j9]
         have:ss.length*1=ss.length:=cq _
         rw [this] at l6
         rw [l6]
         simp [fQ,conc,encZ,ry]
        have R:=g1.take S1 v_ j8 l2 QU
        have sA:(c.grow gb 0 cur.size).room σ.next 0 1=cap:=by
         simp only [Ctx.room,h.next,Ctx.grow,bu]
         simp [l5]
        refine ⟨c.grow gb 0 cur.size,?_,?_,R,g2.Bw v_ l1⟩
        ·simp only [conc,sA]
         simp [h.next,Ctx.grow,j9]
        ·simp only [wf,sA]
         exact ⟨by rw [h.next]; simp [Ctx.grow],aE _,by omega⟩
   ·cases I
  ·cases I
 ·cases I
end
end Go.Proofs.YtefepnnfphdkpaaGreat.Am
