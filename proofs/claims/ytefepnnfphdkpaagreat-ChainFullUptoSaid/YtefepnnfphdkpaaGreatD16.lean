/- ChainFull: a part of its proof; conditions: its statement's. -/
import Derived.Test.YtefepnnfphdkpaaGreatD15
import Derived.Test.YtefepnnfphdkpaaGreatD11
import Derived.Shelf.SlIterI.Sorted
namespace Go.Proofs.YtefepnnfphdkpaaGreat.Am
open Go
abbrev fN := List (Int×V×Nat)
def tL (e:Int×V×Nat): V×V×Nat:=(.int .i64 e.1,e.2)
def lookE (n:Int): fN→Option V
 | []=>none
 | e::l=>if e.1=n then some e.2.1 else lookE n l
def lH (n:Int)(v:V)(c:Nat): fN→fN
 | []=>[(n,v,c)]
 | e::l=>if e.1=n then (e.1,v,e.2.2)::l else e::lH n v c l
def nH (n:Int): fN→fN
 | []=>[]
 | e::l=>if e.1=n then l else e::nH n l
def clkE (n:Int)(c:Nat)(l:fN): Nat:=match lookE n l with
 | some _=>c
 | none=>c+1
abbrev jk (id:Nat)(l:fN)(c:Nat): aq:=pt id (.map (l.map tL) c)
def idxE (n:Int): fN→Nat→Option (Nat×V)
 | [],_=>none
 | e::l,i=>if e.1=n then some (i,e.2.1) else idxE n l (i+1)
theorem kJ (a b:Int): intBeq a b=decide (a=b):=by
 cases I:intBeq a b with
 | true=>simp [rV I]
 | false =>
  by_cases he:a=b
  ·subst he; rw [oL] at I; cases I
  ·simp [he]
theorem tM {k:IntKind}{n:Int}: ∀(l:fN) (i:Nat),findK (.int k) (.int .i64 n) (l.map tL) i=some (idxE n l i):=by
 intro l
 induction l with
 | nil=>intro i; rfl
 | cons e l I =>
  intro i
  simp only [cu,findK,tL,keyBeq,cW,af,kJ,idxE]
  by_cases he:e.1=n
  ·have:n=e.1:=he.symm
   simp [this]
  ·have:decide (n=e.1)=false:=by simp; exact fun h=>he h.symm
   rw [this,ai he]
   exact I (i+1)
theorem oT {n:Int}: ∀(l:fN) (i:Nat),(idxE n l i).map (·.2)=lookE n l:=by
 intro l
 induction l with
 | nil=>intro i; rfl
 | cons e l I =>
  intro i
  simp only [idxE,lookE]
  by_cases he:e.1=n
  ·simp [he]
  ·simp only [ai he]; exact I (i+1)
theorem GK {n:Int}: ∀(l:fN) (i j:Nat) (v:V),idxE n l i=some (j,v)→i≤j:=by
 intro l
 induction l with
 | nil=>intro i j v h; cases h
 | cons e l I =>
  intro i j v h
  simp only [idxE] at h
  by_cases he:e.1=n
  ·rw [ax he] at h; injection h with h; injection h with J h2; omega
  ·rw [ai he] at h; have:=I _ _ _ h; omega
theorem TN {n:Int}{v:V}{c:Nat}: ∀(l:fN) (i j:Nat) (u:V),idxE n l i=some (j,u)→setNth (l.map tL) (j-i) (fun e=>(e.1,v,e.2.2))=(lH n v c l).map tL:=by
 intro l
 induction l with
 | nil=>intro i j u h; cases h
 | cons e l I =>
  intro i j u h
  simp only [idxE] at h
  simp only [lH,cu,setNth]
  by_cases he:e.1=n
  ·rw [ax he] at h; injection h with h; injection h with J h2
   subst J
   rw [ax he,oo]
   rfl
  ·rw [ai he] at h
   have h3:=GK _ _ _ _ h
   rw [ai he,cV (by omega),ay,show j-i-1=j-(i+1) by omega,I _ _ _ h]
   rfl
theorem R6 {n:Int}: ∀(l:fN) (i j:Nat) (u:V),idxE n l i=some (j,u)→jc (l.map tL) (j-i)=(nH n l).map tL:=by
 intro l
 induction l with
 | nil=>intro i j u h; cases h
 | cons e l I =>
  intro i j u h
  simp only [idxE] at h
  simp only [nH,cu,jc]
  by_cases he:e.1=n
  ·rw [ax he] at h; injection h with h; injection h with J h2
   subst J
   rw [ax he,oo]
   rfl
  ·rw [ai he] at h
   have h3:=GK _ _ _ _ h
   rw [ai he,cV (by omega),ay,show j-i-1=j-(i+1) by omega,I _ _ _ h]
   rfl
theorem PB {n:Int}{v:V}{c:Nat}: ∀(l:fN),lookE n l=none→lH n v c l=l++[(n,v,c)]:=by
 intro l
 induction l with
 | nil=>intro _; rfl
 | cons e l I =>
  intro h
  simp only [lookE] at h
  by_cases he:e.1=n
  ·rw [ax he] at h; cases h
  ·rw [ai he] at h; simp only [lH,ai he,I h,gX]
theorem Mv {n:Int}: ∀(l:fN),lookE n l=none→nH n l=l:=by
 intro l
 induction l with
 | nil=>intro _; rfl
 | cons e l I =>
  intro h
  simp only [lookE] at h
  by_cases he:e.1=n
  ·rw [ax he] at h; cases h
  ·rw [ai he] at h; simp only [nH,ai he,I h]
section
variable {P:Program} {h h':H} {S:List aq} {v z:V} {t kt et:TypeId} {k:IntKind} {id c j:Nat} {l:fN} {n:Int}
theorem Sat.TO (s:Sat h S)(I:getA S j=some (jk id l c))(hu:P.underlying t=some (.map kt et))(J:P.underlying kt=some (.int k))(hz:zeroT P et=some z):
  dW P h t (.map id) (.int .i64 n) true=some (match lookE n l with | some v=>.aX [v,.bool true] | none=>.aX [z,.bool false]):=by
 have hg:=s.row I
 simp only [dW,lookupV,hu,J,hz,hg,keyBeq,cW,af,tM]
 rw [←oT l 0]
 cases idxE n l 0 with
 | none=>rfl
 | some q=>rfl
theorem Sat.TP (s:Sat h S)(I:getA S j=some (jk id l c))(hu:P.underlying t=some (.map kt et))(J:P.underlying kt=some (.int k))(hz:zeroT P et=some z):
  dW P h t (.map id) (.int .i64 n) false=some (match lookE n l with | some v=>v | none=>z):=by
 have hg:=s.row I
 simp only [dW,lookupV,hu,J,hz,hg,keyBeq,cW,af,tM]
 rw [←oT l 0]
 cases idxE n l 0 with
 | none=>rfl
 | some q=>rfl
theorem Sat.update (s:Sat h S)(hj:getA S j=some (jk id l c))(hu:P.underlying t=some (.map kt et))(hk:P.underlying kt=some (.int k)):
  ∃h',mapUpdateV P h t (.map id) (.int .i64 n) v=some h'∧Sat h' (setA S j (jk id (lH n v c l) (clkE n c l))):=by
 have hg:=s.row hj
 refine ⟨h.put id (some (.map ((lH n v c l).map tL) (clkE n c l))),?_,s.put hj⟩
 simp only [mapUpdateV,hu,hk,hg,keyBeq,cW,af,tM]
 have I:=oT (n:=n) l 0
 cases J:idxE n l 0 with
 | none =>
  rw [J] at I
  have I:lookE n l=none:=I.symm
  simp only [clkE,I,PB l I,wS]
  rfl
 | some q =>
  obtain ⟨i,u⟩:=q
  rw [J] at I
  have I:lookE n l=some u:=I.symm
  simp only [clkE,I]
  rw [←TN (v:=v) (c:=c) l 0 i u J,j7]
theorem Sat.delete (s:Sat h S)(J:getA S j=some (jk id l c))(hu:P.underlying t=some (.map kt et))(hk:P.underlying kt=some (.int k)):
  ∃h',m0 P h t (.map id) (.int .i64 n)=some h'∧Sat h' (setA S j (jk id (nH n l) c)):=by
 have hg:=s.row J
 simp only [m0,hu,hk,hg,keyBeq,cW,af,tM]
 have I:=oT (n:=n) l 0
 cases hq:idxE n l 0 with
 | none =>
  rw [hq] at I
  have I:lookE n l=none:=I.symm
  refine ⟨h,rfl,?_⟩
  rw [Mv l I]
  have:∀(S:List aq) (j:Nat) (A:aq),getA S j=some A→setA S j A=S:=by
   intro S
   induction S with
   | nil=>intro j A h; cases h
   | cons B S ih =>
    intro j A h
    cases j with
    | zero=>simp only [getA] at h; injection h with h; subst h; rfl
    | succ j=>simp only [getA] at h; simp only [setA,ih j A h]
  rw [this S j _ J]
  exact s
 | some q =>
  obtain ⟨i,u⟩:=q
  refine ⟨_,rfl,?_⟩
  have e:=R6 l 0 i u hq
  rw [j7] at e
  rw [e]
  exact s.put J
theorem Sat.V1 (s:Sat h S)(I:getA S j=some (jk id l c))(hu:P.underlying t=some (.map kt et)): lenV P h t (.map id)=some (.int .i64 (l.length:Int)):=by
 have J:=s.row I
 simp only [lenV,hu,J,er]
end
section
variable {C:b9} {E:List (Nat×V)} {h h':H} {o:Oper} {S':List aq} {x y z:Operand} {a b v u:V} {t:TypeId} {cl:Go.Call}
theorem OpR.upd (I:∀env,iq env E→evOp C (ev C 0) env h o=(match mapUpdateV C.P h t a b v with | some h'=>some (bJ,h') | none=>none))
 (ho:∃h₁,mapUpdateV C.P h t a b v=some h₁∧Sat h₁ S'): OpR C E h o fun _ h₁=>Sat h₁ S':=by
 obtain ⟨h₁,J,e2⟩:=ho
 exact ⟨bJ,h₁,e2,fun env he=>⟨0,by rw [I env he,J]⟩⟩
theorem OpR.mapUpdate (I:o.op=.mapUpdate t x y z)(J:lookO E x=some a)(hy:lookO E y=some b)(hz:lookO E z=some v)
 (ho:∃h₁,mapUpdateV C.P h t a b v=some h₁∧Sat h₁ S'): OpR C E h o fun _ h₁=>Sat h₁ S':=by
 refine OpR.upd (t:=t) (a:=a) (b:=b) (v:=v) (fun env he => ?_) ho
 simp only [evOp,I,bH he J,bH he hy,bH he hz,lY]
 cases mapUpdateV C.P h t a b v <;> rfl
theorem OpR.builtin {args:List V}{bi:Builtin}{R:V→H→Prop}(I:o.op=.call cl)(J:cl.callee=.builtin bi)(ha:lookArgs E cl.args.toList=some args)(ho:∃v h₁,builtinV C.P h bi cl.argTypes args=some (v,h₁)∧R v h₁): OpR C E h o R:=by
 obtain ⟨v,h₁,e1,e2⟩:=ho
 refine OpR.of ?_ e2
 rw [I]
 simp only [opE,J,ha,e1]
theorem OpR.pI {l m:List Nat}{S:List aq}{X:aq}(hP:C.P=Tryz.prog)(s:Sat h (aU v l::X::S))(hX:cT X (cY u m))(I:o.op=.call cl)(hc:cl.callee=.builtin .append)(J:cl.argTypes = #[28,28])(ha:lookArgs E cl.args.toList=some [v,u])
 (eA:l.length+m.length≤140737488355328): OpR C E h o fun v' h₁=>Sat h₁ (aU v' (l++m)::X::S):=by
 obtain ⟨v',h₁,e1,e2⟩:=Im s hX eA
 refine OpR.builtin I hc ha ⟨v',h₁,?_,e2⟩
 simp only [builtinV,hP,J,e1]
theorem OpR.rq {S:List aq}{c:Nat}(J:C.P=Tryz.prog)(s:Sat h S)(I:o.op=.makeSlice t x y)(ht:t=28)(hx:lookO E x=some (.int .i64 0))(hy:lookO E y=some (.int .i64 (c:Int)))(hc:c<1073741824): OpR C E h o fun v' h₁=>Sat h₁ (aU v' []::S):=by
 obtain ⟨v',h₁,e1,e2⟩:=Kc s hc
 exact OpR.of (by rw [I,ht,J]; exact qb hx hy e1) e2
theorem OpR.Ao {S:List aq}{c:Nat}(J:C.P=Tryz.prog)(s:Sat h S)(I:o.op=.makeSlice t x y)(ht:t=28)(hx:lookO E x=some (.int .i64 (c:Int)))(hy:lookO E y=some (.int .i64 (c:Int)))(hc:c<1073741824): OpR C E h o fun v' h₁=>Sat h₁ (aU v' (List.replicate c 0)::S):=by
 obtain ⟨v',h₁,e1,e2⟩:=Ke s hc
 exact OpR.of (by rw [I,ht,J]; exact qb hx hy e1) e2
theorem OpR.TQ {l m:List Nat}{S:List aq}{X:aq}{p q:Nat}(hP:C.P=Tryz.prog)(s:Sat h (aU v l::X::S))(hX:cT X (cY u m))(I:o.op=.call cl)(hc:cl.callee=.builtin .copy)(J:cl.argTypes = #[28,28])(ha:lookArgs E cl.args.toList=some [slR v p q,u])
 (XI:p<q)(hq:q≤l.length)(hm:1≤m.length): OpR C E h o fun _ h₁=>Sat h₁ (aU v (a_ l p (m.take (q-p)))::X::S):=by
 obtain ⟨h₁,e1,e2⟩:=DP s hX XI hq hm
 refine OpR.builtin I hc ha ⟨.int .i64 (min m.length (q-p):Nat),h₁,?_,e2⟩
 simp only [builtinV,hP,J,e1]
theorem OpR.Ip {S:List aq}{n:Nat}{ps:Array (Nat×Operand)}(J:C.P=Tryz.prog)(s:Sat h S)(I:o.op=.buildSlice t 1 ps)(ht:t=28)(hx:lookParts E ps.toList=some [(0,.int .u8 (n:Int))])(hn:n<256): OpR C E h o fun v' h₁=>Sat h₁ (aU v' [n]::S):=by
 obtain ⟨v',h₁,e1,e2⟩:=Kf s hn
 exact OpR.of (by rw [I,ht,J]; exact kg hx e1) e2
end
section
variable {α:Type}
def lookL (n:Int): List (Int×α)→Option α
 | []=>none
 | e::l=>if e.1=n then some e.2 else lookL n l
def dc (n:Int)(a:α): List (Int×α)→List (Int×α)
 | []=>[(n,a)]
 | e::l=>if e.1=n then (n,a)::l else e::dc n a l
def kW (n:Int): List (Int×α)→List (Int×α)
 | []=>[]
 | e::l=>if e.1=n then l else e::kW n l
theorem oU {n k:Int}{a:α}: ∀l:List (Int×α),lookL k (dc n a l)=if n=k then some a else lookL k l:=by
 intro l
 induction l with
 | nil=>simp [dc,lookL]
 | cons e l J =>
  simp only [dc]
  by_cases he:e.1=n
  ·rw [ax he]
   simp only [lookL]
   by_cases I:n=k
   ·simp [I]
   ·have:¬ e.1=k:=fun h=>I (by rw [←he,h])
    simp [I,this]
  ·rw [ai he]
   simp only [lookL,J]
   by_cases I:e.1=k
   ·have:¬ n=k:=fun h=>he (by rw [I,h])
    simp [I,this]
   ·simp [I]
theorem nI {n:Int}: ∀ {l:List (Int×α)},lookL n l=none↔n∉l.map (·.1):=by
 intro l
 induction l with
 | nil=>simp [lookL]
 | cons e l I =>
  simp only [lookL,cu,gL,not_or]
  by_cases he:e.1=n
  ·simp [he]
  ·rw [ai he,I]
   exact ⟨fun h=>⟨fun J=>he J.symm,h⟩,fun h=>h.2⟩
theorem Ck {n k:Int}: ∀ {l:List (Int×α)},(l.map (·.1)).Nodup→lookL k (kW n l)=if n=k then none else lookL k l:=by
 intro l
 induction l with
 | nil=>simp [kW,lookL]
 | cons e l ih =>
  intro J
  simp only [cu,mY] at J
  simp only [kW]
  by_cases he:e.1=n
  ·rw [ax he]
   by_cases I:n=k
   ·rw [ax I,←I,nI,←he]; exact J.1
   ·have:¬ e.1=k:=fun h=>I (by rw [←he,h])
    simp [lookL,I,this]
  ·rw [ai he]
   simp only [lookL,ih J.2]
   by_cases I:e.1=k
   ·have:¬ n=k:=fun h=>he (by rw [I,h])
    simp [I,this]
   ·simp [I]
theorem ru {n:Int}{a:α}: ∀ {l:List (Int×α)} {k:Int},k∈(dc n a l).map (·.1)↔k=n∨k∈l.map (·.1):=by
 intro l
 induction l with
 | nil=>intro k; simp [dc]
 | cons e l I =>
  intro k
  simp only [dc]
  by_cases he:e.1=n
  ·rw [ax he]; simp [he]
  ·rw [ai he]
   simp only [cu,gL,I]
   constructor
   ·rintro (h | h | h) <;> simp [h]
   ·rintro (h | h | h) <;> simp [h]
theorem kK {n:Int}{a:α}: ∀ {l:List (Int×α)},(l.map (·.1)).Nodup→((dc n a l).map (·.1)).Nodup:=by
 intro l
 induction l with
 | nil=>simp [dc]
 | cons e l J =>
  intro I
  simp only [cu,mY] at I
  simp only [dc]
  by_cases he:e.1=n
  ·rw [ax he]; simp only [cu,mY]; rw [←he]; exact I
  ·rw [ai he]
   simp only [cu,mY]
   refine ⟨fun h => ?_,J I.2⟩
   rcases ru.1 h with h | h
   ·exact he h
   ·exact I.1 h
theorem Mw {n:Int}: ∀ {l:List (Int×α)} {k:Int},k∈(kW n l).map (·.1)→k∈l.map (·.1):=by
 intro l
 induction l with
 | nil=>intro k h; exact h
 | cons e l I =>
  intro k h
  simp only [kW] at h
  by_cases he:e.1=n
  ·rw [ax he] at h; simp only [cu,gL]; exact .inr h
  ·rw [ai he] at h
   simp only [cu,gL] at h ⊢
   exact h.imp_right I
theorem uw {n:Int}: ∀ {l:List (Int×α)},(l.map (·.1)).Nodup→((kW n l).map (·.1)).Nodup:=by
 intro l
 induction l with
 | nil=>simp [kW]
 | cons e l J =>
  intro I
  simp only [cu,mY] at I
  simp only [kW]
  by_cases he:e.1=n
  ·rw [ax he]; exact I.2
  ·rw [ai he]
   simp only [cu,mY]
   exact ⟨fun h=>I.1 (Mw h),J I.2⟩
def fT (f:V→α→aq): fN→List (Int×α)→aq
 | [],[]=>.pu True
 | e::l,x::m=>.an (.an (.pu (e.1=x.1)) (f e.2.1 x.2)) (fT f l m)
 | _,_=>.pu False
variable {f:V→α→aq} {a b:PM}
theorem Ap : ∀ {l:fN} {m:List (Int×α)},(fT f l m).p a b→l.map (·.1)=m.map (·.1):=by
 intro l
 induction l with
 | nil=>intro m h; cases m with
  | nil=>rfl
  | cons x m=>exact h.elim
 | cons e l I=>intro m h; cases m with
  | nil=>exact h.elim
  | cons x m=>simp only [cu]; rw [h.1.1,I h.2]
theorem qc {n:Int}: ∀ {l:fN} {m:List (Int×α)},(fT f l m).p a b→(lookE n l=none∧lookL n m=none)∨∃u x,lookE n l=some u∧lookL n m=some x∧(f u x).p a b:=by
 intro l
 induction l with
 | nil=>intro m h; cases m with
  | nil=>exact .inl ⟨rfl,rfl⟩
  | cons x m=>exact h.elim
 | cons e l J=>intro m h; cases m with
  | nil=>exact h.elim
  | cons x m =>
   obtain ⟨⟨I,h2⟩,h3⟩:=h
   have I:e.1=x.1:=I
   simp only [lookE,lookL,←I]
   by_cases he:e.1=n
   ·rw [ax he,ax he]; exact .inr ⟨_,_,rfl,rfl,h2⟩
   ·rw [ai he,ai he]; exact J h3
theorem Kg {n:Int}{u:V}{x:α}{c:Nat}(hu:(f u x).p a b): ∀ {l:fN} {m:List (Int×α)},(fT f l m).p a b→(fT f (lH n u c l) (dc n x m)).p a b:=by
 intro l
 induction l with
 | nil=>intro m h; cases m with
  | nil=>exact ⟨⟨rfl,hu⟩,aa⟩
  | cons x m=>exact h.elim
 | cons e l ih=>intro m h; cases m with
  | nil=>exact h.elim
  | cons y m =>
   obtain ⟨⟨I,h2⟩,J⟩:=h
   have I:e.1=y.1:=I
   simp only [lH,dc,←I]
   by_cases he:e.1=n
   ·rw [ax he,ax he]; exact ⟨⟨he,hu⟩,J⟩
   ·rw [ai he,ai he]; exact ⟨⟨I,h2⟩,ih J⟩
theorem Kh {n:Int}: ∀ {l:fN} {m:List (Int×α)},(fT f l m).p a b→(fT f (nH n l) (kW n m)).p a b:=by
 intro l
 induction l with
 | nil=>intro m h; cases m with
  | nil=>trivial
  | cons x m=>exact h.elim
 | cons e l ih=>intro m h; cases m with
  | nil=>exact h.elim
  | cons y m =>
   obtain ⟨⟨I,h2⟩,J⟩:=h
   have I:e.1=y.1:=I
   simp only [nH,kW,←I]
   by_cases he:e.1=n
   ·rw [ax he,ax he]; exact J
   ·rw [ai he,ai he]; exact ⟨⟨I,h2⟩,ih J⟩
theorem aQ.Mx (I:∀u x,aQ (f u x)): ∀(l:fN) (m:List (Int×α)),aQ (fT f l m):=by
 intro l
 induction l with
 | nil=>intro m; cases m <;> exact aQ.pu _
 | cons e l J=>intro m; cases m with
  | nil=>exact aQ.pu _
  | cons x m=>exact aQ.an (aQ.an (aQ.pu _) (I _ _)) (J m)
def oM (c:Nat): Nat→fN→Prop
 | _,[]=>True
 | b,e::l=>b≤e.2.2∧e.2.2<c∧oM c (e.2.2+1) l
theorem Iq {c:Nat}: ∀ {l:fN} {b I:Nat},I≤b→oM c b l→oM c I l:=by
 intro l
 cases l with
 | nil=>intro b I _ _; trivial
 | cons e l=>intro b I h J; exact ⟨cg h J.1,J.2⟩
theorem Ki {c n:Nat}{k:Int}{u:V}(hn:n=c): ∀ {l:fN} {b:Nat},b≤c→oM c b l→oM (clkE k c l) b (lH k u n l):=by
 subst hn
 intro l
 induction l with
 | nil=>intro b J _; simp only [lH,clkE,lookE]; exact ⟨J,Bb _,aa⟩
 | cons e l ih =>
  intro b J h
  have I:=ih (b:=e.2.2+1) (by have:=h.2.1; omega) h.2.2
  simp only [clkE] at I
  by_cases he:e.1=k
  ·simp only [lH,clkE,lookE,ax he]; exact h
  ·simp only [lH,clkE,lookE,ai he]
   refine ⟨h.1,?_,I⟩
   have:=h.2.1
   split <;> omega
theorem Kj {c:Nat}{k:Int}: ∀ {l:fN} {b:Nat},oM c b l→oM c b (nH k l):=by
 intro l
 induction l with
 | nil=>intro b h; exact h
 | cons e l I =>
  intro b h
  simp only [nH]
  by_cases he:e.1=k
  ·rw [ax he]; exact Iq (by have:=h.1; omega) h.2.2
  ·rw [ai he]; exact ⟨h.1,h.2.1,I h.2.2⟩
def jl (f:V→α→aq)(v:V)(m:List (Int×α)): aq :=
 xs fun id:Nat=>xs fun l:fN=>xs fun c:Nat=>star [.pu (v=.map id∧oM c 0 l∧(m.map (·.1)).Nodup),jk id l c,fT f l m]
section
variable {P:Program} {h h':H} {S:List aq} {v u z:V} {t kt et:TypeId} {k:IntKind} {m:List (Int×α)} {n:Int} {x:α}
theorem gj : Sat h (jl f v m::S)↔∃id l c,v=.map id∧oM c 0 l∧(m.map (·.1)).Nodup∧Sat h (jk id l c::fT f l m::S):=by
 simp only [jl,kj,cR,gX,c_,ri,and_assoc,jk]
theorem ng (hf:∀u x,aQ (f u x))(s:Sat h (jl f v m::S))(hu:P.underlying t=some (.map kt et))(hk:P.underlying kt=some (.int k))(hz:zeroT P et=some z):
  (lookL n m=none∧dW P h t v (.int .i64 n) true=some (.aX [z,.bool false])∧dW P h t v (.int .i64 n) false=some z) ∨
  ∃u x,lookL n m=some x∧dW P h t v (.int .i64 n) true=some (.aX [u,.bool true])∧dW P h t v (.int .i64 n) false=some u∧Sat h (f u x::jl f v m::S):=by
 obtain ⟨id,l,c,rfl,hb,hn,s1⟩:=gj.1 s
 have e2:=s1.TO (n:=n) (j:=0) rfl hu hk hz
 have e1:=s1.TP (n:=n) (j:=0) rfl hu hk hz
 obtain ⟨a,b,q1,q2,q3⟩:=s1.at (k:=1) rfl
 rcases qc (n:=n) q3 with ⟨g1,g2⟩ | ⟨u,x,g1,g2,g3⟩
 ·rw [g1] at e1 e2; exact .inl ⟨g2,e2,e1⟩
 ·rw [g1] at e1 e2
  refine .inr ⟨u,x,g2,e2,e1,?_⟩
  have s2:Sat h (fT f l m::jk id l c::S):=s1.nD [1]
  have s3:=s2.dup (aQ.Mx hf l m)
  have s4:Sat h (f u x::fT f l m::jk id l c::S):=s3.hU fun a' b' h'=>by
   rcases qc (n:=n) h' with ⟨I,_⟩ | ⟨u',x',I,J,R7⟩
   ·rw [g1] at I; cases I
   ·rw [g1] at I; rw [g2] at J; injection I with I; injection J with J; subst I; subst J; exact R7
  have s5:Sat h (jk id l c::fT f l m::f u x::S):=s4.nD [2,1]
  exact (gj.2 ⟨id,l,c,rfl,hb,hn,s5⟩:Sat h (jl f (.map id) m::f u x::S)).nD [1]
theorem mM (J:∀u x,aQ (f u x))(s:Sat h (f u x::jl f v m::S))(hu:P.underlying t=some (.map kt et))(hk:P.underlying kt=some (.int k)):
  ∃h',mapUpdateV P h t v (.int .i64 n) u=some h'∧Sat h' (jl f v (dc n x m)::S):=by
 have s0:Sat h (jl f v m::f u x::S):=s.nD [1]
 obtain ⟨id,l,c,rfl,hb,hn,s1⟩:=gj.1 s0
 obtain ⟨h',e1,I⟩:=s1.update (n:=n) (v:=u) (j:=0) rfl hu hk
 refine ⟨h',e1,?_⟩
 have I:Sat h' (jk id (lH n u c l) (clkE n c l)::fT f l m::f u x::S):=I
 have e3:Sat h' (f u x::fT f l m::jk id (lH n u c l) (clkE n c l)::S):=I.nD [2,1]
 have e4:Sat h' (fT f (lH n u c l) (dc n x m)::jk id (lH n u c l) (clkE n c l)::S):=e3.map fun a b h=>by
  obtain ⟨p1,p2,d1,d2,d3,d4,p3,p4,d5,d6,d7,d8,d9⟩:=h
  exact ⟨fun _=>none,p4,fun _=>.inl rfl,fun _ _ h=>(by cases h),PM.le_trans d7 d3,Kg (J _ _ _ _ d4) (aQ.Mx J _ _ _ _ d8),d9⟩
 exact gj.2 ⟨id,_,_,rfl,Ki rfl (fh _) hb,kK hn,e4.nD [1]⟩
theorem My (s:Sat h (jl f v m::S))(hu:P.underlying t=some (.map kt et))(J:P.underlying kt=some (.int k)):
  ∃h',m0 P h t v (.int .i64 n)=some h'∧Sat h' (jl f v (kW n m)::S):=by
 obtain ⟨id,l,c,rfl,hb,hn,s1⟩:=gj.1 s
 obtain ⟨h',e1,I⟩:=s1.delete (n:=n) (j:=0) rfl hu J
 refine ⟨h',e1,?_⟩
 have I:Sat h' (jk id (nH n l) c::fT f l m::S):=I
 have e3:Sat h' (fT f l m::jk id (nH n l) c::S):=I.nD [1]
 have e4:Sat h' (fT f (nH n l) (kW n m)::jk id (nH n l) c::S):=e3.hU fun a b h=>Kh h
 exact gj.2 ⟨id,_,_,rfl,Kj hb,uw hn,e4.nD [1]⟩
theorem Mz (s:Sat h (jl f v m::S))(hu:P.underlying t=some (.map kt et)): lenV P h t v=some (.int .i64 (m.length:Int)):=by
 obtain ⟨id,l,c,rfl,J,hn,s1⟩:=gj.1 s
 have e:=s1.V1 (j:=0) rfl hu
 obtain ⟨a,b,q1,q2,I⟩:=s1.at (k:=1) rfl
 have:=fo List.length (Ap I)
 simp only [er] at this
 rw [this] at e
 exact e
theorem ry {id:Nat}(s:Sat h (pt id (.map [] 0)::S)): Sat h (jl f (.map id) []::S):=by
 have s1:Sat h (fT f [] []::pt id (.map [] 0)::S):=s.gy aa
 exact gj.2 ⟨id,[],0,rfl,aa,by simp,s1.nD [1]⟩
theorem DT {j:Nat}(s:Sat h S)(I:getA S j=some (jl f v m)): ∃id,v=.map id:=by
 have s1:=s.take j I
 obtain ⟨id,l,c,rfl,_⟩:=gj.1 s1
 exact ⟨id,rfl⟩
end
end
theorem OpR.delete {C:b9}{E:List (Nat×V)}{h:H}{o:Oper}{S':List aq}{cl:Go.Call}{t u:TypeId}{m k:V}(I:o.op=.call cl)(hc:cl.callee=.builtin .delete)(J:cl.argTypes = #[t,u])(ha:lookArgs E cl.args.toList=some [m,k])
 (ho:∃h₁,m0 C.P h t m k=some h₁∧Sat h₁ S'): OpR C E h o fun _ h₁=>Sat h₁ S':=by
 obtain ⟨h₁,e1,e2⟩:=ho
 refine OpR.builtin I hc ha ⟨.aX [],h₁,?_,e2⟩
 simp only [builtinV,J,e1,gY]
end Go.Proofs.YtefepnnfphdkpaaGreat.Am
namespace Go.Proofs.YtefepnnfphdkpaaGreat.Am
open Go Go.Maps Go.RowKit
def keyInts : List (V×V×Nat)→Option (List Int)
 | []=>some []
 | (.int .i64 n,_,_)::l=>cond (Lit.int .i64 n).wf (match keyInts l with
  | some m=>some (n::m)
  | none=>none) none
 | _=>none
def bornUp (clock:Nat): Nat→List (V×V×Nat)→Bool
 | _,[]=>true
 | b,(_,_,x)::l=>cond (Nat.ble b x&&Nat.blt x clock) (bornUp clock (x+1) l) false
def insI (x:Int): List Int→List Int
 | []=>[x]
 | y::l=>cond (decide (x≤y)) (x::y::l) (y::insI x l)
def kX : List Int→List Int
 | []=>[]
 | x::l=>insI x (kX l)
def oV : List Int→Bool
 | []=>true
 | x::l=>l.all (fun y=>decide (x<y))&&oV l
def gr (l:List Int): List V:=l.map (V.int .i64)
noncomputable def toldSorted (gs:List Nat): List V→H→Option (V×H)
 | [.fn (.func g) [] [.ptr b 0]],h=>match h.tr.get b with
  | some (.cells n [.map id] false)=>match h.tr.get id with
   | some (.map es clock)=>cond (Nat.beq n 1&&tU gs g&&bornUp clock 0 es&&Nat.ble es.length 1048576) (match keyInts es with
    | some ks=>cond (oV (kX ks)) (match ks with
     | []=>some (.bn,h)
     | _=>some (.sl h.next 0 ks.length (.rest 1 0),newRow h (gr (kX ks)))) none
    | none=>none) none
   | _=>none
  | _=>none
 | _,_=>none
theorem vL (x:Int): ∀l:List Int,(insI x l).Perm (x::l)
 | []=>.refl _
 | y::l=>by
  simp only [insI]
  cases decide (x≤y) with
  | true=>exact .refl _
  | false=>exact ((vL x l).cons y).trans (.swap x y l)
theorem fG : ∀l:List Int,(kX l).Perm l
 | []=>.refl _
 | x::l=>(vL x _).trans ((fG l).cons x)
theorem Cl : ∀l:List Int,oV l=true→l.Pairwise (· < ·)
 | [],_=>.nil
 | x::l,h=>by
  simp only [oV,aH,ob,dz] at h
  exact List.pairwise_cons.2 ⟨h.1,Cl l h.2⟩
theorem tN : ∀ {l m:List Int},l.Perm m→l.Pairwise (· ≤ ·)→m.Pairwise (· ≤ ·)→l=m
 | [],m,I,_,_=>I.nil_eq
 | a::r,[],I,_,_=>absurd I.symm.nil_eq (by simp)
 | a::r,b::s,I,h1,h2=>by
  obtain ⟨a1,a2⟩:=List.pairwise_cons.1 h1
  obtain ⟨b1,b2⟩:=List.pairwise_cons.1 h2
  have J:a=b:=by
   have ha:a∈b::s:=I.mem_iff.1 (by simp)
   have hb:b∈a::r:=I.mem_iff.2 (by simp)
   have l1:b≤a:=by
    rcases List.mem_cons.1 ha with h | h
    ·omega
    ·exact b1 a h
   have l2:a≤b:=by
    rcases List.mem_cons.1 hb with h | h
    ·omega
    ·exact a1 b h
   omega
  subst J
  rw [tN (List.Perm.cons_inv I) a2 b2]
theorem Cm {clock:Nat}: ∀(l:List (V×V×Nat)) (b:Nat),bornUp clock b l=true→(∀x∈l,b≤x.2.2∧x.2.2<clock)∧(l.map (·.2.2)).Nodup
 | [],_,_=>⟨by simp,by simp⟩
 | (k,v,x)::l,b,h=>by
  simp only [bornUp] at h
  cases J:(Nat.ble b x&&Nat.blt x clock) with
  | false=>rw [J] at h; cases h
  | true =>
   rw [J,af] at h
   simp only [aH,aE,fK] at J
   obtain ⟨i1,i2⟩:=Cm l (x+1) h
   refine ⟨fun y I => ?_,?_⟩
   ·rcases List.mem_cons.1 I with rfl | I
    ·exact J
    ·have:=i1 y I; omega
   ·simp only [cu,mY,lW,not_exists,not_and]
    exact ⟨fun y I e=>by have:=i1 y I; omega,i2⟩
theorem Aq {c:Ctx}: ∀(l:List (V×V×Nat)) (ks:List Int),keyInts l=some ks→l.map (fun x=>conc c x.1)=ks.map (Value.int .i64)∧∀n∈ks,(Lit.int .i64 n).wf=true
 | [],ks,h=>by simp [keyInts] at h; subst h; simp
 | (k,v,b)::l,ks,h=>by
  unfold keyInts at h
  split at h
  ·rename_i he; cases he
  ·rename_i n v' J l' he
   simp only [wR,aC] at he
   obtain ⟨⟨rfl,rfl,rfl⟩,rfl⟩:=he
   cases hw:(Lit.int .i64 n).wf with
   | false=>simp [hw] at h
   | true =>
    cases hm:keyInts l with
    | none=>simp [hw,hm] at h
    | some m =>
     simp [hw,hm] at h
     subst h
     obtain ⟨i1,i2⟩:=Aq (c:=c) l m hm
     refine ⟨by simp [conc,i1],fun x I => ?_⟩
     rcases List.mem_cons.1 I with rfl | I
     ·exact hw
     ·exact i2 x I
  ·cases h
section
variable {c:Ctx} {σ:H} {w w':World}
theorem Rel.below (h:Rel c σ w)(I:Below w.heap.size w w'): Rel c σ w'∧b7 c w c w':=by
 have rows:∀b,b<w.heap.size→rowSize w' b=rowSize w b:=fun b J=>by unfold rowSize; rw [I.block b J]
 refine ⟨⟨h.next,h.live,fun id hi=>gH (h.jr id hi) I.size,fun id hi=>by rw [rows _ (h.jr id hi)]; exact h.zz id hi,h.inj,
  fun id o ho=>(h.obj id o ho).later (Ext.refl c) (h.live id o ho) (I.block _ (h.jr id (h.live id o ho))),h.one,h.fx⟩,
  ⟨Ext.refl c,I.size,rows,fun b J _=>I.block b J,fun id h1 h2=>by omega,I.os,I.output⟩⟩
theorem Rel.take {b:Nat}{cs:List V}{C:Array Value}{T:TypeId}(h:Rel c σ w)(hb:b<w.heap.size)(hr:∀id,id<c.N→(c.ρ id).1≠b)(iV:∀v∈cs,wf c v∧storable v=true)
 (hg:w.heap[b]?=some (.cells C T (0,0)))(hC:C.toList.take cs.length=cs.map (conc c)): Rel (c.grow b 0 C.size) (Am.newRow σ cs) w:=by
 have e:=oK hr 0 C.size
 have hN:(c.grow b 0 C.size).N=c.N+1:=rfl
 have hle:cs.length≤C.size:=by
  have:=fo List.length hC
  simp at this
  omega
 have key:∀i o,(Am.newRow σ cs).tr.get i=some o→(i=c.N∧o=.cells cs.length cs false)∨(i<c.N∧σ.tr.get i=some o):=by
  intro i o hi
  rw [Am.newRow,gh,h.next] at hi
  by_cases J:i=c.N
  ·simp [J] at hi; exact .inl ⟨J,hi.symm⟩
  ·simp [J] at hi; exact .inr ⟨h.live i o hi,hi⟩
 refine ⟨by simp [Am.newRow,H.new,Ctx.grow,h.next],fun i o hi => ?_,fun i hi => ?_,fun i hi => ?_,fun i j o o' hi hj he => ?_,fun i o hi => ?_,fun i m6 kz hi hx => ?_,fun i o hi hx => ?_⟩
 ·rw [hN]; rcases key i o hi with ⟨J,_⟩ | ⟨J,_⟩ <;> omega
 ·rw [hN] at hi
  by_cases J:i=c.N
  ·subst J; rw [aT]; exact hb
  ·rw [cH c _ _ _ (by omega)]; exact h.jr i (by omega)
 ·rw [hN] at hi
  by_cases J:i=c.N
  ·subst J; rw [aT]; simp [Ctx.grow,rowSize,hg]
  ·rw [cH c _ _ _ (by omega),←h.zz i (by omega)]; simp [Ctx.grow,hr i (by omega)]
 ·rcases key i o hi with ⟨I,_⟩ | ⟨I,a2⟩ <;> rcases key j o' hj with ⟨b1,_⟩ | ⟨b1,b2⟩
  ·exact .inl (by omega)
  ·subst I; rw [aT,cH c _ _ _ b1] at he; exact absurd he.symm (hr j b1)
  ·subst b1; rw [aT,cH c _ _ _ I] at he; exact absurd he (hr i I)
  ·rw [cH c _ _ _ I,cH c _ _ _ b1] at he; rw [eP c _ _ _ I,eP c _ _ _ b1]; exact h.inj i j _ _ a2 b2 he
 ·rcases key i o hi with ⟨rfl,rfl⟩ | ⟨I,a2⟩
  ·refine ⟨rfl,fun v hv=>⟨(bM e v (iV v hv).1).2,(iV v hv).2⟩,C,T,(0,0),by rw [aT]; exact hg,by rw [aT]; simpa using hle,fun j v hj => ?_,rfl⟩
   rw [aT,(bM e v (iV v (aV hj)).1).1]
   have UI:j<cs.length:=(List.getElem?_eq_some_iff.1 hj).1
   have J:(C.toList.take cs.length)[j]?=some (conc c v):=by rw [hC]; simp [hj]
   rw [jx,ax UI,iA] at J
   simpa using J
  ·exact (h.obj i o a2).later e I rfl
 ·rcases key i _ hi with ⟨rfl,_⟩ | ⟨I,a2⟩
  ·rw [aT]
  ·rw [eP c _ _ _ I] at hx
   rw [cH c _ _ _ I]; exact h.one i m6 kz a2 hx
 ·rcases key i o hi with ⟨rfl,_⟩ | ⟨I,a2⟩
  ·rw [tY] at hx; cases hx
  ·rw [eP c _ _ _ I] at hx; exact h.fx i o a2 hx
def mC (_:Value): Option (DataW Unit×List MemPlace):=some (.nil,[])
def Cn (P:Program)(f K:Nat)(gs:List Nat): Prop:=∀g∈gs,∀(Bm b nn:Nat) (I:DataW Unit) (w:World),Bm<w.heap.size→w.cell? ⟨Bm,0,none⟩=some (.map (some b)) →
 w.ownsMap P K mC b nn I→Maps.size I≤maxLen→Maps.size I*8≤140737488355328 →
 Calls P f #[.func (.func g) #[] #[.pointer (some ⟨Bm,0,none⟩)]] w fun e w'=>∃(v:Value) (J:List Int),e=.returned v∧J.Perm (intKeys I) ∧
  w'.ownsRow w.heap.size K 1 v J.length ((J.mergeSort (fun x y=>decide (x≤y))).map encZ)∧(v=.slice none 0 0↔J=[])∧Below w.heap.size w w'
theorem CV {P:Program}{f K:Nat}{gs:List Nat}(hK:P.underlying K=some (.int .i64))(hS:Cn P f K gs){args:List V}{v:V}{dU:H}(I:toldSorted gs args σ=some (v,dU))
 (h:Rel c σ w): gw P f args c w v dU:=by
 unfold toldSorted at I
 split at I
 ·rename_i g b
  split at I
  ·rename_i n id Ol
   split at I
   ·rename_i es clock XJ
    cases hq:(Nat.beq n 1&&tU gs g&&bornUp clock 0 es&&Nat.ble es.length 1048576) with
    | false=>simp [hq] at I
    | true =>
     rw [hq,af] at I
     simp only [aH,beq_iff,aE,yA] at hq
     obtain ⟨⟨⟨q1,q2⟩,q3⟩,q4⟩:=hq
     subst q1
     cases hk:keyInts es with
     | none=>simp [hk] at I
     | some ks =>
      simp only [hk] at I
      cases J:oV (kX ks) with
      | false=>simp [J] at I
      | true =>
       simp only [J,af] at I
       obtain ⟨k1,k2⟩:=Aq (c:=c) es ks hk
       obtain ⟨b1,b2⟩:=Cm es 0 q3
       have hlen:ks.length=es.length:=by simpa using (congrArg List.length k1).symm
       have aY:=Cl _ J
       have jU:ks.Nodup:=(fG ks).nodup_iff.1 (aY.imp fun {a b} mh=>by omega)
       have Om:=h.one b _ _ Ol (h.tW Ol (by intro _ _ he; cases he))
       have rM:=cell_of h Ol (j:=0) (v:=.map id) rfl
       have V2:eo c b 0=⟨(c.ρ b).1,0,none⟩:=by simp [eo,Om]
       rw [V2] at rM
       have R8:w.cell? ⟨(c.ρ b).1,0,none⟩=some (.map (some (c.ρ id).1)):=by simpa [conc] using rM
       obtain ⟨m1,m2⟩:=h.obj id _ XJ
       have On:∀x∈es,∃n,n∈ks∧(bN c x).key=.int .i64 n:=fun x hx=>by
        have:conc c x.1∈ks.map (Value.int .i64):=by rw [←k1]; exact List.mem_map.2 ⟨x,hx,rfl⟩
        obtain ⟨n,hn,he⟩:=List.mem_map.1 this
        exact ⟨n,hn,he.symm⟩
       have fU:∀x∈es,∀n,(bN c x).key=.int .i64 n→n∈ks→WideElems.rd P K mC (bN c x)=some (.int .i64 n,.nil):=fun x hx n hn hm=>by
        simp [WideElems.rd,hn,Maps.keyOf_int_mk hK (k2 n hm),mC]
       have V3:w.ownsMap P K mC (c.ρ id).1 es.length (.map (((es.map (bN c)).toArray.toList.map (WideElems.rg P K mC)).foldr DataW.insert [])):=by
        refine ⟨(es.map (bN c)).toArray,clock,m2,⟨by simp [maxLen]; omega,⟨fun x hx => ?_,?_,?_⟩,fun x hx => ?_⟩,by simp,rfl⟩
        ·simp only [lW] at hx
         obtain ⟨y,hy,rfl⟩:=hx
         exact (b1 y hy).2
        ·simpa [bN,sR] using b2
        ·have:(es.map (bN c)).toArray.toList.map (·.key)=ks.map (Value.int .i64):=by rw [←k1]; simp [bN,sR]
         rw [this]
         exact List.pairwise_map.2 (jU.imp fun {a b} dw e=>dw (by simpa using e))
        ·simp only [lW] at hx
         obtain ⟨y,hy,rfl⟩:=hx
         obtain ⟨n,hn,he⟩:=On y hy
         exact ⟨_,fU y hy n he hn⟩
       have eA:Maps.size (H:=Unit) (.map (((es.map (bN c)).toArray.toList.map (WideElems.rg P K mC)).foldr DataW.insert []))=es.length:=by
        rw [Maps.size_eq,(WideShapes.sorted_perm _).length_eq]; simp
       have TR:(intKeys (H:=Unit) (.map (((es.map (bN c)).toArray.toList.map (WideElems.rg P K mC)).foldr DataW.insert []))).Perm ks:=by
        refine ((WideShapes.sorted_perm _).map _).trans ?_
        have:(((es.map (bN c)).toArray.toList.map (WideElems.rg P K mC)).map fun p=>intOf p.1)=ks:=by
         have UJ:∀x∈es,Value.int .i64 (intOf (WideElems.rg P K mC (bN c x)).1)=conc c x.1:=fun x hx=>by
          obtain ⟨n,hn,he⟩:=On x hx
          rw [WideElems.rg_of (fU x hx n he hn)]
          exact he.symm
         have h1:((((es.map (bN c)).toArray.toList.map (WideElems.rg P K mC)).map fun p=>intOf p.1).map (Value.int .i64))=ks.map (Value.int .i64):=by
          rw [←k1]
          simp only [wV]
          exact mS fun x hx=>UJ x hx
         exact List.map_inj_right (fun x y e=>by simpa using e) |>.1 h1
        rw [this]
       have Ir:=hS g q2 (c.ρ b).1 (c.ρ id).1 es.length _ w (h.jr b (h.live b _ Ol)) R8 V3 (by rw [eA]; simp [maxLen]; omega) (by rw [eA]; omega)
       have xD:([V.fn (.func g) [] [.ptr b 0]].map (conc c)).toArray = #[.func (.func g) #[] #[.pointer (some ⟨(c.ρ b).1,0,none⟩)]]:=by simp [conc,concL,Om]
       unfold gw
       rw [xD]
       refine Ir.mono ?_
       rintro e w' ⟨rv,ss,rfl,s1,s2,s3,s4⟩
       obtain ⟨g1,g2⟩:=h.below s4
       have Oo:ss.Perm ks:=s1.trans TR
       have XK:ss.mergeSort (fun x y=>decide (x≤y))=kX ks:=by
        refine tN (((List.mergeSort_perm ss _).trans Oo).trans (fG ks).symm) ?_ (aY.imp fun {a b} mh=>by omega)
        have:=List.pairwise_mergeSort (le:=fun x y:Int=>decide (x≤y)) (fun a b c h1 h2=>by simp at h1 h2 ⊢; omega) (fun a b=>by simp; omega) ss
        exact this.imp fun {a b} mh=>by simpa using mh
       rw [XK] at s2
       split at I
       ·-- no key
        have yz:ss=[]:=by simpa using Oo
        have hv:=s3.2 yz
        simp only [aj,aC] at I
        obtain ⟨rfl,rfl⟩:=I
        exact ⟨c,by rw [hv]; simp [conc],by simp [wf],g1,g2⟩
       ·rename_i dw
        simp only [aj,aC] at I
        obtain ⟨rfl,rfl⟩:=I
        have V4:ss≠[]:=fun e=>by
         subst e
         exact dw (by simpa using Oo.symm)
        have kZ:ss.length=ks.length:=Oo.length_eq
        rcases s2.2 with ⟨e1,_⟩ | ⟨gb,cap,cur,rfl,l1,l2,l3,l4,l5,l6⟩
        ·exact absurd (s3.1 e1) V4
        have V5:gb<w'.heap.size:=(Array.getElem?_eq_some_iff.1 l2).1
        have xV:∀i,i<c.N→(c.ρ i).1≠gb:=fun i hi e=>by have:=h.jr i hi; omega
        have iV:∀x∈gr (kX ks),wf c x∧storable x=true:=fun x hx=>by
         obtain ⟨n,_,rfl⟩:=List.mem_map.1 hx
         simp [wf,storable]
        have DU:(gr (kX ks)).length=ks.length:=by simp [gr,(fG ks).length_eq]
        have TS:cur.toList.take (gr (kX ks)).length=(gr (kX ks)).map (conc c):=by
         rw [DU,←kZ]
         have:ss.length*1=ss.length:=cC _
         rw [this] at l6
         rw [l6]
         simp [gr,conc,encZ,sR]
        have R:=g1.take V5 xV iV l2 TS
        have ua:(c.grow gb 0 cur.size).room σ.next 0 1=cap:=by
         simp only [Ctx.room,h.next,Ctx.grow,bB]
         simp [l5]
        refine ⟨c.grow gb 0 cur.size,?_,?_,R,g2.CZ xV l1⟩
        ·simp only [conc,ua]
         simp [h.next,Ctx.grow,kZ]
        ·simp only [wf,ua]
         exact ⟨by rw [h.next]; simp [Ctx.grow],aD _,by omega⟩
   ·cases I
  ·cases I
 ·cases I
end
end Go.Proofs.YtefepnnfphdkpaaGreat.Am
