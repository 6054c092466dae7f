/- AtomCuts: a part of its proof; conditions: its statement's. -/
import Derived.Test.YtconhghphklfjaaGreatC15
import Derived.Test.YtconhghphklfjaaGreatC11
import Derived.Shelf.SlIterI.Sorted
namespace Go.Proofs.YtconhghphklfjaaGreat.Am
open Go
abbrev bZ := List (Int×V×Nat)
def ep (e:Int×V×Nat): V×V×Nat:=(.int .i64 e.1,e.2)
def lookE (n:Int): bZ→Option V
 | []=>none
 | e::l=>if e.1=n then some e.2.1 else lookE n l
def jH (n:Int)(v:V)(c:Nat): bZ→bZ
 | []=>[(n,v,c)]
 | e::l=>if e.1=n then (e.1,v,e.2.2)::l else e::jH n v c l
def mG (n:Int): bZ→bZ
 | []=>[]
 | e::l=>if e.1=n then l else e::mG n l
def clkE (n:Int)(c:Nat)(l:bZ): Nat:=match lookE n l with
 | some _=>c
 | none=>c+1
abbrev fy (id:Nat)(l:bZ)(c:Nat): ax:=pt id (.map (l.map ep) c)
def idxE (n:Int): bZ→Nat→Option (Nat×V)
 | [],_=>none
 | e::l,i=>if e.1=n then some (i,e.2.1) else idxE n l (i+1)
theorem nU (a b:Int): intBeq a b=decide (a=b):=by
 cases I:intBeq a b with
 | true=>simp [u7 I]
 | false =>
  by_cases he:a=b
  ·subst he; rw [lF] at I; cases I
  ·simp [he]
theorem rB {k:IntKind}{n:Int}: ∀(l:bZ) (i:Nat),findK (.int k) (.int .i64 n) (l.map ep) i=some (idxE n l i):=by
 intro l
 induction l with
 | nil=>intro i; rfl
 | cons e l I =>
  intro i
  simp only [bJ,findK,ep,keyBeq,dD,ag,nU,idxE]
  by_cases he:e.1=n
  ·have:n=e.1:=he.symm
   simp [this]
  ·have:decide (n=e.1)=false:=by simp; exact fun h=>he h.symm
   rw [this,af he]
   exact I (i+1)
theorem pR {n:Int}: ∀(l:bZ) (i:Nat),(idxE n l i).map (·.2)=lookE n l:=by
 intro l
 induction l with
 | nil=>intro i; rfl
 | cons e l I =>
  intro i
  simp only [idxE,lookE]
  by_cases he:e.1=n
  ·simp [he]
  ·simp only [af he]; exact I (i+1)
theorem Ke {n:Int}: ∀(l:bZ) (i j:Nat) (v:V),idxE n l i=some (j,v)→i≤j:=by
 intro l
 induction l with
 | nil=>intro i j v h; cases h
 | cons e l I =>
  intro i j v h
  simp only [idxE] at h
  by_cases he:e.1=n
  ·rw [aj he] at h; injection h with h; injection h with J U; omega
  ·rw [af he] at h; have:=I _ _ _ h; omega
theorem XO {n:Int}{v:V}{c:Nat}: ∀(l:bZ) (i j:Nat) (u:V),idxE n l i=some (j,u)→setNth (l.map ep) (j-i) (fun e=>(e.1,v,e.2.2))=(jH n v c l).map ep:=by
 intro l
 induction l with
 | nil=>intro i j u h; cases h
 | cons e l I =>
  intro i j u h
  simp only [idxE] at h
  simp only [jH,bJ,setNth]
  by_cases he:e.1=n
  ·rw [aj he] at h; injection h with h; injection h with J U
   subst J
   rw [aj he,Ao]
   rfl
  ·rw [af he] at h
   have h3:=Ke _ _ _ _ h
   rw [af he,cS (by omega),az,show j-i-1=j-(i+1) by omega,I _ _ _ h]
   rfl
theorem VO {n:Int}: ∀(l:bZ) (i j:Nat) (u:V),idxE n l i=some (j,u)→kx (l.map ep) (j-i)=(mG n l).map ep:=by
 intro l
 induction l with
 | nil=>intro i j u h; cases h
 | cons e l I =>
  intro i j u h
  simp only [idxE] at h
  simp only [mG,bJ,kx]
  by_cases he:e.1=n
  ·rw [aj he] at h; injection h with h; injection h with J U
   subst J
   rw [aj he,Ao]
   rfl
  ·rw [af he] at h
   have h3:=Ke _ _ _ _ h
   rw [af he,cS (by omega),az,show j-i-1=j-(i+1) by omega,I _ _ _ h]
   rfl
theorem Tt {n:Int}{v:V}{c:Nat}: ∀(l:bZ),lookE n l=none→jH n v c l=l++[(n,v,c)]:=by
 intro l
 induction l with
 | nil=>intro _; rfl
 | cons e l I =>
  intro h
  simp only [lookE] at h
  by_cases he:e.1=n
  ·rw [aj he] at h; cases h
  ·rw [af he] at h; simp only [jH,af he,I h,fq]
theorem Qb {n:Int}: ∀(l:bZ),lookE n l=none→mG n l=l:=by
 intro l
 induction l with
 | nil=>intro _; rfl
 | cons e l I =>
  intro h
  simp only [lookE] at h
  by_cases he:e.1=n
  ·rw [aj he] at h; cases h
  ·rw [af he] at h; simp only [mG,af he,I h]
section
variable {P:Program} {h h':H} {S:List ax} {v z:V} {t kt et:TypeId} {k:IntKind} {id c j:Nat} {l:bZ} {n:Int}
theorem Sat.Sf (s:Sat h S)(I:getA S j=some (fy id l c))(hu:P.underlying t=some (.map kt et))(J:P.underlying kt=some (.int k))(U:zeroT P et=some z):
  fc P h t (.map id) (.int .i64 n) true=some (match lookE n l with | some v=>.bD [v,.bool true] | none=>.bD [z,.bool false]):=by
 have hg:=s.row I
 simp only [fc,lookupV,hu,J,U,hg,keyBeq,dD,ag,rB]
 rw [←pR l 0]
 cases idxE n l 0 with
 | none=>rfl
 | some q=>rfl
theorem Sat.XP (s:Sat h S)(I:getA S j=some (fy id l c))(hu:P.underlying t=some (.map kt et))(J:P.underlying kt=some (.int k))(U:zeroT P et=some z):
  fc P h t (.map id) (.int .i64 n) false=some (match lookE n l with | some v=>v | none=>z):=by
 have hg:=s.row I
 simp only [fc,lookupV,hu,J,U,hg,keyBeq,dD,ag,rB]
 rw [←pR l 0]
 cases idxE n l 0 with
 | none=>rfl
 | some q=>rfl
theorem Sat.update (s:Sat h S)(U:getA S j=some (fy id l c))(hu:P.underlying t=some (.map kt et))(hk:P.underlying kt=some (.int k)):
  ∃h',mapUpdateV P h t (.map id) (.int .i64 n) v=some h'∧Sat h' (setA S j (fy id (jH n v c l) (clkE n c l))):=by
 have hg:=s.row U
 refine ⟨h.put id (some (.map ((jH n v c l).map ep) (clkE n c l))),?_,s.put U⟩
 simp only [mapUpdateV,hu,hk,hg,keyBeq,dD,ag,rB]
 have I:=pR (n:=n) l 0
 cases J:idxE n l 0 with
 | none =>
  rw [J] at I
  have I:lookE n l=none:=I.symm
  simp only [clkE,I,Tt l I,Ai]
  rfl
 | some q =>
  obtain ⟨i,u⟩:=q
  rw [J] at I
  have I:lookE n l=some u:=I.symm
  simp only [clkE,I]
  rw [←XO (v:=v) (c:=c) l 0 i u J,kr]
theorem Sat.delete (s:Sat h S)(J:getA S j=some (fy id l c))(hu:P.underlying t=some (.map kt et))(hk:P.underlying kt=some (.int k)):
  ∃h',mZ P h t (.map id) (.int .i64 n)=some h'∧Sat h' (setA S j (fy id (mG n l) c)):=by
 have hg:=s.row J
 simp only [mZ,hu,hk,hg,keyBeq,dD,ag,rB]
 have I:=pR (n:=n) l 0
 cases U:idxE n l 0 with
 | none =>
  rw [U] at I
  have I:lookE n l=none:=I.symm
  refine ⟨h,rfl,?_⟩
  rw [Qb l I]
  have:∀(S:List ax) (j:Nat) (A:ax),getA S j=some A→setA S j A=S:=by
   intro S
   induction S with
   | nil=>intro j A h; cases h
   | cons B S ih =>
    intro j A h
    cases j with
    | zero=>simp only [getA] at h; injection h with h; subst h; rfl
    | succ j=>simp only [getA] at h; simp only [setA,ih j A h]
  rw [this S j _ J]
  exact s
 | some q =>
  obtain ⟨i,u⟩:=q
  refine ⟨_,rfl,?_⟩
  have e:=VO l 0 i u U
  rw [kr] at e
  rw [e]
  exact s.put J
theorem Sat.aag (s:Sat h S)(I:getA S j=some (fy id l c))(hu:P.underlying t=some (.map kt et)): lenV P h t (.map id)=some (.int .i64 (l.length:Int)):=by
 have J:=s.row I
 simp only [lenV,hu,J,en]
end
section
variable {C:dx} {E:List (Nat×V)} {h h':H} {o:Oper} {S':List ax} {x y z:Operand} {a b v u:V} {t:TypeId} {cl:Go.Call}
theorem OpR.upd (I:∀env,kH env E→evOp C (ev C 0) env h o=(match mapUpdateV C.P h t a b v with | some h'=>some (cx,h') | none=>none))
 (ho:∃h₁,mapUpdateV C.P h t a b v=some h₁∧Sat h₁ S'): OpR C E h o fun _ h₁=>Sat h₁ S':=by
 obtain ⟨h₁,J,U⟩:=ho
 exact ⟨cx,h₁,U,fun env he=>⟨0,by rw [I env he,J]⟩⟩
theorem OpR.mapUpdate (I:o.op=.mapUpdate t x y z)(J:lookO E x=some a)(U:lookO E y=some b)(hz:lookO E z=some v)
 (ho:∃h₁,mapUpdateV C.P h t a b v=some h₁∧Sat h₁ S'): OpR C E h o fun _ h₁=>Sat h₁ S':=by
 refine OpR.upd (t:=t) (a:=a) (b:=b) (v:=v) (fun env he => ?_) ho
 simp only [evOp,I,bO he J,bO he U,bO he hz,rJ]
 cases mapUpdateV C.P h t a b v <;> rfl
theorem OpR.builtin {args:List V}{bi:Builtin}{R:V→H→Prop}(I:o.op=.call cl)(J:cl.callee=.builtin bi)(U:lookArgs E cl.args.toList=some args)(ho:∃v h₁,builtinV C.P h bi cl.argTypes args=some (v,h₁)∧R v h₁): OpR C E h o R:=by
 obtain ⟨v,h₁,e1,e2⟩:=ho
 refine OpR.of ?_ e2
 rw [I]
 simp only [opE,J,U,e1]
theorem OpR.oL {l m:List Nat}{S:List ax}{X:ax}(hP:C.P=Tryz.prog)(s:Sat h (bH v l::X::S))(hX:cT X (cU u m))(I:o.op=.call cl)(hc:cl.callee=.builtin .append)(J:cl.argTypes = #[32,32])(ha:lookArgs E cl.args.toList=some [v,u])
 (U:l.length+m.length≤140737488355328): OpR C E h o fun v' h₁=>Sat h₁ (bH v' (l++m)::X::S):=by
 obtain ⟨v',h₁,e1,e2⟩:=CO s hX U
 refine OpR.builtin I hc ha ⟨v',h₁,?_,e2⟩
 simp only [builtinV,hP,J,e1]
theorem OpR.wo {S:List ax}{c:Nat}(J:C.P=Tryz.prog)(s:Sat h S)(I:o.op=.makeSlice t x y)(U:t=32)(hx:lookO E x=some (.int .i64 0))(hy:lookO E y=some (.int .i64 (c:Int)))(hc:c<1073741824): OpR C E h o fun v' h₁=>Sat h₁ (bH v' []::S):=by
 obtain ⟨v',h₁,e1,e2⟩:=E6 s hc
 exact OpR.of (by rw [I,U,J]; exact rO hx hy e1) e2
theorem OpR.F7 {S:List ax}{c:Nat}(J:C.P=Tryz.prog)(s:Sat h S)(I:o.op=.makeSlice t x y)(U:t=32)(hx:lookO E x=some (.int .i64 (c:Int)))(hy:lookO E y=some (.int .i64 (c:Int)))(hc:c<1073741824): OpR C E h o fun v' h₁=>Sat h₁ (bH v' (List.replicate c 0)::S):=by
 obtain ⟨v',h₁,e1,e2⟩:=Nw s hc
 exact OpR.of (by rw [I,U,J]; exact rO hx hy e1) e2
theorem OpR.XQ {l m:List Nat}{S:List ax}{X:ax}{p q:Nat}(hP:C.P=Tryz.prog)(s:Sat h (bH v l::X::S))(hX:cT X (cU u m))(I:o.op=.call cl)(hc:cl.callee=.builtin .copy)(J:cl.argTypes = #[32,32])(ha:lookArgs E cl.args.toList=some [slR v p q,u])
 (U:p<q)(hq:q≤l.length)(hm:1≤m.length): OpR C E h o fun _ h₁=>Sat h₁ (bH v (c9 l p (m.take (q-p)))::X::S):=by
 obtain ⟨h₁,e1,e2⟩:=G3 s hX U hq hm
 refine OpR.builtin I hc ha ⟨.int .i64 (min m.length (q-p):Nat),h₁,?_,e2⟩
 simp only [builtinV,hP,J,e1]
theorem OpR.LB {S:List ax}{n:Nat}{ps:Array (Nat×Operand)}(J:C.P=Tryz.prog)(s:Sat h S)(I:o.op=.buildSlice t 1 ps)(U:t=32)(hx:lookParts E ps.toList=some [(0,.int .u8 (n:Int))])(hn:n<256): OpR C E h o fun v' h₁=>Sat h₁ (bH v' [n]::S):=by
 obtain ⟨v',h₁,e1,e2⟩:=Nx s hn
 exact OpR.of (by rw [I,U,J]; exact oJ hx e1) e2
end
section
variable {α:Type}
def lookL (n:Int): List (Int×α)→Option α
 | []=>none
 | e::l=>if e.1=n then some e.2 else lookL n l
def cM (n:Int)(a:α): List (Int×α)→List (Int×α)
 | []=>[(n,a)]
 | e::l=>if e.1=n then (n,a)::l else e::cM n a l
def m8 (n:Int): List (Int×α)→List (Int×α)
 | []=>[]
 | e::l=>if e.1=n then l else e::m8 n l
theorem gQ {n k:Int}{a:α}: ∀l:List (Int×α),lookL k (cM n a l)=if n=k then some a else lookL k l:=by
 intro l
 induction l with
 | nil=>simp [cM,lookL]
 | cons e l J =>
  simp only [cM]
  by_cases he:e.1=n
  ·rw [aj he]
   simp only [lookL]
   by_cases I:n=k
   ·simp [I]
   ·have:¬ e.1=k:=fun h=>I (by rw [←he,h])
    simp [I,this]
  ·rw [af he]
   simp only [lookL,J]
   by_cases I:e.1=k
   ·have:¬ n=k:=fun h=>he (by rw [I,h])
    simp [I,this]
   ·simp [I]
theorem f_ {n:Int}: ∀ {l:List (Int×α)},lookL n l=none↔n∉l.map (·.1):=by
 intro l
 induction l with
 | nil=>simp [lookL]
 | cons e l I =>
  simp only [lookL,bJ,fb,pG]
  by_cases he:e.1=n
  ·simp [he]
  ·rw [af he,I]
   exact ⟨fun h=>⟨fun J=>he J.symm,h⟩,fun h=>h.2⟩
theorem E7 {n k:Int}: ∀ {l:List (Int×α)},(l.map (·.1)).Nodup→lookL k (m8 n l)=if n=k then none else lookL k l:=by
 intro l
 induction l with
 | nil=>simp [m8,lookL]
 | cons e l U =>
  intro J
  simp only [bJ,lW] at J
  simp only [m8]
  by_cases he:e.1=n
  ·rw [aj he]
   by_cases I:n=k
   ·rw [aj I,←I,f_,←he]; exact J.1
   ·have:¬ e.1=k:=fun h=>I (by rw [←he,h])
    simp [lookL,I,this]
  ·rw [af he]
   simp only [lookL,U J.2]
   by_cases I:e.1=k
   ·have:¬ n=k:=fun h=>he (by rw [I,h])
    simp [I,this]
   ·simp [I]
theorem oM {n:Int}{a:α}: ∀ {l:List (Int×α)} {k:Int},k∈(cM n a l).map (·.1)↔k=n∨k∈l.map (·.1):=by
 intro l
 induction l with
 | nil=>intro k; simp [cM]
 | cons e l I =>
  intro k
  simp only [cM]
  by_cases he:e.1=n
  ·rw [aj he]; simp [he]
  ·rw [af he]
   simp only [bJ,fb,I]
   constructor
   ·rintro (h | h | h) <;> simp [h]
   ·rintro (h | h | h) <;> simp [h]
theorem iL {n:Int}{a:α}: ∀ {l:List (Int×α)},(l.map (·.1)).Nodup→((cM n a l).map (·.1)).Nodup:=by
 intro l
 induction l with
 | nil=>simp [cM]
 | cons e l J =>
  intro I
  simp only [bJ,lW] at I
  simp only [cM]
  by_cases he:e.1=n
  ·rw [aj he]; simp only [bJ,lW]; rw [←he]; exact I
  ·rw [af he]
   simp only [bJ,lW]
   refine ⟨fun h => ?_,J I.2⟩
   rcases oM.1 h with h | h
   ·exact he h
   ·exact I.1 h
theorem Qc {n:Int}: ∀ {l:List (Int×α)} {k:Int},k∈(m8 n l).map (·.1)→k∈l.map (·.1):=by
 intro l
 induction l with
 | nil=>intro k h; exact h
 | cons e l I =>
  intro k h
  simp only [m8] at h
  by_cases he:e.1=n
  ·rw [aj he] at h; simp only [bJ,fb]; exact .inr h
  ·rw [af he] at h
   simp only [bJ,fb] at h ⊢
   exact h.imp_right I
theorem w_ {n:Int}: ∀ {l:List (Int×α)},(l.map (·.1)).Nodup→((m8 n l).map (·.1)).Nodup:=by
 intro l
 induction l with
 | nil=>simp [m8]
 | cons e l J =>
  intro I
  simp only [bJ,lW] at I
  simp only [m8]
  by_cases he:e.1=n
  ·rw [aj he]; exact I.2
  ·rw [af he]
   simp only [bJ,lW]
   exact ⟨fun h=>I.1 (Qc h),J I.2⟩
def eu (f:V→α→ax): bZ→List (Int×α)→ax
 | [],[]=>.pu True
 | e::l,x::m=>.an (.an (.pu (e.1=x.1)) (f e.2.1 x.2)) (eu f l m)
 | _,_=>.pu False
variable {f:V→α→ax} {a b:PM}
theorem tc : ∀ {l:bZ} {m:List (Int×α)},(eu f l m).p a b→l.map (·.1)=m.map (·.1):=by
 intro l
 induction l with
 | nil=>intro m h; cases m with
  | nil=>rfl
  | cons x m=>exact h.elim
 | cons e l I=>intro m h; cases m with
  | nil=>exact h.elim
  | cons x m=>simp only [bJ]; rw [h.1.1,I h.2]
theorem td {n:Int}: ∀ {l:bZ} {m:List (Int×α)},(eu f l m).p a b→(lookE n l=none∧lookL n m=none)∨∃u x,lookE n l=some u∧lookL n m=some x∧(f u x).p a b:=by
 intro l
 induction l with
 | nil=>intro m h; cases m with
  | nil=>exact .inl ⟨rfl,rfl⟩
  | cons x m=>exact h.elim
 | cons e l J=>intro m h; cases m with
  | nil=>exact h.elim
  | cons x m =>
   obtain ⟨⟨I,U⟩,h3⟩:=h
   have I:e.1=x.1:=I
   simp only [lookE,lookL,←I]
   by_cases he:e.1=n
   ·rw [aj he,aj he]; exact .inr ⟨_,_,rfl,rfl,U⟩
   ·rw [af he,af he]; exact J h3
theorem E8 {n:Int}{u:V}{x:α}{c:Nat}(hu:(f u x).p a b): ∀ {l:bZ} {m:List (Int×α)},(eu f l m).p a b→(eu f (jH n u c l) (cM n x m)).p a b:=by
 intro l
 induction l with
 | nil=>intro m h; cases m with
  | nil=>exact ⟨⟨rfl,hu⟩,aa⟩
  | cons x m=>exact h.elim
 | cons e l U=>intro m h; cases m with
  | nil=>exact h.elim
  | cons y m =>
   obtain ⟨⟨I,h2⟩,J⟩:=h
   have I:e.1=y.1:=I
   simp only [jH,cM,←I]
   by_cases he:e.1=n
   ·rw [aj he,aj he]; exact ⟨⟨he,hu⟩,J⟩
   ·rw [af he,af he]; exact ⟨⟨I,h2⟩,U J⟩
theorem NB {n:Int}: ∀ {l:bZ} {m:List (Int×α)},(eu f l m).p a b→(eu f (mG n l) (m8 n m)).p a b:=by
 intro l
 induction l with
 | nil=>intro m h; cases m with
  | nil=>trivial
  | cons x m=>exact h.elim
 | cons e l U=>intro m h; cases m with
  | nil=>exact h.elim
  | cons y m =>
   obtain ⟨⟨I,h2⟩,J⟩:=h
   have I:e.1=y.1:=I
   simp only [mG,m8,←I]
   by_cases he:e.1=n
   ·rw [aj he,aj he]; exact J
   ·rw [af he,af he]; exact ⟨⟨I,h2⟩,U J⟩
theorem aE.G6 (I:∀u x,aE (f u x)): ∀(l:bZ) (m:List (Int×α)),aE (eu f l m):=by
 intro l
 induction l with
 | nil=>intro m; cases m <;> exact aE.pu _
 | cons e l J=>intro m; cases m with
  | nil=>exact aE.pu _
  | cons x m=>exact aE.an (aE.an (aE.pu _) (I _ _)) (J m)
def eX (c:Nat): Nat→bZ→Prop
 | _,[]=>True
 | b,e::l=>b≤e.2.2∧e.2.2<c∧eX c (e.2.2+1) l
theorem CR {c:Nat}: ∀ {l:bZ} {b I:Nat},I≤b→eX c b l→eX c I l:=by
 intro l
 cases l with
 | nil=>intro b I _ _; trivial
 | cons e l=>intro b I h J; exact ⟨cL h J.1,J.2⟩
theorem yS {c n:Nat}{k:Int}{u:V}(U:n=c): ∀ {l:bZ} {b:Nat},b≤c→eX c b l→eX (clkE k c l) b (jH k u n l):=by
 subst U
 intro l
 induction l with
 | nil=>intro b J _; simp only [jH,clkE,lookE]; exact ⟨J,DS _,aa⟩
 | cons e l ih =>
  intro b J h
  have I:=ih (b:=e.2.2+1) (by have:=h.2.1; omega) h.2.2
  simp only [clkE] at I
  by_cases he:e.1=k
  ·simp only [jH,clkE,lookE,aj he]; exact h
  ·simp only [jH,clkE,lookE,af he]
   refine ⟨h.1,?_,I⟩
   have:=h.2.1
   split <;> omega
theorem NC {c:Nat}{k:Int}: ∀ {l:bZ} {b:Nat},eX c b l→eX c b (mG k l):=by
 intro l
 induction l with
 | nil=>intro b h; exact h
 | cons e l I =>
  intro b h
  simp only [mG]
  by_cases he:e.1=k
  ·rw [aj he]; exact CR (by have:=h.1; omega) h.2.2
  ·rw [af he]; exact ⟨h.1,h.2.1,I h.2.2⟩
def i_ (f:V→α→ax)(v:V)(m:List (Int×α)): ax :=
 xs fun id:Nat=>xs fun l:bZ=>xs fun c:Nat=>star [.pu (v=.map id∧eX c 0 l∧(m.map (·.1)).Nodup),fy id l c,eu f l m]
section
variable {P:Program} {h h':H} {S:List ax} {v u z:V} {t kt et:TypeId} {k:IntKind} {m:List (Int×α)} {n:Int} {x:α}
theorem eA : Sat h (i_ f v m::S)↔∃id l c,v=.map id∧eX c 0 l∧(m.map (·.1)).Nodup∧Sat h (fy id l c::eu f l m::S):=by
 simp only [i_,gw,dZ,fq,cW,eL,and_assoc,fy]
theorem mw (hf:∀u x,aE (f u x))(s:Sat h (i_ f v m::S))(hu:P.underlying t=some (.map kt et))(hk:P.underlying kt=some (.int k))(hz:zeroT P et=some z):
  (lookL n m=none∧fc P h t v (.int .i64 n) true=some (.bD [z,.bool false])∧fc P h t v (.int .i64 n) false=some z) ∨
  ∃u x,lookL n m=some x∧fc P h t v (.int .i64 n) true=some (.bD [u,.bool true])∧fc P h t v (.int .i64 n) false=some u∧Sat h (f u x::i_ f v m::S):=by
 obtain ⟨id,l,c,rfl,hb,hn,s1⟩:=eA.1 s
 have e2:=s1.Sf (n:=n) (j:=0) rfl hu hk hz
 have e1:=s1.XP (n:=n) (j:=0) rfl hu hk hz
 obtain ⟨a,b,q1,q2,q3⟩:=s1.at (k:=1) rfl
 rcases td (n:=n) q3 with ⟨U,g2⟩ | ⟨u,x,U,g2,g3⟩
 ·rw [U] at e1 e2; exact .inl ⟨g2,e2,e1⟩
 ·rw [U] at e1 e2
  refine .inr ⟨u,x,g2,e2,e1,?_⟩
  have s2:Sat h (eu f l m::fy id l c::S):=s1.qm [1]
  have s3:=s2.dup (aE.G6 hf l m)
  have s4:Sat h (f u x::eu f l m::fy id l c::S):=s3.fP fun a' b' h'=>by
   rcases td (n:=n) h' with ⟨I,_⟩ | ⟨u',x',I,J,VQ⟩
   ·rw [U] at I; cases I
   ·rw [U] at I; rw [g2] at J; injection I with I; injection J with J; subst I; subst J; exact VQ
  have s5:Sat h (fy id l c::eu f l m::f u x::S):=s4.qm [2,1]
  exact (eA.2 ⟨id,l,c,rfl,hb,hn,s5⟩:Sat h (i_ f (.map id) m::f u x::S)).qm [1]
theorem oN (J:∀u x,aE (f u x))(s:Sat h (f u x::i_ f v m::S))(hu:P.underlying t=some (.map kt et))(U:P.underlying kt=some (.int k)):
  ∃h',mapUpdateV P h t v (.int .i64 n) u=some h'∧Sat h' (i_ f v (cM n x m)::S):=by
 have s0:Sat h (i_ f v m::f u x::S):=s.qm [1]
 obtain ⟨id,l,c,rfl,hb,hn,s1⟩:=eA.1 s0
 obtain ⟨h',e1,I⟩:=s1.update (n:=n) (v:=u) (j:=0) rfl hu U
 refine ⟨h',e1,?_⟩
 have I:Sat h' (fy id (jH n u c l) (clkE n c l)::eu f l m::f u x::S):=I
 have e3:Sat h' (f u x::eu f l m::fy id (jH n u c l) (clkE n c l)::S):=I.qm [2,1]
 have e4:Sat h' (eu f (jH n u c l) (cM n x m)::fy id (jH n u c l) (clkE n c l)::S):=e3.map fun a b h=>by
  obtain ⟨p1,p2,d1,d2,d3,d4,p3,p4,d5,d6,d7,d8,d9⟩:=h
  exact ⟨fun _=>none,p4,fun _=>.inl rfl,fun _ _ h=>(by cases h),PM.le_trans d7 d3,E8 (J _ _ _ _ d4) (aE.G6 J _ _ _ _ d8),d9⟩
 exact eA.2 ⟨id,_,_,rfl,yS rfl (eU _) hb,iL hn,e4.qm [1]⟩
theorem Qd (s:Sat h (i_ f v m::S))(hu:P.underlying t=some (.map kt et))(J:P.underlying kt=some (.int k)):
  ∃h',mZ P h t v (.int .i64 n)=some h'∧Sat h' (i_ f v (m8 n m)::S):=by
 obtain ⟨id,l,c,rfl,U,hn,s1⟩:=eA.1 s
 obtain ⟨h',e1,I⟩:=s1.delete (n:=n) (j:=0) rfl hu J
 refine ⟨h',e1,?_⟩
 have I:Sat h' (fy id (mG n l) c::eu f l m::S):=I
 have e3:Sat h' (eu f l m::fy id (mG n l) c::S):=I.qm [1]
 have e4:Sat h' (eu f (mG n l) (m8 n m)::fy id (mG n l) c::S):=e3.fP fun a b h=>NB h
 exact eA.2 ⟨id,_,_,rfl,NC U,w_ hn,e4.qm [1]⟩
theorem BH (s:Sat h (i_ f v m::S))(hu:P.underlying t=some (.map kt et)): lenV P h t v=some (.int .i64 (m.length:Int)):=by
 obtain ⟨id,l,c,rfl,J,U,s1⟩:=eA.1 s
 have e:=s1.aag (j:=0) rfl hu
 obtain ⟨a,b,q1,q2,I⟩:=s1.at (k:=1) rfl
 have:=jh List.length (tc I)
 simp only [en] at this
 rw [this] at e
 exact e
theorem uD {id:Nat}(s:Sat h (pt id (.map [] 0)::S)): Sat h (i_ f (.map id) []::S):=by
 have s1:Sat h (eu f [] []::pt id (.map [] 0)::S):=s.gD aa
 exact eA.2 ⟨id,[],0,rfl,aa,by simp,s1.qm [1]⟩
theorem yT {j:Nat}(s:Sat h S)(I:getA S j=some (i_ f v m)): ∃id,v=.map id:=by
 have s1:=s.take j I
 obtain ⟨id,l,c,rfl,_⟩:=eA.1 s1
 exact ⟨id,rfl⟩
end
end
theorem OpR.delete {C:dx}{E:List (Nat×V)}{h:H}{o:Oper}{S':List ax}{cl:Go.Call}{t u:TypeId}{m k:V}(I:o.op=.call cl)(U:cl.callee=.builtin .delete)(J:cl.argTypes = #[t,u])(ha:lookArgs E cl.args.toList=some [m,k])
 (ho:∃h₁,mZ C.P h t m k=some h₁∧Sat h₁ S'): OpR C E h o fun _ h₁=>Sat h₁ S':=by
 obtain ⟨h₁,e1,e2⟩:=ho
 refine OpR.builtin I U ha ⟨.bD [],h₁,?_,e2⟩
 simp only [builtinV,J,e1,je]
end Go.Proofs.YtconhghphklfjaaGreat.Am
namespace Go.Proofs.YtconhghphklfjaaGreat.Am
open Go Go.Maps Go.RowKit
def keyInts : List (V×V×Nat)→Option (List Int)
 | []=>some []
 | (.int .i64 n,_,_)::l=>cond (Lit.int .i64 n).wf (match keyInts l with
  | some m=>some (n::m)
  | none=>none) none
 | _=>none
def bornUp (clock:Nat): Nat→List (V×V×Nat)→Bool
 | _,[]=>true
 | b,(_,_,x)::l=>cond (Nat.ble b x&&Nat.blt x clock) (bornUp clock (x+1) l) false
def insI (x:Int): List Int→List Int
 | []=>[x]
 | y::l=>cond (decide (x≤y)) (x::y::l) (y::insI x l)
def m9 : List Int→List Int
 | []=>[]
 | x::l=>insI x (m9 l)
def r9 : List Int→Bool
 | []=>true
 | x::l=>l.all (fun y=>decide (x<y))&&r9 l
def eN (l:List Int): List V:=l.map (V.int .i64)
noncomputable def toldSorted (gs:List Nat): List V→H→Option (V×H)
 | [.fn (.func g) [] [.ptr b 0]],h=>match h.tr.get b with
  | some (.cells n [.map id] false)=>match h.tr.get id with
   | some (.map es clock)=>cond (Nat.beq n 1&&wI gs g&&bornUp clock 0 es&&Nat.ble es.length 1048576) (match keyInts es with
    | some ks=>cond (r9 (m9 ks)) (match ks with
     | []=>some (.bz,h)
     | _=>some (.sl h.next 0 ks.length (.rest 1 0),newRow h (eN (m9 ks)))) none
    | none=>none) none
   | _=>none
  | _=>none
 | _,_=>none
theorem yU (x:Int): ∀l:List Int,(insI x l).Perm (x::l)
 | []=>.refl _
 | y::l=>by
  simp only [insI]
  cases decide (x≤y) with
  | true=>exact .refl _
  | false=>exact ((yU x l).cons y).trans (.swap x y l)
theorem eB : ∀l:List Int,(m9 l).Perm l
 | []=>.refl _
 | x::l=>(yU x _).trans ((eB l).cons x)
theorem E9 : ∀l:List Int,r9 l=true→l.Pairwise (· < ·)
 | [],_=>.nil
 | x::l,h=>by
  simp only [r9,aY,o_,ej] at h
  exact List.pairwise_cons.2 ⟨h.1,E9 l h.2⟩
theorem wq : ∀ {l m:List Int},l.Perm m→l.Pairwise (· ≤ ·)→m.Pairwise (· ≤ ·)→l=m
 | [],m,I,_,_=>I.nil_eq
 | a::r,[],I,_,_=>absurd I.symm.nil_eq (by simp)
 | a::r,b::s,I,U,h2=>by
  obtain ⟨a1,a2⟩:=List.pairwise_cons.1 U
  obtain ⟨b1,b2⟩:=List.pairwise_cons.1 h2
  have J:a=b:=by
   have ha:a∈b::s:=I.mem_iff.1 (by simp)
   have hb:b∈a::r:=I.mem_iff.2 (by simp)
   have l1:b≤a:=by
    rcases List.mem_cons.1 ha with h | h
    ·omega
    ·exact b1 a h
   have l2:a≤b:=by
    rcases List.mem_cons.1 hb with h | h
    ·omega
    ·exact a1 b h
   omega
  subst J
  rw [wq (List.Perm.cons_inv I) a2 b2]
theorem E_ {clock:Nat}: ∀(l:List (V×V×Nat)) (b:Nat),bornUp clock b l=true→(∀x∈l,b≤x.2.2∧x.2.2<clock)∧(l.map (·.2.2)).Nodup
 | [],_,_=>⟨by simp,by simp⟩
 | (k,v,x)::l,b,h=>by
  simp only [bornUp] at h
  cases J:(Nat.ble b x&&Nat.blt x clock) with
  | false=>rw [J] at h; cases h
  | true =>
   rw [J,ag] at h
   simp only [aY,aQ,iT] at J
   obtain ⟨i1,i2⟩:=E_ l (x+1) h
   refine ⟨fun y I => ?_,?_⟩
   ·rcases List.mem_cons.1 I with rfl | I
    ·exact J
    ·have:=i1 y I; omega
   ·simp only [bJ,lW,nM,not_exists,not_and]
    exact ⟨fun y I e=>by have:=i1 y I; omega,i2⟩
theorem CS {c:Ctx}: ∀(l:List (V×V×Nat)) (ks:List Int),keyInts l=some ks→l.map (fun x=>conc c x.1)=ks.map (Value.int .i64)∧∀n∈ks,(Lit.int .i64 n).wf=true
 | [],ks,h=>by simp [keyInts] at h; subst h; simp
 | (k,v,b)::l,ks,h=>by
  unfold keyInts at h
  split at h
  ·rename_i he; cases he
  ·rename_i n v' J U he
   simp only [vQ,aP] at he
   obtain ⟨⟨rfl,rfl,rfl⟩,rfl⟩:=he
   cases hw:(Lit.int .i64 n).wf with
   | false=>simp [hw] at h
   | true =>
    cases hm:keyInts l with
    | none=>simp [hw,hm] at h
    | some m =>
     simp [hw,hm] at h
     subst h
     obtain ⟨i1,i2⟩:=CS (c:=c) l m hm
     refine ⟨by simp [conc,i1],fun x I => ?_⟩
     rcases List.mem_cons.1 I with rfl | I
     ·exact hw
     ·exact i2 x I
  ·cases h
section
variable {c:Ctx} {σ:H} {w w':World}
theorem Rel.below (h:Rel c σ w)(I:Below w.heap.size w w'): Rel c σ w'∧dG c w c w':=by
 have rows:∀b,b<w.heap.size→rowSize w' b=rowSize w b:=fun b J=>by unfold rowSize; rw [I.block b J]
 refine ⟨⟨h.next,h.live,fun id hi=>gA (h.kF id hi) I.size,fun id hi=>by rw [rows _ (h.kF id hi)]; exact h.zz id hi,h.inj,
  fun id o ho=>(h.obj id o ho).later (Ext.refl c) (h.live id o ho) (I.block _ (h.kF id (h.live id o ho))),h.one,h.fx⟩,
  ⟨Ext.refl c,I.size,rows,fun b J _=>I.block b J,fun id U h2=>by omega,I.os,I.output⟩⟩
theorem Rel.take {b:Nat}{cs:List V}{C:Array Value}{T:TypeId}(h:Rel c σ w)(hb:b<w.heap.size)(hr:∀id,id<c.N→(c.ρ id).1≠b)(U:∀v∈cs,wf c v∧storable v=true)
 (hg:w.heap[b]?=some (.cells C T (0,0)))(hC:C.toList.take cs.length=cs.map (conc c)): Rel (c.grow b 0 C.size) (Am.newRow σ cs) w:=by
 have e:=rM hr 0 C.size
 have hN:(c.grow b 0 C.size).N=c.N+1:=rfl
 have hle:cs.length≤C.size:=by
  have:=jh List.length hC
  simp at this
  omega
 have key:∀i o,(Am.newRow σ cs).tr.get i=some o→(i=c.N∧o=.cells cs.length cs false)∨(i<c.N∧σ.tr.get i=some o):=by
  intro i o hi
  rw [Am.newRow,fM,h.next] at hi
  by_cases J:i=c.N
  ·simp [J] at hi; exact .inl ⟨J,hi.symm⟩
  ·simp [J] at hi; exact .inr ⟨h.live i o hi,hi⟩
 refine ⟨by simp [Am.newRow,H.new,Ctx.grow,h.next],fun i o hi => ?_,fun i hi => ?_,fun i hi => ?_,fun i j o o' hi hj he => ?_,fun i o hi => ?_,fun i sJ ni hi hx => ?_,fun i o hi hx => ?_⟩
 ·rw [hN]; rcases key i o hi with ⟨J,_⟩ | ⟨J,_⟩ <;> omega
 ·rw [hN] at hi
  by_cases J:i=c.N
  ·subst J; rw [bB]; exact hb
  ·rw [dn c _ _ _ (by omega)]; exact h.kF i (by omega)
 ·rw [hN] at hi
  by_cases J:i=c.N
  ·subst J; rw [bB]; simp [Ctx.grow,rowSize,hg]
  ·rw [dn c _ _ _ (by omega),←h.zz i (by omega)]; simp [Ctx.grow,hr i (by omega)]
 ·rcases key i o hi with ⟨I,_⟩ | ⟨I,a2⟩ <;> rcases key j o' hj with ⟨b1,_⟩ | ⟨b1,b2⟩
  ·exact .inl (by omega)
  ·subst I; rw [bB,dn c _ _ _ b1] at he; exact absurd he.symm (hr j b1)
  ·subst b1; rw [bB,dn c _ _ _ I] at he; exact absurd he (hr i I)
  ·rw [dn c _ _ _ I,dn c _ _ _ b1] at he; rw [fZ c _ _ _ I,fZ c _ _ _ b1]; exact h.inj i j _ _ a2 b2 he
 ·rcases key i o hi with ⟨rfl,rfl⟩ | ⟨I,a2⟩
  ·refine ⟨rfl,fun v hv=>⟨(cz e v (U v hv).1).2,(U v hv).2⟩,C,T,(0,0),by rw [bB]; exact hg,by rw [bB]; simpa using hle,fun j v hj => ?_,rfl⟩
   rw [bB,(cz e v (U v (br hj)).1).1]
   have YY:j<cs.length:=(List.getElem?_eq_some_iff.1 hj).1
   have J:(C.toList.take cs.length)[j]?=some (conc c v):=by rw [hC]; simp [hj]
   rw [lU,aj YY,jN] at J
   simpa using J
  ·exact (h.obj i o a2).later e I rfl
 ·rcases key i _ hi with ⟨rfl,_⟩ | ⟨I,a2⟩
  ·rw [bB]
  ·rw [fZ c _ _ _ I] at hx
   rw [dn c _ _ _ I]; exact h.one i sJ ni a2 hx
 ·rcases key i o hi with ⟨rfl,_⟩ | ⟨I,a2⟩
  ·rw [wM] at hx; cases hx
  ·rw [fZ c _ _ _ I] at hx; exact h.fx i o a2 hx
def oz (_:Value): Option (DataW Unit×List MemPlace):=some (.nil,[])
def Fa (P:Program)(f K:Nat)(gs:List Nat): Prop:=∀g∈gs,∀(J b U:Nat) (D0:DataW Unit) (w:World),J<w.heap.size→w.cell? ⟨J,0,none⟩=some (.map (some b)) →
 w.ownsMap P K oz b U D0→Maps.size D0≤maxLen→Maps.size D0*8≤140737488355328 →
 Calls P f #[.func (.func g) #[] #[.pointer (some ⟨J,0,none⟩)]] w fun e w'=>∃(v:Value) (I:List Int),e=.returned v∧I.Perm (intKeys D0) ∧
  w'.ownsRow w.heap.size K 1 v I.length ((I.mergeSort (fun x y=>decide (x≤y))).map encZ)∧(v=.slice none 0 0↔I=[])∧Below w.heap.size w w'
theorem FP {P:Program}{f K:Nat}{gs:List Nat}(hK:P.underlying K=some (.int .i64))(hS:Fa P f K gs){args:List V}{v:V}{iE:H}(I:toldSorted gs args σ=some (v,iE))
 (h:Rel c σ w): fT P f args c w v iE:=by
 unfold toldSorted at I
 split at I
 ·rename_i g b
  split at I
  ·rename_i n id Sg
   split at I
   ·rename_i es clock hgm
    cases hq:(Nat.beq n 1&&wI gs g&&bornUp clock 0 es&&Nat.ble es.length 1048576) with
    | false=>simp [hq] at I
    | true =>
     rw [hq,ag] at I
     simp only [aY,beq_iff,aQ,BC] at hq
     obtain ⟨⟨⟨q1,q2⟩,q3⟩,q4⟩:=hq
     subst q1
     cases hk:keyInts es with
     | none=>simp [hk] at I
     | some ks =>
      simp only [hk] at I
      cases J:r9 (m9 ks) with
      | false=>simp [J] at I
      | true =>
       simp only [J,ag] at I
       obtain ⟨k1,k2⟩:=CS (c:=c) es ks hk
       obtain ⟨b1,b2⟩:=E_ es 0 q3
       have hlen:ks.length=es.length:=by simpa using (congrArg List.length k1).symm
       have bS:=E9 _ J
       have nc:ks.Nodup:=(eB ks).nodup_iff.1 (bS.imp fun {a b} pH=>by omega)
       have rS:=h.one b _ _ Sg (h.yj Sg (by intro _ _ he; cases he))
       have Ay:=cell_of h Sg (j:=0) (v:=.map id) rfl
       have aah:fI c b 0=⟨(c.ρ b).1,0,none⟩:=by simp [fI,rS]
       rw [aah] at Ay
       have VR:w.cell? ⟨(c.ρ b).1,0,none⟩=some (.map (some (c.ρ id).1)):=by simpa [conc] using Ay
       obtain ⟨m1,m2⟩:=h.obj id _ hgm
       have Sh:∀x∈es,∃n,n∈ks∧(cn c x).key=.int .i64 n:=fun x U=>by
        have:conc c x.1∈ks.map (Value.int .i64):=by rw [←k1]; exact List.mem_map.2 ⟨x,U,rfl⟩
        obtain ⟨n,hn,he⟩:=List.mem_map.1 this
        exact ⟨n,hn,he.symm⟩
       have lJ:∀x∈es,∀n,(cn c x).key=.int .i64 n→n∈ks→WideElems.rd P K oz (cn c x)=some (.int .i64 n,.nil):=fun x U n hn hm=>by
        simp [WideElems.rd,hn,Maps.keyOf_int_mk hK (k2 n hm),oz]
       have aai:w.ownsMap P K oz (c.ρ id).1 es.length (.map (((es.map (cn c)).toArray.toList.map (WideElems.rg P K oz)).foldr DataW.insert [])):=by
        refine ⟨(es.map (cn c)).toArray,clock,m2,⟨by simp [maxLen]; omega,⟨fun x U => ?_,?_,?_⟩,fun x U => ?_⟩,by simp,rfl⟩
        ·simp only [nM] at U
         obtain ⟨y,hy,rfl⟩:=U
         exact (b1 y hy).2
        ·simpa [cn,vO] using b2
        ·have:(es.map (cn c)).toArray.toList.map (·.key)=ks.map (Value.int .i64):=by rw [←k1]; simp [cn,vO]
         rw [this]
         exact List.pairwise_map.2 (nc.imp fun {a b} gn e=>gn (by simpa using e))
        ·simp only [nM] at U
         obtain ⟨y,hy,rfl⟩:=U
         obtain ⟨n,hn,he⟩:=Sh y hy
         exact ⟨_,lJ y hy n he hn⟩
       have eO:Maps.size (H:=Unit) (.map (((es.map (cn c)).toArray.toList.map (WideElems.rg P K oz)).foldr DataW.insert []))=es.length:=by
        rw [Maps.size_eq,(WideShapes.sorted_perm _).length_eq]; simp
       have tf:(intKeys (H:=Unit) (.map (((es.map (cn c)).toArray.toList.map (WideElems.rg P K oz)).foldr DataW.insert []))).Perm ks:=by
        refine ((WideShapes.sorted_perm _).map _).trans ?_
        have:(((es.map (cn c)).toArray.toList.map (WideElems.rg P K oz)).map fun p=>intOf p.1)=ks:=by
         have YZ:∀x∈es,Value.int .i64 (intOf (WideElems.rg P K oz (cn c x)).1)=conc c x.1:=fun x U=>by
          obtain ⟨n,hn,he⟩:=Sh x U
          rw [WideElems.rg_of (lJ x U n he hn)]
          exact he.symm
         have h1:((((es.map (cn c)).toArray.toList.map (WideElems.rg P K oz)).map fun p=>intOf p.1).map (Value.int .i64))=ks.map (Value.int .i64):=by
          rw [←k1]
          simp only [vR]
          exact vJ fun x U=>YZ x U
         exact List.map_inj_right (fun x y e=>by simpa using e) |>.1 h1
        rw [this]
       have XR:=hS g q2 (c.ρ b).1 (c.ρ id).1 es.length _ w (h.kF b (h.live b _ Sg)) VR aai (by rw [eO]; simp [maxLen]; omega) (by rw [eO]; omega)
       have Si:([V.fn (.func g) [] [.ptr b 0]].map (conc c)).toArray = #[.func (.func g) #[] #[.pointer (some ⟨(c.ρ b).1,0,none⟩)]]:=by simp [conc,concL,rS]
       unfold fT
       rw [Si]
       refine XR.mono ?_
       rintro e w' ⟨rv,ss,rfl,s1,s2,s3,s4⟩
       obtain ⟨g1,g2⟩:=h.below s4
       have Sj:ss.Perm ks:=s1.trans tf
       have hms:ss.mergeSort (fun x y=>decide (x≤y))=m9 ks:=by
        refine wq (((List.mergeSort_perm ss _).trans Sj).trans (eB ks).symm) ?_ (bS.imp fun {a b} pH=>by omega)
        have:=List.pairwise_mergeSort (le:=fun x y:Int=>decide (x≤y)) (fun a b c h1 h2=>by simp at h1 h2 ⊢; omega) (fun a b=>by simp; omega) ss
        exact this.imp fun {a b} pH=>by simpa using pH
       rw [hms] at s2
       split at I
       ·-- no key
        have wS:ss=[]:=by simpa using Sj
        have hv:=s3.2 wS
        simp only [au,aP] at I
        obtain ⟨rfl,rfl⟩:=I
        exact ⟨c,by rw [hv]; simp [conc],by simp [wf],g1,g2⟩
       ·rename_i gn
        simp only [au,aP] at I
        obtain ⟨rfl,rfl⟩:=I
        have aaj:ss≠[]:=fun e=>by
         subst e
         exact gn (by simpa using Sj.symm)
        have lK:ss.length=ks.length:=Sj.length_eq
        rcases s2.2 with ⟨e1,_⟩ | ⟨gb,cap,cur,rfl,l1,l2,l3,l4,l5,l6⟩
        ·exact absurd (s3.1 e1) aaj
        have aak:gb<w'.heap.size:=(Array.getElem?_eq_some_iff.1 l2).1
        have A2:∀i,i<c.N→(c.ρ i).1≠gb:=fun i hi e=>by have:=h.kF i hi; omega
        have qG:∀x∈eN (m9 ks),wf c x∧storable x=true:=fun x U=>by
         obtain ⟨n,_,rfl⟩:=List.mem_map.1 U
         simp [wf,storable]
        have Bd:(eN (m9 ks)).length=ks.length:=by simp [eN,(eB ks).length_eq]
        have XS:cur.toList.take (eN (m9 ks)).length=(eN (m9 ks)).map (conc c):=by
         rw [Bd,←lK]
         have:ss.length*1=ss.length:=dN _
         rw [this] at l6
         rw [l6]
         simp [eN,conc,encZ,vO]
        have R:=g1.take aak A2 qG l2 XS
        have B6:(c.grow gb 0 cur.size).room σ.next 0 1=cap:=by
         simp only [Ctx.room,h.next,Ctx.grow,bP]
         simp [l5]
        refine ⟨c.grow gb 0 cur.size,?_,?_,R,g2.FX A2 l1⟩
        ·simp only [conc,B6]
         simp [h.next,Ctx.grow,lK]
        ·simp only [wf,B6]
         exact ⟨by rw [h.next]; simp [Ctx.grow],aK _,by omega⟩
   ·cases I
  ·cases I
 ·cases I
end
end Go.Proofs.YtconhghphklfjaaGreat.Am
