/- AtomTorn: a part of its proof; conditions: its statement's. -/
import Derived.Test.YtconhghphklfjaaGreatT15
import Derived.Test.YtconhghphklfjaaGreatT11
import Derived.Shelf.SlIterI.Sorted
namespace Go.Proofs.YtconhghphklfjaaGreat.Am
open Go
abbrev bX := List (Int×V×Nat)
def eB (e:Int×V×Nat): V×V×Nat:=(.int .i64 e.1,e.2)
def lookE (n:Int): bX→Option V
 | []=>none
 | e::l=>if e.1=n then some e.2.1 else lookE n l
def jN (n:Int)(v:V)(c:Nat): bX→bX
 | []=>[(n,v,c)]
 | e::l=>if e.1=n then (e.1,v,e.2.2)::l else e::jN n v c l
def mR (n:Int): bX→bX
 | []=>[]
 | e::l=>if e.1=n then l else e::mR n l
def clkE (n:Int)(c:Nat)(l:bX): Nat:=match lookE n l with
 | some _=>c
 | none=>c+1
abbrev fG (id:Nat)(l:bX)(c:Nat): ax:=pt id (.map (l.map eB) c)
def idxE (n:Int): bX→Nat→Option (Nat×V)
 | [],_=>none
 | e::l,i=>if e.1=n then some (i,e.2.1) else idxE n l (i+1)
theorem og (a b:Int): intBeq a b=decide (a=b):=by
 cases I:intBeq a b with
 | true=>simp [vf I]
 | false =>
  by_cases he:a=b
  ·subst he; rw [lU] at I; cases I
  ·simp [he]
theorem rM {k:IntKind}{n:Int}: ∀(l:bX) (i:Nat),findK (.int k) (.int .i64 n) (l.map eB) i=some (idxE n l i):=by
 intro l
 induction l with
 | nil=>intro i; rfl
 | cons e l I =>
  intro i
  simp only [bI,findK,eB,keyBeq,dK,ag,og,idxE]
  by_cases he:e.1=n
  ·have:n=e.1:=he.symm
   simp [this]
  ·have:decide (n=e.1)=false:=by simp; exact fun h=>he h.symm
   rw [this,af he]
   exact I (i+1)
theorem qa {n:Int}: ∀(l:bX) (i:Nat),(idxE n l i).map (·.2)=lookE n l:=by
 intro l
 induction l with
 | nil=>intro i; rfl
 | cons e l I =>
  intro i
  simp only [idxE,lookE]
  by_cases he:e.1=n
  ·simp [he]
  ·simp only [af he]; exact I (i+1)
theorem Kq {n:Int}: ∀(l:bX) (i j:Nat) (v:V),idxE n l i=some (j,v)→i≤j:=by
 intro l
 induction l with
 | nil=>intro i j v h; cases h
 | cons e l I =>
  intro i j v h
  simp only [idxE] at h
  by_cases he:e.1=n
  ·rw [aj he] at h; injection h with h; injection h with J U; omega
  ·rw [af he] at h; have:=I _ _ _ h; omega
theorem Yt {n:Int}{v:V}{c:Nat}: ∀(l:bX) (i j:Nat) (u:V),idxE n l i=some (j,u)→setNth (l.map eB) (j-i) (fun e=>(e.1,v,e.2.2))=(jN n v c l).map eB:=by
 intro l
 induction l with
 | nil=>intro i j u h; cases h
 | cons e l I =>
  intro i j u h
  simp only [idxE] at h
  simp only [jN,bI,setNth]
  by_cases he:e.1=n
  ·rw [aj he] at h; injection h with h; injection h with J U
   subst J
   rw [aj he,AP]
   rfl
  ·rw [af he] at h
   have h3:=Kq _ _ _ _ h
   rw [af he,cS (by omega),ay,show j-i-1=j-(i+1) by omega,I _ _ _ h]
   rfl
theorem Wh {n:Int}: ∀(l:bX) (i j:Nat) (u:V),idxE n l i=some (j,u)→kJ (l.map eB) (j-i)=(mR n l).map eB:=by
 intro l
 induction l with
 | nil=>intro i j u h; cases h
 | cons e l I =>
  intro i j u h
  simp only [idxE] at h
  simp only [mR,bI,kJ]
  by_cases he:e.1=n
  ·rw [aj he] at h; injection h with h; injection h with J U
   subst J
   rw [aj he,AP]
   rfl
  ·rw [af he] at h
   have h3:=Kq _ _ _ _ h
   rw [af he,cS (by omega),ay,show j-i-1=j-(i+1) by omega,I _ _ _ h]
   rfl
theorem TV {n:Int}{v:V}{c:Nat}: ∀(l:bX),lookE n l=none→jN n v c l=l++[(n,v,c)]:=by
 intro l
 induction l with
 | nil=>intro _; rfl
 | cons e l I =>
  intro h
  simp only [lookE] at h
  by_cases he:e.1=n
  ·rw [aj he] at h; cases h
  ·rw [af he] at h; simp only [jN,af he,I h,fF]
theorem Qu {n:Int}: ∀(l:bX),lookE n l=none→mR n l=l:=by
 intro l
 induction l with
 | nil=>intro _; rfl
 | cons e l I =>
  intro h
  simp only [lookE] at h
  by_cases he:e.1=n
  ·rw [aj he] at h; cases h
  ·rw [af he] at h; simp only [mR,af he,I h]
section
variable {P:Program} {h h':H} {S:List ax} {v z:V} {t kt et:TypeId} {k:IntKind} {id c j:Nat} {l:bX} {n:Int}
theorem Sat.SI (s:Sat h S)(I:getA S j=some (fG id l c))(hu:P.underlying t=some (.map kt et))(J:P.underlying kt=some (.int k))(U:zeroT P et=some z):
  fq P h t (.map id) (.int .i64 n) true=some (match lookE n l with | some v=>.bE [v,.bool true] | none=>.bE [z,.bool false]):=by
 have hg:=s.row I
 simp only [fq,lookupV,hu,J,U,hg,keyBeq,dK,ag,rM]
 rw [←qa l 0]
 cases idxE n l 0 with
 | none=>rfl
 | some q=>rfl
theorem Sat.Yu (s:Sat h S)(I:getA S j=some (fG id l c))(hu:P.underlying t=some (.map kt et))(J:P.underlying kt=some (.int k))(U:zeroT P et=some z):
  fq P h t (.map id) (.int .i64 n) false=some (match lookE n l with | some v=>v | none=>z):=by
 have hg:=s.row I
 simp only [fq,lookupV,hu,J,U,hg,keyBeq,dK,ag,rM]
 rw [←qa l 0]
 cases idxE n l 0 with
 | none=>rfl
 | some q=>rfl
theorem Sat.update (s:Sat h S)(U:getA S j=some (fG id l c))(hu:P.underlying t=some (.map kt et))(hk:P.underlying kt=some (.int k)):
  ∃h',mapUpdateV P h t (.map id) (.int .i64 n) v=some h'∧Sat h' (setA S j (fG id (jN n v c l) (clkE n c l))):=by
 have hg:=s.row U
 refine ⟨h.put id (some (.map ((jN n v c l).map eB) (clkE n c l))),?_,s.put U⟩
 simp only [mapUpdateV,hu,hk,hg,keyBeq,dK,ag,rM]
 have I:=qa (n:=n) l 0
 cases J:idxE n l 0 with
 | none =>
  rw [J] at I
  have I:lookE n l=none:=I.symm
  simp only [clkE,I,TV l I,AK]
  rfl
 | some q =>
  obtain ⟨i,u⟩:=q
  rw [J] at I
  have I:lookE n l=some u:=I.symm
  simp only [clkE,I]
  rw [←Yt (v:=v) (c:=c) l 0 i u J,kH]
theorem Sat.delete (s:Sat h S)(J:getA S j=some (fG id l c))(hu:P.underlying t=some (.map kt et))(hk:P.underlying kt=some (.int k)):
  ∃h',m9 P h t (.map id) (.int .i64 n)=some h'∧Sat h' (setA S j (fG id (mR n l) c)):=by
 have hg:=s.row J
 simp only [m9,hu,hk,hg,keyBeq,dK,ag,rM]
 have I:=qa (n:=n) l 0
 cases U:idxE n l 0 with
 | none =>
  rw [U] at I
  have I:lookE n l=none:=I.symm
  refine ⟨h,rfl,?_⟩
  rw [Qu l I]
  have:∀(S:List ax) (j:Nat) (A:ax),getA S j=some A→setA S j A=S:=by
   intro S
   induction S with
   | nil=>intro j A h; cases h
   | cons B S ih =>
    intro j A h
    cases j with
    | zero=>simp only [getA] at h; injection h with h; subst h; rfl
    | succ j=>simp only [getA] at h; simp only [setA,ih j A h]
  rw [this S j _ J]
  exact s
 | some q =>
  obtain ⟨i,u⟩:=q
  refine ⟨_,rfl,?_⟩
  have e:=Wh l 0 i u U
  rw [kH] at e
  rw [e]
  exact s.put J
theorem Sat.aaF (s:Sat h S)(I:getA S j=some (fG id l c))(hu:P.underlying t=some (.map kt et)): lenV P h t (.map id)=some (.int .i64 (l.length:Int)):=by
 have J:=s.row I
 simp only [lenV,hu,J,eu]
end
section
variable {C:dF} {E:List (Nat×V)} {h h':H} {o:Oper} {S':List ax} {x y z:Operand} {a b v u:V} {t:TypeId} {cl:Go.Call}
theorem OpR.upd (I:∀env,kS env E→evOp C (ev C 0) env h o=(match mapUpdateV C.P h t a b v with | some h'=>some (cz,h') | none=>none))
 (ho:∃h₁,mapUpdateV C.P h t a b v=some h₁∧Sat h₁ S'): OpR C E h o fun _ h₁=>Sat h₁ S':=by
 obtain ⟨h₁,J,U⟩:=ho
 exact ⟨cz,h₁,U,fun env he=>⟨0,by rw [I env he,J]⟩⟩
theorem OpR.mapUpdate (I:o.op=.mapUpdate t x y z)(J:lookO E x=some a)(U:lookO E y=some b)(hz:lookO E z=some v)
 (ho:∃h₁,mapUpdateV C.P h t a b v=some h₁∧Sat h₁ S'): OpR C E h o fun _ h₁=>Sat h₁ S':=by
 refine OpR.upd (t:=t) (a:=a) (b:=b) (v:=v) (fun env he => ?_) ho
 simp only [evOp,I,bP he J,bP he U,bP he hz,rT]
 cases mapUpdateV C.P h t a b v <;> rfl
theorem OpR.builtin {args:List V}{bi:Builtin}{R:V→H→Prop}(I:o.op=.call cl)(J:cl.callee=.builtin bi)(U:lookArgs E cl.args.toList=some args)(ho:∃v h₁,builtinV C.P h bi cl.argTypes args=some (v,h₁)∧R v h₁): OpR C E h o R:=by
 obtain ⟨v,h₁,e1,e2⟩:=ho
 refine OpR.of ?_ e2
 rw [I]
 simp only [opE,J,U,e1]
theorem OpR.oX {l m:List Nat}{S:List ax}{X:ax}(hP:C.P=Tryz.prog)(s:Sat h (bK v l::X::S))(hX:cU X (cY u m))(I:o.op=.call cl)(hc:cl.callee=.builtin .append)(J:cl.argTypes = #[32,32])(ha:lookArgs E cl.args.toList=some [v,u])
 (U:l.length+m.length≤140737488355328): OpR C E h o fun v' h₁=>Sat h₁ (bK v' (l++m)::X::S):=by
 obtain ⟨v',h₁,e1,e2⟩:=C4 s hX U
 refine OpR.builtin I hc ha ⟨v',h₁,?_,e2⟩
 simp only [builtinV,hP,J,e1]
theorem OpR.wI {S:List ax}{c:Nat}(J:C.P=Tryz.prog)(s:Sat h S)(I:o.op=.makeSlice t x y)(U:t=32)(hx:lookO E x=some (.int .i64 0))(hy:lookO E y=some (.int .i64 (c:Int)))(hc:c<1073741824): OpR C E h o fun v' h₁=>Sat h₁ (bK v' []::S):=by
 obtain ⟨v',h₁,e1,e2⟩:=Fp s hc
 exact OpR.of (by rw [I,U,J]; exact rY hx hy e1) e2
theorem OpR.Gn {S:List ax}{c:Nat}(J:C.P=Tryz.prog)(s:Sat h S)(I:o.op=.makeSlice t x y)(U:t=32)(hx:lookO E x=some (.int .i64 (c:Int)))(hy:lookO E y=some (.int .i64 (c:Int)))(hc:c<1073741824): OpR C E h o fun v' h₁=>Sat h₁ (bK v' (List.replicate c 0)::S):=by
 obtain ⟨v',h₁,e1,e2⟩:=NU s hc
 exact OpR.of (by rw [I,U,J]; exact rY hx hy e1) e2
theorem OpR.Yv {l m:List Nat}{S:List ax}{X:ax}{p q:Nat}(hP:C.P=Tryz.prog)(s:Sat h (bK v l::X::S))(hX:cU X (cY u m))(I:o.op=.call cl)(hc:cl.callee=.builtin .copy)(J:cl.argTypes = #[32,32])(ha:lookArgs E cl.args.toList=some [slR v p q,u])
 (U:p<q)(hq:q≤l.length)(hm:1≤m.length): OpR C E h o fun _ h₁=>Sat h₁ (bK v (dg l p (m.take (q-p)))::X::S):=by
 obtain ⟨h₁,e1,e2⟩:=Hp s hX U hq hm
 refine OpR.builtin I hc ha ⟨.int .i64 (min m.length (q-p):Nat),h₁,?_,e2⟩
 simp only [builtinV,hP,J,e1]
theorem OpR.L0 {S:List ax}{n:Nat}{ps:Array (Nat×Operand)}(J:C.P=Tryz.prog)(s:Sat h S)(I:o.op=.buildSlice t 1 ps)(U:t=32)(hx:lookParts E ps.toList=some [(0,.int .u8 (n:Int))])(hn:n<256): OpR C E h o fun v' h₁=>Sat h₁ (bK v' [n]::S):=by
 obtain ⟨v',h₁,e1,e2⟩:=NV s hn
 exact OpR.of (by rw [I,U,J]; exact qu hx e1) e2
end
section
variable {α:Type}
def lookL (n:Int): List (Int×α)→Option α
 | []=>none
 | e::l=>if e.1=n then some e.2 else lookL n l
def cN (n:Int)(a:α): List (Int×α)→List (Int×α)
 | []=>[(n,a)]
 | e::l=>if e.1=n then (n,a)::l else e::cN n a l
def nh (n:Int): List (Int×α)→List (Int×α)
 | []=>[]
 | e::l=>if e.1=n then l else e::nh n l
theorem gY {n k:Int}{a:α}: ∀l:List (Int×α),lookL k (cN n a l)=if n=k then some a else lookL k l:=by
 intro l
 induction l with
 | nil=>simp [cN,lookL]
 | cons e l J =>
  simp only [cN]
  by_cases he:e.1=n
  ·rw [aj he]
   simp only [lookL]
   by_cases I:n=k
   ·simp [I]
   ·have:¬ e.1=k:=fun h=>I (by rw [←he,h])
    simp [I,this]
  ·rw [af he]
   simp only [lookL,J]
   by_cases I:e.1=k
   ·have:¬ n=k:=fun h=>he (by rw [I,h])
    simp [I,this]
   ·simp [I]
theorem fD {n:Int}: ∀ {l:List (Int×α)},lookL n l=none↔n∉l.map (·.1):=by
 intro l
 induction l with
 | nil=>simp [lookL]
 | cons e l I =>
  simp only [lookL,bI,fo,pP]
  by_cases he:e.1=n
  ·simp [he]
  ·rw [af he,I]
   exact ⟨fun h=>⟨fun J=>he J.symm,h⟩,fun h=>h.2⟩
theorem Fq {n k:Int}: ∀ {l:List (Int×α)},(l.map (·.1)).Nodup→lookL k (nh n l)=if n=k then none else lookL k l:=by
 intro l
 induction l with
 | nil=>simp [nh,lookL]
 | cons e l U =>
  intro J
  simp only [bI,mq] at J
  simp only [nh]
  by_cases he:e.1=n
  ·rw [aj he]
   by_cases I:n=k
   ·rw [aj I,←I,fD,←he]; exact J.1
   ·have:¬ e.1=k:=fun h=>I (by rw [←he,h])
    simp [lookL,I,this]
  ·rw [af he]
   simp only [lookL,U J.2]
   by_cases I:e.1=k
   ·have:¬ n=k:=fun h=>he (by rw [I,h])
    simp [I,this]
   ·simp [I]
theorem oY {n:Int}{a:α}: ∀ {l:List (Int×α)} {k:Int},k∈(cN n a l).map (·.1)↔k=n∨k∈l.map (·.1):=by
 intro l
 induction l with
 | nil=>intro k; simp [cN]
 | cons e l I =>
  intro k
  simp only [cN]
  by_cases he:e.1=n
  ·rw [aj he]; simp [he]
  ·rw [af he]
   simp only [bI,fo,I]
   constructor
   ·rintro (h | h | h) <;> simp [h]
   ·rintro (h | h | h) <;> simp [h]
theorem iQ {n:Int}{a:α}: ∀ {l:List (Int×α)},(l.map (·.1)).Nodup→((cN n a l).map (·.1)).Nodup:=by
 intro l
 induction l with
 | nil=>simp [cN]
 | cons e l J =>
  intro I
  simp only [bI,mq] at I
  simp only [cN]
  by_cases he:e.1=n
  ·rw [aj he]; simp only [bI,mq]; rw [←he]; exact I
  ·rw [af he]
   simp only [bI,mq]
   refine ⟨fun h => ?_,J I.2⟩
   rcases oY.1 h with h | h
   ·exact he h
   ·exact I.1 h
theorem Qv {n:Int}: ∀ {l:List (Int×α)} {k:Int},k∈(nh n l).map (·.1)→k∈l.map (·.1):=by
 intro l
 induction l with
 | nil=>intro k h; exact h
 | cons e l I =>
  intro k h
  simp only [nh] at h
  by_cases he:e.1=n
  ·rw [aj he] at h; simp only [bI,fo]; exact .inr h
  ·rw [af he] at h
   simp only [bI,fo] at h ⊢
   exact h.imp_right I
theorem xy {n:Int}: ∀ {l:List (Int×α)},(l.map (·.1)).Nodup→((nh n l).map (·.1)).Nodup:=by
 intro l
 induction l with
 | nil=>simp [nh]
 | cons e l J =>
  intro I
  simp only [bI,mq] at I
  simp only [nh]
  by_cases he:e.1=n
  ·rw [aj he]; exact I.2
  ·rw [af he]
   simp only [bI,mq]
   exact ⟨fun h=>I.1 (Qv h),J I.2⟩
def eD (f:V→α→ax): bX→List (Int×α)→ax
 | [],[]=>.pu True
 | e::l,x::m=>.an (.an (.pu (e.1=x.1)) (f e.2.1 x.2)) (eD f l m)
 | _,_=>.pu False
variable {f:V→α→ax} {a b:PM}
theorem th : ∀ {l:bX} {m:List (Int×α)},(eD f l m).p a b→l.map (·.1)=m.map (·.1):=by
 intro l
 induction l with
 | nil=>intro m h; cases m with
  | nil=>rfl
  | cons x m=>exact h.elim
 | cons e l I=>intro m h; cases m with
  | nil=>exact h.elim
  | cons x m=>simp only [bI]; rw [h.1.1,I h.2]
theorem tj {n:Int}: ∀ {l:bX} {m:List (Int×α)},(eD f l m).p a b→(lookE n l=none∧lookL n m=none)∨∃u x,lookE n l=some u∧lookL n m=some x∧(f u x).p a b:=by
 intro l
 induction l with
 | nil=>intro m h; cases m with
  | nil=>exact .inl ⟨rfl,rfl⟩
  | cons x m=>exact h.elim
 | cons e l J=>intro m h; cases m with
  | nil=>exact h.elim
  | cons x m =>
   obtain ⟨⟨I,U⟩,h3⟩:=h
   have I:e.1=x.1:=I
   simp only [lookE,lookL,←I]
   by_cases he:e.1=n
   ·rw [aj he,aj he]; exact .inr ⟨_,_,rfl,rfl,U⟩
   ·rw [af he,af he]; exact J h3
theorem Fs {n:Int}{u:V}{x:α}{c:Nat}(hu:(f u x).p a b): ∀ {l:bX} {m:List (Int×α)},(eD f l m).p a b→(eD f (jN n u c l) (cN n x m)).p a b:=by
 intro l
 induction l with
 | nil=>intro m h; cases m with
  | nil=>exact ⟨⟨rfl,hu⟩,aa⟩
  | cons x m=>exact h.elim
 | cons e l U=>intro m h; cases m with
  | nil=>exact h.elim
  | cons y m =>
   obtain ⟨⟨I,h2⟩,J⟩:=h
   have I:e.1=y.1:=I
   simp only [jN,cN,←I]
   by_cases he:e.1=n
   ·rw [aj he,aj he]; exact ⟨⟨he,hu⟩,J⟩
   ·rw [af he,af he]; exact ⟨⟨I,h2⟩,U J⟩
theorem N4 {n:Int}: ∀ {l:bX} {m:List (Int×α)},(eD f l m).p a b→(eD f (mR n l) (nh n m)).p a b:=by
 intro l
 induction l with
 | nil=>intro m h; cases m with
  | nil=>trivial
  | cons x m=>exact h.elim
 | cons e l U=>intro m h; cases m with
  | nil=>exact h.elim
  | cons y m =>
   obtain ⟨⟨I,h2⟩,J⟩:=h
   have I:e.1=y.1:=I
   simp only [mR,nh,←I]
   by_cases he:e.1=n
   ·rw [aj he,aj he]; exact J
   ·rw [af he,af he]; exact ⟨⟨I,h2⟩,U J⟩
theorem aH.Hr (I:∀u x,aH (f u x)): ∀(l:bX) (m:List (Int×α)),aH (eD f l m):=by
 intro l
 induction l with
 | nil=>intro m; cases m <;> exact aH.pu _
 | cons e l J=>intro m; cases m with
  | nil=>exact aH.pu _
  | cons x m=>exact aH.an (aH.an (aH.pu _) (I _ _)) (J m)
def fc (c:Nat): Nat→bX→Prop
 | _,[]=>True
 | b,e::l=>b≤e.2.2∧e.2.2<c∧fc c (e.2.2+1) l
theorem C7 {c:Nat}: ∀ {l:bX} {b I:Nat},I≤b→fc c b l→fc c I l:=by
 intro l
 cases l with
 | nil=>intro b I _ _; trivial
 | cons e l=>intro b I h J; exact ⟨cy h J.1,J.2⟩
theorem zP {c n:Nat}{k:Int}{u:V}(U:n=c): ∀ {l:bX} {b:Nat},b≤c→fc c b l→fc (clkE k c l) b (jN k u n l):=by
 subst U
 intro l
 induction l with
 | nil=>intro b J _; simp only [jN,clkE,lookE]; exact ⟨J,D6 _,aa⟩
 | cons e l ih =>
  intro b J h
  have I:=ih (b:=e.2.2+1) (by have:=h.2.1; omega) h.2.2
  simp only [clkE] at I
  by_cases he:e.1=k
  ·simp only [jN,clkE,lookE,aj he]; exact h
  ·simp only [jN,clkE,lookE,af he]
   refine ⟨h.1,?_,I⟩
   have:=h.2.1
   split <;> omega
theorem N5 {c:Nat}{k:Int}: ∀ {l:bX} {b:Nat},fc c b l→fc c b (mR k l):=by
 intro l
 induction l with
 | nil=>intro b h; exact h
 | cons e l I =>
  intro b h
  simp only [mR]
  by_cases he:e.1=k
  ·rw [aj he]; exact C7 (by have:=h.1; omega) h.2.2
  ·rw [af he]; exact ⟨h.1,h.2.1,I h.2.2⟩
def jg (f:V→α→ax)(v:V)(m:List (Int×α)): ax :=
 xs fun id:Nat=>xs fun l:bX=>xs fun c:Nat=>star [.pu (v=.map id∧fc c 0 l∧(m.map (·.1)).Nodup),fG id l c,eD f l m]
section
variable {P:Program} {h h':H} {S:List ax} {v u z:V} {t kt et:TypeId} {k:IntKind} {m:List (Int×α)} {n:Int} {x:α}
theorem eF : Sat h (jg f v m::S)↔∃id l c,v=.map id∧fc c 0 l∧(m.map (·.1)).Nodup∧Sat h (fG id l c::eD f l m::S):=by
 simp only [jg,gu,en,fF,cW,eR,and_assoc,fG]
theorem mL (hf:∀u x,aH (f u x))(s:Sat h (jg f v m::S))(hu:P.underlying t=some (.map kt et))(hk:P.underlying kt=some (.int k))(hz:zeroT P et=some z):
  (lookL n m=none∧fq P h t v (.int .i64 n) true=some (.bE [z,.bool false])∧fq P h t v (.int .i64 n) false=some z) ∨
  ∃u x,lookL n m=some x∧fq P h t v (.int .i64 n) true=some (.bE [u,.bool true])∧fq P h t v (.int .i64 n) false=some u∧Sat h (f u x::jg f v m::S):=by
 obtain ⟨id,l,c,rfl,hb,hn,s1⟩:=eF.1 s
 have e2:=s1.SI (n:=n) (j:=0) rfl hu hk hz
 have e1:=s1.Yu (n:=n) (j:=0) rfl hu hk hz
 obtain ⟨a,b,q1,q2,q3⟩:=s1.at (k:=1) rfl
 rcases tj (n:=n) q3 with ⟨U,g2⟩ | ⟨u,x,U,g2,g3⟩
 ·rw [U] at e1 e2; exact .inl ⟨g2,e2,e1⟩
 ·rw [U] at e1 e2
  refine .inr ⟨u,x,g2,e2,e1,?_⟩
  have s2:Sat h (eD f l m::fG id l c::S):=s1.qv [1]
  have s3:=s2.dup (aH.Hr hf l m)
  have s4:Sat h (f u x::eD f l m::fG id l c::S):=s3.fY fun a' b' h'=>by
   rcases tj (n:=n) h' with ⟨I,_⟩ | ⟨u',x',I,J,Wi⟩
   ·rw [U] at I; cases I
   ·rw [U] at I; rw [g2] at J; injection I with I; injection J with J; subst I; subst J; exact Wi
  have s5:Sat h (fG id l c::eD f l m::f u x::S):=s4.qv [2,1]
  exact (eF.2 ⟨id,l,c,rfl,hb,hn,s5⟩:Sat h (jg f (.map id) m::f u x::S)).qv [1]
theorem oZ (J:∀u x,aH (f u x))(s:Sat h (f u x::jg f v m::S))(hu:P.underlying t=some (.map kt et))(U:P.underlying kt=some (.int k)):
  ∃h',mapUpdateV P h t v (.int .i64 n) u=some h'∧Sat h' (jg f v (cN n x m)::S):=by
 have s0:Sat h (jg f v m::f u x::S):=s.qv [1]
 obtain ⟨id,l,c,rfl,hb,hn,s1⟩:=eF.1 s0
 obtain ⟨h',e1,I⟩:=s1.update (n:=n) (v:=u) (j:=0) rfl hu U
 refine ⟨h',e1,?_⟩
 have I:Sat h' (fG id (jN n u c l) (clkE n c l)::eD f l m::f u x::S):=I
 have e3:Sat h' (f u x::eD f l m::fG id (jN n u c l) (clkE n c l)::S):=I.qv [2,1]
 have e4:Sat h' (eD f (jN n u c l) (cN n x m)::fG id (jN n u c l) (clkE n c l)::S):=e3.map fun a b h=>by
  obtain ⟨p1,p2,d1,d2,d3,d4,p3,p4,d5,d6,d7,d8,d9⟩:=h
  exact ⟨fun _=>none,p4,fun _=>.inl rfl,fun _ _ h=>(by cases h),PM.le_trans d7 d3,Fs (J _ _ _ _ d4) (aH.Hr J _ _ _ _ d8),d9⟩
 exact eF.2 ⟨id,_,_,rfl,zP rfl (eM _) hb,iQ hn,e4.qv [1]⟩
theorem Qw (s:Sat h (jg f v m::S))(hu:P.underlying t=some (.map kt et))(J:P.underlying kt=some (.int k)):
  ∃h',m9 P h t v (.int .i64 n)=some h'∧Sat h' (jg f v (nh n m)::S):=by
 obtain ⟨id,l,c,rfl,U,hn,s1⟩:=eF.1 s
 obtain ⟨h',e1,I⟩:=s1.delete (n:=n) (j:=0) rfl hu J
 refine ⟨h',e1,?_⟩
 have I:Sat h' (fG id (mR n l) c::eD f l m::S):=I
 have e3:Sat h' (eD f l m::fG id (mR n l) c::S):=I.qv [1]
 have e4:Sat h' (eD f (mR n l) (nh n m)::fG id (mR n l) c::S):=e3.fY fun a b h=>N4 h
 exact eF.2 ⟨id,_,_,rfl,N5 U,xy hn,e4.qv [1]⟩
theorem B2 (s:Sat h (jg f v m::S))(hu:P.underlying t=some (.map kt et)): lenV P h t v=some (.int .i64 (m.length:Int)):=by
 obtain ⟨id,l,c,rfl,J,U,s1⟩:=eF.1 s
 have e:=s1.aaF (j:=0) rfl hu
 obtain ⟨a,b,q1,q2,I⟩:=s1.at (k:=1) rfl
 have:=iZ List.length (th I)
 simp only [eu] at this
 rw [this] at e
 exact e
theorem uH {id:Nat}(s:Sat h (pt id (.map [] 0)::S)): Sat h (jg f (.map id) []::S):=by
 have s1:Sat h (eD f [] []::pt id (.map [] 0)::S):=s.gB aa
 exact eF.2 ⟨id,[],0,rfl,aa,by simp,s1.qv [1]⟩
theorem zQ {j:Nat}(s:Sat h S)(I:getA S j=some (jg f v m)): ∃id,v=.map id:=by
 have s1:=s.take j I
 obtain ⟨id,l,c,rfl,_⟩:=eF.1 s1
 exact ⟨id,rfl⟩
end
end
theorem OpR.delete {C:dF}{E:List (Nat×V)}{h:H}{o:Oper}{S':List ax}{cl:Go.Call}{t u:TypeId}{m k:V}(I:o.op=.call cl)(U:cl.callee=.builtin .delete)(J:cl.argTypes = #[t,u])(ha:lookArgs E cl.args.toList=some [m,k])
 (ho:∃h₁,m9 C.P h t m k=some h₁∧Sat h₁ S'): OpR C E h o fun _ h₁=>Sat h₁ S':=by
 obtain ⟨h₁,e1,e2⟩:=ho
 refine OpR.builtin I U ha ⟨.bE [],h₁,?_,e2⟩
 simp only [builtinV,J,e1,iW]
end Go.Proofs.YtconhghphklfjaaGreat.Am
namespace Go.Proofs.YtconhghphklfjaaGreat.Am
open Go Go.Maps Go.RowKit
def keyInts : List (V×V×Nat)→Option (List Int)
 | []=>some []
 | (.int .i64 n,_,_)::l=>cond (Lit.int .i64 n).wf (match keyInts l with
  | some m=>some (n::m)
  | none=>none) none
 | _=>none
def bornUp (clock:Nat): Nat→List (V×V×Nat)→Bool
 | _,[]=>true
 | b,(_,_,x)::l=>cond (Nat.ble b x&&Nat.blt x clock) (bornUp clock (x+1) l) false
def insI (x:Int): List Int→List Int
 | []=>[x]
 | y::l=>cond (decide (x≤y)) (x::y::l) (y::insI x l)
def ni : List Int→List Int
 | []=>[]
 | x::l=>insI x (ni l)
def sx : List Int→Bool
 | []=>true
 | x::l=>l.all (fun y=>decide (x<y))&&sx l
def eT (l:List Int): List V:=l.map (V.int .i64)
noncomputable def toldSorted (gs:List Nat): List V→H→Option (V×H)
 | [.fn (.func g) [] [.ptr b 0]],h=>match h.tr.get b with
  | some (.cells n [.map id] false)=>match h.tr.get id with
   | some (.map es clock)=>cond (Nat.beq n 1&&wW gs g&&bornUp clock 0 es&&Nat.ble es.length 1048576) (match keyInts es with
    | some ks=>cond (sx (ni ks)) (match ks with
     | []=>some (.bz,h)
     | _=>some (.sl h.next 0 ks.length (.rest 1 0),newRow h (eT (ni ks)))) none
    | none=>none) none
   | _=>none
  | _=>none
 | _,_=>none
theorem zR (x:Int): ∀l:List Int,(insI x l).Perm (x::l)
 | []=>.refl _
 | y::l=>by
  simp only [insI]
  cases decide (x≤y) with
  | true=>exact .refl _
  | false=>exact ((zR x l).cons y).trans (.swap x y l)
theorem eG : ∀l:List Int,(ni l).Perm l
 | []=>.refl _
 | x::l=>(zR x _).trans ((eG l).cons x)
theorem Ft : ∀l:List Int,sx l=true→l.Pairwise (· < ·)
 | [],_=>.nil
 | x::l,h=>by
  simp only [sx,aZ,pK,dZ] at h
  exact List.pairwise_cons.2 ⟨h.1,Ft l h.2⟩
theorem wJ : ∀ {l m:List Int},l.Perm m→l.Pairwise (· ≤ ·)→m.Pairwise (· ≤ ·)→l=m
 | [],m,I,_,_=>I.nil_eq
 | a::r,[],I,_,_=>absurd I.symm.nil_eq (by simp)
 | a::r,b::s,I,U,h2=>by
  obtain ⟨a1,a2⟩:=List.pairwise_cons.1 U
  obtain ⟨b1,b2⟩:=List.pairwise_cons.1 h2
  have J:a=b:=by
   have ha:a∈b::s:=I.mem_iff.1 (by simp)
   have hb:b∈a::r:=I.mem_iff.2 (by simp)
   have l1:b≤a:=by
    rcases List.mem_cons.1 ha with h | h
    ·omega
    ·exact b1 a h
   have l2:a≤b:=by
    rcases List.mem_cons.1 hb with h | h
    ·omega
    ·exact a1 b h
   omega
  subst J
  rw [wJ (List.Perm.cons_inv I) a2 b2]
theorem Fu {clock:Nat}: ∀(l:List (V×V×Nat)) (b:Nat),bornUp clock b l=true→(∀x∈l,b≤x.2.2∧x.2.2<clock)∧(l.map (·.2.2)).Nodup
 | [],_,_=>⟨by simp,by simp⟩
 | (k,v,x)::l,b,h=>by
  simp only [bornUp] at h
  cases J:(Nat.ble b x&&Nat.blt x clock) with
  | false=>rw [J] at h; cases h
  | true =>
   rw [J,ag] at h
   simp only [aZ,aQ,i_] at J
   obtain ⟨i1,i2⟩:=Fu l (x+1) h
   refine ⟨fun y I => ?_,?_⟩
   ·rcases List.mem_cons.1 I with rfl | I
    ·exact J
    ·have:=i1 y I; omega
   ·simp only [bI,mq,nY,not_exists,not_and]
    exact ⟨fun y I e=>by have:=i1 y I; omega,i2⟩
theorem C8 {c:Ctx}: ∀(l:List (V×V×Nat)) (ks:List Int),keyInts l=some ks→l.map (fun x=>conc c x.1)=ks.map (Value.int .i64)∧∀n∈ks,(Lit.int .i64 n).wf=true
 | [],ks,h=>by simp [keyInts] at h; subst h; simp
 | (k,v,b)::l,ks,h=>by
  unfold keyInts at h
  split at h
  ·rename_i he; cases he
  ·rename_i n v' J U he
   simp only [v7,aP] at he
   obtain ⟨⟨rfl,rfl,rfl⟩,rfl⟩:=he
   cases hw:(Lit.int .i64 n).wf with
   | false=>simp [hw] at h
   | true =>
    cases hm:keyInts l with
    | none=>simp [hw,hm] at h
    | some m =>
     simp [hw,hm] at h
     subst h
     obtain ⟨i1,i2⟩:=C8 (c:=c) l m hm
     refine ⟨by simp [conc,i1],fun x I => ?_⟩
     rcases List.mem_cons.1 I with rfl | I
     ·exact hw
     ·exact i2 x I
  ·cases h
section
variable {c:Ctx} {σ:H} {w w':World}
theorem Rel.below (h:Rel c σ w)(I:Below w.heap.size w w'): Rel c σ w'∧dL c w c w':=by
 have rows:∀b,b<w.heap.size→rowSize w' b=rowSize w b:=fun b J=>by unfold rowSize; rw [I.block b J]
 refine ⟨⟨h.next,h.live,fun id hi=>gI (h.kQ id hi) I.size,fun id hi=>by rw [rows _ (h.kQ id hi)]; exact h.zz id hi,h.inj,
  fun id o ho=>(h.obj id o ho).later (Ext.refl c) (h.live id o ho) (I.block _ (h.kQ id (h.live id o ho))),h.one,h.fx⟩,
  ⟨Ext.refl c,I.size,rows,fun b J _=>I.block b J,fun id U h2=>by omega,I.os,I.output⟩⟩
theorem Rel.take {b:Nat}{cs:List V}{C:Array Value}{T:TypeId}(h:Rel c σ w)(hb:b<w.heap.size)(hr:∀id,id<c.N→(c.ρ id).1≠b)(U:∀v∈cs,wf c v∧storable v=true)
 (hg:w.heap[b]?=some (.cells C T (0,0)))(hC:C.toList.take cs.length=cs.map (conc c)): Rel (c.grow b 0 C.size) (Am.newRow σ cs) w:=by
 have e:=rW hr 0 C.size
 have hN:(c.grow b 0 C.size).N=c.N+1:=rfl
 have hle:cs.length≤C.size:=by
  have:=iZ List.length hC
  simp at this
  omega
 have key:∀i o,(Am.newRow σ cs).tr.get i=some o→(i=c.N∧o=.cells cs.length cs false)∨(i<c.N∧σ.tr.get i=some o):=by
  intro i o hi
  rw [Am.newRow,f_,h.next] at hi
  by_cases J:i=c.N
  ·simp [J] at hi; exact .inl ⟨J,hi.symm⟩
  ·simp [J] at hi; exact .inr ⟨h.live i o hi,hi⟩
 refine ⟨by simp [Am.newRow,H.new,Ctx.grow,h.next],fun i o hi => ?_,fun i hi => ?_,fun i hi => ?_,fun i j o o' hi hj he => ?_,fun i o hi => ?_,fun i sO nu hi hx => ?_,fun i o hi hx => ?_⟩
 ·rw [hN]; rcases key i o hi with ⟨J,_⟩ | ⟨J,_⟩ <;> omega
 ·rw [hN] at hi
  by_cases J:i=c.N
  ·subst J; rw [bD]; exact hb
  ·rw [dz c _ _ _ (by omega)]; exact h.kQ i (by omega)
 ·rw [hN] at hi
  by_cases J:i=c.N
  ·subst J; rw [bD]; simp [Ctx.grow,rowSize,hg]
  ·rw [dz c _ _ _ (by omega),←h.zz i (by omega)]; simp [Ctx.grow,hr i (by omega)]
 ·rcases key i o hi with ⟨I,_⟩ | ⟨I,a2⟩ <;> rcases key j o' hj with ⟨b1,_⟩ | ⟨b1,b2⟩
  ·exact .inl (by omega)
  ·subst I; rw [bD,dz c _ _ _ b1] at he; exact absurd he.symm (hr j b1)
  ·subst b1; rw [bD,dz c _ _ _ I] at he; exact absurd he (hr i I)
  ·rw [dz c _ _ _ I,dz c _ _ _ b1] at he; rw [gr c _ _ _ I,gr c _ _ _ b1]; exact h.inj i j _ _ a2 b2 he
 ·rcases key i o hi with ⟨rfl,rfl⟩ | ⟨I,a2⟩
  ·refine ⟨rfl,fun v hv=>⟨(cu e v (U v hv).1).2,(U v hv).2⟩,C,T,(0,0),by rw [bD]; exact hg,by rw [bD]; simpa using hle,fun j v hj => ?_,rfl⟩
   rw [bD,(cu e v (U v (bw hj)).1).1]
   have ZC:j<cs.length:=(List.getElem?_eq_some_iff.1 hj).1
   have J:(C.toList.take cs.length)[j]?=some (conc c v):=by rw [hC]; simp [hj]
   rw [mj,aj ZC,jV] at J
   simpa using J
  ·exact (h.obj i o a2).later e I rfl
 ·rcases key i _ hi with ⟨rfl,_⟩ | ⟨I,a2⟩
  ·rw [bD]
  ·rw [gr c _ _ _ I] at hx
   rw [dz c _ _ _ I]; exact h.one i sO nu a2 hx
 ·rcases key i o hi with ⟨rfl,_⟩ | ⟨I,a2⟩
  ·rw [w5] at hx; cases hx
  ·rw [gr c _ _ _ I] at hx; exact h.fx i o a2 hx
def oO (_:Value): Option (DataW Unit×List MemPlace):=some (.nil,[])
def Fv (P:Program)(f K:Nat)(gs:List Nat): Prop:=∀g∈gs,∀(U b nn:Nat) (I:DataW Unit) (w:World),U<w.heap.size→w.cell? ⟨U,0,none⟩=some (.map (some b)) →
 w.ownsMap P K oO b nn I→Maps.size I≤maxLen→Maps.size I*8≤140737488355328 →
 Calls P f #[.func (.func g) #[] #[.pointer (some ⟨U,0,none⟩)]] w fun e w'=>∃(v:Value) (J:List Int),e=.returned v∧J.Perm (intKeys I) ∧
  w'.ownsRow w.heap.size K 1 v J.length ((J.mergeSort (fun x y=>decide (x≤y))).map encZ)∧(v=.slice none 0 0↔J=[])∧Below w.heap.size w w'
theorem F6 {P:Program}{f K:Nat}{gs:List Nat}(hK:P.underlying K=some (.int .i64))(hS:Fv P f K gs){args:List V}{v:V}{iJ:H}(I:toldSorted gs args σ=some (v,iJ))
 (h:Rel c σ w): fX P f args c w v iJ:=by
 unfold toldSorted at I
 split at I
 ·rename_i g b
  split at I
  ·rename_i n id SJ
   split at I
   ·rename_i es clock hgm
    cases hq:(Nat.beq n 1&&wW gs g&&bornUp clock 0 es&&Nat.ble es.length 1048576) with
    | false=>simp [hq] at I
    | true =>
     rw [hq,ag] at I
     simp only [aZ,beq_iff,aQ,BV] at hq
     obtain ⟨⟨⟨q1,q2⟩,q3⟩,q4⟩:=hq
     subst q1
     cases hk:keyInts es with
     | none=>simp [hk] at I
     | some ks =>
      simp only [hk] at I
      cases J:sx (ni ks) with
      | false=>simp [J] at I
      | true =>
       simp only [J,ag] at I
       obtain ⟨k1,k2⟩:=C8 (c:=c) es ks hk
       obtain ⟨b1,b2⟩:=Fu es 0 q3
       have hlen:ks.length=es.length:=by simpa using (congrArg List.length k1).symm
       have bV:=Ft _ J
       have nk:ks.Nodup:=(eG ks).nodup_iff.1 (bV.imp fun {a b} pQ=>by omega)
       have r9:=h.one b _ _ SJ (h.yF SJ (by intro _ _ he; cases he))
       have AY:=cell_of h SJ (j:=0) (v:=.map id) rfl
       have aaG:fL c b 0=⟨(c.ρ b).1,0,none⟩:=by simp [fL,r9]
       rw [aaG] at AY
       have Wj:w.cell? ⟨(c.ρ b).1,0,none⟩=some (.map (some (c.ρ id).1)):=by simpa [conc] using AY
       obtain ⟨m1,m2⟩:=h.obj id _ hgm
       have SK:∀x∈es,∃n,n∈ks∧(cq c x).key=.int .i64 n:=fun x U=>by
        have:conc c x.1∈ks.map (Value.int .i64):=by rw [←k1]; exact List.mem_map.2 ⟨x,U,rfl⟩
        obtain ⟨n,hn,he⟩:=List.mem_map.1 this
        exact ⟨n,hn,he.symm⟩
       have lY:∀x∈es,∀n,(cq c x).key=.int .i64 n→n∈ks→WideElems.rd P K oO (cq c x)=some (.int .i64 n,.nil):=fun x U n hn hm=>by
        simp [WideElems.rd,hn,Maps.keyOf_int_mk hK (k2 n hm),oO]
       have aaH:w.ownsMap P K oO (c.ρ id).1 es.length (.map (((es.map (cq c)).toArray.toList.map (WideElems.rg P K oO)).foldr DataW.insert [])):=by
        refine ⟨(es.map (cq c)).toArray,clock,m2,⟨by simp [maxLen]; omega,⟨fun x U => ?_,?_,?_⟩,fun x U => ?_⟩,by simp,rfl⟩
        ·simp only [nY] at U
         obtain ⟨y,hy,rfl⟩:=U
         exact (b1 y hy).2
        ·simpa [cq,vX] using b2
        ·have:(es.map (cq c)).toArray.toList.map (·.key)=ks.map (Value.int .i64):=by rw [←k1]; simp [cq,vX]
         rw [this]
         exact List.pairwise_map.2 (nk.imp fun {a b} gy e=>gy (by simpa using e))
        ·simp only [nY] at U
         obtain ⟨y,hy,rfl⟩:=U
         obtain ⟨n,hn,he⟩:=SK y hy
         exact ⟨_,lY y hy n he hn⟩
       have eX:Maps.size (H:=Unit) (.map (((es.map (cq c)).toArray.toList.map (WideElems.rg P K oO)).foldr DataW.insert []))=es.length:=by
        rw [Maps.size_eq,(WideShapes.sorted_perm _).length_eq]; simp
       have xz:(intKeys (H:=Unit) (.map (((es.map (cq c)).toArray.toList.map (WideElems.rg P K oO)).foldr DataW.insert []))).Perm ks:=by
        refine ((WideShapes.sorted_perm _).map _).trans ?_
        have:(((es.map (cq c)).toArray.toList.map (WideElems.rg P K oO)).map fun p=>intOf p.1)=ks:=by
         have ZD:∀x∈es,Value.int .i64 (intOf (WideElems.rg P K oO (cq c x)).1)=conc c x.1:=fun x U=>by
          obtain ⟨n,hn,he⟩:=SK x U
          rw [WideElems.rg_of (lY x U n he hn)]
          exact he.symm
         have h1:((((es.map (cq c)).toArray.toList.map (WideElems.rg P K oO)).map fun p=>intOf p.1).map (Value.int .i64))=ks.map (Value.int .i64):=by
          rw [←k1]
          simp only [v8]
          exact vS fun x U=>ZD x U
         exact List.map_inj_right (fun x y e=>by simpa using e) |>.1 h1
        rw [this]
       have Yw:=hS g q2 (c.ρ b).1 (c.ρ id).1 es.length _ w (h.kQ b (h.live b _ SJ)) Wj aaH (by rw [eX]; simp [maxLen]; omega) (by rw [eX]; omega)
       have SL:([V.fn (.func g) [] [.ptr b 0]].map (conc c)).toArray = #[.func (.func g) #[] #[.pointer (some ⟨(c.ρ b).1,0,none⟩)]]:=by simp [conc,concL,r9]
       unfold fX
       rw [SL]
       refine Yw.mono ?_
       rintro e w' ⟨rv,ss,rfl,s1,s2,s3,s4⟩
       obtain ⟨g1,g2⟩:=h.below s4
       have SM:ss.Perm ks:=s1.trans xz
       have hms:ss.mergeSort (fun x y=>decide (x≤y))=ni ks:=by
        refine wJ (((List.mergeSort_perm ss _).trans SM).trans (eG ks).symm) ?_ (bV.imp fun {a b} pQ=>by omega)
        have:=List.pairwise_mergeSort (le:=fun x y:Int=>decide (x≤y)) (fun a b c h1 h2=>by simp at h1 h2 ⊢; omega) (fun a b=>by simp; omega) ss
        exact this.imp fun {a b} pQ=>by simpa using pQ
       rw [hms] at s2
       split at I
       ·-- no key
        have xg:ss=[]:=by simpa using SM
        have hv:=s3.2 xg
        simp only [au,aP] at I
        obtain ⟨rfl,rfl⟩:=I
        exact ⟨c,by rw [hv]; simp [conc],by simp [wf],g1,g2⟩
       ·rename_i gy
        simp only [au,aP] at I
        obtain ⟨rfl,rfl⟩:=I
        have aaI:ss≠[]:=fun e=>by
         subst e
         exact gy (by simpa using SM.symm)
        have lK:ss.length=ks.length:=SM.length_eq
        rcases s2.2 with ⟨e1,_⟩ | ⟨gb,cap,cur,rfl,l1,l2,l3,l4,l5,l6⟩
        ·exact absurd (s3.1 e1) aaI
        have aaJ:gb<w'.heap.size:=(Array.getElem?_eq_some_iff.1 l2).1
        have Br:∀i,i<c.N→(c.ρ i).1≠gb:=fun i hi e=>by have:=h.kQ i hi; omega
        have qS:∀x∈eT (ni ks),wf c x∧storable x=true:=fun x U=>by
         obtain ⟨n,_,rfl⟩:=List.mem_map.1 U
         simp [wf,storable]
        have C9:(eT (ni ks)).length=ks.length:=by simp [eT,(eG ks).length_eq]
        have Yx:cur.toList.take (eT (ni ks)).length=(eT (ni ks)).map (conc c):=by
         rw [C9,←lK]
         have:ss.length*1=ss.length:=dW _
         rw [this] at l6
         rw [l6]
         simp [eT,conc,encZ,vX]
        have R:=g1.take aaJ Br qS l2 Yx
        have Cp:(c.grow gb 0 cur.size).room σ.next 0 1=cap:=by
         simp only [Ctx.room,h.next,Ctx.grow,bQ]
         simp [l5]
        refine ⟨c.grow gb 0 cur.size,?_,?_,R,g2.Gc Br l1⟩
        ·simp only [conc,Cp]
         simp [h.next,Ctx.grow,lK]
        ·simp only [wf,Cp]
         exact ⟨by rw [h.next]; simp [Ctx.grow],aI _,by omega⟩
   ·cases I
  ·cases I
 ·cases I
end
end Go.Proofs.YtconhghphklfjaaGreat.Am
