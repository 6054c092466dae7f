/- SpaceRoots: a part of its proof; conditions: its statement's. -/
import Derived.Test.YtefepnnfphdkpaaGreatF15
import Derived.Test.YtefepnnfphdkpaaGreatF11
import Derived.Shelf.SlIterI.Sorted
namespace Go.Proofs.YtefepnnfphdkpaaGreat.Am
open Go
abbrev cR := List (Int×V×Nat)
def gO (e:Int×V×Nat): V×V×Nat:=(.int .i64 e.1,e.2)
def lookE (n:Int): cR→Option V
 | []=>none
 | e::l=>if e.1=n then some e.2.1 else lookE n l
def jG (n:Int)(v:V)(c:Nat): cR→cR
 | []=>[(n,v,c)]
 | e::l=>if e.1=n then (e.1,v,e.2.2)::l else e::jG n v c l
def qf (n:Int): cR→cR
 | []=>[]
 | e::l=>if e.1=n then l else e::qf n l
def clkE (n:Int)(c:Nat)(l:cR): Nat:=match lookE n l with
 | some _=>c
 | none=>c+1
abbrev gE (id:Nat)(l:cR)(c:Nat): au:=pt id (.map (l.map gO) c)
def idxE (n:Int): cR→Nat→Option (Nat×V)
 | [],_=>none
 | e::l,i=>if e.1=n then some (i,e.2.1) else idxE n l (i+1)
theorem k_ (a b:Int): intBeq a b=decide (a=b):=by
 cases I:intBeq a b with
 | true=>simp [u5 I]
 | false =>
  by_cases he:a=b
  ·subst he; rw [lz] at I; cases I
  ·simp [he]
theorem tF {k:IntKind}{n:Int}: ∀(l:cR) (i:Nat),findK (.int k) (.int .i64 n) (l.map gO) i=some (idxE n l i):=by
 intro l
 induction l with
 | nil=>intro i; rfl
 | cons e l I =>
  intro i
  simp only [b6,findK,gO,keyBeq,dN,ag,k_,idxE]
  by_cases he:e.1=n
  ·have:n=e.1:=he.symm
   simp [this]
  ·have:decide (n=e.1)=false:=by simp; exact fun h=>he h.symm
   rw [this,ah he]
   exact I (i+1)
theorem pH {n:Int}: ∀(l:cR) (i:Nat),(idxE n l i).map (·.2)=lookE n l:=by
 intro l
 induction l with
 | nil=>intro i; rfl
 | cons e l I =>
  intro i
  simp only [idxE,lookE]
  by_cases he:e.1=n
  ·simp [he]
  ·simp only [ah he]; exact I (i+1)
theorem KM {n:Int}: ∀(l:cR) (i j:Nat) (v:V),idxE n l i=some (j,v)→i≤j:=by
 intro l
 induction l with
 | nil=>intro i j v h; cases h
 | cons e l I =>
  intro i j v h
  simp only [idxE] at h
  by_cases he:e.1=n
  ·rw [aj he] at h; injection h with h; injection h with J h2; omega
  ·rw [ah he] at h; have:=I _ _ _ h; omega
theorem YN {n:Int}{v:V}{c:Nat}: ∀(l:cR) (i j:Nat) (u:V),idxE n l i=some (j,u)→setNth (l.map gO) (j-i) (fun e=>(e.1,v,e.2.2))=(jG n v c l).map gO:=by
 intro l
 induction l with
 | nil=>intro i j u h; cases h
 | cons e l I =>
  intro i j u h
  simp only [idxE] at h
  simp only [jG,b6,setNth]
  by_cases he:e.1=n
  ·rw [aj he] at h; injection h with h; injection h with J h2
   subst J
   rw [aj he,td]
   rfl
  ·rw [ah he] at h
   have h3:=KM _ _ _ _ h
   rw [ah he,dc (by omega),az,show j-i-1=j-(i+1) by omega,I _ _ _ h]
   rfl
theorem WU {n:Int}: ∀(l:cR) (i j:Nat) (u:V),idxE n l i=some (j,u)→ki (l.map gO) (j-i)=(qf n l).map gO:=by
 intro l
 induction l with
 | nil=>intro i j u h; cases h
 | cons e l I =>
  intro i j u h
  simp only [idxE] at h
  simp only [qf,b6,ki]
  by_cases he:e.1=n
  ·rw [aj he] at h; injection h with h; injection h with J h2
   subst J
   rw [aj he,td]
   rfl
  ·rw [ah he] at h
   have h3:=KM _ _ _ _ h
   rw [ah he,dc (by omega),az,show j-i-1=j-(i+1) by omega,I _ _ _ h]
   rfl
theorem Uz {n:Int}{v:V}{c:Nat}: ∀(l:cR),lookE n l=none→jG n v c l=l++[(n,v,c)]:=by
 intro l
 induction l with
 | nil=>intro _; rfl
 | cons e l I =>
  intro h
  simp only [lookE] at h
  by_cases he:e.1=n
  ·rw [aj he] at h; cases h
  ·rw [ah he] at h; simp only [jG,ah he,I h,fg]
theorem Q4 {n:Int}: ∀(l:cR),lookE n l=none→qf n l=l:=by
 intro l
 induction l with
 | nil=>intro _; rfl
 | cons e l I =>
  intro h
  simp only [lookE] at h
  by_cases he:e.1=n
  ·rw [aj he] at h; cases h
  ·rw [ah he] at h; simp only [qf,ah he,I h]
section
variable {P:Program} {h h':H} {S:List au} {v z:V} {t kt et:TypeId} {k:IntKind} {id c j:Nat} {l:cR} {n:Int}
theorem Sat.Tp (s:Sat h S)(I:getA S j=some (gE id l c))(hu:P.underlying t=some (.map kt et))(J:P.underlying kt=some (.int k))(hz:zeroT P et=some z):
  eV P h t (.map id) (.int .i64 n) true=some (match lookE n l with | some v=>.bj [v,.bool true] | none=>.bj [z,.bool false]):=by
 have hg:=s.row I
 simp only [eV,lookupV,hu,J,hz,hg,keyBeq,dN,ag,tF]
 rw [←pH l 0]
 cases idxE n l 0 with
 | none=>rfl
 | some q=>rfl
theorem Sat.YO (s:Sat h S)(I:getA S j=some (gE id l c))(hu:P.underlying t=some (.map kt et))(J:P.underlying kt=some (.int k))(hz:zeroT P et=some z):
  eV P h t (.map id) (.int .i64 n) false=some (match lookE n l with | some v=>v | none=>z):=by
 have hg:=s.row I
 simp only [eV,lookupV,hu,J,hz,hg,keyBeq,dN,ag,tF]
 rw [←pH l 0]
 cases idxE n l 0 with
 | none=>rfl
 | some q=>rfl
theorem Sat.update (s:Sat h S)(hj:getA S j=some (gE id l c))(hu:P.underlying t=some (.map kt et))(hk:P.underlying kt=some (.int k)):
  ∃h',mapUpdateV P h t (.map id) (.int .i64 n) v=some h'∧Sat h' (setA S j (gE id (jG n v c l) (clkE n c l))):=by
 have hg:=s.row hj
 refine ⟨h.put id (some (.map ((jG n v c l).map gO) (clkE n c l))),?_,s.put hj⟩
 simp only [mapUpdateV,hu,hk,hg,keyBeq,dN,ag,tF]
 have I:=pH (n:=n) l 0
 cases J:idxE n l 0 with
 | none =>
  rw [J] at I
  have I:lookE n l=none:=I.symm
  simp only [clkE,I,Uz l I,Ef]
  rfl
 | some q =>
  obtain ⟨i,u⟩:=q
  rw [J] at I
  have I:lookE n l=some u:=I.symm
  simp only [clkE,I]
  rw [←YN (v:=v) (c:=c) l 0 i u J,kf]
theorem Sat.delete (s:Sat h S)(J:getA S j=some (gE id l c))(hu:P.underlying t=some (.map kt et))(hk:P.underlying kt=some (.int k)):
  ∃h',o8 P h t (.map id) (.int .i64 n)=some h'∧Sat h' (setA S j (gE id (qf n l) c)):=by
 have hg:=s.row J
 simp only [o8,hu,hk,hg,keyBeq,dN,ag,tF]
 have I:=pH (n:=n) l 0
 cases hq:idxE n l 0 with
 | none =>
  rw [hq] at I
  have I:lookE n l=none:=I.symm
  refine ⟨h,rfl,?_⟩
  rw [Q4 l I]
  have:∀(S:List au) (j:Nat) (A:au),getA S j=some A→setA S j A=S:=by
   intro S
   induction S with
   | nil=>intro j A h; cases h
   | cons B S ih =>
    intro j A h
    cases j with
    | zero=>simp only [getA] at h; injection h with h; subst h; rfl
    | succ j=>simp only [getA] at h; simp only [setA,ih j A h]
  rw [this S j _ J]
  exact s
 | some q =>
  obtain ⟨i,u⟩:=q
  refine ⟨_,rfl,?_⟩
  have e:=WU l 0 i u hq
  rw [kf] at e
  rw [e]
  exact s.put J
theorem Sat.aaE (s:Sat h S)(I:getA S j=some (gE id l c))(hu:P.underlying t=some (.map kt et)): lenV P h t (.map id)=some (.int .i64 (l.length:Int)):=by
 have J:=s.row I
 simp only [lenV,hu,J,fS]
end
section
variable {C:cL} {E:List (Nat×V)} {h h':H} {o:Oper} {S':List au} {x y z:Operand} {a b v u:V} {t:TypeId} {cl:Go.Call}
theorem OpR.upd (I:∀env,jB env E→evOp C (ev C 0) env h o=(match mapUpdateV C.P h t a b v with | some h'=>some (bV,h') | none=>none))
 (ho:∃h₁,mapUpdateV C.P h t a b v=some h₁∧Sat h₁ S'): OpR C E h o fun _ h₁=>Sat h₁ S':=by
 obtain ⟨h₁,J,e2⟩:=ho
 exact ⟨bV,h₁,e2,fun env he=>⟨0,by rw [I env he,J]⟩⟩
theorem OpR.mapUpdate (I:o.op=.mapUpdate t x y z)(J:lookO E x=some a)(hy:lookO E y=some b)(hz:lookO E z=some v)
 (ho:∃h₁,mapUpdateV C.P h t a b v=some h₁∧Sat h₁ S'): OpR C E h o fun _ h₁=>Sat h₁ S':=by
 refine OpR.upd (t:=t) (a:=a) (b:=b) (v:=v) (fun env he => ?_) ho
 simp only [evOp,I,bP he J,bP he hy,bP he hz,nh]
 cases mapUpdateV C.P h t a b v <;> rfl
theorem OpR.builtin {args:List V}{bi:Builtin}{R:V→H→Prop}(I:o.op=.call cl)(J:cl.callee=.builtin bi)(ha:lookArgs E cl.args.toList=some args)(ho:∃v h₁,builtinV C.P h bi cl.argTypes args=some (v,h₁)∧R v h₁): OpR C E h o R:=by
 obtain ⟨v,h₁,e1,e2⟩:=ho
 refine OpR.of ?_ e2
 rw [I]
 simp only [opE,J,ha,e1]
theorem OpR.ru {l m:List Nat}{S:List au}{X:au}(hP:C.P=Tryz.prog)(s:Sat h (aZ v l::X::S))(hX:cT X (cU u m))(I:o.op=.call cl)(hc:cl.callee=.builtin .append)(J:cl.argTypes = #[28,28])(ha:lookArgs E cl.args.toList=some [v,u])
 (eZ:l.length+m.length≤140737488355328): OpR C E h o fun v' h₁=>Sat h₁ (aZ v' (l++m)::X::S):=by
 obtain ⟨v',h₁,e1,e2⟩:=C8 s hX eZ
 refine OpR.builtin I hc ha ⟨v',h₁,?_,e2⟩
 simp only [builtinV,hP,J,e1]
theorem OpR.uq {S:List au}{c:Nat}(J:C.P=Tryz.prog)(s:Sat h S)(I:o.op=.makeSlice t x y)(ht:t=28)(hx:lookO E x=some (.int .i64 0))(hy:lookO E y=some (.int .i64 (c:Int)))(hc:c<1073741824): OpR C E h o fun v' h₁=>Sat h₁ (aZ v' []::S):=by
 obtain ⟨v',h₁,e1,e2⟩:=Fu s hc
 exact OpR.of (by rw [I,ht,J]; exact sK hx hy e1) e2
theorem OpR.rJ {S:List au}{c:Nat}(J:C.P=Tryz.prog)(s:Sat h S)(I:o.op=.makeSlice t x y)(ht:t=28)(hx:lookO E x=some (.int .i64 (c:Int)))(hy:lookO E y=some (.int .i64 (c:Int)))(hc:c<1073741824): OpR C E h o fun v' h₁=>Sat h₁ (aZ v' (List.replicate c 0)::S):=by
 obtain ⟨v',h₁,e1,e2⟩:=Oo s hc
 exact OpR.of (by rw [I,ht,J]; exact sK hx hy e1) e2
theorem OpR.Tq {l m:List Nat}{S:List au}{X:au}{p q:Nat}(hP:C.P=Tryz.prog)(s:Sat h (aZ v l::X::S))(hX:cT X (cU u m))(I:o.op=.call cl)(hc:cl.callee=.builtin .copy)(J:cl.argTypes = #[28,28])(ha:lookArgs E cl.args.toList=some [slR v p q,u])
 (hpq:p<q)(hq:q≤l.length)(hm:1≤m.length): OpR C E h o fun _ h₁=>Sat h₁ (aZ v (aV l p (m.take (q-p)))::X::S):=by
 obtain ⟨h₁,e1,e2⟩:=B1 s hX hpq hq hm
 refine OpR.builtin I hc ha ⟨.int .i64 (min m.length (q-p):Nat),h₁,?_,e2⟩
 simp only [builtinV,hP,J,e1]
theorem OpR.Mi {S:List au}{n:Nat}{ps:Array (Nat×Operand)}(J:C.P=Tryz.prog)(s:Sat h S)(I:o.op=.buildSlice t 1 ps)(ht:t=28)(hx:lookParts E ps.toList=some [(0,.int .u8 (n:Int))])(hn:n<256): OpR C E h o fun v' h₁=>Sat h₁ (aZ v' [n]::S):=by
 obtain ⟨v',h₁,e1,e2⟩:=Oq s hn
 exact OpR.of (by rw [I,ht,J]; exact om hx e1) e2
end
section
variable {α:Type}
def lookL (n:Int): List (Int×α)→Option α
 | []=>none
 | e::l=>if e.1=n then some e.2 else lookL n l
def cB (n:Int)(a:α): List (Int×α)→List (Int×α)
 | []=>[(n,a)]
 | e::l=>if e.1=n then (n,a)::l else e::cB n a l
def m_ (n:Int): List (Int×α)→List (Int×α)
 | []=>[]
 | e::l=>if e.1=n then l else e::m_ n l
theorem gS {n k:Int}{a:α}: ∀l:List (Int×α),lookL k (cB n a l)=if n=k then some a else lookL k l:=by
 intro l
 induction l with
 | nil=>simp [cB,lookL]
 | cons e l J =>
  simp only [cB]
  by_cases he:e.1=n
  ·rw [aj he]
   simp only [lookL]
   by_cases I:n=k
   ·simp [I]
   ·have:¬ e.1=k:=fun h=>I (by rw [←he,h])
    simp [I,this]
  ·rw [ah he]
   simp only [lookL,J]
   by_cases I:e.1=k
   ·have:¬ n=k:=fun h=>he (by rw [I,h])
    simp [I,this]
   ·simp [I]
theorem j8 {n:Int}: ∀ {l:List (Int×α)},lookL n l=none↔n∉l.map (·.1):=by
 intro l
 induction l with
 | nil=>simp [lookL]
 | cons e l I =>
  simp only [lookL,b6,fq,qU]
  by_cases he:e.1=n
  ·simp [he]
  ·rw [ah he,I]
   exact ⟨fun h=>⟨fun J=>he J.symm,h⟩,fun h=>h.2⟩
theorem Fy {n k:Int}: ∀ {l:List (Int×α)},(l.map (·.1)).Nodup→lookL k (m_ n l)=if n=k then none else lookL k l:=by
 intro l
 induction l with
 | nil=>simp [m_,lookL]
 | cons e l ih =>
  intro J
  simp only [b6,nR] at J
  simp only [m_]
  by_cases he:e.1=n
  ·rw [aj he]
   by_cases I:n=k
   ·rw [aj I,←I,j8,←he]; exact J.1
   ·have:¬ e.1=k:=fun h=>I (by rw [←he,h])
    simp [lookL,I,this]
  ·rw [ah he]
   simp only [lookL,ih J.2]
   by_cases I:e.1=k
   ·have:¬ n=k:=fun h=>he (by rw [I,h])
    simp [I,this]
   ·simp [I]
theorem oQ {n:Int}{a:α}: ∀ {l:List (Int×α)} {k:Int},k∈(cB n a l).map (·.1)↔k=n∨k∈l.map (·.1):=by
 intro l
 induction l with
 | nil=>intro k; simp [cB]
 | cons e l I =>
  intro k
  simp only [cB]
  by_cases he:e.1=n
  ·rw [aj he]; simp [he]
  ·rw [ah he]
   simp only [b6,fq,I]
   constructor
   ·rintro (h | h | h) <;> simp [h]
   ·rintro (h | h | h) <;> simp [h]
theorem iL {n:Int}{a:α}: ∀ {l:List (Int×α)},(l.map (·.1)).Nodup→((cB n a l).map (·.1)).Nodup:=by
 intro l
 induction l with
 | nil=>simp [cB]
 | cons e l J =>
  intro I
  simp only [b6,nR] at I
  simp only [cB]
  by_cases he:e.1=n
  ·rw [aj he]; simp only [b6,nR]; rw [←he]; exact I
  ·rw [ah he]
   simp only [b6,nR]
   refine ⟨fun h => ?_,J I.2⟩
   rcases oQ.1 h with h | h
   ·exact he h
   ·exact I.1 h
theorem Q5 {n:Int}: ∀ {l:List (Int×α)} {k:Int},k∈(m_ n l).map (·.1)→k∈l.map (·.1):=by
 intro l
 induction l with
 | nil=>intro k h; exact h
 | cons e l I =>
  intro k h
  simp only [m_] at h
  by_cases he:e.1=n
  ·rw [aj he] at h; simp only [b6,fq]; exact .inr h
  ·rw [ah he] at h
   simp only [b6,fq] at h ⊢
   exact h.imp_right I
theorem xx {n:Int}: ∀ {l:List (Int×α)},(l.map (·.1)).Nodup→((m_ n l).map (·.1)).Nodup:=by
 intro l
 induction l with
 | nil=>simp [m_]
 | cons e l J =>
  intro I
  simp only [b6,nR] at I
  simp only [m_]
  by_cases he:e.1=n
  ·rw [aj he]; exact I.2
  ·rw [ah he]
   simp only [b6,nR]
   exact ⟨fun h=>I.1 (Q5 h),J I.2⟩
def eW (f:V→α→au): cR→List (Int×α)→au
 | [],[]=>.pu True
 | e::l,x::m=>.an (.an (.pu (e.1=x.1)) (f e.2.1 x.2)) (eW f l m)
 | _,_=>.pu False
variable {f:V→α→au} {a b:PM}
theorem xy : ∀ {l:cR} {m:List (Int×α)},(eW f l m).p a b→l.map (·.1)=m.map (·.1):=by
 intro l
 induction l with
 | nil=>intro m h; cases m with
  | nil=>rfl
  | cons x m=>exact h.elim
 | cons e l I=>intro m h; cases m with
  | nil=>exact h.elim
  | cons x m=>simp only [b6]; rw [h.1.1,I h.2]
theorem sL {n:Int}: ∀ {l:cR} {m:List (Int×α)},(eW f l m).p a b→(lookE n l=none∧lookL n m=none)∨∃u x,lookE n l=some u∧lookL n m=some x∧(f u x).p a b:=by
 intro l
 induction l with
 | nil=>intro m h; cases m with
  | nil=>exact .inl ⟨rfl,rfl⟩
  | cons x m=>exact h.elim
 | cons e l J=>intro m h; cases m with
  | nil=>exact h.elim
  | cons x m =>
   obtain ⟨⟨I,h2⟩,h3⟩:=h
   have I:e.1=x.1:=I
   simp only [lookE,lookL,←I]
   by_cases he:e.1=n
   ·rw [aj he,aj he]; exact .inr ⟨_,_,rfl,rfl,h2⟩
   ·rw [ah he,ah he]; exact J h3
theorem Fz {n:Int}{u:V}{x:α}{c:Nat}(hu:(f u x).p a b): ∀ {l:cR} {m:List (Int×α)},(eW f l m).p a b→(eW f (jG n u c l) (cB n x m)).p a b:=by
 intro l
 induction l with
 | nil=>intro m h; cases m with
  | nil=>exact ⟨⟨rfl,hu⟩,aa⟩
  | cons x m=>exact h.elim
 | cons e l ih=>intro m h; cases m with
  | nil=>exact h.elim
  | cons y m =>
   obtain ⟨⟨I,h2⟩,J⟩:=h
   have I:e.1=y.1:=I
   simp only [jG,cB,←I]
   by_cases he:e.1=n
   ·rw [aj he,aj he]; exact ⟨⟨he,hu⟩,J⟩
   ·rw [ah he,ah he]; exact ⟨⟨I,h2⟩,ih J⟩
theorem Ox {n:Int}: ∀ {l:cR} {m:List (Int×α)},(eW f l m).p a b→(eW f (qf n l) (m_ n m)).p a b:=by
 intro l
 induction l with
 | nil=>intro m h; cases m with
  | nil=>trivial
  | cons x m=>exact h.elim
 | cons e l ih=>intro m h; cases m with
  | nil=>exact h.elim
  | cons y m =>
   obtain ⟨⟨I,h2⟩,J⟩:=h
   have I:e.1=y.1:=I
   simp only [qf,m_,←I]
   by_cases he:e.1=n
   ·rw [aj he,aj he]; exact J
   ·rw [ah he,ah he]; exact ⟨⟨I,h2⟩,ih J⟩
theorem aW.HG (I:∀u x,aW (f u x)): ∀(l:cR) (m:List (Int×α)),aW (eW f l m):=by
 intro l
 induction l with
 | nil=>intro m; cases m <;> exact aW.pu _
 | cons e l J=>intro m; cases m with
  | nil=>exact aW.pu _
  | cons x m=>exact aW.an (aW.an (aW.pu _) (I _ _)) (J m)
def gB (c:Nat): Nat→cR→Prop
 | _,[]=>True
 | b,e::l=>b≤e.2.2∧e.2.2<c∧gB c (e.2.2+1) l
theorem Mj {c:Nat}: ∀ {l:cR} {b I:Nat},I≤b→gB c b l→gB c I l:=by
 intro l
 cases l with
 | nil=>intro b I _ _; trivial
 | cons e l=>intro b I h J; exact ⟨cC h J.1,J.2⟩
theorem zC {c n:Nat}{k:Int}{u:V}(hn:n=c): ∀ {l:cR} {b:Nat},b≤c→gB c b l→gB (clkE k c l) b (jG k u n l):=by
 subst hn
 intro l
 induction l with
 | nil=>intro b J _; simp only [jG,clkE,lookE]; exact ⟨J,Ea _,aa⟩
 | cons e l ih =>
  intro b J h
  have I:=ih (b:=e.2.2+1) (by have:=h.2.1; omega) h.2.2
  simp only [clkE] at I
  by_cases he:e.1=k
  ·simp only [jG,clkE,lookE,aj he]; exact h
  ·simp only [jG,clkE,lookE,ah he]
   refine ⟨h.1,?_,I⟩
   have:=h.2.1
   split <;> omega
theorem Oy {c:Nat}{k:Int}: ∀ {l:cR} {b:Nat},gB c b l→gB c b (qf k l):=by
 intro l
 induction l with
 | nil=>intro b h; exact h
 | cons e l I =>
  intro b h
  simp only [qf]
  by_cases he:e.1=k
  ·rw [aj he]; exact Mj (by have:=h.1; omega) h.2.2
  ·rw [ah he]; exact ⟨h.1,h.2.1,I h.2.2⟩
def jc (f:V→α→au)(v:V)(m:List (Int×α)): au :=
 xs fun id:Nat=>xs fun l:cR=>xs fun c:Nat=>star [.pu (v=.map id∧gB c 0 l∧(m.map (·.1)).Nodup),gE id l c,eW f l m]
section
variable {P:Program} {h h':H} {S:List au} {v u z:V} {t kt et:TypeId} {k:IntKind} {m:List (Int×α)} {n:Int} {x:α}
theorem fb : Sat h (jc f v m::S)↔∃id l c,v=.map id∧gB c 0 l∧(m.map (·.1)).Nodup∧Sat h (gE id l c::eW f l m::S):=by
 simp only [jc,gN,bQ,fg,cZ,eo,and_assoc,gE]
theorem mz (hf:∀u x,aW (f u x))(s:Sat h (jc f v m::S))(hu:P.underlying t=some (.map kt et))(hk:P.underlying kt=some (.int k))(hz:zeroT P et=some z):
  (lookL n m=none∧eV P h t v (.int .i64 n) true=some (.bj [z,.bool false])∧eV P h t v (.int .i64 n) false=some z) ∨
  ∃u x,lookL n m=some x∧eV P h t v (.int .i64 n) true=some (.bj [u,.bool true])∧eV P h t v (.int .i64 n) false=some u∧Sat h (f u x::jc f v m::S):=by
 obtain ⟨id,l,c,rfl,hb,hn,s1⟩:=fb.1 s
 have e2:=s1.Tp (n:=n) (j:=0) rfl hu hk hz
 have e1:=s1.YO (n:=n) (j:=0) rfl hu hk hz
 obtain ⟨a,b,q1,q2,q3⟩:=s1.at (k:=1) rfl
 rcases sL (n:=n) q3 with ⟨g1,g2⟩ | ⟨u,x,g1,g2,g3⟩
 ·rw [g1] at e1 e2; exact .inl ⟨g2,e2,e1⟩
 ·rw [g1] at e1 e2
  refine .inr ⟨u,x,g2,e2,e1,?_⟩
  have s2:Sat h (eW f l m::gE id l c::S):=s1.qb [1]
  have s3:=s2.dup (aW.HG hf l m)
  have s4:Sat h (f u x::eW f l m::gE id l c::S):=s3.hO fun a' b' h'=>by
   rcases sL (n:=n) h' with ⟨I,_⟩ | ⟨u',x',I,J,WV⟩
   ·rw [g1] at I; cases I
   ·rw [g1] at I; rw [g2] at J; injection I with I; injection J with J; subst I; subst J; exact WV
  have s5:Sat h (gE id l c::eW f l m::f u x::S):=s4.qb [2,1]
  exact (fb.2 ⟨id,l,c,rfl,hb,hn,s5⟩:Sat h (jc f (.map id) m::f u x::S)).qb [1]
theorem oR (J:∀u x,aW (f u x))(s:Sat h (f u x::jc f v m::S))(hu:P.underlying t=some (.map kt et))(hk:P.underlying kt=some (.int k)):
  ∃h',mapUpdateV P h t v (.int .i64 n) u=some h'∧Sat h' (jc f v (cB n x m)::S):=by
 have s0:Sat h (jc f v m::f u x::S):=s.qb [1]
 obtain ⟨id,l,c,rfl,hb,hn,s1⟩:=fb.1 s0
 obtain ⟨h',e1,I⟩:=s1.update (n:=n) (v:=u) (j:=0) rfl hu hk
 refine ⟨h',e1,?_⟩
 have I:Sat h' (gE id (jG n u c l) (clkE n c l)::eW f l m::f u x::S):=I
 have e3:Sat h' (f u x::eW f l m::gE id (jG n u c l) (clkE n c l)::S):=I.qb [2,1]
 have e4:Sat h' (eW f (jG n u c l) (cB n x m)::gE id (jG n u c l) (clkE n c l)::S):=e3.map fun a b h=>by
  obtain ⟨p1,p2,d1,d2,d3,d4,p3,p4,d5,d6,d7,d8,d9⟩:=h
  exact ⟨fun _=>none,p4,fun _=>.inl rfl,fun _ _ h=>(by cases h),PM.le_trans d7 d3,Fz (J _ _ _ _ d4) (aW.HG J _ _ _ _ d8),d9⟩
 exact fb.2 ⟨id,_,_,rfl,zC rfl (ew _) hb,iL hn,e4.qb [1]⟩
theorem Q6 (s:Sat h (jc f v m::S))(hu:P.underlying t=some (.map kt et))(J:P.underlying kt=some (.int k)):
  ∃h',o8 P h t v (.int .i64 n)=some h'∧Sat h' (jc f v (m_ n m)::S):=by
 obtain ⟨id,l,c,rfl,hb,hn,s1⟩:=fb.1 s
 obtain ⟨h',e1,I⟩:=s1.delete (n:=n) (j:=0) rfl hu J
 refine ⟨h',e1,?_⟩
 have I:Sat h' (gE id (qf n l) c::eW f l m::S):=I
 have e3:Sat h' (eW f l m::gE id (qf n l) c::S):=I.qb [1]
 have e4:Sat h' (eW f (qf n l) (m_ n m)::gE id (qf n l) c::S):=e3.hO fun a b h=>Ox h
 exact fb.2 ⟨id,_,_,rfl,Oy hb,xx hn,e4.qb [1]⟩
theorem HH (s:Sat h (jc f v m::S))(hu:P.underlying t=some (.map kt et)): lenV P h t v=some (.int .i64 (m.length:Int)):=by
 obtain ⟨id,l,c,rfl,J,hn,s1⟩:=fb.1 s
 have e:=s1.aaE (j:=0) rfl hu
 obtain ⟨a,b,q1,q2,I⟩:=s1.at (k:=1) rfl
 have:=gy List.length (xy I)
 simp only [fS] at this
 rw [this] at e
 exact e
theorem ur {id:Nat}(s:Sat h (pt id (.map [] 0)::S)): Sat h (jc f (.map id) []::S):=by
 have s1:Sat h (eW f [] []::pt id (.map [] 0)::S):=s.gA aa
 exact fb.2 ⟨id,[],0,rfl,aa,by simp,s1.qb [1]⟩
theorem HI {j:Nat}(s:Sat h S)(I:getA S j=some (jc f v m)): ∃id,v=.map id:=by
 have s1:=s.take j I
 obtain ⟨id,l,c,rfl,_⟩:=fb.1 s1
 exact ⟨id,rfl⟩
end
end
theorem OpR.delete {C:cL}{E:List (Nat×V)}{h:H}{o:Oper}{S':List au}{cl:Go.Call}{t u:TypeId}{m k:V}(I:o.op=.call cl)(hc:cl.callee=.builtin .delete)(J:cl.argTypes = #[t,u])(ha:lookArgs E cl.args.toList=some [m,k])
 (ho:∃h₁,o8 C.P h t m k=some h₁∧Sat h₁ S'): OpR C E h o fun _ h₁=>Sat h₁ S':=by
 obtain ⟨h₁,e1,e2⟩:=ho
 refine OpR.builtin I hc ha ⟨.bj [],h₁,?_,e2⟩
 simp only [builtinV,J,e1,jN]
end Go.Proofs.YtefepnnfphdkpaaGreat.Am
namespace Go.Proofs.YtefepnnfphdkpaaGreat.Am
open Go Go.Maps Go.RowKit
def keyInts : List (V×V×Nat)→Option (List Int)
 | []=>some []
 | (.int .i64 n,_,_)::l=>cond (Lit.int .i64 n).wf (match keyInts l with
  | some m=>some (n::m)
  | none=>none) none
 | _=>none
def bornUp (clock:Nat): Nat→List (V×V×Nat)→Bool
 | _,[]=>true
 | b,(_,_,x)::l=>cond (Nat.ble b x&&Nat.blt x clock) (bornUp clock (x+1) l) false
def insI (x:Int): List Int→List Int
 | []=>[x]
 | y::l=>cond (decide (x≤y)) (x::y::l) (y::insI x l)
def nc : List Int→List Int
 | []=>[]
 | x::l=>insI x (nc l)
def rX : List Int→Bool
 | []=>true
 | x::l=>l.all (fun y=>decide (x<y))&&rX l
def gj (l:List Int): List V:=l.map (V.int .i64)
noncomputable def toldSorted (gs:List Nat): List V→H→Option (V×H)
 | [.fn (.func g) [] [.ptr b 0]],h=>match h.tr.get b with
  | some (.cells n [.map id] false)=>match h.tr.get id with
   | some (.map es clock)=>cond (Nat.beq n 1&&wT gs g&&bornUp clock 0 es&&Nat.ble es.length 1048576) (match keyInts es with
    | some ks=>cond (rX (nc ks)) (match ks with
     | []=>some (.bw,h)
     | _=>some (.sl h.next 0 ks.length (.rest 1 0),newRow h (gj (nc ks)))) none
    | none=>none) none
   | _=>none
  | _=>none
 | _,_=>none
theorem zD (x:Int): ∀l:List Int,(insI x l).Perm (x::l)
 | []=>.refl _
 | y::l=>by
  simp only [insI]
  cases decide (x≤y) with
  | true=>exact .refl _
  | false=>exact ((zD x l).cons y).trans (.swap x y l)
theorem fc : ∀l:List Int,(nc l).Perm l
 | []=>.refl _
 | x::l=>(zD x _).trans ((fc l).cons x)
theorem FA : ∀l:List Int,rX l=true→l.Pairwise (· < ·)
 | [],_=>.nil
 | x::l,h=>by
  simp only [rX,aO,lQ,eL] at h
  exact List.pairwise_cons.2 ⟨h.1,FA l h.2⟩
theorem wH : ∀ {l m:List Int},l.Perm m→l.Pairwise (· ≤ ·)→m.Pairwise (· ≤ ·)→l=m
 | [],m,I,_,_=>I.nil_eq
 | a::r,[],I,_,_=>absurd I.symm.nil_eq (by simp)
 | a::r,b::s,I,h1,h2=>by
  obtain ⟨a1,a2⟩:=List.pairwise_cons.1 h1
  obtain ⟨b1,b2⟩:=List.pairwise_cons.1 h2
  have J:a=b:=by
   have ha:a∈b::s:=I.mem_iff.1 (by simp)
   have hb:b∈a::r:=I.mem_iff.2 (by simp)
   have l1:b≤a:=by
    rcases List.mem_cons.1 ha with h | h
    ·omega
    ·exact b1 a h
   have l2:a≤b:=by
    rcases List.mem_cons.1 hb with h | h
    ·omega
    ·exact a1 b h
   omega
  subst J
  rw [wH (List.Perm.cons_inv I) a2 b2]
theorem FB {clock:Nat}: ∀(l:List (V×V×Nat)) (b:Nat),bornUp clock b l=true→(∀x∈l,b≤x.2.2∧x.2.2<clock)∧(l.map (·.2.2)).Nodup
 | [],_,_=>⟨by simp,by simp⟩
 | (k,v,x)::l,b,h=>by
  simp only [bornUp] at h
  cases J:(Nat.ble b x&&Nat.blt x clock) with
  | false=>rw [J] at h; cases h
  | true =>
   rw [J,ag] at h
   simp only [aO,aJ,gJ] at J
   obtain ⟨i1,i2⟩:=FB l (x+1) h
   refine ⟨fun y I => ?_,?_⟩
   ·rcases List.mem_cons.1 I with rfl | I
    ·exact J
    ·have:=i1 y I; omega
   ·simp only [b6,nR,nT,not_exists,not_and]
    exact ⟨fun y I e=>by have:=i1 y I; omega,i2⟩
theorem C_ {c:Ctx}: ∀(l:List (V×V×Nat)) (ks:List Int),keyInts l=some ks→l.map (fun x=>conc c x.1)=ks.map (Value.int .i64)∧∀n∈ks,(Lit.int .i64 n).wf=true
 | [],ks,h=>by simp [keyInts] at h; subst h; simp
 | (k,v,b)::l,ks,h=>by
  unfold keyInts at h
  split at h
  ·rename_i he; cases he
  ·rename_i n v' J l' he
   simp only [vV,aF] at he
   obtain ⟨⟨rfl,rfl,rfl⟩,rfl⟩:=he
   cases hw:(Lit.int .i64 n).wf with
   | false=>simp [hw] at h
   | true =>
    cases hm:keyInts l with
    | none=>simp [hw,hm] at h
    | some m =>
     simp [hw,hm] at h
     subst h
     obtain ⟨i1,i2⟩:=C_ (c:=c) l m hm
     refine ⟨by simp [conc,i1],fun x I => ?_⟩
     rcases List.mem_cons.1 I with rfl | I
     ·exact hw
     ·exact i2 x I
  ·cases h
section
variable {c:Ctx} {σ:H} {w w':World}
theorem Rel.below (h:Rel c σ w)(I:Below w.heap.size w w'): Rel c σ w'∧cV c w c w':=by
 have rows:∀b,b<w.heap.size→rowSize w' b=rowSize w b:=fun b J=>by unfold rowSize; rw [I.block b J]
 refine ⟨⟨h.next,h.live,fun id hi=>gX (h.lF id hi) I.size,fun id hi=>by rw [rows _ (h.lF id hi)]; exact h.zz id hi,h.inj,
  fun id o ho=>(h.obj id o ho).later (Ext.refl c) (h.live id o ho) (I.block _ (h.lF id (h.live id o ho))),h.one,h.fx⟩,
  ⟨Ext.refl c,I.size,rows,fun b J _=>I.block b J,fun id h1 h2=>by omega,I.os,I.output⟩⟩
theorem Rel.take {b:Nat}{cs:List V}{C:Array Value}{T:TypeId}(h:Rel c σ w)(hb:b<w.heap.size)(hr:∀id,id<c.N→(c.ρ id).1≠b)(lG:∀v∈cs,wf c v∧storable v=true)
 (hg:w.heap[b]?=some (.cells C T (0,0)))(hC:C.toList.take cs.length=cs.map (conc c)): Rel (c.grow b 0 C.size) (Am.newRow σ cs) w:=by
 have e:=rF hr 0 C.size
 have hN:(c.grow b 0 C.size).N=c.N+1:=rfl
 have hle:cs.length≤C.size:=by
  have:=gy List.length hC
  simp at this
  omega
 have key:∀i o,(Am.newRow σ cs).tr.get i=some o→(i=c.N∧o=.cells cs.length cs false)∨(i<c.N∧σ.tr.get i=some o):=by
  intro i o hi
  rw [Am.newRow,iz,h.next] at hi
  by_cases J:i=c.N
  ·simp [J] at hi; exact .inl ⟨J,hi.symm⟩
  ·simp [J] at hi; exact .inr ⟨h.live i o hi,hi⟩
 refine ⟨by simp [Am.newRow,H.new,Ctx.grow,h.next],fun i o hi => ?_,fun i hi => ?_,fun i hi => ?_,fun i j o o' hi hj he => ?_,fun i o hi => ?_,fun i o9 nt hi hx => ?_,fun i o hi hx => ?_⟩
 ·rw [hN]; rcases key i o hi with ⟨J,_⟩ | ⟨J,_⟩ <;> omega
 ·rw [hN] at hi
  by_cases J:i=c.N
  ·subst J; rw [bB]; exact hb
  ·rw [dx c _ _ _ (by omega)]; exact h.lF i (by omega)
 ·rw [hN] at hi
  by_cases J:i=c.N
  ·subst J; rw [bB]; simp [Ctx.grow,rowSize,hg]
  ·rw [dx c _ _ _ (by omega),←h.zz i (by omega)]; simp [Ctx.grow,hr i (by omega)]
 ·rcases key i o hi with ⟨I,_⟩ | ⟨I,a2⟩ <;> rcases key j o' hj with ⟨b1,_⟩ | ⟨b1,b2⟩
  ·exact .inl (by omega)
  ·subst I; rw [bB,dx c _ _ _ b1] at he; exact absurd he.symm (hr j b1)
  ·subst b1; rw [bB,dx c _ _ _ I] at he; exact absurd he (hr i I)
  ·rw [dx c _ _ _ I,dx c _ _ _ b1] at he; rw [ga c _ _ _ I,ga c _ _ _ b1]; exact h.inj i j _ _ a2 b2 he
 ·rcases key i o hi with ⟨rfl,rfl⟩ | ⟨I,a2⟩
  ·refine ⟨rfl,fun v hv=>⟨(cg e v (lG v hv).1).2,(lG v hv).2⟩,C,T,(0,0),by rw [bB]; exact hg,by rw [bB]; simpa using hle,fun j v hj => ?_,rfl⟩
   rw [bB,(cg e v (lG v (bC hj)).1).1]
   have ZQ:j<cs.length:=(List.getElem?_eq_some_iff.1 hj).1
   have J:(C.toList.take cs.length)[j]?=some (conc c v):=by rw [hC]; simp [hj]
   rw [jM,aj ZQ,jf] at J
   simpa using J
  ·exact (h.obj i o a2).later e I rfl
 ·rcases key i _ hi with ⟨rfl,_⟩ | ⟨I,a2⟩
  ·rw [bB]
  ·rw [ga c _ _ _ I] at hx
   rw [dx c _ _ _ I]; exact h.one i o9 nt a2 hx
 ·rcases key i o hi with ⟨rfl,_⟩ | ⟨I,a2⟩
  ·rw [wX] at hx; cases hx
  ·rw [ga c _ _ _ I] at hx; exact h.fx i o a2 hx
def oG (_:Value): Option (DataW Unit×List MemPlace):=some (.nil,[])
def FC (P:Program)(f K:Nat)(gs:List Nat): Prop:=∀g∈gs,∀(Bm b nn:Nat) (I:DataW Unit) (w:World),Bm<w.heap.size→w.cell? ⟨Bm,0,none⟩=some (.map (some b)) →
 w.ownsMap P K oG b nn I→Maps.size I≤maxLen→Maps.size I*8≤140737488355328 →
 Calls P f #[.func (.func g) #[] #[.pointer (some ⟨Bm,0,none⟩)]] w fun e w'=>∃(v:Value) (J:List Int),e=.returned v∧J.Perm (intKeys I) ∧
  w'.ownsRow w.heap.size K 1 v J.length ((J.mergeSort (fun x y=>decide (x≤y))).map encZ)∧(v=.slice none 0 0↔J=[])∧Below w.heap.size w w'
theorem Gr {P:Program}{f K:Nat}{gs:List Nat}(hK:P.underlying K=some (.int .i64))(hS:FC P f K gs){args:List V}{v:V}{eS:H}(I:toldSorted gs args σ=some (v,eS))
 (h:Rel c σ w): gh P f args c w v eS:=by
 unfold toldSorted at I
 split at I
 ·rename_i g b
  split at I
  ·rename_i n id Tr
   split at I
   ·rename_i es clock hgm
    cases hq:(Nat.beq n 1&&wT gs g&&bornUp clock 0 es&&Nat.ble es.length 1048576) with
    | false=>simp [hq] at I
    | true =>
     rw [hq,ag] at I
     simp only [aO,beq_iff,aJ,BW] at hq
     obtain ⟨⟨⟨q1,q2⟩,q3⟩,q4⟩:=hq
     subst q1
     cases hk:keyInts es with
     | none=>simp [hk] at I
     | some ks =>
      simp only [hk] at I
      cases J:rX (nc ks) with
      | false=>simp [J] at I
      | true =>
       simp only [J,ag] at I
       obtain ⟨k1,k2⟩:=C_ (c:=c) es ks hk
       obtain ⟨b1,b2⟩:=FB es 0 q3
       have hlen:ks.length=es.length:=by simpa using (congrArg List.length k1).symm
       have bF:=FA _ J
       have ni:ks.Nodup:=(fc ks).nodup_iff.1 (bF.imp fun {a b} mL=>by omega)
       have xz:=h.one b _ _ Tr (h.yz Tr (by intro _ _ he; cases he))
       have uT:=cell_of h Tr (j:=0) (v:=.map id) rfl
       have aaF:fG c b 0=⟨(c.ρ b).1,0,none⟩:=by simp [fG,xz]
       rw [aaF] at uT
       have WW:w.cell? ⟨(c.ρ b).1,0,none⟩=some (.map (some (c.ρ id).1)):=by simpa [conc] using uT
       obtain ⟨m1,m2⟩:=h.obj id _ hgm
       have Ts:∀x∈es,∃n,n∈ks∧(cj c x).key=.int .i64 n:=fun x hx=>by
        have:conc c x.1∈ks.map (Value.int .i64):=by rw [←k1]; exact List.mem_map.2 ⟨x,hx,rfl⟩
        obtain ⟨n,hn,he⟩:=List.mem_map.1 this
        exact ⟨n,hn,he.symm⟩
       have jq:∀x∈es,∀n,(cj c x).key=.int .i64 n→n∈ks→WideElems.rd P K oG (cj c x)=some (.int .i64 n,.nil):=fun x hx n hn hm=>by
        simp [WideElems.rd,hn,Maps.keyOf_int_mk hK (k2 n hm),oG]
       have aaG:w.ownsMap P K oG (c.ρ id).1 es.length (.map (((es.map (cj c)).toArray.toList.map (WideElems.rg P K oG)).foldr DataW.insert [])):=by
        refine ⟨(es.map (cj c)).toArray,clock,m2,⟨by simp [maxLen]; omega,⟨fun x hx => ?_,?_,?_⟩,fun x hx => ?_⟩,by simp,rfl⟩
        ·simp only [nT] at hx
         obtain ⟨y,hy,rfl⟩:=hx
         exact (b1 y hy).2
        ·simpa [cj,vR] using b2
        ·have:(es.map (cj c)).toArray.toList.map (·.key)=ks.map (Value.int .i64):=by rw [←k1]; simp [cj,vR]
         rw [this]
         exact List.pairwise_map.2 (ni.imp fun {a b} dS e=>dS (by simpa using e))
        ·simp only [nT] at hx
         obtain ⟨y,hy,rfl⟩:=hx
         obtain ⟨n,hn,he⟩:=Ts y hy
         exact ⟨_,jq y hy n he hn⟩
       have eZ:Maps.size (H:=Unit) (.map (((es.map (cj c)).toArray.toList.map (WideElems.rg P K oG)).foldr DataW.insert []))=es.length:=by
        rw [Maps.size_eq,(WideShapes.sorted_perm _).length_eq]; simp
       have YP:(intKeys (H:=Unit) (.map (((es.map (cj c)).toArray.toList.map (WideElems.rg P K oG)).foldr DataW.insert []))).Perm ks:=by
        refine ((WideShapes.sorted_perm _).map _).trans ?_
        have:(((es.map (cj c)).toArray.toList.map (WideElems.rg P K oG)).map fun p=>intOf p.1)=ks:=by
         have Oz:∀x∈es,Value.int .i64 (intOf (WideElems.rg P K oG (cj c x)).1)=conc c x.1:=fun x hx=>by
          obtain ⟨n,hn,he⟩:=Ts x hx
          rw [WideElems.rg_of (jq x hx n he hn)]
          exact he.symm
         have h1:((((es.map (cj c)).toArray.toList.map (WideElems.rg P K oG)).map fun p=>intOf p.1).map (Value.int .i64))=ks.map (Value.int .i64):=by
          rw [←k1]
          simp only [vX]
          exact oX fun x hx=>Oz x hx
         exact List.map_inj_right (fun x y e=>by simpa using e) |>.1 h1
        rw [this]
       have YQ:=hS g q2 (c.ρ b).1 (c.ρ id).1 es.length _ w (h.lF b (h.live b _ Tr)) WW aaG (by rw [eZ]; simp [maxLen]; omega) (by rw [eZ]; omega)
       have GL:([V.fn (.func g) [] [.ptr b 0]].map (conc c)).toArray = #[.func (.func g) #[] #[.pointer (some ⟨(c.ρ b).1,0,none⟩)]]:=by simp [conc,concL,xz]
       unfold gh
       rw [GL]
       refine YQ.mono ?_
       rintro e w' ⟨rv,ss,rfl,s1,s2,s3,s4⟩
       obtain ⟨g1,g2⟩:=h.below s4
       have Tt:ss.Perm ks:=s1.trans YP
       have hms:ss.mergeSort (fun x y=>decide (x≤y))=nc ks:=by
        refine wH (((List.mergeSort_perm ss _).trans Tt).trans (fc ks).symm) ?_ (bF.imp fun {a b} mL=>by omega)
        have:=List.pairwise_mergeSort (le:=fun x y:Int=>decide (x≤y)) (fun a b c h1 h2=>by simp at h1 h2 ⊢; omega) (fun a b=>by simp; omega) ss
        exact this.imp fun {a b} mL=>by simpa using mL
       rw [hms] at s2
       split at I
       ·-- no key
        have BV:ss=[]:=by simpa using Tt
        have hv:=s3.2 BV
        simp only [aq,aF] at I
        obtain ⟨rfl,rfl⟩:=I
        exact ⟨c,by rw [hv]; simp [conc],by simp [wf],g1,g2⟩
       ·rename_i dS
        simp only [aq,aF] at I
        obtain ⟨rfl,rfl⟩:=I
        have aaH:ss≠[]:=fun e=>by
         subst e
         exact dS (by simpa using Tt.symm)
        have ku:ss.length=ks.length:=Tt.length_eq
        rcases s2.2 with ⟨e1,_⟩ | ⟨gb,cap,cur,rfl,l1,l2,l3,l4,l5,l6⟩
        ·exact absurd (s3.1 e1) aaH
        have aaI:gb<w'.heap.size:=(Array.getElem?_eq_some_iff.1 l2).1
        have Bu:∀i,i<c.N→(c.ρ i).1≠gb:=fun i hi e=>by have:=h.lF i hi; omega
        have lG:∀x∈gj (nc ks),wf c x∧storable x=true:=fun x hx=>by
         obtain ⟨n,_,rfl⟩:=List.mem_map.1 hx
         simp [wf,storable]
        have HJ:(gj (nc ks)).length=ks.length:=by simp [gj,(fc ks).length_eq]
        have Mk:cur.toList.take (gj (nc ks)).length=(gj (nc ks)).map (conc c):=by
         rw [HJ,←ku]
         have:ss.length*1=ss.length:=c9 _
         rw [this] at l6
         rw [l6]
         simp [gj,conc,encZ,vR]
        have R:=g1.take aaI Bu lG l2 Mk
        have w6:(c.grow gb 0 cur.size).room σ.next 0 1=cap:=by
         simp only [Ctx.room,h.next,Ctx.grow,bO]
         simp [l5]
        refine ⟨c.grow gb 0 cur.size,?_,?_,R,g2.Gz Bu l1⟩
        ·simp only [conc,w6]
         simp [h.next,Ctx.grow,ku]
        ·simp only [wf,w6]
         exact ⟨by rw [h.next]; simp [Ctx.grow],aD _,by omega⟩
   ·cases I
  ·cases I
 ·cases I
end
end Go.Proofs.YtefepnnfphdkpaaGreat.Am
