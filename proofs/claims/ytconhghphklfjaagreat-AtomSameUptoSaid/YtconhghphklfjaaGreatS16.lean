/- AtomSame: a part of its proof; conditions: its statement's. -/
import Derived.Test.YtconhghphklfjaaGreatS15
import Derived.Test.YtconhghphklfjaaGreatS11
import Derived.Shelf.SlIterI.Sorted
namespace Go.Proofs.YtconhghphklfjaaGreat.Am
open Go
abbrev bW := List (Int×V×Nat)
def ei (e:Int×V×Nat): V×V×Nat:=(.int .i64 e.1,e.2)
def lookE (n:Int): bW→Option V
 | []=>none
 | e::l=>if e.1=n then some e.2.1 else lookE n l
def jz (n:Int)(v:V)(c:Nat): bW→bW
 | []=>[(n,v,c)]
 | e::l=>if e.1=n then (e.1,v,e.2.2)::l else e::jz n v c l
def mF (n:Int): bW→bW
 | []=>[]
 | e::l=>if e.1=n then l else e::mF n l
def clkE (n:Int)(c:Nat)(l:bW): Nat:=match lookE n l with
 | some _=>c
 | none=>c+1
abbrev fo (id:Nat)(l:bW)(c:Nat): ax:=pt id (.map (l.map ei) c)
def idxE (n:Int): bW→Nat→Option (Nat×V)
 | [],_=>none
 | e::l,i=>if e.1=n then some (i,e.2.1) else idxE n l (i+1)
theorem nP (a b:Int): intBeq a b=decide (a=b):=by
 cases I:intBeq a b with
 | true=>simp [uJ I]
 | false =>
  by_cases he:a=b
  ·subst he; rw [lD] at I; cases I
  ·simp [he]
theorem qY {k:IntKind}{n:Int}: ∀(l:bW) (i:Nat),findK (.int k) (.int .i64 n) (l.map ei) i=some (idxE n l i):=by
 intro l
 induction l with
 | nil=>intro i; rfl
 | cons e l I =>
  intro i
  simp only [bH,findK,ei,keyBeq,dB,ah,nP,idxE]
  by_cases he:e.1=n
  ·have:n=e.1:=he.symm
   simp [this]
  ·have:decide (n=e.1)=false:=by simp; exact fun h=>he h.symm
   rw [this,af he]
   exact I (i+1)
theorem pM {n:Int}: ∀(l:bW) (i:Nat),(idxE n l i).map (·.2)=lookE n l:=by
 intro l
 induction l with
 | nil=>intro i; rfl
 | cons e l I =>
  intro i
  simp only [idxE,lookE]
  by_cases he:e.1=n
  ·simp [he]
  ·simp only [af he]; exact I (i+1)
theorem JW {n:Int}: ∀(l:bW) (i j:Nat) (v:V),idxE n l i=some (j,v)→i≤j:=by
 intro l
 induction l with
 | nil=>intro i j v h; cases h
 | cons e l I =>
  intro i j v h
  simp only [idxE] at h
  by_cases he:e.1=n
  ·rw [aj he] at h; injection h with h; injection h with J U; omega
  ·rw [af he] at h; have:=I _ _ _ h; omega
theorem Xb {n:Int}{v:V}{c:Nat}: ∀(l:bW) (i j:Nat) (u:V),idxE n l i=some (j,u)→setNth (l.map ei) (j-i) (fun e=>(e.1,v,e.2.2))=(jz n v c l).map ei:=by
 intro l
 induction l with
 | nil=>intro i j u h; cases h
 | cons e l I =>
  intro i j u h
  simp only [idxE] at h
  simp only [jz,bH,setNth]
  by_cases he:e.1=n
  ·rw [aj he] at h; injection h with h; injection h with J U
   subst J
   rw [aj he,Aa]
   rfl
  ·rw [af he] at h
   have h3:=JW _ _ _ _ h
   rw [af he,cN (by omega),az,show j-i-1=j-(i+1) by omega,I _ _ _ h]
   rfl
theorem Vj {n:Int}: ∀(l:bW) (i j:Nat) (u:V),idxE n l i=some (j,u)→ko (l.map ei) (j-i)=(mF n l).map ei:=by
 intro l
 induction l with
 | nil=>intro i j u h; cases h
 | cons e l I =>
  intro i j u h
  simp only [idxE] at h
  simp only [mF,bH,ko]
  by_cases he:e.1=n
  ·rw [aj he] at h; injection h with h; injection h with J U
   subst J
   rw [aj he,Aa]
   rfl
  ·rw [af he] at h
   have h3:=JW _ _ _ _ h
   rw [af he,cN (by omega),az,show j-i-1=j-(i+1) by omega,I _ _ _ h]
   rfl
theorem SY {n:Int}{v:V}{c:Nat}: ∀(l:bW),lookE n l=none→jz n v c l=l++[(n,v,c)]:=by
 intro l
 induction l with
 | nil=>intro _; rfl
 | cons e l I =>
  intro h
  simp only [lookE] at h
  by_cases he:e.1=n
  ·rw [aj he] at h; cases h
  ·rw [af he] at h; simp only [jz,af he,I h,fg]
theorem PF {n:Int}: ∀(l:bW),lookE n l=none→mF n l=l:=by
 intro l
 induction l with
 | nil=>intro _; rfl
 | cons e l I =>
  intro h
  simp only [lookE] at h
  by_cases he:e.1=n
  ·rw [aj he] at h; cases h
  ·rw [af he] at h; simp only [mF,af he,I h]
section
variable {P:Program} {h h':H} {S:List ax} {v z:V} {t kt et:TypeId} {k:IntKind} {id c j:Nat} {l:bW} {n:Int}
theorem Sat.RN (s:Sat h S)(I:getA S j=some (fo id l c))(hu:P.underlying t=some (.map kt et))(J:P.underlying kt=some (.int k))(U:zeroT P et=some z):
  eY P h t (.map id) (.int .i64 n) true=some (match lookE n l with | some v=>.bD [v,.bool true] | none=>.bD [z,.bool false]):=by
 have hg:=s.row I
 simp only [eY,lookupV,hu,J,U,hg,keyBeq,dB,ah,qY]
 rw [←pM l 0]
 cases idxE n l 0 with
 | none=>rfl
 | some q=>rfl
theorem Sat.Xc (s:Sat h S)(I:getA S j=some (fo id l c))(hu:P.underlying t=some (.map kt et))(J:P.underlying kt=some (.int k))(U:zeroT P et=some z):
  eY P h t (.map id) (.int .i64 n) false=some (match lookE n l with | some v=>v | none=>z):=by
 have hg:=s.row I
 simp only [eY,lookupV,hu,J,U,hg,keyBeq,dB,ah,qY]
 rw [←pM l 0]
 cases idxE n l 0 with
 | none=>rfl
 | some q=>rfl
theorem Sat.update (s:Sat h S)(U:getA S j=some (fo id l c))(hu:P.underlying t=some (.map kt et))(hk:P.underlying kt=some (.int k)):
  ∃h',mapUpdateV P h t (.map id) (.int .i64 n) v=some h'∧Sat h' (setA S j (fo id (jz n v c l) (clkE n c l))):=by
 have hg:=s.row U
 refine ⟨h.put id (some (.map ((jz n v c l).map ei) (clkE n c l))),?_,s.put U⟩
 simp only [mapUpdateV,hu,hk,hg,keyBeq,dB,ah,qY]
 have I:=pM (n:=n) l 0
 cases J:idxE n l 0 with
 | none =>
  rw [J] at I
  have I:lookE n l=none:=I.symm
  simp only [clkE,I,SY l I,zW]
  rfl
 | some q =>
  obtain ⟨i,u⟩:=q
  rw [J] at I
  have I:lookE n l=some u:=I.symm
  simp only [clkE,I]
  rw [←Xb (v:=v) (c:=c) l 0 i u J,kj]
theorem Sat.delete (s:Sat h S)(J:getA S j=some (fo id l c))(hu:P.underlying t=some (.map kt et))(hk:P.underlying kt=some (.int k)):
  ∃h',mU P h t (.map id) (.int .i64 n)=some h'∧Sat h' (setA S j (fo id (mF n l) c)):=by
 have hg:=s.row J
 simp only [mU,hu,hk,hg,keyBeq,dB,ah,qY]
 have I:=pM (n:=n) l 0
 cases U:idxE n l 0 with
 | none =>
  rw [U] at I
  have I:lookE n l=none:=I.symm
  refine ⟨h,rfl,?_⟩
  rw [PF l I]
  have:∀(S:List ax) (j:Nat) (A:ax),getA S j=some A→setA S j A=S:=by
   intro S
   induction S with
   | nil=>intro j A h; cases h
   | cons B S ih =>
    intro j A h
    cases j with
    | zero=>simp only [getA] at h; injection h with h; subst h; rfl
    | succ j=>simp only [getA] at h; simp only [setA,ih j A h]
  rw [this S j _ J]
  exact s
 | some q =>
  obtain ⟨i,u⟩:=q
  refine ⟨_,rfl,?_⟩
  have e:=Vj l 0 i u U
  rw [kj] at e
  rw [e]
  exact s.put J
theorem Sat.ZD (s:Sat h S)(I:getA S j=some (fo id l c))(hu:P.underlying t=some (.map kt et)): lenV P h t (.map id)=some (.int .i64 (l.length:Int)):=by
 have J:=s.row I
 simp only [lenV,hu,J,d_]
end
section
variable {C:dw} {E:List (Nat×V)} {h h':H} {o:Oper} {S':List ax} {x y z:Operand} {a b v u:V} {t:TypeId} {cl:Go.Call}
theorem OpR.upd (I:∀env,kD env E→evOp C (ev C 0) env h o=(match mapUpdateV C.P h t a b v with | some h'=>some (cy,h') | none=>none))
 (ho:∃h₁,mapUpdateV C.P h t a b v=some h₁∧Sat h₁ S'): OpR C E h o fun _ h₁=>Sat h₁ S':=by
 obtain ⟨h₁,J,U⟩:=ho
 exact ⟨cy,h₁,U,fun env he=>⟨0,by rw [I env he,J]⟩⟩
theorem OpR.mapUpdate (I:o.op=.mapUpdate t x y z)(J:lookO E x=some a)(U:lookO E y=some b)(hz:lookO E z=some v)
 (ho:∃h₁,mapUpdateV C.P h t a b v=some h₁∧Sat h₁ S'): OpR C E h o fun _ h₁=>Sat h₁ S':=by
 refine OpR.upd (t:=t) (a:=a) (b:=b) (v:=v) (fun env he => ?_) ho
 simp only [evOp,I,bN he J,bN he U,bN he hz,ry]
 cases mapUpdateV C.P h t a b v <;> rfl
theorem OpR.builtin {args:List V}{bi:Builtin}{R:V→H→Prop}(I:o.op=.call cl)(J:cl.callee=.builtin bi)(U:lookArgs E cl.args.toList=some args)(ho:∃v h₁,builtinV C.P h bi cl.argTypes args=some (v,h₁)∧R v h₁): OpR C E h o R:=by
 obtain ⟨v,h₁,e1,e2⟩:=ho
 refine OpR.of ?_ e2
 rw [I]
 simp only [opE,J,U,e1]
theorem OpR.oG {l m:List Nat}{S:List ax}{X:ax}(hP:C.P=Tryz.prog)(s:Sat h (bG v l::X::S))(hX:cR X (cV u m))(I:o.op=.call cl)(hc:cl.callee=.builtin .append)(J:cl.argTypes = #[32,32])(ha:lookArgs E cl.args.toList=some [v,u])
 (U:l.length+m.length≤140737488355328): OpR C E h o fun v' h₁=>Sat h₁ (bG v' (l++m)::X::S):=by
 obtain ⟨v',h₁,e1,e2⟩:=Cl s hX U
 refine OpR.builtin I hc ha ⟨v',h₁,?_,e2⟩
 simp only [builtinV,hP,J,e1]
theorem OpR.vR {S:List ax}{c:Nat}(J:C.P=Tryz.prog)(s:Sat h S)(I:o.op=.makeSlice t x y)(U:t=32)(hx:lookO E x=some (.int .i64 0))(hy:lookO E y=some (.int .i64 (c:Int)))(hc:c<1073741824): OpR C E h o fun v' h₁=>Sat h₁ (bG v' []::S):=by
 obtain ⟨v',h₁,e1,e2⟩:=EF s hc
 exact OpR.of (by rw [I,U,J]; exact pZ hx hy e1) e2
theorem OpR.FN {S:List ax}{c:Nat}(J:C.P=Tryz.prog)(s:Sat h S)(I:o.op=.makeSlice t x y)(U:t=32)(hx:lookO E x=some (.int .i64 (c:Int)))(hy:lookO E y=some (.int .i64 (c:Int)))(hc:c<1073741824): OpR C E h o fun v' h₁=>Sat h₁ (bG v' (List.replicate c 0)::S):=by
 obtain ⟨v',h₁,e1,e2⟩:=Nb s hc
 exact OpR.of (by rw [I,U,J]; exact pZ hx hy e1) e2
theorem OpR.Xd {l m:List Nat}{S:List ax}{X:ax}{p q:Nat}(hP:C.P=Tryz.prog)(s:Sat h (bG v l::X::S))(hX:cR X (cV u m))(I:o.op=.call cl)(hc:cl.callee=.builtin .copy)(J:cl.argTypes = #[32,32])(ha:lookArgs E cl.args.toList=some [slR v p q,u])
 (U:p<q)(hq:q≤l.length)(hm:1≤m.length): OpR C E h o fun _ h₁=>Sat h₁ (bG v (cZ l p (m.take (q-p)))::X::S):=by
 obtain ⟨h₁,e1,e2⟩:=GK s hX U hq hm
 refine OpR.builtin I hc ha ⟨.int .i64 (min m.length (q-p):Nat),h₁,?_,e2⟩
 simp only [builtinV,hP,J,e1]
theorem OpR.Ll {S:List ax}{n:Nat}{ps:Array (Nat×Operand)}(J:C.P=Tryz.prog)(s:Sat h S)(I:o.op=.buildSlice t 1 ps)(U:t=32)(hx:lookParts E ps.toList=some [(0,.int .u8 (n:Int))])(hn:n<256): OpR C E h o fun v' h₁=>Sat h₁ (bG v' [n]::S):=by
 obtain ⟨v',h₁,e1,e2⟩:=Nc s hn
 exact OpR.of (by rw [I,U,J]; exact p_ hx e1) e2
end
section
variable {α:Type}
def lookL (n:Int): List (Int×α)→Option α
 | []=>none
 | e::l=>if e.1=n then some e.2 else lookL n l
def cK (n:Int)(a:α): List (Int×α)→List (Int×α)
 | []=>[(n,a)]
 | e::l=>if e.1=n then (n,a)::l else e::cK n a l
def mY (n:Int): List (Int×α)→List (Int×α)
 | []=>[]
 | e::l=>if e.1=n then l else e::mY n l
theorem gM {n k:Int}{a:α}: ∀l:List (Int×α),lookL k (cK n a l)=if n=k then some a else lookL k l:=by
 intro l
 induction l with
 | nil=>simp [cK,lookL]
 | cons e l J =>
  simp only [cK]
  by_cases he:e.1=n
  ·rw [aj he]
   simp only [lookL]
   by_cases I:n=k
   ·simp [I]
   ·have:¬ e.1=k:=fun h=>I (by rw [←he,h])
    simp [I,this]
  ·rw [af he]
   simp only [lookL,J]
   by_cases I:e.1=k
   ·have:¬ n=k:=fun h=>he (by rw [I,h])
    simp [I,this]
   ·simp [I]
theorem fU {n:Int}: ∀ {l:List (Int×α)},lookL n l=none↔n∉l.map (·.1):=by
 intro l
 induction l with
 | nil=>simp [lookL]
 | cons e l I =>
  simp only [lookL,bH,eX,pn]
  by_cases he:e.1=n
  ·simp [he]
  ·rw [af he,I]
   exact ⟨fun h=>⟨fun J=>he J.symm,h⟩,fun h=>h.2⟩
theorem EG {n k:Int}: ∀ {l:List (Int×α)},(l.map (·.1)).Nodup→lookL k (mY n l)=if n=k then none else lookL k l:=by
 intro l
 induction l with
 | nil=>simp [mY,lookL]
 | cons e l U =>
  intro J
  simp only [bH,lU] at J
  simp only [mY]
  by_cases he:e.1=n
  ·rw [aj he]
   by_cases I:n=k
   ·rw [aj I,←I,fU,←he]; exact J.1
   ·have:¬ e.1=k:=fun h=>I (by rw [←he,h])
    simp [lookL,I,this]
  ·rw [af he]
   simp only [lookL,U J.2]
   by_cases I:e.1=k
   ·have:¬ n=k:=fun h=>he (by rw [I,h])
    simp [I,this]
   ·simp [I]
theorem oH {n:Int}{a:α}: ∀ {l:List (Int×α)} {k:Int},k∈(cK n a l).map (·.1)↔k=n∨k∈l.map (·.1):=by
 intro l
 induction l with
 | nil=>intro k; simp [cK]
 | cons e l I =>
  intro k
  simp only [cK]
  by_cases he:e.1=n
  ·rw [aj he]; simp [he]
  ·rw [af he]
   simp only [bH,eX,I]
   constructor
   ·rintro (h | h | h) <;> simp [h]
   ·rintro (h | h | h) <;> simp [h]
theorem iI {n:Int}{a:α}: ∀ {l:List (Int×α)},(l.map (·.1)).Nodup→((cK n a l).map (·.1)).Nodup:=by
 intro l
 induction l with
 | nil=>simp [cK]
 | cons e l J =>
  intro I
  simp only [bH,lU] at I
  simp only [cK]
  by_cases he:e.1=n
  ·rw [aj he]; simp only [bH,lU]; rw [←he]; exact I
  ·rw [af he]
   simp only [bH,lU]
   refine ⟨fun h => ?_,J I.2⟩
   rcases oH.1 h with h | h
   ·exact he h
   ·exact I.1 h
theorem PG {n:Int}: ∀ {l:List (Int×α)} {k:Int},k∈(mY n l).map (·.1)→k∈l.map (·.1):=by
 intro l
 induction l with
 | nil=>intro k h; exact h
 | cons e l I =>
  intro k h
  simp only [mY] at h
  by_cases he:e.1=n
  ·rw [aj he] at h; simp only [bH,eX]; exact .inr h
  ·rw [af he] at h
   simp only [bH,eX] at h ⊢
   exact h.imp_right I
theorem wO {n:Int}: ∀ {l:List (Int×α)},(l.map (·.1)).Nodup→((mY n l).map (·.1)).Nodup:=by
 intro l
 induction l with
 | nil=>simp [mY]
 | cons e l J =>
  intro I
  simp only [bH,lU] at I
  simp only [mY]
  by_cases he:e.1=n
  ·rw [aj he]; exact I.2
  ·rw [af he]
   simp only [bH,lU]
   exact ⟨fun h=>I.1 (PG h),J I.2⟩
def en (f:V→α→ax): bW→List (Int×α)→ax
 | [],[]=>.pu True
 | e::l,x::m=>.an (.an (.pu (e.1=x.1)) (f e.2.1 x.2)) (en f l m)
 | _,_=>.pu False
variable {f:V→α→ax} {a b:PM}
theorem sE : ∀ {l:bW} {m:List (Int×α)},(en f l m).p a b→l.map (·.1)=m.map (·.1):=by
 intro l
 induction l with
 | nil=>intro m h; cases m with
  | nil=>rfl
  | cons x m=>exact h.elim
 | cons e l I=>intro m h; cases m with
  | nil=>exact h.elim
  | cons x m=>simp only [bH]; rw [h.1.1,I h.2]
theorem sF {n:Int}: ∀ {l:bW} {m:List (Int×α)},(en f l m).p a b→(lookE n l=none∧lookL n m=none)∨∃u x,lookE n l=some u∧lookL n m=some x∧(f u x).p a b:=by
 intro l
 induction l with
 | nil=>intro m h; cases m with
  | nil=>exact .inl ⟨rfl,rfl⟩
  | cons x m=>exact h.elim
 | cons e l J=>intro m h; cases m with
  | nil=>exact h.elim
  | cons x m =>
   obtain ⟨⟨I,U⟩,h3⟩:=h
   have I:e.1=x.1:=I
   simp only [lookE,lookL,←I]
   by_cases he:e.1=n
   ·rw [aj he,aj he]; exact .inr ⟨_,_,rfl,rfl,U⟩
   ·rw [af he,af he]; exact J h3
theorem EH {n:Int}{u:V}{x:α}{c:Nat}(hu:(f u x).p a b): ∀ {l:bW} {m:List (Int×α)},(en f l m).p a b→(en f (jz n u c l) (cK n x m)).p a b:=by
 intro l
 induction l with
 | nil=>intro m h; cases m with
  | nil=>exact ⟨⟨rfl,hu⟩,aa⟩
  | cons x m=>exact h.elim
 | cons e l U=>intro m h; cases m with
  | nil=>exact h.elim
  | cons y m =>
   obtain ⟨⟨I,h2⟩,J⟩:=h
   have I:e.1=y.1:=I
   simp only [jz,cK,←I]
   by_cases he:e.1=n
   ·rw [aj he,aj he]; exact ⟨⟨he,hu⟩,J⟩
   ·rw [af he,af he]; exact ⟨⟨I,h2⟩,U J⟩
theorem Nh {n:Int}: ∀ {l:bW} {m:List (Int×α)},(en f l m).p a b→(en f (mF n l) (mY n m)).p a b:=by
 intro l
 induction l with
 | nil=>intro m h; cases m with
  | nil=>trivial
  | cons x m=>exact h.elim
 | cons e l U=>intro m h; cases m with
  | nil=>exact h.elim
  | cons y m =>
   obtain ⟨⟨I,h2⟩,J⟩:=h
   have I:e.1=y.1:=I
   simp only [mF,mY,←I]
   by_cases he:e.1=n
   ·rw [aj he,aj he]; exact J
   ·rw [af he,af he]; exact ⟨⟨I,h2⟩,U J⟩
theorem aE.GN (I:∀u x,aE (f u x)): ∀(l:bW) (m:List (Int×α)),aE (en f l m):=by
 intro l
 induction l with
 | nil=>intro m; cases m <;> exact aE.pu _
 | cons e l J=>intro m; cases m with
  | nil=>exact aE.pu _
  | cons x m=>exact aE.an (aE.an (aE.pu _) (I _ _)) (J m)
def eS (c:Nat): Nat→bW→Prop
 | _,[]=>True
 | b,e::l=>b≤e.2.2∧e.2.2<c∧eS c (e.2.2+1) l
theorem Co {c:Nat}: ∀ {l:bW} {b I:Nat},I≤b→eS c b l→eS c I l:=by
 intro l
 cases l with
 | nil=>intro b I _ _; trivial
 | cons e l=>intro b I h J; exact ⟨cI h J.1,J.2⟩
theorem yD {c n:Nat}{k:Int}{u:V}(U:n=c): ∀ {l:bW} {b:Nat},b≤c→eS c b l→eS (clkE k c l) b (jz k u n l):=by
 subst U
 intro l
 induction l with
 | nil=>intro b J _; simp only [jz,clkE,lookE]; exact ⟨J,Ds _,aa⟩
 | cons e l ih =>
  intro b J h
  have I:=ih (b:=e.2.2+1) (by have:=h.2.1; omega) h.2.2
  simp only [clkE] at I
  by_cases he:e.1=k
  ·simp only [jz,clkE,lookE,aj he]; exact h
  ·simp only [jz,clkE,lookE,af he]
   refine ⟨h.1,?_,I⟩
   have:=h.2.1
   split <;> omega
theorem Ni {c:Nat}{k:Int}: ∀ {l:bW} {b:Nat},eS c b l→eS c b (mF k l):=by
 intro l
 induction l with
 | nil=>intro b h; exact h
 | cons e l I =>
  intro b h
  simp only [mF]
  by_cases he:e.1=k
  ·rw [aj he]; exact Co (by have:=h.1; omega) h.2.2
  ·rw [af he]; exact ⟨h.1,h.2.1,I h.2.2⟩
def iW (f:V→α→ax)(v:V)(m:List (Int×α)): ax :=
 xs fun id:Nat=>xs fun l:bW=>xs fun c:Nat=>star [.pu (v=.map id∧eS c 0 l∧(m.map (·.1)).Nodup),fo id l c,en f l m]
section
variable {P:Program} {h h':H} {S:List ax} {v u z:V} {t kt et:TypeId} {k:IntKind} {m:List (Int×α)} {n:Int} {x:α}
theorem ep : Sat h (iW f v m::S)↔∃id l c,v=.map id∧eS c 0 l∧(m.map (·.1)).Nodup∧Sat h (fo id l c::en f l m::S):=by
 simp only [iW,gW,dY,fg,cU,eE,and_assoc,fo]
theorem my (hf:∀u x,aE (f u x))(s:Sat h (iW f v m::S))(hu:P.underlying t=some (.map kt et))(hk:P.underlying kt=some (.int k))(hz:zeroT P et=some z):
  (lookL n m=none∧eY P h t v (.int .i64 n) true=some (.bD [z,.bool false])∧eY P h t v (.int .i64 n) false=some z) ∨
  ∃u x,lookL n m=some x∧eY P h t v (.int .i64 n) true=some (.bD [u,.bool true])∧eY P h t v (.int .i64 n) false=some u∧Sat h (f u x::iW f v m::S):=by
 obtain ⟨id,l,c,rfl,hb,hn,s1⟩:=ep.1 s
 have e2:=s1.RN (n:=n) (j:=0) rfl hu hk hz
 have e1:=s1.Xc (n:=n) (j:=0) rfl hu hk hz
 obtain ⟨a,b,q1,q2,q3⟩:=s1.at (k:=1) rfl
 rcases sF (n:=n) q3 with ⟨U,g2⟩ | ⟨u,x,U,g2,g3⟩
 ·rw [U] at e1 e2; exact .inl ⟨g2,e2,e1⟩
 ·rw [U] at e1 e2
  refine .inr ⟨u,x,g2,e2,e1,?_⟩
  have s2:Sat h (en f l m::fo id l c::S):=s1.qa [1]
  have s3:=s2.dup (aE.GN hf l m)
  have s4:Sat h (f u x::en f l m::fo id l c::S):=s3.ga fun a' b' h'=>by
   rcases sF (n:=n) h' with ⟨I,_⟩ | ⟨u',x',I,J,Vk⟩
   ·rw [U] at I; cases I
   ·rw [U] at I; rw [g2] at J; injection I with I; injection J with J; subst I; subst J; exact Vk
  have s5:Sat h (fo id l c::en f l m::f u x::S):=s4.qa [2,1]
  exact (ep.2 ⟨id,l,c,rfl,hb,hn,s5⟩:Sat h (iW f (.map id) m::f u x::S)).qa [1]
theorem oI (J:∀u x,aE (f u x))(s:Sat h (f u x::iW f v m::S))(hu:P.underlying t=some (.map kt et))(U:P.underlying kt=some (.int k)):
  ∃h',mapUpdateV P h t v (.int .i64 n) u=some h'∧Sat h' (iW f v (cK n x m)::S):=by
 have s0:Sat h (iW f v m::f u x::S):=s.qa [1]
 obtain ⟨id,l,c,rfl,hb,hn,s1⟩:=ep.1 s0
 obtain ⟨h',e1,I⟩:=s1.update (n:=n) (v:=u) (j:=0) rfl hu U
 refine ⟨h',e1,?_⟩
 have I:Sat h' (fo id (jz n u c l) (clkE n c l)::en f l m::f u x::S):=I
 have e3:Sat h' (f u x::en f l m::fo id (jz n u c l) (clkE n c l)::S):=I.qa [2,1]
 have e4:Sat h' (en f (jz n u c l) (cK n x m)::fo id (jz n u c l) (clkE n c l)::S):=e3.map fun a b h=>by
  obtain ⟨p1,p2,d1,d2,d3,d4,p3,p4,d5,d6,d7,d8,d9⟩:=h
  exact ⟨fun _=>none,p4,fun _=>.inl rfl,fun _ _ h=>(by cases h),PM.le_trans d7 d3,EH (J _ _ _ _ d4) (aE.GN J _ _ _ _ d8),d9⟩
 exact ep.2 ⟨id,_,_,rfl,yD rfl (fh _) hb,iI hn,e4.qa [1]⟩
theorem PI (s:Sat h (iW f v m::S))(hu:P.underlying t=some (.map kt et))(J:P.underlying kt=some (.int k)):
  ∃h',mU P h t v (.int .i64 n)=some h'∧Sat h' (iW f v (mY n m)::S):=by
 obtain ⟨id,l,c,rfl,U,hn,s1⟩:=ep.1 s
 obtain ⟨h',e1,I⟩:=s1.delete (n:=n) (j:=0) rfl hu J
 refine ⟨h',e1,?_⟩
 have I:Sat h' (fo id (mF n l) c::en f l m::S):=I
 have e3:Sat h' (en f l m::fo id (mF n l) c::S):=I.qa [1]
 have e4:Sat h' (en f (mF n l) (mY n m)::fo id (mF n l) c::S):=e3.ga fun a b h=>Nh h
 exact ep.2 ⟨id,_,_,rfl,Ni U,wO hn,e4.qa [1]⟩
theorem Bp (s:Sat h (iW f v m::S))(hu:P.underlying t=some (.map kt et)): lenV P h t v=some (.int .i64 (m.length:Int)):=by
 obtain ⟨id,l,c,rfl,J,U,s1⟩:=ep.1 s
 have e:=s1.ZD (j:=0) rfl hu
 obtain ⟨a,b,q1,q2,I⟩:=s1.at (k:=1) rfl
 have:=ja List.length (sE I)
 simp only [d_] at this
 rw [this] at e
 exact e
theorem ud {id:Nat}(s:Sat h (pt id (.map [] 0)::S)): Sat h (iW f (.map id) []::S):=by
 have s1:Sat h (en f [] []::pt id (.map [] 0)::S):=s.gx aa
 exact ep.2 ⟨id,[],0,rfl,aa,by simp,s1.qa [1]⟩
theorem yE {j:Nat}(s:Sat h S)(I:getA S j=some (iW f v m)): ∃id,v=.map id:=by
 have s1:=s.take j I
 obtain ⟨id,l,c,rfl,_⟩:=ep.1 s1
 exact ⟨id,rfl⟩
end
end
theorem OpR.delete {C:dw}{E:List (Nat×V)}{h:H}{o:Oper}{S':List ax}{cl:Go.Call}{t u:TypeId}{m k:V}(I:o.op=.call cl)(U:cl.callee=.builtin .delete)(J:cl.argTypes = #[t,u])(ha:lookArgs E cl.args.toList=some [m,k])
 (ho:∃h₁,mU C.P h t m k=some h₁∧Sat h₁ S'): OpR C E h o fun _ h₁=>Sat h₁ S':=by
 obtain ⟨h₁,e1,e2⟩:=ho
 refine OpR.builtin I U ha ⟨.bD [],h₁,?_,e2⟩
 simp only [builtinV,J,e1,iY]
end Go.Proofs.YtconhghphklfjaaGreat.Am
namespace Go.Proofs.YtconhghphklfjaaGreat.Am
open Go Go.Maps Go.RowKit
def keyInts : List (V×V×Nat)→Option (List Int)
 | []=>some []
 | (.int .i64 n,_,_)::l=>cond (Lit.int .i64 n).wf (match keyInts l with
  | some m=>some (n::m)
  | none=>none) none
 | _=>none
def bornUp (clock:Nat): Nat→List (V×V×Nat)→Bool
 | _,[]=>true
 | b,(_,_,x)::l=>cond (Nat.ble b x&&Nat.blt x clock) (bornUp clock (x+1) l) false
def insI (x:Int): List Int→List Int
 | []=>[x]
 | y::l=>cond (decide (x≤y)) (x::y::l) (y::insI x l)
def mZ : List Int→List Int
 | []=>[]
 | x::l=>insI x (mZ l)
def rQ : List Int→Bool
 | []=>true
 | x::l=>l.all (fun y=>decide (x<y))&&rQ l
def eG (l:List Int): List V:=l.map (V.int .i64)
noncomputable def toldSorted (gs:List Nat): List V→H→Option (V×H)
 | [.fn (.func g) [] [.ptr b 0]],h=>match h.tr.get b with
  | some (.cells n [.map id] false)=>match h.tr.get id with
   | some (.map es clock)=>cond (Nat.beq n 1&&wg gs g&&bornUp clock 0 es&&Nat.ble es.length 1048576) (match keyInts es with
    | some ks=>cond (rQ (mZ ks)) (match ks with
     | []=>some (.bA,h)
     | _=>some (.sl h.next 0 ks.length (.rest 1 0),newRow h (eG (mZ ks)))) none
    | none=>none) none
   | _=>none
  | _=>none
 | _,_=>none
theorem yF (x:Int): ∀l:List Int,(insI x l).Perm (x::l)
 | []=>.refl _
 | y::l=>by
  simp only [insI]
  cases decide (x≤y) with
  | true=>exact .refl _
  | false=>exact ((yF x l).cons y).trans (.swap x y l)
theorem er : ∀l:List Int,(mZ l).Perm l
 | []=>.refl _
 | x::l=>(yF x _).trans ((er l).cons x)
theorem EJ : ∀l:List Int,rQ l=true→l.Pairwise (· < ·)
 | [],_=>.nil
 | x::l,h=>by
  simp only [rQ,aY,oY,eA] at h
  exact List.pairwise_cons.2 ⟨h.1,EJ l h.2⟩
theorem vS : ∀ {l m:List Int},l.Perm m→l.Pairwise (· ≤ ·)→m.Pairwise (· ≤ ·)→l=m
 | [],m,I,_,_=>I.nil_eq
 | a::r,[],I,_,_=>absurd I.symm.nil_eq (by simp)
 | a::r,b::s,I,U,h2=>by
  obtain ⟨a1,a2⟩:=List.pairwise_cons.1 U
  obtain ⟨b1,b2⟩:=List.pairwise_cons.1 h2
  have J:a=b:=by
   have ha:a∈b::s:=I.mem_iff.1 (by simp)
   have hb:b∈a::r:=I.mem_iff.2 (by simp)
   have l1:b≤a:=by
    rcases List.mem_cons.1 ha with h | h
    ·omega
    ·exact b1 a h
   have l2:a≤b:=by
    rcases List.mem_cons.1 hb with h | h
    ·omega
    ·exact a1 b h
   omega
  subst J
  rw [vS (List.Perm.cons_inv I) a2 b2]
theorem EK {clock:Nat}: ∀(l:List (V×V×Nat)) (b:Nat),bornUp clock b l=true→(∀x∈l,b≤x.2.2∧x.2.2<clock)∧(l.map (·.2.2)).Nodup
 | [],_,_=>⟨by simp,by simp⟩
 | (k,v,x)::l,b,h=>by
  simp only [bornUp] at h
  cases J:(Nat.ble b x&&Nat.blt x clock) with
  | false=>rw [J] at h; cases h
  | true =>
   rw [J,ah] at h
   simp only [aY,aO,iP] at J
   obtain ⟨i1,i2⟩:=EK l (x+1) h
   refine ⟨fun y I => ?_,?_⟩
   ·rcases List.mem_cons.1 I with rfl | I
    ·exact J
    ·have:=i1 y I; omega
   ·simp only [bH,lU,nH,not_exists,not_and]
    exact ⟨fun y I e=>by have:=i1 y I; omega,i2⟩
theorem Cp {c:Ctx}: ∀(l:List (V×V×Nat)) (ks:List Int),keyInts l=some ks→l.map (fun x=>conc c x.1)=ks.map (Value.int .i64)∧∀n∈ks,(Lit.int .i64 n).wf=true
 | [],ks,h=>by simp [keyInts] at h; subst h; simp
 | (k,v,b)::l,ks,h=>by
  unfold keyInts at h
  split at h
  ·rename_i he; cases he
  ·rename_i n v' J U he
   simp only [vy,aN] at he
   obtain ⟨⟨rfl,rfl,rfl⟩,rfl⟩:=he
   cases hw:(Lit.int .i64 n).wf with
   | false=>simp [hw] at h
   | true =>
    cases hm:keyInts l with
    | none=>simp [hw,hm] at h
    | some m =>
     simp [hw,hm] at h
     subst h
     obtain ⟨i1,i2⟩:=Cp (c:=c) l m hm
     refine ⟨by simp [conc,i1],fun x I => ?_⟩
     rcases List.mem_cons.1 I with rfl | I
     ·exact hw
     ·exact i2 x I
  ·cases h
section
variable {c:Ctx} {σ:H} {w w':World}
theorem Rel.below (h:Rel c σ w)(I:Below w.heap.size w w'): Rel c σ w'∧dD c w c w':=by
 have rows:∀b,b<w.heap.size→rowSize w' b=rowSize w b:=fun b J=>by unfold rowSize; rw [I.block b J]
 refine ⟨⟨h.next,h.live,fun id hi=>gu (h.kB id hi) I.size,fun id hi=>by rw [rows _ (h.kB id hi)]; exact h.zz id hi,h.inj,
  fun id o ho=>(h.obj id o ho).later (Ext.refl c) (h.live id o ho) (I.block _ (h.kB id (h.live id o ho))),h.one,h.fx⟩,
  ⟨Ext.refl c,I.size,rows,fun b J _=>I.block b J,fun id U h2=>by omega,I.os,I.output⟩⟩
theorem Rel.take {b:Nat}{cs:List V}{C:Array Value}{T:TypeId}(h:Rel c σ w)(hb:b<w.heap.size)(hr:∀id,id<c.N→(c.ρ id).1≠b)(U:∀v∈cs,wf c v∧storable v=true)
 (hg:w.heap[b]?=some (.cells C T (0,0)))(hC:C.toList.take cs.length=cs.map (conc c)): Rel (c.grow b 0 C.size) (Am.newRow σ cs) w:=by
 have e:=rC hr 0 C.size
 have hN:(c.grow b 0 C.size).N=c.N+1:=rfl
 have hle:cs.length≤C.size:=by
  have:=ja List.length hC
  simp at this
  omega
 have key:∀i o,(Am.newRow σ cs).tr.get i=some o→(i=c.N∧o=.cells cs.length cs false)∨(i<c.N∧σ.tr.get i=some o):=by
  intro i o hi
  rw [Am.newRow,fP,h.next] at hi
  by_cases J:i=c.N
  ·simp [J] at hi; exact .inl ⟨J,hi.symm⟩
  ·simp [J] at hi; exact .inr ⟨h.live i o hi,hi⟩
 refine ⟨by simp [Am.newRow,H.new,Ctx.grow,h.next],fun i o hi => ?_,fun i hi => ?_,fun i hi => ?_,fun i j o o' hi hj he => ?_,fun i o hi => ?_,fun i si m9 hi hx => ?_,fun i o hi hx => ?_⟩
 ·rw [hN]; rcases key i o hi with ⟨J,_⟩ | ⟨J,_⟩ <;> omega
 ·rw [hN] at hi
  by_cases J:i=c.N
  ·subst J; rw [bz]; exact hb
  ·rw [dh c _ _ _ (by omega)]; exact h.kB i (by omega)
 ·rw [hN] at hi
  by_cases J:i=c.N
  ·subst J; rw [bz]; simp [Ctx.grow,rowSize,hg]
  ·rw [dh c _ _ _ (by omega),←h.zz i (by omega)]; simp [Ctx.grow,hr i (by omega)]
 ·rcases key i o hi with ⟨I,_⟩ | ⟨I,a2⟩ <;> rcases key j o' hj with ⟨b1,_⟩ | ⟨b1,b2⟩
  ·exact .inl (by omega)
  ·subst I; rw [bz,dh c _ _ _ b1] at he; exact absurd he.symm (hr j b1)
  ·subst b1; rw [bz,dh c _ _ _ I] at he; exact absurd he (hr i I)
  ·rw [dh c _ _ _ I,dh c _ _ _ b1] at he; rw [fT c _ _ _ I,fT c _ _ _ b1]; exact h.inj i j _ _ a2 b2 he
 ·rcases key i o hi with ⟨rfl,rfl⟩ | ⟨I,a2⟩
  ·refine ⟨rfl,fun v hv=>⟨(cE e v (U v hv).1).2,(U v hv).2⟩,C,T,(0,0),by rw [bz]; exact hg,by rw [bz]; simpa using hle,fun j v hj => ?_,rfl⟩
   rw [bz,(cE e v (U v (bq hj)).1).1]
   have Yh:j<cs.length:=(List.getElem?_eq_some_iff.1 hj).1
   have J:(C.toList.take cs.length)[j]?=some (conc c v):=by rw [hC]; simp [hj]
   rw [lS,aj Yh,jF] at J
   simpa using J
  ·exact (h.obj i o a2).later e I rfl
 ·rcases key i _ hi with ⟨rfl,_⟩ | ⟨I,a2⟩
  ·rw [bz]
  ·rw [fT c _ _ _ I] at hx
   rw [dh c _ _ _ I]; exact h.one i si m9 a2 hx
 ·rcases key i o hi with ⟨rfl,_⟩ | ⟨I,a2⟩
  ·rw [wo] at hx; cases hx
  ·rw [fT c _ _ _ I] at hx; exact h.fx i o a2 hx
def ou (_:Value): Option (DataW Unit×List MemPlace):=some (.nil,[])
def EM (P:Program)(f K:Nat)(gs:List Nat): Prop:=∀g∈gs,∀(U b nn:Nat) (I:DataW Unit) (w:World),U<w.heap.size→w.cell? ⟨U,0,none⟩=some (.map (some b)) →
 w.ownsMap P K ou b nn I→Maps.size I≤maxLen→Maps.size I*8≤140737488355328 →
 Calls P f #[.func (.func g) #[] #[.pointer (some ⟨U,0,none⟩)]] w fun e w'=>∃(v:Value) (J:List Int),e=.returned v∧J.Perm (intKeys I) ∧
  w'.ownsRow w.heap.size K 1 v J.length ((J.mergeSort (fun x y=>decide (x≤y))).map encZ)∧(v=.slice none 0 0↔J=[])∧Below w.heap.size w w'
theorem Fw {P:Program}{f K:Nat}{gs:List Nat}(hK:P.underlying K=some (.int .i64))(hS:EM P f K gs){args:List V}{v:V}{iA:H}(I:toldSorted gs args σ=some (v,iA))
 (h:Rel c σ w): fO P f args c w v iA:=by
 unfold toldSorted at I
 split at I
 ·rename_i g b
  split at I
  ·rename_i n id RO
   split at I
   ·rename_i es clock hgm
    cases hq:(Nat.beq n 1&&wg gs g&&bornUp clock 0 es&&Nat.ble es.length 1048576) with
    | false=>simp [hq] at I
    | true =>
     rw [hq,ah] at I
     simp only [aY,beq_iff,aO,Bi] at hq
     obtain ⟨⟨⟨q1,q2⟩,q3⟩,q4⟩:=hq
     subst q1
     cases hk:keyInts es with
     | none=>simp [hk] at I
     | some ks =>
      simp only [hk] at I
      cases J:rQ (mZ ks) with
      | false=>simp [J] at I
      | true =>
       simp only [J,ah] at I
       obtain ⟨k1,k2⟩:=Cp (c:=c) es ks hk
       obtain ⟨b1,b2⟩:=EK es 0 q3
       have hlen:ks.length=es.length:=by simpa using (congrArg List.length k1).symm
       have bX:=EJ _ J
       have m5:ks.Nodup:=(er ks).nodup_iff.1 (bX.imp fun {a b} pq=>by omega)
       have wP:=h.one b _ _ RO (h.xT RO (by intro _ _ he; cases he))
       have FE:=cell_of h RO (j:=0) (v:=.map id) rfl
       have ZE:fD c b 0=⟨(c.ρ b).1,0,none⟩:=by simp [fD,wP]
       rw [ZE] at FE
       have Vl:w.cell? ⟨(c.ρ b).1,0,none⟩=some (.map (some (c.ρ id).1)):=by simpa [conc] using FE
       obtain ⟨m1,m2⟩:=h.obj id _ hgm
       have RP:∀x∈es,∃n,n∈ks∧(cn c x).key=.int .i64 n:=fun x U=>by
        have:conc c x.1∈ks.map (Value.int .i64):=by rw [←k1]; exact List.mem_map.2 ⟨x,U,rfl⟩
        obtain ⟨n,hn,he⟩:=List.mem_map.1 this
        exact ⟨n,hn,he.symm⟩
       have lI:∀x∈es,∀n,(cn c x).key=.int .i64 n→n∈ks→WideElems.rd P K ou (cn c x)=some (.int .i64 n,.nil):=fun x U n hn hm=>by
        simp [WideElems.rd,hn,Maps.keyOf_int_mk hK (k2 n hm),ou]
       have ZF:w.ownsMap P K ou (c.ρ id).1 es.length (.map (((es.map (cn c)).toArray.toList.map (WideElems.rg P K ou)).foldr DataW.insert [])):=by
        refine ⟨(es.map (cn c)).toArray,clock,m2,⟨by simp [maxLen]; omega,⟨fun x U => ?_,?_,?_⟩,fun x U => ?_⟩,by simp,rfl⟩
        ·simp only [nH] at U
         obtain ⟨y,hy,rfl⟩:=U
         exact (b1 y hy).2
        ·simpa [cn,vt] using b2
        ·have:(es.map (cn c)).toArray.toList.map (·.key)=ks.map (Value.int .i64):=by rw [←k1]; simp [cn,vt]
         rw [this]
         exact List.pairwise_map.2 (m5.imp fun {a b} fY e=>fY (by simpa using e))
        ·simp only [nH] at U
         obtain ⟨y,hy,rfl⟩:=U
         obtain ⟨n,hn,he⟩:=RP y hy
         exact ⟨_,lI y hy n he hn⟩
       have fc:Maps.size (H:=Unit) (.map (((es.map (cn c)).toArray.toList.map (WideElems.rg P K ou)).foldr DataW.insert []))=es.length:=by
        rw [Maps.size_eq,(WideShapes.sorted_perm _).length_eq]; simp
       have wQ:(intKeys (H:=Unit) (.map (((es.map (cn c)).toArray.toList.map (WideElems.rg P K ou)).foldr DataW.insert []))).Perm ks:=by
        refine ((WideShapes.sorted_perm _).map _).trans ?_
        have:(((es.map (cn c)).toArray.toList.map (WideElems.rg P K ou)).map fun p=>intOf p.1)=ks:=by
         have Yi:∀x∈es,Value.int .i64 (intOf (WideElems.rg P K ou (cn c x)).1)=conc c x.1:=fun x U=>by
          obtain ⟨n,hn,he⟩:=RP x U
          rw [WideElems.rg_of (lI x U n he hn)]
          exact he.symm
         have h1:((((es.map (cn c)).toArray.toList.map (WideElems.rg P K ou)).map fun p=>intOf p.1).map (Value.int .i64))=ks.map (Value.int .i64):=by
          rw [←k1]
          simp only [vz]
          exact vm fun x U=>Yi x U
         exact List.map_inj_right (fun x y e=>by simpa using e) |>.1 h1
        rw [this]
       have Xe:=hS g q2 (c.ρ b).1 (c.ρ id).1 es.length _ w (h.kB b (h.live b _ RO)) Vl ZF (by rw [fc]; simp [maxLen]; omega) (by rw [fc]; omega)
       have RQ:([V.fn (.func g) [] [.ptr b 0]].map (conc c)).toArray = #[.func (.func g) #[] #[.pointer (some ⟨(c.ρ b).1,0,none⟩)]]:=by simp [conc,concL,wP]
       unfold fO
       rw [RQ]
       refine Xe.mono ?_
       rintro e w' ⟨rv,ss,rfl,s1,s2,s3,s4⟩
       obtain ⟨g1,g2⟩:=h.below s4
       have RR:ss.Perm ks:=s1.trans wQ
       have hms:ss.mergeSort (fun x y=>decide (x≤y))=mZ ks:=by
        refine vS (((List.mergeSort_perm ss _).trans RR).trans (er ks).symm) ?_ (bX.imp fun {a b} pq=>by omega)
        have:=List.pairwise_mergeSort (le:=fun x y:Int=>decide (x≤y)) (fun a b c h1 h2=>by simp at h1 h2 ⊢; omega) (fun a b=>by simp; omega) ss
        exact this.imp fun {a b} pq=>by simpa using pq
       rw [hms] at s2
       split at I
       ·-- no key
        have wC:ss=[]:=by simpa using RR
        have hv:=s3.2 wC
        simp only [au,aN] at I
        obtain ⟨rfl,rfl⟩:=I
        exact ⟨c,by rw [hv]; simp [conc],by simp [wf],g1,g2⟩
       ·rename_i fY
        simp only [au,aN] at I
        obtain ⟨rfl,rfl⟩:=I
        have ZG:ss≠[]:=fun e=>by
         subst e
         exact fY (by simpa using RR.symm)
        have lJ:ss.length=ks.length:=RR.length_eq
        rcases s2.2 with ⟨e1,_⟩ | ⟨gb,cap,cur,rfl,l1,l2,l3,l4,l5,l6⟩
        ·exact absurd (s3.1 e1) ZG
        have ZH:gb<w'.heap.size:=(Array.getElem?_eq_some_iff.1 l2).1
        have AP:∀i,i<c.N→(c.ρ i).1≠gb:=fun i hi e=>by have:=h.kB i hi; omega
        have qx:∀x∈eG (mZ ks),wf c x∧storable x=true:=fun x U=>by
         obtain ⟨n,_,rfl⟩:=List.mem_map.1 U
         simp [wf,storable]
        have Cq:(eG (mZ ks)).length=ks.length:=by simp [eG,(er ks).length_eq]
        have Xf:cur.toList.take (eG (mZ ks)).length=(eG (mZ ks)).map (conc c):=by
         rw [Cq,←lJ]
         have:ss.length*1=ss.length:=dO _
         rw [this] at l6
         rw [l6]
         simp [eG,conc,encZ,vt]
        have R:=g1.take ZH AP qx l2 Xf
        have rB:(c.grow gb 0 cur.size).room σ.next 0 1=cap:=by
         simp only [Ctx.room,h.next,Ctx.grow,bQ]
         simp [l5]
        refine ⟨c.grow gb 0 cur.size,?_,?_,R,g2.FC AP l1⟩
        ·simp only [conc,rB]
         simp [h.next,Ctx.grow,lJ]
        ·simp only [wf,rB]
         exact ⟨by rw [h.next]; simp [Ctx.grow],aL _,by omega⟩
   ·cases I
  ·cases I
 ·cases I
end
end Go.Proofs.YtconhghphklfjaaGreat.Am
