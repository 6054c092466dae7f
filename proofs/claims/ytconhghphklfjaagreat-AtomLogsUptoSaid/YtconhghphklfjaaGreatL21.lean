/- After a crash the log has the records of the groups that are there and no others, with their numbers and data; the conditions are those of the given statement, for arguments that a machine can hold. Part 21 of 54. -/
import Derived.Test.YtconhghphklfjaaGreatL20
namespace Go.Proofs.YtconhghphklfjaaGreat.Am
open Go
abbrev bJ := List (Int×V×Nat)
def eB (e:Int×V×Nat): V×V×Nat:=(.int .i64 e.1,e.2)
def lookE (n:Int): bJ→Option V
 | []=>none
 | e::l=>if e.1=n then some e.2.1 else lookE n l
def fX (n:Int)(v:V)(c:Nat): bJ→bJ
 | []=>[(n,v,c)]
 | e::l=>if e.1=n then (e.1,v,e.2.2)::l else e::fX n v c l
def lq (n:Int): bJ→bJ
 | []=>[]
 | e::l=>if e.1=n then l else e::lq n l
def clkE (n:Int)(c:Nat)(l:bJ): Nat:=match lookE n l with
 | some _=>c
 | none=>c+1
abbrev ej (id:Nat)(l:bJ)(c:Nat): ah:=pt id (.map (l.map eB) c)
def idxE (n:Int): bJ→Nat→Option (Nat×V)
 | [],_=>none
 | e::l,i=>if e.1=n then some (i,e.2.1) else idxE n l (i+1)
theorem jH (a b:Int): intBeq a b=decide (a=b):=by
 cases I:intBeq a b with
 | true=>simp [ot I]
 | false =>
  by_cases he:a=b
  ·subst he; rw [ie] at I; cases I
  ·simp [he]
theorem nm {k:IntKind}{n:Int}: ∀(l:bJ) (i:Nat),findK (.int k) (.int .i64 n) (l.map eB) i=some (idxE n l i):=by
 intro l
 induction l with
 | nil=>intro i; rfl
 | cons e l I =>
  intro i
  simp only [List.map_cons,findK,eB,keyBeq,cE,cond_true,jH,idxE]
  by_cases he:e.1=n
  ·have:n=e.1:=he.symm
   simp [this]
  ·have:decide (n=e.1)=false:=by simp; exact fun h=>he h.symm
   rw [this,if_neg he]
   exact I (i+1)
theorem kG {n:Int}: ∀(l:bJ) (i:Nat),(idxE n l i).map (·.2)=lookE n l:=by
 intro l
 induction l with
 | nil=>intro i; rfl
 | cons e l I =>
  intro i
  simp only [idxE,lookE]
  by_cases he:e.1=n
  ·simp [he]
  ·simp only [if_neg he]; exact I (i+1)
theorem CN {n:Int}: ∀(l:bJ) (i j:Nat) (v:V),idxE n l i=some (j,v)→i≤j:=by
 intro l
 induction l with
 | nil=>intro i j v h; cases h
 | cons e l I =>
  intro i j v h
  simp only [idxE] at h
  by_cases he:e.1=n
  ·rw [if_pos he] at h; injection h with h; injection h with J U; omega
  ·rw [if_neg he] at h; have:=I _ _ _ h; omega
theorem O8 {n:Int}{v:V}{c:Nat}: ∀(l:bJ) (i j:Nat) (u:V),idxE n l i=some (j,u)→setNth (l.map eB) (j-i) (fun e=>(e.1,v,e.2.2))=(fX n v c l).map eB:=by
 intro l
 induction l with
 | nil=>intro i j u h; cases h
 | cons e l I =>
  intro i j u h
  simp only [idxE] at h
  simp only [fX,List.map_cons,setNth]
  by_cases he:e.1=n
  ·rw [if_pos he] at h; injection h with h; injection h with J U
   subst J
   rw [if_pos he,Nat.sub_self]
   rfl
  ·rw [if_neg he] at h
   have h3:=CN _ _ _ _ h
   rw [if_neg he,bT (by omega),cond_false,show j-i-1=j-(i+1) by omega,I _ _ _ h]
   rfl
theorem Ns {n:Int}: ∀(l:bJ) (i j:Nat) (u:V),idxE n l i=some (j,u)→gF (l.map eB) (j-i)=(lq n l).map eB:=by
 intro l
 induction l with
 | nil=>intro i j u h; cases h
 | cons e l I =>
  intro i j u h
  simp only [idxE] at h
  simp only [lq,List.map_cons,gF]
  by_cases he:e.1=n
  ·rw [if_pos he] at h; injection h with h; injection h with J U
   subst J
   rw [if_pos he,Nat.sub_self]
   rfl
  ·rw [if_neg he] at h
   have h3:=CN _ _ _ _ h
   rw [if_neg he,bT (by omega),cond_false,show j-i-1=j-(i+1) by omega,I _ _ _ h]
   rfl
theorem Lc {n:Int}{v:V}{c:Nat}: ∀(l:bJ),lookE n l=none→fX n v c l=l++[(n,v,c)]:=by
 intro l
 induction l with
 | nil=>intro _; rfl
 | cons e l I =>
  intro h
  simp only [lookE] at h
  by_cases he:e.1=n
  ·rw [if_pos he] at h; cases h
  ·rw [if_neg he] at h; simp only [fX,if_neg he,I h,List.cons_append]
theorem Im {n:Int}: ∀(l:bJ),lookE n l=none→lq n l=l:=by
 intro l
 induction l with
 | nil=>intro _; rfl
 | cons e l I =>
  intro h
  simp only [lookE] at h
  by_cases he:e.1=n
  ·rw [if_pos he] at h; cases h
  ·rw [if_neg he] at h; simp only [lq,if_neg he,I h]
section
variable {P:Program} {h h':H} {S:List ah} {v z:V} {t kt et:TypeId} {k:IntKind} {id c j:Nat} {l:bJ} {n:Int}
theorem Sat.J_ (s:Sat h S)(I:getA S j=some (ej id l c))(hu:P.underlying t=some (.map kt et))(J:P.underlying kt=some (.int k))(U:zeroT P et=some z):
  cV P h t (.map id) (.int .i64 n) true=some (match lookE n l with | some v=>.aW [v,.bool true] | none=>.aW [z,.bool false]):=by
 have hg:=s.row I
 simp only [cV,lookupV,hu,J,U,hg,keyBeq,cE,cond_true,nm]
 rw [←kG l 0]
 cases idxE n l 0 with
 | none=>rfl
 | some q=>rfl
theorem Sat.O9 (s:Sat h S)(I:getA S j=some (ej id l c))(hu:P.underlying t=some (.map kt et))(J:P.underlying kt=some (.int k))(U:zeroT P et=some z):
  cV P h t (.map id) (.int .i64 n) false=some (match lookE n l with | some v=>v | none=>z):=by
 have hg:=s.row I
 simp only [cV,lookupV,hu,J,U,hg,keyBeq,cE,cond_true,nm]
 rw [←kG l 0]
 cases idxE n l 0 with
 | none=>rfl
 | some q=>rfl
theorem Sat.update (s:Sat h S)(U:getA S j=some (ej id l c))(hu:P.underlying t=some (.map kt et))(hk:P.underlying kt=some (.int k)):
  ∃h',mapUpdateV P h t (.map id) (.int .i64 n) v=some h'∧Sat h' (setA S j (ej id (fX n v c l) (clkE n c l))):=by
 have hg:=s.row U
 refine ⟨h.put id (some (.map ((fX n v c l).map eB) (clkE n c l))),?_,s.put U⟩
 simp only [mapUpdateV,hu,hk,hg,keyBeq,cE,cond_true,nm]
 have I:=kG (n:=n) l 0
 cases J:idxE n l 0 with
 | none =>
  rw [J] at I
  have I:lookE n l=none:=I.symm
  simp only [clkE,I,Lc l I,List.map_append]
  rfl
 | some q =>
  obtain ⟨i,u⟩:=q
  rw [J] at I
  have I:lookE n l=some u:=I.symm
  simp only [clkE,I]
  rw [←O8 (v:=v) (c:=c) l 0 i u J,Nat.sub_zero]
theorem Sat.delete (s:Sat h S)(J:getA S j=some (ej id l c))(hu:P.underlying t=some (.map kt et))(hk:P.underlying kt=some (.int k)):
  ∃h',ku P h t (.map id) (.int .i64 n)=some h'∧Sat h' (setA S j (ej id (lq n l) c)):=by
 have hg:=s.row J
 simp only [ku,hu,hk,hg,keyBeq,cE,cond_true,nm]
 have I:=kG (n:=n) l 0
 cases U:idxE n l 0 with
 | none =>
  rw [U] at I
  have I:lookE n l=none:=I.symm
  refine ⟨h,rfl,?_⟩
  rw [Im l I]
  have:∀(S:List ah) (j:Nat) (A:ah),getA S j=some A→setA S j A=S:=by
   intro S
   induction S with
   | nil=>intro j A h; cases h
   | cons B S ih =>
    intro j A h
    cases j with
    | zero=>simp only [getA] at h; injection h with h; subst h; rfl
    | succ j=>simp only [getA] at h; simp only [setA,ih j A h]
  rw [this S j _ J]
  exact s
 | some q =>
  obtain ⟨i,u⟩:=q
  refine ⟨_,rfl,?_⟩
  have e:=Ns l 0 i u U
  rw [Nat.sub_zero] at e
  rw [e]
  exact s.put J
theorem Sat.RK (s:Sat h S)(I:getA S j=some (ej id l c))(hu:P.underlying t=some (.map kt et)): lenV P h t (.map id)=some (.int .i64 (l.length:Int)):=by
 have J:=s.row I
 simp only [lenV,hu,J,List.length_map]
end
section
variable {C:cf} {E:List (Nat×V)} {h h':H} {o:Oper} {S':List ah} {x y z:Operand} {a b v u:V} {t:TypeId} {cl:Go.Call}
theorem OpR.upd (I:∀env,gN env E→evOp C (ev C 0) env h o=(match mapUpdateV C.P h t a b v with | some h'=>some (bt,h') | none=>none))
 (ho:∃h₁,mapUpdateV C.P h t a b v=some h₁∧Sat h₁ S'): OpR C E h o fun _ h₁=>Sat h₁ S':=by
 obtain ⟨h₁,J,U⟩:=ho
 exact ⟨bt,h₁,U,fun env he=>⟨0,by rw [I env he,J]⟩⟩
theorem OpR.mapUpdate (I:o.op=.mapUpdate t x y z)(J:lookO E x=some a)(U:lookO E y=some b)(hz:lookO E z=some v)
 (ho:∃h₁,mapUpdateV C.P h t a b v=some h₁∧Sat h₁ S'): OpR C E h o fun _ h₁=>Sat h₁ S':=by
 refine OpR.upd (t:=t) (a:=a) (b:=b) (v:=v) (fun env he => ?_) ho
 simp only [evOp,I,bf he J,bf he U,bf he hz,jf]
 cases mapUpdateV C.P h t a b v <;> rfl
theorem OpR.builtin {args:List V}{bi:Builtin}{R:V→H→Prop}(I:o.op=.call cl)(J:cl.callee=.builtin bi)(U:lookArgs E cl.args.toList=some args)(ho:∃v h₁,builtinV C.P h bi cl.argTypes args=some (v,h₁)∧R v h₁): OpR C E h o R:=by
 obtain ⟨v,h₁,e1,e2⟩:=ho
 refine OpR.of ?_ e2
 rw [I]
 simp only [opE,J,U,e1]
theorem OpR.mI {l m:List Nat}{S:List ah}{X:ah}(hP:C.P=Tryz.prog)(s:Sat h (a_ v l::X::S))(hX:bU X (bZ u m))(I:o.op=.call cl)(hc:cl.callee=.builtin .append)(J:cl.argTypes = #[32,32])(ha:lookArgs E cl.args.toList=some [v,u])
 (U:l.length+m.length≤140737488355328): OpR C E h o fun v' h₁=>Sat h₁ (a_ v' (l++m)::X::S):=by
 obtain ⟨v',h₁,e1,e2⟩:=vz s hX U
 refine OpR.builtin I hc ha ⟨v',h₁,?_,e2⟩
 simp only [builtinV,hP,J,e1]
theorem OpR.o_ {S:List ah}{c:Nat}(J:C.P=Tryz.prog)(s:Sat h S)(I:o.op=.makeSlice t x y)(U:t=32)(hx:lookO E x=some (.int .i64 0))(hy:lookO E y=some (.int .i64 (c:Int)))(hc:c<1073741824): OpR C E h o fun v' h₁=>Sat h₁ (a_ v' []::S):=by
 obtain ⟨v',h₁,e1,e2⟩:=xE s hc
 exact OpR.of (by rw [I,U,J]; exact ow hx hy e1) e2
theorem OpR.yQ {S:List ah}{c:Nat}(J:C.P=Tryz.prog)(s:Sat h S)(I:o.op=.makeSlice t x y)(U:t=32)(hx:lookO E x=some (.int .i64 (c:Int)))(hy:lookO E y=some (.int .i64 (c:Int)))(hc:c<1073741824): OpR C E h o fun v' h₁=>Sat h₁ (a_ v' (List.replicate c 0)::S):=by
 obtain ⟨v',h₁,e1,e2⟩:=FY s hc
 exact OpR.of (by rw [I,U,J]; exact ow hx hy e1) e2
theorem OpR.O_ {l m:List Nat}{S:List ah}{X:ah}{p q:Nat}(hP:C.P=Tryz.prog)(s:Sat h (a_ v l::X::S))(hX:bU X (bZ u m))(I:o.op=.call cl)(hc:cl.callee=.builtin .copy)(J:cl.argTypes = #[32,32])(ha:lookArgs E cl.args.toList=some [slR v p q,u])
 (U:p<q)(hq:q≤l.length)(hm:1≤m.length): OpR C E h o fun _ h₁=>Sat h₁ (a_ v (cI l p (m.take (q-p)))::X::S):=by
 obtain ⟨h₁,e1,e2⟩:=Ab s hX U hq hm
 refine OpR.builtin I hc ha ⟨.int .i64 (min m.length (q-p):Nat),h₁,?_,e2⟩
 simp only [builtinV,hP,J,e1]
theorem OpR.DV {S:List ah}{n:Nat}{ps:Array (Nat×Operand)}(J:C.P=Tryz.prog)(s:Sat h S)(I:o.op=.buildSlice t 1 ps)(U:t=32)(hx:lookParts E ps.toList=some [(0,.int .u8 (n:Int))])(hn:n<256): OpR C E h o fun v' h₁=>Sat h₁ (a_ v' [n]::S):=by
 obtain ⟨v',h₁,e1,e2⟩:=FZ s hn
 exact OpR.of (by rw [I,U,J]; exact mD hx e1) e2
end
section
variable {α:Type}
def lookL (n:Int): List (Int×α)→Option α
 | []=>none
 | e::l=>if e.1=n then some e.2 else lookL n l
def cA (n:Int)(a:α): List (Int×α)→List (Int×α)
 | []=>[(n,a)]
 | e::l=>if e.1=n then (n,a)::l else e::cA n a l
def jb (n:Int): List (Int×α)→List (Int×α)
 | []=>[]
 | e::l=>if e.1=n then l else e::jb n l
theorem mw {n k:Int}{a:α}: ∀l:List (Int×α),lookL k (cA n a l)=if n=k then some a else lookL k l:=by
 intro l
 induction l with
 | nil=>simp [cA,lookL]
 | cons e l J =>
  simp only [cA]
  by_cases he:e.1=n
  ·rw [if_pos he]
   simp only [lookL]
   by_cases I:n=k
   ·simp [I]
   ·have:¬ e.1=k:=fun h=>I (by rw [←he,h])
    simp [I,this]
  ·rw [if_neg he]
   simp only [lookL,J]
   by_cases I:e.1=k
   ·have:¬ n=k:=fun h=>he (by rw [I,h])
    simp [I,this]
   ·simp [I]
theorem jI {n:Int}: ∀ {l:List (Int×α)},lookL n l=none↔n∉l.map (·.1):=by
 intro l
 induction l with
 | nil=>simp [lookL]
 | cons e l I =>
  simp only [lookL,List.map_cons,List.mem_cons,not_or]
  by_cases he:e.1=n
  ·simp [he]
  ·rw [if_neg he,I]
   exact ⟨fun h=>⟨fun J=>he J.symm,h⟩,fun h=>h.2⟩
theorem xH {n k:Int}: ∀ {l:List (Int×α)},(l.map (·.1)).Nodup→lookL k (jb n l)=if n=k then none else lookL k l:=by
 intro l
 induction l with
 | nil=>simp [jb,lookL]
 | cons e l U =>
  intro J
  simp only [List.map_cons,List.nodup_cons] at J
  simp only [jb]
  by_cases he:e.1=n
  ·rw [if_pos he]
   by_cases I:n=k
   ·rw [if_pos I,←I,jI,←he]; exact J.1
   ·have:¬ e.1=k:=fun h=>I (by rw [←he,h])
    simp [lookL,I,this]
  ·rw [if_neg he]
   simp only [lookL,U J.2]
   by_cases I:e.1=k
   ·have:¬ n=k:=fun h=>he (by rw [I,h])
    simp [I,this]
   ·simp [I]
theorem lV {n:Int}{a:α}: ∀ {l:List (Int×α)} {k:Int},k∈(cA n a l).map (·.1)↔k=n∨k∈l.map (·.1):=by
 intro l
 induction l with
 | nil=>intro k; simp [cA]
 | cons e l I =>
  intro k
  simp only [cA]
  by_cases he:e.1=n
  ·rw [if_pos he]; simp [he]
  ·rw [if_neg he]
   simp only [List.map_cons,List.mem_cons,I]
   constructor
   ·rintro (h | h | h) <;> simp [h]
   ·rintro (h | h | h) <;> simp [h]
theorem fQ {n:Int}{a:α}: ∀ {l:List (Int×α)},(l.map (·.1)).Nodup→((cA n a l).map (·.1)).Nodup:=by
 intro l
 induction l with
 | nil=>simp [cA]
 | cons e l J =>
  intro I
  simp only [List.map_cons,List.nodup_cons] at I
  simp only [cA]
  by_cases he:e.1=n
  ·rw [if_pos he]; simp only [List.map_cons,List.nodup_cons]; rw [←he]; exact I
  ·rw [if_neg he]
   simp only [List.map_cons,List.nodup_cons]
   refine ⟨fun h => ?_,J I.2⟩
   rcases lV.1 h with h | h
   ·exact he h
   ·exact I.1 h
theorem Io {n:Int}: ∀ {l:List (Int×α)} {k:Int},k∈(jb n l).map (·.1)→k∈l.map (·.1):=by
 intro l
 induction l with
 | nil=>intro k h; exact h
 | cons e l I =>
  intro k h
  simp only [jb] at h
  by_cases he:e.1=n
  ·rw [if_pos he] at h; simp only [List.map_cons,List.mem_cons]; exact .inr h
  ·rw [if_neg he] at h
   simp only [List.map_cons,List.mem_cons] at h ⊢
   exact h.imp_right I
theorem p_ {n:Int}: ∀ {l:List (Int×α)},(l.map (·.1)).Nodup→((jb n l).map (·.1)).Nodup:=by
 intro l
 induction l with
 | nil=>simp [jb]
 | cons e l J =>
  intro I
  simp only [List.map_cons,List.nodup_cons] at I
  simp only [jb]
  by_cases he:e.1=n
  ·rw [if_pos he]; exact I.2
  ·rw [if_neg he]
   simp only [List.map_cons,List.nodup_cons]
   exact ⟨fun h=>I.1 (Io h),J I.2⟩
def cX (f:V→α→ah): bJ→List (Int×α)→ah
 | [],[]=>.pu True
 | e::l,x::m=>.an (.an (.pu (e.1=x.1)) (f e.2.1 x.2)) (cX f l m)
 | _,_=>.pu False
variable {f:V→α→ah} {a b:PM}
theorem qa : ∀ {l:bJ} {m:List (Int×α)},(cX f l m).p a b→l.map (·.1)=m.map (·.1):=by
 intro l
 induction l with
 | nil=>intro m h; cases m with
  | nil=>rfl
  | cons x m=>exact h.elim
 | cons e l I=>intro m h; cases m with
  | nil=>exact h.elim
  | cons x m=>simp only [List.map_cons]; rw [h.1.1,I h.2]
theorem mY {n:Int}: ∀ {l:bJ} {m:List (Int×α)},(cX f l m).p a b→(lookE n l=none∧lookL n m=none)∨∃u x,lookE n l=some u∧lookL n m=some x∧(f u x).p a b:=by
 intro l
 induction l with
 | nil=>intro m h; cases m with
  | nil=>exact .inl ⟨rfl,rfl⟩
  | cons x m=>exact h.elim
 | cons e l J=>intro m h; cases m with
  | nil=>exact h.elim
  | cons x m =>
   obtain ⟨⟨I,U⟩,h3⟩:=h
   have I:e.1=x.1:=I
   simp only [lookE,lookL,←I]
   by_cases he:e.1=n
   ·rw [if_pos he,if_pos he]; exact .inr ⟨_,_,rfl,rfl,U⟩
   ·rw [if_neg he,if_neg he]; exact J h3
theorem xI {n:Int}{u:V}{x:α}{c:Nat}(hu:(f u x).p a b): ∀ {l:bJ} {m:List (Int×α)},(cX f l m).p a b→(cX f (fX n u c l) (cA n x m)).p a b:=by
 intro l
 induction l with
 | nil=>intro m h; cases m with
  | nil=>exact ⟨⟨rfl,hu⟩,trivial⟩
  | cons x m=>exact h.elim
 | cons e l U=>intro m h; cases m with
  | nil=>exact h.elim
  | cons y m =>
   obtain ⟨⟨I,h2⟩,J⟩:=h
   have I:e.1=y.1:=I
   simp only [fX,cA,←I]
   by_cases he:e.1=n
   ·rw [if_pos he,if_pos he]; exact ⟨⟨he,hu⟩,J⟩
   ·rw [if_neg he,if_neg he]; exact ⟨⟨I,h2⟩,U J⟩
theorem F5 {n:Int}: ∀ {l:bJ} {m:List (Int×α)},(cX f l m).p a b→(cX f (lq n l) (jb n m)).p a b:=by
 intro l
 induction l with
 | nil=>intro m h; cases m with
  | nil=>trivial
  | cons x m=>exact h.elim
 | cons e l U=>intro m h; cases m with
  | nil=>exact h.elim
  | cons y m =>
   obtain ⟨⟨I,h2⟩,J⟩:=h
   have I:e.1=y.1:=I
   simp only [lq,jb,←I]
   by_cases he:e.1=n
   ·rw [if_pos he,if_pos he]; exact J
   ·rw [if_neg he,if_neg he]; exact ⟨⟨I,h2⟩,U J⟩
theorem aq.Ad (I:∀u x,aq (f u x)): ∀(l:bJ) (m:List (Int×α)),aq (cX f l m):=by
 intro l
 induction l with
 | nil=>intro m; cases m <;> exact aq.pu _
 | cons e l J=>intro m; cases m with
  | nil=>exact aq.pu _
  | cons x m=>exact aq.an (aq.an (aq.pu _) (I _ _)) (J m)
def dZ (c:Nat): Nat→bJ→Prop
 | _,[]=>True
 | b,e::l=>b≤e.2.2∧e.2.2<c∧dZ c (e.2.2+1) l
theorem DW {c:Nat}: ∀ {l:bJ} {b I:Nat},I≤b→dZ c b l→dZ c I l:=by
 intro l
 cases l with
 | nil=>intro b I _ _; trivial
 | cons e l=>intro b I h J; exact ⟨Nat.le_trans h J.1,J.2⟩
theorem rQ {c n:Nat}{k:Int}{u:V}(U:n=c): ∀ {l:bJ} {b:Nat},b≤c→dZ c b l→dZ (clkE k c l) b (fX k u n l):=by
 subst U
 intro l
 induction l with
 | nil=>intro b J _; simp only [fX,clkE,lookE]; exact ⟨J,Nat.lt_succ_self _,trivial⟩
 | cons e l ih =>
  intro b J h
  have I:=ih (b:=e.2.2+1) (by have:=h.2.1; omega) h.2.2
  simp only [clkE] at I
  by_cases he:e.1=k
  ·simp only [fX,clkE,lookE,if_pos he]; exact h
  ·simp only [fX,clkE,lookE,if_neg he]
   refine ⟨h.1,?_,I⟩
   have:=h.2.1
   split <;> omega
theorem F6 {c:Nat}{k:Int}: ∀ {l:bJ} {b:Nat},dZ c b l→dZ c b (lq k l):=by
 intro l
 induction l with
 | nil=>intro b h; exact h
 | cons e l I =>
  intro b h
  simp only [lq]
  by_cases he:e.1=k
  ·rw [if_pos he]; exact DW (by have:=h.1; omega) h.2.2
  ·rw [if_neg he]; exact ⟨h.1,h.2.1,I h.2.2⟩
def fE (f:V→α→ah)(v:V)(m:List (Int×α)): ah :=
 xs fun id:Nat=>xs fun l:bJ=>xs fun c:Nat=>star [.pu (v=.map id∧dZ c 0 l∧(m.map (·.1)).Nodup),ej id l c,cX f l m]
section
variable {P:Program} {h h':H} {S:List ah} {v u z:V} {t kt et:TypeId} {k:IntKind} {m:List (Int×α)} {n:Int} {x:α}
theorem c9 : Sat h (fE f v m::S)↔∃id l c,v=.map id∧dZ c 0 l∧(m.map (·.1)).Nodup∧Sat h (ej id l c::cX f l m::S):=by
 simp only [fE,eA,cG,List.cons_append,List.nil_append,cL,and_assoc,ej]
theorem iL (hf:∀u x,aq (f u x))(s:Sat h (fE f v m::S))(hu:P.underlying t=some (.map kt et))(hk:P.underlying kt=some (.int k))(hz:zeroT P et=some z):
  (lookL n m=none∧cV P h t v (.int .i64 n) true=some (.aW [z,.bool false])∧cV P h t v (.int .i64 n) false=some z) ∨
  ∃u x,lookL n m=some x∧cV P h t v (.int .i64 n) true=some (.aW [u,.bool true])∧cV P h t v (.int .i64 n) false=some u∧Sat h (f u x::fE f v m::S):=by
 obtain ⟨id,l,c,rfl,hb,hn,s1⟩:=c9.1 s
 have e2:=s1.J_ (n:=n) (j:=0) rfl hu hk hz
 have e1:=s1.O9 (n:=n) (j:=0) rfl hu hk hz
 obtain ⟨a,b,q1,q2,q3⟩:=s1.at (k:=1) rfl
 rcases mY (n:=n) q3 with ⟨U,g2⟩ | ⟨u,x,U,g2,g3⟩
 ·rw [U] at e1 e2; exact .inl ⟨g2,e2,e1⟩
 ·rw [U] at e1 e2
  refine .inr ⟨u,x,g2,e2,e1,?_⟩
  have s2:Sat h (cX f l m::ej id l c::S):=s1.kY [1]
  have s3:=s2.dup (aq.Ad hf l m)
  have s4:Sat h (f u x::cX f l m::ej id l c::S):=s3.dY fun a' b' h'=>by
   rcases mY (n:=n) h' with ⟨I,_⟩ | ⟨u',x',I,J,Nt⟩
   ·rw [U] at I; cases I
   ·rw [U] at I; rw [g2] at J; injection I with I; injection J with J; subst I; subst J; exact Nt
  have s5:Sat h (ej id l c::cX f l m::f u x::S):=s4.kY [2,1]
  exact (c9.2 ⟨id,l,c,rfl,hb,hn,s5⟩:Sat h (fE f (.map id) m::f u x::S)).kY [1]
theorem kj (J:∀u x,aq (f u x))(s:Sat h (f u x::fE f v m::S))(hu:P.underlying t=some (.map kt et))(U:P.underlying kt=some (.int k)):
  ∃h',mapUpdateV P h t v (.int .i64 n) u=some h'∧Sat h' (fE f v (cA n x m)::S):=by
 have s0:Sat h (fE f v m::f u x::S):=s.kY [1]
 obtain ⟨id,l,c,rfl,hb,hn,s1⟩:=c9.1 s0
 obtain ⟨h',e1,I⟩:=s1.update (n:=n) (v:=u) (j:=0) rfl hu U
 refine ⟨h',e1,?_⟩
 have I:Sat h' (ej id (fX n u c l) (clkE n c l)::cX f l m::f u x::S):=I
 have e3:Sat h' (f u x::cX f l m::ej id (fX n u c l) (clkE n c l)::S):=I.kY [2,1]
 have e4:Sat h' (cX f (fX n u c l) (cA n x m)::ej id (fX n u c l) (clkE n c l)::S):=e3.map fun a b h=>by
  obtain ⟨p1,p2,d1,d2,d3,d4,p3,p4,d5,d6,d7,d8,d9⟩:=h
  exact ⟨fun _=>none,p4,fun _=>.inl rfl,fun _ _ h=>(by cases h),PM.le_trans d7 d3,xI (J _ _ _ _ d4) (aq.Ad J _ _ _ _ d8),d9⟩
 exact c9.2 ⟨id,_,_,rfl,rQ rfl (Nat.zero_le _) hb,fQ hn,e4.kY [1]⟩
theorem Ip (s:Sat h (fE f v m::S))(hu:P.underlying t=some (.map kt et))(J:P.underlying kt=some (.int k)):
  ∃h',ku P h t v (.int .i64 n)=some h'∧Sat h' (fE f v (jb n m)::S):=by
 obtain ⟨id,l,c,rfl,U,hn,s1⟩:=c9.1 s
 obtain ⟨h',e1,I⟩:=s1.delete (n:=n) (j:=0) rfl hu J
 refine ⟨h',e1,?_⟩
 have I:Sat h' (ej id (lq n l) c::cX f l m::S):=I
 have e3:Sat h' (cX f l m::ej id (lq n l) c::S):=I.kY [1]
 have e4:Sat h' (cX f (lq n l) (jb n m)::ej id (lq n l) c::S):=e3.dY fun a b h=>F5 h
 exact c9.2 ⟨id,_,_,rfl,F6 U,p_ hn,e4.kY [1]⟩
theorem Ae (s:Sat h (fE f v m::S))(hu:P.underlying t=some (.map kt et)): lenV P h t v=some (.int .i64 (m.length:Int)):=by
 obtain ⟨id,l,c,rfl,J,U,s1⟩:=c9.1 s
 have e:=s1.RK (j:=0) rfl hu
 obtain ⟨a,b,q1,q2,I⟩:=s1.at (k:=1) rfl
 have:=congrArg List.length (qa I)
 simp only [List.length_map] at this
 rw [this] at e
 exact e
theorem nT {id:Nat}(s:Sat h (pt id (.map [] 0)::S)): Sat h (fE f (.map id) []::S):=by
 have s1:Sat h (cX f [] []::pt id (.map [] 0)::S):=s.eu trivial
 exact c9.2 ⟨id,[],0,rfl,trivial,by simp,s1.kY [1]⟩
theorem Af {j:Nat}(s:Sat h S)(I:getA S j=some (fE f v m)): ∃id,v=.map id:=by
 have s1:=s.take j I
 obtain ⟨id,l,c,rfl,_⟩:=c9.1 s1
 exact ⟨id,rfl⟩
end
end
theorem OpR.delete {C:cf}{E:List (Nat×V)}{h:H}{o:Oper}{S':List ah}{cl:Go.Call}{t u:TypeId}{m k:V}(I:o.op=.call cl)(U:cl.callee=.builtin .delete)(J:cl.argTypes = #[t,u])(ha:lookArgs E cl.args.toList=some [m,k])
 (ho:∃h₁,ku C.P h t m k=some h₁∧Sat h₁ S'): OpR C E h o fun _ h₁=>Sat h₁ S':=by
 obtain ⟨h₁,e1,e2⟩:=ho
 refine OpR.builtin I U ha ⟨.aW [],h₁,?_,e2⟩
 simp only [builtinV,J,e1,Option.map_some]
end Go.Proofs.YtconhghphklfjaaGreat.Am
