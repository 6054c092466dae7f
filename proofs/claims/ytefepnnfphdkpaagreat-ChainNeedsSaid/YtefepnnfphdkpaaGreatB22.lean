/- ChainNeeds: a part of its proof; conditions: its statement's. -/
import Derived.Test.YtefepnnfphdkpaaGreatB21
set_option linter.defProp false
namespace Go.Proofs.YtefepnnfphdkpaaGreat.Am
open Go
def uP:=@Tryz.underlying185
def Dk.fP (δ:Dk): Int×Dk:=if δ.dead=true then (9,δ) else if δ.bL=0 then (9,δ.die) else (0,{ δ.gq with dW:=δ.log.length })
def Dk.cJ (δ:Dk)(n:Int)(b:List Nat): Int×Dk:=if δ.dead=true then (9,δ) else if ¬(0≤n∧n<δ.aW.length∧b.length=512) then (1,δ) else
 if δ.bL=0 then (9,{ δ.die with AF:=some (n.toNat,b) }) else (0,δ.wr n b)
def Dk.iG (δ:Dk)(b:List Nat): Int×Dk:=if δ.dead=true then (9,δ) else if δ.room<δ.log.length+b.length then (7,δ) else if δ.bL=0 then (9,{ δ.die with tail:=b }) else (0,{ δ.gq with log:=δ.log++b })
def Dk.nO (δ:Dk)(n:Int): Int:=if δ.dead=true then 9 else if ¬(0≤n∧n<δ.aW.length) then 1 else 0
structure Dk.Ok (δ:Dk): Prop where
 bL:δ.bL<4294967296
 len:δ.log.length≤16777216
 room:δ.room≤16777216
 now:∀e∈δ.now,e.2.length=512
 aW:∀(i:Nat) (b:List Nat),δ.aW[i]?=some (some b)→b.length=512
 dW:δ.dW≤δ.log.length
 many:δ.aW.length≤65536
theorem Dk.Ok.gq {δ:Dk}(h:δ.Ok): δ.gq.Ok:=⟨by have:=h.bL; simp only [Dk.gq]; split <;> omega,h.len,h.room,h.now,h.aW,h.dW,h.many⟩
theorem Dk.Ok.die {δ:Dk}(h:δ.Ok): δ.die.Ok:=⟨h.bL,h.len,h.room,h.now,h.aW,h.dW,h.many⟩
theorem Dk.Ok.fP {δ:Dk}(h:δ.Ok): δ.fP.2.Ok:=by
 unfold Dk.fP
 split
 ·exact h
 ·split
  ·exact h.die
  ·exact ⟨h.gq.bL,h.len,h.room,h.now,h.aW,aD _,h.many⟩
theorem jT {α:Type}{n:Int}{x:α}: ∀ {l:List (Int×α)},lookL n l=some x→(n,x)∈l:=by
 intro l
 induction l with
 | nil=>intro h; cases h
 | cons e l I =>
  intro h
  simp only [lookL] at h
  by_cases he:e.1=n
  ·rw [ax he] at h
   have:=bG h
   obtain ⟨a,b⟩:=e
   simp only at he this
   subst he; subst this
   exact cM
  ·rw [ai he] at h; exact cC _ (I h)
theorem Dk.Ok.at {δ:Dk}(I:δ.Ok)(n:Int): (δ.at n).length=512:=by
 unfold Dk.at
 cases J:lookL n δ.now with
 | some b=>exact I.now _ (jT J)
 | none =>
  cases h2:δ.aW[n.toNat]? with
  | none=>exact eE
  | some o =>
   cases o with
   | none=>exact eE
   | some b=>exact I.aW _ _ h2
section
variable {told:cK} {h:H} {S:List aq} {X:aq} {k q p:Nat} {v x:V} {l b:List Nat} {μ:Lg} {δ:Dk}
theorem NA (hT:W told){n:Int}(s:Sat h (bp p δ::X::S))(hX:cI X (cL x b))(hb:b.length<1073741824)(hf:δ.bL<4294967296)(hw:δ.waiting.length≤268435456):
  Call ⟨Tryz.prog,told⟩ 138 [.ptr p 0,.int .i64 n,x] h fun v h'=>v=.int .i64 (δ.cJ n b).1∧Sat h' (bp p (δ.cJ n b).2::X::S):=by
 refine (IT hT s hX hb hf hw).mono fun v h' hr => ?_
 unfold Dk.cJ
 rcases hr with ⟨I,rfl,s⟩ | ⟨I,J,rfl,s⟩ | ⟨I,h1,h2,h3,J,rfl,s⟩ | ⟨I,h1,h2,h3,J,rfl,s⟩
 ·rw [ax I]; exact ⟨rfl,s⟩
 ·rw [ai (by rw [I]; decide),ax J]; exact ⟨rfl,s⟩
 ·rw [ai (by rw [I]; decide),ai (by simp [h1,h2,h3]),ax J]; exact ⟨rfl,s⟩
 ·rw [ai (by rw [I]; decide),ai (by simp [h1,h2,h3]),ai J]; exact ⟨rfl,s⟩
theorem I8 (hT:W told){n:Int}(s:Sat h (bp p δ::S))(J:δ.Ok): Call ⟨Tryz.prog,told⟩ 124 [.ptr p 0,.int .i64 n] h fun v h' =>
  (δ.nO n≠0∧v=.aX [.bu,.int .i64 (δ.nO n)]∧Sat h' (bp p δ::S))∨(δ.nO n=0∧∃u,v=.aX [u,.int .i64 0]∧Sat h' (aP u (δ.at n)::bp p δ::S)):=by
 refine (KS hT s (J.at n)).mono fun v h' hr => ?_
 unfold Dk.nO
 rcases hr with ⟨I,rfl,s⟩ | ⟨I,h0,rfl,s⟩ | ⟨I,h1,h2,u,rfl,s⟩
 ·rw [ax I]; exact .inl ⟨by decide,rfl,s⟩
 ·rw [ai (by rw [I]; decide),ax h0]; exact .inl ⟨by decide,rfl,s⟩
 ·rw [ai (by rw [I]; decide),ai (by simp [h1,h2])]; exact .inr ⟨rfl,u,rfl,s⟩
end
abbrev LD := Lg×Dk
def bM (x:LD)(n:Nat): Int×LD:=if n<x.1.base+x.1.forced then (0,x) else if x.2.fP.1≠0 then (x.2.fP.1,(x.1,x.2.fP.2)) else (0,({ x.1 with forced:=x.1.b.length },x.2.fP.2))
def dh (μ:Lg)(kd:Int)(tx pv nx:Nat)(data:List Nat)(bS:List c7): List Nat:=ow (μ.base+μ.b.length) (d_ kd tx pv nx data bS)
def bj (x:LD)(kd:Int)(tx pv nx:Nat)(data:List Nat)(bS:List c7): (Nat×Int)×LD :=
 if dO kd bS=false then ((0,1),x) else if 1048576<(d_ kd tx pv nx data bS).length then ((0,2),x) else
 if (x.2.iG (dh x.1 kd tx pv nx data bS)).1≠0 then ((0,(x.2.iG (dh x.1 kd tx pv nx data bS)).1),(x.1,(x.2.iG (dh x.1 kd tx pv nx data bS)).2)) else
 ((x.1.base+x.1.b.length,0),(x.1.app (dh x.1 kd tx pv nx data bS),(x.2.iG (dh x.1 kd tx pv nx data bS)).2))
theorem D6 {δ:Dk}: δ.fP.2.waiting=δ.waiting:=by
 unfold Dk.fP
 split
 ·rfl
 ·split <;> rfl
theorem mV {x:LD}{n:Nat}: (bM x n).2.2.waiting=x.2.waiting:=by
 unfold bM
 split
 ·rfl
 ·split <;> exact D6
theorem Dk.Ok.cJ {δ:Dk}{n:Int}{b:List Nat}(h:δ.Ok): (δ.cJ n b).2.Ok:=by
 unfold Dk.cJ
 split
 ·exact h
 ·split
  ·exact h
  ·rename_i hn
   split
   ·exact ⟨h.bL,h.len,h.room,h.now,h.aW,h.dW,h.many⟩
   ·refine ⟨h.gq.bL,h.len,h.room,fun e he => ?_,h.aW,h.dW,h.many⟩
    have J:b.length=512:=by
     by_cases q:0≤n∧n<δ.aW.length∧b.length=512
     ·exact q.2.2
     ·exact absurd q hn
    have:∀l:List (Int×List Nat),(∀e∈l,e.2.length=512)→∀e∈cY n b l,e.2.length=512:=by
     intro l
     induction l with
     | nil=>intro _ e he; simp [cY] at he; subst he; exact J
     | cons x l ih =>
      intro I e he
      simp only [cY] at he
      split at he
      ·rcases List.mem_cons.1 he with rfl | he
       ·exact J
       ·exact I e (cC _ he)
      ·rcases List.mem_cons.1 he with rfl | he
       ·exact I _ cM
       ·exact ih (fun e he=>I e (cC _ he)) e he
    exact this δ.now h.now e he
theorem oQ {x:LD}{n:Nat}(h:x.2.Ok): (bM x n).2.2.Ok:=by
 unfold bM
 split
 ·exact h
 ·split
  ·exact h.fP
  ·exact h.fP
theorem Lg.Ok.NB {μ:Lg}(h:μ.Ok): ({ μ with forced:=μ.b.length }:Lg).Ok:=⟨h.size,h.many,h.low,h.AG,aD _,h.len,h.check⟩
theorem wJ {x:LD}{n:Nat}(h:x.1.Ok): (bM x n).2.1.Ok:=by
 unfold bM
 split
 ·exact h
 ·split
  ·exact h
  ·exact h.NB
section
variable {told:cK} {h:H} {S:List aq} {X:aq} {k q p:Nat} {v x:V} {l b:List Nat} {μ:Lg} {δ:Dk}
theorem NC (hT:W told){n:Nat}(s:Sat h (bW q p μ::bp p δ::S))(K0:μ.Ok)(hf:δ.bL<4294967296): Call ⟨Tryz.prog,told⟩ 79 [.ptr q 0,.int .u64 (n:Int)] h fun v h' =>
  v=.int .i64 (bM (μ,δ) n).1∧Sat h' (bW q p (bM (μ,δ) n).2.1::bp p (bM (μ,δ) n).2.2::S):=by
 refine (I0 hT s K0 hf).mono fun v h' hr => ?_
 unfold bM Dk.fP
 rcases hr with ⟨I,rfl,s⟩ | ⟨I,J,rfl,s⟩ | ⟨I,J,h0,rfl,s⟩ | ⟨I,J,h0,rfl,s⟩
 ·rw [ax I]; exact ⟨rfl,s⟩
 ·simp only [ai (Nat.not_lt.2 I),ax J,ne_eq,ax (by decide:¬ ((9:Int)=0))]; exact ⟨aa,s⟩
 ·simp only [ai (Nat.not_lt.2 I),ai (by rw [J]; decide:¬ δ.dead=true),ax h0,ne_eq,ax (by decide:¬ ((9:Int)=0))]; exact ⟨aa,s⟩
 ·simp only [ai (Nat.not_lt.2 I),ai (by rw [J]; decide:¬ δ.dead=true),ai h0,ne_eq,not_true,bC]; exact ⟨aa,s⟩
theorem K1 (hT:W told){kd:Int}{tx pv nx:Nat}{dt ch:V}{cs:List V}{data:List Nat}{bS:List c7}(s:Sat h (bW q p μ::bp p δ::X::.arr 4 ch cs::c9 cs bS::S))(hX:cI X (cL dt data))(fF:yL tx pv nx data bS)(K0:μ.Ok)(CZ:δ.Ok):
  Call ⟨Tryz.prog,told⟩ 59 [.ptr q 0,.agg (mU kd tx pv nx dt ch)] h fun r h' =>
  r=.aX [.int .u64 ((bj (μ,δ) kd tx pv nx data bS).1.1:Nat),.int .i64 (bj (μ,δ) kd tx pv nx data bS).1.2] ∧
  Sat h' (bW q p (bj (μ,δ) kd tx pv nx data bS).2.1::bp p (bj (μ,δ) kd tx pv nx data bS).2.2::X::.arr 4 ch cs::c9 cs bS::S):=by
 refine (GQ hT s hX fF K0 CZ.bL CZ.len CZ.room).mono fun v h' hr => ?_
 unfold bj Dk.iG dh
 rcases hr with ⟨e,rfl,(⟨J,rfl⟩ | ⟨J,hb,rfl⟩ | ⟨J,hb,hd,rfl⟩ | ⟨J,hb,hd,BS,rfl⟩),s⟩ | ⟨J,hb,hd,I,h0,rfl,s⟩ | ⟨J,hb,hd,I,h0,rfl,s⟩
 ·rw [ax J]; exact ⟨rfl,s⟩
 ·rw [ai (by rw [J]; decide),ax hb]; exact ⟨rfl,s⟩
 ·simp only [ai (by rw [J]; decide:¬ dO kd bS=false),ai (Nat.not_lt.2 hb),ax hd,ne_eq,ax (by decide:¬ ((9:Int)=0))]; exact ⟨rfl,s⟩
 ·simp only [ai (by rw [J]; decide:¬ dO kd bS=false),ai (Nat.not_lt.2 hb),ai (by rw [hd]; decide:¬ δ.dead=true),ax BS,ne_eq,ax (by decide:¬ ((7:Int)=0))]; exact ⟨rfl,s⟩
 ·simp only [ai (by rw [J]; decide:¬ dO kd bS=false),ai (Nat.not_lt.2 hb),ai (by rw [hd]; decide:¬ δ.dead=true),ai (Nat.not_lt.2 I),ax h0,ne_eq,ax (by decide:¬ ((9:Int)=0))]; exact ⟨rfl,s⟩
 ·simp only [ai (by rw [J]; decide:¬ dO kd bS=false),ai (Nat.not_lt.2 hb),ai (by rw [hd]; decide:¬ δ.dead=true),ai (Nat.not_lt.2 I),ai h0,ne_eq,not_true,bC]; exact ⟨aa,s⟩
end
structure Fm where
 aU:Int
 b:List Nat
 pins:Int
 dD:Bool
 changed:Bool
structure Pl where
 ah:List Fm
 bg:List (Int×Int)
 bZ:List (Int×(Nat×Bool))
 hand:Nat
def dP (f:Fm)(v:V): List V:=[.int .i64 f.aU,v,.int .i64 f.pins,.bool f.dD,.bool f.changed]
def qn : List V→List Fm→aq
 | [],[]=>.pu True
 | a::v::c::d::e::l,x::m=>.an (.an (.pu (a=.int .i64 x.aU∧c=.int .i64 x.pins∧d=.bool x.dD∧e=.bool x.changed)) (.cE v x.b)) (qn l m)
 | _,_=>.pu False
theorem bn.fm : ∀(m:List Fm) (l:List V),bn (qn l m):=by
 intro m
 induction m with
 | nil=>intro l; rcases l with _ | ⟨a,_ | ⟨b,_ | ⟨c,_ | ⟨d,_ | ⟨e,l⟩⟩⟩⟩⟩ <;> exact bn.pu _
 | cons x m I=>intro l; rcases l with _ | ⟨a,_ | ⟨b,_ | ⟨c,_ | ⟨d,_ | ⟨e,l⟩⟩⟩⟩⟩ <;> first | exact bn.pu _ | exact bn.an (bn.an (bn.pu _) (bn.cE _ _)) (I l)
theorem uQ {a b:PM}: ∀ {m:List Fm} {l:List V} {i:Nat} {f:Fm},(qn l m).p a b→m[i]?=some f→∃pre v post,l=pre++(dP f v++post)∧pre.length=i*5∧(aq.cE v f.b).p a b ∧
  (∀(f':Fm) (v':V) (I J:PM),(aq.cE v' f'.b).p I J→PM.le a I→PM.le b J→(qn (pre++(dP f' v'++post)) (m.set i f')).p I J):=by
 intro m
 induction m with
 | nil=>intro l i f h hc; simp at hc
 | cons x m ih =>
  intro l i f h hc
  rcases l with _ | ⟨p,_ | ⟨q,_ | ⟨w,_ | ⟨d,_ | ⟨e,l⟩⟩⟩⟩⟩ <;> first | exact h.elim | skip
  obtain ⟨⟨⟨h1,h2,h3,h4⟩,h5⟩,h6⟩:=h
  cases i with
  | zero =>
   simp at hc
   subst hc
   refine ⟨[],q,l,?_,rfl,h5,fun f' v' I J hv ha hb=>⟨⟨⟨rfl,rfl,rfl,rfl⟩,hv⟩,(qn l m).mono _ _ _ _ ha hb h6⟩⟩
   rw [h1,h2,h3,h4]; rfl
  | succ i =>
   simp at hc
   obtain ⟨pre,v,post,e1,e2,e3,e4⟩:=ih h6 hc
   refine ⟨p::q::w::d::e::pre,v,post,?_,?_,e3,fun f' v' I J hv ha hb=>⟨⟨⟨h1,h2,h3,h4⟩,aq.mono _ _ _ _ _ ha hb h5⟩,e4 f' v' I J hv ha hb⟩⟩
   ·rw [e1]; rfl
   ·simp only [aQ,e2]; omega
theorem ND {a b:PM}: ∀ {m:List Fm} {l:List V},(qn l m).p a b→l.length=m.length*5:=by
 intro m
 induction m with
 | nil=>intro l h; rcases l with _ | ⟨a,_ | ⟨b,_ | ⟨c,_ | ⟨d,_ | ⟨e,l⟩⟩⟩⟩⟩ <;> first | rfl | exact h.elim
 | cons x m I =>
  intro l h
  rcases l with _ | ⟨a,_ | ⟨b,_ | ⟨c,_ | ⟨d,_ | ⟨e,l⟩⟩⟩⟩⟩ <;> first | exact h.elim | skip
  have:=I h.2
  simp only [aQ]
  omega
def dw (bJ:Nat)(m:List Fm): aq:=xs fun cs:List V=>star [pt bJ (.cells (m.length*5) cs false),qn cs m]
abbrev C0 (v:V)(m:List (Int×Int)): aq:=iN (fun v x=>.pu (v=.int .i64 x)) v m
abbrev Fh (v:V)(m:List (Int×(Nat×Bool))): aq:=iN (fun v x=>.pu (v=.agg [.int .u64 (x.1:Int),.bool x.2])) v m
def mW (p q bJ n:Nat)(wh di:V)(hand:Nat): List V:=[.ptr p 0,.ptr q 0,.sl bJ 0 n (.exact n),wh,di,.int .i64 (hand:Int)]
def dG (r p q:Nat)(π:Pl): aq:=xs fun bJ:Nat=>xs fun wh:V=>xs fun di:V =>
 star [pt r (.cells 6 (mW p q bJ π.ah.length wh di π.hand) false),dw bJ π.ah,C0 wh π.bg,Fh di π.bZ]
section
variable {P:Program} {h:H} {S:List aq} {X:aq} {r q p bJ:Nat} {v:V} {π:Pl} {m:List Fm}
theorem dY : Sat h (dG r p q π::S)↔∃bJ wh di,Sat h (pt r (.cells 6 (mW p q bJ π.ah.length wh di π.hand) false)::dw bJ π.ah::C0 wh π.bg::Fh di π.bZ::S):=by
 simp only [dG,kI,cS,gx,c5]
theorem iz : Sat h (dw bJ m::S)↔∃cs,Sat h (pt bJ (.cells (m.length*5) cs false)::qn cs m::S):=by
 simp only [dw,kI,cS,gx,c5]
theorem gJ {i:Nat}{f:Fm}(s:Sat h (dw bJ m::S))(hf:m[i]?=some f): ∃pre v post,pre.length=i*5∧(pre++(dP f v++post)).length=m.length*5 ∧
  Sat h (pt bJ (.cells (m.length*5) (pre++(dP f v++post)) false)::qn (pre++(dP f v++post)) m::.cE v f.b::S):=by
 obtain ⟨cs,s⟩:=iz.1 s
 obtain ⟨a,b,q1,q2,q3⟩:=s.at (k:=1) rfl
 obtain ⟨pre,v,post,e1,e2,e3,_⟩:=uQ q3 hf
 have hl:=ND q3
 subst e1
 refine ⟨pre,v,post,e2,hl,?_⟩
 have s1:Sat h (qn (pre++(dP f v++post)) m::pt bJ (.cells (m.length*5) (pre++(dP f v++post)) false)::S):=s.ae [1]
 have s2:=(s1.dup (bn.fm _ _)).jH (B:=.cE v f.b) fun a' b' h'=>by
  obtain ⟨TI,v',I,J,sq,Sq,_⟩:=uQ h' hf
  have:=zW J (by omega)
  obtain ⟨_,h5⟩:=this
  have h6:=eS (fun l=>l[1]?) h5
  simp [dP] at h6
  subst h6
  exact Sq
 exact s2.ae [2,1,0]
theorem eL {i:Nat}{f f':Fm}{v':V}{pre post:List V}{n:Nat}(s:Sat h (pt bJ (.cells n (pre++(dP f' v'++post)) false)::qn (pre++(dP f v++post)) m::.cE v' f'.b::S))(hn:n=m.length*5)(hf:m[i]?=some f)(hp:pre.length=i*5): Sat h (dw bJ (m.set i f')::S):=by
 subst hn
 have s1:Sat h (qn (pre++(dP f v++post)) m::.cE v' f'.b::pt bJ (.cells (m.length*5) (pre++(dP f' v'++post)) false)::S):=s.ae [1,1,0]
 have s2:=s1.two (C:=qn (pre++(dP f' v'++post)) (m.set i f')) (bn.fm _ _) (bn.cE _ _) fun a b h1 h2=>by
  obtain ⟨TI,v0,I,J,sq,Sq,Vc⟩:=uQ h1 hf
  obtain ⟨h3,h4⟩:=zW J (by omega)
  subst h3
  have h5:post=I:=by
   have:=zW h4 (by simp [dP])
   exact this.2
  subst h5
  exact Vc f' v' a b h2 (PM.le_refl _) (PM.le_refl _)
 refine iz.2 ⟨pre++(dP f' v'++post),?_⟩
 rw [b7]
 exact s2.ae [1]
theorem gp {pre row post:List V}{a j:Nat}{x:V}(hp:pre.length=a)(I:nth row j=some x): nth (pre++(row++post)) (a+j)=some x:=by
 rw [fh] at I ⊢
 have J:=(List.getElem?_eq_some_iff.1 I).1
 rw [kT (by omega),show a+j-pre.length=j by omega,iS J,I]
theorem NF {pre row post:List V}{a j:Nat}{x:V}(J:pre.length=a)(I:j<row.length): (pre++(row++post)).set (a+j) x=pre++(row.set j x++post):=by
 rw [y_ _ _ (by omega),show a+j-pre.length=j by omega,List.set_append_left _ _ I]
theorem Sat.stM {t:TypeId}{k id n a j:Nat}{pre row post:List V}{x:V}(s:Sat h S)(hk:getA S k=some (pt id (.cells n (pre++(row++post)) false)))(hs:br P t=some 1)(hp:pre.length=a)(J:(pre++(row++post)).length=n)(hj:j<row.length)(hv:x.cells=[x])(I:storable x=true):
  ∃h₁,fM P h t (.ptr id (a+j)) x=some h₁∧Sat h₁ (setA S k (pt id (.cells n (pre++(row.set j x++post)) false))):=by
 have:=s.iw (P:=P) (t:=t) (off:=a+j) (v:=x) hk hs J (by rw [←J]; simp; omega) hv I
 rwa [NF hp hj] at this
theorem Sat.C1 {t:TypeId}{k id n a:Nat}{pre row row' post:List V}(s:Sat h S)(hk:getA S k=some (pt id (.cells n (pre++(row++post)) false)))(hs:br P t=some row'.length)(hp:pre.length=a)(J:(pre++(row++post)).length=n)(hr:row'.length=row.length)(I:row'.all storable=true):
  ∃h₁,fM P h t (.ptr id a) (.agg row')=some h₁∧Sat h₁ (setA S k (pt id (.cells n (pre++(row'++post)) false))):=by
 have:=s.US (P:=P) (t:=t) (off:=a) (l:=row') hk hs J (by rw [←J]; simp; omega) I
 have e:(pre++(row++post)).take a++(row'++(pre++(row++post)).drop (a+row'.length))=pre++(row'++post):=by
  rw [nh hp,vl,gh (by omega),c5,show a+row'.length-pre.length=row.length by omega,List.drop_left' rfl]
 rwa [e] at this
theorem Vd {t:TypeId}{k id n a:Nat}{pre row post:List V}(s:Sat h S)(J:getA S k=some (pt id (.cells n (pre++(row++post)) false)))(ht:b6 P t=some true)(hs:br P t=some row.length)(hp:pre.length=a)(I:(pre++(row++post)).length=n): loadV P h t (.ptr id a)=some (.agg row):=by
 rw [Sb ht hs (s.row J) I (by rw [←I]; simp; omega),List.drop_left' hp,nh rfl]
end
abbrev aF := Pl×LD
def pN (π:Pl)(n:Int): Nat:=match lookL n π.bZ with
 | some x=>x.1
 | none=>0
def outF (ε:aF)(i:Nat): Int×aF:=match ε.1.ah[i]? with
 | none=>(0,ε)
 | some f=>if f.aU<0∨f.changed=false then (0,ε) else if bP f.b=false then (4,ε) else
  if (bM ε.2 (cF f.b 4 8)).1≠0 then ((bM ε.2 (cF f.b 4 8)).1,(ε.1,(bM ε.2 (cF f.b 4 8)).2)) else
  if ((bM ε.2 (cF f.b 4 8)).2.2.cJ f.aU f.b).1≠0 then (((bM ε.2 (cF f.b 4 8)).2.2.cJ f.aU f.b).1,(ε.1,((bM ε.2 (cF f.b 4 8)).2.1,((bM ε.2 (cF f.b 4 8)).2.2.cJ f.aU f.b).2))) else
  (0,({ ε.1 with ah:=ε.1.ah.set i { f with changed:=false },bZ:=cY f.aU (pN ε.1 f.aU,false) ε.1.bZ },((bM ε.2 (cF f.b 4 8)).2.1,((bM ε.2 (cF f.b 4 8)).2.2.cJ f.aU f.b).2)))
section
variable {told:cK} {h:H} {S:List aq} {X:aq} {r k q p bJ:Nat} {v x wh di:V} {l b:List Nat} {π:Pl} {μ:Lg} {δ:Dk}
theorem PU (hT:W told){i:Nat}{f:Fm}(s:Sat h (pt r (.cells 6 (mW p q bJ π.ah.length wh di π.hand) false)::dw bJ π.ah::C0 wh π.bg::Fh di π.bZ::bW q p μ::bp p δ::S))(hi:π.ah[i]?=some f)(K0:μ.Ok)(CZ:δ.Ok)(sr:f.b.length<1073741824)(hw:δ.waiting.length≤268435456):
  Call ⟨Tryz.prog,told⟩ 123 [.ptr r 0,.ptr bJ (i*5)] h fun v h'=>v=.int .i64 (outF (π,μ,δ) i).1 ∧
   Sat h' (pt r (.cells 6 (mW p q bJ (outF (π,μ,δ) i).2.1.ah.length wh di (outF (π,μ,δ) i).2.1.hand) false)::dw bJ (outF (π,μ,δ) i).2.1.ah::C0 wh (outF (π,μ,δ) i).2.1.bg::Fh di (outF (π,μ,δ) i).2.1.bZ::bW q p (outF (π,μ,δ) i).2.2.1::bp p (outF (π,μ,δ) i).2.2.2::S):=by
 have Sr:=s
 obtain ⟨pre,fv,post,I,hlen,s⟩:=gJ (s.ae [1]) hi
 have Ss:=(s.aH (k:=2) rfl (dZ _ _))
 refine Call.of_wp (hT.free _ rfl) Tryz.func123 rfl rfl (zK 9 rfl (zf rfl (mq _ _) (zl rfl (s.ld (k:=0) rfl eM (gp I rfl)) ?_)))
 refine zd rfl (ag rfl rfl bf) ?_ ?_
 ·intro hq
  have hq:f.aU<0:=by simpa using hq
  have he:outF (π,μ,δ) i=(0,(π,μ,δ)):=by simp only [outF,hi]; rw [ax (.inl hq)]
  rw [he]
  exact zk 13 rfl (WP.ret ⟨aa,_,rfl,rfl,Sr⟩)
 ·intro hq
  have hq:¬ f.aU<0:=by simpa using hq
  refine zk 3 rfl (zf rfl (AA _ _) (zl rfl (s.ld (k:=0) rfl m6 (gp I rfl)) ?_))
  have CE:f.changed=false∨f.changed=true:=by cases f.changed <;> simp
  rcases CE with hc | hc
  ·have he:outF (π,μ,δ) i=(0,(π,μ,δ)):=by simp only [outF,hi]; rw [ax (.inr hc)]
   rw [he]
   refine zt rfl (eY rfl rfl) (by rw [hc]; rfl) ?_
   exact zk 7 rfl (WP.ret ⟨aa,_,rfl,rfl,Sr⟩)
  ·have he:outF (π,μ,δ) i=(if bP f.b=false then (4,(π,μ,δ)) else
    if (bM (μ,δ) (cF f.b 4 8)).1≠0 then ((bM (μ,δ) (cF f.b 4 8)).1,(π,(bM (μ,δ) (cF f.b 4 8)).2)) else
    if ((bM (μ,δ) (cF f.b 4 8)).2.2.cJ f.aU f.b).1≠0 then (((bM (μ,δ) (cF f.b 4 8)).2.2.cJ f.aU f.b).1,(π,((bM (μ,δ) (cF f.b 4 8)).2.1,((bM (μ,δ) (cF f.b 4 8)).2.2.cJ f.aU f.b).2))) else
    (0,({ π with ah:=π.ah.set i { f with changed:=false },bZ:=cY f.aU (pN π f.aU,false) π.bZ },((bM (μ,δ) (cF f.b 4 8)).2.1,((bM (μ,δ) (cF f.b 4 8)).2.2.cJ f.aU f.b).2)))):=by
    simp only [outF,hi]; rw [ai (by rw [hc]; simp; omega)]
   rw [he]
   refine zh rfl (eY rfl rfl) (by rw [hc]; rfl) ?_
   refine zk 8 rfl (zf rfl (vQ _ _) (zl rfl (s.ld (k:=0) rfl bK (gp I rfl)) (zc rfl (vX hT (s.ae [2]) (dZ _ _) (by omega)) ?_)))
   rintro w h ⟨s,(⟨hg,rfl⟩ | ⟨hg,rfl⟩)⟩
   ·dsimp only [bringA,getA,aZ] at s
    rw [ai (by rw [hg]; decide)]
    have K2:(bM (μ,δ) (cF f.b 4 8)).2.2.Ok:=oQ CZ
    have PV:(bM (μ,δ) (cF f.b 4 8)).2.2.waiting.length≤268435456:=by rw [mV]; exact hw
    have J:=NC (n:=cF f.b 4 8) hT (s.ae [6,6]) K0 CZ.bL
    generalize bM (μ,δ) (cF f.b 4 8)=x at J K2 PV ⊢
    obtain ⟨xe,xl,xd⟩:=x
    dsimp only at J K2 PV ⊢
    refine zk 16 rfl (zh rfl (ag rfl rfl aL) (rfl) (zk 8 rfl (zf rfl (Ni _ _) (zl rfl (s.ld (k:=3) rfl KG rfl) (zm rfl (zc rfl (J) ?_))))))
    rintro w h ⟨rfl,s⟩
    refine zk 5 rfl ?_
    by_cases hx:xe=0
    ·subst hx
     rw [ai (by decide)]
     refine zh rfl (ag rfl rfl aL) (rfl) ?_
     have CD:=fun (s:Sat h (bp p xd::.cE fv f.b::bW q p xl::pt bJ (.cells (π.ah.length*5) (pre++(dP f fv++post)) false)::qn (pre++(dP f fv++post)) π.ah::pt r (.cells 6 (mW p q bJ π.ah.length wh di π.hand) false)::C0 wh π.bg::Fh di π.bZ::S))=>NA (n:=f.aU) hT s (dZ fv f.b) sr K2.bL PV
     generalize xd.cJ f.aU f.b=y at CD ⊢
     obtain ⟨ye,yd⟩:=y
     dsimp only at CD ⊢
     have s:=s.ae [1,1,0]
     refine zk 5 rfl (WP.drawn [ak,ak,ak,ak,ak,ak,ak,ak,ak,ak,ak,ak,ak,ak] rfl (by kernel_rfl) (by kernel_rfl) ?_)
     refine zM rfl (zN rfl (zF rfl (vP _ _) (zL rfl (s.ld (k:=5) rfl rf rfl) (zM rfl (zN rfl (zF rfl (mq _ _) (zL rfl (s.ld (k:=3) rfl eM (gp I rfl)) (zM rfl (zN rfl (zF rfl (vQ _ _) (zL rfl (s.ld (k:=3) rfl bK (gp I rfl)) (aB.any rfl rfl rfl rfl (OpR.call rfl rfl rfl rfl (CD s)) ?_))))))))))))
     rintro w h ⟨rfl,s⟩
     refine zA rfl ?_
     refine aB.nil ⟨⟨aa,aa,aa,aa,aa,aa,aa,aa,aa,aa,aa,aa,aa,aa,aa⟩,?_⟩
     refine zK 3 rfl ?_
     by_cases hy:ye=0
     ·subst hy
      rw [ai (by decide)]
      refine zh rfl (ag rfl rfl aL) (rfl) (zk 7 rfl (zf rfl (AA _ _) (zS rfl (s.stM (k:=3) (j:=4) rfl wG I hlen (by simp [dP]) rfl rfl) ?_)))
      intro h s
      have e5:(dP f fv).set 4 (.bool false)=dP { f with changed:=false } fv:=rfl
      rw [e5] at s
      have s:=s.ae [7,3,4]
      refine zk 2 rfl (WP.drawn [ak,ak,ak,ak,ak,ak,ak,ak,ak,ak,ak,ak,ak,ak,ak,ak,ak,ak,ak,ak] rfl (by kernel_rfl) (by kernel_rfl) ?_)
      refine zM rfl (zN rfl (zF rfl (pM _ _) (zL rfl (s.ld (k:=2) rfl vO rfl) (zM rfl (zN rfl (zF rfl (mq _ _) (zL rfl (s.ld (k:=1) rfl eM (gp I rfl)) (zM rfl (zN rfl (zF rfl (pM _ _) (zL rfl (s.ld (k:=2) rfl vO rfl) (zM rfl (zN rfl (zF rfl (mq _ _) (zL rfl (s.ld (k:=1) rfl eM (gp I rfl)) ?_)))))))))))))))
      have GR:∃b,dK Tryz.prog h 187 di (.int .i64 f.aU) false=some (.agg [.int .u64 (pN π f.aU:Nat),.bool b]):=by
       rcases mu (f:=fun v (x:Nat×Bool)=>.pu (v=.agg [.int .u64 (x.1:Int),.bool x.2])) (n:=f.aU) (fun _ _=>bn.pu _) s sk bN vS with ⟨g1,_,g3⟩ | ⟨u,x,g1,_,g3,s'⟩
       ·exact ⟨false,by rw [g3]; simp only [pN,g1]; rfl⟩
       ·obtain ⟨rfl,_⟩:=qa.1 s'
        exact ⟨x.2,by rw [g3]; simp only [pN,g1]⟩
      obtain ⟨lb,GR⟩:=GR
      refine zO rfl (iK rfl rfl GR) (zO rfl (QN rfl (QS (Nj _) rfl)) (zO rfl (cX rfl (by rw [Q_]; rfl)) ?_))
      refine aB.jG rfl rfl rfl (OpR.mapUpdate rfl rfl rfl rfl (lT (f:=fun v (x:Nat×Bool)=>.pu (v=.agg [.int .u64 (x.1:Int),.bool x.2])) (x:=(pN π f.aU,false)) (fun _ _=>bn.pu _) (s.iP rfl) sk bN)) ?_
      intro w h s
      refine aB.nil ⟨⟨aa,aa,aa,aa,aa,aa,aa,aa,aa,aa,aa,aa,aa,aa,aa,aa,aa,aa,aa,aa,aa⟩,?_⟩
      refine zK 4 rfl (WP.ret ⟨aa,_,rfl,?_⟩)
      refine ⟨rfl,?_⟩
      have s:=eL (i:=i) (f':={ f with changed:=false }) (s.ae [1,5,3]) rfl hi I
      have e6:(π.ah.set i { f with changed:=false }).length=π.ah.length:=b7
      rw [e6]
      exact s.ae [2,0,3,0,1,0]
     ·rw [ax hy]
      refine zt rfl (ag rfl rfl aL) (by simp; exact hy) ?_
      refine zk 7 rfl (WP.ret ⟨aa,_,rfl,?_⟩)
      refine ⟨rfl,?_⟩
      have s:=iz.2 ⟨_,s.ae [3,3]⟩
      exact (s.del 2).ae [3,0,2,2,1,0]
    ·rw [ax hx]
     refine zt rfl (ag rfl rfl aL) (by simp; exact hx) ?_
     refine zk 7 rfl (WP.ret ⟨aa,_,rfl,?_⟩)
     refine ⟨rfl,?_⟩
     have s:=iz.2 ⟨_,s.ae [3,3]⟩
     exact (s.del 3).ae [3,0,2,2,0,0]
   ·dsimp only [bringA,getA,aZ] at s
    rw [ax hg]
    refine zk 16 rfl (zt rfl (ag rfl rfl aL) (rfl) (zk 7 rfl (WP.ret ⟨aa,_,rfl,?_⟩)))
    refine ⟨rfl,?_⟩
    have s:=iz.2 ⟨_,s.ae [1,1]⟩
    exact (s.del 1).ae [1,0]
end
structure ew (π fb:Pl): Prop where
 bg:fb.bg=π.bg
 bZ:fb.bZ=π.bZ
 len:fb.ah.length=π.ah.length
 get:∀(i:Nat) (f:Fm),π.ah[i]?=some f→∃t,fb.ah[i]?=some { f with dD:=t }
theorem ew.refl (π:Pl): ew π π:=⟨rfl,rfl,rfl,fun _ f h=>⟨f.dD,h⟩⟩
theorem ew.trans {π J I:Pl}(a:ew π J)(b:ew J I): ew π I:=by
 refine ⟨b.bg.trans a.bg,b.bZ.trans a.bZ,b.len.trans a.len,fun i f h => ?_⟩
 obtain ⟨t,ht⟩:=a.get i f h
 obtain ⟨t',Ve⟩:=b.get i _ ht
 exact ⟨t',Ve⟩
theorem ew.hand {π:Pl}{n:Nat}: ew π { π with hand:=n }:=⟨rfl,rfl,rfl,fun _ f h=>⟨f.dD,h⟩⟩
theorem ew.NG {π:Pl}{i:Nat}{f:Fm}(hi:π.ah[i]?=some f): ew π { π with ah:=π.ah.set i { f with dD:=false } }:=by
 refine ⟨rfl,rfl,b7,fun j g I => ?_⟩
 by_cases h:i=j
 ·subst h
  rw [hi] at I
  have:=bG I
  subst this
  have J:=(List.getElem?_eq_some_iff.1 hi).1
  exact ⟨false,by simp [vk,J]⟩
 ·exact ⟨g.dD,by simp only [vk,ai h]; exact I⟩
theorem K3 {P:Program}{h:H}{t:TypeId}{x y:Operand}{a b:Nat}(I:0<b): binV P h .rem t x y (.int .i64 (a:Int)) (.int .i64 (b:Int))=some (.int .i64 ((a%b:Nat):Int)):=by
 simp only [binV,ikBeq,af,intV]
 have:intBeq (b:Int) 0=false:=by rw [mQ]; simp; omega
 rw [this,ay,Int.tmod_eq_emod_of_nonneg (by omega)]
 rfl
section
variable {told:cK} {h:H} {S:List aq} {X:aq} {r k q p bJ:Nat} {v x wh di:V} {l b:List Nat} {π:Pl} {m:List Fm}
theorem kM {i n:Nat}(hi:i<n): indexAddrV Tryz.prog 185 (.sl bJ 0 n (.exact n)) (.int .i64 (i:Int))=some (.ptr bJ (i*5)):=by
 rw [Q6,show (decide ((0:Int)≤(i:Int))&&decide ((i:Int)<(n:Int)))=true by simp; omega,af]
 simp
theorem D7 (I:W told){f:Fm}(s:Sat h S)(J:storable v=true): Call ⟨Tryz.prog,told⟩ 169 [.agg (dP f v)] h fun w h'=>w=.bool (decide (f.pins=0))∧Sat h' S:=by
 refine Call.of_wp (I.free _ rfl) Tryz.func169 rfl rfl (zg rfl (az.cr s rfl rfl rfl (fC rfl (by simp only [V.cells,dP,iB,jB,J]; rfl)) ?_))
 intro p1 h s
 dsimp only [V.cells,dP] at s
 exact zk 4 rfl (zf rfl (nE _ _) (zl rfl (s.ld (k:=0) rfl eM rfl) (zb rfl gC (zk 2 rfl (WP.ret ⟨aa,_,rfl,rfl,s.drop⟩)))))
theorem K4 (hT:W told){f:Fm}(s:Sat h (dw bJ m::S))(h0:m[0]?=some f)(hp:f.pins=0): Call ⟨Tryz.prog,told⟩ 190 [.sl bJ 0 m.length (.exact m.length),.fn (.func 169) [] []] h fun w h'=>w=.int .i64 0∧Sat h' (dw bJ m::S):=by
 have hl:=(List.getElem?_eq_some_iff.1 h0).1
 obtain ⟨pre,fv,post,I,hlen,s⟩:=gJ s h0
 have J:=(s.aH (k:=2) rfl (dZ _ _)).cells.2
 refine Call.of_wp (hT.free _ rfl) Tryz.func190 rfl rfl (zK 8 rfl (zo rfl (aV rfl rfl rfl (nF rfl uP)) (zk 2 rfl (WP.block (WP.loop (zg rfl (zt rfl (ag rfl rfl bf) (by simp; omega) ?_)))))))
 refine zk 5 rfl (WP.block (zK 10 rfl (zo rfl (dm rfl rfl (kM (i:=0) hl)) (zl rfl (Vd s (k:=0) rfl Q8 yu I hlen) (zc rfl (D7 hT s J) ?_)))))
 rintro w h ⟨rfl,s⟩
 rw [dr hp]
 exact zk 7 rfl (WP.ret ⟨aa,_,rfl,rfl,(iz.2 ⟨_,s⟩).del 1⟩)
theorem D8 (I:W told){f:Fm}(s:Sat h (dw bJ m::S))(J:m[0]?=some f)(hp:f.pins=0): Call ⟨Tryz.prog,told⟩ 168 [.sl bJ 0 m.length (.exact m.length),.fn (.func 169) [] []] h fun w h'=>w=.bool true∧Sat h' (dw bJ m::S):=by
 refine Call.of_wp (I.free _ rfl) Tryz.func168 rfl rfl (zK 8 rfl (zc rfl (K4 I s J hp) ?_))
 rintro w h ⟨rfl,s⟩
 refine zt rfl (ag rfl rfl uw) (by decide) ?_
 exact zk 2 rfl (WP.ret ⟨aa,_,rfl,rfl,s⟩)
noncomputable def Vf : Code:=gr [1,0,0,1,0,0] ((Tryz.f122.body).getD .skip)
noncomputable def PW : Code:=gr [1,0,1,1,1,0,0] ((Tryz.f122.body).getD .skip)
theorem D9 {wh di:V}{hand:Nat}: ∀(j i:Nat) (h:H) (E:List (Nat×V)) (Q:Ex→List (Nat×V)→H→Prop),i+j=m.length→m.length<4294967296 →
  Sat h (pt r (.cells 6 (mW p q bJ m.length wh di hand) false)::dw bJ m::S)→Has E [(0,.ptr r 0),(10,.int .i64 m.length),(11,.int .i64 i)] →
  (∀E' (i:Nat) (f:Fm),m[i]?=some f→f.aU<0→look E' 2=some (.int .i64 (i:Int))→Q .ret E' h) →
  (∀E',Has E' [(0,.ptr r 0)]→Q (.exit 0) E' h)→WP ⟨Tryz.prog,told⟩ 70 (.loop Vf) E h Q:=by
 intro j
 induction j with
 | zero =>
  intro i h E Q hi hm s hE hr hx
  refine WP.loop (WP.has hE (zg rfl (zh rfl (ag rfl rfl bf) (by simp; omega) ?_)))
  exact zk 3 rfl (WP.exit (hx _ ⟨rfl,aa⟩))
 | succ j ih =>
  intro i h E Q hi hm s hE hr hx
  have hc:m[i]?=some (m[i]'(by omega)):=aY _
  generalize (m[i]'(by omega))=f at hc
  obtain ⟨pre,fv,post,I,hlen,s'⟩:=gJ (s.ae [1]) hc
  refine WP.loop (WP.has hE (zg rfl (zt rfl (ag rfl rfl bf) (by simp; omega) ?_)))
  refine zk 5 rfl (WP.block (zK 9 rfl (zf rfl (jJ _ _) (zl rfl (s.ld (k:=0) rfl mO rfl) (zm rfl (zo rfl (dm rfl rfl (kM (i:=i) (by omega))) ?_))))))
  refine zf rfl (mq _ _) (zl rfl (s'.ld (k:=0) rfl eM (gp I rfl)) ?_)
  refine zd rfl (ag rfl rfl bf) ?_ ?_
  ·intro J
   have J:f.aU<0:=by simpa using J
   exact zk 7 rfl (WP.ret (hr _ i f hc J rfl))
  ·intro J
   refine zv (zj rfl (WP.skip (zr rfl (zb rfl (by exact bB (aC (by omega) (by omega))) ?_))))
   refine zm rfl (zv ?_)
   exact ih (i+1) h _ Q (by omega) hm s ⟨rfl,rfl,rfl,aa⟩ hr hx
def nH (m:List Fm): Nat:=(m.filter fun f=>f.dD).length
theorem wK {f:Fm}: ∀ {m:List Fm} {i:Nat},m[i]?=some f→f.dD=true→nH (m.set i { f with dD:=false })+1=nH m:=by
 intro m
 induction m with
 | nil=>intro i h; simp at h
 | cons g m J =>
  intro i h I
  cases i with
  | zero=>simp at h; subst h; simp [nH,I]
  | succ i =>
   rw [j8] at h
   have:=J h I
   simp only [nH,zE,List.filter_cons] at this ⊢
   split <;> (try simp only [aQ]) <;> omega
theorem yM {wh di:V}{f:Fm}{h:H}{E:List (Nat×V)}{Q:Ex→List (Nat×V)→H→Prop}(hf:π.ah[π.hand]?=some f)(hm:π.ah.length<4294967296)(hp:f.pins=0)
 (s:Sat h (pt r (.cells 6 (mW p q bJ π.ah.length wh di π.hand) false)::dw bJ π.ah::S))(hE:Has E [(0,.ptr r 0)])
 (hr:f.dD=false→∀E' h',look E' 2=some (.int .i64 (π.hand:Int))→Sat h' (pt r (.cells 6 (mW p q bJ π.ah.length wh di ((π.hand+1)%π.ah.length)) false)::dw bJ π.ah::S)→Q .ret E' h')
 (hx:f.dD=true→∀E' h',Has E' [(0,.ptr r 0)]→Sat h' (pt r (.cells 6 (mW p q bJ (π.ah.set π.hand { f with dD:=false }).length wh di ((π.hand+1)%π.ah.length)) false)::dw bJ (π.ah.set π.hand { f with dD:=false })::S)→WP ⟨Tryz.prog,told⟩ 70 (.loop PW) E' h' Q):
  WP ⟨Tryz.prog,told⟩ 70 (.loop PW) E h Q:=by
 have hl:=(List.getElem?_eq_some_iff.1 hf).1
 refine WP.loop (WP.has hE (WP.block (zK 4 rfl (zf rfl (Ay _ _) (zl rfl (s.ld (k:=0) rfl eM rfl) (zk 6 rfl (zf rfl (jJ _ _) (zl rfl (s.ld (k:=0) rfl mO rfl) (zm rfl (zo rfl (dm rfl rfl (kM (i:=π.hand) hl)) (zk 3 rfl (WP.drawn [ak,ak,ak,ak,ak,ak,ak,ak,ak,ak,ak,ak,ak,ak,ak] rfl (by kernel_rfl) (by kernel_rfl) ?_))))))))))))
 refine zM rfl (zM rfl (zN rfl (zF rfl (Ay _ _) (zL rfl (s.ld (k:=0) rfl eM rfl) (zO rfl (ag rfl rfl (by exact bB (aC (by omega) (by omega)))) ?_)))))
 refine zM rfl (zN rfl (zF rfl (jJ _ _) (zL rfl (s.ld (k:=0) rfl mO rfl) (zO rfl (aV rfl rfl rfl (nF rfl uP)) (zO rfl (ag rfl rfl (K3 (a:=π.hand+1) (by omega))) ?_)))))
 refine zN rfl (zF rfl (Ay _ _) (aB.jG rfl rfl rfl (OpR.r7 rfl rfl rfl (s.iw (k:=0) rfl mh rfl (by decide) rfl rfl)) ?_))
 rintro v h ⟨rfl,s⟩
 have s:Sat h (pt r (.cells 6 (mW p q bJ π.ah.length wh di ((π.hand+1)%π.ah.length)) false)::dw bJ π.ah::S):=s
 refine aB.nil ⟨⟨aa,aa,aa,aa,aa,aa,aa,aa,aa,aa,aa,aa,aa,aa,aa,aa⟩,?_⟩
 obtain ⟨pre,fv,post,I,hlen,s⟩:=gJ (s.ae [1]) hf
 refine zw (WP.block (zK 4 rfl (zf rfl (nE _ _) (zl rfl (s.ld (k:=0) rfl eM (gp I rfl)) (zh rfl (ag rfl rfl fY) (by rw [hp]; decide) ?_)))))
 refine zk 7 rfl (zf rfl (Az _ _) (zl rfl (s.ld (k:=0) rfl m6 (gp I rfl)) (zk 2 rfl ?_)))
 have wL:f.dD=false∨f.dD=true:=by cases f.dD <;> simp
 rcases wL with J | J
 ·refine WP.Mb rfl (J) ?_
  refine zK 5 rfl (WP.ret (hr J _ _ rfl ?_))
  have s:=iz.2 ⟨_,s.ae [0,0]⟩
  exact (s.del 1).ae [1,0]
 ·skip
  refine WP.Gp rfl (J) (zK 3 rfl (zf rfl (Az _ _) (zS rfl (s.stM (k:=0) (j:=3) rfl wG I hlen (by simp [dP]) rfl rfl) ?_)))
  intro h s
  have e5:(dP f fv).set 3 (.bool false)=dP { f with dD:=false } fv:=rfl
  rw [e5] at s
  refine zv (WP.exit (hx J _ _ ⟨rfl,aa⟩ ?_))
  have s:=eL (i:=π.hand) (f':={ f with dD:=false }) s rfl hf I
  rw [b7]
  exact s.ae [1,0]
theorem D_ {wh di:V}: ∀(fuel:Nat) (π:Pl) (h:H) (E:List (Nat×V)) (Q:Ex→List (Nat×V)→H→Prop),nH π.ah≤fuel→π.hand<π.ah.length→π.ah.length<4294967296→(∀f∈π.ah,f.pins=0) →
  Sat h (pt r (.cells 6 (mW p q bJ π.ah.length wh di π.hand) false)::dw bJ π.ah::S)→Has E [(0,.ptr r 0)] →
  (∀E' h' (i:Nat) (I:Pl) (f:Fm),ew π I→I.ah[i]?=some f→I.hand<I.ah.length→look E' 2=some (.int .i64 (i:Int))→Sat h' (pt r (.cells 6 (mW p q bJ I.ah.length wh di I.hand) false)::dw bJ I.ah::S)→Q .ret E' h') →
  WP ⟨Tryz.prog,told⟩ 70 (.loop PW) E h Q:=by
 intro fuel
 induction fuel with
 | zero =>
  intro π h E Q ht hh hm hp s hE hr
  have J:π.ah[π.hand]?=some (π.ah[π.hand]'hh):=aY _
  generalize (π.ah[π.hand]'hh)=f at J
  refine yM J hm (hp f (bh J)) s hE (fun h1 E' h' h2 s' => ?_) (fun h1 => ?_)
  ·exact hr E' h' π.hand { π with hand:=(π.hand+1)%π.ah.length } f ew.hand J (vx _ (by omega)) h2 s'
  ·have:=wK J h1
   omega
 | succ fuel ih =>
  intro π h E Q ht hh hm hp s hE hr
  have J:π.ah[π.hand]?=some (π.ah[π.hand]'hh):=aY _
  generalize (π.ah[π.hand]'hh)=f at J
  refine yM J hm (hp f (bh J)) s hE (fun h1 E' h' h2 s' => ?_) (fun h1 E' h' kK s' => ?_)
  ·exact hr E' h' π.hand { π with hand:=(π.hand+1)%π.ah.length } f ew.hand J (vx _ (by omega)) h2 s'
  ·have kD:=wK J h1
   have hn:ew π { π with ah:=π.ah.set π.hand { f with dD:=false },hand:=(π.hand+1)%π.ah.length }:=(ew.NG J).trans ew.hand
   refine ih { π with ah:=π.ah.set π.hand { f with dD:=false },hand:=(π.hand+1)%π.ah.length } h' E' Q (by show nH (π.ah.set π.hand { f with dD:=false })≤fuel; omega) ?_ (by simp only [b7]; exact hm) (fun g hg => ?_) s' kK (fun E2 h2 i I g Vg hg PX hl s2=>hr E2 h2 i I g (hn.trans Vg) hg PX hl s2)
   ·simp only [b7]; exact vx _ (by omega)
   ·rcases kU hg with hg | rfl
    ·exact hp g hg
    ·exact hp f (bh J)
theorem K5 (hT:W told){wh di:V}(s:Sat h (pt r (.cells 6 (mW p q bJ π.ah.length wh di π.hand) false)::dw bJ π.ah::S))(hh:π.hand<π.ah.length)(hm:π.ah.length<4294967296)(hp:∀f∈π.ah,f.pins=0):
  Call ⟨Tryz.prog,told⟩ 122 [.ptr r 0] h fun v h'=>∃(i:Nat) (I:Pl) (f:Fm),v=.int .i64 (i:Int)∧ew π I∧I.ah[i]?=some f∧I.hand<I.ah.length ∧
   Sat h' (pt r (.cells 6 (mW p q bJ I.ah.length wh di I.hand) false)::dw bJ I.ah::S):=by
 have J:π.ah[0]?=some (π.ah[0]'(by omega)):=aY _
 generalize (π.ah[0]'(by omega))=f0 at J
 have s0:=s
 refine Call.of_wp (hT.free _ rfl) Tryz.func122 rfl rfl (zK 4 rfl (WP.scope (zK 5 rfl (zf rfl (jJ _ _) (zl rfl (s.ld (k:=0) rfl mO rfl) (zo rfl (aV rfl rfl rfl (nF rfl uP)) (zk 2 rfl (WP.block ?_))))))))
 refine D9 π.ah.length 0 _ _ _ (by omega) hm s ⟨rfl,rfl,rfl,aa⟩ (fun E' i f hf _ h2 => ?_) (fun E' kK => ?_)
 ·exact ⟨aa,_,Cw h2,i,π,f,rfl,ew.refl π,hf,hh,s⟩
 ·skip
  refine WP.has kK (zK 5 rfl (zf rfl (jJ _ _) (zl rfl (s.ld (k:=0) rfl mO rfl) (zc rfl (D8 hT (s.ae [1]) J (hp f0 (bh J))) ?_))))
  rintro w h ⟨rfl,s⟩
  refine zo rfl (eY rfl rfl) (zk 4 rfl (WP.label (WP.block ?_)))
  refine D_ (nH π.ah) π _ _ _ (aD _) hh hm hp (s.ae [1,0]) ⟨rfl,aa⟩ (fun E' h' i I f hn hf PX h2 s' => ?_)
  exact ⟨aa,_,Cw h2,i,I,f,rfl,hn,hf,PX,s'⟩
end
end Go.Proofs.YtefepnnfphdkpaaGreat.Am
