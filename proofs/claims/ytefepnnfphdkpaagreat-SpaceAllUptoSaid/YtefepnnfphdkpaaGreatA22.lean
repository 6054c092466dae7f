/- SpaceAll: a part of its proof; conditions: its statement's. -/
import Derived.Test.YtefepnnfphdkpaaGreatA21
set_option linter.defProp false
namespace Go.Proofs.YtefepnnfphdkpaaGreat.Am
open Go
def uK:=@Tryz.underlying185
def Dk.fO (δ:Dk): Int×Dk:=if δ.dead=true then (9,δ) else if δ.bJ=0 then (9,δ.die) else (0,{ δ.gi with dS:=δ.log.length })
def Dk.cH (δ:Dk)(n:Int)(b:List Nat): Int×Dk:=if δ.dead=true then (9,δ) else if ¬(0≤n∧n<δ.aT.length∧b.length=512) then (1,δ) else
 if δ.bJ=0 then (9,{ δ.die with Ar:=some (n.toNat,b) }) else (0,δ.wr n b)
def Dk.iC (δ:Dk)(b:List Nat): Int×Dk:=if δ.dead=true then (9,δ) else if δ.room<δ.log.length+b.length then (7,δ) else if δ.bJ=0 then (9,{ δ.die with tail:=b }) else (0,{ δ.gi with log:=δ.log++b })
def Dk.nM (δ:Dk)(n:Int): Int:=if δ.dead=true then 9 else if ¬(0≤n∧n<δ.aT.length) then 1 else 0
structure Dk.Ok (δ:Dk): Prop where
 bJ:δ.bJ<4294967296
 len:δ.log.length≤16777216
 room:δ.room≤16777216
 now:∀e∈δ.now,e.2.length=512
 aT:∀(i:Nat) (b:List Nat),δ.aT[i]?=some (some b)→b.length=512
 dS:δ.dS≤δ.log.length
 many:δ.aT.length≤65536
theorem Dk.Ok.gi {δ:Dk}(h:δ.Ok): δ.gi.Ok:=⟨by have:=h.bJ; simp only [Dk.gi]; split <;> omega,h.len,h.room,h.now,h.aT,h.dS,h.many⟩
theorem Dk.Ok.die {δ:Dk}(h:δ.Ok): δ.die.Ok:=⟨h.bJ,h.len,h.room,h.now,h.aT,h.dS,h.many⟩
theorem Dk.Ok.fO {δ:Dk}(h:δ.Ok): δ.fO.2.Ok:=by
 unfold Dk.fO
 split
 ·exact h
 ·split
  ·exact h.die
  ·exact ⟨h.gi.bJ,h.len,h.room,h.now,h.aT,aE _,h.many⟩
theorem jK {α:Type}{n:Int}{x:α}: ∀ {l:List (Int×α)},lookL n l=some x→(n,x)∈l:=by
 intro l
 induction l with
 | nil=>intro h; cases h
 | cons e l I =>
  intro h
  simp only [lookL] at h
  by_cases he:e.1=n
  ·rw [aq he] at h
   have:=bH h
   obtain ⟨a,b⟩:=e
   simp only at he this
   subst he; subst this
   exact c9
  ·rw [ai he] at h; exact cJ _ (I h)
theorem Dk.Ok.at {δ:Dk}(I:δ.Ok)(n:Int): (δ.at n).length=512:=by
 unfold Dk.at
 cases J:lookL n δ.now with
 | some b=>exact I.now _ (jK J)
 | none =>
  cases h2:δ.aT[n.toNat]? with
  | none=>exact c8
  | some o =>
   cases o with
   | none=>exact c8
   | some b=>exact I.aT _ _ h2
section
variable {told:cX} {h:H} {S:List au} {X:au} {k q p:Nat} {v x:V} {l b:List Nat} {μ:Lg} {δ:Dk}
theorem Ng (hT:W told){n:Int}(s:Sat h (bj p δ::X::S))(hX:cN X (cQ x b))(hb:b.length<1073741824)(hf:δ.bJ<4294967296)(hw:δ.waiting.length≤268435456):
  Call ⟨Tryz.prog,told⟩ 138 [.ptr p 0,.int .i64 n,x] h fun v h'=>v=.int .i64 (δ.cH n b).1∧Sat h' (bj p (δ.cH n b).2::X::S):=by
 refine (Iu hT s hX hb hf hw).mono fun v h' hr => ?_
 unfold Dk.cH
 rcases hr with ⟨I,rfl,s⟩ | ⟨I,J,rfl,s⟩ | ⟨I,h1,h2,h3,J,rfl,s⟩ | ⟨I,h1,h2,h3,J,rfl,s⟩
 ·rw [aq I]; exact ⟨rfl,s⟩
 ·rw [ai (by rw [I]; decide),aq J]; exact ⟨rfl,s⟩
 ·rw [ai (by rw [I]; decide),ai (by simp [h1,h2,h3]),aq J]; exact ⟨rfl,s⟩
 ·rw [ai (by rw [I]; decide),ai (by simp [h1,h2,h3]),ai J]; exact ⟨rfl,s⟩
theorem IM (hT:W told){n:Int}(s:Sat h (bj p δ::S))(J:δ.Ok): Call ⟨Tryz.prog,told⟩ 124 [.ptr p 0,.int .i64 n] h fun v h' =>
  (δ.nM n≠0∧v=.aX [.bq,.int .i64 (δ.nM n)]∧Sat h' (bj p δ::S))∨(δ.nM n=0∧∃u,v=.aX [u,.int .i64 0]∧Sat h' (bg u (δ.at n)::bj p δ::S)):=by
 refine (KB hT s (J.at n)).mono fun v h' hr => ?_
 unfold Dk.nM
 rcases hr with ⟨I,rfl,s⟩ | ⟨I,h0,rfl,s⟩ | ⟨I,h1,h2,u,rfl,s⟩
 ·rw [aq I]; exact .inl ⟨by decide,rfl,s⟩
 ·rw [ai (by rw [I]; decide),aq h0]; exact .inl ⟨by decide,rfl,s⟩
 ·rw [ai (by rw [I]; decide),ai (by simp [h1,h2])]; exact .inr ⟨rfl,u,rfl,s⟩
end
abbrev LD := Lg×Dk
def bL (x:LD)(n:Nat): Int×LD:=if n<x.1.base+x.1.forced then (0,x) else if x.2.fO.1≠0 then (x.2.fO.1,(x.1,x.2.fO.2)) else (0,({ x.1 with forced:=x.1.b.length },x.2.fO.2))
def c_ (μ:Lg)(kd:Int)(tx pv nx:Nat)(data:List Nat)(bQ:List cY): List Nat:=oh (μ.base+μ.b.length) (ei kd tx pv nx data bQ)
def aZ (x:LD)(kd:Int)(tx pv nx:Nat)(data:List Nat)(bQ:List cY): (Nat×Int)×LD :=
 if dM kd bQ=false then ((0,1),x) else if 1048576<(ei kd tx pv nx data bQ).length then ((0,2),x) else
 if (x.2.iC (c_ x.1 kd tx pv nx data bQ)).1≠0 then ((0,(x.2.iC (c_ x.1 kd tx pv nx data bQ)).1),(x.1,(x.2.iC (c_ x.1 kd tx pv nx data bQ)).2)) else
 ((x.1.base+x.1.b.length,0),(x.1.app (c_ x.1 kd tx pv nx data bQ),(x.2.iC (c_ x.1 kd tx pv nx data bQ)).2))
theorem DT {δ:Dk}: δ.fO.2.waiting=δ.waiting:=by
 unfold Dk.fO
 split
 ·rfl
 ·split <;> rfl
theorem mT {x:LD}{n:Nat}: (bL x n).2.2.waiting=x.2.waiting:=by
 unfold bL
 split
 ·rfl
 ·split <;> exact DT
theorem Dk.Ok.cH {δ:Dk}{n:Int}{b:List Nat}(h:δ.Ok): (δ.cH n b).2.Ok:=by
 unfold Dk.cH
 split
 ·exact h
 ·split
  ·exact h
  ·rename_i hn
   split
   ·exact ⟨h.bJ,h.len,h.room,h.now,h.aT,h.dS,h.many⟩
   ·refine ⟨h.gi.bJ,h.len,h.room,fun e he => ?_,h.aT,h.dS,h.many⟩
    have J:b.length=512:=by
     by_cases q:0≤n∧n<δ.aT.length∧b.length=512
     ·exact q.2.2
     ·exact absurd q hn
    have:∀l:List (Int×List Nat),(∀e∈l,e.2.length=512)→∀e∈dr n b l,e.2.length=512:=by
     intro l
     induction l with
     | nil=>intro _ e he; simp [dr] at he; subst he; exact J
     | cons x l ih =>
      intro I e he
      simp only [dr] at he
      split at he
      ·rcases List.mem_cons.1 he with rfl | he
       ·exact J
       ·exact I e (cJ _ he)
      ·rcases List.mem_cons.1 he with rfl | he
       ·exact I _ c9
       ·exact ih (fun e he=>I e (cJ _ he)) e he
    exact this δ.now h.now e he
theorem oN {x:LD}{n:Nat}(h:x.2.Ok): (bL x n).2.2.Ok:=by
 unfold bL
 split
 ·exact h
 ·split
  ·exact h.fO
  ·exact h.fO
theorem Lg.Ok.Nh {μ:Lg}(h:μ.Ok): ({ μ with forced:=μ.b.length }:Lg).Ok:=⟨h.size,h.many,h.low,h.Av,aE _,h.len,h.check⟩
theorem wA {x:LD}{n:Nat}(h:x.1.Ok): (bL x n).2.1.Ok:=by
 unfold bL
 split
 ·exact h
 ·split
  ·exact h
  ·exact h.Nh
section
variable {told:cX} {h:H} {S:List au} {X:au} {k q p:Nat} {v x:V} {l b:List Nat} {μ:Lg} {δ:Dk}
theorem Ni (hT:W told){n:Nat}(s:Sat h (bU q p μ::bj p δ::S))(KJ:μ.Ok)(hf:δ.bJ<4294967296): Call ⟨Tryz.prog,told⟩ 79 [.ptr q 0,.int .u64 (n:Int)] h fun v h' =>
  v=.int .i64 (bL (μ,δ) n).1∧Sat h' (bU q p (bL (μ,δ) n).2.1::bj p (bL (μ,δ) n).2.2::S):=by
 refine (ID hT s KJ hf).mono fun v h' hr => ?_
 unfold bL Dk.fO
 rcases hr with ⟨I,rfl,s⟩ | ⟨I,J,rfl,s⟩ | ⟨I,J,h0,rfl,s⟩ | ⟨I,J,h0,rfl,s⟩
 ·rw [aq I]; exact ⟨rfl,s⟩
 ·simp only [ai (Nat.not_lt.2 I),aq J,ne_eq,aq (by decide:¬ ((9:Int)=0))]; exact ⟨aa,s⟩
 ·simp only [ai (Nat.not_lt.2 I),ai (by rw [J]; decide:¬ δ.dead=true),aq h0,ne_eq,aq (by decide:¬ ((9:Int)=0))]; exact ⟨aa,s⟩
 ·simp only [ai (Nat.not_lt.2 I),ai (by rw [J]; decide:¬ δ.dead=true),ai h0,ne_eq,not_true,bx]; exact ⟨aa,s⟩
theorem KK (hT:W told){kd:Int}{tx pv nx:Nat}{dt ch:V}{cs:List V}{data:List Nat}{bQ:List cY}(s:Sat h (bU q p μ::bj p δ::X::.arr 4 ch cs::cZ cs bQ::S))(hX:cN X (cQ dt data))(eU:yB tx pv nx data bQ)(KJ:μ.Ok)(CH:δ.Ok):
  Call ⟨Tryz.prog,told⟩ 59 [.ptr q 0,.agg (mS kd tx pv nx dt ch)] h fun r h' =>
  r=.aX [.int .u64 ((aZ (μ,δ) kd tx pv nx data bQ).1.1:Nat),.int .i64 (aZ (μ,δ) kd tx pv nx data bQ).1.2] ∧
  Sat h' (bU q p (aZ (μ,δ) kd tx pv nx data bQ).2.1::bj p (aZ (μ,δ) kd tx pv nx data bQ).2.2::X::.arr 4 ch cs::cZ cs bQ::S):=by
 refine (Gw hT s hX eU KJ CH.bJ CH.len CH.room).mono fun v h' hr => ?_
 unfold aZ Dk.iC c_
 rcases hr with ⟨e,rfl,(⟨J,rfl⟩ | ⟨J,hb,rfl⟩ | ⟨J,hb,hd,rfl⟩ | ⟨J,hb,hd,Mi,rfl⟩),s⟩ | ⟨J,hb,hd,I,h0,rfl,s⟩ | ⟨J,hb,hd,I,h0,rfl,s⟩
 ·rw [aq J]; exact ⟨rfl,s⟩
 ·rw [ai (by rw [J]; decide),aq hb]; exact ⟨rfl,s⟩
 ·simp only [ai (by rw [J]; decide:¬ dM kd bQ=false),ai (Nat.not_lt.2 hb),aq hd,ne_eq,aq (by decide:¬ ((9:Int)=0))]; exact ⟨rfl,s⟩
 ·simp only [ai (by rw [J]; decide:¬ dM kd bQ=false),ai (Nat.not_lt.2 hb),ai (by rw [hd]; decide:¬ δ.dead=true),aq Mi,ne_eq,aq (by decide:¬ ((7:Int)=0))]; exact ⟨rfl,s⟩
 ·simp only [ai (by rw [J]; decide:¬ dM kd bQ=false),ai (Nat.not_lt.2 hb),ai (by rw [hd]; decide:¬ δ.dead=true),ai (Nat.not_lt.2 I),aq h0,ne_eq,aq (by decide:¬ ((9:Int)=0))]; exact ⟨rfl,s⟩
 ·simp only [ai (by rw [J]; decide:¬ dM kd bQ=false),ai (Nat.not_lt.2 hb),ai (by rw [hd]; decide:¬ δ.dead=true),ai (Nat.not_lt.2 I),ai h0,ne_eq,not_true,bx]; exact ⟨aa,s⟩
end
structure Fm where
 aS:Int
 b:List Nat
 pins:Int
 dz:Bool
 changed:Bool
structure Pl where
 ah:List Fm
 aY:List (Int×Int)
 bV:List (Int×(Nat×Bool))
 hand:Nat
def dN (f:Fm)(v:V): List V:=[.int .i64 f.aS,v,.int .i64 f.pins,.bool f.dz,.bool f.changed]
def qh : List V→List Fm→au
 | [],[]=>.pu True
 | a::v::c::d::e::l,x::m=>.an (.an (.pu (a=.int .i64 x.aS∧c=.int .i64 x.pins∧d=.bool x.dz∧e=.bool x.changed)) (.cr v x.b)) (qh l m)
 | _,_=>.pu False
theorem a_.fm : ∀(m:List Fm) (l:List V),a_ (qh l m):=by
 intro m
 induction m with
 | nil=>intro l; rcases l with _ | ⟨a,_ | ⟨b,_ | ⟨c,_ | ⟨d,_ | ⟨e,l⟩⟩⟩⟩⟩ <;> exact a_.pu _
 | cons x m I=>intro l; rcases l with _ | ⟨a,_ | ⟨b,_ | ⟨c,_ | ⟨d,_ | ⟨e,l⟩⟩⟩⟩⟩ <;> first | exact a_.pu _ | exact a_.an (a_.an (a_.pu _) (a_.cr _ _)) (I l)
theorem uL {a b:PM}: ∀ {m:List Fm} {l:List V} {i:Nat} {f:Fm},(qh l m).p a b→m[i]?=some f→∃pre v post,l=pre++(dN f v++post)∧pre.length=i*5∧(au.cr v f.b).p a b ∧
  (∀(f':Fm) (v':V) (I J:PM),(au.cr v' f'.b).p I J→PM.le a I→PM.le b J→(qh (pre++(dN f' v'++post)) (m.set i f')).p I J):=by
 intro m
 induction m with
 | nil=>intro l i f h hc; simp at hc
 | cons x m ih =>
  intro l i f h hc
  rcases l with _ | ⟨p,_ | ⟨q,_ | ⟨w,_ | ⟨d,_ | ⟨e,l⟩⟩⟩⟩⟩ <;> first | exact h.elim | skip
  obtain ⟨⟨⟨h1,h2,h3,h4⟩,h5⟩,h6⟩:=h
  cases i with
  | zero =>
   simp at hc
   subst hc
   refine ⟨[],q,l,?_,rfl,h5,fun f' v' I J hv ha hb=>⟨⟨⟨rfl,rfl,rfl,rfl⟩,hv⟩,(qh l m).mono _ _ _ _ ha hb h6⟩⟩
   rw [h1,h2,h3,h4]; rfl
  | succ i =>
   simp at hc
   obtain ⟨pre,v,post,e1,e2,e3,e4⟩:=ih h6 hc
   refine ⟨p::q::w::d::e::pre,v,post,?_,?_,e3,fun f' v' I J hv ha hb=>⟨⟨⟨h1,h2,h3,h4⟩,au.mono _ _ _ _ _ ha hb h5⟩,e4 f' v' I J hv ha hb⟩⟩
   ·rw [e1]; rfl
   ·simp only [bf,e2]; omega
theorem Nj {a b:PM}: ∀ {m:List Fm} {l:List V},(qh l m).p a b→l.length=m.length*5:=by
 intro m
 induction m with
 | nil=>intro l h; rcases l with _ | ⟨a,_ | ⟨b,_ | ⟨c,_ | ⟨d,_ | ⟨e,l⟩⟩⟩⟩⟩ <;> first | rfl | exact h.elim
 | cons x m I =>
  intro l h
  rcases l with _ | ⟨a,_ | ⟨b,_ | ⟨c,_ | ⟨d,_ | ⟨e,l⟩⟩⟩⟩⟩ <;> first | exact h.elim | skip
  have:=I h.2
  simp only [bf]
  omega
def dn (bF:Nat)(m:List Fm): au:=xs fun cs:List V=>star [pt bF (.cells (m.length*5) cs false),qh cs m]
abbrev CI (v:V)(m:List (Int×Int)): au:=iL (fun v x=>.pu (v=.int .i64 x)) v m
abbrev E3 (v:V)(m:List (Int×(Nat×Bool))): au:=iL (fun v x=>.pu (v=.agg [.int .u64 (x.1:Int),.bool x.2])) v m
def mU (p q bF n:Nat)(wh di:V)(hand:Nat): List V:=[.ptr p 0,.ptr q 0,.sl bF 0 n (.exact n),wh,di,.int .i64 (hand:Int)]
def dB (r p q:Nat)(π:Pl): au:=xs fun bF:Nat=>xs fun wh:V=>xs fun di:V =>
 star [pt r (.cells 6 (mU p q bF π.ah.length wh di π.hand) false),dn bF π.ah,CI wh π.aY,E3 di π.bV]
section
variable {P:Program} {h:H} {S:List au} {X:au} {r q p bF:Nat} {v:V} {π:Pl} {m:List Fm}
theorem dV : Sat h (dB r p q π::S)↔∃bF wh di,Sat h (pt r (.cells 6 (mU p q bF π.ah.length wh di π.hand) false)::dn bF π.ah::CI wh π.aY::E3 di π.bV::S):=by
 simp only [dB,g8,cP,gL,dh]
theorem ir : Sat h (dn bF m::S)↔∃cs,Sat h (pt bF (.cells (m.length*5) cs false)::qh cs m::S):=by
 simp only [dn,g8,cP,gL,dh]
theorem gB {i:Nat}{f:Fm}(s:Sat h (dn bF m::S))(hf:m[i]?=some f): ∃pre v post,pre.length=i*5∧(pre++(dN f v++post)).length=m.length*5 ∧
  Sat h (pt bF (.cells (m.length*5) (pre++(dN f v++post)) false)::qh (pre++(dN f v++post)) m::.cr v f.b::S):=by
 obtain ⟨cs,s⟩:=ir.1 s
 obtain ⟨a,b,q1,q2,q3⟩:=s.at (k:=1) rfl
 obtain ⟨pre,v,post,e1,e2,e3,_⟩:=uL q3 hf
 have hl:=Nj q3
 subst e1
 refine ⟨pre,v,post,e2,hl,?_⟩
 have s1:Sat h (qh (pre++(dN f v++post)) m::pt bF (.cells (m.length*5) (pre++(dN f v++post)) false)::S):=s.ae [1]
 have s2:=(s1.dup (a_.fm _ _)).gR (B:=.cr v f.b) fun a' b' h'=>by
  obtain ⟨S9,v',I,J,r_,RQ,_⟩:=uL h' hf
  have:=zH J (by omega)
  obtain ⟨_,h5⟩:=this
  have h6:=eB (fun l=>l[1]?) h5
  simp [dN] at h6
  subst h6
  exact RQ
 exact s2.ae [2,1,0]
theorem eF {i:Nat}{f f':Fm}{v':V}{pre post:List V}{n:Nat}(s:Sat h (pt bF (.cells n (pre++(dN f' v'++post)) false)::qh (pre++(dN f v++post)) m::.cr v' f'.b::S))(hn:n=m.length*5)(hf:m[i]?=some f)(hp:pre.length=i*5): Sat h (dn bF (m.set i f')::S):=by
 subst hn
 have s1:Sat h (qh (pre++(dN f v++post)) m::.cr v' f'.b::pt bF (.cells (m.length*5) (pre++(dN f' v'++post)) false)::S):=s.ae [1,1,0]
 have s2:=s1.two (C:=qh (pre++(dN f' v'++post)) (m.set i f')) (a_.fm _ _) (a_.cr _ _) fun a b h1 h2=>by
  obtain ⟨S9,v0,I,J,r_,RQ,UG⟩:=uL h1 hf
  obtain ⟨h3,h4⟩:=zH J (by omega)
  subst h3
  have h5:post=I:=by
   have:=zH h4 (by simp [dN])
   exact this.2
  subst h5
  exact UG f' v' a b h2 (PM.le_refl _) (PM.le_refl _)
 refine ir.2 ⟨pre++(dN f' v'++post),?_⟩
 rw [bI]
 exact s2.ae [1]
theorem gd {pre row post:List V}{a j:Nat}{x:V}(hp:pre.length=a)(I:nth row j=some x): nth (pre++(row++post)) (a+j)=some x:=by
 rw [eE] at I ⊢
 have J:=(List.getElem?_eq_some_iff.1 I).1
 rw [kK (by omega),show a+j-pre.length=j by omega,iu J,I]
theorem Nk {pre row post:List V}{a j:Nat}{x:V}(J:pre.length=a)(I:j<row.length): (pre++(row++post)).set (a+j) x=pre++(row.set j x++post):=by
 rw [List.set_append_right _ _ (by omega),show a+j-pre.length=j by omega,yX _ _ I]
theorem Sat.stM {t:TypeId}{k id n a j:Nat}{pre row post:List V}{x:V}(s:Sat h S)(hk:getA S k=some (pt id (.cells n (pre++(row++post)) false)))(hs:bh P t=some 1)(hp:pre.length=a)(J:(pre++(row++post)).length=n)(hj:j<row.length)(hv:x.cells=[x])(I:storable x=true):
  ∃h₁,fR P h t (.ptr id (a+j)) x=some h₁∧Sat h₁ (setA S k (pt id (.cells n (pre++(row.set j x++post)) false))):=by
 have:=s.je (P:=P) (t:=t) (off:=a+j) (v:=x) hk hs J (by rw [←J]; simp; omega) hv I
 rwa [Nk hp hj] at this
theorem Sat.Mj {t:TypeId}{k id n a:Nat}{pre row row' post:List V}(s:Sat h S)(hk:getA S k=some (pt id (.cells n (pre++(row++post)) false)))(hs:bh P t=some row'.length)(hp:pre.length=a)(J:(pre++(row++post)).length=n)(hr:row'.length=row.length)(I:row'.all storable=true):
  ∃h₁,fR P h t (.ptr id a) (.agg row')=some h₁∧Sat h₁ (setA S k (pt id (.cells n (pre++(row'++post)) false))):=by
 have:=s.Uj (P:=P) (t:=t) (off:=a) (l:=row') hk hs J (by rw [←J]; simp; omega) I
 have e:(pre++(row++post)).take a++(row'++(pre++(row++post)).drop (a+row'.length))=pre++(row'++post):=by
  rw [nf hp,vh,fY (by omega),dh,show a+row'.length-pre.length=row.length by omega,List.drop_left' rfl]
 rwa [e] at this
theorem UH {t:TypeId}{k id n a:Nat}{pre row post:List V}(s:Sat h S)(J:getA S k=some (pt id (.cells n (pre++(row++post)) false)))(ht:bS P t=some true)(hs:bh P t=some row.length)(hp:pre.length=a)(I:(pre++(row++post)).length=n): loadV P h t (.ptr id a)=some (.agg row):=by
 rw [RF ht hs (s.row J) I (by rw [←I]; simp; omega),List.drop_left' hp,nf rfl]
end
abbrev aH := Pl×LD
def pM (π:Pl)(n:Int): Nat:=match lookL n π.bV with
 | some x=>x.1
 | none=>0
def outF (ε:aH)(i:Nat): Int×aH:=match ε.1.ah[i]? with
 | none=>(0,ε)
 | some f=>if f.aS<0∨f.changed=false then (0,ε) else if bN f.b=false then (4,ε) else
  if (bL ε.2 (cC f.b 4 8)).1≠0 then ((bL ε.2 (cC f.b 4 8)).1,(ε.1,(bL ε.2 (cC f.b 4 8)).2)) else
  if ((bL ε.2 (cC f.b 4 8)).2.2.cH f.aS f.b).1≠0 then (((bL ε.2 (cC f.b 4 8)).2.2.cH f.aS f.b).1,(ε.1,((bL ε.2 (cC f.b 4 8)).2.1,((bL ε.2 (cC f.b 4 8)).2.2.cH f.aS f.b).2))) else
  (0,({ ε.1 with ah:=ε.1.ah.set i { f with changed:=false },bV:=dr f.aS (pM ε.1 f.aS,false) ε.1.bV },((bL ε.2 (cC f.b 4 8)).2.1,((bL ε.2 (cC f.b 4 8)).2.2.cH f.aS f.b).2)))
section
variable {told:cX} {h:H} {S:List au} {X:au} {r k q p bF:Nat} {v x wh di:V} {l b:List Nat} {π:Pl} {μ:Lg} {δ:Dk}
theorem PF (hT:W told){i:Nat}{f:Fm}(s:Sat h (pt r (.cells 6 (mU p q bF π.ah.length wh di π.hand) false)::dn bF π.ah::CI wh π.aY::E3 di π.bV::bU q p μ::bj p δ::S))(hi:π.ah[i]?=some f)(KJ:μ.Ok)(CH:δ.Ok)(RR:f.b.length<1073741824)(hw:δ.waiting.length≤268435456):
  Call ⟨Tryz.prog,told⟩ 123 [.ptr r 0,.ptr bF (i*5)] h fun v h'=>v=.int .i64 (outF (π,μ,δ) i).1 ∧
   Sat h' (pt r (.cells 6 (mU p q bF (outF (π,μ,δ) i).2.1.ah.length wh di (outF (π,μ,δ) i).2.1.hand) false)::dn bF (outF (π,μ,δ) i).2.1.ah::CI wh (outF (π,μ,δ) i).2.1.aY::E3 di (outF (π,μ,δ) i).2.1.bV::bU q p (outF (π,μ,δ) i).2.2.1::bj p (outF (π,μ,δ) i).2.2.2::S):=by
 have RS:=s
 obtain ⟨pre,fv,post,I,hlen,s⟩:=gB (s.ae [1]) hi
 have RT:=(s.aK (k:=2) rfl (d_ _ _))
 refine Call.of_wp (hT.free _ rfl) Tryz.func123 rfl rfl (zK 9 rfl (zf rfl (mg _ _) (zl rfl (s.ld (k:=0) rfl eG (gd I rfl)) ?_)))
 refine zd rfl (ag rfl rfl aO) ?_ ?_
 ·intro hq
  have hq:f.aS<0:=by simpa using hq
  have he:outF (π,μ,δ) i=(0,(π,μ,δ)):=by simp only [outF,hi]; rw [aq (.inl hq)]
  rw [he]
  exact zk 13 rfl (WP.ret ⟨aa,_,rfl,rfl,RS⟩)
 ·intro hq
  have hq:¬ f.aS<0:=by simpa using hq
  refine zk 3 rfl (zf rfl (Al _ _) (zl rfl (s.ld (k:=0) rfl mJ (gd I rfl)) ?_))
  have Cn:f.changed=false∨f.changed=true:=by cases f.changed <;> simp
  rcases Cn with hc | hc
  ·have he:outF (π,μ,δ) i=(0,(π,μ,δ)):=by simp only [outF,hi]; rw [aq (.inr hc)]
   rw [he]
   refine zt rfl (eP rfl rfl) (by rw [hc]; rfl) ?_
   exact zk 7 rfl (WP.ret ⟨aa,_,rfl,rfl,RS⟩)
  ·have he:outF (π,μ,δ) i=(if bN f.b=false then (4,(π,μ,δ)) else
    if (bL (μ,δ) (cC f.b 4 8)).1≠0 then ((bL (μ,δ) (cC f.b 4 8)).1,(π,(bL (μ,δ) (cC f.b 4 8)).2)) else
    if ((bL (μ,δ) (cC f.b 4 8)).2.2.cH f.aS f.b).1≠0 then (((bL (μ,δ) (cC f.b 4 8)).2.2.cH f.aS f.b).1,(π,((bL (μ,δ) (cC f.b 4 8)).2.1,((bL (μ,δ) (cC f.b 4 8)).2.2.cH f.aS f.b).2))) else
    (0,({ π with ah:=π.ah.set i { f with changed:=false },bV:=dr f.aS (pM π f.aS,false) π.bV },((bL (μ,δ) (cC f.b 4 8)).2.1,((bL (μ,δ) (cC f.b 4 8)).2.2.cH f.aS f.b).2)))):=by
    simp only [outF,hi]; rw [ai (by rw [hc]; simp; omega)]
   rw [he]
   refine zh rfl (eP rfl rfl) (by rw [hc]; rfl) ?_
   refine zk 8 rfl (zf rfl (vJ _ _) (zl rfl (s.ld (k:=0) rfl cy (gd I rfl)) (zc rfl (E0 hT (s.ae [2]) (d_ _ _) (by omega)) ?_)))
   rintro w h ⟨s,(⟨hg,rfl⟩ | ⟨hg,rfl⟩)⟩
   ·dsimp only [bringA,getA,bk] at s
    rw [ai (by rw [hg]; decide)]
    have KL:(bL (μ,δ) (cC f.b 4 8)).2.2.Ok:=oN CH
    have PG:(bL (μ,δ) (cC f.b 4 8)).2.2.waiting.length≤268435456:=by rw [mT]; exact hw
    have J:=Ni (n:=cC f.b 4 8) hT (s.ae [6,6]) KJ CH.bJ
    generalize bL (μ,δ) (cC f.b 4 8)=x at J KL PG ⊢
    obtain ⟨xe,xl,xd⟩:=x
    dsimp only at J KL PG ⊢
    refine zk 16 rfl (zh rfl (ag rfl rfl aF) (rfl) (zk 8 rfl (zf rfl (MV _ _) (zl rfl (s.ld (k:=3) rfl Kp rfl) (zm rfl (zc rfl (J) ?_))))))
    rintro w h ⟨rfl,s⟩
    refine zk 5 rfl ?_
    by_cases hx:xe=0
    ·subst hx
     rw [ai (by decide)]
     refine zh rfl (ag rfl rfl aF) (rfl) ?_
     have Cm:=fun (s:Sat h (bj p xd::.cr fv f.b::bU q p xl::pt bF (.cells (π.ah.length*5) (pre++(dN f fv++post)) false)::qh (pre++(dN f fv++post)) π.ah::pt r (.cells 6 (mU p q bF π.ah.length wh di π.hand) false)::CI wh π.aY::E3 di π.bV::S))=>Ng (n:=f.aS) hT s (d_ fv f.b) RR KL.bJ PG
     generalize xd.cH f.aS f.b=y at Cm ⊢
     obtain ⟨ye,yd⟩:=y
     dsimp only at Cm ⊢
     have s:=s.ae [1,1,0]
     refine zk 5 rfl (WP.drawn [ak,ak,ak,ak,ak,ak,ak,ak,ak,ak,ak,ak,ak,ak] rfl (by kernel_rfl) (by kernel_rfl) ?_)
     refine zM rfl (zN rfl (zF rfl (vI _ _) (zL rfl (s.ld (k:=5) rfl qS rfl) (zM rfl (zN rfl (zF rfl (mg _ _) (zL rfl (s.ld (k:=3) rfl eG (gd I rfl)) (zM rfl (zN rfl (zF rfl (vJ _ _) (zL rfl (s.ld (k:=3) rfl cy (gd I rfl)) (aD.any rfl rfl rfl rfl (OpR.call rfl rfl rfl rfl (Cm s)) ?_))))))))))))
     rintro w h ⟨rfl,s⟩
     refine zA rfl ?_
     refine aD.nil ⟨⟨aa,aa,aa,aa,aa,aa,aa,aa,aa,aa,aa,aa,aa,aa,aa⟩,?_⟩
     refine zK 3 rfl ?_
     by_cases hy:ye=0
     ·subst hy
      rw [ai (by decide)]
      refine zh rfl (ag rfl rfl aF) (rfl) (zk 7 rfl (zf rfl (Al _ _) (zS rfl (s.stM (k:=3) (j:=4) rfl rT I hlen (by simp [dN]) rfl rfl) ?_)))
      intro h s
      have e5:(dN f fv).set 4 (.bool false)=dN { f with changed:=false } fv:=rfl
      rw [e5] at s
      have s:=s.ae [7,3,4]
      refine zk 2 rfl (WP.drawn [ak,ak,ak,ak,ak,ak,ak,ak,ak,ak,ak,ak,ak,ak,ak,ak,ak,ak,ak,ak] rfl (by kernel_rfl) (by kernel_rfl) ?_)
      refine zM rfl (zN rfl (zF rfl (pL _ _) (zL rfl (s.ld (k:=2) rfl vH rfl) (zM rfl (zN rfl (zF rfl (mg _ _) (zL rfl (s.ld (k:=1) rfl eG (gd I rfl)) (zM rfl (zN rfl (zF rfl (pL _ _) (zL rfl (s.ld (k:=2) rfl vH rfl) (zM rfl (zN rfl (zF rfl (mg _ _) (zL rfl (s.ld (k:=1) rfl eG (gd I rfl)) ?_)))))))))))))))
      have Gx:∃b,dI Tryz.prog h 187 di (.int .i64 f.aS) false=some (.agg [.int .u64 (pM π f.aS:Nat),.bool b]):=by
       rcases mh (f:=fun v (x:Nat×Bool)=>.pu (v=.agg [.int .u64 (x.1:Int),.bool x.2])) (n:=f.aS) (fun _ _=>a_.pu _) s r6 bG vL with ⟨g1,_,g3⟩ | ⟨u,x,g1,_,g3,s'⟩
       ·exact ⟨false,by rw [g3]; simp only [pM,g1]; rfl⟩
       ·obtain ⟨rfl,_⟩:=p_.1 s'
        exact ⟨x.2,by rw [g3]; simp only [pM,g1]⟩
      obtain ⟨lb,Gx⟩:=Gx
      refine zO rfl (iI rfl rfl Gx) (zO rfl (Qo rfl (Qq (MW _) rfl)) (zO rfl (cW rfl (by rw [QG]; rfl)) ?_))
      refine aD.lQ rfl rfl rfl (OpR.mapUpdate rfl rfl rfl rfl (lR (f:=fun v (x:Nat×Bool)=>.pu (v=.agg [.int .u64 (x.1:Int),.bool x.2])) (x:=(pM π f.aS,false)) (fun _ _=>a_.pu _) (s.hO rfl) r6 bG)) ?_
      intro w h s
      refine aD.nil ⟨⟨aa,aa,aa,aa,aa,aa,aa,aa,aa,aa,aa,aa,aa,aa,aa,aa,aa,aa,aa,aa,aa⟩,?_⟩
      refine zK 4 rfl (WP.ret ⟨aa,_,rfl,?_⟩)
      refine ⟨rfl,?_⟩
      have s:=eF (i:=i) (f':={ f with changed:=false }) (s.ae [1,5,3]) rfl hi I
      have e6:(π.ah.set i { f with changed:=false }).length=π.ah.length:=bI
      rw [e6]
      exact s.ae [2,0,3,0,1,0]
     ·rw [aq hy]
      refine zt rfl (ag rfl rfl aF) (by simp; exact hy) ?_
      refine zk 7 rfl (WP.ret ⟨aa,_,rfl,?_⟩)
      refine ⟨rfl,?_⟩
      have s:=ir.2 ⟨_,s.ae [3,3]⟩
      exact (s.del 2).ae [3,0,2,2,1,0]
    ·rw [aq hx]
     refine zt rfl (ag rfl rfl aF) (by simp; exact hx) ?_
     refine zk 7 rfl (WP.ret ⟨aa,_,rfl,?_⟩)
     refine ⟨rfl,?_⟩
     have s:=ir.2 ⟨_,s.ae [3,3]⟩
     exact (s.del 3).ae [3,0,2,2,0,0]
   ·dsimp only [bringA,getA,bk] at s
    rw [aq hg]
    refine zk 16 rfl (zt rfl (ag rfl rfl aF) (rfl) (zk 7 rfl (WP.ret ⟨aa,_,rfl,?_⟩)))
    refine ⟨rfl,?_⟩
    have s:=ir.2 ⟨_,s.ae [1,1]⟩
    exact (s.del 1).ae [1,0]
end
structure er (π eY:Pl): Prop where
 aY:eY.aY=π.aY
 bV:eY.bV=π.bV
 len:eY.ah.length=π.ah.length
 get:∀(i:Nat) (f:Fm),π.ah[i]?=some f→∃t,eY.ah[i]?=some { f with dz:=t }
theorem er.refl (π:Pl): er π π:=⟨rfl,rfl,rfl,fun _ f h=>⟨f.dz,h⟩⟩
theorem er.trans {π J I:Pl}(a:er π J)(b:er J I): er π I:=by
 refine ⟨b.aY.trans a.aY,b.bV.trans a.bV,b.len.trans a.len,fun i f h => ?_⟩
 obtain ⟨t,ht⟩:=a.get i f h
 obtain ⟨t',UI⟩:=b.get i _ ht
 exact ⟨t',UI⟩
theorem er.hand {π:Pl}{n:Nat}: er π { π with hand:=n }:=⟨rfl,rfl,rfl,fun _ f h=>⟨f.dz,h⟩⟩
theorem er.Nl {π:Pl}{i:Nat}{f:Fm}(hi:π.ah[i]?=some f): er π { π with ah:=π.ah.set i { f with dz:=false } }:=by
 refine ⟨rfl,rfl,bI,fun j g I => ?_⟩
 by_cases h:i=j
 ·subst h
  rw [hi] at I
  have:=bH I
  subst this
  have J:=(List.getElem?_eq_some_iff.1 hi).1
  exact ⟨false,by simp [vg,J]⟩
 ·exact ⟨g.dz,by simp only [vg,ai h]; exact I⟩
theorem wS {P:Program}{h:H}{t:TypeId}{x y:Operand}{a b:Nat}(I:0<b): binV P h .rem t x y (.int .i64 (a:Int)) (.int .i64 (b:Int))=some (.int .i64 ((a%b:Nat):Int)):=by
 simp only [binV,ikBeq,af,intV]
 have:intBeq (b:Int) 0=false:=by rw [kV]; simp; omega
 rw [this,ay,Int.tmod_eq_emod_of_nonneg (by omega)]
 rfl
section
variable {told:cX} {h:H} {S:List au} {X:au} {r k q p bF:Nat} {v x wh di:V} {l b:List Nat} {π:Pl} {m:List Fm}
theorem kD {i n:Nat}(hi:i<n): indexAddrV Tryz.prog 185 (.sl bF 0 n (.exact n)) (.int .i64 (i:Int))=some (.ptr bF (i*5)):=by
 rw [QC,show (decide ((0:Int)≤(i:Int))&&decide ((i:Int)<(n:Int)))=true by simp; omega,af]
 simp
theorem DU (I:W told){f:Fm}(s:Sat h S)(hv:storable v=true): Call ⟨Tryz.prog,told⟩ 169 [.agg (dN f v)] h fun w h'=>w=.bool (decide (f.pins=0))∧Sat h' S:=by
 refine Call.of_wp (I.free _ rfl) Tryz.func169 rfl rfl (zg rfl (az.cx s rfl rfl rfl (fB rfl (by simp only [V.cells,dN,iQ,kO,hv]; rfl)) ?_))
 intro J h s
 dsimp only [V.cells,dN] at s
 exact zk 4 rfl (zf rfl (nu _ _) (zl rfl (s.ld (k:=0) rfl eG rfl) (zb rfl iJ (zk 2 rfl (WP.ret ⟨aa,_,rfl,rfl,s.drop⟩)))))
theorem KM (hT:W told){f:Fm}(s:Sat h (dn bF m::S))(h0:m[0]?=some f)(hp:f.pins=0): Call ⟨Tryz.prog,told⟩ 190 [.sl bF 0 m.length (.exact m.length),.fn (.func 169) [] []] h fun w h'=>w=.int .i64 0∧Sat h' (dn bF m::S):=by
 have hl:=(List.getElem?_eq_some_iff.1 h0).1
 obtain ⟨pre,fv,post,I,hlen,s⟩:=gB s h0
 have J:=(s.aK (k:=2) rfl (d_ _ _)).cells.2
 refine Call.of_wp (hT.free _ rfl) Tryz.func190 rfl rfl (zK 8 rfl (zo rfl (aQ rfl rfl rfl (nA rfl uK)) (zk 2 rfl (WP.block (WP.loop (zg rfl (zt rfl (ag rfl rfl aO) (by simp; omega) ?_)))))))
 refine zk 5 rfl (WP.block (zK 10 rfl (zo rfl (cI rfl rfl (kD (i:=0) hl)) (zl rfl (UH s (k:=0) rfl QE ym I hlen) (zc rfl (DU hT s J) ?_)))))
 rintro w h ⟨rfl,s⟩
 rw [cK hp]
 exact zk 7 rfl (WP.ret ⟨aa,_,rfl,rfl,(ir.2 ⟨_,s⟩).del 1⟩)
theorem DV (I:W told){f:Fm}(s:Sat h (dn bF m::S))(J:m[0]?=some f)(hp:f.pins=0): Call ⟨Tryz.prog,told⟩ 168 [.sl bF 0 m.length (.exact m.length),.fn (.func 169) [] []] h fun w h'=>w=.bool true∧Sat h' (dn bF m::S):=by
 refine Call.of_wp (I.free _ rfl) Tryz.func168 rfl rfl (zK 8 rfl (zc rfl (KM I s J hp) ?_))
 rintro w h ⟨rfl,s⟩
 refine zt rfl (ag rfl rfl od) (by decide) ?_
 exact zk 2 rfl (WP.ret ⟨aa,_,rfl,rfl,s⟩)
noncomputable def UJ : Code:=fC [1,0,0,1,0,0] ((Tryz.f122.body).getD .skip)
noncomputable def PI : Code:=fC [1,0,1,1,1,0,0] ((Tryz.f122.body).getD .skip)
theorem DW {wh di:V}{hand:Nat}: ∀(j i:Nat) (h:H) (E:List (Nat×V)) (Q:Ex→List (Nat×V)→H→Prop),i+j=m.length→m.length<4294967296 →
  Sat h (pt r (.cells 6 (mU p q bF m.length wh di hand) false)::dn bF m::S)→Has E [(0,.ptr r 0),(10,.int .i64 m.length),(11,.int .i64 i)] →
  (∀E' (i:Nat) (f:Fm),m[i]?=some f→f.aS<0→look E' 2=some (.int .i64 (i:Int))→Q .ret E' h) →
  (∀E',Has E' [(0,.ptr r 0)]→Q (.exit 0) E' h)→WP ⟨Tryz.prog,told⟩ 70 (.loop UJ) E h Q:=by
 intro j
 induction j with
 | zero =>
  intro i h E Q hi hm s hE hr hx
  refine WP.loop (WP.has hE (zg rfl (zh rfl (ag rfl rfl aO) (by simp; omega) ?_)))
  exact zk 3 rfl (WP.exit (hx _ ⟨rfl,aa⟩))
 | succ j ih =>
  intro i h E Q hi hm s hE hr hx
  have hc:m[i]?=some (m[i]'(by omega)):=aN _
  generalize (m[i]'(by omega))=f at hc
  obtain ⟨pre,fv,post,I,hlen,s'⟩:=gB (s.ae [1]) hc
  refine WP.loop (WP.has hE (zg rfl (zt rfl (ag rfl rfl aO) (by simp; omega) ?_)))
  refine zk 5 rfl (WP.block (zK 9 rfl (zf rfl (jF _ _) (zl rfl (s.ld (k:=0) rfl mM rfl) (zm rfl (zo rfl (cI rfl rfl (kD (i:=i) (by omega))) ?_))))))
  refine zf rfl (mg _ _) (zl rfl (s'.ld (k:=0) rfl eG (gd I rfl)) ?_)
  refine zd rfl (ag rfl rfl aO) ?_ ?_
  ·intro J
   have J:f.aS<0:=by simpa using J
   exact zk 7 rfl (WP.ret (hr _ i f hc J rfl))
  ·intro J
   refine zv (zj rfl (WP.skip (zr rfl (zb rfl (by exact aV (aA (by omega) (by omega))) ?_))))
   refine zm rfl (zv ?_)
   exact ih (i+1) h _ Q (by omega) hm s ⟨rfl,rfl,rfl,aa⟩ hr hx
def nC (m:List Fm): Nat:=(m.filter fun f=>f.dz).length
theorem wB {f:Fm}: ∀ {m:List Fm} {i:Nat},m[i]?=some f→f.dz=true→nC (m.set i { f with dz:=false })+1=nC m:=by
 intro m
 induction m with
 | nil=>intro i h; simp at h
 | cons g m J =>
  intro i h I
  cases i with
  | zero=>simp at h; subst h; simp [nC,I]
  | succ i =>
   rw [jT] at h
   have:=J h I
   simp only [nC,y8,List.filter_cons] at this ⊢
   split <;> (try simp only [bf]) <;> omega
theorem yD {wh di:V}{f:Fm}{h:H}{E:List (Nat×V)}{Q:Ex→List (Nat×V)→H→Prop}(hf:π.ah[π.hand]?=some f)(hm:π.ah.length<4294967296)(hp:f.pins=0)
 (s:Sat h (pt r (.cells 6 (mU p q bF π.ah.length wh di π.hand) false)::dn bF π.ah::S))(hE:Has E [(0,.ptr r 0)])
 (hr:f.dz=false→∀E' h',look E' 2=some (.int .i64 (π.hand:Int))→Sat h' (pt r (.cells 6 (mU p q bF π.ah.length wh di ((π.hand+1)%π.ah.length)) false)::dn bF π.ah::S)→Q .ret E' h')
 (hx:f.dz=true→∀E' h',Has E' [(0,.ptr r 0)]→Sat h' (pt r (.cells 6 (mU p q bF (π.ah.set π.hand { f with dz:=false }).length wh di ((π.hand+1)%π.ah.length)) false)::dn bF (π.ah.set π.hand { f with dz:=false })::S)→WP ⟨Tryz.prog,told⟩ 70 (.loop PI) E' h' Q):
  WP ⟨Tryz.prog,told⟩ 70 (.loop PI) E h Q:=by
 have hl:=(List.getElem?_eq_some_iff.1 hf).1
 refine WP.loop (WP.has hE (WP.block (zK 4 rfl (zf rfl (Aj _ _) (zl rfl (s.ld (k:=0) rfl eG rfl) (zk 6 rfl (zf rfl (jF _ _) (zl rfl (s.ld (k:=0) rfl mM rfl) (zm rfl (zo rfl (cI rfl rfl (kD (i:=π.hand) hl)) (zk 3 rfl (WP.drawn [ak,ak,ak,ak,ak,ak,ak,ak,ak,ak,ak,ak,ak,ak,ak] rfl (by kernel_rfl) (by kernel_rfl) ?_))))))))))))
 refine zM rfl (zM rfl (zN rfl (zF rfl (Aj _ _) (zL rfl (s.ld (k:=0) rfl eG rfl) (zO rfl (ag rfl rfl (by exact aV (aA (by omega) (by omega)))) ?_)))))
 refine zM rfl (zN rfl (zF rfl (jF _ _) (zL rfl (s.ld (k:=0) rfl mM rfl) (zO rfl (aQ rfl rfl rfl (nA rfl uK)) (zO rfl (ag rfl rfl (wS (a:=π.hand+1) (by omega))) ?_)))))
 refine zN rfl (zF rfl (Aj _ _) (aD.lQ rfl rfl rfl (OpR.AX rfl rfl rfl (s.je (k:=0) rfl lD rfl (by decide) rfl rfl)) ?_))
 rintro v h ⟨rfl,s⟩
 have s:Sat h (pt r (.cells 6 (mU p q bF π.ah.length wh di ((π.hand+1)%π.ah.length)) false)::dn bF π.ah::S):=s
 refine aD.nil ⟨⟨aa,aa,aa,aa,aa,aa,aa,aa,aa,aa,aa,aa,aa,aa,aa,aa⟩,?_⟩
 obtain ⟨pre,fv,post,I,hlen,s⟩:=gB (s.ae [1]) hf
 refine zw (WP.block (zK 4 rfl (zf rfl (nu _ _) (zl rfl (s.ld (k:=0) rfl eG (gd I rfl)) (zh rfl (ag rfl rfl gv) (by rw [hp]; decide) ?_)))))
 refine zk 7 rfl (zf rfl (Ak _ _) (zl rfl (s.ld (k:=0) rfl mJ (gd I rfl)) (zk 2 rfl ?_)))
 have wC:f.dz=false∨f.dz=true:=by cases f.dz <;> simp
 rcases wC with J | J
 ·refine WP.LZ rfl (J) ?_
  refine zK 5 rfl (WP.ret (hr J _ _ rfl ?_))
  have s:=ir.2 ⟨_,s.ae [0,0]⟩
  exact (s.del 1).ae [1,0]
 ·skip
  refine WP.F5 rfl (J) (zK 3 rfl (zf rfl (Ak _ _) (zS rfl (s.stM (k:=0) (j:=3) rfl rT I hlen (by simp [dN]) rfl rfl) ?_)))
  intro h s
  have e5:(dN f fv).set 3 (.bool false)=dN { f with dz:=false } fv:=rfl
  rw [e5] at s
  refine zv (WP.exit (hx J _ _ ⟨rfl,aa⟩ ?_))
  have s:=eF (i:=π.hand) (f':={ f with dz:=false }) s rfl hf I
  rw [bI]
  exact s.ae [1,0]
theorem DX {wh di:V}: ∀(fuel:Nat) (π:Pl) (h:H) (E:List (Nat×V)) (Q:Ex→List (Nat×V)→H→Prop),nC π.ah≤fuel→π.hand<π.ah.length→π.ah.length<4294967296→(∀f∈π.ah,f.pins=0) →
  Sat h (pt r (.cells 6 (mU p q bF π.ah.length wh di π.hand) false)::dn bF π.ah::S)→Has E [(0,.ptr r 0)] →
  (∀E' h' (i:Nat) (I:Pl) (f:Fm),er π I→I.ah[i]?=some f→I.hand<I.ah.length→look E' 2=some (.int .i64 (i:Int))→Sat h' (pt r (.cells 6 (mU p q bF I.ah.length wh di I.hand) false)::dn bF I.ah::S)→Q .ret E' h') →
  WP ⟨Tryz.prog,told⟩ 70 (.loop PI) E h Q:=by
 intro fuel
 induction fuel with
 | zero =>
  intro π h E Q ht hh hm hp s hE hr
  have J:π.ah[π.hand]?=some (π.ah[π.hand]'hh):=aN _
  generalize (π.ah[π.hand]'hh)=f at J
  refine yD J hm (hp f (aU J)) s hE (fun h1 E' h' h2 s' => ?_) (fun h1 => ?_)
  ·exact hr E' h' π.hand { π with hand:=(π.hand+1)%π.ah.length } f er.hand J (ni _ (by omega)) h2 s'
  ·have:=wB J h1
   omega
 | succ fuel ih =>
  intro π h E Q ht hh hm hp s hE hr
  have J:π.ah[π.hand]?=some (π.ah[π.hand]'hh):=aN _
  generalize (π.ah[π.hand]'hh)=f at J
  refine yD J hm (hp f (aU J)) s hE (fun h1 E' h' h2 s' => ?_) (fun h1 E' h' kB s' => ?_)
  ·exact hr E' h' π.hand { π with hand:=(π.hand+1)%π.ah.length } f er.hand J (ni _ (by omega)) h2 s'
  ·have kn:=wB J h1
   have hn:er π { π with ah:=π.ah.set π.hand { f with dz:=false },hand:=(π.hand+1)%π.ah.length }:=(er.Nl J).trans er.hand
   refine ih { π with ah:=π.ah.set π.hand { f with dz:=false },hand:=(π.hand+1)%π.ah.length } h' E' Q (by show nC (π.ah.set π.hand { f with dz:=false })≤fuel; omega) ?_ (by simp only [bI]; exact hm) (fun g hg => ?_) s' kB (fun E2 h2 i I g UK hg PJ hl s2=>hr E2 h2 i I g (hn.trans UK) hg PJ hl s2)
   ·simp only [bI]; exact ni _ (by omega)
   ·rcases jS hg with hg | rfl
    ·exact hp g hg
    ·exact hp f (aU J)
theorem KN (hT:W told){wh di:V}(s:Sat h (pt r (.cells 6 (mU p q bF π.ah.length wh di π.hand) false)::dn bF π.ah::S))(hh:π.hand<π.ah.length)(hm:π.ah.length<4294967296)(hp:∀f∈π.ah,f.pins=0):
  Call ⟨Tryz.prog,told⟩ 122 [.ptr r 0] h fun v h'=>∃(i:Nat) (I:Pl) (f:Fm),v=.int .i64 (i:Int)∧er π I∧I.ah[i]?=some f∧I.hand<I.ah.length ∧
   Sat h' (pt r (.cells 6 (mU p q bF I.ah.length wh di I.hand) false)::dn bF I.ah::S):=by
 have J:π.ah[0]?=some (π.ah[0]'(by omega)):=aN _
 generalize (π.ah[0]'(by omega))=f0 at J
 have s0:=s
 refine Call.of_wp (hT.free _ rfl) Tryz.func122 rfl rfl (zK 4 rfl (WP.scope (zK 5 rfl (zf rfl (jF _ _) (zl rfl (s.ld (k:=0) rfl mM rfl) (zo rfl (aQ rfl rfl rfl (nA rfl uK)) (zk 2 rfl (WP.block ?_))))))))
 refine DW π.ah.length 0 _ _ _ (by omega) hm s ⟨rfl,rfl,rfl,aa⟩ (fun E' i f hf _ h2 => ?_) (fun E' kB => ?_)
 ·exact ⟨aa,_,Ch h2,i,π,f,rfl,er.refl π,hf,hh,s⟩
 ·skip
  refine WP.has kB (zK 5 rfl (zf rfl (jF _ _) (zl rfl (s.ld (k:=0) rfl mM rfl) (zc rfl (DV hT (s.ae [1]) J (hp f0 (aU J))) ?_))))
  rintro w h ⟨rfl,s⟩
  refine zo rfl (eP rfl rfl) (zk 4 rfl (WP.label (WP.block ?_)))
  refine DX (nC π.ah) π _ _ _ (aE _) hh hm hp (s.ae [1,0]) ⟨rfl,aa⟩ (fun E' h' i I f hn hf PJ h2 s' => ?_)
  exact ⟨aa,_,Ch h2,i,I,f,rfl,hn,hf,PJ,s'⟩
end
end Go.Proofs.YtefepnnfphdkpaaGreat.Am
