/- ChainFull: a part of its proof; conditions: its statement's. -/
import Derived.Test.YtefepnnfphdkpaaGreatD21
set_option linter.defProp false
namespace Go.Proofs.YtefepnnfphdkpaaGreat.Am
open Go
def vX:=@Tryz.underlying185
def Dk.gn (δ:Dk): Int×Dk:=if δ.dead=true then (9,δ) else if δ.bS=0 then (9,δ.die) else (0,{ δ.fV with eu:=δ.log.length })
def Dk.cU (δ:Dk)(n:Int)(b:List Nat): Int×Dk:=if δ.dead=true then (9,δ) else if ¬(0≤n∧n<δ.bh.length∧b.length=512) then (1,δ) else
 if δ.bS=0 then (9,{ δ.die with BR:=some (n.toNat,b) }) else (0,δ.wr n b)
def Dk.je (δ:Dk)(b:List Nat): Int×Dk:=if δ.dead=true then (9,δ) else if δ.room<δ.log.length+b.length then (7,δ) else if δ.bS=0 then (9,{ δ.die with tail:=b }) else (0,{ δ.fV with log:=δ.log++b })
def Dk.oN (δ:Dk)(n:Int): Int:=if δ.dead=true then 9 else if ¬(0≤n∧n<δ.bh.length) then 1 else 0
structure Dk.Ok (δ:Dk): Prop where
 bS:δ.bS<4294967296
 len:δ.log.length≤16777216
 room:δ.room≤16777216
 now:∀e∈δ.now,e.2.length=512
 bh:∀(i:Nat) (b:List Nat),δ.bh[i]?=some (some b)→b.length=512
 eu:δ.eu≤δ.log.length
 many:δ.bh.length≤65536
theorem Dk.Ok.fV {δ:Dk}(h:δ.Ok): δ.fV.Ok:=⟨by have:=h.bS; simp only [Dk.fV]; split <;> omega,h.len,h.room,h.now,h.bh,h.eu,h.many⟩
theorem Dk.Ok.die {δ:Dk}(h:δ.Ok): δ.die.Ok:=⟨h.bS,h.len,h.room,h.now,h.bh,h.eu,h.many⟩
theorem Dk.Ok.gn {δ:Dk}(h:δ.Ok): δ.gn.2.Ok:=by
 unfold Dk.gn
 split
 ·exact h
 ·split
  ·exact h.die
  ·exact ⟨h.fV.bS,h.len,h.room,h.now,h.bh,aD _,h.many⟩
theorem kE {α:Type}{n:Int}{x:α}: ∀ {l:List (Int×α)},lookL n l=some x→(n,x)∈l:=by
 intro l
 induction l with
 | nil=>intro h; cases h
 | cons e l I =>
  intro h
  simp only [lookL] at h
  by_cases he:e.1=n
  ·rw [ax he] at h
   have:=bE h
   obtain ⟨a,b⟩:=e
   simp only at he this
   subst he; subst this
   exact ct
  ·rw [ai he] at h; exact cr _ (I h)
theorem Dk.Ok.at {δ:Dk}(I:δ.Ok)(n:Int): (δ.at n).length=512:=by
 unfold Dk.at
 cases J:lookL n δ.now with
 | some b=>exact I.now _ (kE J)
 | none =>
  cases h2:δ.bh[n.toNat]? with
  | none=>exact eT
  | some o =>
   cases o with
   | none=>exact eT
   | some b=>exact I.bh _ _ h2
section
variable {told:cz} {h:H} {S:List aq} {X:aq} {k q p:Nat} {v x:V} {l b:List Nat} {μ:Lg} {δ:Dk}
theorem PT (hT:W told){n:Int}(s:Sat h (bz p δ::X::S))(hX:cT X (cY x b))(hb:b.length<1073741824)(hf:δ.bS<4294967296)(hw:δ.waiting.length≤268435456):
  Call ⟨Tryz.prog,told⟩ 138 [.ptr p 0,.int .i64 n,x] h fun v h'=>v=.int .i64 (δ.cU n b).1∧Sat h' (bz p (δ.cU n b).2::X::S):=by
 refine (Ks hT s hX hb hf hw).mono fun v h' hr => ?_
 unfold Dk.cU
 rcases hr with ⟨hd,rfl,s⟩ | ⟨hd,I,rfl,s⟩ | ⟨hd,J,h2,h3,I,rfl,s⟩ | ⟨hd,J,h2,h3,I,rfl,s⟩
 ·rw [ax hd]; exact ⟨rfl,s⟩
 ·rw [ai (by rw [hd]; decide),ax I]; exact ⟨rfl,s⟩
 ·rw [ai (by rw [hd]; decide),ai (by simp [J,h2,h3]),ax I]; exact ⟨rfl,s⟩
 ·rw [ai (by rw [hd]; decide),ai (by simp [J,h2,h3]),ai I]; exact ⟨rfl,s⟩
theorem KI (J:W told){n:Int}(s:Sat h (bz p δ::S))(I:δ.Ok): Call ⟨Tryz.prog,told⟩ 124 [.ptr p 0,.int .i64 n] h fun v h' =>
  (δ.oN n≠0∧v=.aX [.bn,.int .i64 (δ.oN n)]∧Sat h' (bz p δ::S))∨(δ.oN n=0∧∃u,v=.aX [u,.int .i64 0]∧Sat h' (aU u (δ.at n)::bz p δ::S)):=by
 refine (MC J s (I.at n)).mono fun v h' hr => ?_
 unfold Dk.oN
 rcases hr with ⟨hd,rfl,s⟩ | ⟨hd,h0,rfl,s⟩ | ⟨hd,h1,h2,u,rfl,s⟩
 ·rw [ax hd]; exact .inl ⟨by decide,rfl,s⟩
 ·rw [ai (by rw [hd]; decide),ax h0]; exact .inl ⟨by decide,rfl,s⟩
 ·rw [ai (by rw [hd]; decide),ai (by simp [h1,h2])]; exact .inr ⟨rfl,u,rfl,s⟩
end
abbrev LD := Lg×Dk
def bT (x:LD)(n:Nat): Int×LD:=if n<x.1.base+x.1.forced then (0,x) else if x.2.gn.1≠0 then (x.2.gn.1,(x.1,x.2.gn.2)) else (0,({ x.1 with forced:=x.1.b.length },x.2.gn.2))
def dB (μ:Lg)(kd:Int)(tx pv nx:Nat)(data:List Nat)(bX:List dr): List Nat:=pJ (μ.base+μ.b.length) (eD kd tx pv nx data bX)
def bx (x:LD)(kd:Int)(tx pv nx:Nat)(data:List Nat)(bX:List dr): (Nat×Int)×LD :=
 if dZ kd bX=false then ((0,1),x) else if 1048576<(eD kd tx pv nx data bX).length then ((0,2),x) else
 if (x.2.je (dB x.1 kd tx pv nx data bX)).1≠0 then ((0,(x.2.je (dB x.1 kd tx pv nx data bX)).1),(x.1,(x.2.je (dB x.1 kd tx pv nx data bX)).2)) else
 ((x.1.base+x.1.b.length,0),(x.1.app (dB x.1 kd tx pv nx data bX),(x.2.je (dB x.1 kd tx pv nx data bX)).2))
theorem FG {δ:Dk}: δ.gn.2.waiting=δ.waiting:=by
 unfold Dk.gn
 split
 ·rfl
 ·split <;> rfl
theorem nM {x:LD}{n:Nat}: (bT x n).2.2.waiting=x.2.waiting:=by
 unfold bT
 split
 ·rfl
 ·split <;> exact FG
theorem Dk.Ok.cU {δ:Dk}{n:Int}{b:List Nat}(h:δ.Ok): (δ.cU n b).2.Ok:=by
 unfold Dk.cU
 split
 ·exact h
 ·split
  ·exact h
  ·rename_i hn
   split
   ·exact ⟨h.bS,h.len,h.room,h.now,h.bh,h.eu,h.many⟩
   ·refine ⟨h.fV.bS,h.len,h.room,fun e he => ?_,h.bh,h.eu,h.many⟩
    have J:b.length=512:=by
     by_cases q:0≤n∧n<δ.bh.length∧b.length=512
     ·exact q.2.2
     ·exact absurd q hn
    have:∀l:List (Int×List Nat),(∀e∈l,e.2.length=512)→∀e∈dc n b l,e.2.length=512:=by
     intro l
     induction l with
     | nil=>intro _ e he; simp [dc] at he; subst he; exact J
     | cons x l ih =>
      intro I e he
      simp only [dc] at he
      split at he
      ·rcases List.mem_cons.1 he with rfl | he
       ·exact J
       ·exact I e (cr _ he)
      ·rcases List.mem_cons.1 he with rfl | he
       ·exact I _ ct
       ·exact ih (fun e he=>I e (cr _ he)) e he
    exact this δ.now h.now e he
theorem qg {x:LD}{n:Nat}(h:x.2.Ok): (bT x n).2.2.Ok:=by
 unfold bT
 split
 ·exact h
 ·split
  ·exact h.gn
  ·exact h.gn
theorem Lg.Ok.PU {μ:Lg}(h:μ.Ok): ({ μ with forced:=μ.b.length }:Lg).Ok:=⟨h.size,h.many,h.low,h.BS,aD _,h.len,h.check⟩
theorem ym {x:LD}{n:Nat}(h:x.1.Ok): (bT x n).2.1.Ok:=by
 unfold bT
 split
 ·exact h
 ·split
  ·exact h
  ·exact h.PU
section
variable {told:cz} {h:H} {S:List aq} {X:aq} {k q p:Nat} {v x:V} {l b:List Nat} {μ:Lg} {δ:Dk}
theorem PV (hT:W told){n:Nat}(s:Sat h (cf q p μ::bz p δ::S))(J:μ.Ok)(hf:δ.bS<4294967296): Call ⟨Tryz.prog,told⟩ 79 [.ptr q 0,.int .u64 (n:Int)] h fun v h' =>
  v=.int .i64 (bT (μ,δ) n).1∧Sat h' (cf q p (bT (μ,δ) n).2.1::bz p (bT (μ,δ) n).2.2::S):=by
 refine (Kz hT s J hf).mono fun v h' hr => ?_
 unfold bT Dk.gn
 rcases hr with ⟨I,rfl,s⟩ | ⟨I,hd,rfl,s⟩ | ⟨I,hd,h0,rfl,s⟩ | ⟨I,hd,h0,rfl,s⟩
 ·rw [ax I]; exact ⟨rfl,s⟩
 ·simp only [ai (Nat.not_lt.2 I),ax hd,ne_eq,ax (by decide:¬ ((9:Int)=0))]; exact ⟨aa,s⟩
 ·simp only [ai (Nat.not_lt.2 I),ai (by rw [hd]; decide:¬ δ.dead=true),ax h0,ne_eq,ax (by decide:¬ ((9:Int)=0))]; exact ⟨aa,s⟩
 ·simp only [ai (Nat.not_lt.2 I),ai (by rw [hd]; decide:¬ δ.dead=true),ai h0,ne_eq,not_true,bF]; exact ⟨aa,s⟩
theorem ML (hT:W told){kd:Int}{tx pv nx:Nat}{dt ch:V}{cs:List V}{data:List Nat}{bX:List dr}(s:Sat h (cf q p μ::bz p δ::X::.arr 4 ch cs::dx cs bX::S))(hX:cT X (cY dt data))(eS:AD tx pv nx data bX)(Sd:μ.Ok)(Eb:δ.Ok):
  Call ⟨Tryz.prog,told⟩ 59 [.ptr q 0,.agg (nL kd tx pv nx dt ch)] h fun r h' =>
  r=.aX [.int .u64 ((bx (μ,δ) kd tx pv nx data bX).1.1:Nat),.int .i64 (bx (μ,δ) kd tx pv nx data bX).1.2] ∧
  Sat h' (cf q p (bx (μ,δ) kd tx pv nx data bX).2.1::bz p (bx (μ,δ) kd tx pv nx data bX).2.2::X::.arr 4 ch cs::dx cs bX::S):=by
 refine (IE hT s hX eS Sd Eb.bS Eb.len Eb.room).mono fun v h' hr => ?_
 unfold bx Dk.je dB
 rcases hr with ⟨e,rfl,(⟨J,rfl⟩ | ⟨J,hb,rfl⟩ | ⟨J,hb,hd,rfl⟩ | ⟨J,hb,hd,C5,rfl⟩),s⟩ | ⟨J,hb,hd,I,h0,rfl,s⟩ | ⟨J,hb,hd,I,h0,rfl,s⟩
 ·rw [ax J]; exact ⟨rfl,s⟩
 ·rw [ai (by rw [J]; decide),ax hb]; exact ⟨rfl,s⟩
 ·simp only [ai (by rw [J]; decide:¬ dZ kd bX=false),ai (Nat.not_lt.2 hb),ax hd,ne_eq,ax (by decide:¬ ((9:Int)=0))]; exact ⟨rfl,s⟩
 ·simp only [ai (by rw [J]; decide:¬ dZ kd bX=false),ai (Nat.not_lt.2 hb),ai (by rw [hd]; decide:¬ δ.dead=true),ax C5,ne_eq,ax (by decide:¬ ((7:Int)=0))]; exact ⟨rfl,s⟩
 ·simp only [ai (by rw [J]; decide:¬ dZ kd bX=false),ai (Nat.not_lt.2 hb),ai (by rw [hd]; decide:¬ δ.dead=true),ai (Nat.not_lt.2 I),ax h0,ne_eq,ax (by decide:¬ ((9:Int)=0))]; exact ⟨rfl,s⟩
 ·simp only [ai (by rw [J]; decide:¬ dZ kd bX=false),ai (Nat.not_lt.2 hb),ai (by rw [hd]; decide:¬ δ.dead=true),ai (Nat.not_lt.2 I),ai h0,ne_eq,not_true,bF]; exact ⟨aa,s⟩
end
structure Fm where
 bg:Int
 b:List Nat
 pins:Int
 dP:Bool
 changed:Bool
structure Pl where
 ah:List Fm
 bu:List (Int×Int)
 ck:List (Int×(Nat×Bool))
 hand:Nat
def d_ (f:Fm)(v:V): List V:=[.int .i64 f.bg,v,.int .i64 f.pins,.bool f.dP,.bool f.changed]
def rD : List V→List Fm→aq
 | [],[]=>.pu True
 | a::v::c::d::e::l,x::m=>.an (.an (.pu (a=.int .i64 x.bg∧c=.int .i64 x.pins∧d=.bool x.dP∧e=.bool x.changed)) (.cy v x.b)) (rD l m)
 | _,_=>.pu False
theorem aQ.fm : ∀(m:List Fm) (l:List V),aQ (rD l m):=by
 intro m
 induction m with
 | nil=>intro l; rcases l with _ | ⟨a,_ | ⟨b,_ | ⟨c,_ | ⟨d,_ | ⟨e,l⟩⟩⟩⟩⟩ <;> exact aQ.pu _
 | cons x m I=>intro l; rcases l with _ | ⟨a,_ | ⟨b,_ | ⟨c,_ | ⟨d,_ | ⟨e,l⟩⟩⟩⟩⟩ <;> first | exact aQ.pu _ | exact aQ.an (aQ.an (aQ.pu _) (aQ.cy _ _)) (I l)
theorem vY {a b:PM}: ∀ {m:List Fm} {l:List V} {i:Nat} {f:Fm},(rD l m).p a b→m[i]?=some f→∃pre v post,l=pre++(d_ f v++post)∧pre.length=i*5∧(aq.cy v f.b).p a b ∧
  (∀(f':Fm) (v':V) (I J:PM),(aq.cy v' f'.b).p I J→PM.le a I→PM.le b J→(rD (pre++(d_ f' v'++post)) (m.set i f')).p I J):=by
 intro m
 induction m with
 | nil=>intro l i f h hc; simp at hc
 | cons x m ih =>
  intro l i f h hc
  rcases l with _ | ⟨p,_ | ⟨q,_ | ⟨w,_ | ⟨d,_ | ⟨e,l⟩⟩⟩⟩⟩ <;> first | exact h.elim | skip
  obtain ⟨⟨⟨h1,h2,h3,h4⟩,h5⟩,h6⟩:=h
  cases i with
  | zero =>
   simp at hc
   subst hc
   refine ⟨[],q,l,?_,rfl,h5,fun f' v' I J hv ha hb=>⟨⟨⟨rfl,rfl,rfl,rfl⟩,hv⟩,(rD l m).mono _ _ _ _ ha hb h6⟩⟩
   rw [h1,h2,h3,h4]; rfl
  | succ i =>
   simp at hc
   obtain ⟨pre,v,post,e1,e2,e3,e4⟩:=ih h6 hc
   refine ⟨p::q::w::d::e::pre,v,post,?_,?_,e3,fun f' v' I J hv ha hb=>⟨⟨⟨h1,h2,h3,h4⟩,aq.mono _ _ _ _ _ ha hb h5⟩,e4 f' v' I J hv ha hb⟩⟩
   ·rw [e1]; rfl
   ·simp only [aN,e2]; omega
theorem PW {a b:PM}: ∀ {m:List Fm} {l:List V},(rD l m).p a b→l.length=m.length*5:=by
 intro m
 induction m with
 | nil=>intro l h; rcases l with _ | ⟨a,_ | ⟨b,_ | ⟨c,_ | ⟨d,_ | ⟨e,l⟩⟩⟩⟩⟩ <;> first | rfl | exact h.elim
 | cons x m I =>
  intro l h
  rcases l with _ | ⟨a,_ | ⟨b,_ | ⟨c,_ | ⟨d,_ | ⟨e,l⟩⟩⟩⟩⟩ <;> first | exact h.elim | skip
  have:=I h.2
  simp only [aN]
  omega
def dH (bQ:Nat)(m:List Fm): aq:=xs fun cs:List V=>star [pt bQ (.cells (m.length*5) cs false),rD cs m]
abbrev Ec (v:V)(m:List (Int×Int)): aq:=jl (fun v x=>.pu (v=.int .i64 x)) v m
abbrev GR (v:V)(m:List (Int×(Nat×Bool))): aq:=jl (fun v x=>.pu (v=.agg [.int .u64 (x.1:Int),.bool x.2])) v m
def nN (p q bQ n:Nat)(wh di:V)(hand:Nat): List V:=[.ptr p 0,.ptr q 0,.sl bQ 0 n (.exact n),wh,di,.int .i64 (hand:Int)]
def dQ (r p q:Nat)(π:Pl): aq:=xs fun bQ:Nat=>xs fun wh:V=>xs fun di:V =>
 star [pt r (.cells 6 (nN p q bQ π.ah.length wh di π.hand) false),dH bQ π.ah,Ec wh π.bu,GR di π.ck]
section
variable {P:Program} {h:H} {S:List aq} {X:aq} {r q p bQ:Nat} {v:V} {π:Pl} {m:List Fm}
theorem ey : Sat h (dQ r p q π::S)↔∃bQ wh di,Sat h (pt r (.cells 6 (nN p q bQ π.ah.length wh di π.hand) false)::dH bQ π.ah::Ec wh π.bu::GR di π.ck::S):=by
 simp only [dQ,kj,cR,gX,c_]
theorem iY : Sat h (dH bQ m::S)↔∃cs,Sat h (pt bQ (.cells (m.length*5) cs false)::rD cs m::S):=by
 simp only [dH,kj,cR,gX,c_]
theorem ie {i:Nat}{f:Fm}(s:Sat h (dH bQ m::S))(hf:m[i]?=some f): ∃pre v post,pre.length=i*5∧(pre++(d_ f v++post)).length=m.length*5 ∧
  Sat h (pt bQ (.cells (m.length*5) (pre++(d_ f v++post)) false)::rD (pre++(d_ f v++post)) m::.cy v f.b::S):=by
 obtain ⟨cs,s⟩:=iY.1 s
 obtain ⟨a,b,q1,q2,q3⟩:=s.at (k:=1) rfl
 obtain ⟨pre,v,post,e1,e2,e3,_⟩:=vY q3 hf
 have hl:=PW q3
 subst e1
 refine ⟨pre,v,post,e2,hl,?_⟩
 have s1:Sat h (rD (pre++(d_ f v++post)) m::pt bQ (.cells (m.length*5) (pre++(d_ f v++post)) false)::S):=s.ae [1]
 have s2:=(s1.dup (aQ.fm _ _)).hU (B:=.cy v f.b) fun a' b' h'=>by
  obtain ⟨Wc,v',I,J,tQ,UQ,_⟩:=vY h' hf
  have:=Bf J (by omega)
  obtain ⟨_,h5⟩:=this
  have h6:=fo (fun l=>l[1]?) h5
  simp [d_] at h6
  subst h6
  exact UQ
 exact s2.ae [2,1,0]
theorem fb {i:Nat}{f f':Fm}{v':V}{pre post:List V}{n:Nat}(s:Sat h (pt bQ (.cells n (pre++(d_ f' v'++post)) false)::rD (pre++(d_ f v++post)) m::.cy v' f'.b::S))(hn:n=m.length*5)(hf:m[i]?=some f)(hp:pre.length=i*5): Sat h (dH bQ (m.set i f')::S):=by
 subst hn
 have s1:Sat h (rD (pre++(d_ f v++post)) m::.cy v' f'.b::pt bQ (.cells (m.length*5) (pre++(d_ f' v'++post)) false)::S):=s.ae [1,1,0]
 have s2:=s1.two (C:=rD (pre++(d_ f' v'++post)) (m.set i f')) (aQ.fm _ _) (aQ.cy _ _) fun a b h1 h2=>by
  obtain ⟨Wc,v0,I,J,tQ,UQ,XW⟩:=vY h1 hf
  obtain ⟨h3,h4⟩:=Bf J (by omega)
  subst h3
  have h5:post=I:=by
   have:=Bf h4 (by simp [d_])
   exact this.2
  subst h5
  exact XW f' v' a b h2 (PM.le_refl _) (PM.le_refl _)
 refine iY.2 ⟨pre++(d_ f' v'++post),?_⟩
 rw [cq]
 exact s2.ae [1]
theorem gR {pre row post:List V}{a j:Nat}{x:V}(hp:pre.length=a)(I:nth row j=some x): nth (pre++(row++post)) (a+j)=some x:=by
 rw [eW] at I ⊢
 have J:=(List.getElem?_eq_some_iff.1 I).1
 rw [jv (by omega),show a+j-pre.length=j by omega,gF J,I]
theorem PX {pre row post:List V}{a j:Nat}{x:V}(J:pre.length=a)(I:j<row.length): (pre++(row++post)).set (a+j) x=pre++(row.set j x++post):=by
 rw [A0 _ _ (by omega),show a+j-pre.length=j by omega,List.set_append_left _ _ I]
theorem Sat.stM {t:TypeId}{k id n a j:Nat}{pre row post:List V}{x:V}(s:Sat h S)(hk:getA S k=some (pt id (.cells n (pre++(row++post)) false)))(hs:bk P t=some 1)(hp:pre.length=a)(J:(pre++(row++post)).length=n)(hj:j<row.length)(hv:x.cells=[x])(I:storable x=true):
  ∃h₁,gd P h t (.ptr id (a+j)) x=some h₁∧Sat h₁ (setA S k (pt id (.cells n (pre++(row.set j x++post)) false))):=by
 have:=s.iX (P:=P) (t:=t) (off:=a+j) (v:=x) hk hs J (by rw [←J]; simp; omega) hv I
 rwa [PX hp hj] at this
theorem Sat.Ed {t:TypeId}{k id n a:Nat}{pre row row' post:List V}(s:Sat h S)(hk:getA S k=some (pt id (.cells n (pre++(row++post)) false)))(hs:bk P t=some row'.length)(hp:pre.length=a)(J:(pre++(row++post)).length=n)(hr:row'.length=row.length)(I:row'.all storable=true):
  ∃h₁,gd P h t (.ptr id a) (.agg row')=some h₁∧Sat h₁ (setA S k (pt id (.cells n (pre++(row'++post)) false))):=by
 have:=s.XB (P:=P) (t:=t) (off:=a) (l:=row') hk hs J (by rw [←J]; simp; omega) I
 have e:(pre++(row++post)).take a++(row'++(pre++(row++post)).drop (a+row'.length))=pre++(row'++post):=by
  rw [mW hp,wQ,fI (by omega),c_,show a+row'.length-pre.length=row.length by omega,List.drop_left' rfl]
 rwa [e] at this
theorem XX {t:TypeId}{k id n a:Nat}{pre row post:List V}(s:Sat h S)(J:getA S k=some (pt id (.cells n (pre++(row++post)) false)))(ht:b6 P t=some true)(hs:bk P t=some row.length)(hp:pre.length=a)(I:(pre++(row++post)).length=n): loadV P h t (.ptr id a)=some (.agg row):=by
 rw [UH ht hs (s.row J) I (by rw [←I]; simp; omega),List.drop_left' hp,mW rfl]
end
abbrev aF := Pl×LD
def qM (π:Pl)(n:Int): Nat:=match lookL n π.ck with
 | some x=>x.1
 | none=>0
def outF (ε:aF)(i:Nat): Int×aF:=match ε.1.ah[i]? with
 | none=>(0,ε)
 | some f=>if f.bg<0∨f.changed=false then (0,ε) else if bV f.b=false then (4,ε) else
  if (bT ε.2 (cQ f.b 4 8)).1≠0 then ((bT ε.2 (cQ f.b 4 8)).1,(ε.1,(bT ε.2 (cQ f.b 4 8)).2)) else
  if ((bT ε.2 (cQ f.b 4 8)).2.2.cU f.bg f.b).1≠0 then (((bT ε.2 (cQ f.b 4 8)).2.2.cU f.bg f.b).1,(ε.1,((bT ε.2 (cQ f.b 4 8)).2.1,((bT ε.2 (cQ f.b 4 8)).2.2.cU f.bg f.b).2))) else
  (0,({ ε.1 with ah:=ε.1.ah.set i { f with changed:=false },ck:=dc f.bg (qM ε.1 f.bg,false) ε.1.ck },((bT ε.2 (cQ f.b 4 8)).2.1,((bT ε.2 (cQ f.b 4 8)).2.2.cU f.bg f.b).2)))
section
variable {told:cz} {h:H} {S:List aq} {X:aq} {r k q p bQ:Nat} {v x wh di:V} {l b:List Nat} {π:Pl} {μ:Lg} {δ:Dk}
theorem Se (hT:W told){i:Nat}{f:Fm}(s:Sat h (pt r (.cells 6 (nN p q bQ π.ah.length wh di π.hand) false)::dH bQ π.ah::Ec wh π.bu::GR di π.ck::cf q p μ::bz p δ::S))(hi:π.ah[i]?=some f)(Sd:μ.Ok)(Eb:δ.Ok)(lF:f.b.length<1073741824)(hw:δ.waiting.length≤268435456):
  Call ⟨Tryz.prog,told⟩ 123 [.ptr r 0,.ptr bQ (i*5)] h fun v h'=>v=.int .i64 (outF (π,μ,δ) i).1 ∧
   Sat h' (pt r (.cells 6 (nN p q bQ (outF (π,μ,δ) i).2.1.ah.length wh di (outF (π,μ,δ) i).2.1.hand) false)::dH bQ (outF (π,μ,δ) i).2.1.ah::Ec wh (outF (π,μ,δ) i).2.1.bu::GR di (outF (π,μ,δ) i).2.1.ck::cf q p (outF (π,μ,δ) i).2.2.1::bz p (outF (π,μ,δ) i).2.2.2::S):=by
 have UR:=s
 obtain ⟨pre,fv,post,I,hlen,s⟩:=ie (s.ae [1]) hi
 have US:=(s.aG (k:=2) rfl (c8 _ _))
 refine Call.of_wp (hT.free _ rfl) Tryz.func123 rfl rfl (zK 9 rfl (zf rfl (nf _ _) (zl rfl (s.ld (k:=0) rfl dS (gR I rfl)) ?_)))
 refine zd rfl (ag rfl rfl aR) ?_ ?_
 ·intro hq
  have hq:f.bg<0:=by simpa using hq
  have he:outF (π,μ,δ) i=(0,(π,μ,δ)):=by simp only [outF,hi]; rw [ax (.inl hq)]
  rw [he]
  exact zk 13 rfl (WP.ret ⟨aa,_,rfl,rfl,UR⟩)
 ·intro hq
  have hq:¬ f.bg<0:=by simpa using hq
  refine zk 3 rfl (zf rfl (BN _ _) (zl rfl (s.ld (k:=0) rfl nU (gR I rfl)) ?_))
  have Ak:f.changed=false∨f.changed=true:=by cases f.changed <;> simp
  rcases Ak with hc | hc
  ·have he:outF (π,μ,δ) i=(0,(π,μ,δ)):=by simp only [outF,hi]; rw [ax (.inr hc)]
   rw [he]
   refine zt rfl (eY rfl rfl) (by rw [hc]; rfl) ?_
   exact zk 7 rfl (WP.ret ⟨aa,_,rfl,rfl,UR⟩)
  ·have he:outF (π,μ,δ) i=(if bV f.b=false then (4,(π,μ,δ)) else
    if (bT (μ,δ) (cQ f.b 4 8)).1≠0 then ((bT (μ,δ) (cQ f.b 4 8)).1,(π,(bT (μ,δ) (cQ f.b 4 8)).2)) else
    if ((bT (μ,δ) (cQ f.b 4 8)).2.2.cU f.bg f.b).1≠0 then (((bT (μ,δ) (cQ f.b 4 8)).2.2.cU f.bg f.b).1,(π,((bT (μ,δ) (cQ f.b 4 8)).2.1,((bT (μ,δ) (cQ f.b 4 8)).2.2.cU f.bg f.b).2))) else
    (0,({ π with ah:=π.ah.set i { f with changed:=false },ck:=dc f.bg (qM π f.bg,false) π.ck },((bT (μ,δ) (cQ f.b 4 8)).2.1,((bT (μ,δ) (cQ f.b 4 8)).2.2.cU f.bg f.b).2)))):=by
    simp only [outF,hi]; rw [ai (by rw [hc]; simp; omega)]
   rw [he]
   refine zh rfl (eY rfl rfl) (by rw [hc]; rfl) ?_
   refine zk 8 rfl (zf rfl (xA _ _) (zl rfl (s.ld (k:=0) rfl bK (gR I rfl)) (zc rfl (xH hT (s.ae [2]) (c8 _ _) (by omega)) ?_)))
   rintro w h ⟨s,(⟨hg,rfl⟩ | ⟨hg,rfl⟩)⟩
   ·dsimp only [bringA,getA,aZ] at s
    rw [ai (by rw [hg]; decide)]
    have MM:(bT (μ,δ) (cQ f.b 4 8)).2.2.Ok:=qg Eb
    have Sf:(bT (μ,δ) (cQ f.b 4 8)).2.2.waiting.length≤268435456:=by rw [nM]; exact hw
    have J:=PV (n:=cQ f.b 4 8) hT (s.ae [6,6]) Sd Eb.bS
    generalize bT (μ,δ) (cQ f.b 4 8)=x at J MM Sf ⊢
    obtain ⟨xe,xl,xd⟩:=x
    dsimp only at J MM Sf ⊢
    refine zk 16 rfl (zh rfl (ag rfl rfl aI) (rfl) (zk 8 rfl (zf rfl (Px _ _) (zl rfl (s.ld (k:=3) rfl Mq rfl) (zm rfl (zc rfl (J) ?_))))))
    rintro w h ⟨rfl,s⟩
    refine zk 5 rfl ?_
    by_cases hx:xe=0
    ·subst hx
     rw [ai (by decide)]
     refine zh rfl (ag rfl rfl aI) (rfl) ?_
     have DQ:=fun (s:Sat h (bz p xd::.cy fv f.b::cf q p xl::pt bQ (.cells (π.ah.length*5) (pre++(d_ f fv++post)) false)::rD (pre++(d_ f fv++post)) π.ah::pt r (.cells 6 (nN p q bQ π.ah.length wh di π.hand) false)::Ec wh π.bu::GR di π.ck::S))=>PT (n:=f.bg) hT s (c8 fv f.b) lF MM.bS Sf
     generalize xd.cU f.bg f.b=y at DQ ⊢
     obtain ⟨ye,yd⟩:=y
     dsimp only at DQ ⊢
     have s:=s.ae [1,1,0]
     refine zk 5 rfl (WP.drawn [ak,ak,ak,ak,ak,ak,ak,ak,ak,ak,ak,ak,ak,ak] rfl (by kernel_rfl) (by kernel_rfl) ?_)
     refine zM rfl (zN rfl (zF rfl (xz _ _) (zL rfl (s.ld (k:=5) rfl sD rfl) (zM rfl (zN rfl (zF rfl (nf _ _) (zL rfl (s.ld (k:=3) rfl dS (gR I rfl)) (zM rfl (zN rfl (zF rfl (xA _ _) (zL rfl (s.ld (k:=3) rfl bK (gR I rfl)) (aB.any rfl rfl rfl rfl (OpR.call rfl rfl rfl rfl (DQ s)) ?_))))))))))))
     rintro w h ⟨rfl,s⟩
     refine zA rfl ?_
     refine aB.nil ⟨⟨aa,aa,aa,aa,aa,aa,aa,aa,aa,aa,aa,aa,aa,aa,aa⟩,?_⟩
     refine zK 3 rfl ?_
     by_cases hy:ye=0
     ·subst hy
      rw [ai (by decide)]
      refine zh rfl (ag rfl rfl aI) (rfl) (zk 7 rfl (zf rfl (BN _ _) (zS rfl (s.stM (k:=3) (j:=4) rfl yf I hlen (by simp [d_]) rfl rfl) ?_)))
      intro h s
      have e5:(d_ f fv).set 4 (.bool false)=d_ { f with changed:=false } fv:=rfl
      rw [e5] at s
      have s:=s.ae [7,3,4]
      refine zk 2 rfl (WP.drawn [ak,ak,ak,ak,ak,ak,ak,ak,ak,ak,ak,ak,ak,ak,ak,ak,ak,ak,ak,ak] rfl (by kernel_rfl) (by kernel_rfl) ?_)
      refine zM rfl (zN rfl (zF rfl (qL _ _) (zL rfl (s.ld (k:=2) rfl xy rfl) (zM rfl (zN rfl (zF rfl (nf _ _) (zL rfl (s.ld (k:=1) rfl dS (gR I rfl)) (zM rfl (zN rfl (zF rfl (qL _ _) (zL rfl (s.ld (k:=2) rfl xy rfl) (zM rfl (zN rfl (zF rfl (nf _ _) (zL rfl (s.ld (k:=1) rfl dS (gR I rfl)) ?_)))))))))))))))
      have IF:∃b,dW Tryz.prog h 187 di (.int .i64 f.bg) false=some (.agg [.int .u64 (qM π f.bg:Nat),.bool b]):=by
       rcases ng (f:=fun v (x:Nat×Bool)=>.pu (v=.agg [.int .u64 (x.1:Int),.bool x.2])) (n:=f.bg) (fun _ _=>aQ.pu _) s tO bR xC with ⟨g1,_,g3⟩ | ⟨u,x,g1,_,g3,s'⟩
       ·exact ⟨false,by rw [g3]; simp only [qM,g1]; rfl⟩
       ·obtain ⟨rfl,_⟩:=ri.1 s'
        exact ⟨x.2,by rw [g3]; simp only [qM,g1]⟩
      obtain ⟨lb,IF⟩:=IF
      refine zO rfl (ji rfl rfl IF) (zO rfl (Tn rfl (Tp (Py _) rfl)) (zO rfl (cM rfl (by rw [TI]; rfl)) ?_))
      refine aB.ki rfl rfl rfl (OpR.mapUpdate rfl rfl rfl rfl (mM (f:=fun v (x:Nat×Bool)=>.pu (v=.agg [.int .u64 (x.1:Int),.bool x.2])) (x:=(qM π f.bg,false)) (fun _ _=>aQ.pu _) (s.gy rfl) tO bR)) ?_
      intro w h s
      refine aB.nil ⟨⟨aa,aa,aa,aa,aa,aa,aa,aa,aa,aa,aa,aa,aa,aa,aa,aa,aa,aa,aa,aa,aa⟩,?_⟩
      refine zK 4 rfl (WP.ret ⟨aa,_,rfl,?_⟩)
      refine ⟨rfl,?_⟩
      have s:=fb (i:=i) (f':={ f with changed:=false }) (s.ae [1,5,3]) rfl hi I
      have e6:(π.ah.set i { f with changed:=false }).length=π.ah.length:=cq
      rw [e6]
      exact s.ae [2,0,3,0,1,0]
     ·rw [ax hy]
      refine zt rfl (ag rfl rfl aI) (by simp; exact hy) ?_
      refine zk 7 rfl (WP.ret ⟨aa,_,rfl,?_⟩)
      refine ⟨rfl,?_⟩
      have s:=iY.2 ⟨_,s.ae [3,3]⟩
      exact (s.del 2).ae [3,0,2,2,1,0]
    ·rw [ax hx]
     refine zt rfl (ag rfl rfl aI) (by simp; exact hx) ?_
     refine zk 7 rfl (WP.ret ⟨aa,_,rfl,?_⟩)
     refine ⟨rfl,?_⟩
     have s:=iY.2 ⟨_,s.ae [3,3]⟩
     exact (s.del 3).ae [3,0,2,2,0,0]
   ·dsimp only [bringA,getA,aZ] at s
    rw [ax hg]
    refine zk 16 rfl (zt rfl (ag rfl rfl aI) (rfl) (zk 7 rfl (WP.ret ⟨aa,_,rfl,?_⟩)))
    refine ⟨rfl,?_⟩
    have s:=iY.2 ⟨_,s.ae [1,1]⟩
    exact (s.del 1).ae [1,0]
end
structure eN (π fH:Pl): Prop where
 bu:fH.bu=π.bu
 ck:fH.ck=π.ck
 len:fH.ah.length=π.ah.length
 get:∀(i:Nat) (f:Fm),π.ah[i]?=some f→∃t,fH.ah[i]?=some { f with dP:=t }
theorem eN.refl (π:Pl): eN π π:=⟨rfl,rfl,rfl,fun _ f h=>⟨f.dP,h⟩⟩
theorem eN.trans {π J I:Pl}(a:eN π J)(b:eN J I): eN π I:=by
 refine ⟨b.bu.trans a.bu,b.ck.trans a.ck,b.len.trans a.len,fun i f h => ?_⟩
 obtain ⟨t,ht⟩:=a.get i f h
 obtain ⟨t',XY⟩:=b.get i _ ht
 exact ⟨t',XY⟩
theorem eN.hand {π:Pl}{n:Nat}: eN π { π with hand:=n }:=⟨rfl,rfl,rfl,fun _ f h=>⟨f.dP,h⟩⟩
theorem eN.PY {π:Pl}{i:Nat}{f:Fm}(hi:π.ah[i]?=some f): eN π { π with ah:=π.ah.set i { f with dP:=false } }:=by
 refine ⟨rfl,rfl,cq,fun j g I => ?_⟩
 by_cases h:i=j
 ·subst h
  rw [hi] at I
  have:=bE I
  subst this
  have J:=(List.getElem?_eq_some_iff.1 hi).1
  exact ⟨false,by simp [wP,J]⟩
 ·exact ⟨g.dP,by simp only [wP,ai h]; exact I⟩
theorem BW {P:Program}{h:H}{t:TypeId}{x y:Operand}{a b:Nat}(I:0<b): binV P h .rem t x y (.int .i64 (a:Int)) (.int .i64 (b:Int))=some (.int .i64 ((a%b:Nat):Int)):=by
 simp only [binV,ikBeq,af,intV]
 have:intBeq (b:Int) 0=false:=by rw [kJ]; simp; omega
 rw [this,ay,Int.tmod_eq_emod_of_nonneg (by omega)]
 rfl
section
variable {told:cz} {h:H} {S:List aq} {X:aq} {r k q p bQ:Nat} {v x wh di:V} {l b:List Nat} {π:Pl} {m:List Fm}
theorem lK {i n:Nat}(hi:i<n): indexAddrV Tryz.prog 185 (.sl bQ 0 n (.exact n)) (.int .i64 (i:Int))=some (.ptr bQ (i*5)):=by
 rw [TE,show (decide ((0:Int)≤(i:Int))&&decide ((i:Int)<(n:Int)))=true by simp; omega,af]
 simp
theorem FH (I:W told){f:Fm}(s:Sat h S)(hv:storable v=true): Call ⟨Tryz.prog,told⟩ 169 [.agg (d_ f v)] h fun w h'=>w=.bool (decide (f.pins=0))∧Sat h' S:=by
 refine Call.of_wp (I.free _ rfl) Tryz.func169 rfl rfl (zg rfl (az.cJ s rfl rfl rfl (fR rfl (by simp only [V.cells,d_,iB,i_,hv]; rfl)) ?_))
 intro J h s
 dsimp only [V.cells,d_] at s
 exact zk 4 rfl (zf rfl (oC _ _) (zl rfl (s.ld (k:=0) rfl dS rfl) (zb rfl e_ (zk 2 rfl (WP.ret ⟨aa,_,rfl,rfl,s.drop⟩)))))
theorem MN (hT:W told){f:Fm}(s:Sat h (dH bQ m::S))(h0:m[0]?=some f)(hp:f.pins=0): Call ⟨Tryz.prog,told⟩ 190 [.sl bQ 0 m.length (.exact m.length),.fn (.func 169) [] []] h fun w h'=>w=.int .i64 0∧Sat h' (dH bQ m::S):=by
 have hl:=(List.getElem?_eq_some_iff.1 h0).1
 obtain ⟨pre,fv,post,I,hlen,s⟩:=ie s h0
 have J:=(s.aG (k:=2) rfl (c8 _ _)).cells.2
 refine Call.of_wp (hT.free _ rfl) Tryz.func190 rfl rfl (zK 8 rfl (zo rfl (aO rfl rfl rfl (oD rfl vX)) (zk 2 rfl (WP.block (WP.loop (zg rfl (zt rfl (ag rfl rfl aR) (by simp; omega) ?_)))))))
 refine zk 5 rfl (WP.block (zK 10 rfl (zo rfl (cn rfl rfl (lK (i:=0) hl)) (zl rfl (XX s (k:=0) rfl TG Aj I hlen) (zc rfl (FH hT s J) ?_)))))
 rintro w h ⟨rfl,s⟩
 rw [cZ hp]
 exact zk 7 rfl (WP.ret ⟨aa,_,rfl,rfl,(iY.2 ⟨_,s⟩).del 1⟩)
theorem FI (I:W told){f:Fm}(s:Sat h (dH bQ m::S))(J:m[0]?=some f)(hp:f.pins=0): Call ⟨Tryz.prog,told⟩ 168 [.sl bQ 0 m.length (.exact m.length),.fn (.func 169) [] []] h fun w h'=>w=.bool true∧Sat h' (dH bQ m::S):=by
 refine Call.of_wp (I.free _ rfl) Tryz.func168 rfl rfl (zK 8 rfl (zc rfl (MN I s J hp) ?_))
 rintro w h ⟨rfl,s⟩
 refine zt rfl (ag rfl rfl sB) (by decide) ?_
 exact zk 2 rfl (WP.ret ⟨aa,_,rfl,rfl,s⟩)
noncomputable def XZ : Code:=eC [1,0,0,1,0,0] ((Tryz.f122.body).getD .skip)
noncomputable def Sg : Code:=eC [1,0,1,1,1,0,0] ((Tryz.f122.body).getD .skip)
theorem FJ {wh di:V}{hand:Nat}: ∀(j i:Nat) (h:H) (E:List (Nat×V)) (Q:Ex→List (Nat×V)→H→Prop),i+j=m.length→m.length<4294967296 →
  Sat h (pt r (.cells 6 (nN p q bQ m.length wh di hand) false)::dH bQ m::S)→Has E [(0,.ptr r 0),(10,.int .i64 m.length),(11,.int .i64 i)] →
  (∀E' (i:Nat) (f:Fm),m[i]?=some f→f.bg<0→look E' 2=some (.int .i64 (i:Int))→Q .ret E' h) →
  (∀E',Has E' [(0,.ptr r 0)]→Q (.exit 0) E' h)→WP ⟨Tryz.prog,told⟩ 70 (.loop XZ) E h Q:=by
 intro j
 induction j with
 | zero =>
  intro i h E Q hi hm s hE hr hx
  refine WP.loop (WP.has hE (zg rfl (zh rfl (ag rfl rfl aR) (by simp; omega) ?_)))
  exact zk 3 rfl (WP.exit (hx _ ⟨rfl,aa⟩))
 | succ j ih =>
  intro i h E Q hi hm s hE hr hx
  have hc:m[i]?=some (m[i]'(by omega)):=aM _
  generalize (m[i]'(by omega))=f at hc
  obtain ⟨pre,fv,post,I,hlen,s'⟩:=ie (s.ae [1]) hc
  refine WP.loop (WP.has hE (zg rfl (zt rfl (ag rfl rfl aR) (by simp; omega) ?_)))
  refine zk 5 rfl (WP.block (zK 9 rfl (zf rfl (kr _ _) (zl rfl (s.ld (k:=0) rfl nG rfl) (zm rfl (zo rfl (cn rfl rfl (lK (i:=i) (by omega))) ?_))))))
  refine zf rfl (nf _ _) (zl rfl (s'.ld (k:=0) rfl dS (gR I rfl)) ?_)
  refine zd rfl (ag rfl rfl aR) ?_ ?_
  ·intro J
   have J:f.bg<0:=by simpa using J
   exact zk 7 rfl (WP.ret (hr _ i f hc J rfl))
  ·intro J
   refine zv (zj rfl (WP.skip (zr rfl (zb rfl (by exact bp (aA (by omega) (by omega))) ?_))))
   refine zm rfl (zv ?_)
   exact ih (i+1) h _ Q (by omega) hm s ⟨rfl,rfl,rfl,aa⟩ hr hx
def oF (m:List Fm): Nat:=(m.filter fun f=>f.dP).length
theorem yn {f:Fm}: ∀ {m:List Fm} {i:Nat},m[i]?=some f→f.dP=true→oF (m.set i { f with dP:=false })+1=oF m:=by
 intro m
 induction m with
 | nil=>intro i h; simp at h
 | cons g m J =>
  intro i h I
  cases i with
  | zero=>simp at h; subst h; simp [oF,I]
  | succ i =>
   rw [j4] at h
   have:=J h I
   simp only [oF,A7,List.filter_cons] at this ⊢
   split <;> (try simp only [aN]) <;> omega
theorem AE {wh di:V}{f:Fm}{h:H}{E:List (Nat×V)}{Q:Ex→List (Nat×V)→H→Prop}(hf:π.ah[π.hand]?=some f)(hm:π.ah.length<4294967296)(hp:f.pins=0)
 (s:Sat h (pt r (.cells 6 (nN p q bQ π.ah.length wh di π.hand) false)::dH bQ π.ah::S))(hE:Has E [(0,.ptr r 0)])
 (hr:f.dP=false→∀E' h',look E' 2=some (.int .i64 (π.hand:Int))→Sat h' (pt r (.cells 6 (nN p q bQ π.ah.length wh di ((π.hand+1)%π.ah.length)) false)::dH bQ π.ah::S)→Q .ret E' h')
 (hx:f.dP=true→∀E' h',Has E' [(0,.ptr r 0)]→Sat h' (pt r (.cells 6 (nN p q bQ (π.ah.set π.hand { f with dP:=false }).length wh di ((π.hand+1)%π.ah.length)) false)::dH bQ (π.ah.set π.hand { f with dP:=false })::S)→WP ⟨Tryz.prog,told⟩ 70 (.loop Sg) E' h' Q):
  WP ⟨Tryz.prog,told⟩ 70 (.loop Sg) E h Q:=by
 have hl:=(List.getElem?_eq_some_iff.1 hf).1
 refine WP.loop (WP.has hE (WP.block (zK 4 rfl (zf rfl (BL _ _) (zl rfl (s.ld (k:=0) rfl dS rfl) (zk 6 rfl (zf rfl (kr _ _) (zl rfl (s.ld (k:=0) rfl nG rfl) (zm rfl (zo rfl (cn rfl rfl (lK (i:=π.hand) hl)) (zk 3 rfl (WP.drawn [ak,ak,ak,ak,ak,ak,ak,ak,ak,ak,ak,ak,ak,ak,ak] rfl (by kernel_rfl) (by kernel_rfl) ?_))))))))))))
 refine zM rfl (zM rfl (zN rfl (zF rfl (BL _ _) (zL rfl (s.ld (k:=0) rfl dS rfl) (zO rfl (ag rfl rfl (by exact bp (aA (by omega) (by omega)))) ?_)))))
 refine zM rfl (zN rfl (zF rfl (kr _ _) (zL rfl (s.ld (k:=0) rfl nG rfl) (zO rfl (aO rfl rfl rfl (oD rfl vX)) (zO rfl (ag rfl rfl (BW (a:=π.hand+1) (by omega))) ?_)))))
 refine zN rfl (zF rfl (BL _ _) (aB.ki rfl rfl rfl (OpR.tF rfl rfl rfl (s.iX (k:=0) rfl kC rfl (by decide) rfl rfl)) ?_))
 rintro v h ⟨rfl,s⟩
 have s:Sat h (pt r (.cells 6 (nN p q bQ π.ah.length wh di ((π.hand+1)%π.ah.length)) false)::dH bQ π.ah::S):=s
 refine aB.nil ⟨⟨aa,aa,aa,aa,aa,aa,aa,aa,aa,aa,aa,aa,aa,aa,aa,aa⟩,?_⟩
 obtain ⟨pre,fv,post,I,hlen,s⟩:=ie (s.ae [1]) hf
 refine zw (WP.block (zK 4 rfl (zf rfl (oC _ _) (zl rfl (s.ld (k:=0) rfl dS (gR I rfl)) (zh rfl (ag rfl rfl gA) (by rw [hp]; decide) ?_)))))
 refine zk 7 rfl (zf rfl (BM _ _) (zl rfl (s.ld (k:=0) rfl nU (gR I rfl)) (zk 2 rfl ?_)))
 have yo:f.dP=false∨f.dP=true:=by cases f.dP <;> simp
 rcases yo with J | J
 ·refine WP.Oe rfl (J) ?_
  refine zK 5 rfl (WP.ret (hr J _ _ rfl ?_))
  have s:=iY.2 ⟨_,s.ae [0,0]⟩
  exact (s.del 1).ae [1,0]
 ·skip
  refine WP.H_ rfl (J) (zK 3 rfl (zf rfl (BM _ _) (zS rfl (s.stM (k:=0) (j:=3) rfl yf I hlen (by simp [d_]) rfl rfl) ?_)))
  intro h s
  have e5:(d_ f fv).set 3 (.bool false)=d_ { f with dP:=false } fv:=rfl
  rw [e5] at s
  refine zv (WP.exit (hx J _ _ ⟨rfl,aa⟩ ?_))
  have s:=fb (i:=π.hand) (f':={ f with dP:=false }) s rfl hf I
  rw [cq]
  exact s.ae [1,0]
theorem FK {wh di:V}: ∀(fuel:Nat) (π:Pl) (h:H) (E:List (Nat×V)) (Q:Ex→List (Nat×V)→H→Prop),oF π.ah≤fuel→π.hand<π.ah.length→π.ah.length<4294967296→(∀f∈π.ah,f.pins=0) →
  Sat h (pt r (.cells 6 (nN p q bQ π.ah.length wh di π.hand) false)::dH bQ π.ah::S)→Has E [(0,.ptr r 0)] →
  (∀E' h' (i:Nat) (I:Pl) (f:Fm),eN π I→I.ah[i]?=some f→I.hand<I.ah.length→look E' 2=some (.int .i64 (i:Int))→Sat h' (pt r (.cells 6 (nN p q bQ I.ah.length wh di I.hand) false)::dH bQ I.ah::S)→Q .ret E' h') →
  WP ⟨Tryz.prog,told⟩ 70 (.loop Sg) E h Q:=by
 intro fuel
 induction fuel with
 | zero =>
  intro π h E Q ht hh hm hp s hE hr
  have J:π.ah[π.hand]?=some (π.ah[π.hand]'hh):=aM _
  generalize (π.ah[π.hand]'hh)=f at J
  refine AE J hm (hp f (aV J)) s hE (fun h1 E' h' h2 s' => ?_) (fun h1 => ?_)
  ·exact hr E' h' π.hand { π with hand:=(π.hand+1)%π.ah.length } f eN.hand J (tf _ (by omega)) h2 s'
  ·have:=yn J h1
   omega
 | succ fuel ih =>
  intro π h E Q ht hh hm hp s hE hr
  have J:π.ah[π.hand]?=some (π.ah[π.hand]'hh):=aM _
  generalize (π.ah[π.hand]'hh)=f at J
  refine AE J hm (hp f (aV J)) s hE (fun h1 E' h' h2 s' => ?_) (fun h1 E' h' lI s' => ?_)
  ·exact hr E' h' π.hand { π with hand:=(π.hand+1)%π.ah.length } f eN.hand J (tf _ (by omega)) h2 s'
  ·have lu:=yn J h1
   have hn:eN π { π with ah:=π.ah.set π.hand { f with dP:=false },hand:=(π.hand+1)%π.ah.length }:=(eN.PY J).trans eN.hand
   refine ih { π with ah:=π.ah.set π.hand { f with dP:=false },hand:=(π.hand+1)%π.ah.length } h' E' Q (by show oF (π.ah.set π.hand { f with dP:=false })≤fuel; omega) ?_ (by simp only [cq]; exact hm) (fun g hg => ?_) s' lI (fun E2 h2 i I g X0 hg Sh hl s2=>hr E2 h2 i I g (hn.trans X0) hg Sh hl s2)
   ·simp only [cq]; exact tf _ (by omega)
   ·rcases lT hg with hg | rfl
    ·exact hp g hg
    ·exact hp f (aV J)
theorem MO (hT:W told){wh di:V}(s:Sat h (pt r (.cells 6 (nN p q bQ π.ah.length wh di π.hand) false)::dH bQ π.ah::S))(hh:π.hand<π.ah.length)(hm:π.ah.length<4294967296)(hp:∀f∈π.ah,f.pins=0):
  Call ⟨Tryz.prog,told⟩ 122 [.ptr r 0] h fun v h'=>∃(i:Nat) (I:Pl) (f:Fm),v=.int .i64 (i:Int)∧eN π I∧I.ah[i]?=some f∧I.hand<I.ah.length ∧
   Sat h' (pt r (.cells 6 (nN p q bQ I.ah.length wh di I.hand) false)::dH bQ I.ah::S):=by
 have J:π.ah[0]?=some (π.ah[0]'(by omega)):=aM _
 generalize (π.ah[0]'(by omega))=f0 at J
 have s0:=s
 refine Call.of_wp (hT.free _ rfl) Tryz.func122 rfl rfl (zK 4 rfl (WP.scope (zK 5 rfl (zf rfl (kr _ _) (zl rfl (s.ld (k:=0) rfl nG rfl) (zo rfl (aO rfl rfl rfl (oD rfl vX)) (zk 2 rfl (WP.block ?_))))))))
 refine FJ π.ah.length 0 _ _ _ (by omega) hm s ⟨rfl,rfl,rfl,aa⟩ (fun E' i f hf _ h2 => ?_) (fun E' lI => ?_)
 ·exact ⟨aa,_,BE h2,i,π,f,rfl,eN.refl π,hf,hh,s⟩
 ·skip
  refine WP.has lI (zK 5 rfl (zf rfl (kr _ _) (zl rfl (s.ld (k:=0) rfl nG rfl) (zc rfl (FI hT (s.ae [1]) J (hp f0 (aV J))) ?_))))
  rintro w h ⟨rfl,s⟩
  refine zo rfl (eY rfl rfl) (zk 4 rfl (WP.label (WP.block ?_)))
  refine FK (oF π.ah) π _ _ _ (aD _) hh hm hp (s.ae [1,0]) ⟨rfl,aa⟩ (fun E' h' i I f hn hf Sh h2 s' => ?_)
  exact ⟨aa,_,BE h2,i,I,f,rfl,hn,hf,Sh,s'⟩
end
end Go.Proofs.YtefepnnfphdkpaaGreat.Am
