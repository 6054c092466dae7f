/- ChainKept: a part of its proof; conditions: its statement's. -/
import Derived.Test.YtefepnnfphdkpaaGreatC21
set_option linter.defProp false
namespace Go.Proofs.YtefepnnfphdkpaaGreat.Am
open Go
def vq:=@Tryz.underlying185
def Dk.f_ (δ:Dk): Int×Dk:=if δ.dead=true then (9,δ) else if δ.bP=0 then (9,δ.die) else (0,{ δ.fZ with ey:=δ.log.length })
def Dk.cS (δ:Dk)(n:Int)(b:List Nat): Int×Dk:=if δ.dead=true then (9,δ) else if ¬(0≤n∧n<δ.bg.length∧b.length=512) then (1,δ) else
 if δ.bP=0 then (9,{ δ.die with Bn:=some (n.toNat,b) }) else (0,δ.wr n b)
def Dk.iV (δ:Dk)(b:List Nat): Int×Dk:=if δ.dead=true then (9,δ) else if δ.room<δ.log.length+b.length then (7,δ) else if δ.bP=0 then (9,{ δ.die with tail:=b }) else (0,{ δ.fZ with log:=δ.log++b })
def Dk.ow (δ:Dk)(n:Int): Int:=if δ.dead=true then 9 else if ¬(0≤n∧n<δ.bg.length) then 1 else 0
structure Dk.Ok (δ:Dk): Prop where
 bP:δ.bP<4294967296
 len:δ.log.length≤16777216
 room:δ.room≤16777216
 now:∀e∈δ.now,e.2.length=512
 bg:∀(i:Nat) (b:List Nat),δ.bg[i]?=some (some b)→b.length=512
 ey:δ.ey≤δ.log.length
 many:δ.bg.length≤65536
theorem Dk.Ok.fZ {δ:Dk}(h:δ.Ok): δ.fZ.Ok:=⟨by have:=h.bP; simp only [Dk.fZ]; split <;> omega,h.len,h.room,h.now,h.bg,h.ey,h.many⟩
theorem Dk.Ok.die {δ:Dk}(h:δ.Ok): δ.die.Ok:=⟨h.bP,h.len,h.room,h.now,h.bg,h.ey,h.many⟩
theorem Dk.Ok.f_ {δ:Dk}(h:δ.Ok): δ.f_.2.Ok:=by
 unfold Dk.f_
 split
 ·exact h
 ·split
  ·exact h.die
  ·exact ⟨h.fZ.bP,h.len,h.room,h.now,h.bg,aD _,h.many⟩
theorem ki {α:Type}{n:Int}{x:α}: ∀ {l:List (Int×α)},lookL n l=some x→(n,x)∈l:=by
 intro l
 induction l with
 | nil=>intro h; cases h
 | cons e l I =>
  intro h
  simp only [lookL] at h
  by_cases he:e.1=n
  ·rw [au he] at h
   have:=bI h
   obtain ⟨a,b⟩:=e
   simp only at he this
   subst he; subst this
   exact cz
  ·rw [ai he] at h; exact cj _ (I h)
theorem Dk.Ok.at {δ:Dk}(I:δ.Ok)(n:Int): (δ.at n).length=512:=by
 unfold Dk.at
 cases J:lookL n δ.now with
 | some b=>exact I.now _ (ki J)
 | none =>
  cases h2:δ.bg[n.toNat]? with
  | none=>exact eR
  | some o =>
   cases o with
   | none=>exact eR
   | some b=>exact I.bg _ _ h2
section
variable {told:cN} {h:H} {S:List aq} {X:aq} {k q p:Nat} {v x:V} {l b:List Nat} {μ:Lg} {δ:Dk}
theorem O1 (hT:W told){n:Int}(s:Sat h (bx p δ::X::S))(hX:cO X (cR x b))(hb:b.length<1073741824)(hf:δ.bP<4294967296)(hw:δ.waiting.length≤268435456):
  Call ⟨Tryz.prog,told⟩ 138 [.ptr p 0,.int .i64 n,x] h fun v h'=>v=.int .i64 (δ.cS n b).1∧Sat h' (bx p (δ.cS n b).2::X::S):=by
 refine (JO hT s hX hb hf hw).mono fun v h' hr => ?_
 unfold Dk.cS
 rcases hr with ⟨hd,rfl,s⟩ | ⟨hd,I,rfl,s⟩ | ⟨hd,J,h2,h3,I,rfl,s⟩ | ⟨hd,J,h2,h3,I,rfl,s⟩
 ·rw [au hd]; exact ⟨rfl,s⟩
 ·rw [ai (by rw [hd]; decide),au I]; exact ⟨rfl,s⟩
 ·rw [ai (by rw [hd]; decide),ai (by simp [J,h2,h3]),au I]; exact ⟨rfl,s⟩
 ·rw [ai (by rw [hd]; decide),ai (by simp [J,h2,h3]),ai I]; exact ⟨rfl,s⟩
theorem J4 (J:W told){n:Int}(s:Sat h (bx p δ::S))(I:δ.Ok): Call ⟨Tryz.prog,told⟩ 124 [.ptr p 0,.int .i64 n] h fun v h' =>
  (δ.ow n≠0∧v=.bh [.bp,.int .i64 (δ.ow n)]∧Sat h' (bx p δ::S))∨(δ.ow n=0∧∃u,v=.bh [u,.int .i64 0]∧Sat h' (aR u (δ.at n)::bx p δ::S)):=by
 refine (L0 J s (I.at n)).mono fun v h' hr => ?_
 unfold Dk.ow
 rcases hr with ⟨hd,rfl,s⟩ | ⟨hd,h0,rfl,s⟩ | ⟨hd,h1,h2,u,rfl,s⟩
 ·rw [au hd]; exact .inl ⟨by decide,rfl,s⟩
 ·rw [ai (by rw [hd]; decide),au h0]; exact .inl ⟨by decide,rfl,s⟩
 ·rw [ai (by rw [hd]; decide),ai (by simp [h1,h2])]; exact .inr ⟨rfl,u,rfl,s⟩
end
abbrev LD := Lg×Dk
def bR (x:LD)(n:Nat): Int×LD:=if n<x.1.base+x.1.forced then (0,x) else if x.2.f_.1≠0 then (x.2.f_.1,(x.1,x.2.f_.2)) else (0,({ x.1 with forced:=x.1.b.length },x.2.f_.2))
def dz (μ:Lg)(kd:Int)(tx pv nx:Nat)(data:List Nat)(bW:List dn): List Nat:=oT (μ.base+μ.b.length) (eE kd tx pv nx data bW)
def bu (x:LD)(kd:Int)(tx pv nx:Nat)(data:List Nat)(bW:List dn): (Nat×Int)×LD :=
 if dZ kd bW=false then ((0,1),x) else if 1048576<(eE kd tx pv nx data bW).length then ((0,2),x) else
 if (x.2.iV (dz x.1 kd tx pv nx data bW)).1≠0 then ((0,(x.2.iV (dz x.1 kd tx pv nx data bW)).1),(x.1,(x.2.iV (dz x.1 kd tx pv nx data bW)).2)) else
 ((x.1.base+x.1.b.length,0),(x.1.app (dz x.1 kd tx pv nx data bW),(x.2.iV (dz x.1 kd tx pv nx data bW)).2))
theorem E0 {δ:Dk}: δ.f_.2.waiting=δ.waiting:=by
 unfold Dk.f_
 split
 ·rfl
 ·split <;> rfl
theorem nr {x:LD}{n:Nat}: (bR x n).2.2.waiting=x.2.waiting:=by
 unfold bR
 split
 ·rfl
 ·split <;> exact E0
theorem Dk.Ok.cS {δ:Dk}{n:Int}{b:List Nat}(h:δ.Ok): (δ.cS n b).2.Ok:=by
 unfold Dk.cS
 split
 ·exact h
 ·split
  ·exact h
  ·rename_i hn
   split
   ·exact ⟨h.bP,h.len,h.room,h.now,h.bg,h.ey,h.many⟩
   ·refine ⟨h.fZ.bP,h.len,h.room,fun e he => ?_,h.bg,h.ey,h.many⟩
    have J:b.length=512:=by
     by_cases q:0≤n∧n<δ.bg.length∧b.length=512
     ·exact q.2.2
     ·exact absurd q hn
    have:∀l:List (Int×List Nat),(∀e∈l,e.2.length=512)→∀e∈dg n b l,e.2.length=512:=by
     intro l
     induction l with
     | nil=>intro _ e he; simp [dg] at he; subst he; exact J
     | cons x l ih =>
      intro I e he
      simp only [dg] at he
      split at he
      ·rcases List.mem_cons.1 he with rfl | he
       ·exact J
       ·exact I e (cj _ he)
      ·rcases List.mem_cons.1 he with rfl | he
       ·exact I _ cz
       ·exact ih (fun e he=>I e (cj _ he)) e he
    exact this δ.now h.now e he
theorem pJ {x:LD}{n:Nat}(h:x.2.Ok): (bR x n).2.2.Ok:=by
 unfold bR
 split
 ·exact h
 ·split
  ·exact h.f_
  ·exact h.f_
theorem Lg.Ok.O2 {μ:Lg}(h:μ.Ok): ({ μ with forced:=μ.b.length }:Lg).Ok:=⟨h.size,h.many,h.low,h.Bo,aD _,h.len,h.check⟩
theorem xw {x:LD}{n:Nat}(h:x.1.Ok): (bR x n).2.1.Ok:=by
 unfold bR
 split
 ·exact h
 ·split
  ·exact h
  ·exact h.O2
section
variable {told:cN} {h:H} {S:List aq} {X:aq} {k q p:Nat} {v x:V} {l b:List Nat} {μ:Lg} {δ:Dk}
theorem O3 (hT:W told){n:Nat}(s:Sat h (b7 q p μ::bx p δ::S))(J:μ.Ok)(hf:δ.bP<4294967296): Call ⟨Tryz.prog,told⟩ 79 [.ptr q 0,.int .u64 (n:Int)] h fun v h' =>
  v=.int .i64 (bR (μ,δ) n).1∧Sat h' (b7 q p (bR (μ,δ) n).2.1::bx p (bR (μ,δ) n).2.2::S):=by
 refine (JV hT s J hf).mono fun v h' hr => ?_
 unfold bR Dk.f_
 rcases hr with ⟨I,rfl,s⟩ | ⟨I,hd,rfl,s⟩ | ⟨I,hd,h0,rfl,s⟩ | ⟨I,hd,h0,rfl,s⟩
 ·rw [au I]; exact ⟨rfl,s⟩
 ·simp only [ai (Nat.not_lt.2 I),au hd,ne_eq,au (by decide:¬ ((9:Int)=0))]; exact ⟨aa,s⟩
 ·simp only [ai (Nat.not_lt.2 I),ai (by rw [hd]; decide:¬ δ.dead=true),au h0,ne_eq,au (by decide:¬ ((9:Int)=0))]; exact ⟨aa,s⟩
 ·simp only [ai (Nat.not_lt.2 I),ai (by rw [hd]; decide:¬ δ.dead=true),ai h0,ne_eq,not_true,bF]; exact ⟨aa,s⟩
theorem L9 (hT:W told){kd:Int}{tx pv nx:Nat}{dt ch:V}{cs:List V}{data:List Nat}{bW:List dn}(s:Sat h (b7 q p μ::bx p δ::X::.arr 4 ch cs::dr cs bW::S))(hX:cO X (cR dt data))(fg:z_ tx pv nx data bW)(Rr:μ.Ok)(DI:δ.Ok):
  Call ⟨Tryz.prog,told⟩ 59 [.ptr q 0,.agg (nq kd tx pv nx dt ch)] h fun r h' =>
  r=.bh [.int .u64 ((bu (μ,δ) kd tx pv nx data bW).1.1:Nat),.int .i64 (bu (μ,δ) kd tx pv nx data bW).1.2] ∧
  Sat h' (b7 q p (bu (μ,δ) kd tx pv nx data bW).2.1::bx p (bu (μ,δ) kd tx pv nx data bW).2.2::X::.arr 4 ch cs::dr cs bW::S):=by
 refine (HQ hT s hX fg Rr DI.bP DI.len DI.room).mono fun v h' hr => ?_
 unfold bu Dk.iV dz
 rcases hr with ⟨e,rfl,(⟨J,rfl⟩ | ⟨J,hb,rfl⟩ | ⟨J,hb,hd,rfl⟩ | ⟨J,hb,hd,CD,rfl⟩),s⟩ | ⟨J,hb,hd,I,h0,rfl,s⟩ | ⟨J,hb,hd,I,h0,rfl,s⟩
 ·rw [au J]; exact ⟨rfl,s⟩
 ·rw [ai (by rw [J]; decide),au hb]; exact ⟨rfl,s⟩
 ·simp only [ai (by rw [J]; decide:¬ dZ kd bW=false),ai (Nat.not_lt.2 hb),au hd,ne_eq,au (by decide:¬ ((9:Int)=0))]; exact ⟨rfl,s⟩
 ·simp only [ai (by rw [J]; decide:¬ dZ kd bW=false),ai (Nat.not_lt.2 hb),ai (by rw [hd]; decide:¬ δ.dead=true),au CD,ne_eq,au (by decide:¬ ((7:Int)=0))]; exact ⟨rfl,s⟩
 ·simp only [ai (by rw [J]; decide:¬ dZ kd bW=false),ai (Nat.not_lt.2 hb),ai (by rw [hd]; decide:¬ δ.dead=true),ai (Nat.not_lt.2 I),au h0,ne_eq,au (by decide:¬ ((9:Int)=0))]; exact ⟨rfl,s⟩
 ·simp only [ai (by rw [J]; decide:¬ dZ kd bW=false),ai (Nat.not_lt.2 hb),ai (by rw [hd]; decide:¬ δ.dead=true),ai (Nat.not_lt.2 I),ai h0,ne_eq,not_true,bF]; exact ⟨aa,s⟩
end
structure Fm where
 bf:Int
 b:List Nat
 pins:Int
 dK:Bool
 changed:Bool
structure Pl where
 ah:List Fm
 br:List (Int×Int)
 b_:List (Int×(Nat×Bool))
 hand:Nat
def d_ (f:Fm)(v:V): List V:=[.int .i64 f.bf,v,.int .i64 f.pins,.bool f.dK,.bool f.changed]
def qL : List V→List Fm→aq
 | [],[]=>.pu True
 | a::v::c::d::e::l,x::m=>.an (.an (.pu (a=.int .i64 x.bf∧c=.int .i64 x.pins∧d=.bool x.dK∧e=.bool x.changed)) (.cu v x.b)) (qL l m)
 | _,_=>.pu False
theorem aS.fm : ∀(m:List Fm) (l:List V),aS (qL l m):=by
 intro m
 induction m with
 | nil=>intro l; rcases l with _ | ⟨a,_ | ⟨b,_ | ⟨c,_ | ⟨d,_ | ⟨e,l⟩⟩⟩⟩⟩ <;> exact aS.pu _
 | cons x m I=>intro l; rcases l with _ | ⟨a,_ | ⟨b,_ | ⟨c,_ | ⟨d,_ | ⟨e,l⟩⟩⟩⟩⟩ <;> first | exact aS.pu _ | exact aS.an (aS.an (aS.pu _) (aS.cu _ _)) (I l)
theorem vr {a b:PM}: ∀ {m:List Fm} {l:List V} {i:Nat} {f:Fm},(qL l m).p a b→m[i]?=some f→∃pre v post,l=pre++(d_ f v++post)∧pre.length=i*5∧(aq.cu v f.b).p a b ∧
  (∀(f':Fm) (v':V) (I J:PM),(aq.cu v' f'.b).p I J→PM.le a I→PM.le b J→(qL (pre++(d_ f' v'++post)) (m.set i f')).p I J):=by
 intro m
 induction m with
 | nil=>intro l i f h hc; simp at hc
 | cons x m ih =>
  intro l i f h hc
  rcases l with _ | ⟨p,_ | ⟨q,_ | ⟨w,_ | ⟨d,_ | ⟨e,l⟩⟩⟩⟩⟩ <;> first | exact h.elim | skip
  obtain ⟨⟨⟨h1,h2,h3,h4⟩,h5⟩,h6⟩:=h
  cases i with
  | zero =>
   simp at hc
   subst hc
   refine ⟨[],q,l,?_,rfl,h5,fun f' v' I J hv ha hb=>⟨⟨⟨rfl,rfl,rfl,rfl⟩,hv⟩,(qL l m).mono _ _ _ _ ha hb h6⟩⟩
   rw [h1,h2,h3,h4]; rfl
  | succ i =>
   simp at hc
   obtain ⟨pre,v,post,e1,e2,e3,e4⟩:=ih h6 hc
   refine ⟨p::q::w::d::e::pre,v,post,?_,?_,e3,fun f' v' I J hv ha hb=>⟨⟨⟨h1,h2,h3,h4⟩,aq.mono _ _ _ _ _ ha hb h5⟩,e4 f' v' I J hv ha hb⟩⟩
   ·rw [e1]; rfl
   ·simp only [aO,e2]; omega
theorem O4 {a b:PM}: ∀ {m:List Fm} {l:List V},(qL l m).p a b→l.length=m.length*5:=by
 intro m
 induction m with
 | nil=>intro l h; rcases l with _ | ⟨a,_ | ⟨b,_ | ⟨c,_ | ⟨d,_ | ⟨e,l⟩⟩⟩⟩⟩ <;> first | rfl | exact h.elim
 | cons x m I =>
  intro l h
  rcases l with _ | ⟨a,_ | ⟨b,_ | ⟨c,_ | ⟨d,_ | ⟨e,l⟩⟩⟩⟩⟩ <;> first | exact h.elim | skip
  have:=I h.2
  simp only [aO]
  omega
def dD (bM:Nat)(m:List Fm): aq:=xs fun cs:List V=>star [pt bM (.cells (m.length*5) cs false),qL cs m]
abbrev DJ (v:V)(m:List (Int×Int)): aq:=ja (fun v x=>.pu (v=.int .i64 x)) v m
abbrev Gb (v:V)(m:List (Int×(Nat×Bool))): aq:=ja (fun v x=>.pu (v=.agg [.int .u64 (x.1:Int),.bool x.2])) v m
def nt (p q bM n:Nat)(wh di:V)(hand:Nat): List V:=[.ptr p 0,.ptr q 0,.sl bM 0 n (.exact n),wh,di,.int .i64 (hand:Int)]
def dL (r p q:Nat)(π:Pl): aq:=xs fun bM:Nat=>xs fun wh:V=>xs fun di:V =>
 star [pt r (.cells 6 (nt p q bM π.ah.length wh di π.hand) false),dD bM π.ah,DJ wh π.br,Gb di π.b_]
section
variable {P:Program} {h:H} {S:List aq} {X:aq} {r q p bM:Nat} {v:V} {π:Pl} {m:List Fm}
theorem eB : Sat h (dL r p q π::S)↔∃bM wh di,Sat h (pt r (.cells 6 (nt p q bM π.ah.length wh di π.hand) false)::dD bM π.ah::DJ wh π.br::Gb di π.b_::S):=by
 simp only [dL,j4,c6,gK,cV]
theorem iO : Sat h (dD bM m::S)↔∃cs,Sat h (pt bM (.cells (m.length*5) cs false)::qL cs m::S):=by
 simp only [dD,j4,c6,gK,cV]
theorem gW {i:Nat}{f:Fm}(s:Sat h (dD bM m::S))(hf:m[i]?=some f): ∃pre v post,pre.length=i*5∧(pre++(d_ f v++post)).length=m.length*5 ∧
  Sat h (pt bM (.cells (m.length*5) (pre++(d_ f v++post)) false)::qL (pre++(d_ f v++post)) m::.cu v f.b::S):=by
 obtain ⟨cs,s⟩:=iO.1 s
 obtain ⟨a,b,q1,q2,q3⟩:=s.at (k:=1) rfl
 obtain ⟨pre,v,post,e1,e2,e3,_⟩:=vr q3 hf
 have hl:=O4 q3
 subst e1
 refine ⟨pre,v,post,e2,hl,?_⟩
 have s1:Sat h (qL (pre++(d_ f v++post)) m::pt bM (.cells (m.length*5) (pre++(d_ f v++post)) false)::S):=s.ae [1]
 have s2:=(s1.dup (aS.fm _ _)).hU (B:=.cu v f.b) fun a' b' h'=>by
  obtain ⟨Vd,v',I,J,td,TY,_⟩:=vr h' hf
  have:=AM J (by omega)
  obtain ⟨_,h5⟩:=this
  have h6:=fb (fun l=>l[1]?) h5
  simp [d_] at h6
  subst h6
  exact TY
 exact s2.ae [2,1,0]
theorem eY {i:Nat}{f f':Fm}{v':V}{pre post:List V}{n:Nat}(s:Sat h (pt bM (.cells n (pre++(d_ f' v'++post)) false)::qL (pre++(d_ f v++post)) m::.cu v' f'.b::S))(hn:n=m.length*5)(hf:m[i]?=some f)(hp:pre.length=i*5): Sat h (dD bM (m.set i f')::S):=by
 subst hn
 have s1:Sat h (qL (pre++(d_ f v++post)) m::.cu v' f'.b::pt bM (.cells (m.length*5) (pre++(d_ f' v'++post)) false)::S):=s.ae [1,1,0]
 have s2:=s1.two (C:=qL (pre++(d_ f' v'++post)) (m.set i f')) (aS.fm _ _) (aS.cu _ _) fun a b h1 h2=>by
  obtain ⟨Vd,v0,I,J,td,TY,WZ⟩:=vr h1 hf
  obtain ⟨h3,h4⟩:=AM J (by omega)
  subst h3
  have h5:post=I:=by
   have:=AM h4 (by simp [d_])
   exact this.2
  subst h5
  exact WZ f' v' a b h2 (PM.le_refl _) (PM.le_refl _)
 refine iO.2 ⟨pre++(d_ f' v'++post),?_⟩
 rw [bQ]
 exact s2.ae [1]
theorem gE {pre row post:List V}{a j:Nat}{x:V}(hp:pre.length=a)(I:nth row j=some x): nth (pre++(row++post)) (a+j)=some x:=by
 rw [eW] at I ⊢
 have J:=(List.getElem?_eq_some_iff.1 I).1
 rw [iP (by omega),show a+j-pre.length=j by omega,gx J,I]
theorem O5 {pre row post:List V}{a j:Nat}{x:V}(J:pre.length=a)(I:j<row.length): (pre++(row++post)).set (a+j) x=pre++(row.set j x++post):=by
 rw [Av _ _ (by omega),show a+j-pre.length=j by omega,Aw _ _ I]
theorem Sat.stM {t:TypeId}{k id n a j:Nat}{pre row post:List V}{x:V}(s:Sat h S)(hk:getA S k=some (pt id (.cells n (pre++(row++post)) false)))(hs:bj P t=some 1)(hp:pre.length=a)(J:(pre++(row++post)).length=n)(hj:j<row.length)(hv:x.cells=[x])(I:storable x=true):
  ∃h₁,fH P h t (.ptr id (a+j)) x=some h₁∧Sat h₁ (setA S k (pt id (.cells n (pre++(row.set j x++post)) false))):=by
 have:=s.iF (P:=P) (t:=t) (off:=a+j) (v:=x) hk hs J (by rw [←J]; simp; omega) hv I
 rwa [O5 hp hj] at this
theorem Sat.DL {t:TypeId}{k id n a:Nat}{pre row row' post:List V}(s:Sat h S)(hk:getA S k=some (pt id (.cells n (pre++(row++post)) false)))(hs:bj P t=some row'.length)(hp:pre.length=a)(J:(pre++(row++post)).length=n)(hr:row'.length=row.length)(I:row'.all storable=true):
  ∃h₁,fH P h t (.ptr id a) (.agg row')=some h₁∧Sat h₁ (setA S k (pt id (.cells n (pre++(row'++post)) false))):=by
 have:=s.Wz (P:=P) (t:=t) (off:=a) (l:=row') hk hs J (by rw [←J]; simp; omega) I
 have e:(pre++(row++post)).take a++(row'++(pre++(row++post)).drop (a+row'.length))=pre++(row'++post):=by
  rw [nO hp,vU,gy (by omega),cV,show a+row'.length-pre.length=row.length by omega,List.drop_left' rfl]
 rwa [e] at this
theorem W3 {t:TypeId}{k id n a:Nat}{pre row post:List V}(s:Sat h S)(J:getA S k=some (pt id (.cells n (pre++(row++post)) false)))(ht:bZ P t=some true)(hs:bj P t=some row.length)(hp:pre.length=a)(I:(pre++(row++post)).length=n): loadV P h t (.ptr id a)=some (.agg row):=by
 rw [TO ht hs (s.row J) I (by rw [←I]; simp; omega),List.drop_left' hp,nO rfl]
end
abbrev aF := Pl×LD
def qj (π:Pl)(n:Int): Nat:=match lookL n π.b_ with
 | some x=>x.1
 | none=>0
def outF (ε:aF)(i:Nat): Int×aF:=match ε.1.ah[i]? with
 | none=>(0,ε)
 | some f=>if f.bf<0∨f.changed=false then (0,ε) else if bU f.b=false then (4,ε) else
  if (bR ε.2 (cP f.b 4 8)).1≠0 then ((bR ε.2 (cP f.b 4 8)).1,(ε.1,(bR ε.2 (cP f.b 4 8)).2)) else
  if ((bR ε.2 (cP f.b 4 8)).2.2.cS f.bf f.b).1≠0 then (((bR ε.2 (cP f.b 4 8)).2.2.cS f.bf f.b).1,(ε.1,((bR ε.2 (cP f.b 4 8)).2.1,((bR ε.2 (cP f.b 4 8)).2.2.cS f.bf f.b).2))) else
  (0,({ ε.1 with ah:=ε.1.ah.set i { f with changed:=false },b_:=dg f.bf (qj ε.1 f.bf,false) ε.1.b_ },((bR ε.2 (cP f.b 4 8)).2.1,((bR ε.2 (cP f.b 4 8)).2.2.cS f.bf f.b).2)))
section
variable {told:cN} {h:H} {S:List aq} {X:aq} {r k q p bM:Nat} {v x wh di:V} {l b:List Nat} {π:Pl} {μ:Lg} {δ:Dk}
theorem Rs (hT:W told){i:Nat}{f:Fm}(s:Sat h (pt r (.cells 6 (nt p q bM π.ah.length wh di π.hand) false)::dD bM π.ah::DJ wh π.br::Gb di π.b_::b7 q p μ::bx p δ::S))(hi:π.ah[i]?=some f)(Rr:μ.Ok)(DI:δ.Ok)(nu:f.b.length<1073741824)(hw:δ.waiting.length≤268435456):
  Call ⟨Tryz.prog,told⟩ 123 [.ptr r 0,.ptr bM (i*5)] h fun v h'=>v=.int .i64 (outF (π,μ,δ) i).1 ∧
   Sat h' (pt r (.cells 6 (nt p q bM (outF (π,μ,δ) i).2.1.ah.length wh di (outF (π,μ,δ) i).2.1.hand) false)::dD bM (outF (π,μ,δ) i).2.1.ah::DJ wh (outF (π,μ,δ) i).2.1.br::Gb di (outF (π,μ,δ) i).2.1.b_::b7 q p (outF (π,μ,δ) i).2.2.1::bx p (outF (π,μ,δ) i).2.2.2::S):=by
 have TZ:=s
 obtain ⟨pre,fv,post,I,hlen,s⟩:=gW (s.ae [1]) hi
 have T0:=(s.aH (k:=2) rfl (dc _ _))
 refine Call.of_wp (hT.free _ rfl) Tryz.func123 rfl rfl (zK 9 rfl (zf rfl (mO _ _) (zl rfl (s.ld (k:=0) rfl dY (gE I rfl)) ?_)))
 refine zd rfl (ag rfl rfl aP) ?_ ?_
 ·intro hq
  have hq:f.bf<0:=by simpa using hq
  have he:outF (π,μ,δ) i=(0,(π,μ,δ)):=by simp only [outF,hi]; rw [au (.inl hq)]
  rw [he]
  exact zk 13 rfl (WP.ret ⟨aa,_,rfl,rfl,TZ⟩)
 ·intro hq
  have hq:¬ f.bf<0:=by simpa using hq
  refine zk 3 rfl (zf rfl (Bi _ _) (zl rfl (s.ld (k:=0) rfl nD (gE I rfl)) ?_))
  have Dj:f.changed=false∨f.changed=true:=by cases f.changed <;> simp
  rcases Dj with hc | hc
  ·have he:outF (π,μ,δ) i=(0,(π,μ,δ)):=by simp only [outF,hi]; rw [au (.inr hc)]
   rw [he]
   refine zt rfl (fo rfl rfl) (by rw [hc]; rfl) ?_
   exact zk 7 rfl (WP.ret ⟨aa,_,rfl,rfl,TZ⟩)
  ·have he:outF (π,μ,δ) i=(if bU f.b=false then (4,(π,μ,δ)) else
    if (bR (μ,δ) (cP f.b 4 8)).1≠0 then ((bR (μ,δ) (cP f.b 4 8)).1,(π,(bR (μ,δ) (cP f.b 4 8)).2)) else
    if ((bR (μ,δ) (cP f.b 4 8)).2.2.cS f.bf f.b).1≠0 then (((bR (μ,δ) (cP f.b 4 8)).2.2.cS f.bf f.b).1,(π,((bR (μ,δ) (cP f.b 4 8)).2.1,((bR (μ,δ) (cP f.b 4 8)).2.2.cS f.bf f.b).2))) else
    (0,({ π with ah:=π.ah.set i { f with changed:=false },b_:=dg f.bf (qj π f.bf,false) π.b_ },((bR (μ,δ) (cP f.b 4 8)).2.1,((bR (μ,δ) (cP f.b 4 8)).2.2.cS f.bf f.b).2)))):=by
    simp only [outF,hi]; rw [ai (by rw [hc]; simp; omega)]
   rw [he]
   refine zh rfl (fo rfl rfl) (by rw [hc]; rfl) ?_
   refine zk 8 rfl (zf rfl (wN _ _) (zl rfl (s.ld (k:=0) rfl bN (gE I rfl)) (zc rfl (wU hT (s.ae [2]) (dc _ _) (by omega)) ?_)))
   rintro w h ⟨s,(⟨hg,rfl⟩ | ⟨hg,rfl⟩)⟩
   ·dsimp only [bringA,getA,aV] at s
    rw [ai (by rw [hg]; decide)]
    have L_:(bR (μ,δ) (cP f.b 4 8)).2.2.Ok:=pJ DI
    have Ru:(bR (μ,δ) (cP f.b 4 8)).2.2.waiting.length≤268435456:=by rw [nr]; exact hw
    have J:=O3 (n:=cP f.b 4 8) hT (s.ae [6,6]) Rr DI.bP
    generalize bR (μ,δ) (cP f.b 4 8)=x at J L_ Ru ⊢
    obtain ⟨xe,xl,xd⟩:=x
    dsimp only at J L_ Ru ⊢
    refine zk 16 rfl (zh rfl (ag rfl rfl aJ) (rfl) (zk 8 rfl (zf rfl (OI _ _) (zl rfl (s.ld (k:=3) rfl LM rfl) (zm rfl (zc rfl (J) ?_))))))
    rintro w h ⟨rfl,s⟩
    refine zk 5 rfl ?_
    by_cases hx:xe=0
    ·subst hx
     rw [ai (by decide)]
     refine zh rfl (ag rfl rfl aJ) (rfl) ?_
     have Di:=fun (s:Sat h (bx p xd::.cu fv f.b::b7 q p xl::pt bM (.cells (π.ah.length*5) (pre++(d_ f fv++post)) false)::qL (pre++(d_ f fv++post)) π.ah::pt r (.cells 6 (nt p q bM π.ah.length wh di π.hand) false)::DJ wh π.br::Gb di π.b_::S))=>O1 (n:=f.bf) hT s (dc fv f.b) nu L_.bP Ru
     generalize xd.cS f.bf f.b=y at Di ⊢
     obtain ⟨ye,yd⟩:=y
     dsimp only at Di ⊢
     have s:=s.ae [1,1,0]
     refine zk 5 rfl (WP.drawn [ak,ak,ak,ak,ak,ak,ak,ak,ak,ak,ak,ak,ak,ak] rfl (by kernel_rfl) (by kernel_rfl) ?_)
     refine zM rfl (zN rfl (zF rfl (wM _ _) (zL rfl (s.ld (k:=5) rfl rY rfl) (zM rfl (zN rfl (zF rfl (mO _ _) (zL rfl (s.ld (k:=3) rfl dY (gE I rfl)) (zM rfl (zN rfl (zF rfl (wN _ _) (zL rfl (s.ld (k:=3) rfl bN (gE I rfl)) (aC.any rfl rfl rfl rfl (OpR.call rfl rfl rfl rfl (Di s)) ?_))))))))))))
     rintro w h ⟨rfl,s⟩
     refine zA rfl ?_
     refine aC.nil ⟨⟨aa,aa,aa,aa,aa,aa,aa,aa,aa,aa,aa,aa,aa,aa,aa⟩,?_⟩
     refine zK 3 rfl ?_
     by_cases hy:ye=0
     ·subst hy
      rw [ai (by decide)]
      refine zh rfl (ag rfl rfl aJ) (rfl) (zk 7 rfl (zf rfl (Bi _ _) (zS rfl (s.stM (k:=3) (j:=4) rfl xp I hlen (by simp [d_]) rfl rfl) ?_)))
      intro h s
      have e5:(d_ f fv).set 4 (.bool false)=d_ { f with changed:=false } fv:=rfl
      rw [e5] at s
      have s:=s.ae [7,3,4]
      refine zk 2 rfl (WP.drawn [ak,ak,ak,ak,ak,ak,ak,ak,ak,ak,ak,ak,ak,ak,ak,ak,ak,ak,ak,ak] rfl (by kernel_rfl) (by kernel_rfl) ?_)
      refine zM rfl (zN rfl (zF rfl (qi _ _) (zL rfl (s.ld (k:=2) rfl wL rfl) (zM rfl (zN rfl (zF rfl (mO _ _) (zL rfl (s.ld (k:=1) rfl dY (gE I rfl)) (zM rfl (zN rfl (zF rfl (qi _ _) (zL rfl (s.ld (k:=2) rfl wL rfl) (zM rfl (zN rfl (zF rfl (mO _ _) (zL rfl (s.ld (k:=1) rfl dY (gE I rfl)) ?_)))))))))))))))
      have HR:∃b,dS Tryz.prog h 187 di (.int .i64 f.bf) false=some (.agg [.int .u64 (qj π f.bf:Nat),.bool b]):=by
       rcases mP (f:=fun v (x:Nat×Bool)=>.pu (v=.agg [.int .u64 (x.1:Int),.bool x.2])) (n:=f.bf) (fun _ _=>aS.pu _) s s8 bO wP with ⟨g1,_,g3⟩ | ⟨u,x,g1,_,g3,s'⟩
       ·exact ⟨false,by rw [g3]; simp only [qj,g1]; rfl⟩
       ·obtain ⟨rfl,_⟩:=qB.1 s'
        exact ⟨x.2,by rw [g3]; simp only [qj,g1]⟩
      obtain ⟨lb,HR⟩:=HR
      refine zO rfl (iZ rfl rfl HR) (zO rfl (Su rfl (Sw (OJ _) rfl)) (zO rfl (cW rfl (by rw [SP]; rfl)) ?_))
      refine aC.j3 rfl rfl rfl (OpR.mapUpdate rfl rfl rfl rfl (mu (f:=fun v (x:Nat×Bool)=>.pu (v=.agg [.int .u64 (x.1:Int),.bool x.2])) (x:=(qj π f.bf,false)) (fun _ _=>aS.pu _) (s.gp rfl) s8 bO)) ?_
      intro w h s
      refine aC.nil ⟨⟨aa,aa,aa,aa,aa,aa,aa,aa,aa,aa,aa,aa,aa,aa,aa,aa,aa,aa,aa,aa,aa⟩,?_⟩
      refine zK 4 rfl (WP.ret ⟨aa,_,rfl,?_⟩)
      refine ⟨rfl,?_⟩
      have s:=eY (i:=i) (f':={ f with changed:=false }) (s.ae [1,5,3]) rfl hi I
      have e6:(π.ah.set i { f with changed:=false }).length=π.ah.length:=bQ
      rw [e6]
      exact s.ae [2,0,3,0,1,0]
     ·rw [au hy]
      refine zt rfl (ag rfl rfl aJ) (by simp; exact hy) ?_
      refine zk 7 rfl (WP.ret ⟨aa,_,rfl,?_⟩)
      refine ⟨rfl,?_⟩
      have s:=iO.2 ⟨_,s.ae [3,3]⟩
      exact (s.del 2).ae [3,0,2,2,1,0]
    ·rw [au hx]
     refine zt rfl (ag rfl rfl aJ) (by simp; exact hx) ?_
     refine zk 7 rfl (WP.ret ⟨aa,_,rfl,?_⟩)
     refine ⟨rfl,?_⟩
     have s:=iO.2 ⟨_,s.ae [3,3]⟩
     exact (s.del 3).ae [3,0,2,2,0,0]
   ·dsimp only [bringA,getA,aV] at s
    rw [au hg]
    refine zk 16 rfl (zt rfl (ag rfl rfl aJ) (rfl) (zk 7 rfl (WP.ret ⟨aa,_,rfl,?_⟩)))
    refine ⟨rfl,?_⟩
    have s:=iO.2 ⟨_,s.ae [1,1]⟩
    exact (s.del 1).ae [1,0]
end
structure eN (π fB:Pl): Prop where
 br:fB.br=π.br
 b_:fB.b_=π.b_
 len:fB.ah.length=π.ah.length
 get:∀(i:Nat) (f:Fm),π.ah[i]?=some f→∃t,fB.ah[i]?=some { f with dK:=t }
theorem eN.refl (π:Pl): eN π π:=⟨rfl,rfl,rfl,fun _ f h=>⟨f.dK,h⟩⟩
theorem eN.trans {π J I:Pl}(a:eN π J)(b:eN J I): eN π I:=by
 refine ⟨b.br.trans a.br,b.b_.trans a.b_,b.len.trans a.len,fun i f h => ?_⟩
 obtain ⟨t,ht⟩:=a.get i f h
 obtain ⟨t',W4⟩:=b.get i _ ht
 exact ⟨t',W4⟩
theorem eN.hand {π:Pl}{n:Nat}: eN π { π with hand:=n }:=⟨rfl,rfl,rfl,fun _ f h=>⟨f.dK,h⟩⟩
theorem eN.O6 {π:Pl}{i:Nat}{f:Fm}(hi:π.ah[i]?=some f): eN π { π with ah:=π.ah.set i { f with dK:=false } }:=by
 refine ⟨rfl,rfl,bQ,fun j g I => ?_⟩
 by_cases h:i=j
 ·subst h
  rw [hi] at I
  have:=bI I
  subst this
  have J:=(List.getElem?_eq_some_iff.1 hi).1
  exact ⟨false,by simp [vT,J]⟩
 ·exact ⟨g.dK,by simp only [vT,ai h]; exact I⟩
theorem HS {P:Program}{h:H}{t:TypeId}{x y:Operand}{a b:Nat}(I:0<b): binV P h .rem t x y (.int .i64 (a:Int)) (.int .i64 (b:Int))=some (.int .i64 ((a%b:Nat):Int)):=by
 simp only [binV,ikBeq,af,intV]
 have:intBeq (b:Int) 0=false:=by rw [lM]; simp; omega
 rw [this,ay,Int.tmod_eq_emod_of_nonneg (by omega)]
 rfl
section
variable {told:cN} {h:H} {S:List aq} {X:aq} {r k q p bM:Nat} {v x wh di:V} {l b:List Nat} {π:Pl} {m:List Fm}
theorem k_ {i n:Nat}(hi:i<n): indexAddrV Tryz.prog 185 (.sl bM 0 n (.exact n)) (.int .i64 (i:Int))=some (.ptr bM (i*5)):=by
 rw [SL,show (decide ((0:Int)≤(i:Int))&&decide ((i:Int)<(n:Int)))=true by simp; omega,af]
 simp
theorem E3 (I:W told){f:Fm}(s:Sat h S)(hv:storable v=true): Call ⟨Tryz.prog,told⟩ 169 [.agg (d_ f v)] h fun w h'=>w=.bool (decide (f.pins=0))∧Sat h' S:=by
 refine Call.of_wp (I.free _ rfl) Tryz.func169 rfl rfl (zg rfl (az.cG s rfl rfl rfl (fO rfl (by simp only [V.cells,d_,ij,iR,hv]; rfl)) ?_))
 intro J h s
 dsimp only [V.cells,d_] at s
 exact zk 4 rfl (zf rfl (ob _ _) (zl rfl (s.ld (k:=0) rfl dY rfl) (zb rfl iz (zk 2 rfl (WP.ret ⟨aa,_,rfl,rfl,s.drop⟩)))))
theorem Ma (hT:W told){f:Fm}(s:Sat h (dD bM m::S))(h0:m[0]?=some f)(hp:f.pins=0): Call ⟨Tryz.prog,told⟩ 190 [.sl bM 0 m.length (.exact m.length),.fn (.func 169) [] []] h fun w h'=>w=.int .i64 0∧Sat h' (dD bM m::S):=by
 have hl:=(List.getElem?_eq_some_iff.1 h0).1
 obtain ⟨pre,fv,post,I,hlen,s⟩:=gW s h0
 have J:=(s.aH (k:=2) rfl (dc _ _)).cells.2
 refine Call.of_wp (hT.free _ rfl) Tryz.func190 rfl rfl (zK 8 rfl (zo rfl (aM rfl rfl rfl (oc rfl vq)) (zk 2 rfl (WP.block (WP.loop (zg rfl (zt rfl (ag rfl rfl aP) (by simp; omega) ?_)))))))
 refine zk 5 rfl (WP.block (zK 10 rfl (zo rfl (cx rfl rfl (k_ (i:=0) hl)) (zl rfl (W3 s (k:=0) rfl SN zE I hlen) (zc rfl (E3 hT s J) ?_)))))
 rintro w h ⟨rfl,s⟩
 rw [dy hp]
 exact zk 7 rfl (WP.ret ⟨aa,_,rfl,rfl,(iO.2 ⟨_,s⟩).del 1⟩)
theorem E5 (I:W told){f:Fm}(s:Sat h (dD bM m::S))(J:m[0]?=some f)(hp:f.pins=0): Call ⟨Tryz.prog,told⟩ 168 [.sl bM 0 m.length (.exact m.length),.fn (.func 169) [] []] h fun w h'=>w=.bool true∧Sat h' (dD bM m::S):=by
 refine Call.of_wp (I.free _ rfl) Tryz.func168 rfl rfl (zK 8 rfl (zc rfl (Ma I s J hp) ?_))
 rintro w h ⟨rfl,s⟩
 refine zt rfl (ag rfl rfl u_) (by decide) ?_
 exact zk 2 rfl (WP.ret ⟨aa,_,rfl,rfl,s⟩)
noncomputable def W5 : Code:=eD [1,0,0,1,0,0] ((Tryz.f122.body).getD .skip)
noncomputable def Rv : Code:=eD [1,0,1,1,1,0,0] ((Tryz.f122.body).getD .skip)
theorem E6 {wh di:V}{hand:Nat}: ∀(j i:Nat) (h:H) (E:List (Nat×V)) (Q:Ex→List (Nat×V)→H→Prop),i+j=m.length→m.length<4294967296 →
  Sat h (pt r (.cells 6 (nt p q bM m.length wh di hand) false)::dD bM m::S)→Has E [(0,.ptr r 0),(10,.int .i64 m.length),(11,.int .i64 i)] →
  (∀E' (i:Nat) (f:Fm),m[i]?=some f→f.bf<0→look E' 2=some (.int .i64 (i:Int))→Q .ret E' h) →
  (∀E',Has E' [(0,.ptr r 0)]→Q (.exit 0) E' h)→WP ⟨Tryz.prog,told⟩ 70 (.loop W5) E h Q:=by
 intro j
 induction j with
 | zero =>
  intro i h E Q hi hm s hE hr hx
  refine WP.loop (WP.has hE (zg rfl (zh rfl (ag rfl rfl aP) (by simp; omega) ?_)))
  exact zk 3 rfl (WP.exit (hx _ ⟨rfl,aa⟩))
 | succ j ih =>
  intro i h E Q hi hm s hE hr hx
  have hc:m[i]?=some (m[i]'(by omega)):=aN _
  generalize (m[i]'(by omega))=f at hc
  obtain ⟨pre,fv,post,I,hlen,s'⟩:=gW (s.ae [1]) hc
  refine WP.loop (WP.has hE (zg rfl (zt rfl (ag rfl rfl aP) (by simp; omega) ?_)))
  refine zk 5 rfl (WP.block (zK 9 rfl (zf rfl (j6 _ _) (zl rfl (s.ld (k:=0) rfl ng rfl) (zm rfl (zo rfl (cx rfl rfl (k_ (i:=i) (by omega))) ?_))))))
  refine zf rfl (mO _ _) (zl rfl (s'.ld (k:=0) rfl dY (gE I rfl)) ?_)
  refine zd rfl (ag rfl rfl aP) ?_ ?_
  ·intro J
   have J:f.bf<0:=by simpa using J
   exact zk 7 rfl (WP.ret (hr _ i f hc J rfl))
  ·intro J
   refine zv (zj rfl (WP.skip (zr rfl (zb rfl (by exact bk (aA (by omega) (by omega))) ?_))))
   refine zm rfl (zv ?_)
   exact ih (i+1) h _ Q (by omega) hm s ⟨rfl,rfl,rfl,aa⟩ hr hx
def oh (m:List Fm): Nat:=(m.filter fun f=>f.dK).length
theorem xx {f:Fm}: ∀ {m:List Fm} {i:Nat},m[i]?=some f→f.dK=true→oh (m.set i { f with dK:=false })+1=oh m:=by
 intro m
 induction m with
 | nil=>intro i h; simp at h
 | cons g m J =>
  intro i h I
  cases i with
  | zero=>simp at h; subst h; simp [oh,I]
  | succ i =>
   rw [jQ] at h
   have:=J h I
   simp only [oh,AE,List.filter_cons] at this ⊢
   split <;> (try simp only [aO]) <;> omega
theorem Aa {wh di:V}{f:Fm}{h:H}{E:List (Nat×V)}{Q:Ex→List (Nat×V)→H→Prop}(hf:π.ah[π.hand]?=some f)(hm:π.ah.length<4294967296)(hp:f.pins=0)
 (s:Sat h (pt r (.cells 6 (nt p q bM π.ah.length wh di π.hand) false)::dD bM π.ah::S))(hE:Has E [(0,.ptr r 0)])
 (hr:f.dK=false→∀E' h',look E' 2=some (.int .i64 (π.hand:Int))→Sat h' (pt r (.cells 6 (nt p q bM π.ah.length wh di ((π.hand+1)%π.ah.length)) false)::dD bM π.ah::S)→Q .ret E' h')
 (hx:f.dK=true→∀E' h',Has E' [(0,.ptr r 0)]→Sat h' (pt r (.cells 6 (nt p q bM (π.ah.set π.hand { f with dK:=false }).length wh di ((π.hand+1)%π.ah.length)) false)::dD bM (π.ah.set π.hand { f with dK:=false })::S)→WP ⟨Tryz.prog,told⟩ 70 (.loop Rv) E' h' Q):
  WP ⟨Tryz.prog,told⟩ 70 (.loop Rv) E h Q:=by
 have hl:=(List.getElem?_eq_some_iff.1 hf).1
 refine WP.loop (WP.has hE (WP.block (zK 4 rfl (zf rfl (Bg _ _) (zl rfl (s.ld (k:=0) rfl dY rfl) (zk 6 rfl (zf rfl (j6 _ _) (zl rfl (s.ld (k:=0) rfl ng rfl) (zm rfl (zo rfl (cx rfl rfl (k_ (i:=π.hand) hl)) (zk 3 rfl (WP.drawn [ak,ak,ak,ak,ak,ak,ak,ak,ak,ak,ak,ak,ak,ak,ak] rfl (by kernel_rfl) (by kernel_rfl) ?_))))))))))))
 refine zM rfl (zM rfl (zN rfl (zF rfl (Bg _ _) (zL rfl (s.ld (k:=0) rfl dY rfl) (zO rfl (ag rfl rfl (by exact bk (aA (by omega) (by omega)))) ?_)))))
 refine zM rfl (zN rfl (zF rfl (j6 _ _) (zL rfl (s.ld (k:=0) rfl ng rfl) (zO rfl (aM rfl rfl rfl (oc rfl vq)) (zO rfl (ag rfl rfl (HS (a:=π.hand+1) (by omega))) ?_)))))
 refine zN rfl (zF rfl (Bg _ _) (aC.j3 rfl rfl rfl (OpR.sS rfl rfl rfl (s.iF (k:=0) rfl kf rfl (by decide) rfl rfl)) ?_))
 rintro v h ⟨rfl,s⟩
 have s:Sat h (pt r (.cells 6 (nt p q bM π.ah.length wh di ((π.hand+1)%π.ah.length)) false)::dD bM π.ah::S):=s
 refine aC.nil ⟨⟨aa,aa,aa,aa,aa,aa,aa,aa,aa,aa,aa,aa,aa,aa,aa,aa⟩,?_⟩
 obtain ⟨pre,fv,post,I,hlen,s⟩:=gW (s.ae [1]) hf
 refine zw (WP.block (zK 4 rfl (zf rfl (ob _ _) (zl rfl (s.ld (k:=0) rfl dY (gE I rfl)) (zh rfl (ag rfl rfl h_) (by rw [hp]; decide) ?_)))))
 refine zk 7 rfl (zf rfl (Bh _ _) (zl rfl (s.ld (k:=0) rfl nD (gE I rfl)) (zk 2 rfl ?_)))
 have xy:f.dK=false∨f.dK=true:=by cases f.dK <;> simp
 rcases xy with J | J
 ·refine WP.Ns rfl (J) ?_
  refine zK 5 rfl (WP.ret (hr J _ _ rfl ?_))
  have s:=iO.2 ⟨_,s.ae [0,0]⟩
  exact (s.del 1).ae [1,0]
 ·skip
  refine WP.Ho rfl (J) (zK 3 rfl (zf rfl (Bh _ _) (zS rfl (s.stM (k:=0) (j:=3) rfl xp I hlen (by simp [d_]) rfl rfl) ?_)))
  intro h s
  have e5:(d_ f fv).set 3 (.bool false)=d_ { f with dK:=false } fv:=rfl
  rw [e5] at s
  refine zv (WP.exit (hx J _ _ ⟨rfl,aa⟩ ?_))
  have s:=eY (i:=π.hand) (f':={ f with dK:=false }) s rfl hf I
  rw [bQ]
  exact s.ae [1,0]
theorem E7 {wh di:V}: ∀(fuel:Nat) (π:Pl) (h:H) (E:List (Nat×V)) (Q:Ex→List (Nat×V)→H→Prop),oh π.ah≤fuel→π.hand<π.ah.length→π.ah.length<4294967296→(∀f∈π.ah,f.pins=0) →
  Sat h (pt r (.cells 6 (nt p q bM π.ah.length wh di π.hand) false)::dD bM π.ah::S)→Has E [(0,.ptr r 0)] →
  (∀E' h' (i:Nat) (I:Pl) (f:Fm),eN π I→I.ah[i]?=some f→I.hand<I.ah.length→look E' 2=some (.int .i64 (i:Int))→Sat h' (pt r (.cells 6 (nt p q bM I.ah.length wh di I.hand) false)::dD bM I.ah::S)→Q .ret E' h') →
  WP ⟨Tryz.prog,told⟩ 70 (.loop Rv) E h Q:=by
 intro fuel
 induction fuel with
 | zero =>
  intro π h E Q ht hh hm hp s hE hr
  have J:π.ah[π.hand]?=some (π.ah[π.hand]'hh):=aN _
  generalize (π.ah[π.hand]'hh)=f at J
  refine Aa J hm (hp f (aY J)) s hE (fun h1 E' h' h2 s' => ?_) (fun h1 => ?_)
  ·exact hr E' h' π.hand { π with hand:=(π.hand+1)%π.ah.length } f eN.hand J (wk _ (by omega)) h2 s'
  ·have:=xx J h1
   omega
 | succ fuel ih =>
  intro π h E Q ht hh hm hp s hE hr
  have J:π.ah[π.hand]?=some (π.ah[π.hand]'hh):=aN _
  generalize (π.ah[π.hand]'hh)=f at J
  refine Aa J hm (hp f (aY J)) s hE (fun h1 E' h' h2 s' => ?_) (fun h1 E' h' k8 s' => ?_)
  ·exact hr E' h' π.hand { π with hand:=(π.hand+1)%π.ah.length } f eN.hand J (wk _ (by omega)) h2 s'
  ·have kR:=xx J h1
   have hn:eN π { π with ah:=π.ah.set π.hand { f with dK:=false },hand:=(π.hand+1)%π.ah.length }:=(eN.O6 J).trans eN.hand
   refine ih { π with ah:=π.ah.set π.hand { f with dK:=false },hand:=(π.hand+1)%π.ah.length } h' E' Q (by show oh (π.ah.set π.hand { f with dK:=false })≤fuel; omega) ?_ (by simp only [bQ]; exact hm) (fun g hg => ?_) s' k8 (fun E2 h2 i I g W6 hg Rw hl s2=>hr E2 h2 i I g (hn.trans W6) hg Rw hl s2)
   ·simp only [bQ]; exact wk _ (by omega)
   ·rcases kB hg with hg | rfl
    ·exact hp g hg
    ·exact hp f (aY J)
theorem Mb (hT:W told){wh di:V}(s:Sat h (pt r (.cells 6 (nt p q bM π.ah.length wh di π.hand) false)::dD bM π.ah::S))(hh:π.hand<π.ah.length)(hm:π.ah.length<4294967296)(hp:∀f∈π.ah,f.pins=0):
  Call ⟨Tryz.prog,told⟩ 122 [.ptr r 0] h fun v h'=>∃(i:Nat) (I:Pl) (f:Fm),v=.int .i64 (i:Int)∧eN π I∧I.ah[i]?=some f∧I.hand<I.ah.length ∧
   Sat h' (pt r (.cells 6 (nt p q bM I.ah.length wh di I.hand) false)::dD bM I.ah::S):=by
 have J:π.ah[0]?=some (π.ah[0]'(by omega)):=aN _
 generalize (π.ah[0]'(by omega))=f0 at J
 have s0:=s
 refine Call.of_wp (hT.free _ rfl) Tryz.func122 rfl rfl (zK 4 rfl (WP.scope (zK 5 rfl (zf rfl (j6 _ _) (zl rfl (s.ld (k:=0) rfl ng rfl) (zo rfl (aM rfl rfl rfl (oc rfl vq)) (zk 2 rfl (WP.block ?_))))))))
 refine E6 π.ah.length 0 _ _ _ (by omega) hm s ⟨rfl,rfl,rfl,aa⟩ (fun E' i f hf _ h2 => ?_) (fun E' k8 => ?_)
 ·exact ⟨aa,_,Dd h2,i,π,f,rfl,eN.refl π,hf,hh,s⟩
 ·skip
  refine WP.has k8 (zK 5 rfl (zf rfl (j6 _ _) (zl rfl (s.ld (k:=0) rfl ng rfl) (zc rfl (E5 hT (s.ae [1]) J (hp f0 (aY J))) ?_))))
  rintro w h ⟨rfl,s⟩
  refine zo rfl (fo rfl rfl) (zk 4 rfl (WP.label (WP.block ?_)))
  refine E7 (oh π.ah) π _ _ _ (aD _) hh hm hp (s.ae [1,0]) ⟨rfl,aa⟩ (fun E' h' i I f hn hf Rw h2 s' => ?_)
  exact ⟨aa,_,Dd h2,i,I,f,rfl,hn,hf,Rw,s'⟩
end
end Go.Proofs.YtefepnnfphdkpaaGreat.Am
