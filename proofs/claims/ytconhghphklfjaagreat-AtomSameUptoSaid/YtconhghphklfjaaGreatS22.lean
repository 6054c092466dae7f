/- AtomSame: a part of its proof; conditions: its statement's. -/
import Derived.Test.YtconhghphklfjaaGreatS21
set_option linter.defProp false
namespace Go.Proofs.YtconhghphklfjaaGreat.Am
open Go
def yN:=@Tryz.underlying137
def Dk.cG (δ:Dk): Int×Dk:=if δ.dead=true then (9,δ) else if δ.aI=0 then (9,δ.die) else (0,{ δ.c_ with aR:=δ.log.length })
def Dk.bJ (δ:Dk)(n:Int)(b:List Nat): Int×Dk:=if δ.dead=true then (9,δ) else if ¬(0≤n∧n<δ.aq.length∧b.length=512) then (1,δ) else
 if δ.aI=0 then (9,{ δ.die with eH:=some (n.toNat,b) }) else (0,δ.wr n b)
def Dk.qj (δ:Dk)(b:List Nat): Int×Dk:=if δ.dead=true then (9,δ) else if 64<b.length then (1,δ) else if δ.aI=0 then (9,δ.die) else (0,{ δ.c_ with mark:=b })
def Dk.kz (δ:Dk)(b:List Nat): Int×Dk:=if δ.dead=true then (9,δ) else if δ.room<δ.log.length+b.length then (7,δ) else if δ.aI=0 then (9,{ δ.die with tail:=b }) else (0,{ δ.c_ with log:=δ.log++b })
def Dk.nm (δ:Dk)(n:Int)(b:List Nat): Int×Dk:=if δ.dead=true then (9,δ) else if ¬(0≤n∧n≤δ.aR∧b.length≤64) then (1,δ) else if δ.aI=0 then (9,δ.die) else
 (0,{ δ.c_ with log:=δ.log.drop n.toNat,aR:=δ.aR-n.toNat,mark:=b })
def Dk.rH (δ:Dk)(n:Int): Int:=if δ.dead=true then 9 else if ¬(0≤n∧n<δ.aq.length) then 1 else 0
structure Dk.Ok (δ:Dk): Prop where
 aI:δ.aI<4294967296
 len:δ.log.length≤16777216
 room:δ.room≤16777216
 now:∀e∈δ.now,e.2.length=512
 aq:∀(i:Nat) (b:List Nat),δ.aq[i]?=some (some b)→b.length=512
 aR:δ.aR≤δ.log.length
 many:δ.aq.length≤65536
theorem Dk.Ok.c_ {δ:Dk}(h:δ.Ok): δ.c_.Ok:=⟨by have:=h.aI; simp only [Dk.c_]; split <;> omega,h.len,h.room,h.now,h.aq,h.aR,h.many⟩
theorem Dk.Ok.die {δ:Dk}(h:δ.Ok): δ.die.Ok:=⟨h.aI,h.len,h.room,h.now,h.aq,h.aR,h.many⟩
theorem Dk.Ok.cG {δ:Dk}(h:δ.Ok): δ.cG.2.Ok:=by
 unfold Dk.cG
 split
 ·exact h
 ·split
  ·exact h.die
  ·exact ⟨h.c_.aI,h.len,h.room,h.now,h.aq,aL _,h.many⟩
theorem fe {α:Type}{n:Int}{x:α}: ∀ {l:List (Int×α)},lookL n l=some x→(n,x)∈l:=by
 intro l
 induction l with
 | nil=>intro h; cases h
 | cons e l I =>
  intro h
  simp only [lookL] at h
  by_cases he:e.1=n
  ·rw [aj he] at h
   have:=bt h
   obtain ⟨a,b⟩:=e
   simp only at he this
   subst he; subst this
   exact bp
  ·rw [af he] at h; exact bl _ (I h)
theorem Dk.Ok.at {δ:Dk}(I:δ.Ok)(n:Int): (δ.at n).length=512:=by
 unfold Dk.at
 cases J:lookL n δ.now with
 | some b=>exact I.now _ (fe J)
 | none =>
  cases U:δ.aq[n.toNat]? with
  | none=>exact ff
  | some o =>
   cases o with
   | none=>exact ff
   | some b=>exact I.aq _ _ U
section
variable {told:dF} {h:H} {S:List ax} {X:ax} {k q p:Nat} {v x:V} {l b:List Nat} {μ:Lg} {δ:Dk}
theorem Ta (U:W told)(s:Sat h (aC p δ::S))(hf:δ.aI<4294967296): Call ⟨Tryz.prog,told⟩ 106 [.ptr p 0] h fun v h'=>v=.int .i64 δ.cG.1∧Sat h' (aC p δ.cG.2::S):=by
 refine (EP U s hf).mono fun v h' hr => ?_
 unfold Dk.cG
 rcases hr with ⟨I,rfl,s⟩ | ⟨I,J,rfl,s⟩ | ⟨I,J,rfl,s⟩
 ·rw [aj I]; exact ⟨rfl,s⟩
 ·rw [af (by rw [I]; decide),aj J]; exact ⟨rfl,s⟩
 ·rw [af (by rw [I]; decide),af J]; exact ⟨rfl,s⟩
theorem J2 (hT:W told){n:Int}(s:Sat h (aC p δ::X::S))(hX:cR X (cV x b))(hb:b.length<1073741824)(hf:δ.aI<4294967296)(hw:δ.waiting.length≤268435456):
  Call ⟨Tryz.prog,told⟩ 108 [.ptr p 0,.int .i64 n,x] h fun v h'=>v=.int .i64 (δ.bJ n b).1∧Sat h' (aC p (δ.bJ n b).2::X::S):=by
 refine (Np hT s hX hb hf hw).mono fun v h' hr => ?_
 unfold Dk.bJ
 rcases hr with ⟨I,rfl,s⟩ | ⟨I,J,rfl,s⟩ | ⟨I,U,h2,h3,J,rfl,s⟩ | ⟨I,U,h2,h3,J,rfl,s⟩
 ·rw [aj I]; exact ⟨rfl,s⟩
 ·rw [af (by rw [I]; decide),aj J]; exact ⟨rfl,s⟩
 ·rw [af (by rw [I]; decide),af (by simp [U,h2,h3]),aj J]; exact ⟨rfl,s⟩
 ·rw [af (by rw [I]; decide),af (by simp [U,h2,h3]),af J]; exact ⟨rfl,s⟩
theorem NF (U:W told){n:Int}(s:Sat h (aC p δ::S))(J:δ.Ok): Call ⟨Tryz.prog,told⟩ 96 [.ptr p 0,.int .i64 n] h fun v h' =>
  (δ.rH n≠0∧v=.bD [.bA,.int .i64 (δ.rH n)]∧Sat h' (aC p δ::S))∨(δ.rH n=0∧∃u,v=.bD [u,.int .i64 0]∧Sat h' (bG u (δ.at n)::aC p δ::S)):=by
 refine (PK U s (J.at n)).mono fun v h' hr => ?_
 unfold Dk.rH
 rcases hr with ⟨I,rfl,s⟩ | ⟨I,h0,rfl,s⟩ | ⟨I,h1,h2,u,rfl,s⟩
 ·rw [aj I]; exact .inl ⟨by decide,rfl,s⟩
 ·rw [af (by rw [I]; decide),aj h0]; exact .inl ⟨by decide,rfl,s⟩
 ·rw [af (by rw [I]; decide),af (by simp [h1,h2])]; exact .inr ⟨rfl,u,rfl,s⟩
end
abbrev LD := Lg×Dk
def bB (x:LD)(n:Nat): Int×LD:=if n<x.1.base+x.1.forced then (0,x) else if x.2.cG.1≠0 then (x.2.cG.1,(x.1,x.2.cG.2)) else (0,({ x.1 with forced:=x.1.b.length },x.2.cG.2))
def iz (x:LD)(n:Nat): Int×LD:=if ¬(x.1.hasB n=true∧n<x.1.base+x.1.forced) then (1,x) else if (x.2.qj (gE x.1.base n)).1≠0 then ((x.2.qj (gE x.1.base n)).1,(x.1,(x.2.qj (gE x.1.base n)).2)) else
 (0,({ x.1 with check:=n },(x.2.qj (gE x.1.base n)).2))
def dr (μ:Lg)(kd:Int)(tx pv nx:Nat)(data:List Nat)(aP:List cm): List Nat:=ic (μ.base+μ.b.length) (dm kd tx pv nx data aP)
def bn (x:LD)(kd:Int)(tx pv nx:Nat)(data:List Nat)(aP:List cm): (Nat×Int)×LD :=
 if dM kd aP=false then ((0,1),x) else if 1048576<(dm kd tx pv nx data aP).length then ((0,2),x) else
 if (x.2.kz (dr x.1 kd tx pv nx data aP)).1≠0 then ((0,(x.2.kz (dr x.1 kd tx pv nx data aP)).1),(x.1,(x.2.kz (dr x.1 kd tx pv nx data aP)).2)) else
 ((x.1.base+x.1.b.length,0),(x.1.app (dr x.1 kd tx pv nx data aP),(x.2.kz (dr x.1 kd tx pv nx data aP)).2))
theorem IT {δ:Dk}: δ.cG.2.waiting=δ.waiting:=by
 unfold Dk.cG
 split
 ·rfl
 ·split <;> rfl
theorem kH {x:LD}{n:Nat}: (bB x n).2.2.waiting=x.2.waiting:=by
 unfold bB
 split
 ·rfl
 ·split <;> exact IT
theorem Dk.Ok.bJ {δ:Dk}{n:Int}{b:List Nat}(h:δ.Ok): (δ.bJ n b).2.Ok:=by
 unfold Dk.bJ
 split
 ·exact h
 ·split
  ·exact h
  ·rename_i U
   split
   ·exact ⟨h.aI,h.len,h.room,h.now,h.aq,h.aR,h.many⟩
   ·refine ⟨h.c_.aI,h.len,h.room,fun e he => ?_,h.aq,h.aR,h.many⟩
    have J:b.length=512:=by
     by_cases q:0≤n∧n<δ.aq.length∧b.length=512
     ·exact q.2.2
     ·exact absurd q U
    have:∀l:List (Int×List Nat),(∀e∈l,e.2.length=512)→∀e∈cK n b l,e.2.length=512:=by
     intro l
     induction l with
     | nil=>intro _ e he; simp [cK] at he; subst he; exact J
     | cons x l ih =>
      intro I e he
      simp only [cK] at he
      split at he
      ·rcases List.mem_cons.1 he with rfl | he
       ·exact J
       ·exact I e (bl _ he)
      ·rcases List.mem_cons.1 he with rfl | he
       ·exact I _ bp
       ·exact ih (fun e he=>I e (bl _ he)) e he
    exact this δ.now h.now e he
theorem nR {x:LD}{n:Nat}(h:x.2.Ok): (bB x n).2.2.Ok:=by
 unfold bB
 split
 ·exact h
 ·split
  ·exact h.cG
  ·exact h.cG
theorem Lg.Ok.Tb {μ:Lg}(h:μ.Ok): ({ μ with forced:=μ.b.length }:Lg).Ok:=⟨h.size,h.many,h.low,h.wX,aL _,h.len,h.check⟩
theorem rI {x:LD}{n:Nat}(h:x.1.Ok): (bB x n).2.1.Ok:=by
 unfold bB
 split
 ·exact h
 ·split
  ·exact h
  ·exact h.Tb
section
variable {told:dF} {h:H} {S:List ax} {X:ax} {k q p:Nat} {v x:V} {l b:List Nat} {μ:Lg} {δ:Dk}
theorem D4 (hT:W told){n:Nat}(s:Sat h (bf q p μ::aC p δ::S))(U:μ.Ok)(hf:δ.aI<4294967296): Call ⟨Tryz.prog,told⟩ 68 [.ptr q 0,.int .u64 (n:Int)] h fun v h' =>
  v=.int .i64 (bB (μ,δ) n).1∧Sat h' (bf q p (bB (μ,δ) n).2.1::aC p (bB (μ,δ) n).2.2::S):=by
 refine (Nw hT s U hf).mono fun v h' hr => ?_
 unfold bB Dk.cG
 rcases hr with ⟨I,rfl,s⟩ | ⟨I,J,rfl,s⟩ | ⟨I,J,h0,rfl,s⟩ | ⟨I,J,h0,rfl,s⟩
 ·rw [aj I]; exact ⟨rfl,s⟩
 ·simp only [af (Nat.not_lt.2 I),aj J,jI,aj (by decide:¬ ((9:Int)=0))]; exact ⟨aa,s⟩
 ·simp only [af (Nat.not_lt.2 I),af (by rw [J]; decide:¬ δ.dead=true),aj h0,jI,aj (by decide:¬ ((9:Int)=0))]; exact ⟨aa,s⟩
 ·simp only [af (Nat.not_lt.2 I),af (by rw [J]; decide:¬ δ.dead=true),af h0,jI,not_true,bK]; exact ⟨aa,s⟩
theorem Tc (hT:W told){n:Nat}(s:Sat h (bf q p μ::aC p δ::S))(D5:μ.Ok)(hf:δ.aI<4294967296)(hn:n<18446744073709551616): Call ⟨Tryz.prog,told⟩ 69 [.ptr q 0,.int .u64 (n:Int)] h fun v h' =>
  v=.int .i64 (iz (μ,δ) n).1∧Sat h' (bf q p (iz (μ,δ) n).2.1::aC p (iz (μ,δ) n).2.2::S):=by
 refine (Nx hT s D5 hf hn).mono fun v h' hr => ?_
 have hm:¬ 64<(gE μ.base n).length:=by rw [uQ]; decide
 unfold iz Dk.qj
 rcases hr with ⟨I,rfl,s⟩ | ⟨I,J,U,rfl,s⟩ | ⟨I,J,U,h0,rfl,s⟩ | ⟨I,J,U,h0,rfl,s⟩
 ·rw [aj I]; exact ⟨rfl,s⟩
 ·simp only [af (fun q=>q ⟨I,J⟩:¬¬(μ.hasB n=true∧n<μ.base+μ.forced)),aj U,jI,aj (by decide:¬ ((9:Int)=0))]; exact ⟨aa,s⟩
 ·simp only [af (fun q=>q ⟨I,J⟩:¬¬(μ.hasB n=true∧n<μ.base+μ.forced)),af (by rw [U]; decide:¬ δ.dead=true),af hm,aj h0,jI,aj (by decide:¬ ((9:Int)=0))]; exact ⟨aa,s⟩
 ·simp only [af (fun q=>q ⟨I,J⟩:¬¬(μ.hasB n=true∧n<μ.base+μ.forced)),af (by rw [U]; decide:¬ δ.dead=true),af hm,af h0,jI,not_true,bK]; exact ⟨aa,s⟩
theorem G4 (hT:W told){kd:Int}{tx pv nx:Nat}{dt ch:V}{cs:List V}{data:List Nat}{aP:List cm}(s:Sat h (bf q p μ::aC p δ::X::.arr 4 ch cs::cT cs aP::S))(hX:cR X (cV dt data))(iE:Cz tx pv nx data aP)(D5:μ.Ok)(sI:δ.Ok):
  Call ⟨Tryz.prog,told⟩ 48 [.ptr q 0,.agg (iy kd tx pv nx dt ch)] h fun r h' =>
  r=.bD [.int .u64 ((bn (μ,δ) kd tx pv nx data aP).1.1:Nat),.int .i64 (bn (μ,δ) kd tx pv nx data aP).1.2] ∧
  Sat h' (bf q p (bn (μ,δ) kd tx pv nx data aP).2.1::aC p (bn (μ,δ) kd tx pv nx data aP).2.2::X::.arr 4 ch cs::cT cs aP::S):=by
 refine (Lu hT s hX iE D5 sI.aI sI.len sI.room).mono fun v h' hr => ?_
 unfold bn Dk.kz dr
 rcases hr with ⟨e,rfl,(⟨J,rfl⟩ | ⟨J,U,rfl⟩ | ⟨J,U,hd,rfl⟩ | ⟨J,U,hd,RX,rfl⟩),s⟩ | ⟨J,U,hd,I,h0,rfl,s⟩ | ⟨J,U,hd,I,h0,rfl,s⟩
 ·rw [aj J]; exact ⟨rfl,s⟩
 ·rw [af (by rw [J]; decide),aj U]; exact ⟨rfl,s⟩
 ·simp only [af (by rw [J]; decide:¬ dM kd aP=false),af (Nat.not_lt.2 U),aj hd,jI,aj (by decide:¬ ((9:Int)=0))]; exact ⟨rfl,s⟩
 ·simp only [af (by rw [J]; decide:¬ dM kd aP=false),af (Nat.not_lt.2 U),af (by rw [hd]; decide:¬ δ.dead=true),aj RX,jI,aj (by decide:¬ ((7:Int)=0))]; exact ⟨rfl,s⟩
 ·simp only [af (by rw [J]; decide:¬ dM kd aP=false),af (Nat.not_lt.2 U),af (by rw [hd]; decide:¬ δ.dead=true),af (Nat.not_lt.2 I),aj h0,jI,aj (by decide:¬ ((9:Int)=0))]; exact ⟨rfl,s⟩
 ·simp only [af (by rw [J]; decide:¬ dM kd aP=false),af (Nat.not_lt.2 U),af (by rw [hd]; decide:¬ δ.dead=true),af (Nat.not_lt.2 I),af h0,jI,not_true,bK]; exact ⟨aa,s⟩
end
structure Fm where
 aK:Int
 b:List Nat
 pins:Int
 e_:Bool
 changed:Bool
structure Pl where
 ak:List Fm
 aH:List (Int×Int)
 aQ:List (Int×(Nat×Bool))
 hand:Nat
def fC (f:Fm)(v:V): List V:=[.int .i64 f.aK,v,.int .i64 f.pins,.bool f.e_,.bool f.changed]
def uo : List V→List Fm→ax
 | [],[]=>.pu True
 | a::v::c::d::e::l,x::m=>.an (.an (.pu (a=.int .i64 x.aK∧c=.int .i64 x.pins∧d=.bool x.e_∧e=.bool x.changed)) (.ct v x.b)) (uo l m)
 | _,_=>.pu False
theorem aE.fm : ∀(m:List Fm) (l:List V),aE (uo l m):=by
 intro m
 induction m with
 | nil=>intro l; rcases l with _ | ⟨a,_ | ⟨b,_ | ⟨c,_ | ⟨d,_ | ⟨e,l⟩⟩⟩⟩⟩ <;> exact aE.pu _
 | cons x m I=>intro l; rcases l with _ | ⟨a,_ | ⟨b,_ | ⟨c,_ | ⟨d,_ | ⟨e,l⟩⟩⟩⟩⟩ <;> first | exact aE.pu _ | exact aE.an (aE.an (aE.pu _) (aE.ct _ _)) (I l)
theorem yO {a b:PM}: ∀ {m:List Fm} {l:List V} {i:Nat} {f:Fm},(uo l m).p a b→m[i]?=some f→∃pre v post,l=pre++(fC f v++post)∧pre.length=i*5∧(ax.ct v f.b).p a b ∧
  (∀(f':Fm) (v':V) (I J:PM),(ax.ct v' f'.b).p I J→PM.le a I→PM.le b J→(uo (pre++(fC f' v'++post)) (m.set i f')).p I J):=by
 intro m
 induction m with
 | nil=>intro l i f h U; simp at U
 | cons x m ih =>
  intro l i f h U
  rcases l with _ | ⟨p,_ | ⟨q,_ | ⟨w,_ | ⟨d,_ | ⟨e,l⟩⟩⟩⟩⟩ <;> first | exact h.elim | skip
  obtain ⟨⟨⟨h1,h2,h3,h4⟩,h5⟩,h6⟩:=h
  cases i with
  | zero =>
   simp at U
   subst U
   refine ⟨[],q,l,?_,rfl,h5,fun f' v' I J hv ha hb=>⟨⟨⟨rfl,rfl,rfl,rfl⟩,hv⟩,(uo l m).mono _ _ _ _ ha hb h6⟩⟩
   rw [h1,h2,h3,h4]; rfl
  | succ i =>
   simp at U
   obtain ⟨pre,v,post,e1,e2,e3,e4⟩:=ih h6 U
   refine ⟨p::q::w::d::e::pre,v,post,?_,?_,e3,fun f' v' I J hv ha hb=>⟨⟨⟨h1,h2,h3,h4⟩,ax.mono _ _ _ _ _ ha hb h5⟩,e4 f' v' I J hv ha hb⟩⟩
   ·rw [e1]; rfl
   ·simp only [bj,e2]; omega
theorem Td {a b:PM}: ∀ {m:List Fm} {l:List V},(uo l m).p a b→l.length=m.length*5:=by
 intro m
 induction m with
 | nil=>intro l h; rcases l with _ | ⟨a,_ | ⟨b,_ | ⟨c,_ | ⟨d,_ | ⟨e,l⟩⟩⟩⟩⟩ <;> first | rfl | exact h.elim
 | cons x m I =>
  intro l h
  rcases l with _ | ⟨a,_ | ⟨b,_ | ⟨c,_ | ⟨d,_ | ⟨e,l⟩⟩⟩⟩⟩ <;> first | exact h.elim | skip
  have:=I h.2
  simp only [bj]
  omega
def eP (bV:Nat)(m:List Fm): ax:=xs fun cs:List V=>star [pt bV (.cells (m.length*5) cs false),uo cs m]
abbrev G5 (v:V)(m:List (Int×Int)): ax:=iW (fun v x=>.pu (v=.int .i64 x)) v m
abbrev CC (v:V)(m:List (Int×(Nat×Bool))): ax:=iW (fun v x=>.pu (v=.agg [.int .u64 (x.1:Int),.bool x.2])) v m
def ql (p q bV n:Nat)(wh di:V)(hand:Nat): List V:=[.ptr p 0,.ptr q 0,.sl bV 0 n (.exact n),wh,di,.int .i64 (hand:Int)]
def bZ (r p q:Nat)(π:Pl): ax:=xs fun bV:Nat=>xs fun wh:V=>xs fun di:V =>
 star [pt r (.cells 6 (ql p q bV π.ak.length wh di π.hand) false),eP bV π.ak,G5 wh π.aH,CC di π.aQ]
section
variable {P:Program} {h:H} {S:List ax} {X:ax} {r q p bV:Nat} {v:V} {π:Pl} {m:List Fm}
theorem c9 : Sat h (bZ r p q π::S)↔∃bV wh di,Sat h (pt r (.cells 6 (ql p q bV π.ak.length wh di π.hand) false)::eP bV π.ak::G5 wh π.aH::CC di π.aQ::S):=by
 simp only [bZ,gW,dY,fg,cU]
theorem j9 : Sat h (eP bV m::S)↔∃cs,Sat h (pt bV (.cells (m.length*5) cs false)::uo cs m::S):=by
 simp only [eP,gW,dY,fg,cU]
theorem jr {i:Nat}{f:Fm}(s:Sat h (eP bV m::S))(hf:m[i]?=some f): ∃pre v post,pre.length=i*5∧(pre++(fC f v++post)).length=m.length*5 ∧
  Sat h (pt bV (.cells (m.length*5) (pre++(fC f v++post)) false)::uo (pre++(fC f v++post)) m::.ct v f.b::S):=by
 obtain ⟨cs,s⟩:=j9.1 s
 obtain ⟨a,b,q1,q2,q3⟩:=s.at (k:=1) rfl
 obtain ⟨pre,v,post,e1,e2,e3,_⟩:=yO q3 hf
 have hl:=Td q3
 subst e1
 refine ⟨pre,v,post,e2,hl,?_⟩
 have s1:Sat h (uo (pre++(fC f v++post)) m::pt bV (.cells (m.length*5) (pre++(fC f v++post)) false)::S):=s.ae [1]
 have s2:=(s1.dup (aE.fm _ _)).ga (B:=.ct v f.b) fun a' b' h'=>by
  obtain ⟨ZP,v',I,J,um,U,_⟩:=yO h' hf
  have:=Dv J (by omega)
  obtain ⟨_,h5⟩:=this
  have h6:=ja (fun l=>l[1]?) h5
  simp [fC] at h6
  subst h6
  exact U
 exact s2.ae [2,1,0]
theorem gh {i:Nat}{f f':Fm}{v':V}{pre post:List V}{n:Nat}(s:Sat h (pt bV (.cells n (pre++(fC f' v'++post)) false)::uo (pre++(fC f v++post)) m::.ct v' f'.b::S))(hn:n=m.length*5)(hf:m[i]?=some f)(hp:pre.length=i*5): Sat h (eP bV (m.set i f')::S):=by
 subst hn
 have s1:Sat h (uo (pre++(fC f v++post)) m::.ct v' f'.b::pt bV (.cells (m.length*5) (pre++(fC f' v'++post)) false)::S):=s.ae [1,1,0]
 have s2:=s1.two (C:=uo (pre++(fC f' v'++post)) (m.set i f')) (aE.fm _ _) (aE.ct _ _) fun a b h1 h2=>by
  obtain ⟨ZP,v0,I,J,um,e3',U⟩:=yO h1 hf
  obtain ⟨h3,h4⟩:=Dv J (by omega)
  subst h3
  have h5:post=I:=by
   have:=Dv h4 (by simp [fC])
   exact this.2
  subst h5
  exact U f' v' a b h2 (PM.le_refl _) (PM.le_refl _)
 refine j9.2 ⟨pre++(fC f' v'++post),?_⟩
 rw [dn]
 exact s2.ae [1]
theorem iT {pre row post:List V}{a j:Nat}{x:V}(U:pre.length=a)(I:nth row j=some x): nth (pre++(row++post)) (a+j)=some x:=by
 rw [fM] at I ⊢
 have J:=(List.getElem?_eq_some_iff.1 I).1
 rw [nC (by omega),show a+j-pre.length=j by omega,kf J,I]
theorem Te {pre row post:List V}{a j:Nat}{x:V}(J:pre.length=a)(I:j<row.length): (pre++(row++post)).set (a+j) x=pre++(row.set j x++post):=by
 rw [List.set_append_right _ _ (by omega),show a+j-pre.length=j by omega,List.set_append_left _ _ I]
theorem Sat.stM {t:TypeId}{k id n a j:Nat}{pre row post:List V}{x:V}(s:Sat h S)(U:getA S k=some (pt id (.cells n (pre++(row++post)) false)))(hs:bF P t=some 1)(hp:pre.length=a)(J:(pre++(row++post)).length=n)(hj:j<row.length)(hv:x.cells=[x])(I:storable x=true):
  ∃h₁,gP P h t (.ptr id (a+j)) x=some h₁∧Sat h₁ (setA S k (pt id (.cells n (pre++(row.set j x++post)) false))):=by
 have:=s.dZ (P:=P) (t:=t) (off:=a+j) (v:=x) U hs J (by rw [←J]; simp; omega) hv I
 rwa [Te hp hj] at this
theorem Sat.RY {t:TypeId}{k id n a:Nat}{pre row row' post:List V}(s:Sat h S)(U:getA S k=some (pt id (.cells n (pre++(row++post)) false)))(hs:bF P t=some row'.length)(hp:pre.length=a)(J:(pre++(row++post)).length=n)(hr:row'.length=row.length)(I:row'.all storable=true):
  ∃h₁,gP P h t (.ptr id a) (.agg row')=some h₁∧Sat h₁ (setA S k (pt id (.cells n (pre++(row'++post)) false))):=by
 have:=s.stN (P:=P) (t:=t) (off:=a) (l:=row') U hs J (by rw [←J]; simp; omega) I
 have e:(pre++(row++post)).take a++(row'++(pre++(row++post)).drop (a+row'.length))=pre++(row'++post):=by
  rw [kN hp,zU,ig (by omega),cU,show a+row'.length-pre.length=row.length by omega,sU rfl]
 rwa [e] at this
theorem ldF {t:TypeId}{k id n a:Nat}{pre row post:List V}(s:Sat h S)(J:getA S k=some (pt id (.cells n (pre++(row++post)) false)))(U:cj P t=some true)(hs:bF P t=some row.length)(hp:pre.length=a)(I:(pre++(row++post)).length=n): loadV P h t (.ptr id a)=some (.agg row):=by
 rw [RM U hs (s.row J) I (by rw [←I]; simp; omega),sU hp,kN rfl]
end
abbrev aM := Pl×LD
def mg (π:Pl)(n:Int): Nat:=match lookL n π.aQ with
 | some x=>x.1
 | none=>0
def outF (ε:aM)(i:Nat): Int×aM:=match ε.1.ak[i]? with
 | none=>(0,ε)
 | some f=>if f.aK<0∨f.changed=false then (0,ε) else if bU f.b=false then (4,ε) else
  if (bB ε.2 (eM f.b 4 8)).1≠0 then ((bB ε.2 (eM f.b 4 8)).1,(ε.1,(bB ε.2 (eM f.b 4 8)).2)) else
  if ((bB ε.2 (eM f.b 4 8)).2.2.bJ f.aK f.b).1≠0 then (((bB ε.2 (eM f.b 4 8)).2.2.bJ f.aK f.b).1,(ε.1,((bB ε.2 (eM f.b 4 8)).2.1,((bB ε.2 (eM f.b 4 8)).2.2.bJ f.aK f.b).2))) else
  (0,({ ε.1 with ak:=ε.1.ak.set i { f with changed:=false },aQ:=cK f.aK (mg ε.1 f.aK,false) ε.1.aQ },((bB ε.2 (eM f.b 4 8)).2.1,((bB ε.2 (eM f.b 4 8)).2.2.bJ f.aK f.b).2)))
section
variable {told:dF} {h:H} {S:List ax} {X:ax} {r k q p bV:Nat} {v x wh di:V} {l b:List Nat} {π:Pl} {μ:Lg} {δ:Dk}
theorem NG (hT:W told){i:Nat}{f:Fm}(s:Sat h (pt r (.cells 6 (ql p q bV π.ak.length wh di π.hand) false)::eP bV π.ak::G5 wh π.aH::CC di π.aQ::bf q p μ::aC p δ::S))(hi:π.ak[i]?=some f)(D5:μ.Ok)(sI:δ.Ok)(Ys:f.b.length<1073741824)(hw:δ.waiting.length≤268435456):
  Call ⟨Tryz.prog,told⟩ 95 [.ptr r 0,.ptr bV (i*5)] h fun v h'=>v=.int .i64 (outF (π,μ,δ) i).1 ∧
   Sat h' (pt r (.cells 6 (ql p q bV (outF (π,μ,δ) i).2.1.ak.length wh di (outF (π,μ,δ) i).2.1.hand) false)::eP bV (outF (π,μ,δ) i).2.1.ak::G5 wh (outF (π,μ,δ) i).2.1.aH::CC di (outF (π,μ,δ) i).2.1.aQ::bf q p (outF (π,μ,δ) i).2.2.1::aC p (outF (π,μ,δ) i).2.2.2::S):=by
 have Yt:=s
 obtain ⟨pre,fv,post,I,hlen,s⟩:=jr (s.ae [1]) hi
 have hfv:=(s.aG (k:=2) rfl (cL _ _))
 refine Call.of_wp (hT.free _ rfl) Tryz.func95 rfl rfl (zK 9 rfl (zf rfl (pJ _ _) (zl rfl (s.ld (k:=0) rfl c7 (iT I rfl)) ?_)))
 refine zd rfl (ag rfl rfl bx) ?_ ?_
 ·intro hq
  have hq:f.aK<0:=by simpa using hq
  have he:outF (π,μ,δ) i=(0,(π,μ,δ)):=by simp only [outF,hi]; rw [aj (.inl hq)]
  rw [he]
  exact zk 13 rfl (WP.ret ⟨aa,_,rfl,rfl,Yt⟩)
 ·intro hq
  have hq:¬ f.aK<0:=by simpa using hq
  refine zk 3 rfl (zf rfl (DW _ _) (zl rfl (s.ld (k:=0) rfl jV (iT I rfl)) ?_))
  have GL:f.changed=false∨f.changed=true:=by cases f.changed <;> simp
  rcases GL with hc | hc
  ·have he:outF (π,μ,δ) i=(0,(π,μ,δ)):=by simp only [outF,hi]; rw [aj (.inr hc)]
   rw [he]
   refine zt rfl (dA rfl rfl) (by rw [hc]; rfl) ?_
   exact zk 7 rfl (WP.ret ⟨aa,_,rfl,rfl,Yt⟩)
  ·have he:outF (π,μ,δ) i=(if bU f.b=false then (4,(π,μ,δ)) else
    if (bB (μ,δ) (eM f.b 4 8)).1≠0 then ((bB (μ,δ) (eM f.b 4 8)).1,(π,(bB (μ,δ) (eM f.b 4 8)).2)) else
    if ((bB (μ,δ) (eM f.b 4 8)).2.2.bJ f.aK f.b).1≠0 then (((bB (μ,δ) (eM f.b 4 8)).2.2.bJ f.aK f.b).1,(π,((bB (μ,δ) (eM f.b 4 8)).2.1,((bB (μ,δ) (eM f.b 4 8)).2.2.bJ f.aK f.b).2))) else
    (0,({ π with ak:=π.ak.set i { f with changed:=false },aQ:=cK f.aK (mg π f.aK,false) π.aQ },((bB (μ,δ) (eM f.b 4 8)).2.1,((bB (μ,δ) (eM f.b 4 8)).2.2.bJ f.aK f.b).2)))):=by
    simp only [outF,hi]; rw [af (by rw [hc]; simp; omega)]
   rw [he]
   refine zh rfl (dA rfl rfl) (by rw [hc]; rfl) ?_
   refine zk 8 rfl (zf rfl (As _ _) (zl rfl (s.ld (k:=0) rfl bL (iT I rfl)) (zc rfl (S_ hT (s.ae [2]) (cL _ _) (by omega)) ?_)))
   rintro w h ⟨s,(⟨hg,rfl⟩ | ⟨hg,rfl⟩)⟩
   ·dsimp only [bringA,getA,aU] at s
    rw [af (by rw [hg]; decide)]
    have PV:(bB (μ,δ) (eM f.b 4 8)).2.2.Ok:=nR sI
    have Vt:(bB (μ,δ) (eM f.b 4 8)).2.2.waiting.length≤268435456:=by rw [kH]; exact hw
    have J:=D4 (n:=eM f.b 4 8) hT (s.ae [6,6]) D5 sI.aI
    generalize bB (μ,δ) (eM f.b 4 8)=x at J PV Vt ⊢
    obtain ⟨xe,xl,xd⟩:=x
    dsimp only at J PV Vt ⊢
    refine zk 16 rfl (zh rfl (ag rfl rfl aX) (rfl) (zk 8 rfl (zf rfl (SU _ _) (zl rfl (s.ld (k:=3) rfl nj rfl) (zm rfl (zc rfl (J) ?_))))))
    rintro w h ⟨rfl,s⟩
    refine zk 5 rfl ?_
    by_cases hx:xe=0
    ·subst hx
     rw [af (by decide)]
     refine zh rfl (ag rfl rfl aX) (rfl) ?_
     have uc:=fun (s:Sat h (aC p xd::.ct fv f.b::bf q p xl::pt bV (.cells (π.ak.length*5) (pre++(fC f fv++post)) false)::uo (pre++(fC f fv++post)) π.ak::pt r (.cells 6 (ql p q bV π.ak.length wh di π.hand) false)::G5 wh π.aH::CC di π.aQ::S))=>J2 (n:=f.aK) hT s (cL fv f.b) Ys PV.aI Vt
     generalize xd.bJ f.aK f.b=y at uc ⊢
     obtain ⟨ye,yd⟩:=y
     dsimp only at uc ⊢
     have s:=s.ae [1,1,0]
     refine zk 5 rfl (WP.drawn [ai,ai,ai,ai,ai,ai,ai,ai,ai,ai,ai,ai,ai,ai] rfl (by kernel_rfl) (by kernel_rfl) ?_)
     refine zM rfl (zN rfl (zF rfl (vP _ _) (zL rfl (s.ld (k:=5) rfl jQ rfl) (zM rfl (zN rfl (zF rfl (pJ _ _) (zL rfl (s.ld (k:=3) rfl c7 (iT I rfl)) (zM rfl (zN rfl (zF rfl (As _ _) (zL rfl (s.ld (k:=3) rfl bL (iT I rfl)) (aA.any rfl rfl rfl rfl (OpR.call rfl rfl rfl rfl (uc s)) ?_))))))))))))
     rintro w h ⟨rfl,s⟩
     refine zA rfl ?_
     refine aA.nil ⟨⟨aa,aa,aa,aa,aa,aa,aa,aa,aa,aa,aa,aa,aa,aa,aa⟩,?_⟩
     refine zK 3 rfl ?_
     by_cases hy:ye=0
     ·subst hy
      rw [af (by decide)]
      refine zh rfl (ag rfl rfl aX) (rfl) (zk 7 rfl (zf rfl (DW _ _) (zS rfl (s.stM (k:=3) (j:=4) rfl xN I hlen (by simp [fC]) rfl rfl) ?_)))
      intro h s
      have e5:(fC f fv).set 4 (.bool false)=fC { f with changed:=false } fv:=rfl
      rw [e5] at s
      have s:=s.ae [7,3,4]
      refine zk 2 rfl (WP.drawn [ai,ai,ai,ai,ai,ai,ai,ai,ai,ai,ai,ai,ai,ai,ai,ai,ai,ai,ai,ai] rfl (by kernel_rfl) (by kernel_rfl) ?_)
      refine zM rfl (zN rfl (zF rfl (mW _ _) (zL rfl (s.ld (k:=2) rfl rF rfl) (zM rfl (zN rfl (zF rfl (pJ _ _) (zL rfl (s.ld (k:=1) rfl c7 (iT I rfl)) (zM rfl (zN rfl (zF rfl (mW _ _) (zL rfl (s.ld (k:=2) rfl rF rfl) (zM rfl (zN rfl (zF rfl (pJ _ _) (zL rfl (s.ld (k:=1) rfl c7 (iT I rfl)) ?_)))))))))))))))
      have U:∃b,eY Tryz.prog h 138 di (.int .i64 f.aK) false=some (.agg [.int .u64 (mg π f.aK:Nat),.bool b]):=by
       rcases my (f:=fun v (x:Nat×Bool)=>.pu (v=.agg [.int .u64 (x.1:Int),.bool x.2])) (n:=f.aK) (fun _ _=>aE.pu _) s qh bE wM with ⟨g1,_,g3⟩ | ⟨u,x,g1,_,g3,s'⟩
       ·exact ⟨false,by rw [g3]; simp only [mg,g1]; rfl⟩
       ·obtain ⟨rfl,_⟩:=eE.1 s'
        exact ⟨x.2,by rw [g3]; simp only [mg,g1]⟩
      obtain ⟨lb,U⟩:=U
      refine zO rfl (gG rfl rfl U) (zO rfl (Rw rfl (Rx (JT _) rfl)) (zO rfl (cX rfl (by rw [WX]; rfl)) ?_))
      refine aA.gV rfl rfl rfl (OpR.mapUpdate rfl rfl rfl rfl (oI (f:=fun v (x:Nat×Bool)=>.pu (v=.agg [.int .u64 (x.1:Int),.bool x.2])) (x:=(mg π f.aK,false)) (fun _ _=>aE.pu _) (s.gx rfl) qh bE)) ?_
      intro w h s
      refine aA.nil ⟨⟨aa,aa,aa,aa,aa,aa,aa,aa,aa,aa,aa,aa,aa,aa,aa,aa,aa,aa,aa,aa,aa⟩,?_⟩
      refine zK 4 rfl (WP.ret ⟨aa,_,rfl,?_⟩)
      refine ⟨rfl,?_⟩
      have s:=gh (i:=i) (f':={ f with changed:=false }) (s.ae [1,5,3]) rfl hi I
      have e6:(π.ak.set i { f with changed:=false }).length=π.ak.length:=dn
      rw [e6]
      exact s.ae [2,0,3,0,1,0]
     ·rw [aj hy]
      refine zt rfl (ag rfl rfl aX) (by simp; exact hy) ?_
      refine zk 7 rfl (WP.ret ⟨aa,_,rfl,?_⟩)
      refine ⟨rfl,?_⟩
      have s:=j9.2 ⟨_,s.ae [3,3]⟩
      exact (s.del 2).ae [3,0,2,2,1,0]
    ·rw [aj hx]
     refine zt rfl (ag rfl rfl aX) (by simp; exact hx) ?_
     refine zk 7 rfl (WP.ret ⟨aa,_,rfl,?_⟩)
     refine ⟨rfl,?_⟩
     have s:=j9.2 ⟨_,s.ae [3,3]⟩
     exact (s.del 3).ae [3,0,2,2,0,0]
   ·dsimp only [bringA,getA,aU] at s
    rw [aj hg]
    refine zk 16 rfl (zt rfl (ag rfl rfl aX) (rfl) (zk 7 rfl (WP.ret ⟨aa,_,rfl,?_⟩)))
    refine ⟨rfl,?_⟩
    have s:=j9.2 ⟨_,s.ae [1,1]⟩
    exact (s.del 1).ae [1,0]
end
structure fR (π gO:Pl): Prop where
 aH:gO.aH=π.aH
 aQ:gO.aQ=π.aQ
 len:gO.ak.length=π.ak.length
 get:∀(i:Nat) (f:Fm),π.ak[i]?=some f→∃t,gO.ak[i]?=some { f with e_:=t }
theorem fR.refl (π:Pl): fR π π:=⟨rfl,rfl,rfl,fun _ f h=>⟨f.e_,h⟩⟩
theorem fR.trans {π J I:Pl}(a:fR π J)(b:fR J I): fR π I:=by
 refine ⟨b.aH.trans a.aH,b.aQ.trans a.aQ,b.len.trans a.len,fun i f h => ?_⟩
 obtain ⟨t,ht⟩:=a.get i f h
 obtain ⟨t',U⟩:=b.get i _ ht
 exact ⟨t',U⟩
theorem fR.hand {π:Pl}{n:Nat}: fR π { π with hand:=n }:=⟨rfl,rfl,rfl,fun _ f h=>⟨f.e_,h⟩⟩
theorem fR.Tf {π:Pl}{i:Nat}{f:Fm}(hi:π.ak[i]?=some f): fR π { π with ak:=π.ak.set i { f with e_:=false } }:=by
 refine ⟨rfl,rfl,dn,fun j g I => ?_⟩
 by_cases h:i=j
 ·subst h
  rw [hi] at I
  have:=bt I
  subst this
  have J:=(List.getElem?_eq_some_iff.1 hi).1
  exact ⟨false,by simp [sO,J]⟩
 ·exact ⟨g.e_,by simp only [sO,af h]; exact I⟩
theorem PW {P:Program}{h:H}{t:TypeId}{x y:Operand}{a b:Nat}(I:0<b): binV P h .rem t x y (.int .i64 (a:Int)) (.int .i64 (b:Int))=some (.int .i64 ((a%b:Nat):Int)):=by
 simp only [binV,ikBeq,ah,intV]
 have:intBeq (b:Int) 0=false:=by rw [nP]; simp; omega
 rw [this,az,Int.tmod_eq_emod_of_nonneg (by omega)]
 rfl
section
variable {told:dF} {h:H} {S:List ax} {X:ax} {r k q p bV:Nat} {v x wh di:V} {l b:List Nat} {π:Pl} {m:List Fm}
theorem mG {i n:Nat}(hi:i<n): indexAddrV Tryz.prog 137 (.sl bV 0 n (.exact n)) (.int .i64 (i:Int))=some (.ptr bV (i*5)):=by
 rw [WV,show (decide ((0:Int)≤(i:Int))&&decide ((i:Int)<(n:Int)))=true by simp; omega,ah]
 simp
theorem IU (I:W told){f:Fm}(s:Sat h S)(J:storable v=true): Call ⟨Tryz.prog,told⟩ 126 [.agg (fC f v)] h fun w h'=>w=.bool (decide (f.pins=0))∧Sat h' S:=by
 refine Call.of_wp (I.free _ rfl) Tryz.func126 rfl rfl (zg rfl (aB.cO s rfl rfl rfl (gw rfl (by simp only [V.cells,fC,iZ,jH,J]; rfl)) ?_))
 intro U h s
 dsimp only [V.cells,fC] at s
 exact zk 4 rfl (zf rfl (qX _ _) (zl rfl (s.ld (k:=0) rfl c7 rfl) (zb rfl bR (zk 2 rfl (WP.ret ⟨aa,_,rfl,rfl,s.drop⟩)))))
theorem PX (U:W told){f:Fm}(s:Sat h (eP bV m::S))(h0:m[0]?=some f)(hp:f.pins=0): Call ⟨Tryz.prog,told⟩ 148 [.sl bV 0 m.length (.exact m.length),.fn (.func 126) [] []] h fun w h'=>w=.int .i64 0∧Sat h' (eP bV m::S):=by
 have hl:=(List.getElem?_eq_some_iff.1 h0).1
 obtain ⟨pre,fv,post,I,hlen,s⟩:=jr s h0
 have J:=(s.aG (k:=2) rfl (cL _ _)).cells.2
 refine Call.of_wp (U.free _ rfl) Tryz.func148 rfl rfl (zK 8 rfl (zo rfl (a_ rfl rfl rfl (pL rfl yN)) (zk 2 rfl (WP.block (WP.loop (zg rfl (zt rfl (ag rfl rfl bx) (by simp; omega) ?_)))))))
 refine zk 5 rfl (WP.block (zK 10 rfl (zo rfl (dG rfl rfl (mG (i:=0) hl)) (zl rfl (ldF s (k:=0) rfl W5 Ck I hlen) (zc rfl (IU U s J) ?_)))))
 rintro w h ⟨rfl,s⟩
 rw [dN hp]
 exact zk 7 rfl (WP.ret ⟨aa,_,rfl,rfl,(j9.2 ⟨_,s⟩).del 1⟩)
theorem IV (I:W told){f:Fm}(s:Sat h (eP bV m::S))(J:m[0]?=some f)(U:f.pins=0): Call ⟨Tryz.prog,told⟩ 125 [.sl bV 0 m.length (.exact m.length),.fn (.func 126) [] []] h fun w h'=>w=.bool true∧Sat h' (eP bV m::S):=by
 refine Call.of_wp (I.free _ rfl) Tryz.func125 rfl rfl (zK 8 rfl (zc rfl (PX I s J U) ?_))
 rintro w h ⟨rfl,s⟩
 refine zt rfl (ag rfl rfl ng) (by decide) ?_
 exact zk 2 rfl (WP.ret ⟨aa,_,rfl,rfl,s⟩)
noncomputable def fdA : Code:=cJ [1,0,0,1,0,0] ((Tryz.f94.body).getD .skip)
noncomputable def Vu : Code:=cJ [1,0,1,1,1,0,0] ((Tryz.f94.body).getD .skip)
theorem IW {wh di:V}{hand:Nat}: ∀(j i:Nat) (h:H) (E:List (Nat×V)) (Q:Ex→List (Nat×V)→H→Prop),i+j=m.length→m.length<4294967296 →
  Sat h (pt r (.cells 6 (ql p q bV m.length wh di hand) false)::eP bV m::S)→Has E [(0,.ptr r 0),(10,.int .i64 m.length),(11,.int .i64 i)] →
  (∀E' (i:Nat) (f:Fm),m[i]?=some f→f.aK<0→look E' 2=some (.int .i64 (i:Int))→Q .ret E' h) →
  (∀E',Has E' [(0,.ptr r 0)]→Q (.exit 0) E' h)→WP ⟨Tryz.prog,told⟩ 70 (.loop fdA) E h Q:=by
 intro j
 induction j with
 | zero =>
  intro i h E Q hi hm s U hr hx
  refine WP.loop (WP.has U (zg rfl (zh rfl (ag rfl rfl bx) (by simp; omega) ?_)))
  exact zk 3 rfl (WP.exit (hx _ ⟨rfl,aa⟩))
 | succ j ih =>
  intro i h E Q hi hm s U hr hx
  have hc:m[i]?=some (m[i]'(by omega)):=bg _
  generalize (m[i]'(by omega))=f at hc
  obtain ⟨pre,fv,post,I,hlen,s'⟩:=jr (s.ae [1]) hc
  refine WP.loop (WP.has U (zg rfl (zt rfl (ag rfl rfl bx) (by simp; omega) ?_)))
  refine zk 5 rfl (WP.block (zK 9 rfl (zf rfl (kQ _ _) (zl rfl (s.ld (k:=0) rfl oC rfl) (zm rfl (zo rfl (dG rfl rfl (mG (i:=i) (by omega))) ?_))))))
  refine zf rfl (pJ _ _) (zl rfl (s'.ld (k:=0) rfl c7 (iT I rfl)) ?_)
  refine zd rfl (ag rfl rfl bx) ?_ ?_
  ·intro J
   have J:f.aK<0:=by simpa using J
   exact zk 7 rfl (WP.ret (hr _ i f hc J rfl))
  ·intro J
   refine zv (zj rfl (WP.skip (zr rfl (zb rfl (by exact bO (aT (by omega) (by omega))) ?_))))
   refine zm rfl (zv ?_)
   exact ih (i+1) h _ Q (by omega) hm s ⟨rfl,rfl,rfl,aa⟩ hr hx
def qZ (m:List Fm): Nat:=(m.filter fun f=>f.e_).length
theorem A5 {f:Fm}: ∀ {m:List Fm} {i:Nat},m[i]?=some f→f.e_=true→qZ (m.set i { f with e_:=false })+1=qZ m:=by
 intro m
 induction m with
 | nil=>intro i h; simp at h
 | cons g m J =>
  intro i h I
  cases i with
  | zero=>simp at h; subst h; simp [qZ,I]
  | succ i =>
   rw [kg] at h
   have:=J h I
   simp only [qZ,List.set_cons_succ,sP] at this ⊢
   split <;> (try simp only [bj]) <;> omega
theorem CD {wh di:V}{f:Fm}{h:H}{E:List (Nat×V)}{Q:Ex→List (Nat×V)→H→Prop}(U:π.ak[π.hand]?=some f)(hm:π.ak.length<4294967296)(hp:f.pins=0)
 (s:Sat h (pt r (.cells 6 (ql p q bV π.ak.length wh di π.hand) false)::eP bV π.ak::S))(hE:Has E [(0,.ptr r 0)])
 (hr:f.e_=false→∀E' h',look E' 2=some (.int .i64 (π.hand:Int))→Sat h' (pt r (.cells 6 (ql p q bV π.ak.length wh di ((π.hand+1)%π.ak.length)) false)::eP bV π.ak::S)→Q .ret E' h')
 (hx:f.e_=true→∀E' h',Has E' [(0,.ptr r 0)]→Sat h' (pt r (.cells 6 (ql p q bV (π.ak.set π.hand { f with e_:=false }).length wh di ((π.hand+1)%π.ak.length)) false)::eP bV (π.ak.set π.hand { f with e_:=false })::S)→WP ⟨Tryz.prog,told⟩ 70 (.loop Vu) E' h' Q):
  WP ⟨Tryz.prog,told⟩ 70 (.loop Vu) E h Q:=by
 have hl:=(List.getElem?_eq_some_iff.1 U).1
 refine WP.loop (WP.has hE (WP.block (zK 4 rfl (zf rfl (DS _ _) (zl rfl (s.ld (k:=0) rfl c7 rfl) (zk 6 rfl (zf rfl (kQ _ _) (zl rfl (s.ld (k:=0) rfl oC rfl) (zm rfl (zo rfl (dG rfl rfl (mG (i:=π.hand) hl)) (zk 3 rfl (WP.drawn [ai,ai,ai,ai,ai,ai,ai,ai,ai,ai,ai,ai,ai,ai,ai] rfl (by kernel_rfl) (by kernel_rfl) ?_))))))))))))
 refine zM rfl (zM rfl (zN rfl (zF rfl (DS _ _) (zL rfl (s.ld (k:=0) rfl c7 rfl) (zO rfl (ag rfl rfl (by exact bO (aT (by omega) (by omega)))) ?_)))))
 refine zM rfl (zN rfl (zF rfl (kQ _ _) (zL rfl (s.ld (k:=0) rfl oC rfl) (zO rfl (a_ rfl rfl rfl (pL rfl yN)) (zO rfl (ag rfl rfl (PW (a:=π.hand+1) (by omega))) ?_)))))
 refine zN rfl (zF rfl (DS _ _) (aA.gV rfl rfl rfl (OpR.eU rfl rfl rfl (s.dZ (k:=0) rfl jK rfl (by decide) rfl rfl)) ?_))
 rintro v h ⟨rfl,s⟩
 have s:Sat h (pt r (.cells 6 (ql p q bV π.ak.length wh di ((π.hand+1)%π.ak.length)) false)::eP bV π.ak::S):=s
 refine aA.nil ⟨⟨aa,aa,aa,aa,aa,aa,aa,aa,aa,aa,aa,aa,aa,aa,aa,aa⟩,?_⟩
 obtain ⟨pre,fv,post,I,hlen,s⟩:=jr (s.ae [1]) U
 refine zw (WP.block (zK 4 rfl (zf rfl (qX _ _) (zl rfl (s.ld (k:=0) rfl c7 (iT I rfl)) (zh rfl (ag rfl rfl dR) (by rw [hp]; decide) ?_)))))
 refine zk 7 rfl (zf rfl (DV _ _) (zl rfl (s.ld (k:=0) rfl jV (iT I rfl)) (zk 2 rfl ?_)))
 have htt:f.e_=false∨f.e_=true:=by cases f.e_ <;> simp
 rcases htt with J | J
 ·refine WP.Rv rfl (J) ?_
  refine zK 5 rfl (WP.ret (hr J _ _ rfl ?_))
  have s:=j9.2 ⟨_,s.ae [0,0]⟩
  exact (s.del 1).ae [1,0]
 ·skip
  refine WP.La rfl (J) (zK 3 rfl (zf rfl (DV _ _) (zS rfl (s.stM (k:=0) (j:=3) rfl xN I hlen (by simp [fC]) rfl rfl) ?_)))
  intro h s
  have e5:(fC f fv).set 3 (.bool false)=fC { f with e_:=false } fv:=rfl
  rw [e5] at s
  refine zv (WP.exit (hx J _ _ ⟨rfl,aa⟩ ?_))
  have s:=gh (i:=π.hand) (f':={ f with e_:=false }) s rfl U I
  rw [dn]
  exact s.ae [1,0]
theorem IX {wh di:V}: ∀(fuel:Nat) (π:Pl) (h:H) (E:List (Nat×V)) (Q:Ex→List (Nat×V)→H→Prop),qZ π.ak≤fuel→π.hand<π.ak.length→π.ak.length<4294967296→(∀f∈π.ak,f.pins=0) →
  Sat h (pt r (.cells 6 (ql p q bV π.ak.length wh di π.hand) false)::eP bV π.ak::S)→Has E [(0,.ptr r 0)] →
  (∀E' h' (i:Nat) (I:Pl) (f:Fm),fR π I→I.ak[i]?=some f→I.hand<I.ak.length→look E' 2=some (.int .i64 (i:Int))→Sat h' (pt r (.cells 6 (ql p q bV I.ak.length wh di I.hand) false)::eP bV I.ak::S)→Q .ret E' h') →
  WP ⟨Tryz.prog,told⟩ 70 (.loop Vu) E h Q:=by
 intro fuel
 induction fuel with
 | zero =>
  intro π h E Q ht U hm hp s hE hr
  have J:π.ak[π.hand]?=some (π.ak[π.hand]'U):=bg _
  generalize (π.ak[π.hand]'U)=f at J
  refine CD J hm (hp f (bq J)) s hE (fun h1 E' h' h2 s' => ?_) (fun h1 => ?_)
  ·exact hr E' h' π.hand { π with hand:=(π.hand+1)%π.ak.length } f fR.hand J (vC _ (by omega)) h2 s'
  ·have:=A5 J h1
   omega
 | succ fuel ih =>
  intro π h E Q ht U hm hp s hE hr
  have J:π.ak[π.hand]?=some (π.ak[π.hand]'U):=bg _
  generalize (π.ak[π.hand]'U)=f at J
  refine CD J hm (hp f (bq J)) s hE (fun h1 E' h' h2 s' => ?_) (fun h1 E' h' gq s' => ?_)
  ·exact hr E' h' π.hand { π with hand:=(π.hand+1)%π.ak.length } f fR.hand J (vC _ (by omega)) h2 s'
  ·have JA:=A5 J h1
   have hn:fR π { π with ak:=π.ak.set π.hand { f with e_:=false },hand:=(π.hand+1)%π.ak.length }:=(fR.Tf J).trans fR.hand
   refine ih { π with ak:=π.ak.set π.hand { f with e_:=false },hand:=(π.hand+1)%π.ak.length } h' E' Q (by show qZ (π.ak.set π.hand { f with e_:=false })≤fuel; omega) ?_ (by simp only [dn]; exact hm) (fun g hg => ?_) s' gq (fun E2 h2 i I g RZ hg R1 hl s2=>hr E2 h2 i I g (hn.trans RZ) hg R1 hl s2)
   ·simp only [dn]; exact vC _ (by omega)
   ·rcases oR hg with hg | rfl
    ·exact hp g hg
    ·exact hp f (bq J)
theorem PY (hT:W told){wh di:V}(s:Sat h (pt r (.cells 6 (ql p q bV π.ak.length wh di π.hand) false)::eP bV π.ak::S))(hh:π.hand<π.ak.length)(hm:π.ak.length<4294967296)(hp:∀f∈π.ak,f.pins=0):
  Call ⟨Tryz.prog,told⟩ 94 [.ptr r 0] h fun v h'=>∃(i:Nat) (I:Pl) (f:Fm),v=.int .i64 (i:Int)∧fR π I∧I.ak[i]?=some f∧I.hand<I.ak.length ∧
   Sat h' (pt r (.cells 6 (ql p q bV I.ak.length wh di I.hand) false)::eP bV I.ak::S):=by
 have J:π.ak[0]?=some (π.ak[0]'(by omega)):=bg _
 generalize (π.ak[0]'(by omega))=f0 at J
 have s0:=s
 refine Call.of_wp (hT.free _ rfl) Tryz.func94 rfl rfl (zK 4 rfl (WP.scope (zK 5 rfl (zf rfl (kQ _ _) (zl rfl (s.ld (k:=0) rfl oC rfl) (zo rfl (a_ rfl rfl rfl (pL rfl yN)) (zk 2 rfl (WP.block ?_))))))))
 refine IW π.ak.length 0 _ _ _ (by omega) hm s ⟨rfl,rfl,rfl,aa⟩ (fun E' i f U _ h2 => ?_) (fun E' gq => ?_)
 ·exact ⟨aa,_,oF h2,i,π,f,rfl,fR.refl π,U,hh,s⟩
 ·skip
  refine WP.has gq (zK 5 rfl (zf rfl (kQ _ _) (zl rfl (s.ld (k:=0) rfl oC rfl) (zc rfl (IV hT (s.ae [1]) J (hp f0 (bq J))) ?_))))
  rintro w h ⟨rfl,s⟩
  refine zo rfl (dA rfl rfl) (zk 4 rfl (WP.label (WP.block ?_)))
  refine IX (qZ π.ak) π _ _ _ (aL _) hh hm hp (s.ae [1,0]) ⟨rfl,aa⟩ (fun E' h' i I f hn U R1 h2 s' => ?_)
  exact ⟨aa,_,oF h2,i,I,f,rfl,hn,U,R1,s'⟩
end
end Go.Proofs.YtconhghphklfjaaGreat.Am
