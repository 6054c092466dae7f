/- AtomTorn: a part of its proof; conditions: its statement's. -/
import Derived.Test.YtconhghphklfjaaGreatT21
set_option linter.defProp false
namespace Go.Proofs.YtconhghphklfjaaGreat.Am
open Go
def zZ:=@Tryz.underlying137
def Dk.cg (δ:Dk): Int×Dk:=if δ.dead=true then (9,δ) else if δ.aD=0 then (9,δ.die) else (0,{ δ.c9 with aJ:=δ.log.length })
def Dk.bk (δ:Dk)(n:Int)(b:List Nat): Int×Dk:=if δ.dead=true then (9,δ) else if ¬(0≤n∧n<δ.aq.length∧b.length=512) then (1,δ) else
 if δ.aD=0 then (9,{ δ.die with dh:=some (n.toNat,b) }) else (0,δ.wr n b)
def Dk.qG (δ:Dk)(b:List Nat): Int×Dk:=if δ.dead=true then (9,δ) else if 64<b.length then (1,δ) else if δ.aD=0 then (9,δ.die) else (0,{ δ.c9 with mark:=b })
def Dk.kO (δ:Dk)(b:List Nat): Int×Dk:=if δ.dead=true then (9,δ) else if δ.room<δ.log.length+b.length then (7,δ) else if δ.aD=0 then (9,{ δ.die with tail:=b }) else (0,{ δ.c9 with log:=δ.log++b })
def Dk.nI (δ:Dk)(n:Int)(b:List Nat): Int×Dk:=if δ.dead=true then (9,δ) else if ¬(0≤n∧n≤δ.aJ∧b.length≤64) then (1,δ) else if δ.aD=0 then (9,δ.die) else
 (0,{ δ.c9 with log:=δ.log.drop n.toNat,aJ:=δ.aJ-n.toNat,mark:=b })
def Dk.r_ (δ:Dk)(n:Int): Int:=if δ.dead=true then 9 else if ¬(0≤n∧n<δ.aq.length) then 1 else 0
structure Dk.Ok (δ:Dk): Prop where
 aD:δ.aD<4294967296
 len:δ.log.length≤16777216
 room:δ.room≤16777216
 now:∀e∈δ.now,e.2.length=512
 aq:∀(i:Nat) (b:List Nat),δ.aq[i]?=some (some b)→b.length=512
 aJ:δ.aJ≤δ.log.length
 many:δ.aq.length≤65536
theorem Dk.Ok.c9 {δ:Dk}(h:δ.Ok): δ.c9.Ok:=⟨by have:=h.aD; simp only [Dk.c9]; split <;> omega,h.len,h.room,h.now,h.aq,h.aJ,h.many⟩
theorem Dk.Ok.die {δ:Dk}(h:δ.Ok): δ.die.Ok:=⟨h.aD,h.len,h.room,h.now,h.aq,h.aJ,h.many⟩
theorem Dk.Ok.cg {δ:Dk}(h:δ.Ok): δ.cg.2.Ok:=by
 unfold Dk.cg
 split
 ·exact h
 ·split
  ·exact h.die
  ·exact ⟨h.c9.aD,h.len,h.room,h.now,h.aq,aI _,h.many⟩
theorem fC {α:Type}{n:Int}{x:α}: ∀ {l:List (Int×α)},lookL n l=some x→(n,x)∈l:=by
 intro l
 induction l with
 | nil=>intro h; cases h
 | cons e l I =>
  intro h
  simp only [lookL] at h
  by_cases he:e.1=n
  ·rw [aj he] at h
   have:=bx h
   obtain ⟨a,b⟩:=e
   simp only at he this
   subst he; subst this
   exact br
  ·rw [af he] at h; exact bp _ (I h)
theorem Dk.Ok.at {δ:Dk}(I:δ.Ok)(n:Int): (δ.at n).length=512:=by
 unfold Dk.at
 cases J:lookL n δ.now with
 | some b=>exact I.now _ (fC J)
 | none =>
  cases U:δ.aq[n.toNat]? with
  | none=>exact fE
  | some o =>
   cases o with
   | none=>exact fE
   | some b=>exact I.aq _ _ U
section
variable {told:dM} {h:H} {S:List ax} {X:ax} {k q p:Nat} {v x:V} {l b:List Nat} {μ:Lg} {δ:Dk}
theorem T8 (U:W told)(s:Sat h (aG p δ::S))(hf:δ.aD<4294967296): Call ⟨Tryz.prog,told⟩ 106 [.ptr p 0] h fun v h'=>v=.int .i64 δ.cg.1∧Sat h' (aG p δ.cg.2::S):=by
 refine (Fy U s hf).mono fun v h' hr => ?_
 unfold Dk.cg
 rcases hr with ⟨I,rfl,s⟩ | ⟨I,J,rfl,s⟩ | ⟨I,J,rfl,s⟩
 ·rw [aj I]; exact ⟨rfl,s⟩
 ·rw [af (by rw [I]; decide),aj J]; exact ⟨rfl,s⟩
 ·rw [af (by rw [I]; decide),af J]; exact ⟨rfl,s⟩
theorem Ky (hT:W told){n:Int}(s:Sat h (aG p δ::X::S))(hX:cU X (cY x b))(hb:b.length<1073741824)(hf:δ.aD<4294967296)(hw:δ.waiting.length≤268435456):
  Call ⟨Tryz.prog,told⟩ 108 [.ptr p 0,.int .i64 n,x] h fun v h'=>v=.int .i64 (δ.bk n b).1∧Sat h' (aG p (δ.bk n b).2::X::S):=by
 refine (Oa hT s hX hb hf hw).mono fun v h' hr => ?_
 unfold Dk.bk
 rcases hr with ⟨I,rfl,s⟩ | ⟨I,J,rfl,s⟩ | ⟨I,U,h2,h3,J,rfl,s⟩ | ⟨I,U,h2,h3,J,rfl,s⟩
 ·rw [aj I]; exact ⟨rfl,s⟩
 ·rw [af (by rw [I]; decide),aj J]; exact ⟨rfl,s⟩
 ·rw [af (by rw [I]; decide),af (by simp [U,h2,h3]),aj J]; exact ⟨rfl,s⟩
 ·rw [af (by rw [I]; decide),af (by simp [U,h2,h3]),af J]; exact ⟨rfl,s⟩
theorem Oq (U:W told){n:Int}(s:Sat h (aG p δ::S))(J:δ.Ok): Call ⟨Tryz.prog,told⟩ 96 [.ptr p 0,.int .i64 n] h fun v h' =>
  (δ.r_ n≠0∧v=.bE [.bz,.int .i64 (δ.r_ n)]∧Sat h' (aG p δ::S))∨(δ.r_ n=0∧∃u,v=.bE [u,.int .i64 0]∧Sat h' (bK u (δ.at n)::aG p δ::S)):=by
 refine (Qy U s (J.at n)).mono fun v h' hr => ?_
 unfold Dk.r_
 rcases hr with ⟨I,rfl,s⟩ | ⟨I,h0,rfl,s⟩ | ⟨I,h1,h2,u,rfl,s⟩
 ·rw [aj I]; exact .inl ⟨by decide,rfl,s⟩
 ·rw [af (by rw [I]; decide),aj h0]; exact .inl ⟨by decide,rfl,s⟩
 ·rw [af (by rw [I]; decide),af (by simp [h1,h2])]; exact .inr ⟨rfl,u,rfl,s⟩
end
abbrev LD := Lg×Dk
def aT (x:LD)(n:Nat): Int×LD:=if n<x.1.base+x.1.forced then (0,x) else if x.2.cg.1≠0 then (x.2.cg.1,(x.1,x.2.cg.2)) else (0,({ x.1 with forced:=x.1.b.length },x.2.cg.2))
def jd (x:LD)(n:Nat): Int×LD:=if ¬(x.1.hasB n=true∧n<x.1.base+x.1.forced) then (1,x) else if (x.2.qG (eV x.1.base n)).1≠0 then ((x.2.qG (eV x.1.base n)).1,(x.1,(x.2.qG (eV x.1.base n)).2)) else
 (0,({ x.1 with check:=n },(x.2.qG (eV x.1.base n)).2))
def dy (μ:Lg)(kd:Int)(tx pv nx:Nat)(data:List Nat)(aR:List cn): List Nat:=iA (μ.base+μ.b.length) (dB kd tx pv nx data aR)
def bq (x:LD)(kd:Int)(tx pv nx:Nat)(data:List Nat)(aR:List cn): (Nat×Int)×LD :=
 if dU kd aR=false then ((0,1),x) else if 1048576<(dB kd tx pv nx data aR).length then ((0,2),x) else
 if (x.2.kO (dy x.1 kd tx pv nx data aR)).1≠0 then ((0,(x.2.kO (dy x.1 kd tx pv nx data aR)).1),(x.1,(x.2.kO (dy x.1 kd tx pv nx data aR)).2)) else
 ((x.1.base+x.1.b.length,0),(x.1.app (dy x.1 kd tx pv nx data aR),(x.2.kO (dy x.1 kd tx pv nx data aR)).2))
theorem Jl {δ:Dk}: δ.cg.2.waiting=δ.waiting:=by
 unfold Dk.cg
 split
 ·rfl
 ·split <;> rfl
theorem kX {x:LD}{n:Nat}: (aT x n).2.2.waiting=x.2.waiting:=by
 unfold aT
 split
 ·rfl
 ·split <;> exact Jl
theorem Dk.Ok.bk {δ:Dk}{n:Int}{b:List Nat}(h:δ.Ok): (δ.bk n b).2.Ok:=by
 unfold Dk.bk
 split
 ·exact h
 ·split
  ·exact h
  ·rename_i U
   split
   ·exact ⟨h.aD,h.len,h.room,h.now,h.aq,h.aJ,h.many⟩
   ·refine ⟨h.c9.aD,h.len,h.room,fun e he => ?_,h.aq,h.aJ,h.many⟩
    have J:b.length=512:=by
     by_cases q:0≤n∧n<δ.aq.length∧b.length=512
     ·exact q.2.2
     ·exact absurd q U
    have:∀l:List (Int×List Nat),(∀e∈l,e.2.length=512)→∀e∈cN n b l,e.2.length=512:=by
     intro l
     induction l with
     | nil=>intro _ e he; simp [cN] at he; subst he; exact J
     | cons x l ih =>
      intro I e he
      simp only [cN] at he
      split at he
      ·rcases List.mem_cons.1 he with rfl | he
       ·exact J
       ·exact I e (bp _ he)
      ·rcases List.mem_cons.1 he with rfl | he
       ·exact I _ br
       ·exact ih (fun e he=>I e (bp _ he)) e he
    exact this δ.now h.now e he
theorem om {x:LD}{n:Nat}(h:x.2.Ok): (aT x n).2.2.Ok:=by
 unfold aT
 split
 ·exact h
 ·split
  ·exact h.cg
  ·exact h.cg
theorem Lg.Ok.T9 {μ:Lg}(h:μ.Ok): ({ μ with forced:=μ.b.length }:Lg).Ok:=⟨h.size,h.many,h.low,h.xF,aI _,h.len,h.check⟩
theorem sg {x:LD}{n:Nat}(h:x.1.Ok): (aT x n).2.1.Ok:=by
 unfold aT
 split
 ·exact h
 ·split
  ·exact h
  ·exact h.T9
section
variable {told:dM} {h:H} {S:List ax} {X:ax} {k q p:Nat} {v x:V} {l b:List Nat} {μ:Lg} {δ:Dk}
theorem EG (hT:W told){n:Nat}(s:Sat h (bh q p μ::aG p δ::S))(U:μ.Ok)(hf:δ.aD<4294967296): Call ⟨Tryz.prog,told⟩ 68 [.ptr q 0,.int .u64 (n:Int)] h fun v h' =>
  v=.int .i64 (aT (μ,δ) n).1∧Sat h' (bh q p (aT (μ,δ) n).2.1::aG p (aT (μ,δ) n).2.2::S):=by
 refine (Oh hT s U hf).mono fun v h' hr => ?_
 unfold aT Dk.cg
 rcases hr with ⟨I,rfl,s⟩ | ⟨I,J,rfl,s⟩ | ⟨I,J,h0,rfl,s⟩ | ⟨I,J,h0,rfl,s⟩
 ·rw [aj I]; exact ⟨rfl,s⟩
 ·simp only [af (Nat.not_lt.2 I),aj J,jZ,aj (by decide:¬ ((9:Int)=0))]; exact ⟨aa,s⟩
 ·simp only [af (Nat.not_lt.2 I),af (by rw [J]; decide:¬ δ.dead=true),aj h0,jZ,aj (by decide:¬ ((9:Int)=0))]; exact ⟨aa,s⟩
 ·simp only [af (Nat.not_lt.2 I),af (by rw [J]; decide:¬ δ.dead=true),af h0,jZ,not_true,bN]; exact ⟨aa,s⟩
theorem T_ (hT:W told){n:Nat}(s:Sat h (bh q p μ::aG p δ::S))(EH:μ.Ok)(hf:δ.aD<4294967296)(hn:n<18446744073709551616): Call ⟨Tryz.prog,told⟩ 69 [.ptr q 0,.int .u64 (n:Int)] h fun v h' =>
  v=.int .i64 (jd (μ,δ) n).1∧Sat h' (bh q p (jd (μ,δ) n).2.1::aG p (jd (μ,δ) n).2.2::S):=by
 refine (Oi hT s EH hf hn).mono fun v h' hr => ?_
 have hm:¬ 64<(eV μ.base n).length:=by rw [nH]; decide
 unfold jd Dk.qG
 rcases hr with ⟨I,rfl,s⟩ | ⟨I,J,U,rfl,s⟩ | ⟨I,J,U,h0,rfl,s⟩ | ⟨I,J,U,h0,rfl,s⟩
 ·rw [aj I]; exact ⟨rfl,s⟩
 ·simp only [af (fun q=>q ⟨I,J⟩:¬¬(μ.hasB n=true∧n<μ.base+μ.forced)),aj U,jZ,aj (by decide:¬ ((9:Int)=0))]; exact ⟨aa,s⟩
 ·simp only [af (fun q=>q ⟨I,J⟩:¬¬(μ.hasB n=true∧n<μ.base+μ.forced)),af (by rw [U]; decide:¬ δ.dead=true),af hm,aj h0,jZ,aj (by decide:¬ ((9:Int)=0))]; exact ⟨aa,s⟩
 ·simp only [af (fun q=>q ⟨I,J⟩:¬¬(μ.hasB n=true∧n<μ.base+μ.forced)),af (by rw [U]; decide:¬ δ.dead=true),af hm,af h0,jZ,not_true,bN]; exact ⟨aa,s⟩
theorem HK (hT:W told){kd:Int}{tx pv nx:Nat}{dt ch:V}{cs:List V}{data:List Nat}{aR:List cn}(s:Sat h (bh q p μ::aG p δ::X::.arr 4 ch cs::cZ cs aR::S))(hX:cU X (cY dt data))(jq:Df tx pv nx data aR)(EH:μ.Ok)(tv:δ.Ok):
  Call ⟨Tryz.prog,told⟩ 48 [.ptr q 0,.agg (iI kd tx pv nx dt ch)] h fun r h' =>
  r=.bE [.int .u64 ((bq (μ,δ) kd tx pv nx data aR).1.1:Nat),.int .i64 (bq (μ,δ) kd tx pv nx data aR).1.2] ∧
  Sat h' (bh q p (bq (μ,δ) kd tx pv nx data aR).2.1::aG p (bq (μ,δ) kd tx pv nx data aR).2.2::X::.arr 4 ch cs::cZ cs aR::S):=by
 refine (L9 hT s hX jq EH tv.aD tv.len tv.room).mono fun v h' hr => ?_
 unfold bq Dk.kO dy
 rcases hr with ⟨e,rfl,(⟨J,rfl⟩ | ⟨J,U,rfl⟩ | ⟨J,U,hd,rfl⟩ | ⟨J,U,hd,SR,rfl⟩),s⟩ | ⟨J,U,hd,I,h0,rfl,s⟩ | ⟨J,U,hd,I,h0,rfl,s⟩
 ·rw [aj J]; exact ⟨rfl,s⟩
 ·rw [af (by rw [J]; decide),aj U]; exact ⟨rfl,s⟩
 ·simp only [af (by rw [J]; decide:¬ dU kd aR=false),af (Nat.not_lt.2 U),aj hd,jZ,aj (by decide:¬ ((9:Int)=0))]; exact ⟨rfl,s⟩
 ·simp only [af (by rw [J]; decide:¬ dU kd aR=false),af (Nat.not_lt.2 U),af (by rw [hd]; decide:¬ δ.dead=true),aj SR,jZ,aj (by decide:¬ ((7:Int)=0))]; exact ⟨rfl,s⟩
 ·simp only [af (by rw [J]; decide:¬ dU kd aR=false),af (Nat.not_lt.2 U),af (by rw [hd]; decide:¬ δ.dead=true),af (Nat.not_lt.2 I),aj h0,jZ,aj (by decide:¬ ((9:Int)=0))]; exact ⟨rfl,s⟩
 ·simp only [af (by rw [J]; decide:¬ dU kd aR=false),af (Nat.not_lt.2 U),af (by rw [hd]; decide:¬ δ.dead=true),af (Nat.not_lt.2 I),af h0,jZ,not_true,bN]; exact ⟨aa,s⟩
end
structure Fm where
 aM:Int
 b:List Nat
 pins:Int
 fA:Bool
 changed:Bool
structure Pl where
 ak:List Fm
 aE:List (Int×Int)
 aN:List (Int×(Nat×Bool))
 hand:Nat
def fK (f:Fm)(v:V): List V:=[.int .i64 f.aM,v,.int .i64 f.pins,.bool f.fA,.bool f.changed]
def uP : List V→List Fm→ax
 | [],[]=>.pu True
 | a::v::c::d::e::l,x::m=>.an (.an (.pu (a=.int .i64 x.aM∧c=.int .i64 x.pins∧d=.bool x.fA∧e=.bool x.changed)) (.ct v x.b)) (uP l m)
 | _,_=>.pu False
theorem aH.fm : ∀(m:List Fm) (l:List V),aH (uP l m):=by
 intro m
 induction m with
 | nil=>intro l; rcases l with _ | ⟨a,_ | ⟨b,_ | ⟨c,_ | ⟨d,_ | ⟨e,l⟩⟩⟩⟩⟩ <;> exact aH.pu _
 | cons x m I=>intro l; rcases l with _ | ⟨a,_ | ⟨b,_ | ⟨c,_ | ⟨d,_ | ⟨e,l⟩⟩⟩⟩⟩ <;> first | exact aH.pu _ | exact aH.an (aH.an (aH.pu _) (aH.ct _ _)) (I l)
theorem z_ {a b:PM}: ∀ {m:List Fm} {l:List V} {i:Nat} {f:Fm},(uP l m).p a b→m[i]?=some f→∃pre v post,l=pre++(fK f v++post)∧pre.length=i*5∧(ax.ct v f.b).p a b ∧
  (∀(f':Fm) (v':V) (I J:PM),(ax.ct v' f'.b).p I J→PM.le a I→PM.le b J→(uP (pre++(fK f' v'++post)) (m.set i f')).p I J):=by
 intro m
 induction m with
 | nil=>intro l i f h U; simp at U
 | cons x m ih =>
  intro l i f h U
  rcases l with _ | ⟨p,_ | ⟨q,_ | ⟨w,_ | ⟨d,_ | ⟨e,l⟩⟩⟩⟩⟩ <;> first | exact h.elim | skip
  obtain ⟨⟨⟨h1,h2,h3,h4⟩,h5⟩,h6⟩:=h
  cases i with
  | zero =>
   simp at U
   subst U
   refine ⟨[],q,l,?_,rfl,h5,fun f' v' I J hv ha hb=>⟨⟨⟨rfl,rfl,rfl,rfl⟩,hv⟩,(uP l m).mono _ _ _ _ ha hb h6⟩⟩
   rw [h1,h2,h3,h4]; rfl
  | succ i =>
   simp at U
   obtain ⟨pre,v,post,e1,e2,e3,e4⟩:=ih h6 U
   refine ⟨p::q::w::d::e::pre,v,post,?_,?_,e3,fun f' v' I J hv ha hb=>⟨⟨⟨h1,h2,h3,h4⟩,ax.mono _ _ _ _ _ ha hb h5⟩,e4 f' v' I J hv ha hb⟩⟩
   ·rw [e1]; rfl
   ·simp only [bl,e2]; omega
theorem Ua {a b:PM}: ∀ {m:List Fm} {l:List V},(uP l m).p a b→l.length=m.length*5:=by
 intro m
 induction m with
 | nil=>intro l h; rcases l with _ | ⟨a,_ | ⟨b,_ | ⟨c,_ | ⟨d,_ | ⟨e,l⟩⟩⟩⟩⟩ <;> first | rfl | exact h.elim
 | cons x m I =>
  intro l h
  rcases l with _ | ⟨a,_ | ⟨b,_ | ⟨c,_ | ⟨d,_ | ⟨e,l⟩⟩⟩⟩⟩ <;> first | exact h.elim | skip
  have:=I h.2
  simp only [bl]
  omega
def e_ (bW:Nat)(m:List Fm): ax:=xs fun cs:List V=>star [pt bW (.cells (m.length*5) cs false),uP cs m]
abbrev HL (v:V)(m:List (Int×Int)): ax:=jg (fun v x=>.pu (v=.int .i64 x)) v m
abbrev Dg (v:V)(m:List (Int×(Nat×Bool))): ax:=jg (fun v x=>.pu (v=.agg [.int .u64 (x.1:Int),.bool x.2])) v m
def qH (p q bW n:Nat)(wh di:V)(hand:Nat): List V:=[.ptr p 0,.ptr q 0,.sl bW 0 n (.exact n),wh,di,.int .i64 (hand:Int)]
def cj (r p q:Nat)(π:Pl): ax:=xs fun bW:Nat=>xs fun wh:V=>xs fun di:V =>
 star [pt r (.cells 6 (qH p q bW π.ak.length wh di π.hand) false),e_ bW π.ak,HL wh π.aE,Dg di π.aN]
section
variable {P:Program} {h:H} {S:List ax} {X:ax} {r q p bW:Nat} {v:V} {π:Pl} {m:List Fm}
theorem dn : Sat h (cj r p q π::S)↔∃bW wh di,Sat h (pt r (.cells 6 (qH p q bW π.ak.length wh di π.hand) false)::e_ bW π.ak::HL wh π.aE::Dg di π.aN::S):=by
 simp only [cj,gu,en,fF,cW]
theorem kA : Sat h (e_ bW m::S)↔∃cs,Sat h (pt bW (.cells (m.length*5) cs false)::uP cs m::S):=by
 simp only [e_,gu,en,fF,cW]
theorem jE {i:Nat}{f:Fm}(s:Sat h (e_ bW m::S))(hf:m[i]?=some f): ∃pre v post,pre.length=i*5∧(pre++(fK f v++post)).length=m.length*5 ∧
  Sat h (pt bW (.cells (m.length*5) (pre++(fK f v++post)) false)::uP (pre++(fK f v++post)) m::.ct v f.b::S):=by
 obtain ⟨cs,s⟩:=kA.1 s
 obtain ⟨a,b,q1,q2,q3⟩:=s.at (k:=1) rfl
 obtain ⟨pre,v,post,e1,e2,e3,_⟩:=z_ q3 hf
 have hl:=Ua q3
 subst e1
 refine ⟨pre,v,post,e2,hl,?_⟩
 have s1:Sat h (uP (pre++(fK f v++post)) m::pt bW (.cells (m.length*5) (pre++(fK f v++post)) false)::S):=s.ae [1]
 have s2:=(s1.dup (aH.fm _ _)).fY (B:=.ct v f.b) fun a' b' h'=>by
  obtain ⟨aaR,v',I,J,uO,U,_⟩:=z_ h' hf
  have:=D9 J (by omega)
  obtain ⟨_,h5⟩:=this
  have h6:=iZ (fun l=>l[1]?) h5
  simp [fK] at h6
  subst h6
  exact U
 exact s2.ae [2,1,0]
theorem gD {i:Nat}{f f':Fm}{v':V}{pre post:List V}{n:Nat}(s:Sat h (pt bW (.cells n (pre++(fK f' v'++post)) false)::uP (pre++(fK f v++post)) m::.ct v' f'.b::S))(hn:n=m.length*5)(hf:m[i]?=some f)(hp:pre.length=i*5): Sat h (e_ bW (m.set i f')::S):=by
 subst hn
 have s1:Sat h (uP (pre++(fK f v++post)) m::.ct v' f'.b::pt bW (.cells (m.length*5) (pre++(fK f' v'++post)) false)::S):=s.ae [1,1,0]
 have s2:=s1.two (C:=uP (pre++(fK f' v'++post)) (m.set i f')) (aH.fm _ _) (aH.ct _ _) fun a b h1 h2=>by
  obtain ⟨aaR,v0,I,J,uO,e3',U⟩:=z_ h1 hf
  obtain ⟨h3,h4⟩:=D9 J (by omega)
  subst h3
  have h5:post=I:=by
   have:=D9 h4 (by simp [fK])
   exact this.2
  subst h5
  exact U f' v' a b h2 (PM.le_refl _) (PM.le_refl _)
 refine kA.2 ⟨pre++(fK f' v'++post),?_⟩
 rw [dD]
 exact s2.ae [1]
theorem je {pre row post:List V}{a j:Nat}{x:V}(U:pre.length=a)(I:nth row j=some x): nth (pre++(row++post)) (a+j)=some x:=by
 rw [fV] at I ⊢
 have J:=(List.getElem?_eq_some_iff.1 I).1
 rw [nT (by omega),show a+j-pre.length=j by omega,kE J,I]
theorem Ub {pre row post:List V}{a j:Nat}{x:V}(J:pre.length=a)(I:j<row.length): (pre++(row++post)).set (a+j) x=pre++(row.set j x++post):=by
 rw [List.set_append_right _ _ (by omega),show a+j-pre.length=j by omega,List.set_append_left _ _ I]
theorem Sat.stM {t:TypeId}{k id n a j:Nat}{pre row post:List V}{x:V}(s:Sat h S)(U:getA S k=some (pt id (.cells n (pre++(row++post)) false)))(hs:bJ P t=some 1)(hp:pre.length=a)(J:(pre++(row++post)).length=n)(hj:j<row.length)(hv:x.cells=[x])(I:storable x=true):
  ∃h₁,g6 P h t (.ptr id (a+j)) x=some h₁∧Sat h₁ (setA S k (pt id (.cells n (pre++(row.set j x++post)) false))):=by
 have:=s.ee (P:=P) (t:=t) (off:=a+j) (v:=x) U hs J (by rw [←J]; simp; omega) hv I
 rwa [Ub hp hj] at this
theorem Sat.SS {t:TypeId}{k id n a:Nat}{pre row row' post:List V}(s:Sat h S)(U:getA S k=some (pt id (.cells n (pre++(row++post)) false)))(hs:bJ P t=some row'.length)(hp:pre.length=a)(J:(pre++(row++post)).length=n)(hr:row'.length=row.length)(I:row'.all storable=true):
  ∃h₁,g6 P h t (.ptr id a) (.agg row')=some h₁∧Sat h₁ (setA S k (pt id (.cells n (pre++(row'++post)) false))):=by
 have:=s.stN (P:=P) (t:=t) (off:=a) (l:=row') U hs J (by rw [←J]; simp; omega) I
 have e:(pre++(row++post)).take a++(row'++(pre++(row++post)).drop (a+row'.length))=pre++(row'++post):=by
  rw [jX hp,AH,iB (by omega),cW,show a+row'.length-pre.length=row.length by omega,nX rfl]
 rwa [e] at this
theorem ldF {t:TypeId}{k id n a:Nat}{pre row post:List V}(s:Sat h S)(J:getA S k=some (pt id (.cells n (pre++(row++post)) false)))(U:b_ P t=some true)(hs:bJ P t=some row.length)(hp:pre.length=a)(I:(pre++(row++post)).length=n): loadV P h t (.ptr id a)=some (.agg row):=by
 rw [SG U hs (s.row J) I (by rw [←I]; simp; omega),nX hp,jX rfl]
end
abbrev aO := Pl×LD
def mE (π:Pl)(n:Int): Nat:=match lookL n π.aN with
 | some x=>x.1
 | none=>0
def outF (ε:aO)(i:Nat): Int×aO:=match ε.1.ak[i]? with
 | none=>(0,ε)
 | some f=>if f.aM<0∨f.changed=false then (0,ε) else if bT f.b=false then (4,ε) else
  if (aT ε.2 (dY f.b 4 8)).1≠0 then ((aT ε.2 (dY f.b 4 8)).1,(ε.1,(aT ε.2 (dY f.b 4 8)).2)) else
  if ((aT ε.2 (dY f.b 4 8)).2.2.bk f.aM f.b).1≠0 then (((aT ε.2 (dY f.b 4 8)).2.2.bk f.aM f.b).1,(ε.1,((aT ε.2 (dY f.b 4 8)).2.1,((aT ε.2 (dY f.b 4 8)).2.2.bk f.aM f.b).2))) else
  (0,({ ε.1 with ak:=ε.1.ak.set i { f with changed:=false },aN:=cN f.aM (mE ε.1 f.aM,false) ε.1.aN },((aT ε.2 (dY f.b 4 8)).2.1,((aT ε.2 (dY f.b 4 8)).2.2.bk f.aM f.b).2)))
section
variable {told:dM} {h:H} {S:List ax} {X:ax} {r k q p bW:Nat} {v x wh di:V} {l b:List Nat} {π:Pl} {μ:Lg} {δ:Dk}
theorem Ot (hT:W told){i:Nat}{f:Fm}(s:Sat h (pt r (.cells 6 (qH p q bW π.ak.length wh di π.hand) false)::e_ bW π.ak::HL wh π.aE::Dg di π.aN::bh q p μ::aG p δ::S))(hi:π.ak[i]?=some f)(EH:μ.Ok)(tv:δ.Ok)(HM:f.b.length<1073741824)(hw:δ.waiting.length≤268435456):
  Call ⟨Tryz.prog,told⟩ 95 [.ptr r 0,.ptr bW (i*5)] h fun v h'=>v=.int .i64 (outF (π,μ,δ) i).1 ∧
   Sat h' (pt r (.cells 6 (qH p q bW (outF (π,μ,δ) i).2.1.ak.length wh di (outF (π,μ,δ) i).2.1.hand) false)::e_ bW (outF (π,μ,δ) i).2.1.ak::HL wh (outF (π,μ,δ) i).2.1.aE::Dg di (outF (π,μ,δ) i).2.1.aN::bh q p (outF (π,μ,δ) i).2.2.1::aG p (outF (π,μ,δ) i).2.2.2::S):=by
 have ZN:=s
 obtain ⟨pre,fv,post,I,hlen,s⟩:=jE (s.ae [1]) hi
 have hfv:=(s.aL (k:=2) rfl (cJ _ _))
 refine Call.of_wp (hT.free _ rfl) Tryz.func95 rfl rfl (zK 9 rfl (zf rfl (pY _ _) (zl rfl (s.ld (k:=0) rfl dA (je I rfl)) ?_)))
 refine zd rfl (ah rfl rfl bB) ?_ ?_
 ·intro hq
  have hq:f.aM<0:=by simpa using hq
  have he:outF (π,μ,δ) i=(0,(π,μ,δ)):=by simp only [outF,hi]; rw [aj (.inl hq)]
  rw [he]
  exact zk 13 rfl (WP.ret ⟨aa,_,rfl,rfl,ZN⟩)
 ·intro hq
  have hq:¬ f.aM<0:=by simpa using hq
  refine zk 3 rfl (zf rfl (Ey _ _) (zl rfl (s.ld (k:=0) rfl ke (je I rfl)) ?_))
  have yt:f.changed=false∨f.changed=true:=by cases f.changed <;> simp
  rcases yt with hc | hc
  ·have he:outF (π,μ,δ) i=(0,(π,μ,δ)):=by simp only [outF,hi]; rw [aj (.inr hc)]
   rw [he]
   refine zt rfl (dS rfl rfl) (by rw [hc]; rfl) ?_
   exact zk 7 rfl (WP.ret ⟨aa,_,rfl,rfl,ZN⟩)
  ·have he:outF (π,μ,δ) i=(if bT f.b=false then (4,(π,μ,δ)) else
    if (aT (μ,δ) (dY f.b 4 8)).1≠0 then ((aT (μ,δ) (dY f.b 4 8)).1,(π,(aT (μ,δ) (dY f.b 4 8)).2)) else
    if ((aT (μ,δ) (dY f.b 4 8)).2.2.bk f.aM f.b).1≠0 then (((aT (μ,δ) (dY f.b 4 8)).2.2.bk f.aM f.b).1,(π,((aT (μ,δ) (dY f.b 4 8)).2.1,((aT (μ,δ) (dY f.b 4 8)).2.2.bk f.aM f.b).2))) else
    (0,({ π with ak:=π.ak.set i { f with changed:=false },aN:=cN f.aM (mE π f.aM,false) π.aN },((aT (μ,δ) (dY f.b 4 8)).2.1,((aT (μ,δ) (dY f.b 4 8)).2.2.bk f.aM f.b).2)))):=by
    simp only [outF,hi]; rw [af (by rw [hc]; simp; omega)]
   rw [he]
   refine zh rfl (dS rfl rfl) (by rw [hc]; rfl) ?_
   refine zk 8 rfl (zf rfl (A7 _ _) (zl rfl (s.ld (k:=0) rfl bO (je I rfl)) (zc rfl (T7 hT (s.ae [2]) (cJ _ _) (by omega)) ?_)))
   rintro w h ⟨s,(⟨hg,rfl⟩ | ⟨hg,rfl⟩)⟩
   ·dsimp only [bringA,getA,aU] at s
    rw [af (by rw [hg]; decide)]
    have QH:(aT (μ,δ) (dY f.b 4 8)).2.2.Ok:=om tv
    have Ws:(aT (μ,δ) (dY f.b 4 8)).2.2.waiting.length≤268435456:=by rw [kX]; exact hw
    have J:=EG (n:=dY f.b 4 8) hT (s.ae [6,6]) EH tv.aD
    generalize aT (μ,δ) (dY f.b 4 8)=x at J QH Ws ⊢
    obtain ⟨xe,xl,xd⟩:=x
    dsimp only at J QH Ws ⊢
    refine zk 16 rfl (zh rfl (ah rfl rfl aV) (rfl) (zk 8 rfl (zf rfl (TR _ _) (zl rfl (s.ld (k:=3) rfl nF rfl) (zm rfl (zc rfl (J) ?_))))))
    rintro w h ⟨rfl,s⟩
    refine zk 5 rfl ?_
    by_cases hx:xe=0
    ·subst hx
     rw [af (by decide)]
     refine zh rfl (ah rfl rfl aV) (rfl) ?_
     have qU:=fun (s:Sat h (aG p xd::.ct fv f.b::bh q p xl::pt bW (.cells (π.ak.length*5) (pre++(fK f fv++post)) false)::uP (pre++(fK f fv++post)) π.ak::pt r (.cells 6 (qH p q bW π.ak.length wh di π.hand) false)::HL wh π.aE::Dg di π.aN::S))=>Ky (n:=f.aM) hT s (cJ fv f.b) HM QH.aD Ws
     generalize xd.bk f.aM f.b=y at qU ⊢
     obtain ⟨ye,yd⟩:=y
     dsimp only at qU ⊢
     have s:=s.ae [1,1,0]
     refine zk 5 rfl (WP.drawn [ai,ai,ai,ai,ai,ai,ai,ai,ai,ai,ai,ai,ai,ai] rfl (by kernel_rfl) (by kernel_rfl) ?_)
     refine zM rfl (zN rfl (zF rfl (wH _ _) (zL rfl (s.ld (k:=5) rfl jL rfl) (zM rfl (zN rfl (zF rfl (pY _ _) (zL rfl (s.ld (k:=3) rfl dA (je I rfl)) (zM rfl (zN rfl (zF rfl (A7 _ _) (zL rfl (s.ld (k:=3) rfl bO (je I rfl)) (aA.any rfl rfl rfl rfl (OpR.call rfl rfl rfl rfl (qU s)) ?_))))))))))))
     rintro w h ⟨rfl,s⟩
     refine zA rfl ?_
     refine aA.nil ⟨⟨aa,aa,aa,aa,aa,aa,aa,aa,aa,aa,aa,aa,aa,aa,aa⟩,?_⟩
     refine zK 3 rfl ?_
     by_cases hy:ye=0
     ·subst hy
      rw [af (by decide)]
      refine zh rfl (ah rfl rfl aV) (rfl) (zk 7 rfl (zf rfl (Ey _ _) (zS rfl (s.stM (k:=3) (j:=4) rfl yq I hlen (by simp [fK]) rfl rfl) ?_)))
      intro h s
      have e5:(fK f fv).set 4 (.bool false)=fK { f with changed:=false } fv:=rfl
      rw [e5] at s
      have s:=s.ae [7,3,4]
      refine zk 2 rfl (WP.drawn [ai,ai,ai,ai,ai,ai,ai,ai,ai,ai,ai,ai,ai,ai,ai,ai,ai,ai,ai,ai] rfl (by kernel_rfl) (by kernel_rfl) ?_)
      refine zM rfl (zN rfl (zF rfl (nc _ _) (zL rfl (s.ld (k:=2) rfl r6 rfl) (zM rfl (zN rfl (zF rfl (pY _ _) (zL rfl (s.ld (k:=1) rfl dA (je I rfl)) (zM rfl (zN rfl (zF rfl (nc _ _) (zL rfl (s.ld (k:=2) rfl r6 rfl) (zM rfl (zN rfl (zF rfl (pY _ _) (zL rfl (s.ld (k:=1) rfl dA (je I rfl)) ?_)))))))))))))))
      have U:∃b,fq Tryz.prog h 138 di (.int .i64 f.aM) false=some (.agg [.int .u64 (mE π f.aM:Nat),.bool b]):=by
       rcases mL (f:=fun v (x:Nat×Bool)=>.pu (v=.agg [.int .u64 (x.1:Int),.bool x.2])) (n:=f.aM) (fun _ _=>aH.pu _) s qD bG xw with ⟨g1,_,g3⟩ | ⟨u,x,g1,_,g3,s'⟩
       ·exact ⟨false,by rw [g3]; simp only [mE,g1]; rfl⟩
       ·obtain ⟨rfl,_⟩:=eR.1 s'
        exact ⟨x.2,by rw [g3]; simp only [mE,g1]⟩
      obtain ⟨lb,U⟩:=U
      refine zO rfl (gT rfl rfl U) (zO rfl (Sq rfl (Sr (Km _) rfl)) (zO rfl (c8 rfl (by rw [Yj]; rfl)) ?_))
      refine aA.h_ rfl rfl rfl (OpR.mapUpdate rfl rfl rfl rfl (oZ (f:=fun v (x:Nat×Bool)=>.pu (v=.agg [.int .u64 (x.1:Int),.bool x.2])) (x:=(mE π f.aM,false)) (fun _ _=>aH.pu _) (s.gB rfl) qD bG)) ?_
      intro w h s
      refine aA.nil ⟨⟨aa,aa,aa,aa,aa,aa,aa,aa,aa,aa,aa,aa,aa,aa,aa,aa,aa,aa,aa,aa,aa⟩,?_⟩
      refine zK 4 rfl (WP.ret ⟨aa,_,rfl,?_⟩)
      refine ⟨rfl,?_⟩
      have s:=gD (i:=i) (f':={ f with changed:=false }) (s.ae [1,5,3]) rfl hi I
      have e6:(π.ak.set i { f with changed:=false }).length=π.ak.length:=dD
      rw [e6]
      exact s.ae [2,0,3,0,1,0]
     ·rw [aj hy]
      refine zt rfl (ah rfl rfl aV) (by simp; exact hy) ?_
      refine zk 7 rfl (WP.ret ⟨aa,_,rfl,?_⟩)
      refine ⟨rfl,?_⟩
      have s:=kA.2 ⟨_,s.ae [3,3]⟩
      exact (s.del 2).ae [3,0,2,2,1,0]
    ·rw [aj hx]
     refine zt rfl (ah rfl rfl aV) (by simp; exact hx) ?_
     refine zk 7 rfl (WP.ret ⟨aa,_,rfl,?_⟩)
     refine ⟨rfl,?_⟩
     have s:=kA.2 ⟨_,s.ae [3,3]⟩
     exact (s.del 3).ae [3,0,2,2,0,0]
   ·dsimp only [bringA,getA,aU] at s
    rw [aj hg]
    refine zk 16 rfl (zt rfl (ah rfl rfl aV) (rfl) (zk 7 rfl (WP.ret ⟨aa,_,rfl,?_⟩)))
    refine ⟨rfl,?_⟩
    have s:=kA.2 ⟨_,s.ae [1,1]⟩
    exact (s.del 1).ae [1,0]
end
structure gj (π gZ:Pl): Prop where
 aE:gZ.aE=π.aE
 aN:gZ.aN=π.aN
 len:gZ.ak.length=π.ak.length
 get:∀(i:Nat) (f:Fm),π.ak[i]?=some f→∃t,gZ.ak[i]?=some { f with fA:=t }
theorem gj.refl (π:Pl): gj π π:=⟨rfl,rfl,rfl,fun _ f h=>⟨f.fA,h⟩⟩
theorem gj.trans {π J I:Pl}(a:gj π J)(b:gj J I): gj π I:=by
 refine ⟨b.aE.trans a.aE,b.aN.trans a.aN,b.len.trans a.len,fun i f h => ?_⟩
 obtain ⟨t,ht⟩:=a.get i f h
 obtain ⟨t',U⟩:=b.get i _ ht
 exact ⟨t',U⟩
theorem gj.hand {π:Pl}{n:Nat}: gj π { π with hand:=n }:=⟨rfl,rfl,rfl,fun _ f h=>⟨f.fA,h⟩⟩
theorem gj.Uc {π:Pl}{i:Nat}{f:Fm}(hi:π.ak[i]?=some f): gj π { π with ak:=π.ak.set i { f with fA:=false } }:=by
 refine ⟨rfl,rfl,dD,fun j g I => ?_⟩
 by_cases h:i=j
 ·subst h
  rw [hi] at I
  have:=bx I
  subst this
  have J:=(List.getElem?_eq_some_iff.1 hi).1
  exact ⟨false,by simp [tF,J]⟩
 ·exact ⟨g.fA,by simp only [tF,af h]; exact I⟩
theorem QI {P:Program}{h:H}{t:TypeId}{x y:Operand}{a b:Nat}(I:0<b): binV P h .rem t x y (.int .i64 (a:Int)) (.int .i64 (b:Int))=some (.int .i64 ((a%b:Nat):Int)):=by
 simp only [binV,ikBeq,ag,intV]
 have:intBeq (b:Int) 0=false:=by rw [og]; simp; omega
 rw [this,ay,Int.tmod_eq_emod_of_nonneg (by omega)]
 rfl
section
variable {told:dM} {h:H} {S:List ax} {X:ax} {r k q p bW:Nat} {v x wh di:V} {l b:List Nat} {π:Pl} {m:List Fm}
theorem mS {i n:Nat}(hi:i<n): indexAddrV Tryz.prog 137 (.sl bW 0 n (.exact n)) (.int .i64 (i:Int))=some (.ptr bW (i*5)):=by
 rw [Yh,show (decide ((0:Int)≤(i:Int))&&decide ((i:Int)<(n:Int)))=true by simp; omega,ag]
 simp
theorem Jm (I:W told){f:Fm}(s:Sat h S)(J:storable v=true): Call ⟨Tryz.prog,told⟩ 126 [.agg (fK f v)] h fun w h'=>w=.bool (decide (f.pins=0))∧Sat h' S:=by
 refine Call.of_wp (I.free _ rfl) Tryz.func126 rfl rfl (zg rfl (aB.cT s rfl rfl rfl (gL rfl (by simp only [V.cells,fK,jl,jY,J]; rfl)) ?_))
 intro U h s
 dsimp only [V.cells,fK] at s
 exact zk 4 rfl (zf rfl (rL _ _) (zl rfl (s.ld (k:=0) rfl dA rfl) (zb rfl cB (zk 2 rfl (WP.ret ⟨aa,_,rfl,rfl,s.drop⟩)))))
theorem QJ (U:W told){f:Fm}(s:Sat h (e_ bW m::S))(h0:m[0]?=some f)(hp:f.pins=0): Call ⟨Tryz.prog,told⟩ 148 [.sl bW 0 m.length (.exact m.length),.fn (.func 126) [] []] h fun w h'=>w=.int .i64 0∧Sat h' (e_ bW m::S):=by
 have hl:=(List.getElem?_eq_some_iff.1 h0).1
 obtain ⟨pre,fv,post,I,hlen,s⟩:=jE s h0
 have J:=(s.aL (k:=2) rfl (cJ _ _)).cells.2
 refine Call.of_wp (U.free _ rfl) Tryz.func148 rfl rfl (zK 8 rfl (zo rfl (bf rfl rfl rfl (p_ rfl zZ)) (zk 2 rfl (WP.block (WP.loop (zg rfl (zt rfl (ah rfl rfl bB) (by simp; omega) ?_)))))))
 refine zk 5 rfl (WP.block (zK 10 rfl (zo rfl (ej rfl rfl (mS (i:=0) hl)) (zl rfl (ldF s (k:=0) rfl Ym C3 I hlen) (zc rfl (Jm U s J) ?_)))))
 rintro w h ⟨rfl,s⟩
 rw [dQ hp]
 exact zk 7 rfl (WP.ret ⟨aa,_,rfl,rfl,(kA.2 ⟨_,s⟩).del 1⟩)
theorem Jn (I:W told){f:Fm}(s:Sat h (e_ bW m::S))(J:m[0]?=some f)(U:f.pins=0): Call ⟨Tryz.prog,told⟩ 125 [.sl bW 0 m.length (.exact m.length),.fn (.func 126) [] []] h fun w h'=>w=.bool true∧Sat h' (e_ bW m::S):=by
 refine Call.of_wp (I.free _ rfl) Tryz.func125 rfl rfl (zK 8 rfl (zc rfl (QJ I s J U) ?_))
 rintro w h ⟨rfl,s⟩
 refine zt rfl (ah rfl rfl nC) (by decide) ?_
 exact zk 2 rfl (WP.ret ⟨aa,_,rfl,rfl,s⟩)
noncomputable def fdA : Code:=cM [1,0,0,1,0,0] ((Tryz.f94.body).getD .skip)
noncomputable def Wt : Code:=cM [1,0,1,1,1,0,0] ((Tryz.f94.body).getD .skip)
theorem Jo {wh di:V}{hand:Nat}: ∀(j i:Nat) (h:H) (E:List (Nat×V)) (Q:Ex→List (Nat×V)→H→Prop),i+j=m.length→m.length<4294967296 →
  Sat h (pt r (.cells 6 (qH p q bW m.length wh di hand) false)::e_ bW m::S)→Has E [(0,.ptr r 0),(10,.int .i64 m.length),(11,.int .i64 i)] →
  (∀E' (i:Nat) (f:Fm),m[i]?=some f→f.aM<0→look E' 2=some (.int .i64 (i:Int))→Q .ret E' h) →
  (∀E',Has E' [(0,.ptr r 0)]→Q (.exit 0) E' h)→WP ⟨Tryz.prog,told⟩ 70 (.loop fdA) E h Q:=by
 intro j
 induction j with
 | zero =>
  intro i h E Q hi hm s U hr hx
  refine WP.loop (WP.has U (zg rfl (zh rfl (ah rfl rfl bB) (by simp; omega) ?_)))
  exact zk 3 rfl (WP.exit (hx _ ⟨rfl,aa⟩))
 | succ j ih =>
  intro i h E Q hi hm s U hr hx
  have hc:m[i]?=some (m[i]'(by omega)):=bg _
  generalize (m[i]'(by omega))=f at hc
  obtain ⟨pre,fv,post,I,hlen,s'⟩:=jE (s.ae [1]) hc
  refine WP.loop (WP.has U (zg rfl (zt rfl (ah rfl rfl bB) (by simp; omega) ?_)))
  refine zk 5 rfl (WP.block (zK 9 rfl (zf rfl (lB _ _) (zl rfl (s.ld (k:=0) rfl oU rfl) (zm rfl (zo rfl (ej rfl rfl (mS (i:=i) (by omega))) ?_))))))
  refine zf rfl (pY _ _) (zl rfl (s'.ld (k:=0) rfl dA (je I rfl)) ?_)
  refine zd rfl (ah rfl rfl bB) ?_ ?_
  ·intro J
   have J:f.aM<0:=by simpa using J
   exact zk 7 rfl (WP.ret (hr _ i f hc J rfl))
  ·intro J
   refine zv (zj rfl (WP.skip (zr rfl (zb rfl (by exact bU (aY (by omega) (by omega))) ?_))))
   refine zm rfl (zv ?_)
   exact ih (i+1) h _ Q (by omega) hm s ⟨rfl,rfl,rfl,aa⟩ hr hx
def rO (m:List Fm): Nat:=(m.filter fun f=>f.fA).length
theorem BE {f:Fm}: ∀ {m:List Fm} {i:Nat},m[i]?=some f→f.fA=true→rO (m.set i { f with fA:=false })+1=rO m:=by
 intro m
 induction m with
 | nil=>intro i h; simp at h
 | cons g m J =>
  intro i h I
  cases i with
  | zero=>simp at h; subst h; simp [rO,I]
  | succ i =>
   rw [kF] at h
   have:=J h I
   simp only [rO,List.set_cons_succ,tG] at this ⊢
   split <;> (try simp only [bl]) <;> omega
theorem Dh {wh di:V}{f:Fm}{h:H}{E:List (Nat×V)}{Q:Ex→List (Nat×V)→H→Prop}(U:π.ak[π.hand]?=some f)(hm:π.ak.length<4294967296)(hp:f.pins=0)
 (s:Sat h (pt r (.cells 6 (qH p q bW π.ak.length wh di π.hand) false)::e_ bW π.ak::S))(hE:Has E [(0,.ptr r 0)])
 (hr:f.fA=false→∀E' h',look E' 2=some (.int .i64 (π.hand:Int))→Sat h' (pt r (.cells 6 (qH p q bW π.ak.length wh di ((π.hand+1)%π.ak.length)) false)::e_ bW π.ak::S)→Q .ret E' h')
 (hx:f.fA=true→∀E' h',Has E' [(0,.ptr r 0)]→Sat h' (pt r (.cells 6 (qH p q bW (π.ak.set π.hand { f with fA:=false }).length wh di ((π.hand+1)%π.ak.length)) false)::e_ bW (π.ak.set π.hand { f with fA:=false })::S)→WP ⟨Tryz.prog,told⟩ 70 (.loop Wt) E' h' Q):
  WP ⟨Tryz.prog,told⟩ 70 (.loop Wt) E h Q:=by
 have hl:=(List.getElem?_eq_some_iff.1 U).1
 refine WP.loop (WP.has hE (WP.block (zK 4 rfl (zf rfl (Et _ _) (zl rfl (s.ld (k:=0) rfl dA rfl) (zk 6 rfl (zf rfl (lB _ _) (zl rfl (s.ld (k:=0) rfl oU rfl) (zm rfl (zo rfl (ej rfl rfl (mS (i:=π.hand) hl)) (zk 3 rfl (WP.drawn [ai,ai,ai,ai,ai,ai,ai,ai,ai,ai,ai,ai,ai,ai,ai] rfl (by kernel_rfl) (by kernel_rfl) ?_))))))))))))
 refine zM rfl (zM rfl (zN rfl (zF rfl (Et _ _) (zL rfl (s.ld (k:=0) rfl dA rfl) (zO rfl (ah rfl rfl (by exact bU (aY (by omega) (by omega)))) ?_)))))
 refine zM rfl (zN rfl (zF rfl (lB _ _) (zL rfl (s.ld (k:=0) rfl oU rfl) (zO rfl (bf rfl rfl rfl (p_ rfl zZ)) (zO rfl (ah rfl rfl (QI (a:=π.hand+1) (by omega))) ?_)))))
 refine zN rfl (zF rfl (Et _ _) (aA.h_ rfl rfl rfl (OpR.eA rfl rfl rfl (s.ee (k:=0) rfl jK rfl (by decide) rfl rfl)) ?_))
 rintro v h ⟨rfl,s⟩
 have s:Sat h (pt r (.cells 6 (qH p q bW π.ak.length wh di ((π.hand+1)%π.ak.length)) false)::e_ bW π.ak::S):=s
 refine aA.nil ⟨⟨aa,aa,aa,aa,aa,aa,aa,aa,aa,aa,aa,aa,aa,aa,aa,aa⟩,?_⟩
 obtain ⟨pre,fv,post,I,hlen,s⟩:=jE (s.ae [1]) U
 refine zw (WP.block (zK 4 rfl (zf rfl (rL _ _) (zl rfl (s.ld (k:=0) rfl dA (je I rfl)) (zh rfl (ah rfl rfl ep) (by rw [hp]; decide) ?_)))))
 refine zk 7 rfl (zf rfl (Ew _ _) (zl rfl (s.ld (k:=0) rfl ke (je I rfl)) (zk 2 rfl ?_)))
 have Wu:f.fA=false∨f.fA=true:=by cases f.fA <;> simp
 rcases Wu with J | J
 ·refine WP.Sn rfl (J) ?_
  refine zK 5 rfl (WP.ret (hr J _ _ rfl ?_))
  have s:=kA.2 ⟨_,s.ae [0,0]⟩
  exact (s.del 1).ae [1,0]
 ·skip
  refine WP.LL rfl (J) (zK 3 rfl (zf rfl (Ew _ _) (zS rfl (s.stM (k:=0) (j:=3) rfl yq I hlen (by simp [fK]) rfl rfl) ?_)))
  intro h s
  have e5:(fK f fv).set 3 (.bool false)=fK { f with fA:=false } fv:=rfl
  rw [e5] at s
  refine zv (WP.exit (hx J _ _ ⟨rfl,aa⟩ ?_))
  have s:=gD (i:=π.hand) (f':={ f with fA:=false }) s rfl U I
  rw [dD]
  exact s.ae [1,0]
theorem Jp {wh di:V}: ∀(fuel:Nat) (π:Pl) (h:H) (E:List (Nat×V)) (Q:Ex→List (Nat×V)→H→Prop),rO π.ak≤fuel→π.hand<π.ak.length→π.ak.length<4294967296→(∀f∈π.ak,f.pins=0) →
  Sat h (pt r (.cells 6 (qH p q bW π.ak.length wh di π.hand) false)::e_ bW π.ak::S)→Has E [(0,.ptr r 0)] →
  (∀E' h' (i:Nat) (I:Pl) (f:Fm),gj π I→I.ak[i]?=some f→I.hand<I.ak.length→look E' 2=some (.int .i64 (i:Int))→Sat h' (pt r (.cells 6 (qH p q bW I.ak.length wh di I.hand) false)::e_ bW I.ak::S)→Q .ret E' h') →
  WP ⟨Tryz.prog,told⟩ 70 (.loop Wt) E h Q:=by
 intro fuel
 induction fuel with
 | zero =>
  intro π h E Q ht U hm hp s hE hr
  have J:π.ak[π.hand]?=some (π.ak[π.hand]'U):=bg _
  generalize (π.ak[π.hand]'U)=f at J
  refine Dh J hm (hp f (bw J)) s hE (fun h1 E' h' h2 s' => ?_) (fun h1 => ?_)
  ·exact hr E' h' π.hand { π with hand:=(π.hand+1)%π.ak.length } f gj.hand J (wg _ (by omega)) h2 s'
  ·have:=BE J h1
   omega
 | succ fuel ih =>
  intro π h E Q ht U hm hp s hE hr
  have J:π.ak[π.hand]?=some (π.ak[π.hand]'U):=bg _
  generalize (π.ak[π.hand]'U)=f at J
  refine Dh J hm (hp f (bw J)) s hE (fun h1 E' h' h2 s' => ?_) (fun h1 E' h' iH s' => ?_)
  ·exact hr E' h' π.hand { π with hand:=(π.hand+1)%π.ak.length } f gj.hand J (wg _ (by omega)) h2 s'
  ·have J3:=BE J h1
   have hn:gj π { π with ak:=π.ak.set π.hand { f with fA:=false },hand:=(π.hand+1)%π.ak.length }:=(gj.Uc J).trans gj.hand
   refine ih { π with ak:=π.ak.set π.hand { f with fA:=false },hand:=(π.hand+1)%π.ak.length } h' E' Q (by show rO (π.ak.set π.hand { f with fA:=false })≤fuel; omega) ?_ (by simp only [dD]; exact hm) (fun g hg => ?_) s' iH (fun E2 h2 i I g SU hg SV hl s2=>hr E2 h2 i I g (hn.trans SU) hg SV hl s2)
   ·simp only [dD]; exact wg _ (by omega)
   ·rcases pz hg with hg | rfl
    ·exact hp g hg
    ·exact hp f (bw J)
theorem QK (hT:W told){wh di:V}(s:Sat h (pt r (.cells 6 (qH p q bW π.ak.length wh di π.hand) false)::e_ bW π.ak::S))(hh:π.hand<π.ak.length)(hm:π.ak.length<4294967296)(hp:∀f∈π.ak,f.pins=0):
  Call ⟨Tryz.prog,told⟩ 94 [.ptr r 0] h fun v h'=>∃(i:Nat) (I:Pl) (f:Fm),v=.int .i64 (i:Int)∧gj π I∧I.ak[i]?=some f∧I.hand<I.ak.length ∧
   Sat h' (pt r (.cells 6 (qH p q bW I.ak.length wh di I.hand) false)::e_ bW I.ak::S):=by
 have J:π.ak[0]?=some (π.ak[0]'(by omega)):=bg _
 generalize (π.ak[0]'(by omega))=f0 at J
 have s0:=s
 refine Call.of_wp (hT.free _ rfl) Tryz.func94 rfl rfl (zK 4 rfl (WP.scope (zK 5 rfl (zf rfl (lB _ _) (zl rfl (s.ld (k:=0) rfl oU rfl) (zo rfl (bf rfl rfl rfl (p_ rfl zZ)) (zk 2 rfl (WP.block ?_))))))))
 refine Jo π.ak.length 0 _ _ _ (by omega) hm s ⟨rfl,rfl,rfl,aa⟩ (fun E' i f U _ h2 => ?_) (fun E' iH => ?_)
 ·exact ⟨aa,_,qy h2,i,π,f,rfl,gj.refl π,U,hh,s⟩
 ·skip
  refine WP.has iH (zK 5 rfl (zf rfl (lB _ _) (zl rfl (s.ld (k:=0) rfl oU rfl) (zc rfl (Jn hT (s.ae [1]) J (hp f0 (bw J))) ?_))))
  rintro w h ⟨rfl,s⟩
  refine zo rfl (dS rfl rfl) (zk 4 rfl (WP.label (WP.block ?_)))
  refine Jp (rO π.ak) π _ _ _ (aI _) hh hm hp (s.ae [1,0]) ⟨rfl,aa⟩ (fun E' h' i I f hn U SV h2 s' => ?_)
  exact ⟨aa,_,qy h2,i,I,f,rfl,hn,U,SV,s'⟩
end
end Go.Proofs.YtconhghphklfjaaGreat.Am
