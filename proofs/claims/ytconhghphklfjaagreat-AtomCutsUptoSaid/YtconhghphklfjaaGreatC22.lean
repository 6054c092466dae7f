/- AtomCuts: a part of its proof; conditions: its statement's. -/
import Derived.Test.YtconhghphklfjaaGreatC21
set_option linter.defProp false
namespace Go.Proofs.YtconhghphklfjaaGreat.Am
open Go
def y6:=@Tryz.underlying137
def Dk.cE (δ:Dk): Int×Dk:=if δ.dead=true then (9,δ) else if δ.aF=0 then (9,δ.die) else (0,{ δ.c_ with aL:=δ.log.length })
def Dk.bI (δ:Dk)(n:Int)(b:List Nat): Int×Dk:=if δ.dead=true then (9,δ) else if ¬(0≤n∧n<δ.aq.length∧b.length=512) then (1,δ) else
 if δ.aF=0 then (9,{ δ.die with eG:=some (n.toNat,b) }) else (0,δ.wr n b)
def Dk.nW (δ:Dk)(b:List Nat): Int×Dk:=if δ.dead=true then (9,δ) else if 64<b.length then (1,δ) else if δ.aF=0 then (9,δ.die) else (0,{ δ.c_ with mark:=b })
def Dk.kD (δ:Dk)(b:List Nat): Int×Dk:=if δ.dead=true then (9,δ) else if δ.room<δ.log.length+b.length then (7,δ) else if δ.aF=0 then (9,{ δ.die with tail:=b }) else (0,{ δ.c_ with log:=δ.log++b })
def Dk.mI (δ:Dk)(n:Int)(b:List Nat): Int×Dk:=if δ.dead=true then (9,δ) else if ¬(0≤n∧n≤δ.aL∧b.length≤64) then (1,δ) else if δ.aF=0 then (9,δ.die) else
 (0,{ δ.c_ with log:=δ.log.drop n.toNat,aL:=δ.aL-n.toNat,mark:=b })
def Dk.rT (δ:Dk)(n:Int): Int:=if δ.dead=true then 9 else if ¬(0≤n∧n<δ.aq.length) then 1 else 0
structure Dk.Ok (δ:Dk): Prop where
 aF:δ.aF<4294967296
 len:δ.log.length≤16777216
 room:δ.room≤16777216
 now:∀e∈δ.now,e.2.length=512
 aq:∀(i:Nat) (b:List Nat),δ.aq[i]?=some (some b)→b.length=512
 aL:δ.aL≤δ.log.length
 many:δ.aq.length≤65536
theorem Dk.Ok.c_ {δ:Dk}(h:δ.Ok): δ.c_.Ok:=⟨by have:=h.aF; simp only [Dk.c_]; split <;> omega,h.len,h.room,h.now,h.aq,h.aL,h.many⟩
theorem Dk.Ok.die {δ:Dk}(h:δ.Ok): δ.die.Ok:=⟨h.aF,h.len,h.room,h.now,h.aq,h.aL,h.many⟩
theorem Dk.Ok.cE {δ:Dk}(h:δ.Ok): δ.cE.2.Ok:=by
 unfold Dk.cE
 split
 ·exact h
 ·split
  ·exact h.die
  ·exact ⟨h.c_.aF,h.len,h.room,h.now,h.aq,aK _,h.many⟩
theorem fh {α:Type}{n:Int}{x:α}: ∀ {l:List (Int×α)},lookL n l=some x→(n,x)∈l:=by
 intro l
 induction l with
 | nil=>intro h; cases h
 | cons e l I =>
  intro h
  simp only [lookL] at h
  by_cases he:e.1=n
  ·rw [aj he] at h
   have:=bw h
   obtain ⟨a,b⟩:=e
   simp only at he this
   subst he; subst this
   exact bn
  ·rw [af he] at h; exact bl _ (I h)
theorem Dk.Ok.at {δ:Dk}(I:δ.Ok)(n:Int): (δ.at n).length=512:=by
 unfold Dk.at
 cases J:lookL n δ.now with
 | some b=>exact I.now _ (fh J)
 | none =>
  cases U:δ.aq[n.toNat]? with
  | none=>exact fo
  | some o =>
   cases o with
   | none=>exact fo
   | some b=>exact I.aq _ _ U
section
variable {told:dH} {h:H} {S:List ax} {X:ax} {k q p:Nat} {v x:V} {l b:List Nat} {μ:Lg} {δ:Dk}
theorem TG (U:W told)(s:Sat h (aD p δ::S))(hf:δ.aF<4294967296): Call ⟨Tryz.prog,told⟩ 106 [.ptr p 0] h fun v h'=>v=.int .i64 δ.cE.1∧Sat h' (aD p δ.cE.2::S):=by
 refine (Fe U s hf).mono fun v h' hr => ?_
 unfold Dk.cE
 rcases hr with ⟨I,rfl,s⟩ | ⟨I,J,rfl,s⟩ | ⟨I,J,rfl,s⟩
 ·rw [aj I]; exact ⟨rfl,s⟩
 ·rw [af (by rw [I]; decide),aj J]; exact ⟨rfl,s⟩
 ·rw [af (by rw [I]; decide),af J]; exact ⟨rfl,s⟩
theorem Kk (hT:W told){n:Int}(s:Sat h (aD p δ::X::S))(hX:cT X (cU x b))(hb:b.length<1073741824)(hf:δ.aF<4294967296)(hw:δ.waiting.length≤268435456):
  Call ⟨Tryz.prog,told⟩ 108 [.ptr p 0,.int .i64 n,x] h fun v h'=>v=.int .i64 (δ.bI n b).1∧Sat h' (aD p (δ.bI n b).2::X::S):=by
 refine (NK hT s hX hb hf hw).mono fun v h' hr => ?_
 unfold Dk.bI
 rcases hr with ⟨I,rfl,s⟩ | ⟨I,J,rfl,s⟩ | ⟨I,U,h2,h3,J,rfl,s⟩ | ⟨I,U,h2,h3,J,rfl,s⟩
 ·rw [aj I]; exact ⟨rfl,s⟩
 ·rw [af (by rw [I]; decide),aj J]; exact ⟨rfl,s⟩
 ·rw [af (by rw [I]; decide),af (by simp [U,h2,h3]),aj J]; exact ⟨rfl,s⟩
 ·rw [af (by rw [I]; decide),af (by simp [U,h2,h3]),af J]; exact ⟨rfl,s⟩
theorem N0 (U:W told){n:Int}(s:Sat h (aD p δ::S))(J:δ.Ok): Call ⟨Tryz.prog,told⟩ 96 [.ptr p 0,.int .i64 n] h fun v h' =>
  (δ.rT n≠0∧v=.bD [.bz,.int .i64 (δ.rT n)]∧Sat h' (aD p δ::S))∨(δ.rT n=0∧∃u,v=.bD [u,.int .i64 0]∧Sat h' (bH u (δ.at n)::aD p δ::S)):=by
 refine (Qf U s (J.at n)).mono fun v h' hr => ?_
 unfold Dk.rT
 rcases hr with ⟨I,rfl,s⟩ | ⟨I,h0,rfl,s⟩ | ⟨I,h1,h2,u,rfl,s⟩
 ·rw [aj I]; exact .inl ⟨by decide,rfl,s⟩
 ·rw [af (by rw [I]; decide),aj h0]; exact .inl ⟨by decide,rfl,s⟩
 ·rw [af (by rw [I]; decide),af (by simp [h1,h2])]; exact .inr ⟨rfl,u,rfl,s⟩
end
abbrev LD := Lg×Dk
def bC (x:LD)(n:Nat): Int×LD:=if n<x.1.base+x.1.forced then (0,x) else if x.2.cE.1≠0 then (x.2.cE.1,(x.1,x.2.cE.2)) else (0,({ x.1 with forced:=x.1.b.length },x.2.cE.2))
def gU (x:LD)(n:Nat): Int×LD:=if ¬(x.1.hasB n=true∧n<x.1.base+x.1.forced) then (1,x) else if (x.2.nW (ew x.1.base n)).1≠0 then ((x.2.nW (ew x.1.base n)).1,(x.1,(x.2.nW (ew x.1.base n)).2)) else
 (0,({ x.1 with check:=n },(x.2.nW (ew x.1.base n)).2))
def cN (μ:Lg)(kd:Int)(tx pv nx:Nat)(data:List Nat)(aR:List cj): List Nat:=iq (μ.base+μ.b.length) (cY kd tx pv nx data aR)
def bp (x:LD)(kd:Int)(tx pv nx:Nat)(data:List Nat)(aR:List cj): (Nat×Int)×LD :=
 if dK kd aR=false then ((0,1),x) else if 1048576<(cY kd tx pv nx data aR).length then ((0,2),x) else
 if (x.2.kD (cN x.1 kd tx pv nx data aR)).1≠0 then ((0,(x.2.kD (cN x.1 kd tx pv nx data aR)).1),(x.1,(x.2.kD (cN x.1 kd tx pv nx data aR)).2)) else
 ((x.1.base+x.1.b.length,0),(x.1.app (cN x.1 kd tx pv nx data aR),(x.2.kD (cN x.1 kd tx pv nx data aR)).2))
theorem I_ {δ:Dk}: δ.cE.2.waiting=δ.waiting:=by
 unfold Dk.cE
 split
 ·rfl
 ·split <;> rfl
theorem kL {x:LD}{n:Nat}: (bC x n).2.2.waiting=x.2.waiting:=by
 unfold bC
 split
 ·rfl
 ·split <;> exact I_
theorem Dk.Ok.bI {δ:Dk}{n:Int}{b:List Nat}(h:δ.Ok): (δ.bI n b).2.Ok:=by
 unfold Dk.bI
 split
 ·exact h
 ·split
  ·exact h
  ·rename_i U
   split
   ·exact ⟨h.aF,h.len,h.room,h.now,h.aq,h.aL,h.many⟩
   ·refine ⟨h.c_.aF,h.len,h.room,fun e he => ?_,h.aq,h.aL,h.many⟩
    have J:b.length=512:=by
     by_cases q:0≤n∧n<δ.aq.length∧b.length=512
     ·exact q.2.2
     ·exact absurd q U
    have:∀l:List (Int×List Nat),(∀e∈l,e.2.length=512)→∀e∈cM n b l,e.2.length=512:=by
     intro l
     induction l with
     | nil=>intro _ e he; simp [cM] at he; subst he; exact J
     | cons x l ih =>
      intro I e he
      simp only [cM] at he
      split at he
      ·rcases List.mem_cons.1 he with rfl | he
       ·exact J
       ·exact I e (bl _ he)
      ·rcases List.mem_cons.1 he with rfl | he
       ·exact I _ bn
       ·exact ih (fun e he=>I e (bl _ he)) e he
    exact this δ.now h.now e he
theorem nX {x:LD}{n:Nat}(h:x.2.Ok): (bC x n).2.2.Ok:=by
 unfold bC
 split
 ·exact h
 ·split
  ·exact h.cE
  ·exact h.cE
theorem Lg.Ok.TH {μ:Lg}(h:μ.Ok): ({ μ with forced:=μ.b.length }:Lg).Ok:=⟨h.size,h.many,h.low,h.xm,aK _,h.len,h.check⟩
theorem rU {x:LD}{n:Nat}(h:x.1.Ok): (bC x n).2.1.Ok:=by
 unfold bC
 split
 ·exact h
 ·split
  ·exact h
  ·exact h.TH
section
variable {told:dH} {h:H} {S:List ax} {X:ax} {k q p:Nat} {v x:V} {l b:List Nat} {μ:Lg} {δ:Dk}
theorem Er (hT:W told){n:Nat}(s:Sat h (bf q p μ::aD p δ::S))(U:μ.Ok)(hf:δ.aF<4294967296): Call ⟨Tryz.prog,told⟩ 68 [.ptr q 0,.int .u64 (n:Int)] h fun v h' =>
  v=.int .i64 (bC (μ,δ) n).1∧Sat h' (bf q p (bC (μ,δ) n).2.1::aD p (bC (μ,δ) n).2.2::S):=by
 refine (NR hT s U hf).mono fun v h' hr => ?_
 unfold bC Dk.cE
 rcases hr with ⟨I,rfl,s⟩ | ⟨I,J,rfl,s⟩ | ⟨I,J,h0,rfl,s⟩ | ⟨I,J,h0,rfl,s⟩
 ·rw [aj I]; exact ⟨rfl,s⟩
 ·simp only [af (Nat.not_lt.2 I),aj J,jP,aj (by decide:¬ ((9:Int)=0))]; exact ⟨aa,s⟩
 ·simp only [af (Nat.not_lt.2 I),af (by rw [J]; decide:¬ δ.dead=true),aj h0,jP,aj (by decide:¬ ((9:Int)=0))]; exact ⟨aa,s⟩
 ·simp only [af (Nat.not_lt.2 I),af (by rw [J]; decide:¬ δ.dead=true),af h0,jP,not_true,bK]; exact ⟨aa,s⟩
theorem TI (hT:W told){n:Nat}(s:Sat h (bf q p μ::aD p δ::S))(Es:μ.Ok)(hf:δ.aF<4294967296)(hn:n<18446744073709551616): Call ⟨Tryz.prog,told⟩ 69 [.ptr q 0,.int .u64 (n:Int)] h fun v h' =>
  v=.int .i64 (gU (μ,δ) n).1∧Sat h' (bf q p (gU (μ,δ) n).2.1::aD p (gU (μ,δ) n).2.2::S):=by
 refine (NS hT s Es hf hn).mono fun v h' hr => ?_
 have hm:¬ 64<(ew μ.base n).length:=by rw [mA]; decide
 unfold gU Dk.nW
 rcases hr with ⟨I,rfl,s⟩ | ⟨I,J,U,rfl,s⟩ | ⟨I,J,U,h0,rfl,s⟩ | ⟨I,J,U,h0,rfl,s⟩
 ·rw [aj I]; exact ⟨rfl,s⟩
 ·simp only [af (fun q=>q ⟨I,J⟩:¬¬(μ.hasB n=true∧n<μ.base+μ.forced)),aj U,jP,aj (by decide:¬ ((9:Int)=0))]; exact ⟨aa,s⟩
 ·simp only [af (fun q=>q ⟨I,J⟩:¬¬(μ.hasB n=true∧n<μ.base+μ.forced)),af (by rw [U]; decide:¬ δ.dead=true),af hm,aj h0,jP,aj (by decide:¬ ((9:Int)=0))]; exact ⟨aa,s⟩
 ·simp only [af (fun q=>q ⟨I,J⟩:¬¬(μ.hasB n=true∧n<μ.base+μ.forced)),af (by rw [U]; decide:¬ δ.dead=true),af hm,af h0,jP,not_true,bK]; exact ⟨aa,s⟩
theorem Hu (hT:W told){kd:Int}{tx pv nx:Nat}{dt ch:V}{cs:List V}{data:List Nat}{aR:List cj}(s:Sat h (bf q p μ::aD p δ::X::.arr 4 ch cs::cV cs aR::S))(hX:cT X (cU dt data))(iH:CZ tx pv nx data aR)(Es:μ.Ok)(tj:δ.Ok):
  Call ⟨Tryz.prog,told⟩ 48 [.ptr q 0,.agg (iC kd tx pv nx dt ch)] h fun r h' =>
  r=.bD [.int .u64 ((bp (μ,δ) kd tx pv nx data aR).1.1:Nat),.int .i64 (bp (μ,δ) kd tx pv nx data aR).1.2] ∧
  Sat h' (bf q p (bp (μ,δ) kd tx pv nx data aR).2.1::aD p (bp (μ,δ) kd tx pv nx data aR).2.2::X::.arr 4 ch cs::cV cs aR::S):=by
 refine (LM hT s hX iH Es tj.aF tj.len tj.room).mono fun v h' hr => ?_
 unfold bp Dk.kD cN
 rcases hr with ⟨e,rfl,(⟨J,rfl⟩ | ⟨J,U,rfl⟩ | ⟨J,U,hd,rfl⟩ | ⟨J,U,hd,Sr,rfl⟩),s⟩ | ⟨J,U,hd,I,h0,rfl,s⟩ | ⟨J,U,hd,I,h0,rfl,s⟩
 ·rw [aj J]; exact ⟨rfl,s⟩
 ·rw [af (by rw [J]; decide),aj U]; exact ⟨rfl,s⟩
 ·simp only [af (by rw [J]; decide:¬ dK kd aR=false),af (Nat.not_lt.2 U),aj hd,jP,aj (by decide:¬ ((9:Int)=0))]; exact ⟨rfl,s⟩
 ·simp only [af (by rw [J]; decide:¬ dK kd aR=false),af (Nat.not_lt.2 U),af (by rw [hd]; decide:¬ δ.dead=true),aj Sr,jP,aj (by decide:¬ ((7:Int)=0))]; exact ⟨rfl,s⟩
 ·simp only [af (by rw [J]; decide:¬ dK kd aR=false),af (Nat.not_lt.2 U),af (by rw [hd]; decide:¬ δ.dead=true),af (Nat.not_lt.2 I),aj h0,jP,aj (by decide:¬ ((9:Int)=0))]; exact ⟨rfl,s⟩
 ·simp only [af (by rw [J]; decide:¬ dK kd aR=false),af (Nat.not_lt.2 U),af (by rw [hd]; decide:¬ δ.dead=true),af (Nat.not_lt.2 I),af h0,jP,not_true,bK]; exact ⟨aa,s⟩
end
structure Fm where
 aO:Int
 b:List Nat
 pins:Int
 ff:Bool
 changed:Bool
structure Pl where
 ak:List Fm
 aH:List (Int×Int)
 aN:List (Int×(Nat×Bool))
 hand:Nat
def fH (f:Fm)(v:V): List V:=[.int .i64 f.aO,v,.int .i64 f.pins,.bool f.ff,.bool f.changed]
def uK : List V→List Fm→ax
 | [],[]=>.pu True
 | a::v::c::d::e::l,x::m=>.an (.an (.pu (a=.int .i64 x.aO∧c=.int .i64 x.pins∧d=.bool x.ff∧e=.bool x.changed)) (.cm v x.b)) (uK l m)
 | _,_=>.pu False
theorem aE.fm : ∀(m:List Fm) (l:List V),aE (uK l m):=by
 intro m
 induction m with
 | nil=>intro l; rcases l with _ | ⟨a,_ | ⟨b,_ | ⟨c,_ | ⟨d,_ | ⟨e,l⟩⟩⟩⟩⟩ <;> exact aE.pu _
 | cons x m I=>intro l; rcases l with _ | ⟨a,_ | ⟨b,_ | ⟨c,_ | ⟨d,_ | ⟨e,l⟩⟩⟩⟩⟩ <;> first | exact aE.pu _ | exact aE.an (aE.an (aE.pu _) (aE.cm _ _)) (I l)
theorem y7 {a b:PM}: ∀ {m:List Fm} {l:List V} {i:Nat} {f:Fm},(uK l m).p a b→m[i]?=some f→∃pre v post,l=pre++(fH f v++post)∧pre.length=i*5∧(ax.cm v f.b).p a b ∧
  (∀(f':Fm) (v':V) (I J:PM),(ax.cm v' f'.b).p I J→PM.le a I→PM.le b J→(uK (pre++(fH f' v'++post)) (m.set i f')).p I J):=by
 intro m
 induction m with
 | nil=>intro l i f h U; simp at U
 | cons x m ih =>
  intro l i f h U
  rcases l with _ | ⟨p,_ | ⟨q,_ | ⟨w,_ | ⟨d,_ | ⟨e,l⟩⟩⟩⟩⟩ <;> first | exact h.elim | skip
  obtain ⟨⟨⟨h1,h2,h3,h4⟩,h5⟩,h6⟩:=h
  cases i with
  | zero =>
   simp at U
   subst U
   refine ⟨[],q,l,?_,rfl,h5,fun f' v' I J hv ha hb=>⟨⟨⟨rfl,rfl,rfl,rfl⟩,hv⟩,(uK l m).mono _ _ _ _ ha hb h6⟩⟩
   rw [h1,h2,h3,h4]; rfl
  | succ i =>
   simp at U
   obtain ⟨pre,v,post,e1,e2,e3,e4⟩:=ih h6 U
   refine ⟨p::q::w::d::e::pre,v,post,?_,?_,e3,fun f' v' I J hv ha hb=>⟨⟨⟨h1,h2,h3,h4⟩,ax.mono _ _ _ _ _ ha hb h5⟩,e4 f' v' I J hv ha hb⟩⟩
   ·rw [e1]; rfl
   ·simp only [bj,e2]; omega
theorem TJ {a b:PM}: ∀ {m:List Fm} {l:List V},(uK l m).p a b→l.length=m.length*5:=by
 intro m
 induction m with
 | nil=>intro l h; rcases l with _ | ⟨a,_ | ⟨b,_ | ⟨c,_ | ⟨d,_ | ⟨e,l⟩⟩⟩⟩⟩ <;> first | rfl | exact h.elim
 | cons x m I =>
  intro l h
  rcases l with _ | ⟨a,_ | ⟨b,_ | ⟨c,_ | ⟨d,_ | ⟨e,l⟩⟩⟩⟩⟩ <;> first | exact h.elim | skip
  have:=I h.2
  simp only [bj]
  omega
def eV (bX:Nat)(m:List Fm): ax:=xs fun cs:List V=>star [pt bX (.cells (m.length*5) cs false),uK cs m]
abbrev Hv (v:V)(m:List (Int×Int)): ax:=i_ (fun v x=>.pu (v=.int .i64 x)) v m
abbrev C0 (v:V)(m:List (Int×(Nat×Bool))): ax:=i_ (fun v x=>.pu (v=.agg [.int .u64 (x.1:Int),.bool x.2])) v m
def qw (p q bX n:Nat)(wh di:V)(hand:Nat): List V:=[.ptr p 0,.ptr q 0,.sl bX 0 n (.exact n),wh,di,.int .i64 (hand:Int)]
def b8 (r p q:Nat)(π:Pl): ax:=xs fun bX:Nat=>xs fun wh:V=>xs fun di:V =>
 star [pt r (.cells 6 (qw p q bX π.ak.length wh di π.hand) false),eV bX π.ak,Hv wh π.aH,C0 di π.aN]
section
variable {P:Program} {h:H} {S:List ax} {X:ax} {r q p bX:Nat} {v:V} {π:Pl} {m:List Fm}
theorem dg : Sat h (b8 r p q π::S)↔∃bX wh di,Sat h (pt r (.cells 6 (qw p q bX π.ak.length wh di π.hand) false)::eV bX π.ak::Hv wh π.aH::C0 di π.aN::S):=by
 simp only [b8,gw,dZ,fq,cW]
theorem kf : Sat h (eV bX m::S)↔∃cs,Sat h (pt bX (.cells (m.length*5) cs false)::uK cs m::S):=by
 simp only [eV,gw,dZ,fq,cW]
theorem jz {i:Nat}{f:Fm}(s:Sat h (eV bX m::S))(hf:m[i]?=some f): ∃pre v post,pre.length=i*5∧(pre++(fH f v++post)).length=m.length*5 ∧
  Sat h (pt bX (.cells (m.length*5) (pre++(fH f v++post)) false)::uK (pre++(fH f v++post)) m::.cm v f.b::S):=by
 obtain ⟨cs,s⟩:=kf.1 s
 obtain ⟨a,b,q1,q2,q3⟩:=s.at (k:=1) rfl
 obtain ⟨pre,v,post,e1,e2,e3,_⟩:=y7 q3 hf
 have hl:=TJ q3
 subst e1
 refine ⟨pre,v,post,e2,hl,?_⟩
 have s1:Sat h (uK (pre++(fH f v++post)) m::pt bX (.cells (m.length*5) (pre++(fH f v++post)) false)::S):=s.ae [1]
 have s2:=(s1.dup (aE.fm _ _)).fP (B:=.cm v f.b) fun a' b' h'=>by
  obtain ⟨aas,v',I,J,uJ,U,_⟩:=y7 h' hf
  have:=DV J (by omega)
  obtain ⟨_,h5⟩:=this
  have h6:=jh (fun l=>l[1]?) h5
  simp [fH] at h6
  subst h6
  exact U
 exact s2.ae [2,1,0]
theorem gy {i:Nat}{f f':Fm}{v':V}{pre post:List V}{n:Nat}(s:Sat h (pt bX (.cells n (pre++(fH f' v'++post)) false)::uK (pre++(fH f v++post)) m::.cm v' f'.b::S))(hn:n=m.length*5)(hf:m[i]?=some f)(hp:pre.length=i*5): Sat h (eV bX (m.set i f')::S):=by
 subst hn
 have s1:Sat h (uK (pre++(fH f v++post)) m::.cm v' f'.b::pt bX (.cells (m.length*5) (pre++(fH f' v'++post)) false)::S):=s.ae [1,1,0]
 have s2:=s1.two (C:=uK (pre++(fH f' v'++post)) (m.set i f')) (aE.fm _ _) (aE.cm _ _) fun a b h1 h2=>by
  obtain ⟨aas,v0,I,J,uJ,e3',U⟩:=y7 h1 hf
  obtain ⟨h3,h4⟩:=DV J (by omega)
  subst h3
  have h5:post=I:=by
   have:=DV h4 (by simp [fH])
   exact this.2
  subst h5
  exact U f' v' a b h2 (PM.le_refl _) (PM.le_refl _)
 refine kf.2 ⟨pre++(fH f' v'++post),?_⟩
 rw [dw]
 exact s2.ae [1]
theorem iX {pre row post:List V}{a j:Nat}{x:V}(U:pre.length=a)(I:nth row j=some x): nth (pre++(row++post)) (a+j)=some x:=by
 rw [fR] at I ⊢
 have J:=(List.getElem?_eq_some_iff.1 I).1
 rw [nI (by omega),show a+j-pre.length=j by omega,kj J,I]
theorem TK {pre row post:List V}{a j:Nat}{x:V}(J:pre.length=a)(I:j<row.length): (pre++(row++post)).set (a+j) x=pre++(row.set j x++post):=by
 rw [List.set_append_right _ _ (by omega),show a+j-pre.length=j by omega,List.set_append_left _ _ I]
theorem Sat.stM {t:TypeId}{k id n a j:Nat}{pre row post:List V}{x:V}(s:Sat h S)(U:getA S k=some (pt id (.cells n (pre++(row++post)) false)))(hs:bG P t=some 1)(hp:pre.length=a)(J:(pre++(row++post)).length=n)(hj:j<row.length)(hv:x.cells=[x])(I:storable x=true):
  ∃h₁,gV P h t (.ptr id (a+j)) x=some h₁∧Sat h₁ (setA S k (pt id (.cells n (pre++(row.set j x++post)) false))):=by
 have:=s.dQ (P:=P) (t:=t) (off:=a+j) (v:=x) U hs J (by rw [←J]; simp; omega) hv I
 rwa [TK hp hj] at this
theorem Sat.Ss {t:TypeId}{k id n a:Nat}{pre row row' post:List V}(s:Sat h S)(U:getA S k=some (pt id (.cells n (pre++(row++post)) false)))(hs:bG P t=some row'.length)(hp:pre.length=a)(J:(pre++(row++post)).length=n)(hr:row'.length=row.length)(I:row'.all storable=true):
  ∃h₁,gV P h t (.ptr id a) (.agg row')=some h₁∧Sat h₁ (setA S k (pt id (.cells n (pre++(row'++post)) false))):=by
 have:=s.YS (P:=P) (t:=t) (off:=a) (l:=row') U hs J (by rw [←J]; simp; omega) I
 have e:(pre++(row++post)).take a++(row'++(pre++(row++post)).drop (a+row'.length))=pre++(row'++post):=by
  rw [ko hp,Ae,iu (by omega),cW,show a+row'.length-pre.length=row.length by omega,pz rfl]
 rwa [e] at this
theorem ldF {t:TypeId}{k id n a:Nat}{pre row post:List V}(s:Sat h S)(J:getA S k=some (pt id (.cells n (pre++(row++post)) false)))(U:cg P t=some true)(hs:bG P t=some row.length)(hp:pre.length=a)(I:(pre++(row++post)).length=n): loadV P h t (.ptr id a)=some (.agg row):=by
 rw [Se U hs (s.row J) I (by rw [←I]; simp; omega),pz hp,ko rfl]
end
abbrev aM := Pl×LD
def me (π:Pl)(n:Int): Nat:=match lookL n π.aN with
 | some x=>x.1
 | none=>0
def outF (ε:aM)(i:Nat): Int×aM:=match ε.1.ak[i]? with
 | none=>(0,ε)
 | some f=>if f.aO<0∨f.changed=false then (0,ε) else if bU f.b=false then (4,ε) else
  if (bC ε.2 (eR f.b 4 8)).1≠0 then ((bC ε.2 (eR f.b 4 8)).1,(ε.1,(bC ε.2 (eR f.b 4 8)).2)) else
  if ((bC ε.2 (eR f.b 4 8)).2.2.bI f.aO f.b).1≠0 then (((bC ε.2 (eR f.b 4 8)).2.2.bI f.aO f.b).1,(ε.1,((bC ε.2 (eR f.b 4 8)).2.1,((bC ε.2 (eR f.b 4 8)).2.2.bI f.aO f.b).2))) else
  (0,({ ε.1 with ak:=ε.1.ak.set i { f with changed:=false },aN:=cM f.aO (me ε.1 f.aO,false) ε.1.aN },((bC ε.2 (eR f.b 4 8)).2.1,((bC ε.2 (eR f.b 4 8)).2.2.bI f.aO f.b).2)))
section
variable {told:dH} {h:H} {S:List ax} {X:ax} {r k q p bX:Nat} {v x wh di:V} {l b:List Nat} {π:Pl} {μ:Lg} {δ:Dk}
theorem N4 (hT:W told){i:Nat}{f:Fm}(s:Sat h (pt r (.cells 6 (qw p q bX π.ak.length wh di π.hand) false)::eV bX π.ak::Hv wh π.aH::C0 di π.aN::bf q p μ::aD p δ::S))(hi:π.ak[i]?=some f)(Es:μ.Ok)(tj:δ.Ok)(Y8:f.b.length<1073741824)(hw:δ.waiting.length≤268435456):
  Call ⟨Tryz.prog,told⟩ 95 [.ptr r 0,.ptr bX (i*5)] h fun v h'=>v=.int .i64 (outF (π,μ,δ) i).1 ∧
   Sat h' (pt r (.cells 6 (qw p q bX (outF (π,μ,δ) i).2.1.ak.length wh di (outF (π,μ,δ) i).2.1.hand) false)::eV bX (outF (π,μ,δ) i).2.1.ak::Hv wh (outF (π,μ,δ) i).2.1.aH::C0 di (outF (π,μ,δ) i).2.1.aN::bf q p (outF (π,μ,δ) i).2.2.1::aD p (outF (π,μ,δ) i).2.2.2::S):=by
 have Y9:=s
 obtain ⟨pre,fv,post,I,hlen,s⟩:=jz (s.ae [1]) hi
 have hfv:=(s.aG (k:=2) rfl (cJ _ _))
 refine Call.of_wp (hT.free _ rfl) Tryz.func95 rfl rfl (zK 9 rfl (zf rfl (pO _ _) (zl rfl (s.ld (k:=0) rfl dr (iX I rfl)) ?_)))
 refine zd rfl (ah rfl rfl bu) ?_ ?_
 ·intro hq
  have hq:f.aO<0:=by simpa using hq
  have he:outF (π,μ,δ) i=(0,(π,μ,δ)):=by simp only [outF,hi]; rw [aj (.inl hq)]
  rw [he]
  exact zk 13 rfl (WP.ret ⟨aa,_,rfl,rfl,Y9⟩)
 ·intro hq
  have hq:¬ f.aO<0:=by simpa using hq
  refine zk 3 rfl (zf rfl (Ej _ _) (zl rfl (s.ld (k:=0) rfl jW (iX I rfl)) ?_))
  have Bc:f.changed=false∨f.changed=true:=by cases f.changed <;> simp
  rcases Bc with hc | hc
  ·have he:outF (π,μ,δ) i=(0,(π,μ,δ)):=by simp only [outF,hi]; rw [aj (.inr hc)]
   rw [he]
   refine zt rfl (dX rfl rfl) (by rw [hc]; rfl) ?_
   exact zk 7 rfl (WP.ret ⟨aa,_,rfl,rfl,Y9⟩)
  ·have he:outF (π,μ,δ) i=(if bU f.b=false then (4,(π,μ,δ)) else
    if (bC (μ,δ) (eR f.b 4 8)).1≠0 then ((bC (μ,δ) (eR f.b 4 8)).1,(π,(bC (μ,δ) (eR f.b 4 8)).2)) else
    if ((bC (μ,δ) (eR f.b 4 8)).2.2.bI f.aO f.b).1≠0 then (((bC (μ,δ) (eR f.b 4 8)).2.2.bI f.aO f.b).1,(π,((bC (μ,δ) (eR f.b 4 8)).2.1,((bC (μ,δ) (eR f.b 4 8)).2.2.bI f.aO f.b).2))) else
    (0,({ π with ak:=π.ak.set i { f with changed:=false },aN:=cM f.aO (me π f.aO,false) π.aN },((bC (μ,δ) (eR f.b 4 8)).2.1,((bC (μ,δ) (eR f.b 4 8)).2.2.bI f.aO f.b).2)))):=by
    simp only [outF,hi]; rw [af (by rw [hc]; simp; omega)]
   rw [he]
   refine zh rfl (dX rfl rfl) (by rw [hc]; rfl) ?_
   refine zk 8 rfl (zf rfl (AH _ _) (zl rfl (s.ld (k:=0) rfl bL (iX I rfl)) (zc rfl (TF hT (s.ae [2]) (cJ _ _) (by omega)) ?_)))
   rintro w h ⟨s,(⟨hg,rfl⟩ | ⟨hg,rfl⟩)⟩
   ·dsimp only [bringA,getA,aT] at s
    rw [af (by rw [hg]; decide)]
    have Qn:(bC (μ,δ) (eR f.b 4 8)).2.2.Ok:=nX tj
    have V0:(bC (μ,δ) (eR f.b 4 8)).2.2.waiting.length≤268435456:=by rw [kL]; exact hw
    have J:=Er (n:=eR f.b 4 8) hT (s.ae [6,6]) Es tj.aF
    generalize bC (μ,δ) (eR f.b 4 8)=x at J Qn V0 ⊢
    obtain ⟨xe,xl,xd⟩:=x
    dsimp only at J Qn V0 ⊢
    refine zk 16 rfl (zh rfl (ah rfl rfl aX) (rfl) (zk 8 rfl (zf rfl (Tp _ _) (zl rfl (s.ld (k:=3) rfl nu rfl) (zm rfl (zc rfl (J) ?_))))))
    rintro w h ⟨rfl,s⟩
    refine zk 5 rfl ?_
    by_cases hx:xe=0
    ·subst hx
     rw [af (by decide)]
     refine zh rfl (ah rfl rfl aX) (rfl) ?_
     have uC:=fun (s:Sat h (aD p xd::.cm fv f.b::bf q p xl::pt bX (.cells (π.ak.length*5) (pre++(fH f fv++post)) false)::uK (pre++(fH f fv++post)) π.ak::pt r (.cells 6 (qw p q bX π.ak.length wh di π.hand) false)::Hv wh π.aH::C0 di π.aN::S))=>Kk (n:=f.aO) hT s (cJ fv f.b) Y8 Qn.aF V0
     generalize xd.bI f.aO f.b=y at uC ⊢
     obtain ⟨ye,yd⟩:=y
     dsimp only at uC ⊢
     have s:=s.ae [1,1,0]
     refine zk 5 rfl (WP.drawn [ai,ai,ai,ai,ai,ai,ai,ai,ai,ai,ai,ai,ai,ai] rfl (by kernel_rfl) (by kernel_rfl) ?_)
     refine zM rfl (zN rfl (zF rfl (wm _ _) (zL rfl (s.ld (k:=5) rfl jR rfl) (zM rfl (zN rfl (zF rfl (pO _ _) (zL rfl (s.ld (k:=3) rfl dr (iX I rfl)) (zM rfl (zN rfl (zF rfl (AH _ _) (zL rfl (s.ld (k:=3) rfl bL (iX I rfl)) (aA.any rfl rfl rfl rfl (OpR.call rfl rfl rfl rfl (uC s)) ?_))))))))))))
     rintro w h ⟨rfl,s⟩
     refine zA rfl ?_
     refine aA.nil ⟨⟨aa,aa,aa,aa,aa,aa,aa,aa,aa,aa,aa,aa,aa,aa,aa⟩,?_⟩
     refine zK 3 rfl ?_
     by_cases hy:ye=0
     ·subst hy
      rw [af (by decide)]
      refine zh rfl (ah rfl rfl aX) (rfl) (zk 7 rfl (zf rfl (Ej _ _) (zS rfl (s.stM (k:=3) (j:=4) rfl x_ I hlen (by simp [fH]) rfl rfl) ?_)))
      intro h s
      have e5:(fH f fv).set 4 (.bool false)=fH { f with changed:=false } fv:=rfl
      rw [e5] at s
      have s:=s.ae [7,3,4]
      refine zk 2 rfl (WP.drawn [ai,ai,ai,ai,ai,ai,ai,ai,ai,ai,ai,ai,ai,ai,ai,ai,ai,ai,ai,ai] rfl (by kernel_rfl) (by kernel_rfl) ?_)
      refine zM rfl (zN rfl (zF rfl (m5 _ _) (zL rfl (s.ld (k:=2) rfl rQ rfl) (zM rfl (zN rfl (zF rfl (pO _ _) (zL rfl (s.ld (k:=1) rfl dr (iX I rfl)) (zM rfl (zN rfl (zF rfl (m5 _ _) (zL rfl (s.ld (k:=2) rfl rQ rfl) (zM rfl (zN rfl (zF rfl (pO _ _) (zL rfl (s.ld (k:=1) rfl dr (iX I rfl)) ?_)))))))))))))))
      have U:∃b,fc Tryz.prog h 138 di (.int .i64 f.aO) false=some (.agg [.int .u64 (me π f.aO:Nat),.bool b]):=by
       rcases mw (f:=fun v (x:Nat×Bool)=>.pu (v=.agg [.int .u64 (x.1:Int),.bool x.2])) (n:=f.aO) (fun _ _=>aE.pu _) s qt bF w8 with ⟨g1,_,g3⟩ | ⟨u,x,g1,_,g3,s'⟩
       ·exact ⟨false,by rw [g3]; simp only [me,g1]; rfl⟩
       ·obtain ⟨rfl,_⟩:=eL.1 s'
        exact ⟨x.2,by rw [g3]; simp only [me,g1]⟩
      obtain ⟨lb,U⟩:=U
      refine zO rfl (gM rfl rfl U) (zO rfl (RZ rfl (R1 (J_ _) rfl)) (zO rfl (c7 rfl (by rw [XE]; rfl)) ?_))
      refine aA.g8 rfl rfl rfl (OpR.mapUpdate rfl rfl rfl rfl (oN (f:=fun v (x:Nat×Bool)=>.pu (v=.agg [.int .u64 (x.1:Int),.bool x.2])) (x:=(me π f.aO,false)) (fun _ _=>aE.pu _) (s.gD rfl) qt bF)) ?_
      intro w h s
      refine aA.nil ⟨⟨aa,aa,aa,aa,aa,aa,aa,aa,aa,aa,aa,aa,aa,aa,aa,aa,aa,aa,aa,aa,aa⟩,?_⟩
      refine zK 4 rfl (WP.ret ⟨aa,_,rfl,?_⟩)
      refine ⟨rfl,?_⟩
      have s:=gy (i:=i) (f':={ f with changed:=false }) (s.ae [1,5,3]) rfl hi I
      have e6:(π.ak.set i { f with changed:=false }).length=π.ak.length:=dw
      rw [e6]
      exact s.ae [2,0,3,0,1,0]
     ·rw [aj hy]
      refine zt rfl (ah rfl rfl aX) (by simp; exact hy) ?_
      refine zk 7 rfl (WP.ret ⟨aa,_,rfl,?_⟩)
      refine ⟨rfl,?_⟩
      have s:=kf.2 ⟨_,s.ae [3,3]⟩
      exact (s.del 2).ae [3,0,2,2,1,0]
    ·rw [aj hx]
     refine zt rfl (ah rfl rfl aX) (by simp; exact hx) ?_
     refine zk 7 rfl (WP.ret ⟨aa,_,rfl,?_⟩)
     refine ⟨rfl,?_⟩
     have s:=kf.2 ⟨_,s.ae [3,3]⟩
     exact (s.del 3).ae [3,0,2,2,0,0]
   ·dsimp only [bringA,getA,aT] at s
    rw [aj hg]
    refine zk 16 rfl (zt rfl (ah rfl rfl aX) (rfl) (zk 7 rfl (WP.ret ⟨aa,_,rfl,?_⟩)))
    refine ⟨rfl,?_⟩
    have s:=kf.2 ⟨_,s.ae [1,1]⟩
    exact (s.del 1).ae [1,0]
end
structure fX (π gS:Pl): Prop where
 aH:gS.aH=π.aH
 aN:gS.aN=π.aN
 len:gS.ak.length=π.ak.length
 get:∀(i:Nat) (f:Fm),π.ak[i]?=some f→∃t,gS.ak[i]?=some { f with ff:=t }
theorem fX.refl (π:Pl): fX π π:=⟨rfl,rfl,rfl,fun _ f h=>⟨f.ff,h⟩⟩
theorem fX.trans {π J I:Pl}(a:fX π J)(b:fX J I): fX π I:=by
 refine ⟨b.aH.trans a.aH,b.aN.trans a.aN,b.len.trans a.len,fun i f h => ?_⟩
 obtain ⟨t,ht⟩:=a.get i f h
 obtain ⟨t',U⟩:=b.get i _ ht
 exact ⟨t',U⟩
theorem fX.hand {π:Pl}{n:Nat}: fX π { π with hand:=n }:=⟨rfl,rfl,rfl,fun _ f h=>⟨f.ff,h⟩⟩
theorem fX.TL {π:Pl}{i:Nat}{f:Fm}(hi:π.ak[i]?=some f): fX π { π with ak:=π.ak.set i { f with ff:=false } }:=by
 refine ⟨rfl,rfl,dw,fun j g I => ?_⟩
 by_cases h:i=j
 ·subst h
  rw [hi] at I
  have:=bw I
  subst this
  have J:=(List.getElem?_eq_some_iff.1 hi).1
  exact ⟨false,by simp [tC,J]⟩
 ·exact ⟨g.ff,by simp only [tC,af h]; exact I⟩
theorem Qo {P:Program}{h:H}{t:TypeId}{x y:Operand}{a b:Nat}(I:0<b): binV P h .rem t x y (.int .i64 (a:Int)) (.int .i64 (b:Int))=some (.int .i64 ((a%b:Nat):Int)):=by
 simp only [binV,ikBeq,ag,intV]
 have:intBeq (b:Int) 0=false:=by rw [nU]; simp; omega
 rw [this,az,Int.tmod_eq_emod_of_nonneg (by omega)]
 rfl
section
variable {told:dH} {h:H} {S:List ax} {X:ax} {r k q p bX:Nat} {v x wh di:V} {l b:List Nat} {π:Pl} {m:List Fm}
theorem mJ {i n:Nat}(hi:i<n): indexAddrV Tryz.prog 137 (.sl bX 0 n (.exact n)) (.int .i64 (i:Int))=some (.ptr bX (i*5)):=by
 rw [XC,show (decide ((0:Int)≤(i:Int))&&decide ((i:Int)<(n:Int)))=true by simp; omega,ag]
 simp
theorem Ja (I:W told){f:Fm}(s:Sat h S)(J:storable v=true): Call ⟨Tryz.prog,told⟩ 126 [.agg (fH f v)] h fun w h'=>w=.bool (decide (f.pins=0))∧Sat h' S:=by
 refine Call.of_wp (I.free _ rfl) Tryz.func126 rfl rfl (zg rfl (aB.cQ s rfl rfl rfl (gC rfl (by simp only [V.cells,fH,iR,jg,J]; rfl)) ?_))
 intro U h s
 dsimp only [V.cells,fH] at s
 exact zk 4 rfl (zf rfl (rA _ _) (zl rfl (s.ld (k:=0) rfl dr rfl) (zb rfl cI (zk 2 rfl (WP.ret ⟨aa,_,rfl,rfl,s.drop⟩)))))
theorem Qp (U:W told){f:Fm}(s:Sat h (eV bX m::S))(h0:m[0]?=some f)(hp:f.pins=0): Call ⟨Tryz.prog,told⟩ 148 [.sl bX 0 m.length (.exact m.length),.fn (.func 126) [] []] h fun w h'=>w=.int .i64 0∧Sat h' (eV bX m::S):=by
 have hl:=(List.getElem?_eq_some_iff.1 h0).1
 obtain ⟨pre,fv,post,I,hlen,s⟩:=jz s h0
 have J:=(s.aG (k:=2) rfl (cJ _ _)).cells.2
 refine Call.of_wp (U.free _ rfl) Tryz.func148 rfl rfl (zK 8 rfl (zo rfl (a_ rfl rfl rfl (pQ rfl y6)) (zk 2 rfl (WP.block (WP.loop (zg rfl (zt rfl (ah rfl rfl bu) (by simp; omega) ?_)))))))
 refine zk 5 rfl (WP.block (zK 10 rfl (zo rfl (dY rfl rfl (mJ (i:=0) hl)) (zl rfl (ldF s (k:=0) rfl XH CN I hlen) (zc rfl (Ja U s J) ?_)))))
 rintro w h ⟨rfl,s⟩
 rw [dM hp]
 exact zk 7 rfl (WP.ret ⟨aa,_,rfl,rfl,(kf.2 ⟨_,s⟩).del 1⟩)
theorem Jb (I:W told){f:Fm}(s:Sat h (eV bX m::S))(J:m[0]?=some f)(U:f.pins=0): Call ⟨Tryz.prog,told⟩ 125 [.sl bX 0 m.length (.exact m.length),.fn (.func 126) [] []] h fun w h'=>w=.bool true∧Sat h' (eV bX m::S):=by
 refine Call.of_wp (I.free _ rfl) Tryz.func125 rfl rfl (zK 8 rfl (zc rfl (Qp I s J U) ?_))
 rintro w h ⟨rfl,s⟩
 refine zt rfl (ah rfl rfl nq) (by decide) ?_
 exact zk 2 rfl (WP.ret ⟨aa,_,rfl,rfl,s⟩)
noncomputable def fdA : Code:=cK [1,0,0,1,0,0] ((Tryz.f94.body).getD .skip)
noncomputable def V1 : Code:=cK [1,0,1,1,1,0,0] ((Tryz.f94.body).getD .skip)
theorem Jc {wh di:V}{hand:Nat}: ∀(j i:Nat) (h:H) (E:List (Nat×V)) (Q:Ex→List (Nat×V)→H→Prop),i+j=m.length→m.length<4294967296 →
  Sat h (pt r (.cells 6 (qw p q bX m.length wh di hand) false)::eV bX m::S)→Has E [(0,.ptr r 0),(10,.int .i64 m.length),(11,.int .i64 i)] →
  (∀E' (i:Nat) (f:Fm),m[i]?=some f→f.aO<0→look E' 2=some (.int .i64 (i:Int))→Q .ret E' h) →
  (∀E',Has E' [(0,.ptr r 0)]→Q (.exit 0) E' h)→WP ⟨Tryz.prog,told⟩ 70 (.loop fdA) E h Q:=by
 intro j
 induction j with
 | zero =>
  intro i h E Q hi hm s U hr hx
  refine WP.loop (WP.has U (zg rfl (zh rfl (ah rfl rfl bu) (by simp; omega) ?_)))
  exact zk 3 rfl (WP.exit (hx _ ⟨rfl,aa⟩))
 | succ j ih =>
  intro i h E Q hi hm s U hr hx
  have hc:m[i]?=some (m[i]'(by omega)):=bh _
  generalize (m[i]'(by omega))=f at hc
  obtain ⟨pre,fv,post,I,hlen,s'⟩:=jz (s.ae [1]) hc
  refine WP.loop (WP.has U (zg rfl (zt rfl (ah rfl rfl bu) (by simp; omega) ?_)))
  refine zk 5 rfl (WP.block (zK 9 rfl (zf rfl (kU _ _) (zl rfl (s.ld (k:=0) rfl oF rfl) (zm rfl (zo rfl (dY rfl rfl (mJ (i:=i) (by omega))) ?_))))))
  refine zf rfl (pO _ _) (zl rfl (s'.ld (k:=0) rfl dr (iX I rfl)) ?_)
  refine zd rfl (ah rfl rfl bu) ?_ ?_
  ·intro J
   have J:f.aO<0:=by simpa using J
   exact zk 7 rfl (WP.ret (hr _ i f hc J rfl))
  ·intro J
   refine zv (zj rfl (WP.skip (zr rfl (zb rfl (by exact bQ (aU (by omega) (by omega))) ?_))))
   refine zm rfl (zv ?_)
   exact ih (i+1) h _ Q (by omega) hm s ⟨rfl,rfl,rfl,aa⟩ hr hx
def rC (m:List Fm): Nat:=(m.filter fun f=>f.ff).length
theorem Bi {f:Fm}: ∀ {m:List Fm} {i:Nat},m[i]?=some f→f.ff=true→rC (m.set i { f with ff:=false })+1=rC m:=by
 intro m
 induction m with
 | nil=>intro i h; simp at h
 | cons g m J =>
  intro i h I
  cases i with
  | zero=>simp at h; subst h; simp [rC,I]
  | succ i =>
   rw [kn] at h
   have:=J h I
   simp only [rC,List.set_cons_succ,tD] at this ⊢
   split <;> (try simp only [bj]) <;> omega
theorem C1 {wh di:V}{f:Fm}{h:H}{E:List (Nat×V)}{Q:Ex→List (Nat×V)→H→Prop}(U:π.ak[π.hand]?=some f)(hm:π.ak.length<4294967296)(hp:f.pins=0)
 (s:Sat h (pt r (.cells 6 (qw p q bX π.ak.length wh di π.hand) false)::eV bX π.ak::S))(hE:Has E [(0,.ptr r 0)])
 (hr:f.ff=false→∀E' h',look E' 2=some (.int .i64 (π.hand:Int))→Sat h' (pt r (.cells 6 (qw p q bX π.ak.length wh di ((π.hand+1)%π.ak.length)) false)::eV bX π.ak::S)→Q .ret E' h')
 (hx:f.ff=true→∀E' h',Has E' [(0,.ptr r 0)]→Sat h' (pt r (.cells 6 (qw p q bX (π.ak.set π.hand { f with ff:=false }).length wh di ((π.hand+1)%π.ak.length)) false)::eV bX (π.ak.set π.hand { f with ff:=false })::S)→WP ⟨Tryz.prog,told⟩ 70 (.loop V1) E' h' Q):
  WP ⟨Tryz.prog,told⟩ 70 (.loop V1) E h Q:=by
 have hl:=(List.getElem?_eq_some_iff.1 U).1
 refine WP.loop (WP.has hE (WP.block (zK 4 rfl (zf rfl (Ef _ _) (zl rfl (s.ld (k:=0) rfl dr rfl) (zk 6 rfl (zf rfl (kU _ _) (zl rfl (s.ld (k:=0) rfl oF rfl) (zm rfl (zo rfl (dY rfl rfl (mJ (i:=π.hand) hl)) (zk 3 rfl (WP.drawn [ai,ai,ai,ai,ai,ai,ai,ai,ai,ai,ai,ai,ai,ai,ai] rfl (by kernel_rfl) (by kernel_rfl) ?_))))))))))))
 refine zM rfl (zM rfl (zN rfl (zF rfl (Ef _ _) (zL rfl (s.ld (k:=0) rfl dr rfl) (zO rfl (ah rfl rfl (by exact bQ (aU (by omega) (by omega)))) ?_)))))
 refine zM rfl (zN rfl (zF rfl (kU _ _) (zL rfl (s.ld (k:=0) rfl oF rfl) (zO rfl (a_ rfl rfl rfl (pQ rfl y6)) (zO rfl (ah rfl rfl (Qo (a:=π.hand+1) (by omega))) ?_)))))
 refine zN rfl (zF rfl (Ef _ _) (aA.g8 rfl rfl rfl (OpR.d_ rfl rfl rfl (s.dQ (k:=0) rfl jG rfl (by decide) rfl rfl)) ?_))
 rintro v h ⟨rfl,s⟩
 have s:Sat h (pt r (.cells 6 (qw p q bX π.ak.length wh di ((π.hand+1)%π.ak.length)) false)::eV bX π.ak::S):=s
 refine aA.nil ⟨⟨aa,aa,aa,aa,aa,aa,aa,aa,aa,aa,aa,aa,aa,aa,aa,aa⟩,?_⟩
 obtain ⟨pre,fv,post,I,hlen,s⟩:=jz (s.ae [1]) U
 refine zw (WP.block (zK 4 rfl (zf rfl (rA _ _) (zl rfl (s.ld (k:=0) rfl dr (iX I rfl)) (zh rfl (ah rfl rfl dR) (by rw [hp]; decide) ?_)))))
 refine zk 7 rfl (zf rfl (Ei _ _) (zl rfl (s.ld (k:=0) rfl jW (iX I rfl)) (zk 2 rfl ?_)))
 have V2:f.ff=false∨f.ff=true:=by cases f.ff <;> simp
 rcases V2 with J | J
 ·refine WP.RY rfl (J) ?_
  refine zK 5 rfl (WP.ret (hr J _ _ rfl ?_))
  have s:=kf.2 ⟨_,s.ae [0,0]⟩
  exact (s.del 1).ae [1,0]
 ·skip
  refine WP.Lo rfl (J) (zK 3 rfl (zf rfl (Ei _ _) (zS rfl (s.stM (k:=0) (j:=3) rfl x_ I hlen (by simp [fH]) rfl rfl) ?_)))
  intro h s
  have e5:(fH f fv).set 3 (.bool false)=fH { f with ff:=false } fv:=rfl
  rw [e5] at s
  refine zv (WP.exit (hx J _ _ ⟨rfl,aa⟩ ?_))
  have s:=gy (i:=π.hand) (f':={ f with ff:=false }) s rfl U I
  rw [dw]
  exact s.ae [1,0]
theorem Jd {wh di:V}: ∀(fuel:Nat) (π:Pl) (h:H) (E:List (Nat×V)) (Q:Ex→List (Nat×V)→H→Prop),rC π.ak≤fuel→π.hand<π.ak.length→π.ak.length<4294967296→(∀f∈π.ak,f.pins=0) →
  Sat h (pt r (.cells 6 (qw p q bX π.ak.length wh di π.hand) false)::eV bX π.ak::S)→Has E [(0,.ptr r 0)] →
  (∀E' h' (i:Nat) (I:Pl) (f:Fm),fX π I→I.ak[i]?=some f→I.hand<I.ak.length→look E' 2=some (.int .i64 (i:Int))→Sat h' (pt r (.cells 6 (qw p q bX I.ak.length wh di I.hand) false)::eV bX I.ak::S)→Q .ret E' h') →
  WP ⟨Tryz.prog,told⟩ 70 (.loop V1) E h Q:=by
 intro fuel
 induction fuel with
 | zero =>
  intro π h E Q ht U hm hp s hE hr
  have J:π.ak[π.hand]?=some (π.ak[π.hand]'U):=bh _
  generalize (π.ak[π.hand]'U)=f at J
  refine C1 J hm (hp f (br J)) s hE (fun h1 E' h' h2 s' => ?_) (fun h1 => ?_)
  ·exact hr E' h' π.hand { π with hand:=(π.hand+1)%π.ak.length } f fX.hand J (vU _ (by omega)) h2 s'
  ·have:=Bi J h1
   omega
 | succ fuel ih =>
  intro π h E Q ht U hm hp s hE hr
  have J:π.ak[π.hand]?=some (π.ak[π.hand]'U):=bh _
  generalize (π.ak[π.hand]'U)=f at J
  refine C1 J hm (hp f (br J)) s hE (fun h1 E' h' h2 s' => ?_) (fun h1 E' h' gu s' => ?_)
  ·exact hr E' h' π.hand { π with hand:=(π.hand+1)%π.ak.length } f fX.hand J (vU _ (by omega)) h2 s'
  ·have JQ:=Bi J h1
   have hn:fX π { π with ak:=π.ak.set π.hand { f with ff:=false },hand:=(π.hand+1)%π.ak.length }:=(fX.TL J).trans fX.hand
   refine ih { π with ak:=π.ak.set π.hand { f with ff:=false },hand:=(π.hand+1)%π.ak.length } h' E' Q (by show rC (π.ak.set π.hand { f with ff:=false })≤fuel; omega) ?_ (by simp only [dw]; exact hm) (fun g hg => ?_) s' gu (fun E2 h2 i I g Su hg Sv hl s2=>hr E2 h2 i I g (hn.trans Su) hg Sv hl s2)
   ·simp only [dw]; exact vU _ (by omega)
   ·rcases oV hg with hg | rfl
    ·exact hp g hg
    ·exact hp f (br J)
theorem Qq (hT:W told){wh di:V}(s:Sat h (pt r (.cells 6 (qw p q bX π.ak.length wh di π.hand) false)::eV bX π.ak::S))(hh:π.hand<π.ak.length)(hm:π.ak.length<4294967296)(hp:∀f∈π.ak,f.pins=0):
  Call ⟨Tryz.prog,told⟩ 94 [.ptr r 0] h fun v h'=>∃(i:Nat) (I:Pl) (f:Fm),v=.int .i64 (i:Int)∧fX π I∧I.ak[i]?=some f∧I.hand<I.ak.length ∧
   Sat h' (pt r (.cells 6 (qw p q bX I.ak.length wh di I.hand) false)::eV bX I.ak::S):=by
 have J:π.ak[0]?=some (π.ak[0]'(by omega)):=bh _
 generalize (π.ak[0]'(by omega))=f0 at J
 have s0:=s
 refine Call.of_wp (hT.free _ rfl) Tryz.func94 rfl rfl (zK 4 rfl (WP.scope (zK 5 rfl (zf rfl (kU _ _) (zl rfl (s.ld (k:=0) rfl oF rfl) (zo rfl (a_ rfl rfl rfl (pQ rfl y6)) (zk 2 rfl (WP.block ?_))))))))
 refine Jc π.ak.length 0 _ _ _ (by omega) hm s ⟨rfl,rfl,rfl,aa⟩ (fun E' i f U _ h2 => ?_) (fun E' gu => ?_)
 ·exact ⟨aa,_,oK h2,i,π,f,rfl,fX.refl π,U,hh,s⟩
 ·skip
  refine WP.has gu (zK 5 rfl (zf rfl (kU _ _) (zl rfl (s.ld (k:=0) rfl oF rfl) (zc rfl (Jb hT (s.ae [1]) J (hp f0 (br J))) ?_))))
  rintro w h ⟨rfl,s⟩
  refine zo rfl (dX rfl rfl) (zk 4 rfl (WP.label (WP.block ?_)))
  refine Jd (rC π.ak) π _ _ _ (aK _) hh hm hp (s.ae [1,0]) ⟨rfl,aa⟩ (fun E' h' i I f hn U Sv h2 s' => ?_)
  exact ⟨aa,_,oK h2,i,I,f,rfl,hn,U,Sv,s'⟩
end
end Go.Proofs.YtconhghphklfjaaGreat.Am
