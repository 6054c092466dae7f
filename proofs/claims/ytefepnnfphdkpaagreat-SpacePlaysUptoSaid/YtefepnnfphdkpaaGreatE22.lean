/- SpacePlays: a part of its proof; conditions: its statement's. -/
import Derived.Test.YtefepnnfphdkpaaGreatE21
set_option linter.defProp false
namespace Go.Proofs.YtefepnnfphdkpaaGreat.Am
open Go
def xV:=@Tryz.underlying185
def Dk.gH (δ:Dk): Int×Dk:=if δ.dead=true then (9,δ) else if δ.bj=0 then (9,δ.die) else (0,{ δ.c6 with bT:=δ.log.length })
def Dk.dc (δ:Dk)(n:Int)(b:List Nat): Int×Dk:=if δ.dead=true then (9,δ) else if ¬(0≤n∧n<δ.aM.length∧b.length=512) then (1,δ) else
 if δ.bj=0 then (9,{ δ.die with C2:=some (n.toNat,b) }) else (0,δ.wr n b)
def Dk.oZ (δ:Dk)(b:List Nat): Int×Dk:=if δ.dead=true then (9,δ) else if 64<b.length then (1,δ) else if δ.bj=0 then (9,δ.die) else (0,{ δ.c6 with mark:=b })
def Dk.jN (δ:Dk)(b:List Nat): Int×Dk:=if δ.dead=true then (9,δ) else if δ.room<δ.log.length+b.length then (7,δ) else if δ.bj=0 then (9,{ δ.die with tail:=b }) else (0,{ δ.c6 with log:=δ.log++b })
def Dk.lT (δ:Dk)(n:Int)(b:List Nat): Int×Dk:=if δ.dead=true then (9,δ) else if ¬(0≤n∧n≤δ.bT∧b.length≤64) then (1,δ) else if δ.bj=0 then (9,δ.die) else
 (0,{ δ.c6 with log:=δ.log.drop n.toNat,bT:=δ.bT-n.toNat,mark:=b })
def Dk.qq (δ:Dk)(n:Int): Int:=if δ.dead=true then 9 else if ¬(0≤n∧n<δ.aM.length) then 1 else 0
structure Dk.Ok (δ:Dk): Prop where
 bj:δ.bj<4294967296
 len:δ.log.length≤16777216
 room:δ.room≤16777216
 now:∀e∈δ.now,e.2.length=512
 aM:∀(i:Nat) (b:List Nat),δ.aM[i]?=some (some b)→b.length=512
 bT:δ.bT≤δ.log.length
 many:δ.aM.length≤65536
theorem Dk.Ok.c6 {δ:Dk}(h:δ.Ok): δ.c6.Ok:=⟨by have:=h.bj; simp only [Dk.c6]; split <;> omega,h.len,h.room,h.now,h.aM,h.bT,h.many⟩
theorem Dk.Ok.die {δ:Dk}(h:δ.Ok): δ.die.Ok:=⟨h.bj,h.len,h.room,h.now,h.aM,h.bT,h.many⟩
theorem Dk.Ok.gH {δ:Dk}(h:δ.Ok): δ.gH.2.Ok:=by
 unfold Dk.gH
 split
 ·exact h
 ·split
  ·exact h.die
  ·exact ⟨h.c6.bj,h.len,h.room,h.now,h.aM,aD _,h.many⟩
theorem kE {α:Type}{n:Int}{x:α}: ∀ {l:List (Int×α)},lookL n l=some x→(n,x)∈l:=by
 intro l
 induction l with
 | nil=>intro h; cases h
 | cons e l I =>
  intro h
  simp only [lookL] at h
  by_cases he:e.1=n
  ·rw [aq he] at h
   have:=bB h
   obtain ⟨a,b⟩:=e
   simp only at he this
   subst he; subst this
   exact ct
  ·rw [ah he] at h; exact b6 _ (I h)
theorem Dk.Ok.at {δ:Dk}(I:δ.Ok)(n:Int): (δ.at n).length=512:=by
 unfold Dk.at
 cases J:lookL n δ.now with
 | some b=>exact I.now _ (kE J)
 | none =>
  cases h2:δ.aM[n.toNat]? with
  | none=>exact cY
  | some o =>
   cases o with
   | none=>exact cY
   | some b=>exact I.aM _ _ h2
section
variable {told:cZ} {h:H} {S:List au} {X:au} {k q p:Nat} {v x:V} {l b:List Nat} {μ:Lg} {δ:Dk}
theorem RP (hT:W told){n:Int}(s:Sat h (aL p δ::X::S))(hX:c8 X (c9 x b))(hb:b.length<1073741824)(hf:δ.bj<4294967296)(hw:δ.waiting.length≤268435456):
  Call ⟨Tryz.prog,told⟩ 138 [.ptr p 0,.int .i64 n,x] h fun v h'=>v=.int .i64 (δ.dc n b).1∧Sat h' (aL p (δ.dc n b).2::X::S):=by
 refine (LX hT s hX hb hf hw).mono fun v h' hr => ?_
 unfold Dk.dc
 rcases hr with ⟨I,rfl,s⟩ | ⟨I,J,rfl,s⟩ | ⟨I,h1,h2,h3,J,rfl,s⟩ | ⟨I,h1,h2,h3,J,rfl,s⟩
 ·rw [aq I]; exact ⟨rfl,s⟩
 ·rw [ah (by rw [I]; decide),aq J]; exact ⟨rfl,s⟩
 ·rw [ah (by rw [I]; decide),ah (by simp [h1,h2,h3]),aq J]; exact ⟨rfl,s⟩
 ·rw [ah (by rw [I]; decide),ah (by simp [h1,h2,h3]),ah J]; exact ⟨rfl,s⟩
theorem Mb (hT:W told){n:Int}(s:Sat h (aL p δ::S))(J:δ.Ok): Call ⟨Tryz.prog,told⟩ 124 [.ptr p 0,.int .i64 n] h fun v h' =>
  (δ.qq n≠0∧v=.aY [.bu,.int .i64 (δ.qq n)]∧Sat h' (aL p δ::S))∨(δ.qq n=0∧∃u,v=.aY [u,.int .i64 0]∧Sat h' (aZ u (δ.at n)::aL p δ::S)):=by
 refine (On hT s (J.at n)).mono fun v h' hr => ?_
 unfold Dk.qq
 rcases hr with ⟨I,rfl,s⟩ | ⟨I,h0,rfl,s⟩ | ⟨I,h1,h2,u,rfl,s⟩
 ·rw [aq I]; exact .inl ⟨by decide,rfl,s⟩
 ·rw [ah (by rw [I]; decide),aq h0]; exact .inl ⟨by decide,rfl,s⟩
 ·rw [ah (by rw [I]; decide),ah (by simp [h1,h2])]; exact .inr ⟨rfl,u,rfl,s⟩
end
abbrev LD := Lg×Dk
def bH (x:LD)(n:Nat): Int×LD:=if n<x.1.base+x.1.forced then (0,x) else if x.2.gH.1≠0 then (x.2.gH.1,(x.1,x.2.gH.2)) else (0,({ x.1 with forced:=x.1.b.length },x.2.gH.2))
def gD (x:LD)(n:Nat): Int×LD:=if ¬(x.1.hasB n=true∧n<x.1.base+x.1.forced) then (1,x) else if (x.2.oZ (gN x.1.base n)).1≠0 then ((x.2.oZ (gN x.1.base n)).1,(x.1,(x.2.oZ (gN x.1.base n)).2)) else
 (0,({ x.1 with check:=n },(x.2.oZ (gN x.1.base n)).2))
def cO (μ:Lg)(kd:Int)(tx pv nx:Nat)(data:List Nat)(cm:List dG): List Nat:=qS (μ.base+μ.b.length) (eN kd tx pv nx data cm)
def bp (x:LD)(kd:Int)(tx pv nx:Nat)(data:List Nat)(cm:List dG): (Nat×Int)×LD :=
 if eU kd cm=false then ((0,1),x) else if 1048576<(eN kd tx pv nx data cm).length then ((0,2),x) else
 if (x.2.jN (cO x.1 kd tx pv nx data cm)).1≠0 then ((0,(x.2.jN (cO x.1 kd tx pv nx data cm)).1),(x.1,(x.2.jN (cO x.1 kd tx pv nx data cm)).2)) else
 ((x.1.base+x.1.b.length,0),(x.1.app (cO x.1 kd tx pv nx data cm),(x.2.jN (cO x.1 kd tx pv nx data cm)).2))
theorem Hl {δ:Dk}: δ.gH.2.waiting=δ.waiting:=by
 unfold Dk.gH
 split
 ·rfl
 ·split <;> rfl
theorem jX {x:LD}{n:Nat}: (bH x n).2.2.waiting=x.2.waiting:=by
 unfold bH
 split
 ·rfl
 ·split <;> exact Hl
theorem Dk.Ok.dc {δ:Dk}{n:Int}{b:List Nat}(h:δ.Ok): (δ.dc n b).2.Ok:=by
 unfold Dk.dc
 split
 ·exact h
 ·split
  ·exact h
  ·rename_i hn
   split
   ·exact ⟨h.bj,h.len,h.room,h.now,h.aM,h.bT,h.many⟩
   ·refine ⟨h.c6.bj,h.len,h.room,fun e he => ?_,h.aM,h.bT,h.many⟩
    have J:b.length=512:=by
     by_cases q:0≤n∧n<δ.aM.length∧b.length=512
     ·exact q.2.2
     ·exact absurd q hn
    have:∀l:List (Int×List Nat),(∀e∈l,e.2.length=512)→∀e∈dO n b l,e.2.length=512:=by
     intro l
     induction l with
     | nil=>intro _ e he; simp [dO] at he; subst he; exact J
     | cons x l ih =>
      intro I e he
      simp only [dO] at he
      split at he
      ·rcases List.mem_cons.1 he with rfl | he
       ·exact J
       ·exact I e (b6 _ he)
      ·rcases List.mem_cons.1 he with rfl | he
       ·exact I _ ct
       ·exact ih (fun e he=>I e (b6 _ he)) e he
    exact this δ.now h.now e he
theorem nm {x:LD}{n:Nat}(h:x.2.Ok): (bH x n).2.2.Ok:=by
 unfold bH
 split
 ·exact h
 ·split
  ·exact h.gH
  ·exact h.gH
theorem Lg.Ok.RQ {μ:Lg}(h:μ.Ok): ({ μ with forced:=μ.b.length }:Lg).Ok:=⟨h.size,h.many,h.low,h.we,aD _,h.len,h.check⟩
theorem qt {x:LD}{n:Nat}(h:x.1.Ok): (bH x n).2.1.Ok:=by
 unfold bH
 split
 ·exact h
 ·split
  ·exact h
  ·exact h.RQ
section
variable {told:cZ} {h:H} {S:List au} {X:au} {k q p:Nat} {v x:V} {l b:List Nat} {μ:Lg} {δ:Dk}
theorem IG (hT:W told){n:Nat}(s:Sat h (bx q p μ::aL p δ::S))(FQ:μ.Ok)(hf:δ.bj<4294967296): Call ⟨Tryz.prog,told⟩ 79 [.ptr q 0,.int .u64 (n:Int)] h fun v h' =>
  v=.int .i64 (bH (μ,δ) n).1∧Sat h' (bx q p (bH (μ,δ) n).2.1::aL p (bH (μ,δ) n).2.2::S):=by
 refine (L3 hT s FQ hf).mono fun v h' hr => ?_
 unfold bH Dk.gH
 rcases hr with ⟨I,rfl,s⟩ | ⟨I,J,rfl,s⟩ | ⟨I,J,h0,rfl,s⟩ | ⟨I,J,h0,rfl,s⟩
 ·rw [aq I]; exact ⟨rfl,s⟩
 ·simp only [ah (Nat.not_lt.2 I),aq J,j9,aq (by decide:¬ ((9:Int)=0))]; exact ⟨aa,s⟩
 ·simp only [ah (Nat.not_lt.2 I),ah (by rw [J]; decide:¬ δ.dead=true),aq h0,j9,aq (by decide:¬ ((9:Int)=0))]; exact ⟨aa,s⟩
 ·simp only [ah (Nat.not_lt.2 I),ah (by rw [J]; decide:¬ δ.dead=true),ah h0,j9,not_true,bG]; exact ⟨aa,s⟩
theorem RR (hT:W told){n:Nat}(s:Sat h (bx q p μ::aL p δ::S))(FQ:μ.Ok)(hf:δ.bj<4294967296)(hn:n<18446744073709551616): Call ⟨Tryz.prog,told⟩ 96 [.ptr q 0,.int .u64 (n:Int)] h fun v h' =>
  v=.int .i64 (gD (μ,δ) n).1∧Sat h' (bx q p (gD (μ,δ) n).2.1::aL p (gD (μ,δ) n).2.2::S):=by
 refine (L4 hT s FQ hf hn).mono fun v h' hr => ?_
 have hm:¬ 64<(gN μ.base n).length:=by rw [ua]; decide
 unfold gD Dk.oZ
 rcases hr with ⟨I,rfl,s⟩ | ⟨I,J,hd,rfl,s⟩ | ⟨I,J,hd,h0,rfl,s⟩ | ⟨I,J,hd,h0,rfl,s⟩
 ·rw [aq I]; exact ⟨rfl,s⟩
 ·simp only [ah (fun q=>q ⟨I,J⟩:¬¬(μ.hasB n=true∧n<μ.base+μ.forced)),aq hd,j9,aq (by decide:¬ ((9:Int)=0))]; exact ⟨aa,s⟩
 ·simp only [ah (fun q=>q ⟨I,J⟩:¬¬(μ.hasB n=true∧n<μ.base+μ.forced)),ah (by rw [hd]; decide:¬ δ.dead=true),ah hm,aq h0,j9,aq (by decide:¬ ((9:Int)=0))]; exact ⟨aa,s⟩
 ·simp only [ah (fun q=>q ⟨I,J⟩:¬¬(μ.hasB n=true∧n<μ.base+μ.forced)),ah (by rw [hd]; decide:¬ δ.dead=true),ah hm,ah h0,j9,not_true,bG]; exact ⟨aa,s⟩
theorem FR (hT:W told){kd:Int}{tx pv nx:Nat}{dt ch:V}{cs:List V}{data:List Nat}{cm:List dG}(s:Sat h (bx q p μ::aL p δ::X::.arr 4 ch cs::dN cs cm::S))(hX:c8 X (c9 dt data))(fS:BO tx pv nx data cm)(FQ:μ.Ok)(tg:δ.Ok):
  Call ⟨Tryz.prog,told⟩ 59 [.ptr q 0,.agg (oD kd tx pv nx dt ch)] h fun r h' =>
  r=.aY [.int .u64 ((bp (μ,δ) kd tx pv nx data cm).1.1:Nat),.int .i64 (bp (μ,δ) kd tx pv nx data cm).1.2] ∧
  Sat h' (bx q p (bp (μ,δ) kd tx pv nx data cm).2.1::aL p (bp (μ,δ) kd tx pv nx data cm).2.2::X::.arr 4 ch cs::dN cs cm::S):=by
 refine (J3 hT s hX fS FQ tg.bj tg.len tg.room).mono fun v h' hr => ?_
 unfold bp Dk.jN cO
 rcases hr with ⟨e,rfl,(⟨J,rfl⟩ | ⟨J,hb,rfl⟩ | ⟨J,hb,hd,rfl⟩ | ⟨J,hb,hd,QA,rfl⟩),s⟩ | ⟨J,hb,hd,I,h0,rfl,s⟩ | ⟨J,hb,hd,I,h0,rfl,s⟩
 ·rw [aq J]; exact ⟨rfl,s⟩
 ·rw [ah (by rw [J]; decide),aq hb]; exact ⟨rfl,s⟩
 ·simp only [ah (by rw [J]; decide:¬ eU kd cm=false),ah (Nat.not_lt.2 hb),aq hd,j9,aq (by decide:¬ ((9:Int)=0))]; exact ⟨rfl,s⟩
 ·simp only [ah (by rw [J]; decide:¬ eU kd cm=false),ah (Nat.not_lt.2 hb),ah (by rw [hd]; decide:¬ δ.dead=true),aq QA,j9,aq (by decide:¬ ((7:Int)=0))]; exact ⟨rfl,s⟩
 ·simp only [ah (by rw [J]; decide:¬ eU kd cm=false),ah (Nat.not_lt.2 hb),ah (by rw [hd]; decide:¬ δ.dead=true),ah (Nat.not_lt.2 I),aq h0,j9,aq (by decide:¬ ((9:Int)=0))]; exact ⟨rfl,s⟩
 ·simp only [ah (by rw [J]; decide:¬ eU kd cm=false),ah (Nat.not_lt.2 hb),ah (by rw [hd]; decide:¬ δ.dead=true),ah (Nat.not_lt.2 I),ah h0,j9,not_true,bG]; exact ⟨aa,s⟩
end
structure Fm where
 bn:Int
 b:List Nat
 pins:Int
 eC:Bool
 changed:Bool
structure Pl where
 aj:List Fm
 aI:List (Int×Int)
 br:List (Int×(Nat×Bool))
 hand:Nat
def eV (f:Fm)(v:V): List V:=[.int .i64 f.bn,v,.int .i64 f.pins,.bool f.eC,.bool f.changed]
def th : List V→List Fm→au
 | [],[]=>.pu True
 | a::v::c::d::e::l,x::m=>.an (.an (.pu (a=.int .i64 x.bn∧c=.int .i64 x.pins∧d=.bool x.eC∧e=.bool x.changed)) (.c5 v x.b)) (th l m)
 | _,_=>.pu False
theorem aX.fm : ∀(m:List Fm) (l:List V),aX (th l m):=by
 intro m
 induction m with
 | nil=>intro l; rcases l with _ | ⟨a,_ | ⟨b,_ | ⟨c,_ | ⟨d,_ | ⟨e,l⟩⟩⟩⟩⟩ <;> exact aX.pu _
 | cons x m I=>intro l; rcases l with _ | ⟨a,_ | ⟨b,_ | ⟨c,_ | ⟨d,_ | ⟨e,l⟩⟩⟩⟩⟩ <;> first | exact aX.pu _ | exact aX.an (aX.an (aX.pu _) (aX.c5 _ _)) (I l)
theorem xW {a b:PM}: ∀ {m:List Fm} {l:List V} {i:Nat} {f:Fm},(th l m).p a b→m[i]?=some f→∃pre v post,l=pre++(eV f v++post)∧pre.length=i*5∧(au.c5 v f.b).p a b ∧
  (∀(f':Fm) (v':V) (I J:PM),(au.c5 v' f'.b).p I J→PM.le a I→PM.le b J→(th (pre++(eV f' v'++post)) (m.set i f')).p I J):=by
 intro m
 induction m with
 | nil=>intro l i f h hc; simp at hc
 | cons x m ih =>
  intro l i f h hc
  rcases l with _ | ⟨p,_ | ⟨q,_ | ⟨w,_ | ⟨d,_ | ⟨e,l⟩⟩⟩⟩⟩ <;> first | exact h.elim | skip
  obtain ⟨⟨⟨h1,h2,h3,h4⟩,h5⟩,h6⟩:=h
  cases i with
  | zero =>
   simp at hc
   subst hc
   refine ⟨[],q,l,?_,rfl,h5,fun f' v' I J hv ha hb=>⟨⟨⟨rfl,rfl,rfl,rfl⟩,hv⟩,(th l m).mono _ _ _ _ ha hb h6⟩⟩
   rw [h1,h2,h3,h4]; rfl
  | succ i =>
   simp at hc
   obtain ⟨pre,v,post,e1,e2,e3,e4⟩:=ih h6 hc
   refine ⟨p::q::w::d::e::pre,v,post,?_,?_,e3,fun f' v' I J hv ha hb=>⟨⟨⟨h1,h2,h3,h4⟩,au.mono _ _ _ _ _ ha hb h5⟩,e4 f' v' I J hv ha hb⟩⟩
   ·rw [e1]; rfl
   ·simp only [aH,e2]; omega
theorem RS {a b:PM}: ∀ {m:List Fm} {l:List V},(th l m).p a b→l.length=m.length*5:=by
 intro m
 induction m with
 | nil=>intro l h; rcases l with _ | ⟨a,_ | ⟨b,_ | ⟨c,_ | ⟨d,_ | ⟨e,l⟩⟩⟩⟩⟩ <;> first | rfl | exact h.elim
 | cons x m I =>
  intro l h
  rcases l with _ | ⟨a,_ | ⟨b,_ | ⟨c,_ | ⟨d,_ | ⟨e,l⟩⟩⟩⟩⟩ <;> first | exact h.elim | skip
  have:=I h.2
  simp only [aH]
  omega
def dZ (bR:Nat)(m:List Fm): au:=xs fun cs:List V=>star [pt bR (.cells (m.length*5) cs false),th cs m]
abbrev FT (v:V)(m:List (Int×Int)): au:=jV (fun v x=>.pu (v=.int .i64 x)) v m
abbrev BQ (v:V)(m:List (Int×(Nat×Bool))): au:=jV (fun v x=>.pu (v=.agg [.int .u64 (x.1:Int),.bool x.2])) v m
def o5 (p q bR n:Nat)(wh di:V)(hand:Nat): List V:=[.ptr p 0,.ptr q 0,.sl bR 0 n (.exact n),wh,di,.int .i64 (hand:Int)]
def cK (r p q:Nat)(π:Pl): au:=xs fun bR:Nat=>xs fun wh:V=>xs fun di:V =>
 star [pt r (.cells 6 (o5 p q bR π.aj.length wh di π.hand) false),dZ bR π.aj,FT wh π.aI,BQ di π.br]
section
variable {P:Program} {h:H} {S:List au} {X:au} {r q p bR:Nat} {v:V} {π:Pl} {m:List Fm}
theorem cL : Sat h (cK r p q π::S)↔∃bR wh di,Sat h (pt r (.cells 6 (o5 p q bR π.aj.length wh di π.hand) false)::dZ bR π.aj::FT wh π.aI::BQ di π.br::S):=by
 simp only [cK,kz,cq,gy,dn]
theorem jG : Sat h (dZ bR m::S)↔∃cs,Sat h (pt bR (.cells (m.length*5) cs false)::th cs m::S):=by
 simp only [dZ,kz,cq,gy,dn]
theorem iY {i:Nat}{f:Fm}(s:Sat h (dZ bR m::S))(hf:m[i]?=some f): ∃pre v post,pre.length=i*5∧(pre++(eV f v++post)).length=m.length*5 ∧
  Sat h (pt bR (.cells (m.length*5) (pre++(eV f v++post)) false)::th (pre++(eV f v++post)) m::.c5 v f.b::S):=by
 obtain ⟨cs,s⟩:=jG.1 s
 obtain ⟨a,b,q1,q2,q3⟩:=s.at (k:=1) rfl
 obtain ⟨pre,v,post,e1,e2,e3,_⟩:=xW q3 hf
 have hl:=RS q3
 subst e1
 refine ⟨pre,v,post,e2,hl,?_⟩
 have s1:Sat h (th (pre++(eV f v++post)) m::pt bR (.cells (m.length*5) (pre++(eV f v++post)) false)::S):=s.ae [1]
 have s2:=(s1.dup (aX.fm _ _)).iU (B:=.c5 v f.b) fun a' b' h'=>by
  obtain ⟨Yw,v',I,J,qF,Xi,_⟩:=xW h' hf
  have:=Cq J (by omega)
  obtain ⟨_,h5⟩:=this
  have h6:=fQ (fun l=>l[1]?) h5
  simp [eV] at h6
  subst h6
  exact Xi
 exact s2.ae [2,1,0]
theorem fO {i:Nat}{f f':Fm}{v':V}{pre post:List V}{n:Nat}(s:Sat h (pt bR (.cells n (pre++(eV f' v'++post)) false)::th (pre++(eV f v++post)) m::.c5 v' f'.b::S))(hn:n=m.length*5)(hf:m[i]?=some f)(hp:pre.length=i*5): Sat h (dZ bR (m.set i f')::S):=by
 subst hn
 have s1:Sat h (th (pre++(eV f v++post)) m::.c5 v' f'.b::pt bR (.cells (m.length*5) (pre++(eV f' v'++post)) false)::S):=s.ae [1,1,0]
 have s2:=s1.two (C:=th (pre++(eV f' v'++post)) (m.set i f')) (aX.fm _ _) (aX.c5 _ _) fun a b h1 h2=>by
  obtain ⟨Yw,v0,I,J,qF,Xi,e4'⟩:=xW h1 hf
  obtain ⟨h3,h4⟩:=Cq J (by omega)
  subst h3
  have h5:post=I:=by
   have:=Cq h4 (by simp [eV])
   exact this.2
  subst h5
  exact e4' f' v' a b h2 (PM.le_refl _) (PM.le_refl _)
 refine jG.2 ⟨pre++(eV f' v'++post),?_⟩
 rw [bJ]
 exact s2.ae [1]
theorem iw {pre row post:List V}{a j:Nat}{x:V}(hp:pre.length=a)(I:nth row j=some x): nth (pre++(row++post)) (a+j)=some x:=by
 rw [fG] at I ⊢
 have J:=(List.getElem?_eq_some_iff.1 I).1
 rw [me (by omega),show a+j-pre.length=j by omega,iF J,I]
theorem RT {pre row post:List V}{a j:Nat}{x:V}(J:pre.length=a)(I:j<row.length): (pre++(row++post)).set (a+j) x=pre++(row.set j x++post):=by
 rw [List.set_append_right _ _ (by omega),show a+j-pre.length=j by omega,Cd _ _ I]
theorem Sat.stM {t:TypeId}{k id n a j:Nat}{pre row post:List V}{x:V}(s:Sat h S)(hk:getA S k=some (pt id (.cells n (pre++(row++post)) false)))(hs:bq P t=some 1)(hp:pre.length=a)(J:(pre++(row++post)).length=n)(hj:j<row.length)(hv:x.cells=[x])(I:storable x=true):
  ∃h₁,fK P h t (.ptr id (a+j)) x=some h₁∧Sat h₁ (setA S k (pt id (.cells n (pre++(row.set j x++post)) false))):=by
 have:=s.gO (P:=P) (t:=t) (off:=a+j) (v:=x) hk hs J (by rw [←J]; simp; omega) hv I
 rwa [RT hp hj] at this
theorem Sat.QB {t:TypeId}{k id n a:Nat}{pre row row' post:List V}(s:Sat h S)(hk:getA S k=some (pt id (.cells n (pre++(row++post)) false)))(hs:bq P t=some row'.length)(hp:pre.length=a)(J:(pre++(row++post)).length=n)(hr:row'.length=row.length)(I:row'.all storable=true):
  ∃h₁,fK P h t (.ptr id a) (.agg row')=some h₁∧Sat h₁ (setA S k (pt id (.cells n (pre++(row'++post)) false))):=by
 have:=s.ZP (P:=P) (t:=t) (off:=a) (l:=row') hk hs J (by rw [←J]; simp; omega) I
 have e:(pre++(row++post)).take a++(row'++(pre++(row++post)).drop (a+row'.length))=pre++(row'++post):=by
  rw [ob hp,yP,gR (by omega),dn,show a+row'.length-pre.length=row.length by omega,List.drop_left' rfl]
 rwa [e] at this
theorem ldF {t:TypeId}{k id n a:Nat}{pre row post:List V}(s:Sat h S)(J:getA S k=some (pt id (.cells n (pre++(row++post)) false)))(ht:b8 P t=some true)(hs:bq P t=some row.length)(hp:pre.length=a)(I:(pre++(row++post)).length=n): loadV P h t (.ptr id a)=some (.agg row):=by
 rw [Uf ht hs (s.row J) I (by rw [←I]; simp; omega),List.drop_left' hp,ob rfl]
end
abbrev aE := Pl×LD
def sq (π:Pl)(n:Int): Nat:=match lookL n π.br with
 | some x=>x.1
 | none=>0
def outF (ε:aE)(i:Nat): Int×aE:=match ε.1.aj[i]? with
 | none=>(0,ε)
 | some f=>if f.bn<0∨f.changed=false then (0,ε) else if cj f.b=false then (4,ε) else
  if (bH ε.2 (cT f.b 4 8)).1≠0 then ((bH ε.2 (cT f.b 4 8)).1,(ε.1,(bH ε.2 (cT f.b 4 8)).2)) else
  if ((bH ε.2 (cT f.b 4 8)).2.2.dc f.bn f.b).1≠0 then (((bH ε.2 (cT f.b 4 8)).2.2.dc f.bn f.b).1,(ε.1,((bH ε.2 (cT f.b 4 8)).2.1,((bH ε.2 (cT f.b 4 8)).2.2.dc f.bn f.b).2))) else
  (0,({ ε.1 with aj:=ε.1.aj.set i { f with changed:=false },br:=dO f.bn (sq ε.1 f.bn,false) ε.1.br },((bH ε.2 (cT f.b 4 8)).2.1,((bH ε.2 (cT f.b 4 8)).2.2.dc f.bn f.b).2)))
section
variable {told:cZ} {h:H} {S:List au} {X:au} {r k q p bR:Nat} {v x wh di:V} {l b:List Nat} {π:Pl} {μ:Lg} {δ:Dk}
theorem Mc (hT:W told){i:Nat}{f:Fm}(s:Sat h (pt r (.cells 6 (o5 p q bR π.aj.length wh di π.hand) false)::dZ bR π.aj::FT wh π.aI::BQ di π.br::bx q p μ::aL p δ::S))(hi:π.aj[i]?=some f)(FQ:μ.Ok)(tg:δ.Ok)(PZ:f.b.length<1073741824)(hw:δ.waiting.length≤268435456):
  Call ⟨Tryz.prog,told⟩ 123 [.ptr r 0,.ptr bR (i*5)] h fun v h'=>v=.int .i64 (outF (π,μ,δ) i).1 ∧
   Sat h' (pt r (.cells 6 (o5 p q bR (outF (π,μ,δ) i).2.1.aj.length wh di (outF (π,μ,δ) i).2.1.hand) false)::dZ bR (outF (π,μ,δ) i).2.1.aj::FT wh (outF (π,μ,δ) i).2.1.aI::BQ di (outF (π,μ,δ) i).2.1.br::bx q p (outF (π,μ,δ) i).2.2.1::aL p (outF (π,μ,δ) i).2.2.2::S):=by
 have Xj:=s
 obtain ⟨pre,fv,post,I,hlen,s⟩:=iY (s.ae [1]) hi
 have Xk:=(s.aU (k:=2) rfl (fe _ _))
 refine Call.of_wp (hT.free _ rfl) Tryz.func123 rfl rfl (zK 9 rfl (zf rfl (oA _ _) (zl rfl (s.ld (k:=0) rfl cA (iw I rfl)) ?_)))
 refine zd rfl (af rfl rfl aK) ?_ ?_
 ·intro hq
  have hq:f.bn<0:=by simpa using hq
  have he:outF (π,μ,δ) i=(0,(π,μ,δ)):=by simp only [outF,hi]; rw [aq (.inl hq)]
  rw [he]
  exact zk 13 rfl (WP.ret ⟨aa,_,rfl,rfl,Xj⟩)
 ·intro hq
  have hq:¬ f.bn<0:=by simpa using hq
  refine zk 3 rfl (zf rfl (CW _ _) (zl rfl (s.ld (k:=0) rfl kB (iw I rfl)) ?_))
  have Fz:f.changed=false∨f.changed=true:=by cases f.changed <;> simp
  rcases Fz with hc | hc
  ·have he:outF (π,μ,δ) i=(0,(π,μ,δ)):=by simp only [outF,hi]; rw [aq (.inr hc)]
   rw [he]
   refine zt rfl (cX rfl rfl) (by rw [hc]; rfl) ?_
   exact zk 7 rfl (WP.ret ⟨aa,_,rfl,rfl,Xj⟩)
  ·have he:outF (π,μ,δ) i=(if cj f.b=false then (4,(π,μ,δ)) else
    if (bH (μ,δ) (cT f.b 4 8)).1≠0 then ((bH (μ,δ) (cT f.b 4 8)).1,(π,(bH (μ,δ) (cT f.b 4 8)).2)) else
    if ((bH (μ,δ) (cT f.b 4 8)).2.2.dc f.bn f.b).1≠0 then (((bH (μ,δ) (cT f.b 4 8)).2.2.dc f.bn f.b).1,(π,((bH (μ,δ) (cT f.b 4 8)).2.1,((bH (μ,δ) (cT f.b 4 8)).2.2.dc f.bn f.b).2))) else
    (0,({ π with aj:=π.aj.set i { f with changed:=false },br:=dO f.bn (sq π f.bn,false) π.br },((bH (μ,δ) (cT f.b 4 8)).2.1,((bH (μ,δ) (cT f.b 4 8)).2.2.dc f.bn f.b).2)))):=by
    simp only [outF,hi]; rw [ah (by rw [hc]; simp; omega)]
   rw [he]
   refine zh rfl (cX rfl rfl) (by rw [hc]; rfl) ?_
   refine zk 8 rfl (zf rfl (zQ _ _) (zl rfl (s.ld (k:=0) rfl cS (iw I rfl)) (zc rfl (ID hT (s.ae [2]) (fe _ _) (by omega)) ?_)))
   rintro w h ⟨s,(⟨hg,rfl⟩ | ⟨hg,rfl⟩)⟩
   ·dsimp only [bringA,getA,bf] at s
    rw [ah (by rw [hg]; decide)]
    have Oz:(bH (μ,δ) (cT f.b 4 8)).2.2.Ok:=nm tg
    have Uv:(bH (μ,δ) (cT f.b 4 8)).2.2.waiting.length≤268435456:=by rw [jX]; exact hw
    have J:=IG (n:=cT f.b 4 8) hT (s.ae [6,6]) FQ tg.bj
    generalize bH (μ,δ) (cT f.b 4 8)=x at J Oz Uv ⊢
    obtain ⟨xe,xl,xd⟩:=x
    dsimp only at J Oz Uv ⊢
    refine zk 16 rfl (zh rfl (af rfl rfl aG) (rfl) (zk 8 rfl (zf rfl (RA _ _) (zl rfl (s.ld (k:=3) rfl pT rfl) (zm rfl (zc rfl (J) ?_))))))
    rintro w h ⟨rfl,s⟩
    refine zk 5 rfl ?_
    by_cases hx:xe=0
    ·subst hx
     rw [ah (by decide)]
     refine zh rfl (af rfl rfl aG) (rfl) ?_
     have Fy:=fun (s:Sat h (aL p xd::.c5 fv f.b::bx q p xl::pt bR (.cells (π.aj.length*5) (pre++(eV f fv++post)) false)::th (pre++(eV f fv++post)) π.aj::pt r (.cells 6 (o5 p q bR π.aj.length wh di π.hand) false)::FT wh π.aI::BQ di π.br::S))=>RP (n:=f.bn) hT s (fe fv f.b) PZ Oz.bj Uv
     generalize xd.dc f.bn f.b=y at Fy ⊢
     obtain ⟨ye,yd⟩:=y
     dsimp only at Fy ⊢
     have s:=s.ae [1,1,0]
     refine zk 5 rfl (WP.drawn [ai,ai,ai,ai,ai,ai,ai,ai,ai,ai,ai,ai,ai,ai] rfl (by kernel_rfl) (by kernel_rfl) ?_)
     refine zM rfl (zN rfl (zF rfl (vr _ _) (zL rfl (s.ld (k:=5) rfl jU rfl) (zM rfl (zN rfl (zF rfl (oA _ _) (zL rfl (s.ld (k:=3) rfl cA (iw I rfl)) (zM rfl (zN rfl (zF rfl (zQ _ _) (zL rfl (s.ld (k:=3) rfl cS (iw I rfl)) (aA.any rfl rfl rfl rfl (OpR.call rfl rfl rfl rfl (Fy s)) ?_))))))))))))
     rintro w h ⟨rfl,s⟩
     refine zA rfl ?_
     refine aA.nil ⟨⟨aa,aa,aa,aa,aa,aa,aa,aa,aa,aa,aa,aa,aa,aa,aa⟩,?_⟩
     refine zK 3 rfl ?_
     by_cases hy:ye=0
     ·subst hy
      rw [ah (by decide)]
      refine zh rfl (af rfl rfl aG) (rfl) (zk 7 rfl (zf rfl (CW _ _) (zS rfl (s.stM (k:=3) (j:=4) rfl oS I hlen (by simp [eV]) rfl rfl) ?_)))
      intro h s
      have e5:(eV f fv).set 4 (.bool false)=eV { f with changed:=false } fv:=rfl
      rw [e5] at s
      have s:=s.ae [7,3,4]
      refine zk 2 rfl (WP.drawn [ai,ai,ai,ai,ai,ai,ai,ai,ai,ai,ai,ai,ai,ai,ai,ai,ai,ai,ai,ai] rfl (by kernel_rfl) (by kernel_rfl) ?_)
      refine zM rfl (zN rfl (zF rfl (my _ _) (zL rfl (s.ld (k:=2) rfl qo rfl) (zM rfl (zN rfl (zF rfl (oA _ _) (zL rfl (s.ld (k:=1) rfl cA (iw I rfl)) (zM rfl (zN rfl (zF rfl (my _ _) (zL rfl (s.ld (k:=2) rfl qo rfl) (zM rfl (zN rfl (zF rfl (oA _ _) (zL rfl (s.ld (k:=1) rfl cA (iw I rfl)) ?_)))))))))))))))
      have J4:∃b,eB Tryz.prog h 187 di (.int .i64 f.bn) false=some (.agg [.int .u64 (sq π f.bn:Nat),.bool b]):=by
       rcases oB (f:=fun v (x:Nat×Bool)=>.pu (v=.agg [.int .u64 (x.1:Int),.bool x.2])) (n:=f.bn) (fun _ _=>aX.pu _) s oV bI vX with ⟨g1,_,g3⟩ | ⟨u,x,g1,_,g3,s'⟩
       ·exact ⟨false,by rw [g3]; simp only [sq,g1]; rfl⟩
       ·obtain ⟨rfl,_⟩:=sS.1 s'
        exact ⟨x.2,by rw [g3]; simp only [sq,g1]⟩
      obtain ⟨lb,J4⟩:=J4
      refine zO rfl (iD rfl rfl J4) (zO rfl (Qg rfl (Qh (Iu _) rfl)) (zO rfl (dA rfl (by rw [VW]; rfl)) ?_))
      refine aA.j6 rfl rfl rfl (OpR.mapUpdate rfl rfl rfl rfl (nQ (f:=fun v (x:Nat×Bool)=>.pu (v=.agg [.int .u64 (x.1:Int),.bool x.2])) (x:=(sq π f.bn,false)) (fun _ _=>aX.pu _) (s.gr rfl) oV bI)) ?_
      intro w h s
      refine aA.nil ⟨⟨aa,aa,aa,aa,aa,aa,aa,aa,aa,aa,aa,aa,aa,aa,aa,aa,aa,aa,aa,aa,aa⟩,?_⟩
      refine zK 4 rfl (WP.ret ⟨aa,_,rfl,?_⟩)
      refine ⟨rfl,?_⟩
      have s:=fO (i:=i) (f':={ f with changed:=false }) (s.ae [1,5,3]) rfl hi I
      have e6:(π.aj.set i { f with changed:=false }).length=π.aj.length:=bJ
      rw [e6]
      exact s.ae [2,0,3,0,1,0]
     ·rw [aq hy]
      refine zt rfl (af rfl rfl aG) (by simp; exact hy) ?_
      refine zk 7 rfl (WP.ret ⟨aa,_,rfl,?_⟩)
      refine ⟨rfl,?_⟩
      have s:=jG.2 ⟨_,s.ae [3,3]⟩
      exact (s.del 2).ae [3,0,2,2,1,0]
    ·rw [aq hx]
     refine zt rfl (af rfl rfl aG) (by simp; exact hx) ?_
     refine zk 7 rfl (WP.ret ⟨aa,_,rfl,?_⟩)
     refine ⟨rfl,?_⟩
     have s:=jG.2 ⟨_,s.ae [3,3]⟩
     exact (s.del 3).ae [3,0,2,2,0,0]
   ·dsimp only [bringA,getA,bf] at s
    rw [aq hg]
    refine zk 16 rfl (zt rfl (af rfl rfl aG) (rfl) (zk 7 rfl (WP.ret ⟨aa,_,rfl,?_⟩)))
    refine ⟨rfl,?_⟩
    have s:=jG.2 ⟨_,s.ae [1,1]⟩
    exact (s.del 1).ae [1,0]
end
structure fD (π gx:Pl): Prop where
 aI:gx.aI=π.aI
 br:gx.br=π.br
 len:gx.aj.length=π.aj.length
 get:∀(i:Nat) (f:Fm),π.aj[i]?=some f→∃t,gx.aj[i]?=some { f with eC:=t }
theorem fD.refl (π:Pl): fD π π:=⟨rfl,rfl,rfl,fun _ f h=>⟨f.eC,h⟩⟩
theorem fD.trans {π J I:Pl}(a:fD π J)(b:fD J I): fD π I:=by
 refine ⟨b.aI.trans a.aI,b.br.trans a.br,b.len.trans a.len,fun i f h => ?_⟩
 obtain ⟨t,ht⟩:=a.get i f h
 obtain ⟨t',ht'⟩:=b.get i _ ht
 exact ⟨t',ht'⟩
theorem fD.hand {π:Pl}{n:Nat}: fD π { π with hand:=n }:=⟨rfl,rfl,rfl,fun _ f h=>⟨f.eC,h⟩⟩
theorem fD.RU {π:Pl}{i:Nat}{f:Fm}(hi:π.aj[i]?=some f): fD π { π with aj:=π.aj.set i { f with eC:=false } }:=by
 refine ⟨rfl,rfl,bJ,fun j g I => ?_⟩
 by_cases h:i=j
 ·subst h
  rw [hi] at I
  have:=bB I
  subst this
  have J:=(List.getElem?_eq_some_iff.1 hi).1
  exact ⟨false,by simp [yM,J]⟩
 ·exact ⟨g.eC,by simp only [yM,ah h]; exact I⟩
theorem FU {P:Program}{h:H}{t:TypeId}{x y:Operand}{a b:Nat}(I:0<b): binV P h .rem t x y (.int .i64 (a:Int)) (.int .i64 (b:Int))=some (.int .i64 ((a%b:Nat):Int)):=by
 simp only [binV,ikBeq,ag,intV]
 have:intBeq (b:Int) 0=false:=by rw [lR]; simp; omega
 rw [this,ay,Int.tmod_eq_emod_of_nonneg (by omega)]
 rfl
section
variable {told:cZ} {h:H} {S:List au} {X:au} {r k q p bR:Nat} {v x wh di:V} {l b:List Nat} {π:Pl} {m:List Fm}
theorem lU {i n:Nat}(hi:i<n): indexAddrV Tryz.prog 185 (.sl bR 0 n (.exact n)) (.int .i64 (i:Int))=some (.ptr bR (i*5)):=by
 rw [VS,show (decide ((0:Int)≤(i:Int))&&decide ((i:Int)<(n:Int)))=true by simp; omega,ag]
 simp
theorem Ho (I:W told){f:Fm}(s:Sat h S)(hv:storable v=true): Call ⟨Tryz.prog,told⟩ 169 [.agg (eV f v)] h fun w h'=>w=.bool (decide (f.pins=0))∧Sat h' S:=by
 refine Call.of_wp (I.free _ rfl) Tryz.func169 rfl rfl (zg rfl (az.cz s rfl rfl rfl (fc rfl (by simp only [V.cells,eV,gU,k_,hv]; rfl)) ?_))
 intro J h s
 dsimp only [V.cells,eV] at s
 exact zk 4 rfl (zf rfl (pY _ _) (zl rfl (s.ld (k:=0) rfl cA rfl) (zb rfl dh (zk 2 rfl (WP.ret ⟨aa,_,rfl,rfl,s.drop⟩)))))
theorem OA (hT:W told){f:Fm}(s:Sat h (dZ bR m::S))(h0:m[0]?=some f)(hp:f.pins=0): Call ⟨Tryz.prog,told⟩ 190 [.sl bR 0 m.length (.exact m.length),.fn (.func 169) [] []] h fun w h'=>w=.int .i64 0∧Sat h' (dZ bR m::S):=by
 have hl:=(List.getElem?_eq_some_iff.1 h0).1
 obtain ⟨pre,fv,post,I,hlen,s⟩:=iY s h0
 have J:=(s.aU (k:=2) rfl (fe _ _)).cells.2
 refine Call.of_wp (hT.free _ rfl) Tryz.func190 rfl rfl (zK 8 rfl (zo rfl (aT rfl rfl rfl (pZ rfl xV)) (zk 2 rfl (WP.block (WP.loop (zg rfl (zt rfl (af rfl rfl aK) (by simp; omega) ?_)))))))
 refine zk 5 rfl (WP.block (zK 10 rfl (zo rfl (cn rfl rfl (lU (i:=0) hl)) (zl rfl (ldF s (k:=0) rfl VU BB I hlen) (zc rfl (Ho hT s J) ?_)))))
 rintro w h ⟨rfl,s⟩
 rw [dX hp]
 exact zk 7 rfl (WP.ret ⟨aa,_,rfl,rfl,(jG.2 ⟨_,s⟩).del 1⟩)
theorem Hp (I:W told){f:Fm}(s:Sat h (dZ bR m::S))(J:m[0]?=some f)(hp:f.pins=0): Call ⟨Tryz.prog,told⟩ 168 [.sl bR 0 m.length (.exact m.length),.fn (.func 169) [] []] h fun w h'=>w=.bool true∧Sat h' (dZ bR m::S):=by
 refine Call.of_wp (I.free _ rfl) Tryz.func168 rfl rfl (zK 8 rfl (zc rfl (OA I s J hp) ?_))
 rintro w h ⟨rfl,s⟩
 refine zt rfl (af rfl rfl jq) (by decide) ?_
 exact zk 2 rfl (WP.ret ⟨aa,_,rfl,rfl,s⟩)
noncomputable def fdA : Code:=cV [1,0,0,1,0,0] ((Tryz.f122.body).getD .skip)
noncomputable def Uw : Code:=cV [1,0,1,1,1,0,0] ((Tryz.f122.body).getD .skip)
theorem Hq {wh di:V}{hand:Nat}: ∀(j i:Nat) (h:H) (E:List (Nat×V)) (Q:Ex→List (Nat×V)→H→Prop),i+j=m.length→m.length<4294967296 →
  Sat h (pt r (.cells 6 (o5 p q bR m.length wh di hand) false)::dZ bR m::S)→Has E [(0,.ptr r 0),(10,.int .i64 m.length),(11,.int .i64 i)] →
  (∀E' (i:Nat) (f:Fm),m[i]?=some f→f.bn<0→look E' 2=some (.int .i64 (i:Int))→Q .ret E' h) →
  (∀E',Has E' [(0,.ptr r 0)]→Q (.exit 0) E' h)→WP ⟨Tryz.prog,told⟩ 70 (.loop fdA) E h Q:=by
 intro j
 induction j with
 | zero =>
  intro i h E Q hi hm s hE hr hx
  refine WP.loop (WP.has hE (zg rfl (zh rfl (af rfl rfl aK) (by simp; omega) ?_)))
  exact zk 3 rfl (WP.exit (hx _ ⟨rfl,aa⟩))
 | succ j ih =>
  intro i h E Q hi hm s hE hr hx
  have hc:m[i]?=some (m[i]'(by omega)):=aN _
  generalize (m[i]'(by omega))=f at hc
  obtain ⟨pre,fv,post,I,hlen,s'⟩:=iY (s.ae [1]) hc
  refine WP.loop (WP.has hE (zg rfl (zt rfl (af rfl rfl aK) (by simp; omega) ?_)))
  refine zk 5 rfl (WP.block (zK 9 rfl (zf rfl (ke _ _) (zl rfl (s.ld (k:=0) rfl nN rfl) (zm rfl (zo rfl (cn rfl rfl (lU (i:=i) (by omega))) ?_))))))
  refine zf rfl (oA _ _) (zl rfl (s'.ld (k:=0) rfl cA (iw I rfl)) ?_)
  refine zd rfl (af rfl rfl aK) ?_ ?_
  ·intro J
   have J:f.bn<0:=by simpa using J
   exact zk 7 rfl (WP.ret (hr _ i f hc J rfl))
  ·intro J
   refine zv (zj rfl (WP.skip (zr rfl (zb rfl (by exact bg (aB (by omega) (by omega))) ?_))))
   refine zm rfl (zv ?_)
   exact ih (i+1) h _ Q (by omega) hm s ⟨rfl,rfl,rfl,aa⟩ hr hx
def qc (m:List Fm): Nat:=(m.filter fun f=>f.eC).length
theorem Aw {f:Fm}: ∀ {m:List Fm} {i:Nat},m[i]?=some f→f.eC=true→qc (m.set i { f with eC:=false })+1=qc m:=by
 intro m
 induction m with
 | nil=>intro i h; simp at h
 | cons g m J =>
  intro i h I
  cases i with
  | zero=>simp at h; subst h; simp [qc,I]
  | succ i =>
   rw [kW] at h
   have:=J h I
   simp only [qc,yK,rL] at this ⊢
   split <;> (try simp only [aH]) <;> omega
theorem BR {wh di:V}{f:Fm}{h:H}{E:List (Nat×V)}{Q:Ex→List (Nat×V)→H→Prop}(hf:π.aj[π.hand]?=some f)(hm:π.aj.length<4294967296)(hp:f.pins=0)
 (s:Sat h (pt r (.cells 6 (o5 p q bR π.aj.length wh di π.hand) false)::dZ bR π.aj::S))(hE:Has E [(0,.ptr r 0)])
 (hr:f.eC=false→∀E' h',look E' 2=some (.int .i64 (π.hand:Int))→Sat h' (pt r (.cells 6 (o5 p q bR π.aj.length wh di ((π.hand+1)%π.aj.length)) false)::dZ bR π.aj::S)→Q .ret E' h')
 (hx:f.eC=true→∀E' h',Has E' [(0,.ptr r 0)]→Sat h' (pt r (.cells 6 (o5 p q bR (π.aj.set π.hand { f with eC:=false }).length wh di ((π.hand+1)%π.aj.length)) false)::dZ bR (π.aj.set π.hand { f with eC:=false })::S)→WP ⟨Tryz.prog,told⟩ 70 (.loop Uw) E' h' Q):
  WP ⟨Tryz.prog,told⟩ 70 (.loop Uw) E h Q:=by
 have hl:=(List.getElem?_eq_some_iff.1 hf).1
 refine WP.loop (WP.has hE (WP.block (zK 4 rfl (zf rfl (CU _ _) (zl rfl (s.ld (k:=0) rfl cA rfl) (zk 6 rfl (zf rfl (ke _ _) (zl rfl (s.ld (k:=0) rfl nN rfl) (zm rfl (zo rfl (cn rfl rfl (lU (i:=π.hand) hl)) (zk 3 rfl (WP.drawn [ai,ai,ai,ai,ai,ai,ai,ai,ai,ai,ai,ai,ai,ai,ai] rfl (by kernel_rfl) (by kernel_rfl) ?_))))))))))))
 refine zM rfl (zM rfl (zN rfl (zF rfl (CU _ _) (zL rfl (s.ld (k:=0) rfl cA rfl) (zO rfl (af rfl rfl (by exact bg (aB (by omega) (by omega)))) ?_)))))
 refine zM rfl (zN rfl (zF rfl (ke _ _) (zL rfl (s.ld (k:=0) rfl nN rfl) (zO rfl (aT rfl rfl rfl (pZ rfl xV)) (zO rfl (af rfl rfl (FU (a:=π.hand+1) (by omega))) ?_)))))
 refine zN rfl (zF rfl (CU _ _) (aA.j6 rfl rfl rfl (OpR.vm rfl rfl rfl (s.gO (k:=0) rfl kA rfl (by decide) rfl rfl)) ?_))
 rintro v h ⟨rfl,s⟩
 have s:Sat h (pt r (.cells 6 (o5 p q bR π.aj.length wh di ((π.hand+1)%π.aj.length)) false)::dZ bR π.aj::S):=s
 refine aA.nil ⟨⟨aa,aa,aa,aa,aa,aa,aa,aa,aa,aa,aa,aa,aa,aa,aa,aa⟩,?_⟩
 obtain ⟨pre,fv,post,I,hlen,s⟩:=iY (s.ae [1]) hf
 refine zw (WP.block (zK 4 rfl (zf rfl (pY _ _) (zl rfl (s.ld (k:=0) rfl cA (iw I rfl)) (zh rfl (af rfl rfl er) (by rw [hp]; decide) ?_)))))
 refine zk 7 rfl (zf rfl (CV _ _) (zl rfl (s.ld (k:=0) rfl kB (iw I rfl)) (zk 2 rfl ?_)))
 have Ax:f.eC=false∨f.eC=true:=by cases f.eC <;> simp
 rcases Ax with J | J
 ·refine WP.Qf rfl (J) ?_
  refine zK 5 rfl (WP.ret (hr J _ _ rfl ?_))
  have s:=jG.2 ⟨_,s.ae [0,0]⟩
  exact (s.del 1).ae [1,0]
 ·skip
  refine WP.JG rfl (J) (zK 3 rfl (zf rfl (CV _ _) (zS rfl (s.stM (k:=0) (j:=3) rfl oS I hlen (by simp [eV]) rfl rfl) ?_)))
  intro h s
  have e5:(eV f fv).set 3 (.bool false)=eV { f with eC:=false } fv:=rfl
  rw [e5] at s
  refine zv (WP.exit (hx J _ _ ⟨rfl,aa⟩ ?_))
  have s:=fO (i:=π.hand) (f':={ f with eC:=false }) s rfl hf I
  rw [bJ]
  exact s.ae [1,0]
theorem Hr {wh di:V}: ∀(fuel:Nat) (π:Pl) (h:H) (E:List (Nat×V)) (Q:Ex→List (Nat×V)→H→Prop),qc π.aj≤fuel→π.hand<π.aj.length→π.aj.length<4294967296→(∀f∈π.aj,f.pins=0) →
  Sat h (pt r (.cells 6 (o5 p q bR π.aj.length wh di π.hand) false)::dZ bR π.aj::S)→Has E [(0,.ptr r 0)] →
  (∀E' h' (i:Nat) (I:Pl) (f:Fm),fD π I→I.aj[i]?=some f→I.hand<I.aj.length→look E' 2=some (.int .i64 (i:Int))→Sat h' (pt r (.cells 6 (o5 p q bR I.aj.length wh di I.hand) false)::dZ bR I.aj::S)→Q .ret E' h') →
  WP ⟨Tryz.prog,told⟩ 70 (.loop Uw) E h Q:=by
 intro fuel
 induction fuel with
 | zero =>
  intro π h E Q ht hh hm hp s hE hr
  have J:π.aj[π.hand]?=some (π.aj[π.hand]'hh):=aN _
  generalize (π.aj[π.hand]'hh)=f at J
  refine BR J hm (hp f (a_ J)) s hE (fun h1 E' h' h2 s' => ?_) (fun h1 => ?_)
  ·exact hr E' h' π.hand { π with hand:=(π.hand+1)%π.aj.length } f fD.hand J (yY _ (by omega)) h2 s'
  ·have:=Aw J h1
   omega
 | succ fuel ih =>
  intro π h E Q ht hh hm hp s hE hr
  have J:π.aj[π.hand]?=some (π.aj[π.hand]'hh):=aN _
  generalize (π.aj[π.hand]'hh)=f at J
  refine BR J hm (hp f (a_ J)) s hE (fun h1 E' h' h2 s' => ?_) (fun h1 E' h' jl s' => ?_)
  ·exact hr E' h' π.hand { π with hand:=(π.hand+1)%π.aj.length } f fD.hand J (yY _ (by omega)) h2 s'
  ·have mQ:=Aw J h1
   have hn:fD π { π with aj:=π.aj.set π.hand { f with eC:=false },hand:=(π.hand+1)%π.aj.length }:=(fD.RU J).trans fD.hand
   refine ih { π with aj:=π.aj.set π.hand { f with eC:=false },hand:=(π.hand+1)%π.aj.length } h' E' Q (by show qc (π.aj.set π.hand { f with eC:=false })≤fuel; omega) ?_ (by simp only [bJ]; exact hm) (fun g hg => ?_) s' jl (fun E2 h2 i I g hn' hg Ux hl s2=>hr E2 h2 i I g (hn.trans hn') hg Ux hl s2)
   ·simp only [bJ]; exact yY _ (by omega)
   ·rcases kV hg with hg | rfl
    ·exact hp g hg
    ·exact hp f (a_ J)
theorem OB (hT:W told){wh di:V}(s:Sat h (pt r (.cells 6 (o5 p q bR π.aj.length wh di π.hand) false)::dZ bR π.aj::S))(hh:π.hand<π.aj.length)(hm:π.aj.length<4294967296)(hp:∀f∈π.aj,f.pins=0):
  Call ⟨Tryz.prog,told⟩ 122 [.ptr r 0] h fun v h'=>∃(i:Nat) (I:Pl) (f:Fm),v=.int .i64 (i:Int)∧fD π I∧I.aj[i]?=some f∧I.hand<I.aj.length ∧
   Sat h' (pt r (.cells 6 (o5 p q bR I.aj.length wh di I.hand) false)::dZ bR I.aj::S):=by
 have J:π.aj[0]?=some (π.aj[0]'(by omega)):=aN _
 generalize (π.aj[0]'(by omega))=f0 at J
 have s0:=s
 refine Call.of_wp (hT.free _ rfl) Tryz.func122 rfl rfl (zK 4 rfl (WP.scope (zK 5 rfl (zf rfl (ke _ _) (zl rfl (s.ld (k:=0) rfl nN rfl) (zo rfl (aT rfl rfl rfl (pZ rfl xV)) (zk 2 rfl (WP.block ?_))))))))
 refine Hq π.aj.length 0 _ _ _ (by omega) hm s ⟨rfl,rfl,rfl,aa⟩ (fun E' i f hf _ h2 => ?_) (fun E' jl => ?_)
 ·exact ⟨aa,_,qQ h2,i,π,f,rfl,fD.refl π,hf,hh,s⟩
 ·skip
  refine WP.has jl (zK 5 rfl (zf rfl (ke _ _) (zl rfl (s.ld (k:=0) rfl nN rfl) (zc rfl (Hp hT (s.ae [1]) J (hp f0 (a_ J))) ?_))))
  rintro w h ⟨rfl,s⟩
  refine zo rfl (cX rfl rfl) (zk 4 rfl (WP.label (WP.block ?_)))
  refine Hr (qc π.aj) π _ _ _ (aD _) hh hm hp (s.ae [1,0]) ⟨rfl,aa⟩ (fun E' h' i I f hn hf Ux h2 s' => ?_)
  exact ⟨aa,_,qQ h2,i,I,f,rfl,hn,hf,Ux,s'⟩
end
end Go.Proofs.YtefepnnfphdkpaaGreat.Am
