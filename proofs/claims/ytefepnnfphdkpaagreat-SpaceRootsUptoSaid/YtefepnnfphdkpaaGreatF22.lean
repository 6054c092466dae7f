/- SpaceRoots: a part of its proof; conditions: its statement's. -/
import Derived.Test.YtefepnnfphdkpaaGreatF21
set_option linter.defProp false
namespace Go.Proofs.YtefepnnfphdkpaaGreat.Am
open Go
def zU:=@Tryz.underlying185
def Dk.cK (δ:Dk): Int×Dk:=if δ.dead=true then (9,δ) else if δ.aP=0 then (9,δ.die) else (0,{ δ.c8 with bp:=δ.log.length })
def Dk.bK (δ:Dk)(n:Int)(b:List Nat): Int×Dk:=if δ.dead=true then (9,δ) else if ¬(0≤n∧n<δ.ax.length∧b.length=512) then (1,δ) else
 if δ.aP=0 then (9,{ δ.die with eE:=some (n.toNat,b) }) else (0,δ.wr n b)
def Dk.kq (δ:Dk)(b:List Nat): Int×Dk:=if δ.dead=true then (9,δ) else if δ.room<δ.log.length+b.length then (7,δ) else if δ.aP=0 then (9,{ δ.die with tail:=b }) else (0,{ δ.c8 with log:=δ.log++b })
def Dk.rK (δ:Dk)(n:Int): Int:=if δ.dead=true then 9 else if ¬(0≤n∧n<δ.ax.length) then 1 else 0
structure Dk.Ok (δ:Dk): Prop where
 aP:δ.aP<4294967296
 len:δ.log.length≤16777216
 room:δ.room≤16777216
 now:∀e∈δ.now,e.2.length=512
 ax:∀(i:Nat) (b:List Nat),δ.ax[i]?=some (some b)→b.length=512
 bp:δ.bp≤δ.log.length
 many:δ.ax.length≤65536
theorem Dk.Ok.c8 {δ:Dk}(h:δ.Ok): δ.c8.Ok:=⟨by have:=h.aP; simp only [Dk.c8]; split <;> omega,h.len,h.room,h.now,h.ax,h.bp,h.many⟩
theorem Dk.Ok.die {δ:Dk}(h:δ.Ok): δ.die.Ok:=⟨h.aP,h.len,h.room,h.now,h.ax,h.bp,h.many⟩
theorem Dk.Ok.cK {δ:Dk}(h:δ.Ok): δ.cK.2.Ok:=by
 unfold Dk.cK
 split
 ·exact h
 ·split
  ·exact h.die
  ·exact ⟨h.c8.aP,h.len,h.room,h.now,h.ax,aD _,h.many⟩
theorem gU {α:Type}{n:Int}{x:α}: ∀ {l:List (Int×α)},lookL n l=some x→(n,x)∈l:=by
 intro l
 induction l with
 | nil=>intro h; cases h
 | cons e l I =>
  intro h
  simp only [lookL] at h
  by_cases he:e.1=n
  ·rw [aj he] at h
   have:=bk h
   obtain ⟨a,b⟩:=e
   simp only at he this
   subst he; subst this
   exact bu
  ·rw [ah he] at h; exact bn _ (I h)
theorem Dk.Ok.at {δ:Dk}(I:δ.Ok)(n:Int): (δ.at n).length=512:=by
 unfold Dk.at
 cases J:lookL n δ.now with
 | some b=>exact I.now _ (gU J)
 | none =>
  cases h2:δ.ax[n.toNat]? with
  | none=>exact cY
  | some o =>
   cases o with
   | none=>exact cY
   | some b=>exact I.ax _ _ h2
section
variable {told:cQ} {h:H} {S:List au} {X:au} {k q p:Nat} {v x:V} {l b:List Nat} {μ:Lg} {δ:Dk}
theorem UJ (hT:W told)(s:Sat h (aR p δ::S))(hf:δ.aP<4294967296): Call ⟨Tryz.prog,told⟩ 130 [.ptr p 0] h fun v h'=>v=.int .i64 δ.cK.1∧Sat h' (aR p δ.cK.2::S):=by
 refine (FE hT s hf).mono fun v h' hr => ?_
 unfold Dk.cK
 rcases hr with ⟨I,rfl,s⟩ | ⟨I,J,rfl,s⟩ | ⟨I,J,rfl,s⟩
 ·rw [aj I]; exact ⟨rfl,s⟩
 ·rw [ah (by rw [I]; decide),aj J]; exact ⟨rfl,s⟩
 ·rw [ah (by rw [I]; decide),ah J]; exact ⟨rfl,s⟩
theorem KV (hT:W told){n:Int}(s:Sat h (aR p δ::X::S))(hX:cT X (cU x b))(hb:b.length<1073741824)(hf:δ.aP<4294967296)(hw:δ.waiting.length≤268435456):
  Call ⟨Tryz.prog,told⟩ 138 [.ptr p 0,.int .i64 n,x] h fun v h'=>v=.int .i64 (δ.bK n b).1∧Sat h' (aR p (δ.bK n b).2::X::S):=by
 refine (OH hT s hX hb hf hw).mono fun v h' hr => ?_
 unfold Dk.bK
 rcases hr with ⟨I,rfl,s⟩ | ⟨I,J,rfl,s⟩ | ⟨I,h1,h2,h3,J,rfl,s⟩ | ⟨I,h1,h2,h3,J,rfl,s⟩
 ·rw [aj I]; exact ⟨rfl,s⟩
 ·rw [ah (by rw [I]; decide),aj J]; exact ⟨rfl,s⟩
 ·rw [ah (by rw [I]; decide),ah (by simp [h1,h2,h3]),aj J]; exact ⟨rfl,s⟩
 ·rw [ah (by rw [I]; decide),ah (by simp [h1,h2,h3]),ah J]; exact ⟨rfl,s⟩
theorem OT (hT:W told){n:Int}(s:Sat h (aR p δ::S))(J:δ.Ok): Call ⟨Tryz.prog,told⟩ 124 [.ptr p 0,.int .i64 n] h fun v h' =>
  (δ.rK n≠0∧v=.bj [.bw,.int .i64 (δ.rK n)]∧Sat h' (aR p δ::S))∨(δ.rK n=0∧∃u,v=.bj [u,.int .i64 0]∧Sat h' (aZ u (δ.at n)::aR p δ::S)):=by
 refine (Q8 hT s (J.at n)).mono fun v h' hr => ?_
 unfold Dk.rK
 rcases hr with ⟨I,rfl,s⟩ | ⟨I,h0,rfl,s⟩ | ⟨I,h1,h2,u,rfl,s⟩
 ·rw [aj I]; exact .inl ⟨by decide,rfl,s⟩
 ·rw [ah (by rw [I]; decide),aj h0]; exact .inl ⟨by decide,rfl,s⟩
 ·rw [ah (by rw [I]; decide),ah (by simp [h1,h2])]; exact .inr ⟨rfl,u,rfl,s⟩
end
abbrev LD := Lg×Dk
def bE (x:LD)(n:Nat): Int×LD:=if n<x.1.base+x.1.forced then (0,x) else if x.2.cK.1≠0 then (x.2.cK.1,(x.1,x.2.cK.2)) else (0,({ x.1 with forced:=x.1.b.length },x.2.cK.2))
def dI (μ:Lg)(kd:Int)(tx pv nx:Nat)(data:List Nat)(aM:List cq): List Nat:=iq (μ.base+μ.b.length) (dK kd tx pv nx data aM)
def bA (x:LD)(kd:Int)(tx pv nx:Nat)(data:List Nat)(aM:List cq): (Nat×Int)×LD :=
 if dD kd aM=false then ((0,1),x) else if 1048576<(dK kd tx pv nx data aM).length then ((0,2),x) else
 if (x.2.kq (dI x.1 kd tx pv nx data aM)).1≠0 then ((0,(x.2.kq (dI x.1 kd tx pv nx data aM)).1),(x.1,(x.2.kq (dI x.1 kd tx pv nx data aM)).2)) else
 ((x.1.base+x.1.b.length,0),(x.1.app (dI x.1 kd tx pv nx data aM),(x.2.kq (dI x.1 kd tx pv nx data aM)).2))
theorem JE {δ:Dk}: δ.cK.2.waiting=δ.waiting:=by
 unfold Dk.cK
 split
 ·rfl
 ·split <;> rfl
theorem nG {x:LD}{n:Nat}: (bE x n).2.2.waiting=x.2.waiting:=by
 unfold bE
 split
 ·rfl
 ·split <;> exact JE
theorem Dk.Ok.bK {δ:Dk}{n:Int}{b:List Nat}(h:δ.Ok): (δ.bK n b).2.Ok:=by
 unfold Dk.bK
 split
 ·exact h
 ·split
  ·exact h
  ·rename_i hn
   split
   ·exact ⟨h.aP,h.len,h.room,h.now,h.ax,h.bp,h.many⟩
   ·refine ⟨h.c8.aP,h.len,h.room,fun e he => ?_,h.ax,h.bp,h.many⟩
    have J:b.length=512:=by
     by_cases q:0≤n∧n<δ.ax.length∧b.length=512
     ·exact q.2.2
     ·exact absurd q hn
    have:∀l:List (Int×List Nat),(∀e∈l,e.2.length=512)→∀e∈cB n b l,e.2.length=512:=by
     intro l
     induction l with
     | nil=>intro _ e he; simp [cB] at he; subst he; exact J
     | cons x l ih =>
      intro I e he
      simp only [cB] at he
      split at he
      ·rcases List.mem_cons.1 he with rfl | he
       ·exact J
       ·exact I e (bn _ he)
      ·rcases List.mem_cons.1 he with rfl | he
       ·exact I _ bu
       ·exact ih (fun e he=>I e (bn _ he)) e he
    exact this δ.now h.now e he
theorem qi {x:LD}{n:Nat}(h:x.2.Ok): (bE x n).2.2.Ok:=by
 unfold bE
 split
 ·exact h
 ·split
  ·exact h.cK
  ·exact h.cK
theorem Lg.Ok.UK {μ:Lg}(h:μ.Ok): ({ μ with forced:=μ.b.length }:Lg).Ok:=⟨h.size,h.many,h.low,h.ER,aD _,h.len,h.check⟩
theorem vB {x:LD}{n:Nat}(h:x.1.Ok): (bE x n).2.1.Ok:=by
 unfold bE
 split
 ·exact h
 ·split
  ·exact h
  ·exact h.UK
section
variable {told:cQ} {h:H} {S:List au} {X:au} {k q p:Nat} {v x:V} {l b:List Nat} {μ:Lg} {δ:Dk}
theorem KW (hT:W told){n:Nat}(s:Sat h (b8 q p μ::aR p δ::S))(B6:μ.Ok)(hf:δ.aP<4294967296): Call ⟨Tryz.prog,told⟩ 79 [.ptr q 0,.int .u64 (n:Int)] h fun v h' =>
  v=.int .i64 (bE (μ,δ) n).1∧Sat h' (b8 q p (bE (μ,δ) n).2.1::aR p (bE (μ,δ) n).2.2::S):=by
 refine (OO hT s B6 hf).mono fun v h' hr => ?_
 unfold bE Dk.cK
 rcases hr with ⟨I,rfl,s⟩ | ⟨I,J,rfl,s⟩ | ⟨I,J,h0,rfl,s⟩ | ⟨I,J,h0,rfl,s⟩
 ·rw [aj I]; exact ⟨rfl,s⟩
 ·simp only [ah (Nat.not_lt.2 I),aj J,mY,aj (by decide:¬ ((9:Int)=0))]; exact ⟨aa,s⟩
 ·simp only [ah (Nat.not_lt.2 I),ah (by rw [J]; decide:¬ δ.dead=true),aj h0,mY,aj (by decide:¬ ((9:Int)=0))]; exact ⟨aa,s⟩
 ·simp only [ah (Nat.not_lt.2 I),ah (by rw [J]; decide:¬ δ.dead=true),ah h0,mY,not_true,bN]; exact ⟨aa,s⟩
theorem Rf (hT:W told){kd:Int}{tx pv nx:Nat}{dt ch:V}{cs:List V}{data:List Nat}{aM:List cq}(s:Sat h (b8 q p μ::aR p δ::X::.arr 4 ch cs::dg cs aM::S))(hX:cT X (cU dt data))(dZ:Dg tx pv nx data aM)(B6:μ.Ok)(mg:δ.Ok):
  Call ⟨Tryz.prog,told⟩ 59 [.ptr q 0,.agg (gT kd tx pv nx dt ch)] h fun r h' =>
  r=.bj [.int .u64 ((bA (μ,δ) kd tx pv nx data aM).1.1:Nat),.int .i64 (bA (μ,δ) kd tx pv nx data aM).1.2] ∧
  Sat h' (b8 q p (bA (μ,δ) kd tx pv nx data aM).2.1::aR p (bA (μ,δ) kd tx pv nx data aM).2.2::X::.arr 4 ch cs::dg cs aM::S):=by
 refine (Mw hT s hX dZ B6 mg.aP mg.len mg.room).mono fun v h' hr => ?_
 unfold bA Dk.kq dI
 rcases hr with ⟨e,rfl,(⟨J,rfl⟩ | ⟨J,hb,rfl⟩ | ⟨J,hb,hd,rfl⟩ | ⟨J,hb,hd,Tz,rfl⟩),s⟩ | ⟨J,hb,hd,I,h0,rfl,s⟩ | ⟨J,hb,hd,I,h0,rfl,s⟩
 ·rw [aj J]; exact ⟨rfl,s⟩
 ·rw [ah (by rw [J]; decide),aj hb]; exact ⟨rfl,s⟩
 ·simp only [ah (by rw [J]; decide:¬ dD kd aM=false),ah (Nat.not_lt.2 hb),aj hd,mY,aj (by decide:¬ ((9:Int)=0))]; exact ⟨rfl,s⟩
 ·simp only [ah (by rw [J]; decide:¬ dD kd aM=false),ah (Nat.not_lt.2 hb),ah (by rw [hd]; decide:¬ δ.dead=true),aj Tz,mY,aj (by decide:¬ ((7:Int)=0))]; exact ⟨rfl,s⟩
 ·simp only [ah (by rw [J]; decide:¬ dD kd aM=false),ah (Nat.not_lt.2 hb),ah (by rw [hd]; decide:¬ δ.dead=true),ah (Nat.not_lt.2 I),aj h0,mY,aj (by decide:¬ ((9:Int)=0))]; exact ⟨rfl,s⟩
 ·simp only [ah (by rw [J]; decide:¬ dD kd aM=false),ah (Nat.not_lt.2 hb),ah (by rw [hd]; decide:¬ δ.dead=true),ah (Nat.not_lt.2 I),ah h0,mY,not_true,bN]; exact ⟨aa,s⟩
end
structure Fm where
 aL:Int
 b:List Nat
 pins:Int
 eY:Bool
 changed:Bool
structure Pl where
 ak:List Fm
 bM:List (Int×Int)
 bI:List (Int×(Nat×Bool))
 hand:Nat
def fE (f:Fm)(v:V): List V:=[.int .i64 f.aL,v,.int .i64 f.pins,.bool f.eY,.bool f.changed]
def uB : List V→List Fm→au
 | [],[]=>.pu True
 | a::v::c::d::e::l,x::m=>.an (.an (.pu (a=.int .i64 x.aL∧c=.int .i64 x.pins∧d=.bool x.eY∧e=.bool x.changed)) (.cx v x.b)) (uB l m)
 | _,_=>.pu False
theorem aW.fm : ∀(m:List Fm) (l:List V),aW (uB l m):=by
 intro m
 induction m with
 | nil=>intro l; rcases l with _ | ⟨a,_ | ⟨b,_ | ⟨c,_ | ⟨d,_ | ⟨e,l⟩⟩⟩⟩⟩ <;> exact aW.pu _
 | cons x m I=>intro l; rcases l with _ | ⟨a,_ | ⟨b,_ | ⟨c,_ | ⟨d,_ | ⟨e,l⟩⟩⟩⟩⟩ <;> first | exact aW.pu _ | exact aW.an (aW.an (aW.pu _) (aW.cx _ _)) (I l)
theorem zV {a b:PM}: ∀ {m:List Fm} {l:List V} {i:Nat} {f:Fm},(uB l m).p a b→m[i]?=some f→∃pre v post,l=pre++(fE f v++post)∧pre.length=i*5∧(au.cx v f.b).p a b ∧
  (∀(f':Fm) (v':V) (I J:PM),(au.cx v' f'.b).p I J→PM.le a I→PM.le b J→(uB (pre++(fE f' v'++post)) (m.set i f')).p I J):=by
 intro m
 induction m with
 | nil=>intro l i f h hc; simp at hc
 | cons x m ih =>
  intro l i f h hc
  rcases l with _ | ⟨p,_ | ⟨q,_ | ⟨w,_ | ⟨d,_ | ⟨e,l⟩⟩⟩⟩⟩ <;> first | exact h.elim | skip
  obtain ⟨⟨⟨h1,h2,h3,h4⟩,h5⟩,h6⟩:=h
  cases i with
  | zero =>
   simp at hc
   subst hc
   refine ⟨[],q,l,?_,rfl,h5,fun f' v' I J hv ha hb=>⟨⟨⟨rfl,rfl,rfl,rfl⟩,hv⟩,(uB l m).mono _ _ _ _ ha hb h6⟩⟩
   rw [h1,h2,h3,h4]; rfl
  | succ i =>
   simp at hc
   obtain ⟨pre,v,post,e1,e2,e3,e4⟩:=ih h6 hc
   refine ⟨p::q::w::d::e::pre,v,post,?_,?_,e3,fun f' v' I J hv ha hb=>⟨⟨⟨h1,h2,h3,h4⟩,au.mono _ _ _ _ _ ha hb h5⟩,e4 f' v' I J hv ha hb⟩⟩
   ·rw [e1]; rfl
   ·simp only [aS,e2]; omega
theorem UL {a b:PM}: ∀ {m:List Fm} {l:List V},(uB l m).p a b→l.length=m.length*5:=by
 intro m
 induction m with
 | nil=>intro l h; rcases l with _ | ⟨a,_ | ⟨b,_ | ⟨c,_ | ⟨d,_ | ⟨e,l⟩⟩⟩⟩⟩ <;> first | rfl | exact h.elim
 | cons x m I =>
  intro l h
  rcases l with _ | ⟨a,_ | ⟨b,_ | ⟨c,_ | ⟨d,_ | ⟨e,l⟩⟩⟩⟩⟩ <;> first | exact h.elim | skip
  have:=I h.2
  simp only [aS]
  omega
def eN (ct:Nat)(m:List Fm): au:=xs fun cs:List V=>star [pt ct (.cells (m.length*5) cs false),uB cs m]
abbrev H7 (v:V)(m:List (Int×Int)): au:=jc (fun v x=>.pu (v=.int .i64 x)) v m
abbrev KX (v:V)(m:List (Int×(Nat×Bool))): au:=jc (fun v x=>.pu (v=.agg [.int .u64 (x.1:Int),.bool x.2])) v m
def qj (p q ct n:Nat)(wh di:V)(hand:Nat): List V:=[.ptr p 0,.ptr q 0,.sl ct 0 n (.exact n),wh,di,.int .i64 (hand:Int)]
def eF (r p q:Nat)(π:Pl): au:=xs fun ct:Nat=>xs fun wh:V=>xs fun di:V =>
 star [pt r (.cells 6 (qj p q ct π.ak.length wh di π.hand) false),eN ct π.ak,H7 wh π.bM,KX di π.bI]
section
variable {P:Program} {h:H} {S:List au} {X:au} {r q p ct:Nat} {v:V} {π:Pl} {m:List Fm}
theorem fM : Sat h (eF r p q π::S)↔∃ct wh di,Sat h (pt r (.cells 6 (qj p q ct π.ak.length wh di π.hand) false)::eN ct π.ak::H7 wh π.bM::KX di π.bI::S):=by
 simp only [eF,gN,bQ,fg,cZ]
theorem j_ : Sat h (eN ct m::S)↔∃cs,Sat h (pt ct (.cells (m.length*5) cs false)::uB cs m::S):=by
 simp only [eN,gN,bQ,fg,cZ]
theorem jx {i:Nat}{f:Fm}(s:Sat h (eN ct m::S))(hf:m[i]?=some f): ∃pre v post,pre.length=i*5∧(pre++(fE f v++post)).length=m.length*5 ∧
  Sat h (pt ct (.cells (m.length*5) (pre++(fE f v++post)) false)::uB (pre++(fE f v++post)) m::.cx v f.b::S):=by
 obtain ⟨cs,s⟩:=j_.1 s
 obtain ⟨a,b,q1,q2,q3⟩:=s.at (k:=1) rfl
 obtain ⟨pre,v,post,e1,e2,e3,_⟩:=zV q3 hf
 have hl:=UL q3
 subst e1
 refine ⟨pre,v,post,e2,hl,?_⟩
 have s1:Sat h (uB (pre++(fE f v++post)) m::pt ct (.cells (m.length*5) (pre++(fE f v++post)) false)::S):=s.ae [1]
 have s2:=(s1.dup (aW.fm _ _)).hO (B:=.cx v f.b) fun a' b' h'=>by
  obtain ⟨aaQ,v',I,J,rZ,ZX,_⟩:=zV h' hf
  have:=Eg J (by omega)
  obtain ⟨_,h5⟩:=this
  have h6:=gy (fun l=>l[1]?) h5
  simp [fE] at h6
  subst h6
  exact ZX
 exact s2.ae [2,1,0]
theorem gF {i:Nat}{f f':Fm}{v':V}{pre post:List V}{n:Nat}(s:Sat h (pt ct (.cells n (pre++(fE f' v'++post)) false)::uB (pre++(fE f v++post)) m::.cx v' f'.b::S))(hn:n=m.length*5)(hf:m[i]?=some f)(hp:pre.length=i*5): Sat h (eN ct (m.set i f')::S):=by
 subst hn
 have s1:Sat h (uB (pre++(fE f v++post)) m::.cx v' f'.b::pt ct (.cells (m.length*5) (pre++(fE f' v'++post)) false)::S):=s.ae [1,1,0]
 have s2:=s1.two (C:=uB (pre++(fE f' v'++post)) (m.set i f')) (aW.fm _ _) (aW.cx _ _) fun a b h1 h2=>by
  obtain ⟨aaQ,v0,I,J,rZ,ZX,e4'⟩:=zV h1 hf
  obtain ⟨h3,h4⟩:=Eg J (by omega)
  subst h3
  have h5:post=I:=by
   have:=Eg h4 (by simp [fE])
   exact this.2
  subst h5
  exact e4' f' v' a b h2 (PM.le_refl _) (PM.le_refl _)
 refine j_.2 ⟨pre++(fE f' v'++post),?_⟩
 rw [bW]
 exact s2.ae [1]
theorem iY {pre row post:List V}{a j:Nat}{x:V}(hp:pre.length=a)(I:nth row j=some x): nth (pre++(row++post)) (a+j)=some x:=by
 rw [fF] at I ⊢
 have J:=(List.getElem?_eq_some_iff.1 I).1
 rw [mS (by omega),show a+j-pre.length=j by omega,jL J,I]
theorem UM {pre row post:List V}{a j:Nat}{x:V}(J:pre.length=a)(I:j<row.length): (pre++(row++post)).set (a+j) x=pre++(row.set j x++post):=by
 rw [List.set_append_right _ _ (by omega),show a+j-pre.length=j by omega,DZ _ _ I]
theorem Sat.stM {t:TypeId}{k id n a j:Nat}{pre row post:List V}{x:V}(s:Sat h S)(hk:getA S k=some (pt id (.cells n (pre++(row++post)) false)))(hs:bH P t=some 1)(hp:pre.length=a)(J:(pre++(row++post)).length=n)(hj:j<row.length)(hv:x.cells=[x])(I:storable x=true):
  ∃h₁,g9 P h t (.ptr id (a+j)) x=some h₁∧Sat h₁ (setA S k (pt id (.cells n (pre++(row.set j x++post)) false))):=by
 have:=s.ey (P:=P) (t:=t) (off:=a+j) (v:=x) hk hs J (by rw [←J]; simp; omega) hv I
 rwa [UM hp hj] at this
theorem Sat.TA {t:TypeId}{k id n a:Nat}{pre row row' post:List V}(s:Sat h S)(hk:getA S k=some (pt id (.cells n (pre++(row++post)) false)))(hs:bH P t=some row'.length)(hp:pre.length=a)(J:(pre++(row++post)).length=n)(hr:row'.length=row.length)(I:row'.all storable=true):
  ∃h₁,g9 P h t (.ptr id a) (.agg row')=some h₁∧Sat h₁ (setA S k (pt id (.cells n (pre++(row'++post)) false))):=by
 have:=s.stN (P:=P) (t:=t) (off:=a) (l:=row') hk hs J (by rw [←J]; simp; omega) I
 have e:(pre++(row++post)).take a++(row'++(pre++(row++post)).drop (a+row'.length))=pre++(row'++post):=by
  rw [ke hp,Az,je (by omega),cZ,show a+row'.length-pre.length=row.length by omega,sY rfl]
 rwa [e] at this
theorem ldF {t:TypeId}{k id n a:Nat}{pre row post:List V}(s:Sat h S)(J:getA S k=some (pt id (.cells n (pre++(row++post)) false)))(ht:cm P t=some true)(hs:bH P t=some row.length)(hp:pre.length=a)(I:(pre++(row++post)).length=n): loadV P h t (.ptr id a)=some (.agg row):=by
 rw [Ou ht hs (s.row J) I (by rw [←I]; simp; omega),sY hp,ke rfl]
end
abbrev aI := Pl×LD
def mh (π:Pl)(n:Int): Nat:=match lookL n π.bI with
 | some x=>x.1
 | none=>0
def outF (ε:aI)(i:Nat): Int×aI:=match ε.1.ak[i]? with
 | none=>(0,ε)
 | some f=>if f.aL<0∨f.changed=false then (0,ε) else if b7 f.b=false then (4,ε) else
  if (bE ε.2 (dn f.b 4 8)).1≠0 then ((bE ε.2 (dn f.b 4 8)).1,(ε.1,(bE ε.2 (dn f.b 4 8)).2)) else
  if ((bE ε.2 (dn f.b 4 8)).2.2.bK f.aL f.b).1≠0 then (((bE ε.2 (dn f.b 4 8)).2.2.bK f.aL f.b).1,(ε.1,((bE ε.2 (dn f.b 4 8)).2.1,((bE ε.2 (dn f.b 4 8)).2.2.bK f.aL f.b).2))) else
  (0,({ ε.1 with ak:=ε.1.ak.set i { f with changed:=false },bI:=cB f.aL (mh ε.1 f.aL,false) ε.1.bI },((bE ε.2 (dn f.b 4 8)).2.1,((bE ε.2 (dn f.b 4 8)).2.2.bK f.aL f.b).2)))
section
variable {told:cQ} {h:H} {S:List au} {X:au} {r k q p ct:Nat} {v x wh di:V} {l b:List Nat} {π:Pl} {μ:Lg} {δ:Dk}
theorem W7 (hT:W told){i:Nat}{f:Fm}(s:Sat h (pt r (.cells 6 (qj p q ct π.ak.length wh di π.hand) false)::eN ct π.ak::H7 wh π.bM::KX di π.bI::b8 q p μ::aR p δ::S))(hi:π.ak[i]?=some f)(B6:μ.Ok)(mg:δ.Ok)(S1:f.b.length<1073741824)(hw:δ.waiting.length≤268435456):
  Call ⟨Tryz.prog,told⟩ 123 [.ptr r 0,.ptr ct (i*5)] h fun v h'=>v=.int .i64 (outF (π,μ,δ) i).1 ∧
   Sat h' (pt r (.cells 6 (qj p q ct (outF (π,μ,δ) i).2.1.ak.length wh di (outF (π,μ,δ) i).2.1.hand) false)::eN ct (outF (π,μ,δ) i).2.1.ak::H7 wh (outF (π,μ,δ) i).2.1.bM::KX di (outF (π,μ,δ) i).2.1.bI::b8 q p (outF (π,μ,δ) i).2.2.1::aR p (outF (π,μ,δ) i).2.2.2::S):=by
 have ZY:=s
 obtain ⟨pre,fv,post,I,hlen,s⟩:=jx (s.ae [1]) hi
 have ZZ:=(s.aE (k:=2) rfl (dy _ _))
 refine Call.of_wp (hT.free _ rfl) Tryz.func123 rfl rfl (zK 9 rfl (zf rfl (pE _ _) (zl rfl (s.ld (k:=0) rfl dL (iY I rfl)) ?_)))
 refine zd rfl (af rfl rfl aT) ?_ ?_
 ·intro hq
  have hq:f.aL<0:=by simpa using hq
  have he:outF (π,μ,δ) i=(0,(π,μ,δ)):=by simp only [outF,hi]; rw [aj (.inl hq)]
  rw [he]
  exact zk 13 rfl (WP.ret ⟨aa,_,rfl,rfl,ZY⟩)
 ·intro hq
  have hq:¬ f.aL<0:=by simpa using hq
  refine zk 3 rfl (zf rfl (EJ _ _) (zl rfl (s.ld (k:=0) rfl kX (iY I rfl)) ?_))
  have HE:f.changed=false∨f.changed=true:=by cases f.changed <;> simp
  rcases HE with hc | hc
  ·have he:outF (π,μ,δ) i=(0,(π,μ,δ)):=by simp only [outF,hi]; rw [aj (.inr hc)]
   rw [he]
   refine zt rfl (eD rfl rfl) (by rw [hc]; rfl) ?_
   exact zk 7 rfl (WP.ret ⟨aa,_,rfl,rfl,ZY⟩)
  ·have he:outF (π,μ,δ) i=(if b7 f.b=false then (4,(π,μ,δ)) else
    if (bE (μ,δ) (dn f.b 4 8)).1≠0 then ((bE (μ,δ) (dn f.b 4 8)).1,(π,(bE (μ,δ) (dn f.b 4 8)).2)) else
    if ((bE (μ,δ) (dn f.b 4 8)).2.2.bK f.aL f.b).1≠0 then (((bE (μ,δ) (dn f.b 4 8)).2.2.bK f.aL f.b).1,(π,((bE (μ,δ) (dn f.b 4 8)).2.1,((bE (μ,δ) (dn f.b 4 8)).2.2.bK f.aL f.b).2))) else
    (0,({ π with ak:=π.ak.set i { f with changed:=false },bI:=cB f.aL (mh π f.aL,false) π.bI },((bE (μ,δ) (dn f.b 4 8)).2.1,((bE (μ,δ) (dn f.b 4 8)).2.2.bK f.aL f.b).2)))):=by
    simp only [outF,hi]; rw [ah (by rw [hc]; simp; omega)]
   rw [he]
   refine zh rfl (eD rfl rfl) (by rw [hc]; rfl) ?_
   refine zk 8 rfl (zf rfl (A0 _ _) (zl rfl (s.ld (k:=0) rfl bJ (iY I rfl)) (zc rfl (KR hT (s.ae [2]) (dy _ _) (by omega)) ?_)))
   rintro w h ⟨s,(⟨hg,rfl⟩ | ⟨hg,rfl⟩)⟩
   ·dsimp only [bringA,getA,aQ] at s
    rw [ah (by rw [hg]; decide)]
    have Rg:(bE (μ,δ) (dn f.b 4 8)).2.2.Ok:=qi mg
    have W8:(bE (μ,δ) (dn f.b 4 8)).2.2.waiting.length≤268435456:=by rw [nG]; exact hw
    have J:=KW (n:=dn f.b 4 8) hT (s.ae [6,6]) B6 mg.aP
    generalize bE (μ,δ) (dn f.b 4 8)=x at J Rg W8 ⊢
    obtain ⟨xe,xl,xd⟩:=x
    dsimp only at J Rg W8 ⊢
    refine zk 16 rfl (zh rfl (af rfl rfl aN) (rfl) (zk 8 rfl (zf rfl (Uv _ _) (zl rfl (s.ld (k:=3) rfl EB rfl) (zm rfl (zc rfl (J) ?_))))))
    rintro w h ⟨rfl,s⟩
    refine zk 5 rfl ?_
    by_cases hx:xe=0
    ·subst hx
     rw [ah (by decide)]
     refine zh rfl (af rfl rfl aN) (rfl) ?_
     have zy:=fun (s:Sat h (aR p xd::.cx fv f.b::b8 q p xl::pt ct (.cells (π.ak.length*5) (pre++(fE f fv++post)) false)::uB (pre++(fE f fv++post)) π.ak::pt r (.cells 6 (qj p q ct π.ak.length wh di π.hand) false)::H7 wh π.bM::KX di π.bI::S))=>KV (n:=f.aL) hT s (dy fv f.b) S1 Rg.aP W8
     generalize xd.bK f.aL f.b=y at zy ⊢
     obtain ⟨ye,yd⟩:=y
     dsimp only at zy ⊢
     have s:=s.ae [1,1,0]
     refine zk 5 rfl (WP.drawn [ai,ai,ai,ai,ai,ai,ai,ai,ai,ai,ai,ai,ai,ai] rfl (by kernel_rfl) (by kernel_rfl) ?_)
     refine zM rfl (zN rfl (zF rfl (AZ _ _) (zL rfl (s.ld (k:=5) rfl qZ rfl) (zM rfl (zN rfl (zF rfl (pE _ _) (zL rfl (s.ld (k:=3) rfl dL (iY I rfl)) (zM rfl (zN rfl (zF rfl (A0 _ _) (zL rfl (s.ld (k:=3) rfl bJ (iY I rfl)) (aB.any rfl rfl rfl rfl (OpR.call rfl rfl rfl rfl (zy s)) ?_))))))))))))
     rintro w h ⟨rfl,s⟩
     refine zA rfl ?_
     refine aB.nil ⟨⟨aa,aa,aa,aa,aa,aa,aa,aa,aa,aa,aa,aa,aa,aa,aa⟩,?_⟩
     refine zK 3 rfl ?_
     by_cases hy:ye=0
     ·subst hy
      rw [ah (by decide)]
      refine zh rfl (af rfl rfl aN) (rfl) (zk 7 rfl (zf rfl (EJ _ _) (zS rfl (s.stM (k:=3) (j:=4) rfl uf I hlen (by simp [fE]) rfl rfl) ?_)))
      intro h s
      have e5:(fE f fv).set 4 (.bool false)=fE { f with changed:=false } fv:=rfl
      rw [e5] at s
      have s:=s.ae [7,3,4]
      refine zk 2 rfl (WP.drawn [ai,ai,ai,ai,ai,ai,ai,ai,ai,ai,ai,ai,ai,ai,ai,ai,ai,ai,ai,ai] rfl (by kernel_rfl) (by kernel_rfl) ?_)
      refine zM rfl (zN rfl (zF rfl (tE _ _) (zL rfl (s.ld (k:=2) rfl AY rfl) (zM rfl (zN rfl (zF rfl (pE _ _) (zL rfl (s.ld (k:=1) rfl dL (iY I rfl)) (zM rfl (zN rfl (zF rfl (tE _ _) (zL rfl (s.ld (k:=2) rfl AY rfl) (zM rfl (zN rfl (zF rfl (pE _ _) (zL rfl (s.ld (k:=1) rfl dL (iY I rfl)) ?_)))))))))))))))
      have Mx:∃b,eV Tryz.prog h 187 di (.int .i64 f.aL) false=some (.agg [.int .u64 (mh π f.aL:Nat),.bool b]):=by
       rcases mz (f:=fun v (x:Nat×Bool)=>.pu (v=.agg [.int .u64 (x.1:Int),.bool x.2])) (n:=f.aL) (fun _ _=>aW.pu _) s wI bD A3 with ⟨g1,_,g3⟩ | ⟨u,x,g1,_,g3,s'⟩
       ·exact ⟨false,by rw [g3]; simp only [mh,g1]; rfl⟩
       ·obtain ⟨rfl,_⟩:=eo.1 s'
        exact ⟨x.2,by rw [g3]; simp only [mh,g1]⟩
      obtain ⟨lb,Mx⟩:=Mx
      refine zO rfl (iJ rfl rfl Mx) (zO rfl (Yv rfl (Yx (Uw _) rfl)) (zO rfl (c_ rfl (by rw [YH]; rfl)) ?_))
      refine aB.i_ rfl rfl rfl (OpR.mapUpdate rfl rfl rfl rfl (oR (f:=fun v (x:Nat×Bool)=>.pu (v=.agg [.int .u64 (x.1:Int),.bool x.2])) (x:=(mh π f.aL,false)) (fun _ _=>aW.pu _) (s.gA rfl) wI bD)) ?_
      intro w h s
      refine aB.nil ⟨⟨aa,aa,aa,aa,aa,aa,aa,aa,aa,aa,aa,aa,aa,aa,aa,aa,aa,aa,aa,aa,aa⟩,?_⟩
      refine zK 4 rfl (WP.ret ⟨aa,_,rfl,?_⟩)
      refine ⟨rfl,?_⟩
      have s:=gF (i:=i) (f':={ f with changed:=false }) (s.ae [1,5,3]) rfl hi I
      have e6:(π.ak.set i { f with changed:=false }).length=π.ak.length:=bW
      rw [e6]
      exact s.ae [2,0,3,0,1,0]
     ·rw [aj hy]
      refine zt rfl (af rfl rfl aN) (by simp; exact hy) ?_
      refine zk 7 rfl (WP.ret ⟨aa,_,rfl,?_⟩)
      refine ⟨rfl,?_⟩
      have s:=j_.2 ⟨_,s.ae [3,3]⟩
      exact (s.del 2).ae [3,0,2,2,1,0]
    ·rw [aj hx]
     refine zt rfl (af rfl rfl aN) (by simp; exact hx) ?_
     refine zk 7 rfl (WP.ret ⟨aa,_,rfl,?_⟩)
     refine ⟨rfl,?_⟩
     have s:=j_.2 ⟨_,s.ae [3,3]⟩
     exact (s.del 3).ae [3,0,2,2,0,0]
   ·dsimp only [bringA,getA,aQ] at s
    rw [aj hg]
    refine zk 16 rfl (zt rfl (af rfl rfl aN) (rfl) (zk 7 rfl (WP.ret ⟨aa,_,rfl,?_⟩)))
    refine ⟨rfl,?_⟩
    have s:=j_.2 ⟨_,s.ae [1,1]⟩
    exact (s.del 1).ae [1,0]
end
structure fX (π gV:Pl): Prop where
 bM:gV.bM=π.bM
 bI:gV.bI=π.bI
 len:gV.ak.length=π.ak.length
 get:∀(i:Nat) (f:Fm),π.ak[i]?=some f→∃t,gV.ak[i]?=some { f with eY:=t }
theorem fX.refl (π:Pl): fX π π:=⟨rfl,rfl,rfl,fun _ f h=>⟨f.eY,h⟩⟩
theorem fX.trans {π J I:Pl}(a:fX π J)(b:fX J I): fX π I:=by
 refine ⟨b.bM.trans a.bM,b.bI.trans a.bI,b.len.trans a.len,fun i f h => ?_⟩
 obtain ⟨t,ht⟩:=a.get i f h
 obtain ⟨t',ht'⟩:=b.get i _ ht
 exact ⟨t',ht'⟩
theorem fX.hand {π:Pl}{n:Nat}: fX π { π with hand:=n }:=⟨rfl,rfl,rfl,fun _ f h=>⟨f.eY,h⟩⟩
theorem fX.UN {π:Pl}{i:Nat}{f:Fm}(hi:π.ak[i]?=some f): fX π { π with ak:=π.ak.set i { f with eY:=false } }:=by
 refine ⟨rfl,rfl,bW,fun j g I => ?_⟩
 by_cases h:i=j
 ·subst h
  rw [hi] at I
  have:=bk I
  subst this
  have J:=(List.getElem?_eq_some_iff.1 hi).1
  exact ⟨false,by simp [qH,J]⟩
 ·exact ⟨g.eY,by simp only [qH,ah h]; exact I⟩
theorem EU {P:Program}{h:H}{t:TypeId}{x y:Operand}{a b:Nat}(I:0<b): binV P h .rem t x y (.int .i64 (a:Int)) (.int .i64 (b:Int))=some (.int .i64 ((a%b:Nat):Int)):=by
 simp only [binV,ikBeq,ag,intV]
 have:intBeq (b:Int) 0=false:=by rw [k_]; simp; omega
 rw [this,az,Int.tmod_eq_emod_of_nonneg (by omega)]
 rfl
section
variable {told:cQ} {h:H} {S:List au} {X:au} {r k q p ct:Nat} {v x wh di:V} {l b:List Nat} {π:Pl} {m:List Fm}
theorem nH {i n:Nat}(hi:i<n): indexAddrV Tryz.prog 185 (.sl ct 0 n (.exact n)) (.int .i64 (i:Int))=some (.ptr ct (i*5)):=by
 rw [YD,show (decide ((0:Int)≤(i:Int))&&decide ((i:Int)<(n:Int)))=true by simp; omega,ag]
 simp
theorem JF (I:W told){f:Fm}(s:Sat h S)(hv:storable v=true): Call ⟨Tryz.prog,told⟩ 169 [.agg (fE f v)] h fun w h'=>w=.bool (decide (f.pins=0))∧Sat h' S:=by
 refine Call.of_wp (I.free _ rfl) Tryz.func169 rfl rfl (zg rfl (aA.b5 s rfl rfl rfl (fe rfl (by simp only [V.cells,fE,fH,jh,hv]; rfl)) ?_))
 intro J h s
 dsimp only [V.cells,fE] at s
 exact zk 4 rfl (zf rfl (rj _ _) (zl rfl (s.ld (k:=0) rfl dL rfl) (zb rfl eA (zk 2 rfl (WP.ret ⟨aa,_,rfl,rfl,s.drop⟩)))))
theorem Rh (hT:W told){f:Fm}(s:Sat h (eN ct m::S))(h0:m[0]?=some f)(hp:f.pins=0): Call ⟨Tryz.prog,told⟩ 190 [.sl ct 0 m.length (.exact m.length),.fn (.func 169) [] []] h fun w h'=>w=.int .i64 0∧Sat h' (eN ct m::S):=by
 have hl:=(List.getElem?_eq_some_iff.1 h0).1
 obtain ⟨pre,fv,post,I,hlen,s⟩:=jx s h0
 have J:=(s.aE (k:=2) rfl (dy _ _)).cells.2
 refine Call.of_wp (hT.free _ rfl) Tryz.func190 rfl rfl (zK 8 rfl (zo rfl (aU rfl rfl rfl (pG rfl zU)) (zk 2 rfl (WP.block (WP.loop (zg rfl (zt rfl (af rfl rfl aT) (by simp; omega) ?_)))))))
 refine zk 5 rfl (WP.block (zK 10 rfl (zo rfl (dr rfl rfl (nH (i:=0) hl)) (zl rfl (ldF s (k:=0) rfl YF C7 I hlen) (zc rfl (JF hT s J) ?_)))))
 rintro w h ⟨rfl,s⟩
 rw [fo hp]
 exact zk 7 rfl (WP.ret ⟨aa,_,rfl,rfl,(j_.2 ⟨_,s⟩).del 1⟩)
theorem JG (I:W told){f:Fm}(s:Sat h (eN ct m::S))(J:m[0]?=some f)(hp:f.pins=0): Call ⟨Tryz.prog,told⟩ 168 [.sl ct 0 m.length (.exact m.length),.fn (.func 169) [] []] h fun w h'=>w=.bool true∧Sat h' (eN ct m::S):=by
 refine Call.of_wp (I.free _ rfl) Tryz.func168 rfl rfl (zK 8 rfl (zc rfl (Rh I s J hp) ?_))
 rintro w h ⟨rfl,s⟩
 refine zt rfl (af rfl rfl mG) (by decide) ?_
 exact zk 2 rfl (WP.ret ⟨aa,_,rfl,rfl,s⟩)
noncomputable def fdA : Code:=dB [1,0,0,1,0,0] ((Tryz.f122.body).getD .skip)
noncomputable def W9 : Code:=dB [1,0,1,1,1,0,0] ((Tryz.f122.body).getD .skip)
theorem JH {wh di:V}{hand:Nat}: ∀(j i:Nat) (h:H) (E:List (Nat×V)) (Q:Ex→List (Nat×V)→H→Prop),i+j=m.length→m.length<4294967296 →
  Sat h (pt r (.cells 6 (qj p q ct m.length wh di hand) false)::eN ct m::S)→Has E [(0,.ptr r 0),(10,.int .i64 m.length),(11,.int .i64 i)] →
  (∀E' (i:Nat) (f:Fm),m[i]?=some f→f.aL<0→look E' 2=some (.int .i64 (i:Int))→Q .ret E' h) →
  (∀E',Has E' [(0,.ptr r 0)]→Q (.exit 0) E' h)→WP ⟨Tryz.prog,told⟩ 70 (.loop fdA) E h Q:=by
 intro j
 induction j with
 | zero =>
  intro i h E Q hi hm s hE hr hx
  refine WP.loop (WP.has hE (zg rfl (zh rfl (af rfl rfl aT) (by simp; omega) ?_)))
  exact zk 3 rfl (WP.exit (hx _ ⟨rfl,aa⟩))
 | succ j ih =>
  intro i h E Q hi hm s hE hr hx
  have hc:m[i]?=some (m[i]'(by omega)):=bf _
  generalize (m[i]'(by omega))=f at hc
  obtain ⟨pre,fv,post,I,hlen,s'⟩:=jx (s.ae [1]) hc
  refine WP.loop (WP.has hE (zg rfl (zt rfl (af rfl rfl aT) (by simp; omega) ?_)))
  refine zk 5 rfl (WP.block (zK 9 rfl (zf rfl (l8 _ _) (zl rfl (s.ld (k:=0) rfl qd rfl) (zm rfl (zo rfl (dr rfl rfl (nH (i:=i) (by omega))) ?_))))))
  refine zf rfl (pE _ _) (zl rfl (s'.ld (k:=0) rfl dL (iY I rfl)) ?_)
  refine zd rfl (af rfl rfl aT) ?_ ?_
  ·intro J
   have J:f.aL<0:=by simpa using J
   exact zk 7 rfl (WP.ret (hr _ i f hc J rfl))
  ·intro J
   refine zv (zj rfl (WP.skip (zr rfl (zb rfl (by exact br (aC (by omega) (by omega))) ?_))))
   refine zm rfl (zv ?_)
   exact ih (i+1) h _ Q (by omega) hm s ⟨rfl,rfl,rfl,aa⟩ hr hx
def rz (m:List Fm): Nat:=(m.filter fun f=>f.eY).length
theorem BG {f:Fm}: ∀ {m:List Fm} {i:Nat},m[i]?=some f→f.eY=true→rz (m.set i { f with eY:=false })+1=rz m:=by
 intro m
 induction m with
 | nil=>intro i h; simp at h
 | cons g m J =>
  intro i h I
  cases i with
  | zero=>simp at h; subst h; simp [rz,I]
  | succ i =>
   rw [kK] at h
   have:=J h I
   simp only [rz,Ax,List.filter_cons] at this ⊢
   split <;> (try simp only [aS]) <;> omega
theorem Di {wh di:V}{f:Fm}{h:H}{E:List (Nat×V)}{Q:Ex→List (Nat×V)→H→Prop}(hf:π.ak[π.hand]?=some f)(hm:π.ak.length<4294967296)(hp:f.pins=0)
 (s:Sat h (pt r (.cells 6 (qj p q ct π.ak.length wh di π.hand) false)::eN ct π.ak::S))(hE:Has E [(0,.ptr r 0)])
 (hr:f.eY=false→∀E' h',look E' 2=some (.int .i64 (π.hand:Int))→Sat h' (pt r (.cells 6 (qj p q ct π.ak.length wh di ((π.hand+1)%π.ak.length)) false)::eN ct π.ak::S)→Q .ret E' h')
 (hx:f.eY=true→∀E' h',Has E' [(0,.ptr r 0)]→Sat h' (pt r (.cells 6 (qj p q ct (π.ak.set π.hand { f with eY:=false }).length wh di ((π.hand+1)%π.ak.length)) false)::eN ct (π.ak.set π.hand { f with eY:=false })::S)→WP ⟨Tryz.prog,told⟩ 70 (.loop W9) E' h' Q):
  WP ⟨Tryz.prog,told⟩ 70 (.loop W9) E h Q:=by
 have hl:=(List.getElem?_eq_some_iff.1 hf).1
 refine WP.loop (WP.has hE (WP.block (zK 4 rfl (zf rfl (EG _ _) (zl rfl (s.ld (k:=0) rfl dL rfl) (zk 6 rfl (zf rfl (l8 _ _) (zl rfl (s.ld (k:=0) rfl qd rfl) (zm rfl (zo rfl (dr rfl rfl (nH (i:=π.hand) hl)) (zk 3 rfl (WP.drawn [ai,ai,ai,ai,ai,ai,ai,ai,ai,ai,ai,ai,ai,ai,ai] rfl (by kernel_rfl) (by kernel_rfl) ?_))))))))))))
 refine zM rfl (zM rfl (zN rfl (zF rfl (EG _ _) (zL rfl (s.ld (k:=0) rfl dL rfl) (zO rfl (af rfl rfl (by exact br (aC (by omega) (by omega)))) ?_)))))
 refine zM rfl (zN rfl (zF rfl (l8 _ _) (zL rfl (s.ld (k:=0) rfl qd rfl) (zO rfl (aU rfl rfl rfl (pG rfl zU)) (zO rfl (af rfl rfl (EU (a:=π.hand+1) (by omega))) ?_)))))
 refine zN rfl (zF rfl (EG _ _) (aB.i_ rfl rfl rfl (OpR.fO rfl rfl rfl (s.ey (k:=0) rfl kW rfl (by decide) rfl rfl)) ?_))
 rintro v h ⟨rfl,s⟩
 have s:Sat h (pt r (.cells 6 (qj p q ct π.ak.length wh di ((π.hand+1)%π.ak.length)) false)::eN ct π.ak::S):=s
 refine aB.nil ⟨⟨aa,aa,aa,aa,aa,aa,aa,aa,aa,aa,aa,aa,aa,aa,aa,aa⟩,?_⟩
 obtain ⟨pre,fv,post,I,hlen,s⟩:=jx (s.ae [1]) hf
 refine zw (WP.block (zK 4 rfl (zf rfl (rj _ _) (zl rfl (s.ld (k:=0) rfl dL (iY I rfl)) (zh rfl (af rfl rfl gv) (by rw [hp]; decide) ?_)))))
 refine zk 7 rfl (zf rfl (EH _ _) (zl rfl (s.ld (k:=0) rfl kX (iY I rfl)) (zk 2 rfl ?_)))
 have BH:f.eY=false∨f.eY=true:=by cases f.eY <;> simp
 rcases BH with J | J
 ·refine WP.Tc rfl (J) ?_
  refine zK 5 rfl (WP.ret (hr J _ _ rfl ?_))
  have s:=j_.2 ⟨_,s.ae [0,0]⟩
  exact (s.del 1).ae [1,0]
 ·skip
  refine WP.L9 rfl (J) (zK 3 rfl (zf rfl (EH _ _) (zS rfl (s.stM (k:=0) (j:=3) rfl uf I hlen (by simp [fE]) rfl rfl) ?_)))
  intro h s
  have e5:(fE f fv).set 3 (.bool false)=fE { f with eY:=false } fv:=rfl
  rw [e5] at s
  refine zv (WP.exit (hx J _ _ ⟨rfl,aa⟩ ?_))
  have s:=gF (i:=π.hand) (f':={ f with eY:=false }) s rfl hf I
  rw [bW]
  exact s.ae [1,0]
theorem JI {wh di:V}: ∀(fuel:Nat) (π:Pl) (h:H) (E:List (Nat×V)) (Q:Ex→List (Nat×V)→H→Prop),rz π.ak≤fuel→π.hand<π.ak.length→π.ak.length<4294967296→(∀f∈π.ak,f.pins=0) →
  Sat h (pt r (.cells 6 (qj p q ct π.ak.length wh di π.hand) false)::eN ct π.ak::S)→Has E [(0,.ptr r 0)] →
  (∀E' h' (i:Nat) (I:Pl) (f:Fm),fX π I→I.ak[i]?=some f→I.hand<I.ak.length→look E' 2=some (.int .i64 (i:Int))→Sat h' (pt r (.cells 6 (qj p q ct I.ak.length wh di I.hand) false)::eN ct I.ak::S)→Q .ret E' h') →
  WP ⟨Tryz.prog,told⟩ 70 (.loop W9) E h Q:=by
 intro fuel
 induction fuel with
 | zero =>
  intro π h E Q ht hh hm hp s hE hr
  have J:π.ak[π.hand]?=some (π.ak[π.hand]'hh):=bf _
  generalize (π.ak[π.hand]'hh)=f at J
  refine Di J hm (hp f (bC J)) s hE (fun h1 E' h' h2 s' => ?_) (fun h1 => ?_)
  ·exact hr E' h' π.hand { π with hand:=(π.hand+1)%π.ak.length } f fX.hand J (vZ _ (by omega)) h2 s'
  ·have:=BG J h1
   omega
 | succ fuel ih =>
  intro π h E Q ht hh hm hp s hE hr
  have J:π.ak[π.hand]?=some (π.ak[π.hand]'hh):=bf _
  generalize (π.ak[π.hand]'hh)=f at J
  refine Di J hm (hp f (bC J)) s hE (fun h1 E' h' h2 s' => ?_) (fun h1 E' h' jd s' => ?_)
  ·exact hr E' h' π.hand { π with hand:=(π.hand+1)%π.ak.length } f fX.hand J (vZ _ (by omega)) h2 s'
  ·have nA:=BG J h1
   have hn:fX π { π with ak:=π.ak.set π.hand { f with eY:=false },hand:=(π.hand+1)%π.ak.length }:=(fX.UN J).trans fX.hand
   refine ih { π with ak:=π.ak.set π.hand { f with eY:=false },hand:=(π.hand+1)%π.ak.length } h' E' Q (by show rz (π.ak.set π.hand { f with eY:=false })≤fuel; omega) ?_ (by simp only [bW]; exact hm) (fun g hg => ?_) s' jd (fun E2 h2 i I g TB hg TC hl s2=>hr E2 h2 i I g (hn.trans TB) hg TC hl s2)
   ·simp only [bW]; exact vZ _ (by omega)
   ·rcases lM hg with hg | rfl
    ·exact hp g hg
    ·exact hp f (bC J)
theorem Ri (hT:W told){wh di:V}(s:Sat h (pt r (.cells 6 (qj p q ct π.ak.length wh di π.hand) false)::eN ct π.ak::S))(hh:π.hand<π.ak.length)(hm:π.ak.length<4294967296)(hp:∀f∈π.ak,f.pins=0):
  Call ⟨Tryz.prog,told⟩ 122 [.ptr r 0] h fun v h'=>∃(i:Nat) (I:Pl) (f:Fm),v=.int .i64 (i:Int)∧fX π I∧I.ak[i]?=some f∧I.hand<I.ak.length ∧
   Sat h' (pt r (.cells 6 (qj p q ct I.ak.length wh di I.hand) false)::eN ct I.ak::S):=by
 have J:π.ak[0]?=some (π.ak[0]'(by omega)):=bf _
 generalize (π.ak[0]'(by omega))=f0 at J
 have s0:=s
 refine Call.of_wp (hT.free _ rfl) Tryz.func122 rfl rfl (zK 4 rfl (WP.scope (zK 5 rfl (zf rfl (l8 _ _) (zl rfl (s.ld (k:=0) rfl qd rfl) (zo rfl (aU rfl rfl rfl (pG rfl zU)) (zk 2 rfl (WP.block ?_))))))))
 refine JH π.ak.length 0 _ _ _ (by omega) hm s ⟨rfl,rfl,rfl,aa⟩ (fun E' i f hf _ h2 => ?_) (fun E' jd => ?_)
 ·exact ⟨aa,_,ue h2,i,π,f,rfl,fX.refl π,hf,hh,s⟩
 ·skip
  refine WP.has jd (zK 5 rfl (zf rfl (l8 _ _) (zl rfl (s.ld (k:=0) rfl qd rfl) (zc rfl (JG hT (s.ae [1]) J (hp f0 (bC J))) ?_))))
  rintro w h ⟨rfl,s⟩
  refine zo rfl (eD rfl rfl) (zk 4 rfl (WP.label (WP.block ?_)))
  refine JI (rz π.ak) π _ _ _ (aD _) hh hm hp (s.ae [1,0]) ⟨rfl,aa⟩ (fun E' h' i I f hn hf TC h2 s' => ?_)
  exact ⟨aa,_,ue h2,i,I,f,rfl,hn,hf,TC,s'⟩
end
end Go.Proofs.YtefepnnfphdkpaaGreat.Am
