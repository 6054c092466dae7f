/- After a crash the log has the records of the groups that are there and no others, with their numbers and data; the conditions are those of the given statement, for arguments that a machine can hold. Part 31 of 54. -/
import Derived.Test.YtconhghphklfjaaGreatL30
namespace Go.Proofs.YtconhghphklfjaaGreat.Am
open Go
def Dk.ct (δ:Dk): Int×Dk:=if δ.dead=true then (9,δ) else if δ.aJ=0 then (9,δ.die) else (0,{ δ.cO with aT:=δ.log.length })
def Dk.bF (δ:Dk)(n:Int)(b:List Nat): Int×Dk:=if δ.dead=true then (9,δ) else if ¬(0≤n∧n<δ.aj.length∧b.length=512) then (1,δ) else
 if δ.aJ=0 then (9,{ δ.die with gQ:=some (n.toNat,b) }) else (0,δ.wr n b)
def Dk.gK (δ:Dk)(b:List Nat): Int×Dk:=if δ.dead=true then (9,δ) else if δ.room<δ.log.length+b.length then (7,δ) else if δ.aJ=0 then (9,{ δ.die with tail:=b }) else (0,{ δ.cO with log:=δ.log++b })
def Dk.m4 (δ:Dk)(n:Int): Int:=if δ.dead=true then 9 else if ¬(0≤n∧n<δ.aj.length) then 1 else 0
structure Dk.Ok (δ:Dk): Prop where
 aJ:δ.aJ<4294967296
 len:δ.log.length≤16777216
 room:δ.room≤16777216
 now:∀e∈δ.now,e.2.length=512
 aj:∀(i:Nat) (b:List Nat),δ.aj[i]?=some (some b)→b.length=512
 aT:δ.aT≤δ.log.length
 many:δ.aj.length≤65536
theorem Dk.Ok.cO {δ:Dk}(h:δ.Ok): δ.cO.Ok:=⟨by have:=h.aJ; simp only [Dk.cO]; split <;> omega,h.len,h.room,h.now,h.aj,h.aT,h.many⟩
theorem Dk.Ok.die {δ:Dk}(h:δ.Ok): δ.die.Ok:=⟨h.aJ,h.len,h.room,h.now,h.aj,h.aT,h.many⟩
theorem Dk.Ok.ct {δ:Dk}(h:δ.Ok): δ.ct.2.Ok:=by
 unfold Dk.ct
 split
 ·exact h
 ·split
  ·exact h.die
  ·exact ⟨h.cO.aJ,h.len,h.room,h.now,h.aj,Nat.le_refl _,h.many⟩
theorem fc {α:Type}{n:Int}{x:α}: ∀ {l:List (Int×α)},lookL n l=some x→(n,x)∈l:=by
 intro l
 induction l with
 | nil=>intro h; cases h
 | cons e l I =>
  intro h
  simp only [lookL] at h
  by_cases he:e.1=n
  ·rw [if_pos he] at h
   have:=Option.some.inj h
   obtain ⟨a,b⟩:=e
   simp only at he this
   subst he; subst this
   exact List.mem_cons_self
  ·rw [if_neg he] at h; exact List.mem_cons_of_mem _ (I h)
theorem Dk.Ok.at {δ:Dk}(I:δ.Ok)(n:Int): (δ.at n).length=512:=by
 unfold Dk.at
 cases J:lookL n δ.now with
 | some b=>exact I.now _ (fc J)
 | none =>
  cases U:δ.aj[n.toNat]? with
  | none=>exact List.length_replicate
  | some o =>
   cases o with
   | none=>exact List.length_replicate
   | some b=>exact I.aj _ _ U
section
variable {told:Nat→Option (List V→H→Option (V×H))} {h:H} {S:List ah} {X:ah} {k q p:Nat} {v x:V} {l b:List Nat} {μ:Lg} {δ:Dk}
theorem Lq (U:W told)(s:Sat h (az p δ::S))(hf:δ.aJ<4294967296): Call ⟨Tryz.prog,told⟩ 106 [.ptr p 0] h fun v h'=>v=.int .i64 δ.ct.1∧Sat h' (az p δ.ct.2::S):=by
 refine (xO U s hf).mono fun v h' hr => ?_
 unfold Dk.ct
 rcases hr with ⟨I,rfl,s⟩ | ⟨I,J,rfl,s⟩ | ⟨I,J,rfl,s⟩
 ·rw [if_pos I]; exact ⟨rfl,s⟩
 ·rw [if_neg (by rw [I]; decide),if_pos J]; exact ⟨rfl,s⟩
 ·rw [if_neg (by rw [I]; decide),if_neg J]; exact ⟨rfl,s⟩
theorem CU (hT:W told){n:Int}(s:Sat h (az p δ::X::S))(hX:bU X (bZ x b))(hb:b.length<1073741824)(hf:δ.aJ<4294967296)(hw:δ.waiting.length≤268435456):
  Call ⟨Tryz.prog,told⟩ 108 [.ptr p 0,.int .i64 n,x] h fun v h'=>v=.int .i64 (δ.bF n b).1∧Sat h' (az p (δ.bF n b).2::X::S):=by
 refine (Gc hT s hX hb hf hw).mono fun v h' hr => ?_
 unfold Dk.bF
 rcases hr with ⟨I,rfl,s⟩ | ⟨I,J,rfl,s⟩ | ⟨I,U,h2,h3,J,rfl,s⟩ | ⟨I,U,h2,h3,J,rfl,s⟩
 ·rw [if_pos I]; exact ⟨rfl,s⟩
 ·rw [if_neg (by rw [I]; decide),if_pos J]; exact ⟨rfl,s⟩
 ·rw [if_neg (by rw [I]; decide),if_neg (by simp [U,h2,h3]),if_pos J]; exact ⟨rfl,s⟩
 ·rw [if_neg (by rw [I]; decide),if_neg (by simp [U,h2,h3]),if_neg J]; exact ⟨rfl,s⟩
theorem Gr (U:W told){n:Int}(s:Sat h (az p δ::S))(J:δ.Ok): Call ⟨Tryz.prog,told⟩ 96 [.ptr p 0,.int .i64 n] h fun v h' =>
  (δ.m4 n≠0∧v=.aW [.aH,.int .i64 (δ.m4 n)]∧Sat h' (az p δ::S))∨(δ.m4 n=0∧∃u,v=.aW [u,.int .i64 0]∧Sat h' (a_ u (δ.at n)::az p δ::S)):=by
 refine (Ir U s (J.at n)).mono fun v h' hr => ?_
 unfold Dk.m4
 rcases hr with ⟨I,rfl,s⟩ | ⟨I,h0,rfl,s⟩ | ⟨I,h1,h2,u,rfl,s⟩
 ·rw [if_pos I]; exact .inl ⟨by decide,rfl,s⟩
 ·rw [if_neg (by rw [I]; decide),if_pos h0]; exact .inl ⟨by decide,rfl,s⟩
 ·rw [if_neg (by rw [I]; decide),if_neg (by simp [h1,h2])]; exact .inr ⟨rfl,u,rfl,s⟩
end
abbrev LD := Lg×Dk
def bD (x:LD)(n:Nat): Int×LD:=if n<x.1.base+x.1.forced then (0,x) else if x.2.ct.1≠0 then (x.2.ct.1,(x.1,x.2.ct.2)) else (0,({ x.1 with forced:=x.1.b.length },x.2.ct.2))
def cK (μ:Lg)(kd:Int)(tx pv nx:Nat)(data:List Nat)(aA:List bV): List Nat:=eW (μ.base+μ.b.length) (cy kd tx pv nx data aA)
def aS (x:LD)(kd:Int)(tx pv nx:Nat)(data:List Nat)(aA:List bV): (Nat×Int)×LD :=
 if cx kd aA=false then ((0,1),x) else if 1048576<(cy kd tx pv nx data aA).length then ((0,2),x) else
 if (x.2.gK (cK x.1 kd tx pv nx data aA)).1≠0 then ((0,(x.2.gK (cK x.1 kd tx pv nx data aA)).1),(x.1,(x.2.gK (cK x.1 kd tx pv nx data aA)).2)) else
 ((x.1.base+x.1.b.length,0),(x.1.app (cK x.1 kd tx pv nx data aA),(x.2.gK (cK x.1 kd tx pv nx data aA)).2))
theorem BJ {δ:Dk}: δ.ct.2.waiting=δ.waiting:=by
 unfold Dk.ct
 split
 ·rfl
 ·split <;> rfl
theorem lB {x:LD}{n:Nat}: (bD x n).2.2.waiting=x.2.waiting:=by
 unfold bD
 split
 ·rfl
 ·split <;> exact BJ
theorem Dk.Ok.bF {δ:Dk}{n:Int}{b:List Nat}(h:δ.Ok): (δ.bF n b).2.Ok:=by
 unfold Dk.bF
 split
 ·exact h
 ·split
  ·exact h
  ·rename_i U
   split
   ·exact ⟨h.aJ,h.len,h.room,h.now,h.aj,h.aT,h.many⟩
   ·refine ⟨h.cO.aJ,h.len,h.room,fun e he => ?_,h.aj,h.aT,h.many⟩
    have J:b.length=512:=by
     by_cases q:0≤n∧n<δ.aj.length∧b.length=512
     ·exact q.2.2
     ·exact absurd q U
    have:∀l:List (Int×List Nat),(∀e∈l,e.2.length=512)→∀e∈cA n b l,e.2.length=512:=by
     intro l
     induction l with
     | nil=>intro _ e he; simp [cA] at he; subst he; exact J
     | cons x l ih =>
      intro I e he
      simp only [cA] at he
      split at he
      ·rcases List.mem_cons.1 he with rfl | he
       ·exact J
       ·exact I e (List.mem_cons_of_mem _ he)
      ·rcases List.mem_cons.1 he with rfl | he
       ·exact I _ List.mem_cons_self
       ·exact ih (fun e he=>I e (List.mem_cons_of_mem _ he)) e he
    exact this δ.now h.now e he
theorem m5 {x:LD}{n:Nat}(h:x.2.Ok): (bD x n).2.2.Ok:=by
 unfold bD
 split
 ·exact h
 ·split
  ·exact h.ct
  ·exact h.ct
theorem Lg.Ok.Lr {μ:Lg}(h:μ.Ok): ({ μ with forced:=μ.b.length }:Lg).Ok:=⟨h.size,h.many,h.low,h.wW,Nat.le_refl _,h.len,h.check⟩
theorem tS {x:LD}{n:Nat}(h:x.1.Ok): (bD x n).2.1.Ok:=by
 unfold bD
 split
 ·exact h
 ·split
  ·exact h
  ·exact h.Lr
section
variable {told:Nat→Option (List V→H→Option (V×H))} {h:H} {S:List ah} {X:ah} {k q p:Nat} {v x:V} {l b:List Nat} {μ:Lg} {δ:Dk}
theorem Ls (hT:W told){n:Nat}(s:Sat h (bj q p μ::az p δ::S))(U:μ.Ok)(hf:δ.aJ<4294967296): Call ⟨Tryz.prog,told⟩ 68 [.ptr q 0,.int .u64 (n:Int)] h fun v h' =>
  v=.int .i64 (bD (μ,δ) n).1∧Sat h' (bj q p (bD (μ,δ) n).2.1::az p (bD (μ,δ) n).2.2::S):=by
 refine (Gk hT s U hf).mono fun v h' hr => ?_
 unfold bD Dk.ct
 rcases hr with ⟨I,rfl,s⟩ | ⟨I,J,rfl,s⟩ | ⟨I,J,h0,rfl,s⟩ | ⟨I,J,h0,rfl,s⟩
 ·rw [if_pos I]; exact ⟨rfl,s⟩
 ·simp only [if_neg (Nat.not_lt.2 I),if_pos J,ne_eq,if_pos (by decide:¬ ((9:Int)=0))]; exact ⟨trivial,s⟩
 ·simp only [if_neg (Nat.not_lt.2 I),if_neg (by rw [J]; decide:¬ δ.dead=true),if_pos h0,ne_eq,if_pos (by decide:¬ ((9:Int)=0))]; exact ⟨trivial,s⟩
 ·simp only [if_neg (Nat.not_lt.2 I),if_neg (by rw [J]; decide:¬ δ.dead=true),if_neg h0,ne_eq,not_true,if_false]; exact ⟨trivial,s⟩
theorem IA (hT:W told){kd:Int}{tx pv nx:Nat}{dt ch:V}{cs:List V}{data:List Nat}{aA:List bV}(s:Sat h (bj q p μ::az p δ::X::.arr 4 ch cs::bP cs aA::S))(hX:bU X (bZ dt data))(gV:vI tx pv nx data aA)(tq:μ.Ok)(qO:δ.Ok):
  Call ⟨Tryz.prog,told⟩ 48 [.ptr q 0,.agg (eC kd tx pv nx dt ch)] h fun r h' =>
  r=.aW [.int .u64 ((aS (μ,δ) kd tx pv nx data aA).1.1:Nat),.int .i64 (aS (μ,δ) kd tx pv nx data aA).1.2] ∧
  Sat h' (bj q p (aS (μ,δ) kd tx pv nx data aA).2.1::az p (aS (μ,δ) kd tx pv nx data aA).2.2::X::.arr 4 ch cs::bP cs aA::S):=by
 refine (D_ hT s hX gV tq qO.aJ qO.len qO.room).mono fun v h' hr => ?_
 unfold aS Dk.gK cK
 rcases hr with ⟨e,rfl,(⟨J,rfl⟩ | ⟨J,U,rfl⟩ | ⟨J,U,hd,rfl⟩ | ⟨J,U,hd,Ki,rfl⟩),s⟩ | ⟨J,U,hd,I,h0,rfl,s⟩ | ⟨J,U,hd,I,h0,rfl,s⟩
 ·rw [if_pos J]; exact ⟨rfl,s⟩
 ·rw [if_neg (by rw [J]; decide),if_pos U]; exact ⟨rfl,s⟩
 ·simp only [if_neg (by rw [J]; decide:¬ cx kd aA=false),if_neg (Nat.not_lt.2 U),if_pos hd,ne_eq,if_pos (by decide:¬ ((9:Int)=0))]; exact ⟨rfl,s⟩
 ·simp only [if_neg (by rw [J]; decide:¬ cx kd aA=false),if_neg (Nat.not_lt.2 U),if_neg (by rw [hd]; decide:¬ δ.dead=true),if_pos Ki,ne_eq,if_pos (by decide:¬ ((7:Int)=0))]; exact ⟨rfl,s⟩
 ·simp only [if_neg (by rw [J]; decide:¬ cx kd aA=false),if_neg (Nat.not_lt.2 U),if_neg (by rw [hd]; decide:¬ δ.dead=true),if_neg (Nat.not_lt.2 I),if_pos h0,ne_eq,if_pos (by decide:¬ ((9:Int)=0))]; exact ⟨rfl,s⟩
 ·simp only [if_neg (by rw [J]; decide:¬ cx kd aA=false),if_neg (Nat.not_lt.2 U),if_neg (by rw [hd]; decide:¬ δ.dead=true),if_neg (Nat.not_lt.2 I),if_neg h0,ne_eq,not_true,if_false]; exact ⟨trivial,s⟩
end
end Go.Proofs.YtconhghphklfjaaGreat.Am
namespace Go.Proofs.YtconhghphklfjaaGreat.Am
open Go
structure Fm where
 aO:Int
 b:List Nat
 pins:Int
 dn:Bool
 changed:Bool
structure Pl where
 ag:List Fm
 aZ:List (Int×Int)
 cC:List (Int×(Nat×Bool))
 hand:Nat
def dr (f:Fm)(v:V): List V:=[.int .i64 f.aO,v,.int .i64 f.pins,.bool f.dn,.bool f.changed]
def nZ : List V→List Fm→ah
 | [],[]=>.pu True
 | a::v::c::d::e::l,x::m=>.an (.an (.pu (a=.int .i64 x.aO∧c=.int .i64 x.pins∧d=.bool x.dn∧e=.bool x.changed)) (.bp v x.b)) (nZ l m)
 | _,_=>.pu False
theorem aq.fm : ∀(m:List Fm) (l:List V),aq (nZ l m):=by
 intro m
 induction m with
 | nil=>intro l; rcases l with _ | ⟨a,_ | ⟨b,_ | ⟨c,_ | ⟨d,_ | ⟨e,l⟩⟩⟩⟩⟩ <;> exact aq.pu _
 | cons x m I=>intro l; rcases l with _ | ⟨a,_ | ⟨b,_ | ⟨c,_ | ⟨d,_ | ⟨e,l⟩⟩⟩⟩⟩ <;> first | exact aq.pu _ | exact aq.an (aq.an (aq.pu _) (aq.bp _ _)) (I l)
theorem rW {a b:PM}: ∀ {m:List Fm} {l:List V} {i:Nat} {f:Fm},(nZ l m).p a b→m[i]?=some f→∃pre v post,l=pre++(dr f v++post)∧pre.length=i*5∧(ah.bp v f.b).p a b ∧
  (∀(f':Fm) (v':V) (I J:PM),(ah.bp v' f'.b).p I J→PM.le a I→PM.le b J→(nZ (pre++(dr f' v'++post)) (m.set i f')).p I J):=by
 intro m
 induction m with
 | nil=>intro l i f h U; simp at U
 | cons x m ih =>
  intro l i f h U
  rcases l with _ | ⟨p,_ | ⟨q,_ | ⟨w,_ | ⟨d,_ | ⟨e,l⟩⟩⟩⟩⟩ <;> first | exact h.elim | skip
  obtain ⟨⟨⟨h1,h2,h3,h4⟩,h5⟩,h6⟩:=h
  cases i with
  | zero =>
   simp at U
   subst U
   refine ⟨[],q,l,?_,rfl,h5,fun f' v' I J hv ha hb=>⟨⟨⟨rfl,rfl,rfl,rfl⟩,hv⟩,(nZ l m).mono _ _ _ _ ha hb h6⟩⟩
   rw [h1,h2,h3,h4]; rfl
  | succ i =>
   simp at U
   obtain ⟨pre,v,post,e1,e2,e3,e4⟩:=ih h6 U
   refine ⟨p::q::w::d::e::pre,v,post,?_,?_,e3,fun f' v' I J hv ha hb=>⟨⟨⟨h1,h2,h3,h4⟩,ah.mono _ _ _ _ _ ha hb h5⟩,e4 f' v' I J hv ha hb⟩⟩
   ·rw [e1]; rfl
   ·simp only [List.length_cons,e2]; omega
theorem Lt {a b:PM}: ∀ {m:List Fm} {l:List V},(nZ l m).p a b→l.length=m.length*5:=by
 intro m
 induction m with
 | nil=>intro l h; rcases l with _ | ⟨a,_ | ⟨b,_ | ⟨c,_ | ⟨d,_ | ⟨e,l⟩⟩⟩⟩⟩ <;> first | rfl | exact h.elim
 | cons x m I =>
  intro l h
  rcases l with _ | ⟨a,_ | ⟨b,_ | ⟨c,_ | ⟨d,_ | ⟨e,l⟩⟩⟩⟩⟩ <;> first | exact h.elim | skip
  have:=I h.2
  simp only [List.length_cons]
  omega
def cQ (bw:Nat)(m:List Fm): ah:=xs fun cs:List V=>star [pt bw (.cells (m.length*5) cs false),nZ cs m]
abbrev Ay (v:V)(m:List (Int×Int)): ah:=fE (fun v x=>.pu (v=.int .i64 x)) v m
abbrev CV (v:V)(m:List (Int×(Nat×Bool))): ah:=fE (fun v x=>.pu (v=.agg [.int .u64 (x.1:Int),.bool x.2])) v m
def lC (p q bw n:Nat)(wh di:V)(hand:Nat): List V:=[.ptr p 0,.ptr q 0,.sl bw 0 n (.exact n),wh,di,.int .i64 (hand:Int)]
def cB (r p q:Nat)(π:Pl): ah:=xs fun bw:Nat=>xs fun wh:V=>xs fun di:V =>
 star [pt r (.cells 6 (lC p q bw π.ag.length wh di π.hand) false),cQ bw π.ag,Ay wh π.aZ,CV di π.cC]
section
variable {P:Program} {h:H} {S:List ah} {X:ah} {r q p bw:Nat} {v:V} {π:Pl} {m:List Fm}
theorem dD : Sat h (cB r p q π::S)↔∃bw wh di,Sat h (pt r (.cells 6 (lC p q bw π.ag.length wh di π.hand) false)::cQ bw π.ag::Ay wh π.aZ::CV di π.cC::S):=by
 simp only [cB,eA,cG,List.cons_append,List.nil_append]
theorem gD : Sat h (cQ bw m::S)↔∃cs,Sat h (pt bw (.cells (m.length*5) cs false)::nZ cs m::S):=by
 simp only [cQ,eA,cG,List.cons_append,List.nil_append]
theorem fT {i:Nat}{f:Fm}(s:Sat h (cQ bw m::S))(hf:m[i]?=some f): ∃pre v post,pre.length=i*5∧(pre++(dr f v++post)).length=m.length*5 ∧
  Sat h (pt bw (.cells (m.length*5) (pre++(dr f v++post)) false)::nZ (pre++(dr f v++post)) m::.bp v f.b::S):=by
 obtain ⟨cs,s⟩:=gD.1 s
 obtain ⟨a,b,q1,q2,q3⟩:=s.at (k:=1) rfl
 obtain ⟨pre,v,post,e1,e2,e3,_⟩:=rW q3 hf
 have hl:=Lt q3
 subst e1
 refine ⟨pre,v,post,e2,hl,?_⟩
 have s1:Sat h (nZ (pre++(dr f v++post)) m::pt bw (.cells (m.length*5) (pre++(dr f v++post)) false)::S):=s.aa [1]
 have s2:=(s1.dup (aq.fm _ _)).dY (B:=.bp v f.b) fun a' b' h'=>by
  obtain ⟨RW,v',I,J,pE,U,_⟩:=rW h' hf
  have:=List.append_inj J (by omega)
  obtain ⟨_,h5⟩:=this
  have h6:=congrArg (fun l=>l[1]?) h5
  simp [dr] at h6
  subst h6
  exact U
 exact s2.aa [2,1,0]
theorem eo {i:Nat}{f f':Fm}{v':V}{pre post:List V}{n:Nat}(s:Sat h (pt bw (.cells n (pre++(dr f' v'++post)) false)::nZ (pre++(dr f v++post)) m::.bp v' f'.b::S))(hn:n=m.length*5)(hf:m[i]?=some f)(hp:pre.length=i*5): Sat h (cQ bw (m.set i f')::S):=by
 subst hn
 have s1:Sat h (nZ (pre++(dr f v++post)) m::.bp v' f'.b::pt bw (.cells (m.length*5) (pre++(dr f' v'++post)) false)::S):=s.aa [1,1,0]
 have s2:=s1.two (C:=nZ (pre++(dr f' v'++post)) (m.set i f')) (aq.fm _ _) (aq.bp _ _) fun a b h1 h2=>by
  obtain ⟨RW,v0,I,J,pE,V7,U⟩:=rW h1 hf
  obtain ⟨h3,h4⟩:=List.append_inj J (by omega)
  subst h3
  have h5:post=I:=by
   have:=List.append_inj h4 (by simp [dr])
   exact this.2
  subst h5
  exact U f' v' a b h2 (PM.le_refl _) (PM.le_refl _)
 refine gD.2 ⟨pre++(dr f' v'++post),?_⟩
 rw [List.length_set]
 exact s2.aa [1]
theorem fD {pre row post:List V}{a j:Nat}{x:V}(U:pre.length=a)(I:nth row j=some x): nth (pre++(row++post)) (a+j)=some x:=by
 rw [dG] at I ⊢
 have J:=(List.getElem?_eq_some_iff.1 I).1
 rw [List.getElem?_append_right (by omega),show a+j-pre.length=j by omega,List.getElem?_append_left J,I]
theorem Lu {pre row post:List V}{a j:Nat}{x:V}(J:pre.length=a)(I:j<row.length): (pre++(row++post)).set (a+j) x=pre++(row.set j x++post):=by
 rw [List.set_append_right _ _ (by omega),show a+j-pre.length=j by omega,List.set_append_left _ _ I]
theorem Sat.stM {t:TypeId}{k id n a j:Nat}{pre row post:List V}{x:V}(s:Sat h S)(U:getA S k=some (pt id (.cells n (pre++(row++post)) false)))(hs:aY P t=some 1)(hp:pre.length=a)(J:(pre++(row++post)).length=n)(hj:j<row.length)(hv:x.cells=[x])(I:storable x=true):
  ∃h₁,fl P h t (.ptr id (a+j)) x=some h₁∧Sat h₁ (setA S k (pt id (.cells n (pre++(row.set j x++post)) false))):=by
 have:=s.cZ (P:=P) (t:=t) (off:=a+j) (v:=x) U hs J (by rw [←J]; simp; omega) hv I
 rwa [Lu hp hj] at this
theorem Sat.Kj {t:TypeId}{k id n a:Nat}{pre row row' post:List V}(s:Sat h S)(U:getA S k=some (pt id (.cells n (pre++(row++post)) false)))(hs:aY P t=some row'.length)(hp:pre.length=a)(J:(pre++(row++post)).length=n)(hr:row'.length=row.length)(I:row'.all storable=true):
  ∃h₁,fl P h t (.ptr id a) (.agg row')=some h₁∧Sat h₁ (setA S k (pt id (.cells n (pre++(row'++post)) false))):=by
 have:=s.Th (P:=P) (t:=t) (off:=a) (l:=row') U hs J (by rw [←J]; simp; omega) I
 have e:(pre++(row++post)).take a++(row'++(pre++(row++post)).drop (a+row'.length))=pre++(row'++post):=by
  rw [List.take_left' hp,List.drop_append,List.drop_eq_nil_of_le (by omega),List.nil_append,show a+row'.length-pre.length=row.length by omega,List.drop_left' rfl]
 rwa [e] at this
theorem TD {t:TypeId}{k id n a:Nat}{pre row post:List V}(s:Sat h S)(J:getA S k=some (pt id (.cells n (pre++(row++post)) false)))(U:bx P t=some true)(hs:aY P t=some row.length)(hp:pre.length=a)(I:(pre++(row++post)).length=n): loadV P h t (.ptr id a)=some (.agg row):=by
 rw [J9 U hs (s.row J) I (by rw [←I]; simp; omega),List.drop_left' hp,List.take_left' rfl]
end
abbrev aM := Pl×LD
def nr (π:Pl)(n:Int): Nat:=match lookL n π.cC with
 | some x=>x.1
 | none=>0
def outF (ε:aM)(i:Nat): Int×aM:=match ε.1.ag[i]? with
 | none=>(0,ε)
 | some f=>if f.aO<0∨f.changed=false then (0,ε) else if bu f.b=false then (4,ε) else
  if (bD ε.2 (dm f.b 4 8)).1≠0 then ((bD ε.2 (dm f.b 4 8)).1,(ε.1,(bD ε.2 (dm f.b 4 8)).2)) else
  if ((bD ε.2 (dm f.b 4 8)).2.2.bF f.aO f.b).1≠0 then (((bD ε.2 (dm f.b 4 8)).2.2.bF f.aO f.b).1,(ε.1,((bD ε.2 (dm f.b 4 8)).2.1,((bD ε.2 (dm f.b 4 8)).2.2.bF f.aO f.b).2))) else
  (0,({ ε.1 with ag:=ε.1.ag.set i { f with changed:=false },cC:=cA f.aO (nr ε.1 f.aO,false) ε.1.cC },((bD ε.2 (dm f.b 4 8)).2.1,((bD ε.2 (dm f.b 4 8)).2.2.bF f.aO f.b).2)))
section
variable {told:Nat→Option (List V→H→Option (V×H))} {h:H} {S:List ah} {X:ah} {r k q p bw:Nat} {v x wh di:V} {l b:List Nat} {π:Pl} {μ:Lg} {δ:Dk}
theorem Nz (hT:W told){i:Nat}{f:Fm}(s:Sat h (pt r (.cells 6 (lC p q bw π.ag.length wh di π.hand) false)::cQ bw π.ag::Ay wh π.aZ::CV di π.cC::bj q p μ::az p δ::S))(hi:π.ag[i]?=some f)(tq:μ.Ok)(qO:δ.Ok)(Qv:f.b.length<1073741824)(hw:δ.waiting.length≤268435456):
  Call ⟨Tryz.prog,told⟩ 95 [.ptr r 0,.ptr bw (i*5)] h fun v h'=>v=.int .i64 (outF (π,μ,δ) i).1 ∧
   Sat h' (pt r (.cells 6 (lC p q bw (outF (π,μ,δ) i).2.1.ag.length wh di (outF (π,μ,δ) i).2.1.hand) false)::cQ bw (outF (π,μ,δ) i).2.1.ag::Ay wh (outF (π,μ,δ) i).2.1.aZ::CV di (outF (π,μ,δ) i).2.1.cC::bj q p (outF (π,μ,δ) i).2.2.1::az p (outF (π,μ,δ) i).2.2.2::S):=by
 have Qw:=s
 obtain ⟨pre,fv,post,I,hlen,s⟩:=fT (s.aa [1]) hi
 dsimp only [bringA,getA,ai] at s
 have V8:=(s.ax (k:=2) rfl (bN _ _))
 refine Call.of_wp (hT.free _ rfl) Tryz.func95 rfl rfl (zg rfl (za rfl (zv (zw (zg rfl (zm rfl (zn rfl (zf rfl (kD _ _) (zl rfl (s.ld (k:=0) rfl cq (fD I rfl)) ?_)))))))))
 refine ae.dh rfl rfl rfl (af rfl rfl aX) ?_ ?_
 ·intro hq
  have hq:f.aO<0:=by simpa using hq
  have he:outF (π,μ,δ) i=(0,(π,μ,δ)):=by simp only [outF,hi]; rw [if_pos (.inl hq)]
  rw [he]
  refine zm rfl (zx rfl (zx rfl (zx rfl (zx rfl (zx rfl (zq rfl (zv (zi rfl (zg rfl (za rfl (zv ?_)))))))))))
  refine WP.ret ⟨trivial,_,rfl,?_⟩
  exact ⟨rfl,Qw⟩
 ·intro hq
  have hq:¬ f.aO<0:=by simpa using hq
  refine zm rfl (zm rfl (zn rfl (zf rfl (wT _ _) (zl rfl (s.ld (k:=0) rfl gU (fD I rfl)) ?_))))
  have Ac:f.changed=false∨f.changed=true:=by cases f.changed <;> simp
  rcases Ac with hc | hc
  ·have he:outF (π,μ,δ) i=(0,(π,μ,δ)):=by simp only [outF,hi]; rw [if_pos (.inr hc)]
   rw [he]
   refine ae.aR rfl rfl rfl (dA rfl rfl) (by rw [hc]; rfl) ?_
   refine zp rfl (zv (zi rfl (zg rfl (za rfl (zv ?_)))))
   refine WP.ret ⟨trivial,_,rfl,?_⟩
   exact ⟨rfl,Qw⟩
  ·have he:outF (π,μ,δ) i=(if bu f.b=false then (4,(π,μ,δ)) else
    if (bD (μ,δ) (dm f.b 4 8)).1≠0 then ((bD (μ,δ) (dm f.b 4 8)).1,(π,(bD (μ,δ) (dm f.b 4 8)).2)) else
    if ((bD (μ,δ) (dm f.b 4 8)).2.2.bF f.aO f.b).1≠0 then (((bD (μ,δ) (dm f.b 4 8)).2.2.bF f.aO f.b).1,(π,((bD (μ,δ) (dm f.b 4 8)).2.1,((bD (μ,δ) (dm f.b 4 8)).2.2.bF f.aO f.b).2))) else
    (0,({ π with ag:=π.ag.set i { f with changed:=false },cC:=cA f.aO (nr π f.aO,false) π.cC },((bD (μ,δ) (dm f.b 4 8)).2.1,((bD (μ,δ) (dm f.b 4 8)).2.2.bF f.aO f.b).2)))):=by
    simp only [outF,hi]; rw [if_neg (by rw [hc]; simp; omega)]
   rw [he]
   refine ae.aE rfl rfl rfl (dA rfl rfl) (by rw [hc]; rfl) ?_
   refine zp rfl (zv (zj rfl (WP.skip (zg rfl (zm rfl (zn rfl (zf rfl (sQ _ _) (zl rfl (s.ld (k:=0) rfl bg (fD I rfl)) (ae.call rfl rfl rfl rfl rfl rfl rfl (Lo hT (s.aa [2]) (bN _ _) (by omega)) ?_)))))))))
   rintro w h ⟨s,(⟨hg,rfl⟩ | ⟨hg,rfl⟩)⟩
   ·dsimp only [bringA,getA,ai] at s
    rw [if_neg (by rw [hg]; decide)]
    have IB:(bD (μ,δ) (dm f.b 4 8)).2.2.Ok:=m5 qO
    have NA:(bD (μ,δ) (dm f.b 4 8)).2.2.waiting.length≤268435456:=by rw [lB]; exact hw
    have J:=Ls (n:=dm f.b 4 8) hT (s.aa [6,6]) tq qO.aJ
    generalize bD (μ,δ) (dm f.b 4 8)=x at J IB NA ⊢
    obtain ⟨xe,xl,xd⟩:=x
    dsimp only at J IB NA ⊢
    refine zm rfl (ze rfl (ze rfl (ze rfl (ze rfl (ze rfl (za rfl (za rfl (za rfl (za rfl (za rfl (zv (zw (zg rfl (zm rfl (ae.aE rfl rfl rfl (af rfl rfl aN) (rfl) (zv (zj rfl (WP.skip (zw (zg rfl (zm rfl (zn rfl ?_))))))))))))))))))))))
    refine zf rfl (K8 _ _) (zl rfl (by exact s.ld (k:=3) rfl wL rfl) ?_)
    refine zm rfl (ae.call rfl rfl rfl rfl rfl rfl rfl (J) ?_)
    rintro w h ⟨rfl,s⟩
    dsimp only [bringA,getA,ai] at s
    refine za rfl (zv (zg rfl (zm rfl ?_)))
    by_cases hx:xe=0
    ·subst hx
     rw [if_neg (by decide)]
     refine ae.aE rfl rfl rfl (af rfl rfl aN) (rfl) ?_
     have F0:=fun (s:Sat h (az p xd::.bp fv f.b::bj q p xl::pt bw (.cells (π.ag.length*5) (pre++(dr f fv++post)) false)::nZ (pre++(dr f fv++post)) π.ag::pt r (.cells 6 (lC p q bw π.ag.length wh di π.hand) false)::Ay wh π.aZ::CV di π.cC::S))=>CU (n:=f.aO) hT s (bN fv f.b) Qv IB.aJ NA
     generalize xd.bF f.aO f.b=y at F0 ⊢
     obtain ⟨ye,yd⟩:=y
     dsimp only at F0 ⊢
     have s:=s.aa [1,1,0]
     dsimp only [bringA,getA,ai] at s
     refine zv (zj rfl (WP.skip (zw (zw (WP.drawn [none,none,none,none,none,none,none,none,none,none,none,none,none,none] rfl (by kernel_rfl) (by kernel_rfl) ?_)))))
     refine zM rfl (zN rfl (zF rfl (sN _ _) (zL rfl (s.ld (k:=5) rfl mF rfl) (zM rfl (zN rfl (zF rfl (kD _ _) (zL rfl (s.ld (k:=3) rfl cq (fD I rfl)) (zM rfl (zN rfl (zF rfl (sQ _ _) (zL rfl (s.ld (k:=3) rfl bg (fD I rfl)) (au.any rfl rfl rfl rfl (OpR.call rfl rfl rfl rfl (F0 s)) ?_))))))))))))
     rintro w h ⟨rfl,s⟩
     refine zA rfl ?_
     refine au.nil ⟨⟨trivial,trivial,trivial,trivial,trivial,trivial,trivial,trivial,trivial,trivial,trivial,trivial,trivial,trivial,trivial⟩,?_⟩
     refine zg rfl (zm rfl ?_)
     by_cases hy:ye=0
     ·subst hy
      rw [if_neg (by decide)]
      refine ae.aE rfl rfl rfl (af rfl rfl aN) (rfl) (zv (zj rfl (WP.skip (zg rfl (zm rfl (zn rfl (zf rfl (wT _ _) (ae.bn rfl rfl rfl rfl rfl (s.stM (k:=3) (j:=4) rfl qK I hlen (by simp [dr]) rfl rfl) ?_))))))))
      intro h s
      dsimp only [setA] at s
      have e5:(dr f fv).set 4 (.bool false)=dr { f with changed:=false } fv:=rfl
      rw [e5] at s
      have s:=s.aa [7,3,4]
      dsimp only [bringA,getA,ai] at s
      refine zv (zw (WP.drawn [none,none,none,none,none,none,none,none,none,none,none,none,none,none,none,none,none,none,none,none] rfl (by kernel_rfl) (by kernel_rfl) ?_))
      refine zM rfl (zN rfl (zF rfl (nk _ _) (zL rfl (s.ld (k:=2) rfl sM rfl) (zM rfl (zN rfl (zF rfl (kD _ _) (zL rfl (s.ld (k:=1) rfl cq (fD I rfl)) (zM rfl (zN rfl (zF rfl (nk _ _) (zL rfl (s.ld (k:=2) rfl sM rfl) (zM rfl (zN rfl (zF rfl (kD _ _) (zL rfl (s.ld (k:=1) rfl cq (fD I rfl)) ?_)))))))))))))))
      have U:∃b,cV Tryz.prog h 138 di (.int .i64 f.aO) false=some (.agg [.int .u64 (nr π f.aO:Nat),.bool b]):=by
       rcases iL (f:=fun v (x:Nat×Bool)=>.pu (v=.agg [.int .u64 (x.1:Int),.bool x.2])) (n:=f.aO) (fun _ _=>aq.pu _) s Tryz.underlying138 Tryz.underlying3 sP with ⟨g1,_,g3⟩ | ⟨u,x,g1,_,g3,s'⟩
       ·exact ⟨false,by rw [g3]; simp only [nr,g1]; rfl⟩
       ·obtain ⟨rfl,_⟩:=cL.1 s'
        exact ⟨x.2,by rw [g3]; simp only [nr,g1]⟩
      obtain ⟨lb,U⟩:=U
      refine zO rfl (fo rfl rfl U) (zO rfl (ON rfl (OP (K9 _) rfl)) (zO rfl (bW rfl (by rw [OY]; rfl)) ?_))
      refine au.fI rfl rfl rfl (OpR.mapUpdate rfl rfl rfl rfl (kj (f:=fun v (x:Nat×Bool)=>.pu (v=.agg [.int .u64 (x.1:Int),.bool x.2])) (x:=(nr π f.aO,false)) (fun _ _=>aq.pu _) (s.eu rfl) Tryz.underlying138 Tryz.underlying3)) ?_
      intro w h s
      refine au.nil ⟨⟨trivial,trivial,trivial,trivial,trivial,trivial,trivial,trivial,trivial,trivial,trivial,trivial,trivial,trivial,trivial,trivial,trivial,trivial,trivial,trivial,trivial⟩,?_⟩
      refine zg rfl (za rfl (zv ?_))
      refine WP.ret ⟨trivial,_,rfl,?_⟩
      refine ⟨rfl,?_⟩
      have s:=eo (i:=i) (f':={ f with changed:=false }) (s.aa [1,5,3]) rfl hi I
      dsimp only [bringA,getA,ai] at s
      have e6:(π.ag.set i { f with changed:=false }).length=π.ag.length:=List.length_set
      rw [e6]
      exact s.aa [2,0,3,0,1,0]
     ·rw [if_pos hy]
      refine ae.aR rfl rfl rfl (af rfl rfl aN) (by simp; exact hy) ?_
      refine zv (zi rfl (zg rfl (zm rfl (za rfl (zv ?_)))))
      refine WP.ret ⟨trivial,_,rfl,?_⟩
      refine ⟨rfl,?_⟩
      have s:=gD.2 ⟨_,s.aa [3,3]⟩
      dsimp only [bringA,getA,ai] at s
      exact (s.del 2).aa [3,0,2,2,1,0]
    ·rw [if_pos hx]
     refine ae.aR rfl rfl rfl (af rfl rfl aN) (by simp; exact hx) ?_
     refine zv (zi rfl (zg rfl (zm rfl (za rfl (zv ?_)))))
     refine WP.ret ⟨trivial,_,rfl,?_⟩
     refine ⟨rfl,?_⟩
     have s:=gD.2 ⟨_,s.aa [3,3]⟩
     dsimp only [bringA,getA,ai] at s
     exact (s.del 3).aa [3,0,2,2,0,0]
   ·dsimp only [bringA,getA,ai] at s
    rw [if_pos hg]
    refine zm rfl (ze rfl (ze rfl (ze rfl (ze rfl (ze rfl (za rfl (za rfl (za rfl (za rfl (za rfl (zv (zw (zg rfl (zm rfl (ae.aR rfl rfl rfl (af rfl rfl aN) (rfl) (zv (zi rfl (zg rfl (zm rfl (za rfl (zv ?_)))))))))))))))))))))
    refine WP.ret ⟨trivial,_,rfl,?_⟩
    refine ⟨rfl,?_⟩
    have s:=gD.2 ⟨_,s.aa [1,1]⟩
    dsimp only [bringA,getA,ai] at s
    exact (s.del 1).aa [1,0]
end
end Go.Proofs.YtconhghphklfjaaGreat.Am
