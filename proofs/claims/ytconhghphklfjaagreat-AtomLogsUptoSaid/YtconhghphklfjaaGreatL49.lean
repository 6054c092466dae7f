/- After a crash the log has the records of the groups that are there and no others, with their numbers and data; the conditions are those of the given statement, for arguments that a machine can hold. Part 49 of 54. -/
import Derived.Test.YtconhghphklfjaaGreatL48
namespace Go.Proofs.YtconhghphklfjaaGreat.Am
open Go
def bornE (n:Int)(c:Nat): bJ→Nat
 | []=>c
 | e::l=>if e.1=n then e.2.2 else bornE n c l
def jR (n:Int)(z:V)(c:Nat): bJ→bJ
 | []=>[(n,z,c)]
 | e::l=>if e.1=n then e::l else e::jR n z c l
theorem Jj {n:Int}{c:Nat}: ∀ {l:bJ} {b:Nat},b≤c→dZ c b l→b≤bornE n c l:=by
 intro l
 induction l with
 | nil=>intro b h _; exact h
 | cons e l J =>
  intro b h I
  simp only [bornE]
  by_cases he:e.1=n
  ·rw [if_pos he]; exact I.1
  ·rw [if_neg he]
   have:=J (b:=e.2.2+1) I.2.1 I.2.2
   have:=I.1
   omega
theorem C8 {n:Int}{z:V}{c:Nat}: ∀ {l:bJ},lookE n l=none→jR n z c l=l++[(n,z,c)]∧bornE n c l=c:=by
 intro l
 induction l with
 | nil=>intro _; exact ⟨rfl,rfl⟩
 | cons e l I =>
  intro h
  simp only [lookE] at h
  by_cases he:e.1=n
  ·rw [if_pos he] at h; cases h
  ·rw [if_neg he] at h
   have g:=I h
   exact ⟨by simp only [jR,if_neg he,g.1,List.cons_append],by simp only [bornE,if_neg he,g.2]⟩
theorem L2 {n:Int}{z u:V}{c:Nat}: ∀ {l:bJ},lookE n l=some u→jR n z c l=l:=by
 intro l
 induction l with
 | nil=>intro h; cases h
 | cons e l I =>
  intro h
  simp only [lookE] at h
  by_cases he:e.1=n
  ·simp only [jR,if_pos he]
  ·rw [if_neg he] at h
   simp only [jR,if_neg he,I h]
theorem G8 {n:Int}{c:Nat}: ∀ {l:bJ} {i j:Nat} {u:V},idxE n l i=some (j,u)→i≤j∧nth (l.map eB) (j-i)=some (.int .i64 n,u,bornE n c l):=by
 intro l
 induction l with
 | nil=>intro i j u h; cases h
 | cons e l I =>
  intro i j u h
  simp only [idxE] at h
  by_cases he:e.1=n
  ·rw [if_pos he] at h
   injection h with h; injection h with J U
   subst J; subst U
   refine ⟨Nat.le_refl _,?_⟩
   simp only [bornE,if_pos he,Nat.sub_self,List.map_cons,nth,eB,he]
   rfl
  ·rw [if_neg he] at h
   obtain ⟨g1,g2⟩:=I h
   refine ⟨by omega,?_⟩
   simp only [bornE,if_neg he,List.map_cons]
   rw [show j-i=(j-(i+1))+1 by omega]
   simpa [dG] using g2
theorem L3 {n:Int}{z v:V}{c:Nat}: ∀ {l:bJ} {b i:Nat},b≤c→dZ c b l→∃j,findBorn ((jR n z c l).map eB) (bornE n c l:Int) i=some (i+j)∧setNth ((jR n z c l).map eB) j (fun e=>(e.1,v,e.2.2))=(fX n v c l).map eB:=by
 intro l
 induction l with
 | nil =>
  intro b i h _
  refine ⟨0,?_,rfl⟩
  simp only [jR,bornE,List.map_cons,List.map_nil,eB,findBorn,ie,cond_true,Nat.add_zero]
 | cons e l J =>
  intro b i h I
  by_cases he:e.1=n
  ·refine ⟨0,?_,?_⟩
   ·simp only [jR,bornE,if_pos he,List.map_cons,eB,findBorn,ie,cond_true,Nat.add_zero]
   ·simp only [jR,fX,if_pos he,List.map_cons]
    rfl
  ·obtain ⟨j,U,g2⟩:=J (b:=e.2.2+1) (i:=i+1) I.2.1 I.2.2
   have P5:=Jj (n:=n) (b:=e.2.2+1) I.2.1 I.2.2
   refine ⟨j+1,?_,?_⟩
   ·simp only [jR,bornE,if_neg he,List.map_cons,findBorn]
    have:intBeq (((eB e).2.2:Nat):Int) (bornE n c l:Int)=false:=by rw [jH]; exact decide_eq_false (by show ¬((e.2.2:Nat):Int)=_; omega)
    rw [this,cond_false,U]
    congr 1; omega
   ·simp only [jR,fX,if_neg he,List.map_cons,setNth]
    rw [show Nat.beq (j+1) 0=false from rfl,cond_false,Nat.add_sub_cancel,g2]
section
variable {P:Program} {h h':H} {S:List ah} {v z:V} {t kt et:TypeId} {k:IntKind} {id c j:Nat} {l:bJ} {n:Int}
theorem G9 : ∀ {S:List ah} {j:Nat} {A:ah},getA S j=some A→setA S j A=S:=by
 intro S
 induction S with
 | nil=>intro j A h; cases h
 | cons B S I =>
  intro j A h
  cases j with
  | zero=>simp only [getA] at h; injection h with h; subst h; rfl
  | succ j=>simp only [getA] at h; simp only [setA,I h]
theorem Sat.entry (s:Sat h S)(J:getA S j=some (ej id l c))(hu:P.underlying t=some (.map kt et))(hk:P.underlying kt=some (.int k))(hz:zeroT P et=some z):
  ∃w h',mapEntryV P h t (.map id) (.int .i64 n)=some (.aW [w,.int .i64 (bornE n c l:Int)],h')∧Sat h' (setA S j (ej id (jR n z c l) (clkE n c l))):=by
 have hg:=s.row J
 simp only [mapEntryV,hu,hk,hz,hg,keyBeq,cE,cond_true,nm]
 have I:=kG (n:=n) l 0
 cases U:idxE n l 0 with
 | none =>
  rw [U] at I
  have I:lookE n l=none:=I.symm
  refine ⟨z,h.put id (some (.map ((jR n z c l).map eB) (clkE n c l))),?_,s.put J⟩
  rw [(C8 (z:=z) (c:=c) I).1,(C8 (z:=z) (c:=c) I).2,clkE,I,List.map_append]
  rfl
 | some q =>
  obtain ⟨i,u⟩:=q
  rw [U] at I
  have I:lookE n l=some u:=I.symm
  have hb:=(G8 (c:=c) U).2
  rw [Nat.sub_zero] at hb
  refine ⟨u,h,?_,?_⟩
  ·simp only [hb]
  ·rw [L2 I,clkE,I]
   simp only
   rw [G9 J]
   exact s
theorem Sat.entryStore (s:Sat h S)(I:getA S j=some (ej id (jR n z c l) (clkE n c l)))(U:dZ c 0 l):
  ∃h',entryStoreV h (.map id) (.int .i64 (bornE n c l:Int)) v=some h'∧Sat h' (setA S j (ej id (fX n v c l) (clkE n c l))):=by
 have hg:=s.row I
 obtain ⟨i,J,g2⟩:=L3 (n:=n) (z:=z) (v:=v) (i:=0) (Nat.zero_le c) U
 refine ⟨h.put id (some (.map ((fX n v c l).map eB) (clkE n c l))),?_,s.put I⟩
 rw [Nat.zero_add] at J
 simp only [entryStoreV,hg,J,g2]
end
theorem OpR.mapEntry {C:cf}{E:List (Nat×V)}{h:H}{o:Oper}{t:TypeId}{x y:Operand}{a b v:V}{h₁:H}(I:o.op=.mapEntry t x y)(U:lookO E x=some a)(hy:lookO E y=some b)
 (ho:mapEntryV C.P h t a b=some (v,h₁)): OpR C E h o fun w h'=>w=v∧h'=h₁ :=
 ⟨v,h₁,⟨rfl,rfl⟩,fun env J=>⟨0,by simp only [evOp,I,bf J U,bf J hy,ho]⟩⟩
theorem OpR.entryStore {C:cf}{E:List (Nat×V)}{h:H}{o:Oper}{t:TypeId}{x y z:Operand}{a b v:V}{S':List ah}(I:o.op=.entryStore t x y z)(U:lookO E x=some a)(hy:lookO E y=some b)(hz:lookO E z=some v)
 (ho:∃h₁,entryStoreV h a b v=some h₁∧Sat h₁ S'): OpR C E h o fun _ h₁=>Sat h₁ S':=by
 obtain ⟨h₁,e1,e2⟩:=ho
 exact ⟨bt,h₁,e2,fun env J=>⟨0,by simp only [evOp,I,bf J U,bf J hy,bf J hz,e1,jf]⟩⟩
abbrev A7 := List (Int×List Nat)
def bufsA : bJ→A7→ah
 | [],[]=>.pu True
 | e::l,x::m=>star [.pu (e.1=x.1),a_ e.2.1 x.2,bufsA l m]
 | _,_=>.pu False
def lE (n:Int): bJ→A7→ah
 | [],[]=>.pu True
 | e::l,x::m=>if e.1=n then star [.pu (e.1=x.1),bufsA l m] else star [.pu (e.1=x.1),a_ e.2.1 x.2,lE n l m]
 | _,_=>.pu False
section
variable {h:H} {n:Int} {u:V} {x:List Nat} {c:Nat}
theorem G_ : ∀ {l:bJ} {m:A7} {S:List ah},lookE n l=none→Sat h (bufsA l m::S)→lookL n m=none∧Sat h (lE n l m::S):=by
 intro l
 induction l with
 | nil=>intro m S _ s; cases m with
  | nil=>exact ⟨rfl,s⟩
  | cons x m=>exact (cL.1 s).1.elim
 | cons e l U=>intro m S I s; cases m with
  | nil=>exact (cL.1 s).1.elim
  | cons x m =>
   obtain ⟨J,s⟩:=cL.1 (cG.1 s)
   simp only [lookE] at I
   by_cases he:e.1=n
   ·rw [if_pos he] at I; cases I
   ·rw [if_neg he] at I
    obtain ⟨g1,g2⟩:=U (S:=a_ e.2.1 x.2::S) I (s.aa [1])
    refine ⟨?_,?_⟩
    ·simp only [lookL,←J,if_neg he,g1]
    ·simp only [lE,if_neg he]
     exact cG.2 (cL.2 ⟨J,g2.aa [1]⟩)
theorem He : ∀ {l:bJ} {m:A7} {S:List ah},lookE n l=some u→Sat h (bufsA l m::S)→∃x,lookL n m=some x∧Sat h (a_ u x::lE n l m::S):=by
 intro l
 induction l with
 | nil=>intro m S I s; cases I
 | cons e l U=>intro m S I s; cases m with
  | nil=>exact (cL.1 s).1.elim
  | cons x m =>
   obtain ⟨J,s⟩:=cL.1 (cG.1 s)
   simp only [lookE] at I
   by_cases he:e.1=n
   ·rw [if_pos he] at I
    injection I with I
    subst I
    refine ⟨x.2,by simp only [lookL,←J,if_pos he],?_⟩
    simp only [lE,if_pos he]
    have s2:Sat h (star [.pu (e.1=x.1),bufsA l m]::a_ e.2.1 x.2::S):=cG.2 (cL.2 ⟨J,s.aa [1]⟩)
    exact s2.aa [1]
   ·rw [if_neg he] at I
    obtain ⟨y,g1,g2⟩:=U (S:=a_ e.2.1 x.2::S) I (s.aa [1])
    refine ⟨y,by simp only [lookL,←J,if_neg he,g1],?_⟩
    simp only [lE,if_neg he]
    have s2:Sat h (star [.pu (e.1=x.1),a_ e.2.1 x.2,lE n l m]::a_ u y::S):=cG.2 (cL.2 ⟨J,g2.aa [2,1]⟩)
    exact s2.aa [1]
theorem Jk : ∀ {l:bJ} {m:A7} {S:List ah},Sat h (a_ u x::lE n l m::S)→Sat h (bufsA (fX n u c l) (cA n x m)::S):=by
 intro l
 induction l with
 | nil=>intro m S s; cases m with
  | nil=>exact cG.2 (cL.2 ⟨rfl,s⟩)
  | cons y m=>exact (cL.1 s.drop).1.elim
 | cons e l J=>intro m S s; cases m with
  | nil=>exact (cL.1 s.drop).1.elim
  | cons y m =>
   by_cases he:e.1=n
   ·simp only [lE,if_pos he] at s
    obtain ⟨I,s⟩:=cL.1 (cG.1 (s.aa [1]))
    simp only [fX,cA,←I,if_pos he]
    exact cG.2 (cL.2 ⟨he,(s.aa [1,0])⟩)
   ·simp only [lE,if_neg he] at s
    obtain ⟨I,s⟩:=cL.1 (cG.1 (s.aa [1]))
    simp only [fX,cA,←I,if_neg he]
    have s2:=J (S:=a_ e.2.1 y.2::S) (s.aa [2,1])
    exact cG.2 (cL.2 ⟨I,s2.aa [1]⟩)
theorem Cc : ∀ {l:bJ} {m:A7} {S:List ah},Sat h (bufsA l m::S)→Sat h (cX (fun v b=>.bp v b) l m::S):=by
 intro l
 induction l with
 | nil=>intro m S s; cases m with
  | nil=>exact s
  | cons x m=>exact (cL.1 s).1.elim
 | cons e l I=>intro m S s; cases m with
  | nil=>exact (cL.1 s).1.elim
  | cons x m =>
   obtain ⟨J,s⟩:=cL.1 (cG.1 s)
   have s2:=I (S:=tP e.2.1 x.2::S) (s.eF.aa [1])
   have U:=(s2.aa [1]).two (C:=cX (fun v b=>.bp v b) (e::l) (x::m)) (aq.bp _ _) (aq.Ad (fun _ _=>aq.bp _ _) _ _) fun a b h1 h2=>⟨⟨J,h1⟩,h2⟩
   exact U
end
end Go.Proofs.YtconhghphklfjaaGreat.Am
namespace Go.Proofs.YtconhghphklfjaaGreat.Am
open Go
structure fL where
 aj:A7
 jS:List (Int×Nat)
def chgF (n:Nat)(c:bV)(ρ:fL): fL :=
 if c.whole=true then { aj:=cA c.aO c.b ρ.aj,jS:=cA c.aO n ρ.jS } else
 match lookL c.aO ρ.aj with
 | none=>ρ
 | some b=>{ aj:=cA c.aO (cI b c.pos.toNat c.b) ρ.aj,jS:=cA c.aO n ρ.jS }
abbrev uG (v:V)(n:Nat): ah:=.pu (v=.int .u64 (n:Int))
def qy (x:Nat)(ρ:fL): ah:=xs fun i:Nat=>xs fun l:bJ=>xs fun k:Nat=>xs fun j:Nat=>xs fun m:bJ=>xs fun g:Nat =>
 star [.pu (dZ k 0 l∧(ρ.aj.map (·.1)).Nodup∧dZ g 0 m∧(ρ.jS.map (·.1)).Nodup),pt x (.cells 2 [.map i,.map j] false),ej i l k,bufsA l ρ.aj,ej j m g,cX uG m ρ.jS]
theorem t_ (l:List Nat): cI l 0 l=l:=by simp [cI]
section
variable {told:Nat→Option (List V→H→Option (V×H))} {h:H} {S:List ah} {X:ah} {u v:V} {b:List Nat} {x n:Nat} {c:bV} {ρ:fL}
theorem od : Sat h (qy x ρ::S)↔∃i l k j m g,(dZ k 0 l∧(ρ.aj.map (·.1)).Nodup∧dZ g 0 m∧(ρ.jS.map (·.1)).Nodup) ∧
  Sat h (pt x (.cells 2 [.map i,.map j] false)::ej i l k::bufsA l ρ.aj::ej j m g::cX uG m ρ.jS::S):=by
 simp only [qy,eA,cG,List.cons_append,List.nil_append,cL]
noncomputable def UC : Code:=cn [1,1,1] ((Tryz.f107.body).getD .skip)
theorem qz (hT:W told){i k j g J:Nat}{l m:bJ}(hb:b.length=512)(hc:c.Ok)(U:dZ k 0 l)(h2:(ρ.aj.map (·.1)).Nodup)(h3:dZ g 0 m)(h4:(ρ.jS.map (·.1)).Nodup)
 (s:Sat h (a_ v b::.bp u c.b::pt x (.cells 2 [.map i,.map j] false)::ej i l k::lE c.aO l ρ.aj::ej j m g::cX uG m ρ.jS::pt J (.cells 4 [.int .i64 c.aO,.int .i64 c.pos,.bool c.whole,u] false)::S))
 {E:List (Nat×V)}{Q:Ex→List (Nat×V)→H→Prop}(hE:Has E [(0,.ptr x 0),(1,.int .u64 (n:Int)),(5,.ptr J 0),(6,v)])
 (hq:∀E' h',Sat h' (qy x { aj:=cA c.aO (cI b c.pos.toNat c.b) ρ.aj,jS:=cA c.aO n ρ.jS }::.bp u c.b::S)→Q .normal E' h'): WP ⟨Tryz.prog,told⟩ 52 UC E h Q:=by
 obtain ⟨c1,c2,c3,c4,c5,c6⟩:=hc
 obtain ⟨a,ha⟩:∃a:Nat,c.pos=a:=⟨c.pos.toNat,by omega⟩
 refine WP.has hE (zw ?_)
 have s0:=s
 have I:=cg (s.buf (k:=0) rfl).view
 have xN:=cg (s.ax (k:=1) rfl (bN _ _))
 rw [ha] at s
 have sl:=(cT (s.buf (k:=0) rfl).view (a:=a) (by omega)).1
 refine WP.drawn [none,none,none,none,none,none,none] rfl (by kernel_rfl) (by kernel_rfl) ?_
 refine zM rfl (zF rfl (mu _ _) (zL rfl (by exact s.ld (k:=7) rfl cq rfl) ?_))
 refine zO rfl (bM (p:=some (.int .i64 (a:Int))) (q:=none) (m:=none) (p':=some a) (q':=none) (m':=none) rfl rfl rfl rfl (by simp [er,bndV]) rfl rfl sl) ?_
 refine zF rfl (jY _ _) (zL rfl (by exact s.ld (k:=7) rfl bg rfl) ?_)
 refine au.any rfl rfl rfl rfl (OpR.G5 rfl s (bN _ _) (by omega) (by omega) rfl rfl rfl rfl rfl) ?_
 intro r h s
 refine au.nil ⟨⟨trivial,trivial,trivial,trivial,trivial,trivial,trivial,trivial⟩,?_⟩
 have s0:=s
 refine WP.drawn [none,none,none,none,none,none,none,none,none,none,some (0,3),some (0,3),some (0,2),some (0,4),none,none,none,none,none,none] rfl (by kernel_rfl) (by kernel_rfl) ?_
 refine zM rfl (zN rfl (zF rfl (kE _ _) (zL rfl (by exact s.ld (k:=2) rfl iD rfl) ?_)))
 refine zF rfl (k_ _ _) (zL rfl (by exact s.ld (k:=7) rfl cq rfl) ?_)
 refine zM rfl (zN rfl (zF rfl (CK _ _) (zL rfl (by exact s.ld (k:=2) rfl J5 rfl) ?_)))
 refine zF rfl (k_ _ _) (zL rfl (by exact s.ld (k:=7) rfl cq rfl) ?_)
 refine zM rfl (zM rfl ?_)
 obtain ⟨w1,Ws,e1,s1⟩:=s.entry (j:=3) (n:=c.aO) rfl Tryz.underlying86 Tryz.underlying3 rI
 dsimp only [setA] at s1
 refine au.any rfl rfl rfl rfl (OpR.mapEntry rfl rfl rfl e1) ?_
 rintro r1 GZ ⟨rfl,rfl⟩
 refine zO rfl (bL rfl rfl) (au.fI rfl rfl rfl (OpR.entryStore rfl rfl rfl rfl (s1.entryStore (j:=3) (v:=v) rfl U)) ?_)
 intro r2 Kk s2
 dsimp only [setA] at s2
 obtain ⟨w3,Wt,e3,s3⟩:=s2.entry (j:=5) (n:=c.aO) rfl Tryz.underlying179 Tryz.underlying3 DO
 dsimp only [setA] at s3
 refine au.any rfl rfl rfl rfl (OpR.mapEntry rfl rfl rfl e3) ?_
 rintro r3 Wu ⟨rfl,rfl⟩
 refine zO rfl (bL rfl rfl) (au.fI rfl rfl rfl (OpR.entryStore rfl rfl rfl rfl (s3.entryStore (j:=5) (v:=.int .u64 (n:Int)) rfl h3)) ?_)
 intro r4 Wv s
 dsimp only [setA] at s
 refine au.nil ⟨⟨trivial,trivial,trivial,trivial,trivial,trivial,trivial,trivial,trivial,trivial,fun _ _=>.inr ⟨rfl,⟨_,iO rfl (k_ _ _)⟩,aU _ rfl⟩,rD (.inr ⟨rfl,⟨_,aI rfl (by exact s0.ld (k:=7) rfl cq rfl)⟩,aU _ rfl⟩) (.inr ⟨rfl,⟨_,aI rfl (by exact s1.ld (k:=7) rfl cq rfl)⟩,aU _ rfl⟩) (.inr ⟨rfl,⟨_,aI rfl (by exact s2.ld (k:=7) rfl cq rfl)⟩,aU _ rfl⟩),fun _ _=>.inr ⟨rfl,⟨_,aV rfl⟩,I⟩,fun _ _=>.inr ⟨rfl,⟨_,aV rfl⟩,aU _ rfl⟩,trivial,trivial,trivial,trivial,trivial,trivial,trivial⟩,?_⟩
 have s:=Jk (c:=k) (s.aa [0,3])
 have s:=(s.aa [5]).dY (B:=cX uG (fX c.aO (.int .u64 (n:Int)) g m) (cA c.aO n ρ.jS)) fun a b h=>xI (f:=uG) (x:=n) (show V.int .u64 (n:Int)=_ from rfl) h
 refine hq _ _ ?_
 have e:c.pos.toNat=a:=by omega
 rw [e]
 have s:=s.del 6
 exact (od.2 ⟨i,_,_,j,_,_,⟨rQ rfl (Nat.zero_le _) U,fQ h2,rQ rfl (Nat.zero_le _) h3,fQ h4⟩,s.aa [3,3,1,2,0]⟩)
theorem Hf (U:W told)(UD:∀e∈ρ.aj,e.2.length=512)(hc:c.Ok)(s:Sat h (qy x ρ::.bp u c.b::S)):
  Call ⟨Tryz.prog,told⟩ 107 [.ptr x 0,.int .u64 (n:Int),.agg [.int .i64 c.aO,.int .i64 c.pos,.bool c.whole,u]] h fun v h'=>v=.aW []∧Sat h' (qy x (chgF n c ρ)::.bp u c.b::S):=by
 obtain ⟨i,l,k,j,m,g,⟨h1,h2,h3,h4⟩,s⟩:=od.1 s
 have hu:=(s.ax (k:=5) rfl (bN _ _)).cells
 have xN:=cg (s.ax (k:=5) rfl (bN _ _))
 refine Call.of_wp (U.free _ rfl) Tryz.func107 rfl rfl (zg rfl (ae.bO s rfl rfl rfl (ff rfl (by simp only [V.cells,List.all_cons,List.all_nil,hu.2]; rfl)) ?_))
 intro p5 h s
 dsimp only [V.cells] at s
 dsimp only [List.length_cons,List.length_nil,Nat.reduceAdd] at s
 refine zv (zw ?_)
 have e2:=s.J_ (n:=c.aO) (j:=2) rfl Tryz.underlying86 Tryz.underlying3 rI
 have I:c.whole=true→c.pos=0∧c.b.length=512:=hc.2.2.2.2.2
 have nW:c.b.length≤512:=by have:=hc.2.2.1; have:=hc.2.2.2.2.1; omega
 have s0:=s
 rcases hle:lookE c.aO l with _ | u0
 ·skip
  rw [hle] at e2
  obtain ⟨J,s⟩:=G_ hle (s.aa [3])
  have hX:=s
  have s:=s0
  refine WP.drawn [none,none,none,none,none,none,none,none,none,none,none,none] rfl (by kernel_rfl) (by kernel_rfl) ?_
  refine zM rfl (zN rfl (zF rfl (kE _ _) (zL rfl (by exact s.ld (k:=1) rfl iD rfl) ?_)))
  refine zF rfl (k_ _ _) (zL rfl (by exact s.ld (k:=0) rfl cq rfl) ?_)
  refine zO rfl (fo rfl rfl e2) (zM rfl (zO rfl (bL rfl rfl) (zO rfl (bL rfl rfl) (zA rfl (zA rfl ?_)))))
  refine au.nil ⟨⟨trivial,trivial,trivial,trivial,trivial,trivial,trivial,trivial,trivial,trivial,trivial,trivial,trivial⟩,?_⟩
  refine zw (WP.block (zg rfl (zf rfl (rK _ _) ?_)))
  by_cases hw:c.whole=true
  ·skip
   refine ae.aR rfl rfl rfl (aI rfl (s.ld (k:=0) rfl gU rfl)) (hw) (za rfl (zv (zi rfl (zr rfl (zf rfl (jY _ _) (zl rfl (by exact s.ld (k:=0) rfl bg rfl) ?_))))))
   refine ae.call rfl rfl rfl rfl rfl rfl rfl (iQ U (hX.aa [6]) (bN _ _) (by omega)) ?_
   intro v h s
   dsimp only [ai,bringA] at s
   refine za rfl (zv ?_)
   refine qz (n:=n) U (I hw).2 hc h1 h2 h3 h4 (s.aa [0,0,2,2,0,1,1,0]) ⟨rfl,rfl,rfl,rfl,trivial⟩ (fun E' h' s' => ?_)
   have e:cI c.b c.pos.toNat c.b=c.b:=by rw [(I hw).1]; exact t_ _
   rw [e] at s'
   refine ⟨trivial,_,rfl,rfl,?_⟩
   rw [chgF,if_pos hw]
   exact s'
  ·skip
   refine ae.aE rfl rfl rfl (aI rfl (s.ld (k:=0) rfl gU rfl)) (by simpa using hw) ?_
   refine za rfl (zv (zj rfl (zg rfl (zm rfl (zo rfl (dA rfl rfl) (za rfl (zv (zi rfl ?_))))))))
   refine WP.ret ⟨trivial,_,rfl,?_⟩
   have e:chgF n c ρ=ρ:=by rw [chgF,if_neg hw,J]
   rw [e]
   exact ⟨rfl,(od.2 ⟨i,l,k,j,m,g,⟨h1,h2,h3,h4⟩,s.drop⟩)⟩
 ·skip
  rw [hle] at e2
  obtain ⟨y,J,s⟩:=He hle (s.aa [3])
  have hX:=s
  have s:=s0
  have VL:=cg (hX.buf (k:=0) rfl).view
  have hy:y.length=512:=UD _ (fc J)
  refine WP.drawn [none,none,none,none,none,none,none,none,none,none,none,none] rfl (by kernel_rfl) (by kernel_rfl) ?_
  refine zM rfl (zN rfl (zF rfl (kE _ _) (zL rfl (by exact s.ld (k:=1) rfl iD rfl) ?_)))
  refine zF rfl (k_ _ _) (zL rfl (by exact s.ld (k:=0) rfl cq rfl) ?_)
  refine zO rfl (fo rfl rfl e2) (zM rfl (zO rfl (bL rfl rfl) (zO rfl (bL rfl rfl) (zA rfl (zA rfl ?_)))))
  refine au.nil ⟨⟨trivial,trivial,trivial,trivial,trivial,trivial,trivial,trivial,trivial,trivial,trivial,trivial,trivial⟩,?_⟩
  refine zw (WP.block (zg rfl (zf rfl (rK _ _) ?_)))
  by_cases hw:c.whole=true
  ·skip
   refine ae.aR rfl rfl rfl (aI rfl (s.ld (k:=0) rfl gU rfl)) (hw) (za rfl (zv (zi rfl (zr rfl (zf rfl (jY _ _) (zl rfl (by exact s.ld (k:=0) rfl bg rfl) ?_))))))
   refine ae.call rfl rfl rfl rfl rfl rfl rfl (iQ U ((hX.drop).aa [6]) (bN _ _) (by omega)) ?_
   intro v h s
   dsimp only [ai,bringA] at s
   refine za rfl (zv ?_)
   refine qz (n:=n) U (I hw).2 hc h1 h2 h3 h4 (s.aa [0,0,2,2,0,1,1,0]) ⟨rfl,rfl,rfl,rfl,trivial⟩ (fun E' h' s' => ?_)
   have e:cI c.b c.pos.toNat c.b=c.b:=by rw [(I hw).1]; exact t_ _
   rw [e] at s'
   refine ⟨trivial,_,rfl,rfl,?_⟩
   rw [chgF,if_pos hw]
   exact s'
  ·skip
   refine ae.aE rfl rfl rfl (aI rfl (s.ld (k:=0) rfl gU rfl)) (by simpa using hw) ?_
   refine za rfl (zv (zj rfl (zg rfl (zm rfl (zo rfl (dA rfl rfl) (za rfl (zv (zj rfl (WP.skip ?_)))))))))
   refine qz (n:=n) U hy hc h1 h2 h3 h4 (hX.aa [0,6,2,2,0,1,1,0]) ⟨rfl,rfl,rfl,rfl,trivial⟩ (fun E' h' s' => ?_)
   refine ⟨trivial,_,rfl,rfl,?_⟩
   rw [chgF,if_neg hw,J]
   exact s'
end
end Go.Proofs.YtconhghphklfjaaGreat.Am
