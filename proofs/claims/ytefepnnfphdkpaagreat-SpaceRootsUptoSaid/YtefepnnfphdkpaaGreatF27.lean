/- SpaceRoots: a part of its proof; conditions: its statement's. -/
import Derived.Test.YtefepnnfphdkpaaGreatF26
set_option linter.defProp false
namespace Go.Proofs.YtefepnnfphdkpaaGreat.Am
open Go
def qn:=@Tryz.underlying24
def Io:=@Tryz.func84
theorem uG.fit {pg:Int}{cX now:List Nat}{i:Nat}{l:List cq}(J:uG pg cX now i l)(hn:now.length=512)(h0:0≤pg)(h1:pg<65536): ∀c∈l,c.Ok∧c.b.length≤512:=by
 induction J with
 | done i h=>intro c I; cases I
 | skip i l h he J ih=>exact ih
 | take i e l h2 h3 _ _ J ih =>
  intro c I
  rcases List.mem_cons.1 I with rfl | I
  ·have hl:((now.take e).drop i).length=e-i:=by simp; omega
   refine ⟨⟨h0,h1,by simp,by simp only; omega,by simp only [hl]; omega,by simp⟩,by simp only [hl]; omega⟩
  ·exact ih c I
theorem FP.fit {pg:Int}{cX now:List Nat}{l:List cq}(hr:FP pg cX now l)(hn:now.length=512)(I:0≤pg)(J:pg<65536): ∀c∈l,c.Ok∧c.b.length≤512:=by
 obtain ⟨m,h2,rfl⟩:=hr
 split
 ·intro c hc
  rw [List.mem_singleton.1 hc]
  exact ⟨⟨I,J,by simp,by simp,by simp,by simp⟩,by simp⟩
 ·exact h2.fit hn I J
theorem js.fit {now:List (Int×List Nat)}{l:List Int}{ε ε':aI}{e:Int}{cs:List cq}(hr:js now l ε e cs ε')(J:∀x∈now,x.2.length=512)(hl:∀n∈l,0≤n∧n<65536): ∀c∈cs,c.Ok∧c.b.length≤512:=by
 induction hr with
 | nil ε=>intro c hc; cases hc
 | err n l ε e b ε' hr he=>intro c hc; cases hc
 | part n l ε cX b ε' c e cs kE hr hb hd hc iG ht ih =>
  intro x I
  have hn:=hl n bu
  rcases List.mem_append.1 I with I | I
  ·exact hc.fit (J _ (gU hb)) hn.1 hn.2 x I
  ·exact ih (fun m hm=>hl m (bn _ hm)) x I
 | whole n l ε cX b ε' e cs kE hr hb hd ht ih =>
  intro x I
  have hn:=hl n bu
  have hb:=J _ (gU hb)
  rcases List.mem_cons.1 I with rfl | I
  ·exact ⟨⟨hn.1,hn.2,by simp,by simp,by simp only at hb ⊢; omega,fun _=>⟨rfl,hb⟩⟩,by simp only at hb ⊢; omega⟩
  ·exact ih (fun m hm=>hl m (bn _ hm)) x I
theorem vj : ∀(f n:Nat),(digits f n).length≤f+1:=by
 intro f
 induction f with
 | zero=>intro n; simp [digits]
 | succ f I =>
  intro n
  unfold digits
  split
  ·simp
  ·have:=I (n/128)
   simp only [aS]
   omega
theorem Xo {c:cq}(I:c.b.length≤512): (kC c).length≤543:=by
 have J:=vj 9 c.aL.toNat
 have h2:=vj 9 c.pos.toNat
 have h3:=vj 9 c.b.length
 simp only [kC,bx,aS,bT]
 omega
theorem UY : ∀ {l:List cq},(∀c∈l,c.b.length≤512)→(l.flatMap kC).length≤543*l.length:=by
 intro l
 induction l with
 | nil=>intro _; simp
 | cons c l I =>
  intro h
  have h1:=Xo (h c bu)
  have h2:=I fun x J=>h x (bn _ J)
  simp only [qG,bx,aS]
  omega
theorem UZ {l:List cq}{tx pv nx:Nat}{data:List Nat}(hl:l.length≤33554432)(h:∀c∈l,c.Ok∧c.b.length≤512)(J:tx<18446744073709551616)(Ty:pv<18446744073709551616)(KU:nx<18446744073709551616)(hd:data.length≤35184372088832): Dg tx pv nx data l:=by
 have h2:=UY fun c I=>(h c I).2
 refine ⟨⟨by omega,fun c I=>by have:=(h c I).2; omega,fun c I => ?_⟩,J,Ty,KU,by omega⟩
 have:=(h c I).1
 simp only [cq.Ok] at this
 omega
theorem uL {l:List cq}{kd:Int}(I:1≤kd∧kd≤9)(h:∀c∈l,c.Ok∧c.b.length≤512): dD kd l=true:=by
 simp only [dD,aO,eL,lQ]
 exact ⟨I,fun c J=>(h c J).1⟩
inductive pM (ε:aI)(now:List (Int×List Nat))(kd:Int)(tx pv nx:Nat)(data:List Nat)(qz:Nat): Nat→Int→Bool→aI→Prop where
 | arg (h:¬(1≤kd∧kd≤7)∨0<qz):pM ε now kd tx pv nx data qz 0 1 false ε
 | dead (h1:1≤kd) (h2:kd≤7) (h3:qz=0) (h:ε.2.2.dead=true):pM ε now kd tx pv nx data qz 0 9 false ε
 | nF (e:Int) (c:List cq) (ε':aI) (h1:1≤kd) (h2:kd≤7) (h3:qz=0) (h:ε.2.2.dead=false) (hc:js now (bU now) ε e c ε') (he:e≠0):pM ε now kd tx pv nx data qz 0 e false ε'
 | app (c:List cq) (ε':aI) (h1:1≤kd) (h2:kd≤7) (h3:qz=0) (h:ε.2.2.dead=false) (hc:js now (bU now) ε 0 c ε') (he:(bA ε'.2 kd tx pv nx data c).1.2≠0):pM ε now kd tx pv nx data qz 0 (bA ε'.2 kd tx pv nx data c).1.2 false (ε'.1,(bA ε'.2 kd tx pv nx data c).2)
 | put (c:List cq) (ε':aI) (e:Int) (kE:aI) (h1:1≤kd) (h2:kd≤7) (h3:qz=0) (h:ε.2.2.dead=false) (hc:js now (bU now) ε 0 c ε') (ha:(bA ε'.2 kd tx pv nx data c).1.2=0) (hp:qm now (bA ε'.2 kd tx pv nx data c).1.1 (bU now) (ε'.1,(bA ε'.2 kd tx pv nx data c).2) e kE) :
   pM ε now kd tx pv nx data qz (if e=0 then (bA ε'.2 kd tx pv nx data c).1.1 else 0) e true kE
structure vk (ε ε':aI): Prop where
 base:ε'.2.1.base=ε.2.1.base
 b:ε'.2.1.b=ε.2.1.b
 cF:ε'.2.1.cF=ε.2.1.cF
 check:ε'.2.1.check=ε.2.1.check
 log:ε'.2.2.log=ε.2.2.log
 room:ε'.2.2.room=ε.2.2.room
 ax:ε'.2.2.ax=ε.2.2.ax
theorem vk.refl (ε:aI): vk ε ε:=⟨rfl,rfl,rfl,rfl,rfl,rfl,rfl⟩
theorem vk.trans {a b c:aI}(x:vk a b)(y:vk b c): vk a c :=
 ⟨y.base.trans x.base,y.b.trans x.b,y.cF.trans x.cF,y.check.trans x.check,y.log.trans x.log,y.room.trans x.room,y.ax.trans x.ax⟩
theorem oa {δ:Dk}: δ.cK.2.log=δ.log∧δ.cK.2.room=δ.room∧δ.cK.2.ax=δ.ax:=by
 unfold Dk.cK
 split
 ·exact ⟨rfl,rfl,rfl⟩
 ·split <;> exact ⟨rfl,rfl,rfl⟩
theorem xM {δ:Dk}{n:Int}{b:List Nat}: (δ.bK n b).2.log=δ.log∧(δ.bK n b).2.room=δ.room∧(δ.bK n b).2.ax=δ.ax:=by
 unfold Dk.bK
 split
 ·exact ⟨rfl,rfl,rfl⟩
 ·split
  ·exact ⟨rfl,rfl,rfl⟩
  ·split <;> exact ⟨rfl,rfl,rfl⟩
theorem Ip {π:Pl}{x:LD}{n:Nat}: vk (π,x) (π,(bE x n).2):=by
 unfold bE
 split
 ·exact vk.refl _
 ·split
  ·exact ⟨rfl,rfl,rfl,rfl,oa.1,oa.2.1,oa.2.2⟩
  ·exact ⟨rfl,rfl,rfl,rfl,oa.1,oa.2.1,oa.2.2⟩
theorem vk.to {π:Pl}{ε ε':aI}(h:vk ε ε'): vk ε (π,ε'.2):=⟨h.base,h.b,h.cF,h.check,h.log,h.room,h.ax⟩
structure kJ (R:LD→Prop): Prop where
 force:∀(x:LD) (n:Nat),R x→R (bE x n).2
 write:∀(x:LD) (n:Int) (b:List Nat),R x→R (x.1,(x.2.bK n b).2)
section
variable {R:LD→Prop} {ε ε':aI} {n e:Int} {b:List Nat} {now cS:List (Int×List Nat)} {b_:Bool} {l:List Int} {cs:List cq} {aK:Nat}
theorem kJ.out (h:kJ R){ε:aI}{i:Nat}(I:R ε.2): R (outF ε i).2.2:=by
 unfold outF
 split
 ·exact I
 ·split
  ·exact I
  ·split
   ·exact I
   ·split
    ·exact h.force _ _ I
    ·split
     ·exact h.write _ _ _ (h.force _ _ I)
     ·exact h.write _ _ _ (h.force _ _ I)
theorem kJ.iP (h:kJ R)(hr:fY ε n e b ε')(J:R ε.2): R ε'.2:=by
 cases hr with
 | arg hn=>exact J
 | Dj i f h1 h2 hl hf=>exact J
 | out I i f h1 h2 hl hn hf hh he=>exact h.out (ε:=(I,ε.2)) J
 | read I i f h1 h2 hl hn hf hh he hr=>exact h.out (ε:=(I,ε.2)) J
 | bad I i f h1 h2 hl hn hf hh he hr hc=>exact h.out (ε:=(I,ε.2)) J
 | load I i f h1 h2 hl hn hf hh he hr hc=>exact h.out (ε:=(I,ε.2)) J
theorem kJ.rd (h:kJ R)(I:nk ε n e b ε')(J:R ε.2): R ε'.2:=by
 cases I with
 | dead hd=>exact J
 | iP e b ε' hd I he=>exact h.iP I J
 | sO b ε' hd I he=>exact h.iP (ε':=ε') I J
 | read b ε' hd I he=>exact h.iP (ε':=ε') I J
theorem kJ.Aa (h:kJ R)(J:pL ε now b_ n e b ε')(I:R ε.2): R ε'.2:=by
 cases J with
 | arg hn=>exact I
 | b_ _ _ _=>exact I
 | own b h1 h2 _ hl=>exact I
 | read e b ε' h1 h2 _ hl J=>exact h.rd J I
theorem kJ.O_ (h:kJ R)(I:uF ε now b_ n b e cS ε')(J:R ε.2): R ε'.2:=by
 cases I with
 | may e c ε' I he=>exact h.Aa I J
 | bad c ε' I hg=>exact h.Aa I J
 | done c ε' I hg=>exact h.Aa I J
theorem kJ.ch (h:kJ R)(I:js now l ε e cs ε'): R ε.2→R ε'.2:=by
 induction I with
 | nil ε=>exact fun J=>J
 | err n l ε e b ε' I he=>exact h.rd I
 | part n l ε cX b ε' c e cs kE I hb hd hc iG ht ih=>exact fun J=>ih (h.rd I J)
 | whole n l ε cX b ε' e cs kE I hb hd ht ih=>exact fun J=>ih (h.rd I J)
theorem kJ.pt (h:kJ R)(I:qm now aK l ε e ε'): R ε.2→R ε'.2:=by
 induction I with
 | nil ε=>exact fun J=>J
 | iP n l ε e b ε' I he=>exact h.iP I
 | bad n l ε b0 b ε' I hb he=>exact h.iP (ε':=ε') I
 | put n l ε b0 b ε' e kE I hb he ht ih=>exact fun J=>ih (h.iP (ε':=ε') I J)
theorem Pa (ε:aI): kJ fun y=>vk ε (ε.1,y) :=
 ⟨fun _ _ h=>h.trans Ip,fun _ _ _ h=>h.trans ⟨rfl,rfl,rfl,rfl,xM.1,xM.2.1,xM.2.2⟩⟩
theorem js.same (I:js now l ε e cs ε'): vk ε ε':=((Pa ε).ch I (vk.refl ε)).to
end
theorem RF {m:Nat}: ∀ {l:List Nat},l.Pairwise (· < ·)→(∀s∈l,s<m)→l.length≤m:=by
 intro l I J
 have key:∀(l:List Nat) (k:Nat),l.Pairwise (· < ·)→(∀s∈l,k≤s∧s<m)→k+l.length≤m∨l=[]:=by
  intro l
  induction l with
  | nil=>intro k _ _; exact .inr rfl
  | cons x l ih =>
   intro k I J
   simp only [oY] at I
   have hx:=J x bu
   rcases ih (x+1) I.2 (fun s hs=>⟨I.1 s hs,(J s (bn _ hs)).2⟩) with h | rfl
   ·left; simp only [aS]; omega
   ·left; simp; omega
 rcases key l 0 I (fun s hs=>⟨ew _,J s hs⟩) with h | rfl
 ·omega
 ·simp
theorem jl (x:LD)(kd:Int)(tx pv nx:Nat)(data:List Nat)(c:List cq):
  (∃e:Int,e≠0∧((e=1∧dD kd c=false)∨(e=2∧1048576<(dK kd tx pv nx data c).length)∨(e=9∧x.2.dead=true)∨(e=7∧x.2.room<x.2.log.length+(dI x.1 kd tx pv nx data c).length))∧bA x kd tx pv nx data c=((0,e),x)) ∨
  (x.2.dead=false∧x.2.aP=0∧bA x kd tx pv nx data c=((0,9),(x.1,{ x.2.die with tail:=dI x.1 kd tx pv nx data c }))) ∨
  (dD kd c=true∧(dK kd tx pv nx data c).length≤1048576∧x.2.dead=false∧x.2.log.length+(dI x.1 kd tx pv nx data c).length≤x.2.room∧x.2.aP≠0 ∧
   bA x kd tx pv nx data c=((x.1.base+x.1.b.length,0),(x.1.app (dI x.1 kd tx pv nx data c),{ x.2.c8 with log:=x.2.log++dI x.1 kd tx pv nx data c }))):=by
 by_cases I:dD kd c=false
 ·exact .inl ⟨1,by decide,.inl ⟨rfl,I⟩,by rw [bA,aj I]⟩
 ·by_cases hb:1048576<(dK kd tx pv nx data c).length
  ·exact .inl ⟨2,by decide,.inr (.inl ⟨rfl,hb⟩),by rw [bA,ah I,aj hb]⟩
  ·by_cases J:x.2.dead=true
   ·have e:x.2.kq (dI x.1 kd tx pv nx data c)=(9,x.2):=by rw [Dk.kq,aj J]
    exact .inl ⟨9,by decide,.inr (.inr (.inl ⟨rfl,J⟩)),by rw [bA,ah I,ah hb,e,aj (by simp)]⟩
   ·by_cases hr:x.2.room<x.2.log.length+(dI x.1 kd tx pv nx data c).length
    ·have e:x.2.kq (dI x.1 kd tx pv nx data c)=(7,x.2):=by rw [Dk.kq,ah J,aj hr]
     exact .inl ⟨7,by decide,.inr (.inr (.inr ⟨rfl,hr⟩)),by rw [bA,ah I,ah hb,e,aj (by simp)]⟩
    ·by_cases hf:x.2.aP=0
     ·have e:x.2.kq (dI x.1 kd tx pv nx data c)=(9,{ x.2.die with tail:=dI x.1 kd tx pv nx data c }):=by rw [Dk.kq,ah J,ah hr,aj hf]
      exact .inr (.inl ⟨by simpa using J,hf,by rw [bA,ah I,ah hb,e,aj (by simp)]⟩)
     ·have e:x.2.kq (dI x.1 kd tx pv nx data c)=(0,{ x.2.c8 with log:=x.2.log++dI x.1 kd tx pv nx data c }):=by rw [Dk.kq,ah J,ah hr,ah hf]
      exact .inr (.inr ⟨by simpa using I,by omega,by simpa using J,by omega,hf,by rw [bA,ah I,ah hb,e,ah (by simp)]⟩)
theorem BL {x:LD}{kd:Int}{tx pv nx:Nat}{data:List Nat}{c:List cq}(J:x.1.Ok)(I:x.2.Ok)(hs:x.1.b=x.2.log)(hz:x.1.base+x.1.b.length+1048584≤1099511627776):
  (bA x kd tx pv nx data c).2.1.Ok∧(bA x kd tx pv nx data c).2.2.Ok∧(bA x kd tx pv nx data c).2.1.b=(bA x kd tx pv nx data c).2.2.log∧(bA x kd tx pv nx data c).2.1.base=x.1.base∧(bA x kd tx pv nx data c).2.1.b.length≤x.1.b.length+1048584 ∧
  (bA x kd tx pv nx data c).2.2.waiting=x.2.waiting∧(bA x kd tx pv nx data c).1.1<1099511627776:=by
 have hlen:(dI x.1 kd tx pv nx data c).length=8+(dK kd tx pv nx data c).length:=oT _ _
 rcases jl x kd tx pv nx data c with ⟨e,_,_,h⟩ | ⟨hd,hf,h⟩ | ⟨hg,hb,hd,dZ,hf,h⟩
 ·rw [h]; exact ⟨J,I,hs,rfl,Eb _ _,rfl,by simp⟩
 ·rw [h]; exact ⟨J,⟨I.aP,I.len,I.room,I.now,I.ax,I.bp,I.many⟩,hs,rfl,Eb _ _,rfl,by simp⟩
 ·rw [h]
  generalize dI x.1 kd tx pv nx data c=rc at hlen dZ
  have abN:=I.room
  have ku:x.1.b.length=x.2.log.length:=by rw [hs]
  have hl:(x.1.b++rc).length=x.1.b.length+rc.length:=bx
  have jo:(x.2.log++rc).length=x.2.log.length+rc.length:=bx
  refine ⟨⟨?_,?_,?_,?_,?_,?_,J.check⟩,⟨I.c8.aP,?_,I.room,I.now,I.ax,?_,I.many⟩,?_,rfl,?_,rfl,?_⟩
  ·show x.1.base+(x.1.b++rc).length≤_; omega
  ·have h1:=RF J.ER J.low
   show (x.1.cF++[x.1.b.length]).length≤_
   simp only [bx,aS,bT]; omega
  ·intro s hm
   show s<(x.1.b++rc).length
   rcases List.mem_append.1 (show s∈x.1.cF++[x.1.b.length] from hm) with hm | hm
   ·have:=J.low s hm; omega
   ·rw [List.mem_singleton.1 hm]; omega
  ·show (x.1.cF++[x.1.b.length]).Pairwise (·< ·)
   rw [List.pairwise_append]
   refine ⟨J.ER,List.pairwise_singleton _ _,fun a ha b hb => ?_⟩
   rw [List.mem_singleton.1 hb]
   exact J.low a ha
  ·have:=J.forced
   show x.1.forced≤(x.1.b++rc).length; omega
  ·show (x.1.b++rc).length≤_; omega
  ·show (x.2.log++rc).length≤_; omega
  ·have:=I.bp
   show x.2.bp≤(x.2.log++rc).length; omega
  ·show x.1.b++rc=x.2.log++rc; rw [hs]
  ·show (x.1.b++rc).length≤_; omega
  ·show x.1.base+x.1.b.length<_; omega
theorem wf_i64 {n:Int}(I:0≤n)(J:n<4294967296): (Lit.int .i64 n).wf=true:=by
 simp only [Lit.wf,aO,eL]
 have e1:IntKind.min .i64 = -9223372036854775808:=rfl
 have e2:IntKind.max .i64=9223372036854775807:=rfl
 omega
theorem Ba {kd:Int}{tx pv nx:Nat}{dt ch:V}(I:dt.beq dt=true)(J:ch.beq ch=true): (V.agg (gT kd tx pv nx dt ch)).beq (V.agg (gT kd tx pv nx dt ch))=true:=by
 simp only [gT,V.beq,V.beqL,I,J,dN,k_,AF,iu,ag]
section
variable {told:cQ} {h:H} {S:List au} {X Y:au} {r k q p ct a g aH:Nat} {op v x u wh di:V} {l b cX data ob:List Nat} {now:List (Int×List Nat)} {b_:Bool} {ε:aI}
theorem U0 (hT:W told){kd:Int}{tx pv nx qz:Nat}{dt ch:V}{Z9:List V}(s:Sat h (fZ g a now false::dV a p q r (.ptr g 0) ob aH::eF r p q ε.1::b8 q p ε.2.1::aR p ε.2.2::X::.arr 4 ch Z9::S))(hX:cT X (cU dt data))(HE:Z9.length=qz*4)(mo:jk ε)(hw:cn ε+65536≤268435456)
 (uE:∀e∈now,e.2.length=512)(hm:now.length≤65536)(hk:∀n∈now.map (·.1),0≤n∧n<65536)(FI:tx<18446744073709551616)(Ty:pv<18446744073709551616)(KU:nx<18446744073709551616)(hd:data.length≤35184372088832)(EZ:ε.2.1.b=ε.2.2.log)(hz:ε.2.1.base+ε.2.1.b.length+1048584≤1099511627776):
  Call ⟨Tryz.prog,told⟩ 26 [.ptr g 0,.agg (gT kd tx pv nx dt ch)] h fun v h'=>∃aK e cl ε',pM ε now kd tx pv nx data qz aK e cl ε'∧v=.bj [.int .u64 (aK:Int),.int .i64 e] ∧
   Sat h' (fZ g a now cl::dV a p q r (cond cl .cu (.ptr g 0)) ob aH::eF r p q ε'.1::b8 q p ε'.2.1::aR p ε'.2.2::X::S):=by
 have jP:∀n∈now.map (·.1),(Lit.int .i64 n).wf=true:=fun n hn=>by
  have:=hk n hn
  exact wf_i64 (by omega) (by omega)
 have jT:=s.jb (j:=6) rfl
 have jr:=s.aE (k:=5) rfl hX
 have fN:=mP (kd:=kd) (tx:=tx) (pv:=pv) (nx:=nx) jr.cells.2 jT.2.1
 have hlen:=s.iB (n:=qz) (j:=6) rfl HE (by decide) iO
 have s0:=s
 obtain ⟨nv,s⟩:=eG.1 s
 refine Call.of_wp (hT.free _ rfl) Tryz.func26 rfl rfl (zg rfl (aA.b5 s rfl rfl rfl (fe rfl fN) ?_))
 intro p1 h s
 dsimp only [V.cells] at s
 have s:Sat h (pt p1 (.cells 6 (gT kd tx pv nx dt ch) false)::_):=s
 have hlen:=s.iB (n:=qz) (j:=8) rfl HE (by decide) iO
 refine zk 7 rfl (zf rfl (pq _ _) (zl rfl (s.ld (k:=1) rfl y7 rfl) (zk 3 rfl (WP.block (zK 4 rfl (zf rfl (AS _ _) (zh rfl (bh rfl (s.ld (k:=1) rfl kX rfl)) (rfl) (zk 5 rfl (zf rfl (uh _ _) (zl rfl (s.ld (k:=0) rfl dL rfl) ?_))))))))))
 have fin:∀e:Int,Sat h (fZ g a now false::dV a p q r (.ptr g 0) ob aH::eF r p q ε.1::b8 q p ε.2.1::aR p ε.2.2::X::S):=fun e=>((eG.2 ⟨nv,s.ae [1,1]⟩).del 7).del 1
 refine zd rfl (af rfl rfl aT) ?_ ?_
 ·intro hq
  have hq:kd<1:=by simpa using hq
  exact zk 19 rfl (WP.ret ⟨aa,_,rfl,0,1,false,ε,.arg (.inl (by omega)),rfl,fin 0⟩)
 ·intro hq
  have hq:1≤kd:=by simp at hq; omega
  refine zm rfl (zf rfl (uh _ _) (zl rfl (s.ld (k:=0) rfl dL rfl) ?_))
  refine zd rfl (af rfl rfl gv) ?_ ?_
  ·intro J
   have J:7<kd:=by simpa using J
   exact zk 15 rfl (WP.ret ⟨aa,_,rfl,0,1,false,ε,.arg (.inl (by omega)),rfl,fin 0⟩)
  ·intro J
   have J:kd≤7:=by simp at J; omega
   refine zk 2 rfl (zf rfl (mO _ _) (zl rfl (s.ld (k:=0) rfl ug rfl) (zo rfl (aU rfl rfl rfl hlen) ?_)))
   refine zd rfl (af rfl rfl gv) ?_ ?_
   ·intro I
    have I:0<qz:=by simp at I; omega
    exact zk 9 rfl (WP.ret ⟨aa,_,rfl,0,1,false,ε,.arg (.inr I),rfl,fin 0⟩)
   ·intro I
    have I:qz=0:=by simp at I; omega
    obtain ⟨dv,s⟩:=cP.1 (s.ae [3])
    dsimp only [bringA,getA,aQ] at s
    refine zk 8 rfl (zf rfl (rf _ _) (zl rfl (s.ld (k:=0) rfl qZ rfl) (zc rfl (HP hT (s.ae [7])) ?_)))
    rintro v h ⟨rfl,rfl⟩
    refine zk 2 rfl ?_
    cases sy:ε.2.2.dead with
    | true =>
     refine zK 6 rfl (WP.ret ⟨aa,_,rfl,?_⟩)
     have s9:=eG.2 ⟨nv,(cP.2 ⟨dv,s⟩).ae [2,2]⟩
     dsimp only [bringA,getA,aQ] at s9
     exact ⟨0,9,false,ε,.dead hq J I sy,rfl,(s9.del 7).del 2⟩
    | false =>
     refine zj rfl (WP.skip (zg rfl (za rfl (zv (zw (zg rfl (zm rfl ?_)))))))
     have s9:=eG.2 ⟨nv,(cP.2 ⟨dv,s⟩).ae [2,2]⟩
     dsimp only [bringA,getA,aQ] at s9
     have s:=s9.ae [0,0,1,1,1]
     dsimp only [bringA,getA,aQ] at s
     refine zc rfl (MD hT s mo (by omega) uE hm jP) ?_
     rintro v h ⟨e,c,ε',hc,(⟨he,rfl,s⟩ | ⟨rfl,iG,av,cs,rfl,s⟩)⟩
     ·refine aA.op rfl rfl rfl (bz rfl) ?_
      refine zk 2 rfl (zf rfl (mO _ _) ?_)
      refine zS rfl (by exact s.ey (k:=5) rfl Ma rfl (by decide) rfl rfl) (fun h s => ?_)
      dsimp only [gT,Nat.reduceAdd,List.set,setA] at s
      refine zk 5 rfl (zt rfl (af rfl rfl aN) (by simp; exact he) ?_)
      exact zk 8 rfl (WP.ret ⟨aa,_,rfl,0,e,false,ε',.nF e c ε' hq J I sy hc he,rfl,(s.del 7).del 5⟩)
     ·have Dn:=s.jb (j:=0) rfl
      have Iq:=hc.mj mo
      have WZ:=hc.cn
      have Dh:=hc.same
      have Xp:=BL (x:=ε'.2) (kd:=kd) (tx:=tx) (pv:=pv) (nx:=nx) (data:=data) (c:=c) Iq.ok.lg Iq.ok.dk (by rw [Dh.b,Dh.log]; exact EZ) (by rw [Dh.base,Dh.b]; exact hz)
      have dZ:=hc.fit uE fun n hn=>hk n ((fc _).mem_iff.1 hn)
      refine zk 3 rfl (zf rfl (mO _ _) (zS rfl (s.ey (k:=7) rfl Ma rfl (show 0+5<6 by decide) Dn.1 Dn.2.1) ?_))
      intro h s
      dsimp only [gT,Nat.reduceAdd,List.set,setA] at s
      refine zk 5 rfl (zh rfl (af rfl rfl aN) (rfl) ?_)
      obtain ⟨dv,s⟩:=cP.1 (s.ae [3])
      dsimp only [bringA,getA,aQ] at s
      have s:=s.ae [6,6,7,2,2,0,3]
      dsimp only [bringA,getA,aQ] at s
      refine zv (zj rfl (WP.skip (zw ?_)))
      have s0:=s
      have aaW:=dz jr
      have Ir:=Ba (kd:=kd) (tx:=tx) (pv:=pv) (nx:=nx) aaW Dn.2.2
      refine WP.drawn [ai,ai,ai,ai,ai,ai,ai,ai,ai,ai,ai] rfl (by kernel_rfl) (by kernel_rfl) ?_
      refine zM rfl (zN rfl (zF rfl (wD _ _) (zL rfl (s.ld (k:=5) rfl EB rfl) (zL rfl (s.cA (k:=6) rfl nD gL) (aB.any rfl rfl rfl rfl (OpR.call rfl rfl rfl rfl (Rf (kd:=kd) (tx:=tx) (pv:=pv) (nx:=nx) hT s hX (UZ iG dZ FI Ty KU hd) Iq.ok.lg Iq.ok.dk)) ?_)))))
      rintro v h ⟨rfl,s⟩
      refine zM rfl (zO rfl (cO rfl rfl) (zO rfl (cO rfl rfl) (zA rfl (zA rfl ?_))))
      refine aB.nil ⟨⟨aa,aa,aa,aa,aa,aa,aa,aa,aa,aa,aa,aa⟩,?_⟩
      refine zK 4 rfl ?_
      have s9:=cP.2 ⟨dv,s.ae [5,6]⟩
      have s:=((((s9.ae [7,0,6,0,0,0]).del 9).del 8).del 7).del 6
      by_cases he:(bA ε'.2 kd tx pv nx data c).1.2=0
      ·skip
       refine zh rfl (af rfl rfl aN) (by simp; exact he) ?_
       refine zk 6 rfl (zc rfl (FO hT s) ?_)
       rintro v h ⟨rfl,s⟩
       obtain ⟨nv,s⟩:=eG.1 s
       obtain ⟨wO,rfl⟩:=HI s (j:=1) rfl
       refine zk 6 rfl (zf rfl (q_ _ _) (zl rfl (s.ld (k:=0) rfl jS rfl) (zc rfl (xK hT s) ?_)))
       rintro v h ⟨kb,rfl,s⟩
       refine zc rfl (vb hT (s.ae [0,1]) (by decide) (by omega) jP) ?_
       intro kv h s
       have hl:(bU now).length=now.length:=by rw [bU,(fc _).length_eq,fS]
       refine zo rfl (aU rfl rfl rfl (s.iB (n:=(bU now).length) (j:=0) rfl (by simp [gj]) (by decide) eB)) ?_
       refine zk 2 rfl (WP.block ?_)
       obtain ⟨acd,es,clock,RG,hb,ni,s⟩:=fb.1 (s.ae [2])
       injection RG with RG
       subst RG
       obtain ⟨dv,s⟩:=cP.1 (s.ae [5])
       have s:=s.ae [6,2,2,0,3,3,3,1]
       refine O9 (op:=.cu) (dv:=dv) hT (ks:=bU now) (now:=now) (aK:=(bA ε'.2 kd tx pv nx data c).1.1) (by omega) (fun n hn => ?_) uE (bU now).length 0 (ε'.1,(bA ε'.2 kd tx pv nx data c).2) _ _ _ (by omega) ?_ ?_ s ⟨rfl,rfl,rfl,rfl,rfl,rfl,aa⟩ (fun e kE E' h' hp CC l4 l5 s' => ?_) (fun kE E' h' hp jd s' => ?_)
       ·have:n∈now.map (·.1):=(fc _).mem_iff.1 hn
        cases hq:lookL n now with
        | some _=>rfl
        | none=>exact absurd this (j8.1 hq)
       ·exact ⟨⟨Iq.ok.pl,Xp.1,Xp.2.1⟩,Iq.pins,Iq.full⟩
       ·have e1:cn (ε'.1,(bA ε'.2 kd tx pv nx data c).2)=cn ε':=by simp only [cn,Xp.2.2.2.2.2.1]
        rw [e1,hl]; omega
       ·rw [eu] at hp
        have e4:look E' 4=some (.int .u64 ((0:Nat):Int)):=l4
        refine ⟨aa,_,uJ e4 l5,0,e,true,kE,?_,rfl,?_⟩
        ·have:=pM.put (data:=data) c ε' e kE hq J I sy hc he hp
         rwa [ah CC] at this
        ·have s3:=cP.2 ⟨dv,s'.ae [3,6]⟩
         have s4:=fb.2 ⟨wO,es,clock,rfl,hb,ni,s3.ae [2,2]⟩
         exact eG.2 ⟨.map wO,(s4.ae [2,0,0,0,0,0,1]).del 7⟩
       ·rw [eu] at hp
        have s:=s'
        refine WP.has jd (zK 6 rfl (WP.ret ⟨aa,_,rfl,?_⟩))
        refine ⟨_,0,true,kE,?_,rfl,?_⟩
        ·have:=pM.put (data:=data) c ε' 0 kE hq J I sy hc he hp
         exact this
        ·have s3:=cP.2 ⟨dv,s.ae [3,6]⟩
         have s4:=fb.2 ⟨wO,es,clock,rfl,hb,ni,s3.ae [2,2]⟩
         dsimp only [bringA,getA,aQ] at s4
         exact eG.2 ⟨.map wO,(s4.ae [2,0,0,0,0,0,1]).del 7⟩
      ·skip
       refine zt rfl (af rfl rfl aN) (by simp; exact he) ?_
       exact zk 8 rfl (WP.ret ⟨aa,_,rfl,0,_,false,_,.app c ε' hq J I sy hc he,rfl,s⟩)
end
def Lg.fresh : Lg:={ base:=1,b:=[],cF:=[],forced:=0,check:=0 }
theorem xN {P:Program}{E:List (Nat×V)}{h:H}{a b c t:Nat}{p v w x:V}(I:look E a=some p)(J:loadV P h t p=some v)(h2:look E b=some w)(h3:look E c=some x): iI P E h [.cell a t,.tmp b,.tmp c]=some (.bj [v,w,x]):=by
 simp only [iI,mapO,resE,I,J,h2,h3]
section
variable {told:cQ} {h:H} {S:List au} {X Y:au} {r k q p ct a g aH:Nat} {op v x u wh di:V} {l b cX data ob:List Nat} {now:List (Int×List Nat)} {b_:Bool} {ε:aI} {μ:Lg} {δ:Dk}
theorem JU (hT:W told)(s:Sat h (aR p δ::S))(hd:δ.dead=false)(hm:δ.mark=[])(hl:δ.log=[])(hc:δ.bp=0):
  Call ⟨Tryz.prog,told⟩ 80 [.ptr p 0] h fun v h'=>∃q,v=.bj [.ptr q 0,.int .i64 0]∧Sat h' (b8 q p Lg.fresh::aR p δ::S):=by
 refine Call.of_wp (hT.free _ rfl) Tryz.func80 rfl rfl (zK 8 rfl (zc rfl (Dd hT s (by rw [hm]; decide)) ?_))
 rintro v h (⟨I,_,_⟩ | ⟨_,b0,rfl,s⟩)
 ·rw [hd] at I; cases I
 rw [hm] at s
 refine zk 10 rfl (zh rfl (af rfl rfl aN) (rfl) (zk 6 rfl (zo rfl (c_ rfl (by rw [Ti]; rfl)) ?_)))
 refine aA.b5 s rfl rfl rfl (fe rfl rfl) (fun Z0 h s => ?_)
 dsimp only [V.cells,List.take,List.length_cons,List.length_nil,Nat.reduceAdd,List.drop,List.cons_append,List.nil_append] at s
 refine zk 7 rfl ?_
 have s:=s.ae [2,0,0]
 dsimp only [bringA,getA,aQ] at s
 refine zc rfl (UE hT s (by rw [hl]; decide)) ?_
 rintro v h (⟨I,_,_⟩ | ⟨_,b1,rfl,s⟩)
 ·rw [hd] at I; cases I
 rw [hl] at s
 have hv:=(s.buf (k:=0) rfl).view.cells
 refine zk 4 rfl (zf rfl (eM _ _) (zS rfl (s.ey (k:=2) rfl gR rfl (by decide) hv.1 hv.2) ?_))
 intro h s
 dsimp only [Nat.reduceAdd,List.set,setA] at s
 refine za rfl (zv (zg rfl (zm rfl (zh rfl (af rfl rfl aN) (rfl) (zv (zj rfl (WP.skip (zw (zg rfl (zm rfl (zo rfl (aU rfl rfl rfl (by exact a_ aG (s.aE (k:=3) rfl (bg _ _)))) ?_)))))))))))
 refine zv (WP.block (zg rfl (zt rfl (af rfl rfl eA) (rfl) (za rfl (zv (zi rfl (WP.skip (zg rfl (za rfl (zv (zw (WP.block (WP.loop (zw (zg rfl (zk 3 rfl (zf rfl (eM _ _) (zl rfl (by exact s.ld (k:=2) rfl bJ rfl) ?_))))))))))))))))))
 refine zo rfl (aU rfl rfl rfl (a_ aG (s.aE (k:=0) rfl (bg _ _)))) (zh rfl (af rfl rfl aT) (rfl) (zk 2 rfl (WP.exit (zK 6 rfl (zf rfl (eM _ _) (zl rfl (s.ld (k:=2) rfl bJ rfl) (zo rfl (aU rfl rfl rfl (a_ aG (s.aE (k:=0) rfl (bg _ _)))) (zh rfl (af rfl rfl aT) (rfl) (zk 5 rfl ?_)))))))))
 have s0:=s
 have J:=dz (s.buf (k:=0) rfl).view
 refine WP.drawn [none,none,some (0,2),some (0,2),some (0,2),some (0,2),some (0,2),none] rfl (by kernel_rfl) (by kernel_rfl) ?_
 refine zM rfl (aB.any rfl rfl rfl rfl (OpR.call rfl rfl rfl rfl (BE hT (s.ae [1]))) ?_)
 rintro v h' ⟨rfl,rfl⟩
 refine zM rfl (zN rfl (zF rfl (eM _ _) (zL rfl (s.ld (k:=2) rfl bJ rfl) (zO rfl (aU rfl rfl rfl (a_ aG (s.aE (k:=0) rfl (bg _ _)))) (aB.oD rfl rfl rfl rfl (af rfl rfl aT) (by rw [show δ.xC=0 from hc]; rfl) ?_)))))
 refine aB.nil ⟨⟨aa,aa,fun _ _=>.inr ⟨rfl,⟨_,bz rfl⟩,bq _ rfl⟩,fun _ _=>.inr ⟨rfl,⟨_,oK rfl⟩,bq _ rfl⟩,fun _ _=>.inr ⟨rfl,⟨_,lY rfl (eM _ _)⟩,bq _ rfl⟩,dW (.inr ⟨rfl,⟨_,bh rfl (s0.ld (k:=2) rfl bJ rfl)⟩,J⟩) (.inr ⟨rfl,⟨_,bh rfl (s.ld (k:=2) rfl bJ rfl)⟩,J⟩),dW (.inr ⟨rfl,⟨_,aU rfl rfl rfl (a_ aG (s0.aE (k:=0) rfl (bg _ _)))⟩,bq _ rfl⟩) (.inr ⟨rfl,⟨_,aU rfl rfl rfl (a_ aG (s.aE (k:=0) rfl (bg _ _)))⟩,bq _ rfl⟩),aa,aa⟩,?_⟩
 refine zK 7 rfl (zf rfl (eM _ _) (zl rfl (s.ld (k:=2) rfl bJ rfl) (zo rfl (aU rfl rfl rfl (a_ aG (s.aE (k:=0) rfl (bg _ _)))) (zn rfl (zf rfl (wE _ _) ?_)))))
 refine zS rfl (by exact s.ey (k:=2) rfl kW rfl (by decide) rfl rfl) (fun h s => ?_)
 refine zk 7 rfl (WP.ret ⟨aa,_,rfl,?_⟩)
 have s1:=(s.del 3).oF (k:=1)
 refine ⟨_,rfl,fL.2 ⟨b1,.bw,?_⟩⟩
 exact s1.ae [3,1,0]
theorem Pb (J:W told)(s:Sat h (b8 q p μ::S))(I:μ.Ok): Call ⟨Tryz.prog,told⟩ 84 [.ptr q 0,.int .u64 ((μ.base:Int)+(μ.b.length:Int))] h fun v h'=>v=.bj [.agg (gT 0 0 0 0 .bw .bw),.int .u64 0,.int .i64 17]∧Sat h' (b8 q p μ::S):=by
 refine Call.of_wp (J.free _ rfl) Io rfl rfl (zg rfl ?_)
 refine aA.b5 s rfl rfl rfl (bX qX) (fun p4 h s => ?_)
 refine zk 4 rfl (WP.block (zK 4 rfl ?_))
 have s:=s.ae [1]
 refine zc rfl (A9 J s I.size) ?_
 rintro v h' ⟨rfl,rfl⟩
 refine zt rfl (af rfl rfl eA) (by simp) ?_
 refine zk 5 rfl (zo rfl (c_ rfl (by rw [Ez]; rfl)) ?_)
 refine zS rfl (s.eH (j:=1) rfl gL rfl rfl) (fun h s => ?_)
 refine zk 3 rfl ?_
 refine WP.ret ⟨aa,_,xN rfl (s.cA (k:=1) rfl nD gL) rfl rfl,?_⟩
 exact ⟨rfl,s.del 1⟩
theorem RH (J:W told){n:Nat}(s:Sat h (b8 q p μ::S))(I:μ.Ok)(hn:n<18446744073709551616)(dS:n≠μ.base+μ.b.length)(G2:μ.hasB n=false): Call ⟨Tryz.prog,told⟩ 84 [.ptr q 0,.int .u64 (n:Int)] h fun v h'=>v=.bj [.agg (gT 0 0 0 0 .bw .bw),.int .u64 0,.int .i64 1]∧Sat h' (b8 q p μ::S):=by
 refine Call.of_wp (J.free _ rfl) Io rfl rfl (zg rfl ?_)
 refine aA.b5 s rfl rfl rfl (bX qX) (fun p4 h s => ?_)
 refine zk 4 rfl (WP.block (zK 4 rfl ?_))
 have s:=s.ae [1]
 refine zc rfl (A9 J s I.size) ?_
 rintro v h' ⟨rfl,rfl⟩
 refine zh rfl (af rfl rfl eA) (by simp; omega) ?_
 refine zk 7 rfl (zc rfl (KS (n:=n) J s I hn) ?_)
 rintro v h' ⟨rfl,rfl⟩
 refine zo rfl (eD rfl rfl) (zk 2 rfl (WP.L9 rfl (by rw [G2]; rfl) ?_))
 refine zg rfl (zo rfl (c_ rfl (by rw [Ez]; rfl)) ?_)
 refine zS rfl (s.eH (j:=1) rfl gL rfl rfl) (fun h s => ?_)
 refine zk 3 rfl ?_
 refine WP.ret ⟨aa,_,xN rfl (s.cA (k:=1) rfl nD gL) rfl rfl,?_⟩
 exact ⟨rfl,s.del 1⟩
theorem Ds (hT:W told){n:Nat}(s:Sat h (b8 q p μ::S))(J:μ.Ok)(hn:n<18446744073709551616)(I:n=μ.base+μ.b.length∨μ.hasB n=false): Call ⟨Tryz.prog,told⟩ 84 [.ptr q 0,.int .u64 (n:Int)] h fun v h'=>∃e:Int,e≠0∧v=.bj [.agg (gT 0 0 0 0 .bw .bw),.int .u64 0,.int .i64 e]∧Sat h' (b8 q p μ::S):=by
 by_cases he:n=μ.base+μ.b.length
 ·have:=Pb hT s J
  rw [show ((μ.base:Int)+(μ.b.length:Int))=((n:Nat):Int) by omega] at this
  exact this.mono fun v h' ⟨h1,h2⟩=>⟨17,by decide,h1,h2⟩
 ·rcases I with I | I
  ·exact absurd I he
  ·exact (RH hT s J hn he I).mono fun v h' ⟨h1,h2⟩=>⟨1,by decide,h1,h2⟩
end
section
variable {told:cQ} {h:H} {S:List au} {X Y:au} {r k q p ct a g aH:Nat} {op v x u wh di:V} {l b cX data ob:List Nat} {now:List (Int×List Nat)} {b_:Bool} {ε:aI} {μ:Lg} {δ:Dk}
theorem MF (I:W told){n:Nat}(s:Sat h (dV a p q r op data aH::b8 q p μ::S))(J:μ.Ok)(hn:n<18446744073709551616)(G2:n=μ.base+μ.b.length∨μ.hasB n=false):
  Call ⟨Tryz.prog,told⟩ 87 [.ptr a 0,.int .u64 (n:Int)] h fun v h'=>v=.int .i64 0∧Sat h' (dV a p q r op data aH::b8 q p μ::S):=by
 obtain ⟨dv,s⟩:=cP.1 s
 refine Call.of_wp (I.free _ rfl) Tryz.func87 rfl rfl (zK 6 rfl ?_)
 refine aA.y6 s rfl rfl rfl rfl (fun p18 h s => ?_)
 refine aA.y6 s rfl rfl rfl rfl (fun p19 h s => ?_)
 refine zo rfl (c_ rfl (by rw [Tl]; rfl)) ?_
 refine aA.b5 s rfl rfl rfl (fe rfl rfl) (fun Xb h s => ?_)
 refine zk 5 rfl (zo rfl (GD rfl rfl) (zk 8 rfl (WP.block (WP.loop (WP.block (zK 4 rfl (zf rfl (wD _ _) (zl rfl (s.ld (k:=3) rfl EB rfl) (zm rfl ?_)))))))))
 have s1:=s.ae [5]
 refine zc rfl (Ds (n:=n) I s1 J hn G2) ?_
 rintro v h ⟨e,he,rfl,s⟩
 refine zk 4 rfl ?_
 refine aA.b5 s rfl rfl rfl (bX qX) (fun p8 h s => ?_)
 refine zS rfl (s.eH (j:=0) rfl gL rfl rfl) (fun h s => ?_)
 refine zk 7 rfl (zt rfl (af rfl rfl aN) (by simp; exact he) ?_)
 have s:=ur (f:=fun v (b:List Nat)=>.cx v b) (s.ae [4])
 refine zk 2 rfl (WP.exit (zK 5 rfl (zf rfl (pF _ _) (zl rfl (s.ld (k:=3) rfl jS rfl) (zc rfl (xK I s) ?_)))))
 rintro v h ⟨kb,rfl,s⟩
 refine zc rfl (vb I s (by decide) (by decide) (by simp)) ?_
 intro kv h s
 refine zo rfl (aU rfl rfl rfl (s.iB (n:=0) (j:=0) rfl rfl (by decide) eB)) ?_
 exact zk 2 rfl (WP.block (WP.loop (zg rfl (zh rfl (af rfl rfl aT) (rfl) (zk 3 rfl (WP.exit (zK 5 rfl (zf rfl (pF _ _) (zl rfl (s.ld (k:=5) rfl jS rfl) (zo rfl (aU rfl rfl rfl (HH (s.ae [2]) lp)) (zt rfl (af rfl rfl eA) (rfl) (zk 6 rfl (WP.ret ⟨aa,_,rfl,rfl,((((((cP.2 ⟨dv,s.ae [7,7,4]⟩).del 7).del 6).del 5).del 4).del 3).del 2⟩)))))))))))))
theorem Lg.Is : Lg.fresh.Ok:=⟨by decide,by decide,by simp [Lg.fresh],List.Pairwise.nil,by decide,by decide,by decide⟩
theorem JV (I:W told){n:Nat}(s:Sat h (aR p δ::S))(h1:1≤n)(h2:n≤1024)(J:δ.dead=false)(hm:δ.mark=[])(hl:δ.log=[])(hc:δ.bp=0):
  Call ⟨Tryz.prog,told⟩ 35 [.ptr p 0,.int .i64 (n:Int)] h fun v h'=>∃a q r,v=.bj [.ptr a 0,.int .i64 0]∧Sat h' (dV a p q r .cu [] 0::eF r p q (Pl.fresh n)::b8 q p Lg.fresh::aR p δ::S):=by
 refine Call.of_wp (I.free _ rfl) Tryz.func35 rfl rfl (zK 9 rfl (zh rfl (af rfl rfl aT) (by simp <;> omega) ?_))
 refine zk 2 rfl (zh rfl (af rfl rfl gv) (by simp <;> omega) ?_)
 refine zk 7 rfl (zc rfl (JU I s J hm hl hc) ?_)
 rintro v h ⟨q,rfl,s⟩
 refine zk 10 rfl (zh rfl (af rfl rfl aN) (rfl) (zk 8 rfl (zc rfl (K2 (p:=p) (q:=q) (n:=n) I s) ?_)))
 rintro v h (⟨hn,_,_⟩ | ⟨_,_,r,rfl,s⟩)
 ·omega
 rw [b9] at s
 refine zk 10 rfl (zh rfl (af rfl rfl aN) (rfl) (zk 8 rfl (zo rfl (c_ rfl (by rw [Te]; rfl)) ?_)))
 refine aA.b5 s rfl rfl rfl (fe rfl rfl) (fun p44 h s => ?_)
 refine zk 5 rfl (zc rfl (FG I (s.ae [2])) ?_)
 rintro v h' ⟨rfl,rfl⟩
 refine zk 6 rfl (zc rfl (BF I (s.ae [2])) ?_)
 rintro v h' ⟨rfl,rfl⟩
 refine zk 5 rfl (zh rfl (af rfl rfl aN) (rfl) (zk 8 rfl ?_))
 have s1:=cP.2 ⟨.bw,(s.rI).ae [1,0]⟩
 refine zc rfl (MF (n:=1) I (s1.ae [0,1]) Lg.Is (by decide) (.inl rfl)) ?_
 rintro v h ⟨rfl,s⟩
 exact zk 5 rfl (zh rfl (af rfl rfl aN) (rfl) (zk 9 rfl (WP.ret ⟨aa,_,rfl,_,q,r,rfl,s.ae [0,1,0]⟩)))
end
section
variable {told:cQ} {h:H} {S:List au} {X Y:au} {r k q p ct a g aH:Nat} {op v x u wh di:V} {l b cX data ob:List Nat} {now:List (Int×List Nat)} {b_:Bool} {ε:aI} {μ:Lg} {δ:Dk}
theorem RJ (I:W told)(s:Sat h (dV a p q r op data aH::S)): Call ⟨Tryz.prog,told⟩ 71 [.ptr a 0] h fun v h'=>v=.ptr p 0∧h'=h:=by
 obtain ⟨dv,s⟩:=cP.1 s
 exact Call.of_wp (I.free _ rfl) Tryz.func71 rfl rfl (zK 8 rfl (zf rfl (rf _ _) (zl rfl (s.ld (k:=0) rfl qZ rfl) (zk 2 rfl (WP.ret ⟨aa,_,rfl,rfl,rfl⟩)))))
theorem Pc (J:W told){n:Nat}(s:Sat h (dV a p q r op data aH::b8 q p μ::aR p δ::S))(I:μ.Ok)(hf:δ.aP<4294967296):
  Call ⟨Tryz.prog,told⟩ 34 [.ptr a 0,.int .u64 (n:Int)] h fun v h'=>v=.int .i64 (bE (μ,δ) n).1∧Sat h' (dV a p q r op data aH::b8 q p (bE (μ,δ) n).2.1::aR p (bE (μ,δ) n).2.2::S):=by
 obtain ⟨dv,s⟩:=cP.1 s
 refine Call.of_wp (J.free _ rfl) Tryz.func34 rfl rfl (zK 8 rfl (zf rfl (wD _ _) (zl rfl (s.ld (k:=0) rfl EB rfl) (zm rfl (zc rfl (KW (n:=n) J (s.ae [2,2]) I hf) ?_)))))
 rintro v h ⟨rfl,s⟩
 exact zk 2 rfl (WP.ret ⟨aa,_,rfl,rfl,cP.2 ⟨dv,s.ae [2,2]⟩⟩)
end
section
variable {told:cQ} {h:H} {S:List au} {X Y:au} {r k q p ct a g aH:Nat} {op v x u wh di:V} {l b cX data ob:List Nat} {now:List (Int×List Nat)} {b_:Bool} {ε:aI} {μ:Lg} {δ:Dk}
theorem Dt (I:W told){n m f:Nat}(s:Sat h S)(h1:1≤n)(h2:n≤65536)(h3:m≤16777216)(J:1≤f)(h5:f≤1024):
  Call ⟨Tryz.prog,told⟩ 30 [.int .i64 (n:Int),.int .i64 (m:Int),.int .i64 (f:Int)] h fun v h'=>∃p a q r,v=.bj [.ptr p 0,.ptr a 0] ∧
   Sat h' (dV a p q r .cu [] 0::eF r p q (Pl.fresh f)::b8 q p Lg.fresh::aR p (Dk.fresh n m)::S):=by
 refine Call.of_wp (I.free _ rfl) Tryz.func30 rfl rfl (zK 9 rfl (zc rfl (UG (n:=(n:Int)) (m:=(m:Int)) I s) ?_))
 rintro v h (⟨hn,_,_⟩ | ⟨_,_,_,_,p,rfl,s⟩)
 ·omega
 rw [b9,b9] at s
 refine zk 10 rfl (zh rfl (af rfl rfl aN) (rfl) (zk 2 rfl (zh rfl (af rfl rfl (vh Tryz.underlying62)) (rfl) (zk 8 rfl (zc rfl (JV (n:=f) I s J h5 rfl rfl rfl rfl) ?_)))))
 rintro v h ⟨a,q,r,rfl,s⟩
 exact zk 10 rfl (zh rfl (af rfl rfl aN) (rfl) (zk 2 rfl (zh rfl (af rfl rfl (vh qn)) (rfl) (zk 11 rfl (WP.ret ⟨aa,_,rfl,p,a,q,r,rfl,s⟩)))))
end
end Go.Proofs.YtefepnnfphdkpaaGreat.Am
