/- ChainFull: a part of its proof; conditions: its statement's. -/
import Derived.Test.YtefepnnfphdkpaaGreatD25
set_option linter.defProp false
namespace Go.Proofs.YtefepnnfphdkpaaGreat.Am
open Go
def nP:=@Tryz.underlying24
theorem uV.fit {pg:Int}{c6 now:List Nat}{i:Nat}{l:List dr}(J:uV pg c6 now i l)(hn:now.length=512)(h0:0≤pg)(h1:pg<65536): ∀c∈l,c.Ok∧c.b.length≤512:=by
 induction J with
 | done i h=>intro c I; cases I
 | skip i l h he J ih=>exact ih
 | take i e l h2 h3 _ _ J ih =>
  intro c I
  rcases List.mem_cons.1 I with rfl | I
  ·have hl:((now.take e).drop i).length=e-i:=by simp; omega
   refine ⟨⟨h0,h1,by simp,by simp only; omega,by simp only [hl]; omega,by simp⟩,by simp only [hl]; omega⟩
  ·exact ih c I
theorem KN.fit {pg:Int}{c6 now:List Nat}{l:List dr}(hr:KN pg c6 now l)(hn:now.length=512)(I:0≤pg)(J:pg<65536): ∀c∈l,c.Ok∧c.b.length≤512:=by
 obtain ⟨m,h2,rfl⟩:=hr
 split
 ·intro c hc
  rw [List.mem_singleton.1 hc]
  exact ⟨⟨I,J,by simp,by simp,by simp,by simp⟩,by simp⟩
 ·exact h2.fit hn I J
theorem jN.fit {now:List (Int×List Nat)}{l:List Int}{ε ε':aF}{e:Int}{cs:List dr}(hr:jN now l ε e cs ε')(J:∀x∈now,x.2.length=512)(hl:∀n∈l,0≤n∧n<65536): ∀c∈cs,c.Ok∧c.b.length≤512:=by
 induction hr with
 | nil ε=>intro c hc; cases hc
 | err n l ε e b ε' hr he=>intro c hc; cases hc
 | part n l ε c6 b ε' c e cs kF hr hb hd hc ik ht ih =>
  intro x I
  have hn:=hl n ct
  rcases List.mem_append.1 I with I | I
  ·exact hc.fit (J _ (kE hb)) hn.1 hn.2 x I
  ·exact ih (fun m hm=>hl m (cr _ hm)) x I
 | whole n l ε c6 b ε' e cs kF hr hb hd ht ih =>
  intro x I
  have hn:=hl n ct
  have hb:=J _ (kE hb)
  rcases List.mem_cons.1 I with rfl | I
  ·exact ⟨⟨hn.1,hn.2,by simp,by simp,by simp only at hb ⊢; omega,fun _=>⟨rfl,hb⟩⟩,by simp only at hb ⊢; omega⟩
  ·exact ih (fun m hm=>hl m (cr _ hm)) x I
theorem sg : ∀(f n:Nat),(digits f n).length≤f+1:=by
 intro f
 induction f with
 | zero=>intro n; simp [digits]
 | succ f I =>
  intro n
  unfold digits
  split
  ·simp
  ·have:=I (n/128)
   simp only [aN]
   omega
theorem Sq {c:dr}(I:c.b.length≤512): (lJ c).length≤543:=by
 have J:=sg 9 c.bg.toNat
 have h2:=sg 9 c.pos.toNat
 have h3:=sg 9 c.b.length
 simp only [lJ,bD,aN,bG]
 omega
theorem P9 : ∀ {l:List dr},(∀c∈l,c.b.length≤512)→(l.flatMap lJ).length≤543*l.length:=by
 intro l
 induction l with
 | nil=>intro _; simp
 | cons c l I =>
  intro h
  have h1:=Sq (h c ct)
  have h2:=I fun x J=>h x (cr _ J)
  simp only [sU,bD,aN]
  omega
theorem P_ {l:List dr}{tx pv nx:Nat}{data:List Nat}(hl:l.length≤33554432)(h:∀c∈l,c.Ok∧c.b.length≤512)(J:tx<18446744073709551616)(Oz:pv<18446744073709551616)(Cq:nx<18446744073709551616)(hd:data.length≤35184372088832): AD tx pv nx data l:=by
 have h2:=P9 fun c I=>(h c I).2
 refine ⟨⟨by omega,fun c I=>by have:=(h c I).2; omega,fun c I => ?_⟩,J,Oz,Cq,by omega⟩
 have:=(h c I).1
 simp only [dr.Ok] at this
 omega
theorem Em {l:List dr}{kd:Int}(I:1≤kd∧kd≤9)(h:∀c∈l,c.Ok∧c.b.length≤512): dZ kd l=true:=by
 simp only [dZ,aH,dz,ob]
 exact ⟨I,fun c J=>(h c J).1⟩
inductive wk (ε:aF)(now:List (Int×List Nat))(kd:Int)(tx pv nx:Nat)(data:List Nat)(nX:Nat): Nat→Int→Bool→aF→Prop where
 | arg (h:¬(1≤kd∧kd≤7)∨0<nX):wk ε now kd tx pv nx data nX 0 1 false ε
 | dead (h1:1≤kd) (h2:kd≤7) (h3:nX=0) (h:ε.2.2.dead=true):wk ε now kd tx pv nx data nX 0 9 false ε
 | o5 (e:Int) (c:List dr) (ε':aF) (h1:1≤kd) (h2:kd≤7) (h3:nX=0) (h:ε.2.2.dead=false) (hc:jN now (ei now) ε e c ε') (he:e≠0):wk ε now kd tx pv nx data nX 0 e false ε'
 | app (c:List dr) (ε':aF) (h1:1≤kd) (h2:kd≤7) (h3:nX=0) (h:ε.2.2.dead=false) (hc:jN now (ei now) ε 0 c ε') (he:(bx ε'.2 kd tx pv nx data c).1.2≠0):wk ε now kd tx pv nx data nX 0 (bx ε'.2 kd tx pv nx data c).1.2 false (ε'.1,(bx ε'.2 kd tx pv nx data c).2)
 | put (c:List dr) (ε':aF) (e:Int) (kF:aF) (h1:1≤kd) (h2:kd≤7) (h3:nX=0) (h:ε.2.2.dead=false) (hc:jN now (ei now) ε 0 c ε') (ha:(bx ε'.2 kd tx pv nx data c).1.2=0) (hp:o8 now (bx ε'.2 kd tx pv nx data c).1.1 (ei now) (ε'.1,(bx ε'.2 kd tx pv nx data c).2) e kF) :
   wk ε now kd tx pv nx data nX (if e=0 then (bx ε'.2 kd tx pv nx data c).1.1 else 0) e true kF
structure si (ε ε':aF): Prop where
 base:ε'.2.1.base=ε.2.1.base
 b:ε'.2.1.b=ε.2.1.b
 cx:ε'.2.1.cx=ε.2.1.cx
 check:ε'.2.1.check=ε.2.1.check
 log:ε'.2.2.log=ε.2.2.log
 room:ε'.2.2.room=ε.2.2.room
 bh:ε'.2.2.bh=ε.2.2.bh
theorem si.refl (ε:aF): si ε ε:=⟨rfl,rfl,rfl,rfl,rfl,rfl,rfl⟩
theorem si.trans {a b c:aF}(x:si a b)(y:si b c): si a c :=
 ⟨y.base.trans x.base,y.b.trans x.b,y.cx.trans x.cx,y.check.trans x.check,y.log.trans x.log,y.room.trans x.room,y.bh.trans x.bh⟩
theorem l_ {δ:Dk}: δ.gn.2.log=δ.log∧δ.gn.2.room=δ.room∧δ.gn.2.bh=δ.bh:=by
 unfold Dk.gn
 split
 ·exact ⟨rfl,rfl,rfl⟩
 ·split <;> exact ⟨rfl,rfl,rfl⟩
theorem uE {δ:Dk}{n:Int}{b:List Nat}: (δ.cU n b).2.log=δ.log∧(δ.cU n b).2.room=δ.room∧(δ.cU n b).2.bh=δ.bh:=by
 unfold Dk.cU
 split
 ·exact ⟨rfl,rfl,rfl⟩
 ·split
  ·exact ⟨rfl,rfl,rfl⟩
  ·split <;> exact ⟨rfl,rfl,rfl⟩
theorem En {π:Pl}{x:LD}{n:Nat}: si (π,x) (π,(bT x n).2):=by
 unfold bT
 split
 ·exact si.refl _
 ·split
  ·exact ⟨rfl,rfl,rfl,rfl,l_.1,l_.2.1,l_.2.2⟩
  ·exact ⟨rfl,rfl,rfl,rfl,l_.1,l_.2.1,l_.2.2⟩
theorem si.to {π:Pl}{ε ε':aF}(h:si ε ε'): si ε (π,ε'.2):=⟨h.base,h.b,h.cx,h.check,h.log,h.room,h.bh⟩
structure kL (R:LD→Prop): Prop where
 force:∀(x:LD) (n:Nat),R x→R (bT x n).2
 write:∀(x:LD) (n:Int) (b:List Nat),R x→R (x.1,(x.2.cU n b).2)
section
variable {R:LD→Prop} {ε ε':aF} {n e:Int} {b:List Nat} {now bI:List (Int×List Nat)} {bL:Bool} {l:List Int} {cs:List dr} {aP:Nat}
theorem kL.out (h:kL R){ε:aF}{i:Nat}(I:R ε.2): R (outF ε i).2.2:=by
 unfold outF
 split
 ·exact I
 ·split
  ·exact I
  ·split
   ·exact I
   ·split
    ·exact h.force _ _ I
    ·split
     ·exact h.write _ _ _ (h.force _ _ I)
     ·exact h.write _ _ _ (h.force _ _ I)
theorem kL.gU (h:kL R)(hr:eO ε n e b ε')(J:R ε.2): R ε'.2:=by
 cases hr with
 | arg hn=>exact J
 | AF i f h1 h2 hl hf=>exact J
 | out I i f h1 h2 hl hn hf hh he=>exact h.out (ε:=(I,ε.2)) J
 | read I i f h1 h2 hl hn hf hh he hr=>exact h.out (ε:=(I,ε.2)) J
 | bad I i f h1 h2 hl hn hf hh he hr hc=>exact h.out (ε:=(I,ε.2)) J
 | load I i f h1 h2 hl hn hf hh he hr hc=>exact h.out (ε:=(I,ε.2)) J
theorem kL.rd (h:kL R)(I:k9 ε n e b ε')(J:R ε.2): R ε'.2:=by
 cases I with
 | dead hd=>exact J
 | gU e b ε' hd I he=>exact h.gU I J
 | qh b ε' hd I he=>exact h.gU (ε':=ε') I J
 | read b ε' hd I he=>exact h.gU (ε':=ε') I J
theorem kL.wm (h:kL R)(J:nj ε now bL n e b ε')(I:R ε.2): R ε'.2:=by
 cases J with
 | arg hn=>exact I
 | bL _ _ _=>exact I
 | own b h1 h2 _ hl=>exact I
 | read e b ε' h1 h2 _ hl J=>exact h.rd J I
theorem kL.KS (h:kL R)(I:rF ε now bL n b e bI ε')(J:R ε.2): R ε'.2:=by
 cases I with
 | may e c ε' I he=>exact h.wm I J
 | bad c ε' I hg=>exact h.wm I J
 | done c ε' I hg=>exact h.wm I J
theorem kL.ch (h:kL R)(I:jN now l ε e cs ε'): R ε.2→R ε'.2:=by
 induction I with
 | nil ε=>exact fun J=>J
 | err n l ε e b ε' I he=>exact h.rd I
 | part n l ε c6 b ε' c e cs kF I hb hd hc ik ht ih=>exact fun J=>ih (h.rd I J)
 | whole n l ε c6 b ε' e cs kF I hb hd ht ih=>exact fun J=>ih (h.rd I J)
theorem kL.pt (h:kL R)(I:o8 now aP l ε e ε'): R ε.2→R ε'.2:=by
 induction I with
 | nil ε=>exact fun J=>J
 | gU n l ε e b ε' I he=>exact h.gU I
 | bad n l ε b0 b ε' I hb he=>exact h.gU (ε':=ε') I
 | put n l ε b0 b ε' e kF I hb he ht ih=>exact fun J=>ih (h.gU (ε':=ε') I J)
theorem KT (ε:aF): kL fun y=>si ε (ε.1,y) :=
 ⟨fun _ _ h=>h.trans En,fun _ _ _ h=>h.trans ⟨rfl,rfl,rfl,rfl,uE.1,uE.2.1,uE.2.2⟩⟩
theorem jN.same (I:jN now l ε e cs ε'): si ε ε':=((KT ε).ch I (si.refl ε)).to
end
theorem M6 {m:Nat}: ∀ {l:List Nat},l.Pairwise (· < ·)→(∀s∈l,s<m)→l.length≤m:=by
 intro l I J
 have key:∀(l:List Nat) (k:Nat),l.Pairwise (· < ·)→(∀s∈l,k≤s∧s<m)→k+l.length≤m∨l=[]:=by
  intro l
  induction l with
  | nil=>intro k _ _; exact .inr rfl
  | cons x l ih =>
   intro k I J
   simp only [n_] at I
   have hx:=J x ct
   rcases ih (x+1) I.2 (fun s hs=>⟨I.1 s hs,(J s (cr _ hs)).2⟩) with h | rfl
   ·left; simp only [aN]; omega
   ·left; simp; omega
 rcases key l 0 I (fun s hs=>⟨fh _,J s hs⟩) with h | rfl
 ·omega
 ·simp
theorem mc (x:LD)(kd:Int)(tx pv nx:Nat)(data:List Nat)(c:List dr):
  (∃e:Int,e≠0∧((e=1∧dZ kd c=false)∨(e=2∧1048576<(eD kd tx pv nx data c).length)∨(e=9∧x.2.dead=true)∨(e=7∧x.2.room<x.2.log.length+(dB x.1 kd tx pv nx data c).length))∧bx x kd tx pv nx data c=((0,e),x)) ∨
  (x.2.dead=false∧x.2.bS=0∧bx x kd tx pv nx data c=((0,9),(x.1,{ x.2.die with tail:=dB x.1 kd tx pv nx data c }))) ∨
  (dZ kd c=true∧(eD kd tx pv nx data c).length≤1048576∧x.2.dead=false∧x.2.log.length+(dB x.1 kd tx pv nx data c).length≤x.2.room∧x.2.bS≠0 ∧
   bx x kd tx pv nx data c=((x.1.base+x.1.b.length,0),(x.1.app (dB x.1 kd tx pv nx data c),{ x.2.fV with log:=x.2.log++dB x.1 kd tx pv nx data c }))):=by
 by_cases I:dZ kd c=false
 ·exact .inl ⟨1,by decide,.inl ⟨rfl,I⟩,by rw [bx,ax I]⟩
 ·by_cases J:1048576<(eD kd tx pv nx data c).length
  ·exact .inl ⟨2,by decide,.inr (.inl ⟨rfl,J⟩),by rw [bx,ai I,ax J]⟩
  ·by_cases hd:x.2.dead=true
   ·have e:x.2.je (dB x.1 kd tx pv nx data c)=(9,x.2):=by rw [Dk.je,ax hd]
    exact .inl ⟨9,by decide,.inr (.inr (.inl ⟨rfl,hd⟩)),by rw [bx,ai I,ai J,e,ax (by simp)]⟩
   ·by_cases hr:x.2.room<x.2.log.length+(dB x.1 kd tx pv nx data c).length
    ·have e:x.2.je (dB x.1 kd tx pv nx data c)=(7,x.2):=by rw [Dk.je,ai hd,ax hr]
     exact .inl ⟨7,by decide,.inr (.inr (.inr ⟨rfl,hr⟩)),by rw [bx,ai I,ai J,e,ax (by simp)]⟩
    ·by_cases hf:x.2.bS=0
     ·have e:x.2.je (dB x.1 kd tx pv nx data c)=(9,{ x.2.die with tail:=dB x.1 kd tx pv nx data c }):=by rw [Dk.je,ai hd,ai hr,ax hf]
      exact .inr (.inl ⟨by simpa using hd,hf,by rw [bx,ai I,ai J,e,ax (by simp)]⟩)
     ·have e:x.2.je (dB x.1 kd tx pv nx data c)=(0,{ x.2.fV with log:=x.2.log++dB x.1 kd tx pv nx data c }):=by rw [Dk.je,ai hd,ai hr,ai hf]
      exact .inr (.inr ⟨by simpa using I,by omega,by simpa using hd,by omega,hf,by rw [bx,ai I,ai J,e,ai (by simp)]⟩)
theorem yt {x:LD}{kd:Int}{tx pv nx:Nat}{data:List Nat}{c:List dr}(J:x.1.Ok)(I:x.2.Ok)(hs:x.1.b=x.2.log)(hz:x.1.base+x.1.b.length+1048584≤1099511627776):
  (bx x kd tx pv nx data c).2.1.Ok∧(bx x kd tx pv nx data c).2.2.Ok∧(bx x kd tx pv nx data c).2.1.b=(bx x kd tx pv nx data c).2.2.log∧(bx x kd tx pv nx data c).2.1.base=x.1.base∧(bx x kd tx pv nx data c).2.1.b.length≤x.1.b.length+1048584 ∧
  (bx x kd tx pv nx data c).2.2.waiting=x.2.waiting∧(bx x kd tx pv nx data c).1.1<1099511627776:=by
 have hlen:(dB x.1 kd tx pv nx data c).length=8+(eD kd tx pv nx data c).length:=uz _ _
 rcases mc x kd tx pv nx data c with ⟨e,_,_,h⟩ | ⟨hd,hf,h⟩ | ⟨hg,hb,hd,eS,hf,h⟩
 ·rw [h]; exact ⟨J,I,hs,rfl,Bc _ _,rfl,by simp⟩
 ·rw [h]; exact ⟨J,⟨I.bS,I.len,I.room,I.now,I.bh,I.eu,I.many⟩,hs,rfl,Bc _ _,rfl,by simp⟩
 ·rw [h]
  generalize dB x.1 kd tx pv nx data c=rc at hlen eS
  have Yc:=I.room
  have kZ:x.1.b.length=x.2.log.length:=by rw [hs]
  have hl:(x.1.b++rc).length=x.1.b.length+rc.length:=bD
  have js:(x.2.log++rc).length=x.2.log.length+rc.length:=bD
  refine ⟨⟨?_,?_,?_,?_,?_,?_,J.check⟩,⟨I.fV.bS,?_,I.room,I.now,I.bh,?_,I.many⟩,?_,rfl,?_,rfl,?_⟩
  ·show x.1.base+(x.1.b++rc).length≤_; omega
  ·have h1:=M6 J.BS J.low
   show (x.1.cx++[x.1.b.length]).length≤_
   simp only [bD,aN,bG]; omega
  ·intro s hm
   show s<(x.1.b++rc).length
   rcases List.mem_append.1 (show s∈x.1.cx++[x.1.b.length] from hm) with hm | hm
   ·have:=J.low s hm; omega
   ·rw [List.mem_singleton.1 hm]; omega
  ·show (x.1.cx++[x.1.b.length]).Pairwise (·< ·)
   rw [List.pairwise_append]
   refine ⟨J.BS,List.pairwise_singleton _ _,fun a ha b hb => ?_⟩
   rw [List.mem_singleton.1 hb]
   exact J.low a ha
  ·have:=J.forced
   show x.1.forced≤(x.1.b++rc).length; omega
  ·show (x.1.b++rc).length≤_; omega
  ·show (x.2.log++rc).length≤_; omega
  ·have:=I.eu
   show x.2.eu≤(x.2.log++rc).length; omega
  ·show x.1.b++rc=x.2.log++rc; rw [hs]
  ·show (x.1.b++rc).length≤_; omega
  ·show x.1.base+x.1.b.length<_; omega
theorem wf_i64 {n:Int}(I:0≤n)(J:n<4294967296): (Lit.int .i64 n).wf=true:=by
 simp only [Lit.wf,aH,dz]
 have e1:IntKind.min .i64 = -9223372036854775808:=rfl
 have e2:IntKind.max .i64=9223372036854775807:=rfl
 omega
theorem Qa {kd:Int}{tx pv nx:Nat}{I ch:V}(hd:I.beq I=true)(J:ch.beq ch=true): (V.agg (nL kd tx pv nx I ch)).beq (V.agg (nL kd tx pv nx I ch))=true:=by
 simp only [nL,V.beq,V.beqL,hd,J,cW,kJ,td,gK,af]
section
variable {told:cz} {h:H} {S:List aq} {X Y:aq} {r k q p bQ a g bf:Nat} {op v x u wh di:V} {l b c6 data me:List Nat} {now:List (Int×List Nat)} {bL:Bool} {ε:aF}
theorem Qb (hT:W told){kd:Int}{tx pv nx nX:Nat}{dt ch:V}{UY:List V}(s:Sat h (fy g a now false::dR a p q r (.ptr g 0) me bf::dQ r p q ε.1::cf q p ε.2.1::bz p ε.2.2::X::.arr 4 ch UY::S))(hX:cT X (cY dt data))(Ak:UY.length=nX*4)(eB:iT ε)(hw:cA ε+65536≤268435456)
 (uD:∀e∈now,e.2.length=512)(hm:now.length≤65536)(hk:∀n∈now.map (·.1),0≤n∧n<65536)(KE:tx<18446744073709551616)(Oz:pv<18446744073709551616)(Cq:nx<18446744073709551616)(hd:data.length≤35184372088832)(Wf:ε.2.1.b=ε.2.2.log)(hz:ε.2.1.base+ε.2.1.b.length+1048584≤1099511627776):
  Call ⟨Tryz.prog,told⟩ 26 [.ptr g 0,.agg (nL kd tx pv nx dt ch)] h fun v h'=>∃aP e cl ε',wk ε now kd tx pv nx data nX aP e cl ε'∧v=.aX [.int .u64 (aP:Int),.int .i64 e] ∧
   Sat h' (fy g a now cl::dR a p q r (cond cl .cO (.ptr g 0)) me bf::dQ r p q ε'.1::cf q p ε'.2.1::bz p ε'.2.2::X::S):=by
 have hG:∀n∈now.map (·.1),(Lit.int .i64 n).wf=true:=fun n hn=>by
  have:=hk n hn
  exact wf_i64 (by omega) (by omega)
 have r7:=s.kV (j:=6) rfl
 have uU:=s.aG (k:=5) rfl hX
 have jK:=vV (kd:=kd) (tx:=tx) (pv:=pv) (nx:=nx) uU.cells.2 r7.2.1
 have hlen:=s.dJ (n:=nX) (j:=6) rfl Ak (by decide) jm
 have s0:=s
 obtain ⟨nv,s⟩:=dD.1 s
 refine Call.of_wp (hT.free _ rfl) Tryz.func26 rfl rfl (zg rfl (az.cJ s rfl rfl rfl (fR rfl jK) ?_))
 intro p1 h s
 dsimp only [V.cells] at s
 have s:Sat h (pt p1 (.cells 6 (nL kd tx pv nx dt ch) false)::_):=s
 have hlen:=s.dJ (n:=nX) (j:=8) rfl Ak (by decide) jm
 refine zk 7 rfl (zf rfl (m_ _ _) (zl rfl (s.ld (k:=1) rfl vG rfl) (zk 3 rfl (WP.block (zK 4 rfl (zf rfl (xn _ _) (zh rfl (aS rfl (s.ld (k:=1) rfl nU rfl)) (rfl) (zk 5 rfl (zf rfl (vH _ _) (zl rfl (s.ld (k:=0) rfl dS rfl) ?_))))))))))
 have fin:∀e:Int,Sat h (fy g a now false::dR a p q r (.ptr g 0) me bf::dQ r p q ε.1::cf q p ε.2.1::bz p ε.2.2::X::S):=fun e=>((dD.2 ⟨nv,s.ae [1,1]⟩).del 7).del 1
 refine zd rfl (ag rfl rfl aR) ?_ ?_
 ·intro hq
  have hq:kd<1:=by simpa using hq
  exact zk 19 rfl (WP.ret ⟨aa,_,rfl,0,1,false,ε,.arg (.inl (by omega)),rfl,fin 0⟩)
 ·intro hq
  have hq:1≤kd:=by simp at hq; omega
  refine zm rfl (zf rfl (vH _ _) (zl rfl (s.ld (k:=0) rfl dS rfl) ?_))
  refine zd rfl (ag rfl rfl gA) ?_ ?_
  ·intro J
   have J:7<kd:=by simpa using J
   exact zk 15 rfl (WP.ret ⟨aa,_,rfl,0,1,false,ε,.arg (.inl (by omega)),rfl,fin 0⟩)
  ·intro J
   have J:kd≤7:=by simp at J; omega
   refine zk 2 rfl (zf rfl (rj _ _) (zl rfl (s.ld (k:=0) rfl BF rfl) (zo rfl (aO rfl rfl rfl hlen) ?_)))
   refine zd rfl (ag rfl rfl gA) ?_ ?_
   ·intro I
    have I:0<nX:=by simp at I; omega
    exact zk 9 rfl (WP.ret ⟨aa,_,rfl,0,1,false,ε,.arg (.inr I),rfl,fin 0⟩)
   ·intro I
    have I:nX=0:=by simp at I; omega
    obtain ⟨dv,s⟩:=cS.1 (s.ae [3])
    dsimp only [bringA,getA,aZ] at s
    refine zk 8 rfl (zf rfl (xp _ _) (zl rfl (s.ld (k:=0) rfl sD rfl) (zc rfl (D3 hT (s.ae [7])) ?_)))
    rintro v h ⟨rfl,rfl⟩
    refine zk 2 rfl ?_
    cases vm:ε.2.2.dead with
    | true =>
     refine zK 6 rfl (WP.ret ⟨aa,_,rfl,?_⟩)
     have s9:=dD.2 ⟨nv,(cS.2 ⟨dv,s⟩).ae [2,2]⟩
     dsimp only [bringA,getA,aZ] at s9
     exact ⟨0,9,false,ε,.dead hq J I vm,rfl,(s9.del 7).del 2⟩
    | false =>
     refine zj rfl (WP.skip (zg rfl (za rfl (zv (zw (zg rfl (zm rfl ?_)))))))
     have s9:=dD.2 ⟨nv,(cS.2 ⟨dv,s⟩).ae [2,2]⟩
     dsimp only [bringA,getA,aZ] at s9
     have s:=s9.ae [0,0,1,1,1]
     dsimp only [bringA,getA,aZ] at s
     refine zc rfl (IM hT s eB (by omega) uD hm hG) ?_
     rintro v h ⟨e,c,ε',hc,(⟨he,rfl,s⟩ | ⟨rfl,ik,av,cs,rfl,s⟩)⟩
     ·refine az.op rfl rfl rfl (b8 rfl) ?_
      refine zk 2 rfl (zf rfl (rj _ _) ?_)
      refine zS rfl (by exact s.iX (k:=5) rfl RU rfl (by decide) rfl rfl) (fun h s => ?_)
      dsimp only [nL,Nat.reduceAdd,List.set,setA] at s
      refine zk 5 rfl (zt rfl (ag rfl rfl aI) (by simp; exact he) ?_)
      exact zk 8 rfl (WP.ret ⟨aa,_,rfl,0,e,false,ε',.o5 e c ε' hq J I vm hc he,rfl,(s.del 7).del 5⟩)
     ·have OC:=s.kV (j:=0) rfl
      have wo:=hc.mE eB
      have XS:=hc.cA
      have o6:=hc.same
      have Sr:=yt (x:=ε'.2) (kd:=kd) (tx:=tx) (pv:=pv) (nx:=nx) (data:=data) (c:=c) wo.ok.lg wo.ok.dk (by rw [o6.b,o6.log]; exact Wf) (by rw [o6.base,o6.b]; exact hz)
      have eS:=hc.fit uD fun n hn=>hk n ((fG _).mem_iff.1 hn)
      refine zk 3 rfl (zf rfl (rj _ _) (zS rfl (s.iX (k:=7) rfl RU rfl (show 0+5<6 by decide) OC.1 OC.2.1) ?_))
      intro h s
      dsimp only [nL,Nat.reduceAdd,List.set,setA] at s
      refine zk 5 rfl (zh rfl (ag rfl rfl aI) (rfl) ?_)
      obtain ⟨dv,s⟩:=cS.1 (s.ae [3])
      dsimp only [bringA,getA,aZ] at s
      have s:=s.ae [6,6,7,2,2,0,3]
      dsimp only [bringA,getA,aZ] at s
      refine zv (zj rfl (WP.skip (zw ?_)))
      have s0:=s
      have Wg:=jd uU
      have Z3:=Qa (kd:=kd) (tx:=tx) (pv:=pv) (nx:=nx) Wg OC.2.2
      refine WP.drawn [ak,ak,ak,ak,ak,ak,ak,ak,ak,ak,ak] rfl (by kernel_rfl) (by kernel_rfl) ?_
      refine zM rfl (zN rfl (zF rfl (Gz _ _) (zL rfl (s.ld (k:=5) rfl Mq rfl) (zL rfl (s.c5 (k:=6) rfl BG ur) (aB.any rfl rfl rfl rfl (OpR.call rfl rfl rfl rfl (ML (kd:=kd) (tx:=tx) (pv:=pv) (nx:=nx) hT s hX (P_ ik eS KE Oz Cq hd) wo.ok.lg wo.ok.dk)) ?_)))))
      rintro v h ⟨rfl,s⟩
      refine zM rfl (zO rfl (rY rfl rfl) (zO rfl (rY rfl rfl) (zA rfl (zA rfl ?_))))
      refine aB.nil ⟨⟨aa,aa,aa,aa,aa,aa,aa,aa,aa,aa,aa,aa⟩,?_⟩
      refine zK 4 rfl ?_
      have s9:=cS.2 ⟨dv,s.ae [5,6]⟩
      have s:=((((s9.ae [7,0,6,0,0,0]).del 9).del 8).del 7).del 6
      by_cases he:(bx ε'.2 kd tx pv nx data c).1.2=0
      ·skip
       refine zh rfl (ag rfl rfl aI) (by simp; exact he) ?_
       refine zk 6 rfl (zc rfl (Cw hT s) ?_)
       rintro v h ⟨rfl,s⟩
       obtain ⟨nv,s⟩:=dD.1 s
       obtain ⟨tR,rfl⟩:=DT s (j:=1) rfl
       refine zk 6 rfl (zf rfl (oA _ _) (zl rfl (s.ld (k:=0) rfl mF rfl) (zc rfl (yO hT s) ?_)))
       rintro v h ⟨kb,rfl,s⟩
       refine zc rfl (v8 hT (s.ae [0,1]) (by decide) (by omega) hG) ?_
       intro kv h s
       have hl:(ei now).length=now.length:=by rw [ei,(fG _).length_eq,er]
       refine zo rfl (aO rfl rfl rfl (s.dJ (n:=(ei now).length) (j:=0) rfl (by simp [gr]) (by decide) bO)) ?_
       refine zk 2 rfl (WP.block ?_)
       obtain ⟨Zv,es,clock,M7,hb,jU,s⟩:=gj.1 (s.ae [2])
       injection M7 with M7
       subst M7
       obtain ⟨dv,s⟩:=cS.1 (s.ae [5])
       have s:=s.ae [6,2,2,0,3,3,3,1]
       refine KR (op:=.cO) (dv:=dv) hT (ks:=ei now) (now:=now) (aP:=(bx ε'.2 kd tx pv nx data c).1.1) (by omega) (fun n hn => ?_) uD (ei now).length 0 (ε'.1,(bx ε'.2 kd tx pv nx data c).2) _ _ _ (by omega) ?_ ?_ s ⟨rfl,rfl,rfl,rfl,rfl,rfl,aa⟩ (fun e kF E' h' hp zP l4 l5 s' => ?_) (fun kF E' h' hp lI s' => ?_)
       ·have:n∈now.map (·.1):=(fG _).mem_iff.1 hn
        cases hq:lookL n now with
        | some _=>rfl
        | none=>exact absurd this (nI.1 hq)
       ·exact ⟨⟨wo.ok.pl,Sr.1,Sr.2.1⟩,wo.pins,wo.full⟩
       ·have e1:cA (ε'.1,(bx ε'.2 kd tx pv nx data c).2)=cA ε':=by simp only [cA,Sr.2.2.2.2.2.1]
        rw [e1,hl]; omega
       ·rw [fg] at hp
        have e4:look E' 4=some (.int .u64 ((0:Nat):Int)):=l4
        refine ⟨aa,_,IL e4 l5,0,e,true,kF,?_,rfl,?_⟩
        ·have:=wk.put (data:=data) c ε' e kF hq J I vm hc he hp
         rwa [ai zP] at this
        ·have s3:=cS.2 ⟨dv,s'.ae [3,6]⟩
         have s4:=gj.2 ⟨tR,es,clock,rfl,hb,jU,s3.ae [2,2]⟩
         exact dD.2 ⟨.map tR,(s4.ae [2,0,0,0,0,0,1]).del 7⟩
       ·rw [fg] at hp
        have s:=s'
        refine WP.has lI (zK 6 rfl (WP.ret ⟨aa,_,rfl,?_⟩))
        refine ⟨_,0,true,kF,?_,rfl,?_⟩
        ·have:=wk.put (data:=data) c ε' 0 kF hq J I vm hc he hp
         exact this
        ·have s3:=cS.2 ⟨dv,s.ae [3,6]⟩
         have s4:=gj.2 ⟨tR,es,clock,rfl,hb,jU,s3.ae [2,2]⟩
         dsimp only [bringA,getA,aZ] at s4
         exact dD.2 ⟨.map tR,(s4.ae [2,0,0,0,0,0,1]).del 7⟩
      ·skip
       refine zt rfl (ag rfl rfl aI) (by simp; exact he) ?_
       exact zk 8 rfl (WP.ret ⟨aa,_,rfl,0,_,false,_,.app c ε' hq J I vm hc he,rfl,s⟩)
end
def Lg.fresh : Lg:={ base:=1,b:=[],cx:=[],forced:=0,check:=0 }
theorem OD {P:Program}{E:List (Nat×V)}{h:H}{a b c t:Nat}{p v w x:V}(I:look E a=some p)(hd:loadV P h t p=some v)(J:look E b=some w)(h3:look E c=some x): jZ P E h [.cell a t,.tmp b,.tmp c]=some (.aX [v,w,x]):=by
 simp only [jZ,mapO,resE,I,hd,J,h3]
section
variable {told:cz} {h:H} {S:List aq} {X Y:aq} {r k q p bQ a g bf:Nat} {op v x u wh di:V} {l b c6 data me:List Nat} {now:List (Int×List Nat)} {bL:Bool} {ε:aF} {μ:Lg} {δ:Dk}
theorem FQ (hT:W told)(s:Sat h (bz p δ::S))(hd:δ.dead=false)(hm:δ.mark=[])(hl:δ.log=[])(hc:δ.eu=0):
  Call ⟨Tryz.prog,told⟩ 80 [.ptr p 0] h fun v h'=>∃q,v=.aX [.ptr q 0,.int .i64 0]∧Sat h' (cf q p Lg.fresh::bz p δ::S):=by
 refine Call.of_wp (hT.free _ rfl) Tryz.func80 rfl rfl (zK 8 rfl (zc rfl (Iy hT s (by rw [hm]; decide)) ?_))
 rintro v h (⟨I,_,_⟩ | ⟨_,b0,rfl,s⟩)
 ·rw [hd] at I; cases I
 rw [hm] at s
 refine zk 10 rfl (zh rfl (ag rfl rfl aI) (rfl) (zk 6 rfl (zo rfl (cM rfl (by rw [TA]; rfl)) ?_)))
 refine az.cJ s rfl rfl rfl (fR rfl rfl) (fun X4 h s => ?_)
 dsimp only [V.cells,List.take,List.length_cons,List.length_nil,Nat.reduceAdd,List.drop,List.cons_append,List.nil_append] at s
 refine zk 7 rfl ?_
 have s:=s.ae [2,0,0]
 dsimp only [bringA,getA,aZ] at s
 refine zc rfl (PI hT s (by rw [hl]; decide)) ?_
 rintro v h (⟨I,_,_⟩ | ⟨_,b1,rfl,s⟩)
 ·rw [hd] at I; cases I
 rw [hl] at s
 have hv:=(s.buf (k:=0) rfl).view.cells
 refine zk 4 rfl (zf rfl (kq _ _) (zS rfl (s.iX (k:=2) rfl kI rfl (by decide) hv.1 hv.2) ?_))
 intro h s
 dsimp only [Nat.reduceAdd,List.set,setA] at s
 refine za rfl (zv (zg rfl (zm rfl (zh rfl (ag rfl rfl aI) (rfl) (zv (zj rfl (WP.skip (zw (zg rfl (zm rfl (zo rfl (aO rfl rfl rfl (by exact aW aJ (s.aG (k:=3) rfl (bj _ _)))) ?_)))))))))))
 refine zv (WP.block (zg rfl (zt rfl (ag rfl rfl e_) (rfl) (za rfl (zv (zi rfl (WP.skip (zg rfl (za rfl (zv (zw (WP.block (WP.loop (zw (zg rfl (zk 3 rfl (zf rfl (kq _ _) (zl rfl (by exact s.ld (k:=2) rfl bK rfl) ?_))))))))))))))))))
 refine zo rfl (aO rfl rfl rfl (aW aJ (s.aG (k:=0) rfl (bj _ _)))) (zh rfl (ag rfl rfl aR) (rfl) (zk 2 rfl (WP.exit (zK 6 rfl (zf rfl (kq _ _) (zl rfl (s.ld (k:=2) rfl bK rfl) (zo rfl (aO rfl rfl rfl (aW aJ (s.aG (k:=0) rfl (bj _ _)))) (zh rfl (ag rfl rfl aR) (rfl) (zk 5 rfl ?_)))))))))
 have s0:=s
 have J:=jd (s.buf (k:=0) rfl).view
 refine WP.drawn [none,none,some (0,2),some (0,2),some (0,2),some (0,2),some (0,2),none] rfl (by kernel_rfl) (by kernel_rfl) ?_
 refine zM rfl (aB.any rfl rfl rfl rfl (OpR.call rfl rfl rfl rfl (FD hT (s.ae [1]))) ?_)
 rintro v h' ⟨rfl,rfl⟩
 refine zM rfl (zN rfl (zF rfl (kq _ _) (zL rfl (s.ld (k:=2) rfl bK rfl) (zO rfl (aO rfl rfl rfl (aW aJ (s.aG (k:=0) rfl (bj _ _)))) (aB.nE rfl rfl rfl rfl (ag rfl rfl aR) (by rw [show δ.D2=0 from hc]; rfl) ?_)))))
 refine aB.nil ⟨⟨aa,aa,fun _ _=>.inr ⟨rfl,⟨_,b8 rfl⟩,bP _ rfl⟩,fun _ _=>.inr ⟨rfl,⟨_,uo rfl⟩,bP _ rfl⟩,fun _ _=>.inr ⟨rfl,⟨_,nC rfl (kq _ _)⟩,bP _ rfl⟩,eZ (.inr ⟨rfl,⟨_,aS rfl (s0.ld (k:=2) rfl bK rfl)⟩,J⟩) (.inr ⟨rfl,⟨_,aS rfl (s.ld (k:=2) rfl bK rfl)⟩,J⟩),eZ (.inr ⟨rfl,⟨_,aO rfl rfl rfl (aW aJ (s0.aG (k:=0) rfl (bj _ _)))⟩,bP _ rfl⟩) (.inr ⟨rfl,⟨_,aO rfl rfl rfl (aW aJ (s.aG (k:=0) rfl (bj _ _)))⟩,bP _ rfl⟩),aa,aa⟩,?_⟩
 refine zK 7 rfl (zf rfl (kq _ _) (zl rfl (s.ld (k:=2) rfl bK rfl) (zo rfl (aO rfl rfl rfl (aW aJ (s.aG (k:=0) rfl (bj _ _)))) (zn rfl (zf rfl (BJ _ _) ?_)))))
 refine zS rfl (by exact s.iX (k:=2) rfl kC rfl (by decide) rfl rfl) (fun h s => ?_)
 refine zk 7 rfl (WP.ret ⟨aa,_,rfl,?_⟩)
 have s1:=(s.del 3).mB (k:=1)
 refine ⟨_,rfl,fX.2 ⟨b1,.bn,?_⟩⟩
 exact s1.ae [3,1,0]
theorem KU (J:W told)(s:Sat h (cf q p μ::S))(I:μ.Ok): Call ⟨Tryz.prog,told⟩ 84 [.ptr q 0,.int .u64 ((μ.base:Int)+(μ.b.length:Int))] h fun v h'=>v=.aX [.agg (nL 0 0 0 0 .bn .bn),.int .u64 0,.int .i64 17]∧Sat h' (cf q p μ::S):=by
 refine Call.of_wp (J.free _ rfl) Tryz.func84 rfl rfl (zg rfl ?_)
 refine az.cJ s rfl rfl rfl (cE Mo) (fun p4 h s => ?_)
 refine zk 4 rfl (WP.block (zK 4 rfl ?_))
 have s:=s.ae [1]
 refine zc rfl (BT J s I.size) ?_
 rintro v h' ⟨rfl,rfl⟩
 refine zt rfl (ag rfl rfl e_) (by simp) ?_
 refine zk 5 rfl (zo rfl (cM rfl (by rw [Mp]; rfl)) ?_)
 refine zS rfl (s.iw (j:=1) rfl ur rfl rfl) (fun h s => ?_)
 refine zk 3 rfl ?_
 refine WP.ret ⟨aa,_,OD rfl (s.c5 (k:=1) rfl BG ur) rfl rfl,?_⟩
 exact ⟨rfl,s.del 1⟩
theorem M8 (J:W told){n:Nat}(s:Sat h (cf q p μ::S))(I:μ.Ok)(hn:n<18446744073709551616)(dw:n≠μ.base+μ.b.length)(Ga:μ.hasB n=false): Call ⟨Tryz.prog,told⟩ 84 [.ptr q 0,.int .u64 (n:Int)] h fun v h'=>v=.aX [.agg (nL 0 0 0 0 .bn .bn),.int .u64 0,.int .i64 1]∧Sat h' (cf q p μ::S):=by
 refine Call.of_wp (J.free _ rfl) Tryz.func84 rfl rfl (zg rfl ?_)
 refine az.cJ s rfl rfl rfl (cE Mo) (fun p4 h s => ?_)
 refine zk 4 rfl (WP.block (zK 4 rfl ?_))
 have s:=s.ae [1]
 refine zc rfl (BT J s I.size) ?_
 rintro v h' ⟨rfl,rfl⟩
 refine zh rfl (ag rfl rfl e_) (by simp; omega) ?_
 refine zk 7 rfl (zc rfl (PS (n:=n) J s I hn) ?_)
 rintro v h' ⟨rfl,rfl⟩
 refine zo rfl (eY rfl rfl) (zk 2 rfl (WP.H_ rfl (by rw [Ga]; rfl) ?_))
 refine zg rfl (zo rfl (cM rfl (by rw [Mp]; rfl)) ?_)
 refine zS rfl (s.iw (j:=1) rfl ur rfl rfl) (fun h s => ?_)
 refine zk 3 rfl ?_
 refine WP.ret ⟨aa,_,OD rfl (s.c5 (k:=1) rfl BG ur) rfl rfl,?_⟩
 exact ⟨rfl,s.del 1⟩
theorem IP (hT:W told){n:Nat}(s:Sat h (cf q p μ::S))(J:μ.Ok)(hn:n<18446744073709551616)(I:n=μ.base+μ.b.length∨μ.hasB n=false): Call ⟨Tryz.prog,told⟩ 84 [.ptr q 0,.int .u64 (n:Int)] h fun v h'=>∃e:Int,e≠0∧v=.aX [.agg (nL 0 0 0 0 .bn .bn),.int .u64 0,.int .i64 e]∧Sat h' (cf q p μ::S):=by
 by_cases he:n=μ.base+μ.b.length
 ·have:=KU hT s J
  rw [show ((μ.base:Int)+(μ.b.length:Int))=((n:Nat):Int) by omega] at this
  exact this.mono fun v h' ⟨h1,h2⟩=>⟨17,by decide,h1,h2⟩
 ·rcases I with I | I
  ·exact absurd I he
  ·exact (M8 hT s J hn he I).mono fun v h' ⟨h1,h2⟩=>⟨1,by decide,h1,h2⟩
end
section
variable {told:cz} {h:H} {S:List aq} {X Y:aq} {r k q p bQ a g bf:Nat} {op v x u wh di:V} {l b c6 data me:List Nat} {now:List (Int×List Nat)} {bL:Bool} {ε:aF} {μ:Lg} {δ:Dk}
theorem IQ (I:W told){n:Nat}(s:Sat h (dR a p q r op data bf::cf q p μ::S))(J:μ.Ok)(hn:n<18446744073709551616)(Ga:n=μ.base+μ.b.length∨μ.hasB n=false):
  Call ⟨Tryz.prog,told⟩ 87 [.ptr a 0,.int .u64 (n:Int)] h fun v h'=>v=.int .i64 0∧Sat h' (dR a p q r op data bf::cf q p μ::S):=by
 obtain ⟨dv,s⟩:=cS.1 s
 refine Call.of_wp (I.free _ rfl) Tryz.func87 rfl rfl (zK 6 rfl ?_)
 refine az.BD s rfl rfl rfl rfl (fun Z4 h s => ?_)
 refine az.BD s rfl rfl rfl rfl (fun Z5 h s => ?_)
 refine zo rfl (cM rfl (by rw [TJ]; rfl)) ?_
 refine az.cJ s rfl rfl rfl (fR rfl rfl) (fun UT h s => ?_)
 refine zk 5 rfl (zo rfl (H7 rfl rfl) (zk 8 rfl (WP.block (WP.loop (WP.block (zK 4 rfl (zf rfl (Gz _ _) (zl rfl (s.ld (k:=3) rfl Mq rfl) (zm rfl ?_)))))))))
 have s1:=s.ae [5]
 refine zc rfl (IP (n:=n) I s1 J hn Ga) ?_
 rintro v h ⟨e,he,rfl,s⟩
 refine zk 4 rfl ?_
 refine az.cJ s rfl rfl rfl (cE Mo) (fun p8 h s => ?_)
 refine zS rfl (s.iw (j:=0) rfl ur rfl rfl) (fun h s => ?_)
 refine zk 7 rfl (zt rfl (ag rfl rfl aI) (by simp; exact he) ?_)
 have s:=ry (f:=fun v (b:List Nat)=>.cy v b) (s.ae [4])
 refine zk 2 rfl (WP.exit (zK 5 rfl (zf rfl (GI _ _) (zl rfl (s.ld (k:=3) rfl mF rfl) (zc rfl (yO I s) ?_)))))
 rintro v h ⟨kb,rfl,s⟩
 refine zc rfl (v8 I s (by decide) (by decide) (by simp)) ?_
 intro kv h s
 refine zo rfl (aO rfl rfl rfl (s.dJ (n:=0) (j:=0) rfl rfl (by decide) bO)) ?_
 exact zk 2 rfl (WP.block (WP.loop (zg rfl (zh rfl (ag rfl rfl aR) (rfl) (zk 3 rfl (WP.exit (zK 5 rfl (zf rfl (GI _ _) (zl rfl (s.ld (k:=5) rfl mF rfl) (zo rfl (aO rfl rfl rfl (Mz (s.ae [2]) oW)) (zt rfl (ag rfl rfl e_) (rfl) (zk 6 rfl (WP.ret ⟨aa,_,rfl,rfl,((((((cS.2 ⟨dv,s.ae [7,7,4]⟩).del 7).del 6).del 5).del 4).del 3).del 2⟩)))))))))))))
theorem Lg.Eo : Lg.fresh.Ok:=⟨by decide,by decide,by simp [Lg.fresh],List.Pairwise.nil,by decide,by decide,by decide⟩
theorem FR (I:W told){n:Nat}(s:Sat h (bz p δ::S))(h1:1≤n)(h2:n≤1024)(hd:δ.dead=false)(hm:δ.mark=[])(J:δ.log=[])(hc:δ.eu=0):
  Call ⟨Tryz.prog,told⟩ 35 [.ptr p 0,.int .i64 (n:Int)] h fun v h'=>∃a q r,v=.aX [.ptr a 0,.int .i64 0]∧Sat h' (dR a p q r .cO [] 0::dQ r p q (Pl.fresh n)::cf q p Lg.fresh::bz p δ::S):=by
 refine Call.of_wp (I.free _ rfl) Tryz.func35 rfl rfl (zK 9 rfl (zh rfl (ag rfl rfl aR) (by simp <;> omega) ?_))
 refine zk 2 rfl (zh rfl (ag rfl rfl gA) (by simp <;> omega) ?_)
 refine zk 7 rfl (zc rfl (FQ I s hd hm J hc) ?_)
 rintro v h ⟨q,rfl,s⟩
 refine zk 10 rfl (zh rfl (ag rfl rfl aI) (rfl) (zk 8 rfl (zc rfl (P4 (p:=p) (q:=q) (n:=n) I s) ?_)))
 rintro v h (⟨hn,_,_⟩ | ⟨_,_,r,rfl,s⟩)
 ·omega
 rw [bZ] at s
 refine zk 10 rfl (zh rfl (ag rfl rfl aI) (rfl) (zk 8 rfl (zo rfl (cM rfl (by rw [Tt]; rfl)) ?_)))
 refine az.cJ s rfl rfl rfl (fR rfl rfl) (fun Z6 h s => ?_)
 refine zk 5 rfl (zc rfl (Kw I (s.ae [2])) ?_)
 rintro v h' ⟨rfl,rfl⟩
 refine zk 6 rfl (zc rfl (FF I (s.ae [2])) ?_)
 rintro v h' ⟨rfl,rfl⟩
 refine zk 5 rfl (zh rfl (ag rfl rfl aI) (rfl) (zk 8 rfl ?_))
 have s1:=cS.2 ⟨.bn,(s.r5).ae [1,0]⟩
 refine zc rfl (IQ (n:=1) I (s1.ae [0,1]) Lg.Eo (by decide) (.inl rfl)) ?_
 rintro v h ⟨rfl,s⟩
 exact zk 5 rfl (zh rfl (ag rfl rfl aI) (rfl) (zk 9 rfl (WP.ret ⟨aa,_,rfl,_,q,r,rfl,s.ae [0,1,0]⟩)))
end
section
variable {told:cz} {h:H} {S:List aq} {X Y:aq} {r k q p bQ a g bf:Nat} {op v x u wh di:V} {l b c6 data me:List Nat} {now:List (Int×List Nat)} {bL:Bool} {ε:aF} {μ:Lg} {δ:Dk}
theorem M9 (I:W told)(s:Sat h (dR a p q r op data bf::S)): Call ⟨Tryz.prog,told⟩ 71 [.ptr a 0] h fun v h'=>v=.ptr p 0∧h'=h:=by
 obtain ⟨dv,s⟩:=cS.1 s
 exact Call.of_wp (I.free _ rfl) Tryz.func71 rfl rfl (zK 8 rfl (zf rfl (xp _ _) (zl rfl (s.ld (k:=0) rfl sD rfl) (zk 2 rfl (WP.ret ⟨aa,_,rfl,rfl,rfl⟩)))))
end
section
variable {told:cz} {h:H} {S:List aq} {X Y:aq} {r k q p bQ a g bf:Nat} {op v x u wh di:V} {l b c6 data me:List Nat} {now:List (Int×List Nat)} {bL:Bool} {ε:aF} {μ:Lg} {δ:Dk}
theorem IS (I:W told){n m f:Nat}(s:Sat h S)(h1:1≤n)(h2:n≤65536)(h3:m≤16777216)(J:1≤f)(h5:f≤1024):
  Call ⟨Tryz.prog,told⟩ 30 [.int .i64 (n:Int),.int .i64 (m:Int),.int .i64 (f:Int)] h fun v h'=>∃p a q r,v=.aX [.ptr p 0,.ptr a 0] ∧
   Sat h' (dR a p q r .cO [] 0::dQ r p q (Pl.fresh f)::cf q p Lg.fresh::bz p (Dk.fresh n m)::S):=by
 refine Call.of_wp (I.free _ rfl) Tryz.func30 rfl rfl (zK 9 rfl (zc rfl (PK (n:=(n:Int)) (m:=(m:Int)) I s) ?_))
 rintro v h (⟨hn,_,_⟩ | ⟨_,_,_,_,p,rfl,s⟩)
 ·omega
 rw [bZ,bZ] at s
 refine zk 10 rfl (zh rfl (ag rfl rfl aI) (rfl) (zk 2 rfl (zh rfl (ag rfl rfl (r_ Tryz.underlying62)) (rfl) (zk 8 rfl (zc rfl (FR (n:=f) I s J h5 rfl rfl rfl rfl) ?_)))))
 rintro v h ⟨a,q,r,rfl,s⟩
 exact zk 10 rfl (zh rfl (ag rfl rfl aI) (rfl) (zk 2 rfl (zh rfl (ag rfl rfl (r_ nP)) (rfl) (zk 11 rfl (WP.ret ⟨aa,_,rfl,p,a,q,r,rfl,s⟩)))))
end
end Go.Proofs.YtefepnnfphdkpaaGreat.Am
