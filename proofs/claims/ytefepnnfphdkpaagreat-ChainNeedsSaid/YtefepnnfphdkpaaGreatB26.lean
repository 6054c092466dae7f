/- ChainNeeds: a part of its proof; conditions: its statement's. -/
import Derived.Test.YtefepnnfphdkpaaGreatB25
set_option linter.defProp false
namespace Go.Proofs.YtefepnnfphdkpaaGreat.Am
open Go
def uY:=@Tryz.underlying24
theorem tG.fit {pg:Int}{cT now:List Nat}{i:Nat}{l:List c7}(J:tG pg cT now i l)(hn:now.length=512)(h0:0≤pg)(h1:pg<65536): ∀c∈l,c.Ok∧c.b.length≤512:=by
 induction J with
 | done i h=>intro c I; cases I
 | skip i l h he J ih=>exact ih
 | take i e l h2 h3 _ _ J ih =>
  intro c I
  rcases List.mem_cons.1 I with rfl | I
  ·have hl:((now.take e).drop i).length=e-i:=by simp; omega
   refine ⟨⟨h0,h1,by simp,by simp only; omega,by simp only [hl]; omega,by simp⟩,by simp only [hl]; omega⟩
  ·exact ih c I
theorem Jd.fit {pg:Int}{cT now:List Nat}{l:List c7}(hr:Jd pg cT now l)(hn:now.length=512)(I:0≤pg)(J:pg<65536): ∀c∈l,c.Ok∧c.b.length≤512:=by
 obtain ⟨m,h2,rfl⟩:=hr
 split
 ·intro c hc
  rw [List.mem_singleton.1 hc]
  exact ⟨⟨I,J,by simp,by simp,by simp,by simp⟩,by simp⟩
 ·exact h2.fit hn I J
theorem jg.fit {now:List (Int×List Nat)}{l:List Int}{ε ε':aF}{e:Int}{cs:List c7}(hr:jg now l ε e cs ε')(J:∀x∈now,x.2.length=512)(hl:∀n∈l,0≤n∧n<65536): ∀c∈cs,c.Ok∧c.b.length≤512:=by
 induction hr with
 | nil ε=>intro c hc; cases hc
 | err n l ε e b ε' hr he=>intro c hc; cases hc
 | part n l ε cT b ε' c e cs jU hr hb hd hc j4 ht ih =>
  intro x I
  have hn:=hl n cM
  rcases List.mem_append.1 I with I | I
  ·exact hc.fit (J _ (jT hb)) hn.1 hn.2 x I
  ·exact ih (fun m hm=>hl m (cC _ hm)) x I
 | whole n l ε cT b ε' e cs jU hr hb hd ht ih =>
  intro x I
  have hn:=hl n cM
  have hb:=J _ (jT hb)
  rcases List.mem_cons.1 I with rfl | I
  ·exact ⟨⟨hn.1,hn.2,by simp,by simp,by simp only at hb ⊢; omega,fun _=>⟨rfl,hb⟩⟩,by simp only at hb ⊢; omega⟩
  ·exact ih (fun m hm=>hl m (cC _ hm)) x I
theorem qR : ∀(f n:Nat),(digits f n).length≤f+1:=by
 intro f
 induction f with
 | zero=>intro n; simp [digits]
 | succ f I =>
  intro n
  unfold digits
  split
  ·simp
  ·have:=I (n/128)
   simp only [aQ]
   omega
theorem P6 {c:c7}(I:c.b.length≤512): (kL c).length≤543:=by
 have J:=qR 9 c.aU.toNat
 have h2:=qR 9 c.pos.toNat
 have h3:=qR 9 c.b.length
 simp only [kL,bQ,aQ,bF]
 omega
theorem NO : ∀ {l:List c7},(∀c∈l,c.b.length≤512)→(l.flatMap kL).length≤543*l.length:=by
 intro l
 induction l with
 | nil=>intro _; simp
 | cons c l I =>
  intro h
  have h1:=P6 (h c cM)
  have h2:=I fun x J=>h x (cC _ J)
  simp only [rL,bQ,aQ]
  omega
theorem NP {l:List c7}{tx pv nx:Nat}{data:List Nat}(hl:l.length≤33554432)(h:∀c∈l,c.Ok∧c.b.length≤512)(J:tx<18446744073709551616)(Mu:pv<18446744073709551616)(Be:nx<18446744073709551616)(hd:data.length≤35184372088832): yL tx pv nx data l:=by
 have h2:=NO fun c I=>(h c I).2
 refine ⟨⟨by omega,fun c I=>by have:=(h c I).2; omega,fun c I => ?_⟩,J,Mu,Be,by omega⟩
 have:=(h c I).1
 simp only [c7.Ok] at this
 omega
theorem C8 {l:List c7}{kd:Int}(I:1≤kd∧kd≤9)(h:∀c∈l,c.Ok∧c.b.length≤512): dO kd l=true:=by
 simp only [dO,aG,ej,oY]
 exact ⟨I,fun c J=>(h c J).1⟩
inductive uZ (ε:aF)(now:List (Int×List Nat))(kd:Int)(tx pv nx:Nat)(data:List Nat)(m8:Nat): Nat→Int→Bool→aF→Prop where
 | arg (h:¬(1≤kd∧kd≤7)∨0<m8):uZ ε now kd tx pv nx data m8 0 1 false ε
 | dead (h1:1≤kd) (h2:kd≤7) (h3:m8=0) (h:ε.2.2.dead=true):uZ ε now kd tx pv nx data m8 0 9 false ε
 | n_ (e:Int) (c:List c7) (ε':aF) (h1:1≤kd) (h2:kd≤7) (h3:m8=0) (h:ε.2.2.dead=false) (hc:jg now (dQ now) ε e c ε') (he:e≠0):uZ ε now kd tx pv nx data m8 0 e false ε'
 | app (c:List c7) (ε':aF) (h1:1≤kd) (h2:kd≤7) (h3:m8=0) (h:ε.2.2.dead=false) (hc:jg now (dQ now) ε 0 c ε') (he:(bj ε'.2 kd tx pv nx data c).1.2≠0):uZ ε now kd tx pv nx data m8 0 (bj ε'.2 kd tx pv nx data c).1.2 false (ε'.1,(bj ε'.2 kd tx pv nx data c).2)
 | put (c:List c7) (ε':aF) (e:Int) (jU:aF) (h1:1≤kd) (h2:kd≤7) (h3:m8=0) (h:ε.2.2.dead=false) (hc:jg now (dQ now) ε 0 c ε') (ha:(bj ε'.2 kd tx pv nx data c).1.2=0) (hp:ob now (bj ε'.2 kd tx pv nx data c).1.1 (dQ now) (ε'.1,(bj ε'.2 kd tx pv nx data c).2) e jU) :
   uZ ε now kd tx pv nx data m8 (if e=0 then (bj ε'.2 kd tx pv nx data c).1.1 else 0) e true jU
structure qS (ε ε':aF): Prop where
 base:ε'.2.1.base=ε.2.1.base
 b:ε'.2.1.b=ε.2.1.b
 cf:ε'.2.1.cf=ε.2.1.cf
 check:ε'.2.1.check=ε.2.1.check
 log:ε'.2.2.log=ε.2.2.log
 room:ε'.2.2.room=ε.2.2.room
 aW:ε'.2.2.aW=ε.2.2.aW
theorem qS.refl (ε:aF): qS ε ε:=⟨rfl,rfl,rfl,rfl,rfl,rfl,rfl⟩
theorem qS.trans {a b c:aF}(x:qS a b)(y:qS b c): qS a c :=
 ⟨y.base.trans x.base,y.b.trans x.b,y.cf.trans x.cf,y.check.trans x.check,y.log.trans x.log,y.room.trans x.room,y.aW.trans x.aW⟩
theorem lq {δ:Dk}: δ.fP.2.log=δ.log∧δ.fP.2.room=δ.room∧δ.fP.2.aW=δ.aW:=by
 unfold Dk.fP
 split
 ·exact ⟨rfl,rfl,rfl⟩
 ·split <;> exact ⟨rfl,rfl,rfl⟩
theorem td {δ:Dk}{n:Int}{b:List Nat}: (δ.cJ n b).2.log=δ.log∧(δ.cJ n b).2.room=δ.room∧(δ.cJ n b).2.aW=δ.aW:=by
 unfold Dk.cJ
 split
 ·exact ⟨rfl,rfl,rfl⟩
 ·split
  ·exact ⟨rfl,rfl,rfl⟩
  ·split <;> exact ⟨rfl,rfl,rfl⟩
theorem C9 {π:Pl}{x:LD}{n:Nat}: qS (π,x) (π,(bM x n).2):=by
 unfold bM
 split
 ·exact qS.refl _
 ·split
  ·exact ⟨rfl,rfl,rfl,rfl,lq.1,lq.2.1,lq.2.2⟩
  ·exact ⟨rfl,rfl,rfl,rfl,lq.1,lq.2.1,lq.2.2⟩
theorem qS.to {π:Pl}{ε ε':aF}(h:qS ε ε'): qS ε (π,ε'.2):=⟨h.base,h.b,h.cf,h.check,h.log,h.room,h.aW⟩
structure jZ (R:LD→Prop): Prop where
 force:∀(x:LD) (n:Nat),R x→R (bM x n).2
 write:∀(x:LD) (n:Int) (b:List Nat),R x→R (x.1,(x.2.cJ n b).2)
section
variable {R:LD→Prop} {ε ε':aF} {n e:Int} {b:List Nat} {now cg:List (Int×List Nat)} {bI:Bool} {l:List Int} {cs:List c7} {aM:Nat}
theorem jZ.out (h:jZ R){ε:aF}{i:Nat}(I:R ε.2): R (outF ε i).2.2:=by
 unfold outF
 split
 ·exact I
 ·split
  ·exact I
  ·split
   ·exact I
   ·split
    ·exact h.force _ _ I
    ·split
     ·exact h.write _ _ _ (h.force _ _ I)
     ·exact h.write _ _ _ (h.force _ _ I)
theorem jZ.gu (h:jZ R)(hr:ey ε n e b ε')(J:R ε.2): R ε'.2:=by
 cases hr with
 | arg hn=>exact J
 | yN i f h1 h2 hl hf=>exact J
 | out I i f h1 h2 hl hn hf hh he=>exact h.out (ε:=(I,ε.2)) J
 | read I i f h1 h2 hl hn hf hh he hr=>exact h.out (ε:=(I,ε.2)) J
 | bad I i f h1 h2 hl hn hf hh he hr hc=>exact h.out (ε:=(I,ε.2)) J
 | load I i f h1 h2 hl hn hf hh he hr hc=>exact h.out (ε:=(I,ε.2)) J
theorem jZ.rd (h:jZ R)(I:kx ε n e b ε')(J:R ε.2): R ε'.2:=by
 cases I with
 | dead hd=>exact J
 | gu e b ε' hd I he=>exact h.gu I J
 | oR b ε' hd I he=>exact h.gu (ε':=ε') I J
 | read b ε' hd I he=>exact h.gu (ε':=ε') I J
theorem jZ.u5 (h:jZ R)(J:mz ε now bI n e b ε')(I:R ε.2): R ε'.2:=by
 cases J with
 | arg hn=>exact I
 | bI _ _ _=>exact I
 | own b h1 h2 _ hl=>exact I
 | read e b ε' h1 h2 _ hl J=>exact h.rd J I
theorem jZ.Ji (h:jZ R)(I:qp ε now bI n b e cg ε')(J:R ε.2): R ε'.2:=by
 cases I with
 | may e c ε' I he=>exact h.u5 I J
 | bad c ε' I hg=>exact h.u5 I J
 | done c ε' I hg=>exact h.u5 I J
theorem jZ.ch (h:jZ R)(I:jg now l ε e cs ε'): R ε.2→R ε'.2:=by
 induction I with
 | nil ε=>exact fun J=>J
 | err n l ε e b ε' I he=>exact h.rd I
 | part n l ε cT b ε' c e cs jU I hb hd hc j4 ht ih=>exact fun J=>ih (h.rd I J)
 | whole n l ε cT b ε' e cs jU I hb hd ht ih=>exact fun J=>ih (h.rd I J)
theorem jZ.pt (h:jZ R)(I:ob now aM l ε e ε'): R ε.2→R ε'.2:=by
 induction I with
 | nil ε=>exact fun J=>J
 | gu n l ε e b ε' I he=>exact h.gu I
 | bad n l ε b0 b ε' I hb he=>exact h.gu (ε':=ε') I
 | put n l ε b0 b ε' e jU I hb he ht ih=>exact fun J=>ih (h.gu (ε':=ε') I J)
theorem Jj (ε:aF): jZ fun y=>qS ε (ε.1,y) :=
 ⟨fun _ _ h=>h.trans C9,fun _ _ _ h=>h.trans ⟨rfl,rfl,rfl,rfl,td.1,td.2.1,td.2.2⟩⟩
theorem jg.same (I:jg now l ε e cs ε'): qS ε ε':=((Jj ε).ch I (qS.refl ε)).to
end
theorem Lj {m:Nat}: ∀ {l:List Nat},l.Pairwise (· < ·)→(∀s∈l,s<m)→l.length≤m:=by
 intro l I J
 have key:∀(l:List Nat) (k:Nat),l.Pairwise (· < ·)→(∀s∈l,k≤s∧s<m)→k+l.length≤m∨l=[]:=by
  intro l
  induction l with
  | nil=>intro k _ _; exact .inr rfl
  | cons x l ih =>
   intro k I J
   simp only [nc] at I
   have hx:=J x cM
   rcases ih (x+1) I.2 (fun s hs=>⟨I.1 s hs,(J s (cC _ hs)).2⟩) with h | rfl
   ·left; simp only [aQ]; omega
   ·left; simp; omega
 rcases key l 0 I (fun s hs=>⟨gy _,J s hs⟩) with h | rfl
 ·omega
 ·simp
theorem lu (x:LD)(kd:Int)(tx pv nx:Nat)(data:List Nat)(c:List c7):
  (∃e:Int,e≠0∧((e=1∧dO kd c=false)∨(e=2∧1048576<(d_ kd tx pv nx data c).length)∨(e=9∧x.2.dead=true)∨(e=7∧x.2.room<x.2.log.length+(dh x.1 kd tx pv nx data c).length))∧bj x kd tx pv nx data c=((0,e),x)) ∨
  (x.2.dead=false∧x.2.bL=0∧bj x kd tx pv nx data c=((0,9),(x.1,{ x.2.die with tail:=dh x.1 kd tx pv nx data c }))) ∨
  (dO kd c=true∧(d_ kd tx pv nx data c).length≤1048576∧x.2.dead=false∧x.2.log.length+(dh x.1 kd tx pv nx data c).length≤x.2.room∧x.2.bL≠0 ∧
   bj x kd tx pv nx data c=((x.1.base+x.1.b.length,0),(x.1.app (dh x.1 kd tx pv nx data c),{ x.2.gq with log:=x.2.log++dh x.1 kd tx pv nx data c }))):=by
 by_cases I:dO kd c=false
 ·exact .inl ⟨1,by decide,.inl ⟨rfl,I⟩,by rw [bj,ax I]⟩
 ·by_cases hb:1048576<(d_ kd tx pv nx data c).length
  ·exact .inl ⟨2,by decide,.inr (.inl ⟨rfl,hb⟩),by rw [bj,ai I,ax hb]⟩
  ·by_cases J:x.2.dead=true
   ·have e:x.2.iG (dh x.1 kd tx pv nx data c)=(9,x.2):=by rw [Dk.iG,ax J]
    exact .inl ⟨9,by decide,.inr (.inr (.inl ⟨rfl,J⟩)),by rw [bj,ai I,ai hb,e,ax (by simp)]⟩
   ·by_cases hr:x.2.room<x.2.log.length+(dh x.1 kd tx pv nx data c).length
    ·have e:x.2.iG (dh x.1 kd tx pv nx data c)=(7,x.2):=by rw [Dk.iG,ai J,ax hr]
     exact .inl ⟨7,by decide,.inr (.inr (.inr ⟨rfl,hr⟩)),by rw [bj,ai I,ai hb,e,ax (by simp)]⟩
    ·by_cases hf:x.2.bL=0
     ·have e:x.2.iG (dh x.1 kd tx pv nx data c)=(9,{ x.2.die with tail:=dh x.1 kd tx pv nx data c }):=by rw [Dk.iG,ai J,ai hr,ax hf]
      exact .inr (.inl ⟨by simpa using J,hf,by rw [bj,ai I,ai hb,e,ax (by simp)]⟩)
     ·have e:x.2.iG (dh x.1 kd tx pv nx data c)=(0,{ x.2.gq with log:=x.2.log++dh x.1 kd tx pv nx data c }):=by rw [Dk.iG,ai J,ai hr,ai hf]
      exact .inr (.inr ⟨by simpa using I,by omega,by simpa using J,by omega,hf,by rw [bj,ai I,ai hb,e,ai (by simp)]⟩)
theorem wO {x:LD}{kd:Int}{tx pv nx:Nat}{data:List Nat}{c:List c7}(J:x.1.Ok)(I:x.2.Ok)(hs:x.1.b=x.2.log)(hz:x.1.base+x.1.b.length+1048584≤1099511627776):
  (bj x kd tx pv nx data c).2.1.Ok∧(bj x kd tx pv nx data c).2.2.Ok∧(bj x kd tx pv nx data c).2.1.b=(bj x kd tx pv nx data c).2.2.log∧(bj x kd tx pv nx data c).2.1.base=x.1.base∧(bj x kd tx pv nx data c).2.1.b.length≤x.1.b.length+1048584 ∧
  (bj x kd tx pv nx data c).2.2.waiting=x.2.waiting∧(bj x kd tx pv nx data c).1.1<1099511627776:=by
 have hlen:(dh x.1 kd tx pv nx data c).length=8+(d_ kd tx pv nx data c).length:=sX _ _
 rcases lu x kd tx pv nx data c with ⟨e,_,_,h⟩ | ⟨hd,hf,h⟩ | ⟨hg,hb,hd,fF,hf,h⟩
 ·rw [h]; exact ⟨J,I,hs,rfl,zR _ _,rfl,by simp⟩
 ·rw [h]; exact ⟨J,⟨I.bL,I.len,I.room,I.now,I.aW,I.dW,I.many⟩,hs,rfl,zR _ _,rfl,by simp⟩
 ·rw [h]
  generalize dh x.1 kd tx pv nx data c=rc at hlen fF
  have Vu:=I.room
  have kr:x.1.b.length=x.2.log.length:=by rw [hs]
  have hl:(x.1.b++rc).length=x.1.b.length+rc.length:=bQ
  have je:(x.2.log++rc).length=x.2.log.length+rc.length:=bQ
  refine ⟨⟨?_,?_,?_,?_,?_,?_,J.check⟩,⟨I.gq.bL,?_,I.room,I.now,I.aW,?_,I.many⟩,?_,rfl,?_,rfl,?_⟩
  ·show x.1.base+(x.1.b++rc).length≤_; omega
  ·have h1:=Lj J.AG J.low
   show (x.1.cf++[x.1.b.length]).length≤_
   simp only [bQ,aQ,bF]; omega
  ·intro s hm
   show s<(x.1.b++rc).length
   rcases List.mem_append.1 (show s∈x.1.cf++[x.1.b.length] from hm) with hm | hm
   ·have:=J.low s hm; omega
   ·rw [List.mem_singleton.1 hm]; omega
  ·show (x.1.cf++[x.1.b.length]).Pairwise (·< ·)
   rw [List.pairwise_append]
   refine ⟨J.AG,List.pairwise_singleton _ _,fun a ha b hb => ?_⟩
   rw [List.mem_singleton.1 hb]
   exact J.low a ha
  ·have:=J.forced
   show x.1.forced≤(x.1.b++rc).length; omega
  ·show (x.1.b++rc).length≤_; omega
  ·show (x.2.log++rc).length≤_; omega
  ·have:=I.dW
   show x.2.dW≤(x.2.log++rc).length; omega
  ·show x.1.b++rc=x.2.log++rc; rw [hs]
  ·show (x.1.b++rc).length≤_; omega
  ·show x.1.base+x.1.b.length<_; omega
theorem wf_i64 {n:Int}(I:0≤n)(J:n<4294967296): (Lit.int .i64 n).wf=true:=by
 simp only [Lit.wf,aG,ej]
 have e1:IntKind.min .i64 = -9223372036854775808:=rfl
 have e2:IntKind.max .i64=9223372036854775807:=rfl
 omega
theorem NQ {kd:Int}{tx pv nx:Nat}{I ch:V}(J:I.beq I=true)(hc:ch.beq ch=true): (V.agg (mU kd tx pv nx I ch)).beq (V.agg (mU kd tx pv nx I ch))=true:=by
 simp only [mU,V.beq,V.beqL,J,hc,cQ,mQ,vu,gW,af]
section
variable {told:cK} {h:H} {S:List aq} {X Y:aq} {r k q p bJ a g bA:Nat} {op v x u wh di:V} {l b cT data lz:List Nat} {now:List (Int×List Nat)} {bI:Bool} {ε:aF}
theorem NR (hT:W told){kd:Int}{tx pv nx m8:Nat}{dt ch:V}{Sy:List V}(s:Sat h (fy g a now false::dR a p q r (.ptr g 0) lz bA::dG r p q ε.1::bW q p ε.2.1::bp p ε.2.2::X::.arr 4 ch Sy::S))(hX:cI X (cL dt data))(CE:Sy.length=m8*4)(gT:ir ε)(hw:cj ε+65536≤268435456)
 (tc:∀e∈now,e.2.length=512)(hm:now.length≤65536)(hk:∀n∈now.map (·.1),0≤n∧n<65536)(I5:tx<18446744073709551616)(Mu:pv<18446744073709551616)(Be:nx<18446744073709551616)(hd:data.length≤35184372088832)(TL:ε.2.1.b=ε.2.2.log)(hz:ε.2.1.base+ε.2.1.b.length+1048584≤1099511627776):
  Call ⟨Tryz.prog,told⟩ 26 [.ptr g 0,.agg (mU kd tx pv nx dt ch)] h fun v h'=>∃aM e cl ε',uZ ε now kd tx pv nx data m8 aM e cl ε'∧v=.aX [.int .u64 (aM:Int),.int .i64 e] ∧
   Sat h' (fy g a now cl::dR a p q r (cond cl .cN (.ptr g 0)) lz bA::dG r p q ε'.1::bW q p ε'.2.1::bp p ε'.2.2::X::S):=by
 have jM:∀n∈now.map (·.1),(Lit.int .i64 n).wf=true:=fun n hn=>by
  have:=hk n hn
  exact wf_i64 (by omega) (by omega)
 have uO:=s.lC (j:=6) rfl
 have tF:=s.aH (k:=5) rfl hX
 have jF:=uL (kd:=kd) (tx:=tx) (pv:=pv) (nx:=nx) tF.cells.2 uO.2.1
 have hlen:=s.iL (n:=m8) (j:=6) rfl CE (by decide) iO
 have s0:=s
 obtain ⟨nv,s⟩:=dn.1 s
 refine Call.of_wp (hT.free _ rfl) Tryz.func26 rfl rfl (zg rfl (az.cr s rfl rfl rfl (fC rfl jF) ?_))
 intro p1 h s
 dsimp only [V.cells] at s
 have s:Sat h (pt p1 (.cells 6 (mU kd tx pv nx dt ch) false)::_):=s
 have hlen:=s.iL (n:=m8) (j:=8) rfl CE (by decide) iO
 refine zk 7 rfl (zf rfl (mj _ _) (zl rfl (s.ld (k:=1) rfl ux rfl) (zk 3 rfl (WP.block (zK 4 rfl (zf rfl (vH _ _) (zh rfl (aO rfl (s.ld (k:=1) rfl m6 rfl)) (rfl) (zk 5 rfl (zf rfl (uy _ _) (zl rfl (s.ld (k:=0) rfl eM rfl) ?_))))))))))
 have fin:∀e:Int,Sat h (fy g a now false::dR a p q r (.ptr g 0) lz bA::dG r p q ε.1::bW q p ε.2.1::bp p ε.2.2::X::S):=fun e=>((dn.2 ⟨nv,s.ae [1,1]⟩).del 7).del 1
 refine zd rfl (ag rfl rfl bf) ?_ ?_
 ·intro hq
  have hq:kd<1:=by simpa using hq
  exact zk 19 rfl (WP.ret ⟨aa,_,rfl,0,1,false,ε,.arg (.inl (by omega)),rfl,fin 0⟩)
 ·intro hq
  have hq:1≤kd:=by simp at hq; omega
  refine zm rfl (zf rfl (uy _ _) (zl rfl (s.ld (k:=0) rfl eM rfl) ?_))
  refine zd rfl (ag rfl rfl fY) ?_ ?_
  ·intro J
   have J:7<kd:=by simpa using J
   exact zk 15 rfl (WP.ret ⟨aa,_,rfl,0,1,false,ε,.arg (.inl (by omega)),rfl,fin 0⟩)
  ·intro J
   have J:kd≤7:=by simp at J; omega
   refine zk 2 rfl (zf rfl (qb _ _) (zl rfl (s.ld (k:=0) rfl Ar rfl) (zo rfl (aV rfl rfl rfl hlen) ?_)))
   refine zd rfl (ag rfl rfl fY) ?_ ?_
   ·intro I
    have I:0<m8:=by simp at I; omega
    exact zk 9 rfl (WP.ret ⟨aa,_,rfl,0,1,false,ε,.arg (.inr I),rfl,fin 0⟩)
   ·intro I
    have I:m8=0:=by simp at I; omega
    obtain ⟨dv,s⟩:=cG.1 (s.ae [3])
    dsimp only [bringA,getA,aZ] at s
    refine zk 8 rfl (zf rfl (vJ _ _) (zl rfl (s.ld (k:=0) rfl rf rfl) (zc rfl (CO hT (s.ae [7])) ?_)))
    rintro v h ⟨rfl,rfl⟩
    refine zk 2 rfl ?_
    cases tY:ε.2.2.dead with
    | true =>
     refine zK 6 rfl (WP.ret ⟨aa,_,rfl,?_⟩)
     have s9:=dn.2 ⟨nv,(cG.2 ⟨dv,s⟩).ae [2,2]⟩
     dsimp only [bringA,getA,aZ] at s9
     exact ⟨0,9,false,ε,.dead hq J I tY,rfl,(s9.del 7).del 2⟩
    | false =>
     refine zj rfl (WP.skip (zg rfl (za rfl (zv (zw (zg rfl (zm rfl ?_)))))))
     have s9:=dn.2 ⟨nv,(cG.2 ⟨dv,s⟩).ae [2,2]⟩
     dsimp only [bringA,getA,aZ] at s9
     have s:=s9.ae [0,0,1,1,1]
     dsimp only [bringA,getA,aZ] at s
     refine zc rfl (GX hT s gT (by omega) tc hm jM) ?_
     rintro v h ⟨e,c,ε',hc,(⟨he,rfl,s⟩ | ⟨rfl,j4,av,cs,rfl,s⟩)⟩
     ·refine az.op rfl rfl rfl (b_ rfl) ?_
      refine zk 2 rfl (zf rfl (qb _ _) ?_)
      refine zS rfl (by exact s.iw (k:=5) rfl Pw rfl (by decide) rfl rfl) (fun h s => ?_)
      dsimp only [mU,Nat.reduceAdd,List.set,setA] at s
      refine zk 5 rfl (zt rfl (ag rfl rfl aL) (by simp; exact he) ?_)
      exact zk 8 rfl (WP.ret ⟨aa,_,rfl,0,e,false,ε',.n_ e c ε' hq J I tY hc he,rfl,(s.del 7).del 5⟩)
     ·have Mw:=s.lC (j:=0) rfl
      have C_:=hc.lK gT
      have U_:=hc.cj
      have qm:=hc.same
      have P7:=wO (x:=ε'.2) (kd:=kd) (tx:=tx) (pv:=pv) (nx:=nx) (data:=data) (c:=c) C_.ok.lg C_.ok.dk (by rw [qm.b,qm.log]; exact TL) (by rw [qm.base,qm.b]; exact hz)
      have fF:=hc.fit tc fun n hn=>hk n ((e_ _).mem_iff.1 hn)
      refine zk 3 rfl (zf rfl (qb _ _) (zS rfl (s.iw (k:=7) rfl Pw rfl (show 0+5<6 by decide) Mw.1 Mw.2.1) ?_))
      intro h s
      dsimp only [mU,Nat.reduceAdd,List.set,setA] at s
      refine zk 5 rfl (zh rfl (ag rfl rfl aL) (rfl) ?_)
      obtain ⟨dv,s⟩:=cG.1 (s.ae [3])
      dsimp only [bringA,getA,aZ] at s
      have s:=s.ae [6,6,7,2,2,0,3]
      dsimp only [bringA,getA,aZ] at s
      refine zv (zj rfl (WP.skip (zw ?_)))
      have s0:=s
      have TM:=iV tF
      have Xa:=NQ (kd:=kd) (tx:=tx) (pv:=pv) (nx:=nx) TM Mw.2.2
      refine WP.drawn [ak,ak,ak,ak,ak,ak,ak,ak,ak,ak,ak] rfl (by kernel_rfl) (by kernel_rfl) ?_
      refine zM rfl (zN rfl (zF rfl (EW _ _) (zL rfl (s.ld (k:=5) rfl KG rfl) (zL rfl (s.cP (k:=6) rfl As sR) (aB.any rfl rfl rfl rfl (OpR.call rfl rfl rfl rfl (K1 (kd:=kd) (tx:=tx) (pv:=pv) (nx:=nx) hT s hX (NP j4 fF I5 Mu Be hd) C_.ok.lg C_.ok.dk)) ?_)))))
      rintro v h ⟨rfl,s⟩
      refine zM rfl (zO rfl (qJ rfl rfl) (zO rfl (qJ rfl rfl) (zA rfl (zA rfl ?_))))
      refine aB.nil ⟨⟨aa,aa,aa,aa,aa,aa,aa,aa,aa,aa,aa,aa⟩,?_⟩
      refine zK 4 rfl ?_
      have s9:=cG.2 ⟨dv,s.ae [5,6]⟩
      have s:=((((s9.ae [7,0,6,0,0,0]).del 9).del 8).del 7).del 6
      by_cases he:(bj ε'.2 kd tx pv nx data c).1.2=0
      ·skip
       refine zh rfl (ag rfl rfl aL) (by simp; exact he) ?_
       refine zk 6 rfl (zc rfl (Jc hT s) ?_)
       rintro v h ⟨rfl,s⟩
       obtain ⟨nv,s⟩:=dn.1 s
       obtain ⟨su,rfl⟩:=CG s (j:=1) rfl
       refine zk 6 rfl (zf rfl (nC _ _) (zl rfl (s.ld (k:=0) rfl lM rfl) (zc rfl (xk hT s) ?_)))
       rintro v h ⟨kb,rfl,s⟩
       refine zc rfl (uS hT (s.ae [0,1]) (by decide) (by omega) jM) ?_
       intro kv h s
       have hl:(dQ now).length=now.length:=by rw [dQ,(e_ _).length_eq,eP]
       refine zo rfl (aV rfl rfl rfl (s.iL (n:=(dQ now).length) (j:=0) rfl (by simp [fS]) (by decide) dx)) ?_
       refine zk 2 rfl (WP.block ?_)
       obtain ⟨Wv,es,clock,Lk,hb,rY,s⟩:=fN.1 (s.ae [2])
       injection Lk with Lk
       subst Lk
       obtain ⟨dv,s⟩:=cG.1 (s.ae [5])
       have s:=s.ae [6,2,2,0,3,3,3,1]
       refine Jh (op:=.cN) (dv:=dv) hT (ks:=dQ now) (now:=now) (aM:=(bj ε'.2 kd tx pv nx data c).1.1) (by omega) (fun n hn => ?_) tc (dQ now).length 0 (ε'.1,(bj ε'.2 kd tx pv nx data c).2) _ _ _ (by omega) ?_ ?_ s ⟨rfl,rfl,rfl,rfl,rfl,rfl,aa⟩ (fun e jU E' h' hp xQ l4 l5 s' => ?_) (fun jU E' h' hp kK s' => ?_)
       ·have:n∈now.map (·.1):=(e_ _).mem_iff.1 hn
        cases hq:lookL n now with
        | some _=>rfl
        | none=>exact absurd this (mR.1 hq)
       ·exact ⟨⟨C_.ok.pl,P7.1,P7.2.1⟩,C_.pins,C_.full⟩
       ·have e1:cj (ε'.1,(bj ε'.2 kd tx pv nx data c).2)=cj ε':=by simp only [cj,P7.2.2.2.2.2.1]
        rw [e1,hl]; omega
       ·rw [eR] at hp
        have e4:look E' 4=some (.int .u64 ((0:Nat):Int)):=l4
        refine ⟨aa,_,Lf e4 l5,0,e,true,jU,?_,rfl,?_⟩
        ·have:=uZ.put (data:=data) c ε' e jU hq J I tY hc he hp
         rwa [ai xQ] at this
        ·have s3:=cG.2 ⟨dv,s'.ae [3,6]⟩
         have s4:=fN.2 ⟨su,es,clock,rfl,hb,rY,s3.ae [2,2]⟩
         exact dn.2 ⟨.map su,(s4.ae [2,0,0,0,0,0,1]).del 7⟩
       ·rw [eR] at hp
        have s:=s'
        refine WP.has kK (zK 6 rfl (WP.ret ⟨aa,_,rfl,?_⟩))
        refine ⟨_,0,true,jU,?_,rfl,?_⟩
        ·have:=uZ.put (data:=data) c ε' 0 jU hq J I tY hc he hp
         exact this
        ·have s3:=cG.2 ⟨dv,s.ae [3,6]⟩
         have s4:=fN.2 ⟨su,es,clock,rfl,hb,rY,s3.ae [2,2]⟩
         dsimp only [bringA,getA,aZ] at s4
         exact dn.2 ⟨.map su,(s4.ae [2,0,0,0,0,0,1]).del 7⟩
      ·skip
       refine zt rfl (ag rfl rfl aL) (by simp; exact he) ?_
       exact zk 8 rfl (WP.ret ⟨aa,_,rfl,0,_,false,_,.app c ε' hq J I tY hc he,rfl,s⟩)
end
def Lg.fresh : Lg:={ base:=1,b:=[],cf:=[],forced:=0,check:=0 }
theorem My {P:Program}{E:List (Nat×V)}{h:H}{a b c t:Nat}{p v w x:V}(I:look E a=some p)(J:loadV P h t p=some v)(h2:look E b=some w)(h3:look E c=some x): jt P E h [.cell a t,.tmp b,.tmp c]=some (.aX [v,w,x]):=by
 simp only [jt,mapO,resE,I,J,h2,h3]
section
variable {told:cK} {h:H} {S:List aq} {X Y:aq} {r k q p bJ a g bA:Nat} {op v x u wh di:V} {l b cT data lz:List Nat} {now:List (Int×List Nat)} {bI:Bool} {ε:aF} {μ:Lg} {δ:Dk}
theorem Eg (hT:W told)(s:Sat h (bp p δ::S))(hd:δ.dead=false)(hm:δ.mark=[])(hl:δ.log=[])(hc:δ.dW=0):
  Call ⟨Tryz.prog,told⟩ 80 [.ptr p 0] h fun v h'=>∃q,v=.aX [.ptr q 0,.int .i64 0]∧Sat h' (bW q p Lg.fresh::bp p δ::S):=by
 refine Call.of_wp (hT.free _ rfl) Tryz.func80 rfl rfl (zK 8 rfl (zc rfl (GK hT s (by rw [hm]; decide)) ?_))
 rintro v h (⟨I,_,_⟩ | ⟨_,b0,rfl,s⟩)
 ·rw [hd] at I; cases I
 rw [hm] at s
 refine zk 10 rfl (zh rfl (ag rfl rfl aL) (rfl) (zk 6 rfl (zo rfl (cX rfl (by rw [Q2]; rfl)) ?_)))
 refine az.cr s rfl rfl rfl (fC rfl rfl) (fun Vl h s => ?_)
 dsimp only [V.cells,List.take,List.length_cons,List.length_nil,Nat.reduceAdd,List.drop,List.cons_append,List.nil_append] at s
 refine zk 7 rfl ?_
 have s:=s.ae [2,0,0]
 dsimp only [bringA,getA,aZ] at s
 refine zc rfl (Ns hT s (by rw [hl]; decide)) ?_
 rintro v h (⟨I,_,_⟩ | ⟨_,b1,rfl,s⟩)
 ·rw [hd] at I; cases I
 rw [hl] at s
 have hv:=(s.buf (k:=0) rfl).view.cells
 refine zk 4 rfl (zf rfl (jI _ _) (zS rfl (s.iw (k:=2) rfl jX rfl (by decide) hv.1 hv.2) ?_))
 intro h s
 dsimp only [Nat.reduceAdd,List.set,setA] at s
 refine za rfl (zv (zg rfl (zm rfl (zh rfl (ag rfl rfl aL) (rfl) (zv (zj rfl (WP.skip (zw (zg rfl (zm rfl (zo rfl (aV rfl rfl rfl (by exact aS aI (s.aH (k:=3) rfl (aR _ _)))) ?_)))))))))))
 refine zv (WP.block (zg rfl (zt rfl (ag rfl rfl gC) (rfl) (za rfl (zv (zi rfl (WP.skip (zg rfl (za rfl (zv (zw (WP.block (WP.loop (zw (zg rfl (zk 3 rfl (zf rfl (jI _ _) (zl rfl (by exact s.ld (k:=2) rfl bK rfl) ?_))))))))))))))))))
 refine zo rfl (aV rfl rfl rfl (aS aI (s.aH (k:=0) rfl (aR _ _)))) (zh rfl (ag rfl rfl bf) (rfl) (zk 2 rfl (WP.exit (zK 6 rfl (zf rfl (jI _ _) (zl rfl (s.ld (k:=2) rfl bK rfl) (zo rfl (aV rfl rfl rfl (aS aI (s.aH (k:=0) rfl (aR _ _)))) (zh rfl (ag rfl rfl bf) (rfl) (zk 5 rfl ?_)))))))))
 have s0:=s
 have J:=iV (s.buf (k:=0) rfl).view
 refine WP.drawn [none,none,some (0,2),some (0,2),some (0,2),some (0,2),some (0,2),none] rfl (by kernel_rfl) (by kernel_rfl) ?_
 refine zM rfl (aB.any rfl rfl rfl rfl (OpR.call rfl rfl rfl rfl (D3 hT (s.ae [1]))) ?_)
 rintro v h' ⟨rfl,rfl⟩
 refine zM rfl (zN rfl (zF rfl (jI _ _) (zL rfl (s.ld (k:=2) rfl bK rfl) (zO rfl (aV rfl rfl rfl (aS aI (s.aH (k:=0) rfl (aR _ _)))) (aB.tD rfl rfl rfl rfl (ag rfl rfl bf) (by rw [show δ.CN=0 from hc]; rfl) ?_)))))
 refine aB.nil ⟨⟨aa,aa,fun _ _=>.inr ⟨rfl,⟨_,b_ rfl⟩,bT _ rfl⟩,fun _ _=>.inr ⟨rfl,⟨_,sP rfl⟩,bT _ rfl⟩,fun _ _=>.inr ⟨rfl,⟨_,ny rfl (jI _ _)⟩,bT _ rfl⟩,fo (.inr ⟨rfl,⟨_,aO rfl (s0.ld (k:=2) rfl bK rfl)⟩,J⟩) (.inr ⟨rfl,⟨_,aO rfl (s.ld (k:=2) rfl bK rfl)⟩,J⟩),fo (.inr ⟨rfl,⟨_,aV rfl rfl rfl (aS aI (s0.aH (k:=0) rfl (aR _ _)))⟩,bT _ rfl⟩) (.inr ⟨rfl,⟨_,aV rfl rfl rfl (aS aI (s.aH (k:=0) rfl (aR _ _)))⟩,bT _ rfl⟩),aa,aa⟩,?_⟩
 refine zK 7 rfl (zf rfl (jI _ _) (zl rfl (s.ld (k:=2) rfl bK rfl) (zo rfl (aV rfl rfl rfl (aS aI (s.aH (k:=0) rfl (aR _ _)))) (zn rfl (zf rfl (Aw _ _) ?_)))))
 refine zS rfl (by exact s.iw (k:=2) rfl mh rfl (by decide) rfl rfl) (fun h s => ?_)
 refine zk 7 rfl (WP.ret ⟨aa,_,rfl,?_⟩)
 have s1:=(s.del 3).qc (k:=1)
 refine ⟨_,rfl,fG.2 ⟨b1,.bu,?_⟩⟩
 exact s1.ae [3,1,0]
theorem Jk (J:W told)(s:Sat h (bW q p μ::S))(I:μ.Ok): Call ⟨Tryz.prog,told⟩ 84 [.ptr q 0,.int .u64 ((μ.base:Int)+(μ.b.length:Int))] h fun v h'=>v=.aX [.agg (mU 0 0 0 0 .bu .bu),.int .u64 0,.int .i64 17]∧Sat h' (bW q p μ::S):=by
 refine Call.of_wp (J.free _ rfl) Tryz.func84 rfl rfl (zg rfl ?_)
 refine az.cr s rfl rfl rfl (ck KE) (fun p4 h s => ?_)
 refine zk 4 rfl (WP.block (zK 4 rfl ?_))
 have s:=s.ae [1]
 refine zc rfl (AH J s I.size) ?_
 rintro v h' ⟨rfl,rfl⟩
 refine zt rfl (ag rfl rfl gC) (by simp) ?_
 refine zk 5 rfl (zo rfl (cX rfl (by rw [KF]; rfl)) ?_)
 refine zS rfl (s.gQ (j:=1) rfl sR rfl rfl) (fun h s => ?_)
 refine zk 3 rfl ?_
 refine WP.ret ⟨aa,_,My rfl (s.cP (k:=1) rfl As sR) rfl rfl,?_⟩
 exact ⟨rfl,s.del 1⟩
theorem Ll (J:W told){n:Nat}(s:Sat h (bW q p μ::S))(I:μ.Ok)(hn:n<18446744073709551616)(dg:n≠μ.base+μ.b.length)(LV:μ.hasB n=false): Call ⟨Tryz.prog,told⟩ 84 [.ptr q 0,.int .u64 (n:Int)] h fun v h'=>v=.aX [.agg (mU 0 0 0 0 .bu .bu),.int .u64 0,.int .i64 1]∧Sat h' (bW q p μ::S):=by
 refine Call.of_wp (J.free _ rfl) Tryz.func84 rfl rfl (zg rfl ?_)
 refine az.cr s rfl rfl rfl (ck KE) (fun p4 h s => ?_)
 refine zk 4 rfl (WP.block (zK 4 rfl ?_))
 have s:=s.ae [1]
 refine zc rfl (AH J s I.size) ?_
 rintro v h' ⟨rfl,rfl⟩
 refine zh rfl (ag rfl rfl gC) (by simp; omega) ?_
 refine zk 7 rfl (zc rfl (Nz (n:=n) J s I hn) ?_)
 rintro v h' ⟨rfl,rfl⟩
 refine zo rfl (eY rfl rfl) (zk 2 rfl (WP.Gp rfl (by rw [LV]; rfl) ?_))
 refine zg rfl (zo rfl (cX rfl (by rw [KF]; rfl)) ?_)
 refine zS rfl (s.gQ (j:=1) rfl sR rfl rfl) (fun h s => ?_)
 refine zk 3 rfl ?_
 refine WP.ret ⟨aa,_,My rfl (s.cP (k:=1) rfl As sR) rfl rfl,?_⟩
 exact ⟨rfl,s.del 1⟩
theorem GZ (hT:W told){n:Nat}(s:Sat h (bW q p μ::S))(J:μ.Ok)(hn:n<18446744073709551616)(I:n=μ.base+μ.b.length∨μ.hasB n=false): Call ⟨Tryz.prog,told⟩ 84 [.ptr q 0,.int .u64 (n:Int)] h fun v h'=>∃e:Int,e≠0∧v=.aX [.agg (mU 0 0 0 0 .bu .bu),.int .u64 0,.int .i64 e]∧Sat h' (bW q p μ::S):=by
 by_cases he:n=μ.base+μ.b.length
 ·have:=Jk hT s J
  rw [show ((μ.base:Int)+(μ.b.length:Int))=((n:Nat):Int) by omega] at this
  exact this.mono fun v h' ⟨h1,h2⟩=>⟨17,by decide,h1,h2⟩
 ·rcases I with I | I
  ·exact absurd I he
  ·exact (Ll hT s J hn he I).mono fun v h' ⟨h1,h2⟩=>⟨1,by decide,h1,h2⟩
end
section
variable {told:cK} {h:H} {S:List aq} {X Y:aq} {r k q p bJ a g bA:Nat} {op v x u wh di:V} {l b cT data lz:List Nat} {now:List (Int×List Nat)} {bI:Bool} {ε:aF} {μ:Lg} {δ:Dk}
theorem G0 (I:W told){n:Nat}(s:Sat h (dR a p q r op data bA::bW q p μ::S))(J:μ.Ok)(hn:n<18446744073709551616)(LV:n=μ.base+μ.b.length∨μ.hasB n=false):
  Call ⟨Tryz.prog,told⟩ 87 [.ptr a 0,.int .u64 (n:Int)] h fun v h'=>v=.int .i64 0∧Sat h' (dR a p q r op data bA::bW q p μ::S):=by
 obtain ⟨dv,s⟩:=cG.1 s
 refine Call.of_wp (I.free _ rfl) Tryz.func87 rfl rfl (zK 6 rfl ?_)
 refine az.Aq s rfl rfl rfl rfl (fun Xb h s => ?_)
 refine az.Aq s rfl rfl rfl rfl (fun Xc h s => ?_)
 refine zo rfl (cX rfl (by rw [Ra]; rfl)) ?_
 refine az.cr s rfl rfl rfl (fC rfl rfl) (fun Su h s => ?_)
 refine zk 5 rfl (zo rfl (Gj rfl rfl) (zk 8 rfl (WP.block (WP.loop (WP.block (zK 4 rfl (zf rfl (EW _ _) (zl rfl (s.ld (k:=3) rfl KG rfl) (zm rfl ?_)))))))))
 have s1:=s.ae [5]
 refine zc rfl (GZ (n:=n) I s1 J hn LV) ?_
 rintro v h ⟨e,he,rfl,s⟩
 refine zk 4 rfl ?_
 refine az.cr s rfl rfl rfl (ck KE) (fun p8 h s => ?_)
 refine zS rfl (s.gQ (j:=0) rfl sR rfl rfl) (fun h s => ?_)
 refine zk 7 rfl (zt rfl (ag rfl rfl aL) (by simp; exact he) ?_)
 have s:=qg (f:=fun v (b:List Nat)=>.cE v b) (s.ae [4])
 refine zk 2 rfl (WP.exit (zK 5 rfl (zf rfl (E6 _ _) (zl rfl (s.ld (k:=3) rfl lM rfl) (zc rfl (xk I s) ?_)))))
 rintro v h ⟨kb,rfl,s⟩
 refine zc rfl (uS I s (by decide) (by decide) (by simp)) ?_
 intro kv h s
 refine zo rfl (aV rfl rfl rfl (s.iL (n:=0) (j:=0) rfl rfl (by decide) dx)) ?_
 exact zk 2 rfl (WP.block (WP.loop (zg rfl (zh rfl (ag rfl rfl bf) (rfl) (zk 3 rfl (WP.exit (zK 5 rfl (zf rfl (E6 _ _) (zl rfl (s.ld (k:=5) rfl lM rfl) (zo rfl (aV rfl rfl rfl (KP (s.ae [2]) nY)) (zt rfl (ag rfl rfl gC) (rfl) (zk 6 rfl (WP.ret ⟨aa,_,rfl,rfl,((((((cG.2 ⟨dv,s.ae [7,7,4]⟩).del 7).del 6).del 5).del 4).del 3).del 2⟩)))))))))))))
theorem Lg.Da : Lg.fresh.Ok:=⟨by decide,by decide,by simp [Lg.fresh],List.Pairwise.nil,by decide,by decide,by decide⟩
theorem Eh (I:W told){n:Nat}(s:Sat h (bp p δ::S))(h1:1≤n)(h2:n≤1024)(J:δ.dead=false)(hm:δ.mark=[])(hl:δ.log=[])(hc:δ.dW=0):
  Call ⟨Tryz.prog,told⟩ 35 [.ptr p 0,.int .i64 (n:Int)] h fun v h'=>∃a q r,v=.aX [.ptr a 0,.int .i64 0]∧Sat h' (dR a p q r .cN [] 0::dG r p q (Pl.fresh n)::bW q p Lg.fresh::bp p δ::S):=by
 refine Call.of_wp (I.free _ rfl) Tryz.func35 rfl rfl (zK 9 rfl (zh rfl (ag rfl rfl bf) (by simp <;> omega) ?_))
 refine zk 2 rfl (zh rfl (ag rfl rfl fY) (by simp <;> omega) ?_)
 refine zk 7 rfl (zc rfl (Eg I s J hm hl hc) ?_)
 rintro v h ⟨q,rfl,s⟩
 refine zk 10 rfl (zh rfl (ag rfl rfl aL) (rfl) (zk 8 rfl (zc rfl (NJ (p:=p) (q:=q) (n:=n) I s) ?_)))
 rintro v h (⟨hn,_,_⟩ | ⟨_,_,r,rfl,s⟩)
 ·omega
 rw [cW] at s
 refine zk 10 rfl (zh rfl (ag rfl rfl aL) (rfl) (zk 8 rfl (zo rfl (cX rfl (by rw [QV]; rfl)) ?_)))
 refine az.cr s rfl rfl rfl (fC rfl rfl) (fun Xd h s => ?_)
 refine zk 5 rfl (zc rfl (IX I (s.ae [2])) ?_)
 rintro v h' ⟨rfl,rfl⟩
 refine zk 6 rfl (zc rfl (D5 I (s.ae [2])) ?_)
 rintro v h' ⟨rfl,rfl⟩
 refine zk 5 rfl (zh rfl (ag rfl rfl aL) (rfl) (zk 8 rfl ?_))
 have s1:=cG.2 ⟨.bu,(s.qM).ae [1,0]⟩
 refine zc rfl (G0 (n:=1) I (s1.ae [0,1]) Lg.Da (by decide) (.inl rfl)) ?_
 rintro v h ⟨rfl,s⟩
 exact zk 5 rfl (zh rfl (ag rfl rfl aL) (rfl) (zk 9 rfl (WP.ret ⟨aa,_,rfl,_,q,r,rfl,s.ae [0,1,0]⟩)))
end
section
variable {told:cK} {h:H} {S:List aq} {X Y:aq} {r k q p bJ a g bA:Nat} {op v x u wh di:V} {l b cT data lz:List Nat} {now:List (Int×List Nat)} {bI:Bool} {ε:aF} {μ:Lg} {δ:Dk}
theorem Lm (I:W told)(s:Sat h (dR a p q r op data bA::S)): Call ⟨Tryz.prog,told⟩ 71 [.ptr a 0] h fun v h'=>v=.ptr p 0∧h'=h:=by
 obtain ⟨dv,s⟩:=cG.1 s
 exact Call.of_wp (I.free _ rfl) Tryz.func71 rfl rfl (zK 8 rfl (zf rfl (vJ _ _) (zl rfl (s.ld (k:=0) rfl rf rfl) (zk 2 rfl (WP.ret ⟨aa,_,rfl,rfl,rfl⟩)))))
end
section
variable {told:cK} {h:H} {S:List aq} {X Y:aq} {r k q p bJ a g bA:Nat} {op v x u wh di:V} {l b cT data lz:List Nat} {now:List (Int×List Nat)} {bI:Bool} {ε:aF} {μ:Lg} {δ:Dk}
theorem G1 (I:W told){n m f:Nat}(s:Sat h S)(h1:1≤n)(h2:n≤65536)(h3:m≤16777216)(J:1≤f)(h5:f≤1024):
  Call ⟨Tryz.prog,told⟩ 30 [.int .i64 (n:Int),.int .i64 (m:Int),.int .i64 (f:Int)] h fun v h'=>∃p a q r,v=.aX [.ptr p 0,.ptr a 0] ∧
   Sat h' (dR a p q r .cN [] 0::dG r p q (Pl.fresh f)::bW q p Lg.fresh::bp p (Dk.fresh n m)::S):=by
 refine Call.of_wp (I.free _ rfl) Tryz.func30 rfl rfl (zK 9 rfl (zc rfl (Nu (n:=(n:Int)) (m:=(m:Int)) I s) ?_))
 rintro v h (⟨hn,_,_⟩ | ⟨_,_,_,_,p,rfl,s⟩)
 ·omega
 rw [cW,cW] at s
 refine zk 10 rfl (zh rfl (ag rfl rfl aL) (rfl) (zk 2 rfl (zh rfl (ag rfl rfl (s_ Tryz.underlying62)) (rfl) (zk 8 rfl (zc rfl (Eh (n:=f) I s J h5 rfl rfl rfl rfl) ?_)))))
 rintro v h ⟨a,q,r,rfl,s⟩
 exact zk 10 rfl (zh rfl (ag rfl rfl aL) (rfl) (zk 2 rfl (zh rfl (ag rfl rfl (s_ uY)) (rfl) (zk 11 rfl (WP.ret ⟨aa,_,rfl,p,a,q,r,rfl,s⟩)))))
end
end Go.Proofs.YtefepnnfphdkpaaGreat.Am
