/- SpaceAll: a part of its proof; conditions: its statement's. -/
import Derived.Test.YtefepnnfphdkpaaGreatA25
set_option linter.defProp false
namespace Go.Proofs.YtefepnnfphdkpaaGreat.Am
open Go
def si:=@Tryz.underlying24
theorem tF.fit {pg:Int}{cR now:List Nat}{i:Nat}{l:List cY}(J:tF pg cR now i l)(hn:now.length=512)(h0:0≤pg)(h1:pg<65536): ∀c∈l,c.Ok∧c.b.length≤512:=by
 induction J with
 | done i h=>intro c I; cases I
 | skip i l h he J ih=>exact ih
 | take i e l h2 h3 _ _ J ih =>
  intro c I
  rcases List.mem_cons.1 I with rfl | I
  ·have hl:((now.take e).drop i).length=e-i:=by simp; omega
   refine ⟨⟨h0,h1,by simp,by simp only; omega,by simp only [hl]; omega,by simp⟩,by simp only [hl]; omega⟩
  ·exact ih c I
theorem IW.fit {pg:Int}{cR now:List Nat}{l:List cY}(hr:IW pg cR now l)(hn:now.length=512)(I:0≤pg)(J:pg<65536): ∀c∈l,c.Ok∧c.b.length≤512:=by
 obtain ⟨m,h2,rfl⟩:=hr
 split
 ·intro c hc
  rw [List.mem_singleton.1 hc]
  exact ⟨⟨I,J,by simp,by simp,by simp,by simp⟩,by simp⟩
 ·exact h2.fit hn I J
theorem jh.fit {now:List (Int×List Nat)}{l:List Int}{ε ε':aH}{e:Int}{cs:List cY}(hr:jh now l ε e cs ε')(J:∀x∈now,x.2.length=512)(hl:∀n∈l,0≤n∧n<65536): ∀c∈cs,c.Ok∧c.b.length≤512:=by
 induction hr with
 | nil ε=>intro c hc; cases hc
 | err n l ε e b ε' hr he=>intro c hc; cases hc
 | part n l ε cR b ε' c e cs jL hr hb hd hc kq ht ih =>
  intro x I
  have hn:=hl n c9
  rcases List.mem_append.1 I with I | I
  ·exact hc.fit (J _ (jK hb)) hn.1 hn.2 x I
  ·exact ih (fun m hm=>hl m (cJ _ hm)) x I
 | whole n l ε cR b ε' e cs jL hr hb hd ht ih =>
  intro x I
  have hn:=hl n c9
  have hb:=J _ (jK hb)
  rcases List.mem_cons.1 I with rfl | I
  ·exact ⟨⟨hn.1,hn.2,by simp,by simp,by simp only at hb ⊢; omega,fun _=>⟨rfl,hb⟩⟩,by simp only at hb ⊢; omega⟩
  ·exact ih (fun m hm=>hl m (cJ _ hm)) x I
theorem qJ : ∀(f n:Nat),(digits f n).length≤f+1:=by
 intro f
 induction f with
 | zero=>intro n; simp [digits]
 | succ f I =>
  intro n
  unfold digits
  split
  ·simp
  ·have:=I (n/128)
   simp only [bf]
   omega
theorem PS {c:cY}(I:c.b.length≤512): (kC c).length≤543:=by
 have J:=qJ 9 c.aS.toNat
 have h2:=qJ 9 c.pos.toNat
 have h3:=qJ 9 c.b.length
 simp only [kC,bK,bf,bR]
 omega
theorem Nt : ∀ {l:List cY},(∀c∈l,c.b.length≤512)→(l.flatMap kC).length≤543*l.length:=by
 intro l
 induction l with
 | nil=>intro _; simp
 | cons c l I =>
  intro h
  have h1:=PS (h c c9)
  have h2:=I fun x J=>h x (cJ _ J)
  simp only [rA,bK,bf]
  omega
theorem Nu {l:List cY}{tx pv nx:Nat}{data:List Nat}(hl:l.length≤33554432)(h:∀c∈l,c.Ok∧c.b.length≤512)(J:tx<18446744073709551616)(Mg:pv<18446744073709551616)(Mh:nx<18446744073709551616)(hd:data.length≤35184372088832): yB tx pv nx data l:=by
 have h2:=Nt fun c I=>(h c I).2
 refine ⟨⟨by omega,fun c I=>by have:=(h c I).2; omega,fun c I => ?_⟩,J,Mg,Mh,by omega⟩
 have:=(h c I).1
 simp only [cY.Ok] at this
 omega
theorem CU {l:List cY}{kd:Int}(I:1≤kd∧kd≤9)(h:∀c∈l,c.Ok∧c.b.length≤512): dM kd l=true:=by
 simp only [dM,aG,dR,m_]
 exact ⟨I,fun c J=>(h c J).1⟩
inductive uT (ε:aH)(now:List (Int×List Nat))(kd:Int)(tx pv nx:Nat)(data:List Nat)(m0:Nat): Nat→Int→Bool→aH→Prop where
 | arg (h:¬(1≤kd∧kd≤7)∨0<m0):uT ε now kd tx pv nx data m0 0 1 false ε
 | dead (h1:1≤kd) (h2:kd≤7) (h3:m0=0) (h:ε.2.2.dead=true):uT ε now kd tx pv nx data m0 0 9 false ε
 | nX (e:Int) (c:List cY) (ε':aH) (h1:1≤kd) (h2:kd≤7) (h3:m0=0) (h:ε.2.2.dead=false) (hc:jh now (dO now) ε e c ε') (he:e≠0):uT ε now kd tx pv nx data m0 0 e false ε'
 | app (c:List cY) (ε':aH) (h1:1≤kd) (h2:kd≤7) (h3:m0=0) (h:ε.2.2.dead=false) (hc:jh now (dO now) ε 0 c ε') (he:(aZ ε'.2 kd tx pv nx data c).1.2≠0):uT ε now kd tx pv nx data m0 0 (aZ ε'.2 kd tx pv nx data c).1.2 false (ε'.1,(aZ ε'.2 kd tx pv nx data c).2)
 | put (c:List cY) (ε':aH) (e:Int) (jL:aH) (h1:1≤kd) (h2:kd≤7) (h3:m0=0) (h:ε.2.2.dead=false) (hc:jh now (dO now) ε 0 c ε') (ha:(aZ ε'.2 kd tx pv nx data c).1.2=0) (hp:nZ now (aZ ε'.2 kd tx pv nx data c).1.1 (dO now) (ε'.1,(aZ ε'.2 kd tx pv nx data c).2) e jL) :
   uT ε now kd tx pv nx data m0 (if e=0 then (aZ ε'.2 kd tx pv nx data c).1.1 else 0) e true jL
structure qK (ε ε':aH): Prop where
 base:ε'.2.1.base=ε.2.1.base
 b:ε'.2.1.b=ε.2.1.b
 b9:ε'.2.1.b9=ε.2.1.b9
 check:ε'.2.1.check=ε.2.1.check
 log:ε'.2.2.log=ε.2.2.log
 room:ε'.2.2.room=ε.2.2.room
 aT:ε'.2.2.aT=ε.2.2.aT
theorem qK.refl (ε:aH): qK ε ε:=⟨rfl,rfl,rfl,rfl,rfl,rfl,rfl⟩
theorem qK.trans {a b c:aH}(x:qK a b)(y:qK b c): qK a c :=
 ⟨y.base.trans x.base,y.b.trans x.b,y.b9.trans x.b9,y.check.trans x.check,y.log.trans x.log,y.room.trans x.room,y.aT.trans x.aT⟩
theorem kY {δ:Dk}: δ.fO.2.log=δ.log∧δ.fO.2.room=δ.room∧δ.fO.2.aT=δ.aT:=by
 unfold Dk.fO
 split
 ·exact ⟨rfl,rfl,rfl⟩
 ·split <;> exact ⟨rfl,rfl,rfl⟩
theorem tc {δ:Dk}{n:Int}{b:List Nat}: (δ.cH n b).2.log=δ.log∧(δ.cH n b).2.room=δ.room∧(δ.cH n b).2.aT=δ.aT:=by
 unfold Dk.cH
 split
 ·exact ⟨rfl,rfl,rfl⟩
 ·split
  ·exact ⟨rfl,rfl,rfl⟩
  ·split <;> exact ⟨rfl,rfl,rfl⟩
theorem CV {π:Pl}{x:LD}{n:Nat}: qK (π,x) (π,(bL x n).2):=by
 unfold bL
 split
 ·exact qK.refl _
 ·split
  ·exact ⟨rfl,rfl,rfl,rfl,kY.1,kY.2.1,kY.2.2⟩
  ·exact ⟨rfl,rfl,rfl,rfl,kY.1,kY.2.1,kY.2.2⟩
theorem qK.to {π:Pl}{ε ε':aH}(h:qK ε ε'): qK ε (π,ε'.2):=⟨h.base,h.b,h.b9,h.check,h.log,h.room,h.aT⟩
structure jN (R:LD→Prop): Prop where
 force:∀(x:LD) (n:Nat),R x→R (bL x n).2
 write:∀(x:LD) (n:Int) (b:List Nat),R x→R (x.1,(x.2.cH n b).2)
section
variable {R:LD→Prop} {ε ε':aH} {n e:Int} {b:List Nat} {now b_:List (Int×List Nat)} {bE:Bool} {l:List Int} {cs:List cY} {aL:Nat}
theorem jN.out (h:jN R){ε:aH}{i:Nat}(I:R ε.2): R (outF ε i).2.2:=by
 unfold outF
 split
 ·exact I
 ·split
  ·exact I
  ·split
   ·exact I
   ·split
    ·exact h.force _ _ I
    ·split
     ·exact h.write _ _ _ (h.force _ _ I)
     ·exact h.write _ _ _ (h.force _ _ I)
theorem jN.gy (h:jN R)(hr:eu ε n e b ε')(J:R ε.2): R ε'.2:=by
 cases hr with
 | arg hn=>exact J
 | yE i f h1 h2 hl hf=>exact J
 | out I i f h1 h2 hl hn hf hh he=>exact h.out (ε:=(I,ε.2)) J
 | read I i f h1 h2 hl hn hf hh he hr=>exact h.out (ε:=(I,ε.2)) J
 | bad I i f h1 h2 hl hn hf hh he hr hc=>exact h.out (ε:=(I,ε.2)) J
 | load I i f h1 h2 hl hn hf hh he hr hc=>exact h.out (ε:=(I,ε.2)) J
theorem jN.rd (h:jN R)(I:kf ε n e b ε')(J:R ε.2): R ε'.2:=by
 cases I with
 | dead hd=>exact J
 | gy e b ε' hd I he=>exact h.gy I J
 | oO b ε' hd I he=>exact h.gy (ε':=ε') I J
 | read b ε' hd I he=>exact h.gy (ε':=ε') I J
theorem jN.uU (h:jN R)(J:mq ε now bE n e b ε')(I:R ε.2): R ε'.2:=by
 cases J with
 | arg hn=>exact I
 | bE _ _ _=>exact I
 | own b h1 h2 _ hl=>exact I
 | read e b ε' h1 h2 _ hl J=>exact h.rd J I
theorem jN.I1 (h:jN R)(I:ql ε now bE n b e b_ ε')(J:R ε.2): R ε'.2:=by
 cases I with
 | may e c ε' I he=>exact h.uU I J
 | bad c ε' I hg=>exact h.uU I J
 | done c ε' I hg=>exact h.uU I J
theorem jN.ch (h:jN R)(I:jh now l ε e cs ε'): R ε.2→R ε'.2:=by
 induction I with
 | nil ε=>exact fun J=>J
 | err n l ε e b ε' I he=>exact h.rd I
 | part n l ε cR b ε' c e cs jL I hb hd hc kq ht ih=>exact fun J=>ih (h.rd I J)
 | whole n l ε cR b ε' e cs jL I hb hd ht ih=>exact fun J=>ih (h.rd I J)
theorem jN.pt (h:jN R)(I:nZ now aL l ε e ε'): R ε.2→R ε'.2:=by
 induction I with
 | nil ε=>exact fun J=>J
 | gy n l ε e b ε' I he=>exact h.gy I
 | bad n l ε b0 b ε' I hb he=>exact h.gy (ε':=ε') I
 | put n l ε b0 b ε' e jL I hb he ht ih=>exact fun J=>ih (h.gy (ε':=ε') I J)
theorem I2 (ε:aH): jN fun y=>qK ε (ε.1,y) :=
 ⟨fun _ _ h=>h.trans CV,fun _ _ _ h=>h.trans ⟨rfl,rfl,rfl,rfl,tc.1,tc.2.1,tc.2.2⟩⟩
theorem jh.same (I:jh now l ε e cs ε'): qK ε ε':=((I2 ε).ch I (qK.refl ε)).to
end
theorem K1 {m:Nat}: ∀ {l:List Nat},l.Pairwise (· < ·)→(∀s∈l,s<m)→l.length≤m:=by
 intro l I J
 have key:∀(l:List Nat) (k:Nat),l.Pairwise (· < ·)→(∀s∈l,k≤s∧s<m)→k+l.length≤m∨l=[]:=by
  intro l
  induction l with
  | nil=>intro k _ _; exact .inr rfl
  | cons x l ih =>
   intro k I J
   simp only [m8] at I
   have hx:=J x c9
   rcases ih (x+1) I.2 (fun s hs=>⟨I.1 s hs,(J s (cJ _ hs)).2⟩) with h | rfl
   ·left; simp only [bf]; omega
   ·left; simp; omega
 rcases key l 0 I (fun s hs=>⟨eO _,J s hs⟩) with h | rfl
 ·omega
 ·simp
theorem kZ (x:LD)(kd:Int)(tx pv nx:Nat)(data:List Nat)(c:List cY):
  (∃e:Int,e≠0∧((e=1∧dM kd c=false)∨(e=2∧1048576<(ei kd tx pv nx data c).length)∨(e=9∧x.2.dead=true)∨(e=7∧x.2.room<x.2.log.length+(c_ x.1 kd tx pv nx data c).length))∧aZ x kd tx pv nx data c=((0,e),x)) ∨
  (x.2.dead=false∧x.2.bJ=0∧aZ x kd tx pv nx data c=((0,9),(x.1,{ x.2.die with tail:=c_ x.1 kd tx pv nx data c }))) ∨
  (dM kd c=true∧(ei kd tx pv nx data c).length≤1048576∧x.2.dead=false∧x.2.log.length+(c_ x.1 kd tx pv nx data c).length≤x.2.room∧x.2.bJ≠0 ∧
   aZ x kd tx pv nx data c=((x.1.base+x.1.b.length,0),(x.1.app (c_ x.1 kd tx pv nx data c),{ x.2.gi with log:=x.2.log++c_ x.1 kd tx pv nx data c }))):=by
 by_cases I:dM kd c=false
 ·exact .inl ⟨1,by decide,.inl ⟨rfl,I⟩,by rw [aZ,aq I]⟩
 ·by_cases hb:1048576<(ei kd tx pv nx data c).length
  ·exact .inl ⟨2,by decide,.inr (.inl ⟨rfl,hb⟩),by rw [aZ,ai I,aq hb]⟩
  ·by_cases J:x.2.dead=true
   ·have e:x.2.iC (c_ x.1 kd tx pv nx data c)=(9,x.2):=by rw [Dk.iC,aq J]
    exact .inl ⟨9,by decide,.inr (.inr (.inl ⟨rfl,J⟩)),by rw [aZ,ai I,ai hb,e,aq (by simp)]⟩
   ·by_cases hr:x.2.room<x.2.log.length+(c_ x.1 kd tx pv nx data c).length
    ·have e:x.2.iC (c_ x.1 kd tx pv nx data c)=(7,x.2):=by rw [Dk.iC,ai J,aq hr]
     exact .inl ⟨7,by decide,.inr (.inr (.inr ⟨rfl,hr⟩)),by rw [aZ,ai I,ai hb,e,aq (by simp)]⟩
    ·by_cases hf:x.2.bJ=0
     ·have e:x.2.iC (c_ x.1 kd tx pv nx data c)=(9,{ x.2.die with tail:=c_ x.1 kd tx pv nx data c }):=by rw [Dk.iC,ai J,ai hr,aq hf]
      exact .inr (.inl ⟨by simpa using J,hf,by rw [aZ,ai I,ai hb,e,aq (by simp)]⟩)
     ·have e:x.2.iC (c_ x.1 kd tx pv nx data c)=(0,{ x.2.gi with log:=x.2.log++c_ x.1 kd tx pv nx data c }):=by rw [Dk.iC,ai J,ai hr,ai hf]
      exact .inr (.inr ⟨by simpa using I,by omega,by simpa using J,by omega,hf,by rw [aZ,ai I,ai hb,e,ai (by simp)]⟩)
theorem wF {x:LD}{kd:Int}{tx pv nx:Nat}{data:List Nat}{c:List cY}(J:x.1.Ok)(I:x.2.Ok)(hs:x.1.b=x.2.log)(hz:x.1.base+x.1.b.length+1048584≤1099511627776):
  (aZ x kd tx pv nx data c).2.1.Ok∧(aZ x kd tx pv nx data c).2.2.Ok∧(aZ x kd tx pv nx data c).2.1.b=(aZ x kd tx pv nx data c).2.2.log∧(aZ x kd tx pv nx data c).2.1.base=x.1.base∧(aZ x kd tx pv nx data c).2.1.b.length≤x.1.b.length+1048584 ∧
  (aZ x kd tx pv nx data c).2.2.waiting=x.2.waiting∧(aZ x kd tx pv nx data c).1.1<1099511627776:=by
 have hlen:(c_ x.1 kd tx pv nx data c).length=8+(ei kd tx pv nx data c).length:=sV _ _
 rcases kZ x kd tx pv nx data c with ⟨e,_,_,h⟩ | ⟨hd,hf,h⟩ | ⟨hg,hb,hd,eU,hf,h⟩
 ·rw [h]; exact ⟨J,I,hs,rfl,zD _ _,rfl,by simp⟩
 ·rw [h]; exact ⟨J,⟨I.bJ,I.len,I.room,I.now,I.aT,I.dS,I.many⟩,hs,rfl,zD _ _,rfl,by simp⟩
 ·rw [h]
  generalize c_ x.1 kd tx pv nx data c=rc at hlen eU
  have UZ:=I.room
  have j9:x.1.b.length=x.2.log.length:=by rw [hs]
  have hl:(x.1.b++rc).length=x.1.b.length+rc.length:=bK
  have iN:(x.2.log++rc).length=x.2.log.length+rc.length:=bK
  refine ⟨⟨?_,?_,?_,?_,?_,?_,J.check⟩,⟨I.gi.bJ,?_,I.room,I.now,I.aT,?_,I.many⟩,?_,rfl,?_,rfl,?_⟩
  ·show x.1.base+(x.1.b++rc).length≤_; omega
  ·have h1:=K1 J.Av J.low
   show (x.1.b9++[x.1.b.length]).length≤_
   simp only [bK,bf,bR]; omega
  ·intro s hm
   show s<(x.1.b++rc).length
   rcases List.mem_append.1 (show s∈x.1.b9++[x.1.b.length] from hm) with hm | hm
   ·have:=J.low s hm; omega
   ·rw [List.mem_singleton.1 hm]; omega
  ·show (x.1.b9++[x.1.b.length]).Pairwise (·< ·)
   rw [List.pairwise_append]
   refine ⟨J.Av,List.pairwise_singleton _ _,fun a ha b hb => ?_⟩
   rw [List.mem_singleton.1 hb]
   exact J.low a ha
  ·have:=J.forced
   show x.1.forced≤(x.1.b++rc).length; omega
  ·show (x.1.b++rc).length≤_; omega
  ·show (x.2.log++rc).length≤_; omega
  ·have:=I.dS
   show x.2.dS≤(x.2.log++rc).length; omega
  ·show x.1.b++rc=x.2.log++rc; rw [hs]
  ·show (x.1.b++rc).length≤_; omega
  ·show x.1.base+x.1.b.length<_; omega
theorem wf_i64 {n:Int}(I:0≤n)(J:n<4294967296): (Lit.int .i64 n).wf=true:=by
 simp only [Lit.wf,aG,dR]
 have e1:IntKind.min .i64 = -9223372036854775808:=rfl
 have e2:IntKind.max .i64=9223372036854775807:=rfl
 omega
theorem Nv {kd:Int}{tx pv nx:Nat}{I ch:V}(J:I.beq I=true)(hc:ch.beq ch=true): (V.agg (mS kd tx pv nx I ch)).beq (V.agg (mS kd tx pv nx I ch))=true:=by
 simp only [mS,V.beq,V.beqL,J,hc,c6,kV,decide_true,eN,af]
section
variable {told:cX} {h:H} {S:List au} {X Y:au} {r k q p bF a g bA:Nat} {op v x u wh di:V} {l b cR data k8:List Nat} {now:List (Int×List Nat)} {bE:Bool} {ε:aH}
theorem Nw (hT:W told){kd:Int}{tx pv nx m0:Nat}{dt ch:V}{RX:List V}(s:Sat h (fo g a now false::dP a p q r (.ptr g 0) k8 bA::dB r p q ε.1::bU q p ε.2.1::bj p ε.2.2::X::.arr 4 ch RX::S))(hX:cN X (cQ dt data))(Cn:RX.length=m0*4)(gU:ig ε)(hw:cf ε+65536≤268435456)
 (s_:∀e∈now,e.2.length=512)(hm:now.length≤65536)(hk:∀n∈now.map (·.1),0≤n∧n<65536)(IJ:tx<18446744073709551616)(Mg:pv<18446744073709551616)(Mh:nx<18446744073709551616)(hd:data.length≤35184372088832)(Tb:ε.2.1.b=ε.2.2.log)(hz:ε.2.1.base+ε.2.1.b.length+1048584≤1099511627776):
  Call ⟨Tryz.prog,told⟩ 26 [.ptr g 0,.agg (mS kd tx pv nx dt ch)] h fun v h'=>∃aL e cl ε',uT ε now kd tx pv nx data m0 aL e cl ε'∧v=.aX [.int .u64 (aL:Int),.int .i64 e] ∧
   Sat h' (fo g a now cl::dP a p q r (cond cl .cL (.ptr g 0)) k8 bA::dB r p q ε'.1::bU q p ε'.2.1::bj p ε'.2.2::X::S):=by
 have gP:∀n∈now.map (·.1),(Lit.int .i64 n).wf=true:=fun n hn=>by
  have:=hk n hn
  exact wf_i64 (by omega) (by omega)
 have uJ:=s.ny (j:=6) rfl
 have tE:=s.aK (k:=5) rfl hX
 have ku:=uH (kd:=kd) (tx:=tx) (pv:=pv) (nx:=nx) tE.cells.2 uJ.2.1
 have hlen:=s.gI (n:=m0) (j:=6) rfl Cn (by decide) iM
 have s0:=s
 obtain ⟨nv,s⟩:=dg.1 s
 refine Call.of_wp (hT.free _ rfl) Tryz.func26 rfl rfl (zg rfl (az.cx s rfl rfl rfl (fB rfl ku) ?_))
 intro p1 h s
 dsimp only [V.cells] at s
 have s:Sat h (pt p1 (.cells 6 (mS kd tx pv nx dt ch) false)::_):=s
 have hlen:=s.gI (n:=m0) (j:=8) rfl Cn (by decide) iM
 refine zk 7 rfl (zf rfl (mc _ _) (zl rfl (s.ld (k:=1) rfl uq rfl) (zk 3 rfl (WP.block (zK 4 rfl (zf rfl (vA _ _) (zh rfl (bp rfl (s.ld (k:=1) rfl mJ rfl)) (rfl) (zk 5 rfl (zf rfl (ur _ _) (zl rfl (s.ld (k:=0) rfl eG rfl) ?_))))))))))
 have fin:∀e:Int,Sat h (fo g a now false::dP a p q r (.ptr g 0) k8 bA::dB r p q ε.1::bU q p ε.2.1::bj p ε.2.2::X::S):=fun e=>((dg.2 ⟨nv,s.ae [1,1]⟩).del 7).del 1
 refine zd rfl (ag rfl rfl aO) ?_ ?_
 ·intro hq
  have hq:kd<1:=by simpa using hq
  exact zk 19 rfl (WP.ret ⟨aa,_,rfl,0,1,false,ε,.arg (.inl (by omega)),rfl,fin 0⟩)
 ·intro hq
  have hq:1≤kd:=by simp at hq; omega
  refine zm rfl (zf rfl (ur _ _) (zl rfl (s.ld (k:=0) rfl eG rfl) ?_))
  refine zd rfl (ag rfl rfl gv) ?_ ?_
  ·intro J
   have J:7<kd:=by simpa using J
   exact zk 15 rfl (WP.ret ⟨aa,_,rfl,0,1,false,ε,.arg (.inl (by omega)),rfl,fin 0⟩)
  ·intro J
   have J:kd≤7:=by simp at J; omega
   refine zk 2 rfl (zf rfl (qa _ _) (zl rfl (s.ld (k:=0) rfl Ad rfl) (zo rfl (aQ rfl rfl rfl hlen) ?_)))
   refine zd rfl (ag rfl rfl gv) ?_ ?_
   ·intro I
    have I:0<m0:=by simp at I; omega
    exact zk 9 rfl (WP.ret ⟨aa,_,rfl,0,1,false,ε,.arg (.inr I),rfl,fin 0⟩)
   ·intro I
    have I:m0=0:=by simp at I; omega
    obtain ⟨dv,s⟩:=cF.1 (s.ae [3])
    dsimp only [bringA,getA,bk] at s
    refine zk 8 rfl (zf rfl (vC _ _) (zl rfl (s.ld (k:=0) rfl qS rfl) (zc rfl (Cw hT (s.ae [7])) ?_)))
    rintro v h ⟨rfl,rfl⟩
    refine zk 2 rfl ?_
    cases tV:ε.2.2.dead with
    | true =>
     refine zK 6 rfl (WP.ret ⟨aa,_,rfl,?_⟩)
     have s9:=dg.2 ⟨nv,(cF.2 ⟨dv,s⟩).ae [2,2]⟩
     dsimp only [bringA,getA,bk] at s9
     exact ⟨0,9,false,ε,.dead hq J I tV,rfl,(s9.del 7).del 2⟩
    | false =>
     refine zj rfl (WP.skip (zg rfl (za rfl (zv (zw (zg rfl (zm rfl ?_)))))))
     have s9:=dg.2 ⟨nv,(cF.2 ⟨dv,s⟩).ae [2,2]⟩
     dsimp only [bringA,getA,bk] at s9
     have s:=s9.ae [0,0,1,1,1]
     dsimp only [bringA,getA,bk] at s
     refine zc rfl (GD hT s gU (by omega) s_ hm gP) ?_
     rintro v h ⟨e,c,ε',hc,(⟨he,rfl,s⟩ | ⟨rfl,kq,av,cs,rfl,s⟩)⟩
     ·refine az.op rfl rfl rfl (bT rfl) ?_
      refine zk 2 rfl (zf rfl (qa _ _) ?_)
      refine zS rfl (by exact s.je (k:=5) rfl Pj rfl (by decide) rfl rfl) (fun h s => ?_)
      dsimp only [mS,Nat.reduceAdd,List.set,setA] at s
      refine zk 5 rfl (zt rfl (ag rfl rfl aF) (by simp; exact he) ?_)
      exact zk 8 rfl (WP.ret ⟨aa,_,rfl,0,e,false,ε',.nX e c ε' hq J I tV hc he,rfl,(s.del 7).del 5⟩)
     ·have Ml:=s.ny (j:=0) rfl
      have CW:=hc.lH gU
      have UC:=hc.cf
      have yC:=hc.same
      have PT:=wF (x:=ε'.2) (kd:=kd) (tx:=tx) (pv:=pv) (nx:=nx) (data:=data) (c:=c) CW.ok.lg CW.ok.dk (by rw [yC.b,yC.log]; exact Tb) (by rw [yC.base,yC.b]; exact hz)
      have eU:=hc.fit s_ fun n hn=>hk n ((eX _).mem_iff.1 hn)
      refine zk 3 rfl (zf rfl (qa _ _) (zS rfl (s.je (k:=7) rfl Pj rfl (show 0+5<6 by decide) Ml.1 Ml.2.1) ?_))
      intro h s
      dsimp only [mS,Nat.reduceAdd,List.set,setA] at s
      refine zk 5 rfl (zh rfl (ag rfl rfl aF) (rfl) ?_)
      obtain ⟨dv,s⟩:=cF.1 (s.ae [3])
      dsimp only [bringA,getA,bk] at s
      have s:=s.ae [6,6,7,2,2,0,3]
      dsimp only [bringA,getA,bk] at s
      refine zv (zj rfl (WP.skip (zw ?_)))
      have s0:=s
      have Tc:=kT tE
      have Wz:=Nv (kd:=kd) (tx:=tx) (pv:=pv) (nx:=nx) Tc Ml.2.2
      refine WP.drawn [ak,ak,ak,ak,ak,ak,ak,ak,ak,ak,ak] rfl (by kernel_rfl) (by kernel_rfl) ?_
      refine zM rfl (zN rfl (zF rfl (EJ _ _) (zL rfl (s.ld (k:=5) rfl Kp rfl) (zL rfl (s.cG (k:=6) rfl Ae sO) (aD.any rfl rfl rfl rfl (OpR.call rfl rfl rfl rfl (KK (kd:=kd) (tx:=tx) (pv:=pv) (nx:=nx) hT s hX (Nu kq eU IJ Mg Mh hd) CW.ok.lg CW.ok.dk)) ?_)))))
      rintro v h ⟨rfl,s⟩
      refine zM rfl (zO rfl (qE rfl rfl) (zO rfl (qE rfl rfl) (zA rfl (zA rfl ?_))))
      refine aD.nil ⟨⟨aa,aa,aa,aa,aa,aa,aa,aa,aa,aa,aa,aa⟩,?_⟩
      refine zK 4 rfl ?_
      have s9:=cF.2 ⟨dv,s.ae [5,6]⟩
      have s:=((((s9.ae [7,0,6,0,0,0]).del 9).del 8).del 7).del 6
      by_cases he:(aZ ε'.2 kd tx pv nx data c).1.2=0
      ·skip
       refine zh rfl (ag rfl rfl aF) (by simp; exact he) ?_
       refine zk 6 rfl (zc rfl (IV hT s) ?_)
       rintro v h ⟨rfl,s⟩
       obtain ⟨nv,s⟩:=dg.1 s
       obtain ⟨sg,rfl⟩:=Co s (j:=1) rfl
       refine zk 6 rfl (zf rfl (nr _ _) (zl rfl (s.ld (k:=0) rfl lJ rfl) (zc rfl (wY hT s) ?_)))
       rintro v h ⟨kb,rfl,s⟩
       refine zc rfl (uN hT (s.ae [0,1]) (by decide) (by omega) gP) ?_
       intro kv h s
       have hl:(dO now).length=now.length:=by rw [dO,(eX _).length_eq,eM]
       refine zo rfl (aQ rfl rfl rfl (s.gI (n:=(dO now).length) (j:=0) rfl (by simp [fQ]) (by decide) cB)) ?_
       refine zk 2 rfl (WP.block ?_)
       obtain ⟨V6,es,clock,K2,hb,qz,s⟩:=fM.1 (s.ae [2])
       injection K2 with K2
       subst K2
       obtain ⟨dv,s⟩:=cF.1 (s.ae [5])
       have s:=s.ae [6,2,2,0,3,3,3,1]
       refine I0 (op:=.cL) (dv:=dv) hT (ks:=dO now) (now:=now) (aL:=(aZ ε'.2 kd tx pv nx data c).1.1) (by omega) (fun n hn => ?_) s_ (dO now).length 0 (ε'.1,(aZ ε'.2 kd tx pv nx data c).2) _ _ _ (by omega) ?_ ?_ s ⟨rfl,rfl,rfl,rfl,rfl,rfl,aa⟩ (fun e jL E' h' hp xI l4 l5 s' => ?_) (fun jL E' h' hp kB s' => ?_)
       ·have:n∈now.map (·.1):=(eX _).mem_iff.1 hn
        cases hq:lookL n now with
        | some _=>rfl
        | none=>exact absurd this (mP.1 hq)
       ·exact ⟨⟨CW.ok.pl,PT.1,PT.2.1⟩,CW.pins,CW.full⟩
       ·have e1:cf (ε'.1,(aZ ε'.2 kd tx pv nx data c).2)=cf ε':=by simp only [cf,PT.2.2.2.2.2.1]
        rw [e1,hl]; omega
       ·rw [ej] at hp
        have e4:look E' 4=some (.int .u64 ((0:Nat):Int)):=l4
        refine ⟨aa,_,KY e4 l5,0,e,true,jL,?_,rfl,?_⟩
        ·have:=uT.put (data:=data) c ε' e jL hq J I tV hc he hp
         rwa [ai xI] at this
        ·have s3:=cF.2 ⟨dv,s'.ae [3,6]⟩
         have s4:=fM.2 ⟨sg,es,clock,rfl,hb,qz,s3.ae [2,2]⟩
         exact dg.2 ⟨.map sg,(s4.ae [2,0,0,0,0,0,1]).del 7⟩
       ·rw [ej] at hp
        have s:=s'
        refine WP.has kB (zK 6 rfl (WP.ret ⟨aa,_,rfl,?_⟩))
        refine ⟨_,0,true,jL,?_,rfl,?_⟩
        ·have:=uT.put (data:=data) c ε' 0 jL hq J I tV hc he hp
         exact this
        ·have s3:=cF.2 ⟨dv,s.ae [3,6]⟩
         have s4:=fM.2 ⟨sg,es,clock,rfl,hb,qz,s3.ae [2,2]⟩
         dsimp only [bringA,getA,bk] at s4
         exact dg.2 ⟨.map sg,(s4.ae [2,0,0,0,0,0,1]).del 7⟩
      ·skip
       refine zt rfl (ag rfl rfl aF) (by simp; exact he) ?_
       exact zk 8 rfl (WP.ret ⟨aa,_,rfl,0,_,false,_,.app c ε' hq J I tV hc he,rfl,s⟩)
end
def Lg.fresh : Lg:={ base:=1,b:=[],b9:=[],forced:=0,check:=0 }
theorem Mm {P:Program}{E:List (Nat×V)}{h:H}{a b c t:Nat}{p v w x:V}(I:look E a=some p)(J:loadV P h t p=some v)(h2:look E b=some w)(h3:look E c=some x): j_ P E h [.cell a t,.tmp b,.tmp c]=some (.aX [v,w,x]):=by
 simp only [j_,mapO,resE,I,J,h2,h3]
section
variable {told:cX} {h:H} {S:List au} {X Y:au} {r k q p bF a g bA:Nat} {op v x u wh di:V} {l b cR data k8:List Nat} {now:List (Int×List Nat)} {bE:Bool} {ε:aH} {μ:Lg} {δ:Dk}
theorem D4 (hT:W told)(s:Sat h (bj p δ::S))(hd:δ.dead=false)(hm:δ.mark=[])(hl:δ.log=[])(hc:δ.dS=0):
  Call ⟨Tryz.prog,told⟩ 80 [.ptr p 0] h fun v h'=>∃q,v=.aX [.ptr q 0,.int .i64 0]∧Sat h' (bU q p Lg.fresh::bj p δ::S):=by
 refine Call.of_wp (hT.free _ rfl) Tryz.func80 rfl rfl (zK 8 rfl (zc rfl (Gp hT s (by rw [hm]; decide)) ?_))
 rintro v h (⟨I,_,_⟩ | ⟨_,b0,rfl,s⟩)
 ·rw [hd] at I; cases I
 rw [hm] at s
 refine zk 10 rfl (zh rfl (ag rfl rfl aF) (rfl) (zk 6 rfl (zo rfl (cW rfl (by rw [QA]; rfl)) ?_)))
 refine az.cx s rfl rfl rfl (fB rfl rfl) (fun UO h s => ?_)
 dsimp only [V.cells,List.take,List.length_cons,List.length_nil,Nat.reduceAdd,List.drop,List.cons_append,List.nil_append] at s
 refine zk 7 rfl ?_
 have s:=s.ae [2,0,0]
 dsimp only [bringA,getA,bk] at s
 refine zc rfl (M9 hT s (by rw [hl]; decide)) ?_
 rintro v h (⟨I,_,_⟩ | ⟨_,b1,rfl,s⟩)
 ·rw [hd] at I; cases I
 rw [hl] at s
 have hv:=(s.buf (k:=0) rfl).view.cells
 refine zk 4 rfl (zf rfl (jE _ _) (zS rfl (s.je (k:=2) rfl kz rfl (by decide) hv.1 hv.2) ?_))
 intro h s
 dsimp only [Nat.reduceAdd,List.set,setA] at s
 refine za rfl (zv (zg rfl (zm rfl (zh rfl (ag rfl rfl aF) (rfl) (zv (zj rfl (WP.skip (zw (zg rfl (zm rfl (zo rfl (aQ rfl rfl rfl (by exact bw aM (s.aK (k:=3) rfl (bz _ _)))) ?_)))))))))))
 refine zv (WP.block (zg rfl (zt rfl (ag rfl rfl iJ) (rfl) (za rfl (zv (zi rfl (WP.skip (zg rfl (za rfl (zv (zw (WP.block (WP.loop (zw (zg rfl (zk 3 rfl (zf rfl (jE _ _) (zl rfl (by exact s.ld (k:=2) rfl cy rfl) ?_))))))))))))))))))
 refine zo rfl (aQ rfl rfl rfl (bw aM (s.aK (k:=0) rfl (bz _ _)))) (zh rfl (ag rfl rfl aO) (rfl) (zk 2 rfl (WP.exit (zK 6 rfl (zf rfl (jE _ _) (zl rfl (s.ld (k:=2) rfl cy rfl) (zo rfl (aQ rfl rfl rfl (bw aM (s.aK (k:=0) rfl (bz _ _)))) (zh rfl (ag rfl rfl aO) (rfl) (zk 5 rfl ?_)))))))))
 have s0:=s
 have J:=kT (s.buf (k:=0) rfl).view
 refine WP.drawn [none,none,some (0,2),some (0,2),some (0,2),some (0,2),some (0,2),none] rfl (by kernel_rfl) (by kernel_rfl) ?_
 refine zM rfl (aD.any rfl rfl rfl rfl (OpR.call rfl rfl rfl rfl (DQ hT (s.ae [1]))) ?_)
 rintro v h' ⟨rfl,rfl⟩
 refine zM rfl (zN rfl (zF rfl (jE _ _) (zL rfl (s.ld (k:=2) rfl cy rfl) (zO rfl (aQ rfl rfl rfl (bw aM (s.aK (k:=0) rfl (bz _ _)))) (aD.mI rfl rfl rfl rfl (ag rfl rfl aO) (by rw [show δ.Cv=0 from hc]; rfl) ?_)))))
 refine aD.nil ⟨⟨aa,aa,fun _ _=>.inr ⟨rfl,⟨_,bT rfl⟩,bP _ rfl⟩,fun _ _=>.inr ⟨rfl,⟨_,sM rfl⟩,bP _ rfl⟩,fun _ _=>.inr ⟨rfl,⟨_,nq rfl (jE _ _)⟩,bP _ rfl⟩,fh (.inr ⟨rfl,⟨_,bp rfl (s0.ld (k:=2) rfl cy rfl)⟩,J⟩) (.inr ⟨rfl,⟨_,bp rfl (s.ld (k:=2) rfl cy rfl)⟩,J⟩),fh (.inr ⟨rfl,⟨_,aQ rfl rfl rfl (bw aM (s0.aK (k:=0) rfl (bz _ _)))⟩,bP _ rfl⟩) (.inr ⟨rfl,⟨_,aQ rfl rfl rfl (bw aM (s.aK (k:=0) rfl (bz _ _)))⟩,bP _ rfl⟩),aa,aa⟩,?_⟩
 refine zK 7 rfl (zf rfl (jE _ _) (zl rfl (s.ld (k:=2) rfl cy rfl) (zo rfl (aQ rfl rfl rfl (bw aM (s.aK (k:=0) rfl (bz _ _)))) (zn rfl (zf rfl (Ah _ _) ?_)))))
 refine zS rfl (by exact s.je (k:=2) rfl lD rfl (by decide) rfl rfl) (fun h s => ?_)
 refine zk 7 rfl (WP.ret ⟨aa,_,rfl,?_⟩)
 have s1:=(s.del 3).mN (k:=1)
 refine ⟨_,rfl,fF.2 ⟨b1,.bq,?_⟩⟩
 exact s1.ae [3,1,0]
theorem I3 (J:W told)(s:Sat h (bU q p μ::S))(I:μ.Ok): Call ⟨Tryz.prog,told⟩ 84 [.ptr q 0,.int .u64 ((μ.base:Int)+(μ.b.length:Int))] h fun v h'=>v=.aX [.agg (mS 0 0 0 0 .bq .bq),.int .u64 0,.int .i64 17]∧Sat h' (bU q p μ::S):=by
 refine Call.of_wp (J.free _ rfl) Tryz.func84 rfl rfl (zg rfl ?_)
 refine az.cx s rfl rfl rfl (cz Kn) (fun p4 h s => ?_)
 refine zk 4 rfl (WP.block (zK 4 rfl ?_))
 have s:=s.ae [1]
 refine zc rfl (Aw J s I.size) ?_
 rintro v h' ⟨rfl,rfl⟩
 refine zt rfl (ag rfl rfl iJ) (by simp) ?_
 refine zk 5 rfl (zo rfl (cW rfl (by rw [Ko]; rfl)) ?_)
 refine zS rfl (s.ik (j:=1) rfl sO rfl rfl) (fun h s => ?_)
 refine zk 3 rfl ?_
 refine WP.ret ⟨aa,_,Mm rfl (s.cG (k:=1) rfl Ae sO) rfl rfl,?_⟩
 exact ⟨rfl,s.del 1⟩
theorem K3 (J:W told){n:Nat}(s:Sat h (bU q p μ::S))(I:μ.Ok)(hn:n<18446744073709551616)(cT:n≠μ.base+μ.b.length)(LC:μ.hasB n=false): Call ⟨Tryz.prog,told⟩ 84 [.ptr q 0,.int .u64 (n:Int)] h fun v h'=>v=.aX [.agg (mS 0 0 0 0 .bq .bq),.int .u64 0,.int .i64 1]∧Sat h' (bU q p μ::S):=by
 refine Call.of_wp (J.free _ rfl) Tryz.func84 rfl rfl (zg rfl ?_)
 refine az.cx s rfl rfl rfl (cz Kn) (fun p4 h s => ?_)
 refine zk 4 rfl (WP.block (zK 4 rfl ?_))
 have s:=s.ae [1]
 refine zc rfl (Aw J s I.size) ?_
 rintro v h' ⟨rfl,rfl⟩
 refine zh rfl (ag rfl rfl iJ) (by simp; omega) ?_
 refine zk 7 rfl (zc rfl (Nf (n:=n) J s I hn) ?_)
 rintro v h' ⟨rfl,rfl⟩
 refine zo rfl (eP rfl rfl) (zk 2 rfl (WP.F5 rfl (by rw [LC]; rfl) ?_))
 refine zg rfl (zo rfl (cW rfl (by rw [Ko]; rfl)) ?_)
 refine zS rfl (s.ik (j:=1) rfl sO rfl rfl) (fun h s => ?_)
 refine zk 3 rfl ?_
 refine WP.ret ⟨aa,_,Mm rfl (s.cG (k:=1) rfl Ae sO) rfl rfl,?_⟩
 exact ⟨rfl,s.del 1⟩
theorem GG (hT:W told){n:Nat}(s:Sat h (bU q p μ::S))(J:μ.Ok)(hn:n<18446744073709551616)(I:n=μ.base+μ.b.length∨μ.hasB n=false): Call ⟨Tryz.prog,told⟩ 84 [.ptr q 0,.int .u64 (n:Int)] h fun v h'=>∃e:Int,e≠0∧v=.aX [.agg (mS 0 0 0 0 .bq .bq),.int .u64 0,.int .i64 e]∧Sat h' (bU q p μ::S):=by
 by_cases he:n=μ.base+μ.b.length
 ·have:=I3 hT s J
  rw [show ((μ.base:Int)+(μ.b.length:Int))=((n:Nat):Int) by omega] at this
  exact this.mono fun v h' ⟨h1,h2⟩=>⟨17,by decide,h1,h2⟩
 ·rcases I with I | I
  ·exact absurd I he
  ·exact (K3 hT s J hn he I).mono fun v h' ⟨h1,h2⟩=>⟨1,by decide,h1,h2⟩
end
section
variable {told:cX} {h:H} {S:List au} {X Y:au} {r k q p bF a g bA:Nat} {op v x u wh di:V} {l b cR data k8:List Nat} {now:List (Int×List Nat)} {bE:Bool} {ε:aH} {μ:Lg} {δ:Dk}
theorem GH (I:W told){n:Nat}(s:Sat h (dP a p q r op data bA::bU q p μ::S))(J:μ.Ok)(hn:n<18446744073709551616)(LC:n=μ.base+μ.b.length∨μ.hasB n=false):
  Call ⟨Tryz.prog,told⟩ 87 [.ptr a 0,.int .u64 (n:Int)] h fun v h'=>v=.int .i64 0∧Sat h' (dP a p q r op data bA::bU q p μ::S):=by
 obtain ⟨dv,s⟩:=cF.1 s
 refine Call.of_wp (I.free _ rfl) Tryz.func87 rfl rfl (zK 6 rfl ?_)
 refine az.Ac s rfl rfl rfl rfl (fun WA h s => ?_)
 refine az.Ac s rfl rfl rfl rfl (fun WB h s => ?_)
 refine zo rfl (cW rfl (by rw [QH]; rfl)) ?_
 refine az.cx s rfl rfl rfl (fB rfl rfl) (fun RU h s => ?_)
 refine zk 5 rfl (zo rfl (LV rfl rfl) (zk 8 rfl (WP.block (WP.loop (WP.block (zK 4 rfl (zf rfl (EJ _ _) (zl rfl (s.ld (k:=3) rfl Kp rfl) (zm rfl ?_)))))))))
 have s1:=s.ae [5]
 refine zc rfl (GG (n:=n) I s1 J hn LC) ?_
 rintro v h ⟨e,he,rfl,s⟩
 refine zk 4 rfl ?_
 refine az.cx s rfl rfl rfl (cz Kn) (fun p8 h s => ?_)
 refine zS rfl (s.ik (j:=0) rfl sO rfl rfl) (fun h s => ?_)
 refine zk 7 rfl (zt rfl (ag rfl rfl aF) (by simp; exact he) ?_)
 have s:=qc (f:=fun v (b:List Nat)=>.cr v b) (s.ae [4])
 refine zk 2 rfl (WP.exit (zK 5 rfl (zf rfl (ER _ _) (zl rfl (s.ld (k:=3) rfl lJ rfl) (zc rfl (wY I s) ?_)))))
 rintro v h ⟨kb,rfl,s⟩
 refine zc rfl (uN I s (by decide) (by decide) (by simp)) ?_
 intro kv h s
 refine zo rfl (aQ rfl rfl rfl (s.gI (n:=0) (j:=0) rfl rfl (by decide) cB)) ?_
 exact zk 2 rfl (WP.block (WP.loop (zg rfl (zh rfl (ag rfl rfl aO) (rfl) (zk 3 rfl (WP.exit (zK 5 rfl (zf rfl (ER _ _) (zl rfl (s.ld (k:=5) rfl lJ rfl) (zo rfl (aQ rfl rfl rfl (Ky (s.ae [2]) nV)) (zt rfl (ag rfl rfl iJ) (rfl) (zk 6 rfl (WP.ret ⟨aa,_,rfl,rfl,((((((cF.2 ⟨dv,s.ae [7,7,4]⟩).del 7).del 6).del 5).del 4).del 3).del 2⟩)))))))))))))
theorem Lg.CX : Lg.fresh.Ok:=⟨by decide,by decide,by simp [Lg.fresh],List.Pairwise.nil,by decide,by decide,by decide⟩
theorem D5 (I:W told){n:Nat}(s:Sat h (bj p δ::S))(h1:1≤n)(h2:n≤1024)(J:δ.dead=false)(hm:δ.mark=[])(hl:δ.log=[])(hc:δ.dS=0):
  Call ⟨Tryz.prog,told⟩ 35 [.ptr p 0,.int .i64 (n:Int)] h fun v h'=>∃a q r,v=.aX [.ptr a 0,.int .i64 0]∧Sat h' (dP a p q r .cL [] 0::dB r p q (Pl.fresh n)::bU q p Lg.fresh::bj p δ::S):=by
 refine Call.of_wp (I.free _ rfl) Tryz.func35 rfl rfl (zK 9 rfl (zh rfl (ag rfl rfl aO) (by simp <;> omega) ?_))
 refine zk 2 rfl (zh rfl (ag rfl rfl gv) (by simp <;> omega) ?_)
 refine zk 7 rfl (zc rfl (D4 I s J hm hl hc) ?_)
 rintro v h ⟨q,rfl,s⟩
 refine zk 10 rfl (zh rfl (ag rfl rfl aF) (rfl) (zk 8 rfl (zc rfl (No (p:=p) (q:=q) (n:=n) I s) ?_)))
 rintro v h (⟨hn,_,_⟩ | ⟨_,_,r,rfl,s⟩)
 ·omega
 rw [cg] at s
 refine zk 10 rfl (zh rfl (ag rfl rfl aF) (rfl) (zk 8 rfl (zo rfl (cW rfl (by rw [Qt]; rfl)) ?_)))
 refine az.cx s rfl rfl rfl (fB rfl rfl) (fun WC h s => ?_)
 refine zk 5 rfl (zc rfl (IA I (s.ae [2])) ?_)
 rintro v h' ⟨rfl,rfl⟩
 refine zk 6 rfl (zc rfl (DS I (s.ae [2])) ?_)
 rintro v h' ⟨rfl,rfl⟩
 refine zk 5 rfl (zh rfl (ag rfl rfl aF) (rfl) (zk 8 rfl ?_))
 have s1:=cF.2 ⟨.bq,(s.oJ).ae [1,0]⟩
 refine zc rfl (GH (n:=1) I (s1.ae [0,1]) Lg.CX (by decide) (.inl rfl)) ?_
 rintro v h ⟨rfl,s⟩
 exact zk 5 rfl (zh rfl (ag rfl rfl aF) (rfl) (zk 9 rfl (WP.ret ⟨aa,_,rfl,_,q,r,rfl,s.ae [0,1,0]⟩)))
end
section
variable {told:cX} {h:H} {S:List au} {X Y:au} {r k q p bF a g bA:Nat} {op v x u wh di:V} {l b cR data k8:List Nat} {now:List (Int×List Nat)} {bE:Bool} {ε:aH} {μ:Lg} {δ:Dk}
theorem K4 (I:W told)(s:Sat h (dP a p q r op data bA::S)): Call ⟨Tryz.prog,told⟩ 71 [.ptr a 0] h fun v h'=>v=.ptr p 0∧h'=h:=by
 obtain ⟨dv,s⟩:=cF.1 s
 exact Call.of_wp (I.free _ rfl) Tryz.func71 rfl rfl (zK 8 rfl (zf rfl (vC _ _) (zl rfl (s.ld (k:=0) rfl qS rfl) (zk 2 rfl (WP.ret ⟨aa,_,rfl,rfl,rfl⟩)))))
end
section
variable {told:cX} {h:H} {S:List au} {X Y:au} {r k q p bF a g bA:Nat} {op v x u wh di:V} {l b cR data k8:List Nat} {now:List (Int×List Nat)} {bE:Bool} {ε:aH} {μ:Lg} {δ:Dk}
theorem GI (I:W told){n m f:Nat}(s:Sat h S)(h1:1≤n)(h2:n≤65536)(h3:m≤16777216)(J:1≤f)(h5:f≤1024):
  Call ⟨Tryz.prog,told⟩ 30 [.int .i64 (n:Int),.int .i64 (m:Int),.int .i64 (f:Int)] h fun v h'=>∃p a q r,v=.aX [.ptr p 0,.ptr a 0] ∧
   Sat h' (dP a p q r .cL [] 0::dB r p q (Pl.fresh f)::bU q p Lg.fresh::bj p (Dk.fresh n m)::S):=by
 refine Call.of_wp (I.free _ rfl) Tryz.func30 rfl rfl (zK 9 rfl (zc rfl (Na (n:=(n:Int)) (m:=(m:Int)) I s) ?_))
 rintro v h (⟨hn,_,_⟩ | ⟨_,_,_,_,p,rfl,s⟩)
 ·omega
 rw [cg,cg] at s
 refine zk 10 rfl (zh rfl (ag rfl rfl aF) (rfl) (zk 2 rfl (zh rfl (ag rfl rfl (s8 Tryz.underlying62)) (rfl) (zk 8 rfl (zc rfl (D5 (n:=f) I s J h5 rfl rfl rfl rfl) ?_)))))
 rintro v h ⟨a,q,r,rfl,s⟩
 exact zk 10 rfl (zh rfl (ag rfl rfl aF) (rfl) (zk 2 rfl (zh rfl (ag rfl rfl (s8 si)) (rfl) (zk 11 rfl (WP.ret ⟨aa,_,rfl,p,a,q,r,rfl,s⟩)))))
end
end Go.Proofs.YtefepnnfphdkpaaGreat.Am
