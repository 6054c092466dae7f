/- ChainKept: a part of its proof; conditions: its statement's. -/
import Derived.Test.YtefepnnfphdkpaaGreatC25
set_option linter.defProp false
namespace Go.Proofs.YtefepnnfphdkpaaGreat.Am
open Go
def vB:=@Tryz.underlying24
theorem uu.fit {pg:Int}{c7 now:List Nat}{i:Nat}{l:List dn}(J:uu pg c7 now i l)(hn:now.length=512)(h0:0≤pg)(h1:pg<65536): ∀c∈l,c.Ok∧c.b.length≤512:=by
 induction J with
 | done i h=>intro c I; cases I
 | skip i l h he J ih=>exact ih
 | take i e l h2 h3 _ _ J ih =>
  intro c I
  rcases List.mem_cons.1 I with rfl | I
  ·have hl:((now.take e).drop i).length=e-i:=by simp; omega
   refine ⟨⟨h0,h1,by simp,by simp only; omega,by simp only [hl]; omega,by simp⟩,by simp only [hl]; omega⟩
  ·exact ih c I
theorem J_.fit {pg:Int}{c7 now:List Nat}{l:List dn}(hr:J_ pg c7 now l)(hn:now.length=512)(I:0≤pg)(J:pg<65536): ∀c∈l,c.Ok∧c.b.length≤512:=by
 obtain ⟨m,h2,rfl⟩:=hr
 split
 ·intro c hc
  rw [List.mem_singleton.1 hc]
  exact ⟨⟨I,J,by simp,by simp,by simp,by simp⟩,by simp⟩
 ·exact h2.fit hn I J
theorem jA.fit {now:List (Int×List Nat)}{l:List Int}{ε ε':aF}{e:Int}{cs:List dn}(hr:jA now l ε e cs ε')(J:∀x∈now,x.2.length=512)(hl:∀n∈l,0≤n∧n<65536): ∀c∈cs,c.Ok∧c.b.length≤512:=by
 induction hr with
 | nil ε=>intro c hc; cases hc
 | err n l ε e b ε' hr he=>intro c hc; cases hc
 | part n l ε c7 b ε' c e cs jg hr hb hd hc jf ht ih =>
  intro x I
  have hn:=hl n cz
  rcases List.mem_append.1 I with I | I
  ·exact hc.fit (J _ (ki hb)) hn.1 hn.2 x I
  ·exact ih (fun m hm=>hl m (cj _ hm)) x I
 | whole n l ε c7 b ε' e cs jg hr hb hd ht ih =>
  intro x I
  have hn:=hl n cz
  have hb:=J _ (ki hb)
  rcases List.mem_cons.1 I with rfl | I
  ·exact ⟨⟨hn.1,hn.2,by simp,by simp,by simp only at hb ⊢; omega,fun _=>⟨rfl,hb⟩⟩,by simp only at hb ⊢; omega⟩
  ·exact ih (fun m hm=>hl m (cj _ hm)) x I
theorem rO : ∀(f n:Nat),(digits f n).length≤f+1:=by
 intro f
 induction f with
 | zero=>intro n; simp [digits]
 | succ f I =>
  intro n
  unfold digits
  split
  ·simp
  ·have:=I (n/128)
   simp only [aO]
   omega
theorem RC {c:dn}(I:c.b.length≤512): (k9 c).length≤543:=by
 have J:=rO 9 c.bf.toNat
 have h2:=rO 9 c.pos.toNat
 have h3:=rO 9 c.b.length
 simp only [k9,bD,aO,bB]
 omega
theorem Pd : ∀ {l:List dn},(∀c∈l,c.b.length≤512)→(l.flatMap k9).length≤543*l.length:=by
 intro l
 induction l with
 | nil=>intro _; simp
 | cons c l I =>
  intro h
  have h1:=RC (h c cz)
  have h2:=I fun x J=>h x (cj _ J)
  simp only [sB,bD,aO]
  omega
theorem Pe {l:List dn}{tx pv nx:Nat}{data:List Nat}(hl:l.length≤33554432)(h:∀c∈l,c.Ok∧c.b.length≤512)(J:tx<18446744073709551616)(NL:pv<18446744073709551616)(B0:nx<18446744073709551616)(hd:data.length≤35184372088832): z_ tx pv nx data l:=by
 have h2:=Pd fun c I=>(h c I).2
 refine ⟨⟨by omega,fun c I=>by have:=(h c I).2; omega,fun c I => ?_⟩,J,NL,B0,by omega⟩
 have:=(h c I).1
 simp only [dn.Ok] at this
 omega
theorem DS {l:List dn}{kd:Int}(I:1≤kd∧kd≤9)(h:∀c∈l,c.Ok∧c.b.length≤512): dZ kd l=true:=by
 simp only [dZ,aI,dx,nM]
 exact ⟨I,fun c J=>(h c J).1⟩
inductive vC (ε:aF)(now:List (Int×List Nat))(kd:Int)(tx pv nx:Nat)(data:List Nat)(nF:Nat): Nat→Int→Bool→aF→Prop where
 | arg (h:¬(1≤kd∧kd≤7)∨0<nF):vC ε now kd tx pv nx data nF 0 1 false ε
 | dead (h1:1≤kd) (h2:kd≤7) (h3:nF=0) (h:ε.2.2.dead=true):vC ε now kd tx pv nx data nF 0 9 false ε
 | oK (e:Int) (c:List dn) (ε':aF) (h1:1≤kd) (h2:kd≤7) (h3:nF=0) (h:ε.2.2.dead=false) (hc:jA now (ei now) ε e c ε') (he:e≠0):vC ε now kd tx pv nx data nF 0 e false ε'
 | app (c:List dn) (ε':aF) (h1:1≤kd) (h2:kd≤7) (h3:nF=0) (h:ε.2.2.dead=false) (hc:jA now (ei now) ε 0 c ε') (he:(bu ε'.2 kd tx pv nx data c).1.2≠0):vC ε now kd tx pv nx data nF 0 (bu ε'.2 kd tx pv nx data c).1.2 false (ε'.1,(bu ε'.2 kd tx pv nx data c).2)
 | put (c:List dn) (ε':aF) (e:Int) (jg:aF) (h1:1≤kd) (h2:kd≤7) (h3:nF=0) (h:ε.2.2.dead=false) (hc:jA now (ei now) ε 0 c ε') (ha:(bu ε'.2 kd tx pv nx data c).1.2=0) (hp:oM now (bu ε'.2 kd tx pv nx data c).1.1 (ei now) (ε'.1,(bu ε'.2 kd tx pv nx data c).2) e jg) :
   vC ε now kd tx pv nx data nF (if e=0 then (bu ε'.2 kd tx pv nx data c).1.1 else 0) e true jg
structure rP (ε ε':aF): Prop where
 base:ε'.2.1.base=ε.2.1.base
 b:ε'.2.1.b=ε.2.1.b
 ct:ε'.2.1.ct=ε.2.1.ct
 check:ε'.2.1.check=ε.2.1.check
 log:ε'.2.2.log=ε.2.2.log
 room:ε'.2.2.room=ε.2.2.room
 bg:ε'.2.2.bg=ε.2.2.bg
theorem rP.refl (ε:aF): rP ε ε:=⟨rfl,rfl,rfl,rfl,rfl,rfl,rfl⟩
theorem rP.trans {a b c:aF}(x:rP a b)(y:rP b c): rP a c :=
 ⟨y.base.trans x.base,y.b.trans x.b,y.ct.trans x.ct,y.check.trans x.check,y.log.trans x.log,y.room.trans x.room,y.bg.trans x.bg⟩
theorem lQ {δ:Dk}: δ.f_.2.log=δ.log∧δ.f_.2.room=δ.room∧δ.f_.2.bg=δ.bg:=by
 unfold Dk.f_
 split
 ·exact ⟨rfl,rfl,rfl⟩
 ·split <;> exact ⟨rfl,rfl,rfl⟩
theorem tZ {δ:Dk}{n:Int}{b:List Nat}: (δ.cS n b).2.log=δ.log∧(δ.cS n b).2.room=δ.room∧(δ.cS n b).2.bg=δ.bg:=by
 unfold Dk.cS
 split
 ·exact ⟨rfl,rfl,rfl⟩
 ·split
  ·exact ⟨rfl,rfl,rfl⟩
  ·split <;> exact ⟨rfl,rfl,rfl⟩
theorem DT {π:Pl}{x:LD}{n:Nat}: rP (π,x) (π,(bR x n).2):=by
 unfold bR
 split
 ·exact rP.refl _
 ·split
  ·exact ⟨rfl,rfl,rfl,rfl,lQ.1,lQ.2.1,lQ.2.2⟩
  ·exact ⟨rfl,rfl,rfl,rfl,lQ.1,lQ.2.1,lQ.2.2⟩
theorem rP.to {π:Pl}{ε ε':aF}(h:rP ε ε'): rP ε (π,ε'.2):=⟨h.base,h.b,h.ct,h.check,h.log,h.room,h.bg⟩
structure kr (R:LD→Prop): Prop where
 force:∀(x:LD) (n:Nat),R x→R (bR x n).2
 write:∀(x:LD) (n:Int) (b:List Nat),R x→R (x.1,(x.2.cS n b).2)
section
variable {R:LD→Prop} {ε ε':aF} {n e:Int} {b:List Nat} {now b6:List (Int×List Nat)} {bK:Bool} {l:List Int} {cs:List dn} {aQ:Nat}
theorem kr.out (h:kr R){ε:aF}{i:Nat}(I:R ε.2): R (outF ε i).2.2:=by
 unfold outF
 split
 ·exact I
 ·split
  ·exact I
  ·split
   ·exact I
   ·split
    ·exact h.force _ _ I
    ·split
     ·exact h.write _ _ _ (h.force _ _ I)
     ·exact h.write _ _ _ (h.force _ _ I)
theorem kr.gG (h:kr R)(hr:eO ε n e b ε')(J:R ε.2): R ε'.2:=by
 cases hr with
 | arg hn=>exact J
 | Ab i f h1 h2 hl hf=>exact J
 | out I i f h1 h2 hl hn hf hh he=>exact h.out (ε:=(I,ε.2)) J
 | read I i f h1 h2 hl hn hf hh he hr=>exact h.out (ε:=(I,ε.2)) J
 | bad I i f h1 h2 hl hn hf hh he hr hc=>exact h.out (ε:=(I,ε.2)) J
 | load I i f h1 h2 hl hn hf hh he hr hc=>exact h.out (ε:=(I,ε.2)) J
theorem kr.rd (h:kr R)(I:kK ε n e b ε')(J:R ε.2): R ε'.2:=by
 cases I with
 | dead hd=>exact J
 | gG e b ε' hd I he=>exact h.gG I J
 | pK b ε' hd I he=>exact h.gG (ε':=ε') I J
 | read b ε' hd I he=>exact h.gG (ε':=ε') I J
theorem kr.vD (h:kr R)(J:mS ε now bK n e b ε')(I:R ε.2): R ε'.2:=by
 cases J with
 | arg hn=>exact I
 | bK _ _ _=>exact I
 | own b h1 h2 _ hl=>exact I
 | read e b ε' h1 h2 _ hl J=>exact h.rd J I
theorem kr.Kf (h:kr R)(I:qN ε now bK n b e b6 ε')(J:R ε.2): R ε'.2:=by
 cases I with
 | may e c ε' I he=>exact h.vD I J
 | bad c ε' I hg=>exact h.vD I J
 | done c ε' I hg=>exact h.vD I J
theorem kr.ch (h:kr R)(I:jA now l ε e cs ε'): R ε.2→R ε'.2:=by
 induction I with
 | nil ε=>exact fun J=>J
 | err n l ε e b ε' I he=>exact h.rd I
 | part n l ε c7 b ε' c e cs jg I hb hd hc jf ht ih=>exact fun J=>ih (h.rd I J)
 | whole n l ε c7 b ε' e cs jg I hb hd ht ih=>exact fun J=>ih (h.rd I J)
theorem kr.pt (h:kr R)(I:oM now aQ l ε e ε'): R ε.2→R ε'.2:=by
 induction I with
 | nil ε=>exact fun J=>J
 | gG n l ε e b ε' I he=>exact h.gG I
 | bad n l ε b0 b ε' I hb he=>exact h.gG (ε':=ε') I
 | put n l ε b0 b ε' e jg I hb he ht ih=>exact fun J=>ih (h.gG (ε':=ε') I J)
theorem Kg (ε:aF): kr fun y=>rP ε (ε.1,y) :=
 ⟨fun _ _ h=>h.trans DT,fun _ _ _ h=>h.trans ⟨rfl,rfl,rfl,rfl,tZ.1,tZ.2.1,tZ.2.2⟩⟩
theorem jA.same (I:jA now l ε e cs ε'): rP ε ε':=((Kg ε).ch I (rP.refl ε)).to
end
theorem Mq {m:Nat}: ∀ {l:List Nat},l.Pairwise (· < ·)→(∀s∈l,s<m)→l.length≤m:=by
 intro l I J
 have key:∀(l:List Nat) (k:Nat),l.Pairwise (· < ·)→(∀s∈l,k≤s∧s<m)→k+l.length≤m∨l=[]:=by
  intro l
  induction l with
  | nil=>intro k _ _; exact .inr rfl
  | cons x l ih =>
   intro k I J
   simp only [nK] at I
   have hx:=J x cz
   rcases ih (x+1) I.2 (fun s hs=>⟨I.1 s hs,(J s (cj _ hs)).2⟩) with h | rfl
   ·left; simp only [aO]; omega
   ·left; simp; omega
 rcases key l 0 I (fun s hs=>⟨dR _,J s hs⟩) with h | rfl
 ·omega
 ·simp
theorem lR (x:LD)(kd:Int)(tx pv nx:Nat)(data:List Nat)(c:List dn):
  (∃e:Int,e≠0∧((e=1∧dZ kd c=false)∨(e=2∧1048576<(eE kd tx pv nx data c).length)∨(e=9∧x.2.dead=true)∨(e=7∧x.2.room<x.2.log.length+(dz x.1 kd tx pv nx data c).length))∧bu x kd tx pv nx data c=((0,e),x)) ∨
  (x.2.dead=false∧x.2.bP=0∧bu x kd tx pv nx data c=((0,9),(x.1,{ x.2.die with tail:=dz x.1 kd tx pv nx data c }))) ∨
  (dZ kd c=true∧(eE kd tx pv nx data c).length≤1048576∧x.2.dead=false∧x.2.log.length+(dz x.1 kd tx pv nx data c).length≤x.2.room∧x.2.bP≠0 ∧
   bu x kd tx pv nx data c=((x.1.base+x.1.b.length,0),(x.1.app (dz x.1 kd tx pv nx data c),{ x.2.fZ with log:=x.2.log++dz x.1 kd tx pv nx data c }))):=by
 by_cases I:dZ kd c=false
 ·exact .inl ⟨1,by decide,.inl ⟨rfl,I⟩,by rw [bu,au I]⟩
 ·by_cases J:1048576<(eE kd tx pv nx data c).length
  ·exact .inl ⟨2,by decide,.inr (.inl ⟨rfl,J⟩),by rw [bu,ai I,au J]⟩
  ·by_cases hd:x.2.dead=true
   ·have e:x.2.iV (dz x.1 kd tx pv nx data c)=(9,x.2):=by rw [Dk.iV,au hd]
    exact .inl ⟨9,by decide,.inr (.inr (.inl ⟨rfl,hd⟩)),by rw [bu,ai I,ai J,e,au (by simp)]⟩
   ·by_cases hr:x.2.room<x.2.log.length+(dz x.1 kd tx pv nx data c).length
    ·have e:x.2.iV (dz x.1 kd tx pv nx data c)=(7,x.2):=by rw [Dk.iV,ai hd,au hr]
     exact .inl ⟨7,by decide,.inr (.inr (.inr ⟨rfl,hr⟩)),by rw [bu,ai I,ai J,e,au (by simp)]⟩
    ·by_cases hf:x.2.bP=0
     ·have e:x.2.iV (dz x.1 kd tx pv nx data c)=(9,{ x.2.die with tail:=dz x.1 kd tx pv nx data c }):=by rw [Dk.iV,ai hd,ai hr,au hf]
      exact .inr (.inl ⟨by simpa using hd,hf,by rw [bu,ai I,ai J,e,au (by simp)]⟩)
     ·have e:x.2.iV (dz x.1 kd tx pv nx data c)=(0,{ x.2.fZ with log:=x.2.log++dz x.1 kd tx pv nx data c }):=by rw [Dk.iV,ai hd,ai hr,ai hf]
      exact .inr (.inr ⟨by simpa using I,by omega,by simpa using hd,by omega,hf,by rw [bu,ai I,ai J,e,ai (by simp)]⟩)
theorem xC {x:LD}{kd:Int}{tx pv nx:Nat}{data:List Nat}{c:List dn}(J:x.1.Ok)(I:x.2.Ok)(hs:x.1.b=x.2.log)(hz:x.1.base+x.1.b.length+1048584≤1099511627776):
  (bu x kd tx pv nx data c).2.1.Ok∧(bu x kd tx pv nx data c).2.2.Ok∧(bu x kd tx pv nx data c).2.1.b=(bu x kd tx pv nx data c).2.2.log∧(bu x kd tx pv nx data c).2.1.base=x.1.base∧(bu x kd tx pv nx data c).2.1.b.length≤x.1.b.length+1048584 ∧
  (bu x kd tx pv nx data c).2.2.waiting=x.2.waiting∧(bu x kd tx pv nx data c).1.1<1099511627776:=by
 have hlen:(dz x.1 kd tx pv nx data c).length=8+(eE kd tx pv nx data c).length:=tT _ _
 rcases lR x kd tx pv nx data c with ⟨e,_,_,h⟩ | ⟨hd,hf,h⟩ | ⟨hg,hb,hd,fg,hf,h⟩
 ·rw [h]; exact ⟨J,I,hs,rfl,AJ _ _,rfl,by simp⟩
 ·rw [h]; exact ⟨J,⟨I.bP,I.len,I.room,I.now,I.bg,I.ey,I.many⟩,hs,rfl,AJ _ _,rfl,by simp⟩
 ·rw [h]
  generalize dz x.1 kd tx pv nx data c=rc at hlen fg
  have Xi:=I.room
  have kI:x.1.b.length=x.2.log.length:=by rw [hs]
  have hl:(x.1.b++rc).length=x.1.b.length+rc.length:=bD
  have jy:(x.2.log++rc).length=x.2.log.length+rc.length:=bD
  refine ⟨⟨?_,?_,?_,?_,?_,?_,J.check⟩,⟨I.fZ.bP,?_,I.room,I.now,I.bg,?_,I.many⟩,?_,rfl,?_,rfl,?_⟩
  ·show x.1.base+(x.1.b++rc).length≤_; omega
  ·have h1:=Mq J.Bo J.low
   show (x.1.ct++[x.1.b.length]).length≤_
   simp only [bD,aO,bB]; omega
  ·intro s hm
   show s<(x.1.b++rc).length
   rcases List.mem_append.1 (show s∈x.1.ct++[x.1.b.length] from hm) with hm | hm
   ·have:=J.low s hm; omega
   ·rw [List.mem_singleton.1 hm]; omega
  ·show (x.1.ct++[x.1.b.length]).Pairwise (·< ·)
   rw [List.pairwise_append]
   refine ⟨J.Bo,List.pairwise_singleton _ _,fun a ha b hb => ?_⟩
   rw [List.mem_singleton.1 hb]
   exact J.low a ha
  ·have:=J.forced
   show x.1.forced≤(x.1.b++rc).length; omega
  ·show (x.1.b++rc).length≤_; omega
  ·show (x.2.log++rc).length≤_; omega
  ·have:=I.ey
   show x.2.ey≤(x.2.log++rc).length; omega
  ·show x.1.b++rc=x.2.log++rc; rw [hs]
  ·show (x.1.b++rc).length≤_; omega
  ·show x.1.base+x.1.b.length<_; omega
theorem wf_i64 {n:Int}(I:0≤n)(J:n<4294967296): (Lit.int .i64 n).wf=true:=by
 simp only [Lit.wf,aI,dx]
 have e1:IntKind.min .i64 = -9223372036854775808:=rfl
 have e2:IntKind.max .i64=9223372036854775807:=rfl
 omega
theorem Pf {kd:Int}{tx pv nx:Nat}{I ch:V}(hd:I.beq I=true)(J:ch.beq ch=true): (V.agg (nq kd tx pv nx I ch)).beq (V.agg (nq kd tx pv nx I ch))=true:=by
 simp only [nq,V.beq,V.beqL,hd,J,cY,lM,wj,gB,af]
section
variable {told:cN} {h:H} {S:List aq} {X Y:aq} {r k q p bM a g bz:Nat} {op v x u wh di:V} {l b c7 data lS:List Nat} {now:List (Int×List Nat)} {bK:Bool} {ε:aF}
theorem Pg (hT:W told){kd:Int}{tx pv nx nF:Nat}{dt ch:V}{T5:List V}(s:Sat h (fK g a now false::ej a p q r (.ptr g 0) lS bz::dL r p q ε.1::b7 q p ε.2.1::bx p ε.2.2::X::.arr 4 ch T5::S))(hX:cO X (cR dt data))(Dj:T5.length=nF*4)(fq:iJ ε)(hw:cy ε+65536≤268435456)
 (tY:∀e∈now,e.2.length=512)(hm:now.length≤65536)(hk:∀n∈now.map (·.1),0≤n∧n<65536)(J1:tx<18446744073709551616)(NL:pv<18446744073709551616)(B0:nx<18446744073709551616)(hd:data.length≤35184372088832)(Vg:ε.2.1.b=ε.2.2.log)(hz:ε.2.1.base+ε.2.1.b.length+1048584≤1099511627776):
  Call ⟨Tryz.prog,told⟩ 26 [.ptr g 0,.agg (nq kd tx pv nx dt ch)] h fun v h'=>∃aQ e cl ε',vC ε now kd tx pv nx data nF aQ e cl ε'∧v=.bh [.int .u64 (aQ:Int),.int .i64 e] ∧
   Sat h' (fK g a now cl::ej a p q r (cond cl .cU (.ptr g 0)) lS bz::dL r p q ε'.1::b7 q p ε'.2.1::bx p ε'.2.2::X::S):=by
 have iL:∀n∈now.map (·.1),(Lit.int .i64 n).wf=true:=fun n hn=>by
  have:=hk n hn
  exact wf_i64 (by omega) (by omega)
 have rJ:=s.kY (j:=6) rfl
 have ur:=s.aH (k:=5) rfl hX
 have jZ:=vn (kd:=kd) (tx:=tx) (pv:=pv) (nx:=nx) ur.cells.2 rJ.2.1
 have hlen:=s.dF (n:=nF) (j:=6) rfl Dj (by decide) jc
 have s0:=s
 obtain ⟨nv,s⟩:=dA.1 s
 refine Call.of_wp (hT.free _ rfl) Tryz.func26 rfl rfl (zg rfl (az.cG s rfl rfl rfl (fO rfl jZ) ?_))
 intro p1 h s
 dsimp only [V.cells] at s
 have s:Sat h (pt p1 (.cells 6 (nq kd tx pv nx dt ch) false)::_):=s
 have hlen:=s.dF (n:=nF) (j:=8) rfl Dj (by decide) jc
 refine zk 7 rfl (zf rfl (mM _ _) (zl rfl (s.ld (k:=1) rfl va rfl) (zk 3 rfl (WP.block (zK 4 rfl (zf rfl (wE _ _) (zh rfl (aU rfl (s.ld (k:=1) rfl nD rfl)) (rfl) (zk 5 rfl (zf rfl (vb _ _) (zl rfl (s.ld (k:=0) rfl dY rfl) ?_))))))))))
 have fin:∀e:Int,Sat h (fK g a now false::ej a p q r (.ptr g 0) lS bz::dL r p q ε.1::b7 q p ε.2.1::bx p ε.2.2::X::S):=fun e=>((dA.2 ⟨nv,s.ae [1,1]⟩).del 7).del 1
 refine zd rfl (ag rfl rfl aP) ?_ ?_
 ·intro hq
  have hq:kd<1:=by simpa using hq
  exact zk 19 rfl (WP.ret ⟨aa,_,rfl,0,1,false,ε,.arg (.inl (by omega)),rfl,fin 0⟩)
 ·intro hq
  have hq:1≤kd:=by simp at hq; omega
  refine zm rfl (zf rfl (vb _ _) (zl rfl (s.ld (k:=0) rfl dY rfl) ?_))
  refine zd rfl (ag rfl rfl h_) ?_ ?_
  ·intro J
   have J:7<kd:=by simpa using J
   exact zk 15 rfl (WP.ret ⟨aa,_,rfl,0,1,false,ε,.arg (.inl (by omega)),rfl,fin 0⟩)
  ·intro J
   have J:kd≤7:=by simp at J; omega
   refine zk 2 rfl (zf rfl (qC _ _) (zl rfl (s.ld (k:=0) rfl Ba rfl) (zo rfl (aM rfl rfl rfl hlen) ?_)))
   refine zd rfl (ag rfl rfl h_) ?_ ?_
   ·intro I
    have I:0<nF:=by simp at I; omega
    exact zk 9 rfl (WP.ret ⟨aa,_,rfl,0,1,false,ε,.arg (.inr I),rfl,fin 0⟩)
   ·intro I
    have I:nF=0:=by simp at I; omega
    obtain ⟨dv,s⟩:=cQ.1 (s.ae [3])
    dsimp only [bringA,getA,aV] at s
    refine zk 8 rfl (zf rfl (wG _ _) (zl rfl (s.ld (k:=0) rfl rY rfl) (zc rfl (Dx hT (s.ae [7])) ?_)))
    rintro v h ⟨rfl,rfl⟩
    refine zk 2 rfl ?_
    cases uP:ε.2.2.dead with
    | true =>
     refine zK 6 rfl (WP.ret ⟨aa,_,rfl,?_⟩)
     have s9:=dA.2 ⟨nv,(cQ.2 ⟨dv,s⟩).ae [2,2]⟩
     dsimp only [bringA,getA,aV] at s9
     exact ⟨0,9,false,ε,.dead hq J I uP,rfl,(s9.del 7).del 2⟩
    | false =>
     refine zj rfl (WP.skip (zg rfl (za rfl (zv (zw (zg rfl (zm rfl ?_)))))))
     have s9:=dA.2 ⟨nv,(cQ.2 ⟨dv,s⟩).ae [2,2]⟩
     dsimp only [bringA,getA,aV] at s9
     have s:=s9.ae [0,0,1,1,1]
     dsimp only [bringA,getA,aV] at s
     refine zc rfl (HX hT s fq (by omega) tY hm iL) ?_
     rintro v h ⟨e,c,ε',hc,(⟨he,rfl,s⟩ | ⟨rfl,jf,av,cs,rfl,s⟩)⟩
     ·refine az.op rfl rfl rfl (cg rfl) ?_
      refine zk 2 rfl (zf rfl (qC _ _) ?_)
      refine zS rfl (by exact s.iF (k:=5) rfl Q7 rfl (by decide) rfl rfl) (fun h s => ?_)
      dsimp only [nq,Nat.reduceAdd,List.set,setA] at s
      refine zk 5 rfl (zt rfl (ag rfl rfl aJ) (by simp; exact he) ?_)
      exact zk 8 rfl (WP.ret ⟨aa,_,rfl,0,e,false,ε',.oK e c ε' hq J I uP hc he,rfl,(s.del 7).del 5⟩)
     ·have NO:=s.kY (j:=0) rfl
      have DU:=hc.l_ fq
      have WV:=hc.cy
      have qK:=hc.same
      have RD:=xC (x:=ε'.2) (kd:=kd) (tx:=tx) (pv:=pv) (nx:=nx) (data:=data) (c:=c) DU.ok.lg DU.ok.dk (by rw [qK.b,qK.log]; exact Vg) (by rw [qK.base,qK.b]; exact hz)
      have fg:=hc.fit tY fun n hn=>hk n ((fA _).mem_iff.1 hn)
      refine zk 3 rfl (zf rfl (qC _ _) (zS rfl (s.iF (k:=7) rfl Q7 rfl (show 0+5<6 by decide) NO.1 NO.2.1) ?_))
      intro h s
      dsimp only [nq,Nat.reduceAdd,List.set,setA] at s
      refine zk 5 rfl (zh rfl (ag rfl rfl aJ) (rfl) ?_)
      obtain ⟨dv,s⟩:=cQ.1 (s.ae [3])
      dsimp only [bringA,getA,aV] at s
      have s:=s.ae [6,6,7,2,2,0,3]
      dsimp only [bringA,getA,aV] at s
      refine zv (zj rfl (WP.skip (zw ?_)))
      have s0:=s
      have Vh:=jm ur
      have Y6:=Pf (kd:=kd) (tx:=tx) (pv:=pv) (nx:=nx) Vh NO.2.2
      refine WP.drawn [ak,ak,ak,ak,ak,ak,ak,ak,ak,ak,ak] rfl (by kernel_rfl) (by kernel_rfl) ?_
      refine zM rfl (zN rfl (zF rfl (FU _ _) (zL rfl (s.ld (k:=5) rfl LM rfl) (zL rfl (s.cX (k:=6) rfl Bb tP) (aC.any rfl rfl rfl rfl (OpR.call rfl rfl rfl rfl (L9 (kd:=kd) (tx:=tx) (pv:=pv) (nx:=nx) hT s hX (Pe jf fg J1 NL B0 hd) DU.ok.lg DU.ok.dk)) ?_)))))
      rintro v h ⟨rfl,s⟩
      refine zM rfl (zO rfl (rD rfl rfl) (zO rfl (rD rfl rfl) (zA rfl (zA rfl ?_))))
      refine aC.nil ⟨⟨aa,aa,aa,aa,aa,aa,aa,aa,aa,aa,aa,aa⟩,?_⟩
      refine zK 4 rfl ?_
      have s9:=cQ.2 ⟨dv,s.ae [5,6]⟩
      have s:=((((s9.ae [7,0,6,0,0,0]).del 9).del 8).del 7).del 6
      by_cases he:(bu ε'.2 kd tx pv nx data c).1.2=0
      ·skip
       refine zh rfl (ag rfl rfl aJ) (by simp; exact he) ?_
       refine zk 6 rfl (zc rfl (J9 hT s) ?_)
       rintro v h ⟨rfl,s⟩
       obtain ⟨nv,s⟩:=dA.1 s
       obtain ⟨tf,rfl⟩:=Dn s (j:=1) rfl
       refine zk 6 rfl (zf rfl (n_ _ _) (zl rfl (s.ld (k:=0) rfl me rfl) (zc rfl (xZ hT s) ?_)))
       rintro v h ⟨kb,rfl,s⟩
       refine zc rfl (vu hT (s.ae [0,1]) (by decide) (by omega) iL) ?_
       intro kv h s
       have hl:(ei now).length=now.length:=by rw [ei,(fA _).length_eq,ew]
       refine zo rfl (aM rfl rfl rfl (s.dF (n:=(ei now).length) (j:=0) rfl (by simp [gd]) (by decide) bL)) ?_
       refine zk 2 rfl (WP.block ?_)
       obtain ⟨Yy,es,clock,Mr,hb,nC,s⟩:=fX.1 (s.ae [2])
       injection Mr with Mr
       subst Mr
       obtain ⟨dv,s⟩:=cQ.1 (s.ae [5])
       have s:=s.ae [6,2,2,0,3,3,3,1]
       refine Ke (op:=.cU) (dv:=dv) hT (ks:=ei now) (now:=now) (aQ:=(bu ε'.2 kd tx pv nx data c).1.1) (by omega) (fun n hn => ?_) tY (ei now).length 0 (ε'.1,(bu ε'.2 kd tx pv nx data c).2) _ _ _ (by omega) ?_ ?_ s ⟨rfl,rfl,rfl,rfl,rfl,rfl,aa⟩ (fun e jg E' h' hp yM l4 l5 s' => ?_) (fun jg E' h' hp k8 s' => ?_)
       ·have:n∈now.map (·.1):=(fA _).mem_iff.1 hn
        cases hq:lookL n now with
        | some _=>rfl
        | none=>exact absurd this (nj.1 hq)
       ·exact ⟨⟨DU.ok.pl,RD.1,RD.2.1⟩,DU.pins,DU.full⟩
       ·have e1:cy (ε'.1,(bu ε'.2 kd tx pv nx data c).2)=cy ε':=by simp only [cy,RD.2.2.2.2.2.1]
        rw [e1,hl]; omega
       ·rw [eS] at hp
        have e4:look E' 4=some (.int .u64 ((0:Nat):Int)):=l4
        refine ⟨aa,_,Mn e4 l5,0,e,true,jg,?_,rfl,?_⟩
        ·have:=vC.put (data:=data) c ε' e jg hq J I uP hc he hp
         rwa [ai yM] at this
        ·have s3:=cQ.2 ⟨dv,s'.ae [3,6]⟩
         have s4:=fX.2 ⟨tf,es,clock,rfl,hb,nC,s3.ae [2,2]⟩
         exact dA.2 ⟨.map tf,(s4.ae [2,0,0,0,0,0,1]).del 7⟩
       ·rw [eS] at hp
        have s:=s'
        refine WP.has k8 (zK 6 rfl (WP.ret ⟨aa,_,rfl,?_⟩))
        refine ⟨_,0,true,jg,?_,rfl,?_⟩
        ·have:=vC.put (data:=data) c ε' 0 jg hq J I uP hc he hp
         exact this
        ·have s3:=cQ.2 ⟨dv,s.ae [3,6]⟩
         have s4:=fX.2 ⟨tf,es,clock,rfl,hb,nC,s3.ae [2,2]⟩
         dsimp only [bringA,getA,aV] at s4
         exact dA.2 ⟨.map tf,(s4.ae [2,0,0,0,0,0,1]).del 7⟩
      ·skip
       refine zt rfl (ag rfl rfl aJ) (by simp; exact he) ?_
       exact zk 8 rfl (WP.ret ⟨aa,_,rfl,0,_,false,_,.app c ε' hq J I uP hc he,rfl,s⟩)
end
def Lg.fresh : Lg:={ base:=1,b:=[],ct:=[],forced:=0,check:=0 }
theorem NQ {P:Program}{E:List (Nat×V)}{h:H}{a b c t:Nat}{p v w x:V}(I:look E a=some p)(hd:loadV P h t p=some v)(J:look E b=some w)(h3:look E c=some x): jN P E h [.cell a t,.tmp b,.tmp c]=some (.bh [v,w,x]):=by
 simp only [jN,mapO,resE,I,hd,J,h3]
section
variable {told:cN} {h:H} {S:List aq} {X Y:aq} {r k q p bM a g bz:Nat} {op v x u wh di:V} {l b c7 data lS:List Nat} {now:List (Int×List Nat)} {bK:Bool} {ε:aF} {μ:Lg} {δ:Dk}
theorem Fc (hT:W told)(s:Sat h (bx p δ::S))(hd:δ.dead=false)(hm:δ.mark=[])(hl:δ.log=[])(hc:δ.ey=0):
  Call ⟨Tryz.prog,told⟩ 80 [.ptr p 0] h fun v h'=>∃q,v=.bh [.ptr q 0,.int .i64 0]∧Sat h' (b7 q p Lg.fresh::bx p δ::S):=by
 refine Call.of_wp (hT.free _ rfl) Tryz.func80 rfl rfl (zK 8 rfl (zc rfl (HK hT s (by rw [hm]; decide)) ?_))
 rintro v h (⟨I,_,_⟩ | ⟨_,b0,rfl,s⟩)
 ·rw [hd] at I; cases I
 rw [hm] at s
 refine zk 10 rfl (zh rfl (ag rfl rfl aJ) (rfl) (zk 6 rfl (zo rfl (cW rfl (by rw [SH]; rfl)) ?_)))
 refine az.cG s rfl rfl rfl (fO rfl rfl) (fun W_ h s => ?_)
 dsimp only [V.cells,List.take,List.length_cons,List.length_nil,Nat.reduceAdd,List.drop,List.cons_append,List.nil_append] at s
 refine zk 7 rfl ?_
 have s:=s.ae [2,0,0]
 dsimp only [bringA,getA,aV] at s
 refine zc rfl (OT hT s (by rw [hl]; decide)) ?_
 rintro v h (⟨I,_,_⟩ | ⟨_,b1,rfl,s⟩)
 ·rw [hd] at I; cases I
 rw [hl] at s
 have hv:=(s.buf (k:=0) rfl).view.cells
 refine zk 4 rfl (zf rfl (j5 _ _) (zS rfl (s.iF (k:=2) rfl ko rfl (by decide) hv.1 hv.2) ?_))
 intro h s
 dsimp only [Nat.reduceAdd,List.set,setA] at s
 refine za rfl (zv (zg rfl (zm rfl (zh rfl (ag rfl rfl aJ) (rfl) (zv (zj rfl (WP.skip (zw (zg rfl (zm rfl (zo rfl (aM rfl rfl rfl (by exact aW aG (s.aH (k:=3) rfl (aX _ _)))) ?_)))))))))))
 refine zv (WP.block (zg rfl (zt rfl (ag rfl rfl iz) (rfl) (za rfl (zv (zi rfl (WP.skip (zg rfl (za rfl (zv (zw (WP.block (WP.loop (zw (zg rfl (zk 3 rfl (zf rfl (j5 _ _) (zl rfl (by exact s.ld (k:=2) rfl bN rfl) ?_))))))))))))))))))
 refine zo rfl (aM rfl rfl rfl (aW aG (s.aH (k:=0) rfl (aX _ _)))) (zh rfl (ag rfl rfl aP) (rfl) (zk 2 rfl (WP.exit (zK 6 rfl (zf rfl (j5 _ _) (zl rfl (s.ld (k:=2) rfl bN rfl) (zo rfl (aM rfl rfl rfl (aW aG (s.aH (k:=0) rfl (aX _ _)))) (zh rfl (ag rfl rfl aP) (rfl) (zk 5 rfl ?_)))))))))
 have s0:=s
 have J:=jm (s.buf (k:=0) rfl).view
 refine WP.drawn [none,none,some (0,2),some (0,2),some (0,2),some (0,2),some (0,2),none] rfl (by kernel_rfl) (by kernel_rfl) ?_
 refine zM rfl (aC.any rfl rfl rfl rfl (OpR.call rfl rfl rfl rfl (EX hT (s.ae [1]))) ?_)
 rintro v h' ⟨rfl,rfl⟩
 refine zM rfl (zN rfl (zF rfl (j5 _ _) (zL rfl (s.ld (k:=2) rfl bN rfl) (zO rfl (aM rfl rfl rfl (aW aG (s.aH (k:=0) rfl (aX _ _)))) (aC.nc rfl rfl rfl rfl (ag rfl rfl aP) (by rw [show δ.Dw=0 from hc]; rfl) ?_)))))
 refine aC.nil ⟨⟨aa,aa,fun _ _=>.inr ⟨rfl,⟨_,cg rfl⟩,bS _ rfl⟩,fun _ _=>.inr ⟨rfl,⟨_,tO rfl⟩,bS _ rfl⟩,fun _ _=>.inr ⟨rfl,⟨_,nZ rfl (j5 _ _)⟩,bS _ rfl⟩,ff (.inr ⟨rfl,⟨_,aU rfl (s0.ld (k:=2) rfl bN rfl)⟩,J⟩) (.inr ⟨rfl,⟨_,aU rfl (s.ld (k:=2) rfl bN rfl)⟩,J⟩),ff (.inr ⟨rfl,⟨_,aM rfl rfl rfl (aW aG (s0.aH (k:=0) rfl (aX _ _)))⟩,bS _ rfl⟩) (.inr ⟨rfl,⟨_,aM rfl rfl rfl (aW aG (s.aH (k:=0) rfl (aX _ _)))⟩,bS _ rfl⟩),aa,aa⟩,?_⟩
 refine zK 7 rfl (zf rfl (j5 _ _) (zl rfl (s.ld (k:=2) rfl bN rfl) (zo rfl (aM rfl rfl rfl (aW aG (s.aH (k:=0) rfl (aX _ _)))) (zn rfl (zf rfl (Be _ _) ?_)))))
 refine zS rfl (by exact s.iF (k:=2) rfl kf rfl (by decide) rfl rfl) (fun h s => ?_)
 refine zk 7 rfl (WP.ret ⟨aa,_,rfl,?_⟩)
 have s1:=(s.del 3).l7 (k:=1)
 refine ⟨_,rfl,fS.2 ⟨b1,.bp,?_⟩⟩
 exact s1.ae [3,1,0]
theorem Kh (J:W told)(s:Sat h (b7 q p μ::S))(I:μ.Ok): Call ⟨Tryz.prog,told⟩ 84 [.ptr q 0,.int .u64 ((μ.base:Int)+(μ.b.length:Int))] h fun v h'=>v=.bh [.agg (nq 0 0 0 0 .bp .bp),.int .u64 0,.int .i64 17]∧Sat h' (b7 q p μ::S):=by
 refine Call.of_wp (J.free _ rfl) Tryz.func84 rfl rfl (zg rfl ?_)
 refine az.cG s rfl rfl rfl (cA LK) (fun p4 h s => ?_)
 refine zk 4 rfl (WP.block (zK 4 rfl ?_))
 have s:=s.ae [1]
 refine zc rfl (Bp J s I.size) ?_
 rintro v h' ⟨rfl,rfl⟩
 refine zt rfl (ag rfl rfl iz) (by simp) ?_
 refine zk 5 rfl (zo rfl (cW rfl (by rw [LL]; rfl)) ?_)
 refine zS rfl (s.hG (j:=1) rfl tP rfl rfl) (fun h s => ?_)
 refine zk 3 rfl ?_
 refine WP.ret ⟨aa,_,NQ rfl (s.cX (k:=1) rfl Bb tP) rfl rfl,?_⟩
 exact ⟨rfl,s.del 1⟩
theorem Ms (J:W told){n:Nat}(s:Sat h (b7 q p μ::S))(I:μ.Ok)(hn:n<18446744073709551616)(dh:n≠μ.base+μ.b.length)(M_:μ.hasB n=false): Call ⟨Tryz.prog,told⟩ 84 [.ptr q 0,.int .u64 (n:Int)] h fun v h'=>v=.bh [.agg (nq 0 0 0 0 .bp .bp),.int .u64 0,.int .i64 1]∧Sat h' (b7 q p μ::S):=by
 refine Call.of_wp (J.free _ rfl) Tryz.func84 rfl rfl (zg rfl ?_)
 refine az.cG s rfl rfl rfl (cA LK) (fun p4 h s => ?_)
 refine zk 4 rfl (WP.block (zK 4 rfl ?_))
 have s:=s.ae [1]
 refine zc rfl (Bp J s I.size) ?_
 rintro v h' ⟨rfl,rfl⟩
 refine zh rfl (ag rfl rfl iz) (by simp; omega) ?_
 refine zk 7 rfl (zc rfl (O0 (n:=n) J s I hn) ?_)
 rintro v h' ⟨rfl,rfl⟩
 refine zo rfl (fo rfl rfl) (zk 2 rfl (WP.Ho rfl (by rw [M_]; rfl) ?_))
 refine zg rfl (zo rfl (cW rfl (by rw [LL]; rfl)) ?_)
 refine zS rfl (s.hG (j:=1) rfl tP rfl rfl) (fun h s => ?_)
 refine zk 3 rfl ?_
 refine WP.ret ⟨aa,_,NQ rfl (s.cX (k:=1) rfl Bb tP) rfl rfl,?_⟩
 exact ⟨rfl,s.del 1⟩
theorem HZ (hT:W told){n:Nat}(s:Sat h (b7 q p μ::S))(J:μ.Ok)(hn:n<18446744073709551616)(I:n=μ.base+μ.b.length∨μ.hasB n=false): Call ⟨Tryz.prog,told⟩ 84 [.ptr q 0,.int .u64 (n:Int)] h fun v h'=>∃e:Int,e≠0∧v=.bh [.agg (nq 0 0 0 0 .bp .bp),.int .u64 0,.int .i64 e]∧Sat h' (b7 q p μ::S):=by
 by_cases he:n=μ.base+μ.b.length
 ·have:=Kh hT s J
  rw [show ((μ.base:Int)+(μ.b.length:Int))=((n:Nat):Int) by omega] at this
  exact this.mono fun v h' ⟨h1,h2⟩=>⟨17,by decide,h1,h2⟩
 ·rcases I with I | I
  ·exact absurd I he
  ·exact (Ms hT s J hn he I).mono fun v h' ⟨h1,h2⟩=>⟨1,by decide,h1,h2⟩
end
section
variable {told:cN} {h:H} {S:List aq} {X Y:aq} {r k q p bM a g bz:Nat} {op v x u wh di:V} {l b c7 data lS:List Nat} {now:List (Int×List Nat)} {bK:Bool} {ε:aF} {μ:Lg} {δ:Dk}
theorem H6 (I:W told){n:Nat}(s:Sat h (ej a p q r op data bz::b7 q p μ::S))(J:μ.Ok)(hn:n<18446744073709551616)(M_:n=μ.base+μ.b.length∨μ.hasB n=false):
  Call ⟨Tryz.prog,told⟩ 87 [.ptr a 0,.int .u64 (n:Int)] h fun v h'=>v=.int .i64 0∧Sat h' (ej a p q r op data bz::b7 q p μ::S):=by
 obtain ⟨dv,s⟩:=cQ.1 s
 refine Call.of_wp (I.free _ rfl) Tryz.func87 rfl rfl (zK 6 rfl ?_)
 refine az.A_ s rfl rfl rfl rfl (fun Y7 h s => ?_)
 refine az.A_ s rfl rfl rfl rfl (fun Y8 h s => ?_)
 refine zo rfl (cW rfl (by rw [SQ]; rfl)) ?_
 refine az.cG s rfl rfl rfl (fO rfl rfl) (fun T1 h s => ?_)
 refine zk 5 rfl (zo rfl (Hh rfl rfl) (zk 8 rfl (WP.block (WP.loop (WP.block (zK 4 rfl (zf rfl (FU _ _) (zl rfl (s.ld (k:=3) rfl LM rfl) (zm rfl ?_)))))))))
 have s1:=s.ae [5]
 refine zc rfl (HZ (n:=n) I s1 J hn M_) ?_
 rintro v h ⟨e,he,rfl,s⟩
 refine zk 4 rfl ?_
 refine az.cG s rfl rfl rfl (cA LK) (fun p8 h s => ?_)
 refine zS rfl (s.hG (j:=0) rfl tP rfl rfl) (fun h s => ?_)
 refine zk 7 rfl (zt rfl (ag rfl rfl aJ) (by simp; exact he) ?_)
 have s:=qG (f:=fun v (b:List Nat)=>.cu v b) (s.ae [4])
 refine zk 2 rfl (WP.exit (zK 5 rfl (zf rfl (F2 _ _) (zl rfl (s.ld (k:=3) rfl me rfl) (zc rfl (xZ I s) ?_)))))
 rintro v h ⟨kb,rfl,s⟩
 refine zc rfl (vu I s (by decide) (by decide) (by simp)) ?_
 intro kv h s
 refine zo rfl (aM rfl rfl rfl (s.dF (n:=0) (j:=0) rfl rfl (by decide) bL)) ?_
 exact zk 2 rfl (WP.block (WP.loop (zg rfl (zh rfl (ag rfl rfl aP) (rfl) (zk 3 rfl (WP.exit (zK 5 rfl (zf rfl (F2 _ _) (zl rfl (s.ld (k:=5) rfl me rfl) (zo rfl (aM rfl rfl rfl (LX (s.ae [2]) oH)) (zt rfl (ag rfl rfl iz) (rfl) (zk 6 rfl (WP.ret ⟨aa,_,rfl,rfl,((((((cQ.2 ⟨dv,s.ae [7,7,4]⟩).del 7).del 6).del 5).del 4).del 3).del 2⟩)))))))))))))
theorem Lg.DV : Lg.fresh.Ok:=⟨by decide,by decide,by simp [Lg.fresh],List.Pairwise.nil,by decide,by decide,by decide⟩
theorem Fe (I:W told){n:Nat}(s:Sat h (bx p δ::S))(h1:1≤n)(h2:n≤1024)(hd:δ.dead=false)(hm:δ.mark=[])(J:δ.log=[])(hc:δ.ey=0):
  Call ⟨Tryz.prog,told⟩ 35 [.ptr p 0,.int .i64 (n:Int)] h fun v h'=>∃a q r,v=.bh [.ptr a 0,.int .i64 0]∧Sat h' (ej a p q r .cU [] 0::dL r p q (Pl.fresh n)::b7 q p Lg.fresh::bx p δ::S):=by
 refine Call.of_wp (I.free _ rfl) Tryz.func35 rfl rfl (zK 9 rfl (zh rfl (ag rfl rfl aP) (by simp <;> omega) ?_))
 refine zk 2 rfl (zh rfl (ag rfl rfl h_) (by simp <;> omega) ?_)
 refine zk 7 rfl (zc rfl (Fc I s hd hm J hc) ?_)
 rintro v h ⟨q,rfl,s⟩
 refine zk 10 rfl (zh rfl (ag rfl rfl aJ) (rfl) (zk 8 rfl (zc rfl (O9 (p:=p) (q:=q) (n:=n) I s) ?_)))
 rintro v h (⟨hn,_,_⟩ | ⟨_,_,r,rfl,s⟩)
 ·omega
 rw [ck] at s
 refine zk 10 rfl (zh rfl (ag rfl rfl aJ) (rfl) (zk 8 rfl (zo rfl (cW rfl (by rw [Sz]; rfl)) ?_)))
 refine az.cG s rfl rfl rfl (fO rfl rfl) (fun Y9 h s => ?_)
 refine zk 5 rfl (zc rfl (JS I (s.ae [2])) ?_)
 rintro v h' ⟨rfl,rfl⟩
 refine zk 6 rfl (zc rfl (EZ I (s.ae [2])) ?_)
 rintro v h' ⟨rfl,rfl⟩
 refine zk 5 rfl (zh rfl (ag rfl rfl aJ) (rfl) (zk 8 rfl ?_))
 have s1:=cQ.2 ⟨.bp,(s.rH).ae [1,0]⟩
 refine zc rfl (H6 (n:=1) I (s1.ae [0,1]) Lg.DV (by decide) (.inl rfl)) ?_
 rintro v h ⟨rfl,s⟩
 exact zk 5 rfl (zh rfl (ag rfl rfl aJ) (rfl) (zk 9 rfl (WP.ret ⟨aa,_,rfl,_,q,r,rfl,s.ae [0,1,0]⟩)))
end
section
variable {told:cN} {h:H} {S:List aq} {X Y:aq} {r k q p bM a g bz:Nat} {op v x u wh di:V} {l b c7 data lS:List Nat} {now:List (Int×List Nat)} {bK:Bool} {ε:aF} {μ:Lg} {δ:Dk}
theorem Mt (I:W told)(s:Sat h (ej a p q r op data bz::S)): Call ⟨Tryz.prog,told⟩ 71 [.ptr a 0] h fun v h'=>v=.ptr p 0∧h'=h:=by
 obtain ⟨dv,s⟩:=cQ.1 s
 exact Call.of_wp (I.free _ rfl) Tryz.func71 rfl rfl (zK 8 rfl (zf rfl (wG _ _) (zl rfl (s.ld (k:=0) rfl rY rfl) (zk 2 rfl (WP.ret ⟨aa,_,rfl,rfl,rfl⟩)))))
end
section
variable {told:cN} {h:H} {S:List aq} {X Y:aq} {r k q p bM a g bz:Nat} {op v x u wh di:V} {l b c7 data lS:List Nat} {now:List (Int×List Nat)} {bK:Bool} {ε:aF} {μ:Lg} {δ:Dk}
theorem H7 (I:W told){n m f:Nat}(s:Sat h S)(h1:1≤n)(h2:n≤65536)(h3:m≤16777216)(J:1≤f)(h5:f≤1024):
  Call ⟨Tryz.prog,told⟩ 30 [.int .i64 (n:Int),.int .i64 (m:Int),.int .i64 (f:Int)] h fun v h'=>∃p a q r,v=.bh [.ptr p 0,.ptr a 0] ∧
   Sat h' (ej a p q r .cU [] 0::dL r p q (Pl.fresh f)::b7 q p Lg.fresh::bx p (Dk.fresh n m)::S):=by
 refine Call.of_wp (I.free _ rfl) Tryz.func30 rfl rfl (zK 9 rfl (zc rfl (OV (n:=(n:Int)) (m:=(m:Int)) I s) ?_))
 rintro v h (⟨hn,_,_⟩ | ⟨_,_,_,_,p,rfl,s⟩)
 ·omega
 rw [ck,ck] at s
 refine zk 10 rfl (zh rfl (ag rfl rfl aJ) (rfl) (zk 2 rfl (zh rfl (ag rfl rfl (tX Tryz.underlying62)) (rfl) (zk 8 rfl (zc rfl (Fe (n:=f) I s J h5 rfl rfl rfl rfl) ?_)))))
 rintro v h ⟨a,q,r,rfl,s⟩
 exact zk 10 rfl (zh rfl (ag rfl rfl aJ) (rfl) (zk 2 rfl (zh rfl (ag rfl rfl (tX vB)) (rfl) (zk 11 rfl (WP.ret ⟨aa,_,rfl,p,a,q,r,rfl,s⟩)))))
end
end Go.Proofs.YtefepnnfphdkpaaGreat.Am
