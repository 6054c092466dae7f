/- AtomSame: a part of its proof; conditions: its statement's. -/
import Derived.Test.YtconhghphklfjaaGreatS28
namespace Go.Proofs.YtconhghphklfjaaGreat.Am
open Go
section
variable {told:dF} {h:H} {S:List ax} {X Y:ax} {r k q p bV a g aD:Nat} {op v x u wh di:V} {l b cP data dX:List Nat} {μ:Lg} {δ:Dk}
theorem VR (hT:W told){n:Nat}(s:Sat h (bf q p μ::aC p δ::S))(J:μ.Ok)(sI:δ.Ok)(hn:n<18446744073709551616):
  Call ⟨Tryz.prog,told⟩ 71 [.ptr q 0,.int .u64 (n:Int)] h fun v h'=>v=.int .i64 (hG (μ,δ) n).1∧Sat h' (bf q p (hG (μ,δ) n).2.1::aC p (hG (μ,δ) n).2.2::S):=by
 have U:=s
 have wZ:=J.size
 have Tw:=J.forced
 obtain ⟨bv,sv,s⟩:=c8.1 s
 refine Call.of_wp (hT.free _ rfl) Tryz.func71 rfl rfl (zK 9 rfl ?_)
 have rest:¬((n≠μ.base+μ.b.length∧μ.hasB n=false)∨μ.base+μ.forced<n∨(μ.check≠0∧μ.check<n))→μ.base≤n→∀E:List (Nat×V),Has E [(0,.ptr q 0),(1,.int .u64 (n:Int))] →
   WP ⟨Tryz.prog,told⟩ 121 YG E h fun ex E' h'=>(match ex with | .exit _=>False | _=>True)∧∃v,jl Tryz.prog E' h' [.tmp 4]=some v∧(v=.int .i64 (hG (μ,δ) n).1∧Sat h' (bf q p (hG (μ,δ) n).2.1::aC p (hG (μ,δ) n).2.2::S)):=by
  intro I hle E hE
  refine Qt hT U J sI hle (by omega) hE (fun E' h' h1 h2 s' => ?_) (fun E' h' h1 h2 s' => ?_)
  ·rw [hG,af I,aj h1]
   exact ⟨aa,_,oF h2,rfl,s'⟩
  ·rw [hG,af I,af (by simpa using h1)]
   exact ⟨aa,_,oF h2,rfl,s'⟩
 refine zc rfl (nQ hT U J.size) ?_
 rintro v h' ⟨rfl,rfl⟩
 by_cases he:n=μ.base+μ.b.length
 ·skip
  refine zh rfl (ag rfl rfl aX) (by simp; omega) ?_
  refine zk 9 rfl (zc rfl (sH hT U J.size J.forced) ?_)
  rintro v h' ⟨rfl,rfl⟩
  by_cases hf:μ.base+μ.forced<n
  ·skip
   refine zt rfl (ag rfl rfl dR) (by simp; omega) ?_
   refine zk 22 rfl (WP.ret ⟨aa,_,rfl,?_⟩)
   rw [hG,aj (.inr (.inl hf))]
   exact ⟨rfl,U⟩
  ·skip
   refine zh rfl (ag rfl rfl dR) (by simp; omega) ?_
   refine zk 4 rfl (zf rfl (pH _ _) (zl rfl (s.ld (k:=0) rfl fX rfl) ?_))
   by_cases hc:μ.check=0
   ·skip
    refine zh rfl (ag rfl rfl aX) (by simp; omega) ?_
    refine zk 11 rfl ?_
    have I:¬((n≠μ.base+μ.b.length∧μ.hasB n=false)∨μ.base+μ.forced<n∨(μ.check≠0∧μ.check<n)):=by omega
    exact WP.skip (rest I (by omega) _ ⟨rfl,rfl,aa⟩)
   ·skip
    refine zt rfl (ag rfl rfl aX) (by simp; omega) ?_
    refine zk 4 rfl (zf rfl (pH _ _) (zl rfl (s.ld (k:=0) rfl fX rfl) ?_))
    by_cases VS:μ.check<n
    ·skip
     refine zt rfl (ag rfl rfl dR) (by simp; omega) ?_
     refine zk 8 rfl (WP.ret ⟨aa,_,rfl,?_⟩)
     rw [hG,aj (.inr (.inr ⟨hc,VS⟩))]
     exact ⟨rfl,U⟩
    ·skip
     refine zh rfl (ag rfl rfl dR) (by simp; omega) ?_
     refine zk 4 rfl ?_
     have I:¬((n≠μ.base+μ.b.length∧μ.hasB n=false)∨μ.base+μ.forced<n∨(μ.check≠0∧μ.check<n)):=by omega
     exact WP.skip (rest I (by omega) _ ⟨rfl,rfl,aa⟩)
 ·skip
  refine zt rfl (ag rfl rfl aX) (by simp; omega) ?_
  refine zk 3 rfl (zc rfl (Az (n:=n) hT U J hn) ?_)
  rintro v h' ⟨rfl,rfl⟩
  cases hh:μ.hasB n with
  | false =>
   refine zo rfl (dA rfl rfl) (zk 28 rfl (WP.ret ⟨aa,_,rfl,?_⟩))
   rw [hG,aj (.inl ⟨he,hh⟩)]
   exact ⟨rfl,U⟩
  | true =>
   refine zo rfl (dA rfl rfl) (zk 4 rfl (zc rfl (sH hT U J.size J.forced) ?_))
   rintro v h' ⟨rfl,rfl⟩
   by_cases hf:μ.base+μ.forced<n
   ·skip
    refine zt rfl (ag rfl rfl dR) (by simp; omega) ?_
    refine zk 22 rfl (WP.ret ⟨aa,_,rfl,?_⟩)
    rw [hG,aj (.inr (.inl hf))]
    exact ⟨rfl,U⟩
   ·skip
    refine zh rfl (ag rfl rfl dR) (by simp; omega) ?_
    refine zk 4 rfl (zf rfl (pH _ _) (zl rfl (s.ld (k:=0) rfl fX rfl) ?_))
    by_cases hc:μ.check=0
    ·skip
     refine zh rfl (ag rfl rfl aX) (by simp; omega) ?_
     refine zk 11 rfl ?_
     have I:¬((n≠μ.base+μ.b.length∧μ.hasB n=false)∨μ.base+μ.forced<n∨(μ.check≠0∧μ.check<n)):=by simp [hh]; omega
     exact WP.skip (rest I (Eb hh) _ ⟨rfl,rfl,aa⟩)
    ·skip
     refine zt rfl (ag rfl rfl aX) (by simp; omega) ?_
     refine zk 4 rfl (zf rfl (pH _ _) (zl rfl (s.ld (k:=0) rfl fX rfl) ?_))
     by_cases VS:μ.check<n
     ·skip
      refine zt rfl (ag rfl rfl dR) (by simp; omega) ?_
      refine zk 8 rfl (WP.ret ⟨aa,_,rfl,?_⟩)
      rw [hG,aj (.inr (.inr ⟨hc,VS⟩))]
      exact ⟨rfl,U⟩
     ·skip
      refine zh rfl (ag rfl rfl dR) (by simp; omega) ?_
      refine zk 4 rfl ?_
      have I:¬((n≠μ.base+μ.b.length∧μ.hasB n=false)∨μ.base+μ.forced<n∨(μ.check≠0∧μ.check<n)):=by simp [hh]; omega
      exact WP.skip (rest I (Eb hh) _ ⟨rfl,rfl,aa⟩)
end
def LK (π:Pl): List Int→Nat→Nat
 | [],m=>m
 | n::l,m=>LK π l (min m (dW π n 0))
theorem Kh (π:Pl): ∀(l:List Int) (m:Nat),LK π l m≤m:=by
 intro l
 induction l with
 | nil=>intro m; exact aL _
 | cons n l I=>intro m; exact cI (I _) (Nat.min_le_left _ _)
theorem Oc (π:Pl): ∀ {l:List Int} {i:Nat} {n:Int},l[i]?=some n→((dirtC π l).drop (i*2)).take 2=[.int .i64 n,.int .u64 (dW π n 0:Nat)]:=by
 intro l
 induction l with
 | nil=>intro i n h; simp at h
 | cons x l I =>
  intro i n h
  cases i with
  | zero=>simp at h; subst h; rfl
  | succ i =>
   rw [kg] at h
   rw [show (i+1)*2=i*2+2 by omega]
   exact I h
section
variable {told:dF} {h:H} {S:List ax} {X Y:ax} {r k q p bV a g aD:Nat} {op v x u wh di:V} {l b cP data dX:List Nat} {now:List (Int×List Nat)} {b_:Bool} {ε:aM} {μ:Lg} {δ:Dk} {π:Pl}
noncomputable def ckL : Code:=cJ [1,1,1,0,1,0,0] ((Tryz.f25.body).getD .skip)
theorem Tx (hT:W told){ks:List Int}{av t1 t2:V}(NM:ks.length≤1048576): ∀(j i:Nat) (low:Nat) (h:H) (E:List (Nat×V)) (Q:Ex→List (Nat×V)→H→Prop),i+j=ks.length →
  Sat h (.arr 2 av (dirtC π ks)::S)→Has E [(0,.ptr a 0),(1,t1),(2,t2),(7,.int .u64 (low:Int)),(40,av),(41,.int .i64 ks.length),(42,.int .i64 i)] →
  (∀E' h',Has E' [(0,.ptr a 0),(1,t1),(2,t2),(7,.int .u64 (LK π (ks.drop i) low:Nat))]→Sat h' (.arr 2 av (dirtC π ks)::S)→Q (.exit 1) E' h') →
  WP ⟨Tryz.prog,told⟩ 118 (.loop ckL) E h Q:=by
 intro j
 induction j with
 | zero =>
  intro i low h E Q hi s hE J
  refine WP.loop (WP.has hE (zg rfl (zh rfl (ag rfl rfl bx) (by simp <;> omega) ?_)))
  refine zk 3 rfl (WP.exit ?_)
  rw [ig (by omega)] at J
  exact J _ _ ⟨rfl,rfl,rfl,rfl,aa⟩ s
 | succ j ih =>
  intro i low h E Q hi s hE J
  have hn:ks[i]?=some (ks[i]'(by omega)):=bg _
  have I:ks.drop i=ks[i]'(by omega)::ks.drop (i+1):=kM (by omega)
  generalize (ks[i]'(by omega))=n at hn I
  rw [I] at J
  have U:=Oc π hn
  obtain ⟨id,off,g1,g2⟩:=GM (P:=Tryz.prog) (i:=i) s (j:=0) rfl (by rw [yS]; omega) (by decide) yQ Ld
  have g2:=g2 WQ
  rw [U] at g2
  have PD:min (low:Int) ((dW π n 0:Nat):Int)=((min low (dW π n 0):Nat):Int):=by omega
  refine WP.loop (WP.has hE (zg rfl (zt rfl (ag rfl rfl bx) (by simp <;> omega) ?_)))
  refine zk 5 rfl (WP.block (zg rfl (zo rfl (dG (r:=.ptr id off) rfl rfl g1) (zl rfl g2 ?_))))
  refine aB.cO s rfl rfl rfl (cH FL) (fun p9 h s => ?_)
  dsimp only [V.cells,List.length_cons,List.length_nil,Nat.reduceAdd] at s
  refine zS rfl (s.gX (j:=0) rfl Ld rfl rfl) (fun h s => ?_)
  dsimp only [setA] at s
  refine zk 3 rfl (zf rfl (SS _ _) (zl rfl (s.ld (k:=0) rfl fX rfl) (zo rfl (PE rfl rfl Vh) ?_)))
  rw [PD]
  refine za rfl (zv (zr rfl (zb rfl (by exact bO (aT (by omega) (by omega))) ?_)))
  refine zm rfl (zv ?_)
  exact ih (i+1) _ _ _ Q (by omega) (s.del 0) ⟨rfl,rfl,rfl,rfl,rfl,rfl,rfl,aa⟩ J
end
theorem CQ {x:LD}{n:Nat}(h:x.1.Ok)(I:x.2.Ok)(U:n≤1099511627776): (iz x n).2.1.Ok∧(iz x n).2.2.Ok:=by
 have J:(x.2.qj (gE x.1.base n)).2.Ok:=by
  unfold Dk.qj
  split
  ·exact I
  ·split
   ·exact I
   ·split
    ·exact I.die
    ·exact ⟨I.c_.aI,I.len,I.room,I.now,I.aq,I.aR,I.many⟩
 unfold iz
 split
 ·exact ⟨h,I⟩
 ·split
  ·exact ⟨h,J⟩
  ·exact ⟨⟨h.size,h.many,h.low,h.wX,h.forced,h.len,U⟩,J⟩
def lu (ε:aM): Nat:=LK ε.1 (aJ ε.1.aQ) (ε.2.1.base+ε.2.1.b.length)
def uU (ε:aM)(data:List Nat): (Nat×Int)×LD:=bn ε.2 8 0 0 0 (le 8 (lu ε)++data) []
theorem VT {ε:aM}{data:List Nat}(I:oL ε)(J:ε.2.1.b=ε.2.2.log)(U:ε.2.1.base+ε.2.1.b.length+1048584≤1099511627776): (uU ε data).2.1.Ok∧(uU ε data).2.2.Ok∧(uU ε data).1.1<1099511627776:=by
 have h:=vf (x:=ε.2) (kd:=8) (tx:=0) (pv:=0) (nx:=0) (data:=le 8 (lu ε)++data) (c:=[]) I.lg I.dk J U
 exact ⟨h.1,h.2.1,h.2.2.2.2.2.2⟩
def CR (ε:aM)(lo:Nat): Nat:=if lo=0 then lu ε else min (lu ε) lo
def lz (y:(Nat×Int)×LD): Int×LD:=bB y.2 y.1.1
def gH (y:(Nat×Int)×LD): Int×LD:=iz (lz y).2 y.1.1
theorem Ki {y:(Nat×Int)×LD}(h:y.2.1.Ok): (lz y).2.1.Ok:=by
 rw [lz]; exact rI h
theorem Kj {y:(Nat×Int)×LD}(h:y.2.2.Ok): (lz y).2.2.Ok:=by
 rw [lz]; exact nR h
theorem VU {y:(Nat×Int)×LD}(h:y.2.1.Ok)(I:y.2.2.Ok)(J:y.1.1<1099511627776): (gH y).2.1.Ok∧(gH y).2.2.Ok:=by
 rw [gH]; exact CQ (Ki h) (Kj I) (z_ J)
inductive CS (y:(Nat×Int)×LD)(kp:Nat)(data dX:List Nat)(aD:Nat): Int→LD→List Nat→Nat→Prop
 | app:y.1.2≠0→CS y kp data dX aD y.1.2 y.2 dX aD
 | force:y.1.2=0→(lz y).1≠0→CS y kp data dX aD (lz y).1 (lz y).2 dX aD
 | check:y.1.2=0→(lz y).1=0→(gH y).1≠0→CS y kp data dX aD (gH y).1 (gH y).2 dX aD
 | cut (t:Nat):y.1.2=0→(lz y).1=0→(gH y).1=0 →
   ((t=(gH y).2.1.base+(gH y).2.1.b.length∧(gH y).2.1.base+(gH y).2.1.b.length≤kp)∨((gH y).2.1.hasB t=true∧t≤kp)∨t=(gH y).2.1.base) →
   (gH y).2.1.base<t→((gH y).2.1.hasB kp=true→kp<(gH y).2.1.base+(gH y).2.1.b.length→t=kp)→CS y kp data dX aD (hG (gH y).2 t).1 (hG (gH y).2 t).2 data y.1.1
 | cS:y.1.2=0→(lz y).1=0→(gH y).1=0→((gH y).2.1.hasB kp=true→kp<(gH y).2.1.base+(gH y).2.1.b.length→kp≤(gH y).2.1.base)→CS y kp data dX aD 0 (gH y).2 data y.1.1
inductive E6 (ε:aM)(lo:Nat)(data dX:List Nat)(aD:Nat): Int→aM→List Nat→Nat→Prop
 | VV:4096<data.length→E6 ε lo data dX aD 2 ε dX aD
 | dead:data.length≤4096→ε.2.2.dead=true→E6 ε lo data dX aD 9 ε dX aD
 | go (e:Int) (y:LD) (jN:List Nat) (jD:Nat):data.length≤4096→ε.2.2.dead=false→CS (uU ε data) (CR ε lo) data dX aD e y jN jD→E6 ε lo data dX aD e (ε.1,y) jN jD
section
variable {told:dF} {h:H} {S:List ax} {X Y:ax} {r k q p bV a g aD:Nat} {op v x u wh di:V} {l b cP data dX:List Nat} {ε:aM}
noncomputable def YH : Code:=cJ [1,1,1,1,1,1,1,1,1,1] ((Tryz.f25.body).getD .skip)
theorem VW (I:W told){lw:Nat}{w:V}{aF:Nat}{y:LD}(s:Sat h (bf q p y.1::aC p y.2::pt a (.cells 6 (qn a p q r .cD w aF) false)::S))(J:y.1.Ok)(h2:y.2.Ok)(U:lw<18446744073709551616){E:List (Nat×V)}(hE:Has E [(0,.ptr a 0),(7,.int .u64 (lw:Int))]){Q:Ex→List (Nat×V)→H→Prop}
 (q1:∀t E' h',((t=y.1.base+y.1.b.length∧y.1.base+y.1.b.length≤lw)∨(y.1.hasB t=true∧t≤lw)∨t=y.1.base)→y.1.base<t→(y.1.hasB lw=true→lw<y.1.base+y.1.b.length→t=lw)→look E' 6=some (.int .i64 (hG y t).1) →
   Sat h' (bf q p (hG y t).2.1::aC p (hG y t).2.2::pt a (.cells 6 (qn a p q r .cD w aF) false)::S)→Q .ret E' h')
 (q2:∀E' h',(y.1.hasB lw=true→lw<y.1.base+y.1.b.length→lw≤y.1.base)→look E' 6=some (.int .i64 0)→Sat h' (bf q p y.1::aC p y.2::pt a (.cells 6 (qn a p q r .cD w aF) false)::S)→Q .ret E' h'):
  WP ⟨Tryz.prog,told⟩ 118 YH E h Q:=by
 have aba:=J.size
 refine WP.has hE (zK 5 rfl (zf rfl (kY _ _) (zl rfl (s.ld (k:=2) rfl nj rfl) (zm rfl (zc rfl (Nv (n:=lw) I s J U) ?_)))))
 rintro v _ ⟨rfl,t,rfl,hr,hx⟩
 refine zk 7 rfl (zf rfl (kY _ _) (zl rfl (s.ld (k:=2) rfl nj rfl) (zc rfl (uO I s) ?_)))
 rintro v h ⟨rfl,rfl⟩
 by_cases hg:y.1.base<t
 ·skip
  refine zt rfl (ag rfl rfl dR) (by simp; exact hg) ?_
  refine zk 6 rfl (zf rfl (kY _ _) (zl rfl (s.ld (k:=2) rfl nj rfl) (zm rfl (zc rfl (VR (n:=t) I s J h2 (by rcases hr with ⟨rfl,_⟩ | ⟨_,hr⟩ | rfl <;> omega)) ?_))))
  rintro v h ⟨rfl,s⟩
  exact zk 2 rfl (WP.ret (q1 t _ _ hr hg hx rfl s))
 ·skip
  refine zh rfl (ag rfl rfl dR) (by simp; exact Nat.not_lt.1 hg) ?_
  exact zk 7 rfl (WP.ret (q2 _ _ (fun a b=>by have:=hx a b; omega) rfl s))
noncomputable def ZY : Code:=cJ [1,1,1,1,1] ((Tryz.f25.body).getD .skip)
theorem Ty (hT:W told){low lo:Nat}{y:(Nat×Int)×LD}(jM:cR X (cV x data))(xF:data.length≤4096)(s:Sat h (bf q p y.2.1::aC p y.2.2::X::cx a p q r .cD dX aD::S))(h1:y.2.1.Ok)(h2:y.2.2.Ok)(h3:y.1.1<1099511627776)(wU:low<18446744073709551616)(Od:lo<18446744073709551616)
 {E:List (Nat×V)}(hE:Has E [(0,.ptr a 0),(1,.int .u64 (lo:Int)),(2,x),(7,.int .u64 (low:Int)),(10,.int .u64 (y.1.1:Int)),(11,.int .i64 y.1.2)]){Q:Ex→List (Nat×V)→H→Prop}
 (hq:∀e y' jN jD E' h',CS y (if lo=0 then low else min low lo) data dX aD e y' jN jD→look E' 6=some (.int .i64 e)→Sat h' (bf q p y'.1::aC p y'.2::X::cx a p q r .cD jN jD::S)→Q .ret E' h'):
  WP ⟨Tryz.prog,told⟩ 118 ZY E h Q:=by
 have VX:=Ki h1
 have VY:=Kj h2
 have kJ:=VU h1 h2 h3
 obtain ⟨dv,s⟩:=bM.1 (s.ae [3])
 have s:=s.ae [2,2,2,0,0]
 obtain ⟨y2,I⟩:∃y2,y2=lz y:=⟨_,rfl⟩
 obtain ⟨y3,J⟩:∃y3,y3=gH y:=⟨_,rfl⟩
 have ey2:bB (y.2.1,y.2.2) y.1.1=y2:=by rw [I,lz]
 have ey3:iz (y2.2.1,y2.2.2) y.1.1=y3:=by rw [I,J,gH]
 rw [←I] at VX VY
 rw [←J] at kJ
 refine WP.has hE (zK 4 rfl ?_)
 by_cases he:y.1.2=0
 ·skip
  refine zh rfl (ag rfl rfl aX) (by simp; exact he) ?_
  refine zk 8 rfl (zf rfl (kY _ _) (zl rfl (s.ld (k:=3) rfl nj rfl) (zm rfl (zc rfl (D4 hT s h1 h2.aI) ?_))))
  rw [ey2]
  rintro v h ⟨rfl,s⟩
  refine zk 5 rfl ?_
  by_cases U:y2.1=0
  ·skip
   refine zh rfl (ag rfl rfl aX) (by simp; exact U) ?_
   refine zk 8 rfl (zf rfl (kY _ _) (zl rfl (s.ld (k:=3) rfl nj rfl) (zm rfl (zc rfl (Tc hT s VX VY.aI (zZ h3 (by decide))) ?_))))
   rw [ey3]
   rintro v h ⟨rfl,s⟩
   refine zk 5 rfl ?_
   by_cases Hr:y3.1=0
   ·skip
    refine zh rfl (ag rfl rfl aX) (by simp; exact Hr) ?_
    refine zk 8 rfl (zc rfl (j4 hT (s.ae [2]) jM (by omega)) ?_)
    intro w h s
    have hw:=(s.buf (k:=0) rfl).view.cells
    have s:=s.fF
    refine zk 2 rfl (zf rfl (GG _ _) (zS rfl (s.dZ (k:=4) rfl jy rfl (by decide) hw.1 hw.2) ?_))
    intro h s
    refine zn rfl (zf rfl (Cg _ _) ?_)
    refine zS rfl (by exact s.dZ (k:=4) rfl qT rfl (by decide) rfl rfl) (fun h s => ?_)
    refine zk 5 rfl ?_
    have s:=s.ae [2,2,2,0,0]
    have rest:∀lw E,lw=(if lo=0 then low else min low lo)→lw<18446744073709551616→Has E [(0,.ptr a 0),(7,.int .u64 (lw:Int))]→WP ⟨Tryz.prog,told⟩ 118 YH E h Q:=by
     intro lw E VZ bX hE
     refine VW hT s kJ.1 kJ.2 bX hE (fun t E' h' hr hg hx l6 s => ?_) (fun E' h' hx l6 s => ?_)
     ·subst VZ I J
      exact hq _ _ _ _ E' h' (.cut t he U Hr hr hg hx) l6 ((bM.2 ⟨w,(s.ae [2,2,0,0,0]).del 5⟩).ae [1,1,1,0])
     ·subst VZ I J
      exact hq _ _ _ _ E' h' (.cS he U Hr hx) l6 ((bM.2 ⟨w,(s.ae [2,2,0,0,0]).del 5⟩).ae [1,1,1,0])
    by_cases h0:lo=0
    ·skip
     refine zh rfl (ag rfl rfl aX) (by simp; omega) ?_
     exact zk 2 rfl (WP.skip (rest low _ (by rw [aj h0]) wU ⟨rfl,rfl,aa⟩))
    ·skip
     refine zt rfl (ag rfl rfl aX) (by simp; omega) ?_
     refine zk 5 rfl (zo rfl (PE rfl rfl Vh) ?_)
     have V0:min (low:Int) (lo:Int)=((min low lo:Nat):Int):=by omega
     rw [V0]
     exact zk 2 rfl (rest (min low lo) _ (by rw [af h0]) (by omega) ⟨rfl,rfl,aa⟩)
   ·skip
    refine zt rfl (ag rfl rfl aX) (by simp; exact Hr) ?_
    refine zk 7 rfl (WP.ret ?_)
    subst I J
    exact hq _ _ _ _ _ _ (.check he U Hr) rfl ((bM.2 ⟨dv,s.ae [3,3,0,0,0]⟩).ae [1,1,1,0])
  ·skip
   refine zt rfl (ag rfl rfl aX) (by simp; exact U) ?_
   refine zk 7 rfl (WP.ret ?_)
   subst I J
   exact hq _ _ _ _ _ _ (.force he U) rfl ((bM.2 ⟨dv,s.ae [3,3,0,0,0]⟩).ae [1,1,1,0])
 ·skip
  refine zt rfl (ag rfl rfl aX) (by simp; exact he) ?_
  exact zk 7 rfl (WP.ret (hq _ _ _ _ _ _ (.app he) rfl ((bM.2 ⟨dv,s.ae [3,3,0,0,0]⟩).ae [1,1,1,0])))
theorem Tz (hT:W told){lo:Nat}(s:Sat h (cx a p q r .cD dX aD::bZ r p q ε.1::bf q p ε.2.1::aC p ε.2.2::X::S))(hX:cR X (cV x data))(U:oL ε)(Od:lo<18446744073709551616)
 (hm:ε.1.aQ.length≤1048576)(hk:∀n∈ε.1.aQ.map (·.1),(Lit.int .i64 n).wf=true)(y7:ε.2.1.b=ε.2.2.log)(hz:ε.2.1.base+ε.2.1.b.length+1048584≤1099511627776):
  Call ⟨Tryz.prog,told⟩ 25 [.ptr a 0,.int .u64 (lo:Int),x] h fun v h'=>∃e ε' I J,E6 ε lo data dX aD e ε' I J∧v=.int .i64 e ∧
   Sat h' (cx a p q r .cD I J::bZ r p q ε'.1::bf q p ε'.2.1::aC p ε'.2.2::X::S):=by
 have s0:=s
 have jM:=s.aG (k:=4) rfl hX
 obtain ⟨dv,s⟩:=bM.1 s
 refine Call.of_wp (hT.free _ rfl) Tryz.func25 rfl rfl (zK 5 rfl (WP.block (zK 4 rfl (zf rfl (tY _ _) (zl rfl (s.ld (k:=0) rfl GC rfl) (zh rfl (ag rfl rfl (FO uq)) (rfl) (zk 6 rfl (zo rfl (a_ rfl rfl rfl (bh aS jM)) ?_))))))))
 by_cases hb:4096<data.length
 ·skip
  refine zt rfl (ag rfl rfl dR) (by simp; omega) ?_
  exact zk 7 rfl (WP.ret ⟨aa,_,rfl,2,ε,_,_,.VV hb,rfl,s0⟩)
 ·have xF:data.length≤4096:=by omega
  refine zh rfl (ag rfl rfl dR) (by simp; omega) ?_
  refine zk 7 rfl (zf rfl (rO _ _) (zl rfl (s.ld (k:=0) rfl jQ rfl) (zc rfl (wT hT (s.ae [4])) ?_)))
  rintro v h ⟨rfl,rfl⟩
  refine zk 2 rfl ?_
  cases hd:ε.2.2.dead with
  | true =>
   exact zK 5 rfl (WP.ret ⟨aa,_,rfl,9,ε,_,_,.dead xF hd,rfl,s0⟩)
  | false =>
   refine zj rfl (WP.skip (zg rfl (zk 2 rfl (zf rfl (kY _ _) (zl rfl (by exact s.ld (k:=0) rfl nj rfl) ?_)))))
   refine zc rfl (nQ hT (s.ae [3]) U.lg.size) ?_
   rintro v h ⟨rfl,rfl⟩
   refine zk 7 rfl (zf rfl (oo _ _) (zl rfl (s.ld (k:=0) rfl u_ rfl) (zc rfl (P9 hT (s.ae [2]) hm hk) ?_)))
   intro av h s
   have hl:(aJ ε.1.aQ).length=ε.1.aQ.length:=by rw [aJ,(er _).length_eq,d_]
   refine zo rfl (a_ rfl rfl rfl (s.iH (n:=(aJ ε.1.aQ).length) (j:=0) rfl (by rw [yS]) (by decide) yQ)) ?_
   refine zk 2 rfl (WP.block ?_)
   refine Tx hT (ks:=aJ ε.1.aQ) (by omega) (aJ ε.1.aQ).length 0 (ε.2.1.base+ε.2.1.b.length) _ _ _ (by omega) s ⟨rfl,rfl,rfl,rfl,rfl,rfl,rfl,aa⟩ (fun E' h' gq s' => ?_)
   rw [dS] at gq
   have gq:Has E' [(0,.ptr a 0),(1,.int .u64 (lo:Int)),(2,x),(7,.int .u64 (lu ε:Nat))]:=gq
   have s:=s'.del 0
   have wU:lu ε<18446744073709551616:=by
    have:=Kh ε.1 (aJ ε.1.aQ) (ε.2.1.base+ε.2.1.b.length)
    have:=U.lg.size
    unfold lu; omega
   refine WP.has gq (zw ?_)
   have R8:=VT (data:=data) U y7 hz
   have s:=s.vQ
   have s0:=s
   have A0:=cY jM
   refine WP.drawn [some (0,3),some (0,3),some (0,3),some (0,3),none,none,some (0,2),ai,ai,ai,ai,ai,ai,ai,ai] rfl (by kernel_rfl) (by kernel_rfl) ?_
   refine zM rfl (zN rfl (zF rfl (kY _ _) (zL rfl (s.ld (k:=2) rfl nj rfl) (zM rfl (aA.any rfl rfl rfl rfl (OpR.call rfl rfl rfl rfl (vU (z:=8) hT s (by decide) (by simp))) ?_)))))
   intro v1 h s
   rw [cU] at s
   have s1:=s
   obtain ⟨lw,HD⟩:∃lw,lw=le 8 (lu ε):=⟨_,rfl⟩
   have abb:lw.length=8:=by rw [HD,dH]
   have eck:uU ε data=bn ε.2 8 0 0 0 (lw++data) []:=by rw [HD]; rfl
   rw [←HD] at s
   refine zM rfl (aA.any rfl rfl rfl rfl (OpR.oG rfl (s.ae [0,5]) hX rfl rfl rfl rfl (by omega)) ?_)
   intro v2 h s
   obtain ⟨vi,vo,vc,rfl⟩:=kx (s.buf (k:=0) rfl).view (by simp only [bC]; omega)
   have s2:=s
   refine zO rfl (cX rfl (by rw [wK]; rfl)) ?_
   have s:Sat h (.arr 4 .bA []::cT [] []::_):=(s.gx (φ:=True) aa).qg
   refine aA.any rfl rfl rfl rfl (OpR.call rfl rfl rfl rfl (G4 (kd:=8) (tx:=0) (pv:=0) (nx:=0) (ch:=.bA) hT (s.ae [7,7,2,0,0]) (bI _ _) ⟨by simp [vX],by decide,by decide,by decide,by simp; omega⟩ U.lg U.dk)) ?_
   rintro v h ⟨rfl,s⟩
   rw [show bn (ε.2.1,ε.2.2) 8 0 0 0 (lw++data) []=uU ε data from eck.symm] at s ⊢
   obtain ⟨y1,YI⟩:∃y1,y1=uU ε data:=⟨_,rfl⟩
   rw [←YI] at s R8 ⊢
   refine zM rfl (zO rfl (cz rfl rfl) (zO rfl (cz rfl rfl) (zA rfl (zA rfl ?_))))
   refine aA.nil ⟨⟨fun _ _=>.inr ⟨rfl,⟨_,bk rfl⟩,aW _ rfl⟩,fun _ _=>.inr ⟨rfl,⟨_,jZ rfl⟩,aW _ rfl⟩,fun _ _=>.inr ⟨rfl,⟨_,jv rfl (kY _ _)⟩,aW _ rfl⟩,vN (.inr ⟨rfl,⟨_,aV rfl (s0.ld (k:=2) rfl nj rfl)⟩,aW _ rfl⟩) (.inr ⟨rfl,⟨_,aV rfl (s1.ld (k:=2) rfl nj rfl)⟩,aW _ rfl⟩) (.inr ⟨rfl,⟨_,aV rfl (s2.ld (k:=3) rfl nj rfl)⟩,aW _ rfl⟩),aa,aa,fun _ _=>.inr ⟨rfl,⟨_,bk rfl⟩,A0⟩,aa,aa,aa,aa,aa,aa,aa,aa,aa⟩,?_⟩
   have s:=((s.del 4).del 3).del 2
   have s:=(bM.2 ⟨dv,s.ae [4,4]⟩).ae [1,1,1,0]
   refine Ty hT hX xF s R8.1 R8.2.1 R8.2.2 wU Od ⟨rfl,rfl,rfl,rfl,rfl,rfl,aa⟩ (fun e y' I J E' h' hc l6 s2 => ?_)
   subst YI
   exact ⟨aa,_,oF l6,e,(ε.1,y'),I,J,.go e y' I J xF hd hc,rfl,s2.ae [3,3,0,0,0]⟩
end
theorem Oe : ∃i,Tryz.prog.info? 4=some i∧i.size=1∧i.bytes=1 :=
 ⟨_,(show Tryz.prog.info? 4=some ((Tryz.prog.info? 4).getD default) by kernel_rfl),by kernel_rfl,by kernel_rfl⟩
theorem TA : ∀n:Nat,repeatL [V.bool false] n=qz (List.replicate n false):=by
 intro n
 induction n with
 | zero=>rfl
 | succ n I=>simp only [repeatL,I,qz,sL,bH]; rfl
theorem Xs {P:Program}{h:H}{t:TypeId}{x y:Operand}{n:Nat}(I:n<72057594037927936): binV P h .shl t x y (.int .u64 (n:Int)) (.int .u64 8)=some (.int .u64 ((n*256:Nat):Int)):=by
 simp only [binV,shiftV,IntKind.bits]
 rw [show min ((8:Int).toNat) 64=8 from rfl,show decide ((8:Int)<0)=false from rfl,az]
 have:(n:Int)*2^8=((n*256:Nat):Int):=by rw [show (2:Int)^8=256 from rfl]; omega
 rw [this,wrap_u64 (by omega)]
theorem ZZ {P:Program}{h:H}{t:TypeId}{x y:Operand}{a d:Nat}(ha:a<72057594037927936)(hd:d<256): binV P h .or t x y (.int .u64 ((a*256:Nat):Int)) (.int .u64 (d:Int))=some (.int .u64 ((d+256*a:Nat):Int)):=by
 have I:(((a*256:Nat):Int)%(2^(IntKind.u64).bits:Int)).toNat=a*256:=by simp only [IntKind.bits]; omega
 have J:((d:Int)%(2^(IntKind.u64).bits:Int)).toNat=d:=by simp only [IntKind.bits]; omega
 have U:Nat.lor (a*256) d=d+256*a:=by
  have:=C9 (i:=8) (b:=d) (by omega) a
  rw [show a*256=2^8*a by omega,s_]
  exact this.symm
 simp only [binV,ikBeq,ah,intV,bitsV,I,J,U]
 rw [wrap_u64 (by omega)]
section
variable {told:dF} {h:H} {S:List ax} {X:ax} {k:Nat} {v:V} {l:List Nat}
noncomputable def g1L : Code:=cJ [1,1,0,1,0,0] ((Tryz.f155.body).getD .skip)
theorem Of {a z:Nat}(J:View h v l)(hz:z≤7)(hl:a+z≤l.length)(lH:l.length≤65536): ∀(i:Nat) (E:List (Nat×V)) (Q:Ex→List (Nat×V)→H→Prop),i≤z →
  Has E [(0,v),(1,.int .i64 (a:Int)),(7,.int .u64 (leN ((l.take (a+z)).drop (a+i)):Nat)),(8,.int .i64 ((i:Int)-1))]→(∀E',look E' 7=some (.int .u64 (eM l a z:Nat))→Q (.exit 0) E' h)→WP ⟨Tryz.prog,told⟩ 26 (.loop g1L) E h Q:=by
 intro i
 induction i with
 | zero =>
  intro E Q hi I U
  refine WP.loop (WP.has I (zK 4 rfl (zh rfl (ag rfl rfl ng) (by simp <;> omega) ?_)))
  exact zk 2 rfl (WP.exit (U _ rfl))
 | succ i ih =>
  intro E Q hi I U
  have hb:l[a+i]?=some (l[a+i]'(by omega)):=bg _
  generalize BS:(l[a+i]'(by omega))=b at hb
  have xF:b<256:=J.1 b (bq hb)
  obtain ⟨id,off,e1,e2⟩:=g_ J hb
  have ed:(l.take (a+z)).drop (a+i)=b::(l.take (a+z)).drop (a+(i+1)):=by
   have h1:a+i<(l.take (a+z)).length:=by rw [dJ]; omega
   rw [kM h1,List.getElem_take,BS]; rfl
  have bX:=yL ((l.take (a+z)).drop (a+(i+1))) (fun x hx=>J.1 x (gr (ij hx)))
  have hlen:((l.take (a+z)).drop (a+(i+1))).length≤6:=by simp; omega
  have hp:=oT (n:=256) (by omega) hlen
  have e3:((i+1:Nat):Int)-1=(i:Int):=by omega
  have e4:(a:Int)+(i:Int)=((a+i:Nat):Int):=by omega
  rw [e3] at I
  refine WP.loop (WP.has I (zK 4 rfl (zt rfl (ag rfl rfl ng) (by simp <;> omega) ?_)))
  refine zk 4 rfl (WP.block (zK 2 rfl (zb rfl (Xs (by omega)) ?_)))
  refine zk 3 rfl (zb rfl (by exact bO (aT (by omega) (by omega))) ?_)
  rw [e4]
  refine zo rfl (dG (r:=.ptr id off) rfl rfl e1) (zl rfl e2 (zo rfl (b8 rfl (by exact jx Tryz.underlying5 cq (eR (by omega) (by omega)))) ?_))
  refine zb rfl (ZZ (by omega) xF) ?_
  refine za rfl (zv (zr rfl (zm rfl (zb rfl (by exact lE (aT (by omega) (by omega))) ?_))))
  refine za rfl (zv ?_)
  refine ih _ Q (by omega) ?_ U
  rw [ed,leN]
  exact ⟨rfl,rfl,rfl,rfl,aa⟩
theorem TB (U:W told){a z:Nat}(s:Sat h S)(hk:getA S k=some X)(hX:cR X (cV v l))(hz:z≤7)(hl:a+z≤l.length)(I:l.length≤65536):
  Call ⟨Tryz.prog,told⟩ 155 [v,.int .i64 (a:Int),.int .i64 (z:Int)] h fun r h'=>r=.int .u64 (eM l a z:Nat)∧h'=h:=by
 have hv:=s.aG hk hX
 refine Call.of_wp (U.free _ rfl) Tryz.func155 rfl rfl (zK 12 rfl (zb rfl (by exact lE (aT (by omega) (by omega))) ?_))
 refine zk 2 rfl (WP.block ?_)
 refine Of (a:=a) (z:=z) hv hz hl I z _ _ (aL _) ⟨rfl,rfl,?_,rfl,aa⟩ (fun E' J => ?_)
 ·rw [show (l.take (a+z)).drop (a+z)=[] by rw [List.drop_eq_nil_iff,dJ]; omega]
  rfl
 exact WP.has (F:=[(7,.int .u64 (eM l a z:Nat))]) ⟨J,aa⟩ (zK 5 rfl (WP.ret ⟨aa,_,rfl,rfl,rfl⟩))
theorem AB (J:W told){a z:Nat}(s:Sat h S)(U:getA S k=some X)(hX:cR X (cV v l))(hz:z≤7)(hl:a+z≤l.length)(I:l.length≤65536):
  Call ⟨Tryz.prog,told⟩ 134 [v,.int .i64 (a:Int),.int .i64 (z:Int)] h fun r h'=>r=.int .i64 (eM l a z:Nat)∧h'=h:=by
 have hv:=s.aG U hX
 have bX:=qi (l:=l) (a:=a) (z:=z) hv.1
 have hp:=oT (n:=256) (by omega) hz
 refine Call.of_wp (J.free _ rfl) Tryz.func134 rfl rfl (zK 9 rfl (zc rfl (TB J s U hX hz hl I) ?_))
 rintro r h' ⟨rfl,rfl⟩
 refine zo rfl (b8 rfl (by exact jx cq bE (aT (by omega) (by omega)))) ?_
 exact zk 2 rfl (WP.ret ⟨aa,_,rfl,rfl,rfl⟩)
theorem Og (I:W told)(s:Sat h S)(J:getA S k=some X)(U:cR X (cV v l))(hl:l.length=512):
  Call ⟨Tryz.prog,told⟩ 114 [v] h fun r h'=>r=.int .i64 (j5 l:Nat)∧h'=h:=by
 refine Call.of_wp (I.free _ rfl) Tryz.func114 rfl rfl (zK 7 rfl (zc rfl (AB (a:=14) (z:=2) I s J U (by decide) (by omega) (by omega)) ?_))
 rintro r h' ⟨rfl,rfl⟩
 exact zk 2 rfl (WP.ret ⟨aa,_,rfl,rfl,rfl⟩)
theorem TC (I:W told)(s:Sat h S)(J:getA S k=some X)(U:cR X (cV v l))(hl:l.length=512):
  Call ⟨Tryz.prog,told⟩ 115 [v] h fun r h'=>r=.int .i64 (iB l:Nat)∧h'=h:=by
 refine Call.of_wp (I.free _ rfl) Tryz.func115 rfl rfl (zK 7 rfl (zc rfl (AB (a:=16) (z:=2) I s J U (by decide) (by omega) (by omega)) ?_))
 rintro r h' ⟨rfl,rfl⟩
 exact zk 2 rfl (WP.ret ⟨aa,_,rfl,rfl,rfl⟩)
theorem Qu (I:W told){i:Nat}(s:Sat h S)(J:getA S k=some X)(U:cR X (cV v l))(hl:l.length=512)(hi:30+4*i≤512):
  Call ⟨Tryz.prog,told⟩ 116 [v,.int .i64 (i:Int)] h fun r h'=>r=.bD [.int .i64 (jq l i:Nat),.int .i64 (lP l i:Nat)]∧h'=h:=by
 have e1:26+4*(i:Int)=((26+4*i:Nat):Int):=by omega
 have e2:28+4*(i:Int)=((26+4*i+2:Nat):Int):=by omega
 refine Call.of_wp (I.free _ rfl) Tryz.func116 rfl rfl (zK 9 rfl (zb rfl (by exact Bk (aT (by omega) (by omega))) ?_))
 refine zb rfl (by exact bO (aT (by omega) (by omega))) ?_
 rw [e1]
 refine zc rfl (AB (a:=26+4*i) (z:=2) I s J U (by decide) (by omega) (by omega)) ?_
 rintro r h' ⟨rfl,rfl⟩
 refine zk 2 rfl (zb rfl (by exact Bk (aT (by omega) (by omega))) ?_)
 refine zb rfl (by exact bO (aT (by omega) (by omega))) ?_
 rw [e2]
 refine zc rfl (AB (a:=26+4*i+2) (z:=2) I s J U (by decide) (by omega) (by omega)) ?_
 rintro r h' ⟨rfl,rfl⟩
 exact zk 3 rfl (WP.ret ⟨aa,_,rfl,rfl,rfl⟩)
noncomputable def Z0 : Code:=cJ [1,1,1,1,1,1,0,1,0,0] ((Tryz.f72.body).getD .skip)
noncomputable def Z1 : Code:=cJ [1,1,1,1,1,1,0,1,0,0,1,0,0,1,1,1,0,0] ((Tryz.f72.body).getD .skip)
theorem I_ {id a z:Nat}{v0 v3 v4 v6:V}(haz:a+z≤512): ∀(m q:Nat) (t:List Bool) (h:H) (E:List (Nat×V)) (Q:Ex→List (Nat×V)→H→Prop),q+m=a+z→t.length=512 →
  Sat h (pt id (.cells 512 (qz t) false)::S)→Has E [(0,v0),(3,v3),(4,v4),(5,.sl id 0 512 (.exact 512)),(6,v6),(7,.int .i64 (a:Int)),(8,.int .i64 (z:Int)),(9,.int .i64 (q:Int))] →
  (markL m q t=none→∀E' h',look E' 2=some (.bool false)→Sat h' S→Q .ret E' h') →
  (∀t' E' h',markL m q t=some t'→Has E' [(0,v0),(3,v3),(4,v4),(5,.sl id 0 512 (.exact 512)),(6,v6)]→Sat h' (pt id (.cells 512 (qz t') false)::S)→Q (.exit 2) E' h') →
  WP ⟨Tryz.prog,told⟩ 68 (.loop Z1) E h Q:=by
 intro m
 induction m with
 | zero =>
  intro q t h E Q hq ht s hE U hx
  refine WP.loop (WP.has hE (zK 6 rfl (zb rfl (by exact bO (aT (by omega) (by omega))) ?_)))
  refine zh rfl (ag rfl rfl bx) (by simp; omega) ?_
  exact zk 2 rfl (WP.exit (hx t _ _ rfl ⟨rfl,rfl,rfl,rfl,rfl,aa⟩ s))
 | succ m ih =>
  intro q t h E Q hq ht s hE U hx
  have I:q<t.length:=by omega
  have J:indexAddrV Tryz.prog 186 (.sl id 0 512 (.exact 512)) (.int .i64 (q:Int))=some (.ptr id q):=by
   rw [W7,show (decide ((0:Int)≤(q:Int))&&decide ((q:Int)<((512:Nat):Int)))=true by simp; omega,ah]; simp
  refine WP.loop (WP.has hE (zK 6 rfl (zb rfl (by exact bO (aT (by omega) (by omega))) ?_)))
  refine zt rfl (ag rfl rfl bx) (by simp; omega) ?_
  refine zk 4 rfl (WP.block (zK 5 rfl (zo rfl (dG (r:=.ptr id q) rfl rfl J) ?_)))
  cases hm:t.getD q false with
  | true =>
   refine zt rfl (aV rfl (s.ld (k:=0) rfl jV (Ay I))) (hm) (zk 6 rfl (WP.ret ?_))
   refine U ?_ _ _ rfl s.drop
   rw [markL,aj hm]
  | false =>
   refine zh rfl (aV rfl (s.ld (k:=0) rfl jV (Ay I))) (hm) (zk 6 rfl (zo rfl (dG (r:=.ptr id q) rfl rfl J) (zS rfl (s.dZ (k:=0) rfl xN (by simp [qz,ht]) (by omega) rfl rfl) ?_)))
   intro h s
   dsimp only [setA] at s
   rw [JY] at s
   refine zv (zr rfl (zm rfl (zb rfl (by exact bO (aT (by omega) (by omega))) ?_)))
   refine za rfl (zv ?_)
   have e:markL (m+1) q t=markL m (q+1) (t.set q true):=by rw [markL,af (by rw [hm]; decide)]
   rw [e] at U hx
   exact ih (q+1) (t.set q true) h _ Q (by omega) (by simp [ht]) s ⟨rfl,rfl,rfl,rfl,rfl,rfl,rfl,rfl,aa⟩ U hx
theorem Ja (hT:W told){id:Nat}{n low:Nat}{x:V}(hX:cR X (cV x l))(hl:l.length=512)(bX:∀b∈l,b<256)(hn:n=j5 l)(wU:26+4*n≤low)(Xj:low≤512): ∀(m i:Nat) (t:List Bool) (h:H) (E:List (Nat×V)) (Q:Ex→List (Nat×V)→H→Prop),i+m=n→t.length=512 →
  Sat h (pt id (.cells 512 (qz t) false)::X::S)→Has E [(0,x),(3,.int .i64 (n:Int)),(4,.int .i64 (low:Int)),(5,.sl id 0 512 (.exact 512)),(6,.int .i64 (i:Int))] →
  (cellsL l low m i t=false→∀E' h',look E' 2=some (.bool false)→Sat h' (X::S)→Q .ret E' h') →
  (cellsL l low m i t=true→∀E' h',Sat h' (X::S)→Q (.exit 0) E' h') →
  WP ⟨Tryz.prog,told⟩ 68 (.loop Z0) E h Q:=by
 intro m
 induction m with
 | zero =>
  intro i t h E Q hi ht s hE J hx
  refine WP.loop (WP.has hE (zK 5 rfl (zh rfl (ag rfl rfl bx) (by simp; omega) ?_)))
  exact zk 2 rfl (WP.exit (hx rfl _ _ s.drop))
 | succ m ih =>
  intro i t h E Q hi ht s hE J hx
  have hf:=qi (l:=l) (a:=26+4*i) (z:=2) bX
  have hz:=qi (l:=l) (a:=26+4*i+2) (z:=2) bX
  have ef:jq l i=eM l (26+4*i) 2:=rfl
  have ez:lP l i=eM l (26+4*i+2) 2:=rfl
  refine WP.loop (WP.has hE (zK 5 rfl (zt rfl (ag rfl rfl bx) (by simp; omega) ?_)))
  refine zk 4 rfl (WP.block (zK 4 rfl (zc rfl (Qu (i:=i) hT s (k:=1) rfl hX hl (by omega)) ?_)))
  rintro r h' ⟨rfl,rfl⟩
  refine zk 11 rfl ?_
  refine zd rfl (ag rfl rfl bx) ?_ ?_
  ·intro U
   have U:jq l i<low:=by simp at U; omega
   refine zk 12 rfl (WP.ret ?_)
   refine J ?_ _ _ rfl s.drop
   rw [cellsL,aj (.inl U)]
  ·intro U
   have U:low≤jq l i:=by simp at U; omega
   refine zk 3 rfl (zb rfl (by exact bO (aT (by omega) (by omega))) ?_)
   refine zd rfl (ag rfl rfl dR) ?_ ?_
   ·intro I
    have I:512<jq l i+lP l i:=by simp at I; omega
    refine zk 7 rfl (WP.ret ?_)
    refine J ?_ _ _ rfl s.drop
    rw [cellsL,aj (.inr I)]
   ·intro I
    have I:jq l i+lP l i≤512:=by simp at I; omega
    refine zk 9 rfl (WP.block ?_)
    have e:cellsL l low (m+1) i t=(match markL (lP l i) (jq l i) t with | none=>false | some t'=>cellsL l low m (i+1) t'):=by rw [cellsL,af (by omega)]; rfl
    rw [e] at J hx
    refine I_ I (lP l i) (jq l i) t _ _ _ rfl ht s ⟨rfl,rfl,rfl,rfl,rfl,rfl,rfl,rfl,aa⟩ (fun hm E' h' h2 s' => ?_) (fun t' E' h' hm gq s' => ?_)
    ·rw [hm] at J
     exact J rfl _ _ h2 s'
    ·rw [hm] at J hx
     refine WP.has gq (zK 2 rfl (zb rfl (by exact bO (aT (by omega) (by omega))) ?_))
     refine za rfl (zv ?_)
     exact ih (i+1) t' _ _ Q (by omega) (by rw [ES _ _ _ _ hm,ht]) s' ⟨rfl,rfl,rfl,rfl,rfl,aa⟩ J hx
theorem HE (hT:W told)(s:Sat h (X::S))(hX:cR X (cV v l)):
  Call ⟨Tryz.prog,told⟩ 72 [v] h fun r h'=>r=.bool (bU l)∧Sat h' (X::S):=by
 have hv:=s.aG (k:=0) rfl hX
 refine Call.of_wp (hT.free _ rfl) Tryz.func72 rfl rfl (zK 8 rfl (zo rfl (a_ rfl rfl rfl (bh aS hv)) ?_))
 refine zd rfl (ag rfl rfl aX) ?_ ?_
 ·intro hq
  have hq:l.length≠512:=by simp at hq; omega
  exact zk 12 rfl (WP.ret ⟨aa,_,rfl,by rw [bU,eB hq,eW],s⟩)
 ·intro hq
  have hq:l.length=512:=by simp at hq; omega
  have hb:l[13]?=some (l[13]'(by omega)):=bg _
  generalize BS:(l[13]'(by omega))=b at hb
  have uj:l.getD 13 0=b:=by rw [ke,hb]; rfl
  obtain ⟨id,off,e1,e2⟩:=g_ hv hb
  refine zk 2 rfl (zo rfl (dG (r:=.ptr id off) rfl rfl e1) (zl rfl e2 ?_))
  refine zd rfl (ag rfl rfl aX) ?_ ?_
  ·intro I
   have I:b≠0:=by simp at I; omega
   exact zk 7 rfl (WP.ret ⟨aa,_,rfl,by rw [bU,dN hq,uj,eB I,eW,lV],s⟩)
  ·intro I
   have I:b=0:=by simp at I; omega
   refine zk 7 rfl (zc rfl (Og hT s (k:=0) rfl hX hq) ?_)
   rintro r h' ⟨rfl,rfl⟩
   refine zk 5 rfl (zc rfl (TC hT s (k:=0) rfl hX hq) ?_)
   rintro r h' ⟨rfl,rfl⟩
   have xH:=qi (l:=l) (a:=14) (z:=2) hv.1
   have uH:=qi (l:=l) (a:=16) (z:=2) hv.1
   have ec:j5 l=eM l 14 2:=rfl
   have el:iB l=eM l 16 2:=rfl
   refine zk 6 rfl (zb rfl (by exact Bk (aT (by omega) (by omega))) ?_)
   refine zb rfl (by exact bO (aT (by omega) (by omega))) ?_
   refine zm rfl ?_
   refine zd rfl (ag rfl rfl dR) ?_ ?_
   ·intro J
    have J:iB l<26+4*j5 l:=by simp at J; omega
    exact zk 10 rfl (WP.ret ⟨aa,_,rfl,by rw [bU,dN hq,uj,dN I,eB (by omega:¬(26+4*j5 l≤iB l∧iB l≤512))]; rfl,s⟩)
   ·intro J
    have J:26+4*j5 l≤iB l:=by simp at J; omega
    refine zk 2 rfl ?_
    refine zd rfl (ag rfl rfl dR) ?_ ?_
    ·intro U
     have U:512<iB l:=by simp at U; omega
     exact zk 7 rfl (WP.ret ⟨aa,_,rfl,by rw [bU,dN hq,uj,dN I,eB (by omega:¬(26+4*j5 l≤iB l∧iB l≤512))]; rfl,s⟩)
    ·intro U
     have U:iB l≤512:=by simp at U; omega
     obtain ⟨i1,lp,jL,sn⟩:=Oe
     obtain ⟨id,h1,e1,s1⟩:=yC (P:=Tryz.prog) s Tryz.underlying186 lp Yc jL (by omega) rfl (by decide) (n:=512) (by decide)
     refine zk 6 rfl (aB.any rfl rfl rfl (OpR.of (R:=fun v h'=>v=.sl id 0 512 (.exact 512)∧h'=h1) (pZ rfl rfl e1) ⟨rfl,rfl⟩) ?_)
     rintro v h ⟨rfl,rfl⟩
     rw [dO,show (V.bool false).cells=[V.bool false] from rfl,TA] at s1
     have s:=s1
     refine zk 7 rfl (WP.block ?_)
     have YJ:bU l=cellsL l (iB l) (j5 l) 0 (List.replicate 512 false):=by rw [bU,dN hq,uj,dN I,dN ⟨J,U⟩]; rfl
     refine Ja hT (n:=j5 l) (low:=iB l) hX hq hv.1 rfl J U (j5 l) 0 (List.replicate 512 false) _ _ _ (by omega) ff s ⟨rfl,rfl,rfl,rfl,rfl,aa⟩ (fun hc E' h' h2 s' => ?_) (fun hc E' h' s' => ?_)
     ·exact ⟨aa,_,oF h2,by rw [YJ,hc],s'⟩
     ·have s:=s'
      exact WP.has (F:=[]) aa (zK 4 rfl (WP.ret ⟨aa,_,rfl,by rw [YJ,hc],s⟩))
end
end Go.Proofs.YtconhghphklfjaaGreat.Am
