/- AtomTorn: a part of its proof; conditions: its statement's. -/
import Derived.Test.YtconhghphklfjaaGreatT28
namespace Go.Proofs.YtconhghphklfjaaGreat.Am
open Go
section
variable {told:dM} {h:H} {S:List ax} {X Y:ax} {r k q p bW a g aC:Nat} {op v x u wh di:V} {l b cV data eo:List Nat} {μ:Lg} {δ:Dk}
theorem WS (hT:W told){n:Nat}(s:Sat h (bh q p μ::aG p δ::S))(J:μ.Ok)(tv:δ.Ok)(hn:n<18446744073709551616):
  Call ⟨Tryz.prog,told⟩ 71 [.ptr q 0,.int .u64 (n:Int)] h fun v h'=>v=.int .i64 (ir (μ,δ) n).1∧Sat h' (bh q p (ir (μ,δ) n).2.1::aG p (ir (μ,δ) n).2.2::S):=by
 have U:=s
 have xH:=J.size
 have Ut:=J.forced
 obtain ⟨bv,sv,s⟩:=dm.1 s
 refine Call.of_wp (hT.free _ rfl) Tryz.func71 rfl rfl (zK 9 rfl ?_)
 have rest:¬((n≠μ.base+μ.b.length∧μ.hasB n=false)∨μ.base+μ.forced<n∨(μ.check≠0∧μ.check<n))→μ.base≤n→∀E:List (Nat×V),Has E [(0,.ptr q 0),(1,.int .u64 (n:Int))] →
   WP ⟨Tryz.prog,told⟩ 121 ZZ E h fun ex E' h'=>(match ex with | .exit _=>False | _=>True)∧∃v,jz Tryz.prog E' h' [.tmp 4]=some v∧(v=.int .i64 (ir (μ,δ) n).1∧Sat h' (bh q p (ir (μ,δ) n).2.1::aG p (ir (μ,δ) n).2.2::S)):=by
  intro I hle E hE
  refine Ri hT U J tv hle (by omega) hE (fun E' h' h1 h2 s' => ?_) (fun E' h' h1 h2 s' => ?_)
  ·rw [ir,af I,aj h1]
   exact ⟨aa,_,qy h2,rfl,s'⟩
  ·rw [ir,af I,af (by simpa using h1)]
   exact ⟨aa,_,qy h2,rfl,s'⟩
 refine zc rfl (oh hT U J.size) ?_
 rintro v h' ⟨rfl,rfl⟩
 by_cases he:n=μ.base+μ.b.length
 ·skip
  refine zh rfl (ah rfl rfl aV) (by simp; omega) ?_
  refine zk 9 rfl (zc rfl (tu hT U J.size J.forced) ?_)
  rintro v h' ⟨rfl,rfl⟩
  by_cases hf:μ.base+μ.forced<n
  ·skip
   refine zt rfl (ah rfl rfl ep) (by simp; omega) ?_
   refine zk 22 rfl (WP.ret ⟨aa,_,rfl,?_⟩)
   rw [ir,aj (.inr (.inl hf))]
   exact ⟨rfl,U⟩
  ·skip
   refine zh rfl (ah rfl rfl ep) (by simp; omega) ?_
   refine zk 4 rfl (zf rfl (pW _ _) (zl rfl (s.ld (k:=0) rfl gx rfl) ?_))
   by_cases hc:μ.check=0
   ·skip
    refine zh rfl (ah rfl rfl aV) (by simp; omega) ?_
    refine zk 11 rfl ?_
    have I:¬((n≠μ.base+μ.b.length∧μ.hasB n=false)∨μ.base+μ.forced<n∨(μ.check≠0∧μ.check<n)):=by omega
    exact WP.skip (rest I (by omega) _ ⟨rfl,rfl,aa⟩)
   ·skip
    refine zt rfl (ah rfl rfl aV) (by simp; omega) ?_
    refine zk 4 rfl (zf rfl (pW _ _) (zl rfl (s.ld (k:=0) rfl gx rfl) ?_))
    by_cases WT:μ.check<n
    ·skip
     refine zt rfl (ah rfl rfl ep) (by simp; omega) ?_
     refine zk 8 rfl (WP.ret ⟨aa,_,rfl,?_⟩)
     rw [ir,aj (.inr (.inr ⟨hc,WT⟩))]
     exact ⟨rfl,U⟩
    ·skip
     refine zh rfl (ah rfl rfl ep) (by simp; omega) ?_
     refine zk 4 rfl ?_
     have I:¬((n≠μ.base+μ.b.length∧μ.hasB n=false)∨μ.base+μ.forced<n∨(μ.check≠0∧μ.check<n)):=by omega
     exact WP.skip (rest I (by omega) _ ⟨rfl,rfl,aa⟩)
 ·skip
  refine zt rfl (ah rfl rfl aV) (by simp; omega) ?_
  refine zk 3 rfl (zc rfl (Bc (n:=n) hT U J hn) ?_)
  rintro v h' ⟨rfl,rfl⟩
  cases hh:μ.hasB n with
  | false =>
   refine zo rfl (dS rfl rfl) (zk 28 rfl (WP.ret ⟨aa,_,rfl,?_⟩))
   rw [ir,aj (.inl ⟨he,hh⟩)]
   exact ⟨rfl,U⟩
  | true =>
   refine zo rfl (dS rfl rfl) (zk 4 rfl (zc rfl (tu hT U J.size J.forced) ?_))
   rintro v h' ⟨rfl,rfl⟩
   by_cases hf:μ.base+μ.forced<n
   ·skip
    refine zt rfl (ah rfl rfl ep) (by simp; omega) ?_
    refine zk 22 rfl (WP.ret ⟨aa,_,rfl,?_⟩)
    rw [ir,aj (.inr (.inl hf))]
    exact ⟨rfl,U⟩
   ·skip
    refine zh rfl (ah rfl rfl ep) (by simp; omega) ?_
    refine zk 4 rfl (zf rfl (pW _ _) (zl rfl (s.ld (k:=0) rfl gx rfl) ?_))
    by_cases hc:μ.check=0
    ·skip
     refine zh rfl (ah rfl rfl aV) (by simp; omega) ?_
     refine zk 11 rfl ?_
     have I:¬((n≠μ.base+μ.b.length∧μ.hasB n=false)∨μ.base+μ.forced<n∨(μ.check≠0∧μ.check<n)):=by simp [hh]; omega
     exact WP.skip (rest I (ER hh) _ ⟨rfl,rfl,aa⟩)
    ·skip
     refine zt rfl (ah rfl rfl aV) (by simp; omega) ?_
     refine zk 4 rfl (zf rfl (pW _ _) (zl rfl (s.ld (k:=0) rfl gx rfl) ?_))
     by_cases WT:μ.check<n
     ·skip
      refine zt rfl (ah rfl rfl ep) (by simp; omega) ?_
      refine zk 8 rfl (WP.ret ⟨aa,_,rfl,?_⟩)
      rw [ir,aj (.inr (.inr ⟨hc,WT⟩))]
      exact ⟨rfl,U⟩
     ·skip
      refine zh rfl (ah rfl rfl ep) (by simp; omega) ?_
      refine zk 4 rfl ?_
      have I:¬((n≠μ.base+μ.b.length∧μ.hasB n=false)∨μ.base+μ.forced<n∨(μ.check≠0∧μ.check<n)):=by simp [hh]; omega
      exact WP.skip (rest I (ER hh) _ ⟨rfl,rfl,aa⟩)
end
def vM (π:Pl): List Int→Nat→Nat
 | [],m=>m
 | n::l,m=>vM π l (min m (cL π n 0))
theorem ES (π:Pl): ∀(l:List Int) (m:Nat),vM π l m≤m:=by
 intro l
 induction l with
 | nil=>intro m; exact aI _
 | cons n l I=>intro m; exact cy (I _) (Nat.min_le_left _ _)
theorem OX (π:Pl): ∀ {l:List Int} {i:Nat} {n:Int},l[i]?=some n→((dirtC π l).drop (i*2)).take 2=[.int .i64 n,.int .u64 (cL π n 0:Nat)]:=by
 intro l
 induction l with
 | nil=>intro i n h; simp at h
 | cons x l I =>
  intro i n h
  cases i with
  | zero=>simp at h; subst h; rfl
  | succ i =>
   rw [kF] at h
   rw [show (i+1)*2=i*2+2 by omega]
   exact I h
section
variable {told:dM} {h:H} {S:List ax} {X Y:ax} {r k q p bW a g aC:Nat} {op v x u wh di:V} {l b cV data eo:List Nat} {now:List (Int×List Nat)} {b9:Bool} {ε:aO} {μ:Lg} {δ:Dk} {π:Pl}
noncomputable def ckL : Code:=cM [1,1,1,0,1,0,0] ((Tryz.f25.body).getD .skip)
theorem Uu (hT:W told){ks:List Int}{av t1 t2:V}(OA:ks.length≤1048576): ∀(j i:Nat) (low:Nat) (h:H) (E:List (Nat×V)) (Q:Ex→List (Nat×V)→H→Prop),i+j=ks.length →
  Sat h (.arr 2 av (dirtC π ks)::S)→Has E [(0,.ptr a 0),(1,t1),(2,t2),(7,.int .u64 (low:Int)),(40,av),(41,.int .i64 ks.length),(42,.int .i64 i)] →
  (∀E' h',Has E' [(0,.ptr a 0),(1,t1),(2,t2),(7,.int .u64 (vM π (ks.drop i) low:Nat))]→Sat h' (.arr 2 av (dirtC π ks)::S)→Q (.exit 1) E' h') →
  WP ⟨Tryz.prog,told⟩ 118 (.loop ckL) E h Q:=by
 intro j
 induction j with
 | zero =>
  intro i low h E Q hi s hE J
  refine WP.loop (WP.has hE (zg rfl (zh rfl (ah rfl rfl bB) (by simp <;> omega) ?_)))
  refine zk 3 rfl (WP.exit ?_)
  rw [iB (by omega)] at J
  exact J _ _ ⟨rfl,rfl,rfl,rfl,aa⟩ s
 | succ j ih =>
  intro i low h E Q hi s hE J
  have hn:ks[i]?=some (ks[i]'(by omega)):=bg _
  have I:ks.drop i=ks[i]'(by omega)::ks.drop (i+1):=lq (by omega)
  generalize (ks[i]'(by omega))=n at hn I
  rw [I] at J
  have U:=OX π hn
  obtain ⟨id,off,g1,g2⟩:=Hq (P:=Tryz.prog) (i:=i) s (j:=0) rfl (by rw [Ad]; omega) (by decide) Ab LP
  have g2:=g2 Yd
  rw [U] at g2
  have Qt:min (low:Int) ((cL π n 0:Nat):Int)=((min low (cL π n 0):Nat):Int):=by omega
  refine WP.loop (WP.has hE (zg rfl (zt rfl (ah rfl rfl bB) (by simp <;> omega) ?_)))
  refine zk 5 rfl (WP.block (zg rfl (zo rfl (ej (r:=.ptr id off) rfl rfl g1) (zl rfl g2 ?_))))
  refine aB.cT s rfl rfl rfl (cI Gk) (fun p9 h s => ?_)
  dsimp only [V.cells,List.length_cons,List.length_nil,Nat.reduceAdd] at s
  refine zS rfl (s.ia (j:=0) rfl LP rfl rfl) (fun h s => ?_)
  dsimp only [setA] at s
  refine zk 3 rfl (zf rfl (TQ _ _) (zl rfl (s.ld (k:=0) rfl gx rfl) (zo rfl (LZ rfl rfl Wf) ?_)))
  rw [Qt]
  refine za rfl (zv (zr rfl (zb rfl (by exact bU (aY (by omega) (by omega))) ?_)))
  refine zm rfl (zv ?_)
  exact ih (i+1) _ _ _ Q (by omega) (s.del 0) ⟨rfl,rfl,rfl,rfl,rfl,rfl,rfl,aa⟩ J
end
theorem Du {x:LD}{n:Nat}(h:x.1.Ok)(I:x.2.Ok)(U:n≤1099511627776): (jd x n).2.1.Ok∧(jd x n).2.2.Ok:=by
 have J:(x.2.qG (eV x.1.base n)).2.Ok:=by
  unfold Dk.qG
  split
  ·exact I
  ·split
   ·exact I
   ·split
    ·exact I.die
    ·exact ⟨I.c9.aD,I.len,I.room,I.now,I.aq,I.aJ,I.many⟩
 unfold jd
 split
 ·exact ⟨h,I⟩
 ·split
  ·exact ⟨h,J⟩
  ·exact ⟨⟨h.size,h.many,h.low,h.xF,h.forced,h.len,U⟩,J⟩
def fZ (ε:aO): Nat:=vM ε.1 (aF ε.1.aN) (ε.2.1.base+ε.2.1.b.length)
def m4 (ε:aO)(data:List Nat): (Nat×Int)×LD:=bq ε.2 8 0 0 0 (le 8 (fZ ε)++data) []
theorem WU {ε:aO}{data:List Nat}(I:oB ε)(J:ε.2.1.b=ε.2.2.log)(U:ε.2.1.base+ε.2.1.b.length+1048584≤1099511627776): (m4 ε data).2.1.Ok∧(m4 ε data).2.2.Ok∧(m4 ε data).1.1<1099511627776:=by
 have h:=vK (x:=ε.2) (kd:=8) (tx:=0) (pv:=0) (nx:=0) (data:=le 8 (fZ ε)++data) (c:=[]) I.lg I.dk J U
 exact ⟨h.1,h.2.1,h.2.2.2.2.2.2⟩
def uX (ε:aO)(lo:Nat): Nat:=if lo=0 then fZ ε else min (fZ ε) lo
def lR (y:(Nat×Int)×LD): Int×LD:=aT y.2 y.1.1
def gG (y:(Nat×Int)×LD): Int×LD:=jd (lR y).2 y.1.1
theorem KN {y:(Nat×Int)×LD}(h:y.2.1.Ok): (lR y).2.1.Ok:=by
 rw [lR]; exact sg h
theorem KO {y:(Nat×Int)×LD}(h:y.2.2.Ok): (lR y).2.2.Ok:=by
 rw [lR]; exact om h
theorem WV {y:(Nat×Int)×LD}(h:y.2.1.Ok)(I:y.2.2.Ok)(J:y.1.1<1099511627776): (gG y).2.1.Ok∧(gG y).2.2.Ok:=by
 rw [gG]; exact Du (KN h) (KO I) (AO J)
inductive Ih (y:(Nat×Int)×LD)(kp:Nat)(data eo:List Nat)(aC:Nat): Int→LD→List Nat→Nat→Prop
 | app:y.1.2≠0→Ih y kp data eo aC y.1.2 y.2 eo aC
 | force:y.1.2=0→(lR y).1≠0→Ih y kp data eo aC (lR y).1 (lR y).2 eo aC
 | check:y.1.2=0→(lR y).1=0→(gG y).1≠0→Ih y kp data eo aC (gG y).1 (gG y).2 eo aC
 | cut (t:Nat):y.1.2=0→(lR y).1=0→(gG y).1=0 →
   ((t=(gG y).2.1.base+(gG y).2.1.b.length∧(gG y).2.1.base+(gG y).2.1.b.length≤kp)∨((gG y).2.1.hasB t=true∧t≤kp)∨t=(gG y).2.1.base) →
   (gG y).2.1.base<t→((gG y).2.1.hasB kp=true→kp<(gG y).2.1.base+(gG y).2.1.b.length→t=kp)→Ih y kp data eo aC (ir (gG y).2 t).1 (ir (gG y).2 t).2 data y.1.1
 | cX:y.1.2=0→(lR y).1=0→(gG y).1=0→((gG y).2.1.hasB kp=true→kp<(gG y).2.1.base+(gG y).2.1.b.length→kp≤(gG y).2.1.base)→Ih y kp data eo aC 0 (gG y).2 data y.1.1
inductive Ii (ε:aO)(lo:Nat)(data eo:List Nat)(aC:Nat): Int→aO→List Nat→Nat→Prop
 | WW:4096<data.length→Ii ε lo data eo aC 2 ε eo aC
 | dead:data.length≤4096→ε.2.2.dead=true→Ii ε lo data eo aC 9 ε eo aC
 | go (e:Int) (y:LD) (cP:List Nat) (eE:Nat):data.length≤4096→ε.2.2.dead=false→Ih (m4 ε data) (uX ε lo) data eo aC e y cP eE→Ii ε lo data eo aC e (ε.1,y) cP eE
section
variable {told:dM} {h:H} {S:List ax} {X Y:ax} {r k q p bW a g aC:Nat} {op v x u wh di:V} {l b cV data eo:List Nat} {ε:aO}
noncomputable def Z0 : Code:=cM [1,1,1,1,1,1,1,1,1,1] ((Tryz.f25.body).getD .skip)
theorem WX (I:W told){lw:Nat}{w:V}{aK:Nat}{y:LD}(s:Sat h (bh q p y.1::aG p y.2::pt a (.cells 6 (qJ a p q r .cK w aK) false)::S))(J:y.1.Ok)(h2:y.2.Ok)(U:lw<18446744073709551616){E:List (Nat×V)}(hE:Has E [(0,.ptr a 0),(7,.int .u64 (lw:Int))]){Q:Ex→List (Nat×V)→H→Prop}
 (q1:∀t E' h',((t=y.1.base+y.1.b.length∧y.1.base+y.1.b.length≤lw)∨(y.1.hasB t=true∧t≤lw)∨t=y.1.base)→y.1.base<t→(y.1.hasB lw=true→lw<y.1.base+y.1.b.length→t=lw)→look E' 6=some (.int .i64 (ir y t).1) →
   Sat h' (bh q p (ir y t).2.1::aG p (ir y t).2.2::pt a (.cells 6 (qJ a p q r .cK w aK) false)::S)→Q .ret E' h')
 (q2:∀E' h',(y.1.hasB lw=true→lw<y.1.base+y.1.b.length→lw≤y.1.base)→look E' 6=some (.int .i64 0)→Sat h' (bh q p y.1::aG p y.2::pt a (.cells 6 (qJ a p q r .cK w aK) false)::S)→Q .ret E' h'):
  WP ⟨Tryz.prog,told⟩ 118 Z0 E h Q:=by
 have acs:=J.size
 refine WP.has hE (zK 5 rfl (zf rfl (lM _ _) (zl rfl (s.ld (k:=2) rfl nF rfl) (zm rfl (zc rfl (Og (n:=lw) I s J U) ?_)))))
 rintro v _ ⟨rfl,t,rfl,hr,hx⟩
 refine zk 7 rfl (zf rfl (lM _ _) (zl rfl (s.ld (k:=2) rfl nF rfl) (zc rfl (vm I s) ?_)))
 rintro v h ⟨rfl,rfl⟩
 by_cases hg:y.1.base<t
 ·skip
  refine zt rfl (ah rfl rfl ep) (by simp; exact hg) ?_
  refine zk 6 rfl (zf rfl (lM _ _) (zl rfl (s.ld (k:=2) rfl nF rfl) (zm rfl (zc rfl (WS (n:=t) I s J h2 (by rcases hr with ⟨rfl,_⟩ | ⟨_,hr⟩ | rfl <;> omega)) ?_))))
  rintro v h ⟨rfl,s⟩
  exact zk 2 rfl (WP.ret (q1 t _ _ hr hg hx rfl s))
 ·skip
  refine zh rfl (ah rfl rfl ep) (by simp; exact Nat.not_lt.1 hg) ?_
  exact zk 7 rfl (WP.ret (q2 _ _ (fun a b=>by have:=hx a b; omega) rfl s))
noncomputable def aa0 : Code:=cM [1,1,1,1,1] ((Tryz.f25.body).getD .skip)
theorem Uv (hT:W told){low lo:Nat}{y:(Nat×Int)×LD}(j5:cU X (cY x data))(pR:data.length≤4096)(s:Sat h (bh q p y.2.1::aG p y.2.2::X::cC a p q r .cK eo aC::S))(h1:y.2.1.Ok)(h2:y.2.2.Ok)(h3:y.1.1<1099511627776)(uM:low<18446744073709551616)(FL:lo<18446744073709551616)
 {E:List (Nat×V)}(hE:Has E [(0,.ptr a 0),(1,.int .u64 (lo:Int)),(2,x),(7,.int .u64 (low:Int)),(10,.int .u64 (y.1.1:Int)),(11,.int .i64 y.1.2)]){Q:Ex→List (Nat×V)→H→Prop}
 (hq:∀e y' cP eE E' h',Ih y (if lo=0 then low else min low lo) data eo aC e y' cP eE→look E' 6=some (.int .i64 e)→Sat h' (bh q p y'.1::aG p y'.2::X::cC a p q r .cK cP eE::S)→Q .ret E' h'):
  WP ⟨Tryz.prog,told⟩ 118 aa0 E h Q:=by
 have WY:=KN h1
 have WZ:=KO h2
 have lp:=WV h1 h2 h3
 obtain ⟨dv,s⟩:=bL.1 (s.ae [3])
 have s:=s.ae [2,2,2,0,0]
 obtain ⟨y2,I⟩:∃y2,y2=lR y:=⟨_,rfl⟩
 obtain ⟨y3,J⟩:∃y3,y3=gG y:=⟨_,rfl⟩
 have ey2:aT (y.2.1,y.2.2) y.1.1=y2:=by rw [I,lR]
 have ey3:jd (y2.2.1,y2.2.2) y.1.1=y3:=by rw [I,J,gG]
 rw [←I] at WY WZ
 rw [←J] at lp
 refine WP.has hE (zK 4 rfl ?_)
 by_cases he:y.1.2=0
 ·skip
  refine zh rfl (ah rfl rfl aV) (by simp; exact he) ?_
  refine zk 8 rfl (zf rfl (lM _ _) (zl rfl (s.ld (k:=3) rfl nF rfl) (zm rfl (zc rfl (EG hT s h1 h2.aD) ?_))))
  rw [ey2]
  rintro v h ⟨rfl,s⟩
  refine zk 5 rfl ?_
  by_cases U:y2.1=0
  ·skip
   refine zh rfl (ah rfl rfl aV) (by simp; exact U) ?_
   refine zk 8 rfl (zf rfl (lM _ _) (zl rfl (s.ld (k:=3) rfl nF rfl) (zm rfl (zc rfl (T_ hT s WY WZ.aD (AN h3 (by decide))) ?_))))
   rw [ey3]
   rintro v h ⟨rfl,s⟩
   refine zk 5 rfl ?_
   by_cases H8:y3.1=0
   ·skip
    refine zh rfl (ah rfl rfl aV) (by simp; exact H8) ?_
    refine zk 8 rfl (zc rfl (kr hT (s.ae [2]) j5 (by omega)) ?_)
    intro w h s
    have hw:=(s.buf (k:=0) rfl).view.cells
    have s:=s.fN
    refine zk 2 rfl (zf rfl (Hi _ _) (zS rfl (s.ee (k:=4) rfl jM rfl (by decide) hw.1 hw.2) ?_))
    intro h s
    refine zn rfl (zf rfl (CZ _ _) ?_)
    refine zS rfl (by exact s.ee (k:=4) rfl rH rfl (by decide) rfl rfl) (fun h s => ?_)
    refine zk 5 rfl ?_
    have s:=s.ae [2,2,2,0,0]
    have rest:∀lw E,lw=(if lo=0 then low else min low lo)→lw<18446744073709551616→Has E [(0,.ptr a 0),(7,.int .u64 (lw:Int))]→WP ⟨Tryz.prog,told⟩ 118 Z0 E h Q:=by
     intro lw E W5 bV hE
     refine WX hT s lp.1 lp.2 bV hE (fun t E' h' hr hg hx l6 s => ?_) (fun E' h' hx l6 s => ?_)
     ·subst W5 I J
      exact hq _ _ _ _ E' h' (.cut t he U H8 hr hg hx) l6 ((bL.2 ⟨w,(s.ae [2,2,0,0,0]).del 5⟩).ae [1,1,1,0])
     ·subst W5 I J
      exact hq _ _ _ _ E' h' (.cX he U H8 hx) l6 ((bL.2 ⟨w,(s.ae [2,2,0,0,0]).del 5⟩).ae [1,1,1,0])
    by_cases h0:lo=0
    ·skip
     refine zh rfl (ah rfl rfl aV) (by simp; omega) ?_
     exact zk 2 rfl (WP.skip (rest low _ (by rw [aj h0]) uM ⟨rfl,rfl,aa⟩))
    ·skip
     refine zt rfl (ah rfl rfl aV) (by simp; omega) ?_
     refine zk 5 rfl (zo rfl (LZ rfl rfl Wf) ?_)
     have W6:min (low:Int) (lo:Int)=((min low lo:Nat):Int):=by omega
     rw [W6]
     exact zk 2 rfl (rest (min low lo) _ (by rw [af h0]) (by omega) ⟨rfl,rfl,aa⟩)
   ·skip
    refine zt rfl (ah rfl rfl aV) (by simp; exact H8) ?_
    refine zk 7 rfl (WP.ret ?_)
    subst I J
    exact hq _ _ _ _ _ _ (.check he U H8) rfl ((bL.2 ⟨dv,s.ae [3,3,0,0,0]⟩).ae [1,1,1,0])
  ·skip
   refine zt rfl (ah rfl rfl aV) (by simp; exact U) ?_
   refine zk 7 rfl (WP.ret ?_)
   subst I J
   exact hq _ _ _ _ _ _ (.force he U) rfl ((bL.2 ⟨dv,s.ae [3,3,0,0,0]⟩).ae [1,1,1,0])
 ·skip
  refine zt rfl (ah rfl rfl aV) (by simp; exact he) ?_
  exact zk 7 rfl (WP.ret (hq _ _ _ _ _ _ (.app he) rfl ((bL.2 ⟨dv,s.ae [3,3,0,0,0]⟩).ae [1,1,1,0])))
theorem KP (hT:W told){lo:Nat}(s:Sat h (cC a p q r .cK eo aC::cj r p q ε.1::bh q p ε.2.1::aG p ε.2.2::X::S))(hX:cU X (cY x data))(I:oB ε)(FL:lo<18446744073709551616)
 (hm:ε.1.aN.length≤1048576)(hk:∀n∈ε.1.aN.map (·.1),(Lit.int .i64 n).wf=true)(Ao:ε.2.1.b=ε.2.2.log)(hz:ε.2.1.base+ε.2.1.b.length+1048584≤1099511627776):
  Call ⟨Tryz.prog,told⟩ 25 [.ptr a 0,.int .u64 (lo:Int),x] h fun v h'=>∃e ε' cP eE,Ii ε lo data eo aC e ε' cP eE∧v=.int .i64 e ∧
   Sat h' (cC a p q r .cK cP eE::cj r p q ε'.1::bh q p ε'.2.1::aG p ε'.2.2::X::S):=by
 have s0:=s
 have j5:=s.aL (k:=4) rfl hX
 obtain ⟨dv,s⟩:=bL.1 s
 refine Call.of_wp (hT.free _ rfl) Tryz.func25 rfl rfl (zK 5 rfl (WP.block (zK 4 rfl (zf rfl (uD _ _) (zl rfl (s.ld (k:=0) rfl Hf rfl) (zh rfl (ah rfl rfl (Gp uQ)) (rfl) (zk 6 rfl (zo rfl (bf rfl rfl rfl (bj aS j5)) ?_))))))))
 by_cases hb:4096<data.length
 ·skip
  refine zt rfl (ah rfl rfl ep) (by simp; omega) ?_
  exact zk 7 rfl (WP.ret ⟨aa,_,rfl,2,ε,_,_,.WW hb,rfl,s0⟩)
 ·have pR:data.length≤4096:=by omega
  refine zh rfl (ah rfl rfl ep) (by simp; omega) ?_
  refine zk 7 rfl (zf rfl (qA _ _) (zl rfl (s.ld (k:=0) rfl jL rfl) (zc rfl (xC hT (s.ae [4])) ?_)))
  rintro v h ⟨rfl,rfl⟩
  refine zk 2 rfl ?_
  cases hd:ε.2.2.dead with
  | true =>
   exact zK 5 rfl (WP.ret ⟨aa,_,rfl,9,ε,_,_,.dead pR hd,rfl,s0⟩)
  | false =>
   refine zj rfl (WP.skip (zg rfl (zk 2 rfl (zf rfl (lM _ _) (zl rfl (by exact s.ld (k:=0) rfl nF rfl) ?_)))))
   refine zc rfl (oh hT (s.ae [3]) I.lg.size) ?_
   rintro v h ⟨rfl,rfl⟩
   refine zk 7 rfl (zf rfl (oN _ _) (zl rfl (s.ld (k:=0) rfl vF rfl) (zc rfl (QW hT (s.ae [2]) hm hk) ?_)))
   intro av h s
   have hl:(aF ε.1.aN).length=ε.1.aN.length:=by rw [aF,(eG _).length_eq,eu]
   refine zo rfl (bf rfl rfl rfl (s.iP (n:=(aF ε.1.aN).length) (j:=0) rfl (by rw [Ad]) (by decide) Ab)) ?_
   refine zk 2 rfl (WP.block ?_)
   refine Uu hT (ks:=aF ε.1.aN) (by omega) (aF ε.1.aN).length 0 (ε.2.1.base+ε.2.1.b.length) _ _ _ (by omega) s ⟨rfl,rfl,rfl,rfl,rfl,rfl,rfl,aa⟩ (fun E' h' J s' => ?_)
   rw [d_] at J
   have J:Has E' [(0,.ptr a 0),(1,.int .u64 (lo:Int)),(2,x),(7,.int .u64 (fZ ε:Nat))]:=J
   have s:=s'.del 0
   have uM:fZ ε<18446744073709551616:=by
    have:=ES ε.1 (aF ε.1.aN) (ε.2.1.base+ε.2.1.b.length)
    have:=I.lg.size
    unfold fZ; omega
   refine WP.has J (zw ?_)
   have U:=WU (data:=data) I Ao hz
   have s:=s.zI
   have s0:=s
   have BA:=dc j5
   refine WP.drawn [some (0,3),some (0,3),some (0,3),some (0,3),none,none,some (0,2),ai,ai,ai,ai,ai,ai,ai,ai] rfl (by kernel_rfl) (by kernel_rfl) ?_
   refine zM rfl (zN rfl (zF rfl (lM _ _) (zL rfl (s.ld (k:=2) rfl nF rfl) (zM rfl (aA.any rfl rfl rfl rfl (OpR.call rfl rfl rfl rfl (wK (z:=8) hT s (by decide) (by simp))) ?_)))))
   intro v1 h s
   rw [cW] at s
   have s1:=s
   obtain ⟨lw,Ij⟩:∃lw,lw=le 8 (fZ ε):=⟨_,rfl⟩
   have acu:lw.length=8:=by rw [Ij,cR]
   have eck:m4 ε data=bq ε.2 8 0 0 0 (lw++data) []:=by rw [Ij]; rfl
   rw [←Ij] at s
   refine zM rfl (aA.any rfl rfl rfl rfl (OpR.oX rfl (s.ae [0,5]) hX rfl rfl rfl rfl (by omega)) ?_)
   intro v2 h s
   obtain ⟨vi,vo,vc,rfl⟩:=kN (s.buf (k:=0) rfl).view (by simp only [bC]; omega)
   have s2:=s
   refine zO rfl (c8 rfl (by rw [xq]; rfl)) ?_
   have s:Sat h (.arr 4 .bz []::cZ [] []::_):=(s.gB (φ:=True) aa).qC
   refine aA.any rfl rfl rfl rfl (OpR.call rfl rfl rfl rfl (HK (kd:=8) (tx:=0) (pv:=0) (nx:=0) (ch:=.bz) hT (s.ae [7,7,2,0,0]) (bM _ _) ⟨by simp [wN],by decide,by decide,by decide,by simp; omega⟩ I.lg I.dk)) ?_
   rintro v h ⟨rfl,s⟩
   rw [show bq (ε.2.1,ε.2.2) 8 0 0 0 (lw++data) []=m4 ε data from eck.symm] at s ⊢
   obtain ⟨y1,wP⟩:∃y1,y1=m4 ε data:=⟨_,rfl⟩
   rw [←wP] at s U ⊢
   refine zM rfl (zO rfl (cA rfl rfl) (zO rfl (cA rfl rfl) (zA rfl (zA rfl ?_))))
   refine aA.nil ⟨⟨fun _ _=>.inr ⟨rfl,⟨_,bn rfl⟩,aX _ rfl⟩,fun _ _=>.inr ⟨rfl,⟨_,kq rfl⟩,aX _ rfl⟩,fun _ _=>.inr ⟨rfl,⟨_,jI rfl (lM _ _)⟩,aX _ rfl⟩,wE (.inr ⟨rfl,⟨_,aW rfl (s0.ld (k:=2) rfl nF rfl)⟩,aX _ rfl⟩) (.inr ⟨rfl,⟨_,aW rfl (s1.ld (k:=2) rfl nF rfl)⟩,aX _ rfl⟩) (.inr ⟨rfl,⟨_,aW rfl (s2.ld (k:=3) rfl nF rfl)⟩,aX _ rfl⟩),aa,aa,fun _ _=>.inr ⟨rfl,⟨_,bn rfl⟩,BA⟩,aa,aa,aa,aa,aa,aa,aa,aa,aa⟩,?_⟩
   have s:=((s.del 4).del 3).del 2
   have s:=(bL.2 ⟨dv,s.ae [4,4]⟩).ae [1,1,1,0]
   refine Uv hT hX pR s U.1 U.2.1 U.2.2 uM FL ⟨rfl,rfl,rfl,rfl,rfl,rfl,aa⟩ (fun e y' cP eE E' h' hc l6 s2 => ?_)
   subst wP
   exact ⟨aa,_,qy l6,e,(ε.1,y'),cP,eE,.go e y' cP eE pR hd hc,rfl,s2.ae [3,3,0,0,0]⟩
end
theorem OY : ∃i,Tryz.prog.info? 4=some i∧i.size=1∧i.bytes=1 :=
 ⟨_,(show Tryz.prog.info? 4=some ((Tryz.prog.info? 4).getD default) by kernel_rfl),by kernel_rfl,by kernel_rfl⟩
theorem Uw : ∀n:Nat,repeatL [V.bool false] n=qV (List.replicate n false):=by
 intro n
 induction n with
 | zero=>rfl
 | succ n I=>simp only [repeatL,I,qV,tC,bI]; rfl
theorem YK {P:Program}{h:H}{t:TypeId}{x y:Operand}{n:Nat}(I:n<72057594037927936): binV P h .shl t x y (.int .u64 (n:Int)) (.int .u64 8)=some (.int .u64 ((n*256:Nat):Int)):=by
 simp only [binV,shiftV,IntKind.bits]
 rw [show min ((8:Int).toNat) 64=8 from rfl,show decide ((8:Int)<0)=false from rfl,ay]
 have:(n:Int)*2^8=((n*256:Nat):Int):=by rw [show (2:Int)^8=256 from rfl]; omega
 rw [this,wrap_u64 (by omega)]
theorem aa1 {P:Program}{h:H}{t:TypeId}{x y:Operand}{a d:Nat}(ha:a<72057594037927936)(hd:d<256): binV P h .or t x y (.int .u64 ((a*256:Nat):Int)) (.int .u64 (d:Int))=some (.int .u64 ((d+256*a:Nat):Int)):=by
 have I:(((a*256:Nat):Int)%(2^(IntKind.u64).bits:Int)).toNat=a*256:=by simp only [IntKind.bits]; omega
 have J:((d:Int)%(2^(IntKind.u64).bits:Int)).toNat=d:=by simp only [IntKind.bits]; omega
 have U:Nat.lor (a*256) d=d+256*a:=by
  have:=DN (i:=8) (b:=d) (by omega) a
  rw [show a*256=2^8*a by omega,tO]
  exact this.symm
 simp only [binV,ikBeq,ag,intV,bitsV,I,J,U]
 rw [wrap_u64 (by omega)]
section
variable {told:dM} {h:H} {S:List ax} {X:ax} {k:Nat} {v:V} {l:List Nat}
noncomputable def g1L : Code:=cM [1,1,0,1,0,0] ((Tryz.f155.body).getD .skip)
theorem OZ {a z:Nat}(J:View h v l)(hz:z≤7)(hl:a+z≤l.length)(kx:l.length≤65536): ∀(i:Nat) (E:List (Nat×V)) (Q:Ex→List (Nat×V)→H→Prop),i≤z →
  Has E [(0,v),(1,.int .i64 (a:Int)),(7,.int .u64 (leN ((l.take (a+z)).drop (a+i)):Nat)),(8,.int .i64 ((i:Int)-1))]→(∀E',look E' 7=some (.int .u64 (dY l a z:Nat))→Q (.exit 0) E' h)→WP ⟨Tryz.prog,told⟩ 26 (.loop g1L) E h Q:=by
 intro i
 induction i with
 | zero =>
  intro E Q hi I U
  refine WP.loop (WP.has I (zK 4 rfl (zh rfl (ah rfl rfl nC) (by simp <;> omega) ?_)))
  exact zk 2 rfl (WP.exit (U _ rfl))
 | succ i ih =>
  intro E Q hi I U
  have hb:l[a+i]?=some (l[a+i]'(by omega)):=bg _
  generalize Cz:(l[a+i]'(by omega))=b at hb
  have pR:b<256:=J.1 b (bw hb)
  obtain ⟨id,off,e1,e2⟩:=iq J hb
  have ed:(l.take (a+z)).drop (a+i)=b::(l.take (a+z)).drop (a+(i+1)):=by
   have h1:a+i<(l.take (a+z)).length:=by rw [dP]; omega
   rw [lq h1,List.getElem_take,Cz]; rfl
  have bV:=zX ((l.take (a+z)).drop (a+(i+1))) (fun x hx=>J.1 x (gH (iC hx)))
  have hlen:((l.take (a+z)).drop (a+(i+1))).length≤6:=by simp; omega
  have hp:=pF (n:=256) (by omega) hlen
  have e3:((i+1:Nat):Int)-1=(i:Int):=by omega
  have e4:(a:Int)+(i:Int)=((a+i:Nat):Int):=by omega
  rw [e3] at I
  refine WP.loop (WP.has I (zK 4 rfl (zt rfl (ah rfl rfl nC) (by simp <;> omega) ?_)))
  refine zk 4 rfl (WP.block (zK 2 rfl (zb rfl (YK (by omega)) ?_)))
  refine zk 3 rfl (zb rfl (by exact bU (aY (by omega) (by omega))) ?_)
  rw [e4]
  refine zo rfl (ej (r:=.ptr id off) rfl rfl e1) (zl rfl e2 (zo rfl (bZ rfl (by exact jJ Tryz.underlying5 cx (fb (by omega) (by omega)))) ?_))
  refine zb rfl (aa1 (by omega) pR) ?_
  refine za rfl (zv (zr rfl (zm rfl (zb rfl (by exact lV (aY (by omega) (by omega))) ?_))))
  refine za rfl (zv ?_)
  refine ih _ Q (by omega) ?_ U
  rw [ed,leN]
  exact ⟨rfl,rfl,rfl,rfl,aa⟩
theorem Ux (U:W told){a z:Nat}(s:Sat h S)(hk:getA S k=some X)(hX:cU X (cY v l))(hz:z≤7)(hl:a+z≤l.length)(I:l.length≤65536):
  Call ⟨Tryz.prog,told⟩ 155 [v,.int .i64 (a:Int),.int .i64 (z:Int)] h fun r h'=>r=.int .u64 (dY l a z:Nat)∧h'=h:=by
 have hv:=s.aL hk hX
 refine Call.of_wp (U.free _ rfl) Tryz.func155 rfl rfl (zK 12 rfl (zb rfl (by exact lV (aY (by omega) (by omega))) ?_))
 refine zk 2 rfl (WP.block ?_)
 refine OZ (a:=a) (z:=z) hv hz hl I z _ _ (aI _) ⟨rfl,rfl,?_,rfl,aa⟩ (fun E' J => ?_)
 ·rw [show (l.take (a+z)).drop (a+z)=[] by rw [List.drop_eq_nil_iff,dP]; omega]
  rfl
 exact WP.has (F:=[(7,.int .u64 (dY l a z:Nat))]) ⟨J,aa⟩ (zK 5 rfl (WP.ret ⟨aa,_,rfl,rfl,rfl⟩))
theorem Be (J:W told){a z:Nat}(s:Sat h S)(U:getA S k=some X)(hX:cU X (cY v l))(hz:z≤7)(hl:a+z≤l.length)(I:l.length≤65536):
  Call ⟨Tryz.prog,told⟩ 134 [v,.int .i64 (a:Int),.int .i64 (z:Int)] h fun r h'=>r=.int .i64 (dY l a z:Nat)∧h'=h:=by
 have hv:=s.aL U hX
 have bV:=qE (l:=l) (a:=a) (z:=z) hv.1
 have hp:=pF (n:=256) (by omega) hz
 refine Call.of_wp (J.free _ rfl) Tryz.func134 rfl rfl (zK 9 rfl (zc rfl (Ux J s U hX hz hl I) ?_))
 rintro r h' ⟨rfl,rfl⟩
 refine zo rfl (bZ rfl (by exact jJ cx bG (aY (by omega) (by omega)))) ?_
 exact zk 2 rfl (WP.ret ⟨aa,_,rfl,rfl,rfl⟩)
theorem O0 (I:W told)(s:Sat h S)(J:getA S k=some X)(U:cU X (cY v l))(hl:l.length=512):
  Call ⟨Tryz.prog,told⟩ 114 [v] h fun r h'=>r=.int .i64 (ku l:Nat)∧h'=h:=by
 refine Call.of_wp (I.free _ rfl) Tryz.func114 rfl rfl (zK 7 rfl (zc rfl (Be (a:=14) (z:=2) I s J U (by decide) (by omega) (by omega)) ?_))
 rintro r h' ⟨rfl,rfl⟩
 exact zk 2 rfl (WP.ret ⟨aa,_,rfl,rfl,rfl⟩)
theorem Uy (I:W told)(s:Sat h S)(J:getA S k=some X)(U:cU X (cY v l))(hl:l.length=512):
  Call ⟨Tryz.prog,told⟩ 115 [v] h fun r h'=>r=.int .i64 (iK l:Nat)∧h'=h:=by
 refine Call.of_wp (I.free _ rfl) Tryz.func115 rfl rfl (zK 7 rfl (zc rfl (Be (a:=16) (z:=2) I s J U (by decide) (by omega) (by omega)) ?_))
 rintro r h' ⟨rfl,rfl⟩
 exact zk 2 rfl (WP.ret ⟨aa,_,rfl,rfl,rfl⟩)
theorem Rj (I:W told){i:Nat}(s:Sat h S)(J:getA S k=some X)(U:cU X (cY v l))(hl:l.length=512)(hi:30+4*i≤512):
  Call ⟨Tryz.prog,told⟩ 116 [v,.int .i64 (i:Int)] h fun r h'=>r=.bE [.int .i64 (jC l i:Nat),.int .i64 (mg l i:Nat)]∧h'=h:=by
 have e1:26+4*(i:Int)=((26+4*i:Nat):Int):=by omega
 have e2:28+4*(i:Int)=((26+4*i+2:Nat):Int):=by omega
 refine Call.of_wp (I.free _ rfl) Tryz.func116 rfl rfl (zK 9 rfl (zb rfl (by exact BX (aY (by omega) (by omega))) ?_))
 refine zb rfl (by exact bU (aY (by omega) (by omega))) ?_
 rw [e1]
 refine zc rfl (Be (a:=26+4*i) (z:=2) I s J U (by decide) (by omega) (by omega)) ?_
 rintro r h' ⟨rfl,rfl⟩
 refine zk 2 rfl (zb rfl (by exact BX (aY (by omega) (by omega))) ?_)
 refine zb rfl (by exact bU (aY (by omega) (by omega))) ?_
 rw [e2]
 refine zc rfl (Be (a:=26+4*i+2) (z:=2) I s J U (by decide) (by omega) (by omega)) ?_
 rintro r h' ⟨rfl,rfl⟩
 exact zk 3 rfl (WP.ret ⟨aa,_,rfl,rfl,rfl⟩)
noncomputable def aa2 : Code:=cM [1,1,1,1,1,1,0,1,0,0] ((Tryz.f72.body).getD .skip)
noncomputable def aa3 : Code:=cM [1,1,1,1,1,1,0,1,0,0,1,0,0,1,1,1,0,0] ((Tryz.f72.body).getD .skip)
theorem JC {id a z:Nat}{v0 v3 v4 v6:V}(haz:a+z≤512): ∀(m q:Nat) (t:List Bool) (h:H) (E:List (Nat×V)) (Q:Ex→List (Nat×V)→H→Prop),q+m=a+z→t.length=512 →
  Sat h (pt id (.cells 512 (qV t) false)::S)→Has E [(0,v0),(3,v3),(4,v4),(5,.sl id 0 512 (.exact 512)),(6,v6),(7,.int .i64 (a:Int)),(8,.int .i64 (z:Int)),(9,.int .i64 (q:Int))] →
  (markL m q t=none→∀E' h',look E' 2=some (.bool false)→Sat h' S→Q .ret E' h') →
  (∀t' E' h',markL m q t=some t'→Has E' [(0,v0),(3,v3),(4,v4),(5,.sl id 0 512 (.exact 512)),(6,v6)]→Sat h' (pt id (.cells 512 (qV t') false)::S)→Q (.exit 2) E' h') →
  WP ⟨Tryz.prog,told⟩ 68 (.loop aa3) E h Q:=by
 intro m
 induction m with
 | zero =>
  intro q t h E Q hq ht s hE U hx
  refine WP.loop (WP.has hE (zK 6 rfl (zb rfl (by exact bU (aY (by omega) (by omega))) ?_)))
  refine zh rfl (ah rfl rfl bB) (by simp; omega) ?_
  exact zk 2 rfl (WP.exit (hx t _ _ rfl ⟨rfl,rfl,rfl,rfl,rfl,aa⟩ s))
 | succ m ih =>
  intro q t h E Q hq ht s hE U hx
  have I:q<t.length:=by omega
  have J:indexAddrV Tryz.prog 186 (.sl id 0 512 (.exact 512)) (.int .i64 (q:Int))=some (.ptr id q):=by
   rw [Yo,show (decide ((0:Int)≤(q:Int))&&decide ((q:Int)<((512:Nat):Int)))=true by simp; omega,ag]; simp
  refine WP.loop (WP.has hE (zK 6 rfl (zb rfl (by exact bU (aY (by omega) (by omega))) ?_)))
  refine zt rfl (ah rfl rfl bB) (by simp; omega) ?_
  refine zk 4 rfl (WP.block (zK 5 rfl (zo rfl (ej (r:=.ptr id q) rfl rfl J) ?_)))
  cases hm:t.getD q false with
  | true =>
   refine zt rfl (aW rfl (s.ld (k:=0) rfl ke (Bb I))) (hm) (zk 6 rfl (WP.ret ?_))
   refine U ?_ _ _ rfl s.drop
   rw [markL,aj hm]
  | false =>
   refine zh rfl (aW rfl (s.ld (k:=0) rfl ke (Bb I))) (hm) (zk 6 rfl (zo rfl (ej (r:=.ptr id q) rfl rfl J) (zS rfl (s.ee (k:=0) rfl yq (by simp [qV,ht]) (by omega) rfl rfl) ?_)))
   intro h s
   dsimp only [setA] at s
   rw [Kt] at s
   refine zv (zr rfl (zm rfl (zb rfl (by exact bU (aY (by omega) (by omega))) ?_)))
   refine za rfl (zv ?_)
   have e:markL (m+1) q t=markL m (q+1) (t.set q true):=by rw [markL,af (by rw [hm]; decide)]
   rw [e] at U hx
   exact ih (q+1) (t.set q true) h _ Q (by omega) (by simp [ht]) s ⟨rfl,rfl,rfl,rfl,rfl,rfl,rfl,rfl,aa⟩ U hx
theorem JD (hT:W told){id:Nat}{n low:Nat}{x:V}(hX:cU X (cY x l))(hl:l.length=512)(bV:∀b∈l,b<256)(hn:n=ku l)(uM:26+4*n≤low)(YB:low≤512): ∀(m i:Nat) (t:List Bool) (h:H) (E:List (Nat×V)) (Q:Ex→List (Nat×V)→H→Prop),i+m=n→t.length=512 →
  Sat h (pt id (.cells 512 (qV t) false)::X::S)→Has E [(0,x),(3,.int .i64 (n:Int)),(4,.int .i64 (low:Int)),(5,.sl id 0 512 (.exact 512)),(6,.int .i64 (i:Int))] →
  (cellsL l low m i t=false→∀E' h',look E' 2=some (.bool false)→Sat h' (X::S)→Q .ret E' h') →
  (cellsL l low m i t=true→∀E' h',Sat h' (X::S)→Q (.exit 0) E' h') →
  WP ⟨Tryz.prog,told⟩ 68 (.loop aa2) E h Q:=by
 intro m
 induction m with
 | zero =>
  intro i t h E Q hi ht s hE J hx
  refine WP.loop (WP.has hE (zK 5 rfl (zh rfl (ah rfl rfl bB) (by simp; omega) ?_)))
  exact zk 2 rfl (WP.exit (hx rfl _ _ s.drop))
 | succ m ih =>
  intro i t h E Q hi ht s hE J hx
  have hf:=qE (l:=l) (a:=26+4*i) (z:=2) bV
  have hz:=qE (l:=l) (a:=26+4*i+2) (z:=2) bV
  have ef:jC l i=dY l (26+4*i) 2:=rfl
  have ez:mg l i=dY l (26+4*i+2) 2:=rfl
  refine WP.loop (WP.has hE (zK 5 rfl (zt rfl (ah rfl rfl bB) (by simp; omega) ?_)))
  refine zk 4 rfl (WP.block (zK 4 rfl (zc rfl (Rj (i:=i) hT s (k:=1) rfl hX hl (by omega)) ?_)))
  rintro r h' ⟨rfl,rfl⟩
  refine zk 11 rfl ?_
  refine zd rfl (ah rfl rfl bB) ?_ ?_
  ·intro U
   have U:jC l i<low:=by simp at U; omega
   refine zk 12 rfl (WP.ret ?_)
   refine J ?_ _ _ rfl s.drop
   rw [cellsL,aj (.inl U)]
  ·intro U
   have U:low≤jC l i:=by simp at U; omega
   refine zk 3 rfl (zb rfl (by exact bU (aY (by omega) (by omega))) ?_)
   refine zd rfl (ah rfl rfl ep) ?_ ?_
   ·intro I
    have I:512<jC l i+mg l i:=by simp at I; omega
    refine zk 7 rfl (WP.ret ?_)
    refine J ?_ _ _ rfl s.drop
    rw [cellsL,aj (.inr I)]
   ·intro I
    have I:jC l i+mg l i≤512:=by simp at I; omega
    refine zk 9 rfl (WP.block ?_)
    have e:cellsL l low (m+1) i t=(match markL (mg l i) (jC l i) t with | none=>false | some t'=>cellsL l low m (i+1) t'):=by rw [cellsL,af (by omega)]; rfl
    rw [e] at J hx
    refine JC I (mg l i) (jC l i) t _ _ _ rfl ht s ⟨rfl,rfl,rfl,rfl,rfl,rfl,rfl,rfl,aa⟩ (fun hm E' h' h2 s' => ?_) (fun t' E' h' hm iH s' => ?_)
    ·rw [hm] at J
     exact J rfl _ _ h2 s'
    ·rw [hm] at J hx
     refine WP.has iH (zK 2 rfl (zb rfl (by exact bU (aY (by omega) (by omega))) ?_))
     refine za rfl (zv ?_)
     exact ih (i+1) t' _ _ Q (by omega) (by rw [Fz _ _ _ _ hm,ht]) s' ⟨rfl,rfl,rfl,rfl,rfl,aa⟩ J hx
theorem Ik (hT:W told)(s:Sat h (X::S))(hX:cU X (cY v l)):
  Call ⟨Tryz.prog,told⟩ 72 [v] h fun r h'=>r=.bool (bT l)∧Sat h' (X::S):=by
 have hv:=s.aL (k:=0) rfl hX
 refine Call.of_wp (hT.free _ rfl) Tryz.func72 rfl rfl (zK 8 rfl (zo rfl (bf rfl rfl rfl (bj aS hv)) ?_))
 refine zd rfl (ah rfl rfl aV) ?_ ?_
 ·intro hq
  have hq:l.length≠512:=by simp at hq; omega
  exact zk 12 rfl (WP.ret ⟨aa,_,rfl,by rw [bT,ew hq,fh],s⟩)
 ·intro hq
  have hq:l.length=512:=by simp at hq; omega
  have hb:l[13]?=some (l[13]'(by omega)):=bg _
  generalize Cz:(l[13]'(by omega))=b at hb
  have nq:l.getD 13 0=b:=by rw [kD,hb]; rfl
  obtain ⟨id,off,e1,e2⟩:=iq hv hb
  refine zk 2 rfl (zo rfl (ej (r:=.ptr id off) rfl rfl e1) (zl rfl e2 ?_))
  refine zd rfl (ah rfl rfl aV) ?_ ?_
  ·intro I
   have I:b≠0:=by simp at I; omega
   exact zk 7 rfl (WP.ret ⟨aa,_,rfl,by rw [bT,dQ hq,nq,ew I,fh,mu],s⟩)
  ·intro I
   have I:b=0:=by simp at I; omega
   refine zk 7 rfl (zc rfl (O0 hT s (k:=0) rfl hX hq) ?_)
   rintro r h' ⟨rfl,rfl⟩
   refine zk 5 rfl (zc rfl (Uy hT s (k:=0) rfl hX hq) ?_)
   rintro r h' ⟨rfl,rfl⟩
   have yj:=qE (l:=l) (a:=14) (z:=2) hv.1
   have sQ:=qE (l:=l) (a:=16) (z:=2) hv.1
   have ec:ku l=dY l 14 2:=rfl
   have el:iK l=dY l 16 2:=rfl
   refine zk 6 rfl (zb rfl (by exact BX (aY (by omega) (by omega))) ?_)
   refine zb rfl (by exact bU (aY (by omega) (by omega))) ?_
   refine zm rfl ?_
   refine zd rfl (ah rfl rfl ep) ?_ ?_
   ·intro J
    have J:iK l<26+4*ku l:=by simp at J; omega
    exact zk 10 rfl (WP.ret ⟨aa,_,rfl,by rw [bT,dQ hq,nq,dQ I,ew (by omega:¬(26+4*ku l≤iK l∧iK l≤512))]; rfl,s⟩)
   ·intro J
    have J:26+4*ku l≤iK l:=by simp at J; omega
    refine zk 2 rfl ?_
    refine zd rfl (ah rfl rfl ep) ?_ ?_
    ·intro U
     have U:512<iK l:=by simp at U; omega
     exact zk 7 rfl (WP.ret ⟨aa,_,rfl,by rw [bT,dQ hq,nq,dQ I,ew (by omega:¬(26+4*ku l≤iK l∧iK l≤512))]; rfl,s⟩)
    ·intro U
     have U:iK l≤512:=by simp at U; omega
     obtain ⟨i1,lZ,kf,sR⟩:=OY
     obtain ⟨id,h1,e1,s1⟩:=zJ (P:=Tryz.prog) s Tryz.underlying186 lZ Zy kf (by omega) rfl (by decide) (n:=512) (by decide)
     refine zk 6 rfl (aB.any rfl rfl rfl (OpR.of (R:=fun v h'=>v=.sl id 0 512 (.exact 512)∧h'=h1) (rY rfl rfl e1) ⟨rfl,rfl⟩) ?_)
     rintro v h ⟨rfl,rfl⟩
     rw [dW,show (V.bool false).cells=[V.bool false] from rfl,Uw] at s1
     have s:=s1
     refine zk 7 rfl (WP.block ?_)
     have Z1:bT l=cellsL l (iK l) (ku l) 0 (List.replicate 512 false):=by rw [bT,dQ hq,nq,dQ I,dQ ⟨J,U⟩]; rfl
     refine JD hT (n:=ku l) (low:=iK l) hX hq hv.1 rfl J U (ku l) 0 (List.replicate 512 false) _ _ _ (by omega) fE s ⟨rfl,rfl,rfl,rfl,rfl,aa⟩ (fun hc E' h' h2 s' => ?_) (fun hc E' h' s' => ?_)
     ·exact ⟨aa,_,qy h2,by rw [Z1,hc],s'⟩
     ·have s:=s'
      exact WP.has (F:=[]) aa (zK 4 rfl (WP.ret ⟨aa,_,rfl,by rw [Z1,hc],s⟩))
end
end Go.Proofs.YtconhghphklfjaaGreat.Am
