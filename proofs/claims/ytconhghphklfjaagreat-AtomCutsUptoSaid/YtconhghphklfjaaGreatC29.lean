/- AtomCuts: a part of its proof; conditions: its statement's. -/
import Derived.Test.YtconhghphklfjaaGreatC28
namespace Go.Proofs.YtconhghphklfjaaGreat.Am
open Go
section
variable {told:dH} {h:H} {S:List ax} {X Y:ax} {r k q p bX a g aC:Nat} {op v x u wh di:V} {l b cR data dF:List Nat} {μ:Lg} {δ:Dk}
theorem Wl (hT:W told){n:Nat}(s:Sat h (bf q p μ::aD p δ::S))(J:μ.Ok)(tj:δ.Ok)(hn:n<18446744073709551616):
  Call ⟨Tryz.prog,told⟩ 71 [.ptr q 0,.int .u64 (n:Int)] h fun v h'=>v=.int .i64 (gL (μ,δ) n).1∧Sat h' (bf q p (gL (μ,δ) n).2.1::aD p (gL (μ,δ) n).2.2::S):=by
 have U:=s
 have xo:=J.size
 have T2:=J.forced
 obtain ⟨bv,sv,s⟩:=dc.1 s
 refine Call.of_wp (hT.free _ rfl) Tryz.func71 rfl rfl (zK 9 rfl ?_)
 have rest:¬((n≠μ.base+μ.b.length∧μ.hasB n=false)∨μ.base+μ.forced<n∨(μ.check≠0∧μ.check<n))→μ.base≤n→∀E:List (Nat×V),Has E [(0,.ptr q 0),(1,.int .u64 (n:Int))] →
   WP ⟨Tryz.prog,told⟩ 121 Zl E h fun ex E' h'=>(match ex with | .exit _=>False | _=>True)∧∃v,ju Tryz.prog E' h' [.tmp 4]=some v∧(v=.int .i64 (gL (μ,δ) n).1∧Sat h' (bf q p (gL (μ,δ) n).2.1::aD p (gL (μ,δ) n).2.2::S)):=by
  intro I hle E hE
  refine QX hT U J tj hle (by omega) hE (fun E' h' h1 h2 s' => ?_) (fun E' h' h1 h2 s' => ?_)
  ·rw [gL,af I,aj h1]
   exact ⟨aa,_,oK h2,rfl,s'⟩
  ·rw [gL,af I,af (by simpa using h1)]
   exact ⟨aa,_,oK h2,rfl,s'⟩
 refine zc rfl (nV hT U J.size) ?_
 rintro v h' ⟨rfl,rfl⟩
 by_cases he:n=μ.base+μ.b.length
 ·skip
  refine zh rfl (ah rfl rfl aX) (by simp; omega) ?_
  refine zk 9 rfl (zc rfl (th hT U J.size J.forced) ?_)
  rintro v h' ⟨rfl,rfl⟩
  by_cases hf:μ.base+μ.forced<n
  ·skip
   refine zt rfl (ah rfl rfl dR) (by simp; omega) ?_
   refine zk 22 rfl (WP.ret ⟨aa,_,rfl,?_⟩)
   rw [gL,aj (.inr (.inl hf))]
   exact ⟨rfl,U⟩
  ·skip
   refine zh rfl (ah rfl rfl dR) (by simp; omega) ?_
   refine zk 4 rfl (zf rfl (pM _ _) (zl rfl (s.ld (k:=0) rfl gj rfl) ?_))
   by_cases hc:μ.check=0
   ·skip
    refine zh rfl (ah rfl rfl aX) (by simp; omega) ?_
    refine zk 11 rfl ?_
    have I:¬((n≠μ.base+μ.b.length∧μ.hasB n=false)∨μ.base+μ.forced<n∨(μ.check≠0∧μ.check<n)):=by omega
    exact WP.skip (rest I (by omega) _ ⟨rfl,rfl,aa⟩)
   ·skip
    refine zt rfl (ah rfl rfl aX) (by simp; omega) ?_
    refine zk 4 rfl (zf rfl (pM _ _) (zl rfl (s.ld (k:=0) rfl gj rfl) ?_))
    by_cases Wm:μ.check<n
    ·skip
     refine zt rfl (ah rfl rfl dR) (by simp; omega) ?_
     refine zk 8 rfl (WP.ret ⟨aa,_,rfl,?_⟩)
     rw [gL,aj (.inr (.inr ⟨hc,Wm⟩))]
     exact ⟨rfl,U⟩
    ·skip
     refine zh rfl (ah rfl rfl dR) (by simp; omega) ?_
     refine zk 4 rfl ?_
     have I:¬((n≠μ.base+μ.b.length∧μ.hasB n=false)∨μ.base+μ.forced<n∨(μ.check≠0∧μ.check<n)):=by omega
     exact WP.skip (rest I (by omega) _ ⟨rfl,rfl,aa⟩)
 ·skip
  refine zt rfl (ah rfl rfl aX) (by simp; omega) ?_
  refine zk 3 rfl (zc rfl (AN (n:=n) hT U J hn) ?_)
  rintro v h' ⟨rfl,rfl⟩
  cases hh:μ.hasB n with
  | false =>
   refine zo rfl (dX rfl rfl) (zk 28 rfl (WP.ret ⟨aa,_,rfl,?_⟩))
   rw [gL,aj (.inl ⟨he,hh⟩)]
   exact ⟨rfl,U⟩
  | true =>
   refine zo rfl (dX rfl rfl) (zk 4 rfl (zc rfl (th hT U J.size J.forced) ?_))
   rintro v h' ⟨rfl,rfl⟩
   by_cases hf:μ.base+μ.forced<n
   ·skip
    refine zt rfl (ah rfl rfl dR) (by simp; omega) ?_
    refine zk 22 rfl (WP.ret ⟨aa,_,rfl,?_⟩)
    rw [gL,aj (.inr (.inl hf))]
    exact ⟨rfl,U⟩
   ·skip
    refine zh rfl (ah rfl rfl dR) (by simp; omega) ?_
    refine zk 4 rfl (zf rfl (pM _ _) (zl rfl (s.ld (k:=0) rfl gj rfl) ?_))
    by_cases hc:μ.check=0
    ·skip
     refine zh rfl (ah rfl rfl aX) (by simp; omega) ?_
     refine zk 11 rfl ?_
     have I:¬((n≠μ.base+μ.b.length∧μ.hasB n=false)∨μ.base+μ.forced<n∨(μ.check≠0∧μ.check<n)):=by simp [hh]; omega
     exact WP.skip (rest I (EA hh) _ ⟨rfl,rfl,aa⟩)
    ·skip
     refine zt rfl (ah rfl rfl aX) (by simp; omega) ?_
     refine zk 4 rfl (zf rfl (pM _ _) (zl rfl (s.ld (k:=0) rfl gj rfl) ?_))
     by_cases Wm:μ.check<n
     ·skip
      refine zt rfl (ah rfl rfl dR) (by simp; omega) ?_
      refine zk 8 rfl (WP.ret ⟨aa,_,rfl,?_⟩)
      rw [gL,aj (.inr (.inr ⟨hc,Wm⟩))]
      exact ⟨rfl,U⟩
     ·skip
      refine zh rfl (ah rfl rfl dR) (by simp; omega) ?_
      refine zk 4 rfl ?_
      have I:¬((n≠μ.base+μ.b.length∧μ.hasB n=false)∨μ.base+μ.forced<n∨(μ.check≠0∧μ.check<n)):=by simp [hh]; omega
      exact WP.skip (rest I (EA hh) _ ⟨rfl,rfl,aa⟩)
end
def L0 (π:Pl): List Int→Nat→Nat
 | [],m=>m
 | n::l,m=>L0 π l (min m (dW π n 0))
theorem Ky (π:Pl): ∀(l:List Int) (m:Nat),L0 π l m≤m:=by
 intro l
 induction l with
 | nil=>intro m; exact aK _
 | cons n l I=>intro m; exact cL (I _) (Nat.min_le_left _ _)
theorem OA (π:Pl): ∀ {l:List Int} {i:Nat} {n:Int},l[i]?=some n→((dirtC π l).drop (i*2)).take 2=[.int .i64 n,.int .u64 (dW π n 0:Nat)]:=by
 intro l
 induction l with
 | nil=>intro i n h; simp at h
 | cons x l I =>
  intro i n h
  cases i with
  | zero=>simp at h; subst h; rfl
  | succ i =>
   rw [kn] at h
   rw [show (i+1)*2=i*2+2 by omega]
   exact I h
section
variable {told:dH} {h:H} {S:List ax} {X Y:ax} {r k q p bX a g aC:Nat} {op v x u wh di:V} {l b cR data dF:List Nat} {now:List (Int×List Nat)} {b_:Bool} {ε:aM} {μ:Lg} {δ:Dk} {π:Pl}
noncomputable def ckL : Code:=cK [1,1,1,0,1,0,0] ((Tryz.f25.body).getD .skip)
theorem T3 (hT:W told){ks:List Int}{av t1 t2:V}(N_:ks.length≤1048576): ∀(j i:Nat) (low:Nat) (h:H) (E:List (Nat×V)) (Q:Ex→List (Nat×V)→H→Prop),i+j=ks.length →
  Sat h (.arr 2 av (dirtC π ks)::S)→Has E [(0,.ptr a 0),(1,t1),(2,t2),(7,.int .u64 (low:Int)),(40,av),(41,.int .i64 ks.length),(42,.int .i64 i)] →
  (∀E' h',Has E' [(0,.ptr a 0),(1,t1),(2,t2),(7,.int .u64 (L0 π (ks.drop i) low:Nat))]→Sat h' (.arr 2 av (dirtC π ks)::S)→Q (.exit 1) E' h') →
  WP ⟨Tryz.prog,told⟩ 118 (.loop ckL) E h Q:=by
 intro j
 induction j with
 | zero =>
  intro i low h E Q hi s hE J
  refine WP.loop (WP.has hE (zg rfl (zh rfl (ah rfl rfl bu) (by simp <;> omega) ?_)))
  refine zk 3 rfl (WP.exit ?_)
  rw [iu (by omega)] at J
  exact J _ _ ⟨rfl,rfl,rfl,rfl,aa⟩ s
 | succ j ih =>
  intro i low h E Q hi s hE J
  have hn:ks[i]?=some (ks[i]'(by omega)):=bh _
  have I:ks.drop i=ks[i]'(by omega)::ks.drop (i+1):=kR (by omega)
  generalize (ks[i]'(by omega))=n at hn I
  rw [I] at J
  have U:=OA π hn
  obtain ⟨id,off,g1,g2⟩:=G5 (P:=Tryz.prog) (i:=i) s (j:=0) rfl (by rw [zu]; omega) (by decide) y9 Ls
  have g2:=g2 Xy
  rw [U] at g2
  have P_:min (low:Int) ((dW π n 0:Nat):Int)=((min low (dW π n 0):Nat):Int):=by omega
  refine WP.loop (WP.has hE (zg rfl (zt rfl (ah rfl rfl bu) (by simp <;> omega) ?_)))
  refine zk 5 rfl (WP.block (zg rfl (zo rfl (dY (r:=.ptr id off) rfl rfl g1) (zl rfl g2 ?_))))
  refine aB.cQ s rfl rfl rfl (cC F5) (fun p9 h s => ?_)
  dsimp only [V.cells,List.length_cons,List.length_nil,Nat.reduceAdd] at s
  refine zS rfl (s.g9 (j:=0) rfl Ls rfl rfl) (fun h s => ?_)
  dsimp only [setA] at s
  refine zk 3 rfl (zf rfl (To _ _) (zl rfl (s.ld (k:=0) rfl gj rfl) (zo rfl (Qa rfl rfl VM) ?_)))
  rw [P_]
  refine za rfl (zv (zr rfl (zb rfl (by exact bQ (aU (by omega) (by omega))) ?_)))
  refine zm rfl (zv ?_)
  exact ih (i+1) _ _ _ Q (by omega) (s.del 0) ⟨rfl,rfl,rfl,rfl,rfl,rfl,rfl,aa⟩ J
end
theorem Dd {x:LD}{n:Nat}(h:x.1.Ok)(I:x.2.Ok)(U:n≤1099511627776): (gU x n).2.1.Ok∧(gU x n).2.2.Ok:=by
 have J:(x.2.nW (ew x.1.base n)).2.Ok:=by
  unfold Dk.nW
  split
  ·exact I
  ·split
   ·exact I
   ·split
    ·exact I.die
    ·exact ⟨I.c_.aF,I.len,I.room,I.now,I.aq,I.aL,I.many⟩
 unfold gU
 split
 ·exact ⟨h,I⟩
 ·split
  ·exact ⟨h,J⟩
  ·exact ⟨⟨h.size,h.many,h.low,h.xm,h.forced,h.len,U⟩,J⟩
def gR (ε:aM): Nat:=L0 ε.1 (aJ ε.1.aN) (ε.2.1.base+ε.2.1.b.length)
def mE (ε:aM)(data:List Nat): (Nat×Int)×LD:=bp ε.2 8 0 0 0 (le 8 (gR ε)++data) []
theorem Wn {ε:aM}{data:List Nat}(I:oP ε)(J:ε.2.1.b=ε.2.2.log)(U:ε.2.1.base+ε.2.1.b.length+1048584≤1099511627776): (mE ε data).2.1.Ok∧(mE ε data).2.2.Ok∧(mE ε data).1.1<1099511627776:=by
 have h:=vD (x:=ε.2) (kd:=8) (tx:=0) (pv:=0) (nx:=0) (data:=le 8 (gR ε)++data) (c:=[]) I.lg I.dk J U
 exact ⟨h.1,h.2.1,h.2.2.2.2.2.2⟩
def wD (ε:aM)(lo:Nat): Nat:=if lo=0 then gR ε else min (gR ε) lo
def kN (y:(Nat×Int)×LD): Int×LD:=bC y.2 y.1.1
def gv (y:(Nat×Int)×LD): Int×LD:=gU (kN y).2 y.1.1
theorem Kz {y:(Nat×Int)×LD}(h:y.2.1.Ok): (kN y).2.1.Ok:=by
 rw [kN]; exact rU h
theorem KA {y:(Nat×Int)×LD}(h:y.2.2.Ok): (kN y).2.2.Ok:=by
 rw [kN]; exact nX h
theorem Wo {y:(Nat×Int)×LD}(h:y.2.1.Ok)(I:y.2.2.Ok)(J:y.1.1<1099511627776): (gv y).2.1.Ok∧(gv y).2.2.Ok:=by
 rw [gv]; exact Dd (Kz h) (KA I) (An J)
inductive De (y:(Nat×Int)×LD)(kp:Nat)(data dF:List Nat)(aC:Nat): Int→LD→List Nat→Nat→Prop
 | app:y.1.2≠0→De y kp data dF aC y.1.2 y.2 dF aC
 | force:y.1.2=0→(kN y).1≠0→De y kp data dF aC (kN y).1 (kN y).2 dF aC
 | check:y.1.2=0→(kN y).1=0→(gv y).1≠0→De y kp data dF aC (gv y).1 (gv y).2 dF aC
 | cut (t:Nat):y.1.2=0→(kN y).1=0→(gv y).1=0 →
   ((t=(gv y).2.1.base+(gv y).2.1.b.length∧(gv y).2.1.base+(gv y).2.1.b.length≤kp)∨((gv y).2.1.hasB t=true∧t≤kp)∨t=(gv y).2.1.base) →
   (gv y).2.1.base<t→((gv y).2.1.hasB kp=true→kp<(gv y).2.1.base+(gv y).2.1.b.length→t=kp)→De y kp data dF aC (gL (gv y).2 t).1 (gL (gv y).2 t).2 data y.1.1
 | cG:y.1.2=0→(kN y).1=0→(gv y).1=0→((gv y).2.1.hasB kp=true→kp<(gv y).2.1.base+(gv y).2.1.b.length→kp≤(gv y).2.1.base)→De y kp data dF aC 0 (gv y).2 data y.1.1
inductive Bp (ε:aM)(lo:Nat)(data dF:List Nat)(aC:Nat): Int→aM→List Nat→Nat→Prop
 | OB:4096<data.length→Bp ε lo data dF aC 2 ε dF aC
 | dead:data.length≤4096→ε.2.2.dead=true→Bp ε lo data dF aC 9 ε dF aC
 | go (e:Int) (y:LD) (iN:List Nat) (j_:Nat):data.length≤4096→ε.2.2.dead=false→De (mE ε data) (wD ε lo) data dF aC e y iN j_→Bp ε lo data dF aC e (ε.1,y) iN j_
section
variable {told:dH} {h:H} {S:List ax} {X Y:ax} {r k q p bX a g aC:Nat} {op v x u wh di:V} {l b cR data dF:List Nat} {ε:aM}
noncomputable def Zm : Code:=cK [1,1,1,1,1,1,1,1,1,1] ((Tryz.f25.body).getD .skip)
theorem Wp (I:W told){lw:Nat}{w:V}{aI:Nat}{y:LD}(s:Sat h (bf q p y.1::aD p y.2::pt a (.cells 6 (qy a p q r .cF w aI) false)::S))(J:y.1.Ok)(h2:y.2.Ok)(U:lw<18446744073709551616){E:List (Nat×V)}(hE:Has E [(0,.ptr a 0),(7,.int .u64 (lw:Int))]){Q:Ex→List (Nat×V)→H→Prop}
 (q1:∀t E' h',((t=y.1.base+y.1.b.length∧y.1.base+y.1.b.length≤lw)∨(y.1.hasB t=true∧t≤lw)∨t=y.1.base)→y.1.base<t→(y.1.hasB lw=true→lw<y.1.base+y.1.b.length→t=lw)→look E' 6=some (.int .i64 (gL y t).1) →
   Sat h' (bf q p (gL y t).2.1::aD p (gL y t).2.2::pt a (.cells 6 (qy a p q r .cF w aI) false)::S)→Q .ret E' h')
 (q2:∀E' h',(y.1.hasB lw=true→lw<y.1.base+y.1.b.length→lw≤y.1.base)→look E' 6=some (.int .i64 0)→Sat h' (bf q p y.1::aD p y.2::pt a (.cells 6 (qy a p q r .cF w aI) false)::S)→Q .ret E' h'):
  WP ⟨Tryz.prog,told⟩ 118 Zm E h Q:=by
 have abS:=J.size
 refine WP.has hE (zK 5 rfl (zf rfl (lq _ _) (zl rfl (s.ld (k:=2) rfl nu rfl) (zm rfl (zc rfl (NQ (n:=lw) I s J U) ?_)))))
 rintro v _ ⟨rfl,t,rfl,hr,hx⟩
 refine zk 7 rfl (zf rfl (lq _ _) (zl rfl (s.ld (k:=2) rfl nu rfl) (zc rfl (vf I s) ?_)))
 rintro v h ⟨rfl,rfl⟩
 by_cases hg:y.1.base<t
 ·skip
  refine zt rfl (ah rfl rfl dR) (by simp; exact hg) ?_
  refine zk 6 rfl (zf rfl (lq _ _) (zl rfl (s.ld (k:=2) rfl nu rfl) (zm rfl (zc rfl (Wl (n:=t) I s J h2 (by rcases hr with ⟨rfl,_⟩ | ⟨_,hr⟩ | rfl <;> omega)) ?_))))
  rintro v h ⟨rfl,s⟩
  exact zk 2 rfl (WP.ret (q1 t _ _ hr hg hx rfl s))
 ·skip
  refine zh rfl (ah rfl rfl dR) (by simp; exact Nat.not_lt.1 hg) ?_
  exact zk 7 rfl (WP.ret (q2 _ _ (fun a b=>by have:=hx a b; omega) rfl s))
noncomputable def aaB : Code:=cK [1,1,1,1,1] ((Tryz.f25.body).getD .skip)
theorem T4 (hT:W told){low lo:Nat}{y:(Nat×Int)×LD}(iY:cT X (cU x data))(qg:data.length≤4096)(s:Sat h (bf q p y.2.1::aD p y.2.2::X::cu a p q r .cF dF aC::S))(h1:y.2.1.Ok)(h2:y.2.2.Ok)(h3:y.1.1<1099511627776)(sE:low<18446744073709551616)(OC:lo<18446744073709551616)
 {E:List (Nat×V)}(hE:Has E [(0,.ptr a 0),(1,.int .u64 (lo:Int)),(2,x),(7,.int .u64 (low:Int)),(10,.int .u64 (y.1.1:Int)),(11,.int .i64 y.1.2)]){Q:Ex→List (Nat×V)→H→Prop}
 (hq:∀e y' iN j_ E' h',De y (if lo=0 then low else min low lo) data dF aC e y' iN j_→look E' 6=some (.int .i64 e)→Sat h' (bf q p y'.1::aD p y'.2::X::cu a p q r .cF iN j_::S)→Q .ret E' h'):
  WP ⟨Tryz.prog,told⟩ 118 aaB E h Q:=by
 have Wq:=Kz h1
 have Ws:=KA h2
 have kQ:=Wo h1 h2 h3
 obtain ⟨dv,s⟩:=bM.1 (s.ae [3])
 have s:=s.ae [2,2,2,0,0]
 obtain ⟨y2,I⟩:∃y2,y2=kN y:=⟨_,rfl⟩
 obtain ⟨y3,J⟩:∃y3,y3=gv y:=⟨_,rfl⟩
 have ey2:bC (y.2.1,y.2.2) y.1.1=y2:=by rw [I,kN]
 have ey3:gU (y2.2.1,y2.2.2) y.1.1=y3:=by rw [I,J,gv]
 rw [←I] at Wq Ws
 rw [←J] at kQ
 refine WP.has hE (zK 4 rfl ?_)
 by_cases he:y.1.2=0
 ·skip
  refine zh rfl (ah rfl rfl aX) (by simp; exact he) ?_
  refine zk 8 rfl (zf rfl (lq _ _) (zl rfl (s.ld (k:=3) rfl nu rfl) (zm rfl (zc rfl (Er hT s h1 h2.aF) ?_))))
  rw [ey2]
  rintro v h ⟨rfl,s⟩
  refine zk 5 rfl ?_
  by_cases U:y2.1=0
  ·skip
   refine zh rfl (ah rfl rfl aX) (by simp; exact U) ?_
   refine zk 8 rfl (zf rfl (lq _ _) (zl rfl (s.ld (k:=3) rfl nu rfl) (zm rfl (zc rfl (TI hT s Wq Ws.aF (Al h3 (by decide))) ?_))))
   rw [ey3]
   rintro v h ⟨rfl,s⟩
   refine zk 5 rfl ?_
   by_cases HM:y3.1=0
   ·skip
    refine zh rfl (ah rfl rfl aX) (by simp; exact HM) ?_
    refine zk 8 rfl (zc rfl (j6 hT (s.ae [2]) iY (by omega)) ?_)
    intro w h s
    have hw:=(s.buf (k:=0) rfl).view.cells
    have s:=s.fJ
    refine zk 2 rfl (zf rfl (GZ _ _) (zS rfl (s.dQ (k:=4) rfl jl rfl (by decide) hw.1 hw.2) ?_))
    intro h s
    refine zn rfl (zf rfl (CI _ _) ?_)
    refine zS rfl (by exact s.dQ (k:=4) rfl rq rfl (by decide) rfl rfl) (fun h s => ?_)
    refine zk 5 rfl ?_
    have s:=s.ae [2,2,2,0,0]
    have rest:∀lw E,lw=(if lo=0 then low else min low lo)→lw<18446744073709551616→Has E [(0,.ptr a 0),(7,.int .u64 (lw:Int))]→WP ⟨Tryz.prog,told⟩ 118 Zm E h Q:=by
     intro lw E Wt bS hE
     refine Wp hT s kQ.1 kQ.2 bS hE (fun t E' h' hr hg hx l6 s => ?_) (fun E' h' hx l6 s => ?_)
     ·subst Wt I J
      exact hq _ _ _ _ E' h' (.cut t he U HM hr hg hx) l6 ((bM.2 ⟨w,(s.ae [2,2,0,0,0]).del 5⟩).ae [1,1,1,0])
     ·subst Wt I J
      exact hq _ _ _ _ E' h' (.cG he U HM hx) l6 ((bM.2 ⟨w,(s.ae [2,2,0,0,0]).del 5⟩).ae [1,1,1,0])
    by_cases h0:lo=0
    ·skip
     refine zh rfl (ah rfl rfl aX) (by simp; omega) ?_
     exact zk 2 rfl (WP.skip (rest low _ (by rw [aj h0]) sE ⟨rfl,rfl,aa⟩))
    ·skip
     refine zt rfl (ah rfl rfl aX) (by simp; omega) ?_
     refine zk 5 rfl (zo rfl (Qa rfl rfl VM) ?_)
     have Wu:min (low:Int) (lo:Int)=((min low lo:Nat):Int):=by omega
     rw [Wu]
     exact zk 2 rfl (rest (min low lo) _ (by rw [af h0]) (by omega) ⟨rfl,rfl,aa⟩)
   ·skip
    refine zt rfl (ah rfl rfl aX) (by simp; exact HM) ?_
    refine zk 7 rfl (WP.ret ?_)
    subst I J
    exact hq _ _ _ _ _ _ (.check he U HM) rfl ((bM.2 ⟨dv,s.ae [3,3,0,0,0]⟩).ae [1,1,1,0])
  ·skip
   refine zt rfl (ah rfl rfl aX) (by simp; exact U) ?_
   refine zk 7 rfl (WP.ret ?_)
   subst I J
   exact hq _ _ _ _ _ _ (.force he U) rfl ((bM.2 ⟨dv,s.ae [3,3,0,0,0]⟩).ae [1,1,1,0])
 ·skip
  refine zt rfl (ah rfl rfl aX) (by simp; exact he) ?_
  exact zk 7 rfl (WP.ret (hq _ _ _ _ _ _ (.app he) rfl ((bM.2 ⟨dv,s.ae [3,3,0,0,0]⟩).ae [1,1,1,0])))
theorem KB (hT:W told){lo:Nat}(s:Sat h (cu a p q r .cF dF aC::b8 r p q ε.1::bf q p ε.2.1::aD p ε.2.2::X::S))(hX:cT X (cU x data))(U:oP ε)(OC:lo<18446744073709551616)
 (hm:ε.1.aN.length≤1048576)(hk:∀n∈ε.1.aN.map (·.1),(Lit.int .i64 n).wf=true)(zP:ε.2.1.b=ε.2.2.log)(hz:ε.2.1.base+ε.2.1.b.length+1048584≤1099511627776):
  Call ⟨Tryz.prog,told⟩ 25 [.ptr a 0,.int .u64 (lo:Int),x] h fun v h'=>∃e ε' I J,Bp ε lo data dF aC e ε' I J∧v=.int .i64 e ∧
   Sat h' (cu a p q r .cF I J::b8 r p q ε'.1::bf q p ε'.2.1::aD p ε'.2.2::X::S):=by
 have s0:=s
 have iY:=s.aG (k:=4) rfl hX
 obtain ⟨dv,s⟩:=bM.1 s
 refine Call.of_wp (hT.free _ rfl) Tryz.func25 rfl rfl (zK 5 rfl (WP.block (zK 4 rfl (zf rfl (uy _ _) (zl rfl (s.ld (k:=0) rfl GV rfl) (zh rfl (ah rfl rfl (F8 uL)) (rfl) (zk 6 rfl (zo rfl (a_ rfl rfl rfl (bg aS iY)) ?_))))))))
 by_cases hb:4096<data.length
 ·skip
  refine zt rfl (ah rfl rfl dR) (by simp; omega) ?_
  exact zk 7 rfl (WP.ret ⟨aa,_,rfl,2,ε,_,_,.OB hb,rfl,s0⟩)
 ·have qg:data.length≤4096:=by omega
  refine zh rfl (ah rfl rfl dR) (by simp; omega) ?_
  refine zk 7 rfl (zf rfl (r8 _ _) (zl rfl (s.ld (k:=0) rfl jR rfl) (zc rfl (xh hT (s.ae [4])) ?_)))
  rintro v h ⟨rfl,rfl⟩
  refine zk 2 rfl ?_
  cases hd:ε.2.2.dead with
  | true =>
   exact zK 5 rfl (WP.ret ⟨aa,_,rfl,9,ε,_,_,.dead qg hd,rfl,s0⟩)
  | false =>
   refine zj rfl (WP.skip (zg rfl (zk 2 rfl (zf rfl (lq _ _) (zl rfl (by exact s.ld (k:=0) rfl nu rfl) ?_)))))
   refine zc rfl (nV hT (s.ae [3]) U.lg.size) ?_
   rintro v h ⟨rfl,rfl⟩
   refine zk 7 rfl (zf rfl (ox _ _) (zl rfl (s.ld (k:=0) rfl vz rfl) (zc rfl (Qz hT (s.ae [2]) hm hk) ?_)))
   intro av h s
   have hl:(aJ ε.1.aN).length=ε.1.aN.length:=by rw [aJ,(eB _).length_eq,en]
   refine zo rfl (a_ rfl rfl rfl (s.iK (n:=(aJ ε.1.aN).length) (j:=0) rfl (by rw [zu]) (by decide) y9)) ?_
   refine zk 2 rfl (WP.block ?_)
   refine T3 hT (ks:=aJ ε.1.aN) (by omega) (aJ ε.1.aN).length 0 (ε.2.1.base+ε.2.1.b.length) _ _ _ (by omega) s ⟨rfl,rfl,rfl,rfl,rfl,rfl,rfl,aa⟩ (fun E' h' gu s' => ?_)
   rw [dS] at gu
   have gu:Has E' [(0,.ptr a 0),(1,.int .u64 (lo:Int)),(2,x),(7,.int .u64 (gR ε:Nat))]:=gu
   have s:=s'.del 0
   have sE:gR ε<18446744073709551616:=by
    have:=Ky ε.1 (aJ ε.1.aN) (ε.2.1.base+ε.2.1.b.length)
    have:=U.lg.size
    unfold gR; omega
   refine WP.has gu (zw ?_)
   have SD:=Wn (data:=data) U zP hz
   have s:=s.yQ
   have s0:=s
   have Bb:=c8 iY
   refine WP.drawn [some (0,3),some (0,3),some (0,3),some (0,3),none,none,some (0,2),ai,ai,ai,ai,ai,ai,ai,ai] rfl (by kernel_rfl) (by kernel_rfl) ?_
   refine zM rfl (zN rfl (zF rfl (lq _ _) (zL rfl (s.ld (k:=2) rfl nu rfl) (zM rfl (aA.any rfl rfl rfl rfl (OpR.call rfl rfl rfl rfl (wu (z:=8) hT s (by decide) (by simp))) ?_)))))
   intro v1 h s
   rw [cW] at s
   have s1:=s
   obtain ⟨lw,HX⟩:∃lw,lw=le 8 (gR ε):=⟨_,rfl⟩
   have abT:lw.length=8:=by rw [HX,cX]
   have eck:mE ε data=bp ε.2 8 0 0 0 (lw++data) []:=by rw [HX]; rfl
   rw [←HX] at s
   refine zM rfl (aA.any rfl rfl rfl rfl (OpR.oL rfl (s.ae [0,5]) hX rfl rfl rfl rfl (by omega)) ?_)
   intro v2 h s
   obtain ⟨vi,vo,vc,rfl⟩:=kC (s.buf (k:=0) rfl).view (by simp only [bA]; omega)
   have s2:=s
   refine zO rfl (c7 rfl (by rw [w5]; rfl)) ?_
   have s:Sat h (.arr 4 .bz []::cV [] []::_):=(s.gD (φ:=True) aa).qq
   refine aA.any rfl rfl rfl rfl (OpR.call rfl rfl rfl rfl (Hu (kd:=8) (tx:=0) (pv:=0) (nx:=0) (ch:=.bz) hT (s.ae [7,7,2,0,0]) (bE _ _) ⟨by simp [wB],by decide,by decide,by decide,by simp; omega⟩ U.lg U.dk)) ?_
   rintro v h ⟨rfl,s⟩
   rw [show bp (ε.2.1,ε.2.2) 8 0 0 0 (lw++data) []=mE ε data from eck.symm] at s ⊢
   obtain ⟨y1,yc⟩:∃y1,y1=mE ε data:=⟨_,rfl⟩
   rw [←yc] at s SD ⊢
   refine zM rfl (zO rfl (cy rfl rfl) (zO rfl (cy rfl rfl) (zA rfl (zA rfl ?_))))
   refine aA.nil ⟨⟨fun _ _=>.inr ⟨rfl,⟨_,bk rfl⟩,aW _ rfl⟩,fun _ _=>.inr ⟨rfl,⟨_,j5 rfl⟩,aW _ rfl⟩,fun _ _=>.inr ⟨rfl,⟨_,jE rfl (lq _ _)⟩,aW _ rfl⟩,wj (.inr ⟨rfl,⟨_,aV rfl (s0.ld (k:=2) rfl nu rfl)⟩,aW _ rfl⟩) (.inr ⟨rfl,⟨_,aV rfl (s1.ld (k:=2) rfl nu rfl)⟩,aW _ rfl⟩) (.inr ⟨rfl,⟨_,aV rfl (s2.ld (k:=3) rfl nu rfl)⟩,aW _ rfl⟩),aa,aa,fun _ _=>.inr ⟨rfl,⟨_,bk rfl⟩,Bb⟩,aa,aa,aa,aa,aa,aa,aa,aa,aa⟩,?_⟩
   have s:=((s.del 4).del 3).del 2
   have s:=(bM.2 ⟨dv,s.ae [4,4]⟩).ae [1,1,1,0]
   refine T4 hT hX qg s SD.1 SD.2.1 SD.2.2 sE OC ⟨rfl,rfl,rfl,rfl,rfl,rfl,aa⟩ (fun e y' I J E' h' hc l6 s2 => ?_)
   subst yc
   exact ⟨aa,_,oK l6,e,(ε.1,y'),I,J,.go e y' I J qg hd hc,rfl,s2.ae [3,3,0,0,0]⟩
end
theorem OD : ∃i,Tryz.prog.info? 4=some i∧i.size=1∧i.bytes=1 :=
 ⟨_,(show Tryz.prog.info? 4=some ((Tryz.prog.info? 4).getD default) by kernel_rfl),by kernel_rfl,by kernel_rfl⟩
theorem T5 : ∀n:Nat,repeatL [V.bool false] n=qJ (List.replicate n false):=by
 intro n
 induction n with
 | zero=>rfl
 | succ n I=>simp only [repeatL,I,qJ,tw,bJ]; rfl
theorem X6 {P:Program}{h:H}{t:TypeId}{x y:Operand}{n:Nat}(I:n<72057594037927936): binV P h .shl t x y (.int .u64 (n:Int)) (.int .u64 8)=some (.int .u64 ((n*256:Nat):Int)):=by
 simp only [binV,shiftV,IntKind.bits]
 rw [show min ((8:Int).toNat) 64=8 from rfl,show decide ((8:Int)<0)=false from rfl,az]
 have:(n:Int)*2^8=((n*256:Nat):Int):=by rw [show (2:Int)^8=256 from rfl]; omega
 rw [this,wrap_u64 (by omega)]
theorem aaC {P:Program}{h:H}{t:TypeId}{x y:Operand}{a d:Nat}(ha:a<72057594037927936)(hd:d<256): binV P h .or t x y (.int .u64 ((a*256:Nat):Int)) (.int .u64 (d:Int))=some (.int .u64 ((d+256*a:Nat):Int)):=by
 have I:(((a*256:Nat):Int)%(2^(IntKind.u64).bits:Int)).toNat=a*256:=by simp only [IntKind.bits]; omega
 have J:((d:Int)%(2^(IntKind.u64).bits:Int)).toNat=d:=by simp only [IntKind.bits]; omega
 have U:Nat.lor (a*256) d=d+256*a:=by
  have:=Dx (i:=8) (b:=d) (by omega) a
  rw [show a*256=2^8*a by omega,tN]
  exact this.symm
 simp only [binV,ikBeq,ag,intV,bitsV,I,J,U]
 rw [wrap_u64 (by omega)]
section
variable {told:dH} {h:H} {S:List ax} {X:ax} {k:Nat} {v:V} {l:List Nat}
noncomputable def g1L : Code:=cK [1,1,0,1,0,0] ((Tryz.f155.body).getD .skip)
theorem OE {a z:Nat}(J:View h v l)(hz:z≤7)(hl:a+z≤l.length)(lI:l.length≤65536): ∀(i:Nat) (E:List (Nat×V)) (Q:Ex→List (Nat×V)→H→Prop),i≤z →
  Has E [(0,v),(1,.int .i64 (a:Int)),(7,.int .u64 (leN ((l.take (a+z)).drop (a+i)):Nat)),(8,.int .i64 ((i:Int)-1))]→(∀E',look E' 7=some (.int .u64 (eR l a z:Nat))→Q (.exit 0) E' h)→WP ⟨Tryz.prog,told⟩ 26 (.loop g1L) E h Q:=by
 intro i
 induction i with
 | zero =>
  intro E Q hi I U
  refine WP.loop (WP.has I (zK 4 rfl (zh rfl (ah rfl rfl nq) (by simp <;> omega) ?_)))
  exact zk 2 rfl (WP.exit (U _ rfl))
 | succ i ih =>
  intro E Q hi I U
  have hb:l[a+i]?=some (l[a+i]'(by omega)):=bh _
  generalize Ce:(l[a+i]'(by omega))=b at hb
  have qg:b<256:=J.1 b (br hb)
  obtain ⟨id,off,e1,e2⟩:=ie J hb
  have ed:(l.take (a+z)).drop (a+i)=b::(l.take (a+z)).drop (a+(i+1)):=by
   have h1:a+i<(l.take (a+z)).length:=by rw [dI]; omega
   rw [kR h1,List.getElem_take,Ce]; rfl
  have bS:=yZ ((l.take (a+z)).drop (a+(i+1))) (fun x hx=>J.1 x (gz (iw hx)))
  have hlen:((l.take (a+z)).drop (a+(i+1))).length≤6:=by simp; omega
  have hp:=oX (n:=256) (by omega) hlen
  have e3:((i+1:Nat):Int)-1=(i:Int):=by omega
  have e4:(a:Int)+(i:Int)=((a+i:Nat):Int):=by omega
  rw [e3] at I
  refine WP.loop (WP.has I (zK 4 rfl (zt rfl (ah rfl rfl nq) (by simp <;> omega) ?_)))
  refine zk 4 rfl (WP.block (zK 2 rfl (zb rfl (X6 (by omega)) ?_)))
  refine zk 3 rfl (zb rfl (by exact bQ (aU (by omega) (by omega))) ?_)
  rw [e4]
  refine zo rfl (dY (r:=.ptr id off) rfl rfl e1) (zl rfl e2 (zo rfl (bV rfl (by exact jF Tryz.underlying5 cq (eW (by omega) (by omega)))) ?_))
  refine zb rfl (aaC (by omega) qg) ?_
  refine za rfl (zv (zr rfl (zm rfl (zb rfl (by exact lG (aU (by omega) (by omega))) ?_))))
  refine za rfl (zv ?_)
  refine ih _ Q (by omega) ?_ U
  rw [ed,leN]
  exact ⟨rfl,rfl,rfl,rfl,aa⟩
theorem T6 (U:W told){a z:Nat}(s:Sat h S)(hk:getA S k=some X)(hX:cT X (cU v l))(hz:z≤7)(hl:a+z≤l.length)(I:l.length≤65536):
  Call ⟨Tryz.prog,told⟩ 155 [v,.int .i64 (a:Int),.int .i64 (z:Int)] h fun r h'=>r=.int .u64 (eR l a z:Nat)∧h'=h:=by
 have hv:=s.aG hk hX
 refine Call.of_wp (U.free _ rfl) Tryz.func155 rfl rfl (zK 12 rfl (zb rfl (by exact lG (aU (by omega) (by omega))) ?_))
 refine zk 2 rfl (WP.block ?_)
 refine OE (a:=a) (z:=z) hv hz hl I z _ _ (aK _) ⟨rfl,rfl,?_,rfl,aa⟩ (fun E' J => ?_)
 ·rw [show (l.take (a+z)).drop (a+z)=[] by rw [List.drop_eq_nil_iff,dI]; omega]
  rfl
 exact WP.has (F:=[(7,.int .u64 (eR l a z:Nat))]) ⟨J,aa⟩ (zK 5 rfl (WP.ret ⟨aa,_,rfl,rfl,rfl⟩))
theorem AP (J:W told){a z:Nat}(s:Sat h S)(U:getA S k=some X)(hX:cT X (cU v l))(hz:z≤7)(hl:a+z≤l.length)(I:l.length≤65536):
  Call ⟨Tryz.prog,told⟩ 134 [v,.int .i64 (a:Int),.int .i64 (z:Int)] h fun r h'=>r=.int .i64 (eR l a z:Nat)∧h'=h:=by
 have hv:=s.aG U hX
 have bS:=qv (l:=l) (a:=a) (z:=z) hv.1
 have hp:=oX (n:=256) (by omega) hz
 refine Call.of_wp (J.free _ rfl) Tryz.func134 rfl rfl (zK 9 rfl (zc rfl (T6 J s U hX hz hl I) ?_))
 rintro r h' ⟨rfl,rfl⟩
 refine zo rfl (bV rfl (by exact jF cq bF (aU (by omega) (by omega)))) ?_
 exact zk 2 rfl (WP.ret ⟨aa,_,rfl,rfl,rfl⟩)
theorem OF (I:W told)(s:Sat h S)(J:getA S k=some X)(U:cT X (cU v l))(hl:l.length=512):
  Call ⟨Tryz.prog,told⟩ 114 [v] h fun r h'=>r=.int .i64 (j7 l:Nat)∧h'=h:=by
 refine Call.of_wp (I.free _ rfl) Tryz.func114 rfl rfl (zK 7 rfl (zc rfl (AP (a:=14) (z:=2) I s J U (by decide) (by omega) (by omega)) ?_))
 rintro r h' ⟨rfl,rfl⟩
 exact zk 2 rfl (WP.ret ⟨aa,_,rfl,rfl,rfl⟩)
theorem T7 (I:W told)(s:Sat h S)(J:getA S k=some X)(U:cT X (cU v l))(hl:l.length=512):
  Call ⟨Tryz.prog,told⟩ 115 [v] h fun r h'=>r=.int .i64 (iF l:Nat)∧h'=h:=by
 refine Call.of_wp (I.free _ rfl) Tryz.func115 rfl rfl (zK 7 rfl (zc rfl (AP (a:=16) (z:=2) I s J U (by decide) (by omega) (by omega)) ?_))
 rintro r h' ⟨rfl,rfl⟩
 exact zk 2 rfl (WP.ret ⟨aa,_,rfl,rfl,rfl⟩)
theorem QY (I:W told){i:Nat}(s:Sat h S)(J:getA S k=some X)(U:cT X (cU v l))(hl:l.length=512)(hi:30+4*i≤512):
  Call ⟨Tryz.prog,told⟩ 116 [v,.int .i64 (i:Int)] h fun r h'=>r=.bD [.int .i64 (jy l i:Nat),.int .i64 (lS l i:Nat)]∧h'=h:=by
 have e1:26+4*(i:Int)=((26+4*i:Nat):Int):=by omega
 have e2:28+4*(i:Int)=((26+4*i+2:Nat):Int):=by omega
 refine Call.of_wp (I.free _ rfl) Tryz.func116 rfl rfl (zK 9 rfl (zb rfl (by exact BE (aU (by omega) (by omega))) ?_))
 refine zb rfl (by exact bQ (aU (by omega) (by omega))) ?_
 rw [e1]
 refine zc rfl (AP (a:=26+4*i) (z:=2) I s J U (by decide) (by omega) (by omega)) ?_
 rintro r h' ⟨rfl,rfl⟩
 refine zk 2 rfl (zb rfl (by exact BE (aU (by omega) (by omega))) ?_)
 refine zb rfl (by exact bQ (aU (by omega) (by omega))) ?_
 rw [e2]
 refine zc rfl (AP (a:=26+4*i+2) (z:=2) I s J U (by decide) (by omega) (by omega)) ?_
 rintro r h' ⟨rfl,rfl⟩
 exact zk 3 rfl (WP.ret ⟨aa,_,rfl,rfl,rfl⟩)
noncomputable def aaD : Code:=cK [1,1,1,1,1,1,0,1,0,0] ((Tryz.f72.body).getD .skip)
noncomputable def aaE : Code:=cK [1,1,1,1,1,1,0,1,0,0,1,0,0,1,1,1,0,0] ((Tryz.f72.body).getD .skip)
theorem Jq {id a z:Nat}{v0 v3 v4 v6:V}(haz:a+z≤512): ∀(m q:Nat) (t:List Bool) (h:H) (E:List (Nat×V)) (Q:Ex→List (Nat×V)→H→Prop),q+m=a+z→t.length=512 →
  Sat h (pt id (.cells 512 (qJ t) false)::S)→Has E [(0,v0),(3,v3),(4,v4),(5,.sl id 0 512 (.exact 512)),(6,v6),(7,.int .i64 (a:Int)),(8,.int .i64 (z:Int)),(9,.int .i64 (q:Int))] →
  (markL m q t=none→∀E' h',look E' 2=some (.bool false)→Sat h' S→Q .ret E' h') →
  (∀t' E' h',markL m q t=some t'→Has E' [(0,v0),(3,v3),(4,v4),(5,.sl id 0 512 (.exact 512)),(6,v6)]→Sat h' (pt id (.cells 512 (qJ t') false)::S)→Q (.exit 2) E' h') →
  WP ⟨Tryz.prog,told⟩ 68 (.loop aaE) E h Q:=by
 intro m
 induction m with
 | zero =>
  intro q t h E Q hq ht s hE U hx
  refine WP.loop (WP.has hE (zK 6 rfl (zb rfl (by exact bQ (aU (by omega) (by omega))) ?_)))
  refine zh rfl (ah rfl rfl bu) (by simp; omega) ?_
  exact zk 2 rfl (WP.exit (hx t _ _ rfl ⟨rfl,rfl,rfl,rfl,rfl,aa⟩ s))
 | succ m ih =>
  intro q t h E Q hq ht s hE U hx
  have I:q<t.length:=by omega
  have J:indexAddrV Tryz.prog 186 (.sl id 0 512 (.exact 512)) (.int .i64 (q:Int))=some (.ptr id q):=by
   rw [XJ,show (decide ((0:Int)≤(q:Int))&&decide ((q:Int)<((512:Nat):Int)))=true by simp; omega,ag]; simp
  refine WP.loop (WP.has hE (zK 6 rfl (zb rfl (by exact bQ (aU (by omega) (by omega))) ?_)))
  refine zt rfl (ah rfl rfl bu) (by simp; omega) ?_
  refine zk 4 rfl (WP.block (zK 5 rfl (zo rfl (dY (r:=.ptr id q) rfl rfl J) ?_)))
  cases hm:t.getD q false with
  | true =>
   refine zt rfl (aV rfl (s.ld (k:=0) rfl jW (AM I))) (hm) (zk 6 rfl (WP.ret ?_))
   refine U ?_ _ _ rfl s.drop
   rw [markL,aj hm]
  | false =>
   refine zh rfl (aV rfl (s.ld (k:=0) rfl jW (AM I))) (hm) (zk 6 rfl (zo rfl (dY (r:=.ptr id q) rfl rfl J) (zS rfl (s.dQ (k:=0) rfl x_ (by simp [qJ,ht]) (by omega) rfl rfl) ?_)))
   intro h s
   dsimp only [setA] at s
   rw [Kg] at s
   refine zv (zr rfl (zm rfl (zb rfl (by exact bQ (aU (by omega) (by omega))) ?_)))
   refine za rfl (zv ?_)
   have e:markL (m+1) q t=markL m (q+1) (t.set q true):=by rw [markL,af (by rw [hm]; decide)]
   rw [e] at U hx
   exact ih (q+1) (t.set q true) h _ Q (by omega) (by simp [ht]) s ⟨rfl,rfl,rfl,rfl,rfl,rfl,rfl,rfl,aa⟩ U hx
theorem Jr (hT:W told){id:Nat}{n low:Nat}{x:V}(hX:cT X (cU x l))(hl:l.length=512)(bS:∀b∈l,b<256)(hn:n=j7 l)(sE:26+4*n≤low)(XW:low≤512): ∀(m i:Nat) (t:List Bool) (h:H) (E:List (Nat×V)) (Q:Ex→List (Nat×V)→H→Prop),i+m=n→t.length=512 →
  Sat h (pt id (.cells 512 (qJ t) false)::X::S)→Has E [(0,x),(3,.int .i64 (n:Int)),(4,.int .i64 (low:Int)),(5,.sl id 0 512 (.exact 512)),(6,.int .i64 (i:Int))] →
  (cellsL l low m i t=false→∀E' h',look E' 2=some (.bool false)→Sat h' (X::S)→Q .ret E' h') →
  (cellsL l low m i t=true→∀E' h',Sat h' (X::S)→Q (.exit 0) E' h') →
  WP ⟨Tryz.prog,told⟩ 68 (.loop aaD) E h Q:=by
 intro m
 induction m with
 | zero =>
  intro i t h E Q hi ht s hE J hx
  refine WP.loop (WP.has hE (zK 5 rfl (zh rfl (ah rfl rfl bu) (by simp; omega) ?_)))
  exact zk 2 rfl (WP.exit (hx rfl _ _ s.drop))
 | succ m ih =>
  intro i t h E Q hi ht s hE J hx
  have hf:=qv (l:=l) (a:=26+4*i) (z:=2) bS
  have hz:=qv (l:=l) (a:=26+4*i+2) (z:=2) bS
  have ef:jy l i=eR l (26+4*i) 2:=rfl
  have ez:lS l i=eR l (26+4*i+2) 2:=rfl
  refine WP.loop (WP.has hE (zK 5 rfl (zt rfl (ah rfl rfl bu) (by simp; omega) ?_)))
  refine zk 4 rfl (WP.block (zK 4 rfl (zc rfl (QY (i:=i) hT s (k:=1) rfl hX hl (by omega)) ?_)))
  rintro r h' ⟨rfl,rfl⟩
  refine zk 11 rfl ?_
  refine zd rfl (ah rfl rfl bu) ?_ ?_
  ·intro U
   have U:jy l i<low:=by simp at U; omega
   refine zk 12 rfl (WP.ret ?_)
   refine J ?_ _ _ rfl s.drop
   rw [cellsL,aj (.inl U)]
  ·intro U
   have U:low≤jy l i:=by simp at U; omega
   refine zk 3 rfl (zb rfl (by exact bQ (aU (by omega) (by omega))) ?_)
   refine zd rfl (ah rfl rfl dR) ?_ ?_
   ·intro I
    have I:512<jy l i+lS l i:=by simp at I; omega
    refine zk 7 rfl (WP.ret ?_)
    refine J ?_ _ _ rfl s.drop
    rw [cellsL,aj (.inr I)]
   ·intro I
    have I:jy l i+lS l i≤512:=by simp at I; omega
    refine zk 9 rfl (WP.block ?_)
    have e:cellsL l low (m+1) i t=(match markL (lS l i) (jy l i) t with | none=>false | some t'=>cellsL l low m (i+1) t'):=by rw [cellsL,af (by omega)]; rfl
    rw [e] at J hx
    refine Jq I (lS l i) (jy l i) t _ _ _ rfl ht s ⟨rfl,rfl,rfl,rfl,rfl,rfl,rfl,rfl,aa⟩ (fun hm E' h' h2 s' => ?_) (fun t' E' h' hm gu s' => ?_)
    ·rw [hm] at J
     exact J rfl _ _ h2 s'
    ·rw [hm] at J hx
     refine WP.has gu (zK 2 rfl (zb rfl (by exact bQ (aU (by omega) (by omega))) ?_))
     refine za rfl (zv ?_)
     exact ih (i+1) t' _ _ Q (by omega) (by rw [Ff _ _ _ _ hm,ht]) s' ⟨rfl,rfl,rfl,rfl,rfl,aa⟩ J hx
theorem HY (hT:W told)(s:Sat h (X::S))(hX:cT X (cU v l)):
  Call ⟨Tryz.prog,told⟩ 72 [v] h fun r h'=>r=.bool (bU l)∧Sat h' (X::S):=by
 have hv:=s.aG (k:=0) rfl hX
 refine Call.of_wp (hT.free _ rfl) Tryz.func72 rfl rfl (zK 8 rfl (zo rfl (a_ rfl rfl rfl (bg aS hv)) ?_))
 refine zd rfl (ah rfl rfl aX) ?_ ?_
 ·intro hq
  have hq:l.length≠512:=by simp at hq; omega
  exact zk 12 rfl (WP.ret ⟨aa,_,rfl,by rw [bU,eE hq,e_],s⟩)
 ·intro hq
  have hq:l.length=512:=by simp at hq; omega
  have hb:l[13]?=some (l[13]'(by omega)):=bh _
  generalize Ce:(l[13]'(by omega))=b at hb
  have uI:l.getD 13 0=b:=by rw [ki,hb]; rfl
  obtain ⟨id,off,e1,e2⟩:=ie hv hb
  refine zk 2 rfl (zo rfl (dY (r:=.ptr id off) rfl rfl e1) (zl rfl e2 ?_))
  refine zd rfl (ah rfl rfl aX) ?_ ?_
  ·intro I
   have I:b≠0:=by simp at I; omega
   exact zk 7 rfl (WP.ret ⟨aa,_,rfl,by rw [bU,dM hq,uI,eE I,e_,lX],s⟩)
  ·intro I
   have I:b=0:=by simp at I; omega
   refine zk 7 rfl (zc rfl (OF hT s (k:=0) rfl hX hq) ?_)
   rintro r h' ⟨rfl,rfl⟩
   refine zk 5 rfl (zc rfl (T7 hT s (k:=0) rfl hX hq) ?_)
   rintro r h' ⟨rfl,rfl⟩
   have xU:=qv (l:=l) (a:=14) (z:=2) hv.1
   have sM:=qv (l:=l) (a:=16) (z:=2) hv.1
   have ec:j7 l=eR l 14 2:=rfl
   have el:iF l=eR l 16 2:=rfl
   refine zk 6 rfl (zb rfl (by exact BE (aU (by omega) (by omega))) ?_)
   refine zb rfl (by exact bQ (aU (by omega) (by omega))) ?_
   refine zm rfl ?_
   refine zd rfl (ah rfl rfl dR) ?_ ?_
   ·intro J
    have J:iF l<26+4*j7 l:=by simp at J; omega
    exact zk 10 rfl (WP.ret ⟨aa,_,rfl,by rw [bU,dM hq,uI,dM I,eE (by omega:¬(26+4*j7 l≤iF l∧iF l≤512))]; rfl,s⟩)
   ·intro J
    have J:26+4*j7 l≤iF l:=by simp at J; omega
    refine zk 2 rfl ?_
    refine zd rfl (ah rfl rfl dR) ?_ ?_
    ·intro U
     have U:512<iF l:=by simp at U; omega
     exact zk 7 rfl (WP.ret ⟨aa,_,rfl,by rw [bU,dM hq,uI,dM I,eE (by omega:¬(26+4*j7 l≤iF l∧iF l≤512))]; rfl,s⟩)
    ·intro U
     have U:iF l≤512:=by simp at U; omega
     obtain ⟨i1,lN,jX,sN⟩:=OD
     obtain ⟨id,h1,e1,s1⟩:=yR (P:=Tryz.prog) s Tryz.underlying186 lN YT jX (by omega) rfl (by decide) (n:=512) (by decide)
     refine zk 6 rfl (aB.any rfl rfl rfl (OpR.of (R:=fun v h'=>v=.sl id 0 512 (.exact 512)∧h'=h1) (rO rfl rfl e1) ⟨rfl,rfl⟩) ?_)
     rintro v h ⟨rfl,rfl⟩
     rw [dN,show (V.bool false).cells=[V.bool false] from rfl,T5] at s1
     have s:=s1
     refine zk 7 rfl (WP.block ?_)
     have Zn:bU l=cellsL l (iF l) (j7 l) 0 (List.replicate 512 false):=by rw [bU,dM hq,uI,dM I,dM ⟨J,U⟩]; rfl
     refine Jr hT (n:=j7 l) (low:=iF l) hX hq hv.1 rfl J U (j7 l) 0 (List.replicate 512 false) _ _ _ (by omega) fo s ⟨rfl,rfl,rfl,rfl,rfl,aa⟩ (fun hc E' h' h2 s' => ?_) (fun hc E' h' s' => ?_)
     ·exact ⟨aa,_,oK h2,by rw [Zn,hc],s'⟩
     ·have s:=s'
      exact WP.has (F:=[]) aa (zK 4 rfl (WP.ret ⟨aa,_,rfl,by rw [Zn,hc],s⟩))
end
end Go.Proofs.YtconhghphklfjaaGreat.Am
