/- SpacePlays: a part of its proof; conditions: its statement's. -/
import Derived.Test.YtefepnnfphdkpaaGreatE28
namespace Go.Proofs.YtefepnnfphdkpaaGreat.Am
open Go
def Kl (π:Pl): List Int→Nat→Nat
 | [],m=>m
 | n::l,m=>Kl π l (min m (gI π n 0))
theorem IS (π:Pl): ∀(l:List Int) (m:Nat),Kl π l m≤m:=by
 intro l
 induction l with
 | nil=>intro m; exact aD _
 | cons n l I=>intro m; exact cu (I _) (Nat.min_le_left _ _)
theorem MC (π:Pl): ∀ {l:List Int} {i:Nat} {n:Int},l[i]?=some n→((dirtC π l).drop (i*2)).take 2=[.int .i64 n,.int .u64 (gI π n 0:Nat)]:=by
 intro l
 induction l with
 | nil=>intro i n h; simp at h
 | cons x l I =>
  intro i n h
  cases i with
  | zero=>simp at h; subst h; rfl
  | succ i =>
   rw [kW] at h
   rw [show (i+1)*2=i*2+2 by omega]
   exact I h
section
variable {told:cZ} {h:H} {S:List au} {X Y:au} {r k q p bR a g aO:Nat} {op v x u wh di:V} {l b dD data dI:List Nat} {now:List (Int×List Nat)} {bX:Bool} {ε:aE} {μ:Lg} {δ:Dk} {π:Pl}
noncomputable def ckL : Code:=cV [1,1,1,0,1,0,0] ((Tryz.f44.body).getD .skip)
theorem Sg (hT:W told){ks:List Int}{av t1 t2:V}(QD:ks.length≤1048576): ∀(j i:Nat) (low:Nat) (h:H) (E:List (Nat×V)) (Q:Ex→List (Nat×V)→H→Prop),i+j=ks.length →
  Sat h (.arr 2 av (dirtC π ks)::S)→Has E [(0,.ptr a 0),(1,t1),(2,t2),(7,.int .u64 (low:Int)),(40,av),(41,.int .i64 ks.length),(42,.int .i64 i)] →
  (∀E' h',Has E' [(0,.ptr a 0),(1,t1),(2,t2),(7,.int .u64 (Kl π (ks.drop i) low:Nat))]→Sat h' (.arr 2 av (dirtC π ks)::S)→Q (.exit 1) E' h') →
  WP ⟨Tryz.prog,told⟩ 118 (.loop ckL) E h Q:=by
 intro j
 induction j with
 | zero =>
  intro i low h E Q hi s hE J
  refine WP.loop (WP.has hE (zg rfl (zh rfl (af rfl rfl aK) (by simp <;> omega) ?_)))
  refine zk 3 rfl (WP.exit ?_)
  rw [gR (by omega)] at J
  exact J _ _ ⟨rfl,rfl,rfl,rfl,aa⟩ s
 | succ j ih =>
  intro i low h E Q hi s hE J
  have hn:ks[i]?=some (ks[i]'(by omega)):=aN _
  have I:ks.drop i=ks[i]'(by omega)::ks.drop (i+1):=rG (by omega)
  generalize (ks[i]'(by omega))=n at hn I
  rw [I] at J
  have pR:=MC π hn
  obtain ⟨id,off,g1,g2⟩:=LL (P:=Tryz.prog) (i:=i) s (j:=0) rfl (by rw [x_]; omega) (by decide) xY JM
  have g2:=g2 VO
  rw [pR] at g2
  have Oe:min (low:Int) ((gI π n 0:Nat):Int)=((min low (gI π n 0):Nat):Int):=by omega
  refine WP.loop (WP.has hE (zg rfl (zt rfl (af rfl rfl aK) (by simp <;> omega) ?_)))
  refine zk 5 rfl (WP.block (zg rfl (zo rfl (cn (r:=.ptr id off) rfl rfl g1) (zl rfl g2 ?_))))
  refine az.cz s rfl rfl rfl (cy Ey) (fun p9 h s => ?_)
  dsimp only [V.cells,List.length_cons,List.length_nil,Nat.reduceAdd] at s
  refine zS rfl (s.eZ (j:=0) rfl JM rfl rfl) (fun h s => ?_)
  dsimp only [setA] at s
  refine zk 3 rfl (zf rfl (Rz _ _) (zl rfl (s.ld (k:=0) rfl iP rfl) (zo rfl (Of rfl rfl Ug) ?_)))
  rw [Oe]
  refine za rfl (zv (zr rfl (zb rfl (by exact bg (aB (by omega) (by omega))) ?_)))
  refine zm rfl (zv ?_)
  exact ih (i+1) _ _ _ Q (by omega) (s.del 0) ⟨rfl,rfl,rfl,rfl,rfl,rfl,rfl,aa⟩ J
end
theorem B1 {x:LD}{n:Nat}(h:x.1.Ok)(I:x.2.Ok)(hn:n≤1099511627776): (gD x n).2.1.Ok∧(gD x n).2.2.Ok:=by
 have J:(x.2.oZ (gN x.1.base n)).2.Ok:=by
  unfold Dk.oZ
  split
  ·exact I
  ·split
   ·exact I
   ·split
    ·exact I.die
    ·exact ⟨I.c6.bj,I.len,I.room,I.now,I.aM,I.bT,I.many⟩
 unfold gD
 split
 ·exact ⟨h,I⟩
 ·split
  ·exact ⟨h,J⟩
  ·exact ⟨⟨h.size,h.many,h.low,h.we,h.forced,h.len,hn⟩,J⟩
def i_ (ε:aE): Nat:=Kl ε.1 (bw ε.1.br) (ε.2.1.base+ε.2.1.b.length)
def o8 (ε:aE)(data:List Nat): (Nat×Int)×LD:=bp ε.2 8 0 0 0 (le 8 (i_ ε)++data) []
theorem UX {ε:aE}{data:List Nat}(I:nT ε)(J:ε.2.1.b=ε.2.2.log)(hz:ε.2.1.base+ε.2.1.b.length+1048584≤1099511627776): (o8 ε data).2.1.Ok∧(o8 ε data).2.2.Ok∧(o8 ε data).1.1<1099511627776:=by
 have h:=uA (x:=ε.2) (kd:=8) (tx:=0) (pv:=0) (nx:=0) (data:=le 8 (i_ ε)++data) (c:=[]) I.lg I.dk J hz
 exact ⟨h.1,h.2.1,h.2.2.2.2.2.2⟩
def B2 (ε:aE)(lo:Nat): Nat:=if lo=0 then i_ ε else min (i_ ε) lo
def kR (y:(Nat×Int)×LD): Int×LD:=bH y.2 y.1.1
def fZ (y:(Nat×Int)×LD): Int×LD:=gD (kR y).2 y.1.1
theorem IT {y:(Nat×Int)×LD}(h:y.2.1.Ok): (kR y).2.1.Ok:=by
 rw [kR]; exact qt h
theorem IU {y:(Nat×Int)×LD}(h:y.2.2.Ok): (kR y).2.2.Ok:=by
 rw [kR]; exact nm h
theorem UY {y:(Nat×Int)×LD}(h:y.2.1.Ok)(I:y.2.2.Ok)(J:y.1.1<1099511627776): (fZ y).2.1.Ok∧(fZ y).2.2.Ok:=by
 rw [fZ]; exact B1 (IT h) (IU I) (Nat.le_of_lt J)
inductive Gg (y:(Nat×Int)×LD)(kp:Nat)(data dI:List Nat)(aO:Nat): Int→LD→List Nat→Nat→Prop
 | app:y.1.2≠0→Gg y kp data dI aO y.1.2 y.2 dI aO
 | force:y.1.2=0→(kR y).1≠0→Gg y kp data dI aO (kR y).1 (kR y).2 dI aO
 | check:y.1.2=0→(kR y).1=0→(fZ y).1≠0→Gg y kp data dI aO (fZ y).1 (fZ y).2 dI aO
 | cut (t:Nat):y.1.2=0→(kR y).1=0→(fZ y).1=0 →
   ((t=(fZ y).2.1.base+(fZ y).2.1.b.length∧(fZ y).2.1.base+(fZ y).2.1.b.length≤kp)∨((fZ y).2.1.hasB t=true∧t≤kp)∨t=(fZ y).2.1.base) →
   (fZ y).2.1.base<t→((fZ y).2.1.hasB kp=true→kp<(fZ y).2.1.base+(fZ y).2.1.b.length→t=kp)→Gg y kp data dI aO (gw (fZ y).2 t).1 (gw (fZ y).2 t).2 data y.1.1
 | j5:y.1.2=0→(kR y).1=0→(fZ y).1=0→((fZ y).2.1.hasB kp=true→kp<(fZ y).2.1.base+(fZ y).2.1.b.length→kp≤(fZ y).2.1.base)→Gg y kp data dI aO 0 (fZ y).2 data y.1.1
inductive Gh (ε:aE)(lo:Nat)(data dI:List Nat)(aO:Nat): Int→aE→List Nat→Nat→Prop
 | UZ:4096<data.length→Gh ε lo data dI aO 2 ε dI aO
 | dead:data.length≤4096→ε.2.2.dead=true→Gh ε lo data dI aO 9 ε dI aO
 | go (e:Int) (y:LD) (wz:List Nat) (lW:Nat):data.length≤4096→ε.2.2.dead=false→Gg (o8 ε data) (B2 ε lo) data dI aO e y wz lW→Gh ε lo data dI aO e (ε.1,y) wz lW
section
variable {told:cZ} {h:H} {S:List au} {X Y:au} {r k q p bR a g aO:Nat} {op v x u wh di:V} {l b dD data dI:List Nat} {ε:aE}
noncomputable def Xz : Code:=cV [1,1,1,1,1,1,1,1,1,1] ((Tryz.f44.body).getD .skip)
theorem U0 (I:W told){lw:Nat}{w:V}{aW:Nat}{y:LD}(s:Sat h (bx q p y.1::aL p y.2::pt a (.cells 6 (BX a p q r .b7 w aW) false)::S))(J:y.1.Ok)(h2:y.2.Ok)(MD:lw<18446744073709551616){E:List (Nat×V)}(hE:Has E [(0,.ptr a 0),(7,.int .u64 (lw:Int))]){Q:Ex→List (Nat×V)→H→Prop}
 (q1:∀t E' h',((t=y.1.base+y.1.b.length∧y.1.base+y.1.b.length≤lw)∨(y.1.hasB t=true∧t≤lw)∨t=y.1.base)→y.1.base<t→(y.1.hasB lw=true→lw<y.1.base+y.1.b.length→t=lw)→look E' 6=some (.int .i64 (gw y t).1) →
   Sat h' (bx q p (gw y t).2.1::aL p (gw y t).2.2::pt a (.cells 6 (BX a p q r .b7 w aW) false)::S)→Q .ret E' h')
 (q2:∀E' h',(y.1.hasB lw=true→lw<y.1.base+y.1.b.length→lw≤y.1.base)→look E' 6=some (.int .i64 0)→Sat h' (bx q p y.1::aL p y.2::pt a (.cells 6 (BX a p q r .b7 w aW) false)::S)→Q .ret E' h'):
  WP ⟨Tryz.prog,told⟩ 118 Xz E h Q:=by
 have aaB:=J.size
 refine WP.has hE (zK 5 rfl (zf rfl (mw _ _) (zl rfl (s.ld (k:=2) rfl pT rfl) (zm rfl (zc rfl (L2 (n:=lw) I s J MD) ?_)))))
 rintro v _ ⟨rfl,t,rfl,hr,hx⟩
 refine zk 7 rfl (zf rfl (mw _ _) (zl rfl (s.ld (k:=2) rfl pT rfl) (zc rfl (DQ I s) ?_)))
 rintro v h ⟨rfl,rfl⟩
 by_cases hg:y.1.base<t
 ·skip
  refine zt rfl (af rfl rfl er) (by simp; exact hg) ?_
  refine zk 6 rfl (zf rfl (mw _ _) (zl rfl (s.ld (k:=2) rfl pT rfl) (zm rfl (zc rfl (UU (n:=t) I s J h2 (by rcases hr with ⟨rfl,_⟩ | ⟨_,hr⟩ | rfl <;> omega)) ?_))))
  rintro v h ⟨rfl,s⟩
  exact zk 2 rfl (WP.ret (q1 t _ _ hr hg hx rfl s))
 ·skip
  refine zh rfl (af rfl rfl er) (by simp; exact Nat.not_lt.1 hg) ?_
  exact zk 7 rfl (WP.ret (q2 _ _ (fun a b=>by have:=hx a b; omega) rfl s))
noncomputable def YE : Code:=cV [1,1,1,1,1] ((Tryz.f44.body).getD .skip)
theorem Sh (hT:W told){low lo:Nat}{y:(Nat×Int)×LD}(qG:c8 X (c9 x data))(va:data.length≤4096)(s:Sat h (bx q p y.2.1::aL p y.2.2::X::dx a p q r .b7 dI aO::S))(h1:y.2.1.Ok)(h2:y.2.2.Ok)(h3:y.1.1<1099511627776)(p_:low<18446744073709551616)(nA:lo<18446744073709551616)
 {E:List (Nat×V)}(hE:Has E [(0,.ptr a 0),(1,.int .u64 (lo:Int)),(2,x),(7,.int .u64 (low:Int)),(10,.int .u64 (y.1.1:Int)),(11,.int .i64 y.1.2)]){Q:Ex→List (Nat×V)→H→Prop}
 (hq:∀e y' wz lW E' h',Gg y (if lo=0 then low else min low lo) data dI aO e y' wz lW→look E' 6=some (.int .i64 e)→Sat h' (bx q p y'.1::aL p y'.2::X::dx a p q r .b7 wz lW::S)→Q .ret E' h'):
  WP ⟨Tryz.prog,told⟩ 118 YE E h Q:=by
 have U1:=IT h1
 have U3:=IU h2
 have l9:=UY h1 h2 h3
 obtain ⟨dv,s⟩:=b5.1 (s.ae [3])
 have s:=s.ae [2,2,2,0,0]
 obtain ⟨y2,I⟩:∃y2,y2=kR y:=⟨_,rfl⟩
 obtain ⟨y3,J⟩:∃y3,y3=fZ y:=⟨_,rfl⟩
 have ey2:bH (y.2.1,y.2.2) y.1.1=y2:=by rw [I,kR]
 have ey3:gD (y2.2.1,y2.2.2) y.1.1=y3:=by rw [I,J,fZ]
 rw [←I] at U1 U3
 rw [←J] at l9
 refine WP.has hE (zK 4 rfl ?_)
 by_cases he:y.1.2=0
 ·skip
  refine zh rfl (af rfl rfl aG) (by simp; exact he) ?_
  refine zk 8 rfl (zf rfl (mw _ _) (zl rfl (s.ld (k:=3) rfl pT rfl) (zm rfl (zc rfl (IG hT s h1 h2.bj) ?_))))
  rw [ey2]
  rintro v h ⟨rfl,s⟩
  refine zk 5 rfl ?_
  by_cases vz:y2.1=0
  ·skip
   refine zh rfl (af rfl rfl aG) (by simp; exact vz) ?_
   refine zk 8 rfl (zf rfl (mw _ _) (zl rfl (s.ld (k:=3) rfl pT rfl) (zm rfl (zc rfl (RR hT s U1 U3.bj (yV h3 (by decide))) ?_))))
   rw [ey3]
   rintro v h ⟨rfl,s⟩
   refine zk 5 rfl ?_
   by_cases F9:y3.1=0
   ·skip
    refine zh rfl (af rfl rfl aG) (by simp; exact F9) ?_
    refine zk 8 rfl (zc rfl (oW hT (s.ae [2]) qG (by omega)) ?_)
    intro w h s
    have hw:=(s.buf (k:=0) rfl).view.cells
    have s:=s.gu
    refine zk 2 rfl (zf rfl (Rv _ _) (zS rfl (s.gO (k:=4) rfl jT rfl (by decide) hw.1 hw.2) ?_))
    intro h s
    refine zn rfl (zf rfl (Rw _ _) ?_)
    refine zS rfl (by exact s.gO (k:=4) rfl AI rfl (by decide) rfl rfl) (fun h s => ?_)
    refine zk 5 rfl ?_
    have s:=s.ae [2,2,2,0,0]
    have rest:∀lw E,lw=(if lo=0 then low else min low lo)→lw<18446744073709551616→Has E [(0,.ptr a 0),(7,.int .u64 (lw:Int))]→WP ⟨Tryz.prog,told⟩ 118 Xz E h Q:=by
     intro lw E U4 bC hE
     refine U0 hT s l9.1 l9.2 bC hE (fun t E' h' hr hg hx l6 s => ?_) (fun E' h' hx l6 s => ?_)
     ·subst U4 I J
      exact hq _ _ _ _ E' h' (.cut t he vz F9 hr hg hx) l6 ((b5.2 ⟨w,(s.ae [2,2,0,0,0]).del 5⟩).ae [1,1,1,0])
     ·subst U4 I J
      exact hq _ _ _ _ E' h' (.j5 he vz F9 hx) l6 ((b5.2 ⟨w,(s.ae [2,2,0,0,0]).del 5⟩).ae [1,1,1,0])
    by_cases h0:lo=0
    ·skip
     refine zh rfl (af rfl rfl aG) (by simp; omega) ?_
     exact zk 2 rfl (WP.skip (rest low _ (by rw [aq h0]) p_ ⟨rfl,rfl,aa⟩))
    ·skip
     refine zt rfl (af rfl rfl aG) (by simp; omega) ?_
     refine zk 5 rfl (zo rfl (Of rfl rfl Ug) ?_)
     have hmn:min (low:Int) (lo:Int)=((min low lo:Nat):Int):=by omega
     rw [hmn]
     exact zk 2 rfl (rest (min low lo) _ (by rw [ah h0]) (by omega) ⟨rfl,rfl,aa⟩)
   ·skip
    refine zt rfl (af rfl rfl aG) (by simp; exact F9) ?_
    refine zk 7 rfl (WP.ret ?_)
    subst I J
    exact hq _ _ _ _ _ _ (.check he vz F9) rfl ((b5.2 ⟨dv,s.ae [3,3,0,0,0]⟩).ae [1,1,1,0])
  ·skip
   refine zt rfl (af rfl rfl aG) (by simp; exact vz) ?_
   refine zk 7 rfl (WP.ret ?_)
   subst I J
   exact hq _ _ _ _ _ _ (.force he vz) rfl ((b5.2 ⟨dv,s.ae [3,3,0,0,0]⟩).ae [1,1,1,0])
 ·skip
  refine zt rfl (af rfl rfl aG) (by simp; exact he) ?_
  exact zk 7 rfl (WP.ret (hq _ _ _ _ _ _ (.app he) rfl ((b5.2 ⟨dv,s.ae [3,3,0,0,0]⟩).ae [1,1,1,0])))
theorem Si (hT:W told){lo:Nat}(s:Sat h (dx a p q r .b7 dI aO::cK r p q ε.1::bx q p ε.2.1::aL p ε.2.2::X::S))(hX:c8 X (c9 x data))(fF:nT ε)(nA:lo<18446744073709551616)
 (hm:ε.1.br.length≤1048576)(hk:∀n∈ε.1.br.map (·.1),(Lit.int .i64 n).wf=true)(O4:ε.2.1.b=ε.2.2.log)(hz:ε.2.1.base+ε.2.1.b.length+1048584≤1099511627776):
  Call ⟨Tryz.prog,told⟩ 44 [.ptr a 0,.int .u64 (lo:Int),x] h fun v h'=>∃e ε' I J,Gh ε lo data dI aO e ε' I J∧v=.int .i64 e ∧
   Sat h' (dx a p q r .b7 I J::cK r p q ε'.1::bx q p ε'.2.1::aL p ε'.2.2::X::S):=by
 have s0:=s
 have qG:=s.aU (k:=4) rfl hX
 obtain ⟨dv,s⟩:=b5.1 s
 refine Call.of_wp (hT.free _ rfl) Tryz.func44 rfl rfl (zK 5 rfl (WP.block (zK 4 rfl (zf rfl (ow _ _) (zl rfl (s.ld (k:=0) rfl CO rfl) (zh rfl (af rfl rfl (Kc jZ)) (rfl) (zk 6 rfl (zo rfl (aT rfl rfl rfl (bO aV qG)) ?_))))))))
 by_cases hb:4096<data.length
 ·skip
  refine zt rfl (af rfl rfl er) (by simp; omega) ?_
  exact zk 7 rfl (WP.ret ⟨aa,_,rfl,2,ε,_,_,.UZ hb,rfl,s0⟩)
 ·have va:data.length≤4096:=by omega
  refine zh rfl (af rfl rfl er) (by simp; omega) ?_
  refine zk 7 rfl (zf rfl (r9 _ _) (zl rfl (s.ld (k:=0) rfl jU rfl) (zc rfl (v8 hT (s.ae [4])) ?_)))
  rintro v h ⟨rfl,rfl⟩
  refine zk 2 rfl ?_
  cases hd:ε.2.2.dead with
  | true =>
   exact zK 5 rfl (WP.ret ⟨aa,_,rfl,9,ε,_,_,.dead va hd,rfl,s0⟩)
  | false =>
   refine zj rfl (WP.skip (zg rfl (zk 2 rfl (zf rfl (mw _ _) (zl rfl (by exact s.ld (k:=0) rfl pT rfl) ?_)))))
   refine zc rfl (qa hT (s.ae [3]) fF.lg.size) ?_
   rintro v h ⟨rfl,rfl⟩
   refine zk 7 rfl (zf rfl (nk _ _) (zl rfl (s.ld (k:=0) rfl rz rfl) (zc rfl (OK hT (s.ae [2]) hm hk) ?_)))
   intro av h s
   have hl:(bw ε.1.br).length=ε.1.br.length:=by rw [bw,(e_ _).length_eq,dF]
   refine zo rfl (aT rfl rfl rfl (s.eY (n:=(bw ε.1.br).length) (j:=0) rfl (by rw [x_]) (by decide) xY)) ?_
   refine zk 2 rfl (WP.block ?_)
   refine Sg hT (ks:=bw ε.1.br) (by omega) (bw ε.1.br).length 0 (ε.2.1.base+ε.2.1.b.length) _ _ _ (by omega) s ⟨rfl,rfl,rfl,rfl,rfl,rfl,rfl,aa⟩ (fun E' h' jl s' => ?_)
   rw [eP] at jl
   have jl:Has E' [(0,.ptr a 0),(1,.int .u64 (lo:Int)),(2,x),(7,.int .u64 (i_ ε:Nat))]:=jl
   have s:=s'.del 0
   have p_:i_ ε<18446744073709551616:=by
    have:=IS ε.1 (bw ε.1.br) (ε.2.1.base+ε.2.1.b.length)
    have:=fF.lg.size
    unfold i_; omega
   refine WP.has jl (zw ?_)
   have QK:=UX (data:=data) fF O4 hz
   have s:=s.sW
   have s0:=s
   have LF:=gY qG
   refine WP.drawn [some (0,3),some (0,3),some (0,3),some (0,3),none,none,some (0,2),ai,ai,ai,ai,ai,ai,ai,ai] rfl (by kernel_rfl) (by kernel_rfl) ?_
   refine zM rfl (zN rfl (zF rfl (mw _ _) (zL rfl (s.ld (k:=2) rfl pT rfl) (zM rfl (aA.any rfl rfl rfl rfl (OpR.call rfl rfl rfl rfl (tc (z:=8) hT s (by decide) (by simp))) ?_)))))
   intro v1 h s
   rw [dn] at s
   have s1:=s
   obtain ⟨lw,MD⟩:∃lw,lw=le 8 (i_ ε):=⟨_,rfl⟩
   have aaC:lw.length=8:=by rw [MD,cJ]
   have eck:o8 ε data=bp ε.2 8 0 0 0 (lw++data) []:=by rw [MD]; rfl
   rw [←MD] at s
   refine zM rfl (aA.any rfl rfl rfl rfl (OpR.oU rfl (s.ae [0,5]) hX rfl rfl rfl rfl (by omega)) ?_)
   intro v2 h s
   obtain ⟨vi,vo,vc,rfl⟩:=iu (s.buf (k:=0) rfl).view (by simp only [bU]; omega)
   have s2:=s
   refine zO rfl (dA rfl (by rw [JI]; rfl)) ?_
   have s:Sat h (.arr 4 .bu []::dN [] []::_):=(s.gr (φ:=True) aa).nI
   refine aA.any rfl rfl rfl rfl (OpR.call rfl rfl rfl rfl (FR (kd:=8) (tx:=0) (pv:=0) (nx:=0) (ch:=.bu) hT (s.ae [7,7,2,0,0]) (bz _ _) ⟨by simp [xT],by decide,by decide,by decide,by simp; omega⟩ fF.lg fF.dk)) ?_
   rintro v h ⟨rfl,s⟩
   rw [show bp (ε.2.1,ε.2.2) 8 0 0 0 (lw++data) []=o8 ε data from eck.symm] at s ⊢
   obtain ⟨y1,U5⟩:∃y1,y1=o8 ε data:=⟨_,rfl⟩
   rw [←U5] at s QK ⊢
   refine zM rfl (zO rfl (oo rfl rfl) (zO rfl (oo rfl rfl) (zA rfl (zA rfl ?_))))
   refine aA.nil ⟨⟨fun _ _=>.inr ⟨rfl,⟨_,bF rfl⟩,aS _ rfl⟩,fun _ _=>.inr ⟨rfl,⟨_,ni rfl⟩,aS _ rfl⟩,fun _ _=>.inr ⟨rfl,⟨_,jS rfl (mw _ _)⟩,aS _ rfl⟩,vl (.inr ⟨rfl,⟨_,aR rfl (s0.ld (k:=2) rfl pT rfl)⟩,aS _ rfl⟩) (.inr ⟨rfl,⟨_,aR rfl (s1.ld (k:=2) rfl pT rfl)⟩,aS _ rfl⟩) (.inr ⟨rfl,⟨_,aR rfl (s2.ld (k:=3) rfl pT rfl)⟩,aS _ rfl⟩),aa,aa,fun _ _=>.inr ⟨rfl,⟨_,bF rfl⟩,LF⟩,aa,aa,aa,aa,aa,aa,aa,aa,aa⟩,?_⟩
   have s:=((s.del 4).del 3).del 2
   have s:=(b5.2 ⟨dv,s.ae [4,4]⟩).ae [1,1,1,0]
   refine Sh hT hX va s QK.1 QK.2.1 QK.2.2 p_ nA ⟨rfl,rfl,rfl,rfl,rfl,rfl,aa⟩ (fun e y' I J E' h' hc l6 s2 => ?_)
   subst U5
   exact ⟨aa,_,qQ l6,e,(ε.1,y'),I,J,.go e y' I J va hd hc,rfl,s2.ae [3,3,0,0,0]⟩
end
theorem DX : ∃i,Tryz.prog.info? 4=some i∧i.size=1∧i.bytes=1 :=
 ⟨_,(show Tryz.prog.info? 4=some ((Tryz.prog.info? 4).getD default) by kernel_rfl),by kernel_rfl,by kernel_rfl⟩
theorem Sj : ∀n:Nat,repeatL [V.bool false] n=eo (List.replicate n false):=by
 intro n
 induction n with
 | zero=>rfl
 | succ n I=>simp only [repeatL,I,eo,uH,bQ]; rfl
section
variable {told:cZ} {h:H} {S:List au} {X:au} {k:Nat} {v:V} {l:List Nat}
end
theorem Km : ∀ {l:List Nat},(∀b∈l,b<256)→bytesOf (ofBytes l)=some l:=by
 intro l
 induction l with
 | nil=>intro _; rfl
 | cons b l J =>
  intro h
  have I:=J fun x hx=>h x (b6 _ hx)
  have h2:=h b ct
  rw [ofBytes] at I
  simp only [ofBytes,bQ,bytesOf,I,ak,uS,and_true]
  omega
theorem B3 {h:H}{v:V}{l:List Nat}(hv:View h v l): convV Tryz.prog h 28 9 v=some (.str l,h):=by
 obtain ⟨I,(⟨rfl | ⟨ea,rfl⟩,rfl⟩ | ⟨id,off,cap,n,cs,st,rfl,J,hl,ho,hc,_⟩)⟩:=hv
 ·simp only [convV,aV,qC,Tryz.underlying5]
 ·simp only [convV,aV,qC,Tryz.underlying5]
 ·have e:rdN h id off l.length=some (ofBytes l):=by rw [xI J hl ho,hc]
  simp only [convV,aV,qC,Tryz.underlying5,e,Km I]
theorem U6 (l:List Nat): (V.str l).beq (.str l)=true:=by simp only [V.beq,uy,uX]
def QL (l:List Nat): List Nat:=if l.length≠512∨l=List.replicate 512 0 then [] else l.drop 12
section
variable {told:cZ} {h:H} {S:List au} {X:au} {r k q p a g aO:Nat} {op v x:V} {l data:List Nat} {now:List (Int×List Nat)} {bX:Bool} {ε:aE}
end
structure DK (δ Wh:Dk): Prop where
 dead:Wh.dead=δ.dead
 bj:Wh.bj=δ.bj
 aM:Wh.aM=δ.aM
 now:Wh.now=δ.now
theorem DK.refl (δ:Dk): DK δ δ:=⟨rfl,rfl,rfl,rfl⟩
theorem DK.at {δ I:Dk}(h:DK δ I)(n:Int): I.at n=δ.at n:=by rw [Dk.at,Dk.at,h.now,h.aM]
structure DA (N:Nat)(δ:Dk): Prop where
 alive:δ.dead=false
 bj:δ.bj<0
 aM:δ.aM.length=N
 keys:∀k:Int,k∈δ.now.map (·.1)→0≤k∧k<N
 nodup:(δ.now.map (·.1)).Nodup
 good:∀n:Int,0≤n→n<N→h_ (δ.at n)=0
theorem DA.of {N:Nat}{δ I:Dk}(h:DA N δ)(k:DK δ I): DA N I :=
 ⟨k.dead.trans h.alive,by rw [k.bj]; exact h.bj,by rw [k.aM]; exact h.aM,by rw [k.now]; exact h.keys,by rw [k.now]; exact h.nodup,fun n a b=>by rw [k.at]; exact h.good n a b⟩
theorem tw {δ:Dk}(h:δ.bj<0): δ.c6=δ:=by
 have:(if 0<δ.bj then δ.bj-1 else δ.bj)=δ.bj:=ah (by omega)
 rw [Dk.c6,this]
theorem Gi {N:Nat}{δ:Dk}(h:DA N δ): δ.gH=(0,{ δ with bT:=δ.log.length }):=by
 rw [Dk.gH,ah (by rw [h.alive]; decide),ah (by have:=h.bj; omega),tw h.bj]
theorem Sk {N:Nat}{δ:Dk}{b:List Nat}(h:DA N δ)(I:b.length≤64): δ.oZ b=(0,{ δ with mark:=b }):=by
 rw [Dk.oZ,ah (by rw [h.alive]; decide),ah (by omega),ah (by have:=h.bj; omega),tw h.bj]
theorem DY {N:Nat}{x:LD}{n:Nat}(h:DA N x.2): (bH x n).1=0∧DK x.2 (bH x n).2.2:=by
 unfold bH
 split
 ·exact ⟨rfl,DK.refl _⟩
 ·rw [Gi h,ah (by simp)]
  exact ⟨rfl,rfl,rfl,rfl,rfl⟩
theorem Pa {N:Nat}{δ:Dk}{n:Int}{b:List Nat}(h:DA N δ)(h0:0≤n)(h1:n<N)(hb:b.length=512)(hc:h_ b=0):
  (δ.dc n b).1=0∧DA N (δ.dc n b).2∧∀m,(δ.dc n b).2.at m=if n=m then b else δ.at m:=by
 have e:δ.dc n b=(0,δ.wr n b):=by
  rw [Dk.dc,ah (by rw [h.alive]; decide),ah (not_not_intro ⟨h0,by rw [h.aM]; exact h1,hb⟩),ah (by have:=h.bj; omega)]
 have I:(δ.wr n b).now=dO n b δ.now:=rfl
 have jY:(δ.wr n b).aM=δ.aM:=rfl
 have J:∀m,(δ.wr n b).at m=if n=m then b else δ.at m:=fun m=>by
  rw [Dk.at,Dk.at,I,jY,qA]
  by_cases hm:n=m
  ·rw [aq hm,aq hm]
  ·rw [ah hm,ah hm]
 have Gj:(δ.wr n b).bj=δ.bj:=by
  show δ.c6.bj=δ.bj
  rw [tw h.bj]
 rw [e]
 refine ⟨rfl,⟨h.alive,by rw [Gj]; exact h.bj,h.aM,fun x hx => ?_,?_,fun m a c => ?_⟩,J⟩
 ·rw [I] at hx
  rcases sX.1 hx with rfl | hx
  ·exact ⟨h0,h1⟩
  ·exact h.keys x hx
 ·rw [I]; exact lS h.nodup
 ·rw [J]
  by_cases hm:n=m
  ·rw [aq hm]; exact hc
  ·rw [ah hm]; exact h.good m a c
theorem laidP_get : ∀ {l:List (Int×List Nat)} {m:List (Option (List Nat))} {n:Int} {N:Nat},m.length=N→(l.map (·.1)).Nodup→(∀k:Int,k∈l.map (·.1)→0≤k∧k<N)→0≤n→(laidP l m)[n.toNat]?=match lookL n l with
  | some b=>some (some b)
  | none=>m[n.toNat]?:=by
 intro l
 induction l with
 | nil=>intro m n N _ _ _ _; rfl
 | cons e l ih =>
  intro m n N hm hd J hn
  have I:e.1∉l.map (·.1)∧(l.map (·.1)).Nodup:=List.nodup_cons.1 hd
  have h1:=J e.1 (by simp)
  rw [laidP,ih (N:=N) (by rw [bJ]; exact hm) I.2 (fun x hx=>J x (by simp only [bQ,ij]; exact .inr hx)) hn]
  simp only [lookL]
  by_cases he:e.1=n
  ·rw [aq he]
   have:lookL n l=none:=kC.2 (by rw [←he]; exact I.1)
   rw [this]
   simp only
   rw [he,fu (by rw [hm]; omega)]
  ·rw [ah he]
   cases hq:lookL n l with
   | some b=>rfl
   | none=>simp only; rw [eO (by omega)]
theorem Sl {N:Nat}{δ:Dk}(h:DA N δ): δ.jE.1=0∧DA N δ.jE.2∧∀m,0≤m→δ.jE.2.at m=δ.at m:=by
 have e:δ.jE=(0,δ.sync):=by rw [Dk.jE,ah (by rw [h.alive]; decide),ah (by have:=h.bj; omega),tw h.bj]
 have I:∀m,0≤m→δ.sync.at m=δ.at m:=fun m hm=>by
  rw [Dk.at,Dk.at]
  have J:lookL m δ.sync.now=none:=rfl
  rw [J]
  simp only
  rw [show δ.sync.aM=laidP δ.now δ.aM from rfl,laidP_get h.aM h.nodup h.keys hm]
  cases hq:lookL m δ.now with
  | some b=>rfl
  | none=>rfl
 rw [e]
 refine ⟨rfl,⟨h.alive,h.bj,by rw [show δ.sync.aM=laidP δ.now δ.aM from rfl,yc]; exact h.aM,fun x hx=>(by cases hx),pM,fun m a c => ?_⟩,I⟩
 rw [I m a]; exact h.good m a c
theorem AB {l m:List Nat}{a b:Nat}(J:a+m.length≤l.length)(h2:a+m.length≤b): (bk l a m).drop b=l.drop b:=by
 have I:(l.take a).length=a:=by rw [kZ]; omega
 rw [bk,←gS,yP,gR (by rw [bU,I]; omega),dn,pL,bU,I]
 congr 1; omega
theorem B4 {l m:List Nat}{a i:Nat}(h:a+m.length≤l.length): (bk l a m)[i]?=if a≤i∧i<a+m.length then m[i-a]? else l[i]?:=by
 have I:(l.take a).length=a:=by rw [kZ]; omega
 rw [bk]
 by_cases J:i<a
 ·rw [iF (by omega),ah (by omega),kX,aq J]
 ·rw [me (by omega),I]
  by_cases h2:i-a<m.length
  ·rw [iF h2,aq (by omega)]
  ·rw [me (by omega),ah (by omega),jH]
   congr 1; omega
theorem tA {l m:List Nat}{a z:Nat}(I:l.drop 12=m.drop 12)(J:12≤a): cT l a z=cT m a z:=by
 have e:∀l:List Nat,(l.take (a+z)).drop a=((l.drop 12).drop (a-12)).take z:=fun l=>by
  rw [pL,show 12+(a-12)=a by omega,rQ]
  congr 1; omega
 rw [cT,cT,e,e,I]
theorem HH {l m:List Nat}(I:l.drop 12=m.drop 12){low:Nat}: ∀(n i:Nat) (t:List Bool),cellsL l low n i t=cellsL m low n i t:=by
 intro n
 induction n with
 | zero=>intro i t; rfl
 | succ n J =>
  intro i t
  have e1:c7 l i=c7 m i:=tA I (by omega)
  have e2:hO l i=hO m i:=tA I (by omega)
  simp only [cellsL,e1,e2,J]
theorem Kn {l m:List Nat}(J:l.length=m.length)(I:l.drop 12=m.drop 12): cj l=cj m:=by
 have e1:j7 l=j7 m:=tA I (by omega)
 have e2:hG l=hG m:=tA I (by omega)
 have e3:l.getD 13 0=m.getD 13 0:=by
  have:∀l:List Nat,l[13]?=(l.drop 12)[1]?:=fun l=>by rw [jH]
  rw [dL,dL,this,this,I]
 simp only [cj,J,e1,e2,e3,HH I]
theorem ME : ∀(k n:Nat),leN (le k n)=n%256^k:=by
 intro k
 induction k with
 | zero=>intro n; rw [Nat.pow_zero,Nat.mod_one]; rfl
 | succ k I =>
  intro n
  rw [le,leN,I,rU,rT (256^k) 256,Nat.mod_mul]
theorem DZ {b:List Nat}{n:Nat}(J:b.length=512): (dw b n).drop 12=b.drop 12∧(dw b n).length=512∧(dw b n).drop 4=(nB b n).drop 4∧cT (dw b n) 0 4=xO 0 ((nB b n).drop 4)%4294967296:=by
 have h1:=v_ (n:=n) J
 have h2:(dw b n).length=512:=by rw [dw,cI (by rw [cJ]; omega),h1]
 have I:(dw b n).drop 4=(nB b n).drop 4:=by rw [dw]; exact AB (by rw [cJ]; omega) (by rw [cJ]; omega)
 have h4:(nB b n).drop 12=b.drop 12:=by rw [nB]; exact AB (by rw [cJ]; omega) (by rw [cJ]; omega)
 refine ⟨?_,h2,I,?_⟩
 ·have:=fQ (List.drop 8) I
  rw [pL,pL] at this
  exact this.trans h4
 ·have e:(dw b n).take 4=le 4 (xO 0 ((nB b n).drop 4)):=by
   rw [dw,bk,mj,dn,yC (by rw [cJ]; omega),fq (by rw [cJ]; omega)]
  rw [cT,dY,eP,e,ME]
theorem Sn {b:List Nat}{n:Nat}(I:∀x∈b,x<256): ∀x∈nB b n,x<256:=DG I (JU _ _)
theorem MF {b:List Nat}{n:Nat}(hg:cj b=true)(hb:∀x∈b,x<256): h_ (dw b n)=0∧cj (dw b n)=true∧QL (dw b n)=b.drop 12:=by
 have hl:=iQ hg
 obtain ⟨h1,h2,h3,h4⟩:=DZ (n:=n) hl
 have I:cj (dw b n)=true:=by rw [Kn (h2.trans hl.symm) h1]; exact hg
 have hz:cj (List.replicate 512 0)=false:=by decide +kernel
 have J:dw b n≠List.replicate 512 0:=fun e=>by rw [e,hz] at I; cases I
 have hc:xO 0 ((nB b n).drop 4)<4294967296:=AM (by decide) fun x hx=>Sn hb x (iH hx)
 refine ⟨?_,I,?_⟩
 ·rw [h_,ah J,ah (by rw [I]; decide),ah]
  rw [h4,h3,kY hc]; exact not_not_intro rfl
 ·rw [QL,ah (by rintro (h | h); exact h h2; exact J h),h1]
def pgA (ε:aE)(n:Int): List Nat:=match lookL n ε.1.aI with
 | some i=>match ε.1.aj[i.toNat]? with
  | some f=>f.b
  | none=>ε.2.2.at n
 | none=>ε.2.2.at n
structure Pb (N:Nat)(δ:Dk)(aI:List (Int×Int))(i:Nat)(f:Fm): Prop where
 lt:f.bn<N
 here:lookL f.bn aI=some (i:Int)
 aO:h_ f.b=0
 same:f.changed=false→f.b=δ.at f.bn
 pq:f.changed=true→cj f.b=true
structure EC (N:Nat)(ε:aE): Prop where
 dk:DA N ε.2.2
 nodup:(ε.1.aI.map (·.1)).Nodup
 kN:∀(n i:Int),lookL n ε.1.aI=some i→0≤n∧∃(j:Nat) (f:Fm),i=j∧ε.1.aj[j]?=some f∧f.bn=n
 back:∀(i:Nat) (f:Fm),ε.1.aj[i]?=some f→f.bn<0∨Pb N ε.2.2 ε.1.aI i f
 tB:∀k:Int,k∈ε.1.br.map (·.1)→0≤k∧k<N
 B5:(ε.1.br.map (·.1)).Nodup
theorem nV {ε:aE}{n:Int}{j:Nat}{f:Fm}(h:lookL n ε.1.aI=some (j:Int))(I:ε.1.aj[j]?=some f): pgA ε n=f.b:=by
 simp only [pgA,h,bP,I]
theorem mZ {ε:aE}{n:Int}(h:lookL n ε.1.aI=none): pgA ε n=ε.2.2.at n:=by simp only [pgA,h]
theorem EC.cases {N:Nat}{ε:aE}(h:EC N ε)(n:Int): (∃(j:Nat) (f:Fm),lookL n ε.1.aI=some (j:Int)∧ε.1.aj[j]?=some f∧f.bn=n∧0≤n∧Pb N ε.2.2 ε.1.aI j f∧pgA ε n=f.b)∨(lookL n ε.1.aI=none∧pgA ε n=ε.2.2.at n):=by
 cases I:lookL n ε.1.aI with
 | none=>exact .inr ⟨rfl,mZ I⟩
 | some i =>
  obtain ⟨h0,j,f,rfl,J,hp⟩:=h.kN n i I
  refine .inl ⟨j,f,rfl,J,hp,h0,?_,nV I J⟩
  rcases h.back j f J with h1 | h1
  ·omega
  ·exact h1
theorem ug {m:List Fm}{i j:Nat}{f g x:Fm}(hf:m[i]?=some f)(J:(m.set i g)[j]?=some x): (i=j∧x=g)∨(i≠j∧m[j]?=some x):=by
 by_cases I:i=j
 ·subst I
  rw [fu (List.getElem?_eq_some_iff.1 hf).1] at J
  exact .inl ⟨rfl,(bB J).symm⟩
 ·rw [eO I] at J
  exact .inr ⟨I,J⟩
theorem EC.set {N:Nat}{ε:aE}{i:Nat}{f g:Fm}{y:Lg}{δ:Dk}{d:List (Int×(Nat×Bool))}(h:EC N ε)(hf:ε.1.aj[i]?=some f)(hp:g.bn=f.bn)(tg:DA N δ)
 (hg:g.bn<0∨Pb N δ ε.1.aI i g)(ho:∀(j:Nat) (x:Fm),i≠j→ε.1.aj[j]?=some x→0≤x.bn→δ.at x.bn=ε.2.2.at x.bn)(hd:∀k:Int,k∈d.map (·.1)→0≤k∧k<N)(U7:(d.map (·.1)).Nodup):
  EC N ({ ε.1 with aj:=ε.1.aj.set i g,br:=d },(y,δ)):=by
 have hi:=(List.getElem?_eq_some_iff.1 hf).1
 refine ⟨tg,h.nodup,fun n k hk => ?_,fun j x J => ?_,hd,U7⟩
 ·obtain ⟨h0,j,x,rfl,J,yp⟩:=h.kN n k hk
  refine ⟨h0,j,?_⟩
  by_cases I:i=j
  ·subst I
   rw [hf] at J
   have:=bB J
   subst this
   exact ⟨g,rfl,fu hi,hp.trans yp⟩
  ·exact ⟨x,rfl,by show (ε.1.aj.set i g)[j]?=some x; rw [eO I]; exact J,yp⟩
 ·rcases ug hf J with ⟨rfl,rfl⟩ | ⟨I,J⟩
  ·exact hg
  ·rcases h.back j x J with h1 | h1
   ·exact .inl h1
   ·by_cases h2:x.bn<0
    ·exact .inl h2
    ·refine .inr ⟨h1.lt,h1.here,h1.aO,fun hc => ?_,h1.pq⟩
     rw [ho j x I J (by omega)]; exact h1.same hc
theorem IV {ε:aE}{i:Nat}{f g:Fm}{x:LD}{d:List (Int×(Nat×Bool))}(hf:ε.1.aj[i]?=some f)(hb:g.b=f.b){n:Int}(hx:lookL n ε.1.aI=none→x.2.at n=ε.2.2.at n)(hy:∀j:Int,lookL n ε.1.aI=some j→∃f',ε.1.aj[j.toNat]?=some f'):
  pgA ({ ε.1 with aj:=ε.1.aj.set i g,br:=d },x) n=pgA ε n:=by
 unfold pgA
 simp only
 cases hl:lookL n ε.1.aI with
 | none=>exact hx hl
 | some j =>
  simp only
  obtain ⟨f',J⟩:=hy j hl
  by_cases I:i=j.toNat
  ·subst I
   rw [fu (List.getElem?_eq_some_iff.1 hf).1,hf]
   exact hb
  ·rw [eO I,J]
theorem EC.there {N:Nat}{ε:aE}(h:EC N ε){n:Int}: ∀j:Int,lookL n ε.1.aI=some j→∃f',ε.1.aj[j.toNat]?=some f':=fun j I=>by
 obtain ⟨_,k,f,rfl,J,_⟩:=h.kN n j I
 exact ⟨f,by rw [bP]; exact J⟩
theorem EC.out {N:Nat}{ε:aE}{i:Nat}{f:Fm}(h:EC N ε)(I:ε.1.aj[i]?=some f):
  (outF ε i).1=0∧EC N (outF ε i).2∧(∀n,pgA (outF ε i).2 n=pgA ε n)∧(outF ε i).2.1.aI=ε.1.aI∧∃g,(outF ε i).2.1.aj[i]?=some g∧g.bn=f.bn∧(0≤g.bn→g.changed=false):=by
 have hi:=(List.getElem?_eq_some_iff.1 I).1
 unfold outF
 rw [I]
 simp only
 by_cases hc:f.bn<0∨f.changed=false
 ·rw [aq hc]
  exact ⟨rfl,h,fun n=>rfl,rfl,f,I,rfl,fun h0=>hc.resolve_left (by omega)⟩
 ·rw [ah hc]
  have J:0≤f.bn:=by omega
  have tM:f.changed=true:=by cases hq:f.changed <;> simp [hq] at hc ⊢
  have ho:=(h.back i f I).resolve_left (by omega)
  have hg:=ho.pq tM
  rw [ah (by rw [hg]; decide)]
  obtain ⟨e1,k1⟩:=DY (x:=ε.2) (n:=cT f.b 4 8) h.dk
  rw [ah (by rw [e1]; decide)]
  obtain ⟨e2,k2,k3⟩:=Pa (h.dk.of k1) J ho.lt (iQ hg) ho.aO
  rw [ah (by rw [e2]; decide)]
  have ud:∀m,f.bn≠m→((bH ε.2 (cT f.b 4 8)).2.2.dc f.bn f.b).2.at m=ε.2.2.at m:=fun m hm=>by rw [k3,ah hm,k1.at]
  refine ⟨rfl,h.set I rfl k2 (.inr ⟨ho.lt,ho.here,ho.aO,fun _ => ?_,fun hq=>(by cases hq)⟩) (fun j x Ah hx h0=>ud _ fun Gk => ?_) (fun k hk => ?_) (lS h.B5),fun n => ?_,rfl,_,fu hi,rfl,fun _=>rfl⟩
  ·simp only; rw [k3,aq rfl]
  ·rcases h.back j x hx with h1 | h1
   ·omega
   ·have:=h1.here
    rw [←Gk,ho.here] at this
    have:=bB this
    omega
  ·rcases sX.1 hk with rfl | hk
   ·exact ⟨J,ho.lt⟩
   ·exact h.tB k hk
  ·exact IV I (by rfl) (fun hn=>ud n fun e=>by rw [←e,ho.here] at hn; cases hn) h.there
theorem fD.back {π I:Pl}(J:fD π I){i:Nat}{x:Fm}(hx:I.aj[i]?=some x): ∃f t,π.aj[i]?=some f∧x={ f with eC:=t }:=by
 have hi:=(List.getElem?_eq_some_iff.1 hx).1
 rw [J.len] at hi
 have hf:π.aj[i]?=some (π.aj[i]'hi):=aN _
 obtain ⟨t,ht⟩:=J.get i _ hf
 rw [hx] at ht
 exact ⟨_,t,hf,bB ht⟩
theorem EC.qg {N:Nat}{ε:aE}{J:Pl}(h:EC N ε)(I:fD ε.1 J): EC N (J,ε.2)∧∀n,pgA (J,ε.2) n=pgA ε n:=by
 refine ⟨⟨h.dk,by rw [I.aI]; exact h.nodup,fun n i hi => ?_,fun i x hx => ?_,by rw [I.br]; exact h.tB,by rw [I.br]; exact h.B5⟩,fun n => ?_⟩
 ·rw [I.aI] at hi
  obtain ⟨h0,j,f,rfl,hf,hp⟩:=h.kN n i hi
  obtain ⟨t,ht⟩:=I.get j f hf
  exact ⟨h0,j,_,rfl,ht,hp⟩
 ·obtain ⟨f,t,hf,rfl⟩:=I.back hx
  rcases h.back i f hf with h1 | h1
  ·exact .inl h1
  ·exact .inr ⟨h1.lt,by rw [I.aI]; exact h1.here,h1.aO,h1.same,h1.pq⟩
 ·unfold pgA
  simp only [I.aI]
  cases hl:lookL n ε.1.aI with
  | none=>rfl
  | some i =>
   obtain ⟨h0,j,f,rfl,hf,hp⟩:=h.kN n i hl
   obtain ⟨t,ht⟩:=I.get j f hf
   simp only [bP,ht,hf]
theorem EC.cW {N:Nat}{ε:aE}{i:Nat}{f g:Fm}(h:EC N ε)(hg:ε.1.aj[i]?=some g)(hp:g.bn=f.bn)(hc:0≤g.bn→g.changed=false): EC N (cW ε.1 i f,ε.2)∧(∀n,pgA (cW ε.1 i f,ε.2) n=pgA ε n) ∧
  (cW ε.1 i f).aj[i]?=some ep∧∀n,lookL n ε.1.aI=none→lookL n (cW ε.1 i f).aI=none:=by
 have hi:=(List.getElem?_eq_some_iff.1 hg).1
 have Wi:(ε.1.aj.set i ep)[i]?=some ep:=fu hi
 have I:∀n,lookL n (Am.cW ε.1 i f).aI=if 0≤f.bn∧f.bn=n then none else lookL n ε.1.aI:=fun n=>by
  rw [Am.cW]
  by_cases h0:f.bn<0
  ·rw [aq h0,ah (by omega)]
  ·rw [ah h0,DJ h.nodup]
   by_cases hn:f.bn=n
   ·rw [aq hn,aq ⟨by omega,hn⟩]
   ·rw [ah hn,ah (by omega)]
 refine ⟨⟨h.dk,?_,fun n k hk => ?_,fun j x J => ?_,h.tB,h.B5⟩,fun n => ?_,Wi,fun n hn => ?_⟩
 ·rw [Am.cW]
  by_cases h0:f.bn<0
  ·rw [aq h0]; exact h.nodup
  ·rw [ah h0]; exact vZ h.nodup
 ·rw [I] at hk
  split at hk
  ·cases hk
  ·rename_i dz
   obtain ⟨h0,j,x,rfl,J,yp⟩:=h.kN n k hk
   refine ⟨h0,j,x,rfl,?_,yp⟩
   show (ε.1.aj.set i ep)[j]?=some x
   rw [eO]
   ·exact J
   ·rintro rfl
    rw [hg] at J
    have:=bB J
    subst this
    omega
 ·rcases ug hg J with ⟨rfl,rfl⟩ | ⟨Ah,J⟩
  ·exact .inl (by decide)
  ·rcases h.back j x J with h1 | h1
   ·exact .inl h1
   ·by_cases XA:x.bn<0
    ·exact .inl XA
    refine .inr ⟨h1.lt,?_,h1.aO,h1.same,h1.pq⟩
    rw [I,ah]
    ·exact h1.here
    ·rintro ⟨h0,Gk⟩
     rcases h.back i g hg with h2 | h2
     ·omega
     ·have e:=h2.here
      rw [hp,Gk,h1.here] at e
      have:=bB e
      omega
 ·rcases h.cases n with ⟨j,x,hl,J,yp,h0,ho,e⟩ | ⟨hl,e⟩
  ·rw [e]
   by_cases Gk:f.bn=n
   ·have Ah:i=j:=by
     rcases h.back i g hg with h2 | h2
     ·omega
     ·have e:=h2.here
      rw [hp,Gk,hl] at e
      have:=bB e
      omega
    subst Ah
    rw [hg] at J
    have:=bB J
    subst this
    rw [mZ (by rw [I,aq ⟨by omega,Gk⟩])]
    rw [ho.same (hc (by omega)),hp,Gk]
   ·refine nV (j:=j) (by rw [I,ah (by omega)]; exact hl) ?_
    show (ε.1.aj.set i ep)[j]?=some x
    rw [eO]
    ·exact J
    ·rintro rfl
     rw [hg] at J
     have:=bB J
     subst this
     omega
  ·rw [e,mZ (by rw [I]; split; rfl; exact hl)]
 ·rw [I]; split; rfl; exact hn
theorem EC.jd {N:Nat}{ε:aE}{i:Nat}{e:Fm}{n:Int}(h:EC N ε)(he:ε.1.aj[i]?=some e)(hp:e.bn<0)(hl:lookL n ε.1.aI=none)(h0:0≤n)(h1:n<N): EC N (jd ε.1 i n (ε.2.2.at n),ε.2)∧∀m,pgA (jd ε.1 i n (ε.2.2.at n),ε.2) m=pgA ε m:=by
 have hi:=(List.getElem?_eq_some_iff.1 he).1
 have J:(ε.1.aj.set i ⟨n,ε.2.2.at n,1,true,false⟩)[i]?=some ⟨n,ε.2.2.at n,1,true,false⟩:=fu hi
 have I:∀m,lookL m (Am.jd ε.1 i n (ε.2.2.at n)).aI=if n=m then some (i:Int) else lookL m ε.1.aI:=fun m=>qA _
 refine ⟨⟨h.dk,lS h.nodup,fun m k hk => ?_,fun j x hx => ?_,h.tB,h.B5⟩,fun m => ?_⟩
 ·rw [I] at hk
  split at hk
  ·rename_i F3
   have:=bB hk
   subst this
   subst F3
   exact ⟨h0,i,_,rfl,J,rfl⟩
  ·rename_i dz
   obtain ⟨h0,j,x,rfl,hx,yp⟩:=h.kN m k hk
   refine ⟨h0,j,x,rfl,?_,yp⟩
   show (ε.1.aj.set i _)[j]?=some x
   rw [eO]
   ·exact hx
   ·rintro rfl
    rw [he] at hx
    have:=bB hx
    subst this
    omega
 ·rcases ug he hx with ⟨rfl,rfl⟩ | ⟨Ah,hx⟩
  ·exact .inr ⟨h1,by rw [I,aq rfl],h.dk.good n h0 h1,fun _=>rfl,fun hq=>(by cases hq)⟩
  ·rcases h.back j x hx with h2 | h2
   ·exact .inl h2
   ·refine .inr ⟨h2.lt,?_,h2.aO,h2.same,h2.pq⟩
    rw [I,ah]
    ·exact h2.here
    ·rintro rfl
     rw [h2.here] at hl; cases hl
 ·by_cases F3:n=m
  ·subst F3
   rw [nV (j:=i) (by rw [I,aq rfl]) J,mZ hl]
  ·rcases h.cases m with ⟨j,x,jQ,hx,yp,_,ho,e2⟩ | ⟨jQ,e2⟩
   ·rw [e2]
    refine nV (j:=j) (by rw [I,ah F3]; exact jQ) ?_
    show (ε.1.aj.set i _)[j]?=some x
    rw [eO]
    ·exact hx
    ·rintro rfl
     rw [he] at hx
     have:=bB hx
     subst this
     omega
   ·rw [e2,mZ (by rw [I,ah F3]; exact jQ)]
theorem EC.frame {N:Nat}{ε:aE}{i:Nat}{f g:Fm}(h:EC N ε)(hf:ε.1.aj[i]?=some f)(J:g.bn=f.bn)(hb:g.b=f.b)(hc:g.changed=f.changed): EC N ({ ε.1 with aj:=ε.1.aj.set i g },ε.2)∧∀n,pgA ({ ε.1 with aj:=ε.1.aj.set i g },ε.2) n=pgA ε n:=by
 refine ⟨h.set (y:=ε.2.1) (δ:=ε.2.2) hf J h.dk ?_ (fun _ _ _ _ _=>rfl) h.tB h.B5,fun n=>IV hf hb (fun _=>rfl) h.there⟩
 rcases h.back i f hf with I | I
 ·exact .inl (by omega)
 ·exact .inr ⟨by rw [J]; exact I.lt,by rw [J]; exact I.here,by rw [hb]; exact I.aO,by rw [J,hb,hc]; exact I.same,by rw [hb,hc]; exact I.pq⟩
theorem fE.ec {N:Nat}{ε ε':aE}{n e:Int}{b:List Nat}(hr:fE ε n e b ε')(h:EC N ε): EC N ε'∧(∀m,pgA ε' m=pgA ε m)∧(0≤n→n<N→e=0∧b=pgA ε n)∧(¬(0≤n∧n<N)→e=1∧ε'=ε):=by
 have jY:=h.dk.aM
 cases hr with
 | arg I=>rw [jY] at I; exact ⟨h,fun _=>rfl,fun a b=>absurd ⟨a,b⟩ I,fun _=>⟨rfl,rfl⟩⟩
 | Ay i f h1 J hl hf =>
  rw [jY] at J
  obtain ⟨k1,k2⟩:=h.frame (g:={ f with eC:=true,pins:=f.pins+1 }) hf rfl rfl rfl
  exact ⟨k1,k2,fun _ _=>⟨rfl,(nV hl hf).symm⟩,fun I=>absurd ⟨h1,J⟩ I⟩
 | out gx i f h1 J hl I hf hh he=>exact absurd ((h.qg I).1.out hf).1 he
 | read gx i f h1 J hl I hf hh he hr =>
  obtain ⟨k1,k2,k3,k4,g,k5,k6,k7⟩:=(h.qg I).1.out hf
  refine absurd ?_ hr
  rw [jY] at J
  rw [Dk.qq,ah (by rw [k2.dk.alive]; decide),ah (by rw [k2.dk.aM]; exact not_not_intro ⟨h1,J⟩)]
 | bad gx i f h1 J hl I hf hh he hr hc =>
  obtain ⟨k1,k2,k3,k4,g,k5,k6,k7⟩:=(h.qg I).1.out hf
  rw [jY] at J
  exact absurd (k2.dk.good n h1 J) hc
 | load gx i f h1 J hl I hf hh he hr hc =>
  obtain ⟨n1,n2⟩:=h.qg I
  obtain ⟨k1,k2,k3,k4,g,k5,k6,k7⟩:=n1.out hf
  rw [jY] at J
  obtain ⟨f1,f2,f3,f4⟩:=k2.cW k5 k6 k7
  have jQ:lookL n (outF (gx,ε.2) i).2.1.aI=none:=by rw [k4]; show lookL n gx.aI=none; rw [I.aI]; exact hl
  obtain ⟨l1,l2⟩:=f1.jd f3 (by decide) (f4 n jQ) h1 J
  exact ⟨l1,fun m=>by rw [l2,f2,k3,n2],fun _ _=>⟨rfl,by rw [←n2,←k3,mZ jQ]⟩,fun I=>absurd ⟨h1,J⟩ I⟩
theorem MG {N:Nat}{π:Pl}{x:LD}{n:Int}(h:EC N (π,x)): EC N ((unpinF π n).2,x)∧∀m,pgA ((unpinF π n).2,x) m=pgA (π,x) m:=by
 unfold unpinF
 split
 ·exact ⟨h,fun _=>rfl⟩
 ·split
  ·exact ⟨h,fun _=>rfl⟩
  ·rename_i i hi f I
   exact h.frame (g:={ f with pins:=f.pins-1 }) I rfl rfl rfl
theorem mJ.ec {N:Nat}{ε ε':aE}{n e:Int}{b:List Nat}(I:mJ ε n e b ε')(h:EC N ε)(hp:∀f∈ε.1.aj,f.pins=0): EC N ε'∧(∀m,pgA ε' m=pgA ε m)∧(0≤n→n<N→e=0∧b=pgA ε n)∧(¬(0≤n∧n<N)→e=1∧ε'=ε):=by
 cases I with
 | dead J=>rw [h.dk.alive] at J; cases J
 | iV e b ε' J I he =>
  obtain ⟨k1,k2,k3,k4⟩:=I.ec h
  exact ⟨k1,k2,fun a b=>absurd (k3 a b).1 he,k4⟩
 | rD b ε' J I he=>exact absurd (I.AU hp).1 he
 | read b ε' J I he =>
  obtain ⟨k1,k2,k3,k4⟩:=I.ec h
  obtain ⟨u1,u2⟩:=MG (n:=n) k1
  refine ⟨u1,fun m=>by rw [u2]; exact k2 m,k3,fun hn=>absurd (k4 hn).1 (by decide)⟩
theorem oG.ec {N:Nat}{ε ε':aE}{now:List (Int×List Nat)}{n e:Int}{b:List Nat}(hr:oG ε now false n e b ε')(h:EC N ε)(hp:∀f∈ε.1.aj,f.pins=0): EC N ε'∧(∀m,pgA ε' m=pgA ε m) ∧
  (0≤n→n<N→e=0∧b=(match lookL n now with | some b=>b | none=>pgA ε n))∧(¬(0≤n∧n<N)→e=1):=by
 have I:=h.dk.aM
 cases hr with
 | arg J=>rw [I] at J; exact ⟨h,fun _=>rfl,fun a b=>absurd ⟨a,b⟩ J,fun _=>rfl⟩
 | bX _ _ ho=>cases ho
 | own b h1 h2 _ hl=>rw [I] at h2; exact ⟨h,fun _=>rfl,fun _ _=>⟨rfl,by rw [hl]⟩,fun J=>absurd ⟨h1,h2⟩ J⟩
 | read e b ε' h1 h2 _ hl hr =>
  rw [I] at h2
  obtain ⟨k1,k2,k3,k4⟩:=hr.ec h hp
  exact ⟨k1,k2,fun a b=>by rw [hl]; exact k3 a b,fun J=>absurd ⟨h1,h2⟩ J⟩
end Go.Proofs.YtefepnnfphdkpaaGreat.Am
