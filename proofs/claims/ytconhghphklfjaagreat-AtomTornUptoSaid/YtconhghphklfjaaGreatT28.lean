/- AtomTorn: a part of its proof; conditions: its statement's. -/
import Derived.Test.YtconhghphklfjaaGreatT27
set_option linter.defProp false
namespace Go.Proofs.YtconhghphklfjaaGreat.Am
open Go
def Ap:=@Tryz.underlying24
def Ie:=@Tryz.func20
def Lg.fresh : Lg:={ base:=1,b:=[],bu:=[],forced:=0,check:=0 }
theorem xP {P:Program}{E:List (Nat×V)}{h:H}{a b c t:Nat}{p v w x:V}(I:look E a=some p)(J:loadV P h t p=some v)(U:look E b=some w)(h3:look E c=some x): jz P E h [.cell a t,.tmp b,.tmp c]=some (.bE [v,w,x]):=by
 simp only [jz,mapO,resE,I,J,U,h3]
section
variable {told:dM} {h:H} {S:List ax} {X Y:ax} {r k q p bW a g aC:Nat} {op v x u wh di:V} {l b cV data eo:List Nat} {now:List (Int×List Nat)} {b9:Bool} {ε:aO} {μ:Lg} {δ:Dk}
theorem JA (U:W told)(s:Sat h (aG p δ::S))(hd:δ.dead=false)(hm:δ.mark=[])(hl:δ.log=[])(hc:δ.aJ=0):
  Call ⟨Tryz.prog,told⟩ 58 [.ptr p 0] h fun v h'=>∃q,v=.bE [.ptr q 0,.int .i64 0]∧Sat h' (bh q p Lg.fresh::aG p δ::S):=by
 refine Call.of_wp (U.free _ rfl) Tryz.func58 rfl rfl (zK 8 rfl (zc rfl (Dc U s (by rw [hm]; decide)) ?_))
 rintro v h (⟨I,_,_⟩ | ⟨_,b0,rfl,s⟩)
 ·rw [hd] at I; cases I
 rw [hm] at s
 refine zk 10 rfl (zh rfl (ah rfl rfl aV) (rfl) (zk 6 rfl (zo rfl (c8 rfl (by rw [Sv]; rfl)) ?_)))
 refine aB.cT s rfl rfl rfl (gL rfl rfl) (fun ZO h s => ?_)
 dsimp only [V.cells,List.take,List.length_cons,List.length_nil,Nat.reduceAdd,List.drop,List.cons_append,List.nil_append] at s
 refine zk 7 rfl ?_
 have s:=s.ae [2,0,0]
 dsimp only [bringA,getA,aU] at s
 refine zc rfl (T1 U s (by rw [hl]; decide)) ?_
 rintro v h (⟨I,_,_⟩ | ⟨_,b1,rfl,s⟩)
 ·rw [hd] at I; cases I
 rw [hl] at s
 have hv:=(s.buf (k:=0) rfl).view.cells
 refine zk 4 rfl (zf rfl (eO _ _) (zS rfl (s.ee (k:=2) rfl jM rfl (by decide) hv.1 hv.2) ?_))
 intro h s
 dsimp only [Nat.reduceAdd,List.set,setA] at s
 refine za rfl (zv (zg rfl (zm rfl (zh rfl (ah rfl rfl aV) (rfl) (zv (zj rfl (WP.skip (zw (zg rfl (zm rfl (zo rfl (bf rfl rfl rfl (by exact bj aS (s.aL (k:=3) rfl (bM _ _)))) ?_)))))))))))
 refine zv (WP.block (zg rfl (zt rfl (ah rfl rfl cB) (rfl) (za rfl (zv (zi rfl (WP.skip (zg rfl (za rfl (zv (zw (WP.block (WP.loop (zw (zg rfl (zk 3 rfl (zf rfl (eO _ _) (zl rfl (by exact s.ld (k:=2) rfl bO rfl) ?_))))))))))))))))))
 refine zo rfl (bf rfl rfl rfl (bj aS (s.aL (k:=0) rfl (bM _ _)))) (zh rfl (ah rfl rfl bB) (rfl) (zk 2 rfl (WP.exit (zK 6 rfl (zf rfl (eO _ _) (zl rfl (s.ld (k:=2) rfl bO rfl) (zo rfl (bf rfl rfl rfl (bj aS (s.aL (k:=0) rfl (bM _ _)))) (zh rfl (ah rfl rfl bB) (rfl) (zk 5 rfl ?_)))))))))
 have s0:=s
 have J:=dc (s.buf (k:=0) rfl).view
 refine WP.drawn [none,none,some (0,2),some (0,2),some (0,2),some (0,2),some (0,2),none] rfl (by kernel_rfl) (by kernel_rfl) ?_
 refine zM rfl (aA.any rfl rfl rfl rfl (OpR.call rfl rfl rfl rfl (BB U (s.ae [1]))) ?_)
 rintro v h' ⟨rfl,rfl⟩
 refine zM rfl (zN rfl (zF rfl (eO _ _) (zL rfl (s.ld (k:=2) rfl bO rfl) (zO rfl (bf rfl rfl rfl (bj aS (s.aL (k:=0) rfl (bM _ _)))) (aA.nD rfl rfl rfl rfl (ah rfl rfl bB) (by rw [show δ.xB=0 from hc]; rfl) ?_)))))
 refine aA.nil ⟨⟨aa,aa,fun _ _=>.inr ⟨rfl,⟨_,bn rfl⟩,aX _ rfl⟩,fun _ _=>.inr ⟨rfl,⟨_,kq rfl⟩,aX _ rfl⟩,fun _ _=>.inr ⟨rfl,⟨_,jI rfl (eO _ _)⟩,aX _ rfl⟩,dX (.inr ⟨rfl,⟨_,aW rfl (s0.ld (k:=2) rfl bO rfl)⟩,J⟩) (.inr ⟨rfl,⟨_,aW rfl (s.ld (k:=2) rfl bO rfl)⟩,J⟩),dX (.inr ⟨rfl,⟨_,bf rfl rfl rfl (bj aS (s0.aL (k:=0) rfl (bM _ _)))⟩,aX _ rfl⟩) (.inr ⟨rfl,⟨_,bf rfl rfl rfl (bj aS (s.aL (k:=0) rfl (bM _ _)))⟩,aX _ rfl⟩),aa,aa⟩,?_⟩
 refine zK 7 rfl (zf rfl (eO _ _) (zl rfl (s.ld (k:=2) rfl bO rfl) (zo rfl (bf rfl rfl rfl (bj aS (s.aL (k:=0) rfl (bM _ _)))) (zn rfl (zf rfl (pV _ _) ?_)))))
 refine zS rfl (by exact s.ee (k:=2) rfl jK rfl (by decide) rfl rfl) (fun h s => ?_)
 refine zk 7 rfl (WP.ret ⟨aa,_,rfl,?_⟩)
 have s1:=(s.del 3).qC (k:=1)
 refine ⟨_,rfl,dm.2 ⟨b1,.bz,?_⟩⟩
 exact s1.ae [3,1,0]
theorem OR (J:W told)(s:Sat h (bh q p μ::S))(I:μ.Ok): Call ⟨Tryz.prog,told⟩ 20 [.ptr q 0,.int .u64 ((μ.base:Int)+(μ.b.length:Int))] h fun v h'=>v=.bE [.agg (iI 0 0 0 0 .bz .bz),.int .u64 0,.int .i64 17]∧Sat h' (bh q p μ::S):=by
 refine Call.of_wp (J.free _ rfl) Ie rfl rfl (zg rfl ?_)
 refine aB.cT s rfl rfl rfl (cI rI) (fun U h s => ?_)
 refine zk 4 rfl (WP.block (zK 4 rfl ?_))
 have s:=s.ae [1]
 refine zc rfl (oh J s I.size) ?_
 rintro v h' ⟨rfl,rfl⟩
 refine zt rfl (ah rfl rfl cB) (by simp) ?_
 refine zk 5 rfl (zo rfl (c8 rfl (by rw [xq]; rfl)) ?_)
 refine zS rfl (s.ia (j:=1) rfl gM rfl rfl) (fun h s => ?_)
 refine zk 3 rfl ?_
 refine WP.ret ⟨aa,_,xP rfl (s.fM (k:=1) rfl nE gM) rfl rfl,?_⟩
 exact ⟨rfl,s.del 1⟩
theorem Rf (J:W told){n:Nat}(s:Sat h (bh q p μ::S))(I:μ.Ok)(hn:n<18446744073709551616)(gy:n≠μ.base+μ.b.length)(U:μ.hasB n=false): Call ⟨Tryz.prog,told⟩ 20 [.ptr q 0,.int .u64 (n:Int)] h fun v h'=>v=.bE [.agg (iI 0 0 0 0 .bz .bz),.int .u64 0,.int .i64 1]∧Sat h' (bh q p μ::S):=by
 refine Call.of_wp (J.free _ rfl) Ie rfl rfl (zg rfl ?_)
 refine aB.cT s rfl rfl rfl (cI rI) (fun p4 h s => ?_)
 refine zk 4 rfl (WP.block (zK 4 rfl ?_))
 have s:=s.ae [1]
 refine zc rfl (oh J s I.size) ?_
 rintro v h' ⟨rfl,rfl⟩
 refine zh rfl (ah rfl rfl cB) (by simp; omega) ?_
 refine zk 7 rfl (zc rfl (Bc (n:=n) J s I hn) ?_)
 rintro v h' ⟨rfl,rfl⟩
 refine zo rfl (dS rfl rfl) (zk 2 rfl (WP.LL rfl (by rw [U]; rfl) ?_))
 refine zg rfl (zo rfl (c8 rfl (by rw [xq]; rfl)) ?_)
 refine zS rfl (s.ia (j:=1) rfl gM rfl rfl) (fun h s => ?_)
 refine zk 3 rfl ?_
 refine WP.ret ⟨aa,_,xP rfl (s.fM (k:=1) rfl nE gM) rfl rfl,?_⟩
 exact ⟨rfl,s.del 1⟩
theorem Dt (hT:W told){n:Nat}(s:Sat h (bh q p μ::S))(J:μ.Ok)(hn:n<18446744073709551616)(I:n=μ.base+μ.b.length∨μ.hasB n=false): Call ⟨Tryz.prog,told⟩ 20 [.ptr q 0,.int .u64 (n:Int)] h fun v h'=>∃e:Int,e≠0∧v=.bE [.agg (iI 0 0 0 0 .bz .bz),.int .u64 0,.int .i64 e]∧Sat h' (bh q p μ::S):=by
 by_cases he:n=μ.base+μ.b.length
 ·have:=OR hT s J
  rw [show ((μ.base:Int)+(μ.b.length:Int))=((n:Nat):Int) by omega] at this
  exact this.mono fun v h' ⟨U,h2⟩=>⟨17,by decide,U,h2⟩
 ·rcases I with I | I
  ·exact absurd I he
  ·exact (Rf hT s J hn he I).mono fun v h' ⟨U,h2⟩=>⟨1,by decide,U,h2⟩
end
section
variable {told:dM} {h:H} {S:List ax} {X Y:ax} {r k q p bW a g aC:Nat} {op v x u wh di:V} {l b cV data eo:List Nat} {now:List (Int×List Nat)} {b9:Bool} {ε:aO} {μ:Lg} {δ:Dk}
theorem Mj (I:W told){n:Nat}(s:Sat h (cC a p q r op data aC::bh q p μ::S))(J:μ.Ok)(hn:n<18446744073709551616)(U:n=μ.base+μ.b.length∨μ.hasB n=false):
  Call ⟨Tryz.prog,told⟩ 62 [.ptr a 0,.int .u64 (n:Int)] h fun v h'=>v=.int .i64 0∧Sat h' (cC a p q r op data aC::bh q p μ::S):=by
 obtain ⟨dv,s⟩:=bL.1 s
 refine Call.of_wp (I.free _ rfl) Tryz.func62 rfl rfl (zK 6 rfl ?_)
 refine aB.zB s rfl rfl rfl rfl (fun p18 h s => ?_)
 refine aB.zB s rfl rfl rfl rfl (fun p19 h s => ?_)
 refine zo rfl (c8 rfl (by rw [SC]; rfl)) ?_
 refine aB.cT s rfl rfl rfl (gL rfl rfl) (fun Wx h s => ?_)
 refine zk 5 rfl (zo rfl (A2 rfl rfl) (zk 8 rfl (WP.block (WP.loop (WP.block (zK 4 rfl (zf rfl (lM _ _) (zl rfl (s.ld (k:=3) rfl nF rfl) (zm rfl ?_)))))))))
 have s1:=s.ae [5]
 refine zc rfl (Dt (n:=n) I s1 J hn U) ?_
 rintro v h ⟨e,he,rfl,s⟩
 refine zk 4 rfl ?_
 refine aB.cT s rfl rfl rfl (cI rI) (fun p8 h s => ?_)
 refine zS rfl (s.ia (j:=0) rfl gM rfl rfl) (fun h s => ?_)
 refine zk 7 rfl (zt rfl (ah rfl rfl aV) (by simp; exact he) ?_)
 have s:=uH (f:=fun v (b:List Nat)=>.ct v b) (s.ae [4])
 refine zk 2 rfl (WP.exit (zK 5 rfl (zf rfl (pZ _ _) (zl rfl (s.ld (k:=3) rfl mB rfl) (zc rfl (xM I s) ?_)))))
 rintro v h ⟨kb,rfl,s⟩
 refine zc rfl (qf I s (by decide) (by decide) (by simp)) ?_
 intro kv h s
 refine zo rfl (bf rfl rfl rfl (s.iP (n:=0) (j:=0) rfl rfl (by decide) eH)) ?_
 exact zk 2 rfl (WP.block (WP.loop (zg rfl (zh rfl (ah rfl rfl bB) (rfl) (zk 3 rfl (WP.exit (zK 5 rfl (zf rfl (pZ _ _) (zl rfl (s.ld (k:=5) rfl mB rfl) (zo rfl (bf rfl rfl rfl (B2 (s.ae [2]) lN)) (zt rfl (ah rfl rfl cB) (rfl) (zk 6 rfl (WP.ret ⟨aa,_,rfl,rfl,((((((bL.2 ⟨dv,s.ae [7,7,4]⟩).del 7).del 6).del 5).del 4).del 3).del 2⟩)))))))))))))
theorem Lg.Ig : Lg.fresh.Ok:=⟨by decide,by decide,by simp [Lg.fresh],List.Pairwise.nil,by decide,by decide,by decide⟩
theorem JB (I:W told){n:Nat}(s:Sat h (aG p δ::S))(h1:1≤n)(h2:n≤1024)(J:δ.dead=false)(hm:δ.mark=[])(U:δ.log=[])(hc:δ.aJ=0):
  Call ⟨Tryz.prog,told⟩ 21 [.ptr p 0,.int .i64 (n:Int)] h fun v h'=>∃a q r,v=.bE [.ptr a 0,.int .i64 0]∧Sat h' (cC a p q r .cK [] 0::cj r p q (Pl.fresh n)::bh q p Lg.fresh::aG p δ::S):=by
 refine Call.of_wp (I.free _ rfl) Tryz.func21 rfl rfl (zK 9 rfl (zh rfl (ah rfl rfl bB) (by simp <;> omega) ?_))
 refine zk 2 rfl (zh rfl (ah rfl rfl ep) (by simp <;> omega) ?_)
 refine zk 7 rfl (zc rfl (JA I s J hm U hc) ?_)
 rintro v h ⟨q,rfl,s⟩
 refine zk 10 rfl (zh rfl (ah rfl rfl aV) (rfl) (zk 8 rfl (zc rfl (KB (p:=p) (q:=q) (n:=n) I s) ?_)))
 rintro v h (⟨hn,_,_⟩ | ⟨_,_,r,rfl,s⟩)
 ·omega
 rw [cQ] at s
 refine zk 10 rfl (zh rfl (ah rfl rfl aV) (rfl) (zk 8 rfl (zo rfl (c8 rfl (by rw [Wd]; rfl)) ?_)))
 refine aB.cT s rfl rfl rfl (gL rfl rfl) (fun p44 h s => ?_)
 refine zk 5 rfl (zc rfl (vm I (s.ae [2])) ?_)
 rintro v h' ⟨rfl,rfl⟩
 refine zk 6 rfl (zc rfl (BC I (s.ae [2])) ?_)
 rintro v h' ⟨rfl,rfl⟩
 refine zk 5 rfl (zh rfl (ah rfl rfl aV) (rfl) (zk 8 rfl ?_))
 have s1:=bL.2 ⟨.bz,(s.r7).ae [1,0]⟩
 refine zc rfl (Mj (n:=1) I (s1.ae [0,1]) Lg.Ig (by decide) (.inl rfl)) ?_
 rintro v h ⟨rfl,s⟩
 exact zk 5 rfl (zh rfl (ah rfl rfl aV) (rfl) (zk 9 rfl (WP.ret ⟨aa,_,rfl,_,q,r,rfl,s.ae [0,1,0]⟩)))
end
def er (ε:aO): Int×aO:=if ε.2.2.dead=true then (9,ε) else if (writeAllF (aF ε.1.aE) ε).1≠0 then writeAllF (aF ε.1.aE) ε else
 ((cH (writeAllF (aF ε.1.aE) ε).2.1 (writeAllF (aF ε.1.aE) ε).2.2.2).1,((cH (writeAllF (aF ε.1.aE) ε).2.1 (writeAllF (aF ε.1.aE) ε).2.2.2).2.1,((writeAllF (aF ε.1.aE) ε).2.2.1,(cH (writeAllF (aF ε.1.aE) ε).2.1 (writeAllF (aF ε.1.aE) ε).2.2.2).2.2)))
section
variable {told:dM} {h:H} {S:List ax} {X Y:ax} {r k q p bW a g aC:Nat} {op v x u wh di:V} {l b cV data eo:List Nat} {now:List (Int×List Nat)} {b9:Bool} {ε:aO} {μ:Lg} {δ:Dk}
theorem KK (I:W told)(s:Sat h (cC a p q r op data aC::S)): Call ⟨Tryz.prog,told⟩ 19 [.ptr a 0] h fun v h'=>v=.ptr q 0∧h'=h:=by
 obtain ⟨dv,s⟩:=bL.1 s
 exact Call.of_wp (I.free _ rfl) Tryz.func19 rfl rfl (zK 8 rfl (zf rfl (lM _ _) (zl rfl (s.ld (k:=0) rfl nF rfl) (zk 2 rfl (WP.ret ⟨aa,_,rfl,rfl,rfl⟩)))))
theorem xQ (I:W told)(s:Sat h (cC a p q r op data aC::S)): Call ⟨Tryz.prog,told⟩ 37 [.ptr a 0] h fun v h'=>v=.ptr r 0∧h'=h:=by
 obtain ⟨dv,s⟩:=bL.1 s
 exact Call.of_wp (I.free _ rfl) Tryz.func37 rfl rfl (zK 8 rfl (zf rfl (oN _ _) (zl rfl (s.ld (k:=0) rfl vF rfl) (zk 2 rfl (WP.ret ⟨aa,_,rfl,rfl,rfl⟩)))))
theorem Rg (I:W told)(s:Sat h (cC a p q r op data aC::S)): Call ⟨Tryz.prog,told⟩ 40 [.ptr a 0] h fun v h'=>v=.ptr p 0∧h'=h:=by
 obtain ⟨dv,s⟩:=bL.1 s
 exact Call.of_wp (I.free _ rfl) Tryz.func40 rfl rfl (zK 8 rfl (zf rfl (qA _ _) (zl rfl (s.ld (k:=0) rfl jL rfl) (zk 2 rfl (WP.ret ⟨aa,_,rfl,rfl,rfl⟩)))))
theorem FK (J:W told){n:Nat}(s:Sat h (cC a p q r op data aC::bh q p μ::aG p δ::S))(I:μ.Ok)(U:δ.aD<4294967296):
  Call ⟨Tryz.prog,told⟩ 36 [.ptr a 0,.int .u64 (n:Int)] h fun v h'=>v=.int .i64 (aT (μ,δ) n).1∧Sat h' (cC a p q r op data aC::bh q p (aT (μ,δ) n).2.1::aG p (aT (μ,δ) n).2.2::S):=by
 obtain ⟨dv,s⟩:=bL.1 s
 refine Call.of_wp (J.free _ rfl) Tryz.func36 rfl rfl (zK 8 rfl (zf rfl (lM _ _) (zl rfl (s.ld (k:=0) rfl nF rfl) (zm rfl (zc rfl (EG (n:=n) J (s.ae [2,2]) I U) ?_)))))
 rintro v h ⟨rfl,s⟩
 exact zk 2 rfl (WP.ret ⟨aa,_,rfl,rfl,bL.2 ⟨dv,s.ae [2,2]⟩⟩)
theorem Cc (J:W2 told)(s:Sat h (cC a p q r .cK data aC::cj r p q ε.1::bh q p ε.2.1::aG p ε.2.2::S))(U:oB ε)(hw:ε.2.2.waiting.length+ε.1.aE.length≤268435456)(hm:ε.1.aE.length≤1048576)(hk:∀n∈ε.1.aE.map (·.1),(Lit.int .i64 n).wf=true)
 (kV:(writeAllF (aF ε.1.aE) ε).2.2.2.Ok)(I:∀e∈(writeAllF (aF ε.1.aE) ε).2.2.2.now,0≤e.1∧e.1<(writeAllF (aF ε.1.aE) ε).2.2.2.aq.length):
  Call ⟨Tryz.prog,told⟩ 26 [.ptr a 0] h fun v h'=>v=.int .i64 (er ε).1∧Sat h' (cC a p q r .cK data aC::cj r p q (er ε).2.1::bh q p (er ε).2.2.1::aG p (er ε).2.2.2::S):=by
 have s0:=s
 obtain ⟨dv,s⟩:=bL.1 s
 refine Call.of_wp (J.w.free _ rfl) Tryz.func26 rfl rfl (zK 5 rfl (WP.block (zK 4 rfl (zf rfl (uD _ _) (zl rfl (s.ld (k:=0) rfl Hf rfl) (zh rfl (ah rfl rfl (Gp uQ)) (rfl) (zk 7 rfl (zf rfl (qA _ _) (zl rfl (s.ld (k:=0) rfl jL rfl) (zc rfl (xC J.w (s.ae [4])) ?_))))))))))
 rintro v h ⟨rfl,rfl⟩
 refine zk 2 rfl ?_
 cases hd:ε.2.2.dead with
 | true =>
  refine zK 5 rfl (WP.ret ⟨aa,_,rfl,?_⟩)
  rw [er,aj hd]
  exact ⟨rfl,s0⟩
 | false =>
  refine zj rfl (WP.skip (zw (zg rfl (zk 2 rfl (zf rfl (oN _ _) (zl rfl (by exact s.ld (k:=0) rfl vF rfl) ?_))))))
  refine zc rfl (vI J.w (s.ae [2,2,2]) U hw hm hk) ?_
  rintro v h ⟨rfl,s⟩
  dsimp only [bringA,getA,aU] at s
  refine zk 5 rfl ?_
  by_cases he:(writeAllF (aF ε.1.aE) ε).1=0
  ·skip
   refine zh rfl (ah rfl rfl aV) (by simp; exact he) ?_
   refine zv (zj rfl (WP.skip (zg rfl (zk 2 rfl (zf rfl (oN _ _) (zl rfl (by exact s.ld (k:=3) rfl vF rfl) ?_))))))
   refine zc rfl (B9 J (s.ae [0,1]) kV I) ?_
   rintro v h ⟨rfl,s⟩
   refine zk 2 rfl (WP.ret ⟨aa,_,rfl,?_⟩)
   rw [er,af (by rw [hd]; decide),af (by simpa using he)]
   exact ⟨rfl,bL.2 ⟨dv,s.ae [3,3,0,1,0]⟩⟩
  ·skip
   refine zt rfl (ah rfl rfl aV) (by simp; exact he) ?_
   refine zk 7 rfl (WP.ret ⟨aa,_,rfl,?_⟩)
   rw [er,af (by rw [hd]; decide),aj he]
   exact ⟨rfl,bL.2 ⟨dv,s.ae [3,3,0,0,0]⟩⟩
end
section
variable {told:dM} {h:H} {S:List ax} {X Y:ax} {r k q p bW a g aC:Nat} {op v x u wh di:V} {l b cV data eo:List Nat} {now:List (Int×List Nat)} {b9:Bool} {ε:aO} {μ:Lg} {δ:Dk}
theorem Mk (I:W told){n m f:Nat}(s:Sat h S)(h1:1≤n)(h2:n≤65536)(h3:m≤16777216)(J:1≤f)(U:f≤1024):
  Call ⟨Tryz.prog,told⟩ 12 [.int .i64 (n:Int),.int .i64 (m:Int),.int .i64 (f:Int)] h fun v h'=>∃p a q r,v=.bE [.ptr p 0,.ptr a 0] ∧
   Sat h' (cC a p q r .cK [] 0::cj r p q (Pl.fresh f)::bh q p Lg.fresh::aG p (Dk.fresh n m)::S):=by
 refine Call.of_wp (I.free _ rfl) Tryz.func12 rfl rfl (zK 9 rfl (zc rfl (T4 (n:=(n:Int)) (m:=(m:Int)) I s) ?_))
 rintro v h (⟨hn,_,_⟩ | ⟨_,_,_,_,p,rfl,s⟩)
 ·omega
 rw [cQ,cQ] at s
 refine zk 10 rfl (zh rfl (ah rfl rfl aV) (rfl) (zk 2 rfl (zh rfl (ah rfl rfl (Dn Tryz.underlying23)) (rfl) (zk 8 rfl (zc rfl (JB (n:=f) I s J U rfl rfl rfl rfl) ?_)))))
 rintro v h ⟨a,q,r,rfl,s⟩
 exact zk 10 rfl (zh rfl (ah rfl rfl aV) (rfl) (zk 2 rfl (zh rfl (ah rfl rfl (Dn Ap)) (rfl) (zk 11 rfl (WP.ret ⟨aa,_,rfl,p,a,q,r,rfl,s⟩)))))
theorem Ml (I:W told)(s:Sat h (cC a p q r op data aC::S))(J:data.length<1073741824): Call ⟨Tryz.prog,told⟩ 32 [.ptr a 0] h fun v h'=>∃w,v=.bE [w,.int .u64 (aC:Int)]∧Sat h' (bK w data::cC a p q r op data aC::S):=by
 obtain ⟨dv,s⟩:=bL.1 s
 refine Call.of_wp (I.free _ rfl) Tryz.func32 rfl rfl (zK 6 rfl ?_)
 have s:=s.ae [1]
 have U:=s
 refine WP.drawn [ai,ai,ai,ai,ai,some (0,2),some (0,2),some (0,2),some (0,2),none,none] rfl (by kernel_rfl) (by kernel_rfl) ?_
 refine zM rfl (zN rfl (zF rfl (Hi _ _) (zL rfl (s.ld (k:=1) rfl bO rfl) (aA.any rfl rfl rfl rfl (OpR.call rfl rfl rfl rfl (kr I s (cJ _ _) J)) ?_))))
 intro w h s
 refine zM rfl (zN rfl (zF rfl (CZ _ _) (zL rfl (s.ld (k:=2) rfl gx rfl) (zA rfl (zA rfl ?_)))))
 refine aA.nil ⟨⟨aa,aa,aa,aa,aa,fun _ _=>.inr ⟨rfl,⟨_,bn rfl⟩,aX _ rfl⟩,fun _ _=>.inr ⟨rfl,⟨_,kq rfl⟩,aX _ rfl⟩,fun _ _=>.inr ⟨rfl,⟨_,jI rfl (CZ _ _)⟩,aX _ rfl⟩,dX (.inr ⟨rfl,⟨_,aW rfl (U.ld (k:=1) rfl gx rfl)⟩,aX _ rfl⟩) (.inr ⟨rfl,⟨_,aW rfl (s.ld (k:=2) rfl gx rfl)⟩,aX _ rfl⟩),aa,aa,aa⟩,?_⟩
 refine WP.ret ⟨aa,_,rfl,?_⟩
 exact ⟨w,rfl,(bL.2 ⟨dv,s.ae [2,1]⟩).ae [1]⟩
end
section
variable {P:Program} {h:H} {S:List ax} {k:Nat}
theorem EP (s:Sat h S){t e:TypeId}{z:V}(hu:P.underlying t=some (.slice e))(I:zeroT P e=some z)(J:bJ P e=some k)(U:z.cells.length=k)(h1:1≤k):
  ∃h',buildSliceV P h t 0 []=some (.sl h.next 0 0 (.exact 0),h')∧Sat h' (pt h.next (.cells 0 [] false)::S):=by
 refine ⟨newRow h [],?_,s.new _⟩
 simp only [buildSliceV,hu,J,I]
 rw [show (Nat.beq z.cells.length k&&Nat.ble (0*k) 65536&&Nat.ble 1 k)=true by rw [U,dx,aQ.2 (by omega),aQ.2 h1]; rfl,ag]
 simp only [repeatL,fillV,jY,ag]
theorem KL {id:Nat}(s:Sat h (pt id (.cells 0 [] false)::S)): Sat h (bK (.sl id 0 0 (.exact 0)) []::S) :=
 s.fY fun m r hm=>⟨by simp,.inr (.inl ⟨id,[],0,rfl,hm,rfl⟩)⟩
theorem Ur {id q:Nat}(s:Sat h (pt id (.cells 0 [] false)::S)): Sat h (.arr q (.sl id 0 0 (.exact 0)) []::S) :=
 s.fY fun m r hm=>⟨rfl,.inr ⟨id,0,.exact 0,0,[],rfl,hm,by simp,rfl,rfl,by simp,aI _⟩⟩
end
section
variable {told:dM} {h:H} {S:List ax} {X Y:ax} {r k q p bW a g aC:Nat} {op v x u wh di:V} {l b cV data eo:List Nat} {μ:Lg} {δ:Dk}
theorem OS (hT:W told)(s:Sat h (X::S))(I:cU X (cY x l))(hl:l.length≤1073741824): Call ⟨Tryz.prog,told⟩ 113 [x] h fun v h'=>Sat h' (bK v l::X::S):=by
 have hv:=s.aL (k:=0) rfl I
 refine Call.of_wp (hT.free _ rfl) Tryz.func113 rfl rfl (zK 8 rfl ?_)
 rcases hv.2 with ⟨rfl | ⟨ea,rfl⟩,rfl⟩ | ⟨id,off,cap,n,cs,st,rfl,_⟩
 ·refine zt rfl ((by exact ah rfl rfl (by simp only [binV,eqV,aS]; rfl))) (rfl) ?_
  exact zk 6 rfl (WP.ret ⟨aa,_,rfl,s.zI⟩)
 ·skip
  refine zh rfl ((by exact ah rfl rfl (by simp only [binV,eqV,aS]; rfl))) (rfl) ?_
  refine zk 5 rfl ?_
  obtain ⟨J,U,s1⟩:=EP (P:=Tryz.prog) s aS Zz Ss rfl (by decide)
  refine aB.any rfl rfl rfl (OpR.of (R:=fun v h'=>v=.sl h.next 0 0 (.exact 0)∧h'=J) (qu rfl U) ⟨rfl,rfl⟩) ?_
  rintro v h' ⟨rfl,rfl⟩
  have s:=KL s1
  refine zm rfl (aB.any rfl rfl rfl (OpR.oX rfl s I rfl rfl rfl rfl (by simp <;> omega)) ?_)
  intro w h s
  exact zk 2 rfl (WP.ret ⟨aa,_,rfl,s⟩)
 ·skip
  refine zh rfl ((by exact ah rfl rfl (by simp only [binV,eqV,aS]; rfl))) (rfl) ?_
  refine zk 5 rfl ?_
  obtain ⟨J,U,s1⟩:=EP (P:=Tryz.prog) s aS Zz Ss rfl (by decide)
  refine aB.any rfl rfl rfl (OpR.of (R:=fun v h'=>v=.sl h.next 0 0 (.exact 0)∧h'=J) (qu rfl U) ⟨rfl,rfl⟩) ?_
  rintro v h' ⟨rfl,rfl⟩
  have s:=KL s1
  refine zm rfl (aB.any rfl rfl rfl (OpR.oX rfl s I rfl rfl rfl rfl (by simp <;> omega)) ?_)
  intro w h s
  exact zk 2 rfl (WP.ret ⟨aa,_,rfl,s⟩)
end
def slF (v:V)(i:Nat): V:=match v with
 | .sl id off len (.exact c)=>.sl id (cond (Nat.beq c i) off (off+i*1)) (len-i) (.exact (c-i))
 | .sl id off len (.rest _ alt)=>.sl id (off+i*1) (len-i) (.rest 1 (cond (Nat.beq i 0) alt (cond (Nat.blt i len) (off+i*1) off)))
 | v=>v
theorem WO {P:Program}{h:H}{S:List ax}{v:V}{cs:List V}{i j:Nat}{t e:TypeId}(s:Sat h S)(hj:getA S j=some (.arr 1 v cs))(hi:i≤cs.length)(hu:P.underlying t=some (.slice e))(I:bJ P e=some 1):
  sliceV P h t v (some i) none none=some (slF v i)∧lenV P h t (slF v i)=some (.int .i64 ((cs.length-i:Nat):Int)) ∧
  ∀(m:Nat) (x:V),cs[i+m]?=some x→∃id off,indexAddrV P t (slF v i) (.int .i64 (m:Int))=some (.ptr id off)∧∀t',b_ P t'=some false→loadV P h t' (.ptr id off)=some x:=by
 obtain ⟨pm,r,h1,h2,h3⟩:=s.at hj
 rcases h3.2 with ⟨rfl,rfl⟩ | ⟨id,n,cap,N,rest,rfl,hg,e1,e2,_,e4⟩
 ·have:i=0:=by simpa using hi
  subst this
  refine ⟨?_,?_,fun m x hm=>by simp at hm⟩
  ·simp only [sliceV,hu,I]; rfl
  ·simp only [slF,lenV,hu]; rfl
 ·have uz:=h1 _ _ hg
  rw [dW] at e1
  have J:∀(m:Nat) (x:V),cs[i+m]?=some x→∀t',b_ P t'=some false→loadV P h t' (.ptr id (0+i*1+m*1))=some x:=fun m x hm t' ht=>by
   have U:=(List.getElem?_eq_some_iff.1 hm).1
   refine Kh ht uz ?_
   rw [fV,show 0+i*1+m*1=i+m by omega,kE U,hm]
  cases cap with
  | exact c =>
   obtain ⟨rfl,e5⟩:=e4
   refine ⟨?_,?_,fun m x hm => ?_⟩
   ·simp only [sliceV,hu,I,nV,eZ,slF]
    rw [show (Nat.ble i n&&Nat.ble n c)=true by rw [aQ.2 (by omega),aQ.2 e5]; rfl,ag]
   ·simp only [slF,lenV,hu,e1]
   ·have U:=(List.getElem?_eq_some_iff.1 hm).1
    refine ⟨id,0+i*1+m*1,?_,J m x hm⟩
    simp only [slF,indexAddrV,hu,I,cQ]
    rw [show (decide ((0:Int)≤(m:Int))&&decide ((m:Int)<((n-i:Nat):Int)))=true by simp; omega,ag,cS (by omega),ay]
  | rest q alt =>
   obtain ⟨rfl,rfl,rfl,e5⟩:=e4
   refine ⟨?_,?_,fun m x hm => ?_⟩
   ·simp only [sliceV,hu,I,nV,eZ,slF]
    rw [show (Nat.beq 1 1&&Nat.ble 1 1)=true from rfl,ag,show (Nat.ble i n&&(Nat.ble n n||Nat.ble n (kP h id 0 1)))=true by rw [aQ.2 (by omega:i≤n),aQ.2 (aI n)]; rfl,ag]
   ·simp only [slF,lenV,hu,e1]
   ·have U:=(List.getElem?_eq_some_iff.1 hm).1
    refine ⟨id,0+i*1+m*1,?_,J m x hm⟩
    simp only [slF,indexAddrV,hu,I,cQ]
    rw [show (decide ((0:Int)≤(m:Int))&&decide ((m:Int)<((n-i:Nat):Int)))=true by simp; omega,ag]
def vL (μ:Lg)(n:Nat): List Nat:=(μ.bu.filter fun s=>decide (n≤μ.base+s)).map fun s=>s-(n-μ.base)
def Lg.cut (μ:Lg)(n:Nat): Lg:={ base:=n,b:=μ.b.drop (n-μ.base),bu:=vL μ n,forced:=μ.forced-(n-μ.base),check:=μ.check }
def ir (x:LD)(n:Nat): Int×LD :=
 if (n≠x.1.base+x.1.b.length∧x.1.hasB n=false)∨x.1.base+x.1.forced<n∨(x.1.check≠0∧x.1.check<n) then (1,x) else
 if (x.2.nI ((n-x.1.base:Nat):Int) (eV n x.1.check)).1≠0 then ((x.2.nI ((n-x.1.base:Nat):Int) (eV n x.1.check)).1,(x.1,(x.2.nI ((n-x.1.base:Nat):Int) (eV n x.1.check)).2)) else
 (0,(x.1.cut n,(x.2.nI ((n-x.1.base:Nat):Int) (eV n x.1.check)).2))
theorem Us {μ:Lg}{n i:Nat}(h:Split μ n i): vL μ n=(μ.bu.drop i).map fun s=>s-(n-μ.base):=by
 have U:μ.bu.filter (fun s=>decide (n≤μ.base+s))=μ.bu.drop i:=by
  conv=>lhs; rw [←DT i μ.bu]
  rw [List.filter_append]
  have e1:(μ.bu.take i).filter (fun s=>decide (n≤μ.base+s))=[]:=by
   rw [List.filter_eq_nil_iff]
   intro s hs
   obtain ⟨j,I,rfl⟩:=List.mem_iff_getElem.1 hs
   have J:j<i:=by simp at I; omega
   have:=h.2.1 j _ J (by rw [bg (by simp at I; omega)])
   simp only [List.getElem_take] at this ⊢
   simp; omega
  have e2:(μ.bu.drop i).filter (fun s=>decide (n≤μ.base+s))=μ.bu.drop i:=by
   rw [List.filter_eq_self]
   intro s hs
   obtain ⟨j,I,rfl⟩:=List.mem_iff_getElem.1 hs
   have:=h.2.2 (i+j) _ (tH _ _) (by rw [bg (by simp at I; omega)])
   simp only [List.getElem_drop] at this ⊢
   simpa using this
  rw [e1,e2,cW]
 rw [vL,U]
theorem ER {μ:Lg}{n:Nat}(h:μ.hasB n=true): μ.base≤n:=by
 simp only [Lg.hasB,rf,dZ] at h
 obtain ⟨s,_,rfl⟩:=h
 exact tH _ _
section
variable {told:dM} {h:H} {S:List ax} {X Y:ax} {r k q p bW a g aC:Nat} {op v x u wh di:V} {l b cV data eo:List Nat} {μ:Lg} {δ:Dk}
theorem YI (hT:W told){n:Int}{x:V}{b:List Nat}(s:Sat h (aG p δ::X::S))(hX:cU X (cY x b))(I:δ.Ok):
  Call ⟨Tryz.prog,told⟩ 112 [.ptr p 0,.int .i64 n,x] h fun v h'=>v=.int .i64 (δ.nI n b).1∧Sat h' (aG p (δ.nI n b).2::X::S):=by
 refine (T2 hT s hX I.aD (by have:=I.len; omega) I.aJ).mono fun v h' hr => ?_
 unfold Dk.nI
 rcases hr with ⟨J,rfl,s⟩ | ⟨J,U,rfl,s⟩ | ⟨J,h1,h2,h3,U,rfl,s⟩ | ⟨J,h1,h2,h3,U,rfl,s⟩
 ·rw [aj J]; exact ⟨rfl,s⟩
 ·rw [af (by rw [J]; decide),aj U]; exact ⟨rfl,s⟩
 ·rw [af (by rw [J]; decide),af (by simp [h1,h2,h3]),aj U]; exact ⟨rfl,s⟩
 ·rw [af (by rw [J]; decide),af (by simp [h1,h2,h3]),af U]; exact ⟨rfl,s⟩
end
section
variable {told:dM} {h:H} {S:List ax} {X Y:ax} {r k q p bW a g aC:Nat} {op v x u wh di:V} {l b cV data eo:List Nat} {μ:Lg} {δ:Dk}
noncomputable def ctL : Code:=cM [1,1,1,1,1,1,0,1,0,0] ((Tryz.f71.body).getD .skip)
theorem Rh (hT:W told){i c:Nat}{sv:V}{nN:List Nat}{t1:V}(hi:i≤nN.length)(hb:∀s∈nN,s≤1099511627776)(hc:c≤1099511627776)(Sg:∀s∈nN.drop i,c≤s)(xG:nN.length≤16777216): ∀(j m:Nat) (nv:V) (h:H) (E:List (Nat×V)) (Q:Ex→List (Nat×V)→H→Prop),i+m+j=nN.length →
  Sat h (.arr 1 nv (gR (((nN.drop i).take m).map fun s=>s-c))::.arr 1 sv (gR nN)::S) →
  Has E [(0,.ptr q 0),(1,t1),(5,.int .i64 (c:Int)),(8,nv),(81,slF sv i),(82,.int .i64 ((nN.length-i:Nat):Int)),(83,.int .i64 (m:Int))] →
  (∀S0 E' h',Has E' [(0,.ptr q 0),(1,t1),(5,.int .i64 (c:Int)),(8,S0)]→Sat h' (.arr 1 S0 (gR ((nN.drop i).map fun s=>s-c))::.arr 1 sv (gR nN)::S)→Q (.exit 0) E' h') →
  WP ⟨Tryz.prog,told⟩ 121 (.loop ctL) E h Q:=by
 intro j
 induction j with
 | zero =>
  intro m nv h E Q hj s hE hx
  refine WP.loop (WP.has hE (zg rfl (zh rfl (ah rfl rfl bB) (by simp <;> omega) ?_)))
  refine zk 3 rfl (WP.exit ?_)
  rw [fR (by simp; omega)] at s
  exact hx nv _ _ ⟨rfl,rfl,rfl,rfl,aa⟩ s
 | succ j ih =>
  intro m nv h E Q hj s hE hx
  have I:nN[i+m]?=some (nN[i+m]'(by omega)):=bg _
  have J:nN[i+m]'(by omega)∈nN:=pI _
  have aaY:=Sg (nN[i+m]'(by omega)) (by
   have:(nN.drop i)[m]?=some (nN[i+m]'(by omega)):=by rw [jW,I]
   exact bw this)
  generalize (nN[i+m]'(by omega))=st at I J aaY
  have BD:=hb st J
  obtain ⟨_,_,SX⟩:=WO (P:=Tryz.prog) (i:=i) s (j:=1) rfl (by simp only [kz]; exact hi) eH jK
  obtain ⟨id,off,e1,e2⟩:=SX m (.int .i64 (st:Int)) (by simp [gR,I])
  have OT:(nN.drop i).take (m+1)=(nN.drop i).take m++[st]:=by rw [AG,jW,I]; rfl
  have U:((st:Int)-(c:Int))=((st-c:Nat):Int):=by omega
  refine WP.loop (WP.has hE (zg rfl (zt rfl (ah rfl rfl bB) (by simp <;> omega) ?_)))
  refine zk 5 rfl (WP.block (zg rfl (zo rfl (ej (r:=.ptr id off) rfl rfl e1) (zl rfl (e2 _ dA) (zk 6 rfl (zb rfl (by exact lV (aY (by omega) (by omega))) ?_))))))
  rw [U]
  obtain ⟨iv,h1,Ae,s1⟩:=oc (P:=Tryz.prog) (k:=1) (x:=.int .i64 ((st-c:Nat):Int)) s eH Fo jK rfl (by decide) (by decide) rfl rfl
  dsimp only [V.cells] at s1
  refine aB.any rfl rfl rfl (OpR.of (R:=fun v h'=>v=iv∧h'=h1) (qu rfl Ae) ⟨rfl,rfl⟩) ?_
  rintro v' h' ⟨rfl,rfl⟩
  obtain ⟨i1,lZ,kf,sR⟩:=xJ
  obtain ⟨KD,h2,uO,s2⟩:=jB (s1.ae [1,0]) eH lZ Fo kf (by omega) rfl (by decide) (by simp only [kz,eu,dP,nW,bl,bY]; omega)
  dsimp only [bringA,getA,aU] at s2
  refine aB.any rfl rfl rfl (OpR.of (R:=fun v h'=>v=KD∧h'=h2) (oT rfl rfl uO) ⟨rfl,rfl⟩) ?_
  rintro v' h' ⟨rfl,rfl⟩
  refine za rfl (zv (zr rfl (zb rfl (by exact bU (aY (by omega) (by omega))) ?_)))
  refine zm rfl (zv ?_)
  refine ih (m+1) _ _ _ Q (by omega) ?_ ⟨rfl,rfl,rfl,rfl,rfl,rfl,rfl,aa⟩ hx
  have e:gR (((nN.drop i).take (m+1)).map fun s=>s-c)=gR (((nN.drop i).take m).map fun s=>s-c)++[.int .i64 ((st-c:Nat):Int)]:=by
   rw [OT,AK]; simp [gR]
  rw [e]
  exact s2.del 1
noncomputable def ZZ : Code:=cM [1,1] ((Tryz.f71.body).getD .skip)
theorem Ri (hT:W told){n:Nat}{E:List (Nat×V)}{Q:Ex→List (Nat×V)→H→Prop}(s:Sat h (bh q p μ::aG p δ::S))(I:μ.Ok)(tv:δ.Ok)(h1:μ.base≤n)(h2:n≤μ.base+μ.forced)(hE:Has E [(0,.ptr q 0),(1,.int .u64 (n:Int))])
 (yo:∀E' h',(δ.nI ((n-μ.base:Nat):Int) (eV n μ.check)).1≠0→look E' 4=some (.int .i64 (δ.nI ((n-μ.base:Nat):Int) (eV n μ.check)).1)→Sat h' (bh q p μ::aG p (δ.nI ((n-μ.base:Nat):Int) (eV n μ.check)).2::S)→Q .ret E' h')
 (iG:∀E' h',(δ.nI ((n-μ.base:Nat):Int) (eV n μ.check)).1=0→look E' 4=some (.int .i64 0)→Sat h' (bh q p (μ.cut n)::aG p (δ.nI ((n-μ.base:Nat):Int) (eV n μ.check)).2::S)→Q .ret E' h'):
  WP ⟨Tryz.prog,told⟩ 121 ZZ E h Q:=by
 have xH:=I.size
 have Ut:=I.forced
 have hlen:=I.len
 have aaZ:n<18446744073709551616:=by omega
 have YJ:((n:Int)-(μ.base:Int))=((n-μ.base:Nat):Int):=by omega
 obtain ⟨bv,sv,s⟩:=dm.1 s
 refine WP.has hE (zK 5 rfl (zf rfl (gN _ _) (zl rfl (s.ld (k:=0) rfl gx rfl) (zb rfl (by exact lV (fb (by omega) (by omega))) ?_))))
 refine zo rfl (bZ rfl (by exact jJ cx bG (aY (by omega) (by omega)))) ?_
 refine zk 4 rfl ?_
 rw [YJ]
 have s0:=s
 refine WP.drawn [some (0,2),some (0,2),some (0,2),some (0,2),some (0,2),ai,ai,ai,ai,ai,ai,ai,ai,ai] rfl (by kernel_rfl) (by kernel_rfl) ?_
 refine zM rfl (zN rfl (zF rfl (pU _ _) (zL rfl (s.ld (k:=0) rfl jL rfl) (zM rfl (zM rfl (zM rfl (zM rfl (zN rfl (zF rfl (pW _ _) (zL rfl (s.ld (k:=0) rfl gx rfl) (aA.any rfl rfl rfl rfl (OpR.call rfl rfl rfl rfl (De (q:=q) (a:=n) (b:=μ.check) hT s)) ?_)))))))))))
 intro mv h s
 have s:=s.ae [1,1,1,1,0]
 have s1:=s
 refine aA.any rfl rfl rfl rfl (OpR.call rfl rfl rfl rfl (YI (n:=((n-μ.base:Nat):Int)) hT (s.ae [3,3]) (bM _ _) tv)) ?_
 rintro v h ⟨rfl,s⟩
 have s:=(s.del 1).ae [1,1,1,0]
 refine zA rfl ?_
 refine aA.nil ⟨⟨fun _ _=>.inr ⟨rfl,⟨_,bn rfl⟩,aX _ rfl⟩,fun _ _=>.inr ⟨rfl,⟨_,kq rfl⟩,aX _ rfl⟩,fun _ _=>.inr ⟨rfl,⟨_,jI rfl (pU _ _)⟩,aX _ rfl⟩,dX (.inr ⟨rfl,⟨_,aW rfl (s0.ld (k:=0) rfl jL rfl)⟩,aX _ rfl⟩) (.inr ⟨rfl,⟨_,aW rfl (s1.ld (k:=0) rfl jL rfl)⟩,aX _ rfl⟩),fun _ _=>.inr ⟨rfl,⟨_,bn rfl⟩,aX _ rfl⟩,aa,aa,aa,aa,aa,aa,aa,aa,aa,aa⟩,?_⟩
 refine zK 3 rfl ?_
 generalize hcf:δ.nI ((n-μ.base:Nat):Int) (eV n μ.check)=cf at s yo iG
 by_cases he:cf.1=0
 ·skip
  refine zh rfl (ah rfl rfl aV) (by simp; exact he) ?_
  have s:=dm.2 ⟨bv,sv,s⟩
  refine zk 7 rfl (zc rfl (ED (n:=n) hT s I aaZ) ?_)
  rintro v h' ⟨rfl,i,OU,rfl⟩
  obtain ⟨bv,sv,s⟩:=dm.1 s
  have hi:=OU.1
  have J:((μ.bu.length:Int)-(i:Int))=((μ.bu.length-i:Nat):Int):=by omega
  have xG:=I.many
  refine zk 6 rfl (zf rfl (jc _ _) (zl rfl (s.ld (k:=0) rfl qB rfl) (zo rfl (bf rfl rfl rfl (s.iP (n:=μ.bu.length) (j:=2) rfl (by simp [kz]) (by decide) eH)) ?_)))
  refine zm rfl (zb rfl (by exact lV (aY (by omega) (by omega))) ?_)
  rw [J]
  obtain ⟨i1,lZ,kf,sR⟩:=xJ
  obtain ⟨nv,OV,e1,s1⟩:=vk (P:=Tryz.prog) s eH lZ Fo kf (by omega) rfl (by decide) (by decide) (n:=0) (c:=μ.bu.length-i) (by omega) (by omega)
  dsimp only [repeatL] at s1
  refine aB.any rfl rfl rfl (OpR.of (R:=fun v h'=>v=nv∧h'=OV) (rY rfl rfl e1) ⟨rfl,rfl⟩) ?_
  rintro v h' ⟨rfl,rfl⟩
  have s:=s1.ae [0,2,0,0]
  have WQ:=WO (P:=Tryz.prog) (i:=i) s (j:=1) rfl (by simp only [kz]; exact hi) eH jK
  have Fa:=WQ.2.1
  rw [kz] at Fa
  refine zk 7 rfl (zf rfl (jc _ _) (zl rfl (s.ld (k:=2) rfl qB rfl) (zm rfl (zo rfl (cF (p:=some (.int .i64 (i:Int))) (q:=none) (m:=none) (p':=some i) (q':=none) (m':=none) rfl rfl rfl rfl (by rw [fO (by omega)]; rfl) rfl rfl WQ.1) ?_))))
  refine zo rfl (bf rfl rfl rfl Fa) (zk 2 rfl (WP.block ?_))
  refine Rh hT (q:=q) (t1:=.int .u64 (n:Int)) (i:=i) (c:=n-μ.base) (nN:=μ.bu) hi (fun x hx => ?_) (by omega) (fun x hx => ?_) xG (μ.bu.length-i) 0 _ _ _ _ (by omega) s ⟨rfl,rfl,rfl,rfl,rfl,rfl,rfl,aa⟩ (fun S0 E' h' iH s' => ?_)
  ·have:=I.low x hx; omega
  ·obtain ⟨j,hj,rfl⟩:=List.mem_iff_getElem.1 hx
   have:=OU.2.2 (i+j) _ (tH _ _) (by rw [bg (by simp at hj; omega)])
   simp only [List.getElem_drop] at this ⊢
   omega
  ·have s:=s'
   rw [←Us OU] at s
   have KM:=s.kU (j:=0) rfl
   have OW:=(s.buf (k:=3) rfl).view
   have lK:=eC OW (a:=n-μ.base) (by omega)
   have Wq:=dc OW
   have BD:=dc lK.2.1
   have U:((μ.forced:Int)-((n-μ.base:Nat):Int))=((μ.forced-(n-μ.base):Nat):Int):=by omega
   refine WP.has iH (zw ?_)
   have s0:=s
   refine WP.drawn [some (0,2),some (0,3),some (0,4),some (0,5),some (0,2),ai,ai,ai,ai,ai,ai,ai,some (0,4),some (0,2),some (0,2),some (0,2),some (0,2),some (0,5),some (0,5),ai,ai,ai,ai,ai,ai,ai,ai,ai,ai,ai,ai] rfl (by kernel_rfl) (by kernel_rfl) ?_
   refine zM rfl (zM rfl (zM rfl (zM rfl (zM rfl (zM rfl (zN rfl (zF rfl (eO _ _) (zL rfl (s.ld (k:=2) rfl bO rfl) (zM rfl (zO rfl (cF (p:=some (.int .i64 ((n-μ.base:Nat):Int))) (q:=none) (m:=none) (p':=some (n-μ.base)) (q':=none) (m':=none) rfl rfl rfl rfl (by rw [fO (by omega)]; rfl) rfl rfl lK.1) ?_))))))))))
   refine aA.any rfl rfl rfl rfl (OpR.call rfl rfl rfl rfl (OS hT (s.ae [3]) (od (bM _ _) (by omega)) (by simp; omega))) ?_
   intro w h s
   have hw:=(s.buf (k:=0) rfl).view.cells
   have s1:=s
   refine zM rfl (zM rfl (zN rfl (zF rfl (pV _ _) (zL rfl (s.ld (k:=4) rfl dA rfl) (zM rfl (zO rfl (ah rfl rfl (by exact lV (aY (by omega) (by omega)))) ?_))))))
   refine zN rfl (zF rfl (gN _ _) (aA.h_ rfl rfl rfl (OpR.eA rfl rfl rfl (s.ee (k:=4) rfl rH rfl (by decide) rfl rfl)) ?_))
   rintro v h ⟨rfl,s⟩
   have s2:=s
   refine zN rfl (zF rfl (eO _ _) (aA.h_ rfl rfl rfl (OpR.eA rfl rfl rfl (s.ee (k:=4) rfl jM rfl (by decide) hw.1 hw.2)) ?_))
   rintro v h ⟨rfl,s⟩
   have s3:=s
   refine zN rfl (zF rfl (jc _ _) (aA.h_ rfl rfl rfl (OpR.eA rfl rfl rfl (s.ee (k:=4) rfl Qr rfl (by decide) KM.1 KM.2.1)) ?_))
   rintro v h ⟨rfl,s⟩
   have s4:=s
   refine zN rfl (zF rfl (pV _ _) (aA.h_ rfl rfl rfl (OpR.eA rfl rfl rfl (s.ee (k:=4) rfl jK rfl (by decide) rfl rfl)) ?_))
   rintro v h ⟨rfl,s⟩
   refine aA.nil ⟨⟨fun _ _=>.inr ⟨rfl,⟨_,bn rfl⟩,aX _ rfl⟩,fun _ _=>.inr ⟨rfl,⟨_,bn rfl⟩,aX _ rfl⟩,fun _ _=>.inr ⟨rfl,⟨_,bn rfl⟩,aX _ rfl⟩,fun _ _=>.inr ⟨rfl,⟨_,bn rfl⟩,aX _ rfl⟩,fun _ _=>.inr ⟨rfl,⟨_,bn rfl⟩,aX _ rfl⟩,aa,aa,aa,aa,aa,aa,aa,fun _ _=>.inr ⟨rfl,⟨_,bn rfl⟩,KM.2.2⟩,fun _ _=>.inr ⟨rfl,⟨_,bn rfl⟩,aX _ rfl⟩,fun _ _=>.inr ⟨rfl,⟨_,kq rfl⟩,aX _ rfl⟩,fun _ _=>.inr ⟨rfl,⟨_,jI rfl (pV _ _)⟩,aX _ rfl⟩,dX (.inr ⟨rfl,⟨_,aW rfl (s0.ld (k:=2) rfl dA rfl)⟩,aX _ rfl⟩) (.inr ⟨rfl,⟨_,aW rfl (s1.ld (k:=4) rfl dA rfl)⟩,aX _ rfl⟩),fun _ _=>.inr ⟨rfl,⟨_,bn rfl⟩,aX _ rfl⟩,fun _ _=>.inr ⟨rfl,⟨_,ah rfl rfl (by exact lV (aY (by omega) (by omega)))⟩,aX _ rfl⟩,aa,aa,aa,aa,aa,aa,aa,aa,aa,aa,aa,aa,aa⟩,?_⟩
   refine zK 4 rfl (WP.ret ?_)
   rw [U] at s
   refine iG _ _ he rfl (dm.2 ⟨w,S0,?_⟩)
   exact ((s.ae [4,0,1,2]).del 5).del 4
 ·skip
  refine zt rfl (ah rfl rfl aV) (by simp; exact he) ?_
  exact zk 7 rfl (WP.ret (yo _ _ he rfl (dm.2 ⟨bv,sv,s⟩)))
end
end Go.Proofs.YtconhghphklfjaaGreat.Am
