/- AtomSame: a part of its proof; conditions: its statement's. -/
import Derived.Test.YtconhghphklfjaaGreatS27
set_option linter.defProp false
namespace Go.Proofs.YtconhghphklfjaaGreat.Am
open Go
def y8:=@Tryz.underlying24
def Hz:=@Tryz.func20
def Lg.fresh : Lg:={ base:=1,b:=[],bw:=[],forced:=0,check:=0 }
theorem xh {P:Program}{E:List (Nat×V)}{h:H}{a b c t:Nat}{p v w x:V}(I:look E a=some p)(J:loadV P h t p=some v)(U:look E b=some w)(h3:look E c=some x): jl P E h [.cell a t,.tmp b,.tmp c]=some (.bD [v,w,x]):=by
 simp only [jl,mapO,resE,I,J,U,h3]
section
variable {told:dF} {h:H} {S:List ax} {X Y:ax} {r k q p bV a g aD:Nat} {op v x u wh di:V} {l b cP data dX:List Nat} {now:List (Int×List Nat)} {b_:Bool} {ε:aM} {μ:Lg} {δ:Dk}
theorem I8 (U:W told)(s:Sat h (aC p δ::S))(hd:δ.dead=false)(hm:δ.mark=[])(hl:δ.log=[])(hc:δ.aR=0):
  Call ⟨Tryz.prog,told⟩ 58 [.ptr p 0] h fun v h'=>∃q,v=.bD [.ptr q 0,.int .i64 0]∧Sat h' (bf q p Lg.fresh::aC p δ::S):=by
 refine Call.of_wp (U.free _ rfl) Tryz.func58 rfl rfl (zK 8 rfl (zc rfl (Cv U s (by rw [hm]; decide)) ?_))
 rintro v h (⟨I,_,_⟩ | ⟨_,b0,rfl,s⟩)
 ·rw [hd] at I; cases I
 rw [hm] at s
 refine zk 10 rfl (zh rfl (ag rfl rfl aX) (rfl) (zk 6 rfl (zo rfl (cX rfl (by rw [RB]; rfl)) ?_)))
 refine aB.cO s rfl rfl rfl (gw rfl rfl) (fun Yv h s => ?_)
 dsimp only [V.cells,List.take,List.length_cons,List.length_nil,Nat.reduceAdd,List.drop,List.cons_append,List.nil_append] at s
 refine zk 7 rfl ?_
 have s:=s.ae [2,0,0]
 dsimp only [bringA,getA,aU] at s
 refine zc rfl (S4 U s (by rw [hl]; decide)) ?_
 rintro v h (⟨I,_,_⟩ | ⟨_,b1,rfl,s⟩)
 ·rw [hd] at I; cases I
 rw [hl] at s
 have hv:=(s.buf (k:=0) rfl).view.cells
 refine zk 4 rfl (zf rfl (eD _ _) (zS rfl (s.dZ (k:=2) rfl jy rfl (by decide) hv.1 hv.2) ?_))
 intro h s
 dsimp only [Nat.reduceAdd,List.set,setA] at s
 refine za rfl (zv (zg rfl (zm rfl (zh rfl (ag rfl rfl aX) (rfl) (zv (zj rfl (WP.skip (zw (zg rfl (zm rfl (zo rfl (a_ rfl rfl rfl (by exact bh aS (s.aG (k:=3) rfl (bI _ _)))) ?_)))))))))))
 refine zv (WP.block (zg rfl (zt rfl (ag rfl rfl bR) (rfl) (za rfl (zv (zi rfl (WP.skip (zg rfl (za rfl (zv (zw (WP.block (WP.loop (zw (zg rfl (zk 3 rfl (zf rfl (eD _ _) (zl rfl (by exact s.ld (k:=2) rfl bL rfl) ?_))))))))))))))))))
 refine zo rfl (a_ rfl rfl rfl (bh aS (s.aG (k:=0) rfl (bI _ _)))) (zh rfl (ag rfl rfl bx) (rfl) (zk 2 rfl (WP.exit (zK 6 rfl (zf rfl (eD _ _) (zl rfl (s.ld (k:=2) rfl bL rfl) (zo rfl (a_ rfl rfl rfl (bh aS (s.aG (k:=0) rfl (bI _ _)))) (zh rfl (ag rfl rfl bx) (rfl) (zk 5 rfl ?_)))))))))
 have s0:=s
 have J:=cY (s.buf (k:=0) rfl).view
 refine WP.drawn [none,none,some (0,2),some (0,2),some (0,2),some (0,2),some (0,2),none] rfl (by kernel_rfl) (by kernel_rfl) ?_
 refine zM rfl (aA.any rfl rfl rfl rfl (OpR.call rfl rfl rfl rfl (A2 U (s.ae [1]))) ?_)
 rintro v h' ⟨rfl,rfl⟩
 refine zM rfl (zN rfl (zF rfl (eD _ _) (zL rfl (s.ld (k:=2) rfl bL rfl) (zO rfl (a_ rfl rfl rfl (bh aS (s.aG (k:=0) rfl (bI _ _)))) (aA.nh rfl rfl rfl rfl (ag rfl rfl bx) (by rw [show δ.wS=0 from hc]; rfl) ?_)))))
 refine aA.nil ⟨⟨aa,aa,fun _ _=>.inr ⟨rfl,⟨_,bk rfl⟩,aW _ rfl⟩,fun _ _=>.inr ⟨rfl,⟨_,jZ rfl⟩,aW _ rfl⟩,fun _ _=>.inr ⟨rfl,⟨_,jv rfl (eD _ _)⟩,aW _ rfl⟩,dP (.inr ⟨rfl,⟨_,aV rfl (s0.ld (k:=2) rfl bL rfl)⟩,J⟩) (.inr ⟨rfl,⟨_,aV rfl (s.ld (k:=2) rfl bL rfl)⟩,J⟩),dP (.inr ⟨rfl,⟨_,a_ rfl rfl rfl (bh aS (s0.aG (k:=0) rfl (bI _ _)))⟩,aW _ rfl⟩) (.inr ⟨rfl,⟨_,a_ rfl rfl rfl (bh aS (s.aG (k:=0) rfl (bI _ _)))⟩,aW _ rfl⟩),aa,aa⟩,?_⟩
 refine zK 7 rfl (zf rfl (eD _ _) (zl rfl (s.ld (k:=2) rfl bL rfl) (zo rfl (a_ rfl rfl rfl (bh aS (s.aG (k:=0) rfl (bI _ _)))) (zn rfl (zf rfl (pG _ _) ?_)))))
 refine zS rfl (by exact s.dZ (k:=2) rfl jK rfl (by decide) rfl rfl) (fun h s => ?_)
 refine zk 7 rfl (WP.ret ⟨aa,_,rfl,?_⟩)
 have s1:=(s.del 3).qg (k:=1)
 refine ⟨_,rfl,c8.2 ⟨b1,.bA,?_⟩⟩
 exact s1.ae [3,1,0]
theorem N7 (J:W told)(s:Sat h (bf q p μ::S))(I:μ.Ok): Call ⟨Tryz.prog,told⟩ 20 [.ptr q 0,.int .u64 ((μ.base:Int)+(μ.b.length:Int))] h fun v h'=>v=.bD [.agg (iy 0 0 0 0 .bA .bA),.int .u64 0,.int .i64 17]∧Sat h' (bf q p μ::S):=by
 refine Call.of_wp (J.free _ rfl) Hz rfl rfl (zg rfl ?_)
 refine aB.cO s rfl rfl rfl (cH qU) (fun U h s => ?_)
 refine zk 4 rfl (WP.block (zK 4 rfl ?_))
 have s:=s.ae [1]
 refine zc rfl (nQ J s I.size) ?_
 rintro v h' ⟨rfl,rfl⟩
 refine zt rfl (ag rfl rfl bR) (by simp) ?_
 refine zk 5 rfl (zo rfl (cX rfl (by rw [wK]; rfl)) ?_)
 refine zS rfl (s.gX (j:=1) rfl gy rfl rfl) (fun h s => ?_)
 refine zk 3 rfl ?_
 refine WP.ret ⟨aa,_,xh rfl (s.fE (k:=1) rfl ni gy) rfl rfl,?_⟩
 exact ⟨rfl,s.del 1⟩
theorem Qr (J:W told){n:Nat}(s:Sat h (bf q p μ::S))(I:μ.Ok)(hn:n<18446744073709551616)(fY:n≠μ.base+μ.b.length)(U:μ.hasB n=false): Call ⟨Tryz.prog,told⟩ 20 [.ptr q 0,.int .u64 (n:Int)] h fun v h'=>v=.bD [.agg (iy 0 0 0 0 .bA .bA),.int .u64 0,.int .i64 1]∧Sat h' (bf q p μ::S):=by
 refine Call.of_wp (J.free _ rfl) Hz rfl rfl (zg rfl ?_)
 refine aB.cO s rfl rfl rfl (cH qU) (fun p4 h s => ?_)
 refine zk 4 rfl (WP.block (zK 4 rfl ?_))
 have s:=s.ae [1]
 refine zc rfl (nQ J s I.size) ?_
 rintro v h' ⟨rfl,rfl⟩
 refine zh rfl (ag rfl rfl bR) (by simp; omega) ?_
 refine zk 7 rfl (zc rfl (Az (n:=n) J s I hn) ?_)
 rintro v h' ⟨rfl,rfl⟩
 refine zo rfl (dA rfl rfl) (zk 2 rfl (WP.La rfl (by rw [U]; rfl) ?_))
 refine zg rfl (zo rfl (cX rfl (by rw [wK]; rfl)) ?_)
 refine zS rfl (s.gX (j:=1) rfl gy rfl rfl) (fun h s => ?_)
 refine zk 3 rfl ?_
 refine WP.ret ⟨aa,_,xh rfl (s.fE (k:=1) rfl ni gy) rfl rfl,?_⟩
 exact ⟨rfl,s.del 1⟩
theorem CO (hT:W told){n:Nat}(s:Sat h (bf q p μ::S))(J:μ.Ok)(hn:n<18446744073709551616)(I:n=μ.base+μ.b.length∨μ.hasB n=false): Call ⟨Tryz.prog,told⟩ 20 [.ptr q 0,.int .u64 (n:Int)] h fun v h'=>∃e:Int,e≠0∧v=.bD [.agg (iy 0 0 0 0 .bA .bA),.int .u64 0,.int .i64 e]∧Sat h' (bf q p μ::S):=by
 by_cases he:n=μ.base+μ.b.length
 ·have:=N7 hT s J
  rw [show ((μ.base:Int)+(μ.b.length:Int))=((n:Nat):Int) by omega] at this
  exact this.mono fun v h' ⟨U,h2⟩=>⟨17,by decide,U,h2⟩
 ·rcases I with I | I
  ·exact absurd I he
  ·exact (Qr hT s J hn he I).mono fun v h' ⟨U,h2⟩=>⟨1,by decide,U,h2⟩
end
section
variable {told:dF} {h:H} {S:List ax} {X Y:ax} {r k q p bV a g aD:Nat} {op v x u wh di:V} {l b cP data dX:List Nat} {now:List (Int×List Nat)} {b_:Bool} {ε:aM} {μ:Lg} {δ:Dk}
theorem LI (I:W told){n:Nat}(s:Sat h (cx a p q r op data aD::bf q p μ::S))(J:μ.Ok)(hn:n<18446744073709551616)(U:n=μ.base+μ.b.length∨μ.hasB n=false):
  Call ⟨Tryz.prog,told⟩ 62 [.ptr a 0,.int .u64 (n:Int)] h fun v h'=>v=.int .i64 0∧Sat h' (cx a p q r op data aD::bf q p μ::S):=by
 obtain ⟨dv,s⟩:=bM.1 s
 refine Call.of_wp (I.free _ rfl) Tryz.func62 rfl rfl (zK 6 rfl ?_)
 refine aB.yu s rfl rfl rfl rfl (fun p18 h s => ?_)
 refine aB.yu s rfl rfl rfl rfl (fun p19 h s => ?_)
 refine zo rfl (cX rfl (by rw [RJ]; rfl)) ?_
 refine aB.cO s rfl rfl rfl (gw rfl rfl) (fun Vx h s => ?_)
 refine zk 5 rfl (zo rfl (Al rfl rfl) (zk 8 rfl (WP.block (WP.loop (WP.block (zK 4 rfl (zf rfl (kY _ _) (zl rfl (s.ld (k:=3) rfl nj rfl) (zm rfl ?_)))))))))
 have s1:=s.ae [5]
 refine zc rfl (CO (n:=n) I s1 J hn U) ?_
 rintro v h ⟨e,he,rfl,s⟩
 refine zk 4 rfl ?_
 refine aB.cO s rfl rfl rfl (cH qU) (fun p8 h s => ?_)
 refine zS rfl (s.gX (j:=0) rfl gy rfl rfl) (fun h s => ?_)
 refine zk 7 rfl (zt rfl (ag rfl rfl aX) (by simp; exact he) ?_)
 have s:=ud (f:=fun v (b:List Nat)=>.ct v b) (s.ae [4])
 refine zk 2 rfl (WP.exit (zK 5 rfl (zf rfl (pK _ _) (zl rfl (s.ld (k:=3) rfl l_ rfl) (zc rfl (w_ I s) ?_)))))
 rintro v h ⟨kb,rfl,s⟩
 refine zc rfl (pP I s (by decide) (by decide) (by simp)) ?_
 intro kv h s
 refine zo rfl (a_ rfl rfl rfl (s.iH (n:=0) (j:=0) rfl rfl (by decide) eu)) ?_
 exact zk 2 rfl (WP.block (WP.loop (zg rfl (zh rfl (ag rfl rfl bx) (rfl) (zk 3 rfl (WP.exit (zK 5 rfl (zf rfl (pK _ _) (zl rfl (s.ld (k:=5) rfl l_ rfl) (zo rfl (a_ rfl rfl rfl (Bp (s.ae [2]) kZ)) (zt rfl (ag rfl rfl bR) (rfl) (zk 6 rfl (WP.ret ⟨aa,_,rfl,rfl,((((((bM.2 ⟨dv,s.ae [7,7,4]⟩).del 7).del 6).del 5).del 4).del 3).del 2⟩)))))))))))))
theorem Lg.HA : Lg.fresh.Ok:=⟨by decide,by decide,by simp [Lg.fresh],List.Pairwise.nil,by decide,by decide,by decide⟩
theorem I9 (I:W told){n:Nat}(s:Sat h (aC p δ::S))(h1:1≤n)(h2:n≤1024)(J:δ.dead=false)(hm:δ.mark=[])(U:δ.log=[])(hc:δ.aR=0):
  Call ⟨Tryz.prog,told⟩ 21 [.ptr p 0,.int .i64 (n:Int)] h fun v h'=>∃a q r,v=.bD [.ptr a 0,.int .i64 0]∧Sat h' (cx a p q r .cD [] 0::bZ r p q (Pl.fresh n)::bf q p Lg.fresh::aC p δ::S):=by
 refine Call.of_wp (I.free _ rfl) Tryz.func21 rfl rfl (zK 9 rfl (zh rfl (ag rfl rfl bx) (by simp <;> omega) ?_))
 refine zk 2 rfl (zh rfl (ag rfl rfl dR) (by simp <;> omega) ?_)
 refine zk 7 rfl (zc rfl (I8 I s J hm U hc) ?_)
 rintro v h ⟨q,rfl,s⟩
 refine zk 10 rfl (zh rfl (ag rfl rfl aX) (rfl) (zk 8 rfl (zc rfl (J5 (p:=p) (q:=q) (n:=n) I s) ?_)))
 rintro v h (⟨hn,_,_⟩ | ⟨_,_,r,rfl,s⟩)
 ·omega
 rw [cQ] at s
 refine zk 10 rfl (zh rfl (ag rfl rfl aX) (rfl) (zk 8 rfl (zo rfl (cX rfl (by rw [Vf]; rfl)) ?_)))
 refine aB.cO s rfl rfl rfl (gw rfl rfl) (fun p44 h s => ?_)
 refine zk 5 rfl (zc rfl (uO I (s.ae [2])) ?_)
 rintro v h' ⟨rfl,rfl⟩
 refine zk 6 rfl (zc rfl (A3 I (s.ae [2])) ?_)
 rintro v h' ⟨rfl,rfl⟩
 refine zk 5 rfl (zh rfl (ag rfl rfl aX) (rfl) (zk 8 rfl ?_))
 have s1:=bM.2 ⟨.bA,(s.rG).ae [1,0]⟩
 refine zc rfl (LI (n:=1) I (s1.ae [0,1]) Lg.HA (by decide) (.inl rfl)) ?_
 rintro v h ⟨rfl,s⟩
 exact zk 5 rfl (zh rfl (ag rfl rfl aX) (rfl) (zk 9 rfl (WP.ret ⟨aa,_,rfl,_,q,r,rfl,s.ae [0,1,0]⟩)))
end
def fH (ε:aM): Int×aM:=if ε.2.2.dead=true then (9,ε) else if (writeAllF (aJ ε.1.aH) ε).1≠0 then writeAllF (aJ ε.1.aH) ε else
 ((dK (writeAllF (aJ ε.1.aH) ε).2.1 (writeAllF (aJ ε.1.aH) ε).2.2.2).1,((dK (writeAllF (aJ ε.1.aH) ε).2.1 (writeAllF (aJ ε.1.aH) ε).2.2.2).2.1,((writeAllF (aJ ε.1.aH) ε).2.2.1,(dK (writeAllF (aJ ε.1.aH) ε).2.1 (writeAllF (aJ ε.1.aH) ε).2.2.2).2.2)))
section
variable {told:dF} {h:H} {S:List ax} {X Y:ax} {r k q p bV a g aD:Nat} {op v x u wh di:V} {l b cP data dX:List Nat} {now:List (Int×List Nat)} {b_:Bool} {ε:aM} {μ:Lg} {δ:Dk}
theorem Ke (I:W told)(s:Sat h (cx a p q r op data aD::S)): Call ⟨Tryz.prog,told⟩ 19 [.ptr a 0] h fun v h'=>v=.ptr q 0∧h'=h:=by
 obtain ⟨dv,s⟩:=bM.1 s
 exact Call.of_wp (I.free _ rfl) Tryz.func19 rfl rfl (zK 8 rfl (zf rfl (kY _ _) (zl rfl (s.ld (k:=0) rfl nj rfl) (zk 2 rfl (WP.ret ⟨aa,_,rfl,rfl,rfl⟩)))))
theorem HB (I:W told)(s:Sat h (cx a p q r op data aD::S)): Call ⟨Tryz.prog,told⟩ 37 [.ptr a 0] h fun v h'=>v=.ptr r 0∧h'=h:=by
 obtain ⟨dv,s⟩:=bM.1 s
 exact Call.of_wp (I.free _ rfl) Tryz.func37 rfl rfl (zK 8 rfl (zf rfl (oo _ _) (zl rfl (s.ld (k:=0) rfl u_ rfl) (zk 2 rfl (WP.ret ⟨aa,_,rfl,rfl,rfl⟩)))))
theorem N8 (J:W told){n:Nat}(s:Sat h (cx a p q r op data aD::bf q p μ::aC p δ::S))(I:μ.Ok)(U:δ.aI<4294967296):
  Call ⟨Tryz.prog,told⟩ 36 [.ptr a 0,.int .u64 (n:Int)] h fun v h'=>v=.int .i64 (bB (μ,δ) n).1∧Sat h' (cx a p q r op data aD::bf q p (bB (μ,δ) n).2.1::aC p (bB (μ,δ) n).2.2::S):=by
 obtain ⟨dv,s⟩:=bM.1 s
 refine Call.of_wp (J.free _ rfl) Tryz.func36 rfl rfl (zK 8 rfl (zf rfl (kY _ _) (zl rfl (s.ld (k:=0) rfl nj rfl) (zm rfl (zc rfl (D4 (n:=n) J (s.ae [2,2]) I U) ?_)))))
 rintro v h ⟨rfl,s⟩
 exact zk 2 rfl (WP.ret ⟨aa,_,rfl,rfl,bM.2 ⟨dv,s.ae [2,2]⟩⟩)
theorem HC (J:W2 told)(s:Sat h (cx a p q r .cD data aD::bZ r p q ε.1::bf q p ε.2.1::aC p ε.2.2::S))(U:oL ε)(hw:ε.2.2.waiting.length+ε.1.aH.length≤268435456)(hm:ε.1.aH.length≤1048576)(hk:∀n∈ε.1.aH.map (·.1),(Lit.int .i64 n).wf=true)
 (mQ:(writeAllF (aJ ε.1.aH) ε).2.2.2.Ok)(I:∀e∈(writeAllF (aJ ε.1.aH) ε).2.2.2.now,0≤e.1∧e.1<(writeAllF (aJ ε.1.aH) ε).2.2.2.aq.length):
  Call ⟨Tryz.prog,told⟩ 26 [.ptr a 0] h fun v h'=>v=.int .i64 (fH ε).1∧Sat h' (cx a p q r .cD data aD::bZ r p q (fH ε).2.1::bf q p (fH ε).2.2.1::aC p (fH ε).2.2.2::S):=by
 have s0:=s
 obtain ⟨dv,s⟩:=bM.1 s
 refine Call.of_wp (J.w.free _ rfl) Tryz.func26 rfl rfl (zK 5 rfl (WP.block (zK 4 rfl (zf rfl (tY _ _) (zl rfl (s.ld (k:=0) rfl GC rfl) (zh rfl (ag rfl rfl (FO uq)) (rfl) (zk 7 rfl (zf rfl (rO _ _) (zl rfl (s.ld (k:=0) rfl jQ rfl) (zc rfl (wT J.w (s.ae [4])) ?_))))))))))
 rintro v h ⟨rfl,rfl⟩
 refine zk 2 rfl ?_
 cases hd:ε.2.2.dead with
 | true =>
  refine zK 5 rfl (WP.ret ⟨aa,_,rfl,?_⟩)
  rw [fH,aj hd]
  exact ⟨rfl,s0⟩
 | false =>
  refine zj rfl (WP.skip (zw (zg rfl (zk 2 rfl (zf rfl (oo _ _) (zl rfl (by exact s.ld (k:=0) rfl u_ rfl) ?_))))))
  refine zc rfl (A9 J.w (s.ae [2,2,2]) U hw hm hk) ?_
  rintro v h ⟨rfl,s⟩
  dsimp only [bringA,getA,aU] at s
  refine zk 5 rfl ?_
  by_cases he:(writeAllF (aJ ε.1.aH) ε).1=0
  ·skip
   refine zh rfl (ag rfl rfl aX) (by simp; exact he) ?_
   refine zv (zj rfl (WP.skip (zg rfl (zk 2 rfl (zf rfl (oo _ _) (zl rfl (by exact s.ld (k:=3) rfl u_ rfl) ?_))))))
   refine zc rfl (Hj J (s.ae [0,1]) mQ I) ?_
   rintro v h ⟨rfl,s⟩
   refine zk 2 rfl (WP.ret ⟨aa,_,rfl,?_⟩)
   rw [fH,af (by rw [hd]; decide),af (by simpa using he)]
   exact ⟨rfl,bM.2 ⟨dv,s.ae [3,3,0,1,0]⟩⟩
  ·skip
   refine zt rfl (ag rfl rfl aX) (by simp; exact he) ?_
   refine zk 7 rfl (WP.ret ⟨aa,_,rfl,?_⟩)
   rw [fH,af (by rw [hd]; decide),aj he]
   exact ⟨rfl,bM.2 ⟨dv,s.ae [3,3,0,0,0]⟩⟩
end
section
variable {told:dF} {h:H} {S:List ax} {X Y:ax} {r k q p bV a g aD:Nat} {op v x u wh di:V} {l b cP data dX:List Nat} {now:List (Int×List Nat)} {b_:Bool} {ε:aM} {μ:Lg} {δ:Dk}
theorem CP (I:W told){n m f:Nat}(s:Sat h S)(h1:1≤n)(h2:n≤65536)(h3:m≤16777216)(J:1≤f)(U:f≤1024):
  Call ⟨Tryz.prog,told⟩ 12 [.int .i64 (n:Int),.int .i64 (m:Int),.int .i64 (f:Int)] h fun v h'=>∃p a q r,v=.bD [.ptr p 0,.ptr a 0] ∧
   Sat h' (cx a p q r .cD [] 0::bZ r p q (Pl.fresh f)::bf q p Lg.fresh::aC p (Dk.fresh n m)::S):=by
 refine Call.of_wp (I.free _ rfl) Tryz.func12 rfl rfl (zK 9 rfl (zc rfl (S7 (n:=(n:Int)) (m:=(m:Int)) I s) ?_))
 rintro v h (⟨hn,_,_⟩ | ⟨_,_,_,_,p,rfl,s⟩)
 ·omega
 rw [cQ,cQ] at s
 refine zk 10 rfl (zh rfl (ag rfl rfl aX) (rfl) (zk 2 rfl (zh rfl (ag rfl rfl (CJ Tryz.underlying23)) (rfl) (zk 8 rfl (zc rfl (I9 (n:=f) I s J U rfl rfl rfl rfl) ?_)))))
 rintro v h ⟨a,q,r,rfl,s⟩
 exact zk 10 rfl (zh rfl (ag rfl rfl aX) (rfl) (zk 2 rfl (zh rfl (ag rfl rfl (CJ y8)) (rfl) (zk 11 rfl (WP.ret ⟨aa,_,rfl,p,a,q,r,rfl,s⟩)))))
theorem LJ (I:W told)(s:Sat h (cx a p q r op data aD::S))(J:data.length<1073741824): Call ⟨Tryz.prog,told⟩ 32 [.ptr a 0] h fun v h'=>∃w,v=.bD [w,.int .u64 (aD:Int)]∧Sat h' (bG w data::cx a p q r op data aD::S):=by
 obtain ⟨dv,s⟩:=bM.1 s
 refine Call.of_wp (I.free _ rfl) Tryz.func32 rfl rfl (zK 6 rfl ?_)
 have s:=s.ae [1]
 have U:=s
 refine WP.drawn [ai,ai,ai,ai,ai,some (0,2),some (0,2),some (0,2),some (0,2),none,none] rfl (by kernel_rfl) (by kernel_rfl) ?_
 refine zM rfl (zN rfl (zF rfl (GG _ _) (zL rfl (s.ld (k:=1) rfl bL rfl) (aA.any rfl rfl rfl rfl (OpR.call rfl rfl rfl rfl (j4 I s (cL _ _) J)) ?_))))
 intro w h s
 refine zM rfl (zN rfl (zF rfl (Cg _ _) (zL rfl (s.ld (k:=2) rfl fX rfl) (zA rfl (zA rfl ?_)))))
 refine aA.nil ⟨⟨aa,aa,aa,aa,aa,fun _ _=>.inr ⟨rfl,⟨_,bk rfl⟩,aW _ rfl⟩,fun _ _=>.inr ⟨rfl,⟨_,jZ rfl⟩,aW _ rfl⟩,fun _ _=>.inr ⟨rfl,⟨_,jv rfl (Cg _ _)⟩,aW _ rfl⟩,dP (.inr ⟨rfl,⟨_,aV rfl (U.ld (k:=1) rfl fX rfl)⟩,aW _ rfl⟩) (.inr ⟨rfl,⟨_,aV rfl (s.ld (k:=2) rfl fX rfl)⟩,aW _ rfl⟩),aa,aa,aa⟩,?_⟩
 refine WP.ret ⟨aa,_,rfl,?_⟩
 exact ⟨w,rfl,(bM.2 ⟨dv,s.ae [2,1]⟩).ae [1]⟩
end
section
variable {P:Program} {h:H} {S:List ax} {k:Nat}
theorem Ea (s:Sat h S){t e:TypeId}{z:V}(hu:P.underlying t=some (.slice e))(I:zeroT P e=some z)(J:bF P e=some k)(U:z.cells.length=k)(h1:1≤k):
  ∃h',buildSliceV P h t 0 []=some (.sl h.next 0 0 (.exact 0),h')∧Sat h' (pt h.next (.cells 0 [] false)::S):=by
 refine ⟨newRow h [],?_,s.new _⟩
 simp only [buildSliceV,hu,J,I]
 rw [show (Nat.beq z.cells.length k&&Nat.ble (0*k) 65536&&Nat.ble 1 k)=true by rw [U,dc,aO.2 (by omega),aO.2 h1]; rfl,ah]
 simp only [repeatL,fillV,jH,ah]
theorem Kf {id:Nat}(s:Sat h (pt id (.cells 0 [] false)::S)): Sat h (bG (.sl id 0 0 (.exact 0)) []::S) :=
 s.ga fun m r hm=>⟨by simp,.inr (.inl ⟨id,[],0,rfl,hm,rfl⟩)⟩
theorem Tu {id q:Nat}(s:Sat h (pt id (.cells 0 [] false)::S)): Sat h (.arr q (.sl id 0 0 (.exact 0)) []::S) :=
 s.ga fun m r hm=>⟨rfl,.inr ⟨id,0,.exact 0,0,[],rfl,hm,by simp,rfl,rfl,by simp,aL _⟩⟩
end
section
variable {told:dF} {h:H} {S:List ax} {X Y:ax} {r k q p bV a g aD:Nat} {op v x u wh di:V} {l b cP data dX:List Nat} {μ:Lg} {δ:Dk}
theorem N9 (hT:W told)(s:Sat h (X::S))(I:cR X (cV x l))(hl:l.length≤1073741824): Call ⟨Tryz.prog,told⟩ 113 [x] h fun v h'=>Sat h' (bG v l::X::S):=by
 have hv:=s.aG (k:=0) rfl I
 refine Call.of_wp (hT.free _ rfl) Tryz.func113 rfl rfl (zK 8 rfl ?_)
 rcases hv.2 with ⟨rfl | ⟨ea,rfl⟩,rfl⟩ | ⟨id,off,cap,n,cs,st,rfl,_⟩
 ·refine zt rfl ((by exact ag rfl rfl (by simp only [binV,eqV,aS]; rfl))) (rfl) ?_
  exact zk 6 rfl (WP.ret ⟨aa,_,rfl,s.vQ⟩)
 ·skip
  refine zh rfl ((by exact ag rfl rfl (by simp only [binV,eqV,aS]; rfl))) (rfl) ?_
  refine zk 5 rfl ?_
  obtain ⟨J,U,s1⟩:=Ea (P:=Tryz.prog) s aS Yd Ry rfl (by decide)
  refine aB.any rfl rfl rfl (OpR.of (R:=fun v h'=>v=.sl h.next 0 0 (.exact 0)∧h'=J) (p_ rfl U) ⟨rfl,rfl⟩) ?_
  rintro v h' ⟨rfl,rfl⟩
  have s:=Kf s1
  refine zm rfl (aB.any rfl rfl rfl (OpR.oG rfl s I rfl rfl rfl rfl (by simp <;> omega)) ?_)
  intro w h s
  exact zk 2 rfl (WP.ret ⟨aa,_,rfl,s⟩)
 ·skip
  refine zh rfl ((by exact ag rfl rfl (by simp only [binV,eqV,aS]; rfl))) (rfl) ?_
  refine zk 5 rfl ?_
  obtain ⟨J,U,s1⟩:=Ea (P:=Tryz.prog) s aS Yd Ry rfl (by decide)
  refine aB.any rfl rfl rfl (OpR.of (R:=fun v h'=>v=.sl h.next 0 0 (.exact 0)∧h'=J) (p_ rfl U) ⟨rfl,rfl⟩) ?_
  rintro v h' ⟨rfl,rfl⟩
  have s:=Kf s1
  refine zm rfl (aB.any rfl rfl rfl (OpR.oG rfl s I rfl rfl rfl rfl (by simp <;> omega)) ?_)
  intro w h s
  exact zk 2 rfl (WP.ret ⟨aa,_,rfl,s⟩)
end
def slF (v:V)(i:Nat): V:=match v with
 | .sl id off len (.exact c)=>.sl id (cond (Nat.beq c i) off (off+i*1)) (len-i) (.exact (c-i))
 | .sl id off len (.rest _ alt)=>.sl id (off+i*1) (len-i) (.rest 1 (cond (Nat.beq i 0) alt (cond (Nat.blt i len) (off+i*1) off)))
 | v=>v
theorem VN {P:Program}{h:H}{S:List ax}{v:V}{cs:List V}{i j:Nat}{t e:TypeId}(s:Sat h S)(hj:getA S j=some (.arr 1 v cs))(hi:i≤cs.length)(hu:P.underlying t=some (.slice e))(I:bF P e=some 1):
  sliceV P h t v (some i) none none=some (slF v i)∧lenV P h t (slF v i)=some (.int .i64 ((cs.length-i:Nat):Int)) ∧
  ∀(m:Nat) (x:V),cs[i+m]?=some x→∃id off,indexAddrV P t (slF v i) (.int .i64 (m:Int))=some (.ptr id off)∧∀t',cj P t'=some false→loadV P h t' (.ptr id off)=some x:=by
 obtain ⟨pm,r,h1,h2,h3⟩:=s.at hj
 rcases h3.2 with ⟨rfl,rfl⟩ | ⟨id,n,cap,N,rest,rfl,hg,e1,e2,_,e4⟩
 ·have:i=0:=by simpa using hi
  subst this
  refine ⟨?_,?_,fun m x hm=>by simp at hm⟩
  ·simp only [sliceV,hu,I]; rfl
  ·simp only [slF,lenV,hu]; rfl
 ·have tU:=h1 _ _ hg
  rw [dO] at e1
  have J:∀(m:Nat) (x:V),cs[i+m]?=some x→∀t',cj P t'=some false→loadV P h t' (.ptr id (0+i*1+m*1))=some x:=fun m x hm t' ht=>by
   have U:=(List.getElem?_eq_some_iff.1 hm).1
   refine JO ht tU ?_
   rw [fM,show 0+i*1+m*1=i+m by omega,kf U,hm]
  cases cap with
  | exact c =>
   obtain ⟨rfl,e5⟩:=e4
   refine ⟨?_,?_,fun m x hm => ?_⟩
   ·simp only [sliceV,hu,I,nE,eO,slF]
    rw [show (Nat.ble i n&&Nat.ble n c)=true by rw [aO.2 (by omega),aO.2 e5]; rfl,ah]
   ·simp only [slF,lenV,hu,e1]
   ·have U:=(List.getElem?_eq_some_iff.1 hm).1
    refine ⟨id,0+i*1+m*1,?_,J m x hm⟩
    simp only [slF,indexAddrV,hu,I,cQ]
    rw [show (decide ((0:Int)≤(m:Int))&&decide ((m:Int)<((n-i:Nat):Int)))=true by simp; omega,ah,cN (by omega),az]
  | rest q alt =>
   obtain ⟨rfl,rfl,rfl,e5⟩:=e4
   refine ⟨?_,?_,fun m x hm => ?_⟩
   ·simp only [sliceV,hu,I,nE,eO,slF]
    rw [show (Nat.beq 1 1&&Nat.ble 1 1)=true from rfl,ah,show (Nat.ble i n&&(Nat.ble n n||Nat.ble n (kA h id 0 1)))=true by rw [aO.2 (by omega:i≤n),aO.2 (aL n)]; rfl,ah]
   ·simp only [slF,lenV,hu,e1]
   ·have U:=(List.getElem?_eq_some_iff.1 hm).1
    refine ⟨id,0+i*1+m*1,?_,J m x hm⟩
    simp only [slF,indexAddrV,hu,I,cQ]
    rw [show (decide ((0:Int)≤(m:Int))&&decide ((m:Int)<((n-i:Nat):Int)))=true by simp; omega,ah]
def y9 (μ:Lg)(n:Nat): List Nat:=(μ.bw.filter fun s=>decide (n≤μ.base+s)).map fun s=>s-(n-μ.base)
def Lg.cut (μ:Lg)(n:Nat): Lg:={ base:=n,b:=μ.b.drop (n-μ.base),bw:=y9 μ n,forced:=μ.forced-(n-μ.base),check:=μ.check }
def hG (x:LD)(n:Nat): Int×LD :=
 if (n≠x.1.base+x.1.b.length∧x.1.hasB n=false)∨x.1.base+x.1.forced<n∨(x.1.check≠0∧x.1.check<n) then (1,x) else
 if (x.2.nm ((n-x.1.base:Nat):Int) (gE n x.1.check)).1≠0 then ((x.2.nm ((n-x.1.base:Nat):Int) (gE n x.1.check)).1,(x.1,(x.2.nm ((n-x.1.base:Nat):Int) (gE n x.1.check)).2)) else
 (0,(x.1.cut n,(x.2.nm ((n-x.1.base:Nat):Int) (gE n x.1.check)).2))
theorem Tv {μ:Lg}{n i:Nat}(h:Split μ n i): y9 μ n=(μ.bw.drop i).map fun s=>s-(n-μ.base):=by
 have U:μ.bw.filter (fun s=>decide (n≤μ.base+s))=μ.bw.drop i:=by
  conv=>lhs; rw [←De i μ.bw]
  rw [List.filter_append]
  have e1:(μ.bw.take i).filter (fun s=>decide (n≤μ.base+s))=[]:=by
   rw [List.filter_eq_nil_iff]
   intro s hs
   obtain ⟨j,I,rfl⟩:=List.mem_iff_getElem.1 hs
   have J:j<i:=by simp at I; omega
   have:=h.2.1 j _ J (by rw [bg (by simp at I; omega)])
   simp only [List.getElem_take] at this ⊢
   simp; omega
  have e2:(μ.bw.drop i).filter (fun s=>decide (n≤μ.base+s))=μ.bw.drop i:=by
   rw [List.filter_eq_self]
   intro s hs
   obtain ⟨j,I,rfl⟩:=List.mem_iff_getElem.1 hs
   have:=h.2.2 (i+j) _ (sR _ _) (by rw [bg (by simp at I; omega)])
   simp only [List.getElem_drop] at this ⊢
   simpa using this
  rw [e1,e2,cU]
 rw [y9,U]
theorem Eb {μ:Lg}{n:Nat}(h:μ.hasB n=true): μ.base≤n:=by
 simp only [Lg.hasB,sQ,eA] at h
 obtain ⟨s,_,rfl⟩:=h
 exact sR _ _
section
variable {told:dF} {h:H} {S:List ax} {X Y:ax} {r k q p bV a g aD:Nat} {op v x u wh di:V} {l b cP data dX:List Nat} {μ:Lg} {δ:Dk}
theorem Xq (hT:W told){n:Int}{x:V}{b:List Nat}(s:Sat h (aC p δ::X::S))(hX:cR X (cV x b))(I:δ.Ok):
  Call ⟨Tryz.prog,told⟩ 112 [.ptr p 0,.int .i64 n,x] h fun v h'=>v=.int .i64 (δ.nm n b).1∧Sat h' (aC p (δ.nm n b).2::X::S):=by
 refine (S5 hT s hX I.aI (by have:=I.len; omega) I.aR).mono fun v h' hr => ?_
 unfold Dk.nm
 rcases hr with ⟨J,rfl,s⟩ | ⟨J,U,rfl,s⟩ | ⟨J,h1,h2,h3,U,rfl,s⟩ | ⟨J,h1,h2,h3,U,rfl,s⟩
 ·rw [aj J]; exact ⟨rfl,s⟩
 ·rw [af (by rw [J]; decide),aj U]; exact ⟨rfl,s⟩
 ·rw [af (by rw [J]; decide),af (by simp [h1,h2,h3]),aj U]; exact ⟨rfl,s⟩
 ·rw [af (by rw [J]; decide),af (by simp [h1,h2,h3]),af U]; exact ⟨rfl,s⟩
end
section
variable {told:dF} {h:H} {S:List ax} {X Y:ax} {r k q p bV a g aD:Nat} {op v x u wh di:V} {l b cP data dX:List Nat} {μ:Lg} {δ:Dk}
noncomputable def ctL : Code:=cJ [1,1,1,1,1,1,0,1,0,0] ((Tryz.f71.body).getD .skip)
theorem Qs (hT:W told){i c:Nat}{sv:V}{ny:List Nat}{t1:V}(hi:i≤ny.length)(hb:∀s∈ny,s≤1099511627776)(hc:c≤1099511627776)(Ro:∀s∈ny.drop i,c≤s)(wY:ny.length≤16777216): ∀(j m:Nat) (nv:V) (h:H) (E:List (Nat×V)) (Q:Ex→List (Nat×V)→H→Prop),i+m+j=ny.length →
  Sat h (.arr 1 nv (gD (((ny.drop i).take m).map fun s=>s-c))::.arr 1 sv (gD ny)::S) →
  Has E [(0,.ptr q 0),(1,t1),(5,.int .i64 (c:Int)),(8,nv),(81,slF sv i),(82,.int .i64 ((ny.length-i:Nat):Int)),(83,.int .i64 (m:Int))] →
  (∀R7 E' h',Has E' [(0,.ptr q 0),(1,t1),(5,.int .i64 (c:Int)),(8,R7)]→Sat h' (.arr 1 R7 (gD ((ny.drop i).map fun s=>s-c))::.arr 1 sv (gD ny)::S)→Q (.exit 0) E' h') →
  WP ⟨Tryz.prog,told⟩ 121 (.loop ctL) E h Q:=by
 intro j
 induction j with
 | zero =>
  intro m nv h E Q hj s hE hx
  refine WP.loop (WP.has hE (zg rfl (zh rfl (ag rfl rfl bx) (by simp <;> omega) ?_)))
  refine zk 3 rfl (WP.exit ?_)
  rw [fI (by simp; omega)] at s
  exact hx nv _ _ ⟨rfl,rfl,rfl,rfl,aa⟩ s
 | succ j ih =>
  intro m nv h E Q hj s hE hx
  have I:ny[i+m]?=some (ny[i+m]'(by omega)):=bg _
  have J:ny[i+m]'(by omega)∈ny:=oW _
  have ZW:=Ro (ny[i+m]'(by omega)) (by
   have:(ny.drop i)[m]?=some (ny[i+m]'(by omega)):=by rw [jG,I]
   exact bq this)
  generalize (ny[i+m]'(by omega))=st at I J ZW
  have A4:=hb st J
  obtain ⟨_,_,R3⟩:=VN (P:=Tryz.prog) (i:=i) s (j:=1) rfl (by simp only [j8]; exact hi) eu jK
  obtain ⟨id,off,e1,e2⟩:=R3 m (.int .i64 (st:Int)) (by simp [gD,I])
  have N_:(ny.drop i).take (m+1)=(ny.drop i).take m++[st]:=by rw [zT,jG,I]; rfl
  have U:((st:Int)-(c:Int))=((st-c:Nat):Int):=by omega
  refine WP.loop (WP.has hE (zg rfl (zt rfl (ag rfl rfl bx) (by simp <;> omega) ?_)))
  refine zk 5 rfl (WP.block (zg rfl (zo rfl (dG (r:=.ptr id off) rfl rfl e1) (zl rfl (e2 _ c7) (zk 6 rfl (zb rfl (by exact lE (aT (by omega) (by omega))) ?_))))))
  rw [U]
  obtain ⟨iv,h1,yT,s1⟩:=nN (P:=Tryz.prog) (k:=1) (x:=.int .i64 ((st-c:Nat):Int)) s eu EE jK rfl (by decide) (by decide) rfl rfl
  dsimp only [V.cells] at s1
  refine aB.any rfl rfl rfl (OpR.of (R:=fun v h'=>v=iv∧h'=h1) (p_ rfl yT) ⟨rfl,rfl⟩) ?_
  rintro v' h' ⟨rfl,rfl⟩
  obtain ⟨i1,lp,jL,sn⟩:=w6
  obtain ⟨J7,h2,um,s2⟩:=jo (s1.ae [1,0]) eu lp EE jL (by omega) rfl (by decide) (by simp only [j8,d_,dJ,nF,bj,bY]; omega)
  dsimp only [bringA,getA,aU] at s2
  refine aB.any rfl rfl rfl (OpR.of (R:=fun v h'=>v=J7∧h'=h2) (oB rfl rfl um) ⟨rfl,rfl⟩) ?_
  rintro v' h' ⟨rfl,rfl⟩
  refine za rfl (zv (zr rfl (zb rfl (by exact bO (aT (by omega) (by omega))) ?_)))
  refine zm rfl (zv ?_)
  refine ih (m+1) _ _ _ Q (by omega) ?_ ⟨rfl,rfl,rfl,rfl,rfl,rfl,rfl,aa⟩ hx
  have e:gD (((ny.drop i).take (m+1)).map fun s=>s-c)=gD (((ny.drop i).take m).map fun s=>s-c)++[.int .i64 ((st-c:Nat):Int)]:=by
   rw [N_,zW]; simp [gD]
  rw [e]
  exact s2.del 1
noncomputable def YG : Code:=cJ [1,1] ((Tryz.f71.body).getD .skip)
theorem Qt (hT:W told){n:Nat}{E:List (Nat×V)}{Q:Ex→List (Nat×V)→H→Prop}(s:Sat h (bf q p μ::aC p δ::S))(I:μ.Ok)(sI:δ.Ok)(h1:μ.base≤n)(h2:n≤μ.base+μ.forced)(hE:Has E [(0,.ptr q 0),(1,.int .u64 (n:Int))])
 (xL:∀E' h',(δ.nm ((n-μ.base:Nat):Int) (gE n μ.check)).1≠0→look E' 4=some (.int .i64 (δ.nm ((n-μ.base:Nat):Int) (gE n μ.check)).1)→Sat h' (bf q p μ::aC p (δ.nm ((n-μ.base:Nat):Int) (gE n μ.check)).2::S)→Q .ret E' h')
 (iw:∀E' h',(δ.nm ((n-μ.base:Nat):Int) (gE n μ.check)).1=0→look E' 4=some (.int .i64 0)→Sat h' (bf q p (μ.cut n)::aC p (δ.nm ((n-μ.base:Nat):Int) (gE n μ.check)).2::S)→Q .ret E' h'):
  WP ⟨Tryz.prog,told⟩ 121 YG E h Q:=by
 have wZ:=I.size
 have Tw:=I.forced
 have hlen:=I.len
 have ZX:n<18446744073709551616:=by omega
 have Xr:((n:Int)-(μ.base:Int))=((n-μ.base:Nat):Int):=by omega
 obtain ⟨bv,sv,s⟩:=c8.1 s
 refine WP.has hE (zK 5 rfl (zf rfl (gz _ _) (zl rfl (s.ld (k:=0) rfl fX rfl) (zb rfl (by exact lE (eR (by omega) (by omega))) ?_))))
 refine zo rfl (b8 rfl (by exact jx cq bE (aT (by omega) (by omega)))) ?_
 refine zk 4 rfl ?_
 rw [Xr]
 have s0:=s
 refine WP.drawn [some (0,2),some (0,2),some (0,2),some (0,2),some (0,2),ai,ai,ai,ai,ai,ai,ai,ai,ai] rfl (by kernel_rfl) (by kernel_rfl) ?_
 refine zM rfl (zN rfl (zF rfl (pF _ _) (zL rfl (s.ld (k:=0) rfl jQ rfl) (zM rfl (zM rfl (zM rfl (zM rfl (zN rfl (zF rfl (pH _ _) (zL rfl (s.ld (k:=0) rfl fX rfl) (aA.any rfl rfl rfl rfl (OpR.call rfl rfl rfl rfl (Cx (q:=q) (a:=n) (b:=μ.check) hT s)) ?_)))))))))))
 intro mv h s
 have s:=s.ae [1,1,1,1,0]
 have s1:=s
 refine aA.any rfl rfl rfl rfl (OpR.call rfl rfl rfl rfl (Xq (n:=((n-μ.base:Nat):Int)) hT (s.ae [3,3]) (bI _ _) sI)) ?_
 rintro v h ⟨rfl,s⟩
 have s:=(s.del 1).ae [1,1,1,0]
 refine zA rfl ?_
 refine aA.nil ⟨⟨fun _ _=>.inr ⟨rfl,⟨_,bk rfl⟩,aW _ rfl⟩,fun _ _=>.inr ⟨rfl,⟨_,jZ rfl⟩,aW _ rfl⟩,fun _ _=>.inr ⟨rfl,⟨_,jv rfl (pF _ _)⟩,aW _ rfl⟩,dP (.inr ⟨rfl,⟨_,aV rfl (s0.ld (k:=0) rfl jQ rfl)⟩,aW _ rfl⟩) (.inr ⟨rfl,⟨_,aV rfl (s1.ld (k:=0) rfl jQ rfl)⟩,aW _ rfl⟩),fun _ _=>.inr ⟨rfl,⟨_,bk rfl⟩,aW _ rfl⟩,aa,aa,aa,aa,aa,aa,aa,aa,aa,aa⟩,?_⟩
 refine zK 3 rfl ?_
 generalize hcf:δ.nm ((n-μ.base:Nat):Int) (gE n μ.check)=cf at s xL iw
 by_cases he:cf.1=0
 ·skip
  refine zh rfl (ag rfl rfl aX) (by simp; exact he) ?_
  have s:=c8.2 ⟨bv,sv,s⟩
  refine zk 7 rfl (zc rfl (D1 (n:=n) hT s I ZX) ?_)
  rintro v h' ⟨rfl,i,Oa,rfl⟩
  obtain ⟨bv,sv,s⟩:=c8.1 s
  have hi:=Oa.1
  have J:((μ.bw.length:Int)-(i:Int))=((μ.bw.length-i:Nat):Int):=by omega
  have wY:=I.many
  refine zk 6 rfl (zf rfl (iS _ _) (zl rfl (s.ld (k:=0) rfl qf rfl) (zo rfl (a_ rfl rfl rfl (s.iH (n:=μ.bw.length) (j:=2) rfl (by simp [j8]) (by decide) eu)) ?_)))
  refine zm rfl (zb rfl (by exact lE (aT (by omega) (by omega))) ?_)
  rw [J]
  obtain ⟨i1,lp,jL,sn⟩:=w6
  obtain ⟨nv,VO,e1,s1⟩:=rP (P:=Tryz.prog) s eu lp EE jL (by omega) rfl (by decide) (by decide) (n:=0) (c:=μ.bw.length-i) (by omega) (by omega)
  dsimp only [repeatL] at s1
  refine aB.any rfl rfl rfl (OpR.of (R:=fun v h'=>v=nv∧h'=VO) (pZ rfl rfl e1) ⟨rfl,rfl⟩) ?_
  rintro v h' ⟨rfl,rfl⟩
  have s:=s1.ae [0,2,0,0]
  have VQ:=VN (P:=Tryz.prog) (i:=i) s (j:=1) rfl (by simp only [j8]; exact hi) eu jK
  have Ep:=VQ.2.1
  rw [j8] at Ep
  refine zk 7 rfl (zf rfl (iS _ _) (zl rfl (s.ld (k:=2) rfl qf rfl) (zm rfl (zo rfl (cC (p:=some (.int .i64 (i:Int))) (q:=none) (m:=none) (p':=some i) (q':=none) (m':=none) rfl rfl rfl rfl (by rw [fG (by omega)]; rfl) rfl rfl VQ.1) ?_))))
  refine zo rfl (a_ rfl rfl rfl Ep) (zk 2 rfl (WP.block ?_))
  refine Qs hT (q:=q) (t1:=.int .u64 (n:Int)) (i:=i) (c:=n-μ.base) (ny:=μ.bw) hi (fun x hx => ?_) (by omega) (fun x hx => ?_) wY (μ.bw.length-i) 0 _ _ _ _ (by omega) s ⟨rfl,rfl,rfl,rfl,rfl,rfl,rfl,aa⟩ (fun R7 E' h' gq s' => ?_)
  ·have:=I.low x hx; omega
  ·obtain ⟨j,hj,rfl⟩:=List.mem_iff_getElem.1 hx
   have:=Oa.2.2 (i+j) _ (sR _ _) (by rw [bg (by simp at hj; omega)])
   simp only [List.getElem_drop] at this ⊢
   omega
  ·have s:=s'
   rw [←Tv Oa] at s
   have Kg:=s.kF (j:=0) rfl
   have Ob:=(s.buf (k:=3) rfl).view
   have lJ:=ej Ob (a:=n-μ.base) (by omega)
   have Vs:=cY Ob
   have A4:=cY lJ.2.1
   have U:((μ.forced:Int)-((n-μ.base:Nat):Int))=((μ.forced-(n-μ.base):Nat):Int):=by omega
   refine WP.has gq (zw ?_)
   have s0:=s
   refine WP.drawn [some (0,2),some (0,3),some (0,4),some (0,5),some (0,2),ai,ai,ai,ai,ai,ai,ai,some (0,4),some (0,2),some (0,2),some (0,2),some (0,2),some (0,5),some (0,5),ai,ai,ai,ai,ai,ai,ai,ai,ai,ai,ai,ai] rfl (by kernel_rfl) (by kernel_rfl) ?_
   refine zM rfl (zM rfl (zM rfl (zM rfl (zM rfl (zM rfl (zN rfl (zF rfl (eD _ _) (zL rfl (s.ld (k:=2) rfl bL rfl) (zM rfl (zO rfl (cC (p:=some (.int .i64 ((n-μ.base:Nat):Int))) (q:=none) (m:=none) (p':=some (n-μ.base)) (q':=none) (m':=none) rfl rfl rfl rfl (by rw [fG (by omega)]; rfl) rfl rfl lJ.1) ?_))))))))))
   refine aA.any rfl rfl rfl rfl (OpR.call rfl rfl rfl rfl (N9 hT (s.ae [3]) (nO (bI _ _) (by omega)) (by simp; omega))) ?_
   intro w h s
   have hw:=(s.buf (k:=0) rfl).view.cells
   have s1:=s
   refine zM rfl (zM rfl (zN rfl (zF rfl (pG _ _) (zL rfl (s.ld (k:=4) rfl c7 rfl) (zM rfl (zO rfl (ag rfl rfl (by exact lE (aT (by omega) (by omega)))) ?_))))))
   refine zN rfl (zF rfl (gz _ _) (aA.gV rfl rfl rfl (OpR.eU rfl rfl rfl (s.dZ (k:=4) rfl qT rfl (by decide) rfl rfl)) ?_))
   rintro v h ⟨rfl,s⟩
   have s2:=s
   refine zN rfl (zF rfl (eD _ _) (aA.gV rfl rfl rfl (OpR.eU rfl rfl rfl (s.dZ (k:=4) rfl jy rfl (by decide) hw.1 hw.2)) ?_))
   rintro v h ⟨rfl,s⟩
   have s3:=s
   refine zN rfl (zF rfl (iS _ _) (aA.gV rfl rfl rfl (OpR.eU rfl rfl rfl (s.dZ (k:=4) rfl PB rfl (by decide) Kg.1 Kg.2.1)) ?_))
   rintro v h ⟨rfl,s⟩
   have s4:=s
   refine zN rfl (zF rfl (pG _ _) (aA.gV rfl rfl rfl (OpR.eU rfl rfl rfl (s.dZ (k:=4) rfl jK rfl (by decide) rfl rfl)) ?_))
   rintro v h ⟨rfl,s⟩
   refine aA.nil ⟨⟨fun _ _=>.inr ⟨rfl,⟨_,bk rfl⟩,aW _ rfl⟩,fun _ _=>.inr ⟨rfl,⟨_,bk rfl⟩,aW _ rfl⟩,fun _ _=>.inr ⟨rfl,⟨_,bk rfl⟩,aW _ rfl⟩,fun _ _=>.inr ⟨rfl,⟨_,bk rfl⟩,aW _ rfl⟩,fun _ _=>.inr ⟨rfl,⟨_,bk rfl⟩,aW _ rfl⟩,aa,aa,aa,aa,aa,aa,aa,fun _ _=>.inr ⟨rfl,⟨_,bk rfl⟩,Kg.2.2⟩,fun _ _=>.inr ⟨rfl,⟨_,bk rfl⟩,aW _ rfl⟩,fun _ _=>.inr ⟨rfl,⟨_,jZ rfl⟩,aW _ rfl⟩,fun _ _=>.inr ⟨rfl,⟨_,jv rfl (pG _ _)⟩,aW _ rfl⟩,dP (.inr ⟨rfl,⟨_,aV rfl (s0.ld (k:=2) rfl c7 rfl)⟩,aW _ rfl⟩) (.inr ⟨rfl,⟨_,aV rfl (s1.ld (k:=4) rfl c7 rfl)⟩,aW _ rfl⟩),fun _ _=>.inr ⟨rfl,⟨_,bk rfl⟩,aW _ rfl⟩,fun _ _=>.inr ⟨rfl,⟨_,ag rfl rfl (by exact lE (aT (by omega) (by omega)))⟩,aW _ rfl⟩,aa,aa,aa,aa,aa,aa,aa,aa,aa,aa,aa,aa,aa⟩,?_⟩
   refine zK 4 rfl (WP.ret ?_)
   rw [U] at s
   refine iw _ _ he rfl (c8.2 ⟨w,R7,?_⟩)
   exact ((s.ae [4,0,1,2]).del 5).del 4
 ·skip
  refine zt rfl (ag rfl rfl aX) (by simp; exact he) ?_
  exact zk 7 rfl (WP.ret (xL _ _ he rfl (c8.2 ⟨bv,sv,s⟩)))
end
end Go.Proofs.YtconhghphklfjaaGreat.Am
