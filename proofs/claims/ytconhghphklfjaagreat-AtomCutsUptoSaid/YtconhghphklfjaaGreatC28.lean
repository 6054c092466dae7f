/- AtomCuts: a part of its proof; conditions: its statement's. -/
import Derived.Test.YtconhghphklfjaaGreatC27
set_option linter.defProp false
namespace Go.Proofs.YtconhghphklfjaaGreat.Am
open Go
def Db:=@Tryz.underlying24
def HT:=@Tryz.func20
def Lg.fresh : Lg:={ base:=1,b:=[],bq:=[],forced:=0,check:=0 }
theorem xA {P:Program}{E:List (Nat×V)}{h:H}{a b c t:Nat}{p v w x:V}(I:look E a=some p)(J:loadV P h t p=some v)(U:look E b=some w)(h3:look E c=some x): ju P E h [.cell a t,.tmp b,.tmp c]=some (.bD [v,w,x]):=by
 simp only [ju,mapO,resE,I,J,U,h3]
section
variable {told:dH} {h:H} {S:List ax} {X Y:ax} {r k q p bX a g aC:Nat} {op v x u wh di:V} {l b cR data dF:List Nat} {now:List (Int×List Nat)} {b_:Bool} {ε:aM} {μ:Lg} {δ:Dk}
theorem Jo (U:W told)(s:Sat h (aD p δ::S))(hd:δ.dead=false)(hm:δ.mark=[])(hl:δ.log=[])(hc:δ.aL=0):
  Call ⟨Tryz.prog,told⟩ 58 [.ptr p 0] h fun v h'=>∃q,v=.bD [.ptr q 0,.int .i64 0]∧Sat h' (bf q p Lg.fresh::aD p δ::S):=by
 refine Call.of_wp (U.free _ rfl) Tryz.func58 rfl rfl (zK 8 rfl (zc rfl (CW U s (by rw [hm]; decide)) ?_))
 rintro v h (⟨I,_,_⟩ | ⟨_,b0,rfl,s⟩)
 ·rw [hd] at I; cases I
 rw [hm] at s
 refine zk 10 rfl (zh rfl (ah rfl rfl aX) (rfl) (zk 6 rfl (zo rfl (c7 rfl (by rw [R4]; rfl)) ?_)))
 refine aB.cQ s rfl rfl rfl (gC rfl rfl) (fun Za h s => ?_)
 dsimp only [V.cells,List.take,List.length_cons,List.length_nil,Nat.reduceAdd,List.drop,List.cons_append,List.nil_append] at s
 refine zk 7 rfl ?_
 have s:=s.ae [2,0,0]
 dsimp only [bringA,getA,aT] at s
 refine zc rfl (Tz U s (by rw [hl]; decide)) ?_
 rintro v h (⟨I,_,_⟩ | ⟨_,b1,rfl,s⟩)
 ·rw [hd] at I; cases I
 rw [hl] at s
 have hv:=(s.buf (k:=0) rfl).view.cells
 refine zk 4 rfl (zf rfl (eF _ _) (zS rfl (s.dQ (k:=2) rfl jl rfl (by decide) hv.1 hv.2) ?_))
 intro h s
 dsimp only [Nat.reduceAdd,List.set,setA] at s
 refine za rfl (zv (zg rfl (zm rfl (zh rfl (ah rfl rfl aX) (rfl) (zv (zj rfl (WP.skip (zw (zg rfl (zm rfl (zo rfl (a_ rfl rfl rfl (by exact bg aS (s.aG (k:=3) rfl (bE _ _)))) ?_)))))))))))
 refine zv (WP.block (zg rfl (zt rfl (ah rfl rfl cI) (rfl) (za rfl (zv (zi rfl (WP.skip (zg rfl (za rfl (zv (zw (WP.block (WP.loop (zw (zg rfl (zk 3 rfl (zf rfl (eF _ _) (zl rfl (by exact s.ld (k:=2) rfl bL rfl) ?_))))))))))))))))))
 refine zo rfl (a_ rfl rfl rfl (bg aS (s.aG (k:=0) rfl (bE _ _)))) (zh rfl (ah rfl rfl bu) (rfl) (zk 2 rfl (WP.exit (zK 6 rfl (zf rfl (eF _ _) (zl rfl (s.ld (k:=2) rfl bL rfl) (zo rfl (a_ rfl rfl rfl (bg aS (s.aG (k:=0) rfl (bE _ _)))) (zh rfl (ah rfl rfl bu) (rfl) (zk 5 rfl ?_)))))))))
 have s0:=s
 have J:=c8 (s.buf (k:=0) rfl).view
 refine WP.drawn [none,none,some (0,2),some (0,2),some (0,2),some (0,2),some (0,2),none] rfl (by kernel_rfl) (by kernel_rfl) ?_
 refine zM rfl (aA.any rfl rfl rfl rfl (OpR.call rfl rfl rfl rfl (Be U (s.ae [1]))) ?_)
 rintro v h' ⟨rfl,rfl⟩
 refine zM rfl (zN rfl (zF rfl (eF _ _) (zL rfl (s.ld (k:=2) rfl bL rfl) (zO rfl (a_ rfl rfl rfl (bg aS (s.aG (k:=0) rfl (bE _ _)))) (aA.nr rfl rfl rfl rfl (ah rfl rfl bu) (by rw [show δ.xg=0 from hc]; rfl) ?_)))))
 refine aA.nil ⟨⟨aa,aa,fun _ _=>.inr ⟨rfl,⟨_,bk rfl⟩,aW _ rfl⟩,fun _ _=>.inr ⟨rfl,⟨_,j5 rfl⟩,aW _ rfl⟩,fun _ _=>.inr ⟨rfl,⟨_,jE rfl (eF _ _)⟩,aW _ rfl⟩,dO (.inr ⟨rfl,⟨_,aV rfl (s0.ld (k:=2) rfl bL rfl)⟩,J⟩) (.inr ⟨rfl,⟨_,aV rfl (s.ld (k:=2) rfl bL rfl)⟩,J⟩),dO (.inr ⟨rfl,⟨_,a_ rfl rfl rfl (bg aS (s0.aG (k:=0) rfl (bE _ _)))⟩,aW _ rfl⟩) (.inr ⟨rfl,⟨_,a_ rfl rfl rfl (bg aS (s.aG (k:=0) rfl (bE _ _)))⟩,aW _ rfl⟩),aa,aa⟩,?_⟩
 refine zK 7 rfl (zf rfl (eF _ _) (zl rfl (s.ld (k:=2) rfl bL rfl) (zo rfl (a_ rfl rfl rfl (bg aS (s.aG (k:=0) rfl (bE _ _)))) (zn rfl (zf rfl (pL _ _) ?_)))))
 refine zS rfl (by exact s.dQ (k:=2) rfl jG rfl (by decide) rfl rfl) (fun h s => ?_)
 refine zk 7 rfl (WP.ret ⟨aa,_,rfl,?_⟩)
 have s1:=(s.del 3).qq (k:=1)
 refine ⟨_,rfl,dc.2 ⟨b1,.bz,?_⟩⟩
 exact s1.ae [3,1,0]
theorem Ot (J:W told)(s:Sat h (bf q p μ::S))(I:μ.Ok): Call ⟨Tryz.prog,told⟩ 20 [.ptr q 0,.int .u64 ((μ.base:Int)+(μ.b.length:Int))] h fun v h'=>v=.bD [.agg (iC 0 0 0 0 .bz .bz),.int .u64 0,.int .i64 17]∧Sat h' (bf q p μ::S):=by
 refine Call.of_wp (J.free _ rfl) HT rfl rfl (zg rfl ?_)
 refine aB.cQ s rfl rfl rfl (cC ru) (fun U h s => ?_)
 refine zk 4 rfl (WP.block (zK 4 rfl ?_))
 have s:=s.ae [1]
 refine zc rfl (nV J s I.size) ?_
 rintro v h' ⟨rfl,rfl⟩
 refine zt rfl (ah rfl rfl cI) (by simp) ?_
 refine zk 5 rfl (zo rfl (c7 rfl (by rw [w5]; rfl)) ?_)
 refine zS rfl (s.g9 (j:=1) rfl gE rfl rfl) (fun h s => ?_)
 refine zk 3 rfl ?_
 refine WP.ret ⟨aa,_,xA rfl (s.fG (k:=1) rfl nt gE) rfl rfl,?_⟩
 exact ⟨rfl,s.del 1⟩
theorem QV (J:W told){n:Nat}(s:Sat h (bf q p μ::S))(I:μ.Ok)(hn:n<18446744073709551616)(gn:n≠μ.base+μ.b.length)(U:μ.hasB n=false): Call ⟨Tryz.prog,told⟩ 20 [.ptr q 0,.int .u64 (n:Int)] h fun v h'=>v=.bD [.agg (iC 0 0 0 0 .bz .bz),.int .u64 0,.int .i64 1]∧Sat h' (bf q p μ::S):=by
 refine Call.of_wp (J.free _ rfl) HT rfl rfl (zg rfl ?_)
 refine aB.cQ s rfl rfl rfl (cC ru) (fun p4 h s => ?_)
 refine zk 4 rfl (WP.block (zK 4 rfl ?_))
 have s:=s.ae [1]
 refine zc rfl (nV J s I.size) ?_
 rintro v h' ⟨rfl,rfl⟩
 refine zh rfl (ah rfl rfl cI) (by simp; omega) ?_
 refine zk 7 rfl (zc rfl (AN (n:=n) J s I hn) ?_)
 rintro v h' ⟨rfl,rfl⟩
 refine zo rfl (dX rfl rfl) (zk 2 rfl (WP.Lo rfl (by rw [U]; rfl) ?_))
 refine zg rfl (zo rfl (c7 rfl (by rw [w5]; rfl)) ?_)
 refine zS rfl (s.g9 (j:=1) rfl gE rfl rfl) (fun h s => ?_)
 refine zk 3 rfl ?_
 refine WP.ret ⟨aa,_,xA rfl (s.fG (k:=1) rfl nt gE) rfl rfl,?_⟩
 exact ⟨rfl,s.del 1⟩
theorem Dc (hT:W told){n:Nat}(s:Sat h (bf q p μ::S))(J:μ.Ok)(hn:n<18446744073709551616)(I:n=μ.base+μ.b.length∨μ.hasB n=false): Call ⟨Tryz.prog,told⟩ 20 [.ptr q 0,.int .u64 (n:Int)] h fun v h'=>∃e:Int,e≠0∧v=.bD [.agg (iC 0 0 0 0 .bz .bz),.int .u64 0,.int .i64 e]∧Sat h' (bf q p μ::S):=by
 by_cases he:n=μ.base+μ.b.length
 ·have:=Ot hT s J
  rw [show ((μ.base:Int)+(μ.b.length:Int))=((n:Nat):Int) by omega] at this
  exact this.mono fun v h' ⟨U,h2⟩=>⟨17,by decide,U,h2⟩
 ·rcases I with I | I
  ·exact absurd I he
  ·exact (QV hT s J hn he I).mono fun v h' ⟨U,h2⟩=>⟨1,by decide,U,h2⟩
end
section
variable {told:dH} {h:H} {S:List ax} {X Y:ax} {r k q p bX a g aC:Nat} {op v x u wh di:V} {l b cR data dF:List Nat} {now:List (Int×List Nat)} {b_:Bool} {ε:aM} {μ:Lg} {δ:Dk}
theorem LY (I:W told){n:Nat}(s:Sat h (cu a p q r op data aC::bf q p μ::S))(J:μ.Ok)(hn:n<18446744073709551616)(U:n=μ.base+μ.b.length∨μ.hasB n=false):
  Call ⟨Tryz.prog,told⟩ 62 [.ptr a 0,.int .u64 (n:Int)] h fun v h'=>v=.int .i64 0∧Sat h' (cu a p q r op data aC::bf q p μ::S):=by
 obtain ⟨dv,s⟩:=bM.1 s
 refine Call.of_wp (I.free _ rfl) Tryz.func62 rfl rfl (zK 6 rfl ?_)
 refine aB.yJ s rfl rfl rfl rfl (fun p18 h s => ?_)
 refine aB.yJ s rfl rfl rfl rfl (fun p19 h s => ?_)
 refine zo rfl (c7 rfl (by rw [Sa]; rfl)) ?_
 refine aB.cQ s rfl rfl rfl (gC rfl rfl) (fun V4 h s => ?_)
 refine zk 5 rfl (zo rfl (AA rfl rfl) (zk 8 rfl (WP.block (WP.loop (WP.block (zK 4 rfl (zf rfl (lq _ _) (zl rfl (s.ld (k:=3) rfl nu rfl) (zm rfl ?_)))))))))
 have s1:=s.ae [5]
 refine zc rfl (Dc (n:=n) I s1 J hn U) ?_
 rintro v h ⟨e,he,rfl,s⟩
 refine zk 4 rfl ?_
 refine aB.cQ s rfl rfl rfl (cC ru) (fun p8 h s => ?_)
 refine zS rfl (s.g9 (j:=0) rfl gE rfl rfl) (fun h s => ?_)
 refine zk 7 rfl (zt rfl (ah rfl rfl aX) (by simp; exact he) ?_)
 have s:=uD (f:=fun v (b:List Nat)=>.cm v b) (s.ae [4])
 refine zk 2 rfl (WP.exit (zK 5 rfl (zf rfl (pP _ _) (zl rfl (s.ld (k:=3) rfl l_ rfl) (zc rfl (xx I s) ?_)))))
 rintro v h ⟨kb,rfl,s⟩
 refine zc rfl (pU I s (by decide) (by decide) (by simp)) ?_
 intro kv h s
 refine zo rfl (a_ rfl rfl rfl (s.iK (n:=0) (j:=0) rfl rfl (by decide) eC)) ?_
 exact zk 2 rfl (WP.block (WP.loop (zg rfl (zh rfl (ah rfl rfl bu) (rfl) (zk 3 rfl (WP.exit (zK 5 rfl (zf rfl (pP _ _) (zl rfl (s.ld (k:=5) rfl l_ rfl) (zo rfl (a_ rfl rfl rfl (BH (s.ae [2]) lu)) (zt rfl (ah rfl rfl cI) (rfl) (zk 6 rfl (WP.ret ⟨aa,_,rfl,rfl,((((((bM.2 ⟨dv,s.ae [7,7,4]⟩).del 7).del 6).del 5).del 4).del 3).del 2⟩)))))))))))))
theorem Lg.HU : Lg.fresh.Ok:=⟨by decide,by decide,by simp [Lg.fresh],List.Pairwise.nil,by decide,by decide,by decide⟩
theorem Jp (I:W told){n:Nat}(s:Sat h (aD p δ::S))(h1:1≤n)(h2:n≤1024)(J:δ.dead=false)(hm:δ.mark=[])(U:δ.log=[])(hc:δ.aL=0):
  Call ⟨Tryz.prog,told⟩ 21 [.ptr p 0,.int .i64 (n:Int)] h fun v h'=>∃a q r,v=.bD [.ptr a 0,.int .i64 0]∧Sat h' (cu a p q r .cF [] 0::b8 r p q (Pl.fresh n)::bf q p Lg.fresh::aD p δ::S):=by
 refine Call.of_wp (I.free _ rfl) Tryz.func21 rfl rfl (zK 9 rfl (zh rfl (ah rfl rfl bu) (by simp <;> omega) ?_))
 refine zk 2 rfl (zh rfl (ah rfl rfl dR) (by simp <;> omega) ?_)
 refine zk 7 rfl (zc rfl (Jo I s J hm U hc) ?_)
 rintro v h ⟨q,rfl,s⟩
 refine zk 10 rfl (zh rfl (ah rfl rfl aX) (rfl) (zk 8 rfl (zc rfl (Kn (p:=p) (q:=q) (n:=n) I s) ?_)))
 rintro v h (⟨hn,_,_⟩ | ⟨_,_,r,rfl,s⟩)
 ·omega
 rw [cP] at s
 refine zk 10 rfl (zh rfl (ah rfl rfl aX) (rfl) (zk 8 rfl (zo rfl (c7 rfl (by rw [VK]; rfl)) ?_)))
 refine aB.cQ s rfl rfl rfl (gC rfl rfl) (fun p44 h s => ?_)
 refine zk 5 rfl (zc rfl (vf I (s.ae [2])) ?_)
 rintro v h' ⟨rfl,rfl⟩
 refine zk 6 rfl (zc rfl (Bf I (s.ae [2])) ?_)
 rintro v h' ⟨rfl,rfl⟩
 refine zk 5 rfl (zh rfl (ah rfl rfl aX) (rfl) (zk 8 rfl ?_))
 have s1:=bM.2 ⟨.bz,(s.rR).ae [1,0]⟩
 refine zc rfl (LY (n:=1) I (s1.ae [0,1]) Lg.HU (by decide) (.inl rfl)) ?_
 rintro v h ⟨rfl,s⟩
 exact zk 5 rfl (zh rfl (ah rfl rfl aX) (rfl) (zk 9 rfl (WP.ret ⟨aa,_,rfl,_,q,r,rfl,s.ae [0,1,0]⟩)))
end
def fD (ε:aM): Int×aM:=if ε.2.2.dead=true then (9,ε) else if (writeAllF (aJ ε.1.aH) ε).1≠0 then writeAllF (aJ ε.1.aH) ε else
 ((dP (writeAllF (aJ ε.1.aH) ε).2.1 (writeAllF (aJ ε.1.aH) ε).2.2.2).1,((dP (writeAllF (aJ ε.1.aH) ε).2.1 (writeAllF (aJ ε.1.aH) ε).2.2.2).2.1,((writeAllF (aJ ε.1.aH) ε).2.2.1,(dP (writeAllF (aJ ε.1.aH) ε).2.1 (writeAllF (aJ ε.1.aH) ε).2.2.2).2.2)))
section
variable {told:dH} {h:H} {S:List ax} {X Y:ax} {r k q p bX a g aC:Nat} {op v x u wh di:V} {l b cR data dF:List Nat} {now:List (Int×List Nat)} {b_:Bool} {ε:aM} {μ:Lg} {δ:Dk}
theorem Kv (I:W told)(s:Sat h (cu a p q r op data aC::S)): Call ⟨Tryz.prog,told⟩ 19 [.ptr a 0] h fun v h'=>v=.ptr q 0∧h'=h:=by
 obtain ⟨dv,s⟩:=bM.1 s
 exact Call.of_wp (I.free _ rfl) Tryz.func19 rfl rfl (zK 8 rfl (zf rfl (lq _ _) (zl rfl (s.ld (k:=0) rfl nu rfl) (zk 2 rfl (WP.ret ⟨aa,_,rfl,rfl,rfl⟩)))))
theorem HV (I:W told)(s:Sat h (cu a p q r op data aC::S)): Call ⟨Tryz.prog,told⟩ 37 [.ptr a 0] h fun v h'=>v=.ptr r 0∧h'=h:=by
 obtain ⟨dv,s⟩:=bM.1 s
 exact Call.of_wp (I.free _ rfl) Tryz.func37 rfl rfl (zK 8 rfl (zf rfl (ox _ _) (zl rfl (s.ld (k:=0) rfl vz rfl) (zk 2 rfl (WP.ret ⟨aa,_,rfl,rfl,rfl⟩)))))
theorem Ou (J:W told){n:Nat}(s:Sat h (cu a p q r op data aC::bf q p μ::aD p δ::S))(I:μ.Ok)(U:δ.aF<4294967296):
  Call ⟨Tryz.prog,told⟩ 36 [.ptr a 0,.int .u64 (n:Int)] h fun v h'=>v=.int .i64 (bC (μ,δ) n).1∧Sat h' (cu a p q r op data aC::bf q p (bC (μ,δ) n).2.1::aD p (bC (μ,δ) n).2.2::S):=by
 obtain ⟨dv,s⟩:=bM.1 s
 refine Call.of_wp (J.free _ rfl) Tryz.func36 rfl rfl (zK 8 rfl (zf rfl (lq _ _) (zl rfl (s.ld (k:=0) rfl nu rfl) (zm rfl (zc rfl (Er (n:=n) J (s.ae [2,2]) I U) ?_)))))
 rintro v h ⟨rfl,s⟩
 exact zk 2 rfl (WP.ret ⟨aa,_,rfl,rfl,bM.2 ⟨dv,s.ae [2,2]⟩⟩)
theorem HW (J:W2 told)(s:Sat h (cu a p q r .cF data aC::b8 r p q ε.1::bf q p ε.2.1::aD p ε.2.2::S))(U:oP ε)(hw:ε.2.2.waiting.length+ε.1.aH.length≤268435456)(hm:ε.1.aH.length≤1048576)(hk:∀n∈ε.1.aH.map (·.1),(Lit.int .i64 n).wf=true)
 (lB:(writeAllF (aJ ε.1.aH) ε).2.2.2.Ok)(I:∀e∈(writeAllF (aJ ε.1.aH) ε).2.2.2.now,0≤e.1∧e.1<(writeAllF (aJ ε.1.aH) ε).2.2.2.aq.length):
  Call ⟨Tryz.prog,told⟩ 26 [.ptr a 0] h fun v h'=>v=.int .i64 (fD ε).1∧Sat h' (cu a p q r .cF data aC::b8 r p q (fD ε).2.1::bf q p (fD ε).2.2.1::aD p (fD ε).2.2.2::S):=by
 have s0:=s
 obtain ⟨dv,s⟩:=bM.1 s
 refine Call.of_wp (J.w.free _ rfl) Tryz.func26 rfl rfl (zK 5 rfl (WP.block (zK 4 rfl (zf rfl (uy _ _) (zl rfl (s.ld (k:=0) rfl GV rfl) (zh rfl (ah rfl rfl (F8 uL)) (rfl) (zk 7 rfl (zf rfl (r8 _ _) (zl rfl (s.ld (k:=0) rfl jR rfl) (zc rfl (xh J.w (s.ae [4])) ?_))))))))))
 rintro v h ⟨rfl,rfl⟩
 refine zk 2 rfl ?_
 cases hd:ε.2.2.dead with
 | true =>
  refine zK 5 rfl (WP.ret ⟨aa,_,rfl,?_⟩)
  rw [fD,aj hd]
  exact ⟨rfl,s0⟩
 | false =>
  refine zj rfl (WP.skip (zw (zg rfl (zk 2 rfl (zf rfl (ox _ _) (zl rfl (by exact s.ld (k:=0) rfl vz rfl) ?_))))))
  refine zc rfl (Bn J.w (s.ae [2,2,2]) U hw hm hk) ?_
  rintro v h ⟨rfl,s⟩
  dsimp only [bringA,getA,aT] at s
  refine zk 5 rfl ?_
  by_cases he:(writeAllF (aJ ε.1.aH) ε).1=0
  ·skip
   refine zh rfl (ah rfl rfl aX) (by simp; exact he) ?_
   refine zv (zj rfl (WP.skip (zg rfl (zk 2 rfl (zf rfl (ox _ _) (zl rfl (by exact s.ld (k:=3) rfl vz rfl) ?_))))))
   refine zc rfl (HH J (s.ae [0,1]) lB I) ?_
   rintro v h ⟨rfl,s⟩
   refine zk 2 rfl (WP.ret ⟨aa,_,rfl,?_⟩)
   rw [fD,af (by rw [hd]; decide),af (by simpa using he)]
   exact ⟨rfl,bM.2 ⟨dv,s.ae [3,3,0,1,0]⟩⟩
  ·skip
   refine zt rfl (ah rfl rfl aX) (by simp; exact he) ?_
   refine zk 7 rfl (WP.ret ⟨aa,_,rfl,?_⟩)
   rw [fD,af (by rw [hd]; decide),aj he]
   exact ⟨rfl,bM.2 ⟨dv,s.ae [3,3,0,0,0]⟩⟩
end
section
variable {told:dH} {h:H} {S:List ax} {X Y:ax} {r k q p bX a g aC:Nat} {op v x u wh di:V} {l b cR data dF:List Nat} {now:List (Int×List Nat)} {b_:Bool} {ε:aM} {μ:Lg} {δ:Dk}
theorem LZ (I:W told){n m f:Nat}(s:Sat h S)(h1:1≤n)(h2:n≤65536)(h3:m≤16777216)(J:1≤f)(U:f≤1024):
  Call ⟨Tryz.prog,told⟩ 12 [.int .i64 (n:Int),.int .i64 (m:Int),.int .i64 (f:Int)] h fun v h'=>∃p a q r,v=.bD [.ptr p 0,.ptr a 0] ∧
   Sat h' (cu a p q r .cF [] 0::b8 r p q (Pl.fresh f)::bf q p Lg.fresh::aD p (Dk.fresh n m)::S):=by
 refine Call.of_wp (I.free _ rfl) Tryz.func12 rfl rfl (zK 9 rfl (zc rfl (TC (n:=(n:Int)) (m:=(m:Int)) I s) ?_))
 rintro v h (⟨hn,_,_⟩ | ⟨_,_,_,_,p,rfl,s⟩)
 ·omega
 rw [cP,cP] at s
 refine zk 10 rfl (zh rfl (ah rfl rfl aX) (rfl) (zk 2 rfl (zh rfl (ah rfl rfl (C6 Tryz.underlying23)) (rfl) (zk 8 rfl (zc rfl (Jp (n:=f) I s J U rfl rfl rfl rfl) ?_)))))
 rintro v h ⟨a,q,r,rfl,s⟩
 exact zk 10 rfl (zh rfl (ah rfl rfl aX) (rfl) (zk 2 rfl (zh rfl (ah rfl rfl (C6 Db)) (rfl) (zk 11 rfl (WP.ret ⟨aa,_,rfl,p,a,q,r,rfl,s⟩)))))
theorem xB (I:W told)(s:Sat h (cu a p q r op data aC::S))(J:data.length<1073741824): Call ⟨Tryz.prog,told⟩ 32 [.ptr a 0] h fun v h'=>∃w,v=.bD [w,.int .u64 (aC:Int)]∧Sat h' (bH w data::cu a p q r op data aC::S):=by
 obtain ⟨dv,s⟩:=bM.1 s
 refine Call.of_wp (I.free _ rfl) Tryz.func32 rfl rfl (zK 6 rfl ?_)
 have s:=s.ae [1]
 have U:=s
 refine WP.drawn [ai,ai,ai,ai,ai,some (0,2),some (0,2),some (0,2),some (0,2),none,none] rfl (by kernel_rfl) (by kernel_rfl) ?_
 refine zM rfl (zN rfl (zF rfl (GZ _ _) (zL rfl (s.ld (k:=1) rfl bL rfl) (aA.any rfl rfl rfl rfl (OpR.call rfl rfl rfl rfl (j6 I s (cJ _ _) J)) ?_))))
 intro w h s
 refine zM rfl (zN rfl (zF rfl (CI _ _) (zL rfl (s.ld (k:=2) rfl gj rfl) (zA rfl (zA rfl ?_)))))
 refine aA.nil ⟨⟨aa,aa,aa,aa,aa,fun _ _=>.inr ⟨rfl,⟨_,bk rfl⟩,aW _ rfl⟩,fun _ _=>.inr ⟨rfl,⟨_,j5 rfl⟩,aW _ rfl⟩,fun _ _=>.inr ⟨rfl,⟨_,jE rfl (CI _ _)⟩,aW _ rfl⟩,dO (.inr ⟨rfl,⟨_,aV rfl (U.ld (k:=1) rfl gj rfl)⟩,aW _ rfl⟩) (.inr ⟨rfl,⟨_,aV rfl (s.ld (k:=2) rfl gj rfl)⟩,aW _ rfl⟩),aa,aa,aa⟩,?_⟩
 refine WP.ret ⟨aa,_,rfl,?_⟩
 exact ⟨w,rfl,(bM.2 ⟨dv,s.ae [2,1]⟩).ae [1]⟩
end
section
variable {P:Program} {h:H} {S:List ax} {k:Nat}
theorem Ez (s:Sat h S){t e:TypeId}{z:V}(hu:P.underlying t=some (.slice e))(I:zeroT P e=some z)(J:bG P e=some k)(U:z.cells.length=k)(h1:1≤k):
  ∃h',buildSliceV P h t 0 []=some (.sl h.next 0 0 (.exact 0),h')∧Sat h' (pt h.next (.cells 0 [] false)::S):=by
 refine ⟨newRow h [],?_,s.new _⟩
 simp only [buildSliceV,hu,J,I]
 rw [show (Nat.beq z.cells.length k&&Nat.ble (0*k) 65536&&Nat.ble 1 k)=true by rw [U,dh,aQ.2 (by omega),aQ.2 h1]; rfl,ag]
 simp only [repeatL,fillV,jg,ag]
theorem Kw {id:Nat}(s:Sat h (pt id (.cells 0 [] false)::S)): Sat h (bH (.sl id 0 0 (.exact 0)) []::S) :=
 s.fP fun m r hm=>⟨by simp,.inr (.inl ⟨id,[],0,rfl,hm,rfl⟩)⟩
theorem T0 {id q:Nat}(s:Sat h (pt id (.cells 0 [] false)::S)): Sat h (.arr q (.sl id 0 0 (.exact 0)) []::S) :=
 s.fP fun m r hm=>⟨rfl,.inr ⟨id,0,.exact 0,0,[],rfl,hm,by simp,rfl,rfl,by simp,aK _⟩⟩
end
section
variable {told:dH} {h:H} {S:List ax} {X Y:ax} {r k q p bX a g aC:Nat} {op v x u wh di:V} {l b cR data dF:List Nat} {μ:Lg} {δ:Dk}
theorem Ov (hT:W told)(s:Sat h (X::S))(I:cT X (cU x l))(hl:l.length≤1073741824): Call ⟨Tryz.prog,told⟩ 113 [x] h fun v h'=>Sat h' (bH v l::X::S):=by
 have hv:=s.aG (k:=0) rfl I
 refine Call.of_wp (hT.free _ rfl) Tryz.func113 rfl rfl (zK 8 rfl ?_)
 rcases hv.2 with ⟨rfl | ⟨ea,rfl⟩,rfl⟩ | ⟨id,off,cap,n,cs,st,rfl,_⟩
 ·refine zt rfl ((by exact ah rfl rfl (by simp only [binV,eqV,aS]; rfl))) (rfl) ?_
  exact zk 6 rfl (WP.ret ⟨aa,_,rfl,s.yQ⟩)
 ·skip
  refine zh rfl ((by exact ah rfl rfl (by simp only [binV,eqV,aS]; rfl))) (rfl) ?_
  refine zk 5 rfl ?_
  obtain ⟨J,U,s1⟩:=Ez (P:=Tryz.prog) s aS YU R2 rfl (by decide)
  refine aB.any rfl rfl rfl (OpR.of (R:=fun v h'=>v=.sl h.next 0 0 (.exact 0)∧h'=J) (oJ rfl U) ⟨rfl,rfl⟩) ?_
  rintro v h' ⟨rfl,rfl⟩
  have s:=Kw s1
  refine zm rfl (aB.any rfl rfl rfl (OpR.oL rfl s I rfl rfl rfl rfl (by simp <;> omega)) ?_)
  intro w h s
  exact zk 2 rfl (WP.ret ⟨aa,_,rfl,s⟩)
 ·skip
  refine zh rfl ((by exact ah rfl rfl (by simp only [binV,eqV,aS]; rfl))) (rfl) ?_
  refine zk 5 rfl ?_
  obtain ⟨J,U,s1⟩:=Ez (P:=Tryz.prog) s aS YU R2 rfl (by decide)
  refine aB.any rfl rfl rfl (OpR.of (R:=fun v h'=>v=.sl h.next 0 0 (.exact 0)∧h'=J) (oJ rfl U) ⟨rfl,rfl⟩) ?_
  rintro v h' ⟨rfl,rfl⟩
  have s:=Kw s1
  refine zm rfl (aB.any rfl rfl rfl (OpR.oL rfl s I rfl rfl rfl rfl (by simp <;> omega)) ?_)
  intro w h s
  exact zk 2 rfl (WP.ret ⟨aa,_,rfl,s⟩)
end
def slF (v:V)(i:Nat): V:=match v with
 | .sl id off len (.exact c)=>.sl id (cond (Nat.beq c i) off (off+i*1)) (len-i) (.exact (c-i))
 | .sl id off len (.rest _ alt)=>.sl id (off+i*1) (len-i) (.rest 1 (cond (Nat.beq i 0) alt (cond (Nat.blt i len) (off+i*1) off)))
 | v=>v
theorem Wj {P:Program}{h:H}{S:List ax}{v:V}{cs:List V}{i j:Nat}{t e:TypeId}(s:Sat h S)(hj:getA S j=some (.arr 1 v cs))(hi:i≤cs.length)(hu:P.underlying t=some (.slice e))(I:bG P e=some 1):
  sliceV P h t v (some i) none none=some (slF v i)∧lenV P h t (slF v i)=some (.int .i64 ((cs.length-i:Nat):Int)) ∧
  ∀(m:Nat) (x:V),cs[i+m]?=some x→∃id off,indexAddrV P t (slF v i) (.int .i64 (m:Int))=some (.ptr id off)∧∀t',cg P t'=some false→loadV P h t' (.ptr id off)=some x:=by
 obtain ⟨pm,r,h1,h2,h3⟩:=s.at hj
 rcases h3.2 with ⟨rfl,rfl⟩ | ⟨id,n,cap,N,rest,rfl,hg,e1,e2,_,e4⟩
 ·have:i=0:=by simpa using hi
  subst this
  refine ⟨?_,?_,fun m x hm=>by simp at hm⟩
  ·simp only [sliceV,hu,I]; rfl
  ·simp only [slF,lenV,hu]; rfl
 ·have rj:=h1 _ _ hg
  rw [dN] at e1
  have J:∀(m:Nat) (x:V),cs[i+m]?=some x→∀t',cg P t'=some false→loadV P h t' (.ptr id (0+i*1+m*1))=some x:=fun m x hm t' ht=>by
   have U:=(List.getElem?_eq_some_iff.1 hm).1
   refine J5 ht rj ?_
   rw [fR,show 0+i*1+m*1=i+m by omega,kj U,hm]
  cases cap with
  | exact c =>
   obtain ⟨rfl,e5⟩:=e4
   refine ⟨?_,?_,fun m x hm => ?_⟩
   ·simp only [sliceV,hu,I,nK,eT,slF]
    rw [show (Nat.ble i n&&Nat.ble n c)=true by rw [aQ.2 (by omega),aQ.2 e5]; rfl,ag]
   ·simp only [slF,lenV,hu,e1]
   ·have U:=(List.getElem?_eq_some_iff.1 hm).1
    refine ⟨id,0+i*1+m*1,?_,J m x hm⟩
    simp only [slF,indexAddrV,hu,I,cP]
    rw [show (decide ((0:Int)≤(m:Int))&&decide ((m:Int)<((n-i:Nat):Int)))=true by simp; omega,ag,cS (by omega),az]
  | rest q alt =>
   obtain ⟨rfl,rfl,rfl,e5⟩:=e4
   refine ⟨?_,?_,fun m x hm => ?_⟩
   ·simp only [sliceV,hu,I,nK,eT,slF]
    rw [show (Nat.beq 1 1&&Nat.ble 1 1)=true from rfl,ag,show (Nat.ble i n&&(Nat.ble n n||Nat.ble n (kE h id 0 1)))=true by rw [aQ.2 (by omega:i≤n),aQ.2 (aK n)]; rfl,ag]
   ·simp only [slF,lenV,hu,e1]
   ·have U:=(List.getElem?_eq_some_iff.1 hm).1
    refine ⟨id,0+i*1+m*1,?_,J m x hm⟩
    simp only [slF,indexAddrV,hu,I,cP]
    rw [show (decide ((0:Int)≤(m:Int))&&decide ((m:Int)<((n-i:Nat):Int)))=true by simp; omega,ag]
def vE (μ:Lg)(n:Nat): List Nat:=(μ.bq.filter fun s=>decide (n≤μ.base+s)).map fun s=>s-(n-μ.base)
def Lg.cut (μ:Lg)(n:Nat): Lg:={ base:=n,b:=μ.b.drop (n-μ.base),bq:=vE μ n,forced:=μ.forced-(n-μ.base),check:=μ.check }
def gL (x:LD)(n:Nat): Int×LD :=
 if (n≠x.1.base+x.1.b.length∧x.1.hasB n=false)∨x.1.base+x.1.forced<n∨(x.1.check≠0∧x.1.check<n) then (1,x) else
 if (x.2.mI ((n-x.1.base:Nat):Int) (ew n x.1.check)).1≠0 then ((x.2.mI ((n-x.1.base:Nat):Int) (ew n x.1.check)).1,(x.1,(x.2.mI ((n-x.1.base:Nat):Int) (ew n x.1.check)).2)) else
 (0,(x.1.cut n,(x.2.mI ((n-x.1.base:Nat):Int) (ew n x.1.check)).2))
theorem T1 {μ:Lg}{n i:Nat}(h:Split μ n i): vE μ n=(μ.bq.drop i).map fun s=>s-(n-μ.base):=by
 have U:μ.bq.filter (fun s=>decide (n≤μ.base+s))=μ.bq.drop i:=by
  conv=>lhs; rw [←DE i μ.bq]
  rw [List.filter_append]
  have e1:(μ.bq.take i).filter (fun s=>decide (n≤μ.base+s))=[]:=by
   rw [List.filter_eq_nil_iff]
   intro s hs
   obtain ⟨j,I,rfl⟩:=List.mem_iff_getElem.1 hs
   have J:j<i:=by simp at I; omega
   have:=h.2.1 j _ J (by rw [bh (by simp at I; omega)])
   simp only [List.getElem_take] at this ⊢
   simp; omega
  have e2:(μ.bq.drop i).filter (fun s=>decide (n≤μ.base+s))=μ.bq.drop i:=by
   rw [List.filter_eq_self]
   intro s hs
   obtain ⟨j,I,rfl⟩:=List.mem_iff_getElem.1 hs
   have:=h.2.2 (i+j) _ (tG _ _) (by rw [bh (by simp at I; omega)])
   simp only [List.getElem_drop] at this ⊢
   simpa using this
  rw [e1,e2,cW]
 rw [vE,U]
theorem EA {μ:Lg}{n:Nat}(h:μ.hasB n=true): μ.base≤n:=by
 simp only [Lg.hasB,tF,ej] at h
 obtain ⟨s,_,rfl⟩:=h
 exact tG _ _
section
variable {told:dH} {h:H} {S:List ax} {X Y:ax} {r k q p bX a g aC:Nat} {op v x u wh di:V} {l b cR data dF:List Nat} {μ:Lg} {δ:Dk}
theorem X4 (hT:W told){n:Int}{x:V}{b:List Nat}(s:Sat h (aD p δ::X::S))(hX:cT X (cU x b))(I:δ.Ok):
  Call ⟨Tryz.prog,told⟩ 112 [.ptr p 0,.int .i64 n,x] h fun v h'=>v=.int .i64 (δ.mI n b).1∧Sat h' (aD p (δ.mI n b).2::X::S):=by
 refine (TA hT s hX I.aF (by have:=I.len; omega) I.aL).mono fun v h' hr => ?_
 unfold Dk.mI
 rcases hr with ⟨J,rfl,s⟩ | ⟨J,U,rfl,s⟩ | ⟨J,h1,h2,h3,U,rfl,s⟩ | ⟨J,h1,h2,h3,U,rfl,s⟩
 ·rw [aj J]; exact ⟨rfl,s⟩
 ·rw [af (by rw [J]; decide),aj U]; exact ⟨rfl,s⟩
 ·rw [af (by rw [J]; decide),af (by simp [h1,h2,h3]),aj U]; exact ⟨rfl,s⟩
 ·rw [af (by rw [J]; decide),af (by simp [h1,h2,h3]),af U]; exact ⟨rfl,s⟩
end
section
variable {told:dH} {h:H} {S:List ax} {X Y:ax} {r k q p bX a g aC:Nat} {op v x u wh di:V} {l b cR data dF:List Nat} {μ:Lg} {δ:Dk}
noncomputable def ctL : Code:=cK [1,1,1,1,1,1,0,1,0,0] ((Tryz.f71.body).getD .skip)
theorem QW (hT:W told){i c:Nat}{sv:V}{nD:List Nat}{t1:V}(hi:i≤nD.length)(hb:∀s∈nD,s≤1099511627776)(hc:c≤1099511627776)(RQ:∀s∈nD.drop i,c≤s)(xn:nD.length≤16777216): ∀(j m:Nat) (nv:V) (h:H) (E:List (Nat×V)) (Q:Ex→List (Nat×V)→H→Prop),i+m+j=nD.length →
  Sat h (.arr 1 nv (gJ (((nD.drop i).take m).map fun s=>s-c))::.arr 1 sv (gJ nD)::S) →
  Has E [(0,.ptr q 0),(1,t1),(5,.int .i64 (c:Int)),(8,nv),(81,slF sv i),(82,.int .i64 ((nD.length-i:Nat):Int)),(83,.int .i64 (m:Int))] →
  (∀SC E' h',Has E' [(0,.ptr q 0),(1,t1),(5,.int .i64 (c:Int)),(8,SC)]→Sat h' (.arr 1 SC (gJ ((nD.drop i).map fun s=>s-c))::.arr 1 sv (gJ nD)::S)→Q (.exit 0) E' h') →
  WP ⟨Tryz.prog,told⟩ 121 (.loop ctL) E h Q:=by
 intro j
 induction j with
 | zero =>
  intro m nv h E Q hj s hE hx
  refine WP.loop (WP.has hE (zg rfl (zh rfl (ah rfl rfl bu) (by simp <;> omega) ?_)))
  refine zk 3 rfl (WP.exit ?_)
  rw [fL (by simp; omega)] at s
  exact hx nv _ _ ⟨rfl,rfl,rfl,rfl,aa⟩ s
 | succ j ih =>
  intro m nv h E Q hj s hE hx
  have I:nD[i+m]?=some (nD[i+m]'(by omega)):=bh _
  have J:nD[i+m]'(by omega)∈nD:=o8 _
  have aaz:=RQ (nD[i+m]'(by omega)) (by
   have:(nD.drop i)[m]?=some (nD[i+m]'(by omega)):=by rw [jO,I]
   exact br this)
  generalize (nD[i+m]'(by omega))=st at I J aaz
  have Bh:=hb st J
  obtain ⟨_,_,Sz⟩:=Wj (P:=Tryz.prog) (i:=i) s (j:=1) rfl (by simp only [ke]; exact hi) eC jG
  obtain ⟨id,off,e1,e2⟩:=Sz m (.int .i64 (st:Int)) (by simp [gJ,I])
  have Ow:(nD.drop i).take (m+1)=(nD.drop i).take m++[st]:=by rw [Ad,jO,I]; rfl
  have U:((st:Int)-(c:Int))=((st-c:Nat):Int):=by omega
  refine WP.loop (WP.has hE (zg rfl (zt rfl (ah rfl rfl bu) (by simp <;> omega) ?_)))
  refine zk 5 rfl (WP.block (zg rfl (zo rfl (dY (r:=.ptr id off) rfl rfl e1) (zl rfl (e2 _ dr) (zk 6 rfl (zb rfl (by exact lG (aU (by omega) (by omega))) ?_))))))
  rw [U]
  obtain ⟨iv,h1,zy,s1⟩:=nR (P:=Tryz.prog) (k:=1) (x:=.int .i64 ((st-c:Nat):Int)) s eC E5 jG rfl (by decide) (by decide) rfl rfl
  dsimp only [V.cells] at s1
  refine aB.any rfl rfl rfl (OpR.of (R:=fun v h'=>v=iv∧h'=h1) (oJ rfl zy) ⟨rfl,rfl⟩) ?_
  rintro v' h' ⟨rfl,rfl⟩
  obtain ⟨i1,lN,jX,sN⟩:=xq
  obtain ⟨Ko,h2,uJ,s2⟩:=jx (s1.ae [1,0]) eC lN E5 jX (by omega) rfl (by decide) (by simp only [ke,en,dI,nL,bj,bY]; omega)
  dsimp only [bringA,getA,aT] at s2
  refine aB.any rfl rfl rfl (OpR.of (R:=fun v h'=>v=Ko∧h'=h2) (oE rfl rfl uJ) ⟨rfl,rfl⟩) ?_
  rintro v' h' ⟨rfl,rfl⟩
  refine za rfl (zv (zr rfl (zb rfl (by exact bQ (aU (by omega) (by omega))) ?_)))
  refine zm rfl (zv ?_)
  refine ih (m+1) _ _ _ Q (by omega) ?_ ⟨rfl,rfl,rfl,rfl,rfl,rfl,rfl,aa⟩ hx
  have e:gJ (((nD.drop i).take (m+1)).map fun s=>s-c)=gJ (((nD.drop i).take m).map fun s=>s-c)++[.int .i64 ((st-c:Nat):Int)]:=by
   rw [Ow,Ai]; simp [gJ]
  rw [e]
  exact s2.del 1
noncomputable def Zl : Code:=cK [1,1] ((Tryz.f71.body).getD .skip)
theorem QX (hT:W told){n:Nat}{E:List (Nat×V)}{Q:Ex→List (Nat×V)→H→Prop}(s:Sat h (bf q p μ::aD p δ::S))(I:μ.Ok)(tj:δ.Ok)(h1:μ.base≤n)(h2:n≤μ.base+μ.forced)(hE:Has E [(0,.ptr q 0),(1,.int .u64 (n:Int))])
 (xY:∀E' h',(δ.mI ((n-μ.base:Nat):Int) (ew n μ.check)).1≠0→look E' 4=some (.int .i64 (δ.mI ((n-μ.base:Nat):Int) (ew n μ.check)).1)→Sat h' (bf q p μ::aD p (δ.mI ((n-μ.base:Nat):Int) (ew n μ.check)).2::S)→Q .ret E' h')
 (iB:∀E' h',(δ.mI ((n-μ.base:Nat):Int) (ew n μ.check)).1=0→look E' 4=some (.int .i64 0)→Sat h' (bf q p (μ.cut n)::aD p (δ.mI ((n-μ.base:Nat):Int) (ew n μ.check)).2::S)→Q .ret E' h'):
  WP ⟨Tryz.prog,told⟩ 121 Zl E h Q:=by
 have xo:=I.size
 have T2:=I.forced
 have hlen:=I.len
 have aaA:n<18446744073709551616:=by omega
 have X5:((n:Int)-(μ.base:Int))=((n-μ.base:Nat):Int):=by omega
 obtain ⟨bv,sv,s⟩:=dc.1 s
 refine WP.has hE (zK 5 rfl (zf rfl (gF _ _) (zl rfl (s.ld (k:=0) rfl gj rfl) (zb rfl (by exact lG (eW (by omega) (by omega))) ?_))))
 refine zo rfl (bV rfl (by exact jF cq bF (aU (by omega) (by omega)))) ?_
 refine zk 4 rfl ?_
 rw [X5]
 have s0:=s
 refine WP.drawn [some (0,2),some (0,2),some (0,2),some (0,2),some (0,2),ai,ai,ai,ai,ai,ai,ai,ai,ai] rfl (by kernel_rfl) (by kernel_rfl) ?_
 refine zM rfl (zN rfl (zF rfl (pK _ _) (zL rfl (s.ld (k:=0) rfl jR rfl) (zM rfl (zM rfl (zM rfl (zM rfl (zN rfl (zF rfl (pM _ _) (zL rfl (s.ld (k:=0) rfl gj rfl) (aA.any rfl rfl rfl rfl (OpR.call rfl rfl rfl rfl (CY (q:=q) (a:=n) (b:=μ.check) hT s)) ?_)))))))))))
 intro mv h s
 have s:=s.ae [1,1,1,1,0]
 have s1:=s
 refine aA.any rfl rfl rfl rfl (OpR.call rfl rfl rfl rfl (X4 (n:=((n-μ.base:Nat):Int)) hT (s.ae [3,3]) (bE _ _) tj)) ?_
 rintro v h ⟨rfl,s⟩
 have s:=(s.del 1).ae [1,1,1,0]
 refine zA rfl ?_
 refine aA.nil ⟨⟨fun _ _=>.inr ⟨rfl,⟨_,bk rfl⟩,aW _ rfl⟩,fun _ _=>.inr ⟨rfl,⟨_,j5 rfl⟩,aW _ rfl⟩,fun _ _=>.inr ⟨rfl,⟨_,jE rfl (pK _ _)⟩,aW _ rfl⟩,dO (.inr ⟨rfl,⟨_,aV rfl (s0.ld (k:=0) rfl jR rfl)⟩,aW _ rfl⟩) (.inr ⟨rfl,⟨_,aV rfl (s1.ld (k:=0) rfl jR rfl)⟩,aW _ rfl⟩),fun _ _=>.inr ⟨rfl,⟨_,bk rfl⟩,aW _ rfl⟩,aa,aa,aa,aa,aa,aa,aa,aa,aa,aa⟩,?_⟩
 refine zK 3 rfl ?_
 generalize hcf:δ.mI ((n-μ.base:Nat):Int) (ew n μ.check)=cf at s xY iB
 by_cases he:cf.1=0
 ·skip
  refine zh rfl (ah rfl rfl aX) (by simp; exact he) ?_
  have s:=dc.2 ⟨bv,sv,s⟩
  refine zk 7 rfl (zc rfl (En (n:=n) hT s I aaA) ?_)
  rintro v h' ⟨rfl,i,Ox,rfl⟩
  obtain ⟨bv,sv,s⟩:=dc.1 s
  have hi:=Ox.1
  have J:((μ.bq.length:Int)-(i:Int))=((μ.bq.length-i:Nat):Int):=by omega
  have xn:=I.many
  refine zk 6 rfl (zf rfl (iW _ _) (zl rfl (s.ld (k:=0) rfl qp rfl) (zo rfl (a_ rfl rfl rfl (s.iK (n:=μ.bq.length) (j:=2) rfl (by simp [ke]) (by decide) eC)) ?_)))
  refine zm rfl (zb rfl (by exact lG (aU (by omega) (by omega))) ?_)
  rw [J]
  obtain ⟨i1,lN,jX,sN⟩:=xq
  obtain ⟨nv,Oy,e1,s1⟩:=vb (P:=Tryz.prog) s eC lN E5 jX (by omega) rfl (by decide) (by decide) (n:=0) (c:=μ.bq.length-i) (by omega) (by omega)
  dsimp only [repeatL] at s1
  refine aB.any rfl rfl rfl (OpR.of (R:=fun v h'=>v=nv∧h'=Oy) (rO rfl rfl e1) ⟨rfl,rfl⟩) ?_
  rintro v h' ⟨rfl,rfl⟩
  have s:=s1.ae [0,2,0,0]
  have Wk:=Wj (P:=Tryz.prog) (i:=i) s (j:=1) rfl (by simp only [ke]; exact hi) eC jG
  have ER:=Wk.2.1
  rw [ke] at ER
  refine zk 7 rfl (zf rfl (iW _ _) (zl rfl (s.ld (k:=2) rfl qp rfl) (zm rfl (zo rfl (cD (p:=some (.int .i64 (i:Int))) (q:=none) (m:=none) (p':=some i) (q':=none) (m':=none) rfl rfl rfl rfl (by rw [fK (by omega)]; rfl) rfl rfl Wk.1) ?_))))
  refine zo rfl (a_ rfl rfl rfl ER) (zk 2 rfl (WP.block ?_))
  refine QW hT (q:=q) (t1:=.int .u64 (n:Int)) (i:=i) (c:=n-μ.base) (nD:=μ.bq) hi (fun x hx => ?_) (by omega) (fun x hx => ?_) xn (μ.bq.length-i) 0 _ _ _ _ (by omega) s ⟨rfl,rfl,rfl,rfl,rfl,rfl,rfl,aa⟩ (fun SC E' h' gu s' => ?_)
  ·have:=I.low x hx; omega
  ·obtain ⟨j,hj,rfl⟩:=List.mem_iff_getElem.1 hx
   have:=Ox.2.2 (i+j) _ (tG _ _) (by rw [bh (by simp at hj; omega)])
   simp only [List.getElem_drop] at this ⊢
   omega
  ·have s:=s'
   rw [←T1 Ox] at s
   have Kx:=s.kJ (j:=0) rfl
   have Oz:=(s.buf (k:=3) rfl).view
   have lK:=er Oz (a:=n-μ.base) (by omega)
   have VZ:=c8 Oz
   have Bh:=c8 lK.2.1
   have U:((μ.forced:Int)-((n-μ.base:Nat):Int))=((μ.forced-(n-μ.base):Nat):Int):=by omega
   refine WP.has gu (zw ?_)
   have s0:=s
   refine WP.drawn [some (0,2),some (0,3),some (0,4),some (0,5),some (0,2),ai,ai,ai,ai,ai,ai,ai,some (0,4),some (0,2),some (0,2),some (0,2),some (0,2),some (0,5),some (0,5),ai,ai,ai,ai,ai,ai,ai,ai,ai,ai,ai,ai] rfl (by kernel_rfl) (by kernel_rfl) ?_
   refine zM rfl (zM rfl (zM rfl (zM rfl (zM rfl (zM rfl (zN rfl (zF rfl (eF _ _) (zL rfl (s.ld (k:=2) rfl bL rfl) (zM rfl (zO rfl (cD (p:=some (.int .i64 ((n-μ.base:Nat):Int))) (q:=none) (m:=none) (p':=some (n-μ.base)) (q':=none) (m':=none) rfl rfl rfl rfl (by rw [fK (by omega)]; rfl) rfl rfl lK.1) ?_))))))))))
   refine aA.any rfl rfl rfl rfl (OpR.call rfl rfl rfl rfl (Ov hT (s.ae [3]) (nT (bE _ _) (by omega)) (by simp; omega))) ?_
   intro w h s
   have hw:=(s.buf (k:=0) rfl).view.cells
   have s1:=s
   refine zM rfl (zM rfl (zN rfl (zF rfl (pL _ _) (zL rfl (s.ld (k:=4) rfl dr rfl) (zM rfl (zO rfl (ah rfl rfl (by exact lG (aU (by omega) (by omega)))) ?_))))))
   refine zN rfl (zF rfl (gF _ _) (aA.g8 rfl rfl rfl (OpR.d_ rfl rfl rfl (s.dQ (k:=4) rfl rq rfl (by decide) rfl rfl)) ?_))
   rintro v h ⟨rfl,s⟩
   have s2:=s
   refine zN rfl (zF rfl (eF _ _) (aA.g8 rfl rfl rfl (OpR.d_ rfl rfl rfl (s.dQ (k:=4) rfl jl rfl (by decide) hw.1 hw.2)) ?_))
   rintro v h ⟨rfl,s⟩
   have s3:=s
   refine zN rfl (zF rfl (iW _ _) (aA.g8 rfl rfl rfl (OpR.d_ rfl rfl rfl (s.dQ (k:=4) rfl P8 rfl (by decide) Kx.1 Kx.2.1)) ?_))
   rintro v h ⟨rfl,s⟩
   have s4:=s
   refine zN rfl (zF rfl (pL _ _) (aA.g8 rfl rfl rfl (OpR.d_ rfl rfl rfl (s.dQ (k:=4) rfl jG rfl (by decide) rfl rfl)) ?_))
   rintro v h ⟨rfl,s⟩
   refine aA.nil ⟨⟨fun _ _=>.inr ⟨rfl,⟨_,bk rfl⟩,aW _ rfl⟩,fun _ _=>.inr ⟨rfl,⟨_,bk rfl⟩,aW _ rfl⟩,fun _ _=>.inr ⟨rfl,⟨_,bk rfl⟩,aW _ rfl⟩,fun _ _=>.inr ⟨rfl,⟨_,bk rfl⟩,aW _ rfl⟩,fun _ _=>.inr ⟨rfl,⟨_,bk rfl⟩,aW _ rfl⟩,aa,aa,aa,aa,aa,aa,aa,fun _ _=>.inr ⟨rfl,⟨_,bk rfl⟩,Kx.2.2⟩,fun _ _=>.inr ⟨rfl,⟨_,bk rfl⟩,aW _ rfl⟩,fun _ _=>.inr ⟨rfl,⟨_,j5 rfl⟩,aW _ rfl⟩,fun _ _=>.inr ⟨rfl,⟨_,jE rfl (pL _ _)⟩,aW _ rfl⟩,dO (.inr ⟨rfl,⟨_,aV rfl (s0.ld (k:=2) rfl dr rfl)⟩,aW _ rfl⟩) (.inr ⟨rfl,⟨_,aV rfl (s1.ld (k:=4) rfl dr rfl)⟩,aW _ rfl⟩),fun _ _=>.inr ⟨rfl,⟨_,bk rfl⟩,aW _ rfl⟩,fun _ _=>.inr ⟨rfl,⟨_,ah rfl rfl (by exact lG (aU (by omega) (by omega)))⟩,aW _ rfl⟩,aa,aa,aa,aa,aa,aa,aa,aa,aa,aa,aa,aa,aa⟩,?_⟩
   refine zK 4 rfl (WP.ret ?_)
   rw [U] at s
   refine iB _ _ he rfl (dc.2 ⟨w,SC,?_⟩)
   exact ((s.ae [4,0,1,2]).del 5).del 4
 ·skip
  refine zt rfl (ah rfl rfl aX) (by simp; exact he) ?_
  exact zk 7 rfl (WP.ret (xY _ _ he rfl (dc.2 ⟨bv,sv,s⟩)))
end
end Go.Proofs.YtconhghphklfjaaGreat.Am
