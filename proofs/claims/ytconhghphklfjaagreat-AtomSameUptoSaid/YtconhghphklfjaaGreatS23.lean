/- AtomSame: a part of its proof; conditions: its statement's. -/
import Derived.Test.YtconhghphklfjaaGreatS22
namespace Go.Proofs.YtconhghphklfjaaGreat.Am
open Go
structure Pl.Ok (π:Pl): Prop where
 hand:π.hand<π.ak.length
 many:π.ak.length≤1024
 aH:∀e∈π.aH,0≤e.2∧e.2<π.ak.length
 len:∀f∈π.ak,f.b.length≤512
 pins:∀f∈π.ak,0≤f.pins∧f.pins≤4294967296
theorem Pl.Ok.at {π:Pl}(h:π.Ok){n i:Int}(J:lookL n π.aH=some i): ∃(k:Nat) (f:Fm),i=k∧π.ak[k]?=some f:=by
 have I:=h.aH _ (fe J)
 exact ⟨i.toNat,π.ak[i.toNat]'(by have:=I.2; simp only at this; omega),by have:=I.1; simp only at this; omega,bg _⟩
def heldI (π:Pl)(n:Int): Option Nat:=match lookL n π.aH with
 | none=>none
 | some i=>match π.ak[i.toNat]? with
  | none=>none
  | some f=>if f.pins=0 then none else some i.toNat
def unpinF (π:Pl)(n:Int): Int×Pl:=match heldI π n with
 | none=>(18,π)
 | some i=>match π.ak[i]? with
  | none=>(18,π)
  | some f=>(0,{ π with ak:=π.ak.set i { f with pins:=f.pins-1 } })
def dW (π:Pl)(n:Int)(aF:Nat): Nat:=match lookL n π.aQ with
 | some x=>x.1
 | none=>aF
def lF (π:Pl)(n:Int)(b:List Nat)(aF:Nat): Int×Pl:=match heldI π n with
 | none=>(18,π)
 | some i=>match π.ak[i]? with
  | none=>(18,π)
  | some f=>if bU b=false then (4,π) else (0,{ π with ak:=π.ak.set i { f with b:=cM b aF,changed:=true },aQ:=cK n (dW π n aF,true) π.aQ })
def ee (ε:aM)(n:Int): Int×aM:=match lookL n ε.1.aH with
 | none=>(18,ε)
 | some i=>outF ε i.toNat
section
variable {told:dF} {h:H} {S:List ax} {X:ax} {r k q p bV:Nat} {v x wh di:V} {l b:List Nat} {π:Pl} {m:List Fm} {μ:Lg} {δ:Dk}
theorem D6 {n:Int}{j:Nat}(s:Sat h (G5 wh π.aH::S)): (lookL n π.aH=none∧eY Tryz.prog h 136 wh (.int .i64 n) true=some (.bD [.int .i64 0,.bool false])) ∨
  ∃i,lookL n π.aH=some i∧eY Tryz.prog h 136 wh (.int .i64 n) true=some (.bD [.int .i64 i,.bool true]):=by
 rcases my (f:=fun v (x:Int)=>.pu (v=.int .i64 x)) (n:=n) (fun _ _=>aE.pu _) s yI bE EE with ⟨I,J,_⟩ | ⟨u,i,I,J,_,s'⟩
 ·exact .inl ⟨I,J⟩
 ·obtain ⟨rfl,_⟩:=eE.1 s'
  exact .inr ⟨i,I,J⟩
theorem D7 {n:Int}(s:Sat h (CC di π.aQ::S)): (lookL n π.aQ=none∧eY Tryz.prog h 138 di (.int .i64 n) true=some (.bD [.agg [.int .u64 0,.bool false],.bool false])∧eY Tryz.prog h 138 di (.int .i64 n) false=some (.agg [.int .u64 0,.bool false])) ∨
  ∃x,lookL n π.aQ=some x∧eY Tryz.prog h 138 di (.int .i64 n) true=some (.bD [.agg [.int .u64 (x.1:Int),.bool x.2],.bool true])∧eY Tryz.prog h 138 di (.int .i64 n) false=some (.agg [.int .u64 (x.1:Int),.bool x.2]):=by
 rcases my (f:=fun v (x:Nat×Bool)=>.pu (v=.agg [.int .u64 (x.1:Int),.bool x.2])) (n:=n) (fun _ _=>aE.pu _) s qh bE wM with ⟨I,J,U⟩ | ⟨u,x,I,J,U,s'⟩
 ·exact .inl ⟨I,J,U⟩
 ·obtain ⟨rfl,_⟩:=eE.1 s'
  exact .inr ⟨x,I,J,U⟩
theorem J3 (hT:W told){n:Int}(s:Sat h (pt r (.cells 6 (ql p q bV π.ak.length wh di π.hand) false)::eP bV π.ak::G5 wh π.aH::S))(Lw:π.Ok):
  Call ⟨Tryz.prog,told⟩ 97 [.ptr r 0,.int .i64 n] h fun v h'=>h'=h∧((heldI π n=none∧v=.bD [.cD,.int .i64 18])∨∃(i:Nat) (f:Fm),heldI π n=some i∧π.ak[i]?=some f∧v=.bD [.ptr bV (i*5),.int .i64 0]):=by
 refine Call.of_wp (hT.free _ rfl) Tryz.func97 rfl rfl (zK 9 rfl (zf rfl (qW _ _) (zl rfl (s.ld (k:=0) rfl wL rfl) (zm rfl ?_))))
 rcases D6 (n:=n) (j:=0) (s.ae [2]) with ⟨U,g2⟩ | ⟨i,U,g2⟩
 ·refine aB.op rfl rfl rfl (gG rfl rfl g2) ?_
  exact zk 10 rfl (zt rfl (dA rfl rfl) (rfl) (zk 18 rfl (WP.ret ⟨aa,_,rfl,rfl,.inl ⟨by simp only [heldI,U],rfl⟩⟩)))
 ·obtain ⟨i,f,rfl,hf⟩:=Lw.at U
  have hl:=(List.getElem?_eq_some_iff.1 hf).1
  have hh:heldI π n=if f.pins=0 then none else some i:=by simp only [heldI,U,cQ,hf]
  obtain ⟨pre,fv,post,J,hlen,s'⟩:=jr (s.ae [1]) hf
  refine zo rfl (gG rfl rfl g2) (zk 10 rfl (zh rfl (dA rfl rfl) (rfl) (zk 3 rfl (zf rfl (kQ _ _) (zl rfl (s.ld (k:=0) rfl oC rfl) (zm rfl (zo rfl (dG rfl rfl (mG (i:=i) hl)) (zf rfl (qX _ _) (zl rfl (s'.ld (k:=0) rfl c7 (iT J rfl)) ?_)))))))))
  refine zd rfl (ag rfl rfl bR) ?_ ?_
  ·intro I
   have I:f.pins=0:=by simpa using I
   exact zk 8 rfl (WP.ret ⟨aa,_,rfl,rfl,.inl ⟨by rw [hh,aj I],rfl⟩⟩)
  ·intro I
   have I:f.pins≠0:=by simpa using I
   exact zk 8 rfl (zf rfl (kQ _ _) (zl rfl (s.ld (k:=0) rfl oC rfl) (zm rfl (zo rfl (dG rfl rfl (mG (i:=i) hl)) (zk 3 rfl (WP.ret ⟨aa,_,rfl,rfl,.inr ⟨i,f,by rw [hh,af I],hf,rfl⟩⟩))))))
theorem G6 (hT:W told){n:Int}(s:Sat h (bZ r p q π::S))(J:π.Ok):
  Call ⟨Tryz.prog,told⟩ 54 [.ptr r 0,.int .i64 n] h fun v h'=>v=.int .i64 (unpinF π n).1∧Sat h' (bZ r p q (unpinF π n).2::S):=by
 have s0:=s
 obtain ⟨bV,wh,di,s⟩:=c9.1 s
 refine Call.of_wp (hT.free _ rfl) Tryz.func54 rfl rfl (zK 8 rfl (zc rfl (J3 (n:=n) hT s J) ?_))
 rintro v h' ⟨rfl,(⟨hh,rfl⟩ | ⟨i,f,hh,U,rfl⟩)⟩
 ·have he:unpinF π n=(18,π):=by simp only [unpinF,hh]
  rw [he]
  exact zk 10 rfl (zt rfl (ag rfl rfl aX) (rfl) (zk 7 rfl (WP.ret ⟨aa,_,rfl,rfl,s0⟩)))
 ·have he:unpinF π n=(0,{ π with ak:=π.ak.set i { f with pins:=f.pins-1 } }):=by simp only [unpinF,hh,U]
  rw [he]
  obtain ⟨pre,fv,post,I,hlen,s⟩:=jr (s.ae [1]) U
  have PZ:=J.pins f (bq U)
  refine zk 10 rfl (zh rfl (ag rfl rfl aX) (rfl) (zk 7 rfl (zf rfl (qX _ _) (zl rfl (s.ld (k:=0) rfl c7 (iT I rfl)) (zb rfl (by exact lE (aT (by omega) (by omega))) ?_)))))
  refine zn rfl (zf rfl (qX _ _) (zS rfl (s.stM (k:=0) (j:=2) rfl jK I hlen (by simp [fC]) rfl rfl) ?_))
  intro h s
  have e5:(fC f fv).set 2 (.int .i64 (f.pins-1))=fC { f with pins:=f.pins-1 } fv:=rfl
  rw [e5] at s
  refine zk 5 rfl (WP.ret ⟨aa,_,rfl,?_⟩)
  refine ⟨rfl,c9.2 ⟨bV,wh,di,?_⟩⟩
  have s:=gh (i:=i) (f':={ f with pins:=f.pins-1 }) s rfl U I
  rw [dn]
  exact s.ae [1,0]
theorem Tg (hT:W told){n:Int}{aF:Nat}{bv:V}(s:Sat h (bZ r p q π::X::S))(hX:cR X (cV bv b))(Lw:π.Ok)(hb:b.length<9223372036854775808):
  Call ⟨Tryz.prog,told⟩ 53 [.ptr r 0,.int .i64 n,bv,.int .u64 (aF:Int)] h fun v h'=>v=.int .i64 (lF π n b aF).1∧Sat h' (bZ r p q (lF π n b aF).2::X::S):=by
 have s0:=s
 obtain ⟨bV,wh,di,s⟩:=c9.1 s
 refine Call.of_wp (hT.free _ rfl) Tryz.func53 rfl rfl (zK 8 rfl (zc rfl (J3 (n:=n) hT s Lw) ?_))
 rintro v h' ⟨rfl,(⟨hh,rfl⟩ | ⟨i,f,hh,hf,rfl⟩)⟩
 ·have he:lF π n b aF=(18,π):=by simp only [lF,hh]
  rw [he]
  exact zk 10 rfl (zt rfl (ag rfl rfl aX) (rfl) (zk 7 rfl (WP.ret ⟨aa,_,rfl,rfl,s0⟩)))
 ·have he:lF π n b aF=(if bU b=false then (4,π) else (0,{ π with ak:=π.ak.set i { f with b:=cM b aF,changed:=true },aQ:=cK n (dW π n aF,true) π.aQ })):=by simp only [lF,hh,hf]
  rw [he]
  refine zk 10 rfl (zh rfl (ag rfl rfl aX) (rfl) (zk 7 rfl (zc rfl (J0 (n:=aF) hT (s.ae [4]) hX hb) ?_)))
  rintro v h (⟨U,u,rfl,s⟩ | ⟨U,rfl,s⟩)
  ·rw [af (by rw [U]; decide)]
   have hul:(cM b aF).length=512:=by
    have h1:=wV (n:=aF) (fq U)
    rw [cM,iG (by rw [dH]; omega),h1]
   obtain ⟨J,_,cap,_,rfl,_⟩:=s.ku (by omega)
   have s:=s.fF
   obtain ⟨pre,fv,post,I,hlen,s⟩:=jr (s.ae [3]) hf
   refine zk 10 rfl (zh rfl (ag rfl rfl aX) (rfl) (zk 9 rfl (zf rfl (As _ _) (zS rfl (s.stM (k:=0) (j:=1) rfl jy I hlen (by simp [fC]) rfl rfl) ?_))))
   intro h s
   refine zn rfl (zf rfl (DW _ _) (zS rfl (s.stM (k:=0) (j:=4) rfl xN I (by simpa [fC] using hlen) (by simp [fC]) rfl rfl) ?_))
   intro h s
   have e5:((fC f fv).set 1 (.sl J 0 (cM b aF).length cap)).set 4 (.bool true)=fC { f with b:=cM b aF,changed:=true } (.sl J 0 (cM b aF).length cap):=rfl
   rw [e5] at s
   have s:=gh (i:=i) (f':={ f with b:=cM b aF,changed:=true }) (s.ae [0,0,1]) rfl hf I
   have s:=s.ae [3,4,0]
   refine zk 5 rfl (zf rfl (mW _ _) (zl rfl (s.ld (k:=0) rfl rF rfl) (zm rfl ?_)))
   rcases D7 (n:=n) (s.ae [1]) with ⟨g1,g2,_⟩ | ⟨x,g1,g2,_⟩
   ·refine aB.op rfl rfl rfl (gG rfl rfl g2) ?_
    refine zk 3 rfl ?_
    refine aB.cO s rfl rfl rfl (cH wM) (fun Vv h s => ?_)
    refine zS rfl (s.gX (j:=0) rfl uM rfl rfl) (fun h s => ?_)
    refine zk 6 rfl (zo rfl (dA rfl rfl) (zk 4 rfl (zf rfl (DT _ _) ?_)))
    refine zS rfl (by exact s.dZ (k:=0) rfl qT rfl (by decide) rfl rfl) (fun h s => ?_)
    refine zk 3 rfl (zf rfl (DU _ _) ?_)
    refine zS rfl (by exact s.dZ (k:=0) rfl xN rfl (by decide) rfl rfl) (fun h s => ?_)
    refine zk 2 rfl (WP.drawn [ai,ai,ai,ai,ai,ai,ai] rfl (by kernel_rfl) (by kernel_rfl) ?_)
    refine zM rfl (zN rfl (zF rfl (mW _ _) (zL rfl (s.ld (k:=1) rfl rF rfl) (zM rfl (zL rfl (s.fE (k:=0) rfl Le uM) (aA.gV rfl rfl rfl (OpR.mapUpdate rfl rfl rfl rfl (oI (f:=fun v (x:Nat×Bool)=>.pu (v=.agg [.int .u64 (x.1:Int),.bool x.2])) (x:=(aF,true)) (fun _ _=>aE.pu _) ((s.ae [2]).gx rfl) qh bE)) ?_))))))
    intro w h s
    refine aA.nil ⟨⟨aa,aa,aa,aa,aa,aa,aa,aa⟩,?_⟩
    refine zK 4 rfl (WP.ret ⟨aa,_,rfl,?_⟩)
    have ed:dW π n aF=aF:=by simp only [dW,g1]
    rw [ed]
    refine ⟨rfl,c9.2 ⟨bV,wh,di,?_⟩⟩
    have e6:(π.ak.set i { f with b:=cM b aF,changed:=true }).length=π.ak.length:=dn
    show Sat h (pt r (.cells 6 (ql p q bV (π.ak.set i { f with b:=cM b aF,changed:=true }).length wh di π.hand) false)::_)
    rw [e6]
    exact ((s.ae [2,2,4,0,2]).del 6).del 5
   ·skip
    refine zo rfl (gG rfl rfl g2) (zk 3 rfl ?_)
    refine aB.cO s rfl rfl rfl (cH wM) (fun Vv h s => ?_)
    refine zS rfl (s.gX (j:=0) rfl uM rfl rfl) (fun h s => ?_)
    refine zk 6 rfl (zo rfl (dA rfl rfl) (zk 5 rfl (zf rfl (DU _ _) ?_)))
    refine zS rfl (by exact s.dZ (k:=0) rfl xN rfl (by decide) rfl rfl) (fun h s => ?_)
    refine zk 2 rfl (WP.drawn [ai,ai,ai,ai,ai,ai,ai] rfl (by kernel_rfl) (by kernel_rfl) ?_)
    refine zM rfl (zN rfl (zF rfl (mW _ _) (zL rfl (s.ld (k:=1) rfl rF rfl) (zM rfl (zL rfl (s.fE (k:=0) rfl Le uM) (aA.gV rfl rfl rfl (OpR.mapUpdate rfl rfl rfl rfl (oI (f:=fun v (x:Nat×Bool)=>.pu (v=.agg [.int .u64 (x.1:Int),.bool x.2])) (x:=(x.1,true)) (fun _ _=>aE.pu _) ((s.ae [2]).gx rfl) qh bE)) ?_))))))
    intro w h s
    refine aA.nil ⟨⟨aa,aa,aa,aa,aa,aa,aa,aa⟩,?_⟩
    refine zK 4 rfl (WP.ret ⟨aa,_,rfl,?_⟩)
    have ed:dW π n aF=x.1:=by simp only [dW,g1]
    rw [ed]
    refine ⟨rfl,c9.2 ⟨bV,wh,di,?_⟩⟩
    have e6:(π.ak.set i { f with b:=cM b aF,changed:=true }).length=π.ak.length:=dn
    show Sat h (pt r (.cells 6 (ql p q bV (π.ak.set i { f with b:=cM b aF,changed:=true }).length wh di π.hand) false)::_)
    rw [e6]
    exact ((s.ae [2,2,4,0,2]).del 6).del 5
  ·rw [aj U]
   exact zk 10 rfl (zt rfl (ag rfl rfl aX) (rfl) (zk 7 rfl (WP.ret ⟨aa,_,rfl,rfl,c9.2 ⟨bV,wh,di,s.ae [1,1,1,1,0]⟩⟩)))
theorem NH (hT:W told){n:Int}(s:Sat h (bZ r p q π::bf q p μ::aC p δ::S))(I:π.Ok)(U:μ.Ok)(sI:δ.Ok)(hw:δ.waiting.length≤268435456):
  Call ⟨Tryz.prog,told⟩ 74 [.ptr r 0,.int .i64 n] h fun v h'=>v=.int .i64 (ee (π,μ,δ) n).1 ∧
   Sat h' (bZ r p q (ee (π,μ,δ) n).2.1::bf q p (ee (π,μ,δ) n).2.2.1::aC p (ee (π,μ,δ) n).2.2.2::S):=by
 have s0:=s
 obtain ⟨bV,wh,di,s⟩:=c9.1 s
 refine Call.of_wp (hT.free _ rfl) Tryz.func74 rfl rfl (zK 8 rfl (zf rfl (qW _ _) (zl rfl (s.ld (k:=0) rfl wL rfl) (zm rfl ?_))))
 rcases D6 (n:=n) (j:=0) (s.ae [2]) with ⟨J,g2⟩ | ⟨i,J,g2⟩
 ·have he:ee (π,μ,δ) n=(18,(π,μ,δ)):=by simp only [ee,J]
  rw [he]
  exact zo rfl (gG rfl rfl g2) (zk 10 rfl (zo rfl (dA rfl rfl) (zk 6 rfl (WP.ret ⟨aa,_,rfl,rfl,s0⟩))))
 ·obtain ⟨i,f,rfl,hf⟩:=I.at J
  have hl:=(List.getElem?_eq_some_iff.1 hf).1
  have he:ee (π,μ,δ) n=outF (π,μ,δ) i:=by simp only [ee,J,cQ]
  rw [he]
  refine zo rfl (gG rfl rfl g2) (zk 10 rfl (zo rfl (dA rfl rfl) (zk 8 rfl (zf rfl (kQ _ _) (zl rfl (s.ld (k:=0) rfl oC rfl) (zm rfl (zo rfl (dG rfl rfl (mG (i:=i) hl)) (zc rfl (NG hT s hf U sI (by have:=I.len f (bq hf); omega) hw) ?_))))))))
  rintro v h ⟨rfl,s⟩
  exact zk 2 rfl (WP.ret ⟨aa,_,rfl,rfl,c9.2 ⟨bV,wh,di,s⟩⟩)
theorem Vw (U:W told){n:Int}(s:Sat h (bZ r p q π::S)): Call ⟨Tryz.prog,told⟩ 86 [.ptr r 0,.int .i64 n] h fun v h'=>v=.bD [.int .u64 (dW π n 0:Nat),.bool (lookL n π.aQ).isSome]∧Sat h' (bZ r p q π::S):=by
 obtain ⟨bV,wh,di,s⟩:=c9.1 s
 refine Call.of_wp (U.free _ rfl) Tryz.func86 rfl rfl (zK 9 rfl (zf rfl (mW _ _) (zl rfl (s.ld (k:=0) rfl rF rfl) (zm rfl ?_))))
 rcases D7 (n:=n) (s.ae [3]) with ⟨I,J,_⟩ | ⟨x,I,J,_⟩
 ·refine aB.op rfl rfl rfl (gG rfl rfl J) ?_
  refine zk 3 rfl ?_
  refine aB.cO s rfl rfl rfl (cH wM) (fun p6 h s => ?_)
  refine zS rfl (s.gX (j:=0) rfl uM rfl rfl) (fun h s => ?_)
  exact zk 4 rfl (zf rfl (DT _ _) (zl rfl (s.ld (k:=0) rfl fX rfl) (zk 4 rfl (WP.ret ⟨aa,_,rfl,by simp only [dW,I]; rfl,c9.2 ⟨bV,wh,di,s.drop⟩⟩))))
 ·skip
  refine zo rfl (gG rfl rfl J) (zk 3 rfl ?_)
  refine aB.cO s rfl rfl rfl (cH wM) (fun p6 h s => ?_)
  refine zS rfl (s.gX (j:=0) rfl uM rfl rfl) (fun h s => ?_)
  exact zk 4 rfl (zf rfl (DT _ _) (zl rfl (s.ld (k:=0) rfl fX rfl) (zk 4 rfl (WP.ret ⟨aa,_,rfl,by simp only [dW,I]; rfl,c9.2 ⟨bV,wh,di,s.drop⟩⟩))))
def eT : Fm:=⟨-1,[],0,false,false⟩
def dy (π:Pl)(i:Nat)(f:Fm): Pl:={ π with ak:=π.ak.set i eT,aH:=if f.aK<0 then π.aH else mY f.aK π.aH }
def jC (π:Pl)(i:Nat)(n:Int)(b:List Nat): Pl:={ π with ak:=π.ak.set i ⟨n,b,1,true,false⟩,aH:=cK n (i:Int) π.aH }
inductive fS (ε:aM)(n:Int): Int→List Nat→aM→Prop where
 | arg (h:¬(0≤n∧n<ε.2.2.aq.length)):fS ε n 1 [] ε
 | A6 (i:Nat) (f:Fm) (h1:0≤n) (h2:n<ε.2.2.aq.length) (hl:lookL n ε.1.aH=some (i:Int)) (hf:ε.1.ak[i]?=some f):fS ε n 0 f.b ({ ε.1 with ak:=ε.1.ak.set i { f with e_:=true,pins:=f.pins+1 } },ε.2)
 | out (gO:Pl) (i:Nat) (f:Fm) (h1:0≤n) (h2:n<ε.2.2.aq.length) (hl:lookL n ε.1.aH=none) (hn:fR ε.1 gO) (hf:gO.ak[i]?=some f) (hh:gO.hand<gO.ak.length) (he:(outF (gO,ε.2) i).1≠0):fS ε n (outF (gO,ε.2) i).1 [] (outF (gO,ε.2) i).2
 | read (gO:Pl) (i:Nat) (f:Fm) (h1:0≤n) (h2:n<ε.2.2.aq.length) (hl:lookL n ε.1.aH=none) (hn:fR ε.1 gO) (hf:gO.ak[i]?=some f) (hh:gO.hand<gO.ak.length) (he:(outF (gO,ε.2) i).1=0)
   (hr:(outF (gO,ε.2) i).2.2.2.rH n≠0):fS ε n ((outF (gO,ε.2) i).2.2.2.rH n) [] (dy (outF (gO,ε.2) i).2.1 i f,(outF (gO,ε.2) i).2.2)
 | bad (gO:Pl) (i:Nat) (f:Fm) (h1:0≤n) (h2:n<ε.2.2.aq.length) (hl:lookL n ε.1.aH=none) (hn:fR ε.1 gO) (hf:gO.ak[i]?=some f) (hh:gO.hand<gO.ak.length) (he:(outF (gO,ε.2) i).1=0)
   (hr:(outF (gO,ε.2) i).2.2.2.rH n=0) (hc:dI ((outF (gO,ε.2) i).2.2.2.at n)≠0):fS ε n (dI ((outF (gO,ε.2) i).2.2.2.at n)) [] (dy (outF (gO,ε.2) i).2.1 i f,(outF (gO,ε.2) i).2.2)
 | load (gO:Pl) (i:Nat) (f:Fm) (h1:0≤n) (h2:n<ε.2.2.aq.length) (hl:lookL n ε.1.aH=none) (hn:fR ε.1 gO) (hf:gO.ak[i]?=some f) (hh:gO.hand<gO.ak.length) (he:(outF (gO,ε.2) i).1=0)
   (hr:(outF (gO,ε.2) i).2.2.2.rH n=0) (hc:dI ((outF (gO,ε.2) i).2.2.2.at n)=0):fS ε n 0 ((outF (gO,ε.2) i).2.2.2.at n) (jC (dy (outF (gO,ε.2) i).2.1 i f) i n ((outF (gO,ε.2) i).2.2.2.at n),(outF (gO,ε.2) i).2.2)
theorem Bv {ε:aM}{i:Nat}(h:ε.2.2.Ok): (outF ε i).2.2.2.Ok:=by
 unfold outF
 split
 ·exact h
 ·split
  ·exact h
  ·split
   ·exact h
   ·split
    ·exact nR h
    ·split
     ·exact (nR h).bJ
     ·exact (nR h).bJ
theorem P0 {ε:aM}{i:Nat}(h:ε.2.1.Ok): (outF ε i).2.2.1.Ok:=by
 unfold outF
 split
 ·exact h
 ·split
  ·exact h
  ·split
   ·exact h
   ·split
    ·exact rI h
    ·split <;> exact rI h
theorem nT {ε:aM}{i:Nat}{f:Fm}(I:ε.1.ak[i]?=some f): ∃c,(outF ε i).2.1.ak[i]?=some { f with changed:=c }:=by
 have J:=(List.getElem?_eq_some_iff.1 I).1
 unfold outF
 rw [I]
 dsimp only
 split
 ·exact ⟨f.changed,I⟩
 ·split
  ·exact ⟨f.changed,I⟩
  ·split
   ·exact ⟨f.changed,I⟩
   ·split
    ·exact ⟨f.changed,I⟩
    ·exact ⟨false,by simp [sO,J]⟩
theorem NI (hT:W told){n:Int}(s:Sat h (bZ r p q π::bf q p μ::aC p δ::S))(Lw:π.Ok)(PZ:∀f∈π.ak,f.pins=0)(D5:μ.Ok)(sI:δ.Ok)(hw:δ.waiting.length≤268435456):
  Call ⟨Tryz.prog,told⟩ 52 [.ptr r 0,.int .i64 n] h fun v h'=>∃(e:Int) (b:List Nat) (ε:aM),fS (π,μ,δ) n e b ε ∧
   ((e≠0∧v=.bD [.bA,.int .i64 e]∧Sat h' (bZ r p q ε.1::bf q p ε.2.1::aC p ε.2.2::S))∨(e=0∧∃u,v=.bD [u,.int .i64 0]∧Sat h' (bG u b::bZ r p q ε.1::bf q p ε.2.1::aC p ε.2.2::S))):=by
 have s0:=s
 obtain ⟨bV,wh,di,s⟩:=c9.1 s
 refine Call.of_wp (hT.free _ rfl) Tryz.func52 rfl rfl (zK 9 rfl ?_)
 refine zd rfl (ag rfl rfl bx) ?_ ?_
 ·intro hq
  have hq:n<0:=by simpa using hq
  exact zk 16 rfl (WP.ret ⟨aa,_,rfl,1,[],(π,μ,δ),.arg (fun q=>by omega),.inl ⟨by decide,rfl,s0⟩⟩)
 ·intro hq
  have hq:0≤n:=by simp at hq; omega
  refine zk 4 rfl (zf rfl (vP _ _) (zl rfl (s.ld (k:=0) rfl jQ rfl) (zc rfl (Bu hT (s.ae [5])) ?_)))
  rintro v h' ⟨rfl,rfl⟩
  refine zd rfl (ag rfl rfl ng) ?_ ?_
  ·intro iw
   have iw:¬ n<δ.aq.length:=by simp at iw; omega
   exact zk 8 rfl (WP.ret ⟨aa,_,rfl,1,[],(π,μ,δ),.arg (fun q=>iw q.2),.inl ⟨by decide,rfl,s0⟩⟩)
  ·intro iw
   have iw:n<δ.aq.length:=by simp at iw; omega
   refine zk 9 rfl (zf rfl (qW _ _) (zl rfl (s.ld (k:=0) rfl wL rfl) (zm rfl ?_)))
   rcases D6 (n:=n) (j:=0) (s.ae [2]) with ⟨g1,g2⟩ | ⟨i,g1,g2⟩
   ·refine aB.op rfl rfl rfl (gG rfl rfl g2) ?_
    refine zk 15 rfl (zc rfl (PY hT s Lw.hand (by have:=Lw.many; omega) PZ) ?_)
    rintro v h ⟨i,gO,f,rfl,U,hf,hh,s⟩
    have hl:=(List.getElem?_eq_some_iff.1 hf).1
    rw [←U.aH,←U.aQ] at s
    have XV:f.b.length≤512:=by
     have h1:π.ak[i]?=some (π.ak[i]'(by have:=U.len; omega)):=bg _
     generalize (π.ak[i]'(by have:=U.len; omega))=f0 at h1
     obtain ⟨t,ht⟩:=U.get i f0 h1
     rw [hf] at ht
     have:=bt ht
     rw [this]
     exact Lw.len f0 (bq h1)
    refine zk 6 rfl (zh rfl (ag rfl rfl bx) (by simp <;> omega) ?_)
    refine zk 7 rfl (zf rfl (kQ _ _) (zl rfl (s.ld (k:=0) rfl oC rfl) (zm rfl (zo rfl (dG rfl rfl (mG (i:=i) hl)) (zk 7 rfl (zc rfl (NG (π:=gO) hT s hf D5 sI (by omega) hw) ?_))))))
    rintro v h ⟨rfl,s⟩
    obtain ⟨c,A7⟩:=nT (ε:=(gO,μ,δ)) hf
    have D8:=Bv (ε:=(gO,μ,δ)) (i:=i) sI
    refine zk 5 rfl ?_
    by_cases he:(outF (gO,μ,δ) i).1=0
    ·generalize ho:outF (gO,μ,δ) i=o at he s A7 D8 ⊢
     obtain ⟨oe,I,μ1,yP⟩:=o
     dsimp only at he s A7 D8 ⊢
     subst he
     have J4:(outF (gO,μ,δ) i).1=0:=by rw [ho]
     have nZ:(outF (gO,μ,δ) i).2=(I,μ1,yP):=by rw [ho]
     refine zh rfl (ag rfl rfl aX) (by decide) ?_
     obtain ⟨pre,fv,post,J,hlen,s⟩:=jr (s.ae [1]) A7
     refine zk 8 rfl (zf rfl (pJ _ _) (zl rfl (s.ld (k:=0) rfl c7 (iT J rfl)) ?_))
     refine zd rfl (ag rfl rfl ng) ?_ ?_
     ·intro mC
      have mC:¬ f.aK<0:=by simp at mC; omega
      refine zk 2 rfl (WP.drawn [ai,ai,ai,ai,ai,ai,ai,ai,ai] rfl (by kernel_rfl) (by kernel_rfl) ?_)
      refine zM rfl (zN rfl (zF rfl (qW _ _) (zL rfl (s.ld (k:=3) rfl wL rfl) (zM rfl (zN rfl (zF rfl (pJ _ _) (zL rfl (s.ld (k:=0) rfl c7 (iT J rfl)) (aA.gV rfl rfl rfl (OpR.delete rfl rfl rfl rfl (PI (s.ae [4]) yI bE)) ?_))))))))
      intro v h s
      have s:=s.ae [1,1,1,1,0]
      refine aA.nil ⟨⟨aa,aa,aa,aa,aa,aa,aa,aa,aa,aa⟩,?_⟩
      refine zK 3 rfl (zo rfl (cX rfl (by rw [FM]; rfl)) ?_)
      refine zn rfl (zS rfl (s.RY (k:=0) (row':=fC eT .bA) rfl Ck J hlen (by simp [fC]) rfl) ?_)
      intro h s
      have Lx:(pre++(fC eT .bA++post)).length=I.ak.length*5:=by simpa [fC] using hlen
      have qy:(dy I i f).aH=mY f.aK I.aH:=by simp only [dy]; rw [af mC]
      refine zk 5 rfl (zf rfl (vP _ _) (zl rfl (s.ld (k:=3) rfl jQ rfl) (zm rfl (zc rfl (NF (n:=n) hT (s.ae [7]) D8) ?_))))
      rintro v h (⟨hr,rfl,s⟩ | ⟨hr,u,rfl,s⟩)
      ·dsimp only [bringA,getA,aU] at s
       refine zk 10 rfl (zt rfl (ag rfl rfl aX) (by simp; exact hr) ?_)
       refine zk 8 rfl (WP.ret ⟨aa,_,rfl,?_⟩)
       have s:=gh (i:=i) (f':=eT) (v':=.bA) (s.rG.ae [2,2,0]) rfl A7 J
       have e6:(I.ak.set i eT).length=I.ak.length:=dn
       rw [←e6,←qy] at s
       have s:=(c9 (π:=dy I i f)).2 ⟨bV,wh,di,s.ae [3,0,2,2]⟩
       have hR:=fS.read (ε:=(π,μ,δ)) gO i f hq iw g1 U hf hh J4 (by rw [nZ]; exact hr)
       rw [nZ] at hR
       exact ⟨_,[],_,hR,.inl ⟨hr,rfl,(s.del 2).ae [0,1,0]⟩⟩
      ·have Xl:=D8.at n
       obtain ⟨xP,_,cap,_,rfl,_⟩:=s.ku (by omega)
       refine zk 10 rfl (zh rfl (ag rfl rfl aX) (rfl) (zk 7 rfl (zc rfl (wW hT s (bI _ _) (by omega)) ?_)))
       rintro v h ⟨rfl,s⟩
       refine zk 5 rfl ?_
       by_cases hc:dI (yP.at n)=0
       ·skip
        refine zh rfl (ag rfl rfl aX) (by simp; exact hc) ?_
        have s:=s.fF.ae [2,2,0,2,2,2,2,0,0]
        refine zk 8 rfl (zo rfl (cX rfl (by rw [FM]; rfl)) ?_)
        refine zn rfl (zS rfl (s.RY (k:=0) (row':=fC ⟨n,yP.at n,1,true,false⟩ (.sl xP 0 (yP.at n).length cap)) rfl Ck J Lx (by simp [fC]) rfl) ?_)
        intro h s
        refine zk 5 rfl (zf rfl (qW _ _) (zl rfl (s.ld (k:=3) rfl wL rfl) (zk 2 rfl (aB.gV rfl rfl (OpR.mapUpdate rfl rfl rfl rfl (oI (f:=fun v (x:Int)=>.pu (v=.int .i64 x)) (x:=(i:Int)) (fun _ _=>aE.pu _) ((s.ae [4]).gx rfl) yI bE)) ?_))))
        intro w h s
        refine zk 4 rfl (zc rfl (wR hT (s.ae [3]) (cL _ _) (by omega)) ?_)
        intro u h s
        refine zk 3 rfl (WP.ret ⟨aa,_,rfl,?_⟩)
        have s:=gh (i:=i) (f':=⟨n,yP.at n,1,true,false⟩) (s.ae [3,3,1]) rfl A7 J
        have e6:(I.ak.set i ⟨n,yP.at n,1,true,false⟩).length=I.ak.length:=dn
        have e7:(jC (dy I i f) i n (yP.at n)).ak=I.ak.set i ⟨n,yP.at n,1,true,false⟩:=by simp only [jC,dy,Ab]
        rw [←e6,←e7,←qy] at s
        have s:=(c9 (π:=jC (dy I i f) i n (yP.at n))).2 ⟨bV,wh,di,s.ae [3,0,1,1]⟩
        have hR:=fS.load (ε:=(π,μ,δ)) gO i f hq iw g1 U hf hh J4 (by rw [nZ]; exact hr) (by rw [nZ]; exact hc)
        rw [nZ] at hR
        exact ⟨_,_,_,hR,.inr ⟨rfl,u,rfl,(s.del 4).ae [1,0]⟩⟩
       ·skip
        refine zt rfl (ag rfl rfl aX) (by simp; exact hc) ?_
        refine zk 8 rfl (WP.ret ⟨aa,_,rfl,?_⟩)
        have s:=s.drop
        have s:=gh (i:=i) (f':=eT) (v':=.bA) (s.rG.ae [2,2,0]) rfl A7 J
        have e6:(I.ak.set i eT).length=I.ak.length:=dn
        rw [←e6,←qy] at s
        have s:=(c9 (π:=dy I i f)).2 ⟨bV,wh,di,s.ae [3,0,2,2]⟩
        dsimp only [bringA,getA,aU] at s
        have hR:=fS.bad (ε:=(π,μ,δ)) gO i f hq iw g1 U hf hh J4 (by rw [nZ]; exact hr) (by rw [nZ]; exact hc)
        rw [nZ] at hR
        exact ⟨_,[],_,hR,.inl ⟨hc,rfl,(s.del 2).ae [0,1,0]⟩⟩
     ·intro mC
      have mC:f.aK<0:=by simp at mC; omega
      refine zk 6 rfl (zo rfl (cX rfl (by rw [FM]; rfl)) ?_)
      refine zn rfl (zS rfl (s.RY (k:=0) (row':=fC eT .bA) rfl Ck J hlen (by simp [fC]) rfl) ?_)
      intro h s
      dsimp only [setA] at s
      have Lx:(pre++(fC eT .bA++post)).length=I.ak.length*5:=by simpa [fC] using hlen
      have qy:(dy I i f).aH=I.aH:=by simp only [dy]; rw [aj mC]
      refine zk 5 rfl (zf rfl (vP _ _) (zl rfl (s.ld (k:=3) rfl jQ rfl) (zm rfl (zc rfl (NF (n:=n) hT (s.ae [7]) D8) ?_))))
      rintro v h (⟨hr,rfl,s⟩ | ⟨hr,u,rfl,s⟩)
      ·dsimp only [bringA,getA,aU] at s
       refine zk 10 rfl (zt rfl (ag rfl rfl aX) (by simp; exact hr) ?_)
       refine zk 8 rfl (WP.ret ⟨aa,_,rfl,?_⟩)
       have s:=gh (i:=i) (f':=eT) (v':=.bA) (s.rG.ae [2,2,0]) rfl A7 J
       have e6:(I.ak.set i eT).length=I.ak.length:=dn
       rw [←e6,←qy] at s
       have s:=(c9 (π:=dy I i f)).2 ⟨bV,wh,di,s.ae [3,0,2,2]⟩
       have hR:=fS.read (ε:=(π,μ,δ)) gO i f hq iw g1 U hf hh J4 (by rw [nZ]; exact hr)
       rw [nZ] at hR
       exact ⟨_,[],_,hR,.inl ⟨hr,rfl,(s.del 2).ae [0,1,0]⟩⟩
      ·have Xl:=D8.at n
       obtain ⟨xP,_,cap,_,rfl,_⟩:=s.ku (by omega)
       refine zk 10 rfl (zh rfl (ag rfl rfl aX) (rfl) (zk 7 rfl (zc rfl (wW hT s (bI _ _) (by omega)) ?_)))
       rintro v h ⟨rfl,s⟩
       refine zk 5 rfl ?_
       by_cases hc:dI (yP.at n)=0
       ·skip
        refine zh rfl (ag rfl rfl aX) (by simp; exact hc) ?_
        have s:=s.fF.ae [2,2,0,2,2,2,2,0,0]
        refine zk 8 rfl (zo rfl (cX rfl (by rw [FM]; rfl)) ?_)
        refine zn rfl (zS rfl (s.RY (k:=0) (row':=fC ⟨n,yP.at n,1,true,false⟩ (.sl xP 0 (yP.at n).length cap)) rfl Ck J Lx (by simp [fC]) rfl) ?_)
        intro h s
        refine zk 5 rfl (zf rfl (qW _ _) (zl rfl (s.ld (k:=3) rfl wL rfl) (zk 2 rfl (aB.gV rfl rfl (OpR.mapUpdate rfl rfl rfl rfl (oI (f:=fun v (x:Int)=>.pu (v=.int .i64 x)) (x:=(i:Int)) (fun _ _=>aE.pu _) ((s.ae [4]).gx rfl) yI bE)) ?_))))
        intro w h s
        refine zk 4 rfl (zc rfl (wR hT (s.ae [3]) (cL _ _) (by omega)) ?_)
        intro u h s
        refine zk 3 rfl (WP.ret ⟨aa,_,rfl,?_⟩)
        have s:=gh (i:=i) (f':=⟨n,yP.at n,1,true,false⟩) (s.ae [3,3,1]) rfl A7 J
        have e6:(I.ak.set i ⟨n,yP.at n,1,true,false⟩).length=I.ak.length:=dn
        have e7:(jC (dy I i f) i n (yP.at n)).ak=I.ak.set i ⟨n,yP.at n,1,true,false⟩:=by simp only [jC,dy,Ab]
        rw [←e6,←e7,←qy] at s
        have s:=(c9 (π:=jC (dy I i f) i n (yP.at n))).2 ⟨bV,wh,di,s.ae [3,0,1,1]⟩
        dsimp only [bringA,getA,aU] at s
        have hR:=fS.load (ε:=(π,μ,δ)) gO i f hq iw g1 U hf hh J4 (by rw [nZ]; exact hr) (by rw [nZ]; exact hc)
        rw [nZ] at hR
        exact ⟨_,_,_,hR,.inr ⟨rfl,u,rfl,(s.del 4).ae [1,0]⟩⟩
       ·skip
        refine zt rfl (ag rfl rfl aX) (by simp; exact hc) ?_
        refine zk 8 rfl (WP.ret ⟨aa,_,rfl,?_⟩)
        have s:=s.drop
        have s:=gh (i:=i) (f':=eT) (v':=.bA) (s.rG.ae [2,2,0]) rfl A7 J
        have e6:(I.ak.set i eT).length=I.ak.length:=dn
        rw [←e6,←qy] at s
        have s:=(c9 (π:=dy I i f)).2 ⟨bV,wh,di,s.ae [3,0,2,2]⟩
        have hR:=fS.bad (ε:=(π,μ,δ)) gO i f hq iw g1 U hf hh J4 (by rw [nZ]; exact hr) (by rw [nZ]; exact hc)
        rw [nZ] at hR
        exact ⟨_,[],_,hR,.inl ⟨hc,rfl,(s.del 2).ae [0,1,0]⟩⟩
    ·skip
     refine zt rfl (ag rfl rfl aX) (by simp; exact he) ?_
     exact zk 8 rfl (WP.ret ⟨aa,_,rfl,_,[],_,.out gO i f hq iw g1 U hf hh he,.inl ⟨he,rfl,c9.2 ⟨bV,wh,di,s⟩⟩⟩)
   ·obtain ⟨i,f,rfl,hf⟩:=Lw.at g1
    have hl:=(List.getElem?_eq_some_iff.1 hf).1
    obtain ⟨pre,fv,post,J,hlen,s⟩:=jr (s.ae [1]) hf
    have Rg:=PZ f (bq hf)
    have Ys:=Lw.len f (bq hf)
    refine zo rfl (gG rfl rfl g2) (zk 15 rfl (zf rfl (kQ _ _) (zl rfl (s.ld (k:=3) rfl oC rfl) (zm rfl (zo rfl (dG rfl rfl (mG (i:=i) hl)) (zk 6 rfl (zf rfl (DV _ _) (zS rfl (s.stM (k:=0) (j:=3) rfl xN J hlen (by simp [fC]) rfl rfl) ?_))))))))
    intro h s
    refine zk 5 rfl (zf rfl (qX _ _) (zl rfl (s.ld (k:=0) rfl c7 (iT J rfl)) (zb rfl (by exact bO (aT (by omega) (by omega))) ?_)))
    refine zn rfl (zf rfl (qX _ _) (zS rfl (s.stM (k:=0) (j:=2) rfl jK J (by simpa [fC] using hlen) (by simp [fC]) rfl rfl) ?_))
    intro h s
    have e5:((fC f fv).set 3 (.bool true)).set 2 (.int .i64 (f.pins+1))=fC { f with e_:=true,pins:=f.pins+1 } fv:=rfl
    rw [e5] at s
    refine zk 5 rfl (zf rfl (As _ _) (zl rfl (s.ld (k:=0) rfl bL (iT J rfl)) (zc rfl (wR hT (s.ae [2]) (cL _ _) (by omega)) ?_)))
    intro u h s
    refine zk 3 rfl (WP.ret ⟨aa,_,rfl,?_⟩)
    have s:=gh (i:=i) (f':={ f with e_:=true,pins:=f.pins+1 }) (s.ae [2,2,1]) rfl hf J
    refine ⟨0,f.b,_,.A6 i f hq iw g1 hf,.inr ⟨rfl,u,rfl,?_⟩⟩
    have e6:(π.ak.set i { f with e_:=true,pins:=f.pins+1 }).length=π.ak.length:=dn
    rw [←e6] at s
    exact ((c9 (π:={ π with ak:=π.ak.set i { f with e_:=true,pins:=f.pins+1 } })).2 ⟨bV,wh,di,s.ae [2,0,1,1]⟩).ae [1,0]
end
def CF : Fm:=⟨0,[],0,false,false⟩
def Pl.fresh (n:Nat): Pl:=⟨List.replicate n eT,[],[],0⟩
theorem Th : ∃i,Tryz.prog.info? 167=some i∧i.size=5∧i.bytes=48 :=
 ⟨_,(show Tryz.prog.info? 167=some ((Tryz.prog.info? 167).getD default) by kernel_rfl),by kernel_rfl,by kernel_rfl⟩
theorem P3 {a b:PM}: ∀n:Nat,(uo (repeatL [.int .i64 0,.bA,.int .i64 0,.bool false,.bool false] n) (List.replicate n CF)).p a b:=by
 intro n
 induction n with
 | zero=>trivial
 | succ n I=>exact ⟨⟨⟨rfl,rfl,rfl,rfl⟩,⟨(by intro b J; cases J),.inl ⟨.inl rfl,rfl⟩⟩⟩,I⟩
section
variable {told:dF} {h:H} {S:List ax} {X:ax} {r k q p bV:Nat} {v x wh di:V} {l b:List Nat} {π:Pl} {m:List Fm} {μ:Lg} {δ:Dk}
noncomputable def pnL : Code:=cJ [1,1,1,0,1,0,0] ((Tryz.f59.body).getD .skip)
theorem NJ {n:Nat}(hn:n<4294967296): ∀(j i:Nat) (m:List Fm) (h:H) (E:List (Nat×V)) (Q:Ex→List (Nat×V)→H→Prop),i+j=n→m=List.replicate i eT++List.replicate j CF →
  Sat h (pt r (.cells 6 (ql p q bV n wh di 0) false)::eP bV m::S)→Has E [(8,.ptr r 0),(28,.int .i64 n),(29,.int .i64 i)] →
  (∀E' h',Has E' [(8,.ptr r 0)]→Sat h' (pt r (.cells 6 (ql p q bV n wh di 0) false)::eP bV (List.replicate n eT)::S)→Q (.exit 0) E' h')→WP ⟨Tryz.prog,told⟩ 41 (.loop pnL) E h Q:=by
 intro j
 induction j with
 | zero =>
  intro i m h E Q hi hm s J U
  refine WP.loop (WP.has J (zg rfl (zh rfl (ag rfl rfl bx) (by simp <;> omega) ?_)))
  refine zk 3 rfl (WP.exit (U _ _ ⟨rfl,aa⟩ ?_))
  rw [hm] at s
  have:i=n:=by omega
  subst this
  simpa using s
 | succ j ih =>
  intro i m h E Q hi hm s J U
  have Yu:m.length=n:=by rw [hm]; simp; omega
  have hf:m[i]?=some CF:=by rw [hm,nC (by simp)]; simp [sL]
  obtain ⟨pre,fv,post,I,hlen,s⟩:=jr (s.ae [1]) hf
  dsimp only [bringA,getA,aU] at s
  refine WP.loop (WP.has J (zg rfl (zt rfl (ag rfl rfl bx) (by simp <;> omega) ?_)))
  refine zk 5 rfl (WP.block (zK 8 rfl (zf rfl (kQ _ _) (zl rfl (s.ld (k:=3) rfl oC rfl) (zm rfl (zo rfl (dG rfl rfl (mG (i:=i) (by omega))) ?_))))))
  refine zf rfl (pJ _ _) (zS rfl (s.stM (k:=0) (j:=0) rfl jK I hlen (by simp [fC]) rfl rfl) ?_)
  intro h s
  dsimp only [setA] at s
  have e5:(fC CF fv).set 0 (.int .i64 (-1))=fC eT fv:=rfl
  rw [e5] at s
  refine zv (zr rfl (zb rfl (by exact bO (aT (by omega) (by omega))) ?_))
  refine zm rfl (zv ?_)
  have s:=gh (i:=i) (f':=eT) s rfl hf I
  refine ih (i+1) (m.set i eT) h _ Q (by omega) ?_ (s.ae [1,0]) ⟨rfl,rfl,rfl,aa⟩ U
  rw [hm,List.set_append_right _ _ (by simp),ff,Aa,sL,List.set_cons_zero,List.replicate_succ',bP]
  rfl
theorem J5 (hT:W told){n:Int}(s:Sat h S): Call ⟨Tryz.prog,told⟩ 59 [.ptr p 0,.ptr q 0,.int .i64 n] h fun v h' =>
  (¬(1≤n∧n≤1024)∧v=.bD [.cD,.int .i64 1]∧Sat h' S)∨(1≤n∧n≤1024∧∃r,v=.bD [.ptr r 0,.int .i64 0]∧Sat h' (bZ r p q (Pl.fresh n.toNat)::S)):=by
 refine Call.of_wp (hT.free _ rfl) Tryz.func59 rfl rfl (zK 9 rfl ?_)
 refine zd rfl (ag rfl rfl bx) ?_ ?_
 ·intro J
  have J:n<1:=by simpa using J
  exact zk 11 rfl (WP.ret ⟨aa,_,rfl,.inl ⟨fun q=>by omega,rfl,s⟩⟩)
 ·intro J
  have J:1≤n:=by simp at J; omega
  refine zk 2 rfl ?_
  refine zd rfl (ag rfl rfl dR) ?_ ?_
  ·intro I
   have I:1024<n:=by simpa using I
   exact zk 8 rfl (WP.ret ⟨aa,_,rfl,.inl ⟨fun q=>by omega,rfl,s⟩⟩)
  ·intro I
   have I:n≤1024:=by simp at I; omega
   obtain ⟨n,rfl⟩:∃k:Nat,n=k:=⟨n.toNat,by omega⟩
   refine zk 9 rfl ?_
   obtain ⟨i1,U,jL,sn⟩:=Th
   obtain ⟨id,h1,e1,s1⟩:=yC (P:=Tryz.prog) s yN U W6 jL (by omega) rfl (by decide) (n:=n) (by omega)
   refine aB.any rfl rfl rfl (OpR.of (R:=fun v h'=>v=.sl id 0 n (.exact n)∧h'=h1) (pZ rfl rfl e1) ⟨rfl,rfl⟩) ?_
   rintro v h ⟨rfl,rfl⟩
   have s:Sat h (eP id (List.replicate n CF)::S):=j9.2 ⟨_,by rw [ff]; exact ((s1.gx (φ:=True) aa).ga fun a b _=>P3 n).ae [1]⟩
   refine aB.yu s rfl rfl rfl rfl (fun p20 h s => ?_)
   refine aB.yu s rfl rfl rfl rfl (fun Vx h s => ?_)
   refine zo rfl (cX rfl (by rw [WW]; rfl)) ?_
   refine aB.cO s rfl rfl rfl (gw rfl rfl) (fun Yv h s => ?_)
   refine zk 7 rfl (zf rfl (kQ _ _) (zl rfl (s.ld (k:=0) rfl oC rfl) (zo rfl (a_ rfl rfl rfl (pL rfl yN)) (zk 2 rfl (WP.block ?_)))))
   have s:=ud (f:=fun v (x:Nat×Bool)=>.pu (v=.agg [.int .u64 (x.1:Int),.bool x.2])) (s.ae [1])
   have s:=ud (f:=fun v (x:Int)=>.pu (v=.int .i64 x)) (s.ae [2])
   have s:=s.ae [2,2,0,0]
   refine NJ (n:=n) (by omega) n 0 _ _ _ _ (by omega) rfl s ⟨rfl,rfl,rfl,aa⟩ (fun E' h' gq s' => ?_)
   refine WP.has gq (zK 6 rfl (WP.ret ⟨aa,_,rfl,?_⟩))
   refine .inr ⟨J,I,_,rfl,(c9 (π:=Pl.fresh n)).2 ⟨id,.map p20,.map Vx,?_⟩⟩
   have e6:(Pl.fresh n).ak.length=n:=by simp [Pl.fresh]
   rw [e6]
   exact s'
end
theorem NK {c:Nat}: ∀ {l:bW} {b:Nat},eS c b l→bornUp c b (l.map ei)=true:=by
 intro l
 induction l with
 | nil=>intro b _; rfl
 | cons e l I =>
  intro b h
  obtain ⟨J,U,h3⟩:=h
  simp only [bH,ei,bornUp]
  rw [show (Nat.ble b e.2.2&&Nat.blt e.2.2 c)=true by rw [aY,aO]; exact ⟨J,by rw [Nat.blt]; exact aO.2 U⟩,ah]
  exact I h3
theorem Lz : ∀ {l:bW},(∀e∈l,(Lit.int .i64 e.1).wf=true)→keyInts (l.map ei)=some (l.map (·.1)):=by
 intro l
 induction l with
 | nil=>intro _; rfl
 | cons e l I =>
  intro h
  simp only [bH,ei,keyInts]
  rw [h e bp,ah]
  have:=I (fun e he=>h e (bl _ he))
  rw [this]
theorem IY {x:Int}: ∀ {l:List Int},l.Pairwise (· < ·)→x∉l→(insI x l).Pairwise (· < ·):=by
 intro l
 induction l with
 | nil=>intro _ _; simp [insI]
 | cons y l ih =>
  intro h U
  simp only [oU,eX,pn] at h U
  simp only [insI]
  by_cases J:x≤y
  ·rw [dN J,ah]
   have:x<y:=by omega
   simp only [oU,eX]
   refine ⟨fun z I => ?_,h⟩
   rcases I with rfl | I
   ·exact this
   ·have:=h.1 z I; omega
  ·rw [eB J,az]
   simp only [oU]
   refine ⟨fun z I => ?_,ih h.2 U.2⟩
   have:=(yF x l).mem_iff.1 I
   rcases List.mem_cons.1 this with rfl | I
   ·omega
   ·exact h.1 z I
theorem IZ : ∀ {l:List Int},l.Nodup→(mZ l).Pairwise (· < ·):=by
 intro l
 induction l with
 | nil=>intro _; exact List.Pairwise.nil
 | cons x l I =>
  intro h
  simp only [lU] at h
  exact IY (I h.2) (fun J=>h.1 ((er l).mem_iff.1 J))
theorem P4 : ∀ {l:List Int},l.Pairwise (· < ·)→rQ l=true:=by
 intro l
 induction l with
 | nil=>intro _; rfl
 | cons x l I =>
  intro h
  simp only [oU] at h
  simp only [rQ,aY,oY,eA]
  exact ⟨h.1,I h.2⟩
section
variable {α:Type} {f:V→α→ax} {told:dF} {h:H} {S:List ax} {mv:V} {m:List (Int×α)} {b g:Nat}
theorem P5 (I:W told){id:Nat}(s:Sat h S): Call ⟨Tryz.prog,told⟩ 73 [.map id] h fun v h'=>∃b,v=.fn (.func 117) [] [.ptr b 0]∧Sat h' (pt b (.cells 1 [.map id] false)::S):=by
 refine Call.of_wp (I.free _ rfl) Tryz.func73 rfl rfl (zg rfl ?_)
 refine aB.cO s rfl rfl rfl (gw rfl rfl) (fun J h s => ?_)
 exact zk 4 rfl (zo rfl (Al rfl rfl) (zk 2 rfl (WP.ret ⟨aa,_,rfl,_,rfl,s⟩)))
theorem P6 (I:W told){id:Nat}(s:Sat h S): Call ⟨Tryz.prog,told⟩ 109 [.map id] h fun v h'=>∃b,v=.fn (.func 133) [] [.ptr b 0]∧Sat h' (pt b (.cells 1 [.map id] false)::S):=by
 refine Call.of_wp (I.free _ rfl) Tryz.func109 rfl rfl (zg rfl ?_)
 refine aB.cO s rfl rfl rfl (gw rfl rfl) (fun J h s => ?_)
 exact zk 4 rfl (zo rfl (Al rfl rfl) (zk 2 rfl (WP.ret ⟨aa,_,rfl,_,rfl,s⟩)))
def aJ (m:List (Int×α)): List Int:=mZ (m.map (·.1))
theorem gN {m:List (Int×α)}{n:Int}: n∈aJ m↔n∈m.map (·.1):=(er _).mem_iff
theorem P7 (l:List Int): (eG l).all storable=true:=by simp [eG,storable]
theorem pP (hT:W told)(s:Sat h (pt b (.cells 1 [mv] false)::iW f mv m::S))(hg:wg Au g=true)(hm:m.length≤1048576)(hk:∀n∈m.map (·.1),(Lit.int .i64 n).wf=true):
  Call ⟨Tryz.prog,told⟩ 50 [.fn (.func g) [] [.ptr b 0]] h fun v h'=>Sat h' (.arr 1 v (eG (aJ m))::pt b (.cells 1 [mv] false)::iW f mv m::S):=by
 obtain ⟨id,l,c,rfl,hb,hn,s1⟩:=ep.1 (s.ae [1])
 have s1:Sat h (fo id l c::en f l m::pt b (.cells 1 [.map id] false)::S):=s1
 obtain ⟨q1,q2,q3,q4,q5⟩:=s1.at (k:=1) rfl
 have I:=sE q5
 have hlen:l.length=m.length:=by have:=ja List.length I; simpa using this
 have U:=s1.row (k:=0) rfl
 have ZQ:=s1.row (k:=2) rfl
 have mL:∀e∈l,(Lit.int .i64 e.1).wf=true:=fun e he=>hk e.1 (by rw [←I]; exact iX he)
 have hri:rQ (mZ (l.map (·.1)))=true:=P4 (IZ (by rw [I]; exact hn))
 have J:∃v h',toldSorted Au [.fn (.func g) [] [.ptr b 0]] h=some (v,h')∧Sat h' (.arr 1 v (eG (aJ m))::pt b (.cells 1 [.map id] false)::iW f (.map id) m::S):=by
  simp only [toldSorted,ZQ,U,d_,hg,NK hb,Lz mL,hri]
  rw [show (Nat.beq 1 1&&true&&true&&Nat.ble l.length 1048576)=true by rw [aO.2 (by omega)]; rfl,ah]
  simp only [ah]
  cases hl:l.map (·.1) with
  | nil =>
   refine ⟨_,_,rfl,?_⟩
   have:aJ m=[]:=by rw [aJ,←I,hl]; rfl
   rw [this]
   exact s.qg
  | cons x xs =>
   refine ⟨_,_,rfl,?_⟩
   have e1:aJ m=mZ (x::xs):=by rw [aJ,←I,hl]
   have e2:(mZ (x::xs)).length=(x::xs).length:=(er _).length_eq
   have e3:(x::xs).length=l.length:=by rw [←hl,d_]
   rw [e1,←e3]
   refine (s.new (.cells (eG (mZ (x::xs))).length (eG (mZ (x::xs))) false)).ga fun a r Nf=>⟨P7 _,.inr ⟨h.next,(x::xs).length,.rest 1 0,(eG (mZ (x::xs))).length,[],rfl,?_,?_,by simp,rfl,rfl,rfl,rfl,by simp⟩⟩
   ·rw [bT]; exact Nf
   ·simp only [eG,d_,e2,dO]
 obtain ⟨v,h',e1,e2⟩:=J
 exact ⟨v,h',gU.told hT.sorted Tryz.func50 rfl e1,e2⟩
end
end Go.Proofs.YtconhghphklfjaaGreat.Am
