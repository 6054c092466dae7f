/- AtomCuts: a part of its proof; conditions: its statement's. -/
import Derived.Test.YtconhghphklfjaaGreatC22
namespace Go.Proofs.YtconhghphklfjaaGreat.Am
open Go
structure Pl.Ok (π:Pl): Prop where
 hand:π.hand<π.ak.length
 many:π.ak.length≤1024
 aH:∀e∈π.aH,0≤e.2∧e.2<π.ak.length
 len:∀f∈π.ak,f.b.length≤512
 pins:∀f∈π.ak,0≤f.pins∧f.pins≤4294967296
theorem Pl.Ok.at {π:Pl}(h:π.Ok){n i:Int}(J:lookL n π.aH=some i): ∃(k:Nat) (f:Fm),i=k∧π.ak[k]?=some f:=by
 have I:=h.aH _ (fh J)
 exact ⟨i.toNat,π.ak[i.toNat]'(by have:=I.2; simp only at this; omega),by have:=I.1; simp only at this; omega,bh _⟩
def heldI (π:Pl)(n:Int): Option Nat:=match lookL n π.aH with
 | none=>none
 | some i=>match π.ak[i.toNat]? with
  | none=>none
  | some f=>if f.pins=0 then none else some i.toNat
def unpinF (π:Pl)(n:Int): Int×Pl:=match heldI π n with
 | none=>(18,π)
 | some i=>match π.ak[i]? with
  | none=>(18,π)
  | some f=>(0,{ π with ak:=π.ak.set i { f with pins:=f.pins-1 } })
def dW (π:Pl)(n:Int)(aI:Nat): Nat:=match lookL n π.aN with
 | some x=>x.1
 | none=>aI
def lH (π:Pl)(n:Int)(b:List Nat)(aI:Nat): Int×Pl:=match heldI π n with
 | none=>(18,π)
 | some i=>match π.ak[i]? with
  | none=>(18,π)
  | some f=>if bU b=false then (4,π) else (0,{ π with ak:=π.ak.set i { f with b:=cO b aI,changed:=true },aN:=cM n (dW π n aI,true) π.aN })
def eo (ε:aM)(n:Int): Int×aM:=match lookL n ε.1.aH with
 | none=>(18,ε)
 | some i=>outF ε i.toNat
section
variable {told:dH} {h:H} {S:List ax} {X:ax} {r k q p bX:Nat} {v x wh di:V} {l b:List Nat} {π:Pl} {m:List Fm} {μ:Lg} {δ:Dk}
theorem Et {n:Int}{j:Nat}(s:Sat h (Hv wh π.aH::S)): (lookL n π.aH=none∧fc Tryz.prog h 136 wh (.int .i64 n) true=some (.bD [.int .i64 0,.bool false])) ∨
  ∃i,lookL n π.aH=some i∧fc Tryz.prog h 136 wh (.int .i64 n) true=some (.bD [.int .i64 i,.bool true]):=by
 rcases mw (f:=fun v (x:Int)=>.pu (v=.int .i64 x)) (n:=n) (fun _ _=>aE.pu _) s yW bF E5 with ⟨I,J,_⟩ | ⟨u,i,I,J,_,s'⟩
 ·exact .inl ⟨I,J⟩
 ·obtain ⟨rfl,_⟩:=eL.1 s'
  exact .inr ⟨i,I,J⟩
theorem Eu {n:Int}(s:Sat h (C0 di π.aN::S)): (lookL n π.aN=none∧fc Tryz.prog h 138 di (.int .i64 n) true=some (.bD [.agg [.int .u64 0,.bool false],.bool false])∧fc Tryz.prog h 138 di (.int .i64 n) false=some (.agg [.int .u64 0,.bool false])) ∨
  ∃x,lookL n π.aN=some x∧fc Tryz.prog h 138 di (.int .i64 n) true=some (.bD [.agg [.int .u64 (x.1:Int),.bool x.2],.bool true])∧fc Tryz.prog h 138 di (.int .i64 n) false=some (.agg [.int .u64 (x.1:Int),.bool x.2]):=by
 rcases mw (f:=fun v (x:Nat×Bool)=>.pu (v=.agg [.int .u64 (x.1:Int),.bool x.2])) (n:=n) (fun _ _=>aE.pu _) s qt bF w8 with ⟨I,J,U⟩ | ⟨u,x,I,J,U,s'⟩
 ·exact .inl ⟨I,J,U⟩
 ·obtain ⟨rfl,_⟩:=eL.1 s'
  exact .inr ⟨x,I,J,U⟩
theorem Kl (hT:W told){n:Int}(s:Sat h (pt r (.cells 6 (qw p q bX π.ak.length wh di π.hand) false)::eV bX π.ak::Hv wh π.aH::S))(LN:π.Ok):
  Call ⟨Tryz.prog,told⟩ 97 [.ptr r 0,.int .i64 n] h fun v h'=>h'=h∧((heldI π n=none∧v=.bD [.cF,.int .i64 18])∨∃(i:Nat) (f:Fm),heldI π n=some i∧π.ak[i]?=some f∧v=.bD [.ptr bX (i*5),.int .i64 0]):=by
 refine Call.of_wp (hT.free _ rfl) Tryz.func97 rfl rfl (zK 9 rfl (zf rfl (rz _ _) (zl rfl (s.ld (k:=0) rfl w6 rfl) (zm rfl ?_))))
 rcases Et (n:=n) (j:=0) (s.ae [2]) with ⟨U,g2⟩ | ⟨i,U,g2⟩
 ·refine aB.op rfl rfl rfl (gM rfl rfl g2) ?_
  exact zk 10 rfl (zt rfl (dX rfl rfl) (rfl) (zk 18 rfl (WP.ret ⟨aa,_,rfl,rfl,.inl ⟨by simp only [heldI,U],rfl⟩⟩)))
 ·obtain ⟨i,f,rfl,hf⟩:=LN.at U
  have hl:=(List.getElem?_eq_some_iff.1 hf).1
  have hh:heldI π n=if f.pins=0 then none else some i:=by simp only [heldI,U,cP,hf]
  obtain ⟨pre,fv,post,J,hlen,s'⟩:=jz (s.ae [1]) hf
  refine zo rfl (gM rfl rfl g2) (zk 10 rfl (zh rfl (dX rfl rfl) (rfl) (zk 3 rfl (zf rfl (kU _ _) (zl rfl (s.ld (k:=0) rfl oF rfl) (zm rfl (zo rfl (dY rfl rfl (mJ (i:=i) hl)) (zf rfl (rA _ _) (zl rfl (s'.ld (k:=0) rfl dr (iX J rfl)) ?_)))))))))
  refine zd rfl (ah rfl rfl cI) ?_ ?_
  ·intro I
   have I:f.pins=0:=by simpa using I
   exact zk 8 rfl (WP.ret ⟨aa,_,rfl,rfl,.inl ⟨by rw [hh,aj I],rfl⟩⟩)
  ·intro I
   have I:f.pins≠0:=by simpa using I
   exact zk 8 rfl (zf rfl (kU _ _) (zl rfl (s.ld (k:=0) rfl oF rfl) (zm rfl (zo rfl (dY rfl rfl (mJ (i:=i) hl)) (zk 3 rfl (WP.ret ⟨aa,_,rfl,rfl,.inr ⟨i,f,by rw [hh,af I],hf,rfl⟩⟩))))))
theorem Hw (hT:W told){n:Int}(s:Sat h (b8 r p q π::S))(J:π.Ok):
  Call ⟨Tryz.prog,told⟩ 54 [.ptr r 0,.int .i64 n] h fun v h'=>v=.int .i64 (unpinF π n).1∧Sat h' (b8 r p q (unpinF π n).2::S):=by
 have s0:=s
 obtain ⟨bX,wh,di,s⟩:=dg.1 s
 refine Call.of_wp (hT.free _ rfl) Tryz.func54 rfl rfl (zK 8 rfl (zc rfl (Kl (n:=n) hT s J) ?_))
 rintro v h' ⟨rfl,(⟨hh,rfl⟩ | ⟨i,f,hh,U,rfl⟩)⟩
 ·have he:unpinF π n=(18,π):=by simp only [unpinF,hh]
  rw [he]
  exact zk 10 rfl (zt rfl (ah rfl rfl aX) (rfl) (zk 7 rfl (WP.ret ⟨aa,_,rfl,rfl,s0⟩)))
 ·have he:unpinF π n=(0,{ π with ak:=π.ak.set i { f with pins:=f.pins-1 } }):=by simp only [unpinF,hh,U]
  rw [he]
  obtain ⟨pre,fv,post,I,hlen,s⟩:=jz (s.ae [1]) U
  have Qr:=J.pins f (br U)
  refine zk 10 rfl (zh rfl (ah rfl rfl aX) (rfl) (zk 7 rfl (zf rfl (rA _ _) (zl rfl (s.ld (k:=0) rfl dr (iX I rfl)) (zb rfl (by exact lG (aU (by omega) (by omega))) ?_)))))
  refine zn rfl (zf rfl (rA _ _) (zS rfl (s.stM (k:=0) (j:=2) rfl jG I hlen (by simp [fH]) rfl rfl) ?_))
  intro h s
  have e5:(fH f fv).set 2 (.int .i64 (f.pins-1))=fH { f with pins:=f.pins-1 } fv:=rfl
  rw [e5] at s
  refine zk 5 rfl (WP.ret ⟨aa,_,rfl,?_⟩)
  refine ⟨rfl,dg.2 ⟨bX,wh,di,?_⟩⟩
  have s:=gy (i:=i) (f':={ f with pins:=f.pins-1 }) s rfl U I
  rw [dw]
  exact s.ae [1,0]
theorem TM (hT:W told){n:Int}{aI:Nat}{bv:V}(s:Sat h (b8 r p q π::X::S))(hX:cT X (cU bv b))(LN:π.Ok)(hb:b.length<9223372036854775808):
  Call ⟨Tryz.prog,told⟩ 53 [.ptr r 0,.int .i64 n,bv,.int .u64 (aI:Int)] h fun v h'=>v=.int .i64 (lH π n b aI).1∧Sat h' (b8 r p q (lH π n b aI).2::X::S):=by
 have s0:=s
 obtain ⟨bX,wh,di,s⟩:=dg.1 s
 refine Call.of_wp (hT.free _ rfl) Tryz.func53 rfl rfl (zK 8 rfl (zc rfl (Kl (n:=n) hT s LN) ?_))
 rintro v h' ⟨rfl,(⟨hh,rfl⟩ | ⟨i,f,hh,hf,rfl⟩)⟩
 ·have he:lH π n b aI=(18,π):=by simp only [lH,hh]
  rw [he]
  exact zk 10 rfl (zt rfl (ah rfl rfl aX) (rfl) (zk 7 rfl (WP.ret ⟨aa,_,rfl,rfl,s0⟩)))
 ·have he:lH π n b aI=(if bU b=false then (4,π) else (0,{ π with ak:=π.ak.set i { f with b:=cO b aI,changed:=true },aN:=cM n (dW π n aI,true) π.aN })):=by simp only [lH,hh,hf]
  rw [he]
  refine zk 10 rfl (zh rfl (ah rfl rfl aX) (rfl) (zk 7 rfl (zc rfl (Ki (n:=aI) hT (s.ae [4]) hX hb) ?_)))
  rintro v h (⟨U,u,rfl,s⟩ | ⟨U,rfl,s⟩)
  ·rw [af (by rw [U]; decide)]
   have hul:(cO b aI).length=512:=by
    have h1:=xj (n:=aI) (fA U)
    rw [cO,iJ (by rw [cX]; omega),h1]
   obtain ⟨J,_,cap,_,rfl,_⟩:=s.kB (by omega)
   have s:=s.fJ
   obtain ⟨pre,fv,post,I,hlen,s⟩:=jz (s.ae [3]) hf
   refine zk 10 rfl (zh rfl (ah rfl rfl aX) (rfl) (zk 9 rfl (zf rfl (AH _ _) (zS rfl (s.stM (k:=0) (j:=1) rfl jl I hlen (by simp [fH]) rfl rfl) ?_))))
   intro h s
   refine zn rfl (zf rfl (Ej _ _) (zS rfl (s.stM (k:=0) (j:=4) rfl x_ I (by simpa [fH] using hlen) (by simp [fH]) rfl rfl) ?_))
   intro h s
   have e5:((fH f fv).set 1 (.sl J 0 (cO b aI).length cap)).set 4 (.bool true)=fH { f with b:=cO b aI,changed:=true } (.sl J 0 (cO b aI).length cap):=rfl
   rw [e5] at s
   have s:=gy (i:=i) (f':={ f with b:=cO b aI,changed:=true }) (s.ae [0,0,1]) rfl hf I
   have s:=s.ae [3,4,0]
   refine zk 5 rfl (zf rfl (m5 _ _) (zl rfl (s.ld (k:=0) rfl rQ rfl) (zm rfl ?_)))
   rcases Eu (n:=n) (s.ae [1]) with ⟨g1,g2,_⟩ | ⟨x,g1,g2,_⟩
   ·refine aB.op rfl rfl rfl (gM rfl rfl g2) ?_
    refine zk 3 rfl ?_
    refine aB.cQ s rfl rfl rfl (cC w8) (fun Sw h s => ?_)
    refine zS rfl (s.g9 (j:=0) rfl va rfl rfl) (fun h s => ?_)
    refine zk 6 rfl (zo rfl (dX rfl rfl) (zk 4 rfl (zf rfl (Eg _ _) ?_)))
    refine zS rfl (by exact s.dQ (k:=0) rfl rq rfl (by decide) rfl rfl) (fun h s => ?_)
    refine zk 3 rfl (zf rfl (Eh _ _) ?_)
    refine zS rfl (by exact s.dQ (k:=0) rfl x_ rfl (by decide) rfl rfl) (fun h s => ?_)
    refine zk 2 rfl (WP.drawn [ai,ai,ai,ai,ai,ai,ai] rfl (by kernel_rfl) (by kernel_rfl) ?_)
    refine zM rfl (zN rfl (zF rfl (m5 _ _) (zL rfl (s.ld (k:=1) rfl rQ rfl) (zM rfl (zL rfl (s.fG (k:=0) rfl Lt va) (aA.g8 rfl rfl rfl (OpR.mapUpdate rfl rfl rfl rfl (oN (f:=fun v (x:Nat×Bool)=>.pu (v=.agg [.int .u64 (x.1:Int),.bool x.2])) (x:=(aI,true)) (fun _ _=>aE.pu _) ((s.ae [2]).gD rfl) qt bF)) ?_))))))
    intro w h s
    refine aA.nil ⟨⟨aa,aa,aa,aa,aa,aa,aa,aa⟩,?_⟩
    refine zK 4 rfl (WP.ret ⟨aa,_,rfl,?_⟩)
    have ed:dW π n aI=aI:=by simp only [dW,g1]
    rw [ed]
    refine ⟨rfl,dg.2 ⟨bX,wh,di,?_⟩⟩
    have e6:(π.ak.set i { f with b:=cO b aI,changed:=true }).length=π.ak.length:=dw
    show Sat h (pt r (.cells 6 (qw p q bX (π.ak.set i { f with b:=cO b aI,changed:=true }).length wh di π.hand) false)::_)
    rw [e6]
    exact ((s.ae [2,2,4,0,2]).del 6).del 5
   ·skip
    refine zo rfl (gM rfl rfl g2) (zk 3 rfl ?_)
    refine aB.cQ s rfl rfl rfl (cC w8) (fun Sw h s => ?_)
    refine zS rfl (s.g9 (j:=0) rfl va rfl rfl) (fun h s => ?_)
    refine zk 6 rfl (zo rfl (dX rfl rfl) (zk 5 rfl (zf rfl (Eh _ _) ?_)))
    refine zS rfl (by exact s.dQ (k:=0) rfl x_ rfl (by decide) rfl rfl) (fun h s => ?_)
    refine zk 2 rfl (WP.drawn [ai,ai,ai,ai,ai,ai,ai] rfl (by kernel_rfl) (by kernel_rfl) ?_)
    refine zM rfl (zN rfl (zF rfl (m5 _ _) (zL rfl (s.ld (k:=1) rfl rQ rfl) (zM rfl (zL rfl (s.fG (k:=0) rfl Lt va) (aA.g8 rfl rfl rfl (OpR.mapUpdate rfl rfl rfl rfl (oN (f:=fun v (x:Nat×Bool)=>.pu (v=.agg [.int .u64 (x.1:Int),.bool x.2])) (x:=(x.1,true)) (fun _ _=>aE.pu _) ((s.ae [2]).gD rfl) qt bF)) ?_))))))
    intro w h s
    refine aA.nil ⟨⟨aa,aa,aa,aa,aa,aa,aa,aa⟩,?_⟩
    refine zK 4 rfl (WP.ret ⟨aa,_,rfl,?_⟩)
    have ed:dW π n aI=x.1:=by simp only [dW,g1]
    rw [ed]
    refine ⟨rfl,dg.2 ⟨bX,wh,di,?_⟩⟩
    have e6:(π.ak.set i { f with b:=cO b aI,changed:=true }).length=π.ak.length:=dw
    show Sat h (pt r (.cells 6 (qw p q bX (π.ak.set i { f with b:=cO b aI,changed:=true }).length wh di π.hand) false)::_)
    rw [e6]
    exact ((s.ae [2,2,4,0,2]).del 6).del 5
  ·rw [aj U]
   exact zk 10 rfl (zt rfl (ah rfl rfl aX) (rfl) (zk 7 rfl (WP.ret ⟨aa,_,rfl,rfl,dg.2 ⟨bX,wh,di,s.ae [1,1,1,1,0]⟩⟩)))
theorem N5 (hT:W told){n:Int}(s:Sat h (b8 r p q π::bf q p μ::aD p δ::S))(I:π.Ok)(U:μ.Ok)(tj:δ.Ok)(hw:δ.waiting.length≤268435456):
  Call ⟨Tryz.prog,told⟩ 74 [.ptr r 0,.int .i64 n] h fun v h'=>v=.int .i64 (eo (π,μ,δ) n).1 ∧
   Sat h' (b8 r p q (eo (π,μ,δ) n).2.1::bf q p (eo (π,μ,δ) n).2.2.1::aD p (eo (π,μ,δ) n).2.2.2::S):=by
 have s0:=s
 obtain ⟨bX,wh,di,s⟩:=dg.1 s
 refine Call.of_wp (hT.free _ rfl) Tryz.func74 rfl rfl (zK 8 rfl (zf rfl (rz _ _) (zl rfl (s.ld (k:=0) rfl w6 rfl) (zm rfl ?_))))
 rcases Et (n:=n) (j:=0) (s.ae [2]) with ⟨J,g2⟩ | ⟨i,J,g2⟩
 ·have he:eo (π,μ,δ) n=(18,(π,μ,δ)):=by simp only [eo,J]
  rw [he]
  exact zo rfl (gM rfl rfl g2) (zk 10 rfl (zo rfl (dX rfl rfl) (zk 6 rfl (WP.ret ⟨aa,_,rfl,rfl,s0⟩))))
 ·obtain ⟨i,f,rfl,hf⟩:=I.at J
  have hl:=(List.getElem?_eq_some_iff.1 hf).1
  have he:eo (π,μ,δ) n=outF (π,μ,δ) i:=by simp only [eo,J,cP]
  rw [he]
  refine zo rfl (gM rfl rfl g2) (zk 10 rfl (zo rfl (dX rfl rfl) (zk 8 rfl (zf rfl (kU _ _) (zl rfl (s.ld (k:=0) rfl oF rfl) (zm rfl (zo rfl (dY rfl rfl (mJ (i:=i) hl)) (zc rfl (N4 hT s hf U tj (by have:=I.len f (br hf); omega) hw) ?_))))))))
  rintro v h ⟨rfl,s⟩
  exact zk 2 rfl (WP.ret ⟨aa,_,rfl,rfl,dg.2 ⟨bX,wh,di,s⟩⟩)
theorem V3 (U:W told){n:Int}(s:Sat h (b8 r p q π::S)): Call ⟨Tryz.prog,told⟩ 86 [.ptr r 0,.int .i64 n] h fun v h'=>v=.bD [.int .u64 (dW π n 0:Nat),.bool (lookL n π.aN).isSome]∧Sat h' (b8 r p q π::S):=by
 obtain ⟨bX,wh,di,s⟩:=dg.1 s
 refine Call.of_wp (U.free _ rfl) Tryz.func86 rfl rfl (zK 9 rfl (zf rfl (m5 _ _) (zl rfl (s.ld (k:=0) rfl rQ rfl) (zm rfl ?_))))
 rcases Eu (n:=n) (s.ae [3]) with ⟨I,J,_⟩ | ⟨x,I,J,_⟩
 ·refine aB.op rfl rfl rfl (gM rfl rfl J) ?_
  refine zk 3 rfl ?_
  refine aB.cQ s rfl rfl rfl (cC w8) (fun p6 h s => ?_)
  refine zS rfl (s.g9 (j:=0) rfl va rfl rfl) (fun h s => ?_)
  exact zk 4 rfl (zf rfl (Eg _ _) (zl rfl (s.ld (k:=0) rfl gj rfl) (zk 4 rfl (WP.ret ⟨aa,_,rfl,by simp only [dW,I]; rfl,dg.2 ⟨bX,wh,di,s.drop⟩⟩))))
 ·skip
  refine zo rfl (gM rfl rfl J) (zk 3 rfl ?_)
  refine aB.cQ s rfl rfl rfl (cC w8) (fun p6 h s => ?_)
  refine zS rfl (s.g9 (j:=0) rfl va rfl rfl) (fun h s => ?_)
  exact zk 4 rfl (zf rfl (Eg _ _) (zl rfl (s.ld (k:=0) rfl gj rfl) (zk 4 rfl (WP.ret ⟨aa,_,rfl,by simp only [dW,I]; rfl,dg.2 ⟨bX,wh,di,s.drop⟩⟩))))
def eY : Fm:=⟨-1,[],0,false,false⟩
def dz (π:Pl)(i:Nat)(f:Fm): Pl:={ π with ak:=π.ak.set i eY,aH:=if f.aO<0 then π.aH else m8 f.aO π.aH }
def jK (π:Pl)(i:Nat)(n:Int)(b:List Nat): Pl:={ π with ak:=π.ak.set i ⟨n,b,1,true,false⟩,aH:=cM n (i:Int) π.aH }
inductive fY (ε:aM)(n:Int): Int→List Nat→aM→Prop where
 | arg (h:¬(0≤n∧n<ε.2.2.aq.length)):fY ε n 1 [] ε
 | Bj (i:Nat) (f:Fm) (h1:0≤n) (h2:n<ε.2.2.aq.length) (hl:lookL n ε.1.aH=some (i:Int)) (hf:ε.1.ak[i]?=some f):fY ε n 0 f.b ({ ε.1 with ak:=ε.1.ak.set i { f with ff:=true,pins:=f.pins+1 } },ε.2)
 | out (gS:Pl) (i:Nat) (f:Fm) (h1:0≤n) (h2:n<ε.2.2.aq.length) (hl:lookL n ε.1.aH=none) (hn:fX ε.1 gS) (hf:gS.ak[i]?=some f) (hh:gS.hand<gS.ak.length) (he:(outF (gS,ε.2) i).1≠0):fY ε n (outF (gS,ε.2) i).1 [] (outF (gS,ε.2) i).2
 | read (gS:Pl) (i:Nat) (f:Fm) (h1:0≤n) (h2:n<ε.2.2.aq.length) (hl:lookL n ε.1.aH=none) (hn:fX ε.1 gS) (hf:gS.ak[i]?=some f) (hh:gS.hand<gS.ak.length) (he:(outF (gS,ε.2) i).1=0)
   (hr:(outF (gS,ε.2) i).2.2.2.rT n≠0):fY ε n ((outF (gS,ε.2) i).2.2.2.rT n) [] (dz (outF (gS,ε.2) i).2.1 i f,(outF (gS,ε.2) i).2.2)
 | bad (gS:Pl) (i:Nat) (f:Fm) (h1:0≤n) (h2:n<ε.2.2.aq.length) (hl:lookL n ε.1.aH=none) (hn:fX ε.1 gS) (hf:gS.ak[i]?=some f) (hh:gS.hand<gS.ak.length) (he:(outF (gS,ε.2) i).1=0)
   (hr:(outF (gS,ε.2) i).2.2.2.rT n=0) (hc:dA ((outF (gS,ε.2) i).2.2.2.at n)≠0):fY ε n (dA ((outF (gS,ε.2) i).2.2.2.at n)) [] (dz (outF (gS,ε.2) i).2.1 i f,(outF (gS,ε.2) i).2.2)
 | load (gS:Pl) (i:Nat) (f:Fm) (h1:0≤n) (h2:n<ε.2.2.aq.length) (hl:lookL n ε.1.aH=none) (hn:fX ε.1 gS) (hf:gS.ak[i]?=some f) (hh:gS.hand<gS.ak.length) (he:(outF (gS,ε.2) i).1=0)
   (hr:(outF (gS,ε.2) i).2.2.2.rT n=0) (hc:dA ((outF (gS,ε.2) i).2.2.2.at n)=0):fY ε n 0 ((outF (gS,ε.2) i).2.2.2.at n) (jK (dz (outF (gS,ε.2) i).2.1 i f) i n ((outF (gS,ε.2) i).2.2.2.at n),(outF (gS,ε.2) i).2.2)
theorem BM {ε:aM}{i:Nat}(h:ε.2.2.Ok): (outF ε i).2.2.2.Ok:=by
 unfold outF
 split
 ·exact h
 ·split
  ·exact h
  ·split
   ·exact h
   ·split
    ·exact nX h
    ·split
     ·exact (nX h).bI
     ·exact (nX h).bI
theorem Qs {ε:aM}{i:Nat}(h:ε.2.1.Ok): (outF ε i).2.2.1.Ok:=by
 unfold outF
 split
 ·exact h
 ·split
  ·exact h
  ·split
   ·exact h
   ·split
    ·exact rU h
    ·split <;> exact rU h
theorem nY {ε:aM}{i:Nat}{f:Fm}(I:ε.1.ak[i]?=some f): ∃c,(outF ε i).2.1.ak[i]?=some { f with changed:=c }:=by
 have J:=(List.getElem?_eq_some_iff.1 I).1
 unfold outF
 rw [I]
 dsimp only
 split
 ·exact ⟨f.changed,I⟩
 ·split
  ·exact ⟨f.changed,I⟩
  ·split
   ·exact ⟨f.changed,I⟩
   ·split
    ·exact ⟨f.changed,I⟩
    ·exact ⟨false,by simp [tC,J]⟩
theorem N6 (hT:W told){n:Int}(s:Sat h (b8 r p q π::bf q p μ::aD p δ::S))(LN:π.Ok)(Qr:∀f∈π.ak,f.pins=0)(Es:μ.Ok)(tj:δ.Ok)(hw:δ.waiting.length≤268435456):
  Call ⟨Tryz.prog,told⟩ 52 [.ptr r 0,.int .i64 n] h fun v h'=>∃(e:Int) (b:List Nat) (ε:aM),fY (π,μ,δ) n e b ε ∧
   ((e≠0∧v=.bD [.bz,.int .i64 e]∧Sat h' (b8 r p q ε.1::bf q p ε.2.1::aD p ε.2.2::S))∨(e=0∧∃u,v=.bD [u,.int .i64 0]∧Sat h' (bH u b::b8 r p q ε.1::bf q p ε.2.1::aD p ε.2.2::S))):=by
 have s0:=s
 obtain ⟨bX,wh,di,s⟩:=dg.1 s
 refine Call.of_wp (hT.free _ rfl) Tryz.func52 rfl rfl (zK 9 rfl ?_)
 refine zd rfl (ah rfl rfl bu) ?_ ?_
 ·intro hq
  have hq:n<0:=by simpa using hq
  exact zk 16 rfl (WP.ret ⟨aa,_,rfl,1,[],(π,μ,δ),.arg (fun q=>by omega),.inl ⟨by decide,rfl,s0⟩⟩)
 ·intro hq
  have hq:0≤n:=by simp at hq; omega
  refine zk 4 rfl (zf rfl (wm _ _) (zl rfl (s.ld (k:=0) rfl jR rfl) (zc rfl (BL hT (s.ae [5])) ?_)))
  rintro v h' ⟨rfl,rfl⟩
  refine zd rfl (ah rfl rfl nq) ?_ ?_
  ·intro iB
   have iB:¬ n<δ.aq.length:=by simp at iB; omega
   exact zk 8 rfl (WP.ret ⟨aa,_,rfl,1,[],(π,μ,δ),.arg (fun q=>iB q.2),.inl ⟨by decide,rfl,s0⟩⟩)
  ·intro iB
   have iB:n<δ.aq.length:=by simp at iB; omega
   refine zk 9 rfl (zf rfl (rz _ _) (zl rfl (s.ld (k:=0) rfl w6 rfl) (zm rfl ?_)))
   rcases Et (n:=n) (j:=0) (s.ae [2]) with ⟨g1,g2⟩ | ⟨i,g1,g2⟩
   ·refine aB.op rfl rfl rfl (gM rfl rfl g2) ?_
    refine zk 15 rfl (zc rfl (Qq hT s LN.hand (by have:=LN.many; omega) Qr) ?_)
    rintro v h ⟨i,gS,f,rfl,U,hf,hh,s⟩
    have hl:=(List.getElem?_eq_some_iff.1 hf).1
    rw [←U.aH,←U.aN] at s
    have YC:f.b.length≤512:=by
     have h1:π.ak[i]?=some (π.ak[i]'(by have:=U.len; omega)):=bh _
     generalize (π.ak[i]'(by have:=U.len; omega))=f0 at h1
     obtain ⟨t,ht⟩:=U.get i f0 h1
     rw [hf] at ht
     have:=bw ht
     rw [this]
     exact LN.len f0 (br h1)
    refine zk 6 rfl (zh rfl (ah rfl rfl bu) (by simp <;> omega) ?_)
    refine zk 7 rfl (zf rfl (kU _ _) (zl rfl (s.ld (k:=0) rfl oF rfl) (zm rfl (zo rfl (dY rfl rfl (mJ (i:=i) hl)) (zk 7 rfl (zc rfl (N4 (π:=gS) hT s hf Es tj (by omega) hw) ?_))))))
    rintro v h ⟨rfl,s⟩
    obtain ⟨c,Bk⟩:=nY (ε:=(gS,μ,δ)) hf
    have Ev:=BM (ε:=(gS,μ,δ)) (i:=i) tj
    refine zk 5 rfl ?_
    by_cases he:(outF (gS,μ,δ) i).1=0
    ·generalize ho:outF (gS,μ,δ) i=o at he s Bk Ev ⊢
     obtain ⟨oe,I,μ1,y8⟩:=o
     dsimp only at he s Bk Ev ⊢
     subst he
     have Km:(outF (gS,μ,δ) i).1=0:=by rw [ho]
     have sO:(outF (gS,μ,δ) i).2=(I,μ1,y8):=by rw [ho]
     refine zh rfl (ah rfl rfl aX) (by decide) ?_
     obtain ⟨pre,fv,post,J,hlen,s⟩:=jz (s.ae [1]) Bk
     refine zk 8 rfl (zf rfl (pO _ _) (zl rfl (s.ld (k:=0) rfl dr (iX J rfl)) ?_))
     refine zd rfl (ah rfl rfl nq) ?_ ?_
     ·intro mC
      have mC:¬ f.aO<0:=by simp at mC; omega
      refine zk 2 rfl (WP.drawn [ai,ai,ai,ai,ai,ai,ai,ai,ai] rfl (by kernel_rfl) (by kernel_rfl) ?_)
      refine zM rfl (zN rfl (zF rfl (rz _ _) (zL rfl (s.ld (k:=3) rfl w6 rfl) (zM rfl (zN rfl (zF rfl (pO _ _) (zL rfl (s.ld (k:=0) rfl dr (iX J rfl)) (aA.g8 rfl rfl rfl (OpR.delete rfl rfl rfl rfl (Qd (s.ae [4]) yW bF)) ?_))))))))
      intro v h s
      have s:=s.ae [1,1,1,1,0]
      refine aA.nil ⟨⟨aa,aa,aa,aa,aa,aa,aa,aa,aa,aa⟩,?_⟩
      refine zK 3 rfl (zo rfl (c7 rfl (by rw [F6]; rfl)) ?_)
      refine zn rfl (zS rfl (s.Ss (k:=0) (row':=fH eY .bz) rfl CN J hlen (by simp [fH]) rfl) ?_)
      intro h s
      have LO:(pre++(fH eY .bz++post)).length=I.ak.length*5:=by simpa [fH] using hlen
      have qI:(dz I i f).aH=m8 f.aO I.aH:=by simp only [dz]; rw [af mC]
      refine zk 5 rfl (zf rfl (wm _ _) (zl rfl (s.ld (k:=3) rfl jR rfl) (zm rfl (zc rfl (N0 (n:=n) hT (s.ae [7]) Ev) ?_))))
      rintro v h (⟨hr,rfl,s⟩ | ⟨hr,u,rfl,s⟩)
      ·dsimp only [bringA,getA,aT] at s
       refine zk 10 rfl (zt rfl (ah rfl rfl aX) (by simp; exact hr) ?_)
       refine zk 8 rfl (WP.ret ⟨aa,_,rfl,?_⟩)
       have s:=gy (i:=i) (f':=eY) (v':=.bz) (s.rR.ae [2,2,0]) rfl Bk J
       have e6:(I.ak.set i eY).length=I.ak.length:=dw
       rw [←e6,←qI] at s
       have s:=(dg (π:=dz I i f)).2 ⟨bX,wh,di,s.ae [3,0,2,2]⟩
       have hR:=fY.read (ε:=(π,μ,δ)) gS i f hq iB g1 U hf hh Km (by rw [sO]; exact hr)
       rw [sO] at hR
       exact ⟨_,[],_,hR,.inl ⟨hr,rfl,(s.del 2).ae [0,1,0]⟩⟩
      ·have XY:=Ev.at n
       obtain ⟨yb,_,cap,_,rfl,_⟩:=s.kB (by omega)
       refine zk 10 rfl (zh rfl (ah rfl rfl aX) (rfl) (zk 7 rfl (zc rfl (xk hT s (bE _ _) (by omega)) ?_)))
       rintro v h ⟨rfl,s⟩
       refine zk 5 rfl ?_
       by_cases hc:dA (y8.at n)=0
       ·skip
        refine zh rfl (ah rfl rfl aX) (by simp; exact hc) ?_
        have s:=s.fJ.ae [2,2,0,2,2,2,2,0,0]
        refine zk 8 rfl (zo rfl (c7 rfl (by rw [F6]; rfl)) ?_)
        refine zn rfl (zS rfl (s.Ss (k:=0) (row':=fH ⟨n,y8.at n,1,true,false⟩ (.sl yb 0 (y8.at n).length cap)) rfl CN J LO (by simp [fH]) rfl) ?_)
        intro h s
        refine zk 5 rfl (zf rfl (rz _ _) (zl rfl (s.ld (k:=3) rfl w6 rfl) (zk 2 rfl (aB.g8 rfl rfl (OpR.mapUpdate rfl rfl rfl rfl (oN (f:=fun v (x:Int)=>.pu (v=.int .i64 x)) (x:=(i:Int)) (fun _ _=>aE.pu _) ((s.ae [4]).gD rfl) yW bF)) ?_))))
        intro w h s
        refine zk 4 rfl (zc rfl (xb hT (s.ae [3]) (cJ _ _) (by omega)) ?_)
        intro u h s
        refine zk 3 rfl (WP.ret ⟨aa,_,rfl,?_⟩)
        have s:=gy (i:=i) (f':=⟨n,y8.at n,1,true,false⟩) (s.ae [3,3,1]) rfl Bk J
        have e6:(I.ak.set i ⟨n,y8.at n,1,true,false⟩).length=I.ak.length:=dw
        have e7:(jK (dz I i f) i n (y8.at n)).ak=I.ak.set i ⟨n,y8.at n,1,true,false⟩:=by simp only [jK,dz,Ap]
        rw [←e6,←e7,←qI] at s
        have s:=(dg (π:=jK (dz I i f) i n (y8.at n))).2 ⟨bX,wh,di,s.ae [3,0,1,1]⟩
        have hR:=fY.load (ε:=(π,μ,δ)) gS i f hq iB g1 U hf hh Km (by rw [sO]; exact hr) (by rw [sO]; exact hc)
        rw [sO] at hR
        exact ⟨_,_,_,hR,.inr ⟨rfl,u,rfl,(s.del 4).ae [1,0]⟩⟩
       ·skip
        refine zt rfl (ah rfl rfl aX) (by simp; exact hc) ?_
        refine zk 8 rfl (WP.ret ⟨aa,_,rfl,?_⟩)
        have s:=s.drop
        have s:=gy (i:=i) (f':=eY) (v':=.bz) (s.rR.ae [2,2,0]) rfl Bk J
        have e6:(I.ak.set i eY).length=I.ak.length:=dw
        rw [←e6,←qI] at s
        have s:=(dg (π:=dz I i f)).2 ⟨bX,wh,di,s.ae [3,0,2,2]⟩
        dsimp only [bringA,getA,aT] at s
        have hR:=fY.bad (ε:=(π,μ,δ)) gS i f hq iB g1 U hf hh Km (by rw [sO]; exact hr) (by rw [sO]; exact hc)
        rw [sO] at hR
        exact ⟨_,[],_,hR,.inl ⟨hc,rfl,(s.del 2).ae [0,1,0]⟩⟩
     ·intro mC
      have mC:f.aO<0:=by simp at mC; omega
      refine zk 6 rfl (zo rfl (c7 rfl (by rw [F6]; rfl)) ?_)
      refine zn rfl (zS rfl (s.Ss (k:=0) (row':=fH eY .bz) rfl CN J hlen (by simp [fH]) rfl) ?_)
      intro h s
      dsimp only [setA] at s
      have LO:(pre++(fH eY .bz++post)).length=I.ak.length*5:=by simpa [fH] using hlen
      have qI:(dz I i f).aH=I.aH:=by simp only [dz]; rw [aj mC]
      refine zk 5 rfl (zf rfl (wm _ _) (zl rfl (s.ld (k:=3) rfl jR rfl) (zm rfl (zc rfl (N0 (n:=n) hT (s.ae [7]) Ev) ?_))))
      rintro v h (⟨hr,rfl,s⟩ | ⟨hr,u,rfl,s⟩)
      ·dsimp only [bringA,getA,aT] at s
       refine zk 10 rfl (zt rfl (ah rfl rfl aX) (by simp; exact hr) ?_)
       refine zk 8 rfl (WP.ret ⟨aa,_,rfl,?_⟩)
       have s:=gy (i:=i) (f':=eY) (v':=.bz) (s.rR.ae [2,2,0]) rfl Bk J
       have e6:(I.ak.set i eY).length=I.ak.length:=dw
       rw [←e6,←qI] at s
       have s:=(dg (π:=dz I i f)).2 ⟨bX,wh,di,s.ae [3,0,2,2]⟩
       have hR:=fY.read (ε:=(π,μ,δ)) gS i f hq iB g1 U hf hh Km (by rw [sO]; exact hr)
       rw [sO] at hR
       exact ⟨_,[],_,hR,.inl ⟨hr,rfl,(s.del 2).ae [0,1,0]⟩⟩
      ·have XY:=Ev.at n
       obtain ⟨yb,_,cap,_,rfl,_⟩:=s.kB (by omega)
       refine zk 10 rfl (zh rfl (ah rfl rfl aX) (rfl) (zk 7 rfl (zc rfl (xk hT s (bE _ _) (by omega)) ?_)))
       rintro v h ⟨rfl,s⟩
       refine zk 5 rfl ?_
       by_cases hc:dA (y8.at n)=0
       ·skip
        refine zh rfl (ah rfl rfl aX) (by simp; exact hc) ?_
        have s:=s.fJ.ae [2,2,0,2,2,2,2,0,0]
        refine zk 8 rfl (zo rfl (c7 rfl (by rw [F6]; rfl)) ?_)
        refine zn rfl (zS rfl (s.Ss (k:=0) (row':=fH ⟨n,y8.at n,1,true,false⟩ (.sl yb 0 (y8.at n).length cap)) rfl CN J LO (by simp [fH]) rfl) ?_)
        intro h s
        refine zk 5 rfl (zf rfl (rz _ _) (zl rfl (s.ld (k:=3) rfl w6 rfl) (zk 2 rfl (aB.g8 rfl rfl (OpR.mapUpdate rfl rfl rfl rfl (oN (f:=fun v (x:Int)=>.pu (v=.int .i64 x)) (x:=(i:Int)) (fun _ _=>aE.pu _) ((s.ae [4]).gD rfl) yW bF)) ?_))))
        intro w h s
        refine zk 4 rfl (zc rfl (xb hT (s.ae [3]) (cJ _ _) (by omega)) ?_)
        intro u h s
        refine zk 3 rfl (WP.ret ⟨aa,_,rfl,?_⟩)
        have s:=gy (i:=i) (f':=⟨n,y8.at n,1,true,false⟩) (s.ae [3,3,1]) rfl Bk J
        have e6:(I.ak.set i ⟨n,y8.at n,1,true,false⟩).length=I.ak.length:=dw
        have e7:(jK (dz I i f) i n (y8.at n)).ak=I.ak.set i ⟨n,y8.at n,1,true,false⟩:=by simp only [jK,dz,Ap]
        rw [←e6,←e7,←qI] at s
        have s:=(dg (π:=jK (dz I i f) i n (y8.at n))).2 ⟨bX,wh,di,s.ae [3,0,1,1]⟩
        dsimp only [bringA,getA,aT] at s
        have hR:=fY.load (ε:=(π,μ,δ)) gS i f hq iB g1 U hf hh Km (by rw [sO]; exact hr) (by rw [sO]; exact hc)
        rw [sO] at hR
        exact ⟨_,_,_,hR,.inr ⟨rfl,u,rfl,(s.del 4).ae [1,0]⟩⟩
       ·skip
        refine zt rfl (ah rfl rfl aX) (by simp; exact hc) ?_
        refine zk 8 rfl (WP.ret ⟨aa,_,rfl,?_⟩)
        have s:=s.drop
        have s:=gy (i:=i) (f':=eY) (v':=.bz) (s.rR.ae [2,2,0]) rfl Bk J
        have e6:(I.ak.set i eY).length=I.ak.length:=dw
        rw [←e6,←qI] at s
        have s:=(dg (π:=dz I i f)).2 ⟨bX,wh,di,s.ae [3,0,2,2]⟩
        have hR:=fY.bad (ε:=(π,μ,δ)) gS i f hq iB g1 U hf hh Km (by rw [sO]; exact hr) (by rw [sO]; exact hc)
        rw [sO] at hR
        exact ⟨_,[],_,hR,.inl ⟨hc,rfl,(s.del 2).ae [0,1,0]⟩⟩
    ·skip
     refine zt rfl (ah rfl rfl aX) (by simp; exact he) ?_
     exact zk 8 rfl (WP.ret ⟨aa,_,rfl,_,[],_,.out gS i f hq iB g1 U hf hh he,.inl ⟨he,rfl,dg.2 ⟨bX,wh,di,s⟩⟩⟩)
   ·obtain ⟨i,f,rfl,hf⟩:=LN.at g1
    have hl:=(List.getElem?_eq_some_iff.1 hf).1
    obtain ⟨pre,fv,post,J,hlen,s⟩:=jz (s.ae [1]) hf
    have RJ:=Qr f (br hf)
    have Y8:=LN.len f (br hf)
    refine zo rfl (gM rfl rfl g2) (zk 15 rfl (zf rfl (kU _ _) (zl rfl (s.ld (k:=3) rfl oF rfl) (zm rfl (zo rfl (dY rfl rfl (mJ (i:=i) hl)) (zk 6 rfl (zf rfl (Ei _ _) (zS rfl (s.stM (k:=0) (j:=3) rfl x_ J hlen (by simp [fH]) rfl rfl) ?_))))))))
    intro h s
    refine zk 5 rfl (zf rfl (rA _ _) (zl rfl (s.ld (k:=0) rfl dr (iX J rfl)) (zb rfl (by exact bQ (aU (by omega) (by omega))) ?_)))
    refine zn rfl (zf rfl (rA _ _) (zS rfl (s.stM (k:=0) (j:=2) rfl jG J (by simpa [fH] using hlen) (by simp [fH]) rfl rfl) ?_))
    intro h s
    have e5:((fH f fv).set 3 (.bool true)).set 2 (.int .i64 (f.pins+1))=fH { f with ff:=true,pins:=f.pins+1 } fv:=rfl
    rw [e5] at s
    refine zk 5 rfl (zf rfl (AH _ _) (zl rfl (s.ld (k:=0) rfl bL (iX J rfl)) (zc rfl (xb hT (s.ae [2]) (cJ _ _) (by omega)) ?_)))
    intro u h s
    refine zk 3 rfl (WP.ret ⟨aa,_,rfl,?_⟩)
    have s:=gy (i:=i) (f':={ f with ff:=true,pins:=f.pins+1 }) (s.ae [2,2,1]) rfl hf J
    refine ⟨0,f.b,_,.Bj i f hq iB g1 hf,.inr ⟨rfl,u,rfl,?_⟩⟩
    have e6:(π.ak.set i { f with ff:=true,pins:=f.pins+1 }).length=π.ak.length:=dw
    rw [←e6] at s
    exact ((dg (π:={ π with ak:=π.ak.set i { f with ff:=true,pins:=f.pins+1 } })).2 ⟨bX,wh,di,s.ae [2,0,1,1]⟩).ae [1,0]
end
def C2 : Fm:=⟨0,[],0,false,false⟩
def Pl.fresh (n:Nat): Pl:=⟨List.replicate n eY,[],[],0⟩
theorem TN : ∃i,Tryz.prog.info? 167=some i∧i.size=5∧i.bytes=48 :=
 ⟨_,(show Tryz.prog.info? 167=some ((Tryz.prog.info? 167).getD default) by kernel_rfl),by kernel_rfl,by kernel_rfl⟩
theorem Qt {a b:PM}: ∀n:Nat,(uK (repeatL [.int .i64 0,.bz,.int .i64 0,.bool false,.bool false] n) (List.replicate n C2)).p a b:=by
 intro n
 induction n with
 | zero=>trivial
 | succ n I=>exact ⟨⟨⟨rfl,rfl,rfl,rfl⟩,⟨(by intro b J; cases J),.inl ⟨.inl rfl,rfl⟩⟩⟩,I⟩
section
variable {told:dH} {h:H} {S:List ax} {X:ax} {r k q p bX:Nat} {v x wh di:V} {l b:List Nat} {π:Pl} {m:List Fm} {μ:Lg} {δ:Dk}
noncomputable def pnL : Code:=cK [1,1,1,0,1,0,0] ((Tryz.f59.body).getD .skip)
theorem N7 {n:Nat}(hn:n<4294967296): ∀(j i:Nat) (m:List Fm) (h:H) (E:List (Nat×V)) (Q:Ex→List (Nat×V)→H→Prop),i+j=n→m=List.replicate i eY++List.replicate j C2 →
  Sat h (pt r (.cells 6 (qw p q bX n wh di 0) false)::eV bX m::S)→Has E [(8,.ptr r 0),(28,.int .i64 n),(29,.int .i64 i)] →
  (∀E' h',Has E' [(8,.ptr r 0)]→Sat h' (pt r (.cells 6 (qw p q bX n wh di 0) false)::eV bX (List.replicate n eY)::S)→Q (.exit 0) E' h')→WP ⟨Tryz.prog,told⟩ 41 (.loop pnL) E h Q:=by
 intro j
 induction j with
 | zero =>
  intro i m h E Q hi hm s J U
  refine WP.loop (WP.has J (zg rfl (zh rfl (ah rfl rfl bu) (by simp <;> omega) ?_)))
  refine zk 3 rfl (WP.exit (U _ _ ⟨rfl,aa⟩ ?_))
  rw [hm] at s
  have:i=n:=by omega
  subst this
  simpa using s
 | succ j ih =>
  intro i m h E Q hi hm s J U
  have Y_:m.length=n:=by rw [hm]; simp; omega
  have hf:m[i]?=some C2:=by rw [hm,nI (by simp)]; simp [tw]
  obtain ⟨pre,fv,post,I,hlen,s⟩:=jz (s.ae [1]) hf
  dsimp only [bringA,getA,aT] at s
  refine WP.loop (WP.has J (zg rfl (zt rfl (ah rfl rfl bu) (by simp <;> omega) ?_)))
  refine zk 5 rfl (WP.block (zK 8 rfl (zf rfl (kU _ _) (zl rfl (s.ld (k:=3) rfl oF rfl) (zm rfl (zo rfl (dY rfl rfl (mJ (i:=i) (by omega))) ?_))))))
  refine zf rfl (pO _ _) (zS rfl (s.stM (k:=0) (j:=0) rfl jG I hlen (by simp [fH]) rfl rfl) ?_)
  intro h s
  dsimp only [setA] at s
  have e5:(fH C2 fv).set 0 (.int .i64 (-1))=fH eY fv:=rfl
  rw [e5] at s
  refine zv (zr rfl (zb rfl (by exact bQ (aU (by omega) (by omega))) ?_))
  refine zm rfl (zv ?_)
  have s:=gy (i:=i) (f':=eY) s rfl hf I
  refine ih (i+1) (m.set i eY) h _ Q (by omega) ?_ (s.ae [1,0]) ⟨rfl,rfl,rfl,aa⟩ U
  rw [hm,List.set_append_right _ _ (by simp),fo,Ao,tw,List.set_cons_zero,List.replicate_succ',bN]
  rfl
theorem Kn (hT:W told){n:Int}(s:Sat h S): Call ⟨Tryz.prog,told⟩ 59 [.ptr p 0,.ptr q 0,.int .i64 n] h fun v h' =>
  (¬(1≤n∧n≤1024)∧v=.bD [.cF,.int .i64 1]∧Sat h' S)∨(1≤n∧n≤1024∧∃r,v=.bD [.ptr r 0,.int .i64 0]∧Sat h' (b8 r p q (Pl.fresh n.toNat)::S)):=by
 refine Call.of_wp (hT.free _ rfl) Tryz.func59 rfl rfl (zK 9 rfl ?_)
 refine zd rfl (ah rfl rfl bu) ?_ ?_
 ·intro J
  have J:n<1:=by simpa using J
  exact zk 11 rfl (WP.ret ⟨aa,_,rfl,.inl ⟨fun q=>by omega,rfl,s⟩⟩)
 ·intro J
  have J:1≤n:=by simp at J; omega
  refine zk 2 rfl ?_
  refine zd rfl (ah rfl rfl dR) ?_ ?_
  ·intro I
   have I:1024<n:=by simpa using I
   exact zk 8 rfl (WP.ret ⟨aa,_,rfl,.inl ⟨fun q=>by omega,rfl,s⟩⟩)
  ·intro I
   have I:n≤1024:=by simp at I; omega
   obtain ⟨n,rfl⟩:∃k:Nat,n=k:=⟨n.toNat,by omega⟩
   refine zk 9 rfl ?_
   obtain ⟨i1,U,jX,sN⟩:=TN
   obtain ⟨id,h1,e1,s1⟩:=yR (P:=Tryz.prog) s y6 U XI jX (by omega) rfl (by decide) (n:=n) (by omega)
   refine aB.any rfl rfl rfl (OpR.of (R:=fun v h'=>v=.sl id 0 n (.exact n)∧h'=h1) (rO rfl rfl e1) ⟨rfl,rfl⟩) ?_
   rintro v h ⟨rfl,rfl⟩
   have s:Sat h (eV id (List.replicate n C2)::S):=kf.2 ⟨_,by rw [fo]; exact ((s1.gD (φ:=True) aa).fP fun a b _=>Qt n).ae [1]⟩
   refine aB.yJ s rfl rfl rfl rfl (fun p20 h s => ?_)
   refine aB.yJ s rfl rfl rfl rfl (fun V4 h s => ?_)
   refine zo rfl (c7 rfl (by rw [XD]; rfl)) ?_
   refine aB.cQ s rfl rfl rfl (gC rfl rfl) (fun Za h s => ?_)
   refine zk 7 rfl (zf rfl (kU _ _) (zl rfl (s.ld (k:=0) rfl oF rfl) (zo rfl (a_ rfl rfl rfl (pQ rfl y6)) (zk 2 rfl (WP.block ?_)))))
   have s:=uD (f:=fun v (x:Nat×Bool)=>.pu (v=.agg [.int .u64 (x.1:Int),.bool x.2])) (s.ae [1])
   have s:=uD (f:=fun v (x:Int)=>.pu (v=.int .i64 x)) (s.ae [2])
   have s:=s.ae [2,2,0,0]
   refine N7 (n:=n) (by omega) n 0 _ _ _ _ (by omega) rfl s ⟨rfl,rfl,rfl,aa⟩ (fun E' h' gu s' => ?_)
   refine WP.has gu (zK 6 rfl (WP.ret ⟨aa,_,rfl,?_⟩))
   refine .inr ⟨J,I,_,rfl,(dg (π:=Pl.fresh n)).2 ⟨id,.map p20,.map V4,?_⟩⟩
   have e6:(Pl.fresh n).ak.length=n:=by simp [Pl.fresh]
   rw [e6]
   exact s'
end
theorem N8 {c:Nat}: ∀ {l:bZ} {b:Nat},eX c b l→bornUp c b (l.map ep)=true:=by
 intro l
 induction l with
 | nil=>intro b _; rfl
 | cons e l I =>
  intro b h
  obtain ⟨J,U,h3⟩:=h
  simp only [bJ,ep,bornUp]
  rw [show (Nat.ble b e.2.2&&Nat.blt e.2.2 c)=true by rw [aY,aQ]; exact ⟨J,by rw [Nat.blt]; exact aQ.2 U⟩,ag]
  exact I h3
theorem LP : ∀ {l:bZ},(∀e∈l,(Lit.int .i64 e.1).wf=true)→keyInts (l.map ep)=some (l.map (·.1)):=by
 intro l
 induction l with
 | nil=>intro _; rfl
 | cons e l I =>
  intro h
  simp only [bJ,ep,keyInts]
  rw [h e bn,ag]
  have:=I (fun e he=>h e (bl _ he))
  rw [this]
theorem Je {x:Int}: ∀ {l:List Int},l.Pairwise (· < ·)→x∉l→(insI x l).Pairwise (· < ·):=by
 intro l
 induction l with
 | nil=>intro _ _; simp [insI]
 | cons y l ih =>
  intro h U
  simp only [oY,fb,pG] at h U
  simp only [insI]
  by_cases J:x≤y
  ·rw [dM J,ag]
   have:x<y:=by omega
   simp only [oY,fb]
   refine ⟨fun z I => ?_,h⟩
   rcases I with rfl | I
   ·exact this
   ·have:=h.1 z I; omega
  ·rw [eE J,az]
   simp only [oY]
   refine ⟨fun z I => ?_,ih h.2 U.2⟩
   have:=(yU x l).mem_iff.1 I
   rcases List.mem_cons.1 this with rfl | I
   ·omega
   ·exact h.1 z I
theorem Jf : ∀ {l:List Int},l.Nodup→(m9 l).Pairwise (· < ·):=by
 intro l
 induction l with
 | nil=>intro _; exact List.Pairwise.nil
 | cons x l I =>
  intro h
  simp only [lW] at h
  exact Je (I h.2) (fun J=>h.1 ((eB l).mem_iff.1 J))
theorem Qu : ∀ {l:List Int},l.Pairwise (· < ·)→r9 l=true:=by
 intro l
 induction l with
 | nil=>intro _; rfl
 | cons x l I =>
  intro h
  simp only [oY] at h
  simp only [r9,aY,o_,ej]
  exact ⟨h.1,I h.2⟩
section
variable {α:Type} {f:V→α→ax} {told:dH} {h:H} {S:List ax} {mv:V} {m:List (Int×α)} {b g:Nat}
theorem Qv (I:W told){id:Nat}(s:Sat h S): Call ⟨Tryz.prog,told⟩ 73 [.map id] h fun v h'=>∃b,v=.fn (.func 117) [] [.ptr b 0]∧Sat h' (pt b (.cells 1 [.map id] false)::S):=by
 refine Call.of_wp (I.free _ rfl) Tryz.func73 rfl rfl (zg rfl ?_)
 refine aB.cQ s rfl rfl rfl (gC rfl rfl) (fun J h s => ?_)
 exact zk 4 rfl (zo rfl (AA rfl rfl) (zk 2 rfl (WP.ret ⟨aa,_,rfl,_,rfl,s⟩)))
theorem Qw (I:W told){id:Nat}(s:Sat h S): Call ⟨Tryz.prog,told⟩ 109 [.map id] h fun v h'=>∃b,v=.fn (.func 133) [] [.ptr b 0]∧Sat h' (pt b (.cells 1 [.map id] false)::S):=by
 refine Call.of_wp (I.free _ rfl) Tryz.func109 rfl rfl (zg rfl ?_)
 refine aB.cQ s rfl rfl rfl (gC rfl rfl) (fun J h s => ?_)
 exact zk 4 rfl (zo rfl (AA rfl rfl) (zk 2 rfl (WP.ret ⟨aa,_,rfl,_,rfl,s⟩)))
def aJ (m:List (Int×α)): List Int:=m9 (m.map (·.1))
theorem gx {m:List (Int×α)}{n:Int}: n∈aJ m↔n∈m.map (·.1):=(eB _).mem_iff
theorem Qx (l:List Int): (eN l).all storable=true:=by simp [eN,storable]
theorem pU (hT:W told)(s:Sat h (pt b (.cells 1 [mv] false)::i_ f mv m::S))(hg:wI AI g=true)(hm:m.length≤1048576)(hk:∀n∈m.map (·.1),(Lit.int .i64 n).wf=true):
  Call ⟨Tryz.prog,told⟩ 50 [.fn (.func g) [] [.ptr b 0]] h fun v h'=>Sat h' (.arr 1 v (eN (aJ m))::pt b (.cells 1 [mv] false)::i_ f mv m::S):=by
 obtain ⟨id,l,c,rfl,hb,hn,s1⟩:=eA.1 (s.ae [1])
 have s1:Sat h (fy id l c::eu f l m::pt b (.cells 1 [.map id] false)::S):=s1
 obtain ⟨q1,q2,q3,q4,q5⟩:=s1.at (k:=1) rfl
 have I:=tc q5
 have hlen:l.length=m.length:=by have:=jh List.length I; simpa using this
 have U:=s1.row (k:=0) rfl
 have aat:=s1.row (k:=2) rfl
 have mO:∀e∈l,(Lit.int .i64 e.1).wf=true:=fun e he=>hk e.1 (by rw [←I]; exact jd he)
 have Sx:r9 (m9 (l.map (·.1)))=true:=Qu (Jf (by rw [I]; exact hn))
 have J:∃v h',toldSorted AI [.fn (.func g) [] [.ptr b 0]] h=some (v,h')∧Sat h' (.arr 1 v (eN (aJ m))::pt b (.cells 1 [.map id] false)::i_ f (.map id) m::S):=by
  simp only [toldSorted,aat,U,en,hg,N8 hb,LP mO,Sx]
  rw [show (Nat.beq 1 1&&true&&true&&Nat.ble l.length 1048576)=true by rw [aQ.2 (by omega)]; rfl,ag]
  simp only [ag]
  cases hl:l.map (·.1) with
  | nil =>
   refine ⟨_,_,rfl,?_⟩
   have:aJ m=[]:=by rw [aJ,←I,hl]; rfl
   rw [this]
   exact s.qq
  | cons x xs =>
   refine ⟨_,_,rfl,?_⟩
   have e1:aJ m=m9 (x::xs):=by rw [aJ,←I,hl]
   have e2:(m9 (x::xs)).length=(x::xs).length:=(eB _).length_eq
   have e3:(x::xs).length=l.length:=by rw [←hl,en]
   rw [e1,←e3]
   refine (s.new (.cells (eN (m9 (x::xs))).length (eN (m9 (x::xs))) false)).fP fun a r Nz=>⟨Qx _,.inr ⟨h.next,(x::xs).length,.rest 1 0,(eN (m9 (x::xs))).length,[],rfl,?_,?_,by simp,rfl,rfl,rfl,rfl,by simp⟩⟩
   ·rw [bR]; exact Nz
   ·simp only [eN,en,e2,dN]
 obtain ⟨v,h',e1,e2⟩:=J
 exact ⟨v,h',g6.told hT.sorted Tryz.func50 rfl e1,e2⟩
end
end Go.Proofs.YtconhghphklfjaaGreat.Am
