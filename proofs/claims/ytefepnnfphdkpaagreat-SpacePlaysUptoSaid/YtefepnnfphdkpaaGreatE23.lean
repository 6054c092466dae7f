/- SpacePlays: a part of its proof; conditions: its statement's. -/
import Derived.Test.YtefepnnfphdkpaaGreatE22
namespace Go.Proofs.YtefepnnfphdkpaaGreat.Am
open Go
structure Pl.Ok (π:Pl): Prop where
 hand:π.hand<π.aj.length
 many:π.aj.length≤1024
 aI:∀e∈π.aI,0≤e.2∧e.2<π.aj.length
 len:∀f∈π.aj,f.b.length≤512
 pins:∀f∈π.aj,0≤f.pins∧f.pins≤4294967296
theorem Pl.Ok.at {π:Pl}(h:π.Ok){n i:Int}(J:lookL n π.aI=some i): ∃(k:Nat) (f:Fm),i=k∧π.aj[k]?=some f:=by
 have I:=h.aI _ (kE J)
 exact ⟨i.toNat,π.aj[i.toNat]'(by have:=I.2; simp only at this; omega),by have:=I.1; simp only at this; omega,aN _⟩
def heldI (π:Pl)(n:Int): Option Nat:=match lookL n π.aI with
 | none=>none
 | some i=>match π.aj[i.toNat]? with
  | none=>none
  | some f=>if f.pins=0 then none else some i.toNat
def unpinF (π:Pl)(n:Int): Int×Pl:=match heldI π n with
 | none=>(18,π)
 | some i=>match π.aj[i]? with
  | none=>(18,π)
  | some f=>(0,{ π with aj:=π.aj.set i { f with pins:=f.pins-1 } })
def gI (π:Pl)(n:Int)(aW:Nat): Nat:=match lookL n π.br with
 | some x=>x.1
 | none=>aW
def kM (π:Pl)(n:Int)(b:List Nat)(aW:Nat): Int×Pl:=match heldI π n with
 | none=>(18,π)
 | some i=>match π.aj[i]? with
  | none=>(18,π)
  | some f=>if cj b=false then (4,π) else (0,{ π with aj:=π.aj.set i { f with b:=dw b aW,changed:=true },br:=dO n (gI π n aW,true) π.br })
def dS (ε:aE)(n:Int): Int×aE:=match lookL n ε.1.aI with
 | none=>(18,ε)
 | some i=>outF ε i.toNat
section
variable {told:cZ} {h:H} {S:List au} {X:au} {r k q p bR:Nat} {v x wh di:V} {l b:List Nat} {π:Pl} {m:List Fm} {μ:Lg} {δ:Dk}
theorem C8 {n:Int}{j:Nat}(s:Sat h (FT wh π.aI::S)): (lookL n π.aI=none∧eB Tryz.prog h 186 wh (.int .i64 n) true=some (.aY [.int .i64 0,.bool false])) ∨
  ∃i,lookL n π.aI=some i∧eB Tryz.prog h 186 wh (.int .i64 n) true=some (.aY [.int .i64 i,.bool true]):=by
 rcases oB (f:=fun v (x:Int)=>.pu (v=.int .i64 x)) (n:=n) (fun _ _=>aX.pu _) s xM bI As with ⟨I,J,_⟩ | ⟨u,i,I,J,_,s'⟩
 ·exact .inl ⟨I,J⟩
 ·obtain ⟨rfl,_⟩:=sS.1 s'
  exact .inr ⟨i,I,J⟩
theorem C9 {n:Int}(s:Sat h (BQ di π.br::S)): (lookL n π.br=none∧eB Tryz.prog h 187 di (.int .i64 n) true=some (.aY [.agg [.int .u64 0,.bool false],.bool false])∧eB Tryz.prog h 187 di (.int .i64 n) false=some (.agg [.int .u64 0,.bool false])) ∨
  ∃x,lookL n π.br=some x∧eB Tryz.prog h 187 di (.int .i64 n) true=some (.aY [.agg [.int .u64 (x.1:Int),.bool x.2],.bool true])∧eB Tryz.prog h 187 di (.int .i64 n) false=some (.agg [.int .u64 (x.1:Int),.bool x.2]):=by
 rcases oB (f:=fun v (x:Nat×Bool)=>.pu (v=.agg [.int .u64 (x.1:Int),.bool x.2])) (n:=n) (fun _ _=>aX.pu _) s oV bI vX with ⟨I,J,g3⟩ | ⟨u,x,I,J,g3,s'⟩
 ·exact .inl ⟨I,J,g3⟩
 ·obtain ⟨rfl,_⟩:=sS.1 s'
  exact .inr ⟨x,I,J,g3⟩
theorem II (hT:W told){n:Int}(s:Sat h (pt r (.cells 6 (o5 p q bR π.aj.length wh di π.hand) false)::dZ bR π.aj::FT wh π.aI::S))(J5:π.Ok):
  Call ⟨Tryz.prog,told⟩ 126 [.ptr r 0,.int .i64 n] h fun v h'=>h'=h∧((heldI π n=none∧v=.aY [.b7,.int .i64 18])∨∃(i:Nat) (f:Fm),heldI π n=some i∧π.aj[i]?=some f∧v=.aY [.ptr bR (i*5),.int .i64 0]):=by
 refine Call.of_wp (hT.free _ rfl) Tryz.func126 rfl rfl (zK 9 rfl (zf rfl (pX _ _) (zl rfl (s.ld (k:=0) rfl vW rfl) (zm rfl ?_))))
 rcases C8 (n:=n) (j:=0) (s.ae [2]) with ⟨g1,g2⟩ | ⟨i,g1,g2⟩
 ·refine az.op rfl rfl rfl (iD rfl rfl g2) ?_
  exact zk 10 rfl (zt rfl (cX rfl rfl) (rfl) (zk 18 rfl (WP.ret ⟨aa,_,rfl,rfl,.inl ⟨by simp only [heldI,g1],rfl⟩⟩)))
 ·obtain ⟨i,f,rfl,hf⟩:=J5.at g1
  have hl:=(List.getElem?_eq_some_iff.1 hf).1
  have hh:heldI π n=if f.pins=0 then none else some i:=by simp only [heldI,g1,bP,hf]
  obtain ⟨pre,fv,post,J,hlen,s'⟩:=iY (s.ae [1]) hf
  refine zo rfl (iD rfl rfl g2) (zk 10 rfl (zh rfl (cX rfl rfl) (rfl) (zk 3 rfl (zf rfl (ke _ _) (zl rfl (s.ld (k:=0) rfl nN rfl) (zm rfl (zo rfl (cn rfl rfl (lU (i:=i) hl)) (zf rfl (pY _ _) (zl rfl (s'.ld (k:=0) rfl cA (iw J rfl)) ?_)))))))))
  refine zd rfl (af rfl rfl dh) ?_ ?_
  ·intro I
   have I:f.pins=0:=by simpa using I
   exact zk 8 rfl (WP.ret ⟨aa,_,rfl,rfl,.inl ⟨by rw [hh,aq I],rfl⟩⟩)
  ·intro I
   have I:f.pins≠0:=by simpa using I
   exact zk 8 rfl (zf rfl (ke _ _) (zl rfl (s.ld (k:=0) rfl nN rfl) (zm rfl (zo rfl (cn rfl rfl (lU (i:=i) hl)) (zk 3 rfl (WP.ret ⟨aa,_,rfl,rfl,.inr ⟨i,f,by rw [hh,ah I],hf,rfl⟩⟩))))))
theorem FW (hT:W told){n:Int}(s:Sat h (cK r p q π::S))(J:π.Ok):
  Call ⟨Tryz.prog,told⟩ 65 [.ptr r 0,.int .i64 n] h fun v h'=>v=.int .i64 (unpinF π n).1∧Sat h' (cK r p q (unpinF π n).2::S):=by
 have s0:=s
 obtain ⟨bR,wh,di,s⟩:=cL.1 s
 refine Call.of_wp (hT.free _ rfl) Tryz.func65 rfl rfl (zK 8 rfl (zc rfl (II (n:=n) hT s J) ?_))
 rintro v h' ⟨rfl,(⟨hh,rfl⟩ | ⟨i,f,hh,hf,rfl⟩)⟩
 ·have he:unpinF π n=(18,π):=by simp only [unpinF,hh]
  rw [he]
  exact zk 10 rfl (zt rfl (af rfl rfl aG) (rfl) (zk 7 rfl (WP.ret ⟨aa,_,rfl,rfl,s0⟩)))
 ·have he:unpinF π n=(0,{ π with aj:=π.aj.set i { f with pins:=f.pins-1 } }):=by simp only [unpinF,hh,hf]
  rw [he]
  obtain ⟨pre,fv,post,I,hlen,s⟩:=iY (s.ae [1]) hf
  have OC:=J.pins f (a_ hf)
  refine zk 10 rfl (zh rfl (af rfl rfl aG) (rfl) (zk 7 rfl (zf rfl (pY _ _) (zl rfl (s.ld (k:=0) rfl cA (iw I rfl)) (zb rfl (by exact iB (aB (by omega) (by omega))) ?_)))))
  refine zn rfl (zf rfl (pY _ _) (zS rfl (s.stM (k:=0) (j:=2) rfl kA I hlen (by simp [eV]) rfl rfl) ?_))
  intro h s
  have e5:(eV f fv).set 2 (.int .i64 (f.pins-1))=eV { f with pins:=f.pins-1 } fv:=rfl
  rw [e5] at s
  refine zk 5 rfl (WP.ret ⟨aa,_,rfl,?_⟩)
  refine ⟨rfl,cL.2 ⟨bR,wh,di,?_⟩⟩
  have s:=fO (i:=i) (f':={ f with pins:=f.pins-1 }) s rfl hf I
  rw [bJ]
  exact s.ae [1,0]
theorem RV (hT:W told){n:Int}{aW:Nat}{bv:V}(s:Sat h (cK r p q π::X::S))(hX:c8 X (c9 bv b))(J5:π.Ok)(hb:b.length<9223372036854775808):
  Call ⟨Tryz.prog,told⟩ 64 [.ptr r 0,.int .i64 n,bv,.int .u64 (aW:Int)] h fun v h'=>v=.int .i64 (kM π n b aW).1∧Sat h' (cK r p q (kM π n b aW).2::X::S):=by
 have s0:=s
 obtain ⟨bR,wh,di,s⟩:=cL.1 s
 refine Call.of_wp (hT.free _ rfl) Tryz.func64 rfl rfl (zK 8 rfl (zc rfl (II (n:=n) hT s J5) ?_))
 rintro v h' ⟨rfl,(⟨hh,rfl⟩ | ⟨i,f,hh,hf,rfl⟩)⟩
 ·have he:kM π n b aW=(18,π):=by simp only [kM,hh]
  rw [he]
  exact zk 10 rfl (zt rfl (af rfl rfl aG) (rfl) (zk 7 rfl (WP.ret ⟨aa,_,rfl,rfl,s0⟩)))
 ·have he:kM π n b aW=(if cj b=false then (4,π) else (0,{ π with aj:=π.aj.set i { f with b:=dw b aW,changed:=true },br:=dO n (gI π n aW,true) π.br })):=by simp only [kM,hh,hf]
  rw [he]
  refine zk 10 rfl (zh rfl (af rfl rfl aG) (rfl) (zk 7 rfl (zc rfl (RN (n:=aW) hT (s.ae [4]) hX hb) ?_)))
  rintro v h (⟨hg,u,rfl,s⟩ | ⟨hg,rfl,s⟩)
  ·rw [ah (by rw [hg]; decide)]
   have uc:(dw b aW).length=512:=by
    have h1:=v_ (n:=aW) (iQ hg)
    rw [dw,cI (by rw [cJ]; omega),h1]
   obtain ⟨J,_,cap,_,rfl,_⟩:=s.fB (by omega)
   have s:=s.gu
   obtain ⟨pre,fv,post,I,hlen,s⟩:=iY (s.ae [3]) hf
   refine zk 10 rfl (zh rfl (af rfl rfl aG) (rfl) (zk 9 rfl (zf rfl (zQ _ _) (zS rfl (s.stM (k:=0) (j:=1) rfl jT I hlen (by simp [eV]) rfl rfl) ?_))))
   intro h s
   refine zn rfl (zf rfl (CW _ _) (zS rfl (s.stM (k:=0) (j:=4) rfl oS I (by simpa [eV] using hlen) (by simp [eV]) rfl rfl) ?_))
   intro h s
   have e5:((eV f fv).set 1 (.sl J 0 (dw b aW).length cap)).set 4 (.bool true)=eV { f with b:=dw b aW,changed:=true } (.sl J 0 (dw b aW).length cap):=rfl
   rw [e5] at s
   have s:=fO (i:=i) (f':={ f with b:=dw b aW,changed:=true }) (s.ae [0,0,1]) rfl hf I
   have s:=s.ae [3,4,0]
   refine zk 5 rfl (zf rfl (my _ _) (zl rfl (s.ld (k:=0) rfl qo rfl) (zm rfl ?_)))
   rcases C9 (n:=n) (s.ae [1]) with ⟨g1,g2,_⟩ | ⟨x,g1,g2,_⟩
   ·refine az.op rfl rfl rfl (iD rfl rfl g2) ?_
    refine zk 3 rfl ?_
    refine az.cz s rfl rfl rfl (cy vX) (fun Xl h s => ?_)
    refine zS rfl (s.eZ (j:=0) rfl tU rfl rfl) (fun h s => ?_)
    refine zk 6 rfl (zo rfl (cX rfl rfl) (zk 4 rfl (zf rfl (CX _ _) ?_)))
    refine zS rfl (by exact s.gO (k:=0) rfl AI rfl (by decide) rfl rfl) (fun h s => ?_)
    refine zk 3 rfl (zf rfl (CY _ _) ?_)
    refine zS rfl (by exact s.gO (k:=0) rfl oS rfl (by decide) rfl rfl) (fun h s => ?_)
    refine zk 2 rfl (WP.drawn [ai,ai,ai,ai,ai,ai,ai] rfl (by kernel_rfl) (by kernel_rfl) ?_)
    refine zM rfl (zN rfl (zF rfl (my _ _) (zL rfl (s.ld (k:=1) rfl qo rfl) (zM rfl (zL rfl (s.bZ (k:=0) rfl JO tU) (aA.j6 rfl rfl rfl (OpR.mapUpdate rfl rfl rfl rfl (nQ (f:=fun v (x:Nat×Bool)=>.pu (v=.agg [.int .u64 (x.1:Int),.bool x.2])) (x:=(aW,true)) (fun _ _=>aX.pu _) ((s.ae [2]).gr rfl) oV bI)) ?_))))))
    intro w h s
    refine aA.nil ⟨⟨aa,aa,aa,aa,aa,aa,aa,aa⟩,?_⟩
    refine zK 4 rfl (WP.ret ⟨aa,_,rfl,?_⟩)
    have ed:gI π n aW=aW:=by simp only [gI,g1]
    rw [ed]
    refine ⟨rfl,cL.2 ⟨bR,wh,di,?_⟩⟩
    have e6:(π.aj.set i { f with b:=dw b aW,changed:=true }).length=π.aj.length:=bJ
    show Sat h (pt r (.cells 6 (o5 p q bR (π.aj.set i { f with b:=dw b aW,changed:=true }).length wh di π.hand) false)::_)
    rw [e6]
    exact ((s.ae [2,2,4,0,2]).del 6).del 5
   ·skip
    refine zo rfl (iD rfl rfl g2) (zk 3 rfl ?_)
    refine az.cz s rfl rfl rfl (cy vX) (fun Xl h s => ?_)
    refine zS rfl (s.eZ (j:=0) rfl tU rfl rfl) (fun h s => ?_)
    refine zk 6 rfl (zo rfl (cX rfl rfl) (zk 5 rfl (zf rfl (CY _ _) ?_)))
    refine zS rfl (by exact s.gO (k:=0) rfl oS rfl (by decide) rfl rfl) (fun h s => ?_)
    refine zk 2 rfl (WP.drawn [ai,ai,ai,ai,ai,ai,ai] rfl (by kernel_rfl) (by kernel_rfl) ?_)
    refine zM rfl (zN rfl (zF rfl (my _ _) (zL rfl (s.ld (k:=1) rfl qo rfl) (zM rfl (zL rfl (s.bZ (k:=0) rfl JO tU) (aA.j6 rfl rfl rfl (OpR.mapUpdate rfl rfl rfl rfl (nQ (f:=fun v (x:Nat×Bool)=>.pu (v=.agg [.int .u64 (x.1:Int),.bool x.2])) (x:=(x.1,true)) (fun _ _=>aX.pu _) ((s.ae [2]).gr rfl) oV bI)) ?_))))))
    intro w h s
    refine aA.nil ⟨⟨aa,aa,aa,aa,aa,aa,aa,aa⟩,?_⟩
    refine zK 4 rfl (WP.ret ⟨aa,_,rfl,?_⟩)
    have ed:gI π n aW=x.1:=by simp only [gI,g1]
    rw [ed]
    refine ⟨rfl,cL.2 ⟨bR,wh,di,?_⟩⟩
    have e6:(π.aj.set i { f with b:=dw b aW,changed:=true }).length=π.aj.length:=bJ
    show Sat h (pt r (.cells 6 (o5 p q bR (π.aj.set i { f with b:=dw b aW,changed:=true }).length wh di π.hand) false)::_)
    rw [e6]
    exact ((s.ae [2,2,4,0,2]).del 6).del 5
  ·rw [aq hg]
   exact zk 10 rfl (zt rfl (af rfl rfl aG) (rfl) (zk 7 rfl (WP.ret ⟨aa,_,rfl,rfl,cL.2 ⟨bR,wh,di,s.ae [1,1,1,1,0]⟩⟩)))
theorem Me (hT:W told){n:Int}(s:Sat h (cK r p q π::bx q p μ::aL p δ::S))(I:π.Ok)(FQ:μ.Ok)(tg:δ.Ok)(hw:δ.waiting.length≤268435456):
  Call ⟨Tryz.prog,told⟩ 144 [.ptr r 0,.int .i64 n] h fun v h'=>v=.int .i64 (dS (π,μ,δ) n).1 ∧
   Sat h' (cK r p q (dS (π,μ,δ) n).2.1::bx q p (dS (π,μ,δ) n).2.2.1::aL p (dS (π,μ,δ) n).2.2.2::S):=by
 have s0:=s
 obtain ⟨bR,wh,di,s⟩:=cL.1 s
 refine Call.of_wp (hT.free _ rfl) Tryz.func144 rfl rfl (zK 8 rfl (zf rfl (pX _ _) (zl rfl (s.ld (k:=0) rfl vW rfl) (zm rfl ?_))))
 rcases C8 (n:=n) (j:=0) (s.ae [2]) with ⟨J,g2⟩ | ⟨i,J,g2⟩
 ·have he:dS (π,μ,δ) n=(18,(π,μ,δ)):=by simp only [dS,J]
  rw [he]
  exact zo rfl (iD rfl rfl g2) (zk 10 rfl (zo rfl (cX rfl rfl) (zk 6 rfl (WP.ret ⟨aa,_,rfl,rfl,s0⟩))))
 ·obtain ⟨i,f,rfl,hf⟩:=I.at J
  have hl:=(List.getElem?_eq_some_iff.1 hf).1
  have he:dS (π,μ,δ) n=outF (π,μ,δ) i:=by simp only [dS,J,bP]
  rw [he]
  refine zo rfl (iD rfl rfl g2) (zk 10 rfl (zo rfl (cX rfl rfl) (zk 8 rfl (zf rfl (ke _ _) (zl rfl (s.ld (k:=0) rfl nN rfl) (zm rfl (zo rfl (cn rfl rfl (lU (i:=i) hl)) (zc rfl (Mc hT s hf FQ tg (by have:=I.len f (a_ hf); omega) hw) ?_))))))))
  rintro v h ⟨rfl,s⟩
  exact zk 2 rfl (WP.ret ⟨aa,_,rfl,rfl,cL.2 ⟨bR,wh,di,s⟩⟩)
theorem Uy (hT:W told){n:Int}(s:Sat h (cK r p q π::S)): Call ⟨Tryz.prog,told⟩ 114 [.ptr r 0,.int .i64 n] h fun v h'=>v=.aY [.int .u64 (gI π n 0:Nat),.bool (lookL n π.br).isSome]∧Sat h' (cK r p q π::S):=by
 obtain ⟨bR,wh,di,s⟩:=cL.1 s
 refine Call.of_wp (hT.free _ rfl) Tryz.func114 rfl rfl (zK 9 rfl (zf rfl (my _ _) (zl rfl (s.ld (k:=0) rfl qo rfl) (zm rfl ?_))))
 rcases C9 (n:=n) (s.ae [3]) with ⟨I,J,_⟩ | ⟨x,I,J,_⟩
 ·refine az.op rfl rfl rfl (iD rfl rfl J) ?_
  refine zk 3 rfl ?_
  refine az.cz s rfl rfl rfl (cy vX) (fun p6 h s => ?_)
  refine zS rfl (s.eZ (j:=0) rfl tU rfl rfl) (fun h s => ?_)
  exact zk 4 rfl (zf rfl (CX _ _) (zl rfl (s.ld (k:=0) rfl iP rfl) (zk 4 rfl (WP.ret ⟨aa,_,rfl,by simp only [gI,I]; rfl,cL.2 ⟨bR,wh,di,s.drop⟩⟩))))
 ·skip
  refine zo rfl (iD rfl rfl J) (zk 3 rfl ?_)
  refine az.cz s rfl rfl rfl (cy vX) (fun p6 h s => ?_)
  refine zS rfl (s.eZ (j:=0) rfl tU rfl rfl) (fun h s => ?_)
  exact zk 4 rfl (zf rfl (CX _ _) (zl rfl (s.ld (k:=0) rfl iP rfl) (zk 4 rfl (WP.ret ⟨aa,_,rfl,by simp only [gI,I]; rfl,cL.2 ⟨bR,wh,di,s.drop⟩⟩))))
def ep : Fm:=⟨-1,[],0,false,false⟩
def cW (π:Pl)(i:Nat)(f:Fm): Pl:={ π with aj:=π.aj.set i ep,aI:=if f.bn<0 then π.aI else mE f.bn π.aI }
def jd (π:Pl)(i:Nat)(n:Int)(b:List Nat): Pl:={ π with aj:=π.aj.set i ⟨n,b,1,true,false⟩,aI:=dO n (i:Int) π.aI }
inductive fE (ε:aE)(n:Int): Int→List Nat→aE→Prop where
 | arg (h:¬(0≤n∧n<ε.2.2.aM.length)):fE ε n 1 [] ε
 | Ay (i:Nat) (f:Fm) (h1:0≤n) (h2:n<ε.2.2.aM.length) (hl:lookL n ε.1.aI=some (i:Int)) (hf:ε.1.aj[i]?=some f):fE ε n 0 f.b ({ ε.1 with aj:=ε.1.aj.set i { f with eC:=true,pins:=f.pins+1 } },ε.2)
 | out (gx:Pl) (i:Nat) (f:Fm) (h1:0≤n) (h2:n<ε.2.2.aM.length) (hl:lookL n ε.1.aI=none) (hn:fD ε.1 gx) (hf:gx.aj[i]?=some f) (hh:gx.hand<gx.aj.length) (he:(outF (gx,ε.2) i).1≠0):fE ε n (outF (gx,ε.2) i).1 [] (outF (gx,ε.2) i).2
 | read (gx:Pl) (i:Nat) (f:Fm) (h1:0≤n) (h2:n<ε.2.2.aM.length) (hl:lookL n ε.1.aI=none) (hn:fD ε.1 gx) (hf:gx.aj[i]?=some f) (hh:gx.hand<gx.aj.length) (he:(outF (gx,ε.2) i).1=0)
   (hr:(outF (gx,ε.2) i).2.2.2.qq n≠0):fE ε n ((outF (gx,ε.2) i).2.2.2.qq n) [] (cW (outF (gx,ε.2) i).2.1 i f,(outF (gx,ε.2) i).2.2)
 | bad (gx:Pl) (i:Nat) (f:Fm) (h1:0≤n) (h2:n<ε.2.2.aM.length) (hl:lookL n ε.1.aI=none) (hn:fD ε.1 gx) (hf:gx.aj[i]?=some f) (hh:gx.hand<gx.aj.length) (he:(outF (gx,ε.2) i).1=0)
   (hr:(outF (gx,ε.2) i).2.2.2.qq n=0) (hc:h_ ((outF (gx,ε.2) i).2.2.2.at n)≠0):fE ε n (h_ ((outF (gx,ε.2) i).2.2.2.at n)) [] (cW (outF (gx,ε.2) i).2.1 i f,(outF (gx,ε.2) i).2.2)
 | load (gx:Pl) (i:Nat) (f:Fm) (h1:0≤n) (h2:n<ε.2.2.aM.length) (hl:lookL n ε.1.aI=none) (hn:fD ε.1 gx) (hf:gx.aj[i]?=some f) (hh:gx.hand<gx.aj.length) (he:(outF (gx,ε.2) i).1=0)
   (hr:(outF (gx,ε.2) i).2.2.2.qq n=0) (hc:h_ ((outF (gx,ε.2) i).2.2.2.at n)=0):fE ε n 0 ((outF (gx,ε.2) i).2.2.2.at n) (jd (cW (outF (gx,ε.2) i).2.1 i f) i n ((outF (gx,ε.2) i).2.2.2.at n),(outF (gx,ε.2) i).2.2)
theorem AP {ε:aE}{i:Nat}(h:ε.2.2.Ok): (outF ε i).2.2.2.Ok:=by
 unfold outF
 split
 ·exact h
 ·split
  ·exact h
  ·split
   ·exact h
   ·split
    ·exact nm h
    ·split
     ·exact (nm h).dc
     ·exact (nm h).dc
theorem OD {ε:aE}{i:Nat}(h:ε.2.1.Ok): (outF ε i).2.2.1.Ok:=by
 unfold outF
 split
 ·exact h
 ·split
  ·exact h
  ·split
   ·exact h
   ·split
    ·exact qt h
    ·split <;> exact qt h
theorem nq {ε:aE}{i:Nat}{f:Fm}(I:ε.1.aj[i]?=some f): ∃c,(outF ε i).2.1.aj[i]?=some { f with changed:=c }:=by
 have J:=(List.getElem?_eq_some_iff.1 I).1
 unfold outF
 rw [I]
 dsimp only
 split
 ·exact ⟨f.changed,I⟩
 ·split
  ·exact ⟨f.changed,I⟩
  ·split
   ·exact ⟨f.changed,I⟩
   ·split
    ·exact ⟨f.changed,I⟩
    ·exact ⟨false,by simp [yM,J]⟩
theorem Mf (hT:W told){n:Int}(s:Sat h (cK r p q π::bx q p μ::aL p δ::S))(J5:π.Ok)(OC:∀f∈π.aj,f.pins=0)(FQ:μ.Ok)(tg:δ.Ok)(hw:δ.waiting.length≤268435456):
  Call ⟨Tryz.prog,told⟩ 63 [.ptr r 0,.int .i64 n] h fun v h'=>∃(e:Int) (b:List Nat) (ε:aE),fE (π,μ,δ) n e b ε ∧
   ((e≠0∧v=.aY [.bu,.int .i64 e]∧Sat h' (cK r p q ε.1::bx q p ε.2.1::aL p ε.2.2::S))∨(e=0∧∃u,v=.aY [u,.int .i64 0]∧Sat h' (aZ u b::cK r p q ε.1::bx q p ε.2.1::aL p ε.2.2::S))):=by
 have s0:=s
 obtain ⟨bR,wh,di,s⟩:=cL.1 s
 refine Call.of_wp (hT.free _ rfl) Tryz.func63 rfl rfl (zK 9 rfl ?_)
 refine zd rfl (af rfl rfl aK) ?_ ?_
 ·intro hq
  have hq:n<0:=by simpa using hq
  exact zk 16 rfl (WP.ret ⟨aa,_,rfl,1,[],(π,μ,δ),.arg (fun q=>by omega),.inl ⟨by decide,rfl,s0⟩⟩)
 ·intro hq
  have hq:0≤n:=by simp at hq; omega
  refine zk 4 rfl (zf rfl (vr _ _) (zl rfl (s.ld (k:=0) rfl jU rfl) (zc rfl (AN hT (s.ae [5])) ?_)))
  rintro v h' ⟨rfl,rfl⟩
  refine zd rfl (af rfl rfl jq) ?_ ?_
  ·intro iz
   have iz:¬ n<δ.aM.length:=by simp at iz; omega
   exact zk 8 rfl (WP.ret ⟨aa,_,rfl,1,[],(π,μ,δ),.arg (fun q=>iz q.2),.inl ⟨by decide,rfl,s0⟩⟩)
  ·intro iz
   have iz:n<δ.aM.length:=by simp at iz; omega
   refine zk 9 rfl (zf rfl (pX _ _) (zl rfl (s.ld (k:=0) rfl vW rfl) (zm rfl ?_)))
   rcases C8 (n:=n) (j:=0) (s.ae [2]) with ⟨g1,g2⟩ | ⟨i,g1,g2⟩
   ·refine az.op rfl rfl rfl (iD rfl rfl g2) ?_
    refine zk 15 rfl (zc rfl (OB hT s J5.hand (by have:=J5.many; omega) OC) ?_)
    rintro v h ⟨i,gx,f,rfl,nO,hf,hh,s⟩
    have hl:=(List.getElem?_eq_some_iff.1 hf).1
    rw [←nO.aI,←nO.br] at s
    have WG:f.b.length≤512:=by
     have h1:π.aj[i]?=some (π.aj[i]'(by have:=nO.len; omega)):=aN _
     generalize (π.aj[i]'(by have:=nO.len; omega))=f0 at h1
     obtain ⟨t,ht⟩:=nO.get i f0 h1
     rw [hf] at ht
     have:=bB ht
     rw [this]
     exact J5.len f0 (a_ h1)
    refine zk 6 rfl (zh rfl (af rfl rfl aK) (by simp <;> omega) ?_)
    refine zk 7 rfl (zf rfl (ke _ _) (zl rfl (s.ld (k:=0) rfl nN rfl) (zm rfl (zo rfl (cn rfl rfl (lU (i:=i) hl)) (zk 7 rfl (zc rfl (Mc (π:=gx) hT s hf FQ tg (by omega) hw) ?_))))))
    rintro v h ⟨rfl,s⟩
    obtain ⟨c,BS⟩:=nq (ε:=(gx,μ,δ)) hf
    have C_:=AP (ε:=(gx,μ,δ)) (i:=i) tg
    refine zk 5 rfl ?_
    by_cases he:(outF (gx,μ,δ) i).1=0
    ·generalize ho:outF (gx,μ,δ) i=o at he s BS C_ ⊢
     obtain ⟨oe,I,μ1,xX⟩:=o
     dsimp only at he s BS C_ ⊢
     subst he
     have BT:(outF (gx,μ,δ) i).1=0:=by rw [ho]
     have pz:(outF (gx,μ,δ) i).2=(I,μ1,xX):=by rw [ho]
     refine zh rfl (af rfl rfl aG) (by decide) ?_
     obtain ⟨pre,fv,post,J,hlen,s⟩:=iY (s.ae [1]) BS
     refine zk 8 rfl (zf rfl (oA _ _) (zl rfl (s.ld (k:=0) rfl cA (iw J rfl)) ?_))
     refine zd rfl (af rfl rfl jq) ?_ ?_
     ·intro jY
      have jY:¬ f.bn<0:=by simp at jY; omega
      refine zk 2 rfl (WP.drawn [ai,ai,ai,ai,ai,ai,ai,ai,ai] rfl (by kernel_rfl) (by kernel_rfl) ?_)
      refine zM rfl (zN rfl (zF rfl (pX _ _) (zL rfl (s.ld (k:=3) rfl vW rfl) (zM rfl (zN rfl (zF rfl (oA _ _) (zL rfl (s.ld (k:=0) rfl cA (iw J rfl)) (aA.j6 rfl rfl rfl (OpR.delete rfl rfl rfl rfl (Oi (s.ae [4]) xM bI)) ?_))))))))
      intro v h s
      have s:=s.ae [1,1,1,1,0]
      refine aA.nil ⟨⟨aa,aa,aa,aa,aa,aa,aa,aa,aa,aa⟩,?_⟩
      refine zK 3 rfl (zo rfl (dA rfl (by rw [Ez]; rfl)) ?_)
      refine zn rfl (zS rfl (s.QB (k:=0) (row':=eV ep .bu) rfl BB J hlen (by simp [eV]) rfl) ?_)
      intro h s
      have J6:(pre++(eV ep .bu++post)).length=I.aj.length*5:=by simpa [eV] using hlen
      have sR:(cW I i f).aI=mE f.bn I.aI:=by simp only [cW]; rw [ah jY]
      refine zk 5 rfl (zf rfl (vr _ _) (zl rfl (s.ld (k:=3) rfl jU rfl) (zm rfl (zc rfl (Mb (n:=n) hT (s.ae [7]) C_) ?_))))
      rintro v h (⟨hr,rfl,s⟩ | ⟨hr,u,rfl,s⟩)
      ·dsimp only [bringA,getA,bf] at s
       refine zk 10 rfl (zt rfl (af rfl rfl aG) (by simp; exact hr) ?_)
       refine zk 8 rfl (WP.ret ⟨aa,_,rfl,?_⟩)
       have s:=fO (i:=i) (f':=ep) (v':=.bu) (s.tV.ae [2,2,0]) rfl BS J
       have e6:(I.aj.set i ep).length=I.aj.length:=bJ
       rw [←e6,←sR] at s
       have s:=(cL (π:=cW I i f)).2 ⟨bR,wh,di,s.ae [3,0,2,2]⟩
       have hR:=fE.read (ε:=(π,μ,δ)) gx i f hq iz g1 nO hf hh BT (by rw [pz]; exact hr)
       rw [pz] at hR
       exact ⟨_,[],_,hR,.inl ⟨hr,rfl,(s.del 2).ae [0,1,0]⟩⟩
      ·have Wa:=C_.at n
       obtain ⟨sZ,_,cap,_,rfl,_⟩:=s.fB (by omega)
       refine zk 10 rfl (zh rfl (af rfl rfl aG) (rfl) (zk 7 rfl (zc rfl (FL hT s (bz _ _) (by omega)) ?_)))
       rintro v h ⟨rfl,s⟩
       refine zk 5 rfl ?_
       by_cases hc:h_ (xX.at n)=0
       ·skip
        refine zh rfl (af rfl rfl aG) (by simp; exact hc) ?_
        have s:=s.gu.ae [2,2,0,2,2,2,2,0,0]
        refine zk 8 rfl (zo rfl (dA rfl (by rw [Ez]; rfl)) ?_)
        refine zn rfl (zS rfl (s.QB (k:=0) (row':=eV ⟨n,xX.at n,1,true,false⟩ (.sl sZ 0 (xX.at n).length cap)) rfl BB J J6 (by simp [eV]) rfl) ?_)
        intro h s
        refine zk 5 rfl (zf rfl (pX _ _) (zl rfl (s.ld (k:=3) rfl vW rfl) (zk 2 rfl (az.j6 rfl rfl (OpR.mapUpdate rfl rfl rfl rfl (nQ (f:=fun v (x:Int)=>.pu (v=.int .i64 x)) (x:=(i:Int)) (fun _ _=>aX.pu _) ((s.ae [4]).gr rfl) xM bI)) ?_))))
        intro w h s
        refine zk 4 rfl (zc rfl (v7 hT (s.ae [3]) (fe _ _) (by omega)) ?_)
        intro u h s
        refine zk 3 rfl (WP.ret ⟨aa,_,rfl,?_⟩)
        have s:=fO (i:=i) (f':=⟨n,xX.at n,1,true,false⟩) (s.ae [3,3,1]) rfl BS J
        have e6:(I.aj.set i ⟨n,xX.at n,1,true,false⟩).length=I.aj.length:=bJ
        have e7:(jd (cW I i f) i n (xX.at n)).aj=I.aj.set i ⟨n,xX.at n,1,true,false⟩:=by simp only [jd,cW,yW]
        rw [←e6,←e7,←sR] at s
        have s:=(cL (π:=jd (cW I i f) i n (xX.at n))).2 ⟨bR,wh,di,s.ae [3,0,1,1]⟩
        have hR:=fE.load (ε:=(π,μ,δ)) gx i f hq iz g1 nO hf hh BT (by rw [pz]; exact hr) (by rw [pz]; exact hc)
        rw [pz] at hR
        exact ⟨_,_,_,hR,.inr ⟨rfl,u,rfl,(s.del 4).ae [1,0]⟩⟩
       ·skip
        refine zt rfl (af rfl rfl aG) (by simp; exact hc) ?_
        refine zk 8 rfl (WP.ret ⟨aa,_,rfl,?_⟩)
        have s:=s.drop
        have s:=fO (i:=i) (f':=ep) (v':=.bu) (s.tV.ae [2,2,0]) rfl BS J
        have e6:(I.aj.set i ep).length=I.aj.length:=bJ
        rw [←e6,←sR] at s
        have s:=(cL (π:=cW I i f)).2 ⟨bR,wh,di,s.ae [3,0,2,2]⟩
        dsimp only [bringA,getA,bf] at s
        have hR:=fE.bad (ε:=(π,μ,δ)) gx i f hq iz g1 nO hf hh BT (by rw [pz]; exact hr) (by rw [pz]; exact hc)
        rw [pz] at hR
        exact ⟨_,[],_,hR,.inl ⟨hc,rfl,(s.del 2).ae [0,1,0]⟩⟩
     ·intro jY
      have jY:f.bn<0:=by simp at jY; omega
      refine zk 6 rfl (zo rfl (dA rfl (by rw [Ez]; rfl)) ?_)
      refine zn rfl (zS rfl (s.QB (k:=0) (row':=eV ep .bu) rfl BB J hlen (by simp [eV]) rfl) ?_)
      intro h s
      dsimp only [setA] at s
      have J6:(pre++(eV ep .bu++post)).length=I.aj.length*5:=by simpa [eV] using hlen
      have sR:(cW I i f).aI=I.aI:=by simp only [cW]; rw [aq jY]
      refine zk 5 rfl (zf rfl (vr _ _) (zl rfl (s.ld (k:=3) rfl jU rfl) (zm rfl (zc rfl (Mb (n:=n) hT (s.ae [7]) C_) ?_))))
      rintro v h (⟨hr,rfl,s⟩ | ⟨hr,u,rfl,s⟩)
      ·dsimp only [bringA,getA,bf] at s
       refine zk 10 rfl (zt rfl (af rfl rfl aG) (by simp; exact hr) ?_)
       refine zk 8 rfl (WP.ret ⟨aa,_,rfl,?_⟩)
       have s:=fO (i:=i) (f':=ep) (v':=.bu) (s.tV.ae [2,2,0]) rfl BS J
       have e6:(I.aj.set i ep).length=I.aj.length:=bJ
       rw [←e6,←sR] at s
       have s:=(cL (π:=cW I i f)).2 ⟨bR,wh,di,s.ae [3,0,2,2]⟩
       have hR:=fE.read (ε:=(π,μ,δ)) gx i f hq iz g1 nO hf hh BT (by rw [pz]; exact hr)
       rw [pz] at hR
       exact ⟨_,[],_,hR,.inl ⟨hr,rfl,(s.del 2).ae [0,1,0]⟩⟩
      ·have Wa:=C_.at n
       obtain ⟨sZ,_,cap,_,rfl,_⟩:=s.fB (by omega)
       refine zk 10 rfl (zh rfl (af rfl rfl aG) (rfl) (zk 7 rfl (zc rfl (FL hT s (bz _ _) (by omega)) ?_)))
       rintro v h ⟨rfl,s⟩
       refine zk 5 rfl ?_
       by_cases hc:h_ (xX.at n)=0
       ·skip
        refine zh rfl (af rfl rfl aG) (by simp; exact hc) ?_
        have s:=s.gu.ae [2,2,0,2,2,2,2,0,0]
        refine zk 8 rfl (zo rfl (dA rfl (by rw [Ez]; rfl)) ?_)
        refine zn rfl (zS rfl (s.QB (k:=0) (row':=eV ⟨n,xX.at n,1,true,false⟩ (.sl sZ 0 (xX.at n).length cap)) rfl BB J J6 (by simp [eV]) rfl) ?_)
        intro h s
        refine zk 5 rfl (zf rfl (pX _ _) (zl rfl (s.ld (k:=3) rfl vW rfl) (zk 2 rfl (az.j6 rfl rfl (OpR.mapUpdate rfl rfl rfl rfl (nQ (f:=fun v (x:Int)=>.pu (v=.int .i64 x)) (x:=(i:Int)) (fun _ _=>aX.pu _) ((s.ae [4]).gr rfl) xM bI)) ?_))))
        intro w h s
        refine zk 4 rfl (zc rfl (v7 hT (s.ae [3]) (fe _ _) (by omega)) ?_)
        intro u h s
        refine zk 3 rfl (WP.ret ⟨aa,_,rfl,?_⟩)
        have s:=fO (i:=i) (f':=⟨n,xX.at n,1,true,false⟩) (s.ae [3,3,1]) rfl BS J
        have e6:(I.aj.set i ⟨n,xX.at n,1,true,false⟩).length=I.aj.length:=bJ
        have e7:(jd (cW I i f) i n (xX.at n)).aj=I.aj.set i ⟨n,xX.at n,1,true,false⟩:=by simp only [jd,cW,yW]
        rw [←e6,←e7,←sR] at s
        have s:=(cL (π:=jd (cW I i f) i n (xX.at n))).2 ⟨bR,wh,di,s.ae [3,0,1,1]⟩
        dsimp only [bringA,getA,bf] at s
        have hR:=fE.load (ε:=(π,μ,δ)) gx i f hq iz g1 nO hf hh BT (by rw [pz]; exact hr) (by rw [pz]; exact hc)
        rw [pz] at hR
        exact ⟨_,_,_,hR,.inr ⟨rfl,u,rfl,(s.del 4).ae [1,0]⟩⟩
       ·skip
        refine zt rfl (af rfl rfl aG) (by simp; exact hc) ?_
        refine zk 8 rfl (WP.ret ⟨aa,_,rfl,?_⟩)
        have s:=s.drop
        have s:=fO (i:=i) (f':=ep) (v':=.bu) (s.tV.ae [2,2,0]) rfl BS J
        have e6:(I.aj.set i ep).length=I.aj.length:=bJ
        rw [←e6,←sR] at s
        have s:=(cL (π:=cW I i f)).2 ⟨bR,wh,di,s.ae [3,0,2,2]⟩
        have hR:=fE.bad (ε:=(π,μ,δ)) gx i f hq iz g1 nO hf hh BT (by rw [pz]; exact hr) (by rw [pz]; exact hc)
        rw [pz] at hR
        exact ⟨_,[],_,hR,.inl ⟨hc,rfl,(s.del 2).ae [0,1,0]⟩⟩
    ·skip
     refine zt rfl (af rfl rfl aG) (by simp; exact he) ?_
     exact zk 8 rfl (WP.ret ⟨aa,_,rfl,_,[],_,.out gx i f hq iz g1 nO hf hh he,.inl ⟨he,rfl,cL.2 ⟨bR,wh,di,s⟩⟩⟩)
   ·obtain ⟨i,f,rfl,hf⟩:=J5.at g1
    have hl:=(List.getElem?_eq_some_iff.1 hf).1
    obtain ⟨pre,fv,post,J,hlen,s⟩:=iY (s.ae [1]) hf
    have nE:=OC f (a_ hf)
    have PZ:=J5.len f (a_ hf)
    refine zo rfl (iD rfl rfl g2) (zk 15 rfl (zf rfl (ke _ _) (zl rfl (s.ld (k:=3) rfl nN rfl) (zm rfl (zo rfl (cn rfl rfl (lU (i:=i) hl)) (zk 6 rfl (zf rfl (CV _ _) (zS rfl (s.stM (k:=0) (j:=3) rfl oS J hlen (by simp [eV]) rfl rfl) ?_))))))))
    intro h s
    refine zk 5 rfl (zf rfl (pY _ _) (zl rfl (s.ld (k:=0) rfl cA (iw J rfl)) (zb rfl (by exact bg (aB (by omega) (by omega))) ?_)))
    refine zn rfl (zf rfl (pY _ _) (zS rfl (s.stM (k:=0) (j:=2) rfl kA J (by simpa [eV] using hlen) (by simp [eV]) rfl rfl) ?_))
    intro h s
    have e5:((eV f fv).set 3 (.bool true)).set 2 (.int .i64 (f.pins+1))=eV { f with eC:=true,pins:=f.pins+1 } fv:=rfl
    rw [e5] at s
    refine zk 5 rfl (zf rfl (zQ _ _) (zl rfl (s.ld (k:=0) rfl cS (iw J rfl)) (zc rfl (v7 hT (s.ae [2]) (fe _ _) (by omega)) ?_)))
    intro u h s
    refine zk 3 rfl (WP.ret ⟨aa,_,rfl,?_⟩)
    have s:=fO (i:=i) (f':={ f with eC:=true,pins:=f.pins+1 }) (s.ae [2,2,1]) rfl hf J
    refine ⟨0,f.b,_,.Ay i f hq iz g1 hf,.inr ⟨rfl,u,rfl,?_⟩⟩
    have e6:(π.aj.set i { f with eC:=true,pins:=f.pins+1 }).length=π.aj.length:=bJ
    rw [←e6] at s
    exact ((cL (π:={ π with aj:=π.aj.set i { f with eC:=true,pins:=f.pins+1 } })).2 ⟨bR,wh,di,s.ae [2,0,1,1]⟩).ae [1,0]
end
def BU : Fm:=⟨0,[],0,false,false⟩
def Pl.fresh (n:Nat): Pl:=⟨List.replicate n ep,[],[],0⟩
theorem RW : ∃i,Tryz.prog.info? 193=some i∧i.size=5∧i.bytes=48 :=
 ⟨_,(show Tryz.prog.info? 193=some ((Tryz.prog.info? 193).getD default) by kernel_rfl),by kernel_rfl,by kernel_rfl⟩
theorem OE {a b:PM}: ∀n:Nat,(th (repeatL [.int .i64 0,.bu,.int .i64 0,.bool false,.bool false] n) (List.replicate n BU)).p a b:=by
 intro n
 induction n with
 | zero=>trivial
 | succ n I=>exact ⟨⟨⟨rfl,rfl,rfl,rfl⟩,⟨(by intro b J; cases J),.inl ⟨.inl rfl,rfl⟩⟩⟩,I⟩
section
variable {told:cZ} {h:H} {S:List au} {X:au} {r k q p bR:Nat} {v x wh di:V} {l b:List Nat} {π:Pl} {m:List Fm} {μ:Lg} {δ:Dk}
noncomputable def pnL : Code:=cV [1,1,1,0,1,0,0] ((Tryz.f81.body).getD .skip)
theorem Mg {n:Nat}(hn:n<4294967296): ∀(j i:Nat) (m:List Fm) (h:H) (E:List (Nat×V)) (Q:Ex→List (Nat×V)→H→Prop),i+j=n→m=List.replicate i ep++List.replicate j BU →
  Sat h (pt r (.cells 6 (o5 p q bR n wh di 0) false)::dZ bR m::S)→Has E [(8,.ptr r 0),(28,.int .i64 n),(29,.int .i64 i)] →
  (∀E' h',Has E' [(8,.ptr r 0)]→Sat h' (pt r (.cells 6 (o5 p q bR n wh di 0) false)::dZ bR (List.replicate n ep)::S)→Q (.exit 0) E' h')→WP ⟨Tryz.prog,told⟩ 41 (.loop pnL) E h Q:=by
 intro j
 induction j with
 | zero =>
  intro i m h E Q hi hm s J hx
  refine WP.loop (WP.has J (zg rfl (zh rfl (af rfl rfl aK) (by simp <;> omega) ?_)))
  refine zk 3 rfl (WP.exit (hx _ _ ⟨rfl,aa⟩ ?_))
  rw [hm] at s
  have:i=n:=by omega
  subst this
  simpa using s
 | succ j ih =>
  intro i m h E Q hi hm s J hx
  have QC:m.length=n:=by rw [hm]; simp; omega
  have hf:m[i]?=some BU:=by rw [hm,me (by simp)]; simp [uH]
  obtain ⟨pre,fv,post,I,hlen,s⟩:=iY (s.ae [1]) hf
  dsimp only [bringA,getA,bf] at s
  refine WP.loop (WP.has J (zg rfl (zt rfl (af rfl rfl aK) (by simp <;> omega) ?_)))
  refine zk 5 rfl (WP.block (zK 8 rfl (zf rfl (ke _ _) (zl rfl (s.ld (k:=3) rfl nN rfl) (zm rfl (zo rfl (cn rfl rfl (lU (i:=i) (by omega))) ?_))))))
  refine zf rfl (oA _ _) (zS rfl (s.stM (k:=0) (j:=0) rfl kA I hlen (by simp [eV]) rfl rfl) ?_)
  intro h s
  dsimp only [setA] at s
  have e5:(eV BU fv).set 0 (.int .i64 (-1))=eV ep fv:=rfl
  rw [e5] at s
  refine zv (zr rfl (zb rfl (by exact bg (aB (by omega) (by omega))) ?_))
  refine zm rfl (zv ?_)
  have s:=fO (i:=i) (f':=ep) s rfl hf I
  refine ih (i+1) (m.set i ep) h _ Q (by omega) ?_ (s.ae [1,0]) ⟨rfl,rfl,rfl,aa⟩ hx
  rw [hm,List.set_append_right _ _ (by simp),cY,uW,uH,List.set_cons_zero,List.replicate_succ',gS]
  rfl
theorem RX (hT:W told){n:Int}(s:Sat h S): Call ⟨Tryz.prog,told⟩ 81 [.ptr p 0,.ptr q 0,.int .i64 n] h fun v h' =>
  (¬(1≤n∧n≤1024)∧v=.aY [.b7,.int .i64 1]∧Sat h' S)∨(1≤n∧n≤1024∧∃r,v=.aY [.ptr r 0,.int .i64 0]∧Sat h' (cK r p q (Pl.fresh n.toNat)::S)):=by
 refine Call.of_wp (hT.free _ rfl) Tryz.func81 rfl rfl (zK 9 rfl ?_)
 refine zd rfl (af rfl rfl aK) ?_ ?_
 ·intro J
  have J:n<1:=by simpa using J
  exact zk 11 rfl (WP.ret ⟨aa,_,rfl,.inl ⟨fun q=>by omega,rfl,s⟩⟩)
 ·intro J
  have J:1≤n:=by simp at J; omega
  refine zk 2 rfl ?_
  refine zd rfl (af rfl rfl er) ?_ ?_
  ·intro I
   have I:1024<n:=by simpa using I
   exact zk 8 rfl (WP.ret ⟨aa,_,rfl,.inl ⟨fun q=>by omega,rfl,s⟩⟩)
  ·intro I
   have I:n≤1024:=by simp at I; omega
   obtain ⟨n,rfl⟩:∃k:Nat,n=k:=⟨n.toNat,by omega⟩
   refine zk 9 rfl ?_
   obtain ⟨i1,jk,iE,tY⟩:=RW
   obtain ⟨id,h1,e1,s1⟩:=DH (P:=Tryz.prog) s xV jk VV iE (by omega) rfl (by decide) (n:=n) (by omega)
   refine az.any rfl rfl rfl (OpR.of (R:=fun v h'=>v=.sl id 0 n (.exact n)∧h'=h1) (ry rfl rfl e1) ⟨rfl,rfl⟩) ?_
   rintro v h ⟨rfl,rfl⟩
   have s:Sat h (dZ id (List.replicate n BU)::S):=jG.2 ⟨_,by rw [cY]; exact ((s1.gr (φ:=True) aa).iU fun a b _=>OE n).ae [1]⟩
   refine az.CN s rfl rfl rfl rfl (fun p20 h s => ?_)
   refine az.CN s rfl rfl rfl rfl (fun Xm h s => ?_)
   refine zo rfl (dA rfl (by rw [VT]; rfl)) ?_
   refine az.cz s rfl rfl rfl (fc rfl rfl) (fun p23 h s => ?_)
   refine zk 7 rfl (zf rfl (ke _ _) (zl rfl (s.ld (k:=0) rfl nN rfl) (zo rfl (aT rfl rfl rfl (pZ rfl xV)) (zk 2 rfl (WP.block ?_)))))
   have s:=sY (f:=fun v (x:Nat×Bool)=>.pu (v=.agg [.int .u64 (x.1:Int),.bool x.2])) (s.ae [1])
   have s:=sY (f:=fun v (x:Int)=>.pu (v=.int .i64 x)) (s.ae [2])
   have s:=s.ae [2,2,0,0]
   refine Mg (n:=n) (by omega) n 0 _ _ _ _ (by omega) rfl s ⟨rfl,rfl,rfl,aa⟩ (fun E' h' jl s' => ?_)
   refine WP.has jl (zK 6 rfl (WP.ret ⟨aa,_,rfl,?_⟩))
   refine .inr ⟨J,I,_,rfl,(cL (π:=Pl.fresh n)).2 ⟨id,.map p20,.map Xm,?_⟩⟩
   have e6:(Pl.fresh n).aj.length=n:=by simp [Pl.fresh]
   rw [e6]
   exact s'
end
theorem Mh {c:Nat}: ∀ {l:cE} {b:Nat},gv c b l→bornUp c b (l.map eG)=true:=by
 intro l
 induction l with
 | nil=>intro b _; rfl
 | cons e l I =>
  intro b h
  obtain ⟨J,h2,h3⟩:=h
  simp only [bQ,eG,bornUp]
  rw [show (Nat.ble b e.2.2&&Nat.blt e.2.2 c)=true by rw [aJ,aF]; exact ⟨J,by rw [Nat.blt]; exact aF.2 h2⟩,ag]
  exact I h3
theorem J7 : ∀ {l:cE},(∀e∈l,(Lit.int .i64 e.1).wf=true)→keyInts (l.map eG)=some (l.map (·.1)):=by
 intro l
 induction l with
 | nil=>intro _; rfl
 | cons e l I =>
  intro h
  simp only [bQ,eG,keyInts]
  rw [h e ct,ag]
  have:=I (fun e he=>h e (b6 _ he))
  rw [this]
theorem Ht {x:Int}: ∀ {l:List Int},l.Pairwise (· < ·)→x∉l→(insI x l).Pairwise (· < ·):=by
 intro l
 induction l with
 | nil=>intro _ _; simp [insI]
 | cons y l ih =>
  intro h hx
  simp only [pI,ij,not_or] at h hx
  simp only [insI]
  by_cases J:x≤y
  ·rw [dX J,ag]
   have:x<y:=by omega
   simp only [pI,ij]
   refine ⟨fun z I => ?_,h⟩
   rcases I with rfl | I
   ·exact this
   ·have:=h.1 z I; omega
  ·rw [eA J,ay]
   simp only [pI]
   refine ⟨fun z I => ?_,ih h.2 hx.2⟩
   have:=(xK x l).mem_iff.1 I
   rcases List.mem_cons.1 this with rfl | I
   ·omega
   ·exact h.1 z I
theorem Hu : ∀ {l:List Int},l.Nodup→(mF l).Pairwise (· < ·):=by
 intro l
 induction l with
 | nil=>intro _; exact List.Pairwise.nil
 | cons x l I =>
  intro h
  simp only [k8] at h
  exact Ht (I h.2) (fun J=>h.1 ((e_ l).mem_iff.1 J))
theorem OF : ∀ {l:List Int},l.Pairwise (· < ·)→qB l=true:=by
 intro l
 induction l with
 | nil=>intro _; rfl
 | cons x l I =>
  intro h
  simp only [pI] at h
  simp only [qB,aJ,m9,eu]
  exact ⟨h.1,I h.2⟩
section
variable {α:Type} {f:V→α→au} {told:cZ} {h:H} {S:List au} {mv:V} {m:List (Int×α)} {b g:Nat}
theorem OG (I:W told){id:Nat}(s:Sat h S): Call ⟨Tryz.prog,told⟩ 143 [.map id] h fun v h'=>∃b,v=.fn (.func 174) [] [.ptr b 0]∧Sat h' (pt b (.cells 1 [.map id] false)::S):=by
 refine Call.of_wp (I.free _ rfl) Tryz.func143 rfl rfl (zg rfl ?_)
 refine az.cz s rfl rfl rfl (fc rfl rfl) (fun J h s => ?_)
 exact zk 4 rfl (zo rfl (Et rfl rfl) (zk 2 rfl (WP.ret ⟨aa,_,rfl,_,rfl,s⟩)))
theorem OH (I:W told){id:Nat}(s:Sat h S): Call ⟨Tryz.prog,told⟩ 147 [.map id] h fun v h'=>∃b,v=.fn (.func 175) [] [.ptr b 0]∧Sat h' (pt b (.cells 1 [.map id] false)::S):=by
 refine Call.of_wp (I.free _ rfl) Tryz.func147 rfl rfl (zg rfl ?_)
 refine az.cz s rfl rfl rfl (fc rfl rfl) (fun J h s => ?_)
 exact zk 4 rfl (zo rfl (Et rfl rfl) (zk 2 rfl (WP.ret ⟨aa,_,rfl,_,rfl,s⟩)))
def bw (m:List (Int×α)): List Int:=mF (m.map (·.1))
theorem oF {m:List (Int×α)}{n:Int}: n∈bw m↔n∈m.map (·.1):=(e_ _).mem_iff
theorem OI (l:List Int): (eT l).all storable=true:=by simp [eT,storable]
theorem qH (hT:W told)(s:Sat h (pt b (.cells 1 [mv] false)::jV f mv m::S))(hg:vD zT g=true)(hm:m.length≤1048576)(hk:∀n∈m.map (·.1),(Lit.int .i64 n).wf=true):
  Call ⟨Tryz.prog,told⟩ 61 [.fn (.func g) [] [.ptr b 0]] h fun v h'=>Sat h' (.arr 1 v (eT (bw m))::pt b (.cells 1 [mv] false)::jV f mv m::S):=by
 obtain ⟨id,l,c,rfl,hb,hn,s1⟩:=ej.1 (s.ae [1])
 have s1:Sat h (gQ id l c::eM f l m::pt b (.cells 1 [.map id] false)::S):=s1
 obtain ⟨q1,q2,q3,q4,q5⟩:=s1.at (k:=1) rfl
 have I:=rA q5
 have hlen:l.length=m.length:=by have:=fQ List.length I; simpa using this
 have pR:=s1.row (k:=0) rfl
 have Yx:=s1.row (k:=2) rfl
 have iS:∀e∈l,(Lit.int .i64 e.1).wf=true:=fun e he=>hk e.1 (by rw [←I]; exact m7 he)
 have hri:qB (mF (l.map (·.1)))=true:=OF (Hu (by rw [I]; exact hn))
 have J:∃v h',toldSorted zT [.fn (.func g) [] [.ptr b 0]] h=some (v,h')∧Sat h' (.arr 1 v (eT (bw m))::pt b (.cells 1 [.map id] false)::jV f (.map id) m::S):=by
  simp only [toldSorted,Yx,pR,dF,hg,Mh hb,J7 iS,hri]
  rw [show (Nat.beq 1 1&&true&&true&&Nat.ble l.length 1048576)=true by rw [aF.2 (by omega)]; rfl,ag]
  simp only [ag]
  cases hl:l.map (·.1) with
  | nil =>
   refine ⟨_,_,rfl,?_⟩
   have:bw m=[]:=by rw [bw,←I,hl]; rfl
   rw [this]
   exact s.nI
  | cons x xs =>
   refine ⟨_,_,rfl,?_⟩
   have e1:bw m=mF (x::xs):=by rw [bw,←I,hl]
   have e2:(mF (x::xs)).length=(x::xs).length:=(e_ _).length_eq
   have e3:(x::xs).length=l.length:=by rw [←hl,dF]
   rw [e1,←e3]
   refine (s.new (.cells (eT (mF (x::xs))).length (eT (mF (x::xs))) false)).iU fun a r wN=>⟨OI _,.inr ⟨h.next,(x::xs).length,.rest 1 0,(eT (mF (x::xs))).length,[],rfl,?_,?_,by simp,rfl,rfl,rfl,rfl,by simp⟩⟩
   ·rw [gz]; exact wN
   ·simp only [eT,dF,e2,cx]
 obtain ⟨v,h',e1,e2⟩:=J
 exact ⟨v,h',gF.told hT.sorted Tryz.func61 rfl e1,e2⟩
end
end Go.Proofs.YtefepnnfphdkpaaGreat.Am
