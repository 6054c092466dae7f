/- SpaceRoots: a part of its proof; conditions: its statement's. -/
import Derived.Test.YtefepnnfphdkpaaGreatF22
namespace Go.Proofs.YtefepnnfphdkpaaGreat.Am
open Go
structure Pl.Ok (π:Pl): Prop where
 hand:π.hand<π.ak.length
 many:π.ak.length≤1024
 bM:∀e∈π.bM,0≤e.2∧e.2<π.ak.length
 len:∀f∈π.ak,f.b.length≤512
 pins:∀f∈π.ak,0≤f.pins∧f.pins≤4294967296
theorem Pl.Ok.at {π:Pl}(h:π.Ok){n i:Int}(J:lookL n π.bM=some i): ∃(k:Nat) (f:Fm),i=k∧π.ak[k]?=some f:=by
 have I:=h.bM _ (gU J)
 exact ⟨i.toNat,π.ak[i.toNat]'(by have:=I.2; simp only at this; omega),by have:=I.1; simp only at this; omega,bf _⟩
def heldI (π:Pl)(n:Int): Option Nat:=match lookL n π.bM with
 | none=>none
 | some i=>match π.ak[i.toNat]? with
  | none=>none
  | some f=>if f.pins=0 then none else some i.toNat
def unpinF (π:Pl)(n:Int): Int×Pl:=match heldI π n with
 | none=>(18,π)
 | some i=>match π.ak[i]? with
  | none=>(18,π)
  | some f=>(0,{ π with ak:=π.ak.set i { f with pins:=f.pins-1 } })
def fQ (π:Pl)(n:Int)(aK:Nat): Nat:=match lookL n π.bI with
 | some x=>x.1
 | none=>aK
def lD (π:Pl)(n:Int)(b:List Nat)(aK:Nat): Int×Pl:=match heldI π n with
 | none=>(18,π)
 | some i=>match π.ak[i]? with
  | none=>(18,π)
  | some f=>if b7 b=false then (4,π) else (0,{ π with ak:=π.ak.set i { f with b:=cM b aK,changed:=true },bI:=cB n (fQ π n aK,true) π.bI })
section
variable {told:cQ} {h:H} {S:List au} {X:au} {r k q p ct:Nat} {v x wh di:V} {l b:List Nat} {π:Pl} {m:List Fm} {μ:Lg} {δ:Dk}
theorem KY {n:Int}{j:Nat}(s:Sat h (H7 wh π.bM::S)): (lookL n π.bM=none∧eV Tryz.prog h 186 wh (.int .i64 n) true=some (.bj [.int .i64 0,.bool false])) ∨
  ∃i,lookL n π.bM=some i∧eV Tryz.prog h 186 wh (.int .i64 n) true=some (.bj [.int .i64 i,.bool true]):=by
 rcases mz (f:=fun v (x:Int)=>.pu (v=.int .i64 x)) (n:=n) (fun _ _=>aW.pu _) s zG bD C2 with ⟨I,J,_⟩ | ⟨u,i,I,J,_,s'⟩
 ·exact .inl ⟨I,J⟩
 ·obtain ⟨rfl,_⟩:=eo.1 s'
  exact .inr ⟨i,I,J⟩
theorem KZ {n:Int}(s:Sat h (KX di π.bI::S)): (lookL n π.bI=none∧eV Tryz.prog h 187 di (.int .i64 n) true=some (.bj [.agg [.int .u64 0,.bool false],.bool false])∧eV Tryz.prog h 187 di (.int .i64 n) false=some (.agg [.int .u64 0,.bool false])) ∨
  ∃x,lookL n π.bI=some x∧eV Tryz.prog h 187 di (.int .i64 n) true=some (.bj [.agg [.int .u64 (x.1:Int),.bool x.2],.bool true])∧eV Tryz.prog h 187 di (.int .i64 n) false=some (.agg [.int .u64 (x.1:Int),.bool x.2]):=by
 rcases mz (f:=fun v (x:Nat×Bool)=>.pu (v=.agg [.int .u64 (x.1:Int),.bool x.2])) (n:=n) (fun _ _=>aW.pu _) s wI bD A3 with ⟨I,J,g3⟩ | ⟨u,x,I,J,g3,s'⟩
 ·exact .inl ⟨I,J,g3⟩
 ·obtain ⟨rfl,_⟩:=eo.1 s'
  exact .inr ⟨x,I,J,g3⟩
theorem K0 (hT:W told){n:Int}(s:Sat h (pt r (.cells 6 (qj p q ct π.ak.length wh di π.hand) false)::eN ct π.ak::H7 wh π.bM::S))(My:π.Ok):
  Call ⟨Tryz.prog,told⟩ 126 [.ptr r 0,.int .i64 n] h fun v h'=>h'=h∧((heldI π n=none∧v=.bj [.cu,.int .i64 18])∨∃(i:Nat) (f:Fm),heldI π n=some i∧π.ak[i]?=some f∧v=.bj [.ptr ct (i*5),.int .i64 0]):=by
 refine Call.of_wp (hT.free _ rfl) Tryz.func126 rfl rfl (zK 9 rfl (zf rfl (wG _ _) (zl rfl (s.ld (k:=0) rfl C5 rfl) (zm rfl ?_))))
 rcases KY (n:=n) (j:=0) (s.ae [2]) with ⟨g1,g2⟩ | ⟨i,g1,g2⟩
 ·refine aA.op rfl rfl rfl (iJ rfl rfl g2) ?_
  exact zk 10 rfl (zt rfl (eD rfl rfl) (rfl) (zk 18 rfl (WP.ret ⟨aa,_,rfl,rfl,.inl ⟨by simp only [heldI,g1],rfl⟩⟩)))
 ·obtain ⟨i,f,rfl,hf⟩:=My.at g1
  have hl:=(List.getElem?_eq_some_iff.1 hf).1
  have hh:heldI π n=if f.pins=0 then none else some i:=by simp only [heldI,g1,b9,hf]
  obtain ⟨pre,fv,post,J,hlen,s'⟩:=jx (s.ae [1]) hf
  refine zo rfl (iJ rfl rfl g2) (zk 10 rfl (zh rfl (eD rfl rfl) (rfl) (zk 3 rfl (zf rfl (l8 _ _) (zl rfl (s.ld (k:=0) rfl qd rfl) (zm rfl (zo rfl (dr rfl rfl (nH (i:=i) hl)) (zf rfl (rj _ _) (zl rfl (s'.ld (k:=0) rfl dL (iY J rfl)) ?_)))))))))
  refine zd rfl (af rfl rfl eA) ?_ ?_
  ·intro I
   have I:f.pins=0:=by simpa using I
   exact zk 8 rfl (WP.ret ⟨aa,_,rfl,rfl,.inl ⟨by rw [hh,aj I],rfl⟩⟩)
  ·intro I
   have I:f.pins≠0:=by simpa using I
   exact zk 8 rfl (zf rfl (l8 _ _) (zl rfl (s.ld (k:=0) rfl qd rfl) (zm rfl (zo rfl (dr rfl rfl (nH (i:=i) hl)) (zk 3 rfl (WP.ret ⟨aa,_,rfl,rfl,.inr ⟨i,f,by rw [hh,ah I],hf,rfl⟩⟩))))))
theorem H8 (hT:W told){n:Int}(s:Sat h (eF r p q π::S))(J:π.Ok):
  Call ⟨Tryz.prog,told⟩ 65 [.ptr r 0,.int .i64 n] h fun v h'=>v=.int .i64 (unpinF π n).1∧Sat h' (eF r p q (unpinF π n).2::S):=by
 have s0:=s
 obtain ⟨ct,wh,di,s⟩:=fM.1 s
 refine Call.of_wp (hT.free _ rfl) Tryz.func65 rfl rfl (zK 8 rfl (zc rfl (K0 (n:=n) hT s J) ?_))
 rintro v h' ⟨rfl,(⟨hh,rfl⟩ | ⟨i,f,hh,hf,rfl⟩)⟩
 ·have he:unpinF π n=(18,π):=by simp only [unpinF,hh]
  rw [he]
  exact zk 10 rfl (zt rfl (af rfl rfl aN) (rfl) (zk 7 rfl (WP.ret ⟨aa,_,rfl,rfl,s0⟩)))
 ·have he:unpinF π n=(0,{ π with ak:=π.ak.set i { f with pins:=f.pins-1 } }):=by simp only [unpinF,hh,hf]
  rw [he]
  obtain ⟨pre,fv,post,I,hlen,s⟩:=jx (s.ae [1]) hf
  have Rj:=J.pins f (bC hf)
  refine zk 10 rfl (zh rfl (af rfl rfl aN) (rfl) (zk 7 rfl (zf rfl (rj _ _) (zl rfl (s.ld (k:=0) rfl dL (iY I rfl)) (zb rfl (by exact jE (aC (by omega) (by omega))) ?_)))))
  refine zn rfl (zf rfl (rj _ _) (zS rfl (s.stM (k:=0) (j:=2) rfl kW I hlen (by simp [fE]) rfl rfl) ?_))
  intro h s
  have e5:(fE f fv).set 2 (.int .i64 (f.pins-1))=fE { f with pins:=f.pins-1 } fv:=rfl
  rw [e5] at s
  refine zk 5 rfl (WP.ret ⟨aa,_,rfl,?_⟩)
  refine ⟨rfl,fM.2 ⟨ct,wh,di,?_⟩⟩
  have s:=gF (i:=i) (f':={ f with pins:=f.pins-1 }) s rfl hf I
  rw [bW]
  exact s.ae [1,0]
theorem UO (hT:W told){n:Int}{aK:Nat}{bv:V}(s:Sat h (eF r p q π::X::S))(hX:cT X (cU bv b))(My:π.Ok)(hb:b.length<9223372036854775808):
  Call ⟨Tryz.prog,told⟩ 64 [.ptr r 0,.int .i64 n,bv,.int .u64 (aK:Int)] h fun v h'=>v=.int .i64 (lD π n b aK).1∧Sat h' (eF r p q (lD π n b aK).2::X::S):=by
 have s0:=s
 obtain ⟨ct,wh,di,s⟩:=fM.1 s
 refine Call.of_wp (hT.free _ rfl) Tryz.func64 rfl rfl (zK 8 rfl (zc rfl (K0 (n:=n) hT s My) ?_))
 rintro v h' ⟨rfl,(⟨hh,rfl⟩ | ⟨i,f,hh,hf,rfl⟩)⟩
 ·have he:lD π n b aK=(18,π):=by simp only [lD,hh]
  rw [he]
  exact zk 10 rfl (zt rfl (af rfl rfl aN) (rfl) (zk 7 rfl (WP.ret ⟨aa,_,rfl,rfl,s0⟩)))
 ·have he:lD π n b aK=(if b7 b=false then (4,π) else (0,{ π with ak:=π.ak.set i { f with b:=cM b aK,changed:=true },bI:=cB n (fQ π n aK,true) π.bI })):=by simp only [lD,hh,hf]
  rw [he]
  refine zk 10 rfl (zh rfl (af rfl rfl aN) (rfl) (zk 7 rfl (zc rfl (KQ (n:=aK) hT (s.ae [4]) hX hb) ?_)))
  rintro v h (⟨hg,u,rfl,s⟩ | ⟨hg,rfl,s⟩)
  ·rw [ah (by rw [hg]; decide)]
   have zW:(cM b aK).length=512:=by
    have h1:=xD (n:=aK) (eX hg)
    rw [cM,cz (by rw [cy]; omega),h1]
   obtain ⟨J,_,cap,_,rfl,_⟩:=s.fI (by omega)
   have s:=s.fU
   obtain ⟨pre,fv,post,I,hlen,s⟩:=jx (s.ae [3]) hf
   refine zk 10 rfl (zh rfl (af rfl rfl aN) (rfl) (zk 9 rfl (zf rfl (A0 _ _) (zS rfl (s.stM (k:=0) (j:=1) rfl gR I hlen (by simp [fE]) rfl rfl) ?_))))
   intro h s
   refine zn rfl (zf rfl (EJ _ _) (zS rfl (s.stM (k:=0) (j:=4) rfl uf I (by simpa [fE] using hlen) (by simp [fE]) rfl rfl) ?_))
   intro h s
   have e5:((fE f fv).set 1 (.sl J 0 (cM b aK).length cap)).set 4 (.bool true)=fE { f with b:=cM b aK,changed:=true } (.sl J 0 (cM b aK).length cap):=rfl
   rw [e5] at s
   have s:=gF (i:=i) (f':={ f with b:=cM b aK,changed:=true }) (s.ae [0,0,1]) rfl hf I
   have s:=s.ae [3,4,0]
   refine zk 5 rfl (zf rfl (tE _ _) (zl rfl (s.ld (k:=0) rfl AY rfl) (zm rfl ?_)))
   rcases KZ (n:=n) (s.ae [1]) with ⟨g1,g2,_⟩ | ⟨x,g1,g2,_⟩
   ·refine aA.op rfl rfl rfl (iJ rfl rfl g2) ?_
    refine zk 3 rfl ?_
    refine aA.b5 s rfl rfl rfl (bX A3) (fun W_ h s => ?_)
    refine zS rfl (s.eH (j:=0) rfl A2 rfl rfl) (fun h s => ?_)
    refine zk 6 rfl (zo rfl (eD rfl rfl) (zk 4 rfl (zf rfl (EK _ _) ?_)))
    refine zS rfl (by exact s.ey (k:=0) rfl vy rfl (by decide) rfl rfl) (fun h s => ?_)
    refine zk 3 rfl (zf rfl (KJ _ _) ?_)
    refine zS rfl (by exact s.ey (k:=0) rfl uf rfl (by decide) rfl rfl) (fun h s => ?_)
    refine zk 2 rfl (WP.drawn [ai,ai,ai,ai,ai,ai,ai] rfl (by kernel_rfl) (by kernel_rfl) ?_)
    refine zM rfl (zN rfl (zF rfl (tE _ _) (zL rfl (s.ld (k:=1) rfl AY rfl) (zM rfl (zL rfl (s.cA (k:=0) rfl Tj A2) (aB.i_ rfl rfl rfl (OpR.mapUpdate rfl rfl rfl rfl (oR (f:=fun v (x:Nat×Bool)=>.pu (v=.agg [.int .u64 (x.1:Int),.bool x.2])) (x:=(aK,true)) (fun _ _=>aW.pu _) ((s.ae [2]).gA rfl) wI bD)) ?_))))))
    intro w h s
    refine aB.nil ⟨⟨aa,aa,aa,aa,aa,aa,aa,aa⟩,?_⟩
    refine zK 4 rfl (WP.ret ⟨aa,_,rfl,?_⟩)
    have ed:fQ π n aK=aK:=by simp only [fQ,g1]
    rw [ed]
    refine ⟨rfl,fM.2 ⟨ct,wh,di,?_⟩⟩
    have e6:(π.ak.set i { f with b:=cM b aK,changed:=true }).length=π.ak.length:=bW
    show Sat h (pt r (.cells 6 (qj p q ct (π.ak.set i { f with b:=cM b aK,changed:=true }).length wh di π.hand) false)::_)
    rw [e6]
    exact ((s.ae [2,2,4,0,2]).del 6).del 5
   ·skip
    refine zo rfl (iJ rfl rfl g2) (zk 3 rfl ?_)
    refine aA.b5 s rfl rfl rfl (bX A3) (fun W_ h s => ?_)
    refine zS rfl (s.eH (j:=0) rfl A2 rfl rfl) (fun h s => ?_)
    refine zk 6 rfl (zo rfl (eD rfl rfl) (zk 5 rfl (zf rfl (KJ _ _) ?_)))
    refine zS rfl (by exact s.ey (k:=0) rfl uf rfl (by decide) rfl rfl) (fun h s => ?_)
    refine zk 2 rfl (WP.drawn [ai,ai,ai,ai,ai,ai,ai] rfl (by kernel_rfl) (by kernel_rfl) ?_)
    refine zM rfl (zN rfl (zF rfl (tE _ _) (zL rfl (s.ld (k:=1) rfl AY rfl) (zM rfl (zL rfl (s.cA (k:=0) rfl Tj A2) (aB.i_ rfl rfl rfl (OpR.mapUpdate rfl rfl rfl rfl (oR (f:=fun v (x:Nat×Bool)=>.pu (v=.agg [.int .u64 (x.1:Int),.bool x.2])) (x:=(x.1,true)) (fun _ _=>aW.pu _) ((s.ae [2]).gA rfl) wI bD)) ?_))))))
    intro w h s
    refine aB.nil ⟨⟨aa,aa,aa,aa,aa,aa,aa,aa⟩,?_⟩
    refine zK 4 rfl (WP.ret ⟨aa,_,rfl,?_⟩)
    have ed:fQ π n aK=x.1:=by simp only [fQ,g1]
    rw [ed]
    refine ⟨rfl,fM.2 ⟨ct,wh,di,?_⟩⟩
    have e6:(π.ak.set i { f with b:=cM b aK,changed:=true }).length=π.ak.length:=bW
    show Sat h (pt r (.cells 6 (qj p q ct (π.ak.set i { f with b:=cM b aK,changed:=true }).length wh di π.hand) false)::_)
    rw [e6]
    exact ((s.ae [2,2,4,0,2]).del 6).del 5
  ·rw [aj hg]
   exact zk 10 rfl (zt rfl (af rfl rfl aN) (rfl) (zk 7 rfl (WP.ret ⟨aa,_,rfl,rfl,fM.2 ⟨ct,wh,di,s.ae [1,1,1,1,0]⟩⟩)))
theorem Xa (hT:W told){n:Int}(s:Sat h (eF r p q π::S)): Call ⟨Tryz.prog,told⟩ 114 [.ptr r 0,.int .i64 n] h fun v h'=>v=.bj [.int .u64 (fQ π n 0:Nat),.bool (lookL n π.bI).isSome]∧Sat h' (eF r p q π::S):=by
 obtain ⟨ct,wh,di,s⟩:=fM.1 s
 refine Call.of_wp (hT.free _ rfl) Tryz.func114 rfl rfl (zK 9 rfl (zf rfl (tE _ _) (zl rfl (s.ld (k:=0) rfl AY rfl) (zm rfl ?_))))
 rcases KZ (n:=n) (s.ae [3]) with ⟨I,J,_⟩ | ⟨x,I,J,_⟩
 ·refine aA.op rfl rfl rfl (iJ rfl rfl J) ?_
  refine zk 3 rfl ?_
  refine aA.b5 s rfl rfl rfl (bX A3) (fun p6 h s => ?_)
  refine zS rfl (s.eH (j:=0) rfl A2 rfl rfl) (fun h s => ?_)
  exact zk 4 rfl (zf rfl (EK _ _) (zl rfl (s.ld (k:=0) rfl lZ rfl) (zk 4 rfl (WP.ret ⟨aa,_,rfl,by simp only [fQ,I]; rfl,fM.2 ⟨ct,wh,di,s.drop⟩⟩))))
 ·skip
  refine zo rfl (iJ rfl rfl J) (zk 3 rfl ?_)
  refine aA.b5 s rfl rfl rfl (bX A3) (fun p6 h s => ?_)
  refine zS rfl (s.eH (j:=0) rfl A2 rfl rfl) (fun h s => ?_)
  exact zk 4 rfl (zf rfl (EK _ _) (zl rfl (s.ld (k:=0) rfl lZ rfl) (zk 4 rfl (WP.ret ⟨aa,_,rfl,by simp only [fQ,I]; rfl,fM.2 ⟨ct,wh,di,s.drop⟩⟩))))
def eR : Fm:=⟨-1,[],0,false,false⟩
def dF (π:Pl)(i:Nat)(f:Fm): Pl:={ π with ak:=π.ak.set i eR,bM:=if f.aL<0 then π.bM else m_ f.aL π.bM }
def jI (π:Pl)(i:Nat)(n:Int)(b:List Nat): Pl:={ π with ak:=π.ak.set i ⟨n,b,1,true,false⟩,bM:=cB n (i:Int) π.bM }
inductive fY (ε:aI)(n:Int): Int→List Nat→aI→Prop where
 | arg (h:¬(0≤n∧n<ε.2.2.ax.length)):fY ε n 1 [] ε
 | Dj (i:Nat) (f:Fm) (h1:0≤n) (h2:n<ε.2.2.ax.length) (hl:lookL n ε.1.bM=some (i:Int)) (hf:ε.1.ak[i]?=some f):fY ε n 0 f.b ({ ε.1 with ak:=ε.1.ak.set i { f with eY:=true,pins:=f.pins+1 } },ε.2)
 | out (gV:Pl) (i:Nat) (f:Fm) (h1:0≤n) (h2:n<ε.2.2.ax.length) (hl:lookL n ε.1.bM=none) (hn:fX ε.1 gV) (hf:gV.ak[i]?=some f) (hh:gV.hand<gV.ak.length) (he:(outF (gV,ε.2) i).1≠0):fY ε n (outF (gV,ε.2) i).1 [] (outF (gV,ε.2) i).2
 | read (gV:Pl) (i:Nat) (f:Fm) (h1:0≤n) (h2:n<ε.2.2.ax.length) (hl:lookL n ε.1.bM=none) (hn:fX ε.1 gV) (hf:gV.ak[i]?=some f) (hh:gV.hand<gV.ak.length) (he:(outF (gV,ε.2) i).1=0)
   (hr:(outF (gV,ε.2) i).2.2.2.rK n≠0):fY ε n ((outF (gV,ε.2) i).2.2.2.rK n) [] (dF (outF (gV,ε.2) i).2.1 i f,(outF (gV,ε.2) i).2.2)
 | bad (gV:Pl) (i:Nat) (f:Fm) (h1:0≤n) (h2:n<ε.2.2.ax.length) (hl:lookL n ε.1.bM=none) (hn:fX ε.1 gV) (hf:gV.ak[i]?=some f) (hh:gV.hand<gV.ak.length) (he:(outF (gV,ε.2) i).1=0)
   (hr:(outF (gV,ε.2) i).2.2.2.rK n=0) (hc:gr ((outF (gV,ε.2) i).2.2.2.at n)≠0):fY ε n (gr ((outF (gV,ε.2) i).2.2.2.at n)) [] (dF (outF (gV,ε.2) i).2.1 i f,(outF (gV,ε.2) i).2.2)
 | load (gV:Pl) (i:Nat) (f:Fm) (h1:0≤n) (h2:n<ε.2.2.ax.length) (hl:lookL n ε.1.bM=none) (hn:fX ε.1 gV) (hf:gV.ak[i]?=some f) (hh:gV.hand<gV.ak.length) (he:(outF (gV,ε.2) i).1=0)
   (hr:(outF (gV,ε.2) i).2.2.2.rK n=0) (hc:gr ((outF (gV,ε.2) i).2.2.2.at n)=0):fY ε n 0 ((outF (gV,ε.2) i).2.2.2.at n) (jI (dF (outF (gV,ε.2) i).2.1 i f) i n ((outF (gV,ε.2) i).2.2.2.at n),(outF (gV,ε.2) i).2.2)
theorem B7 {ε:aI}{i:Nat}(h:ε.2.2.Ok): (outF ε i).2.2.2.Ok:=by
 unfold outF
 split
 ·exact h
 ·split
  ·exact h
  ·split
   ·exact h
   ·split
    ·exact qi h
    ·split
     ·exact (qi h).bK
     ·exact (qi h).bK
theorem Rl {ε:aI}{i:Nat}(h:ε.2.1.Ok): (outF ε i).2.2.1.Ok:=by
 unfold outF
 split
 ·exact h
 ·split
  ·exact h
  ·split
   ·exact h
   ·split
    ·exact vB h
    ·split <;> exact vB h
theorem n_ {ε:aI}{i:Nat}{f:Fm}(I:ε.1.ak[i]?=some f): ∃c,(outF ε i).2.1.ak[i]?=some { f with changed:=c }:=by
 have J:=(List.getElem?_eq_some_iff.1 I).1
 unfold outF
 rw [I]
 dsimp only
 split
 ·exact ⟨f.changed,I⟩
 ·split
  ·exact ⟨f.changed,I⟩
  ·split
   ·exact ⟨f.changed,I⟩
   ·split
    ·exact ⟨f.changed,I⟩
    ·exact ⟨false,by simp [qH,J]⟩
theorem OU (hT:W told){n:Int}(s:Sat h (eF r p q π::b8 q p μ::aR p δ::S))(My:π.Ok)(Rj:∀f∈π.ak,f.pins=0)(B6:μ.Ok)(mg:δ.Ok)(hw:δ.waiting.length≤268435456):
  Call ⟨Tryz.prog,told⟩ 63 [.ptr r 0,.int .i64 n] h fun v h'=>∃(e:Int) (b:List Nat) (ε:aI),fY (π,μ,δ) n e b ε ∧
   ((e≠0∧v=.bj [.bw,.int .i64 e]∧Sat h' (eF r p q ε.1::b8 q p ε.2.1::aR p ε.2.2::S))∨(e=0∧∃u,v=.bj [u,.int .i64 0]∧Sat h' (aZ u b::eF r p q ε.1::b8 q p ε.2.1::aR p ε.2.2::S))):=by
 have s0:=s
 obtain ⟨ct,wh,di,s⟩:=fM.1 s
 refine Call.of_wp (hT.free _ rfl) Tryz.func63 rfl rfl (zK 9 rfl ?_)
 refine zd rfl (af rfl rfl aT) ?_ ?_
 ·intro hq
  have hq:n<0:=by simpa using hq
  exact zk 16 rfl (WP.ret ⟨aa,_,rfl,1,[],(π,μ,δ),.arg (fun q=>by omega),.inl ⟨by decide,rfl,s0⟩⟩)
 ·intro hq
  have hq:0≤n:=by simp at hq; omega
  refine zk 4 rfl (zf rfl (AZ _ _) (zl rfl (s.ld (k:=0) rfl qZ rfl) (zc rfl (xB hT (s.ae [5])) ?_)))
  rintro v h' ⟨rfl,rfl⟩
  refine zd rfl (af rfl rfl mG) ?_ ?_
  ·intro iF
   have iF:¬ n<δ.ax.length:=by simp at iF; omega
   exact zk 8 rfl (WP.ret ⟨aa,_,rfl,1,[],(π,μ,δ),.arg (fun q=>iF q.2),.inl ⟨by decide,rfl,s0⟩⟩)
  ·intro iF
   have iF:n<δ.ax.length:=by simp at iF; omega
   refine zk 9 rfl (zf rfl (wG _ _) (zl rfl (s.ld (k:=0) rfl C5 rfl) (zm rfl ?_)))
   rcases KY (n:=n) (j:=0) (s.ae [2]) with ⟨g1,g2⟩ | ⟨i,g1,g2⟩
   ·refine aA.op rfl rfl rfl (iJ rfl rfl g2) ?_
    refine zk 15 rfl (zc rfl (Ri hT s My.hand (by have:=My.many; omega) Rj) ?_)
    rintro v h ⟨i,gV,f,rfl,oM,hf,hh,s⟩
    have hl:=(List.getElem?_eq_some_iff.1 hf).1
    rw [←oM.bM,←oM.bI] at s
    have Zu:f.b.length≤512:=by
     have h1:π.ak[i]?=some (π.ak[i]'(by have:=oM.len; omega)):=bf _
     generalize (π.ak[i]'(by have:=oM.len; omega))=f0 at h1
     obtain ⟨t,ht⟩:=oM.get i f0 h1
     rw [hf] at ht
     have:=bk ht
     rw [this]
     exact My.len f0 (bC h1)
    refine zk 6 rfl (zh rfl (af rfl rfl aT) (by simp <;> omega) ?_)
    refine zk 7 rfl (zf rfl (l8 _ _) (zl rfl (s.ld (k:=0) rfl qd rfl) (zm rfl (zo rfl (dr rfl rfl (nH (i:=i) hl)) (zk 7 rfl (zc rfl (W7 (π:=gV) hT s hf B6 mg (by omega) hw) ?_))))))
    rintro v h ⟨rfl,s⟩
    obtain ⟨c,BI⟩:=n_ (ε:=(gV,μ,δ)) hf
    have EV:=B7 (ε:=(gV,μ,δ)) (i:=i) mg
    refine zk 5 rfl ?_
    by_cases he:(outF (gV,μ,δ) i).1=0
    ·generalize ho:outF (gV,μ,δ) i=o at he s BI EV ⊢
     obtain ⟨oe,I,μ1,uC⟩:=o
     dsimp only at he s BI EV ⊢
     subst he
     have H9:(outF (gV,μ,δ) i).1=0:=by rw [ho]
     have qy:(outF (gV,μ,δ) i).2=(I,μ1,uC):=by rw [ho]
     refine zh rfl (af rfl rfl aN) (by decide) ?_
     obtain ⟨pre,fv,post,J,hlen,s⟩:=jx (s.ae [1]) BI
     refine zk 8 rfl (zf rfl (pE _ _) (zl rfl (s.ld (k:=0) rfl dL (iY J rfl)) ?_))
     refine zd rfl (af rfl rfl mG) ?_ ?_
     ·intro kG
      have kG:¬ f.aL<0:=by simp at kG; omega
      refine zk 2 rfl (WP.drawn [ai,ai,ai,ai,ai,ai,ai,ai,ai] rfl (by kernel_rfl) (by kernel_rfl) ?_)
      refine zM rfl (zN rfl (zF rfl (wG _ _) (zL rfl (s.ld (k:=3) rfl C5 rfl) (zM rfl (zN rfl (zF rfl (pE _ _) (zL rfl (s.ld (k:=0) rfl dL (iY J rfl)) (aB.i_ rfl rfl rfl (OpR.delete rfl rfl rfl rfl (Q6 (s.ae [4]) zG bD)) ?_))))))))
      intro v h s
      have s:=s.ae [1,1,1,1,0]
      refine aB.nil ⟨⟨aa,aa,aa,aa,aa,aa,aa,aa,aa,aa⟩,?_⟩
      refine zK 3 rfl (zo rfl (c_ rfl (by rw [GK]; rfl)) ?_)
      refine zn rfl (zS rfl (s.TA (k:=0) (row':=fE eR .bw) rfl C7 J hlen (by simp [fE]) rfl) ?_)
      intro h s
      have Mz:(pre++(fE eR .bw++post)).length=I.ak.length*5:=by simpa [fE] using hlen
      have ud:(dF I i f).bM=m_ f.aL I.bM:=by simp only [dF]; rw [ah kG]
      refine zk 5 rfl (zf rfl (AZ _ _) (zl rfl (s.ld (k:=3) rfl qZ rfl) (zm rfl (zc rfl (OT (n:=n) hT (s.ae [7]) EV) ?_))))
      rintro v h (⟨hr,rfl,s⟩ | ⟨hr,u,rfl,s⟩)
      ·dsimp only [bringA,getA,aQ] at s
       refine zk 10 rfl (zt rfl (af rfl rfl aN) (by simp; exact hr) ?_)
       refine zk 8 rfl (WP.ret ⟨aa,_,rfl,?_⟩)
       have s:=gF (i:=i) (f':=eR) (v':=.bw) (s.rI.ae [2,2,0]) rfl BI J
       have e6:(I.ak.set i eR).length=I.ak.length:=bW
       rw [←e6,←ud] at s
       have s:=(fM (π:=dF I i f)).2 ⟨ct,wh,di,s.ae [3,0,2,2]⟩
       have hR:=fY.read (ε:=(π,μ,δ)) gV i f hq iF g1 oM hf hh H9 (by rw [qy]; exact hr)
       rw [qy] at hR
       exact ⟨_,[],_,hR,.inl ⟨hr,rfl,(s.del 2).ae [0,1,0]⟩⟩
      ·have YV:=EV.at n
       obtain ⟨qw,_,cap,_,rfl,_⟩:=s.fI (by omega)
       refine zk 10 rfl (zh rfl (af rfl rfl aN) (rfl) (zk 7 rfl (zc rfl (HV hT s (bg _ _) (by omega)) ?_)))
       rintro v h ⟨rfl,s⟩
       refine zk 5 rfl ?_
       by_cases hc:gr (uC.at n)=0
       ·skip
        refine zh rfl (af rfl rfl aN) (by simp; exact hc) ?_
        have s:=s.fU.ae [2,2,0,2,2,2,2,0,0]
        refine zk 8 rfl (zo rfl (c_ rfl (by rw [GK]; rfl)) ?_)
        refine zn rfl (zS rfl (s.TA (k:=0) (row':=fE ⟨n,uC.at n,1,true,false⟩ (.sl qw 0 (uC.at n).length cap)) rfl C7 J Mz (by simp [fE]) rfl) ?_)
        intro h s
        refine zk 5 rfl (zf rfl (wG _ _) (zl rfl (s.ld (k:=3) rfl C5 rfl) (zk 2 rfl (aA.i_ rfl rfl (OpR.mapUpdate rfl rfl rfl rfl (oR (f:=fun v (x:Int)=>.pu (v=.int .i64 x)) (x:=(i:Int)) (fun _ _=>aW.pu _) ((s.ae [4]).gA rfl) zG bD)) ?_))))
        intro w h s
        refine zk 4 rfl (zc rfl (xA hT (s.ae [3]) (dy _ _) (by omega)) ?_)
        intro u h s
        refine zk 3 rfl (WP.ret ⟨aa,_,rfl,?_⟩)
        have s:=gF (i:=i) (f':=⟨n,uC.at n,1,true,false⟩) (s.ae [3,3,1]) rfl BI J
        have e6:(I.ak.set i ⟨n,uC.at n,1,true,false⟩).length=I.ak.length:=bW
        have e7:(jI (dF I i f) i n (uC.at n)).ak=I.ak.set i ⟨n,uC.at n,1,true,false⟩:=by simp only [jI,dF,AE]
        rw [←e6,←e7,←ud] at s
        have s:=(fM (π:=jI (dF I i f) i n (uC.at n))).2 ⟨ct,wh,di,s.ae [3,0,1,1]⟩
        have hR:=fY.load (ε:=(π,μ,δ)) gV i f hq iF g1 oM hf hh H9 (by rw [qy]; exact hr) (by rw [qy]; exact hc)
        rw [qy] at hR
        exact ⟨_,_,_,hR,.inr ⟨rfl,u,rfl,(s.del 4).ae [1,0]⟩⟩
       ·skip
        refine zt rfl (af rfl rfl aN) (by simp; exact hc) ?_
        refine zk 8 rfl (WP.ret ⟨aa,_,rfl,?_⟩)
        have s:=s.drop
        have s:=gF (i:=i) (f':=eR) (v':=.bw) (s.rI.ae [2,2,0]) rfl BI J
        have e6:(I.ak.set i eR).length=I.ak.length:=bW
        rw [←e6,←ud] at s
        have s:=(fM (π:=dF I i f)).2 ⟨ct,wh,di,s.ae [3,0,2,2]⟩
        dsimp only [bringA,getA,aQ] at s
        have hR:=fY.bad (ε:=(π,μ,δ)) gV i f hq iF g1 oM hf hh H9 (by rw [qy]; exact hr) (by rw [qy]; exact hc)
        rw [qy] at hR
        exact ⟨_,[],_,hR,.inl ⟨hc,rfl,(s.del 2).ae [0,1,0]⟩⟩
     ·intro kG
      have kG:f.aL<0:=by simp at kG; omega
      refine zk 6 rfl (zo rfl (c_ rfl (by rw [GK]; rfl)) ?_)
      refine zn rfl (zS rfl (s.TA (k:=0) (row':=fE eR .bw) rfl C7 J hlen (by simp [fE]) rfl) ?_)
      intro h s
      dsimp only [setA] at s
      have Mz:(pre++(fE eR .bw++post)).length=I.ak.length*5:=by simpa [fE] using hlen
      have ud:(dF I i f).bM=I.bM:=by simp only [dF]; rw [aj kG]
      refine zk 5 rfl (zf rfl (AZ _ _) (zl rfl (s.ld (k:=3) rfl qZ rfl) (zm rfl (zc rfl (OT (n:=n) hT (s.ae [7]) EV) ?_))))
      rintro v h (⟨hr,rfl,s⟩ | ⟨hr,u,rfl,s⟩)
      ·dsimp only [bringA,getA,aQ] at s
       refine zk 10 rfl (zt rfl (af rfl rfl aN) (by simp; exact hr) ?_)
       refine zk 8 rfl (WP.ret ⟨aa,_,rfl,?_⟩)
       have s:=gF (i:=i) (f':=eR) (v':=.bw) (s.rI.ae [2,2,0]) rfl BI J
       have e6:(I.ak.set i eR).length=I.ak.length:=bW
       rw [←e6,←ud] at s
       have s:=(fM (π:=dF I i f)).2 ⟨ct,wh,di,s.ae [3,0,2,2]⟩
       have hR:=fY.read (ε:=(π,μ,δ)) gV i f hq iF g1 oM hf hh H9 (by rw [qy]; exact hr)
       rw [qy] at hR
       exact ⟨_,[],_,hR,.inl ⟨hr,rfl,(s.del 2).ae [0,1,0]⟩⟩
      ·have YV:=EV.at n
       obtain ⟨qw,_,cap,_,rfl,_⟩:=s.fI (by omega)
       refine zk 10 rfl (zh rfl (af rfl rfl aN) (rfl) (zk 7 rfl (zc rfl (HV hT s (bg _ _) (by omega)) ?_)))
       rintro v h ⟨rfl,s⟩
       refine zk 5 rfl ?_
       by_cases hc:gr (uC.at n)=0
       ·skip
        refine zh rfl (af rfl rfl aN) (by simp; exact hc) ?_
        have s:=s.fU.ae [2,2,0,2,2,2,2,0,0]
        refine zk 8 rfl (zo rfl (c_ rfl (by rw [GK]; rfl)) ?_)
        refine zn rfl (zS rfl (s.TA (k:=0) (row':=fE ⟨n,uC.at n,1,true,false⟩ (.sl qw 0 (uC.at n).length cap)) rfl C7 J Mz (by simp [fE]) rfl) ?_)
        intro h s
        refine zk 5 rfl (zf rfl (wG _ _) (zl rfl (s.ld (k:=3) rfl C5 rfl) (zk 2 rfl (aA.i_ rfl rfl (OpR.mapUpdate rfl rfl rfl rfl (oR (f:=fun v (x:Int)=>.pu (v=.int .i64 x)) (x:=(i:Int)) (fun _ _=>aW.pu _) ((s.ae [4]).gA rfl) zG bD)) ?_))))
        intro w h s
        refine zk 4 rfl (zc rfl (xA hT (s.ae [3]) (dy _ _) (by omega)) ?_)
        intro u h s
        refine zk 3 rfl (WP.ret ⟨aa,_,rfl,?_⟩)
        have s:=gF (i:=i) (f':=⟨n,uC.at n,1,true,false⟩) (s.ae [3,3,1]) rfl BI J
        have e6:(I.ak.set i ⟨n,uC.at n,1,true,false⟩).length=I.ak.length:=bW
        have e7:(jI (dF I i f) i n (uC.at n)).ak=I.ak.set i ⟨n,uC.at n,1,true,false⟩:=by simp only [jI,dF,AE]
        rw [←e6,←e7,←ud] at s
        have s:=(fM (π:=jI (dF I i f) i n (uC.at n))).2 ⟨ct,wh,di,s.ae [3,0,1,1]⟩
        dsimp only [bringA,getA,aQ] at s
        have hR:=fY.load (ε:=(π,μ,δ)) gV i f hq iF g1 oM hf hh H9 (by rw [qy]; exact hr) (by rw [qy]; exact hc)
        rw [qy] at hR
        exact ⟨_,_,_,hR,.inr ⟨rfl,u,rfl,(s.del 4).ae [1,0]⟩⟩
       ·skip
        refine zt rfl (af rfl rfl aN) (by simp; exact hc) ?_
        refine zk 8 rfl (WP.ret ⟨aa,_,rfl,?_⟩)
        have s:=s.drop
        have s:=gF (i:=i) (f':=eR) (v':=.bw) (s.rI.ae [2,2,0]) rfl BI J
        have e6:(I.ak.set i eR).length=I.ak.length:=bW
        rw [←e6,←ud] at s
        have s:=(fM (π:=dF I i f)).2 ⟨ct,wh,di,s.ae [3,0,2,2]⟩
        have hR:=fY.bad (ε:=(π,μ,δ)) gV i f hq iF g1 oM hf hh H9 (by rw [qy]; exact hr) (by rw [qy]; exact hc)
        rw [qy] at hR
        exact ⟨_,[],_,hR,.inl ⟨hc,rfl,(s.del 2).ae [0,1,0]⟩⟩
    ·skip
     refine zt rfl (af rfl rfl aN) (by simp; exact he) ?_
     exact zk 8 rfl (WP.ret ⟨aa,_,rfl,_,[],_,.out gV i f hq iF g1 oM hf hh he,.inl ⟨he,rfl,fM.2 ⟨ct,wh,di,s⟩⟩⟩)
   ·obtain ⟨i,f,rfl,hf⟩:=My.at g1
    have hl:=(List.getElem?_eq_some_iff.1 hf).1
    obtain ⟨pre,fv,post,J,hlen,s⟩:=jx (s.ae [1]) hf
    have pX:=Rj f (bC hf)
    have S1:=My.len f (bC hf)
    refine zo rfl (iJ rfl rfl g2) (zk 15 rfl (zf rfl (l8 _ _) (zl rfl (s.ld (k:=3) rfl qd rfl) (zm rfl (zo rfl (dr rfl rfl (nH (i:=i) hl)) (zk 6 rfl (zf rfl (EH _ _) (zS rfl (s.stM (k:=0) (j:=3) rfl uf J hlen (by simp [fE]) rfl rfl) ?_))))))))
    intro h s
    refine zk 5 rfl (zf rfl (rj _ _) (zl rfl (s.ld (k:=0) rfl dL (iY J rfl)) (zb rfl (by exact br (aC (by omega) (by omega))) ?_)))
    refine zn rfl (zf rfl (rj _ _) (zS rfl (s.stM (k:=0) (j:=2) rfl kW J (by simpa [fE] using hlen) (by simp [fE]) rfl rfl) ?_))
    intro h s
    have e5:((fE f fv).set 3 (.bool true)).set 2 (.int .i64 (f.pins+1))=fE { f with eY:=true,pins:=f.pins+1 } fv:=rfl
    rw [e5] at s
    refine zk 5 rfl (zf rfl (A0 _ _) (zl rfl (s.ld (k:=0) rfl bJ (iY J rfl)) (zc rfl (xA hT (s.ae [2]) (dy _ _) (by omega)) ?_)))
    intro u h s
    refine zk 3 rfl (WP.ret ⟨aa,_,rfl,?_⟩)
    have s:=gF (i:=i) (f':={ f with eY:=true,pins:=f.pins+1 }) (s.ae [2,2,1]) rfl hf J
    refine ⟨0,f.b,_,.Dj i f hq iF g1 hf,.inr ⟨rfl,u,rfl,?_⟩⟩
    have e6:(π.ak.set i { f with eY:=true,pins:=f.pins+1 }).length=π.ak.length:=bW
    rw [←e6] at s
    exact ((fM (π:={ π with ak:=π.ak.set i { f with eY:=true,pins:=f.pins+1 } })).2 ⟨ct,wh,di,s.ae [2,0,1,1]⟩).ae [1,0]
end
def Dl : Fm:=⟨0,[],0,false,false⟩
def Pl.fresh (n:Nat): Pl:=⟨List.replicate n eR,[],[],0⟩
theorem UP : ∃i,Tryz.prog.info? 193=some i∧i.size=5∧i.bytes=48 :=
 ⟨_,(show Tryz.prog.info? 193=some ((Tryz.prog.info? 193).getD default) by kernel_rfl),by kernel_rfl,by kernel_rfl⟩
theorem Rm {a b:PM}: ∀n:Nat,(uB (repeatL [.int .i64 0,.bw,.int .i64 0,.bool false,.bool false] n) (List.replicate n Dl)).p a b:=by
 intro n
 induction n with
 | zero=>trivial
 | succ n I=>exact ⟨⟨⟨rfl,rfl,rfl,rfl⟩,⟨(by intro b J; cases J),.inl ⟨.inl rfl,rfl⟩⟩⟩,I⟩
section
variable {told:cQ} {h:H} {S:List au} {X:au} {r k q p ct:Nat} {v x wh di:V} {l b:List Nat} {π:Pl} {m:List Fm} {μ:Lg} {δ:Dk}
noncomputable def pnL : Code:=dB [1,1,1,0,1,0,0] ((Tryz.f81.body).getD .skip)
theorem OV {n:Nat}(hn:n<4294967296): ∀(j i:Nat) (m:List Fm) (h:H) (E:List (Nat×V)) (Q:Ex→List (Nat×V)→H→Prop),i+j=n→m=List.replicate i eR++List.replicate j Dl →
  Sat h (pt r (.cells 6 (qj p q ct n wh di 0) false)::eN ct m::S)→Has E [(8,.ptr r 0),(28,.int .i64 n),(29,.int .i64 i)] →
  (∀E' h',Has E' [(8,.ptr r 0)]→Sat h' (pt r (.cells 6 (qj p q ct n wh di 0) false)::eN ct (List.replicate n eR)::S)→Q (.exit 0) E' h')→WP ⟨Tryz.prog,told⟩ 41 (.loop pnL) E h Q:=by
 intro j
 induction j with
 | zero =>
  intro i m h E Q hi hm s J hx
  refine WP.loop (WP.has J (zg rfl (zh rfl (af rfl rfl aT) (by simp <;> omega) ?_)))
  refine zk 3 rfl (WP.exit (hx _ _ ⟨rfl,aa⟩ ?_))
  rw [hm] at s
  have:i=n:=by omega
  subst this
  simpa using s
 | succ j ih =>
  intro i m h E Q hi hm s J hx
  have K1:m.length=n:=by rw [hm]; simp; omega
  have hf:m[i]?=some Dl:=by rw [hm,mS (by simp)]; simp [vN]
  obtain ⟨pre,fv,post,I,hlen,s⟩:=jx (s.ae [1]) hf
  dsimp only [bringA,getA,aQ] at s
  refine WP.loop (WP.has J (zg rfl (zt rfl (af rfl rfl aT) (by simp <;> omega) ?_)))
  refine zk 5 rfl (WP.block (zK 8 rfl (zf rfl (l8 _ _) (zl rfl (s.ld (k:=3) rfl qd rfl) (zm rfl (zo rfl (dr rfl rfl (nH (i:=i) (by omega))) ?_))))))
  refine zf rfl (pE _ _) (zS rfl (s.stM (k:=0) (j:=0) rfl kW I hlen (by simp [fE]) rfl rfl) ?_)
  intro h s
  dsimp only [setA] at s
  have e5:(fE Dl fv).set 0 (.int .i64 (-1))=fE eR fv:=rfl
  rw [e5] at s
  refine zv (zr rfl (zb rfl (by exact br (aC (by omega) (by omega))) ?_))
  refine zm rfl (zv ?_)
  have s:=gF (i:=i) (f':=eR) s rfl hf I
  refine ih (i+1) (m.set i eR) h _ Q (by omega) ?_ (s.ae [1,0]) ⟨rfl,rfl,rfl,aa⟩ hx
  rw [hm,List.set_append_right _ _ (by simp),cY,td,vN,List.set_cons_zero,List.replicate_succ',bS]
  rfl
theorem K2 (hT:W told){n:Int}(s:Sat h S): Call ⟨Tryz.prog,told⟩ 81 [.ptr p 0,.ptr q 0,.int .i64 n] h fun v h' =>
  (¬(1≤n∧n≤1024)∧v=.bj [.cu,.int .i64 1]∧Sat h' S)∨(1≤n∧n≤1024∧∃r,v=.bj [.ptr r 0,.int .i64 0]∧Sat h' (eF r p q (Pl.fresh n.toNat)::S)):=by
 refine Call.of_wp (hT.free _ rfl) Tryz.func81 rfl rfl (zK 9 rfl ?_)
 refine zd rfl (af rfl rfl aT) ?_ ?_
 ·intro J
  have J:n<1:=by simpa using J
  exact zk 11 rfl (WP.ret ⟨aa,_,rfl,.inl ⟨fun q=>by omega,rfl,s⟩⟩)
 ·intro J
  have J:1≤n:=by simp at J; omega
  refine zk 2 rfl ?_
  refine zd rfl (af rfl rfl gv) ?_ ?_
  ·intro I
   have I:1024<n:=by simpa using I
   exact zk 8 rfl (WP.ret ⟨aa,_,rfl,.inl ⟨fun q=>by omega,rfl,s⟩⟩)
  ·intro I
   have I:n≤1024:=by simp at I; omega
   obtain ⟨n,rfl⟩:∃k:Nat,n=k:=⟨n.toNat,by omega⟩
   refine zk 9 rfl ?_
   obtain ⟨i1,kB,jF,wL⟩:=UP
   obtain ⟨id,h1,e1,s1⟩:=Fw (P:=Tryz.prog) s zU kB YG jF (by omega) rfl (by decide) (n:=n) (by omega)
   refine aA.any rfl rfl rfl (OpR.of (R:=fun v h'=>v=.sl id 0 n (.exact n)∧h'=h1) (sK rfl rfl e1) ⟨rfl,rfl⟩) ?_
   rintro v h ⟨rfl,rfl⟩
   have s:Sat h (eN id (List.replicate n Dl)::S):=j_.2 ⟨_,by rw [cY]; exact ((s1.gA (φ:=True) aa).hO fun a b _=>Rm n).ae [1]⟩
   refine aA.y6 s rfl rfl rfl rfl (fun p20 h s => ?_)
   refine aA.y6 s rfl rfl rfl rfl (fun Xb h s => ?_)
   refine zo rfl (c_ rfl (by rw [YE]; rfl)) ?_
   refine aA.b5 s rfl rfl rfl (fe rfl rfl) (fun Z0 h s => ?_)
   refine zk 7 rfl (zf rfl (l8 _ _) (zl rfl (s.ld (k:=0) rfl qd rfl) (zo rfl (aU rfl rfl rfl (pG rfl zU)) (zk 2 rfl (WP.block ?_)))))
   have s:=ur (f:=fun v (x:Nat×Bool)=>.pu (v=.agg [.int .u64 (x.1:Int),.bool x.2])) (s.ae [1])
   have s:=ur (f:=fun v (x:Int)=>.pu (v=.int .i64 x)) (s.ae [2])
   have s:=s.ae [2,2,0,0]
   refine OV (n:=n) (by omega) n 0 _ _ _ _ (by omega) rfl s ⟨rfl,rfl,rfl,aa⟩ (fun E' h' jd s' => ?_)
   refine WP.has jd (zK 6 rfl (WP.ret ⟨aa,_,rfl,?_⟩))
   refine .inr ⟨J,I,_,rfl,(fM (π:=Pl.fresh n)).2 ⟨id,.map p20,.map Xb,?_⟩⟩
   have e6:(Pl.fresh n).ak.length=n:=by simp [Pl.fresh]
   rw [e6]
   exact s'
end
theorem OW {c:Nat}: ∀ {l:cR} {b:Nat},gB c b l→bornUp c b (l.map gO)=true:=by
 intro l
 induction l with
 | nil=>intro b _; rfl
 | cons e l I =>
  intro b h
  obtain ⟨J,h2,h3⟩:=h
  simp only [b6,gO,bornUp]
  rw [show (Nat.ble b e.2.2&&Nat.blt e.2.2 c)=true by rw [aO,aJ]; exact ⟨J,by rw [Nat.blt]; exact aJ.2 h2⟩,ag]
  exact I h3
theorem MA : ∀ {l:cR},(∀e∈l,(Lit.int .i64 e.1).wf=true)→keyInts (l.map gO)=some (l.map (·.1)):=by
 intro l
 induction l with
 | nil=>intro _; rfl
 | cons e l I =>
  intro h
  simp only [b6,gO,keyInts]
  rw [h e bu,ag]
  have:=I (fun e he=>h e (bn _ he))
  rw [this]
theorem JJ {x:Int}: ∀ {l:List Int},l.Pairwise (· < ·)→x∉l→(insI x l).Pairwise (· < ·):=by
 intro l
 induction l with
 | nil=>intro _ _; simp [insI]
 | cons y l ih =>
  intro h hx
  simp only [oY,fq,qU] at h hx
  simp only [insI]
  by_cases J:x≤y
  ·rw [fo J,ag]
   have:x<y:=by omega
   simp only [oY,fq]
   refine ⟨fun z I => ?_,h⟩
   rcases I with rfl | I
   ·exact this
   ·have:=h.1 z I; omega
  ·rw [eU J,az]
   simp only [oY]
   refine ⟨fun z I => ?_,ih h.2 hx.2⟩
   have:=(zD x l).mem_iff.1 I
   rcases List.mem_cons.1 this with rfl | I
   ·omega
   ·exact h.1 z I
theorem JK : ∀ {l:List Int},l.Nodup→(nc l).Pairwise (· < ·):=by
 intro l
 induction l with
 | nil=>intro _; exact List.Pairwise.nil
 | cons x l I =>
  intro h
  simp only [nR] at h
  exact JJ (I h.2) (fun J=>h.1 ((fc l).mem_iff.1 J))
theorem Ro : ∀ {l:List Int},l.Pairwise (· < ·)→rX l=true:=by
 intro l
 induction l with
 | nil=>intro _; rfl
 | cons x l I =>
  intro h
  simp only [oY] at h
  simp only [rX,aO,lQ,eL]
  exact ⟨h.1,I h.2⟩
section
variable {α:Type} {f:V→α→au} {told:cQ} {h:H} {S:List au} {mv:V} {m:List (Int×α)} {b g:Nat}
def bU (m:List (Int×α)): List Int:=nc (m.map (·.1))
theorem jJ {m:List (Int×α)}{n:Int}: n∈bU m↔n∈m.map (·.1):=(fc _).mem_iff
theorem Rp (l:List Int): (gj l).all storable=true:=by simp [gj,storable]
theorem vb (hT:W told)(s:Sat h (pt b (.cells 1 [mv] false)::jc f mv m::S))(hg:wT A4 g=true)(hm:m.length≤1048576)(hk:∀n∈m.map (·.1),(Lit.int .i64 n).wf=true):
  Call ⟨Tryz.prog,told⟩ 61 [.fn (.func g) [] [.ptr b 0]] h fun v h'=>Sat h' (.arr 1 v (gj (bU m))::pt b (.cells 1 [mv] false)::jc f mv m::S):=by
 obtain ⟨id,l,c,rfl,hb,hn,s1⟩:=fb.1 (s.ae [1])
 have s1:Sat h (gE id l c::eW f l m::pt b (.cells 1 [.map id] false)::S):=s1
 obtain ⟨q1,q2,q3,q4,q5⟩:=s1.at (k:=1) rfl
 have I:=xy q5
 have hlen:l.length=m.length:=by have:=gy List.length I; simpa using this
 have xq:=s1.row (k:=0) rfl
 have aaR:=s1.row (k:=2) rfl
 have jP:∀e∈l,(Lit.int .i64 e.1).wf=true:=fun e he=>hk e.1 (by rw [←I]; exact sS he)
 have hri:rX (nc (l.map (·.1)))=true:=Ro (JK (by rw [I]; exact hn))
 have J:∃v h',toldSorted A4 [.fn (.func g) [] [.ptr b 0]] h=some (v,h')∧Sat h' (.arr 1 v (gj (bU m))::pt b (.cells 1 [.map id] false)::jc f (.map id) m::S):=by
  simp only [toldSorted,aaR,xq,fS,hg,OW hb,MA jP,hri]
  rw [show (Nat.beq 1 1&&true&&true&&Nat.ble l.length 1048576)=true by rw [aJ.2 (by omega)]; rfl,ag]
  simp only [ag]
  cases hl:l.map (·.1) with
  | nil =>
   refine ⟨_,_,rfl,?_⟩
   have:bU m=[]:=by rw [bU,←I,hl]; rfl
   rw [this]
   exact s.oF
  | cons x xs =>
   refine ⟨_,_,rfl,?_⟩
   have e1:bU m=nc (x::xs):=by rw [bU,←I,hl]
   have e2:(nc (x::xs)).length=(x::xs).length:=(fc _).length_eq
   have e3:(x::xs).length=l.length:=by rw [←hl,fS]
   rw [e1,←e3]
   refine (s.new (.cells (gj (nc (x::xs))).length (gj (nc (x::xs))) false)).hO fun a r yo=>⟨Rp _,.inr ⟨h.next,(x::xs).length,.rest 1 0,(gj (nc (x::xs))).length,[],rfl,?_,?_,by simp,rfl,rfl,rfl,rfl,by simp⟩⟩
   ·rw [bR]; exact yo
   ·simp only [gj,fS,e2,c9]
 obtain ⟨v,h',e1,e2⟩:=J
 exact ⟨v,h',hG.told hT.sorted Tryz.func61 rfl e1,e2⟩
end
end Go.Proofs.YtefepnnfphdkpaaGreat.Am
