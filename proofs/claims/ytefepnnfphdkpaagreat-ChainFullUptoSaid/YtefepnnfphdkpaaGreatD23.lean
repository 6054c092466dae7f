/- ChainFull: a part of its proof; conditions: its statement's. -/
import Derived.Test.YtefepnnfphdkpaaGreatD22
namespace Go.Proofs.YtefepnnfphdkpaaGreat.Am
open Go
structure Pl.Ok (π:Pl): Prop where
 hand:π.hand<π.ah.length
 many:π.ah.length≤1024
 bu:∀e∈π.bu,0≤e.2∧e.2<π.ah.length
 len:∀f∈π.ah,f.b.length≤512
 pins:∀f∈π.ah,0≤f.pins∧f.pins≤4294967296
theorem Pl.Ok.at {π:Pl}(h:π.Ok){n i:Int}(J:lookL n π.bu=some i): ∃(k:Nat) (f:Fm),i=k∧π.ah[k]?=some f:=by
 have I:=h.bu _ (kE J)
 exact ⟨i.toNat,π.ah[i.toNat]'(by have:=I.2; simp only at this; omega),by have:=I.1; simp only at this; omega,aM _⟩
def heldI (π:Pl)(n:Int): Option Nat:=match lookL n π.bu with
 | none=>none
 | some i=>match π.ah[i.toNat]? with
  | none=>none
  | some f=>if f.pins=0 then none else some i.toNat
def unpinF (π:Pl)(n:Int): Int×Pl:=match heldI π n with
 | none=>(18,π)
 | some i=>match π.ah[i]? with
  | none=>(18,π)
  | some f=>(0,{ π with ah:=π.ah.set i { f with pins:=f.pins-1 } })
def kN (π:Pl)(n:Int)(aP:Nat): Nat:=match lookL n π.ck with
 | some x=>x.1
 | none=>aP
def jS (π:Pl)(n:Int)(b:List Nat)(aP:Nat): Int×Pl:=match heldI π n with
 | none=>(18,π)
 | some i=>match π.ah[i]? with
  | none=>(18,π)
  | some f=>if bV b=false then (4,π) else (0,{ π with ah:=π.ah.set i { f with b:=cX b aP,changed:=true },ck:=dc n (kN π n aP,true) π.ck })
section
variable {told:cz} {h:H} {S:List aq} {X:aq} {r k q p bQ:Nat} {v x wh di:V} {l b:List Nat} {π:Pl} {m:List Fm} {μ:Lg} {δ:Dk}
theorem GS {n:Int}{j:Nat}(s:Sat h (Ec wh π.bu::S)): (lookL n π.bu=none∧dW Tryz.prog h 186 wh (.int .i64 n) true=some (.aX [.int .i64 0,.bool false])) ∨
  ∃i,lookL n π.bu=some i∧dW Tryz.prog h 186 wh (.int .i64 n) true=some (.aX [.int .i64 i,.bool true]):=by
 rcases ng (f:=fun v (x:Int)=>.pu (v=.int .i64 x)) (n:=n) (fun _ _=>aQ.pu _) s vO bR tG with ⟨I,J,_⟩ | ⟨u,i,I,J,_,s'⟩
 ·exact .inl ⟨I,J⟩
 ·obtain ⟨rfl,_⟩:=ri.1 s'
  exact .inr ⟨i,I,J⟩
theorem GU {n:Int}(s:Sat h (GR di π.ck::S)): (lookL n π.ck=none∧dW Tryz.prog h 187 di (.int .i64 n) true=some (.aX [.agg [.int .u64 0,.bool false],.bool false])∧dW Tryz.prog h 187 di (.int .i64 n) false=some (.agg [.int .u64 0,.bool false])) ∨
  ∃x,lookL n π.ck=some x∧dW Tryz.prog h 187 di (.int .i64 n) true=some (.aX [.agg [.int .u64 (x.1:Int),.bool x.2],.bool true])∧dW Tryz.prog h 187 di (.int .i64 n) false=some (.agg [.int .u64 (x.1:Int),.bool x.2]):=by
 rcases ng (f:=fun v (x:Nat×Bool)=>.pu (v=.agg [.int .u64 (x.1:Int),.bool x.2])) (n:=n) (fun _ _=>aQ.pu _) s tO bR xC with ⟨I,J,g3⟩ | ⟨u,x,I,J,g3,s'⟩
 ·exact .inl ⟨I,J,g3⟩
 ·obtain ⟨rfl,_⟩:=ri.1 s'
  exact .inr ⟨x,I,J,g3⟩
theorem GV (hT:W told){n:Int}(s:Sat h (pt r (.cells 6 (nN p q bQ π.ah.length wh di π.hand) false)::dH bQ π.ah::Ec wh π.bu::S))(IG:π.Ok):
  Call ⟨Tryz.prog,told⟩ 126 [.ptr r 0,.int .i64 n] h fun v h'=>h'=h∧((heldI π n=none∧v=.aX [.cO,.int .i64 18])∨∃(i:Nat) (f:Fm),heldI π n=some i∧π.ah[i]?=some f∧v=.aX [.ptr bQ (i*5),.int .i64 0]):=by
 refine Call.of_wp (hT.free _ rfl) Tryz.func126 rfl rfl (zK 9 rfl (zf rfl (tJ _ _) (zl rfl (s.ld (k:=0) rfl Ai rfl) (zm rfl ?_))))
 rcases GS (n:=n) (j:=0) (s.ae [2]) with ⟨g1,g2⟩ | ⟨i,g1,g2⟩
 ·refine az.op rfl rfl rfl (ji rfl rfl g2) ?_
  exact zk 10 rfl (zt rfl (eY rfl rfl) (rfl) (zk 18 rfl (WP.ret ⟨aa,_,rfl,rfl,.inl ⟨by simp only [heldI,g1],rfl⟩⟩)))
 ·obtain ⟨i,f,rfl,hf⟩:=IG.at g1
  have hl:=(List.getElem?_eq_some_iff.1 hf).1
  have hh:heldI π n=if f.pins=0 then none else some i:=by simp only [heldI,g1,bZ,hf]
  obtain ⟨pre,fv,post,J,hlen,s'⟩:=ie (s.ae [1]) hf
  refine zo rfl (ji rfl rfl g2) (zk 10 rfl (zh rfl (eY rfl rfl) (rfl) (zk 3 rfl (zf rfl (kr _ _) (zl rfl (s.ld (k:=0) rfl nG rfl) (zm rfl (zo rfl (cn rfl rfl (lK (i:=i) hl)) (zf rfl (oC _ _) (zl rfl (s'.ld (k:=0) rfl dS (gR J rfl)) ?_)))))))))
  refine zd rfl (ag rfl rfl e_) ?_ ?_
  ·intro I
   have I:f.pins=0:=by simpa using I
   exact zk 8 rfl (WP.ret ⟨aa,_,rfl,rfl,.inl ⟨by rw [hh,ax I],rfl⟩⟩)
  ·intro I
   have I:f.pins≠0:=by simpa using I
   exact zk 8 rfl (zf rfl (kr _ _) (zl rfl (s.ld (k:=0) rfl nG rfl) (zm rfl (zo rfl (cn rfl rfl (lK (i:=i) hl)) (zk 3 rfl (WP.ret ⟨aa,_,rfl,rfl,.inr ⟨i,f,by rw [hh,ai I],hf,rfl⟩⟩))))))
theorem Ef (hT:W told){n:Int}(s:Sat h (dQ r p q π::S))(J:π.Ok):
  Call ⟨Tryz.prog,told⟩ 65 [.ptr r 0,.int .i64 n] h fun v h'=>v=.int .i64 (unpinF π n).1∧Sat h' (dQ r p q (unpinF π n).2::S):=by
 have s0:=s
 obtain ⟨bQ,wh,di,s⟩:=ey.1 s
 refine Call.of_wp (hT.free _ rfl) Tryz.func65 rfl rfl (zK 8 rfl (zc rfl (GV (n:=n) hT s J) ?_))
 rintro v h' ⟨rfl,(⟨hh,rfl⟩ | ⟨i,f,hh,hf,rfl⟩)⟩
 ·have he:unpinF π n=(18,π):=by simp only [unpinF,hh]
  rw [he]
  exact zk 10 rfl (zt rfl (ag rfl rfl aI) (rfl) (zk 7 rfl (WP.ret ⟨aa,_,rfl,rfl,s0⟩)))
 ·have he:unpinF π n=(0,{ π with ah:=π.ah.set i { f with pins:=f.pins-1 } }):=by simp only [unpinF,hh,hf]
  rw [he]
  obtain ⟨pre,fv,post,I,hlen,s⟩:=ie (s.ae [1]) hf
  have MP:=J.pins f (aV hf)
  refine zk 10 rfl (zh rfl (ag rfl rfl aI) (rfl) (zk 7 rfl (zf rfl (oC _ _) (zl rfl (s.ld (k:=0) rfl dS (gR I rfl)) (zb rfl (by exact jj (aA (by omega) (by omega))) ?_)))))
  refine zn rfl (zf rfl (oC _ _) (zS rfl (s.stM (k:=0) (j:=2) rfl kC I hlen (by simp [d_]) rfl rfl) ?_))
  intro h s
  have e5:(d_ f fv).set 2 (.int .i64 (f.pins-1))=d_ { f with pins:=f.pins-1 } fv:=rfl
  rw [e5] at s
  refine zk 5 rfl (WP.ret ⟨aa,_,rfl,?_⟩)
  refine ⟨rfl,ey.2 ⟨bQ,wh,di,?_⟩⟩
  have s:=fb (i:=i) (f':={ f with pins:=f.pins-1 }) s rfl hf I
  rw [cq]
  exact s.ae [1,0]
theorem PZ (hT:W told){n:Int}{aP:Nat}{bv:V}(s:Sat h (dQ r p q π::X::S))(hX:cT X (cY bv b))(IG:π.Ok)(hb:b.length<9223372036854775808):
  Call ⟨Tryz.prog,told⟩ 64 [.ptr r 0,.int .i64 n,bv,.int .u64 (aP:Int)] h fun v h'=>v=.int .i64 (jS π n b aP).1∧Sat h' (dQ r p q (jS π n b aP).2::X::S):=by
 have s0:=s
 obtain ⟨bQ,wh,di,s⟩:=ey.1 s
 refine Call.of_wp (hT.free _ rfl) Tryz.func64 rfl rfl (zK 8 rfl (zc rfl (GV (n:=n) hT s IG) ?_))
 rintro v h' ⟨rfl,(⟨hh,rfl⟩ | ⟨i,f,hh,hf,rfl⟩)⟩
 ·have he:jS π n b aP=(18,π):=by simp only [jS,hh]
  rw [he]
  exact zk 10 rfl (zt rfl (ag rfl rfl aI) (rfl) (zk 7 rfl (WP.ret ⟨aa,_,rfl,rfl,s0⟩)))
 ·have he:jS π n b aP=(if bV b=false then (4,π) else (0,{ π with ah:=π.ah.set i { f with b:=cX b aP,changed:=true },ck:=dc n (kN π n aP,true) π.ck })):=by simp only [jS,hh,hf]
  rw [he]
  refine zk 10 rfl (zh rfl (ag rfl rfl aI) (rfl) (zk 7 rfl (zc rfl (PN (n:=aP) hT (s.ae [4]) hX hb) ?_)))
  rintro v h (⟨J,u,rfl,s⟩ | ⟨J,rfl,s⟩)
  ·rw [ai (by rw [J]; decide)]
   have OB:(cX b aP).length=512:=by
    have h1:=uy (n:=aP) (g9 J)
    rw [cX,cK (by rw [dK]; omega),h1]
   obtain ⟨kD,_,cap,_,rfl,_⟩:=s.eH (by omega)
   have s:=s.gS
   obtain ⟨pre,fv,post,I,hlen,s⟩:=ie (s.ae [3]) hf
   refine zk 10 rfl (zh rfl (ag rfl rfl aI) (rfl) (zk 9 rfl (zf rfl (xA _ _) (zS rfl (s.stM (k:=0) (j:=1) rfl kI I hlen (by simp [d_]) rfl rfl) ?_))))
   intro h s
   refine zn rfl (zf rfl (BN _ _) (zS rfl (s.stM (k:=0) (j:=4) rfl yf I (by simpa [d_] using hlen) (by simp [d_]) rfl rfl) ?_))
   intro h s
   have e5:((d_ f fv).set 1 (.sl kD 0 (cX b aP).length cap)).set 4 (.bool true)=d_ { f with b:=cX b aP,changed:=true } (.sl kD 0 (cX b aP).length cap):=rfl
   rw [e5] at s
   have s:=fb (i:=i) (f':={ f with b:=cX b aP,changed:=true }) (s.ae [0,0,1]) rfl hf I
   have s:=s.ae [3,4,0]
   refine zk 5 rfl (zf rfl (qL _ _) (zl rfl (s.ld (k:=0) rfl xy rfl) (zm rfl ?_)))
   rcases GU (n:=n) (s.ae [1]) with ⟨g1,g2,_⟩ | ⟨x,g1,g2,_⟩
   ·refine az.op rfl rfl rfl (ji rfl rfl g2) ?_
    refine zk 3 rfl ?_
    refine az.cJ s rfl rfl rfl (cE xC) (fun X1 h s => ?_)
    refine zS rfl (s.iw (j:=0) rfl xB rfl rfl) (fun h s => ?_)
    refine zk 6 rfl (zo rfl (eY rfl rfl) (zk 4 rfl (zf rfl (BO _ _) ?_)))
    refine zS rfl (by exact s.iX (k:=0) rfl Ic rfl (by decide) rfl rfl) (fun h s => ?_)
    refine zk 3 rfl (zf rfl (GH _ _) ?_)
    refine zS rfl (by exact s.iX (k:=0) rfl yf rfl (by decide) rfl rfl) (fun h s => ?_)
    refine zk 2 rfl (WP.drawn [ak,ak,ak,ak,ak,ak,ak] rfl (by kernel_rfl) (by kernel_rfl) ?_)
    refine zM rfl (zN rfl (zF rfl (qL _ _) (zL rfl (s.ld (k:=1) rfl xy rfl) (zM rfl (zL rfl (s.c5 (k:=0) rfl Og xB) (aB.ki rfl rfl rfl (OpR.mapUpdate rfl rfl rfl rfl (mM (f:=fun v (x:Nat×Bool)=>.pu (v=.agg [.int .u64 (x.1:Int),.bool x.2])) (x:=(aP,true)) (fun _ _=>aQ.pu _) ((s.ae [2]).gy rfl) tO bR)) ?_))))))
    intro w h s
    refine aB.nil ⟨⟨aa,aa,aa,aa,aa,aa,aa,aa⟩,?_⟩
    refine zK 4 rfl (WP.ret ⟨aa,_,rfl,?_⟩)
    have ed:kN π n aP=aP:=by simp only [kN,g1]
    rw [ed]
    refine ⟨rfl,ey.2 ⟨bQ,wh,di,?_⟩⟩
    have e6:(π.ah.set i { f with b:=cX b aP,changed:=true }).length=π.ah.length:=cq
    show Sat h (pt r (.cells 6 (nN p q bQ (π.ah.set i { f with b:=cX b aP,changed:=true }).length wh di π.hand) false)::_)
    rw [e6]
    exact ((s.ae [2,2,4,0,2]).del 6).del 5
   ·skip
    refine zo rfl (ji rfl rfl g2) (zk 3 rfl ?_)
    refine az.cJ s rfl rfl rfl (cE xC) (fun X1 h s => ?_)
    refine zS rfl (s.iw (j:=0) rfl xB rfl rfl) (fun h s => ?_)
    refine zk 6 rfl (zo rfl (eY rfl rfl) (zk 5 rfl (zf rfl (GH _ _) ?_)))
    refine zS rfl (by exact s.iX (k:=0) rfl yf rfl (by decide) rfl rfl) (fun h s => ?_)
    refine zk 2 rfl (WP.drawn [ak,ak,ak,ak,ak,ak,ak] rfl (by kernel_rfl) (by kernel_rfl) ?_)
    refine zM rfl (zN rfl (zF rfl (qL _ _) (zL rfl (s.ld (k:=1) rfl xy rfl) (zM rfl (zL rfl (s.c5 (k:=0) rfl Og xB) (aB.ki rfl rfl rfl (OpR.mapUpdate rfl rfl rfl rfl (mM (f:=fun v (x:Nat×Bool)=>.pu (v=.agg [.int .u64 (x.1:Int),.bool x.2])) (x:=(x.1,true)) (fun _ _=>aQ.pu _) ((s.ae [2]).gy rfl) tO bR)) ?_))))))
    intro w h s
    refine aB.nil ⟨⟨aa,aa,aa,aa,aa,aa,aa,aa⟩,?_⟩
    refine zK 4 rfl (WP.ret ⟨aa,_,rfl,?_⟩)
    have ed:kN π n aP=x.1:=by simp only [kN,g1]
    rw [ed]
    refine ⟨rfl,ey.2 ⟨bQ,wh,di,?_⟩⟩
    have e6:(π.ah.set i { f with b:=cX b aP,changed:=true }).length=π.ah.length:=cq
    show Sat h (pt r (.cells 6 (nN p q bQ (π.ah.set i { f with b:=cX b aP,changed:=true }).length wh di π.hand) false)::_)
    rw [e6]
    exact ((s.ae [2,2,4,0,2]).del 6).del 5
  ·rw [ax J]
   exact zk 10 rfl (zt rfl (ag rfl rfl aI) (rfl) (zk 7 rfl (WP.ret ⟨aa,_,rfl,rfl,ey.2 ⟨bQ,wh,di,s.ae [1,1,1,1,0]⟩⟩)))
theorem Si (hT:W told){n:Int}(s:Sat h (dQ r p q π::S)): Call ⟨Tryz.prog,told⟩ 114 [.ptr r 0,.int .i64 n] h fun v h'=>v=.aX [.int .u64 (kN π n 0:Nat),.bool (lookL n π.ck).isSome]∧Sat h' (dQ r p q π::S):=by
 obtain ⟨bQ,wh,di,s⟩:=ey.1 s
 refine Call.of_wp (hT.free _ rfl) Tryz.func114 rfl rfl (zK 9 rfl (zf rfl (qL _ _) (zl rfl (s.ld (k:=0) rfl xy rfl) (zm rfl ?_))))
 rcases GU (n:=n) (s.ae [3]) with ⟨I,J,_⟩ | ⟨x,I,J,_⟩
 ·refine az.op rfl rfl rfl (ji rfl rfl J) ?_
  refine zk 3 rfl ?_
  refine az.cJ s rfl rfl rfl (cE xC) (fun p6 h s => ?_)
  refine zS rfl (s.iw (j:=0) rfl xB rfl rfl) (fun h s => ?_)
  exact zk 4 rfl (zf rfl (BO _ _) (zl rfl (s.ld (k:=0) rfl nF rfl) (zk 4 rfl (WP.ret ⟨aa,_,rfl,by simp only [kN,I]; rfl,ey.2 ⟨bQ,wh,di,s.drop⟩⟩))))
 ·skip
  refine zo rfl (ji rfl rfl J) (zk 3 rfl ?_)
  refine az.cJ s rfl rfl rfl (cE xC) (fun p6 h s => ?_)
  refine zS rfl (s.iw (j:=0) rfl xB rfl rfl) (fun h s => ?_)
  exact zk 4 rfl (zf rfl (BO _ _) (zl rfl (s.ld (k:=0) rfl nF rfl) (zk 4 rfl (WP.ret ⟨aa,_,rfl,by simp only [kN,I]; rfl,ey.2 ⟨bQ,wh,di,s.drop⟩⟩))))
def dL : Fm:=⟨-1,[],0,false,false⟩
def cF (π:Pl)(i:Nat)(f:Fm): Pl:={ π with ah:=π.ah.set i dL,bu:=if f.bg<0 then π.bu else kW f.bg π.bu }
def iz (π:Pl)(i:Nat)(n:Int)(b:List Nat): Pl:={ π with ah:=π.ah.set i ⟨n,b,1,true,false⟩,bu:=dc n (i:Int) π.bu }
inductive eO (ε:aF)(n:Int): Int→List Nat→aF→Prop where
 | arg (h:¬(0≤n∧n<ε.2.2.bh.length)):eO ε n 1 [] ε
 | AF (i:Nat) (f:Fm) (h1:0≤n) (h2:n<ε.2.2.bh.length) (hl:lookL n ε.1.bu=some (i:Int)) (hf:ε.1.ah[i]?=some f):eO ε n 0 f.b ({ ε.1 with ah:=ε.1.ah.set i { f with dP:=true,pins:=f.pins+1 } },ε.2)
 | out (fH:Pl) (i:Nat) (f:Fm) (h1:0≤n) (h2:n<ε.2.2.bh.length) (hl:lookL n ε.1.bu=none) (hn:eN ε.1 fH) (hf:fH.ah[i]?=some f) (hh:fH.hand<fH.ah.length) (he:(outF (fH,ε.2) i).1≠0):eO ε n (outF (fH,ε.2) i).1 [] (outF (fH,ε.2) i).2
 | read (fH:Pl) (i:Nat) (f:Fm) (h1:0≤n) (h2:n<ε.2.2.bh.length) (hl:lookL n ε.1.bu=none) (hn:eN ε.1 fH) (hf:fH.ah[i]?=some f) (hh:fH.hand<fH.ah.length) (he:(outF (fH,ε.2) i).1=0)
   (hr:(outF (fH,ε.2) i).2.2.2.oN n≠0):eO ε n ((outF (fH,ε.2) i).2.2.2.oN n) [] (cF (outF (fH,ε.2) i).2.1 i f,(outF (fH,ε.2) i).2.2)
 | bad (fH:Pl) (i:Nat) (f:Fm) (h1:0≤n) (h2:n<ε.2.2.bh.length) (hl:lookL n ε.1.bu=none) (hn:eN ε.1 fH) (hf:fH.ah[i]?=some f) (hh:fH.hand<fH.ah.length) (he:(outF (fH,ε.2) i).1=0)
   (hr:(outF (fH,ε.2) i).2.2.2.oN n=0) (hc:gD ((outF (fH,ε.2) i).2.2.2.at n)≠0):eO ε n (gD ((outF (fH,ε.2) i).2.2.2.at n)) [] (cF (outF (fH,ε.2) i).2.1 i f,(outF (fH,ε.2) i).2.2)
 | load (fH:Pl) (i:Nat) (f:Fm) (h1:0≤n) (h2:n<ε.2.2.bh.length) (hl:lookL n ε.1.bu=none) (hn:eN ε.1 fH) (hf:fH.ah[i]?=some f) (hh:fH.hand<fH.ah.length) (he:(outF (fH,ε.2) i).1=0)
   (hr:(outF (fH,ε.2) i).2.2.2.oN n=0) (hc:gD ((outF (fH,ε.2) i).2.2.2.at n)=0):eO ε n 0 ((outF (fH,ε.2) i).2.2.2.at n) (iz (cF (outF (fH,ε.2) i).2.1 i f) i n ((outF (fH,ε.2) i).2.2.2.at n),(outF (fH,ε.2) i).2.2)
theorem yI {ε:aF}{i:Nat}(h:ε.2.2.Ok): (outF ε i).2.2.2.Ok:=by
 unfold outF
 split
 ·exact h
 ·split
  ·exact h
  ·split
   ·exact h
   ·split
    ·exact qg h
    ·split
     ·exact (qg h).cU
     ·exact (qg h).cU
theorem MQ {ε:aF}{i:Nat}(h:ε.2.1.Ok): (outF ε i).2.2.1.Ok:=by
 unfold outF
 split
 ·exact h
 ·split
  ·exact h
  ·split
   ·exact h
   ·split
    ·exact ym h
    ·split <;> exact ym h
theorem l9 {ε:aF}{i:Nat}{f:Fm}(I:ε.1.ah[i]?=some f): ∃c,(outF ε i).2.1.ah[i]?=some { f with changed:=c }:=by
 have J:=(List.getElem?_eq_some_iff.1 I).1
 unfold outF
 rw [I]
 dsimp only
 split
 ·exact ⟨f.changed,I⟩
 ·split
  ·exact ⟨f.changed,I⟩
  ·split
   ·exact ⟨f.changed,I⟩
   ·split
    ·exact ⟨f.changed,I⟩
    ·exact ⟨false,by simp [wP,J]⟩
theorem KJ (hT:W told){n:Int}(s:Sat h (dQ r p q π::cf q p μ::bz p δ::S))(IG:π.Ok)(MP:∀f∈π.ah,f.pins=0)(Sd:μ.Ok)(Eb:δ.Ok)(hw:δ.waiting.length≤268435456):
  Call ⟨Tryz.prog,told⟩ 63 [.ptr r 0,.int .i64 n] h fun v h'=>∃(e:Int) (b:List Nat) (ε:aF),eO (π,μ,δ) n e b ε ∧
   ((e≠0∧v=.aX [.bn,.int .i64 e]∧Sat h' (dQ r p q ε.1::cf q p ε.2.1::bz p ε.2.2::S))∨(e=0∧∃u,v=.aX [u,.int .i64 0]∧Sat h' (aU u b::dQ r p q ε.1::cf q p ε.2.1::bz p ε.2.2::S))):=by
 have s0:=s
 obtain ⟨bQ,wh,di,s⟩:=ey.1 s
 refine Call.of_wp (hT.free _ rfl) Tryz.func63 rfl rfl (zK 9 rfl ?_)
 refine zd rfl (ag rfl rfl aR) ?_ ?_
 ·intro hq
  have hq:n<0:=by simpa using hq
  exact zk 16 rfl (WP.ret ⟨aa,_,rfl,1,[],(π,μ,δ),.arg (fun q=>by omega),.inl ⟨by decide,rfl,s0⟩⟩)
 ·intro hq
  have hq:0≤n:=by simp at hq; omega
  refine zk 4 rfl (zf rfl (xz _ _) (zl rfl (s.ld (k:=0) rfl sD rfl) (zc rfl (yG hT (s.ae [5])) ?_)))
  rintro v h' ⟨rfl,rfl⟩
  refine zd rfl (ag rfl rfl sB) ?_ ?_
  ·intro gv
   have gv:¬ n<δ.bh.length:=by simp at gv; omega
   exact zk 8 rfl (WP.ret ⟨aa,_,rfl,1,[],(π,μ,δ),.arg (fun q=>gv q.2),.inl ⟨by decide,rfl,s0⟩⟩)
  ·intro gv
   have gv:n<δ.bh.length:=by simp at gv; omega
   refine zk 9 rfl (zf rfl (tJ _ _) (zl rfl (s.ld (k:=0) rfl Ai rfl) (zm rfl ?_)))
   rcases GS (n:=n) (j:=0) (s.ae [2]) with ⟨g1,g2⟩ | ⟨i,g1,g2⟩
   ·refine az.op rfl rfl rfl (ji rfl rfl g2) ?_
    refine zk 15 rfl (zc rfl (MO hT s IG.hand (by have:=IG.many; omega) MP) ?_)
    rintro v h ⟨i,fH,f,rfl,mG,hf,hh,s⟩
    have hl:=(List.getElem?_eq_some_iff.1 hf).1
    rw [←mG.bu,←mG.ck] at s
    have Uj:f.b.length≤512:=by
     have h1:π.ah[i]?=some (π.ah[i]'(by have:=mG.len; omega)):=aM _
     generalize (π.ah[i]'(by have:=mG.len; omega))=f0 at h1
     obtain ⟨t,ht⟩:=mG.get i f0 h1
     rw [hf] at ht
     have:=bE ht
     rw [this]
     exact IG.len f0 (aV h1)
    refine zk 6 rfl (zh rfl (ag rfl rfl aR) (by simp <;> omega) ?_)
    refine zk 7 rfl (zf rfl (kr _ _) (zl rfl (s.ld (k:=0) rfl nG rfl) (zm rfl (zo rfl (cn rfl rfl (lK (i:=i) hl)) (zk 7 rfl (zc rfl (Se (π:=fH) hT s hf Sd Eb (by omega) hw) ?_))))))
    rintro v h ⟨rfl,s⟩
    obtain ⟨c,AG⟩:=l9 (ε:=(fH,μ,δ)) hf
    have BX:=yI (ε:=(fH,μ,δ)) (i:=i) Eb
    refine zk 5 rfl ?_
    by_cases he:(outF (fH,μ,δ) i).1=0
    ·generalize ho:outF (fH,μ,δ) i=o at he s AG BX ⊢
     obtain ⟨oe,I,Zr,vZ⟩:=o
     dsimp only at he s AG BX ⊢
     subst he
     have GW:(outF (fH,μ,δ) i).1=0:=by rw [ho]
     have nV:(outF (fH,μ,δ) i).2=(I,Zr,vZ):=by rw [ho]
     refine zh rfl (ag rfl rfl aI) (by decide) ?_
     obtain ⟨pre,fv,post,J,hlen,s⟩:=ie (s.ae [1]) AG
     refine zk 8 rfl (zf rfl (nf _ _) (zl rfl (s.ld (k:=0) rfl dS (gR J rfl)) ?_))
     refine zd rfl (ag rfl rfl sB) ?_ ?_
     ·intro nO
      have nO:¬ f.bg<0:=by simp at nO; omega
      refine zk 2 rfl (WP.drawn [ak,ak,ak,ak,ak,ak,ak,ak,ak] rfl (by kernel_rfl) (by kernel_rfl) ?_)
      refine zM rfl (zN rfl (zF rfl (tJ _ _) (zL rfl (s.ld (k:=3) rfl Ai rfl) (zM rfl (zN rfl (zF rfl (nf _ _) (zL rfl (s.ld (k:=0) rfl dS (gR J rfl)) (aB.ki rfl rfl rfl (OpR.delete rfl rfl rfl rfl (My (s.ae [4]) vO bR)) ?_))))))))
      intro v h s
      have s:=s.ae [1,1,1,1,0]
      refine aB.nil ⟨⟨aa,aa,aa,aa,aa,aa,aa,aa,aa,aa⟩,?_⟩
      refine zK 3 rfl (zo rfl (cM rfl (by rw [C4]; rfl)) ?_)
      refine zn rfl (zS rfl (s.Ed (k:=0) (row':=d_ dL .bn) rfl Aj J hlen (by simp [d_]) rfl) ?_)
      intro h s
      have II:(pre++(d_ dL .bn++post)).length=I.ah.length*5:=by simpa [d_] using hlen
      have mA:(cF I i f).bu=kW f.bg I.bu:=by simp only [cF]; rw [ai nO]
      refine zk 5 rfl (zf rfl (xz _ _) (zl rfl (s.ld (k:=3) rfl sD rfl) (zm rfl (zc rfl (KI (n:=n) hT (s.ae [7]) BX) ?_))))
      rintro v h (⟨hr,rfl,s⟩ | ⟨hr,u,rfl,s⟩)
      ·dsimp only [bringA,getA,aZ] at s
       refine zk 10 rfl (zt rfl (ag rfl rfl aI) (by simp; exact hr) ?_)
       refine zk 8 rfl (WP.ret ⟨aa,_,rfl,?_⟩)
       have s:=fb (i:=i) (f':=dL) (v':=.bn) (s.r5.ae [2,2,0]) rfl AG J
       have e6:(I.ah.set i dL).length=I.ah.length:=cq
       rw [←e6,←mA] at s
       have s:=(ey (π:=cF I i f)).2 ⟨bQ,wh,di,s.ae [3,0,2,2]⟩
       have hR:=eO.read (ε:=(π,μ,δ)) fH i f hq gv g1 mG hf hh GW (by rw [nV]; exact hr)
       rw [nV] at hR
       exact ⟨_,[],_,hR,.inl ⟨hr,rfl,(s.del 2).ae [0,1,0]⟩⟩
      ·have TY:=BX.at n
       obtain ⟨kD,_,cap,_,rfl,_⟩:=s.eH (by omega)
       refine zk 10 rfl (zh rfl (ag rfl rfl aI) (rfl) (zk 7 rfl (zc rfl (D9 hT s (bj _ _) (by omega)) ?_)))
       rintro v h ⟨rfl,s⟩
       refine zk 5 rfl ?_
       by_cases hc:gD (vZ.at n)=0
       ·skip
        refine zh rfl (ag rfl rfl aI) (by simp; exact hc) ?_
        have s:=s.gS.ae [2,2,0,2,2,2,2,0,0]
        refine zk 8 rfl (zo rfl (cM rfl (by rw [C4]; rfl)) ?_)
        refine zn rfl (zS rfl (s.Ed (k:=0) (row':=d_ ⟨n,vZ.at n,1,true,false⟩ (.sl kD 0 (vZ.at n).length cap)) rfl Aj J II (by simp [d_]) rfl) ?_)
        intro h s
        refine zk 5 rfl (zf rfl (tJ _ _) (zl rfl (s.ld (k:=3) rfl Ai rfl) (zk 2 rfl (az.ki rfl rfl (OpR.mapUpdate rfl rfl rfl rfl (mM (f:=fun v (x:Int)=>.pu (v=.int .i64 x)) (x:=(i:Int)) (fun _ _=>aQ.pu _) ((s.ae [4]).gy rfl) vO bR)) ?_))))
        intro w h s
        refine zk 4 rfl (zc rfl (ux hT (s.ae [3]) (c8 _ _) (by omega)) ?_)
        intro u h s
        refine zk 3 rfl (WP.ret ⟨aa,_,rfl,?_⟩)
        have s:=fb (i:=i) (f':=⟨n,vZ.at n,1,true,false⟩) (s.ae [3,3,1]) rfl AG J
        have e6:(I.ah.set i ⟨n,vZ.at n,1,true,false⟩).length=I.ah.length:=cq
        have e7:(iz (cF I i f) i n (vZ.at n)).ah=I.ah.set i ⟨n,vZ.at n,1,true,false⟩:=by simp only [iz,cF,wY]
        rw [←e6,←e7,←mA] at s
        have s:=(ey (π:=iz (cF I i f) i n (vZ.at n))).2 ⟨bQ,wh,di,s.ae [3,0,1,1]⟩
        have hR:=eO.load (ε:=(π,μ,δ)) fH i f hq gv g1 mG hf hh GW (by rw [nV]; exact hr) (by rw [nV]; exact hc)
        rw [nV] at hR
        exact ⟨_,_,_,hR,.inr ⟨rfl,u,rfl,(s.del 4).ae [1,0]⟩⟩
       ·skip
        refine zt rfl (ag rfl rfl aI) (by simp; exact hc) ?_
        refine zk 8 rfl (WP.ret ⟨aa,_,rfl,?_⟩)
        have s:=s.drop
        have s:=fb (i:=i) (f':=dL) (v':=.bn) (s.r5.ae [2,2,0]) rfl AG J
        have e6:(I.ah.set i dL).length=I.ah.length:=cq
        rw [←e6,←mA] at s
        have s:=(ey (π:=cF I i f)).2 ⟨bQ,wh,di,s.ae [3,0,2,2]⟩
        dsimp only [bringA,getA,aZ] at s
        have hR:=eO.bad (ε:=(π,μ,δ)) fH i f hq gv g1 mG hf hh GW (by rw [nV]; exact hr) (by rw [nV]; exact hc)
        rw [nV] at hR
        exact ⟨_,[],_,hR,.inl ⟨hc,rfl,(s.del 2).ae [0,1,0]⟩⟩
     ·intro nO
      have nO:f.bg<0:=by simp at nO; omega
      refine zk 6 rfl (zo rfl (cM rfl (by rw [C4]; rfl)) ?_)
      refine zn rfl (zS rfl (s.Ed (k:=0) (row':=d_ dL .bn) rfl Aj J hlen (by simp [d_]) rfl) ?_)
      intro h s
      dsimp only [setA] at s
      have II:(pre++(d_ dL .bn++post)).length=I.ah.length*5:=by simpa [d_] using hlen
      have mA:(cF I i f).bu=I.bu:=by simp only [cF]; rw [ax nO]
      refine zk 5 rfl (zf rfl (xz _ _) (zl rfl (s.ld (k:=3) rfl sD rfl) (zm rfl (zc rfl (KI (n:=n) hT (s.ae [7]) BX) ?_))))
      rintro v h (⟨hr,rfl,s⟩ | ⟨hr,u,rfl,s⟩)
      ·dsimp only [bringA,getA,aZ] at s
       refine zk 10 rfl (zt rfl (ag rfl rfl aI) (by simp; exact hr) ?_)
       refine zk 8 rfl (WP.ret ⟨aa,_,rfl,?_⟩)
       have s:=fb (i:=i) (f':=dL) (v':=.bn) (s.r5.ae [2,2,0]) rfl AG J
       have e6:(I.ah.set i dL).length=I.ah.length:=cq
       rw [←e6,←mA] at s
       have s:=(ey (π:=cF I i f)).2 ⟨bQ,wh,di,s.ae [3,0,2,2]⟩
       have hR:=eO.read (ε:=(π,μ,δ)) fH i f hq gv g1 mG hf hh GW (by rw [nV]; exact hr)
       rw [nV] at hR
       exact ⟨_,[],_,hR,.inl ⟨hr,rfl,(s.del 2).ae [0,1,0]⟩⟩
      ·have TY:=BX.at n
       obtain ⟨kD,_,cap,_,rfl,_⟩:=s.eH (by omega)
       refine zk 10 rfl (zh rfl (ag rfl rfl aI) (rfl) (zk 7 rfl (zc rfl (D9 hT s (bj _ _) (by omega)) ?_)))
       rintro v h ⟨rfl,s⟩
       refine zk 5 rfl ?_
       by_cases hc:gD (vZ.at n)=0
       ·skip
        refine zh rfl (ag rfl rfl aI) (by simp; exact hc) ?_
        have s:=s.gS.ae [2,2,0,2,2,2,2,0,0]
        refine zk 8 rfl (zo rfl (cM rfl (by rw [C4]; rfl)) ?_)
        refine zn rfl (zS rfl (s.Ed (k:=0) (row':=d_ ⟨n,vZ.at n,1,true,false⟩ (.sl kD 0 (vZ.at n).length cap)) rfl Aj J II (by simp [d_]) rfl) ?_)
        intro h s
        refine zk 5 rfl (zf rfl (tJ _ _) (zl rfl (s.ld (k:=3) rfl Ai rfl) (zk 2 rfl (az.ki rfl rfl (OpR.mapUpdate rfl rfl rfl rfl (mM (f:=fun v (x:Int)=>.pu (v=.int .i64 x)) (x:=(i:Int)) (fun _ _=>aQ.pu _) ((s.ae [4]).gy rfl) vO bR)) ?_))))
        intro w h s
        refine zk 4 rfl (zc rfl (ux hT (s.ae [3]) (c8 _ _) (by omega)) ?_)
        intro u h s
        refine zk 3 rfl (WP.ret ⟨aa,_,rfl,?_⟩)
        have s:=fb (i:=i) (f':=⟨n,vZ.at n,1,true,false⟩) (s.ae [3,3,1]) rfl AG J
        have e6:(I.ah.set i ⟨n,vZ.at n,1,true,false⟩).length=I.ah.length:=cq
        have e7:(iz (cF I i f) i n (vZ.at n)).ah=I.ah.set i ⟨n,vZ.at n,1,true,false⟩:=by simp only [iz,cF,wY]
        rw [←e6,←e7,←mA] at s
        have s:=(ey (π:=iz (cF I i f) i n (vZ.at n))).2 ⟨bQ,wh,di,s.ae [3,0,1,1]⟩
        dsimp only [bringA,getA,aZ] at s
        have hR:=eO.load (ε:=(π,μ,δ)) fH i f hq gv g1 mG hf hh GW (by rw [nV]; exact hr) (by rw [nV]; exact hc)
        rw [nV] at hR
        exact ⟨_,_,_,hR,.inr ⟨rfl,u,rfl,(s.del 4).ae [1,0]⟩⟩
       ·skip
        refine zt rfl (ag rfl rfl aI) (by simp; exact hc) ?_
        refine zk 8 rfl (WP.ret ⟨aa,_,rfl,?_⟩)
        have s:=s.drop
        have s:=fb (i:=i) (f':=dL) (v':=.bn) (s.r5.ae [2,2,0]) rfl AG J
        have e6:(I.ah.set i dL).length=I.ah.length:=cq
        rw [←e6,←mA] at s
        have s:=(ey (π:=cF I i f)).2 ⟨bQ,wh,di,s.ae [3,0,2,2]⟩
        have hR:=eO.bad (ε:=(π,μ,δ)) fH i f hq gv g1 mG hf hh GW (by rw [nV]; exact hr) (by rw [nV]; exact hc)
        rw [nV] at hR
        exact ⟨_,[],_,hR,.inl ⟨hc,rfl,(s.del 2).ae [0,1,0]⟩⟩
    ·skip
     refine zt rfl (ag rfl rfl aI) (by simp; exact he) ?_
     exact zk 8 rfl (WP.ret ⟨aa,_,rfl,_,[],_,.out fH i f hq gv g1 mG hf hh he,.inl ⟨he,rfl,ey.2 ⟨bQ,wh,di,s⟩⟩⟩)
   ·obtain ⟨i,f,rfl,hf⟩:=IG.at g1
    have hl:=(List.getElem?_eq_some_iff.1 hf).1
    obtain ⟨pre,fv,post,J,hlen,s⟩:=ie (s.ae [1]) hf
    have ny:=MP f (aV hf)
    have lF:=IG.len f (aV hf)
    refine zo rfl (ji rfl rfl g2) (zk 15 rfl (zf rfl (kr _ _) (zl rfl (s.ld (k:=3) rfl nG rfl) (zm rfl (zo rfl (cn rfl rfl (lK (i:=i) hl)) (zk 6 rfl (zf rfl (BM _ _) (zS rfl (s.stM (k:=0) (j:=3) rfl yf J hlen (by simp [d_]) rfl rfl) ?_))))))))
    intro h s
    refine zk 5 rfl (zf rfl (oC _ _) (zl rfl (s.ld (k:=0) rfl dS (gR J rfl)) (zb rfl (by exact bp (aA (by omega) (by omega))) ?_)))
    refine zn rfl (zf rfl (oC _ _) (zS rfl (s.stM (k:=0) (j:=2) rfl kC J (by simpa [d_] using hlen) (by simp [d_]) rfl rfl) ?_))
    intro h s
    have e5:((d_ f fv).set 3 (.bool true)).set 2 (.int .i64 (f.pins+1))=d_ { f with dP:=true,pins:=f.pins+1 } fv:=rfl
    rw [e5] at s
    refine zk 5 rfl (zf rfl (xA _ _) (zl rfl (s.ld (k:=0) rfl bK (gR J rfl)) (zc rfl (ux hT (s.ae [2]) (c8 _ _) (by omega)) ?_)))
    intro u h s
    refine zk 3 rfl (WP.ret ⟨aa,_,rfl,?_⟩)
    have s:=fb (i:=i) (f':={ f with dP:=true,pins:=f.pins+1 }) (s.ae [2,2,1]) rfl hf J
    refine ⟨0,f.b,_,.AF i f hq gv g1 hf,.inr ⟨rfl,u,rfl,?_⟩⟩
    have e6:(π.ah.set i { f with dP:=true,pins:=f.pins+1 }).length=π.ah.length:=cq
    rw [←e6] at s
    exact ((ey (π:={ π with ah:=π.ah.set i { f with dP:=true,pins:=f.pins+1 } })).2 ⟨bQ,wh,di,s.ae [2,0,1,1]⟩).ae [1,0]
end
def AH : Fm:=⟨0,[],0,false,false⟩
def Pl.fresh (n:Nat): Pl:=⟨List.replicate n dL,[],[],0⟩
theorem P3 : ∃i,Tryz.prog.info? 193=some i∧i.size=5∧i.bytes=48 :=
 ⟨_,(show Tryz.prog.info? 193=some ((Tryz.prog.info? 193).getD default) by kernel_rfl),by kernel_rfl,by kernel_rfl⟩
theorem MR {a b:PM}: ∀n:Nat,(rD (repeatL [.int .i64 0,.bn,.int .i64 0,.bool false,.bool false] n) (List.replicate n AH)).p a b:=by
 intro n
 induction n with
 | zero=>trivial
 | succ n I=>exact ⟨⟨⟨rfl,rfl,rfl,rfl⟩,⟨(by intro b J; cases J),.inl ⟨.inl rfl,rfl⟩⟩⟩,I⟩
section
variable {told:cz} {h:H} {S:List aq} {X:aq} {r k q p bQ:Nat} {v x wh di:V} {l b:List Nat} {π:Pl} {m:List Fm} {μ:Lg} {δ:Dk}
noncomputable def X2 : Code:=eC [1,1,1,0,1,0,0] ((Tryz.f81.body).getD .skip)
theorem KK {n:Nat}(hn:n<4294967296): ∀(j i:Nat) (m:List Fm) (h:H) (E:List (Nat×V)) (Q:Ex→List (Nat×V)→H→Prop),i+j=n→m=List.replicate i dL++List.replicate j AH →
  Sat h (pt r (.cells 6 (nN p q bQ n wh di 0) false)::dH bQ m::S)→Has E [(8,.ptr r 0),(28,.int .i64 n),(29,.int .i64 i)] →
  (∀E' h',Has E' [(8,.ptr r 0)]→Sat h' (pt r (.cells 6 (nN p q bQ n wh di 0) false)::dH bQ (List.replicate n dL)::S)→Q (.exit 0) E' h')→WP ⟨Tryz.prog,told⟩ 41 (.loop X2) E h Q:=by
 intro j
 induction j with
 | zero =>
  intro i m h E Q hi hm s J hx
  refine WP.loop (WP.has J (zg rfl (zh rfl (ag rfl rfl aR) (by simp <;> omega) ?_)))
  refine zk 3 rfl (WP.exit (hx _ _ ⟨rfl,aa⟩ ?_))
  rw [hm] at s
  have:i=n:=by omega
  subst this
  simpa using s
 | succ j ih =>
  intro i m h E Q hi hm s J hx
  have v7:m.length=n:=by rw [hm]; simp; omega
  have hf:m[i]?=some AH:=by rw [hm,jv (by simp)]; simp [wO]
  obtain ⟨pre,fv,post,I,hlen,s⟩:=ie (s.ae [1]) hf
  dsimp only [bringA,getA,aZ] at s
  refine WP.loop (WP.has J (zg rfl (zt rfl (ag rfl rfl aR) (by simp <;> omega) ?_)))
  refine zk 5 rfl (WP.block (zK 8 rfl (zf rfl (kr _ _) (zl rfl (s.ld (k:=3) rfl nG rfl) (zm rfl (zo rfl (cn rfl rfl (lK (i:=i) (by omega))) ?_))))))
  refine zf rfl (nf _ _) (zS rfl (s.stM (k:=0) (j:=0) rfl kC I hlen (by simp [d_]) rfl rfl) ?_)
  intro h s
  dsimp only [setA] at s
  have e5:(d_ AH fv).set 0 (.int .i64 (-1))=d_ dL fv:=rfl
  rw [e5] at s
  refine zv (zr rfl (zb rfl (by exact bp (aA (by omega) (by omega))) ?_))
  refine zm rfl (zv ?_)
  have s:=fb (i:=i) (f':=dL) s rfl hf I
  refine ih (i+1) (m.set i dL) h _ Q (by omega) ?_ (s.ae [1,0]) ⟨rfl,rfl,rfl,aa⟩ hx
  rw [hm,A0 _ _ (by simp),eT,oo,wO,List.set_cons_zero,List.replicate_succ',ep]
  rfl
theorem P4 (hT:W told){n:Int}(s:Sat h S): Call ⟨Tryz.prog,told⟩ 81 [.ptr p 0,.ptr q 0,.int .i64 n] h fun v h' =>
  (¬(1≤n∧n≤1024)∧v=.aX [.cO,.int .i64 1]∧Sat h' S)∨(1≤n∧n≤1024∧∃r,v=.aX [.ptr r 0,.int .i64 0]∧Sat h' (dQ r p q (Pl.fresh n.toNat)::S)):=by
 refine Call.of_wp (hT.free _ rfl) Tryz.func81 rfl rfl (zK 9 rfl ?_)
 refine zd rfl (ag rfl rfl aR) ?_ ?_
 ·intro J
  have J:n<1:=by simpa using J
  exact zk 11 rfl (WP.ret ⟨aa,_,rfl,.inl ⟨fun q=>by omega,rfl,s⟩⟩)
 ·intro J
  have J:1≤n:=by simp at J; omega
  refine zk 2 rfl ?_
  refine zd rfl (ag rfl rfl gA) ?_ ?_
  ·intro I
   have I:1024<n:=by simpa using I
   exact zk 8 rfl (WP.ret ⟨aa,_,rfl,.inl ⟨fun q=>by omega,rfl,s⟩⟩)
  ·intro I
   have I:n≤1024:=by simp at I; omega
   obtain ⟨n,rfl⟩:∃k:Nat,n=k:=⟨n.toNat,by omega⟩
   refine zk 9 rfl ?_
   obtain ⟨i1,iy,fF,pP⟩:=P3
   obtain ⟨id,h1,e1,s1⟩:=Ci (P:=Tryz.prog) s vX iy TH fF (by omega) rfl (by decide) (n:=n) (by omega)
   refine az.any rfl rfl rfl (OpR.of (R:=fun v h'=>v=.sl id 0 n (.exact n)∧h'=h1) (qb rfl rfl e1) ⟨rfl,rfl⟩) ?_
   rintro v h ⟨rfl,rfl⟩
   have s:Sat h (dH id (List.replicate n AH)::S):=iY.2 ⟨_,by rw [eT]; exact ((s1.gy (φ:=True) aa).hU fun a b _=>MR n).ae [1]⟩
   refine az.BD s rfl rfl rfl rfl (fun X3 h s => ?_)
   refine az.BD s rfl rfl rfl rfl (fun UT h s => ?_)
   refine zo rfl (cM rfl (by rw [TF]; rfl)) ?_
   refine az.cJ s rfl rfl rfl (fR rfl rfl) (fun X4 h s => ?_)
   refine zk 7 rfl (zf rfl (kr _ _) (zl rfl (s.ld (k:=0) rfl nG rfl) (zo rfl (aO rfl rfl rfl (oD rfl vX)) (zk 2 rfl (WP.block ?_)))))
   have s:=ry (f:=fun v (x:Nat×Bool)=>.pu (v=.agg [.int .u64 (x.1:Int),.bool x.2])) (s.ae [1])
   have s:=ry (f:=fun v (x:Int)=>.pu (v=.int .i64 x)) (s.ae [2])
   have s:=s.ae [2,2,0,0]
   refine KK (n:=n) (by omega) n 0 _ _ _ _ (by omega) rfl s ⟨rfl,rfl,rfl,aa⟩ (fun E' h' lI s' => ?_)
   refine WP.has lI (zK 6 rfl (WP.ret ⟨aa,_,rfl,?_⟩))
   refine .inr ⟨J,I,_,rfl,(ey (π:=Pl.fresh n)).2 ⟨id,.map X3,.map UT,?_⟩⟩
   have e6:(Pl.fresh n).ah.length=n:=by simp [Pl.fresh]
   rw [e6]
   exact s'
end
theorem KL {c:Nat}: ∀ {l:fN} {b:Nat},oM c b l→bornUp c b (l.map tL)=true:=by
 intro l
 induction l with
 | nil=>intro b _; rfl
 | cons e l I =>
  intro b h
  obtain ⟨J,h2,h3⟩:=h
  simp only [cu,tL,bornUp]
  rw [show (Nat.ble b e.2.2&&Nat.blt e.2.2 c)=true by rw [aH,aE]; exact ⟨J,by rw [Nat.blt]; exact aE.2 h2⟩,af]
  exact I h3
theorem IJ : ∀ {l:fN},(∀e∈l,(Lit.int .i64 e.1).wf=true)→keyInts (l.map tL)=some (l.map (·.1)):=by
 intro l
 induction l with
 | nil=>intro _; rfl
 | cons e l I =>
  intro h
  simp only [cu,tL,keyInts]
  rw [h e ct,af]
  have:=I (fun e he=>h e (cr _ he))
  rw [this]
theorem FL {x:Int}: ∀ {l:List Int},l.Pairwise (· < ·)→x∉l→(insI x l).Pairwise (· < ·):=by
 intro l
 induction l with
 | nil=>intro _ _; simp [insI]
 | cons y l ih =>
  intro h hx
  simp only [n_,gL,not_or] at h hx
  simp only [insI]
  by_cases J:x≤y
  ·rw [cZ J,af]
   have:x<y:=by omega
   simp only [n_,gL]
   refine ⟨fun z I => ?_,h⟩
   rcases I with rfl | I
   ·exact this
   ·have:=h.1 z I; omega
  ·rw [dm J,ay]
   simp only [n_]
   refine ⟨fun z I => ?_,ih h.2 hx.2⟩
   have:=(vL x l).mem_iff.1 I
   rcases List.mem_cons.1 this with rfl | I
   ·omega
   ·exact h.1 z I
theorem FM : ∀ {l:List Int},l.Nodup→(kX l).Pairwise (· < ·):=by
 intro l
 induction l with
 | nil=>intro _; exact List.Pairwise.nil
 | cons x l I =>
  intro h
  simp only [mY] at h
  exact FL (I h.2) (fun J=>h.1 ((fG l).mem_iff.1 J))
theorem MS : ∀ {l:List Int},l.Pairwise (· < ·)→oV l=true:=by
 intro l
 induction l with
 | nil=>intro _; rfl
 | cons x l I =>
  intro h
  simp only [n_] at h
  simp only [oV,aH,ob,dz]
  exact ⟨h.1,I h.2⟩
section
variable {α:Type} {f:V→α→aq} {told:cz} {h:H} {S:List aq} {mv:V} {m:List (Int×α)} {b g:Nat}
def ei (m:List (Int×α)): List Int:=kX (m.map (·.1))
theorem o7 {m:List (Int×α)}{n:Int}: n∈ei m↔n∈m.map (·.1):=(fG _).mem_iff
theorem MT (l:List Int): (gr l).all storable=true:=by simp [gr,storable]
theorem v8 (hT:W told)(s:Sat h (pt b (.cells 1 [mv] false)::jl f mv m::S))(hg:tU xE g=true)(hm:m.length≤1048576)(hk:∀n∈m.map (·.1),(Lit.int .i64 n).wf=true):
  Call ⟨Tryz.prog,told⟩ 61 [.fn (.func g) [] [.ptr b 0]] h fun v h'=>Sat h' (.arr 1 v (gr (ei m))::pt b (.cells 1 [mv] false)::jl f mv m::S):=by
 obtain ⟨id,l,c,rfl,hb,hn,s1⟩:=gj.1 (s.ae [1])
 have s1:Sat h (jk id l c::fT f l m::pt b (.cells 1 [.map id] false)::S):=s1
 obtain ⟨q1,q2,q3,q4,q5⟩:=s1.at (k:=1) rfl
 have I:=Ap q5
 have hlen:l.length=m.length:=by have:=fo List.length I; simpa using this
 have yC:=s1.row (k:=0) rfl
 have Wd:=s1.row (k:=2) rfl
 have hG:∀e∈l,(Lit.int .i64 e.1).wf=true:=fun e he=>hk e.1 (by rw [←I]; exact List.mem_map_of_mem he)
 have X5:oV (kX (l.map (·.1)))=true:=MS (FM (by rw [I]; exact hn))
 have J:∃v h',toldSorted xE [.fn (.func g) [] [.ptr b 0]] h=some (v,h')∧Sat h' (.arr 1 v (gr (ei m))::pt b (.cells 1 [.map id] false)::jl f (.map id) m::S):=by
  simp only [toldSorted,Wd,yC,er,hg,KL hb,IJ hG,X5]
  rw [show (Nat.beq 1 1&&true&&true&&Nat.ble l.length 1048576)=true by rw [aE.2 (by omega)]; rfl,af]
  simp only [af]
  cases hl:l.map (·.1) with
  | nil =>
   refine ⟨_,_,rfl,?_⟩
   have:ei m=[]:=by rw [ei,←I,hl]; rfl
   rw [this]
   exact s.mB
  | cons x xs =>
   refine ⟨_,_,rfl,?_⟩
   have e1:ei m=kX (x::xs):=by rw [ei,←I,hl]
   have e2:(kX (x::xs)).length=(x::xs).length:=(fG _).length_eq
   have e3:(x::xs).length=l.length:=by rw [←hl,er]
   rw [e1,←e3]
   refine (s.new (.cells (gr (kX (x::xs))).length (gr (kX (x::xs))) false)).hU fun a r ya=>⟨MT _,.inr ⟨h.next,(x::xs).length,.rest 1 0,(gr (kX (x::xs))).length,[],rfl,?_,?_,by simp,rfl,rfl,rfl,rfl,by simp⟩⟩
   ·rw [ff]; exact ya
   ·simp only [gr,er,e2,cC]
 obtain ⟨v,h',e1,e2⟩:=J
 exact ⟨v,h',iM.told hT.sorted Tryz.func61 rfl e1,e2⟩
end
end Go.Proofs.YtefepnnfphdkpaaGreat.Am
