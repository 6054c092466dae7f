/- ChainNeeds: a part of its proof; conditions: its statement's. -/
import Derived.Test.YtefepnnfphdkpaaGreatB22
namespace Go.Proofs.YtefepnnfphdkpaaGreat.Am
open Go
structure Pl.Ok (π:Pl): Prop where
 hand:π.hand<π.ah.length
 many:π.ah.length≤1024
 bg:∀e∈π.bg,0≤e.2∧e.2<π.ah.length
 len:∀f∈π.ah,f.b.length≤512
 pins:∀f∈π.ah,0≤f.pins∧f.pins≤4294967296
theorem Pl.Ok.at {π:Pl}(h:π.Ok){n i:Int}(J:lookL n π.bg=some i): ∃(k:Nat) (f:Fm),i=k∧π.ah[k]?=some f:=by
 have I:=h.bg _ (jT J)
 exact ⟨i.toNat,π.ah[i.toNat]'(by have:=I.2; simp only at this; omega),by have:=I.1; simp only at this; omega,aY _⟩
def heldI (π:Pl)(n:Int): Option Nat:=match lookL n π.bg with
 | none=>none
 | some i=>match π.ah[i.toNat]? with
  | none=>none
  | some f=>if f.pins=0 then none else some i.toNat
def unpinF (π:Pl)(n:Int): Int×Pl:=match heldI π n with
 | none=>(18,π)
 | some i=>match π.ah[i]? with
  | none=>(18,π)
  | some f=>(0,{ π with ah:=π.ah.set i { f with pins:=f.pins-1 } })
def j6 (π:Pl)(n:Int)(aM:Nat): Nat:=match lookL n π.bZ with
 | some x=>x.1
 | none=>aM
def jl (π:Pl)(n:Int)(b:List Nat)(aM:Nat): Int×Pl:=match heldI π n with
 | none=>(18,π)
 | some i=>match π.ah[i]? with
  | none=>(18,π)
  | some f=>if bP b=false then (4,π) else (0,{ π with ah:=π.ah.set i { f with b:=cR b aM,changed:=true },bZ:=cY n (j6 π n aM,true) π.bZ })
section
variable {told:cK} {h:H} {S:List aq} {X:aq} {r k q p bJ:Nat} {v x wh di:V} {l b:List Nat} {π:Pl} {m:List Fm} {μ:Lg} {δ:Dk}
theorem Fi {n:Int}{j:Nat}(s:Sat h (C0 wh π.bg::S)): (lookL n π.bg=none∧dK Tryz.prog h 186 wh (.int .i64 n) true=some (.aX [.int .i64 0,.bool false])) ∨
  ∃i,lookL n π.bg=some i∧dK Tryz.prog h 186 wh (.int .i64 n) true=some (.aX [.int .i64 i,.bool true]):=by
 rcases mu (f:=fun v (x:Int)=>.pu (v=.int .i64 x)) (n:=n) (fun _ _=>bn.pu _) s uD bN wF with ⟨I,J,_⟩ | ⟨u,i,I,J,_,s'⟩
 ·exact .inl ⟨I,J⟩
 ·obtain ⟨rfl,_⟩:=qa.1 s'
  exact .inr ⟨i,I,J⟩
theorem Fj {n:Int}(s:Sat h (Fh di π.bZ::S)): (lookL n π.bZ=none∧dK Tryz.prog h 187 di (.int .i64 n) true=some (.aX [.agg [.int .u64 0,.bool false],.bool false])∧dK Tryz.prog h 187 di (.int .i64 n) false=some (.agg [.int .u64 0,.bool false])) ∨
  ∃x,lookL n π.bZ=some x∧dK Tryz.prog h 187 di (.int .i64 n) true=some (.aX [.agg [.int .u64 (x.1:Int),.bool x.2],.bool true])∧dK Tryz.prog h 187 di (.int .i64 n) false=some (.agg [.int .u64 (x.1:Int),.bool x.2]):=by
 rcases mu (f:=fun v (x:Nat×Bool)=>.pu (v=.agg [.int .u64 (x.1:Int),.bool x.2])) (n:=n) (fun _ _=>bn.pu _) s sk bN vS with ⟨I,J,g3⟩ | ⟨u,x,I,J,g3,s'⟩
 ·exact .inl ⟨I,J,g3⟩
 ·obtain ⟨rfl,_⟩:=qa.1 s'
  exact .inr ⟨x,I,J,g3⟩
theorem Fk (hT:W told){n:Int}(s:Sat h (pt r (.cells 6 (mW p q bJ π.ah.length wh di π.hand) false)::dw bJ π.ah::C0 wh π.bg::S))(GS:π.Ok):
  Call ⟨Tryz.prog,told⟩ 126 [.ptr r 0,.int .i64 n] h fun v h'=>h'=h∧((heldI π n=none∧v=.aX [.cN,.int .i64 18])∨∃(i:Nat) (f:Fm),heldI π n=some i∧π.ah[i]?=some f∧v=.aX [.ptr bJ (i*5),.int .i64 0]):=by
 refine Call.of_wp (hT.free _ rfl) Tryz.func126 rfl rfl (zK 9 rfl (zf rfl (r_ _ _) (zl rfl (s.ld (k:=0) rfl yt rfl) (zm rfl ?_))))
 rcases Fi (n:=n) (j:=0) (s.ae [2]) with ⟨g1,g2⟩ | ⟨i,g1,g2⟩
 ·refine az.op rfl rfl rfl (iK rfl rfl g2) ?_
  exact zk 10 rfl (zt rfl (eY rfl rfl) (rfl) (zk 18 rfl (WP.ret ⟨aa,_,rfl,rfl,.inl ⟨by simp only [heldI,g1],rfl⟩⟩)))
 ·obtain ⟨i,f,rfl,hf⟩:=GS.at g1
  have hl:=(List.getElem?_eq_some_iff.1 hf).1
  have hh:heldI π n=if f.pins=0 then none else some i:=by simp only [heldI,g1,cW,hf]
  obtain ⟨pre,fv,post,J,hlen,s'⟩:=gJ (s.ae [1]) hf
  refine zo rfl (iK rfl rfl g2) (zk 10 rfl (zh rfl (eY rfl rfl) (rfl) (zk 3 rfl (zf rfl (jJ _ _) (zl rfl (s.ld (k:=0) rfl mO rfl) (zm rfl (zo rfl (dm rfl rfl (kM (i:=i) hl)) (zf rfl (nE _ _) (zl rfl (s'.ld (k:=0) rfl eM (gp J rfl)) ?_)))))))))
  refine zd rfl (ag rfl rfl gC) ?_ ?_
  ·intro I
   have I:f.pins=0:=by simpa using I
   exact zk 8 rfl (WP.ret ⟨aa,_,rfl,rfl,.inl ⟨by rw [hh,ax I],rfl⟩⟩)
  ·intro I
   have I:f.pins≠0:=by simpa using I
   exact zk 8 rfl (zf rfl (jJ _ _) (zl rfl (s.ld (k:=0) rfl mO rfl) (zm rfl (zo rfl (dm rfl rfl (kM (i:=i) hl)) (zk 3 rfl (WP.ret ⟨aa,_,rfl,rfl,.inr ⟨i,f,by rw [hh,ai I],hf,rfl⟩⟩))))))
theorem C2 (hT:W told){n:Int}(s:Sat h (dG r p q π::S))(J:π.Ok):
  Call ⟨Tryz.prog,told⟩ 65 [.ptr r 0,.int .i64 n] h fun v h'=>v=.int .i64 (unpinF π n).1∧Sat h' (dG r p q (unpinF π n).2::S):=by
 have s0:=s
 obtain ⟨bJ,wh,di,s⟩:=dY.1 s
 refine Call.of_wp (hT.free _ rfl) Tryz.func65 rfl rfl (zK 8 rfl (zc rfl (Fk (n:=n) hT s J) ?_))
 rintro v h' ⟨rfl,(⟨hh,rfl⟩ | ⟨i,f,hh,hf,rfl⟩)⟩
 ·have he:unpinF π n=(18,π):=by simp only [unpinF,hh]
  rw [he]
  exact zk 10 rfl (zt rfl (ag rfl rfl aL) (rfl) (zk 7 rfl (WP.ret ⟨aa,_,rfl,rfl,s0⟩)))
 ·have he:unpinF π n=(0,{ π with ah:=π.ah.set i { f with pins:=f.pins-1 } }):=by simp only [unpinF,hh,hf]
  rw [he]
  obtain ⟨pre,fv,post,I,hlen,s⟩:=gJ (s.ae [1]) hf
  have K6:=J.pins f (bh hf)
  refine zk 10 rfl (zh rfl (ag rfl rfl aL) (rfl) (zk 7 rfl (zf rfl (nE _ _) (zl rfl (s.ld (k:=0) rfl eM (gp I rfl)) (zb rfl (by exact jV (aC (by omega) (by omega))) ?_)))))
  refine zn rfl (zf rfl (nE _ _) (zS rfl (s.stM (k:=0) (j:=2) rfl mh I hlen (by simp [dP]) rfl rfl) ?_))
  intro h s
  have e5:(dP f fv).set 2 (.int .i64 (f.pins-1))=dP { f with pins:=f.pins-1 } fv:=rfl
  rw [e5] at s
  refine zk 5 rfl (WP.ret ⟨aa,_,rfl,?_⟩)
  refine ⟨rfl,dY.2 ⟨bJ,wh,di,?_⟩⟩
  have s:=eL (i:=i) (f':={ f with pins:=f.pins-1 }) s rfl hf I
  rw [b7]
  exact s.ae [1,0]
theorem NH (hT:W told){n:Int}{aM:Nat}{bv:V}(s:Sat h (dG r p q π::X::S))(hX:cI X (cL bv b))(GS:π.Ok)(hb:b.length<9223372036854775808):
  Call ⟨Tryz.prog,told⟩ 64 [.ptr r 0,.int .i64 n,bv,.int .u64 (aM:Int)] h fun v h'=>v=.int .i64 (jl π n b aM).1∧Sat h' (dG r p q (jl π n b aM).2::X::S):=by
 have s0:=s
 obtain ⟨bJ,wh,di,s⟩:=dY.1 s
 refine Call.of_wp (hT.free _ rfl) Tryz.func64 rfl rfl (zK 8 rfl (zc rfl (Fk (n:=n) hT s GS) ?_))
 rintro v h' ⟨rfl,(⟨hh,rfl⟩ | ⟨i,f,hh,hf,rfl⟩)⟩
 ·have he:jl π n b aM=(18,π):=by simp only [jl,hh]
  rw [he]
  exact zk 10 rfl (zt rfl (ag rfl rfl aL) (rfl) (zk 7 rfl (WP.ret ⟨aa,_,rfl,rfl,s0⟩)))
 ·have he:jl π n b aM=(if bP b=false then (4,π) else (0,{ π with ah:=π.ah.set i { f with b:=cR b aM,changed:=true },bZ:=cY n (j6 π n aM,true) π.bZ })):=by simp only [jl,hh,hf]
  rw [he]
  refine zk 10 rfl (zh rfl (ag rfl rfl aL) (rfl) (zk 7 rfl (zc rfl (Nw (n:=aM) hT (s.ae [4]) hX hb) ?_)))
  rintro v h (⟨J,u,rfl,s⟩ | ⟨J,rfl,s⟩)
  ·rw [ai (by rw [J]; decide)]
   have Vh:(cR b aM).length=512:=by
    have h1:=sW (n:=aM) (gE J)
    rw [cR,ct (by rw [dy]; omega),h1]
   obtain ⟨jR,_,cap,_,rfl,_⟩:=s.eo (by omega)
   have s:=s.gR
   obtain ⟨pre,fv,post,I,hlen,s⟩:=gJ (s.ae [3]) hf
   refine zk 10 rfl (zh rfl (ag rfl rfl aL) (rfl) (zk 9 rfl (zf rfl (vQ _ _) (zS rfl (s.stM (k:=0) (j:=1) rfl jX I hlen (by simp [dP]) rfl rfl) ?_))))
   intro h s
   refine zn rfl (zf rfl (AA _ _) (zS rfl (s.stM (k:=0) (j:=4) rfl wG I (by simpa [dP] using hlen) (by simp [dP]) rfl rfl) ?_))
   intro h s
   have e5:((dP f fv).set 1 (.sl jR 0 (cR b aM).length cap)).set 4 (.bool true)=dP { f with b:=cR b aM,changed:=true } (.sl jR 0 (cR b aM).length cap):=rfl
   rw [e5] at s
   have s:=eL (i:=i) (f':={ f with b:=cR b aM,changed:=true }) (s.ae [0,0,1]) rfl hf I
   have s:=s.ae [3,4,0]
   refine zk 5 rfl (zf rfl (pM _ _) (zl rfl (s.ld (k:=0) rfl vO rfl) (zm rfl ?_)))
   rcases Fj (n:=n) (s.ae [1]) with ⟨g1,g2,_⟩ | ⟨x,g1,g2,_⟩
   ·refine az.op rfl rfl rfl (iK rfl rfl g2) ?_
    refine zk 3 rfl ?_
    refine az.cr s rfl rfl rfl (ck vS) (fun Vi h s => ?_)
    refine zS rfl (s.gQ (j:=0) rfl vR rfl rfl) (fun h s => ?_)
    refine zk 6 rfl (zo rfl (eY rfl rfl) (zk 4 rfl (zf rfl (AB _ _) ?_)))
    refine zS rfl (by exact s.iw (k:=0) rfl Gr rfl (by decide) rfl rfl) (fun h s => ?_)
    refine zk 3 rfl (zf rfl (E5 _ _) ?_)
    refine zS rfl (by exact s.iw (k:=0) rfl wG rfl (by decide) rfl rfl) (fun h s => ?_)
    refine zk 2 rfl (WP.drawn [ak,ak,ak,ak,ak,ak,ak] rfl (by kernel_rfl) (by kernel_rfl) ?_)
    refine zM rfl (zN rfl (zF rfl (pM _ _) (zL rfl (s.ld (k:=1) rfl vO rfl) (zM rfl (zL rfl (s.cP (k:=0) rfl Me vR) (aB.jG rfl rfl rfl (OpR.mapUpdate rfl rfl rfl rfl (lT (f:=fun v (x:Nat×Bool)=>.pu (v=.agg [.int .u64 (x.1:Int),.bool x.2])) (x:=(aM,true)) (fun _ _=>bn.pu _) ((s.ae [2]).iP rfl) sk bN)) ?_))))))
    intro w h s
    refine aB.nil ⟨⟨aa,aa,aa,aa,aa,aa,aa,aa⟩,?_⟩
    refine zK 4 rfl (WP.ret ⟨aa,_,rfl,?_⟩)
    have ed:j6 π n aM=aM:=by simp only [j6,g1]
    rw [ed]
    refine ⟨rfl,dY.2 ⟨bJ,wh,di,?_⟩⟩
    have e6:(π.ah.set i { f with b:=cR b aM,changed:=true }).length=π.ah.length:=b7
    show Sat h (pt r (.cells 6 (mW p q bJ (π.ah.set i { f with b:=cR b aM,changed:=true }).length wh di π.hand) false)::_)
    rw [e6]
    exact ((s.ae [2,2,4,0,2]).del 6).del 5
   ·skip
    refine zo rfl (iK rfl rfl g2) (zk 3 rfl ?_)
    refine az.cr s rfl rfl rfl (ck vS) (fun Vi h s => ?_)
    refine zS rfl (s.gQ (j:=0) rfl vR rfl rfl) (fun h s => ?_)
    refine zk 6 rfl (zo rfl (eY rfl rfl) (zk 5 rfl (zf rfl (E5 _ _) ?_)))
    refine zS rfl (by exact s.iw (k:=0) rfl wG rfl (by decide) rfl rfl) (fun h s => ?_)
    refine zk 2 rfl (WP.drawn [ak,ak,ak,ak,ak,ak,ak] rfl (by kernel_rfl) (by kernel_rfl) ?_)
    refine zM rfl (zN rfl (zF rfl (pM _ _) (zL rfl (s.ld (k:=1) rfl vO rfl) (zM rfl (zL rfl (s.cP (k:=0) rfl Me vR) (aB.jG rfl rfl rfl (OpR.mapUpdate rfl rfl rfl rfl (lT (f:=fun v (x:Nat×Bool)=>.pu (v=.agg [.int .u64 (x.1:Int),.bool x.2])) (x:=(x.1,true)) (fun _ _=>bn.pu _) ((s.ae [2]).iP rfl) sk bN)) ?_))))))
    intro w h s
    refine aB.nil ⟨⟨aa,aa,aa,aa,aa,aa,aa,aa⟩,?_⟩
    refine zK 4 rfl (WP.ret ⟨aa,_,rfl,?_⟩)
    have ed:j6 π n aM=x.1:=by simp only [j6,g1]
    rw [ed]
    refine ⟨rfl,dY.2 ⟨bJ,wh,di,?_⟩⟩
    have e6:(π.ah.set i { f with b:=cR b aM,changed:=true }).length=π.ah.length:=b7
    show Sat h (pt r (.cells 6 (mW p q bJ (π.ah.set i { f with b:=cR b aM,changed:=true }).length wh di π.hand) false)::_)
    rw [e6]
    exact ((s.ae [2,2,4,0,2]).del 6).del 5
  ·rw [ax J]
   exact zk 10 rfl (zt rfl (ag rfl rfl aL) (rfl) (zk 7 rfl (WP.ret ⟨aa,_,rfl,rfl,dY.2 ⟨bJ,wh,di,s.ae [1,1,1,1,0]⟩⟩)))
theorem PY (hT:W told){n:Int}(s:Sat h (dG r p q π::S)): Call ⟨Tryz.prog,told⟩ 114 [.ptr r 0,.int .i64 n] h fun v h'=>v=.aX [.int .u64 (j6 π n 0:Nat),.bool (lookL n π.bZ).isSome]∧Sat h' (dG r p q π::S):=by
 obtain ⟨bJ,wh,di,s⟩:=dY.1 s
 refine Call.of_wp (hT.free _ rfl) Tryz.func114 rfl rfl (zK 9 rfl (zf rfl (pM _ _) (zl rfl (s.ld (k:=0) rfl vO rfl) (zm rfl ?_))))
 rcases Fj (n:=n) (s.ae [3]) with ⟨I,J,_⟩ | ⟨x,I,J,_⟩
 ·refine az.op rfl rfl rfl (iK rfl rfl J) ?_
  refine zk 3 rfl ?_
  refine az.cr s rfl rfl rfl (ck vS) (fun p6 h s => ?_)
  refine zS rfl (s.gQ (j:=0) rfl vR rfl rfl) (fun h s => ?_)
  exact zk 4 rfl (zf rfl (AB _ _) (zl rfl (s.ld (k:=0) rfl mN rfl) (zk 4 rfl (WP.ret ⟨aa,_,rfl,by simp only [j6,I]; rfl,dY.2 ⟨bJ,wh,di,s.drop⟩⟩))))
 ·skip
  refine zo rfl (iK rfl rfl J) (zk 3 rfl ?_)
  refine az.cr s rfl rfl rfl (ck vS) (fun p6 h s => ?_)
  refine zS rfl (s.gQ (j:=0) rfl vR rfl rfl) (fun h s => ?_)
  exact zk 4 rfl (zf rfl (AB _ _) (zl rfl (s.ld (k:=0) rfl mN rfl) (zk 4 rfl (WP.ret ⟨aa,_,rfl,by simp only [j6,I]; rfl,dY.2 ⟨bJ,wh,di,s.drop⟩⟩))))
def dz : Fm:=⟨-1,[],0,false,false⟩
def cA (π:Pl)(i:Nat)(f:Fm): Pl:={ π with ah:=π.ah.set i dz,bg:=if f.aU<0 then π.bg else ko f.aU π.bg }
def gS (π:Pl)(i:Nat)(n:Int)(b:List Nat): Pl:={ π with ah:=π.ah.set i ⟨n,b,1,true,false⟩,bg:=cY n (i:Int) π.bg }
inductive ey (ε:aF)(n:Int): Int→List Nat→aF→Prop where
 | arg (h:¬(0≤n∧n<ε.2.2.aW.length)):ey ε n 1 [] ε
 | yN (i:Nat) (f:Fm) (h1:0≤n) (h2:n<ε.2.2.aW.length) (hl:lookL n ε.1.bg=some (i:Int)) (hf:ε.1.ah[i]?=some f):ey ε n 0 f.b ({ ε.1 with ah:=ε.1.ah.set i { f with dD:=true,pins:=f.pins+1 } },ε.2)
 | out (fb:Pl) (i:Nat) (f:Fm) (h1:0≤n) (h2:n<ε.2.2.aW.length) (hl:lookL n ε.1.bg=none) (hn:ew ε.1 fb) (hf:fb.ah[i]?=some f) (hh:fb.hand<fb.ah.length) (he:(outF (fb,ε.2) i).1≠0):ey ε n (outF (fb,ε.2) i).1 [] (outF (fb,ε.2) i).2
 | read (fb:Pl) (i:Nat) (f:Fm) (h1:0≤n) (h2:n<ε.2.2.aW.length) (hl:lookL n ε.1.bg=none) (hn:ew ε.1 fb) (hf:fb.ah[i]?=some f) (hh:fb.hand<fb.ah.length) (he:(outF (fb,ε.2) i).1=0)
   (hr:(outF (fb,ε.2) i).2.2.2.nO n≠0):ey ε n ((outF (fb,ε.2) i).2.2.2.nO n) [] (cA (outF (fb,ε.2) i).2.1 i f,(outF (fb,ε.2) i).2.2)
 | bad (fb:Pl) (i:Nat) (f:Fm) (h1:0≤n) (h2:n<ε.2.2.aW.length) (hl:lookL n ε.1.bg=none) (hn:ew ε.1 fb) (hf:fb.ah[i]?=some f) (hh:fb.hand<fb.ah.length) (he:(outF (fb,ε.2) i).1=0)
   (hr:(outF (fb,ε.2) i).2.2.2.nO n=0) (hc:ga ((outF (fb,ε.2) i).2.2.2.at n)≠0):ey ε n (ga ((outF (fb,ε.2) i).2.2.2.at n)) [] (cA (outF (fb,ε.2) i).2.1 i f,(outF (fb,ε.2) i).2.2)
 | load (fb:Pl) (i:Nat) (f:Fm) (h1:0≤n) (h2:n<ε.2.2.aW.length) (hl:lookL n ε.1.bg=none) (hn:ew ε.1 fb) (hf:fb.ah[i]?=some f) (hh:fb.hand<fb.ah.length) (he:(outF (fb,ε.2) i).1=0)
   (hr:(outF (fb,ε.2) i).2.2.2.nO n=0) (hc:ga ((outF (fb,ε.2) i).2.2.2.at n)=0):ey ε n 0 ((outF (fb,ε.2) i).2.2.2.at n) (gS (cA (outF (fb,ε.2) i).2.1 i f) i n ((outF (fb,ε.2) i).2.2.2.at n),(outF (fb,ε.2) i).2.2)
theorem w9 {ε:aF}{i:Nat}(h:ε.2.2.Ok): (outF ε i).2.2.2.Ok:=by
 unfold outF
 split
 ·exact h
 ·split
  ·exact h
  ·split
   ·exact h
   ·split
    ·exact oQ h
    ·split
     ·exact (oQ h).cJ
     ·exact (oQ h).cJ
theorem K7 {ε:aF}{i:Nat}(h:ε.2.1.Ok): (outF ε i).2.2.1.Ok:=by
 unfold outF
 split
 ·exact h
 ·split
  ·exact h
  ·split
   ·exact h
   ·split
    ·exact wJ h
    ·split <;> exact wJ h
theorem lp {ε:aF}{i:Nat}{f:Fm}(I:ε.1.ah[i]?=some f): ∃c,(outF ε i).2.1.ah[i]?=some { f with changed:=c }:=by
 have J:=(List.getElem?_eq_some_iff.1 I).1
 unfold outF
 rw [I]
 dsimp only
 split
 ·exact ⟨f.changed,I⟩
 ·split
  ·exact ⟨f.changed,I⟩
  ·split
   ·exact ⟨f.changed,I⟩
   ·split
    ·exact ⟨f.changed,I⟩
    ·exact ⟨false,by simp [vk,J]⟩
theorem I9 (hT:W told){n:Int}(s:Sat h (dG r p q π::bW q p μ::bp p δ::S))(GS:π.Ok)(K6:∀f∈π.ah,f.pins=0)(K0:μ.Ok)(CZ:δ.Ok)(hw:δ.waiting.length≤268435456):
  Call ⟨Tryz.prog,told⟩ 63 [.ptr r 0,.int .i64 n] h fun v h'=>∃(e:Int) (b:List Nat) (ε:aF),ey (π,μ,δ) n e b ε ∧
   ((e≠0∧v=.aX [.bu,.int .i64 e]∧Sat h' (dG r p q ε.1::bW q p ε.2.1::bp p ε.2.2::S))∨(e=0∧∃u,v=.aX [u,.int .i64 0]∧Sat h' (aP u b::dG r p q ε.1::bW q p ε.2.1::bp p ε.2.2::S))):=by
 have s0:=s
 obtain ⟨bJ,wh,di,s⟩:=dY.1 s
 refine Call.of_wp (hT.free _ rfl) Tryz.func63 rfl rfl (zK 9 rfl ?_)
 refine zd rfl (ag rfl rfl bf) ?_ ?_
 ·intro hq
  have hq:n<0:=by simpa using hq
  exact zk 16 rfl (WP.ret ⟨aa,_,rfl,1,[],(π,μ,δ),.arg (fun q=>by omega),.inl ⟨by decide,rfl,s0⟩⟩)
 ·intro hq
  have hq:0≤n:=by simp at hq; omega
  refine zk 4 rfl (zf rfl (vP _ _) (zl rfl (s.ld (k:=0) rfl rf rfl) (zc rfl (w6 hT (s.ae [5])) ?_)))
  rintro v h' ⟨rfl,rfl⟩
  refine zd rfl (ag rfl rfl uw) ?_ ?_
  ·intro fU
   have fU:¬ n<δ.aW.length:=by simp at fU; omega
   exact zk 8 rfl (WP.ret ⟨aa,_,rfl,1,[],(π,μ,δ),.arg (fun q=>fU q.2),.inl ⟨by decide,rfl,s0⟩⟩)
  ·intro fU
   have fU:n<δ.aW.length:=by simp at fU; omega
   refine zk 9 rfl (zf rfl (r_ _ _) (zl rfl (s.ld (k:=0) rfl yt rfl) (zm rfl ?_)))
   rcases Fi (n:=n) (j:=0) (s.ae [2]) with ⟨g1,g2⟩ | ⟨i,g1,g2⟩
   ·refine az.op rfl rfl rfl (iK rfl rfl g2) ?_
    refine zk 15 rfl (zc rfl (K5 hT s GS.hand (by have:=GS.many; omega) K6) ?_)
    rintro v h ⟨i,fb,f,rfl,lN,hf,hh,s⟩
    have hl:=(List.getElem?_eq_some_iff.1 hf).1
    rw [←lN.bg,←lN.bZ] at s
    have RM:f.b.length≤512:=by
     have h1:π.ah[i]?=some (π.ah[i]'(by have:=lN.len; omega)):=aY _
     generalize (π.ah[i]'(by have:=lN.len; omega))=f0 at h1
     obtain ⟨t,ht⟩:=lN.get i f0 h1
     rw [hf] at ht
     have:=bG ht
     rw [this]
     exact GS.len f0 (bh h1)
    refine zk 6 rfl (zh rfl (ag rfl rfl bf) (by simp <;> omega) ?_)
    refine zk 7 rfl (zf rfl (jJ _ _) (zl rfl (s.ld (k:=0) rfl mO rfl) (zm rfl (zo rfl (dm rfl rfl (kM (i:=i) hl)) (zk 7 rfl (zc rfl (PU (π:=fb) hT s hf K0 CZ (by omega) hw) ?_))))))
    rintro v h ⟨rfl,s⟩
    obtain ⟨c,yO⟩:=lp (ε:=(fb,μ,δ)) hf
    have AK:=w9 (ε:=(fb,μ,δ)) (i:=i) CZ
    refine zk 5 rfl ?_
    by_cases he:(outF (fb,μ,δ) i).1=0
    ·generalize ho:outF (fb,μ,δ) i=o at he s yO AK ⊢
     obtain ⟨oe,I,Wq,uR⟩:=o
     dsimp only at he s yO AK ⊢
     subst he
     have Fl:(outF (fb,μ,δ) i).1=0:=by rw [ho]
     have m7:(outF (fb,μ,δ) i).2=(I,Wq,uR):=by rw [ho]
     refine zh rfl (ag rfl rfl aL) (by decide) ?_
     obtain ⟨pre,fv,post,J,hlen,s⟩:=gJ (s.ae [1]) yO
     refine zk 8 rfl (zf rfl (mq _ _) (zl rfl (s.ld (k:=0) rfl eM (gp J rfl)) ?_))
     refine zd rfl (ag rfl rfl uw) ?_ ?_
     ·intro mX
      have mX:¬ f.aU<0:=by simp at mX; omega
      refine zk 2 rfl (WP.drawn [ak,ak,ak,ak,ak,ak,ak,ak,ak] rfl (by kernel_rfl) (by kernel_rfl) ?_)
      refine zM rfl (zN rfl (zF rfl (r_ _ _) (zL rfl (s.ld (k:=3) rfl yt rfl) (zM rfl (zN rfl (zF rfl (mq _ _) (zL rfl (s.ld (k:=0) rfl eM (gp J rfl)) (aB.jG rfl rfl rfl (OpR.delete rfl rfl rfl rfl (KO (s.ae [4]) uD bN)) ?_))))))))
      intro v h s
      have s:=s.ae [1,1,1,1,0]
      refine aB.nil ⟨⟨aa,aa,aa,aa,aa,aa,aa,aa,aa,aa⟩,?_⟩
      refine zK 3 rfl (zo rfl (cX rfl (by rw [BR]; rfl)) ?_)
      refine zn rfl (zS rfl (s.C1 (k:=0) (row':=dP dz .bu) rfl yu J hlen (by simp [dP]) rfl) ?_)
      intro h s
      have GU:(pre++(dP dz .bu++post)).length=I.ah.length*5:=by simpa [dP] using hlen
      have mK:(cA I i f).bg=ko f.aU I.bg:=by simp only [cA]; rw [ai mX]
      refine zk 5 rfl (zf rfl (vP _ _) (zl rfl (s.ld (k:=3) rfl rf rfl) (zm rfl (zc rfl (I8 (n:=n) hT (s.ae [7]) AK) ?_))))
      rintro v h (⟨hr,rfl,s⟩ | ⟨hr,u,rfl,s⟩)
      ·dsimp only [bringA,getA,aZ] at s
       refine zk 10 rfl (zt rfl (ag rfl rfl aL) (by simp; exact hr) ?_)
       refine zk 8 rfl (WP.ret ⟨aa,_,rfl,?_⟩)
       have s:=eL (i:=i) (f':=dz) (v':=.bu) (s.qM.ae [2,2,0]) rfl yO J
       have e6:(I.ah.set i dz).length=I.ah.length:=b7
       rw [←e6,←mK] at s
       have s:=(dY (π:=cA I i f)).2 ⟨bJ,wh,di,s.ae [3,0,2,2]⟩
       have hR:=ey.read (ε:=(π,μ,δ)) fb i f hq fU g1 lN hf hh Fl (by rw [m7]; exact hr)
       rw [m7] at hR
       exact ⟨_,[],_,hR,.inl ⟨hr,rfl,(s.del 2).ae [0,1,0]⟩⟩
      ·have Rq:=AK.at n
       obtain ⟨jR,_,cap,_,rfl,_⟩:=s.eo (by omega)
       refine zk 10 rfl (zh rfl (ag rfl rfl aL) (rfl) (zk 7 rfl (zc rfl (CV hT s (aR _ _) (by omega)) ?_)))
       rintro v h ⟨rfl,s⟩
       refine zk 5 rfl ?_
       by_cases hc:ga (uR.at n)=0
       ·skip
        refine zh rfl (ag rfl rfl aL) (by simp; exact hc) ?_
        have s:=s.gR.ae [2,2,0,2,2,2,2,0,0]
        refine zk 8 rfl (zo rfl (cX rfl (by rw [BR]; rfl)) ?_)
        refine zn rfl (zS rfl (s.C1 (k:=0) (row':=dP ⟨n,uR.at n,1,true,false⟩ (.sl jR 0 (uR.at n).length cap)) rfl yu J GU (by simp [dP]) rfl) ?_)
        intro h s
        refine zk 5 rfl (zf rfl (r_ _ _) (zl rfl (s.ld (k:=3) rfl yt rfl) (zk 2 rfl (az.jG rfl rfl (OpR.mapUpdate rfl rfl rfl rfl (lT (f:=fun v (x:Int)=>.pu (v=.int .i64 x)) (x:=(i:Int)) (fun _ _=>bn.pu _) ((s.ae [4]).iP rfl) uD bN)) ?_))))
        intro w h s
        refine zk 4 rfl (zc rfl (sV hT (s.ae [3]) (dZ _ _) (by omega)) ?_)
        intro u h s
        refine zk 3 rfl (WP.ret ⟨aa,_,rfl,?_⟩)
        have s:=eL (i:=i) (f':=⟨n,uR.at n,1,true,false⟩) (s.ae [3,3,1]) rfl yO J
        have e6:(I.ah.set i ⟨n,uR.at n,1,true,false⟩).length=I.ah.length:=b7
        have e7:(gS (cA I i f) i n (uR.at n)).ah=I.ah.set i ⟨n,uR.at n,1,true,false⟩:=by simp only [gS,cA,vt]
        rw [←e6,←e7,←mK] at s
        have s:=(dY (π:=gS (cA I i f) i n (uR.at n))).2 ⟨bJ,wh,di,s.ae [3,0,1,1]⟩
        have hR:=ey.load (ε:=(π,μ,δ)) fb i f hq fU g1 lN hf hh Fl (by rw [m7]; exact hr) (by rw [m7]; exact hc)
        rw [m7] at hR
        exact ⟨_,_,_,hR,.inr ⟨rfl,u,rfl,(s.del 4).ae [1,0]⟩⟩
       ·skip
        refine zt rfl (ag rfl rfl aL) (by simp; exact hc) ?_
        refine zk 8 rfl (WP.ret ⟨aa,_,rfl,?_⟩)
        have s:=s.drop
        have s:=eL (i:=i) (f':=dz) (v':=.bu) (s.qM.ae [2,2,0]) rfl yO J
        have e6:(I.ah.set i dz).length=I.ah.length:=b7
        rw [←e6,←mK] at s
        have s:=(dY (π:=cA I i f)).2 ⟨bJ,wh,di,s.ae [3,0,2,2]⟩
        dsimp only [bringA,getA,aZ] at s
        have hR:=ey.bad (ε:=(π,μ,δ)) fb i f hq fU g1 lN hf hh Fl (by rw [m7]; exact hr) (by rw [m7]; exact hc)
        rw [m7] at hR
        exact ⟨_,[],_,hR,.inl ⟨hc,rfl,(s.del 2).ae [0,1,0]⟩⟩
     ·intro mX
      have mX:f.aU<0:=by simp at mX; omega
      refine zk 6 rfl (zo rfl (cX rfl (by rw [BR]; rfl)) ?_)
      refine zn rfl (zS rfl (s.C1 (k:=0) (row':=dP dz .bu) rfl yu J hlen (by simp [dP]) rfl) ?_)
      intro h s
      dsimp only [setA] at s
      have GU:(pre++(dP dz .bu++post)).length=I.ah.length*5:=by simpa [dP] using hlen
      have mK:(cA I i f).bg=I.bg:=by simp only [cA]; rw [ax mX]
      refine zk 5 rfl (zf rfl (vP _ _) (zl rfl (s.ld (k:=3) rfl rf rfl) (zm rfl (zc rfl (I8 (n:=n) hT (s.ae [7]) AK) ?_))))
      rintro v h (⟨hr,rfl,s⟩ | ⟨hr,u,rfl,s⟩)
      ·dsimp only [bringA,getA,aZ] at s
       refine zk 10 rfl (zt rfl (ag rfl rfl aL) (by simp; exact hr) ?_)
       refine zk 8 rfl (WP.ret ⟨aa,_,rfl,?_⟩)
       have s:=eL (i:=i) (f':=dz) (v':=.bu) (s.qM.ae [2,2,0]) rfl yO J
       have e6:(I.ah.set i dz).length=I.ah.length:=b7
       rw [←e6,←mK] at s
       have s:=(dY (π:=cA I i f)).2 ⟨bJ,wh,di,s.ae [3,0,2,2]⟩
       have hR:=ey.read (ε:=(π,μ,δ)) fb i f hq fU g1 lN hf hh Fl (by rw [m7]; exact hr)
       rw [m7] at hR
       exact ⟨_,[],_,hR,.inl ⟨hr,rfl,(s.del 2).ae [0,1,0]⟩⟩
      ·have Rq:=AK.at n
       obtain ⟨jR,_,cap,_,rfl,_⟩:=s.eo (by omega)
       refine zk 10 rfl (zh rfl (ag rfl rfl aL) (rfl) (zk 7 rfl (zc rfl (CV hT s (aR _ _) (by omega)) ?_)))
       rintro v h ⟨rfl,s⟩
       refine zk 5 rfl ?_
       by_cases hc:ga (uR.at n)=0
       ·skip
        refine zh rfl (ag rfl rfl aL) (by simp; exact hc) ?_
        have s:=s.gR.ae [2,2,0,2,2,2,2,0,0]
        refine zk 8 rfl (zo rfl (cX rfl (by rw [BR]; rfl)) ?_)
        refine zn rfl (zS rfl (s.C1 (k:=0) (row':=dP ⟨n,uR.at n,1,true,false⟩ (.sl jR 0 (uR.at n).length cap)) rfl yu J GU (by simp [dP]) rfl) ?_)
        intro h s
        refine zk 5 rfl (zf rfl (r_ _ _) (zl rfl (s.ld (k:=3) rfl yt rfl) (zk 2 rfl (az.jG rfl rfl (OpR.mapUpdate rfl rfl rfl rfl (lT (f:=fun v (x:Int)=>.pu (v=.int .i64 x)) (x:=(i:Int)) (fun _ _=>bn.pu _) ((s.ae [4]).iP rfl) uD bN)) ?_))))
        intro w h s
        refine zk 4 rfl (zc rfl (sV hT (s.ae [3]) (dZ _ _) (by omega)) ?_)
        intro u h s
        refine zk 3 rfl (WP.ret ⟨aa,_,rfl,?_⟩)
        have s:=eL (i:=i) (f':=⟨n,uR.at n,1,true,false⟩) (s.ae [3,3,1]) rfl yO J
        have e6:(I.ah.set i ⟨n,uR.at n,1,true,false⟩).length=I.ah.length:=b7
        have e7:(gS (cA I i f) i n (uR.at n)).ah=I.ah.set i ⟨n,uR.at n,1,true,false⟩:=by simp only [gS,cA,vt]
        rw [←e6,←e7,←mK] at s
        have s:=(dY (π:=gS (cA I i f) i n (uR.at n))).2 ⟨bJ,wh,di,s.ae [3,0,1,1]⟩
        dsimp only [bringA,getA,aZ] at s
        have hR:=ey.load (ε:=(π,μ,δ)) fb i f hq fU g1 lN hf hh Fl (by rw [m7]; exact hr) (by rw [m7]; exact hc)
        rw [m7] at hR
        exact ⟨_,_,_,hR,.inr ⟨rfl,u,rfl,(s.del 4).ae [1,0]⟩⟩
       ·skip
        refine zt rfl (ag rfl rfl aL) (by simp; exact hc) ?_
        refine zk 8 rfl (WP.ret ⟨aa,_,rfl,?_⟩)
        have s:=s.drop
        have s:=eL (i:=i) (f':=dz) (v':=.bu) (s.qM.ae [2,2,0]) rfl yO J
        have e6:(I.ah.set i dz).length=I.ah.length:=b7
        rw [←e6,←mK] at s
        have s:=(dY (π:=cA I i f)).2 ⟨bJ,wh,di,s.ae [3,0,2,2]⟩
        have hR:=ey.bad (ε:=(π,μ,δ)) fb i f hq fU g1 lN hf hh Fl (by rw [m7]; exact hr) (by rw [m7]; exact hc)
        rw [m7] at hR
        exact ⟨_,[],_,hR,.inl ⟨hc,rfl,(s.del 2).ae [0,1,0]⟩⟩
    ·skip
     refine zt rfl (ag rfl rfl aL) (by simp; exact he) ?_
     exact zk 8 rfl (WP.ret ⟨aa,_,rfl,_,[],_,.out fb i f hq fU g1 lN hf hh he,.inl ⟨he,rfl,dY.2 ⟨bJ,wh,di,s⟩⟩⟩)
   ·obtain ⟨i,f,rfl,hf⟩:=GS.at g1
    have hl:=(List.getElem?_eq_some_iff.1 hf).1
    obtain ⟨pre,fv,post,J,hlen,s⟩:=gJ (s.ae [1]) hf
    have uc:=K6 f (bh hf)
    have sr:=GS.len f (bh hf)
    refine zo rfl (iK rfl rfl g2) (zk 15 rfl (zf rfl (jJ _ _) (zl rfl (s.ld (k:=3) rfl mO rfl) (zm rfl (zo rfl (dm rfl rfl (kM (i:=i) hl)) (zk 6 rfl (zf rfl (Az _ _) (zS rfl (s.stM (k:=0) (j:=3) rfl wG J hlen (by simp [dP]) rfl rfl) ?_))))))))
    intro h s
    refine zk 5 rfl (zf rfl (nE _ _) (zl rfl (s.ld (k:=0) rfl eM (gp J rfl)) (zb rfl (by exact bB (aC (by omega) (by omega))) ?_)))
    refine zn rfl (zf rfl (nE _ _) (zS rfl (s.stM (k:=0) (j:=2) rfl mh J (by simpa [dP] using hlen) (by simp [dP]) rfl rfl) ?_))
    intro h s
    have e5:((dP f fv).set 3 (.bool true)).set 2 (.int .i64 (f.pins+1))=dP { f with dD:=true,pins:=f.pins+1 } fv:=rfl
    rw [e5] at s
    refine zk 5 rfl (zf rfl (vQ _ _) (zl rfl (s.ld (k:=0) rfl bK (gp J rfl)) (zc rfl (sV hT (s.ae [2]) (dZ _ _) (by omega)) ?_)))
    intro u h s
    refine zk 3 rfl (WP.ret ⟨aa,_,rfl,?_⟩)
    have s:=eL (i:=i) (f':={ f with dD:=true,pins:=f.pins+1 }) (s.ae [2,2,1]) rfl hf J
    refine ⟨0,f.b,_,.yN i f hq fU g1 hf,.inr ⟨rfl,u,rfl,?_⟩⟩
    have e6:(π.ah.set i { f with dD:=true,pins:=f.pins+1 }).length=π.ah.length:=b7
    rw [←e6] at s
    exact ((dY (π:={ π with ah:=π.ah.set i { f with dD:=true,pins:=f.pins+1 } })).2 ⟨bJ,wh,di,s.ae [2,0,1,1]⟩).ae [1,0]
end
def yP : Fm:=⟨0,[],0,false,false⟩
def Pl.fresh (n:Nat): Pl:=⟨List.replicate n dz,[],[],0⟩
theorem NI : ∃i,Tryz.prog.info? 193=some i∧i.size=5∧i.bytes=48 :=
 ⟨_,(show Tryz.prog.info? 193=some ((Tryz.prog.info? 193).getD default) by kernel_rfl),by kernel_rfl,by kernel_rfl⟩
theorem K8 {a b:PM}: ∀n:Nat,(qn (repeatL [.int .i64 0,.bu,.int .i64 0,.bool false,.bool false] n) (List.replicate n yP)).p a b:=by
 intro n
 induction n with
 | zero=>trivial
 | succ n I=>exact ⟨⟨⟨rfl,rfl,rfl,rfl⟩,⟨(by intro b J; cases J),.inl ⟨.inl rfl,rfl⟩⟩⟩,I⟩
section
variable {told:cK} {h:H} {S:List aq} {X:aq} {r k q p bJ:Nat} {v x wh di:V} {l b:List Nat} {π:Pl} {m:List Fm} {μ:Lg} {δ:Dk}
noncomputable def Vj : Code:=gr [1,1,1,0,1,0,0] ((Tryz.f81.body).getD .skip)
theorem I_ {n:Nat}(hn:n<4294967296): ∀(j i:Nat) (m:List Fm) (h:H) (E:List (Nat×V)) (Q:Ex→List (Nat×V)→H→Prop),i+j=n→m=List.replicate i dz++List.replicate j yP →
  Sat h (pt r (.cells 6 (mW p q bJ n wh di 0) false)::dw bJ m::S)→Has E [(8,.ptr r 0),(28,.int .i64 n),(29,.int .i64 i)] →
  (∀E' h',Has E' [(8,.ptr r 0)]→Sat h' (pt r (.cells 6 (mW p q bJ n wh di 0) false)::dw bJ (List.replicate n dz)::S)→Q (.exit 0) E' h')→WP ⟨Tryz.prog,told⟩ 41 (.loop Vj) E h Q:=by
 intro j
 induction j with
 | zero =>
  intro i m h E Q hi hm s J hx
  refine WP.loop (WP.has J (zg rfl (zh rfl (ag rfl rfl bf) (by simp <;> omega) ?_)))
  refine zk 3 rfl (WP.exit (hx _ _ ⟨rfl,aa⟩ ?_))
  rw [hm] at s
  have:i=n:=by omega
  subst this
  simpa using s
 | succ j ih =>
  intro i m h E Q hi hm s J hx
  have Bf:m.length=n:=by rw [hm]; simp; omega
  have hf:m[i]?=some yP:=by rw [hm,kT (by simp)]; simp [rD]
  obtain ⟨pre,fv,post,I,hlen,s⟩:=gJ (s.ae [1]) hf
  dsimp only [bringA,getA,aZ] at s
  refine WP.loop (WP.has J (zg rfl (zt rfl (ag rfl rfl bf) (by simp <;> omega) ?_)))
  refine zk 5 rfl (WP.block (zK 8 rfl (zf rfl (jJ _ _) (zl rfl (s.ld (k:=3) rfl mO rfl) (zm rfl (zo rfl (dm rfl rfl (kM (i:=i) (by omega))) ?_))))))
  refine zf rfl (mq _ _) (zS rfl (s.stM (k:=0) (j:=0) rfl mh I hlen (by simp [dP]) rfl rfl) ?_)
  intro h s
  dsimp only [setA] at s
  have e5:(dP yP fv).set 0 (.int .i64 (-1))=dP dz fv:=rfl
  rw [e5] at s
  refine zv (zr rfl (zb rfl (by exact bB (aC (by omega) (by omega))) ?_))
  refine zm rfl (zv ?_)
  have s:=eL (i:=i) (f':=dz) s rfl hf I
  refine ih (i+1) (m.set i dz) h _ Q (by omega) ?_ (s.ae [1,0]) ⟨rfl,rfl,rfl,aa⟩ hx
  rw [hm,y_ _ _ (by simp),eE,o8,rD,List.set_cons_zero,List.replicate_succ',eO]
  rfl
theorem NJ (hT:W told){n:Int}(s:Sat h S): Call ⟨Tryz.prog,told⟩ 81 [.ptr p 0,.ptr q 0,.int .i64 n] h fun v h' =>
  (¬(1≤n∧n≤1024)∧v=.aX [.cN,.int .i64 1]∧Sat h' S)∨(1≤n∧n≤1024∧∃r,v=.aX [.ptr r 0,.int .i64 0]∧Sat h' (dG r p q (Pl.fresh n.toNat)::S)):=by
 refine Call.of_wp (hT.free _ rfl) Tryz.func81 rfl rfl (zK 9 rfl ?_)
 refine zd rfl (ag rfl rfl bf) ?_ ?_
 ·intro J
  have J:n<1:=by simpa using J
  exact zk 11 rfl (WP.ret ⟨aa,_,rfl,.inl ⟨fun q=>by omega,rfl,s⟩⟩)
 ·intro J
  have J:1≤n:=by simp at J; omega
  refine zk 2 rfl ?_
  refine zd rfl (ag rfl rfl fY) ?_ ?_
  ·intro I
   have I:1024<n:=by simpa using I
   exact zk 8 rfl (WP.ret ⟨aa,_,rfl,.inl ⟨fun q=>by omega,rfl,s⟩⟩)
  ·intro I
   have I:n≤1024:=by simp at I; omega
   obtain ⟨n,rfl⟩:∃k:Nat,n=k:=⟨n.toNat,by omega⟩
   refine zk 9 rfl ?_
   obtain ⟨i1,jS,ie,uJ⟩:=NI
   obtain ⟨id,h1,e1,s1⟩:=A8 (P:=Tryz.prog) s uP jS Q9 ie (by omega) rfl (by decide) (n:=n) (by omega)
   refine az.any rfl rfl rfl (OpR.of (R:=fun v h'=>v=.sl id 0 n (.exact n)∧h'=h1) (sQ rfl rfl e1) ⟨rfl,rfl⟩) ?_
   rintro v h ⟨rfl,rfl⟩
   have s:Sat h (dw id (List.replicate n yP)::S):=iz.2 ⟨_,by rw [eE]; exact ((s1.iP (φ:=True) aa).jH fun a b _=>K8 n).ae [1]⟩
   refine az.Aq s rfl rfl rfl rfl (fun Vk h s => ?_)
   refine az.Aq s rfl rfl rfl rfl (fun Su h s => ?_)
   refine zo rfl (cX rfl (by rw [Q7]; rfl)) ?_
   refine az.cr s rfl rfl rfl (fC rfl rfl) (fun Vl h s => ?_)
   refine zk 7 rfl (zf rfl (jJ _ _) (zl rfl (s.ld (k:=0) rfl mO rfl) (zo rfl (aV rfl rfl rfl (nF rfl uP)) (zk 2 rfl (WP.block ?_)))))
   have s:=qg (f:=fun v (x:Nat×Bool)=>.pu (v=.agg [.int .u64 (x.1:Int),.bool x.2])) (s.ae [1])
   have s:=qg (f:=fun v (x:Int)=>.pu (v=.int .i64 x)) (s.ae [2])
   have s:=s.ae [2,2,0,0]
   refine I_ (n:=n) (by omega) n 0 _ _ _ _ (by omega) rfl s ⟨rfl,rfl,rfl,aa⟩ (fun E' h' kK s' => ?_)
   refine WP.has kK (zK 6 rfl (WP.ret ⟨aa,_,rfl,?_⟩))
   refine .inr ⟨J,I,_,rfl,(dY (π:=Pl.fresh n)).2 ⟨id,.map Vk,.map Su,?_⟩⟩
   have e6:(Pl.fresh n).ah.length=n:=by simp [Pl.fresh]
   rw [e6]
   exact s'
end
theorem Ja {c:Nat}: ∀ {l:fq} {b:Nat},nN c b l→bornUp c b (l.map sg)=true:=by
 intro l
 induction l with
 | nil=>intro b _; rfl
 | cons e l I =>
  intro b h
  obtain ⟨J,h2,h3⟩:=h
  simp only [b8,sg,bornUp]
  rw [show (Nat.ble b e.2.2&&Nat.blt e.2.2 c)=true by rw [aG,aE]; exact ⟨J,by rw [Nat.blt]; exact aE.2 h2⟩,af]
  exact I h3
theorem GV : ∀ {l:fq},(∀e∈l,(Lit.int .i64 e.1).wf=true)→keyInts (l.map sg)=some (l.map (·.1)):=by
 intro l
 induction l with
 | nil=>intro _; rfl
 | cons e l I =>
  intro h
  simp only [b8,sg,keyInts]
  rw [h e cM,af]
  have:=I (fun e he=>h e (cC _ he))
  rw [this]
theorem Ea {x:Int}: ∀ {l:List Int},l.Pairwise (· < ·)→x∉l→(insI x l).Pairwise (· < ·):=by
 intro l
 induction l with
 | nil=>intro _ _; simp [insI]
 | cons y l ih =>
  intro h hx
  simp only [nc,gX,not_or] at h hx
  simp only [insI]
  by_cases J:x≤y
  ·rw [dr J,af]
   have:x<y:=by omega
   simp only [nc,gX]
   refine ⟨fun z I => ?_,h⟩
   rcases I with rfl | I
   ·exact this
   ·have:=h.1 z I; omega
  ·rw [dJ J,ay]
   simp only [nc]
   refine ⟨fun z I => ?_,ih h.2 hx.2⟩
   have:=(uB x l).mem_iff.1 I
   rcases List.mem_cons.1 this with rfl | I
   ·omega
   ·exact h.1 z I
theorem Eb : ∀ {l:List Int},l.Nodup→(kq l).Pairwise (· < ·):=by
 intro l
 induction l with
 | nil=>intro _; exact List.Pairwise.nil
 | cons x l I =>
  intro h
  simp only [l7] at h
  exact Ea (I h.2) (fun J=>h.1 ((e_ l).mem_iff.1 J))
theorem K9 : ∀ {l:List Int},l.Pairwise (· < ·)→nX l=true:=by
 intro l
 induction l with
 | nil=>intro _; rfl
 | cons x l I =>
  intro h
  simp only [nc] at h
  simp only [nX,aG,oY,ej]
  exact ⟨h.1,I h.2⟩
section
variable {α:Type} {f:V→α→aq} {told:cK} {h:H} {S:List aq} {mv:V} {m:List (Int×α)} {b g:Nat}
def dQ (m:List (Int×α)): List Int:=kq (m.map (·.1))
theorem oa {m:List (Int×α)}{n:Int}: n∈dQ m↔n∈m.map (·.1):=(e_ _).mem_iff
theorem K_ (l:List Int): (fS l).all storable=true:=by simp [fS,storable]
theorem uS (hT:W told)(s:Sat h (pt b (.cells 1 [mv] false)::iN f mv m::S))(hg:sy vU g=true)(hm:m.length≤1048576)(hk:∀n∈m.map (·.1),(Lit.int .i64 n).wf=true):
  Call ⟨Tryz.prog,told⟩ 61 [.fn (.func g) [] [.ptr b 0]] h fun v h'=>Sat h' (.arr 1 v (fS (dQ m))::pt b (.cells 1 [mv] false)::iN f mv m::S):=by
 obtain ⟨id,l,c,rfl,hb,hn,s1⟩:=fN.1 (s.ae [1])
 have s1:Sat h (iM id l c::fD f l m::pt b (.cells 1 [.map id] false)::S):=s1
 obtain ⟨q1,q2,q3,q4,q5⟩:=s1.at (k:=1) rfl
 have I:=yA q5
 have hlen:l.length=m.length:=by have:=eS List.length I; simpa using this
 have wX:=s1.row (k:=0) rfl
 have TJ:=s1.row (k:=2) rfl
 have jM:∀e∈l,(Lit.int .i64 e.1).wf=true:=fun e he=>hk e.1 (by rw [←I]; exact List.mem_map_of_mem he)
 have Vm:nX (kq (l.map (·.1)))=true:=K9 (Eb (by rw [I]; exact hn))
 have J:∃v h',toldSorted vU [.fn (.func g) [] [.ptr b 0]] h=some (v,h')∧Sat h' (.arr 1 v (fS (dQ m))::pt b (.cells 1 [.map id] false)::iN f (.map id) m::S):=by
  simp only [toldSorted,TJ,wX,eP,hg,Ja hb,GV jM,Vm]
  rw [show (Nat.beq 1 1&&true&&true&&Nat.ble l.length 1048576)=true by rw [aE.2 (by omega)]; rfl,af]
  simp only [af]
  cases hl:l.map (·.1) with
  | nil =>
   refine ⟨_,_,rfl,?_⟩
   have:dQ m=[]:=by rw [dQ,←I,hl]; rfl
   rw [this]
   exact s.qc
  | cons x xs =>
   refine ⟨_,_,rfl,?_⟩
   have e1:dQ m=kq (x::xs):=by rw [dQ,←I,hl]
   have e2:(kq (x::xs)).length=(x::xs).length:=(e_ _).length_eq
   have e3:(x::xs).length=l.length:=by rw [←hl,eP]
   rw [e1,←e3]
   refine (s.new (.cells (fS (kq (x::xs))).length (fS (kq (x::xs))) false)).jH fun a r A2=>⟨K_ _,.inr ⟨h.next,(x::xs).length,.rest 1 0,(fS (kq (x::xs))).length,[],rfl,?_,?_,by simp,rfl,rfl,rfl,rfl,by simp⟩⟩
   ·rw [fJ]; exact A2
   ·simp only [fS,eP,e2,c6]
 obtain ⟨v,h',e1,e2⟩:=J
 exact ⟨v,h',h_.told hT.sorted Tryz.func61 rfl e1,e2⟩
end
end Go.Proofs.YtefepnnfphdkpaaGreat.Am
