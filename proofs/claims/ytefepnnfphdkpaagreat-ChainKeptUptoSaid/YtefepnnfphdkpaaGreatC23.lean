/- ChainKept: a part of its proof; conditions: its statement's. -/
import Derived.Test.YtefepnnfphdkpaaGreatC22
namespace Go.Proofs.YtefepnnfphdkpaaGreat.Am
open Go
structure Pl.Ok (π:Pl): Prop where
 hand:π.hand<π.ah.length
 many:π.ah.length≤1024
 br:∀e∈π.br,0≤e.2∧e.2<π.ah.length
 len:∀f∈π.ah,f.b.length≤512
 pins:∀f∈π.ah,0≤f.pins∧f.pins≤4294967296
theorem Pl.Ok.at {π:Pl}(h:π.Ok){n i:Int}(J:lookL n π.br=some i): ∃(k:Nat) (f:Fm),i=k∧π.ah[k]?=some f:=by
 have I:=h.br _ (ki J)
 exact ⟨i.toNat,π.ah[i.toNat]'(by have:=I.2; simp only at this; omega),by have:=I.1; simp only at this; omega,aN _⟩
def heldI (π:Pl)(n:Int): Option Nat:=match lookL n π.br with
 | none=>none
 | some i=>match π.ah[i.toNat]? with
  | none=>none
  | some f=>if f.pins=0 then none else some i.toNat
def unpinF (π:Pl)(n:Int): Int×Pl:=match heldI π n with
 | none=>(18,π)
 | some i=>match π.ah[i]? with
  | none=>(18,π)
  | some f=>(0,{ π with ah:=π.ah.set i { f with pins:=f.pins-1 } })
def kz (π:Pl)(n:Int)(aQ:Nat): Nat:=match lookL n π.b_ with
 | some x=>x.1
 | none=>aQ
def jI (π:Pl)(n:Int)(b:List Nat)(aQ:Nat): Int×Pl:=match heldI π n with
 | none=>(18,π)
 | some i=>match π.ah[i]? with
  | none=>(18,π)
  | some f=>if bU b=false then (4,π) else (0,{ π with ah:=π.ah.set i { f with b:=cZ b aQ,changed:=true },b_:=dg n (kz π n aQ,true) π.b_ })
section
variable {told:cN} {h:H} {S:List aq} {X:aq} {r k q p bM:Nat} {v x wh di:V} {l b:List Nat} {π:Pl} {m:List Fm} {μ:Lg} {δ:Dk}
theorem Gc {n:Int}{j:Nat}(s:Sat h (DJ wh π.br::S)): (lookL n π.br=none∧dS Tryz.prog h 186 wh (.int .i64 n) true=some (.bh [.int .i64 0,.bool false])) ∨
  ∃i,lookL n π.br=some i∧dS Tryz.prog h 186 wh (.int .i64 n) true=some (.bh [.int .i64 i,.bool true]):=by
 rcases mP (f:=fun v (x:Int)=>.pu (v=.int .i64 x)) (n:=n) (fun _ _=>aS.pu _) s vh bO uo with ⟨I,J,_⟩ | ⟨u,i,I,J,_,s'⟩
 ·exact .inl ⟨I,J⟩
 ·obtain ⟨rfl,_⟩:=qB.1 s'
  exact .inr ⟨i,I,J⟩
theorem Gd {n:Int}(s:Sat h (Gb di π.b_::S)): (lookL n π.b_=none∧dS Tryz.prog h 187 di (.int .i64 n) true=some (.bh [.agg [.int .u64 0,.bool false],.bool false])∧dS Tryz.prog h 187 di (.int .i64 n) false=some (.agg [.int .u64 0,.bool false])) ∨
  ∃x,lookL n π.b_=some x∧dS Tryz.prog h 187 di (.int .i64 n) true=some (.bh [.agg [.int .u64 (x.1:Int),.bool x.2],.bool true])∧dS Tryz.prog h 187 di (.int .i64 n) false=some (.agg [.int .u64 (x.1:Int),.bool x.2]):=by
 rcases mP (f:=fun v (x:Nat×Bool)=>.pu (v=.agg [.int .u64 (x.1:Int),.bool x.2])) (n:=n) (fun _ _=>aS.pu _) s s8 bO wP with ⟨I,J,g3⟩ | ⟨u,x,I,J,g3,s'⟩
 ·exact .inl ⟨I,J,g3⟩
 ·obtain ⟨rfl,_⟩:=qB.1 s'
  exact .inr ⟨x,I,J,g3⟩
theorem Ge (hT:W told){n:Int}(s:Sat h (pt r (.cells 6 (nt p q bM π.ah.length wh di π.hand) false)::dD bM π.ah::DJ wh π.br::S))(HT:π.Ok):
  Call ⟨Tryz.prog,told⟩ 126 [.ptr r 0,.int .i64 n] h fun v h'=>h'=h∧((heldI π n=none∧v=.bh [.cU,.int .i64 18])∨∃(i:Nat) (f:Fm),heldI π n=some i∧π.ah[i]?=some f∧v=.bh [.ptr bM (i*5),.int .i64 0]):=by
 refine Call.of_wp (hT.free _ rfl) Tryz.func126 rfl rfl (zK 9 rfl (zf rfl (sW _ _) (zl rfl (s.ld (k:=0) rfl zD rfl) (zm rfl ?_))))
 rcases Gc (n:=n) (j:=0) (s.ae [2]) with ⟨g1,g2⟩ | ⟨i,g1,g2⟩
 ·refine az.op rfl rfl rfl (iZ rfl rfl g2) ?_
  exact zk 10 rfl (zt rfl (fo rfl rfl) (rfl) (zk 18 rfl (WP.ret ⟨aa,_,rfl,rfl,.inl ⟨by simp only [heldI,g1],rfl⟩⟩)))
 ·obtain ⟨i,f,rfl,hf⟩:=HT.at g1
  have hl:=(List.getElem?_eq_some_iff.1 hf).1
  have hh:heldI π n=if f.pins=0 then none else some i:=by simp only [heldI,g1,ck,hf]
  obtain ⟨pre,fv,post,J,hlen,s'⟩:=gW (s.ae [1]) hf
  refine zo rfl (iZ rfl rfl g2) (zk 10 rfl (zh rfl (fo rfl rfl) (rfl) (zk 3 rfl (zf rfl (j6 _ _) (zl rfl (s.ld (k:=0) rfl ng rfl) (zm rfl (zo rfl (cx rfl rfl (k_ (i:=i) hl)) (zf rfl (ob _ _) (zl rfl (s'.ld (k:=0) rfl dY (gE J rfl)) ?_)))))))))
  refine zd rfl (ag rfl rfl iz) ?_ ?_
  ·intro I
   have I:f.pins=0:=by simpa using I
   exact zk 8 rfl (WP.ret ⟨aa,_,rfl,rfl,.inl ⟨by rw [hh,au I],rfl⟩⟩)
  ·intro I
   have I:f.pins≠0:=by simpa using I
   exact zk 8 rfl (zf rfl (j6 _ _) (zl rfl (s.ld (k:=0) rfl ng rfl) (zm rfl (zo rfl (cx rfl rfl (k_ (i:=i) hl)) (zk 3 rfl (WP.ret ⟨aa,_,rfl,rfl,.inr ⟨i,f,by rw [hh,ai I],hf,rfl⟩⟩))))))
theorem DM (hT:W told){n:Int}(s:Sat h (dL r p q π::S))(J:π.Ok):
  Call ⟨Tryz.prog,told⟩ 65 [.ptr r 0,.int .i64 n] h fun v h'=>v=.int .i64 (unpinF π n).1∧Sat h' (dL r p q (unpinF π n).2::S):=by
 have s0:=s
 obtain ⟨bM,wh,di,s⟩:=eB.1 s
 refine Call.of_wp (hT.free _ rfl) Tryz.func65 rfl rfl (zK 8 rfl (zc rfl (Ge (n:=n) hT s J) ?_))
 rintro v h' ⟨rfl,(⟨hh,rfl⟩ | ⟨i,f,hh,hf,rfl⟩)⟩
 ·have he:unpinF π n=(18,π):=by simp only [unpinF,hh]
  rw [he]
  exact zk 10 rfl (zt rfl (ag rfl rfl aJ) (rfl) (zk 7 rfl (WP.ret ⟨aa,_,rfl,rfl,s0⟩)))
 ·have he:unpinF π n=(0,{ π with ah:=π.ah.set i { f with pins:=f.pins-1 } }):=by simp only [unpinF,hh,hf]
  rw [he]
  obtain ⟨pre,fv,post,I,hlen,s⟩:=gW (s.ae [1]) hf
  have Mc:=J.pins f (aY hf)
  refine zk 10 rfl (zh rfl (ag rfl rfl aJ) (rfl) (zk 7 rfl (zf rfl (ob _ _) (zl rfl (s.ld (k:=0) rfl dY (gE I rfl)) (zb rfl (by exact jF (aA (by omega) (by omega))) ?_)))))
  refine zn rfl (zf rfl (ob _ _) (zS rfl (s.stM (k:=0) (j:=2) rfl kf I hlen (by simp [d_]) rfl rfl) ?_))
  intro h s
  have e5:(d_ f fv).set 2 (.int .i64 (f.pins-1))=d_ { f with pins:=f.pins-1 } fv:=rfl
  rw [e5] at s
  refine zk 5 rfl (WP.ret ⟨aa,_,rfl,?_⟩)
  refine ⟨rfl,eB.2 ⟨bM,wh,di,?_⟩⟩
  have s:=eY (i:=i) (f':={ f with pins:=f.pins-1 }) s rfl hf I
  rw [bQ]
  exact s.ae [1,0]
theorem O7 (hT:W told){n:Int}{aQ:Nat}{bv:V}(s:Sat h (dL r p q π::X::S))(hX:cO X (cR bv b))(HT:π.Ok)(hb:b.length<9223372036854775808):
  Call ⟨Tryz.prog,told⟩ 64 [.ptr r 0,.int .i64 n,bv,.int .u64 (aQ:Int)] h fun v h'=>v=.int .i64 (jI π n b aQ).1∧Sat h' (dL r p q (jI π n b aQ).2::X::S):=by
 have s0:=s
 obtain ⟨bM,wh,di,s⟩:=eB.1 s
 refine Call.of_wp (hT.free _ rfl) Tryz.func64 rfl rfl (zK 8 rfl (zc rfl (Ge (n:=n) hT s HT) ?_))
 rintro v h' ⟨rfl,(⟨hh,rfl⟩ | ⟨i,f,hh,hf,rfl⟩)⟩
 ·have he:jI π n b aQ=(18,π):=by simp only [jI,hh]
  rw [he]
  exact zk 10 rfl (zt rfl (ag rfl rfl aJ) (rfl) (zk 7 rfl (WP.ret ⟨aa,_,rfl,rfl,s0⟩)))
 ·have he:jI π n b aQ=(if bU b=false then (4,π) else (0,{ π with ah:=π.ah.set i { f with b:=cZ b aQ,changed:=true },b_:=dg n (kz π n aQ,true) π.b_ })):=by simp only [jI,hh,hf]
  rw [he]
  refine zk 10 rfl (zh rfl (ag rfl rfl aJ) (rfl) (zk 7 rfl (zc rfl (OX (n:=aQ) hT (s.ae [4]) hX hb) ?_)))
  rintro v h (⟨J,u,rfl,s⟩ | ⟨J,rfl,s⟩)
  ·rw [ai (by rw [J]; decide)]
   have NN:(cZ b aQ).length=512:=by
    have h1:=tS (n:=aQ) (gQ J)
    rw [cZ,cH (by rw [dG]; omega),h1]
   obtain ⟨kg,_,cap,_,rfl,_⟩:=s.eF (by omega)
   have s:=s.gF
   obtain ⟨pre,fv,post,I,hlen,s⟩:=gW (s.ae [3]) hf
   refine zk 10 rfl (zh rfl (ag rfl rfl aJ) (rfl) (zk 9 rfl (zf rfl (wN _ _) (zS rfl (s.stM (k:=0) (j:=1) rfl ko I hlen (by simp [d_]) rfl rfl) ?_))))
   intro h s
   refine zn rfl (zf rfl (Bi _ _) (zS rfl (s.stM (k:=0) (j:=4) rfl xp I (by simpa [d_] using hlen) (by simp [d_]) rfl rfl) ?_))
   intro h s
   have e5:((d_ f fv).set 1 (.sl kg 0 (cZ b aQ).length cap)).set 4 (.bool true)=d_ { f with b:=cZ b aQ,changed:=true } (.sl kg 0 (cZ b aQ).length cap):=rfl
   rw [e5] at s
   have s:=eY (i:=i) (f':={ f with b:=cZ b aQ,changed:=true }) (s.ae [0,0,1]) rfl hf I
   have s:=s.ae [3,4,0]
   refine zk 5 rfl (zf rfl (qi _ _) (zl rfl (s.ld (k:=0) rfl wL rfl) (zm rfl ?_)))
   rcases Gd (n:=n) (s.ae [1]) with ⟨g1,g2,_⟩ | ⟨x,g1,g2,_⟩
   ·refine az.op rfl rfl rfl (iZ rfl rfl g2) ?_
    refine zk 3 rfl ?_
    refine az.cG s rfl rfl rfl (cA wP) (fun W7 h s => ?_)
    refine zS rfl (s.hG (j:=0) rfl wO rfl rfl) (fun h s => ?_)
    refine zk 6 rfl (zo rfl (fo rfl rfl) (zk 4 rfl (zf rfl (Bj _ _) ?_)))
    refine zS rfl (by exact s.iF (k:=0) rfl Hr rfl (by decide) rfl rfl) (fun h s => ?_)
    refine zk 3 rfl (zf rfl (F1 _ _) ?_)
    refine zS rfl (by exact s.iF (k:=0) rfl xp rfl (by decide) rfl rfl) (fun h s => ?_)
    refine zk 2 rfl (WP.drawn [ak,ak,ak,ak,ak,ak,ak] rfl (by kernel_rfl) (by kernel_rfl) ?_)
    refine zM rfl (zN rfl (zF rfl (qi _ _) (zL rfl (s.ld (k:=1) rfl wL rfl) (zM rfl (zL rfl (s.cX (k:=0) rfl Nv wO) (aC.j3 rfl rfl rfl (OpR.mapUpdate rfl rfl rfl rfl (mu (f:=fun v (x:Nat×Bool)=>.pu (v=.agg [.int .u64 (x.1:Int),.bool x.2])) (x:=(aQ,true)) (fun _ _=>aS.pu _) ((s.ae [2]).gp rfl) s8 bO)) ?_))))))
    intro w h s
    refine aC.nil ⟨⟨aa,aa,aa,aa,aa,aa,aa,aa⟩,?_⟩
    refine zK 4 rfl (WP.ret ⟨aa,_,rfl,?_⟩)
    have ed:kz π n aQ=aQ:=by simp only [kz,g1]
    rw [ed]
    refine ⟨rfl,eB.2 ⟨bM,wh,di,?_⟩⟩
    have e6:(π.ah.set i { f with b:=cZ b aQ,changed:=true }).length=π.ah.length:=bQ
    show Sat h (pt r (.cells 6 (nt p q bM (π.ah.set i { f with b:=cZ b aQ,changed:=true }).length wh di π.hand) false)::_)
    rw [e6]
    exact ((s.ae [2,2,4,0,2]).del 6).del 5
   ·skip
    refine zo rfl (iZ rfl rfl g2) (zk 3 rfl ?_)
    refine az.cG s rfl rfl rfl (cA wP) (fun W7 h s => ?_)
    refine zS rfl (s.hG (j:=0) rfl wO rfl rfl) (fun h s => ?_)
    refine zk 6 rfl (zo rfl (fo rfl rfl) (zk 5 rfl (zf rfl (F1 _ _) ?_)))
    refine zS rfl (by exact s.iF (k:=0) rfl xp rfl (by decide) rfl rfl) (fun h s => ?_)
    refine zk 2 rfl (WP.drawn [ak,ak,ak,ak,ak,ak,ak] rfl (by kernel_rfl) (by kernel_rfl) ?_)
    refine zM rfl (zN rfl (zF rfl (qi _ _) (zL rfl (s.ld (k:=1) rfl wL rfl) (zM rfl (zL rfl (s.cX (k:=0) rfl Nv wO) (aC.j3 rfl rfl rfl (OpR.mapUpdate rfl rfl rfl rfl (mu (f:=fun v (x:Nat×Bool)=>.pu (v=.agg [.int .u64 (x.1:Int),.bool x.2])) (x:=(x.1,true)) (fun _ _=>aS.pu _) ((s.ae [2]).gp rfl) s8 bO)) ?_))))))
    intro w h s
    refine aC.nil ⟨⟨aa,aa,aa,aa,aa,aa,aa,aa⟩,?_⟩
    refine zK 4 rfl (WP.ret ⟨aa,_,rfl,?_⟩)
    have ed:kz π n aQ=x.1:=by simp only [kz,g1]
    rw [ed]
    refine ⟨rfl,eB.2 ⟨bM,wh,di,?_⟩⟩
    have e6:(π.ah.set i { f with b:=cZ b aQ,changed:=true }).length=π.ah.length:=bQ
    show Sat h (pt r (.cells 6 (nt p q bM (π.ah.set i { f with b:=cZ b aQ,changed:=true }).length wh di π.hand) false)::_)
    rw [e6]
    exact ((s.ae [2,2,4,0,2]).del 6).del 5
  ·rw [au J]
   exact zk 10 rfl (zt rfl (ag rfl rfl aJ) (rfl) (zk 7 rfl (WP.ret ⟨aa,_,rfl,rfl,eB.2 ⟨bM,wh,di,s.ae [1,1,1,1,0]⟩⟩)))
theorem Rx (hT:W told){n:Int}(s:Sat h (dL r p q π::S)): Call ⟨Tryz.prog,told⟩ 114 [.ptr r 0,.int .i64 n] h fun v h'=>v=.bh [.int .u64 (kz π n 0:Nat),.bool (lookL n π.b_).isSome]∧Sat h' (dL r p q π::S):=by
 obtain ⟨bM,wh,di,s⟩:=eB.1 s
 refine Call.of_wp (hT.free _ rfl) Tryz.func114 rfl rfl (zK 9 rfl (zf rfl (qi _ _) (zl rfl (s.ld (k:=0) rfl wL rfl) (zm rfl ?_))))
 rcases Gd (n:=n) (s.ae [3]) with ⟨I,J,_⟩ | ⟨x,I,J,_⟩
 ·refine az.op rfl rfl rfl (iZ rfl rfl J) ?_
  refine zk 3 rfl ?_
  refine az.cG s rfl rfl rfl (cA wP) (fun p6 h s => ?_)
  refine zS rfl (s.hG (j:=0) rfl wO rfl rfl) (fun h s => ?_)
  exact zk 4 rfl (zf rfl (Bj _ _) (zl rfl (s.ld (k:=0) rfl nf rfl) (zk 4 rfl (WP.ret ⟨aa,_,rfl,by simp only [kz,I]; rfl,eB.2 ⟨bM,wh,di,s.drop⟩⟩))))
 ·skip
  refine zo rfl (iZ rfl rfl J) (zk 3 rfl ?_)
  refine az.cG s rfl rfl rfl (cA wP) (fun p6 h s => ?_)
  refine zS rfl (s.hG (j:=0) rfl wO rfl rfl) (fun h s => ?_)
  exact zk 4 rfl (zf rfl (Bj _ _) (zl rfl (s.ld (k:=0) rfl nf rfl) (zk 4 rfl (WP.ret ⟨aa,_,rfl,by simp only [kz,I]; rfl,eB.2 ⟨bM,wh,di,s.drop⟩⟩))))
def dH : Fm:=⟨-1,[],0,false,false⟩
def cK (π:Pl)(i:Nat)(f:Fm): Pl:={ π with ah:=π.ah.set i dH,br:=if f.bf<0 then π.br else kG f.bf π.br }
def ic (π:Pl)(i:Nat)(n:Int)(b:List Nat): Pl:={ π with ah:=π.ah.set i ⟨n,b,1,true,false⟩,br:=dg n (i:Int) π.br }
inductive eO (ε:aF)(n:Int): Int→List Nat→aF→Prop where
 | arg (h:¬(0≤n∧n<ε.2.2.bg.length)):eO ε n 1 [] ε
 | Ab (i:Nat) (f:Fm) (h1:0≤n) (h2:n<ε.2.2.bg.length) (hl:lookL n ε.1.br=some (i:Int)) (hf:ε.1.ah[i]?=some f):eO ε n 0 f.b ({ ε.1 with ah:=ε.1.ah.set i { f with dK:=true,pins:=f.pins+1 } },ε.2)
 | out (fB:Pl) (i:Nat) (f:Fm) (h1:0≤n) (h2:n<ε.2.2.bg.length) (hl:lookL n ε.1.br=none) (hn:eN ε.1 fB) (hf:fB.ah[i]?=some f) (hh:fB.hand<fB.ah.length) (he:(outF (fB,ε.2) i).1≠0):eO ε n (outF (fB,ε.2) i).1 [] (outF (fB,ε.2) i).2
 | read (fB:Pl) (i:Nat) (f:Fm) (h1:0≤n) (h2:n<ε.2.2.bg.length) (hl:lookL n ε.1.br=none) (hn:eN ε.1 fB) (hf:fB.ah[i]?=some f) (hh:fB.hand<fB.ah.length) (he:(outF (fB,ε.2) i).1=0)
   (hr:(outF (fB,ε.2) i).2.2.2.ow n≠0):eO ε n ((outF (fB,ε.2) i).2.2.2.ow n) [] (cK (outF (fB,ε.2) i).2.1 i f,(outF (fB,ε.2) i).2.2)
 | bad (fB:Pl) (i:Nat) (f:Fm) (h1:0≤n) (h2:n<ε.2.2.bg.length) (hl:lookL n ε.1.br=none) (hn:eN ε.1 fB) (hf:fB.ah[i]?=some f) (hh:fB.hand<fB.ah.length) (he:(outF (fB,ε.2) i).1=0)
   (hr:(outF (fB,ε.2) i).2.2.2.ow n=0) (hc:gv ((outF (fB,ε.2) i).2.2.2.at n)≠0):eO ε n (gv ((outF (fB,ε.2) i).2.2.2.at n)) [] (cK (outF (fB,ε.2) i).2.1 i f,(outF (fB,ε.2) i).2.2)
 | load (fB:Pl) (i:Nat) (f:Fm) (h1:0≤n) (h2:n<ε.2.2.bg.length) (hl:lookL n ε.1.br=none) (hn:eN ε.1 fB) (hf:fB.ah[i]?=some f) (hh:fB.hand<fB.ah.length) (he:(outF (fB,ε.2) i).1=0)
   (hr:(outF (fB,ε.2) i).2.2.2.ow n=0) (hc:gv ((outF (fB,ε.2) i).2.2.2.at n)=0):eO ε n 0 ((outF (fB,ε.2) i).2.2.2.at n) (ic (cK (outF (fB,ε.2) i).2.1 i f) i n ((outF (fB,ε.2) i).2.2.2.at n),(outF (fB,ε.2) i).2.2)
theorem xT {ε:aF}{i:Nat}(h:ε.2.2.Ok): (outF ε i).2.2.2.Ok:=by
 unfold outF
 split
 ·exact h
 ·split
  ·exact h
  ·split
   ·exact h
   ·split
    ·exact pJ h
    ·split
     ·exact (pJ h).cS
     ·exact (pJ h).cS
theorem Me {ε:aF}{i:Nat}(h:ε.2.1.Ok): (outF ε i).2.2.1.Ok:=by
 unfold outF
 split
 ·exact h
 ·split
  ·exact h
  ·split
   ·exact h
   ·split
    ·exact xw h
    ·split <;> exact xw h
theorem lP {ε:aF}{i:Nat}{f:Fm}(I:ε.1.ah[i]?=some f): ∃c,(outF ε i).2.1.ah[i]?=some { f with changed:=c }:=by
 have J:=(List.getElem?_eq_some_iff.1 I).1
 unfold outF
 rw [I]
 dsimp only
 split
 ·exact ⟨f.changed,I⟩
 ·split
  ·exact ⟨f.changed,I⟩
  ·split
   ·exact ⟨f.changed,I⟩
   ·split
    ·exact ⟨f.changed,I⟩
    ·exact ⟨false,by simp [vT,J]⟩
theorem J5 (hT:W told){n:Int}(s:Sat h (dL r p q π::b7 q p μ::bx p δ::S))(HT:π.Ok)(Mc:∀f∈π.ah,f.pins=0)(Rr:μ.Ok)(DI:δ.Ok)(hw:δ.waiting.length≤268435456):
  Call ⟨Tryz.prog,told⟩ 63 [.ptr r 0,.int .i64 n] h fun v h'=>∃(e:Int) (b:List Nat) (ε:aF),eO (π,μ,δ) n e b ε ∧
   ((e≠0∧v=.bh [.bp,.int .i64 e]∧Sat h' (dL r p q ε.1::b7 q p ε.2.1::bx p ε.2.2::S))∨(e=0∧∃u,v=.bh [u,.int .i64 0]∧Sat h' (aR u b::dL r p q ε.1::b7 q p ε.2.1::bx p ε.2.2::S))):=by
 have s0:=s
 obtain ⟨bM,wh,di,s⟩:=eB.1 s
 refine Call.of_wp (hT.free _ rfl) Tryz.func63 rfl rfl (zK 9 rfl ?_)
 refine zd rfl (ag rfl rfl aP) ?_ ?_
 ·intro hq
  have hq:n<0:=by simpa using hq
  exact zk 16 rfl (WP.ret ⟨aa,_,rfl,1,[],(π,μ,δ),.arg (fun q=>by omega),.inl ⟨by decide,rfl,s0⟩⟩)
 ·intro hq
  have hq:0≤n:=by simp at hq; omega
  refine zk 4 rfl (zf rfl (wM _ _) (zl rfl (s.ld (k:=0) rfl rY rfl) (zc rfl (xR hT (s.ae [5])) ?_)))
  rintro v h' ⟨rfl,rfl⟩
  refine zd rfl (ag rfl rfl u_) ?_ ?_
  ·intro gj
   have gj:¬ n<δ.bg.length:=by simp at gj; omega
   exact zk 8 rfl (WP.ret ⟨aa,_,rfl,1,[],(π,μ,δ),.arg (fun q=>gj q.2),.inl ⟨by decide,rfl,s0⟩⟩)
  ·intro gj
   have gj:n<δ.bg.length:=by simp at gj; omega
   refine zk 9 rfl (zf rfl (sW _ _) (zl rfl (s.ld (k:=0) rfl zD rfl) (zm rfl ?_)))
   rcases Gc (n:=n) (j:=0) (s.ae [2]) with ⟨g1,g2⟩ | ⟨i,g1,g2⟩
   ·refine az.op rfl rfl rfl (iZ rfl rfl g2) ?_
    refine zk 15 rfl (zc rfl (Mb hT s HT.hand (by have:=HT.many; omega) Mc) ?_)
    rintro v h ⟨i,fB,f,rfl,mg,hf,hh,s⟩
    have hl:=(List.getElem?_eq_some_iff.1 hf).1
    rw [←mg.br,←mg.b_] at s
    have Tr:f.b.length≤512:=by
     have h1:π.ah[i]?=some (π.ah[i]'(by have:=mg.len; omega)):=aN _
     generalize (π.ah[i]'(by have:=mg.len; omega))=f0 at h1
     obtain ⟨t,ht⟩:=mg.get i f0 h1
     rw [hf] at ht
     have:=bI ht
     rw [this]
     exact HT.len f0 (aY h1)
    refine zk 6 rfl (zh rfl (ag rfl rfl aP) (by simp <;> omega) ?_)
    refine zk 7 rfl (zf rfl (j6 _ _) (zl rfl (s.ld (k:=0) rfl ng rfl) (zm rfl (zo rfl (cx rfl rfl (k_ (i:=i) hl)) (zk 7 rfl (zc rfl (Rs (π:=fB) hT s hf Rr DI (by omega) hw) ?_))))))
    rintro v h ⟨rfl,s⟩
    obtain ⟨c,Ac⟩:=lP (ε:=(fB,μ,δ)) hf
    have Bt:=xT (ε:=(fB,μ,δ)) (i:=i) DI
    refine zk 5 rfl ?_
    by_cases he:(outF (fB,μ,δ) i).1=0
    ·generalize ho:outF (fB,μ,δ) i=o at he s Ac Bt ⊢
     obtain ⟨oe,I,Yu,vt⟩:=o
     dsimp only at he s Ac Bt ⊢
     subst he
     have Gf:(outF (fB,μ,δ) i).1=0:=by rw [ho]
     have nE:(outF (fB,μ,δ) i).2=(I,Yu,vt):=by rw [ho]
     refine zh rfl (ag rfl rfl aJ) (by decide) ?_
     obtain ⟨pre,fv,post,J,hlen,s⟩:=gW (s.ae [1]) Ac
     refine zk 8 rfl (zf rfl (mO _ _) (zl rfl (s.ld (k:=0) rfl dY (gE J rfl)) ?_))
     refine zd rfl (ag rfl rfl u_) ?_ ?_
     ·intro lU
      have lU:¬ f.bf<0:=by simp at lU; omega
      refine zk 2 rfl (WP.drawn [ak,ak,ak,ak,ak,ak,ak,ak,ak] rfl (by kernel_rfl) (by kernel_rfl) ?_)
      refine zM rfl (zN rfl (zF rfl (sW _ _) (zL rfl (s.ld (k:=3) rfl zD rfl) (zM rfl (zN rfl (zF rfl (mO _ _) (zL rfl (s.ld (k:=0) rfl dY (gE J rfl)) (aC.j3 rfl rfl rfl (OpR.delete rfl rfl rfl rfl (LW (s.ae [4]) vh bO)) ?_))))))))
      intro v h s
      have s:=s.ae [1,1,1,1,0]
      refine aC.nil ⟨⟨aa,aa,aa,aa,aa,aa,aa,aa,aa,aa⟩,?_⟩
      refine zK 3 rfl (zo rfl (cW rfl (by rw [Cz]; rfl)) ?_)
      refine zn rfl (zS rfl (s.DL (k:=0) (row':=d_ dH .bp) rfl zE J hlen (by simp [d_]) rfl) ?_)
      intro h s
      have HU:(pre++(d_ dH .bp++post)).length=I.ah.length*5:=by simpa [d_] using hlen
      have m8:(cK I i f).br=kG f.bf I.br:=by simp only [cK]; rw [ai lU]
      refine zk 5 rfl (zf rfl (wM _ _) (zl rfl (s.ld (k:=3) rfl rY rfl) (zm rfl (zc rfl (J4 (n:=n) hT (s.ae [7]) Bt) ?_))))
      rintro v h (⟨hr,rfl,s⟩ | ⟨hr,u,rfl,s⟩)
      ·dsimp only [bringA,getA,aV] at s
       refine zk 10 rfl (zt rfl (ag rfl rfl aJ) (by simp; exact hr) ?_)
       refine zk 8 rfl (WP.ret ⟨aa,_,rfl,?_⟩)
       have s:=eY (i:=i) (f':=dH) (v':=.bp) (s.rH.ae [2,2,0]) rfl Ac J
       have e6:(I.ah.set i dH).length=I.ah.length:=bQ
       rw [←e6,←m8] at s
       have s:=(eB (π:=cK I i f)).2 ⟨bM,wh,di,s.ae [3,0,2,2]⟩
       have hR:=eO.read (ε:=(π,μ,δ)) fB i f hq gj g1 mg hf hh Gf (by rw [nE]; exact hr)
       rw [nE] at hR
       exact ⟨_,[],_,hR,.inl ⟨hr,rfl,(s.del 2).ae [0,1,0]⟩⟩
      ·have S7:=Bt.at n
       obtain ⟨kg,_,cap,_,rfl,_⟩:=s.eF (by omega)
       refine zk 10 rfl (zh rfl (ag rfl rfl aJ) (rfl) (zk 7 rfl (zc rfl (DF hT s (aX _ _) (by omega)) ?_)))
       rintro v h ⟨rfl,s⟩
       refine zk 5 rfl ?_
       by_cases hc:gv (vt.at n)=0
       ·skip
        refine zh rfl (ag rfl rfl aJ) (by simp; exact hc) ?_
        have s:=s.gF.ae [2,2,0,2,2,2,2,0,0]
        refine zk 8 rfl (zo rfl (cW rfl (by rw [Cz]; rfl)) ?_)
        refine zn rfl (zS rfl (s.DL (k:=0) (row':=d_ ⟨n,vt.at n,1,true,false⟩ (.sl kg 0 (vt.at n).length cap)) rfl zE J HU (by simp [d_]) rfl) ?_)
        intro h s
        refine zk 5 rfl (zf rfl (sW _ _) (zl rfl (s.ld (k:=3) rfl zD rfl) (zk 2 rfl (az.j3 rfl rfl (OpR.mapUpdate rfl rfl rfl rfl (mu (f:=fun v (x:Int)=>.pu (v=.int .i64 x)) (x:=(i:Int)) (fun _ _=>aS.pu _) ((s.ae [4]).gp rfl) vh bO)) ?_))))
        intro w h s
        refine zk 4 rfl (zc rfl (tR hT (s.ae [3]) (dc _ _) (by omega)) ?_)
        intro u h s
        refine zk 3 rfl (WP.ret ⟨aa,_,rfl,?_⟩)
        have s:=eY (i:=i) (f':=⟨n,vt.at n,1,true,false⟩) (s.ae [3,3,1]) rfl Ac J
        have e6:(I.ah.set i ⟨n,vt.at n,1,true,false⟩).length=I.ah.length:=bQ
        have e7:(ic (cK I i f) i n (vt.at n)).ah=I.ah.set i ⟨n,vt.at n,1,true,false⟩:=by simp only [ic,cK,we]
        rw [←e6,←e7,←m8] at s
        have s:=(eB (π:=ic (cK I i f) i n (vt.at n))).2 ⟨bM,wh,di,s.ae [3,0,1,1]⟩
        have hR:=eO.load (ε:=(π,μ,δ)) fB i f hq gj g1 mg hf hh Gf (by rw [nE]; exact hr) (by rw [nE]; exact hc)
        rw [nE] at hR
        exact ⟨_,_,_,hR,.inr ⟨rfl,u,rfl,(s.del 4).ae [1,0]⟩⟩
       ·skip
        refine zt rfl (ag rfl rfl aJ) (by simp; exact hc) ?_
        refine zk 8 rfl (WP.ret ⟨aa,_,rfl,?_⟩)
        have s:=s.drop
        have s:=eY (i:=i) (f':=dH) (v':=.bp) (s.rH.ae [2,2,0]) rfl Ac J
        have e6:(I.ah.set i dH).length=I.ah.length:=bQ
        rw [←e6,←m8] at s
        have s:=(eB (π:=cK I i f)).2 ⟨bM,wh,di,s.ae [3,0,2,2]⟩
        dsimp only [bringA,getA,aV] at s
        have hR:=eO.bad (ε:=(π,μ,δ)) fB i f hq gj g1 mg hf hh Gf (by rw [nE]; exact hr) (by rw [nE]; exact hc)
        rw [nE] at hR
        exact ⟨_,[],_,hR,.inl ⟨hc,rfl,(s.del 2).ae [0,1,0]⟩⟩
     ·intro lU
      have lU:f.bf<0:=by simp at lU; omega
      refine zk 6 rfl (zo rfl (cW rfl (by rw [Cz]; rfl)) ?_)
      refine zn rfl (zS rfl (s.DL (k:=0) (row':=d_ dH .bp) rfl zE J hlen (by simp [d_]) rfl) ?_)
      intro h s
      dsimp only [setA] at s
      have HU:(pre++(d_ dH .bp++post)).length=I.ah.length*5:=by simpa [d_] using hlen
      have m8:(cK I i f).br=I.br:=by simp only [cK]; rw [au lU]
      refine zk 5 rfl (zf rfl (wM _ _) (zl rfl (s.ld (k:=3) rfl rY rfl) (zm rfl (zc rfl (J4 (n:=n) hT (s.ae [7]) Bt) ?_))))
      rintro v h (⟨hr,rfl,s⟩ | ⟨hr,u,rfl,s⟩)
      ·dsimp only [bringA,getA,aV] at s
       refine zk 10 rfl (zt rfl (ag rfl rfl aJ) (by simp; exact hr) ?_)
       refine zk 8 rfl (WP.ret ⟨aa,_,rfl,?_⟩)
       have s:=eY (i:=i) (f':=dH) (v':=.bp) (s.rH.ae [2,2,0]) rfl Ac J
       have e6:(I.ah.set i dH).length=I.ah.length:=bQ
       rw [←e6,←m8] at s
       have s:=(eB (π:=cK I i f)).2 ⟨bM,wh,di,s.ae [3,0,2,2]⟩
       have hR:=eO.read (ε:=(π,μ,δ)) fB i f hq gj g1 mg hf hh Gf (by rw [nE]; exact hr)
       rw [nE] at hR
       exact ⟨_,[],_,hR,.inl ⟨hr,rfl,(s.del 2).ae [0,1,0]⟩⟩
      ·have S7:=Bt.at n
       obtain ⟨kg,_,cap,_,rfl,_⟩:=s.eF (by omega)
       refine zk 10 rfl (zh rfl (ag rfl rfl aJ) (rfl) (zk 7 rfl (zc rfl (DF hT s (aX _ _) (by omega)) ?_)))
       rintro v h ⟨rfl,s⟩
       refine zk 5 rfl ?_
       by_cases hc:gv (vt.at n)=0
       ·skip
        refine zh rfl (ag rfl rfl aJ) (by simp; exact hc) ?_
        have s:=s.gF.ae [2,2,0,2,2,2,2,0,0]
        refine zk 8 rfl (zo rfl (cW rfl (by rw [Cz]; rfl)) ?_)
        refine zn rfl (zS rfl (s.DL (k:=0) (row':=d_ ⟨n,vt.at n,1,true,false⟩ (.sl kg 0 (vt.at n).length cap)) rfl zE J HU (by simp [d_]) rfl) ?_)
        intro h s
        refine zk 5 rfl (zf rfl (sW _ _) (zl rfl (s.ld (k:=3) rfl zD rfl) (zk 2 rfl (az.j3 rfl rfl (OpR.mapUpdate rfl rfl rfl rfl (mu (f:=fun v (x:Int)=>.pu (v=.int .i64 x)) (x:=(i:Int)) (fun _ _=>aS.pu _) ((s.ae [4]).gp rfl) vh bO)) ?_))))
        intro w h s
        refine zk 4 rfl (zc rfl (tR hT (s.ae [3]) (dc _ _) (by omega)) ?_)
        intro u h s
        refine zk 3 rfl (WP.ret ⟨aa,_,rfl,?_⟩)
        have s:=eY (i:=i) (f':=⟨n,vt.at n,1,true,false⟩) (s.ae [3,3,1]) rfl Ac J
        have e6:(I.ah.set i ⟨n,vt.at n,1,true,false⟩).length=I.ah.length:=bQ
        have e7:(ic (cK I i f) i n (vt.at n)).ah=I.ah.set i ⟨n,vt.at n,1,true,false⟩:=by simp only [ic,cK,we]
        rw [←e6,←e7,←m8] at s
        have s:=(eB (π:=ic (cK I i f) i n (vt.at n))).2 ⟨bM,wh,di,s.ae [3,0,1,1]⟩
        dsimp only [bringA,getA,aV] at s
        have hR:=eO.load (ε:=(π,μ,δ)) fB i f hq gj g1 mg hf hh Gf (by rw [nE]; exact hr) (by rw [nE]; exact hc)
        rw [nE] at hR
        exact ⟨_,_,_,hR,.inr ⟨rfl,u,rfl,(s.del 4).ae [1,0]⟩⟩
       ·skip
        refine zt rfl (ag rfl rfl aJ) (by simp; exact hc) ?_
        refine zk 8 rfl (WP.ret ⟨aa,_,rfl,?_⟩)
        have s:=s.drop
        have s:=eY (i:=i) (f':=dH) (v':=.bp) (s.rH.ae [2,2,0]) rfl Ac J
        have e6:(I.ah.set i dH).length=I.ah.length:=bQ
        rw [←e6,←m8] at s
        have s:=(eB (π:=cK I i f)).2 ⟨bM,wh,di,s.ae [3,0,2,2]⟩
        have hR:=eO.bad (ε:=(π,μ,δ)) fB i f hq gj g1 mg hf hh Gf (by rw [nE]; exact hr) (by rw [nE]; exact hc)
        rw [nE] at hR
        exact ⟨_,[],_,hR,.inl ⟨hc,rfl,(s.del 2).ae [0,1,0]⟩⟩
    ·skip
     refine zt rfl (ag rfl rfl aJ) (by simp; exact he) ?_
     exact zk 8 rfl (WP.ret ⟨aa,_,rfl,_,[],_,.out fB i f hq gj g1 mg hf hh he,.inl ⟨he,rfl,eB.2 ⟨bM,wh,di,s⟩⟩⟩)
   ·obtain ⟨i,f,rfl,hf⟩:=HT.at g1
    have hl:=(List.getElem?_eq_some_iff.1 hf).1
    obtain ⟨pre,fv,post,J,hlen,s⟩:=gW (s.ae [1]) hf
    have qu:=Mc f (aY hf)
    have nu:=HT.len f (aY hf)
    refine zo rfl (iZ rfl rfl g2) (zk 15 rfl (zf rfl (j6 _ _) (zl rfl (s.ld (k:=3) rfl ng rfl) (zm rfl (zo rfl (cx rfl rfl (k_ (i:=i) hl)) (zk 6 rfl (zf rfl (Bh _ _) (zS rfl (s.stM (k:=0) (j:=3) rfl xp J hlen (by simp [d_]) rfl rfl) ?_))))))))
    intro h s
    refine zk 5 rfl (zf rfl (ob _ _) (zl rfl (s.ld (k:=0) rfl dY (gE J rfl)) (zb rfl (by exact bk (aA (by omega) (by omega))) ?_)))
    refine zn rfl (zf rfl (ob _ _) (zS rfl (s.stM (k:=0) (j:=2) rfl kf J (by simpa [d_] using hlen) (by simp [d_]) rfl rfl) ?_))
    intro h s
    have e5:((d_ f fv).set 3 (.bool true)).set 2 (.int .i64 (f.pins+1))=d_ { f with dK:=true,pins:=f.pins+1 } fv:=rfl
    rw [e5] at s
    refine zk 5 rfl (zf rfl (wN _ _) (zl rfl (s.ld (k:=0) rfl bN (gE J rfl)) (zc rfl (tR hT (s.ae [2]) (dc _ _) (by omega)) ?_)))
    intro u h s
    refine zk 3 rfl (WP.ret ⟨aa,_,rfl,?_⟩)
    have s:=eY (i:=i) (f':={ f with dK:=true,pins:=f.pins+1 }) (s.ae [2,2,1]) rfl hf J
    refine ⟨0,f.b,_,.Ab i f hq gj g1 hf,.inr ⟨rfl,u,rfl,?_⟩⟩
    have e6:(π.ah.set i { f with dK:=true,pins:=f.pins+1 }).length=π.ah.length:=bQ
    rw [←e6] at s
    exact ((eB (π:={ π with ah:=π.ah.set i { f with dK:=true,pins:=f.pins+1 } })).2 ⟨bM,wh,di,s.ae [2,0,1,1]⟩).ae [1,0]
end
def Ad : Fm:=⟨0,[],0,false,false⟩
def Pl.fresh (n:Nat): Pl:=⟨List.replicate n dH,[],[],0⟩
theorem O8 : ∃i,Tryz.prog.info? 193=some i∧i.size=5∧i.bytes=48 :=
 ⟨_,(show Tryz.prog.info? 193=some ((Tryz.prog.info? 193).getD default) by kernel_rfl),by kernel_rfl,by kernel_rfl⟩
theorem Mf {a b:PM}: ∀n:Nat,(qL (repeatL [.int .i64 0,.bp,.int .i64 0,.bool false,.bool false] n) (List.replicate n Ad)).p a b:=by
 intro n
 induction n with
 | zero=>trivial
 | succ n I=>exact ⟨⟨⟨rfl,rfl,rfl,rfl⟩,⟨(by intro b J; cases J),.inl ⟨.inl rfl,rfl⟩⟩⟩,I⟩
section
variable {told:cN} {h:H} {S:List aq} {X:aq} {r k q p bM:Nat} {v x wh di:V} {l b:List Nat} {π:Pl} {m:List Fm} {μ:Lg} {δ:Dk}
noncomputable def W8 : Code:=eD [1,1,1,0,1,0,0] ((Tryz.f81.body).getD .skip)
theorem J6 {n:Nat}(hn:n<4294967296): ∀(j i:Nat) (m:List Fm) (h:H) (E:List (Nat×V)) (Q:Ex→List (Nat×V)→H→Prop),i+j=n→m=List.replicate i dH++List.replicate j Ad →
  Sat h (pt r (.cells 6 (nt p q bM n wh di 0) false)::dD bM m::S)→Has E [(8,.ptr r 0),(28,.int .i64 n),(29,.int .i64 i)] →
  (∀E' h',Has E' [(8,.ptr r 0)]→Sat h' (pt r (.cells 6 (nt p q bM n wh di 0) false)::dD bM (List.replicate n dH)::S)→Q (.exit 0) E' h')→WP ⟨Tryz.prog,told⟩ 41 (.loop W8) E h Q:=by
 intro j
 induction j with
 | zero =>
  intro i m h E Q hi hm s J hx
  refine WP.loop (WP.has J (zg rfl (zh rfl (ag rfl rfl aP) (by simp <;> omega) ?_)))
  refine zk 3 rfl (WP.exit (hx _ _ ⟨rfl,aa⟩ ?_))
  rw [hm] at s
  have:i=n:=by omega
  subst this
  simpa using s
 | succ j ih =>
  intro i m h E Q hi hm s J hx
  have xz:m.length=n:=by rw [hm]; simp; omega
  have hf:m[i]?=some Ad:=by rw [hm,iP (by simp)]; simp [sj]
  obtain ⟨pre,fv,post,I,hlen,s⟩:=gW (s.ae [1]) hf
  dsimp only [bringA,getA,aV] at s
  refine WP.loop (WP.has J (zg rfl (zt rfl (ag rfl rfl aP) (by simp <;> omega) ?_)))
  refine zk 5 rfl (WP.block (zK 8 rfl (zf rfl (j6 _ _) (zl rfl (s.ld (k:=3) rfl ng rfl) (zm rfl (zo rfl (cx rfl rfl (k_ (i:=i) (by omega))) ?_))))))
  refine zf rfl (mO _ _) (zS rfl (s.stM (k:=0) (j:=0) rfl kf I hlen (by simp [d_]) rfl rfl) ?_)
  intro h s
  dsimp only [setA] at s
  have e5:(d_ Ad fv).set 0 (.int .i64 (-1))=d_ dH fv:=rfl
  rw [e5] at s
  refine zv (zr rfl (zb rfl (by exact bk (aA (by omega) (by omega))) ?_))
  refine zm rfl (zv ?_)
  have s:=eY (i:=i) (f':=dH) s rfl hf I
  refine ih (i+1) (m.set i dH) h _ Q (by omega) ?_ (s.ae [1,0]) ⟨rfl,rfl,rfl,aa⟩ hx
  rw [hm,Av _ _ (by simp),eR,nT,sj,List.set_cons_zero,List.replicate_succ',eu]
  rfl
theorem O9 (hT:W told){n:Int}(s:Sat h S): Call ⟨Tryz.prog,told⟩ 81 [.ptr p 0,.ptr q 0,.int .i64 n] h fun v h' =>
  (¬(1≤n∧n≤1024)∧v=.bh [.cU,.int .i64 1]∧Sat h' S)∨(1≤n∧n≤1024∧∃r,v=.bh [.ptr r 0,.int .i64 0]∧Sat h' (dL r p q (Pl.fresh n.toNat)::S)):=by
 refine Call.of_wp (hT.free _ rfl) Tryz.func81 rfl rfl (zK 9 rfl ?_)
 refine zd rfl (ag rfl rfl aP) ?_ ?_
 ·intro J
  have J:n<1:=by simpa using J
  exact zk 11 rfl (WP.ret ⟨aa,_,rfl,.inl ⟨fun q=>by omega,rfl,s⟩⟩)
 ·intro J
  have J:1≤n:=by simp at J; omega
  refine zk 2 rfl ?_
  refine zd rfl (ag rfl rfl h_) ?_ ?_
  ·intro I
   have I:1024<n:=by simpa using I
   exact zk 8 rfl (WP.ret ⟨aa,_,rfl,.inl ⟨fun q=>by omega,rfl,s⟩⟩)
  ·intro I
   have I:n≤1024:=by simp at I; omega
   obtain ⟨n,rfl⟩:∃k:Nat,n=k:=⟨n.toNat,by omega⟩
   refine zk 9 rfl ?_
   obtain ⟨i1,jb,gi,tc⟩:=O8
   obtain ⟨id,h1,e1,s1⟩:=BT (P:=Tryz.prog) s vq jb SO gi (by omega) rfl (by decide) (n:=n) (by omega)
   refine az.any rfl rfl rfl (OpR.of (R:=fun v h'=>v=.sl id 0 n (.exact n)∧h'=h1) (rE rfl rfl e1) ⟨rfl,rfl⟩) ?_
   rintro v h ⟨rfl,rfl⟩
   have s:Sat h (dD id (List.replicate n Ad)::S):=iO.2 ⟨_,by rw [eR]; exact ((s1.gp (φ:=True) aa).hU fun a b _=>Mf n).ae [1]⟩
   refine az.A_ s rfl rfl rfl rfl (fun W9 h s => ?_)
   refine az.A_ s rfl rfl rfl rfl (fun T1 h s => ?_)
   refine zo rfl (cW rfl (by rw [SM]; rfl)) ?_
   refine az.cG s rfl rfl rfl (fO rfl rfl) (fun W_ h s => ?_)
   refine zk 7 rfl (zf rfl (j6 _ _) (zl rfl (s.ld (k:=0) rfl ng rfl) (zo rfl (aM rfl rfl rfl (oc rfl vq)) (zk 2 rfl (WP.block ?_)))))
   have s:=qG (f:=fun v (x:Nat×Bool)=>.pu (v=.agg [.int .u64 (x.1:Int),.bool x.2])) (s.ae [1])
   have s:=qG (f:=fun v (x:Int)=>.pu (v=.int .i64 x)) (s.ae [2])
   have s:=s.ae [2,2,0,0]
   refine J6 (n:=n) (by omega) n 0 _ _ _ _ (by omega) rfl s ⟨rfl,rfl,rfl,aa⟩ (fun E' h' k8 s' => ?_)
   refine WP.has k8 (zK 6 rfl (WP.ret ⟨aa,_,rfl,?_⟩))
   refine .inr ⟨J,I,_,rfl,(eB (π:=Pl.fresh n)).2 ⟨id,.map W9,.map T1,?_⟩⟩
   have e6:(Pl.fresh n).ah.length=n:=by simp [Pl.fresh]
   rw [e6]
   exact s'
end
theorem J7 {c:Nat}: ∀ {l:fJ} {b:Nat},ov c b l→bornUp c b (l.map sX)=true:=by
 intro l
 induction l with
 | nil=>intro b _; rfl
 | cons e l I =>
  intro b h
  obtain ⟨J,h2,h3⟩:=h
  simp only [cm,sX,bornUp]
  rw [show (Nat.ble b e.2.2&&Nat.blt e.2.2 c)=true by rw [aI,aE]; exact ⟨J,by rw [Nat.blt]; exact aE.2 h2⟩,af]
  exact I h3
theorem HV : ∀ {l:fJ},(∀e∈l,(Lit.int .i64 e.1).wf=true)→keyInts (l.map sX)=some (l.map (·.1)):=by
 intro l
 induction l with
 | nil=>intro _; rfl
 | cons e l I =>
  intro h
  simp only [cm,sX,keyInts]
  rw [h e cz,af]
  have:=I (fun e he=>h e (cj _ he))
  rw [this]
theorem E8 {x:Int}: ∀ {l:List Int},l.Pairwise (· < ·)→x∉l→(insI x l).Pairwise (· < ·):=by
 intro l
 induction l with
 | nil=>intro _ _; simp [insI]
 | cons y l ih =>
  intro h hx
  simp only [nK,gC,not_or] at h hx
  simp only [insI]
  by_cases J:x≤y
  ·rw [dy J,af]
   have:x<y:=by omega
   simp only [nK,gC]
   refine ⟨fun z I => ?_,h⟩
   rcases I with rfl | I
   ·exact this
   ·have:=h.1 z I; omega
  ·rw [dQ J,ay]
   simp only [nK]
   refine ⟨fun z I => ?_,ih h.2 hx.2⟩
   have:=(vf x l).mem_iff.1 I
   rcases List.mem_cons.1 this with rfl | I
   ·omega
   ·exact h.1 z I
theorem E9 : ∀ {l:List Int},l.Nodup→(kH l).Pairwise (· < ·):=by
 intro l
 induction l with
 | nil=>intro _; exact List.Pairwise.nil
 | cons x l I =>
  intro h
  simp only [mE] at h
  exact E8 (I h.2) (fun J=>h.1 ((fA l).mem_iff.1 J))
theorem Mg : ∀ {l:List Int},l.Pairwise (· < ·)→oG l=true:=by
 intro l
 induction l with
 | nil=>intro _; rfl
 | cons x l I =>
  intro h
  simp only [nK] at h
  simp only [oG,aI,nM,dx]
  exact ⟨h.1,I h.2⟩
section
variable {α:Type} {f:V→α→aq} {told:cN} {h:H} {S:List aq} {mv:V} {m:List (Int×α)} {b g:Nat}
def ei (m:List (Int×α)): List Int:=kH (m.map (·.1))
theorem oL {m:List (Int×α)}{n:Int}: n∈ei m↔n∈m.map (·.1):=(fA _).mem_iff
theorem Mh (l:List Int): (gd l).all storable=true:=by simp [gd,storable]
theorem vu (hT:W told)(s:Sat h (pt b (.cells 1 [mv] false)::ja f mv m::S))(hg:tq wR g=true)(hm:m.length≤1048576)(hk:∀n∈m.map (·.1),(Lit.int .i64 n).wf=true):
  Call ⟨Tryz.prog,told⟩ 61 [.fn (.func g) [] [.ptr b 0]] h fun v h'=>Sat h' (.arr 1 v (gd (ei m))::pt b (.cells 1 [mv] false)::ja f mv m::S):=by
 obtain ⟨id,l,c,rfl,hb,hn,s1⟩:=fX.1 (s.ae [1])
 have s1:Sat h (i_ id l c::fQ f l m::pt b (.cells 1 [.map id] false)::S):=s1
 obtain ⟨q1,q2,q3,q4,q5⟩:=s1.at (k:=1) rfl
 have I:=zP q5
 have hlen:l.length=m.length:=by have:=fb List.length I; simpa using this
 have xN:=s1.row (k:=0) rfl
 have Ve:=s1.row (k:=2) rfl
 have iL:∀e∈l,(Lit.int .i64 e.1).wf=true:=fun e he=>hk e.1 (by rw [←I]; exact List.mem_map_of_mem he)
 have Xa:oG (kH (l.map (·.1)))=true:=Mg (E9 (by rw [I]; exact hn))
 have J:∃v h',toldSorted wR [.fn (.func g) [] [.ptr b 0]] h=some (v,h')∧Sat h' (.arr 1 v (gd (ei m))::pt b (.cells 1 [.map id] false)::ja f (.map id) m::S):=by
  simp only [toldSorted,Ve,xN,ew,hg,J7 hb,HV iL,Xa]
  rw [show (Nat.beq 1 1&&true&&true&&Nat.ble l.length 1048576)=true by rw [aE.2 (by omega)]; rfl,af]
  simp only [af]
  cases hl:l.map (·.1) with
  | nil =>
   refine ⟨_,_,rfl,?_⟩
   have:ei m=[]:=by rw [ei,←I,hl]; rfl
   rw [this]
   exact s.l7
  | cons x xs =>
   refine ⟨_,_,rfl,?_⟩
   have e1:ei m=kH (x::xs):=by rw [ei,←I,hl]
   have e2:(kH (x::xs)).length=(x::xs).length:=(fA _).length_eq
   have e3:(x::xs).length=l.length:=by rw [←hl,ew]
   rw [e1,←e3]
   refine (s.new (.cells (gd (kH (x::xs))).length (gd (kH (x::xs))) false)).hU fun a r BM=>⟨Mh _,.inr ⟨h.next,(x::xs).length,.rest 1 0,(gd (kH (x::xs))).length,[],rfl,?_,?_,by simp,rfl,rfl,rfl,rfl,by simp⟩⟩
   ·rw [fD]; exact BM
   ·simp only [gd,ew,e2,cq]
 obtain ⟨v,h',e1,e2⟩:=J
 exact ⟨v,h',iE.told hT.sorted Tryz.func61 rfl e1,e2⟩
end
end Go.Proofs.YtefepnnfphdkpaaGreat.Am
