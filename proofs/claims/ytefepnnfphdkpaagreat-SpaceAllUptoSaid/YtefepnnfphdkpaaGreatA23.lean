/- SpaceAll: a part of its proof; conditions: its statement's. -/
import Derived.Test.YtefepnnfphdkpaaGreatA22
namespace Go.Proofs.YtefepnnfphdkpaaGreat.Am
open Go
structure Pl.Ok (π:Pl): Prop where
 hand:π.hand<π.ah.length
 many:π.ah.length≤1024
 aY:∀e∈π.aY,0≤e.2∧e.2<π.ah.length
 len:∀f∈π.ah,f.b.length≤512
 pins:∀f∈π.ah,0≤f.pins∧f.pins≤4294967296
theorem Pl.Ok.at {π:Pl}(h:π.Ok){n i:Int}(J:lookL n π.aY=some i): ∃(k:Nat) (f:Fm),i=k∧π.ah[k]?=some f:=by
 have I:=h.aY _ (jK J)
 exact ⟨i.toNat,π.ah[i.toNat]'(by have:=I.2; simp only at this; omega),by have:=I.1; simp only at this; omega,aN _⟩
def heldI (π:Pl)(n:Int): Option Nat:=match lookL n π.aY with
 | none=>none
 | some i=>match π.ah[i.toNat]? with
  | none=>none
  | some f=>if f.pins=0 then none else some i.toNat
def unpinF (π:Pl)(n:Int): Int×Pl:=match heldI π n with
 | none=>(18,π)
 | some i=>match π.ah[i]? with
  | none=>(18,π)
  | some f=>(0,{ π with ah:=π.ah.set i { f with pins:=f.pins-1 } })
def jQ (π:Pl)(n:Int)(aL:Nat): Nat:=match lookL n π.bV with
 | some x=>x.1
 | none=>aL
def jm (π:Pl)(n:Int)(b:List Nat)(aL:Nat): Int×Pl:=match heldI π n with
 | none=>(18,π)
 | some i=>match π.ah[i]? with
  | none=>(18,π)
  | some f=>if bN b=false then (4,π) else (0,{ π with ah:=π.ah.set i { f with b:=cO b aL,changed:=true },bV:=dr n (jQ π n aL,true) π.bV })
section
variable {told:cX} {h:H} {S:List au} {X:au} {r k q p bF:Nat} {v x wh di:V} {l b:List Nat} {π:Pl} {m:List Fm} {μ:Lg} {δ:Dk}
theorem E4 {n:Int}{j:Nat}(s:Sat h (CI wh π.aY::S)): (lookL n π.aY=none∧dI Tryz.prog h 186 wh (.int .i64 n) true=some (.aX [.int .i64 0,.bool false])) ∨
  ∃i,lookL n π.aY=some i∧dI Tryz.prog h 186 wh (.int .i64 n) true=some (.aX [.int .i64 i,.bool true]):=by
 rcases mh (f:=fun v (x:Int)=>.pu (v=.int .i64 x)) (n:=n) (fun _ _=>a_.pu _) s uA bG AY with ⟨I,J,_⟩ | ⟨u,i,I,J,_,s'⟩
 ·exact .inl ⟨I,J⟩
 ·obtain ⟨rfl,_⟩:=p_.1 s'
  exact .inr ⟨i,I,J⟩
theorem E5 {n:Int}(s:Sat h (E3 di π.bV::S)): (lookL n π.bV=none∧dI Tryz.prog h 187 di (.int .i64 n) true=some (.aX [.agg [.int .u64 0,.bool false],.bool false])∧dI Tryz.prog h 187 di (.int .i64 n) false=some (.agg [.int .u64 0,.bool false])) ∨
  ∃x,lookL n π.bV=some x∧dI Tryz.prog h 187 di (.int .i64 n) true=some (.aX [.agg [.int .u64 (x.1:Int),.bool x.2],.bool true])∧dI Tryz.prog h 187 di (.int .i64 n) false=some (.agg [.int .u64 (x.1:Int),.bool x.2]):=by
 rcases mh (f:=fun v (x:Nat×Bool)=>.pu (v=.agg [.int .u64 (x.1:Int),.bool x.2])) (n:=n) (fun _ _=>a_.pu _) s r6 bG vL with ⟨I,J,g3⟩ | ⟨u,x,I,J,g3,s'⟩
 ·exact .inl ⟨I,J,g3⟩
 ·obtain ⟨rfl,_⟩:=p_.1 s'
  exact .inr ⟨x,I,J,g3⟩
theorem E6 (hT:W told){n:Int}(s:Sat h (pt r (.cells 6 (mU p q bF π.ah.length wh di π.hand) false)::dn bF π.ah::CI wh π.aY::S))(Gy:π.Ok):
  Call ⟨Tryz.prog,told⟩ 126 [.ptr r 0,.int .i64 n] h fun v h'=>h'=h∧((heldI π n=none∧v=.aX [.cL,.int .i64 18])∨∃(i:Nat) (f:Fm),heldI π n=some i∧π.ah[i]?=some f∧v=.aX [.ptr bF (i*5),.int .i64 0]):=by
 refine Call.of_wp (hT.free _ rfl) Tryz.func126 rfl rfl (zK 9 rfl (zf rfl (rW _ _) (zl rfl (s.ld (k:=0) rfl yl rfl) (zm rfl ?_))))
 rcases E4 (n:=n) (j:=0) (s.ae [2]) with ⟨g1,g2⟩ | ⟨i,g1,g2⟩
 ·refine az.op rfl rfl rfl (iI rfl rfl g2) ?_
  exact zk 10 rfl (zt rfl (eP rfl rfl) (rfl) (zk 18 rfl (WP.ret ⟨aa,_,rfl,rfl,.inl ⟨by simp only [heldI,g1],rfl⟩⟩)))
 ·obtain ⟨i,f,rfl,hf⟩:=Gy.at g1
  have hl:=(List.getElem?_eq_some_iff.1 hf).1
  have hh:heldI π n=if f.pins=0 then none else some i:=by simp only [heldI,g1,cg,hf]
  obtain ⟨pre,fv,post,J,hlen,s'⟩:=gB (s.ae [1]) hf
  refine zo rfl (iI rfl rfl g2) (zk 10 rfl (zh rfl (eP rfl rfl) (rfl) (zk 3 rfl (zf rfl (jF _ _) (zl rfl (s.ld (k:=0) rfl mM rfl) (zm rfl (zo rfl (cI rfl rfl (kD (i:=i) hl)) (zf rfl (nu _ _) (zl rfl (s'.ld (k:=0) rfl eG (gd J rfl)) ?_)))))))))
  refine zd rfl (ag rfl rfl iJ) ?_ ?_
  ·intro I
   have I:f.pins=0:=by simpa using I
   exact zk 8 rfl (WP.ret ⟨aa,_,rfl,rfl,.inl ⟨by rw [hh,aq I],rfl⟩⟩)
  ·intro I
   have I:f.pins≠0:=by simpa using I
   exact zk 8 rfl (zf rfl (jF _ _) (zl rfl (s.ld (k:=0) rfl mM rfl) (zm rfl (zo rfl (cI rfl rfl (kD (i:=i) hl)) (zk 3 rfl (WP.ret ⟨aa,_,rfl,rfl,.inr ⟨i,f,by rw [hh,ai I],hf,rfl⟩⟩))))))
theorem CJ (hT:W told){n:Int}(s:Sat h (dB r p q π::S))(J:π.Ok):
  Call ⟨Tryz.prog,told⟩ 65 [.ptr r 0,.int .i64 n] h fun v h'=>v=.int .i64 (unpinF π n).1∧Sat h' (dB r p q (unpinF π n).2::S):=by
 have s0:=s
 obtain ⟨bF,wh,di,s⟩:=dV.1 s
 refine Call.of_wp (hT.free _ rfl) Tryz.func65 rfl rfl (zK 8 rfl (zc rfl (E6 (n:=n) hT s J) ?_))
 rintro v h' ⟨rfl,(⟨hh,rfl⟩ | ⟨i,f,hh,hf,rfl⟩)⟩
 ·have he:unpinF π n=(18,π):=by simp only [unpinF,hh]
  rw [he]
  exact zk 10 rfl (zt rfl (ag rfl rfl aF) (rfl) (zk 7 rfl (WP.ret ⟨aa,_,rfl,rfl,s0⟩)))
 ·have he:unpinF π n=(0,{ π with ah:=π.ah.set i { f with pins:=f.pins-1 } }):=by simp only [unpinF,hh,hf]
  rw [he]
  obtain ⟨pre,fv,post,I,hlen,s⟩:=gB (s.ae [1]) hf
  have KO:=J.pins f (aU hf)
  refine zk 10 rfl (zh rfl (ag rfl rfl aF) (rfl) (zk 7 rfl (zf rfl (nu _ _) (zl rfl (s.ld (k:=0) rfl eG (gd I rfl)) (zb rfl (by exact jC (aA (by omega) (by omega))) ?_)))))
  refine zn rfl (zf rfl (nu _ _) (zS rfl (s.stM (k:=0) (j:=2) rfl lD I hlen (by simp [dN]) rfl rfl) ?_))
  intro h s
  have e5:(dN f fv).set 2 (.int .i64 (f.pins-1))=dN { f with pins:=f.pins-1 } fv:=rfl
  rw [e5] at s
  refine zk 5 rfl (WP.ret ⟨aa,_,rfl,?_⟩)
  refine ⟨rfl,dV.2 ⟨bF,wh,di,?_⟩⟩
  have s:=eF (i:=i) (f':={ f with pins:=f.pins-1 }) s rfl hf I
  rw [bI]
  exact s.ae [1,0]
theorem Nm (hT:W told){n:Int}{aL:Nat}{bv:V}(s:Sat h (dB r p q π::X::S))(hX:cN X (cQ bv b))(Gy:π.Ok)(hb:b.length<9223372036854775808):
  Call ⟨Tryz.prog,told⟩ 64 [.ptr r 0,.int .i64 n,bv,.int .u64 (aL:Int)] h fun v h'=>v=.int .i64 (jm π n b aL).1∧Sat h' (dB r p q (jm π n b aL).2::X::S):=by
 have s0:=s
 obtain ⟨bF,wh,di,s⟩:=dV.1 s
 refine Call.of_wp (hT.free _ rfl) Tryz.func64 rfl rfl (zK 8 rfl (zc rfl (E6 (n:=n) hT s Gy) ?_))
 rintro v h' ⟨rfl,(⟨hh,rfl⟩ | ⟨i,f,hh,hf,rfl⟩)⟩
 ·have he:jm π n b aL=(18,π):=by simp only [jm,hh]
  rw [he]
  exact zk 10 rfl (zt rfl (ag rfl rfl aF) (rfl) (zk 7 rfl (WP.ret ⟨aa,_,rfl,rfl,s0⟩)))
 ·have he:jm π n b aL=(if bN b=false then (4,π) else (0,{ π with ah:=π.ah.set i { f with b:=cO b aL,changed:=true },bV:=dr n (jQ π n aL,true) π.bV })):=by simp only [jm,hh,hf]
  rw [he]
  refine zk 10 rfl (zh rfl (ag rfl rfl aF) (rfl) (zk 7 rfl (zc rfl (Nb (n:=aL) hT (s.ae [4]) hX hb) ?_)))
  rintro v h (⟨hg,u,rfl,s⟩ | ⟨hg,rfl,s⟩)
  ·rw [ai (by rw [hg]; decide)]
   have A8:(cO b aL).length=512:=by
    have h1:=sU (n:=aL) (gx hg)
    rw [cO,cm (by rw [dw]; omega),h1]
   obtain ⟨J,_,cap,_,rfl,_⟩:=s.eo (by omega)
   have s:=s.gH
   obtain ⟨pre,fv,post,I,hlen,s⟩:=gB (s.ae [3]) hf
   refine zk 10 rfl (zh rfl (ag rfl rfl aF) (rfl) (zk 9 rfl (zf rfl (vJ _ _) (zS rfl (s.stM (k:=0) (j:=1) rfl kz I hlen (by simp [dN]) rfl rfl) ?_))))
   intro h s
   refine zn rfl (zf rfl (Al _ _) (zS rfl (s.stM (k:=0) (j:=4) rfl rT I (by simpa [dN] using hlen) (by simp [dN]) rfl rfl) ?_))
   intro h s
   have e5:((dN f fv).set 1 (.sl J 0 (cO b aL).length cap)).set 4 (.bool true)=dN { f with b:=cO b aL,changed:=true } (.sl J 0 (cO b aL).length cap):=rfl
   rw [e5] at s
   have s:=eF (i:=i) (f':={ f with b:=cO b aL,changed:=true }) (s.ae [0,0,1]) rfl hf I
   have s:=s.ae [3,4,0]
   refine zk 5 rfl (zf rfl (pL _ _) (zl rfl (s.ld (k:=0) rfl vH rfl) (zm rfl ?_)))
   rcases E5 (n:=n) (s.ae [1]) with ⟨g1,g2,_⟩ | ⟨x,g1,g2,_⟩
   ·refine az.op rfl rfl rfl (iI rfl rfl g2) ?_
    refine zk 3 rfl ?_
    refine az.cx s rfl rfl rfl (cz vL) (fun UL h s => ?_)
    refine zS rfl (s.ik (j:=0) rfl vK rfl rfl) (fun h s => ?_)
    refine zk 6 rfl (zo rfl (eP rfl rfl) (zk 4 rfl (zf rfl (An _ _) ?_)))
    refine zS rfl (by exact s.je (k:=0) rfl F7 rfl (by decide) rfl rfl) (fun h s => ?_)
    refine zk 3 rfl (zf rfl (EP _ _) ?_)
    refine zS rfl (by exact s.je (k:=0) rfl rT rfl (by decide) rfl rfl) (fun h s => ?_)
    refine zk 2 rfl (WP.drawn [ak,ak,ak,ak,ak,ak,ak] rfl (by kernel_rfl) (by kernel_rfl) ?_)
    refine zM rfl (zN rfl (zF rfl (pL _ _) (zL rfl (s.ld (k:=1) rfl vH rfl) (zM rfl (zL rfl (s.cG (k:=0) rfl L1 vK) (aD.lQ rfl rfl rfl (OpR.mapUpdate rfl rfl rfl rfl (lR (f:=fun v (x:Nat×Bool)=>.pu (v=.agg [.int .u64 (x.1:Int),.bool x.2])) (x:=(aL,true)) (fun _ _=>a_.pu _) ((s.ae [2]).hO rfl) r6 bG)) ?_))))))
    intro w h s
    refine aD.nil ⟨⟨aa,aa,aa,aa,aa,aa,aa,aa⟩,?_⟩
    refine zK 4 rfl (WP.ret ⟨aa,_,rfl,?_⟩)
    have ed:jQ π n aL=aL:=by simp only [jQ,g1]
    rw [ed]
    refine ⟨rfl,dV.2 ⟨bF,wh,di,?_⟩⟩
    have e6:(π.ah.set i { f with b:=cO b aL,changed:=true }).length=π.ah.length:=bI
    show Sat h (pt r (.cells 6 (mU p q bF (π.ah.set i { f with b:=cO b aL,changed:=true }).length wh di π.hand) false)::_)
    rw [e6]
    exact ((s.ae [2,2,4,0,2]).del 6).del 5
   ·skip
    refine zo rfl (iI rfl rfl g2) (zk 3 rfl ?_)
    refine az.cx s rfl rfl rfl (cz vL) (fun UL h s => ?_)
    refine zS rfl (s.ik (j:=0) rfl vK rfl rfl) (fun h s => ?_)
    refine zk 6 rfl (zo rfl (eP rfl rfl) (zk 5 rfl (zf rfl (EP _ _) ?_)))
    refine zS rfl (by exact s.je (k:=0) rfl rT rfl (by decide) rfl rfl) (fun h s => ?_)
    refine zk 2 rfl (WP.drawn [ak,ak,ak,ak,ak,ak,ak] rfl (by kernel_rfl) (by kernel_rfl) ?_)
    refine zM rfl (zN rfl (zF rfl (pL _ _) (zL rfl (s.ld (k:=1) rfl vH rfl) (zM rfl (zL rfl (s.cG (k:=0) rfl L1 vK) (aD.lQ rfl rfl rfl (OpR.mapUpdate rfl rfl rfl rfl (lR (f:=fun v (x:Nat×Bool)=>.pu (v=.agg [.int .u64 (x.1:Int),.bool x.2])) (x:=(x.1,true)) (fun _ _=>a_.pu _) ((s.ae [2]).hO rfl) r6 bG)) ?_))))))
    intro w h s
    refine aD.nil ⟨⟨aa,aa,aa,aa,aa,aa,aa,aa⟩,?_⟩
    refine zK 4 rfl (WP.ret ⟨aa,_,rfl,?_⟩)
    have ed:jQ π n aL=x.1:=by simp only [jQ,g1]
    rw [ed]
    refine ⟨rfl,dV.2 ⟨bF,wh,di,?_⟩⟩
    have e6:(π.ah.set i { f with b:=cO b aL,changed:=true }).length=π.ah.length:=bI
    show Sat h (pt r (.cells 6 (mU p q bF (π.ah.set i { f with b:=cO b aL,changed:=true }).length wh di π.hand) false)::_)
    rw [e6]
    exact ((s.ae [2,2,4,0,2]).del 6).del 5
  ·rw [aq hg]
   exact zk 10 rfl (zt rfl (ag rfl rfl aF) (rfl) (zk 7 rfl (WP.ret ⟨aa,_,rfl,rfl,dV.2 ⟨bF,wh,di,s.ae [1,1,1,1,0]⟩⟩)))
theorem PK (hT:W told){n:Int}(s:Sat h (dB r p q π::S)): Call ⟨Tryz.prog,told⟩ 114 [.ptr r 0,.int .i64 n] h fun v h'=>v=.aX [.int .u64 (jQ π n 0:Nat),.bool (lookL n π.bV).isSome]∧Sat h' (dB r p q π::S):=by
 obtain ⟨bF,wh,di,s⟩:=dV.1 s
 refine Call.of_wp (hT.free _ rfl) Tryz.func114 rfl rfl (zK 9 rfl (zf rfl (pL _ _) (zl rfl (s.ld (k:=0) rfl vH rfl) (zm rfl ?_))))
 rcases E5 (n:=n) (s.ae [3]) with ⟨I,J,_⟩ | ⟨x,I,J,_⟩
 ·refine az.op rfl rfl rfl (iI rfl rfl J) ?_
  refine zk 3 rfl ?_
  refine az.cx s rfl rfl rfl (cz vL) (fun p6 h s => ?_)
  refine zS rfl (s.ik (j:=0) rfl vK rfl rfl) (fun h s => ?_)
  exact zk 4 rfl (zf rfl (An _ _) (zl rfl (s.ld (k:=0) rfl mK rfl) (zk 4 rfl (WP.ret ⟨aa,_,rfl,by simp only [jQ,I]; rfl,dV.2 ⟨bF,wh,di,s.drop⟩⟩))))
 ·skip
  refine zo rfl (iI rfl rfl J) (zk 3 rfl ?_)
  refine az.cx s rfl rfl rfl (cz vL) (fun p6 h s => ?_)
  refine zS rfl (s.ik (j:=0) rfl vK rfl rfl) (fun h s => ?_)
  exact zk 4 rfl (zf rfl (An _ _) (zl rfl (s.ld (k:=0) rfl mK rfl) (zk 4 rfl (WP.ret ⟨aa,_,rfl,by simp only [jQ,I]; rfl,dV.2 ⟨bF,wh,di,s.drop⟩⟩))))
def dx : Fm:=⟨-1,[],0,false,false⟩
def cu (π:Pl)(i:Nat)(f:Fm): Pl:={ π with ah:=π.ah.set i dx,aY:=if f.aS<0 then π.aY else j5 f.aS π.aY }
def gJ (π:Pl)(i:Nat)(n:Int)(b:List Nat): Pl:={ π with ah:=π.ah.set i ⟨n,b,1,true,false⟩,aY:=dr n (i:Int) π.aY }
inductive eu (ε:aH)(n:Int): Int→List Nat→aH→Prop where
 | arg (h:¬(0≤n∧n<ε.2.2.aT.length)):eu ε n 1 [] ε
 | yE (i:Nat) (f:Fm) (h1:0≤n) (h2:n<ε.2.2.aT.length) (hl:lookL n ε.1.aY=some (i:Int)) (hf:ε.1.ah[i]?=some f):eu ε n 0 f.b ({ ε.1 with ah:=ε.1.ah.set i { f with dz:=true,pins:=f.pins+1 } },ε.2)
 | out (eY:Pl) (i:Nat) (f:Fm) (h1:0≤n) (h2:n<ε.2.2.aT.length) (hl:lookL n ε.1.aY=none) (hn:er ε.1 eY) (hf:eY.ah[i]?=some f) (hh:eY.hand<eY.ah.length) (he:(outF (eY,ε.2) i).1≠0):eu ε n (outF (eY,ε.2) i).1 [] (outF (eY,ε.2) i).2
 | read (eY:Pl) (i:Nat) (f:Fm) (h1:0≤n) (h2:n<ε.2.2.aT.length) (hl:lookL n ε.1.aY=none) (hn:er ε.1 eY) (hf:eY.ah[i]?=some f) (hh:eY.hand<eY.ah.length) (he:(outF (eY,ε.2) i).1=0)
   (hr:(outF (eY,ε.2) i).2.2.2.nM n≠0):eu ε n ((outF (eY,ε.2) i).2.2.2.nM n) [] (cu (outF (eY,ε.2) i).2.1 i f,(outF (eY,ε.2) i).2.2)
 | bad (eY:Pl) (i:Nat) (f:Fm) (h1:0≤n) (h2:n<ε.2.2.aT.length) (hl:lookL n ε.1.aY=none) (hn:er ε.1 eY) (hf:eY.ah[i]?=some f) (hh:eY.hand<eY.ah.length) (he:(outF (eY,ε.2) i).1=0)
   (hr:(outF (eY,ε.2) i).2.2.2.nM n=0) (hc:fW ((outF (eY,ε.2) i).2.2.2.at n)≠0):eu ε n (fW ((outF (eY,ε.2) i).2.2.2.at n)) [] (cu (outF (eY,ε.2) i).2.1 i f,(outF (eY,ε.2) i).2.2)
 | load (eY:Pl) (i:Nat) (f:Fm) (h1:0≤n) (h2:n<ε.2.2.aT.length) (hl:lookL n ε.1.aY=none) (hn:er ε.1 eY) (hf:eY.ah[i]?=some f) (hh:eY.hand<eY.ah.length) (he:(outF (eY,ε.2) i).1=0)
   (hr:(outF (eY,ε.2) i).2.2.2.nM n=0) (hc:fW ((outF (eY,ε.2) i).2.2.2.at n)=0):eu ε n 0 ((outF (eY,ε.2) i).2.2.2.at n) (gJ (cu (outF (eY,ε.2) i).2.1 i f) i n ((outF (eY,ε.2) i).2.2.2.at n),(outF (eY,ε.2) i).2.2)
theorem wT {ε:aH}{i:Nat}(h:ε.2.2.Ok): (outF ε i).2.2.2.Ok:=by
 unfold outF
 split
 ·exact h
 ·split
  ·exact h
  ·split
   ·exact h
   ·split
    ·exact oN h
    ·split
     ·exact (oN h).cH
     ·exact (oN h).cH
theorem KP {ε:aH}{i:Nat}(h:ε.2.1.Ok): (outF ε i).2.2.1.Ok:=by
 unfold outF
 split
 ·exact h
 ·split
  ·exact h
  ·split
   ·exact h
   ·split
    ·exact wA h
    ·split <;> exact wA h
theorem kX {ε:aH}{i:Nat}{f:Fm}(I:ε.1.ah[i]?=some f): ∃c,(outF ε i).2.1.ah[i]?=some { f with changed:=c }:=by
 have J:=(List.getElem?_eq_some_iff.1 I).1
 unfold outF
 rw [I]
 dsimp only
 split
 ·exact ⟨f.changed,I⟩
 ·split
  ·exact ⟨f.changed,I⟩
  ·split
   ·exact ⟨f.changed,I⟩
   ·split
    ·exact ⟨f.changed,I⟩
    ·exact ⟨false,by simp [vg,J]⟩
theorem IN (hT:W told){n:Int}(s:Sat h (dB r p q π::bU q p μ::bj p δ::S))(Gy:π.Ok)(KO:∀f∈π.ah,f.pins=0)(KJ:μ.Ok)(CH:δ.Ok)(hw:δ.waiting.length≤268435456):
  Call ⟨Tryz.prog,told⟩ 63 [.ptr r 0,.int .i64 n] h fun v h'=>∃(e:Int) (b:List Nat) (ε:aH),eu (π,μ,δ) n e b ε ∧
   ((e≠0∧v=.aX [.bq,.int .i64 e]∧Sat h' (dB r p q ε.1::bU q p ε.2.1::bj p ε.2.2::S))∨(e=0∧∃u,v=.aX [u,.int .i64 0]∧Sat h' (bg u b::dB r p q ε.1::bU q p ε.2.1::bj p ε.2.2::S))):=by
 have s0:=s
 obtain ⟨bF,wh,di,s⟩:=dV.1 s
 refine Call.of_wp (hT.free _ rfl) Tryz.func63 rfl rfl (zK 9 rfl ?_)
 refine zd rfl (ag rfl rfl aO) ?_ ?_
 ·intro hq
  have hq:n<0:=by simpa using hq
  exact zk 16 rfl (WP.ret ⟨aa,_,rfl,1,[],(π,μ,δ),.arg (fun q=>by omega),.inl ⟨by decide,rfl,s0⟩⟩)
 ·intro hq
  have hq:0≤n:=by simp at hq; omega
  refine zk 4 rfl (zf rfl (vI _ _) (zl rfl (s.ld (k:=0) rfl qS rfl) (zc rfl (wQ hT (s.ae [5])) ?_)))
  rintro v h' ⟨rfl,rfl⟩
  refine zd rfl (ag rfl rfl od) ?_ ?_
  ·intro gE
   have gE:¬ n<δ.aT.length:=by simp at gE; omega
   exact zk 8 rfl (WP.ret ⟨aa,_,rfl,1,[],(π,μ,δ),.arg (fun q=>gE q.2),.inl ⟨by decide,rfl,s0⟩⟩)
  ·intro gE
   have gE:n<δ.aT.length:=by simp at gE; omega
   refine zk 9 rfl (zf rfl (rW _ _) (zl rfl (s.ld (k:=0) rfl yl rfl) (zm rfl ?_)))
   rcases E4 (n:=n) (j:=0) (s.ae [2]) with ⟨g1,g2⟩ | ⟨i,g1,g2⟩
   ·refine az.op rfl rfl rfl (iI rfl rfl g2) ?_
    refine zk 15 rfl (zc rfl (KN hT s Gy.hand (by have:=Gy.many; omega) KO) ?_)
    rintro v h ⟨i,eY,f,rfl,lK,hf,hh,s⟩
    have hl:=(List.getElem?_eq_some_iff.1 hf).1
    rw [←lK.aY,←lK.bV] at s
    have Rg:f.b.length≤512:=by
     have h1:π.ah[i]?=some (π.ah[i]'(by have:=lK.len; omega)):=aN _
     generalize (π.ah[i]'(by have:=lK.len; omega))=f0 at h1
     obtain ⟨t,ht⟩:=lK.get i f0 h1
     rw [hf] at ht
     have:=bH ht
     rw [this]
     exact Gy.len f0 (aU h1)
    refine zk 6 rfl (zh rfl (ag rfl rfl aO) (by simp <;> omega) ?_)
    refine zk 7 rfl (zf rfl (jF _ _) (zl rfl (s.ld (k:=0) rfl mM rfl) (zm rfl (zo rfl (cI rfl rfl (kD (i:=i) hl)) (zk 7 rfl (zc rfl (PF (π:=eY) hT s hf KJ CH (by omega) hw) ?_))))))
    rintro v h ⟨rfl,s⟩
    obtain ⟨c,yF⟩:=kX (ε:=(eY,μ,δ)) hf
    have Az:=wT (ε:=(eY,μ,δ)) (i:=i) CH
    refine zk 5 rfl ?_
    by_cases he:(outF (eY,μ,δ) i).1=0
    ·generalize ho:outF (eY,μ,δ) i=o at he s yF Az ⊢
     obtain ⟨oe,I,V2,uM⟩:=o
     dsimp only at he s yF Az ⊢
     subst he
     have E7:(outF (eY,μ,δ) i).1=0:=by rw [ho]
     have mZ:(outF (eY,μ,δ) i).2=(I,V2,uM):=by rw [ho]
     refine zh rfl (ag rfl rfl aF) (by decide) ?_
     obtain ⟨pre,fv,post,J,hlen,s⟩:=gB (s.ae [1]) yF
     refine zk 8 rfl (zf rfl (mg _ _) (zl rfl (s.ld (k:=0) rfl eG (gd J rfl)) ?_))
     refine zd rfl (ag rfl rfl od) ?_ ?_
     ·intro mV
      have mV:¬ f.aS<0:=by simp at mV; omega
      refine zk 2 rfl (WP.drawn [ak,ak,ak,ak,ak,ak,ak,ak,ak] rfl (by kernel_rfl) (by kernel_rfl) ?_)
      refine zM rfl (zN rfl (zF rfl (rW _ _) (zL rfl (s.ld (k:=3) rfl yl rfl) (zM rfl (zN rfl (zF rfl (mg _ _) (zL rfl (s.ld (k:=0) rfl eG (gd J rfl)) (aD.lQ rfl rfl rfl (OpR.delete rfl rfl rfl rfl (Kx (s.ae [4]) uA bG)) ?_))))))))
      intro v h s
      have s:=s.ae [1,1,1,1,0]
      refine aD.nil ⟨⟨aa,aa,aa,aa,aa,aa,aa,aa,aa,aa⟩,?_⟩
      refine zK 3 rfl (zo rfl (cW rfl (by rw [BB]; rfl)) ?_)
      refine zn rfl (zS rfl (s.Mj (k:=0) (row':=dN dx .bq) rfl ym J hlen (by simp [dN]) rfl) ?_)
      intro h s
      have Gz:(pre++(dN dx .bq++post)).length=I.ah.length*5:=by simpa [dN] using hlen
      have nQ:(cu I i f).aY=j5 f.aS I.aY:=by simp only [cu]; rw [ai mV]
      refine zk 5 rfl (zf rfl (vI _ _) (zl rfl (s.ld (k:=3) rfl qS rfl) (zm rfl (zc rfl (IM (n:=n) hT (s.ae [7]) Az) ?_))))
      rintro v h (⟨hr,rfl,s⟩ | ⟨hr,u,rfl,s⟩)
      ·dsimp only [bringA,getA,bk] at s
       refine zk 10 rfl (zt rfl (ag rfl rfl aF) (by simp; exact hr) ?_)
       refine zk 8 rfl (WP.ret ⟨aa,_,rfl,?_⟩)
       have s:=eF (i:=i) (f':=dx) (v':=.bq) (s.oJ.ae [2,2,0]) rfl yF J
       have e6:(I.ah.set i dx).length=I.ah.length:=bI
       rw [←e6,←nQ] at s
       have s:=(dV (π:=cu I i f)).2 ⟨bF,wh,di,s.ae [3,0,2,2]⟩
       have hR:=eu.read (ε:=(π,μ,δ)) eY i f hq gE g1 lK hf hh E7 (by rw [mZ]; exact hr)
       rw [mZ] at hR
       exact ⟨_,[],_,hR,.inl ⟨hr,rfl,(s.del 2).ae [0,1,0]⟩⟩
      ·have QZ:=Az.at n
       obtain ⟨qd,_,cap,_,rfl,_⟩:=s.eo (by omega)
       refine zk 10 rfl (zh rfl (ag rfl rfl aF) (rfl) (zk 7 rfl (zc rfl (CD hT s (bz _ _) (by omega)) ?_)))
       rintro v h ⟨rfl,s⟩
       refine zk 5 rfl ?_
       by_cases hc:fW (uM.at n)=0
       ·skip
        refine zh rfl (ag rfl rfl aF) (by simp; exact hc) ?_
        have s:=s.gH.ae [2,2,0,2,2,2,2,0,0]
        refine zk 8 rfl (zo rfl (cW rfl (by rw [BB]; rfl)) ?_)
        refine zn rfl (zS rfl (s.Mj (k:=0) (row':=dN ⟨n,uM.at n,1,true,false⟩ (.sl qd 0 (uM.at n).length cap)) rfl ym J Gz (by simp [dN]) rfl) ?_)
        intro h s
        refine zk 5 rfl (zf rfl (rW _ _) (zl rfl (s.ld (k:=3) rfl yl rfl) (zk 2 rfl (az.lQ rfl rfl (OpR.mapUpdate rfl rfl rfl rfl (lR (f:=fun v (x:Int)=>.pu (v=.int .i64 x)) (x:=(i:Int)) (fun _ _=>a_.pu _) ((s.ae [4]).hO rfl) uA bG)) ?_))))
        intro w h s
        refine zk 4 rfl (zc rfl (sS hT (s.ae [3]) (d_ _ _) (by omega)) ?_)
        intro u h s
        refine zk 3 rfl (WP.ret ⟨aa,_,rfl,?_⟩)
        have s:=eF (i:=i) (f':=⟨n,uM.at n,1,true,false⟩) (s.ae [3,3,1]) rfl yF J
        have e6:(I.ah.set i ⟨n,uM.at n,1,true,false⟩).length=I.ah.length:=bI
        have e7:(gJ (cu I i f) i n (uM.at n)).ah=I.ah.set i ⟨n,uM.at n,1,true,false⟩:=by simp only [gJ,cu,vn]
        rw [←e6,←e7,←nQ] at s
        have s:=(dV (π:=gJ (cu I i f) i n (uM.at n))).2 ⟨bF,wh,di,s.ae [3,0,1,1]⟩
        have hR:=eu.load (ε:=(π,μ,δ)) eY i f hq gE g1 lK hf hh E7 (by rw [mZ]; exact hr) (by rw [mZ]; exact hc)
        rw [mZ] at hR
        exact ⟨_,_,_,hR,.inr ⟨rfl,u,rfl,(s.del 4).ae [1,0]⟩⟩
       ·skip
        refine zt rfl (ag rfl rfl aF) (by simp; exact hc) ?_
        refine zk 8 rfl (WP.ret ⟨aa,_,rfl,?_⟩)
        have s:=s.drop
        have s:=eF (i:=i) (f':=dx) (v':=.bq) (s.oJ.ae [2,2,0]) rfl yF J
        have e6:(I.ah.set i dx).length=I.ah.length:=bI
        rw [←e6,←nQ] at s
        have s:=(dV (π:=cu I i f)).2 ⟨bF,wh,di,s.ae [3,0,2,2]⟩
        dsimp only [bringA,getA,bk] at s
        have hR:=eu.bad (ε:=(π,μ,δ)) eY i f hq gE g1 lK hf hh E7 (by rw [mZ]; exact hr) (by rw [mZ]; exact hc)
        rw [mZ] at hR
        exact ⟨_,[],_,hR,.inl ⟨hc,rfl,(s.del 2).ae [0,1,0]⟩⟩
     ·intro mV
      have mV:f.aS<0:=by simp at mV; omega
      refine zk 6 rfl (zo rfl (cW rfl (by rw [BB]; rfl)) ?_)
      refine zn rfl (zS rfl (s.Mj (k:=0) (row':=dN dx .bq) rfl ym J hlen (by simp [dN]) rfl) ?_)
      intro h s
      dsimp only [setA] at s
      have Gz:(pre++(dN dx .bq++post)).length=I.ah.length*5:=by simpa [dN] using hlen
      have nQ:(cu I i f).aY=I.aY:=by simp only [cu]; rw [aq mV]
      refine zk 5 rfl (zf rfl (vI _ _) (zl rfl (s.ld (k:=3) rfl qS rfl) (zm rfl (zc rfl (IM (n:=n) hT (s.ae [7]) Az) ?_))))
      rintro v h (⟨hr,rfl,s⟩ | ⟨hr,u,rfl,s⟩)
      ·dsimp only [bringA,getA,bk] at s
       refine zk 10 rfl (zt rfl (ag rfl rfl aF) (by simp; exact hr) ?_)
       refine zk 8 rfl (WP.ret ⟨aa,_,rfl,?_⟩)
       have s:=eF (i:=i) (f':=dx) (v':=.bq) (s.oJ.ae [2,2,0]) rfl yF J
       have e6:(I.ah.set i dx).length=I.ah.length:=bI
       rw [←e6,←nQ] at s
       have s:=(dV (π:=cu I i f)).2 ⟨bF,wh,di,s.ae [3,0,2,2]⟩
       have hR:=eu.read (ε:=(π,μ,δ)) eY i f hq gE g1 lK hf hh E7 (by rw [mZ]; exact hr)
       rw [mZ] at hR
       exact ⟨_,[],_,hR,.inl ⟨hr,rfl,(s.del 2).ae [0,1,0]⟩⟩
      ·have QZ:=Az.at n
       obtain ⟨qd,_,cap,_,rfl,_⟩:=s.eo (by omega)
       refine zk 10 rfl (zh rfl (ag rfl rfl aF) (rfl) (zk 7 rfl (zc rfl (CD hT s (bz _ _) (by omega)) ?_)))
       rintro v h ⟨rfl,s⟩
       refine zk 5 rfl ?_
       by_cases hc:fW (uM.at n)=0
       ·skip
        refine zh rfl (ag rfl rfl aF) (by simp; exact hc) ?_
        have s:=s.gH.ae [2,2,0,2,2,2,2,0,0]
        refine zk 8 rfl (zo rfl (cW rfl (by rw [BB]; rfl)) ?_)
        refine zn rfl (zS rfl (s.Mj (k:=0) (row':=dN ⟨n,uM.at n,1,true,false⟩ (.sl qd 0 (uM.at n).length cap)) rfl ym J Gz (by simp [dN]) rfl) ?_)
        intro h s
        refine zk 5 rfl (zf rfl (rW _ _) (zl rfl (s.ld (k:=3) rfl yl rfl) (zk 2 rfl (az.lQ rfl rfl (OpR.mapUpdate rfl rfl rfl rfl (lR (f:=fun v (x:Int)=>.pu (v=.int .i64 x)) (x:=(i:Int)) (fun _ _=>a_.pu _) ((s.ae [4]).hO rfl) uA bG)) ?_))))
        intro w h s
        refine zk 4 rfl (zc rfl (sS hT (s.ae [3]) (d_ _ _) (by omega)) ?_)
        intro u h s
        refine zk 3 rfl (WP.ret ⟨aa,_,rfl,?_⟩)
        have s:=eF (i:=i) (f':=⟨n,uM.at n,1,true,false⟩) (s.ae [3,3,1]) rfl yF J
        have e6:(I.ah.set i ⟨n,uM.at n,1,true,false⟩).length=I.ah.length:=bI
        have e7:(gJ (cu I i f) i n (uM.at n)).ah=I.ah.set i ⟨n,uM.at n,1,true,false⟩:=by simp only [gJ,cu,vn]
        rw [←e6,←e7,←nQ] at s
        have s:=(dV (π:=gJ (cu I i f) i n (uM.at n))).2 ⟨bF,wh,di,s.ae [3,0,1,1]⟩
        dsimp only [bringA,getA,bk] at s
        have hR:=eu.load (ε:=(π,μ,δ)) eY i f hq gE g1 lK hf hh E7 (by rw [mZ]; exact hr) (by rw [mZ]; exact hc)
        rw [mZ] at hR
        exact ⟨_,_,_,hR,.inr ⟨rfl,u,rfl,(s.del 4).ae [1,0]⟩⟩
       ·skip
        refine zt rfl (ag rfl rfl aF) (by simp; exact hc) ?_
        refine zk 8 rfl (WP.ret ⟨aa,_,rfl,?_⟩)
        have s:=s.drop
        have s:=eF (i:=i) (f':=dx) (v':=.bq) (s.oJ.ae [2,2,0]) rfl yF J
        have e6:(I.ah.set i dx).length=I.ah.length:=bI
        rw [←e6,←nQ] at s
        have s:=(dV (π:=cu I i f)).2 ⟨bF,wh,di,s.ae [3,0,2,2]⟩
        have hR:=eu.bad (ε:=(π,μ,δ)) eY i f hq gE g1 lK hf hh E7 (by rw [mZ]; exact hr) (by rw [mZ]; exact hc)
        rw [mZ] at hR
        exact ⟨_,[],_,hR,.inl ⟨hc,rfl,(s.del 2).ae [0,1,0]⟩⟩
    ·skip
     refine zt rfl (ag rfl rfl aF) (by simp; exact he) ?_
     exact zk 8 rfl (WP.ret ⟨aa,_,rfl,_,[],_,.out eY i f hq gE g1 lK hf hh he,.inl ⟨he,rfl,dV.2 ⟨bF,wh,di,s⟩⟩⟩)
   ·obtain ⟨i,f,rfl,hf⟩:=Gy.at g1
    have hl:=(List.getElem?_eq_some_iff.1 hf).1
    obtain ⟨pre,fv,post,J,hlen,s⟩:=gB (s.ae [1]) hf
    have mY:=KO f (aU hf)
    have RR:=Gy.len f (aU hf)
    refine zo rfl (iI rfl rfl g2) (zk 15 rfl (zf rfl (jF _ _) (zl rfl (s.ld (k:=3) rfl mM rfl) (zm rfl (zo rfl (cI rfl rfl (kD (i:=i) hl)) (zk 6 rfl (zf rfl (Ak _ _) (zS rfl (s.stM (k:=0) (j:=3) rfl rT J hlen (by simp [dN]) rfl rfl) ?_))))))))
    intro h s
    refine zk 5 rfl (zf rfl (nu _ _) (zl rfl (s.ld (k:=0) rfl eG (gd J rfl)) (zb rfl (by exact aV (aA (by omega) (by omega))) ?_)))
    refine zn rfl (zf rfl (nu _ _) (zS rfl (s.stM (k:=0) (j:=2) rfl lD J (by simpa [dN] using hlen) (by simp [dN]) rfl rfl) ?_))
    intro h s
    have e5:((dN f fv).set 3 (.bool true)).set 2 (.int .i64 (f.pins+1))=dN { f with dz:=true,pins:=f.pins+1 } fv:=rfl
    rw [e5] at s
    refine zk 5 rfl (zf rfl (vJ _ _) (zl rfl (s.ld (k:=0) rfl cy (gd J rfl)) (zc rfl (sS hT (s.ae [2]) (d_ _ _) (by omega)) ?_)))
    intro u h s
    refine zk 3 rfl (WP.ret ⟨aa,_,rfl,?_⟩)
    have s:=eF (i:=i) (f':={ f with dz:=true,pins:=f.pins+1 }) (s.ae [2,2,1]) rfl hf J
    refine ⟨0,f.b,_,.yE i f hq gE g1 hf,.inr ⟨rfl,u,rfl,?_⟩⟩
    have e6:(π.ah.set i { f with dz:=true,pins:=f.pins+1 }).length=π.ah.length:=bI
    rw [←e6] at s
    exact ((dV (π:={ π with ah:=π.ah.set i { f with dz:=true,pins:=f.pins+1 } })).2 ⟨bF,wh,di,s.ae [2,0,1,1]⟩).ae [1,0]
end
def yG : Fm:=⟨0,[],0,false,false⟩
def Pl.fresh (n:Nat): Pl:=⟨List.replicate n dx,[],[],0⟩
theorem Nn : ∃i,Tryz.prog.info? 193=some i∧i.size=5∧i.bytes=48 :=
 ⟨_,(show Tryz.prog.info? 193=some ((Tryz.prog.info? 193).getD default) by kernel_rfl),by kernel_rfl,by kernel_rfl⟩
theorem KQ {a b:PM}: ∀n:Nat,(qh (repeatL [.int .i64 0,.bq,.int .i64 0,.bool false,.bool false] n) (List.replicate n yG)).p a b:=by
 intro n
 induction n with
 | zero=>trivial
 | succ n I=>exact ⟨⟨⟨rfl,rfl,rfl,rfl⟩,⟨(by intro b J; cases J),.inl ⟨.inl rfl,rfl⟩⟩⟩,I⟩
section
variable {told:cX} {h:H} {S:List au} {X:au} {r k q p bF:Nat} {v x wh di:V} {l b:List Nat} {π:Pl} {m:List Fm} {μ:Lg} {δ:Dk}
noncomputable def UM : Code:=fC [1,1,1,0,1,0,0] ((Tryz.f81.body).getD .skip)
theorem IP {n:Nat}(hn:n<4294967296): ∀(j i:Nat) (m:List Fm) (h:H) (E:List (Nat×V)) (Q:Ex→List (Nat×V)→H→Prop),i+j=n→m=List.replicate i dx++List.replicate j yG →
  Sat h (pt r (.cells 6 (mU p q bF n wh di 0) false)::dn bF m::S)→Has E [(8,.ptr r 0),(28,.int .i64 n),(29,.int .i64 i)] →
  (∀E' h',Has E' [(8,.ptr r 0)]→Sat h' (pt r (.cells 6 (mU p q bF n wh di 0) false)::dn bF (List.replicate n dx)::S)→Q (.exit 0) E' h')→WP ⟨Tryz.prog,told⟩ 41 (.loop UM) E h Q:=by
 intro j
 induction j with
 | zero =>
  intro i m h E Q hi hm s J hx
  refine WP.loop (WP.has J (zg rfl (zh rfl (ag rfl rfl aO) (by simp <;> omega) ?_)))
  refine zk 3 rfl (WP.exit (hx _ _ ⟨rfl,aa⟩ ?_))
  rw [hm] at s
  have:i=n:=by omega
  subst this
  simpa using s
 | succ j ih =>
  intro i m h E Q hi hm s J hx
  have Mk:m.length=n:=by rw [hm]; simp; omega
  have hf:m[i]?=some yG:=by rw [hm,kK (by simp)]; simp [oT]
  obtain ⟨pre,fv,post,I,hlen,s⟩:=gB (s.ae [1]) hf
  dsimp only [bringA,getA,bk] at s
  refine WP.loop (WP.has J (zg rfl (zt rfl (ag rfl rfl aO) (by simp <;> omega) ?_)))
  refine zk 5 rfl (WP.block (zK 8 rfl (zf rfl (jF _ _) (zl rfl (s.ld (k:=3) rfl mM rfl) (zm rfl (zo rfl (cI rfl rfl (kD (i:=i) (by omega))) ?_))))))
  refine zf rfl (mg _ _) (zS rfl (s.stM (k:=0) (j:=0) rfl lD I hlen (by simp [dN]) rfl rfl) ?_)
  intro h s
  dsimp only [setA] at s
  have e5:(dN yG fv).set 0 (.int .i64 (-1))=dN dx fv:=rfl
  rw [e5] at s
  refine zv (zr rfl (zb rfl (by exact aV (aA (by omega) (by omega))) ?_))
  refine zm rfl (zv ?_)
  have s:=eF (i:=i) (f':=dx) s rfl hf I
  refine ih (i+1) (m.set i dx) h _ Q (by omega) ?_ (s.ae [1,0]) ⟨rfl,rfl,rfl,aa⟩ hx
  rw [hm,List.set_append_right _ _ (by simp),c8,rH,oT,List.set_cons_zero,List.replicate_succ',eZ]
  rfl
theorem No (hT:W told){n:Int}(s:Sat h S): Call ⟨Tryz.prog,told⟩ 81 [.ptr p 0,.ptr q 0,.int .i64 n] h fun v h' =>
  (¬(1≤n∧n≤1024)∧v=.aX [.cL,.int .i64 1]∧Sat h' S)∨(1≤n∧n≤1024∧∃r,v=.aX [.ptr r 0,.int .i64 0]∧Sat h' (dB r p q (Pl.fresh n.toNat)::S)):=by
 refine Call.of_wp (hT.free _ rfl) Tryz.func81 rfl rfl (zK 9 rfl ?_)
 refine zd rfl (ag rfl rfl aO) ?_ ?_
 ·intro J
  have J:n<1:=by simpa using J
  exact zk 11 rfl (WP.ret ⟨aa,_,rfl,.inl ⟨fun q=>by omega,rfl,s⟩⟩)
 ·intro J
  have J:1≤n:=by simp at J; omega
  refine zk 2 rfl ?_
  refine zd rfl (ag rfl rfl gv) ?_ ?_
  ·intro I
   have I:1024<n:=by simpa using I
   exact zk 8 rfl (WP.ret ⟨aa,_,rfl,.inl ⟨fun q=>by omega,rfl,s⟩⟩)
  ·intro I
   have I:n≤1024:=by simp at I; omega
   obtain ⟨n,rfl⟩:∃k:Nat,n=k:=⟨n.toNat,by omega⟩
   refine zk 9 rfl ?_
   obtain ⟨i1,jI,iq,r9⟩:=Nn
   obtain ⟨id,h1,e1,s1⟩:=A1 (P:=Tryz.prog) s uK jI QF iq (by omega) rfl (by decide) (n:=n) (by omega)
   refine az.any rfl rfl rfl (OpR.of (R:=fun v h'=>v=.sl id 0 n (.exact n)∧h'=h1) (sN rfl rfl e1) ⟨rfl,rfl⟩) ?_
   rintro v h ⟨rfl,rfl⟩
   have s:Sat h (dn id (List.replicate n yG)::S):=ir.2 ⟨_,by rw [c8]; exact ((s1.hO (φ:=True) aa).gR fun a b _=>KQ n).ae [1]⟩
   refine az.Ac s rfl rfl rfl rfl (fun UN h s => ?_)
   refine az.Ac s rfl rfl rfl rfl (fun RU h s => ?_)
   refine zo rfl (cW rfl (by rw [QD]; rfl)) ?_
   refine az.cx s rfl rfl rfl (fB rfl rfl) (fun UO h s => ?_)
   refine zk 7 rfl (zf rfl (jF _ _) (zl rfl (s.ld (k:=0) rfl mM rfl) (zo rfl (aQ rfl rfl rfl (nA rfl uK)) (zk 2 rfl (WP.block ?_)))))
   have s:=qc (f:=fun v (x:Nat×Bool)=>.pu (v=.agg [.int .u64 (x.1:Int),.bool x.2])) (s.ae [1])
   have s:=qc (f:=fun v (x:Int)=>.pu (v=.int .i64 x)) (s.ae [2])
   have s:=s.ae [2,2,0,0]
   refine IP (n:=n) (by omega) n 0 _ _ _ _ (by omega) rfl s ⟨rfl,rfl,rfl,aa⟩ (fun E' h' kB s' => ?_)
   refine WP.has kB (zK 6 rfl (WP.ret ⟨aa,_,rfl,?_⟩))
   refine .inr ⟨J,I,_,rfl,(dV (π:=Pl.fresh n)).2 ⟨id,.map UN,.map RU,?_⟩⟩
   have e6:(Pl.fresh n).ah.length=n:=by simp [Pl.fresh]
   rw [e6]
   exact s'
end
theorem IQ {c:Nat}: ∀ {l:fl} {b:Nat},nL c b l→bornUp c b (l.map rX)=true:=by
 intro l
 induction l with
 | nil=>intro b _; rfl
 | cons e l I =>
  intro b h
  obtain ⟨J,h2,h3⟩:=h
  simp only [bX,rX,bornUp]
  rw [show (Nat.ble b e.2.2&&Nat.blt e.2.2 c)=true by rw [aG,aB]; exact ⟨J,by rw [Nat.blt]; exact aB.2 h2⟩,af]
  exact I h3
theorem GB : ∀ {l:fl},(∀e∈l,(Lit.int .i64 e.1).wf=true)→keyInts (l.map rX)=some (l.map (·.1)):=by
 intro l
 induction l with
 | nil=>intro _; rfl
 | cons e l I =>
  intro h
  simp only [bX,rX,keyInts]
  rw [h e c9,af]
  have:=I (fun e he=>h e (cJ _ he))
  rw [this]
theorem DY {x:Int}: ∀ {l:List Int},l.Pairwise (· < ·)→x∉l→(insI x l).Pairwise (· < ·):=by
 intro l
 induction l with
 | nil=>intro _ _; simp [insI]
 | cons y l ih =>
  intro h hx
  simp only [m8,gn,not_or] at h hx
  simp only [insI]
  by_cases J:x≤y
  ·rw [cK J,af]
   have:x<y:=by omega
   simp only [m8,gn]
   refine ⟨fun z I => ?_,h⟩
   rcases I with rfl | I
   ·exact this
   ·have:=h.1 z I; omega
  ·rw [cU J,ay]
   simp only [m8]
   refine ⟨fun z I => ?_,ih h.2 hx.2⟩
   have:=(uy x l).mem_iff.1 I
   rcases List.mem_cons.1 this with rfl | I
   ·omega
   ·exact h.1 z I
theorem DZ : ∀ {l:List Int},l.Nodup→(j6 l).Pairwise (· < ·):=by
 intro l
 induction l with
 | nil=>intro _; exact List.Pairwise.nil
 | cons x l I =>
  intro h
  simp only [lW] at h
  exact DY (I h.2) (fun J=>h.1 ((eX l).mem_iff.1 J))
theorem KR : ∀ {l:List Int},l.Pairwise (· < ·)→nU l=true:=by
 intro l
 induction l with
 | nil=>intro _; rfl
 | cons x l I =>
  intro h
  simp only [m8] at h
  simp only [nU,aG,m_,dR]
  exact ⟨h.1,I h.2⟩
section
variable {α:Type} {f:V→α→au} {told:cX} {h:H} {S:List au} {mv:V} {m:List (Int×α)} {b g:Nat}
def dO (m:List (Int×α)): List Int:=j6 (m.map (·.1))
theorem nY {m:List (Int×α)}{n:Int}: n∈dO m↔n∈m.map (·.1):=(eX _).mem_iff
theorem KS (l:List Int): (fQ l).all storable=true:=by simp [fQ,storable]
theorem uN (hT:W told)(s:Sat h (pt b (.cells 1 [mv] false)::iL f mv m::S))(hg:sn vM g=true)(hm:m.length≤1048576)(hk:∀n∈m.map (·.1),(Lit.int .i64 n).wf=true):
  Call ⟨Tryz.prog,told⟩ 61 [.fn (.func g) [] [.ptr b 0]] h fun v h'=>Sat h' (.arr 1 v (fQ (dO m))::pt b (.cells 1 [mv] false)::iL f mv m::S):=by
 obtain ⟨id,l,c,rfl,hb,hn,s1⟩:=fM.1 (s.ae [1])
 have s1:Sat h (iK id l c::fD f l m::pt b (.cells 1 [.map id] false)::S):=s1
 obtain ⟨q1,q2,q3,q4,q5⟩:=s1.at (k:=1) rfl
 have I:=yp q5
 have hlen:l.length=m.length:=by have:=eB List.length I; simpa using this
 have wM:=s1.row (k:=0) rfl
 have S_:=s1.row (k:=2) rfl
 have gP:∀e∈l,(Lit.int .i64 e.1).wf=true:=fun e he=>hk e.1 (by rw [←I]; exact List.mem_map_of_mem he)
 have UP:nU (j6 (l.map (·.1)))=true:=KR (DZ (by rw [I]; exact hn))
 have J:∃v h',toldSorted vM [.fn (.func g) [] [.ptr b 0]] h=some (v,h')∧Sat h' (.arr 1 v (fQ (dO m))::pt b (.cells 1 [.map id] false)::iL f (.map id) m::S):=by
  simp only [toldSorted,S_,wM,eM,hg,IQ hb,GB gP,UP]
  rw [show (Nat.beq 1 1&&true&&true&&Nat.ble l.length 1048576)=true by rw [aB.2 (by omega)]; rfl,af]
  simp only [af]
  cases hl:l.map (·.1) with
  | nil =>
   refine ⟨_,_,rfl,?_⟩
   have:dO m=[]:=by rw [dO,←I,hl]; rfl
   rw [this]
   exact s.mN
  | cons x xs =>
   refine ⟨_,_,rfl,?_⟩
   have e1:dO m=j6 (x::xs):=by rw [dO,←I,hl]
   have e2:(j6 (x::xs)).length=(x::xs).length:=(eX _).length_eq
   have e3:(x::xs).length=l.length:=by rw [←hl,eM]
   rw [e1,←e3]
   refine (s.new (.cells (fQ (j6 (x::xs))).length (fQ (j6 (x::xs))) false)).gR fun a r AT=>⟨KS _,.inr ⟨h.next,(x::xs).length,.rest 1 0,(fQ (j6 (x::xs))).length,[],rfl,?_,?_,by simp,rfl,rfl,rfl,rfl,by simp⟩⟩
   ·rw [fH]; exact AT
   ·simp only [fQ,eM,e2,cq]
 obtain ⟨v,h',e1,e2⟩:=J
 exact ⟨v,h',jd.told hT.sorted Tryz.func61 rfl e1,e2⟩
end
end Go.Proofs.YtefepnnfphdkpaaGreat.Am
