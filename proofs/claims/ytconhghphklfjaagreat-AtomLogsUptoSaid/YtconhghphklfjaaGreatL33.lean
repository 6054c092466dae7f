/- After a crash the log has the records of the groups that are there and no others, with their numbers and data; the conditions are those of the given statement, for arguments that a machine can hold. Part 33 of 54. -/
import Derived.Test.YtconhghphklfjaaGreatL32
namespace Go.Proofs.YtconhghphklfjaaGreat.Am
open Go
structure Pl.Ok (π:Pl): Prop where
 hand:π.hand<π.ag.length
 many:π.ag.length≤1024
 aZ:∀e∈π.aZ,0≤e.2∧e.2<π.ag.length
 len:∀f∈π.ag,f.b.length≤512
 pins:∀f∈π.ag,0≤f.pins∧f.pins≤4294967296
theorem Pl.Ok.at {π:Pl}(h:π.Ok){n i:Int}(J:lookL n π.aZ=some i): ∃(k:Nat) (f:Fm),i=k∧π.ag[k]?=some f:=by
 have I:=h.aZ _ (fc J)
 exact ⟨i.toNat,π.ag[i.toNat]'(by have:=I.2; simp only at this; omega),by have:=I.1; simp only at this; omega,List.getElem?_eq_getElem _⟩
def heldI (π:Pl)(n:Int): Option Nat:=match lookL n π.aZ with
 | none=>none
 | some i=>match π.ag[i.toNat]? with
  | none=>none
  | some f=>if f.pins=0 then none else some i.toNat
def unpinF (π:Pl)(n:Int): Int×Pl:=match heldI π n with
 | none=>(18,π)
 | some i=>match π.ag[i]? with
  | none=>(18,π)
  | some f=>(0,{ π with ag:=π.ag.set i { f with pins:=f.pins-1 } })
def iZ (π:Pl)(n:Int)(aD:Nat): Nat:=match lookL n π.cC with
 | some x=>x.1
 | none=>aD
def ij (π:Pl)(n:Int)(b:List Nat)(aD:Nat): Int×Pl:=match heldI π n with
 | none=>(18,π)
 | some i=>match π.ag[i]? with
  | none=>(18,π)
  | some f=>if bu b=false then (4,π) else (0,{ π with ag:=π.ag.set i { f with b:=cj b aD,changed:=true },cC:=cA n (iZ π n aD,true) π.cC })
section
variable {told:Nat→Option (List V→H→Option (V×H))} {h:H} {S:List ah} {X:ah} {r k q p bw:Nat} {v x wh di:V} {l b:List Nat} {π:Pl} {m:List Fm} {μ:Lg} {δ:Dk}
theorem CW {n:Int}{j:Nat}(s:Sat h (Ay wh π.aZ::S)): (lookL n π.aZ=none∧cV Tryz.prog h 136 wh (.int .i64 n) true=some (.aW [.int .i64 0,.bool false])) ∨
  ∃i,lookL n π.aZ=some i∧cV Tryz.prog h 136 wh (.int .i64 n) true=some (.aW [.int .i64 i,.bool true]):=by
 rcases iL (f:=fun v (x:Int)=>.pu (v=.int .i64 x)) (n:=n) (fun _ _=>aq.pu _) s Tryz.underlying136 Tryz.underlying3 FT with ⟨I,J,_⟩ | ⟨u,i,I,J,_,s'⟩
 ·exact .inl ⟨I,J⟩
 ·obtain ⟨rfl,_⟩:=cL.1 s'
  exact .inr ⟨i,I,J⟩
theorem CX {n:Int}(s:Sat h (CV di π.cC::S)): (lookL n π.cC=none∧cV Tryz.prog h 138 di (.int .i64 n) true=some (.aW [.agg [.int .u64 0,.bool false],.bool false])∧cV Tryz.prog h 138 di (.int .i64 n) false=some (.agg [.int .u64 0,.bool false])) ∨
  ∃x,lookL n π.cC=some x∧cV Tryz.prog h 138 di (.int .i64 n) true=some (.aW [.agg [.int .u64 (x.1:Int),.bool x.2],.bool true])∧cV Tryz.prog h 138 di (.int .i64 n) false=some (.agg [.int .u64 (x.1:Int),.bool x.2]):=by
 rcases iL (f:=fun v (x:Nat×Bool)=>.pu (v=.agg [.int .u64 (x.1:Int),.bool x.2])) (n:=n) (fun _ _=>aq.pu _) s Tryz.underlying138 Tryz.underlying3 sP with ⟨I,J,U⟩ | ⟨u,x,I,J,U,s'⟩
 ·exact .inl ⟨I,J,U⟩
 ·obtain ⟨rfl,_⟩:=cL.1 s'
  exact .inr ⟨x,I,J,U⟩
theorem CY (hT:W told){n:Int}(s:Sat h (pt r (.cells 6 (lC p q bw π.ag.length wh di π.hand) false)::cQ bw π.ag::Ay wh π.aZ::S))(Ea:π.Ok):
  Call ⟨Tryz.prog,told⟩ 97 [.ptr r 0,.int .i64 n] h fun v h'=>h'=h∧((heldI π n=none∧v=.aW [.bI,.int .i64 18])∨∃(i:Nat) (f:Fm),heldI π n=some i∧π.ag[i]?=some f∧v=.aW [.ptr bw (i*5),.int .i64 0]):=by
 refine Call.of_wp (hT.free _ rfl) Tryz.func97 rfl rfl (zg rfl (za rfl (za rfl (zv (zg rfl (zm rfl (zn rfl (zf rfl (o9 _ _) (zl rfl (by exact s.ld (k:=0) rfl vw rfl) ?_)))))))))
 refine zm rfl ?_
 rcases CW (n:=n) (j:=0) (s.aa [2]) with ⟨U,g2⟩ | ⟨i,U,g2⟩
 ·refine ae.op rfl rfl rfl (fo rfl rfl g2) ?_
  refine zm rfl (ze rfl (ze rfl (za rfl (za rfl (zv (zw (zg rfl (zm rfl (ae.aR rfl rfl rfl (dA rfl rfl) (rfl) (zm rfl (zx rfl (zx rfl (zx rfl (zx rfl (zx rfl (zx rfl (zx rfl (zx rfl (zx rfl (zq rfl (zv (zi rfl (zw ?_)))))))))))))))))))))))
  refine zr rfl (za rfl (za rfl (zv ?_)))
  refine WP.ret ⟨trivial,_,rfl,?_⟩
  exact ⟨rfl,.inl ⟨by simp only [heldI,U],rfl⟩⟩
 ·obtain ⟨i,f,rfl,hf⟩:=Ea.at U
  have hl:=(List.getElem?_eq_some_iff.1 hf).1
  have hh:heldI π n=if f.pins=0 then none else some i:=by simp only [heldI,U,Int.toNat_natCast,hf]
  obtain ⟨pre,fv,post,J,hlen,s'⟩:=fT (s.aa [1]) hf
  refine zo rfl (fo rfl rfl g2) (zm rfl (ze rfl (ze rfl (za rfl (za rfl (zv (zw (zg rfl (zm rfl (ae.aE rfl rfl rfl (dA rfl rfl) (rfl) (zm rfl (zm rfl (zn rfl (zf rfl (iF _ _) (zl rfl (by exact s.ld (k:=0) rfl lp rfl) ?_)))))))))))))))
  refine zm rfl (zo rfl (cH rfl rfl (jt (i:=i) hl)) (zf rfl (lT _ _) (zl rfl (s'.ld (k:=0) rfl cq (fD J rfl)) ?_)))
  refine ae.dh rfl rfl rfl (af rfl rfl cS) ?_ ?_
  ·intro I
   have I:f.pins=0:=by simpa using I
   refine zp rfl (zv (zi rfl (zg rfl (za rfl (za rfl (zv ?_))))))
   refine WP.ret ⟨trivial,_,rfl,?_⟩
   exact ⟨rfl,.inl ⟨by rw [hh,if_pos I],rfl⟩⟩
  ·intro I
   have I:f.pins≠0:=by simpa using I
   refine zp rfl (zv (zj rfl (WP.skip (zg rfl (zm rfl (zn rfl (zf rfl (iF _ _) (zl rfl (by exact s.ld (k:=0) rfl lp rfl) ?_))))))))
   refine zm rfl (zo rfl (cH rfl rfl (jt (i:=i) hl)) (za rfl (za rfl (zv ?_))))
   refine WP.ret ⟨trivial,_,rfl,?_⟩
   exact ⟨rfl,.inr ⟨i,f,by rw [hh,if_neg I],hf,rfl⟩⟩
theorem Az (hT:W told){n:Int}(s:Sat h (cB r p q π::S))(J:π.Ok):
  Call ⟨Tryz.prog,told⟩ 54 [.ptr r 0,.int .i64 n] h fun v h'=>v=.int .i64 (unpinF π n).1∧Sat h' (cB r p q (unpinF π n).2::S):=by
 have s0:=s
 obtain ⟨bw,wh,di,s⟩:=dD.1 s
 refine Call.of_wp (hT.free _ rfl) Tryz.func54 rfl rfl (zg rfl (za rfl (zv (zg rfl (zm rfl (zm rfl (ae.call rfl rfl rfl rfl rfl rfl rfl (CY (n:=n) hT s J) ?_)))))))
 rintro v h' ⟨rfl,(⟨hh,rfl⟩ | ⟨i,f,hh,U,rfl⟩)⟩
 ·have he:unpinF π n=(18,π):=by simp only [unpinF,hh]
  rw [he]
  refine zm rfl (ze rfl (ze rfl (za rfl (za rfl (zv (zw (zg rfl (zm rfl (ae.aR rfl rfl rfl (af rfl rfl aN) (rfl) (zv (zi rfl (zg rfl (zm rfl (za rfl (zv ?_)))))))))))))))
  refine WP.ret ⟨trivial,_,rfl,?_⟩
  exact ⟨rfl,s0⟩
 ·have he:unpinF π n=(0,{ π with ag:=π.ag.set i { f with pins:=f.pins-1 } }):=by simp only [unpinF,hh,U]
  rw [he]
  obtain ⟨pre,fv,post,I,hlen,s⟩:=fT (s.aa [1]) U
  dsimp only [bringA,getA,ai] at s
  have IF:=J.pins f (List.mem_of_getElem? U)
  refine zm rfl (ze rfl (ze rfl (za rfl (za rfl (zv (zw (zg rfl (zm rfl (ae.aE rfl rfl rfl (af rfl rfl aN) (rfl) (zv (zj rfl (WP.skip (zg rfl (zm rfl (zn rfl (zf rfl (lT _ _) (zl rfl (s.ld (k:=0) rfl cq (fD I rfl)) (zb rfl (by exact lR (aF (by omega) (by omega))) ?_))))))))))))))))))
  refine zn rfl (zf rfl (lT _ _) (ae.bn rfl rfl rfl rfl rfl (s.stM (k:=0) (j:=2) rfl jh I hlen (by simp [dr]) rfl rfl) ?_))
  intro h s
  dsimp only [setA] at s
  have e5:(dr f fv).set 2 (.int .i64 (f.pins-1))=dr { f with pins:=f.pins-1 } fv:=rfl
  rw [e5] at s
  refine zv (zg rfl (za rfl (zv ?_)))
  refine WP.ret ⟨trivial,_,rfl,?_⟩
  refine ⟨rfl,dD.2 ⟨bw,wh,di,?_⟩⟩
  have s:=eo (i:=i) (f':={ f with pins:=f.pins-1 }) s rfl U I
  rw [List.length_set]
  exact s.aa [1,0]
theorem Lx (hT:W told){n:Int}{aD:Nat}{bv:V}(s:Sat h (cB r p q π::X::S))(hX:bU X (bZ bv b))(Ea:π.Ok)(hb:b.length<9223372036854775808):
  Call ⟨Tryz.prog,told⟩ 53 [.ptr r 0,.int .i64 n,bv,.int .u64 (aD:Int)] h fun v h'=>v=.int .i64 (ij π n b aD).1∧Sat h' (cB r p q (ij π n b aD).2::X::S):=by
 have s0:=s
 obtain ⟨bw,wh,di,s⟩:=dD.1 s
 refine Call.of_wp (hT.free _ rfl) Tryz.func53 rfl rfl (zg rfl (za rfl (zv (zg rfl (zm rfl (zm rfl (ae.call rfl rfl rfl rfl rfl rfl rfl (CY (n:=n) hT s Ea) ?_)))))))
 rintro v h' ⟨rfl,(⟨hh,rfl⟩ | ⟨i,f,hh,hf,rfl⟩)⟩
 ·have he:ij π n b aD=(18,π):=by simp only [ij,hh]
  rw [he]
  refine zm rfl (ze rfl (ze rfl (za rfl (za rfl (zv (zw (zg rfl (zm rfl (ae.aR rfl rfl rfl (af rfl rfl aN) (rfl) (zv (zi rfl (zg rfl (zm rfl (za rfl (zv ?_)))))))))))))))
  refine WP.ret ⟨trivial,_,rfl,?_⟩
  exact ⟨rfl,s0⟩
 ·have he:ij π n b aD=(if bu b=false then (4,π) else (0,{ π with ag:=π.ag.set i { f with b:=cj b aD,changed:=true },cC:=cA n (iZ π n aD,true) π.cC })):=by simp only [ij,hh,hf]
  rw [he]
  refine zm rfl (ze rfl (ze rfl (za rfl (za rfl (zv (zw (zg rfl (zm rfl (ae.aE rfl rfl rfl (af rfl rfl aN) (rfl) (zv (zj rfl (WP.skip (zg rfl (zm rfl (zm rfl (ae.call rfl rfl rfl rfl rfl rfl rfl (CR (n:=aD) hT (s.aa [4]) hX hb) ?_))))))))))))))))
  rintro v h (⟨U,u,rfl,s⟩ | ⟨U,rfl,s⟩)
  ·rw [if_neg (by rw [U]; decide)]
   dsimp only [bringA,getA,ai] at s
   have V9:(cj b aD).length=512:=by
    have h1:=qg (n:=aD) (fJ U)
    rw [cj,fO (by rw [cM]; omega),h1]
   obtain ⟨J,_,cap,_,rfl,_⟩:=s.gJ (by omega)
   have s:=s.eF
   obtain ⟨pre,fv,post,I,hlen,s⟩:=fT (s.aa [3]) hf
   dsimp only [bringA,getA,ai] at s
   refine zm rfl (ze rfl (ze rfl (za rfl (za rfl (zv (zw (zg rfl (zm rfl (ae.aE rfl rfl rfl (af rfl rfl aN) (rfl) (zv (zj rfl (WP.skip (zg rfl (zm rfl (zm rfl (zm rfl (zn rfl (zf rfl (sQ _ _) (ae.bn rfl rfl rfl rfl rfl (s.stM (k:=0) (j:=1) rfl ig I hlen (by simp [dr]) rfl rfl) ?_)))))))))))))))))))
   intro h s
   dsimp only [setA] at s
   refine zn rfl (zf rfl (wT _ _) (ae.bn rfl rfl rfl rfl rfl (s.stM (k:=0) (j:=4) rfl qK I (by simpa [dr] using hlen) (by simp [dr]) rfl rfl) ?_))
   intro h s
   dsimp only [setA] at s
   have e5:((dr f fv).set 1 (.sl J 0 (cj b aD).length cap)).set 4 (.bool true)=dr { f with b:=cj b aD,changed:=true } (.sl J 0 (cj b aD).length cap):=rfl
   rw [e5] at s
   have s:=eo (i:=i) (f':={ f with b:=cj b aD,changed:=true }) (s.aa [0,0,1]) rfl hf I
   dsimp only [bringA,getA,ai] at s
   have s:=s.aa [3,4,0]
   dsimp only [bringA,getA,ai] at s
   refine zv (zg rfl (zm rfl (zn rfl (zf rfl (nk _ _) (zl rfl (by exact s.ld (k:=0) rfl sM rfl) ?_)))))
   refine zm rfl ?_
   rcases CX (n:=n) (s.aa [1]) with ⟨g1,g2,_⟩ | ⟨x,g1,g2,_⟩
   ·refine ae.op rfl rfl rfl (fo rfl rfl g2) ?_
    refine zm rfl (ze rfl (ze rfl ?_))
    refine ae.bO s rfl rfl rfl (bK sP) (fun NC h s => ?_)
    dsimp only [V.cells,List.length_cons,List.length_nil,Nat.reduceAdd] at s
    refine ae.bn rfl rfl rfl rfl rfl (by exact s.eN (j:=0) rfl sO rfl rfl) (fun h s => ?_)
    dsimp only [setA] at s
    refine za rfl (zv (zw (zg rfl (zm rfl (zo rfl (dA rfl rfl) (zv (zi rfl (zr rfl (zm rfl (zf rfl (wR _ _) ?_))))))))))
    refine ae.bn rfl rfl rfl rfl rfl (by exact s.cZ (k:=0) rfl mG rfl (by decide) rfl rfl) (fun h s => ?_)
    dsimp only [Nat.reduceAdd,List.set,setA] at s
    refine zv (zg rfl (zf rfl (CJ _ _) ?_))
    refine ae.bn rfl rfl rfl rfl rfl (by exact s.cZ (k:=0) rfl qK rfl (by decide) rfl rfl) (fun h s => ?_)
    dsimp only [Nat.reduceAdd,List.set,setA] at s
    refine zv (zw (WP.drawn [none,none,none,none,none,none,none] rfl (by kernel_rfl) (by kernel_rfl) ?_))
    refine zM rfl (zN rfl (zF rfl (nk _ _) (zL rfl (by exact s.ld (k:=1) rfl sM rfl) ?_)))
    refine zM rfl (zL rfl (by exact s.dF (k:=0) rfl J3 sO) ?_)
    refine au.fI rfl rfl rfl (OpR.mapUpdate rfl rfl rfl rfl (kj (f:=fun v (x:Nat×Bool)=>.pu (v=.agg [.int .u64 (x.1:Int),.bool x.2])) (x:=(aD,true)) (fun _ _=>aq.pu _) ((s.aa [2]).eu rfl) Tryz.underlying138 Tryz.underlying3)) ?_
    intro w h s
    dsimp only [ai,bringA] at s
    refine au.nil ⟨⟨trivial,trivial,trivial,trivial,trivial,trivial,trivial,trivial⟩,?_⟩
    refine zg rfl (za rfl (zv ?_))
    refine WP.ret ⟨trivial,_,rfl,?_⟩
    have ed:iZ π n aD=aD:=by simp only [iZ,g1]
    rw [ed]
    refine ⟨rfl,dD.2 ⟨bw,wh,di,?_⟩⟩
    have e6:(π.ag.set i { f with b:=cj b aD,changed:=true }).length=π.ag.length:=List.length_set
    show Sat h (pt r (.cells 6 (lC p q bw (π.ag.set i { f with b:=cj b aD,changed:=true }).length wh di π.hand) false)::_)
    rw [e6]
    exact ((s.aa [2,2,4,0,2]).del 6).del 5
   ·skip
    refine zo rfl (fo rfl rfl g2) (zm rfl (ze rfl (ze rfl ?_)))
    refine ae.bO s rfl rfl rfl (bK sP) (fun NC h s => ?_)
    dsimp only [V.cells,List.length_cons,List.length_nil,Nat.reduceAdd] at s
    refine ae.bn rfl rfl rfl rfl rfl (by exact s.eN (j:=0) rfl sO rfl rfl) (fun h s => ?_)
    dsimp only [setA] at s
    refine za rfl (zv (zw (zg rfl (zm rfl (zo rfl (dA rfl rfl) (zv (zj rfl (WP.skip (zg rfl (zf rfl (CJ _ _) ?_))))))))))
    refine ae.bn rfl rfl rfl rfl rfl (by exact s.cZ (k:=0) rfl qK rfl (by decide) rfl rfl) (fun h s => ?_)
    dsimp only [Nat.reduceAdd,List.set,setA] at s
    refine zv (zw (WP.drawn [none,none,none,none,none,none,none] rfl (by kernel_rfl) (by kernel_rfl) ?_))
    refine zM rfl (zN rfl (zF rfl (nk _ _) (zL rfl (by exact s.ld (k:=1) rfl sM rfl) ?_)))
    refine zM rfl (zL rfl (by exact s.dF (k:=0) rfl J3 sO) ?_)
    refine au.fI rfl rfl rfl (OpR.mapUpdate rfl rfl rfl rfl (kj (f:=fun v (x:Nat×Bool)=>.pu (v=.agg [.int .u64 (x.1:Int),.bool x.2])) (x:=(x.1,true)) (fun _ _=>aq.pu _) ((s.aa [2]).eu rfl) Tryz.underlying138 Tryz.underlying3)) ?_
    intro w h s
    dsimp only [ai,bringA] at s
    refine au.nil ⟨⟨trivial,trivial,trivial,trivial,trivial,trivial,trivial,trivial⟩,?_⟩
    refine zg rfl (za rfl (zv ?_))
    refine WP.ret ⟨trivial,_,rfl,?_⟩
    have ed:iZ π n aD=x.1:=by simp only [iZ,g1]
    rw [ed]
    refine ⟨rfl,dD.2 ⟨bw,wh,di,?_⟩⟩
    have e6:(π.ag.set i { f with b:=cj b aD,changed:=true }).length=π.ag.length:=List.length_set
    show Sat h (pt r (.cells 6 (lC p q bw (π.ag.set i { f with b:=cj b aD,changed:=true }).length wh di π.hand) false)::_)
    rw [e6]
    exact ((s.aa [2,2,4,0,2]).del 6).del 5
  ·rw [if_pos U]
   refine zm rfl (ze rfl (ze rfl (za rfl (za rfl (zv (zw (zg rfl (zm rfl (ae.aR rfl rfl rfl (af rfl rfl aN) (rfl) (zv (zi rfl (zg rfl (zm rfl (za rfl (zv ?_)))))))))))))))
   refine WP.ret ⟨trivial,_,rfl,?_⟩
   exact ⟨rfl,dD.2 ⟨bw,wh,di,s.aa [1,1,1,1,0]⟩⟩
theorem ND (U:W told){n:Int}(s:Sat h (cB r p q π::S)): Call ⟨Tryz.prog,told⟩ 86 [.ptr r 0,.int .i64 n] h fun v h'=>v=.aW [.int .u64 (iZ π n 0:Nat),.bool (lookL n π.cC).isSome]∧Sat h' (cB r p q π::S):=by
 obtain ⟨bw,wh,di,s⟩:=dD.1 s
 refine Call.of_wp (U.free _ rfl) Tryz.func86 rfl rfl (zg rfl (za rfl (za rfl (zv (zg rfl (zm rfl (zn rfl (zf rfl (nk _ _) (zl rfl (by exact s.ld (k:=0) rfl sM rfl) ?_)))))))))
 refine zm rfl ?_
 rcases CX (n:=n) (s.aa [3]) with ⟨I,J,_⟩ | ⟨x,I,J,_⟩
 ·refine ae.op rfl rfl rfl (fo rfl rfl J) ?_
  refine zm rfl (ze rfl (ze rfl ?_))
  refine ae.bO s rfl rfl rfl (bK sP) (fun p6 h s => ?_)
  dsimp only [V.cells,List.length_cons,List.length_nil,Nat.reduceAdd] at s
  refine ae.bn rfl rfl rfl rfl rfl (by exact s.eN (j:=0) rfl sO rfl rfl) (fun h s => ?_)
  dsimp only [setA] at s
  refine za rfl (zv (zg rfl (zf rfl (wR _ _) (zl rfl (by exact s.ld (k:=0) rfl gP rfl) ?_))))
  refine zm rfl (za rfl (za rfl (zv ?_)))
  refine WP.ret ⟨trivial,_,rfl,?_⟩
  exact ⟨by simp only [iZ,I]; rfl,dD.2 ⟨bw,wh,di,s.drop⟩⟩
 ·skip
  refine zo rfl (fo rfl rfl J) (zm rfl (ze rfl (ze rfl ?_)))
  refine ae.bO s rfl rfl rfl (bK sP) (fun p6 h s => ?_)
  dsimp only [V.cells,List.length_cons,List.length_nil,Nat.reduceAdd] at s
  refine ae.bn rfl rfl rfl rfl rfl (by exact s.eN (j:=0) rfl sO rfl rfl) (fun h s => ?_)
  dsimp only [setA] at s
  refine za rfl (zv (zg rfl (zf rfl (wR _ _) (zl rfl (by exact s.ld (k:=0) rfl gP rfl) ?_))))
  refine zm rfl (za rfl (za rfl (zv ?_)))
  refine WP.ret ⟨trivial,_,rfl,?_⟩
  exact ⟨by simp only [iZ,I]; rfl,dD.2 ⟨bw,wh,di,s.drop⟩⟩
def c7 : Fm:=⟨-1,[],0,false,false⟩
def cD (π:Pl)(i:Nat)(f:Fm): Pl:={ π with ag:=π.ag.set i c7,aZ:=if f.aO<0 then π.aZ else jb f.aO π.aZ }
def gR (π:Pl)(i:Nat)(n:Int)(b:List Nat): Pl:={ π with ag:=π.ag.set i ⟨n,b,1,true,false⟩,aZ:=cA n (i:Int) π.aZ }
inductive dV (ε:aM)(n:Int): Int→List Nat→aM→Prop where
 | arg (h:¬(0≤n∧n<ε.2.2.aj.length)):dV ε n 1 [] ε
 | xV (i:Nat) (f:Fm) (h1:0≤n) (h2:n<ε.2.2.aj.length) (hl:lookL n ε.1.aZ=some (i:Int)) (hf:ε.1.ag[i]?=some f):dV ε n 0 f.b ({ ε.1 with ag:=ε.1.ag.set i { f with dn:=true,pins:=f.pins+1 } },ε.2)
 | out (eG:Pl) (i:Nat) (f:Fm) (h1:0≤n) (h2:n<ε.2.2.aj.length) (hl:lookL n ε.1.aZ=none) (hn:dU ε.1 eG) (hf:eG.ag[i]?=some f) (hh:eG.hand<eG.ag.length) (he:(outF (eG,ε.2) i).1≠0):dV ε n (outF (eG,ε.2) i).1 [] (outF (eG,ε.2) i).2
 | read (eG:Pl) (i:Nat) (f:Fm) (h1:0≤n) (h2:n<ε.2.2.aj.length) (hl:lookL n ε.1.aZ=none) (hn:dU ε.1 eG) (hf:eG.ag[i]?=some f) (hh:eG.hand<eG.ag.length) (he:(outF (eG,ε.2) i).1=0)
   (hr:(outF (eG,ε.2) i).2.2.2.m4 n≠0):dV ε n ((outF (eG,ε.2) i).2.2.2.m4 n) [] (cD (outF (eG,ε.2) i).2.1 i f,(outF (eG,ε.2) i).2.2)
 | bad (eG:Pl) (i:Nat) (f:Fm) (h1:0≤n) (h2:n<ε.2.2.aj.length) (hl:lookL n ε.1.aZ=none) (hn:dU ε.1 eG) (hf:eG.ag[i]?=some f) (hh:eG.hand<eG.ag.length) (he:(outF (eG,ε.2) i).1=0)
   (hr:(outF (eG,ε.2) i).2.2.2.m4 n=0) (hc:dQ ((outF (eG,ε.2) i).2.2.2.at n)≠0):dV ε n (dQ ((outF (eG,ε.2) i).2.2.2.at n)) [] (cD (outF (eG,ε.2) i).2.1 i f,(outF (eG,ε.2) i).2.2)
 | load (eG:Pl) (i:Nat) (f:Fm) (h1:0≤n) (h2:n<ε.2.2.aj.length) (hl:lookL n ε.1.aZ=none) (hn:dU ε.1 eG) (hf:eG.ag[i]?=some f) (hh:eG.hand<eG.ag.length) (he:(outF (eG,ε.2) i).1=0)
   (hr:(outF (eG,ε.2) i).2.2.2.m4 n=0) (hc:dQ ((outF (eG,ε.2) i).2.2.2.at n)=0):dV ε n 0 ((outF (eG,ε.2) i).2.2.2.at n) (gR (cD (outF (eG,ε.2) i).2.1 i f) i n ((outF (eG,ε.2) i).2.2.2.at n),(outF (eG,ε.2) i).2.2)
theorem ux {ε:aM}{i:Nat}(h:ε.2.2.Ok): (outF ε i).2.2.2.Ok:=by
 unfold outF
 split
 ·exact h
 ·split
  ·exact h
  ·split
   ·exact h
   ·split
    ·exact m5 h
    ·split
     ·exact (m5 h).bF
     ·exact (m5 h).bF
theorem IG {ε:aM}{i:Nat}(h:ε.2.1.Ok): (outF ε i).2.2.1.Ok:=by
 unfold outF
 split
 ·exact h
 ·split
  ·exact h
  ·split
   ·exact h
   ·split
    ·exact tS h
    ·split <;> exact tS h
theorem jJ {ε:aM}{i:Nat}{f:Fm}(I:ε.1.ag[i]?=some f): ∃c,(outF ε i).2.1.ag[i]?=some { f with changed:=c }:=by
 have J:=(List.getElem?_eq_some_iff.1 I).1
 unfold outF
 rw [I]
 dsimp only
 split
 ·exact ⟨f.changed,I⟩
 ·split
  ·exact ⟨f.changed,I⟩
  ·split
   ·exact ⟨f.changed,I⟩
   ·split
    ·exact ⟨f.changed,I⟩
    ·exact ⟨false,by simp [List.getElem?_set,J]⟩
theorem Gs (hT:W told){n:Int}(s:Sat h (cB r p q π::bj q p μ::az p δ::S))(Ea:π.Ok)(IF:∀f∈π.ag,f.pins=0)(tq:μ.Ok)(qO:δ.Ok)(hw:δ.waiting.length≤268435456):
  Call ⟨Tryz.prog,told⟩ 52 [.ptr r 0,.int .i64 n] h fun v h'=>∃(e:Int) (b:List Nat) (ε:aM),dV (π,μ,δ) n e b ε ∧
   ((e≠0∧v=.aW [.aH,.int .i64 e]∧Sat h' (cB r p q ε.1::bj q p ε.2.1::az p ε.2.2::S))∨(e=0∧∃u,v=.aW [u,.int .i64 0]∧Sat h' (a_ u b::cB r p q ε.1::bj q p ε.2.1::az p ε.2.2::S))):=by
 have s0:=s
 obtain ⟨bw,wh,di,s⟩:=dD.1 s
 refine Call.of_wp (hT.free _ rfl) Tryz.func52 rfl rfl (zg rfl (za rfl (za rfl (zv (zw (zg rfl (zm rfl ?_)))))))
 refine ae.dh rfl rfl rfl (af rfl rfl aX) ?_ ?_
 ·intro hq
  have hq:n<0:=by simpa using hq
  refine zm rfl (zx rfl (zx rfl (zx rfl (zx rfl (zx rfl (zx rfl (zx rfl (zq rfl (zv (zi rfl (zg rfl (za rfl (za rfl (zv ?_))))))))))))))
  refine WP.ret ⟨trivial,_,rfl,?_⟩
  exact ⟨1,[],(π,μ,δ),.arg (fun q=>by omega),.inl ⟨by decide,rfl,s0⟩⟩
 ·intro hq
  have hq:0≤n:=by simp at hq; omega
  refine zm rfl (zm rfl (zm rfl (zn rfl (zf rfl (sN _ _) (zl rfl (by exact s.ld (k:=0) rfl mF rfl) ?_)))))
  refine ae.call rfl rfl rfl rfl rfl rfl rfl (uv hT (s.aa [5])) ?_
  rintro v h' ⟨rfl,rfl⟩
  refine ae.dh rfl rfl rfl (af rfl rfl kZ) ?_ ?_
  ·intro gB
   have gB:¬ n<δ.aj.length:=by simp at gB; omega
   refine zp rfl (zv (zi rfl (zg rfl (za rfl (za rfl (zv ?_))))))
   refine WP.ret ⟨trivial,_,rfl,?_⟩
   exact ⟨1,[],(π,μ,δ),.arg (fun q=>gB q.2),.inl ⟨by decide,rfl,s0⟩⟩
  ·intro gB
   have gB:n<δ.aj.length:=by simp at gB; omega
   refine zp rfl (zv (zj rfl (WP.skip (zw (zg rfl (zm rfl (zn rfl (zf rfl (o9 _ _) (zl rfl (by exact s.ld (k:=0) rfl vw rfl) ?_)))))))))
   refine zm rfl ?_
   rcases CW (n:=n) (j:=0) (s.aa [2]) with ⟨g1,g2⟩ | ⟨i,g1,g2⟩
   ·refine ae.op rfl rfl rfl (fo rfl rfl g2) ?_
    refine zm rfl (ze rfl (ze rfl (za rfl (za rfl (zv (zg rfl (zm rfl (zv (zj rfl (WP.skip (zg rfl (zm rfl (ae.call rfl rfl rfl rfl rfl rfl rfl (IE hT s Ea.hand (by have:=Ea.many; omega) IF) ?_)))))))))))))
    rintro v h ⟨i,eG,f,rfl,U,hf,hh,s⟩
    have hl:=(List.getElem?_eq_some_iff.1 hf).1
    rw [←U.aZ,←U.cC] at s
    have PS:f.b.length≤512:=by
     have h1:π.ag[i]?=some (π.ag[i]'(by have:=U.len; omega)):=List.getElem?_eq_getElem _
     generalize (π.ag[i]'(by have:=U.len; omega))=f0 at h1
     obtain ⟨t,ht⟩:=U.get i f0 h1
     rw [hf] at ht
     have:=Option.some.inj ht
     rw [this]
     exact Ea.len f0 (List.mem_of_getElem? h1)
    refine za rfl (zv (zw (zg rfl (zm rfl (ae.aE rfl rfl rfl (af rfl rfl aX) (by simp <;> omega) ?_)))))
    refine zv (zj rfl (WP.skip (zg rfl (zm rfl (zn rfl (zf rfl (iF _ _) (zl rfl (by exact s.ld (k:=0) rfl lp rfl) ?_)))))))
    refine zm rfl (zo rfl (cH rfl rfl (jt (i:=i) hl)) (za rfl (zv (zw (zg rfl (zm rfl (zm rfl (ae.call rfl rfl rfl rfl rfl rfl rfl (Nz (π:=eG) hT s hf tq qO (by omega) hw) ?_))))))))
    rintro v h ⟨rfl,s⟩
    obtain ⟨c,tU⟩:=jJ (ε:=(eG,μ,δ)) hf
    have wZ:=ux (ε:=(eG,μ,δ)) (i:=i) qO
    refine za rfl (zv (zg rfl (zm rfl ?_)))
    by_cases he:(outF (eG,μ,δ) i).1=0
    ·generalize ho:outF (eG,μ,δ) i=o at he s tU wZ ⊢
     obtain ⟨oe,I,Vr,rX⟩:=o
     dsimp only at he s tU wZ ⊢
     subst he
     have CZ:(outF (eG,μ,δ) i).1=0:=by rw [ho]
     have mN:(outF (eG,μ,δ) i).2=(I,Vr,rX):=by rw [ho]
     refine ae.aE rfl rfl rfl (af rfl rfl aN) (by decide) ?_
     obtain ⟨pre,fv,post,J,hlen,s⟩:=fT (s.aa [1]) tU
     dsimp only [bringA,getA,ai] at s
     refine zv (zj rfl (WP.skip (zw (zg rfl (zm rfl (zn rfl (zf rfl (kD _ _) (zl rfl (s.ld (k:=0) rfl cq (fD J rfl)) ?_))))))))
     refine ae.dh rfl rfl rfl (af rfl rfl kZ) ?_ ?_
     ·intro n4
      have n4:¬ f.aO<0:=by simp at n4; omega
      refine zv (zi rfl (WP.drawn [none,none,none,none,none,none,none,none,none] rfl (by kernel_rfl) (by kernel_rfl) ?_))
      refine zM rfl (zN rfl (zF rfl (o9 _ _) (zL rfl (s.ld (k:=3) rfl vw rfl) (zM rfl (zN rfl (zF rfl (kD _ _) (zL rfl (s.ld (k:=0) rfl cq (fD J rfl)) (au.fI rfl rfl rfl (OpR.delete rfl rfl rfl rfl (Ip (s.aa [4]) Tryz.underlying136 Tryz.underlying3)) ?_))))))))
      intro v h s
      have s:=s.aa [1,1,1,1,0]
      dsimp only [bringA,getA,ai] at s
      refine au.nil ⟨⟨trivial,trivial,trivial,trivial,trivial,trivial,trivial,trivial,trivial,trivial⟩,?_⟩
      refine zg rfl (zm rfl (zo rfl (bW rfl (by rw [yP]; rfl)) ?_))
      refine zn rfl (ae.bn rfl rfl rfl rfl rfl (s.Kj (k:=0) (row':=dr c7 .aH) rfl vy J hlen (by simp [dr]) rfl) ?_)
      intro h s
      dsimp only [setA] at s
      have Eb:(pre++(dr c7 .aH++post)).length=I.ag.length*5:=by simpa [dr] using hlen
      have lH:(cD I i f).aZ=jb f.aO I.aZ:=by simp only [cD]; rw [if_neg n4]
      refine zv (zg rfl (zm rfl (zn rfl (zf rfl (sN _ _) (zl rfl (by exact s.ld (k:=3) rfl mF rfl) ?_)))))
      refine zm rfl (ae.call rfl rfl rfl rfl rfl rfl rfl (Gr (n:=n) hT (s.aa [7]) wZ) ?_)
      rintro v h (⟨hr,rfl,s⟩ | ⟨hr,u,rfl,s⟩)
      ·dsimp only [bringA,getA,ai] at s
       refine zm rfl (ze rfl (ze rfl (za rfl (za rfl (zv (zw (zg rfl (zm rfl (ae.aR rfl rfl rfl (af rfl rfl aN) (by simp; exact hr) ?_)))))))))
       refine zv (zi rfl (zg rfl (zm rfl (za rfl (za rfl (zv ?_))))))
       refine WP.ret ⟨trivial,_,rfl,?_⟩
       have s:=eo (i:=i) (f':=c7) (v':=.aH) (s.mh.aa [2,2,0]) rfl tU J
       dsimp only [bringA,getA,ai] at s
       have e6:(I.ag.set i c7).length=I.ag.length:=List.length_set
       rw [←e6,←lH] at s
       have s:=(dD (π:=cD I i f)).2 ⟨bw,wh,di,s.aa [3,0,2,2]⟩
       dsimp only [bringA,getA,ai] at s
       have hR:=dV.read (ε:=(π,μ,δ)) eG i f hq gB g1 U hf hh CZ (by rw [mN]; exact hr)
       rw [mN] at hR
       exact ⟨_,[],_,hR,.inl ⟨hr,rfl,(s.del 2).aa [0,1,0]⟩⟩
      ·have Ph:=wZ.at n
       obtain ⟨qM,_,cap,_,rfl,_⟩:=s.gJ (by omega)
       dsimp only [bringA,getA,ai] at s
       refine zm rfl (ze rfl (ze rfl (za rfl (za rfl (zv (zw (zg rfl (zm rfl (ae.aE rfl rfl rfl (af rfl rfl aN) (rfl) (zv (zj rfl (WP.skip (zw (zg rfl (zm rfl (ae.call rfl rfl rfl rfl rfl rfl rfl (uw hT s (bk _ _) (by omega)) ?_))))))))))))))))
       rintro v h ⟨rfl,s⟩
       refine za rfl (zv (zg rfl (zm rfl ?_)))
       by_cases hc:dQ (rX.at n)=0
       ·skip
        refine ae.aE rfl rfl rfl (af rfl rfl aN) (by simp; exact hc) ?_
        have s:=s.eF.aa [2,2,0,2,2,2,2,0,0]
        dsimp only [bringA,getA,ai] at s
        refine zv (zj rfl (WP.skip (zg rfl (zm rfl (zm rfl (zm rfl (zo rfl (bW rfl (by rw [yP]; rfl)) ?_)))))))
        refine zn rfl (ae.bn rfl rfl rfl rfl rfl (s.Kj (k:=0) (row':=dr ⟨n,rX.at n,1,true,false⟩ (.sl qM 0 (rX.at n).length cap)) rfl vy J Eb (by simp [dr]) rfl) ?_)
        intro h s
        dsimp only [setA] at s
        refine zv (zg rfl (zm rfl (zn rfl (zf rfl (o9 _ _) (zl rfl (by exact s.ld (k:=3) rfl vw rfl) ?_)))))
        refine zm rfl (zm rfl (ae.fI rfl rfl (OpR.mapUpdate rfl rfl rfl rfl (kj (f:=fun v (x:Int)=>.pu (v=.int .i64 x)) (x:=(i:Int)) (fun _ _=>aq.pu _) ((s.aa [4]).eu rfl) Tryz.underlying136 Tryz.underlying3)) ?_))
        intro w h s
        dsimp only [bringA,getA,ai] at s
        refine zv (zg rfl (zm rfl (ae.call rfl rfl rfl rfl rfl rfl rfl (qd hT (s.aa [3]) (bN _ _) (by omega)) ?_)))
        intro u h s
        dsimp only [bringA,getA,ai] at s
        refine za rfl (za rfl (zv ?_))
        refine WP.ret ⟨trivial,_,rfl,?_⟩
        have s:=eo (i:=i) (f':=⟨n,rX.at n,1,true,false⟩) (s.aa [3,3,1]) rfl tU J
        dsimp only [bringA,getA,ai] at s
        have e6:(I.ag.set i ⟨n,rX.at n,1,true,false⟩).length=I.ag.length:=List.length_set
        have e7:(gR (cD I i f) i n (rX.at n)).ag=I.ag.set i ⟨n,rX.at n,1,true,false⟩:=by simp only [gR,cD,List.set_set]
        rw [←e6,←e7,←lH] at s
        have s:=(dD (π:=gR (cD I i f) i n (rX.at n))).2 ⟨bw,wh,di,s.aa [3,0,1,1]⟩
        dsimp only [bringA,getA,ai] at s
        have hR:=dV.load (ε:=(π,μ,δ)) eG i f hq gB g1 U hf hh CZ (by rw [mN]; exact hr) (by rw [mN]; exact hc)
        rw [mN] at hR
        exact ⟨_,_,_,hR,.inr ⟨rfl,u,rfl,(s.del 4).aa [1,0]⟩⟩
       ·skip
        refine ae.aR rfl rfl rfl (af rfl rfl aN) (by simp; exact hc) ?_
        refine zv (zi rfl (zg rfl (zm rfl (za rfl (za rfl (zv ?_))))))
        refine WP.ret ⟨trivial,_,rfl,?_⟩
        have s:=s.drop
        have s:=eo (i:=i) (f':=c7) (v':=.aH) (s.mh.aa [2,2,0]) rfl tU J
        dsimp only [bringA,getA,ai] at s
        have e6:(I.ag.set i c7).length=I.ag.length:=List.length_set
        rw [←e6,←lH] at s
        have s:=(dD (π:=cD I i f)).2 ⟨bw,wh,di,s.aa [3,0,2,2]⟩
        dsimp only [bringA,getA,ai] at s
        have hR:=dV.bad (ε:=(π,μ,δ)) eG i f hq gB g1 U hf hh CZ (by rw [mN]; exact hr) (by rw [mN]; exact hc)
        rw [mN] at hR
        exact ⟨_,[],_,hR,.inl ⟨hc,rfl,(s.del 2).aa [0,1,0]⟩⟩
     ·intro n4
      have n4:f.aO<0:=by simp at n4; omega
      refine zv (zj rfl (WP.skip (zg rfl (zm rfl (zo rfl (bW rfl (by rw [yP]; rfl)) ?_)))))
      refine zn rfl (ae.bn rfl rfl rfl rfl rfl (s.Kj (k:=0) (row':=dr c7 .aH) rfl vy J hlen (by simp [dr]) rfl) ?_)
      intro h s
      dsimp only [setA] at s
      have Eb:(pre++(dr c7 .aH++post)).length=I.ag.length*5:=by simpa [dr] using hlen
      have lH:(cD I i f).aZ=I.aZ:=by simp only [cD]; rw [if_pos n4]
      refine zv (zg rfl (zm rfl (zn rfl (zf rfl (sN _ _) (zl rfl (by exact s.ld (k:=3) rfl mF rfl) ?_)))))
      refine zm rfl (ae.call rfl rfl rfl rfl rfl rfl rfl (Gr (n:=n) hT (s.aa [7]) wZ) ?_)
      rintro v h (⟨hr,rfl,s⟩ | ⟨hr,u,rfl,s⟩)
      ·dsimp only [bringA,getA,ai] at s
       refine zm rfl (ze rfl (ze rfl (za rfl (za rfl (zv (zw (zg rfl (zm rfl (ae.aR rfl rfl rfl (af rfl rfl aN) (by simp; exact hr) ?_)))))))))
       refine zv (zi rfl (zg rfl (zm rfl (za rfl (za rfl (zv ?_))))))
       refine WP.ret ⟨trivial,_,rfl,?_⟩
       have s:=eo (i:=i) (f':=c7) (v':=.aH) (s.mh.aa [2,2,0]) rfl tU J
       dsimp only [bringA,getA,ai] at s
       have e6:(I.ag.set i c7).length=I.ag.length:=List.length_set
       rw [←e6,←lH] at s
       have s:=(dD (π:=cD I i f)).2 ⟨bw,wh,di,s.aa [3,0,2,2]⟩
       dsimp only [bringA,getA,ai] at s
       have hR:=dV.read (ε:=(π,μ,δ)) eG i f hq gB g1 U hf hh CZ (by rw [mN]; exact hr)
       rw [mN] at hR
       exact ⟨_,[],_,hR,.inl ⟨hr,rfl,(s.del 2).aa [0,1,0]⟩⟩
      ·have Ph:=wZ.at n
       obtain ⟨qM,_,cap,_,rfl,_⟩:=s.gJ (by omega)
       dsimp only [bringA,getA,ai] at s
       refine zm rfl (ze rfl (ze rfl (za rfl (za rfl (zv (zw (zg rfl (zm rfl (ae.aE rfl rfl rfl (af rfl rfl aN) (rfl) (zv (zj rfl (WP.skip (zw (zg rfl (zm rfl (ae.call rfl rfl rfl rfl rfl rfl rfl (uw hT s (bk _ _) (by omega)) ?_))))))))))))))))
       rintro v h ⟨rfl,s⟩
       refine za rfl (zv (zg rfl (zm rfl ?_)))
       by_cases hc:dQ (rX.at n)=0
       ·skip
        refine ae.aE rfl rfl rfl (af rfl rfl aN) (by simp; exact hc) ?_
        have s:=s.eF.aa [2,2,0,2,2,2,2,0,0]
        dsimp only [bringA,getA,ai] at s
        refine zv (zj rfl (WP.skip (zg rfl (zm rfl (zm rfl (zm rfl (zo rfl (bW rfl (by rw [yP]; rfl)) ?_)))))))
        refine zn rfl (ae.bn rfl rfl rfl rfl rfl (s.Kj (k:=0) (row':=dr ⟨n,rX.at n,1,true,false⟩ (.sl qM 0 (rX.at n).length cap)) rfl vy J Eb (by simp [dr]) rfl) ?_)
        intro h s
        dsimp only [setA] at s
        refine zv (zg rfl (zm rfl (zn rfl (zf rfl (o9 _ _) (zl rfl (by exact s.ld (k:=3) rfl vw rfl) ?_)))))
        refine zm rfl (zm rfl (ae.fI rfl rfl (OpR.mapUpdate rfl rfl rfl rfl (kj (f:=fun v (x:Int)=>.pu (v=.int .i64 x)) (x:=(i:Int)) (fun _ _=>aq.pu _) ((s.aa [4]).eu rfl) Tryz.underlying136 Tryz.underlying3)) ?_))
        intro w h s
        dsimp only [bringA,getA,ai] at s
        refine zv (zg rfl (zm rfl (ae.call rfl rfl rfl rfl rfl rfl rfl (qd hT (s.aa [3]) (bN _ _) (by omega)) ?_)))
        intro u h s
        dsimp only [bringA,getA,ai] at s
        refine za rfl (za rfl (zv ?_))
        refine WP.ret ⟨trivial,_,rfl,?_⟩
        have s:=eo (i:=i) (f':=⟨n,rX.at n,1,true,false⟩) (s.aa [3,3,1]) rfl tU J
        dsimp only [bringA,getA,ai] at s
        have e6:(I.ag.set i ⟨n,rX.at n,1,true,false⟩).length=I.ag.length:=List.length_set
        have e7:(gR (cD I i f) i n (rX.at n)).ag=I.ag.set i ⟨n,rX.at n,1,true,false⟩:=by simp only [gR,cD,List.set_set]
        rw [←e6,←e7,←lH] at s
        have s:=(dD (π:=gR (cD I i f) i n (rX.at n))).2 ⟨bw,wh,di,s.aa [3,0,1,1]⟩
        dsimp only [bringA,getA,ai] at s
        have hR:=dV.load (ε:=(π,μ,δ)) eG i f hq gB g1 U hf hh CZ (by rw [mN]; exact hr) (by rw [mN]; exact hc)
        rw [mN] at hR
        exact ⟨_,_,_,hR,.inr ⟨rfl,u,rfl,(s.del 4).aa [1,0]⟩⟩
       ·skip
        refine ae.aR rfl rfl rfl (af rfl rfl aN) (by simp; exact hc) ?_
        refine zv (zi rfl (zg rfl (zm rfl (za rfl (za rfl (zv ?_))))))
        refine WP.ret ⟨trivial,_,rfl,?_⟩
        have s:=s.drop
        have s:=eo (i:=i) (f':=c7) (v':=.aH) (s.mh.aa [2,2,0]) rfl tU J
        dsimp only [bringA,getA,ai] at s
        have e6:(I.ag.set i c7).length=I.ag.length:=List.length_set
        rw [←e6,←lH] at s
        have s:=(dD (π:=cD I i f)).2 ⟨bw,wh,di,s.aa [3,0,2,2]⟩
        dsimp only [bringA,getA,ai] at s
        have hR:=dV.bad (ε:=(π,μ,δ)) eG i f hq gB g1 U hf hh CZ (by rw [mN]; exact hr) (by rw [mN]; exact hc)
        rw [mN] at hR
        exact ⟨_,[],_,hR,.inl ⟨hc,rfl,(s.del 2).aa [0,1,0]⟩⟩
    ·skip
     refine ae.aR rfl rfl rfl (af rfl rfl aN) (by simp; exact he) ?_
     refine zv (zi rfl (zg rfl (zm rfl (za rfl (za rfl (zv ?_))))))
     refine WP.ret ⟨trivial,_,rfl,?_⟩
     exact ⟨_,[],_,.out eG i f hq gB g1 U hf hh he,.inl ⟨he,rfl,dD.2 ⟨bw,wh,di,s⟩⟩⟩
   ·obtain ⟨i,f,rfl,hf⟩:=Ea.at g1
    have hl:=(List.getElem?_eq_some_iff.1 hf).1
    obtain ⟨pre,fv,post,J,hlen,s⟩:=fT (s.aa [1]) hf
    dsimp only [bringA,getA,ai] at s
    have JL:=IF f (List.mem_of_getElem? hf)
    have Qv:=Ea.len f (List.mem_of_getElem? hf)
    refine zo rfl (fo rfl rfl g2) (zm rfl (ze rfl (ze rfl (za rfl (za rfl (zv (zg rfl (zm rfl (zv (zi rfl (zg rfl (zm rfl (zn rfl (zf rfl (iF _ _) (zl rfl (by exact s.ld (k:=3) rfl lp rfl) ?_)))))))))))))))
    refine zm rfl (zo rfl (cH rfl rfl (jt (i:=i) hl)) (za rfl (zv (zg rfl (zm rfl (zn rfl (zf rfl (wS _ _) (ae.bn rfl rfl rfl rfl rfl (s.stM (k:=0) (j:=3) rfl qK J hlen (by simp [dr]) rfl rfl) ?_))))))))
    intro h s
    dsimp only [setA] at s
    refine zv (zg rfl (zm rfl (zn rfl (zf rfl (lT _ _) (zl rfl (s.ld (k:=0) rfl cq (fD J rfl)) (zb rfl (by exact bl (aF (by omega) (by omega))) ?_))))))
    refine zn rfl (zf rfl (lT _ _) (ae.bn rfl rfl rfl rfl rfl (s.stM (k:=0) (j:=2) rfl jh J (by simpa [dr] using hlen) (by simp [dr]) rfl rfl) ?_))
    intro h s
    dsimp only [setA] at s
    have e5:((dr f fv).set 3 (.bool true)).set 2 (.int .i64 (f.pins+1))=dr { f with dn:=true,pins:=f.pins+1 } fv:=rfl
    rw [e5] at s
    refine zv (zg rfl (zm rfl (zn rfl (zf rfl (sQ _ _) (zl rfl (s.ld (k:=0) rfl bg (fD J rfl)) (ae.call rfl rfl rfl rfl rfl rfl rfl (qd hT (s.aa [2]) (bN _ _) (by omega)) ?_))))))
    intro u h s
    dsimp only [bringA,getA,ai] at s
    refine za rfl (za rfl (zv ?_))
    refine WP.ret ⟨trivial,_,rfl,?_⟩
    have s:=eo (i:=i) (f':={ f with dn:=true,pins:=f.pins+1 }) (s.aa [2,2,1]) rfl hf J
    dsimp only [bringA,getA,ai] at s
    refine ⟨0,f.b,_,.xV i f hq gB g1 hf,.inr ⟨rfl,u,rfl,?_⟩⟩
    have e6:(π.ag.set i { f with dn:=true,pins:=f.pins+1 }).length=π.ag.length:=List.length_set
    rw [←e6] at s
    exact ((dD (π:={ π with ag:=π.ag.set i { f with dn:=true,pins:=f.pins+1 } })).2 ⟨bw,wh,di,s.aa [2,0,1,1]⟩).aa [1,0]
end
end Go.Proofs.YtconhghphklfjaaGreat.Am
