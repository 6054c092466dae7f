/- AtomTorn: a part of its proof; conditions: its statement's. -/
import Derived.Test.YtconhghphklfjaaGreatT22
namespace Go.Proofs.YtconhghphklfjaaGreat.Am
open Go
structure Pl.Ok (π:Pl): Prop where
 hand:π.hand<π.ak.length
 many:π.ak.length≤1024
 aE:∀e∈π.aE,0≤e.2∧e.2<π.ak.length
 len:∀f∈π.ak,f.b.length≤512
 pins:∀f∈π.ak,0≤f.pins∧f.pins≤4294967296
theorem Pl.Ok.at {π:Pl}(h:π.Ok){n i:Int}(J:lookL n π.aE=some i): ∃(k:Nat) (f:Fm),i=k∧π.ak[k]?=some f:=by
 have I:=h.aE _ (fC J)
 exact ⟨i.toNat,π.ak[i.toNat]'(by have:=I.2; simp only at this; omega),by have:=I.1; simp only at this; omega,bg _⟩
def heldI (π:Pl)(n:Int): Option Nat:=match lookL n π.aE with
 | none=>none
 | some i=>match π.ak[i.toNat]? with
  | none=>none
  | some f=>if f.pins=0 then none else some i.toNat
def unpinF (π:Pl)(n:Int): Int×Pl:=match heldI π n with
 | none=>(18,π)
 | some i=>match π.ak[i]? with
  | none=>(18,π)
  | some f=>(0,{ π with ak:=π.ak.set i { f with pins:=f.pins-1 } })
def cL (π:Pl)(n:Int)(aK:Nat): Nat:=match lookL n π.aN with
 | some x=>x.1
 | none=>aK
def lW (π:Pl)(n:Int)(b:List Nat)(aK:Nat): Int×Pl:=match heldI π n with
 | none=>(18,π)
 | some i=>match π.ak[i]? with
  | none=>(18,π)
  | some f=>if bT b=false then (4,π) else (0,{ π with ak:=π.ak.set i { f with b:=cO b aK,changed:=true },aN:=cN n (cL π n aK,true) π.aN })
def dJ (ε:aO)(n:Int): Int×aO:=match lookL n ε.1.aE with
 | none=>(18,ε)
 | some i=>outF ε i.toNat
section
variable {told:dM} {h:H} {S:List ax} {X:ax} {r k q p bW:Nat} {v x wh di:V} {l b:List Nat} {π:Pl} {m:List Fm} {μ:Lg} {δ:Dk}
theorem EJ {n:Int}{j:Nat}(s:Sat h (HL wh π.aE::S)): (lookL n π.aE=none∧fq Tryz.prog h 136 wh (.int .i64 n) true=some (.bE [.int .i64 0,.bool false])) ∨
  ∃i,lookL n π.aE=some i∧fq Tryz.prog h 136 wh (.int .i64 n) true=some (.bE [.int .i64 i,.bool true]):=by
 rcases mL (f:=fun v (x:Int)=>.pu (v=.int .i64 x)) (n:=n) (fun _ _=>aH.pu _) s zU bG Fo with ⟨I,J,_⟩ | ⟨u,i,I,J,_,s'⟩
 ·exact .inl ⟨I,J⟩
 ·obtain ⟨rfl,_⟩:=eR.1 s'
  exact .inr ⟨i,I,J⟩
theorem EK {n:Int}(s:Sat h (Dg di π.aN::S)): (lookL n π.aN=none∧fq Tryz.prog h 138 di (.int .i64 n) true=some (.bE [.agg [.int .u64 0,.bool false],.bool false])∧fq Tryz.prog h 138 di (.int .i64 n) false=some (.agg [.int .u64 0,.bool false])) ∨
  ∃x,lookL n π.aN=some x∧fq Tryz.prog h 138 di (.int .i64 n) true=some (.bE [.agg [.int .u64 (x.1:Int),.bool x.2],.bool true])∧fq Tryz.prog h 138 di (.int .i64 n) false=some (.agg [.int .u64 (x.1:Int),.bool x.2]):=by
 rcases mL (f:=fun v (x:Nat×Bool)=>.pu (v=.agg [.int .u64 (x.1:Int),.bool x.2])) (n:=n) (fun _ _=>aH.pu _) s qD bG xw with ⟨I,J,U⟩ | ⟨u,x,I,J,U,s'⟩
 ·exact .inl ⟨I,J,U⟩
 ·obtain ⟨rfl,_⟩:=eR.1 s'
  exact .inr ⟨x,I,J,U⟩
theorem Kz (hT:W told){n:Int}(s:Sat h (pt r (.cells 6 (qH p q bW π.ak.length wh di π.hand) false)::e_ bW π.ak::HL wh π.aE::S))(L_:π.Ok):
  Call ⟨Tryz.prog,told⟩ 97 [.ptr r 0,.int .i64 n] h fun v h'=>h'=h∧((heldI π n=none∧v=.bE [.cK,.int .i64 18])∨∃(i:Nat) (f:Fm),heldI π n=some i∧π.ak[i]?=some f∧v=.bE [.ptr bW (i*5),.int .i64 0]):=by
 refine Call.of_wp (hT.free _ rfl) Tryz.func97 rfl rfl (zK 9 rfl (zf rfl (rK _ _) (zl rfl (s.ld (k:=0) rfl xu rfl) (zm rfl ?_))))
 rcases EJ (n:=n) (j:=0) (s.ae [2]) with ⟨U,g2⟩ | ⟨i,U,g2⟩
 ·refine aB.op rfl rfl rfl (gT rfl rfl g2) ?_
  exact zk 10 rfl (zt rfl (dS rfl rfl) (rfl) (zk 18 rfl (WP.ret ⟨aa,_,rfl,rfl,.inl ⟨by simp only [heldI,U],rfl⟩⟩)))
 ·obtain ⟨i,f,rfl,hf⟩:=L_.at U
  have hl:=(List.getElem?_eq_some_iff.1 hf).1
  have hh:heldI π n=if f.pins=0 then none else some i:=by simp only [heldI,U,cQ,hf]
  obtain ⟨pre,fv,post,J,hlen,s'⟩:=jE (s.ae [1]) hf
  refine zo rfl (gT rfl rfl g2) (zk 10 rfl (zh rfl (dS rfl rfl) (rfl) (zk 3 rfl (zf rfl (lB _ _) (zl rfl (s.ld (k:=0) rfl oU rfl) (zm rfl (zo rfl (ej rfl rfl (mS (i:=i) hl)) (zf rfl (rL _ _) (zl rfl (s'.ld (k:=0) rfl dA (je J rfl)) ?_)))))))))
  refine zd rfl (ah rfl rfl cB) ?_ ?_
  ·intro I
   have I:f.pins=0:=by simpa using I
   exact zk 8 rfl (WP.ret ⟨aa,_,rfl,rfl,.inl ⟨by rw [hh,aj I],rfl⟩⟩)
  ·intro I
   have I:f.pins≠0:=by simpa using I
   exact zk 8 rfl (zf rfl (lB _ _) (zl rfl (s.ld (k:=0) rfl oU rfl) (zm rfl (zo rfl (ej rfl rfl (mS (i:=i) hl)) (zk 3 rfl (WP.ret ⟨aa,_,rfl,rfl,.inr ⟨i,f,by rw [hh,af I],hf,rfl⟩⟩))))))
theorem HN (hT:W told){n:Int}(s:Sat h (cj r p q π::S))(J:π.Ok):
  Call ⟨Tryz.prog,told⟩ 54 [.ptr r 0,.int .i64 n] h fun v h'=>v=.int .i64 (unpinF π n).1∧Sat h' (cj r p q (unpinF π n).2::S):=by
 have s0:=s
 obtain ⟨bW,wh,di,s⟩:=dn.1 s
 refine Call.of_wp (hT.free _ rfl) Tryz.func54 rfl rfl (zK 8 rfl (zc rfl (Kz (n:=n) hT s J) ?_))
 rintro v h' ⟨rfl,(⟨hh,rfl⟩ | ⟨i,f,hh,U,rfl⟩)⟩
 ·have he:unpinF π n=(18,π):=by simp only [unpinF,hh]
  rw [he]
  exact zk 10 rfl (zt rfl (ah rfl rfl aV) (rfl) (zk 7 rfl (WP.ret ⟨aa,_,rfl,rfl,s0⟩)))
 ·have he:unpinF π n=(0,{ π with ak:=π.ak.set i { f with pins:=f.pins-1 } }):=by simp only [unpinF,hh,U]
  rw [he]
  obtain ⟨pre,fv,post,I,hlen,s⟩:=jE (s.ae [1]) U
  have QL:=J.pins f (bw U)
  refine zk 10 rfl (zh rfl (ah rfl rfl aV) (rfl) (zk 7 rfl (zf rfl (rL _ _) (zl rfl (s.ld (k:=0) rfl dA (je I rfl)) (zb rfl (by exact lV (aY (by omega) (by omega))) ?_)))))
  refine zn rfl (zf rfl (rL _ _) (zS rfl (s.stM (k:=0) (j:=2) rfl jK I hlen (by simp [fK]) rfl rfl) ?_))
  intro h s
  have e5:(fK f fv).set 2 (.int .i64 (f.pins-1))=fK { f with pins:=f.pins-1 } fv:=rfl
  rw [e5] at s
  refine zk 5 rfl (WP.ret ⟨aa,_,rfl,?_⟩)
  refine ⟨rfl,dn.2 ⟨bW,wh,di,?_⟩⟩
  have s:=gD (i:=i) (f':={ f with pins:=f.pins-1 }) s rfl U I
  rw [dD]
  exact s.ae [1,0]
theorem Ud (hT:W told){n:Int}{aK:Nat}{bv:V}(s:Sat h (cj r p q π::X::S))(hX:cU X (cY bv b))(L_:π.Ok)(hb:b.length<9223372036854775808):
  Call ⟨Tryz.prog,told⟩ 53 [.ptr r 0,.int .i64 n,bv,.int .u64 (aK:Int)] h fun v h'=>v=.int .i64 (lW π n b aK).1∧Sat h' (cj r p q (lW π n b aK).2::X::S):=by
 have s0:=s
 obtain ⟨bW,wh,di,s⟩:=dn.1 s
 refine Call.of_wp (hT.free _ rfl) Tryz.func53 rfl rfl (zK 8 rfl (zc rfl (Kz (n:=n) hT s L_) ?_))
 rintro v h' ⟨rfl,(⟨hh,rfl⟩ | ⟨i,f,hh,hf,rfl⟩)⟩
 ·have he:lW π n b aK=(18,π):=by simp only [lW,hh]
  rw [he]
  exact zk 10 rfl (zt rfl (ah rfl rfl aV) (rfl) (zk 7 rfl (WP.ret ⟨aa,_,rfl,rfl,s0⟩)))
 ·have he:lW π n b aK=(if bT b=false then (4,π) else (0,{ π with ak:=π.ak.set i { f with b:=cO b aK,changed:=true },aN:=cN n (cL π n aK,true) π.aN })):=by simp only [lW,hh,hf]
  rw [he]
  refine zk 10 rfl (zh rfl (ah rfl rfl aV) (rfl) (zk 7 rfl (zc rfl (Kv (n:=aK) hT (s.ae [4]) hX hb) ?_)))
  rintro v h (⟨U,u,rfl,s⟩ | ⟨U,rfl,s⟩)
  ·rw [af (by rw [U]; decide)]
   have hul:(cO b aK).length=512:=by
    have h1:=xD (n:=aK) (fy U)
    rw [cO,iO (by rw [cR]; omega),h1]
   obtain ⟨J,_,cap,_,rfl,_⟩:=s.kM (by omega)
   have s:=s.fN
   obtain ⟨pre,fv,post,I,hlen,s⟩:=jE (s.ae [3]) hf
   refine zk 10 rfl (zh rfl (ah rfl rfl aV) (rfl) (zk 9 rfl (zf rfl (A7 _ _) (zS rfl (s.stM (k:=0) (j:=1) rfl jM I hlen (by simp [fK]) rfl rfl) ?_))))
   intro h s
   refine zn rfl (zf rfl (Ey _ _) (zS rfl (s.stM (k:=0) (j:=4) rfl yq I (by simpa [fK] using hlen) (by simp [fK]) rfl rfl) ?_))
   intro h s
   have e5:((fK f fv).set 1 (.sl J 0 (cO b aK).length cap)).set 4 (.bool true)=fK { f with b:=cO b aK,changed:=true } (.sl J 0 (cO b aK).length cap):=rfl
   rw [e5] at s
   have s:=gD (i:=i) (f':={ f with b:=cO b aK,changed:=true }) (s.ae [0,0,1]) rfl hf I
   have s:=s.ae [3,4,0]
   refine zk 5 rfl (zf rfl (nc _ _) (zl rfl (s.ld (k:=0) rfl r6 rfl) (zm rfl ?_)))
   rcases EK (n:=n) (s.ae [1]) with ⟨g1,g2,_⟩ | ⟨x,g1,g2,_⟩
   ·refine aB.op rfl rfl rfl (gT rfl rfl g2) ?_
    refine zk 3 rfl ?_
    refine aB.cT s rfl rfl rfl (cI xw) (fun Wv h s => ?_)
    refine zS rfl (s.ia (j:=0) rfl vj rfl rfl) (fun h s => ?_)
    refine zk 6 rfl (zo rfl (dS rfl rfl) (zk 4 rfl (zf rfl (Eu _ _) ?_)))
    refine zS rfl (by exact s.ee (k:=0) rfl rH rfl (by decide) rfl rfl) (fun h s => ?_)
    refine zk 3 rfl (zf rfl (Ev _ _) ?_)
    refine zS rfl (by exact s.ee (k:=0) rfl yq rfl (by decide) rfl rfl) (fun h s => ?_)
    refine zk 2 rfl (WP.drawn [ai,ai,ai,ai,ai,ai,ai] rfl (by kernel_rfl) (by kernel_rfl) ?_)
    refine zM rfl (zN rfl (zF rfl (nc _ _) (zL rfl (s.ld (k:=1) rfl r6 rfl) (zM rfl (zL rfl (s.fM (k:=0) rfl LQ vj) (aA.h_ rfl rfl rfl (OpR.mapUpdate rfl rfl rfl rfl (oZ (f:=fun v (x:Nat×Bool)=>.pu (v=.agg [.int .u64 (x.1:Int),.bool x.2])) (x:=(aK,true)) (fun _ _=>aH.pu _) ((s.ae [2]).gB rfl) qD bG)) ?_))))))
    intro w h s
    refine aA.nil ⟨⟨aa,aa,aa,aa,aa,aa,aa,aa⟩,?_⟩
    refine zK 4 rfl (WP.ret ⟨aa,_,rfl,?_⟩)
    have ed:cL π n aK=aK:=by simp only [cL,g1]
    rw [ed]
    refine ⟨rfl,dn.2 ⟨bW,wh,di,?_⟩⟩
    have e6:(π.ak.set i { f with b:=cO b aK,changed:=true }).length=π.ak.length:=dD
    show Sat h (pt r (.cells 6 (qH p q bW (π.ak.set i { f with b:=cO b aK,changed:=true }).length wh di π.hand) false)::_)
    rw [e6]
    exact ((s.ae [2,2,4,0,2]).del 6).del 5
   ·skip
    refine zo rfl (gT rfl rfl g2) (zk 3 rfl ?_)
    refine aB.cT s rfl rfl rfl (cI xw) (fun Wv h s => ?_)
    refine zS rfl (s.ia (j:=0) rfl vj rfl rfl) (fun h s => ?_)
    refine zk 6 rfl (zo rfl (dS rfl rfl) (zk 5 rfl (zf rfl (Ev _ _) ?_)))
    refine zS rfl (by exact s.ee (k:=0) rfl yq rfl (by decide) rfl rfl) (fun h s => ?_)
    refine zk 2 rfl (WP.drawn [ai,ai,ai,ai,ai,ai,ai] rfl (by kernel_rfl) (by kernel_rfl) ?_)
    refine zM rfl (zN rfl (zF rfl (nc _ _) (zL rfl (s.ld (k:=1) rfl r6 rfl) (zM rfl (zL rfl (s.fM (k:=0) rfl LQ vj) (aA.h_ rfl rfl rfl (OpR.mapUpdate rfl rfl rfl rfl (oZ (f:=fun v (x:Nat×Bool)=>.pu (v=.agg [.int .u64 (x.1:Int),.bool x.2])) (x:=(x.1,true)) (fun _ _=>aH.pu _) ((s.ae [2]).gB rfl) qD bG)) ?_))))))
    intro w h s
    refine aA.nil ⟨⟨aa,aa,aa,aa,aa,aa,aa,aa⟩,?_⟩
    refine zK 4 rfl (WP.ret ⟨aa,_,rfl,?_⟩)
    have ed:cL π n aK=x.1:=by simp only [cL,g1]
    rw [ed]
    refine ⟨rfl,dn.2 ⟨bW,wh,di,?_⟩⟩
    have e6:(π.ak.set i { f with b:=cO b aK,changed:=true }).length=π.ak.length:=dD
    show Sat h (pt r (.cells 6 (qH p q bW (π.ak.set i { f with b:=cO b aK,changed:=true }).length wh di π.hand) false)::_)
    rw [e6]
    exact ((s.ae [2,2,4,0,2]).del 6).del 5
  ·rw [aj U]
   exact zk 10 rfl (zt rfl (ah rfl rfl aV) (rfl) (zk 7 rfl (WP.ret ⟨aa,_,rfl,rfl,dn.2 ⟨bW,wh,di,s.ae [1,1,1,1,0]⟩⟩)))
theorem Ou (hT:W told){n:Int}(s:Sat h (cj r p q π::bh q p μ::aG p δ::S))(I:π.Ok)(U:μ.Ok)(tv:δ.Ok)(hw:δ.waiting.length≤268435456):
  Call ⟨Tryz.prog,told⟩ 74 [.ptr r 0,.int .i64 n] h fun v h'=>v=.int .i64 (dJ (π,μ,δ) n).1 ∧
   Sat h' (cj r p q (dJ (π,μ,δ) n).2.1::bh q p (dJ (π,μ,δ) n).2.2.1::aG p (dJ (π,μ,δ) n).2.2.2::S):=by
 have s0:=s
 obtain ⟨bW,wh,di,s⟩:=dn.1 s
 refine Call.of_wp (hT.free _ rfl) Tryz.func74 rfl rfl (zK 8 rfl (zf rfl (rK _ _) (zl rfl (s.ld (k:=0) rfl xu rfl) (zm rfl ?_))))
 rcases EJ (n:=n) (j:=0) (s.ae [2]) with ⟨J,g2⟩ | ⟨i,J,g2⟩
 ·have he:dJ (π,μ,δ) n=(18,(π,μ,δ)):=by simp only [dJ,J]
  rw [he]
  exact zo rfl (gT rfl rfl g2) (zk 10 rfl (zo rfl (dS rfl rfl) (zk 6 rfl (WP.ret ⟨aa,_,rfl,rfl,s0⟩))))
 ·obtain ⟨i,f,rfl,hf⟩:=I.at J
  have hl:=(List.getElem?_eq_some_iff.1 hf).1
  have he:dJ (π,μ,δ) n=outF (π,μ,δ) i:=by simp only [dJ,J,cQ]
  rw [he]
  refine zo rfl (gT rfl rfl g2) (zk 10 rfl (zo rfl (dS rfl rfl) (zk 8 rfl (zf rfl (lB _ _) (zl rfl (s.ld (k:=0) rfl oU rfl) (zm rfl (zo rfl (ej rfl rfl (mS (i:=i) hl)) (zc rfl (Ot hT s hf U tv (by have:=I.len f (bw hf); omega) hw) ?_))))))))
  rintro v h ⟨rfl,s⟩
  exact zk 2 rfl (WP.ret ⟨aa,_,rfl,rfl,dn.2 ⟨bW,wh,di,s⟩⟩)
theorem Ww (U:W told){n:Int}(s:Sat h (cj r p q π::S)): Call ⟨Tryz.prog,told⟩ 86 [.ptr r 0,.int .i64 n] h fun v h'=>v=.bE [.int .u64 (cL π n 0:Nat),.bool (lookL n π.aN).isSome]∧Sat h' (cj r p q π::S):=by
 obtain ⟨bW,wh,di,s⟩:=dn.1 s
 refine Call.of_wp (U.free _ rfl) Tryz.func86 rfl rfl (zK 9 rfl (zf rfl (nc _ _) (zl rfl (s.ld (k:=0) rfl r6 rfl) (zm rfl ?_))))
 rcases EK (n:=n) (s.ae [3]) with ⟨I,J,_⟩ | ⟨x,I,J,_⟩
 ·refine aB.op rfl rfl rfl (gT rfl rfl J) ?_
  refine zk 3 rfl ?_
  refine aB.cT s rfl rfl rfl (cI xw) (fun p6 h s => ?_)
  refine zS rfl (s.ia (j:=0) rfl vj rfl rfl) (fun h s => ?_)
  exact zk 4 rfl (zf rfl (Eu _ _) (zl rfl (s.ld (k:=0) rfl gx rfl) (zk 4 rfl (WP.ret ⟨aa,_,rfl,by simp only [cL,I]; rfl,dn.2 ⟨bW,wh,di,s.drop⟩⟩))))
 ·skip
  refine zo rfl (gT rfl rfl J) (zk 3 rfl ?_)
  refine aB.cT s rfl rfl rfl (cI xw) (fun p6 h s => ?_)
  refine zS rfl (s.ia (j:=0) rfl vj rfl rfl) (fun h s => ?_)
  exact zk 4 rfl (zf rfl (Eu _ _) (zl rfl (s.ld (k:=0) rfl gx rfl) (zk 4 rfl (WP.ret ⟨aa,_,rfl,by simp only [cL,I]; rfl,dn.2 ⟨bW,wh,di,s.drop⟩⟩))))
def fe : Fm:=⟨-1,[],0,false,false⟩
def dH (π:Pl)(i:Nat)(f:Fm): Pl:={ π with ak:=π.ak.set i fe,aE:=if f.aM<0 then π.aE else nh f.aM π.aE }
def jQ (π:Pl)(i:Nat)(n:Int)(b:List Nat): Pl:={ π with ak:=π.ak.set i ⟨n,b,1,true,false⟩,aE:=cN n (i:Int) π.aE }
inductive gn (ε:aO)(n:Int): Int→List Nat→aO→Prop where
 | arg (h:¬(0≤n∧n<ε.2.2.aq.length)):gn ε n 1 [] ε
 | BF (i:Nat) (f:Fm) (h1:0≤n) (h2:n<ε.2.2.aq.length) (hl:lookL n ε.1.aE=some (i:Int)) (hf:ε.1.ak[i]?=some f):gn ε n 0 f.b ({ ε.1 with ak:=ε.1.ak.set i { f with fA:=true,pins:=f.pins+1 } },ε.2)
 | out (gZ:Pl) (i:Nat) (f:Fm) (h1:0≤n) (h2:n<ε.2.2.aq.length) (hl:lookL n ε.1.aE=none) (hn:gj ε.1 gZ) (hf:gZ.ak[i]?=some f) (hh:gZ.hand<gZ.ak.length) (he:(outF (gZ,ε.2) i).1≠0):gn ε n (outF (gZ,ε.2) i).1 [] (outF (gZ,ε.2) i).2
 | read (gZ:Pl) (i:Nat) (f:Fm) (h1:0≤n) (h2:n<ε.2.2.aq.length) (hl:lookL n ε.1.aE=none) (hn:gj ε.1 gZ) (hf:gZ.ak[i]?=some f) (hh:gZ.hand<gZ.ak.length) (he:(outF (gZ,ε.2) i).1=0)
   (hr:(outF (gZ,ε.2) i).2.2.2.r_ n≠0):gn ε n ((outF (gZ,ε.2) i).2.2.2.r_ n) [] (dH (outF (gZ,ε.2) i).2.1 i f,(outF (gZ,ε.2) i).2.2)
 | bad (gZ:Pl) (i:Nat) (f:Fm) (h1:0≤n) (h2:n<ε.2.2.aq.length) (hl:lookL n ε.1.aE=none) (hn:gj ε.1 gZ) (hf:gZ.ak[i]?=some f) (hh:gZ.hand<gZ.ak.length) (he:(outF (gZ,ε.2) i).1=0)
   (hr:(outF (gZ,ε.2) i).2.2.2.r_ n=0) (hc:dN ((outF (gZ,ε.2) i).2.2.2.at n)≠0):gn ε n (dN ((outF (gZ,ε.2) i).2.2.2.at n)) [] (dH (outF (gZ,ε.2) i).2.1 i f,(outF (gZ,ε.2) i).2.2)
 | load (gZ:Pl) (i:Nat) (f:Fm) (h1:0≤n) (h2:n<ε.2.2.aq.length) (hl:lookL n ε.1.aE=none) (hn:gj ε.1 gZ) (hf:gZ.ak[i]?=some f) (hh:gZ.hand<gZ.ak.length) (he:(outF (gZ,ε.2) i).1=0)
   (hr:(outF (gZ,ε.2) i).2.2.2.r_ n=0) (hc:dN ((outF (gZ,ε.2) i).2.2.2.at n)=0):gn ε n 0 ((outF (gZ,ε.2) i).2.2.2.at n) (jQ (dH (outF (gZ,ε.2) i).2.1 i f) i n ((outF (gZ,ε.2) i).2.2.2.at n),(outF (gZ,ε.2) i).2.2)
theorem B7 {ε:aO}{i:Nat}(h:ε.2.2.Ok): (outF ε i).2.2.2.Ok:=by
 unfold outF
 split
 ·exact h
 ·split
  ·exact h
  ·split
   ·exact h
   ·split
    ·exact om h
    ·split
     ·exact (om h).bk
     ·exact (om h).bk
theorem QM {ε:aO}{i:Nat}(h:ε.2.1.Ok): (outF ε i).2.2.1.Ok:=by
 unfold outF
 split
 ·exact h
 ·split
  ·exact h
  ·split
   ·exact h
   ·split
    ·exact sg h
    ·split <;> exact sg h
theorem oo {ε:aO}{i:Nat}{f:Fm}(I:ε.1.ak[i]?=some f): ∃c,(outF ε i).2.1.ak[i]?=some { f with changed:=c }:=by
 have J:=(List.getElem?_eq_some_iff.1 I).1
 unfold outF
 rw [I]
 dsimp only
 split
 ·exact ⟨f.changed,I⟩
 ·split
  ·exact ⟨f.changed,I⟩
  ·split
   ·exact ⟨f.changed,I⟩
   ·split
    ·exact ⟨f.changed,I⟩
    ·exact ⟨false,by simp [tF,J]⟩
theorem Ov (hT:W told){n:Int}(s:Sat h (cj r p q π::bh q p μ::aG p δ::S))(L_:π.Ok)(QL:∀f∈π.ak,f.pins=0)(EH:μ.Ok)(tv:δ.Ok)(hw:δ.waiting.length≤268435456):
  Call ⟨Tryz.prog,told⟩ 52 [.ptr r 0,.int .i64 n] h fun v h'=>∃(e:Int) (b:List Nat) (ε:aO),gn (π,μ,δ) n e b ε ∧
   ((e≠0∧v=.bE [.bz,.int .i64 e]∧Sat h' (cj r p q ε.1::bh q p ε.2.1::aG p ε.2.2::S))∨(e=0∧∃u,v=.bE [u,.int .i64 0]∧Sat h' (bK u b::cj r p q ε.1::bh q p ε.2.1::aG p ε.2.2::S))):=by
 have s0:=s
 obtain ⟨bW,wh,di,s⟩:=dn.1 s
 refine Call.of_wp (hT.free _ rfl) Tryz.func52 rfl rfl (zK 9 rfl ?_)
 refine zd rfl (ah rfl rfl bB) ?_ ?_
 ·intro hq
  have hq:n<0:=by simpa using hq
  exact zk 16 rfl (WP.ret ⟨aa,_,rfl,1,[],(π,μ,δ),.arg (fun q=>by omega),.inl ⟨by decide,rfl,s0⟩⟩)
 ·intro hq
  have hq:0≤n:=by simp at hq; omega
  refine zk 4 rfl (zf rfl (wH _ _) (zl rfl (s.ld (k:=0) rfl jL rfl) (zc rfl (B6 hT (s.ae [5])) ?_)))
  rintro v h' ⟨rfl,rfl⟩
  refine zd rfl (ah rfl rfl nC) ?_ ?_
  ·intro iG
   have iG:¬ n<δ.aq.length:=by simp at iG; omega
   exact zk 8 rfl (WP.ret ⟨aa,_,rfl,1,[],(π,μ,δ),.arg (fun q=>iG q.2),.inl ⟨by decide,rfl,s0⟩⟩)
  ·intro iG
   have iG:n<δ.aq.length:=by simp at iG; omega
   refine zk 9 rfl (zf rfl (rK _ _) (zl rfl (s.ld (k:=0) rfl xu rfl) (zm rfl ?_)))
   rcases EJ (n:=n) (j:=0) (s.ae [2]) with ⟨g1,g2⟩ | ⟨i,g1,g2⟩
   ·refine aB.op rfl rfl rfl (gT rfl rfl g2) ?_
    refine zk 15 rfl (zc rfl (QK hT s L_.hand (by have:=L_.many; omega) QL) ?_)
    rintro v h ⟨i,gZ,f,rfl,U,hf,hh,s⟩
    have hl:=(List.getElem?_eq_some_iff.1 hf).1
    rw [←U.aE,←U.aN] at s
    have Zh:f.b.length≤512:=by
     have h1:π.ak[i]?=some (π.ak[i]'(by have:=U.len; omega)):=bg _
     generalize (π.ak[i]'(by have:=U.len; omega))=f0 at h1
     obtain ⟨t,ht⟩:=U.get i f0 h1
     rw [hf] at ht
     have:=bx ht
     rw [this]
     exact L_.len f0 (bw h1)
    refine zk 6 rfl (zh rfl (ah rfl rfl bB) (by simp <;> omega) ?_)
    refine zk 7 rfl (zf rfl (lB _ _) (zl rfl (s.ld (k:=0) rfl oU rfl) (zm rfl (zo rfl (ej rfl rfl (mS (i:=i) hl)) (zk 7 rfl (zc rfl (Ot (π:=gZ) hT s hf EH tv (by omega) hw) ?_))))))
    rintro v h ⟨rfl,s⟩
    obtain ⟨c,BG⟩:=oo (ε:=(gZ,μ,δ)) hf
    have EM:=B7 (ε:=(gZ,μ,δ)) (i:=i) tv
    refine zk 5 rfl ?_
    by_cases he:(outF (gZ,μ,δ) i).1=0
    ·generalize ho:outF (gZ,μ,δ) i=o at he s BG EM ⊢
     obtain ⟨oe,I,μ1,Aa⟩:=o
     dsimp only at he s BG EM ⊢
     subst he
     have KA:(outF (gZ,μ,δ) i).1=0:=by rw [ho]
     have sS:(outF (gZ,μ,δ) i).2=(I,μ1,Aa):=by rw [ho]
     refine zh rfl (ah rfl rfl aV) (by decide) ?_
     obtain ⟨pre,fv,post,J,hlen,s⟩:=jE (s.ae [1]) BG
     refine zk 8 rfl (zf rfl (pY _ _) (zl rfl (s.ld (k:=0) rfl dA (je J rfl)) ?_))
     refine zd rfl (ah rfl rfl nC) ?_ ?_
     ·intro nJ
      have nJ:¬ f.aM<0:=by simp at nJ; omega
      refine zk 2 rfl (WP.drawn [ai,ai,ai,ai,ai,ai,ai,ai,ai] rfl (by kernel_rfl) (by kernel_rfl) ?_)
      refine zM rfl (zN rfl (zF rfl (rK _ _) (zL rfl (s.ld (k:=3) rfl xu rfl) (zM rfl (zN rfl (zF rfl (pY _ _) (zL rfl (s.ld (k:=0) rfl dA (je J rfl)) (aA.h_ rfl rfl rfl (OpR.delete rfl rfl rfl rfl (Qw (s.ae [4]) zU bG)) ?_))))))))
      intro v h s
      have s:=s.ae [1,1,1,1,0]
      refine aA.nil ⟨⟨aa,aa,aa,aa,aa,aa,aa,aa,aa,aa⟩,?_⟩
      refine zK 3 rfl (zo rfl (c8 rfl (by rw [Gm]; rfl)) ?_)
      refine zn rfl (zS rfl (s.SS (k:=0) (row':=fK fe .bz) rfl C3 J hlen (by simp [fK]) rfl) ?_)
      intro h s
      have Ma:(pre++(fK fe .bz++post)).length=I.ak.length*5:=by simpa [fK] using hlen
      have qT:(dH I i f).aE=nh f.aM I.aE:=by simp only [dH]; rw [af nJ]
      refine zk 5 rfl (zf rfl (wH _ _) (zl rfl (s.ld (k:=3) rfl jL rfl) (zm rfl (zc rfl (Oq (n:=n) hT (s.ae [7]) EM) ?_))))
      rintro v h (⟨hr,rfl,s⟩ | ⟨hr,u,rfl,s⟩)
      ·dsimp only [bringA,getA,aU] at s
       refine zk 10 rfl (zt rfl (ah rfl rfl aV) (by simp; exact hr) ?_)
       refine zk 8 rfl (WP.ret ⟨aa,_,rfl,?_⟩)
       have s:=gD (i:=i) (f':=fe) (v':=.bz) (s.r7.ae [2,2,0]) rfl BG J
       have e6:(I.ak.set i fe).length=I.ak.length:=dD
       rw [←e6,←qT] at s
       have s:=(dn (π:=dH I i f)).2 ⟨bW,wh,di,s.ae [3,0,2,2]⟩
       have hR:=gn.read (ε:=(π,μ,δ)) gZ i f hq iG g1 U hf hh KA (by rw [sS]; exact hr)
       rw [sS] at hR
       exact ⟨_,[],_,hR,.inl ⟨hr,rfl,(s.del 2).ae [0,1,0]⟩⟩
      ·have YD:=EM.at n
       obtain ⟨yx,_,cap,_,rfl,_⟩:=s.kM (by omega)
       refine zk 10 rfl (zh rfl (ah rfl rfl aV) (rfl) (zk 7 rfl (zc rfl (xE hT s (bM _ _) (by omega)) ?_)))
       rintro v h ⟨rfl,s⟩
       refine zk 5 rfl ?_
       by_cases hc:dN (Aa.at n)=0
       ·skip
        refine zh rfl (ah rfl rfl aV) (by simp; exact hc) ?_
        have s:=s.fN.ae [2,2,0,2,2,2,2,0,0]
        refine zk 8 rfl (zo rfl (c8 rfl (by rw [Gm]; rfl)) ?_)
        refine zn rfl (zS rfl (s.SS (k:=0) (row':=fK ⟨n,Aa.at n,1,true,false⟩ (.sl yx 0 (Aa.at n).length cap)) rfl C3 J Ma (by simp [fK]) rfl) ?_)
        intro h s
        refine zk 5 rfl (zf rfl (rK _ _) (zl rfl (s.ld (k:=3) rfl xu rfl) (zk 2 rfl (aB.h_ rfl rfl (OpR.mapUpdate rfl rfl rfl rfl (oZ (f:=fun v (x:Int)=>.pu (v=.int .i64 x)) (x:=(i:Int)) (fun _ _=>aH.pu _) ((s.ae [4]).gB rfl) zU bG)) ?_))))
        intro w h s
        refine zk 4 rfl (zc rfl (xA hT (s.ae [3]) (cJ _ _) (by omega)) ?_)
        intro u h s
        refine zk 3 rfl (WP.ret ⟨aa,_,rfl,?_⟩)
        have s:=gD (i:=i) (f':=⟨n,Aa.at n,1,true,false⟩) (s.ae [3,3,1]) rfl BG J
        have e6:(I.ak.set i ⟨n,Aa.at n,1,true,false⟩).length=I.ak.length:=dD
        have e7:(jQ (dH I i f) i n (Aa.at n)).ak=I.ak.set i ⟨n,Aa.at n,1,true,false⟩:=by simp only [jQ,dH,AQ]
        rw [←e6,←e7,←qT] at s
        have s:=(dn (π:=jQ (dH I i f) i n (Aa.at n))).2 ⟨bW,wh,di,s.ae [3,0,1,1]⟩
        have hR:=gn.load (ε:=(π,μ,δ)) gZ i f hq iG g1 U hf hh KA (by rw [sS]; exact hr) (by rw [sS]; exact hc)
        rw [sS] at hR
        exact ⟨_,_,_,hR,.inr ⟨rfl,u,rfl,(s.del 4).ae [1,0]⟩⟩
       ·skip
        refine zt rfl (ah rfl rfl aV) (by simp; exact hc) ?_
        refine zk 8 rfl (WP.ret ⟨aa,_,rfl,?_⟩)
        have s:=s.drop
        have s:=gD (i:=i) (f':=fe) (v':=.bz) (s.r7.ae [2,2,0]) rfl BG J
        have e6:(I.ak.set i fe).length=I.ak.length:=dD
        rw [←e6,←qT] at s
        have s:=(dn (π:=dH I i f)).2 ⟨bW,wh,di,s.ae [3,0,2,2]⟩
        dsimp only [bringA,getA,aU] at s
        have hR:=gn.bad (ε:=(π,μ,δ)) gZ i f hq iG g1 U hf hh KA (by rw [sS]; exact hr) (by rw [sS]; exact hc)
        rw [sS] at hR
        exact ⟨_,[],_,hR,.inl ⟨hc,rfl,(s.del 2).ae [0,1,0]⟩⟩
     ·intro nJ
      have nJ:f.aM<0:=by simp at nJ; omega
      refine zk 6 rfl (zo rfl (c8 rfl (by rw [Gm]; rfl)) ?_)
      refine zn rfl (zS rfl (s.SS (k:=0) (row':=fK fe .bz) rfl C3 J hlen (by simp [fK]) rfl) ?_)
      intro h s
      dsimp only [setA] at s
      have Ma:(pre++(fK fe .bz++post)).length=I.ak.length*5:=by simpa [fK] using hlen
      have qT:(dH I i f).aE=I.aE:=by simp only [dH]; rw [aj nJ]
      refine zk 5 rfl (zf rfl (wH _ _) (zl rfl (s.ld (k:=3) rfl jL rfl) (zm rfl (zc rfl (Oq (n:=n) hT (s.ae [7]) EM) ?_))))
      rintro v h (⟨hr,rfl,s⟩ | ⟨hr,u,rfl,s⟩)
      ·dsimp only [bringA,getA,aU] at s
       refine zk 10 rfl (zt rfl (ah rfl rfl aV) (by simp; exact hr) ?_)
       refine zk 8 rfl (WP.ret ⟨aa,_,rfl,?_⟩)
       have s:=gD (i:=i) (f':=fe) (v':=.bz) (s.r7.ae [2,2,0]) rfl BG J
       have e6:(I.ak.set i fe).length=I.ak.length:=dD
       rw [←e6,←qT] at s
       have s:=(dn (π:=dH I i f)).2 ⟨bW,wh,di,s.ae [3,0,2,2]⟩
       have hR:=gn.read (ε:=(π,μ,δ)) gZ i f hq iG g1 U hf hh KA (by rw [sS]; exact hr)
       rw [sS] at hR
       exact ⟨_,[],_,hR,.inl ⟨hr,rfl,(s.del 2).ae [0,1,0]⟩⟩
      ·have YD:=EM.at n
       obtain ⟨yx,_,cap,_,rfl,_⟩:=s.kM (by omega)
       refine zk 10 rfl (zh rfl (ah rfl rfl aV) (rfl) (zk 7 rfl (zc rfl (xE hT s (bM _ _) (by omega)) ?_)))
       rintro v h ⟨rfl,s⟩
       refine zk 5 rfl ?_
       by_cases hc:dN (Aa.at n)=0
       ·skip
        refine zh rfl (ah rfl rfl aV) (by simp; exact hc) ?_
        have s:=s.fN.ae [2,2,0,2,2,2,2,0,0]
        refine zk 8 rfl (zo rfl (c8 rfl (by rw [Gm]; rfl)) ?_)
        refine zn rfl (zS rfl (s.SS (k:=0) (row':=fK ⟨n,Aa.at n,1,true,false⟩ (.sl yx 0 (Aa.at n).length cap)) rfl C3 J Ma (by simp [fK]) rfl) ?_)
        intro h s
        refine zk 5 rfl (zf rfl (rK _ _) (zl rfl (s.ld (k:=3) rfl xu rfl) (zk 2 rfl (aB.h_ rfl rfl (OpR.mapUpdate rfl rfl rfl rfl (oZ (f:=fun v (x:Int)=>.pu (v=.int .i64 x)) (x:=(i:Int)) (fun _ _=>aH.pu _) ((s.ae [4]).gB rfl) zU bG)) ?_))))
        intro w h s
        refine zk 4 rfl (zc rfl (xA hT (s.ae [3]) (cJ _ _) (by omega)) ?_)
        intro u h s
        refine zk 3 rfl (WP.ret ⟨aa,_,rfl,?_⟩)
        have s:=gD (i:=i) (f':=⟨n,Aa.at n,1,true,false⟩) (s.ae [3,3,1]) rfl BG J
        have e6:(I.ak.set i ⟨n,Aa.at n,1,true,false⟩).length=I.ak.length:=dD
        have e7:(jQ (dH I i f) i n (Aa.at n)).ak=I.ak.set i ⟨n,Aa.at n,1,true,false⟩:=by simp only [jQ,dH,AQ]
        rw [←e6,←e7,←qT] at s
        have s:=(dn (π:=jQ (dH I i f) i n (Aa.at n))).2 ⟨bW,wh,di,s.ae [3,0,1,1]⟩
        dsimp only [bringA,getA,aU] at s
        have hR:=gn.load (ε:=(π,μ,δ)) gZ i f hq iG g1 U hf hh KA (by rw [sS]; exact hr) (by rw [sS]; exact hc)
        rw [sS] at hR
        exact ⟨_,_,_,hR,.inr ⟨rfl,u,rfl,(s.del 4).ae [1,0]⟩⟩
       ·skip
        refine zt rfl (ah rfl rfl aV) (by simp; exact hc) ?_
        refine zk 8 rfl (WP.ret ⟨aa,_,rfl,?_⟩)
        have s:=s.drop
        have s:=gD (i:=i) (f':=fe) (v':=.bz) (s.r7.ae [2,2,0]) rfl BG J
        have e6:(I.ak.set i fe).length=I.ak.length:=dD
        rw [←e6,←qT] at s
        have s:=(dn (π:=dH I i f)).2 ⟨bW,wh,di,s.ae [3,0,2,2]⟩
        have hR:=gn.bad (ε:=(π,μ,δ)) gZ i f hq iG g1 U hf hh KA (by rw [sS]; exact hr) (by rw [sS]; exact hc)
        rw [sS] at hR
        exact ⟨_,[],_,hR,.inl ⟨hc,rfl,(s.del 2).ae [0,1,0]⟩⟩
    ·skip
     refine zt rfl (ah rfl rfl aV) (by simp; exact he) ?_
     exact zk 8 rfl (WP.ret ⟨aa,_,rfl,_,[],_,.out gZ i f hq iG g1 U hf hh he,.inl ⟨he,rfl,dn.2 ⟨bW,wh,di,s⟩⟩⟩)
   ·obtain ⟨i,f,rfl,hf⟩:=L_.at g1
    have hl:=(List.getElem?_eq_some_iff.1 hf).1
    obtain ⟨pre,fv,post,J,hlen,s⟩:=jE (s.ae [1]) hf
    have R9:=QL f (bw hf)
    have HM:=L_.len f (bw hf)
    refine zo rfl (gT rfl rfl g2) (zk 15 rfl (zf rfl (lB _ _) (zl rfl (s.ld (k:=3) rfl oU rfl) (zm rfl (zo rfl (ej rfl rfl (mS (i:=i) hl)) (zk 6 rfl (zf rfl (Ew _ _) (zS rfl (s.stM (k:=0) (j:=3) rfl yq J hlen (by simp [fK]) rfl rfl) ?_))))))))
    intro h s
    refine zk 5 rfl (zf rfl (rL _ _) (zl rfl (s.ld (k:=0) rfl dA (je J rfl)) (zb rfl (by exact bU (aY (by omega) (by omega))) ?_)))
    refine zn rfl (zf rfl (rL _ _) (zS rfl (s.stM (k:=0) (j:=2) rfl jK J (by simpa [fK] using hlen) (by simp [fK]) rfl rfl) ?_))
    intro h s
    have e5:((fK f fv).set 3 (.bool true)).set 2 (.int .i64 (f.pins+1))=fK { f with fA:=true,pins:=f.pins+1 } fv:=rfl
    rw [e5] at s
    refine zk 5 rfl (zf rfl (A7 _ _) (zl rfl (s.ld (k:=0) rfl bO (je J rfl)) (zc rfl (xA hT (s.ae [2]) (cJ _ _) (by omega)) ?_)))
    intro u h s
    refine zk 3 rfl (WP.ret ⟨aa,_,rfl,?_⟩)
    have s:=gD (i:=i) (f':={ f with fA:=true,pins:=f.pins+1 }) (s.ae [2,2,1]) rfl hf J
    refine ⟨0,f.b,_,.BF i f hq iG g1 hf,.inr ⟨rfl,u,rfl,?_⟩⟩
    have e6:(π.ak.set i { f with fA:=true,pins:=f.pins+1 }).length=π.ak.length:=dD
    rw [←e6] at s
    exact ((dn (π:={ π with ak:=π.ak.set i { f with fA:=true,pins:=f.pins+1 } })).2 ⟨bW,wh,di,s.ae [2,0,1,1]⟩).ae [1,0]
end
def Di : Fm:=⟨0,[],0,false,false⟩
def Pl.fresh (n:Nat): Pl:=⟨List.replicate n fe,[],[],0⟩
theorem Ue : ∃i,Tryz.prog.info? 167=some i∧i.size=5∧i.bytes=48 :=
 ⟨_,(show Tryz.prog.info? 167=some ((Tryz.prog.info? 167).getD default) by kernel_rfl),by kernel_rfl,by kernel_rfl⟩
theorem QN {a b:PM}: ∀n:Nat,(uP (repeatL [.int .i64 0,.bz,.int .i64 0,.bool false,.bool false] n) (List.replicate n Di)).p a b:=by
 intro n
 induction n with
 | zero=>trivial
 | succ n I=>exact ⟨⟨⟨rfl,rfl,rfl,rfl⟩,⟨(by intro b J; cases J),.inl ⟨.inl rfl,rfl⟩⟩⟩,I⟩
section
variable {told:dM} {h:H} {S:List ax} {X:ax} {r k q p bW:Nat} {v x wh di:V} {l b:List Nat} {π:Pl} {m:List Fm} {μ:Lg} {δ:Dk}
noncomputable def pnL : Code:=cM [1,1,1,0,1,0,0] ((Tryz.f59.body).getD .skip)
theorem Ow {n:Nat}(hn:n<4294967296): ∀(j i:Nat) (m:List Fm) (h:H) (E:List (Nat×V)) (Q:Ex→List (Nat×V)→H→Prop),i+j=n→m=List.replicate i fe++List.replicate j Di →
  Sat h (pt r (.cells 6 (qH p q bW n wh di 0) false)::e_ bW m::S)→Has E [(8,.ptr r 0),(28,.int .i64 n),(29,.int .i64 i)] →
  (∀E' h',Has E' [(8,.ptr r 0)]→Sat h' (pt r (.cells 6 (qH p q bW n wh di 0) false)::e_ bW (List.replicate n fe)::S)→Q (.exit 0) E' h')→WP ⟨Tryz.prog,told⟩ 41 (.loop pnL) E h Q:=by
 intro j
 induction j with
 | zero =>
  intro i m h E Q hi hm s J U
  refine WP.loop (WP.has J (zg rfl (zh rfl (ah rfl rfl bB) (by simp <;> omega) ?_)))
  refine zk 3 rfl (WP.exit (U _ _ ⟨rfl,aa⟩ ?_))
  rw [hm] at s
  have:i=n:=by omega
  subst this
  simpa using s
 | succ j ih =>
  intro i m h E Q hi hm s J U
  have Ox:m.length=n:=by rw [hm]; simp; omega
  have hf:m[i]?=some Di:=by rw [hm,nT (by simp)]; simp [tC]
  obtain ⟨pre,fv,post,I,hlen,s⟩:=jE (s.ae [1]) hf
  dsimp only [bringA,getA,aU] at s
  refine WP.loop (WP.has J (zg rfl (zt rfl (ah rfl rfl bB) (by simp <;> omega) ?_)))
  refine zk 5 rfl (WP.block (zK 8 rfl (zf rfl (lB _ _) (zl rfl (s.ld (k:=3) rfl oU rfl) (zm rfl (zo rfl (ej rfl rfl (mS (i:=i) (by omega))) ?_))))))
  refine zf rfl (pY _ _) (zS rfl (s.stM (k:=0) (j:=0) rfl jK I hlen (by simp [fK]) rfl rfl) ?_)
  intro h s
  dsimp only [setA] at s
  have e5:(fK Di fv).set 0 (.int .i64 (-1))=fK fe fv:=rfl
  rw [e5] at s
  refine zv (zr rfl (zb rfl (by exact bU (aY (by omega) (by omega))) ?_))
  refine zm rfl (zv ?_)
  have s:=gD (i:=i) (f':=fe) s rfl hf I
  refine ih (i+1) (m.set i fe) h _ Q (by omega) ?_ (s.ae [1,0]) ⟨rfl,rfl,rfl,aa⟩ U
  rw [hm,List.set_append_right _ _ (by simp),fE,AP,tC,List.set_cons_zero,List.replicate_succ',bH]
  rfl
theorem KB (hT:W told){n:Int}(s:Sat h S): Call ⟨Tryz.prog,told⟩ 59 [.ptr p 0,.ptr q 0,.int .i64 n] h fun v h' =>
  (¬(1≤n∧n≤1024)∧v=.bE [.cK,.int .i64 1]∧Sat h' S)∨(1≤n∧n≤1024∧∃r,v=.bE [.ptr r 0,.int .i64 0]∧Sat h' (cj r p q (Pl.fresh n.toNat)::S)):=by
 refine Call.of_wp (hT.free _ rfl) Tryz.func59 rfl rfl (zK 9 rfl ?_)
 refine zd rfl (ah rfl rfl bB) ?_ ?_
 ·intro J
  have J:n<1:=by simpa using J
  exact zk 11 rfl (WP.ret ⟨aa,_,rfl,.inl ⟨fun q=>by omega,rfl,s⟩⟩)
 ·intro J
  have J:1≤n:=by simp at J; omega
  refine zk 2 rfl ?_
  refine zd rfl (ah rfl rfl ep) ?_ ?_
  ·intro I
   have I:1024<n:=by simpa using I
   exact zk 8 rfl (WP.ret ⟨aa,_,rfl,.inl ⟨fun q=>by omega,rfl,s⟩⟩)
  ·intro I
   have I:n≤1024:=by simp at I; omega
   obtain ⟨n,rfl⟩:∃k:Nat,n=k:=⟨n.toNat,by omega⟩
   refine zk 9 rfl ?_
   obtain ⟨i1,U,kf,sR⟩:=Ue
   obtain ⟨id,h1,e1,s1⟩:=zJ (P:=Tryz.prog) s zZ U Yn kf (by omega) rfl (by decide) (n:=n) (by omega)
   refine aB.any rfl rfl rfl (OpR.of (R:=fun v h'=>v=.sl id 0 n (.exact n)∧h'=h1) (rY rfl rfl e1) ⟨rfl,rfl⟩) ?_
   rintro v h ⟨rfl,rfl⟩
   have s:Sat h (e_ id (List.replicate n Di)::S):=kA.2 ⟨_,by rw [fE]; exact ((s1.gB (φ:=True) aa).fY fun a b _=>QN n).ae [1]⟩
   refine aB.zB s rfl rfl rfl rfl (fun p20 h s => ?_)
   refine aB.zB s rfl rfl rfl rfl (fun Wx h s => ?_)
   refine zo rfl (c8 rfl (by rw [Yi]; rfl)) ?_
   refine aB.cT s rfl rfl rfl (gL rfl rfl) (fun ZO h s => ?_)
   refine zk 7 rfl (zf rfl (lB _ _) (zl rfl (s.ld (k:=0) rfl oU rfl) (zo rfl (bf rfl rfl rfl (p_ rfl zZ)) (zk 2 rfl (WP.block ?_)))))
   have s:=uH (f:=fun v (x:Nat×Bool)=>.pu (v=.agg [.int .u64 (x.1:Int),.bool x.2])) (s.ae [1])
   have s:=uH (f:=fun v (x:Int)=>.pu (v=.int .i64 x)) (s.ae [2])
   have s:=s.ae [2,2,0,0]
   refine Ow (n:=n) (by omega) n 0 _ _ _ _ (by omega) rfl s ⟨rfl,rfl,rfl,aa⟩ (fun E' h' iH s' => ?_)
   refine WP.has iH (zK 6 rfl (WP.ret ⟨aa,_,rfl,?_⟩))
   refine .inr ⟨J,I,_,rfl,(dn (π:=Pl.fresh n)).2 ⟨id,.map p20,.map Wx,?_⟩⟩
   have e6:(Pl.fresh n).ak.length=n:=by simp [Pl.fresh]
   rw [e6]
   exact s'
end
theorem Oy {c:Nat}: ∀ {l:bX} {b:Nat},fc c b l→bornUp c b (l.map eB)=true:=by
 intro l
 induction l with
 | nil=>intro b _; rfl
 | cons e l I =>
  intro b h
  obtain ⟨J,U,h3⟩:=h
  simp only [bI,eB,bornUp]
  rw [show (Nat.ble b e.2.2&&Nat.blt e.2.2 c)=true by rw [aZ,aQ]; exact ⟨J,by rw [Nat.blt]; exact aQ.2 U⟩,ag]
  exact I h3
theorem Mb : ∀ {l:bX},(∀e∈l,(Lit.int .i64 e.1).wf=true)→keyInts (l.map eB)=some (l.map (·.1)):=by
 intro l
 induction l with
 | nil=>intro _; rfl
 | cons e l I =>
  intro h
  simp only [bI,eB,keyInts]
  rw [h e br,ag]
  have:=I (fun e he=>h e (bp _ he))
  rw [this]
theorem Jq {x:Int}: ∀ {l:List Int},l.Pairwise (· < ·)→x∉l→(insI x l).Pairwise (· < ·):=by
 intro l
 induction l with
 | nil=>intro _ _; simp [insI]
 | cons y l ih =>
  intro h U
  simp only [pG,fo,pP] at h U
  simp only [insI]
  by_cases J:x≤y
  ·rw [dQ J,ag]
   have:x<y:=by omega
   simp only [pG,fo]
   refine ⟨fun z I => ?_,h⟩
   rcases I with rfl | I
   ·exact this
   ·have:=h.1 z I; omega
  ·rw [ew J,ay]
   simp only [pG]
   refine ⟨fun z I => ?_,ih h.2 U.2⟩
   have:=(zR x l).mem_iff.1 I
   rcases List.mem_cons.1 this with rfl | I
   ·omega
   ·exact h.1 z I
theorem Jr : ∀ {l:List Int},l.Nodup→(ni l).Pairwise (· < ·):=by
 intro l
 induction l with
 | nil=>intro _; exact List.Pairwise.nil
 | cons x l I =>
  intro h
  simp only [mq] at h
  exact Jq (I h.2) (fun J=>h.1 ((eG l).mem_iff.1 J))
theorem QO : ∀ {l:List Int},l.Pairwise (· < ·)→sx l=true:=by
 intro l
 induction l with
 | nil=>intro _; rfl
 | cons x l I =>
  intro h
  simp only [pG] at h
  simp only [sx,aZ,pK,dZ]
  exact ⟨h.1,I h.2⟩
section
variable {α:Type} {f:V→α→ax} {told:dM} {h:H} {S:List ax} {mv:V} {m:List (Int×α)} {b g:Nat}
theorem QS (I:W told){id:Nat}(s:Sat h S): Call ⟨Tryz.prog,told⟩ 73 [.map id] h fun v h'=>∃b,v=.fn (.func 117) [] [.ptr b 0]∧Sat h' (pt b (.cells 1 [.map id] false)::S):=by
 refine Call.of_wp (I.free _ rfl) Tryz.func73 rfl rfl (zg rfl ?_)
 refine aB.cT s rfl rfl rfl (gL rfl rfl) (fun J h s => ?_)
 exact zk 4 rfl (zo rfl (A2 rfl rfl) (zk 2 rfl (WP.ret ⟨aa,_,rfl,_,rfl,s⟩)))
theorem QT (I:W told){id:Nat}(s:Sat h S): Call ⟨Tryz.prog,told⟩ 109 [.map id] h fun v h'=>∃b,v=.fn (.func 133) [] [.ptr b 0]∧Sat h' (pt b (.cells 1 [.map id] false)::S):=by
 refine Call.of_wp (I.free _ rfl) Tryz.func109 rfl rfl (zg rfl ?_)
 refine aB.cT s rfl rfl rfl (gL rfl rfl) (fun J h s => ?_)
 exact zk 4 rfl (zo rfl (A2 rfl rfl) (zk 2 rfl (WP.ret ⟨aa,_,rfl,_,rfl,s⟩)))
def aF (m:List (Int×α)): List Int:=ni (m.map (·.1))
theorem gh {m:List (Int×α)}{n:Int}: n∈aF m↔n∈m.map (·.1):=(eG _).mem_iff
theorem QU (l:List Int): (eT l).all storable=true:=by simp [eT,storable]
theorem qf (hT:W told)(s:Sat h (pt b (.cells 1 [mv] false)::jg f mv m::S))(hg:wW A8 g=true)(hm:m.length≤1048576)(hk:∀n∈m.map (·.1),(Lit.int .i64 n).wf=true):
  Call ⟨Tryz.prog,told⟩ 50 [.fn (.func g) [] [.ptr b 0]] h fun v h'=>Sat h' (.arr 1 v (eT (aF m))::pt b (.cells 1 [mv] false)::jg f mv m::S):=by
 obtain ⟨id,l,c,rfl,hb,hn,s1⟩:=eF.1 (s.ae [1])
 have s1:Sat h (fG id l c::eD f l m::pt b (.cells 1 [.map id] false)::S):=s1
 obtain ⟨q1,q2,q3,q4,q5⟩:=s1.at (k:=1) rfl
 have I:=th q5
 have hlen:l.length=m.length:=by have:=iZ List.length I; simpa using this
 have U:=s1.row (k:=0) rfl
 have aaS:=s1.row (k:=2) rfl
 have mV:∀e∈l,(Lit.int .i64 e.1).wf=true:=fun e he=>hk e.1 (by rw [←I]; exact iV he)
 have yy:sx (ni (l.map (·.1)))=true:=QO (Jr (by rw [I]; exact hn))
 have J:∃v h',toldSorted A8 [.fn (.func g) [] [.ptr b 0]] h=some (v,h')∧Sat h' (.arr 1 v (eT (aF m))::pt b (.cells 1 [.map id] false)::jg f (.map id) m::S):=by
  simp only [toldSorted,aaS,U,eu,hg,Oy hb,Mb mV,yy]
  rw [show (Nat.beq 1 1&&true&&true&&Nat.ble l.length 1048576)=true by rw [aQ.2 (by omega)]; rfl,ag]
  simp only [ag]
  cases hl:l.map (·.1) with
  | nil =>
   refine ⟨_,_,rfl,?_⟩
   have:aF m=[]:=by rw [aF,←I,hl]; rfl
   rw [this]
   exact s.qC
  | cons x xs =>
   refine ⟨_,_,rfl,?_⟩
   have e1:aF m=ni (x::xs):=by rw [aF,←I,hl]
   have e2:(ni (x::xs)).length=(x::xs).length:=(eG _).length_eq
   have e3:(x::xs).length=l.length:=by rw [←hl,eu]
   rw [e1,←e3]
   refine (s.new (.cells (eT (ni (x::xs))).length (eT (ni (x::xs))) false)).fY fun a r NZ=>⟨QU _,.inr ⟨h.next,(x::xs).length,.rest 1 0,(eT (ni (x::xs))).length,[],rfl,?_,?_,by simp,rfl,rfl,rfl,rfl,by simp⟩⟩
   ·rw [bF]; exact NZ
   ·simp only [eT,eu,e2,dW]
 obtain ⟨v,h',e1,e2⟩:=J
 exact ⟨v,h',hO.told hT.sorted Tryz.func50 rfl e1,e2⟩
end
end Go.Proofs.YtconhghphklfjaaGreat.Am
