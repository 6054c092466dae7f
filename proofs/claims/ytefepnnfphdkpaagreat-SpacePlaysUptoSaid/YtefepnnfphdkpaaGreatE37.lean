/- SpacePlays: a part of its proof; conditions: its statement's. -/
import Derived.Test.YtefepnnfphdkpaaGreatE36
import Derived.Test.YtefepnnfphdkpaaGreatE33
import Derived.Test.YtefepnnfphdkpaaGreatE30
set_option linter.defProp false
namespace Go.Proofs.YtefepnnfphdkpaaGreat.Am
open Go
def yz:=@Tryz.underlying61
theorem wW.set {R:List Nat}{Rt:List V}{k w:Nat}(h:wW R Rt)(hR:R.length=64)(hk:k<16)(hw:w<4294967296): wW (wF R k w) (Rt.set k (.int .i64 (w:Int))):=by
 have hl:=h.len
 refine ⟨by rw [bJ]; exact hl,?_,fun i hi => ?_⟩
 ·have:=h.st
  rw [m9] at this ⊢
  intro x J
  rcases kV J with J | rfl
  ·exact this x J
  ·rfl
 ·rw [SI hR hk hw]
  by_cases I:i=k
  ·subst I; rw [fu (by omega),aq rfl]
  ·rw [eO (by omega),ah I]; exact h.val i hi
section
variable {told:cZ} {h:H} {S:List au} {N B g a p q r aO p4 p5 p6:Nat} {v w uv:V} {Rt ds I6:List V} {U:List Bool} {R M data:List Nat} {ε:aE} {now:List (Int×List Nat)} {Q:Ex→List (Nat×V)→H→Prop} {x y z:Int}
noncomputable def spF : Code:=cV [1,1,0,1,0,1,1,1,0] ((Tryz.f32.body).getD .skip)
theorem Ws (hT:W told)(hB:B≤2000)(fF:EI N B ε)(hw:NW N now)(hm:oJ N R M (dK now ε) Rt U)
 (s:Sat h (pt p4 (.cells 17 (uv::Rt) false)::pt p5 (.cells 3 [.int .i64 z,.int .i64 x,.int .i64 y] false)::pt p6 (.cells 17 I6 false)::.arr 1 uv (eo U)::GA g a p q r data aO now ε::S)){E:List (Nat×V)}(hE:Has E [(0,.ptr g 0),(4,.ptr p4 0),(5,.ptr p5 0),(6,.ptr p6 0)])(hq:Vn N B g a p q r aO p4 p5 p6 data [.int .i64 z,.int .i64 x,.int .i64 y] S ε now Q):
  WP ⟨Tryz.prog,told⟩ 158 spF E h Q:=by
 have qD:=hm.lH.n1
 have nM:=hm.lH.n2
 have uc:=hm.ul
 have j0:=hm.rt.len
 have GO:=s.lD (j:=3) rfl
 have gq:=o9 hm.rt GO.2.1
 refine WP.has hE (zK 3 rfl (zf rfl (gG _ _) (zl rfl (s.ld (k:=1) rfl cA rfl) (zc rfl (MY (i:=x) hT hB fF hw hm.lH (s.ae [4])) ?_))))
 rintro v h ⟨j4,I,J,eF,oh,DP,s,Vo⟩
 have s:=s.ae [1,1,1,1,0]
 have hlen:=s.eY (P:=Tryz.prog) (n:=N) (j:=3) rfl (by rw [iy,cx,uc]) (by decide) gd
 have s0:=s
 rcases Vo with ⟨A6,rfl,rfl⟩ | ⟨h2,hN,qY,rfl,pF,BT⟩
 ·have s:=s0
  have oT:oJ N R M (dK I j4) Rt U:=⟨by rw [gJ eF]; exact hm.lH,hm.rt,hm.ul,hm.us⟩
  refine zk 4 rfl ?_
  by_cases h1:x<2
  ·skip
   refine WP.drawn [some (0,2),some (0,2),ai,ai,ai,ai,ai,ai,ai,ai,ai,ai,ai,ai,ai,ai,ai,ai,ai,ai,ai,ai,ai,ai] rfl (by kernel_rfl) (by kernel_rfl) ?_
   refine zF rfl (gG _ _) (zL rfl (s.ld (k:=1) rfl cA rfl) (zF rfl (d_ _ _) (zL rfl (s.ld (k:=0) rfl iC rfl) (zO rfl (aT rfl rfl rfl hlen) (aA.any rfl rfl rfl rfl (OpR.call rfl rfl rfl rfl (oI hT (n:=N) (by omega) (by omega))) ?_)))))
   rintro v h' ⟨rfl,rfl⟩
   refine aA.qV rfl rfl rfl rfl (af rfl rfl aK) (by simp; omega) ?_
   refine zM rfl (aA.no (e:=false) rfl rfl rfl rfl (aA.no (e:=false) rfl rfl rfl rfl (aA.no (e:=false) rfl rfl rfl rfl (aA.no (e:=false) rfl rfl rfl rfl (aA.no (e:=false) rfl rfl rfl rfl (aA.no (e:=false) rfl rfl rfl rfl (zO rfl (ir rfl rfl) (zM rfl (aA.no (e:=false) rfl rfl rfl rfl (aA.no (e:=false) rfl rfl rfl rfl (aA.no (e:=false) rfl rfl rfl rfl (aA.no (e:=false) rfl rfl rfl rfl (aA.no (e:=false) rfl rfl rfl rfl (aA.no (e:=false) rfl rfl rfl rfl (aA.no (e:=false) rfl rfl rfl rfl (zO rfl (ir rfl rfl) ?_))))))))))))))))
   refine aA.nil ⟨⟨fun _ _=>.inr ⟨rfl,⟨_,jS rfl (gG _ _)⟩,aS _ rfl⟩,dB (.inr ⟨rfl,⟨_,aR rfl (s0.ld (k:=1) rfl cA rfl)⟩,aS _ rfl⟩) (.inr ⟨rfl,⟨_,aR rfl (s0.ld (k:=1) rfl cA rfl)⟩,aS _ rfl⟩),aa,aa,aa,aa,aa,aa,aa,aa,aa,aa,aa,aa,aa,aa,aa,aa,aa,aa,aa,aa,aa,aa,aa⟩,?_⟩
   refine zK 3 rfl (zl rfl (s.bZ (k:=0) rfl fV dm) (zm rfl (zt rfl (af rfl rfl dh) (by decide) ?_)))
   refine zS rfl (s.eZ (j:=2) rfl dm (by rw [aH,j0]) gq) ?_
   rintro h s
   exact zk 2 rfl (WP.ret (hq uv Rt U j4 I R M _ _ J eF oh (by omega) oT rfl rfl s))
  ·by_cases h3:(N:Int)≤x
   ·skip
    refine WP.drawn [some (0,2),some (0,2),ai,ai,ai,ai,ai,ai,ai,ai,ai,ai,ai,ai,ai,ai,ai,ai,ai,ai,ai,ai,ai,ai] rfl (by kernel_rfl) (by kernel_rfl) ?_
    refine zF rfl (gG _ _) (zL rfl (s.ld (k:=1) rfl cA rfl) (zF rfl (d_ _ _) (zL rfl (s.ld (k:=0) rfl iC rfl) (zO rfl (aT rfl rfl rfl hlen) (aA.any rfl rfl rfl rfl (OpR.call rfl rfl rfl rfl (oI hT (n:=N) (by omega) (by omega))) ?_)))))
    rintro v h' ⟨rfl,rfl⟩
    refine aA.lK rfl rfl rfl rfl (af rfl rfl aK) (by simp; omega) ?_
    refine zM rfl (zF rfl (gG _ _) (zL rfl (s.ld (k:=1) rfl cA rfl) (zF rfl (d_ _ _) (zL rfl (s.ld (k:=0) rfl iC rfl) (zO rfl (aT rfl rfl rfl hlen) (aA.qV rfl rfl rfl rfl (af rfl rfl jq) (by simp; omega) ?_))))))
    refine zO rfl (fU rfl rfl) (zM rfl (aA.no (e:=false) rfl rfl rfl rfl (aA.no (e:=false) rfl rfl rfl rfl (aA.no (e:=false) rfl rfl rfl rfl (aA.no (e:=false) rfl rfl rfl rfl (aA.no (e:=false) rfl rfl rfl rfl (aA.no (e:=false) rfl rfl rfl rfl (aA.no (e:=false) rfl rfl rfl rfl (zO rfl (ir rfl rfl) ?_)))))))))
    refine aA.nil ⟨⟨fun _ _=>.inr ⟨rfl,⟨_,jS rfl (gG _ _)⟩,aS _ rfl⟩,dB (.inr ⟨rfl,⟨_,aR rfl (s0.ld (k:=1) rfl cA rfl)⟩,aS _ rfl⟩) (.inr ⟨rfl,⟨_,aR rfl (s0.ld (k:=1) rfl cA rfl)⟩,aS _ rfl⟩),aa,aa,aa,aa,aa,aa,aa,aa,aa,aa,aa,aa,aa,aa,aa,aa,aa,aa,aa,aa,aa,aa,aa⟩,?_⟩
    refine zK 3 rfl (zl rfl (s.bZ (k:=0) rfl fV dm) (zm rfl (zt rfl (af rfl rfl dh) (by decide) ?_)))
    refine zS rfl (s.eZ (j:=2) rfl dm (by rw [aH,j0]) gq) ?_
    rintro h s
    exact zk 2 rfl (WP.ret (hq uv Rt U j4 I R M _ _ J eF oh (by omega) oT rfl rfl s))
   ·obtain ⟨k,rfl⟩:∃k:Nat,x=k:=⟨x.toNat,by omega⟩
    obtain ⟨id,off,e1,e2⟩:=fY (P:=Tryz.prog) s (k:=3) (i:=k) rfl (vB (U:=U) (i:=k) (by omega)) gd oS
    have hbf:bt M k=false:=by
     cases hq:bt M k with
     | false=>rfl
     | true=>exact absurd ⟨by omega,by omega,by rw [bP]; exact hq⟩ A6
    rw [hm.us k (by omega),hbf] at e2
    refine WP.drawn [some (0,2),some (0,2),ai,ai,ai,ai,ai,ai,ai,ai,ai,ai,ai,ai,ai,ai,ai,ai,ai,ai,ai,ai,ai,ai] rfl (by kernel_rfl) (by kernel_rfl) ?_
    refine zF rfl (gG _ _) (zL rfl (s.ld (k:=1) rfl cA rfl) (zF rfl (d_ _ _) (zL rfl (s.ld (k:=0) rfl iC rfl) (zO rfl (aT rfl rfl rfl hlen) (aA.any rfl rfl rfl rfl (OpR.call rfl rfl rfl rfl (oI hT (n:=N) (by omega) (by omega))) ?_)))))
    rintro v h' ⟨rfl,rfl⟩
    refine aA.lK rfl rfl rfl rfl (af rfl rfl aK) (by simp; omega) ?_
    refine zM rfl (zF rfl (gG _ _) (zL rfl (s.ld (k:=1) rfl cA rfl) (zF rfl (d_ _ _) (zL rfl (s.ld (k:=0) rfl iC rfl) (zO rfl (aT rfl rfl rfl hlen) (aA.lK rfl rfl rfl rfl (af rfl rfl jq) (by simp; omega) ?_))))))
    refine zO rfl (fU rfl rfl) (zM rfl (zF rfl (d_ _ _) (zL rfl (s.ld (k:=0) rfl iC rfl) (zF rfl (gG _ _) (zL rfl (s.ld (k:=1) rfl cA rfl) (zO rfl (cn (r:=.ptr id off) rfl rfl e1) (zL rfl (e2 _ kB) (zO rfl (cX rfl rfl) (zO rfl (fU rfl rfl) ?_)))))))))
    refine aA.nil ⟨⟨fun _ _=>.inr ⟨rfl,⟨_,jS rfl (gG _ _)⟩,aS _ rfl⟩,dB (.inr ⟨rfl,⟨_,aR rfl (s0.ld (k:=1) rfl cA rfl)⟩,aS _ rfl⟩) (.inr ⟨rfl,⟨_,aR rfl (s0.ld (k:=1) rfl cA rfl)⟩,aS _ rfl⟩),aa,aa,aa,aa,aa,aa,aa,aa,aa,aa,aa,aa,aa,aa,aa,aa,aa,aa,aa,aa,aa,aa,aa⟩,?_⟩
    refine zK 3 rfl (zl rfl (s.bZ (k:=0) rfl fV dm) (zm rfl (zt rfl (af rfl rfl dh) (by decide) ?_)))
    refine zS rfl (s.eZ (j:=2) rfl dm (by rw [aH,j0]) gq) ?_
    rintro h s
    exact zk 2 rfl (WP.ret (hq uv Rt U j4 I R M _ _ J eF oh (by omega) oT rfl rfl s))
 ·obtain ⟨k,rfl⟩:∃k:Nat,x=k:=⟨x.toNat,by omega⟩
  rw [bP] at qY pF
  obtain ⟨id,off,e1,e2⟩:=fY (P:=Tryz.prog) s (k:=3) (i:=k) rfl (vB (U:=U) (i:=k) (by omega)) gd oS
  rw [hm.us k (by omega),qY] at e2
  obtain ⟨qx,PF,Fa,e3,e4,s2⟩:=rF (P:=Tryz.prog) (x:=.bool false) (i:=k) (s.ae [3]) (by rw [iy]; omega) rfl rfl gd oS
  rw [vx] at s2
  refine zk 4 rfl (WP.drawn [some (0,2),some (0,2),ai,ai,ai,ai,ai,ai,ai,ai,ai,ai,ai,ai,ai,ai,ai,ai,ai,ai,ai,ai,ai,ai] rfl (by kernel_rfl) (by kernel_rfl) ?_)
  refine zF rfl (gG _ _) (zL rfl (s.ld (k:=1) rfl cA rfl) (zF rfl (d_ _ _) (zL rfl (s.ld (k:=0) rfl iC rfl) (zO rfl (aT rfl rfl rfl hlen) (aA.any rfl rfl rfl rfl (OpR.call rfl rfl rfl rfl (oI hT (n:=N) (by omega) (by omega))) ?_)))))
  rintro v h' ⟨rfl,rfl⟩
  refine aA.lK rfl rfl rfl rfl (af rfl rfl aK) (by simp; omega) ?_
  refine zM rfl (zF rfl (gG _ _) (zL rfl (s.ld (k:=1) rfl cA rfl) (zF rfl (d_ _ _) (zL rfl (s.ld (k:=0) rfl iC rfl) (zO rfl (aT rfl rfl rfl hlen) (aA.lK rfl rfl rfl rfl (af rfl rfl jq) (by simp; omega) ?_))))))
  refine zO rfl (fU rfl rfl) (zM rfl (zF rfl (d_ _ _) (zL rfl (s.ld (k:=0) rfl iC rfl) (zF rfl (gG _ _) (zL rfl (s.ld (k:=1) rfl cA rfl) (zO rfl (cn (r:=.ptr id off) rfl rfl e1) (zL rfl (e2 _ kB) (zO rfl (cX rfl rfl) (zO rfl (fU rfl rfl) ?_)))))))))
  refine aA.nil ⟨⟨fun _ _=>.inr ⟨rfl,⟨_,jS rfl (gG _ _)⟩,aS _ rfl⟩,dB (.inr ⟨rfl,⟨_,aR rfl (s0.ld (k:=1) rfl cA rfl)⟩,aS _ rfl⟩) (.inr ⟨rfl,⟨_,aR rfl (s0.ld (k:=1) rfl cA rfl)⟩,aS _ rfl⟩),aa,aa,aa,aa,aa,aa,aa,aa,aa,aa,aa,aa,aa,aa,aa,aa,aa,aa,aa,aa,aa,aa,aa⟩,?_⟩
  refine zK 4 rfl (zf rfl (d_ _ _) (zl rfl (s.ld (k:=0) rfl iC rfl) (zf rfl (gG _ _) (zl rfl (s.ld (k:=1) rfl cA rfl) (zo rfl (cn (r:=.ptr qx PF) rfl rfl e3) (zS rfl (⟨Fa,e4,s2⟩) ?_))))))
  rintro h s
  have s:=s.ae [1,1,1,0,0]
  refine zk 3 rfl (zl rfl (s.bZ (k:=0) rfl fV dm) (zm rfl (zt rfl (af rfl rfl dh) (by decide) ?_)))
  refine zS rfl (s.eZ (j:=2) rfl dm (by rw [aH,j0]) gq) ?_
  rintro h s
  refine zk 2 rfl (WP.ret ?_)
  refine hq uv Rt (U.set k false) j4 I R (D3 M k) _ _ J eF oh (by omega) ⟨pF,hm.rt,by rw [bJ]; exact hm.ul,fun i hi => ?_⟩ rfl rfl s
  rw [QS (by have:=hm.lH.ml; omega),dL]
  by_cases tW:i=k
  ·subst tW; rw [fu (by omega),aq rfl]; rfl
  ·rw [eO (by omega),ah tW,←hm.us i hi,dL]
end
section
variable {told:cZ} {h:H} {S:List au} {N B g a p q r aO p4 p5 p6:Nat} {v w uv:V} {Rt ds I6:List V} {U:List Bool} {R M data:List Nat} {ε:aE} {now:List (Int×List Nat)} {Q:Ex→List (Nat×V)→H→Prop} {x y z:Int}
noncomputable def spR : Code:=cV [1,1,1] ((Tryz.f32.body).getD .skip)
theorem Wt (hT:W told)(hB:B≤2000)(fF:EI N B ε)(hw:NW N now)(hm:oJ N R M (dK now ε) Rt U)
 (s:Sat h (pt p4 (.cells 17 (uv::Rt) false)::pt p5 (.cells 3 [.int .i64 z,.int .i64 x,.int .i64 y] false)::pt p6 (.cells 17 I6 false)::.arr 1 uv (eo U)::GA g a p q r data aO now ε::S)){E:List (Nat×V)}(hE:Has E [(0,.ptr g 0),(4,.ptr p4 0),(5,.ptr p5 0),(6,.ptr p6 0)])(hq:Vn N B g a p q r aO p4 p5 p6 data [.int .i64 z,.int .i64 x,.int .i64 y] S ε now Q):
  WP ⟨Tryz.prog,told⟩ 158 spR E h Q:=by
 have qD:=hm.lH.n1
 have nM:=hm.lH.n2
 have uc:=hm.ul
 have j0:=hm.rt.len
 have GO:=s.lD (j:=3) rfl
 have gq:=o9 hm.rt GO.2.1
 refine WP.has hE (zK 3 rfl (zf rfl (gG _ _) (zl rfl (s.ld (k:=1) rfl cA rfl) (zf rfl (vp _ _) (zl rfl (s.ld (k:=1) rfl cA rfl) (zc rfl (KB (i:=x) (z:=y) hT hB fF hw hm.lH (s.ae [4])) ?_))))))
 rintro v h ⟨j4,I,J,eF,oh,DP,s,Vo⟩
 have s:=s.ae [1,1,1,1,0]
 have hlen:=s.eY (P:=Tryz.prog) (n:=N) (j:=3) rfl (by rw [iy,cx,uc]) (by decide) gd
 have s0:=s
 rcases Vo with ⟨A6,rfl,rfl⟩ | ⟨XA,Fc,hy0,U5,rfl,pF,BT⟩
 ·have s:=s0
  have oT:oJ N R M (dK I j4) Rt U:=⟨by rw [gJ eF]; exact hm.lH,hm.rt,hm.ul,hm.us⟩
  refine zk 5 rfl (zf rfl (gG _ _) (zl rfl (s.ld (k:=1) rfl cA rfl) ?_))
  by_cases h1:x<0
  ·skip
   refine zt rfl (af rfl rfl aK) (by simp; omega) ?_
   refine zk 22 rfl (zl rfl (s.bZ (k:=0) rfl fV dm) (zm rfl (zt rfl (af rfl rfl dh) (by decide) ?_)))
   refine zS rfl (s.eZ (j:=2) rfl dm (by rw [aH,j0]) gq) ?_
   rintro h s
   exact zk 2 rfl (WP.ret (hq uv Rt U j4 I R M _ _ J eF oh (by omega) oT rfl rfl s))
  ·skip
   refine zh rfl (af rfl rfl aK) (by simp; omega) ?_
   refine zm rfl (zf rfl (gG _ _) (zl rfl (s.ld (k:=1) rfl cA rfl) ?_))
   by_cases h2:15<x
   ·skip
    refine zt rfl (af rfl rfl er) (by simp; omega) ?_
    refine zk 18 rfl (zl rfl (s.bZ (k:=0) rfl fV dm) (zm rfl (zt rfl (af rfl rfl dh) (by decide) ?_)))
    refine zS rfl (s.eZ (j:=2) rfl dm (by rw [aH,j0]) gq) ?_
    rintro h s
    exact zk 2 rfl (WP.ret (hq uv Rt U j4 I R M _ _ J eF oh (by omega) oT rfl rfl s))
   ·skip
    refine zh rfl (af rfl rfl er) (by simp; omega) ?_
    refine zk 2 rfl (zf rfl (vp _ _) (zl rfl (s.ld (k:=1) rfl cA rfl) ?_))
    by_cases h3:y<0
    ·skip
     refine zt rfl (af rfl rfl aK) (by simp; omega) ?_
     refine zk 13 rfl (zl rfl (s.bZ (k:=0) rfl fV dm) (zm rfl (zt rfl (af rfl rfl dh) (by decide) ?_)))
     refine zS rfl (s.eZ (j:=2) rfl dm (by rw [aH,j0]) gq) ?_
     rintro h s
     exact zk 2 rfl (WP.ret (hq uv Rt U j4 I R M _ _ J eF oh (by omega) oT rfl rfl s))
    ·skip
     refine zh rfl (af rfl rfl aK) (by simp; omega) ?_
     refine zk 2 rfl (zf rfl (vp _ _) (zl rfl (s.ld (k:=1) rfl cA rfl) (zf rfl (d_ _ _) (zl rfl (s.ld (k:=0) rfl iC rfl) (zo rfl (aT rfl rfl rfl hlen) (zt rfl (af rfl rfl jq) (by simp; omega) ?_))))))
     refine zk 5 rfl (zl rfl (s.bZ (k:=0) rfl fV dm) (zm rfl (zt rfl (af rfl rfl dh) (by decide) ?_)))
     refine zS rfl (s.eZ (j:=2) rfl dm (by rw [aH,j0]) gq) ?_
     rintro h s
     exact zk 2 rfl (WP.ret (hq uv Rt U j4 I R M _ _ J eF oh (by omega) oT rfl rfl s))
 ·obtain ⟨k,rfl⟩:∃k:Nat,x=k:=⟨x.toNat,by omega⟩
  obtain ⟨n,rfl⟩:∃n:Nat,y=n:=⟨y.toNat,by omega⟩
  rw [bP,bP] at pF
  have PI:=hm.rt.set (k:=k) (w:=n) hm.lH.rl (by omega) (by omega)
  have YU:=o9 PI GO.2.1
  have YV:=PI.len
  refine zk 5 rfl (zf rfl (gG _ _) (zl rfl (s.ld (k:=1) rfl cA rfl) (zh rfl (af rfl rfl aK) (decide_eq_false (by omega)) ?_)))
  refine zm rfl (zf rfl (gG _ _) (zl rfl (s.ld (k:=1) rfl cA rfl) (zh rfl (af rfl rfl er) (decide_eq_false (by omega)) ?_)))
  refine zk 2 rfl (zf rfl (vp _ _) (zl rfl (s.ld (k:=1) rfl cA rfl) (zh rfl (af rfl rfl aK) (decide_eq_false (by omega)) ?_)))
  refine zk 2 rfl (zf rfl (vp _ _) (zl rfl (s.ld (k:=1) rfl cA rfl) (zf rfl (d_ _ _) (zl rfl (s.ld (k:=0) rfl iC rfl) (zo rfl (aT rfl rfl rfl hlen) (zh rfl (af rfl rfl jq) (by simp; omega) ?_))))))
  refine zk 6 rfl (zf rfl (gG _ _) (zl rfl (s.ld (k:=1) rfl cA rfl) (zf rfl (vp _ _) (zl rfl (s.ld (k:=1) rfl cA rfl) (zf rfl (LH _ _) (zo rfl (cn (r:=.ptr p4 (0+1+k)) rfl rfl (by rw [Ub,show (decide (0≤(k:Int))&&decide ((k:Int)<((16:Nat):Int)))=true by simp; omega,ag]; simp)) ?_))))))
  refine zS rfl (s.gO (k:=0) (off:=0+1+k) (v:=.int .i64 (n:Int)) rfl kA (by rw [aH,j0]) (by omega) rfl rfl) ?_
  rintro h s
  have e17:(uv::Rt).set (0+1+k) (.int .i64 (n:Int))=uv::Rt.set k (.int .i64 (n:Int)):=by rw [show 0+1+k=k+1 by omega,yK]
  rw [e17] at s
  refine zk 3 rfl (zl rfl (s.bZ (k:=0) rfl fV dm) (zm rfl (zt rfl (af rfl rfl dh) (by decide) ?_)))
  refine zS rfl (s.eZ (j:=2) rfl dm (by rw [aH,YV]) YU) ?_
  rintro h s
  exact zk 2 rfl (WP.ret (hq uv _ U j4 I (wF R k n) M _ _ J eF oh (by omega) ⟨pF,PI,hm.ul,hm.us⟩ rfl rfl s))
theorem SP (hT:W told)(hB:B≤2000)(fF:EI N B ε)(hw:NW N now)(hm:oJ N R M (dK now ε) Rt U)(hu:storable uv=true)(s:Sat h (jx uv (eo U)::GA g a p q r data aO now ε::S)):
  Call ⟨Tryz.prog,told⟩ 32 [.ptr g 0,.agg (uv::Rt),.agg [.int .i64 z,.int .i64 x,.int .i64 y]] h fun v h'=>∃I J U' ε' bS R' M',v=.aY [.agg (I::J),.bool true]∧EI N B ε'∧Sm N ε ε'∧NW N bS∧bS.length≤now.length+2∧oJ N R' M' (dK bS ε') J U'∧storable I=true∧I.beq I=true ∧
   Sat h' (jx I (eo U')::GA g a p q r data aO bS ε'::S):=by
 have qD:=hm.lH.n1
 have nM:=hm.lH.n2
 have uc:=hm.ul
 have j0:=hm.rt.len
 have gq:=o9 hm.rt hu
 refine Call.of_wp (hT.free _ rfl) Tryz.func32 rfl rfl (zg rfl (az.cz s rfl rfl rfl (fc rfl gq) ?_))
 intro p4 h s
 dsimp only [V.cells,List.length_cons] at s
 rw [j0] at s
 have s:Sat h (pt p4 (.cells 17 (uv::Rt) false)::_):=s
 refine az.cz s rfl rfl rfl (fc rfl rfl) (fun p5 h s => ?_)
 dsimp only [Nat.reduceAdd,V.cells,List.length_cons,List.length_nil] at s
 refine az.cz s rfl rfl rfl (cy AJ) (fun p6 h s => ?_)
 dsimp only [V.cells,List.length_cons,List.length_nil,Nat.reduceAdd] at s
 refine zk 4 rfl (zl rfl (s.bZ (k:=2) rfl fV dm) (zc rfl (KE hT gq j0 (by omega) (by omega) (s.ae [3])) ?_))
 rintro v h ⟨wv,rfl,s⟩
 have QY:=s.lD (j:=0) rfl
 have sV:=o9 hm.rt QY.2.1
 have s:=s.ae [4]
 dsimp only [bf,bringA,getA] at s
 refine zS rfl (s.eZ (j:=0) rfl dm (by rw [aH,j0]) sV) ?_
 rintro h s
 dsimp only [setA] at s
 have s:=s.ae [0,3,2,0,1]
 dsimp only [bringA,getA,bf] at s
 have done:∀ {I:V} {J:List V} {U':List Bool} {ε':aE} {bS:List (Int×List Nat)} {R' M':List Nat} {h':H},EI N B ε'→Sm N ε ε'→NW N bS→bS.length≤now.length+2→oJ N R' M' (dK bS ε') J U' →
   Sat h' (pt p4 (.cells 17 (I::J) false)::pt p5 (.cells 3 [.int .i64 z,.int .i64 x,.int .i64 y] false)::pt p6 (.cells 17 (I::J) false)::.arr 1 I (eo U')::GA g a p q r data aO bS ε'::jx uv (eo U)::S) →
   ∃u2 XR U2 lX Dm R2 M2,V.aY [.agg (I::J),.bool true]=.aY [.agg (u2::XR),.bool true]∧EI N B lX∧Sm N ε lX∧NW N Dm∧Dm.length≤now.length+2∧oJ N R2 M2 (dK Dm lX) XR U2∧storable u2=true∧u2.beq u2=true∧Sat h' (jx u2 (eo U2)::GA g a p q r data aO Dm lX::S):=fun {I J U' ε' bS R' M' h'} g1 g2 g3 g4 g5 s'=>by
  have hv:=s'.lD (j:=3) rfl
  have s2:=Ca (s'.ae [3]) (by rw [iy,g5.ul]; omega)
  exact ⟨I,J,U',ε',bS,R',M',rfl,g1,g2,g3,g4,g5,hv.2.1,hv.2.2,(((s2.ae [0,3]).del 5).del 4).del 3 |>.del 2⟩
 refine zk 4 rfl (zf rfl (vn _ _) (zl rfl (s.ld (k:=1) rfl cA rfl) (zv (WP.block (zK 3 rfl ?_)))))
 by_cases h0:z=0
 ·skip
  refine zt rfl (af rfl rfl dh) (by simp; omega) ?_
  refine zk 5 rfl ?_
  refine QX hT hB fF hw hm s ⟨rfl,rfl,rfl,rfl,aa⟩ (fun I J U' ε' bS R' M' E' h' g1 g2 g3 g4 g5 g6 g7 s' => ?_)
  exact ⟨aa,_,EF g6 (s'.bZ (k:=2) rfl fV dm) g7,done g1 g2 g3 g4 g5 s'⟩
 ·skip
  refine zh rfl (af rfl rfl dh) (by simp; omega) ?_
  refine zk 4 rfl ?_
  by_cases h1:z=1
  ·skip
   refine zt rfl (af rfl rfl dh) (by simp; omega) ?_
   refine zk 3 rfl ?_
   refine QX hT hB fF hw hm s ⟨rfl,rfl,rfl,rfl,aa⟩ (fun I J U' ε' bS R' M' E' h' g1 g2 g3 g4 g5 g6 g7 s' => ?_)
   exact ⟨aa,_,EF g6 (s'.bZ (k:=2) rfl fV dm) g7,done g1 g2 g3 g4 g5 s'⟩
  ·skip
   refine zh rfl (af rfl rfl dh) (by simp; omega) ?_
   refine zk 5 rfl ?_
   by_cases h2:z=2
   ·skip
    refine zt rfl (af rfl rfl dh) (by simp; omega) ?_
    refine zk 3 rfl ?_
    refine Ws hT hB fF hw hm s ⟨rfl,rfl,rfl,rfl,aa⟩ (fun I J U' ε' bS R' M' E' h' g1 g2 g3 g4 g5 g6 g7 s' => ?_)
    exact ⟨aa,_,EF g6 (s'.bZ (k:=2) rfl fV dm) g7,done g1 g2 g3 g4 g5 s'⟩
   ·skip
    refine zh rfl (af rfl rfl dh) (by simp; omega) ?_
    refine za rfl (zv (zj rfl (WP.skip ?_)))
    refine Wt hT hB fF hw hm s ⟨rfl,rfl,rfl,rfl,aa⟩ (fun I J U' ε' bS R' M' E' h' g1 g2 g3 g4 g5 g6 g7 s' => ?_)
    exact ⟨aa,_,EF g6 (s'.bZ (k:=2) rfl fV dm) g7,done g1 g2 g3 g4 g5 s'⟩
end
theorem ga.wall {K M:Nat}: ∀ {l:List Int} {ε:aE},ga K M ε→ga K M (writeAllF l ε).2:=by
 intro l
 induction l with
 | nil=>intro ε I; exact I
 | cons n l ih =>
  intro ε I
  have J:ga K M (dS ε n).2:=by
   unfold dS
   split
   ·exact I
   ·rename_i i hi
    have h1:=(qi ε.2.2.log.length ε.2.2.room).out (ε:=ε) (i:=i.toNat) ⟨rfl,rfl⟩
    exact ⟨by rw [h1.1]; exact I.1,by rw [h1.2]; exact I.2⟩
  rw [writeAllF]
  split
  ·exact J
  ·exact ih J
theorem ga.Wu {K M:Nat}{π:Pl}{μ:Lg}{δ:Dk}(h:ga K M (π,(μ,δ)))(I:Pl): ga K M (I,(μ,δ.jE.2)):=by
 unfold Dk.jE
 split
 ·exact h
 ·split <;> exact h
theorem ga.Wv {K M:Nat}{ε:aE}(h:ga K M ε): ga K M ((eE ε.1 ε.2.2).2.1,(ε.2.1,(eE ε.1 ε.2.2).2.2)):=by
 unfold eE
 split <;> exact ga.Wu (μ:=ε.2.1) (π:=ε.1) h _
theorem ga.clean {K M:Nat}{ε:aE}(h:ga K M ε): ga K M (kH ε).2:=by
 unfold kH
 split
 ·exact h
 ·split
  ·exact h.wall
  ·exact (h.wall (l:=bw ε.1.aI)).Wv
theorem Nh {K M n:Nat}{π:Pl}{x:LD}(h:ga K M (π,x)): ga K M (π,(bH x n).2):=by
 have I:=(qi x.2.log.length x.2.room).force x n ⟨rfl,rfl⟩
 exact ⟨by show _≤_; rw [I.1]; exact h.1,by show _=_; rw [I.2]; exact h.2⟩
theorem Ni {K M n:Nat}{π:Pl}{x:LD}(h:ga K M (π,x)): ga K M (π,(gD x n).2):=by
 unfold gD
 split
 ·exact h
 ·unfold Dk.oZ
  split
  ·split <;> first | exact h | (split <;> first | exact h | (split <;> exact h))
  ·split <;> first | exact h | (split <;> first | exact h | (split <;> exact h))
theorem SQ {K M n:Nat}{π:Pl}{x:LD}(h:ga K M (π,x)): ga K M (π,(gw x n).2):=by
 have key:∀(z:Int) (b:List Nat),(x.2.lT z b).2.log.length≤K∧(x.2.lT z b).2.room=M:=fun z b=>by
  unfold Dk.lT
  split
  ·exact h
  ·split
   ·exact h
   ·split
    ·exact h
    ·refine ⟨?_,h.2⟩
     have I:x.2.log.length≤K:=h.1
     show (x.2.log.drop _).length≤K
     rw [rO]; omega
 unfold gw
 split
 ·exact h
 ·split
  ·exact key _ _
  ·exact key _ _
theorem uh : (0:Int)≠7:=by decide
theorem uj : (1:Int)≠7:=by decide
theorem um : (9:Int)≠7:=by decide
theorem Gh.fits {N B K M:Nat}{ε ε':aE}{dI I:List Nat}{aO lW:Nat}{e:Int}(hr:Gh ε 0 [] dI aO e ε' I lW)(J:EI N B ε)(hB:B≤1000)(hd:ga K M ε)(hf:K+64≤M): e=0∧ga (K+64) M ε':=by
 obtain ⟨_,_,h3⟩:=J.U8 hB hr
 have hw:=cJ 8 (i_ ε)
 have Ma:(cO ε.2.1 8 0 0 0 (le 8 (i_ ε)++[]) []).length≤64:=by
  have h1:=vA (n:=0) (by decide)
  have h2:=vA (n:=(le 8 (i_ ε)++[]).length) (by rw [gz,hw]; decide)
  have h4:=vA (n:=([]:List dG).length) (by decide)
  rw [cO,nR]
  simp only [eN,bU,aH,bM,Cn] at h2 h4 ⊢
  omega
 obtain ⟨hK,hM⟩:=hd
 have nD:(o8 ε []).1.2=0∧ga (K+64) M (ε.1,(o8 ε []).2):=by
  rcases lG ε.2 8 0 0 0 (le 8 (i_ ε)++[]) [] with ⟨e,he,tM,hq⟩ | ⟨_,Gj,hq⟩ | ⟨_,hb,sF,fS,Gj,hq⟩
  ·exfalso
   rcases tM with ⟨rfl,hg⟩ | ⟨_,hb⟩ | ⟨rfl,sF⟩ | ⟨rfl,hb⟩
   ·revert hg; decide
   ·rw [cO,nR] at Ma; omega
   ·rw [J.ec.dk.alive] at sF; cases sF
   ·omega
  ·have:=J.ec.dk.bj; omega
  ·unfold o8
   rw [hq]
   exact ⟨rfl,by show (ε.2.2.log++_).length≤_; rw [bU]; omega,hM⟩
 obtain ⟨h0,Nj⟩:=nD
 have XS:=Nh (n:=(o8 ε []).1.1) Nj
 have Vp:ga (K+64) M (ε.1,(fZ (o8 ε [])).2):=Ni (n:=(o8 ε []).1.1) XS
 cases hr with
 | UZ hb=>simp at hb
 | dead _ hd=>rw [J.ec.dk.alive] at hd; cases hd
 | go e y I lW hb hd hc =>
  have dz:e≠7→e=0:=fun h7=>by
   rcases h3 with ⟨_,hb,_⟩ | ⟨h3,_⟩ | ⟨h3,_⟩
   ·simp at hb
   ·exact absurd h3 h7
   ·exact h3
  cases hc with
  | app he=>exact absurd h0 he
  | force _ he =>
   refine ⟨dz ?_,XS⟩
   unfold kR bH
   split
   ·first | exact uh | exact uj | exact um
   ·split
    ·unfold Dk.gH
     split
     ·first | exact uh | exact uj | exact um
     ·split <;> first | exact uh | exact uj | exact um
    ·first | exact uh | exact uj | exact um
  | check _ _ he =>
   refine ⟨dz ?_,Vp⟩
   unfold fZ gD
   split
   ·first | exact uh | exact uj | exact um
   ·split
    ·unfold Dk.oZ
     split
     ·first | exact uh | exact uj | exact um
     ·split
      ·first | exact uh | exact uj | exact um
      ·split <;> first | exact uh | exact uj | exact um
    ·first | exact uh | exact uj | exact um
  | cut t _ _ _ _ _ _ =>
   refine ⟨dz ?_,SQ Vp⟩
   unfold gw
   split
   ·first | exact uh | exact uj | exact um
   ·split
    ·unfold Dk.lT
     split
     ·first | exact uh | exact uj | exact um
     ·split
      ·first | exact uh | exact uj | exact um
      ·split <;> first | exact uh | exact uj | exact um
    ·first | exact uh | exact uj | exact um
  | j5 _ _ _ _=>exact ⟨rfl,Vp⟩
structure D9 (told:cZ): Prop where
 w2:W2 told
 fmt:told 31=some (l8 Tryz.prog 31 (GI 31))
theorem D9.w {told:cZ}(h:D9 told): W told:=h.w2.w
theorem D9.ws {told:cZ}(h:D9 told): WS told:=⟨h.w2.w,h.fmt⟩
section
variable {told:cZ} {h:H} {S:List au} {N B K M a p q r aO:Nat} {data:List Nat} {ε:aE}
theorem Nk (hT:W2 told)(I:EI N B ε)(hB:B≤900)(hd:ga K M ε)(s:Sat h (SA a p q r .b7 data aO ε::S)):
  Call ⟨Tryz.prog,told⟩ 39 [.ptr a 0] h fun v h'=>v=.int .i64 0∧∃ε',EI N B ε'∧(∀m,0≤m→pgA ε' m=pgA ε m)∧ga K M ε'∧Sat h' (SA a p q r .b7 data aO ε'::S):=by
 have wq:=I.cr
 have QE:=qf (ε:=ε)
 have XG:=I.many
 obtain ⟨q1,q2⟩:=I.aI
 have s:=cq.1 s
 obtain ⟨w1,w2,w3⟩:=I.clean
 obtain ⟨v1,v2,v3⟩:=I.writeAll
 have J:∀n∈ε.1.aI.map (·.1),(Lit.int .i64 n).wf=true:=fun n hn=>wf_i64 (q1 n hn).1 (by have:=(q1 n hn).2; omega)
 refine (O8 hT s I.ok.ok (by omega) (by omega) J v2.ok.ok.dk (fun e he=>by rw [v2.ec.dk.aM]; exact v2.ec.dk.keys _ (m7 he))).mono ?_
 rintro v h ⟨rfl,s⟩
 rw [w1]
 exact ⟨rfl,_,w2,w3,hd.clean,cq.2 s⟩
theorem PJ (hT:W told)(I:EI N B ε)(hB:B≤900)(hd:ga K M ε)(hf:K+64≤M)(s:Sat h (SA a p q r .b7 data aO ε::S)):
  Call ⟨Tryz.prog,told⟩ 44 [.ptr a 0,.int .u64 0,.bu] h fun v h'=>v=.int .i64 0∧∃ε' J,EI N (B+1) ε'∧(∀m,pgA ε' m=pgA ε m)∧ga (K+64) M ε'∧Sat h' (SA a p q r .b7 [] J ε'::S):=by
 have XG:=I.many
 have fC:=I.el.size
 have aaG:=I.br
 have s:=cq.1 s
 have s:Sat h (dx a p q r .b7 data aO::cK r p q ε.1::bx q p ε.2.1::aL p ε.2.2::S):=s
 have s:=s.gr (φ:=True) aa
 refine (Si (lo:=0) (X:=pu True) hT (s.ae [1,1,1,1,0]) I2 I.ok.ok (by decide) (by omega) (fun n hn=>wf_i64 (I.ec.tB n hn).1 (by have:=(I.ec.tB n hn).2; omega)) I.el.log (by omega)).mono ?_
 rintro v h ⟨e,ε',wz,J,hr,rfl,s⟩
 obtain ⟨i1,i2,i3⟩:=I.U8 (by omega) hr
 obtain ⟨rfl,Nj⟩:=hr.fits I (by omega) hd hf
 have xp:wz=[]:=by
  rcases i3 with ⟨q,_⟩ | ⟨q,_⟩ | ⟨_,q⟩
  ·cases q
  ·cases q
  ·exact q
 subst xp
 have s:Sat h (dx a p q r .b7 [] J::cK r p q ε'.1::bx q p ε'.2.1::aL p ε'.2.2::pu True::S):=s
 have s2:Sat h (SA a p q r .b7 [] J ε'::pu True::S):=cq.2 s
 exact ⟨rfl,ε',J,i1,i2,Nj,s2.del 1⟩
end
theorem f_.KF {N:Nat}{R M:List Nat}{P I:Int→List Nat}(h:f_ N R M P)(J:I 0=P 0)(h1:I 1=P 1): f_ N R M I:=h.roots h1 (by rw [J]; exact h.head) h.rl
theorem oJ.KF {N:Nat}{R M:List Nat}{P I:Int→List Nat}{Rt:List V}{U:List Bool}(h:oJ N R M P Rt U)(J:I 0=P 0)(h1:I 1=P 1): oJ N R M I Rt U:=⟨h.lH.KF J h1,h.rt,h.ul,h.us⟩
def vC (L:List (Int×Int×Int)): List V:=L.flatMap fun d=>[.int .i64 d.1,.int .i64 d.2.1,.int .i64 d.2.2]
theorem I8 : ∀(L:List (Int×Int×Int)),(vC L).length=L.length*3:=by
 intro L
 induction L with
 | nil=>rfl
 | cons d L I =>
  have e:vC (d::L)=[.int .i64 d.1,.int .i64 d.2.1,.int .i64 d.2.2]++vC L:=rfl
  rw [e,bU,I]
  simp only [aH,bM]
  omega
theorem SR : ∀ {L:List (Int×Int×Int)} {i:Nat} {d:Int×Int×Int},L[i]?=some d→((vC L).drop (i*3)).take 3=[.int .i64 d.1,.int .i64 d.2.1,.int .i64 d.2.2]:=by
 intro L
 induction L with
 | nil=>intro i d h; simp at h
 | cons e L I =>
  intro i d h
  cases i with
  | zero=>simp at h; subst h; rfl
  | succ i =>
   rw [show (i+1)*3=i*3+3 by omega]
   exact I (by simpa using h)
section
variable {h:H} {S:List au} {N g a p q r aO:Nat} {data:List Nat} {ε:aE} {now:List (Int×List Nat)}
theorem SS (s:Sat h (GA g a p q r data aO now ε::S)): Sat h (SA a p q r (.ptr g 0) data aO ε::fh g a now false::S):=by
 have s:=cq.1 s
 have s:Sat h (fh g a now false::dx a p q r (.ptr g 0) data aO::cK r p q ε.1::bx q p ε.2.1::aL p ε.2.2::S):=s
 exact cq.2 (s.ae [1,1,1,1,0])
theorem SU (s:Sat h (SA a p q r (.ptr g 0) data aO ε::fh g a now false::S)): Sat h (GA g a p q r data aO now ε::S):=by
 have s:=cq.1 s
 have s:Sat h (dx a p q r (.ptr g 0) data aO::cK r p q ε.1::bx q p ε.2.1::aL p ε.2.2::fh g a now false::S):=s
 exact cq.2 (s.ae [4,0,0,0,0])
end
structure Ply (N i K:Nat)(ε:aE)(now:List (Int×List Nat))(Rk Rn:List V)(Uk Un:List Bool)(uk un:V): Prop where
 ei:EI N (3+3*i) ε
 nw:NW N now
 mdk:∃R M,oJ N R M (pgA ε) Rk Uk
 mdn:∃R M,oJ N R M (dK now ε) Rn Un
 dev:ga K 262144 ε
 Ve:K+520*now.length≤19268+1200*i
 sk:storable uk=true∧uk.beq uk=true
 sn:storable un=true∧un.beq un=true
section
variable {told:cZ} {h:H} {S:List au} {N B K g a p q r aO p7 p9 i:Nat} {v w dv uk un:V} {Rk Rn:List V} {Uk Un:List Bool} {R M data:List Nat} {ε:aE} {now:List (Int×List Nat)} {L:List (Int×Int×Int)}
theorem Nl (I:W told)(s:Sat h (GA g a p q r data aO now ε::S)): Call ⟨Tryz.prog,told⟩ 33 [.ptr g 0] h fun v h'=>v=.aY []∧Sat h' (SA a p q r .b7 data aO ε::S):=by
 have s:=cq.1 s
 refine (OX I s).mono ?_
 rintro v h' ⟨rfl,s⟩
 exact ⟨rfl,cq.2 s.drop⟩
noncomputable def pyE : Code:=cV [1,1,1,1,1,1,1,1,1,0,1,0,0,1,0,0,1,1,1,1] ((Tryz.f10.body).getD .skip)
theorem Nm (hT:D9 told)(hB:B≤800)(I4:N≤37)(fF:EI N B ε)(hm:oJ N R M (pgA ε) Rk Uk)(hu:storable uk=true)(hd:ga K 262144 ε)(hf:K+64≤262144){Vq:Nat}{z x y:Int}{E:List (Nat×V)}{Q:Ex→List (Nat×V)→H→Prop}
 (s:Sat h (SA a p q r .b7 [] aO ε::pt Vq (.cells 3 [.int .i64 z,.int .i64 x,.int .i64 y] false)::pt p7 (.cells 17 (uk::Rk) false)::jx uk (eo Uk)::S))(hE:Has E [(1,dv),(6,.ptr a 0),(7,.ptr p7 0),(9,.ptr p9 0),(10,.int .i64 (i:Int)),(11,.ptr Vq 0)])
 (hq:∀(ε':aE) (g' lW:Nat) (E':List (Nat×V)) (h':H),EI N (B+1) ε'→oJ N R M (pgA ε') Rk Uk→ga (K+64) 262144 ε'→Has E' [(1,dv),(6,.ptr a 0),(7,.ptr p7 0),(8,.ptr g' 0),(9,.ptr p9 0),(10,.int .i64 (i:Int))] →
   Sat h' (GA g' a p q r [] lW [] ε'::pt p7 (.cells 17 (uk::Rk) false)::jx uk (eo Uk)::S)→Q .normal E' h'): WP ⟨Tryz.prog,told⟩ 116 pyE E h Q:=by
 have hW:=hT.w
 have qD:=hm.lH.n1
 refine WP.has hE (zK 3 rfl (zf rfl (vn _ _) (zl rfl (s.ld (k:=1) rfl cA rfl) ?_)))
 by_cases h6:z=6
 ·skip
  refine zt rfl (af rfl rfl dh) (by simp; omega) ?_
  refine zk 2 rfl (zc rfl (Nk hT.w2 fF (by omega) hd s) ?_)
  rintro v h ⟨rfl,j4,kI,jY,Nn,s⟩
  have I:=hm.KF (jY 0 (by decide)) (jY 1 (by decide))
  refine zh rfl (af rfl rfl aG) (rfl) (zk 2 rfl (zf rfl (vn _ _) (zl rfl (s.ld (k:=1) rfl cA rfl) (zh rfl (af rfl rfl dh) (by simp; omega) ?_))))
  refine zk 8 rfl (zo rfl (nj rfl (lC o7 rfl)) (zl rfl (s.bZ (k:=2) rfl fV dm) ?_))
  have s:=s.ae [0,2]
  dsimp only [bringA,getA,bf] at s
  refine zc rfl (tF hW (Gz hW (by omega)) kI (by omega) I.lH I.rt hu I.ul I.us s) ?_
  rintro v h ⟨rfl,J,j3,fN,s⟩
  have e2:pgA J=pgA j4:=funext fN.1
  refine zo rfl (cX rfl rfl) (zk 6 rfl (zc rfl (qO hW s) ?_))
  rintro v h ⟨g',rfl,s⟩
  refine za rfl (zv ?_)
  exact hq J g' aO _ _ (j3.more (by omega)) (by rw [e2]; exact I) (by have:=Nn.sm fN; exact ⟨by have:=this.1; omega,this.2⟩) ⟨rfl,rfl,rfl,rfl,rfl,rfl,aa⟩ ((s.ae [0,2,0]).del 3)
 ·skip
  refine zh rfl (af rfl rfl dh) (by simp; omega) ?_
  refine zk 6 rfl (zf rfl (vn _ _) (zl rfl (s.ld (k:=1) rfl cA rfl) ?_))
  by_cases h7:z=7
  ·skip
   refine zt rfl (af rfl rfl dh) (by simp; omega) ?_
   refine zk 2 rfl (zc rfl (PJ hW fF (by omega) hd hf s) ?_)
   rintro v h ⟨rfl,j4,lW,kI,jY,Nn,s⟩
   have I:=hm.KF (jY 0) (jY 1)
   refine zh rfl (af rfl rfl aG) (rfl) (zk 4 rfl (zo rfl (nj rfl (lC o7 rfl)) (zl rfl (s.bZ (k:=2) rfl fV dm) ?_)))
   have s:=s.ae [0,2]
   dsimp only [bringA,getA,bf] at s
   refine zc rfl (tF hW (Gz hW (by omega)) kI (by omega) I.lH I.rt hu I.ul I.us s) ?_
   rintro v h ⟨rfl,J,j3,fN,s⟩
   have e2:pgA J=pgA j4:=funext fN.1
   refine zo rfl (cX rfl rfl) (zk 6 rfl (zc rfl (qO hW s) ?_))
   rintro v h ⟨g',rfl,s⟩
   refine za rfl (zv ?_)
   exact hq J g' lW _ _ j3 (by rw [e2]; exact I) (Nn.sm fN) ⟨rfl,rfl,rfl,rfl,rfl,rfl,aa⟩ ((s.ae [0,2,0]).del 3)
  ·skip
   refine zh rfl (af rfl rfl dh) (by simp; omega) ?_
   refine zk 8 rfl (zo rfl (nj rfl (lC o7 rfl)) (zl rfl (s.bZ (k:=2) rfl fV dm) ?_))
   have s:=s.ae [0,2]
   dsimp only [bringA,getA,bf] at s
   refine zc rfl (tF hW (Gz hW (by omega)) fF (by omega) hm.lH hm.rt hu hm.ul hm.us s) ?_
   rintro v h ⟨rfl,J,j3,fN,s⟩
   have e2:pgA J=pgA ε:=funext fN.1
   refine zo rfl (cX rfl rfl) (zk 6 rfl (zc rfl (qO hW s) ?_))
   rintro v h ⟨g',rfl,s⟩
   refine za rfl (zv ?_)
   exact hq J g' aO _ _ (j3.more (by omega)) (by rw [e2]; exact hm) (by have:=hd.sm fN; exact ⟨by have:=this.1; omega,this.2⟩) ⟨rfl,rfl,rfl,rfl,rfl,rfl,aa⟩ ((s.ae [0,2,0]).del 3)
noncomputable def pyO : Code:=cV [1,1,1,1,1,1,1,1,1,0,1,0,0] ((Tryz.f10.body).getD .skip)
theorem YW (hT:D9 told)(hL:L.length≤200)(I4:N≤37): ∀(d i K g aO:Nat) (ε:aE) (now:List (Int×List Nat)) (Rk Rn:List V) (Uk Un:List Bool) (uk un:V) (h:H) (E:List (Nat×V)) (Q:Ex→List (Nat×V)→H→Prop),i+d=L.length →
  Ply N i K ε now Rk Rn Uk Un uk un →
  Sat h (GA g a p q r [] aO now ε::pt p7 (.cells 17 (uk::Rk) false)::pt p9 (.cells 17 (un::Rn) false)::jx uk (eo Uk)::jx un (eo Un)::wA 3 dv (vC L)::S) →
  Has E [(1,dv),(6,.ptr a 0),(7,.ptr p7 0),(8,.ptr g 0),(9,.ptr p9 0),(10,.int .i64 (i:Int))] →
  (∀E' h',Q (.exit 0) E' h')→WP ⟨Tryz.prog,told⟩ 116 (.loop pyO) E h Q:=by
 have hW:=hT.w
 have kQ:=I8 L
 intro d
 induction d with
 | zero =>
  intro i K g aO ε now Rk Rn Uk Un uk un h E Q hi I s hE hq
  refine WP.loop (WP.has hE (zK 5 rfl (zo rfl (aT rfl rfl rfl (s.Gn (n:=L.length) (j:=5) rfl kQ (by decide) yz)) ?_)))
  refine zh rfl (af rfl rfl aK) (by simp; omega) ?_
  exact zk 2 rfl (WP.exit (hq _ _))
 | succ d ih =>
  intro i K g aO ε now Rk Rn Uk Un uk un h E Q hi I s hE hq
  obtain ⟨D,hD⟩:∃D,L[i]?=some D:=⟨_,aN (by omega)⟩
  obtain ⟨z,x,y⟩:=D
  obtain ⟨id,off,e1,e2⟩:=s.Wj (P:=Tryz.prog) (i:=i) (j:=5) rfl (by omega) (by decide) yz Oa Uc
  rw [SR hD] at e2
  obtain ⟨R1,M1,hm⟩:=I.mdn
  obtain ⟨R0,M0,hk⟩:=I.mdk
  have fF:=I.ei
  have hw:=I.nw
  have aaH:=I.Ve
  have qD:=hm.lH.n1
  have hrn:=hm.rt.len
  have hrk:=hk.rt.len
  have YX:=o9 hm.rt I.sn.1
  have YY:=o9 hk.rt I.sk.1
  refine WP.loop (WP.has hE (zK 5 rfl (zo rfl (aT rfl rfl rfl (s.Gn (n:=L.length) (j:=5) rfl kQ (by decide) yz)) ?_)))
  refine zt rfl (af rfl rfl aK) (by simp; omega) ?_
  refine zk 4 rfl (WP.block (zK 4 rfl (zo rfl (cn (r:=.ptr id off) rfl rfl e1) (zl rfl e2 ?_))))
  refine az.cz s rfl rfl rfl (cy Yj) (fun Vq h s => ?_)
  dsimp only [V.cells,List.length_cons,List.length_nil,Nat.reduceAdd] at s
  refine zS rfl (s.eZ (j:=0) rfl Oa rfl rfl) (fun h s => ?_)
  dsimp only [setA] at s
  refine zk 5 rfl (zh rfl (af rfl rfl (wm jZ)) (rfl) (zk 6 rfl (zf rfl (vn _ _) (zl rfl (s.ld (k:=0) rfl cA rfl) ?_))))
  by_cases h3:z≤3
  ·skip
   refine zt rfl (af rfl rfl Ft) (by simp; omega) ?_
   refine zk 5 rfl (zl rfl (s.bZ (k:=3) rfl fV dm) (zl rfl (s.bZ (k:=0) rfl Uc Oa) (zc rfl (SP hW (by omega) fF hw hm I.sn.1 (s.ae [5,1])) ?_)))
   rintro v h ⟨un2,Rn2,Un2,j4,PE,R2,M2,rfl,kI,eF,oh,DP,J,Vr,hbu,s⟩
   have Vs:=J.rt.len
   have sV:=o9 J.rt Vr
   refine zk 3 rfl ?_
   refine az.cz s rfl rfl rfl (cy AJ) (fun Xl h s => ?_)
   dsimp only [V.cells,List.length_cons,List.length_nil,Nat.reduceAdd,bf,bringA] at s
   refine zS rfl (s.eZ (j:=0) rfl dm (by rw [aH,Vs]) sV) ?_
   rintro h s
   dsimp only [setA] at s
   refine zk 6 rfl (zo rfl (cX rfl rfl) (zk 2 rfl (zo rfl (nj rfl (lC jZ rfl)) (zl rfl (s.bZ (k:=0) rfl fV dm) (zc rfl (tF hW (yx hW (by omega) oh) kI (by omega) J.lH J.rt Vr J.ul J.us (s.ae [2,1])) ?_)))))
   rintro v h ⟨rfl,lX,j3,fN,s⟩
   have s:=SS s
   have e2:pgA lX=pgA ε:=by rw [show pgA lX=pgA j4 from funext fN.1,show pgA j4=pgA ε from funext eF.1]
   have Av:oJ N R0 M0 (pgA lX) Rk Uk:=by rw [e2]; exact hk
   have s:=s.ae [0,6]
   dsimp only [bf,bringA,getA] at s
   refine zo rfl (cX rfl rfl) (zk 3 rfl (zo rfl (nj rfl (lC o7 rfl)) (zl rfl (s.bZ (k:=6) rfl fV dm) (zc rfl (tF hW (Gz hW (by omega)) j3 (by omega) Av.lH Av.rt I.sk.1 Av.ul Av.us s) ?_))))
   rintro v h ⟨rfl,wD,tE,lM,s⟩
   have e3:pgA wD=pgA ε:=by rw [show pgA wD=pgA lX from funext lM.1,e2]
   have s:=SU (s.ae [0,1])
   dsimp only [bf,bringA] at s
   refine zo rfl (cX rfl rfl) (zk 6 rfl (zl rfl (s.bZ (k:=3) rfl fV dm) (zS rfl (s.eZ (j:=6) rfl dm (by rw [aH,Vs]) sV) ?_)))
   rintro h s
   dsimp only [setA] at s
   refine zv (WP.exit (zK 2 rfl (zb rfl (by exact bg (aB (by omega) (by omega))) ?_)))
   refine za rfl (zv ?_)
   have YZ:=(eF.trans fN).trans lM
   refine ih (i+1) K g aO wD PE Rk Rn2 Uk Un2 uk un2 _ _ Q (by omega) ⟨tE.more (by omega),oh,⟨R0,M0,by rw [e3]; exact hk⟩,⟨R2,M2,?_⟩,I.dev.sm YZ,by omega,I.sk,⟨Vr,hbu⟩⟩ (((s.ae [0,4,4,0,0,2]).del 7).del 6) ⟨rfl,rfl,rfl,rfl,rfl,rfl,aa⟩ hq
   rw [gJ lM,gJ fN]
   exact J
  ·skip
   refine zh rfl (af rfl rfl Ft) (by simp; omega) ?_
   refine zk 6 rfl (zf rfl (vn _ _) (zl rfl (s.ld (k:=0) rfl cA rfl) ?_))
   by_cases h5:z=5
   ·skip
    refine zt rfl (af rfl rfl dh) (by simp; omega) ?_
    refine zk 5 rfl (zc rfl (Nl hW (s.ae [1])) ?_)
    rintro v h ⟨rfl,s⟩
    dsimp only [bf,bringA] at s
    refine zk 2 rfl (zl rfl (s.bZ (k:=2) rfl fV dm) (zS rfl (s.eZ (j:=3) rfl dm (by rw [aH,hrk]) YY) ?_))
    rintro h s
    dsimp only [setA] at s
    have s:=((s.ae [4]).dup (aX.jx _ _)).ae [2,2,2,0,1,0]
    dsimp only [bf,bringA,getA] at s
    refine zv ?_
    refine Nm hT (by omega) I4 fF hk I.sk.1 I.dev (by omega) s ⟨rfl,rfl,rfl,rfl,rfl,rfl,aa⟩ (fun ε' g' lW E' h' a1 a2 a3 a4 s' => ?_)
    have s:=s'
    refine WP.has a4 (zK 2 rfl (zb rfl (by exact bg (aB (by omega) (by omega))) ?_))
    refine za rfl (zv ?_)
    exact ih (i+1) (K+64) g' lW ε' [] Rk Rk Uk Uk uk uk _ _ Q (by omega) ⟨a1.more (by omega),NW.nil N,⟨R0,M0,a2⟩,⟨R0,M0,a2⟩,a3,by simp only [bM]; omega,I.sk,I.sk⟩ ((s.ae [0,0,1,0,0,1]).del 6) ⟨rfl,rfl,rfl,rfl,rfl,rfl,aa⟩ hq
   ·skip
    refine zh rfl (af rfl rfl dh) (by simp; omega) ?_
    refine zk 5 rfl (zo rfl (dA rfl (B9 (kd:=1))) (zc rfl (D8 (kd:=1) (L:=now.length) hW (by omega) fF hw (aD _) (by omega) (by decide) (by decide) I.dev (by omega) (s.ae [1])) ?_))
    rintro v h ⟨aW,j4,rfl,kI,Y0,Nn,s⟩
    have oT:oJ N R1 M1 (pgA j4) Rn Un:=⟨hm.lH.done hw Y0,hm.rt,hm.ul,hm.us⟩
    dsimp only [bf,bringA] at s
    refine zk 10 rfl (zh rfl (af rfl rfl dh) (by decide) ?_)
    refine zk 7 rfl (zh rfl (af rfl rfl aG) (rfl) (zk 4 rfl (zl rfl (s.bZ (k:=4) rfl fV dm) (zS rfl (s.eZ (j:=3) rfl dm (by rw [aH,hrn]) YX) ?_))))
    rintro h s
    dsimp only [setA] at s
    have s:=((s.ae [6]).dup (aX.jx _ _)).ae [3,3,3,0,2,0]
    dsimp only [bf,bringA,getA] at s
    refine zv ?_
    refine Nm hT (by omega) I4 kI oT I.sn.1 Nn (by omega) s ⟨rfl,rfl,rfl,rfl,rfl,rfl,aa⟩ (fun ε' g' lW E' h' a1 a2 a3 a4 s' => ?_)
    have s:=s'
    refine WP.has a4 (zK 2 rfl (zb rfl (by exact bg (aB (by omega) (by omega))) ?_))
    refine za rfl (zv ?_)
    exact ih (i+1) (K+520*now.length+28+64) g' lW ε' [] Rn Rn Un Un un un _ _ Q (by omega) ⟨a1.more (by omega),NW.nil N,⟨R1,M1,a2⟩,⟨R1,M1,a2⟩,a3,by simp only [bM]; omega,I.sn,I.sn⟩ (((s.ae [0,0,1,0,0,2]).del 7).del 6) ⟨rfl,rfl,rfl,rfl,rfl,rfl,aa⟩ hq
end
end Go.Proofs.YtefepnnfphdkpaaGreat.Am
