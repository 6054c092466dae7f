/- SpaceRoots: a part of its proof; conditions: its statement's. -/
import Derived.Test.YtefepnnfphdkpaaGreatF32
set_option linter.defProp false
namespace Go.Proofs.YtefepnnfphdkpaaGreat.Am
open Go
def mq:=@Tryz.underlying50
def IF:=@Tryz.func31
def BN : List Nat:=((List.replicate 375 0).set 0 1).set 0 3
theorem DF {j:Nat}: bt BN j=decide (j<2):=by
 unfold bt BN
 by_cases h:j/8=0
 ·have e:(((List.replicate 375 0).set 0 1).set 0 3).getD (j/8) 0=3:=by rw [h]; decide +kernel
  have k:∀i,i<8→(3:Nat).testBit i=decide (i<2):=by decide
  rw [e,k _ (by omega)]
  by_cases I:j<2
  ·rw [fo I,fo (by omega)]
  ·rw [eU I,eU (by omega)]
 ·have e:(((List.replicate 375 0).set 0 1).set 0 3).getD (j/8) 0=0:=by
   rw [dU,ff (by omega),ff (by omega),Au]
   split <;> rfl
  rw [e,Nat.zero_testBit,eU (by omega)]
def XB (N B kd:Nat)(ε ε':aI): Prop:=∃(I:aI) (now:List (Int×List Nat)) (aK:Nat),EI N B I∧Sm N ε I∧NW N now∧now.length≤2∧pM I now kd 0 0 0 [] 0 aK 0 true ε'
section
variable {told:cQ} {h:H} {S:List au} {N B K M a p q r aH:Nat} {data:List Nat} {ε:aI}
theorem PG (hB:B≤800)(mo:EI N B ε)(hN:4≤N)(hN2:N≤1000)(hz:(pgA ε 0).length=512)(hg:b7 (pgA ε 0)=false)(hd:vm K M ε)(hf:K+520*N+28≤M)(s:Sat h (SA a p q r .cu data aH ε::S)):
  ∃v h2,(∃N0,∀n,N0≤n→toldDefer CB n 31 [.ptr a 0] h=some (v,h2))∧(v=.int .i64 0∧∃ε',EI N (B+2) ε'∧iH N (List.replicate 64 0) BN (pgA ε')∧vm (K+520*N+28) M ε'∧Sat h2 (SA a p q r .cu data aH ε'::S)∧XB N B 1 ε ε'):=by
 have I:=W.base
 refine ID (C:=CB) IF rfl rfl (of_decide_eq_true (by kernel_rfl)) ?_
 refine gG.seq (gG.of_wp rfl (zr rfl (za rfl (zv (gG.seq (gG.of_wp rfl (zr rfl (zm rfl (zo rfl (u9 rfl (rW qn rfl)) (zc rfl (yu I (IA I (by omega)) mo (by omega) hz hg s) ?_))))))))))
 rintro v h ⟨sn,rfl,pO,ig,s⟩
 have hd:=hd.sm ig
 have s:Sat h (dV a p q r .cu data aH::eF r p q sn.1::b8 q p sn.2.1::aR p sn.2.2::S):=bQ.1 s
 refine zk 5 rfl (zv (gG.seq (gG.of_wp rfl (WP.block (zg rfl (zm rfl (zh rfl (af rfl rfl aN) (rfl) (za rfl (zv (zj rfl (zg rfl (zk 2 rfl (zv (zj rfl (WP.skip (gG.seq (gG.of_wp rfl (zr rfl (zm rfl (zc rfl (RJ I s) ?_))))))))))))))))))))
 rintro v h' ⟨rfl,rfl⟩
 refine zc rfl (xB I (s.ae [3])) ?_
 rintro v h' ⟨rfl,rfl⟩
 rw [pO.ec.dk.ax]
 refine za rfl (zv (gG.seq (gG.of_wp rfl (zr rfl (zm rfl (zc rfl (Af I (n:=N) (by omega) (by omega)) ?_))))))
 rintro v h' ⟨rfl,rfl⟩
 refine za rfl (zv (gG.seq (gG.of_wp rfl (zr rfl (zm rfl (zc rfl (FN I s) ?_))))))
 rintro v h ⟨g,rfl,s⟩
 refine zk 5 rfl (zv (gG.seq (gG.seq (gG.of_wp rfl (zr rfl (zm rfl (zh rfl (af rfl rfl aN) (rfl) (zv (gG.of_wp rfl (zj rfl (WP.skip (gG.seq (gG.defer rfl rfl rfl rfl rfl rfl rfl rfl rfl rfl rfl rfl (gG.seq (gG.seq (gG.of_wp rfl (zr rfl (zk 2 rfl (zb rfl (by exact br (aC (by omega) (by omega))) ?_)))))))))))))))))))
 refine zh rfl (af rfl rfl aT) (by simp; omega) ?_
 have s:Sat h (GA g a p q r data aH [] sn::S):=bQ.2 s
 refine zv (gG.of_wp rfl (zj rfl (WP.skip (gG.seq (gG.seq (gG.of_wp rfl (WP.drawn [some (0,5),some (0,4),ai,ai,ai,ai,ai,ai] rfl (by kernel_rfl) (by kernel_rfl) ?_)))))))
 refine zM rfl (zM rfl (aB.any rfl rfl rfl rfl (OpR.call rfl rfl rfl rfl (Iv I s)) ?_))
 intro mv h s
 refine aB.any rfl rfl rfl rfl (OpR.rJ rfl s rfl rfl rfl rfl (by decide)) ?_
 intro zbv h s
 have s:=s.fU
 have XC:(List.replicate 64 0).length=64:=cY
 have hm:=(s.aE (k:=1) rfl (dy _ _)).cells
 have hzc:=(s.aE (k:=0) rfl (dy _ _)).cells
 obtain ⟨cv,h1,e1,s1⟩:=Ve (P:=Tryz.prog) (x:=mv) (y:=zbv) s gn oP gR rfl hm.1 hzc.1 hm.2 hzc.2
 refine aB.any rfl rfl rfl rfl (OpR.of (R:=fun v h'=>v=cv∧h'=h1) (om rfl e1) ⟨rfl,rfl⟩) ?_
 rintro cv h ⟨rfl,rfl⟩
 have s:=(s1.ae [2,1]).two (C:=each (fun v c=>.cx v c) [mv,zbv] [fB,List.replicate 64 0]) (aW.cx _ _) (aW.cx _ _) fun a b q1 q2=>⟨q1,q2,aa⟩
 generalize hR:List.replicate 64 0=R at s XC
 refine aB.any rfl rfl rfl rfl (OpR.call rfl rfl rfl rfl (Lh (kd:=201) (lk:=N) I (by decide) (by omega) (by simp only [tot,fB,aS,bT,XC]; decide) rfl s)) ?_
 rintro u h ⟨b0,yg,s⟩
 refine aB.any rfl rfl rfl rfl (OpR.call rfl rfl rfl rfl (Be (i:=0) I (by omega) pO (NW.nil N) (by omega) (s.ae [1,0]) (bg _ _) yg)) ?_
 rintro v h ⟨qo,rfl,sB,nN,vl,s⟩
 have hd:=hd.sm nN
 refine zA rfl ?_
 refine aB.nil ⟨⟨fun _ _=>.inr ⟨rfl,⟨_,bz rfl⟩,bq _ rfl⟩,fun _ _=>.inr ⟨rfl,⟨_,bz rfl⟩,bq _ rfl⟩,aa,aa,aa,aa,aa,aa,aa⟩,?_⟩
 refine gG.seq (gG.of_wp rfl (zr rfl (zm rfl (zh rfl (af rfl rfl aN) (rfl) (zv (gG.of_wp rfl (zj rfl (WP.skip (gG.seq (gG.seq (gG.of_wp rfl (zr rfl (za rfl (zv (gG.of_wp rfl (WP.block (WP.loop (zw (zg rfl (zk 2 rfl (zt rfl (af rfl rfl aT) (by decide) ?_)))))))))))))))))))))
 refine zv (zi rfl (WP.skip (zw (WP.block (zg rfl (aA.any rfl rfl rfl (OpR.rJ rfl s rfl rfl rfl rfl (by decide)) ?_))))))
 intro mk h s
 have J:(List.replicate 375 0).length=375:=cY
 have sr:(List.replicate 375 0)[0]?=some 0:=by decide +kernel
 have K1:BN.length=375:=by unfold BN; rw [bW,bW,J]
 have Aj:BN=((List.replicate 375 0).set 0 1).set 0 3:=rfl
 have Ah:∀j,bt BN j=decide (j<2):=fun j=>DF
 generalize BN=M0 at K1 Aj Ah ⊢
 generalize List.replicate 375 0=Z at s J sr Aj
 obtain ⟨id,off,e2,e3⟩:=eP (s.buf (k:=0) rfl).view sr
 obtain ⟨IB,aa3,e4,h4,e5,s2⟩:=oE s (i:=0) (b:=1) (by omega) (by decide)
 have ee:V.ptr id off=V.ptr IB aa3:=by rw [e2] at e4; exact bk e4
 rw [←ee] at e5
 refine zk 8 rfl (WP.block (WP.loop (zg rfl (zt rfl (af rfl rfl aT) (by decide) ?_))))
 refine zk 5 rfl (WP.block (zK 8 rfl (zo rfl (af (r:=.int .i64 0) rfl rfl (by kernel_rfl)) ?_)))
 refine zm rfl (zb rfl (by exact jE (aC (by omega) (by omega))) ?_)
 refine zt rfl (af rfl rfl eA) (by decide) ?_
 refine zk 2 rfl (WP.drawn [ai,ai,ai,ai,ai,ai,ai,ai,ai,ai,ai,ai] rfl (by kernel_rfl) (by kernel_rfl) ?_)
 refine zM rfl (zM rfl (zO rfl (af (r:=.int .i64 0) rfl rfl (by kernel_rfl)) ?_))
 refine zO rfl (af (r:=.int .i64 0) rfl rfl (by kernel_rfl)) ?_
 refine zO rfl (dr (r:=.ptr id off) rfl rfl e2) (zL rfl e3 (zM rfl (zO rfl (af (r:=.int .i64 0) rfl rfl (by kernel_rfl)) ?_)))
 refine zO rfl (af (r:=.int .u8 1) rfl rfl (by kernel_rfl)) ?_
 refine zO rfl (af (r:=.int .u8 1) rfl rfl (by kernel_rfl)) ?_
 refine zO rfl (dr (r:=.ptr id off) rfl rfl e2) (aB.i_ rfl rfl rfl (OpR.fO rfl rfl rfl (⟨h4,e5,s2⟩)) ?_)
 rintro w h ⟨rfl,s⟩
 refine aB.nil ⟨⟨aa,aa,aa,aa,aa,aa,aa,aa,aa,aa,aa,aa,aa⟩,?_⟩
 have Ct:(Z.set 0 1)[0]?=some 1:=gw (by omega)
 have wM:(Z.set 0 1).length=375:=by rw [bW,J]
 obtain ⟨XD,R_,e6,e7⟩:=eP (s.buf (k:=0) rfl).view Ct
 obtain ⟨id6,aa4,e8,h7,e9,s3⟩:=oE s (i:=0) (b:=3) (by omega) (by decide)
 have ee:V.ptr XD R_=V.ptr id6 aa4:=by rw [e6] at e8; exact bk e8
 rw [←ee] at e9
 refine zr rfl (zb rfl (by exact br (aC (by omega) (by omega))) ?_)
 refine zm rfl (zv (WP.loop (zg rfl (zt rfl (af rfl rfl aT) (by decide) ?_))))
 refine zk 5 rfl (WP.block (zK 8 rfl (zo rfl (af (r:=.int .i64 0) rfl rfl (by kernel_rfl)) ?_)))
 refine zm rfl (zb rfl (by exact jE (aC (by omega) (by omega))) ?_)
 refine zt rfl (af rfl rfl eA) (by decide) ?_
 refine zk 2 rfl (WP.drawn [ai,ai,ai,ai,ai,ai,ai,ai,ai,ai,ai,ai] rfl (by kernel_rfl) (by kernel_rfl) ?_)
 refine zM rfl (zM rfl (zO rfl (af (r:=.int .i64 1) rfl rfl (by kernel_rfl)) ?_))
 refine zO rfl (af (r:=.int .i64 0) rfl rfl (by kernel_rfl)) ?_
 refine zO rfl (dr (r:=.ptr XD R_) rfl rfl e6) (zL rfl e7 (zM rfl (zO rfl (af (r:=.int .i64 1) rfl rfl (by kernel_rfl)) ?_)))
 refine zO rfl (af (r:=.int .u8 2) rfl rfl (by kernel_rfl)) ?_
 refine zO rfl (af (r:=.int .u8 3) rfl rfl (by kernel_rfl)) ?_
 refine zO rfl (dr (r:=.ptr XD R_) rfl rfl e6) (aB.i_ rfl rfl rfl (OpR.fO rfl rfl rfl (⟨h7,e9,s3⟩)) ?_)
 rintro w h ⟨rfl,s⟩
 refine aB.nil ⟨⟨aa,aa,aa,aa,aa,aa,aa,aa,aa,aa,aa,aa,aa⟩,?_⟩
 rw [←Aj] at s
 refine zr rfl (zb rfl (by exact br (aC (by omega) (by omega))) ?_)
 refine zm rfl (zv (WP.loop (zg rfl (zh rfl (af rfl rfl aT) (by decide) ?_))))
 refine zk 3 rfl (WP.exit (zK 5 rfl ?_))
 have s:=s.fU
 have TI:=(s.aE (k:=0) rfl (dy _ _)).cells
 obtain ⟨cv2,h8,e10,s4⟩:=l_ (P:=Tryz.prog) (k:=1) (x:=mk) s gn oP gR rfl (by decide) (by decide) (by rw [TI.1]; rfl) (by rw [TI.1]; simp only [fH,jh,TI.2]; rfl)
 rw [TI.1] at s4
 refine aA.any rfl rfl rfl (OpR.of (R:=fun v h'=>v=cv2∧h'=h8) (om rfl e10) ⟨rfl,rfl⟩) ?_
 rintro cv2 h ⟨rfl,rfl⟩
 have s:=(s4.ae [1]).hO (B:=each (fun v c=>.cx v c) [mk] [M0]) fun a b q=>⟨q,aa⟩
 dsimp only [aQ,bringA] at s
 refine zc rfl (Lh (kd:=202) (lk:=0) I (by decide) (by decide) (by simp only [tot,aS,bT,K1]; decide) rfl s) ?_
 rintro u h ⟨b1,pR,s⟩
 refine zc rfl (Be (i:=1) I (by omega) sB vl (by omega) (s.ae [1,0]) (bg _ _) pR) ?_
 rintro v h ⟨DD,rfl,yt,sC,Ai,s⟩
 dsimp only [aQ,bringA] at s
 have hd:=hd.sm sC
 refine za rfl (zv (zg rfl (zm rfl (zh rfl (af rfl rfl aN) (rfl) (zv (zj rfl (WP.skip (zr rfl (zm rfl (zb rfl (by exact br (aC (by omega) (by omega))) ?_))))))))))
 refine zk 2 rfl (WP.loop (zK 5 rfl (zh rfl (af rfl rfl aT) (by decide) ?_)))
 refine zk 2 rfl (WP.exit (gG.seq (gG.of_wp rfl (zK 2 rfl (zo rfl (c_ rfl (DE (kd:=1))) (zc rfl (R9 (kd:=1) I (by omega) yt Ai (by omega) (by decide) (by decide) hd hf s) ?_))))))
 rintro v h ⟨aK,Y_,rfl,XE,kG,hd4,s,IG⟩
 have FZ:iH N R M0 (fR (cB ((1:Nat):Int) b1 (cB ((0:Nat):Int) b0 [])) DD):=by
  refine ⟨⟨0,?_⟩,XC,⟨202,0,0,?_⟩,K1,by omega,by omega,fun j hj=>by rw [Ah,fo hj],fun j hj=>by rw [Ah,eU (by omega)]⟩
  ·rw [kr,ah (by decide),kr,aj (by decide)]; exact yg
  ·rw [kr,aj (by decide)]; exact pR
 refine zk 4 rfl (zv (gG.seq (gG.of_wp rfl (zr rfl (zk 2 rfl (zv (gG.of_wp rfl (WP.ret ?_))))))))
 have s:=s.ae [1]
 have s:=bQ.1 s
 have s:=s.ae [4]
 obtain ⟨v2,h2,qa,rfl,s⟩:=MC I s
 have s:=s.ae [1,1,1,1]
 have s:Sat h2 (SA a p q r .cu data aH Y_::_):=bQ.2 s
 have Xq:A_ 33=none:=I.free _ rfl
 exact ⟨aa,h2,_,JY (C:=CB) Xq Ig rfl rfl qa,ue rfl,rfl,Y_,XE,FZ.done Ai kG,hd4,((s.del 3).del 2).del 1,DD,_,aK,yt,(ig.trans nN).trans sC,Ai,aD _,IG⟩
end
section
variable {told:cQ} {h:H} {S:List au} {X Y:au} {N B n:Nat} {v x y rv:V} {b l c R M:List Nat} {kd link extra og:Nat} {cs:List (List Nat)} {A:aI→au} {pg:aI→Int→List Nat} {ε:aI}
def mB (f:Nat→Bool)(k:Nat): List Nat:=(List.range k).filter f
theorem xV {f:Nat→Bool}{k:Nat}: mB f (k+1)=if f k then mB f k++[k] else mB f k:=by
 unfold mB
 rw [List.range_succ,List.filter_append]
 cases h:f k with
 | true=>simp [h]
 | false=>simp [h]
theorem Bg {f:Nat→Bool}{k:Nat}: (mB f k).length≤k:=by
 unfold mB
 exact cC (DX _ _) (by rw [List.length_range]; exact aD _)
theorem II {k:Nat}(s:Sat h (.arr 1 v (ej l)::S))(hl:l.length≤1048576):
  ∃I J w h2,buildSliceV Tryz.prog h 33 1 [(0,.int .i64 (k:Int))]=some (I,J)∧appendV Tryz.prog J #[33,33] v I=some (w,h2)∧Sat h2 (.arr 1 w (ej (l++[k]))::S):=by
 obtain ⟨I,J,e1,s1⟩:=l_ (P:=Tryz.prog) (k:=1) (x:=.int .i64 (k:Int)) s eB C2 kW rfl (by decide) (by decide) rfl rfl
 obtain ⟨i1,kB,jF,wL⟩:=xF
 obtain ⟨w,h2,e2,s2⟩:=iK (s1.ae [1,0]) eB kB C2 jF (by omega) rfl (by decide) (by simp only [iD,V.cells,aS,bT]; omega)
 refine ⟨I,J,w,h2,e1,e2,?_⟩
 have e:ej (l++[k])=ej l++[.int .i64 (k:Int)]:=by simp [ej]
 rw [e]
 exact s2.del 1
noncomputable def usL : Code:=dB [1,1,1,1,0,1,0,0,1,1,0,0,1,1,1,1,0,0] ((Tryz.f25.body).getD .skip)
theorem PI (hT:W told){u:V}(zW:M.length=375)(hn:n≤3000): ∀(m k:Nat) (v:V) (h:H) (E:List (Nat×V)) (Q:Ex→List (Nat×V)→H→Prop),k+m=n →
  Sat h (.arr 1 v (ej (mB (bt M) k))::aZ u M::S)→Has E [(7,v),(8,.int .i64 0),(10,u),(24,.int .i64 1),(25,.int .i64 0),(42,.int .i64 (n:Int)),(43,.int .i64 (k:Int))] →
  (∀v' E' h',Has E' [(7,v'),(24,.int .i64 1),(25,.int .i64 0)]→Sat h' (.arr 1 v' (ej (mB (bt M) n))::aZ u M::S)→Q (.exit 2) E' h')→WP ⟨Tryz.prog,told⟩ 70 (.loop usL) E h Q:=by
 intro m
 induction m with
 | zero =>
  intro k v h E Q hk s hE hq
  refine WP.loop (WP.has hE (zg rfl (zh rfl (af rfl rfl aT) (by simp; omega) ?_)))
  refine zk 3 rfl (WP.exit ?_)
  obtain rfl:k=n:=by omega
  exact hq v _ _ ⟨rfl,rfl,rfl,aa⟩ s
 | succ m ih =>
  intro k v h E Q hk s hE hq
  have hb:M[k/8]?=some (M[k/8]'(by omega)):=bf _
  have J:M.getD (k/8) 0=M[k/8]'(by omega):=by rw [dU,hb]; rfl
  generalize (M[k/8]'(by omega))=x at hb J
  have hv:=(s.buf (k:=1) rfl).view
  have hx:x<256:=hv.1 x (bC hb)
  have Ah:x.testBit (k%8)=bt M k:=by rw [bt,J]
  obtain ⟨id,off,e1,e2⟩:=eP hv hb
  have Tu:x/2^(k%8)<256:=Nat.lt_of_le_of_lt (Eh _ _) hx
  have zW:=Bg (f:=bt M) (k:=k)
  refine WP.loop (WP.has hE (zg rfl (zt rfl (af rfl rfl aT) (by simp; omega) ?_)))
  refine zk 5 rfl (WP.block (zK 9 rfl (zb rfl (Dz (a:=k) (b:=8) (by decide) (by omega)) ?_)))
  refine zo rfl (dr (r:=.ptr id off) rfl rfl e1) (zl rfl e2 (zm rfl (zb rfl (EU (a:=k) (b:=8) (by decide)) ?_)))
  refine zb rfl (Xu (a:=x) (k:=k%8) (by omega)) ?_
  refine zb rfl (Xw (b:=1) Tu (by decide)) ?_
  cases I:bt M k with
  | true =>
   refine zt rfl (af rfl rfl Pu) (Ah.trans I) (zk 5 rfl (zb rfl (by exact kA (aC (by omega) (by omega))) ?_))
   refine zm rfl (zb rfl (by exact br (aC (by omega) (by omega))) ?_)
   obtain ⟨iv,h1,w,h2,e3,e4,s2⟩:=II (k:=k) s (by omega)
   have ek:(3000:Int)*0+(k:Int)=(k:Int):=by omega
   rw [ek]
   refine aA.any rfl rfl rfl (OpR.of (R:=fun v h'=>v=iv∧h'=h1) (om rfl e3) ⟨rfl,rfl⟩) ?_
   rintro iv h1 ⟨rfl,rfl⟩
   refine aA.any rfl rfl rfl (OpR.of (R:=fun v h'=>v=w∧h'=h2) (mF rfl rfl e4) ⟨rfl,rfl⟩) ?_
   rintro w h2 ⟨rfl,rfl⟩
   refine za rfl (zv (zr rfl (zb rfl (by exact br (aC (by omega) (by omega))) ?_)))
   refine zm rfl (zv ?_)
   exact ih (k+1) _ _ _ Q (by omega) (by rw [xV,I,aj rfl]; exact s2) ⟨rfl,rfl,rfl,rfl,rfl,rfl,rfl,aa⟩ hq
  | false =>
   refine zh rfl (af rfl rfl Pu) (Ah.trans I) (zv (zj rfl (WP.skip (zr rfl (zb rfl (by exact br (aC (by omega) (by omega))) ?_)))))
   refine zm rfl (zv ?_)
   exact ih (k+1) _ _ _ Q (by omega) (by rw [xV,I,ah (by decide)]; exact s) ⟨rfl,rfl,rfl,rfl,rfl,rfl,rfl,aa⟩ hq
theorem Sa (hT:W told)(hR:uP told N B rv A pg)(mo:EI N B ε)(hN:2≤N)(J:iH n R M (pg ε))(s:Sat h (A ε::S)):
  Call ⟨Tryz.prog,told⟩ 25 [rv] h fun v h'=>∃w ε',v=.bj [w,.int .i64 0]∧EI N B ε'∧Sm N ε ε'∧Sat h' (.arr 1 w (ej (mB (bt M) n))::A ε'::S):=by
 obtain ⟨ex,pX⟩:=J.head
 obtain ⟨kd,lk,og,I⟩:=J.marks
 have hM:=J.ml
 have sA:=J.n2
 have ux:=J.n1
 have zW:=Bg (f:=bt M) (k:=n)
 refine Call.of_wp (hT.free _ rfl) Tryz.func25 rfl rfl (zK 8 rfl (zc rfl (tH hT hR mo (by omega) pX J.rl s) ?_))
 rintro v h ⟨u,sn,rfl,pO,ig,s⟩
 refine zk 12 rfl (zh rfl (af rfl rfl aN) (rfl) (zk 11 rfl (zc rfl (Af hT (by omega) (by omega)) ?_)))
 rintro v h' ⟨rfl,rfl⟩
 refine zb rfl (by exact jE (aC (by omega) (by omega))) ?_
 refine zk 2 rfl (WP.block (WP.loop (zg rfl (zt rfl (af rfl rfl aT) (by decide) ?_))))
 have I:dX (pg sn 1) kd lk og [M]:=by rw [hR.same ig]; exact I
 refine zk 5 rfl (WP.block (zK 9 rfl (zc rfl (xR hT hR pO hN I hM (s.ae [1])) ?_)))
 rintro v h ⟨w2,u2,qo,rfl,sB,nN,s⟩
 refine zk 12 rfl (zh rfl (af rfl rfl aN) (rfl) (zk 7 rfl (zb rfl (by exact kA (aC (by omega) (by omega))) ?_)))
 refine zb rfl (by exact jE (aC (by omega) (by omega))) ?_
 have em:min (3000:Int) ((n:Int)-3000*0)=(n:Int):=by omega
 refine zo rfl (WQ (r:=.int .i64 (n:Int)) rfl rfl (aaY.trans (by rw [em]))) ?_
 refine zk 2 rfl (WP.block ?_)
 have s:=s.oF (k:=1)
 refine PI hT hM (by omega) n 0 _ _ _ _ (by omega) s ⟨rfl,rfl,rfl,rfl,rfl,rfl,rfl,aa⟩ (fun v' E' h' hE s' => ?_)
 have s:=s'
 refine WP.has hE (zr rfl (zb rfl (by exact br (aC (by omega) (by omega))) ?_))
 refine zm rfl (zv (WP.loop (zg rfl (zh rfl (af rfl rfl aT) (by decide) ?_))))
 refine zk 3 rfl (WP.exit (zK 3 rfl (zo rfl (aU rfl rfl rfl (s.iB (n:=(mB (bt M) n).length) (j:=0) rfl (by rw [iD,c9]) (by decide) eB)) ?_)))
 obtain ⟨i1,kB,jF,wL⟩:=xF
 obtain ⟨wv,h1,e3,s1⟩:=u_ (P:=Tryz.prog) s eB kB C2 jF (by omega) rfl (by decide) (by decide) (n:=0) (c:=(mB (bt M) n).length) (by omega) (by omega)
 refine aA.any rfl rfl rfl (OpR.of (R:=fun v h'=>v=wv∧h'=h1) (sK rfl rfl e3) ⟨rfl,rfl⟩) ?_
 rintro w0 h ⟨rfl,rfl⟩
 have s:Sat h (.arr 1 w0 []::_):=s1
 obtain ⟨w3,h2,e4,s2⟩:=iK s eB kB C2 jF (by omega) rfl (by decide) (by simp only [iD,bT]; omega)
 rw [cZ] at s2
 refine zm rfl (aA.any rfl rfl rfl (OpR.of (R:=fun v h'=>v=w3∧h'=h2) (mF rfl rfl e4) ⟨rfl,rfl⟩) ?_)
 rintro w3 h ⟨rfl,rfl⟩
 exact zk 3 rfl (WP.ret ⟨aa,_,rfl,_,qo,rfl,sB,ig.trans nN,(((((s2.ae [0,3]).del 5).del 4).del 3).del 2)⟩)
end
def mC (v:V)(cs:List V): au:=.xs fun x:Nat×Nat×List V×Cap×Bool=>.an (.ro x.1 (.cells x.2.1 (cs++x.2.2.1) x.2.2.2.2)) (.pu (v=.sl x.1 0 cs.length x.2.2.2.1∧cs.length+x.2.2.1.length=x.2.1 ∧
 (match x.2.2.2.1 with | .exact c=>cs.length≤c | .rest e _=>e=1∧1≤cs.length)))
theorem aW.mC (v:V)(cs:List V): aW (Am.mC v cs):=aW.xs fun _=>aW.an (aW.ro _ _) (aW.pu _)
section
variable {P:Program} {h:H} {S:List au} {j i k:Nat} {v c x:V} {cs:List V} {t te t':TypeId}
theorem DG (s:Sat h (.arr 1 v cs::S))(hl:1≤cs.length): Sat h (mC v cs::S):=by
 have dS:cs≠[]:=fun e=>by rw [e] at hl; simp at hl
 obtain ⟨m,r,q1,q2,q3⟩:=s.at (k:=0) rfl
 rcases q3.2 with ⟨_,e⟩ | ⟨id,n,cap,N,rest,rfl,hg,e1,e2,e3,e4⟩
 ·exact absurd e dS
 ·obtain ⟨yJ,n',yK,M',J,e,rS,hM',s1,_⟩:=s.EM dS
  injection e with a1 a2 a3 a4
  subst a1; subst a4
  have lW:=s1.row (k:=0) rfl
  have I:=q1 _ _ hg
  rw [lW] at I
  injection I with I
  injection I with b1 b2
  have b2:=List.append_cancel_left b2
  subst b1; subst b2
  have uI:cs.length=n:=by rw [e1,c9]
  refine (gN.2 ⟨(id,M',J,cap,false),s1.freeze.hO fun a b hq=>⟨hq,by rw [uI],e2,?_⟩⟩:Sat h (mC _ _::_))
  cases cap with
  | exact c=>simp only at e4 ⊢; omega
  | rest e alt=>simp only at e4 ⊢; exact ⟨e4.1,hl⟩
theorem Sat.MP (s:Sat h S)(J:getA S j=some (mC v cs)): ∃id M rest cap st,v=.sl id 0 cs.length cap∧cs.length+rest.length=M∧(match cap with | .exact c=>cs.length≤c | .rest e _=>e=1∧1≤cs.length)∧T.get h.tr id=some (.cells M (cs++rest) st):=by
 obtain ⟨m,r,h1,h2,x,h3,I⟩:=s.at J
 exact ⟨x.1,x.2.1,x.2.2.1,x.2.2.2.1,x.2.2.2.2,I.1,I.2.1,I.2.2,h2 _ _ h3⟩
theorem Sat.XF (s:Sat h S)(I:getA S j=some (mC v cs)): v.cells=[v]∧storable v=true∧v.beq v=true:=by
 obtain ⟨id,M,rest,cap,st,rfl,_⟩:=s.MP I
 exact ⟨rfl,rfl,CW _ _ _ _⟩
theorem Sat.IJ (s:Sat h S)(I:getA S j=some (mC v cs))(hu:P.underlying t=some (.slice te)): lenV P h t v=some (.int .i64 (cs.length:Int)):=by
 obtain ⟨id,M,rest,cap,st,rfl,_⟩:=s.MP I
 exact C0 hu
theorem Sat.Za (s:Sat h S)(hj:getA S j=some (mC v cs))(hi:cs[i]?=some c)(hu:P.underlying t=some (.slice te))(I:bH P te=some 1):
  ∃id off,indexAddrV P t v (.int .i64 (i:Int))=some (.ptr id off)∧∀t',cm P t'=some false→loadV P h t' (.ptr id off)=some c:=by
 obtain ⟨id,M,rest,cap,st,rfl,hM,_,hg⟩:=s.MP hj
 have J:=(List.getElem?_eq_some_iff.1 hi).1
 refine ⟨id,i,?_,fun t' ha=>Oc ha hg ?_⟩
 ·simp only [indexAddrV,hu,I,b9]
  rw [show (decide ((0:Int)≤(i:Int))&&decide ((i:Int)<(cs.length:Int)))=true by simp; omega,ag]
  simp
 ·rw [fF,jL J]; exact hi
theorem DH (s:Sat h (.arr 1 v cs::S))(hi:i<cs.length)(hx:x.cells=[x])(J:storable x=true)(hu:P.underlying t=some (.slice te))(hse:bH P te=some 1):
  ∃id off h',indexAddrV P t v (.int .i64 (i:Int))=some (.ptr id off)∧g9 P h te (.ptr id off) x=some h'∧Sat h' (.arr 1 v (cs.set i x)::S):=by
 have dS:cs≠[]:=fun e=>by rw [e] at hi; simp at hi
 have I:=s.Mh (j:=0) rfl
 obtain ⟨id,m,cap,M,rest,rfl,hl,hM,s1,hc⟩:=s.EM dS
 rw [c9] at hl
 obtain ⟨h',e1,e2⟩:=s1.ey (P:=P) (t:=te) (k:=0) (off:=i) (v:=x) rfl hse (by rw [bx,hM]) (by omega) hx J
 refine ⟨id,i,h',?_,e1,hc h' (cs.set i x) S (bW) ?_ ?_⟩
 ·simp only [indexAddrV,hu,hse,b9]
  rw [show (decide ((0:Int)≤(i:Int))&&decide ((i:Int)<(m:Int)))=true by simp; omega,ag]
  simp
 ·rw [lQ] at I ⊢
  intro y hy
  rcases lM hy with hy | rfl
  ·exact I y hy
  ·exact J
 ·have e3:(cs++rest).set i x=cs.set i x++rest:=DZ _ _ hi
  dsimp only [setA] at e2
  rw [e3] at e2
  exact e2
end
structure WS (told:cQ): Prop where
 w:W told
 fmt:told 31=some (kD Tryz.prog 31 (IE 31))
theorem Li {f:Nat→Bool}{k m:Nat}: (mB f (k+m)).length=(mB f k).length+((List.range m).filter fun i=>f (k+i)).length:=by
 unfold mB
 rw [List.range_add,List.filter_append,bx,List.filter_map,fS]
 rfl
theorem Sb {M:List Nat}: ∀k,k≤M.length→(mB (bt M) (8*k)).length=onesL (M.take k):=by
 intro k
 induction k with
 | zero=>intro _; rfl
 | succ k ih =>
  intro hk
  have J:M[k]?=some (M[k]'(by omega)):=bf _
  have I:M.getD k 0=M[k]'(by omega):=by rw [dU,J]; rfl
  rw [show 8*(k+1)=8*k+8 by omega,Li,ih (by omega),DC J]
  congr 1
  unfold sP
  congr 1
  refine List.filter_congr fun i hi => ?_
  rw [DB (List.mem_range.1 hi),I]
theorem Sc {f:Nat→Bool}{n m:Nat}(h:∀j,n≤j→f j=false): (mB f (n+m)).length=(mB f n).length:=by
 rw [Li]
 have:((List.range m).filter fun i=>f (n+i))=[]:=List.filter_eq_nil_iff.2 fun i _=>by rw [h _ (by omega)]; decide
 rw [this]; rfl
theorem iH.aa5 {n:Nat}{R M:List Nat}{P:Int→List Nat}(h:iH n R M P): onesL M=(mB (bt M) n).length:=by
 have I:=Sb (M:=M) 375 (by rw [h.ml]; exact aD _)
 rw [dO (by rw [h.ml]; exact aD _)] at I
 rw [←I,show 8*375=n+(3000-n) by have:=h.n2; omega,Sc h.hi]
theorem PJ {f g:Nat→Bool}{n:Nat}(h:∀i,i<n→f i=g i): mB f n=mB g n:=List.filter_congr fun i hi=>h i (List.mem_range.1 hi)
theorem TJ {P:Program}{E:List (Nat×V)}{h:H}{a t:Nat}{p v:V}(I:look E a=some p)(J:loadV P h t p=some v): iI P E h [.cell a t]=some v:=by simp only [iI,mapO,resE,I,J]
theorem Vh {U:List Bool}{i:Nat}(hi:i<U.length): (fV U)[i]?=some (.bool (U.getD i false)):=by
 rw [fV,mV,bf hi,dU,bf hi]; rfl
theorem m9 (U:List Bool): (fV U).length=U.length:=fS _
section
variable {told:cQ} {h:H} {S:List au} {X Y:au} {N B n g a p q r aH:Nat} {v w x y rv uv:V} {Rt:List V} {U:List Bool} {b l c R M data L:List Nat} {A:aI→au} {pg:aI→Int→List Nat} {ε:aI}
theorem F6 (hT:WS told){K:Nat}{m:Nat}(hB:B≤800)(I:EI N B ε)(hN:4≤N)(J:N≤1000)(hz:(pgA ε 0).length=512)(hg:b7 (pgA ε 0)=false)(hd:vm K m ε)(hf:K+520*N+28≤m)(s:Sat h (SA a p q r .cu data aH ε::S)):
  Call ⟨Tryz.prog,told⟩ 31 [.ptr a 0] h fun v h'=>v=.int .i64 0∧∃ε',EI N (B+2) ε'∧iH N (List.replicate 64 0) BN (pgA ε')∧vm (K+520*N+28) m ε'∧Sat h' (SA a p q r .cu data aH ε'::S)∧XB N B 1 ε ε' :=
 Call.defer hT.fmt IF rfl (PG hB I hN J hz hg hd hf s)
theorem Gv (hT:WS told){m f:Nat}(hN:4≤n)(hN2:n≤1000)(hm:m≤16777216)(hf:520*n+28≤m)(h4:1≤f)(h5:f≤1024)(s:Sat h S):
  Call ⟨Tryz.prog,told⟩ 14 [.int .i64 (n:Int),.int .i64 (m:Int),.int .i64 (f:Int)] h fun v h'=>∃p a q r ε,v=.ptr a 0∧EI n 3 ε∧iH n (List.replicate 64 0) BN (pgA ε)∧vm (520*n+28) m ε∧Sat h' (SA a p q r .cu [] 0 ε::S):=by
 have I:b7 (List.replicate 512 0)=false:=by decide +kernel
 refine Call.of_wp (hT.w.free _ rfl) Tryz.func14 rfl rfl (zK 9 rfl (zc rfl (Dt (n:=n) (m:=m) (f:=f) hT.w s (by omega) (by omega) hm h4 h5) ?_))
 rintro v h ⟨p,a,q,r,rfl,s⟩
 have s:Sat h (SA a p q r .cu [] 0 (fresh n m f)::S):=bQ.2 s
 refine zk 10 rfl (zh rfl (af rfl rfl (vh qn)) (rfl) (zk 2 rfl (zc rfl (F6 (K:=0) (m:=m) hT (by decide) (EI.fresh (by omega) hm h4 h5) hN hN2 (by rw [r9]; exact cY) (by rw [r9]; exact I) ⟨aD _,rfl⟩ (by omega) s) ?_)))
 rintro v h ⟨rfl,ε',J,hp,hd,s,_⟩
 rw [dH] at hd
 exact zh rfl (af rfl rfl aN) (rfl) (zk 9 rfl (WP.ret ⟨aa,_,rfl,p,a,q,r,ε',rfl,J,hp,hd,s⟩))
theorem F7 (I:W told)(s:Sat h (SA a p q r .cu data aH ε::S)): Call ⟨Tryz.prog,told⟩ 15 [.ptr a 0] h fun v h'=>∃g,v=.ptr g 0∧Sat h' (GA g a p q r data aH [] ε::S):=by
 have s:=bQ.1 s
 have s:Sat h (dV a p q r .cu data aH::eF r p q ε.1::b8 q p ε.2.1::aR p ε.2.2::S):=s
 refine Call.of_wp (I.free _ rfl) Tryz.func15 rfl rfl (zK 7 rfl (zc rfl (FN I s) ?_))
 rintro v h ⟨g,rfl,s⟩
 exact zk 10 rfl (zh rfl (af rfl rfl aN) (rfl) (zk 8 rfl (WP.ret ⟨aa,_,rfl,g,rfl,bQ.2 s⟩)))
theorem Bh (I:W told)(J:1≤n)(h2:n≤3000): Call ⟨Tryz.prog,told⟩ 21 [.int .i64 (n:Int)] h fun r h'=>r=.int .i64 2∧h'=h:=by
 have e:(n+2999)/3000=1:=by omega
 refine Call.of_wp (I.free _ rfl) Tryz.func21 rfl rfl (zK 7 rfl (zb rfl (by exact br (aC (by omega) (by omega))) ?_))
 refine zo rfl (af (r:=.int .i64 (((n+2999)/3000:Nat):Int)) rfl rfl (by rw [show (n:Int)+2999=((n+2999:Nat):Int) by omega]; exact Dz (by decide) (by omega))) ?_
 rw [e]
 refine zb rfl (by exact br (aC (by omega) (by omega))) ?_
 exact zk 2 rfl (WP.ret ⟨aa,_,rfl,rfl,rfl⟩)
noncomputable def liL : Code:=dB [1,1,0,1,0,0] ((Tryz.f67.body).getD .skip)
theorem PK (hl:L.length≤1048576)(s:Sat h (.arr 1 v (ej L)::.arr 1 w (ej L)::S)): ∀(m i:Nat) (E:List (Nat×V)) (Q:Ex→List (Nat×V)→H→Prop),i+m=L.length→Has E [(0,v),(1,w),(5,.int .i64 (i:Int))] →
  (∀E',Q (.exit 0) E' h)→WP ⟨Tryz.prog,told⟩ 26 (.loop liL) E h Q:=by
 intro m
 induction m with
 | zero =>
  intro i E Q hi J hq
  refine WP.loop (WP.has J (zK 5 rfl (zo rfl (aU rfl rfl rfl (s.iB (n:=L.length) (j:=0) rfl (by rw [iD,c9]) (by decide) eB)) ?_)))
  refine zh rfl (af rfl rfl aT) (by simp; omega) ?_
  exact zk 2 rfl (WP.exit (hq _))
 | succ m ih =>
  intro i E Q hi J hq
  have hx:(ej L)[i]?=some ((ej L)[i]'(by rw [iD]; omega)):=bf _
  obtain ⟨k,hk⟩:∃k:Nat,(ej L)[i]?=some (.int .i64 (k:Int)):=by
   rw [ej,mV,bf (by omega)]; exact ⟨_,rfl⟩
  obtain ⟨id,off,e1,e2⟩:=mc (P:=Tryz.prog) s (k:=0) (i:=i) rfl hk eB kW
  obtain ⟨kZ,I,e3,e4⟩:=mc (P:=Tryz.prog) s (k:=1) (i:=i) rfl hk eB kW
  refine WP.loop (WP.has J (zK 5 rfl (zo rfl (aU rfl rfl rfl (s.iB (n:=L.length) (j:=0) rfl (by rw [iD,c9]) (by decide) eB)) ?_)))
  refine zt rfl (af rfl rfl aT) (by simp; omega) ?_
  refine zk 4 rfl (WP.block (zw (WP.drawn [ai,ai,ai,ai,ai,ai,ai,ai,ai] rfl (by kernel_rfl) (by kernel_rfl) ?_)))
  refine zM rfl (zM rfl (zO rfl (dr (r:=.ptr id off) rfl rfl e1) (zL rfl (e2 _ dL) (zM rfl (zM rfl (zO rfl (dr (r:=.ptr kZ I) rfl rfl e3) (zL rfl (e4 _ dL) (aB.oD rfl rfl rfl rfl (af rfl rfl aN) (by simp) ?_))))))))
  refine aB.nil ⟨⟨aa,aa,aa,aa,aa,aa,aa,aa,aa,aa⟩,?_⟩
  refine zj rfl (WP.skip (zr rfl (zm rfl (zb rfl (by exact br (aC (by omega) (by omega))) ?_))))
  refine za rfl (zv ?_)
  exact ih (i+1) _ Q (by omega) ⟨rfl,rfl,rfl,aa⟩ hq
theorem Vi (I:W told)(J:L.length≤1048576)(s:Sat h (.arr 1 v (ej L)::.arr 1 w (ej L)::S)): Call ⟨Tryz.prog,told⟩ 67 [v,w] h fun r h'=>r=.bool true∧h'=h:=by
 refine Call.of_wp (I.free _ rfl) Tryz.func67 rfl rfl (zK 8 rfl (zo rfl (aU rfl rfl rfl (s.iB (n:=L.length) (j:=0) rfl (by rw [iD,c9]) (by decide) eB)) ?_))
 refine zm rfl (zo rfl (aU rfl rfl rfl (s.iB (n:=L.length) (j:=1) rfl (by rw [iD,c9]) (by decide) eB)) ?_)
 refine zh rfl (af rfl rfl aN) (by simp) ?_
 refine zk 8 rfl (WP.block ?_)
 refine PK J s L.length 0 _ _ (by omega) ⟨rfl,rfl,rfl,aa⟩ (fun E' => ?_)
 exact WP.has (F:=[]) aa (zK 4 rfl (WP.ret ⟨aa,_,rfl,rfl,rfl⟩))
noncomputable def luL : Code:=dB [1,1,0,1,0,0] ((Tryz.f68.body).getD .skip)
theorem MQ {J:Nat}: ∀(m i:Nat) (v:V) (h:H) (E:List (Nat×V)) (Q:Ex→List (Nat×V)→H→Prop),i+m=U.length→U.length≤3000 →
  Sat h (.arr 1 v (ej (mB (fun i=>U.getD i false) i))::pt J (.cells 17 (uv::Rt) false)::mC uv (fV U)::S)→Has E [(1,.ptr J 0),(3,v),(4,.int .i64 (i:Int))] →
  (∀v' E' h',Has E' [(3,v')]→Sat h' (.arr 1 v' (ej (mB (fun i=>U.getD i false) U.length))::pt J (.cells 17 (uv::Rt) false)::mC uv (fV U)::S)→Q (.exit 0) E' h')→WP ⟨Tryz.prog,told⟩ 22 (.loop luL) E h Q:=by
 intro m
 induction m with
 | zero =>
  intro i v h E Q hi hu s hE I
  have hlen:=s.IJ (P:=Tryz.prog) (j:=2) rfl mq
  rw [m9] at hlen
  refine WP.loop (WP.has hE (zK 4 rfl (zf rfl (kY _ _) (zl rfl (s.ld (k:=1) rfl qY rfl) (zo rfl (aU rfl rfl rfl hlen) (zh rfl (af rfl rfl aT) (by simp; omega) ?_))))))
  refine zk 2 rfl (WP.exit ?_)
  obtain rfl:i=U.length:=by omega
  exact I v _ _ ⟨rfl,aa⟩ s
 | succ m ih =>
  intro i v h E Q hi hu s hE I
  have hlen:=s.IJ (P:=Tryz.prog) (j:=2) rfl mq
  rw [m9] at hlen
  obtain ⟨id,off,e1,e2⟩:=s.Za (P:=Tryz.prog) (j:=2) rfl (Vh (U:=U) (i:=i) (by omega)) mq uf
  have zW:=Bg (f:=fun i=>U.getD i false) (k:=i)
  refine WP.loop (WP.has hE (zK 4 rfl (zf rfl (kY _ _) (zl rfl (s.ld (k:=1) rfl qY rfl) (zo rfl (aU rfl rfl rfl hlen) (zt rfl (af rfl rfl aT) (by simp; omega) ?_))))))
  refine zk 4 rfl (WP.block (zg rfl (zf rfl (kY _ _) (zl rfl (s.ld (k:=1) rfl qY rfl) (zm rfl (zo rfl (dr (r:=.ptr id off) rfl rfl e1) (zl rfl (e2 _ kX) ?_)))))))
  cases hb:U.getD i false with
  | true =>
   refine zk 5 rfl ?_
   obtain ⟨iv,h1,w,h2,e3,e4,s2⟩:=II (k:=i) s (by omega)
   refine aA.any rfl rfl rfl (OpR.of (R:=fun v h'=>v=iv∧h'=h1) (om rfl e3) ⟨rfl,rfl⟩) ?_
   rintro iv h1 ⟨rfl,rfl⟩
   refine aA.any rfl rfl rfl (OpR.of (R:=fun v h'=>v=w∧h'=h2) (mF rfl rfl e4) ⟨rfl,rfl⟩) ?_
   rintro w h2 ⟨rfl,rfl⟩
   refine za rfl (zv (zr rfl (zm rfl (zb rfl (by exact br (aC (by omega) (by omega))) ?_))))
   refine za rfl (zv ?_)
   exact ih (i+1) _ _ _ Q (by omega) hu (by rw [xV]; simp only [hb,aj]; exact s2) ⟨rfl,rfl,rfl,aa⟩ I
  | false =>
   refine zv (zj rfl (WP.skip (zr rfl (zm rfl (zb rfl (by exact br (aC (by omega) (by omega))) ?_)))))
   refine za rfl (zv ?_)
   exact ih (i+1) _ _ _ Q (by omega) hu (by rw [xV]; simp only [hb]; exact s) ⟨rfl,rfl,rfl,aa⟩ I
theorem IK (J:W told)(I:(uv::Rt).all storable=true)(hR:Rt.length=16)(hu:U.length≤3000)(s:Sat h (mC uv (fV U)::S)):
  Call ⟨Tryz.prog,told⟩ 68 [.agg (uv::Rt)] h fun v h'=>Sat h' (.arr 1 v (ej (mB (fun i=>U.getD i false) U.length))::mC uv (fV U)::S):=by
 refine Call.of_wp (J.free _ rfl) Tryz.func68 rfl rfl (zg rfl (aA.b5 s rfl rfl rfl (fe rfl I) ?_))
 intro p1 h s
 dsimp only [V.cells,List.length_cons] at s
 rw [hR] at s
 have s:Sat h (pt p1 (.cells 17 (uv::Rt) false)::_):=s
 refine zk 11 rfl (WP.block ?_)
 have s:=s.oF (k:=1)
 refine MQ U.length 0 _ _ _ _ (by omega) hu s ⟨rfl,rfl,rfl,aa⟩ (fun v' E' h' hE s' => ?_)
 have s:=s'
 exact WP.has hE (zK 5 rfl (WP.ret ⟨aa,_,rfl,s.del 1⟩))
end
theorem Sat.DI {P:Program}{h:H}{S:List au}{j n:Nat}{v:V}{U:List Bool}{t te:TypeId}(s:Sat h S)(I:getA S j=some (mC v (fV U)))(J:U.length=n)(hu:P.underlying t=some (.slice te)): lenV P h t v=some (.int .i64 (n:Int)):=by
 have:=s.IJ (P:=P) I hu
 rwa [m9,J] at this
structure BO (R:List Nat)(Rt:List V): Prop where
 len:Rt.length=16
 st:Rt.all storable=true
 val:∀i,i<16→Rt[i]?=some (.int .i64 (dn R (4*i) 4:Nat))
def F8 : List V:=List.replicate 16 (.int .i64 0)
theorem BO.zero : BO (List.replicate 64 0) F8:=by
 refine ⟨by decide,by decide,?_⟩
 have:∀i,i<16→dn (List.replicate 64 0) (4*i) 4=0:=by decide +kernel
 intro i hi
 rw [this i hi,F8,Au,aj hi]; rfl
section
variable {told:cQ} {h:H} {S:List au} {X Y:au} {N B n g a p q r aH:Nat} {v w x y rv uv:V} {Rt:List V} {U:List Bool} {b l c R M data L:List Nat} {A:aI→au} {pg:aI→Int→List Nat} {ε:aI}
noncomputable def tlL : Code:=dB [1,1,1,1,1,1,0,1,0,0] ((Tryz.f27.body).getD .skip)
theorem MR (hT:W told)(hR:uP told N B rv A pg)(hN:2≤N)(hRt:BO R Rt){p3:Nat}: ∀(m:Nat) (i:Int) (ε:aI) (h:H) (E:List (Nat×V)) (Q:Ex→List (Nat×V)→H→Prop),i+m=17 → -1≤i→EI N B ε→iH n R M (pg ε) →
  Sat h (A ε::pt p3 (.cells 17 (uv::Rt) false)::S)→Has E [(0,rv),(3,.ptr p3 0),(13,.int .i64 i)] →
  (∀ε' E' h',EI N B ε'→Sm N ε ε'→Sat h' (A ε'::pt p3 (.cells 17 (uv::Rt) false)::S)→Q (.exit 0) E' h')→WP ⟨Tryz.prog,told⟩ 112 (.loop tlL) E h Q:=by
 intro m
 induction m with
 | zero =>
  intro i ε h E Q hi h0 J hp s hE hq
  refine WP.loop (WP.has hE (zK 4 rfl (zh rfl (af rfl rfl BY) (by simp; omega) ?_)))
  exact zk 2 rfl (WP.exit (hq ε _ _ J (Sm.refl _ _) s))
 | succ m ih =>
  intro i ε h E Q hi h0 J hp s hE hq
  obtain ⟨ex,pX⟩:=hp.head
  have next:∀(ε':aI) (h:H) (E:List (Nat×V)),EI N B ε'→Sm N ε ε'→Sat h (A ε'::pt p3 (.cells 17 (uv::Rt) false)::S)→Has E [(0,rv),(3,.ptr p3 0),(13,.int .i64 (i+1))]→WP ⟨Tryz.prog,told⟩ 112 (.loop tlL) E h Q:=fun ε' h E he hs s hE =>
   ih (i+1) ε' h E Q (by omega) (by omega) he (by rw [show pg ε'=pg ε from funext (hR.same hs)]; exact hp) s hE fun qo E2 h2 g1 g2 g3=>hq qo E2 h2 g1 (hs.trans g2) g3
  refine WP.loop (WP.has hE (zK 4 rfl (zt rfl (af rfl rfl BY) (by simp; omega) ?_)))
  refine zk 4 rfl (WP.block (zK 4 rfl (zc rfl (U9 (i:=i) hT hR J (by omega) pX hp.rl h0 (by omega) s) ?_)))
  rintro v h ⟨ε',rfl,I,hs,s⟩
  by_cases acg:i<0
  ·rw [ah (by omega)]
   refine zk 9 rfl (zt rfl (af rfl rfl aT) (by simp; omega) ?_)
   refine zk 9 rfl (zh rfl (af rfl rfl aN) (by decide) ?_)
   refine zk 2 rfl (zh rfl (af rfl rfl aN) (by decide) ?_)
   refine zp rfl (zv (zj rfl (WP.skip (zr rfl (zm rfl (zb rfl (by exact br (aC (by omega) (by omega))) ?_))))))
   refine za rfl (zv ?_)
   exact next ε' _ _ I hs s ⟨rfl,rfl,rfl,aa⟩
  ·by_cases H6:15<i
   ·rw [ah (by omega)]
    refine zk 9 rfl (zh rfl (af rfl rfl aT) (by simp; omega) ?_)
    refine zk 2 rfl (zt rfl (af rfl rfl gv) (by simp; omega) ?_)
    refine zk 6 rfl (zh rfl (af rfl rfl aN) (by decide) ?_)
    refine zk 2 rfl (zh rfl (af rfl rfl aN) (by decide) ?_)
    refine zp rfl (zv (zj rfl (WP.skip (zr rfl (zm rfl (zb rfl (by exact br (aC (by omega) (by omega))) ?_))))))
    refine za rfl (zv ?_)
    exact next ε' _ _ I hs s ⟨rfl,rfl,rfl,aa⟩
   ·rw [aj (by omega)]
    obtain ⟨k,rfl⟩:∃k:Nat,i=k:=⟨i.toNat,by omega⟩
    have hrt:=hRt.val k (by omega)
    rw [b9]
    have aa6:nth (uv::Rt) (0+1+k)=some (.int .i64 (dn R (4*k) 4:Nat)):=by
     rw [fF,show 0+1+k=k+1 by omega,kK]; exact hrt
    refine zk 9 rfl (zh rfl (af rfl rfl aT) (by simp) ?_)
    refine zk 2 rfl (zh rfl (af rfl rfl gv) (by simp; omega) ?_)
    refine zk 6 rfl (zh rfl (af rfl rfl aN) (by decide) ?_)
    refine zk 3 rfl (zf rfl (HA _ _) (zo rfl (dr (r:=.ptr p3 (0+1+k)) rfl rfl (by rw [WM,show (decide (0≤(k:Int))&&decide ((k:Int)<((16:Nat):Int)))=true by simp; omega,ag]; simp)) ?_))
    refine zl rfl (s.ld (k:=1) rfl dL aa6) (zh rfl (af rfl rfl aN) (by simp) ?_)
    refine zp rfl (zv (zj rfl (WP.skip (zr rfl (zm rfl (zb rfl (by exact br (aC (by omega) (by omega))) ?_))))))
    refine za rfl (zv ?_)
    exact next ε' _ _ I hs s ⟨rfl,rfl,rfl,aa⟩
theorem IL (hT:W told)(hR:uP told N B rv A pg)(mo:EI N B ε)(hN:2≤N)(hp:iH n R M (pg ε))(I:BO R Rt)(fN:storable uv=true)(hU:U.length=n)(Ah:∀i,i<n→U.getD i false=bt M i)(s:Sat h (A ε::mC uv (fV U)::S)):
  Call ⟨Tryz.prog,told⟩ 27 [rv,.agg (uv::Rt)] h fun v h'=>v=.bool true∧∃ε',EI N B ε'∧Sm N ε ε'∧Sat h' (A ε'::mC uv (fV U)::S):=by
 obtain ⟨ex,pX⟩:=hp.head
 have ux:=hp.n1
 have sA:=hp.n2
 have zW:mB (fun i=>U.getD i false) U.length=mB (bt M) n:=by rw [hU]; exact PJ Ah
 have hlen:=Bg (f:=bt M) (k:=n)
 have J:(uv::Rt).all storable=true:=by simp only [fH,fN,I.st,iu]
 have FZ:∀ {ε':aI},Sm N ε ε'→iH n R M (pg ε'):=fun hs=>by rw [show pg _=pg ε from funext (hR.same hs)]; exact hp
 have hhd:∀ {ε':aI},Sm N ε ε'→dX (pg ε' 0) 201 n ex [fB,R]:=fun hs=>by rw [hR.same hs]; exact pX
 refine Call.of_wp (hT.free _ rfl) Tryz.func27 rfl rfl (zg rfl (aA.b5 s rfl rfl rfl (fe rfl J) ?_))
 intro p3 h s
 dsimp only [V.cells,List.length_cons] at s
 rw [I.len] at s
 have s:Sat h (pt p3 (.cells 17 (uv::Rt) false)::_):=s
 refine zk 5 rfl (zc rfl (Sa hT hR mo hN hp (s.ae [1])) ?_)
 rintro v h ⟨lv,sn,rfl,pO,ig,s⟩
 refine zk 9 rfl (zc rfl (U8 hT hR pO (by omega) (hhd ig) hp.rl (by omega) (by omega) (s.ae [1])) ?_)
 rintro v h ⟨qo,rfl,sB,nN,s⟩
 have nN:=ig.trans nN
 refine zk 9 rfl (zc rfl (Va hT hR sB hN (FZ nN) s) ?_)
 rintro v h ⟨DD,rfl,yt,sC,s⟩
 have sC:=nN.trans sC
 rw [hp.aa5]
 refine zk 9 rfl (zc rfl (Ag hT hR yt (by omega) (hhd sC) hp.rl s) ?_)
 rintro v h ⟨Y_,rfl,XE,TK,s⟩
 have TK:=sC.trans TK
 have s:=s.ae [2,2,1,0]
 have hlb:=(s.jb (j:=2) rfl).2.2
 have uw:=(s.XF (j:=1) rfl)
 refine zk 8 rfl ?_
 have s0:=s
 refine WP.drawn [ai,ai,ai,some (0,2),ai,ai,ai,ai,ai,ai,ai,ai,ai,ai,some (2,2),ai,ai,ai,ai,ai,ai,ai,ai,ai,ai,ai,some (3,2),some (3,2),some (3,2),some (3,2),ai,ai,ai,ai,ai,ai,ai,ai,ai,ai,ai,ai,ai,ai] rfl (by kernel_rfl) (by kernel_rfl) ?_
 refine zM rfl (aB.oD rfl rfl rfl rfl (af rfl rfl aN) (rfl) (zM rfl (zM rfl (zL rfl (s.cA (k:=0) rfl nE ja) (aB.any rfl rfl rfl rfl (OpR.call rfl rfl rfl rfl (IK hT J I.len (by omega) (s.ae [1]))) ?_)))))
 intro mv h s
 rw [zW] at s
 have s1:=s.ae [2,1,1,1,0]
 refine aB.any rfl rfl rfl rfl (OpR.call rfl rfl rfl rfl (Vi hT (by omega) (s.ae [3,0]))) ?_
 rintro v h' ⟨rfl,rfl⟩
 have s:=s1
 refine zO rfl (eD rfl rfl) (zO rfl (kj rfl rfl) (zM rfl (zM rfl (aB.oD rfl rfl rfl rfl (af rfl rfl aN) (rfl) (zO rfl (kj rfl rfl) (zM rfl (zM rfl (zF rfl (kY _ _) (zL rfl (s.ld (k:=0) rfl qY rfl) (zO rfl (aU rfl rfl rfl (s.DI (j:=1) rfl hU mq)) (aB.any rfl rfl rfl rfl (OpR.call rfl rfl rfl rfl (Bh hT (n:=n) (by omega) (by omega))) ?_)))))))))))
 rintro v h' ⟨rfl,rfl⟩
 refine aB.oD rfl rfl rfl rfl (af rfl rfl aN) (by decide) ?_
 refine zO rfl (kj rfl rfl) (zM rfl (zM rfl (aB.oD rfl rfl rfl rfl (af rfl rfl aN) (rfl) (zO rfl (kj rfl rfl) (zM rfl (zM rfl (zF rfl (kY _ _) (zL rfl (s.ld (k:=0) rfl qY rfl) (zO rfl (aU rfl rfl rfl (s.DI (j:=1) rfl hU mq)) (zL rfl (s.cA (k:=0) rfl nE ja) (aB.any rfl rfl rfl rfl (OpR.call rfl rfl rfl rfl (IK hT J I.len (by omega) (s.ae [1]))) ?_)))))))))))
 intro mv2 h s
 rw [zW] at s
 refine zO rfl (aU rfl rfl rfl (s.iB (n:=(mB (bt M) n).length) (j:=0) rfl (by rw [iD,c9]) (by decide) eB)) ?_
 have s:=s.ae [2,1,1,1,1,0]
 refine zO rfl (af rfl rfl (by exact jE (aC (by omega) (by omega)))) ?_
 refine aB.oD rfl rfl rfl rfl (af rfl rfl aN) (by simp) ?_
 refine zO rfl (kj rfl rfl) (zM rfl (zM rfl (aB.oD rfl rfl rfl rfl (af rfl rfl aN) (rfl) (zO rfl (kj rfl rfl) (zM rfl (zM rfl (zO rfl (eD rfl rfl) (zO rfl (kj rfl rfl) ?_))))))))
 refine aB.nil ⟨⟨aa,aa,aa,fun _ _=>.inr ⟨rfl,⟨_,bz rfl⟩,hlb⟩,aa,aa,aa,aa,aa,aa,aa,aa,aa,aa,fun _ _=>.inr ⟨rfl,⟨_,bz rfl⟩,bq _ rfl⟩,aa,aa,aa,aa,aa,aa,aa,aa,aa,aa,aa,fun _ _=>.inr ⟨rfl,⟨_,bz rfl⟩,bq _ rfl⟩,fun _ _=>.inr ⟨rfl,⟨_,lY rfl (kY _ _)⟩,bq _ rfl⟩,dW (.inr ⟨rfl,⟨_,bh rfl (s1.ld (k:=0) rfl qY rfl)⟩,uw.2.2⟩) (.inr ⟨rfl,⟨_,bh rfl (s.ld (k:=0) rfl qY rfl)⟩,uw.2.2⟩),dW (.inr ⟨rfl,⟨_,aU rfl rfl rfl (s1.DI (j:=1) rfl hU mq)⟩,bq _ rfl⟩) (.inr ⟨rfl,⟨_,aU rfl rfl rfl (s.DI (j:=1) rfl hU mq)⟩,bq _ rfl⟩),aa,aa,aa,aa,aa,aa,aa,aa,aa,aa,aa,aa,aa,aa,aa⟩,?_⟩
 refine zK 7 rfl (WP.block ?_)
 refine MR (uv:=uv) hT hR hN I 18 (-1) Y_ _ _ _ (by decide) (by decide) XE (FZ TK) (s.ae [3,0]) ⟨rfl,rfl,rfl,aa⟩ (fun ε' E' h' g1 g2 s' => ?_)
 have s:=s'
 exact WP.has (F:=[]) aa (zK 4 rfl (WP.ret ⟨aa,_,rfl,rfl,ε',g1,TK.trans g2,((((s.ae [0,1]).del 5).del 4).del 3).del 2⟩))
end
end Go.Proofs.YtefepnnfphdkpaaGreat.Am
