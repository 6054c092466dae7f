/- SpacePlays: a part of its proof; conditions: its statement's. -/
import Derived.Test.YtefepnnfphdkpaaGreatE34
set_option linter.defProp false
namespace Go.Proofs.YtefepnnfphdkpaaGreat.Am
open Go
def gd:=@Tryz.underlying50
def GJ:=@Tryz.func31
def yy : List Nat:=((List.replicate 375 0).set 0 1).set 0 3
theorem B_ {j:Nat}: bt yy j=decide (j<2):=by
 unfold bt yy
 by_cases h:j/8=0
 ·have e:(((List.replicate 375 0).set 0 1).set 0 3).getD (j/8) 0=3:=by rw [h]; decide +kernel
  have k:∀i,i<8→(3:Nat).testBit i=decide (i<2):=by decide
  rw [e,k _ (by omega)]
  by_cases I:j<2
  ·rw [dX I,dX (by omega)]
  ·rw [eA I,eA (by omega)]
 ·have e:(((List.replicate 375 0).set 0 1).set 0 3).getD (j/8) 0=0:=by
   rw [dL,eO (by omega),eO (by omega),yE]
   split <;> rfl
  rw [e,Nat.zero_testBit,eA (by omega)]
section
variable {told:cZ} {h:H} {S:List au} {N B K M a p q r aO:Nat} {data:List Nat} {ε:aE}
theorem M8 (hB:B≤800)(fF:EI N B ε)(hN:4≤N)(I4:N≤1000)(hz:(pgA ε 0).length=512)(hg:cj (pgA ε 0)=false)(hd:ga K M ε)(hf:K+520*N+28≤M)(s:Sat h (SA a p q r .b7 data aO ε::S)):
  ∃v h2,(∃N0,∀n,N0≤n→toldDefer CB n 31 [.ptr a 0] h=some (v,h2))∧(v=.int .i64 0∧∃ε',EI N (B+2) ε'∧f_ N (List.replicate 64 0) yy (pgA ε')∧ga (K+520*N+28) M ε'∧Sat h2 (SA a p q r .b7 data aO ε'::S)):=by
 have I:=W.base
 refine GH (C:=CB) GJ rfl rfl (of_decide_eq_true (by kernel_rfl)) ?_
 refine fP.seq (fP.of_wp rfl (zr rfl (za rfl (zv (fP.seq (fP.of_wp rfl (zr rfl (zm rfl (zo rfl (nj rfl (lC o7 rfl)) (zc rfl (En I (Gz I (by omega)) fF (by omega) hz hg s) ?_))))))))))
 rintro v h ⟨j4,rfl,kI,eF,s⟩
 have hd:=hd.sm eF
 have s:Sat h (dx a p q r .b7 data aO::cK r p q j4.1::bx q p j4.2.1::aL p j4.2.2::S):=cq.1 s
 refine zk 5 rfl (zv (fP.seq (fP.of_wp rfl (WP.block (zg rfl (zm rfl (zh rfl (af rfl rfl aG) (rfl) (za rfl (zv (zj rfl (zg rfl (zk 2 rfl (zv (zj rfl (WP.skip (fP.seq (fP.of_wp rfl (zr rfl (zm rfl (zc rfl (O7 I s) ?_))))))))))))))))))))
 rintro v h' ⟨rfl,rfl⟩
 refine zc rfl (AN I (s.ae [3])) ?_
 rintro v h' ⟨rfl,rfl⟩
 rw [kI.ec.dk.aM]
 refine za rfl (zv (fP.seq (fP.of_wp rfl (zr rfl (zm rfl (zc rfl (tD I (n:=N) (by omega) (by omega)) ?_))))))
 rintro v h' ⟨rfl,rfl⟩
 refine za rfl (zv (fP.seq (fP.of_wp rfl (zr rfl (zm rfl (zc rfl (DV I s) ?_))))))
 rintro v h ⟨g,rfl,s⟩
 refine zk 5 rfl (zv (fP.seq (fP.seq (fP.of_wp rfl (zr rfl (zm rfl (zh rfl (af rfl rfl aG) (rfl) (zv (fP.of_wp rfl (zj rfl (WP.skip (fP.seq (fP.defer rfl rfl rfl rfl rfl rfl rfl rfl rfl rfl rfl rfl (fP.seq (fP.seq (fP.of_wp rfl (zr rfl (zk 2 rfl (zb rfl (by exact bg (aB (by omega) (by omega))) ?_)))))))))))))))))))
 refine zh rfl (af rfl rfl aK) (by simp; omega) ?_
 have s:Sat h (GA g a p q r data aO [] j4::S):=cq.2 s
 refine zv (fP.of_wp rfl (zj rfl (WP.skip (fP.seq (fP.seq (fP.of_wp rfl (WP.drawn [some (0,5),some (0,4),ai,ai,ai,ai,ai,ai] rfl (by kernel_rfl) (by kernel_rfl) ?_)))))))
 refine zM rfl (zM rfl (aA.any rfl rfl rfl rfl (OpR.call rfl rfl rfl rfl (Gr I s)) ?_))
 intro mv h s
 refine aA.any rfl rfl rfl rfl (OpR.BD rfl s rfl rfl rfl rfl (by decide)) ?_
 intro XH h s
 have s:=s.gu
 have Vg:(List.replicate 64 0).length=64:=cY
 have hm:=(s.aU (k:=1) rfl (fe _ _)).cells
 have XI:=(s.aU (k:=0) rfl (fe _ _)).cells
 obtain ⟨cv,h1,e1,s1⟩:=SF (P:=Tryz.prog) (x:=mv) (y:=XH) s gZ qR jT rfl hm.1 XI.1 hm.2 XI.2
 refine aA.any rfl rfl rfl rfl (OpR.of (R:=fun v h'=>v=cv∧h'=h1) (mD rfl e1) ⟨rfl,rfl⟩) ?_
 rintro cv h ⟨rfl,rfl⟩
 have s:=(s1.ae [2,1]).two (C:=each (fun v c=>.c5 v c) [mv,XH] [eS,List.replicate 64 0]) (aX.c5 _ _) (aX.c5 _ _) fun a b q1 q2=>⟨q1,q2,aa⟩
 generalize hR:List.replicate 64 0=R at s Vg
 refine aA.any rfl rfl rfl rfl (OpR.call rfl rfl rfl rfl (I3 (kd:=201) (lk:=N) I (by decide) (by omega) (by simp only [tot,eS,aH,bM,Vg]; decide) rfl s)) ?_
 rintro u h ⟨b0,u9,s⟩
 refine aA.any rfl rfl rfl rfl (OpR.call rfl rfl rfl rfl (z_ (i:=0) I (by omega) kI (NW.nil N) (by omega) (s.ae [1,0]) (bz _ _) u9)) ?_
 rintro v h ⟨lX,rfl,j3,fN,Vb,s⟩
 have hd:=hd.sm fN
 refine zA rfl ?_
 refine aA.nil ⟨⟨fun _ _=>.inr ⟨rfl,⟨_,bF rfl⟩,aS _ rfl⟩,fun _ _=>.inr ⟨rfl,⟨_,bF rfl⟩,aS _ rfl⟩,aa,aa,aa,aa,aa,aa,aa⟩,?_⟩
 refine fP.seq (fP.of_wp rfl (zr rfl (zm rfl (zh rfl (af rfl rfl aG) (rfl) (zv (fP.of_wp rfl (zj rfl (WP.skip (fP.seq (fP.seq (fP.of_wp rfl (zr rfl (za rfl (zv (fP.of_wp rfl (WP.block (WP.loop (zw (zg rfl (zk 2 rfl (zt rfl (af rfl rfl aK) (by decide) ?_)))))))))))))))))))))
 refine zv (zi rfl (WP.skip (zw (WP.block (zg rfl (az.any rfl rfl rfl (OpR.BD rfl s rfl rfl rfl rfl (by decide)) ?_))))))
 intro mk h s
 have J:(List.replicate 375 0).length=375:=cY
 have tJ:(List.replicate 375 0)[0]?=some 0:=by decide +kernel
 have QC:yy.length=375:=by unfold yy; rw [bJ,bJ,J]
 have Vh:yy=((List.replicate 375 0).set 0 1).set 0 3:=rfl
 have qY:∀j,bt yy j=decide (j<2):=fun j=>B_
 generalize yy=M0 at QC Vh qY ⊢
 generalize List.replicate 375 0=Z at s J tJ Vh
 obtain ⟨id,off,e2,e3⟩:=dR (s.buf (k:=0) rfl).view tJ
 obtain ⟨GC,YP,e4,h4,e5,s2⟩:=kK s (i:=0) (b:=1) (by omega) (by decide)
 have ee:V.ptr id off=V.ptr GC YP:=by rw [e2] at e4; exact bB e4
 rw [←ee] at e5
 refine zk 8 rfl (WP.block (WP.loop (zg rfl (zt rfl (af rfl rfl aK) (by decide) ?_))))
 refine zk 5 rfl (WP.block (zK 8 rfl (zo rfl (af (r:=.int .i64 0) rfl rfl (by kernel_rfl)) ?_)))
 refine zm rfl (zb rfl (by exact iB (aB (by omega) (by omega))) ?_)
 refine zt rfl (af rfl rfl dh) (by decide) ?_
 refine zk 2 rfl (WP.drawn [ai,ai,ai,ai,ai,ai,ai,ai,ai,ai,ai,ai] rfl (by kernel_rfl) (by kernel_rfl) ?_)
 refine zM rfl (zM rfl (zO rfl (af (r:=.int .i64 0) rfl rfl (by kernel_rfl)) ?_))
 refine zO rfl (af (r:=.int .i64 0) rfl rfl (by kernel_rfl)) ?_
 refine zO rfl (cn (r:=.ptr id off) rfl rfl e2) (zL rfl e3 (zM rfl (zO rfl (af (r:=.int .i64 0) rfl rfl (by kernel_rfl)) ?_)))
 refine zO rfl (af (r:=.int .u8 1) rfl rfl (by kernel_rfl)) ?_
 refine zO rfl (af (r:=.int .u8 1) rfl rfl (by kernel_rfl)) ?_
 refine zO rfl (cn (r:=.ptr id off) rfl rfl e2) (aA.j6 rfl rfl rfl (OpR.vm rfl rfl rfl (⟨h4,e5,s2⟩)) ?_)
 rintro w h ⟨rfl,s⟩
 refine aA.nil ⟨⟨aa,aa,aa,aa,aa,aa,aa,aa,aa,aa,aa,aa,aa⟩,?_⟩
 have EW:(Z.set 0 1)[0]?=some 1:=fu (by omega)
 have DP:(Z.set 0 1).length=375:=by rw [bJ,J]
 obtain ⟨Vi,Pv,e6,e7⟩:=dR (s.buf (k:=0) rfl).view EW
 obtain ⟨id6,YQ,e8,h7,e9,s3⟩:=kK s (i:=0) (b:=3) (by omega) (by decide)
 have ee:V.ptr Vi Pv=V.ptr id6 YQ:=by rw [e6] at e8; exact bB e8
 rw [←ee] at e9
 refine zr rfl (zb rfl (by exact bg (aB (by omega) (by omega))) ?_)
 refine zm rfl (zv (WP.loop (zg rfl (zt rfl (af rfl rfl aK) (by decide) ?_))))
 refine zk 5 rfl (WP.block (zK 8 rfl (zo rfl (af (r:=.int .i64 0) rfl rfl (by kernel_rfl)) ?_)))
 refine zm rfl (zb rfl (by exact iB (aB (by omega) (by omega))) ?_)
 refine zt rfl (af rfl rfl dh) (by decide) ?_
 refine zk 2 rfl (WP.drawn [ai,ai,ai,ai,ai,ai,ai,ai,ai,ai,ai,ai] rfl (by kernel_rfl) (by kernel_rfl) ?_)
 refine zM rfl (zM rfl (zO rfl (af (r:=.int .i64 1) rfl rfl (by kernel_rfl)) ?_))
 refine zO rfl (af (r:=.int .i64 0) rfl rfl (by kernel_rfl)) ?_
 refine zO rfl (cn (r:=.ptr Vi Pv) rfl rfl e6) (zL rfl e7 (zM rfl (zO rfl (af (r:=.int .i64 1) rfl rfl (by kernel_rfl)) ?_)))
 refine zO rfl (af (r:=.int .u8 2) rfl rfl (by kernel_rfl)) ?_
 refine zO rfl (af (r:=.int .u8 3) rfl rfl (by kernel_rfl)) ?_
 refine zO rfl (cn (r:=.ptr Vi Pv) rfl rfl e6) (aA.j6 rfl rfl rfl (OpR.vm rfl rfl rfl (⟨h7,e9,s3⟩)) ?_)
 rintro w h ⟨rfl,s⟩
 refine aA.nil ⟨⟨aa,aa,aa,aa,aa,aa,aa,aa,aa,aa,aa,aa,aa⟩,?_⟩
 rw [←Vh] at s
 refine zr rfl (zb rfl (by exact bg (aB (by omega) (by omega))) ?_)
 refine zm rfl (zv (WP.loop (zg rfl (zh rfl (af rfl rfl aK) (by decide) ?_))))
 refine zk 3 rfl (WP.exit (zK 5 rfl ?_))
 have s:=s.gu
 have QT:=(s.aU (k:=0) rfl (fe _ _)).cells
 obtain ⟨XJ,h8,e10,s4⟩:=lE (P:=Tryz.prog) (k:=1) (x:=mk) s gZ qR jT rfl (by decide) (by decide) (by rw [QT.1]; rfl) (by rw [QT.1]; simp only [gU,k_,QT.2]; rfl)
 rw [QT.1] at s4
 refine az.any rfl rfl rfl (OpR.of (R:=fun v h'=>v=XJ∧h'=h8) (mD rfl e10) ⟨rfl,rfl⟩) ?_
 rintro XJ h ⟨rfl,rfl⟩
 have s:=(s4.ae [1]).iU (B:=each (fun v c=>.c5 v c) [mk] [M0]) fun a b q=>⟨q,aa⟩
 dsimp only [bf,bringA] at s
 refine zc rfl (I3 (kd:=202) (lk:=0) I (by decide) (by decide) (by simp only [tot,aH,bM,QC]; decide) rfl s) ?_
 rintro u h ⟨b1,sA,s⟩
 refine zc rfl (z_ (i:=1) I (by omega) j3 Vb (by omega) (s.ae [1,0]) (bz _ _) sA) ?_
 rintro v h ⟨wD,rfl,tE,lM,wU,s⟩
 dsimp only [bf,bringA] at s
 have hd:=hd.sm lM
 refine za rfl (zv (zg rfl (zm rfl (zh rfl (af rfl rfl aG) (rfl) (zv (zj rfl (WP.skip (zr rfl (zm rfl (zb rfl (by exact bg (aB (by omega) (by omega))) ?_))))))))))
 refine zk 2 rfl (WP.loop (zK 5 rfl (zh rfl (af rfl rfl aK) (by decide) ?_)))
 refine zk 2 rfl (WP.exit (fP.seq (fP.of_wp rfl (zK 2 rfl (zo rfl (dA rfl (B9 (kd:=1))) (zc rfl (Pu (kd:=1) I (by omega) tE wU (by omega) (by decide) (by decide) hd hf s) ?_))))))
 rintro v h ⟨aW,Wp,rfl,Vj,jY,hd4,s⟩
 have wS:f_ N R M0 (dK (dO ((1:Nat):Int) b1 (dO ((0:Nat):Int) b0 [])) wD):=by
  refine ⟨⟨0,?_⟩,Vg,⟨202,0,0,?_⟩,QC,by omega,by omega,fun j hj=>by rw [qY,dX hj],fun j hj=>by rw [qY,eA (by omega)]⟩
  ·rw [jO,ah (by decide),jO,aq (by decide)]; exact u9
  ·rw [jO,aq (by decide)]; exact sA
 refine zk 4 rfl (zv (fP.seq (fP.of_wp rfl (zr rfl (zk 2 rfl (zv (fP.of_wp rfl (WP.ret ?_))))))))
 have s:=s.ae [1]
 have s:=cq.1 s
 have s:=s.ae [4]
 obtain ⟨v2,h2,Iq,rfl,s⟩:=Ke I s
 have s:=s.ae [1,1,1,1]
 have s:Sat h2 (SA a p q r .b7 data aO Wp::_):=cq.2 s
 have U7:zX 33=none:=I.free _ rfl
 exact ⟨aa,h2,_,HK (C:=CB) U7 F8 rfl rfl Iq,qQ rfl,rfl,Wp,Vj,wS.done wU jY,hd4,((s.del 3).del 2).del 1⟩
end
section
variable {told:cZ} {h:H} {S:List au} {X Y:au} {N B n:Nat} {v x y rv:V} {b l c R M:List Nat} {kd link extra ny:Nat} {cs:List (List Nat)} {A:aE→au} {pg:aE→Int→List Nat} {ε:aE}
def lP (f:Nat→Bool)(k:Nat): List Nat:=(List.range k).filter f
theorem wE {f:Nat→Bool}{k:Nat}: lP f (k+1)=if f k then lP f k++[k] else lP f k:=by
 unfold lP
 rw [List.range_succ,Ci]
 cases h:f k with
 | true=>simp [h]
 | false=>simp [h]
theorem Ab {f:Nat→Bool}{k:Nat}: (lP f k).length≤k:=by
 unfold lP
 exact cu (yG _ _) (by rw [List.length_range]; exact aD _)
theorem GK {k:Nat}(s:Sat h (.arr 1 v (dH l)::S))(hl:l.length≤1048576):
  ∃I J w h2,buildSliceV Tryz.prog h 33 1 [(0,.int .i64 (k:Int))]=some (I,J)∧appendV Tryz.prog J #[33,33] v I=some (w,h2)∧Sat h2 (.arr 1 w (dH (l++[k]))::S):=by
 obtain ⟨I,J,e1,s1⟩:=lE (P:=Tryz.prog) (k:=1) (x:=.int .i64 (k:Int)) s cM As kA rfl (by decide) (by decide) rfl rfl
 obtain ⟨i1,jk,iE,tY⟩:=tf
 obtain ⟨w,h2,e2,s2⟩:=g_ (s1.ae [1,0]) cM jk As iE (by omega) rfl (by decide) (by simp only [eH,V.cells,aH,bM]; omega)
 refine ⟨I,J,w,h2,e1,e2,?_⟩
 have e:dH (l++[k])=dH l++[.int .i64 (k:Int)]:=by simp [dH]
 rw [e]
 exact s2.del 1
noncomputable def usL : Code:=cV [1,1,1,1,0,1,0,0,1,1,0,0,1,1,1,1,0,0] ((Tryz.f25.body).getD .skip)
theorem M9 (hT:W told){u:V}(uc:M.length=375)(hn:n≤3000): ∀(m k:Nat) (v:V) (h:H) (E:List (Nat×V)) (Q:Ex→List (Nat×V)→H→Prop),k+m=n →
  Sat h (.arr 1 v (dH (lP (bt M) k))::aZ u M::S)→Has E [(7,v),(8,.int .i64 0),(10,u),(24,.int .i64 1),(25,.int .i64 0),(42,.int .i64 (n:Int)),(43,.int .i64 (k:Int))] →
  (∀v' E' h',Has E' [(7,v'),(24,.int .i64 1),(25,.int .i64 0)]→Sat h' (.arr 1 v' (dH (lP (bt M) n))::aZ u M::S)→Q (.exit 2) E' h')→WP ⟨Tryz.prog,told⟩ 70 (.loop usL) E h Q:=by
 intro m
 induction m with
 | zero =>
  intro k v h E Q hk s hE hq
  refine WP.loop (WP.has hE (zg rfl (zh rfl (af rfl rfl aK) (by simp; omega) ?_)))
  refine zk 3 rfl (WP.exit ?_)
  obtain rfl:k=n:=by omega
  exact hq v _ _ ⟨rfl,rfl,rfl,aa⟩ s
 | succ m ih =>
  intro k v h E Q hk s hE hq
  have hb:M[k/8]?=some (M[k/8]'(by omega)):=aN _
  have J:M.getD (k/8) 0=M[k/8]'(by omega):=by rw [dL,hb]; rfl
  generalize (M[k/8]'(by omega))=x at hb J
  have hv:=(s.buf (k:=1) rfl).view
  have hx:x<256:=hv.1 x (a_ hb)
  have qY:x.testBit (k%8)=bt M k:=by rw [bt,J]
  obtain ⟨id,off,e1,e2⟩:=dR hv hb
  have Iz:x/2^(k%8)<256:=Cj (Cr _ _) hx
  have uc:=Ab (f:=bt M) (k:=k)
  refine WP.loop (WP.has hE (zg rfl (zt rfl (af rfl rfl aK) (by simp; omega) ?_)))
  refine zk 5 rfl (WP.block (zK 9 rfl (zb rfl (z6 (a:=k) (b:=8) (by decide) (by omega)) ?_)))
  refine zo rfl (cn (r:=.ptr id off) rfl rfl e1) (zl rfl e2 (zm rfl (zb rfl (FU (a:=k) (b:=8) (by decide)) ?_)))
  refine zb rfl (MQ (a:=x) (k:=k%8) (by omega)) ?_
  refine zb rfl (MR (b:=1) Iz (by decide)) ?_
  cases I:bt M k with
  | true =>
   refine zt rfl (af rfl rfl Gy) (qY.trans I) (zk 5 rfl (zb rfl (by exact jB (aB (by omega) (by omega))) ?_))
   refine zm rfl (zb rfl (by exact bg (aB (by omega) (by omega))) ?_)
   obtain ⟨iv,h1,w,h2,e3,e4,s2⟩:=GK (k:=k) s (by omega)
   have ek:(3000:Int)*0+(k:Int)=(k:Int):=by omega
   rw [ek]
   refine az.any rfl rfl rfl (OpR.of (R:=fun v h'=>v=iv∧h'=h1) (mD rfl e3) ⟨rfl,rfl⟩) ?_
   rintro iv h1 ⟨rfl,rfl⟩
   refine az.any rfl rfl rfl (OpR.of (R:=fun v h'=>v=w∧h'=h2) (mH rfl rfl e4) ⟨rfl,rfl⟩) ?_
   rintro w h2 ⟨rfl,rfl⟩
   refine za rfl (zv (zr rfl (zb rfl (by exact bg (aB (by omega) (by omega))) ?_)))
   refine zm rfl (zv ?_)
   exact ih (k+1) _ _ _ Q (by omega) (by rw [wE,I,aq rfl]; exact s2) ⟨rfl,rfl,rfl,rfl,rfl,rfl,rfl,aa⟩ hq
  | false =>
   refine zh rfl (af rfl rfl Gy) (qY.trans I) (zv (zj rfl (WP.skip (zr rfl (zb rfl (by exact bg (aB (by omega) (by omega))) ?_)))))
   refine zm rfl (zv ?_)
   exact ih (k+1) _ _ _ Q (by omega) (by rw [wE,I,ah (by decide)]; exact s) ⟨rfl,rfl,rfl,rfl,rfl,rfl,rfl,aa⟩ hq
theorem Pw (hT:W told)(hR:qN told N B rv A pg)(fF:EI N B ε)(hN:2≤N)(J:f_ n R M (pg ε))(s:Sat h (A ε::S)):
  Call ⟨Tryz.prog,told⟩ 25 [rv] h fun v h'=>∃w ε',v=.aY [w,.int .i64 0]∧EI N B ε'∧Sm N ε ε'∧Sat h' (.arr 1 w (dH (lP (bt M) n))::A ε'::S):=by
 obtain ⟨ex,nE⟩:=J.head
 obtain ⟨kd,lk,ny,I⟩:=J.marks
 have hM:=J.ml
 have nM:=J.n2
 have qD:=J.n1
 have uc:=Ab (f:=bt M) (k:=n)
 refine Call.of_wp (hT.free _ rfl) Tryz.func25 rfl rfl (zK 8 rfl (zc rfl (oH hT hR fF (by omega) nE J.rl s) ?_))
 rintro v h ⟨u,j4,rfl,kI,eF,s⟩
 refine zk 12 rfl (zh rfl (af rfl rfl aG) (rfl) (zk 11 rfl (zc rfl (tD hT (by omega) (by omega)) ?_)))
 rintro v h' ⟨rfl,rfl⟩
 refine zb rfl (by exact iB (aB (by omega) (by omega))) ?_
 refine zk 2 rfl (WP.block (WP.loop (zg rfl (zt rfl (af rfl rfl aK) (by decide) ?_))))
 have I:dP (pg j4 1) kd lk ny [M]:=by rw [hR.same eF]; exact I
 refine zk 5 rfl (WP.block (zK 9 rfl (zc rfl (qh hT hR kI hN I hM (s.ae [1])) ?_)))
 rintro v h ⟨w2,u2,lX,rfl,j3,fN,s⟩
 refine zk 12 rfl (zh rfl (af rfl rfl aG) (rfl) (zk 7 rfl (zb rfl (by exact jB (aB (by omega) (by omega))) ?_)))
 refine zb rfl (by exact iB (aB (by omega) (by omega))) ?_
 have em:min (3000:Int) ((n:Int)-3000*0)=(n:Int):=by omega
 refine zo rfl (Of (r:=.int .i64 (n:Int)) rfl rfl (YJ.trans (by rw [em]))) ?_
 refine zk 2 rfl (WP.block ?_)
 have s:=s.nI (k:=1)
 refine M9 hT hM (by omega) n 0 _ _ _ _ (by omega) s ⟨rfl,rfl,rfl,rfl,rfl,rfl,rfl,aa⟩ (fun v' E' h' hE s' => ?_)
 have s:=s'
 refine WP.has hE (zr rfl (zb rfl (by exact bg (aB (by omega) (by omega))) ?_))
 refine zm rfl (zv (WP.loop (zg rfl (zh rfl (af rfl rfl aK) (by decide) ?_))))
 refine zk 3 rfl (WP.exit (zK 3 rfl (zo rfl (aT rfl rfl rfl (s.eY (n:=(lP (bt M) n).length) (j:=0) rfl (by rw [eH,cx]) (by decide) cM)) ?_)))
 obtain ⟨i1,jk,iE,tY⟩:=tf
 obtain ⟨wv,h1,e3,s1⟩:=qy (P:=Tryz.prog) s cM jk As iE (by omega) rfl (by decide) (by decide) (n:=0) (c:=(lP (bt M) n).length) (by omega) (by omega)
 refine az.any rfl rfl rfl (OpR.of (R:=fun v h'=>v=wv∧h'=h1) (ry rfl rfl e3) ⟨rfl,rfl⟩) ?_
 rintro w0 h ⟨rfl,rfl⟩
 have s:Sat h (.arr 1 w0 []::_):=s1
 obtain ⟨w3,h2,e4,s2⟩:=g_ s cM jk As iE (by omega) rfl (by decide) (by simp only [eH,bM]; omega)
 rw [dn] at s2
 refine zm rfl (az.any rfl rfl rfl (OpR.of (R:=fun v h'=>v=w3∧h'=h2) (mH rfl rfl e4) ⟨rfl,rfl⟩) ?_)
 rintro w3 h ⟨rfl,rfl⟩
 exact zk 3 rfl (WP.ret ⟨aa,_,rfl,_,lX,rfl,j3,eF.trans fN,(((((s2.ae [0,3]).del 5).del 4).del 3).del 2)⟩)
end
def jx (v:V)(cs:List V): au:=.xs fun x:Nat×Nat×List V×Cap×Bool=>.an (.ro x.1 (.cells x.2.1 (cs++x.2.2.1) x.2.2.2.2)) (.pu (v=.sl x.1 0 cs.length x.2.2.2.1∧cs.length+x.2.2.1.length=x.2.1 ∧
 (match x.2.2.2.1 with | .exact c=>cs.length≤c | .rest e _=>e=1∧1≤cs.length)))
theorem aX.jx (v:V)(cs:List V): aX (Am.jx v cs):=aX.xs fun _=>aX.an (aX.ro _ _) (aX.pu _)
section
variable {P:Program} {h:H} {S:List au} {j i k:Nat} {v c x:V} {cs:List V} {t te t':TypeId}
theorem Ca (s:Sat h (.arr 1 v cs::S))(hl:1≤cs.length): Sat h (jx v cs::S):=by
 have dz:cs≠[]:=fun e=>by rw [e] at hl; simp at hl
 obtain ⟨m,r,q1,q2,q3⟩:=s.at (k:=0) rfl
 rcases q3.2 with ⟨_,e⟩ | ⟨id,n,cap,N,rest,rfl,hg,e1,e2,e3,e4⟩
 ·exact absurd e dz
 ·obtain ⟨xm,n',xn,M',J,e,vf,hM',s1,_⟩:=s.CZ dz
  injection e with a1 a2 a3 a4
  subst a1; subst a4
  have Aq:=s1.row (k:=0) rfl
  have I:=q1 _ _ hg
  rw [Aq] at I
  injection I with I
  injection I with b1 b2
  have b2:=List.append_cancel_left b2
  subst b1; subst b2
  have tj:cs.length=n:=by rw [e1,cx]
  refine (kz.2 ⟨(id,M',J,cap,false),s1.freeze.iU fun a b hq=>⟨hq,by rw [tj],e2,?_⟩⟩:Sat h (jx _ _::_))
  cases cap with
  | exact c=>simp only at e4 ⊢; omega
  | rest e alt=>simp only at e4 ⊢; exact ⟨e4.1,hl⟩
theorem Sat.Ky (s:Sat h S)(J:getA S j=some (jx v cs)): ∃id M rest cap st,v=.sl id 0 cs.length cap∧cs.length+rest.length=M∧(match cap with | .exact c=>cs.length≤c | .rest e _=>e=1∧1≤cs.length)∧T.get h.tr id=some (.cells M (cs++rest) st):=by
 obtain ⟨m,r,h1,h2,x,h3,I⟩:=s.at J
 exact ⟨x.1,x.2.1,x.2.2.1,x.2.2.2.1,x.2.2.2.2,I.1,I.2.1,I.2.2,h2 _ _ h3⟩
theorem Sat.Vk (s:Sat h S)(I:getA S j=some (jx v cs)): v.cells=[v]∧storable v=true∧v.beq v=true:=by
 obtain ⟨id,M,rest,cap,st,rfl,_⟩:=s.Ky I
 exact ⟨rfl,rfl,Bw _ _ _ _⟩
theorem Sat.GL (s:Sat h S)(I:getA S j=some (jx v cs))(hu:P.underlying t=some (.slice te)): lenV P h t v=some (.int .i64 (cs.length:Int)):=by
 obtain ⟨id,M,rest,cap,st,rfl,_⟩:=s.Ky I
 exact Fs hu
theorem Sat.Wq (s:Sat h S)(hj:getA S j=some (jx v cs))(hi:cs[i]?=some c)(hu:P.underlying t=some (.slice te))(I:bq P te=some 1):
  ∃id off,indexAddrV P t v (.int .i64 (i:Int))=some (.ptr id off)∧∀t',b8 P t'=some false→loadV P h t' (.ptr id off)=some c:=by
 obtain ⟨id,M,rest,cap,st,rfl,hM,_,hg⟩:=s.Ky hj
 have J:=(List.getElem?_eq_some_iff.1 hi).1
 refine ⟨id,i,?_,fun t' ha=>Io ha hg ?_⟩
 ·simp only [indexAddrV,hu,I,bP]
  rw [show (decide ((0:Int)≤(i:Int))&&decide ((i:Int)<(cs.length:Int)))=true by simp; omega,ag]
  simp
 ·rw [fG,iF J]; exact hi
theorem rF (s:Sat h (.arr 1 v cs::S))(hi:i<cs.length)(hx:x.cells=[x])(J:storable x=true)(hu:P.underlying t=some (.slice te))(XK:bq P te=some 1):
  ∃id off h',indexAddrV P t v (.int .i64 (i:Int))=some (.ptr id off)∧fK P h te (.ptr id off) x=some h'∧Sat h' (.arr 1 v (cs.set i x)::S):=by
 have dz:cs≠[]:=fun e=>by rw [e] at hi; simp at hi
 have I:=s.JR (j:=0) rfl
 obtain ⟨id,m,cap,M,rest,rfl,hl,hM,s1,hc⟩:=s.CZ dz
 rw [cx] at hl
 obtain ⟨h',e1,e2⟩:=s1.gO (P:=P) (t:=te) (k:=0) (off:=i) (v:=x) rfl XK (by rw [bU,hM]) (by omega) hx J
 refine ⟨id,i,h',?_,e1,hc h' (cs.set i x) S (bJ) ?_ ?_⟩
 ·simp only [indexAddrV,hu,XK,bP]
  rw [show (decide ((0:Int)≤(i:Int))&&decide ((i:Int)<(m:Int)))=true by simp; omega,ag]
  simp
 ·rw [m9] at I ⊢
  intro y hy
  rcases kV hy with hy | rfl
  ·exact I y hy
  ·exact J
 ·have e3:(cs++rest).set i x=cs.set i x++rest:=Cd _ _ hi
  dsimp only [setA] at e2
  rw [e3] at e2
  exact e2
end
structure WS (told:cZ): Prop where
 w:W told
 fmt:told 31=some (l8 Tryz.prog 31 (GI 31))
theorem I5 {f:Nat→Bool}{k m:Nat}: (lP f (k+m)).length=(lP f k).length+((List.range m).filter fun i=>f (k+i)).length:=by
 unfold lP
 rw [List.range_add,Ci,bU,List.filter_map,dF]
 rfl
theorem Px {M:List Nat}: ∀k,k≤M.length→(lP (bt M) (8*k)).length=onesL (M.take k):=by
 intro k
 induction k with
 | zero=>intro _; rfl
 | succ k ih =>
  intro hk
  have J:M[k]?=some (M[k]'(by omega)):=aN _
  have I:M.getD k 0=M[k]'(by omega):=by rw [dL,J]; rfl
  rw [show 8*(k+1)=8*k+8 by omega,I5,ih (by omega),B8 J]
  congr 1
  unfold rE
  congr 1
  refine uP fun i hi => ?_
  rw [z7 (List.mem_range.1 hi),I]
theorem Py {f:Nat→Bool}{n m:Nat}(h:∀j,n≤j→f j=false): (lP f (n+m)).length=(lP f n).length:=by
 rw [I5]
 have:((List.range m).filter fun i=>f (n+i))=[]:=List.filter_eq_nil_iff.2 fun i _=>by rw [h _ (by omega)]; decide
 rw [this]; rfl
theorem f_.YR {n:Nat}{R M:List Nat}{P:Int→List Nat}(h:f_ n R M P): onesL M=(lP (bt M) n).length:=by
 have I:=Px (M:=M) 375 (by rw [h.ml]; exact aD _)
 rw [fq (by rw [h.ml]; exact aD _)] at I
 rw [←I,show 8*375=n+(3000-n) by have:=h.n2; omega,Py h.hi]
theorem M_ {f g:Nat→Bool}{n:Nat}(h:∀i,i<n→f i=g i): lP f n=lP g n:=uP fun i hi=>h i (List.mem_range.1 hi)
theorem QU {P:Program}{E:List (Nat×V)}{h:H}{a t:Nat}{p v:V}(I:look E a=some p)(J:loadV P h t p=some v): jA P E h [.cell a t]=some v:=by simp only [jA,mapO,resE,I,J]
theorem vB {U:List Bool}{i:Nat}(hi:i<U.length): (eo U)[i]?=some (.bool (U.getD i false)):=by
 rw [eo,m8,aN hi,dL,aN hi]; rfl
theorem iy (U:List Bool): (eo U).length=U.length:=dF _
section
variable {told:cZ} {h:H} {S:List au} {X Y:au} {N B n g a p q r aO:Nat} {v w x y rv uv:V} {Rt:List V} {U:List Bool} {b l c R M data L:List Nat} {A:aE→au} {pg:aE→Int→List Nat} {ε:aE}
theorem Na (hT:WS told){K:Nat}{m:Nat}(hB:B≤800)(I:EI N B ε)(hN:4≤N)(J:N≤1000)(hz:(pgA ε 0).length=512)(hg:cj (pgA ε 0)=false)(hd:ga K m ε)(hf:K+520*N+28≤m)(s:Sat h (SA a p q r .b7 data aO ε::S)):
  Call ⟨Tryz.prog,told⟩ 31 [.ptr a 0] h fun v h'=>v=.int .i64 0∧∃ε',EI N (B+2) ε'∧f_ N (List.replicate 64 0) yy (pgA ε')∧ga (K+520*N+28) m ε'∧Sat h' (SA a p q r .b7 data aO ε'::S) :=
 Call.defer hT.fmt GJ rfl (M8 hB I hN J hz hg hd hf s)
theorem wV (hT:WS told){m f:Nat}(hN:4≤n)(I4:n≤1000)(hm:m≤16777216)(hf:520*n+28≤m)(h4:1≤f)(h5:f≤1024)(s:Sat h S):
  Call ⟨Tryz.prog,told⟩ 14 [.int .i64 (n:Int),.int .i64 (m:Int),.int .i64 (f:Int)] h fun v h'=>∃p a q r ε,v=.ptr a 0∧EI n 3 ε∧f_ n (List.replicate 64 0) yy (pgA ε)∧ga (520*n+28) m ε∧Sat h' (SA a p q r .b7 [] 0 ε::S):=by
 have I:cj (List.replicate 512 0)=false:=by decide +kernel
 refine Call.of_wp (hT.w.free _ rfl) Tryz.func14 rfl rfl (zK 9 rfl (zc rfl (Kj (n:=n) (m:=m) (f:=f) hT.w s (by omega) (by omega) hm h4 h5) ?_))
 rintro v h ⟨p,a,q,r,rfl,s⟩
 have s:Sat h (SA a p q r .b7 [] 0 (fresh n m f)::S):=cq.2 s
 refine zk 10 rfl (zh rfl (af rfl rfl (wm o7)) (rfl) (zk 2 rfl (zc rfl (Na (K:=0) (m:=m) hT (by decide) (EI.fresh (by omega) hm h4 h5) hN I4 (by rw [D5]; exact cY) (by rw [D5]; exact I) ⟨aD _,rfl⟩ (by omega) s) ?_)))
 rintro v h ⟨rfl,ε',J,hp,hd,s⟩
 rw [dY] at hd
 exact zh rfl (af rfl rfl aG) (rfl) (zk 9 rfl (WP.ret ⟨aa,_,rfl,p,a,q,r,ε',rfl,J,hp,hd,s⟩))
theorem qO (I:W told)(s:Sat h (SA a p q r .b7 data aO ε::S)): Call ⟨Tryz.prog,told⟩ 15 [.ptr a 0] h fun v h'=>∃g,v=.ptr g 0∧Sat h' (GA g a p q r data aO [] ε::S):=by
 have s:=cq.1 s
 have s:Sat h (dx a p q r .b7 data aO::cK r p q ε.1::bx q p ε.2.1::aL p ε.2.2::S):=s
 refine Call.of_wp (I.free _ rfl) Tryz.func15 rfl rfl (zK 7 rfl (zc rfl (DV I s) ?_))
 rintro v h ⟨g,rfl,s⟩
 exact zk 10 rfl (zh rfl (af rfl rfl aG) (rfl) (zk 8 rfl (WP.ret ⟨aa,_,rfl,g,rfl,cq.2 s⟩)))
theorem oI (I:W told)(J:1≤n)(h2:n≤3000): Call ⟨Tryz.prog,told⟩ 21 [.int .i64 (n:Int)] h fun r h'=>r=.int .i64 2∧h'=h:=by
 have e:(n+2999)/3000=1:=by omega
 refine Call.of_wp (I.free _ rfl) Tryz.func21 rfl rfl (zK 7 rfl (zb rfl (by exact bg (aB (by omega) (by omega))) ?_))
 refine zo rfl (af (r:=.int .i64 (((n+2999)/3000:Nat):Int)) rfl rfl (by rw [show (n:Int)+2999=((n+2999:Nat):Int) by omega]; exact z6 (by decide) (by omega))) ?_
 rw [e]
 refine zb rfl (by exact bg (aB (by omega) (by omega))) ?_
 exact zk 2 rfl (WP.ret ⟨aa,_,rfl,rfl,rfl⟩)
noncomputable def liL : Code:=cV [1,1,0,1,0,0] ((Tryz.f67.body).getD .skip)
theorem Nb (hl:L.length≤1048576)(s:Sat h (.arr 1 v (dH L)::.arr 1 w (dH L)::S)): ∀(m i:Nat) (E:List (Nat×V)) (Q:Ex→List (Nat×V)→H→Prop),i+m=L.length→Has E [(0,v),(1,w),(5,.int .i64 (i:Int))] →
  (∀E',Q (.exit 0) E' h)→WP ⟨Tryz.prog,told⟩ 26 (.loop liL) E h Q:=by
 intro m
 induction m with
 | zero =>
  intro i E Q hi J hq
  refine WP.loop (WP.has J (zK 5 rfl (zo rfl (aT rfl rfl rfl (s.eY (n:=L.length) (j:=0) rfl (by rw [eH,cx]) (by decide) cM)) ?_)))
  refine zh rfl (af rfl rfl aK) (by simp; omega) ?_
  exact zk 2 rfl (WP.exit (hq _))
 | succ m ih =>
  intro i E Q hi J hq
  have hx:(dH L)[i]?=some ((dH L)[i]'(by rw [eH]; omega)):=aN _
  obtain ⟨k,hk⟩:∃k:Nat,(dH L)[i]?=some (.int .i64 (k:Int)):=by
   rw [dH,m8,aN (by omega)]; exact ⟨_,rfl⟩
  obtain ⟨id,off,e1,e2⟩:=fY (P:=Tryz.prog) s (k:=0) (i:=i) rfl hk cM kA
  obtain ⟨qx,I,e3,e4⟩:=fY (P:=Tryz.prog) s (k:=1) (i:=i) rfl hk cM kA
  refine WP.loop (WP.has J (zK 5 rfl (zo rfl (aT rfl rfl rfl (s.eY (n:=L.length) (j:=0) rfl (by rw [eH,cx]) (by decide) cM)) ?_)))
  refine zt rfl (af rfl rfl aK) (by simp; omega) ?_
  refine zk 4 rfl (WP.block (zw (WP.drawn [ai,ai,ai,ai,ai,ai,ai,ai,ai] rfl (by kernel_rfl) (by kernel_rfl) ?_)))
  refine zM rfl (zM rfl (zO rfl (cn (r:=.ptr id off) rfl rfl e1) (zL rfl (e2 _ cA) (zM rfl (zM rfl (zO rfl (cn (r:=.ptr qx I) rfl rfl e3) (zL rfl (e4 _ cA) (aA.lK rfl rfl rfl rfl (af rfl rfl aG) (by simp) ?_))))))))
  refine aA.nil ⟨⟨aa,aa,aa,aa,aa,aa,aa,aa,aa,aa⟩,?_⟩
  refine zj rfl (WP.skip (zr rfl (zm rfl (zb rfl (by exact bg (aB (by omega) (by omega))) ?_))))
  refine za rfl (zv ?_)
  exact ih (i+1) _ Q (by omega) ⟨rfl,rfl,rfl,aa⟩ hq
theorem SH (I:W told)(J:L.length≤1048576)(s:Sat h (.arr 1 v (dH L)::.arr 1 w (dH L)::S)): Call ⟨Tryz.prog,told⟩ 67 [v,w] h fun r h'=>r=.bool true∧h'=h:=by
 refine Call.of_wp (I.free _ rfl) Tryz.func67 rfl rfl (zK 8 rfl (zo rfl (aT rfl rfl rfl (s.eY (n:=L.length) (j:=0) rfl (by rw [eH,cx]) (by decide) cM)) ?_))
 refine zm rfl (zo rfl (aT rfl rfl rfl (s.eY (n:=L.length) (j:=1) rfl (by rw [eH,cx]) (by decide) cM)) ?_)
 refine zh rfl (af rfl rfl aG) (by simp) ?_
 refine zk 8 rfl (WP.block ?_)
 refine Nb J s L.length 0 _ _ (by omega) ⟨rfl,rfl,rfl,aa⟩ (fun E' => ?_)
 exact WP.has (F:=[]) aa (zK 4 rfl (WP.ret ⟨aa,_,rfl,rfl,rfl⟩))
noncomputable def luL : Code:=cV [1,1,0,1,0,0] ((Tryz.f68.body).getD .skip)
theorem Kz {J:Nat}: ∀(m i:Nat) (v:V) (h:H) (E:List (Nat×V)) (Q:Ex→List (Nat×V)→H→Prop),i+m=U.length→U.length≤3000 →
  Sat h (.arr 1 v (dH (lP (fun i=>U.getD i false) i))::pt J (.cells 17 (uv::Rt) false)::jx uv (eo U)::S)→Has E [(1,.ptr J 0),(3,v),(4,.int .i64 (i:Int))] →
  (∀v' E' h',Has E' [(3,v')]→Sat h' (.arr 1 v' (dH (lP (fun i=>U.getD i false) U.length))::pt J (.cells 17 (uv::Rt) false)::jx uv (eo U)::S)→Q (.exit 0) E' h')→WP ⟨Tryz.prog,told⟩ 22 (.loop luL) E h Q:=by
 intro m
 induction m with
 | zero =>
  intro i v h E Q hi hu s hE I
  have hlen:=s.GL (P:=Tryz.prog) (j:=2) rfl gd
  rw [iy] at hlen
  refine WP.loop (WP.has hE (zK 4 rfl (zf rfl (d_ _ _) (zl rfl (s.ld (k:=1) rfl iC rfl) (zo rfl (aT rfl rfl rfl hlen) (zh rfl (af rfl rfl aK) (by simp; omega) ?_))))))
  refine zk 2 rfl (WP.exit ?_)
  obtain rfl:i=U.length:=by omega
  exact I v _ _ ⟨rfl,aa⟩ s
 | succ m ih =>
  intro i v h E Q hi hu s hE I
  have hlen:=s.GL (P:=Tryz.prog) (j:=2) rfl gd
  rw [iy] at hlen
  obtain ⟨id,off,e1,e2⟩:=s.Wq (P:=Tryz.prog) (j:=2) rfl (vB (U:=U) (i:=i) (by omega)) gd oS
  have uc:=Ab (f:=fun i=>U.getD i false) (k:=i)
  refine WP.loop (WP.has hE (zK 4 rfl (zf rfl (d_ _ _) (zl rfl (s.ld (k:=1) rfl iC rfl) (zo rfl (aT rfl rfl rfl hlen) (zt rfl (af rfl rfl aK) (by simp; omega) ?_))))))
  refine zk 4 rfl (WP.block (zg rfl (zf rfl (d_ _ _) (zl rfl (s.ld (k:=1) rfl iC rfl) (zm rfl (zo rfl (cn (r:=.ptr id off) rfl rfl e1) (zl rfl (e2 _ kB) ?_)))))))
  cases hb:U.getD i false with
  | true =>
   refine zk 5 rfl ?_
   obtain ⟨iv,h1,w,h2,e3,e4,s2⟩:=GK (k:=i) s (by omega)
   refine az.any rfl rfl rfl (OpR.of (R:=fun v h'=>v=iv∧h'=h1) (mD rfl e3) ⟨rfl,rfl⟩) ?_
   rintro iv h1 ⟨rfl,rfl⟩
   refine az.any rfl rfl rfl (OpR.of (R:=fun v h'=>v=w∧h'=h2) (mH rfl rfl e4) ⟨rfl,rfl⟩) ?_
   rintro w h2 ⟨rfl,rfl⟩
   refine za rfl (zv (zr rfl (zm rfl (zb rfl (by exact bg (aB (by omega) (by omega))) ?_))))
   refine za rfl (zv ?_)
   exact ih (i+1) _ _ _ Q (by omega) hu (by rw [wE]; simp only [hb,aq]; exact s2) ⟨rfl,rfl,rfl,aa⟩ I
  | false =>
   refine zv (zj rfl (WP.skip (zr rfl (zm rfl (zb rfl (by exact bg (aB (by omega) (by omega))) ?_)))))
   refine za rfl (zv ?_)
   exact ih (i+1) _ _ _ Q (by omega) hu (by rw [wE]; simp only [hb]; exact s) ⟨rfl,rfl,rfl,aa⟩ I
theorem GM (J:W told)(I:(uv::Rt).all storable=true)(hR:Rt.length=16)(hu:U.length≤3000)(s:Sat h (jx uv (eo U)::S)):
  Call ⟨Tryz.prog,told⟩ 68 [.agg (uv::Rt)] h fun v h'=>Sat h' (.arr 1 v (dH (lP (fun i=>U.getD i false) U.length))::jx uv (eo U)::S):=by
 refine Call.of_wp (J.free _ rfl) Tryz.func68 rfl rfl (zg rfl (az.cz s rfl rfl rfl (fc rfl I) ?_))
 intro p1 h s
 dsimp only [V.cells,List.length_cons] at s
 rw [hR] at s
 have s:Sat h (pt p1 (.cells 17 (uv::Rt) false)::_):=s
 refine zk 11 rfl (WP.block ?_)
 have s:=s.nI (k:=1)
 refine Kz U.length 0 _ _ _ _ (by omega) hu s ⟨rfl,rfl,rfl,aa⟩ (fun v' E' h' hE s' => ?_)
 have s:=s'
 exact WP.has hE (zK 5 rfl (WP.ret ⟨aa,_,rfl,s.del 1⟩))
end
theorem Sat.EE {P:Program}{h:H}{S:List au}{j n:Nat}{v:V}{U:List Bool}{t te:TypeId}(s:Sat h S)(I:getA S j=some (jx v (eo U)))(J:U.length=n)(hu:P.underlying t=some (.slice te)): lenV P h t v=some (.int .i64 (n:Int)):=by
 have:=s.GL (P:=P) I hu
 rwa [iy,J] at this
structure wW (R:List Nat)(Rt:List V): Prop where
 len:Rt.length=16
 st:Rt.all storable=true
 val:∀i,i<16→Rt[i]?=some (.int .i64 (cT R (4*i) 4:Nat))
def AD : List V:=List.replicate 16 (.int .i64 0)
theorem wW.zero : wW (List.replicate 64 0) AD:=by
 refine ⟨by decide,by decide,?_⟩
 have:∀i,i<16→cT (List.replicate 64 0) (4*i) 4=0:=by decide +kernel
 intro i hi
 rw [this i hi,AD,yE,aq hi]; rfl
section
variable {told:cZ} {h:H} {S:List au} {X Y:au} {N B n g a p q r aO:Nat} {v w x y rv uv:V} {Rt:List V} {U:List Bool} {b l c R M data L:List Nat} {A:aE→au} {pg:aE→Int→List Nat} {ε:aE}
noncomputable def XL : Code:=cV [1,1,1,1,1,1,0,1,0,0] ((Tryz.f27.body).getD .skip)
theorem KA (hT:W told)(hR:qN told N B rv A pg)(hN:2≤N)(hRt:wW R Rt){p3:Nat}: ∀(m:Nat) (i:Int) (ε:aE) (h:H) (E:List (Nat×V)) (Q:Ex→List (Nat×V)→H→Prop),i+m=17 → -1≤i→EI N B ε→f_ n R M (pg ε) →
  Sat h (A ε::pt p3 (.cells 17 (uv::Rt) false)::S)→Has E [(0,rv),(3,.ptr p3 0),(13,.int .i64 i)] →
  (∀ε' E' h',EI N B ε'→Sm N ε ε'→Sat h' (A ε'::pt p3 (.cells 17 (uv::Rt) false)::S)→Q (.exit 0) E' h')→WP ⟨Tryz.prog,told⟩ 112 (.loop XL) E h Q:=by
 intro m
 induction m with
 | zero =>
  intro i ε h E Q hi h0 J hp s hE hq
  refine WP.loop (WP.has hE (zK 4 rfl (zh rfl (af rfl rfl Ft) (by simp; omega) ?_)))
  exact zk 2 rfl (WP.exit (hq ε _ _ J (Sm.refl _ _) s))
 | succ m ih =>
  intro i ε h E Q hi h0 J hp s hE hq
  obtain ⟨ex,nE⟩:=hp.head
  have next:∀(ε':aE) (h:H) (E:List (Nat×V)),EI N B ε'→Sm N ε ε'→Sat h (A ε'::pt p3 (.cells 17 (uv::Rt) false)::S)→Has E [(0,rv),(3,.ptr p3 0),(13,.int .i64 (i+1))]→WP ⟨Tryz.prog,told⟩ 112 (.loop XL) E h Q:=fun ε' h E he hs s hE =>
   ih (i+1) ε' h E Q (by omega) (by omega) he (by rw [show pg ε'=pg ε from funext (hR.same hs)]; exact hp) s hE fun lX E2 h2 g1 g2 g3=>hq lX E2 h2 g1 (hs.trans g2) g3
  refine WP.loop (WP.has hE (zK 4 rfl (zt rfl (af rfl rfl Ft) (by simp; omega) ?_)))
  refine zk 4 rfl (WP.block (zK 4 rfl (zc rfl (Sy (i:=i) hT hR J (by omega) nE hp.rl h0 (by omega) s) ?_)))
  rintro v h ⟨ε',rfl,I,hs,s⟩
  by_cases aaF:i<0
  ·rw [ah (by omega)]
   refine zk 9 rfl (zt rfl (af rfl rfl aK) (by simp; omega) ?_)
   refine zk 9 rfl (zh rfl (af rfl rfl aG) (by decide) ?_)
   refine zk 2 rfl (zh rfl (af rfl rfl aG) (by decide) ?_)
   refine zp rfl (zv (zj rfl (WP.skip (zr rfl (zm rfl (zb rfl (by exact bg (aB (by omega) (by omega))) ?_))))))
   refine za rfl (zv ?_)
   exact next ε' _ _ I hs s ⟨rfl,rfl,rfl,aa⟩
  ·by_cases J2:15<i
   ·rw [ah (by omega)]
    refine zk 9 rfl (zh rfl (af rfl rfl aK) (by simp; omega) ?_)
    refine zk 2 rfl (zt rfl (af rfl rfl er) (by simp; omega) ?_)
    refine zk 6 rfl (zh rfl (af rfl rfl aG) (by decide) ?_)
    refine zk 2 rfl (zh rfl (af rfl rfl aG) (by decide) ?_)
    refine zp rfl (zv (zj rfl (WP.skip (zr rfl (zm rfl (zb rfl (by exact bg (aB (by omega) (by omega))) ?_))))))
    refine za rfl (zv ?_)
    exact next ε' _ _ I hs s ⟨rfl,rfl,rfl,aa⟩
   ·rw [aq (by omega)]
    obtain ⟨k,rfl⟩:∃k:Nat,i=k:=⟨i.toNat,by omega⟩
    have hrt:=hRt.val k (by omega)
    rw [bP]
    have YS:nth (uv::Rt) (0+1+k)=some (.int .i64 (cT R (4*k) 4:Nat)):=by
     rw [fG,show 0+1+k=k+1 by omega,kW]; exact hrt
    refine zk 9 rfl (zh rfl (af rfl rfl aK) (by simp) ?_)
    refine zk 2 rfl (zh rfl (af rfl rfl er) (by simp; omega) ?_)
    refine zk 6 rfl (zh rfl (af rfl rfl aG) (by decide) ?_)
    refine zk 3 rfl (zf rfl (LH _ _) (zo rfl (cn (r:=.ptr p3 (0+1+k)) rfl rfl (by rw [Ub,show (decide (0≤(k:Int))&&decide ((k:Int)<((16:Nat):Int)))=true by simp; omega,ag]; simp)) ?_))
    refine zl rfl (s.ld (k:=1) rfl cA YS) (zh rfl (af rfl rfl aG) (by simp) ?_)
    refine zp rfl (zv (zj rfl (WP.skip (zr rfl (zm rfl (zb rfl (by exact bg (aB (by omega) (by omega))) ?_))))))
    refine za rfl (zv ?_)
    exact next ε' _ _ I hs s ⟨rfl,rfl,rfl,aa⟩
theorem tF (hT:W told)(hR:qN told N B rv A pg)(fF:EI N B ε)(hN:2≤N)(hp:f_ n R M (pg ε))(I:wW R Rt)(gq:storable uv=true)(hU:U.length=n)(qY:∀i,i<n→U.getD i false=bt M i)(s:Sat h (A ε::jx uv (eo U)::S)):
  Call ⟨Tryz.prog,told⟩ 27 [rv,.agg (uv::Rt)] h fun v h'=>v=.bool true∧∃ε',EI N B ε'∧Sm N ε ε'∧Sat h' (A ε'::jx uv (eo U)::S):=by
 obtain ⟨ex,nE⟩:=hp.head
 have qD:=hp.n1
 have nM:=hp.n2
 have uc:lP (fun i=>U.getD i false) U.length=lP (bt M) n:=by rw [hU]; exact M_ qY
 have hlen:=Ab (f:=bt M) (k:=n)
 have J:(uv::Rt).all storable=true:=by simp only [gU,gq,I.st,gA]
 have wS:∀ {ε':aE},Sm N ε ε'→f_ n R M (pg ε'):=fun hs=>by rw [show pg _=pg ε from funext (hR.same hs)]; exact hp
 have XM:∀ {ε':aE},Sm N ε ε'→dP (pg ε' 0) 201 n ex [eS,R]:=fun hs=>by rw [hR.same hs]; exact nE
 refine Call.of_wp (hT.free _ rfl) Tryz.func27 rfl rfl (zg rfl (az.cz s rfl rfl rfl (fc rfl J) ?_))
 intro p3 h s
 dsimp only [V.cells,List.length_cons] at s
 rw [I.len] at s
 have s:Sat h (pt p3 (.cells 17 (uv::Rt) false)::_):=s
 refine zk 5 rfl (zc rfl (Pw hT hR fF hN hp (s.ae [1])) ?_)
 rintro v h ⟨lv,j4,rfl,kI,eF,s⟩
 refine zk 9 rfl (zc rfl (Sx hT hR kI (by omega) (XM eF) hp.rl (by omega) (by omega) (s.ae [1])) ?_)
 rintro v h ⟨lX,rfl,j3,fN,s⟩
 have fN:=eF.trans fN
 refine zk 9 rfl (zc rfl (Sz hT hR j3 hN (wS fN) s) ?_)
 rintro v h ⟨wD,rfl,tE,lM,s⟩
 have lM:=fN.trans lM
 rw [hp.YR]
 refine zk 9 rfl (zc rfl (Gt hT hR tE (by omega) (XM lM) hp.rl s) ?_)
 rintro v h ⟨Wp,rfl,Vj,QV,s⟩
 have QV:=lM.trans QV
 have s:=s.ae [2,2,1,0]
 have hlb:=(s.lD (j:=2) rfl).2.2
 have xP:=(s.Vk (j:=1) rfl)
 refine zk 8 rfl ?_
 have s0:=s
 refine WP.drawn [ai,ai,ai,some (0,2),ai,ai,ai,ai,ai,ai,ai,ai,ai,ai,some (2,2),ai,ai,ai,ai,ai,ai,ai,ai,ai,ai,ai,some (3,2),some (3,2),some (3,2),some (3,2),ai,ai,ai,ai,ai,ai,ai,ai,ai,ai,ai,ai,ai,ai] rfl (by kernel_rfl) (by kernel_rfl) ?_
 refine zM rfl (aA.lK rfl rfl rfl rfl (af rfl rfl aG) (rfl) (zM rfl (zM rfl (zL rfl (s.bZ (k:=0) rfl fV dm) (aA.any rfl rfl rfl rfl (OpR.call rfl rfl rfl rfl (GM hT J I.len (by omega) (s.ae [1]))) ?_)))))
 intro mv h s
 rw [uc] at s
 have s1:=s.ae [2,1,1,1,0]
 refine aA.any rfl rfl rfl rfl (OpR.call rfl rfl rfl rfl (SH hT (by omega) (s.ae [3,0]))) ?_
 rintro v h' ⟨rfl,rfl⟩
 have s:=s1
 refine zO rfl (cX rfl rfl) (zO rfl (fU rfl rfl) (zM rfl (zM rfl (aA.lK rfl rfl rfl rfl (af rfl rfl aG) (rfl) (zO rfl (fU rfl rfl) (zM rfl (zM rfl (zF rfl (d_ _ _) (zL rfl (s.ld (k:=0) rfl iC rfl) (zO rfl (aT rfl rfl rfl (s.EE (j:=1) rfl hU gd)) (aA.any rfl rfl rfl rfl (OpR.call rfl rfl rfl rfl (oI hT (n:=n) (by omega) (by omega))) ?_)))))))))))
 rintro v h' ⟨rfl,rfl⟩
 refine aA.lK rfl rfl rfl rfl (af rfl rfl aG) (by decide) ?_
 refine zO rfl (fU rfl rfl) (zM rfl (zM rfl (aA.lK rfl rfl rfl rfl (af rfl rfl aG) (rfl) (zO rfl (fU rfl rfl) (zM rfl (zM rfl (zF rfl (d_ _ _) (zL rfl (s.ld (k:=0) rfl iC rfl) (zO rfl (aT rfl rfl rfl (s.EE (j:=1) rfl hU gd)) (zL rfl (s.bZ (k:=0) rfl fV dm) (aA.any rfl rfl rfl rfl (OpR.call rfl rfl rfl rfl (GM hT J I.len (by omega) (s.ae [1]))) ?_)))))))))))
 intro mv2 h s
 rw [uc] at s
 refine zO rfl (aT rfl rfl rfl (s.eY (n:=(lP (bt M) n).length) (j:=0) rfl (by rw [eH,cx]) (by decide) cM)) ?_
 have s:=s.ae [2,1,1,1,1,0]
 refine zO rfl (af rfl rfl (by exact iB (aB (by omega) (by omega)))) ?_
 refine aA.lK rfl rfl rfl rfl (af rfl rfl aG) (by simp) ?_
 refine zO rfl (fU rfl rfl) (zM rfl (zM rfl (aA.lK rfl rfl rfl rfl (af rfl rfl aG) (rfl) (zO rfl (fU rfl rfl) (zM rfl (zM rfl (zO rfl (cX rfl rfl) (zO rfl (fU rfl rfl) ?_))))))))
 refine aA.nil ⟨⟨aa,aa,aa,fun _ _=>.inr ⟨rfl,⟨_,bF rfl⟩,hlb⟩,aa,aa,aa,aa,aa,aa,aa,aa,aa,aa,fun _ _=>.inr ⟨rfl,⟨_,bF rfl⟩,aS _ rfl⟩,aa,aa,aa,aa,aa,aa,aa,aa,aa,aa,aa,fun _ _=>.inr ⟨rfl,⟨_,bF rfl⟩,aS _ rfl⟩,fun _ _=>.inr ⟨rfl,⟨_,jS rfl (d_ _ _)⟩,aS _ rfl⟩,dB (.inr ⟨rfl,⟨_,aR rfl (s1.ld (k:=0) rfl iC rfl)⟩,xP.2.2⟩) (.inr ⟨rfl,⟨_,aR rfl (s.ld (k:=0) rfl iC rfl)⟩,xP.2.2⟩),dB (.inr ⟨rfl,⟨_,aT rfl rfl rfl (s1.EE (j:=1) rfl hU gd)⟩,aS _ rfl⟩) (.inr ⟨rfl,⟨_,aT rfl rfl rfl (s.EE (j:=1) rfl hU gd)⟩,aS _ rfl⟩),aa,aa,aa,aa,aa,aa,aa,aa,aa,aa,aa,aa,aa,aa,aa⟩,?_⟩
 refine zK 7 rfl (WP.block ?_)
 refine KA (uv:=uv) hT hR hN I 18 (-1) Wp _ _ _ (by decide) (by decide) Vj (wS QV) (s.ae [3,0]) ⟨rfl,rfl,rfl,aa⟩ (fun ε' E' h' g1 g2 s' => ?_)
 have s:=s'
 exact WP.has (F:=[]) aa (zK 4 rfl (WP.ret ⟨aa,_,rfl,rfl,ε',g1,QV.trans g2,((((s.ae [0,1]).del 5).del 4).del 3).del 2⟩))
end
end Go.Proofs.YtefepnnfphdkpaaGreat.Am
