/- SpaceAll: a part of its proof; conditions: its statement's. -/
import Derived.Test.YtefepnnfphdkpaaGreatA31
set_option linter.defProp false
namespace Go.Proofs.YtefepnnfphdkpaaGreat.Am
open Go
def lI:=@Tryz.underlying50
def Dl:=@Tryz.func31
def uZ : List Nat:=((List.replicate 375 0).set 0 1).set 0 3
theorem yR {j:Nat}: bt uZ j=decide (j<2):=by
 unfold bt uZ
 by_cases h:j/8=0
 ·have e:(((List.replicate 375 0).set 0 1).set 0 3).getD (j/8) 0=3:=by rw [h]; decide +kernel
  have k:∀i,i<8→(3:Nat).testBit i=decide (i<2):=by decide
  rw [e,k _ (by omega)]
  by_cases I:j<2
  ·rw [cK I,cK (by omega)]
  ·rw [cU I,cU (by omega)]
 ·have e:(((List.replicate 375 0).set 0 1).set 0 3).getD (j/8) 0=0:=by
   rw [dF,eL (by omega),eL (by omega),vb]
   split <;> rfl
  rw [e,Nat.zero_testBit,cU (by omega)]
section
variable {told:cX} {h:H} {S:List au} {N B K M a p q r bA:Nat} {data:List Nat} {ε:aH}
theorem Jz (hB:B≤800)(gU:EI N B ε)(hN:4≤N)(R6:N≤1000)(hz:(pgA ε 0).length=512)(hg:bN (pgA ε 0)=false)(hd:oa K M ε)(hf:K+520*N+28≤M)(s:Sat h (SA a p q r .cL data bA ε::S)):
  ∃v h2,(∃N0,∀n,N0≤n→toldDefer CB n 31 [.ptr a 0] h=some (v,h2))∧(v=.int .i64 0∧∃ε',EI N (B+2) ε'∧fq N (List.replicate 64 0) uZ (pgA ε')∧oa (K+520*N+28) M ε'∧Sat h2 (SA a p q r .cL data bA ε'::S)):=by
 have I:=W.base
 refine Di (C:=CB) Dl rfl rfl (of_decide_eq_true (by kernel_rfl)) ?_
 refine eH.seq (eH.of_wp rfl (zr rfl (za rfl (zv (eH.seq (eH.of_wp rfl (zr rfl (zm rfl (zo rfl (nJ rfl (lC si rfl)) (zc rfl (Bu I (PY I (by omega)) gU (by omega) hz hg s) ?_))))))))))
 rintro v h ⟨qs,rfl,m4,gX,s⟩
 have hd:=hd.sm gX
 have s:Sat h (dP a p q r .cL data bA::dB r p q qs.1::bU q p qs.2.1::bj p qs.2.2::S):=cP.1 s
 refine zk 5 rfl (zv (eH.seq (eH.of_wp rfl (WP.block (zg rfl (zm rfl (zh rfl (ag rfl rfl aF) (rfl) (za rfl (zv (zj rfl (zg rfl (zk 2 rfl (zv (zj rfl (WP.skip (eH.seq (eH.of_wp rfl (zr rfl (zm rfl (zc rfl (K4 I s) ?_))))))))))))))))))))
 rintro v h' ⟨rfl,rfl⟩
 refine zc rfl (wQ I (s.ae [3])) ?_
 rintro v h' ⟨rfl,rfl⟩
 rw [m4.ec.dk.aT]
 refine za rfl (zv (eH.seq (eH.of_wp rfl (zr rfl (zm rfl (zc rfl (qq I (n:=N) (by omega) (by omega)) ?_))))))
 rintro v h' ⟨rfl,rfl⟩
 refine za rfl (zv (eH.seq (eH.of_wp rfl (zr rfl (zm rfl (zc rfl (A_ I s) ?_))))))
 rintro v h ⟨g,rfl,s⟩
 refine zk 5 rfl (zv (eH.seq (eH.seq (eH.of_wp rfl (zr rfl (zm rfl (zh rfl (ag rfl rfl aF) (rfl) (zv (eH.of_wp rfl (zj rfl (WP.skip (eH.seq (eH.defer rfl rfl rfl rfl rfl rfl rfl rfl rfl rfl rfl rfl (eH.seq (eH.seq (eH.of_wp rfl (zr rfl (zk 2 rfl (zb rfl (by exact aV (aA (by omega) (by omega))) ?_)))))))))))))))))))
 refine zh rfl (ag rfl rfl aO) (by simp; omega) ?_
 have s:Sat h (GA g a p q r data bA [] qs::S):=cP.2 s
 refine zv (eH.of_wp rfl (zj rfl (WP.skip (eH.seq (eH.seq (eH.of_wp rfl (WP.drawn [some (0,5),some (0,4),ak,ak,ak,ak,ak,ak] rfl (by kernel_rfl) (by kernel_rfl) ?_)))))))
 refine zM rfl (zM rfl (aD.any rfl rfl rfl rfl (OpR.call rfl rfl rfl rfl (C4 I s)) ?_))
 intro mv h s
 refine aD.any rfl rfl rfl rfl (OpR.BC rfl s rfl rfl rfl rfl (by decide)) ?_
 intro R7 h s
 have s:=s.gH
 have P4:(List.replicate 64 0).length=64:=c8
 have hm:=(s.aK (k:=1) rfl (d_ _ _)).cells
 have R8:=(s.aK (k:=0) rfl (d_ _ _)).cells
 obtain ⟨cv,h1,e1,s1⟩:=NL (P:=Tryz.prog) (x:=mv) (y:=R7) s fN og kz rfl hm.1 R8.1 hm.2 R8.2
 refine aD.any rfl rfl rfl rfl (OpR.of (R:=fun v h'=>v=cv∧h'=h1) (lP rfl e1) ⟨rfl,rfl⟩) ?_
 rintro cv h ⟨rfl,rfl⟩
 have s:=(s1.ae [2,1]).two (C:=each (fun v c=>.cr v c) [mv,R7] [ey,List.replicate 64 0]) (a_.cr _ _) (a_.cr _ _) fun a b q1 q2=>⟨q1,q2,aa⟩
 generalize hR:List.replicate 64 0=R at s P4
 refine aD.any rfl rfl rfl rfl (OpR.call rfl rfl rfl rfl (Fu (kd:=201) (lk:=N) I (by decide) (by omega) (by simp only [tot,ey,bf,bR,P4]; decide) rfl s)) ?_
 rintro u h ⟨b0,xn,s⟩
 refine aD.any rfl rfl rfl rfl (OpR.call rfl rfl rfl rfl (yP (i:=0) I (by omega) m4 (NW.nil N) (by omega) (s.ae [1,0]) (bz _ _) xn)) ?_
 rintro v h ⟨mu,rfl,kI,gS,Jr,s⟩
 have hd:=hd.sm gS
 refine zA rfl ?_
 refine aD.nil ⟨⟨fun _ _=>.inr ⟨rfl,⟨_,bT rfl⟩,bP _ rfl⟩,fun _ _=>.inr ⟨rfl,⟨_,bT rfl⟩,bP _ rfl⟩,aa,aa,aa,aa,aa,aa,aa⟩,?_⟩
 refine eH.seq (eH.of_wp rfl (zr rfl (zm rfl (zh rfl (ag rfl rfl aF) (rfl) (zv (eH.of_wp rfl (zj rfl (WP.skip (eH.seq (eH.seq (eH.of_wp rfl (zr rfl (za rfl (zv (eH.of_wp rfl (WP.block (WP.loop (zw (zg rfl (zk 2 rfl (zt rfl (ag rfl rfl aO) (by decide) ?_)))))))))))))))))))))
 refine zv (zi rfl (WP.skip (zw (WP.block (zg rfl (az.any rfl rfl rfl (OpR.BC rfl s rfl rfl rfl rfl (by decide)) ?_))))))
 intro mk h s
 have J:(List.replicate 375 0).length=375:=c8
 have qv:(List.replicate 375 0)[0]?=some 0:=by decide +kernel
 have Mk:uZ.length=375:=by unfold uZ; rw [bI,bI,J]
 have P5:uZ=((List.replicate 375 0).set 0 1).set 0 3:=rfl
 have m5:∀j,bt uZ j=decide (j<2):=fun j=>yR
 generalize uZ=M0 at Mk P5 m5 ⊢
 generalize List.replicate 375 0=Z at s J qv P5
 obtain ⟨id,off,e2,e3⟩:=c7 (s.buf (k:=0) rfl).view qv
 obtain ⟨Db,Tm,e4,h4,e5,s2⟩:=lE s (i:=0) (b:=1) (by omega) (by decide)
 have ee:V.ptr id off=V.ptr Db Tm:=by rw [e2] at e4; exact bH e4
 rw [←ee] at e5
 refine zk 8 rfl (WP.block (WP.loop (zg rfl (zt rfl (ag rfl rfl aO) (by decide) ?_))))
 refine zk 5 rfl (WP.block (zK 8 rfl (zo rfl (ag (r:=.int .i64 0) rfl rfl (by kernel_rfl)) ?_)))
 refine zm rfl (zb rfl (by exact jC (aA (by omega) (by omega))) ?_)
 refine zt rfl (ag rfl rfl iJ) (by decide) ?_
 refine zk 2 rfl (WP.drawn [ak,ak,ak,ak,ak,ak,ak,ak,ak,ak,ak,ak] rfl (by kernel_rfl) (by kernel_rfl) ?_)
 refine zM rfl (zM rfl (zO rfl (ag (r:=.int .i64 0) rfl rfl (by kernel_rfl)) ?_))
 refine zO rfl (ag (r:=.int .i64 0) rfl rfl (by kernel_rfl)) ?_
 refine zO rfl (cI (r:=.ptr id off) rfl rfl e2) (zL rfl e3 (zM rfl (zO rfl (ag (r:=.int .i64 0) rfl rfl (by kernel_rfl)) ?_)))
 refine zO rfl (ag (r:=.int .u8 1) rfl rfl (by kernel_rfl)) ?_
 refine zO rfl (ag (r:=.int .u8 1) rfl rfl (by kernel_rfl)) ?_
 refine zO rfl (cI (r:=.ptr id off) rfl rfl e2) (aD.lQ rfl rfl rfl (OpR.AX rfl rfl rfl (⟨h4,e5,s2⟩)) ?_)
 rintro w h ⟨rfl,s⟩
 refine aD.nil ⟨⟨aa,aa,aa,aa,aa,aa,aa,aa,aa,aa,aa,aa,aa⟩,?_⟩
 have xx:(Z.set 0 1)[0]?=some 1:=fG (by omega)
 have Mb:(Z.set 0 1).length=375:=by rw [bI,J]
 obtain ⟨P6,Ln,e6,e7⟩:=c7 (s.buf (k:=0) rfl).view xx
 obtain ⟨Vj,Tn,e8,h7,e9,s3⟩:=lE s (i:=0) (b:=3) (by omega) (by decide)
 have ee:V.ptr P6 Ln=V.ptr Vj Tn:=by rw [e6] at e8; exact bH e8
 rw [←ee] at e9
 refine zr rfl (zb rfl (by exact aV (aA (by omega) (by omega))) ?_)
 refine zm rfl (zv (WP.loop (zg rfl (zt rfl (ag rfl rfl aO) (by decide) ?_))))
 refine zk 5 rfl (WP.block (zK 8 rfl (zo rfl (ag (r:=.int .i64 0) rfl rfl (by kernel_rfl)) ?_)))
 refine zm rfl (zb rfl (by exact jC (aA (by omega) (by omega))) ?_)
 refine zt rfl (ag rfl rfl iJ) (by decide) ?_
 refine zk 2 rfl (WP.drawn [ak,ak,ak,ak,ak,ak,ak,ak,ak,ak,ak,ak] rfl (by kernel_rfl) (by kernel_rfl) ?_)
 refine zM rfl (zM rfl (zO rfl (ag (r:=.int .i64 1) rfl rfl (by kernel_rfl)) ?_))
 refine zO rfl (ag (r:=.int .i64 0) rfl rfl (by kernel_rfl)) ?_
 refine zO rfl (cI (r:=.ptr P6 Ln) rfl rfl e6) (zL rfl e7 (zM rfl (zO rfl (ag (r:=.int .i64 1) rfl rfl (by kernel_rfl)) ?_)))
 refine zO rfl (ag (r:=.int .u8 2) rfl rfl (by kernel_rfl)) ?_
 refine zO rfl (ag (r:=.int .u8 3) rfl rfl (by kernel_rfl)) ?_
 refine zO rfl (cI (r:=.ptr P6 Ln) rfl rfl e6) (aD.lQ rfl rfl rfl (OpR.AX rfl rfl rfl (⟨h7,e9,s3⟩)) ?_)
 rintro w h ⟨rfl,s⟩
 refine aD.nil ⟨⟨aa,aa,aa,aa,aa,aa,aa,aa,aa,aa,aa,aa,aa⟩,?_⟩
 rw [←P5] at s
 refine zr rfl (zb rfl (by exact aV (aA (by omega) (by omega))) ?_)
 refine zm rfl (zv (WP.loop (zg rfl (zh rfl (ag rfl rfl aO) (by decide) ?_))))
 refine zk 3 rfl (WP.exit (zK 5 rfl ?_))
 have s:=s.gH
 have Mr:=(s.aK (k:=0) rfl (d_ _ _)).cells
 obtain ⟨R9,h8,Vk,s4⟩:=kU (P:=Tryz.prog) (k:=1) (x:=mk) s fN og kz rfl (by decide) (by decide) (by rw [Mr.1]; rfl) (by rw [Mr.1]; simp only [iQ,kO,Mr.2]; rfl)
 rw [Mr.1] at s4
 refine az.any rfl rfl rfl (OpR.of (R:=fun v h'=>v=R9∧h'=h8) (lP rfl Vk) ⟨rfl,rfl⟩) ?_
 rintro R9 h ⟨rfl,rfl⟩
 have s:=(s4.ae [1]).gR (B:=each (fun v c=>.cr v c) [mk] [M0]) fun a b q=>⟨q,aa⟩
 dsimp only [bk,bringA] at s
 refine zc rfl (Fu (kd:=202) (lk:=0) I (by decide) (by decide) (by simp only [tot,bf,bR,Mk]; decide) rfl s) ?_
 rintro u h ⟨b1,pP,s⟩
 refine zc rfl (yP (i:=1) I (by omega) kI Jr (by omega) (s.ae [1,0]) (bz _ _) pP) ?_
 rintro v h ⟨w8,rfl,sk,n_,wH,s⟩
 dsimp only [bk,bringA] at s
 have hd:=hd.sm n_
 refine za rfl (zv (zg rfl (zm rfl (zh rfl (ag rfl rfl aF) (rfl) (zv (zj rfl (WP.skip (zr rfl (zm rfl (zb rfl (by exact aV (aA (by omega) (by omega))) ?_))))))))))
 refine zk 2 rfl (WP.loop (zK 5 rfl (zh rfl (ag rfl rfl aO) (by decide) ?_)))
 refine zk 2 rfl (WP.exit (eH.seq (eH.of_wp rfl (zK 2 rfl (zo rfl (cW rfl (yQ (kd:=1))) (zc rfl (Dj (kd:=1) I (by omega) sk wH (by omega) (by decide) (by decide) hd hf s) ?_))))))
 rintro v h ⟨aL,P7,rfl,JA,mV,P8,s⟩
 have Fj:fq N R M0 (eS (dr ((1:Nat):Int) b1 (dr ((0:Nat):Int) b0 [])) w8):=by
  refine ⟨⟨0,?_⟩,P4,⟨202,0,0,?_⟩,Mk,by omega,by omega,fun j hj=>by rw [m5,cK hj],fun j hj=>by rw [m5,cU (by omega)]⟩
  ·rw [j4,ai (by decide),j4,aq (by decide)]; exact xn
  ·rw [j4,aq (by decide)]; exact pP
 refine zk 4 rfl (zv (eH.seq (eH.of_wp rfl (zr rfl (zk 2 rfl (zv (eH.of_wp rfl (WP.ret ?_))))))))
 have s:=s.ae [1]
 have s:=cP.1 s
 have s:=s.ae [4]
 obtain ⟨v2,h2,EF,rfl,s⟩:=GC I s
 have s:=s.ae [1,1,1,1]
 have s:Sat h2 (SA a p q r .cL data bA P7::_):=cP.2 s
 have PU:vP 33=none:=I.free _ rfl
 exact ⟨aa,h2,_,D9 (C:=CB) PU Tryz.func33 rfl rfl EF,Ch rfl,rfl,P7,JA,Fj.done wH mV,P8,((s.del 3).del 2).del 1⟩
end
section
variable {told:cX} {h:H} {S:List au} {X Y:au} {N B n:Nat} {v x y rv:V} {b l c R M:List Nat} {kd link extra k_:Nat} {cs:List (List Nat)} {A:aH→au} {pg:aH→Int→List Nat} {ε:aH}
def ji (f:Nat→Bool)(k:Nat): List Nat:=(List.range k).filter f
theorem tg {f:Nat→Bool}{k:Nat}: ji f (k+1)=if f k then ji f k++[k] else ji f k:=by
 unfold ji
 rw [List.range_succ,List.filter_append]
 cases h:f k with
 | true=>simp [h]
 | false=>simp [h]
theorem vV {f:Nat→Bool}{k:Nat}: (ji f k).length≤k:=by
 unfold ji
 exact b5 (yW _ _) (by rw [zu]; exact aE _)
theorem xb {k:Nat}(s:Sat h (.arr 1 v (cD l)::S))(hl:l.length≤1048576):
  ∃I J w h2,buildSliceV Tryz.prog h 33 1 [(0,.int .i64 (k:Int))]=some (I,J)∧appendV Tryz.prog J #[33,33] v I=some (w,h2)∧Sat h2 (.arr 1 w (cD (l++[k]))::S):=by
 obtain ⟨I,J,e1,s1⟩:=kU (P:=Tryz.prog) (k:=1) (x:=.int .i64 (k:Int)) s cB AY lD rfl (by decide) (by decide) rfl rfl
 obtain ⟨i1,jI,iq,r9⟩:=sW
 obtain ⟨w,h2,e2,s2⟩:=ie (s1.ae [1,0]) cB jI AY iq (by omega) rfl (by decide) (by simp only [dD,V.cells,bf,bR]; omega)
 refine ⟨I,J,w,h2,e1,e2,?_⟩
 have e:cD (l++[k])=cD l++[.int .i64 (k:Int)]:=by simp [cD]
 rw [e]
 exact s2.del 1
noncomputable def Vl : Code:=fC [1,1,1,1,0,1,0,0,1,1,0,0,1,1,1,1,0,0] ((Tryz.f25.body).getD .skip)
theorem JB (hT:W told){u:V}(A8:M.length=375)(hn:n≤3000): ∀(m k:Nat) (v:V) (h:H) (E:List (Nat×V)) (Q:Ex→List (Nat×V)→H→Prop),k+m=n →
  Sat h (.arr 1 v (cD (ji (bt M) k))::bg u M::S)→Has E [(7,v),(8,.int .i64 0),(10,u),(24,.int .i64 1),(25,.int .i64 0),(42,.int .i64 (n:Int)),(43,.int .i64 (k:Int))] →
  (∀v' E' h',Has E' [(7,v'),(24,.int .i64 1),(25,.int .i64 0)]→Sat h' (.arr 1 v' (cD (ji (bt M) n))::bg u M::S)→Q (.exit 2) E' h')→WP ⟨Tryz.prog,told⟩ 70 (.loop Vl) E h Q:=by
 intro m
 induction m with
 | zero =>
  intro k v h E Q hk s hE hq
  refine WP.loop (WP.has hE (zg rfl (zh rfl (ag rfl rfl aO) (by simp; omega) ?_)))
  refine zk 3 rfl (WP.exit ?_)
  obtain rfl:k=n:=by omega
  exact hq v _ _ ⟨rfl,rfl,rfl,aa⟩ s
 | succ m ih =>
  intro k v h E Q hk s hE hq
  have hb:M[k/8]?=some (M[k/8]'(by omega)):=aN _
  have J:M.getD (k/8) 0=M[k/8]'(by omega):=by rw [dF,hb]; rfl
  generalize (M[k/8]'(by omega))=x at hb J
  have hv:=(s.buf (k:=1) rfl).view
  have hx:x<256:=hv.1 x (aU hb)
  have m5:x.testBit (k%8)=bt M k:=by rw [bt,J]
  obtain ⟨id,off,e1,e2⟩:=c7 hv hb
  have EV:x/2^(k%8)<256:=y9 (zI _ _) hx
  have A8:=vV (f:=bt M) (k:=k)
  refine WP.loop (WP.has hE (zg rfl (zt rfl (ag rfl rfl aO) (by simp; omega) ?_)))
  refine zk 5 rfl (WP.block (zK 9 rfl (zb rfl (vR (a:=k) (b:=8) (by decide) (by omega)) ?_)))
  refine zo rfl (cI (r:=.ptr id off) rfl rfl e1) (zl rfl e2 (zm rfl (zb rfl (wS (a:=k) (b:=8) (by decide)) ?_)))
  refine zb rfl (Jj (a:=x) (k:=k%8) (by omega)) ?_
  refine zb rfl (Jk (b:=1) EV (by decide)) ?_
  cases I:bt M k with
  | true =>
   refine zt rfl (ag rfl rfl Da) (m5.trans I) (zk 5 rfl (zb rfl (by exact jD (aA (by omega) (by omega))) ?_))
   refine zm rfl (zb rfl (by exact aV (aA (by omega) (by omega))) ?_)
   obtain ⟨iv,h1,w,h2,e3,e4,s2⟩:=xb (k:=k) s (by omega)
   have ek:(3000:Int)*0+(k:Int)=(k:Int):=by omega
   rw [ek]
   refine az.any rfl rfl rfl (OpR.of (R:=fun v h'=>v=iv∧h'=h1) (lP rfl e3) ⟨rfl,rfl⟩) ?_
   rintro iv h1 ⟨rfl,rfl⟩
   refine az.any rfl rfl rfl (OpR.of (R:=fun v h'=>v=w∧h'=h2) (kS rfl rfl e4) ⟨rfl,rfl⟩) ?_
   rintro w h2 ⟨rfl,rfl⟩
   refine za rfl (zv (zr rfl (zb rfl (by exact aV (aA (by omega) (by omega))) ?_)))
   refine zm rfl (zv ?_)
   exact ih (k+1) _ _ _ Q (by omega) (by rw [tg,I,aq rfl]; exact s2) ⟨rfl,rfl,rfl,rfl,rfl,rfl,rfl,aa⟩ hq
  | false =>
   refine zh rfl (ag rfl rfl Da) (m5.trans I) (zv (zj rfl (WP.skip (zr rfl (zb rfl (by exact aV (aA (by omega) (by omega))) ?_)))))
   refine zm rfl (zv ?_)
   exact ih (k+1) _ _ _ Q (by omega) (by rw [tg,I,ai (by decide)]; exact s) ⟨rfl,rfl,rfl,rfl,rfl,rfl,rfl,aa⟩ hq
theorem Dm (hT:W told)(hR:n4 told N B rv A pg)(gU:EI N B ε)(hN:2≤N)(J:fq n R M (pg ε))(s:Sat h (A ε::S)):
  Call ⟨Tryz.prog,told⟩ 25 [rv] h fun v h'=>∃w ε',v=.aX [w,.int .i64 0]∧EI N B ε'∧Sm N ε ε'∧Sat h' (.arr 1 w (cD (ji (bt M) n))::A ε'::S):=by
 obtain ⟨ex,mY⟩:=J.head
 obtain ⟨kd,lk,k_,I⟩:=J.marks
 have hM:=J.ml
 have ow:=J.n2
 have wu:=J.n1
 have A8:=vV (f:=bt M) (k:=n)
 refine Call.of_wp (hT.free _ rfl) Tryz.func25 rfl rfl (zK 8 rfl (zc rfl (nE hT hR gU (by omega) mY J.rl s) ?_))
 rintro v h ⟨u,qs,rfl,m4,gX,s⟩
 refine zk 12 rfl (zh rfl (ag rfl rfl aF) (rfl) (zk 11 rfl (zc rfl (qq hT (by omega) (by omega)) ?_)))
 rintro v h' ⟨rfl,rfl⟩
 refine zb rfl (by exact jC (aA (by omega) (by omega))) ?_
 refine zk 2 rfl (WP.block (WP.loop (zg rfl (zt rfl (ag rfl rfl aO) (by decide) ?_))))
 have I:dA (pg qs 1) kd lk k_ [M]:=by rw [hR.same gX]; exact I
 refine zk 5 rfl (WP.block (zK 9 rfl (zc rfl (nF hT hR m4 hN I hM (s.ae [1])) ?_)))
 rintro v h ⟨w2,u2,mu,rfl,kI,gS,s⟩
 refine zk 12 rfl (zh rfl (ag rfl rfl aF) (rfl) (zk 7 rfl (zb rfl (by exact jD (aA (by omega) (by omega))) ?_)))
 refine zb rfl (by exact jC (aA (by omega) (by omega))) ?_
 have em:min (3000:Int) ((n:Int)-3000*0)=(n:Int):=by omega
 refine zo rfl (SW (r:=.int .i64 (n:Int)) rfl rfl (Tg.trans (by rw [em]))) ?_
 refine zk 2 rfl (WP.block ?_)
 have s:=s.mN (k:=1)
 refine JB hT hM (by omega) n 0 _ _ _ _ (by omega) s ⟨rfl,rfl,rfl,rfl,rfl,rfl,rfl,aa⟩ (fun v' E' h' hE s' => ?_)
 have s:=s'
 refine WP.has hE (zr rfl (zb rfl (by exact aV (aA (by omega) (by omega))) ?_))
 refine zm rfl (zv (WP.loop (zg rfl (zh rfl (ag rfl rfl aO) (by decide) ?_))))
 refine zk 3 rfl (WP.exit (zK 3 rfl (zo rfl (aQ rfl rfl rfl (s.gI (n:=(ji (bt M) n).length) (j:=0) rfl (by rw [dD,cq]) (by decide) cB)) ?_)))
 obtain ⟨i1,jI,iq,r9⟩:=sW
 obtain ⟨wv,h1,e3,s1⟩:=ux (P:=Tryz.prog) s cB jI AY iq (by omega) rfl (by decide) (by decide) (n:=0) (c:=(ji (bt M) n).length) (by omega) (by omega)
 refine az.any rfl rfl rfl (OpR.of (R:=fun v h'=>v=wv∧h'=h1) (sN rfl rfl e3) ⟨rfl,rfl⟩) ?_
 rintro w0 h ⟨rfl,rfl⟩
 have s:Sat h (.arr 1 w0 []::_):=s1
 obtain ⟨w3,h2,e4,s2⟩:=ie s cB jI AY iq (by omega) rfl (by decide) (by simp only [dD,bR]; omega)
 rw [dh] at s2
 refine zm rfl (az.any rfl rfl rfl (OpR.of (R:=fun v h'=>v=w3∧h'=h2) (kS rfl rfl e4) ⟨rfl,rfl⟩) ?_)
 rintro w3 h ⟨rfl,rfl⟩
 exact zk 3 rfl (WP.ret ⟨aa,_,rfl,_,mu,rfl,kI,gX.trans gS,(((((s2.ae [0,3]).del 5).del 4).del 3).del 2)⟩)
end
def kJ (v:V)(cs:List V): au:=.xs fun x:Nat×Nat×List V×Cap×Bool=>.an (.ro x.1 (.cells x.2.1 (cs++x.2.2.1) x.2.2.2.2)) (.pu (v=.sl x.1 0 cs.length x.2.2.2.1∧cs.length+x.2.2.1.length=x.2.1 ∧
 (match x.2.2.2.1 with | .exact c=>cs.length≤c | .rest e _=>e=1∧1≤cs.length)))
section
variable {P:Program} {h:H} {S:List au} {j i k:Nat} {v c x:V} {cs:List V} {t te t':TypeId}
theorem yS (s:Sat h (.arr 1 v cs::S))(hl:1≤cs.length): Sat h (kJ v cs::S):=by
 have cT:cs≠[]:=fun e=>by rw [e] at hl; simp at hl
 obtain ⟨m,r,q1,q2,q3⟩:=s.at (k:=0) rfl
 rcases q3.2 with ⟨_,e⟩ | ⟨id,n,cap,N,rest,rfl,hg,e1,e2,e3,e4⟩
 ·exact absurd e cT
 ·obtain ⟨tX,n',tY,M',J,e,wg,WJ,s1,_⟩:=s.Ao cT
  injection e with a1 a2 a3 a4
  subst a1; subst a4
  have Ff:=s1.row (k:=0) rfl
  have I:=q1 _ _ hg
  rw [Ff] at I
  injection I with I
  injection I with b1 b2
  have b2:=List.append_cancel_left b2
  subst b1; subst b2
  have uP:cs.length=n:=by rw [e1,cq]
  refine (g8.2 ⟨(id,M',J,cap,false),s1.freeze.gR fun a b hq=>⟨hq,by rw [uP],e2,?_⟩⟩:Sat h (kJ _ _::_))
  cases cap with
  | exact c=>simp only at e4 ⊢; omega
  | rest e alt=>simp only at e4 ⊢; exact ⟨e4.1,hl⟩
theorem Sat.Lo (s:Sat h S)(J:getA S j=some (kJ v cs)): ∃id M rest cap st,v=.sl id 0 cs.length cap∧cs.length+rest.length=M∧(match cap with | .exact c=>cs.length≤c | .rest e _=>e=1∧1≤cs.length)∧T.get h.tr id=some (.cells M (cs++rest) st):=by
 obtain ⟨m,r,h1,h2,x,h3,I⟩:=s.at J
 exact ⟨x.1,x.2.1,x.2.2.1,x.2.2.2.1,x.2.2.2.2,I.1,I.2.1,I.2.2,h2 _ _ h3⟩
theorem Sat.To (s:Sat h S)(I:getA S j=some (kJ v cs)): v.cells=[v]∧storable v=true∧v.beq v=true:=by
 obtain ⟨id,M,rest,cap,st,rfl,_⟩:=s.Lo I
 exact ⟨rfl,rfl,ya _ _ _ _⟩
theorem Sat.u5 (s:Sat h S)(I:getA S j=some (kJ v cs))(hu:P.underlying t=some (.slice te)): lenV P h t v=some (.int .i64 (cs.length:Int)):=by
 obtain ⟨id,M,rest,cap,st,rfl,_⟩:=s.Lo I
 exact Ia hu
theorem Sat.GY (s:Sat h S)(hj:getA S j=some (kJ v cs))(hi:cs[i]?=some c)(hu:P.underlying t=some (.slice te))(I:bh P te=some 1):
  ∃id off,indexAddrV P t v (.int .i64 (i:Int))=some (.ptr id off)∧∀t',bS P t'=some false→loadV P h t' (.ptr id off)=some c:=by
 obtain ⟨id,M,rest,cap,st,rfl,hM,_,hg⟩:=s.Lo hj
 have J:=(List.getElem?_eq_some_iff.1 hi).1
 refine ⟨id,i,?_,fun t' ha=>LW ha hg ?_⟩
 ·simp only [indexAddrV,hu,I,cg]
  rw [show (decide ((0:Int)≤(i:Int))&&decide ((i:Int)<(cs.length:Int)))=true by simp; omega,af]
  simp
 ·rw [eE,iu J]; exact hi
theorem yT (s:Sat h (.arr 1 v cs::S))(hi:i<cs.length)(hx:x.cells=[x])(J:storable x=true)(hu:P.underlying t=some (.slice te))(R_:bh P te=some 1):
  ∃id off h',indexAddrV P t v (.int .i64 (i:Int))=some (.ptr id off)∧fR P h te (.ptr id off) x=some h'∧Sat h' (.arr 1 v (cs.set i x)::S):=by
 have cT:cs≠[]:=fun e=>by rw [e] at hi; simp at hi
 have I:=s.Gf (j:=0) rfl
 obtain ⟨id,m,cap,M,rest,rfl,hl,hM,s1,hc⟩:=s.Ao cT
 rw [cq] at hl
 obtain ⟨h',e1,e2⟩:=s1.je (P:=P) (t:=te) (k:=0) (off:=i) (v:=x) rfl R_ (by rw [bK,hM]) (by omega) hx J
 refine ⟨id,i,h',?_,e1,hc h' (cs.set i x) S (bI) ?_ ?_⟩
 ·simp only [indexAddrV,hu,R_,cg]
  rw [show (decide ((0:Int)≤(i:Int))&&decide ((i:Int)<(m:Int)))=true by simp; omega,af]
  simp
 ·rw [m_] at I ⊢
  intro y hy
  rcases jS hy with hy | rfl
  ·exact I y hy
  ·exact J
 ·have e3:(cs++rest).set i x=cs.set i x++rest:=yX _ _ hi
  dsimp only [setA] at e2
  rw [e3] at e2
  exact e2
theorem NO (s:Sat h (kJ v cs::S))(hk:k<cs.length)(hl:cs.length≤1048576):
  ∃v1 v2 w h',sliceV Tryz.prog h 33 v none (some k) (some k)=some v1∧sliceV Tryz.prog h 33 v (some (k+1)) none none=some v2∧appendV Tryz.prog h #[33,33] v1 v2=some (w,h')∧Sat h' (kJ w (cs.take k++cs.drop (k+1))::S):=by
 obtain ⟨i1,jI,iq,r9⟩:=sW
 obtain ⟨x,s1⟩:=g8.1 s
 obtain ⟨id,M,rest,cap,st⟩:=x
 obtain ⟨m,r,h1,h2,h3,rfl,hM,I⟩:=s1.at (k:=0) rfl
 have hM:cs.length+rest.length=M:=hM
 have hg:T.get h.tr id=some (.cells M (cs++rest) st):=h2 _ _ h3
 have s0:Sat h S:=s.drop
 have dW:bh Tryz.prog 3=some 1:=lD
 have e1:sliceV Tryz.prog h 33 (.sl id 0 cs.length cap) none (some k) (some k)=some (.sl id 0 k (.exact k)):=by
  cases cap with
  | exact c =>
   have I:cs.length≤c:=I
   simp only [sliceV,cB,dW,jV]
   rw [aB.2 (eO k),aB.2 (aE k),aB.2 (by omega:k≤c)]
   simp only [eN,af,o8,gq,iy]
   cases Nat.beq k 0 <;> rfl
  | rest e alt =>
   obtain ⟨rfl,_⟩:e=1∧1≤cs.length:=I
   simp only [sliceV,cB,dW,jV]
   rw [aB.2 (eO k),aB.2 (aE k),aB.2 (by omega:k≤cs.length),fb.2 (by omega:0<cs.length)]
   simp only [dm,eN,Bool.true_or,af,o8,gq,iy]
   rw [aB.2 (aE 1),eN,af]
   cases Nat.beq k 0 <;> rfl
 have e2:∃off J,sliceV Tryz.prog h 33 (.sl id 0 cs.length cap) (some (k+1)) none none=some (.sl id off (cs.length-(k+1)) J)∧(off=k+1∨(off=0∧cs.length=k+1)):=by
  cases cap with
  | exact c =>
   have I:cs.length≤c:=I
   simp only [sliceV,cB,dW,jV,dy]
   rw [aB.2 (by omega:k+1≤cs.length),aB.2 I]
   simp only [eN,af]
   by_cases hc:c=k+1
   ·rw [gr hc,af]; exact ⟨0,_,rfl,.inr ⟨rfl,by omega⟩⟩
   ·rw [cE hc,ay]; exact ⟨0+(k+1)*1,_,rfl,.inl (by omega)⟩
  | rest e alt =>
   obtain ⟨rfl,_⟩:e=1∧1≤cs.length:=I
   simp only [sliceV,cB,dW,jV,dy]
   rw [aB.2 (by omega:k+1≤cs.length),aB.2 (aE cs.length),dm,aB.2 (aE 1)]
   simp only [eN,Bool.true_or,af]
   exact ⟨0+(k+1)*1,_,rfl,.inl (by omega)⟩
 obtain ⟨off,J,e2,ho⟩:=e2
 have hz:zeroT Tryz.prog 3=some (.int .i64 0):=AY
 have ok:(Nat.ble 1 i1.size&&Nat.ble i1.bytes 4096&&Nat.beq (V.int .i64 0).cells.length i1.size)=true:=by rw [iq,r9]; rfl
 have sD:srcV h i1.size (.sl id off (cs.length-(k+1)) J)=some (cs.drop (k+1),cs.length-(k+1)):=by
  simp only [srcV,iq,rdN,hg,cq]
  rw [aB.2 (by omega:off+(cs.length-(k+1))≤M),af]
  rcases ho with rfl | ⟨rfl,tS⟩
  ·rw [show (Nat.beq (k+1) 0&&Nat.beq (cs.length-(k+1)) M)=false by rw [cE (by omega),e_],ay,gN,yU (by omega),oQ (by rw [oZ]; exact aE _),eA (by rw [oZ]; exact aE _)]
  ·rw [show cs.length-(k+1)=0 by omega,(fY (by omega):cs.drop (k+1)=[]),show (Nat.beq 0 0&&Nat.beq 0 M)=false by rw [cE (by omega:(0:Nat)≠M),rC],ay,jx]; rfl
 by_cases hm:cs.length=k+1
 ·refine ⟨_,_,.sl id 0 k (.exact k),h,e1,e2,?_,?_⟩
  ·simp only [appendV,cB,jI,hz,ok,sD,af]
   rw [gr (by omega:cs.length-(k+1)=0),af]
  ·rw [fY (by omega),fH]
   have Bd:(cs.take k).length=k:=by rw [gM]; omega
   refine (g8.2 ⟨(id,M,cs.drop k++rest,.exact k,st),s1.gR fun a b hq=>⟨?_,by rw [Bd],?_,?_⟩⟩:Sat h (kJ _ _::_))
   ·have CG:=hq.1
    show b id=some (.cells M (cs.take k++(cs.drop k++rest)) st)
    rw [←eZ,q_]; exact CG
   ·show (cs.take k).length+(cs.drop k++rest).length=M
    rw [Bd,bK,oZ]; omega
   ·show (cs.take k).length≤k
    omega
 ·have Bd:(cs.take k).length=k:=by rw [gM]; omega
  have P9:(cs.take k++cs.drop (k+1)).length=k+(cs.length-(k+1)):=by rw [bK,Bd,oZ]
  have gh:rdN h id 0 (k*i1.size)=some (cs.take k):=by
   simp only [rdN,hg,iq,cq]
   rw [aB.2 (by omega:0+k≤M),af,show (Nat.beq 0 0&&Nat.beq k M)=false by rw [cE (by omega:k≠M),rC],ay,ej,oQ (by omega)]
  refine ⟨_,_,.sl h.next 0 (k+(cs.length-(k+1))) (.rest 1 0),h.new (.cells (k+(cs.length-(k+1))) (cs.take k++cs.drop (k+1)) false),e1,e2,?_,?_⟩
  ·simp only [appendV,cB,jI,hz,ok,sD,af]
   rw [cE (by omega:cs.length-(k+1)≠0),ay]
   rw [show Nat.ble (k+(cs.length-(k+1))) k=false by rw [Bool.eq_false_iff]; intro q; have:=aB.1 q; omega,ay]
   have Vm:iW (k+(cs.length-(k+1))) i1.bytes=true:=by
    simp only [iW,r9,aG,aB]
    omega
   rw [Vm,af,gh]
   simp only [j7,iq,cq]
  ·have s2:=(s0.new (.cells (k+(cs.length-(k+1))) (cs.take k++cs.drop (k+1)) false)).freeze
   refine (g8.2 ⟨(h.next,k+(cs.length-(k+1)),[],.rest 1 0,false),s2.gR fun a b hq=>⟨by rw [fH]; exact hq,by rw [P9],by rw [P9]; rfl,rfl,by rw [P9]; omega⟩⟩:Sat _ (kJ _ _::_))
end
structure WS (told:cX): Prop where
 w:W told
 fmt:told 31=some (qi Tryz.prog 31 (GW 31))
theorem Fv {f:Nat→Bool}{k m:Nat}: (ji f (k+m)).length=(ji f k).length+((List.range m).filter fun i=>f (k+i)).length:=by
 unfold ji
 rw [List.range_add,List.filter_append,bK,List.filter_map,eM]
 rfl
theorem Lp {M:List Nat}: ∀k,k≤M.length→(ji (bt M) (8*k)).length=onesL (M.take k):=by
 intro k
 induction k with
 | zero=>intro _; rfl
 | succ k ih =>
  intro hk
  have J:M[k]?=some (M[k]'(by omega)):=aN _
  have I:M.getD k 0=M[k]'(by omega):=by rw [dF,J]; rfl
  rw [show 8*(k+1)=8*k+8 by omega,Fv,ih (by omega),yO J]
  congr 1
  unfold oP
  congr 1
  refine List.filter_congr fun i hi => ?_
  rw [vS (List.mem_range.1 hi),I]
theorem Dn {f:Nat→Bool}{n m:Nat}(h:∀j,n≤j→f j=false): (ji f (n+m)).length=(ji f n).length:=by
 rw [Fv]
 have:((List.range m).filter fun i=>f (n+i))=[]:=List.filter_eq_nil_iff.2 fun i _=>by rw [h _ (by omega)]; decide
 rw [this]; rfl
theorem fq.P_ {n:Nat}{R M:List Nat}{P:Int→List Nat}(h:fq n R M P): onesL M=(ji (bt M) n).length:=by
 have I:=Lp (M:=M) 375 (by rw [h.ml]; exact aE _)
 rw [eA (by rw [h.ml]; exact aE _)] at I
 rw [←I,show 8*375=n+(3000-n) by have:=h.n2; omega,Dn h.hi]
theorem u6 {f g:Nat→Bool}{n:Nat}(h:∀i,i<n→f i=g i): ji f n=ji g n:=List.filter_congr fun i hi=>h i (List.mem_range.1 hi)
theorem Ra {P:Program}{E:List (Nat×V)}{h:H}{a t:Nat}{p v:V}(I:look E a=some p)(J:loadV P h t p=some v): j_ P E h [.cell a t]=some v:=by simp only [j_,mapO,resE,I,J]
theorem NP {U:List Bool}{i:Nat}(hi:i<U.length): (jJ U)[i]?=some (.bool (U.getD i false)):=by
 rw [jJ,jU,aN hi,dF,aN hi]; rfl
theorem nG (U:List Bool): (jJ U).length=U.length:=eM _
section
variable {told:cX} {h:H} {S:List au} {X Y:au} {N B n g a p q r bA:Nat} {v w x y rv uv:V} {Rt:List V} {U:List Bool} {b l c R M data L:List Nat} {A:aH→au} {pg:aH→Int→List Nat} {ε:aH}
theorem JC (hT:WS told){K:Nat}{m:Nat}(hB:B≤800)(I:EI N B ε)(hN:4≤N)(J:N≤1000)(hz:(pgA ε 0).length=512)(hg:bN (pgA ε 0)=false)(hd:oa K m ε)(hf:K+520*N+28≤m)(s:Sat h (SA a p q r .cL data bA ε::S)):
  Call ⟨Tryz.prog,told⟩ 31 [.ptr a 0] h fun v h'=>v=.int .i64 0∧∃ε',EI N (B+2) ε'∧fq N (List.replicate 64 0) uZ (pgA ε')∧oa (K+520*N+28) m ε'∧Sat h' (SA a p q r .cL data bA ε'::S) :=
 Call.defer hT.fmt Dl rfl (Jz hB I hN J hz hg hd hf s)
theorem tI (hT:WS told){m f:Nat}(hN:4≤n)(R6:n≤1000)(hm:m≤16777216)(hf:520*n+28≤m)(h4:1≤f)(h5:f≤1024)(s:Sat h S):
  Call ⟨Tryz.prog,told⟩ 14 [.int .i64 (n:Int),.int .i64 (m:Int),.int .i64 (f:Int)] h fun v h'=>∃p a q r ε,v=.ptr a 0∧EI n 3 ε∧fq n (List.replicate 64 0) uZ (pgA ε)∧oa (520*n+28) m ε∧Sat h' (SA a p q r .cL [] 0 ε::S):=by
 have I:bN (List.replicate 512 0)=false:=by decide +kernel
 refine Call.of_wp (hT.w.free _ rfl) Tryz.func14 rfl rfl (zK 9 rfl (zc rfl (GI (n:=n) (m:=m) (f:=f) hT.w s (by omega) (by omega) hm h4 h5) ?_))
 rintro v h ⟨p,a,q,r,rfl,s⟩
 have s:Sat h (SA a p q r .cL [] 0 (fresh n m f)::S):=cP.2 s
 refine zk 10 rfl (zh rfl (ag rfl rfl (s8 si)) (rfl) (zk 2 rfl (zc rfl (JC (K:=0) (m:=m) hT (by decide) (EI.fresh (by omega) hm h4 h5) hN R6 (by rw [Bf]; exact c8) (by rw [Bf]; exact I) ⟨aE _,rfl⟩ (by omega) s) ?_)))
 rintro v h ⟨rfl,ε',J,hp,hd,s⟩
 rw [dH] at hd
 exact zh rfl (ag rfl rfl aF) (rfl) (zk 9 rfl (WP.ret ⟨aa,_,rfl,p,a,q,r,ε',rfl,J,hp,hd,s⟩))
theorem Bi (I:W told)(s:Sat h (SA a p q r .cL data bA ε::S)): Call ⟨Tryz.prog,told⟩ 15 [.ptr a 0] h fun v h'=>∃g,v=.ptr g 0∧Sat h' (GA g a p q r data bA [] ε::S):=by
 have s:=cP.1 s
 have s:Sat h (dP a p q r .cL data bA::dB r p q ε.1::bU q p ε.2.1::bj p ε.2.2::S):=s
 refine Call.of_wp (I.free _ rfl) Tryz.func15 rfl rfl (zK 7 rfl (zc rfl (A_ I s) ?_))
 rintro v h ⟨g,rfl,s⟩
 exact zk 10 rfl (zh rfl (ag rfl rfl aF) (rfl) (zk 8 rfl (WP.ret ⟨aa,_,rfl,g,rfl,cP.2 s⟩)))
theorem pN (I:W told)(J:1≤n)(h2:n≤3000): Call ⟨Tryz.prog,told⟩ 21 [.int .i64 (n:Int)] h fun r h'=>r=.int .i64 2∧h'=h:=by
 have e:(n+2999)/3000=1:=by omega
 refine Call.of_wp (I.free _ rfl) Tryz.func21 rfl rfl (zK 7 rfl (zb rfl (by exact aV (aA (by omega) (by omega))) ?_))
 refine zo rfl (ag (r:=.int .i64 (((n+2999)/3000:Nat):Int)) rfl rfl (by rw [show (n:Int)+2999=((n+2999:Nat):Int) by omega]; exact vR (by decide) (by omega))) ?_
 rw [e]
 refine zb rfl (by exact aV (aA (by omega) (by omega))) ?_
 exact zk 2 rfl (WP.ret ⟨aa,_,rfl,rfl,rfl⟩)
noncomputable def Vn : Code:=fC [1,1,0,1,0,0] ((Tryz.f67.body).getD .skip)
theorem JD (hl:L.length≤1048576)(s:Sat h (.arr 1 v (cD L)::.arr 1 w (cD L)::S)): ∀(m i:Nat) (E:List (Nat×V)) (Q:Ex→List (Nat×V)→H→Prop),i+m=L.length→Has E [(0,v),(1,w),(5,.int .i64 (i:Int))] →
  (∀E',Q (.exit 0) E' h)→WP ⟨Tryz.prog,told⟩ 26 (.loop Vn) E h Q:=by
 intro m
 induction m with
 | zero =>
  intro i E Q hi J hq
  refine WP.loop (WP.has J (zK 5 rfl (zo rfl (aQ rfl rfl rfl (s.gI (n:=L.length) (j:=0) rfl (by rw [dD,cq]) (by decide) cB)) ?_)))
  refine zh rfl (ag rfl rfl aO) (by simp; omega) ?_
  exact zk 2 rfl (WP.exit (hq _))
 | succ m ih =>
  intro i E Q hi J hq
  have hx:(cD L)[i]?=some ((cD L)[i]'(by rw [dD]; omega)):=aN _
  obtain ⟨k,hk⟩:∃k:Nat,(cD L)[i]?=some (.int .i64 (k:Int)):=by
   rw [cD,jU,aN (by omega)]; exact ⟨_,rfl⟩
  obtain ⟨id,off,e1,e2⟩:=jZ (P:=Tryz.prog) s (k:=0) (i:=i) rfl hk cB lD
  obtain ⟨uw,I,e3,e4⟩:=jZ (P:=Tryz.prog) s (k:=1) (i:=i) rfl hk cB lD
  refine WP.loop (WP.has J (zK 5 rfl (zo rfl (aQ rfl rfl rfl (s.gI (n:=L.length) (j:=0) rfl (by rw [dD,cq]) (by decide) cB)) ?_)))
  refine zt rfl (ag rfl rfl aO) (by simp; omega) ?_
  refine zk 4 rfl (WP.block (zw (WP.drawn [ak,ak,ak,ak,ak,ak,ak,ak,ak] rfl (by kernel_rfl) (by kernel_rfl) ?_)))
  refine zM rfl (zM rfl (zO rfl (cI (r:=.ptr id off) rfl rfl e1) (zL rfl (e2 _ eG) (zM rfl (zM rfl (zO rfl (cI (r:=.ptr uw I) rfl rfl e3) (zL rfl (e4 _ eG) (aD.mI rfl rfl rfl rfl (ag rfl rfl aF) (by simp) ?_))))))))
  refine aD.nil ⟨⟨aa,aa,aa,aa,aa,aa,aa,aa,aa,aa⟩,?_⟩
  refine zj rfl (WP.skip (zr rfl (zm rfl (zb rfl (by exact aV (aA (by omega) (by omega))) ?_))))
  refine za rfl (zv ?_)
  exact ih (i+1) _ Q (by omega) ⟨rfl,rfl,rfl,aa⟩ hq
theorem NQ (I:W told)(J:L.length≤1048576)(s:Sat h (.arr 1 v (cD L)::.arr 1 w (cD L)::S)): Call ⟨Tryz.prog,told⟩ 67 [v,w] h fun r h'=>r=.bool true∧h'=h:=by
 refine Call.of_wp (I.free _ rfl) Tryz.func67 rfl rfl (zK 8 rfl (zo rfl (aQ rfl rfl rfl (s.gI (n:=L.length) (j:=0) rfl (by rw [dD,cq]) (by decide) cB)) ?_))
 refine zm rfl (zo rfl (aQ rfl rfl rfl (s.gI (n:=L.length) (j:=1) rfl (by rw [dD,cq]) (by decide) cB)) ?_)
 refine zh rfl (ag rfl rfl aF) (by simp) ?_
 refine zk 8 rfl (WP.block ?_)
 refine JD J s L.length 0 _ _ (by omega) ⟨rfl,rfl,rfl,aa⟩ (fun E' => ?_)
 exact WP.has (F:=[]) aa (zK 4 rfl (WP.ret ⟨aa,_,rfl,rfl,rfl⟩))
noncomputable def Vo : Code:=fC [1,1,0,1,0,0] ((Tryz.f68.body).getD .skip)
theorem GZ {J:Nat}: ∀(m i:Nat) (v:V) (h:H) (E:List (Nat×V)) (Q:Ex→List (Nat×V)→H→Prop),i+m=U.length→U.length≤3000 →
  Sat h (.arr 1 v (cD (ji (fun i=>U.getD i false) i))::pt J (.cells 17 (uv::Rt) false)::kJ uv (jJ U)::S)→Has E [(1,.ptr J 0),(3,v),(4,.int .i64 (i:Int))] →
  (∀v' E' h',Has E' [(3,v')]→Sat h' (.arr 1 v' (cD (ji (fun i=>U.getD i false) U.length))::pt J (.cells 17 (uv::Rt) false)::kJ uv (jJ U)::S)→Q (.exit 0) E' h')→WP ⟨Tryz.prog,told⟩ 22 (.loop Vo) E h Q:=by
 intro m
 induction m with
 | zero =>
  intro i v h E Q hi hu s hE I
  have hlen:=s.u5 (P:=Tryz.prog) (j:=2) rfl lI
  rw [nG] at hlen
  refine WP.loop (WP.has hE (zK 4 rfl (zf rfl (mL _ _) (zl rfl (s.ld (k:=1) rfl sP rfl) (zo rfl (aQ rfl rfl rfl hlen) (zh rfl (ag rfl rfl aO) (by simp; omega) ?_))))))
  refine zk 2 rfl (WP.exit ?_)
  obtain rfl:i=U.length:=by omega
  exact I v _ _ ⟨rfl,aa⟩ s
 | succ m ih =>
  intro i v h E Q hi hu s hE I
  have hlen:=s.u5 (P:=Tryz.prog) (j:=2) rfl lI
  rw [nG] at hlen
  obtain ⟨id,off,e1,e2⟩:=s.GY (P:=Tryz.prog) (j:=2) rfl (NP (U:=U) (i:=i) (by omega)) lI rT
  have A8:=vV (f:=fun i=>U.getD i false) (k:=i)
  refine WP.loop (WP.has hE (zK 4 rfl (zf rfl (mL _ _) (zl rfl (s.ld (k:=1) rfl sP rfl) (zo rfl (aQ rfl rfl rfl hlen) (zt rfl (ag rfl rfl aO) (by simp; omega) ?_))))))
  refine zk 4 rfl (WP.block (zg rfl (zf rfl (mL _ _) (zl rfl (s.ld (k:=1) rfl sP rfl) (zm rfl (zo rfl (cI (r:=.ptr id off) rfl rfl e1) (zl rfl (e2 _ mJ) ?_)))))))
  cases hb:U.getD i false with
  | true =>
   refine zk 5 rfl ?_
   obtain ⟨iv,h1,w,h2,e3,e4,s2⟩:=xb (k:=i) s (by omega)
   refine az.any rfl rfl rfl (OpR.of (R:=fun v h'=>v=iv∧h'=h1) (lP rfl e3) ⟨rfl,rfl⟩) ?_
   rintro iv h1 ⟨rfl,rfl⟩
   refine az.any rfl rfl rfl (OpR.of (R:=fun v h'=>v=w∧h'=h2) (kS rfl rfl e4) ⟨rfl,rfl⟩) ?_
   rintro w h2 ⟨rfl,rfl⟩
   refine za rfl (zv (zr rfl (zm rfl (zb rfl (by exact aV (aA (by omega) (by omega))) ?_))))
   refine za rfl (zv ?_)
   exact ih (i+1) _ _ _ Q (by omega) hu (by rw [tg]; simp only [hb,aq]; exact s2) ⟨rfl,rfl,rfl,aa⟩ I
  | false =>
   refine zv (zj rfl (WP.skip (zr rfl (zm rfl (zb rfl (by exact aV (aA (by omega) (by omega))) ?_)))))
   refine za rfl (zv ?_)
   exact ih (i+1) _ _ _ Q (by omega) hu (by rw [tg]; simp only [hb]; exact s) ⟨rfl,rfl,rfl,aa⟩ I
theorem Dp (J:W told)(I:(uv::Rt).all storable=true)(hR:Rt.length=16)(hu:U.length≤3000)(s:Sat h (kJ uv (jJ U)::S)):
  Call ⟨Tryz.prog,told⟩ 68 [.agg (uv::Rt)] h fun v h'=>Sat h' (.arr 1 v (cD (ji (fun i=>U.getD i false) U.length))::kJ uv (jJ U)::S):=by
 refine Call.of_wp (J.free _ rfl) Tryz.func68 rfl rfl (zg rfl (az.cx s rfl rfl rfl (fB rfl I) ?_))
 intro p1 h s
 dsimp only [V.cells,List.length_cons] at s
 rw [hR] at s
 have s:Sat h (pt p1 (.cells 17 (uv::Rt) false)::_):=s
 refine zk 11 rfl (WP.block ?_)
 have s:=s.mN (k:=1)
 refine GZ U.length 0 _ _ _ _ (by omega) hu s ⟨rfl,rfl,rfl,aa⟩ (fun v' E' h' hE s' => ?_)
 have s:=s'
 exact WP.has hE (zK 5 rfl (WP.ret ⟨aa,_,rfl,s.del 1⟩))
end
end Go.Proofs.YtefepnnfphdkpaaGreat.Am
