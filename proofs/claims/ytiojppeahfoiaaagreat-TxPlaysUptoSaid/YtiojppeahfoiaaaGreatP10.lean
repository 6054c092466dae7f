/- TxPlays: a part of its proof; conditions: its statement's. -/
import Derived.Test.YtiojppeahfoiaaaGreatP09
import Derived.Test.YtiojppeahfoiaaaGreatP04
import Derived.Test.YtiojppeahfoiaaaGreatP05
import Derived.WalkKit
import Derived.ProofKit
import Derived.OpenShut
import Derived.ChangeSlices
import Derived.Test.YtiojppeahfoiaaaGreatRows
set_option linter.defProp false
namespace Go.Proofs.YtiojppeahfoiaaaGreat.Am
open Go Proofs.Tryz
def Df:=@underlying48
variable {L:lp} {C:Array Value} {ε:bn} {a8:Ex->List (Nat×V)->H->Prop} {g:Gh} {h σ:H} {D0 D1 D2 D3 kv pU:Int} {E:List (Nat×V)} {S S':List aH} {G:List Gh} {mk data ids:List Nat} {rs:List dw} {rv:List V} {cs:List Value} {pm pd pr c a q r n k i j nx B ba ck id rr aF d b off o fuel:Nat} {fz:Nat×Nat} {A:mo} {α H':Type} {e t:TypeId} {w1 w2 w3 w4 w5 u v1 v2 v3 v4 v5:V}
section
variable {told:bU} {m p:Nat} {cell:List Nat}
theorem VG (I:W told)(s:Sat h (eL m a nx u L::S)): Call ⟨prog,told⟩ 31 [.ptr m 0] h λv h'=>v=.ptr a 0/\h'=h:=by
 obtain⟨av,s⟩:=cD.1 s;exact Call.of_wp (I.free _ U) func31 U U (zK 8 U (zY s 0 nA nr U (zk 2 U (zR U ⟨U,U⟩))))
noncomputable def st9 : Code:=aV [1,1,1,1,1,1,0,1,0,1,1,1,1,1,1,1,1,1,1,1,0] ((f45.body).getD .skip)
noncomputable def aeu : Code:=aV [1,1,1,1,1,1,0,1,0,1,1,1,1,1,1,1,1,1,1,1,1,1,0] ((f45.body).getD .skip)
theorem br9 (hT:tH told)(I:gx i n k L G nx B ba ck mk rs ε cell)(hi:i<200)(s:Sat h (yK pm pd pr c m a p q r n nx aF w1 w2 w3 w4 w5 rv D0 D1 D2 D3 L G cell data ε S))(hE:Has E (sE c m pm pd pr kv pU))(hq:tR c m a p q r n k i pr S a8):
  WP ⟨prog,told⟩ 378 st9 E h a8:=by
 have hW:=hT.x.w;have J:=kR (s.ae [3]);obtain⟨kB,BC,yJ⟩:=I.kept Y;have FQ:=I.vy;have FR:=I.vz;have bY:∀x∈L,x.2.2.fst<18446744073709551616:=λx hx=>by
  obtain⟨j,hj,rfl⟩:=Dp hx;have hl:=I.len.1;have ht:=(I.tr j _ G[j] (aI hj) (aI Y)).tr;have h1:=ht.lt;rcases ht.ft with⟨_,q⟩|⟨q,_,_⟩
  .omega
  .have:=ht.JY.low q;omega
 refine WP.has hE (zK 3 U (zc U (Call.Bt VB hT.ckp M_ U (YN VC VE VD Y I.tx I.sD Y O kB yJ BC bY (s.ae [5,5]))) ?_));rintro v h (⟨rfl,s⟩|⟨rfl,aj,uP,nG,rA,c8,rc,HB,mk',g1,g2,g3,g4,g5,s⟩)
 .skip;refine zk 4 U (zl U (s.bW (k:=2) U i_ dP) (zk 2 U (zC U bH O<|zk 2 U (zC U bH O<|zk 3 U (zB U bH O<|zp U (zS U (s.dS (j:=4) U dP U J) λh s=>zk 3 U (WP.ret ?_)))))));have s:=(gU (s.ae [5])).ae [0,5,0,0,2];exact hq _ _ 7 w1 w2 w3 w4 w5 (.inr U) ⟨U,U,U,aa⟩ ⟨_,_,_,_,_,_,_,_,_,_,_,_,I.same I.tx λ_=>U,(s.del 6 |>.del 5)⟩
 .skip;refine zk 4 U (zl U (s.bW (k:=2) U i_ dP) (zk 2 U (zB U bH O<|zk 8 U (zS U (s.dS (j:=4) U dP U J) λh s=>zk 3 U (WP.ret ?_)))));have s:=(gU (s.ae [5])).ae [0,5,0,0,2];exact hq _ _ 0 w1 w2 w3 w4 w5 (.inl U) ⟨U,U,U,aa⟩ ⟨_,_,_,_,_,_,_,_,_,_,_,_,I.cut g1 g2 g3 g4 g5,(s.del 6 |>.del 5)⟩
theorem aev (hT:tH told)(I:gx i n k L G nx B ba ck mk rs ε cell)(hi:i<200)(s:Sat h (yK pm pd pr c m a p q r n nx aF w1 w2 w3 w4 w5 rv D0 D1 D2 D3 L G cell data ε S))(hE:Has E (sE c m pm pd pr kv pU))(hq:tR c m a p q r n k i pr S a8):
  WP ⟨prog,told⟩ 378 aeu E h a8:=by
 have hW:=hT.x.w;have dG:=kR (s.ae [3]);have FR:=I.vz;have FQ:=I.vy;obtain⟨hC,hd⟩:=I.tx.clean Y;obtain⟨_,_,J⟩:=I.tx.ei.clean;refine WP.has hE (zK 3 U (zc U (VG hW (s.ae [5])) ?_));rintro v h' ⟨rfl,rfl⟩;refine zc U (R5 hT.w2 I.tx.ei Y (s.ae [6])) ?_;rintro v h ⟨rfl,s⟩;refine zk 4 U (zl U (s.bW (k:=1) U i_ dP) (zk 2 U (zB U bH O<|zk 4 U (zS U (s.dS (j:=3) U dP U dG) λh s=>zk 3 U (WP.ret ?_)))));have s:=(gU (s.ae [4])).ae [0,4,4,0,2];exact hq _ _ 0 w1 w2 w3 w4 w5 (.inl U) ⟨U,U,U,aa⟩ ⟨_,_,_,_,_,_,_,_,_,_,_,_,I.clean J hC,(s.del 6 |>.del 5)⟩
noncomputable def ahL : Code:=aV [1,1,1,1,1,1,0,1,0,1,0,1,1,0,1,0,0] ((f45.body).getD .skip)
noncomputable def st0 : Code:=aV [1,1,1,1,1,1,0,1,0,1,0] ((f45.body).getD .skip)
theorem YY (hT:W told)(I:∀x∈ids,x<nx)(Al:ids.length<=1000)(s:Sat h (pt pm (.cells 5 [w1,w2,w3,w4,w5] false)::.arr 1 w2 (aK ids)::S)): ∀(j0 i0:Nat) (E:List (Nat×V)) (a8:Ex->List (Nat×V)->H->Prop),i0+j0=ids.length->Has E ((12,.int .u64 (nx:Int))::(14,.int .i64 (i0:Int))::sE c m pm pd pr kv pU) ->
  (∀E',Has E' ((12,.int .u64 (nx:Int))::sE c m pm pd pr kv pU)->a8 (.exit 1) E' h)->WP ⟨prog,told⟩ 378 (.loop ahL) E h a8:=by
 intro j0;induction j0 with
 |zero =>
  exact λi0 E a8 hi J hq=>WP.loop (WP.has J (zK 4 U (zY s 0 kL j5 U (zo U (aO U U U (s.fo ids.length (j:=1) U dh O dg))<|zC U aG (decide_eq_false Y)<|zk 2 U (WP.exit (hq _ ⟨U,U,U,U,U,U,U,U,aa⟩))))))
 |succ j0 ih =>
  intro i0 E a8 hi J hq;obtain⟨d,hd⟩:∃d,ids[i0]?=some d:=⟨_,aI Y⟩;have yw:=I d (bz hd);obtain⟨vp,off,e1,e2⟩:=dB (P:=prog) s (k:=1) (i:=i0) (c:=.int .u64 (d:Int)) U (by grind[aK]) dg gL;exact WP.loop (WP.has J (zK 4 U (zY s 0 kL j5 U (zo U (aO U U U (s.fo ids.length (j:=1) U dh O dg))<|zB U aG (decide_eq_true Y)<|zk 4 U (WP.block (zg U (zY s 0 kL j5 U (zm U (zo U (aJ (.ptr vp off) U U e1) (zl U (e2 _ b8) (zm U (zC U dO (decide_eq_false Y)<|zv (zj U (WP.skip (zr U (zm U (zb U (by exact aT ay)<|za U (zv<|ih (i0+1) _ a8 Y ⟨U,U,U,U,U,U,U,U,U,aa⟩ hq))))))))))))))))))
theorem br0 (hT:tH told)(hP:gx i n k L G nx B ba ck mk rs ε cell)(hi:i<200)(s:Sat h (yK pm pd pr c m a p q r n nx aF w1 w2 w3 w4 w5 rv D0 D1 D2 D3 L G cell data ε S))(hE:Has E (sE c m pm pd pr kv pU))(hq:tR c m a p q r n k i pr S a8):
  WP ⟨prog,told⟩ 378 st0 E h a8:=by
 have hW:=hT.x.w;have dG:=kR (s.ae [3]);have kC:=hP.tQ;have hlen:=hP.len;refine WP.has hE (zg U (zm U (aq.call U U U U U U U (M6 hW Y hP.low (s.ae [5])) ?_)));rintro v h ⟨rfl,rr,s⟩;dsimp only[aB,bringA] at s;refine zm U (ze U (ze U (za U (za U (zv (zw (zg U (zm U (aq.kK U U U (ag U U aE) O<|zv (zj U (WP.skip (zw (zg U (za U (zv (WP.block ?_))))))))))))))));obtain⟨a3,a4,a5,s⟩:=jQ.1 (s.ae [4]);have s:=s.ae [9,9,9,0,0,0,0,0,0,0,0,0,0,0];dsimp only[aB,bringA,getA] at s;have xS:=dD (s.ae [6]);have xP:=dD (s.ae [8]);have AB:=dD (s.ae [10]);rw[cL] at xS xP AB;have FM:(jI L).length=G.length:=Q;have s:=s.ae [0,3];dsimp only[bringA,getA,aB] at s;refine YY hW (λx hx=>by
  obtain⟨y,hy,rfl⟩:=List.mem_map.1 hx;exact hP.low y hy) Y s (jI L).length 0 _ _ Y ⟨U,U,U,U,U,U,U,U,U,aa⟩ λE' fg=>?_
 have s:=s.ae [0,1,1,1,0];dsimp only[bringA,getA,aB] at s;refine WP.has fg ?_;obtain⟨i1,I,J,gu⟩:=nQ;obtain⟨xv2,h1,f1,t1⟩:=fP prog (k:=1) (x:=.int .u64 (nx:Int)) s dg rq gL U O O U U;dsimp only[V.cells] at t1;obtain⟨y2,h2,f2,t2⟩:=dV (t1.ae [5,0]) dg I rq J gu U O (by grind[dh]);dsimp only[aB,bringA] at t2;have ov:=t2.cz 0 U;refine zg U (zf U (kL _ _) (zl U (by exact s.ld 0 U j5 U)<|zm U (aq.any U U U (OpR.of (R:=λv h'=>v=xv2/\h'=h1) (jj U f1) ⟨U,U⟩) ?_)));rintro xv2 h1 ⟨rfl,rfl⟩;have s:=t1;refine aq.any U U U (OpR.of (R:=λv h'=>v=y2/\h'=h2) (fN U U f2) ⟨U,U⟩) ?_;rintro y2 h2 ⟨rfl,rfl⟩;have s:=t2;refine zf U (kL _ _) (aq.dX U U U U U (s.cS (k:=2) U oR U (show 0+1<5 by decide) ov.1 ov.2.1) ?_);intro h s;dsimp only[Nat.reduceAdd,List.set,setA] at s;have s:=(s.del 1).ae [1,1,1,1,0,0,0,0,0,0,0,0,0,0];dsimp only[aB,bringA,getA] at s;obtain⟨i1,I,J,gu⟩:=Da;obtain⟨xv3,h1,f1,t1⟩:=fP prog (k:=1) (x:=.aP) s jL Lr sP U O O U U;dsimp only[V.cells] at t1;obtain⟨y3,h2,f2,t2⟩:=dV (t1.ae [6,0]) jL I Lr J gu U O Q;dsimp only[aB,bringA] at t2;have m6:=t2.cz 0 U;refine zv (zg U (zf U (je _ _) (zl U (by exact s.ld 0 U mz U)<|aq.any U U U (OpR.of (R:=λv h'=>v=xv3/\h'=h1) (jj U f1) ⟨U,U⟩) ?_)));rintro xv3 h1 ⟨rfl,rfl⟩;have s:=t1;refine aq.any U U U (OpR.of (R:=λv h'=>v=y3/\h'=h2) (fN U U f2) ⟨U,U⟩) ?_;rintro y3 h2 ⟨rfl,rfl⟩;have s:=t2;refine zf U (je _ _) (aq.dX U U U U U (s.cS (k:=2) U Wy U (show 0+2<5 by decide) m6.1 m6.2.1) ?_);intro h s;dsimp only[Nat.reduceAdd,List.set,setA] at s;have s:=s.jr (k:=2);have s:=qw (s.ae [0,7]);rw[show G.map gA++[[]]=(G++[(⟨[],[]⟩:Gh)]).map gA by rw[mD];rfl] at s;have s:=(s.del 2).ae [2,2,2,2,2,1,0,0,0,0,0,0,0,0];dsimp only[aB,bringA,getA] at s;obtain⟨i1,I,J,gu⟩:=Db;obtain⟨xv4,h1,f1,t1⟩:=fP prog (k:=1) (x:=.aP) s kf Gv mM U O O U U;dsimp only[V.cells] at t1;obtain⟨y4,h2,f2,t2⟩:=dV (t1.ae [8,0]) kf I Gv J gu U O Q;dsimp only[aB,bringA] at t2;have JW:=t2.cz 0 U;refine zv (zg U (zf U (jJ _ _) (zl U (by exact s.ld 0 U ny U)<|aq.any U U U (OpR.of (R:=λv h'=>v=xv4/\h'=h1) (jj U f1) ⟨U,U⟩) ?_)));rintro xv4 h1 ⟨rfl,rfl⟩;have s:=t1;refine aq.any U U U (OpR.of (R:=λv h'=>v=y4/\h'=h2) (fN U U f2) ⟨U,U⟩) ?_;rintro y4 h2 ⟨rfl,rfl⟩;have s:=t2;refine zf U (jJ _ _) (aq.dX U U U U U (s.cS (k:=2) U Wz U (show 0+3<5 by decide) JW.1 JW.2.1) ?_);intro h s;dsimp only[Nat.reduceAdd,List.set,setA] at s;have s:=s.jr (k:=1);have s:=qw (s.ae [0,9]);rw[show G.map gM++[[]]=(G++[(⟨[],[]⟩:Gh)]).map gM by rw[mD];rfl] at s;have s:=(s.del 2).ae [2,2,2,2,2,2,2,1,0,0,0,0,0,0];dsimp only[aB,bringA,getA] at s;obtain⟨i1,I,J,gu⟩:=Dc;obtain⟨xv5,h1,f1,t1⟩:=fP prog (k:=1) (x:=.aP) s mT Lq oR U O O U U;dsimp only[V.cells] at t1;obtain⟨y5,h2,f2,t2⟩:=dV (t1.ae [10,0]) mT I Lq J gu U O Q;dsimp only[aB,bringA] at t2;have Vv:=t2.cz 0 U;refine zv (zg U (zf U (kM _ _) (zl U (by exact s.ld 0 U oS U)<|aq.any U U U (OpR.of (R:=λv h'=>v=xv5/\h'=h1) (jj U f1) ⟨U,U⟩) ?_)));rintro xv5 h1 ⟨rfl,rfl⟩;have s:=t1;refine aq.any U U U (OpR.of (R:=λv h'=>v=y5/\h'=h2) (fN U U f2) ⟨U,U⟩) ?_;rintro y5 h2 ⟨rfl,rfl⟩;have s:=t2;refine zf U (kM _ _) (aq.dX U U U U U (s.cS (k:=2) U WA U (show 0+4<5 by decide) Vv.1 Vv.2.1) ?_);intro h s;dsimp only[Nat.reduceAdd,List.set,setA] at s;have s:=s.jr (k:=1);have s:=qw (s.ae [0,11]);rw[show G.map gT++[[]]=(G++[(⟨[],[]⟩:Gh)]).map gT by rw[mD];rfl] at s;have s:=(s.del 2).ae [2,2,2,2,2,2,2,2,2,1,0,0,0,0];dsimp only[aB,bringA,getA] at s;rw[show aK (jI L)++[V.int .u64 (nx:Int)]=aK (jI (L++[(nx,rr,⟨0,0,0,[],[],[]⟩)])) by grind[aK]] at s;have s:=s.ae [3,3,3,3,3,3,3,3];dsimp only[bringA,getA,aB] at s;have s:=jQ.2 ⟨_,_,_,s⟩;have uo:=kR s;refine zv (zg U (zl U (s.bW (k:=1) U i_ dP) (zm U (aq.ot U U U (ag U U dc) (decide_eq_true Y)<|aq.dX U U U U U (s.dS (j:=3) U dP U uo) λh s=>?_))));dsimp only[setA] at s;refine za U (za U (zv (WP.ret ?_)));have s:=(gU s).ae [0,4,3,3,2];dsimp only[bringA,getA,aB] at s;exact hq _ _ 0 w1 y2 y3 y4 y5 (.inl U) ⟨U,U,U,aa⟩ ⟨_,_,_,_,_,_,_,_,_,_,_,_,hP.begin,(s.del 6 |>.del 5)⟩
end
section
variable {told:bU} {m p:Nat} {cell:List Nat}
theorem aco {ad:List (Nat×Int)}{mr:List (Nat×Nat)}{D:Int}: gA ⟨ad++[(d,D)],mr⟩=sC ad++[.int .i64 (d:Int),.int .i64 D]:=P5
theorem acp (hx:L[j]?=some (id,rr,A)){d I:Int}(hI:I<0\/(n:Int)<=I)(s:Sat h (pt c (.cells 2 [.ptr m 0,.int .i64 (n:Int)] false)::eL m a nx u L::S)):
  ∃v h2,(∃N0,∀n,N0<=n->toldDefer CK n 26 [.ptr c 0,.int .u64 (id:Int),.int .i64 I,.int .i64 d] h=some (v,h2))/\v=.int .i64 1/\Sat h2 (pt c (.cells 2 [.ptr m 0,.int .i64 (n:Int)] false)::eL m a nx u L::S):=by
 obtain⟨av,s⟩:=cD.1 (s.ae [1]);dsimp only[aB,bringA] at s;obtain⟨J,_⟩:=sr hx (s.ae [1]);refine toldDefer_do (C:=CK) vr U U (of_decide_eq_true (by rfl))<|WPd.seq (WPd.of_wp U (zr U (za U (zv (WPd.seq (WPd.of_wp U (WP.block (zg U (zk 2 U (zf U (oH _ _) (zl U (by exact s.ld 3 U my U)<|zn U (zY s 0 iw kA U (zm U (zo U (e_ U U J) (zC U (tq ow) U (zk 6 U ?_))))))))))))))));by_cases h0:I<0
 .skip;refine zB U aG (decide_eq_true h0) (zk 15 U (WP.ret ?_));have s:=cD.2 ⟨av,s⟩;have s:=s.ae [1];exact⟨aa,_,_,⟨0,λ_ _=>U⟩,jk U,U,s⟩
 .skip;refine zC U aG (decide_eq_false h0) (zk 4 U (zY s 3 wQ cW U (zB U dO (decide_eq_true Y)<|zk 8 U (WP.ret ?_))));have s:=cD.2 ⟨av,s⟩;have s:=s.ae [1];exact⟨aa,_,_,⟨0,λ_ _=>U⟩,jk U,U,s⟩
noncomputable def KM : Code:=aV [1,1,1,1,1,1,1] ((f45.body).getD .skip)
theorem aew (J:tH told)(hP:gx i n k L G nx B ba ck mk rs ε cell)(hi:i<200)(hx:∀x∈L,x.1≠id)(s:Sat h (yK pm pd pr c m a p q r n nx aF w1 w2 w3 w4 w5 rv D0 D1 D2 D3 L G cell data ε S))(hE:Has E (sE c m pm pd pr (-1) id))(hq:tR c m a p q r n k i pr S a8):
  WP ⟨prog,told⟩ 378 KM E h a8:=by
 have hW:=J.x.w;have I:=kR (s.ae [3]);refine WP.has hE (zK 4 U (zY s 1 nu cW U (zY s 1 Ch Gu U ?_)));have s:=s.ae [4,4];refine zc U (Call.Hy U Bj J.x.add vr U (aej hx s)) ?_;rintro v h ⟨rfl,s⟩;refine zk 6 U (zB U aG O<|zk 4 U (zl U (s.bW (k:=2) U i_ dP) (zm U (zB U bH O<|zS U (s.dS (j:=4) U dP U I) λh s=>zk 3 U (WP.ret ?_)))));have s:=(gU (s.ae [5])).ae [0,0,0,3,2];exact hq _ _ 0 w1 w2 w3 w4 w5 (.inl U) ⟨U,U,U,aa⟩ ⟨_,_,_,_,_,_,_,_,_,_,_,_,hP.same hP.tx λ_=>U,(s.del 6 |>.del 5)⟩
theorem acq (hT:tH told)(hP:gx i n k L G nx B ba ck mk rs ε cell)(hi:i<200)(hx:L[j]?=some (id,rr,A))(hg:G[j]?=some g)(hI:D2<0\/(n:Int)<=D2)(s:Sat h (yK pm pd pr c m a p q r n nx aF w1 w2 w3 w4 w5 rv D0 D1 D2 D3 L G cell data ε S))(J:Has E (sE c m pm pd pr (j:Int) id))(hq:tR c m a p q r n k i pr S a8):
  WP ⟨prog,told⟩ 378 KM E h a8:=by
 have hW:=hT.x.w;have I:=kR (s.ae [3]);refine WP.has J (zK 4 U (zY s 1 nu cW U (zY s 1 Ch Gu U ?_)));have s:=s.ae [4,4];refine zc U (Call.Hy U Bj hT.x.add vr U (acp hx hI s)) ?_;rintro v h ⟨rfl,s⟩;refine zk 6 U (zC U aG (decide_eq_false Y)<|zk 6 U (zY s 3 nu cW U ?_));have fin:∀ {E':List (Nat×V)} {h:H},Has E' [(6,.ptr pr 0),(7,.int .i64 0),(8,.bool true)]->Sat h (pt c (.cells 2 [.ptr m 0,.int .i64 (n:Int)] false)::eL m a nx (ju c) L::pt pm (.cells 5 [w1,w2,w3,w4,w5] false)::pt pd (.cells 4 [.int .i64 D0,.int .i64 D1,.int .i64 D2,.int .i64 D3] false)::pt pr (.cells 5 [w1,w2,w3,w4,w5] false)::HC w1 w2 w3 w4 w5 (nJ n cell) (jI L) G::SA a p q r .aW data aF ε::S)->a8 .ret E' h:=λ{E' h} J s=>by
  have s:=(gU (s.ae [5])).ae [0,0,0,3,2];exact hq _ _ 0 w1 w2 w3 w4 w5 (.inl U) J ⟨_,_,_,_,_,_,_,_,_,_,_,_,hP.same hP.tx λ_=>U,(s.del 6 |>.del 5)⟩
 obtain⟨_,_,_,sM⟩:=jQ.1 (s.ae [5]);have z1:=sM.fo n (P:=prog) (t:=72) (j:=0) U (by rw[jc,gF]) O mU;by_cases h0:D2<0
 .skip;exact zB U aG (decide_eq_true h0) (zk 12 U (zl U (s.bW (k:=2) U i_ dP) (zm U (zB U bH O<|zS U (s.dS (j:=4) U dP U I) λh s=>zk 3 U (WP.ret (fin ⟨U,U,U,aa⟩ s))))))
 .skip;exact zC U aG (decide_eq_false h0) (zm U (zY s 3 nu cW U (zY s 2 pJ yR U (zo U (aO U U U z1) (zB U dO (decide_eq_true Y)<|zk 5 U (zl U (s.bW (k:=2) U i_ dP) (zm U (zB U bH O<|zS U (s.dS (j:=4) U dP U I) λh s=>zk 3 U (WP.ret (fin ⟨U,U,U,aa⟩ s))))))))))
theorem brA (hT:tH told)(I:gx i n k L G nx B ba ck mk rs ε cell)(hi:i<200)(hx:L[j]?=some (id,rr,A))(hg:G[j]?=some g)(hD2:D2=(d:Int))(mR:d<n)(hn:n<=50)(s:Sat h (yK pm pd pr c m a p q r n nx aF w1 w2 w3 w4 w5 rv D0 D1 D2 D3 L G cell data ε S))(hE:Has E (sE c m pm pd pr (j:Int) id))(hq:tR c m a p q r n k i pr S a8):
  WP ⟨prog,told⟩ 378 KM E h a8:=by
 have hW:=hT.x.w;have dG:=kR (s.ae [3]);have yL:vN i n k ba rs A g:=I.tr j _ g hx hg;have hlen:=I.len;have FQ:=I.vy;have FR:=I.vz;have kC:=I.tQ;have fV:=I.low _ (bz hx);have bY:=yL.tr.lt;have F1:=rH hg;have Cr:=(List.getElem?_eq_some_iff.1 hg).1;have oW:=I.sD;dsimp only at fV;subst hD2;have yh:=yL.al;obtain⟨kB,BC,yJ⟩:=I.kept Y;obtain⟨e1,e2,_⟩:=HE D3;refine WP.has hE (zK 4 U (zY s 1 nu cW U (zY s 1 Ch Gu U ?_)));have s:=s.ae [4,4,4];refine zc U (Call.Hy U Bj hT.x.add vr U (P4 Y I.tx oW Y O kB hx Y Y (by have:=yL.dl;omega) yJ O I.ct mR hn e1 e2 s)) ?_;rintro v h (⟨rfl,_,aj,VH,ahM,s⟩|⟨c',cost,aj,rfl,YX,afT,RX,VH,s⟩)
 .skip;obtain⟨_,_,_,sM⟩:=jQ.1 (s.ae [6]);have z1:=sM.fo n (P:=prog) (t:=72) (j:=0) U (by rw[jc,gF]) O mU;refine zk 6 U (zC U aG (decide_eq_false Y)<|zk 6 U (zY s 4 nu cW U (zC U aG (decide_eq_false Y)<|zm U (zY s 4 nu cW U (zY s 3 pJ yR U (zo U (aO U U U z1) (zC U dO (decide_eq_false Y)<|zk 8 U (zB U aE O<|zk 4 U (zl U (s.bW (k:=3) U i_ dP) (zk 2 U (zC U bH O<|zk 2 U (zB U bH O<|zp U (zS U (s.dS (j:=5) U dP U dG) λh s=>zk 3 U (WP.ret ?_))))))))))))));have s:=(gU (s.ae [6])).ae [0,0,0,0,2];exact hq _ _ 7 w1 w2 w3 w4 w5 (.inr U) ⟨U,U,U,aa⟩ ⟨_,_,_,_,_,_,_,_,_,_,_,_,I.same VH ahM,(s.del 6 |>.del 5)⟩
 .skip;obtain⟨a3,a4,a5,sM⟩:=jQ.1 (s.ae [6]);have z1:=sM.fo n (P:=prog) (t:=72) (j:=0) U (by rw[jc,gF]) O mU;refine zk 6 U (zC U aG (decide_eq_false Y)<|zk 6 U (zY s 4 nu cW U (zC U aG (decide_eq_false Y)<|zm U (zY s 4 nu cW U (zY s 3 pJ yR U (zo U (aO U U U z1) (zC U dO (decide_eq_false Y)<|zk 8 U (zC U aE O<|zk 4 U ?_))))))));obtain⟨a3,a4,a5,s⟩:=jQ.1 (s.ae [6]);have s:=s.ae [11,11,11,0,0,0,0,0,0,0,0,1,0,0];obtain⟨r1,o1,z1,z2⟩:=dB (P:=prog) s (k:=3) (i:=d) U (Bq mR) mU Te;have z2:=z2 2 Gu;obtain⟨r5,o5,h5,v1,v2,v3⟩:=k_ (P:=prog) (t:=72) (x:=.int .i64 (IntKind.wrap .i64 (((ik cell d+vx D3)%18446744073709551616:Nat):Int))) (i:=d) (s.ae [3]) (by rw[jc];exact mR) U U mU Te;rw[Nq I.ct.len Y (nc _ O)] at v3;have s0:=s;refine WP.drawn [af,af,af,af,af,af,af,af,af,af,af,af,af,af,af] U bo bo<|zF U (pJ _ _) (zL U (s.ld 0 U yR U) (zF U (nu _ _) (zL U (s.ld 1 U cW U) (zF U (pJ _ _) (zL U (s.ld 0 U yR U) (zF U (nu _ _) (zL U (s.ld 1 U cW U) (zO U (aJ (.ptr r1 o1) U U z1) (zL U z2 (zF U (Ch _ _) (zL U (s.ld 1 U Gu U) (zO U (ag U U (afR.trans (by rw[wrap_add])))<|zO U (aJ (.ptr r5 o5) U U v1) (ah.cy U U U (OpR.dX U U U (⟨h5,v2,v3⟩)) ?_)))))))))))));rintro _ h ⟨rfl,s⟩;refine ah.nil ⟨(dq 16),?_⟩;have s:=s.ae [1,1,1,0];refine zw ?_;have xS:=dD (s.ae [6]);rw[cL] at xS;obtain⟨u3,J⟩:∃u,a3[j]?=some u:=⟨_,aI Y⟩;have J2:(G.map gA)[j]?=some (gA g):=Q;have sA:=(fG J J2).1 (s.ae [6]);obtain⟨r3,o3,x1,_⟩:=dB (P:=prog) sA (k:=7) (i:=j) (c:=u3) U J jL sP;have lD:=(sA.cz 7 U).2.2;have tL:=(sA.cz 0 U).2.2;obtain⟨i1,gD,fH,gu⟩:=Nl;obtain⟨xv,h1,f1,t1⟩:=fP prog (k:=2) (x:=.agg [.int .i64 (d:Int),.int .i64 D3]) sA xO KC KB U O O U U;have VI:=t1.ae [1,1,1,1,1,1,1,1,1,1,1,1,1,1,1];dsimp only[V.cells,aB,bringA,getA] at VI;obtain⟨w,h2,f2,t2⟩:=dV (t1.ae [1,0]) xO gD KC fH gu U O (by show(sC g.ad).length+2<=_;rw[uD];omega);dsimp only[V.cells,aB,bringA,getA] at t2;have su:=t2.cz 0 U;have De:=t2.ae [3];dsimp only[bringA,getA,aB] at De;obtain⟨r9,o9,h3,y1,y2,t3⟩:=k_ (P:=prog) (t:=86) (i:=j) (x:=w) (t2.ae [8]) Y su.1 su.2.1 jL sP;have s:=sA;refine WP.xu [some (0,3),some (0,3),some (0,3),some (0,2),some (0,2),some (0,2),some (0,2),some (0,2),af,af,af,af,af,af,af,af,af] U bo bo<|zF U (je _ _) (zL U (s.ld 2 U mz U) (zM U (zF U (je _ _) (zL U (s.ld 2 U mz U) (zM U (zO U (aJ (.ptr r3 o3) U U x1) (zL U (s.tI (j:=7) U J jL sP x1 Ci) (zF U (nu _ _) (zL U (s.ld 3 U cW U) (zF U (Ch _ _) (zL U (s.ld 3 U Gu U) (zO U (cE (r:=.agg [.int .i64 (d:Int),.int .i64 D3]) U (by rw[ae_];rfl))<|ah.any U U U U (OpR.of (R:=λv h'=>v=xv/\h'=h1) (jj U f1) ⟨U,U⟩) ?_))))))))))));rintro xv h1 ⟨rfl,rfl⟩;have s:=VI;refine ah.any U U U U (OpR.of (R:=λv h'=>v=w/\h'=h2) (fN U U f2) ⟨U,U⟩) ?_;rintro w h2 ⟨rfl,rfl⟩;have s:=De;refine zO U (aJ (.ptr r9 o9) U U y1) (ah.cy U U U (OpR.dX U U U (⟨h3,y2,t3⟩)) ?_);rintro _ h ⟨rfl,s⟩;refine ah.nil ⟨⟨⟨λ_ _=>.inr ⟨U,⟨_,gy U (je _ _)⟩,aA _ U⟩,lT (.inr ⟨U,⟨_,o_load U (sA.ld 2 U mz U)⟩,lD⟩) (.inr ⟨U,⟨_,o_load U (VI.ld 2 U mz U)⟩,lD⟩) (.inr ⟨U,⟨_,o_load U (De.ld 0 U mz U)⟩,lD⟩),λ_ _=>.inr ⟨U,⟨_,aD U⟩,aA _ U⟩,λ_ _=>.inr ⟨U,⟨_,gy U (je _ _)⟩,aA _ U⟩,cY (.inr ⟨U,⟨_,o_load U (sA.ld 2 U mz U)⟩,lD⟩) (.inr ⟨U,⟨_,o_load U (VI.ld 2 U mz U)⟩,lD⟩),λ_ _=>.inr ⟨U,⟨_,aD U⟩,aA _ U⟩,λ_ _=>.inr ⟨U,⟨_,aJ (.ptr r3 o3) U U x1⟩,aA _ U⟩,cY (.inr ⟨U,⟨_,o_load U (sA.tI (j:=7) U J jL sP x1 Ci)⟩,tL⟩) (.inr ⟨U,⟨_,o_load U (VI.tI (j:=7) U J jL sP x1 Ci)⟩,tL⟩),dq 10⟩,.inl U,.inl U,.inl U,.inl U,.inl U,.inl U,.inl U,.inl U,.inl U,.inl U,.inl U,.inl U,.inl U,.inr U,.inl U,.inl U,.inl U,aa⟩,?_⟩;have s:=sx J J2 (v':=w) (cs':=sC g.ad++[.int .i64 (d:Int),.int .i64 D3]) (s.ae [1,2]);have s:=(s.del 2).ae [2,2,2,2,2,1,0,0,0,0,0,0,0,0];have eA:(G.map gA).set j (sC g.ad++[.int .i64 (d:Int),.int .i64 D3])=(G.set j ⟨g.ad++[(d,D3)],g.mr⟩).map gA:=by rw[qd,aco]
  rw[eA,<-nK (f:=gM) (x':=⟨g.ad++[(d,D3)],g.mr⟩) hg U,<-nK (f:=gT) (x':=⟨g.ad++[(d,D3)],g.mr⟩) hg U] at s;have s:=s.ae [3,3,3,3,3,3,3,3];dsimp only[aB,bringA,getA] at s;have s:=gU (jQ.2 ⟨_,_,_,s⟩);refine zg U (zl U (s.bW (k:=1) U i_ dP) (zS U (s.dS (j:=3) U dP U dG) λh s=>zk 3 U (WP.ret ?_)));rw[<-uE (A':=A.more (ba+szB rs) cost [(k:Int)]) hx] at s;have s:=s.ae [0,4,3,3,2];exact hq _ _ 0 w1 w2 w3 w4 w5 (.inl U) ⟨U,U,U,aa⟩ ⟨_,_,_,_,_,_,_,_,_,_,_,_,I.add hx hg mR hn RX YX afT VH,(s.del 6 |>.del 5)⟩
end
section
variable {told:bU} {m p:Nat} {cell:List Nat}
def J6 (told:bU)(c m a p q r n k i pm pd pr:Nat)(S:List aH)(kv pU:Int)(h:H)(code:Code): Prop:=∀E (a8:Ex->List (Nat×V)->H->Prop),Has E (sE c m pm pd pr kv pU)->tR c m a p q r n k i pr S a8->WP ⟨prog,told⟩ 378 code E h a8
noncomputable def aad : Code:=aV [1,1,1,1,1,1] ((f45.body).getD .skip)
theorem aex (h0:J6 told c m a p q r n k i pm pd pr S kv pU h st0)(h5:J6 told c m a p q r n k i pm pd pr S kv pU h st5)(h6:J6 told c m a p q r n k i pm pd pr S kv pU h st6)(h7:J6 told c m a p q r n k i pm pd pr S kv pU h st7)(h8:J6 told c m a p q r n k i pm pd pr S kv pU h st8)
 (h9:J6 told c m a p q r n k i pm pd pr S kv pU h st9)(Zj:J6 told c m a p q r n k i pm pd pr S kv pU h aeu)(hA:J6 told c m a p q r n k i pm pd pr S kv pU h KM)(s:Sat h (pt pd (.cells 4 [.int .i64 D0,.int .i64 D1,.int .i64 D2,.int .i64 D3] false)::S'))(hE:Has E (sE c m pm pd pr kv pU))(I:tR c m a p q r n k i pr S a8):
  WP ⟨prog,told⟩ 378 aad E h a8:=by
 refine WP.has hE (zK 3 U (zY s 0 adf cW U (zv (WP.block (zg U ?_)))));by_cases e0:D0=0
 .skip;exact zB U bH (decide_eq_true e0) (zk 3 U (h0 _ _ ⟨U,U,U,U,U,U,U,aa⟩ I))
 .skip;refine zC U bH (decide_eq_false e0) (zk 5 U ?_);by_cases e5:D0=5
  .skip;exact zB U bH (decide_eq_true e5) (zk 3 U (h5 _ _ ⟨U,U,U,U,U,U,U,aa⟩ I))
  .skip;refine zC U bH (decide_eq_false e5) (zk 5 U ?_);by_cases e6:D0=6
   .skip;exact zB U bH (decide_eq_true e6) (zk 3 U (h6 _ _ ⟨U,U,U,U,U,U,U,aa⟩ I))
   .skip;refine zC U bH (decide_eq_false e6) (zk 5 U ?_);by_cases e7:D0=7
    .skip;exact zB U bH (decide_eq_true e7) (zk 3 U (h7 _ _ ⟨U,U,U,U,U,U,U,aa⟩ I))
    .skip;refine zC U bH (decide_eq_false e7) (zk 5 U ?_);by_cases e8:D0=8
     .skip;exact zB U bH (decide_eq_true e8) (zk 3 U (h8 _ _ ⟨U,U,U,U,U,U,U,aa⟩ I))
     .skip;refine zC U bH (decide_eq_false e8) (zk 5 U ?_);by_cases e9:D0=9
      .skip;exact zB U bH (decide_eq_true e9) (zk 3 U (h9 _ _ ⟨U,U,U,U,U,U,U,aa⟩ I))
      .skip;refine zC U bH (decide_eq_false e9) (zk 5 U ?_);by_cases J:D0=10
       .skip;exact zB U bH (decide_eq_true J) (zk 3 U (Zj _ _ ⟨U,U,U,U,U,U,U,aa⟩ I))
       .skip;exact zh U (ag U U bH) (decide_eq_false J) (za U (zv (zj U (WP.skip<|hA _ _ ⟨U,U,U,U,U,U,U,aa⟩ I))))
theorem step13_ct (hT:tH told)(hi:i<200)(hn:n<=50)(s:P6 c m a p q r n k i v1 v2 v3 v4 v5 h S):
  Call ⟨prog,told⟩ 45 [.ptr c 0,.agg [v1,v2,v3,v4,v5],.agg [.int .i64 D0,.int .i64 D1,.int .i64 D2,.int .i64 D3]] h λv h'=>∃w1 w2 w3 w4 w5 e,v=.aR [.agg [w1,w2,w3,w4,w5],.int .i64 e,.bool true]/\(e=0\/e=7)/\P6 c m a p q r n k (i+1) w1 w2 w3 w4 w5 h' S:=by
 obtain⟨nx,L,G,B,ba,ck,mk,rs,ε,cell,data,aF,hP,s⟩:=s;have hW:=hT.x.w;have dG:=HH s;have hlen:=hP.len;have kC:=hP.tQ;have Vu:∀g∈G,g.ad.length<=1000/\g.mr.length<=1000:=λg hg=>by
  obtain⟨j,hj,rfl⟩:=Dp hg;have ht:=hP.tr j L[j] G[j] (aI Y) (aI hj);have:=ht.al;have:=ht.ml;omega
 have FM:(jI L).length=G.length:=Q;refine Call.of_wp (hW.free _ U) func45 U U (zg U (aq.bG s U U U (c7 U dG) λpm h s=>aq.bG s U U U (c7 U U) λpd h s=>aq.bG s U U U (bK Fk) λpr h s=>zk 5 U (zl U (s.bW (k:=2) U i_ dP) (zc U (R8 hW Y Vu (by rw[jc];omega) Y (s.ae [3])) ?_))));rintro v h ⟨w1,w2,w3,w4,w5,rfl,s⟩;have uo:=kR s;refine zS U (s.dS (j:=3) U dP U uo) λh s=>?_;have s:=s.ae [3,2,1,0,0,0,0];refine zk 4 U (zc U (wm hW (s.ae [4])) ?_);rintro v h' ⟨rfl,rfl⟩;obtain⟨a3,a4,a5,sM⟩:=jQ.1 (s.ae [3]);have z1:=sM.fo G.length (P:=prog) (t:=33) (j:=1) U (by rw[dh,FM]) O dg;refine zk 13 U (zY s 0 kL j5 U (zo U (aO U U U z1) ?_));have fin:tR c m a p q r n k i pr S (λex E' h'=>(match ex with|.exit _=>False|_=>True)/\∃v,resLE prog E' h' f45.results.toList=some v/\∃w1 w2 w3 w4 w5 e,v=.aR [.agg [w1,w2,w3,w4,w5],.int .i64 e,.bool true]/\(e=0\/e=7)/\P6 c m a p q r n k (i+1) w1 w2 w3 w4 w5 h' S):=by
  intro E' h' e x1 x2 x3 x4 x5 he I hS;obtain⟨nx',L',G',B',ba',HB,mk',c8,aj,aiu,uP,nG,hP',s'⟩:=hS;refine⟨aa,.aR [.agg [x1,x2,x3,x4,x5],.int .i64 e,.bool true],G6 I.1 (s'.bW (k:=4) U i_ dP) I.2.1 I.2.2.1,x1,x2,x3,x4,x5,e,U,he,_,_,_,_,_,_,_,_,_,_,_,_,hP',s'.del 4⟩
 have none:∀ {E:List (Nat×V)},Has E (sE c m pm pd pr (-1) ((9223372036854775808:Nat):Int))->WP ⟨prog,told⟩ 378 aad E h' (λex E' h'=>(match ex with|.exit _=>False|_=>True)/\∃v,resLE prog E' h' f45.results.toList=some v/\∃w1 w2 w3 w4 w5 e,v=.aR [.agg [w1,w2,w3,w4,w5],.int .i64 e,.bool true]/\(e=0\/e=7)/\P6 c m a p q r n k (i+1) w1 w2 w3 w4 w5 h' S):=λ{E} I=>by
  have hx:∀x∈L,x.1≠9223372036854775808:=λx hx=>by have:=hP.low x hx;omega
  exact aex (λE a8 I J=>br0 hT hP hi s I J) (λE a8 I J=>aeo hT hP hi hx s I J) (λE a8 I J=>aep hT hP hi hx s I J) (λE a8 I J=>aeq hT hP hi hx s I J) (λE a8 I J=>aes hT hP hi hx s I J) (λE a8 I J=>br9 hT hP hi s I J) (λE a8 I J=>aev hT hP hi s I J) (λE a8 I J=>aew hT hP hi hx s I J) (s.ae [1]) I fin
 by_cases ED:G.length=0
 .skip;exact zC U dc (decide_eq_false Y)<|zk 8 U (none ⟨U,U,U,U,U,U,U,aa⟩)
 .skip;refine zB U dc (decide_eq_true Y)<|zm U (zY s 1 Tf cW U ?_);by_cases hw0:D1<0
  .skip;exact zC U dO (decide_eq_false Y)<|zk 4 U (none ⟨U,U,U,U,U,U,U,aa⟩)
  .skip;refine zB U dO (decide_eq_true Y) ?_;obtain⟨d1,rfl⟩:=zI (show 0<=D1 by omega);have Cr:d1%G.length<G.length:=nc _ Y;obtain⟨⟨id,rr,A⟩,hx⟩:∃x,L[d1%G.length]?=some x:=⟨_,aI Y⟩;obtain⟨g,hg⟩:∃g,G[d1%G.length]?=some g:=⟨_,aI Cr⟩;obtain⟨vp,off,e1,e2⟩:=dB (P:=prog) sM (k:=1) (i:=d1%G.length) (c:=.int .u64 (id:Int)) U (by grind[aK]) dg gL;refine zk 5 U (zY s 1 Tf cW U (zY s 0 kL j5 U (zo U (aO U U U z1) (zo U (ag (r:=.int .i64 ((d1%G.length:Nat):Int)) U U (aac Y))<|zk 3 U (zY s 0 kL j5 U (zm U (zo U (aJ (.ptr vp off) U U e1) (zl U (e2 _ b8) (zk 2 U<|aex (kv:=((d1%G.length:Nat):Int)) (pU:=(id:Int)) (λE a8 I J=>br0 hT hP hi s I J) (λE a8 I J=>br5 hT hP hi hx hg s I J) (λE a8 I J=>br6 hT hP hi hx hg hn s I J) (λE a8 I J=>br7 hT hP hi hx hg s I J) (λE a8 I J=>br8 hT hP hi hx hg hn s I J) (λE a8 I J=>br9 hT hP hi s I J) (λE a8 I J=>aev hT hP hi s I J) (λE a8 I J=>?_) (s.ae [1]) ⟨U,U,U,U,U,U,U,aa⟩ fin)))))))));by_cases hI:D2<0\/(n:Int)<=D2
   .exact acq hT hP hi hx hg hI s I J
   .obtain⟨d,rfl⟩:=zI (show 0<=D2 by omega);exact brA hT hP hi hx hg U Y hn s I J
end
section
variable {told:bU} {m p:Nat} {cell:List Nat} {aj:bn}
theorem gx.eng (h:gx i n k L G nx B ba ck mk rs ε cell)(hi:EI 32 B aj)(hs:Sm 32 ε aj): gx i n k L G nx B ba ck mk rs aj cell :=
 ⟨h.tx.sm hi hs,h.ct.FH hs.1,h.sD,h.vy,h.vz,h.len,h.tQ,h.ids,h.low,h.tr⟩
theorem acr (hT:W told)(I:gx i n k L G nx B ba ck mk rs ε cell)(hi:i<=200)(hn:n<=50){z:Int}(s:Sat h (pt c (.cells 2 [.ptr m 0,.int .i64 (n:Int)] false)::eL m a nx (ju c) L::SA a p q r .aW data aF ε::S)):
  Call ⟨prog,told⟩ 29 [.ptr c 0,.int .i64 z] h λv h'=>∃aj,gx i n k L G nx B ba ck mk rs aj cell/\v=(if 0<=z/\z<n then .aR [.int .i64 (IntKind.wrap .i64 (ik cell z.toNat:Nat)),.int .i64 0] else .aR [.int .i64 0,.int .i64 1]) /\
   Sat h' (pt c (.cells 2 [.ptr m 0,.int .i64 (n:Int)] false)::eL m a nx (ju c) L::SA a p q r .aW data aF aj::S):=by
 have J:=I.vy;obtain⟨av,s⟩:=cD.1 (s.ae [1]);refine(MM hT Y I.tx.ei I.ct hn (s.ae [4,3])).mono ?_;rintro v h' ⟨aj,h1,h2,h3,s⟩;have s:=s.ae [2,2,2,1,0];have s:=(cD.2 ⟨av,s⟩).ae [1];exact⟨aj,I.eng h1 h2,h3,s⟩
noncomputable def ahN : Code:=aV [1,0,1,0,0] ((Tryz.f35.body).getD .skip)
theorem Nx (hT:W told)(hi:i<=200)(hn:n<=50): ∀(j:Nat) (z:Int) (ε:bn) (h:H) (E:List (Nat×V)) (a8:Ex->List (Nat×V)->H->Prop),z+j=n+1 -> -1<=z->gx i n k L G nx B ba ck mk rs ε cell ->
  Sat h (roV 1 w1 (nJ n cell)::pt c (.cells 2 [.ptr m 0,.int .i64 (n:Int)] false)::eL m a nx (ju c) L::SA a p q r .aW data aF ε::S)->Has E [(0,.ptr c 0),(1,w1),(5,.int .i64 z)] ->
  (∀E' h' aj,gx i n k L G nx B ba ck mk rs aj cell->Sat h' (roV 1 w1 (nJ n cell)::pt c (.cells 2 [.ptr m 0,.int .i64 (n:Int)] false)::eL m a nx (ju c) L::SA a p q r .aW data aF aj::S)->a8 (.exit 0) E' h')->WP ⟨prog,told⟩ 44 (.loop ahN) E h a8:=by
 intro j;induction j with
 |zero =>
  exact λz ε h E a8 hz K1 hP s hE hq=>WP.loop (WP.has hE (zK 5 U (zo U (aO U U U (s.Bn (n:=n) (j:=0) U (by rw[jc,gF]) O mU))<|zC U rj (decide_eq_false Y)<|zk 2 U (WP.exit (hq _ _ _ hP s)))))
 |succ j ih =>
  refine λz ε h E a8 hz K1 hP s hE hq=>WP.loop (WP.has hE (zK 5 U (zo U (aO U U U (s.Bn (n:=n) (j:=0) U (by rw[jc,gF]) O mU))<|zB U rj (decide_eq_true Y)<|zk 4 U (WP.block (zK 4 U (zc U (acr hT hP hi hn (s.ae [1,1,1])) ?_))))));rintro v h ⟨aj,I,hv,s⟩;have s:=s.ae [3,0,0,0];dsimp only[aB,bringA,getA] at s;by_cases J:z<0
  .rw[ax Y] at hv;subst hv;exact zk 9 U (zB U aG (decide_eq_true J) (zk 11 U (zC U aE O<|zk 2 U (zC U aE O<|zp U (zv (zj U (WP.skip (zr U (zm U (zb U (by exact aT ay)<|za U (zv<|ih (z+1) aj _ _ a8 Y Y I s ⟨U,U,U,aa⟩ hq)))))))))))
  .by_cases hz3:z=n
   .rw[ax Y] at hv;subst hv;exact zk 9 U (zC U aG (decide_eq_false J) (zk 3 U (zo U (aO U U U (s.Bn (n:=n) (j:=0) U (by rw[jc,gF]) O mU))<|zB U bH (decide_eq_true Y)<|zk 6 U (zC U aE O<|zk 2 U (zC U aE O<|zp U (zv (zj U (WP.skip (zr U (zm U (zb U (by exact aT ay)<|za U (zv<|ih (z+1) aj _ _ a8 Y Y I s ⟨U,U,U,aa⟩ hq))))))))))))
   .rw[bk Y] at hv;subst hv;obtain⟨z0,rfl⟩:=zI (show 0<=z by omega);obtain⟨vp,off,e1,_,e2⟩:=s.JX (P:=prog) (j:=0) (i:=z0) (k:=1) U (by rw[jc];omega) O mU Te;have e2:=e2 _ (by rw[List.getElem?_drop,gF,wF];exact Bq Y) 2 Gu;exact zk 9 U (zC U aG (decide_eq_false J) (zk 3 U (zo U (aO U U U (s.Bn (n:=n) (j:=0) U (by rw[jc,gF]) O mU))<|zC U bH (decide_eq_false Y)<|zk 6 U (zC U aE O<|zk 4 U (zo U (aJ (.ptr vp off) U U e1) (zl U e2 (zC U aE cb<|zp U (zv (zj U (WP.skip (zr U (zm U (zb U (by exact aT ay)<|za U (zv<|ih ((z0:Int)+1) aj _ _ a8 Y Y I s ⟨U,U,U,aa⟩ hq))))))))))))))
theorem R_ (J:W told)(hi:i<=200)(hn:n<=50)(hP:gx i n k L G nx B ba ck mk rs ε cell)(s:Sat h (roV 1 w1 (nJ n cell)::pt c (.cells 2 [.ptr m 0,.int .i64 (n:Int)] false)::eL m a nx (ju c) L::SA a p q r .aW data aF ε::S)):
  Call ⟨prog,told⟩ 35 [.ptr c 0,w1] h λv h'=>v=.bool true/\∃aj,gx i n k L G nx B ba ck mk rs aj cell/\Sat h' (roV 1 w1 (nJ n cell)::pt c (.cells 2 [.ptr m 0,.int .i64 (n:Int)] false)::eL m a nx (ju c) L::SA a p q r .aW data aF aj::S):=by
 refine Call.of_wp (J.free _ U) func35 U U (zK 9 U (WP.block (Nx J hi hn (n+2) (-1) ε _ _ _ Y Y hP s ⟨U,U,U,aa⟩ λE' h' aj I s'=>?_)));have s:=s';exact WP.has (F:=[]) aa (zK 4 U (zR U ⟨U,aj,I,s⟩))
end
section
variable {told:bU} {p m dn M:Nat} {cell:List Nat}
theorem YZ (hT:WX told){N:Nat}(hB:B<=900)(hI:TxI N B M ba ck mk rs ε)(I:1<=ba)(ox:ba+szB rs<=1000000)(hN:N<=1024)(kB:vq L)(hx:L[j]?=some (id,rr,A))(fV:id<2097152)(J:A.cx<2097152)(yw:A.dn.length<=1000)
 (AK:szB rs+7300+jY L<=M)(hM:M<=16777216)(hp:iO N n k cell (pgA ε))(hi:i<n)(hn:n<=50){d:Int}(hd:IntKind.wrap .u64 d=(dn:Int))(mR:dn<18446744073709551616)
 (s:Sat h (pt c (.cells 2 [.ptr m 0,.int .i64 (n:Int)] false)::eL m a nx u L::SA a p q r .aW data aF ε::S)):
  Call ⟨prog,told⟩ 26 [.ptr c 0,.int .u64 (id:Int),.int .i64 (i:Int),.int .i64 d] h λv h2=>∃c' cost aj,v=.int .i64 0/\iO N n k (oV cell i ((ik cell i+dn)%18446744073709551616)) (pgA aj) /\
   (dw.mk 1 id A.cx 0 (i::le 8 dn) c').len<=560/\cost<=1656/\TxI N (B+2) M ba ck mk (rs++[⟨1,id,A.cx,0,i::le 8 dn,c'⟩]) aj /\
   Sat h2 (pt c (.cells 2 [.ptr m 0,.int .i64 (n:Int)] false)::eL m a nx u (L.set j (id,rr,A.more (ba+szB rs) cost [(k:Int)]))::SA a p q r .aW data aF aj::S):=by
 obtain⟨v,h2,h0,⟨_,hf,_⟩|ho⟩:=P4 hB hI I ox hN kB hx fV J yw Y hM hp hi hn hd mR s
 .omega
 .exact Call.Hy (C:=CK) U Bj hT.add vr U ⟨v,h2,h0,ho⟩
theorem Sa (hT:WX told)(s:Sat h S): Call ⟨prog,told⟩ 21 [] h λv h'=>v=.bool true/\Sat h' S:=by
 have I:=hT.w;refine Call.of_wp (I.free _ U) func21 U U (zK 6 U (zc U (HF I s) ?_));rintro v h ⟨p,rfl,s⟩;refine zc U (J4 (n:=2) hT O O O O s) ?_;rintro v h ⟨c,m,a,q,r,rs,ε,rfl,hI,hp,eR,_,s⟩;refine zk 6 U (zC U (tq underlying50) U (zk 2 U (zc U (wm I s) ?_)));rintro v h' ⟨rfl,rfl⟩;refine zC U (tq underlying54) U (zk 7 U (zc U (wm I s) ?_));rintro v h' ⟨rfl,rfl⟩;have s:=s.ae [1];refine zc U (M6 I O (λx hx=>by cases hx) s) ?_;rintro v h ⟨rfl,rr,s⟩;have s:=s.ae [1,0];have J:=hp.len;have hc0:ik (List.replicate 400 0) 0=0:=Ns;generalize List.replicate 400 0=Z at hp J hc0;refine zk 10 U (zc U (YZ (j:=0) (dn:=5) (i:=0) hT O hI O Y O ⟨cb,λx hx=>by rw[List.mem_singleton.1 hx];exact⟨dz 1048576,dz 1048576,dz 1048576⟩⟩ U O O O (by simp[jY,me,qZ,l8];omega) O hp O O U O s) ?_);rintro v h ⟨c',cost,aj,rfl,Mv,_,_,VH,s⟩;have hv:ik (oV Z 0 ((ik Z 0+5)%18446744073709551616)) 0=5:=by rw[PO J O (nc _ O),bk U,hc0]
 refine zk 5 U (zc U (YT (z:=0) I O VH.ei Mv O s) ?_);rintro v h ⟨xJ,_,_,rfl,s⟩;rw[bk O,show(0:Int).toNat=0 from U,hv];exact zk 9 U (zB U bH U (zk 2 U (zB U bH U (zk 3 U (zB U bH U (zk 3 U (zB U bH U (zk 3 U (zB U bH U (zk 3 U (zR U ⟨U,s.drop.drop.drop⟩)))))))))))
end
theorem afU (z:Int): ∃d:Nat,d<8/\∀ {P:Program} {h:H} {t:TypeId} {x y:Operand},binV P h .and t x y (.int .i64 z) (.int .i64 7)=some (.int .i64 (d:Int)):=by
 refine⟨(z%(2^(IntKind.i64).bits:Int)).toNat%8,nc _ O,λ{P h t x y}=>?_⟩;have h1:=YU (P:=P) (h:=h) (t:=t) (x:=x) (y:=y) (k:=z) (m:=7) O;have I:Nat.land (z%(2^(IntKind.i64).bits:Int)).toNat 7=(z%(2^(IntKind.i64).bits:Int)).toNat%8:=Nat.and_two_pow_sub_one_eq_mod _ 3;rw[I] at h1;exact h1
section
variable {told:bU} {VJ m p:Nat} {lv:V} {iY:List V} {dl:List (Int×Int×Int×Int)} {nv:Int}
theorem aey (s:Sat h (BL w1 w2 w3 w4 w5 iY ids G::S)): V.beq (.agg [w1,w2,w3,w4,w5]) (.agg [w1,w2,w3,w4,w5])=true:=by
 obtain⟨a3,a4,a5,s⟩:=oM.1 s;have I:=(s.vV 0 U).2.2;have J:=(s.vV 1 U).2.2;have Af:=(s.vV 2 U).2.2;have E5:=(s.vV 4 U).2.2;have E6:=(s.vV 6 U).2.2;show V.beqL _ _=true;simp only[V.beqL,I,J,Af,E5,E6,ak]
theorem acs (s:Sat h (BL w1 w2 w3 w4 w5 iY ids G::S)): Sat h (roV 1 w1 iY::roV 1 w2 (aK ids)::BL w1 w2 w3 w4 w5 iY ids G::S):=by
 obtain⟨a3,a4,a5,s⟩:=oM.1 s;have s:=(s.dup (bg.roV _ _ _)).ae [2];have s:=s.dup (bg.roV _ _ _);have s:=s.ae [2,0,1,0,0,0,0,0,0,0];have s2:=s.ae [2,2,2,2,2,2,2,2];have I:=(oM.2 ⟨a3,a4,a5,s2⟩).ae [1,1];exact I
theorem gx.start (I:TxI 32 5 262144 1 0 [] rs ε)(J:iO 32 n 2 (List.replicate 400 0) (pgA ε))(hs:szB rs<=3200): gx 0 n 2 [] [] 1 5 1 0 [] rs ε (List.replicate 400 0) :=
 ⟨I,J,az _,by simp[sumU],by simp[sumU];omega,⟨U,az _⟩,⟨az _,az _⟩,List.Pairwise.nil,λx hx=>(by cases hx),λj x g h1 h2=>Q⟩
theorem J7 : nJ n (List.replicate 400 0)=repeatL [V.int .i64 0] n:=by
 have h1:∀n:Nat,repeatL [V.int .i64 0] n=List.replicate n (V.int .i64 0):=by
  intro n;induction n with
  |zero=>rfl
  |succ n I=>rw[List.replicate_succ,<-I];rfl
 rw[h1,List.eq_replicate_iff];refine⟨jc,λx J=>?_⟩;obtain⟨j,_,rfl⟩:=List.mem_map.1 J;rw[Ns];rfl
noncomputable def tpI : Code:=aV [1,1,1,1,1,1,1,0,1,0,0,1,0,0,1,1,1,1,1,1,0,0] ((Tryz.f8.body).getD .skip)
theorem Sb (fV:ids.length<=1000){av:V}(s:Sat h (pt VJ (.cells 5 [w1,w2,w3,w4,w5] false)::.arr 1 av (aK ids)::roV 1 w2 (aK ids)::S)): ∀(j z:Nat) (E:List (Nat×V)) (a8:Ex->List (Nat×V)->H->Prop) (i0:Nat),z+j=ids.length->Has E [(1,lv),(6,.ptr c 0),(7,.ptr VJ 0),(8,.int .i64 (i0:Int)),(12,av),(13,.int .i64 (z:Int))] ->
  (∀E',Has E' [(1,lv),(6,.ptr c 0),(7,.ptr VJ 0),(8,.int .i64 (i0:Int))]->a8 (.exit 2) E' h)->WP ⟨prog,told⟩ 86 (.loop tpI) E h a8:=by
 intro j;induction j with
 |zero =>
  exact λz E a8 i0 hz I J=>WP.loop (WP.has I (zK 5 U (zo U (aO U U U (s.fo ids.length (j:=1) U dh O dg))<|zC U aG (decide_eq_false Y)<|zk 2 U (WP.exit (J _ ⟨U,U,U,U,aa⟩)))))
 |succ j ih =>
  intro z E a8 i0 hz I J;obtain⟨d,hd⟩:∃d,ids[z]?=some d:=⟨_,aI Y⟩;obtain⟨r1,o1,e1,e2⟩:=dB (P:=prog) s (k:=1) (i:=z) (c:=.int .u64 (d:Int)) U (by grind[aK]) dg gL;obtain⟨r2,o2,e3,_,e4⟩:=s.JX (P:=prog) (j:=2) (i:=z) (k:=1) U (by rw[dh];omega) O dg gL;have e4:=e4 _ (xR hd) 32 b8;exact WP.loop (WP.has I (zK 5 U (zo U (aO U U U (s.fo ids.length (j:=1) U dh O dg))<|zB U aG (decide_eq_true Y)<|zk 4 U (WP.block (zw (WP.drawn [af,af,af,af,af,af,af,af,af,af] U bo bo<|zM U (zM U (zO U (aJ (.ptr r1 o1) U U e1) (zL U (e2 _ b8) (zF U (kL _ _) (zL U (s.ld 0 U j5 U) (zM U (zO U (aJ (.ptr r2 o2) U U e3) (zL U e4 (ah.kK U U U U (ag U U aE) cb<|ah.nil ⟨(dq 11),zj U (WP.skip (zr U (zm U (zb U (by exact aT ay)<|za U (zv<|ih (z+1) _ a8 i0 Y ⟨U,U,U,U,U,U,aa⟩ J)))))⟩)))))))))))))))
noncomputable def tpL : Code:=aV [1,1,1,1,1,1,1,0,1,0,0] ((Tryz.f8.body).getD .skip)
theorem Sc (hT:tH told)(hn:n<=50)(yw:dl.length<=200): ∀(j i:Nat) (h:H) (E:List (Nat×V)) (a8:Ex->List (Nat×V)->H->Prop) (v1 v2 v3 v4 v5:V),i+j=dl.length->P6 c m a p q r n k i v1 v2 v3 v4 v5 h (pt VJ (.cells 5 [v1,v2,v3,v4,v5] false)::rowA 4 lv (zu dl)::S) ->
  Has E [(1,lv),(6,.ptr c 0),(7,.ptr VJ 0),(8,.int .i64 (i:Int))]->(∀E' h',Sat h' S->a8 (.exit 0) E' h')->WP ⟨prog,told⟩ 86 (.loop tpL) E h a8:=by
 have hW:=hT.x.w;intro j;induction j with
 |zero =>
  intro i h E a8 v1 v2 v3 v4 v5 hi hS hE hq;obtain⟨nx,L,G,B,ba,ck,mk,rs,ε,cell,data,aF,hP,s⟩:=hS;exact WP.loop (WP.has hE (zK 5 U (zo U (aO U U U (s.Me (n:=dl.length) (j:=5) U (Br _) O Df))<|zC U aG (decide_eq_false Y)<|zk 2 U (WP.exit (hq _ _ (s.del 5 |>.del 4 |>.del 3 |>.del 2 |>.del 1 |>.del 0))))))
 |succ j ih =>
  intro i h E a8 v1 v2 v3 v4 v5 hi hS hE hq;have hS0:=hS;obtain⟨nx,L,G,B,ba,ck,mk,rs,ε,cell,data,aF,hP,s⟩:=hS0;obtain⟨⟨D0,D1,D2,D3⟩,hd⟩:∃d,dl[i]?=some d:=⟨_,aI Y⟩;obtain⟨vp,off,e1,e2⟩:=s.afB (P:=prog) (j:=5) (i:=i) (k:=4) U (by rw[Br];omega) O Df agw agx;rw[YV hd] at e2;refine WP.loop (WP.has hE (zK 5 U (zo U (aO U U U (s.Me (n:=dl.length) (j:=5) U (Br _) O Df))<|zB U aG (decide_eq_true Y)<|zk 4 U (WP.block (zw ?_)))));have s0:=s;refine WP.drawn [af,af,af,af,af,af,af,some (1,2),some (1,2),some (1,3),some (1,3),af,af,af,af] U bo bo<|zM U (zL U (s.bW (k:=4) U i_ dP) (zM U (zM U (zO U (aJ (.ptr vp off) U U e1) (zL U e2 (ah.any U U U U (OpR.call U U U U (step13_ct hT Y hn hS)) ?_))))));rintro v h ⟨w1,w2,w3,w4,w5,e,rfl,he,hS'⟩;obtain⟨nx,L,G,B,ba,ck,mk,rs,ε,cell,data,aF,hP,s⟩:=hS';have J:=HH s;have UG:=aey s;have UU:∀(k:IntKind) (z:Int),V.beq (.int k z) (.int k z)=true:=λk z=>aA _ U;have ZD:∀b:Bool,V.beq (.bool b) (.bool b)=true:=λb=>by cases b<;>rfl
  have JO:V.beq (.aR [.agg [w1,w2,w3,w4,w5],.int .i64 e,.bool true]) (.aR [.agg [w1,w2,w3,w4,w5],.int .i64 e,.bool true])=true:=by
   show V.beqL _ _=true;grind[V.beqL]
  refine zM U (zO U (c_ U U) (zO U (c_ U U) (zO U (c_ U U) (ah.any U U U U (OpR.bG s (bK Fk)) ?_))));rintro v h ⟨p9,rfl,s⟩;dsimp only[V.cells,List.length_cons,List.length_nil,Nat.reduceAdd] at s;refine ah.cy U U U (OpR.dX U U U (s.dS (j:=0) U dP U J)) ?_;rintro w h ⟨rfl,s⟩;dsimp only[setA] at s;refine zA U (zA U<|ah.nil ⟨⟨aa,aa,aa,aa,aa,aa,aa,λ_ _=>.inr ⟨U,⟨_,aD U⟩,JO⟩,λ_ _=>.inr ⟨U,⟨_,c_ U U⟩,UG⟩,λ_ _=>.inr ⟨U,⟨_,c_ U U⟩,aA _ U⟩,λ_ _=>.inr ⟨U,⟨_,c_ U U⟩,aA _ U⟩,dq 5⟩,?_⟩);have s:=acs (s.ae [1]);dsimp only[aB,bringA] at s;have s:=s.ae [3,6,3,3,3,3,0,0,0];dsimp only[bringA,getA,aB] at s;refine zK 4 U (zo U (cI U U) (zk 2 U (zC U bH Q<|zk 3 U (zY s 0 pJ yR U (zc U (R_ hW Y hn hP (s.ae [6,2,2,2])) ?_)))));rintro v h ⟨rfl,aj,I,s⟩;dsimp only[aB,bringA] at s;have s:=s.ae [5,4];dsimp only[bringA,getA,aB] at s;refine zo U (cI U U) (zk 6 U (zl U (s.bW (k:=1) U i_ dP) (zS U (s.dS (j:=0) U dP U J) λh s=>?_)));dsimp only[setA] at s;refine zk 4 U (zc U (wm hW (s.ae [3])) ?_);rintro v h' ⟨rfl,rfl⟩;have hlen:=I.len;refine zc U (Call.Bt Vz hT.act M9 U (R6 VA Y I.ids (s.ae [4]))) λav h s=>?_;dsimp only[aB,bringA] at s;have s:=s.ae [2,0,6];dsimp only[bringA,getA,aB] at s;have FM:(jI L).length=L.length:=cb;refine zk 6 U (zo U (aO U U U (s.fo ((jI L).length) (j:=1) U dh O dg))<|zY s 0 kL j5 U (zo U (aO U U U (s.Bn (n:=(jI L).length) (j:=2) U dh O dg))<|zC U aE cb<|zk 7 U (WP.block (Sb (ids:=jI L) Y s (jI L).length 0 _ _ i Y ⟨U,U,U,U,U,U,aa⟩ λE' fg=>(WP.has fg (zK 2 U (zb U (by exact aT ay)<|za U (zv ?_))))))));have s:=s.ae [9,6,3,5,0,4];exact ih (i+1) _ _ a8 w1 w2 w3 w4 w5 Y ⟨_,_,_,_,_,_,_,_,_,_,_,_,I,(s.del 9 |>.del 8 |>.del 7 |>.del 6)⟩ ⟨U,U,U,U,aa⟩ hq
theorem Sd (J:tH told)(yw:dl.length<=1048576)(s:Sat h (rowA 4 lv (zu dl)::S)):
  Call ⟨prog,told⟩ 8 [.int .i64 nv,lv] h λv h'=>v=.bool true:=by
 have hW:=J.x.w;obtain⟨d7,hd7,hand⟩:=afU nv;refine Call.of_wp (hW.free _ U) func8 U U (zK 7 U (zc U (Sa J.x s) ?_));rintro v h ⟨rfl,s⟩;refine zo U (cI U U) (zk 7 U (zo U (aO U U U (s.Me (n:=dl.length) (j:=0) U (Br _) O Df)) ?_));by_cases Q8:200<dl.length
 .skip;refine zB U dc (decide_eq_true Y)<|zk 6 U (WP.ret ⟨aa,_,U,?_⟩);rfl
 .skip;refine zC U dc (decide_eq_false Y)<|zk 6 U (zo U (ag (r:=.int .i64 (d7:Int)) U U hand) (zo U (ag (r:=.int .i64 ((1+d7:Nat):Int)) U U (by grind[aT,ay]))<|zk 4 U (zc U (HF hW s) ?_)));rintro v h ⟨p,rfl,s⟩;refine zm U (zc U (J4 (n:=1+d7) J.x O O Y Y s) ?_);rintro v h ⟨c,m,a,q,r,rs,ε,rfl,hI,hp,eR,_,s⟩;refine zk 6 U (zC U (tq underlying50) U (zk 6 U ?_));obtain⟨i1,gD,fH,gu⟩:=Nm;obtain⟨I,h1,f1,t1⟩:=Ck (P:=prog) (k:=1) (n:=1+d7) s mU gD zt2 fH gu U O Y;have t2:Sat h1 (roV 1 (.sl I 0 (1+d7) (.exact (1+d7))) (nJ (1+d7) (List.replicate 400 0))::_):=t1.freeze.C6 (rest:=[]) (n:=1+d7) (cap:=.exact (1+d7)) (by rw[fZ,J7];rfl) (by grind[jc]) ⟨U,by rw[jc,gF],by rw[fZ,J7];exact sU U _,az _⟩;refine aq.any U U U (OpR.of (R:=λv h'=>v=.sl I 0 (1+d7) (.exact (1+d7))/\h'=h1) (uL U U f1) ⟨U,U⟩) ?_;rintro v h1 ⟨rfl,rfl⟩;have s:=t2;refine zo U (cE (r:=.agg [.sl I 0 (1+d7) (.exact (1+d7)),.aP,.aP,.aP,.aP]) U (by rw[agz];rfl))<|aq.bG s U U U (bK Fk) λp7 h s=>zS U (s.dS (j:=0) U dP U U) λh s=>zk 6 U (WP.block ?_);have s:=s.RS (k:=1);have s:Sat h (dK (roV 2) [] []::_):=s.eF (φ:=True) aa;have s:=s.RS (k:=1);have s:Sat h (dK (roV 1) [] []::_):=s.eF (φ:=True) aa;have s:=s.RS (k:=1);have s:Sat h (dK (roV 1) [] []::_):=s.eF (φ:=True) aa;have s:=s.RS (k:=1);have s:=s.ae [8,6,4,4,2,2,0,0,1,1,1,0];have s:=(oM (ids:=[]) (G:=[])).2 ⟨[],[],[],s⟩;refine Sc (n:=1+d7) (k:=2) J Y Y dl.length 0 _ _ _ _ _ _ _ _ Y ⟨_,_,_,_,_,_,_,_,_,_,_,_,gx.start hI hp eR,s⟩ ⟨U,U,U,U,aa⟩ λE' h' s'=>(WP.has (F:=[]) aa (zK 4 U (zR U ?_)));rfl
end
def Ny (c:Ctx): Prop:=∀id,id<c.N->c.X id=true
noncomputable def Ctx.fix (c:Ctx)(w:World)(b off:Nat): Ctx:=⟨λi=>if i=c.N then(b,off) else c.ρ i,λx=>if x=b then rowSize w b else c.Z x,c.N+1,λi=>if i=c.N then true else c.X i⟩
theorem Rel.fix {c:Ctx}{w:World}(h:Rel c σ w)(hX:Ny c){cs:List V}(hb:w.heap[b]?=some (.cells C e fz))(hl:off+cs.length<=C.size)
 (hc:∀j v,cs[j]?=some v->C[off+j]?=some (conc c v))(nj:∀v∈cs,wf c v/\storable v=true):
  Rel (c.fix w b off) (σ.new (.cells cs.length cs true)) w/\Ny (c.fix w b off)/\Ext c (c.fix w b off)/\(c.fix w b off).ρ σ.next=(b,off)/\σ.next<(c.fix w b off).N:=by
 have hold:∀i,i<c.N->(c.fix w b off).ρ i=c.ρ i:=λi hi=>by grind[Ctx.fix]
 have F3:∀i,i<c.N->(c.fix w b off).X i=c.X i:=λi hi=>by grind[Ctx.fix]
 have J:(c.fix w b off).ρ c.N=(b,off):=by simp[Ctx.fix]
 have hnX:(c.fix w b off).X c.N=true:=by simp[Ctx.fix]
 have hN:(c.fix w b off).N=c.N+1:=rfl;have bY:b<w.heap.size:=(Array.getElem?_eq_some_iff.1 hb).1;have I:Ny (c.fix w b off):=λi hi=>by
  by_cases h1:i=c.N
  .grind
  .rw[F3 i Y];exact hX i Y
 have ex:Ext c (c.fix w b off):=⟨Y,hold,λi hi=>by
  show(if (c.ρ i).1=b then rowSize w b else c.Z (c.ρ i).1)=_;split
  .rename_i he;rw[h.zz i hi,he]
  .rfl,F3⟩
 have key:∀i o,(σ.new (.cells cs.length cs true)).tr.get i=some o->(i=c.N/\o=.cells cs.length cs true)\/(i<c.N/\σ.tr.get i=some o):=by
  intro i o hi;rw[fu,h.next] at hi
  by_cases h1:i=c.N
  .grind
  .simp[h1] at hi;exact .inr ⟨h.live i o hi,hi⟩
 refine⟨⟨by simp[H.new,h.next,hN],λi o hi=>?_,λi hi=>?_,λi hi=>?_,λi j o o' hi hj he=>?_,λi o hi=>?_,λi Bu pz hi hx=>?_,λi o hi hx=>?_⟩,I,ex,by rw[h.next];exact J,by rw[h.next,hN];omega⟩
 .grind
 .by_cases h1:i=c.N
  .grind
  .rw[hold i Y];exact h.lP i Y
 .by_cases h1:i=c.N
  .rw[h1,J];show(if b=b then rowSize w b else c.Z b)=_;rw[bk U]
  .rw[hold i Y];show(if (c.ρ i).1=b then rowSize w b else c.Z (c.ρ i).1)=_;split
   .grind
   .exact h.zz i Y
 .have li:i<c.N+1:=Q;have lj:j<c.N+1:=Q;exact .inr ⟨I i Y,I j Y⟩
 .rcases key i o hi with⟨rfl,rfl⟩|⟨a1,a2⟩
  .refine⟨U,λv hv=>⟨(bT ex v (nj v hv).1).2,(nj v hv).2⟩,C,e,fz,Q,Q,λj v hj=>?_,aa⟩<;>grind[bT]
  .exact(h.obj i o a2).later ex a1 U
 .have li:i<c.N+1:=Q;rw[I i Y] at hx;cases hx
 .rcases key i o hi with⟨_,rfl⟩|⟨a1,a2⟩
  .simp
  .rw[F3 i a1] at hx;exact h.fx i o a2 hx
theorem OF {c c':Ctx}{w w':World}(hX:Ny c)(h:cq c w c' w'): w.keptBut w' (λ_=>False)/\w.heap.size<=w'.heap.size/\∀b,b<w.heap.size->w'.heap[b]?=w.heap[b]?:=by
 have J:∀b,b<w.heap.size->w'.heap[b]?=w.heap[b]?:=λb hb=>h.iF b hb λid I _=>hX id I;refine⟨⟨h.sys.1,h.sys.2,λi hi=>?_⟩,h.size,J⟩;rw[J i hi];split<;>simp_all
end Go.Proofs.YtiojppeahfoiaaaGreat.Am
namespace Go.Proofs.YtiojppeahfoiaaaGreat.Am
open Go Go.ChangeShapes Proofs.Tryz
variable {L:lp} {C:Array Value} {ε:bn} {a8:Ex->List (Nat×V)->H->Prop} {g:Gh} {h σ:H} {D0 D1 D2 D3 kv pU:Int} {E:List (Nat×V)} {S S':List aH} {G:List Gh} {mk data ids:List Nat} {rs:List dw} {rv:List V} {cs:List Value} {pm pd pr c a q r n k i j nx B ba ck id rr aF d b off o fuel:Nat} {fz:Nat×Nat} {A:mo} {α H':Type} {e t:TypeId} {w1 w2 w3 w4 w5 u v1 v2 v3 v4 v5:V}
def Dg (W:World)(S:List aH)(c:Ctx)(σ:H): Prop:=Rel c σ W/\Ny c/\Sat σ S
theorem Dg.zero (W:World): ∃c σ,Dg W [] c σ:=by
 refine⟨_,_,Rel.empty W,λid h=>absurd h (HU _),⟨λid o h=>by simp[T.wZ] at h,λ_=>none,λ_=>none,λ_ _ h=>(by cases h),λ_ _ h=>(by cases h),λ_=>.inl U,aa⟩⟩
theorem Dg.sat {W:World}{c:Ctx}(h:Dg W S c σ)(hs:∀h,Sat h S->Sat h S'): Dg W S' c σ:=⟨h.1,h.2.1,hs σ h.2.2⟩
def sF {α:Type}(W:World)(cs:List Value)(E:List V->α->aH)(φ:α->Prop): Prop :=
 ∀(c:Ctx) (σ:H) (S:List aH),Dg W S c σ->∃(c':Ctx) (c5:H) (vs:List V) (x:α),Dg W (E vs x::S) c' c5/\Ext c c'/\vs.map (conc c')=cs/\(∀v∈vs,wf c' v/\storable v=true)/\φ x
theorem sF.rows {W:World}{E:List V->α->aH}{A:List V->List α->aH}{φ:α->Prop}(hE:∀vs x,bg (E vs x))(hA:∀l m,bg (A l m))(J:∀m r,(A [] []).p m r)(I:∀vs x l m a b,(E vs x).p a b->(A l m).p a b->(A (vs++l) (x::m)).p a b):
  ∀(fU:List (List Value)),(∀cs∈fU,sF W cs E φ)->sF W fU.flatten A (λxs=>xs.length=fU.length/\∀x∈xs,φ x):=by
 intro fU;induction fU with
 |nil =>
  intro _ c σ S h;exact⟨c,σ,[],[],h.sat λh s=>(s.eF (φ:=True) aa).iX λm r _=>J m r,Ext.refl c,U,λv hv=>(by cases hv),U,λx hx=>(by cases hx)⟩
 |cons cs fU ih =>
  intro hc c σ S h;obtain⟨c1,σ1,l,m,h1,e1,m1,w1,n1,p1⟩:=ih (λx hx=>hc x (ki _ hx)) c σ S h;obtain⟨c2,σ2,vs,x,h2,e2,m2,w2,p2⟩:=hc cs iu c1 σ1 _ h1;obtain⟨q1,q2⟩:=nh e2 λv hv=>(w1 v hv).1;refine⟨c2,σ2,vs++l,x::m,h2.sat λh s=>s.two (hE _ _) (hA _ _) λa b k1 k2=>I _ _ _ _ _ _ k1 k2,e1.trans e2,?_,λv hv=>?_,Q,λy hy=>?_⟩<;>grind
def VK {α:Type}(k:Nat)(A:List V->List α->aH)(vs:List V)(x:List α): aH:=.xs λv:V=>.xs λcs:List V=>.an (.pu (vs=[v])) (.an (rowA k v cs) (A cs x))
theorem sF.ahO {W:World}{A:List V->List α->aH}{φ:List α->Prop}(I:∀m r,(A [] []).p m r)(J:φ []): sF W [.slice none 0 0] (VK k A) φ:=λc σ S h =>
 ⟨c,σ,[.aP],[],h.sat λh s=>(s.eF (φ:=True) aa).iX λm r _=>⟨.aP,[],U,⟨none,.inl U,U⟩,I m r⟩,Ext.refl c,by rfl,λv hv=>by rw[List.mem_singleton.1 hv];exact⟨aa,U⟩,J⟩
theorem sF.aez {W:World}{A:List V->List α->aH}{φ:List α->Prop}{a:Addr}(I:∀m r,(A [] []).p m r)(J:φ []): sF W [.slice (some a) 0 0] (VK k A) φ:=λc σ S h =>
 ⟨c,σ,[.sle a],[],h.sat λh s=>(s.eF (φ:=True) aa).iX λm r _=>⟨.sle a,[],U,⟨none,.inr ⟨a,U⟩,U⟩,I m r⟩,Ext.refl c,by rfl,λv hv=>by rw[List.mem_singleton.1 hv];exact⟨aa,U⟩,J⟩
theorem sF.ahP {W:World}{len cap:Nat}{A:List V->List α->aH}{φ:List α->Prop}(hb:W.heap[b]?=some (.cells C e fz))(hl:off+cs.length<=C.size)(hn:cs.length=len*k)(J:len<=cap)
 (hc:∀j v,cs[j]?=some v->C[off+j]?=some v)(hA:∀l m,bg (A l m))(ho:sF W cs A φ): sF W [.slice (some ⟨b,off,none⟩) len cap] (VK k A) φ:=by
 intro c σ S h;obtain⟨c1,I,vs,x,h1,e1,m1,w1,p1⟩:=ho c σ S h;have hlen:vs.length=cs.length:=Q;obtain⟨g1,g2,g3,g4,g5⟩:=h1.1.fix h1.2.1 hb (cs:=vs) (off:=off) Y (λj v hv=>hc j _ Q) w1;refine⟨_,_,[.sl I.next 0 len (.exact cap)],x,⟨g1,g2,?_⟩,e1.trans g3,?_,λv hv=>?_,p1⟩
 .have s1:Sat (I.new (.cells vs.length vs true)) (.ro I.next (.cells vs.length vs true)::A vs x::S):=(h1.2.2.new _).freeze
  refine s1.two (bg.ro _ _) (hA _ _) λm r k1 k2=>⟨_,vs,U,⟨some (I.next,len,cap),k1,U,Y⟩,k2⟩
 .simp[conc,g4]
 .rw[List.mem_singleton.1 hv];exact⟨⟨g5,J⟩,U⟩
theorem Y0 {W:World}{a:Addr}{v:Value}(h:W.cell? a=some v): ∃b off,a=⟨b,off,none⟩/\∃C e fz,W.heap[b]?=some (.cells C e fz)/\C[off]?=some v:=by
 obtain⟨b,off,spot⟩:=a;have hs:spot=none:=World.cell?_spot h;grind[World.cell?]
theorem acu {β:Type}{f:α->β}{l:List α}{b:β}(h:l.map f=[b]): ∃a,l=[a]/\f a=b:=by
 simp_all
end Go.Proofs.YtiojppeahfoiaaaGreat.Am
namespace Go.Proofs.YtiojppeahfoiaaaGreat.Am
open Go Go.ChangeShapes Go.WideShapes Go.ChangeAt Go.RowKit Proofs.Tryz
variable {L:lp} {C:Array Value} {ε:bn} {a8:Ex->List (Nat×V)->H->Prop} {g:Gh} {h σ:H} {D0 D1 D2 D3 kv pU:Int} {E:List (Nat×V)} {S S':List aH} {G:List Gh} {mk data ids:List Nat} {rs:List dw} {rv:List V} {cs:List Value} {pm pd pr c a q r n k i j nx B ba ck id rr aF d b off o fuel:Nat} {fz:Nat×Nat} {A:mo} {α H':Type} {e t:TypeId} {w1 w2 w3 w4 w5 u v1 v2 v3 v4 v5:V}
theorem Y1 {H:Type}(d:DataW H): 1<=Rows.uptoBulk d:=by
 cases d with
 |lit l=>cases l<;>simp[Rows.uptoBulk]
 |nil=>simp[Rows.uptoBulk]
 |ptr d=>simp[Rows.uptoBulk]
 |slice elems spare=>simp[Rows.uptoBulk]
 |agg parts=>simp[Rows.uptoBulk]
 |iface t d=>simp[Rows.uptoBulk]
 |map entries=>simp[Rows.uptoBulk]
 |held h=>simp[Rows.uptoBulk]
theorem J8 {H:Type}{d:DataW H}: ∀ {l:List (DataW H)},d∈l->Rows.uptoBulk d<=Rows.uptoBulkAll l:=by
 intro l;induction l<;>grind[Rows.uptoBulkAll]
theorem Y2 {H:Type}: ∀(l:List (DataW H)),l.length<=Rows.uptoBulkAll l:=by
 intro l;induction l<;>grind[Y1,Rows.uptoBulkAll]
theorem Se {H:Type}(a b:List (DataW H)): Rows.uptoBulk (.slice a b)=Rows.uptoBulkAll a+Rows.uptoBulkAll b+1:=by rfl
theorem acv {W:World}(I:W.heap[b]?=some (.cells C e fz)): W.cell? ⟨b,o,none⟩=C[o]?:=by
 grind[World.cell?]
section
variable {enc:TypeId×Value->H'} {W:World} {x:DataW H'×List MemPlace}
theorem VL {E:List V->α->aH}{A:List V->List α->aH}{φ:α->Prop}(ht:prog.underlying t=some (.slice e))(hk:prog.cellsOf e=k)(h1:1<=k)
 (hE:∀vs x,bg (E vs x))(hA:∀l m,bg (A l m))(Fg:∀m r,(A [] []).p m r)(Qk:∀vs x l m a b,(E vs x).p a b->(A l m).p a b->(A (vs++l) (x::m)).p a b)
 (OV:∀n cs (y:DataW H'×List MemPlace),DataW.trod enc prog W 0 (λ_=>true) true n e cs=some y->Rows.uptoBulk y.1<=B->sF W cs E φ)
 (h:DataW.trod enc prog W 0 (λ_=>true) true fuel t cs=some x)(hB:Rows.uptoBulk x.1<=B): sF W cs (VK k A) (λxs=>xs.length<=B/\∀x∈xs,φ x):=by
 rcases DataW.trod_slice ht h with⟨rfl,rfl⟩|⟨a,len,cap,elems,rest,n,_,rfl,rfl,_,ZY,_,hlen,I,CO,_⟩
 .grind[sF.ahO]
 .obtain⟨GV,J⟩:=CO U;rw[hk] at I J;rw[Se] at hB;by_cases h0:cap=0
  .simp_all[sF.aez]
  .-- each element's cells
   have each:∀i,i<cap->∃cs,W.cells? 0 (a.add (i*k)) k=some cs:=λi hi=>by
    by_cases Al:i<len
    .have h2:=I i Al;rw[aI Y] at h2;obtain⟨cs,h3,_⟩:=Option.bind_eq_some_iff.1 h2;exact⟨cs,h3⟩
    .have h2:=J (i-len) Y;rw[aI Y,show len+(i-len)=i by omega] at h2;obtain⟨cs,h3,_⟩:=Option.bind_eq_some_iff.1 h2;exact⟨cs,h3⟩
   obtain⟨cs0,ahQ⟩:=each 0 Y;obtain⟨_,ED,hc0⟩:=World.cells?_some ahQ;have g0:=hc0 0 Y;obtain⟨v0,hv0⟩:∃v,cs0[0]?=some v:=⟨_,aI Y⟩;rw[hv0] at g0;obtain⟨b,off,spot⟩:=a;have hs:spot=none:=by simpa[Addr.add] using World.cell?_spot g0
   subst hs;simp only[add_plain,Nat.zero_mul,wF] at g0;obtain⟨b',off',he,C,ty,fz,hb,Ev⟩:=Y0 g0;simp only[Addr.mk.injEq,and_true] at he;obtain⟨rfl,rfl⟩:=he;have aeh:off<C.size:=(Array.getElem?_eq_some_iff.1 Ev).1
   -- the rows
   have rows:∀i,i<len->∃cs,cs.length=k/\sF W cs E φ/\∀q v,cs[q]?=some v->C[off+i*k+q]?=some v:=λi hi=>by
    have h2:=I i hi;rw[aI Y] at h2;obtain⟨cs,h3,h4⟩:=Option.bind_eq_some_iff.1 h2;obtain⟨_,hl,hc⟩:=World.cells?_some h3;refine⟨cs,hl,OV n cs _ h4 ?_,λq v hq=>?_⟩
    .have:=J8 (l:=elems.map (·.1)) (HP (zW (l:=elems) (n:=i) Y));omega
    .have hqk:q<k:=Q;have:=hc q hqk;rw[add_plain,add_plain,acv hb,hq] at this;exact this
   have build:∀m,m<=len->∃fU:List (List Value),fU.length=m/\(∀cs∈fU,sF W cs E φ)/\fU.flatten.length=m*k/\∀j v,fU.flatten[j]?=some v->C[off+j]?=some v:=by
    intro m;induction m with
    |zero=>simp
    |succ m ih =>
     intro hm;obtain⟨fU,i1,i2,i3,i4⟩:=ih Y;obtain⟨cs,r1,r2,r3⟩:=rows m Y;refine⟨fU++[cs],by simp[i1],λy hy=>?_,by simp[i3,r1,tY],λj v hj=>?_⟩
     .rcases List.mem_append.1 hy with hy|hy<;>grind[List.mem_singleton]
     .rw[List.flatten_append,List.flatten_singleton] at hj;by_cases bY:j<m*k
      .grind
      .rw[HK Y,i3] at hj;have:=r3 _ v hj
       rwa [show off+m*k+(j-m*k)=off+j by omega] at this
   obtain⟨fU,b1,b2,b3,b4⟩:=build len (az _);have fJ:off+fU.flatten.length<=C.size:=by
    by_cases ED:len*k=0
    .omega
    .obtain⟨v,hv⟩:∃v,fU.flatten[len*k-1]?=some v:=⟨_,aI Y⟩;have:=(Array.getElem?_eq_some_iff.1 (b4 _ v hv)).1;omega
   have main:=sF.ahP (k:=k) (len:=len) (cap:=cap) hb fJ b3 ZY b4 hA (sF.rows hE hA Fg Qk fU b2);intro c σ S h;obtain⟨c1,σ1,vs,x,q1,q2,q3,q4,q5,q6⟩:=main c σ S h;refine⟨c1,σ1,vs,x,q1,q2,q3,q4,?_,q6⟩;have:=Y2 (elems.map (·.1));rw[cL] at this;omega
end
end Go.Proofs.YtiojppeahfoiaaaGreat.Am
namespace Go.Proofs.YtiojppeahfoiaaaGreat.Am
open Go Go.ChangeShapes Go.WideShapes Go.ChangeAt Go.RowKit Proofs.Tryz
variable {L:lp} {C:Array Value} {ε:bn} {a8:Ex->List (Nat×V)->H->Prop} {g:Gh} {h σ:H} {D0 D1 D2 D3 kv pU:Int} {E:List (Nat×V)} {S S':List aH} {G:List Gh} {mk data ids:List Nat} {rs:List dw} {rv:List V} {cs:List Value} {pm pd pr c a q r n k i j nx B ba ck id rr aF d b off o fuel:Nat} {fz:Nat×Nat} {A:mo} {α H':Type} {e t:TypeId} {w1 w2 w3 w4 w5 u v1 v2 v3 v4 v5:V}
noncomputable def P7 (P:Program)(t:TypeId): Array Field:=match P.underlying t with
 |some (.struct I)=>I
 |_ => #[]
def I5 (I:Array Field)(i:Nat): Option (TypeId×Nat):=(I[i]?).map λf=>(f.type,f.offset)
theorem afV : prog.underlying 59=some (.struct (P7 prog 59)):=bo
theorem aae : prog.cellsOf 59=4:=bo
theorem Sf : prog.cellsOf 3=1:=bo
theorem afW : (P7 prog 59).size=4:=bo
theorem afX : I5 (P7 prog 59) 0=some (3,0):=bo
theorem afY : I5 (P7 prog 59) 1=some (3,1):=bo
theorem afZ : I5 (P7 prog 59) 2=some (3,2):=bo
theorem af0 : I5 (P7 prog 59) 3=some (2,3):=bo
theorem af1 : prog.cellsOf 2=1:=bo
theorem Ek {I:Array Field}(h:I5 I i=some (t,o)): ∃f,I[i]?=some f/\f.type=t/\f.offset=o:=by
 grind[I5]
theorem VM {l:List α}(h:l.length=4): ∃a b c d,l=[a,b,c,d]:=by
 rcases l with _|⟨a,_|⟨b,_|⟨c,_|⟨d,_|⟨e,l⟩⟩⟩⟩⟩<;>simp at h;exact⟨a,b,c,d,U⟩
def d4E (vs:List V)(D:Int×Int×Int×Int): aH:=.pu (vs=[.int .i64 D.1,.int .i64 D.2.1,.int .i64 D.2.2.1,.int .i64 D.2.2.2])
def d4A (l:List V)(m:List (Int×Int×Int×Int)): aH:=.pu (l=zu m)
section
variable {enc:TypeId×Value->H'} {W:World} {x:DataW H'×List MemPlace}
theorem acw (h:DataW.trod enc prog W 0 (λ_=>true) true fuel 59 cs=some x): sF W cs d4E (λ_=>True):=by
 obtain⟨xs,n,rfl,rfl,hl,hx,hf⟩:=DataW.trod_struct afV h;rw[aae] at hl;rw[afW] at hx;obtain⟨f0,a0,b0,c0⟩:=Ek afX;obtain⟨f1,a1,b1,c1⟩:=Ek afY;obtain⟨f2,a2,b2,c2⟩:=Ek afZ;obtain⟨f3,a3,b3,c3⟩:=Ek af0;have h0:=hf 0 f0 a0;have h1:=hf 1 f1 a1;have h2:=hf 2 f2 a2;have h3:=hf 3 f3 a3;rw[b0,c0,Sf] at h0;rw[b1,c1,Sf] at h1;rw[b2,c2,Sf] at h2;rw[b3,c3,af1] at h3;obtain⟨v0,v1,v2,v3,rfl⟩:=VM hl;obtain⟨y0,y1,y2,y3,rfl⟩:=VM hx;have h0:DataW.trod enc prog W 0 (λ_=>true) true n 3 [v0]=some y0:=h0;have h1:DataW.trod enc prog W 0 (λ_=>true) true n 3 [v1]=some y1:=h1;have h2:DataW.trod enc prog W 0 (λ_=>true) true n 3 [v2]=some y2:=h2;have h3:DataW.trod enc prog W 0 (λ_=>true) true n 2 [v3]=some y3:=h3;obtain⟨m0,I,_,_⟩:=DataW.trod_int bB h0;injection I with I _;subst I;obtain⟨m1,J,_,_⟩:=DataW.trod_int bB h1;injection J with J _;subst J;obtain⟨m2,Bz,_,_⟩:=DataW.trod_int bB h2;injection Bz with Bz _;subst Bz;obtain⟨m3,J0,_,_⟩:=DataW.trod_int Ay h3;injection J0 with J0 _;subst J0;exact λc σ S hr=>⟨c,σ,[.int .i64 m0,.int .i64 m1,.int .i64 m2,.int .i64 m3],(m0,m1,m2,m3),hr.sat λh s=>(s.eF (φ:=True) aa).iX λa b k=>U,Ext.refl c,by rfl,λv hv=>by
  simp only[rO,oD,tZ] at hv;rcases hv with rfl|rfl|rfl|rfl<;>exact⟨aa,U⟩,aa⟩
theorem Y3 (h:DataW.trod enc prog W 0 (λ_=>true) true fuel 48 cs=some x)(I:Rows.uptoBulk x.1<=B): sF W cs (VK 4 d4A) (λxs=>xs.length<=B/\∀y∈xs,True) :=
 VL (E:=d4E) Df aae O (λ_ _=>bg.pu _) (λ_ _=>bg.pu _) (λ_ _=>U) (λvs x l m a b h1 h2=>by
  subst h1;subst h2;exact(U:_=zu (x::m))) (λn cs y J _=>acw J) h I
end
end Go.Proofs.YtiojppeahfoiaaaGreat.Am
namespace Go.Proofs.YtiojppeahfoiaaaGreat.Am
open Go Go.ChangeShapes Go.WideShapes Go.ChangeAt Go.RowKit Proofs.Tryz
variable {L:lp} {C:Array Value} {ε:bn} {a8:Ex->List (Nat×V)->H->Prop} {g:Gh} {h σ:H} {D0 D1 D2 D3 kv pU:Int} {E:List (Nat×V)} {S S':List aH} {G:List Gh} {mk data ids:List Nat} {rs:List dw} {rv:List V} {cs:List Value} {pm pd pr c a q r n k i j nx B ba ck id rr aF d b off o fuel:Nat} {fz:Nat×Nat} {A:mo} {α H':Type} {e t:TypeId} {w1 w2 w3 w4 w5 u v1 v2 v3 v4 v5:V}
noncomputable def Sg : List (Nat×Pin):=[(117,IJ),(118,L0),(37,Bt ⟨prog,HG⟩ 37),(33,Bt ⟨prog,xU⟩ 33),(76,AA),(136,y7 136),(159,y7 159),(82,pinSrt),(80,y7 80),(79,y7 79),(26,RM CK 26),(191,RE)]
noncomputable def KN : Nat->Option (List V->H->Option (V×H)):=toldP Sg oZ
noncomputable abbrev CV : eP:=⟨prog,KN⟩
theorem I6 : W KN:=Ej λx I=>by
 simp only[Sg,rO,oD,tZ] at I;rcases I with rfl|rfl|rfl|rfl|rfl|rfl|rfl|rfl|rfl|rfl|rfl|rfl<;>exact⟨O,O,O⟩
theorem Nz : er CV:=Bi λx I=>by
 simp only[Sg,rO,oD,tZ] at I;rcases I with rfl|rfl|rfl|rfl|rfl|rfl|rfl|rfl|rfl|rfl|rfl|rfl
 .exact⟨_,Cp,U,O⟩
 .exact⟨_,LY,U,O⟩
 .exact⟨_,M9,U,O⟩
 .exact⟨_,M_,U,O⟩
 .exact⟨_,CZ,U,O⟩
 .exact⟨_,MG,U,O⟩
 .exact⟨_,MH,U,O⟩
 .exact⟨_,Hz,U,O⟩
 .exact⟨_,M7,U,O⟩
 .exact⟨_,Mm,U,O⟩
 .exact⟨_,vr,U,O⟩
 .exact⟨_,func191,U,O⟩
theorem Y4 : WO KN:=⟨⟨⟨I6,U⟩,⟨I6,U⟩,U,U⟩,λs=>(E0 (es:=[]) (K:=[]) U aa O U .nil (λ_ _ _ _ h=>by simp at h) s).mono λv h' ⟨q,s⟩=>⟨q U,s.drop⟩⟩
theorem Y5 : tH KN:=⟨⟨Y4,U,U,U⟩,⟨I6,U,U⟩,U,U⟩
theorem Sh {enc:TypeId×Value->H'}{W:World}{x:DataW H'×List MemPlace}{n:Int}{v:Value}(h:DataW.trod enc prog W 0 (λ_=>true) true fuel 48 [v]=some x)(hB:Rows.uptoBulk x.1<=1048576):
  Calls prog 8 #[.int .i64 n,v] W λe w'=>e=.returned (.bool true)/\W.keptBut w' (λ_=>False)/\W.heap.size<=w'.heap.size/\∀b,b<W.heap.size->w'.heap[b]?=W.heap[b]?:=by
 obtain⟨c0,J,h0⟩:=Dg.zero W;obtain⟨c,σ,vs,l,hr,_,hm,nj,hl⟩:=Y3 h hB c0 J [] h0;obtain⟨dv,rfl,hdv⟩:=acu hm;obtain⟨dv',s⟩:=gh.1 hr.2.2;obtain⟨cs,s⟩:=gh.1 s;have s0:=s;obtain⟨_,_,_,_,hk⟩:=s0.at (k:=0) U;have e:[dv]=[dv']:=hk.1;injection e with e _;subst e;have ec:cs=zu l:=hk.2.2;subst ec;have s1:=s.iX (B:=rowA 4 dv (zu l)) λ_ _ k=>k.2.1;obtain⟨v',h',B7,rfl⟩:=Sd (nv:=n) Y5 hl.1 s1;obtain⟨N,hN⟩:=B7;have I:=(callF_ok (C:=CV) (yl cm Nz N).1 Nz hN hr.1 (λx hx=>by
  rcases List.mem_cons.1 hx with rfl|hx
  .exact aa
  grind)).1
 unfold gd at I;have ea:(([V.int .i64 n,dv].map (conc c)).toArray) = #[.int .i64 n,v]:=by simp[conc,hdv]
 rw[ea] at I;refine Calls.mono I ?_;rintro e w' ⟨c',rfl,_,_,hs⟩;obtain⟨k1,k2,k3⟩:=OF hr.2.1 hs;exact⟨by rfl,k1,k2,k3⟩
end Go.Proofs.YtiojppeahfoiaaaGreat.Am
