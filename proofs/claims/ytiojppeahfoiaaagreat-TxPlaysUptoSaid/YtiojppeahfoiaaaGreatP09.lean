/- TxPlays: a part of its proof; conditions: its statement's. -/
import Derived.Test.YtiojppeahfoiaaaGreatP08
import Derived.Test.YtiojppeahfoiaaaGreatP06
import Derived.Test.YtiojppeahfoiaaaGreatP05
set_option linter.defProp false
namespace Go.Proofs.YtiojppeahfoiaaaGreat.Am
open Go Proofs.Tryz
def jL:=@underlying86
def kf:=@underlying87
def mT:=@underlying88
def mU:=@underlying72
def vr:=@func26
def xO:=@underlying94
def Hz:=@func82
def M7:=@func80
def M8:=@func77
def M9:=@func37
def M_:=@func33
variable {L:lp} {c':Ctx} {δ:Dk} {ε aj:bn} {lv dd:bn->Prop} {es:cg} {a8:Ex->List (Nat×V)->H->Prop} {h h':H} {z d D0 D1 D2 D3:Int} {B0:Int->List Nat} {C:Int->List Nat->Prop} {g:Int->Option Nat} {ai7:Int->Prop} {now:List (Int×List Nat)} {ad:List (Nat×Int)} {l l2 mr:List (Nat×Nat)} {E2 E:List (Nat×V)} {S:List aH} {ao:List Bool} {data mk seen cO R ids:List Nat} {rs r1 c8 rA r2 c1 c2:List dw} {cs ds args Rt cs6 iY rv a3:List V} {N B M ba ck k c a q r aF nx n id i j rr dn b mid clock pv it t x f y t' k' cost Na fF tx pn sz jT nd nm p4 p5 p6 pm pr j0 pd:Nat} {P:Program} {A A':mo} {α β:Type} {e:TypeId} {inf:TypeInfo} {av u dt v' dv fv mv uv v1 v2 v3 v4 v5 w1 w2 w3 w4 w5:V} {w':World}
noncomputable def KL : Nat->Option (List V->H->Option (V×H)):=toldP [(76,AA)] oZ
noncomputable abbrev CK : eP:=⟨prog,KL⟩
theorem Bj : er CK:=Bi λx I=>by
 rw[List.mem_singleton.1 I];exact⟨_,CZ,U,O⟩
theorem Nb : WK KL:=by
 refine⟨Ej λx I=>?_,?_⟩
 .rw[List.mem_singleton.1 I];exact⟨O,O,O⟩
 .rfl
section
variable {p:Nat}
theorem Yv (hB:B<=800)(hI:TxI N B M ba ck mk rs ε)(ox:ba+szB rs<=1000000)(hN:4<=N)(hN2:N<=1000)(hs:mj N (List.replicate 64 0) CX (pgA ε))(tM:1<=n)(hn:n<=50)(hf:szB rs+2120<=M)
 (s:Sat h (pt c (.cells 2 [.aW,.int .i64 (n:Int)] false)::SA a p q r .aW data aF ε::S)):
  ∃v h2,(∃N0,∀n,N0<=n->toldDefer CB n 80 [.ptr c 0,.ptr a 0] h=some (v,h2))/\∃c' aj,v=.int .i64 0/\iO N n 2 (List.replicate 400 0) (pgA aj) /\
   (dw.mk 1 0 0 0 [] c').len<=2120/\TxI N (B+2) M ba ck mk (rs++[⟨1,0,0,0,[],c'⟩]) aj/\Sat h2 (pt c (.cells 2 [.aW,.int .i64 (n:Int)] false)::SA a p q r .aW data aF aj::S):=by
 have I:=W.base;have GV:(List.replicate 64 0).length=64:=lF;obtain⟨ex,x_⟩:=hs.head;have J:(List.replicate 400 0).length=400:=lF;have yC:(dU (List.replicate 64 0) (4*(0:Int).toNat) 4:Nat)=0:=by rfl
 have aef:dU (CY (List.replicate 64 0) 0 2) 0 4=2:=by rfl
 have Mw:∀j,bt CX j=decide (j<2):=λj=>UA;refine toldDefer_do (C:=CB) M7 U U (of_decide_eq_true (by rfl)) ?_;generalize List.replicate 64 0=R at hs GV x_ yC aef;generalize CX=M0 at hs Mw;generalize hZ:List.replicate 400 0=Z at J;have s:=s.ae [1];dsimp only[bringA,getA,aB] at s;refine WPd.seq (WPd.of_wp U (zr U (za U (zv (WPd.seq (WPd.of_wp U (zr U (zm U (zo U (uJ U (mki_of Hf U)) (zc U (PG (i:=0) I (Ru I Y) hI.ei Y x_ GV O O s) ?_))))))))));rintro v h ⟨yZ,rfl,sk,gC,s⟩;rw[bk O,yC];have EW:=hI.sm sk gC;refine zk 5 U (zv (WPd.seq (WPd.seq (WPd.of_wp U (zr U (zm U (zh U (ag U U aE) U (zv (WPd.of_wp U (zj U (WP.skip (WPd.seq (WPd.seq (WPd.of_wp U (zr U (zm U (zh U (ag U U aE) U (zv (WPd.of_wp U (zj U (WP.skip (WPd.seq (WPd.of_wp U (zr U (zm U ?_)))))))))))))))))))))))));have s:=aX.1 s;dsimp only[List.cons_append,List.nil_append] at s;refine zc U (vk I s) ?_;rintro v h ⟨g,rfl,s⟩;have s:Sat h (GA g a p q r data aF [] yZ::_):=aX.2 s;refine zk 5 U (zv (WPd.seq (WPd.seq (WPd.of_wp U (zr U (zm U (zh U (ag U U aE) U (zv (WPd.of_wp U (zj U (WP.skip (WPd.seq (WPd.defer U U U U U U U U U U U U (WPd.seq (WPd.seq (WPd.of_wp U (zr U (za U (zv (WPd.of_wp U (WP.block (WP.loop (zw (zg U (zm U (zb U (by exact jM ay)<|zk 2 U (zY s 1 wQ cW U (zB U aG Q<|zv (zi U (WP.skip (zw (WP.block (zg U (zm U ?_))))))))))))))))))))))))))))))))));have hsG:mj N R M0 (pgG [] yZ):=by rw[show pgG [] yZ=pgA ε from funext λm=>gC.1 m];exact hs
 refine zc U (Us (lo:=2) I Y sk (NW.nil N) hsG Y Q (λj hj=>Q) s) ?_;rintro v h ⟨xJ,IW,rfl,vm,qV,ov,xz,Ct,_,_,_,s⟩;refine zk 10 U (zC U aE U (zk 5 U (zc U (Mh (kd:=205) I s O) ?_)));rintro v h ⟨u1,b1,rfl,BX,s⟩;refine zk 11 U (zY s 2 wQ cW U (zc U (PC (lk:=0) (ex:=n) I s (bh _ _) BX O Y) ?_));rintro v h ⟨u2,b2,rfl,qy,s⟩;refine zk 8 U (aq.any U U U (OpR.GD U s U U U U O) λbv0 h s=>?_);rw[hZ] at s;have s:=s.ae [1,0];dsimp only[bringA,getA,aB] at s;have fJ:26+4*(([]:List (List Nat)).length+1)+(tot []+Z.length)<=512:=by rw[J];decide
 refine zc U (PD (cs:=[]) (c:=Z) I s (bh _ _) (bh _ _) qy fJ) ?_;rintro v h ⟨u3,b3,rfl,Af,s⟩;refine zk 11 U ?_;have s:=s.ae [4,0];dsimp only[bringA,getA,aB] at s;refine zc U (Hi (i:=2) I Y vm ov Y s (bh _ _) Af) ?_;rintro v h ⟨Hj,rfl,vL,nD,m6,s⟩;have e3:∀m:Int,m≠2->pgG (dM ((2:Nat):Int) b3 IW) Hj m=pgG IW xJ m:=λm hm=>by rw[jP,ax (show ¬ ((2:Nat):Int)=m by omega),Hh nD]
 have hp3:mj N R (Hg M0 2) (pgG (dM ((2:Nat):Int) b3 IW) Hj):=Ct.roots (e3 1 O) (by rw[e3 0 O];exact Ct.head) Ct.rl;refine zk 5 U (zC U aE U (zk 8 U (zc U (Ry (i:=0) (z:=2) I Y vL m6 hp3 s) ?_)));rintro v h ⟨XV,Yw,adV,hs4,JW,hn4,s,RO⟩;rcases RO with⟨KW,_⟩|⟨_,_,_,_,rfl,hp4,ho4⟩
 .exact absurd ⟨O,O,O,Y⟩ KW
 have Vb:=EW.sm adV ((qV.trans nD).trans hs4);have ai8:pgG Yw XV 2=b3:=by grind[jP]
 have xP:Yw.length<=4:=by
  grind[rF]
 have hct:iO N n 2 Z (pgG Yw XV):=⟨⟨_,_,hp4,aef⟩,O,Y,Q,J⟩;refine za U (zv (zg U (zm U (zh U (ag U U aE) U (zv (zj U (WP.skip (zr U (zm U (zb U (by exact aT ay)<|zk 2 U (WP.loop (zK 4 U (zb U (by exact jM ay)<|zk 2 U (zY s 5 wQ cW U (zC U aG Q<|zk 2 U (WP.exit (WPd.seq (WPd.of_wp U (zK 2 U (zo U (cE U (Hl (kd:=1))) ?_))))))))))))))))))));have s:=s.pK.ae [1];dsimp only[bringA,getA,aB] at s;refine zc U (gdoneT_ct (kd:=1) (l:=4) I Y Vb Y JW xP Y Y O O O O O O Y s (bh _ _)) ?_;rintro v h ⟨c',aj,aL,rfl,rfl,ig,hlen,jR,s⟩;refine zk 4 U (zv (WPd.seq (WPd.of_wp U (zr U (zk 2 U (zv (WPd.of_wp U (WP.ret ?_))))))));have s:=aX.1 (s.ae [1]);have s:=s.ae [4,0];obtain⟨v2,h2,xo,rfl,s⟩:=tu I s;have s:=s.ae [1,1,1,1];have s:Sat h2 (SA a p q r .aW data aF aj::_):=aX.2 s;have Ys:oZ 59=none:=I.free _ U;have s:=s.ae [7,0];exact⟨aa,h2,_,oL (C:=CB) Ys vf U U xo,jk U,c',aj,U,hct.done JW ig,hlen,jR,(s.del 7 |>.del 6 |>.del 5 |>.del 4 |>.del 3 |>.del 2)⟩
end
structure Fre (told:bU)(f:Nat): Prop where
 free:∀g,g=f->told g=none
structure WO (told:bU): Prop where
 wt:WT told
 so:∀ {h:H} {S:List aH} {b mid clock:Nat},Sat h (pt b (.cells 1 [.map mid] false)::pt mid (.map [] clock)::S) ->
  Call ⟨prog,told⟩ 82 [.fn (.func 156) [] [.ptr b 0]] h λv h'=>v=.aP/\Sat h' (pt b (.cells 1 [.map mid] false)::pt mid (.map [] clock)::S)
section
variable {told:bU} {p m:Nat} {op:V}
noncomputable def asA : Code:=vn 0 ((f208.body).getD .skip)
noncomputable def asB : Code:=vn 1 ((f208.body).getD .skip)
noncomputable def tO : Code:=vn 2 ((f208.body).getD .skip)
noncomputable def tP : Code:=vn 3 ((f208.body).getD .skip)
noncomputable def asT : Code:=vn 4 ((f208.body).getD .skip)
theorem RP (I:WO told)(s:Sat h (pt b (.cells 1 [.map mid] false)::pt mid (.map [] clock)::S)):
  Call ⟨prog,told⟩ 82 [.fn (.func 156) [] [.ptr b 0]] h λv h'=>v=.aP/\Sat h' (pt b (.cells 1 [.map mid] false)::pt mid (.map [] clock)::S):=I.so s
end
section
variable {told:bU} {p m:Nat} {op ch:V} {kd:Int}
theorem abY (J:W told){y z:V}(I:(ep kd 0 pv nx dt ch).all storable=true)(s:Sat h S): Call ⟨prog,told⟩ 81 [y,.agg (ep kd 0 pv nx dt ch),z] h λv h'=>v=.aR []/\Sat h' S:=by
 exact Call.of_wp (J.free _ U) func81 U U (zg U (aq.bG s U U U (c7 U I) λp4 h s=>zk 4 U (zY s 0 Ij b8 U (zB U bH U (zk 7 U (WP.ret ⟨aa,_,U,U,s.drop⟩))))))
noncomputable def toL : Code:=aV [1,1,1,0,1,0,0] ((f36.body).getD .skip)
theorem RQ (hT:WO told)(hl:LR ba ck mk rs ε.2)(BN:ε.2.1.Ok)(h0:∀y∈rs,y.tx=0): ∀(R2 J:List dw) (h:H) (E:List (Nat×V)) (a8:Ex->List (Nat×V)->H->Prop),rs=J++R2->Sat h (dJ a p q r op data aF::bD q p ε.2.1::S) ->
  Has E [(0,.ptr a 0),(6,.ptr m 0),(9,.int .u64 ((ba+szB J:Nat):Int))]->(∀E' h',Has E' [(0,.ptr a 0),(6,.ptr m 0)]->Sat h' (dJ a p q r op data aF::bD q p ε.2.1::S)->a8 (.exit 0) E' h')->WP ⟨prog,told⟩ 105 (.loop toL) E h a8:=by
 have hW:=hT.wt.wr.w;intro R2;induction R2 with
 |nil =>
  intro J h E a8 I s hE hq;rw[fZ] at I;subst I;have Fw:((ba+szB rs:Nat):Int)=(ε.2.1.base:Int)+(ε.2.1.b.length:Int):=by rw[hl.base,hl.b,l9];omega
  refine WP.loop (WP.has hE (WP.block (zK 3 U (zc U (Ea hW s) ?_))));rintro v h' ⟨rfl,rfl⟩;rw[Fw];refine zm U (zc U (JK hW (s.ae [1]) BN) ?_);rintro v h ⟨rfl,s⟩;refine zk 4 U<|aq.bG s U U U (bK sR) (λTw h s=>?_);dsimp only[V.cells,List.length_cons,List.length_nil,Nat.reduceAdd,aB,bringA] at s;refine zS U (s.dS (j:=0) U gq U U) (λh s=>?_);dsimp only[ep,setA] at s;exact zk 7 U (zB U aE U (zk 2 U (WP.exit (hq _ _ ⟨U,U,aa⟩ ((s.ae [2,1]).del 2)))))
 |cons y R2 ih =>
  intro J h E a8 I s hE hq;have hy:y.tx=0:=h0 y Q;refine WP.loop (WP.has hE (WP.block (zK 3 U (zc U (Ea hW s) ?_))));rintro v h' ⟨rfl,rfl⟩;refine zm U (zc U (M5 hT.wt.wr (ke:=J) (vM:=R2) (y:=y) (by rw[<-I];exact hl) BN (s.ae [1])) ?_);rintro v h ⟨dt,ch,cs',rfl,s⟩;rw[hy];have dG:(V.agg (ep (y.kd:Int) 0 y.pv y.nx dt ch)).cells.all storable=true:=nE (s.buf (k:=1) U).view.cells.2 (s.cz 2 U).2.1;refine zk 4 U<|aq.bG s U U U (bK sR) (λTw h s=>?_);dsimp only[V.cells,List.length_cons,List.length_nil,Nat.reduceAdd,aB,bringA] at s;refine zS U (s.dS (j:=0) U gq U dG) λh s=>?_;dsimp only[ep,setA] at s;refine zk 7 U (zC U aE U (zk 6 U (zl U (s.bW (k:=0) U kV gq) (zm U (zc U (abY hW (kd:=(y.kd:Int)) (pv:=y.pv) (nx:=y.nx) (dt:=dt) (ch:=ch) dG s) ?_)))));rintro v h ⟨rfl,s⟩;exact zv (zr U (zk 2 U (zv<|ih (J++[y]) _ _ a8 Q (((s.ae [5,1]).del 5 |>.del 4 |>.del 3 |>.del 2)) ⟨U,U,by rw[hG,sq,<-z6];rfl,aa⟩ hq)))
theorem Nc (I:W told)(s:Sat h S): Call ⟨prog,told⟩ 83 [.map mid] h λv h'=>∃b,v=.fn (.func 156) [] [.ptr b 0]/\Sat h' (pt b (.cells 1 [.map mid] false)::S):=by
 exact Call.of_wp (I.free _ U) func83 U U (zg U (aq.bG s U U U (c7 U U) λb h s=>zk 4 U (zo U (uK U U) (zk 2 U (zR U ⟨b,U,s⟩)))))
theorem Yx (I:W told): Call ⟨prog,told⟩ 85 [.aP] h λv h'=>v=.int .i64 0/\h'=h:=by
 exact Call.of_wp (I.free _ U) func85 U U (zK 7 U (zo U (aO U U U (AW U underlying164)) (zk 2 U (zR U ⟨U,U⟩))))
theorem Yy (hT:WO told)(hl:LR ba ck mk rs ε.2)(BN:ε.2.1.Ok)(h0:∀y∈rs,y.tx=0)(s:Sat h (SA a p q r .aW [] 0 ε::S)):
  Call ⟨prog,told⟩ 36 [.ptr a 0,ju c] h λv h'=>∃m,v=.aR [.ptr m 0,.int .i64 0]/\Sat h' (eL m a 1 (ju c) []::SA a p q r .aW [] 0 ε::S):=by
 have I:=hT.wt.wr.w;refine Call.of_wp (I.free _ U) func36 U U (zg U (za U (za U (zv (zg U (zm U (zm U<|aq.Cg s U U U U (λJ h s=>(zo U (cE (r:=.agg [.ptr a 0,ju c,.map J,.int .u64 ((1:Nat):Int)]) U (by rw[aeZ];rfl))<|aq.bG s U U U (c7 U U) λm h s=>?_)))))))));dsimp only[V.cells,List.length_cons,List.length_nil,Nat.reduceAdd] at s;have s:=aX.1 (s.ae [2]);dsimp only[aB,bringA,List.cons_append,List.nil_append] at s;refine za U (zv (zw (zg U (zm U (aq.call U U U U U U U (Rm I s O) ?_)))));rintro v h ⟨w,rfl,s⟩;refine zm U (ze U (ze U (za U (za U (zv (zg U (zm U (zo U (aO U U U (by exact bC aZ (s.aQ 0 U (bh _ _))))<|aq.kK U U U (ag U U bH) cb<|zv (zj U (WP.skip (zw (zg U (zm U ?_)))))))))))));have s:=s.ae [1];dsimp only[bringA,getA,aB] at s;refine aq.call U U U U U U U (Ea I s) ?_;rintro v h' ⟨rfl,rfl⟩;refine aq.call U U U U U U U (yA I (s.ae [3])) ?_;rintro v h' ⟨rfl,rfl⟩;rw[hl.base];refine za U (zv (WP.block ?_));have s:=s.ae [0,2];dsimp only[bringA,getA,aB] at s;refine RQ hT hl BN h0 rs [] _ _ _ U s ⟨U,U,by rfl,aa⟩ λE' h' fg s'=>?_;have s:=s';refine WP.has fg (zg U<|aq.bG s U U U (bK ae3) (λp13 h s=>?_));dsimp only[V.cells,List.length_cons,List.length_nil,Nat.reduceAdd] at s;refine zv (zw (zg U (zm U (zn U (zf U (iw _ _) (zl U (by exact s.ld 6 U kA U) ?_))))));have s:=s.ae [6,6];dsimp only[bringA,getA,aB] at s;refine aq.call U U U U U U U (Nc I s) ?_;rintro v h ⟨b,rfl,s⟩;have s:=s.ae [0,1];dsimp only[bringA,getA,aB] at s;refine aq.call U U U U U U U (RP hT s) ?_;rintro v h ⟨rfl,s⟩;have s:=s.ae [2];dsimp only[bringA,getA,aB] at s;refine zo U (aO U U U (by exact AW U dg))<|zm U (zv (WP.block (WP.loop (zg U (aq.kK U U U (ag U U aG) O<|zv (zw (zj U (WP.exit (zw (WP.block (WP.loop (zw (zg U (zl U (by exact s.ld 3 U ae2 U)<|aq.call U U U U U U U (Yx I) ?_))))))))))))));rintro v h' ⟨rfl,rfl⟩;refine aq.kK U U U (ag U U dc) O<|zv (zj U (WP.exit (zg U (zm U (za U (za U (zv<|WP.ret ⟨aa,_,U,?_⟩)))))));have s:=s.ae [4,6,4,5];dsimp only[bringA,getA,aB] at s;have s:Sat _ (SA a p q r .aW [] 0 ε::_):=aX.2 s;have s:=s.ae [3];dsimp only[bringA,getA,aB] at s;have s:=Lv (κ:=.u64) (f:=λv (r:Nat)=>.pu (v=.ptr r 0)) s;have s:Sat _ (mc []::_):=(s.eF (φ:=True) aa);have s:=s.ae [3,1,0];dsimp only[bringA,getA,aB] at s;have s:Sat _ (eL m a 1 (ju c) []::_):=cD.2 ⟨.map J,s⟩;exact⟨m,U,(s.del 4 |>.del 3 |>.del 2)⟩
end
section
variable {told:bU} {b1:Nat} {w:V}
theorem Vc : ∃i,prog.info? 32=some i/\i.size=1/\i.bytes<=4096 :=
 ⟨_,(show prog.info? 32=some ((prog.info? 32).getD default) by kernel_rfl),bo,pX bo⟩
end
def Bk (v:V)(n:Nat): Prop:=v=.aP/\n=0\/∃id,v=.sl id 0 n (.rest 1 0)
theorem abZ {t:TypeId}{i:TypeInfo}{v x:V}{new:List V}(hu:P.underlying t=some (.slice e))(hi:P.info? e=some i)(I:i.size=1)(J:Bk v n)(hx:srcV h 1 x=some (new,1))(he:appendV P h #[t,t] v x=some (v',h')): Bk v' (n+1):=by
 unfold appendV at he;simp only[hu,hi,I] at he;cases hz:zeroT P e with
 |none=>grind
 |some z =>
  simp only[hz,I,hx] at he;cases hc:(Nat.ble 1 1&&Nat.ble i.bytes 4096&&Nat.beq z.cells.length 1) with
  |false=>grind
  |true =>
   rw[hc,ak] at he;rw[show Nat.beq 1 0=false from U,bq] at he;rcases J with⟨rfl,rfl⟩|⟨id,rfl⟩
   .cases hg:kH 1 i.bytes with
    |false=>grind
    |true =>
     rw[hg,ak] at he;simp only[nR,aC,bO] at he;exact .inr ⟨h.next,he.1.symm⟩
   .simp only[fM,ak] at he;cases h1:Nat.ble (n+1) (lN h id 0 1) with
    |true =>
     rw[h1,ak] at he;split at he
     .simp only[aC,bO] at he;exact .inr ⟨id,he.1.symm⟩
     .cases he
    |false =>
     rw[h1,bq] at he;cases h2:(kH (n+1) i.bytes&&Nat.ble 2 ((n+1)*1)) with
     |false=>grind
     |true =>
      rw[h2,ak] at he;split at he
      .simp only[nR,aC,bO] at he;exact .inr ⟨_,he.1.symm⟩
      .cases he
def mV (seen:List Nat)(es:cg): List Int:=(es.filter λe => !inL seen e.2.2).map (·.1)
theorem Vd : mV [] es=es.map (·.1):=by
 rw[mV];congr 1;exact List.filter_eq_self.2 λe _=>U
theorem Ve (h:∀e∈es,inL seen e.2.2=true): mV seen es=[]:=by
 grind[mV,List.filter_eq_nil_iff]
theorem OB (h:∀e∈es,e.2.2≠b): mV (seen++[b]) es=mV seen es:=by
 grind[mV,List.filter_congr,iV,eE]
theorem RR : ∀ {es:cg} {b:Nat} {e:Int×V×Nat},eU c b es->e∈es->inL seen e.2.2=false->(mV seen es).Perm (e.1::mV (seen++[e.2.2]) es):=by
 intro es;induction es with
 |nil=>simp
 |cons y es ih =>
  intro b e I he hs;rcases List.mem_cons.1 he with rfl|he
  .have h1:mV (seen++[e.2.2]) (e::es)=mV seen es:=by
    have h2:mV (seen++[e.2.2]) (e::es)=mV (seen++[e.2.2]) es:=by
     grind[mV,iV,Nat.beq_refl]
    rw[h2,OB λe' J=>by have:=jO I.2.2 e' J;omega]
   grind[mV]
  .have h3:=jO I.2.2 e he;have h4:=ih I.2.2 he hs;grind[iV,eE,mV]
section
variable {told:bU} {tE p2:Nat} {env:Env} {ks:List Nat}
def y9 (p2:Nat)(ks:List Nat): aH:=xs λv:V=>star [pt p2 (.cells 1 [v] false),.arr 1 v (aK ks),.pu (Bk v ks.length)]
theorem Bl : Sat h (y9 p2 ks::S)↔∃v,Bk v ks.length/\Sat h (pt p2 (.cells 1 [v] false)::.arr 1 v (aK ks)::S):=by
 simp only[y9,gh,aX];constructor
 .rintro⟨v,s⟩;have s:=s.ae [2];grind[bringA,getA,aB,j4]
 .rintro⟨v,q,s⟩;refine⟨v,?_⟩;have s:=(s.eF q).ae [1,1,0];simp_all[bringA,getA,aB]
theorem Yz {v:V}(hl:ks.length<1000)(hv:Bk v ks.length)(s:Sat h (.arr 1 v (aK ks)::S)):
  ∃xv h1 w h2,buildSliceV prog h 33 1 [(0,.int .u64 (k:Int))]=some (xv,h1)/\appendV prog h1 #[33,33] v xv=some (w,h2)/\Bk w (ks.length+1)/\Sat h2 (.arr 1 w (aK (ks++[k]))::S):=by
 obtain⟨i1,I,J,gu⟩:=Vc;obtain⟨xv,h1,e1,s1⟩:=fP prog (k:=1) (x:=.int .u64 (k:Int)) s dg rq gL U O O U U;obtain⟨n,hn,oO⟩:=PR (s1.WH (j:=0) U (GC _ _ _));have tM:n=1:=by simpa[V.cells] using hn.symm
 subst tM;obtain⟨w,h2,e2,s2⟩:=dV (s1.ae [1,0]) dg I rq J gu U O (by simp[aK,V.cells];omega);have s2:=s2.del 1;refine⟨xv,h1,w,h2,e1,e2,abZ dg I J hv oO e2,?_⟩;have e3:aK (ks++[k])=aK ks++(V.int .u64 (k:Int)).cells:=by simp[aK,V.cells]
 rw[e3];exact s2
theorem Vf (hE:Has E2 [(2,.ptr p2 0)])(hl:ks.length<1000)(s:Sat h (pt tE (.loop false 13 env [7] tO tP)::y9 p2 ks::S)):
  WP ⟨prog,told⟩ 13 tO ((7,.int .u64 (k:Int))::E2) h λex E1 h1=>ex=.normal/\T.get h1.tr tE=some (.loop false 13 env [7] tO tP)/\WP ⟨prog,told⟩ 13 tP E1 (h1.put tE (some (.loop true 13 env [7] tO tP))) λex E3 h2=>ex=.normal/\T.get h2.tr tE=some (.loop true 13 env [7] tO tP) /\
   (V.bool true=.bool true/\Sat (h2.put tE (some (.loop false 13 env [7] tO tP))) (pt tE (.loop false 13 env [7] tO tP)::y9 p2 (ks++[k])::S)):=by
 refine zr U (za U (zv ⟨U,s.row (k:=0) U,?_⟩));have s:Sat _ (pt tE (.loop true 13 env [7] tO tP)::y9 p2 ks::S):=s.put (k:=0) (o':=.loop true 13 env [7] tO tP) U;generalize h.put tE (some (.loop true 13 env [7] tO tP))=h at s ⊢;obtain⟨v,hv,s⟩:=Bl.1 (s.ae [1]);obtain⟨J,h1,w,h2,e1,e2,hw,s2⟩:=Yz (k:=k) hl hv (s.ae [1]);refine WP.has (F:=[(2,.ptr p2 0),(5,.int .u64 (k:Int))]) ⟨hE.1,U,aa⟩ (WP.block (zr U (zy s 0 j5 U (zm U (aq.any U U U (OpR.of (R:=λv h'=>v=J/\h'=h1) (jj U e1) ⟨U,U⟩) ?_)))));rintro J h1 ⟨rfl,rfl⟩;refine aq.any U U U (OpR.of (R:=λv h'=>v=w/\h'=h2) (fN U U e2) ⟨U,U⟩) ?_;rintro w h2 ⟨rfl,rfl⟩;have I:=(s2.cz 0 U);have s:=s2.ae [2,1];refine zS U (s.cS (k:=1) U oR U O I.1 I.2.1) λh s=>zv ?_;have g:=s.row (k:=0) U;have s:=s.put (k:=0) (o':=.loop false 13 env [7] tO tP) U;exact⟨U,g,U,(Bl.2 ⟨w,Q,s.ae [1,1]⟩).ae [1]⟩
noncomputable def kyA : Code:=aV [0] ((f156.body).getD .skip)
noncomputable def kyN : Code:=aV [1,0,0,0] ((f156.body).getD .skip)
noncomputable def kyB : Code:=aV [1,0,0,1,1,0] ((f156.body).getD .skip)
theorem YA : f156.body=some (.seq kyA (.block 0 (.loop (.seq kyN (.seq (.cond (.tmp 7) .skip (.exit 0)) (.block 1 kyB)))))):=rfl
theorem ab0 : ∃id I J,kyN=.region id #[I,J] false/\I.guard=none/\J.guard=none/\I.op=.next (.tmp 5) false/\I.dst=some 6/\J.op=.extract (.tmp 6) 0/\J.dst=some 7:=⟨_,_,_,U,U,U,U,U,U,U⟩
def kyJ (it mid clock tE p2:Nat)(env:Env)(es:cg)(S:List aH)(j:Nat)(E:List (Nat×V))(h:H): Prop :=
 ∃seen ks,Has E [(0,.BP tE),(5,.ptr it 0)]/\j=(leftV seen (es.map (g9 .u64))).length/\((ks.map λn:Nat=>(n:Int))++mV seen es).Perm (es.map (·.1)) /\
  Sat h (pt it (.iter mid clock clock seen)::iH .u64 mid es clock::pt tE (.loop false 13 env [7] tO tP)::y9 p2 ks::S)
theorem ab1 (hb:eU clock 0 es)(hn:es.length<1000)(ai9:∀e∈es,0<=e.1)(J:jl env E2)(JP:Has E2 [(2,.ptr p2 0)])(h0:kyJ it mid clock tE p2 env es S j E h):
  WPO CB 14 (.loop (.seq kyN (.seq (.cond (.tmp 7) .skip (.exit 0)) (.block 1 kyB)))) E h λex E' h'=>ex=.exit 0/\∃ks:List Nat,(ks.map λn:Nat=>(n:Int)).Perm (es.map (·.1))/\Sat h' (pt tE (.loop false 13 env [7] tO tP)::y9 p2 ks::iH .u64 mid es clock::S):=by
 refine WPO.loop (kyJ it mid clock tE p2 env es S) ?_ h0;rintro j E h ⟨seen,ks,hE,rfl,hp,s⟩;have g1:=s.row (k:=0) U;have g2:=s.row (k:=1) U;obtain⟨id,HY,Fc,q0,q1,q2,q3,q4,q5,q6⟩:=ab0;refine WPO.seq ?_;rw[q0];have hL:=next_at g1 (az _) g2 hb;refine WPO.next cm bM q1 q2 q3 q4 q5 U q6 U U (r:=it) ?_ hL λq hq=>?_
 .exact hE.2.1
 .rcases xE g1 (az _) g2 hb hL q hq with⟨rfl,oP⟩|⟨e,Jb,EO,bY,rfl⟩
  .rw[Ve oP,fZ] at hp;exact⟨.bool false,[],U,WPO.seq (WPO.cond (t:=false) U<|WPO.of cm bM (WP.exit ⟨U,ks,hp,(s.ae [2,2,1]).del 3⟩))⟩
  .refine⟨.bool true,_,U,WPO.seq (WPO.cond (t:=true) U<|WPO.of cm bM (WP.skip<|WPO.block (WPO.of cm bM ?_)))⟩;have yJ:ks.length<1000:=by
    have:=hp.length_eq;grind
   have dG:=RR hb Jb EO;have s:=s.put (o':=.iter mid clock clock (seen++[e.2.2])) (k:=0) U;generalize h.put it (some (.iter mid clock clock (seen++[e.2.2])))=h' at s;dsimp only[setA] at s;have g1:=s.row (k:=0) U;have g2:=s.row (k:=1) U;have I:=xD g1 g2 hb Jb;obtain⟨kn,hkn⟩:∃kn:Nat,e.1=(kn:Int):=⟨e.1.toNat,Q⟩;rw[hkn] at I dG;have s:=s.ae [2,2];dsimp only[bringA,getA,aB,List.cons_append,List.nil_append] at s;refine WP.has (F:=[(0,.BP tE),(5,.ptr it 0),(7,.bool true)]) ⟨hE.1,hE.2.1,U,aa⟩ (zg U (aq.any U U U (OpR.entry U U I) ?_));rintro v h ⟨rfl,rfl⟩;refine zk 7 U (aq.any U U U (OpR.yield (R:=λv h3=>v=.bool true/\Sat h3 (pt tE (.loop false 13 env [7] tO tP)::y9 p2 (ks++[kn])::pt it (.iter mid clock clock (seen++[e.2.2]))::iH .u64 mid es clock::S)) U U U U (s.row (k:=0) U) U (J.set _ _) (Vf JP yJ s)) ?_);rintro v h ⟨rfl,s⟩;refine zo U (cI U U) (zv (zj U (WP.skip ⟨_,bY,seen++[e.2.2],ks++[kn],⟨U,U,aa⟩,U,List.Perm.trans ?_ hp,s.ae [2,2,0,0]⟩)));rw[mD,gX];exact List.Perm.append_left _ dG.symm
theorem ab2 (hb:eU clock 0 es)(hn:es.length<1000)(I:∀e∈es,0<=e.1)(J:jl env E2)(JP:Has E2 [(2,.ptr p2 0)])(s:Sat h (pt tE (.loop false 13 env [7] tO tP)::y9 p2 []::pt b (.cells 1 [.map mid] false)::iH .u64 mid es clock::S)):
  CallsR prog 156 [.BP tE,.ptr b 0] h λ_ h3=>∃ks:List Nat,(ks.map λn:Nat=>(n:Int)).Perm (es.map (·.1))/\Sat h3 (pt tE (.loop false 13 env [7] tO tP)::y9 p2 ks::iH .u64 mid es clock::pt b (.cells 1 [.map mid] false)::S):=by
 have gm:=s.row (k:=3) U;refine CallsR.of_wpo (C:=CB) func156 YA (show 2<=14 by decide) ?_;refine WPO.seq (WPO.of cm bM ?_);refine zr U (zy s 2 kA U (aq.any U U U (OpR.range U U (show rangeV prog h 142 (.map mid)=some (.ptr h.next 0,h.new (.iter mid clock clock [])) by simp only[rangeV,tC,gm])) ?_))
 rintro v h' ⟨rfl,rfl⟩;refine zv ?_;have s7:=(s.new (.iter mid clock clock [])).ae [0,3,0,0,0];refine WPO.block ((ab1 (S:=pt b (.cells 1 [.map mid] false)::S) hb hn I J JP ⟨[],[],⟨U,U,aa⟩,U,by grind[Vd],s7⟩).mono ?_);rintro ex E' h' ⟨rfl,ks,k1,k2⟩;exact⟨aa,_,U,ks,k1,k2⟩
theorem ab3 (hb:eU clock 0 es)(hn:es.length<1000)(I:∀e∈es,0<=e.1)(s:Sat h (pt b (.cells 1 [.map mid] false)::iH .u64 mid es clock::S)):
  CallsR prog 208 [.aP,.fn (.func 156) [] [.ptr b 0]] h λv h2=>∃ks:List Nat,(ks.map λn:Nat=>(n:Int)).Perm (es.map (·.1))/\Bk v ks.length/\Sat h2 (.arr 1 v (aK ks)::iH .u64 mid es clock::pt b (.cells 1 [.map mid] false)::S):=by
 refine CallsR.range (C:=CB) (fn:=f208) (pa:=asA) (pb:=asB) (pt:=asT) (qB:=tO) (JR:=tP) (pid:=0) (g:=156) (px:=.tmp 6) (JS := #[7]) cm bM func208 U (show 2<=13 by decide) U ?_ ?_
 .exact FJ func156 U O
 refine zr U (aq.bG s U U U (c7 U U) λp2 h s=>?_);dsimp only[V.cells,List.length_cons,List.length_nil,Nat.reduceAdd] at s;refine za U (zv ⟨U,zr U (zm U (zv ⟨U,_,U,λenv J=>?_⟩))⟩);have s:Sat h (pt p2 (.cells 1 [.aP] false)::.arr 1 .aP (aK [])::pt b (.cells 1 [.map mid] false)::iH .u64 mid es clock::S):=(s.jr (k:=1)).ae [1,0];have s:=Bl.2 ⟨.aP,.inl ⟨U,U⟩,s⟩;have s:=s.new (.loop false 13 env [7] tO tP);refine(ab2 (p2:=p2) hb hn I J ⟨U,aa⟩ s).mono ?_;rintro u h3 ⟨ks,hp,s⟩;refine⟨s.row (k:=0) U,?_⟩;have s:=s.kill;generalize h3.put h.next none=h at s ⊢
 obtain⟨v,hv,s⟩:=Bl.1 s;exact zg U (zy s 0 j5 U (zk 2 U (WP.ret ⟨aa,_,jk U,ks,hp,hv,s.drop⟩)))
noncomputable def coA : Code:=aV [0] ((f154.body).getD .skip)
noncomputable def coB : Code:=aV [1,0] ((f154.body).getD .skip)
theorem YB : f154.body=some (.seq coA (.seq coB .ret)):=rfl
theorem YC : ∃id I J Nd cl,coB=.region id #[I,J,Nd] false/\(I.op=.move (.tmp 0)/\I.guard=none/\I.dst=some 3)/\(J.op=.call cl/\cl.callee=.value (.func 208)/\cl.args.toList=[.const (.slice none 0 0),.tmp 3]/\J.guard=none/\J.dst=some 4)/\(Nd.op=.assign (.tmp 4)/\Nd.guard=none/\Nd.dst=some 2):=⟨_,_,_,_,_,U,⟨U,U,U⟩,⟨U,U,U,U,U⟩,U,U,U⟩
theorem ab4 (hb:eU clock 0 es)(hn:es.length<1000)(I:∀e∈es,0<=e.1)(s:Sat h (pt b (.cells 1 [.map mid] false)::iH .u64 mid es clock::S)):
  CallsR prog 154 [.fn (.func 156) [] [.ptr b 0]] h λv h2=>∃ks:List Nat,(ks.map λn:Nat=>(n:Int)).Perm (es.map (·.1))/\Bk v ks.length/\Sat h2 (.arr 1 v (aK ks)::iH .u64 mid es clock::pt b (.cells 1 [.map mid] false)::S):=by
 refine CallsR.of_wpo (C:=CB) func154 YB (show 1<=5 by decide) ?_;refine WPO.seq (WPO.of cm bM<|zr U (za U (zv ?_)));obtain⟨id,J,Fc,Nd,cl,q0,⟨a1,a2,a3⟩,⟨b1,b2,b3,b4,b5⟩,d1,d2,d3⟩:=YC;refine WPO.seq ?_;rw[q0];refine WPO.region (pS.op (R:=λv h'=>v=.fn (.func 156) [] [.ptr b 0]/\h'=h) cm bM a2 a3 U (OpR.of (by rw[a1];exact aD U) ⟨U,U⟩) ?_);rintro _ h' ⟨rfl,rfl⟩;refine pS.call cm b4 b5 U b1 b2 (by rw[b3];rfl) (FJ func208 U O) (ab3 hb hn I s) ?_;rintro v h2 ⟨ks,k1,k2,s⟩;refine pS.op (R:=λv' h'=>v'=v/\h'=h2) cm bM d2 d3 U (OpR.of (by rw[d1];exact eZ U) ⟨U,U⟩) ?_;rintro _ h' ⟨rfl,rfl⟩;exact pS.nil<|WPO.of cm bM (WP.ret ⟨aa,_,U,ks,k1,k2,s⟩)
end
def VOk (k:Nat)(v:V)(cs rest:List V)(id n:Nat)(cap:Cap): Prop:=v=.sl id 0 n cap/\cs.length=n*k/\(cs++rest).all storable=true /\
 match cap with|.exact c=>n<=c|.rest e alt=>e=k/\alt=0/\1<=n
def roV (k:Nat)(v:V)(cs:List V): aH:=.xs λo:Option (Nat×Nat×Cap×List V)=>match o with
 |none=>.pu (v=.aP/\cs=[])
 |some (id,n,cap,rest)=>.an (.ro id (.cells (cs.length+rest.length) (cs++rest) false)) (.pu (VOk k v cs rest id n cap))
section
variable {v w x:V} {rest:List V} {t:TypeId}
theorem bg.roV (k:Nat)(v:V)(cs:List V): bg (Am.roV k v cs):=bg.xs λo=>by
 grind[bg.pu,bg.an,bg.ro]
theorem Sat.P0 (s:Sat h S)(J:getA S j=some (Am.roV k v cs)): (v=.aP/\cs=[])\/∃id n cap rest,T.get h.tr id=some (.cells (cs.length+rest.length) (cs++rest) false)/\VOk k v cs rest id n cap:=by
 obtain⟨m,r,h1,h2,⟨_|⟨id,n,cap,rest⟩,I⟩⟩:=s.at J
 .exact .inl I
 .exact .inr ⟨id,n,cap,rest,h2 _ _ I.1,I.2⟩
theorem Sat.aaa (s:Sat h (Am.roV k v cs::S)): (v=.aP/\cs=[]/\Sat h S)\/∃id n cap rest,Sat h (.ro id (.cells (cs.length+rest.length) (cs++rest) false)::S)/\VOk k v cs rest id n cap:=by
 obtain⟨_|⟨id,n,cap,rest⟩,s⟩:=gh.1 s
 .grind[j4]
 .obtain⟨m,r,_,_,I⟩:=s.at (k:=0) U;exact .inr ⟨id,n,cap,rest,s.iX λ_ _ q=>q.1,I.2⟩
theorem Sat.C6 {cap:Cap}{cr:List V}(s:Sat h (.ro id (.cells N cr false)::S))(I:cr=cs++rest)(J:N=cs.length+rest.length)(hg:VOk k v cs rest id n cap): Sat h (Am.roV k v cs::S):=by
 subst I J;exact gh.2 ⟨some (id,n,cap,rest),s.iX λ_ _ q=>⟨q,hg⟩⟩
theorem Sat.RS (s:Sat h S): Sat h (Am.roV k .aP []::S):=gh.2 ⟨none,s.eF ⟨U,U⟩⟩
theorem Sat.qG (s:Sat h (.arr k v cs::S)): Sat h (Am.roV k v cs::S):=by
 obtain⟨m,r,h1,h2,I,a,b,J,g2,g3,⟨gl,g4⟩,g5⟩:=s.ok;rcases g4 with⟨e1,e2⟩|⟨id,n,cap,N,rest,e,hg,q1,q2,q3,q4⟩
 .exact gh.2 ⟨none,s.drop.eF ⟨e1,e2⟩⟩
 .have s1:Sat h (pt id (.cells N (cs++rest) false)::S):=⟨s.wf,m,r,h1,h2,I,a,b,J,g2,g3,hg,g5⟩;refine s1.freeze.C6 U q2.symm (n:=n) (cap:=cap) ⟨e,q1,by rw[zZ,gl,q3];rfl,?_⟩<;>grind
theorem Sat.vV (j)(s:Sat h S)(I:getA S j=some (Am.roV k v cs)): v.cells=[v]/\storable v=true/\v.beq v=true:=by
 rcases s.P0 I with⟨rfl,_⟩|⟨id,n,cap,rest,_,rfl,_⟩
 .exact⟨U,U,U⟩
 .exact⟨U,U,DL _ _ _ _⟩
theorem Sat.Bn (s:Sat h S)(J:getA S j=some (Am.roV k v cs))(hn:cs.length=n*k)(hk:1<=k)(hu:P.underlying t=some (.slice e)): lenV P h t v=some (.int .i64 n):=by
 rcases s.P0 J with⟨rfl,rfl⟩|⟨id,n',cap,rest,_,rfl,q,_⟩
 .have:n=0:=by
   rcases wz n with I|I
   .exact I
   .have:=m9 I hk;simp at hn;omega
  subst this;exact DN hu
 grind[Nat.eq_of_mul_eq_mul_right,Gt]
theorem Sat.Nf (s:Sat h S)(I:getA S j=some (Am.roV k v cs)): ∃n,cs.length=n*k/\srcV h k v=some (cs,n):=by
 rcases s.P0 I with⟨rfl,rfl⟩|⟨id,n,cap,rest,J,rfl,q,_⟩
 .exact⟨0,cb,U⟩
 .refine⟨n,q,?_⟩;simp only[srcV];rw[qP J cb,<-q,kj,rM U];rfl
theorem Sat.Vg (s:Sat h S)(I:getA S j=some (Am.roV k v cs)): cs.all storable=true:=by
 rcases s.P0 I with⟨_,rfl⟩|⟨id,n,cap,rest,hg,_,_,J,_⟩<;>grind
theorem Sat.JX (s:Sat h S)(hj:getA S j=some (Am.roV k v cs))(hi:i*k+k<=cs.length)(hk:1<=k)(hu:P.underlying t=some (.slice e))(I:bf P e=some k):
  ∃id off,indexAddrV P t v (.int .i64 (i:Int))=some (.ptr id off)/\(isAggT P e=some true->loadV P h e (.ptr id off)=some (.agg ((cs.drop (i*k)).take k)))/\∀c,(cs.drop (i*k))[0]?=some c->∀t',isAggT P t'=some false->loadV P h t' (.ptr id off)=some c:=by
 rcases s.P0 hj with⟨_,rfl⟩|⟨id,n,cap,rest,hg,rfl,q,_⟩
 .grind
 .refine⟨id,0+i*k,?_,λJ=>?_,λc hc t' J=>?_⟩
  .simp only[indexAddrV,hu,I,cN];have:i<n:=by
    have h4:i*k+k=(i+1)*k:=Q;rw[h4,q] at hi;exact Dr (tT hi hk)
   grind
  .rw[f_,Tj J I hg cb Y];grind
  grind[loadV,z8,iD]
theorem Sat.aab (s:Sat h (Am.roV k v cs::S))(hi:i*k<=cs.length)(J:1<=i)(hk:1<=k)(hu:P.underlying t=some (.slice e))(I:bf P e=some k): ∃v',(∀h':H,sliceV P h' t v none (some i) none=some v')/\Sat h (Am.roV k v' (cs.take (i*k))::S):=by
 rcases s.aaa with⟨h1,h2,s1⟩|⟨id,n,cap,rest,s1,rfl,q,dG,hc⟩
 .subst h2;have:=m9 J hk;simp at hi;omega
 .have CI:i<=n:=tT Y hk;have hl:(cs.take (i*k)).length=i*k:=Q;have e1:cs.take (i*k)++(cs.drop (i*k)++rest)=cs++rest:=by grind[List.take_append_drop]
  have e2:(cs.take (i*k)).length+(cs.drop (i*k)++rest).length=cs.length+rest.length:=Q;refine⟨.sl id 0 i cap,λh'=>?_,s1.C6 e1.symm e2.symm (n:=i) (cap:=cap) ⟨U,hl,Q,?_⟩⟩
  .cases cap with
   |exact c =>
    have:i<=c:=b7 CI hc;simp only[sliceV,hu,I,jv,eV];grind[aN]
   |rest z alt =>
    obtain⟨rfl,rfl,h3⟩:=hc;simp only[sliceV,hu,I,jv,eV,fM,rP];grind[aN]
  .grind
theorem Sat.Vh (s:Sat h (Am.roV k v cs::S))(hi:i*k<=cs.length)(hk:1<=k)(hu:P.underlying t=some (.slice e))(I:bf P e=some k): ∃v',(∀h':H,sliceV P h' t v none (some i) (some i)=some v')/\(cs=[]\/∃id,v'=.sl id 0 i (.exact i))/\Sat h (Am.roV k v' (cs.take (i*k))::S):=by
 rcases s.aaa with⟨h1,h2,s1⟩|⟨id,n,cap,rest,s1,rfl,q,dG,hc⟩
 .subst h1 h2;obtain rfl:i=0:=by
   rcases wz i with J|J
   .exact J
   .have:=m9 J hk;simp at hi;omega
  exact⟨.aP,λh'=>by simp_all[sliceV],.inl U,Q⟩
 .have CI:i<=n:=tT Y hk;have hl:(cs.take (i*k)).length=i*k:=Q;have e1:cs.take (i*k)++(cs.drop (i*k)++rest)=cs++rest:=by grind[List.take_append_drop]
  have e2:(cs.take (i*k)).length+(cs.drop (i*k)++rest).length=cs.length+rest.length:=Q;refine⟨.sl id 0 i (.exact i),λh'=>?_,.inr ⟨id,U⟩,s1.C6 e1.symm e2.symm (n:=i) (cap:=.exact i) ⟨U,hl,Q,az _⟩⟩;cases cap with
  |exact c =>
   have:i<=c:=b7 CI hc;simp only[sliceV,hu,I,jv];grind[aN]
  |rest z alt =>
   obtain⟨rfl,rfl,h3⟩:=hc;simp only[sliceV,hu,I,jv,fM,rP];grind[aN,Nat.blt_eq]
theorem Sat.RT {z:V}(s:Sat h (Am.roV k v cs::S))(hi:i*k+k<=cs.length)(hk:1<=k)(eR:cs.length<=1048576)(hu:P.underlying t=some (.slice e))(J:bf P e=some k)(ahs:P.info? e=some inf)(hz:zeroT P e=some z)(Z5:inf.size=k)(hb:inf.bytes<=4096)(hzl:z.cells.length=k):
  ∃wa wb v' h1,sliceV P h t v none (some i) (some i)=some wa/\sliceV P h t v (some (i+1)) none none=some wb/\appendV P h #[t,t] wa wb=some (v',h1)/\Sat h1 (Am.roV k v' (cs.take (i*k)++cs.drop (i*k+k))::S):=by
 obtain⟨wa,ha,hae,s1⟩:=s.Vh (P:=P) (t:=t) (i:=i) Y hk hu J;obtain⟨ida,rfl⟩:=hae.resolve_left (λq=>Q);rcases s.P0 (j:=0) U with⟨_,rfl⟩|⟨id,n,cap,rest,hg,hv⟩
 .grind
 .obtain⟨rfl,q,dG,hc⟩:=hv;have h4:i*k+k=(i+1)*k:=Q;have CI:i+1<=n:=tT Y hk
  -- the same row
  obtain rfl:ida=id:=by
   have h2:=ha h;cases cap with
   |exact c =>
    simp only[sliceV,hu,J,jv] at h2;grind
   |rest y alt =>
    obtain⟨rfl,rfl,h3⟩:=hc;simp only[sliceV,hu,J,jv,fM,rP] at h2;grind
  have hni:(n-(i+1))*k+(i*k+k)=cs.length:=by rw[h4,<-tY,q];congr 1;omega
  obtain⟨wb,I,aeg,lD,Sy,aeh⟩:∃wb I aeg,sliceV P h t (.sl ida 0 n cap) (some (i+1)) none none=some wb/\wb=.sl ida I (n-(i+1)) aeg/\(I=i*k+k\/n=i+1/\I=0):=by
   cases cap with
   |exact c =>
    by_cases h3:c=i+1
    .refine⟨_,0,.exact (c-(i+1)),?_,U,.inr ⟨Y,U⟩⟩
     .simp only[sliceV,hu,J,jv,eV,vA h3,ak];grind[aN]
    .refine⟨_,i*k+k,.exact (c-(i+1)),?_,U,.inl U⟩
     .simp only[sliceV,hu,J,jv,eV,eE h3,bq,f_];grind[aN]
   |rest y alt =>
    obtain⟨rfl,rfl,h3⟩:=hc;refine⟨_,i*y+y,.rest y (cond (Nat.beq (i+1) 0) 0 (cond (Nat.blt (i+1) n) (i*y+y) 0)),?_,U,.inl U⟩
    .simp only[sliceV,hu,J,jv,eV,fM,rP,f_];grind[aN]
  have hN:(cs++rest).length=cs.length+rest.length:=fL;have oO:srcV h k wb=some (cs.drop (i*k+k),n-(i+1)):=by
   subst Sy;simp only[srcV];have hle:I+(n-(i+1))*k<=cs.length+rest.length:=Y;rw[qP hg hN hle];rcases aeh with e|⟨e1,e2⟩
   .subst e;rw[List.drop_append_of_le_length Y,HJ Q,kg Q];rfl
   .simp_all
  have h3:(Nat.ble 1 k&&Nat.ble inf.bytes 4096&&Nat.beq k k)=true:=by simp_all
  by_cases uV:n-(i+1)=0
  .refine⟨_,wb,.sl ida 0 i (.exact i),h,ha h,lD,?_,?_⟩<;>grind[appendV,vA]
  .have e3:(i+(n-(i+1)))*inf.bytes<=(i+(n-(i+1)))*4096:=wu _ hb;have e2:i+(n-(i+1))<=(i+(n-(i+1)))*k:=zG _ hk;have e4:(i+(n-(i+1)))*k+k=cs.length:=by
    grind
   have Li:kH (i+(n-(i+1))) inf.bytes=true:=qh.2 Y;have aht:i*k<=cs.length:=Y;have r8:(cs.take (i*k)).length=i*k:=Q;rw[zZ,b9] at dG;have oP:(cs.take (i*k)++cs.drop (i*k+k)).all storable=true:=by
    grind
   refine⟨_,wb,.sl h.next 0 (i+(n-(i+1))) (.rest k 0),h.new (.cells ((i+(n-(i+1)))*k) (cs.take (i*k)++cs.drop (i*k+k)) false),ha h,lD,?_,?_⟩
   .unfold appendV;simp only[hu,ahs,hz,Z5,hzl,oO,h3,ak,eE uV,bq];rw[show Nat.ble (i+(n-(i+1))) i=false by
     grind[aN],bq,Li,ak,qP hg hN,kj,HJ aht]
    rfl
   .have s2:=(s1.drop.new (.cells ((i+(n-(i+1)))*k) (cs.take (i*k)++cs.drop (i*k+k)) false)).freeze;refine s2.C6 (rest:=[]) (n:=i+(n-(i+1))) (cap:=.rest k 0) (by rw[fZ]) ?_ ⟨U,?_,by rw[fZ];exact oP,U,U,Y⟩<;>grind
theorem xQ {z:V}(s:Sat h S)(I:srcV h k w=some (ds,n))(hn:ds.length=n*k)(dG:ds.all storable=true)(hk:1<=k)(eR:ds.length<=1048576)(hu:P.underlying t=some (.slice e))(J:P.info? e=some inf)(hz:zeroT P e=some z)(Z5:inf.size=k)(hb:inf.bytes<=4096)(hzl:z.cells.length=k):
  ∃v' h1,appendV P h #[t,t] .aP w=some (v',h1)/\Sat h1 (.arr k v' ds::S):=by
 have h3:(Nat.ble 1 k&&Nat.ble inf.bytes 4096&&Nat.beq k k)=true:=by simp_all
 unfold appendV;simp only[hu,J,hz,Z5,hzl,I,h3,ak];by_cases uV:n=0
 .subst uV;obtain rfl:ds=[]:=tS Y;exact⟨_,_,U,s.jr⟩
 .have e3:n*inf.bytes<=n*4096:=wu _ hb;have e2:n<=n*k:=zG _ hk;rw[eE uV,bq,qh.2 Y,ak];refine⟨_,_,U,?_⟩;exact(s.new (.cells (n*k) ([]++ds) false)).iX λa r yn=>⟨dG,.inr ⟨h.next,n,.rest k 0,n*k,[],U,by rw[fZ];exact yn,hn,Y,U,U,U,U,Y⟩⟩
end
theorem qW (r:dw): 8<=r.len:=by simp only[dw.len];omega
theorem P3 {t t':List dw}{r:dw}: szB t<szB (t++r::t'):=by
 grind[qW,hG,szB]
section
theorem ab5 {f:Fm}(h:EC N ε)(hf:ε.1.ai[i]?=some f)(h0:0<=f.bA){n:Int}{b:List Nat}(hc:tA (outF ε i).2.1 n b): tA ε.1 n b/\n≠f.bA:=by
 obtain⟨o1,o2,o3,o4,gg,o5,o6,o7⟩:=h.out hf;have I:=(h.back i f hf).resolve_left Y;obtain⟨j,y,hy,k1,k0,k2,k3⟩:=hc;have nL:n≠f.bA:=by
  intro q;have J:=(o2.back j y hy).resolve_left Y;have h1:=J.here;rw[k1,q,o4,I.here] at h1;grind
 grind[outF,tA]
theorem y_ {P:VP}(hP:qE N P): ∀ {l:List Int} {ε:bn},EC N ε->(∀n∈l,(lookL n ε.1.aM).isSome=true)->vw P ε->vw P (writeAllF l ε).2/\∀n b,tA (writeAllF l ε).2.1 n b->tA ε.1 n b/\n∉l:=by
 intro l;induction l with
 |nil=>intro ε h _ I;exact⟨I,λn b q=>⟨q,cb⟩⟩
 |cons n l ih =>
  intro ε h hl I;cases hq:lookL n ε.1.aM with
  |none=>grind
  |some i =>
   obtain⟨Eu,j,f,rfl,J,hp⟩:=h.lW n i hq;obtain⟨k1,k2,k3,k4,_⟩:=h.out J;have e:fS ε n=outF ε j:=by grind[fS]
   rw[writeAllF,e,ax Y];obtain⟨i1,i2⟩:=ih k2 (λm hm=>Q) (hP.out h J I);refine⟨i1,λm b hm=>?_⟩;obtain⟨q1,q2⟩:=i2 m b hm;obtain⟨q3,q4⟩:=ab5 h J Y q1;exact⟨q3,Q⟩
theorem C7 (ε:bn): ∀n∈bj ε.1.aM,(lookL n ε.1.aM).isSome=true:=λn I=>by
 cases J:lookL n ε.1.aM<;>grind[jF,kX]
end
theorem Vi {a b u v:List dw}(h:a++b=u++v)(hs:szB a<=szB u): ∃w,u=a++w/\b=w++v:=by
 rcases List.append_eq_append_iff.1 h with⟨w,h1,h2⟩|⟨w,h1,h2⟩
 .grind
 .cases w<;>grind[P3]
def At (ba:Nat)(rs:List dw)(x:Nat)(r:dw): Prop:=∃ke vM,rs=ke++r::vM/\x=ba+szB ke
section
variable {r r':dw}
theorem At.more (h:At ba rs x r): At ba (rs++c8) x r:=by
 obtain⟨a,b,h1,h2⟩:=h;exact⟨a,b++c8,Q,h2⟩
theorem At.new : At ba (rs++[r]) (ba+szB rs) r:=⟨rs,[],U,U⟩
theorem At.uniq (h:At ba rs x r)(h':At ba rs x r'): r=r':=by
 obtain⟨a,b,h1,h2⟩:=h;obtain⟨a',b',I,J⟩:=h';obtain⟨w,g1,g2⟩:=Vi (a:=a) (b:=r::b) (u:=a') (v:=r'::b') (h1.symm.trans I) Y;cases w<;>grind[hG,qW,szB]
theorem At.cut (h:At ba (rA++rs) x r)(hl:ba+szB rA<=x): At (ba+szB rA) rs x r:=by
 obtain⟨a,b,h1,h2⟩:=h;obtain⟨w,I,J⟩:=Vi (a:=rA) (b:=rs) (u:=a) (v:=r::b) h1 Y;exact⟨w,b,J,by rw[h2,I,hG];omega⟩
inductive Dn (ba:Nat)(rs:List dw)(f t:Nat): Nat->List (Nat×Nat)->Nat->Prop where
 |stop {x:Nat} (h:x<=t):Dn ba rs f t x [] x
 |cons {x tx pv i dn y:Nat} {cs:List cU} {l:List (Nat×Nat)} (h:At ba rs x ⟨1,tx,pv,0,i::le 8 dn,cs⟩) (hf:f<=x) (ht:t<x) (hp:pv<x) (hi:i<50) (hd:dn<18446744073709551616) (hl:Dn ba rs f t pv l y):Dn ba rs f t x ((i,dn)::l) y
 |skip {x tx pv nx y:Nat} {cs:List cU} {l:List (Nat×Nat)} (h:At ba rs x ⟨2,tx,pv,nx,[],cs⟩) (hf:f<=x) (ht:t<x) (hp:nx<x) (hl:Dn ba rs f t nx l y):Dn ba rs f t x l y
theorem Dn.more (h:Dn ba rs f t x l y): Dn ba (rs++c8) f t x l y:=by
 induction h with
 |stop h=>exact .stop h
 |cons h I J hp hi hd hl ih=>exact .cons h.more I J hp hi hd ih
 |skip h I J hp hl ih=>exact .skip h.more I J hp ih
theorem Dn.cut (h:Dn ba (rA++rs) f t x l y)(hA:ba+szB rA<=f): Dn (ba+szB rA) rs f t x l y:=by
 induction h with
 |stop h=>exact .stop h
 |cons h I J hp hi hd hl ih=>exact .cons (h.cut Y) I J hp hi hd ih
 |skip h I J hp hl ih=>exact .skip (h.cut Y) I J hp ih
theorem Dn.first {f':Nat}(h:Dn ba rs f t 0 l y): Dn ba rs f' t 0 l y:=by
 cases h with
 |stop h=>exact .stop h
 |cons _ _ I=>omega
 |skip _ _ I=>omega
theorem Dn.le (h:Dn ba rs f t x l y): y<=t/\y<=x:=by
 induction h with
 |stop h=>omega
 |cons h I J hp hi hd hl ih=>omega
 |skip h I J hp hl ih=>omega
theorem Dn.low (h:Dn ba rs f t x l y)(I:t<x): f<=x:=by
 cases h with
 |stop q=>omega
 |cons _ q=>exact q
 |skip _ q=>exact q
theorem Dn.app {z:Nat}(h:Dn ba rs f t x l y)(h2:Dn ba rs f t' y l2 z)(ht:t'<=t): Dn ba rs f t' x (l++l2) z:=by
 induction h with
 |stop h=>exact h2
 |cons h I ht J hi hd hl ih=>exact .cons h I Y J hi hd (ih h2)
 |skip h I ht J hl ih=>exact .skip h I Y J (ih h2)
theorem Dn.join {l1:List (Nat×Nat)}{z:Nat}(h:Dn ba rs f t x l1 y)(ht:t'<=t): Dn ba rs f t' x l z->∃l2,l=l1++l2/\Dn ba rs f t' y l2 z:=by
 induction h generalizing l with
 |stop h=>simp
 |cons h hf J hp hi hd hl ih =>
  intro h2;cases h2 with
  |stop I=>omega
  |cons I _ _ _ _ hd3 h4 =>
   have e:=h.uniq I;grind[CP]
  |skip I=>have e:=h.uniq I;injection e with e _;omega
 |skip h hf J hp hl ih =>
  intro h2;cases h2 with
  |stop I=>omega
  |cons I=>have e:=h.uniq I;injection e with e _;omega
  |skip I _ _ _ h4 =>
   have e:=h.uniq I;injection e with _ _ _ e1 _ _;subst e1;exact ih h4
end
def eD (l:List (Nat×Nat))(k:Nat): List (Nat×Nat):=(l.drop k).reverse
theorem YD (J:k<=l.length)(I:k'<=l.length)(h:eD l k'=eD l k++l2): k'<=k/\l2=eD (l.take k) k':=by
 have hl:=gY List.length h;grind[eD,List.length_drop,List.take_append_drop,List.append_cancel_left]
structure tF (ba:Nat)(rs:List dw)(A:mo)(l tm:List (Nat×Nat)): Prop where
 lt:A.cx<ba+szB rs
 nl:A.jT<=A.cx
 ft:A.cx=0/\A.fst=0\/0<A.cx/\0<A.fst/\ba<=A.fst
 EZ:Dn ba rs A.fst 0 A.jT (eD l 0) 0
 JY:Dn ba rs A.fst 0 A.cx (eD l 0) 0
 HA:∀e∈tm,e.2<=l.length/\e.1<=A.cx/\e.1∈A.j9/\(∃y,Dn ba rs A.fst e.1 A.jT (eD l e.2) y)/\∃y,Dn ba rs A.fst e.1 A.cx (eD l e.2) y
 so:tm.Pairwise λa b=>a.1<=b.1
 ms:A.j9.Pairwise (· <= ·)/\∀m∈A.j9,m<=A.cx
 ds:A.dn.Pairwise (λa b=>a.1<=b.1)/\∀d∈A.dn,0<d.1/\d.1<=A.cx/\d.2<=1656
 pg:A.pg.length<=1
section
variable {tm:List (Nat×Nat)}
theorem tF.new (I:1<=ba): tF ba rs ⟨0,0,0,[],[],[]⟩ [] [] :=
 ⟨Q,az _,.inl ⟨U,U⟩,.stop (az _),.stop (az _),λe he=>(by cases he),List.Pairwise.nil,⟨List.Pairwise.nil,λe he=>(by cases he)⟩,⟨List.Pairwise.nil,λe he=>(by cases he)⟩,O⟩
theorem tF.other (h:tF ba rs A l tm)(c8:List dw): tF ba (rs++c8) A l tm :=
 ⟨by have:=h.lt;rw[hG];omega,h.nl,h.ft,h.EZ.more,h.JY.more,λe he=>by
  obtain⟨I,J,g3,⟨y,g4⟩,z,g5⟩:=h.HA e he;exact⟨I,J,g3,⟨y,g4.more⟩,z,g5.more⟩,h.so,h.ms,h.ds,h.pg⟩
theorem tF.cut (h:tF ba (rA++rs) A l tm)(J:A.fst≠0->ba+szB rA<=A.fst)(hr:1<=ba): tF (ba+szB rA) rs A l tm:=by
 have hd:∀ {t x l y},x<=A.cx->Dn ba (rA++rs) A.fst t x l y->Dn (ba+szB rA) rs A.fst t x l y:=λ{t x l y} hx I=>by
  rcases h.ft with⟨h1,h2⟩|⟨h1,h2,_⟩
  .obtain rfl:x=0:=Y;exact(Dn.cut (f:=ba+szB rA) I.first (az _)).first
  .exact I.cut (J Y)
 have h1:=h.lt;rw[hG] at h1;refine⟨Y,h.nl,?_,hd h.nl h.EZ,hd (az _) h.JY,λe he=>?_,h.so,h.ms,h.ds,h.pg⟩
 .rcases h.ft with q|⟨q1,q2,_⟩
  .omega
  .omega
 .obtain⟨g1,g2,g3,⟨y,g4⟩,z,g5⟩:=h.HA e he;exact⟨g1,g2,g3,⟨y,hd h.nl g4⟩,z,hd (az _) g5⟩
theorem C8 {d:Nat×Nat}(I:k<=l.length): eD (l++[d]) k=d::eD l k:=by
 grind[eD]
theorem tF.more {c:List cU}(h:tF ba rs A l tm)(ox:1<=ba)(hi:i<50)(hd:dn<18446744073709551616)(hc:cost<=1656){k:Int}(hk:A.pg=[]\/A.pg=[k]):
  tF ba (rs++[⟨1,id,A.cx,0,i::le 8 dn,c⟩]) (A.more (ba+szB rs) cost [k]) (l++[(i,dn)]) tm/\(A.more (ba+szB rs) cost [k]).pg=[k]:=by
 have h1:=h.lt;have h8:=qW ⟨1,id,A.cx,0,i::le 8 dn,c⟩;have I:(A.more (ba+szB rs) cost [k]).pg=[k]:=by
  show Bh A.pg k=_;grind[Bh]
 have J:(A.more (ba+szB rs) cost [k]).fst<=ba+szB rs/\(A.more (ba+szB rs) cost [k]).fst=(if A.fst=0 then ba+szB rs else A.fst):=by
  refine⟨?_,U⟩;show(if A.fst=0 then ba+szB rs else A.fst)<=_;split
  .omega
  .rcases h.ft with q|⟨q1,q2,q3⟩
   .omega
   .have:=h.JY.low q1;omega
 have go:∀ {t l y},t<=A.cx->Dn ba rs A.fst t A.cx l y->Dn ba (rs++[⟨1,id,A.cx,0,i::le 8 dn,c⟩]) (A.more (ba+szB rs) cost [k]).fst t (ba+szB rs) ((i,dn)::l) y:=λ{t l y} ht hq=>by
  refine .cons At.new J.1 Y h1 hi hd ?_;rw[J.2];split
  .rcases h.ft with⟨q,_⟩|q
   .rw[q] at hq ⊢;exact hq.more.first
   .omega
  .exact hq.more
 refine⟨⟨?_,az _,.inr ⟨by show 0<ba+szB rs;omega,?_,?_⟩,?_,?_,λe he=>?_,h.so,⟨h.ms.1,λm hm=>?_⟩,⟨?_,λd hd=>?_⟩,Q⟩,I⟩
 .show ba+szB rs<_;rw[hG,sq];omega
 .grind
 .rw[J.2];rcases h.ft with⟨_,q⟩|⟨_,q,q2⟩
  .grind
  .grind
 .rw[C8 (dz _)];exact go (dz _) h.JY
 .rw[C8 (dz _)];exact go (dz _) h.JY
 .obtain⟨g1,g2,g3,_,z,g5⟩:=h.HA e he;rw[C8 g1];exact⟨Q,by show e.1<=ba+szB rs;omega,g3,⟨z,go g2 g5⟩,z,go g2 g5⟩
 .have:=h.ms.2 m hm;show m<=ba+szB rs;omega
 .show(A.dn++[_]).Pairwise _;rw[zP];refine⟨h.ds.1,zH _ _,λa ha b hb=>?_⟩;have:=h.ds.2 a ha;grind
 .rcases List.mem_append.1 hd with hd|hd
  .have:=h.ds.2 d hd;exact⟨this.1,by show d.1<=ba+szB rs;omega,this.2.2⟩
  .rw[List.mem_singleton.1 hd];exact⟨Y,az _,hc⟩
theorem tF.mark (h:tF ba rs A l tm): tF ba rs ⟨A.fst,A.cx,A.jT,A.j9++[A.cx],A.dn,A.pg⟩ l (tm++[(A.cx,l.length)]):=by
 have e0:eD l l.length=[]:=by simp[eD]
 refine⟨h.lt,h.nl,h.ft,h.EZ,h.JY,λe he=>?_,?_,⟨?_,λm hm=>?_⟩,h.ds,h.pg⟩
 .rcases List.mem_append.1 he with he|he
  .obtain⟨g1,g2,g3,g4,g5⟩:=h.HA e he<;>grind
  .rw[List.mem_singleton.1 he];exact⟨az _,az _,cb,⟨_,by rw[e0];exact .stop h.nl⟩,_,by rw[e0];exact .stop (az _)⟩
 .rw[zP];refine⟨h.so,zH _ _,λa I b J=>?_⟩;rw[List.mem_singleton.1 J];exact(h.HA a I).2.1
 .rw[zP];refine⟨h.ms.1,zH _ _,λa I b J=>?_⟩;rw[List.mem_singleton.1 J];exact h.ms.2 a I
 .rcases List.mem_append.1 hm with hm|hm
  .exact h.ms.2 m hm
  .grind
theorem tF.back {RU:List Nat}{dn':List (Nat×Nat)}(h:tF ba rs A l tm)(yC:tm[Na]?=some (t,k))(hy:Dn ba rs A.fst t A.jT (eD l k) y)
 (hl:eD l k=[]/\c8=[]/\fF=A.cx\/eD l k≠[]/\ba+szB rs<=fF/\fF<ba+szB (rs++c8)/\Dn ba (rs++c8) A.fst t fF [] y)
 (hm:∃n,RU=A.j9.take n/\∀m∈A.j9,m<=t->m∈RU)(hd:∃n,dn'=A.dn.take n): tF ba (rs++c8) ⟨A.fst,fF,y,RU,dn',A.pg⟩ (l.take k) (tm.take (Na+1)):=by
 obtain⟨m1,m2,m3,⟨ya,m4⟩,yb,m5⟩:=h.HA (t,k) (bz yC);have hk:k<=l.length:=m1;have hyl:=hy.le;have h1:=h.lt;have h2:=h.nl;have TZ:A.cx<=fF:=Y;obtain⟨n,rfl,Bz⟩:=hm;obtain⟨n2,rfl⟩:=hd
 -- what is left from the end on
 have I:∀ {t' k' z},t'<=t->k'<=l.length->Dn ba rs A.fst t' A.jT (eD l k') z->k'<=k/\Dn ba rs A.fst t' y (eD (l.take k) k') z:=λ{t' k' z} ht JZ hq=>by
  obtain⟨l2,e,g⟩:=hy.join ht hq;obtain⟨g1,rfl⟩:=YD hk JZ e;exact⟨g1,g⟩
 have J:∀ {t' k' z w},t'<=t->k'<=l.length->Dn ba rs A.fst t' A.jT (eD l k') z->Dn ba rs A.fst t' A.cx (eD l k') w->∃w,Dn ba (rs++c8) A.fst t' fF (eD (l.take k) k') w/\(w=z\/(fF=A.cx/\Dn ba rs A.fst t' A.cx (eD l k') w)):=λ{t' k' z w} ht JZ hq iM=>by
  rcases hl with⟨q1,q2,q3⟩|⟨_,q1,q2,q3⟩
  .grind[eD,List.length_nil,List.take_length]
  .exact⟨z,q3.app (I ht JZ hq).2.more ht,.inl U⟩
 have hN:=I (dz _) (dz _) h.EZ;obtain⟨w,hw,ov⟩:=J (dz _) (dz _) h.EZ h.JY;have hw0:w=0:=by
  rcases ov with q|⟨_,q⟩
  .exact q
  .have:=q.le;omega
 subst hw0;have bY:fF<ba+szB (rs++c8):=by
  grind
 refine⟨bY,Q,?_,hN.2.more,hw,λe he=>?_,h.so.sublist (HR _ _),⟨h.ms.1.sublist (HR _ _),λm hm=>?_⟩,⟨h.ds.1.sublist (HR _ _),λd hd=>?_⟩,h.pg⟩
 .rcases h.ft with⟨q1,q2⟩|⟨q1,q2,q3⟩
  .left;refine⟨?_,q2⟩;rcases hl with⟨_,_,q3⟩|⟨q3,_⟩
   .grind
   .have Eu:A.jT=0:=Y;generalize eD l k=c at hy q3;cases hy with
    |stop=>grind
    |cons _ _ q=>omega
    |skip _ _ q=>omega
  .grind
 .obtain⟨j,hj,rfl⟩:=Dp he;rw[List.getElem_take] at *;have ET:=hj;rw[wD] at ET;have hjt:j<tm.length:=Y;have hte:(tm[j]).1<=t:=by
   obtain⟨ha1,ha2⟩:=List.getElem?_eq_some_iff.1 yC;rcases tX j Na with q|q
   .have:=List.pairwise_iff_getElem.1 h.so j Na hjt ha1 q;rw[ha2] at this;exact this
   .grind
  obtain⟨g1,g2,g3,⟨z,g4⟩,z2,g5⟩:=h.HA _ (zW hjt);obtain⟨k1,k2⟩:=I hte g1 g4;obtain⟨w,w1,_⟩:=J hte g1 g4 g5;exact⟨Q,Q,Bz _ g3 hte,⟨z,k2.more⟩,w,w1⟩
 .have:=h.ms.2 m (lG hm);show m<=fF;omega
 .have:=h.ds.2 d (lG hd);exact⟨this.1,Q,this.2.2⟩
end
theorem dh {l:List Nat}: (aK l).length=l.length*1:=by grind[aK]
theorem xR {l:List Nat}{d:Nat}(h:l[i]?=some d): ((aK l).drop (i*1))[0]?=some (.int .u64 (d:Int)):=by
 grind[aK]
section
variable {told:bU} {to:Nat} {dn:List Nat}
theorem C9 (I:W told){l:Nat}(s:Sat h (pt b (.cells 1 [.int .u64 (to:Int)] false)::S)): Call ⟨prog,told⟩ 101 [.int .u64 (l:Int),.ptr b 0] h λv h'=>v=.bool (decide (l>to))/\Sat h' (pt b (.cells 1 [.int .u64 (to:Int)] false)::S):=by
 exact Call.of_wp (I.free _ U) func101 U U (zK 7 U (zy s 0 b8 U (zo U (ag (r:=.bool (decide (l>to))) U U (dc.trans cb))<|zk 2 U (zR U ⟨U,s⟩))))
noncomputable def ahu : Code:=aV [1,0,1,0,0] ((f170.body).getD .skip)
theorem RV (hT:W told)(hl:dn.length<=1000)(hp:mg to n dn)(hf:fv=.fn (.func 101) [] [.ptr b 0]): ∀(j i:Nat) (h:H) (E:List (Nat×V)) (a8:Ex->List (Nat×V)->H->Prop),i+j=n ->
  Sat h (eC 1 dv (aK dn)::pt b (.cells 1 [.int .u64 (to:Int)] false)::S)->Has E [(0,dv),(1,fv),(7,.int .i64 (dn.length:Int)),(8,.int .i64 (i:Int))] ->
  (∀E' h',n=dn.length->Sat h' (eC 1 dv (aK dn)::pt b (.cells 1 [.int .u64 (to:Int)] false)::S)->a8 (.exit 0) E' h') ->
  (∀E' h',n≠dn.length->look E' 4=some (.int .i64 (n:Int))->Sat h' (eC 1 dv (aK dn)::pt b (.cells 1 [.int .u64 (to:Int)] false)::S)->a8 .ret E' h') ->
  WP ⟨prog,told⟩ f170.ntmps (.loop ahu) E h a8:=by
 subst hf;have hn:n<=dn.length:=by exact hp.1
 intro j;induction j with
 |zero =>
  intro i h E a8 hi s hE hq hr;obtain rfl:i=n:=Y;by_cases h0:i=dn.length
  .skip;exact WP.loop (WP.has hE (zg U (zC U aG Q<|zk 3 U (WP.exit (hq _ _ h0 s)))))
  .obtain⟨d,hd⟩:∃d,dn[i]?=some d:=⟨_,aI Y⟩;have EX:=hp.hi (az i) hd;obtain⟨I,off,e1,_,J⟩:=s.JQ (P:=prog) (j:=0) (i:=i) (k:=1) U (by rw[dh];omega) O dg gL;have J:=J _ (xR hd) 32 b8;refine WP.loop (WP.has hE (zg U (zB U aG Q<|zk 5 U (WP.block (zK 10 U (zo U (aJ (.ptr I off) U U e1) (zl U J (zc U (C9 hT (l:=d) (s.ae [1])) ?_))))))));rintro v h ⟨hv,s⟩;rw[lH EX] at hv;subst hv;exact zk 7 U (WP.ret (hr _ _ h0 U (s.ae [1])))
 |succ j ih =>
  intro i h E a8 hi s hE hq hr;obtain⟨d,hd⟩:∃d,dn[i]?=some d:=⟨_,aI Y⟩;have EX:=hp.lo (show i<n by omega) hd;obtain⟨I,off,e1,_,J⟩:=s.JQ (P:=prog) (j:=0) (i:=i) (k:=1) U (by rw[dh];omega) O dg gL;have J:=J _ (xR hd) 32 b8;refine WP.loop (WP.has hE (zg U (zB U aG Q<|zk 5 U (WP.block (zK 10 U (zo U (aJ (.ptr I off) U U e1) (zl U J (zc U (C9 hT (l:=d) (s.ae [1])) ?_))))))));rintro v h ⟨hv,s⟩;rw[mE Y] at hv;subst hv;exact zv (zj U (WP.skip (zr U (zb U (by exact aT ay)<|zm U (zv<|ih (i+1) _ _ a8 Y (s.ae [1]) ⟨U,U,U,U,aa⟩ hq hr)))))
theorem YE (I:W told)(J:dn.length<=1000)(hp:mg to n dn)(s:Sat h (eC 1 dv (aK dn)::pt b (.cells 1 [.int .u64 (to:Int)] false)::S)):
  Call ⟨prog,told⟩ 170 [dv,.fn (.func 101) [] [.ptr b 0]] h λv h'=>v=.int .i64 (if n=dn.length then -1 else(n:Int))/\Sat h' (eC 1 dv (aK dn)::pt b (.cells 1 [.int .u64 (to:Int)] false)::S):=by
 refine Call.of_wp (I.free _ U) func170 U U (zK 8 U (zo U (aO U U U (s.y8 (n:=dn.length) (j:=0) U dh O dg))<|zk 2 U (WP.block<|RV I J hp U n 0 _ _ _ Y s ⟨U,U,U,U,aa⟩ (λE' h' h0 s'=>?_) λE' h' h0 hr s'=>⟨aa,_,jk hr,Q,s'⟩)));have s:=s';exact WP.has (F:=[]) aa (zK 4 U (zR U ⟨Q,s⟩))
noncomputable def ahv : Code:=aV [1,1,1,0,1,0,0] ((f100.body).getD .skip)
theorem RW (hT:W told)(hl:dn.length<=1000)(hp:mg to n dn)(hf:fv=.fn (.func 101) [] [.ptr b 0]): ∀(j i:Nat) (h:H) (E:List (Nat×V)) (a8:Ex->List (Nat×V)->H->Prop),i+j=dn.length->n<i ->
  Sat h (eC 1 dv (aK dn)::pt b (.cells 1 [.int .u64 (to:Int)] false)::S)->Has E [(0,dv),(1,fv),(5,.int .i64 (n:Int)),(6,.int .i64 (i:Int))] ->
  (∀E' h',Has E' [(0,dv),(5,.int .i64 (n:Int))]->Sat h' (eC 1 dv (aK dn)::pt b (.cells 1 [.int .u64 (to:Int)] false)::S)->a8 (.exit 0) E' h') ->
  WP ⟨prog,told⟩ 42 (.loop ahv) E h a8:=by
 subst hf;intro j;induction j with
 |zero =>
  exact λi h E a8 hi I s J hq=>WP.loop (WP.has J (zK 5 U (zo U (aO U U U (s.y8 (n:=dn.length) (j:=0) U dh O dg))<|zC U aG Q<|zk 2 U (WP.exit (hq _ _ ⟨U,U,aa⟩ s)))))
 |succ j ih =>
  intro i h E a8 hi I s J hq;obtain⟨d,hd⟩:∃d,dn[i]?=some d:=⟨_,aI Y⟩;have EX:=hp.hi (qc I) hd;obtain⟨vp,off,e1,_,e2⟩:=s.JQ (P:=prog) (j:=0) (i:=i) (k:=1) U (by rw[dh];omega) O dg gL;have e2:=e2 _ (xR hd) 32 b8;refine WP.loop (WP.has J (zK 5 U (zo U (aO U U U (s.y8 (n:=dn.length) (j:=0) U dh O dg))<|zB U aG Q<|zk 4 U (WP.block (zK 4 U (zo U (aJ (.ptr vp off) U U e1) (zl U e2 (zk 6 U (zc U (C9 hT (l:=d) (s.ae [1])) ?_)))))))));rintro v h ⟨hv,s⟩;rw[lH EX] at hv;subst hv;exact zo U (cI U U) (zv (zj U (WP.skip (zr U (zm U (zo U (ag (r:=.int .i64 ((i+1:Nat):Int)) U U (by grind[aT,ay]))<|za U (zv<|ih (i+1) _ _ a8 Y Y (s.ae [1]) ⟨U,U,U,U,aa⟩ hq)))))))
theorem YF (I:W told)(hl:dn.length<=1000)(J:mg to n dn)(s:Sat h (eC 1 dv (aK dn)::pt b (.cells 1 [.int .u64 (to:Int)] false)::S)):
  Call ⟨prog,told⟩ 100 [dv,.fn (.func 101) [] [.ptr b 0]] h λv h'=>Sat h' (eC 1 v (aK (dn.take n))::pt b (.cells 1 [.int .u64 (to:Int)] false)::S):=by
 have hn:n<=dn.length:=by exact J.1
 refine Call.of_wp (I.free _ U) func100 U U (zK 8 U (zc U (YE I hl J s) ?_));rintro v h ⟨rfl,s⟩;by_cases h0:n=dn.length
 .rw[bk h0];refine zk 6 U (zB U bH cb<|zk 7 U (WP.ret ⟨aa,_,U,?_⟩));rw[h0,zX];exact s
 .rw[ax h0];refine zk 6 U (zC U bH cb<|zk 7 U (zo U (ag (r:=.int .i64 ((n+1:Nat):Int)) U U (by grind[aT,ay]))<|zk 2 U (WP.block (RW I hl J U (dn.length-(n+1)) (n+1) _ _ _ Y Y s ⟨U,U,U,U,aa⟩ λE' h' fg s'=>?_))));have s:=s';refine WP.has fg ?_;obtain⟨w,h1,v',e1,e2,e3,s1⟩:=s.gCut (P:=prog) (i:=n) (by rw[dh];omega) O dg gL rq U U;have ed:(aK dn).take (n*1)=aK (dn.take n):=by grind[aK,List.map_take]
  rw[ed] at s1;refine zK 4 U (zo U (bR (p:=some (.int .i64 (n:Int))) (q:=none) (m:=none) (p':=some n) (q':=none) (m':=none) U U U U U U U (e1 _)) (aq.cy U U (OpR.clear U U U U ⟨h1,e2,s1⟩) ?_));intro _ h s;exact zk 5 U (zo U (bR (p:=none) (q:=some (.int .i64 (n:Int))) (m:=none) (p':=none) (q':=some n) (m':=none) U U U U U U U (e3 _)) (zk 2 U (zR U s)))
noncomputable def sxL : Code:=aV [1,0,1,0,0] ((f169.body).getD .skip)
theorem OC (hl:dn.length<=1000)(hx:x∈dn): ∀(j i:Nat) (h:H) (E:List (Nat×V)) (a8:Ex->List (Nat×V)->H->Prop),i+j=dn.length->x∈dn.drop i ->
  Sat h (eC 1 dv (aK dn)::S)->Has E [(0,dv),(1,.int .u64 (x:Int)),(7,.int .i64 (dn.length:Int)),(8,.int .i64 (i:Int))] ->
  (∀E' (n:Nat),look E' 4=some (.int .i64 (n:Int))->a8 .ret E' h) ->
  WP ⟨prog,told⟩ f169.ntmps (.loop sxL) E h a8:=by
 intro j;induction j with
 |zero =>
  intro i h E a8 hi hm s hE I;rw[HN Y] at hm;cases hm
 |succ j ih =>
  intro i h E a8 hi hm s hE I;obtain⟨d,hd⟩:∃d,dn[i]?=some d:=⟨_,aI Y⟩;obtain⟨J,off,e1,_,e2⟩:=s.JQ (P:=prog) (j:=0) (i:=i) (k:=1) U (by rw[dh];omega) O dg gL;have e2:=e2 _ (xR hd) 32 b8;refine WP.loop (WP.has hE (zg U (zB U aG Q<|zk 5 U (WP.block (zK 10 U (zo U (aJ (.ptr J off) U U e1) (zl U e2 ?_)))))));by_cases hdx:d=x
  .subst hdx;exact zB U bH cb<|zk 7 U (WP.ret (I _ i U))
  .skip;refine zC U bH Q<|zv (zj U (WP.skip (zr U (zb U (by exact aT ay)<|zm U (zv<|ih (i+1) _ _ a8 Y ?_ s ⟨U,U,U,U,aa⟩ I)))));rw[Di Y] at hm;rcases List.mem_cons.1 hm with e|e
   .grind
   .exact e
theorem Vj (J:W told)(hl:dn.length<=1000)(I:x∈dn)(s:Sat h (eC 1 dv (aK dn)::S)):
  Call ⟨prog,told⟩ 169 [dv,.int .u64 (x:Int)] h λv h'=>(∃n:Nat,v=.int .i64 (n:Int))/\h'=h:=by
 exact Call.of_wp (J.free _ U) func169 U U (zK 8 U (zo U (aO U U U (s.y8 (n:=dn.length) (j:=0) U dh O dg))<|zk 2 U (WP.block (OC hl I dn.length 0 _ _ _ Y I s ⟨U,U,U,U,aa⟩ λE' n hr=>⟨aa,_,jk hr,⟨n,U⟩,U⟩))))
theorem YG (I:W told)(J:dn.length<=1000)(hx:x∈dn)(s:Sat h (eC 1 dv (aK dn)::S)):
  Call ⟨prog,told⟩ 99 [dv,.int .u64 (x:Int)] h λv h'=>v=.bool true/\h'=h:=by
 refine Call.of_wp (I.free _ U) func99 U U (zK 8 U (zc U (Vj I J hx s) ?_));rintro v h' ⟨⟨n,rfl⟩,rfl⟩;exact zo U (ag (r:=.bool true) U U (dO.trans (by rfl)))<|zk 2 U (zR U ⟨U,U⟩)
end
theorem ab6 (I:L[i]?=some (id,rr,A))(hd:A.dn≠[]): 560<=jY L:=by
 have key:∀(l:List Nat) (z:Nat),z∈l->z<=l.foldr (· + ·) 0:=by
  intro l;induction l<;>grind
 have:=key _ _ (List.mem_map.2 ⟨_,bz I,U⟩:me (id,rr,A)∈L.map me);grind[me,qZ,jY]
section
variable {told:bU} {X:aH} {g p m kd:Nat}
noncomputable def ahw : Code:=aV [1,1,1,1,1,1,1,1,1] ((f41.body).getD .skip)
theorem md_tailG (hT:WK told)(hB:B<=900)(hI:TxI N B M ba ck mk rs ε)(oW:1<=ba)(ox:ba+szB rs<=1000000)(hN:N<=1024)(kB:vq L)(hx:L[i]?=some (id,rr,A)){b:List Nat}(qD:now=[((k:Int),b)])(hw:NW N now)(fV:id<2097152)(Bo:A.cx<2097152)(hd:data.length<=9)(mR:A.dn.length<=1000)
 (yJ:jY L<=1000000000)(hM:M<=16777216){pl fr w:Nat}(eR:sz<=560)(Y_:pl<=1560)(I8:fr<=9)(aei:560<=sz+(pl+96)+560*fr+jY L)(s:Sat h (eL m a nx u L::GA g a p q r cO aF now ε::X::pt w (.cells 6 (ep (1:Nat) id A.cx 0 dt .aP) false)::S))(hX:cQ X (cT dt data))(hE:Has E [(0,.ptr m 0),(2,.ptr g 0),(9,.ptr rr 0),(10,.ptr w 0),(11,.int .i64 (sz:Int)),(12,.int .i64 (pl:Int)),(14,.int .i64 (fr:Int))])
 (hqf:∀E' h',look E' 8=some (.int .i64 7)->M<szB rs+(sz+(pl+96)+560*fr+jY L)->Sat h' (eL m a nx u L::GA g a p q r cO aF now ε::X::pt w (.cells 6 (ep (1:Nat) id A.cx 0 dt .aP) false)::S)->a8 .ret E' h')
 (hq:∀E' h' c aj aL,look E' 8=some (.int .i64 0)->aL=ba+szB rs->(∀m,pgA aj m=match lookL m now with|some b=>dW b aL|none=>pgA ε m)->(dw.mk 1 id A.cx 0 data c).len<=560->TxI N (B+2) M ba ck mk (rs++[⟨1,id,A.cx,0,data,c⟩]) aj ->
   Sat h' (eL m a nx u (L.set i (id,rr,A.more aL (pl+96) [(k:Int)]))::fh g a now true::SA a p q r .aW cO aF aj::X::S)->a8 .ret E' h'): WP ⟨prog,told⟩ 148 ahw E h a8:=by
 have hW:=hT.w;have J:∀n∈now.map (·.1),(Lit.int .i64 n).wf=true:=λn hn=>by have:=hw.keys n hn;exact wf_i64 Y Y
 have hb:ε.2.1.b.length=szB rs:=by rw[hI.lr.b,l9]
 have Jq:=hI.lr.base;have Jd:=hI.rm;obtain⟨av,s⟩:=cD.1 s;refine WP.has hE (zK 3 U (zo U (ag (r:=.int .i64 ((pl+96:Nat):Int)) U U (by grind[aT,ay]))<|zk 7 U (zY s 0 nA nr U ?_)));have s0:Sat h (eL m a nx u L::GA g a p q r cO aF now ε::X::pt w (.cells 6 (ep (1:Nat) id A.cx 0 dt .aP) false)::S):=cD.2 ⟨av,s⟩;refine zc U (MJ (μ:=ε.2.1) (δ:=ε.2.2) hW Y Y ((aX.1 (s0.ae [1])).ae [1,2,2])) ?_;rintro v h' ⟨rfl,rfl⟩;rw[hb,Jd];refine zk 2 U (zo U (ag (r:=.int .i64 ((sz+(pl+96):Nat):Int)) U U (by grind[aT,ay]))<|zm U (zo U (ag (r:=.int .i64 ((560*fr:Nat):Int)) U U (by grind[jM,ay]))<|zo U (ag (r:=.int .i64 ((sz+(pl+96)+560*fr:Nat):Int)) U U (by grind[aT,ay]))<|zm U (zc U (PY hT kB s0) ?_)));rintro v h ⟨rfl,s⟩;refine zo U (ag (r:=.int .i64 ((sz+(pl+96)+560*fr+jY L:Nat):Int)) U U (by grind[aT,ay])) ?_;by_cases Q_:M<szB rs+(sz+(pl+96)+560*fr+jY L)
 .skip;exact zB U aG Q<|zk 6 U (WP.ret (hqf _ _ U Q_ s))
 .skip;refine zC U aG Q<|zk 6 U ?_;have s:=aX.1 (s.ae [1]);have s:Sat h (fh g a now false::_):=s;refine zc U (CH hW s Q J) ?_;rintro kv h s;have JE:bj now=[(k:Int)]:=by rw[qD];rfl
  rw[JE] at s;refine zk 5 U (zl U (s.bW (k:=8) U kV gq) ?_);have s:=s.ae [1,1,1,1,1];have s:Sat h (GA g a p q r cO aF now ε::_):=aX.2 s;have s:=s.ae [0,2];refine zc U (gdoneT_ct (kd:=1) (l:=1) hW hB hI Y hw Q O hN O O fV Bo O hd Y s hX) ?_;rintro v h ⟨c,aj,aL,Ng,rfl,ig,hlen,jR,s⟩;refine zk 10 U (zC U aE U ?_);obtain⟨qA,s⟩:=cD.1 (s.ae [4]);have s:=(iJ hx).1 (s.ae [2]);obtain⟨mv,dv,pv,s⟩:=iI.1 s;have s:=s.ae [0,0,0,0,6];refine zk 8 U (zY s 0 wR b8 U ?_);have hlen:(dw.mk 1 id A.cx 0 data c).len<=560:=Y;have fin:∀ {f0:Nat} {E':List (Nat×V)} {h:H},f0=(if A.fst=0 then aL else A.fst)->look E' 8=some (.int .i64 0)->Sat h (rG rr id ⟨f0,aL,aL,A.j9,A.dn++[(aL,pl+96)],[(k:Int)].foldl Bh A.pg⟩::.arr 1 kv (d_ [(k:Int)])::mc (L.eraseIdx i)::pt m (.cells 4 [.ptr a 0,u,qA,.int .u64 (nx:Int)] false)::kG .u64 (λv (r:Nat)=>.pu (v=.ptr r 0)) qA (L.map λe=>((e.1:Int),e.2.1))::fh g a now true::SA a p q r .aW cO aF aj::X::pt w (.cells 6 (ep (1:Nat) id A.cx 0 dt .aP) false)::S)->a8 .ret E' h:=by
   intro f0 E' h Vk I s;subst Vk;refine hq E' h c aj aL I Ng ig hlen jR ?_;have s:=s.ae [0,1];have s:Sat h (mc (L.set i (id,rr,A.more aL (pl+96) [(k:Int)]))::_):=(MP (x':=(id,rr,A.more aL (pl+96) [(k:Int)])) hx).1 s;have s:=s.ae [2,2,0,1,1,1];rw[<-M4 (A':=A.more aL (pl+96) [(k:Int)]) hx] at s;exact((cD.2 ⟨qA,s⟩).del 5).del 4
  by_cases hf:A.fst=0
  .skip;refine zB U bH Q ?_;refine zk 6 U (zf U (wR _ _) (zS U (s.cS (k:=0) U gL U (show 0+1<7 by decide) U U) ?_));exact λh s=>zv (U5 (f0:=aL) (A:=A) hW (ks:=[(k:Int)]) cb mR s ⟨U,U,U,U,aa⟩ λE' h' I s'=>(fin Q I s'))
  .skip;exact zC U bH Q<|zk 3 U (U5 (f0:=A.fst) (A:=A) hW (ks:=[(k:Int)]) cb mR s ⟨U,U,U,U,aa⟩ λE' h' I s'=>(fin Q I s'))
theorem Vl (hT:WK told)(hB:B<=900)(hI:TxI N B M ba ck mk rs ε)(oW:1<=ba)(ox:ba+szB rs<=1000000)(hN:N<=1024)(kB:vq L)(hx:L[i]?=some (id,rr,A)){b:List Nat}(qD:now=[((k:Int),b)])(hw:NW N now)(fV:id<2097152)(Bo:A.cx<2097152)(hd:data.length<=9)(mR:A.dn.length<=1000)
 (yJ:jY L<=1000000000)(hM:M<=16777216)(s:Sat h (eL m a nx u L::GA g a p q r cO aF now ε::X::S))(hX:cQ X (cT dt data)):
  Call ⟨prog,told⟩ 41 [.ptr m 0,.int .u64 (id:Int),.ptr g 0,dt] h λv h'=>(v=.int .i64 7/\M<szB rs+7300+jY L/\∃aj,EI N B aj/\Sm N ε aj/\Sat h' (eL m a nx u L::GA g a p q r cO aF now aj::X::S))\/∃c cost aj aL,aL=ba+szB rs/\v=.int .i64 0/\(∀m,pgA aj m=match lookL m now with|some b=>dW b aL|none=>pgA ε m)/\(dw.mk 1 id A.cx 0 data c).len<=560/\cost<=1656 /\
   TxI N (B+2) M ba ck mk (rs++[⟨1,id,A.cx,0,data,c⟩]) aj/\Sat h' (eL m a nx u (L.set i (id,rr,A.more aL cost [(k:Int)]))::fh g a now true::SA a p q r .aW cO aF aj::X::S):=by
 have hW:=hT.w;have kO:=s.aQ 2 U hX;have dG:(V.agg (ep (1:Nat) id A.cx 0 dt .aP)).cells.all storable=true:=nE kO.cells.2 U;obtain⟨av,s⟩:=cD.1 s;have s:=s.ae [1];obtain⟨mid,es,clock,e0,hb,mh,_⟩:=fW.1 s;have BE:=M3 hx mh;obtain⟨uu,y,hy,_,ir,s⟩:∃uu y,lookL (id:Int) (L.map λe=>((e.1:Int),e.2.1))=some y/\eO prog h 142 av (.int .u64 (id:Int)) true=some (.aR [uu,.bool true])/\eO prog h 142 av (.int .u64 (id:Int)) false=some uu/\Sat h (.pu (uu=.ptr y 0)::kG .u64 (λv (r:Nat)=>.pu (v=.ptr r 0)) av (L.map λe=>((e.1:Int),e.2.1))::_):=by
  rcases lC (n:=(id:Int)) (λ_ _=>bg.pu _) s tC bS QI with⟨g1,_⟩|⟨uu,y,g1,g2,g3,s'⟩
  .rw[BE] at g1;cases g1
  .exact⟨uu,y,g1,g2,g3,s'⟩
 obtain⟨eu,s'⟩:=j4.1 s;subst eu;rw[BE] at hy;obtain rfl:=fY hy;have s:=s';have s:=(iJ hx).1 (s.ae [2]);obtain⟨mv,dv,pv,s⟩:=iI.1 s
 -- [act's row, marks, done, pages, others, map, manager's row, group .., X]
 refine Call.of_wp (hW.free _ U) func41 U U (zK 8 U (zY s 6 iw kA U (zm U (zo U (e_ U U ir) (zk 6 U (zC U (tq ow) U (zk 8 U (zY s 0 rV b8 U (zm U (zo U (cE (r:=.agg (ep (1:Nat) id A.cx 0 dt .aP)) U (RL kO))<|aq.bG s U U U (bK sR) (λTw h s=>(zS U (s.dS (j:=0) U gq U dG) λh s=>zk 4 U (zl U (s.bW (k:=0) U kV gq) ?_)))))))))))));have s:=aX.1 (s.ae [8]);have s:Sat h (fh g a now false::dJ a p q r (.ptr g 0) cO aF::dx r p q ε.1::bD q p ε.2.1::aS p ε.2.2::_):=s;have vX:∀n∈now.map (·.1),0<=n/\n<65536:=λn hn=>by have:=hw.keys n hn;omega
 have CL:=hI.ei.cC;refine zc U (X2 (kd:=(1:Nat)) (nx:=0) hW hI.ei.ok Y (λe he=>iU (hw.good e he).1) Q vX Y Y Y Y (s.ae [0,0,0,0,0,8]) hX) ?_;rintro v h ⟨e,c,I,hc,RO,s⟩;obtain⟨gD,gC,Zd⟩:=hI.ei.qz hw hc;have hnl:(bj now).length=1:=by rw[qD];rfl
 have yy:=C5 (kd:=((1:Nat):Int)) (tx:=id) (pv:=A.cx) (nx:=0) (data:=data) (L:=1) hc hw Q Y fV Bo O hd;have Y_:=Yo c;have hfw:=hc.few hw λn hm=>by have:=hw.keys n (jF.1 hm);omega
 rw[hnl] at hfw;have ail:eH ((1:Nat):Int) c=true:=FF ⟨O,O⟩ (hc.fit (λx hx=>iU (hw.good x hx).1) λn hq=>by grind[jF]);have EW:TxI N B M ba ck mk rs I:=hI.sm gD gC;have ai_:∀m,pgA I m=pgA ε m:=gC.1;obtain⟨sz,eR,rfl⟩:∃sz:Nat,sz<=560/\v=.aR [.int .i64 (sz:Int),.int .i64 (partsL c:Int),.int .i64 0]:=by
  rcases RO with⟨h1,_⟩|⟨_,h1,_⟩|⟨_,h1,_⟩|⟨_,h1⟩
  .omega
  .grind
  .omega
  .exact⟨_,Y,h1⟩
 generalize partsL c=pl at *;refine zk 12 U (zC U aE U (zk 11 U (zc U (CH hW s Q (λn hn=>by grind[wf_i64])) ?_)));rintro kv h s;have JE:bj now=[(k:Int)]:=by rw[qD];rfl
 rw[JE] at s;refine zo U (aO U U U (s.fo 1 (j:=0) U (by rfl) O dN))<|zk 2 U (WP.block ?_);have s:=s.ae [8,10,0];refine Yp (ks:=[(k:Int)]) (l:=A.cx) (n:=A.jT) hW cb 1 0 0 _ _ _ U (az _) s ⟨U,U,U,U,U,U,U,U,U,U,aa⟩ λE' h' fr I8 J s'=>?_;have s:=s';have I8:fr<=1:=I8;refine WP.has J ?_;have fin:∀ {h:H},Sat h (pt rr (.cells 7 (l7 id A.fst A.cx A.jT mv dv pv) false)::xL pv A.pg::.arr 1 kv (d_ [(k:Int)])::fh g a now false::dJ a p q r (.ptr g 0) cO aF::dx r p q I.1::bD q p I.2.1::aS p I.2.2::X::pt Tw (.cells 6 (ep (1:Nat) id A.cx 0 dt .aP) false)::eC 1 mv (aK A.j9)::eC 2 dv (lZ A.dn)::mc (L.eraseIdx i)::kG .u64 (λv (r:Nat)=>.pu (v=.ptr r 0)) av (L.map λe=>((e.1:Int),e.2.1))::pt m (.cells 4 [.ptr a 0,u,av,.int .u64 (nx:Int)] false)::S) ->
   Sat h (eL m a nx u L::GA g a p q r cO aF now I::X::pt Tw (.cells 6 (ep (1:Nat) id A.cx 0 dt .aP) false)::S):=by
  intro h s;have s:=s.ae [0,9,9,0];have s:=iI.2 ⟨mv,dv,pv,s⟩;have s:=s.ae [0,8];have s:=(iJ hx).2 s;have s:=s.ae [10,9,0];have s:=cD.2 ⟨av,s⟩;have s:=s.ae [2,2,2,2,2];have s:Sat h (GA g a p q r cO aF now I::_):=aX.2 s;exact((s.ae [1,0,1,1]).del 4)
 have hkg:=ab6 hx;have tail:=λ{fr h E a8} (I8:fr<=9) aei s hE hqf hq=>md_tailG (h:=h) (fr:=fr) (E:=E) (a8:=a8) hT hB EW oW ox hN kB hx qD hw fV Bo hd mR yJ hM eR (show pl<=1560 by omega) I8 aei (fin s) hX hE hqf hq;refine zK 5 U (zY s 0 ug Gw U (zo U (aO U U U (s.y8 (n:=A.dn.length) (j:=11) U (kE _) O nH)) ?_));by_cases ZC:A.dn=[]
 .skip;exact zB U bH Q<|zk 4 U (zo U (ag (r:=.int .i64 ((fr+8:Nat):Int)) U U (by grind[aT,ay]))<|zk 2 U (tail Y Y s ⟨U,U,U,U,U,U,U,aa⟩ (λE' h' J hm s'=>⟨aa,_,jk J,.inl ⟨U,Y,I,gD,gC,s'.del 3⟩⟩) λE' h' c aj aL J Ng ig hlen jR s'=>⟨aa,_,jk J,.inr ⟨c,pl+96,aj,aL,Ng,U,λm=>Q,hlen,Y,jR,s'⟩⟩))
 .have h1:0<A.dn.length:=List.length_pos_iff.2 ZC;exact zC U bH Q<|zk 3 U (tail Y Q s ⟨U,U,U,U,U,U,U,aa⟩ (λE' h' J hm s'=>⟨aa,_,jk J,.inl ⟨U,Y,I,gD,gC,s'.del 3⟩⟩) λE' h' c aj aL J Ng ig hlen jR s'=>⟨aa,_,jk J,.inr ⟨c,pl+96,aj,aL,Ng,U,λm=>Q,hlen,Y,jR,s'⟩⟩)
end
section
variable {p m:Nat} {cell:List Nat}
theorem P4 (hB:B<=900)(hI:TxI N B M ba ck mk rs ε)(oW:1<=ba)(ox:ba+szB rs<=1000000)(hN:N<=1024)(kB:vq L)(hx:L[j]?=some (id,rr,A))(fV:id<2097152)(Bo:A.cx<2097152)(yw:A.dn.length<=1000)
 (yJ:jY L<=1000000000)(hM:M<=16777216)(hp:iO N n k cell (pgA ε))(hi:i<n)(hn:n<=50)(hd:IntKind.wrap .u64 d=(dn:Int))(mR:dn<18446744073709551616)
 (s:Sat h (pt c (.cells 2 [.ptr m 0,.int .i64 (n:Int)] false)::eL m a nx u L::SA a p q r .aW data aF ε::S)):
  ∃v h2,(∃N0,∀n,N0<=n->toldDefer CK n 26 [.ptr c 0,.int .u64 (id:Int),.int .i64 (i:Int),.int .i64 d] h=some (v,h2))/\((v=.int .i64 7/\M<szB rs+7300+jY L/\∃aj,TxI N B M ba ck mk rs aj/\(∀m,pgA aj m=pgA ε m)/\Sat h2 (pt c (.cells 2 [.ptr m 0,.int .i64 (n:Int)] false)::eL m a nx u L::SA a p q r .aW data aF aj::S))\/∃c' cost aj,v=.int .i64 0/\iO N n k (oV cell i ((ik cell i+dn)%18446744073709551616)) (pgA aj) /\
   (dw.mk 1 id A.cx 0 (i::le 8 dn) c').len<=560/\cost<=1656/\TxI N (B+2) M ba ck mk (rs++[⟨1,id,A.cx,0,i::le 8 dn,c'⟩]) aj /\
   Sat h2 (pt c (.cells 2 [.ptr m 0,.int .i64 (n:Int)] false)::eL m a nx u (L.set j (id,rr,A.more (ba+szB rs) cost [(k:Int)]))::SA a p q r .aW data aF aj::S)):=by
 have J:=Nb.w;have jE:=hp.len;obtain⟨av,s⟩:=cD.1 (s.ae [1]);dsimp only[aB,bringA] at s;obtain⟨ir,_⟩:=sr hx (s.ae [1]);refine toldDefer_do (C:=CK) vr U U (of_decide_eq_true bo) ?_;refine WPd.seq (WPd.of_wp U (zr U (za U (zv (WPd.seq (WPd.of_wp U (WP.block (zg U (zk 2 U (zf U (oH _ _) (zl U (by exact s.ld 3 U my U) ?_)))))))))));refine zn U (zY s 0 iw kA U (zm U (zo U (e_ U U ir) (zC U (tq ow) U (zk 6 U (zC U aG cb ?_))))));refine zk 4 U (zY s 3 wQ cW U (zC U dO Q ?_));refine zk 2 U (zv (zj U (WP.skip (WPd.seq (WPd.of_wp U (zr U (zk 2 U (zf U (oH _ _) (zl U (by exact s.ld 3 U my U) ?_)))))))));refine zn U (zY s 0 nA nr U ?_);have s:=aX.1 (s.ae [4]);dsimp only[aB,bringA,List.cons_append,List.nil_append] at s;refine zc U (vk J s) ?_;rintro v h ⟨g,rfl,s⟩;have s:Sat h (GA g a p q r data aF [] ε::_):=aX.2 s;refine zk 5 U (zv (WPd.seq (WPd.seq (WPd.of_wp U (zr U (zm U (zh U (ag U U aE) U (zv (WPd.of_wp U (zj U (WP.skip (WPd.seq (WPd.defer U U U U U U U U U U U U (WPd.seq (WPd.seq (WPd.of_wp U (zr U (zk 4 U ?_))))))))))))))))));have x_:iO N n k cell (pgG [] ε):=hp.FH λ_=>U;refine zc U (ML J Y hI.ei (NW.nil N) x_ Y hd mR s) ?_;rintro v h ⟨yZ,b',rfl,sk,gC,yc,nM,s⟩;have EW:=hI.sm sk gC;have CW:=x_.put gC nM (Bf jE Y);refine za U (zv (WPd.seq (WPd.of_wp U (zr U (zm U (zh U (ag U U aE) U ?_))))));have By:∀h,convV prog h 2 32 (.int .i64 d)=some (.int .u64 (dn:Int),h):=λh=>by simp only[convV,Ay,bS,hd]
 have s0:=s;refine zv (WPd.of_wp U (zj U (WP.skip (WPd.seq (WPd.of_wp U (WP.drawn [some (0,3),some (0,3),some (0,3),some (0,3),some (0,3),some (0,3),af,af,af,some (0,2),some (0,2),af,af,af] U bo bo ?_))))));refine zM U (zN U (zF U (oH _ _) (zL U (s.ld 4 U my U) (zM U (zM U (zM U (ah.op U U U (by simp only[isEff,underlying5]) (bQ U (by exact ie bB underlying5 An)) ?_)))))));refine ah.any U U U U (OpR.KG (n:=i) U s U U U Y) λbv h s=>?_;have s1:=s;refine zM U (ah.op U U U (by simp only[isEff,bS]) (bQ (r:=.int .u64 (dn:Int)) U (By _)) ?_);refine ah.any U U U U (OpR.call U U U U (qS (z:=8) (n:=dn) J s O cb)) ?_;intro bv h s;have s2:=s;have s:=s.ae [2,2,2];have s:=cD.2 ⟨av,s⟩;have s:=s.ae [0,1,0];refine ah.any U U U U (OpR.call U U U U (Vl Nb Y EW oW ox hN kB hx U yc fV Bo (show([i]++le 8 dn).length<=9 by simp[dI]) yw yJ hM s (bh _ _))) ?_;rintro v h (⟨rfl,Jj,xJ,vm,qV,s⟩|⟨c',cost,aj,aL,rfl,rfl,ig,hlen,RX,jR,s⟩)
 .skip;refine zA U<|ah.nil ⟨⟨λ_ _=>.inr ⟨U,⟨_,aD U⟩,aA _ U⟩,λ_ _=>.inr ⟨U,⟨_,jq U⟩,aA _ U⟩,λ_ _=>.inr ⟨U,⟨_,gy U (oH _ _)⟩,aA _ U⟩,lT (.inr ⟨U,⟨_,o_load U (s0.ld 4 U my U)⟩,aA _ U⟩) (.inr ⟨U,⟨_,o_load U (s1.ld 5 U my U)⟩,aA _ U⟩) (.inr ⟨U,⟨_,o_load U (s2.ld 5 U my U)⟩,aA _ U⟩),λ_ _=>.inr ⟨U,⟨_,aD U⟩,aA _ U⟩,λ_ _=>.inr ⟨U,⟨_,aD U⟩,aA _ U⟩,aa,aa,aa,λ_ _=>.inr ⟨U,⟨_,aD U⟩,aA _ U⟩,λ_ _=>.inr ⟨U,⟨_,bQ (r:=.int .u64 (dn:Int)) U (By _)⟩,aA _ U⟩,dq 4⟩,WPd.of_wp U (WP.ret ?_)⟩;have s:=aX.1 (s.ae [1]);have s:Sat h (fh g a _ false::dJ a p q r (.ptr g 0) data aF::_):=s;obtain⟨v2,h2,xo,rfl,s⟩:=Xu J s;have s:=s.ae [1,1,1,1];have s:Sat h2 (SA a p q r .aW data aF xJ::_):=aX.2 s;have I:KL 59=none:=J.free _ U;have hI2:=EW.sm vm qV;exact⟨aa,h2,_,oL (C:=CK) I vf U U xo,jk U,.inl ⟨U,Jj,xJ,hI2,λm=>by rw[qV.1,gC.1],((s.ae [4,2,0]).del 4 |>.del 3)⟩⟩
 .skip;refine zA U<|ah.nil ⟨⟨λ_ _=>.inr ⟨U,⟨_,aD U⟩,aA _ U⟩,λ_ _=>.inr ⟨U,⟨_,jq U⟩,aA _ U⟩,λ_ _=>.inr ⟨U,⟨_,gy U (oH _ _)⟩,aA _ U⟩,lT (.inr ⟨U,⟨_,o_load U (s0.ld 4 U my U)⟩,aA _ U⟩) (.inr ⟨U,⟨_,o_load U (s1.ld 5 U my U)⟩,aA _ U⟩) (.inr ⟨U,⟨_,o_load U (s2.ld 5 U my U)⟩,aA _ U⟩),λ_ _=>.inr ⟨U,⟨_,aD U⟩,aA _ U⟩,λ_ _=>.inr ⟨U,⟨_,aD U⟩,aA _ U⟩,aa,aa,aa,λ_ _=>.inr ⟨U,⟨_,aD U⟩,aA _ U⟩,λ_ _=>.inr ⟨U,⟨_,bQ (r:=.int .u64 (dn:Int)) U (By _)⟩,aA _ U⟩,dq 4⟩,WPd.of_wp U (WP.ret ?_)⟩;have s:=aX.1 (s.ae [2]);have s:=s.ae [5,0];obtain⟨v2,h2,xo,rfl,s⟩:=tu J s;have s:=s.ae [1,1,1,1];have s:Sat h2 (SA a p q r .aW data aF aj::_):=aX.2 s;have I:KL 59=none:=J.free _ U;exact⟨aa,h2,_,oL (C:=CK) I vf U U xo,jk U,.inr ⟨c',cost,aj,U,CW.done yc ig,hlen,RX,jR,((s.ae [4,2,0]).del 4 |>.del 3)⟩⟩
end
section
variable {told:bU} {p m:Nat} {cell:List Nat}
theorem nQ : ∃i,prog.info? 32=some i/\i.size=1/\i.bytes<=4096 :=
 ⟨_,(show prog.info? 32=some ((prog.info? 32).getD default) by kernel_rfl),bo,pX bo⟩
theorem vt (hx:∀x∈L,x.1≠id)(s:Sat h (kG .u64 (λv (r:Nat)=>.pu (v=.ptr r 0)) av (L.map λe=>((e.1:Int),e.2.1))::S)):
  eO prog h 142 av (.int .u64 (id:Int)) false=some .aW:=by
 rcases lC (n:=(id:Int)) (λ_ _=>bg.pu _) s tC bS QI with⟨_,_,I⟩|⟨uu,y,J,_⟩
 .exact I
 .obtain⟨x,hx2,e⟩:=List.mem_map.1 (j7 J)<;>grind
theorem Nh {pv:V}(I:L[i]?=some (id,rr,A))(s:Sat h (pt rr (.cells 7 (l7 id A'.fst A'.cx A'.jT mv dv pv) false)::eC 1 mv (aK A'.j9)::eC 2 dv (lZ A'.dn)::xL pv A'.pg::mc (L.eraseIdx i)::pt m (.cells 4 [.ptr a 0,u,av,.int .u64 (nx:Int)] false)::kG .u64 (λv (r:Nat)=>.pu (v=.ptr r 0)) av (L.map λe=>((e.1:Int),e.2.1))::S)): Sat h (eL m a nx u (L.set i (id,rr,A'))::S):=by
 have s:=(MP (x':=(id,rr,A')) I).1 (iI.2 ⟨mv,dv,pv,s⟩);have s:=s.ae [1,1,0];rw[<-M4 (A':=A') I] at s;exact cD.2 ⟨av,s⟩
theorem Vm (J:W told)(hx:∀x∈L,x.1≠id)(s:Sat h (eL m a nx u L::S)): Call ⟨prog,told⟩ 27 [.ptr m 0,.int .u64 (id:Int)] h λv h'=>v=.int .i64 12/\Sat h' (eL m a nx u L::S):=by
 obtain⟨av,s⟩:=cD.1 s;have I:=vt hx (s.ae [1]);exact Call.of_wp (J.free _ U) func27 U U (zK 8 U (zY s 0 iw kA U (zm U (zo U (e_ U U I) (zk 6 U (zB U (G2 ow) U (zk 6 U (WP.ret ⟨aa,_,U,U,cD.2 ⟨av,s⟩⟩))))))))
theorem YH (J:W told)(hx:∀x∈L,x.1≠id)(s:Sat h (eL m a nx u L::S)): Call ⟨prog,told⟩ 28 [.ptr m 0,.int .u64 (id:Int)] h λv h'=>v=.int .i64 12/\Sat h' (eL m a nx u L::S):=by
 obtain⟨av,s⟩:=cD.1 s;have I:=vt hx (s.ae [1]);exact Call.of_wp (J.free _ U) func28 U U (zK 8 U (zY s 0 iw kA U (zm U (zo U (e_ U U I) (zk 6 U (zB U (G2 ow) U (zk 6 U (WP.ret ⟨aa,_,U,U,cD.2 ⟨av,s⟩⟩))))))))
theorem ab7 (J:W told)(hx:∀x∈L,x.1≠id)(s:Sat h (eL m a nx u L::S)): Call ⟨prog,told⟩ 46 [.ptr m 0,.int .u64 (id:Int)] h λv h'=>v=.aR [.int .u64 0,.int .i64 12]/\Sat h' (eL m a nx u L::S):=by
 obtain⟨av,s⟩:=cD.1 s;have I:=vt hx (s.ae [1]);exact Call.of_wp (J.free _ U) func46 U U (zK 9 U (zY s 0 iw kA U (zm U (zo U (e_ U U I) (zk 6 U (zB U (G2 ow) U (zk 7 U (WP.ret ⟨aa,_,U,U,cD.2 ⟨av,s⟩⟩))))))))
theorem ab8 (hT:W told)(hx:L[i]?=some (id,rr,A))(EM:A.j9.length<=1000)(s:Sat h (eL m a nx u L::S)): Call ⟨prog,told⟩ 46 [.ptr m 0,.int .u64 (id:Int)] h λv h'=>v=.aR [.int .u64 (A.cx:Int),.int .i64 0]/\Sat h' (eL m a nx u (L.set i (id,rr,⟨A.fst,A.cx,A.jT,A.j9++[A.cx],A.dn,A.pg⟩))::S):=by
 obtain⟨av,s⟩:=cD.1 s;obtain⟨ir,_⟩:=sr hx (s.ae [1]);refine Call.of_wp (hT.free _ U) func46 U U (zK 9 U (zY s 0 iw kA U (zm U (zo U (e_ U U ir) (zk 6 U (zC U (tq ow) U ?_))))));have s:=(iJ hx).1 (s.ae [2]);obtain⟨mv,dv,pv,s⟩:=iI.1 s;refine zk 4 U ?_;obtain⟨i1,gD,fH,gu⟩:=nQ;have I:=(s.gV (j:=1) U).2.2;have s0:=s;refine WP.xu [some (0,3),some (0,2),some (0,2),some (0,2),some (0,2),af,af,af,af,af,af,af,af,af] U bo bo<|zM U (zM U (zN U (zF U (wS _ _) (zL U (s.ld 0 U j5 U) (zM U (zN U (zF U (rV _ _) (zL U (s.ld 0 U b8 U) ?_))))))));obtain⟨xv,h1,e1,s1⟩:=fP prog (k:=1) (x:=.int .u64 (A.cx:Int)) s dg rq gL U O O U U;have sb:=s1.ae [1];obtain⟨w,h2,e2,s2⟩:=MO (GC _ _ _) (s1.ae [2,0]) dg gD rq fH gu U O (by grind[dh,V.cells]);refine ah.any U U U U (OpR.of (R:=λv h'=>v=xv/\h'=h1) (jj U e1) ⟨U,U⟩) ?_;rintro xv h1 ⟨rfl,rfl⟩;refine ah.any U U U U (OpR.of (R:=λv h'=>v=w/\h'=h2) (fN U U e2) ⟨U,U⟩) ?_;rintro w h2 ⟨rfl,rfl⟩;have s:=s2.del 1;have J:=s.gV (j:=0) U;have s3:=s.ae [1];refine zN U (zF U (wS _ _) (ah.cy U U U (OpR.dX U U U (s.cS (k:=1) U oR U (show 0+4<7 by decide) J.1 J.2.1)) ?_));rintro _ h ⟨rfl,s⟩;refine ah.nil ⟨⟨⟨λ_ _=>.inr ⟨U,⟨_,aD U⟩,aA _ U⟩,λ_ _=>.inr ⟨U,⟨_,aD U⟩,aA _ U⟩,λ_ _=>.inr ⟨U,⟨_,jq U⟩,aA _ U⟩,λ_ _=>.inr ⟨U,⟨_,gy U (wS _ _)⟩,aA _ U⟩,cY (.inr ⟨U,⟨_,o_load U (s0.ld 0 U j5 U)⟩,I⟩) (.inr ⟨U,⟨_,o_load U (sb.ld 0 U j5 U)⟩,I⟩),dq 10⟩,.inl U,.inl U,.inl U,.inl U,.inl U,.inl U,.inl U,.inl U,.inl U,.inr U,.inl U,.inl U,.inl U,.inl U,aa⟩,zK 4 U (zY s 1 rV b8 U (zk 3 U (zR U ⟨U,Nh (A':=⟨A.fst,A.cx,A.jT,A.j9++[A.cx],A.dn,A.pg⟩) (av:=av) (mv:=w) (dv:=dv) (pv:=pv) hx ?_⟩)))⟩;have s:=s.ae [1];rw[show aK (A.j9++[A.cx])=aK A.j9++[.int .u64 (A.cx:Int)] from mD];exact s
theorem ab9 (J:W told)(hx:∀x∈L,x.1≠id)(s:Sat h (eL m a nx u L::S)): Call ⟨prog,told⟩ 47 [.ptr m 0,.int .u64 (id:Int),.int .u64 0] h λv h'=>v=.int .i64 12/\Sat h' (eL m a nx u L::S):=by
 obtain⟨av,s⟩:=cD.1 s;refine Call.of_wp (J.free _ U) func47 U U (zg U (aq.bG s U U U (c7 U U) λb h s=>?_));have I:=vt hx (s.ae [2]);exact zk 6 U (zY s 1 iw kA U (zm U (zo U (e_ U U I) (zk 3 U (WP.block (zK 3 U (zB U (G2 ow) U (zk 7 U (WP.ret ⟨aa,_,U,U,cD.2 ⟨av,s.drop⟩⟩)))))))))
theorem aej (J:∀x∈L,x.1≠id){j:Int}(s:Sat h (pt c (.cells 2 [.ptr m 0,.int .i64 (n:Int)] false)::eL m a nx u L::S)):
  ∃v h2,(∃N0,∀n,N0<=n->toldDefer CK n 26 [.ptr c 0,.int .u64 (id:Int),.int .i64 j,.int .i64 d] h=some (v,h2))/\v=.int .i64 12/\Sat h2 (pt c (.cells 2 [.ptr m 0,.int .i64 (n:Int)] false)::eL m a nx u L::S):=by
 obtain⟨av,s⟩:=cD.1 (s.ae [1]);dsimp only[aB,bringA] at s;have I:=vt J (s.ae [1]);refine toldDefer_do (C:=CK) vr U U (of_decide_eq_true (by rfl))<|WPd.seq (WPd.of_wp U (zr U (za U (zv (WPd.seq (WPd.of_wp U (WP.block (zg U (zk 2 U (zf U (oH _ _) (zl U (by exact s.ld 3 U my U)<|zn U (zY s 0 iw kA U (zm U (zo U (e_ U U I) (zB U (G2 ow) U (zk 7 U (WP.ret ?_)))))))))))))))));have s:=cD.2 ⟨av,s⟩;have s:=s.ae [1];exact⟨aa,_,_,⟨0,λ_ _=>U⟩,jk U,U,s⟩
end
section
variable {told:bU} {p m l to:Nat} {xK:V} {cell:List Nat} {ke vM:List dw} {cs:List cU}
theorem Ni (hT:WT told)(hI:TxI N B M ba ck mk rs ε)(oW:1<=ba){kd:Nat}{I:List Nat}(OO:rs=ke++⟨kd,tx,pv,pn,I,cs⟩::vM)
 (hc:(kd=2/\pn<ba+szB ke)\/kd=1/\pn=0/\I=i::le 8 dn/\pv<ba+szB ke/\B<=900/\ba+szB rs<=1000000/\N<=1024/\id<2097152/\l<2097152/\szB rs+560<=M/\iO N n k cell (pgA ε)/\i<50/\dn<18446744073709551616)
 (s:Sat h (pt m (.cells 4 [.ptr a 0,ju c,av,.int .u64 (nx:Int)] false)::pt rr (.cells 7 (l7 id f l (ba+szB ke) mv dv xK) false)::SA a p q r .aW data aF ε::S)):
  Call ⟨prog,told⟩ 87 [.ptr m 0,.ptr rr 0] h λv h'=>v=.int .i64 0/\((kd=2/\Sat h' (pt m (.cells 4 [.ptr a 0,ju c,av,.int .u64 (nx:Int)] false)::pt rr (.cells 7 (l7 id f l pn mv dv xK) false)::SA a p q r .aW data aF ε::S)) \/
   kd=1/\∃c' aj,iO N n k (oV cell i ((ik cell i+vG dn)%18446744073709551616)) (pgA aj)/\(dw.mk 2 id l pv [] c').len<=560/\TxI N (B+2) M ba ck mk (rs++[⟨2,id,l,pv,[],c'⟩]) aj /\
   Sat h' (pt m (.cells 4 [.ptr a 0,ju c,av,.int .u64 (nx:Int)] false)::pt rr (.cells 7 (l7 id f (ba+szB rs) pv mv dv xK) false)::SA a p q r .aW data aF aj::S)):=by
 have hW:=hT.wr.w;have eR:szB ke<=szB rs:=by rw[OO,hG];omega
 have BN:ε.2.1.Ok:=hI.ei.ok.ok.lg;refine Call.of_wp (hW.free _ U) func87 U U (zg U (aq.bG s U U U (c7 U U) λp2 h s=>aq.bG s U U U (c7 U U) λp3 h s=>?_));have s:=aX.1 (s.ae [4]);refine zk 3 U ?_;have J:=s;refine WP.drawn [af,af,af,af,af,some (0,2),some (0,2),some (0,2),some (0,2),none,some (2,2),some (2,2),some (2,3),some (2,3),af,af,af,af] U bo bo<|zL U (s.ld 5 U my U) (zN U (zF U (nA _ _) (zL U (s.ld 6 U nr U) (ah.any U U U U (OpR.call U U U U (Ea hW s)) ?_))));rintro v h' ⟨rfl,rfl⟩;refine zL U (s.ld 4 U nV U) (zN U (zF U (oI _ _) (zL U (s.ld 7 U b8 U) (ah.any U U U U (OpR.call U U U U (M5 hT.wr (ke:=ke) (vM:=vM) (y:=⟨kd,tx,pv,pn,I,cs⟩) (by rw[<-OO];exact hI.lr) BN (s.ae [2]))) ?_))));rintro v h ⟨dt,ch,cs',rfl,s⟩;dsimp only at s;have kO:=(s.buf (k:=1) U).view.cells;have qT:=s.cz 2 U;have UU:∀(k:IntKind) (z:Int),V.beq (.int k z) (.int k z)=true:=λk z=>aA _ U;have ahx:V.beq (.agg (ep (kd:Nat) tx pv pn dt ch)) (.agg (ep (kd:Nat) tx pv pn dt ch))=true:=by
  show V.beqL (ep (kd:Nat) tx pv pn dt ch) (ep (kd:Nat) tx pv pn dt ch)=true;unfold ep;simp only[V.beqL,UU,fO (s.buf (k:=1) U).view,qT.2.2,ak]
 have ahy:∀ {z w:Int},V.beq (.aR [.agg (ep (kd:Nat) tx pv pn dt ch),.int .u64 z,.int .i64 w]) (.aR [.agg (ep (kd:Nat) tx pv pn dt ch),.int .u64 z,.int .i64 w])=true:=by
  intro z w;show V.beqL _ _=true;grind[V.beqL]
 have dG:(V.agg (ep (kd:Nat) tx pv pn dt ch)).cells.all storable=true:=nE kO.2 qT.2.1;refine zM U (zO U (c_ U U) (zO U (c_ U U) (zO U (c_ U U) (ah.any U U U U (OpR.bG s (bK sR)) ?_))));rintro v h ⟨p5,rfl,s⟩;refine ah.cy U U U (OpR.dX U U U (s.dS (j:=0) U gq U dG)) ?_;rintro w h ⟨rfl,s⟩;refine zA U (zA U<|ah.nil ⟨⟨aa,aa,aa,aa,aa,cY (.inr ⟨U,⟨_,o_load U (J.ld 4 U nV U)⟩,aA _ U⟩) (.inr ⟨U,⟨_,o_load U (J.ld 4 U nV U)⟩,aA _ U⟩),λ_ _=>.inr ⟨U,⟨_,jq U⟩,aA _ U⟩,λ_ _=>.inr ⟨U,⟨_,gy U (oI _ _)⟩,aA _ U⟩,cY (.inr ⟨U,⟨_,o_load U (J.ld 7 U b8 U)⟩,aA _ U⟩) (.inr ⟨U,⟨_,o_load U (J.ld 7 U b8 U)⟩,aA _ U⟩),aa,λ_ _=>.inr ⟨U,⟨_,aD U⟩,ahy⟩,λ_ _=>.inr ⟨U,⟨_,c_ U U⟩,ahx⟩,λ_ _=>.inr ⟨U,⟨_,c_ U U⟩,aA _ U⟩,λ_ _=>.inr ⟨U,⟨_,c_ U U⟩,aA _ U⟩,dq 5⟩,?_⟩);have s:=s.ae [9,0,7,7,7];refine zK 4 U (zC U aE U (zk 5 U (zY s 1 Ik b8 U (aq.bG s U U U (bK rq) λp8 h s=>zS U (by exact s.cS (k:=0) U gL U O U U) (λh s=>(zk 4 U (zY s 2 qj cW U ?_)))))));rcases hc with⟨rfl,UF⟩|⟨rfl,rfl,rfl,si,hB,ox,hN,fV,hl,hf,hp,hi,mR⟩
 .skip;refine zB U bH U (zk 3 U (zY s 2 Il b8 U<|zS U (by exact s.cS (k:=0) U gL U O U U) (λh s=>(zk 3 U ?_))));have J:=s;refine WP.drawn [af,af,af,af,af,af] U bo bo<|zL U (s.ld 0 U b8 U) (zL U (s.ld 3 U nV U) (zN U (zF U (oI _ _) (zL U (s.ld 5 U b8 U) (ah.kK U U U U (ag U U dO) Q<|ah.nil ⟨(dq 7),zK 5 U (zY s 2 qj cW U (zB U bH U (zk 10 U (zy s 3 nV U (zy s 0 b8 U (zn U (zf U (oI _ _)<|zS U (by exact s.cS (k:=5) U gL U O U U) (λh s=>(zk 5 U (WP.ret ⟨aa,_,U,?_⟩))))))))))⟩)))));have s:=s.ae [10,10,6,9];dsimp only[V.cells,List.length_cons,List.length_nil,Nat.reduceAdd,l7,aB,bringA,List.cons_append,List.nil_append,ep,setA,getA,List.set] at s;have s:Sat h (SA a p q r .aW data aF ε::_):=aX.2 s;exact⟨U,.inl ⟨U,((s.ae [5,5]).del 9 |>.del 8 |>.del 7 |>.del 6 |>.del 5 |>.del 4 |>.del 3)⟩⟩
 .skip;refine zC U bH U (zk 5 U ?_);have J:=s;refine WP.drawn [af,af,af,af,af,af] U bo bo<|zL U (s.ld 0 U b8 U) (zL U (s.ld 3 U nV U) (zN U (zF U (oI _ _) (zL U (s.ld 5 U b8 U) (ah.kK U U U U (ag U U dO) Q<|ah.nil ⟨(dq 7),zK 5 U (zY s 2 qj cW U (zC U bH U (zm U (zY s 2 DP cF U (zo U (aO U U U (bC aZ (s.aQ 7 U (bh _ _)))) (zC U bH (by rfl)<|zk 6 U (zy s 1 my U (zo U (uK U U) ?_))))))))⟩)))));have s:=s.ae [10,10,6,9];have s:Sat h (SA a p q r .aW data aF ε::_):=aX.2 s;have s:=s.ae [2,2,2,1,1,1,0,0];dsimp only[V.cells,List.length_cons,List.length_nil,Nat.reduceAdd,l7,aB,bringA,List.cons_append,List.nil_append,ep,setA,getA,List.set] at s;refine zc U (EY (e:=0) hW O (Call.defer hT.und MH U (Yr hB hI Y hN fV hl (show pv<2097152 by omega) hf hp hi mR s (bh _ _))) (λv h' hv=>hv.choose_spec.choose_spec.1)) ?_;rintro v h ⟨c',aj,rfl,Mv,hlen,jR,s⟩;exact zk 2 U (zR U ⟨U,.inr ⟨U,c',aj,Mv,hlen,jR,((s.ae [4,4,4]).del 9 |>.del 8 |>.del 7 |>.del 6 |>.del 5 |>.del 4 |>.del 3)⟩⟩)
noncomputable def bkG : Code:=aV [1,0,0,0] ((f73.body).getD .skip)
theorem RY (hT:WT told)(oW:1<=ba)(hN:N<=1024)(fV:id<2097152){l:List (Nat×Nat)}(hd:Dn ba rs f t jT l y): ∀(I:List dw) (cx B:Nat) (ε:bn) (cell:List Nat) (h:H) (E:List (Nat×V)) (a8:Ex->List (Nat×V)->H->Prop),iO N n k cell (pgA ε)->TxI N B M ba ck mk (rs++I) ε->B+2*l.length<=900 ->
  ba+szB (rs++I)+560*l.length<=1000000->szB (rs++I)+560*l.length<=M->cx<=ba+szB (rs++I)->jT<2097152 ->
  Sat h (pt b (.cells 1 [.int .u64 (t:Int)] false)::pt m (.cells 4 [.ptr a 0,ju c,av,.int .u64 (nx:Int)] false)::pt rr (.cells 7 (l7 id f cx jT mv dv xK) false)::SA a p q r .aW data aF ε::S) ->
  Has E [(0,.ptr m 0),(1,.ptr rr 0),(5,.ptr b 0)] ->
  (∀E' h' c8 aj fF,iO N n k (offC cell l) (pgA aj)->szB c8<=560*l.length->TxI N (B+2*l.length) M ba ck mk (rs++I++c8) aj ->
   (l=[]/\c8=[]/\fF=cx\/l≠[]/\ba+szB (rs++I)<=fF/\fF<ba+szB (rs++I++c8)/\Dn ba (rs++I++c8) f t fF [] y)->Has E' [(0,.ptr m 0),(1,.ptr rr 0),(5,.ptr b 0)] ->
   Sat h' (pt b (.cells 1 [.int .u64 (t:Int)] false)::pt m (.cells 4 [.ptr a 0,ju c,av,.int .u64 (nx:Int)] false)::pt rr (.cells 7 (l7 id f fF y mv dv xK) false)::SA a p q r .aW data aF aj::S)->a8 (.exit 0) E' h') ->
  WP ⟨prog,told⟩ 29 (.loop bkG) E h a8:=by
 have hW:=hT.wr.w;induction hd with
 |stop hx =>
  intro I cx B ε cell h E a8 hp hI hB ox hM J kC s hE hq;have s0:=s;exact WP.loop (WP.has hE (zK 2 U (WP.drawn [af,af,af,af,af,af] U bo bo<|zM U (zN U (zF U (oI _ _) (zL U (s.ld 2 U b8 U) (zL U (s.ld 0 U b8 U) (ah.kK U U U U (ag U U dc) Q<|ah.nil ⟨(dq 7),zj U (WP.exit (hq _ _ [] ε cx hp O Q (.inl ⟨U,U,U⟩) ⟨U,U,U,aa⟩ s))⟩))))))))
 |@cons x tx pv i dn y cs l hAt hf ht si hi mR hl ih =>
  intro I cx B ε cell h E a8 hp hI hB ox hM J kC s hE hq;obtain⟨ke,vM,OO,rfl⟩:=hAt;have s0:=s;simp only[cK] at hB ox hM;have k1:B<=900:=Y;have k2:ba+szB (rs++I)<=1000000:=Y;have k3:cx<2097152:=Y;have k5:560<=560*(l.length+1):=zG _ (Nat.succ_pos _);have k4:szB (rs++I)+560<=M:=b7 (wq k5 _) hM;have YI:rs++I=ke++⟨1,tx,pv,0,i::le 8 dn,cs⟩::(vM++I):=Q;have bY:ba+szB ke<ba+szB (rs++I):=by grind[P3]
  refine WP.loop (WP.has hE (zK 2 U (WP.drawn [af,af,af,af,af,af] U bo bo<|zM U (zN U (zF U (oI _ _) (zL U (s.ld 2 U b8 U) (zL U (s.ld 0 U b8 U) (ah.ot U U U U (ag U U dc) Q<|ah.nil ⟨(dq 7),zK 2 U (WP.block (zK 4 U (zc U (Ni hT hI oW YI (.inr ⟨U,U,U,si,k1,k2,hN,fV,k3,k4,hp,hi,mR⟩) (s.ae [1,1,1])) ?_)))⟩))))))));rintro v h ⟨rfl,⟨e,_⟩|⟨_,c',aj,Mv,hlen,jR,s⟩⟩
  .cases e
  have eR:szB (rs++(I++[⟨2,id,cx,pv,[],c'⟩]))=szB (rs++I)+(dw.mk 2 id cx pv [] c').len:=by grind[hG,sq]
  refine za U (zv (zg U (zm U (zh U (ag U U aE) U (zv (zj U (WP.skip ?_)))))));rw[gX] at jR;refine ih (I++[⟨2,id,cx,pv,[],c'⟩]) (ba+szB (rs++I)) (B+2) aj _ _ _ a8 Mv jR Y Y Y Y Y (s.ae [3]) ⟨U,U,U,aa⟩ λE' h' c8 aj fF g1 g2 g3 g4 g6 g7=>?_;have ea:rs++(I++[⟨2,id,cx,pv,[],c'⟩])++c8=rs++I++([⟨2,id,cx,pv,[],c'⟩]++c8):=cb;rw[ea] at g3 g4;refine hq E' h' ([⟨2,id,cx,pv,[],c'⟩]++c8) aj fF g1 (by grind[hG]) (by rw[cK,show B+2*(l.length+1)=B+2+2*l.length by omega];exact g3) (.inr ⟨cb,?_⟩) g6 g7;rcases g4 with⟨e1,e2,e3⟩|⟨e1,e2,e3,e4⟩
  .subst e1 e2 e3;refine⟨az _,?_,.skip (pv:=cx) (tx:=id) (cs:=c') (nx:=pv) (by grind[At.new]) Y Y Y ?_⟩
   .grind[qW]
   .rw[gX];exact hl.more
  .grind
 |@skip x tx pv nx' y cs l hAt hf ht si hl ih =>
  intro I cx B ε cell h E a8 hp hI hB ox hM J kC s hE hq;obtain⟨ke,vM,OO,rfl⟩:=hAt;have s0:=s;have YI:rs++I=ke++⟨2,tx,pv,nx',[],cs⟩::(vM++I):=Q;refine WP.loop (WP.has hE (zK 2 U (WP.drawn [af,af,af,af,af,af] U bo bo<|zM U (zN U (zF U (oI _ _) (zL U (s.ld 2 U b8 U) (zL U (s.ld 0 U b8 U) (ah.ot U U U U (ag U U dc) Q<|ah.nil ⟨(dq 7),zK 2 U (WP.block (zK 4 U (zc U (Ni (i:=0) (dn:=0) (cell:=cell) (n:=n) (k:=k) hT hI oW YI (.inl ⟨U,si⟩) (s.ae [1,1,1])) ?_)))⟩))))))));rintro v h ⟨rfl,⟨_,s⟩|⟨e,_⟩⟩
  rotate_left
  .cases e
  exact za U (zv (zg U (zm U (zh U (ag U U aE) U (zv (zj U (WP.skip<|ih I cx B ε _ _ _ a8 hp hI hB ox hM J Y (s.ae [3]) ⟨U,U,U,aa⟩ hq)))))))
theorem Nj (hT:WT told)(I:1<=ba)(hN:N<=1024)(fV:id<2097152){cx:Nat}{dn l:List (Nat×Nat)}(hd:Dn ba rs f t jT l y)(hp:iO N n k cell (pgA ε))(hI:TxI N B M ba ck mk rs ε)(hB:B+2*l.length<=900)
 (ox:ba+szB rs+560*l.length<=1000000)(hM:szB rs+560*l.length<=M)(Bo:cx<=ba+szB rs)(RZ:jT<=cx)(yw:dn.length<=1000)(Ez:mg t nd (dn.map (·.1)))
 (s:Sat h (pt m (.cells 4 [.ptr a 0,ju c,av,.int .u64 (nx:Int)] false)::pt rr (.cells 7 (l7 id f cx jT mv dv xK) false)::SA a p q r .aW data aF ε::eC 2 dv (lZ dn)::S)):
  Call ⟨prog,told⟩ 73 [.ptr m 0,.ptr rr 0,.int .u64 (t:Int)] h λv h'=>v=.int .i64 0/\∃c8 aj fF J,iO N n k (offC cell l) (pgA aj)/\szB c8<=560*l.length/\TxI N (B+2*l.length) M ba ck mk (rs++c8) aj /\
   (l=[]/\c8=[]/\fF=cx\/l≠[]/\ba+szB rs<=fF/\fF<ba+szB (rs++c8)/\Dn ba (rs++c8) f t fF [] y) /\
   Sat h' (pt m (.cells 4 [.ptr a 0,ju c,av,.int .u64 (nx:Int)] false)::pt rr (.cells 7 (l7 id f fF y mv J xK) false)::SA a p q r .aW data aF aj::eC 2 J (lZ (dn.take nd))::S):=by
 have hW:=hT.wr.w;have e0:rs++[]=rs:=fZ rs;refine Call.of_wp (hW.free _ U) func73 U U (zg U (aq.bG s U U U (c7 U U) λb h s=>zk 3 U (WP.block (RY hT I hN fV hd [] cx B ε cell _ _ _ hp (by rw[e0];exact hI) hB Q Q Q Y s ⟨U,U,U,aa⟩ λE' h' c8 aj fF g1 g2 g3 g4 fg s'=>?_))));rw[e0] at g3 g4;have s:=s';refine WP.has fg (zK 5 U (zY s 2 ug Gw U (zo U (uK U U) ?_)));have s:=s.ae [4,0];refine zc U (abX hW yw Ez s) ?_;rintro v h s;obtain⟨GQ,yq,_⟩:=s.gV (j:=0) U;refine zn U (zf U (ug _ _) (zS U (s.cS (k:=3) U Zv U (show 0+5<7 by decide) GQ yq) ?_));refine λh s=>zk 5 U (zR U ?_);have s:=s.ae [2,2,2,0];exact⟨U,c8,aj,fF,v,g1,g2,g3,g4,s.del 4⟩
end
section
variable {told:bU} {p m:Nat} {cell:List Nat}
theorem YJ (hT:WT told)(I:1<=ba)(hN:N<=1024)(fV:id<2097152)(hx:L[i]?=some (id,rr,A))(Mw:t∈A.j9)(hd:Dn ba rs A.fst t A.jT l y)(hp:iO N n k cell (pgA ε))(hI:TxI N B M ba ck mk rs ε)(hB:B+2*l.length<=900)
 (ox:ba+szB rs+560*l.length<=1000000)(hM:szB rs+560*l.length<=M)(J:A.cx<=ba+szB rs)(RZ:A.jT<=A.cx)(yw:A.dn.length<=1000)(EM:A.j9.length<=1000)(Ez:mg t nd (A.dn.map (·.1)))(qC:mg t nm A.j9)
 (s:Sat h (eL m a nx (ju c) L::SA a p q r .aW data aF ε::S)):
  Call ⟨prog,told⟩ 47 [.ptr m 0,.int .u64 (id:Int),.int .u64 (t:Int)] h λv h'=>v=.int .i64 0/\∃c8 aj fF,iO N n k (offC cell l) (pgA aj)/\szB c8<=560*l.length/\TxI N (B+2*l.length) M ba ck mk (rs++c8) aj /\
   (l=[]/\c8=[]/\fF=A.cx\/l≠[]/\ba+szB rs<=fF/\fF<ba+szB (rs++c8)/\Dn ba (rs++c8) A.fst t fF [] y) /\
   Sat h' (eL m a nx (ju c) (L.set i (id,rr,⟨A.fst,fF,y,A.j9.take nm,A.dn.take nd,A.pg⟩))::SA a p q r .aW data aF aj::S):=by
 have hW:=hT.wr.w;obtain⟨av,s⟩:=cD.1 s;refine Call.of_wp (hW.free _ U) func47 U U (zg U (aq.bG s U U U (c7 U U) λb h s=>?_));dsimp only[Nat.reduceAdd,V.cells,List.length_cons,List.length_nil] at s;obtain⟨ir,mh⟩:=sr hx (s.ae [2]);refine zk 6 U (zY s 1 iw kA U (zm U (zo U (e_ U U ir) (zk 3 U (WP.block (zK 3 U (zC U (tq ow) U ?_)))))));have s:=(iJ hx).1 (s.ae [3]);dsimp only[aB,bringA] at s;obtain⟨mv,dv,pv,s⟩:=iI.1 s;have Zc:=(s.gV (j:=1) U).2.2;have s0:=s;refine zk 4 U (WP.drawn [af,af,af,af,af,af,af,af] U bo bo<|zM U (zN U (zF U (wS _ _) (zL U (s.ld 0 U j5 U) (zL U (s.ld 5 U b8 U) (ah.any U U U U (OpR.call U U U U (YG hW EM Mw (s.ae [1]))) ?_))))));rintro v h' ⟨rfl,rfl⟩;refine zO U (cI U U) (zA U<|ah.nil ⟨(dq 9),zj U (WP.skip (zw (zg U (zk 2 U (zl U (by exact s.ld 5 U b8 U) ?_)))))⟩);have s:=s.ae [6,0,6,1];dsimp only[l7,bringA,getA,aB] at s;refine zc U (Nj hT I hN fV hd hp hI hB ox hM J RZ yw Ez s) ?_;rintro v h ⟨rfl,c8,aj,fF,dv',g1,g2,g3,g4,s⟩;refine za U (zv (zg U (zm U (zh U (ag U U aE) U (zv (zj U (WP.skip (zg U (zk 3 U (zf U (wS _ _) (zl U (by exact s.ld 1 U j5 U)<|zo U (uK U U) ?_)))))))))));have s:=s.ae [4,6];refine zc U (YF hW EM qC s) ?_;rintro v h s;obtain⟨GQ,yq,_⟩:=s.gV (j:=0) U;refine zn U (zf U (wS _ _) (zS U (s.cS (k:=3) U oR U (show 0+4<7 by decide) GQ yq) ?_));refine λh s=>zk 5 U (zR U ?_);have s:=s.ae [3,0,3,3,3,1,2,1];have s:=s.del 8;have s:=Nh (A':=⟨A.fst,fF,y,A.j9.take nm,A.dn.take nd,A.pg⟩) (av:=av) (mv:=v) (dv:=dv') (pv:=pv) hx s;exact⟨U,c8,aj,fF,g1,g2,g3,g4,s⟩
theorem Vn (hT:WT told)(J:1<=ba)(hI:TxI N B M ba ck mk rs ε)(hN:N<=1024)(fV:id<2097152)(hx:L[i]?=some (id,rr,A))(hc:Dn ba rs A.fst 0 A.jT l 0)(hp:iO N n k cell (pgA ε))(hB:B+2*l.length<=890)
 (ox:ba+szB rs+560*l.length<=1000000)(hM:szB rs+560*l.length+40<=M)(Bo:A.cx<=ba+szB rs)(RZ:A.jT<=A.cx)(yw:A.dn.length<=1000)(EX:∀d∈A.dn,0<d.1)
 (s:Sat h (eL m a nx (ju c) L::SA a p q r .aW data aF ε::S)):
  Call ⟨prog,told⟩ 28 [.ptr m 0,.int .u64 (id:Int)] h λv h'=>v=.int .i64 0/\∃c8 aj,iO N n k (offC cell l) (pgA aj)/\szB c8<=560*l.length+40/\TxI N (B+2*l.length+2) M ba ck mk (rs++c8) aj /\
   Sat h' (eL m a nx (ju c) (L.eraseIdx i)::SA a p q r .aW data aF aj::S):=by
 have hW:=hT.wr.w;obtain⟨av,s⟩:=cD.1 s;obtain⟨ir,mh⟩:=sr hx (s.ae [1]);refine Call.of_wp (hW.free _ U) func28 U U (zK 8 U (zY s 0 iw kA U (zm U (zo U (e_ U U ir) (zk 6 U (zC U (tq ow) U (zk 8 U ?_)))))));have s:=(iJ hx).1 (s.ae [2]);obtain⟨mv,dv,pv,s⟩:=iI.1 s;have s:=s.ae [5,0,5,1];have hM':szB rs+560*l.length<=M:=Y;have Ez:mg 0 0 (A.dn.map (·.1)):=⟨dz _,λd hd=>(by cases hd),λd hd=>by
  grind⟩
 refine zc U (Nj (t:=0) hT J hN fV hc hp hI Y ox hM' Bo RZ yw Ez s) ?_;rintro v h ⟨rfl,ke,yZ,I,dv1,CW,ahz,EW,r8,s⟩;have aja:szB (rs++ke)=szB rs+szB ke:=hG;have ir:I<=ba+szB (rs++ke):=by
  omega
 refine zk 5 U (zC U aE U (zk 7 U ?_));have s:=s.ae [0,0,5,0];refine zc U (PZ (kd:=4) hT Y EW Y hN fV (show I<2097152 by omega) Y O O s) ?_;rintro v h ⟨rfl,c8,aj,ig,eR,jR,s⟩;refine zk 2 U (zR U ⟨U,ke++c8,aj,CW.FH ig,by rw[hG];omega,Q,?_⟩);rw[JV hx mh] at s;have s:=s.ae [0,0,4];exact((cD.2 ⟨av,s⟩).del 4 |>.del 3 |>.del 2)
end
theorem Nk {n:Int}{x:α}: ∀ {l:List (Int×α)},(l.map (·.1)).Nodup->(n,x)∈l->lookL n l=some x:=by
 intro l;induction l<;>grind[lookL]
section
theorem FT.clean (h:vw FT ε)(he:EC N ε)(ha:(writeAllF (bj ε.1.aM) ε).2.2.2.dead=false)(hf:(writeAllF (bj ε.1.aM) ε).2.2.2.a_<0):
  (jK ε).2=({ (writeAllF (bj ε.1.aM) ε).2.1 with bI:=[] },((writeAllF (bj ε.1.aM) ε).2.2.1,(writeAllF (bj ε.1.aM) ε).2.2.2.sync)):=by
 have hk:=C7 ε;obtain⟨w1,w2,w3⟩:=CQ he hk;obtain⟨a1,a2⟩:=y_ (FT.A_ N) he hk h;have es:(writeAllF (bj ε.1.aM) ε).2.2.2.k8=(0,(writeAllF (bj ε.1.aM) ε).2.2.2.sync):=by grind[Dk.k8,lY]
 have I:∀n b,¬tA (writeAllF (bj ε.1.aM) ε).2.1 n b:=λn b J=>by
  obtain⟨q1,q2⟩:=a2 n b J;obtain⟨j,f,hf,k1,k0,k2,k3⟩:=q1;have ZX:=(he.back j f hf).resolve_left Y;rw[<-k1] at q2;refine q2 (jF.2 ?_);have:=ZX.here;exact j7 this |> HP (f:=(·.1))
 have hd:(writeAllF (bj ε.1.aM) ε).2.1.bI.filter (λe=>e.2.2)=[]:=by
  refine List.filter_eq_nil_iff.2 λe hm hb=>?_;obtain⟨n,rec,fl⟩:=e;have Jj:fl=true:=hb;subst Jj;have hl:=Nk w2.ES hm;obtain⟨b,J⟩:=a1 n rec hl;exact I n b J
 rw[jK,ax (by rw[he.dk.alive];decide),ax Y,gE,es,ax cb,hd]
end
theorem ab_ : ∀ {l:List dw} {a s:Nat},s∈jH a l->∃c1 r c2,l=c1++r::c2/\s=a+szB c1:=by
 intro l;induction l<;>grind[jH,szB]
theorem acd {μ:Lg}(I:μ.base=ba)(hs:μ.br=jH 0 (c1++c2)): yV μ (ba+szB c1)=jH 0 c2:=by
 have h1:(jH 0 c1).filter (λs=>decide (ba+szB c1<=ba+s))=[]:=List.filter_eq_nil_iff.2 λs hs=>by
  grind[JU]
 have h2:(jH (0+szB c1) c2).filter (λs=>decide (ba+szB c1<=ba+s))=jH (0+szB c1) c2:=List.filter_eq_self.2 λs hs=>by
  grind[JU]
 have J:∀(l:List dw) (a b:Nat),(jH (a+b) l).map (λs=>s-b)=jH a l:=by
  intro l;induction l with
  |nil=>intro a b;rfl
  |cons r l ih =>
   intro a b;simp only[jH,ko];rw[show a+b+r.len=(a+r.len)+b by omega,ih];congr 1;omega
 rw[yV,hs,I,Bg,List.filter_append,h1,h2,iQ,show ba+szB c1-ba=szB c1 by omega];exact J c2 0 (szB c1)
theorem TxI.afM {ahA nG lo:Nat}{uP:List Nat}{e:Int}(h:TxI N B M ba ck mk rs ε)(hB:B<=1000)(ox:1<=ba)(yw:data.length<=64)(fJ:szB rs+128<=M)
 (hr:Px ε lo data cO ahA e aj uP nG): e=0/\(∀m,pgA aj m=pgA ε m)/\∃(rA c8:List dw) (rc:dw) (HB:Nat) (mk':List Nat),rc.len<=128/\rs++[rc]=rA++c8/\(rA=[]\/(lo≠0->ba+szB rA<=lo))/\TxI N (B+1) M (ba+szB rA) HB mk' c8 aj:=by
 have kQ:=h.ei;obtain⟨i1,i2,i3⟩:=kQ.agS hB hr;have eR:=kQ.el.size;have Jd:=h.rm;have hfc:=kQ.ok.ok.lg.forced;cases hr with
 |big hb=>omega
 |dead _ hd=>omega
 |go e y uP nG _ hd hc =>
  have hlen:(logB ba rs).length=szB rs:=l9;have yy:ε.2.1.b.length=szB rs:=by rw[h.lr.b,hlen]
  have TZ:ε.2.2.log.length=szB rs:=by rw[h.lr.log,hlen]
  have Kv:=h.lr.base;have A0:iC ε<=ba+szB rs:=by
   grind[IP,iC]
  have hw:=dI 8 (iC ε);have ajb:(le 8 (iC ε)++data).length<=72:=Q;have B1:(cV 8 0 0 0 (le 8 (iC ε)++data) []).length<=96:=by
   grind[IX,cV,List.length_append]
  have ha:(jG ε data).1.2=0/\jG ε data=((ba+szB rs,0),(ε.2.1.app (dZ ε.2.1 8 0 0 0 (le 8 (iC ε)++data) []),{ ε.2.2 with log:=ε.2.2.log++dZ ε.2.1 8 0 0 0 (le 8 (iC ε)++data) [] })):=by
   rcases jh ε.2 8 0 0 0 (le 8 (iC ε)++data) [] with⟨e,he,sH,hq⟩|⟨_,hf,hq⟩|⟨_,hb,Ja,hft,hf,hq⟩
   .rcases sH with⟨_,hb⟩|⟨_,hb⟩|⟨_,hb⟩|⟨_,hb⟩
    .exact absurd hb O
    .omega
    .grind
    .grind[dZ,lV]
   .have:=kQ.ec.dk.a_;omega
   .rw[lY kQ.ec.dk.a_,Kv,yy] at hq;exact⟨by rw[jG,hq],hq⟩
  obtain⟨ha0,Ma⟩:=ha;obtain⟨_,rok,J⟩:=h.lr.aed (kd:=8) (tx:=0) (pv:=0) (nx:=0) (data:=le 8 (iC ε)++data) (c:=[]) O O O O O ha0;generalize ZL:(⟨8,0,0,0,le 8 (iC ε)++data,[]⟩:dw)=rc at rok J;have GV:rc.len<=104:=by rw[<-ZL];exact wq B1 8
  have J:LR ba ck mk (rs++[rc]) (jG ε data).2:=J;have hl8:=qW rc;have gC:szB (rs++[rc])=szB rs+rc.len:=by rw[hG];simp[szB]
  have n1:(jG ε data).1.1=ba+szB rs:=by rw[Ma]
  have ahB:(jG ε data).2.1.forced=ε.2.1.forced:=by rw[Ma];rfl
  have hF:lX (jG ε data)=(0,({ (jG ε data).2.1 with forced:=(jG ε data).2.1.b.length },{ (jG ε data).2.2 with bP:=(jG ε data).2.2.log.length })):=by
   have e:(jG ε data).2.2.gR=(0,{ (jG ε data).2.2 with bP:=(jG ε data).2.2.log.length }):=by
    rw[Dk.gR,ax Q,ax (by have:=J.a_;omega),lY J.a_]
   rw[lX,n1,bL,ax (by rw[J.base,ahB];omega),e,ax cb]
  have I:LR ba ck mk (rs++[rc]) (lX (jG ε data)).2:=(wV ba ck mk (rs++[rc])).force _ _ J;have ZX:(lX (jG ε data)).2.1.forced=szB rs+rc.len:=by rw[hF];rw[J.b,l9,gC]
  have afN:(lX (jG ε data)).2.2.bP=szB rs+rc.len:=by rw[hF];rw[J.log,l9,gC]
  have L8:(lX (jG ε data)).2.2.room=M:=Q;have hF0:(lX (jG ε data)).1=0:=by rw[hF]
  have hF1:lX (jG ε data)=(0,(lX (jG ε data)).2):=Q;generalize (lX (jG ε data)).2=x' at hF1 I ZX afN L8;have qy:=I.base;have XL:∀c n,({ x'.1 with check:=c }:Lg).hasB n=true↔∃s∈jH 0 (rs++[rc]),ba+s=n:=λc n=>by
   rw[Lg.hasB,<-I.br];rw[qy,Du];simp
  have aim:∃s∈jH 0 (rs++[rc]),ba+s=ba+szB rs:=⟨szB rs,by rw[Bg];simp[jH],U⟩;have hm:x'.2.s_ (fC ba (ba+szB rs))=(0,{ x'.2 with mark:=fC ba (ba+szB rs) }):=by
   rw[Dk.s_,ax Q,ax (by rw[r_];decide),ax (by have:=I.a_;omega),lY I.a_]
  have hC:ji (jG ε data)=(0,({ x'.1 with check:=ba+szB rs },{ x'.2 with mark:=fC ba (ba+szB rs) })):=by
   grind[ji,jC]
  have ain:x'.1.b.length=szB rs+rc.len:=Q;cases hc with
  |app he=>omega
  |force _ he=>omega
  |check _ _ he=>grind
  |iF _ _ _ hx =>
   refine⟨U,i2,[],rs++[rc],rc,ba+szB rs,fC ba (ba+szB rs),Y,U,.inl U,i1,?_,?_,λn rec hn=>h.ft n rec hn⟩
   .rw[hC];exact⟨qy,I.b,I.br,U,I.log,I.alive,I.a_,U,I.sY,I.tail,I.wait,I.rs⟩
   .grind
  |cut t _ _ _ ht aek hx =>
   rw[hC] at ht aek;have yJ:vl ε lo<=iC ε/\(lo≠0->vl ε lo<=lo):=by unfold vl;split<;>omega
   have LU:∃s∈jH 0 (rs++[rc]),ba+s=t/\ba+s<=vl ε lo:=by
    grind
   obtain⟨s,hs,rfl,kI⟩:=LU;obtain⟨c1,rr,c2',GB,rfl⟩:=ab_ hs;rw[f_] at *;generalize sH:rr::c2'=c2 at GB;have ajc:szB (c1++c2)=szB c1+szB c2:=hG;have ajd:(logB ba c1).length=szB c1:=l9;have oY:(logB ba (c1++c2)).drop (szB c1)=logB (ba+szB c1) c2:=by grind[FK]
   have hhc:=(XL (ba+szB rs) (ba+szB c1)).2 ⟨szB c1,hs,U⟩;rw[GB] at I gC;have ael:iB (ji (jG ε data)).2 (ba+szB c1)=(0,(({ x'.1 with check:=ba+szB rs }:Lg).cut (ba+szB c1),{ x'.2 with log:=x'.2.log.drop (szB c1),bP:=x'.2.bP-szB c1,mark:=fC (ba+szB c1) (ba+szB rs) })):=by
    have e1:({ x'.2 with mark:=fC ba (ba+szB rs) }:Dk).pN ((ba+szB c1-x'.1.base:Nat):Int) (fC (ba+szB c1) (ba+szB rs))=(0,{ x'.2 with log:=x'.2.log.drop (szB c1),bP:=x'.2.bP-szB c1,mark:=fC (ba+szB c1) (ba+szB rs) }):=by
     have hz:((ba+szB c1-x'.1.base:Nat):Int)=((szB c1:Nat):Int):=Y;have ER:({ x'.2 with mark:=fC ba (ba+szB rs) }:Dk).bZ={ x'.2 with mark:=fC ba (ba+szB rs) }:=lY I.a_;rw[hz,Dk.pN,ax Q,ax (not_not_intro ⟨Y,Q,by rw[r_];decide⟩),ax (by show ¬x'.2.a_=0;have:=I.a_;omega),ER,cN]
    grind[iB]
   have ahC:LR (ba+szB c1) (ba+szB rs) (fC (ba+szB c1) (ba+szB rs)) c2 (iB (ji (jG ε data)).2 (ba+szB c1)).2:=by
    rw[ael];refine⟨U,?_,acd qy I.br,U,?_,I.alive,I.a_,U,I.sY,I.tail,I.wait,λr hr=>I.rs r (List.mem_append_right _ hr)⟩
    .show x'.1.b.drop (ba+szB c1-x'.1.base)=_;rw[I.b,qy,Nat.add_sub_cancel_left,oY]
    .rw[I.log,oY]
   refine⟨Q,i2,c1,c2,rc,ba+szB rs,fC (ba+szB c1) (ba+szB rs),Y,GB,.inr λq=>b7 kI (yJ.2 q),i1,ahC,?_,λn rec hn=>h.ft n rec hn⟩;show(iB (ji (jG ε data)).2 (ba+szB c1)).2.2.room=M;rw[ael];exact L8
theorem WPO.less {C:eP}{au:Nat}{a:Code}{σ:H}(hw:WPO C au a E σ a8)(I:σ.next=h.next)(hs:∀id o,T.get σ.tr id=some o->T.get h.tr id=some o): WPO C au a E h a8 :=
 λc A w env J hr he=>hw c A w env J (hr.Zl I hs) he
noncomputable def fstR (h:H)(u:V): Nat:=match u with
 |.ptr r 0=>match T.get h.tr r with
  |some (.cells 7 (_::.int _ f::_) false)=>f.toNat
  |_=>0
 |_=>0
def pT (f:Int×V×Nat->Nat)(es:cg)(p:Int×V×Nat->Prop)(k:Nat): Prop:=(k=0/\∀e∈es,p e->f e=0)\/(k≠0/\(∃e∈es,p e/\f e=k)/\∀e∈es,p e->f e≠0->k<=f e)
theorem pT.uniq {f:Int×V×Nat->Nat}{p:Int×V×Nat->Prop}(h:pT f es p k)(h':pT f es p k'): k=k':=by
 rcases h with⟨h1,h2⟩|⟨h1,⟨e,h2,h3,h4⟩,h5⟩<;>rcases h' with⟨I,J⟩|⟨I,⟨e',J,g3,g4⟩,g5⟩
 .omega
 .grind
 .grind
 .grind
theorem pT.step {f:Int×V×Nat->Nat}{p p':Int×V×Nat->Prop}{e:Int×V×Nat}(h:pT f es p k)(he:e∈es)(hp:∀x∈es,p' x↔p x\/x=e): pT f es p' (if f e≠0/\(k=0\/f e<k) then f e else k):=by
 have pe:=(hp e he).2 (.inr U);rcases h with⟨h1,h2⟩|⟨h1,⟨e',h2,h3,h4⟩,h5⟩
 .subst h1;by_cases J:f e=0
  .rw[ax Y];exact .inl ⟨U,λx hx I=>Q⟩
  .rw[bk ⟨J,.inl U⟩];exact .inr ⟨J,⟨e,he,pe,U⟩,λx hx I ZW=>Q⟩
 .by_cases J:f e≠0/\f e<k
  .rw[bk ⟨J.1,.inr J.2⟩];exact .inr ⟨J.1,⟨e,he,pe,U⟩,λx hx I ZW=>Q⟩
  .rw[ax Y];exact .inr ⟨h1,⟨e',h2,(hp e' h2).2 (.inl h3),h4⟩,λx hx I ZW=>Q⟩
theorem Vo : ∀ {l:cg} {b:Nat},eU c b l->∀e∈l,∀I∈l,e.2.2=I.2.2->e=I:=by
 intro l;induction l with
 |nil=>simp
 |cons y l ih =>
  intro b h e he I Ag hq;rcases List.mem_cons.1 he with q1|q1<;>rcases List.mem_cons.1 Ag with J|J
  .grind
  .have:=jO h.2.2 I J;rw[<-q1] at this;omega
  .have:=jO h.2.2 e q1;rw[<-J] at this;omega
  .exact ih h.2.2 e q1 I J hq
theorem Vp {f:Int×V×Nat->Nat}: ∀(l:cg),(∀e∈l,e∈es)->∃k,pT f es (λe=>e∈l) k:=by
 intro l;induction l with
 |nil=>exact λ_=>⟨0,.inl ⟨U,λe _ h=>(by cases h)⟩⟩
 |cons y l I =>
  intro h;obtain⟨k,J⟩:=I λe he=>h e (ki _ he);exact⟨_,J.step (h y iu) λx _=>Q⟩
theorem R1 {f:Int×V×Nat->Nat}: ∃k,pT f es (λ_=>True) k:=by
 obtain⟨k,I⟩:=Vp (f:=f) es λ_ h=>h;refine⟨k,?_⟩;rcases I with⟨k1,k2⟩|⟨k1,⟨e,k2,k3,J⟩,k5⟩
 .exact .inl ⟨k1,λe he _=>k2 e he he⟩
 .exact .inr ⟨k1,⟨e,k2,aa,J⟩,λe he _=>k5 e he he⟩
theorem eY.call {C:eP}{f:FuncId}{h2:H}{w:V}(hd:eY C f args h w h2): Call C f args h λv h'=>v=w/\h'=h2:=⟨w,h2,hd,U,U⟩
def uC (args:List V)(h:H)(r:V×H): Prop:=∃m a u nx mid es clock iF w h2,args=[.ptr m 0]/\T.get h.tr m=some (.cells 4 [.ptr a 0,u,.map mid,.int .u64 ((nx:Nat):Int)] false)/\T.get h.tr mid=some (.map (es.map (g9 .u64)) clock) /\
 pT (λe=>fstR h e.2.1) es (λ_=>True) iF/\eY CB 71 [.aP,.int .i64 8,.int .u64 (nx:Int)] ⟨h.next+1,h.tr⟩ w h2/\eY CB 53 [.ptr a 0,.int .u64 (iF:Int),w] h2 r.1 r.2
structure WC (told:bU): Prop where
 w:W told
 ch:told 77=some (iE prog 77 uC)
section
variable {p m:Nat}
theorem ace (s:Sat h (rG r id A::S)): fstR h (.ptr r 0)=A.fst:=by
 obtain⟨mv,dv,pv,s⟩:=iI.1 s;simp only[fstR,s.row (k:=0) U,l7,cN]
noncomputable def chA : Code:=aV [0] ((f77.body).getD .skip)
noncomputable def chB : Code:=aV [1,0] ((f77.body).getD .skip)
noncomputable def chC : Code:=aV [1,1,0,0] ((f77.body).getD .skip)
noncomputable def EZ : Code:=aV [1,1,0,1,0,0,0] ((f77.body).getD .skip)
noncomputable def chD : Code:=aV [1,1,0,1,0,0,1,1,0] ((f77.body).getD .skip)
noncomputable def chE : Code:=aV [1,1,1] ((f77.body).getD .skip)
theorem YK : f77.body=some (.seq chA (.seq chB (.seq (.seq chC (.block 0 (.loop (.seq EZ (.seq (.cond (.tmp 12) .skip (.exit 0)) (.block 1 chD)))))) chE))):=rfl
theorem acf : ∃id I J,EZ=.region id #[I,J] false/\I.guard=none/\J.guard=none/\I.op=.next (.tmp 10) false/\I.dst=some 11/\J.op=.extract (.tmp 11) 0/\J.dst=some 12:=⟨_,_,_,U,U,U,U,U,U,U⟩
def chJ (h₀:H)(m it mid clock:Nat)(es:cg)(L:lp)(S:List aH)(j:Nat)(E:List (Nat×V))(h:H): Prop :=
 ∃seen k,Has E [(0,.ptr m 0),(3,.int .u64 ((k:Nat):Int)),(10,.ptr it 0)]/\j=(leftV seen (es.map (g9 .u64))).length/\pT (λe=>fstR h₀ e.2.1) es (λe=>inL seen e.2.2=true) k/\Grow h₀ h 1 /\
  Sat h (pt it (.iter mid clock clock seen)::iH .u64 mid es clock::mc L::S)
theorem R3 {h₀:H}(Cy:h₀.next<=it)(hb:eU clock 0 es)
 (he:∀e∈es,∃(i:Nat) (x:Nat×Nat×mo),L[i]?=some x/\e.2.1=.ptr x.2.1 0/\fstR h₀ e.2.1=x.2.2.fst)(h0:chJ h₀ m it mid clock es L S j E h):
  WPO CB f77.ntmps (.loop (.seq EZ (.seq (.cond (.tmp 12) .skip (.exit 0)) (.block 1 chD)))) E h λex E' h'=>ex=.exit 0/\∃k,Has E' [(0,.ptr m 0),(3,.int .u64 ((k:Nat):Int))]/\pT (λe=>fstR h₀ e.2.1) es (λ_=>True) k/\Grow h₀ h' 1:=by
 refine WPO.loop (chJ h₀ m it mid clock es L S) ?_ h0;rintro j E h ⟨seen,k,hE,rfl,hk,hg,s⟩;have g1:=s.row (k:=0) U;have g2:=s.row (k:=1) U;obtain⟨id,HY,Fc,q0,q1,q2,q3,q4,q5,q6⟩:=acf;refine WPO.seq ?_;rw[q0];have hL:=next_at g1 (az _) g2 hb;refine WPO.next cm bM q1 q2 q3 q4 q5 U q6 U U (r:=it) ?_ hL λq hq=>?_
 .exact hE.2.2.1
 .rcases xE g1 (az _) g2 hb hL q hq with⟨rfl,I⟩|⟨e,Jb,EO,bY,rfl⟩
  .refine⟨.bool false,[],U,WPO.seq (WPO.cond (t:=false) U<|WPO.of cm bM (WP.exit ⟨U,k,⟨hE.1,hE.2.1,aa⟩,?_,hg⟩))⟩;rcases hk with⟨k1,k2⟩|⟨k1,⟨e,k2,k3,k4⟩,k5⟩
   .exact .inl ⟨k1,λe he _=>k2 e he (I e he)⟩
   .exact .inr ⟨k1,⟨e,k2,aa,k4⟩,λe he _=>k5 e he (I e he)⟩
  .obtain⟨i,x,hx,hex,hfx⟩:=he e Jb;have JZ:=hk.step (e:=e) (p':=λe'=>inL (seen++[e.2.2]) e'.2.2=true) Jb λy hy=>by
    grind[iV,Vo,beq_iff]
   rw[hfx] at JZ;refine⟨.bool true,_,U,WPO.seq (WPO.cond (t:=true) U<|WPO.of cm bM (WP.skip<|WPO.block (WPO.of cm bM ?_)))⟩;have s:=s.put (o':=.iter mid clock clock (seen++[e.2.2])) (k:=0) U;have hg:Grow h₀ (h.put it (some (.iter mid clock clock (seen++[e.2.2])))) 1:=⟨hg.next,λi hi=>by rw[cX,ax Y];exact hg.get i hi⟩
   generalize h.put it (some (.iter mid clock clock (seen++[e.2.2])))=h' at s hg;dsimp only[setA] at s;have g1:=s.row (k:=0) U;have g2:=s.row (k:=1) U;have J:=xD g1 g2 hb Jb;rw[hex] at J;have s:=(iJ hx).1 (s.ae [2]);dsimp only[bringA,getA,aB] at s;obtain⟨mv,dv,pv,s⟩:=iI.1 s;have fin:∀ {E':List (Nat×V)} {k':Nat},Has E' [(0,.ptr m 0),(3,.int .u64 (k':Int)),(10,.ptr it 0)]->k'=(if x.2.2.fst≠0/\(k=0\/x.2.2.fst<k) then x.2.2.fst else k)->∃i,i<(leftV seen (es.map (g9 .u64))).length/\chJ h₀ m it mid clock es L S i E' h':=λ{E' k'} fg hkk=>by
    subst hkk;have s:=(iJ hx).2 (iI.2 ⟨mv,dv,pv,s⟩);exact⟨_,bY,seen++[e.2.2],_,fg,U,JZ,hg,(s.ae [1,1])⟩
   refine WP.has (F:=[(0,.ptr m 0),(3,.int .u64 ((k:Nat):Int)),(10,.ptr it 0),(12,.bool true)]) ⟨hE.1,hE.2.1,hE.2.2.1,U,aa⟩ (zg U (aq.any U U U (OpR.entry U U J) ?_));rintro v h ⟨rfl,rfl⟩;refine zk 7 U (zY s 0 wR b8 U ?_);by_cases Vk:x.2.2.fst=0
   .skip;exact zC U aE Q<|zk 12 U (zv (zj U (WP.skip<|fin ⟨U,U,U,aa⟩ Q)))
   .skip;refine zB U aE Q<|zk 2 U ?_;by_cases hk0:k=0
    .skip;exact zB U bH Q<|zk 9 U (zv (zi U (zr U (zk 2 U (zf U (wR _ _) (zl U (by exact s.ld 0 U b8 U)<|za U (zv<|fin ⟨U,U,U,aa⟩ Q)))))))
    .skip;refine zC U bH Q<|zk 3 U (zY s 0 wR b8 U (zm U ?_));by_cases aek:x.2.2.fst<k
     .skip;exact zB U aG Q<|zk 2 U (zv (zi U (zr U (zk 2 U (zf U (wR _ _) (zl U (by exact s.ld 0 U b8 U)<|za U (zv<|fin ⟨U,U,U,aa⟩ Q)))))))
     .skip;exact zC U aG Q<|zk 2 U (zv (zj U (WP.skip<|fin ⟨U,U,U,aa⟩ Q)))
theorem acg : ∀ {l l':cg},l.map (g9 .u64)=l'.map (g9 .u64)->l=l':=by
 intro l;induction l with
 |nil=>simp
 |cons y l I =>
  intro l' h;cases l'<;>grind[g9]
theorem Kq {r r':V×H}(x:uC args h r)(y:uC args h r'): r=r':=by
 obtain⟨m,a,u,nx,mid,es,clock,iF,w,h2,a1,a2,a3,a4,a5,a6⟩:=x;obtain⟨m',a',u',nx',Xr,es',aee,aio,w',OX,b1,b2,b3,b4,b5,b6⟩:=y;have J:=a1.symm.trans b1;injection J with J _;injection J with J _;subst J;have I:=fY (a2.symm.trans b2);injection I with _ I _;injection I with e3 I;injection I with _ I;injection I with e4 I;injection I with e5 _;injection e3 with e3 _;injection e4 with e4;injection e5 with _ e5;have e5:=Int.ofNat.inj e5;subst e3 e4 e5;have e6:=fY (a3.symm.trans b3);injection e6 with e6 _;have e6:=acg e6;subst e6;obtain rfl:=a4.uniq b4;obtain⟨rfl,rfl⟩:=a5.ZM b5;obtain⟨h1,h2⟩:=a6.ZM b6;exact Prod.ext h1 h2
theorem Vq {X:List aH}: ∀ {L:lp} {es:cg} {a b:PM},(fQ (λv (r:Nat)=>.pu (v=.ptr r 0)) es (L.map λe=>((e.1:Int),e.2.1))).p a b->(∀(i:Nat) (x:Nat×Nat×mo),L[i]?=some x->fstR h (.ptr x.2.1 0)=x.2.2.fst) ->
  (∀e∈es,∃(i:Nat) (x:Nat×Nat×mo),L[i]?=some x/\e.2.1=.ptr x.2.1 0/\fstR h e.2.1=x.2.2.fst)/\∀x∈L,∃e∈es,fstR h e.2.1=x.2.2.fst:=by
 intro L;induction L with
 |nil=>intro es a b q _;cases es with
  |nil=>exact⟨λe he=>(by cases he),λx I=>(by cases I)⟩
  |cons e es=>exact q.elim
 |cons y L ih =>
  intro es a b q hc;cases es with
  |nil=>exact q.elim
  |cons e es =>
   obtain⟨⟨_,J⟩,q3⟩:=q;have J:e.2.1=.ptr y.2.1 0:=J;obtain⟨k3,k4⟩:=ih q3 λi x I=>hc (i+1) x (by simpa using I);have h0:=hc 0 y U;refine⟨λe' Ag=>?_,λx I=>?_⟩
   .rcases List.mem_cons.1 Ag with q|q
    .subst q;exact⟨0,y,U,J,by rw[J];exact h0⟩
    .obtain⟨i,x,g1,g2⟩:=k3 e' q;exact⟨i+1,x,by simpa using g1,g2⟩
   .rcases List.mem_cons.1 I with q|q
    .subst q;exact⟨e,iu,by rw[J];exact h0⟩
    .obtain⟨e',g1,g2⟩:=k4 x q;exact⟨e',ki _ g1,g2⟩
theorem R4 {told:bU}(hT:WC told)(hB:B<=900)(hI:TxI N B M ba ck mk rs ε)(oW:1<=ba)(fJ:szB rs+128<=M)(bY:∀x∈L,x.2.2.fst<18446744073709551616)(s:Sat h (eL m a nx u L::SA a p q r .aW data aF ε::S)):
  Call ⟨prog,told⟩ 77 [.ptr m 0] h λv h'=>v=.int .i64 0/\∃aj I nG rA c8 rc HB mk',(∀m,pgA aj m=pgA ε m)/\(dw.len rc)<=128/\rs++[rc]=rA++c8/\(rA=[]\/∀x∈L,x.2.2.fst≠0->ba+szB rA<=x.2.2.fst) /\
   TxI N (B+1) M (ba+szB rA) HB mk' c8 aj/\Sat h' (eL m a nx u L::SA a p q r .aW I nG aj::S):=by
 have J:=hI.ei;have hNm:=J.many;have eR:=J.el.size;have aje:=J.bI;obtain⟨av,s⟩:=cD.1 s;obtain⟨mid,es,clock,rfl,hb,mh,s⟩:=fW.1 (s.ae [1]);dsimp only[bringA,getA,aB] at s;have gm:=s.row (k:=0) U;have gp:=s.row (k:=2) U;obtain⟨qa,qb,q1,q2,q3⟩:=s.at (k:=1) U;obtain⟨w3,w4⟩:=Vq (X:=S) (h:=h) q3 λi x hx=>ace ((iJ hx).1 (s.ae [3]));obtain⟨iF,hk⟩:=R1 (f:=λe=>fstR h e.2.1) (es:=es);have ahD:iF<18446744073709551616:=by
  rcases hk with⟨k1,_⟩|⟨_,⟨e,k2,_,k4⟩,_⟩<;>grind
 have sσ:Sat ⟨h.next+1,h.tr⟩ _:=s.later (z7 _)
 obtain⟨w,h2,hd1,s2⟩:=qS (z:=8) (n:=nx) W.base sσ.pK O cb;rw[iQ] at s2;have Vr:=aX.1 (s2.ae [5]);dsimp only[bringA,getA,aB] at Vr;have Vr:Sat h2 (dJ a p q r .aW data aF::dx r p q ε.1::bD q p ε.2.1::aS p ε.2.2::_):=Vr;obtain⟨v,h3,hd2,e,aj,I,nG,hr,rfl,s3⟩:=abp (lo:=iF) W.base Vr (bh _ _) J.ok.ok ahD Y (λn hn=>wf_i64 (J.ec.xI n hn).1 (by have:=(J.ec.xI n hn).2;omega)) J.el.log Y;obtain⟨rfl,ig,rA,c8,rc,HB,mk',g1,g2,g3,g4⟩:=hI.afM Y oW (by rw[dI];decide) fJ hr;have IF:uC [.ptr m 0] h (.int .i64 0,h3):=⟨m,a,u,nx,mid,es,clock,iF,w,h2,U,gp,gm,hk,hd1,hd2⟩;obtain⟨r',e1,e2⟩:=mP (P:=prog) (f:=77) (kP:=uC) IF λc w' q_ ha=>by
  refine gd.of_wpo (C:=CB) (args:=[.ptr m 0]) M8 YK (show 1<=f77.ntmps by decide) ?_ q_ ha;refine WPO.seq (WPO.of cm bM<|zr U (za U (zv<|WPO.seq (WPO.of cm bM<|zr U (za U (zv<|WPO.seq (WPO.seq (WPO.of cm bM ?_))))))));refine zK 3 U (zY s 2 iw kA U (aq.any U U U (OpR.range U U (show rangeV prog h 142 (.map mid)=some (.ptr h.next 0,h.new (.iter mid clock clock [])) by simp only[rangeV,tC,gm])) ?_))
  rintro v h' ⟨rfl,rfl⟩;refine zv ?_;have s7:=(s.new (.iter mid clock clock [])).ae [0,0,2];refine WPO.block ((R3 (m:=m) (h₀:=h) (es:=es) (L:=L) (az _) hb w3 ⟨[],0,⟨U,U,U,aa⟩,U,.inl ⟨U,λe _ q=>(by cases q)⟩,⟨U,λi hi=>by grind[fu]⟩,s7⟩).mono ?_);rintro ex E' h' ⟨rfl,k',fg,JZ,hg⟩;obtain rfl:=hk.uniq JZ;refine WPO.less (σ:=⟨h.next+1,h.tr⟩) ?_ hg.next.symm (λid o ho=>by rw[hg.get id (s.wf id o ho)];exact ho)
  refine WPO.of cm bM ?_;have s:=sσ;refine WP.has fg (zw ?_);have s0:=s;refine WP.drawn [some (0,2),some (0,2),some (0,2),some (0,2),some (0,2),af,af,af,af,af,af,af] U bo bo<|zM U (zN U (zF U (nA _ _) (zL U (s.ld 2 U nr U) (zM U (zM U (zN U (zF U (DV _ _) (zL U (s.ld 2 U b8 U) (ah.any U U U U (OpR.call U U U U (hd1.call)) ?_)))))))));rintro _ _ ⟨rfl,rfl⟩;have s:=Vr;have s1:=s;refine ah.any U U U U (OpR.call U U U U (hd2.call)) ?_;rintro _ _ ⟨rfl,rfl⟩;exact zA U<|ah.nil ⟨⟨λ_ _=>.inr ⟨U,⟨_,aD U⟩,aA _ U⟩,λ_ _=>.inr ⟨U,⟨_,jq U⟩,aA _ U⟩,λ_ _=>.inr ⟨U,⟨_,gy U (nA _ _)⟩,aA _ U⟩,cY (.inr ⟨U,⟨_,o_load U (s0.ld 2 U nr U)⟩,aA _ U⟩) (.inr ⟨U,⟨_,o_load U (s1.ld 7 U nr U)⟩,aA _ U⟩),λ_ _=>.inr ⟨U,⟨_,aD U⟩,aA _ U⟩,dq 8⟩,WP.ret ⟨aa,jk U,U,λid o ho=>ho⟩⟩
 obtain rfl:=Kq IF e2;refine⟨_,_,eY.told hT.ch M8 U e1,U,aj,I,nG,rA,c8,rc,HB,mk',ig,g1,g2,?_,g4,?_⟩
 .refine g3.imp id λq x hx ZW=>?_;obtain⟨e,he,hef⟩:=w4 x hx;rcases hk with⟨_,k2⟩|⟨k1,_,k3⟩
  .grind
  .grind
 .have s:Sat h3 (SA a p q r .aW I nG aj::_):=aX.2 s3;have s:=s.ae [2,2];have s:=(fW (κ:=.u64) (f:=λv (r:Nat)=>.pu (v=.ptr r 0))).2 ⟨mid,es,clock,U,hb,mh,s⟩;have s:=s.ae [3,0,2,0];exact(cD.2 ⟨_,s⟩).del 2
end
theorem uG.swap {c J:Ctx}{w:World}{o:Obj}(hi:i<c.N)(h0:uG c w i o)(e1:Ext c c')(e2:Ext c J)(h:uG c' w' i o): uG J w' i o:=by
 have hρ:J.ρ i=c'.ρ i:=by rw[e1.ρ i hi,e2.ρ i hi]
 cases o with
 |cells n cs st =>
  obtain⟨I,a2,_⟩:=h0;obtain⟨b1,b2,C,e,fz,b3,b4,b5,b6⟩:=h;refine⟨I,λv hv=>⟨(bT e2 _ (a2 v hv).1).2,(a2 v hv).2⟩,C,e,fz,by rw[hρ];exact b3,by rw[hρ];exact b4,λj v hj=>?_,b6⟩<;>grind[bT]
 |map es clock =>
  obtain⟨I,_⟩:=h0;obtain⟨b1,b2⟩:=h;refine⟨λx hx=>⟨(bT e2 _ (I x hx).1).2,(bT e2 _ (I x hx).2).2⟩,?_⟩<;>grind[bT,cJ,List.map_congr_left]
 |loop busy au env ps assign body =>
  obtain⟨_,_,_,_,_,_,a5⟩:=h0;obtain⟨fn,tmps,D,b1,b2,b3,b4⟩:=h;exact⟨fn,tmps,D,Q,b2,λt=>by grind[bT],λt=>(bT e2 _ (a5 t)).2⟩
 |iter mid since last seen =>
  obtain⟨I,_,_⟩:=h0;obtain⟨b1,b2,b3⟩:=h;exact⟨gW I e2.le,Q,by rw[hρ,b3,e1.ρ mid I,e2.ρ mid I]⟩
 |qf l pos =>
  obtain⟨b1,b2,b3⟩:=h;exact⟨b1,Q,Q⟩
 |KP =>
  obtain⟨r,b1,b2,b3⟩:=h;exact⟨r,Q,b2,b3⟩
section
variable {c:Ctx} {w:World}
theorem Rel.back (hr:Rel c h w)(I:Rel c' h' w')(st:cq c w c' w')(hold:∀i o,T.get h.tr i=some o->T.get h'.tr i=some o): ∃J,Rel J h w'/\cq c w J w':=by
 have e2:Ext c { c' with N:=c.N }:=⟨az _,st.ext.ρ,st.ext.Z,st.ext.X⟩;refine⟨{ c' with N:=c.N },⟨hr.next,hr.live,λi hi=>I.lP i (gW hi st.ext.le),λi hi=>I.zz i (gW hi st.ext.le),λi j o o' hi hj=>I.inj i j o o' (hold i o hi) (hold j o' hj),
  λi o hi=>(hr.obj i o hi).swap (hr.live i o hi) st.ext e2 (I.obj i o (hold i o hi)),λi cs s hi=>I.one i cs s (hold i _ hi),λi o hi=>I.fx i o (hold i o hi)⟩,
  ⟨e2,st.size,st.rows,st.iF,λi h1 h2=>absurd h2 Q,st.sys⟩⟩
theorem Rel.only (hr:Rel c h w)(I:Rel c' h' w')(st:cq c w c' w')(hold:∀i o,T.get h.tr i=some o->T.get h'.tr i=some o)(xb:T.get h.tr id=none)(fV:T.get h'.tr id=some (.cells n cs false))(hint:∀v∈cs,∃k z,v=.int k z)
 (su:wf c' (.sl id 0 n (.rest 1 0))): ∃vI,conc vI (.sl h.next 0 n (.rest 1 0))=conc c' (.sl id 0 n (.rest 1 0))/\wf vI (.sl h.next 0 n (.rest 1 0))/\Rel vI (h.new (.cells n cs false)) w'/\cq c w vI w':=by
 have hN:h.next=c.N:=hr.next
 have FM:id<c'.N:=I.live _ _ fV;have hX:c'.X id=false:=I.E_ fV cb;obtain⟨c2,sH⟩:∃c2:Ctx,c2=⟨λi=>if i=c.N then c'.ρ id else c'.ρ i,c'.Z,c.N+1,λi=>if i=c.N then c'.X id else c'.X i⟩:=⟨_,U⟩;have q1:c2.ρ c.N=c'.ρ id:=by simp_all
 have q2:∀i,i<c.N->c2.ρ i=c'.ρ i:=λi hi=>by rw[sH];exact ax Y
 have q3:c2.X c.N=c'.X id:=by simp_all
 have q4:∀i,i<c.N->c2.X i=c'.X i:=λi hi=>by rw[sH];exact ax Y
 have q5:c2.N=c.N+1:=by rw[sH]
 have q6:c2.Z=c'.Z:=by rw[sH]
 have e2:Ext c c2:=⟨Y,λi hi=>by rw[q2 i hi,st.ext.ρ i hi],λi hi=>by rw[q6,st.ext.Z i hi],λi hi=>by rw[q4 i hi,st.ext.X i hi]⟩;have AK:c2.room c.N 0 1=c'.room id 0 1:=by simp only[Ctx.room,q1,q6]
 have afO:∀v∈cs,conc c2 v=conc c' v/\wf c2 v:=λv hv=>by
  grind[conc,wf]
 have J:∀i o,T.get (h.new (.cells n cs false)).tr i=some o->(i=c.N/\o=.cells n cs false)\/(i<c.N/\T.get h.tr i=some o):=λi o hi=>by
  rw[fu] at hi;by_cases e:i=h.next
  .grind
  .rw[ax e] at hi;exact .inr ⟨hr.live i o hi,hi⟩
 have aip:∀i o,T.get h.tr i=some o->(c'.ρ i).1=(c'.ρ id).1->False:=λi o hi he=>by
  rcases I.inj i id o _ (hold i o hi) fV he with e|⟨_,e⟩
  .grind
  .grind
 refine⟨c2,?_,?_,⟨by show h.next+1=_;omega,λi o hi=>?_,λi hi=>?_,λi hi=>?_,λi j o o' hi hj he=>?_,λi o hi=>?_,λi ds s hi hx=>?_,λi o hi hx=>?_⟩,⟨e2,st.size,st.rows,st.iF,λi h1 h2=>?_,st.sys⟩⟩
 .grind[conc]
 .grind[wf]
 .grind
 .by_cases e:i=c.N
  .rw[e,q1];exact I.lP id FM
  .rw[q2 i Y];exact I.lP i (by have:=st.ext.le;omega)
 .by_cases e:i=c.N
  .rw[e,q1,q6];exact I.zz id FM
  .rw[q2 i Y,q6];exact I.zz i (by have:=st.ext.le;omega)
 .rcases J i o hi with⟨e1,f1⟩|⟨e1,f1⟩<;>rcases J j o' hj with⟨e3,f3⟩|⟨e3,f3⟩
  .omega
  .grind
  .grind
  .rw[q2 i e1,q2 j e3] at he;rw[q4 i e1,q4 j e3];exact I.inj i j o o' (hold i o f1) (hold j o' f3) he
 .rcases J i o hi with⟨e1,f1⟩|⟨e1,f1⟩
  .subst e1 f1;obtain⟨b1,b2,C,e,fz,b3,b4,b5,b6⟩:=I.obj id _ fV;refine⟨b1,λv hv=>⟨(afO v hv).2,(b2 v hv).2⟩,C,e,fz,by rw[q1];exact b3,by rw[q1];exact b4,λj v hj=>?_,b6⟩<;>grind
  .exact(hr.obj i o f1).swap e1 st.ext e2 (I.obj i o (hold i o f1))
 .rcases J i _ hi with⟨e1,f1⟩|⟨e1,f1⟩
  .rw[e1,q1];rw[e1,q3] at hx;injection f1 with g1 g2 g3;subst g1 g2 g3;exact I.one id _ _ fV hx
  .rw[q2 i e1];rw[q4 i e1] at hx;exact I.one i ds s (hold i _ f1) hx
 .rcases J i o hi with⟨e1,f1⟩|⟨e1,f1⟩
  .grind
  .rw[q4 i e1] at hx;exact I.fx i o (hold i o f1) hx
 .have e:i=c.N:=Y;rw[e,q1];by_cases bY:c.N<=id
  .exact st.fresh id bY FM
  .exact .inr ⟨id,Y,by rw[st.ext.ρ id Y],by rw[<-st.ext.X id Y];exact hX⟩
end
theorem aem {l l':List Nat}(h:l'.Perm l)(h1:iP l' 0 l'.length)(h2:iP l 0 l.length): l'=l:=by
 have pw:∀ {k:List Nat},iP k 0 k.length->k.Pairwise (· <= ·):=λ{k} hk=>by
  rw[List.pairwise_iff_getElem];intro i j hi J I;have:=hk i j (dz _) I J;simpa[gN,hi,J] using this
 grind[List.Perm.eq_of_pairwise]
section
variable {told:bU} {K:List Nat}
noncomputable def soA : Code:=aV [0] ((f82.body).getD .skip)
noncomputable def soB : Code:=aV [1,0] ((f82.body).getD .skip)
noncomputable def soC : Code:=aV [1,1] ((f82.body).getD .skip)
theorem YL : f82.body=some (.seq soA (.seq soB soC)):=rfl
theorem YM : ∃id I J Nd cl,soB=.region id #[I,J,Nd] false/\(I.op=.move (.tmp 0)/\I.guard=none/\I.dst=some 4)/\(J.op=.call cl/\cl.callee=.value (.func 154)/\cl.args.toList=[.tmp 4]/\J.guard=none/\J.dst=some 5)/\(Nd.op=.assign (.tmp 5)/\Nd.guard=none/\Nd.dst=some 3):=⟨_,_,_,_,_,U,⟨U,U,U⟩,⟨U,U,U,U,U⟩,U,U,U⟩
theorem Vs (hb:eU clock 0 es)(hn:es.length<256)(hK:es.map (·.1)=K.map λn:Nat=>(n:Int))(J:K.Nodup)(hs:iP K 0 K.length)(s:Sat h (pt b (.cells 1 [.map mid] false)::iH .u64 mid es clock::S)):
  CallsR prog 82 [.fn (.func 156) [] [.ptr b 0]] h λv h2=>Bk v K.length/\Sat h2 (.arr 1 v (aK K)::iH .u64 mid es clock::pt b (.cells 1 [.map mid] false)::S):=by
 have I:∀e∈es,0<=e.1:=λe he=>by
  grind[List.mem_map_of_mem]
 refine CallsR.of_wpo (C:=CB) Hz YL (show 1<=9 by decide) ?_;refine WPO.seq (WPO.of cm bM<|zr U (za U (zv ?_)));obtain⟨id,HY,Fc,Nd,cl,q0,⟨a1,a2,a3⟩,⟨b1,b2,b3,b4,b5⟩,d1,d2,d3⟩:=YM;refine WPO.seq ?_;rw[q0];refine WPO.region (pS.op (R:=λv h'=>v=.fn (.func 156) [] [.ptr b 0]/\h'=h) cm bM a2 a3 U (OpR.of (by rw[a1];exact aD U) ⟨U,U⟩) ?_);rintro _ h' ⟨rfl,rfl⟩;refine pS.call cm b4 b5 U b1 b2 (by rw[b3];rfl) (FJ func154 U O) (ab4 hb Y I s) ?_;rintro v h2 ⟨ks,k1,k2,s⟩;have hp:ks.Perm K:=by
  rw[hK] at k1;have:=k1.map Int.toNat;simp_all[Function.comp_def]
 have hl:ks.length=K.length:=hp.length_eq;have BE:K.length=es.length:=by have:=gY List.length hK;simpa using this.symm
 refine pS.op (R:=λv' h'=>v'=v/\h'=h2) cm bM d2 d3 U (OpR.of (by rw[d1];exact eZ U) ⟨U,U⟩) ?_;rintro _ h' ⟨rfl,rfl⟩;refine pS.nil (WPO.of cm bM (zK 3 U (zc U (UY W.base Y (hp.nodup_iff.2 J) s) ?_)));rintro v h ⟨rfl,l',p1,s1,s⟩;have e:l'=K:=aem (p1.trans hp) (by rw[p1.length_eq];exact s1) hs;subst e;exact zk 6 U (zR U ⟨Q,s⟩)
def aen (h:H)(b mid:Nat): aH:=.all λx:{p:Nat×Obj // T.get h.tr p.1=some p.2/\p.1≠b/\p.1≠mid}=>.ro x.1.1 x.1.2
theorem Vt {I J:Obj}(hw:lB h)(nL:b≠mid)(h1:T.get h.tr b=some I)(h2:T.get h.tr mid=some J): Sat h [pt b I,pt mid J,aen h b mid]:=by
 refine⟨hw,λi=>if i=b\/i=mid then T.get h.tr i else none,λi=>if i=b\/i=mid then none else T.get h.tr i,λi o hi=>?_,λi o hi=>?_,λi=>?_,?_⟩
 .grind
 .grind
 .grind
 .refine⟨λi=>if i=b then T.get h.tr i else none,λi=>if i=mid then T.get h.tr i else none,λi=>?_,λi o hi=>?_,λi o hi=>?_,?_,λi=>if i=mid then T.get h.tr i else none,λ_=>none,λi=>.inr U,PM.le_refl _,λi o hi=>(by cases hi),?_,λ_=>none,λ_=>none,λi=>.inr U,PM.le_refl _,PM.le_refl _,?_,aa⟩
  .grind
  .grind
  .grind
  .show(if b=b then T.get h.tr b else none)=_;rw[bk U];exact h1
  .show(if mid=mid then T.get h.tr mid else none)=_;rw[bk U];exact h2
  .rintro⟨⟨i,o⟩,k1,k2,k3⟩;show(if i=b\/i=mid then none else T.get h.tr i)=some o;simp_all
def pinSrt (args:List V)(h:H)(r:V×H): Prop:=∃(b mid clock:Nat) (l:List (V×V×Nat)),args=[.fn (.func 156) [] [.ptr b 0]]/\T.get h.tr b=some (.cells 1 [.map mid] false)/\T.get h.tr mid=some (.map l clock) /\
 r=(match l with|[]=>(.aP,h)|_=>(.sl h.next 0 l.length (.rest 1 0),h.new (.cells l.length (l.map (·.1)) false)))
theorem OD (hb:eU clock 0 es)(hn:es.length<256)(hK:es.map (·.1)=K.map λn:Nat=>(n:Int))(mh:K.Nodup)(hs:iP K 0 K.length)(hw:lB h)(h1:T.get h.tr b=some (.cells 1 [.map mid] false))(h2:T.get h.tr mid=some (.map (es.map (g9 .u64)) clock)):
  ∃r,pinSrt [.fn (.func 156) [] [.ptr b 0]] h r/\∀(c:Ctx) (w:World),Rel c h w->(∀x∈[V.fn (.func 156) [] [.ptr b 0]],wf c x) ->
   gd prog 82 [.fn (.func 156) [] [.ptr b 0]] c w r.1 r.2:=by
 have nL:b≠mid:=λe=>by grind
 have s:=Vt hw nL h1 h2;refine⟨_,⟨b,mid,clock,_,U,h1,h2,U⟩,λc w hr ha=>(Calls.mono (Vs hb hn hK mh hs s c w hr ha) ?_)⟩;rintro e w' ⟨c',v,h',⟨J,s⟩,rfl,su,Jg,st⟩;have g1:=s.row (k:=2) U;have g2:=s.row (k:=1) U;have BE:K.length=es.length:=by have:=gY List.length hK;simpa using this.symm
 obtain⟨m,r,l1,l2,dj,a,rest,d1,d2,d3,ha2,a2,aiq,d4,d5,d6,Bz,a3,air,d7,d8,d9,J0,a4,ais,_,_,_,hF,_⟩:=s.ok;have hold:∀i o,T.get h.tr i=some o->T.get h'.tr i=some o:=λi o hi=>by
  by_cases I:i=b
  .grind
  .by_cases e2:i=mid
   .grind
   .exact l2 i o (hF ⟨(i,o),hi,I,e2⟩)
 rcases ha2 with⟨_,⟨rfl,hk0⟩|⟨id,n,cap,N,rs,rfl,fV,hln,hN,_,hcp⟩⟩
 .have Ji:es=[]:=by
   have:K.length=0:=by have:=gY List.length hk0;simpa[aK] using this
   grind
  subst Ji;obtain⟨c2,k1,k2⟩:=hr.back Jg st hold<;>grind[conc,wf]
 .rcases J with⟨e,_⟩|⟨Aq,e⟩
  .cases e
  .injection e with I _ e3 e4;subst I e3 e4;obtain⟨_,_,rfl,h1n⟩:=hcp;have hg:T.get h'.tr id=some (.cells N (aK K++[]) false):=l1 _ _ (d2 _ _ fV);rw[fZ] at hg;have hNK:N=K.length:=Q;subst hNK;have xb:T.get h.tr id=none:=by
    cases hq:T.get h.tr id with
    |none=>rfl
    |some o =>
     exfalso;have bad:∀ {x:Obj},rest id=some x->False:=λ{x} hx=>by
      rcases d1 id with q|q
      .grind
      .grind
     by_cases I:id=b
     .subst I;exact bad (d6 _ _ (d8 _ _ J0))
     .by_cases e2:id=mid
      .grind
      .have hx:=hF ⟨(id,o),hq,I,e2⟩;rcases dj id with q|q
       .rw[d2 _ _ fV] at q;cases q
       .rw[hx] at q;cases q
   obtain⟨c2,k1,k2,k3,k4⟩:=hr.only Jg st hold xb hg (λv hv=>by
    obtain⟨n,_,rfl⟩:=List.mem_map.1 hv;exact⟨_,_,U⟩) su
   have hl:(es.map (g9 .u64)).length=K.length:=Q;have hc:(es.map (g9 .u64)).map (·.1)=aK K:=by
    rw[Dy];show es.map (λe=>V.int .u64 e.1)=_;have:=gY (List.map λz:Int=>V.int .u64 z) hK;grind[aK,Function.comp_def]
   have ajf:es.map (g9 .u64)≠[]:=λq=>by grind
   cases hL:es.map (g9 .u64) with
   |nil=>grind
   |cons y L =>
    grind
theorem E0 (hT:told 82=some (iE prog 82 pinSrt))(hb:eU clock 0 es)(hn:es.length<256)(hK:es.map (·.1)=K.map λn:Nat=>(n:Int))(mh:K.Nodup)(hs:iP K 0 K.length)(s:Sat h (pt b (.cells 1 [.map mid] false)::iH .u64 mid es clock::S)):
  Call ⟨prog,told⟩ 82 [.fn (.func 156) [] [.ptr b 0]] h λv h'=>(es=[]->v=.aP)/\Sat h' (.arr 1 v (aK K)::pt b (.cells 1 [.map mid] false)::iH .u64 mid es clock::S):=by
 have g1:=s.row (k:=0) U;have g2:=s.row (k:=1) U;obtain⟨r,q1,q2⟩:=OD hb hn hK mh hs s.wf g1 g2;obtain⟨r,q3,q4⟩:=mP q1 q2;refine⟨r.1,r.2,eY.told hT Hz U q3,?_⟩;obtain⟨b',Xr,I,l,e1,e2,e3,rfl⟩:=q4;simp only[List.cons.injEq,V.fn.injEq,V.ptr.injEq,and_true,true_and] at e1;subst e1;have e4:=od g1 e2;simp only[Obj.cells.injEq,List.cons.injEq,V.map.injEq,and_true,true_and] at e4;subst e4;have e5:=od g2 e3;simp only[Obj.map.injEq] at e5;obtain⟨rfl,rfl⟩:=e5;have J:(es.map (g9 .u64)).map (·.1)=aK K:=by
  rw[Dy];show es.map (λe=>V.int .u64 e.1)=_;have:=gY (List.map λz:Int=>V.int .u64 z) hK;grind[aK,Function.comp_def]
 have BE:K.length=es.length:=by have:=gY List.length hK;simpa using this.symm
 cases hL:es.map (g9 .u64) with
 |nil =>
  rw[hL] at J;rw[<-J];exact⟨λ_=>U,s.jr⟩
 |cons y L =>
  rw[hL] at J;have hl:(y::L).length=K.length:=Q;have s2:=s.new (.cells (y::L).length ((y::L).map (·.1)) false);refine⟨λq=>(by subst q;cases hL),s2.iX λm r hm=>⟨?_,.inr ⟨h.next,(y::L).length,.rest 1 0,(y::L).length,[],U,?_,Q,Q,U,U,U,U,cb⟩⟩⟩
  .simp[aK,storable]
  .rw[hm,J,fZ]
end
section
variable {told:bU} {K p:Nat}
theorem R5 (hT:W2 told)(I:EI N B ε)(hB:B<=900)(s:Sat h (SA a p q r .aW data aF ε::S)):
  Call ⟨prog,told⟩ 32 [.ptr a 0] h λv h'=>v=.int .i64 0/\Sat h' (SA a p q r .aW data aF (jK ε).2::S):=by
 have CL:=I.cC;have JF:=uB (ε:=ε);have hNm:=I.many;obtain⟨q1,q2⟩:=I.aM;have s:=aX.1 s;obtain⟨w1,w2,w3⟩:=I.clean;obtain⟨v1,v2,v3⟩:=I.writeAll;have J:∀n∈ε.1.aM.map (·.1),(Lit.int .i64 n).wf=true:=λn hn=>wf_i64 (q1 n hn).1 Q;refine(XF hT s I.ok.ok Y Y J v2.ok.ok.dk (λe he=>by rw[v2.ec.dk.aU];exact v2.ec.dk.keys _ (HP he))).mono ?_;rintro v h ⟨rfl,s⟩;rw[w1];exact⟨U,aX.2 s⟩
end
structure WO5 (told:bU): Prop where
 w:W told
 ac:Fre told 37
 so:told 82=some (iE prog 82 pinSrt)
section
variable {told:bU} {p m:Nat}
theorem afP (hn:n<1000)(s:Sat h S): ∃v h1,makeSliceV prog h 33 (.int .i64 0) (.int .i64 (n:Int))=some (v,h1)/\Sat h1 (.arr 1 v []::S):=by
 obtain⟨i1,I,J,gu⟩:=nQ;have s1:=s.new (.cells (n*1) (repeatL [V.int .u64 0] n) false);refine⟨.sl h.next 0 0 (.exact n),_,?_,s1.iX λm r hm=>⟨U,.inr ⟨h.next,0,.exact n,n*1,repeatL [V.int .u64 0] n,U,hm,U,?_,?_,U,dz _⟩⟩⟩
 .simp only[makeSliceV,dg,I,rq,V.cells,cK,eN,J];grind[Nat.beq,aN]
 .rw[qO];simp
 .exact sU U n
abbrev jI (L:lp): List Nat:=L.map (·.1)
theorem R6 (J:WO5 told)(hl:L.length<256)(hs:(jI L).Pairwise (· < ·))(s:Sat h (eL m a nx u L::S)):
  Call ⟨prog,told⟩ 37 [.ptr m 0] h λv h'=>Sat h' (.arr 1 v (aK (jI L))::eL m a nx u L::S):=by
 have hW:=J.w;obtain⟨av,s⟩:=cD.1 s;have s:=s.ae [1];obtain⟨mid,es,c,rfl,I,mh,s⟩:=fW.1 s;obtain⟨_,_,_,_,q3⟩:=s.at (k:=1) U;have hk:=qn q3;rw[Dy] at hk;have hK:es.map (·.1)=(jI L).map λn:Nat=>(n:Int):=by simp_all
 have OV:es.length<256:=by have:=gY List.length hK;simp at this;omega
 have Al:(jI L).length=L.length:=cL _;have xz:(jI L).Nodup:=hs.imp λh=>wE h;have hsr:iP (jI L) 0 (jI L).length:=λi j _ uU hj=>by
  have:=List.pairwise_iff_getElem.1 hs i j Y hj uU;grind[gN]
 have s:=s.ae [2];refine Call.of_wp (J.ac.free _ U) M9 U U (zK 8 U (zY s 0 iw kA U (zc U (Nc hW s) ?_)));rintro v h ⟨b,rfl,s⟩;have s:=s.ae [0,1];refine zc U (E0 J.so I OV hK xz hsr s) ?_;rintro v h ⟨_,s⟩;obtain⟨i1,gD,fH,gu⟩:=nQ;have hnl:(aK (jI L)).length=L.length*1:=by rw[dh,Al]
 obtain⟨mv,h1,e1,s1⟩:=afP (n:=L.length) Y s;obtain⟨w,h2,e2,s2⟩:=dV s1 dg gD rq fH gu U O Q;refine zk 5 U (zo U (aO U U U (s.fo L.length (j:=0) U hnl O dg))<|aq.any U U U (OpR.of (R:=λv h'=>v=mv/\h'=h1) (uL U U e1) ⟨U,U⟩) ?_);rintro mv h1 ⟨rfl,rfl⟩;refine zm U (aq.any U U U (OpR.of (R:=λv h'=>v=w/\h'=h2) (fN U U e2) ⟨U,U⟩) ?_);rintro w h2 ⟨rfl,rfl⟩;refine zk 2 U (zR U ?_);rw[iQ] at s2;have s:=s2.ae [3,4];have s:Sat _ (kG .u64 (λv (r:Nat)=>.pu (v=.ptr r 0)) (.map mid) (L.map λe=>((e.1:Int),e.2.1))::_):=fW.2 ⟨mid,es,c,U,I,mh,s⟩;have s:=s.ae [4,0,3];have s:Sat _ (eL m a nx u L::_):=cD.2 ⟨.map mid,s⟩;exact((s.ae [1]).del 3).del 2
theorem YN (hC:Fre told 33)(hT:WC told)(hK:WK told)(hB:B<=900)(hI:TxI N B M ba ck mk rs ε)(J:1<=ba)(ox:ba+szB rs<=1000000)(hM:M<=16777216)(kB:vq L)(yJ:jY L<=1000000000)(BC:256<=jY L)(bY:∀x∈L,x.2.2.fst<18446744073709551616)(s:Sat h (eL m a nx u L::SA a p q r .aW data aF ε::S)):
  Call ⟨prog,told⟩ 33 [.ptr m 0] h λv h'=>(v=.int .i64 7/\Sat h' (eL m a nx u L::SA a p q r .aW data aF ε::S))\/(v=.int .i64 0/\∃aj I nG rA c8 rc HB mk',(∀m,pgA aj m=pgA ε m)/\(dw.len rc)<=128/\rs++[rc]=rA++c8/\(rA=[]\/∀x∈L,x.2.2.fst≠0->ba+szB rA<=x.2.2.fst) /\
   TxI N (B+1) M (ba+szB rA) HB mk' c8 aj/\Sat h' (eL m a nx u L::SA a p q r .aW I nG aj::S)):=by
 have hW:=hT.w;have hb:ε.2.1.b.length=szB rs:=by rw[hI.lr.b,l9]
 have Jd:=hI.rm;have eR:=hI.ei.el.size;have s1:=s;obtain⟨av,s⟩:=cD.1 s;refine Call.of_wp (hC.free _ U) M_ U U (zK 9 U (zY s 0 nA nr U (zc U (MJ (μ:=ε.2.1) (δ:=ε.2.2) hW Y Y ((aX.1 (s.ae [3])).ae [0,1,1])) ?_)));rintro v h' ⟨rfl,rfl⟩;rw[hb,Jd];refine zm U (zc U (PY hK kB s1) ?_);rintro v h ⟨rfl,s⟩;by_cases Q_:M<szB rs+jY L
 .skip;exact zB U aG Q<|zk 6 U (WP.ret ⟨aa,_,U,.inl ⟨U,s⟩⟩)
 .skip;refine zC U aG Q<|zk 6 U (zc U (R4 hT hB hI J Y bY s) ?_);rintro v h ⟨rfl,hq⟩;exact zk 2 U (zR U (.inr ⟨U,hq⟩))
end
def dK (f:V->List V->aH): List V->List (List V)->aH
 |[],[]=>.pu True
 |v::vs,cs::fU=>star [f v cs,dK f vs fU]
 |_,_=>.pu False
section
variable {f g:V->List V->aH} {vs:List V} {fU:List (List V)} {v:V} {cs':List V}
theorem om : Sat h (dK f (v::vs) (cs::fU)::S)↔Sat h (f v cs::dK f vs fU::S):=aX
theorem dD : ∀ {vs:List V} {fU:List (List V)} {S:List aH},Sat h (dK f vs fU::S)->vs.length=fU.length:=by
 intro vs;induction vs with
 |nil =>
  intro fU S s;cases fU with
  |nil=>rfl
  |cons cs fU=>exact(j4.1 s).1.elim
 |cons v vs I =>
  intro fU S s;cases fU with
  |nil=>exact(j4.1 s).1.elim
  |cons cs fU =>
   have:=I ((om.1 s).drop);simp[this]
theorem fG : ∀ {vs:List V} {fU:List (List V)} {i:Nat},vs[i]?=some v->fU[i]?=some cs->∀ {S:List aH},Sat h (dK f vs fU::S)↔Sat h (f v cs::dK f (vs.eraseIdx i) (fU.eraseIdx i)::S):=by
 intro vs;induction vs with
 |nil=>simp
 |cons y vs I =>
  intro fU i h1 h2 S;cases fU with
  |nil=>grind
  |cons c fU =>
   cases i with
   |zero=>grind[om]
   |succ i =>
    have h2:fU[i]?=some cs:=Q;rw[om,HM,HM];constructor
    .exact λs=>(om.2 (((I h1 h2).1 (s.ae [1])).ae [2,1])).ae [1]
    .exact λs=>((I h1 h2).2 ((om.1 (s.ae [1])).ae [2,1])).ae [1]
theorem sx (h1:vs[i]?=some v)(h2:fU[i]?=some cs)(s:Sat h (f v' cs'::dK f (vs.eraseIdx i) (fU.eraseIdx i)::S)): Sat h (dK f (vs.set i v') (fU.set i cs')::S):=by
 grind[fG,List.eraseIdx_set_eq]
theorem qw (s:Sat h (f v cs::dK f vs fU::S)): Sat h (dK f (vs++[v]) (fU++[cs])::S):=by
 have I:=dD (s.drop);have h1:(vs++[v])[vs.length]?=some v:=cb;have h2:(fU++[cs])[vs.length]?=some cs:=Q;refine(fG h1 h2).2 ?_<;>grind
theorem C_ (h1:vs[i]?=some v)(h2:fU[i]?=some cs)(s:Sat h (dK f vs fU::S)): Sat h (dK f (vs.eraseIdx i) (fU.eraseIdx i)::S):=((fG h1 h2).1 s).drop
theorem sy (I:∀ {v cs} {S:List aH},Sat h (f v cs::S)->Sat h (g v cs::S)): ∀ {vs:List V} {fU:List (List V)} {S:List aH},Sat h (dK f vs fU::S)->Sat h (dK g vs fU::S):=by
 intro vs;induction vs with
 |nil =>
  intro fU S s;cases fU with
  |nil=>exact s
  |cons cs fU=>exact(j4.1 s).1.elim
 |cons v vs J =>
  intro fU S s;cases fU with
  |nil=>exact(j4.1 s).1.elim
  |cons cs fU =>
   have s:=I (om.1 s);exact om.2 ((J (s.ae [1])).ae [1])
end
structure Gh where
 ad:List (Nat×Int)
 mr:List (Nat×Nat)
variable {G:List Gh}
def sC (l:List (Nat×Int)): List V:=l.flatMap λd=>[.int .i64 (d.1:Int),.int .i64 d.2]
def l_ (l:List (Nat×Int)): List (Nat×Nat):=l.map λd=>(d.1,(IntKind.wrap .u64 d.2).toNat)
theorem uD (l:List (Nat×Int)): (sC l).length=l.length*2:=by
 induction l<;>grind[sC]
theorem P5 {a b:List (Nat×Int)}: sC (a++b)=sC a++sC b:=by simp[sC]
theorem ach : ∀ {l:List (Nat×Int)} {i:Nat} {d:Nat×Int},l[i]?=some d->((sC l).drop (i*2)).take 2=[.int .i64 (d.1:Int),.int .i64 d.2]:=by
 intro l;induction l with
 |nil=>simp
 |cons x l I =>
  intro i d h;cases i with
  |zero=>simp at h;subst h;rfl
  |succ i =>
   have:=I (i:=i) (by simpa using h);rw[show(i+1)*2=i*2+2 by omega];exact this
def gA (g:Gh): List V:=sC g.ad
def gM (g:Gh): List V:=fR (g.mr.map (·.2))
def gT (g:Gh): List V:=aK (g.mr.map (·.1))
def BL (v1 v2 v3 v4 v5:V)(iY:List V)(ids:List Nat)(G:List Gh): aH:=xs λa:List V×List V×List V =>
 star [roV 1 v1 iY,roV 1 v2 (aK ids),roV 1 v3 a.1,dK (roV 2) a.1 (G.map gA),roV 1 v4 a.2.1,dK (roV 1) a.2.1 (G.map gM),roV 1 v5 a.2.2,dK (roV 1) a.2.2 (G.map gT)]
def HC (v1 v2 v3 v4 v5:V)(iY:List V)(ids:List Nat)(G:List Gh): aH:=xs λa:List V×List V×List V =>
 star [.arr 1 v1 iY,.arr 1 v2 (aK ids),.arr 1 v3 a.1,dK (.arr 2) a.1 (G.map gA),.arr 1 v4 a.2.1,dK (.arr 1) a.2.1 (G.map gM),.arr 1 v5 a.2.2,dK (.arr 1) a.2.2 (G.map gT)]
section
theorem oM : Sat h (BL v1 v2 v3 v4 v5 iY ids G::S)↔∃a3 a4 a5,Sat h (roV 1 v1 iY::roV 1 v2 (aK ids)::roV 1 v3 a3::dK (roV 2) a3 (G.map gA)::roV 1 v4 a4::dK (roV 1) a4 (G.map gM)::roV 1 v5 a5::dK (roV 1) a5 (G.map gT)::S):=by
 simp[BL,gh,aX]
theorem jQ : Sat h (HC v1 v2 v3 v4 v5 iY ids G::S)↔∃a3 a4 a5,Sat h (.arr 1 v1 iY::.arr 1 v2 (aK ids)::.arr 1 v3 a3::dK (.arr 2) a3 (G.map gA)::.arr 1 v4 a4::dK (.arr 1) a4 (G.map gM)::.arr 1 v5 a5::dK (.arr 1) a5 (G.map gT)::S):=by
 simp[HC,gh,aX]
theorem gU (s:Sat h (HC v1 v2 v3 v4 v5 iY ids G::S)): Sat h (BL v1 v2 v3 v4 v5 iY ids G::S):=by
 obtain⟨a3,a4,a5,s⟩:=jQ.1 s;have s:=(s.qG).ae [1];have s:=(s.qG).ae [2];have s:=(s.qG).ae [3];have s:=(sy (g:=roV 2) (λq=>q.qG) s).ae [4];have s:=(s.qG).ae [5];have s:=(sy (g:=roV 1) (λq=>q.qG) s).ae [6];have s:=(s.qG).ae [7];have s:=(sy (g:=roV 1) (λq=>q.qG) s).ae [7,6,5,4,3,2,1];exact oM.2 ⟨a3,a4,a5,s⟩
end
theorem Nl : ∃i,prog.info? 191=some i/\i.size=2/\i.bytes<=4096 :=
 ⟨_,(show prog.info? 191=some ((prog.info? 191).getD default) by kernel_rfl),bo,pX bo⟩
theorem Da : ∃i,prog.info? 94=some i/\i.size=1/\i.bytes<=4096 :=
 ⟨_,(show prog.info? 94=some ((prog.info? 94).getD default) by kernel_rfl),bo,pX bo⟩
theorem Db : ∃i,prog.info? 122=some i/\i.size=1/\i.bytes<=4096 :=
 ⟨_,(show prog.info? 122=some ((prog.info? 122).getD default) by kernel_rfl),bo,pX bo⟩
theorem Dc : ∃i,prog.info? 33=some i/\i.size=1/\i.bytes<=4096 :=
 ⟨_,(show prog.info? 33=some ((prog.info? 33).getD default) by kernel_rfl),bo,pX bo⟩
theorem Nm : ∃i,prog.info? 2=some i/\i.size=1/\i.bytes<=4096 :=
 ⟨_,(show prog.info? 2=some ((prog.info? 2).getD default) by kernel_rfl),bo,pX bo⟩
theorem Nn : ∃i,prog.info? 3=some i/\i.size=1/\i.bytes<=4096 :=
 ⟨_,(show prog.info? 3=some ((prog.info? 3).getD default) by kernel_rfl),bo,pX bo⟩
theorem R7 {p v:V}(I:look E a=some p)(hd:loadV P h t p=some v): resLE P E h [.cell a t]=some v:=by grind[resLE,mapO,resE]
section
variable {told:bU}
noncomputable def ahE : Code:=aV [1,1,1,1,0,1,0,0] ((f96.body).getD .skip)
set_option maxHeartbeats 1000000 in
theorem No (hT:W told)(hl:G.length<=1000)(Vu:∀g∈G,g.ad.length<=1000/\g.mr.length<=1000){po:Nat}{a4 a5:List V}: ∀(j i:Nat) (h:H) (E:List (Nat×V)) (a8:Ex->List (Nat×V)->H->Prop) (w3 w4 w5:V) (b3 b4 b5:List V),i+j=G.length ->
  Sat h (pt pm (.cells 5 [v1,v2,v3,v4,v5] false)::pt pr (.cells 5 rv false)::pt po (.cells 5 [w1,w2,w3,w4,w5] false)::roV 1 v3 a3::dK (roV 2) a3 (G.map gA)::.arr 1 w3 b3::dK (.arr 2) b3 ((G.take i).map gA)::roV 1 v4 a4::dK (roV 1) a4 (G.map gM)::.arr 1 w4 b4::dK (.arr 1) b4 ((G.take i).map gM)::roV 1 v5 a5::dK (roV 1) a5 (G.map gT)::.arr 1 w5 b5::dK (.arr 1) b5 ((G.take i).map gT)::S) ->
  Has E [(1,.ptr pm 0),(2,.ptr pr 0),(3,.ptr po 0),(4,.int .i64 (i:Int))] ->
  (∀E' h' w3 w4 w5 b3 b4 b5,Has E' [(2,.ptr pr 0),(3,.ptr po 0)] ->
   Sat h' (pt pr (.cells 5 rv false)::pt po (.cells 5 [w1,w2,w3,w4,w5] false)::.arr 1 w3 b3::dK (.arr 2) b3 (G.map gA)::.arr 1 w4 b4::dK (.arr 1) b4 (G.map gM)::.arr 1 w5 b5::dK (.arr 1) b5 (G.map gT)::S)->a8 (.exit 0) E' h') ->
  WP ⟨prog,told⟩ 64 (.loop ahE) E h a8:=by
 intro j;induction j with
 |zero =>
  intro i h E a8 w3 w4 w5 b3 b4 b5 hi s hE hq;obtain rfl:i=G.length:=Y;rw[zX] at s;have xS:=dD (s.ae [4]);rw[cL] at xS;refine WP.loop (WP.has hE (zK 4 U (zY s 0 je mz U (zo U (aO U U U (s.Bn (n:=G.length) (j:=3) U Y O jL))<|zC U aG cb<|zk 2 U (WP.exit ?_)))));have s:=s.ae [1,1,3,3,5,5,7,7];dsimp only[bringA,getA,aB] at s;exact hq _ _ _ _ _ _ _ _ ⟨U,U,aa⟩ (s.del 14 |>.del 13 |>.del 12 |>.del 11 |>.del 10 |>.del 9 |>.del 8)
 |succ j ih =>
  intro i h E a8 w3 w4 w5 b3 b4 b5 hi s hE hq;obtain⟨g,hg⟩:∃g,G[i]?=some g:=⟨_,aI Y⟩;obtain⟨hga,hgm⟩:=Vu g (bz hg);have htk:G.take (i+1)=G.take i++[g]:=by grind[List.take_add_one]
  have xS:=dD (s.ae [4]);have xP:=dD (s.ae [8]);have AB:=dD (s.ae [12]);have J0:=dD (s.ae [6]);have hm4:=dD (s.ae [10]);have hm5:=dD (s.ae [14]);rw[cL] at xS xP AB J0 hm4 hm5;rw[wD] at J0 hm4 hm5;obtain⟨u3,J1⟩:∃u,a3[i]?=some u:=⟨_,aI Y⟩;obtain⟨u4,xT⟩:∃u,a4[i]?=some u:=⟨_,aI Y⟩;obtain⟨u5,tG⟩:∃u,a5[i]?=some u:=⟨_,aI Y⟩;refine WP.loop (WP.has hE (zK 4 U (zY s 0 je mz U (zo U (aO U U U (s.Bn (n:=G.length) (j:=3) U Y O jL))<|zB U aG Q<|zk 4 U (WP.block (zK 13 U ?_))))));have J2:(G.map gA)[i]?=some (gA g):=Q;have I:=(fG J1 J2).1 (s.ae [4]);dsimp only[aB,bringA] at I;obtain⟨Mq,of3,e1,_,e2⟩:=I.JX (P:=prog) (j:=5) (i:=i) (k:=1) U Y O jL sP;have e2:=e2 u3 Q 94 Ci;obtain⟨i1,gD,fH,gu⟩:=Nl;obtain⟨i2,Jc,ET,Np⟩:=Da;obtain⟨nn,hn,oO⟩:=I.Nf (j:=0) U;obtain⟨x,h1,f1,t1⟩:=xQ (P:=prog) (k:=2) I oO hn (I.Vg (j:=0) U) O (by show(sC g.ad).length<=_;rw[uD];omega) xO gD KC fH gu U;have hx:=t1.cz 0 U;obtain⟨xv,h2,f2,t2⟩:=fP prog (k:=1) (x:=x) t1 jL Lr sP U O O Q Q;rw[hx.1] at t2;obtain⟨w,h3,f3,t3⟩:=dV (t2.ae [8,0]) jL Jc Lr ET Np U O Q;have J:=(s.cz 5 U).2.2;have O0:=hx.2.2;have s:=I;refine WP.xu [some (0,3),some (0,3),af,af,af,af,af,af,af,af,af,af,af] U bo bo<|zF U (je _ _) (zL U (s.ld 4 U mz U) (zM U (zF U (je _ _) (zL U (s.ld 2 U mz U) (zM U (zO U (aJ (.ptr Mq of3) U U e1) (zL U e2 (ah.any U U U U (OpR.of (R:=λv h'=>v=x/\h'=h1) (fN U U f1) ⟨U,U⟩) ?_))))))));rintro x h1 ⟨rfl,rfl⟩;have s:=t1;refine ah.any U U U U (OpR.of (R:=λv h'=>v=xv/\h'=h2) (jj U f2) ⟨U,U⟩) ?_;rintro xv h2 ⟨rfl,rfl⟩;have s:=t2;refine ah.any U U U U (OpR.of (R:=λv h'=>v=w/\h'=h3) (fN U U f3) ⟨U,U⟩) ?_;rintro w h3 ⟨rfl,rfl⟩;have s:=t3;dsimp only[aB,bringA] at s;have su:=s.cz 0 U;refine zF U (je _ _) (ah.cy U U U (OpR.dX U U U (s.cS (k:=7) U Wy U (show 0+2<5 by decide) su.1 su.2.1)) ?_);rintro _ h ⟨rfl,s⟩;dsimp only[Nat.reduceAdd,List.set,setA] at s;refine ah.nil ⟨⟨⟨λ_ _=>.inr ⟨U,⟨_,gy U (je _ _)⟩,aA _ U⟩,lT (.inr ⟨U,⟨_,o_load U (I.ld 4 U mz U)⟩,J⟩) (.inr ⟨U,⟨_,o_load U (t1.ld 5 U mz U)⟩,J⟩) (.inr ⟨U,⟨_,o_load U (t2.ld 6 U mz U)⟩,J⟩),dq 12⟩,.inl U,.inl U,.inl U,.inl U,.inl U,.inl U,.inl U,.inl U,.inl U,.inr U,.inl U,.inl U,.inl U,aa⟩,?_⟩;have s:=(fG J1 J2).2 (s.ae [3,3]);have s:=qw (s.ae [3,7]);rw[show(G.take i).map gA++[gA g]=(G.take (i+1)).map gA by grind] at s;have s:=(s.del 3).ae [3,3,3,3,1,1,0,0,0,0,0,0,0,0,0];dsimp only[aB,bringA,getA] at s;refine zw ?_;have BM:(G.map gM)[i]?=some (gM g):=Q;have I:=(fG xT BM).1 (s.ae [8]);dsimp only[aB,bringA] at I;obtain⟨id4,of4,e1,_,e2⟩:=I.JX (P:=prog) (j:=9) (i:=i) (k:=1) U Y O kf mM;have e2:=e2 u4 Q 122 jV;obtain⟨i1,gD,fH,gu⟩:=Nn;obtain⟨i2,Jc,ET,Np⟩:=Db;obtain⟨nn,hn,oO⟩:=I.Nf (j:=0) U;obtain⟨x,h1,f1,t1⟩:=xQ (P:=prog) (k:=1) I oO hn (I.Vg (j:=0) U) O (by show(fR (g.mr.map (·.2))).length<=_;rw[iN,cL];omega) dN gD EG fH gu U;have hx:=t1.cz 0 U;obtain⟨xv,h2,f2,t2⟩:=fP prog (k:=1) (x:=x) t1 kf Gv mM U O O Q Q;rw[hx.1] at t2;obtain⟨w,h3,f3,t3⟩:=dV (t2.ae [12,0]) kf Jc Gv ET Np U O Q;have J:=(s.cz 9 U).2.2;have O0:=hx.2.2;have s:=I;refine WP.xu [some (0,3),some (0,3),af,af,af,af,af,af,af,af,af,af,af] U bo bo<|zF U (jJ _ _) (zL U (s.ld 4 U ny U) (zM U (zF U (jJ _ _) (zL U (s.ld 2 U ny U) (zM U (zO U (aJ (.ptr id4 of4) U U e1) (zL U e2 (ah.any U U U U (OpR.of (R:=λv h'=>v=x/\h'=h1) (fN U U f1) ⟨U,U⟩) ?_))))))));rintro x h1 ⟨rfl,rfl⟩;have s:=t1;refine ah.any U U U U (OpR.of (R:=λv h'=>v=xv/\h'=h2) (jj U f2) ⟨U,U⟩) ?_;rintro xv h2 ⟨rfl,rfl⟩;have s:=t2;refine ah.any U U U U (OpR.of (R:=λv h'=>v=w/\h'=h3) (fN U U f3) ⟨U,U⟩) ?_;rintro w h3 ⟨rfl,rfl⟩;have s:=t3;dsimp only[aB,bringA] at s;have su:=s.cz 0 U;refine zF U (jJ _ _) (ah.cy U U U (OpR.dX U U U (s.cS (k:=7) U Wz U (show 0+3<5 by decide) su.1 su.2.1)) ?_);rintro _ h ⟨rfl,s⟩;dsimp only[Nat.reduceAdd,List.set,setA] at s;refine ah.nil ⟨⟨⟨λ_ _=>.inr ⟨U,⟨_,gy U (jJ _ _)⟩,aA _ U⟩,lT (.inr ⟨U,⟨_,o_load U (I.ld 4 U ny U)⟩,J⟩) (.inr ⟨U,⟨_,o_load U (t1.ld 5 U ny U)⟩,J⟩) (.inr ⟨U,⟨_,o_load U (t2.ld 6 U ny U)⟩,J⟩),dq 12⟩,.inl U,.inl U,.inl U,.inl U,.inl U,.inl U,.inl U,.inl U,.inl U,.inr U,.inl U,.inl U,.inl U,aa⟩,?_⟩;have s:=(fG xT BM).2 (s.ae [3,3]);have s:=qw (s.ae [3,11]);rw[show(G.take i).map gM++[gM g]=(G.take (i+1)).map gM by grind] at s;have s:=(s.del 3).ae [3,3,3,3,3,3,3,3,1,1,0,0,0,0,0];dsimp only[aB,bringA,getA] at s;have Dd:(G.map gT)[i]?=some (gT g):=Q;have I:=(fG tG Dd).1 (s.ae [12]);dsimp only[aB,bringA] at I;obtain⟨UC,of5,e1,_,e2⟩:=I.JX (P:=prog) (j:=13) (i:=i) (k:=1) U Y O mT oR;have e2:=e2 u5 Q 33 j5;obtain⟨i1,gD,fH,gu⟩:=nQ;obtain⟨i2,Jc,ET,Np⟩:=Dc;obtain⟨nn,hn,oO⟩:=I.Nf (j:=0) U;obtain⟨x,h1,f1,t1⟩:=xQ (P:=prog) (k:=1) I oO hn (I.Vg (j:=0) U) O (by show(aK (g.mr.map (·.1))).length<=_;rw[dh,cL];omega) dg gD rq fH gu U;have hx:=t1.cz 0 U;obtain⟨xv,h2,f2,t2⟩:=fP prog (k:=1) (x:=x) t1 mT Lq oR U O O Q Q;rw[hx.1] at t2;obtain⟨w,h3,f3,t3⟩:=dV (t2.ae [16,0]) mT Jc Lq ET Np U O Q;have J:=(s.cz 13 U).2.2;have O0:=hx.2.2;have s:=I;refine WP.xu [some (0,3),some (0,3),af,af,af,af,af,af,af,af,af,af,af] U bo bo<|zF U (kM _ _) (zL U (s.ld 4 U oS U) (zM U (zF U (kM _ _) (zL U (s.ld 2 U oS U) (zM U (zO U (aJ (.ptr UC of5) U U e1) (zL U e2 (ah.any U U U U (OpR.of (R:=λv h'=>v=x/\h'=h1) (fN U U f1) ⟨U,U⟩) ?_))))))));rintro x h1 ⟨rfl,rfl⟩;have s:=t1;refine ah.any U U U U (OpR.of (R:=λv h'=>v=xv/\h'=h2) (jj U f2) ⟨U,U⟩) ?_;rintro xv h2 ⟨rfl,rfl⟩;have s:=t2;refine ah.any U U U U (OpR.of (R:=λv h'=>v=w/\h'=h3) (fN U U f3) ⟨U,U⟩) ?_;rintro w h3 ⟨rfl,rfl⟩;have s:=t3;dsimp only[aB,bringA] at s;have su:=s.cz 0 U;refine zF U (kM _ _) (ah.cy U U U (OpR.dX U U U (s.cS (k:=7) U WA U (show 0+4<5 by decide) su.1 su.2.1)) ?_);rintro _ h ⟨rfl,s⟩;dsimp only[Nat.reduceAdd,List.set,setA] at s;refine ah.nil ⟨⟨⟨λ_ _=>.inr ⟨U,⟨_,gy U (kM _ _)⟩,aA _ U⟩,lT (.inr ⟨U,⟨_,o_load U (I.ld 4 U oS U)⟩,J⟩) (.inr ⟨U,⟨_,o_load U (t1.ld 5 U oS U)⟩,J⟩) (.inr ⟨U,⟨_,o_load U (t2.ld 6 U oS U)⟩,J⟩),dq 12⟩,.inl U,.inl U,.inl U,.inl U,.inl U,.inl U,.inl U,.inl U,.inl U,.inr U,.inl U,.inl U,.inl U,aa⟩,?_⟩;have s:=(fG tG Dd).2 (s.ae [3,3]);have s:=qw (s.ae [3,15]);rw[show(G.take i).map gT++[gT g]=(G.take (i+1)).map gT by grind] at s;have s:=(s.del 3).ae [3,3,3,3,3,3,3,3,3,3,3,3,1,1,0];dsimp only[aB,bringA,getA] at s;exact zK 2 U (zb U (by exact aT ay)<|za U (zv<|ih (i+1) _ _ a8 _ _ _ _ _ _ Y s ⟨U,U,U,U,aa⟩ hq))
theorem R8 (hT:W told)(hl:G.length<=1000)(Vu:∀g∈G,g.ad.length<=1000/\g.mr.length<=1000)(UL:iY.length<=1000)(Al:ids.length<=1000)(s:Sat h (BL v1 v2 v3 v4 v5 iY ids G::S)):
  Call ⟨prog,told⟩ 96 [.agg [v1,v2,v3,v4,v5]] h λr h'=>∃w1 w2 w3 w4 w5,r=.agg [w1,w2,w3,w4,w5]/\Sat h' (HC w1 w2 w3 w4 w5 iY ids G::S):=by
 obtain⟨a3,a4,a5,s⟩:=oM.1 s;have BX:=s.vV 0 U;have qy:=s.vV 1 U;have Af:=s.vV 2 U;have E5:=s.vV 4 U;have E6:=s.vV 6 U;have dG:[v1,v2,v3,v4,v5].all storable=true:=Q;refine Call.of_wp (hT.free _ U) func96 U U (zg U (aq.bG s U U U (c7 U dG) λpm h s=>?_));dsimp only[V.cells,List.length_cons,List.length_nil,Nat.reduceAdd] at s;refine aq.bG s U U U (bK Fk) λpr h s=>?_;dsimp only[V.cells,List.length_cons,List.length_nil,Nat.reduceAdd] at s;refine zv (zg U<|aq.bG s U U U (bK Fk) (λp3 h s=>?_));dsimp only[V.cells,List.length_cons,List.length_nil,Nat.reduceAdd] at s;refine zv (zg U (zf U (pJ _ _) (zl U (by exact s.ld 0 U yR U)<|zf U (pJ _ _) (zl U (by exact s.ld 2 U yR U) ?_))));obtain⟨i1,gD,fH,gu⟩:=Nm;obtain⟨i2,Jc,ET,Np⟩:=nQ;obtain⟨nn,hn,J⟩:=s.Nf (j:=3) U;obtain⟨w1,h1,f1,t1⟩:=xQ (P:=prog) (k:=1) s J hn (s.Vg (j:=3) U) O Y mU gD zt2 fH gu U;have yc:=t1.cz 0 U;refine aq.any U U U (OpR.of (R:=λv h'=>v=w1/\h'=h1) (fN U U f1) ⟨U,U⟩) ?_;rintro w1 h1 ⟨rfl,rfl⟩;have s:=t1;refine zf U (pJ _ _) (aq.dX U U U U U (s.cS (k:=1) U agy U (show 0+0<5 by decide) yc.1 yc.2.1) ?_);intro h s;dsimp only[Nat.reduceAdd,List.set,setA] at s;obtain⟨nn2,xz,I⟩:=s.Nf (j:=5) U;obtain⟨w2,h2,f2,t2⟩:=xQ (P:=prog) (k:=1) s I xz (s.Vg (j:=5) U) O (by rw[dh];omega) dg Jc rq ET Np U;have ov:=t2.cz 0 U;refine zv (zg U (zf U (kL _ _) (zl U (by exact s.ld 1 U j5 U)<|zf U (kL _ _) (zl U (by exact s.ld 3 U j5 U)<|aq.any U U U (OpR.of (R:=λv h'=>v=w2/\h'=h2) (fN U U f2) ⟨U,U⟩) ?_))));rintro w2 h2 ⟨rfl,rfl⟩;have s:=t2;refine zf U (kL _ _) (aq.dX U U U U U (s.cS (k:=2) U oR U (show 0+1<5 by decide) ov.1 ov.2.1) ?_);intro h s;dsimp only[Nat.reduceAdd,List.set,setA] at s;refine zv (zw (zg U (za U (zv (WP.block ?_)))));have s:=((s.jr (k:=1)).jr (k:=1)).jr (k:=1);have s:Sat h (dK (.arr 2) [] []::_):=s.eF (φ:=True) aa;have s:Sat h (dK (.arr 1) [] []::_):=s.eF (φ:=True) aa;have s:Sat h (dK (.arr 1) [] []::_):=s.eF (φ:=True) aa;have s:=s.ae [10,9,8,10,10,3,2,8,8,2,1,6,6,1,0,0,0];dsimp only[bringA,getA,aB] at s;refine No hT hl Vu G.length 0 _ _ _ _ _ _ _ _ _ Y s ⟨U,U,U,U,aa⟩ λE' h' w3 w4 w5 b3 b4 b5 fg s'=>?_;have s:=s';refine WP.has fg ?_;have hz3:=s.cz 2 U;have hz4:=s.cz 4 U;have hz5:=s.cz 6 U;have uo:[w1,w2,w3,w4,w5].all storable=true:=Q;refine zg U (zl U (s.bW (k:=1) U i_ dP) (aq.dX U U U U U (s.dS (j:=0) U dP U uo) λh s=>?_));dsimp only[setA] at s;refine zv<|WP.ret ⟨aa,_,R7 U (s.bW (k:=0) U i_ dP),?_⟩;have s:=s.ae [9,8,2,2,2,2,2,2];dsimp only[bringA,getA,aB] at s;exact⟨w1,w2,w3,w4,w5,U,jQ.2 ⟨b3,b4,b5,(s.del 11 |>.del 10 |>.del 9 |>.del 8)⟩⟩
end
theorem Bp {l:List α}: l.take (k*1)++l.drop (k*1+1)=l.eraseIdx k:=by
 grind
theorem vu {f:α->β}{l:List α}: (l.map f).eraseIdx k=(l.eraseIdx k).map f:=by
 grind[List.eraseIdx_eq_take_drop_succ,List.map_take,List.map_drop]
section
variable {told:bU}
theorem E7 (hT:W told)(hk:k<G.length)(Al:ids.length=G.length)(hl:G.length<=1000)(s:Sat h (BL v1 v2 v3 v4 v5 iY ids G::S)):
  Call ⟨prog,told⟩ 97 [.agg [v1,v2,v3,v4,v5],.int .i64 (k:Int)] h λr h'=>∃w2 w3 w4 w5,r=.agg [v1,w2,w3,w4,w5]/\Sat h' (BL v1 w2 w3 w4 w5 iY (ids.eraseIdx k) (G.eraseIdx k)::S):=by
 obtain⟨a3,a4,a5,s⟩:=oM.1 s;obtain⟨g,hg⟩:∃g,G[k]?=some g:=⟨_,aI hk⟩;have xS:=dD (s.ae [3]);have xP:=dD (s.ae [5]);have AB:=dD (s.ae [7]);rw[cL] at xS xP AB;obtain⟨u3,J1⟩:∃u,a3[k]?=some u:=⟨_,aI Y⟩;obtain⟨u4,xT⟩:∃u,a4[k]?=some u:=⟨_,aI Y⟩;obtain⟨u5,tG⟩:∃u,a5[k]?=some u:=⟨_,aI Y⟩;have BX:=s.vV 0 U;have qy:=s.vV 1 U;have Af:=s.vV 2 U;have E5:=s.vV 4 U;have E6:=s.vV 6 U;have dG:[v1,v2,v3,v4,v5].all storable=true:=Q;refine Call.of_wp (hT.free _ U) func97 U U (zg U (aq.bG s U U U (c7 U dG) λpm h s=>?_));dsimp only[V.cells,List.length_cons,List.length_nil,Nat.reduceAdd] at s;refine aq.bG s U U U (bK Fk) λpr h s=>?_;dsimp only[V.cells,List.length_cons,List.length_nil,Nat.reduceAdd] at s;have s:=s.ae [1,0];dsimp only[bringA,getA,aB] at s;refine zv (zw ?_);obtain⟨i2,I,J,gu⟩:=nQ;have sB:=s.ae [3];dsimp only[bringA,getA,aB] at sB;obtain⟨wa,wb,w2,h1,e1,e2,e3,t⟩:=sB.RT (P:=prog) (k:=1) (i:=k) (by rw[dh];omega) O (by rw[dh];omega) dg gL I rq J gu U;rw[Bp] at t;have ov:=t.vV 0 U;have s:=sB;refine WP.drawn [af,af,af,af,af,af,af,af,af,af,af,af,af] U bo bo<|zF U (kL _ _) (zL U (by exact s.ld 1 U j5 U)<|zM U (zM U (zO U (bR (p:=none) (q:=some (.int .i64 (k:Int))) (m:=some (.int .i64 (k:Int))) (p':=none) (q':=some k) (m':=some k) U U U U U U U e1) (zF U (kL _ _) (zL U (by exact s.ld 1 U j5 U)<|zM U (zO U (ag (r:=.int .i64 ((k+1:Nat):Int)) U U (by grind[aT,ay]))<|zO U (bR (p:=some (.int .i64 ((k+1:Nat):Int))) (q:=none) (m:=none) (p':=some (k+1)) (q':=none) (m':=none) U U U U U U U e2) (ah.any U U U U (OpR.of (R:=λv h'=>v=w2/\h'=h1) (fN U U e3) ⟨U,U⟩) ?_)))))));rintro w2 h1 ⟨rfl,rfl⟩;have s:=t;refine zF U (kL _ _) (ah.cy U U U (OpR.dX U U U (s.cS (k:=1) U oR U (show 0+1<5 by decide) ov.1 ov.2.1)) ?_);rintro _ h ⟨rfl,s⟩;dsimp only[Nat.reduceAdd,List.set,setA] at s;refine ah.nil ⟨(dq 14),?_⟩;have s:=s.ae [1,1,1,0,0,0,0,0,0,0];dsimp only[bringA,getA,aB] at s;rw[show(aK ids).eraseIdx k=aK (ids.eraseIdx k) from vu] at s;refine zw ?_;obtain⟨i3,I,J,gu⟩:=Da;have sB:=s.ae [4];dsimp only[bringA,getA,aB] at sB;obtain⟨wa,wb,w3,h1,e1,e2,e3,t⟩:=sB.RT (P:=prog) (k:=1) (i:=k) Y O Y jL sP I Lr J gu U;rw[Bp] at t;have m6:=t.vV 0 U;have s:=sB;refine WP.drawn [af,af,af,af,af,af,af,af,af,af,af,af,af] U bo bo<|zF U (je _ _) (zL U (by exact s.ld 1 U mz U)<|zM U (zM U (zO U (bR (p:=none) (q:=some (.int .i64 (k:Int))) (m:=some (.int .i64 (k:Int))) (p':=none) (q':=some k) (m':=some k) U U U U U U U e1) (zF U (je _ _) (zL U (by exact s.ld 1 U mz U)<|zM U (zO U (ag (r:=.int .i64 ((k+1:Nat):Int)) U U (by grind[aT,ay]))<|zO U (bR (p:=some (.int .i64 ((k+1:Nat):Int))) (q:=none) (m:=none) (p':=some (k+1)) (q':=none) (m':=none) U U U U U U U e2) (ah.any U U U U (OpR.of (R:=λv h'=>v=w3/\h'=h1) (fN U U e3) ⟨U,U⟩) ?_)))))));rintro w3 h1 ⟨rfl,rfl⟩;have s:=t;refine zF U (je _ _) (ah.cy U U U (OpR.dX U U U (s.cS (k:=1) U Wy U (show 0+2<5 by decide) m6.1 m6.2.1)) ?_);rintro _ h ⟨rfl,s⟩;dsimp only[Nat.reduceAdd,List.set,setA] at s;refine ah.nil ⟨(dq 14),?_⟩;have s:=s.ae [1,1,1,1,0,0,0,0,0,0];dsimp only[bringA,getA,aB] at s;have s:=C_ J1 (show(G.map gA)[k]?=some (gA g) by grind) (s.ae [5]);have s:=s.ae [1,1,1,1,1,0,0,0,0,0];dsimp only[aB,bringA,getA] at s;rw[vu] at s;refine zw ?_;obtain⟨i4,I,J,gu⟩:=Db;have sB:=s.ae [6];dsimp only[bringA,getA,aB] at sB;obtain⟨wa,wb,w4,h1,e1,e2,e3,t⟩:=sB.RT (P:=prog) (k:=1) (i:=k) Y O Y kf mM I Gv J gu U;rw[Bp] at t;have JW:=t.vV 0 U;have s:=sB;refine WP.drawn [af,af,af,af,af,af,af,af,af,af,af,af,af] U bo bo<|zF U (jJ _ _) (zL U (by exact s.ld 1 U ny U)<|zM U (zM U (zO U (bR (p:=none) (q:=some (.int .i64 (k:Int))) (m:=some (.int .i64 (k:Int))) (p':=none) (q':=some k) (m':=some k) U U U U U U U e1) (zF U (jJ _ _) (zL U (by exact s.ld 1 U ny U)<|zM U (zO U (ag (r:=.int .i64 ((k+1:Nat):Int)) U U (by grind[aT,ay]))<|zO U (bR (p:=some (.int .i64 ((k+1:Nat):Int))) (q:=none) (m:=none) (p':=some (k+1)) (q':=none) (m':=none) U U U U U U U e2) (ah.any U U U U (OpR.of (R:=λv h'=>v=w4/\h'=h1) (fN U U e3) ⟨U,U⟩) ?_)))))));rintro w4 h1 ⟨rfl,rfl⟩;have s:=t;refine zF U (jJ _ _) (ah.cy U U U (OpR.dX U U U (s.cS (k:=1) U Wz U (show 0+3<5 by decide) JW.1 JW.2.1)) ?_);rintro _ h ⟨rfl,s⟩;dsimp only[Nat.reduceAdd,List.set,setA] at s;refine ah.nil ⟨(dq 14),?_⟩;have s:=s.ae [1,1,1,1,1,1,0,0,0,0];dsimp only[bringA,getA,aB] at s;have s:=C_ xT (show(G.map gM)[k]?=some (gM g) by grind) (s.ae [7]);have s:=s.ae [1,1,1,1,1,1,1,0,0,0];dsimp only[aB,bringA,getA] at s;rw[vu] at s;refine zw ?_;obtain⟨i5,I,J,gu⟩:=Dc;have sB:=s.ae [8];dsimp only[bringA,getA,aB] at sB;obtain⟨wa,wb,w5,h1,e1,e2,e3,t⟩:=sB.RT (P:=prog) (k:=1) (i:=k) Y O Y mT oR I Lq J gu U;rw[Bp] at t;have Vv:=t.vV 0 U;have s:=sB;refine WP.drawn [af,af,af,af,af,af,af,af,af,af,af,af,af] U bo bo<|zF U (kM _ _) (zL U (by exact s.ld 1 U oS U)<|zM U (zM U (zO U (bR (p:=none) (q:=some (.int .i64 (k:Int))) (m:=some (.int .i64 (k:Int))) (p':=none) (q':=some k) (m':=some k) U U U U U U U e1) (zF U (kM _ _) (zL U (by exact s.ld 1 U oS U)<|zM U (zO U (ag (r:=.int .i64 ((k+1:Nat):Int)) U U (by grind[aT,ay]))<|zO U (bR (p:=some (.int .i64 ((k+1:Nat):Int))) (q:=none) (m:=none) (p':=some (k+1)) (q':=none) (m':=none) U U U U U U U e2) (ah.any U U U U (OpR.of (R:=λv h'=>v=w5/\h'=h1) (fN U U e3) ⟨U,U⟩) ?_)))))));rintro w5 h1 ⟨rfl,rfl⟩;have s:=t;refine zF U (kM _ _) (ah.cy U U U (OpR.dX U U U (s.cS (k:=1) U WA U (show 0+4<5 by decide) Vv.1 Vv.2.1)) ?_);rintro _ h ⟨rfl,s⟩;dsimp only[Nat.reduceAdd,List.set,setA] at s;refine ah.nil ⟨(dq 14),?_⟩;have s:=s.ae [1,1,1,1,1,1,1,1,0,0];dsimp only[bringA,getA,aB] at s;have s:=C_ tG (show(G.map gT)[k]?=some (gT g) by grind) (s.ae [9]);have s:=s.ae [1,1,1,1,1,1,1,1,1,0];dsimp only[aB,bringA,getA] at s;rw[vu] at s;have uo:[v1,w2,w3,w4,w5].all storable=true:=Q;refine zg U (zl U (s.bW (k:=0) U i_ dP) (aq.dX U U U U U (s.dS (j:=1) U dP U uo) λh s=>?_));dsimp only[setA] at s;exact zv<|WP.ret ⟨aa,_,R7 U (s.bW (k:=1) U i_ dP),⟨w2,w3,w4,w5,U,oM.2 ⟨_,_,_,s.drop.drop⟩⟩⟩
end
theorem wrap64 (n:Int): IntKind.wrap .i64 n=if n%18446744073709551616>=9223372036854775808 then n%18446744073709551616-18446744073709551616 else n%18446744073709551616:=by
 show(if (true&&decide (n%18446744073709551616>=9223372036854775808))=true then _ else _)=_;simp;rfl
theorem E8 {a b:Int}(h:a%18446744073709551616=b%18446744073709551616): IntKind.wrap .i64 a=IntKind.wrap .i64 b:=by rw[wrap64,wrap64,h]
theorem HD (n:Int): (IntKind.wrap .i64 n)%18446744073709551616=n%18446744073709551616:=by rw[wrap64];split<;>omega
def vx (d:Int): Nat:=(IntKind.wrap .u64 d).toNat
theorem HE (d:Int): IntKind.wrap .u64 d=(vx d:Int)/\vx d<18446744073709551616/\(vx d:Int)=d%18446744073709551616:=by
 have e:IntKind.wrap .u64 d=d%18446744073709551616:=rfl;unfold vx;rw[e];omega
theorem YO : IntKind.wrap .i64 (IntKind.wrap .i64 (x:Int)-d)=IntKind.wrap .i64 (((x+vG (vx d))%18446744073709551616:Nat):Int):=by
 apply E8;have h1:=HD (x:Int);obtain⟨_,h2,I⟩:=HE d;unfold vG;omega
theorem afQ {t:TypeId}{x y:Operand}{a b:Int}: binV P h .sub t x y (.int .i64 a) (.int .i64 b)=some (.int .i64 (IntKind.wrap .i64 (a-b))):=by rfl
theorem afR {t:TypeId}{x y:Operand}{a b:Int}: binV P h .add t x y (.int .i64 a) (.int .i64 b)=some (.int .i64 (IntKind.wrap .i64 (a+b))):=by rfl
theorem wrap_add : IntKind.wrap .i64 (IntKind.wrap .i64 (x:Int)+d)=IntKind.wrap .i64 (((x+vx d)%18446744073709551616:Nat):Int):=by
 apply E8;have h1:=HD (x:Int);obtain⟨_,h2,I⟩:=HE d;omega
def nJ (sz:Nat)(cell:List Nat): List V:=(List.range sz).map λj=>V.int .i64 (IntKind.wrap .i64 (ik cell j:Nat))
theorem jc {cell:List Nat}: (nJ sz cell).length=sz:=by simp[nJ]
theorem Bq {cell:List Nat}(I:j<sz): (nJ sz cell)[j]?=some (.int .i64 (IntKind.wrap .i64 (ik cell j:Nat))):=by
 grind[nJ]
theorem Nq {cell:List Nat}(I:cell.length=400)(hi:i<50)(J:n<18446744073709551616): (nJ sz cell).set i (.int .i64 (IntKind.wrap .i64 (n:Nat)))=nJ sz (oV cell i n):=by
 apply rJ;grind[Bq,PO,jc]
theorem YP : ∀ {cell:List Nat},offC cell (l++l2)=offC (offC cell l) l2:=by
 induction l with
 |nil=>intro cell;rfl
 |cons x l I=>exact I
theorem YQ : ∀ {cell:List Nat},cell.length=400->(∀x∈l,x.1<50)->(offC cell l).length=400:=by
 induction l with
 |nil=>intro cell h _;exact h
 |cons x l J=>intro cell h I;exact J (Bf h (I x iu)) λy hy=>I y (ki _ hy)
theorem Vw {d:Nat×Nat}(h:l[k]?=some d): eD l k=eD l (k+1)++[d]:=by
 grind[eD,List.drop_eq_getElem_cons]
theorem YR {l:List (Nat×Int)}(I:n<=l.length): (sC l).take (n*2)=sC (l.take n):=by
 grind[List.take_append_drop,P5,uD]
theorem nK {f:α->β}{l:List α}{x x':α}(h:l[k]?=some x)(e:f x'=f x): (l.set k x').map f=l.map f:=by
 apply rJ;grind
def J3 (v1 v2 v3 v4 v5:V)(iY:List V)(ids:List Nat)(G:List Gh): aH:=xs λa:List V×List V×List V =>
 star [.arr 1 v1 iY,.arr 1 v2 (aK ids),.arr 1 v3 a.1,dK (roV 2) a.1 (G.map gA),.arr 1 v4 a.2.1,dK (roV 1) a.2.1 (G.map gM),.arr 1 v5 a.2.2,dK (roV 1) a.2.2 (G.map gT)]
section
theorem oN : Sat h (J3 v1 v2 v3 v4 v5 iY ids G::S)↔∃a3 a4 a5,Sat h (.arr 1 v1 iY::.arr 1 v2 (aK ids)::.arr 1 v3 a3::dK (roV 2) a3 (G.map gA)::.arr 1 v4 a4::dK (roV 1) a4 (G.map gM)::.arr 1 v5 a5::dK (roV 1) a5 (G.map gT)::S):=by
 simp[J3,gh,aX]
theorem Vx (s:Sat h (HC v1 v2 v3 v4 v5 iY ids G::S)): Sat h (J3 v1 v2 v3 v4 v5 iY ids G::S):=by
 obtain⟨a3,a4,a5,s⟩:=jQ.1 s;have s:=(sy (g:=roV 2) (λq=>q.qG) (s.ae [3])).ae [5];have s:=(sy (g:=roV 1) (λq=>q.qG) s).ae [7];have s:=(sy (g:=roV 1) (λq=>q.qG) s).ae [3,3,3,2,2,1,1];exact oN.2 ⟨a3,a4,a5,s⟩
theorem I3 (s:Sat h (J3 v1 v2 v3 v4 v5 iY ids G::S)): Sat h (BL v1 v2 v3 v4 v5 iY ids G::S):=by
 obtain⟨a3,a4,a5,s⟩:=oN.1 s;have s:=(s.qG).ae [1];have s:=(s.qG).ae [2];have s:=(s.qG).ae [4];have s:=(s.qG).ae [6];have s:=(s.qG).ae [4,3,2,2,1,1,0];exact oM.2 ⟨a3,a4,a5,s⟩
end
section
variable {told:bU} {g:Gh} {cell:List Nat}
noncomputable def ahF : Code:=aV [1,0,1,0,0] ((f98.body).getD .skip)
theorem R9 (hT:W told)(hu:a3[k]?=some u)(yh:g.ad.length<=1000)(jE:cell.length=400)(eR:sz<=50)(hb:∀d∈g.ad,d.1<sz): ∀(j:Nat) (h:H) (E:List (Nat×V)) (a8:Ex->List (Nat×V)->H->Prop),n+j<=g.ad.length ->
  Sat h (pt pm (.cells 5 [v1,v2,v3,v4,v5] false)::.arr 1 v1 (nJ sz (offC cell (eD (l_ g.ad) (n+j))))::.arr 1 v3 a3::roV 2 u (sC g.ad)::S) ->
  Has E [(1,.int .i64 (k:Int)),(2,.int .i64 (n:Int)),(3,.ptr pm 0),(6,.ptr pr 0),(7,.int .i64 (((n+j:Nat):Int)-1))] ->
  (∀E' h',Has E' [(1,.int .i64 (k:Int)),(2,.int .i64 (n:Int)),(3,.ptr pm 0),(6,.ptr pr 0)]->Sat h' (pt pm (.cells 5 [v1,v2,v3,v4,v5] false)::.arr 1 v1 (nJ sz (offC cell (eD (l_ g.ad) n)))::.arr 1 v3 a3::roV 2 u (sC g.ad)::S)->a8 (.exit 0) E' h') ->
  WP ⟨prog,told⟩ 56 (.loop ahF) E h a8:=by
 intro j;induction j with
 |zero =>
  exact λh E a8 hj s hE hq=>WP.loop (WP.has hE (zK 5 U (zC U dO Q<|zk 2 U (WP.exit (hq _ _ ⟨U,U,U,U,aa⟩ s)))))
 |succ j ih =>
  intro h E a8 hj s hE hq;obtain⟨d,hd⟩:∃d,g.ad[n+j]?=some d:=⟨_,aI Y⟩;have I:=hb d (bz hd);have mR:(l_ g.ad)[n+j]?=some (d.1,vx d.2):=by rw[l_,wA,hd];rfl
  have J:(offC cell (eD (l_ g.ad) (n+(j+1)))).length=400:=YQ jE λx hx=>by
   have hx:=oC (List.mem_reverse.1 hx);obtain⟨y,hy,rfl⟩:=List.mem_map.1 hx<;>grind
  have kC:offC cell (eD (l_ g.ad) (n+j))=oV (offC cell (eD (l_ g.ad) (n+(j+1)))) d.1 ((ik (offC cell (eD (l_ g.ad) (n+(j+1)))) d.1+vG (vx d.2))%18446744073709551616):=by
   rw[Vw mR,YP];rfl
  generalize offC cell (eD (l_ g.ad) (n+(j+1)))=C at s J kC;rw[show((n+(j+1):Nat):Int)-1=((n+j:Nat):Int) by omega] at hE;obtain⟨r3,o3,x1,x2⟩:=dB (P:=prog) s (k:=2) (i:=k) (c:=u) U hu jL sP;have x2:=x2 94 Ci;obtain⟨r4,o4,y1,y2,_⟩:=s.JX (P:=prog) (j:=3) (i:=n+j) (k:=2) U (by rw[uD];omega) O xO KB;have y2:=y2 ae9;rw[ach hd] at y2;refine WP.loop (WP.has hE (zK 5 U (zB U dO Q<|zk 4 U (WP.block (zg U (zY s 0 je mz U (zm U (zo U (aJ (.ptr r3 o3) U U x1) (zl U x2 (zm U (zo U (aJ (.ptr r4 o4) U U y1) (zl U y2<|aq.bG s U U U (bK KC) (λp8 h s=>?_)))))))))))));dsimp only[V.cells,List.length_cons,List.length_nil,Nat.reduceAdd] at s;refine zS U (s.dS (j:=0) U KB U U) (λh s=>?_);dsimp only[setA] at s;refine zv ?_;obtain⟨r1,o1,z1,z2⟩:=dB (P:=prog) s (k:=2) (i:=d.1) U (Bq I) mU Te;have z2:=z2 2 Gu;obtain⟨r5,o5,h5,w1,w2,w3⟩:=k_ (P:=prog) (t:=72) (x:=.int .i64 (IntKind.wrap .i64 (((ik C d.1+vG (vx d.2))%18446744073709551616:Nat):Int))) (i:=d.1) (s.ae [2]) (by rw[jc];exact I) U U mU Te;rw[Nq J Y (nc _ O),<-kC] at w3;have s0:=s;refine WP.drawn [af,af,af,af,af,af,af,af,af,af,af,af,af,af,af] U bo bo<|zF U (pJ _ _) (zL U (s.ld 1 U yR U) (zF U (O9 _ _) (zL U (s.ld 0 U cW U) (zF U (pJ _ _) (zL U (s.ld 1 U yR U) (zF U (O9 _ _) (zL U (s.ld 0 U cW U) (zO U (aJ (.ptr r1 o1) U U z1) (zL U z2 (zF U (aaJ _ _) (zL U (s.ld 0 U Gu U) (zO U (ag U U (afQ.trans (by rw[YO])))<|zO U (aJ (.ptr r5 o5) U U w1) (ah.cy U U U (OpR.dX U U U (⟨h5,w2,w3⟩)) ?_)))))))))))));rintro _ h ⟨rfl,s⟩;dsimp only[aB,bringA] at s;refine ah.nil ⟨(dq 16),zK 2 U (zb U (by exact gz ay)<|za U (zv ?_))⟩;have s:=s.ae [2,0,1,1];exact ih _ _ a8 Y (s.del 4) ⟨U,U,U,U,U,aa⟩ hq
theorem Nr (hT:W told)(hk:G[k]?=some g)(hl:G.length<=1000)(hn:n<=g.ad.length)(yh:g.ad.length<=1000)(jE:cell.length=400)(eR:sz<=50)(hb:∀d∈g.ad,d.1<sz)(s:Sat h (J3 v1 v2 v3 v4 v5 (nJ sz cell) ids G::S)):
  Call ⟨prog,told⟩ 98 [.agg [v1,v2,v3,v4,v5],.int .i64 (k:Int),.int .i64 (n:Int)] h λr h'=>r=.agg [v1,v2,v3,v4,v5]/\Sat h' (J3 v1 v2 v3 v4 v5 (nJ sz (offC cell (eD (l_ g.ad) n))) ids (G.set k ⟨g.ad.take n,g.mr⟩)::S):=by
 obtain⟨a3,a4,a5,s⟩:=oN.1 s;have yJ:=(List.getElem?_eq_some_iff.1 hk).1;have xS:=dD (s.ae [3]);rw[cL] at xS;obtain⟨u,hu⟩:∃u,a3[k]?=some u:=⟨_,aI Y⟩;have J:(G.map gA)[k]?=some (gA g):=Q;have BX:=s.cz 0 U;have qy:=s.cz 1 U;have Af:=s.cz 2 U;have E5:=s.cz 4 U;have E6:=s.cz 6 U;have dG:[v1,v2,v3,v4,v5].all storable=true:=Q;have s:=(fG hu J).1 (s.ae [3]);have s:Sat h (roV 2 u (sC g.ad)::_):=s;refine Call.of_wp (hT.free _ U) func98 U U (zg U (aq.bG s U U U (c7 U dG) λpm h s=>aq.bG s U U U (bK Fk) λpr h s=>?_));obtain⟨r3,o3,x1,I⟩:=dB (P:=prog) s (k:=6) (i:=k) (c:=u) U hu jL sP;have I:=I 94 Ci;refine zk 4 U (zY s 1 je mz U (zm U (zo U (aJ (.ptr r3 o3) U U x1) (zl U I (zo U (aO U U U (s.Bn (n:=g.ad.length) (j:=2) U (uD _) O xO))<|zb U (by exact gz ay)<|zk 2 U (WP.block ?_))))));have s:=s.ae [1,3,4,1];have e0:n+(g.ad.length-n)=g.ad.length:=Y;have ec:eD (l_ g.ad) (n+(g.ad.length-n))=[]:=by grind[eD,l_,List.length_map]
 refine R9 (n:=n) (g:=g) (sz:=sz) (cell:=cell) hT hu yh jE eR hb (g.ad.length-n) _ _ _ Y (by rw[ec];exact s) ⟨U,U,U,U,by rw[e0];rfl,aa⟩ λE' h' fg s'=>?_;have s:=s';obtain⟨r3,o3,x1,I⟩:=dB (P:=prog) s (k:=2) (i:=k) (c:=u) U hu jL sP;have I:=I 94 Ci;obtain⟨u',e1,_,t⟩:=(s.ae [3]).Vh (P:=prog) (t:=94) (i:=n) (by rw[uD];omega) O xO KB;rw[YR hn] at t;dsimp only[V.cells,List.length_cons,List.length_nil,Nat.reduceAdd,aB,bringA] at t;have hu':=t.vV 0 U;have tL:=(s.vV 3 U).2.2;obtain⟨r5,o5,h5,w1,w2,w3⟩:=k_ (P:=prog) (t:=86) (i:=k) (x:=u') (t.ae [3]) Y hu'.1 hu'.2.1 jL sP;have s0:=s;refine WP.has fg (zw (WP.drawn [af,af,af,af,af,af,af,af,af,af,af,af,af] U bo bo<|zF U (je _ _) (zL U (s.ld 0 U mz U) (zM U (zF U (je _ _) (zL U (s.ld 0 U mz U) (zM U (zO U (aJ (.ptr r3 o3) U U x1) (zL U I (zM U (zM U (zO U (bR (p:=none) (q:=some (.int .i64 (n:Int))) (m:=some (.int .i64 (n:Int))) (p':=none) (q':=some n) (m':=some n) U U U U U U U (e1 _)) (zO U (aJ (.ptr r5 o5) U U w1) (ah.cy U U U (OpR.dX U U U (⟨h5,w2,w3⟩)) ?_))))))))))))));rintro _ h ⟨rfl,s⟩;refine ah.nil ⟨(dq 14),zg U (zl U (s.bW (k:=2) U i_ dP) (zS U (s.dS (j:=4) U dP U dG) λh s=>zv<|WP.ret ⟨aa,_,R7 U (s.bW (k:=4) U i_ dP),?_⟩))⟩;have s:=sx hu J (v':=u') (cs':=sC (g.ad.take n)) (s.ae [1,4]);have eA:(G.map gA).set k (sC (g.ad.take n))=(G.set k ⟨g.ad.take n,g.mr⟩).map gA:=by rw[qd];rfl
 rw[eA] at s;have s:=s.ae [3,4,1,0,2,2,2,2];rw[<-nK (f:=gM) (x':=⟨g.ad.take n,g.mr⟩) hk U,<-nK (f:=gT) (x':=⟨g.ad.take n,g.mr⟩) hk U] at s;exact⟨U,oN.2 ⟨_,_,_,(s.del 9 |>.del 8)⟩⟩
end
structure WX (told:bU): Prop where
 wo:WO told
 fmt:told 79=some (iE prog 79 (y7 79))
 mkd:told 80=some (iE prog 80 (y7 80))
 add:told 26=some (iE prog 26 (RM CK 26))
theorem WX.w {told:bU}(h:WX told): W told:=h.wo.wt.wr.w
theorem LR.fresh {m:Nat}: LR 1 0 [] [] (Am.fresh n m f).2 :=
 ⟨U,U,U,U,U,U,(show(-1:Int)<0 by decide),U,U,U,λw hw=>(by cases hw),λr I=>(by cases I)⟩
section
variable {told:bU} {p:Nat}
theorem aci (hw:NW N now)(h:∀i:Int,2<=i->lookL i now=none): now.length<=2:=by
 have:=yF 2 _ hw.nodup λn I=>by
  have:=hw.keys n I;grind[kX]
 rwa [cL] at this
theorem YS (hT:WX told)(hM1:40000<=M)(hM2:M<=262144)(tM:1<=n)(hn:n<=50)(s:Sat h (aS p (Dk.fresh 32 M)::S)):
  Call ⟨prog,told⟩ 34 [.ptr p 0,.int .i64 16,.int .i64 (n:Int)] h λv h'=>∃c m a q r rs ε,v=.aR [.ptr c 0,.int .i64 0]/\TxI 32 5 M 1 0 [] rs ε/\iO 32 n 2 (List.replicate 400 0) (pgA ε)/\szB rs<=3200/\1<=szB rs /\
   Sat h' (pt c (.cells 2 [.ptr m 0,.int .i64 (n:Int)] false)::eL m a 1 (ju c) []::SA a p q r .aW [] 0 ε::S):=by
 have hW:=hT.w;have ahG:cH (List.replicate 512 0)=false:=by decide +kernel
 have hz:(pgA (fresh 32 M 16) 0).length=512:=by grind[Ut]
 have hg:cH (pgA (fresh 32 M 16) 0)=false:=by exact ahG
 refine Call.of_wp (hW.free _ U) func34 U U (zK 9 U (zC U aG Q<|zk 2 U (zC U dc Q<|zk 8 U (zc U (On (n:=16) hW s O O U U U U) ?_))));rintro v h ⟨a,q,r,rfl,s⟩;have s:Sat h (SA a p q r .aW [] 0 (fresh 32 M 16)::S):=aX.2 s;have J:EI 32 1 (fresh 32 M 16):=EI.fresh O Y O O;have ED:LR 1 0 [] [] (fresh 32 M 16).2:=LR.fresh;have Bx:(fresh 32 M 16).2.2.room=M:=rfl;have Vk:vw FT (fresh 32 M 16):=λn rec h=>by cases h
 generalize fresh 32 M 16=ε0 at s J ED Bx hz hg Vk;have hI0:TxI 32 1 M 1 0 [] [] ε0:=⟨J,ED,Bx,Vk⟩;refine zk 10 U (zC U aE U (zk 6 U (zo U (uJ U (mki_of Hf U)) (zc U (BJ hW (Ru hW O) J O hz hg s) ?_))));rintro v h ⟨yZ,rfl,sk,gC,s⟩;have I:=hI0.sm sk gC;refine zk 10 U (zB U bH U (zk 2 U (zo U (cI U U) (zk 5 U (zc U (Call.defer hT.fmt Mm U (UB (K:=0) (M:=M) O I.ei O O (by rw[gC.1];exact hz) (by rw[gC.1];exact hg) ⟨Nat.le_of_eq (by rw[I.len];rfl),I.rm⟩ Y s)) ?_)))));rintro v h ⟨rfl,xJ,vm,CO,_,s,Hj,now,aL,vL,nD,m6,ahH,UD⟩;have hI3:=I.sm vL nD;obtain⟨_,_,_,_,c1,ait,hI2⟩:=hI3.done (L:=2) (kd:=1) UD O m6 (aci m6 ahH) O O O O O O O O (by simp only[szB];omega);refine zk 6 U (zC U aE U (zk 6 U (zo U (cE (r:=.agg [.aW,.int .i64 (n:Int)]) U (by rw[aeX];rfl))<|aq.bG s U U U (c7 U U) λc h s=>?_)));have ahz:szB ([]++[(⟨1,0,0,0,[],c1⟩:dw)])<=1080:=by grind[sq]
 refine zk 7 U (zc U (Call.defer hT.mkd M7 U (Yv O hI2 Y O O CO tM hn Y s)) ?_);rintro v h ⟨c2,XV,rfl,hct,KH,Vb,s⟩;refine zk 5 U (zC U aE U (zk 9 U (zo U (cE (r:=.agg [.ptr c 0]) U (by rw[ae1];rfl))<|zo U (uJ U (mki_of underlying161 U)) ?_)));have s:=s.ae [1];have va:∀y∈[]++[(⟨1,0,0,0,[],c1⟩:dw)]++[⟨1,0,0,0,[],c2⟩],y.tx=0:=by
  simp
 refine zc U (Yy (c:=c) hT.wo Vb.lr Vb.ei.ok.ok.lg va s) ?_;rintro v h ⟨m,rfl,s⟩;refine zk 4 U (zf U (oH _ _) (zS U (s.cS (k:=2) U agv U (show 0+0<2 by decide) U U) ?_));intro h s;exact zk 5 U (zC U aE U (zk 9 U (zR U ⟨c,m,a,q,r,_,XV,U,Vb,hct,by grind[hG,sq],by rw[hG,sq];have:1<=(dw.mk 1 0 0 0 [] c2).len:=(by show 1<=8+_;omega);omega,s.ae [2,0,0]⟩)))
end
section
variable {told:bU} {p m:Nat} {cell:List Nat}
theorem HF (J:W told)(s:Sat h S): Call ⟨prog,told⟩ 23 [] h λv h'=>∃p,v=.ptr p 0/\Sat h' (aS p (Dk.fresh 32 262144)::S):=by
 refine Call.of_wp (J.free _ U) func23 U U (zK 6 U (zc U (aaY (n:=32) (m:=262144) J s) ?_));rintro v h (⟨I,_⟩|⟨_,_,_,_,p,rfl,s⟩)
 .exact absurd ⟨O,O,O,O⟩ I
 exact zk 10 U (zC U aE U (zk 8 U (zR U ⟨p,U,s⟩)))
theorem J4 (hT:WX told)(I:40000<=M)(J:M<=262144)(tM:1<=n)(hn:n<=50)(s:Sat h (aS p (Dk.fresh 32 M)::S)):
  Call ⟨prog,told⟩ 22 [.ptr p 0,.int .i64 16,.int .i64 (n:Int)] h λv h'=>∃c m a q r rs ε,v=.ptr c 0/\TxI 32 5 M 1 0 [] rs ε/\iO 32 n 2 (List.replicate 400 0) (pgA ε)/\szB rs<=3200/\1<=szB rs /\
   Sat h' (pt c (.cells 2 [.ptr m 0,.int .i64 (n:Int)] false)::eL m a 1 (ju c) []::SA a p q r .aW [] 0 ε::S):=by
 refine Call.of_wp (hT.w.free _ U) func22 U U (zK 8 U (zC U (tq underlying25) U (zk 8 U (zc U (YS hT I J tM hn s) ?_))));rintro v h ⟨c,m,a,q,r,rs,ε,rfl,h1,h2,h3,h4,s⟩;exact zk 10 U (zC U aE U (zk 8 U (zR U ⟨c,m,a,q,r,rs,ε,U,h1,h2,h3,h4,s⟩)))
theorem wm (I:W told)(s:Sat h (pt c (.cells 2 [.ptr m 0,.int .i64 (n:Int)] false)::S)): Call ⟨prog,told⟩ 24 [.ptr c 0] h λv h'=>v=.ptr m 0/\h'=h:=by
 exact Call.of_wp (I.free _ U) func24 U U (zK 8 U (zY s 0 oH my U (zk 2 U (zR U ⟨U,U⟩))))
theorem YT (J:W told)(hB:B<=2000)(I:EI 32 B ε)(hp:iO 32 n k cell (pgA ε))(hn:n<=50)(s:Sat h (pt c (.cells 2 [.ptr m 0,.int .i64 (n:Int)] false)::eL m a nx u L::SA a p q r .aW data aF ε::S)):
  Call ⟨prog,told⟩ 29 [.ptr c 0,.int .i64 z] h λv h'=>∃aj,EI 32 B aj/\Sm 32 ε aj/\v=(if 0<=z/\z<n then .aR [.int .i64 (IntKind.wrap .i64 (ik cell z.toNat:Nat)),.int .i64 0] else .aR [.int .i64 0,.int .i64 1]) /\
   Sat h' (pt c (.cells 2 [.ptr m 0,.int .i64 (n:Int)] false)::eL m a nx u L::SA a p q r .aW data aF aj::S):=by
 obtain⟨av,s⟩:=cD.1 (s.ae [1]);refine(MM J hB I hp hn (m:=m) (nx:=nx) (uv:=u) (av:=av) (i:=z) (s.ae [4,3,0])).mono ?_;rintro v h ⟨aj,h1,h2,h3,s⟩;have s:=s.ae [2,2,2];have s:Sat h (eL m a nx u L::_):=cD.2 ⟨av,s⟩;exact⟨aj,h1,h2,h3,s.ae [2,0,0]⟩
theorem Ns : ik (List.replicate 400 0) i=0:=by
 have:∀l:List Nat,(∀x∈l,x=0)->leN l=0:=by
  intro l;induction l<;>grind[leN,List.mem_cons_self]
 exact this _ λx I=>Dj (oC (lG I))
end
theorem YU {t:TypeId}{x y:Operand}{k:Int}{m:Nat}(hm:m<65536): binV P h .and t x y (.int .i64 k) (.int .i64 (m:Int))=some (.int .i64 ((Nat.land ((k%(2^(IntKind.i64).bits:Int)).toNat) m:Nat):Int)):=by
 have h2:(((m:Nat):Int)%(2^(IntKind.i64).bits:Int)).toNat=m:=by simp only[IntKind.bits];omega
 simp only[binV,ikBeq,ak,intV,bitsV,h2];have hle:Nat.land ((k%(2^(IntKind.i64).bits:Int)).toNat) m<=m:=Nat.and_le_right;rw[wrap_i64 (n:=Nat.land ((k%(2^(IntKind.i64).bits:Int)).toNat) m) Y]
def zu (L:List (Int×Int×Int×Int)): List V:=L.flatMap λd=>[.int .i64 d.1,.int .i64 d.2.1,.int .i64 d.2.2.1,.int .i64 d.2.2.2]
theorem Br : ∀(L:List (Int×Int×Int×Int)),(zu L).length=L.length*4:=by
 intro L;induction L with
 |nil=>rfl
 |cons d L I=>rw[zu,Ds,fL];show 4+(zu L).length=_;rw[I,cK];omega
theorem YV : ∀ {L:List (Int×Int×Int×Int)} {i:Nat} {d:Int×Int×Int×Int},L[i]?=some d->((zu L).drop (i*4)).take 4=[.int .i64 d.1,.int .i64 d.2.1,.int .i64 d.2.2.1,.int .i64 d.2.2.2]:=by
 intro L;induction L with
 |nil=>intro i d h;simp at h
 |cons x L I =>
  intro i d h;cases i with
  |zero=>simp at h;subst h;rfl
  |succ i =>
   have:=I (i:=i) (by simpa using h);rw[show(i+1)*4=i*4+4 by omega];exact this
section
variable {cell:List Nat}
theorem OE {m:List Fm}: iA m<=m.length:=by
 grind[iA,List.length_map]
theorem TxI.small (h:TxI N B M ba ck mk rs ε)(hw:ε.2.2.waiting=[])(hs:ba+szB rs<=1048600): TxI N 1 M ba ck mk rs ε:=by
 have h1:=h.lr.base;have h2:ε.2.1.b.length=szB rs:=by rw[h.lr.b,l9]
 have hm:=h.ei.ok.ok.pl.many;have I:=OE (m:=ε.1.ai);refine⟨⟨h.ei.ok,h.ei.ec,⟨h.ei.el.log,h.ei.el.cert,Y⟩,?_⟩,h.lr,h.rm,h.ft⟩;show ε.2.2.waiting.length+iA ε.1.ai<=_;rw[hw,eN];omega
theorem TxI.clean (h:TxI N B M ba ck mk rs ε)(hs:ba+szB rs<=1048600): TxI N 1 M ba ck mk rs (jK ε).2/\(jK ε).2.1.bI=[]:=by
 obtain⟨w1,w2,w3⟩:=h.ei.clean;obtain⟨v1,v2,v3⟩:=h.ei.writeAll;have I:LR ba ck mk rs (writeAllF (bj ε.1.aM) ε).2.2:=(y_ ((wV ba ck mk rs).A_ N) h.ei.ec (C7 ε) h.lr).1;have hr:(writeAllF (bj ε.1.aM) ε).2.2.2.log.length=ε.2.2.log.length/\(writeAllF (bj ε.1.aM) ε).2.2.2.room=ε.2.2.room:=(y_ ((og ε.2.2.log.length ε.2.2.room).A_ N) h.ei.ec (C7 ε) ⟨U,U⟩).1;have e:=FT.clean h.ft h.ei.ec v2.ec.dk.alive v2.ec.dk.a_;have J:=hr.2.trans h.rm;generalize (writeAllF (bj ε.1.aM) ε).2=x at e I J;have hd:(jK ε).2.1.bI=[]:=by rw[e]
 refine⟨TxI.small (B:=B) ⟨w2,?_,by rw[e];exact J,λn rec hn=>by rw[hd] at hn;cases hn⟩ (by rw[e];rfl) hs,hd⟩;rw[e];exact⟨I.base,I.b,I.br,I.check,I.log,I.alive,I.a_,I.mark,I.sY,I.tail,λw hw=>(by cases hw),I.rs⟩
theorem iO.afS {P P':Int->List Nat}(h:iO N n k cell P)(e:∀m,0<=m->P' m=P m): iO N n k cell P':=by
 obtain⟨R,I,h1,h2⟩:=h.hd;exact⟨⟨R,I,h1.roots (e 1 O) (by rw[e 0 O];exact h1.head) h1.rl,h2⟩,h.k2,h.kN,by rw[e k Y];exact h.pg,h.len⟩
end
def sumU : List Gh->Nat
 |[]=>0
 |g::G=>g.ad.length+sumU G
theorem J5 {g:Gh}: sumU (G++[g])=sumU G+g.ad.length:=by
 induction G<;>grind[sumU]
theorem FN : ∀ {G:List Gh} {j:Nat} {g g':Gh},G[j]?=some g->sumU (G.set j g')+g.ad.length=sumU G+g'.ad.length:=by
 intro G;induction G with
 |nil=>simp
 |cons x G I =>
  intro j g g' h;cases j<;>grind[sumU]
theorem rH : ∀ {G:List Gh} {j:Nat} {g:Gh},G[j]?=some g->sumU (G.eraseIdx j)+g.ad.length=sumU G:=by
 intro G;induction G<;>grind[List.eraseIdx_cons_zero,sumU]
theorem FO {R:α->β->Prop}{L:List α}{G:List β}{x':α}{g':β}(h:∀(j:Nat) x g,L[j]?=some x->G[j]?=some g->R x g)(h':R x' g'): ∀(j:Nat) x g,(L.set j0 x')[j]?=some x->(G.set j0 g')[j]?=some g->R x g:=by
 grind
theorem YW {R:α->β->Prop}{L:List α}{G:List β}(h:∀(j:Nat) x g,L[j]?=some x->G[j]?=some g->R x g): ∀(j:Nat) x g,(L.eraseIdx j0)[j]?=some x->(G.eraseIdx j0)[j]?=some g->R x g:=by
 grind
theorem Vy {R:α->β->Prop}{L:List α}{G:List β}{x':α}{g':β}(I:L.length=G.length)(h:∀(j:Nat) x g,L[j]?=some x->G[j]?=some g->R x g)(h':R x' g'): ∀(j:Nat) x g,(L++[x'])[j]?=some x->(G++[g'])[j]?=some g->R x g:=by
 grind
structure vN (i n k ba:Nat)(rs:List dw)(A:mo)(g:Gh): Prop where
 tr:tF ba rs A (l_ g.ad) g.mr
 lt:∀d∈g.ad,d.1<n
 al:g.ad.length<=i
 ml:g.mr.length<=i
 dl:A.dn.length<=i
 kl:A.j9.length<=i
 pg:A.pg=[]\/A.pg=[(k:Int)]
structure gx (i n k:Nat)(L:lp)(G:List Gh)(nx B ba ck:Nat)(mk:List Nat)(rs:List dw)(ε:bn)(cell:List Nat): Prop where
 tx:TxI 32 B 262144 ba ck mk rs ε
 ct:iO 32 n k cell (pgA ε)
 sD:1<=ba
 vy:B+2*sumU G<=10+4*i
 vz:ba+szB rs+560*sumU G<=3300+1120*i
 len:L.length=G.length/\G.length<=i
 tQ:1<=nx/\nx<=1+i
 ids:(jI L).Pairwise (· < ·)
 low:∀x∈L,x.1<nx
 tr:∀(j:Nat) x g,L[j]?=some x->G[j]?=some g->vN i n k ba rs x.2.2 g
section
variable {mk':List Nat} {cell:List Nat} {g:Gh}
theorem vN.other (h:vN i n k ba rs A g)(c8:List dw): vN (i+1) n k ba (rs++c8) A g :=
 ⟨h.tr.other c8,h.lt,by have:=h.al;omega,by have:=h.ml;omega,by have:=h.dl;omega,by have:=h.kl;omega,h.pg⟩
theorem vN.succ (h:vN i n k ba rs A g): vN (i+1) n k ba rs A g:=by have:=h.other [];rwa [fZ] at this
theorem wW {l:List (Nat×Int)}: (l_ l).length=l.length:=cL _
theorem gx.same (h:gx i n k L G nx B ba ck mk rs ε cell)(I:TxI 32 B 262144 ba ck mk rs aj)(J:∀m,pgA aj m=pgA ε m): gx (i+1) n k L G nx B ba ck mk rs aj cell :=
 ⟨I,h.ct.FH J,h.sD,by have:=h.vy;omega,by have:=h.vz;omega,⟨h.len.1,by have:=h.len.2;omega⟩,⟨h.tQ.1,by have:=h.tQ.2;omega⟩,h.ids,h.low,λj x g h1 h2=>(h.tr j x g h1 h2).succ⟩
theorem gx.begin (h:gx i n k L G nx B ba ck mk rs ε cell): gx (i+1) n k (L++[(nx,rr,⟨0,0,0,[],[],[]⟩)]) (G++[⟨[],[]⟩]) (nx+1) B ba ck mk rs ε cell:=by
 have h1:=h.len;have h2:=h.tQ;refine⟨h.tx,h.ct,h.sD,by rw[J5];have:=h.vy;simp;omega,by rw[J5];have:=h.vz;simp;omega,⟨Q,Q⟩,⟨Y,Y⟩,?_,λx I=>?_,?_⟩
 .rw[jI,mD,zP];refine⟨h.ids,zH _ _,λa J b hb=>?_⟩;obtain⟨x,I,rfl⟩:=List.mem_map.1 J;rw[List.mem_singleton.1 hb];exact h.low x I
 .rcases List.mem_append.1 I with I|I
  .have:=h.low x I;omega
  grind
 .exact Vy h1.1 (λj x g h1 h2=>(h.tr j x g h1 h2).succ) ⟨tF.new h.sD,λd hd=>(by cases hd),cb,cb,cb,cb,.inl U⟩
theorem FP : jI (L.eraseIdx j)=(jI L).eraseIdx j:=vu.symm
theorem gx.cn (h:gx i n k L G nx B ba ck mk rs ε cell)(hg:G[j]?=some g){J:Nat}{I:List Nat}(ht:TxI 32 J 262144 ba ck mk (rs++c8) aj)(hc:iO 32 n k I (pgA aj))(hB:J<=B+2*g.ad.length+2)(hs:szB c8<=560*g.ad.length+40):
  gx (i+1) n k (L.eraseIdx j) (G.eraseIdx j) nx J ba ck mk (rs++c8) aj I:=by
 have h1:=h.len;have h2:=h.tQ;have h3:=rH hg;have h4:=h.vy;have h5:=h.vz;have hj:=(List.getElem?_eq_some_iff.1 hg).1;refine⟨ht,hc,h.sD,Y,by rw[hG];omega,⟨?_,?_⟩,⟨h2.1,Y⟩,?_,λx hx=>h.low x (List.mem_of_mem_eraseIdx hx),YW λj x g h1 h2=>(h.tr j x g h1 h2).other c8⟩
 .grind
 .grind
 .rw[FP];exact h.ids.sublist (List.eraseIdx_sublist _ _)
theorem uE (I:L[j]?=some (id,rr,A)): jI (L.set j (id,rr,A'))=jI L:=by grind[nK]
theorem I4 (I:L[j]?=some (id,rr,A))(h:∀x∈L,x.1<nx): ∀x∈L.set j (id,rr,A'),x.1<nx:=by
 grind
theorem gx.mark (h:gx i n k L G nx B ba ck mk rs ε cell)(J:L[j]?=some (id,rr,A))(hg:G[j]?=some g):
  gx (i+1) n k (L.set j (id,rr,⟨A.fst,A.cx,A.jT,A.j9++[A.cx],A.dn,A.pg⟩)) (G.set j ⟨g.ad,g.mr++[(A.cx,g.ad.length)]⟩) nx B ba ck mk rs ε cell:=by
 have h1:=h.len;have h2:=h.tQ;have h3:=FN (g':=⟨g.ad,g.mr++[(A.cx,g.ad.length)]⟩) hg;have h4:=h.vy;have h5:=h.vz;have I:vN i n k ba rs A g:=h.tr j _ g J hg;have hm:=I.tr.mark;rw[wW] at hm;dsimp only at h3;refine⟨h.tx,h.ct,h.sD,Y,Y,⟨Q,Q⟩,⟨h2.1,Y⟩,by rw[uE J];exact h.ids,I4 J h.low,FO (λj x g h1 h2=>(h.tr j x g h1 h2).succ) ⟨hm,I.lt,by have:=I.al;show g.ad.length<=_;omega,?_,by have:=I.dl;show A.dn.length<=_;omega,?_,I.pg⟩⟩
 .have:=I.ml;grind
 .have:=I.kl;grind
theorem gx.kept (h:gx i n k L G nx B ba ck mk rs ε cell)(hi:i<=200): vq L/\256<=jY L/\jY L<=1000000000:=by
 have h1:=h.len;have I:∀l:List (Nat×Nat),(∀d∈l,d.2<=1656)->l8 l<=1656*l.length:=by
  intro l;induction l<;>grind[l8]
 have hx:∀x∈L,l8 x.2.2.dn<=331200/\x.2.2.dn.length<=200/\x.2.2.pg.length<=1:=λx hx=>by
  obtain⟨j,hj,rfl⟩:=Dp hx;have J:=h.tr j _ G[j] (aI hj) (aI Y);have e1:=I _ λd hd=>(J.tr.ds.2 d hd).2.2;have e2:=J.dl;exact⟨Y,Y,J.tr.pg⟩
 refine⟨⟨Y,λx hm=>?_⟩,by rw[jY];omega,?_⟩
 .grind
 .have key:∀l:List Nat,(∀z∈l,z<=400000)->l.foldr (·+ ·) 0<=400000*l.length:=by
   intro l;induction l<;>grind[List.mem_cons_self]
  grind[me,qZ,jY]
theorem gx.back {bZ:Nat}(h:gx i n k L G nx B ba ck mk rs ε cell)(hx:L[j]?=some (id,rr,A))(hg:G[j]?=some g)(J:g.mr[Na]?=some (t,bZ))(hy:Dn ba rs A.fst t A.jT (eD (l_ g.ad) bZ) y)
 (hc:iO 32 n k (offC cell (eD (l_ g.ad) bZ)) (pgA aj))(hs:szB c8<=560*(eD (l_ g.ad) bZ).length)(ht:TxI 32 (B+2*(eD (l_ g.ad) bZ).length) 262144 ba ck mk (rs++c8) aj)
 (hl:eD (l_ g.ad) bZ=[]/\c8=[]/\fF=A.cx\/eD (l_ g.ad) bZ≠[]/\ba+szB rs<=fF/\fF<ba+szB (rs++c8)/\Dn ba (rs++c8) A.fst t fF [] y)(hm:mg t nm A.j9):
  gx (i+1) n k (L.set j (id,rr,⟨A.fst,fF,y,A.j9.take nm,A.dn.take nd,A.pg⟩)) (G.set j ⟨g.ad.take bZ,g.mr.take (Na+1)⟩) nx (B+2*(eD (l_ g.ad) bZ).length) ba ck mk (rs++c8) aj (offC cell (eD (l_ g.ad) bZ)):=by
 have h1:=h.len;have h2:=h.tQ;have h3:=FN (g':=⟨g.ad.take bZ,g.mr.take (Na+1)⟩) hg;have h4:=h.vy;have h5:=h.vz;have I:vN i n k ba rs A g:=h.tr j _ g hx hg;obtain⟨m1,m2,m3,_,_⟩:=I.tr.HA (t,bZ) (bz J);rw[wW] at m1;have jE:(eD (l_ g.ad) bZ).length=g.ad.length-bZ:=by grind[eD,wW]
 dsimp only at h3;rw[wD] at h3;have hb:=I.tr.back (fF:=fF) (RU:=A.j9.take nm) (dn':=A.dn.take nd) J hy hl ⟨nm,U,λm EH Bz=>?_⟩ ⟨nd,U⟩
 .rw[show(l_ g.ad).take bZ=l_ (g.ad.take bZ) by rw[l_,l_,List.map_take]] at hb;refine⟨ht,hc,h.sD,Y,by rw[hG];omega,⟨Q,Q⟩,⟨h2.1,Y⟩,by rw[uE hx];exact h.ids,I4 hx h.low,FO (λj x g h1 h2=>(h.tr j x g h1 h2).other c8) ⟨hb,λd hd=>I.lt d (lG hd),?_,?_,?_,?_,I.pg⟩⟩
  .have:=I.al;grind
  .have:=I.ml;grind
  .have:=I.dl;grind
  .have:=I.kl;grind
 .obtain⟨q,hq⟩:=zJ EH;rcases tX q nm with e|e
  .exact bz (i:=q) Q
  .have:=hm.hi e hq;omega
theorem gx.cut {rc:dw}{J:Nat}(h:gx i n k L G nx B ba ck mk rs ε cell)(hp:∀m,pgA aj m=pgA ε m)(hr:rc.len<=128)(he:rs++[rc]=rA++c8)(hA:rA=[]\/∀x∈L,x.2.2.fst≠0->ba+szB rA<=x.2.2.fst)(ht:TxI 32 (B+1) 262144 (ba+szB rA) J mk' c8 aj):
  gx (i+1) n k L G nx (B+1) (ba+szB rA) J mk' c8 aj cell:=by
 have h1:=h.len;have h2:=h.tQ;have h4:=h.vy;have h5:=h.vz;have eR:szB rs+rc.len=szB rA+szB c8:=by
  grind[hG,sq]
 refine⟨ht,h.ct.FH hp,by have:=h.sD;omega,Y,Y,⟨h1.1,Y⟩,⟨h2.1,Y⟩,h.ids,h.low,λj x g e1 e2=>?_⟩;have I:=(h.tr j x g e1 e2).other [rc];rw[he] at I;refine⟨I.tr.cut (λhf=>?_) h.sD,I.lt,I.al,I.ml,I.dl,I.kl,I.pg⟩;rcases hA with rfl|hA
 .rcases I.tr.ft with⟨_,q⟩|⟨_,_,q⟩<;>grind[szB]
 .grind
theorem gx.clean (h:gx i n k L G nx B ba ck mk rs ε cell)(I:∀m,0<=m->pgA aj m=pgA ε m)(J:TxI 32 1 262144 ba ck mk rs aj): gx (i+1) n k L G nx 1 ba ck mk rs aj cell:=by
 have h1:=h.len;have h2:=h.tQ;have h5:=h.vz;exact⟨J,h.ct.afS I,h.sD,Y,Y,⟨h1.1,Y⟩,⟨h2.1,Y⟩,h.ids,h.low,λj x g e1 e2=>(h.tr j x g e1 e2).succ⟩
theorem gx.add {d:Nat}{D:Int}{c:List cU}(h:gx i n k L G nx B ba ck mk rs ε cell)(hx:L[j]?=some (id,rr,A))(hg:G[j]?=some g)(hd:d<n)(hn:n<=50)(J:cost<=1656)
 (hc:iO 32 n k (oV cell d ((ik cell d+vx D)%18446744073709551616)) (pgA aj))(hlen:(dw.mk 1 id A.cx 0 (d::le 8 (vx D)) c).len<=560)(ht:TxI 32 (B+2) 262144 ba ck mk (rs++[⟨1,id,A.cx,0,d::le 8 (vx D),c⟩]) aj):
  gx (i+1) n k (L.set j (id,rr,A.more (ba+szB rs) cost [(k:Int)])) (G.set j ⟨g.ad++[(d,D)],g.mr⟩) nx (B+2) ba ck mk (rs++[⟨1,id,A.cx,0,d::le 8 (vx D),c⟩]) aj (oV cell d ((ik cell d+vx D)%18446744073709551616)):=by
 have h1:=h.len;have h2:=h.tQ;have h3:=FN (g':=⟨g.ad++[(d,D)],g.mr⟩) hg;have h4:=h.vy;have h5:=h.vz;have I:vN i n k ba rs A g:=h.tr j _ g hx hg;obtain⟨hm,ig⟩:=I.tr.more (id:=id) (i:=d) (dn:=vx D) (c:=c) h.sD Y (HE D).2.1 J I.pg;dsimp only at h3;rw[fL,List.length_singleton] at h3;refine⟨ht,hc,h.sD,Y,by rw[hG,sq];omega,⟨Q,Q⟩,⟨h2.1,Y⟩,by rw[uE hx];exact h.ids,I4 hx h.low,FO (λj x g h1 h2=>(h.tr j x g h1 h2).other _) ⟨?_,λe he=>?_,?_,?_,?_,?_,.inr ig⟩⟩
 .grind[l_,vx]
 .rcases List.mem_append.1 he with he|he
  .exact I.lt e he
  grind
 .have:=I.al;grind
 .have:=I.ml;show g.mr.length<=_;omega
 .have:=I.dl;show(A.dn++[_]).length<=_;grind
 .have:=I.kl;show A.j9.length<=_;omega
end
def Bt (C:eP)(f:FuncId)(args:List V)(h:H)(r:V×H): Prop:=eY C f args h r.1 r.2
theorem Call.Bt {J told:Nat->Option (List V->H->Option (V×H))}{f:FuncId}{fn:Func}{R:V->H->Prop}(hC:er ⟨prog,J⟩)(ht:told f=some (iE prog f (Am.Bt ⟨prog,J⟩ f)))(hf:prog.funcs[f]?=some fn)(hb:fn.body.isSome=true)
 (hd:Call ⟨prog,J⟩ f args h R): Call ⟨prog,told⟩ f args h R:=by
 obtain⟨v,h2,I,hR⟩:=hd;obtain⟨r,e1,h1⟩:=mP (P:=prog) (f:=f) (kP:=Am.Bt ⟨prog,J⟩ f) (args:=args) (h:=h) (r:=(v,h2)) I (λc w q_ hw=>by
  obtain⟨N,hN⟩:=I;exact(callF_ok (C:=⟨prog,J⟩) (yl cm hC N).1 hC hN q_ hw).1)
 obtain⟨q1,q2⟩:=eY.ZM h1 I;exact⟨r.1,r.2,eY.told ht hf hb e1,Q⟩
noncomputable def HG : Nat->Option (List V->H->Option (V×H)):=toldP [(82,pinSrt)] oZ
theorem Vz : er ⟨prog,HG⟩:=Bi λx I=>by
 rw[List.mem_singleton.1 I];exact⟨_,Hz,U,O⟩
theorem VA : WO5 HG:=by
 refine⟨Ej λx I=>?_,⟨λg e=>by subst e;rfl⟩,?_⟩
 .rw[List.mem_singleton.1 I];exact⟨O,O,O⟩
 .rfl
noncomputable def xU : Nat->Option (List V->H->Option (V×H)):=toldP [(76,AA),(77,uC)] oZ
theorem VB : er ⟨prog,xU⟩:=Bi λx I=>by
 simp only[rO,oD,tZ] at I;rcases I with rfl|rfl
 .exact⟨_,CZ,U,O⟩
 .exact⟨_,M8,U,O⟩
theorem Nt : W xU:=Ej λx I=>by
 simp only[rO,oD,tZ] at I;rcases I with rfl|rfl<;>exact⟨O,O,O⟩
theorem VC : Fre xU 33:=⟨λg e=>by subst e;rfl⟩
theorem VD : WK xU:=⟨Nt,U⟩
theorem VE : WC xU:=⟨Nt,U⟩
structure tH (told:bU): Prop where
 x:WX told
 w2:W2 told
 act:told 37=some (iE prog 37 (Am.Bt ⟨prog,HG⟩ 37))
 ckp:told 33=some (iE prog 33 (Am.Bt ⟨prog,xU⟩ 33))
def P6 (c m a p q r n k i:Nat)(v1 v2 v3 v4 v5:V)(h:H)(S:List aH): Prop:=∃nx L G B ba ck mk rs ε cell data aF,gx i n k L G nx B ba ck mk rs ε cell /\
 Sat h (BL v1 v2 v3 v4 v5 (nJ n cell) (jI L) G::pt c (.cells 2 [.ptr m 0,.int .i64 (n:Int)] false)::eL m a nx (ju c) L::SA a p q r .aW data aF ε::S)
section
variable {told:bU} {m p:Nat} {cell:List Nat} {g:Gh}
theorem kR (s:Sat h (HC w1 w2 w3 w4 w5 iY ids G::S)): [w1,w2,w3,w4,w5].all storable=true:=by
 obtain⟨a3,a4,a5,s⟩:=jQ.1 s;have I:=s.cz 0 U;have J:=s.cz 1 U;have Af:=s.cz 2 U;have E5:=s.cz 4 U;have E6:=s.cz 6 U;simp[I.2.1,J.2.1,Af.2.1,E5.2.1,E6.2.1]
theorem HH (s:Sat h (BL w1 w2 w3 w4 w5 iY ids G::S)): [w1,w2,w3,w4,w5].all storable=true:=by
 obtain⟨a3,a4,a5,s⟩:=oM.1 s;have I:=s.vV 0 U;have J:=s.vV 1 U;have Af:=s.vV 2 U;have E5:=s.vV 4 U;have E6:=s.vV 6 U;simp[I.2.1,J.2.1,Af.2.1,E5.2.1,E6.2.1]
abbrev tR (c m a p q r n k i pr:Nat)(S:List aH)(a8:Ex->List (Nat×V)->H->Prop): Prop:=∀E' h' (e:Int) w1 w2 w3 w4 w5,(e=0\/e=7)->Has E' [(6,.ptr pr 0),(7,.int .i64 e),(8,.bool true)] ->
 P6 c m a p q r n k (i+1) w1 w2 w3 w4 w5 h' (pt pr (.cells 5 [w1,w2,w3,w4,w5] false)::S)->a8 .ret E' h'
abbrev yK (pm pd pr c m a p q r n nx aF:Nat)(w1 w2 w3 w4 w5:V)(rv:List V)(D0 D1 D2 D3:Int)(L:lp)(G:List Gh)(cell data:List Nat)(ε:bn)(S:List aH): List aH :=
 pt pm (.cells 5 [w1,w2,w3,w4,w5] false)::pt pd (.cells 4 [.int .i64 D0,.int .i64 D1,.int .i64 D2,.int .i64 D3] false)::pt pr (.cells 5 rv false)::HC w1 w2 w3 w4 w5 (nJ n cell) (jI L) G::pt c (.cells 2 [.ptr m 0,.int .i64 (n:Int)] false)::eL m a nx (ju c) L::SA a p q r .aW data aF ε::S
abbrev sE (c m pm pd pr:Nat)(kv pU:Int): List (Nat×V):=[(0,.ptr c 0),(4,.ptr pm 0),(5,.ptr pd 0),(6,.ptr pr 0),(9,.ptr m 0),(10,.int .i64 kv),(11,.int .u64 pU)]
theorem acj : gM ⟨ad,mr++[(t,n)]⟩=fR (mr.map (·.2))++[.int .i64 (n:Int)]:=by
 show fR ((mr++[(t,n)]).map (·.2))=_;rw[mD];exact mD
theorem ack : gT ⟨ad,mr++[(t,n)]⟩=aK (mr.map (·.1))++[.int .u64 (t:Int)]:=by
 show aK ((mr++[(t,n)]).map (·.1))=_;rw[mD];exact mD
theorem Sat.tI {off:Nat}{v c:V}{t t':TypeId}(s:Sat h S)(J:getA S j=some (.arr 1 v cs))(hc:cs[i]?=some c)(hu:P.underlying t=some (.slice e))(I:bf P e=some 1)(he:indexAddrV P t v (.int .i64 (i:Int))=some (.ptr id off))(ht:isAggT P t'=some false): loadV P h t' (.ptr id off)=some c:=by
 grind[dB]
noncomputable def st5 : Code:=aV [1,1,1,1,1,1,0,1,0,1,1,1,0] ((f45.body).getD .skip)
theorem aeo (hT:tH told)(J:gx i n k L G nx B ba ck mk rs ε cell)(hi:i<200)(hx:∀x∈L,x.1≠id)(s:Sat h (yK pm pd pr c m a p q r n nx aF w1 w2 w3 w4 w5 rv D0 D1 D2 D3 L G cell data ε S))(hE:Has E (sE c m pm pd pr (-1) id))(hq:tR c m a p q r n k i pr S a8):
  WP ⟨prog,told⟩ 378 st5 E h a8:=by
 have hW:=hT.x.w;have I:=kR (s.ae [3]);refine WP.has hE (zK 4 U (zc U (Vm hW hx (s.ae [5])) ?_));rintro v h ⟨rfl,s⟩;refine zk 6 U (zB U aG O<|zk 4 U (zl U (s.bW (k:=1) U i_ dP) (zm U (zB U bH O<|zS U (s.dS (j:=3) U dP U I) λh s=>zk 3 U (WP.ret ?_)))));have s:=(gU (s.ae [4])).ae [0,4,0,3,2];exact hq _ _ 0 w1 w2 w3 w4 w5 (.inl U) ⟨U,U,U,aa⟩ ⟨_,_,_,_,_,_,_,_,_,_,_,_,J.same J.tx λ_=>U,(s.del 6 |>.del 5)⟩
theorem br5 (hT:tH told)(I:gx i n k L G nx B ba ck mk rs ε cell)(hi:i<200)(hx:L[j]?=some (id,rr,A))(hg:G[j]?=some g)(s:Sat h (yK pm pd pr c m a p q r n nx aF w1 w2 w3 w4 w5 rv D0 D1 D2 D3 L G cell data ε S))(hE:Has E (sE c m pm pd pr (j:Int) id))(hq:tR c m a p q r n k i pr S a8):
  WP ⟨prog,told⟩ 378 st5 E h a8:=by
 have hW:=hT.x.w;have dG:=kR (s.ae [3]);have yL:vN i n k ba rs A g:=I.tr j _ g hx hg;have hlen:=I.len;have FQ:=I.vy;have FR:=I.vz;have kC:=I.tQ;have fV:=I.low _ (bz hx);have bY:=yL.tr.lt;have F1:=rH hg;have Cr:=(List.getElem?_eq_some_iff.1 hg).1;have oW:=I.sD;dsimp only at fV;refine WP.has hE (zK 4 U (zc U (Va hT.x.wo.wt Y I.tx Y O Y hx Y Y (s.ae [5,5])) ?_));rintro v h ⟨rfl,c8,aj,ig,eR,jR,s⟩;refine zk 6 U (zC U aG cb<|zk 7 U (zC U aE O<|zk 5 U (zl U (s.bW (k:=2) U i_ dP) (zm U ?_))));have s:=gU (s.ae [5]);refine zc U (E7 hW Cr Q Y s) ?_;rintro v h ⟨x2,x3,x4,x5,rfl,s⟩;have J:=HH s;refine zS U (s.dS (j:=5) U dP U J) λh s=>zk 3 U (WP.ret ?_);rw[<-FP] at s;have s:=s.ae [0,5,0,0,2];exact hq _ _ 0 w1 x2 x3 x4 x5 (.inl U) ⟨U,U,U,aa⟩ ⟨_,_,_,_,_,_,_,_,_,_,_,_,I.cn hg jR (I.ct.FH ig) Y Y,(s.del 6 |>.del 5)⟩
noncomputable def st6 : Code:=aV [1,1,1,1,1,1,0,1,0,1,1,1,1,1,0] ((f45.body).getD .skip)
theorem aep (hT:tH told)(J:gx i n k L G nx B ba ck mk rs ε cell)(hi:i<200)(hx:∀x∈L,x.1≠id)(s:Sat h (yK pm pd pr c m a p q r n nx aF w1 w2 w3 w4 w5 rv D0 D1 D2 D3 L G cell data ε S))(hE:Has E (sE c m pm pd pr (-1) id))(hq:tR c m a p q r n k i pr S a8):
  WP ⟨prog,told⟩ 378 st6 E h a8:=by
 have hW:=hT.x.w;have I:=kR (s.ae [3]);refine WP.has hE (zK 4 U (zc U (YH hW hx (s.ae [5])) ?_));rintro v h ⟨rfl,s⟩;refine zk 6 U (zB U aG O<|zk 4 U (zl U (s.bW (k:=1) U i_ dP) (zm U (zB U bH O<|zS U (s.dS (j:=3) U dP U I) λh s=>zk 3 U (WP.ret ?_)))));have s:=(gU (s.ae [4])).ae [0,4,0,3,2];exact hq _ _ 0 w1 w2 w3 w4 w5 (.inl U) ⟨U,U,U,aa⟩ ⟨_,_,_,_,_,_,_,_,_,_,_,_,J.same J.tx λ_=>U,(s.del 6 |>.del 5)⟩
theorem br6 (hT:tH told)(J:gx i n k L G nx B ba ck mk rs ε cell)(hi:i<200)(hx:L[j]?=some (id,rr,A))(hg:G[j]?=some g)(hn:n<=50)(s:Sat h (yK pm pd pr c m a p q r n nx aF w1 w2 w3 w4 w5 rv D0 D1 D2 D3 L G cell data ε S))(hE:Has E (sE c m pm pd pr (j:Int) id))(hq:tR c m a p q r n k i pr S a8):
  WP ⟨prog,told⟩ 378 st6 E h a8:=by
 have hW:=hT.x.w;have dG:=kR (s.ae [3]);have I:vN i n k ba rs A g:=J.tr j _ g hx hg;have hlen:=J.len;have FQ:=J.vy;have FR:=J.vz;have kC:=J.tQ;have fV:=J.low _ (bz hx);have bY:=I.tr.lt;have F1:=rH hg;have Cr:=(List.getElem?_eq_some_iff.1 hg).1;have oW:=J.sD;dsimp only at fV;have jE:(eD (l_ g.ad) 0).length=g.ad.length:=by grind[eD,wW]
 have yh:=I.al;refine WP.has hE (zK 4 U (zc U (Vn hT.x.wo.wt J.sD J.tx O Y hx I.tr.EZ J.ct Y Y Y Y I.tr.nl (by have:=I.dl;omega) (λd hd=>(I.tr.ds.2 d hd).1) (s.ae [5,5])) ?_));rintro v h ⟨rfl,c8,aj,YX,eR,jR,s⟩;rw[jE] at eR jR;refine zk 6 U (zC U aG cb<|zk 5 U (zl U (s.bW (k:=2) U i_ dP) (zm U ?_)));have s:=Vx (s.ae [5]);refine zc U (Nr (n:=0) (g:=g) (k:=j) (sz:=n) (cell:=cell) hW hg Y (dz _) Y J.ct.len hn I.lt s) ?_;rintro v h ⟨rfl,s⟩;have s:=I3 s;refine zm U (zc U (E7 hW Q Q Q s) ?_);rintro v h ⟨x2,x3,x4,x5,rfl,s⟩;have uo:=HH s;refine zk 2 U (zB U bH O<|zk 4 U (zS U (s.dS (j:=5) U dP U uo) λh s=>zk 3 U (WP.ret ?_)));rw[List.eraseIdx_set_eq,<-FP] at s;have s:=s.ae [0,5,0,0,2];exact hq _ _ 0 w1 x2 x3 x4 x5 (.inl U) ⟨U,U,U,aa⟩ ⟨_,_,_,_,_,_,_,_,_,_,_,_,J.cn hg jR YX Y Y,(s.del 6 |>.del 5)⟩
noncomputable def st7 : Code:=aV [1,1,1,1,1,1,0,1,0,1,1,1,1,1,1,1,0] ((f45.body).getD .skip)
theorem aeq (hT:tH told)(J:gx i n k L G nx B ba ck mk rs ε cell)(hi:i<200)(hx:∀x∈L,x.1≠id)(s:Sat h (yK pm pd pr c m a p q r n nx aF w1 w2 w3 w4 w5 rv D0 D1 D2 D3 L G cell data ε S))(hE:Has E (sE c m pm pd pr (-1) id))(hq:tR c m a p q r n k i pr S a8):
  WP ⟨prog,told⟩ 378 st7 E h a8:=by
 have hW:=hT.x.w;have I:=kR (s.ae [3]);refine WP.has hE (zK 4 U (zc U (ab7 hW hx (s.ae [5])) ?_));rintro v h ⟨rfl,s⟩;refine zk 10 U (zB U aG O<|zk 4 U (zl U (s.bW (k:=1) U i_ dP) (zm U (zB U bH O<|zk 2 U (zB U bH O<|zq U (zS U (s.dS (j:=3) U dP U I) λh s=>zk 3 U (WP.ret ?_)))))));have s:=(gU (s.ae [4])).ae [0,4,0,3,2];exact hq _ _ 0 w1 w2 w3 w4 w5 (.inl U) ⟨U,U,U,aa⟩ ⟨_,_,_,_,_,_,_,_,_,_,_,_,J.same J.tx λ_=>U,(s.del 6 |>.del 5)⟩
set_option maxHeartbeats 1000000 in
theorem br7 (hT:tH told)(hP:gx i n k L G nx B ba ck mk rs ε cell)(hi:i<200)(hx:L[j]?=some (id,rr,A))(hg:G[j]?=some g)(s:Sat h (yK pm pd pr c m a p q r n nx aF w1 w2 w3 w4 w5 rv D0 D1 D2 D3 L G cell data ε S))(hE:Has E (sE c m pm pd pr (j:Int) id))(hq:tR c m a p q r n k i pr S a8):
  WP ⟨prog,told⟩ 378 st7 E h a8:=by
 have hW:=hT.x.w;have dG:=kR (s.ae [3]);have yL:vN i n k ba rs A g:=hP.tr j _ g hx hg;have hlen:=hP.len;have FQ:=hP.vy;have FR:=hP.vz;have kC:=hP.tQ;have fV:=hP.low _ (bz hx);have bY:=yL.tr.lt;have F1:=rH hg;have Cr:=(List.getElem?_eq_some_iff.1 hg).1;have oW:=hP.sD;dsimp only at fV;have yh:=yL.al;have EM:=yL.ml;refine WP.has hE (zg U (zm U (zm U (aq.call U U U U U U U (ab8 hW hx (by have:=yL.kl;omega) (s.ae [5])) ?_))));rintro v h ⟨rfl,s⟩;dsimp only[aB,bringA] at s;refine zm U (ze U (ze U (za U (za U (zv (zw (zg U (zm U (aq.kK U U U (ag U U aG) cb<|zv (zj U (WP.skip (zw ?_))))))))))));obtain⟨a3,a4,a5,s⟩:=jQ.1 (s.ae [4]);have s:=s.ae [9,9,9,0,0,0,0,0,0,0,0,0,0,0];dsimp only[aB,bringA,getA] at s;have xS:=dD (s.ae [6]);have xP:=dD (s.ae [8]);have AB:=dD (s.ae [10]);rw[cL] at xS xP AB;obtain⟨u3,J1⟩:∃u,a3[j]?=some u:=⟨_,aI Y⟩;obtain⟨u4,xT⟩:∃u,a4[j]?=some u:=⟨_,aI Y⟩;obtain⟨u5,tG⟩:∃u,a5[j]?=some u:=⟨_,aI Y⟩;have J2:(G.map gA)[j]?=some (gA g):=Q;have BM:(G.map gM)[j]?=some (gM g):=Q;have Dd:(G.map gT)[j]?=some (gT g):=Q;obtain⟨r3,o3,z1,z2⟩:=dB (P:=prog) s (k:=5) (i:=j) (c:=u3) U J1 jL sP;have z2:=z2 94 Ci;have sL:=(fG J1 J2).1 (s.ae [6]);have z3:=sL.fo g.ad.length (P:=prog) (t:=94) (j:=0) U (uD _) O xO;have J:=(fG xT BM).1 (s.ae [8]);dsimp only[aB,bringA] at J;obtain⟨r4,o4,x1,_⟩:=dB (P:=prog) J (k:=9) (i:=j) (c:=u4) U xT kf mM;have lD:=(J.cz 9 U).2.2;have tL:=(J.cz 0 U).2.2;obtain⟨i1,gD,fH,gu⟩:=Nn;obtain⟨xv,h1,f1,t1⟩:=fP prog (k:=1) (x:=.int .i64 (g.ad.length:Int)) J dN EG kr U O O U U;have I:=t1.ae [1,1,1,1,1,1,1,1,1,1,1,1,1,1,1];dsimp only[V.cells,bringA,getA,aB] at I;obtain⟨w,h2,f2,t2⟩:=dV (t1.ae [1,0]) dN gD EG fH gu U O (by show(fR (g.mr.map (·.2))).length+1<=_;rw[iN,cL];omega);dsimp only[V.cells,aB,bringA] at t2;have su:=t2.cz 0 U;have De:=t2.ae [3];dsimp only[bringA,getA,aB] at De;obtain⟨r9,o9,h3,y1,y2,t3⟩:=k_ (P:=prog) (t:=87) (i:=j) (x:=w) (t2.ae [10]) Y su.1 su.2.1 kf mM;have s:=J;refine WP.xu [some (0,3),some (0,3),some (0,3),some (0,2),some (0,2),some (0,2),some (0,2),some (0,2),af,af,af,af,af,af,af,af,af,af] U bo bo<|zF U (jJ _ _) (zL U (by exact s.ld 2 U ny U)<|zM U (zF U (jJ _ _) (zL U (by exact s.ld 2 U ny U)<|zM U (zO U (aJ (.ptr r4 o4) U U x1) (zL U (s.tI (j:=9) U xT kf mM x1 jV) (zF U (je _ _) (zL U (by exact s.ld 2 U mz U)<|zM U (zO U (aJ (.ptr r3 o3) U U z1) (zL U z2 (zO U (aO U U U z3) (ah.any U U U U (OpR.of (R:=λv h'=>v=xv/\h'=h1) (jj U f1) ⟨U,U⟩) ?_)))))))))));rintro xv h1 ⟨rfl,rfl⟩;have s:=I;refine ah.any U U U U (OpR.of (R:=λv h'=>v=w/\h'=h2) (fN U U f2) ⟨U,U⟩) ?_;rintro w h2 ⟨rfl,rfl⟩;have s:=De;refine zO U (aJ (.ptr r9 o9) U U y1) (ah.cy U U U (OpR.dX U U U (⟨h3,y2,t3⟩)) ?_);rintro _ h ⟨rfl,s⟩;dsimp only[aB,bringA] at s;refine ah.nil ⟨⟨⟨λ_ _=>.inr ⟨U,⟨_,gy U (jJ _ _)⟩,aA _ U⟩,lT (.inr ⟨U,⟨_,o_load U (by exact J.ld 2 U ny U)⟩,lD⟩) (.inr ⟨U,⟨_,o_load U (by exact I.ld 2 U ny U)⟩,lD⟩) (.inr ⟨U,⟨_,o_load U (by exact De.ld 0 U ny U)⟩,lD⟩),λ_ _=>.inr ⟨U,⟨_,aD U⟩,aA _ U⟩,λ_ _=>.inr ⟨U,⟨_,gy U (jJ _ _)⟩,aA _ U⟩,cY (.inr ⟨U,⟨_,o_load U (by exact J.ld 2 U ny U)⟩,lD⟩) (.inr ⟨U,⟨_,o_load U (by exact I.ld 2 U ny U)⟩,lD⟩),λ_ _=>.inr ⟨U,⟨_,aD U⟩,aA _ U⟩,λ_ _=>.inr ⟨U,⟨_,aJ (.ptr r4 o4) U U x1⟩,aA _ U⟩,cY (.inr ⟨U,⟨_,o_load U (J.tI (j:=9) U xT kf mM x1 jV)⟩,tL⟩) (.inr ⟨U,⟨_,o_load U (I.tI (j:=9) U xT kf mM x1 jV)⟩,tL⟩),dq 11⟩,.inl U,.inl U,.inl U,.inl U,.inl U,.inl U,.inl U,.inl U,.inl U,.inl U,.inl U,.inl U,.inl U,.inl U,.inr U,.inl U,.inl U,.inl U,aa⟩,?_⟩;have s:=sx xT BM (v':=w) (cs':=fR (g.mr.map (·.2))++[.int .i64 (g.ad.length:Int)]) (s.ae [1,2]);have s:=(s.del 2).ae [2,2,2,2,2,2,2,1,0,0,0,0,0,0];dsimp only[aB,bringA,getA] at s;refine zw ?_;have J:=(fG tG Dd).1 (s.ae [10]);dsimp only[aB,bringA] at J;obtain⟨r5,o5,x1,_⟩:=dB (P:=prog) J (k:=11) (i:=j) (c:=u5) U tG mT oR;have Nu:=(J.cz 11 U).2.2;have tL:=(J.cz 0 U).2.2;obtain⟨i1,gD,fH,gu⟩:=nQ;obtain⟨xv,h1,f1,t1⟩:=fP prog (k:=1) (x:=.int .u64 (A.cx:Int)) J dg rq gL U O O U U;have I:=t1.ae [1,1,1,1,1,1,1,1,1,1,1,1,1,1,1];dsimp only[V.cells,bringA,getA,aB] at I;obtain⟨w,h2,f2,t2⟩:=dV (t1.ae [1,0]) dg gD rq fH gu U O (by show(aK (g.mr.map (·.1))).length+1<=_;rw[dh,cL];omega);dsimp only[V.cells,aB,bringA] at t2;have su:=t2.cz 0 U;have De:=t2.ae [3];dsimp only[bringA,getA,aB] at De;obtain⟨r9,o9,h3,y1,y2,t3⟩:=k_ (P:=prog) (t:=88) (i:=j) (x:=w) (t2.ae [12]) Y su.1 su.2.1 mT oR;have s:=J;refine WP.xu [some (0,3),some (0,3),some (0,3),some (0,2),some (0,2),some (0,2),some (0,2),some (0,2),af,af,af,af,af] U bo bo<|zF U (kM _ _) (zL U (by exact s.ld 2 U oS U)<|zM U (zF U (kM _ _) (zL U (by exact s.ld 2 U oS U)<|zM U (zO U (aJ (.ptr r5 o5) U U x1) (zL U (s.tI (j:=11) U tG mT oR x1 j5) (zM U (ah.any U U U U (OpR.of (R:=λv h'=>v=xv/\h'=h1) (jj U f1) ⟨U,U⟩) ?_)))))));rintro xv h1 ⟨rfl,rfl⟩;have s:=I;refine ah.any U U U U (OpR.of (R:=λv h'=>v=w/\h'=h2) (fN U U f2) ⟨U,U⟩) ?_;rintro w h2 ⟨rfl,rfl⟩;have s:=De;refine zO U (aJ (.ptr r9 o9) U U y1) (ah.cy U U U (OpR.dX U U U (⟨h3,y2,t3⟩)) ?_);rintro _ h ⟨rfl,s⟩;dsimp only[aB,bringA] at s;refine ah.nil ⟨⟨⟨λ_ _=>.inr ⟨U,⟨_,gy U (kM _ _)⟩,aA _ U⟩,lT (.inr ⟨U,⟨_,o_load U (by exact J.ld 2 U oS U)⟩,Nu⟩) (.inr ⟨U,⟨_,o_load U (by exact I.ld 2 U oS U)⟩,Nu⟩) (.inr ⟨U,⟨_,o_load U (by exact De.ld 0 U oS U)⟩,Nu⟩),λ_ _=>.inr ⟨U,⟨_,aD U⟩,aA _ U⟩,λ_ _=>.inr ⟨U,⟨_,gy U (kM _ _)⟩,aA _ U⟩,cY (.inr ⟨U,⟨_,o_load U (by exact J.ld 2 U oS U)⟩,Nu⟩) (.inr ⟨U,⟨_,o_load U (by exact I.ld 2 U oS U)⟩,Nu⟩),λ_ _=>.inr ⟨U,⟨_,aD U⟩,aA _ U⟩,λ_ _=>.inr ⟨U,⟨_,aJ (.ptr r5 o5) U U x1⟩,aA _ U⟩,cY (.inr ⟨U,⟨_,o_load U (J.tI (j:=11) U tG mT oR x1 j5)⟩,tL⟩) (.inr ⟨U,⟨_,o_load U (I.tI (j:=11) U tG mT oR x1 j5)⟩,tL⟩),dq 6⟩,.inl U,.inl U,.inl U,.inl U,.inl U,.inl U,.inl U,.inl U,.inl U,.inr U,.inl U,.inl U,.inl U,aa⟩,?_⟩;have s:=sx tG Dd (v':=w) (cs':=aK (g.mr.map (·.1))++[.int .u64 (A.cx:Int)]) (s.ae [1,2]);have s:=(s.del 2).ae [2,2,2,2,2,2,2,2,2,1,0,0,0,0];dsimp only[aB,bringA,getA] at s;have eA:G.map gA=(G.set j ⟨g.ad,g.mr++[(A.cx,g.ad.length)]⟩).map gA:=(nK (x':=⟨g.ad,g.mr++[(A.cx,g.ad.length)]⟩) hg U).symm;have eM:(G.map gM).set j (fR (g.mr.map (·.2))++[.int .i64 (g.ad.length:Int)])=(G.set j ⟨g.ad,g.mr++[(A.cx,g.ad.length)]⟩).map gM:=by rw[qd,acj]
 have eT:(G.map gT).set j (aK (g.mr.map (·.1))++[.int .u64 (A.cx:Int)])=(G.set j ⟨g.ad,g.mr++[(A.cx,g.ad.length)]⟩).map gT:=by rw[qd,ack]
 rw[eA,eM,eT] at s;have s:=s.ae [3,3,3,3,3,3,3,3];dsimp only[bringA,getA,aB] at s;have s:=gU (jQ.2 ⟨_,_,_,s⟩);refine zg U (zl U (s.bW (k:=1) U i_ dP) (zm U (zm U (aq.ot U U U (ag U U bH) O<|zm U (zx U (zx U (zq U (aq.dX U U U U U (s.dS (j:=3) U dP U dG) λh s=>?_))))))));dsimp only[setA] at s;refine za U (za U (zv (WP.ret ?_)));rw[<-uE (A':=⟨A.fst,A.cx,A.jT,A.j9++[A.cx],A.dn,A.pg⟩) hx] at s;have s:=s.ae [0,4,3,3,2];dsimp only[bringA,getA,aB] at s;exact hq _ _ 0 w1 w2 w3 w4 w5 (.inl U) ⟨U,U,U,aa⟩ ⟨_,_,_,_,_,_,_,_,_,_,_,_,hP.mark hx hg,(s.del 6 |>.del 5)⟩
end
section
variable {told:bU} {m p:Nat} {cell:List Nat} {g:Gh}
theorem aer (s:Sat h (HC w1 w2 w3 w4 w5 iY ids G::S)): V.beq (.agg [w1,w2,w3,w4,w5]) (.agg [w1,w2,w3,w4,w5])=true:=by
 obtain⟨a3,a4,a5,s⟩:=jQ.1 s;have I:=(s.cz 0 U).2.2;have J:=(s.cz 1 U).2.2;have Af:=(s.cz 2 U).2.2;have E5:=(s.cz 4 U).2.2;have E6:=(s.cz 6 U).2.2;show V.beqL _ _=true;simp only[V.beqL,I,J,Af,E5,E6,ak]
noncomputable def st8 : Code:=aV [1,1,1,1,1,1,0,1,0,1,1,1,1,1,1,1,1,1,0] ((f45.body).getD .skip)
theorem aes (hT:tH told)(hP:gx i n k L G nx B ba ck mk rs ε cell)(hi:i<200)(hx:∀x∈L,x.1≠id)(s:Sat h (yK pm pd pr c m a p q r n nx aF w1 w2 w3 w4 w5 rv D0 D1 D2 D3 L G cell data ε S))(hE:Has E (sE c m pm pd pr (-1) id))(hq:tR c m a p q r n k i pr S a8):
  WP ⟨prog,told⟩ 378 st8 E h a8:=by
 have hW:=hT.x.w;have J:=kR (s.ae [3]);have I:=aer (s.ae [3]);have s:=s.ae [5];refine WP.has hE (zK 4 U (zB U aG O<|zk 3 U ?_));have s0:=s;refine WP.drawn [some (0,2),af,af,af,some (1,2),af,af,af] U bo bo<|zL U (s.bW (k:=1) U i_ dP) (zM U (zM U (ah.any U U U U (OpR.call U U U U (ab9 hW hx s)) ?_)));rintro v h ⟨rfl,s⟩;have s1:=s;refine ah.ot U U U U (ag U U bH) O<|ah.cy U U U (OpR.dX U U U (s.dS (j:=3) U dP U J)) ?_;rintro _ h ⟨rfl,s⟩;refine zA U (zA U<|ah.nil ⟨⟨cY (.inr ⟨U,⟨_,o_load U (s0.bW (k:=1) U i_ dP)⟩,I⟩) (.inr ⟨U,⟨_,o_load U (s1.bW (k:=1) U i_ dP)⟩,I⟩),aa,aa,aa,λ_ _=>.inr ⟨U,⟨_,ag U U bH⟩,aA _ U⟩,dq 4⟩,WP.ret ?_⟩);have s:=(gU (s.ae [4])).ae [0,4,0,3,2];exact hq _ _ 0 w1 w2 w3 w4 w5 (.inl U) ⟨U,U,U,aa⟩ ⟨_,_,_,_,_,_,_,_,_,_,_,_,hP.same hP.tx λ_=>U,(s.del 6 |>.del 5)⟩
theorem aac {t:TypeId}{x y:Operand}{a:Int}(I:0<b): binV P h .rem t x y (.int .i64 a) (.int .i64 (b:Int))=some (.int .i64 (a.tmod b)):=by
 simp only[binV,ikBeq,ak,intV];grind[nW]
theorem Nv {to:Nat}: ∀ {l:List Nat},l.Pairwise (· <= ·)->∃n,mg to n l:=by
 intro l;induction l with
 |nil=>exact λ_=>⟨0,dz _,λd hd=>(by cases hd),λd hd=>(by cases hd)⟩
 |cons x l I =>
  intro h;rw[List.pairwise_cons] at h;by_cases hx:x<=to
  .obtain⟨n,h1,h2,J⟩:=I h.2;refine⟨n+1,by simp;omega,λd hd=>?_,λd hd=>J d (by simpa using hd)⟩<;>grind
  .refine⟨0,dz _,λd hd=>(by cases hd),λd hd=>?_⟩<;>grind
theorem acm : (gM g).take n=gM ⟨ad,g.mr.take n⟩:=by
 show(fR (g.mr.map (·.2))).take n=fR ((g.mr.take n).map (·.2));grind[fR,List.map_take]
theorem acn : (gT g).take n=gT ⟨ad,g.mr.take n⟩:=by
 show(aK (g.mr.map (·.1))).take n=aK ((g.mr.take n).map (·.1));grind[aK,List.map_take]
theorem VF {bZ:Nat}(hg:G[j]?=some g)(hq:g.mr[q]?=some (t,bZ))(s:Sat h (J3 w1 w2 w3 w4 w5 iY ids G::S)): (∃r o u r2 I,indexAddrV prog 87 w4 (.int .i64 (j:Int))=some (.ptr r o)/\loadV prog h 122 (.ptr r o)=some u/\indexAddrV prog 122 u (.int .i64 (q:Int))=some (.ptr r2 I)/\loadV prog h 3 (.ptr r2 I)=some (.int .i64 (bZ:Int))) /\
  ∃r o u r2 I,indexAddrV prog 88 w5 (.int .i64 (j:Int))=some (.ptr r o)/\loadV prog h 33 (.ptr r o)=some u/\indexAddrV prog 33 u (.int .i64 (q:Int))=some (.ptr r2 I)/\loadV prog h 32 (.ptr r2 I)=some (.int .u64 (t:Int)):=by
 obtain⟨a3,a4,a5,s⟩:=oN.1 s;have Cr:=(List.getElem?_eq_some_iff.1 hg).1;have hql:=(List.getElem?_eq_some_iff.1 hq).1;have xP:=dD (s.ae [5]);have AB:=dD (s.ae [7]);rw[cL] at xP AB;obtain⟨u4,J⟩:∃u,a4[j]?=some u:=⟨_,aI Y⟩;obtain⟨u5,tG⟩:∃u,a5[j]?=some u:=⟨_,aI Y⟩;have BM:(G.map gM)[j]?=some (gM g):=Q;have Dd:(G.map gT)[j]?=some (gT g):=Q;obtain⟨r4,o4,x1,x2⟩:=dB (P:=prog) s (k:=4) (i:=j) (c:=u4) U J kf mM;obtain⟨r5,o5,x3,x4⟩:=dB (P:=prog) s (k:=6) (i:=j) (c:=u5) U tG mT oR;have e4:(gM g).length=g.mr.length:=by show(fR (g.mr.map (·.2))).length=_;rw[iN,cL]
 have e5:(gT g).length=g.mr.length:=by show(aK (g.mr.map (·.1))).length=_;grind[dh]
 obtain⟨r6,o6,y1,_,y2⟩:=((fG J BM).1 (s.ae [5])).JX (P:=prog) (j:=0) (i:=q) (k:=1) U Y O dN kr;obtain⟨r7,o7,y3,_,y4⟩:=((fG tG Dd).1 (s.ae [7])).JX (P:=prog) (j:=0) (i:=q) (k:=1) U Y O dg gL;exact⟨⟨r4,o4,u4,r6,o6,x1,x2 _ jV,y1,y2 _ (by grind[gM,fR]) _ cW⟩,
  r5,o5,u5,r7,o7,x3,x4 _ j5,y3,y4 _ (by grind[gT,aK]) _ b8⟩
noncomputable def ahI : Code:=aV [1,1,1,1,1,1,0,1,0,1,1,1,1,1,1,1,1,1,0,1,1,1,1] ((f45.body).getD .skip)
theorem Nw (hT:tH told)(J:gx i n k L G nx B ba ck mk rs ε cell)(hi:i<200)(hx:L[j]?=some (id,rr,A))(hg:G[j]?=some g)(hn:n<=50)(dG:[w1,w2,w3,w4,w5].all storable=true){q0 bZ:Nat}(iM:g.mr[q]?=some (t,bZ))(s:Sat h (pt pm (.cells 5 [w1,w2,w3,w4,w5] false)::pt pd (.cells 4 [.int .i64 D0,.int .i64 D1,.int .i64 D2,.int .i64 D3] false)::pt pr (.cells 5 rv false)::J3 w1 w2 w3 w4 w5 (nJ n cell) (jI L) G::eL m a nx (ju c) L::pt c (.cells 2 [.ptr m 0,.int .i64 (n:Int)] false)::SA a p q0 r .aW data aF ε::S))(hE:Has E ((19,.int .i64 (q:Int))::sE c m pm pd pr (j:Int) id))(hq:tR c m a p q0 r n k i pr S a8):
  WP ⟨prog,told⟩ 378 ahI E h a8:=by
 have hW:=hT.x.w;have I:vN i n k ba rs A g:=J.tr j _ g hx hg;have hlen:=J.len;have FQ:=J.vy;have FR:=J.vz;have kC:=J.tQ;have fV:=J.low _ (bz hx);have bY:=I.tr.lt;have F1:=rH hg;have Cr:=(List.getElem?_eq_some_iff.1 hg).1;have oW:=J.sD;have yh:=I.al;have EM:=I.ml;dsimp only at fV;obtain⟨m1,m2,m3,⟨y,m4⟩,_⟩:=I.tr.HA (t,bZ) (bz iM);rw[wW] at m1;have m1:bZ<=g.ad.length:=m1;have m3:t∈A.j9:=m3;have m4:Dn ba rs A.fst t A.jT (eD (l_ g.ad) bZ) y:=m4;have jE:(eD (l_ g.ad) bZ).length=g.ad.length-bZ:=by grind[eD,wW]
 obtain⟨nd,mh⟩:=Nv (to:=t) (l:=A.dn.map (·.1)) (by rw[HQ];exact I.tr.ds.1);obtain⟨nm,ZN⟩:=Nv (to:=t) (l:=A.j9) I.tr.ms.1;obtain⟨_,ra,oa,ua,rb,ob,x1,x2,x3,x4⟩:=VF hg iM (s.ae [3]);refine WP.has hE (zg U (zm U (zm U (zf U (kM _ _) (zl U (by exact s.ld 0 U oS U)<|zm U (zo U (aJ (.ptr ra oa) U U x1) (zl U x2 (zm U (zo U (aJ (.ptr rb ob) U U x3) (zl U x4 (aq.call U U U U U U U (YJ hT.x.wo.wt oW O Y hx m3 m4 J.ct J.tx Y Y Y Y I.tr.nl (by have:=I.dl;omega) (by have:=I.kl;omega) mh ZN (s.ae [4,5])) ?_)))))))))));rintro v h ⟨rfl,c8,aj,fF,g1,g2,g3,g4,s⟩;dsimp only[aB,bringA] at s;refine za U (zv (zw (zg U (zm U (aq.kK U U U (ag U U aE) cb<|zv (zj U (WP.skip (zw ?_))))))));obtain⟨⟨ra,oa,ua,rb,ob,x1,x2,x3,x4⟩,_⟩:=VF hg iM (s.ae [5]);have ahJ:G.length<=1000:=Y;have s:=s.ae [5];dsimp only[bringA,getA,aB] at s;refine WP.drawn [af,af,af,af,af,af,af,af,af,af,af,af] U bo bo<|zL U (s.bW (k:=3) U i_ dP) (zM U (zF U (jJ _ _) (zL U (by exact s.ld 3 U ny U)<|zM U (zO U (aJ (.ptr ra oa) U U x1) (zL U x2 (zM U (zO U (aJ (.ptr rb ob) U U x3) (zL U x4 (ah.any U U U U (OpR.call U U U U (Nr (n:=bZ) (g:=g) (k:=j) (sz:=n) (cell:=cell) hW hg ahJ m1 Y J.ct.len hn I.lt s)) ?_)))))))));rintro v h ⟨rfl,s⟩;refine ah.cy U U U (OpR.dX U U U (s.dS (j:=3) U dP U dG)) ?_;rintro _ h ⟨rfl,s⟩;dsimp only[setA] at s;refine ah.nil ⟨(dq 13),?_⟩;obtain⟨a3,a4,a5,s⟩:=oN.1 s;have s:=s.ae [10,10,10,0,0,0,0,0,0,0,0,0,1,0];dsimp only[bringA,getA,aB] at s;have xP:=dD (s.ae [8]);have AB:=dD (s.ae [10]);rw[cL,ff] at xP AB;obtain⟨u4,xT⟩:∃u,a4[j]?=some u:=⟨_,aI Y⟩;obtain⟨u5,tG⟩:∃u,a5[j]?=some u:=⟨_,aI Y⟩;have hG1:(G.set j ⟨g.ad.take bZ,g.mr⟩)[j]?=some ⟨g.ad.take bZ,g.mr⟩:=mB Cr;have BM:((G.set j ⟨g.ad.take bZ,g.mr⟩).map gM)[j]?=some (gM g):=by rw[wA,hG1];rfl
 have Dd:((G.set j ⟨g.ad.take bZ,g.mr⟩).map gT)[j]?=some (gT g):=by rw[wA,hG1];rfl
 have hql:=(List.getElem?_eq_some_iff.1 iM).1;have e4:(gM g).length=g.mr.length:=by show(fR (g.mr.map (·.2))).length=_;rw[iN,cL]
 have e5:(gT g).length=g.mr.length:=by show(aK (g.mr.map (·.1))).length=_;grind[dh]
 refine zw ?_;have sV:=(fG xT BM).1 (s.ae [8]);dsimp only[aB,bringA] at sV;obtain⟨ra4,oa4,x1,x2⟩:=dB (P:=prog) s (k:=7) (i:=j) (c:=u4) U xT kf mM;have x2:=x2 122 jV;obtain⟨n4,f1,t1⟩:=sV.aab (P:=prog) (t:=122) (i:=q+1) Y Y O dN kr;have BI:=t1.vV 0 U;obtain⟨rb4,ob4,h4,y1,y2,t3⟩:=k_ (P:=prog) (t:=87) (i:=j) (x:=n4) (t1.ae [9]) Y BI.1 BI.2.1 kf mM;have s0:=s;refine WP.drawn [af,af,af,af,af,af,af,af,af,af,af,af,af] U bo bo<|zF U (jJ _ _) (zL U (by exact s.ld 0 U ny U)<|zM U (zF U (jJ _ _) (zL U (by exact s.ld 0 U ny U)<|zM U (zO U (aJ (.ptr ra4 oa4) U U x1) (zL U x2 (zM U (zO U (ag (r:=.int .i64 ((q+1:Nat):Int)) U U (by grind[aT,ay]))<|zO U (bR (p:=none) (q:=some (.int .i64 ((q+1:Nat):Int))) (m:=none) (p':=none) (q':=some (q+1)) (m':=none) U U U U U U U (f1 _)) (zO U (aJ (.ptr rb4 ob4) U U y1) (ah.cy U U U (OpR.dX U U U (⟨h4,y2,t3⟩)) ?_)))))))));rintro _ h ⟨rfl,s⟩;dsimp only[aB,bringA] at s;refine ah.nil ⟨(dq 14),?_⟩;have s:=sx xT BM (v':=n4) (s.ae [1,1]);have s:=s.ae [2,2,2,2,2,2,2,1,0,0,0,0,0,0];dsimp only[aB,bringA,getA] at s;refine zw ?_;have sV:=(fG tG Dd).1 (s.ae [10]);dsimp only[aB,bringA] at sV;obtain⟨ra5,oa5,x1,x2⟩:=dB (P:=prog) s (k:=9) (i:=j) (c:=u5) U tG mT oR;have x2:=x2 33 j5;obtain⟨n5,f1,t1⟩:=sV.aab (P:=prog) (t:=33) (i:=q+1) Y Y O dg gL;have BI:=t1.vV 0 U;obtain⟨rb5,ob5,h5,y1,y2,t3⟩:=k_ (P:=prog) (t:=88) (i:=j) (x:=n5) (t1.ae [11]) Y BI.1 BI.2.1 mT oR;have s0:=s;refine WP.drawn [af,af,af,af,af,af,af,af,af,af,af,af,af] U bo bo<|zF U (kM _ _) (zL U (by exact s.ld 0 U oS U)<|zM U (zF U (kM _ _) (zL U (by exact s.ld 0 U oS U)<|zM U (zO U (aJ (.ptr ra5 oa5) U U x1) (zL U x2 (zM U (zO U (ag (r:=.int .i64 ((q+1:Nat):Int)) U U (by grind[aT,ay]))<|zO U (bR (p:=none) (q:=some (.int .i64 ((q+1:Nat):Int))) (m:=none) (p':=none) (q':=some (q+1)) (m':=none) U U U U U U U (f1 _)) (zO U (aJ (.ptr rb5 ob5) U U y1) (ah.cy U U U (OpR.dX U U U (⟨h5,y2,t3⟩)) ?_)))))))));rintro _ h ⟨rfl,s⟩;dsimp only[aB,bringA] at s;refine ah.nil ⟨(dq 14),?_⟩;have s:=sx tG Dd (v':=n5) (s.ae [1,1]);have s:=s.ae [2,2,2,2,2,2,2,2,2,1,0];dsimp only[aB,bringA,getA] at s;have eA:(G.set j ⟨g.ad.take bZ,g.mr⟩).map gA=(G.set j ⟨g.ad.take bZ,g.mr.take (q+1)⟩).map gA:=by rw[qd,qd];rfl
 have eM:((G.set j ⟨g.ad.take bZ,g.mr⟩).map gM).set j ((gM g).take ((q+1)*1))=(G.set j ⟨g.ad.take bZ,g.mr.take (q+1)⟩).map gM:=by
  grind[List.map_set,List.set_set,acm]
 have eT:((G.set j ⟨g.ad.take bZ,g.mr⟩).map gT).set j ((gT g).take ((q+1)*1))=(G.set j ⟨g.ad.take bZ,g.mr.take (q+1)⟩).map gT:=by
  grind[List.map_set,List.set_set,acn]
 rw[eA,eM,eT] at s;have s:=s.ae [3,3,3,3,3,3,3,3];dsimp only[bringA,getA,aB] at s;have s:=I3 (oN.2 ⟨_,_,_,s⟩);refine zg U (zl U (s.bW (k:=1) U i_ dP) (aq.dX U U U U U (s.dS (j:=3) U dP U dG) λh s=>?_));dsimp only[setA] at s;refine za U (za U (zv (WP.ret ?_)));rw[<-uE (A':=⟨A.fst,fF,y,A.j9.take nm,A.dn.take nd,A.pg⟩) hx] at s;have s:=s.ae [0,4,3,3,2];dsimp only[bringA,getA,aB] at s;exact hq _ _ 0 w1 w2 w3 w4 w5 (.inl U) ⟨U,U,U,aa⟩ ⟨_,_,_,_,_,_,_,_,_,_,_,_,J.back hx hg iM m4 g1 g2 g3 g4 ZN,(s.del 6 |>.del 5)⟩
theorem br8 (hT:tH told)(I:gx i n k L G nx B ba ck mk rs ε cell)(hi:i<200)(hx:L[j]?=some (id,rr,A))(hg:G[j]?=some g)(hn:n<=50)(s:Sat h (yK pm pd pr c m a p q r n nx aF w1 w2 w3 w4 w5 rv D0 D1 D2 D3 L G cell data ε S))(hE:Has E (sE c m pm pd pr (j:Int) id))(hq:tR c m a p q r n k i pr S a8):
  WP ⟨prog,told⟩ 378 st8 E h a8:=by
 have hW:=hT.x.w;have dG:=kR (s.ae [3]);have yL:vN i n k ba rs A g:=I.tr j _ g hx hg;have hlen:=I.len;have FQ:=I.vy;have FR:=I.vz;have kC:=I.tQ;have fV:=I.low _ (bz hx);have bY:=yL.tr.lt;have F1:=rH hg;have Cr:=(List.getElem?_eq_some_iff.1 hg).1;have oW:=I.sD;dsimp only at fV;obtain⟨a3,a4,a5,s⟩:=oN.1 (Vx (s.ae [3]));have s:=s.ae [8,8,8,0,0,0,0,0,0,0,0,1,0,0];have xS:=dD (s.ae [6]);have xP:=dD (s.ae [8]);have AB:=dD (s.ae [10]);rw[cL] at xS xP AB;obtain⟨u3,J1⟩:∃u,a3[j]?=some u:=⟨_,aI Y⟩;obtain⟨u4,J⟩:∃u,a4[j]?=some u:=⟨_,aI Y⟩;obtain⟨u5,tG⟩:∃u,a5[j]?=some u:=⟨_,aI Y⟩;have J2:(G.map gA)[j]?=some (gA g):=Q;have BM:(G.map gM)[j]?=some (gM g):=Q;have Dd:(G.map gT)[j]?=some (gT g):=Q;have yh:=yL.al;have EM:=yL.ml;have ahK:(gM g).length=g.mr.length*1:=by show(fR (g.mr.map (·.2))).length=_;grind[iN]
 have sL4:=(fG J BM).1 (s.ae [8]);obtain⟨r4,o4,x1,_⟩:=dB (P:=prog) s (k:=7) (i:=j) (c:=u4) U J kf mM;have z4:=sL4.Bn (P:=prog) (t:=122) (n:=g.mr.length) (j:=0) U ahK O dN;refine WP.has hE (zK 4 U (zh U (ag U U aG) cb<|zk 6 U (zf U (jJ _ _) (zl U (by exact s.ld 0 U ny U)<|zm U (zo U (aJ (.ptr r4 o4) U U x1) (zl U (s.tI (j:=7) U J kf mM x1 jV) (zo U (aO U U U z4) ?_)))))));by_cases uV:g.mr.length=0
 .skip;refine zt U (ag U U bH) Q<|zk 4 U (zl U (s.bW (k:=0) U i_ dP) (zS U (s.dS (j:=2) U dP U dG) λh s=>zk 3 U (WP.ret ?_)));have s:=s.ae [3,3,3,3,3,3,3,3];dsimp only[aB,bringA,getA,setA] at s;have s:=(I3 (oN.2 ⟨_,_,_,s⟩)).ae [0,4,3,3,2];exact hq _ _ 0 w1 w2 w3 w4 w5 (.inl U) ⟨U,U,U,aa⟩ ⟨_,_,_,_,_,_,_,_,_,_,_,_,I.same I.tx λ_=>U,(s.del 6 |>.del 5)⟩
 .skip;refine zh U (ag U U bH) (decide_eq_false Y)<|zk 4 U ?_;have bY:(D2.tmod (g.mr.length:Int)).natAbs<g.mr.length:=by
   have:=Int.natAbs_tmod D2 (g.mr.length:Int);rw[this];exact nc _ Y
  obtain⟨⟨t,bZ⟩,iM⟩:∃x,g.mr[(D2.tmod (g.mr.length:Int)).natAbs]?=some x:=⟨_,aI bY⟩;refine WP.drawn [af,af,af,af,af,af,af,af,af,af] U bo bo<|zF U (nu _ _) (zL U (by exact s.ld 1 U cW U)<|zF U (jJ _ _) (zL U (by exact s.ld 0 U ny U)<|zM U (zO U (aJ (.ptr r4 o4) U U x1) (zL U (s.tI (j:=7) U J kf mM x1 jV) (zO U (aO U U U z4) (zO U (ag U U (aac Y))<|zA U<|ah.nil ⟨(dq 11),zK 4 U ?_⟩))))));have s:=s.ae [3,3,3,3,3,3,3,3];have s:=(oN.2 ⟨_,_,_,s⟩).ae [1,1,1,0,0,0,0];dsimp only[aB,bringA,getA] at s;by_cases aet:D2.tmod (g.mr.length:Int)<0
  .skip;refine zt U (ag U U aG) (decide_eq_true aet) (zk 4 U (zo U (cI (r:=.int .i64 (((D2.tmod (g.mr.length:Int)).natAbs:Nat):Int)) U (by show some (V.int .i64 (IntKind.wrap .i64 (0-D2.tmod (g.mr.length:Int))))=_;grind[ay])) ?_));exact zk 2 U<|Nw hT I hi hx hg hn dG iM s ⟨U,U,U,U,U,U,U,U,aa⟩ hq
  .skip;refine zh U (ag U U aG) (decide_eq_false aet) (zk 3 U<|Nw hT I hi hx hg hn dG iM s ⟨?_,U,U,U,U,U,U,U,aa⟩ hq);show some (V.int .i64 (D2.tmod (g.mr.length:Int)))=_;rw[show(((D2.tmod (g.mr.length:Int)).natAbs:Nat):Int)=D2.tmod (g.mr.length:Int) by omega]
end
end Go.Proofs.YtiojppeahfoiaaaGreat.Am
