/- TxPlays: a part of its proof; conditions: its statement's. -/
import Derived.Test.YtiojppeahfoiaaaGreatP06
import Derived.Test.YtiojppeahfoiaaaGreatP07
import Derived.Test.YtiojppeahfoiaaaGreatP04
import Derived.Test.YtiojppeahfoiaaaGreatP05
import Derived.Test.YtiojppeahfoiaaaGreatP02
import Derived.RangeFuncLeaves
set_option linter.defProp false
namespace Go.Proofs.YtiojppeahfoiaaaGreat.Am
open Go Proofs.Tryz
def dg:=@underlying33
def nH:=@underlying147
def ow:=@underlying145
def tC:=@underlying142
def Ay:=@underlying2
def CZ:=@func76
def MF:=@underlying146
def MG:=@func136
def MH:=@func159
variable {ops:Array Oper} {X aw:aH} {wb wp:Bool} {cap:Cap} {C:eP} {cd qB code:Code} {c':Ctx} {δ:Dk} {ε aj:bn} {pg:bn->Int->List Nat} {env:Env} {a8:Ex->List (Nat×V)->H->Prop} {fn:Func} {cl:Go.Call} {h h' σ:H} {e:Int} {μ:Lg} {now:List (Int×List Nat)} {E:List (Nat×V)} {S:List aH} {ao:List Bool} {bw:List cU} {ks:List Int} {data l cO l' l1 l2 seen mk:List Nat} {args rest cs ds Rt:List V} {n tx pv nx x a b q g r aF c i j N k B dn id a' b' f ex d M Aq c0 aL ba ck rr pn b0 b2:Nat} {o:Oper} {y:Operand} {P:Program} {t:TypeId} {dt av rv uv z u v2 dv cv wt fv kv mv xK:V} {R:V->H->Prop} {w':World}
theorem yH {m:Nat}(hle:n<=m){r:V×H}(I:toldParsed CB n args h=some r): toldParsed CB m args h=some r:=by
 unfold toldParsed at I ⊢;have mono:=fy (C:=CB) hle;split at I
 .split at I
  .rename_i J h₁;simp only[mono _ _ _ h₁];cases hnt:Nat.blt 4 J.au with
   |false=>grind
   |true =>
    rw[hnt,ak] at I;split at I
    .rename_i Qh adm;simp only[mono _ _ _ adm];split at I
     .rename_i adZ Qy;simp only[mono _ _ _ Qy];exact I
     .cases I
    .cases I
  .cases I
 .cases I
section
variable {v:V}
noncomputable def prH : Code:=aV [0] ((f191.body).getD .skip)
noncomputable def prM : Code:=aV [1,1,0] ((f191.body).getD .skip)
theorem ad1 (s:Sat h S)(J:Has E [(0,v)])
 (hq:∀E' h' p2 I,Has E' [(0,v),(2,.ptr p2 0),(3,.ptr I 0)]->Sat h' (pt I (.cells 1 [.bool false] false)::pt p2 (.cells 6 (ep 0 0 0 0 .aP .aP) false)::S)->a8 .normal E' h'): WP CB 9 prH E h a8:=by
 exact WP.has J (zr U<|aq.bG s U U U (bK sR) (λp2 h s=>(aq.bG s U U U (bK zt4) (λI h s=>(zv (hq _ _ _ _ ⟨U,U,U,aa⟩ s))))))
theorem ad2 {kd:Nat}(hg:eH kd bw=true)(hk:kd<256)(hr:Bd tx pv nx data bw)(hX:cQ X (cT v (cV kd tx pv nx data bw))){p2 I:Nat}(s:Sat h (pt I (.cells 1 [.bool false] false)::pt p2 (.cells 6 (ep 0 0 0 0 .aP .aP) false)::X::S))
 (hE:Has E [(0,v),(2,.ptr p2 0),(3,.ptr I 0)])
 (hq:∀E' h' dt ch cs,Has E' [(2,.ptr p2 0),(3,.ptr I 0)]->Sat h' (pt I (.cells 1 [.bool true] false)::pt p2 (.cells 6 (ep kd tx pv nx dt ch) false)::X::bu dt data::.arr 4 ch cs::c6 cs bw::S)->a8 .normal E' h'): WP CB 9 prM E h a8:=by
 obtain⟨pi,po,pc,rfl⟩:=jf (s.aQ 2 U hX) (by grind[cV]);refine WP.has hE (zK 2 U (zo U (cE U (by rw[afk];rfl)) ?_));refine aq.bG s U U U (c7 U U) λp1 h s=>?_;dsimp only[V.cells] at s;refine zc U (abH W.base hg hk hr ⟨_,hX,s.ae [0,2]⟩) ?_;rintro r h ⟨dt,ch,cs,rfl,s⟩;have J:=(s.buf (k:=1) U).view.cells;have qT:=s.cz 2 U;refine zS U (s.dS (j:=5) U gq U (nE J.2 qT.2.1)) ?_;rintro h s;refine zS U (by exact s.cS (k:=4) U BB U O U U) (λh s=>?_);exact zv (hq _ _ _ _ _ ⟨U,U,aa⟩ (s.ae [4,4,0,0,0,0]))
noncomputable def qrR : Code:=aV [1] ((f220.body).getD .skip)
theorem ad3 {x y:V}(I:Has E [(0,x),(1,y),(2,.jZ),(5,.jZ)])(J:∀E',a8 .normal E' h): WP CB 16 qrR E h a8:=by
 exact WP.has I (zK 3 U (zo U (Wu (r:=.aR [.int .i64 0,.bool false]) U (by simp only[assertV,underlying34,agu]))<|zk 14 U (zo U (ag (r:=.bool false) U U (by simp only[binV,underlying20];rfl))<|zv (zj U (WP.skip<|J _)))))
theorem RD {kd:Nat}(hg:eH kd bw=true)(hk:kd<256)(hr:Bd tx pv nx data bw)(s:Sat h (X::S))(hX:cQ X (cT v (cV kd tx pv nx data bw))):
  ∃n r,toldParsed CB n [v] h=some r/\∃dt ch cs,r.1=.aR [.agg (ep kd tx pv nx dt ch),.bool true]/\Sat r.2 (X::bu dt data::.arr 4 ch cs::c6 cs bw::S):=by
 obtain⟨N1,ex1,I,h1,E1,a1,k1,rfl,p2,J,UJ,s1⟩:=ad1 (a8:=λex E' h'=>ex=.normal/\∃p2 J,Has E' [(0,v),(2,.ptr p2 0),(3,.ptr J 0)]/\Sat h' (pt J (.cells 1 [.bool false] false)::pt p2 (.cells 6 (ep 0 0 0 0 .aP .aP) false)::X::S)) (v:=v) (E:=argE [v] 0) s ⟨U,aa⟩ (λE' h' p2 J hE s=>⟨U,p2,J,hE,s⟩) _ (uc [v]);have v2:I.v 2=.ptr p2 0:=by simp only[Env.v,k1 _ _ UJ.2.1]
 have v3:I.v 3=.ptr J 0:=by simp only[Env.v,k1 _ _ UJ.2.2.1]
 have k1':=k1.set 4 (.fn (.func 220) [] [I.v 2,I.v 3]);obtain⟨N2,vK,y6,h2,E2,a2,k2,rfl,dt,ch,cs,JP,s2⟩:=ad2 (a8:=λex E' h'=>ex=.normal/\∃dt ch cs,Has E' [(2,.ptr p2 0),(3,.ptr J 0)]/\Sat h' (pt J (.cells 1 [.bool true] false)::pt p2 (.cells 6 (ep kd tx pv nx dt ch) false)::X::bu dt data::.arr 4 ch cs::c6 cs bw::S)) hg hk hr hX s1 (E:=(4,.fn (.func 220) [] [I.v 2,I.v 3])::E1) ⟨UJ.1,UJ.2.1,UJ.2.2.1,aa⟩ (λE' h' dt ch cs hE s=>⟨U,dt,ch,cs,hE,s⟩) _ k1';have k3:=((uc [V.ptr p2 0,V.ptr J 0]).set 5 .jZ).set 2 .jZ;obtain⟨N3,ex3,aiU,h3,E3,a3,k3',rfl,rfl⟩:=ad3 (h:=h2) (x:=.ptr p2 0) (y:=.ptr J 0) (a8:=λex E' h'=>ex=.normal/\h'=h2) (E:=(2,.jZ)::(5,.jZ)::argE [.ptr p2 0,.ptr J 0] 0) ⟨U,U,U,U,aa⟩ (λE'=>⟨U,U⟩) _ k3;have r1:mapO (resV prog ⟨y6,9,h3⟩) f191.results.toList=some [.agg (ep kd tx pv nx dt ch),.bool true]:=by
  refine wN (s:=⟨y6,9,h3⟩) k2 ?_;have e1:resE prog E2 h3 (.cell 2 104)=some (.agg (ep kd tx pv nx dt ch)):=by
   simp only[resE,JP.1];exact s2.bW (k:=1) U kV gq
  have e2:resE prog E2 h3 (.cell 3 4)=some (.bool true):=by
   simp only[resE,JP.2.1];exact s2.ld 0 U nO U
  simp_all[mapO]
 refine⟨max N1 (max N2 N3),(.aR [.agg (ep kd tx pv nx dt ch),.bool true],h3),?_,dt,ch,cs,U,(s2.del 0).del 0⟩;have b1:=fy (C:=CB) (show N1<=max N1 (max N2 N3) by omega) _ _ _ a1;have b2:=fy (C:=CB) (show N2<=max N1 (max N2 N3) by omega) _ _ _ a2;have b3:=fy (C:=CB) (show N3<=max N1 (max N2 N3) by omega) _ _ _ a3;simp only[toldParsed];rw[show RB=prH from U,b1];simp only[v2,v3] at b2 ⊢;rw[show Nat.blt 4 9=true from U,ak,show RC=prM from U,b2];dsimp only;rw[show KK=qrR from U,b3];dsimp only;rw[r1]
def RE (args:List V)(h:H)(r:V×H): Prop:=∃n,toldParsed CB n args h=some r
structure WR (told:bU): Prop where
 w:W told
 pr:told 191=some (iE prog 191 RE)
theorem UK {told:bU}(hT:WR told){kd:Nat}(hg:eH kd bw=true)(hk:kd<256)(J:Bd tx pv nx data bw)(s:Sat h (X::S))(hX:cQ X (cT v (cV kd tx pv nx data bw))):
  Call ⟨prog,told⟩ 191 [v] h λr h'=>∃dt ch cs,r=.aR [.agg (ep kd tx pv nx dt ch),.bool true]/\Sat h' (X::bu dt data::.arr 4 ch cs::c6 cs bw::S):=by
 obtain⟨n,r,e,hP⟩:=RD hg hk J s hX;obtain⟨r',h1,m,h2⟩:=mP (P:=prog) (f:=191) (kP:=RE) (args:=[v]) (r:=r) ⟨n,e⟩ (λc w J hw=>Kp (C:=CB) U cm bM e J hw);have e1:=yH (show n<=max n m by omega) e;have I:=yH (show m<=max n m by omega) h2;rw[e1] at I;injection I with I;subst I;exact⟨r.1,r.2,eY.told hT.pr func191 U h1,hP⟩
end
theorem MI {x y z:List Nat}(I:x.length=a)(J:a+y.length=b): ((x++(y++z)).take b).drop a=y:=by
 grind
theorem afH (n:Nat)(b:List Nat): b.length<4294967296->we n b<4294967296->leN (le 4 b.length)=b.length/\leN (le 4 (we n b))=we n b:=by
 grind[CP]
section
variable {told:bU} {v:V}
theorem X1 (hT:WR told){kd:Nat}{pre rest bd:List Nat}(hg:eH kd bw=true)(hk:kd<256)(hr:Bd tx pv nx data bw)(B1:bd=cV kd tx pv nx data bw)
 (yy:bd.length<=1048576)(ha:pre.length=a)(hl:l=pre++(mY n bd++rest))(TZ:l.length<=1073741824)(s:Sat h (X::S))(I:cQ X (cT v l)):
  Call ⟨prog,told⟩ 125 [v,.int .i64 (a:Int),.int .u64 (n:Int)] h λr h'=>∃dt ch cs,r=.aR [.agg (ep kd tx pv nx dt ch),.int .i64 ((a+8+bd.length:Nat):Int),.int .i64 0]/\Sat h' (X::bu dt data::.arr 4 ch cs::c6 cs bw::S):=by
 have hv:=s.aQ 0 U I;have bY:∀x∈bd,x<256:=λx hx=>hv.1 x (by rw[hl,mY];simp[hx]);have J:=LG (aL:=n) bY;obtain⟨q1,q2⟩:=afH n bd Y J;have hlen:l.length=a+8+bd.length+rest.length:=by grind[lV]
 have m1:(l.take (a+4)).drop a=le 4 bd.length:=by
  grind[mY,dI]
 have m2:(l.take (a+8)).drop (a+4)=le 4 (we n bd):=by
  rw[hl,mY,gX,gX,<-gX pre];grind[MI,dI]
 have m3:(l.take (a+8+bd.length)).drop (a+8)=bd:=by
  grind[mY,MI]
 have hW:=hT.w;have UL:=bC (P:=prog) (h:=h) aZ hv;refine Call.of_wp (hW.free _ U) func125 U U (zg U<|aq.bG s U U U (bK sR) (λp6 h s=>(zk 7 U (zC U aG cb<|zk 3 U (zo U (aO U U U (bC aZ (s.aQ 1 U I))) (zC U dc Q<|zk 8 U (zo U (aO U U U (bC aZ (s.aQ 1 U I))) (zm U (zb U (by exact gz ay)<|zC U aG Q<|zk 8 U (zb U (by exact aT ay)<|zo U (bR (p:=some (.int .i64 (a:Int))) (q:=some (.int .i64 ((a:Int)+4))) (m:=none) (p':=some a) (q':=some (a+4)) (m':=none) U U U U (by rfl) (by rfl) U (dm (s.aQ 1 U I) (a:=a) (b:=a+4) Y Y).1)<|zc U (rZ hW s (k:=1) U (lU I (a:=a) (b:=a+4) Y Y) (by rw[m1,dI];decide)) ?_))))))))));rintro r h' ⟨rfl,rfl⟩;rw[m1,q1];refine zk 6 U (zC U dc Q<|zk 2 U (zo U (bQ U (by exact ie bS bB ay))<|zm U (zo U (aO U U U (bC aZ (s.aQ 1 U I))) (zm U (zb U (by exact gz ay)<|zb U (by exact gz ay)<|zC U dc Q<|zk 7 U (zb U (by exact aT ay)<|zm U (zo U (bQ U (by exact ie bS bB ay))<|zb U (by exact aT ay)<|zk 6 U (zb U (by exact aT ay)<|zm U (zo U (bR (p:=some (.int .i64 ((a:Int)+8))) (q:=some (.int .i64 ((a:Int)+8+(bd.length:Int)))) (m:=none) (p':=some (a+8)) (q':=some (a+8+bd.length)) (m':=none) U U U U (by rfl) (by rfl) U (dm (s.aQ 1 U I) (a:=a+8) (b:=a+8+bd.length) Y Y).1)<|zk 7 U (zb U (by exact aT ay)<|zm U (zb U (by exact aT ay)<|zo U (bR (p:=some (.int .i64 ((a:Int)+4))) (q:=some (.int .i64 ((a:Int)+8))) (m:=none) (p':=some (a+4)) (q':=some (a+8)) (m':=none) U U U U (by rfl) (by rfl) U (dm (s.aQ 1 U I) (a:=a+4) (b:=a+8) Y Y).1)<|zc U (rZ hW s (k:=1) U (lU I (a:=a+4) (b:=a+8) Y Y) (by rw[m2,dI];decide)) ?_)))))))))));rintro r h' ⟨rfl,rfl⟩;rw[m2,q2];refine zo U (bQ U (by exact ie bS underlying285 (aaE Y Y)))<|zk 2 U (zc U (JB hW s (k:=1) U (lU I (a:=a+8) (b:=a+8+bd.length) Y Y) Q) ?_);rintro r h ⟨rfl,s⟩;rw[m3];refine zC U aE cb<|zk 6 U ?_;have hX':cQ X (cT (slR v (a+8) (a+8+bd.length)) (cV kd tx pv nx data bw)):=by
  grind[lU]
 refine zc U (UK hT hg hk hr (s.ae [1]) hX') ?_;rintro r h ⟨dt,ch,cs,rfl,s⟩;have kO:=(s.buf (k:=1) U).view.cells;have qT:=s.cz 2 U;have dG:[V.int .i64 (kd:Int),V.int .u64 (tx:Int),V.int .u64 (pv:Int),V.int .u64 (nx:Int),dt,ch].all storable=true:=nE kO.2 qT.2.1;refine zk 3 U (zS U (s.dS (j:=4) U gq U dG) ?_);rintro h s;refine zk 6 U (zh U (cI U U) U (zk 5 U (zl U (s.bW (k:=4) U kV gq) (zm U (zS U (s.dS (j:=4) U gq U dG) ?_)))));rintro h s;exact zk 3 U<|WP.ret ⟨aa,_,G6 U (s.bW (k:=4) U kV gq) U U,⟨dt,ch,cs,U,s.del 4⟩⟩
end
section
variable {told:bU} {v:V} {p:Nat}
theorem UM (hT:WR told){kd:Nat}{pre rest bd:List Nat}(hg:eH kd bw=true)(hk:kd<256)(hr:Bd tx pv nx data bw)(B1:bd=cV kd tx pv nx data bw)
 (yy:bd.length<=1048576)(ha:pre.length=a)(hl:μ.b=pre++(mY n bd++rest))(hn:n=μ.base+a)(hh:μ.hasB n=true)(I:μ.Ok)(s:Sat h (bD q p μ::S)):
  Call ⟨prog,told⟩ 66 [.ptr q 0,.int .u64 (n:Int)] h λr h'=>∃dt ch cs,r=.aR [.agg (ep kd tx pv nx dt ch),.int .u64 ((n+8+bd.length:Nat):Int),.int .i64 0]/\Sat h' (bD q p μ::bu dt data::.arr 4 ch cs::c6 cs bw::S):=by
 have hW:=hT.w;have hlen:μ.b.length=a+8+bd.length+rest.length:=by grind[lV]
 have eR:=I.size;have hb:=I.len;refine Call.of_wp (hW.free _ U) LZ U U (zg U<|aq.bG s U U U (bK sR) (λp4 h s=>?_));dsimp only[V.cells,List.length_cons,List.length_nil,Nat.reduceAdd] at s;refine zk 4 U (WP.block (zK 4 U ?_));have s:=s.ae [1];dsimp only[bringA,getA,aB] at s;refine zc U (qp hW s I.size) ?_;rintro v h' ⟨rfl,rfl⟩;refine zC U bH Q<|zk 7 U (zc U (D_ (n:=n) hW s I Y) ?_);rintro v h' ⟨rfl,rfl⟩;rw[hh];refine zo U (cI U U) (za U (zv (zj U (WP.skip (zw ?_)))));obtain⟨bv,sv,s⟩:=dQ.1 s;have s0:=s;have BX:=fO (s.buf (k:=1) U).view;have ZS:((n:Int)-(μ.base:Int))=(a:Int):=Y;refine WP.drawn [af,af,af,af,af,af,af,af,af,af,af,af,af,af,af,some (1,2),some (1,2),af,af,af] U bo bo<|zM U (zN U (zF U (kx _ _) (zL U (s.ld 0 U cF U) (zM U (zM U (zN U (zF U (jB _ _) (zL U (s.ld 0 U b8 U) (zO U (ag (r:=.int .u64 (a:Int)) U U (by grind[gz,eB]))<|ah.op U U U (by simp only[isEff,bB]) (bQ U (by exact ie bS bB ay))<|zM U (ah.any U U U U (OpR.call U U U U (X1 (n:=n) (a:=a) hT hg hk hr B1 yy ha hl Y (s.ae [1]) (bh _ _))) ?_))))))))));rintro r h ⟨dt,ch,cs,rfl,s⟩;have kO:=(s.buf (k:=1) U).view.cells;have J:=s.cz 2 U;have O3:=fO (s.buf (k:=1) U).view;have dG:[V.int .i64 (kd:Int),V.int .u64 (tx:Int),V.int .u64 (pv:Int),V.int .u64 (nx:Int),dt,ch].all storable=true:=nE kO.2 J.2.1;have s1:=s;refine zM U (zO U (c_ U U) (zO U (c_ U U) (zO U (c_ U U) (ah.cy U U U (OpR.dX U U U (s.dS (j:=6) U gq U dG)) ?_))));rintro v h ⟨rfl,s⟩;refine zA U (zA U<|ah.nil ⟨⟨aa,aa,aa,aa,aa,aa,aa,aa,aa,aa,aa,aa,aa,aa,aa,λ_ _=>.inr ⟨U,⟨_,c_ U U⟩,aA _ U⟩,λ_ _=>.inr ⟨U,⟨_,c_ U U⟩,aA _ U⟩,dq 4⟩,zK 4 U (zC U aE U (zk 4 U ?_))⟩);have hrb:(V.agg [V.int .i64 (kd:Int),V.int .u64 (tx:Int),V.int .u64 (pv:Int),V.int .u64 (nx:Int),dt,ch]).beq (V.agg [V.int .i64 (kd:Int),V.int .u64 (tx:Int),V.int .u64 (pv:Int),V.int .u64 (nx:Int),dt,ch])=true:=Pr O3 J.2.2;have s0:=s;refine WP.drawn [none,some (0,2),some (0,2),some (0,2),some (0,2),some (0,2),some (0,2),some (0,2),af,af,af] U bo bo<|zL U (s.bW (k:=6) U kV gq) (zM U (zN U (zF U (jB _ _) (zL U (s.ld 4 U b8 U) (zM U (ah.op U U U (by simp only[isEff,bS]) (bQ U (by exact ie bB bS eB))<|zO U (ag U U (by exact aT eB))<|ah.cy U U U (OpR.dX U U U (s.dS (j:=6) U gq U dG)) ?_))))));rintro v h ⟨rfl,s⟩;dsimp only[ZI,aB,bringA,ep,setA] at s;refine zA U (zA U<|ah.nil ⟨⟨aa,λ_ _=>.inr ⟨U,⟨_,aD U⟩,aA _ U⟩,λ_ _=>.inr ⟨U,⟨_,jq U⟩,aA _ U⟩,λ_ _=>.inr ⟨U,⟨_,gy U (jB _ _)⟩,aA _ U⟩,cY (.inr ⟨U,⟨_,o_load U (s0.ld 4 U b8 U)⟩,aA _ U⟩) (.inr ⟨U,⟨_,o_load U (s.ld 4 U b8 U)⟩,aA _ U⟩),λ_ _=>.inr ⟨U,⟨_,aD U⟩,aA _ U⟩,λ_ _=>.inr ⟨U,⟨_,bQ U (by exact ie bB bS eB)⟩,aA _ U⟩,λ_ _=>.inr ⟨U,⟨_,ag U U (by exact aT eB)⟩,aA _ U⟩,dq 4⟩,WP.ret ⟨aa,_,G6 U (s.bW (k:=6) U kV gq) U U,⟨dt,ch,cs,?_,dQ.2 ⟨bv,sv,(s.ae [4,0,3,0,0,0]).del 6⟩⟩⟩⟩);rw[show((μ.base:Int)+((a+8+bd.length:Nat):Int))=((n+8+bd.length:Nat):Int) by omega];rfl
end
def partsL : List cU->Nat
 |[]=>0
 |c::l=>(if c.whole=true then 0 else c.b.length+12)+partsL l
theorem Hp {a b:List cU}: partsL (a++b)=partsL a+partsL b:=by
 induction a<;>grind[partsL]
theorem ag6 {x:Operand}(h1:b<=a)(h2:a<18446744073709551616): binV P h .sub t x y (.int .u64 (a:Int)) (.int .u64 (b:Int))=some (.int .u64 ((a-b:Nat):Int)):=by
 grind[gz,eB]
section
variable {told:bU} {p:Nat} {op:V}
theorem MJ (J:W told)(hb:μ.base+μ.b.length<=1099511627776)(hr:δ.room<=16777216)(s:Sat h (dJ a p q r op data aF::bD q p μ::aS p δ::S)):
  Call ⟨prog,told⟩ 75 [.ptr a 0] h λv h'=>v=.int .i64 ((δ.room:Int)-(μ.b.length:Int))/\h'=h:=by
 obtain⟨dv,s⟩:=bV.1 s;refine Call.of_wp (J.free _ U) func75 U U (zK 5 U ?_);have I:=s;refine WP.drawn [af,af,af,af,af,some (0,2),some (0,2),some (0,2),some (0,2),none,some (0,3),some (0,3),some (0,3),some (0,3),af,af,af,af,af] U bo bo<|zM U (zN U (zF U (ue _ _) (zL U (s.ld 0 U kU U) (ah.any U U U U (OpR.call U U U U (WS J (s.ae [3]))) ?_))));rintro v h' ⟨rfl,rfl⟩;rw[show δ.ZF=δ.room from U];refine zM U (zN U (zF U (jA _ _) (zL U (s.ld 0 U mw U) (ah.any U U U U (OpR.call U U U U (qp J (s.ae [2]) hb)) ?_))));rintro v h' ⟨rfl,rfl⟩;refine zM U (zN U (zF U (jA _ _) (zL U (s.ld 0 U mw U) (ah.any U U U U (OpR.call U U U U (yA J (s.ae [2]))) ?_))));rintro v h' ⟨rfl,rfl⟩;refine zO U (ag (r:=.int .u64 ((μ.b.length:Nat):Int)) U U (by rw[show((μ.base:Int)+(μ.b.length:Int))=((μ.base+μ.b.length:Nat):Int) by omega,ag6 Y Y,Nat.add_sub_cancel_left])) ?_;exact ah.op U U U (by simp only[isEff,bB]) (bQ (r:=.int .i64 ((μ.b.length:Nat):Int)) U (ie bS bB ay))<|zO U (ag (r:=.int .i64 ((δ.room:Int)-(μ.b.length:Int))) U U (gz ay))<|zA U<|ah.nil ⟨⟨aa,aa,aa,aa,aa,λ_ _=>.inr ⟨U,⟨_,aD U⟩,aA _ U⟩,λ_ _=>.inr ⟨U,⟨_,jq U⟩,aA _ U⟩,λ_ _=>.inr ⟨U,⟨_,gy U (jA _ _)⟩,aA _ U⟩,cY (.inr ⟨U,⟨_,o_load U (I.ld 0 U mw U)⟩,aA _ U⟩) (.inr ⟨U,⟨_,o_load U (I.ld 0 U mw U)⟩,aA _ U⟩),aa,λ_ _=>.inr ⟨U,⟨_,aD U⟩,aA _ U⟩,λ_ _=>.inr ⟨U,⟨_,jq U⟩,aA _ U⟩,λ_ _=>.inr ⟨U,⟨_,gy U (jA _ _)⟩,aA _ U⟩,lT (.inr ⟨U,⟨_,o_load U (I.ld 0 U mw U)⟩,aA _ U⟩) (.inr ⟨U,⟨_,o_load U (I.ld 0 U mw U)⟩,aA _ U⟩) (.inr ⟨U,⟨_,o_load U (I.ld 0 U mw U)⟩,aA _ U⟩),dq 6⟩,WP.ret ⟨aa,_,U,⟨U,U⟩⟩⟩
noncomputable def gcL : Code:=aV [1,1,0,1,0,0] ((f91.body).getD .skip)
theorem UN {t3:V}{c:List cU}(hc:c.length<=33554432)(hb:∀x∈c,x.b.length<=512): ∀(j i:Nat) (h:H) (E:List (Nat×V)) (a8:Ex->List (Nat×V)->H->Prop),i+j=c.length->Sat h (.arr 4 av cs::c6 cs c::S) ->
  Has E [(3,t3),(5,.int .i64 (partsL (c.take i):Int)),(20,av),(21,.int .i64 (c.length:Int)),(22,.int .i64 (i:Int))] ->
  (∀E' h',Has E' [(3,t3),(5,.int .i64 (partsL c:Int))]->Sat h' (.arr 4 av cs::c6 cs c::S)->a8 (.exit 0) E' h') ->
  WP ⟨prog,told⟩ 45 (.loop gcL) E h a8:=by
 have hp:∀i,partsL (c.take i)<=524*i:=by
  intro i;induction i with
  |zero=>simp[partsL]
  |succ i ih =>
   by_cases hi:i<c.length
   .grind[List.take_succ_eq_append_getElem,Hp,partsL]
   grind[List.take_of_length_le]
 intro j;induction j with
 |zero =>
  intro i h E a8 hi s J hq;obtain rfl:i=c.length:=Y;rw[zX] at J;exact WP.loop (WP.has J (zg U (zC U aG cb<|zk 3 U (WP.exit (hq _ _ ⟨U,U,aa⟩ s)))))
 |succ j ih =>
  intro i h E a8 hi s J hq;obtain⟨x,hx⟩:∃x,c[i]?=some x:=⟨_,aI Y⟩;have O0:=hb x (bz hx);have hpi:=hp i;obtain⟨id,off,u,e1,e2,u1,u2,u3,s⟩:=LO s hx;have dG:[V.int .i64 x.bA,V.int .i64 x.pos,V.bool x.whole,u].all storable=true:=by simp only[mF,m_,u2];rfl
  have I:partsL (c.take (i+1))=partsL (c.take i)+if x.whole=true then 0 else x.b.length+12:=by
   grind[List.take_succ_eq_append_getElem,Hp,partsL]
  refine WP.loop (WP.has J (zg U (zB U aG Q<|zk 5 U (WP.block (zg U (zo U (aJ (.ptr id off) U U e1) (zl U e2<|aq.bG s U U U (bK qm) (λp8 h s=>?_))))))));dsimp only[V.cells,List.length_cons,List.length_nil,Nat.reduceAdd] at s;refine zS U (s.dS (j:=0) U sS U dG) λh s=>?_;dsimp only[setA] at s;refine zk 3 U (zY s 0 D5 nO U ?_);have K0:x.whole=true\/x.whole=false:=cb;rcases K0 with hw|hw
  .rw[bk hw] at I;exact zh U (cI U U) Q<|zv (zj U (WP.skip (zr U (zb U (by exact aT ay)<|zm U (zv<|ih (i+1) _ _ a8 Y ((s.ae [2,2]).del 3 |>.del 2) ⟨U,gY (λz:Nat=>some (V.int .i64 (z:Int))) I.symm,U,U,U,aa⟩ hq)))))
  .rw[ax Q] at I;refine zt U (cI U U) Q<|zk 4 U (zY s 0 rY cF U (zo U (aO U U U (bC aZ (s.aQ 1 U (fX _ _)))) (zo U (ag (r:=.int .i64 ((x.b.length+12:Nat):Int)) U U (by grind[aT,ay])) ?_)));refine zo U (ag (r:=.int .i64 ((partsL (c.take (i+1)):Nat):Int)) U U (by rw[I,show((partsL (c.take i)+(x.b.length+12):Nat):Int)=(partsL (c.take i):Int)+((x.b.length+12:Nat):Int) by omega];exact aT ay)) ?_;exact za U (zv (zr U (zb U (by exact aT ay)<|zm U (zv<|ih (i+1) _ _ a8 Y ((s.ae [2,2]).del 3 |>.del 2) ⟨U,U,U,U,U,aa⟩ hq))))
theorem X2 (hT:W told){kd:Int}(kQ:ja ε)(hw:cC ε<=268435456)(I:∀e∈now,e.2.length=512)(hm:now.length<=65536)(hk:∀n∈now.map (·.1),0<=n/\n<65536)(va:tx<18446744073709551616)(si:pv<18446744073709551616)(kC:nx<18446744073709551616)(hd:data.length<=35184372088832)
 (s:Sat h (fh g a now false::dJ a p q r op cO aF::dx r p q ε.1::bD q p ε.2.1::aS p ε.2.2::X::S))(hX:cQ X (cT dt data)):
  Call ⟨prog,told⟩ 91 [.ptr g 0,.agg (ep kd tx pv nx dt .aP)] h λv h'=>∃e c aj,kD now (bj now) ε e c aj /\
   ((e≠0/\v=.aR [.int .i64 0,.int .i64 0,.int .i64 e])\/(e=0/\eH kd c=false/\v=.aR [.int .i64 0,.int .i64 (partsL c:Int),.int .i64 1])\/(e=0/\1048576<(cV kd tx pv nx data c).length/\v=.aR [.int .i64 0,.int .i64 (partsL c:Int),.int .i64 2]) \/
    (e=0/\v=.aR [.int .i64 ((8+(cV kd tx pv nx data c).length:Nat):Int),.int .i64 (partsL c:Int),.int .i64 0])) /\
   Sat h' (fh g a now false::dJ a p q r op cO aF::dx r p q aj.1::bD q p aj.2.1::aS p aj.2.2::X::S):=by
 have nj:∀n∈now.map (·.1),(Lit.int .i64 n).wf=true:=λn hn=>by
  grind[wf_i64]
 have kO:=s.aQ 5 U hX;have dG:=nE (kd:=kd) (tx:=tx) (pv:=pv) (nx:=nx) (dt:=dt) (ch:=.aP) kO.cells.2 U;refine Call.of_wp (hT.free _ U) func91 U U (zg U (aq.bG s U U U (c7 U dG) λp3 h s=>zk 8 U (zc U (G5 hT (s.ae [1,1,1,1,1]) kQ hw I hm nj) ?_)));rintro v h ⟨e,c,aj,hc,J⟩;have fJ:=hc.fit I λn hn=>hk n ((fB _).mem_iff.1 hn);rcases J with⟨he,rfl,s⟩|⟨rfl,jE,av,cs,rfl,s⟩
 .skip;refine zk 3 U (zf U (ku _ _) (zS U (s.cS (k:=5) U DO U (show 0+5<6 by decide) U U) ?_));exact λh s=>zk 5 U (zB U aE Q<|zk 9 U (WP.ret ⟨aa,_,U,e,c,aj,hc,.inl ⟨he,U⟩,(s.ae [0,0,0,0,0,1]).del 6⟩))
 .have BH:=s.cz 0 U;refine zk 3 U (zf U (ku _ _) (zS U (s.cS (k:=7) U DO U (show 0+5<6 by decide) BH.1 BH.2.1) ?_));refine λh s=>zk 5 U (zC U aE U ?_);have s0:=s;refine zk 6 U (zY s 7 ku sQ U ?_);obtain⟨qa,qb,q1,q2,q3⟩:=s.at (k:=1) U;have afI:=pM q3;refine zo U (aO U U U (s.fo c.length (j:=0) U afI O js))<|zk 2 U (WP.block<|UN jE (λx hx=>?_) c.length 0 _ _ _ Y s ⟨U,U,U,U,U,aa⟩ λE' h' hE s'=>?_)
  .grind
  have s:=s';refine WP.has hE (zg U (zl U (s.bW (k:=7) U kV gq) (zc U (JC hT (s.ae [8,0,0]) hX (Pq jE fJ va si kC hd)) ?_)));rintro v h (⟨hg,rfl,s⟩|⟨hg,hb,rfl,s⟩|⟨hg,hb,u,rfl,s⟩)
  .skip;exact zk 9 U (zo U (aO U U U (AW U aZ)) (zk 6 U (zR U ⟨0,c,aj,hc,.inr (.inl ⟨U,hg,U⟩),((s.ae [3,3,3,3,3,0]).del 8 |>.del 7 |>.del 6)⟩)))
  .skip;exact zk 9 U (zo U (aO U U U (AW U aZ)) (zk 6 U (zR U ⟨0,c,aj,hc,.inr (.inr (.inl ⟨U,hb,U⟩)),((s.ae [3,3,3,3,3,0]).del 8 |>.del 7 |>.del 6)⟩)))
  .skip;exact zk 9 U (zo U (aO U U U (bC aZ (s.aQ 0 U (bh _ _)))) (zk 6 U (zR U ⟨0,c,aj,hc,.inr (.inr (.inr ⟨U,by rw[lV]⟩)),((s.ae [4,4,4,4,4,1]).del 9 |>.del 8 |>.del 7 |>.del 6)⟩)))
end
def ik (cell:List Nat)(i:Nat): Nat:=leN ((cell.drop (8*i)).take 8)
def oV (cell:List Nat)(i n:Nat): List Nat:=bJ cell (8*i) (le 8 n)
theorem Bf {cell:List Nat}(h:cell.length=400)(hi:i<50): (oV cell i n).length=400:=by
 grind[oV,dH,dI]
theorem abJ {cell:List Nat}(I:∀b∈cell,b<256): ik cell i<18446744073709551616:=by
 have h:=GP ((cell.drop (8*i)).take 8) λb J=>I b (oC (lG J));have h2:((cell.drop (8*i)).take 8).length<=8:=Q;have h3:=tU (n:=256) O h2;exact gW h h3
theorem PO {cell:List Nat}(h:cell.length=400)(hi:i<50)(I:n<18446744073709551616): ik (oV cell i n) j=if j=i then n else ik cell j:=by
 have e:∀(l:List Nat) (k:Nat),ik l k=dU l (8*k) 8:=λl k=>by
  grind[ik,dU,List.drop_take]
 grind[oV,Ax,Ec,dI]
theorem Z2 {x:Operand}(I:0<b)(hw:a<9223372036854775808): binV P h .rem t x y (.int .i64 (a:Int)) (.int .i64 (b:Int))=some (.int .i64 ((a%b:Nat):Int)):=by
 simp only[binV,ikBeq,ak,intV];grind[nW]
theorem ad4 {x:Operand}: binV P h .add t x y (.int .u64 (a:Int)) (.int .u64 (b:Int))=some (.int .u64 (((a+b)%18446744073709551616:Nat):Int)):=by
 rfl
structure iO (N n k:Nat)(cell:List Nat)(P:Int->List Nat): Prop where
 hd:∃R M,mj N R M P/\dU R 0 4=k
 k2:2<=k
 kN:k<N
 pg:PgD (P k) 205 0 n [cell]
 len:cell.length=400
theorem iO.FH {cell:List Nat}{P P':Int->List Nat}(h:iO N n k cell P)(e:∀m,P' m=P m): iO N n k cell P':=by
 rw[show P'=P from funext e];exact h
theorem iO.put {cell I b':List Nat}(h:iO N n k cell (pgG now ε))(hs:Sm N ε aj)(hb:PgD b' 205 0 n [I])(J:I.length=400): iO N n k I (pgG (dM (k:Int) b' now) aj):=by
 obtain⟨R,M,h1,h2⟩:=h.hd;have hk:=h.k2;have e:∀m:Int,m≠k->pgG (dM (k:Int) b' now) aj m=pgG now ε m:=λm hm=>by rw[jP,ax (rQ hm),Hh hs]
 exact⟨⟨R,M,h1.roots (e 1 Y) (by rw[e 0 Y];exact h1.head) h1.rl,h2⟩,hk,h.kN,by grind[jP],J⟩
section
variable {told:bU} {p:Nat} {op:V} {cell:List Nat} {A:bn->aH}
theorem MK (hT:W told)(hR:G_ told N B rv A pg)(kQ:EI N B ε)(hp:iO N n k cell (pg ε))(hi:i<50)(s:Sat h (A ε::S)):
  Call ⟨prog,told⟩ 74 [.ptr c 0,rv,.int .i64 (i:Int)] h λv h'=>∃w u aj,v=.aR [.int .i64 (k:Int),w,u,.int .i64 0]/\EI N B aj/\Sm N ε aj/\Sat h' (bu u cell::bu w (pg ε k)::A aj::S):=by
 obtain⟨R,M,hs,hk⟩:=hp.hd;obtain⟨ex,x_⟩:=hs.head;have hkN:=hp.kN;obtain⟨ty,u,f,rfl,hm,mZ⟩:=id hR.iface;have e:i/50=0:=Y;refine Call.of_wp (hT.free _ U) func74 U U (zK 12 U (zo U (ag (r:=.int .i64 ((i/50:Nat):Int)) U U (He (b:=50) O Y)) ?_));rw[e];refine zc U (PG (i:=0) hT hR kQ Y x_ hs.rl O O s) ?_;rintro v h ⟨yZ,rfl,I,J,s⟩;rw[bk O,show 4*(0:Int).toNat=0 from U,hk];refine zk 9 U (zC U aE U (zk 8 U (aq.any U U U (OpR.invoke U U U hm U (mZ (n:=(k:Int)) I Y Y s)) ?_)));rintro v h ⟨w,xJ,rfl,vm,qV,s⟩;rw[hR.same J] at s;refine zk 9 U (zC U aE U (zk 6 U (zc U (Mi (i:=0) hT s (bh _ _) hp.pg U) ?_)));rintro v h ⟨z,rfl,s⟩;exact zk 17 U (zR U ⟨w,z,xJ,U,vm,J.trans qV,s⟩)
theorem ML (hT:W told)(hB:B<=2000)(kQ:EI N B ε)(hw:NW N now)(hp:iO N n k cell (pgG now ε))(hi:i<50){d:Int}(hd:IntKind.wrap .u64 d=(dn:Int))(mR:dn<18446744073709551616)(s:Sat h (GA g a p q r data aF now ε::S)):
  Call ⟨prog,told⟩ 70 [.ptr c 0,.ptr g 0,.int .i64 (i:Int),.int .i64 d] h λv h'=>∃aj b',v=.int .i64 0/\EI N B aj/\Sm N ε aj/\NW N (dM (k:Int) b' now) /\
   PgD b' 205 0 n [oV cell i ((ik cell i+dn)%18446744073709551616)]/\Sat h' (GA g a p q r data aF (dM (k:Int) b' now) aj::S):=by
 have hkN:=hp.kN;have jE:=hp.len;refine Call.of_wp (hT.free _ U) func70 U U (zK 8 U (zo U (uJ U (mki_of qU U)) (zm U (zc U (MK hT (adT hT hB hw) kQ hp hi s) ?_))));rintro v h ⟨w,u,yZ,rfl,sk,gC,s⟩;have ig:pgG now yZ=pgG now ε:=Hh gC;have I:=(s.buf (k:=0) U).view;have afJ:=I.1;have ZT:=abJ (cell:=cell) (i:=i) afJ;have L3:=dm I (a:=8*i) (b:=8*i+8) Y Y;have UL:(cell.take (8*i+8)).drop (8*i)=(cell.drop (8*i)).take 8:=Q;have bY:(ik cell i+dn)%18446744073709551616<18446744073709551616:=nc _ O;have ad5:∀ {P:Program} {h:H} {t:TypeId} {x y:Operand},binV P h .add t x y (.int .u64 (ik cell i:Int)) (.int .u64 (dn:Int))=some (.int .u64 (((ik cell i+dn)%18446744073709551616:Nat):Int)):=ad4;generalize (ik cell i+dn)%18446744073709551616=z at bY ad5 ⊢;have aiV:i%50=i:=zU hi;refine zk 14 U (zC U aE U (zk 6 U (zo U (ag (r:=.int .i64 (i:Int)) U U ((Z2 (b:=50) O Y).trans Q))<|zo U (ag (r:=.int .i64 ((8*i:Nat):Int)) U U (by grind[jM,ay]))<|zk 3 U ?_)));have w8:=fO I;have Cv:=fO L3.2.1;have By:∀h,convV prog h 2 32 (.int .i64 d)=some (.int .u64 (dn:Int),h):=λh=>by simp only[convV,Ay,bS,hd]
 have s0:=s;refine WP.drawn [some (0,3),some (0,3),some (0,3),some (0,3),some (0,3),af,af,af,af,af,af,some (0,2),some (0,2),af,af,af] U bo bo ?_;refine zM U (zM U (zM U (zO U (ag (r:=.int .i64 ((8*i+8:Nat):Int)) U U (by rw[show((8*i+8:Nat):Int)=((8*i:Nat):Int)+8 by omega];exact aT ay)) ?_)));refine zO U (bR (p:=some (.int .i64 ((8*i:Nat):Int))) (q:=some (.int .i64 ((8*i+8:Nat):Int))) (m:=none) (p':=some (8*i)) (q':=some (8*i+8)) (m':=none) U U U U (by rw[fb,cN]) (by rw[fb,cN]) U (dm (s.buf (k:=0) U).view Y Y).1) ?_;refine zM U (zM U (zM U (zO U (ag (r:=.int .i64 ((8*i+8:Nat):Int)) U U (by rw[show((8*i+8:Nat):Int)=((8*i:Nat):Int)+8 by omega];exact aT ay)) ?_)));refine zO U (bR (p:=some (.int .i64 ((8*i:Nat):Int))) (q:=some (.int .i64 ((8*i+8:Nat):Int))) (m:=none) (p':=some (8*i)) (q':=some (8*i+8)) (m':=none) U U U U (by rw[fb,cN]) (by rw[fb,cN]) U (dm I Y Y).1)<|ah.any U U U U (OpR.call U U U U (rZ hT s (k:=0) U (lU (bh _ _) (a:=8*i) (b:=8*i+8) Y Y) Q)) ?_;rintro r h' ⟨rfl,rfl⟩;rw[UL,show leN ((cell.drop (8*i)).take 8)=ik cell i from U];refine zM U (ah.op U U U (by simp only[isEff,bS]) (bQ (r:=.int .u64 (dn:Int)) U (By _))<|zO U (ag (r:=.int .u64 (z:Int)) U U ad5) ?_);have s:=s.pK;refine ah.any U U U U (OpR.call U U U U (qS (z:=8) (n:=z) hT s O cb)) λv h s=>?_;rw[iQ] at s;have s:=s.ae [1,0];have s1:=s;refine ah.any U U U U (OpR.QW (p:=8*i) (q:=8*i+8) U s (bh _ _) U U U U Y Y (by rw[dI];omega)) ?_;intro _ h s;rw[kg (by rw[dI];omega)] at s;have s:Sat h (bu u (oV cell i z)::_):=s;refine ah.nil ⟨⟨λ_ _=>.inr ⟨U,⟨_,aD U⟩,w8⟩,λ_ _=>.inr ⟨U,⟨_,aD U⟩,aA _ U⟩,λ_ _=>.inr ⟨U,⟨_,aD U⟩,aA _ U⟩,λ_ _=>.inr ⟨U,⟨_,ag (r:=.int .i64 ((8*i+8:Nat):Int)) U U (by rw[show((8*i+8:Nat):Int)=((8*i:Nat):Int)+8 by omega];exact aT ay)⟩,aA _ U⟩,lT (.inr ⟨U,⟨_,bR (p:=some (.int .i64 ((8*i:Nat):Int))) (q:=some (.int .i64 ((8*i+8:Nat):Int))) (m:=none) (p':=some (8*i)) (q':=some (8*i+8)) (m':=none) U U U U (by rw[fb,cN]) (by rw[fb,cN]) U (dm (s0.buf (k:=0) U).view Y Y).1⟩,Cv⟩) (.inr ⟨U,⟨_,bR (p:=some (.int .i64 ((8*i:Nat):Int))) (q:=some (.int .i64 ((8*i+8:Nat):Int))) (m:=none) (p':=some (8*i)) (q':=some (8*i+8)) (m':=none) U U U U (by rw[fb,cN]) (by rw[fb,cN]) U (dm (s0.buf (k:=0) U).view Y Y).1⟩,Cv⟩) (.inr ⟨U,⟨_,bR (p:=some (.int .i64 ((8*i:Nat):Int))) (q:=some (.int .i64 ((8*i+8:Nat):Int))) (m:=none) (p':=some (8*i)) (q':=some (8*i+8)) (m':=none) U U U U (by rw[fb,cN]) (by rw[fb,cN]) U (dm (s1.buf (k:=0) U).view Y Y).1⟩,Cv⟩),aa,aa,aa,aa,aa,aa,λ_ _=>.inr ⟨U,⟨_,aD U⟩,aA _ U⟩,λ_ _=>.inr ⟨U,⟨_,bQ (r:=.int .u64 (dn:Int)) U (By _)⟩,aA _ U⟩,dq 4⟩,?_⟩;have s:=s.ae [2,0,1];have ag7:PgD (pgG now ε k) 205 0 n [cell]:=hp.pg;refine zK 5 U (zc U (Ed (i:=0) (c:=cell) hT s (bh _ _) (bh _ _) ag7 U (by rw[Bf jE hi,jE])) ?_);rintro v h ⟨w3,b',rfl,J,s⟩;have J:PgD b' 205 0 n [oV cell i z]:=J;refine zk 9 U (zC U aE U (zk 8 U (zc U (Hi (i:=k) hT hB sk hw hkN (s.ae [3,0]) (bh _ _) J) ?_)));rintro v h ⟨Hj,rfl,vL,nD,m6,s⟩;exact zk 2 U (zR U ⟨Hj,b',U,vL,gC.trans nD,m6,J,(((s.del 4).del 3).del 2).del 1⟩)
theorem MM (hT:W told)(hB:B<=2000)(I:EI N B ε)(hp:iO N n k cell (pgA ε))(hn:n<=50){m:Nat}{i:Int}(s:Sat h (SA a p q r op data aF ε::pt c (.cells 2 [.ptr m 0,.int .i64 (n:Int)] false)::pt m (.cells 4 [.ptr a 0,uv,av,.int .u64 (nx:Int)] false)::S)):
  Call ⟨prog,told⟩ 29 [.ptr c 0,.int .i64 i] h λv h'=>∃aj,EI N B aj/\Sm N ε aj/\v=(if 0<=i/\i<n then .aR [.int .i64 (IntKind.wrap .i64 (ik cell i.toNat:Nat)),.int .i64 0] else .aR [.int .i64 0,.int .i64 1]) /\
   Sat h' (SA a p q r op data aF aj::pt c (.cells 2 [.ptr m 0,.int .i64 (n:Int)] false)::pt m (.cells 4 [.ptr a 0,uv,av,.int .u64 (nx:Int)] false)::S):=by
 have jE:=hp.len;refine Call.of_wp (hT.free _ U) func29 U U (zK 9 U ?_);by_cases h0:i<0
 .skip;exact zB U aG Q<|zk 15 U (WP.ret ⟨aa,_,U,ε,I,Sm.refl N ε,Q,s⟩)
 .obtain⟨j,rfl⟩:∃j:Nat,i=j:=⟨i.toNat,Y⟩;refine zC U aG (by rfl)<|zk 4 U (zY s 1 wQ cW U ?_);by_cases h1:n<=j
  .skip;exact zB U dO Q<|zk 8 U (WP.ret ⟨aa,_,U,ε,I,Sm.refl N ε,Q,s⟩)
  .have aiW:j%50=j:=zU Y;have By:∀h,convV prog h 32 2 (.int .u64 (ik cell j:Nat))=some (.int .i64 (IntKind.wrap .i64 (ik cell j:Nat)),h):=λh=>by simp only[convV,Ay,bS]
   refine zC U dO Q<|zk 9 U (zY s 1 oH my U (zn U (zY s 2 nA nr U (zo U (uJ U (mki_of Hf U)) (zm U (zc U (MK hT (Ru hT hB) I hp Y s) ?_))))));rintro v h ⟨w,u,yZ,rfl,J,gC,s⟩;have tL:=(s.buf (k:=0) U).view;have L3:=dm tL (a:=8*j) (b:=8*j+8) Y Y;have UL:(cell.take (8*j+8)).drop (8*j)=(cell.drop (8*j)).take 8:=Q;refine zk 14 U (zC U aE U (zk 6 U (zo U (ag (r:=.int .i64 (j:Int)) U U ((Z2 (b:=50) O Y).trans Q))<|zo U (ag (r:=.int .i64 ((8*j:Nat):Int)) U U (by grind[jM,ay]))<|zk 7 U (zo U (ag (r:=.int .i64 ((8*j+8:Nat):Int)) U U (by grind[aT,ay]))<|zo U (bR (p:=some (.int .i64 ((8*j:Nat):Int))) (q:=some (.int .i64 ((8*j+8:Nat):Int))) (m:=none) (p':=some (8*j)) (q':=some (8*j+8)) (m':=none) U U U U (by rfl) (by rfl) U L3.1)<|zc U (rZ hT s (k:=0) U (lU (bh _ _) (a:=8*j) (b:=8*j+8) Y Y) Q) ?_))));rintro r h' ⟨rfl,rfl⟩;rw[UL,show leN ((cell.drop (8*j)).take 8)=ik cell j from U];exact zo U (bQ (r:=.int .i64 (IntKind.wrap .i64 (ik cell j:Nat))) U (By _)) (zk 3 U (zR U ⟨yZ,J,gC,Q,((s.del 1).del 0)⟩))
end
theorem PR {v:V}(a:AS (T.get h.tr) k v cs): ∃n,cs.length=n*k/\srcV h k v=some (cs,n):=by
 rcases a.2 with⟨rfl,rfl⟩|⟨id,n,cap,N,rest,rfl,J,I,e2,_,e4⟩
 .exact⟨0,cb,U⟩
 .refine⟨n,I,?_⟩;simp only[srcV];rw[qP J Q,<-I,kj,rM U];rfl
def GOk (k:Nat)(v:V)(cs rest:List V)(id n:Nat)(cap:Cap): Prop:=v=.sl id 0 n cap/\cs.length=n*k/\(cs++rest).all storable=true /\
 match cap with|.exact c=>cs.length+rest.length=c*k/\n<=c|.rest e alt=>e=k/\alt=0/\1<=cs.length+rest.length
def eC (k:Nat)(v:V)(cs:List V): aH:=.xs λo:Option (Nat×Nat×Cap×List V)=>match o with
 |none=>.pu (v=.aP/\cs=[])
 |some (id,n,cap,rest)=>.an (.pt id (.cells (cs.length+rest.length) (cs++rest) false)) (.pu (GOk k v cs rest id n cap))
section
variable {v w x:V} {e:TypeId}
theorem Sat.Z3 (s:Sat h S)(J:getA S j=some (eC k v cs)): (v=.aP/\cs=[])\/∃id n cap rest,T.get h.tr id=some (.cells (cs.length+rest.length) (cs++rest) false)/\GOk k v cs rest id n cap:=by
 obtain⟨m,r,h1,h2,⟨_|⟨id,n,cap,rest⟩,I⟩⟩:=s.at J
 .exact .inl I
 .exact .inr ⟨id,n,cap,rest,h1 _ _ I.1,I.2⟩
theorem Sat.Z4 (s:Sat h (eC k v cs::S)): (v=.aP/\cs=[]/\Sat h S)\/∃id n cap rest,Sat h (pt id (.cells (cs.length+rest.length) (cs++rest) false)::S)/\GOk k v cs rest id n cap:=by
 obtain⟨_|⟨id,n,cap,rest⟩,s⟩:=gh.1 s
 .grind[j4]
 .obtain⟨m,r,_,_,I⟩:=s.at (k:=0) U;exact .inr ⟨id,n,cap,rest,s.iX λ_ _ q=>q.1,I.2⟩
theorem Sat.Hq {cr:List V}(s:Sat h (pt id (.cells N cr false)::S))(I:cr=cs++rest)(J:N=cs.length+rest.length)(hg:GOk k v cs rest id n cap): Sat h (eC k v cs::S):=by
 subst I J;exact gh.2 ⟨some (id,n,cap,rest),s.iX λ_ _ q=>⟨q,hg⟩⟩
theorem Sat.ad6 (s:Sat h S): Sat h (eC k .aP []::S):=gh.2 ⟨none,s.eF ⟨U,U⟩⟩
theorem Sat.ag8 (I:1<=k)(s:Sat h (.arr k v cs::S)): Sat h (eC k v cs::S):=by
 obtain⟨m,r,h1,h2,J,a,b,g1,g2,g3,⟨gl,g4⟩,g5⟩:=s.ok;rcases g4 with⟨e1,e2⟩|⟨id,n,cap,N,rest,e,hg,q1,q2,q3,q4⟩
 .exact gh.2 ⟨none,s.drop.eF ⟨e1,e2⟩⟩
 .have s1:Sat h (pt id (.cells N (cs++rest) false)::S):=⟨s.wf,m,r,h1,h2,J,a,b,g1,g2,g3,hg,g5⟩;refine s1.Hq U q2.symm (n:=n) (cap:=cap) ⟨e,q1,Q,?_⟩;cases cap with
  |exact c=>omega
  |rest z alt =>
   have:=m9 q4.2.2.2 I;omega
theorem Sat.gV (s:Sat h S)(I:getA S j=some (eC k v cs)): v.cells=[v]/\storable v=true/\v.beq v=true:=by
 rcases s.Z3 I with⟨rfl,_⟩|⟨id,n,cap,rest,_,rfl,_⟩
 .exact⟨U,U,U⟩
 .exact⟨U,U,DL _ _ _ _⟩
theorem Sat.y8 (s:Sat h S)(J:getA S j=some (eC k v cs))(hn:cs.length=n*k)(hk:1<=k)(hu:P.underlying t=some (.slice e)): lenV P h t v=some (.int .i64 n):=by
 rcases s.Z3 J with⟨rfl,rfl⟩|⟨id,n',cap,rest,_,rfl,q,_⟩
 .have:n=0:=by
   rcases wz n with I|I
   .exact I
   .have:=m9 I hk;simp at hn;omega
  subst this;exact DN hu
 grind[Nat.eq_of_mul_eq_mul_right,Gt]
theorem Sat.ag9 (s:Sat h S)(I:getA S j=some (eC k v cs)): ∃n,cs.length=n*k/\srcV h k v=some (cs,n):=by
 rcases s.Z3 I with⟨rfl,rfl⟩|⟨id,n,cap,rest,J,rfl,q,_⟩
 .exact⟨0,cb,U⟩
 .refine⟨n,q,?_⟩;simp only[srcV];rw[qP J cb,<-q,kj,rM U];rfl
theorem Sat.JQ (s:Sat h S)(hj:getA S j=some (eC k v cs))(hi:i*k+k<=cs.length)(hk:1<=k)(hu:P.underlying t=some (.slice e))(I:bf P e=some k):
  ∃id off,indexAddrV P t v (.int .i64 (i:Int))=some (.ptr id off)/\(isAggT P e=some true->loadV P h e (.ptr id off)=some (.agg ((cs.drop (i*k)).take k)))/\∀c,(cs.drop (i*k))[0]?=some c->∀t',isAggT P t'=some false->loadV P h t' (.ptr id off)=some c:=by
 rcases s.Z3 hj with⟨_,rfl⟩|⟨id,n,cap,rest,hg,rfl,q,_⟩
 .grind
 .refine⟨id,0+i*k,?_,λJ=>?_,λc hc t' J=>?_⟩
  .simp only[indexAddrV,hu,I,cN];have:i<n:=by
    have h4:i*k+k=(i+1)*k:=Q;rw[h4,q] at hi;exact Dr (tT hi hk)
   grind
  .rw[f_,Tj J I hg cb Y];grind
  grind[loadV,z8,iD]
theorem MN (g:GOk k v cs rest id n cap)(CI:i<=n)(hk:1<=k)(hu:P.underlying t=some (.slice e))(J:bf P e=some k): sliceV P h' t v none (some i) none=some (.sl id 0 i cap)/\∀I,I.all storable=true->I.length+i*k=cs.length+rest.length->GOk k (.sl id 0 i cap) (cs.take (i*k)) I id i cap:=by
 obtain⟨rfl,q,dG,hc⟩:=g;have Z5:i*k<=cs.length:=by simp_all[pV]
 have hl:(cs.take (i*k)).length=i*k:=Q;constructor
 .cases cap with
  |exact c =>
   have:i<=c:=Y;simp only[sliceV,hu,J,jv,eV];grind[aN]
  |rest z alt =>
   obtain⟨rfl,rfl,h3⟩:=hc;simp only[sliceV,hu,J,jv,eV,fM,rP];grind[aN]
 .intro I h1 h2;refine⟨U,hl,?_,?_⟩<;>grind
theorem Sat.gCut (s:Sat h (eC k v cs::S))(hi:i*k<cs.length)(hk:1<=k)(hu:P.underlying t=some (.slice e))(I:bf P e=some k)(hz:zeroT P e=some z)(hzk:z.cells.length=k)(hzs:z.cells.all storable=true):
  ∃w h1 v',(∀h':H,sliceV P h' t v (some i) none none=some w)/\clearV P h t w=some h1/\(∀h':H,sliceV P h' t v none (some i) none=some v')/\Sat h1 (eC k v' (cs.take (i*k))::S):=by
 rcases s.Z4 with⟨h1,h2,s1⟩|⟨id,n,cap,rest,s1,g⟩
 .grind
 .have q:=g.2.1;have J:i<n:=by
   grind[Nat.lt_or_ge,Nat.mul_le_mul_right]
  have dG:=g.2.2.1;rw[zZ,b9] at dG;have hni:(n-i)*k+i*k=cs.length:=by rw[<-tY,q];congr 1;omega
  have GV:(repeatL z.cells (n-i)).length=(n-i)*k:=by rw[qO,hzk]
  have e1:=Iv (off:=i*k) (vs:=repeatL z.cells (n-i)) (s1.row (k:=0) U) cb Y;have s2:=s1.put (o':=.cells (cs.length+rest.length) ((cs++rest).take (i*k)++(repeatL z.cells (n-i)++(cs++rest).drop (i*k+(repeatL z.cells (n-i)).length))) false) (k:=0) U;obtain⟨cw,hcw⟩:∃cw:Cap,cw=match cap with|.exact c=>.exact (c-i)|.rest _ _=>.rest k (cond (Nat.beq i 0) 0 (i*k)):=⟨_,U⟩
  refine⟨.sl id (i*k) (n-i) cw,_,.sl id 0 i cap,λh'=>?_,?_,λh'=>(MN g (qc J) hk hu I).1,s2.Hq (rest:=repeatL z.cells (n-i)++rest) ?_ ?_ ((MN (h':=h) g (qc J) hk hu I).2 _ ?_ ?_)⟩
  .subst hcw;obtain⟨rfl,_,_,hc⟩:=g;cases cap with
   |exact c =>
    have h3:Nat.beq c i=false:=eE Y;simp only[sliceV,hu,I,jv,eV,h3,bq,f_];grind[aN]
   |rest y alt =>
    obtain⟨rfl,rfl,h3⟩:=hc;simp only[sliceV,hu,I,jv,eV,fM,rP,f_];grind[aN,Nat.blt_eq]
  .have h3:(Nat.ble 1 z.cells.length&&Nat.ble 1 (n-i))=true:=by grind[aN]
   simp only[clearV,hu,hz,h3,ak];exact e1
  .rw[HJ (qc hi),GV,Dt,mA Y,show i*k+(n-i)*k-cs.length=0 by omega];simp
  .grind
  .grind[sU]
  .grind
theorem MO (hX:ZB X k w ds)(s:Sat h (eC k v cs::X::S)){i:TypeInfo}(hu:P.underlying t=some (.slice e))(hi:P.info? e=some i)(hz:zeroT P e=some z)(hk:i.size=k)(hb:i.bytes<=4096)(hl:z.cells.length=k)
 (h1:1<=k)(eR:cs.length+ds.length<=1073741824):
  ∃v' h',appendV P h #[t,t] v w=some (v',h')/\Sat h' (eC k v' (cs++ds)::X::S):=by
 have aij:∀ {v':V} {h':H},Sat h' (.arr k v' (cs++ds)::X::S)->Sat h' (eC k v' (cs++ds)::X::S):=λq=>q.ag8 h1;rcases s.Z4 with⟨q1,q2,s1⟩|⟨id,n,cap,rest,s1,g⟩
 .subst q1 q2;obtain⟨v',h',e1,s2⟩:=Fo hX s1.jr hu hi hz hk hb hl h1 eR<;>grind
 .by_cases hw:∃c,cap=.exact c
  .obtain⟨c,rfl⟩:=hw;have I:=g.2.2.1;rw[zZ,b9] at I;have s2:Sat h (.arr k v cs::X::S):=s1.iX λa b q=>⟨I.1,.inr ⟨id,n,.exact c,_,rest,g.1,q,g.2.1,U,I.2,g.2.2.2⟩⟩;grind[Fo]
  .obtain⟨y,alt,rfl⟩:∃y alt,cap=.rest y alt:=by
    cases cap<;>grind
   obtain⟨rfl,q,I,rfl,rfl,hN⟩:=g;have am:=s1.WH (j:=1) U hX;have oP:=am.1;obtain⟨m,hm,J⟩:=PR am;have hg:=s1.row (k:=0) U;rw[zZ,b9] at I;unfold appendV;simp only[hu,hi,hz,hk,hl,J];rw[show(Nat.ble 1 y&&Nat.ble i.bytes 4096&&Nat.beq y y)=true by simp_all,ak];by_cases uV:m=0
   .subst uV;have ZC:ds=[]:=tS Y;subst ZC;rw[fZ];exact⟨_,_,U,s⟩
   .have Fe:lN h id 0 y=(cs.length+rest.length)/y:=by grind[lN]
    rw[eE uV,bq];simp only[Fe,fM,ak,f_];cases hq:Nat.ble (n+m) ((cs.length+rest.length)/y) with
    |true =>
     have BS:=pV y (aN.1 hq);have hdm:=Nat.div_mul_le_self (cs.length+rest.length) y;have fJ:n*y+ds.length<=cs.length+rest.length:=Q;rw[ak,Iv hg cb fJ];refine⟨_,_,U,(s1.put (k:=0) U).Hq (rest:=rest.drop ds.length) (n:=n+m) (cap:=.rest y 0) ?_ ?_ ⟨U,?_,?_,U,U,?_⟩⟩
     .grind[List.drop_append,List.drop_eq_nil_of_le,Nat.add_sub_cancel_left]
     .grind
     .grind
     .grind
     .grind
    |false =>
     have e3:(n+m)*i.bytes<=(n+m)*4096:=wu _ hb;have e2:n+m<=(n+m)*y:=zG _ h1;have e4:(n+m)*y=cs.length+ds.length:=Q;have Li:kH (n+m) i.bytes=true:=qh.2 Y;have h2:Nat.ble 2 ((n+m)*y)=true:=by
      have bY:(cs.length+rest.length)/y<n+m:=by
       grind[aN]
      rw[aN];by_cases hy:y=1
      .grind
      grind
     rw[bq,Li,h2,oE,ak,qP hg cb,hg];simp only;have aik:(cs++ds).all storable=true:=Q;refine⟨_,_,U,?_⟩;rw[kj,<-q,rM U];have s2:=(s1.kill).new (.cells ((n+m)*y) (cs++ds) false);refine s2.Hq (rest:=[]) (n:=n+m) (cap:=.rest y 0) cb Q ⟨U,Q,Q,U,U,Q⟩
end
def aK (l:List Nat): List V:=l.map λ(n:Nat)=>V.int .u64 (n:Int)
structure mo where
 fst:Nat
 cx:Nat
 jT:Nat
 j9:List Nat
 dn:List (Nat×Nat)
 pg:List Int
variable {A:mo}
def lZ (l:List (Nat×Nat)): List V:=l.flatMap λd=>[.int .u64 (d.1:Int),.int .i64 (d.2:Int)]
theorem kE (l:List (Nat×Nat)): (lZ l).length=l.length*2:=by
 induction l<;>grind[lZ]
theorem Eg : ∀ {l:List (Nat×Nat)} {i:Nat} {d:Nat×Nat},l[i]?=some d->((lZ l).drop (i*2)).take 2=[.int .u64 (d.1:Int),.int .i64 (d.2:Int)]:=by
 intro l;induction l with
 |nil=>simp
 |cons x l I =>
  intro i d h;cases i with
  |zero=>simp at h;subst h;rfl
  |succ i =>
   have:=I (i:=i) (by simpa using h);rw[show(i+1)*2=i*2+2 by omega];exact this
theorem PS {a b:List (Nat×Nat)}: lZ (a++b)=lZ a++lZ b:=by simp[lZ]
def l7 (id f l n:Nat)(mv dv pv:V): List V:=[.int .u64 (id:Int),.int .u64 (f:Int),.int .u64 (l:Int),.int .u64 (n:Int),mv,dv,pv]
def xL (pv:V)(l:List Int): aH:=ux (λv (_:Unit)=>.pu (v=.agg [])) pv (l.map λn=>(n,()))
def rG (r id:Nat)(A:mo): aH:=xs λmv:V=>xs λdv:V=>xs λpv:V=>star [pt r (.cells 7 (l7 id A.fst A.cx A.jT mv dv pv) false),eC 1 mv (aK A.j9),eC 2 dv (lZ A.dn),xL pv A.pg]
abbrev lp := List (Nat×Nat×mo)
variable {L:lp}
def mc : lp->aH
 |[]=>.pu True
 |e::L=>star [rG e.2.1 e.1 e.2.2,mc L]
def eL (m a nx:Nat)(u:V)(L:lp): aH:=xs λav:V=>star [pt m (.cells 4 [.ptr a 0,u,av,.int .u64 (nx:Int)] false),kG .u64 (λv (r:Nat)=>.pu (v=.ptr r 0)) av (L.map λe=>((e.1:Int),e.2.1)),mc L]
section
variable {m:Nat} {x:Nat×Nat×mo}
theorem iI : Sat h (rG r id A::S)↔∃mv dv pv,Sat h (pt r (.cells 7 (l7 id A.fst A.cx A.jT mv dv pv) false)::eC 1 mv (aK A.j9)::eC 2 dv (lZ A.dn)::xL pv A.pg::S):=by
 simp[rG,gh,aX]
theorem cD : Sat h (eL m a nx u L::S)↔∃av,Sat h (pt m (.cells 4 [.ptr a 0,u,av,.int .u64 (nx:Int)] false)::kG .u64 (λv (r:Nat)=>.pu (v=.ptr r 0)) av (L.map λe=>((e.1:Int),e.2.1))::mc L::S):=by
 simp[eL,gh,aX]
theorem wj : Sat h (mc (x::L)::S)↔Sat h (rG x.2.1 x.1 x.2.2::mc L::S):=aX
theorem iJ : ∀ {L:lp} {i:Nat},L[i]?=some x->∀ {S:List aH},Sat h (mc L::S)↔Sat h (rG x.2.1 x.1 x.2.2::mc (L.eraseIdx i)::S):=by
 intro L;induction L with
 |nil=>simp
 |cons y L I =>
  intro i J S;cases i with
  |zero=>grind[wj]
  |succ i =>
   rw[wj,HM];constructor
   .exact λs=>((wj (x:=y)).2 ((((I J).1 (s.ae [1])).ae [2,1]))).ae [1]
   .exact λs=>((I J).2 (((wj (x:=y)).1 (s.ae [1])).ae [2,1])).ae [1]
theorem X3 (s:Sat h (rG r id A::mc L::S)): Sat h (mc (L++[(id,r,A)])::S):=by
 have h1:(L++[(id,r,A)])[L.length]?=some (id,r,A):=cb;refine(iJ h1).2 ?_<;>grind
theorem MP {x':Nat×Nat×mo}(I:L[i]?=some x): Sat h (rG x'.2.1 x'.1 x'.2.2::mc (L.eraseIdx i)::S)↔Sat h (mc (L.set i x')::S):=by
 grind[iJ,List.eraseIdx_set_eq]
end
def gN (l:List Nat)(i:Nat): Nat:=l.getD i 0
def swp (l:List Nat)(i j:Nat): List Nat:=(l.set i (gN l j)).set j (gN l i)
theorem lK : (swp l i j).length=l.length:=by simp[swp]
theorem pR (hi:i<l.length:=by omega)(I:j<l.length:=by omega): gN (swp l i j) k=if k=j then gN l i else if k=i then gN l j else gN l k:=by
 grind[gN,swp]
def iP (l:List Nat)(a b:Nat): Prop:=∀i j,a<=i->i<j->j<b->gN l i<=gN l j
structure fc (a b:Nat)(l l':List Nat): Prop where
 len:l'.length=l.length
 out:∀i,i<a\/b<=i->gN l' i=gN l i
 perm:l'.Perm l
 ins:∀i,a<=i->i<b->∃j,a<=j/\j<b/\gN l' i=gN l j
theorem fc.refl : fc a b l l:=⟨U,λ_ _=>U,.refl _,λi h1 h2=>⟨i,h1,h2,U⟩⟩
theorem fc.trans {m n:List Nat}(h:fc a b l m)(g:fc a b m n): fc a b l n :=
 ⟨g.len.trans h.len,λi hi=>(g.out i hi).trans (h.out i hi),g.perm.trans h.perm,λi h1 h2=>by
  obtain⟨j,j1,j2,I⟩:=g.ins i h1 h2;obtain⟨k,k1,k2,J⟩:=h.ins j j1 j2;exact⟨k,k1,k2,I.trans J⟩⟩
theorem fc.wide (h:fc a b l l')(h1:a'<=a)(h2:b<=b'): fc a' b' l l' :=
 ⟨h.len,λi hi=>h.out i Y,h.perm,λi k1 k2=>by
  by_cases q:a<=i/\i<b
  .obtain⟨j,j1,j2,e⟩:=h.ins i q.1 q.2;exact⟨j,Y,Y,e⟩
  .exact⟨i,k1,k2,h.out i Y⟩⟩
theorem X4 (hi:i<l.length)(I:j<l.length): (swp l i j).Perm l:=by
 grind[gN,swp]
theorem fc.swp (hi:a<=i)(I:i<b)(hj:a<=j)(J:j<b)(hb:b<=l.length): fc a b l (swp l i j) :=
 ⟨lK,λk hk=>by grind[pR],X4 Y Y,λk k1 k2=>by
  grind[pR]⟩
theorem abK (hi:i<l.length): (aK l)[i]?=some (.int .u64 (gN l i:Int)):=by
 simp[aK,gN,hi]
theorem X5 : (aK l).set i (.int .u64 (x:Int))=aK (l.set i x):=by rw[aK,aK,qd]
def xM (l:List Nat)(a j i:Nat): Prop:=(∀p q,a<=p->p<q->q<=i->p≠j->q≠j->gN l p<=gN l q)/\∀q,j<q->q<=i->gN l j<=gN l q
theorem xM.start (h:iP l a i): xM l a i i:=⟨λp q h1 h2 I J h5=>h p q h1 h2 Y,λq h1 h2=>Y⟩
theorem xM.done (h:xM l a j i)(I:j=a\/gN l (j-1)<=gN l j)(haj:a<=j): iP l a (i+1):=by
 intro p q h1 h2 h3;by_cases e:p=j
 .subst e;exact h.2 q h2 Y
 by_cases J:q=j
 .subst J;rcases I with I|I
  .omega
  .by_cases e3:p=q-1
   .grind
   .exact b7 (h.1 p (q-1) h1 Y Y e Y) I
 .exact h.1 p q h1 h2 Y e J
theorem xM.step (h:xM l a j i)(haj:a<j)(vJ:j<=i)(hi:i<l.length)(bY:gN l j<gN l (j-1)): xM (swp l j (j-1)) a (j-1) i:=by
 have g:∀k,gN (swp l j (j-1)) k=if k=j-1 then gN l j else if k=j then gN l (j-1) else gN l k:=λk=>pR;refine⟨λp q h1 h2 J h4 h5=>?_,λq h1 h2=>?_⟩
 .rw[g,g,ax h4,ax h5];by_cases e:p=j
  .rw[bk e,ax Y];exact h.1 (j-1) q Y Y J Y Y
  .rw[ax e];by_cases I:q=j
   .rw[bk I];exact h.1 p (j-1) h1 Y Y e Y
   .rw[ax I];exact h.1 p q h1 h2 J e I
 .rw[g,g,bk U,ax Y];by_cases e:q=j
  .grind
  .rw[ax e];exact h.2 q Y h2
section
variable {told:bU} {w:V} {y:Nat}
theorem Sat.gB (k)(s:Sat h S)(I:getA S k=some (.arr 1 w (aK l)))(hi:i<l.length): ∃id off,indexAddrV prog 33 w (.int .i64 (i:Int))=some (.ptr id off)/\loadV prog h 32 (.ptr id off)=some (.int .u64 (gN l i:Int)):=by
 obtain⟨id,off,J,e2⟩:=dB (P:=prog) s I (abK hi) dg gL<;>grind[b8]
theorem Sat.j_ (i)(s:Sat h (.arr 1 w (aK l)::S))(hi:i<l.length): ∃id off h',indexAddrV prog 33 w (.int .i64 (i:Int))=some (.ptr id off)/\ga prog h 32 (.ptr id off) (.int .u64 (x:Int))=some h'/\Sat h' (.arr 1 w (aK (l.set i x))::S):=by
 obtain⟨id,off,h',I,J,e3⟩:=k_ (P:=prog) (t:=33) (x:=.int .u64 (x:Int)) s (by rw[aK,cL];exact hi) U U dg gL<;>grind[X5]
theorem X6 (I:W told): Call ⟨prog,told⟩ 258 [.int .u64 (x:Int)] h λv h'=>v=.bool false/\h'=h:=by
 exact Call.of_wp (I.free _ U) func258 U U (zK 8 U (zC U aE cb<|zk 2 U (zR U ⟨U,U⟩)))
theorem nI (I:W told): Call ⟨prog,told⟩ 230 [.int .u64 (x:Int),.int .u64 (y:Int)] h λv h'=>∃bl,v=.bool bl/\h'=h/\(bl=true↔x<y):=by
 refine Call.of_wp (I.free _ U) func230 U U (zK 7 U (zc U (X6 I) ?_));rintro v h' ⟨rfl,rfl⟩;refine zk 8 U ?_;by_cases J:x<y
 .skip;exact zB U aG Q<|zk 3 U (zR U ⟨true,U,U,Q⟩)
 .skip;exact zC U aG Q<|zk 3 U (zR U ⟨false,U,U,Q⟩)
noncomputable def isJ : Code:=aV [1,0,0,1,0,0,1,0,0] ((f224.body).getD .skip)
theorem X7 (hT:W told){v6:V}(hi:i<1000000): ∀(d j:Nat) (l:List Nat) (h:H) (E:List (Nat×V)) (a8:Ex->List (Nat×V)->H->Prop),j=a+d->j<=i->i<l.length->xM l a j i->Sat h (.arr 1 w (aK l)::S) ->
  Has E [(0,w),(1,.int .i64 (a:Int)),(2,v2),(6,v6),(7,.int .i64 (j:Int))] ->
  (∀E' h' l',fc a (i+1) l l'->iP l' a (i+1)->Has E' [(0,w),(1,.int .i64 (a:Int)),(2,v2),(6,v6)]->Sat h' (.arr 1 w (aK l')::S)->a8 (.exit 2) E' h')->WP ⟨prog,told⟩ 49 (.loop isJ) E h a8:=by
 intro d;induction d with
 |zero =>
  exact λj l h E a8 hj vJ J hs s hE hq=>WP.loop (WP.has hE (zK 2 U (WP.drawn [af,af,af,af,af,af,af,af,af,af,af,af,af,af,af] U bo bo<|zM U (zM U (ah.kK U U U U (ag U U dc) Q<|zM U (ah.no (e:=false) U U U U (ah.no (e:=false) U U U U (ah.no (e:=false) U U U U (ah.no (e:=false) U U U U (ah.no (e:=false) U U U U (ah.no (e:=false) U U U U (ah.no (e:=false) U U U U (ah.no (e:=false) U U U U (ah.no (e:=false) U U U U (ah.no (e:=true) U U U U (zO U (lI U U)<|ah.nil ⟨(dq 16),zj U (WP.exit (hq _ _ l .refl (hs.done (.inl hj) Y) ⟨U,U,U,U,aa⟩ s))⟩))))))))))))))))
 |succ d ih =>
  intro j l h E a8 hj vJ J hs s hE hq;obtain⟨r1,o1,e1,f1⟩:=s.gB 0 (i:=j) U Y;obtain⟨r2,o2,e2,f2⟩:=s.gB 0 (i:=j-1) U Y;have I:((j-1:Nat):Int)=(j:Int)-1:=Y;refine WP.loop (WP.has hE (zK 2 U (WP.drawn [af,af,af,af,af,af,af,af,af,af,af,af,af,af,af] U bo bo<|zM U (zM U (ah.ot U U U U (ag U U dc) Q<|zM U (zM U (zM U (zO U (aJ (.ptr r1 o1) U U e1) (zL U f1 (zM U (zM U (zO U (ag (r:=.int .i64 ((j-1:Nat):Int)) U U (by rw[I];exact gz ay))<|zO U (aJ (.ptr r2 o2) U U e2) (zL U f2 (ah.any U U U U (OpR.call U U U U (nI hT)) ?_))))))))))))));rintro v h' ⟨bl,rfl,rfl,hb⟩;cases bl with
  |false =>
   exact zO U (gZ U U)<|ah.nil ⟨(dq 16),zj U (WP.exit (hq _ _ l .refl (hs.done (.inr Q) Y) ⟨U,U,U,U,aa⟩ s))⟩
  |true =>
   refine zO U (gZ U U)<|ah.nil ⟨(dq 16),zK 3 U (WP.block ?_)⟩;have bY:=hb.1 U;have s0:=s;have lD:=(s.cz 0 U).2.2;refine WP.drawn [none,none,some (0,2),some (0,2),some (0,2),af,af,af,af,af,af,af,af,af,af,af,af,af] U bo bo<|zM U (zM U (zM U (zM U (zO U (ag (r:=.int .i64 ((j-1:Nat):Int)) U U (by rw[I];exact gz ay))<|zM U (zM U (zO U (ag (r:=.int .i64 ((j-1:Nat):Int)) U U (by rw[I];exact gz ay))<|zO U (aJ (.ptr r2 o2) U U e2) (zL U f2 (zM U (zM U (zO U (aJ (.ptr r1 o1) U U e1) (zL U f1 ?_)))))))))));obtain⟨r3,o3,h3,e3,g3,s3⟩:=s.j_ j (x:=gN l (j-1)) Y;refine zO U (aJ (.ptr r3 o3) U U e3) (ah.cy U U U (OpR.dX U U U (⟨h3,g3,s3⟩)) ?_);rintro _ h ⟨rfl,s⟩;obtain⟨r4,o4,h4,e4,g4,s4⟩:=s.j_ (j-1) (x:=gN l j) Q;refine zO U (aJ (.ptr r4 o4) U U e4) (ah.cy U U U (OpR.dX U U U (⟨h4,g4,s4⟩)) ?_);rintro _ h ⟨rfl,s⟩;refine ah.nil ⟨⟨aa,aa,λ_ _=>.inr ⟨U,⟨_,aD U⟩,lD⟩,λ_ _=>.inr ⟨U,⟨_,aD U⟩,aA _ U⟩,λ_ _=>.inr ⟨U,⟨_,ag (r:=.int .i64 ((j-1:Nat):Int)) U U (by rw[I];exact gz ay)⟩,aA _ U⟩,dq 14⟩,?_⟩;have s:Sat h (.arr 1 w (aK (swp l j (j-1)))::S):=s;exact zK 2 U (zo U (ag (r:=.int .i64 ((j-1:Nat):Int)) U U (by rw[I];exact gz ay))<|za U (zv<|ih (j-1) _ _ _ a8 Y Y (by rw[lK];exact J) (hs.step Y vJ J bY) s ⟨U,U,U,U,U,aa⟩ λE' h' l' k1 k2 k3 k4=>hq E' h' l' ((fc.swp Y Y Y Y Y).trans k1) k2 k3 k4))
noncomputable def isI : Code:=aV [1,0,0] ((f224.body).getD .skip)
theorem UO (hT:W told)(hb:b<1000000): ∀(d i:Nat) (l:List Nat) (h:H) (E:List (Nat×V)) (a8:Ex->List (Nat×V)->H->Prop),b-i=d->a<i->b<=l.length->iP l a i->Sat h (.arr 1 w (aK l)::S) ->
  Has E [(0,w),(1,.int .i64 (a:Int)),(2,.int .i64 (b:Int)),(6,.int .i64 (i:Int))] ->
  (∀E' h' l',fc a b l l'->iP l' a b->Sat h' (.arr 1 w (aK l')::S)->a8 (.exit 0) E' h')->WP ⟨prog,told⟩ 49 (.loop isI) E h a8:=by
 intro d;induction d with
 |zero =>
  exact λi l h E a8 hd J I hs s hE hq=>WP.loop (WP.has hE (zK 5 U (zC U aG Q<|zk 2 U (WP.exit (hq _ _ l .refl (λp q h1 h2 h3=>hs p q h1 h2 Y) s)))))
 |succ d ih =>
  refine λi l h E a8 hd J I hs s hE hq=>WP.loop (WP.has hE (zK 5 U (zB U aG Q<|zk 4 U (WP.block (zK 5 U (WP.block (X7 (v2:=.int .i64 (b:Int)) (v6:=.int .i64 (i:Int)) hT (i:=i) Y (i-a) i l _ _ _ Y (az _) Y (xM.start hs) s ⟨U,U,U,U,U,aa⟩ λE' h' l' k1 k2 fg s'=>?_)))))));have s:=s';exact WP.has fg (zK 2 U (zo U (ag (r:=.int .i64 ((i+1:Nat):Int)) U U (by grind[aT,ay]))<|za U (zv<|ih (i+1) l' _ _ a8 Y Y (by rw[k1.len];exact I) k2 s ⟨U,U,U,U,aa⟩ λE' h' l2 g1 g2 g3=>hq E' h' l2 ((k1.wide (az _) Y).trans g1) g2 g3)))
theorem X8 (J:W told)(ha:a<1000000)(hb:b<1000000)(I:b<=l.length)(s:Sat h (.arr 1 w (aK l)::S)):
  Call ⟨prog,told⟩ 224 [w,.int .i64 (a:Int),.int .i64 (b:Int)] h λv h'=>v=.aR []/\∃l',fc a b l l'/\iP l' a b/\Sat h' (.arr 1 w (aK l')::S):=by
 exact Call.of_wp (J.free _ U) func224 U U (zK 3 U (zo U (ag (r:=.int .i64 ((a+1:Nat):Int)) U U (by grind[aT,ay]))<|zk 2 U (WP.block (UO J hb _ (a+1) l _ _ _ U Y I (λp q h1 h2 h3=>Y) s ⟨U,U,U,U,aa⟩ λE' h' l' k1 k2 s'=>⟨aa,_,U,U,l',k1,k2,s'⟩))))
end
def sn (p c:Nat): Prop:=c=2*p+1\/c=2*p+2
def C0 (l:List Nat)(f lo hi:Nat): Prop:=∀p c,lo<=p->sn p c->c<hi->gN l (f+c)<=gN l (f+p)
def Az (l:List Nat)(f lo hi r:Nat): Prop:=(∀p c,lo<=p->p≠r->sn p c->c<hi->gN l (f+c)<=gN l (f+p))/\∀q c,lo<=q->sn q r->sn r c->c<hi->gN l (f+c)<=gN l (f+q)
theorem Az.start {lo hi:Nat}(h:C0 l f (lo+1) hi): Az l f lo hi lo:=⟨λp c h1 h2 I J=>h p c Y I J,λq c h1 h2=>by unfold sn at h2;omega⟩
theorem Az.done {lo hi:Nat}(h:Az l f lo hi r)(g:∀c,sn r c->c<hi->gN l (f+c)<=gN l (f+r)): C0 l f lo hi:=λp c h1 h2 I=>by
 by_cases e:p=r
 .grind
 .exact h.1 p c h1 e h2 I
theorem Az.step {lo hi:Nat}(h:Az l f lo hi r)(hr:lo<=r)(J:sn r c)(qT:c<hi)(hl:f+hi<=l.length)(hm:∀d,sn r d->d<hi->gN l (f+d)<=gN l (f+c))(bY:gN l (f+r)<gN l (f+c)): Az (swp l (f+r) (f+c)) f lo hi c:=by
 have ZL:r<c:=by unfold sn at J;omega
 have g:∀k,gN (swp l (f+r) (f+c)) (f+k)=if k=c then gN l (f+r) else if k=r then gN l (f+c) else gN l (f+k):=λk=>by
  grind[pR]
 refine⟨λp d h1 h2 I h4=>?_,λq d h1 h2 I h4=>?_⟩
 .rw[g,g,ax h2];by_cases e:p=r
  .grind
  .rw[ax e];by_cases e2:d=c
   .grind[sn]
   .rw[ax e2];by_cases e3:d=r
    .subst e3;rw[bk U];exact h.2 p c h1 I J qT
    .rw[ax e3];exact h.1 p d h1 e I h4
 .have hq:q=r:=by unfold sn at h2 J;omega
  subst hq;rw[g,g,ax (by unfold sn at I;omega),ax (by unfold sn at I;omega),ax Y,bk U];exact h.1 c d Y Y I h4
theorem C0.max (h:C0 l f 0 n): ∀ {p:Nat},p<n->gN l (f+p)<=gN l f:=by
 intro p;induction p using Nat.strongRecOn with
 |ind p I =>
  intro J;by_cases e:p=0
  .grind
  .exact b7 (h ((p-1)/2) p (dz _) (by unfold sn;omega) J) (I ((p-1)/2) Y Y)
def MQ (l:List Nat)(f k hi:Nat): Prop:=C0 l f 0 k/\∀p q,k<=q->q<hi->p<q->gN l (f+p)<=gN l (f+q)
theorem MQ.start {hi:Nat}(h:MQ l f (k+1) hi)(I:f+hi<=l.length)(J:k<hi): Az (swp l f (f+k)) f 0 k 0:=Az.start λp c h1 h2 h3=>by
 have h4:p<c:=by unfold sn at h2;omega
 rw[pR,pR,ax Y,ax Y,ax Y,ax Y];exact h.1 p c (dz _) h2 Y
theorem MQ.step {l l':List Nat}{f k hi:Nat}(h:MQ l f (k+1) hi)(hl:f+hi<=l.length)(hk:k<hi)(I:fc (f+0) (f+k) (swp l f (f+k)) l')(hh:C0 l' f 0 k): MQ l' f k hi:=by
 refine⟨hh,λp q h1 h2 h3=>?_⟩;have g:∀j,gN (swp l f (f+k)) j=if j=f+k then gN l f else if j=f then gN l (f+k) else gN l j:=λj=>pR;have low:p<k->∃j,j<=k/\gN l' (f+p)=gN l (f+j):=λhpk=>by
  obtain⟨j,j1,j2,e⟩:=I.ins (f+p) Y Y;rw[g,ax Y] at e;split at e
  .grind
  .exact⟨j-f,Y,Q⟩
 have J:gN l' (f+q)=if q=k then gN l f else gN l (f+q):=by
  rw[I.out (f+q) Y,g];by_cases e:q=k
  .grind
  .grind
 rw[J];by_cases e:q=k
 .rw[bk e];obtain⟨j,hj,e2⟩:=low Y;rw[e2];exact h.1.max Y
 .rw[ax e];by_cases e2:p<k
  .obtain⟨j,hj,e3⟩:=low e2;rw[e3];exact h.2 j q Y h2 Y
  .have e3:gN l' (f+p)=if p=k then gN l f else gN l (f+p):=by
    rw[I.out (f+p) Y,g];by_cases e:p=k
    .grind
    .grind
   rw[e3];split
   .exact h.2 0 q Y h2 Y
   .exact h.2 p q Y h2 h3
section
variable {told:bU} {w:V} {lo hi:Nat}
theorem FI {x:Operand}(I:a*b=c)(h1:c<9223372036854775808): binV P h .mul t x y (.int .i64 (a:Int)) (.int .i64 (b:Int))=some (.int .i64 (c:Int)):=by
 grind[jM,ay]
theorem fE {x:Operand}(I:a+b=c)(h1:c<9223372036854775808): binV P h .add t x y (.int .i64 (a:Int)) (.int .i64 (b:Int))=some (.int .i64 (c:Int)):=by
 grind[aT,ay]
theorem gH {x:Operand}(b)(I:c+b=a)(h1:a<9223372036854775808): binV P h .sub t x y (.int .i64 (a:Int)) (.int .i64 (b:Int))=some (.int .i64 (c:Int)):=by
 grind[gz,ay]
theorem yI {x:Operand}(I:0<b)(hw:a<9223372036854775808): binV P h .quo t x y (.int .i64 (a:Int)) (.int .i64 (b:Int))=some (.int .i64 ((a/b:Nat):Int)):=He I hw
noncomputable def sdL : Code:=aV [1,0,0] ((f253.body).getD .skip)
noncomputable def sdT : Code:=aV [1,0,0,0,1,1,1] ((f253.body).getD .skip)
theorem UP (hT:W told)(Z6:hi<1000000)(hf:f<1000000)(hl:f+hi<=l.length)(hr:r<hi)(hc:c<hi)(s:Sat h (.arr 1 w (aK l)::S))(hE:Has E [(0,w),(2,.int .i64 (hi:Int)),(3,.int .i64 (f:Int)),(8,.int .i64 (r:Int)),(9,.int .i64 (c:Int))])
 (h1:∀E',gN l (f+c)<=gN l (f+r)->a8 .ret E' h)
 (h2:∀E' h',gN l (f+r)<gN l (f+c)->Has E' [(0,w),(2,.int .i64 (hi:Int)),(3,.int .i64 (f:Int)),(8,.int .i64 (c:Int))]->Sat h' (.arr 1 w (aK (swp l (f+r) (f+c)))::S)->a8 .normal E' h'): WP ⟨prog,told⟩ 76 sdT E h a8:=by
 obtain⟨r1,o1,e1,f1⟩:=s.gB 0 (i:=f+r) U Y;obtain⟨r2,o2,e2,f2⟩:=s.gB 0 (i:=f+c) U Y;have I:=(s.cz 0 U).2.2;refine WP.has hE (zK 2 U (WP.drawn [af,af,af,af,af,af,af,af,af,af,af,af,af,af] U bo bo<|zM U (zM U (zM U (zO U (ag U U (fE U Y))<|zO U (aJ (.ptr r1 o1) U U e1) (zL U f1 (zM U (zM U (zM U (zO U (ag U U (fE U Y))<|zO U (aJ (.ptr r2 o2) U U e2) (zL U f2 (ah.any U U U U (OpR.call U U U U (nI hT)) ?_))))))))))));rintro v h' ⟨bl,rfl,rfl,J⟩;cases bl with
 |false =>
  refine zO U (cI U U)<|ah.nil ⟨(dq 15),?_⟩;exact zi U (WP.ret (h1 _ (by simp at J;exact J)))
 |true =>
  refine zO U (cI U U)<|ah.nil ⟨(dq 15),zK 3 U ?_⟩;obtain⟨r3,o3,h3,e3,g3,s3⟩:=s.j_ (f+r) (x:=gN l (f+c)) Y;refine WP.drawn [af,af,af,af,some (0,2),some (0,2),some (0,2),some (0,2),af,af,af,af,af,af,af,af,af,af,af,af,af,af,af,af] U bo bo<|zM U (zM U (zM U (zO U (ag U U (fE U Y))<|zM U (zM U (zM U (zO U (ag U U (fE U Y))<|zM U (zM U (zM U (zO U (ag U U (fE U Y))<|zO U (aJ (.ptr r2 o2) U U e2) (zL U f2 (zM U (zM U (zM U (zO U (ag U U (fE U Y))<|zO U (aJ (.ptr r1 o1) U U e1) (zL U f1 (zO U (aJ (.ptr r3 o3) U U e3) (ah.cy U U U (OpR.dX U U U (⟨h3,g3,s3⟩)) ?_)))))))))))))))));rintro _ h ⟨rfl,s⟩;obtain⟨r4,o4,h4,e4,g4,s4⟩:=s.j_ (f+c) (x:=gN l (f+r)) Q;refine zO U (aJ (.ptr r4 o4) U U e4) (ah.cy U U U (OpR.dX U U U (⟨h4,g4,s4⟩)) ?_);rintro _ h ⟨rfl,s⟩;exact ah.nil ⟨⟨aa,aa,aa,aa,λ_ _=>.inr ⟨U,⟨_,aD U⟩,I⟩,λ_ _=>.inr ⟨U,⟨_,aD U⟩,aA _ U⟩,λ_ _=>.inr ⟨U,⟨_,aD U⟩,aA _ U⟩,λ_ _=>.inr ⟨U,⟨_,ag U U (fE U Y)⟩,aA _ U⟩,dq 17⟩,zr U (zk 2 U (zv<|h2 _ _ (J.1 U) ⟨U,U,U,U,aa⟩ s))⟩
theorem UQ (hT:W told)(Z6:hi<1000000)(hf:f<1000000): ∀(d r:Nat) (l:List Nat) (h:H) (E:List (Nat×V)) (a8:Ex->List (Nat×V)->H->Prop),hi-r<d->r<1000000->lo<=r->f+hi<=l.length->Az l f lo hi r->Sat h (.arr 1 w (aK l)::S) ->
  Has E [(0,w),(2,.int .i64 (hi:Int)),(3,.int .i64 (f:Int)),(8,.int .i64 (r:Int))] ->
  (∀ex E' h' l',(ex=.exit 0\/ex=.ret)->fc (f+lo) (f+hi) l l'->C0 l' f lo hi->Sat h' (.arr 1 w (aK l')::S)->a8 ex E' h')->WP ⟨prog,told⟩ 76 (.loop sdL) E h a8:=by
 intro d;induction d with
 |zero=>intro r l h E a8 hd;omega
 |succ d ih =>
  intro r l h E a8 hd hr6 tw J hx s hE I;have tail:r<hi->∀c E (Q2:Ex->List (Nat×V)->H->Prop),sn r c->c<hi->(∀d,sn r d->d<hi->gN l (f+d)<=gN l (f+c))->Has E [(0,w),(2,.int .i64 (hi:Int)),(3,.int .i64 (f:Int)),(8,.int .i64 (r:Int)),(9,.int .i64 (c:Int))]->(∀E',C0 l f lo hi->Q2 .ret E' h) ->
    (∀E' h' l',fc (f+lo) (f+hi) l l'->Az l' f lo hi c->Has E' [(0,w),(2,.int .i64 (hi:Int)),(3,.int .i64 (f:Int)),(8,.int .i64 (c:Int))]->Sat h' (.arr 1 w (aK l')::S)->Q2 .normal E' h')->WP ⟨prog,told⟩ 76 sdT E h Q2:=λhr c E Q2 hk hc hm hE q1 q2 =>
   UP hT Z6 hf J hr hc s hE (λE' k=>q1 E' (hx.done λd h1 h2=>b7 (hm d h1 h2) k)) λE' h' k g s'=>q2 E' h' _ (.swp Y Y (by unfold sn at hk;omega) Y J) (hx.step tw hk hc J hm k) g s'
  refine WP.loop (WP.has hE (WP.block (zK 3 U (zo U (ag (r:=.int .i64 ((2*r:Nat):Int)) U U (FI (a:=2) U Y))<|zo U (ag (r:=.int .i64 ((2*r+1:Nat):Int)) U U (fE U Y))<|zk 7 U ?_))));by_cases c1:hi<=2*r+1
  .skip;refine zB U dO Q ?_;exact zk 2 U (WP.exit (I _ _ _ l (.inl U) .refl (hx.done λc hc qT=>by unfold sn at hc;omega) s))
  .skip;refine zC U dO Q<|zk 5 U (WP.drawn [af,af,af,af,af,af,af,af,af,af,af,af,af,af,af,af,af,af,af,af] U bo bo<|zM U (zO U (ag (r:=.int .i64 ((2*r+2:Nat):Int)) U U (fE U Y))<|zM U ?_));by_cases c2:2*r+2<hi
   .skip;refine ah.ot U U U U (ag U U aG) Q ?_;obtain⟨r1,o1,e1,f1⟩:=s.gB 0 (i:=f+(2*r+1)) U Y;obtain⟨r2,o2,e2,f2⟩:=s.gB 0 (i:=f+(2*r+1)+1) U Y;refine zM U (zM U (zM U (zM U (zO U (ag U U (fE U Y))<|zO U (aJ (.ptr r1 o1) U U e1) (zL U f1 (zM U (zM U (zM U (zO U (ag U U (fE U Y))<|zO U (ag U U (fE (b:=1) U Y))<|zO U (aJ (.ptr r2 o2) U U e2) (zL U f2 (ah.any U U U U (OpR.call U U U U (nI hT)) ?_)))))))))));rintro v h' ⟨bl,rfl,rfl,hb⟩;cases bl with
    |false =>
     refine zO U (gZ U U)<|ah.nil ⟨(dq 21),zK 2 U<|tail Y (2*r+1) _ _ (.inl U) Y (λd h1 h2=>?_) ⟨U,U,U,U,U,aa⟩ (λE' k=>?_) λE' h' l' k1 k2 k3 s'=>?_⟩
     .rcases h1 with rfl|rfl
      .simp
      .grind
     .exact I _ _ _ l (.inr U) .refl k s
     .have s:=s';exact WP.has k3 (ih (2*r+1) l' _ _ a8 Y Y Y (by rw[k1.len];exact J) k2 s ⟨U,U,U,U,aa⟩ λex E' h' l2 g1 g2 g3 g4=>I ex E' h' l2 g1 (k1.trans (g2)) g3 g4)
    |true =>
     refine zO U (gZ U U)<|ah.nil ⟨(dq 21),zK 3 U (zo U (ag (r:=.int .i64 ((2*r+2:Nat):Int)) U U (fE U Y))<|zk 2 U<|tail Y (2*r+2) _ _ (.inr U) Y (λd h1 h2=>?_) ⟨U,U,U,U,U,aa⟩ (λE' k=>?_) λE' h' l' k1 k2 k3 s'=>?_)⟩
     .rcases h1 with rfl|rfl<;>grind
     .exact I _ _ _ l (.inr U) .refl k s
     .have s:=s';exact WP.has k3 (ih (2*r+2) l' _ _ a8 Y Y Y (by rw[k1.len];exact J) k2 s ⟨U,U,U,U,aa⟩ λex E' h' l2 g1 g2 g3 g4=>I ex E' h' l2 g1 (k1.trans (g2)) g3 g4)
   .skip;refine ah.kK U U U U (ag U U aG) Q<|zM U (ah.no (e:=false) U U U U (ah.no (e:=false) U U U U (ah.no (e:=false) U U U U (ah.no (e:=false) U U U U (ah.no (e:=false) U U U U (ah.no (e:=false) U U U U (ah.no (e:=false) U U U U (ah.no (e:=false) U U U U (ah.no (e:=false) U U U U (ah.no (e:=false) U U U U (ah.no (e:=false) U U U U (ah.no (e:=false) U U U U (ah.no (e:=false) U U U U (ah.no (e:=true) U U U U (zO U (lI U U)<|ah.nil ⟨(dq 21),zK 2 U<|tail Y (2*r+1) _ _ (.inl U) Y (λd h1 h2=>?_) ⟨U,U,U,U,U,aa⟩ (λE' k=>?_) λE' h' l' k1 k2 k3 s'=>?_⟩)))))))))))))))
    .rcases h1 with rfl|rfl
     .simp
     .omega
    .exact I _ _ _ l (.inr U) .refl k s
    .have s:=s';exact WP.has k3 (ih (2*r+1) l' _ _ a8 Y Y Y (by rw[k1.len];exact J) k2 s ⟨U,U,U,U,aa⟩ λex E' h' l2 g1 g2 g3 g4=>I ex E' h' l2 g1 (k1.trans (g2)) g3 g4)
theorem PT (hT:W told)(I:hi<1000000)(hf:f<1000000)(J:lo<1000000)(hl:f+hi<=l.length)(hx:Az l f lo hi lo)(s:Sat h (.arr 1 w (aK l)::S)):
  Call ⟨prog,told⟩ 253 [w,.int .i64 (lo:Int),.int .i64 (hi:Int),.int .i64 (f:Int)] h λv h'=>v=.aR []/\∃l',fc (f+lo) (f+hi) l l'/\C0 l' f lo hi/\Sat h' (.arr 1 w (aK l')::S):=by
 refine Call.of_wp (hT.free _ U) func253 U U (zK 5 U (WP.block (UQ hT I hf _ lo l _ _ _ (rK _) J (az _) hl hx s ⟨U,U,U,U,aa⟩ λex E' h' l' hex k1 k2 s'=>?_)));rcases hex with rfl|rfl
 .skip;exact⟨aa,_,U,U,l',k1,k2,s'⟩
 .skip;exact⟨aa,_,U,U,l',k1,k2,s'⟩
noncomputable def hsA : Code:=aV [1,1,1,0,1,0,0] ((f225.body).getD .skip)
theorem abL (hT:W told)(J:hi<1000000)(hf:f<1000000){v7:V}: ∀(k:Nat) (l:List Nat) (h:H) (E:List (Nat×V)) (a8:Ex->List (Nat×V)->H->Prop),k<=hi->f+hi<=l.length->C0 l f k hi->Sat h (.arr 1 w (aK l)::S) ->
  Has E [(0,w),(6,.int .i64 (f:Int)),(7,v7),(8,.int .i64 (hi:Int)),(9,.int .i64 ((k:Int)-1))] ->
  (∀E' h' l',fc f (f+hi) l l'->C0 l' f 0 hi->Has E' [(0,w),(6,.int .i64 (f:Int)),(7,v7),(8,.int .i64 (hi:Int))]->Sat h' (.arr 1 w (aK l')::S)->a8 (.exit 0) E' h')->WP ⟨prog,told⟩ 56 (.loop hsA) E h a8:=by
 intro k;induction k with
 |zero =>
  exact λl h E a8 hk hl hh s I hq=>WP.loop (WP.has I (zK 4 U (zC U dO O<|zk 2 U (WP.exit (hq _ _ l .refl hh ⟨U,U,U,U,aa⟩ s)))))
 |succ k ih =>
  intro l h E a8 hk hl hh s I hq;have I:Has E [(0,w),(6,.int .i64 (f:Int)),(7,v7),(8,.int .i64 (hi:Int)),(9,.int .i64 (k:Int))]:=by
   grind
  refine WP.loop (WP.has I (zK 4 U (zB U dO cb ?_)));refine zk 4 U (WP.block (zK 5 U (zc U (PT hT J hf (show k<1000000 by omega) hl (Az.start hh) s) ?_)));rintro v h' ⟨rfl,l1,k1,k2,s⟩;exact zv (zr U (zm U (zo U (ag (r:=.int .i64 ((k:Int)-1)) U U (gz ay))<|za U (zv<|ih l1 _ _ a8 Y (by rw[k1.len];exact hl) k2 s ⟨U,U,U,U,U,aa⟩ λE' h' l2 g1 g2 g3 g4=>hq E' h' l2 ((k1.wide Y (az _)).trans g1) g2 g3 g4))))
noncomputable def hsB : Code:=aV [1,1,1,1,1,0,0] ((f225.body).getD .skip)
theorem UR (hT:W told)(Z6:hi<1000000)(hf:f<1000000): ∀(k:Nat) (l:List Nat) (h:H) (E:List (Nat×V)) (a8:Ex->List (Nat×V)->H->Prop),k<=hi->f+hi<=l.length->MQ l f k hi->Sat h (.arr 1 w (aK l)::S) ->
  Has E [(0,w),(6,.int .i64 (f:Int)),(7,.int .i64 0),(10,.int .i64 ((k:Int)-1))] ->
  (∀E' h' l',fc f (f+hi) l l'->MQ l' f 0 hi->Sat h' (.arr 1 w (aK l')::S)->a8 (.exit 2) E' h')->WP ⟨prog,told⟩ 56 (.loop hsB) E h a8:=by
 intro k;induction k with
 |zero =>
  exact λl h E a8 hk I J s hE hq=>WP.loop (WP.has hE (zK 4 U (zC U dO O<|zk 2 U (WP.exit (hq _ _ l .refl J s)))))
 |succ k ih =>
  intro l h E a8 hk I J s hE hq;have hE:Has E [(0,w),(6,.int .i64 (f:Int)),(7,.int .i64 0),(10,.int .i64 (k:Int))]:=by
   grind
  obtain⟨r1,o1,e1,f1⟩:=s.gB 0 (i:=f+k) U Y;obtain⟨r2,o2,e2,f2⟩:=s.gB 0 (i:=f) U Y;obtain⟨r3,o3,h3,e3,g3,s3⟩:=s.j_ f (x:=gN l (f+k)) Y;have lD:=(s.cz 0 U).2.2;have s0:=s;refine WP.loop (WP.has hE (zK 4 U (zB U dO cb<|zk 4 U (WP.block (zw (WP.drawn [none,none,some (0,2),some (0,2),some (0,2),some (0,2),af,af,af,af,af,af,af,af,af,af,af,af,af,af] U bo bo<|zM U (zM U (zM U (zM U (zM U (zO U (ag U U (fE U Y))<|zM U (zM U (zM U (zO U (ag U U (fE U Y))<|zO U (aJ (.ptr r1 o1) U U e1) (zL U f1 (zM U (zM U (zO U (aJ (.ptr r2 o2) U U e2) (zL U f2 (zO U (aJ (.ptr r3 o3) U U e3) (ah.cy U U U (OpR.dX U U U (⟨h3,g3,s3⟩)) ?_)))))))))))))))))))));rintro _ h ⟨rfl,s⟩;obtain⟨r4,o4,h4,e4,g4,s4⟩:=s.j_ (f+k) (x:=gN l f) Q;refine zO U (aJ (.ptr r4 o4) U U e4) (ah.cy U U U (OpR.dX U U U (⟨h4,g4,s4⟩)) ?_);rintro _ h ⟨rfl,s⟩;refine ah.nil ⟨⟨aa,aa,λ_ _=>.inr ⟨U,⟨_,aD U⟩,lD⟩,λ_ _=>.inr ⟨U,⟨_,aD U⟩,aA _ U⟩,λ_ _=>.inr ⟨U,⟨_,aD U⟩,aA _ U⟩,λ_ _=>.inr ⟨U,⟨_,ag U U (fE U Y)⟩,aA _ U⟩,dq 15⟩,?_⟩;have s:Sat h (.arr 1 w (aK (swp l f (f+k)))::S):=s;have qC:fc f (f+hi) l (swp l f (f+k)):=.swp (az _) Y Y Y I;refine zK 5 U (zc U (PT (lo:=0) (hi:=k) hT Y hf O (by rw[lK];omega) (J.start I Y) s) ?_);rintro v h' ⟨rfl,l1,k1,k2,s⟩;exact zv (zr U (zm U (zo U (ag (r:=.int .i64 ((k:Int)-1)) U U (gz ay))<|za U (zv<|ih l1 _ _ a8 Y (by rw[k1.len,lK];exact I) (J.step I Y k1 k2) s ⟨U,U,U,U,aa⟩ λE' h' l2 g1 g2 g3=>hq E' h' l2 (qC.trans ((k1.wide Y Y).trans g1)) g2 g3))))
theorem abM (I:W told)(ha:a<b)(hb:b<1000000)(yy:b<=l.length)(s:Sat h (.arr 1 w (aK l)::S)):
  Call ⟨prog,told⟩ 225 [w,.int .i64 (a:Int),.int .i64 (b:Int)] h λv h'=>v=.aR []/\∃l',fc a b l l'/\iP l' a b/\Sat h' (.arr 1 w (aK l')::S):=by
 have J:a+(b-a)=b:=Y;refine Call.of_wp (I.free _ U) func225 U U (zK 13 U (zo U (ag (r:=.int .i64 ((b-a:Nat):Int)) U U (gH _ Y Y))<|zk 6 U (zo U (ag (r:=.int .i64 ((b-a-1:Nat):Int)) U U (gH 1 Y Y)) ?_)));refine zo U (ag (r:=.int .i64 ((((b-a-1)/2+1:Nat):Int)-1)) U U (by rw[show((((b-a-1)/2+1:Nat):Int)-1)=(((b-a-1)/2:Nat):Int) by omega];exact yI (b:=2) O Y)) ?_;refine zk 2 U (WP.block (abL (f:=a) (hi:=b-a) I Y Y ((b-a-1)/2+1) l _ _ _ Y Y (λp c h1 h2 h3=>by unfold sn at h2;omega) s ⟨U,U,U,U,U,aa⟩ λE' h' l1 k1 k2 k3 s'=>?_));have s:=s';refine WP.has k3 (zK 3 U (zo U (ag (r:=.int .i64 (((b-a:Nat):Int)-1)) U U (gz ay))<|zk 2 U (WP.block (UR (f:=a) (hi:=b-a) I Y Y (b-a) l1 _ _ _ (az _) (by rw[k1.len];omega) ⟨k2,λp q h1 h2 h3=>Y⟩ s ⟨U,U,U,U,aa⟩ λE' h' l2 g1 g2 s'=>?_))));have s:=s';rw[J] at k1 g1;exact⟨aa,_,U,U,l2,k1.trans g1,λi j h1 h2 h3=>by
  have:=g2.2 (i-a) (j-a) (dz _) Y Y
  rwa [show a+(i-a)=i by omega,show a+(j-a)=j by omega] at this,s⟩
end
section
variable {told:bU} {w:V} {y z lo hi p:Nat}
theorem IZ (J:W told)(hx:lo<=x/\x<hi)(hy:lo<=y/\y<hi)(hl:hi<=l.length)(hc:c<1000000)(s:Sat h (.arr 1 w (aK l)::pt p (.cells 1 [.int .i64 (c:Int)] false)::S)):
  Call ⟨prog,told⟩ 263 [w,.int .i64 (x:Int),.int .i64 (y:Int),.ptr p 0] h λv h'=>∃x' I c':Nat,v=.aR [.int .i64 (x':Int),.int .i64 (I:Int)]/\(lo<=x'/\x'<hi)/\(lo<=I/\I<hi)/\c'<=c+1/\Sat h' (.arr 1 w (aK l)::pt p (.cells 1 [.int .i64 (c':Int)] false)::S):=by
 obtain⟨r1,o1,e1,f1⟩:=s.gB 0 (i:=x) U Y;obtain⟨r2,o2,e2,f2⟩:=s.gB 0 (i:=y) U Y;refine Call.of_wp (J.free _ U) func263 U U (zK 7 U (WP.drawn [af,af,af,af,af,af,af,af,af] U bo bo<|zM U (zM U (zO U (aJ (.ptr r2 o2) U U e2) (zL U f2 (zM U (zM U (zO U (aJ (.ptr r1 o1) U U e1) (zL U f1 (ah.any U U U U (OpR.call U U U U (nI J)) ?_))))))))));rintro v h' ⟨bl,rfl,rfl,hb⟩;cases bl with
 |false =>
  exact ah.nil ⟨(dq 10),zK 9 U (zR U ⟨x,y,c,U,hx,hy,Y,s⟩)⟩
 |true =>
  exact ah.nil ⟨(dq 10),zK 5 U (zy s 1 cW U (zb U (fE (b:=1) U Y)<|zn U (zS U (s.cS (k:=1) U kr U O U U) λh s=>zk 8 U (WP.ret ⟨aa,_,U,y,x,c+1,U,hy,hx,az _,s⟩))))⟩
theorem MR (I:W told)(hx:lo<=x/\x<hi)(hy:lo<=y/\y<hi)(hz:lo<=z/\z<hi)(J:hi<=l.length)(hc:c<900000)(s:Sat h (.arr 1 w (aK l)::pt p (.cells 1 [.int .i64 (c:Int)] false)::S)):
  Call ⟨prog,told⟩ 257 [w,.int .i64 (x:Int),.int .i64 (y:Int),.int .i64 (z:Int),.ptr p 0] h λv h'=>∃x' c':Nat,v=.int .i64 (x':Int)/\(lo<=x'/\x'<hi)/\c'<=c+3/\Sat h' (.arr 1 w (aK l)::pt p (.cells 1 [.int .i64 (c':Int)] false)::S):=by
 refine Call.of_wp (I.free _ U) func257 U U (zK 10 U (zc U (IZ I hx hy J Y s) ?_));rintro v h ⟨x1,y1,c1,rfl,Le,Ma,Ev,s⟩;refine zk 12 U (zc U (IZ I Ma hz J Y s) ?_);rintro v h ⟨x2,y2,c2,rfl,hx2,hy2,sH,s⟩;refine zk 12 U (zc U (IZ I Le hx2 J Y s) ?_);rintro v h ⟨x3,y3,c3,rfl,hx3,hy3,ER,s⟩;exact zk 11 U (zR U ⟨y3,c3,U,hy3,Y,s⟩)
theorem I0 (I:W told)(hx:lo+1<=x/\x+1<hi)(J:hi<=l.length)(hh:hi<1000000)(hc:c<900000)(s:Sat h (.arr 1 w (aK l)::pt p (.cells 1 [.int .i64 (c:Int)] false)::S)):
  Call ⟨prog,told⟩ 256 [w,.int .i64 (x:Int),.ptr p 0] h λv h'=>∃x' c':Nat,v=.int .i64 (x':Int)/\(lo<=x'/\x'<hi)/\c'<=c+3/\Sat h' (.arr 1 w (aK l)::pt p (.cells 1 [.int .i64 (c':Int)] false)::S):=by
 refine Call.of_wp (I.free _ U) func256 U U (zK 8 U (zo U (ag (r:=.int .i64 ((x-1:Nat):Int)) U U (gH 1 Y Y))<|zk 2 U (zb U (fE (b:=1) U Y)<|zm U (zc U (MR (lo:=lo) (hi:=hi) I Y Y Y J hc s) ?_))));rintro v h ⟨x',c',rfl,h1,h2,s⟩;exact zk 2 U (zR U ⟨x',c',U,h1,h2,s⟩)
noncomputable def pvT : Code:=aV [1,1,1,1,1,1,1] ((f227.body).getD .skip)
theorem Hr (hc:c<900000)(s:Sat h (.arr 1 w (aK l)::pt p (.cells 1 [.int .i64 (c:Int)] false)::S))(hE:Has E [(9,.ptr p 0),(11,.int .i64 (x:Int))])
 (I:∀(E':List (Nat×V)) (h':H) (J:Nat),J<=2->Has E' [(6,.int .i64 (x:Int)),(7,.int .i64 (J:Int))]->Sat h' (.arr 1 w (aK l)::S)->a8 .ret E' h'): WP ⟨prog,told⟩ 57 pvT E h a8:=by
 refine WP.has hE (zg U (zy s 1 cW U (zv (WP.block (zg U ?_)))));by_cases c1:c=0
 .skip;exact zB U bH Q<|zk 9 U (WP.ret (I _ _ 1 O ⟨U,U,aa⟩ (s.del 1)))
 .skip;refine zC U bH Q<|zk 5 U ?_;by_cases c2:c=12
  .skip;exact zB U bH Q<|zk 9 U (WP.ret (I _ _ 2 O ⟨U,U,aa⟩ (s.del 1)))
  .skip;exact zC U bH Q<|zk 9 U (WP.ret (I _ _ 0 O ⟨U,U,aa⟩ (s.del 1)))
theorem X9 (I:W told)(jS:a+13<=b)(hl:b<=l.length)(hb:b<1000000)(s:Sat h (.arr 1 w (aK l)::S)):
  Call ⟨prog,told⟩ 227 [w,.int .i64 (a:Int),.int .i64 (b:Int)] h λv h'=>∃pv J:Nat,v=.aR [.int .i64 (pv:Int),.int .i64 (J:Int)]/\a<=pv/\pv<b/\J<=2/\Sat h' (.arr 1 w (aK l)::S):=by
 refine Call.of_wp (I.free _ U) func227 U U (zK 9 U (zo U (ag (r:=.int .i64 ((b-a:Nat):Int)) U U (gH _ Y Y))<|zk 4 U (aq.bG s U U U (bK EG) λp h s=>?_)));have s:Sat h (.arr 1 w (aK l)::pt p (.cells 1 [.int .i64 ((0:Nat):Int)] false)::S):=s.ae [1,0];refine zk 5 U (zb U (yI (b:=4) O Y)<|zb U (FI (b:=1) U Y)<|zb U (fE U Y)<|zk 6 U (zb U (yI (b:=4) O Y)<|zb U (FI (b:=2) U Y)<|zb U (fE U Y)<|zk 6 U (zb U (yI (b:=4) O Y)<|zb U (FI (b:=3) U Y)<|zb U (fE U Y)<|zk 6 U (zB U dO Q<|zk 6 U ?_))));by_cases c1:50<=b-a
 .skip;refine zB U dO Q<|zk 6 U (zc U (I0 (lo:=a) (hi:=b) I Y hl hb O s) ?_);rintro v h ⟨x1,c1,rfl,g1,k1,s⟩;refine zk 6 U (zc U (I0 (lo:=a) (hi:=b) I Y hl hb Y s) ?_);rintro v h ⟨x2,c2,rfl,g2,k2,s⟩;refine zk 5 U (zc U (I0 (lo:=a) (hi:=b) I Y hl hb Y s) ?_);rintro v h ⟨x3,c3,rfl,g3,k3,s⟩;refine zk 7 U (zc U (MR (lo:=a) (hi:=b) I g1 g2 g3 hl Y s) ?_);rintro v h ⟨x4,c4,rfl,g4,k4,s⟩;exact zk 2 U (Hr Y s ⟨U,U,aa⟩ λE' h' J k1 k2 s'=>⟨aa,_,IM k2.1 k2.2.1,x4,J,U,g4.1,g4.2,k1,s'⟩)
 .skip;refine zC U dO Q<|zk 8 U (zc U (MR (lo:=a) (hi:=b) I Y Y Y hl O s) ?_);rintro v h ⟨x4,c4,rfl,g4,k4,s⟩;exact zk 2 U (Hr Y s ⟨U,U,aa⟩ λE' h' J k1 k2 s'=>⟨aa,_,IM k2.1 k2.2.1,x4,J,U,g4.1,g4.2,k1,s'⟩)
noncomputable def rvL : Code:=aV [1,1,0,0] ((f228.body).getD .skip)
theorem X_ (hT:W told)(Z6:hi<1000000): ∀(d i j:Nat) (l:List Nat) (h:H) (E:List (Nat×V)) (a8:Ex->List (Nat×V)->H->Prop),j<i+d->lo<=i->j<hi->hi<=l.length->i<=j+1->Sat h (.arr 1 w (aK l)::S) ->
  Has E [(0,w),(6,.int .i64 (i:Int)),(7,.int .i64 ((j:Int)))] ->
  (∀E' h' l',fc lo hi l l'->Sat h' (.arr 1 w (aK l')::S)->a8 (.exit 0) E' h')->WP ⟨prog,told⟩ 32 (.loop rvL) E h a8:=by
 intro d;induction d with
 |zero =>
  exact λi j l h E a8 hd J hj hl uU s hE I=>WP.loop (WP.has hE (zK 5 U (zC U aG Q<|zk 2 U (WP.exit (I _ _ l .refl s)))))
 |succ d ih =>
  refine λi j l h E a8 hd J hj hl uU s hE I=>WP.loop (WP.has hE (zK 5 U ?_));by_cases c1:i<j
  .obtain⟨r1,o1,e1,f1⟩:=s.gB 0 (i:=j) U Y;obtain⟨r2,o2,e2,f2⟩:=s.gB 0 (i:=i) U Y;obtain⟨r3,o3,h3,e3,g3,s3⟩:=s.j_ i (x:=gN l j) Y;have lD:=(s.cz 0 U).2.2;refine zB U aG Q<|zk 3 U (WP.block (zw (WP.drawn [none,none,some (0,2),some (0,2),af,af,af,af,af,af,af,af,af,af,af,af] U bo bo<|zM U (zM U (zM U (zM U (zM U (zM U (zO U (aJ (.ptr r1 o1) U U e1) (zL U f1 (zM U (zM U (zO U (aJ (.ptr r2 o2) U U e2) (zL U f2 (zO U (aJ (.ptr r3 o3) U U e3) (ah.cy U U U (OpR.dX U U U (⟨h3,g3,s3⟩)) ?_))))))))))))))));rintro _ h ⟨rfl,s⟩;obtain⟨r4,o4,h4,e4,g4,s4⟩:=s.j_ j (x:=gN l i) Q;refine zO U (aJ (.ptr r4 o4) U U e4) (ah.cy U U U (OpR.dX U U U (⟨h4,g4,s4⟩)) ?_);rintro _ h ⟨rfl,s⟩;refine ah.nil ⟨⟨aa,aa,λ_ _=>.inr ⟨U,⟨_,aD U⟩,lD⟩,λ_ _=>.inr ⟨U,⟨_,aD U⟩,aA _ U⟩,dq 13⟩,?_⟩;have s:Sat h (.arr 1 w (aK (swp l i j))::S):=s;have qC:fc lo hi l (swp l i j):=.swp Y Y Y Y hl;exact zK 3 U (zb U (fE (b:=1) U Y)<|zk 4 U (zo U (ag (r:=.int .i64 ((j-1:Nat):Int)) U U (gH 1 Y Y))<|za U (zv<|ih (i+1) (j-1) _ _ _ a8 Y Y Y (by rw[lK];exact hl) Y s ⟨U,U,U,aa⟩ λE' h' l2 g1 g2=>I E' h' l2 (qC.trans g1) g2)))
  .skip;exact zC U aG Q<|zk 2 U (WP.exit (I _ _ l .refl s))
theorem ad7 (I:W told)(J:a<b)(hb:b<1000000)(hl:b<=l.length)(s:Sat h (.arr 1 w (aK l)::S)):
  Call ⟨prog,told⟩ 228 [w,.int .i64 (a:Int),.int .i64 (b:Int)] h λv h'=>v=.aR []/\∃l',fc a b l l'/\Sat h' (.arr 1 w (aK l')::S):=by
 exact Call.of_wp (I.free _ U) func228 U U (zK 8 U (zo U (ag (r:=.int .i64 ((b-1:Nat):Int)) U U (gH 1 Y Y))<|zk 2 U (WP.block (X_ (lo:=a) (hi:=b) I hb b a (b-1) l _ _ _ Y (az _) Y hl Y s ⟨U,U,U,aa⟩ λE' h' l1 k1 s'=>⟨aa,_,U,U,l1,k1,s'⟩))))
end
def C1 (x:Nat): Nat:=if x=0 then 0 else Nat.log2 x+1
theorem Eh : ∀x,x<256->C1 x<=8/\x<2^C1 x/\(1<=x->2^C1 x<=2*x):=by decide +kernel
theorem Ya {a b:Int}: ∃z,∀ {P:Program} {h:H} {t:TypeId} {x y:Operand},binV P h .xor t x y (.int .u64 a) (.int .u64 b)=some (.int .u64 z):=⟨_,U⟩
theorem afK {x:Operand}(I:c+1=a)(h1:a<9223372036854775808): binV P h .sub t x y (.int .u64 (a:Int)) (.int .u64 1)=some (.int .u64 (c:Int)):=by
 grind[gz,eB]
theorem ag_ {a:Int}: ∃z,∀ {P:Program} {h:H} {t:TypeId} {x y:Operand},binV P h .shl t x y (.int .u64 a) (.int .u64 13)=some (.int .u64 z):=⟨_,U⟩
theorem aha {a:Int}: ∃z,∀ {P:Program} {h:H} {t:TypeId} {x y:Operand},binV P h .shl t x y (.int .u64 a) (.int .u64 17)=some (.int .u64 z):=⟨_,U⟩
theorem ahb {a:Int}: ∃z,∀ {P:Program} {h:H} {t:TypeId} {x y:Operand},binV P h .shr t x y (.int .u64 a) (.int .u64 7)=some (.int .u64 z):=⟨_,U⟩
theorem ahc {a:Int}{m:Nat}(hm:m<65536): ∃r:Nat,r<=m/\∀ {P:Program} {h:H} {t:TypeId} {x y:Operand},binV P h .and t x y (.int .u64 a) (.int .u64 (m:Int))=some (.int .u64 (r:Int)):=by
 have h2:(((m:Nat):Int)%(2^(IntKind.u64).bits:Int)).toNat=m:=by grind[IntKind.bits]
 have hle:Nat.land ((a%(2^(IntKind.u64).bits:Int)).toNat) m<=m:=Nat.and_le_right;refine⟨_,hle,λ{P h t x y}=>?_⟩;show bitsV .and .u64 a m=_;grind[bitsV,eB]
theorem ahd (I:k<=8){x:Operand}: binV P h .shl t x y (.int .u64 1) (.int .i64 (k:Int))=some (.int .u64 ((2^k:Nat):Int)):=by
 rcases (by omega:k=0\/k=1\/k=2\/k=3\/k=4\/k=5\/k=6\/k=7\/k=8) with rfl|rfl|rfl|rfl|rfl|rfl|rfl|rfl|rfl<;>rfl
section
variable {told:bU} {w:V} {p:Nat} {z:Int}
theorem US (J:W told)(I:x<256): Call ⟨prog,told⟩ 234 [.int .u64 (x:Int)] h λv h'=>v=.int .i64 (C1 x:Int)/\h'=h:=by
 have h8:=(Eh x I).1;exact Call.of_wp (J.free _ U) func234 U U (zK 8 U (zC U dO Q<|zk 7 U (zC U dO Q<|zk 7 U (zC U dO Q<|zk 7 U (zo U (bQ U (by exact ie bS underlying5 An))<|zo U (Cc U U (Uq (f:=C1) Lz (by decide +kernel) I))<|zo U (bQ U (by exact ie underlying5 bB ay))<|zb U (by exact aT ay)<|zk 2 U (zR U ⟨cb,U⟩))))))
theorem MS (I:W told)(J:x<256): Call ⟨prog,told⟩ 210 [.int .u64 (x:Int)] h λv h'=>v=.int .i64 (C1 x:Int)/\h'=h:=by
 refine Call.of_wp (I.free _ U) func210 U U (zK 10 U (zc U (US I J) ?_));rintro v h' ⟨rfl,rfl⟩;exact zk 2 U (zR U ⟨U,U⟩)
theorem abN (I:W told)(J:x<256): Call ⟨prog,told⟩ 254 [.int .i64 (x:Int)] h λv h'=>v=.int .u64 ((2^C1 x:Nat):Int)/\h'=h:=by
 refine Call.of_wp (I.free _ U) func254 U U (zK 7 U (zo U (bQ (r:=.int .u64 (x:Int)) U (ie bB GJ eB))<|zc U (MS I J) ?_));rintro v h' ⟨rfl,rfl⟩;exact zb U (ahd (Eh x J).1) (zk 2 U (zR U ⟨U,U⟩))
theorem Yb (hT:W told)(s:Sat h (pt p (.cells 1 [.int .u64 z] false)::S)): Call ⟨prog,told⟩ 255 [.ptr p 0] h λv h'=>∃I,v=.int .u64 I/\Sat h' (pt p (.cells 1 [.int .u64 I] false)::S):=by
 obtain⟨a1,b1⟩:=ag_ (a:=z);obtain⟨J,b2⟩:=Ya (a:=z) (b:=a1);obtain⟨a3,b3⟩:=ahb (a:=J);obtain⟨a4,b4⟩:=Ya (a:=J) (b:=a3);obtain⟨a5,b5⟩:=aha (a:=a4);obtain⟨a6,b6⟩:=Ya (a:=a4) (b:=a5);refine Call.of_wp (hT.free _ U) func255 U U (zK 5 U ?_);have s0:=s;refine WP.drawn [af,af,af,af,af,af,af,af,af,af] U bo bo<|zM U (zN U (zL U (s.ld 0 U AV U) (zM U (zN U (zL U (s.ld 0 U AV U) (zO U (ag U U b1) (zO U (ag U U b2) (zN U (ah.cy U U U (OpR.dX U U U (s.cS (k:=0) U KF U O U U)) ?_)))))))));rintro _ h ⟨rfl,s⟩;refine ah.nil ⟨(dq 11),zw ?_⟩;have s0:=s;refine WP.drawn [af,af,af,af,af,af,af,af,af,af] U bo bo<|zM U (zN U (zL U (s.ld 0 U AV U) (zM U (zN U (zL U (s.ld 0 U AV U) (zO U (ag U U b3) (zO U (ag U U b4) (zN U (ah.cy U U U (OpR.dX U U U (s.cS (k:=0) U KF U O U U)) ?_)))))))));rintro _ h ⟨rfl,s⟩;refine ah.nil ⟨(dq 11),zw ?_⟩;have s0:=s;refine WP.drawn [af,af,af,af,af,af,af,af,af,af] U bo bo<|zM U (zN U (zL U (s.ld 0 U AV U) (zM U (zN U (zL U (s.ld 0 U AV U) (zO U (ag U U b5) (zO U (ag U U b6) (zN U (ah.cy U U U (OpR.dX U U U (s.cS (k:=0) U KF U O U U)) ?_)))))))));rintro _ h ⟨rfl,s⟩;exact ah.nil ⟨(dq 11),zK 4 U (zy s 0 AV U (zk 2 U (zR U ⟨a6,U,s⟩)))⟩
noncomputable def bpT : Code:=aV [1,1,0,1,1,1,0,0,1,0,0,1,1] ((f226.body).getD .skip)
theorem Ht {len:Nat}{J:V}(hb:b<256)(hi:i<l.length)(hj:a+j<l.length)(jS:a<b)(hjb:a+j<b)(s:Sat h (.arr 1 w (aK l)::S))
 (hE:Has E [(0,w),(1,.int .i64 (a:Int)),(6,.int .i64 (len:Int)),(7,.ptr p 0),(8,J),(9,.int .i64 (i:Int)),(10,.int .i64 (j:Int))])
 (hq:∀E' h',Has E' [(0,w),(1,.int .i64 (a:Int)),(6,.int .i64 (len:Int)),(7,.ptr p 0),(8,J),(9,.int .i64 (i:Int))]->Sat h' (.arr 1 w (aK (swp l i (a+j)))::S)->a8 .normal E' h'): WP ⟨prog,told⟩ 65 bpT E h a8:=by
 obtain⟨r1,o1,e1,f1⟩:=s.gB 0 (i:=a+j) U hj;obtain⟨r2,o2,e2,f2⟩:=s.gB 0 (i:=i) U hi;obtain⟨r3,o3,h3,e3,g3,s3⟩:=s.j_ i (x:=gN l (a+j)) hi;have I:=(s.cz 0 U).2.2;refine WP.has hE (WP.drawn [none,none,some (0,2),some (0,2),some (0,2),some (0,2),af,af,af,af,af,af,af,af,af,af,af,af,af,af] U bo bo<|zM U (zM U (zM U (zM U (zM U (zO U (ag U U (fE U Y))<|zM U (zM U (zM U (zO U (ag U U (fE U Y))<|zO U (aJ (.ptr r1 o1) U U e1) (zL U f1 (zM U (zM U (zO U (aJ (.ptr r2 o2) U U e2) (zL U f2 (zO U (aJ (.ptr r3 o3) U U e3) (ah.cy U U U (OpR.dX U U U (⟨h3,g3,s3⟩)) ?_))))))))))))))));rintro _ h ⟨rfl,s⟩;obtain⟨r4,o4,h4,e4,g4,s4⟩:=s.j_ (a+j) (x:=gN l i) Q;refine zO U (aJ (.ptr r4 o4) U U e4) (ah.cy U U U (OpR.dX U U U (⟨h4,g4,s4⟩)) ?_);rintro _ h ⟨rfl,s⟩;exact ah.nil ⟨⟨aa,aa,λ_ _=>.inr ⟨U,⟨_,aD U⟩,I⟩,λ_ _=>.inr ⟨U,⟨_,aD U⟩,aA _ U⟩,λ_ _=>.inr ⟨U,⟨_,aD U⟩,aA _ U⟩,λ_ _=>.inr ⟨U,⟨_,ag U U (fE U Y)⟩,aA _ U⟩,dq 15⟩,hq _ _ ⟨U,U,U,U,U,U,aa⟩ s⟩
noncomputable def bpL : Code:=aV [1,1,0,1,1,1,0,0] ((f226.body).getD .skip)
theorem RF (hT:W told)(hn:a+8<=b)(hb:b<256): ∀(d i:Nat) (l:List Nat) (z:Int) (h:H) (E:List (Nat×V)) (a8:Ex->List (Nat×V)->H->Prop),i+d=a+(b-a)/4*2+2->a<=i->b<=l.length->Sat h (.arr 1 w (aK l)::pt p (.cells 1 [.int .u64 z] false)::S) ->
  Has E [(0,w),(1,.int .i64 (a:Int)),(6,.int .i64 ((b-a:Nat):Int)),(7,.ptr p 0),(8,.int .u64 ((2^C1 (b-a):Nat):Int)),(9,.int .i64 (i:Int))] ->
  (∀E' h' l',fc a b l l'->Sat h' (.arr 1 w (aK l')::S)->a8 (.exit 0) E' h')->WP ⟨prog,told⟩ 65 (.loop bpL) E h a8:=by
 obtain⟨m1,m2,m3⟩:=Eh (b-a) Y;have m3:=m3 Y;intro d;induction d with
 |zero =>
  exact λi l z h E a8 hd hi I s hE J=>WP.loop (WP.has hE (zK 6 U (zb U (yI (b:=4) O Y)<|zb U (FI (b:=2) U Y)<|zb U (fE U Y)<|zb U (fE (b:=1) U Y)<|zC U rj Q<|zk 2 U (WP.exit (J _ _ l .refl (s.del 1))))))
 |succ d ih =>
  refine λi l z h E a8 hd hi I s hE J=>WP.loop (WP.has hE (zK 6 U (zb U (yI (b:=4) O Y)<|zb U (FI (b:=2) U Y)<|zb U (fE U Y)<|zb U (fE (b:=1) U Y)<|zB U rj Q<|zk 4 U (WP.block (zg U (zc U (Yb hT (s.ae [1])) ?_))))));rintro v h ⟨z',rfl,s⟩;obtain⟨r,hr,hand⟩:=ahc (a:=z') (m:=2^C1 (b-a)-1) Y;refine zm U (zo U (ag (r:=.int .u64 ((2^C1 (b-a)-1:Nat):Int)) U U (afK Y Y))<|zb U hand (zo U (bQ (r:=.int .i64 (r:Int)) U (ie GJ bB ay))<|zk 7 U ?_));have s:=s.ae [1,0];dsimp only[aB,bringA,getA] at s;by_cases c1:b-a<=r
  .skip;refine zB U dO Q<|zk 5 U (zo U (ag (r:=.int .i64 ((r-(b-a):Nat):Int)) U U (gH _ Y Y))<|zk 2 U (Ht (j:=r-(b-a)) hb Y Y Y Y s ⟨U,U,U,U,U,U,U,aa⟩ λE' h' k1 s'=>?_));have s:=s';exact WP.has k1 (zK 2 U (zb U (fE (b:=1) U Y)<|za U (zv<|ih (i+1) _ z' _ _ a8 Y Y (by rw[lK];exact I) s ⟨U,U,U,U,U,U,aa⟩ λE' h' l2 g1 g2=>J E' h' l2 ((fc.swp Y Y Y Y I).trans g1) g2)))
  .skip;refine zC U dO Q<|zk 3 U (Ht (j:=r) hb Y Y Y Y s ⟨U,U,U,U,U,U,U,aa⟩ λE' h' k1 s'=>?_);have s:=s';exact WP.has k1 (zK 2 U (zb U (fE (b:=1) U Y)<|za U (zv<|ih (i+1) _ z' _ _ a8 Y Y (by rw[lK];exact I) s ⟨U,U,U,U,U,U,aa⟩ λE' h' l2 g1 g2=>J E' h' l2 ((fc.swp Y Y Y Y I).trans g1) g2)))
theorem Yc (I:W told)(J:a+8<=b)(hb:b<256)(hl:b<=l.length)(s:Sat h (.arr 1 w (aK l)::S)):
  Call ⟨prog,told⟩ 226 [w,.int .i64 (a:Int),.int .i64 (b:Int)] h λv h'=>v=.aR []/\∃l',fc a b l l'/\Sat h' (.arr 1 w (aK l')::S):=by
 refine Call.of_wp (I.free _ U) func226 U U (zK 4 U (zo U (ag (r:=.int .i64 ((b-a:Nat):Int)) U U (gH _ Y Y))<|zk 5 U (zB U dO Q<|zk 5 U (zo U (bQ (r:=.int .u64 ((b-a:Nat):Int)) U (ie bB underlying348 eB))<|aq.bG s U U U (bK afn) λp h s=>zS U (s.cS (k:=0) U KF U O U U) λh s=>zk 4 U (zc U (abN I (x:=b-a) Y) ?_)))));rintro v h' ⟨rfl,rfl⟩;refine zk 6 U (zb U (yI (b:=4) O Y)<|zb U (FI (b:=2) U Y)<|zb U (fE U Y)<|zo U (ag (r:=.int .i64 ((a+(b-a)/4*2-1:Nat):Int)) U U (gH 1 Y Y))<|zk 2 U (WP.block ?_));have s:=s.ae [1,0];exact RF I J hb 3 (a+(b-a)/4*2-1) l _ _ _ _ Y Y hl s ⟨U,U,U,U,U,U,aa⟩ λE' h' l1 k1 s'=>⟨aa,_,U,U,l1,k1,s'⟩
end
structure BK (l:List Nat)(a i j b:Nat): Prop where
 i1:a+1<=i
 ij:i<=j+1
 jb:j<b
 low:∀k,a+1<=k->k<i->gN l k<gN l a
 high:∀k,j<k->k<b->gN l a<=gN l k
structure Hu (l:List Nat)(a m b:Nat): Prop where
 low:∀k,a<=k->k<m->gN l k<=gN l m
 high:∀k,m<k->k<b->gN l m<=gN l k
theorem BK.done (h:BK l a i j b)(J:j<i)(hl:b<=l.length): Hu (swp l j a) a j b/\a<=j:=by
 have h1:=h.i1;have h2:=h.ij;have h3:=h.jb;have g:∀k,gN (swp l j a) k=if k=a then gN l j else if k=j then gN l a else gN l k:=λk=>pR;have I:gN (swp l j a) j=gN l a:=by
  grind
 refine⟨⟨λk k1 k2=>?_,λk k1 k2=>?_⟩,Y⟩
 .rw[I,g];by_cases e:k=a
  .rw[bk e];exact qc (h.low j Y Y)
  .rw[ax e,ax Y];exact qc (h.low k Y Y)
 .rw[I,g,ax Y,ax Y];exact h.high k k1 k2
theorem BK.swap (h:BK l a i j b)(uU:i<=j)(h1:gN l a<=gN l i)(h2:gN l j<gN l a)(hl:b<=l.length): BK (swp l i j) a (i+1) (j-1) b:=by
 have k1:=h.i1;have k3:=h.jb;have nL:i≠j:=λe=>by grind
 have g:∀k,gN (swp l i j) k=if k=j then gN l i else if k=i then gN l j else gN l k:=λk=>pR;have I:gN (swp l i j) a=gN l a:=Q;refine⟨Y,Y,Y,λk J m2=>?_,λk J m2=>?_⟩
 .rw[I,g,ax Y];by_cases e:k=i
  .grind
  .rw[ax e];exact h.low k J Y
 .rw[I,g];by_cases e:k=j
  .grind
  .rw[ax e,ax Y];exact h.high k Y m2
section
variable {told:bU} {w:V}
abbrev PU (w:V)(a i j:Nat): List (Nat×V):=[(0,w),(1,.int .i64 (a:Int)),(10,.int .i64 (i:Int)),(11,.int .i64 (j:Int))]
noncomputable def ptA : Code:=aV [1,1,1,0,0,0] ((f232.body).getD .skip)
noncomputable def ptB : Code:=aV [1,1,1,1,0,0,0] ((f232.body).getD .skip)
noncomputable def ptC : Code:=aV [1,1,1,1,1,1,1,1,1,0,0,0,0,0,0,0] ((f232.body).getD .skip)
noncomputable def ptD : Code:=aV [1,1,1,1,1,1,1,1,1,0,0,0,0,1,0,0,0] ((f232.body).getD .skip)
theorem MT (hc:(cd=ptA/\ex=0)\/(cd=ptC/\ex=6))(hT:W told)(hb:b<1000000)(hl:b<=l.length)(s:Sat h (.arr 1 w (aK l)::S)): ∀(d i:Nat) (E:List (Nat×V)) (a8:Ex->List (Nat×V)->H->Prop),i+d=j+1->BK l a i j b->Has E (PU w a i j) ->
  (∀E' I,i<=I->BK l a I j b->(I<=j->gN l a<=gN l I)->Has E' (PU w a I j)->a8 (.exit ex) E' h)->WP ⟨prog,told⟩ 168 (.loop cd) E h a8:=by
 rcases hc with⟨rfl,rfl⟩|⟨rfl,rfl⟩
 all_goals
  intro d;induction d with
  |zero =>
   exact λi E a8 hd hi hE J=>WP.loop (WP.has hE (zK 2 U (WP.drawn [af,af,af,af,af,af,af,af,af,af,af,af,af,af] U bo bo<|zM U (zM U (ah.kK U U U U (ag U U rj) Q<|zM U (ah.no (e:=false) U U U U (ah.no (e:=false) U U U U (ah.no (e:=false) U U U U (ah.no (e:=false) U U U U (ah.no (e:=false) U U U U (ah.no (e:=false) U U U U (ah.no (e:=false) U U U U (ah.no (e:=false) U U U U (ah.no (e:=true) U U U U (zO U (lI U U)<|ah.nil ⟨(dq 15),zj U (WP.exit (J _ i (az _) hi (λq=>Y) ⟨U,U,U,U,aa⟩))⟩)))))))))))))))
  |succ d ih =>
   intro i E a8 hd hi hE J;have h1:=hi.i1;have h3:=hi.jb;obtain⟨r1,o1,e1,f1⟩:=s.gB 0 (i:=i) U Y;obtain⟨r2,o2,e2,f2⟩:=s.gB 0 (i:=a) U Y;refine WP.loop (WP.has hE (zK 2 U (WP.drawn [af,af,af,af,af,af,af,af,af,af,af,af,af,af] U bo bo<|zM U (zM U (ah.ot U U U U (ag U U rj) Q<|zM U (zM U (zM U (zO U (aJ (.ptr r1 o1) U U e1) (zL U f1 (zM U (zM U (zO U (aJ (.ptr r2 o2) U U e2) (zL U f2 (ah.any U U U U (OpR.call U U U U (nI hT)) ?_))))))))))))));rintro v h' ⟨bl,rfl,rfl,hb⟩;cases bl with
   |false =>
    exact zO U (gZ U U)<|ah.nil ⟨(dq 15),zj U (WP.exit (J _ i (az _) hi (λ_=>Q) ⟨U,U,U,U,aa⟩))⟩
   |true =>
    refine zO U (gZ U U)<|ah.nil ⟨(dq 15),zK 2 U (WP.block (zK 2 U (zb U (fE (b:=1) U Y)<|za U (zv ?_))))⟩;exact ih (i+1) _ a8 Y ⟨Y,Y,h3,λk k1 k2=>by
     by_cases e:k=i
     .grind
     .exact hi.low k k1 Y,hi.high⟩ ⟨U,U,U,U,aa⟩ λE' I q=>J E' I Y
theorem MU (hc:(cd=ptB/\ex=2)\/(cd=ptD/\ex=8))(hT:W told)(hb:b<1000000)(hl:b<=l.length)(s:Sat h (.arr 1 w (aK l)::S)): ∀(d j:Nat) (E:List (Nat×V)) (a8:Ex->List (Nat×V)->H->Prop),i+d=j+1->BK l a i j b->Has E (PU w a i j) ->
  (∀E' I,I<=j->BK l a i I b->(i<=I->gN l I<gN l a)->Has E' (PU w a i I)->a8 (.exit ex) E' h)->WP ⟨prog,told⟩ 168 (.loop cd) E h a8:=by
 rcases hc with⟨rfl,rfl⟩|⟨rfl,rfl⟩
 all_goals
  intro d;induction d with
  |zero =>
   exact λj E a8 hd hi hE J=>WP.loop (WP.has hE (zK 2 U (WP.drawn [af,af,af,af,af,af,af,af,af,af,af,af,af,af,af] U bo bo<|zM U (zM U (ah.kK U U U U (ag U U rj) Q<|zM U (ah.no (e:=false) U U U U (ah.no (e:=false) U U U U (ah.no (e:=false) U U U U (ah.no (e:=false) U U U U (ah.no (e:=false) U U U U (ah.no (e:=false) U U U U (ah.no (e:=false) U U U U (ah.no (e:=false) U U U U (ah.no (e:=true) U U U U (ah.no (e:=false) U U U U (zO U (lI U U)<|ah.nil ⟨(dq 16),zj U (WP.exit (J _ j (az _) hi (λq=>Y) ⟨U,U,U,U,aa⟩))⟩))))))))))))))))
  |succ d ih =>
   intro j E a8 hd hi hE J;have h1:=hi.i1;have h3:=hi.jb;obtain⟨r1,o1,e1,f1⟩:=s.gB 0 (i:=j) U Y;obtain⟨r2,o2,e2,f2⟩:=s.gB 0 (i:=a) U Y;refine WP.loop (WP.has hE (zK 2 U (WP.drawn [af,af,af,af,af,af,af,af,af,af,af,af,af,af,af] U bo bo<|zM U (zM U (ah.ot U U U U (ag U U rj) Q<|zM U (zM U (zM U (zO U (aJ (.ptr r1 o1) U U e1) (zL U f1 (zM U (zM U (zO U (aJ (.ptr r2 o2) U U e2) (zL U f2 (ah.any U U U U (OpR.call U U U U (nI hT)) ?_))))))))))))));rintro v h' ⟨bl,rfl,rfl,hb⟩;cases bl with
   |true =>
    exact zO U (cI U U) (zO U (gZ U U)<|ah.nil ⟨(dq 16),zj U (WP.exit (J _ j (az _) hi (λ_=>hb.1 U) ⟨U,U,U,U,aa⟩))⟩)
   |false =>
    refine zO U (cI U U) (zO U (gZ U U)<|ah.nil ⟨(dq 16),zK 2 U (WP.block (zK 2 U (zo U (ag (r:=.int .i64 ((j-1:Nat):Int)) U U (gH 1 Y Y))<|za U (zv ?_))))⟩);exact ih (j-1) _ a8 Y ⟨h1,Y,Y,hi.low,λk k1 k2=>by
     by_cases e:k=j
     .grind
     .exact hi.high k Y k2⟩ ⟨U,U,U,U,aa⟩ λE' I q=>J E' I Y
noncomputable def ptO : Code:=aV [1,1,1,1,1,1,1,1,1,0,0,0] ((f232.body).getD .skip)
theorem UT (hT:W told)(hb:b<1000000): ∀(d i j:Nat) (l:List Nat) (h:H) (E:List (Nat×V)) (a8:Ex->List (Nat×V)->H->Prop),j+1<i+d->b<=l.length->BK l a i j b->Sat h (.arr 1 w (aK l)::S)->Has E (PU w a i j) ->
  (∀E' h' l' I J,fc a b l l'->BK l' a I J b->J<I->Has E' (PU w a I J)->Sat h' (.arr 1 w (aK l')::S)->a8 (.exit 4) E' h')->WP ⟨prog,told⟩ 168 (.loop ptO) E h a8:=by
 intro d;induction d with
 |zero=>intro i j l h E a8 hd hl hi;have:=hi.ij;omega
 |succ d ih =>
  intro i j l h E a8 hd hl hi s hE hq;have h1:=hi.i1;have h2:=hi.ij;refine WP.loop (WP.has hE (WP.block (zw (WP.block (MT (.inr ⟨U,U⟩) hT hb hl s _ i _ _ (show i+(j+1-i)=j+1 by omega) hi ⟨U,U,U,U,aa⟩ λE' I k0 k1 k2 k3=>?_)))));have h4:=k1.i1;have h5:=k1.ij;refine WP.has k3 (zw (WP.block (MU (.inr ⟨U,U⟩) hT hb hl s _ j _ _ (show I+(j+1-I)=j+1 by omega) k1 ⟨U,U,U,U,aa⟩ λE' J g0 g1 g2 g3=>?_)));have h6:=g1.ij;have h7:=g1.jb;refine WP.has g3 (zK 5 U ?_);by_cases c1:J<I
  .skip;exact zB U dc Q<|zk 2 U (WP.exit (hq _ _ l I J .refl g1 c1 ⟨U,U,U,U,aa⟩ s))
  .have fH:=g1.swap Y (k2 Y) (g2 Y) hl;have qC:fc a b l (swp l I J):=.swp Y Y Y Y hl;refine zC U dc Q<|zk 4 U ?_;obtain⟨r1,o1,e1,f1⟩:=s.gB 0 (i:=J) U Y;obtain⟨r2,o2,e2,f2⟩:=s.gB 0 (i:=I) U Y;obtain⟨r3,o3,h3,e3,g3,s3⟩:=s.j_ I (x:=gN l J) Y;have lD:=(s.cz 0 U).2.2;have s0:=s;refine WP.drawn [none,none,some (0,2),some (0,2),af,af,af,af,af,af,af,af,af,af,af,af] U bo bo<|zM U (zM U (zM U (zM U (zM U (zM U (zO U (aJ (.ptr r1 o1) U U e1) (zL U f1 (zM U (zM U (zO U (aJ (.ptr r2 o2) U U e2) (zL U f2 (zO U (aJ (.ptr r3 o3) U U e3) (ah.cy U U U (OpR.dX U U U (⟨h3,g3,s3⟩)) ?_)))))))))))));rintro _ h ⟨rfl,s⟩;obtain⟨r4,o4,h4,e4,g4,s4⟩:=s.j_ J (x:=gN l I) Q;refine zO U (aJ (.ptr r4 o4) U U e4) (ah.cy U U U (OpR.dX U U U (⟨h4,g4,s4⟩)) ?_);rintro _ h ⟨rfl,s⟩;refine ah.nil ⟨⟨aa,aa,λ_ _=>.inr ⟨U,⟨_,aD U⟩,lD⟩,λ_ _=>.inr ⟨U,⟨_,aD U⟩,aA _ U⟩,dq 13⟩,?_⟩;have s:Sat h (.arr 1 w (aK (swp l I J))::S):=s;exact zK 3 U (zb U (fE (b:=1) U Y)<|zk 4 U (zo U (ag (r:=.int .i64 ((J-1:Nat):Int)) U U (gH 1 Y Y))<|za U (zv<|ih (I+1) (J-1) _ _ _ a8 Y (by rw[lK];exact hl) fH s ⟨U,U,U,U,aa⟩ λE' h' l2 i2 j2 m1 m2 m3 m4 m5=>hq E' h' l2 i2 j2 (qC.trans m1) m2 m3 m4 m5)))
theorem abO (hT:W told)(jS:a<b)(hb:b<1000000)(hl:b<=l.length)(hp:a<=pv/\pv<b)(s:Sat h (.arr 1 w (aK l)::S)):
  Call ⟨prog,told⟩ 232 [w,.int .i64 (a:Int),.int .i64 (b:Int),.int .i64 (pv:Int)] h λv h'=>∃(m:Nat) (bl:Bool) (l':List Nat),v=.aR [.int .i64 (m:Int),.bool bl]/\a<=m/\m<b/\fc a b l l'/\Hu l' a m b/\Sat h' (.arr 1 w (aK l')::S):=by
 have qC:fc a b l (swp l a pv):=.swp Y Y Y Y hl;refine Call.of_wp (hT.free _ U) func232 U U (zK 6 U ?_);obtain⟨r1,o1,e1,f1⟩:=s.gB 0 (i:=pv) U Y;obtain⟨r2,o2,e2,f2⟩:=s.gB 0 (i:=a) U Y;obtain⟨r3,o3,h3,e3,g3,s3⟩:=s.j_ a (x:=gN l pv) Y;have J:=(s.cz 0 U).2.2;have s0:=s;refine WP.drawn [none,none,some (0,2),some (0,2),af,af,af,af,af,af,af,af,af,af,af,af] U bo bo<|zM U (zM U (zM U (zM U (zM U (zM U (zO U (aJ (.ptr r1 o1) U U e1) (zL U f1 (zM U (zM U (zO U (aJ (.ptr r2 o2) U U e2) (zL U f2 (zO U (aJ (.ptr r3 o3) U U e3) (ah.cy U U U (OpR.dX U U U (⟨h3,g3,s3⟩)) ?_)))))))))))));rintro _ h ⟨rfl,s⟩;obtain⟨r4,o4,h4,e4,g4,s4⟩:=s.j_ pv (x:=gN l a) Q;refine zO U (aJ (.ptr r4 o4) U U e4) (ah.cy U U U (OpR.dX U U U (⟨h4,g4,s4⟩)) ?_);rintro _ h ⟨rfl,s⟩;refine ah.nil ⟨⟨aa,aa,λ_ _=>.inr ⟨U,⟨_,aD U⟩,J⟩,λ_ _=>.inr ⟨U,⟨_,aD U⟩,aA _ U⟩,dq 13⟩,?_⟩;have s:Sat h (.arr 1 w (aK (swp l a pv))::S):=s;have ED:=hl;rw[<-qC.len] at hl;generalize r8:swp l a pv=l1 at s qC hl;refine zK 3 U (zb U (fE (b:=1) U Y)<|zm U (zo U (ag (r:=.int .i64 ((b-1:Nat):Int)) U U (gH 1 Y Y))<|zk 4 U (WP.block ?_)));have hi:BK l1 a (a+1) (b-1) b:=⟨az _,Y,Y,λk k1 k2=>Y,λk k1 k2=>Y⟩;refine MT (.inl ⟨U,U⟩) hT hb hl s _ (a+1) _ _ (show a+1+(b-1+1-(a+1))=b-1+1 by omega) hi ⟨U,U,U,U,aa⟩ λE' i' k0 k1 k2 k3=>?_;have h4:=k1.i1;have h5:=k1.ij;refine WP.has k3 (zw (WP.block (MU (.inl ⟨U,U⟩) hT hb hl s _ (b-1) _ _ (show i'+(b-1+1-i')=b-1+1 by omega) k1 ⟨U,U,U,U,aa⟩ λE' I g0 g1 g2 g3=>?_)));have h6:=g1.ij;have h7:=g1.jb;refine WP.has g3 (zK 5 U ?_);by_cases c1:I<i'
 .obtain⟨d1,d2⟩:=g1.done c1 hl;have Yd:fc a b l1 (swp l1 I a):=.swp d2 Y Y Y hl;refine zB U dc Q<|zk 3 U ?_;obtain⟨r1,o1,e1,f1⟩:=s.gB 0 (i:=a) U Y;obtain⟨r2,o2,e2,f2⟩:=s.gB 0 (i:=I) U Y;obtain⟨r3,o3,h3,e3,g3,s3⟩:=s.j_ I (x:=gN l1 a) Y;have J:=(s.cz 0 U).2.2;have s0:=s;refine WP.drawn [none,none,some (0,2),some (0,2),af,af,af,af,af,af,af,af,af,af,af,af] U bo bo<|zM U (zM U (zM U (zM U (zM U (zM U (zO U (aJ (.ptr r1 o1) U U e1) (zL U f1 (zM U (zM U (zO U (aJ (.ptr r2 o2) U U e2) (zL U f2 (zO U (aJ (.ptr r3 o3) U U e3) (ah.cy U U U (OpR.dX U U U (⟨h3,g3,s3⟩)) ?_)))))))))))));rintro _ h ⟨rfl,s⟩;obtain⟨r4,o4,h4,e4,g4,s4⟩:=s.j_ a (x:=gN l1 I) Q;refine zO U (aJ (.ptr r4 o4) U U e4) (ah.cy U U U (OpR.dX U U U (⟨h4,g4,s4⟩)) ?_);rintro _ h ⟨rfl,s⟩;refine ah.nil ⟨⟨aa,aa,λ_ _=>.inr ⟨U,⟨_,aD U⟩,J⟩,λ_ _=>.inr ⟨U,⟨_,aD U⟩,aA _ U⟩,dq 13⟩,?_⟩;have s:Sat h (.arr 1 w (aK (swp l1 I a))::S):=s;exact zK 6 U (WP.ret ⟨aa,_,U,I,true,_,U,d2,h7,qC.trans Yd,d1,s⟩)
 .have fH:=g1.swap Y (k2 Y) (g2 Y) hl;have Yd:fc a b l1 (swp l1 i' I):=.swp Y Y Y Y hl;refine zC U dc Q<|zk 4 U ?_;obtain⟨r1,o1,e1,f1⟩:=s.gB 0 (i:=I) U Y;obtain⟨r2,o2,e2,f2⟩:=s.gB 0 (i:=i') U Y;obtain⟨r3,o3,h3,e3,g3,s3⟩:=s.j_ i' (x:=gN l1 I) Y;have J:=(s.cz 0 U).2.2;have s0:=s;refine WP.drawn [none,none,some (0,2),some (0,2),af,af,af,af,af,af,af,af,af,af,af,af] U bo bo<|zM U (zM U (zM U (zM U (zM U (zM U (zO U (aJ (.ptr r1 o1) U U e1) (zL U f1 (zM U (zM U (zO U (aJ (.ptr r2 o2) U U e2) (zL U f2 (zO U (aJ (.ptr r3 o3) U U e3) (ah.cy U U U (OpR.dX U U U (⟨h3,g3,s3⟩)) ?_)))))))))))));rintro _ h ⟨rfl,s⟩;obtain⟨r4,o4,h4,e4,g4,s4⟩:=s.j_ I (x:=gN l1 i') Q;refine zO U (aJ (.ptr r4 o4) U U e4) (ah.cy U U U (OpR.dX U U U (⟨h4,g4,s4⟩)) ?_);rintro _ h ⟨rfl,s⟩;refine ah.nil ⟨⟨aa,aa,λ_ _=>.inr ⟨U,⟨_,aD U⟩,J⟩,λ_ _=>.inr ⟨U,⟨_,aD U⟩,aA _ U⟩,dq 13⟩,?_⟩;have s:Sat h (.arr 1 w (aK (swp l1 i' I))::S):=s;refine zK 3 U (zb U (fE (b:=1) U Y)<|zk 5 U (zo U (ag (r:=.int .i64 ((I-1:Nat):Int)) U U (gH 1 Y Y)) ?_));refine zk 3 U (WP.block (UT (a:=a) hT hb _ (i'+1) (I-1) _ _ _ _ (show I-1+1<i'+1+(I+1) by omega) (by rw[lK];exact hl) fH s ⟨U,U,U,U,aa⟩ λE' h l2 i2 j2 m1 m2 m3 m4 s'=>?_));have s:=s';have ir:b<=l2.length:=by rw[m1.len,lK];exact hl
  obtain⟨d1,d2⟩:=m2.done m3 ir;have h8:=m2.jb;have ahe:fc a b l2 (swp l2 j2 a):=.swp d2 Y Y Y ir;refine WP.has m4 (zw ?_);obtain⟨r1,o1,e1,f1⟩:=s.gB 0 (i:=a) U Y;obtain⟨r2,o2,e2,f2⟩:=s.gB 0 (i:=j2) U Y;obtain⟨r3,o3,h3,e3,g3,s3⟩:=s.j_ j2 (x:=gN l2 a) Y;have J:=(s.cz 0 U).2.2;have s0:=s;refine WP.drawn [none,none,some (0,2),some (0,2),af,af,af,af,af,af,af,af,af,af,af,af] U bo bo<|zM U (zM U (zM U (zM U (zM U (zM U (zO U (aJ (.ptr r1 o1) U U e1) (zL U f1 (zM U (zM U (zO U (aJ (.ptr r2 o2) U U e2) (zL U f2 (zO U (aJ (.ptr r3 o3) U U e3) (ah.cy U U U (OpR.dX U U U (⟨h3,g3,s3⟩)) ?_)))))))))))));rintro _ h ⟨rfl,s⟩;obtain⟨r4,o4,h4,e4,g4,s4⟩:=s.j_ a (x:=gN l2 j2) Q;refine zO U (aJ (.ptr r4 o4) U U e4) (ah.cy U U U (OpR.dX U U U (⟨h4,g4,s4⟩)) ?_);rintro _ h ⟨rfl,s⟩;refine ah.nil ⟨⟨aa,aa,λ_ _=>.inr ⟨U,⟨_,aD U⟩,J⟩,λ_ _=>.inr ⟨U,⟨_,aD U⟩,aA _ U⟩,dq 13⟩,?_⟩;have s:Sat h (.arr 1 w (aK (swp l2 j2 a))::S):=s;exact zK 6 U (zR U ⟨j2,false,_,U,d2,h8,qC.trans (Yd.trans (m1.trans ahe)),d1,s⟩)
end
def xN (l:List Nat)(a b:Nat): Prop:=0<a->∀k,a<=k->k<b->gN l (a-1)<gN l k
theorem xN.tN (h:xN l a b)(p:fc c d l l')(h1:a<=c)(h2:d<=b): xN l' a b:=λI k k1 k2=>by
 rw[p.out (a-1) Y];by_cases e:c<=k/\k<d
 .obtain⟨j,j1,j2,e⟩:=p.ins k e.1 e.2;rw[e];exact h I j Y Y
 .rw[p.out k Y];exact h I k k1 k2
theorem iP.more (h:iP l a i)(hi:a<i)(hle:gN l (i-1)<=gN l i): iP l a (i+1):=λp q h1 h2 I=>by
 by_cases e:q=i
 .subst e;by_cases J:p=q-1
  .grind
  .exact b7 (h p (q-1) h1 Y Y) hle
 .exact h p q h1 h2 Y
theorem iP.tN (h:iP l a i)(p:fc c d l l')(J:i<=c): iP l' a i:=λx y h1 h2 I=>by
 rw[p.out x Y,p.out y Y];exact h x y h1 h2 I
section
variable {told:bU} {w:V} {jo:Nat}
abbrev Hv (w:V)(a b i jo:Nat): List (Nat×V):=[(0,w),(1,.int .i64 (a:Int)),(2,.int .i64 (b:Int)),(7,.int .i64 (i:Int)),(8,.int .i64 (jo:Int))]
noncomputable def piU : Code:=aV [1,1,0,1,0,0,1,0,0,0,0,0] ((f229.body).getD .skip)
theorem Ye (hT:W told)(hb:b<1000000)(hl:b<=l.length)(s:Sat h (.arr 1 w (aK l)::S)): ∀(d i:Nat) (E:List (Nat×V)) (a8:Ex->List (Nat×V)->H->Prop),i+d=b->a<i->iP l a i->Has E (Hv w a b i jo) ->
  (∀E' I,i<=I->I<=b->iP l a I->(I<b->gN l I<gN l (I-1))->Has E' (Hv w a b I jo)->a8 (.exit 2) E' h)->WP ⟨prog,told⟩ 133 (.loop piU) E h a8:=by
 intro d;induction d with
 |zero =>
  exact λi E a8 hd J hs hE hq=>WP.loop (WP.has hE (zK 2 U (WP.drawn [af,af,af,af,af,af,af,af,af,af,af,af,af,af,af,af] U bo bo<|zM U (zM U (ah.kK U U U U (ag U U aG) Q<|zM U (ah.no (e:=false) U U U U (ah.no (e:=false) U U U U (ah.no (e:=false) U U U U (ah.no (e:=false) U U U U (ah.no (e:=false) U U U U (ah.no (e:=false) U U U U (ah.no (e:=false) U U U U (ah.no (e:=false) U U U U (ah.no (e:=false) U U U U (ah.no (e:=true) U U U U (ah.no (e:=false) U U U U (zO U (lI U U)<|ah.nil ⟨(dq 17),zj U (WP.exit (hq _ i (az _) Y hs (λq=>Y) ⟨U,U,U,U,U,aa⟩))⟩)))))))))))))))))
 |succ d ih =>
  intro i E a8 hd J hs hE hq;obtain⟨r1,o1,e1,f1⟩:=s.gB 0 (i:=i) U Y;obtain⟨r2,o2,e2,f2⟩:=s.gB 0 (i:=i-1) U Y;refine WP.loop (WP.has hE (zK 2 U (WP.drawn [af,af,af,af,af,af,af,af,af,af,af,af,af,af,af,af] U bo bo<|zM U (zM U (ah.ot U U U U (ag U U aG) Q<|zM U (zM U (zM U (zO U (aJ (.ptr r1 o1) U U e1) (zL U f1 (zM U (zM U (zO U (ag (r:=.int .i64 ((i-1:Nat):Int)) U U (gH 1 Y Y))<|zO U (aJ (.ptr r2 o2) U U e2) (zL U f2 (ah.any U U U U (OpR.call U U U U (nI hT)) ?_))))))))))))));rintro v h' ⟨bl,rfl,rfl,hb⟩;cases bl with
  |true =>
   exact zO U (cI U U) (zO U (gZ U U)<|ah.nil ⟨(dq 17),zj U (WP.exit (hq _ i (az _) Y hs (λ_=>hb.1 U) ⟨U,U,U,U,U,aa⟩))⟩)
  |false =>
   exact zO U (cI U U) (zO U (gZ U U)<|ah.nil ⟨(dq 17),zK 2 U (WP.block (zK 2 U (zb U (fE (b:=1) U Y)<|za U (zv<|ih (i+1) _ a8 Y Y (hs.more J Q) ⟨U,U,U,U,U,aa⟩ λE' I q=>hq E' I Y))))⟩)
noncomputable def piL : Code:=aV [1,1,0,1,0,0,1,0,0,1,1,1,1,0,1,0,1,0,0] ((f229.body).getD .skip)
theorem Yf (hT:W told)(hb:b<1000000): ∀(d j:Nat) (l:List Nat) (h:H) (E:List (Nat×V)) (a8:Ex->List (Nat×V)->H->Prop),j=a+d->j<i->i<=b->b<=l.length->xN l a b->xM l a j (i-1)->Sat h (.arr 1 w (aK l)::S)->Has E ((9,.int .i64 (j:Int))::Hv w a b i jo) ->
  (∀E' h' l',fc a i l l'->iP l' a i->Has E' (Hv w a b i jo)->Sat h' (.arr 1 w (aK l')::S)->a8 (.exit 4) E' h')->WP ⟨prog,told⟩ 133 (.loop piL) E h a8:=by
 intro d;induction d with
 |zero =>
  intro j l h E a8 hd vJ J hl tD hs s hE hq;have I:iP l a i:=by
   have:=hs.done (.inl Y) Y;grind
  refine WP.loop (WP.has hE (zK 4 U ?_));by_cases c0:j=0
  .skip;exact zC U dO Q<|zk 2 U (WP.exit (hq _ _ l .refl I ⟨U,U,U,U,U,aa⟩ s))
  .obtain⟨r1,o1,e1,f1⟩:=s.gB 0 (i:=j) U Y;obtain⟨r2,o2,e2,f2⟩:=s.gB 0 (i:=j-1) U Y;refine zB U dO Q<|zk 4 U (WP.block (zK 2 U (WP.drawn [af,af,af,af,af,af,af,af,af,af,af] U bo bo<|zM U (zM U (zO U (aJ (.ptr r1 o1) U U e1) (zL U f1 (zM U (zM U (zO U (ag (r:=.int .i64 ((j-1:Nat):Int)) U U (gH 1 Y Y))<|zO U (aJ (.ptr r2 o2) U U e2) (zL U f2 (ah.any U U U U (OpR.call U U U U (nI hT)) ?_)))))))))));rintro v h' ⟨bl,rfl,rfl,hb⟩;have hbf:bl=false:=by
    have:=tD Y j Y Y;rw[show a-1=j-1 by omega] at this;cases bl with
    |false=>rfl
    |true=>grind
   subst hbf;exact zO U (cI U U)<|ah.nil ⟨(dq 12),zi U (WP.exit (hq _ _ l .refl I ⟨U,U,U,U,U,aa⟩ s))⟩
 |succ d ih =>
  intro j l h E a8 hd vJ J hl tD hs s hE hq;obtain⟨r1,o1,e1,f1⟩:=s.gB 0 (i:=j) U Y;obtain⟨r2,o2,e2,f2⟩:=s.gB 0 (i:=j-1) U Y;refine WP.loop (WP.has hE (zK 4 U (zB U dO Q<|zk 4 U (WP.block (zK 2 U (WP.drawn [af,af,af,af,af,af,af,af,af,af,af] U bo bo<|zM U (zM U (zO U (aJ (.ptr r1 o1) U U e1) (zL U f1 (zM U (zM U (zO U (ag (r:=.int .i64 ((j-1:Nat):Int)) U U (gH 1 Y Y))<|zO U (aJ (.ptr r2 o2) U U e2) (zL U f2 (ah.any U U U U (OpR.call U U U U (nI hT)) ?_))))))))))))));rintro v h' ⟨bl,rfl,rfl,hb⟩;cases bl with
  |false =>
   refine zO U (cI U U)<|ah.nil ⟨(dq 12),zi U (WP.exit ?_)⟩;have I:iP l a i:=by
    have:=hs.done (.inr Q) Y;grind
   exact hq _ _ l .refl I ⟨U,U,U,U,U,aa⟩ s
  |true =>
   have qC:fc a i l (swp l j (j-1)):=.swp Y Y Y Y Y;refine zO U (cI U U)<|ah.nil ⟨(dq 12),zK 2 U ?_⟩;obtain⟨r3,o3,h3,e3,g3,s3⟩:=s.j_ j (x:=gN l (j-1)) Y;have lD:=(s.cz 0 U).2.2;have s0:=s;refine WP.drawn [none,none,some (0,2),some (0,2),some (0,2),af,af,af,af,af,af,af,af,af,af,af,af,af] U bo bo<|zM U (zM U (zM U (zM U (zO U (ag (r:=.int .i64 ((j-1:Nat):Int)) U U (gH 1 Y Y))<|zM U (zM U (zO U (ag (r:=.int .i64 ((j-1:Nat):Int)) U U (gH 1 Y Y))<|zO U (aJ (.ptr r2 o2) U U e2) (zL U f2 (zM U (zM U (zO U (aJ (.ptr r1 o1) U U e1) (zL U f1 (zO U (aJ (.ptr r3 o3) U U e3) (ah.cy U U U (OpR.dX U U U (⟨h3,g3,s3⟩)) ?_)))))))))))));rintro _ h ⟨rfl,s⟩;obtain⟨r4,o4,h4,e4,g4,s4⟩:=s.j_ (j-1) (x:=gN l j) Q;refine zO U (aJ (.ptr r4 o4) U U e4) (ah.cy U U U (OpR.dX U U U (⟨h4,g4,s4⟩)) ?_);rintro _ h ⟨rfl,s⟩;refine ah.nil ⟨⟨aa,aa,λ_ _=>.inr ⟨U,⟨_,aD U⟩,lD⟩,λ_ _=>.inr ⟨U,⟨_,aD U⟩,aA _ U⟩,λ_ _=>.inr ⟨U,⟨_,ag (r:=.int .i64 ((j-1:Nat):Int)) U U (gH 1 Y Y)⟩,aA _ U⟩,dq 14⟩,?_⟩;have s:Sat h (.arr 1 w (aK (swp l j (j-1)))::S):=s;exact zK 2 U (zo U (ag (r:=.int .i64 ((j-1:Nat):Int)) U U (gH 1 Y Y))<|za U (zv<|ih (j-1) _ _ _ a8 Y Y J (by rw[lK];exact hl) (tD.tN qC (az _) J) (hs.step Y Y Y (hb.1 U)) s ⟨U,U,U,U,U,U,aa⟩ λE' h' l2 g1 g2 g3 g4=>hq E' h' l2 (qC.trans g1) g2 g3 g4))
noncomputable def piR : Code:=aV [1,1,0,1,0,0,1,0,0,1,1,1,1,1,1,0,1,0,0] ((f229.body).getD .skip)
theorem Yg (hT:W told)(hb:b<1000000): ∀(d j:Nat) (l:List Nat) (h:H) (E:List (Nat×V)) (a8:Ex->List (Nat×V)->H->Prop),j+d=b->i<j->b<=l.length->Sat h (.arr 1 w (aK l)::S)->Has E ((10,.int .i64 (j:Int))::Hv w a b i jo) ->
  (∀E' h' l',fc i b l l'->Has E' (Hv w a b i jo)->Sat h' (.arr 1 w (aK l')::S)->a8 (.exit 6) E' h')->WP ⟨prog,told⟩ 133 (.loop piR) E h a8:=by
 intro d;induction d with
 |zero =>
  exact λj l h E a8 hd J hl s hE I=>WP.loop (WP.has hE (zK 5 U (zC U aG Q<|zk 2 U (WP.exit (I _ _ l .refl ⟨U,U,U,U,U,aa⟩ s)))))
 |succ d ih =>
  intro j l h E a8 hd J hl s hE I;obtain⟨r1,o1,e1,f1⟩:=s.gB 0 (i:=j) U Y;obtain⟨r2,o2,e2,f2⟩:=s.gB 0 (i:=j-1) U Y;refine WP.loop (WP.has hE (zK 5 U (zB U aG Q<|zk 4 U (WP.block (zK 2 U (WP.drawn [af,af,af,af,af,af,af,af,af,af,af] U bo bo<|zM U (zM U (zO U (aJ (.ptr r1 o1) U U e1) (zL U f1 (zM U (zM U (zO U (ag (r:=.int .i64 ((j-1:Nat):Int)) U U (gH 1 Y Y))<|zO U (aJ (.ptr r2 o2) U U e2) (zL U f2 (ah.any U U U U (OpR.call U U U U (nI hT)) ?_))))))))))))));rintro v h' ⟨bl,rfl,rfl,hb⟩;cases bl with
  |false =>
   exact zO U (cI U U)<|ah.nil ⟨(dq 12),zi U (WP.exit (I _ _ l .refl ⟨U,U,U,U,U,aa⟩ s))⟩
  |true =>
   have qC:fc i b l (swp l j (j-1)):=.swp Y Y Y Y hl;refine zO U (cI U U)<|ah.nil ⟨(dq 12),zK 2 U ?_⟩;obtain⟨r3,o3,h3,e3,g3,s3⟩:=s.j_ j (x:=gN l (j-1)) Y;have lD:=(s.cz 0 U).2.2;have s0:=s;refine WP.drawn [none,none,some (0,2),some (0,2),some (0,2),af,af,af,af,af,af,af,af,af,af,af,af,af] U bo bo<|zM U (zM U (zM U (zM U (zO U (ag (r:=.int .i64 ((j-1:Nat):Int)) U U (gH 1 Y Y))<|zM U (zM U (zO U (ag (r:=.int .i64 ((j-1:Nat):Int)) U U (gH 1 Y Y))<|zO U (aJ (.ptr r2 o2) U U e2) (zL U f2 (zM U (zM U (zO U (aJ (.ptr r1 o1) U U e1) (zL U f1 (zO U (aJ (.ptr r3 o3) U U e3) (ah.cy U U U (OpR.dX U U U (⟨h3,g3,s3⟩)) ?_)))))))))))));rintro _ h ⟨rfl,s⟩;obtain⟨r4,o4,h4,e4,g4,s4⟩:=s.j_ (j-1) (x:=gN l j) Q;refine zO U (aJ (.ptr r4 o4) U U e4) (ah.cy U U U (OpR.dX U U U (⟨h4,g4,s4⟩)) ?_);rintro _ h ⟨rfl,s⟩;refine ah.nil ⟨⟨aa,aa,λ_ _=>.inr ⟨U,⟨_,aD U⟩,lD⟩,λ_ _=>.inr ⟨U,⟨_,aD U⟩,aA _ U⟩,λ_ _=>.inr ⟨U,⟨_,ag (r:=.int .i64 ((j-1:Nat):Int)) U U (gH 1 Y Y)⟩,aA _ U⟩,dq 14⟩,?_⟩;have s:Sat h (.arr 1 w (aK (swp l j (j-1)))::S):=s;exact zK 2 U (zb U (fE (b:=1) U Y)<|za U (zv<|ih (j+1) _ _ _ a8 Y Y (by rw[lK];exact hl) s ⟨U,U,U,U,U,U,aa⟩ λE' h' l2 g1 g2 g3=>I E' h' l2 (qC.trans g1) g2 g3))
noncomputable def piT : Code:=aV [1,1,0,1,0,0,1,0,0,1,1,1,1,1] ((f229.body).getD .skip)
theorem PV (J:W told)(hb:b<1000000)(hai:a<i)(UU:i<b)(hl:b<=l.length)(s:Sat h (.arr 1 w (aK l)::S))(hE:Has E (Hv w a b i jo))
 (I:∀E' h' l',fc i b l l'->Has E' (Hv w a b i jo)->Sat h' (.arr 1 w (aK l')::S)->a8 .normal E' h'): WP ⟨prog,told⟩ 133 piT E h a8:=by
 refine WP.has hE (zK 4 U (zo U (ag (r:=.int .i64 ((b-i:Nat):Int)) U U (gH _ Y Y)) ?_));by_cases c1:2<=b-i
 .skip;exact zB U dO Q<|zk 5 U (zb U (fE (b:=1) U Y)<|zk 2 U (WP.block (Yg J hb (i:=i) (b-(i+1)) (i+1) l _ _ _ Y Y hl s ⟨U,U,U,U,U,U,aa⟩ λE' h' l' k1 k2 s'=>(I E' h' l' k1 k2 s'))))
 .skip;exact zC U dO Q<|zv (zj U (WP.skip<|I _ _ l .refl ⟨U,U,U,U,U,aa⟩ s))
noncomputable def piO : Code:=aV [1,1,0,1,0,0] ((f229.body).getD .skip)
theorem abP (hT:W told)(hb:b<1000000): ∀(d jo i:Nat) (l:List Nat) (h:H) (E:List (Nat×V)) (a8:Ex->List (Nat×V)->H->Prop),jo+d=5->a<i->i<=b->b<=l.length->xN l a b->iP l a i->Sat h (.arr 1 w (aK l)::S)->Has E (Hv w a b i jo) ->
  (∀E' h' l',fc a b l l'->Sat h' (.arr 1 w (aK l')::S)->a8 (.exit 0) E' h') ->
  (∀(E':List (Nat×V)) h' l' r,fc a b l l'->(r=true->iP l' a b)->look E' 6=some (.bool r)->Sat h' (.arr 1 w (aK l')::S)->a8 .ret E' h')->WP ⟨prog,told⟩ 133 (.loop piO) E h a8:=by
 intro d;induction d with
 |zero =>
  exact λjo i l h E a8 hd hai UU hl tD hs s hE hq hr=>WP.loop (WP.has hE (zK 4 U (zC U aG Q<|zk 2 U (WP.exit (hq _ _ l .refl s)))))
 |succ d ih =>
  refine λjo i l h E a8 hd hai UU hl tD hs s hE hq hr=>WP.loop (WP.has hE (zK 4 U (zB U aG Q<|zk 4 U (WP.block (zw (WP.block (Ye hT hb hl s (b-i) i _ _ Y hai hs ⟨U,U,U,U,U,aa⟩ λE' I k0 k1 k2 k3 k4=>(WP.has k4 (zK 5 U ?_)))))))));by_cases c1:I=b
  .skip;exact zB U bH Q<|zk 6 U (WP.ret (hr _ _ l true .refl (λ_=>Q) U s))
  .skip;refine zC U bH Q<|zk 8 U (zo U (ag (r:=.int .i64 ((b-a:Nat):Int)) U U (gH _ Y Y)) ?_);by_cases c2:b-a<50
   .skip;exact zB U aG Q<|zk 6 U (WP.ret (hr _ _ l false .refl (λq=>by cases q) U s))
   .obtain⟨r1,o1,e1,f1⟩:=s.gB 0 (i:=I) U Y;obtain⟨r2,o2,e2,f2⟩:=s.gB 0 (i:=I-1) U Y;have bY:=k3 Y;have qC:fc a b l (swp l I (I-1)):=.swp Y Y Y Y hl;have ad8:=tD.tN qC (az _) (az _);have r8:b<=(swp l I (I-1)).length:=by rw[lK];exact hl
    have gC:iP (swp l I (I-1)) a (I-1):=λx y q1 q2 q3=>by
     rw[pR,pR,ax Y,ax Y,ax Y,ax Y];exact k2 x y q1 q2 Y
    refine zC U aG Q<|zk 4 U ?_;obtain⟨r3,o3,h3,e3,g3,s3⟩:=s.j_ I (x:=gN l (I-1)) Y;have lD:=(s.cz 0 U).2.2;have s0:=s;refine WP.drawn [none,none,some (0,2),some (0,2),some (0,2),af,af,af,af,af,af,af,af,af,af,af,af,af] U bo bo<|zM U (zM U (zM U (zM U (zO U (ag (r:=.int .i64 ((I-1:Nat):Int)) U U (gH 1 Y Y))<|zM U (zM U (zO U (ag (r:=.int .i64 ((I-1:Nat):Int)) U U (gH 1 Y Y))<|zO U (aJ (.ptr r2 o2) U U e2) (zL U f2 (zM U (zM U (zO U (aJ (.ptr r1 o1) U U e1) (zL U f1 (zO U (aJ (.ptr r3 o3) U U e3) (ah.cy U U U (OpR.dX U U U (⟨h3,g3,s3⟩)) ?_)))))))))))));rintro _ h ⟨rfl,s⟩;obtain⟨r4,o4,h4,e4,g4,s4⟩:=s.j_ (I-1) (x:=gN l I) Q;refine zO U (aJ (.ptr r4 o4) U U e4) (ah.cy U U U (OpR.dX U U U (⟨h4,g4,s4⟩)) ?_);rintro _ h ⟨rfl,s⟩;refine ah.nil ⟨⟨aa,aa,λ_ _=>.inr ⟨U,⟨_,aD U⟩,lD⟩,λ_ _=>.inr ⟨U,⟨_,aD U⟩,aA _ U⟩,λ_ _=>.inr ⟨U,⟨_,ag (r:=.int .i64 ((I-1:Nat):Int)) U U (gH 1 Y Y)⟩,aA _ U⟩,dq 14⟩,?_⟩;have s:Sat h (.arr 1 w (aK (swp l I (I-1)))::S):=s;generalize swp l I (I-1)=l1 at s qC ad8 r8 gC;refine zK 5 U (zo U (ag (r:=.int .i64 ((I-a:Nat):Int)) U U (gH _ Y Y)) ?_);by_cases c3:2<=I-a
    .skip;refine zB U dO Q<|zk 5 U (zo U (ag (r:=.int .i64 ((I-1:Nat):Int)) U U (gH 1 Y Y))<|zk 2 U (WP.block (Yf hT hb (i:=I) (I-1-a) (I-1) l1 _ _ _ Y Y k1 r8 ad8 (xM.start gC) s ⟨U,U,U,U,U,U,aa⟩ λE' h' l2 m1 m2 m3 s'=>?_)));have s:=s';have ir:b<=l2.length:=by rw[m1.len];exact r8
     refine WP.has m3 (PV hT hb Y Y ir s ⟨U,U,U,U,U,aa⟩ λE' h' l3 n1 n2 s'=>?_);have s:=s';refine WP.has n2 (zK 2 U (zb U (fE (b:=1) U Y)<|za U (zv ?_)));have J:fc a b l l3:=(qC.trans (m1.wide (az _) k1)).trans (n1.wide Y (az _));exact ih (jo+1) I l3 _ _ a8 Y Y k1 (by rw[J.len];exact hl) (tD.tN J (az _) (az _)) (m2.tN n1 (az _)) s ⟨U,U,U,U,U,aa⟩ (λE' h' l' q1 q2=>hq E' h' l' (J.trans q1) q2) λE' h' l' r q1 q2 q3 q4=>hr E' h' l' r (J.trans q1) q2 q3 q4
    .skip;refine zC U dO Q<|zk 3 U (PV hT hb Y Y r8 s ⟨U,U,U,U,U,aa⟩ λE' h' l3 n1 n2 s'=>?_);have s:=s';refine WP.has n2 (zK 2 U (zb U (fE (b:=1) U Y)<|za U (zv ?_)));have J:fc a b l l3:=qC.trans (n1.wide Y (az _));exact ih (jo+1) I l3 _ _ a8 Y Y k1 (by rw[J.len];exact hl) (tD.tN J (az _) (az _)) (λx y q1 q2 q3=>Y) s ⟨U,U,U,U,U,aa⟩ (λE' h' l' q1 q2=>hq E' h' l' (J.trans q1) q2) λE' h' l' r q1 q2 q3 q4=>hr E' h' l' r (J.trans q1) q2 q3 q4
theorem UW (J:W told)(jS:a<b)(hb:b<1000000)(hl:b<=l.length)(I:xN l a b)(s:Sat h (.arr 1 w (aK l)::S)):
  Call ⟨prog,told⟩ 229 [w,.int .i64 (a:Int),.int .i64 (b:Int)] h λv h'=>∃(r:Bool) (l':List Nat),v=.bool r/\fc a b l l'/\(r=true->iP l' a b)/\Sat h' (.arr 1 w (aK l')::S):=by
 refine Call.of_wp (J.free _ U) func229 U U (zK 7 U (zb U (fE (b:=1) U Y)<|zk 7 U (WP.block<|abP J hb 5 0 (a+1) l _ _ _ U (rK _) Y hl I (λx y q1 q2 q3=>Y) s ⟨U,U,U,U,U,aa⟩ (λE' h' l' k1 s'=>?_) λE' h' l' r k1 k2 k3 s'=>?_)))
 .skip;exact zK 4 U (zR U ⟨false,l',U,k1,(λq=>by cases q),s'⟩)
 .skip;exact⟨aa,_,jk k3,r,l',U,k1,k2,s'⟩
end
theorem Hu.tN {m:Nat}(h:Hu l a m b)(p:fc c d l l')(J:d<=m/\a<=c\/m<c/\d<=b): Hu l' a m b:=by
 have em:gN l' m=gN l m:=p.out m Y;refine⟨λk h1 h2=>?_,λk h1 h2=>?_⟩
 .rw[em];by_cases e:c<=k/\k<d
  .obtain⟨j,j1,j2,I⟩:=p.ins k e.1 e.2;rw[I];exact h.low j Y Y
  .rw[p.out k Y];exact h.low k h1 h2
 .rw[em];by_cases e:c<=k/\k<d
  .obtain⟨j,j1,j2,I⟩:=p.ins k e.1 e.2;rw[I];exact h.high j Y Y
  .rw[p.out k Y];exact h.high k h1 h2
theorem iP.ahf (h:iP l a i)(p:fc c d l l')(J:d<=a): iP l' a i:=λx y h1 h2 I=>by
 rw[p.out x Y,p.out y Y];exact h x y h1 h2 I
theorem Hu.join {m:Nat}(h:Hu l a m b)(h1:iP l a m)(h2:iP l (m+1) b): iP l a b:=λx y q1 q2 J=>by
 rcases zT y m with e|e|e
 .exact h1 x y q1 q2 e
 .rw[e];exact h.low x q1 Y
 .rcases zT x m with I|I|I
  .exact b7 (h.low x q1 I) (h.high y e J)
  .rw[I];exact h.high y e J
  .exact h2 x y I q2 J
theorem UX (I:l.Nodup)(hi:i<l.length)(J:j<l.length)(h:gN l i=gN l j): i=j:=by
 grind[gN,List.getElem_inj]
structure C2 (l:List Nat)(a b:Nat)(l':List Nat)(a' b':Nat): Prop where
 pm:fc a b l l'
 lb:xN l' a' b'
 lt:b'-a'<b-a
 le:a'<=b'
 h1:a<=a'
 h2:b'<=b
 fin:∀l2,fc a' b' l' l2->iP l2 a' b'->iP l2 a b
theorem C2.left {m:Nat}(jS:a<b)(h1:a<=m)(h2:m<b)(hl:b<=l.length)(hn:l.Nodup)(p1:fc a b l l1)(t:Hu l1 a m b)(p2:fc a m l1 l2)(s:iP l2 a m): C2 l a b l2 (m+1) b:=by
 have t2:=t.tN p2 (.inl ⟨az _,az _⟩);have I:l2.Nodup:=(p2.perm.trans p1.perm).nodup_iff.2 hn;have ir:b<=l2.length:=by rw[p2.len,p1.len];exact hl
 refine⟨p1.trans (p2.wide (az _) Y),λ_ k k1 k2=>?_,Y,Y,Y,az _,λl3 J s3=>?_⟩
 .exact Nat.lt_of_le_of_ne (t2.high k k1 k2) λe=>by have:=UX I Y Y e;omega
 .exact(t2.tN J (.inr ⟨rK _,az _⟩)).join (s.tN J Y) s3
theorem C2.right {m:Nat}(jS:a<b)(h1:a<=m)(h2:m<b)(I:xN l a b)(p1:fc a b l l1)(t:Hu l1 a m b)(p2:fc (m+1) b l1 l2)(s:iP l2 (m+1) b): C2 l a b l2 a m:=by
 have t2:=t.tN p2 (.inr ⟨rK _,az _⟩);refine⟨p1.trans (p2.wide Y (az _)),λh0 k k1 k2=>?_,Y,h1,az _,Y,λl3 J s3=>?_⟩
 .exact((I.tN p1 (az _) (az _)).tN p2 Y (az _)) h0 k k1 Y
 .exact(t2.tN J (.inl ⟨az _,az _⟩)).join s3 (s.ahf J Y)
theorem C2.pre {I:List Nat}(h:C2 l a b l' a' b')(p:fc a b I l): C2 I a b l' a' b':=⟨p.trans h.pm,h.lb,h.lt,h.le,h.h1,h.h2,h.fin⟩
section
variable {told:bU} {w:V} {lim:Nat}
abbrev Hw (w:V)(a b lim:Nat)(wb wp:Bool): List (Nat×V):=[(0,w),(1,.int .i64 (a:Int)),(2,.int .i64 (b:Int)),(3,.int .i64 (lim:Int)),(8,.bool wb),(9,.bool wp)]
def MV (told:bU)(w:V)(S:List aH)(n:Nat): Prop:=∀(a b lim:Nat) (l:List Nat) (h:H),b-a<n->a<=b->b<256->b<=l.length->lim<=100->xN l a b->l.Nodup->Sat h (.arr 1 w (aK l)::S) ->
 Call ⟨prog,told⟩ 209 [w,.int .i64 (a:Int),.int .i64 (b:Int),.int .i64 (lim:Int)] h λv h'=>v=.aR []/\∃l',fc a b l l'/\iP l' a b/\Sat h' (.arr 1 w (aK l')::S)
noncomputable def pdU : Code:=aV [1,1,0,0,0,1,1,1,1,1,1,1,1] ((f209.body).getD .skip)
theorem PW (hT:W told)(hr:MV told w S (b-a))(jS:a+13<=b)(hb:b<256)(hl:b<=l.length)(I:lim<=100)(tD:xN l a b)(hn:l.Nodup)(hp:a<=pv/\pv<b)(s:Sat h (.arr 1 w (aK l)::S))
 (hE:Has E ((10,.int .i64 ((b-a:Nat):Int))::(11,.int .i64 (pv:Int))::Hw w a b lim wb wp))
 (hq:∀E' h' l' a' b' C3 C4,C2 l a b l' a' b'->Has E' (Hw w a' b' lim C3 C4)->Sat h' (.arr 1 w (aK l')::S)->a8 .normal E' h'): WP ⟨prog,told⟩ 134 pdU E h a8:=by
 refine WP.has hE (zK 6 U (zc U (abO hT Y Y hl hp s) ?_));rintro v h ⟨m,bl,l1,rfl,h1,h2,p1,t1,s⟩;have r8:b<=l1.length:=by rw[p1.len];exact hl
 have J:l1.Nodup:=p1.perm.nodup_iff.2 hn;refine zk 15 U (zo U (ag (r:=.int .i64 ((m-a:Nat):Int)) U U (gH _ Y Y))<|zk 2 U (zo U (ag (r:=.int .i64 ((b-m:Nat):Int)) U U (gH _ Y Y))<|zk 6 U (zb U (yI (b:=8) O Y)<|zk 6 U ?_)));by_cases c1:m-a<b-m
 .skip;refine zB U aG Q<|zk 6 U (zb U dO (zk 8 U (zc U (hr a m lim l1 h Y h1 Y Y I (λh0 k k1 k2=>(tD.tN p1 (az _) (az _)) h0 k k1 Y) J s) ?_)));rintro v h ⟨rfl,l2,p2,s2,s⟩;exact zk 3 U (zb U (fE (b:=1) U Y)<|za U (zv<|hq _ _ l2 (m+1) b _ bl (.left Y h1 h2 hl hn p1 t1 p2 s2) ⟨U,U,U,U,U,U,aa⟩ s))
 .have ahg:xN l1 (m+1) b:=λ_ k k1 k2=>by
   exact Nat.lt_of_le_of_ne (t1.high k k1 k2) λe=>by have:=UX J Y Y e;omega
  refine zC U aG Q<|zk 6 U (zb U dO (zk 6 U (zb U (fE (b:=1) U Y)<|zk 2 U (zc U (hr (m+1) b lim l1 h Y h2 hb r8 I ahg J s) ?_))));rintro v h ⟨rfl,l2,p2,s2,s⟩;exact zv (zr U (zk 2 U (zv<|hq _ _ l2 a m _ bl (.right Y h1 h2 tD p1 t1 p2 s2) ⟨U,U,U,U,U,U,aa⟩ s)))
noncomputable def pdT : Code:=aV [1,1,0,0,0,1,1,1,1,1,1,1] ((f209.body).getD .skip)
theorem Ei (hT:W told)(hr:MV told w S (b-a))(jS:a+13<=b)(hb:b<256)(hl:b<=l.length)(I:lim<=100)(J:xN l a b)(hn:l.Nodup)(hp:a<=pv/\pv<b)(s:Sat h (.arr 1 w (aK l)::S))
 (hE:Has E ((10,.int .i64 ((b-a:Nat):Int))::(11,.int .i64 (pv:Int))::Hw w a b lim wb wp))
 (hq:∀E' h' l' a' b' C3 C4,C2 l a b l' a' b'->Has E' (Hw w a' b' lim C3 C4)->Sat h' (.arr 1 w (aK l')::S)->a8 .normal E' h'): WP ⟨prog,told⟩ 134 pdT E h a8:=by
 obtain⟨r1,o1,e1,f1⟩:=s.gB 0 (i:=a-1) U Y;obtain⟨r2,o2,e2,f2⟩:=s.gB 0 (i:=pv) U Y;refine WP.has hE (zK 2 U (WP.drawn [af,af,af,af,af,af,af,af,af,af,af,af,af,af,af] U bo bo<|zM U ?_));by_cases c1:0<a
 .skip;refine ah.ot U U U U (ag U U dc) Q<|zM U (zM U (zM U (zO U (ag (r:=.int .i64 ((a-1:Nat):Int)) U U (gH 1 Y Y))<|zO U (aJ (.ptr r1 o1) U U e1) (zL U f1 (zM U (zM U (zO U (aJ (.ptr r2 o2) U U e2) (zL U f2 (ah.any U U U U (OpR.call U U U U (nI hT)) ?_)))))))));rintro v h' ⟨bl,rfl,rfl,qy⟩;obtain rfl:bl=true:=qy.2 (J c1 pv hp.1 hp.2);exact zO U (cI U U) (zO U (gZ U U)<|ah.nil ⟨(dq 16),zK 2 U (PW hT hr jS hb hl I J hn hp s ⟨U,U,U,U,U,U,U,U,aa⟩ hq)⟩)
 .skip;exact ah.kK U U U U (ag U U dc) Q<|zM U (ah.no (e:=false) U U U U (ah.no (e:=false) U U U U (ah.no (e:=false) U U U U (ah.no (e:=false) U U U U (ah.no (e:=false) U U U U (ah.no (e:=false) U U U U (ah.no (e:=false) U U U U (ah.no (e:=false) U U U U (ah.no (e:=false) U U U U (ah.no (e:=true) U U U U (ah.no (e:=false) U U U U (zO U (lI U U)<|ah.nil ⟨(dq 16),zK 2 U (PW hT hr jS hb hl I J hn hp s ⟨U,U,U,U,U,U,U,U,aa⟩ hq)⟩))))))))))))
noncomputable def pdV : Code:=aV [1,1,0,0,0,1,1,1,1,1,1] ((f209.body).getD .skip)
theorem MW (hT:W told){Eu:Nat}(hr:MV told w S (b-a))(jS:a+13<=b)(hb:b<256)(hl:b<=l.length)(I:lim<=100)(J:xN l a b)(hn:l.Nodup)(hp:a<=pv/\pv<b)(s:Sat h (.arr 1 w (aK l)::S))
 (hE:Has E ((10,.int .i64 ((b-a:Nat):Int))::(11,.int .i64 (pv:Int))::(12,.int .i64 (Eu:Int))::Hw w a b lim wb wp))
 (hq:∀E' h' l' a' b' C3 C4,C2 l a b l' a' b'->Has E' (Hw w a' b' lim C3 C4)->Sat h' (.arr 1 w (aK l')::S)->a8 .normal E' h')
 (iM:∀E' h' l',fc a b l l'->iP l' a b->Sat h' (.arr 1 w (aK l')::S)->a8 .ret E' h'): WP ⟨prog,told⟩ 134 pdV E h a8:=by
 cases wb with
 |false =>
  exact WP.has hE (zK 14 U (Ei hT hr jS hb hl I J hn hp s ⟨U,U,U,U,U,U,U,U,aa⟩ hq))
 |true =>
  cases wp with
  |false =>
   exact WP.has hE (zK 14 U (Ei hT hr jS hb hl I J hn hp s ⟨U,U,U,U,U,U,U,U,aa⟩ hq))
  |true =>
   refine WP.has hE (zK 9 U ?_);by_cases c1:Eu=1
   .skip;refine zB U bH Q<|zk 8 U (zc U (UW hT Y Y hl J s) ?_);rintro v h ⟨r,l1,rfl,p1,s1,s⟩;cases r with
    |true =>
     exact zk 2 U (WP.ret (iM _ _ l1 p1 (s1 U) s))
    |false =>
     have r8:b<=l1.length:=by rw[p1.len];exact hl
     have tM:l1.Nodup:=p1.perm.nodup_iff.2 hn;exact zk 3 U (Ei hT hr jS hb r8 I (J.tN p1 (az _) (az _)) tM hp s ⟨U,U,U,U,U,U,U,U,aa⟩ λE' h' l' a' b' C3 C4 k1=>hq E' h' l' a' b' C3 C4 (k1.pre p1))
   .skip;exact zC U bH Q<|zk 4 U (Ei hT hr jS hb hl I J hn hp s ⟨U,U,U,U,U,U,U,U,aa⟩ hq)
noncomputable def pdW : Code:=aV [1,1,0,0,0,1,1,1,1] ((f209.body).getD .skip)
theorem MX (hT:W told)(hr:MV told w S (b-a))(J:a+13<=b)(hb:b<256)(hl:b<=l.length)(I:lim<=100)(tD:xN l a b)(hn:l.Nodup)(s:Sat h (.arr 1 w (aK l)::S))
 (hE:Has E ((10,.int .i64 ((b-a:Nat):Int))::Hw w a b lim wb wp))
 (hq:∀E' h' l' a' b' C3 C4,C2 l a b l' a' b'->Has E' (Hw w a' b' lim C3 C4)->Sat h' (.arr 1 w (aK l')::S)->a8 .normal E' h')
 (iM:∀E' h' l',fc a b l l'->iP l' a b->Sat h' (.arr 1 w (aK l')::S)->a8 .ret E' h'): WP ⟨prog,told⟩ 134 pdW E h a8:=by
 refine WP.has hE (zK 5 U (zc U (X9 hT J hl Y s) ?_));rintro v h ⟨pv,Eu,rfl,p1,p2,xz,s⟩;refine zk 10 U ?_;by_cases c1:Eu=2
 .skip;refine zB U bH Q<|zk 7 U (zc U (ad7 hT Y Y hl s) ?_);rintro v h ⟨rfl,l1,q1,s⟩;have r8:b<=l1.length:=by rw[q1.len];exact hl
  have tM:l1.Nodup:=q1.perm.nodup_iff.2 hn;exact zk 4 U (zo U (ag (r:=.int .i64 ((b-1:Nat):Int)) U U (gH 1 Y Y))<|zk 2 U (zo U (ag (r:=.int .i64 ((pv-a:Nat):Int)) U U (gH _ Y Y))<|zo U (ag (r:=.int .i64 ((b-1-(pv-a):Nat):Int)) U U (gH _ Y Y))<|zk 5 U (MW (Eu:=1) hT hr J hb r8 I (tD.tN q1 (az _) (az _)) tM Y s ⟨U,U,U,U,U,U,U,U,U,aa⟩ (λE' h' l' a' b' C3 C4 k1=>hq E' h' l' a' b' C3 C4 (k1.pre q1)) λE' h' l' k1=>iM E' h' l' (q1.trans k1))))
 .skip;exact zC U bH Q<|zk 3 U (MW hT hr J hb hl I tD hn ⟨p1,p2⟩ s ⟨U,U,U,U,U,U,U,U,U,aa⟩ hq iM)
noncomputable def pdL : Code:=aV [1,1,0,0] ((f209.body).getD .skip)
theorem abQ (hT:W told)(hr:MV told w S N): ∀(n a b lim:Nat) (l:List Nat) (h:H) (E:List (Nat×V)) (wb wp:Bool) (a8:Ex->List (Nat×V)->H->Prop),b-a<n->b-a<=N->a<=b->b<256->b<=l.length->lim<=100->xN l a b->l.Nodup->Sat h (.arr 1 w (aK l)::S)->Has E (Hw w a b lim wb wp) ->
  (∀E' h' l',fc a b l l'->iP l' a b->Sat h' (.arr 1 w (aK l')::S)->a8 .ret E' h')->WP ⟨prog,told⟩ 134 (.loop pdL) E h a8:=by
 intro n;induction n with
 |zero=>intro a b lim l h E wb wp a8 hd;omega
 |succ n ih =>
  refine λa b lim l h E wb wp a8 hd hN jS hb hl ahh tD hn s hE hq=>WP.loop (WP.has hE (WP.block (zg U (zm U (zm U (zo U (ag (r:=.int .i64 ((b-a:Nat):Int)) U U (gH _ Y Y))<|za U (zv (zw (zg U (zm U ?_))))))))));by_cases c1:b-a<=12
  .skip;refine aq.ot U U U (ag U U rj) Q<|zv (zi U (zg U (zm U (zm U (zm U (aq.call U U U U U U U (X8 hT Y Y hl s) ?_))))));rintro v h ⟨rfl,l1,p1,s1,s⟩;exact zv (WP.ret<|hq _ _ l1 p1 s1 s)
  .skip;refine aq.kK U U U (ag U U rj) Q<|zv (zj U (WP.skip (zw (zg U (zm U ?_)))));by_cases c2:lim=0
   .skip;refine aq.ot U U U (ag U U bH) Q<|zv (zi U (zg U (zm U (zm U (zm U (aq.call U U U U U U U (abM hT Y Y hl s) ?_))))));rintro v h ⟨rfl,l1,p1,s1,s⟩;exact zv (WP.ret<|hq _ _ l1 p1 s1 s)
   .have S7:MV told w S (b-a):=λa b lim l h hh=>hr a b lim l h Y;refine aq.kK U U U (ag U U bH) Q ?_;cases wb with
    |false =>
     refine zv (zj U (WP.skip (zw (zg U (zm U (zo U (cI U U) (zv (zi U (zg U (zm U (zm U (zm U (aq.call U U U U U U U (Yc hT Y hb hl s) ?_)))))))))))));rintro v h ⟨rfl,l1,q1,s⟩;have r8:b<=l1.length:=by rw[q1.len];exact hl
     have tM:l1.Nodup:=q1.perm.nodup_iff.2 hn;refine zv (zr U (zm U (zo U (ag (r:=.int .i64 ((lim-1:Nat):Int)) U U (gH 1 Y Y))<|za U (zv<|MX hT S7 Y hb r8 Y (tD.tN q1 (az _) (az _)) tM s ⟨U,U,U,U,U,U,U,aa⟩ (λE' h' l' a' b' I J k1 k2 s'=>?_) λE' h' l' k1 k2 s'=>?_))))
     .have s:=s';exact WP.has k2<|ih a' b' (lim-1) l' _ _ I J a8 (by have:=k1.lt;omega) (by have:=k1.lt;omega) k1.le (by have:=k1.h2;omega) (by rw[k1.pm.len];have:=k1.h2;omega) Y k1.lb (k1.pm.perm.nodup_iff.2 tM) s ⟨U,U,U,U,U,U,aa⟩ λE' h' l2 g1 g2 g3=>hq E' h' l2 (q1.trans (k1.pm.trans (g1.wide k1.h1 k1.h2))) (k1.fin l2 g1 g2) g3
     .exact hq E' h' l' (q1.trans k1) k2 s'
    |true =>
     refine zv (zj U (WP.skip (zw (zg U (zm U (zo U (cI U U) (zv (zj U (WP.skip<|MX hT S7 Y hb hl ahh tD hn s ⟨U,U,U,U,U,U,U,aa⟩ (λE' h' l' a' b' I J k1 k2 s'=>?_) λE' h' l' k1 k2 s'=>?_)))))))))
     .have s:=s';exact WP.has k2<|ih a' b' lim l' _ _ I J a8 (by have:=k1.lt;omega) (by have:=k1.lt;omega) k1.le (by have:=k1.h2;omega) (by rw[k1.pm.len];have:=k1.h2;omega) Y k1.lb (k1.pm.perm.nodup_iff.2 hn) s ⟨U,U,U,U,U,U,aa⟩ λE' h' l2 g1 g2 g3=>hq E' h' l2 ((k1.pm.trans (g1.wide k1.h1 k1.h2))) (k1.fin l2 g1 g2) g3
     .grind
theorem abR (hT:W told): ∀N,MV told w S N:=by
 intro N;induction N with
 |zero=>intro a b lim l h hd;omega
 |succ N ih =>
  exact λa b lim l h hd J hb hl I tD hn s=>Call.of_wp (hT.free _ U) func209 U U (zK 8 U (WP.block (abQ hT ih (b-a+1) a b lim l _ _ true true _ (rK _) Y J hb hl I tD hn s ⟨U,U,U,U,U,U,aa⟩ λE' h' l' k1 k2 s'=>⟨aa,_,U,U,l',k1,k2,s'⟩)))
theorem UY (I:W told)(J:l.length<256)(hn:l.Nodup)(s:Sat h (.arr 1 w (aK l)::S)):
  Call ⟨prog,told⟩ 155 [w] h λv h'=>v=.aR []/\∃l',l'.Perm l/\iP l' 0 l.length/\Sat h' (.arr 1 w (aK l')::S):=by
 refine Call.of_wp (I.free _ U) func155 U U (zK 3 U (zo U (aO U U U (s.fo l.length (j:=0) U (by simp[aK]) O dg))<|zk 6 U (zo U (bQ (r:=.int .u64 (l.length:Int)) U (ie bB GJ eB))<|zc U (MS I J) ?_)));rintro v h' ⟨rfl,rfl⟩;have h8:=(Eh l.length J).1;refine zc U (abR I (l.length+1) 0 l.length (C1 l.length) l _ Y (dz _) J (az _) Y (λq=>Y) hn s) ?_;rintro v h ⟨rfl,l',p1,s1,s⟩;exact zv ⟨aa,_,U,U,l',p1.perm,s1,s⟩
end
end Go.Proofs.YtiojppeahfoiaaaGreat.Am
namespace Go.Proofs.YtiojppeahfoiaaaGreat.Am
open Go Go.RowKit Proofs.Tryz
variable {L:lp} {ops:Array Oper} {X aw:aH} {wb wp:Bool} {cap:Cap} {C:eP} {cd qB code:Code} {c':Ctx} {δ:Dk} {ε aj:bn} {pg:bn->Int->List Nat} {env:Env} {a8:Ex->List (Nat×V)->H->Prop} {fn:Func} {cl:Go.Call} {h h' σ:H} {e:Int} {μ:Lg} {now:List (Int×List Nat)} {E:List (Nat×V)} {S:List aH} {ao:List Bool} {bw:List cU} {ks:List Int} {data l cO l' l1 l2 seen mk:List Nat} {args rest cs ds Rt:List V} {n tx pv nx x a b q g r aF c i j N k B dn id a' b' f ex d M Aq c0 aL ba ck rr pn b0 b2:Nat} {o:Oper} {y:Operand} {P:Program} {A:mo} {t:TypeId} {dt av rv uv z u v2 dv cv wt fv kv mv xK:V} {R:V->H->Prop} {w':World}
def rangeParts : Code->Option (Code×Code×Nat×Operand×Array Tmp×Code×Code×Code)
 |.seq a (.seq (.seq b (.block id (.rangeFunc x ps qB bd))) t)=>some (a,b,id,x,ps,qB,bd,t)
 |_=>none
section
variable {c:Ctx} {w:World}
theorem Rel.other {o:Go.Obj}(h:Rel c σ w)(I:∀id,id<c.N->(c.ρ id).1≠b): Rel c σ (w.putObj b o):=by
 have get:∀i,(w.putObj b o).heap[i]?=if b=i/\b<w.heap.size then some o else w.heap[i]?:=λi=>by
  simp only[World.putObj,Dh];by_cases h1:b=i
  .subst h1;by_cases h2:b<w.heap.size
   .simp[h2]
   .simp[h2,Array.getElem?_eq_none (zV h2)]
  .simp[h1]
 have same:∀id,id<c.N->(w.putObj b o).heap[(c.ρ id).1]?=w.heap[(c.ρ id).1]?:=λid hi=>by
  rw[get];simp[rQ (I id hi)]
 have rows:∀id,id<c.N->rowSize (w.putObj b o) (c.ρ id).1=rowSize w (c.ρ id).1:=λid hi=>by unfold rowSize;rw[same id hi]
 exact⟨h.next,h.live,λid hi=>by simpa[World.putObj] using h.lP id hi,λid hi=>by rw[rows id hi];exact h.zz id hi,h.inj,
  λid o ho=>(h.obj id o ho).later (Ext.refl c) (h.live id o ho) (same id (h.live id o ho)),h.one,h.fx⟩
theorem Rel.endLoop {o:Obj}{r aiX:Loop}(h:Rel c σ w)(hg:σ.tr.get id=some o)(ho:∀n cs,o≠.cells n cs true)(hb:w.heap[(c.ρ id).1]?=some (.loop aiX)):
  Rel c (σ.put id none) (w.putObj (c.ρ id).1 (.loop r))/\cq c w c (w.putObj (c.ρ id).1 (.loop r)):=by
 have bY:(c.ρ id).1<w.heap.size:=(Array.getElem?_eq_some_iff.1 hb).1;have get:∀i,(w.putObj (c.ρ id).1 (.loop r)).heap[i]?=if (c.ρ id).1=i then some (.loop r) else w.heap[i]?:=λi=>by
  simp only[World.putObj,Dh,bY,cZ]
 have rows:∀i,rowSize (w.putObj (c.ρ id).1 (.loop r)) i=rowSize w i:=λi=>by
  unfold rowSize;rw[get];by_cases hi:(c.ρ id).1=i
  .subst hi;simp[hb]
  .simp[hi]
 have I:=h.kill id;have hX:=h.E_ hg ho;refine⟨⟨I.next,I.live,λj hj=>by simpa[World.putObj] using I.lP j hj,λj hj=>by rw[rows];exact I.zz j hj,I.inj,λj o hj=>?_,I.one,I.fx⟩,
  ⟨Ext.refl c,by simp[World.putObj],λb _=>rows b,λb _ hn=>?_,λj h1 h2=>Y,U,U⟩⟩
 .refine(I.obj j o hj).later (Ext.refl c) (I.live j o hj) ?_;have J:=hj;rw[cX] at J;by_cases vJ:j=id
  .simp[vJ] at J
  .simp[vJ] at J;have nL:(c.ρ id).1≠(c.ρ j).1:=λhe=>vJ (h.Fa J hg he.symm hX);rw[get];simp[nL]
 .rw[get];have:(c.ρ id).1≠b:=λhe=>by have:=hn id (h.live id _ hg) he;rw[hX] at this;cases this
  simp[this]
theorem cq.PX (h:cq c w c' w')(I:b<w.heap.size)(J:∀id,id<c.N->(c.ρ id).1≠b): (∀id,id<c'.N->(c'.ρ id).1≠b)/\w'.heap[b]?=w.heap[b]?:=by
 refine⟨λid hi he=>?_,h.iF b I λid hi he=>absurd he (J id hi)⟩;by_cases h1:id<c.N
 .rw[h.ext.ρ id h1] at he;exact J id h1 he
 .rcases h.fresh id Y hi with h2|⟨j,hj,h2,_⟩
  .omega
  .exact J j hj (by rw[h2,he])
theorem cq.ad9 {o:Go.Obj}(h:cq c w c' w')(J:w.heap.size<=b): cq c w c' (w'.putObj b o):=by
 have get:∀i,i<w.heap.size->(w'.putObj b o).heap[i]?=w'.heap[i]?:=λi hi=>World.putObj_heap_other Y;exact⟨h.ext,by simpa[World.putObj] using h.size,λi hi=>by rw[<-h.rows i hi];unfold rowSize;rw[get i hi],λi hi I=>by rw[get i hi];exact h.iF i hi I,h.fresh,h.sys⟩
end
section
variable {c:Ctx} {w:World}
theorem dA.defers {a:Act}(h:dA c env n a)(ds:List Deferred): dA c env n { a with defers:=ds }:=⟨h.size,h.val,h.uS⟩
end
end Go.Proofs.YtiojppeahfoiaaaGreat.Am
namespace Go.Proofs.YtiojppeahfoiaaaGreat.Am
open Go Proofs.Tryz
variable {L:lp} {ops:Array Oper} {X aw:aH} {wb wp:Bool} {cap:Cap} {C:eP} {cd qB code:Code} {c':Ctx} {δ:Dk} {ε aj:bn} {pg:bn->Int->List Nat} {env:Env} {a8:Ex->List (Nat×V)->H->Prop} {fn:Func} {cl:Go.Call} {h h' σ:H} {e:Int} {μ:Lg} {now:List (Int×List Nat)} {E:List (Nat×V)} {S:List aH} {ao:List Bool} {bw:List cU} {ks:List Int} {data l cO l' l1 l2 seen mk:List Nat} {args rest cs ds Rt:List V} {n tx pv nx x a b q g r aF c i j N k B dn id a' b' f ex d M Aq c0 aL ba ck rr pn b0 b2:Nat} {o:Oper} {y:Operand} {P:Program} {A:mo} {t:TypeId} {dt av rv uv z u v2 dv cv wt fv kv mv xK:V} {R:V->H->Prop} {w':World}
def vn (i:Nat)(c:Code): Code:=match rangeParts c with
 |some (a,b,_,_,_,qB,bd,t)=>match i with
  |0=>a
  |1=>b
  |2=>qB
  |3=>bd
  |_=>t
 |none=>.skip
section
theorem OpR.yield {x:Operand}{au:Nat}{e:Env}{ps:List Nat}{bd:Code}{Ee:List (Nat×V)}(J:o.op=.call cl)(hc:cl.callee=.value x)(hx:bp E x=some (.BP id))(ha:lookArgs E cl.args.toList=some args)
 (hg:T.get h.tr id=some (.loop false au env ps qB bd))(hb:bindPs au ps args env=some e)(he:jl e Ee)
 (hw:WP C au qB Ee h λex E1 h1=>ex=.normal/\T.get h1.tr id=some (.loop false au env ps qB bd)/\WP C au bd E1 (h1.put id (some (.loop true au env ps qB bd))) λex E2 h2=>ex=.normal/\T.get h2.tr id=some (.loop true au env ps qB bd)/\R (.bool true) (h2.put id (some (.loop false au env ps qB bd)))):
  OpR C E h o R:=by
 obtain⟨N1,ex1,I,h1,E1,a1,a2,rfl,a4,ov⟩:=hw e he;obtain⟨N2,vK,y6,h2,E2,b1,b2,rfl,b4,b5⟩:=ov I a2;refine⟨.bool true,_,b5,λCC hE=>⟨max N1 N2,?_⟩⟩;have c1:=fy (C:=C) (pZ N1 N2) _ _ _ a1;have c2:=fy (C:=C) (pY N1 N2) _ _ _ b1;simp only[evOp,J,evCall,lz hE ha,hc,bX hE hx,callV,roundV,hg,hb,c1,a4,c2,b4]
end
end Go.Proofs.YtiojppeahfoiaaaGreat.Am
namespace Go.Proofs.YtiojppeahfoiaaaGreat.Am
open Go Go.RowKit Proofs.Tryz
variable {L:lp} {ops:Array Oper} {X aw:aH} {wb wp:Bool} {cap:Cap} {C:eP} {cd qB code:Code} {c':Ctx} {δ:Dk} {ε aj:bn} {pg:bn->Int->List Nat} {env:Env} {a8:Ex->List (Nat×V)->H->Prop} {fn:Func} {cl:Go.Call} {h h' σ:H} {e:Int} {μ:Lg} {now:List (Int×List Nat)} {E:List (Nat×V)} {S:List aH} {ao:List Bool} {bw:List cU} {ks:List Int} {data l cO l' l1 l2 seen mk:List Nat} {args rest cs ds Rt:List V} {n tx pv nx x a b q g r aF c i j N k B dn id a' b' f ex d M Aq c0 aL ba ck rr pn b0 b2:Nat} {o:Oper} {y:Operand} {P:Program} {A:mo} {t:TypeId} {dt av rv uv z u v2 dv cv wt fv kv mv xK:V} {R:V->H->Prop} {w':World}
def CallsR (P:Program)(f:FuncId)(args:List V)(h:H)(R:V->H->Prop): Prop:=∀(c:Ctx) (w:World),Rel c h w->(∀x∈args,wf c x) ->
 Calls P f (args.map (conc c)).toArray w λe w'=>∃c' v c5,R v c5/\e=.returned (conc c' v)/\wf c' v/\Rel c' c5 w'/\cq c w c' w'
theorem FJ {f : FuncId} (h1 : P.funcs[f]? = some fn) (h2 : fn.body.isNone = false) (I : (fn.name == "runtime.NumGoroutine") = false) (x : Array Value) (w : World) : (callFunc f x).run P w = .ok (.enter f x) w := by
 grind [callFunc, Sem.run_bind, run_program, Result.andThen_ok, Sem.run_pure]
section
variable {au:Nat} {Q':Ex->List (Nat×V)->H->Prop}
theorem CallsR.mono {f:FuncId}{I:V->H->Prop}(J:CallsR P f args h R)(hm:∀v h',R v h'->I v h'): CallsR P f args h I:=λc w hr ha =>
 Calls.mono (J c w hr ha) λe w' ⟨c',v,c5,h1,h2⟩=>⟨c',v,c5,hm _ _ h1,h2⟩
theorem CallsR.of_wpo {f:FuncId}(hf:C.P.funcs[f]?=some fn)(hb:fn.body=some code)(hn:args.length<=fn.ntmps)
 (hw:WPO C fn.ntmps code (argE args 0) h λex E' h'=>(match ex with|.exit _=>False|_=>True)/\∃v,resLE C.P E' h' fn.results.toList=some v/\R v h'): CallsR C.P f args h R:=by
 intro c w hr ha;have vB:=jm (c:=c) hn ha;have K3:=hw c _ w _ (uc args) hr vB;refine calls_of_wp hf hb (wpIn_wide.1 (wpIn_mono K3 ?_));rintro e a' w' ⟨ex,CC,h',E',rfl,fg,⟨hx,v,I,hR⟩,hd,c',r1,r2,r3⟩;have fin:a'.defers=[]/\∃x,(results fn a'.tmps).run C.P w'=.ok x w'/\∃J v c5,R v c5/\Ending.returned x=.returned (conc J v)/\wf J v/\Rel J c5 w'/\cq c w J w':=by
  refine⟨hd,?_⟩;unfold resLE at I;cases Ey:mapO (resE C.P E' h') fn.results.toList with
  |none=>grind
  |some vs =>
   rw[Ey] at I;have yn:=wN (P:=C.P) (s:=⟨CC,fn.ntmps,h'⟩) fg Ey;obtain⟨t1,t2⟩:=nU (s:=⟨CC,fn.ntmps,h'⟩) r1 r2 yn;refine⟨_,t1,c',v,h',hR,?_⟩;match vs,I with
   |[],I =>
    grind[wf,gj,conc,concL]
   |[x],I =>
    grind
   |x::y::l,I =>
    grind[wf,iR,conc,fI]
 cases ex with
 |normal=>grind[bodyPost,exOf]
 |exit i=>grind
 |ret=>grind[bodyPost,exOf]
def pS (C:eP)(au:Nat)(ops:Array Oper)(k:Nat)(l:List Oper)(E:List (Nat×V))(h:H)(a8:Ex->List (Nat×V)->H->Prop): Prop :=
 (∀j,l[j]?=ops[k+j]?)->∀(c:Ctx) (a:Act) (w:World) (env:Env) (K:Exit->Act->World->Prop),jl env E->Rel c h w->dA c env au a->(∀e a' w',II au a8 c a w e a' w'->K e a' w')->wpOpsIn (Fr none) 0 C.P ops K (List.range' k l.length) a w
theorem WPO.region (hw:pS C au ops 0 ops.toList E h a8): WPO C au (.region id ops false) E h a8:=by
 refine λc a w env I J he=>wpIn_region ?_;rw[HO,<-Dm];exact hw (λj=>cb) c a w env _ I J he λ_ _ _ h=>h
theorem pS.nil (I:a8 .normal E h): pS C au ops k [] E h a8:=λ_ c a w env K J hr he hK=>by
 exact hK _ _ _ ⟨.normal,env,h,E,U,J,I,U,c,hr,he,cq.refl _ _⟩
theorem pS.op {l:List Oper}(hm:C.P.follows .mixedOrders=true)(hT:er C)(hg:o.guard=none)(hd:o.dst=some d)(hn:Nat.blt d au=true)(ho:OpR C E h o R)
 (hw:∀v h',R v h'->pS C au ops (k+1) l ((d,v)::E) h' a8): pS C au ops k (o::l) E h a8:=λhl c a w env K hE hr he hK=>by
 obtain⟨v,h1,hR,I⟩:=ho;obtain⟨N,hN⟩:=I env hE;have hS:=(uY (C:=C) hm hT N).1;have h0:ops[k]?=some o:=by simpa using(hl 0).symm
 have J:∀j,l[j]?=ops[k+1+j]?:=λj=>by have:=hl (j+1);grind
 simp only[cK,wB,wpOpsIn,h0];rw[sI he];have JF:wantedV ops.toList env o=true:=by simp only[wantedV,hg]
 rw[JF];refine(wJ hS hT hr (he.F4 o) hN).wpIn (lQ hN) λc' w' r1 r2 r3=>?_;have hp:St.put ⟨env,au,h⟩ o.dst v h1=some ⟨env.set d (some v),au,h1⟩:=by grind[St.put]
 obtain⟨p1,p2,p3⟩:=St.uT (s:=⟨env,au,h⟩) (he.ext r2.ext) r3 hp;refine hw v h1 hR J c' _ w' (env.set d (some v)) K (hE.set d v) r1 p1 λe a' xk hO=>hK e a' xk (hO.trans ?_ r2);rw[hd];rfl
theorem pS.call {l:List Oper}{f:FuncId}(hm:C.P.follows .mixedOrders=true)(hg:o.guard=none)(hd:o.dst=some d)(hn:Nat.blt d au=true)(SW:o.op=.call cl)(hc:cl.callee=.value (.func f))(ha:lookArgs E cl.args.toList=some args)
 (hen:∀(x:Array Value) (w:World),(callFunc f x).run C.P w=.ok (.enter f x) w)(hR:CallsR C.P f args h R)
 (hw:∀v h',R v h'->pS C au ops (k+1) l ((d,v)::E) h' a8): pS C au ops k (o::l) E h a8:=λhl c a w env K hE hr he hK=>by
 have h0:ops[k]?=some o:=by simpa using(hl 0).symm
 have I:∀j,l[j]?=ops[k+1+j]?:=λj=>by have:=hl (j+1);grind
 obtain⟨g1,g2⟩:=xW (a:=a) (c:=c) _ _ (λx hx=>he.F4 o x (by grind[Op.operands,Go.Call.operands])) (lz hE ha);have J:cl.args.map a.eval=(args.map (conc c)).toArray:=Q;have h1:(execOp a.eval o).run C.P w=.ok (.enter f (args.map (conc c)).toArray) w:=by
  simp_all[execOp,resolve,Act.eval,Deferred.ofValue,invoke]
 simp only[cK,wB,wpOpsIn,h0];rw[sI he];have JF:wantedV ops.toList env o=true:=by simp only[wantedV,hg]
 rw[JF];refine⟨λ_ _=>trivial,?_⟩;rw[Oper.semAt_eq _ _ _ (λd=>Q),h1];refine⟨λhd=>(by cases hd),Ff (Calls.mono (hR c w hr g2) ?_)⟩;rintro e w' ⟨c',v,h1,hv,rfl,r3,r1,r2⟩;have hp:St.put ⟨env,au,h⟩ o.dst v h1=some ⟨env.set d (some v),au,h1⟩:=by grind[St.put]
 obtain⟨p1,p2,p3⟩:=St.uT (s:=⟨env,au,h⟩) (he.ext r2.ext) r3 hp;refine hw v h1 hv I c' _ w' (env.set d (some v)) K (hE.set d v) r1 p1 λe a' xk hO=>hK e a' xk (hO.trans ?_ r2);rw[hd];rfl
theorem CallsR.range {f:FuncId}{pa pb pt JR:Code}{pid:Nat}{px:Operand}{JS:Array Tmp}(hm:C.P.follows .mixedOrders=true)(hT:er C)(hf:C.P.funcs[f]?=some fn)(hb:fn.body=some code)(hle:args.length<=fn.ntmps)
 (afL:code=.seq pa (.seq (.seq pb (.block pid (.rangeFunc px JS qB JR))) pt))(hen:∀(x:Array Value) (w:World),(callFunc g x).run C.P w=.ok (.enter g x) w)
 (hw:WP C fn.ntmps pa (argE args 0) h λex E1 h1=>ex=.normal/\WP C fn.ntmps pb E1 h1 λex E2 h2=>ex=.normal/\∃cap,bp E2 px=some (.fn (.func g) [] cap)/\∀env,jl env E2->CallsR C.P g (.BP h2.next::cap) (h2.new (.loop false fn.ntmps env JS.toList qB JR)) λ_ h3 =>
   T.get h3.tr h2.next=some (.loop false fn.ntmps env JS.toList qB JR)/\WP C fn.ntmps pt E2 (h3.put h2.next none) λex E4 h4=>(match ex with|.exit _=>False|_=>True)/\∃v,resLE C.P E4 h4 fn.results.toList=some v/\R v h4): CallsR C.P f args h R:=by
 intro c w q_ nj;have vB:=jm (c:=c) hle nj;obtain⟨N1,ex1,ahi,h1,E1,a1,a2,rfl,ov⟩:=hw _ (uc args);obtain⟨N2,vK,y6,h2,E2,b1,b2,rfl,cap,b4,m6⟩:=ov ahi a2;have m6:=m6 y6 b2;have hS1:=(uY (C:=C) hm hT N1).1;have hS2:=(uY (C:=C) hm hT N2).1;refine(callsIn_wide (n:=0)).1 (callsIn_of_wp_marks (F:=Fence.wide) hf hb aa ?_ U);rw[afL];refine wpIn_seq (wpIn_mono (hS1 pa _ .normal _ a1 none c _ w q_ vB) ?_);rintro e En uW ⟨rfl,Za,c₁,K4,xh,pz⟩;refine wpIn_seq (wpIn_seq (wpIn_mono (hS2 pb _ .normal _ b1 none c₁ En uW K4 xh) ?_));rintro e Kf I ⟨rfl,af7,c₂,K5,F5,Jf⟩;have aiY:Kf.defers=[]:=Q;obtain⟨ex1,vK⟩:=Ab F5 (bX b2 b4);have KZ:∀z∈cap,wf c₂ z:=by
  grind[wf,iR]
 have hN:h2.next=c₂.N:=K5.next
 obtain⟨rA,dS⟩:=K5.below (w':=I.alloc (.deferred (some []))) ((Below.refl _ I).alloc (az _) _);have hDA:(I.alloc (.deferred (some []))).heap[I.heap.size]?=some (.deferred (some [])):=World.alloc_heap_new I _;have ahj:∀id,id<c₂.N->(c₂.ρ id).1≠I.heap.size:=λid hi he=>absurd (K5.lP id hi) Y;refine wpIn_block (wpIn_rangeFunc (λfn' _=>?_));obtain⟨a7,hO⟩:∃a7:Go.Obj,a7=.loop { state:=.ready,pending:=none,fn:=fn',tmps:=Kf.tmps,params:=JS,assign:=qB,body:=JR,defers:=I.heap.size }:=⟨_,U⟩;have ahk:(I.alloc (.deferred (some []))).heap.size=I.heap.size+1:=World.size_alloc _ _;have hob:objSize a7=0:=by rw[hO];rfl
 have eG:=Fb rA 0 (objSize a7);obtain⟨rB,stB⟩:=rA.new (.loop false fn.ntmps y6 JS.toList qB JR) a7 0 U (by
  refine⟨fn',Kf.tmps,I.heap.size,?_,F5.size,λt=>?_,λt=>(bT eG _ (F5.uS t)).2⟩
  .rw[bF,hO];exact World.alloc_heap_new _ _
  .rw[F5.val t,(bT eG _ (F5.uS t)).1])
 obtain⟨cB,hcB⟩:∃cB,cB=c₂.grow (I.alloc (.deferred (some []))).heap.size 0 (objSize a7):=⟨_,U⟩;rw[<-hcB] at rB stB eG;have ah8:cB.ρ c₂.N=(I.heap.size+1,0):=by rw[hcB,bF,ahk]
 have hNB:cB.N=c₂.N+1:=by rw[hcB];rfl
 have kc:=m6 cB _ rB (by
  intro z hz;rcases List.mem_cons.1 hz with rfl|hz
  .simp only[wf];omega
  .exact(bT eG _ (KZ z hz)).2)
 refine⟨I.heap.size+1,[{ target:=.collected I.heap.size,args := #[] }],(I.alloc (.deferred (some []))).alloc a7,{ target:=.fn (.func g) (cap.map (conc c₂)).toArray,args := #[.func (.yield (I.heap.size+1)) #[] #[]] },(I.alloc (.deferred (some []))).alloc a7,g,
  #[.func (.yield (I.heap.size+1)) #[] #[]]++(cap.map (conc c₂)).toArray,(I.alloc (.deferred (some []))).alloc a7,?_,?_,λ_ _=>trivial,?_,?_,?_⟩
 .simp_all[run_enterLoop_outer]
 .have qI:Kf.eval px=.func (.func g) #[] (cap.map (conc c₂)).toArray:=by grind[conc,fI]
  simp only[resolve,rangeCall,qI];simp[go_sem,Act.eval]
 .simp[invoke,go_sem,hen]
 .intro hd;exact absurd hd O
 .have yf:((V.BP h2.next::cap).map (conc cB)).toArray = #[.func (.yield (I.heap.size+1)) #[] #[]]++(cap.map (conc c₂)).toArray:=by
   grind[conc,nh]
  rw[yf] at kc;refine Ff (r:=none) (Calls.mono kc ?_);rintro e ag5 ⟨UI,u,Qy,⟨Z7,htl⟩,rfl,_,abI,ad_⟩;rw[hN] at Z7;have aiZ:c₂.N<UI.N:=abI.live _ _ Z7;have ah9:UI.ρ c₂.N=(I.heap.size+1,0):=by rw[ad_.ext.ρ c₂.N Y,ah8]
  obtain⟨af_,Z8,ah_,aea,_⟩:=abI.obj c₂.N _ Z7;obtain⟨ahl,aeb⟩:=abI.endLoop (r:={ state:=.exhausted,pending:=none,fn:=af_,tmps:=Z8,params:=JS,assign:=qB,body:=JR,defers:=ah_ }) Z7 cb aea;rw[ah9] at aea ahl aeb;refine⟨none,_,run_endLoop aea cb,?_⟩;obtain⟨Yh,aga⟩:∃Yh,Yh=ag5.putObj (I.heap.size+1) (.loop { state:=.exhausted,pending:=none,fn:=af_,tmps:=Z8,params:=JS,assign:=qB,body:=JR,defers:=ah_ }):=⟨_,U⟩;rw[<-aga] at ahl aeb;have Z9:cq c₂ I UI Yh:=((dS.trans stB).trans ad_).trans aeb;have nB:∀id,id<cB.N->(cB.ρ id).1≠I.heap.size:=λid hi=>by
   by_cases h1:id<c₂.N
   .rw[eG.ρ id h1];exact ahj id h1
   .grind
  have hDB:((I.alloc (.deferred (some []))).alloc a7).heap[I.heap.size]?=some (.deferred (some [])):=by
   grind[iL]
  have ahm:I.heap.size<((I.alloc (.deferred (some []))).alloc a7).heap.size:=(Array.getElem?_eq_some_iff.1 hDB).1;obtain⟨ai0,ai1⟩:=ad_.PX ahm nB;have ajk:ag5.heap[I.heap.size]?=some (.deferred (some [])):=ai1.trans hDB;have agb:Yh.heap[I.heap.size]?=some (.deferred (some [])):=by grind[World.putObj_heap_other]
  have ag1:dA UI y6 fn.ntmps { Kf with defers:=[{ target:=.collected I.heap.size,args := #[] }]++Kf.defers }:=(F5.ext Z9.ext).defers _;obtain⟨N4,ex4,Yi,h4,E4,d1,d2,hx,v,sN,hR⟩:=htl y6 b2;have hS4:=(uY (C:=C) hm hT N4).1;have fin:∀(J:Ctx) (Yj:Act) (RG:World),Rel J h4 RG->dA J Yi fn.ntmps Yj->cq UI Yh J RG->Yj.defers=[{ target:=.collected I.heap.size,args := #[] }] ->
    LeavesInM Fence.wide 0 C.P fn Yj.tmps (λe w'=>∃c' v c5,R v c5/\e=.returned (conc c' v)/\wf c' v/\Rel c' c5 w'/\cq c w c' w') Yj.defers .returning RG:=by
   intro J Yj RG ahn aho Z_ ahp;have ahq:I.heap.size<Yh.heap.size:=(Array.getElem?_eq_some_iff.1 agb).1;obtain⟨ai2,ai3⟩:=Z_.PX ahq ai0;have aia:RG.heap[I.heap.size]?=some (.deferred (some [])):=ai3.trans agb;have ai4:Rel J h4 (RG.putObj I.heap.size (.deferred none)):=ahn.other ai2;have TF:cq c w J (RG.putObj I.heap.size (.deferred none)):=(((pz.trans Jf).trans Z9).trans Z_).ad9 (b7 pz.size Jf.size);rw[ahp];refine⟨cb,.inl ⟨I.heap.size,_,U,run_takeDeferred aia,?_⟩⟩;unfold resLE at sN;cases Ey:mapO (resE C.P E4 h4) fn.results.toList with
   |none=>grind
   |some vs =>
    rw[Ey] at sN;have yn:=wN (P:=C.P) (s:=⟨Yi,fn.ntmps,h4⟩) d2 Ey;obtain⟨t1,t2⟩:=nU (s:=⟨Yi,fn.ntmps,h4⟩) ai4 aho yn;refine⟨_,t1,J,v,h4,hR,?_⟩;match vs,sN with
    |[],sN =>
     grind[wf,gj,conc,concL]
    |[x],sN =>
     grind
    |x::y::l,sN =>
     grind[wf,iR,conc,fI]
  rw[<-aga];rw[hN] at d1;refine wpIn_mono (hS4 pt _ ex4 _ d1 none UI _ Yh ahl ag1) ?_;rintro e Yj RG ⟨rfl,ajl,J,ahn,aho,Z_⟩;have:=fin J Yj RG ahn aho Z_ Q;cases ex4 with
  |normal=>exact this
  |exit i=>grind
  |ret=>exact this
end
end Go.Proofs.YtiojppeahfoiaaaGreat.Am
namespace Go.Proofs.YtiojppeahfoiaaaGreat.Am
open Go Proofs.Tryz
variable {L:lp} {ops:Array Oper} {X aw:aH} {wb wp:Bool} {cap:Cap} {C:eP} {cd qB code:Code} {c':Ctx} {δ:Dk} {ε aj:bn} {pg:bn->Int->List Nat} {env:Env} {a8:Ex->List (Nat×V)->H->Prop} {fn:Func} {cl:Go.Call} {h h' σ:H} {e:Int} {μ:Lg} {now:List (Int×List Nat)} {E:List (Nat×V)} {S:List aH} {ao:List Bool} {bw:List cU} {ks:List Int} {data l cO l' l1 l2 seen mk:List Nat} {args rest cs ds Rt:List V} {n tx pv nx x a b q g r aF c i j N k B dn id a' b' f ex d M Aq c0 aL ba ck rr pn b0 b2:Nat} {o:Oper} {y:Operand} {P:Program} {A:mo} {t:TypeId} {dt av rv uv z u v2 dv cv wt fv kv mv xK:V} {R:V->H->Prop} {w':World}
def l8 (l:List (Nat×Nat)): Nat:=(l.map (·.2)).foldr (· + ·) 0
theorem MY {a b:List (Nat×Nat)}: l8 (a++b)=l8 a+l8 b:=by
 induction a<;>grind[l8]
theorem UZ : ∀ {l:List (Nat×Nat)} {i:Nat} {d:Nat×Nat},l[i]?=some d->l8 (l.take (i+1))=l8 (l.take i)+d.2:=by
 grind[List.take_succ_eq_append_getElem,MY,l8]
def qZ (dn:List (Nat×Nat))(k:Nat): Nat:=128+l8 dn+(if dn=[] then 0 else 560*(k+8))
structure Grow (h h':H)(k:Nat): Prop where
 next:h'.next=h.next+k
 get:∀i,i<h.next->T.get h'.tr i=T.get h.tr i
theorem Grow.trans {I:H}(a:Grow h h' i)(b:Grow h' I j): Grow h I (i+j) :=
 ⟨by rw[b.next,a.next];omega,λk J=>by rw[b.get k (by rw[a.next];omega),a.get k J]⟩
section
variable {told:bU} {m:Nat}
noncomputable def coL : Code:=aV [1,1,0,1,0,0] ((f143.body).getD .skip)
theorem RH {dn:List (Nat×Nat)}(hs:l8 dn<=1099511627776)(hl:dn.length<=1048576){t0:V}: ∀(j i:Nat) (h:H) (E:List (Nat×V)) (a8:Ex->List (Nat×V)->H->Prop),i+j=dn.length->Sat h (eC 2 dv (lZ dn)::S) ->
  Has E [(0,t0),(3,.int .i64 ((128+l8 (dn.take i):Nat):Int)),(9,dv),(10,.int .i64 (dn.length:Int)),(11,.int .i64 (i:Int))] ->
  (∀E' h',Grow h h' j->Has E' [(0,t0),(3,.int .i64 ((128+l8 dn:Nat):Int))]->Sat h' (eC 2 dv (lZ dn)::S)->a8 (.exit 0) E' h') ->
  WP ⟨prog,told⟩ 36 (.loop coL) E h a8:=by
 intro j;induction j with
 |zero =>
  intro i h E a8 hi s I hq;obtain rfl:i=dn.length:=Y;rw[zX] at I;exact WP.loop (WP.has I (zg U (zC U aG cb<|zk 3 U (WP.exit (hq _ _ ⟨U,λ_ _=>U⟩ ⟨U,U,aa⟩ s)))))
 |succ j ih =>
  intro i h E a8 hi s I hq;obtain⟨d,hd⟩:∃d,dn[i]?=some d:=⟨_,aI Y⟩;have dG:=UZ hd;have hle:l8 (dn.take (i+1))<=l8 dn:=by
   grind[List.take_append_drop,MY]
  obtain⟨vp,off,e1,J,_⟩:=s.JQ (P:=prog) (j:=0) (i:=i) (k:=2) U (by rw[kE];omega) O nH v8;have J:=J Gx;rw[Eg hd] at J;refine WP.loop (WP.has I (zg U (zB U aG Q<|zk 5 U (WP.block (zg U (zo U (aJ (.ptr vp off) U U e1) (zl U J (zo U (bK Gy) ?_))))))));have s1:=s.new (.cells 2 [.int .u64 0,.int .i64 0] false);have e3:=ZO (P:=prog) (t:=185) (l:=[.int .u64 (d.1:Int),.int .i64 (d.2:Int)]) (s1.row (k:=0) U) v8 U U U;have s2:=s1.put (o':=.cells 2 [.int .u64 (d.1:Int),.int .i64 (d.2:Int)] false) (k:=0) U;dsimp only[setA] at s2;have hg:Grow h ((h.new (.cells 2 [.int .u64 0,.int .i64 0] false)).put h.next (some (.cells 2 [.int .u64 (d.1:Int),.int .i64 (d.2:Int)] false))) 1:=⟨U,λi hi=>by grind[cX,fu]⟩
  refine aq.SV U U (wO U U e3) ?_;have s:=s2;exact zk 3 U (zY s 0 aaI cW U (zo U (ag (r:=.int .i64 ((128+l8 (dn.take (i+1)):Nat):Int)) U U (by grind[aT,ay]))<|za U (zv (zr U (zb U (by exact aT ay)<|zm U (zv<|ih (i+1) _ _ a8 Y s.drop ⟨U,U,U,U,U,aa⟩ λE' h' hg' fg s'=>hq E' h' (by have:=hg.trans hg';grind) fg s'))))))
theorem Yk (hs:l8 A.dn<=1099511627776)(hd:A.dn.length<=1048576)(hp:A.pg.length<=1048576)(hT:W told)(s:Sat h (rG r id A::S)): Call ⟨prog,told⟩ 143 [.ptr r 0] h λv h'=>v=.int .i64 (qZ A.dn A.pg.length:Int)/\Grow h h' A.dn.length/\Sat h' (rG r id A::S):=by
 obtain⟨mv,dv,pv,s⟩:=iI.1 s;have s:=s.ae [2];refine Call.of_wp (hT.free _ U) func143 U U (zK 13 U (zY s 1 ug Gw U (zo U (aO U U U (s.y8 (n:=A.dn.length) (j:=0) U (kE _) O nH))<|zk 2 U (WP.block (RH hs hd A.dn.length 0 _ _ _ Y s ⟨U,U,U,U,U,aa⟩ λE' h' J I s'=>?_)))));have s:=s';refine WP.has I (zK 5 U (zY s 1 ug Gw U (zo U (aO U U U (s.y8 (n:=A.dn.length) (j:=0) U (kE _) O nH)) ?_)));have fin:∀ {h:H},Sat h (eC 2 dv (lZ A.dn)::pt r (.cells 7 (l7 id A.fst A.cx A.jT mv dv pv) false)::eC 1 mv (aK A.j9)::xL pv A.pg::S)->Sat h (rG r id A::S):=λs=>iI.2 ⟨mv,dv,pv,s.ae [1,1,0]⟩;by_cases h0:A.dn=[]
 .skip;exact zC U dc Q<|zk 8 U (zR U ⟨by rw[qZ,bk h0];rfl,J,fin s⟩)
 .have h1:0<A.dn.length:=List.length_pos_iff.2 h0;exact zB U dc Q<|zk 6 U (zY s 1 Ip QJ U (zo U (aO U U U ((Fq (s.ae [3]) MF).trans (by rw[cL])))<|zo U (ag (r:=.int .i64 ((A.pg.length+8:Nat):Int)) U U (by grind[aT,ay]))<|zo U (ag (r:=.int .i64 ((560*(A.pg.length+8):Nat):Int)) U U (by grind[jM,ay]))<|zo U (ag (r:=.int .i64 (qZ A.dn A.pg.length:Int)) U U (by grind[qZ,aT,ay]))<|zk 7 U (zR U ⟨U,J,fin s⟩)))
end
def sumV : List V->Nat
 |_::.int _ k::l=>k.toNat+sumV l
 |_=>0
theorem abS : ∀l:List (Nat×Nat),sumV (lZ l)=l8 l:=by
 intro l;induction l<;>grind[sumV,lZ,l8]
noncomputable def costR (h:H)(u:V): Option (Nat×Nat):=match u with
 |.ptr r 0=>match T.get h.tr r with
  |some (.cells 7 [_,_,_,_,_,dv,.map pid] false)=>match srcV h 2 dv,T.get h.tr pid with
   |some (cs,n),some (.map es _)=>some (128+sumV cs+(if n=0 then 0 else 560*(es.length+8)),n)
   |_,_=>none
  |_=>none
 |_=>none
noncomputable def wC (h:H)(e:Int×V×Nat): Nat:=((costR h e.2.1).getD (0,0)).1
noncomputable def wK (h:H)(e:Int×V×Nat): Nat:=((costR h e.2.1).getD (0,0)).2
def sumF (f:Int×V×Nat->Nat): cg->Nat
 |[]=>0
 |e::l=>f e+sumF f l
def pq (f:Int×V×Nat->Nat)(seen:List Nat): cg->Nat
 |[]=>0
 |e::l=>cond (inL seen e.2.2) 0 (f e)+pq f seen l
theorem JT {f:Int×V×Nat->Nat}: ∀ {l:cg},pq f [] l=sumF f l:=by
 intro l;induction l<;>grind[pq,sumF,inL]
theorem U0 {f:Int×V×Nat->Nat}: ∀ {l:cg},(∀e∈l,inL seen e.2.2=true)->pq f seen l=0:=by
 intro l;induction l<;>grind[pq]
theorem OA {f:Int×V×Nat->Nat}: ∀ {l:cg},(∀e∈l,e.2.2≠b)->pq f (seen++[b]) l=pq f seen l:=by
 intro l;induction l<;>grind[pq,iV,eE]
theorem Hx {f:Int×V×Nat->Nat}: ∀ {l:cg} {b:Nat} {e:Int×V×Nat},eU c b l->e∈l->inL seen e.2.2=false->pq f (seen++[e.2.2]) l+f e=pq f seen l:=by
 intro l;induction l with
 |nil=>simp
 |cons y l ih =>
  intro b e I he hs;rcases List.mem_cons.1 he with rfl|he
  .simp only[pq,iV,hs,fM,Bool.or_true,ak,bq];rw[OA λe' J=>by have:=jO I.2.2 e' J;omega];omega
  .have:=jO I.2.2 e he;simp only[pq,iV,eE (show e.2.2≠y.2.2 by omega),Bool.or_false];have:=ih I.2.2 he hs;omega
def AA (args:List V)(h:H)(r:V×H): Prop:=∃m cs mid es clock,args=[.ptr m 0]/\T.get h.tr m=some (.cells 4 cs false)/\nth cs 2=some (.map mid)/\T.get h.tr mid=some (.map (es.map (g9 .u64)) clock) /\
 r=(.int .i64 ((256+sumF (wC h) es:Nat):Int),⟨h.next+1+sumF (wK h) es,h.tr⟩)
def me (x:Nat×Nat×mo): Nat:=qZ x.2.2.dn x.2.2.pg.length
def jY (L:lp): Nat:=256+(L.map me).foldr (· + ·) 0
def vq (L:lp): Prop:=L.length<=1048576/\∀x∈L,l8 x.2.2.dn<=1048576/\x.2.2.dn.length<=1048576/\x.2.2.pg.length<=1048576
section
variable {m:Nat}
theorem MZ (s:Sat h (rG r id A::S)): costR h (.ptr r 0)=some (qZ A.dn A.pg.length,A.dn.length):=by
 obtain⟨mv,dv,pv,s⟩:=iI.1 s;have g1:=s.row (k:=0) U;obtain⟨n,hn,I⟩:=s.ag9 (j:=2) U;obtain⟨pid,es,c,rfl,hb,mh,s1⟩:=j6.1 (s.ae [3]);have g2:=s1.row (k:=0) U;obtain⟨qa,qb,q1,q2,q3⟩:=s1.at (k:=1) U;have hk:=gY List.length (qn q3);rw[kE] at hn;have J:n=A.dn.length:=Y;subst J;simp only[cL] at hk;simp only[costR,g1,l7,I,g2,abS,cL,hk,qZ];cases A.dn<;>simp
noncomputable def keA : Code:=aV [0] ((f76.body).getD .skip)
noncomputable def keB : Code:=aV [1,0] ((f76.body).getD .skip)
noncomputable def keC : Code:=aV [1,1,0,0] ((f76.body).getD .skip)
noncomputable def keN : Code:=aV [1,1,0,1,0,0,0] ((f76.body).getD .skip)
noncomputable def keD : Code:=aV [1,1,0,1,0,0,1,1,0] ((f76.body).getD .skip)
noncomputable def keE : Code:=aV [1,1,1] ((f76.body).getD .skip)
theorem Yl : f76.body=some (.seq keA (.seq keB (.seq (.seq keC (.block 0 (.loop (.seq keN (.seq (.cond (.tmp 12) .skip (.exit 0)) (.block 1 keD)))))) keE))):=rfl
theorem abT : ∃id I J,keN=.region id #[I,J] false/\I.guard=none/\J.guard=none/\I.op=.next (.tmp 10) false/\I.dst=some 11/\J.op=.extract (.tmp 11) 0/\J.dst=some 12:=⟨_,_,_,U,U,U,U,U,U,U⟩
def keJ (h₀:H)(it mid clock:Nat)(es:cg)(L:lp)(S:List aH)(j:Nat)(E:List (Nat×V))(h:H): Prop :=
 ∃seen k c,Has E [(3,.int .i64 ((256+c:Nat):Int)),(10,.ptr it 0)]/\j=(leftV seen (es.map (g9 .u64))).length/\c+pq (wC h₀) seen es=sumF (wC h₀) es/\Grow h₀ h (1+k)/\k+pq (wK h₀) seen es=sumF (wK h₀) es /\
  Sat h (pt it (.iter mid clock clock seen)::iH .u64 mid es clock::mc L::S)
theorem U1 {h₀:H}{it mid clock:Nat}{es:cg}(Cy:h₀.next<=it)(hb:eU clock 0 es)(hs:sumF (wC h₀) es<=4611686018427387904)(kB:∀x∈L,l8 x.2.2.dn<=1048576/\x.2.2.dn.length<=1048576/\x.2.2.pg.length<=1048576)
 (he:∀e∈es,∃(i:Nat) (x:Nat×Nat×mo),L[i]?=some x/\e.2.1=.ptr x.2.1 0/\costR h₀ e.2.1=some (me x,x.2.2.dn.length))(h0:keJ h₀ it mid clock es L S j E h):
  WPO CB 20 (.loop (.seq keN (.seq (.cond (.tmp 12) .skip (.exit 0)) (.block 1 keD)))) E h λex E' h'=>ex=.exit 0/\Has E' [(3,.int .i64 ((256+sumF (wC h₀) es:Nat):Int))]/\Grow h₀ h' (1+sumF (wK h₀) es):=by
 refine WPO.loop (keJ h₀ it mid clock es L S) ?_ h0;rintro j E h ⟨seen,k,c,hE,rfl,hc,hg,hk,s⟩;have g1:=s.row (k:=0) U;have g2:=s.row (k:=1) U;obtain⟨id,HY,Fc,q0,q1,q2,q3,q4,q5,q6⟩:=abT;refine WPO.seq ?_;rw[q0];have hL:=next_at g1 (az _) g2 hb;refine WPO.next cm bM q1 q2 q3 q4 q5 U q6 U U (r:=it) ?_ hL λq hq=>?_
 .exact hE.2.1
 .rcases xE g1 (az _) g2 hb hL q hq with⟨rfl,oP⟩|⟨e,I,EO,bY,rfl⟩
  .rw[U0 oP] at hc hk;refine⟨.bool false,[],U,WPO.seq (WPO.cond (t:=false) U<|WPO.of cm bM (WP.exit ⟨U,⟨?_,aa⟩,?_⟩))⟩
   .rw[<-hc];exact hE.1
   .grind
  .obtain⟨i,x,hx,hex,hcx⟩:=he e I;have hx3:=kB x (bz hx);have yc:wC h₀ e=me x:=by rw[wC,hcx];rfl
   have ov:wK h₀ e=x.2.2.dn.length:=by rw[wK,hcx];rfl
   have cS:=Hx (f:=wC h₀) hb I EO;have Zz:=Hx (f:=wK h₀) hb I EO;rw[yc] at cS;rw[ov] at Zz;refine⟨.bool true,_,U,WPO.seq (WPO.cond (t:=true) U<|WPO.of cm bM (WP.skip<|WPO.block (WPO.of cm bM ?_)))⟩;have s:=s.put (o':=.iter mid clock clock (seen++[e.2.2])) (k:=0) U;have hg:Grow h₀ (h.put it (some (.iter mid clock clock (seen++[e.2.2])))) (1+k):=⟨hg.next,λi hi=>by rw[cX,ax Y];exact hg.get i hi⟩
   generalize h.put it (some (.iter mid clock clock (seen++[e.2.2])))=h' at s hg;dsimp only[setA] at s;have g1:=s.row (k:=0) U;have g2:=s.row (k:=1) U;have J:=xD g1 g2 hb I;rw[hex] at J;have s:=(iJ hx).1 (s.ae [2]);dsimp only[bringA,getA,aB] at s;refine WP.has (F:=[(3,.int .i64 ((256+c:Nat):Int)),(10,.ptr it 0),(12,.bool true)]) ⟨hE.1,hE.2.1,U,aa⟩ (zg U (aq.any U U U (OpR.entry U U J) ?_));rintro v h ⟨rfl,rfl⟩;refine zk 6 U (zc U (Yk Y hx3.2.1 hx3.2.2 W.base s) ?_);rintro v h' ⟨rfl,hg',s⟩;rw[show qZ x.2.2.dn x.2.2.pg.length=me x from U];have s:=((iJ hx).2 s).ae [1,1,0];dsimp only[bringA,getA,aB] at s;exact zo U (ag (r:=.int .i64 ((256+(c+me x):Nat):Int)) U U (by grind[aT,ay]))<|za U (zv ⟨_,bY,seen++[e.2.2],k+x.2.2.dn.length,c+me x,⟨U,U,aa⟩,U,Y,by rw[<-z6];exact hg.trans hg',Y,s⟩)
theorem M1 {X:List aH}(hn:L.length<=1048576): ∀ {L:lp} {es:cg} {a b:PM},(fQ (λv (r:Nat)=>.pu (v=.ptr r 0)) es (L.map λe=>((e.1:Int),e.2.1))).p a b->(∀(i:Nat) (x:Nat×Nat×mo),L[i]?=some x->costR h (.ptr x.2.1 0)=some (me x,x.2.2.dn.length)) ->
  sumF (wC h) es=(L.map me).foldr (· + ·) 0/\sumF (wK h) es=(L.map λx=>x.2.2.dn.length).foldr (· + ·) 0/\∀e∈es,∃(i:Nat) (x:Nat×Nat×mo),L[i]?=some x/\e.2.1=.ptr x.2.1 0/\costR h e.2.1=some (me x,x.2.2.dn.length):=by
 intro L;induction L with
 |nil=>intro es a b q _;cases es with
  |nil=>exact⟨U,U,λe he=>by cases he⟩
  |cons e es=>exact q.elim
 |cons y L ih =>
  intro es a b q hc;cases es with
  |nil=>exact q.elim
  |cons e es =>
   obtain⟨⟨_,J⟩,q3⟩:=q;have J:e.2.1=.ptr y.2.1 0:=J;obtain⟨k1,k2,k3⟩:=ih q3 λi x hx=>hc (i+1) x Q;have h0:=hc 0 y U;refine⟨?_,?_,λe' I=>?_⟩
   .grind[sumF,wC]
   .grind[sumF,wK]
   .rcases List.mem_cons.1 I with rfl|I
    .exact⟨0,y,U,J,Q⟩
    .obtain⟨i,x,g1,g2⟩:=k3 e' I;exact⟨i+1,x,Q,g2⟩
theorem U2 (I:vq L)(s:Sat h (eL m a nx u L::S)):
  ∃r,AA [.ptr m 0] h r/\∀(c:Ctx) (w:World),Rel c h w->(∀x∈[V.ptr m 0],wf c x)->gd prog 76 [.ptr m 0] c w r.1 r.2:=by
 obtain⟨av,s⟩:=cD.1 s;obtain⟨mid,es,clock,rfl,hb,mh,s⟩:=fW.1 (s.ae [1]);have gm:=s.row (k:=0) U;have gp:=s.row (k:=2) U;obtain⟨qa,qb,q1,q2,q3⟩:=s.at (k:=1) U;have F6:∀(i:Nat) (x:Nat×Nat×mo),L[i]?=some x->costR h (.ptr x.2.1 0)=some (me x,x.2.2.dn.length):=λi x J=>MZ ((iJ J).1 (s.ae [3]));obtain⟨w1,w2,w3⟩:=M1 (X:=S) I.1 q3 F6;have B1:sumF (wC h) es<=4611686018427387904:=by
  have key:∀l:List Nat,(∀z∈l,z<=1048576000)->l.foldr (· + ·) 0<=1048576000*l.length:=by
   intro l;induction l<;>grind[List.mem_cons_self]
  have:=key (L.map me) λz hz=>by
   obtain⟨x,J,rfl⟩:=List.mem_map.1 hz;obtain⟨k1,k2,k3⟩:=I.2 x J<;>grind[me,qZ]
  have:=I.1;rw[cL] at *;omega
 refine⟨(.int .i64 ((256+sumF (wC h) es:Nat):Int),⟨h.next+1+sumF (wK h) es,h.tr⟩),⟨m,_,mid,es,clock,U,gp,U,gm,U⟩,λc w hr ha=>?_⟩
 refine gd.of_wpo (C:=CB) (args:=[.ptr m 0]) CZ Yl (show 1<=f76.ntmps by decide) ?_ hr ha;refine WPO.seq (WPO.of cm bM<|zr U (za U (zv<|WPO.seq (WPO.of cm bM<|zr U (za U (zv<|WPO.seq (WPO.seq (WPO.of cm bM ?_))))))));refine zK 3 U (zY s 2 iw kA U (aq.any U U U (OpR.range U U (show rangeV prog h 142 (.map mid)=some (.ptr h.next 0,h.new (.iter mid clock clock [])) by simp only[rangeV,tC,gm])) ?_))
 rintro v h' ⟨rfl,rfl⟩;refine zv ?_;have s7:=(s.new (.iter mid clock clock [])).ae [0,0,2];refine WPO.block ((U1 (h₀:=h) (es:=es) (L:=L) (az _) hb B1 (λx J=>I.2 x J) w3 ⟨[],0,0,⟨U,U,aa⟩,U,by rw[JT,f_],⟨U,λi hi=>by grind[fu]⟩,by rw[JT,f_],s7⟩).mono ?_);rintro ex E' h' ⟨rfl,fg,hg⟩;refine WPO.of cm bM (WP.has fg (zK 5 U (WP.ret ?_)));refine⟨aa,jk U,by rw[hg.next];show h.next+1+_=_;omega,λid o ho=>?_⟩
 have bY:id<h.next:=s.wf id o ho
 rw[hg.get id bY];exact ho
end
structure dw where
 kd:Nat
 tx:Nat
 pv:Nat
 nx:Nat
 data:List Nat
 bw:List cU
variable {ke vM rs:List dw}
def dw.bd (r:dw): List Nat:=cV r.kd r.tx r.pv r.nx r.data r.bw
def dw.len (r:dw): Nat:=8+r.bd.length
structure dw.Ok (r:dw): Prop where
 good:eH r.kd r.bw=true
 rd:Bd r.tx r.pv r.nx r.data r.bw
 len:r.bd.length<=1048576
theorem dw.Ok.kd {r:dw}(h:r.Ok): r.kd<256:=by
 have:=h.good;simp[eH] at this;omega
def logB : Nat->List dw->List Nat
 |_,[]=>[]
 |n,r::l=>mY n r.bd++logB (n+r.len) l
def jH : Nat->List dw->List Nat
 |_,[]=>[]
 |a,r::l=>a::jH (a+r.len) l
def aec (base aF:Nat)(rs:List dw): Lg:={ base:=base,b:=logB base rs,br:=jH 0 rs,forced:=(logB base rs).length,check:=aF }
theorem U3 (n:Nat)(b:List Nat): (mY n b).length=8+b.length:=by rw[lV]
abbrev Pgs := List (Int×List Nat)
structure Rdo where
 aU:Pgs
 ai5:List (Int×Nat)
variable {ρ:Rdo}
def szB : List dw->Nat
 |[]=>0
 |r::l=>r.len+szB l
theorem l9 : ∀ {rs:List dw} {n:Nat},(logB n rs).length=szB rs:=by
 intro rs;induction rs with
 |nil=>intro n;rfl
 |cons r rs I=>intro n;simp only[logB,szB,fL,U3,I];rfl
theorem hG {x y:List dw}: szB (x++y)=szB x+szB y:=by
 induction x<;>grind[szB]
theorem FK {y:List dw}: ∀ {x:List dw} {n:Nat},logB n (x++y)=logB n x++logB (n+szB x) y:=by
 intro x;induction x<;>grind[logB,szB]
theorem Bg {y:List dw}: ∀ {x:List dw} {a:Nat},jH a (x++y)=jH a x++jH (a+szB x) y:=by
 intro x;induction x<;>grind[jH,szB]
theorem JU : ∀ {rs:List dw} {a:Nat},(jH a rs).Pairwise (· < ·)/\∀s∈jH a rs,a<=s/\s<a+szB rs:=by
 intro rs;induction rs with
 |nil=>simp[jH]
 |cons r rs I =>
  grind[dw.len,jH,szB,List.pairwise_cons]
theorem Ym {base:Nat}{r:dw}: (aec base aF (ke++r::vM)).hasB (base+szB ke)=true:=by
 grind[Lg.hasB,aec,jH,Bg]
structure LR (B0 aF:Nat)(mk:List Nat)(rs:List dw)(x:LD): Prop where
 base:x.1.base=B0
 b:x.1.b=logB B0 rs
 br:x.1.br=jH 0 rs
 check:x.1.check=aF
 log:x.2.log=logB B0 rs
 alive:x.2.dead=false
 a_:x.2.a_<0
 mark:x.2.mark=mk
 sY:x.2.sY=none
 tail:x.2.tail=[]
 wait:∀w∈x.2.waiting,w.1<x.2.aU.length/\w.2.length=512
 rs:∀r∈rs,r.Ok
theorem wV (base aF:Nat)(mk:List Nat)(rs:List dw): nF (LR base aF mk rs):=by
 refine⟨λx n h=>?_,λx n b h=>?_⟩
 .unfold bL;split
  .exact h
  .have e:x.2.gR=(0,{ x.2 with bP:=x.2.log.length }):=by
    rw[Dk.gR,ax (by rw[h.alive];decide),ax (by have:=h.a_;omega),lY h.a_]
   rw[e,ax cb];exact⟨h.base,h.b,h.br,h.check,h.log,h.alive,h.a_,h.mark,h.sY,h.tail,h.wait,h.rs⟩
 .unfold Dk.dY;rw[ax (by rw[h.alive];decide)];split
  .exact h
  .rename_i I;rw[ax (by have:=h.a_;omega)];refine⟨h.base,h.b,h.br,h.check,h.log,h.alive,?_,h.mark,h.sY,h.tail,λw hw=>?_,h.rs⟩
   .show x.2.bZ.a_<0;rw[lY h.a_];exact h.a_
   .rcases List.mem_append.1 hw with hw|hw
    .exact h.wait w hw
    .rw[List.mem_singleton.1 hw];have I:=Classical.not_not.1 I;exact⟨by show n.toNat<x.2.aU.length;omega,I.2.2⟩
theorem RJ : 1<=(digits k n).length:=RA k n
theorem RK {kd:Int}: data.length<=(cV kd tx pv nx data bw).length/\bw.length<=(cV kd tx pv nx data bw).length:=by
 have:=MB bw;simp only[cV,fL,cK,eN];omega
def FT : VP:=λC d _=>∀n rec,lookL n d=some (rec,true)->∃b,C n b
section
theorem FT.A_ (N:Nat): qE N FT:=by
 refine⟨λε i f he hf h0 hc h=>?_⟩;have hs:(outF ε i).2.1=ε.1\/(outF ε i).2.1={ ε.1 with ai:=ε.1.ai.set i { f with changed:=false },bI:=dM f.bA (dirtRec ε.1 f.bA,false) ε.1.bI }:=by grind[outF]
 show FT (tA (outF ε i).2.1) (outF ε i).2.1.bI (outF ε i).2.2;rcases hs with e|e
 .rw[e];exact h
 .rw[e];intro n rec I;rw[mN] at I;by_cases J:f.bA=n
  .grind
  .rw[ax J] at I;obtain⟨b,j,y,hy,k1,k0,k2,k3⟩:=h n rec I;refine⟨b,j,y,?_,k1,k0,k2,k3⟩;grind
theorem FT.put (h:vw FT ε)(he:EC N ε){n:Int}{f:Fm}{b:List Nat}(hl:lookL n ε.1.aM=some (i:Int))(hf:ε.1.ai[i]?=some f)(h0:0<=n): vw FT (FE ε.1 n i f b aL,ε.2):=by
 have hi:=(List.getElem?_eq_some_iff.1 hf).1;have I:f.bA=n:=by
  obtain⟨_,j,x,uU,hx,Mc⟩:=he.lW n i hl<;>grind
 intro m rec hm;have hm:lookL m (dM n (dirtOf ε.1 n aL,true) ε.1.bI)=some (rec,true):=hm;rw[mN] at hm;by_cases J:n=m
 .subst J;exact⟨dW b aL,i,{ f with b:=dW b aL,changed:=true,pins:=0 },by exact mB hi,I,h0,U,U⟩
 .rw[ax J] at hm;obtain⟨c,j,y,hy,k1,k0,k2,k3⟩:=h m rec hm;refine⟨c,j,y,?_,k1,k0,k2,k3⟩;show(ε.1.ai.set i _)[j]?=some y;grind
theorem PtR.ft {l:List Int}(I:PtR now aL l ε e aj): EC N ε->ja ε->NW N now->(∀n∈l,0<=n/\n<N)->vw FT ε->vw FT aj:=by
 induction I with
 |nil ε=>simp
 |kP n l ε e b aj I he =>
  intro h h3 hn hl;have:=hl n iu;exact absurd ((I.ec h).2.2.1 this.1 this.2).1 he
 |bad n l ε b0 b aj I hb he =>
  exact λh h3 hn hl=>absurd ((I.put (b:=b) (aL:=aL) h3).2.2 (hn.look hb).1) he
 |put n l ε b0 b aj e nP I hb he ht ih =>
  intro h h3 hn hl hv;have J:=hl n iu;obtain⟨k1,k2,k3,k4⟩:=I.ec h;obtain⟨i,f,p1,p2,p3,p4,p5⟩:=I.at h3.pins;have hg:=hn.look hb;have e1:=A7 (aL:=aL) p1 p2 p3 hg.1;obtain⟨q1,q2⟩:=k1.put (aL:=aL) p1 p2 hg.1 hg.2 J.1 J.2;have OL:=(I.put (b:=b) (aL:=aL) h3).1;have GQ:vw FT aj:=(FT.A_ N).kP I h hv;have yq:=FT.put (b:=b) (aL:=aL) GQ k1 p1 p2 J.1;rw[e1] at ih OL;exact ih q1 OL hn (λm hm=>hl m (ki _ hm)) yq
end
theorem I1 (h:n<2097152): (digits 9 n).length<=3:=by
 grind[digits]
theorem C5 {L:Nat}{cs:List cU}{kd:Int}(hr:kD now (bj now) ε e cs aj)(I:NW N now)(hL:now.length<=L)(hN:N<=16384)(ht:tx<2097152)(hp:pv<2097152)(hx:nx<2097152)(hd:data.length<=9):
  (cV kd tx pv nx data cs).length<=520*L+32:=by
 have h1:=I1 ht;have h2:=I1 hp;have h3:=I1 hx;have h4:=IX (n:=data.length) Y;have h5:=yW cs.length;have h6:=hr.few I λn hm=>by have:=I.keys n (jF.1 hm);omega
 have J:(bj now).length<=L:=by
  rw[bj,(fB _).length_eq,cL];exact hL
 have J:=wu 520 J;simp only[cV,fL,cK,eN];omega
theorem LR.aed {base kd:Nat}{x:LD}{c:List cU}(h:LR base aF mk rs x)(hk:1<=kd)(hg:eH kd c=true)(ht:tx<2097152)(si:pv<2097152)(kC:nx<2097152)
 (ha:(bx x kd tx pv nx data c).1.2=0): (bx x kd tx pv nx data c).1.1=base+szB rs/\dw.Ok ⟨kd,tx,pv,nx,data,c⟩/\LR base aF mk (rs++[⟨kd,tx,pv,nx,data,c⟩]) (bx x kd tx pv nx data c).2:=by
 rcases jh x kd tx pv nx data c with⟨e,he,_,hq⟩|⟨_,hf,_⟩|⟨_,hb,hd,fJ,hf,hq⟩
 .grind
 .grind
 .rw[lY h.a_] at hq;have aib:=RK (kd:=kd) (tx:=tx) (pv:=pv) (nx:=nx) (data:=data) (bw:=c);have hr:(dw.mk kd tx pv nx data c).Ok:=⟨hg,⟨Q,Q,Q,Q,Q⟩,hb⟩;have hl:(logB base rs).length=szB rs:=l9;have hn:dZ x.1 kd tx pv nx data c=mY (base+szB rs) (dw.mk kd tx pv nx data c).bd:=by rw[dZ,h.base,h.b,hl];rfl
  have J:logB base (rs++[dw.mk kd tx pv nx data c])=logB base rs++dZ x.1 kd tx pv nx data c:=by grind[FK,logB]
  have hof:jH 0 (rs++[dw.mk kd tx pv nx data c])=jH 0 rs++[szB rs]:=by rw[Bg,f_];rfl
  refine⟨by rw[hq];rw[h.base,h.b,hl],hr,?_⟩;rw[hq];refine⟨h.base,?_,?_,h.check,?_,h.alive,h.a_,h.mark,h.sY,h.tail,h.wait,λr I=>?_⟩
  .show x.1.b++_=_;rw[h.b,J]
  .show x.1.br++[x.1.b.length]=_;rw[h.br,h.b,hl,hof]
  .grind[log]
  .rcases List.mem_append.1 I with I|I
   .exact h.rs r I
   grind
theorem I2 {x:LD}{kd:Int}{c:List cU}: (bx x kd tx pv nx data c).2.2.room=x.2.room:=by
 rcases jh x kd tx pv nx data c with⟨e,_,_,I⟩|⟨_,_,I⟩|⟨_,_,_,_,_,I⟩<;>rw[I]<;>rfl
structure TxI (N B M ba ck:Nat)(mk:List Nat)(rs:List dw)(ε:bn): Prop where
 ei:EI N B ε
 lr:LR ba ck mk rs ε.2
 rm:ε.2.2.room=M
 ft:vw FT ε
theorem TxI.len (h:TxI N B M ba ck mk rs ε): ε.2.2.log.length=szB rs:=by
 rw[h.lr.log,l9]
theorem TxI.sm (h:TxI N B M ba ck mk rs ε)(hi:EI N B aj)(hs:Sm N ε aj): TxI N B M ba ck mk rs aj :=
 ⟨hi,hs.2.1 _ ((wV ba ck mk rs).A_ N) h.lr,by rw[((EU.sm (K:=ε.2.2.log.length) ⟨az _,U⟩ hs).2)];exact h.rm,hs.2.1 _ (FT.A_ N) h.ft⟩
theorem TxI.done {L kd:Nat}{cl:Bool}(h:TxI N B M ba ck mk rs ε)(hr:DnR ε now kd tx pv nx data 0 aL e cl aj)(hB:B<=1000)(hw:NW N now)(hL:now.length<=L)(hL2:L<=1000)(hN:N<=1024)
 (h1:1<=kd)(h2:kd<=7)(va:tx<2097152)(si:pv<2097152)(kC:nx<2097152)(hd:data.length<=9)(hf:szB rs+520*L+40<=M):
  cl=true/\e=0/\aL=ba+szB rs/\(∀m,pgA aj m=match lookL m now with|some b=>dW b aL|none=>pgA ε m)/\∃c,(dw.mk kd tx pv nx data c).len<=520*L+40/\TxI N (B+2) M ba ck mk (rs++[⟨kd,tx,pv,nx,data,c⟩]) aj:=by
 have vX:∀n∈bj now,0<=n/\n<N:=λn hq=>hw.keys n (jF.1 hq);have Rw:=h.ei.done Y hw Y Y hr;have Rj:=h.len;have Jd:=h.rm;have fJ:∀ {c:List cU} {aj:bn} {e:Int},kD now (bj now) ε e c aj->eH kd c=true:=λJ=>by
  refine FF ⟨Y,Y⟩ (J.fit (λx hx=>iU (hw.good x hx).1) λn hq=>?_)<;>grind
 cases hr with
 |arg hh=>omega
 |dead _ _ _ hd=>omega
 |qz e c aj _ _ _ _ J BG=>exact absurd (J.ec h.ei.ec h.ei.ok vX).2.2 BG
 |app c I _ _ _ _ J BG =>
  have yy:=C5 (kd:=kd) (tx:=tx) (pv:=pv) (nx:=nx) (data:=data) J hw hL Y va si kC hd;have hP:=(og ε.2.2.log.length ε.2.2.room).ch J ⟨U,U⟩;grind[jh,dZ,lV]
 |put c I e Hj _ _ _ _ J ha hp =>
  rcases Rw with⟨jE,_⟩|⟨_,he,hi,ig⟩
  .grind
  .have yy:=C5 (kd:=kd) (tx:=tx) (pv:=pv) (nx:=nx) (data:=data) J hw hL Y va si kC hd;have hP:=(og ε.2.2.log.length ε.2.2.room).ch J ⟨U,U⟩;obtain⟨k1,k2,k3⟩:=((wV ba ck mk rs).ch J h.lr).aed h1 (fJ J) va si kC ha;rw[he,bk U] at ig;have S7:(bx I.2 kd tx pv nx data c).2.2.room=I.2.2.room:=I2;have hr3:=((og (bx I.2 kd tx pv nx data c).2.2.log.length (bx I.2 kd tx pv nx data c).2.2.room).pt hp ⟨U,U⟩).2;obtain⟨c1,_,_⟩:=J.ec h.ei.ec h.ei.ok vX;obtain⟨hA,_⟩:=(EI.app (kd:=kd) (tx:=tx) (pv:=pv) (nx:=nx) (data:=data) (c:=c) (show EI N B I from⟨J.mQ h.ei.ok,c1,J.el h.ei.el,b7 J.cC h.ei.cC⟩) Y (fJ J));have hf2:vw FT I:=(FT.A_ N).ch J h.ei.ec h.ei.ok h.ft;have hft:vw FT (I.1,(bx I.2 kd tx pv nx data c).2):=hf2;refine⟨U,he,Q,Q,c,?_,hi,(wV ba ck mk _).pt hp k3,Y,hp.ft hA.ec hA.ok hw vX hft⟩;show 8+(cV kd tx pv nx data c).length<=_;omega
structure WK (told:bU): Prop where
 w:W told
 kp:told 76=some (iE prog 76 AA)
theorem M3 (I:L[i]?=some (id,rr,A)): ((L.map λe=>((e.1:Int),e.2.1)).map (·.1)).Nodup->lookL (id:Int) (L.map λe=>((e.1:Int),e.2.1))=some rr:=by
 induction L generalizing i<;>grind[lookL]
theorem Sat.later (s:Sat h S)(I:h.next<=n): Sat ⟨n,h.tr⟩ S:=⟨λid o J=>gW (s.wf id o J) I,s.ok⟩
theorem EI.qz {c:List cU}(h:EI N B ε)(hw:NW N now)(I:kD now (bj now) ε e c aj): EI N B aj/\Sm N ε aj/\e=0:=by
 obtain⟨k1,k2,J⟩:=I.ec h.ec h.ok λn hn=>hw.keys n (jF.1 hn);exact⟨⟨I.mQ h.ok,k1,I.el h.el,b7 I.cC h.cC⟩,⟨k2,λP hP hv=>hP.ch I h.ec h.ok hv,I.cC⟩,J⟩
theorem M4 {A':mo}(I:L[i]?=some (id,rr,A)): ((L.set i (id,rr,A')).map λe=>((e.1:Int),e.2.1))=L.map λe=>((e.1:Int),e.2.1):=by
 apply rJ;grind
def Bh (l:List Int)(k:Int): List Int:=if k∈l then l else l++[k]
def mo.more (A:mo)(aL cost:Nat)(ks:List Int): mo:=⟨if A.fst=0 then aL else A.fst,aL,aL,A.j9,A.dn++[(aL,cost)],ks.foldl Bh A.pg⟩
theorem U4 {k:Int}: ∀ {l:List Int},dM k () (l.map λn=>(n,()))=(Bh l k).map λn=>(n,()):=by
 intro l;induction l<;>grind[dM,Bh]
theorem abU : ∃i,prog.info? 185=some i/\i.size=2/\i.bytes<=4096 :=
 ⟨_,(show prog.info? 185=some ((prog.info? 185).getD default) by kernel_rfl),bo,pX bo⟩
theorem RL {kd:Int}(hd:View h dv l): buildV prog 104 [(0,.int .i64 kd),(1,.int .u64 (tx:Int)),(2,.int .u64 (pv:Int)),(4,dv)]=some (.agg (ep kd tx pv 0 dv .aP)):=by
 rcases hd.2 with⟨rfl|⟨I,rfl⟩,_⟩|⟨id,off,cap,n,cs,st,rfl,_⟩
 .rw[vY];rfl
 .rw[vY];rfl
 .rw[vY];rfl
section
variable {told:bU} {p m kd:Nat}
theorem PY (hT:WK told)(I:vq L)(s:Sat h (eL m a nx u L::S)): Call ⟨prog,told⟩ 76 [.ptr m 0] h λv h'=>v=.int .i64 (jY L:Int)/\Sat h' (eL m a nx u L::S):=by
 obtain⟨r,h1,h2⟩:=U2 I s;obtain⟨r,h3,h4⟩:=mP h1 h2;refine⟨r.1,r.2,eY.told hT.kp CZ U h3,?_⟩;obtain⟨m',cs,Xr,es',aee,J,g1,g2,g3,rfl⟩:=h4;injection J with J _;injection J with J _;subst J;obtain⟨av,s1⟩:=cD.1 s;obtain⟨mid,es,clock,rfl,hb,mh,s1⟩:=fW.1 (s1.ae [1]);have e2:=od (s1.row (k:=2) U) g1;injection e2 with _ e2 _;subst e2;have g2:=fY g2;injection g2 with g2;subst g2;have e3:=od (s1.row (k:=0) U) g3;injection e3 with e3 e4;have ahr:∀ {l l':cg},l.map (g9 .u64)=l'.map (g9 .u64)->l=l':=by
  intro l;induction l with
  |nil=>simp
  |cons y l ih =>
   intro l' h;cases l'<;>grind[g9]
 have e3:=ahr e3;subst e3;obtain⟨qa,qb,q1,q2,q3⟩:=s1.at (k:=1) U;have F6:∀(i:Nat) (x:Nat×Nat×mo),L[i]?=some x->costR h (.ptr x.2.1 0)=some (me x,x.2.2.dn.length):=λi x hx=>MZ ((iJ hx).1 (s1.ae [3]));obtain⟨w1,_,_⟩:=M1 (X:=S) I.1 q3 F6;refine⟨by rw[w1];rfl,?_⟩;exact s.later Y
theorem gdoneT_ct (hT:W told)(hB:B<=900)(h:TxI N B M ba ck mk rs ε)(ox:ba+szB rs<=1000000000)(hw:NW N now){l:Nat}(hL:now.length<=l)(J:l<=1000)(hN:N<=1024)(h1:1<=kd)(h2:kd<=7)(va:tx<2097152)(si:pv<2097152)(kC:pn<2097152)(hd:data.length<=9)(hf:szB rs+520*l+40<=M)
 {h:H}(s:Sat h (GA g a p q r cO aF now ε::X::S))(hX:cQ X (cT dt data)):
  Call ⟨prog,told⟩ 50 [.ptr g 0,.agg (ep (kd:Int) tx pv pn dt .aP)] h λv h'=>∃c aj aL,aL=ba+szB rs/\v=.aR [.int .u64 (aL:Int),.int .i64 0]/\(∀m,pgA aj m=match lookL m now with|some b=>dW b aL|none=>pgA ε m) /\
   (dw.mk kd tx pv pn data c).len<=520*l+40/\TxI N (B+2) M ba ck mk (rs++[⟨kd,tx,pv,pn,data,c⟩]) aj/\Sat h' (fh g a now true::SA a p q r .aW cO aF aj::X::S):=by
 rename_i I;have CL:=I.ei.cC;have eR:ε.2.1.base+ε.2.1.b.length<=B*1048600:=I.ei.el.size;have s:=aX.1 s;have s:=s.jr (k:=4);refine(Ps (tv:=0) (kd:=(kd:Int)) (tx:=tx) (pv:=pv) (nx:=pn) (data:=data) hT (s.ae [1,1,1,1,1,1,0]) hX U I.ei.ok Y (λe he=>iU (hw.good e he).1) Y (λn hn=>by have:=hw.keys n hn;omega) Y Y Y Y I.ei.el.log Y).mono ?_;rintro v h ⟨aL,e,cl,aj,hr,rfl,s⟩;obtain⟨rfl,rfl,rfl,ig,c,hlen,hi⟩:=I.done hr Y hw hL J hN h1 h2 va si kC hd hf;have s:Sat h (SA a p q r .aW cO aF aj::fh g a now true::X::S):=aX.2 (s.ae [1,1,1,1,0,0]);exact⟨c,aj,_,U,U,ig,hlen,hi,s.ae [1]⟩
noncomputable def mnL : Code:=aV [1,1,1,1,1,1,1,1,1,1,1,1,1,1,1,1,1,0,1,0,0] ((f41.body).getD .skip)
theorem Yn (hT:W told){pv:V}(hk:ks.length<=1000){l:Nat}: ∀(j i:Nat) (pg:List Int) (h:H) (E:List (Nat×V)) (a8:Ex->List (Nat×V)->H->Prop),i+j=ks.length ->
  Sat h (pt rr (.cells 7 (l7 id f l n mv dv pv) false)::xL pv pg::.arr 1 kv (d_ ks)::S)->Has E [(9,.ptr rr 0),(135,kv),(136,.int .i64 (ks.length:Int)),(137,.int .i64 (i:Int))] ->
  (∀E' h',Sat h' (pt rr (.cells 7 (l7 id f l n mv dv pv) false)::xL pv ((ks.drop i).foldl Bh pg)::.arr 1 kv (d_ ks)::S)->a8 (.exit 2) E' h') ->
  WP ⟨prog,told⟩ 148 (.loop mnL) E h a8:=by
 intro j;induction j with
 |zero =>
  intro i pg h E a8 hi s J I;rw[HN Y] at I;exact WP.loop (WP.has J (zg U (zC U aG Q<|zk 3 U (WP.exit (I _ _ s)))))
 |succ j ih =>
  intro i pg h E a8 hi s J I;obtain⟨k,BV⟩:∃k,ks[i]?=some k:=⟨_,aI Y⟩;have UD:ks.drop i=k::ks.drop (i+1):=by
   grind[List.drop_eq_getElem_cons]
  rw[UD,List.foldl_cons] at I;obtain⟨vp,off,e1,e2⟩:=dB (P:=prog) s (k:=2) (i:=i) (c:=.int .i64 k) U (by grind[d_]) dN kr;refine WP.loop (WP.has J (zg U (zB U aG Q<|zk 5 U (WP.block (zg U (zo U (aJ (.ptr vp off) U U e1) (zl U (e2 _ cW) (zk 5 U (zY s 0 Ip QJ U (zm U (zo U (cE U (by rw[ae7];rfl))<|aq.cy U U (OpR.mapUpdate U U U U (nZ (n:=k) (f:=λv (_:Unit)=>.pu (v=.agg [])) (x:=()) (λ_ _=>bg.pu _) ((s.ae [1]).eF U) MF bB)) ?_)))))))))));intro _ h s;rw[U4] at s;have s:Sat h (xL pv (Bh pg k)::_):=s;have s:=s.ae [1,0];dsimp only[l7,aB,bringA,getA] at s;exact zv (zr U (zb U (by exact aT ay)<|zm U (zv<|ih (i+1) _ _ _ a8 Y s ⟨U,U,U,U,aa⟩ I)))
noncomputable def mnU : Code:=aV [1,1,1,1,1,1,1,1,1,1,1,1,1,1,1] ((f41.body).getD .skip)
theorem U5 (hT:W told){pv:V}(hk:ks.length<=1000){f0 cost:Nat}(mR:A.dn.length<=1000)(s:Sat h (pt rr (.cells 7 (l7 id f0 A.cx A.jT mv dv pv) false)::eC 1 mv (aK A.j9)::eC 2 dv (lZ A.dn)::xL pv A.pg::.arr 1 kv (d_ ks)::S))(hE:Has E [(9,.ptr rr 0),(19,.int .i64 (cost:Int)),(20,kv),(21,.int .u64 (aL:Int))])
 (hq:∀E' h',look E' 8=some (.int .i64 0)->Sat h' (rG rr id ⟨f0,aL,aL,A.j9,A.dn++[(aL,cost)],ks.foldl Bh A.pg⟩::.arr 1 kv (d_ ks)::S)->a8 .ret E' h'): WP ⟨prog,told⟩ 148 mnU E h a8:=by
 obtain⟨i1,J,fH,gu⟩:=abU;refine WP.has hE (zK 7 U (zf U (rV _ _) (zS U (s.cS (k:=0) U gL U (show 0+2<7 by decide) U U) ?_)));intro h s;refine zn U (zf U (oI _ _) (zS U (s.cS (k:=0) U gL U (show 0+3<7 by decide) U U) ?_));refine λh s=>zk 6 U (zY s 0 ug Gw U (zk 2 U (zo U (cE (r:=.agg [.int .u64 (aL:Int),.int .i64 (cost:Int)]) U (by rw[ae8];rfl)) ?_)));obtain⟨xv,h1,e1,s1⟩:=fP prog (k:=2) (x:=.agg [.int .u64 (aL:Int),.int .i64 (cost:Int)]) s nH Gy v8 U O O U U;obtain⟨w,h2,e2,s2⟩:=MO (GC _ _ _) (s1.ae [3,0]) nH J Gy fH gu U O (by grind[kE,V.cells]);refine aq.any U U U (OpR.of (R:=λv h'=>v=xv/\h'=h1) (jj U e1) ⟨U,U⟩) ?_;rintro xv h1 ⟨rfl,rfl⟩;refine aq.any U U U (OpR.of (R:=λv h'=>v=w/\h'=h2) (fN U U e2) ⟨U,U⟩) ?_;rintro w h2 ⟨rfl,rfl⟩;have s:=s2.del 1;have I:=s.gV (j:=0) U;refine zn U (zf U (ug _ _) (zS U (s.cS (k:=1) U Zv U (show 0+5<7 by decide) I.1 I.2.1) ?_));intro h s;have s:Sat h (eC 2 w (lZ A.dn++[.int .u64 (aL:Int),.int .i64 (cost:Int)])::pt rr (.cells 7 (l7 id f0 aL aL mv w pv) false)::_):=s;have s:=s.ae [1,2,2,0,0];refine zk 5 U (zo U (aO U U U (s.fo ks.length (j:=2) U (by grind[d_]) O dN))<|zk 2 U (WP.block (Yn hT hk ks.length 0 _ _ _ _ Y s ⟨U,U,U,U,aa⟩ λE' h' s'=>?_)));have s:=s';rw[kj] at s;refine WP.has (F:=[]) aa (zK 4 U (WP.ret (hq _ _ U ?_)));have s:=s.ae [0,3,2,0,0];exact iI.2 ⟨mv,w,pv,by rw[PS];exact s⟩
noncomputable def mnF : Code:=aV [1,1,1,1,1,1,1,0,1,0,0] ((f41.body).getD .skip)
theorem Yo : ∀c:List cU,partsL c<=3*(c.flatMap kZ).length:=by
 intro c;induction c<;>grind[partsL,RJ,kZ]
theorem Yp (hT:W told){pv v0 v10 v11 I:V}{pg:List Int}(hk:ks.length<=1000){l:Nat}: ∀(j i fr:Nat) (h:H) (E:List (Nat×V)) (a8:Ex->List (Nat×V)->H->Prop),i+j=ks.length->fr<=i ->
  Sat h (pt rr (.cells 7 (l7 id f l n mv dv pv) false)::xL pv pg::.arr 1 kv (d_ ks)::S)->Has E [(0,v0),(2,v2),(9,.ptr rr 0),(10,v10),(11,v11),(12,I),(14,.int .i64 (fr:Int)),(50,kv),(51,.int .i64 (ks.length:Int)),(52,.int .i64 (i:Int))] ->
  (∀E' h' J,J<=ks.length->Has E' [(0,v0),(2,v2),(9,.ptr rr 0),(10,v10),(11,v11),(12,I),(14,.int .i64 (J:Int))]->Sat h' (pt rr (.cells 7 (l7 id f l n mv dv pv) false)::xL pv pg::.arr 1 kv (d_ ks)::S)->a8 (.exit 0) E' h') ->
  WP ⟨prog,told⟩ 148 (.loop mnF) E h a8:=by
 intro j;induction j with
 |zero =>
  exact λi fr h E a8 hi I8 s hE hq=>WP.loop (WP.has hE (zg U (zC U aG Q<|zk 3 U (WP.exit (hq _ _ fr Y ⟨U,U,U,U,U,U,U,aa⟩ s)))))
 |succ j ih =>
  intro i fr h E a8 hi I8 s hE hq;obtain⟨k,BV⟩:∃k,ks[i]?=some k:=⟨_,aI Y⟩;obtain⟨vp,off,e1,e2⟩:=dB (P:=prog) s (k:=2) (i:=i) (c:=.int .i64 k) U (by grind[d_]) dN kr;obtain⟨bb,hl⟩:∃bb,eO prog h 146 pv (.int .i64 k) true=some (.aR [.agg [],.bool bb]):=by
   rcases lC (n:=k) (λ_ _=>bg.pu _) (s.ae [1]) MF bB Zw with⟨_,g2,_⟩|⟨uu,y,_,g2,_,s'⟩
   .exact⟨_,g2⟩
   .obtain⟨eu,_⟩:=j4.1 s';exact⟨_,by rw[g2,eu]⟩
  refine WP.loop (WP.has hE (zg U (zB U aG Q<|zk 5 U (WP.block (zg U (zo U (aJ (.ptr vp off) U U e1) (zl U (e2 _ cW) (zk 6 U (zY s 0 Ip QJ U (zm U (zo U (e_ U U hl) (zk 3 U<|aq.bG s U U U (bK Zw) (λp17 h s=>?_)))))))))))));dsimp only[V.cells,List.length_nil,l7] at s;refine zS U (s.dS (j:=0) U ae6 U U) λh s=>?_;dsimp only[setA] at s;refine zk 5 U (zo U (cI U U) (zv ?_));cases bb with
  |true =>
   exact zj U (WP.skip (zr U (zb U (by exact aT ay)<|zm U (zv<|ih (i+1) fr _ _ a8 Y Y s.drop ⟨U,U,U,U,U,U,U,U,U,U,aa⟩ hq))))
  |false =>
   exact zK 3 U (zo U (ag (r:=.int .i64 ((fr+1:Nat):Int)) U U (by grind[aT,ay]))<|za U (zv (zr U (zb U (by exact aT ay)<|zm U (zv<|ih (i+1) (fr+1) _ _ a8 Y Y s.drop ⟨U,U,U,U,U,U,U,U,U,U,aa⟩ hq)))))
end
abbrev Pin := List V->H->V×H->Prop
noncomputable def toldP (l:List (Nat×Pin))(base:Nat->Option (List V->H->Option (V×H)))(f:Nat): Option (List V->H->Option (V×H)) :=
 match l with
 |[]=>base f
 |x::l=>cond (Nat.beq f x.1) (some (iE prog x.1 x.2)) (toldP l base f)
theorem Ej {l:List (Nat×Pin)}(h:∀x∈l,inL LH x.1=true/\x.1≠217/\x.1≠106): W (toldP l oZ):=by
 induction l with
 |nil=>exact W.base
 |cons x l I =>
  have I:=I λy J=>h y (ki _ J);obtain⟨h1,h2,h3⟩:=h x iu;refine⟨λf hf=>?_,?_,?_⟩
  .have:f≠x.1:=λe=>by grind
   simp only[toldP,eE this,bq];exact I.free f hf
  .simp only[toldP,eE (rQ h2),bq];exact I.more
  .simp only[toldP,eE (rQ h3),bq];exact I.sorted
theorem Bi {l : List (Nat × Pin)} (h : ∀ x ∈ l, ∃ fn, Tryz.prog.funcs[x.1]? = some fn ∧ fn.body.isSome = true ∧ (fn.name == "runtime.NumGoroutine") = false) : er ⟨Tryz.prog, toldP l oZ⟩ := by
 induction l with
 | nil => exact bM
 | cons x l I =>
  have I := I fun y hy => h y (ki _ hy)
  intro f g J
  simp only [toldP] at J
  by_cases h1 : f = x.1
  ·grind [vA, TS, List.mem_cons_self]
  ·rw [eE h1, bq] at J
   exact I f g J
def RM (C:eP)(f:FuncId)(args:List V)(h:H)(r:V×H): Prop:=∃I,∀N,I<=N->toldDefer C N f args h=some r
theorem Call.Hy {told:bU}{f:FuncId}(hP:C.P=prog)(hC:er C)(ht:told f=some (iE prog f (RM C f)))(hf:prog.funcs[f]?=some fn)(hb:fn.body.isSome=true)
 (hd:∃v h2,(∃I,∀N,I<=N->toldDefer C N f args h=some (v,h2))/\R v h2): Call ⟨prog,told⟩ f args h R:=by
 obtain⟨v,h2,⟨I,h0⟩,hR⟩:=hd;obtain⟨r,e1,N1,h1⟩:=mP (P:=prog) (f:=f) (kP:=RM C f) (args:=args) (h:=h) (r:=(v,h2)) ⟨I,h0⟩ (λc w J hw=>hP ▸ Ca (C:=C) (hP ▸ cm) hC (h0 I (az _)) J hw);have:r=(v,h2):=by
  have a:=h0 (max I N1) Y;grind
 subst this;exact⟨v,h2,eY.told ht hf hb e1,hR⟩
section
variable {told:bU} {p m kd:Nat}
theorem U6 (hB:B<=900)(hI:TxI N B M ba ck mk rs ε)(J:ba+szB rs<=1000000000)(hN:N<=1024)(h1:1<=kd)(h2:kd<=7)(va:tx<2097152)(si:pv<2097152)(hf:szB rs+40<=M)
 (s:Sat h (pt m (.cells 4 [.ptr a 0,u,av,.int .u64 (nx:Int)] false)::SA a p q r .aW cO aF ε::S)):
  ∃v h2,(∃N0,∀n,N0<=n->toldDefer CB n 136 [.ptr m 0,.agg (ep (kd:Int) tx pv 0 .aP .aP)] h=some (v,h2))/\∃c aj,v=.aR [.int .u64 ((ba+szB rs:Nat):Int),.int .i64 0]/\(∀m,pgA aj m=pgA ε m) /\
   (dw.mk kd tx pv 0 [] c).len<=40/\TxI N (B+2) M ba ck mk (rs++[⟨kd,tx,pv,0,[],c⟩]) aj/\Sat h2 (pt m (.cells 4 [.ptr a 0,u,av,.int .u64 (nx:Int)] false)::SA a p q r .aW cO aF aj::S):=by
 have I:=W.base;refine toldDefer_do (C:=CB) MG U U (of_decide_eq_true (by rfl))<|WPd.seq (WPd.of_wp U (zr U (aq.bG s U U U (c7 U U) λp3 h s=>?_)));dsimp only[Nat.reduceAdd,ep,V.cells,List.length_cons,List.length_nil] at s;refine zk 2 U (zv (WPd.seq (WPd.of_wp U (zr U (zk 2 U (zf U (nA _ _) (zl U (by exact s.ld 1 U nr U) ?_)))))));have s:=aX.1 (s.ae [2]);dsimp only[aB,bringA,List.cons_append,List.nil_append] at s;refine zc U (vk I s) ?_;rintro v h ⟨g,rfl,s⟩;have s:Sat h (GA g a p q r cO aF [] ε::_):=aX.2 s;have s:=s.pK.ae [1];dsimp only[bringA,getA,aB] at s;refine zk 5 U (zv (WPd.seq (WPd.seq (WPd.of_wp U (zr U (zm U (zh U (ag U U aE) U (zv (WPd.of_wp U (zj U (WP.skip (WPd.seq (WPd.defer U U U U U U U U U U U U (WPd.seq (WPd.of_wp U (zr U (zm U (zl U (by exact s.bW (k:=2) U kV gq)<|zc U (gdoneT_ct (kd:=kd) (l:=0) I hB hI J (NW.nil N) (az _) O hN h1 h2 va si O O Y s (bh _ _)) ?_))))))))))))))))));rintro v h ⟨c,aj,aL,rfl,rfl,ig,hlen,jR,s⟩;refine zk 4 U (zv (WPd.of_wp U (WP.ret ?_)));have s:=aX.1 (s.ae [1]);have s:=s.ae [4,0];obtain⟨v2,h2,xo,rfl,s⟩:=tu I s;have s:=s.ae [1,1,1,1];have s:Sat h2 (SA a p q r .aW cO aF aj::_):=aX.2 s;have mR:oZ 59=none:=I.free _ U;exact⟨aa,h2,_,oL (C:=CB) mR vf U U xo,IM U U,c,aj,U,λm=>ig m,Y,jR,(((s.ae [4,0]).del 4).del 3).del 2⟩
theorem M5 (hT:WR told){y:dw}{x:LD}(I:LR ba ck mk (ke++y::vM) x)(BN:x.1.Ok)(s:Sat h (bD q p x.1::S)):
  Call ⟨prog,told⟩ 66 [.ptr q 0,.int .u64 ((ba+szB ke:Nat):Int)] h λv h'=>∃dt ch cs,v=.aR [.agg (ep y.kd y.tx y.pv y.nx dt ch),.int .u64 ((ba+szB ke+y.len:Nat):Int),.int .i64 0] /\
   Sat h' (bD q p x.1::bu dt y.data::.arr 4 ch cs::c6 cs y.bw::S):=by
 have J:=I.rs y cb;refine(UM (n:=ba+szB ke) (a:=szB ke) (pre:=logB ba ke) (rest:=logB (ba+szB ke+y.len) vM) hT J.good J.kd J.rd U J.len l9 ?_ (by rw[I.base]) ?_ BN s).mono λv h' hx=>?_
 .rw[I.b,FK,logB];rfl
 .have:=Ym (base:=ba) (aF:=ck) (ke:=ke) (vM:=vM) (r:=y);have e1:=I.base;have e2:=I.b;have e3:=I.br;obtain⟨μ,δ⟩:=x;obtain⟨b1,b2,b3,b4,b5⟩:=μ;simp only at e1 e2 e3;subst e1 e2 e3;exact this
 .have e:ba+szB ke+y.len=ba+szB ke+8+(cV y.kd y.tx y.pv y.nx y.data y.bw).length:=by rw[dw.len,dw.bd];omega
  rw[e];exact hx
end
def vG (d:Nat): Nat:=(18446744073709551616-d)%18446744073709551616
theorem abV (d:Nat): vG d<18446744073709551616:=nc _ O
theorem Yq (hd:d<18446744073709551616): IntKind.wrap .u64 (IntKind.wrap .i64 (-(IntKind.wrap .i64 (d:Int))))=(vG d:Int):=by
 have I:∀n:Int,IntKind.wrap .u64 n=n%18446744073709551616:=λn=>U;have J:∀n:Int,IntKind.wrap .i64 n=if n%18446744073709551616>=9223372036854775808 then n%18446744073709551616-18446744073709551616 else n%18446744073709551616:=λn=>by
  show(if (true&&decide (n%18446744073709551616>=9223372036854775808))=true then _ else _)=_;simp;rfl
 have e3:∀n:Int,IntKind.wrap .i64 n%18446744073709551616=n%18446744073709551616:=λn=>by grind
 grind[vG]
section
variable {told:bU} {p m pv' kd:Nat} {cell:List Nat}
theorem U7 (hT:W told)(hB:B<=2000)(kQ:EI N B ε)(hw:NW N now)(hp:iO N n k cell (pgG now ε))(hi:i<50)(J:dn<18446744073709551616)(s:Sat h (X::GA g a p q r data aF now ε::S))(hX:cQ X (cT dv (i::le 8 dn))):
  Call ⟨prog,told⟩ 282 [.agg [.ptr c 0],.ptr g 0,dv] h λv h'=>∃aj b',v=.int .i64 0/\EI N B aj/\Sm N ε aj/\NW N (dM (k:Int) b' now) /\
   PgD b' 205 0 n [oV cell i ((ik cell i+vG dn)%18446744073709551616)]/\Sat h' (GA g a p q r data aF (dM (k:Int) b' now) aj::X::S):=by
 have hlen:(i::le 8 dn).length=9:=by rfl
 have hv:=s.aQ 0 U hX;refine Call.of_wp (hT.free _ U) func282 U U (zg U (aq.bG s U U U (c7 U U) λp3 h s=>?_));have hv:=s.aQ 1 U hX;refine zk 6 U (zo U (aO U U U (bC aZ hv)) (zC U aE (by rfl) ?_));obtain⟨Ul,I,e1,e2⟩:=gG (i:=0) hv U;have kI:=iy hv (a:=1) Y;have w8:=fO hv;have s0:=s;refine zk 4 U (WP.drawn [some (0,2),some (0,2),some (0,2),some (0,2),some (0,2),some (0,2),some (0,2),af,af,af,af,af,af,af] U bo bo<|zF U (O8 _ _) (zL U (s.ld 0 U Wx U) (zM U (zM U (zO U (aJ (.ptr Ul I) U U e1) (zL U e2 (ah.op U U U (by simp only[isEff,bB]) (bQ (r:=.int .i64 (i:Int)) U (ie underlying5 bB ay))<|zM U (zO U (bR (p:=some (.int .i64 1)) (q:=none) (m:=none) (p':=some 1) (q':=none) (m':=none) U U U U U U U kI.1) (ah.any U U U U (OpR.call U U U U (rZ hT s (k:=1) U (uq hX (a:=1) Y) Q)) ?_)))))))));rintro v h' ⟨rfl,rfl⟩;rw[List.drop_one,List.tail_cons,CP,show dn%256^8=dn from zU J];refine ah.op U U U (by simp only[isEff,Ay]) (bQ U (cvW bS Ay))<|zO U (cI (r:=.int .i64 (IntKind.wrap .i64 (-(IntKind.wrap .i64 (dn:Int))))) U (by simp[unV])) ?_;have s:=s.ae [2];refine ah.any U U U U (OpR.call U U U U (ML (dn:=vG dn) hT hB kQ hw hp hi (Yq J) (abV dn) s)) ?_;rintro v h ⟨aj,b',rfl,h1,h2,h3,h4,s⟩;exact zA U<|ah.nil ⟨⟨λ_ _=>.inr ⟨U,⟨_,gy U (O8 _ _)⟩,aA _ U⟩,cY (.inr ⟨U,⟨_,o_load U (s0.ld 0 U Wx U)⟩,aA _ U⟩) (.inr ⟨U,⟨_,o_load U (s0.ld 0 U Wx U)⟩,aA _ U⟩),λ_ _=>.inr ⟨U,⟨_,aD U⟩,aA _ U⟩,λ_ _=>.inr ⟨U,⟨_,aD U⟩,w8⟩,λ_ _=>.inr ⟨U,⟨_,aJ (.ptr Ul I) U U e1⟩,aA _ U⟩,cY (.inr ⟨U,⟨_,o_load U e2⟩,aA _ U⟩) (.inr ⟨U,⟨_,o_load U e2⟩,aA _ U⟩),λ_ _=>.inr ⟨U,⟨_,bQ (r:=.int .i64 (i:Int)) U (ie underlying5 bB ay)⟩,aA _ U⟩,dq 8⟩,WP.ret ⟨aa,_,U,⟨aj,b',U,h1,h2,h3,h4,(s.ae [0,1]).del 2⟩⟩⟩
theorem iO.done (hw:NW N now)(hd:∀m,pgA aj m=match lookL m now with|some b=>dW b aL|none=>pgA ε m)(I:iO N n k cell (pgG now ε)): iO N n k cell (pgA aj):=by
 obtain⟨R,M,h1,h2⟩:=I.hd;exact⟨⟨R,M,h1.done hw hd,h2⟩,I.k2,I.kN,I.pg.done hw hd,I.len⟩
theorem U8 : methV Tryz.prog 161 "Undo" = some 282 := by kernel_rfl
def ju (c:Nat): V:=.iface 161 (.agg [.ptr c 0])
theorem Yr {w b3 l nt to:Nat}{ch pv:V}(hB:B<=900)(hI:TxI N B M ba ck mk rs ε)(ox:ba+szB rs<=1000000000)(hN:N<=1024)(fV:id<2097152)(hl:l<2097152)(UF:to<2097152)(hf:szB rs+560<=M)
 (hp:iO N n k cell (pgA ε))(hi:i<50)(mR:dn<18446744073709551616)
 (s:Sat h (pt b0 (.cells 1 [.ptr m 0] false)::pt w (.cells 6 (ep kd tx pv' pn dt ch) false)::pt b2 (.cells 1 [.ptr rr 0] false)::pt b3 (.cells 1 [.int .u64 (to:Int)] false)::pt m (.cells 4 [.ptr a 0,ju c,av,.int .u64 (nx:Int)] false)::pt rr (.cells 7 (l7 id f l nt mv dv pv) false)::SA a p q r .aW data aF ε::X::S))(hX:cQ X (cT dt (i::le 8 dn))):
  ∃v h2,(∃N0,∀n,N0<=n->toldDefer CB n 159 [.ptr b0 0,.ptr w 0,.ptr b2 0,.ptr b3 0] h=some (v,h2))/\∃c' aj,v=.int .i64 0/\iO N n k (oV cell i ((ik cell i+vG dn)%18446744073709551616)) (pgA aj) /\
   (dw.mk 2 id l to [] c').len<=560/\TxI N (B+2) M ba ck mk (rs++[⟨2,id,l,to,[],c'⟩]) aj /\
   Sat h2 (pt b0 (.cells 1 [.ptr m 0] false)::pt w (.cells 6 (ep kd tx pv' pn dt ch) false)::pt b2 (.cells 1 [.ptr rr 0] false)::pt b3 (.cells 1 [.int .u64 (to:Int)] false)::pt m (.cells 4 [.ptr a 0,ju c,av,.int .u64 (nx:Int)] false)::pt rr (.cells 7 (l7 id f (ba+szB rs) to mv dv pv) false)::SA a p q r .aW data aF aj::X::S):=by
 have I:=W.base;have jE:=hp.len;refine toldDefer_do (C:=CB) MH U U (of_decide_eq_true bo)<|WPd.seq (WPd.of_wp U (zr U (za U (zv (WPd.seq (WPd.of_wp U (zr U (zl U (by exact s.ld 0 U my U)<|zn U (zY s 4 nA nr U ?_)))))))));have s:=aX.1 (s.ae [6]);dsimp only[ep,l7,aB,bringA,List.cons_append,List.nil_append] at s;refine zc U (vk I s) ?_;rintro v h ⟨g,rfl,s⟩;have s:Sat h (GA g a p q r data aF [] ε::_):=aX.2 s;have s:=s.ae [1,1,1,1,1,1,1];dsimp only[bringA,getA,aB] at s;refine zk 5 U (zv (WPd.seq (WPd.seq (WPd.of_wp U (zr U (zm U (zh U (ag U U aE) U (zv (WPd.of_wp U (zj U (WP.skip (WPd.seq (WPd.defer U U U U U U U U U U U U (WPd.seq (WPd.seq (WPd.of_wp U (WP.drawn [af,af,af,af,af,af,af,af,af] U bo bo<|zL U (s.ld 0 U my U) (zN U (zF U (aaG _ _) (zL U (s.ld 4 U aeY U) (zM U (zF U (DP _ _) (zL U (s.ld 1 U cF U) ?_)))))))))))))))))))))));have J:iO N n k cell (pgG [] ε):=hp.FH λ_=>U;refine ah.any U U U U (OpR.invoke U U U U8 U (U7 I Y hI.ei (NW.nil N) J hi mR (s.ae [6,6]) hX)) ?_;rintro v h ⟨yZ,b',rfl,sk,gC,yc,nM,s⟩;have EW:=hI.sm sk gC;have CW:=J.put gC nM (Bf jE hi);dsimp only[aB,bringA] at s;refine zA U<|ah.nil ⟨(dq 10),WPd.seq (WPd.of_wp U (zr U (zm U (zh U (ag U U aE) U (zv (WPd.of_wp U (zj U (WP.skip (WPd.seq (WPd.of_wp U (WP.drawn [af,af,af,af,af,af,af,af,af,af,af,af,af,af,af,af,af] U bo bo<|zM U (zL U (s.ld 4 U nV U) (zN U (zF U (DW _ _) (zL U (s.ld 7 U b8 U) (zL U (s.ld 4 U nV U) (zN U (zF U (rV _ _) (zL U (s.ld 7 U b8 U) (zL U (s.ld 5 U b8 U) (zO U (cE (r:=.agg (ep (2:Nat) id l to .aP .aP)) U (by rw[vY];rfl)) ?_)))))))))))))))))))))⟩;have s:=s.pK.ae [1];dsimp only[bringA,getA,aB] at s;refine ah.any U U U U (OpR.call U U U U (gdoneT_ct (kd:=2) (l:=1) I hB EW ox yc (by simp[dM]) O hN O O fV hl UF O Y s (bh _ _))) ?_;rintro v h ⟨c',aj,aL,rfl,rfl,ig,hlen,jR,s⟩;refine zM U (zO U (c_ U U) (zO U (c_ U U) (zA U (zA U<|ah.nil ⟨(dq 18),WPd.seq (WPd.seq (WPd.of_wp U (zr U (zm U (zh U (ag U U aE) U (zv (WPd.of_wp U (zj U (WP.skip (WPd.seq (WPd.of_wp U (zr U (zl U (by exact s.ld 6 U nV U) ?_)))))))))))))⟩))));refine zy s 6 nV U (zm U (zy s 7 b8 U (zn U (zf U (rV _ _) (zS U (s.cS (k:=9) U gL U (show 0+2<7 by decide) U U) ?_)))));intro h s;dsimp only[Nat.reduceAdd,List.set,setA] at s;refine zn U (zf U (oI _ _) (zS U (s.cS (k:=9) U gL U (show 0+3<7 by decide) U U) ?_));intro h s;dsimp only[Nat.reduceAdd,List.set,setA] at s;refine zv (WPd.seq (WPd.of_wp U (zr U (za U (zv (WPd.of_wp U (WP.ret ?_)))))));have s:=aX.1 (s.ae [1]);have s:=s.ae [4,0];obtain⟨v2,h2,xo,rfl,s⟩:=tu I s;have s:=s.ae [1,1,1,1];have s:Sat h2 (SA a p q r .aW data aF aj::_):=aX.2 s;have Ys:oZ 59=none:=I.free _ U;have s:=s.ae [4,4,4,4,4,4,0,2];exact⟨aa,h2,_,oL (C:=CB) Ys vf U U xo,jk U,c',aj,U,CW.done yc ig,Y,jR,((s.del 9).del 8)⟩
end
theorem OpR.clear {S':List aH}{m:V}(I:o.op=.call cl)(J:cl.callee=.builtin .clear)(hty:cl.argTypes = #[t])(ha:lookArgs E cl.args.toList=some [m])
 (ho:∃h₁,clearV C.P h t m=some h₁/\Sat h₁ S'): OpR C E h o λ_ h₁=>Sat h₁ S':=by
 obtain⟨h₁,e1,e2⟩:=ho;refine OpR.builtin I J ha ⟨.aR [],h₁,?_,e2⟩<;>grind[builtinV]
section
variable {told:bU} {to:Nat} {dn:List (Nat×Nat)}
theorem FL (I:W told){l:Nat}(s:Sat h (pt b (.cells 1 [.int .u64 (to:Int)] false)::S)): Call ⟨prog,told⟩ 139 [.agg [.int .u64 (l:Int),.int .i64 (c:Int)],.ptr b 0] h λv h'=>v=.bool (decide (l>to))/\Sat h' (pt b (.cells 1 [.int .u64 (to:Int)] false)::S):=by
 exact Call.of_wp (I.free _ U) func139 U U (zg U (aq.bG s U U U (c7 U U) λp2 h s=>zk 4 U (zY s 0 aaH b8 U (zy s 1 b8 U (zo U (ag (r:=.bool (decide (l>to))) U U (dc.trans cb))<|zk 2 U (zR U ⟨U,s.drop⟩))))))
noncomputable def ifL : Code:=aV [1,0,1,0,0] ((f199.body).getD .skip)
def mg (to n:Nat)(l:List Nat): Prop:=n<=l.length/\(∀d∈l.take n,d<=to)/\∀d∈l.drop n,to<d
theorem mg.lo (h:mg to n l)(hi:i<n)(hd:l[i]?=some d): d<=to:=h.2.1 d (bz (by rw[List.getElem?_take_of_lt hi];exact hd))
theorem mg.hi (h:mg to n l)(hi:n<=i)(hd:l[i]?=some d): to<d:=h.2.2 d (bz (i:=i-n) Q)
theorem U9 (hT:W told)(hl:dn.length<=1000)(hp:mg to n (dn.map (·.1)))(hf:fv=.fn (.func 139) [] [.ptr b 0]): ∀(j i:Nat) (h:H) (E:List (Nat×V)) (a8:Ex->List (Nat×V)->H->Prop),i+j=n ->
  Sat h (eC 2 dv (lZ dn)::pt b (.cells 1 [.int .u64 (to:Int)] false)::S)->Has E [(0,dv),(1,fv),(7,.int .i64 (dn.length:Int)),(8,.int .i64 (i:Int))] ->
  (∀E' h',n=dn.length->Sat h' (eC 2 dv (lZ dn)::pt b (.cells 1 [.int .u64 (to:Int)] false)::S)->a8 (.exit 0) E' h') ->
  (∀E' h',n≠dn.length->look E' 4=some (.int .i64 (n:Int))->Sat h' (eC 2 dv (lZ dn)::pt b (.cells 1 [.int .u64 (to:Int)] false)::S)->a8 .ret E' h') ->
  WP ⟨prog,told⟩ f199.ntmps (.loop ifL) E h a8:=by
 subst hf;have hn:n<=dn.length:=by have:=hp.1;rwa [cL] at this
 intro j;induction j with
 |zero =>
  intro i h E a8 hi s hE hq hr;obtain rfl:i=n:=Y;by_cases h0:i=dn.length
  .skip;exact WP.loop (WP.has hE (zg U (zC U aG Q<|zk 3 U (WP.exit (hq _ _ h0 s)))))
  .obtain⟨d,hd⟩:∃d,dn[i]?=some d:=⟨_,aI Y⟩;have EX:=hp.hi (az i) (d:=d.1) Q;obtain⟨J,off,e1,I,_⟩:=s.JQ (P:=prog) (j:=0) (i:=i) (k:=2) U (by rw[kE];omega) O nH v8;have I:=I Gx;rw[Eg hd] at I;refine WP.loop (WP.has hE (zg U (zB U aG Q<|zk 5 U (WP.block (zK 10 U (zo U (aJ (.ptr J off) U U e1) (zl U I (zc U (FL hT (l:=d.1) (c:=d.2) (s.ae [1])) ?_))))))));rintro v h ⟨hv,s⟩;rw[lH EX] at hv;subst hv;exact zk 7 U (WP.ret (hr _ _ h0 U (s.ae [1])))
 |succ j ih =>
  intro i h E a8 hi s hE hq hr;obtain⟨d,hd⟩:∃d,dn[i]?=some d:=⟨_,aI Y⟩;have EX:=hp.lo (show i<n by omega) (d:=d.1) Q;obtain⟨J,off,e1,I,_⟩:=s.JQ (P:=prog) (j:=0) (i:=i) (k:=2) U (by rw[kE];omega) O nH v8;have I:=I Gx;rw[Eg hd] at I;refine WP.loop (WP.has hE (zg U (zB U aG Q<|zk 5 U (WP.block (zK 10 U (zo U (aJ (.ptr J off) U U e1) (zl U I (zc U (FL hT (l:=d.1) (c:=d.2) (s.ae [1])) ?_))))))));rintro v h ⟨hv,s⟩;rw[mE Y] at hv;subst hv;exact zv (zj U (WP.skip (zr U (zb U (by exact aT ay)<|zm U (zv<|ih (i+1) _ _ a8 Y (s.ae [1]) ⟨U,U,U,U,aa⟩ hq hr)))))
theorem abW (I:W told)(J:dn.length<=1000)(hp:mg to n (dn.map (·.1)))(s:Sat h (eC 2 dv (lZ dn)::pt b (.cells 1 [.int .u64 (to:Int)] false)::S)):
  Call ⟨prog,told⟩ 199 [dv,.fn (.func 139) [] [.ptr b 0]] h λv h'=>v=.int .i64 (if n=dn.length then -1 else(n:Int))/\Sat h' (eC 2 dv (lZ dn)::pt b (.cells 1 [.int .u64 (to:Int)] false)::S):=by
 refine Call.of_wp (I.free _ U) func199 U U (zK 8 U (zo U (aO U U U (s.y8 (n:=dn.length) (j:=0) U (kE _) O nH))<|zk 2 U (WP.block<|U9 I J hp U n 0 _ _ _ Y s ⟨U,U,U,U,aa⟩ (λE' h' h0 s'=>?_) λE' h' h0 hr s'=>⟨aa,_,jk hr,Q,s'⟩)));have s:=s';exact WP.has (F:=[]) aa (zK 4 U (zR U ⟨Q,s⟩))
noncomputable def dfL : Code:=aV [1,1,1,0,1,0,0] ((f138.body).getD .skip)
theorem U_ (hT:W told)(hl:dn.length<=1000)(hp:mg to n (dn.map (·.1)))(hf:fv=.fn (.func 139) [] [.ptr b 0]): ∀(j i:Nat) (h:H) (E:List (Nat×V)) (a8:Ex->List (Nat×V)->H->Prop),i+j=dn.length->n<i ->
  Sat h (eC 2 dv (lZ dn)::pt b (.cells 1 [.int .u64 (to:Int)] false)::S)->Has E [(0,dv),(1,fv),(5,.int .i64 (n:Int)),(6,.int .i64 (i:Int))] ->
  (∀E' h',Has E' [(0,dv),(5,.int .i64 (n:Int))]->Sat h' (eC 2 dv (lZ dn)::pt b (.cells 1 [.int .u64 (to:Int)] false)::S)->a8 (.exit 0) E' h') ->
  WP ⟨prog,told⟩ 42 (.loop dfL) E h a8:=by
 subst hf;intro j;induction j with
 |zero =>
  exact λi h E a8 hi I s hE hq=>WP.loop (WP.has hE (zK 5 U (zo U (aO U U U (s.y8 (n:=dn.length) (j:=0) U (kE _) O nH))<|zC U aG Q<|zk 2 U (WP.exit (hq _ _ ⟨U,U,aa⟩ s)))))
 |succ j ih =>
  intro i h E a8 hi I s hE hq;obtain⟨d,hd⟩:∃d,dn[i]?=some d:=⟨_,aI Y⟩;have EX:=hp.hi (qc I) (d:=d.1) Q;obtain⟨vp,off,e1,J,_⟩:=s.JQ (P:=prog) (j:=0) (i:=i) (k:=2) U (by rw[kE];omega) O nH v8;have J:=J Gx;rw[Eg hd] at J;refine WP.loop (WP.has hE (zK 5 U (zo U (aO U U U (s.y8 (n:=dn.length) (j:=0) U (kE _) O nH))<|zB U aG Q<|zk 4 U (WP.block (zK 4 U (zo U (aJ (.ptr vp off) U U e1) (zl U J<|aq.bG s U U U (bK Gy) (λp7 h s=>?_))))))));dsimp only[V.cells,List.length_cons,List.length_nil,Nat.reduceAdd] at s;refine zS U (s.dS (j:=0) U v8 U U) λh s=>?_;dsimp only[setA] at s;refine zk 4 U (zl U (s.bW (k:=0) U Gx v8) (zc U (FL hT (l:=d.1) (c:=d.2) (s.ae [2])) ?_));rintro v h ⟨hv,s⟩;rw[lH EX] at hv;subst hv;exact zo U (cI U U) (zv (zj U (WP.skip (zr U (zm U (zo U (ag (r:=.int .i64 ((i+1:Nat):Int)) U U (by grind[aT,ay]))<|za U (zv<|ih (i+1) _ _ a8 Y Y ((s.ae [2,0]).del 2) ⟨U,U,U,U,aa⟩ hq)))))))
theorem abX (I:W told)(hl:dn.length<=1000)(J:mg to n (dn.map (·.1)))(s:Sat h (eC 2 dv (lZ dn)::pt b (.cells 1 [.int .u64 (to:Int)] false)::S)):
  Call ⟨prog,told⟩ 138 [dv,.fn (.func 139) [] [.ptr b 0]] h λv h'=>Sat h' (eC 2 v (lZ (dn.take n))::pt b (.cells 1 [.int .u64 (to:Int)] false)::S):=by
 have hn:n<=dn.length:=by have:=J.1;rwa [cL] at this
 refine Call.of_wp (I.free _ U) func138 U U (zK 8 U (zc U (abW I hl J s) ?_));rintro v h ⟨rfl,s⟩;by_cases h0:n=dn.length
 .rw[bk h0];refine zk 6 U (zB U bH cb<|zk 7 U (WP.ret ⟨aa,_,U,?_⟩));rw[h0,zX];exact s
 .rw[ax h0];refine zk 6 U (zC U bH cb<|zk 7 U (zo U (ag (r:=.int .i64 ((n+1:Nat):Int)) U U (by grind[aT,ay]))<|zk 2 U (WP.block (U_ I hl J U (dn.length-(n+1)) (n+1) _ _ _ Y Y s ⟨U,U,U,U,aa⟩ λE' h' fg s'=>?_))));have s:=s';refine WP.has fg ?_;obtain⟨w,h1,v',e1,e2,e3,s1⟩:=s.gCut (P:=prog) (i:=n) (by rw[kE];omega) O nH v8 Gy U U;have ed:(lZ dn).take (n*2)=lZ (dn.take n):=by
   grind[List.take_append_drop,PS,kE]
  rw[ed] at s1;refine zK 4 U (zo U (bR (p:=some (.int .i64 (n:Int))) (q:=none) (m:=none) (p':=some n) (q':=none) (m':=none) U U U U U U U (e1 _)) (aq.cy U U (OpR.clear U U U U ⟨h1,e2,s1⟩) ?_));intro _ h s;exact zk 5 U (zo U (bR (p:=none) (q:=some (.int .i64 (n:Int))) (m:=none) (p':=none) (q':=some n) (m':=none) U U U U U U U (e3 _)) (zk 2 U (zR U s)))
end
structure WT (told:bU): Prop where
 wr:WR told
 wk:WK told
 rc:told 136=some (iE prog 136 (y7 136))
 und:told 159=some (iE prog 159 (y7 159))
section
variable {told:bU} {p m l:Nat} {cell:List Nat} {cs:List cU}
theorem EY (J:W told){g:FuncId}{first cap:List V}(he:e≠7)(hc:Call ⟨prog,told⟩ g (first++cap) h R)(hR:∀v h',R v h'->v=.int .i64 e):
  Call ⟨prog,told⟩ 137 [.ptr m 0,.fn (.func g) first cap] h R:=by
 refine Call.of_wp (J.free _ U) func137 U U (zK 7 U (zc U (hc) ?_));rintro v h' I;have hr:=I;obtain rfl:=hR _ _ I;exact zk 6 U (zB U aE Q<|zk 7 U (WP.ret ⟨aa,_,U,hr⟩))
end
def offC (cell:List Nat): List (Nat×Nat)->List Nat
 |[]=>cell
 |x::l=>offC (oV cell x.1 ((ik cell x.1+vG x.2)%18446744073709551616)) l
theorem sq (r:dw): szB [r]=r.len:=by rfl
theorem JV : ∀ {L:lp} {i:Nat},L[i]?=some (id,rr,A)->((L.map λe=>((e.1:Int),e.2.1)).map (·.1)).Nodup->nX (id:Int) (L.map λe=>((e.1:Int),e.2.1))=(L.eraseIdx i).map λe=>((e.1:Int),e.2.1):=by
 intro L;induction L with
 |nil=>simp
 |cons y L J =>
  intro i h I;simp only[ko,Dw] at I;cases i<;>grind[nX]
section
variable {told:bU} {p m l jT:Nat} {cell:List Nat}
theorem TxI.force (I:TxI N B M ba ck mk rs ε): (bL ε.2 x).1=0/\TxI N B M ba ck mk rs (ε.1,(bL ε.2 x).2)/\∀m,pgA (ε.1,(bL ε.2 x).2) m=pgA ε m:=by
 obtain⟨h1,h2,J⟩:=I.ei.force (n:=x);exact⟨h1,⟨h2,(wV ba ck mk rs).force _ _ I.lr,by have:=((og ε.2.2.log.length ε.2.2.room).force ε.2 x ⟨U,U⟩).2;rw[this];exact I.rm,I.ft⟩,J⟩
theorem RN (J:W told){op:V}(I:TxI N B M ba ck mk rs ε)(s:Sat h (SA a p q r op data aF ε::S)):
  Call ⟨prog,told⟩ 42 [.ptr a 0,.int .u64 (x:Int)] h λv h'=>v=.int .i64 0/\∃aj,TxI N B M ba ck mk rs aj/\(∀m,pgA aj m=pgA ε m)/\Sat h' (SA a p q r op data aF aj::S):=by
 have s:=aX.1 s;have hfu:=I.lr.a_;obtain⟨h1,h2,h3⟩:=I.force (x:=x);refine(T5 J (n:=x) (s.ae [0,1,1]) I.ei.ok.ok.lg Y).mono ?_;rintro v h ⟨rfl,s⟩;have s:Sat h (SA a p q r op data aF (ε.1,(bL ε.2 x).2)::S):=aX.2 (s.ae [0,2,0,0]);exact⟨Q,_,h2,h3,s⟩
theorem Yt (hT:WT told)(hB:B<=900)(hI:TxI N B M ba ck mk rs ε)(ox:ba+szB rs<=1000000)(hN:N<=1024)(J:id<2097152)(hl:l<2097152)(hf:szB rs+40<=M){kd b1:Nat}(BV:3<=kd)(BC:kd<=4)
 (s:Sat h (pt b0 (.cells 1 [.ptr m 0] false)::pt b1 (.cells 1 [.int .i64 (kd:Int)] false)::pt b2 (.cells 1 [.ptr rr 0] false)::pt m (.cells 4 [.ptr a 0,u,av,.int .u64 (nx:Int)] false)::pt rr (.cells 7 (l7 id f l jT mv dv xK) false)::SA a p q r .aW data aF ε::S)):
  Call ⟨prog,told⟩ 135 [.ptr b0 0,.ptr b1 0,.ptr b2 0] h λv h'=>v=.int .i64 0/\∃c' aj,(∀m,pgA aj m=pgA ε m)/\(dw.mk kd id l 0 [] c').len<=40/\TxI N (B+2) M ba ck mk (rs++[⟨kd,id,l,0,[],c'⟩]) aj /\
   Sat h' (pt b0 (.cells 1 [.ptr m 0] false)::pt b1 (.cells 1 [.int .i64 (kd:Int)] false)::pt b2 (.cells 1 [.ptr rr 0] false)::pt m (.cells 4 [.ptr a 0,u,av,.int .u64 (nx:Int)] false)::pt rr (.cells 7 (l7 id f l jT mv dv xK) false)::SA a p q r .aW data aF aj::S):=by
 have hW:=hT.wr.w;refine Call.of_wp (hW.free _ U) func135 U U (zK 5 U (WP.drawn [af,af,af,af,af,af,af,af,af,af,af,af,af,af,af,af,af] U bo bo<|zL U (s.ld 0 U my U) (zL U (s.ld 1 U cW U) (zL U (s.ld 2 U nV U) (zN U (zF U (DW _ _) (zL U (s.ld 4 U b8 U) (zL U (s.ld 2 U nV U) (zN U (zF U (rV _ _) (zL U (s.ld 4 U b8 U) (zO U (cE (r:=.agg (ep (kd:Int) id l 0 .aP .aP)) U (by rw[vY];rfl)) ?_))))))))))));have s:=s.ae [3,4];refine ah.any U U U U (OpR.call U U U U (Call.defer hT.rc MG U (U6 hB hI Y hN (show 1<=kd by omega) Y J hl hf s))) ?_;rintro v h ⟨c',aj,rfl,ig,hlen,I,s⟩;refine zM U (zO U (c_ U U) (zO U (c_ U U) (zA U (zA U<|ah.nil ⟨(dq 18),?_⟩))));have s:=s.ae [2,2,2,0,1,0];refine zK 4 U (zB U bH U (zm U (zy s 1 cW U ?_)));by_cases hk:kd=3
 .skip;refine zB U bH Q<|zk 4 U (zy s 0 my U (zn U (zY s 3 nA nr U (zm U (zc U (RN hW (x:=ba+szB rs) I (s.ae [5])) ?_)))));rintro v h ⟨rfl,xJ,fH,ai6,s⟩;exact zk 7 U (zR U ⟨U,c',xJ,λm=>Q,hlen,fH,s.ae [1,1,1,1,1,0]⟩)
 .skip;exact zC U bH Q<|zk 9 U (zR U ⟨U,c',aj,ig,hlen,I,s⟩)
theorem PZ (hT:WT told)(hB:B<=900)(I:TxI N B M ba ck mk rs ε)(J:ba+szB rs<=1000000)(hN:N<=1024)(fV:id<2097152)(hl:l<2097152)(hf:szB rs+40<=M){kd:Nat}(BV:3<=kd)(BC:kd<=4){F:V->Nat->aH}{m0:List (Int×Nat)}
 (s:Sat h (pt m (.cells 4 [.ptr a 0,u,av,.int .u64 (nx:Int)] false)::pt rr (.cells 7 (l7 id f l jT mv dv xK) false)::kG .u64 F av m0::SA a p q r .aW data aF ε::S)):
  Call ⟨prog,told⟩ 72 [.ptr m 0,.ptr rr 0,.int .i64 (kd:Int)] h λv h'=>v=.int .i64 0/\∃c8 aj,(∀m,pgA aj m=pgA ε m)/\szB c8<=40/\TxI N (B+2) M ba ck mk (rs++c8) aj /\
   Sat h' (pt m (.cells 4 [.ptr a 0,u,av,.int .u64 (nx:Int)] false)::kG .u64 F av (nX (id:Int) m0)::SA a p q r .aW data aF aj::S):=by
 have hW:=hT.wr.w;refine Call.of_wp (hW.free _ U) func72 U U (zg U (aq.bG s U U U (c7 U U) λb0 h s=>aq.bG s U U U (c7 U U) λb2 h s=>aq.bG s U U U (c7 U U) λb1 h s=>?_));have s:=s.ae [2,0,0];refine zk 5 U (zy s 2 nV U (zn U (zY s 4 rV b8 U ?_)));by_cases ED:l=0
 .skip;refine zB U bH Q<|zk 3 U (WP.drawn [af,af,af,af,af,af,af,af,af] U bo bo<|zL U (s.ld 0 U my U) (zN U (zF U (iw _ _) (zL U (s.ld 3 U kA U) (zL U (s.ld 2 U nV U) (zN U (zF U (DW _ _) (zL U (s.ld 4 U b8 U) (ah.cy U U U (OpR.delete U U U U (Fp (n:=(id:Int)) (s.ae [5]) tC bS)) ?_)))))))));intro _ h s;exact ah.nil ⟨(dq 10),zK 4 U (WP.ret ⟨aa,_,U,U,[],ε,λ_=>U,O,by rw[fZ];exact⟨I.ei.more Y,I.lr,I.rm,I.ft⟩,((s.ae [4,0,4]).del 6 |>.del 5 |>.del 4 |>.del 3)⟩)⟩
 .skip;refine zC U bH Q<|zk 5 U (zo U (uK U U) (zk 5 U (zy s 0 my U (zm U ?_))));have s:=s.ae [0,0,0,0,0,1];refine zc U (EY (e:=0) hW O (Yt hT hB I J hN fV hl hf BV BC s) (λv h' hv=>hv.1)) ?_;rintro v h ⟨rfl,c',aj,ig,hlen,jR,s⟩;refine zk 5 U (zC U aE U (zk 4 U ?_));have s:=s.ae [6];refine WP.drawn [af,af,af,af,af,af,af,af,af] U bo bo<|zL U (s.ld 1 U my U) (zN U (zF U (iw _ _) (zL U (s.ld 4 U kA U) (zL U (s.ld 3 U nV U) (zN U (zF U (DW _ _) (zL U (s.ld 5 U b8 U) (ah.cy U U U (OpR.delete U U U U (Fp (n:=(id:Int)) s tC bS)) ?_))))))));intro _ h s;exact ah.nil ⟨(dq 10),zK 4 U (zR U ⟨U,_,aj,ig,by exact hlen,jR,((s.ae [4,0,4]).del 6 |>.del 5 |>.del 4 |>.del 3)⟩)⟩
end
theorem Yu {α:Type}{k:Int}{x:α}: ∀ {l:List (Int×α)},(∀e∈l,e.1≠k)->dM k x l=l++[(k,x)]:=by
 intro l;induction l<;>grind[dM]
section
variable {told:bU} {p m:Nat} {cell:List Nat}
theorem sr (J:L[i]?=some (id,rr,A))(s:Sat h (kG .u64 (λv (r:Nat)=>.pu (v=.ptr r 0)) av (L.map λe=>((e.1:Int),e.2.1))::S)):
  eO prog h 142 av (.int .u64 (id:Int)) false=some (.ptr rr 0)/\((L.map λe=>((e.1:Int),e.2.1)).map (·.1)).Nodup:=by
 obtain⟨mid,es,clock,e0,hb,I,_⟩:=fW.1 s;have BE:=M3 J I;rcases lC (n:=(id:Int)) (λ_ _=>bg.pu _) s tC bS QI with⟨g1,_⟩|⟨uu,y,g1,g2,g3,s'⟩<;>grind[j4]
theorem M6 (hT:W told)(kC:nx<=1000000)(bY:∀x∈L,x.1<nx)(s:Sat h (eL m a nx u L::S)):
  Call ⟨prog,told⟩ 25 [.ptr m 0] h λv h'=>v=.aR [.int .u64 (nx:Int),.int .i64 0]/\∃rr,Sat h' (eL m a (nx+1) u (L++[(nx,rr,⟨0,0,0,[],[],[]⟩)])::S):=by
 obtain⟨av,s⟩:=cD.1 s;refine Call.of_wp (hT.free _ U) func25 U U (zK 9 U (zY s 0 DV b8 U (zk 6 U (zY s 0 DV b8 U (zo U (ag (r:=.int .u64 ((nx+1:Nat):Int)) U U (by grind[aT,eB])) ?_)))));refine zn U (zf U (DV _ _)<|zS U (by exact s.cS (k:=0) U gL U O U U) (λh s=>?_));refine zk 5 U (zY s 0 iw kA U (zk 2 U<|aq.Cg s U U U U (λJ h s=>(zo U (cE U (by rw[ae0];rfl)) ?_))));refine aq.bG s U U U (c7 U U) (λI h s=>(aq.cy U U (OpR.mapUpdate U U U U (nZ (n:=(nx:Int)) (f:=λv (r:Nat)=>.pu (v=.ptr r 0)) (x:=I) (λ_ _=>bg.pu _) ((s.ae [3]).eF U) tC bS)) ?_));intro _ h s;rw[Yu λe he=>by
  grind] at s
 have s:=uy (f:=λv (_:Unit)=>.pu (v=.agg [])) (s.ae [2]);have s:=(s.ad6 (k:=2)).ad6 (k:=1);have s:=s.ae [4,0,0,0];have s:Sat h (rG I nx ⟨0,0,0,[],[],[]⟩::_):=iI.2 ⟨.aP,.aP,.map J,s⟩;have s:=X3 (s.ae [0,2]);have s:=s.ae [2,1,0];refine zk 7 U (zR U ⟨U,I,cD.2 ⟨av,?_⟩⟩);rw[mD];exact s
theorem Va (hT:WT told)(hB:B<=900)(hI:TxI N B M ba ck mk rs ε)(I:ba+szB rs<=1000000)(hN:N<=1024)(J:id<2097152)(hx:L[i]?=some (id,rr,A))(hl:A.cx<2097152)(hf:szB rs+40<=M)
 (s:Sat h (eL m a nx u L::SA a p q r .aW data aF ε::S)):
  Call ⟨prog,told⟩ 27 [.ptr m 0,.int .u64 (id:Int)] h λv h'=>v=.int .i64 0/\∃c8 aj,(∀m,pgA aj m=pgA ε m)/\szB c8<=40/\TxI N (B+2) M ba ck mk (rs++c8) aj /\
   Sat h' (eL m a nx u (L.eraseIdx i)::SA a p q r .aW data aF aj::S):=by
 have hW:=hT.wr.w;obtain⟨av,s⟩:=cD.1 s;obtain⟨ir,mh⟩:=sr hx (s.ae [1]);refine Call.of_wp (hW.free _ U) func27 U U (zK 8 U (zY s 0 iw kA U (zm U (zo U (e_ U U ir) (zk 6 U (zC U (tq ow) U (zk 7 U ?_)))))));have s:=(iJ hx).1 (s.ae [2]);obtain⟨mv,dv,pv,s⟩:=iI.1 s;have s:=s.ae [5,0,4,4];refine zc U (PZ (kd:=3) hT hB hI I hN J hl hf O O s) ?_;rintro v h ⟨rfl,c8,aj,ig,eR,jR,s⟩;refine zk 2 U (zR U ⟨U,c8,aj,ig,eR,jR,?_⟩);rw[JV hx mh] at s;have s:=s.ae [0,0,4];exact((cD.2 ⟨av,s⟩).del 4 |>.del 3 |>.del 2)
end
end Go.Proofs.YtiojppeahfoiaaaGreat.Am
