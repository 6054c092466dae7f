/- TreeFull: a part of its proof; conditions: its statement's. -/
import Derived.Test.YtdonpgpfplgigaaGreatS06
import Derived.Test.YtdonpgpfplgigaaGreatS05
import Derived.Test.YtdonpgpfplgigaaGreatS04
import Derived.WalkKit
import Derived.ProofKit
import Derived.OpenShut
import Derived.ChangeSlices
import Derived.Test.YtdonpgpfplgigaaGreatRows
set_option linter.defProp false
namespace Go.Proofs.YtdonpgpfplgigaaGreat.Am
open Go
def jM:=@Tryz.underlying28
def GP:=@Tryz.underlying92
def GQ:=@Tryz.func157
def GR:=@Tryz.underlying22
variable {X Y C:aE} {cap:Cap} {e:En} {ε c_:bA} {pg:bA->Int->List Nat} {Q:Ex->List (Nat×V)->H->Prop} {fx:Fx} {h h' σ:H} {d:Int} {P P' P0:Int->List Nat} {kl kr kk:fo} {lo k:Ky} {now:List (Int×List Nat)} {cs eD dS ou J:List (List Nat)} {E:List (Nat×V)} {S:List aE} {eL eR jH es gM:List En} {fs:List pz} {ks:List fo} {Z data R M ot pO b ps c lU lV qs bu bl br:List Nat} {us ds xS:List V} {A N B g a q r aR root L x n i id off l kb j kd link extra alt xu nu xl nl xr nr Lx ui xi p9 p6 K nt fuel:Nat} {fz:Nat×Nat} {F:Nat->List (List Nat)->Prop} {hi:Option Ky} {α H':Type} {t te:TypeId} {w u y z kv vv lv rv:V}
def qT (N root:Nat)(R ot:List Nat)(Z:List Nat)(A Lx:Nat)(P0 P':Int->List Nat)(es:List En): Prop:=∃M' L' cs' I,fU N R M' P'/\jA N M' ((root::I)++ot)/\Nv (cM Z) P' L' [] none cs' es I/\bH (P' root) 204 0 L' cs'/\(L'<=Lx/\lam L' cs'<=A)/\∀m∈ot,P' (m:Nat)=P0 m
section
variable {told:cu} {p:Nat} {b0:List Nat} {e0:Nat} {GL:List (List Nat)} {v pv ov:V} {was:Bool}
noncomputable def tpT : Code:=dm [1,1,1,1,1,1,1,1,1,1] ((Tryz.f14.body).getD .skip)
theorem AV (hT:WI told)(hB:B<=2000)(hN:N<=2999)(cn:EI N B ε)(hw:NW N now)(gI:fU N R M (pgG now ε))(jd:jA N M ((pO++[n])++ot))(nP:g_ (cM Z) (pgG now ε) L root (fx.map (·.2)) 0 lo hi n eL eR pO)(jX:kj lo hi jH)(fG:jH≠[])(mh:fx.length=L)(hL:L<=60)(Uc:yp L root (pgG now ε) A (jH.map eB) fx)
 (hA:(e0=0/\∃b',bH b' 204 0 0 (jH.map eB)/\Sat h (GA g a p q r data aR now ε::bf pv b'::aY x n 0 b0 GL::S)) \/
   (e0=7/\486<cy (jH.map eB)/\cy (jH.map eB)<=715/\Sat h (GA g a p q r data aR now ε::.arr 1 v us::dy us (jH.map eB)::wyA w (eT fx++[(x,0)])::aY x n 0 b0 GL::nodsA (pgG now ε) 1 fx::S)))(hE:Has E [(0,.ptr g 0),(8,ov),(10,.int .i64 (e0:Int)),(11,w),(12,.ptr x 0),(14,.bool was),(16,v),(17,pv)])
 (hq:∀E' h' ah aN,EI N B ah->Sm N ε ah->NW N aN->aN.length<=now.length+4*L+7->Sat h' (GA g a p q r data aR aN ah::S) ->
   ((Has E' [(8,.aZ),(9,.bool false),(10,.int .i64 7)]/\N<=((pO++[n])++ot).length+L+3)\/Has E' [(8,ov),(9,.bool was),(10,.int .i64 0)]/\qT N root R ot Z A (L+1) (pgG now ε) (pgG aN ah) (eL++jH++eR))->Q .ret E' h'): WP ⟨Tryz.prog,told⟩ 112 tpT E h Q:=by
 have hW:=hT.w;have jL:Nv (cM Z) (pgG now ε) 0 lo hi (jH.map eB) jH []:=⟨U,jX,U⟩;have oD:=jd.my n (by simp);rcases hA with⟨rfl,b',uL,s⟩|⟨rfl,Ce,zE,s⟩
 .have s:=s.ae [2];obtain⟨YI,YJ,us0,s⟩:=aU.1 s;refine WP.has hE (zK 4 U (zC U dK (U) (zk 5 U (zB U dK (U) (zk 6 U (zY s 0 iA bP U (zm U ?_)))))));have s:=s.ae [4,4];refine zc U (wZ hW hB cn hw oD.2 s (bh _ _) uL.good) ?_;rintro v0 h ⟨rC,rfl,w1,w2,w3,s⟩;have I:∀q:Int,pgG (cD (n:Int) b' now) rC q=if (n:Int)=q then b' else pgG now ε q:=λq=>by rw[eY,gN w2]
  have Mg:=gz (i:=(n:Int)) (b:=b') (now:=now);generalize YL:cD (n:Int) b' now=o6 at s I w3 Mg;refine zk 6 U (zC U aG (U) (zk 11 U (WP.ret ?_)));have fB:=jd.nd;rw[dN,mJ] at fB;have yq:=fB.2.1;rw[fJ,oO] at yq;obtain⟨GN,cs',t1,t2,t3,t4⟩:=g_.QO (nP.frame (P':=pgG o6 rC) λq hq=>by
   have:q≠n:=λe=>fB.2.2 q hq n (by simp) e;rw[I,ai (by omega)]) (jL.frame λq hq=>by cases hq) (by rw[I,ay U];exact uL) (λ_=>by
   unfold cM;rw[ay U];simpa using fG)
  have hA4:yp L root (pgG o6 rC) A (jH.map eB) fx:=by
   cases fx with
   |nil=>exact Uc
   |cons e t =>
    have O8:root∈pO:=by
     rcases nP.rt with⟨q,_⟩|⟨_,q⟩
     .cases q
     .exact q
    intro c hc;have:root≠n:=λe=>fB.2.2 root O8 n (by simp) e;rw[I,ai (by omega)] at hc;exact Uc c hc
  refine hq _ _ rC o6 w1 w2 w3 (by omega) (s.skip 5) (.inr ⟨⟨U,U,U,aa⟩,M,L,cs',GN,gI.frame ?_ ?_,jd.perm (t3.symm.append_right ot),t1,t2,⟨by omega,hA4.fin t2 t4⟩,λm hm => ?_⟩)
  .rw[I,ai (by omega)]
  .rw[I,ai (by omega)]
  .have:m≠n:=λe=>yq.1 (by rw[<-e];exact js _ hm);rw[I,ai (by omega)]
 .have s:=((s.ae [1]).r8).dM GB;have s:=s.ae [1,0];refine WP.has hE (zK 4 U (zB U dK (U) (zk 6 U (zc U (W4 (ot:=ot) (root:=root) (R:=R) hT hB hN (fx.length+1) fx 0 x n 0 lo hi eL eR pO (jH.map eB) GL b0 jH [] v w us ε now M Z A L h S (tC _) cn hw gI jd nP jL Ce (by rw[ay U];exact zE) (by omega) hL Uc s) ?_))));rintro v0 h ⟨rC,o6,w1,w2,w3,w4,s,(⟨rfl,qX⟩|⟨rfl,uR⟩)⟩
  .skip;exact zk 6 U (zB U aG (U) (zk 9 U (WP.ret (hq _ _ rC o6 w1 w2 w3 (by rw[<-mh];exact w4) s (.inl ⟨⟨U,U,U,aa⟩,by rw[<-mh];exact qX⟩)))))
  .skip;exact zk 6 U (zC U aG (U) (zk 11 U (WP.ret (hq _ _ rC o6 w1 w2 w3 (by rw[<-mh];exact w4) s (.inr ⟨⟨U,U,U,aa⟩,uR⟩)))))
end
theorem Ud {f:V->α->aE}{a b:PM}{c:α}: ∀ {l:List V} {m:List α} (k:Nat),(each f l m).p a b->(f u c).p a b->(each f (l.set k u) (m.set k c)).p a b:=by
 intro l;induction l with
 |nil=>intro m k h _;cases m with
  |nil=>exact h
  |cons x m=>exact h.elim
 |cons v l I=>intro m k h hu;cases m with
  |nil=>exact h.elim
  |cons x m=>cases k with
   |zero=>exact⟨hu,h.2⟩
   |succ k=>exact⟨h.1,I k h.2 hu⟩
theorem acp {P:Program}{b c:Nat}{x:V}(I:look E a=some x)(hb:look E b=some y)(hc:look E c=some z): resLE P E h [.tmp a,.tmp b,.tmp c]=some (.aX [x,y,z]):=by
 simp only[resLE,mapO,resE,I,hb,hc]
section
variable {told:cu} {p:Nat} {k val:List Nat}
theorem O9 (s:Sat h (og u c::dy us cs::S)): Sat h (dy (us.set i u) (cs.set i c)::S) :=
 s.two (aI.b8 _ _) (aI.qS _ _) λm r a b=>Ud i b a
def CJ (v:V)(o:Option (List Nat)): aE:=match o with
 |none=>.pu (v=.aZ)
 |some l=>bf v l
set_option maxHeartbeats 1000000 in
theorem O_ (hT:WI told)(hB:B<=2000)(hN:N<=2999)(cn:EI N B ε)(hw:NW N now)(gI:fU N R M (pgG now ε))(jd:jA N M ((root::ps)++ot))(jL:Nv (cM Z) (pgG now ε) L [] none cs es ps)(hp:bH (pgG now ε root) 204 0 L cs)(hL:L<=60)(hA:lam L cs<=A)(hX:cC X (cK kv k))(hY:cC Y (cK vv val))(hk:1<=k.length/\k.length<=96)(LO:val.length<=128)
 (s:Sat h (GA g a p q r data aR now ε::X::Y::S)):
  Call ⟨Tryz.prog,told⟩ 14 [.ptr g 0,.int .i64 (root:Int),kv,vv] h λv h'=>∃ah aN,EI N B ah/\Sm N ε ah/\NW N aN/\aN.length<=now.length+4*L+7/\((v=.aX [.aZ,.bool false,.int .i64 7]/\N<=((root::ps)++ot).length+L+3/\Sat h' (GA g a p q r data aR aN ah::X::Y::S)) \/
   (∃ov,v=.aX [ov,.bool (gq es k).isSome,.int .i64 0]/\Sat h' (GA g a p q r data aR aN ah::CJ ov (gq es k)::X::Y::S)/\qT N root R ot Z (A+104) (L+1) (pgG now ε) (pgG aN ah) (uY es k val))):=by
 have hW:=hT.w;have tg:=jd.my root (by simp);refine Call.of_wp (hW.free _ U) Tryz.func14 U U (zK 10 U (zc U (ET hW (s.ae [1]) hX) ?_));rintro v h' ⟨rfl,rfl⟩;rw[dZ hk];refine zh U (eo U U) (U) (zk 2 U (zo U (aD U U U (bw aP (s.aC (k:=2) U hY))) (zC U cA (decide_eq_false (by omega)) ?_)));refine zk 7 U (zo U (oz U (mki_of j9 U)) (zk 2 U (zc U (J4 hT.toWB (ES hW hB hw) (by omega) (by omega) hX jL hp cn U tg.2 (λm hm=>(jd.my m (by simp[hm])).2) s) ?_)));rintro v h ⟨w,x,n,lo,hi,eL,eR,pO,es',fx,c_,rfl,q1,q2,q3,q4,q5,q6,q7,q8,q9,pE,s⟩;have uK:(eT fx).length=L:=by rw[eT,jt,cf,pE]
 have mh:(eT fx++[(x,0)]).length=L+1:=by rw[aO,uK];rfl
 obtain⟨id,off,e1,e2,_⟩:=w6 (P:=Tryz.prog) (j:=L) (x:=x) (i:=0) eS lM (by rw[hU (by omega),uK,gK];rfl) s;have W8:es'.length<=512:=by have:=q3.fits;rw[cf] at this;omega
 refine zk 10 U (zC U aG (U) (zk 7 U (zo U (aD U U U (s.fS (j:=0) (n:=L+1) U (by rw[lq,mh]) (by decide) eS)) ?_)));refine zo U (aq (r:=.int .i64 (L:Int)) U U (by rw[show((L:Nat):Int)=((L+1:Nat):Int)-1 by omega];exact dV ak)) ?_;refine zo U (bM (r:=.ptr id off) U U e1) (zf U (jx _ _) (zl U (e2 _ fD) (zk 6 U (zc U (AP hT.toWB hX q2 W8 (s.ae [1,3])) ?_))));rintro v h ⟨i,rfl,hl,s⟩;refine zk 10 U (zc U (aag hW (s.ae [1,4]) hX hY (by omega) (by omega)) ?_);intro cb h s;have Ec:=(s.aC (k:=0) U (bh _ _)).cells;have s:=Q5 (by omega) (s.ff.ae [4]);have s:=s.ae [4];obtain⟨bv,cv,us,s⟩:=aU.1 s;have oo:=ko (s.ae [3]);rw[cf] at oo;refine zk 6 U (zY s 0 cP gx U (zc U (mY hW (s.ae [2]) (cU _ _ _)) ?_));intro cl h s;have s:=s.ae [0,0,0,0,0,0,0,2,2];obtain⟨Jt,Ml⟩:=q1.side q7;have gY:pgG now c_=pgG now ε:=gN q6;rw[<-gY] at s;have AN:fU N R M (pgG now c_):=by rw[gY];exact gI
 have tZ:jA N M ((pO++[n])++ot):=jd.perm (q9.symm.append_right ot);have Q9:g_ (cM Z) (pgG now c_) L root (fx.map (·.2)) 0 lo hi n eL eR pO:=by rw[gY];exact q1
 have CG:=q2.put (v:=val) hl q7 hk.1 hk.2 LO;have uW:uY es k val=eL++AM es' i (sameE es' k i) (k,val)++eR:=by
  rw[<-q8];exact Wv (by rw[q8];exact jL.ok.jZ) hl Jt Ml
 have nL:gq es k=gq es' k:=by rw[<-q8];exact EX Jt Ml
 have lB:bH (pgG now c_ n) 204 0 0 (es'.map eB):=by rw[gY];exact q3
 have dx:=lB.fits;rw[cf] at dx;have Ju:∀c,yp L root (pgG now c_) (A+104) c fx:=λc=>by
  cases fx with
  |nil =>
   have pE:L=0:=pE.symm;subst pE;exact cN hA (C8 _ _)
  |cons e t =>
   intro d hd;rw[gY] at hd;rw[hd.uniq hp];omega
 have OJ:(eB (k,val)).length<=225:=by simp[eB];omega
 have fin:∀ {ov:V} {o:Option (List Nat)} {E':List (Nat×V)} {h':H} {ah:bA} {aN:List (Int×List Nat)},gq es' k=o->EI N B ah->Sm N c_ ah->NW N aN->aN.length<=now.length+4*L+7->Sat h' (GA g a p q r data aR aN ah::CJ ov o::X::Y::S) ->
   ((Has E' [(8,.aZ),(9,.bool false),(10,.int .i64 7)]/\N<=((pO++[n])++ot).length+L+3)\/Has E' [(8,ov),(9,.bool o.isSome),(10,.int .i64 0)]/\qT N root R ot Z (A+104) (L+1) (pgG now c_) (pgG aN ah) (eL++AM es' i (sameE es' k i) (k,val)++eR)) ->
   ∃v,resLE Tryz.prog E' h' [.tmp 8,.tmp 9,.tmp 10]=some v/\∃ah aN,EI N B ah/\Sm N ε ah/\NW N aN/\aN.length<=now.length+4*L+7/\((v=.aX [.aZ,.bool false,.int .i64 7]/\N<=((root::ps)++ot).length+L+3/\Sat h' (GA g a p q r data aR aN ah::X::Y::S)) \/
    (∃ov,v=.aX [ov,.bool (gq es k).isSome,.int .i64 0]/\Sat h' (GA g a p q r data aR aN ah::CJ ov (gq es k)::X::Y::S)/\qT N root R ot Z (A+104) (L+1) (pgG now ε) (pgG aN ah) (uY es k val))):=by
  intro ov o E' h' ah aN ho w1 w2 w3 w4 s' I;rcases I with⟨⟨r1,r2,r3,_⟩,qX⟩|⟨⟨r1,r2,r3,_⟩,ht⟩
  .exact⟨_,acp r1 r2 r3,ah,aN,w1,q6.trans w2,w3,w4,.inl ⟨U,by have:=q9.length_eq;simp only[aO,aW,b6] at this qX ⊢;omega,s'.del 1⟩⟩
  .exact⟨_,acp r1 r2 r3,ah,aN,w1,q6.trans w2,w3,w4,.inr ⟨ov,by rw[nL,ho],by rw[nL,ho];exact s',by rw[uW,<-gY];exact ht⟩⟩
 cases hq:sameE es' k i with
 |true =>
  rw[hq] at CG fin;obtain⟨e,he,xM⟩:=EY hq;have ho:=Il q2.nodup he xM;obtain⟨c1,c2,c3⟩:=we q2 he;have fH:=(List.getElem?_eq_some_iff.1 he).1;have mB:(AM es' i true (k,val)).map eB=(es'.map eB).set i (eB (k,val)):=Dd;have s:=(s.ae [4]).dup (aI.qS _ _);have s:=s.ae [4,4,3,0];have s:Sat h (aY x n 0 (pgG now c_ n) (es'.map eB)::_):=aU.2 ⟨bv,cv,us,s⟩;refine zk 16 U (zc U (DR hW c1 c2 c3 s) ?_);rintro Jo h s;rw[DT] at s;refine zc U (si hW s (bp _ _) (by have:=(q2.sz e (aJ he)).2.2;omega)) ?_;intro ov h s;have s:=((s.del 1).ae [3]).dM kY;obtain⟨Ue,Mm,h4,e4,e5,s4⟩:=tc (P:=Tryz.prog) (i:=i) (x:=cb) s (by omega) Ec.1 Ec.2 aQ dP;refine zk 7 U (zo U (bM (r:=.ptr Ue Mm) U U e4) (zS U (⟨_,e5,s4⟩) ?_));intro h s;have s:=s.ae [2];obtain⟨bv3,cv3,us3,s⟩:=aU.1 s;have s:=s.ae [1,7];refine zk 4 U (zY s 2 nT bS U (zk 2 U (zc U (Ww hW (i:=i) s (bp _ _) (bp _ _) lB c1 (by omega)) ?_)));have uw:=qo (c':=eB (k,val)) c1;have fG:AM es' i true (k,val)≠[]:=G8 (by show 0<(es'.set i (k,val)).length;rw[cG];omega);rintro v0 h (⟨hf,pv,b',rfl,uL,s⟩|⟨hf,rfl,s⟩)
  .have s:=s.ae [3,1,2,2];have s:Sat h (aY x n 0 (pgG now c_ n) (es'.map eB)::_):=aU.2 ⟨bv3,cv3,us3,s⟩;have s:=((((s.del 7).del 6).del 5).del 3).del 2;have s:=s.ae [3,1,0,0];refine zk 6 U ?_;refine AV (was:=true) (v:=cl) (us:=us) (w:=w) (e0:=0) (ot:=ot) (root:=root) (R:=R) (L:=L) hT hB hN q5 hw AN tZ Q9 CG fG pE hL (Ju _) (.inl ⟨U,b',by rw[mB];exact uL,s⟩) ⟨U,U,U,U,U,U,U,U,aa⟩ λE' h' ah aN w1 w2 w3 w4 s' I=>⟨aa,fin (o:=some e.2) ho w1 w2 w3 w4 s' I⟩
  .have s:=s.ae [2,0,1,1];have s:Sat h (aY x n 0 (pgG now c_ n) (es'.map eB)::_):=aU.2 ⟨bv3,cv3,us3,s⟩;have s:=O9 (i:=i) (s.ae [1,3]);have s:=s.ae [6,2,0,2,0,1,0];refine zk 6 U ?_;refine AV (pv:=.aZ) (was:=true) (v:=cl) (w:=w) (e0:=7) (ot:=ot) (root:=root) (R:=R) (L:=L) hT hB hN q5 hw AN tZ Q9 CG fG pE hL (Ju _) (.inr ⟨U,by rw[mB,kx,cG];omega,by rw[mB,kx,cG,cf];omega,by rw[mB];exact s⟩) ⟨U,U,U,U,U,U,U,U,aa⟩ λE' h' ah aN w1 w2 w3 w4 s' I=>⟨aa,fin (o:=some e.2) ho w1 w2 w3 w4 s' I⟩
 |false =>
  rw[hq] at CG fin;have ho:=hl.none q2 hq;have fG:AM es' i false (k,val)≠[]:=G8 (by show 0<(c8 i (k,val) es').length;rw[ki hl.le];omega);have mB:(AM es' i false (k,val)).map eB=c8 i (eB (k,val)) (es'.map eB):=by simp[AM,c8,rL,tH]
  refine zk 17 U (au.any U U U (OpR.of (R:=λv h'=>v=.sl h.next 0 1 (.exact 1)/\h'=h.new (.cells 1 [cb] false)) (je U (W3 aQ lK dP U Ec.1 Ec.2)) ⟨U,U⟩) ?_)
  rintro v' h' ⟨rfl,rfl⟩;have s:=s.new (.cells 1 [cb] false);refine zc U (Ua hT (s.ae [1]) Ec.2 (by rw[oo];exact hl.le) (by omega)) ?_;intro iv h s;have s:=s.ae [3,5];refine zk 5 U (zY s 4 nT bS U (zk 2 U (zc U (LJ hW (i:=i) s (bp _ _) (bp _ _) lB (by rw[cf];exact hl.le) (by omega)) ?_)));rintro v0 h (⟨hf,pv,b',rfl,uL,s⟩|⟨hf,rfl,s⟩)
  .have s:=s.ae [5,1,3,3];have s:Sat h (aY x n 0 (pgG now c_ n) (es'.map eB)::_):=aU.2 ⟨bv,cv,us,s⟩;have s:=((((s.del 5).del 4).del 3).del 2).gJ (φ:=V.aZ=.aZ) U;have s:Sat h (CJ .aZ none::_):=s;have s:=s.ae [3,2,1,0];refine zk 6 U ?_;refine AV (was:=false) (v:=iv) (us:=us) (w:=w) (e0:=0) (ot:=ot) (root:=root) (R:=R) (L:=L) hT hB hN q5 hw AN tZ Q9 CG fG pE hL (Ju _) (.inl ⟨U,b',by rw[mB];exact uL,s⟩) ⟨U,U,U,U,U,U,U,U,aa⟩ λE' h' ah aN w1 w2 w3 w4 s' I=>⟨aa,fin (o:=none) ho w1 w2 w3 w4 s' I⟩
  .have s:=(s.ae [5]).dup (aI.qS _ _);have s:=O7 (i:=i) (s.ae [3,0]);have s:=s.ae [5,2,3,1];have s:Sat h (aY x n 0 (pgG now c_ n) (es'.map eB)::_):=aU.2 ⟨bv,cv,us,s⟩;have s:=s.gJ (φ:=V.aZ=.aZ) U;have s:Sat h (CJ .aZ none::_):=s;have s:=s.ae [6,3,2,2,1,1,0];dsimp only[aM,bringA,getA] at s;refine zk 6 U ?_;refine AV (pv:=.aZ) (was:=false) (v:=iv) (w:=w) (e0:=7) (ot:=ot) (root:=root) (R:=R) (L:=L) hT hB hN q5 hw AN tZ Q9 CG fG pE hL (Ju _) (.inr ⟨U,by rw[mB,kx,ki (by rw[cf];exact hl.le),wV];omega,by rw[mB,kx,ki (by rw[cf];exact hl.le),wV,cf];omega,by rw[mB];exact s⟩) ⟨U,U,U,U,U,U,U,U,aa⟩ λE' h' ah aN w1 w2 w3 w4 s' I=>⟨aa,fin (o:=none) ho w1 w2 w3 w4 s' I⟩
end
def dw (es:List En): List V:=es.flatMap λe=>[.str e.1,.str e.2]
theorem eN : ∀(l:List En),(dw l).length=l.length*2:=by
 intro l;induction l with
 |nil=>rfl
 |cons e l I=>rw[dw,eE,aO];show 2+(dw l).length=_;rw[I,aW];omega
theorem AW {a b:List En}: dw (a++b)=dw a++dw b:=nC
theorem aar : ∀ {l:List En} {j:Nat} {e:En},l[j]?=some e->((dw l).drop (j*2)).take 2=[.str e.1,.str e.2]:=by
 intro l;induction l with
 |nil=>simp
 |cons a t ih =>
  intro j e I;cases j with
  |zero =>
   simp only[jN,aA] at I;subst I;rfl
  |succ j =>
   rw[show dw (a::t)=[.str a.1,.str a.2]++dw t from U,show(j+1)*2=2+j*2 by omega,<-vN];exact ih I
theorem Jv : ∀ {a b:List Nat},lessL a b=decide (a<b):=by
 intro a;induction a with
 |nil=>intro b;cases b with
  |nil=>rfl
  |cons y b=>simp[lessL]
 |cons x a ih=>intro b;cases b with
  |nil=>simp[lessL]
  |cons y b =>
   simp only[lessL,He,ih];by_cases I:x<y
   .simp[I,Nat.blt_eq]
   .by_cases h2:x=y
    .subst h2;simp
    .have e1:Nat.blt x y=false:=by
      cases q:Nat.blt x y with
      |false=>rfl
      |true=>exact absurd (gi.1 q) I
     rw[e1,fM h2];simp[I,h2]
section
variable {P:Program} {v:V}
theorem GS (hu:P.underlying t=some (.slice te))(I:bq P te=some 2)(he:es[i]?=some e)(s:Sat h (.arr 2 v (dw es)::S)):
  ∃id off,indexAddrV P t v (.int .i64 (i:Int))=some (.ptr id off)/\(∀t',isAggT P t'=some false->loadV P h t' (.ptr id off)=some (.str e.1))/\(∀t',isAggT P t'=some false->loadV P h t' (.ptr id (off+1))=some (.str e.2)) /\
   (isAggT P te=some true->loadV P h te (.ptr id off)=some (.agg [.str e.1,.str e.2])):=by
 have hi:=(List.getElem?_eq_some_iff.1 he).1;have hb:i*2+2<=(dw es).length:=by rw[eN];omega
 rcases (s.BZ (j:=0) U (jg _ _ _)).2 with⟨_,q⟩|⟨id,n,cap,N,rest,rfl,hg,e1,e2,_⟩
 .rw[q] at hb;simp at hb
 .have hd:((dw es++rest).drop (i*2)).take 2=[.str e.1,.str e.2]:=by
   rw[<-aar he,G2 (by omega),G3 (by rw[fA];omega)]
  rw[eN] at e1;refine⟨id,i*2,?_,λt' ht=>BM ht hg ?_,λt' ht=>BM ht hg ?_,λht => ?_⟩
  .simp only[indexAddrV,hu,I,fI];rw[show(decide ((0:Int)<=(i:Int))&&decide ((i:Int)<(n:Int)))=true by simp;omega,ag,eW]
  .rw[gE];have:=dg (λl=>l[0]?) hd;simpa[ic,fq] using this
  .rw[gE];have:=dg (λl=>l[1]?) hd;simpa[ic,fq] using this
  .simp only[loadV,ht,I];rw[pN hg (by rw[aO];exact e2),hd];rfl
end
theorem Uf (h:gq es k=none\/e.1≠k): gq (es++[e]) k=if e.1=k then some e.2 else gq es k:=by
 rw[EW];have I:gq [e] k=if e.1=k then some e.2 else none:=by
  by_cases q:e.1=k<;>simp[gq,q]
 rw[I];by_cases q:e.1=k
 .rw[ay q,ay q];rcases h with h|h
  .rw[h];rfl
  .exact absurd q h
 .rw[ai q,ai q];cases gq es k<;>rfl
theorem Mn : ∃i,Tryz.prog.info? 53=some i/\i.size=2/\i.bytes<=4096 :=
 ⟨_,(show Tryz.prog.info? 53=some ((Tryz.prog.info? 53).getD default) by kernel_rfl),by kernel_rfl,rG (by kernel_rfl)⟩
def ng (es:List En)(k:Ky): List En:=es.filter λe=>decide (e.1≠k)
section
variable {told:cu}
theorem E7 {wv:V}{c:List En}(hl:c.length<=1000)(s:Sat h (.arr 2 wv (dw c)::S)): ∃I h1 w h2,buildSliceV Tryz.prog h 28 1 [(0,.agg [.str e.1,.str e.2])]=some (I,h1)/\appendV Tryz.prog h1 #[28,28] wv I=some (w,h2)/\Sat h2 (.arr 2 w (dw (c++[e]))::S):=by
 obtain⟨i1,c9,fH,pR⟩:=Mn;obtain⟨I,h1,e1,s1⟩:=kV (P:=Tryz.prog) (k:=2) (x:=.agg [.str e.1,.str e.2]) s jM P_ Ew U (by decide) (by decide) U U;obtain⟨w,h2,e2,s2⟩:=iw (s1.ae [1,0]) jM c9 P_ fH pR U (by decide) (by rw[eN];simp[V.cells];omega);have s2:=s2.del 1;exact⟨I,h1,w,h2,e1,e2,by rw[AW];exact s2⟩
noncomputable def ltL : Code:=dm [1,1,1,1,0,1,0,0] ((Tryz.f22.body).getD .skip)
theorem Ug (hT:W told)(fB:(es.map (·.1)).Nodup)(hlen:es.length<=600): ∀(j i:Nat) (v:V) (h:H) (E:List (Nat×V)) (Q:Ex->List (Nat×V)->H->Prop),i+j=es.length ->
  Sat h (.arr 2 v (dw (ng (es.take i) k))::.arr 2 lv (dw es)::S)->Has E [(0,lv),(1,.str k),(7,v),(8,.str ((gq (es.take i) k).getD [])),(9,.bool (gq (es.take i) k).isSome),(10,.int .i64 (i:Int))] ->
  (∀E' h' v',Has E' [(7,v'),(8,.str ((gq es k).getD [])),(9,.bool (gq es k).isSome)]->Sat h' (.arr 2 v' (dw (ng es k))::.arr 2 lv (dw es)::S)->Q (.exit 0) E' h')->WP ⟨Tryz.prog,told⟩ 39 (.loop ltL) E h Q:=by
 intro j;induction j with
 |zero =>
  intro i v h E Q hi s hE hq;have hi:i=es.length:=hi;subst hi;rw[jR] at hE s;have Uh:=s.fS (P:=Tryz.prog) (j:=1) (n:=es.length) U (eN _) (by decide) jM;refine WP.loop (WP.has hE (zK 5 U (zo U (aD U U U Uh) (zC U aK (by simp) ?_))));exact zk 2 U (WP.exit (hq _ _ v ⟨U,U,U,aa⟩ s))
 |succ j ih =>
  intro i v h E Q hi s hE hq;obtain⟨e,he⟩:∃e,es[i]?=some e:=⟨_,aF (by omega)⟩;have Uh:=s.fS (P:=Tryz.prog) (j:=1) (n:=es.length) U (eN _) (by decide) jM;have s0:=s.ae [1];dsimp only[bringA,getA,aM] at s0;obtain⟨id,off,e1,e2,e3,e4⟩:=GS (P:=Tryz.prog) jM Ew he s0;have qx:es.take (i+1)=es.take i++[e]:=by rw[nF,he];rfl
  have xh:gq (es.take i) k=none\/e.1≠k:=by
   by_cases q:e.1=k
   .refine .inl (xQ λd hd hdk => ?_);have h1:(es.take (i+1)).map (·.1) |>.Nodup:=(rL (f:=λe:En=>e.1) (l:=es) (i:=i+1)) ▸ fB.sublist (List.take_sublist _ _);rw[qx,rJ,mJ] at h1;exact h1.2.2 d.1 (oK hd) e.1 (by simp) (by rw[hdk,q])
   .exact .inr q
  have I:=Uf xh;rw[<-qx] at I;have Iq:ng (es.take (i+1)) k=if e.1=k then ng (es.take i) k else ng (es.take i) k++[e]:=by
   unfold ng;rw[qx,oM];by_cases q:e.1=k<;>simp[q]
  refine WP.loop (WP.has hE (zK 5 U (zo U (aD U U U Uh) (zB U aK (by simp;omega) ?_))));refine zk 4 U (WP.block (zK 4 U (zo U (bM (r:=.ptr id off) U U e1) (zf U (Sy _ _) (zl U (e2 _ ag9) ?_)))));by_cases q:e.1=k
  .rw[ay q] at I Iq;refine zm U (zo U (aq (r:=.bool true) U U (by simp only[binV,strV,qL,q,Dg])) ?_);refine zv (zi U (zr U (zk 2 U (zo U (bM (r:=.ptr id off) U U e1) (zf U (abE _ _) (zl U (e3 _ ag9) (zk 2 U (zv (zr U (zm U (zb U (by exact aL ak) ?_)))))))))));refine za U (zv ?_);exact ih (i+1) v _ _ Q (by omega) (by rw[Iq];exact s) ⟨U,U,U,by rw[I];rfl,by rw[I];rfl,U,aa⟩ hq
  .rw[ai q] at I Iq;obtain⟨xv,h1,w,h2,f1,f2,s2⟩:=E7 (e:=e) (by have:=CX (λe:En=>decide (e.1≠k)) (es.take i);rw[cz] at this;unfold ng;omega) s;refine zm U (zo U (aq (r:=.bool false) U U (by simp only[binV,strV,qL,q,yJ])) ?_);refine zk 6 U (zo U (bM (r:=.ptr id off) U U e1) (zl U (e4 VA) (au.any U U U (OpR.of (R:=λv h'=>v=xv/\h'=h1) (je U f1) ⟨U,U⟩) ?_)));rintro xv h1 ⟨rfl,rfl⟩;refine au.any U U U (OpR.of (R:=λv h'=>v=w/\h'=h2) (iY U U f2) ⟨U,U⟩) ?_;rintro w h2 ⟨rfl,rfl⟩;refine za U (zv (zr U (zm U (zb U (by exact aL ak) ?_))));refine za U (zv ?_);exact ih (i+1) _ _ _ Q (by omega) (by rw[Iq];exact s2) ⟨U,U,U,by rw[I];rfl,by rw[I];rfl,U,aa⟩ hq
theorem Mp (hT:W told)(I:(es.map (·.1)).Nodup)(hlen:es.length<=600)(s:Sat h (.arr 2 lv (dw es)::S)):
  Call ⟨Tryz.prog,told⟩ 22 [lv,.str k] h λv h'=>∃v',v=.aX [v',.str ((gq es k).getD []),.bool (gq es k).isSome]/\Sat h' (.arr 2 v' (dw (ng es k))::.arr 2 lv (dw es)::S):=by
 refine Call.of_wp (hT.free _ U) Tryz.func22 U U (zK 23 U (WP.block ?_));have s:=s.mq (k:=2);refine Ug hT I hlen es.length 0 .aZ _ _ _ (by omega) s ⟨U,U,U,U,U,U,aa⟩ λE' h' v' dY s' => ?_;have s:=s';exact WP.has dY (zK 9 U (WP.ret ⟨aa,_,U,v',U,s⟩))
end
theorem acq (a b:Ky): a<b\/a=b\/b<a:=by
 by_cases I:a<b
 .exact .inl I
 .by_cases h2:b<a
  .exact .inr (.inr h2)
  .exact .inr (.inl (List.le_antisymm (List.not_lt.1 h2) (List.not_lt.1 I)))
theorem Ui : ∀ {es:List En},(es.Pairwise λa b=>a.1<b.1)->ng es k=es.filter (λe=>decide (e.1<k))++es.filter (λe=>decide (k<e.1)):=by
 intro es;induction es with
 |nil=>intro _;rfl
 |cons e t I =>
  intro hs;obtain⟨h1,h2⟩:=List.pairwise_cons.1 hs;have I:=I h2;unfold ng at I ⊢;simp only[ne_eq,decide_not] at I ⊢;rcases acq e.1 k with q|q|q
  .have a:e.1≠k:=λx=>absurd (x ▸ q) (l9 _);have b:¬ k<e.1:=λx=>vP x q;simp[a,b,q,I]
  .have c:t.filter (λe=>decide (e.1<k))=[]:=List.filter_eq_nil_iff.2 λd hd=>by
    have:=h1 d hd;rw[q] at this;simpa using λx=>vP x this
   rw[c] at I;simp[q,I,c,l9]
  .have a:e.1≠k:=λx=>absurd (x ▸ q) (l9 _);have b:¬ e.1<k:=λx=>vP x q;have c:t.filter (λe=>decide (e.1<k))=[]:=List.filter_eq_nil_iff.2 λd hd=>by
    have:=List.lt_trans q (h1 d hd);simpa using λx=>vP x this
   rw[c] at I;simp[a,b,q,I,c]
theorem adN {A B:List En}(I:∀e∈A,e.1<k)(hB:∀e∈B,k<e.1)(he:(A++B)[i]?=some e): (e.1<k↔i<A.length):=by
 by_cases q:i<A.length
 .rw[rE q] at he;exact⟨λ_=>q,λ_=>I e (aJ he)⟩
 .rw[hU (by omega)] at he;exact⟨λx=>absurd x (vP (hB e (aJ he))),λx=>absurd x q⟩
section
variable {told:cu} {A B:List En} {val:Ky}
noncomputable def lpL : Code:=dm [1,1,1,0,1,0,0] ((Tryz.f15.body).getD .skip)
theorem W9 (hT:W told)(hA:∀e∈A,e.1<k)(hB:∀e∈B,k<e.1)(hlen:(A++B).length<=600){Yf x11:V}: ∀(j i:Nat) (h:H) (E:List (Nat×V)) (Q:Ex->List (Nat×V)->H->Prop),i+j=(A++B).length ->
  Sat h (.arr 2 rv (dw (A++B))::S)->Has E [(1,.str k),(2,vv),(9,rv),(10,Yf),(11,x11),(12,.int .i64 ((min i A.length:Nat):Int)),(13,.int .i64 (i:Int))] ->
  (∀E' h',Has E' [(1,.str k),(2,vv),(9,rv),(10,Yf),(11,x11),(12,.int .i64 (A.length:Int))]->Sat h' (.arr 2 rv (dw (A++B))::S)->Q (.exit 0) E' h')->WP ⟨Tryz.prog,told⟩ 55 (.loop lpL) E h Q:=by
 have hAl:A.length<=(A++B).length:=by rw[aO];omega
 intro j;induction j with
 |zero =>
  intro i h E Q hi s hE hq;have hi:i=(A++B).length:=hi;subst hi;rw[Nat.min_eq_right hAl] at hE;have I:=s.fS (P:=Tryz.prog) (j:=0) (n:=(A++B).length) U (eN _) (by decide) jM;refine WP.loop (WP.has hE (zK 5 U (zo U (aD U U U I) (zC U aK (by simp) ?_))));exact zk 2 U (WP.exit (hq _ _ ⟨U,U,U,U,U,U,aa⟩ s))
 |succ j ih =>
  intro i h E Q hi s hE hq;obtain⟨e,he⟩:∃e,(A++B)[i]?=some e:=⟨_,aF (by omega)⟩;have I:=s.fS (P:=Tryz.prog) (j:=0) (n:=(A++B).length) U (eN _) (by decide) jM;obtain⟨id,off,e1,e2,_,_⟩:=GS (P:=Tryz.prog) jM Ew he s;have jG:=adN hA hB he;refine WP.loop (WP.has hE (zK 5 U (zo U (aD U U U I) (zB U aK (by rw[aO] at hi ⊢;simp;omega) ?_))));refine zk 4 U (WP.block (zK 4 U (zo U (bM (r:=.ptr id off) U U e1) (zf U (Sy _ _) (zl U (e2 _ ag9) ?_)))));by_cases q:e.1<k
  .have hm:min (i+1) A.length=i+1:=by have:=jG.1 q;omega
   refine zm U (zo U (aq (r:=.bool true) U U (by simp only[binV,strV,Jv,q,Dg])) ?_);refine zk 4 U (zb U (by exact aL ak) ?_);refine za U (zv (zr U (zm U (zb U (by exact aL ak) ?_))));refine za U (zv ?_);exact ih (i+1) _ _ Q (by omega) s ⟨U,U,U,U,U,by rw[hm];rfl,U,aa⟩ hq
  .skip;refine zm U (zo U (aq (r:=.bool false) U U (by simp only[binV,strV,Jv,q,yJ])) ?_);refine zv (zj U (WP.skip (zr U (zm U (zb U (by exact aL ak) ?_)))));refine za U (zv ?_);have hm:min (i+1) A.length=min i A.length:=by
    have:¬ i<A.length:=λx=>q (jG.2 x);omega
   exact ih (i+1) _ _ Q (by omega) s ⟨U,U,U,U,U,by rw[hm];rfl,U,aa⟩ hq
end
section
variable {P:Program} {v:V} {cs:List V} {k:Nat}
theorem Mq {m:Nat}(ya:srcV h k w=some (ds,m))(hm:ds.length=m*k)(sL:ds.all storable=true)(s:Sat h (.arr k v cs::S)){e:TypeId}{i:TypeInfo}(hu:P.underlying t=some (.slice e))(hi:P.info? e=some i)(hz:zeroT P e=some z)(hk:i.size=k)(hb:i.bytes<=4096)(hl:z.cells.length=k)
 (h1:1<=k)(gm:cs.length+ds.length<=1073741824):
  ∃v' h',appendV P h #[t,t] v w=some (v',h')/\Sat h' (.arr k v' (cs++ds)::S):=by
 have aew:=s.JZ (j:=0) U;have kL:(cs++ds).all storable=true:=by grind
 have I:∀n:Nat,n*k=cs.length->lu (n+m) i.bytes=true:=λn hn=>by
  have e2:n+m<=(n+m)*k:=Nat.le_mul_of_pos_right _ h1;have e3:(n+m)*i.bytes<=(n+m)*4096:=C3 _ hb;grind[ow]
 have nN:∀(σ:H) (n:Nat) (T:List aE),Sat σ T->n*k=cs.length->1<=m->Sat (j7 σ k cs ds (n+m)).2 (.arr k (j7 σ k cs ds (n+m)).1 (cs++ds)::T):=by
  intro σ n T sT hn mB;refine(sT.new (.cells ((n+m)*k) (cs++ds) false)).dM λa r Ea=>⟨kL,.inr ⟨σ.next,n+m,.rest k 0,(n+m)*k,[],U,by rw[fZ];exact Ea,by grind,by grind,U,U,U,U,by omega⟩⟩
 unfold appendV;simp only[hu,hi,hz,hk,hl,ya];rw[show(Nat.ble 1 k&&Nat.ble i.bytes 4096&&Nat.beq k k)=true by simp_all,ag];cases wo:Nat.beq m 0 with
 |true =>
  have:m=0:=beq_iff.1 wo;subst this;have xA:ds=[]:=iZ (by omega);subst xA;obtain⟨m,r,q1,q2,q3⟩:=s.at (k:=0) U;rcases q3.2 with⟨rfl,rfl⟩|⟨id,n,cap,N,rest,rfl,hg,e1,e2,e3,e4⟩
  .grind
  .grind
 |false =>
  have mB:1<=m:=by
   grind[qW]
  obtain⟨a,r,q1,q2,q3⟩:=s.at (k:=0) U;rcases q3.2 with⟨rfl,rfl⟩|⟨id,n,cap,N,rest,rfl,hg,e1,e2,e3,e4⟩
  .have hg:=I 0 (by simp);rw[eW] at hg;simp only[hg,ag];have:=nN h 0 (.arr k .aZ []::S) s (by simp) mB;rw[eW] at this;refine⟨_,_,U,?_⟩;exact(this.ae [1]).drop
  .cases cap with
   |exact c =>
    obtain⟨e4,e5⟩:=e4;simp only[eW];have kR:(cs++rest).take cs.length=cs:=fY U;cases hq:Nat.ble (n+m) c with
    |true =>
     have Bn:=aS.1 hq;have dx:n*k+ds.length<=N:=by rw[hm,<-rM,e4];exact nB _ Bn
     rw[y9 (q1 _ _ hg) (by grind) dx];obtain⟨m',r',p1,p2,p3,x1,x2,x3,x4,x5,⟨_,x6⟩,x7⟩:=s.ok;have pK:x1 id=some (.cells N (cs++rest) false):=by
      rcases x6 with⟨x6,_⟩|⟨w8,n',Bx,N',X4,x6,x8,x9,Yf,_⟩
      .cases x6
      .injection x6 with y1 y2 y3 y4;subst y1;rw[x8];have:=p1 _ _ (x4 _ _ x8);rw[q1 _ _ hg] at this;injection this with this;rw[this]
     have s0:Sat h (pt id (.cells N (cs++rest) false)::S):=⟨s.wf,m',r',p1,p2,p3,x1,x2,x3,x4,x5,pK,x7⟩;have s1:=s0.put (k:=0) (o':=.cells N ((cs++rest).take (n*k)++(ds++(cs++rest).drop (n*k+ds.length))) false) U;refine⟨_,_,U,Sat.dM s1 λa' r'' ha=>⟨kL,.inr ⟨id,n+m,.exact c,N,rest.drop ds.length,U,?_,by grind,by grind,?_,e4,Bn⟩⟩⟩
     .have ha':a' id=some (.cells N ((cs++rest).take (n*k)++(ds++(cs++rest).drop (n*k+ds.length))) false):=ha;simp_all[vJ]
     .grind
    |false =>
     rw[aT,I n e1.symm,ag,pN (q1 _ _ hg) (by grind)];rw[ga,<-e1,kR];have:=nN h n _ s e1.symm mB;exact⟨_,_,U,(this.ae [1]).drop⟩
   |rest e' alt =>
    obtain⟨ek,rfl,rfl,e7⟩:=e4;have ek:=ek.symm;subst ek;simp only[kg,ag,fZ,eW] at hg e2 ⊢;have wq:fF h id 0 k=n:=by
     simp only[fF,q1 _ _ hg];grind[Nat.mul_div_cancel]
    rw[wq];rw[show Nat.ble (n+m) n=false by
     grind[aS],aT,I n e1.symm,show Nat.ble 2 ((n+m)*k)=true from aS.2 (by
      have:2*1<=(n+m)*k:=tG (by omega) h1;omega),kf,ag,pN (q1 _ _ hg) (by omega),q1 _ _ hg]
    simp only;obtain⟨m',r',p1,p2,p3,x1,x2,x3,x4,x5,⟨_,x6⟩,x7⟩:=s.ok;have pK:x1 id=some (.cells N cs false):=by
     grind
    have s0:Sat h (pt id (.cells N cs false)::S):=⟨s.wf,m',r',p1,p2,p3,x1,x2,x3,x4,x5,pK,x7⟩;have:=nN (h.put id none) n _ s0.kill e1.symm mB;rw[ga,h_ (by omega)];exact⟨_,_,U,this⟩
end
section
variable {told:cu} {P:Program} {m:Nat} {val:Ky}
theorem Uj : dw (es.take m)=(dw es).take (m*2):=by
 by_cases hm:m<=es.length
 .have:dw es=dw (es.take m)++dw (es.drop m):=by rw[<-AW,jP]
  rw[this,fY (by rw[eN,cz];omega)]
 .rw[h_ (by omega),h_ (by rw[eN];omega)]
theorem Uk : dw (es.drop m)=(dw es).drop (m*2):=by
 by_cases hm:m<=es.length
 .have:dw es=dw (es.take m)++dw (es.drop m):=by rw[<-AW,jP]
  rw[this,vM (by rw[eN,cz];omega)]
 .rw[tw (by omega),tw (by rw[eN];omega)];rfl
theorem Mr {len:Nat}{row:List V}(I:T.get h.tr id=some (.cells N row false))(hl:row.length=N)(hb:off+len*2<=N): srcV h 2 (.sl id off len cap)=some ((row.drop off).take (len*2),len):=by
 simp only[srcV,pN I hl hb,gQ]
theorem Pb (hu:P.underlying t=some (.slice te))(p_:bq P te=some 2)(s:Sat h (.arr 2 rv (dw es)::S))(hm:m<=es.length):
  (∃w,sliceV P h t rv none (some m) none=some w/\srcV h 2 w=some (dw (es.take m),m))/\∃w,sliceV P h t rv (some m) none none=some w/\srcV h 2 w=some (dw (es.drop m),es.length-m):=by
 rcases (s.BZ (j:=0) U (jg _ _ _)).2 with⟨rfl,q⟩|⟨id,n,cap,N,rest,rfl,hg,e1,e2,_,e4⟩
 .have h0:es.length=0:=by have:=dg List.length q;rw[eN,b6] at this;omega
  have:es=[]:=iZ h0;subst this;have wo:m=0:=by simpa using hm
  subst wo;exact⟨⟨.aZ,by simp only[sliceV,hu,p_];rfl,U⟩,⟨.aZ,by simp only[sliceV,hu,p_];rfl,U⟩⟩
 .rw[eN] at e1 e2;have hn:n=es.length:=by omega
  subst hn;have hl:(dw es++rest).length=N:=by rw[aO,eN];exact e2
  have k1:((dw es++rest).drop 0).take (m*2)=dw (es.take m):=by
   rw[ga,G3 (by rw[eN];omega),Uj]
  have k2:((dw es++rest).drop (m*2)).take ((es.length-m)*2)=dw (es.drop m):=by
   rw[G2 (by rw[eN];omega),fY (by rw[fA,eN];omega),Uk]
  have s1:∀I,srcV h 2 (.sl id 0 m I)=some (dw (es.take m),m):=λI=>by rw[Mr hg hl (by omega),k1]
  have s2:∀I,srcV h 2 (.sl id (m*2) (es.length-m) I)=some (dw (es.drop m),es.length-m):=λI=>by rw[Mr hg hl (by omega),k2]
  cases cap with
  |exact c =>
   have e4:N=c*2/\es.length<=c:=e4;refine⟨⟨_,?_,s1 (.exact c)⟩,?_⟩
   .simp only[sliceV,hu,p_,fy,dz];rw[show(Nat.ble 0 m&&Nat.ble m c)=true by simp;omega,ag,mc,eF,ie,ie];cases Nat.beq c 0<;>rfl
   .by_cases B9:c=m
    .refine⟨.sl id 0 (es.length-m) (.exact (c-m)),?_,?_⟩
     .simp only[sliceV,hu,p_,fy,dz];rw[show(Nat.ble m es.length&&Nat.ble es.length c)=true by simp;omega,ag,qW B9,ag]
     .have h0:es.length-m=0:=by omega
      rw[Mr hg hl (by omega),h0,tw (by omega:es.length<=m)];simp[dw]
    .refine⟨_,?_,s2 (.exact (c-m))⟩;simp only[sliceV,hu,p_,fy,dz];rw[show(Nat.ble m es.length&&Nat.ble es.length c)=true by simp;omega,ag,fM B9,aT,eW]
  |rest z alt =>
   have e4:z=2/\_:=e4;have hz:(Nat.beq z 2&&Nat.ble 1 2)=true:=by simp[e4.1]
   refine⟨⟨.sl id 0 m (.rest 2 (cond (Nat.beq 0 0) alt (cond (Nat.blt 0 m) 0 0))),?_,s1 _⟩,⟨.sl id (m*2) (es.length-m) (.rest 2 (cond (Nat.beq m 0) alt (cond (Nat.blt m es.length) (0+m*2) 0))),?_,s2 _⟩⟩
   .simp only[sliceV,hu,p_,fy,dz];rw[hz,ag,show(Nat.ble 0 m&&(Nat.ble m es.length||Nat.ble m (fF h id 0 2)))=true by simp;omega,ag];simp
   .simp only[sliceV,hu,p_,fy,dz];rw[hz,ag,show(Nat.ble m es.length&&(Nat.ble es.length es.length||Nat.ble es.length (fF h id 0 2)))=true by simp;omega,ag,eW]
end
section
variable {told:cu} {val:Ky}
theorem Pc : (dw es).all storable=true:=by
 rw[nG];intro v hv;obtain⟨e,_,I⟩:=List.mem_flatMap.1 hv;simp only[gd,jQ,mM] at I;rcases I with rfl|rfl<;>rfl
theorem aas (hT:W told)(hs:es.Pairwise λa b=>a.1<b.1)(hlen:es.length<=500)(s:Sat h (.arr 2 lv (dw es)::S)):
  Call ⟨Tryz.prog,told⟩ 15 [lv,.str k,.str val] h λv h'=>∃v',v=.aX [v',.str ((gq es k).getD []),.bool (gq es k).isSome]/\Sat h' (.arr 2 v' (dw (uY es k val))::S):=by
 have fB:(es.map (·.1)).Nodup:=by
  rw[NH,List.pairwise_map];exact hs.imp λh q=>absurd (q ▸ h) (l9 _)
 obtain⟨i1,I,fH,pR⟩:=Mn;refine Call.of_wp (hT.free _ U) Tryz.func15 U U (zK 10 U (zc U (Mp hT fB (by omega) s) ?_));rintro v h ⟨rv,rfl,s⟩;obtain⟨A,hA⟩:∃A,A=es.filter (λe=>decide (e.1<k)):=⟨_,U⟩;obtain⟨B,hB⟩:∃B,B=es.filter (λe=>decide (k<e.1)):=⟨_,U⟩;have hAB:ng es k=A++B:=by rw[hA,hB];exact Ui hs
 have uW:uY es k val=A++[(k,val)]++B:=by rw[hA,hB];simp[uY]
 have NP:A.length<=es.length:=by rw[hA];exact CX _ _
 have K5:B.length<=es.length:=by rw[hB];exact CX _ _
 have Ju:∀e∈A,e.1<k:=λe he=>by rw[hA] at he;exact rG (List.mem_filter.1 he).2
 have hB1:∀e∈B,k<e.1:=λe he=>by rw[hB] at he;exact rG (List.mem_filter.1 he).2
 have ae7:(ng es k).length<=es.length:=CX _ _;rw[hAB] at s ae7;rw[uW];refine zk 17 U (WP.block (W9 hT Ju hB1 (by omega) (A++B).length 0 _ _ _ (by omega) s ⟨U,U,U,U,U,by rw[Nat.zero_min];rfl,U,aa⟩ λE' h' dY s' => ?_));have s:=s';refine WP.has dY ?_;obtain⟨w1,f1,f2⟩:=(Pb (P:=Tryz.prog) (m:=A.length) jM Ew s (by rw[aO];omega)).1;rw[fY U] at f2;have s:=s.mq (k:=2);obtain⟨v2,h2,g1,s2⟩:=Mq (P:=Tryz.prog) f2 (eN A) Pc s jM I P_ fH pR U (by decide) (by rw[eN];simp;omega);rw[dL] at s2;refine zK 9 U (zo U (bK (p:=none) (q:=some (.int .i64 (A.length:Int))) (m:=none) (p':=none) (q':=some A.length) (m':=none) U U U U U (by rw[bN];rfl) U f1) ?_);refine au.any U U U (OpR.of (R:=λv h'=>v=v2/\h'=h2) (iY U U g1) ⟨U,U⟩) ?_;rintro v2 h2 ⟨rfl,rfl⟩;obtain⟨xv,h3,w3,h4,f3,f4,s3⟩:=E7 (e:=(k,val)) (by omega) s2;refine zk 7 U (zo U (cO (r:=.agg [.str k,.str val]) U (by rw[abF];rfl)) ?_);refine au.any U U U (OpR.of (R:=λv h'=>v=xv/\h'=h3) (je U f3) ⟨U,U⟩) ?_;rintro xv h3 ⟨rfl,rfl⟩;refine au.any U U U (OpR.of (R:=λv h'=>v=w3/\h'=h4) (iY U U f4) ⟨U,U⟩) ?_;rintro w3 h4 ⟨rfl,rfl⟩;have s4:=s3.ae [1];obtain⟨w5,f5,f6⟩:=(Pb (P:=Tryz.prog) (m:=A.length) jM Ew s4 (by rw[aO];omega)).2;have hBl:(A++B).length-A.length=B.length:=by rw[aO];omega
 rw[vM U,hBl] at f6;obtain⟨v6,h6,g6,s6⟩:=Mq (P:=Tryz.prog) f6 (eN B) Pc s3 jM I P_ fH pR U (by decide) (by rw[eN,eN];simp;omega);rw[<-AW] at s6;refine zk 7 U (zo U (bK (p:=some (.int .i64 (A.length:Int))) (q:=none) (m:=none) (p':=some A.length) (q':=none) (m':=none) U U U U (by rw[bN];rfl) U U f5) ?_);refine au.any U U U (OpR.of (R:=λv h'=>v=v6/\h'=h6) (iY U U g6) ⟨U,U⟩) ?_;rintro v6 h6 ⟨rfl,rfl⟩;have s:=(s6.del 2).del 1;exact zk 6 U (WP.ret ⟨aa,_,U,_,U,s⟩)
end
section
variable {told:cu}
theorem W_ : fE 0 (eB e)=e.1:=sg
theorem Ms (I:W told)(jX:kj lo hi es)(he:es[i]?=some e)(s:Sat h (aY x n 0 b (es.map eB)::S)):
  Call ⟨Tryz.prog,told⟩ 56 [.ptr x 0,.int .i64 (i:Int)] h λv h'=>∃kv vv,v=.aX [kv,vv,.bool true,.int .i64 0]/\Sat h' (bf kv e.1::bf vv e.2::aY x n 0 b (es.map eB)::S):=by
 obtain⟨c1,c2,c3⟩:=we jX he;obtain⟨z1,z2,z3⟩:=jX.sz e (aJ he);refine Call.of_wp (I.free _ U) Tryz.func56 U U (zK 11 U (zc U (oW I c1 c2 (by omega) c3 s) ?_));intro kv h s;rw[W_] at s;refine zc U (si I s (bp _ _) (by omega)) ?_;intro kb h s;have s:=(s.del 1).ae [1];refine zk 2 U (zc U (DR I c1 c2 c3 s) ?_);intro vv h s;rw[DT] at s;refine zc U (si I s (bp _ _) (by omega)) ?_;intro vb h s;exact zk 5 U (WP.ret ⟨aa,_,U,kb,vb,U,(s.del 1).ae [2,0,0]⟩)
end
section
theorem Nv.whole (h:Nv F P l lo hi cs es ps): Nv F P l [] none cs es ps :=
 h.LY (by cases lo with|nil=>exact nI _|cons x t=>exact oQ (vK _ _)) λb I=>by cases I
theorem g_.zero : ∀ {fs:List pz} {l:Nat} {lo:Ky} {hi:Option Ky} {n:Nat} {eL eR:List En} {pO:List Nat},g_ F P L r fs l lo hi n eL eR pO->(∀f∈fs,f.i=0)->eL=[]:=by
 intro fs;induction fs with
 |nil=>rintro l lo hi n eL eR pO ⟨_,_,_,_,rfl,_⟩ _;rfl
 |cons f fs ih =>
  rintro l lo hi n eL eR pO ⟨fX,eO,ni,ji,iT,kk,h1,_,_,_,_,_,_,_,_,rfl,_⟩ I;rw[ih h1 λg hg=>I g (bk _ hg),I f a_];rfl
theorem g_.last : ∀ {fs:List pz} {l:Nat} {lo:Ky} {hi:Option Ky} {n:Nat} {eL eR:List En} {pO:List Nat},g_ F P L r fs l lo hi n eL eR pO->(∀f∈fs,f.i+1=f.ks.length)->eR=[]:=by
 intro fs;induction fs with
 |nil=>rintro l lo hi n eL eR pO ⟨_,_,_,_,_,rfl,_⟩ _;rfl
 |cons f fs ih =>
  rintro l lo hi n eL eR pO ⟨fX,eO,ni,ji,iT,kk,h1,_,_,_,_,_,_,_,_,_,rfl,_⟩ I;rw[ih h1 λg hg=>I g (bk _ hg),tw (by have:=I f a_;omega)];rfl
def ChD (d:Int)(ks:List fo)(i:Nat): Prop:=(0<d->i=0)/\(d<0->i+1=ks.length)
end
section
variable {told:cu}
theorem acr (hT:W told)(hd:d=1\/d = -1)(hS:Sep lo hi ks)(hlen:ks.length<=512)(s:Sat h (aY x n l b (bF ks)::pt kb (.cells 1 [.int .i64 d] false)::S)):
  Call ⟨Tryz.prog,told⟩ 135 [.ptr x 0,.ptr kb 0] h λv h'=>∃i:Nat,v=.int .i64 (i:Int)/\ChD d ks i/\i<ks.length/\Sat h' (aY x n l b (bF ks)::pt kb (.cells 1 [.int .i64 d] false)::S):=by
 have hn:0<ks.length:=by
  rcases oL ks.length with q|q
  .exact absurd (iZ q) hS.ne
  .exact q
 have s0:=s;obtain⟨bv,cv,us,s⟩:=aU.1 s;have I:lenV Tryz.prog h 98 cv=some (.int .i64 (ks.length:Int)):=by
  have:=gT (P:=Tryz.prog) aQ s
  rwa [dn] at this
 refine Call.of_wp (hT.free _ U) Tryz.func135 U U (zK 7 U (zy s 4 bP U ?_));rcases hd with rfl|rfl
 .skip;exact zB U cA (U) (zk 6 U (WP.ret ⟨aa,_,U,0,U,⟨λ_=>U,λq=>by omega⟩,hn,s0⟩))
 .skip;refine zC U cA (U) (zk 7 U (zY s 0 cP gx U (zo U (aD U U U I) (zo U (aq (r:=.int .i64 ((ks.length-1:Nat):Int)) U U (by rw[show((ks.length-1:Nat):Int)=(ks.length:Int)-1 by omega];exact dV ak)) ?_))));exact zk 2 U (WP.ret ⟨aa,_,U,ks.length-1,U,⟨λq=>by omega,λ_=>by omega⟩,by omega,s0⟩)
end
section
variable {told:cu} {A:bA->aE} {c0:List (Nat×Nat)}
theorem adO {P:Program}{e:TypeId}{c:List (Nat×Nat)}(hu:P.underlying t=some (.slice e))(I:bq P e=some 2)(hj:c[j]?=some (x,i))(s:Sat h (wyA w c::S)):
  ∃id off,indexAddrV P t w (.int .i64 (j:Int))=some (.ptr id off)/\(∀t',isAggT P t'=some false->loadV P h t' (.ptr id off)=some (.ptr x 0))/\∀t',isAggT P t'=some false->loadV P h t' (.ptr id (off+1))=some (.int .i64 (i:Int)):=by
 have I4:=(List.getElem?_eq_some_iff.1 hj).1;obtain⟨id,cap,N,row,rfl,q1,q2,q3,q4,q5,s⟩:=DU s;have hr:=s.abu (k:=0) U;have hd:(row.drop (j*2)).take 2=[.ptr x 0,.int .i64 (i:Int)]:=by
  rw[<-O1 hj,<-q3,l8,rK,yF (by omega)]
 refine⟨id,j*2,?_,λt' ht=>BM ht hr ?_,λt' ht=>BM ht hr ?_⟩
 .simp only[indexAddrV,hu,I,fI];rw[show(decide ((0:Int)<=(j:Int))&&decide ((j:Int)<(c.length:Int)))=true by simp;omega,ag,eW]
 .rw[gE];have:=dg (λl=>l[0]?) hd;simpa[ic,fq] using this
 .rw[gE];have:=dg (λl=>l[1]?) hd;simpa[ic,fq] using this
noncomputable def nxL : Code:=dm [1,0,1,0,0] ((Tryz.f57.body).getD .skip)
set_option maxHeartbeats 1000000 in
theorem Ul (hT:W told)(hR:mE told N B rv A pg)(hN:N<=65536)(hL:L<=60)(hd:d=1\/d = -1): ∀(fx:Fx) (l n:Nat) (lo:Ky) (hi:Option Ky) (eL eR:List En) (pO:List Nat) (ε:bA) (c1:List (Nat×Nat)) (h:H) (E:List (Nat×V)) (S:List aE) (Q:Ex->List (Nat×V)->H->Prop),
  g_ F P L root (fx.map (·.2)) l lo hi n eL eR pO->EI N B ε->pg ε=P->(∀m∈pO,m<N)->fx.length+l=L ->
  Sat h (wyA w (eT fx++c1)::nodsA P (l+1) fx::A ε::pt kb (.cells 1 [.int .i64 d] false)::S)->Has E [(0,rv),(1,w),(5,.ptr kb 0),(8,.int .i64 ((fx.length:Int)-1))] ->
  (∀E' h' ah,(0<d->eR=[])->(d<0->eL=[])->EI N B ah->Sm N ε ah->Sat h' (A ah::S)->Q (.exit 0) E' h') ->
  (∀E' h' ah y m gM e2 Mt fH,(0<d->eR=gM++e2)->(d<0->eL=e2++gM)->kj Mt fH gM->F 0 (gM.map eB)->gM.length<=512->EI N B ah->Sm N ε ah->Has E' [(6,.ptr y 0),(7,.int .i64 0)]->Sat h' (aY y m 0 (P m) (gM.map eB)::A ah::S)->Q .ret E' h')->WP ⟨Tryz.prog,told⟩ 64 (.loop nxL) E h Q:=by
 intro fx
 induction fx with
 |nil =>
  intro l n lo hi eL eR pO ε c1 h E S Q nP cn eA nZ hlen s hE hq hr
  obtain⟨rfl,rfl,rfl,rfl,rfl,rfl,rfl⟩:=nP
  refine WP.loop (WP.has hE (zK 4 U (zC U j6 (by simp) ?_)))
  exact zk 2 U (WP.exit (hq _ _ ε (λ_=>U) (λ_=>U) cn (Sm.refl N ε) (((s.del 3).del 1).drop)))
 |cons e t ih =>
  intro l n lo hi eL eR pO ε c1 h E S Q nP cn eA nZ hlen s hE hq hr
  obtain⟨fX,eO,ni,ji,iT,kk,h1,h2,h3,h4,h5,h6,h7,h8,h9,u9,FK,h12⟩:=nP
  have h2:e.2.ks[e.2.i]?=some kk:=h2
  have h6:bH (P e.2.pg) 204 0 (l+1) (bF e.2.ks):=h6
  have h7:Sep fX eO e.2.ks:=h7
  have u9:eL=ni++(e.2.ks.take e.2.i).flatMap (·.es):=u9
  have FK:eR=(e.2.ks.drop (e.2.i+1)).flatMap (·.es)++ji:=FK
  have xw:=(List.getElem?_eq_some_iff.1 h2).1
  have dx:=h6.fits
  rw[dn] at dx
  have Ip:(eT t).length=t.length:=by rw[eT,jt,cf]
  have eG:(eT (e::t)++c1)[t.length]?=some (e.1,e.2.i):=by
   rw[rB,dN,hU (by omega),Ip,gK]
   rfl
  obtain⟨id,off,e1,e2,e3⟩:=adO (P:=Tryz.prog) eS lM eG s
  rw[show(((e::t).length:Int)-1)=(t.length:Int) by simp] at hE
  have cq:t.length+1+l=L:=hlen
  have xT:∀m∈iT,m<N:=λm hm=>nZ m (by rw[h12];exact bk _ (fc _ hm))
  have s:=vG.1 (s.ae [1])
  dsimp only[aM,bringA] at s
  have s1:=((s.drop).ae [1,0])
  dsimp only[bringA,getA,aM] at s1
  rw[show eT (e::t)++c1=eT t++([(e.1,e.2.i)]++c1) by rw[rB,dN]] at s1
  have stop:(e.2.i:Int)+d<0\/(e.2.ks.length:Int)<=(e.2.i:Int)+d->∀E,Has E [(0,rv),(1,w),(5,.ptr kb 0),(8,.int .i64 ((t.length:Int)-1))]->WP ⟨Tryz.prog,told⟩ 64 (.loop nxL) E h Q:=λq E hE=>by
   have hR':0<d->eR=ji:=λ_=>by
    rw[FK,tw (by omega)];rfl
   have hL':d<0->eL=ni:=λ_=>by
    rw[u9,show e.2.i=0 by omega];simp
   exact ih (l+1) e.2.pg fX eO ni ji iT ε _ _ _ S Q h1 cn eA xT (by omega) s1 hE (λE' h' ah a1 a2=>hq E' h' ah (λq=>by rw[hR' q,a1 q]) λq=>by rw[hL' q,a2 q]) λE' h' ah y m gM e2 Mt fH a1 a2=>hr E' h' ah y m gM e2 Mt fH (λq=>by rw[hR' q,a1 q]) λq=>by rw[hL' q,a2 q]
  obtain⟨bve,YN,use,s⟩:=aU.1 s
  have pW:lenV Tryz.prog h 98 YN=some (.int .i64 (e.2.ks.length:Int)):=by
   have:=gT (P:=Tryz.prog) aQ s
   rwa [dn] at this
  refine WP.loop (WP.has hE (zK 4 U (zB U j6 (by simp) ?_)))
  refine zk 4 U (WP.block (zw (WP.drawn [af,af,af,af,af,af,af,af] U (by kernel_rfl) (by kernel_rfl) ?_)))
  refine zM U (zM U (zO U (bM (r:=.ptr id off) U U e1) (zF U (sJ _ _) (zL U (e3 _ bP) (zL U (s.ld (k:=7) U bP U) (zO U (aq (r:=.int .i64 ((e.2.i:Int)+d)) U U (aL ak)) ?_))))))
  refine zA U ?_
  refine aB.nil ⟨⟨aa,aa,aa,aa,aa,aa,aa,aa,aa⟩,?_⟩
  refine zK 4 U ?_
  by_cases q1:(e.2.i:Int)+d<0
  .skip
   refine zB U aK (by simp;omega) ?_
   refine zk 15 U (WP.exit (zK 2 U (zo U (aq (r:=.int .i64 ((t.length:Int)-1)) U U (dV ak)) ?_)))
   refine za U (zv ?_)
   exact stop (.inl q1) _ ⟨U,U,U,U,aa⟩
  .skip
   refine zh U (aq U U aK) (by simp;omega) ?_
   refine zk 4 U (zo U (bM (r:=.ptr id off) U U e1) (zf U (jx _ _) (zl U (e2 _ fD) (zn U (zY s 0 cP gx U (zo U (aD U U U pW) ?_))))))
   by_cases q2:(e.2.ks.length:Int)<=(e.2.i:Int)+d
   .skip
    refine zB U j6 (by simp;omega) ?_
    refine zk 3 U (WP.exit (zK 2 U (zo U (aq (r:=.int .i64 ((t.length:Int)-1)) U U (dV ak)) ?_)))
    refine za U (zv ?_)
    exact stop (.inr q2) _ ⟨U,U,U,U,aa⟩
   .skip
    refine zC U j6 (by simp;omega) ?_
    obtain⟨j,hj⟩:∃j:Nat,(e.2.i:Int)+d=(j:Int):=⟨((e.2.i:Int)+d).toNat,by omega⟩
    obtain⟨k2,kW⟩:∃k2,e.2.ks[j]?=some k2:=⟨_,aF (by omega)⟩
    have h9:∀j k,e.2.ks[j]?=some k->j≠e.2.i->∃cs',Nv F P l (loK fX e.2.ks j) (cT eO e.2.ks j) cs' k.es k.ps/\F l cs'/\bH (P k.pg) 204 0 l cs':=h9
    obtain⟨cs',g1,g2,g3⟩:=h9 j k2 kW (by omega)
    have sr:=gX kW
    have s:Sat h (aY e.1 e.2.pg (l+1) (P e.2.pg) (bF e.2.ks)::_):=aU.2 ⟨bve,YN,use,s⟩
    refine zk 9 U (zo U (bM (r:=.ptr id off) U U e1) (zf U (jx _ _) (zl U (e2 _ fD) (zm U ?_))))
    rw[hj]
    refine zc U (DS hT sr (h7.pg k2 (aJ kW)) s) ?_
    rintro v0 h ⟨rfl,s⟩
    have s:=s.ae [3,3]
    have s:=((s.del 4).del 3).del 2
    have T8:k2∈e.2.ks.eraseIdx e.2.i:=List.mem_eraseIdx_iff_getElem?.2 ⟨j,by omega,kW⟩
    have T0:∀m∈cL k2,m<N:=λm hm=>nZ m (by rw[h12];exact bk _ (js _ (List.mem_flatMap.2 ⟨k2,T8,hm⟩)))
    refine zo U (JT U U) (zc U (O0 hT hR hN (F:=F) (P:=P) (L:=l) (r:=k2.pg) (by omega) (g:=135) (caps:=[.ptr kb 0]) (K:=pt kb (.cells 1 [.int .i64 d] false)) (Ch:=ChD d) (λhS hlen wL iL s=>acr hT hd hS hlen s) g1.whole g3 cn eA (T0 k2.pg a_) (λm hm=>T0 m (bk _ hm)) U U s) ?_)
    rintro v0 h ⟨w2,x2,n2,Mt,fH,eL2,YO,pO2,gM,I,iJ,rfl,p1,p2,p3,p4,p5,p6,p7,p8,p9,p10,s⟩
    have p7:∀f∈I.map (·.2),ChD d f.ks f.i:=λf hf=>by
     obtain⟨e',sA,rfl⟩:=List.mem_map.1 hf
     exact p7 e' sA
    have mh:(eT I++[(x2,0)]).length=I.length+1:=by rw[aO,eT,jt,cf];rfl
    obtain⟨Ue,Mm,y1,y2,_⟩:=w6 (P:=Tryz.prog) (j:=I.length) (x:=x2) (i:=0) eS lM (by rw[hU (by rw[eT,jt,cf];omega),eT,jt,cf,gK];rfl) s
    refine zk 10 U (zC U aG (U) (zk 7 U (zo U (aD U U U (s.fS (j:=0) (n:=I.length+1) U (by rw[lq,mh]) (by decide) eS)) ?_)))
    refine zo U (aq (r:=.int .i64 (I.length:Int)) U U (by rw[show((I.length:Nat):Int)=((I.length+1:Nat):Int)-1 by omega];exact dV ak)) ?_
    refine zo U (bM (r:=.ptr Ue Mm) U U y1) (zf U (jx _ _) (zl U (y2 _ fD) ?_))
    have hF:F 0 (gM.map eB):=by
     by_cases hf:I.map (·.2)=[]
     .rw[hf] at p1
      obtain⟨q1,_,_,_,rfl,rfl,_⟩:=p1
      subst q1
      obtain⟨rfl,_,_⟩:=g1
      rw[dL,fZ] at p8
      rw[p8]
      exact g2
     .exact p4 hf
    have hl5:gM.length<=512:=by have:=p3.fits;rw[cf] at this;omega
    have gI:e.2.ks.drop j=k2::e.2.ks.drop (j+1):=by
     obtain⟨hb,hk3⟩:=List.getElem?_eq_some_iff.1 kW
     rw[<-hk3]
     exact mH hb
    have sL:e.2.ks.take (j+1)=e.2.ks.take j++[k2]:=by rw[nF,kW];rfl
    refine zk 3 U (WP.ret ?_)
    rcases hd with rfl|rfl
    .refine hr _ _ iJ x2 n2 gM (YO++((e.2.ks.drop (j+1)).flatMap (·.es)++ji)) Mt fH (λ_ => ?_) (λq=>by omega) p2 hF hl5 p5 p6 ⟨U,U,aa⟩ ((((s.ae [1,2]).del 4).del 3).del 2)
     rw[FK,show e.2.i+1=j by omega,gI,eE,<-p8,p1.zero λf hf=>(p7 f hf).1 (by omega)]
     simp[dN]
    .refine hr _ _ iJ x2 n2 gM (ni++((e.2.ks.take j).flatMap (·.es)++eL2)) Mt fH (λq=>by omega) (λ_ => ?_) p2 hF hl5 p5 p6 ⟨U,U,aa⟩ ((((s.ae [1,2]).del 4).del 3).del 2)
     rw[u9,show e.2.i=j+1 by omega,sL,nC,List.flatMap_singleton,<-p8,p1.last λf hf=>(p7 f hf).2 (by omega)]
     simp[dN]
theorem aat (hT:W told)(hR:mE told N B rv A pg)(hN:N<=65536)(hL:L<=60)(hd:d=1\/d = -1)(nP:g_ F P L root (fx.map (·.2)) 0 lo hi n eL eR pO)(cn:EI N B ε)(eA:pg ε=P)(nZ:∀m∈pO,m<N)(mh:fx.length=L)
 (s:Sat h (wyA w (eT fx++[(x,0)])::nodsA P 1 fx::A ε::S)):
  Call ⟨Tryz.prog,told⟩ 57 [rv,w,.int .i64 d] h λv h'=>∃ah,EI N B ah/\Sm N ε ah/\(((0<d->eR=[])/\(d<0->eL=[])/\v=.aX [.cg,.int .i64 0]/\Sat h' (A ah::S)) \/
   ∃y m gM e2 I fH,v=.aX [.ptr y 0,.int .i64 0]/\(0<d->eR=gM++e2)/\(d<0->eL=e2++gM)/\kj I fH gM/\F 0 (gM.map eB)/\gM.length<=512/\Sat h' (aY y m 0 (P m) (gM.map eB)::A ah::S)):=by
 have pW:(eT fx++[(x,0)]).length=fx.length+1:=by
  rw[aO,eT,jt,cf];rfl
 refine Call.of_wp (hT.free _ U) Tryz.func57 U U (zg U (au.cj s U U U (fC U (by rfl)) ?_));intro kb h s;have s:=s.ae [1,1,1,0];have ON:=CF (P:=Tryz.prog) s eS;rw[pW] at ON;refine zk 7 U (zo U (aD U U U ON) (zo U (aq (r:=.int .i64 ((fx.length:Int)-1)) U U (by rw[show((fx.length:Int)-1)=((fx.length+1:Nat):Int)-2 by omega];exact dV ak)) ?_));refine zk 2 U (WP.block ?_);refine Ul hT hR hN hL hd fx 0 n lo hi eL eR pO ε [(x,0)] _ _ _ _ nP cn eA nZ (by omega) s ⟨U,U,U,U,aa⟩ (λE' h' ah k0 k1 k2 k3 s' => ?_) λE' h' ah y m gM YO I fH k0 k1 k2 k3 kl k4 k5 k6 s'=>⟨aa,_,AG k6.1 k6.2.1,ah,k4,k5,.inr ⟨y,m,gM,YO,I,fH,U,k0,k1,k2,k3,kl,s'⟩⟩;have s:=s';exact zK 5 U (WP.ret ⟨aa,_,U,ah,k2,k3,.inl ⟨k0,k1,U,s⟩⟩)
end
def nq (es:List En)(k:Ky): Option En:=es.find? λe => !decide (e.1<k)
section
theorem xU (h:∀e∈eL,e.1<k): nq (eL++es) k=nq es k:=by
 unfold nq;rw[Hp,List.find?_eq_none.2 λe he=>by simp[h e he]];rfl
theorem Ej.Q_ (hl:Ej es k i)(he:es[i]?=some e): nq es k=some e:=by
 have hi:=(List.getElem?_eq_some_iff.1 he).1;have hs:es=es.take i++es.drop i:=(jP i es).symm;rw[hs,xU λd hd => ?_]
 .have hd:es.drop i=e::es.drop (i+1):=by
   obtain⟨_,h2⟩:=List.getElem?_eq_some_iff.1 he;rw[<-h2];exact mH hi
  have hk:¬ e.1<k:=List.not_lt.2 (hl.hi i e he (aH _));rw[hd];simp[nq,hk]
 .obtain⟨j,hj⟩:=List.mem_iff_getElem?.1 hd;have I:j<i:=by have:=(List.getElem?_eq_some_iff.1 hj).1;rw[cz] at this;omega
  rw[G9 I] at hj;exact hl.lo j d hj I
theorem Ej.all (hl:Ej es k es.length): ∀e∈es,e.1<k:=λe he=>by
 obtain⟨j,I⟩:=List.mem_iff_getElem?.1 he;exact hl.lo j e I (List.getElem?_eq_some_iff.1 I).1
end
section
variable {told:cu} {k:List Nat} {A:bA->aE}
theorem Mu (hT:WB told)(hR:mE told N B rv A pg)(hN:N<=65536)(hL:L<=60)(hX:cC X (cK kv k))(hk:k.length<=96)(hv:Nv (cM Z) P L [] none cs es ps)(hp:bH (P r) 204 0 L cs)(cn:EI N B ε)(eA:pg ε=P)(hr:r<N)(nZ:∀m∈ps,m<N)(s:Sat h (A ε::X::S)):
  Call ⟨Tryz.prog,told⟩ 16 [rv,.int .i64 (r:Int),kv] h λv h'=>∃ah,EI N B ah/\Sm N ε ah/\match nq es k with
   |none=>v=.aX [.aZ,.aZ,.bool false,.int .i64 0]/\Sat h' (A ah::S)
   |some e=>∃kb vb,v=.aX [kb,vb,.bool true,.int .i64 0]/\Sat h' (bf kb e.1::bf vb e.2::A ah::S):=by
 have hW:=hT.w;refine Call.of_wp (hW.free _ U) Tryz.func16 U U (zK 11 U (zo U (aD U U U (bw aP (s.aC (k:=1) U hX))) (zC U cA (decide_eq_false (by omega)) ?_)));refine zk 8 U (zc U (J4 hT hR hN (by omega) hX hv hp cn eA hr nZ s) ?_);rintro v h ⟨w,x,n,lo,hi,eL,eR,pO,es',fx,c_,rfl,q1,q2,q3,q4,q5,q6,q7,q8,q9,pE,s⟩;have uK:(eT fx).length=L:=by rw[eT,jt,cf,pE]
 have mh:(eT fx++[(x,0)]).length=L+1:=by rw[aO,uK];rfl
 obtain⟨id,off,e1,e2,_⟩:=w6 (P:=Tryz.prog) (j:=L) (x:=x) (i:=0) eS lM (by rw[hU (by omega),uK,gK];rfl) s;refine zk 10 U (zC U aG (U) (zk 7 U (zo U (aD U U U (s.fS (j:=0) (n:=L+1) U (by rw[lq,mh]) (by decide) eS)) ?_)));refine zo U (aq (r:=.int .i64 (L:Int)) U U (by rw[show((L:Nat):Int)=((L+1:Nat):Int)-1 by omega];exact dV ak)) ?_;refine zo U (bM (r:=.ptr id off) U U e1) (zf U (jx _ _) (zl U (e2 _ fD) (zk 7 U (zc U (AP hT hX q2 (by have:=q3.fits;rw[cf] at this;omega) (s.ae [1,3])) ?_))));rintro v h ⟨i,rfl,hl,s⟩;obtain⟨Jt,Ml⟩:=q1.side q7;have s0:=s;obtain⟨bv,cv,us,s⟩:=aU.1 s;have pW:lenV Tryz.prog h 98 cv=some (.int .i64 (es'.length:Int)):=by
  have:=gT (P:=Tryz.prog) aQ s
  rwa [cf] at this
 refine zk 11 U (zY s 0 cP gx U (zo U (aD U U U pW) ?_));rcases C6 hl.le with cq|rfl
 .obtain⟨e,he⟩:∃e,es'[i]?=some e:=⟨_,aF cq⟩;have YP:nq es k=some e:=by
   rw[<-q8,dN,xU Jt];unfold nq;rw[Hp];have:=hl.Q_ he;unfold nq at this;rw[this];rfl
  rw[YP];refine zB U aK (by simp;omega) ?_;refine zk 6 U (zc U (Ms hW q2 he s0) ?_);rintro v h ⟨kb,vb,rfl,s⟩;exact zk 9 U (WP.ret ⟨aa,_,U,c_,q5,q6,kb,vb,U,(((s.ae [0,0,4]).del 6).del 5).del 4 |>.del 3⟩)
 .have gY:pg c_=P:=by rw[<-eA];funext m;exact hR.same q6 m
  have O8:∀m∈pO,m<N:=λm hm=>by
   have:=q9.mem_iff.1 (fc [n] hm);rcases List.mem_cons.1 this with rfl|h1
   .exact hr
   .exact nZ m h1
  have adP:∀e∈eL++es',e.1<k:=λe he=>by
   rcases List.mem_append.1 he with h1|h1
   .exact Jt e h1
   .exact hl.all e h1
  have YP:nq es k=nq eR k:=by rw[<-q8];exact xU adP
  have s:=(Q5 (by omega) (s0.ae [2])).ae [0,2,2];refine zC U aK (by simp) ?_;refine zk 7 U (zc U (aat (d:=1) hW hR hN hL (.inl U) q1 q5 gY O8 pE s) ?_);rintro v h ⟨iJ,k1,k2,(⟨I,_,rfl,s⟩|⟨y,m,gM,YO,Mt,fH,rfl,I,_,k3,k4,_,s⟩)⟩
  .rw[YP,I (by decide)];refine zk 10 U (zC U aG (U) (zk 2 U (zo U (aq (r:=.bool true) U U (by simp only[binV,eqV,GP,gQ])) ?_)));exact zk 19 U (WP.ret ⟨aa,_,U,iJ,k1,q6.trans k2,U,(s.del 2).del 1⟩)
  .have I:=I (by decide);have fG:0<gM.length:=by
    rw[cM,ay U] at k4;exact List.length_pos_iff.2 λq=>k4 (by rw[q];rfl)
   obtain⟨e,he⟩:∃e,gM[0]?=some e:=⟨_,aF fG⟩;have xM:¬ e.1<k:=λq=>vP q (Ml e (by rw[I];exact fc _ (aJ he)));have ae8:nq es k=some e:=by
    rw[YP,I];cases gM with
    |nil=>simp at fG
    |cons d t =>
     simp only[jN,aA] at he;subst he;simp[nq,xM]
   rw[ae8];have s0:=s;obtain⟨Jo,z7,us2,s⟩:=aU.1 s;have ae9:lenV Tryz.prog h 98 z7=some (.int .i64 (gM.length:Int)):=by
    have:=gT (P:=Tryz.prog) aQ s
    rwa [cf] at this
   refine zk 10 U (zC U aG (U) (zk 2 U (zo U (aq (r:=.bool false) U U (by simp only[binV,eqV,GP,gQ])) ?_)));refine zk 4 U (zY s 0 cP gx U (zo U (aD U U U ae9) (zC U dK (decide_eq_false (by omega)) ?_)));refine zk 7 U (zc U (Ms (i:=0) hW k3 he s0) ?_);rintro v h ⟨kb,vb,rfl,s⟩;exact zk 9 U (WP.ret ⟨aa,_,U,iJ,k1,q6.trans k2,kb,vb,U,((s.del 5).del 4).del 2⟩)
end
section
variable {told:cu} {k:Nat} {v x:V} {l c':List Nat}
theorem Mv (hT:W told)(s:Sat h (X::S))(hX:cC X (cK v b))(hp:bH b kd link extra cs)(hi:i<cs.length)(A1:∀c∈cs,1<=c.length):
  Call ⟨Tryz.prog,told⟩ 70 [v,.int .i64 (i:Int)] h λr h'=>∃u b',r=.aX [u,.int .i64 0]/\bH b' kd link extra (cs.eraseIdx i)/\Sat h' (bf u b'::X::S):=by
 have hl:=hp.len
 have dx:=hp.fits
 have oY:=hp.low
 have qX:=hp.gu
 have hle:∀n,(le 2 n).length=2:=λn=>cQ 2 n
 have wL:cs.length=1->dA b≠512:=λh1=>by
  have hc:cs[0]?=some (cs[0]'(by omega)):=aF _
  have h2:=hp.slot 0 _ hc
  have h3:=A1 _ (aJ hc)
  omega
 have I:=hp.rm (lo:=if cs.length=1 then 512 else dA b) hi (by
  by_cases h1:cs.length=1
  .exact .inr ⟨h1,ay h1⟩
  .exact .inl (if_neg h1))
 obtain⟨n,hn⟩:∃n,cs.length=n+1:=⟨cs.length-1,by omega⟩
 have RK:A_ b i cs.length=az (az (az b (26+4*i) ((b.drop (30+4*i)).take (4*(n-i)))) (26+4*n) (List.replicate 4 0)) 14 (le 2 n):=by
  rw[A_,hn,show n+1-1-i=n-i by omega,show 22+4*(n+1)=26+4*n by omega,show n+1-1=n by omega]
 rw[RK] at I
 refine Call.of_wp (hT.free _ U) Tryz.func70 U U (zK 8 U (zc U (pS hT s hX (by omega)) ?_))
 rintro r h' (⟨hg,u,rfl,s⟩|⟨hg,rfl,s⟩)
 .obtain⟨lS,_,cap,_,rfl,_⟩:=s.eX (by omega)
  refine zk 3 U ?_
  refine au.cj s U U U (cm jD) (λp6 h s => ?_)
  dsimp only[V.cells,List.length_cons,List.length_nil,Nat.reduceAdd] at s
  refine zS U (s.gZ (j:=0) U aV U U) (λh s => ?_)
  dsimp only[setA] at s
  refine zk 3 U (WP.block (zK 3 U (zC U aG (U) (zk 6 U (zC U aK (by simp) ?_)))))
  refine zk 2 U (zl U (s.b9 (k:=0) U bC aV) (zc U (gy hT s (k:=1) U (bh _ _) hl) ?_))
  rintro r h' ⟨rfl,s⟩
  rw[qX,hn]
  refine zC U j6 (by simp;omega) ?_
  refine zk 2 U (zv (zj U (WP.skip (zg U (zl U (by exact s.b9 (k:=0) U bC aV) ?_)))))
  refine zc U (gy hT s (k:=1) U (bh _ _) hl) ?_
  rintro r h' ⟨rfl,s⟩
  rw[qX,hn]
  refine zk 3 U ?_
  have q1:((26:Int)+4*(i:Int)).toNat=26+4*i:=by omega
  have q2:((26:Int)+4*(((n+1:Nat):Int)-1)).toNat=26+4*n:=by omega
  have q3:((26:Int)+4*((i:Int)+1)).toNat=30+4*i:=by omega
  have q4:((26:Int)+4*((n+1:Nat):Int)).toNat=30+4*n:=by omega
  have l1:(az b (26+4*i) ((b.drop (30+4*i)).take (4*(n-i)))).length=512:=by rw[bG (by rw[cz,fA];omega),hl]
  have s0:=s
  refine WP.drawn [af,af,af,af,af,af,af,af,af,af,af,af,af,af,af,af,af,af,af,af,af] U (by kernel_rfl) (by kernel_rfl) ?_
  refine zF U (ey _ _) (zL U (s.ld (k:=0) U bS U) (zM U (zO U (aq U U (by exact jf ak)) ?_)))
  refine zO U (aq U U (by exact aL ak)) ?_
  refine zM U (zO U (aq U U (by exact dV ak)) ?_)
  refine zO U (aq U U (by exact jf ak)) ?_
  refine zO U (aq U U (by exact aL ak)) ?_
  refine zO U (bK (p:=some (.int .i64 (26+4*(i:Int)))) (q:=some (.int .i64 (26+4*(((n+1:Nat):Int)-1)))) (m:=none) (p':=some (26+4*i)) (q':=some (26+4*n)) (m':=none) U U U U (by rw[bN,q1]) (by rw[bN,q2]) U (fR (s.buf (k:=1) U).view (by omega) (by omega)).1) ?_
  refine zF U (ey _ _) (zL U (s.ld (k:=0) U bS U) (zM U (zO U (aq U U (by exact aL ak)) ?_)))
  refine zO U (aq U U (by exact jf ak)) ?_
  refine zO U (aq U U (by exact aL ak)) ?_
  refine zM U (zO U (aq U U (by exact jf ak)) ?_)
  refine zO U (aq U U (by exact aL ak)) ?_
  refine zO U (bK (p:=some (.int .i64 (26+4*((i:Int)+1)))) (q:=some (.int .i64 (26+4*((n+1:Nat):Int)))) (m:=none) (p':=some (30+4*i)) (q':=some (30+4*n)) (m':=none) U U U U (by rw[bN,q3]) (by rw[bN,q4]) U (fR (s.buf (k:=1) U).view (by omega) (by omega)).1) ?_
  refine aB.any U U U U (OpR.Yv (n:=4*(n-i)) U (s.ae [1]) U U U U (by omega) (by omega) (by omega) (by omega) (by omega)) ?_
  intro r h s
  have s:=s.ae [1,0]
  refine aB.nil ⟨⟨aa,aa,aa,aa,aa,aa,aa,aa,aa,aa,aa,aa,aa,aa,aa,aa,aa,aa,aa,aa,aa,aa⟩,?_⟩
  have s:Sat h (pt p6 _::bf _ (az b (26+4*i) ((b.drop (30+4*i)).take (4*(n-i))))::_):=s
  generalize az b (26+4*i) ((b.drop (30+4*i)).take (4*(n-i)))=b1 at s l1 I ⊢
  have l2:(az b1 (26+4*n) (List.replicate 4 0)).length=512:=by rw[bG (by rw[gA];omega),l1]
  have l3:(az (az b1 (26+4*n) (List.replicate 4 0)) 14 (le 2 n)).length=512:=by rw[bG (by rw[hle];omega),l2]
  refine zg U (zY s 0 ey bS U (zm U (zb U (by exact dV ak) ?_)))
  refine zb U (by exact jf ak) ?_
  refine zb U (by exact aL ak) ?_
  refine zm U (zb U (by exact jf ak) ?_)
  refine zb U (by exact aL ak) ?_
  refine zo U (bK (p:=some (.int .i64 (26+4*(((n+1:Nat):Int)-1)))) (q:=some (.int .i64 (26+4*((n+1:Nat):Int)))) (m:=none) (p':=some (26+4*n)) (q':=some (30+4*n)) (m':=none) U U U U (by rw[bN,q2]) (by rw[bN,q4]) U (fR (s.buf (k:=1) U).view (by omega) (by omega)).1) ?_
  refine au.lJ U U (OpR.Tz U (s.ae [1]) U U U U (by omega) (by omega)) ?_
  rintro _ h s
  rw[show 30+4*n-(26+4*n)=4 by omega] at s
  have s:=s.ae [1,0]
  have en:((n+1:Nat):Int)-1=(n:Int):=by omega
  refine zk 3 U (zl U (s.b9 (k:=0) U bC aV) (zm U (zo U (aq (r:=.int .i64 (n:Int)) U U (by rw[<-en];exact dV ak)) ?_)))
  refine zo U (cS U (by exact kU b_ eZ iO)) ?_
  refine zc U (nW (a:=14) (z:=2) (n:=n) hT (s.ae [1]) (by decide) (by decide) (by omega) (by omega)) ?_
  rintro r h ⟨rfl,s⟩
  have s:=s.ae [1,0]
  refine zk 5 U ?_
  by_cases h1:n=0
  .have e1:cs.length=1:=by omega
   simp only[ay e1,ai (jS (wL e1))] at I
   refine zB U dK (decide_eq_true (by omega)) ?_
   refine zk 3 U (zl U (s.b9 (k:=0) U bC aV) (zc U (nW (a:=16) (z:=2) (n:=512) hT (s.ae [1]) (by decide) (by decide) (by omega) (by omega)) ?_))
   rintro r h ⟨rfl,s⟩
   have s:=s.ae [1,0]
   exact zk 3 U (zY s 0 ey bS U (zk 3 U (WP.ret ⟨aa,_,U,_,_,U,I,s.drop⟩)))
  .have e1:cs.length≠1:=by omega
   simp only[ai e1,dI] at I
   refine zC U dK (decide_eq_false (by omega)) ?_
   exact zk 5 U (zY s 0 ey bS U (zk 3 U (WP.ret ⟨aa,_,U,_,_,U,I,s.drop⟩)))
 .rw[hp.good] at hg;cases hg
end
def Kd (F:Nat->List (List Nat)->Prop)(P:Int->List Nat)(l:Nat)(lo:Ky)(hi:Option Ky)(k:fo): Prop:=∃cs',Nv F P l lo hi cs' k.es k.ps/\F l cs'/\bH (P k.pg) 204 0 l cs'
def hO (l:Nat)(cut:Ky)(a b:List (List Nat)): List (List Nat):=a++if l=0 then b else match b with|[]=>[]|c::t=>(c.take 4++cut)::t
section
variable {F':Nat->List (List Nat)->Prop} {fX:Ky} {eO:Option Ky}
theorem Nv.mono (I:∀l cs,F l cs->F' l cs): ∀ {l:Nat} {lo:Ky} {hi:Option Ky} {cs:List (List Nat)} {es:List En} {ps:List Nat},Nv F P l lo hi cs es ps->Nv F' P l lo hi cs es ps:=by
 intro l;induction l with
 |zero=>intro lo hi cs es ps h;exact h
 |succ l ih =>
  intro lo hi cs es ps ⟨ks,h1,h2,h3,h4,h5⟩;exact⟨ks,h1,h2,h3,h4,λi k hk=>by obtain⟨cs',b1,b2,b3⟩:=h5 i k hk;exact⟨cs',ih b1,I _ _ b2,b3⟩⟩
theorem g_.mono (I:∀l cs,F l cs->F' l cs): ∀ {fs:List pz} {l:Nat} {lo:Ky} {hi:Option Ky} {n:Nat} {eL eR:List En} {pO:List Nat},g_ F P L r fs l lo hi n eL eR pO->g_ F' P L r fs l lo hi n eL eR pO:=by
 intro fs;induction fs with
 |nil=>intro l lo hi n eL eR pO h;exact h
 |cons f fs ih =>
  rintro l lo hi n eL eR pO ⟨fX,eO,ni,ji,iT,k,h1,h2,h3,h4,h5,h6,h7,OO,h8,h9⟩;exact⟨fX,eO,ni,ji,iT,k,ih h1,h2,h3,h4,h5,h6,h7,λq=>I _ _ (OO q),λj k hk hj=>by obtain⟨cs',b1,b2,b3⟩:=h8 j k hk hj;exact⟨cs',b1.mono I,I _ _ b2,b3⟩,h9⟩
theorem Kd.frame {k:fo}(h:Kd F P l lo hi k)(I:∀m∈cL k,P' m=P m): Kd F P' l lo hi k:=by
 obtain⟨cs',a1,a2,a3⟩:=h;exact⟨cs',a1.frame λm hm=>I m (bk _ hm),a2,by rw[I k.pg a_];exact a3⟩
theorem g_.pop {f:pz}(h:g_ F P L r (f::fs) l lo hi n eL eR pO)(es:List En)(ps:List Nat):
  ∃fX eO I ji iT ks k,g_ F P L r fs (l+1) fX eO f.pg I ji iT/\bF ks=bF f.ks/\ks.length=f.ks.length/\ks[f.i]?=some k/\k.pg=n/\k.es=es/\k.ps=ps/\Sep fX eO ks/\lo=loK fX ks f.i/\hi=cT eO ks f.i/\(∀j k,ks[j]?=some k->j≠f.i->Kd F P l (loK fX ks j) (cT eO ks j) k) /\
   bH (P f.pg) 204 0 (l+1) (bF ks)/\(fs≠[]->F (l+1) (bF ks))/\eL++es++eR=I++ks.flatMap (·.es)++ji/\(pO++n::ps).Perm (iT++f.pg::ks.flatMap cL):=by
 obtain⟨fX,eO,I,ji,iT,k,q1,q2,rfl,rfl,rfl,q6,q7,q7b,q8,rfl,rfl,rfl⟩:=h;have c9:=(List.getElem?_eq_some_iff.1 q2).1;have hK:=ER (k1:=⟨k.key,k.pg,es,ps⟩) q2 U U;refine⟨fX,eO,I,ji,iT,f.ks.set f.i ⟨k.key,k.pg,es,ps⟩,_,q1,hK,cG,jO c9,U,U,U,q7.set q2 U U,(zQ (k1:=⟨k.key,k.pg,es,ps⟩) q2 U).symm,(v8 (k1:=⟨k.key,k.pg,es,ps⟩) q2 U).symm,λj m hm hj => ?_,by rw[hK];exact q6,by rw[hK];exact q7b,by rw[rz c9];simp[dN],?_⟩
 .rw[zQ (k1:=⟨k.key,k.pg,es,ps⟩) q2 U,v8 (k1:=⟨k.key,k.pg,es,ps⟩) q2 U];rw[lX (jS hj)] at hm;exact q8 j m hm hj
 .rw[rz c9,vF,lY];intro x;simp only[cL,lZ,l7,fJ];omega
theorem CK {m:List α}{k:Nat}{x:α}(h:(m.eraseIdx k)[j]?=some x): m[if j<k then j else j+1]?=some x:=by
 rw[yy] at h;split
 .rwa [ay (by assumption)] at h
 .rwa [ai (by assumption)] at h
theorem Sep.erase (h:Sep lo hi ks)(k:Nat)(h2:2<=ks.length): Sep lo hi (ks.eraseIdx k):=by
 refine⟨λe => ?_,λx I=>h.pg x (yx I),λx I=>h.len x (yx I),λj x I hj=>h.sz _ x (CK I) (by split<;>omega),λj x I hj=>h.bd _ x (CK I) (by split<;>omega),λj j2 x y I hy a1 a2=>h.jZ _ _ x y (CK I) (CK hy) (by split<;>omega) (by split<;>split<;>omega)⟩;have:=dg List.length e;rw[Hf,b6] at this;split at this<;>omega
theorem YQ (I:j<=i): (ks.eraseIdx (i+1))[j]?=ks[j]?:=by rw[yy,ay (by omega)]
theorem YR (I:i<j): (ks.eraseIdx (i+1))[j]?=ks[j+1]?:=by rw[yy,ai (by omega)]
theorem J7 (I:j<=i): loK lo (ks.eraseIdx (i+1)) j=loK lo ks j:=by
 unfold loK;rw[YQ I]
theorem acs (I:i<j): loK lo (ks.eraseIdx (i+1)) j=loK lo ks (j+1):=by
 unfold loK;rw[YR I,ai (show ¬j=0 by omega),ai (show ¬j+1=0 by omega)]
theorem adQ (I:j<i): cT hi (ks.eraseIdx (i+1)) j=cT hi ks j:=by
 unfold cT;rw[YQ (by omega)]
theorem GU (I:i<=j): cT hi (ks.eraseIdx (i+1)) j=cT hi ks (j+1):=by
 unfold cT;rw[YR (by omega)]
theorem DV {k:Nat}: bF (ks.eraseIdx k)=(bF ks).eraseIdx k:=by
 rw[bF,bF,ny,ny,rJ,rL,tH]
theorem Sep.wide (hs:Sep lo hi ks)(h2:i+1<ks.length)(I:∀j k,ks[j]?=some k->j≠i->j≠i+1->Kd F P l (loK lo ks j) (cT hi ks j) k):
  Sep lo hi (ks.eraseIdx (i+1))/\∀j k,(ks.eraseIdx (i+1))[j]?=some k->j≠i->Kd F P l (loK lo (ks.eraseIdx (i+1)) j) (cT hi (ks.eraseIdx (i+1)) j) k:=by
 refine⟨hs.erase _ (by omega),λj k hk hj => ?_⟩;have hk:=CK hk;by_cases q:j<i
 .rw[ay (by omega)] at hk;rw[J7 (by omega),adQ q];exact I j k hk hj (by omega)
 .rw[ai (by omega)] at hk;rw[acs (by omega),GU (by omega)];exact I (j+1) k hk (by omega) (by omega)
theorem sj {g:fo->List α}(hl:ks[i]?=some kl)(hr:ks[i+1]?=some kr): ks.flatMap g=((ks.eraseIdx (i+1)).take i).flatMap g++(g kl++g kr)++((ks.eraseIdx (i+1)).drop (i+1)).flatMap g:=by
 have I:=(List.getElem?_eq_some_iff.1 hr).1;rw[sY hl,ny,G3 (by rw[cz];omega),rK,show min i (i+1)=i by omega,G2 (by rw[cz];omega),l8,gK,tF,dL,
  mH (i:=i+1) I,eE,(List.getElem?_eq_some_iff.1 hr).2]
 simp[dN]
theorem Ra (hl:ks[i]?=some kl): (ks.eraseIdx (i+1))[i]?=some kl:=by
 rw[yy,ay (by omega)];exact hl
theorem Nv.join {cut:Ky}{wT qM:List (List Nat)}(h1:Nv F P l lo (some cut) wT jH lU)(h2:Nv F P l cut hi qM gM lV)(c1:lo<cut)(c2:∀b,hi=some b->cut<b)(c3:1<=cut.length/\cut.length<=96):
  Nv F P l lo hi (hO l cut wT qM) (jH++gM) (lU++lV):=by
 cases l with
 |zero =>
  obtain⟨rfl,q2,rfl⟩:=h1;obtain⟨rfl,r2,rfl⟩:=h2;refine⟨by unfold hO;rw[ay U,rJ],⟨λe he => ?_,λe he => ?_,?_⟩,U⟩
  .rcases List.mem_append.1 he with q|q
   .exact⟨(q2.bd e q).1,λb hb=>by have:=(q2.bd e q).2 cut U;have:=c2 b hb;grind⟩
   .exact⟨by have:=(r2.bd e q).1;grind,(r2.bd e q).2⟩
  .rcases List.mem_append.1 he with q|q
   .exact q2.sz e q
   .exact r2.sz e q
  .exact List.pairwise_append.2 ⟨q2.jZ,r2.jZ,λa ha b hb=>by have:=(q2.bd a ha).2 cut U;have:=(r2.bd b hb).1;grind⟩
 |succ l =>
  obtain⟨I,rfl,s1,rfl,rfl,k1⟩:=h1;obtain⟨ks2,rfl,s2,rfl,rfl,k2⟩:=h2;obtain⟨x,t,rfl⟩:∃x t,ks2=x::t:=by
   cases ks2 with
   |nil=>exact absurd U s2.ne
   |cons x t=>exact⟨x,t,U⟩
  obtain⟨m,hm⟩:∃m,m=I.length:=⟨_,U⟩;have mB:1<=m:=by rw[hm];exact List.length_pos_iff.2 s1.ne
  have hL:∀ {j k},(I++⟨cut,x.pg,x.es,x.ps⟩::t)[j]?=some k->(j<m/\I[j]?=some k)\/(j=m/\k=⟨cut,x.pg,x.es,x.ps⟩)\/(m<j/\(x::t)[j-m]?=some k/\1<=j-m):=λ{j k} h=>by
   rw[List.getElem?_append] at h;split at h
   .exact .inl ⟨by omega,h⟩
   .rename_i q;by_cases q2:j=m
    .subst q2;rw[hm,gK] at h;exact .inr (.inl ⟨U,(bD h).symm⟩)
    .obtain⟨z,hz⟩:∃z,j-m=z+1:=⟨j-m-1,by omega⟩;rw[<-hm,hz] at h;exact .inr (.inr ⟨by omega,by rw[hz];exact h,by omega⟩)
  refine⟨I++⟨cut,x.pg,x.es,x.ps⟩::t,?_,⟨by simp,λk hk => ?_,λk hk => ?_,λj k hk hj => ?_,λj k hk hj => ?_,λj j2 k k' hk hk' a1 a2 => ?_⟩,by simp,by simp[cL],λj k hk => ?_⟩
  .have h4:=cQ 4 x.pg;unfold hO;rw[ai (by omega)];simp only[bF,rJ,gB,e_,fY h4]
  .obtain⟨j,hj⟩:=List.mem_iff_getElem?.1 hk;rcases hL hj with⟨_,q⟩|⟨_,rfl⟩|⟨_,q,_⟩
   .exact s1.pg k (aJ q)
   .exact s2.pg x a_
   .exact s2.pg k (aJ q)
  .obtain⟨j,hj⟩:=List.mem_iff_getElem?.1 hk;rcases hL hj with⟨_,q⟩|⟨_,rfl⟩|⟨_,q,_⟩
   .exact s1.len k (aJ q)
   .exact c3.2
   .exact s2.len k (aJ q)
  .rcases hL hk with⟨_,q⟩|⟨_,rfl⟩|⟨_,q,q2⟩
   .exact s1.sz j k q hj
   .exact c3.1
   .exact s2.sz _ k q q2
  .rcases hL hk with⟨_,q⟩|⟨_,rfl⟩|⟨_,q,q2⟩
   .exact⟨(s1.bd j k q hj).1,λb hb=>by have:=(s1.bd j k q hj).2 cut U;have:=c2 b hb;grind⟩
   .exact⟨c1,c2⟩
   .exact⟨by have:=(s2.bd _ k q q2).1;grind,(s2.bd _ k q q2).2⟩
  .rcases hL hk with⟨b1,q⟩|⟨b1,rfl⟩|⟨b1,q,q2⟩
   .rcases hL hk' with⟨_,r⟩|⟨_,rfl⟩|⟨_,r,r2⟩
    .exact s1.jZ j j2 k k' q r a1 a2
    .exact(s1.bd j k q a1).2 cut U
    .have:=(s1.bd j k q a1).2 cut U;have:=(s2.bd _ k' r r2).1;grind
   .rcases hL hk' with⟨b2,_⟩|⟨b2,_⟩|⟨_,r,r2⟩
    .omega
    .omega
    .exact(s2.bd _ k' r r2).1
   .rcases hL hk' with⟨b2,_⟩|⟨b2,_⟩|⟨_,r,r2⟩
    .omega
    .omega
    .exact s2.jZ _ _ k k' q r q2 (by omega)
  .have hR:∀j,m<j->(I++⟨cut,x.pg,x.es,x.ps⟩::t)[j]?=(x::t)[j-m]?:=λj hj=>by
    obtain⟨z,hz⟩:∃z,j-m=z+1:=⟨j-m-1,by omega⟩;rw[hU (by omega),<-hm,hz];rfl
   have hR1:∀j,j<m->(I++⟨cut,x.pg,x.es,x.ps⟩::t)[j]?=I[j]?:=λj hj=>rE (by omega);have hRm:(I++⟨cut,x.pg,x.es,x.ps⟩::t)[m]?=some ⟨cut,x.pg,x.es,x.ps⟩:=by
    rw[hU (by omega),<-hm,gK];rfl
   rcases hL hk with⟨b1,q⟩|⟨rfl,rfl⟩|⟨b1,q,q2⟩
   .have e1:loK lo (I++⟨cut,x.pg,x.es,x.ps⟩::t) j=loK lo I j:=by unfold loK;rw[hR1 j b1]
    have e2:cT hi (I++⟨cut,x.pg,x.es,x.ps⟩::t) j=cT (some cut) I j:=by
     unfold cT;by_cases q3:j+1<m
     .rw[hR1 _ q3,aF (show j+1<I.length by omega)]
     .rw[show j+1=m by omega,hRm,rF (by omega)]
    rw[e1,e2];exact k1 j k q
   .have e1:loK lo (I++⟨cut,x.pg,x.es,x.ps⟩::t) j=cut:=by unfold loK;rw[ai (by omega),hRm]
    have e2:cT hi (I++⟨cut,x.pg,x.es,x.ps⟩::t) j=cT hi (x::t) 0:=by unfold cT;rw[hR (j+1) (by omega),tv]
    rw[e1,e2];exact k2 0 x U
   .have e1:loK lo (I++⟨cut,x.pg,x.es,x.ps⟩::t) j=loK cut (x::t) (j-m):=by unfold loK;rw[ai (by omega),ai (by omega),hR j b1]
    have e2:cT hi (I++⟨cut,x.pg,x.es,x.ps⟩::t) j=cT hi (x::t) (j-m):=by unfold cT;rw[hR (j+1) (by omega),show j+1-m=j-m+1 by omega]
    rw[e1,e2];exact k2 (j-m) k q
theorem Sep.mO (hs:Sep lo hi ks)(hr:ks[i+1]?=some kr): loK lo ks i<kr.key/\(∀b,cT hi ks (i+1)=some b->kr.key<b)/\1<=kr.key.length/\kr.key.length<=96/\cT hi ks i=some kr.key/\loK lo ks (i+1)=kr.key:=by
 have c9:=(List.getElem?_eq_some_iff.1 hr).1;refine⟨?_,λb I => ?_,hs.sz _ kr hr (by omega),hs.len kr (aJ hr),by unfold cT;rw[hr],by unfold loK;rw[ai (by omega),hr]⟩
 .unfold loK;split
  .exact(hs.bd _ kr hr (by omega)).1
  .have hk:ks[i]?=some (ks[i]'(by omega)):=aF _;rw[hk];exact hs.jZ i (i+1) _ kr hk hr (by omega) (by omega)
 .unfold cT at I;cases hq:ks[i+1+1]? with
  |none=>rw[hq] at I;exact(hs.bd _ kr hr (by omega)).2 b I
  |some m=>rw[hq] at I;obtain rfl:=bD I;exact hs.jZ _ _ kr m hr hq (by omega) (by omega)
theorem Nv.mrg (hs:Sep lo hi ks)(hl:ks[i]?=some kl)(hr:ks[i+1]?=some kr)(I:∀j k,ks[j]?=some k->j≠i->j≠i+1->Kd F P l (loK lo ks j) (cT hi ks j) k)
 (nl:Nv F P l (loK lo ks i) (cT hi ks i) eD kl.es kl.ps)(nr:Nv F P l (loK lo ks (i+1)) (cT hi ks (i+1)) dS kr.es kr.ps)(hF:F l (hO l kr.key eD dS))(hp:bH (P kl.pg) 204 0 l (hO l kr.key eD dS)):
  ∃nj,Nv F P (l+1) lo hi ((bF ks).eraseIdx (i+1)) (ks.flatMap (·.es)) nj/\(kr.pg::nj).Perm (ks.flatMap cL):=by
 have c9:=(List.getElem?_eq_some_iff.1 hr).1;obtain⟨m1,m2,m3,m4,m5,m6⟩:=hs.mO hr;obtain⟨w1,w2⟩:=hs.wide c9 I;rw[m5] at nl;rw[m6] at nr;have hj:=nl.join nr m1 m2 ⟨m3,m4⟩;have hh:=Nv.hole (k1:=⟨kl.key,kl.pg,kl.es++kr.es,kl.ps++kr.ps⟩) (Ra hl) U U w1 w2 (by rw[J7 (aH _),GU (aH _)];exact hj) hF hp;rw[DV] at hh;refine⟨_,by rw[sj (g:=(·.es)) hl hr];exact hh,?_⟩;rw[sj (g:=cL) hl hr,lY];intro x;simp only[cL,lZ,l7,fJ];omega
theorem Nv.ers {k:fo}(hs:Sep lo hi ks)(h2:2<=ks.length)(hk:ks[i]?=some k)(he:k.es=[])(o_:k.ps=[])(I:∀j k,ks[j]?=some k->j≠i->Kd F P l (loK lo ks j) (cT hi ks j) k):
  ∃nj,Nv F P (l+1) lo hi ((bF ks).eraseIdx i) (ks.flatMap (·.es)) nj/\(k.pg::nj).Perm (ks.flatMap cL):=by
 have c9:=(List.getElem?_eq_some_iff.1 hk).1;cases i with
 |zero =>
  cases ks with
  |nil=>simp at c9
  |cons x t =>
   obtain rfl:x=k:=by simpa using hk
   have hS:=hs.erase 0 h2;refine⟨t.flatMap cL,⟨t,DV.symm,hS,by simp[he],U,λj m hm => ?_⟩,by simp[cL,o_]⟩;obtain⟨cs',a1,a2,a3⟩:=I (j+1) m (by simpa using hm) (by omega);refine⟨cs',a1.LY ?_ λb hb=>⟨b,hb,nI _⟩,a2,a3⟩;have e:loK lo (x::t) (j+1)=m.key:=by
    unfold loK;rw[ai (by omega),oJ,hm]
   rw[e];unfold loK;split
   .exact oQ (hs.bd (j+1) m (by simpa using hm) (by omega)).1
   .rw[hm];exact nI _
 |succ i =>
  obtain⟨kl,hl⟩:∃kl,ks[i]?=some kl:=⟨_,aF (by omega)⟩;obtain⟨m1,m2,m3,m4,m5,m6⟩:=hs.mO hk;obtain⟨w1,w2⟩:=hs.wide c9 λj m hm _ hj=>I j m hm hj;obtain⟨cs',a1,a2,a3⟩:=I i kl hl (by omega);have hh:=Nv.hole (k1:=kl) (Ra hl) U U w1 w2 (by
   rw[J7 (aH _),GU (aH _)];refine a1.LY (nI _) λb hb => ?_;exact⟨_,m5,oQ (m2 b hb)⟩) a2 a3
  rw[DV] at hh;refine⟨_,by rw[sj (g:=(·.es)) hl hk,he,fZ];exact hh,?_⟩;rw[sj (g:=cL) hl hk,lY];intro x;simp only[cL,o_,lZ,l7,fJ,List.count_nil];omega
theorem acu {m:List α}{c:α}(h:i<m.length): c8 i c (m.eraseIdx i)=m.set i c:=by
 rw[c8,ny,fY (by rw[cz];omega),vM (by rw[cz];omega),CT,ay h]
theorem Nv.shr {cut:Ky}(hs:Sep lo hi ks)(hl:ks[i]?=some kl)(hr:ks[i+1]?=some kr)(I:∀j k,ks[j]?=some k->j≠i->j≠i+1->Kd F P l (loK lo ks j) (cT hi ks j) k)
 (nl:Nv F P l (loK lo ks i) (some cut) eD jH lU)(gl:F l eD)(pl:bH (P kl.pg) 204 0 l eD)(nr:Nv F P l cut (cT hi ks (i+1)) dS gM lV)(gr:F l dS)(pr:bH (P kr.pg) 204 0 l dS)
 (c1:loK lo ks i<cut)(c2:∀b,cT hi ks (i+1)=some b->cut<b)(c3:1<=cut.length/\cut.length<=96)(he:jH++gM=kl.es++kr.es)(o_:lU++lV=kl.ps++kr.ps):
  ∃nj,Nv F P (l+1) lo hi ((bF ks).set (i+1) (e_ kr.pg cut)) (ks.flatMap (·.es)) nj/\nj.Perm (ks.flatMap cL):=by
 have c9:=(List.getElem?_eq_some_iff.1 hr).1;obtain⟨w1,w2⟩:=hs.wide c9 I;have e1:loK lo (ks.eraseIdx (i+1)) i=loK lo ks i:=J7 (aH _);have e2:cT hi (ks.eraseIdx (i+1)) i=cT hi ks (i+1):=GU (aH _);have hh:=Nv.ab0 w1 (Ra hl) w2 (by rw[e1];exact nl) gl pl (by rw[e2];exact nr) gr pr (by rw[e1];exact c1) (by rw[e2];exact c2) c3 (hs.pg kr (aJ hr));rw[DV,acu (by rw[dn];exact c9),he] at hh;refine⟨_,by rw[sj (g:=(·.es)) hl hr];exact hh,?_⟩;rw[sj (g:=cL) hl hr,lY];intro x;have:=dg (List.count x) o_;simp only[cL,lZ,l7,fJ] at this ⊢;omega
end
section
variable {P:Program} {e:TypeId} {f:TypeInfo}
theorem Xa {m:List α}(hi:i<m.length): m.take i++(m.drop (i+1)++m.drop (m.length-1))=m.eraseIdx i++m.drop (m.length-1):=by
 rw[ny,dN]
theorem aau (s:Sat h (pt x (.cells us.length us false)::S))(hi:i<us.length)(hu:P.underlying t=some (.slice e))(hf:P.info? e=some f)(hz:zeroT P e=some z)(hk:f.size=1)(hb:f.bytes<=4096)(hzl:z.cells.length=1):
  ∃h',appendV P h #[t,t] (.sl x 0 i (.rest 1 alt)) (.sl x (i+1) (us.length-(i+1)) cap)=some (.sl x 0 (us.length-1) (.rest 1 alt),h')/\Sat h' (pt x (.cells us.length (us.eraseIdx i++us.drop (us.length-1)) false)::S):=by
 have hg:=s.row (k:=0) U;have hd:(us.drop (i+1)).length=us.length-(i+1):=fA;have hr:rdN h x (i+1) ((us.length-(i+1))*1)=some (us.drop (i+1)):=by
  rw[pN hg U,cH,h_ (by omega)]
 have I:fF h x 0 1=us.length:=by simp only[fF,hg];simp
 unfold appendV;simp only[hu,hf,hz,hk,srcV,hr,gQ];rw[show(Nat.ble 1 1&&Nat.ble f.bytes 4096&&Nat.beq z.cells.length 1)=true by rw[aS.2 hb,qW hzl];rfl,ag];by_cases h0:us.length-(i+1)=0
 .rw[qW h0,ag];refine⟨h,by rw[show us.length-1=i by omega],?_⟩;have:us.eraseIdx i++us.drop (us.length-1)=us:=by
   rw[ny,tw (i:=i+1) (by omega),fZ,show us.length-1=i by omega,jP]
  rw[this];exact s
 .rw[fM h0,aT,show Nat.beq 1 1=true from U,ag,I,aS.2 (by omega),ag,y9 hg U (by rw[hd];omega)];refine⟨_,by rw[show i+(us.length-(i+1))=us.length-1 by omega],?_⟩;have:=s.put (k:=0) (o':=.cells us.length (us.take (0+i*1)++(us.drop (i+1)++us.drop (0+i*1+(us.drop (i+1)).length))) false) U;rw[show us.take (0+i*1)++(us.drop (i+1)++us.drop (0+i*1+(us.drop (i+1)).length))=us.eraseIdx i++us.drop (us.length-1) by
   rw[<-Xa hi,hd,eW,cH,show i+(us.length-(i+1))=us.length-1 by omega]] at this ⊢
  exact this
theorem Um {c d:V}(s:Sat h (pt x (.cells (ds.length+1) (ds++[c]) false)::S))(hu:P.underlying t=some (.slice e))(I:zeroT P e=some d)(hd:d.cells=[d]):
  ∃h',clearV P h t (.sl x ds.length 1 (.rest 1 alt))=some h'/\Sat h' (pt x (.cells (ds.length+1) (ds++[d]) false)::S):=by
 have hg:=s.row (k:=0) U;unfold clearV;simp only[hu,I,hd];rw[show(Nat.ble 1 [d].length&&Nat.ble 1 1)=true from U,ag,y9 hg (by simp) (by simp[repeatL])];refine⟨_,U,?_⟩;have:=s.put (k:=0) (o':=.cells (ds.length+1) ((ds++[c]).take ds.length++(repeatL [d] 1++(ds++[c]).drop (ds.length+(repeatL [d] 1).length))) false) U;rw[show(ds++[c]).take ds.length++(repeatL [d] 1++(ds++[c]).drop (ds.length+(repeatL [d] 1).length))=ds++[d] by simp[repeatL]] at this ⊢;exact this
end
theorem acv {P:Program}{x:V}(he:clearV P h t x=some h'): builtinV P h .clear #[t] [x]=some (.aX [],h'):=by
 show(clearV P h t x).map _=_;rw[he];rfl
section
variable {told:cu} {v:V}
theorem Pd (hT:W told)(s:Sat h (Cz v us::S))(hi:i<us.length)(hl:us.length<=512):
  Call ⟨Tryz.prog,told⟩ 71 [v,.int .i64 (i:Int),.int .i64 ((i+1:Nat):Int)] h λr h'=>Sat h' (roS 1 r (us.eraseIdx i)::S):=by
 obtain⟨i1,c9,fH,pR⟩:=ry
 obtain⟨x,rfl,eG,s⟩:=EV s (by omega)
 have wC:(us.eraseIdx i).length=us.length-1:=by rw[Hf,ay hi]
 obtain⟨c,hc⟩:∃c,us.drop (us.length-1)=[c]:=by
  have:(us.drop (us.length-1)).length=1:=by rw[fA];omega
  exact List.length_eq_one_iff.1 this
 refine Call.of_wp (hT.free _ U) Tryz.func71 U U ?_
 have xC:us=us.eraseIdx i++us.drop (us.length-1)->True:=λ_=>trivial
 have I:∀ {h:H} {n:Nat},lenV Tryz.prog h 98 (.sl x 0 n (.rest 1 0))=some (.int .i64 (n:Int)):=λ{h n}=>by simp only[lenV,aQ]
 have wq:∀ {h:H} {N:Nat} {row:List V} {S:List aE},Sat h (pt x (.cells N row false)::S)->fF h x 0 1=N:=λ{h N row S} s=>by
  have hg:=s.row (k:=0) U
  simp only[fF,hg];simp
 have e1:sliceV Tryz.prog h 98 (.sl x 0 us.length (.rest 1 0)) (some i) (some (i+1)) (some us.length)=some (.sl x (cond (Nat.beq us.length i) 0 (0+i*1)) (i+1-i) (.exact (us.length-i))):=by
  simp only[sliceV,aQ,dP,dz]
  rw[show(Nat.beq 1 1&&Nat.ble 1 1)=true from U,ag,show(Nat.ble i (i+1)&&Nat.ble (i+1) us.length&&(Nat.ble us.length us.length||Nat.ble us.length (fF h x 0 1))&&Nat.blt 0 us.length)=true by simp;omega,ag]
 have e2:sliceV Tryz.prog h 98 (.sl x 0 us.length (.rest 1 0)) none (some i) none=some (.sl x 0 i (.rest 1 0)):=by
  simp only[sliceV,aQ,dP,dz,fy]
  rw[show(Nat.beq 1 1&&Nat.ble 1 1)=true from U,ag,show(Nat.ble 0 i&&(Nat.ble i us.length||Nat.ble i (fF h x 0 1)))=true by simp;omega,ag]
  rfl
 have e3:∃alt,sliceV Tryz.prog h 98 (.sl x 0 us.length (.rest 1 0)) (some (i+1)) none none=some (.sl x (i+1) (us.length-(i+1)) (.rest 1 alt)):=by
  simp only[sliceV,aQ,dP,dz,fy]
  rw[show(Nat.beq 1 1&&Nat.ble 1 1)=true from U,ag,show(Nat.ble (i+1) us.length&&(Nat.ble us.length us.length||Nat.ble us.length (fF h x 0 1)))=true by simp;omega,ag,eW,cH]
  exact⟨_,U⟩
 obtain⟨alt,e3⟩:=e3
 obtain⟨h2,e4,s2⟩:=aau (P:=Tryz.prog) (t:=98) (alt:=0) (cap:=.rest 1 alt) s hi aQ c9 lK fH (by omega) U
 rw[hc] at s2
 have hN:us.length=(us.eraseIdx i).length+1:=by omega
 rw[hN] at s2
 have e5:∃alt,sliceV Tryz.prog h2 98 (.sl x 0 (us.length-1) (.rest 1 0)) (some (us.length-1)) (some us.length) none=some (.sl x (us.eraseIdx i).length 1 (.rest 1 alt)):=by
  simp only[sliceV,aQ,dP,dz,fy]
  rw[show(Nat.beq 1 1&&Nat.ble 1 1)=true from U,ag,wq s2,show(Nat.ble (us.length-1) us.length&&(Nat.ble us.length (us.length-1)||Nat.ble us.length ((us.eraseIdx i).length+1)))=true by simp;omega,ag,eW,cH,wC,show us.length-(us.length-1)=1 by omega]
  exact⟨_,U⟩
 obtain⟨ae_,e5⟩:=e5
 obtain⟨h3,e6,s3⟩:=Um (P:=Tryz.prog) (t:=98) (alt:=ae_) s2 aQ lK U
 refine zK 10 U (zo U (aD U U U I) (zo U (bK (p:=some (.int .i64 (i:Int))) (q:=some (.int .i64 ((i+1:Nat):Int))) (m:=some (.int .i64 (us.length:Int))) (p':=some i) (q':=some (i+1)) (m':=some us.length) U U U U (by rw[bN];rfl) (by rw[bN];rfl) (by rw[bN];rfl) e1) ?_))
 refine zk 6 U (zC U dK (by simp;omega) ?_)
 refine zk 6 U (zo U (aD U U U I) (zk 3 U ?_))
 have z0:=s
 refine WP.drawn [af,af,af,af,af,af,af,af] U (by kernel_rfl) (by kernel_rfl) ?_
 refine zM U (zM U (zO U (bK (p:=none) (q:=some (.int .i64 (i:Int))) (m:=none) (p':=none) (q':=some i) (m':=none) U U U U U (by rw[bN];rfl) U e2) ?_))
 refine zM U (zM U (zO U (bK (p:=some (.int .i64 ((i+1:Nat):Int))) (q:=none) (m:=none) (p':=some (i+1)) (q':=none) (m':=none) U U U U (by rw[bN];rfl) U U e3) ?_))
 refine aB.any U U U U (OpR.of (R:=λv h'=>v=.sl x 0 (us.length-1) (.rest 1 0)/\h'=h2) (iY U U e4) ⟨U,U⟩) ?_
 rintro v' h ⟨rfl,rfl⟩
 refine zA U ?_
 refine aB.nil ⟨⟨aa,aa,aa,aa,aa,aa,aa,aa,aa⟩,?_⟩
 refine zK 4 U (zo U (aD U U U I) (zm U (zo U (bK (p:=some (.int .i64 ((us.length-1:Nat):Int))) (q:=some (.int .i64 (us.length:Int))) (m:=none) (p':=some (us.length-1)) (q':=some us.length) (m':=none) U U U U (by rw[bN];rfl) (by rw[bN];rfl) U e5) ?_)))
 refine au.lJ U U (OpR.of (R:=λv h'=>h'=h3) (KO U U (acv e6)) U) ?_
 rintro v' h rfl
 have s:=s3.freeze
 refine zk 6 U (WP.ret ⟨aa,_,U,?_⟩)
 rw[<-wC]
 exact uJ (N:=(us.eraseIdx i).length+1) (row:=us.eraseIdx i++[.aZ]) (by simp) (by omega) (by simp) U (by
  rw[nG] at eG ⊢
  exact λy hy=>eG y (yx hy)) s
end
section
variable {told:cu} {p:Nat}
theorem Pe (i:Nat)(s:Sat h (dy us cs::S)): Sat h (dy (us.eraseIdx i) (cs.eraseIdx i)::S):=s.dM λm r h=>by
 rw[ny,ny];exact Av (CD i h) (CE (i+1) h)
theorem Sat.YS {A:aE}: ∀(k:Nat) {S:List aE},Sat h (A::C::S)->Sat h (A::C::S.drop k):=by
 intro k;induction k with
 |zero=>intro S s;exact s
 |succ k I=>intro S s;cases S with
  |nil=>exact s
  |cons B S=>exact I (S:=S) (s.del 2)
theorem El (I:W told)(hB:B<=2000)(cn:EI N B ε)(hw:NW N now)(hn:n<N)(hp:bH b 204 0 l cs)(hi:i<cs.length)(hc:∀c∈cs,1<=c.length)(s:Sat h (GA g a p q r data aR now ε::aY x n l b cs::S)):
  Call ⟨Tryz.prog,told⟩ 156 [.ptr x 0,.ptr g 0,.int .i64 (i:Int)] h λv h'=>∃ah b',v=.int .i64 0/\EI N B ah/\Sm N ε ah/\NW N (cD (n:Int) b' now)/\bH b' 204 0 l (cs.eraseIdx i)/\Sat h' (GA g a p q r data aR (cD (n:Int) b' now) ah::aY x n l b' (cs.eraseIdx i)::S):=by
 have dx:=hp.fits;have s:=s.ae [1];obtain⟨bv,cv,us,s⟩:=aU.1 s;have oo:=ko (s.ae [3]);refine Call.of_wp (I.free _ U) Tryz.func156 U U (zK 8 U (zY s 0 nT bS U (zm U ?_)));have s:=s.ae [1];refine zc U (Mv I s (bp _ _) hp hi hc) ?_;rintro v h ⟨u,b',rfl,uL,s⟩;have s:=s.ae [2,2];refine zk 10 U (zC U aG (U) (zk 10 U (zY s 0 cP gx U ?_)));have s:=s.ae [1];refine zc U (mY I s (cU _ _ _)) ?_;intro cl h s;have s:=Pe i (s.ae [5]);have s:=s.ae [1];refine zk 2 U (zo U (aq (r:=.int .i64 ((i+1:Nat):Int)) U U (by rw[show((i+1:Nat):Int)=(i:Int)+1 by omega];exact aL ak)) ?_);refine zc U (Pd I s (by omega) (by omega)) ?_;intro dl h s;have s:=(s.ae [4]).ff;have xN:=(s.aC (k:=0) U (bp _ _)).cells;have GV:=ku (s.jo (j:=1) U (cU _ _ _));refine zn U (zf U (nT _ _) (zS U (s.kC (k:=4) U dP U (by decide) xN.1 xN.2) ?_));intro h s;refine zn U (zf U (cP _ _) (zS U (s.kC (k:=4) U VC U (by decide) GV.1 GV.2.1) ?_));intro h s;have s:=s.ae [6,0];refine zk 6 U (zY s 5 iA bP U (zm U (zc U (wZ I hB cn hw hn s (bp _ _) uL.good) ?_)));rintro v h ⟨ah,rfl,k1,k2,k3,s⟩;refine zk 2 U (WP.ret ⟨aa,_,U,?_⟩);have s:=s.ae [5,1,1,1,0];have s:Sat h (aY x n l b' (cs.eraseIdx i)::_):=aU.2 ⟨u,dl,_,s⟩;exact⟨ah,b',U,k1,k2,k3,uL,(s.ae [1]).YS 2⟩
end
section
theorem jA.less (h:jA N M ps){z:Nat}{M':List Nat}(hp:ps.Perm (z::qs))(hb:∀j,j<N->bt M' j=if j=z then false else bt M j): jA N M' qs:=by
 have I:=h.perm hp;obtain⟨h3,h4⟩:=List.nodup_cons.1 I.nd;refine⟨h4,λp hq=>I.my p (bk _ hq),λj hj => ?_⟩;have hz:=I.my z a_;rw[hb j hj];by_cases q:j=z
 .subst q;rw[ay U];refine(decide_eq_false λq => ?_).symm;rcases q with q|q
  .omega
  .exact h3 q
 .rw[ai q,I.bits j hj];congr 1;simp only[gd,q,false_or]
end
section
variable {told:cu} {p:Nat}
theorem E8 (hT:W told)(hB:B<=2000)(cn:EI N B ε)(hw:NW N now)(I:fU N R M (pgG now ε))(ht:jA N M ps){z:Nat}(hz:ps.Perm (z::qs))(s:Sat h (GA g a p q r data aR now ε::S)):
  Call ⟨Tryz.prog,told⟩ 155 [.ptr g 0,.int .i64 (z:Int)] h λv h'=>∃ah aN M',v=.int .i64 0/\EI N B ah/\Sm N ε ah/\NW N aN/\aN.length<=now.length+1/\fU N R M' (pgG aN ah)/\jA N M' qs/\(∀m,m≠1->pgG aN ah m=pgG now ε m)/\Sat h' (GA g a p q r data aR aN ah::S):=by
 have hzm:z∈ps:=hz.mem_iff.2 a_;obtain⟨z1,z2⟩:=ht.my z hzm;have hb:=ht.bits z z2;rw[dZ (.inr hzm)] at hb;have Gk:=I.ml;have qu:=I.n2;refine(TQ hT hB cn hw I s).mono ?_;rintro v h' ⟨ah,aN,k1,k2,k3,k4,s,(⟨xh,_⟩|⟨_,_,_,rfl,k5,k6⟩)⟩
 .exact absurd ⟨by omega,by omega,hb⟩ xh
 .exact⟨ah,aN,_,U,k1,k2,k3,k4,k5,ht.less hz λj hj=>YD (by rw[Gk];show z/8<_;omega),k6,s⟩
end
section
variable {told:cu} {cut:Ky} {mr:Nat}
abbrev Un (xu i xl xr:Nat): V:=.agg [.ptr xu 0,.int .i64 (i:Int),.ptr xl 0,.ptr xr 0]
theorem Xb {P:Program}{v:V}{e:TypeId}{f:TypeInfo}(s:Sat h (Cz v us::.arr 1 w ds::S))(hu:P.underlying t=some (.slice e))(hi:P.info? e=some f)(I:zeroT P e=some z)(hk:f.size=1)(hb:f.bytes<=4096)(hl:z.cells.length=1)(gm:us.length+ds.length<=1073741824):
  ∃v' h',appendV P h #[t,t] v w=some (v',h')/\Sat h' (.arr 1 v' (us++ds)::S):=by
 obtain⟨v',h',e1,s⟩:=iw (k:=1) (s.dM kY) hu hi I hk hb hl (by decide) (by omega);exact⟨v',h',e1,s.del 1⟩
theorem aav {P:Program}{v:V}{e:TypeId}(s:Sat h (Cz v us::S))(hu:P.underlying t=some (.slice e)): lenV P h t v=some (.int .i64 (us.length:Int)):=(s.dM kY).fS (j:=0) (n:=us.length) U (by rw[cH]) (by decide) hu
theorem aaw {vs:List V}{ds:List (List Nat)}(s:Sat h (dy us cs::dy vs ds::S)): Sat h (dy (us++vs) (cs++ds)::S):=s.two (aI.qS _ _) (aI.qS _ _) λm r a b=>Av a b
noncomputable def jnT : Code:=dm [1,1,1] ((Tryz.f83.body).getD .skip)
theorem Pf (hT:W told){v3:V}{I:List V}{cs3:List (List Nat)}{p1:Nat}(h3:I.length<=512)(hl:eD.length<=512)(hj:hO l cut eD dS=eD++cs3)
 (s:Sat h (.arr 1 v3 I::dy I cs3::pt p1 (.cells 4 [.ptr xu 0,.int .i64 (i:Int),.ptr xl 0,.ptr xr 0] false)::aY xu nu (l+1) bu ou::aY xl nl l bl eD::aY xr nr l br dS::S))(hE:Has E [(1,.ptr p1 0),(3,v3)])
 (hq:∀E' h' v us,Has E' [(2,v)]->Sat h' (roS 1 v us::dy us (hO l cut eD dS)::aY xu nu (l+1) bu ou::aY xl nl l bl eD::aY xr nr l br dS::S)->Q .ret E' h'): WP ⟨Tryz.prog,told⟩ 41 jnT E h Q:=by
 obtain⟨i1,c9,fH,pR⟩:=ry;have s:=s.ae [4];obtain⟨bv,cv,usl,s⟩:=aU.1 s;have ags:=ko (s.ae [3]);refine WP.has hE (zg U (zY s 6 vW fD U (zn U (zY s 0 cP gx U ?_))));have s:=s.ae [2];refine zc U (mY hT s (cU _ _ _)) ?_;intro v4 h s;have s:=s.ae [0,4];obtain⟨av,h2,e1,s2⟩:=Xb (P:=Tryz.prog) s aQ c9 lK fH (by omega) U (by omega);refine zm U (au.any U U U (OpR.of (R:=λv h'=>v=av/\h'=h2) (iY U U e1) ⟨U,U⟩) ?_);rintro v' h ⟨rfl,rfl⟩;have s:=(s2.ae [4]).dup (aI.qS _ _);have s:=aaw (s.ae [0,5]);rw[<-hj] at s;have s:=s.ae [4,4,3,1];have s:Sat h (aY xl nl l bl eD::_):=aU.2 ⟨bv,cv,usl,s⟩;have s:=((s.ae [2]).r8).dM GB;have s:=(s.ae [0,1,2,0,1]).del 5;exact zk 2 U (WP.ret (hq _ _ _ _ ⟨U,aa⟩ s))
theorem Jw (I:W told)(hc:ou[i+1]?=some (e_ mr cut))(nY:cut.length<=96)(hu:ou.length<=512)(hl:eD.length<=512)(hr:dS.length<=512)(afa:l+1<=64)(hk:1<=l->∃m ky,dS[0]?=some (e_ m ky)/\m<4294967296)
 (s:Sat h (aY xu nu (l+1) bu ou::aY xl nl l bl eD::aY xr nr l br dS::S)):
  Call ⟨Tryz.prog,told⟩ 83 [Un xu i xl xr] h λv h'=>∃us,Sat h' (roS 1 v us::dy us (hO l cut eD dS)::aY xu nu (l+1) bu ou::aY xl nl l bl eD::aY xr nr l br dS::S):=by
 have s:=s.ae [2];obtain⟨bv,cv,YT,s⟩:=aU.1 s;have afb:=ko (s.ae [3]);refine Call.of_wp (I.free _ U) Tryz.func83 U U (zg U ?_);refine au.cj s U U U (fC U U) (λp1 h s => ?_);refine zk 4 U (zY s 0 rY fD U (zn U (zY s 1 cP gx U ?_)));have s:=s.ae [3];refine zc U (mY I s (cU _ _ _)) ?_;intro v3 h s;have s:=(s.ae [5]).dup (aI.qS _ _);have s:=s.ae [2,0,3];refine zk 5 U (zY s 5 rY fD U (zn U (zY s 2 ew bP U ?_)));by_cases h0:l=0
 .subst h0;refine zC U cA (by simp) ?_;have s:=s.ae [2,5,3,2];have s:Sat h (aY xr nr 0 br dS::_):=aU.2 ⟨bv,cv,YT,s⟩;have s:=(s.ae [1,1,1,1,1,0]).dM kY;exact zk 8 U (Pf I (by omega) hl (by unfold hO;rw[ay U]) s ⟨U,U,aa⟩ λE' h' v us hE s=>⟨aa,_,Aq hE.1,us,s⟩)
 .skip;refine zB U cA (by simp;omega) ?_;obtain⟨m,ky,Br,hm⟩:=hk (by omega);obtain⟨c0,t0,rfl⟩:∃c t,dS=c::t:=by
   cases dS with
   |nil=>simp at Br
   |cons c t=>exact⟨c,t,U⟩
  obtain rfl:c0=e_ m ky:=by simpa using Br
  rw[aW] at afb hr;refine zk 2 U (zo U (aD U U U (aav s aQ)) (zB U cA (by simp;omega) ?_));have s:=s.ae [2,5,3,2];have s:Sat h (aY xr nr l br (e_ m ky::t0)::_):=aU.2 ⟨bv,cv,YT,s⟩;obtain⟨l',rfl⟩:∃l',l=l'+1:=⟨l-1,by omega⟩;have NO:=(ku (((s.ae [1]).dM kY).jo (j:=0) U (jg _ _ _).s)).2.2;have z0:=s;refine zk 3 U (WP.drawn [some (0,4),af,af,af,some (0,2),some (0,2),some (0,2),some (0,2),some (0,2),af,af,af,af] U (by kernel_rfl) (by kernel_rfl) ?_);refine zM U (zF U (rY _ _) (zL U (s.ld (k:=3) U fD U) (aB.any U U U U (OpR.call U U U U (DS I Br hm s)) ?_)));rintro v h ⟨rfl,s⟩;have z1:=s;have s:=s.ae [4];refine zF U (me _ _) (zL U (s.ld (k:=4) U fD U) (zF U (yY _ _) (zL U (s.ld (k:=4) U bP U) ?_)));refine zO U (aq (r:=.int .i64 ((i+1:Nat):Int)) U U (by rw[show((i+1:Nat):Int)=(i:Int)+1 by omega];exact aL (ak (by omega) (by have:=(List.getElem?_eq_some_iff.1 hc).1;omega)))) ?_;refine aB.any U U U U (OpR.call U U U U (oW I hc (by rw[iQ,ai (by omega),e_,aO,cQ];omega) afa (by rw[e_,aO,cQ];omega) s)) ?_;intro kv h s;rw[qp] at s;have z2:=s;refine aB.any U U U U (OpR.call U U U U (zW I hm s (bp _ _) (by omega))) ?_;intro u h s;have s:=s.ff;have Ek:=(s.aC (k:=0) U (bp _ _)).cells;have s:=(s.ae [4]).dM kY;obtain⟨wH,Me,h2,e3,e4,s2⟩:=tc (P:=Tryz.prog) (i:=0) (x:=u) s (by omega) Ek.1 Ek.2 aQ dP;have z3:=s;refine zO U (bM (r:=.ptr wH Me) U U e3) (aB.lJ U U U (OpR.yW U U U (⟨_,e4,s2⟩)) ?_);rintro _ h ⟨_,s⟩;refine aB.nil ⟨⟨λ_ _=>.inr ⟨U,⟨_,b7 U⟩,NO⟩,aa,aa,aa,λ_ _=>.inr ⟨U,⟨_,m9 U (me _ _)⟩,bx _ U⟩,gF (.inr ⟨U,⟨_,o_load U (z0.ld (k:=3) U fD U)⟩,bx _ U⟩) (.inr ⟨U,⟨_,o_load U (z1.ld (k:=3) U fD U)⟩,bx _ U⟩),λ_ _=>.inr ⟨U,⟨_,m9 U (yY _ _)⟩,bx _ U⟩,gF (.inr ⟨U,⟨_,o_load U (z0.ld (k:=3) U bP U)⟩,bx _ U⟩) (.inr ⟨U,⟨_,o_load U (z1.ld (k:=3) U bP U)⟩,bx _ U⟩),λ_ _=>.inr ⟨U,⟨_,aq (r:=.int .i64 ((i+1:Nat):Int)) U U (by rw[show((i+1:Nat):Int)=(i:Int)+1 by omega];exact aL (ak (by omega) (by have:=(List.getElem?_eq_some_iff.1 hc).1;omega)))⟩,bx _ U⟩,yr 5⟩,?_⟩;have s:=E5 (s.ae [1,4]);have s:=s.ae [1,0,3,1,2,1];exact Pf I (by rw[cG];omega) hl (by unfold hO;rw[ai (by omega)];simp only[e_,fY (cQ 4 m)]) s ⟨U,U,aa⟩ λE' h' v us hE s=>⟨aa,_,Aq hE.1,us,s.del 5⟩
end
section
variable {told:cu} {p:Nat} {kd:fo}
theorem Sat.YU {A D:aE}: ∀(k:Nat) {S:List aE},Sat h (A::C::D::S)->Sat h (A::C::D::S.drop k):=by
 intro k;induction k with
 |zero=>intro S s;exact s
 |succ k I=>intro S s;cases S with
  |nil=>exact s
  |cons B S=>exact I (S:=S) (s.del 3)
theorem Mw (hT:W told)(hi:i<ks.length)(hl:ks.length<=512){Uo:Bool}(I:if Uo then ks.length<=i+1 else i=0)(s:Sat h (aY xu nu (l+1) bu (bF ks)::S)):
  Call ⟨Tryz.prog,told⟩ 157 [.ptr g 0,.agg [.ptr xu 0,.int .i64 (i:Int)],.ptr x 0,.bool Uo] h λv h'=>v=.aX [.agg [.cg,.int .i64 0,.cg,.cg],.bool false,.int .i64 0]/\Sat h' (aY xu nu (l+1) bu (bF ks)::S):=by
 obtain⟨bv,cv,us,s⟩:=aU.1 s;have jl:∀ {h:H} {S:List aE} {A C:aE},Sat h (A::C::pt xu (.cells 4 (vf nu (l+1) bv cv) false)::.b8 bv bu::roS 1 cv us::dy us (bF ks)::S)->lenV Tryz.prog h 98 cv=some (.int .i64 (ks.length:Int)):=λ{h S A C} s=>by
  have s:=s.drop.drop;have:=gT (P:=Tryz.prog) aQ s
  rwa [dn] at this
 cases Uo with
 |true =>
  have I:ks.length<=i+1:=I;refine Call.of_wp (hT.free _ U) GQ U U (zg U ?_);refine au.cj s U U U (fC U U) (λp5 h s => ?_);refine au.cj s U U U (cm vt) (λp8 h s => ?_);refine zk 5 U (zY s 1 sJ bP U (zk 6 U (zo U (eo U U) (zk 7 U (zC U aK (decide_eq_false (by omega)) ?_)))));refine zk 2 U (zo U (aq (r:=.int .i64 ((i+1:Nat):Int)) U U (by rw[show((i+1:Nat):Int)=(i:Int)+1 by omega];exact aL ak)) ?_);refine zY s 1 jx fD U (zn U (zY s 2 cP gx U (zo U (aD U U U (jl s)) (zB U j6 (decide_eq_true (by omega)) ?_))));refine zk 5 U (zo U (cO U (by rw[JX];rfl)) ?_);refine zS U (s.gZ (j:=0) U jC U U) (λh s => ?_);refine zk 3 U ?_;refine WP.ret ⟨aa,_,DO U (s.b9 (k:=0) U qj jC) U U,?_⟩;exact⟨U,aU.2 ⟨bv,cv,us,s.drop.drop⟩⟩
 |false =>
  have I:i=0:=I;subst I;refine Call.of_wp (hT.free _ U) GQ U U (zg U ?_);refine au.cj s U U U (fC U U) (λp5 h s => ?_);refine au.cj s U U U (cm vt) (λp8 h s => ?_);refine zk 5 U (zY s 1 sJ bP U (zk 6 U (zo U (eo U U) (zk 4 U (zb U (by exact dV ak) ?_)))));refine zk 6 U (zB U aK (by decide) ?_);refine zk 15 U (zo U (cO U (by rw[JX];rfl)) ?_);refine zS U (s.gZ (j:=0) U jC U U) (λh s => ?_);refine zk 3 U ?_;refine WP.ret ⟨aa,_,DO U (s.b9 (k:=0) U qj jC) U U,?_⟩;exact⟨U,aU.2 ⟨bv,cv,us,s.drop.drop⟩⟩
theorem Xc (hT:W told)(hB:B<=2000)(hN:N<=65536)(cn:EI N B ε)(hw:NW N now)(hi:ks[i+1]?=some kd)(hl:ks.length<=512)(I:l+1<=64)(hm:kd.pg<N)(hp:bH (pgG now ε kd.pg) 204 0 l cs)(hc:∀c∈cs,iQ l c/\c.length<=225)
 (s:Sat h (GA g a p q r data aR now ε::aY xu nu (l+1) bu (bF ks)::S)):
  Call ⟨Tryz.prog,told⟩ 157 [.ptr g 0,.agg [.ptr xu 0,.int .i64 (i:Int)],.ptr x 0,.bool true] h λv h'=>∃y ah,v=.aX [Un xu i x y,.bool true,.int .i64 0]/\EI N B ah/\Sm N ε ah/\Sat h' (GA g a p q r data aR now ah::aY y kd.pg l (pgG now ε kd.pg) cs::aY xu nu (l+1) bu (bF ks)::S):=by
 have xw:=(List.getElem?_eq_some_iff.1 hi).1;have s:=s.ae [1];obtain⟨bv,cv,us,s⟩:=aU.1 s;have jl:∀ {h:H} {S:List aE} {A C:aE},Sat h (A::C::pt xu (.cells 4 (vf nu (l+1) bv cv) false)::.b8 bv bu::roS 1 cv us::dy us (bF ks)::S)->lenV Tryz.prog h 98 cv=some (.int .i64 (ks.length:Int)):=λ{h S A C} s=>by
  have s:=s.drop.drop;have:=gT (P:=Tryz.prog) aQ s
  rwa [dn] at this
 refine Call.of_wp (hT.free _ U) GQ U U (zg U ?_);refine au.cj s U U U (fC U U) (λp5 h s => ?_);refine au.cj s U U U (cm vt) (λp8 h s => ?_);refine zk 5 U (zY s 1 sJ bP U (zk 6 U (zo U (eo U U) (zk 7 U (zC U aK (decide_eq_false (by omega)) ?_)))));refine zk 2 U (zo U (aq (r:=.int .i64 ((i+1:Nat):Int)) U U (by rw[show((i+1:Nat):Int)=(i:Int)+1 by omega];exact aL ak)) ?_);refine zY s 1 jx fD U (zn U (zY s 2 cP gx U (zo U (aD U U U (jl s)) (zC U j6 (decide_eq_false (by omega)) ?_))));refine zk 6 U (zY s 1 jx fD U (zk 3 U (zo U (cO U (by rw[JX];rfl)) ?_)));refine zS U (s.gZ (j:=0) U jC U U) (λh s => ?_);refine zk 8 U (zY s 1 jx fD U (zm U (zo U (oz U (mki_of j9 U)) (zm U (zo U (aq (r:=.int .i64 ((i+1:Nat):Int)) U U (by rw[show((i+1:Nat):Int)=(i:Int)+1 by omega];exact aL ak)) ?_)))));have s:=s.ae [2,2,2,2];have s:Sat h (aY xu nu (l+1) bu (bF ks)::_):=aU.2 ⟨bv,cv,us,s⟩;have s:=s.ae [0,2];refine zc U (s_ hT (ES hT hB hw) cn (gX hi) hm hN hp hc I s) ?_;rintro v h ⟨y,ah,rfl,va,hs,s⟩;have s:=s.ae [3];refine zk 3 U (zf U (rY _ _) ?_);refine zS U (by exact s.kC (k:=0) U abG U (by decide) U U) (λh s => ?_);refine zk 4 U (zl U (s.b9 (k:=0) U qj jC) (zm U (zB U dK (U) (zm U ?_))));refine zS U (s.gZ (j:=0) U jC U U) (λh s => ?_);refine zk 3 U ?_;refine WP.ret ⟨aa,_,DO U (s.b9 (k:=0) U qj jC) U U,?_⟩;exact⟨y,ah,U,va,hs,(s.ae [3,1,1]).YU 2⟩
theorem Xd (hT:W told)(hB:B<=2000)(hN:N<=65536)(cn:EI N B ε)(hw:NW N now)(hk:ks[i]?=some kd)(hi:i+1<ks.length)(hl:ks.length<=512)(I:l+1<=64)(hm:kd.pg<N)(hp:bH (pgG now ε kd.pg) 204 0 l cs)(hc:∀c∈cs,iQ l c/\c.length<=225)
 (s:Sat h (GA g a p q r data aR now ε::aY xu nu (l+1) bu (bF ks)::S)):
  Call ⟨Tryz.prog,told⟩ 157 [.ptr g 0,.agg [.ptr xu 0,.int .i64 ((i+1:Nat):Int)],.ptr x 0,.bool false] h λv h'=>∃y ah,v=.aX [Un xu i y x,.bool true,.int .i64 0]/\EI N B ah/\Sm N ε ah/\Sat h' (GA g a p q r data aR now ah::aY y kd.pg l (pgG now ε kd.pg) cs::aY xu nu (l+1) bu (bF ks)::S):=by
 have s:=s.ae [1];obtain⟨bv,cv,us,s⟩:=aU.1 s;have jl:∀ {h:H} {S:List aE} {A C:aE},Sat h (A::C::pt xu (.cells 4 (vf nu (l+1) bv cv) false)::.b8 bv bu::roS 1 cv us::dy us (bF ks)::S)->lenV Tryz.prog h 98 cv=some (.int .i64 (ks.length:Int)):=λ{h S A C} s=>by
  have s:=s.drop.drop;have:=gT (P:=Tryz.prog) aQ s
  rwa [dn] at this
 refine Call.of_wp (hT.free _ U) GQ U U (zg U ?_);refine au.cj s U U U (fC U U) (λp5 h s => ?_);refine au.cj s U U U (cm vt) (λp8 h s => ?_);refine zk 5 U (zY s 1 sJ bP U (zk 6 U (zo U (eo U U) (zk 4 U (zo U (aq (r:=.int .i64 (i:Int)) U U (by rw[show(i:Int)=((i+1:Nat):Int)-1 by omega];exact dV ak)) ?_)))));refine zk 6 U (zC U aK (decide_eq_false (by omega)) ?_);refine zk 2 U (zo U (aq (r:=.int .i64 ((i+1:Nat):Int)) U U (by rw[show((i+1:Nat):Int)=(i:Int)+1 by omega];exact aL ak)) ?_);refine zY s 1 jx fD U (zn U (zY s 2 cP gx U (zo U (aD U U U (jl s)) (zC U j6 (decide_eq_false (by omega)) ?_))));refine zk 6 U (zY s 1 jx fD U (zk 3 U (zo U (cO U (by rw[JX];rfl)) ?_)));refine zS U (s.gZ (j:=0) U jC U U) (λh s => ?_);refine zk 8 U (zY s 1 jx fD U (zm U (zo U (oz U (mki_of j9 U)) (zm U ?_))));have s:=s.ae [2,2,2,2];have s:Sat h (aY xu nu (l+1) bu (bF ks)::_):=aU.2 ⟨bv,cv,us,s⟩;have s:=s.ae [0,2];refine zc U (s_ hT (ES hT hB hw) cn (gX hk) hm hN hp hc I s) ?_;rintro v h ⟨y,ah,rfl,va,hs,s⟩;have s:=s.ae [3];refine zk 3 U (zf U (vW _ _) ?_);refine zS U (by exact s.kC (k:=0) U abG U (by decide) U U) (λh s => ?_);refine zk 4 U (zl U (s.b9 (k:=0) U qj jC) (zm U (zB U dK (U) (zm U ?_))));refine zS U (s.gZ (j:=0) U jC U U) (λh s => ?_);refine zk 3 U ?_;refine WP.ret ⟨aa,_,DO U (s.b9 (k:=0) U qj jC) U U,?_⟩;exact⟨y,ah,U,va,hs,(s.ae [3,1,1]).YU 2⟩
end
section
variable {told:cu} {p:Nat} {v:V}
theorem Xe (hT:W told)(hB:B<=2000)(cn:EI N B ε)(hw:NW N now)(gI:fU N R M (pgG now ε))(ht:jA N M ps)(hz:ps.Perm (nr::qs))(oI:nl∈ps)(hnu:nu∈ps)(hlu:nl≠nu)(hf:cy J<=486)(hl:l+1<=64)(Gs:bH bu 204 0 (l+1) ou)(hi:i+1<ou.length)(hcu:∀c∈ou,1<=c.length)
 (s:Sat h (GA g a p q r data aR now ε::roS 1 v us::dy us J::aY xu nu (l+1) bu ou::aY xl nl l bl eD::aY xr nr l br dS::S)):
  Call ⟨Tryz.prog,told⟩ 85 [Un xu i xl xr,.ptr g 0,v] h λv' h'=>∃ah aN M' bJ bU,v'=.int .i64 0/\EI N B ah/\Sm N ε ah/\NW N aN/\aN.length<=now.length+3/\fU N R M' (pgG aN ah)/\jA N M' qs/\bH bJ 204 0 l J/\bH bU 204 0 (l+1) (ou.eraseIdx (i+1))/\pgG aN ah nl=bJ/\pgG aN ah nu=bU/\(∀m:Int,m≠1->m≠nl->m≠nu->pgG aN ah m=pgG now ε m) /\
   Sat h' (GA g a p q r data aR aN ah::aY xu nu (l+1) bU (ou.eraseIdx (i+1))::S):=by
 have Em:=ht.my nl oI
 have hur:=ht.my nu hnu
 have af2:=Gs.fits
 have s:=s.ae [4]
 obtain⟨bvl,cvl,usl,s⟩:=aU.1 s
 have s:=s.ae [8]
 obtain⟨bvr,cvr,YT,s⟩:=aU.1 s
 have s:=s.ae [0,3,6,6,6,6]
 have TF:=(ku (s.jo (j:=3) U (cU _ _ _))).2.2
 refine Call.of_wp (hT.free _ U) Tryz.func85 U U (zg U ?_)
 refine au.cj s U U U (fC U U) (λp3 h s => ?_)
 refine zk 4 U ?_
 have s:=s.ae [3,3,3]
 refine WP.drawn [af,af,af,af,af,af,af,af,af,af,af,af,af,af] U (by kernel_rfl) (by kernel_rfl) ?_
 refine zM U (zF U (vW _ _) (zL U (s.ld (k:=3) U fD U) (zN U (zF U (iA _ _) (zL U (s.ld (k:=5) U bP U) (zF U (vW _ _) (zL U (s.ld (k:=3) U fD U) (zN U (zF U (ew _ _) (zL U (s.ld (k:=5) U bP U) (zM U (aB.any U U U U (OpR.call U U U U (mX hT hB cn hw Em.2 (cU _ _ _) hf (by omega) s)) ?_))))))))))))
 rintro v0 h ⟨c_,bJ,rfl,a1,a2,a3,a4,s⟩
 have j5:∀m:Int,pgG (cD (nl:Int) bJ now) c_ m=if (nl:Int)=m then bJ else pgG now ε m:=λm=>by rw[eY,gN a2]
 have AN:fU N R M (pgG (cD (nl:Int) bJ now) c_):=gI.frame (by rw[j5,ai (by omega)]) (by rw[j5,ai (by omega)])
 have jl:=gz (i:=(nl:Int)) (b:=bJ) (now:=now)
 generalize af3:cD (nl:Int) bJ now=n_ at s j5 AN a3 jl
 refine zA U ?_
 refine aB.nil ⟨⟨aa,aa,aa,aa,aa,aa,aa,aa,aa,aa,aa,aa,aa,aa,aa⟩,?_⟩
 refine zK 3 U (zC U aG (U) (zk 7 U (zY s 3 rY fD U (zn U (zY s 4 iA bP U (zc U (E8 hT hB a1 a3 AN ht hz s) ?_))))))
 rintro v0 h ⟨iJ,mG,M2,rfl,c1,c2,c3,c4,c5,c6,c7,s⟩
 refine zk 5 U (zC U aG (U) (zk 5 U (zY s 3 me fD U (zm U (zY s 3 yY bP U (zo U (aq (r:=.int .i64 ((i+1:Nat):Int)) U U (by rw[show((i+1:Nat):Int)=(i:Int)+1 by omega];exact aL ak)) ?_))))))
 have s:=s.ae [0,5]
 refine zc U (El hT hB c1 c3 hur.2 Gs hi hcu s) ?_
 rintro v0 h ⟨kI,bU,rfl,d1,d2,d3,d4,s⟩
 refine zk 2 U (WP.ret ⟨aa,_,U,?_⟩)
 have I:∀m:Int,pgG (cD (nu:Int) bU mG) kI m=if (nu:Int)=m then bU else pgG mG iJ m:=λm=>by rw[eY,gN d2]
 have afc:=gz (i:=(nu:Int)) (b:=bU) (now:=mG)
 refine⟨kI,_,M2,bJ,bU,U,d1,a2.trans (c2.trans d2),d3,by omega,c5.frame ?_ ?_,c6,a4.f,d4,?_,?_,λm h1 h2 h3 => ?_,s.YS 11⟩
 .rw[I,ai (by omega)]
 .rw[I,ai (by omega)]
 .rw[I,ai (by omega),c7 _ (by omega),j5,ay U]
 .rw[I,ay U]
 .rw[I,ai (λe=>h3 e.symm),c7 _ h1,j5,ai (λe=>h2 e.symm)]
end
section
variable {told:cu} {p:Nat}
theorem E9 {k lk e:Nat}(h:bH b k lk e cs): cy cs<=486:=by
 have:=h.fits;rw[kx];omega
theorem NB {n l:Int}{bv cv:V}(hb:View h bv b)(hc:wX (T.get h.tr) 1 cv us): buildV Tryz.prog 101 [(0,.int .i64 n),(1,.int .i64 l),(2,bv),(3,cv)]=some (.agg [.int .i64 n,.int .i64 l,bv,cv]):=by
 rcases hb.2 with⟨rfl|⟨a,rfl⟩,_⟩|⟨id,off,cap,N,cs,st,rfl,_⟩<;>rcases hc.2 with⟨rfl,_⟩|⟨wH,I,n2,HW,N2,rest,rfl,_⟩<;>(rw[Qb];rfl)
noncomputable def afd : Code:=dm [1,1,0,0,0] ((Tryz.f154.body).getD .skip)
theorem GW (hT:W told)(hB:B<=2000)(hN:N<=65536)(hL:L<=60): ∀(l x nl:Nat) (cs:List (List Nat)) (ps M:List Nat) (ε:bA) (now:List (Int×List Nat)) (h:H) (E:List (Nat×V)) (S:List aE) (Q:Ex->List (Nat×V)->H->Prop),
  EI N B ε->NW N now->fU N R M (pgG now ε)->jA N M ((root::ps)++ot)->Nv (cM Z) (pgG now ε) l [] none cs es ps->bH (pgG now ε root) 204 0 l cs->l<=L->E4 l cs<=A->(1<=l->374*l+112<=A)->(∀m∈ot,pgG now ε (m:Nat)=P0 m)->now.length+2*l<=nl ->
  Sat h (GA g a p q r data aR now ε::aY x root l (pgG now ε root) cs::S)->Has E [(0,.ptr g 0),(1,.ptr x 0)] ->
  (∀E' h' ah aN,EI N B ah->Sm N ε ah->NW N aN->aN.length<=nl->qT N root R ot Z A L P0 (pgG aN ah) es->Has E' [(0,.ptr g 0)]->Sat h' (GA g a p q r data aR aN ah::S)->Q (.exit 0) E' h')->WP ⟨Tryz.prog,told⟩ 91 (.loop afd) E h Q:=by
 intro l
 induction l with
 |zero =>
  intro x nl cs ps M ε now h E S Q cn hw gI jd jL hp hlL I YV uM oI s hE hq
  have s:=s.ae [1]
  obtain⟨bv,cv,us,s⟩:=aU.1 s
  refine WP.loop (WP.has hE (zK 5 U (zY s 0 ew bP U (zC U cA (by simp) ?_))))
  refine zk 10 U (WP.exit ?_)
  have s:=s.ae [4]
  exact hq _ _ ε now cn (Sm.refl N ε) hw (by omega) ⟨M,0,cs,ps,gI,jd,jL,hp,⟨hlL,I⟩,uM⟩ ⟨U,aa⟩ (s.skip 4)
 |succ l ih =>
  intro x nl cs ps M ε now h E S Q cn hw gI jd jL hp hlL I YV uM oI s hE hq
  have acw:=jL
  obtain⟨ks,rfl,hS,rfl,rfl,Q4⟩:=jL
  have s0:=s
  have s:=s.ae [1]
  obtain⟨bv,cv,us,s⟩:=aU.1 s
  have jl:=gT (P:=Tryz.prog) aQ s
  rw[dn] at jl
  refine WP.loop (WP.has hE (zK 5 U (zY s 0 ew bP U (zB U cA (by simp) ?_))))
  refine zk 3 U (zY s 0 cP gx U (zo U (aD U U U jl) ?_))
  by_cases h1:ks.length=1
  .obtain⟨kd,rfl⟩:=List.length_eq_one_iff.1 h1
   obtain⟨cs',a1,a2,a3⟩:=Q4 0 kd U
   have e1:loK [] [kd] 0=[]:=rfl
   have e2:cT none [kd] 0=none:=rfl
   rw[e1,e2] at a1
   have tg:=jd.my root (by simp)
   have Eo:=jd.my kd.pg (by simp[cL])
   have fB:=jd.nd
   simp only[eE,tE,fZ,cL,fJ,oO,gd,nH,not_or] at fB
   refine zB U dK (by simp) ?_
   refine zk 4 U (WP.block (zK 4 U (zo U (oz U (mki_of j9 U)) (zc U (s_ hT (ES hT hB hw) cn (gX (i:=0) (k:=kd) U) Eo.2 hN a3 (λc hc=>⟨(a1.cells c hc).1,(a1.cells c hc).2.1⟩) (by omega) (s0.ae [1])) ?_))))
   rintro v h ⟨y,c_,rfl,kD,ej,s⟩
   obtain⟨Jo,z7,us2,s⟩:=aU.1 s
   have hyb:=(s.aC (k:=1) U (bp _ _)).cells
   have hyc:=ku (s.jo (j:=2) U (cU _ _ _))
   have gY:pgG now c_=pgG now ε:=gN ej
   have adR:((root::[kd].flatMap cL)++ot).Perm (kd.pg::((root::kd.ps)++ot)):=by
    rw[lY]
    intro z
    simp only[eE,tE,fZ,cL,lZ,l7,fJ]
    omega
   have s:=s.ae [5]
   refine zk 10 U (zC U aG (U) (zk 9 U (zY s 1 iA bP U (zc U (E8 hT hB kD hw (by rw[gY];exact gI) jd adR s) ?_))))
   rintro v h ⟨iJ,mG,M2,rfl,c1,c2,c3,c4,c5,c6,c7,s⟩
   refine zk 5 U (zC U aG (U) ?_)
   have s:=s.ae [5,1]
   obtain⟨bv3,cv3,us3,s⟩:=aU.1 s
   have s:=s.ae [4,0,3]
   refine zk 5 U (WP.drawn [af,af,af,af,af,af,af,af,af,af,af] U (by kernel_rfl) (by kernel_rfl) ?_)
   refine zM U (zM U (zN U (zF U (iA _ _) (zL U (s.ld (k:=1) U bP U) (zM U (zN U (zF U (nT _ _) (zL U (s.ld (k:=0) U bS U) ?_))))))))
   have s:=s.ae [2,5]
   refine aB.any U U U U (OpR.call U U U U (wZ hT hB c1 c3 tg.2 s (bp _ _) a3.good)) ?_
   rintro v h ⟨kI,rfl,d1,d2,d3,s⟩
   refine zA U ?_
   refine aB.nil ⟨⟨aa,aa,aa,aa,aa,aa,aa,aa,aa,aa,aa,aa⟩,?_⟩
   refine zK 3 U (zC U aG (U) ?_)
   have s:=s.ae [2,2,5]
   refine zk 3 U (WP.drawn [af,af,af,af,af,af,af,af,af,af,af,af,af,af,af,af,af,af,af] U (by kernel_rfl) (by kernel_rfl) ?_)
   refine zM U (zN U (zF U (iA _ _) (zL U (s.ld (k:=1) U bP U) (zM U (zN U (zF U (ew _ _) (zL U (s.ld (k:=0) U bP U) (zM U (zN U (zF U (nT _ _) (zL U (s.ld (k:=0) U bS U) (zM U (zN U (zF U (cP _ _) (zL U (s.ld (k:=0) U gx U) (zO U (cO (r:=.agg (vf root l Jo z7)) U (NB (s.aC (k:=4) U (bp _ _)) (s.jo (j:=2) U (cU _ _ _)))) (aB.any U U U U (OpR.of (R:=λv h'=>v=.ptr h.next 0/\h'=h.new (.cells 4 (vf root l Jo z7) false)) (fC U (by simp only[V.cells,l_,mL,hyb.2,hyc.2.1];rfl)) ⟨U,U⟩) ?_)))))))))))))))))
   rintro v' h' ⟨rfl,rfl⟩
   have s:=s.new (.cells 4 (vf root l Jo z7) false)
   generalize h.next=x2 at s ⊢
   have s:=s.ae [0,4,2,6,2]
   have s:Sat _ (aY x2 root l (pgG now ε kd.pg) cs'::_):=aU.2 ⟨Jo,z7,us2,s⟩
   refine zA U ?_
   refine aB.nil ⟨⟨aa,aa,aa,aa,aa,aa,aa,aa,aa,aa,aa,aa,aa,aa,aa,aa,aa,aa,aa,aa⟩,?_⟩
   have j5:∀m:Int,pgG (cD (root:Int) (pgG now ε kd.pg) mG) kI m=if (root:Int)=m then pgG now ε kd.pg else pgG mG iJ m:=λm=>by rw[eY,gN d2]
   have jl:=gz (i:=(root:Int)) (b:=pgG now ε kd.pg) (now:=mG)
   generalize cD (root:Int) (pgG now ε kd.pg) mG=Mx at s j5 jl d3
   have GM:pgG Mx kI root=pgG now ε kd.pg:=by rw[j5,ay U]
   have hold:∀m:Nat,m∈kd.ps\/m∈ot->pgG Mx kI (m:Nat)=pgG now ε m:=λm hm=>by
    have hr:=jd.my m (by simp only[eE,tE,fZ,cL,fJ,gd,nH];rcases hm with q|q<;>simp[q])
    have fG:m≠root:=λe=>by
     subst e
     rcases hm with q|q
     .exact fB.1.2.1 q
     .exact fB.1.2.2 q
    rw[j5,ai (by omega),c7 _ (by omega),gY]
   have hz:=E9 a3
   rw[<-GM] at s
   have h2a:=YV (by omega)
   have he:[kd].flatMap (·.es)=kd.es:=by simp
   have s:=s.ae [1]
   dsimp only[aM,bringA,getA] at s
   refine ih x2 nl cs' kd.ps M2 kI Mx _ _ _ Q d1 d3 (c5.frame (by rw[j5,ai (by omega)]) (by rw[j5,ai (by omega)])) c6 ?_ (by rw[GM];exact a3) (by omega) ?_ (λ_=>by omega) (λm hm=>by rw[hold m (.inr hm),uM m hm]) (by omega) s ⟨U,U,aa⟩ λE' h' ah aN w1 w2 w3 w4 w5 dY s'=>hq E' h' ah aN w1 (ej.trans (c2.trans (d2.trans w2))) w3 w4 w5 dY (s'.skip 5)
   .rw[he]
    exact a1.frame λm hm=>hold m (.inl hm)
   .unfold E4
    split<;>omega
  .skip
   refine zC U dK (by simp;omega) ?_
   refine zk 3 U (WP.exit ?_)
   have s:=s.ae [4]
   have lN:=List.length_pos_iff.2 hS.ne
   have hpn:Mb (bF ks)=0:=ay (by rw[dn];omega)
   have I:lam (l+1) (bF ks)<=A:=by
    unfold E4 at I
    unfold lam
    rw[ai (by omega)] at I ⊢
    omega
   exact hq _ _ ε now cn (Sm.refl N ε) hw (by omega) ⟨M,l+1,_,_,gI,jd,acw,hp,⟨hlL,I⟩,uM⟩ ⟨U,aa⟩ (s.skip 4)
theorem Xf (hT:W told)(hB:B<=2000)(hN:N<=65536)(hL:L<=60)(cn:EI N B ε)(hw:NW N now)(gI:fU N R M (pgG now ε))(jd:jA N M ((root::ps)++ot))
 (jL:Nv (cM Z) (pgG now ε) L [] none cs es ps\/1<=L/\cs=[]/\es=[]/\ps=[])(hp:bH (pgG now ε root) 204 0 L cs)(Mk:E4 L cs<=A)(I:1<=L->374*L+112<=A)(s:Sat h (GA g a p q r data aR now ε::aY x root L (pgG now ε root) cs::S)):
  Call ⟨Tryz.prog,told⟩ 154 [.ptr g 0,.ptr x 0] h λv h'=>∃ah aN,v=.int .i64 0/\EI N B ah/\Sm N ε ah/\NW N aN/\aN.length<=now.length+2*L+1/\qT N root R ot Z A L (pgG now ε) (pgG aN ah) es/\Sat h' (GA g a p q r data aR aN ah::S):=by
 have tg:=jd.my root (by simp);have s0:=s;have s:=s.ae [1];obtain⟨bv,cv,us,s⟩:=aU.1 s;have jl:=gT (P:=Tryz.prog) aQ s;rcases jL with jL|⟨h1,rfl,rfl,rfl⟩
 .have fG:L=0\/cs.length≠0:=by
   cases L with
   |zero=>exact .inl U
   |succ l =>
    obtain⟨ks,rfl,hS,_⟩:=jL;rw[dn];exact .inr λq=>hS.ne (iZ q)
  refine Call.of_wp (hT.free _ U) Tryz.func154 U U (zK 9 U (zY s 0 ew bP U ?_));by_cases h0:L=0
  .skip;refine zC U cA (by simp;omega) ?_;refine zk 12 U (WP.block (GW (P0:=pgG now ε) (A:=A) (L:=L) (R:=R) (ot:=ot) (Z:=Z) (es:=es) hT hB hN hL L x (now.length+2*L+1) cs ps M ε now _ _ S _ cn hw gI jd jL hp (aH _) Mk I (λ_ _=>U) (by omega) s0 ⟨U,U,aa⟩ λE' h' ah aN w1 w2 w3 w4 w5 hE s' => ?_));have s:=s';exact WP.has hE (zK 4 U (WP.ret ⟨aa,_,U,ah,aN,U,w1,w2,w3,w4,w5,s⟩))
  .skip;refine zB U cA (by simp;omega) ?_;refine zk 3 U (zY s 0 cP gx U (zo U (aD U U U jl) (zC U dK (decide_eq_false (by have:=fG.resolve_left h0;omega)) ?_)));refine zk 5 U (WP.block (GW (P0:=pgG now ε) (A:=A) (L:=L) (R:=R) (ot:=ot) (Z:=Z) (es:=es) hT hB hN hL L x (now.length+2*L+1) cs ps M ε now _ _ S _ cn hw gI jd jL hp (aH _) Mk I (λ_ _=>U) (by omega) s0 ⟨U,U,aa⟩ λE' h' ah aN w1 w2 w3 w4 w5 hE s' => ?_));have s:=s';exact WP.has hE (zK 4 U (WP.ret ⟨aa,_,U,ah,aN,U,w1,w2,w3,w4,w5,s⟩))
 .refine Call.of_wp (hT.free _ U) Tryz.func154 U U ?_;refine zK 9 U (zY s 0 ew bP U (zB U cA (by simp;omega) ?_));refine zk 3 U (zY s 0 cP gx U (zo U (aD U U U jl) (zB U dK (U) ?_)));have s:=(OS s).mq (k:=1);have s:=s.ae [6];refine zk 8 U (zY s 3 iA bP U (zc U (mX (l:=0) hT hB cn hw tg.2 (jg _ _ _).s (by decide) (by omega) s) ?_));rintro v h ⟨c_,b1,rfl,c1,c2,c3,c4,s⟩;have j5:∀m:Int,pgG (cD (root:Int) b1 now) c_ m=if (root:Int)=m then b1 else pgG now ε m:=λm=>by rw[eY,gN c2]
  have jl:=gz (i:=(root:Int)) (b:=b1) (now:=now);have fB:=jd.nd;rw[fJ,oO] at fB;refine zk 2 U (WP.ret ⟨aa,_,U,?_⟩);refine⟨c_,_,U,c1,c2,c3,by omega,⟨M,0,[],[],gI.frame (by rw[j5,ai (by omega)]) (by rw[j5,ai (by omega)]),jd,⟨U,⟨by simp,by simp,List.Pairwise.nil⟩,U⟩,by rw[j5,ay U];exact c4.f,⟨gh _,?_⟩,λm hm => ?_⟩,s.skip 6⟩
  .have:=I h1;show 486<=A;omega
  .have:m≠root:=λe=>fB.1 (by rw[<-e];exact hm);rw[j5,ai (by omega)]
end
section
variable {told:cu} {p:Nat} {v:V}
def ShR (N B g a p q r aR nu nl nr l i:Nat)(data:List Nat)(ou J:List (List Nat))(ε:bA)(now:List (Int×List Nat))(S:List aE)(v:V)(h':H): Prop:=∃ah aN,v=.int .i64 0/\EI N B ah/\Sm N ε ah/\NW N aN/\aN.length<=now.length+3/\Sat h' (GA g a p q r data aR aN ah::S) /\
 (pgG aN ah=pgG now ε\/∃k ck I br' bu',J[k]?=some ck/\mz J 2 k/\bH I 204 0 l (J.take k)/\bH br' 204 0 l (rgtC l (J.drop k))/\bH bu' 204 0 (l+1) (ou.set (i+1) (e_ nr (fE l ck)))/\pgG aN ah nl=I/\pgG aN ah nr=br'/\pgG aN ah nu=bu'/\∀m:Int,m≠nl->m≠nr->m≠nu->pgG aN ah m=pgG now ε m)
set_option maxHeartbeats 1000000 in
theorem Xg (hT:W told)(hB:B<=2000)(cn:EI N B ε)(hw:NW N now)(wL:1<=l)(hl:l+1<=64)(hJ1:486<cy J)(YW:cy J<=695)(hJc:∀c∈J,iQ l c/\c.length<=100)(hcu:∀c∈ou,c.length<=100)(oo:ou.length<=512)(hi:i+1<ou.length)(oI:nl<N)(oD:nr<N)(hnu:nu<N)(hN:N<=65536)(h1:nl≠nr)(h2:nl≠nu)(h3:nr≠nu)
 (s:Sat h (GA g a p q r data aR now ε::roS 1 v us::dy us J::aY xu nu (l+1) bu ou::aY xl nl l bl eD::aY xr nr l br dS::S)):
  Call ⟨Tryz.prog,told⟩ 158 [Un xu i xl xr,.ptr g 0,v] h (ShR N B g a p q r aR nu nl nr l i data ou J ε now S):=by
 obtain⟨k0,Br⟩:=LB (λc hc=>by have:=(hJc c hc).2;omega) hJ1 YW
 have ae0:=Br.k2
 have hJl:J.length<=512:=by
  rw[kx] at YW
  omega
 have s:=s.ae [4]
 dsimp only[bringA,getA,aM] at s
 obtain⟨bvl,cvl,usl,s⟩:=aU.1 s
 have s:=s.ae [8]
 dsimp only[bringA,getA,aM] at s
 obtain⟨bvr,cvr,YT,s⟩:=aU.1 s
 have s:=(((((((s.ae [0,3,6,6,6,6]).del 11).del 10).del 9).del 8).del 7).del 6)
 dsimp only[bringA,getA,aM] at s
 have agt:=ko (s.ae [4])
 refine Call.of_wp (hT.free _ U) Tryz.func158 U U ?_
 have s:=s.ae [3,3]
 dsimp only[bringA,getA,aM] at s
 refine zg U ?_
 refine au.cj s U U U (fC U U) (λp3 h s => ?_)
 dsimp only[V.cells,List.length_cons,List.length_nil,Nat.reduceAdd] at s
 refine za U (zv (zg U (zm U ?_)))
 have s:=s.ae [1,1]
 dsimp only[bringA,getA,aM] at s
 refine au.call U U U U U U U (Jn (least:=2) hT (cU _ _ _) (λc h=>by have:=(hJc c h).2;omega) hJl (by omega) (by omega) s) ?_
 rintro v0 h ⟨k,rfl,lB,ob,s⟩
 have hk:k≠0:=λe=>lB e k0 Br
 have nY:=ob hk
 have lN:=nY.k1
 have kW:=nY.k2
 obtain⟨ck,Bc⟩:∃ck,J[k]?=some ck:=⟨_,aF kW⟩
 refine za U (zv (zw (zg U (zm U (au.rW U U U (aq U U dK) (by simp;omega) ?_)))))
 refine zv (zj U (WP.skip (zw ?_)))
 have agu:=ko (s.ae [1])
 have z0:=s
 have g1:=xR (P:=Tryz.prog) (b:=k) (s.jo (j:=0) U (cU _ _ _)) (by omega) lN aQ dP
 have g2:=J5 (P:=Tryz.prog) (a:=k) (s.jo (j:=0) U (cU _ _ _)) (by omega) aQ dP
 obtain⟨v1,f1,s⟩:=QT (P:=Tryz.prog) (b:=k) s (by omega) lN aQ dP
 obtain⟨v2,f2,s⟩:=Yy (P:=Tryz.prog) (a:=k) (s.ae [1]) (by omega) aQ dP
 dsimp only[bringA,getA,aM] at s
 rw[g1] at f1
 rw[g2] at f2
 cases f1
 cases f2
 have TW:=(ku (s.jo (j:=1) U (cU _ _ _))).2.2
 have lB:=(ku (s.jo (j:=2) U (cU _ _ _))).2.2
 have ob:=(ku (s.jo (j:=0) U (cU _ _ _))).2.2
 refine WP.drawn [some (0,2),some (0,2),some (0,2),some (0,2),af,af,af,af,af,af] U (by kernel_rfl) (by kernel_rfl) ?_
 refine zM U (zM U (zM U (zO U (bK (p:=none) (q:=some (.int .i64 (k:Int))) (m:=some (.int .i64 (k:Int))) (p':=none) (q':=some k) (m':=some k) U U U U U (by rw[bN];rfl) (by rw[bN];rfl) (xR (s.jo (j:=1) U (cU _ _ _)) (by omega) lN aQ dP)) ?_)))
 refine zM U (zM U (zO U (bK (p:=some (.int .i64 (k:Int))) (q:=none) (m:=none) (p':=some k) (q':=none) (m':=none) U U U U (by rw[bN];rfl) U U (J5 (s.jo (j:=1) U (cU _ _ _)) (by omega) aQ dP)) ?_))
 have z0:=s
 refine aB.any U U U U (OpR.call U U U U (mY hT s (cU _ _ _) (by rw[fA];omega))) ?_
 intro cv h s
 have z1:=s.ae [1,1]
 dsimp only[bringA,getA,aM] at z1
 refine zA U (zA U ?_)
 refine aB.nil ⟨⟨λ_ _=>.inr ⟨U,⟨_,b7 U⟩,TW⟩,λ_ _=>.inr ⟨U,⟨_,b7 U⟩,bx _ U⟩,λ_ _=>.inr ⟨U,⟨_,b7 U⟩,bx _ U⟩,gF (.inr ⟨U,⟨_,bK (p:=none) (q:=some (.int .i64 (k:Int))) (m:=some (.int .i64 (k:Int))) (p':=none) (q':=some k) (m':=some k) U U U U U (by rw[bN];rfl) (by rw[bN];rfl) (xR (z0.jo (j:=1) U (cU _ _ _)) (by omega) lN aQ dP)⟩,lB⟩) (.inr ⟨U,⟨_,bK (p:=none) (q:=some (.int .i64 (k:Int))) (m:=some (.int .i64 (k:Int))) (p':=none) (q':=some k) (m':=some k) U U U U U (by rw[bN];rfl) (by rw[bN];rfl) (xR (z1.jo (j:=1) U (cU _ _ _)) (by omega) lN aQ dP)⟩,lB⟩),aa,aa,aa,aa,aa,aa,aa⟩,?_⟩
 have s:=(s.del 2).del 1
 dsimp only[Nat.reduceAdd,aM] at s
 have s:=L6 k (s.ae [2])
 dsimp only[aM,bringA] at s
 have s:=L7 k (s.ae [1])
 dsimp only[aM,bringA] at s
 have s:=s.ae [9]
 dsimp only[bringA,getA,aM] at s
 obtain⟨bvu,cvu,usu,s⟩:=aU.1 s
 have agv:=ko (s.ae [3])
 have s:=(s.del 5).ae [8,8,8,0]
 dsimp only[aM,bringA,getA] at s
 refine zg U (zf U (me _ _) (zl U (by exact s.ld (k:=0) U fD U) ?_))
 refine zn U (zf U (cP _ _) (zl U (by exact s.ld (k:=3) U gx U) ?_))
 have s:=s.ae [5]
 dsimp only[bringA,getA,aM] at s
 refine au.call U U U U U U U (mY hT s (cU _ _ _)) ?_
 intro uv h s
 have s:=s.ae [2,2,8]
 dsimp only[bringA,getA,aM] at s
 refine za U (zv (zw ?_))
 have NO:=(ku (((s.ae [3]).dM kY).jo (j:=0) U (jg _ _ _).s)).2.2
 have W5:(J.drop k)[0]?=some ck:=by rw[fq,eF];exact Bc
 obtain⟨I,afT⟩:=hJc ck (aJ Bc)
 rw[iQ,ai (by omega)] at I
 have pI:fE l ck=ck.drop 4:=by rw[fE,ai (by omega)]
 have s:=s.ae [2,8]
 dsimp only[bringA,getA,aM] at s
 obtain⟨u0,YB,afe,e1,e2,Ys,s⟩:=xP (P:=Tryz.prog) (λm r h=>(jg _ _ _).s m r (kY m r h)) W5 aQ dP bS s
 have hv0:=s.aC (k:=2) U (bp _ _)
 have z0:=s
 refine WP.drawn [some (0,2),some (0,2),some (0,2),some (0,2),af,af,af,af,af,af,af,af,af,af,af,af] U (by kernel_rfl) (by kernel_rfl) ?_
 refine zM U (zF U (yY _ _) (zL U (by exact s.ld (k:=3) U bP U) ?_))
 refine zO U (aq (r:=.int .i64 ((i+1:Nat):Int)) U U (by rw[show((i+1:Nat):Int)=(i:Int)+1 by omega];exact aL ak)) ?_
 refine zF U (rY _ _) (zL U (by exact s.ld (k:=3) U fD U) ?_)
 refine zN U (zF U (iA _ _) (zL U (by exact s.ld (k:=4) U bP U) ?_))
 refine zM U (zO U (bM (r:=.ptr YB afe) U U e1) (zL U e2 (zO U (bK (p:=some (.int .i64 4)) (q:=none) (m:=none) (p':=some 4) (q':=none) (m':=none) U U U U (by rfl) U U (iu hv0 I).1) ?_)))
 have s:=(s.ae [2]).dM (rA (a:=4) (b:=ck.length) I (aH _))
 rw[jR,<-pI] at s
 dsimp only[aM,bringA] at s
 refine aB.any U U U U (OpR.call U U U U (zW hT (m:=nr) (by omega) s (bp _ _) (by rw[pI,fA];omega))) ?_
 intro u1 h s
 have s:=s.ff
 have Ek:=(s.aC (k:=0) U (bp _ _)).cells
 have z1:=s
 have s:=(s.ae [6]).dM kY
 dsimp only[aM,bringA] at s
 obtain⟨wH,Me,IJ,e3,e4,s2⟩:=tc (P:=Tryz.prog) (i:=i+1) (x:=u1) s (by omega) Ek.1 Ek.2 aQ dP
 refine zO U (bM (r:=.ptr wH Me) U U e3) (aB.lJ U U U (OpR.yW U U U (⟨_,e4,s2⟩)) ?_)
 rintro _ h ⟨_,s⟩
 refine aB.nil ⟨⟨λ_ _=>.inr ⟨U,⟨_,b7 U⟩,NO⟩,λ_ _=>.inr ⟨U,⟨_,m9 U (yY _ _)⟩,bx _ U⟩,gF (.inr ⟨U,⟨_,o_load U (by exact z0.ld (k:=3) U bP U)⟩,bx _ U⟩) (.inr ⟨U,⟨_,o_load U (by exact z1.ld (k:=4) U bP U)⟩,bx _ U⟩),λ_ _=>.inr ⟨U,⟨_,aq (r:=.int .i64 ((i+1:Nat):Int)) U U (by rw[show((i+1:Nat):Int)=(i:Int)+1 by omega];exact aL ak)⟩,bx _ U⟩,aa,aa,aa,aa,aa,aa,aa,aa,aa,aa,aa,aa,aa⟩,?_⟩
 have s:=O9 (i:=i+1) (s.ae [1,10])
 dsimp only[aM,bringA] at s
 have s:=s.ae [1]
 dsimp only[bringA,getA,aM] at s
 have Cu:∀c∈ou.set (i+1) (e_ nr (fE l ck)),c.length<=100:=λc hc=>by
  rcases mI hc with q|rfl
  .exact hcu c q
  .rw[e_,aO,cQ,pI,fA];omega
 refine zw (zg U (zm U (au.call U U U U U U U (EU hT (jg _ _ _).s (λc hc=>by have:=Cu c hc;omega) (by rw[cG];exact oo) s) ?_)))
 rintro v0 h ⟨rfl,s⟩
 by_cases dx:486<cy (ou.set (i+1) (e_ nr (fE l ck)))
 .skip
  refine au.xx U U U (aq U U cA) (by simp;omega) ?_
  have s:=s.ae [13]
  dsimp only[bringA,getA,aM] at s
  refine zv (zi U (zg U (za U (zv ?_))))
  refine WP.ret ⟨aa,_,U,?_⟩
  exact⟨ε,now,U,cn,Sm.refl N ε,hw,by omega,s.skip 13,.inl U⟩
 .skip
  refine au.rW U U U (aq U U cA) (by simp;omega) ?_
  have hd:J.drop k=ck::J.drop (k+1):=by
   rw[mH kW,(List.getElem?_eq_some_iff.1 Bc).2]
  have hrg:rgtC l (J.drop k)=ck.take 4::J.drop (k+1):=by rw[hd,rgtC,ai (by omega)]
  have Rb:mz J (min 2 (l+1)) k:=by rw[show min 2 (l+1)=2 by omega];exact nY
  obtain⟨_,_,_,_,ej,j3,_,_⟩:=Rb.parts
  have s:=(s.ae [3]).dM kY
  dsimp only[aM,bringA] at s
  have s:=s.ae [0,3]
  dsimp only[bringA,getA,aM] at s
  rw[hd] at s
  obtain⟨u2,tq,qD,e5,e6,_,s⟩:=xP (P:=Tryz.prog) (i:=0) (jg _ _ _).s U aQ dP bS s
  have hv3:=s.aC (k:=2) U (bp _ _)
  have hv4:=Mc (b:=4) (d:=4) hv3 (aH _) I (by omega)
  have s:=(s.ae [2]).dM (Js (a:=0) (b:=4) (d:=4) (by omega) (by omega) I (by omega))
  dsimp only[List.drop,aM,bringA] at s
  have hvd:=(s.aC (k:=0) U (bp _ _)).cells
  have s:=s.ae [1]
  dsimp only[bringA,getA,aM] at s
  obtain⟨Ue,Mm,h4,e7,e8,s4⟩:=tc (P:=Tryz.prog) (i:=0) (x:=slR3 u2 0 4 4) s (by rw[fA];omega) hvd.1 hvd.2 aQ dP
  have s4:=E5 (s4.ae [1,1])
  dsimp only[aM,bringA] at s4
  have s4:=s4.ae [1]
  dsimp only[bringA,getA,aM] at s4
  rw[<-hrg] at s4
  refine zv (zj U (WP.skip (zg U (zm U (zm U (zo U (bM (r:=.ptr tq qD) U U e5) (zl U e6 (zo U (bK (p:=none) (q:=some (.int .i64 4)) (m:=some (.int .i64 4)) (p':=none) (q':=some 4) (m':=some 4) U U U U U U U hv4) (zo U (bM (r:=.ptr Ue Mm) U U e7) (au.yW U U U U U (⟨_,e8,s4⟩) ?_))))))))))
  intro h s
  have s:=s.ae [13,12,11,5,7,5,6]
  dsimp only[bringA,getA,aM] at s
  refine zv (zw (zw (WP.drawn [af,af,af,af,af,af,af,af,af,af,af,af,af,af] U (by kernel_rfl) (by kernel_rfl) ?_)))
  refine zM U (zF U (vW _ _) (zL U (by exact s.ld (k:=3) U fD U) ?_))
  refine zN U (zF U (iA _ _) (zL U (by exact s.ld (k:=4) U bP U) ?_))
  refine zF U (vW _ _) (zL U (by exact s.ld (k:=3) U fD U) ?_)
  refine zN U (zF U (ew _ _) (zL U (by exact s.ld (k:=4) U bP U) ?_))
  refine zM U (aB.any U U U U (OpR.call U U U U (mX hT hB cn hw oI (cU _ _ _) ej (by omega) s)) ?_)
  rintro v0 h ⟨c_,bL,rfl,c1,c2,c3,c4,s⟩
  have Xh:∀m:Int,pgG (cD (nl:Int) bL now) c_ m=if (nl:Int)=m then bL else pgG now ε m:=λm=>by rw[eY,gN c2]
  have aff:=gz (i:=(nl:Int)) (b:=bL) (now:=now)
  generalize cD (nl:Int) bL now=n_ at s Xh c3 aff
  refine zA U ?_
  refine aB.nil ⟨⟨aa,aa,aa,aa,aa,aa,aa,aa,aa,aa,aa,aa,aa,aa,aa⟩,?_⟩
  refine zg U (zm U (au.rW U U U (aq U U aG) (U) ?_))
  have s:=s.ae [0,6,6,2,3,3]
  dsimp only[Nat.reduceAdd,bringA,getA,aM] at s
  refine zv (zj U (WP.skip (zw (zw (WP.drawn [af,af,af,af,af,af,af,af,af,af,af,af,af,af] U (by kernel_rfl) (by kernel_rfl) ?_)))))
  refine zM U (zF U (rY _ _) (zL U (by exact s.ld (k:=3) U fD U) ?_))
  refine zN U (zF U (iA _ _) (zL U (by exact s.ld (k:=4) U bP U) ?_))
  refine zF U (rY _ _) (zL U (by exact s.ld (k:=3) U fD U) ?_)
  refine zN U (zF U (ew _ _) (zL U (by exact s.ld (k:=4) U bP U) ?_))
  refine zM U (aB.any U U U U (OpR.call U U U U (mX hT hB c1 c3 oD (jg _ _ _).s j3 (by omega) s)) ?_)
  rintro v0 h ⟨iJ,bR,rfl,d1,d2,d3,d4,s⟩
  have Rc:∀m:Int,pgG (cD (nr:Int) bR n_) iJ m=if (nr:Int)=m then bR else pgG n_ c_ m:=λm=>by rw[eY,gN d2]
  have afg:=gz (i:=(nr:Int)) (b:=bR) (now:=n_)
  generalize cD (nr:Int) bR n_=mG at s Rc d3 afg
  refine zA U ?_
  refine aB.nil ⟨⟨aa,aa,aa,aa,aa,aa,aa,aa,aa,aa,aa,aa,aa,aa,aa⟩,?_⟩
  refine zg U (zm U (au.rW U U U (aq U U aG) (U) ?_))
  have s:=s.ae [9,9,3,4]
  dsimp only[bringA,getA,aM] at s
  have GV:=ku (s.jo (j:=0) U (jg _ _ _).s)
  have z0:=s
  refine zv (zj U (WP.skip (zw (WP.drawn [some (0,2),some (0,2),some (0,3),some (0,3),some (0,2),af,af,af,af,af,af,af,af,af,af,af,af,af] U (by kernel_rfl) (by kernel_rfl) ?_))))
  refine zF U (me _ _) (zL U (by exact s.ld (k:=2) U fD U) ?_)
  refine zF U (me _ _) (zL U (by exact s.ld (k:=2) U fD U) ?_)
  refine zM U (zF U (me _ _) (zL U (by exact s.ld (k:=2) U fD U) ?_))
  refine zN U (zF U (ew _ _) (zL U (by exact s.ld (k:=3) U bP U) ?_))
  refine zM U (aB.any U U U U (OpR.call U U U U (L3 hT (jg _ _ _).s (by omega) hl s)) ?_)
  rintro bv h ⟨bU,hbU,s⟩
  have s:=s.ff
  have xN:=(s.aC (k:=0) U (bp _ _)).cells
  have z1:=s
  refine zN U (zF U (cP _ _) (aB.lJ U U U (OpR.yW U U U (s.kC (k:=4) U VC U (by decide) GV.1 GV.2.1)) ?_))
  rintro _ h ⟨_,s⟩
  dsimp only[Nat.reduceAdd,List.set,setA] at s
  have z2:=s
  refine zN U (zF U (nT _ _) (aB.lJ U U U (OpR.yW U U U (s.kC (k:=4) U dP U (by decide) xN.1 xN.2)) ?_))
  rintro _ h ⟨_,s⟩
  dsimp only[Nat.reduceAdd,List.set,setA] at s
  refine aB.nil ⟨⟨λ_ _=>.inr ⟨U,⟨_,m9 U (me _ _)⟩,bx _ U⟩,gF (.inr ⟨U,⟨_,o_load U (by exact z0.ld (k:=2) U fD U)⟩,bx _ U⟩) (.inr ⟨U,⟨_,o_load U (by exact z1.ld (k:=3) U fD U)⟩,bx _ U⟩),λ_ _=>.inr ⟨U,⟨_,m9 U (me _ _)⟩,bx _ U⟩,BN (.inr ⟨U,⟨_,o_load U (by exact z0.ld (k:=2) U fD U)⟩,bx _ U⟩) (.inr ⟨U,⟨_,o_load U (by exact z1.ld (k:=3) U fD U)⟩,bx _ U⟩) (.inr ⟨U,⟨_,o_load U (by exact z2.ld (k:=3) U fD U)⟩,bx _ U⟩),λ_ _=>.inr ⟨U,⟨_,b7 U⟩,GV.2.2⟩,aa,aa,aa,aa,aa,aa,aa,aa,aa,aa,aa,aa,aa,aa⟩,?_⟩
  have s:=s.ae [5,0]
  dsimp only[bringA,getA,aM] at s
  refine zw (WP.drawn [af,af,af,af,af,af,af,af,af,af,af,af,af] U (by kernel_rfl) (by kernel_rfl) ?_)
  refine zM U (zF U (me _ _) (zL U (by exact s.ld (k:=4) U fD U) ?_))
  refine zN U (zF U (iA _ _) (zL U (by exact s.ld (k:=5) U bP U) ?_))
  refine zF U (me _ _) (zL U (by exact s.ld (k:=4) U fD U) ?_)
  refine zN U (zF U (nT _ _) (zL U (by exact s.ld (k:=5) U bS U) ?_))
  refine aB.any U U U U (OpR.call U U U U (wZ hT hB d1 d3 hnu s (bp _ _) hbU.good)) ?_
  rintro v0 h ⟨kI,rfl,f1,f2,f3,s⟩
  have oa:∀m:Int,pgG (cD (nu:Int) bU mG) kI m=if (nu:Int)=m then bU else pgG mG iJ m:=λm=>by rw[eY,gN f2]
  have afc:=gz (i:=(nu:Int)) (b:=bU) (now:=mG)
  refine zA U ?_
  refine aB.nil ⟨⟨aa,aa,aa,aa,aa,aa,aa,aa,aa,aa,aa,aa,aa,aa⟩,?_⟩
  refine WP.ret ⟨aa,_,U,?_⟩
  refine⟨kI,_,U,f1,c2.trans (d2.trans f2),f3,by omega,s.skip 14,.inr ⟨k,ck,bL,bR,bU,Bc,nY,c4.f,d4.f,hbU.f,?_,?_,?_,λm m1 m2 m3 => ?_⟩⟩
  .rw[oa,ai (by omega),Rc,ai (by omega),Xh,ay U]
  .rw[oa,ai (by omega),Rc,ay U]
  .rw[oa,ay U]
  .rw[oa,ai (λe=>m3 e.symm),Rc,ai (λe=>m2 e.symm),Xh,ai (λe=>m1 e.symm)]
end
section
variable {f z:Nat}
theorem cM.more (h:cM Z l cs): cM (z::Z) l cs:=by
 unfold cM at h ⊢;split
 .rwa [ay (by assumption)] at h
 .rw[ai (by assumption)] at h;rcases h with h|⟨p,I,k,h2⟩
  .exact .inl h
  .exact .inr ⟨p,bk _ I,k,h2⟩
theorem rD (h:(ks.flatMap cL).Nodup){k k':fo}(hk:ks[i]?=some k)(I:ks[j]?=some k')(pH:i≠j): ∀m∈cL k',m∉cL k:=by
 intro m hm qG;rw[sY hk,dN,mJ] at h;obtain⟨_,h2,h3⟩:=h;rw[mJ] at h2;obtain⟨_,_,h4⟩:=h2;have hj:=(List.getElem?_eq_some_iff.1 I).1;rcases C5 pH with q|q
 .refine h4 m qG m (List.mem_flatMap.2 ⟨k',?_,hm⟩) U;rw[CV];exact⟨j-(i+1),by rw[fq,show i+1+(j-(i+1))=j by omega];exact I⟩
 .refine h3 m (List.mem_flatMap.2 ⟨k',?_,hm⟩) m (fc _ qG) U;rw[CV];exact⟨j,by rw[ic,ay q];exact I⟩
theorem My (h:(ks.flatMap cL).Nodup){k:fo}(I:ks[i]?=some k): k.pg∉k.ps:=by
 rw[sY I,dN,mJ,mJ] at h;exact(List.nodup_cons.1 h.2.1.1).1
theorem kZ {k:fo}(I:ks[i]?=some k){m:Nat}(hm:m∈cL k): m∈ks.flatMap cL:=List.mem_flatMap.2 ⟨k,aJ I,hm⟩
theorem Xi (I:eD≠[])(h2:dS≠[]){cut:Ky}: cM Z l (hO l cut eD dS):=by
 have a1:=List.length_pos_iff.2 I;unfold cM hO;split
 .intro e;have:=dg List.length e;rw[aO,b6] at this;omega
 .left;cases dS with
  |nil=>exact absurd U h2
  |cons c t=>simp only[aO,aW];omega
theorem acy (hs:Sep lo hi ks)(hl:ks[i]?=some kl)(hr:ks[i+1]?=some kr)(E_:∀j k,ks[j]?=some k->j≠i->j≠i+1->Kd (cM Z) P l (loK lo ks j) (cT hi ks j) k)
 (nl:Nv (cM Z) P l (loK lo ks i) (cT hi ks i) eD kl.es kl.ps)(nr:Nv (cM Z) P l (loK lo ks (i+1)) (cT hi ks (i+1)) dS kr.es kr.ps)(fN:eD≠[])(BC:dS≠[])(fB:(f::ks.flatMap cL).Nodup)
 (hP:∀m:Nat,m≠f->m≠kl.pg->m∈ks.flatMap cL->P' m=P m)(hp:bH (P' kl.pg) 204 0 l (hO l kr.key eD dS)):
  ∃nj,Nv (cM Z) P' (l+1) lo hi ((bF ks).eraseIdx (i+1)) (ks.flatMap (·.es)) nj/\(kr.pg::nj).Perm (ks.flatMap cL):=by
 obtain⟨hf,fB⟩:=List.nodup_cons.1 fB;have fG:∀m,m∈ks.flatMap cL->m≠f:=λm hm e=>hf (e ▸ hm);have o_:∀m∈kl.ps,P' (m:Nat)=P m:=λm hm=>by
  have I:=kZ hl (bk _ hm);exact hP m (fG m I) (λe=>My fB hl (e ▸ hm)) I
 have uM:∀j k,ks[j]?=some k->j≠i->∀m∈cL k,P' (m:Nat)=P m:=λj k hk hj m hm=>by
  have I:=kZ hk hm;exact hP m (fG m I) (λe=>rD fB hl hk (jS hj) m hm (by rw[e];exact a_)) I
 exact Nv.mrg hs hl hr (λj k hk h1 h2=>(E_ j k hk h1 h2).frame (uM j k hk h1)) (nl.frame o_) (nr.frame λm hm=>uM _ _ hr (by omega) m (bk _ hm)) (Xi fN BC) hp
theorem acz {k:fo}(hs:Sep lo hi ks)(hk:ks[i]?=some k)(he:k.es=[])(o_:k.ps=[])(E_:∀j k,ks[j]?=some k->j≠i->Kd (cM Z) P l (loK lo ks j) (cT hi ks j) k)(fB:(f::ks.flatMap cL).Nodup)(hP:∀m:Nat,m≠f->m∈ks.flatMap cL->P' m=P m):
  ∃I,(Nv (cM Z) P' (l+1) lo hi ((bF ks).eraseIdx i) (ks.flatMap (·.es)) I\/1<=l+1/\(bF ks).eraseIdx i=[]/\ks.flatMap (·.es)=[]/\I=[])/\(k.pg::I).Perm (ks.flatMap cL):=by
 obtain⟨hf,fB⟩:=List.nodup_cons.1 fB;have c9:=(List.getElem?_eq_some_iff.1 hk).1;by_cases h2:2<=ks.length
 .obtain⟨I,h3,h4⟩:=Nv.ers (P:=P') hs h2 hk he o_ λj k hk hj=>(E_ j k hk hj).frame λm hm=>hP m (λe=>hf (e ▸ kZ hk hm)) (kZ hk hm);exact⟨I,.inl h3,h4⟩
 .obtain⟨x,rfl⟩:=List.length_eq_one_iff.1 (show ks.length=1 by omega);have h0:i=0:=by simpa using c9
  subst h0;obtain rfl:x=k:=by simpa using hk
  exact⟨[],.inr ⟨by omega,U,by simp[he],U⟩,by simp[cL,o_]⟩
theorem acA {k:Nat}{ck:List Nat}{jH gM:List En}(hs:Sep lo hi ks)(hl:ks[i]?=some kl)(hr:ks[i+1]?=some kr)(E_:∀j k,ks[j]?=some k->j≠i->j≠i+1->Kd (cM Z) P l (loK lo ks j) (cT hi ks j) k)
 (nl:Nv (cM Z) P l (loK lo ks i) (cT hi ks i) eD kl.es kl.ps)(nr:Nv (cM Z) P l (loK lo ks (i+1)) (cT hi ks (i+1)) dS kr.es kr.ps)(I:(f::ks.flatMap cL).Nodup)(wL:1<=l)
 (Bc:(hO l kr.key eD dS)[k]?=some ck)(nY:mz (hO l kr.key eD dS) 2 k)
 (hP:∀m:Nat,m≠f->m≠kl.pg->m≠kr.pg->m∈ks.flatMap cL->P' m=P m)(pl:bH (P' kl.pg) 204 0 l ((hO l kr.key eD dS).take k))(pr:bH (P' kr.pg) 204 0 l (rgtC l ((hO l kr.key eD dS).drop k))):
  ∃nj,Nv (cM Z) P' (l+1) lo hi ((bF ks).set (i+1) (e_ kr.pg (fE l ck))) (ks.flatMap (·.es)) nj/\nj.Perm (ks.flatMap cL):=by
 obtain⟨hf,I⟩:=List.nodup_cons.1 I;have fG:∀m,m∈ks.flatMap cL->m≠f:=λm hm e=>hf (e ▸ hm);obtain⟨m1,m2,m3,m4,m5,m6⟩:=hs.mO hr;have o_:∀m∈kl.ps++kr.ps,P' (m:Nat)=P m:=λm hm=>by
  rcases List.mem_append.1 hm with hm|hm
  .have qG:=kZ hl (bk _ hm);exact hP m (fG m qG) (λe=>My I hl (e ▸ hm)) (λe=>rD I hr hl (by omega) m (bk _ hm) (by rw[e];exact a_)) qG
  .have qG:=kZ hr (bk _ hm);exact hP m (fG m qG) (λe=>rD I hl hr (by omega) m (bk _ hm) (by rw[e];exact a_)) (λe=>My I hr (e ▸ hm)) qG
 have uM:∀j k,ks[j]?=some k->j≠i->j≠i+1->∀m∈cL k,P' (m:Nat)=P m:=λj k hk hj Lw m hm=>by
  have qG:=kZ hk hm;exact hP m (fG m qG) (λe=>rD I hl hk (jS hj) m hm (by rw[e];exact a_)) (λe=>rD I hr hk (jS Lw) m hm (by rw[e];exact a_)) qG
 rw[m5] at nl;rw[m6] at nr;have hj:=(nl.join nr m1 m2 ⟨m3,m4⟩).frame o_;have Rb:mz (hO l kr.key eD dS) (min 2 (l+1)) k:=by rw[show min 2 (l+1)=2 by omega];exact nY
 obtain⟨_,_,g1,g2,_,_,k1,_⟩:=Rb.parts;obtain⟨jH,gM,lU,lV,e1,e2,q1,q2,q3,q4,q5,q6⟩:=hj.cut k1 Bc;exact Nv.shr hs hl hr (λj k hk h1 h2=>(E_ j k hk h1 h2).frame (uM j k hk h1 h2)) q1 (g1 Z) pl q2 (g2 Z) pr q3 q4 ⟨q5,q6⟩ e1.symm e2.symm
theorem aax (nP:g_ (cM Z) P L r fs l lo hi n eL eR pO)(jL:Nv (cM Z) P l lo hi cs es ps)(fG:cs≠[])(hp:bH (P n) 204 0 l cs):
  ∃z I cs',Nv (cM (z::Z)) P L [] none cs' (eL++es++eR) I/\bH (P r) 204 0 L cs'/\(r::I).Perm (pO++n::ps)/\(fs=[]->cs'=cs):=by
 obtain⟨z,hz⟩:∃z,cM (z::Z) l cs:=by
  cases l with
  |zero=>exact⟨0,by rw[cM,ay U];exact fG⟩
  |succ l =>
   obtain⟨ks,rfl,hS,_⟩:=jL;match ks,hS with
   |[],hS=>exact absurd U hS.ne
   |[k],hS=>exact⟨k.pg,by rw[cM,ai (by omega)];exact .inr ⟨k.pg,a_,k.key,hS.pg k (by simp),U⟩⟩
   |k1::k2::t,_=>exact⟨0,by rw[cM,ai (by omega),dn];exact .inl (by simp)⟩
 obtain⟨I,cs',h1,h2,h3,h4⟩:=g_.QO (nP.mono λ_ _ h=>h.more (z:=z)) (jL.mono λ_ _ h=>h.more (z:=z)) hp λ_=>hz;exact⟨z,I,cs',h1,h2,h3,h4⟩
end
def Xj (L root:Nat)(P:Int->List Nat)(A:Nat)(cs:List (List Nat)): Fx->Prop
 |[]=>E4 L cs<=A/\(1<=L->374*L+112<=A)
 |_::_=>∀c,bH (P root) 204 0 L c->lam L c+104<=A
def uN (N B g a p q r aR root:Nat)(data R ot Z:List Nat)(A L:Nat)(ε:bA)(now:List (Int×List Nat))(es:List En)(nl:Nat)(S:List aE)(v:V)(h':H): Prop:=∃ah aN z,v=.int .i64 0/\EI N B ah/\Sm N ε ah/\NW N aN/\aN.length<=nl/\Sat h' (GA g a p q r data aR aN ah::S)/\qT N root R ot (z::Z) A L (pgG now ε) (pgG aN ah) es
def DW (told:cu)(N B g a p q r aR root:Nat)(data R ot Z:List Nat)(A L m:Nat): Prop:=∀(fx:Fx) (l x n i:Nat) (lo:Ky) (hi:Option Ky) (eL eR:List En) (pO:List Nat) (cs:List (List Nat)) (es:List En) (ps:List Nat) (w:V) (ε:bA) (now:List (Int×List Nat)) (M:List Nat) (h:H) (S:List aE),
 fx.length<m->EI N B ε->NW N now->fU N R M (pgG now ε)->jA N M ((pO++n::ps)++ot)->g_ (cM Z) (pgG now ε) L root (fx.map (·.2)) l lo hi n eL eR pO->(Nv (cM Z) (pgG now ε) l lo hi cs es ps\/1<=l/\cs=[]/\es=[]/\ps=[])->bH (pgG now ε n) 204 0 l cs->fx.length+l=L->L<=60->Xj L root (pgG now ε) A cs fx ->
 Sat h (GA g a p q r data aR now ε::wyA w (eT fx++[(x,i)])::aY x n l (pgG now ε n) cs::nodsA (pgG now ε) (l+1) fx::S) ->
 Call ⟨Tryz.prog,told⟩ 72 [.ptr g 0,w] h (uN N B g a p q r aR root data R ot Z A L ε now (eL++es++eR) (now.length+4*fx.length+2*L+4) S)
structure Be (N:Nat)(R ot Z:List Nat)(root L A:Nat)(P:Int->List Nat)(M:List Nat)(t:Fx)(f l:Nat)(lo:Ky)(hi:Option Ky)(eL eR:List En)(pO:List Nat)(ks:List fo): Prop where
 sp:fU N R M P
 tr:jA N M ((pO++f::ks.flatMap cL)++ot)
 pt:g_ (cM Z) P L root (t.map (·.2)) (l+1) lo hi f eL eR pO
 sep:Sep lo hi ks
 pf:bH (P f) 204 0 (l+1) (bF ks)
 fat:t.map (·.2)≠[]->cM Z (l+1) (bF ks)
 len:t.length+(l+1)=L
 YX:L<=60
 lam:∀c,bH (P root) 204 0 L c->Am.lam L c+104<=A
structure Ep (Z:List Nat)(P:Int->List Nat)(l:Nat)(lo:Ky)(hi:Option Ky)(ks:List fo)(i:Nat)(kl kr:fo)(eD dS:List (List Nat)): Prop where
 hl:ks[i]?=some kl
 hr:ks[i+1]?=some kr
 oth:∀j k,ks[j]?=some k->j≠i->j≠i+1->Kd (cM Z) P l (loK lo ks j) (cT hi ks j) k
 nl:Nv (cM Z) P l (loK lo ks i) (cT hi ks i) eD kl.es kl.ps
 nr:Nv (cM Z) P l (loK lo ks (i+1)) (cT hi ks (i+1)) dS kr.es kr.ps
 cl:eD≠[]
 cr:dS≠[]
 pl:bH (P kl.pg) 204 0 l eD
 pr:bH (P kr.pg) 204 0 l dS
section
variable {t:Fx} {f:Nat} {YY:List (List Nat)}
theorem Be.nd (h:Be N R ot Z root L A P M t f l lo hi eL eR pO ks): (f::ks.flatMap cL).Nodup/\(∀m∈pO,m≠f/\m∉ks.flatMap cL/\2<=m)/\(∀m∈ot,m≠f/\m∉ks.flatMap cL/\2<=m)/\∀m∈f::ks.flatMap cL,2<=m/\m<N:=by
 have I:=h.tr.nd;rw[dN,mJ] at I;obtain⟨h2,h3,h4⟩:=I;rw[mJ] at h3;obtain⟨h5,h6,h7⟩:=h3;refine⟨h5,λm hm=>⟨λe=>h4 m hm f (by simp) e,λq=>h4 m hm m (fc _ (bk _ q)) U,(h.tr.my m (by simp[hm])).1⟩,λm hm=>⟨λe=>h7 f (by simp) m hm e.symm,λq=>h7 m (bk _ q) m hm U,(h.tr.my m (by simp[hm])).1⟩,λm hm=>h.tr.my m ?_⟩;exact fc _ (js _ hm)
theorem Xk (h:Sep lo hi ks): 8<=cy (bF ks):=by
 match ks,h.ne with
 |k::t,_ =>
  have I:=cQ 4 k.pg;simp only[cy,tot,bF,gB,qg,aW,e_,aO];omega
theorem Be.up (h:Be N R ot Z root L A P M t f l lo hi eL eR pO ks)(I:∀m:Nat,m∈pO->P' m=P m)(hz:cy YY<=cy (bF ks)): g_ (cM Z) P' L root (t.map (·.2)) (l+1) lo hi f eL eR pO/\Xj L root P' A YY t:=by
 refine⟨h.pt.frame I,?_⟩;have h8:=Xk h.sep;rcases h.pt.rt with⟨q,rfl,rfl⟩|⟨q,hr⟩
 .cases t with
  |cons e t=>cases q
  |nil =>
   have h1:=h.lam _ h.pf;unfold Am.lam at h1;rw[ai (by omega)] at h1;refine⟨?_,λ_=>by omega⟩;unfold E4;rw[ai (by omega)];omega
 .cases t with
  |nil=>exact absurd U q
  |cons e t=>intro c hc;rw[I root hr] at hc;exact h.lam c hc
theorem Up {cut:Ky}{a b:List (List Nat)}: (hO l cut a b).length=a.length+b.length:=by
 unfold hO;split
 .exact aO
 .cases b<;>simp
theorem Uq : ∀c∈bF ks,1<=c.length:=λc I=>by
 obtain⟨k,_,rfl⟩:=List.mem_map.1 I;rw[e_,aO,cQ];omega
theorem qT.base {I:Int->List Nat}(h:qT N root R ot Z A Lx P0 P' es)(h1:∀m:Nat,m∈ot->P0 m=I m): qT N root R ot Z A Lx I P' es:=by
 obtain⟨M,L,cs,ps,q1,q2,q3,q4,q5,q6⟩:=h;exact⟨M,L,cs,ps,q1,q2,q3,q4,q5,λm hm=>(q6 m hm).trans (h1 m hm)⟩
theorem qT.more {z:Nat}(h:qT N root R ot Z A Lx P0 P' es): qT N root R ot (z::Z) A Lx P0 P' es:=by
 obtain⟨M,L,cs,ps,q1,I,q3,q4⟩:=h;exact⟨M,L,cs,ps,q1,I,q3.mono λ_ _ h=>h.more,q4⟩
theorem Ur : cy (cs.eraseIdx i)<=cy cs:=by
 have I:=Jf (cs:=cs) (i:=i);have h2:=List.length_eraseIdx_le (l:=cs) (i:=i);rw[cy,cy];omega
end
section
variable {told:cu} {p m f Ee:Nat} {y6 y67 y68:V} {t:Fx}
noncomputable def mdJ : Code:=dm [1,1,1,1,1,1,0,1,0,0,1,1,0,0,1,1,1] ((Tryz.f72.body).getD .skip)
theorem Us (hT:W told)(hB:B<=2000)(hN:N<=65536)(cn:EI N B ε)(hw:NW N now)(hx:Be N R ot Z root L A (pgG now ε) M t f l lo hi eL eR pO ks)(hp:Ep Z (pgG now ε) l lo hi ks i kl kr eD dS)(ih:DW told N B g a p q r aR root data R ot Z A L m)(sk:t.length<m)(Ei:xS.length=4)
 (s:Sat h (GA g a p q r data aR now ε::aY xu f (l+1) (pgG now ε f) (bF ks)::aY xl kl.pg l (pgG now ε kl.pg) eD::aY xr kr.pg l (pgG now ε kr.pg) dS::pt Ee (.cells 4 [.ptr xu 0,.int .i64 (i:Int),.ptr xl 0,.ptr xr 0] false)::pt p9 (.cells 4 xS false)::wyA w ((eT t++[(xu,ui)])++[(x,xi)])::nodsA (pgG now ε) (l+2) t::S))
 (hE:Has E [(0,.ptr g 0),(1,w),(5,.ptr x 0),(6,y6),(9,.ptr p9 0),(12,.ptr Ee 0),(67,y67),(68,y68)])
 (kO:∀E' h' v,Has E' [(4,v)]->uN N B g a p q r aR root data R ot Z A L ε now (eL++ks.flatMap (·.es)++eR) (now.length+4*t.length+2*L+8) S v h'->Q .ret E' h')
 (hq:∀E' h',486<cy (hO l kr.key eD dS)->Has E' [(0,.ptr g 0),(1,w),(5,.ptr x 0),(6,y6),(9,.ptr p9 0),(67,y67),(68,y68)] ->
   Sat h' (GA g a p q r data aR now ε::aY xu f (l+1) (pgG now ε f) (bF ks)::aY xl kl.pg l (pgG now ε kl.pg) eD::aY xr kr.pg l (pgG now ε kr.pg) dS::pt p9 (.cells 4 [.ptr xu 0,.int .i64 (i:Int),.ptr xl 0,.ptr xr 0] false)::wyA w ((eT t++[(xu,ui)])++[(x,xi)])::nodsA (pgG now ε) (l+2) t::S)->Q .normal E' h'): WP ⟨Tryz.prog,told⟩ 131 mdJ E h Q:=by
 have hlen:=hx.len;have Mz:=hx.YX;obtain⟨n1,n2,n3,n4⟩:=hx.nd;obtain⟨m1,m2,m3,m4,m5,m6⟩:=hx.sep.mO hp.hr;have ve:=hx.pf.fits;have mh:=hp.pl.fits;have u7:=hp.pr.fits;have Eo:=hx.sep.pg kr (aJ hp.hr);have wz:1<=l->∃m ky,dS[0]?=some (e_ m ky)/\m<4294967296:=λh1=>by
  have oD:=hp.nr;cases l with
  |zero=>omega
  |succ l =>
   obtain⟨k2,e1,e2,_⟩:=oD;match k2,e2,e1 with
   |[],e2,_=>exact absurd U e2.ne
   |k::_,e2,e1=>exact⟨k.pg,k.key,by rw[e1];rfl,e2.pg k (by simp)⟩
 have oI:=hp.nl;have oD:=hp.nr;have fN:=hp.nl.cells;have BC:=hp.nr.cells;have hj:=(by rw[m5] at oI;exact oI:Nv (cM Z) (pgG now ε) l (loK lo ks i) (some kr.key) eD kl.es kl.ps).join (by rw[m6] at oD;exact oD:Nv (cM Z) (pgG now ε) l kr.key (cT hi ks (i+1)) dS kr.es kr.ps) m1 m2 ⟨m3,m4⟩;have Ut:=hj.cells;have I4:(hO l kr.key eD dS).length=eD.length+dS.length:=Up;have qa:=kZ hp.hl (m:=kl.pg) a_;have afh:=kZ hp.hr (m:=kr.pg) a_;have Em:kl.pg≠kr.pg:=λe=>rD (List.nodup_cons.1 n1).2 hp.hl hp.hr (by omega) kr.pg a_ (by rw[<-e];exact a_);have hlf:kl.pg≠f:=λe=>(List.nodup_cons.1 n1).1 (e ▸ qa);have Oh:(((eT t++[(xu,ui)])++[(x,xi)]):List (Nat×Nat)).length=t.length+2:=by simp[eT]
 have Re:((eT t++[(xu,ui)])++[(x,xi)]).take (t.length+1)=eT t++[(xu,ui)]:=fY (by simp[eT]);refine WP.has hE (zK 3 U (zl U (s.b9 (k:=4) U qj jC) ?_));have s:=s.ae [1,1,1];refine zc U (Jw hT (gX hp.hr) m4 (by omega) (by omega) (by omega) (by omega) wz s) ?_;rintro v h ⟨us,s⟩;refine zk 5 U (zc U (EU hT (cU _ _ _) (λc hc=>(Ut c hc).2.1) (by omega) s) ?_);rintro v0 h ⟨rfl,s⟩;by_cases dx:cy (hO l kr.key eD dS)<=486
 .skip;refine zB U tK (by simp;omega) ?_;refine zk 5 U (zl U (s.b9 (k:=6) U qj jC) (zk 2 U ?_));have s:=s.ae [5,0];have kL:((pO++f::ks.flatMap cL)++ot).Perm (kr.pg::((pO++f::ks.flatMap cL)++ot).erase kr.pg):=List.perm_cons_erase (fc _ (js _ (bk _ afh)));refine zc U (Xe hT hB cn hw hx.sp hx.tr kL (fc _ (js _ (bk _ qa))) (fc _ (js _ a_)) hlf dx (by omega) hx.pf (by rw[dn];exact(List.getElem?_eq_some_iff.1 hp.hr).1) (Uq) s) ?_;rintro v0 h ⟨c_,I,M1,bJ,bU,rfl,a1,a2,a3,a4,a5,a6,a7,a8,a9,a10,a11,s⟩;have CL:∀m:Nat,2<=m->m≠kl.pg->m≠f->pgG I c_ m=pgG now ε m:=λm q1 q2 q3=>a11 m (by omega) (by omega) (by omega);obtain⟨nj,u1,u2⟩:=acy (P':=pgG I c_) hx.sep hp.hl hp.hr hp.oth hp.nl hp.nr hp.cl hp.cr n1 (λm q1 q2 q3=>CL m (n4 m (bk _ q3)).1 q2 q1) (by rw[a9];exact a7);have xT:∀m:Nat,m∈pO->pgG I c_ m=pgG now ε m:=λm hm=>CL m (n2 m hm).2.2 (λe=>(n2 m hm).2.1 (e ▸ qa)) (n2 m hm).1;have uM:∀m:Nat,m∈ot->pgG I c_ m=pgG now ε m:=λm hm=>CL m (n3 m hm).2.2 (λe=>(n3 m hm).2.1 (e ▸ qa)) (n3 m hm).1;obtain⟨w1,w2⟩:=hx.up (P':=pgG I c_) xT (YY:=(bF ks).eraseIdx (i+1)) Ur;have tZ:jA N M1 ((pO++f::nj)++ot):=a6.perm (by
   refine(kL.symm.trans ?_).cons_inv;rw[lY] at u2 ⊢;intro z;have:=u2 z;simp only[lZ,l7] at this ⊢;omega)
  refine zk 5 U (zC U aG (U) (zk 8 U (zo U (aD (r:=.int .i64 ((t.length+2:Nat):Int)) U U U (by rw[<-Oh];exact s.AR (j:=4) U eS)) ?_)));refine zo U (aq (r:=.int .i64 ((t.length+1:Nat):Int)) U U (by rw[show((t.length+1:Nat):Int)=((t.length+2:Nat):Int)-1 by omega];exact dV ak)) ?_;refine zo U (bK (p:=none) (q:=some (.int .i64 ((t.length+1:Nat):Int))) (m:=none) (p':=none) (q':=some (t.length+1)) (m':=none) U U U U U (by rw[bN];rfl) U (s.AS (j:=4) U (b:=t.length+1) eS lM (by omega))) ?_;have s:=L8 (b:=t.length+1) (by omega) (by omega) (s.ae [4]);rw[Re,<-um (P':=pgG I c_) (fx:=t) λe' sA=>xT e'.2.pg (hx.pt.YK e'.2 (oK sA))] at s;rw[<-a10] at s;have s:=((s.ae [1,0,0,2]).del 5).del 4;refine zc U (ih t (l+1) xu f ui lo hi eL eR pO _ _ nj _ c_ I M1 h S sk a1 a3 a5 tZ w1 (.inl u1) (by rw[a10];exact a8) hlen Mz w2 s) ?_;rintro v0 h ⟨iJ,mG,z,rfl,b1,b2,b3,b4,s,b5⟩;exact zk 2 U (WP.ret (kO _ _ _ ⟨U,aa⟩ ⟨iJ,mG,z,U,b1,a2.trans b2,b3,by omega,s,b5.base uM⟩))
 .skip;refine zC U tK (by simp;omega) ?_;refine zk 4 U (zl U (s.b9 (k:=6) U qj jC) ?_);refine zS U (s.gZ (j:=7) U jC U U) (λh s => ?_);exact zv (hq _ _ (by omega) ⟨U,U,U,U,U,U,U,aa⟩ (((s.ae [5,2,2,2,3,3,3]).del 9).del 8 |>.del 7))
end
section
variable {told:cu} {p y f:Nat} {t:Fx} {D:aE}
noncomputable def mdT : Code:=dm [1,1,1,1,1,1,1] ((Tryz.f72.body).getD .skip)
theorem acB (cn:EI N B ε)(hw:NW N now)(I:∃z,qT N root R ot (z::Z) A L (pgG now ε) (pgG now ε) es)(oI:now.length<=nl)
 (s:Sat h (GA g a p q r data aR now ε::aY x n l b cs::pt p9 (.cells 4 [.cg,.int .i64 0,.cg,.cg] false)::S))(hE:Has E [(5,.ptr x 0),(9,.ptr p9 0)])
 (kO:∀E' h' v,Has E' [(4,v)]->uN N B g a p q r aR root data R ot Z A L ε now es nl S v h'->Q .ret E' h'): WP ⟨Tryz.prog,told⟩ 131 mdT E h Q:=by
 obtain⟨z,I⟩:=I;have s:=s.ae [1];obtain⟨bv,cv,us,s⟩:=aU.1 s;have jl:=gT (P:=Tryz.prog) aQ s;have s1:=((s.ae [4]).skip 5);refine WP.has hE (zK 5 U (zY s 0 ew bP U ?_));by_cases h0:l=0
 .skip;refine zC U cA (by simp;omega) ?_;exact zk 20 U (WP.ret (kO _ _ _ ⟨U,aa⟩ ⟨ε,now,z,U,cn,Sm.refl N ε,hw,oI,s1,I⟩))
 .skip;refine zB U cA (by simp;omega) ?_;refine zk 3 U (zY s 0 cP gx U (zo U (aD U U U jl) ?_));by_cases h2:cs.length<2
  .skip;refine zB U aK (by simp;omega) ?_;exact zk 2 U (zY s 5 me fD U (zC U (Yo GP) (U) (zk 8 U (WP.ret (kO _ _ _ ⟨U,aa⟩ ⟨ε,now,z,U,cn,Sm.refl N ε,hw,oI,s1,I⟩)))))
  .skip;refine zC U aK (by simp;omega) ?_;exact zk 13 U (WP.ret (kO _ _ _ ⟨U,aa⟩ ⟨ε,now,z,U,cn,Sm.refl N ε,hw,oI,s1,I⟩))
theorem Xl {cut:Ky}(hc:cut.length<=96)(hr:1<=l->∀c∈dS,4<=c.length)(hl:1<=l): cy (hO l cut eD dS)<=cy eD+cy dS+96:=by
 have I:∀a b:List (List Nat),cy (a++b)=cy a+cy b:=λa b=>by rw[cy,tX,aO,cy,cy];omega
 have h2:∀(c:List Nat) (b:List (List Nat)),cy (c::b)=c.length+4+cy b:=λc b=>by
  have:=I [c] b;rw[List.singleton_append] at this;rw[this];simp[cy,tot]
 unfold hO;rw[ai (by omega),I];cases dS with
 |nil=>simp
 |cons c t =>
  have:=hr hl c a_;rw[h2,h2,aO,cz];omega
theorem Xm (hT:W told)(hB:B<=2000)(hN:N<=65536)(cn:EI N B ε)(hw:NW N now)(hx:Be N R ot Z root L A (pgG now ε) M t f l lo hi eL eR pO ks)(hp:Ep Z (pgG now ε) l lo hi ks i kl kr eD dS)(eG:∃z,qT N root R ot (z::Z) A L (pgG now ε) (pgG now ε) (eL++ks.flatMap (·.es)++eR))(oI:now.length+3<=nl)(hJ:486<cy (hO l kr.key eD dS))(Xn:cs.length<2->eD.length<2\/dS.length<2)
 (Xo:∀ {h:H} {S:List aE},Sat h (aY x n l b cs::D::S)->Sat h (aY xl kl.pg l (pgG now ε kl.pg) eD::aY xr kr.pg l (pgG now ε kr.pg) dS::S))
 (s:Sat h (GA g a p q r data aR now ε::aY x n l b cs::D::aY xu f (l+1) (pgG now ε f) (bF ks)::pt p9 (.cells 4 [.ptr xu 0,.int .i64 (i:Int),.ptr xl 0,.ptr xr 0] false)::S))(hE:Has E [(0,.ptr g 0),(5,.ptr x 0),(9,.ptr p9 0)])
 (kO:∀E' h' v,Has E' [(4,v)]->uN N B g a p q r aR root data R ot Z A L ε now (eL++ks.flatMap (·.es)++eR) nl S v h'->Q .ret E' h'): WP ⟨Tryz.prog,told⟩ 131 mdT E h Q:=by
 obtain⟨z,eG⟩:=eG;have sL:∀ {E':List (Nat×V)} {h:H},Has E' [(4,.int .i64 0)]->Sat h (GA g a p q r data aR now ε::S)->Q .ret E' h:=λhE s=>kO _ _ _ hE ⟨ε,now,z,U,cn,Sm.refl N ε,hw,by omega,s,eG⟩;have sx:=s.ae [1,1];have s:=s.ae [1];obtain⟨bv,cv,us,s⟩:=aU.1 s;have jl:=gT (P:=Tryz.prog) aQ s;have s1:=((s.ae [4]).skip 7);refine WP.has hE (zK 5 U (zY s 0 ew bP U ?_));by_cases h0:l=0
 .skip;refine zC U cA (by simp;omega) ?_;exact zk 20 U (WP.ret (sL ⟨U,aa⟩ s1))
 .skip;refine zB U cA (by simp;omega) ?_;refine zk 3 U (zY s 0 cP gx U (zo U (aD U U U jl) ?_));by_cases h2:cs.length<2
  .skip;refine zB U aK (by simp;omega) ?_;have s:=s.ae [7,6];refine zk 2 U (zY s 0 me fD U (zB U (adD GP) (U) ?_));have s:=(Xo sx).ae [3];have wz:∃m ky,dS[0]?=some (e_ m ky)/\m<4294967296:=by
    have oD:=hp.nr;cases l with
    |zero=>omega
    |succ l =>
     obtain⟨k2,e1,e2,_⟩:=oD;match k2,e2,e1 with
     |[],e2,_=>exact absurd U e2.ne
     |k::_,e2,e1=>exact⟨k.pg,k.key,by rw[e1];rfl,e2.pg k (by simp)⟩
   obtain⟨n1,n2,n3,n4⟩:=hx.nd;obtain⟨m1,m2,m3,m4,m5,m6⟩:=hx.sep.mO hp.hr;have ve:=hx.pf.fits;have mh:=E9 hp.pl;have u7:=E9 hp.pr;have hlen:=hx.len;have Mz:=hx.YX;have oI:=hp.nl;have oD:=hp.nr;have fN:=hp.nl.cells;have BC:=hp.nr.cells;rw[m5] at oI;rw[m6] at oD;have Ut:=(oI.join oD m1 m2 ⟨m3,m4⟩).cells;have gm:=Xl (l:=l) (eD:=eD) (dS:=dS) m4 (λ_ c hc=>by have:=(BC c hc).1;rw[iQ,ai h0] at this;exact this) (by omega);have zD:∀ {d:List (List Nat)},d.length<2->(∀c∈d,c.length<=100)->cy d<=104:=λ{d} h1 h2=>by
    match d,h1,h2 with
    |[],_,_=>simp[cy,tot]
    |[c],_,h2=>have:=h2 c (by simp);simp[cy,tot];omega
   have YW:cy (hO l kr.key eD dS)<=695:=by
    rcases Xn h2 with q|q
    .have:=zD q λc hc=>(fN c hc).2.2 (by omega);omega
    .have:=zD q λc hc=>(BC c hc).2.2 (by omega);omega
   rw[kx] at mh u7;have c9:=(List.getElem?_eq_some_iff.1 hp.hr).1;have qa:=kZ hp.hl (m:=kl.pg) a_;have Eo:=kZ hp.hr (m:=kr.pg) a_;have Em:kl.pg≠kr.pg:=λe=>rD (List.nodup_cons.1 n1).2 hp.hl hp.hr (by omega) kr.pg a_ (by rw[<-e];exact a_);have hlf:kl.pg≠f:=λe=>(List.nodup_cons.1 n1).1 (e ▸ qa);have hrf:kr.pg≠f:=λe=>(List.nodup_cons.1 n1).1 (e ▸ Eo);have tj:∀c∈bF ks,c.length<=100:=λc hc=>by
    obtain⟨k,hk,rfl⟩:=List.mem_map.1 hc;have:=hx.sep.len k hk;rw[e_,aO,cQ];omega
   have z0:=s;refine zk 4 U (WP.drawn [some (0,2),some (0,2),af,af,af,af] U (by kernel_rfl) (by kernel_rfl) ?_);refine zL U (s.b9 (k:=4) U qj jC) (zM U (zL U (s.b9 (k:=4) U qj jC) (aB.any U U U U (OpR.call U U U U (Jw hT (gX hp.hr) m4 (by omega) (by omega) (by omega) (by omega) (λ_=>wz) s)) ?_)));rintro v h ⟨us,s⟩;have z1:=s;have s:=s.ae [5];refine aB.any U U U U (OpR.call U U U U (Xg hT hB cn hw (by omega) (by omega) hJ YW (λc hc=>⟨(Ut c hc).1,(Ut c hc).2.2 (by omega)⟩) tj (by omega) (by rw[dn];exact c9) (n4 _ (bk _ qa)).2 (n4 _ (bk _ Eo)).2 (n4 _ a_).2 hN Em hlf hrf s)) ?_;rintro v0 h ⟨c_,I,rfl,a1,a2,a3,a4,s,a5⟩;refine zA U ?_;refine aB.nil ⟨⟨gF (.inr ⟨U,⟨_,o_load U (z0.b9 (k:=4) U qj jC)⟩,bx _ U⟩) (.inr ⟨U,⟨_,o_load U (z1.b9 (k:=6) U qj jC)⟩,bx _ U⟩),λ_ _=>.inr ⟨U,⟨_,b7 U⟩,bx _ U⟩,yr 5⟩,?_⟩;refine WP.ret (kO _ _ _ ⟨U,aa⟩ ?_);rcases a5 with a5|⟨k,ck,bl',br',bu',g1,g2,g3,g4,g5,g6,g7,g8,g9⟩
   .exact⟨c_,I,z,U,a1,a2,a3,by omega,s.skip 1,by rw[a5];exact eG⟩
   .have CL:∀m:Nat,m≠f->m≠kl.pg->m≠kr.pg->pgG I c_ m=pgG now ε m:=λm q1 q2 q3=>g9 m (by omega) (by omega) (by omega);obtain⟨nj,u1,u2⟩:=acA (P':=pgG I c_) (jH:=[]) (gM:=[]) hx.sep hp.hl hp.hr hp.oth hp.nl hp.nr n1 (by omega) g1 g2 (λm q1 q2 q3 _=>CL m q1 q2 q3) (by rw[g6];exact g3) (by rw[g7];exact g4);have xT:∀m:Nat,m∈pO->pgG I c_ m=pgG now ε m:=λm hm=>CL m (n2 m hm).1 (λe=>(n2 m hm).2.1 (e ▸ qa)) (λe=>(n2 m hm).2.1 (e ▸ Eo));have uM:∀m:Nat,m∈ot->pgG I c_ m=pgG now ε m:=λm hm=>CL m (n3 m hm).1 (λe=>(n3 m hm).2.1 (e ▸ qa)) (λe=>(n3 m hm).2.1 (e ▸ Eo));have hlg:=(List.getElem?_eq_some_iff.1 (gX hp.hr)).1;obtain⟨GN,cs',w1,w2,w3,w4⟩:=g_.QO (hx.pt.frame (P':=pgG I c_) xT) u1 (by rw[g8];exact g5) (λ_=>by
     rw[cM,ai (by omega),cG,dn];exact .inl (by omega))
    have h2:=n4 _ (bk _ qa);have h3:=n4 _ (bk _ Eo);have h4:=n4 _ a_;refine⟨c_,I,0,U,a1,a2,a3,by omega,s.skip 1,M,L,cs',GN,hx.sp.frame (g9 0 (by omega) (by omega) (by omega)) (g9 1 (by omega) (by omega) (by omega)),hx.tr.perm ?_,w1.mono λ_ _ h=>h.more,w2,⟨aH _,?_⟩,uM⟩
    .refine List.Perm.append_right ot ((List.Perm.trans ?_ w3.symm));rw[lY] at u2 ⊢;intro z;have:=u2 z;simp only[lZ,l7] at this ⊢;omega
    .rcases hx.pt.rt with⟨q,rfl,rfl⟩|⟨q,hr⟩
     .rw[w4 q];have e1:=hx.lam _ hx.pf;have e2:=qo (c':=e_ kr.pg (fE l ck)) (gX hp.hr);have e3:=tj _ (aJ (gX hp.hr));have e4:4<=(e_ kr.pg kr.key).length:=by rw[e_,aO,cQ];omega
      have e5:(e_ kr.pg (fE l ck)).length<=100:=by
       obtain⟨e6,_,e7⟩:=Ut ck (aJ g1);have e7:=e7 (by omega);rw[e_,aO,cQ,fE,ai h0,fA];omega
      have e9:=T_ (a:=bF ks) (b:=(bF ks).set (i+1) (e_ kr.pg (fE l ck))) (by rw[cG];exact aH _);unfold Am.lam at e1 ⊢;rw[ai (by omega)] at e1 ⊢;rw[cy,cG];rw[cy] at e1;omega
     .rw[xT _ hr] at w2;have:=hx.lam _ w2;omega
  .skip;refine zC U aK (by simp;omega) ?_;exact zk 13 U (WP.ret (sL ⟨U,aa⟩ s1))
end
section
variable {told:cu} {p m f:Nat} {t:Fx}
theorem uN.pre {v:V}(hs:Sm N ε c_)(h1:uN N B g a p q r aR root data R ot Z A L c_ now es nl S v h): uN N B g a p q r aR root data R ot Z A L ε now es nl S v h:=by
 obtain⟨ah,aN,z,rfl,a1,a2,a3,a4,a5,I⟩:=h1;rw[gN hs] at I;exact⟨ah,aN,z,U,a1,hs.trans a2,a3,a4,a5,I⟩
theorem uN.del {v:V}(I:uN N B g a p q r aR root data R ot Z A L ε now es nl (C::S) v h): uN N B g a p q r aR root data R ot Z A L ε now es nl S v h:=by
 obtain⟨ah,aN,z,a0,a1,a2,a3,a4,a5,a6⟩:=I;exact⟨ah,aN,z,a0,a1,a2,a3,a4,a5.del 1,a6⟩
theorem DX {a b:Bool}: indexV Tryz.prog 230 (.agg [.bool a,.bool b]) (.int .i64 ((0:Nat):Int))=some (.bool a)/\indexV Tryz.prog 230 (.agg [.bool a,.bool b]) (.int .i64 ((1:Nat):Int))=some (.bool b):=by
 simp only[indexV,Tryz.underlying230,BU,t_,sH];exact⟨U,U⟩
abbrev tf : V:=.agg [.bool true,.bool false]
noncomputable def CM : Code:=dm [1,1,1,1,1,1,0,1,0,0] ((Tryz.f72.body).getD .skip)
theorem Pg (hT:W told)(hi:i<ks.length)(hl:ks.length<=512){k:Nat}(hk:k=0/\ks.length<=i+1\/k=1/\i=0)
 (s:Sat h (pt p6 (.cells 2 [.ptr xu 0,.int .i64 (i:Int)] false)::aY xu f (l+1) bu (bF ks)::S))(hE:Has E [(0,.ptr g 0),(1,w),(5,.ptr x 0),(6,.ptr p6 0),(9,.ptr p9 0),(67,tf),(68,.int .i64 (k:Int))])
 (hq:∀E' h',Has E' [(0,.ptr g 0),(1,w),(5,.ptr x 0),(6,.ptr p6 0),(9,.ptr p9 0),(67,tf),(68,.int .i64 ((k+1:Nat):Int))]->Sat h' (pt p6 (.cells 2 [.ptr xu 0,.int .i64 (i:Int)] false)::aY xu f (l+1) bu (bF ks)::S)->WP ⟨Tryz.prog,told⟩ 131 (.loop CM) E' h' Q): WP ⟨Tryz.prog,told⟩ 131 (.loop CM) E h Q:=by
 rcases hk with⟨rfl,I⟩|⟨rfl,I⟩
 .skip;refine WP.loop (WP.has hE (zg U (zB U aK (by decide) ?_)));refine zk 5 U (WP.block (zg U (zo U (Ak (r:=.bool true) U U DX.1) (zk 5 U (zl U (s.b9 (k:=0) U HN lM) (zk 2 U ?_))))));have s:=s.ae [1];dsimp only[bringA,getA,aM] at s;refine zc U (Mw (Uo:=true) hT hi hl I s) ?_;rintro v h ⟨rfl,s⟩;have s:=s.ae [1];dsimp only[bringA,getA,aM] at s;refine zk 4 U ?_;refine au.cj s U U U (cm vt) (λEe h s => ?_);dsimp only[V.cells,List.length_cons,List.length_nil,Nat.reduceAdd] at s;refine zS U (s.gZ (j:=0) U jC U U) (λh s => ?_);dsimp only[setA] at s;refine zk 4 U (WP.block (zK 3 U (zC U aG (U) (zk 6 U (zo U (eo U U) (zk 3 U (WP.exit (zr U (zb U (by exact aL ak) ?_)))))))));refine zm U (zv ?_);exact hq _ _ ⟨U,U,U,U,U,U,U,aa⟩ s.drop
 .skip;refine WP.loop (WP.has hE (zg U (zB U aK (by decide) ?_)));refine zk 5 U (WP.block (zg U (zo U (Ak (r:=.bool false) U U DX.2) (zk 5 U (zl U (s.b9 (k:=0) U HN lM) (zk 2 U ?_))))));have s:=s.ae [1];dsimp only[bringA,getA,aM] at s;refine zc U (Mw (Uo:=false) hT hi hl I s) ?_;rintro v h ⟨rfl,s⟩;have s:=s.ae [1];dsimp only[bringA,getA,aM] at s;refine zk 4 U ?_;refine au.cj s U U U (cm vt) (λEe h s => ?_);dsimp only[V.cells,List.length_cons,List.length_nil,Nat.reduceAdd] at s;refine zS U (s.gZ (j:=0) U jC U U) (λh s => ?_);dsimp only[setA] at s;refine zk 4 U (WP.block (zK 3 U (zC U aG (U) (zk 6 U (zo U (eo U U) (zk 3 U (WP.exit (zr U (zb U (by exact aL ak) ?_)))))))));refine zm U (zv ?_);exact hq _ _ ⟨U,U,U,U,U,U,U,aa⟩ s.drop
theorem Ph (I:Has E [(0,.ptr g 0),(1,w),(5,.ptr x 0),(6,.ptr p6 0),(9,.ptr p9 0),(67,tf),(68,.int .i64 ((1+1:Nat):Int))])
 (hq:∀E',Has E' [(0,.ptr g 0),(5,.ptr x 0),(9,.ptr p9 0)]->Q (.exit 0) E' h): WP ⟨Tryz.prog,told⟩ 131 (.loop CM) E h Q:=by
 refine WP.loop (WP.has I (zg U (zC U aK (by decide) ?_)));exact zk 3 U (WP.exit (hq _ ⟨U,U,U,aa⟩))
theorem Xp (hT:W told)(hB:B<=2000)(hN:N<=65536)(cn:EI N B ε)(hw:NW N now)(hx:Be N R ot Z root L A (pgG now ε) M t f l lo hi eL eR pO ks)(hp:Ep Z (pgG now ε) l lo hi ks i kk kr cs dS)(ih:DW told N B g a p q r aR root data R ot Z A L m)(sk:t.length<m)(Ei:xS.length=4)
 (s:Sat h (GA g a p q r data aR now ε::aY x kk.pg l (pgG now ε kk.pg) cs::aY xu f (l+1) (pgG now ε f) (bF ks)::pt p6 (.cells 2 [.ptr xu 0,.int .i64 (i:Int)] false)::pt p9 (.cells 4 xS false)::wyA w ((eT t++[(xu,ui)])++[(x,xi)])::nodsA (pgG now ε) (l+2) t::S))
 (hE:Has E [(0,.ptr g 0),(1,w),(5,.ptr x 0),(6,.ptr p6 0),(9,.ptr p9 0),(67,tf),(68,.int .i64 ((0:Nat):Int))])
 (kO:∀E' h' v,Has E' [(4,v)]->uN N B g a p q r aR root data R ot Z A L ε now (eL++ks.flatMap (·.es)++eR) (now.length+4*t.length+2*L+8) S v h'->Q .ret E' h')
 (hq:∀E' h' y ah,486<cy (hO l kr.key cs dS)->EI N B ah->Sm N ε ah->Has E' [(0,.ptr g 0),(1,w),(5,.ptr x 0),(6,.ptr p6 0),(9,.ptr p9 0),(67,tf),(68,.int .i64 ((1:Nat):Int))] ->
   Sat h' (GA g a p q r data aR now ah::aY x kk.pg l (pgG now ε kk.pg) cs::aY xu f (l+1) (pgG now ε f) (bF ks)::pt p6 (.cells 2 [.ptr xu 0,.int .i64 (i:Int)] false)::pt p9 (.cells 4 [.ptr xu 0,.int .i64 (i:Int),.ptr x 0,.ptr y 0] false)::wyA w ((eT t++[(xu,ui)])++[(x,xi)])::nodsA (pgG now ε) (l+2) t::aY y kr.pg l (pgG now ε kr.pg) dS::S)->WP ⟨Tryz.prog,told⟩ 131 (.loop CM) E' h' Q): WP ⟨Tryz.prog,told⟩ 131 (.loop CM) E h Q:=by
 have hlen:=hx.len;have Mz:=hx.YX;have ve:=hx.pf.fits;rw[dn] at ve;have Eo:=kZ hp.hr (m:=kr.pg) a_;have MA:=(hx.nd.2.2.2 _ (bk _ Eo)).2;refine WP.loop (WP.has hE (zg U (zB U aK (by decide) ?_)));refine zk 5 U (WP.block (zg U (zo U (Ak (r:=.bool true) U U DX.1) ?_)));have s:=s.ae [0,1,1];dsimp only[bringA,getA,aM] at s;refine zk 5 U (zl U (s.b9 (k:=2) U HN lM) (zk 2 U (zc U (Xc hT hB hN cn hw hp.hr (by omega) (by omega) MA hp.pr (λc hc=>⟨(hp.nr.cells c hc).1,(hp.nr.cells c hc).2.1⟩) s) ?_)));rintro v h ⟨y,c_,rfl,I,ej,s⟩;have gY:pgG now c_=pgG now ε:=gN ej;refine zk 4 U ?_;refine au.cj s U U U (cm vt) (λEe h s => ?_);dsimp only[V.cells,List.length_cons,List.length_nil,Nat.reduceAdd] at s;refine zS U (s.gZ (j:=0) U jC U U) (λh s => ?_);dsimp only[setA] at s;refine zk 4 U (WP.block (zK 3 U (zC U aG (U) (zk 6 U (zo U (eo U U) (zk 3 U ?_))))));have s:=s.ae [1,2,3,1,0,1,1,1];dsimp only[bringA,getA,aM] at s;rw[<-gY] at s hx hp hq;refine WP.skip ?_;refine Us (xi:=xi) (ui:=ui) (x:=x) hT hB hN I hw hx hp ih sk Ei s ⟨U,U,U,U,U,U,U,U,aa⟩ (λE' h' v dY hr=>kO E' h' v dY (hr.pre ej).del) (λE' h' hJ dY s' => ?_);have s:=s'.ae [0,1,0,4,1,1,1,0];dsimp only[bringA,getA,aM] at s;refine WP.has dY (zr U (zb U (by exact aL ak) ?_));refine zm U (zv ?_);exact hq _ _ y c_ hJ I ej ⟨U,U,U,U,U,U,U,aa⟩ s
theorem aay (hT:W told)(hB:B<=2000)(hN:N<=65536)(cn:EI N B ε)(hw:NW N now)(hx:Be N R ot Z root L A (pgG now ε) M t f l lo hi eL eR pO ks)(I:Ep Z (pgG now ε) l lo hi ks i kl kk eD cs)(ih:DW told N B g a p q r aR root data R ot Z A L m)(sk:t.length<m)(Ei:xS.length=4)
 (s:Sat h (GA g a p q r data aR now ε::aY x kk.pg l (pgG now ε kk.pg) cs::aY xu f (l+1) (pgG now ε f) (bF ks)::pt p6 (.cells 2 [.ptr xu 0,.int .i64 ((i+1:Nat):Int)] false)::pt p9 (.cells 4 xS false)::wyA w ((eT t++[(xu,ui)])++[(x,xi)])::nodsA (pgG now ε) (l+2) t::S))
 (hE:Has E [(0,.ptr g 0),(1,w),(5,.ptr x 0),(6,.ptr p6 0),(9,.ptr p9 0),(67,tf),(68,.int .i64 ((1:Nat):Int))])
 (kO:∀E' h' v,Has E' [(4,v)]->uN N B g a p q r aR root data R ot Z A L ε now (eL++ks.flatMap (·.es)++eR) (now.length+4*t.length+2*L+8) S v h'->Q .ret E' h')
 (hq:∀E' h' y ah,486<cy (hO l kk.key eD cs)->EI N B ah->Sm N ε ah->Has E' [(0,.ptr g 0),(5,.ptr x 0),(9,.ptr p9 0)] ->
   Sat h' (GA g a p q r data aR now ah::aY x kk.pg l (pgG now ε kk.pg) cs::aY y kl.pg l (pgG now ε kl.pg) eD::aY xu f (l+1) (pgG now ε f) (bF ks)::pt p9 (.cells 4 [.ptr xu 0,.int .i64 (i:Int),.ptr y 0,.ptr x 0] false)::S)->Q (.exit 0) E' h'): WP ⟨Tryz.prog,told⟩ 131 (.loop CM) E h Q:=by
 have hlen:=hx.len;have Mz:=hx.YX;have ve:=hx.pf.fits;rw[dn] at ve;have qa:=kZ I.hl (m:=kl.pg) a_;have MA:=(hx.nd.2.2.2 _ (bk _ qa)).2;have c9:=(List.getElem?_eq_some_iff.1 I.hr).1;refine WP.loop (WP.has hE (zg U (zB U aK (by decide) ?_)));refine zk 5 U (WP.block (zg U (zo U (Ak (r:=.bool false) U U DX.2) ?_)));have s:=s.ae [0,1,1];dsimp only[bringA,getA,aM] at s;refine zk 5 U (zl U (s.b9 (k:=2) U HN lM) (zk 2 U (zc U (Xd hT hB hN cn hw I.hl c9 (by omega) (by omega) MA I.pl (λc hc=>⟨(I.nl.cells c hc).1,(I.nl.cells c hc).2.1⟩) s) ?_)));rintro v h ⟨y,c_,rfl,kD,ej,s⟩;have gY:pgG now c_=pgG now ε:=gN ej;refine zk 4 U ?_;refine au.cj s U U U (cm vt) (λEe h s => ?_);dsimp only[V.cells,List.length_cons,List.length_nil,Nat.reduceAdd] at s;refine zS U (s.gZ (j:=0) U jC U U) (λh s => ?_);dsimp only[setA] at s;refine zk 4 U (WP.block (zK 3 U (zC U aG (U) (zk 6 U (zo U (eo U U) (zk 3 U ?_))))));have s:=s.ae [1,2,1,2,0,1,1,1];dsimp only[bringA,getA,aM] at s;rw[<-gY] at s hx I hq;refine WP.skip ?_;refine Us (xi:=xi) (ui:=ui) (x:=x) hT hB hN kD hw hx I ih sk Ei s ⟨U,U,U,U,U,U,U,U,aa⟩ (λE' h' v dY hr=>kO E' h' v dY (hr.pre ej).del) (λE' h' hJ dY s' => ?_);have s:=s'.ae [0,2,1,0,0];dsimp only[bringA,getA,aM] at s;refine WP.has dY (zr U (zb U (by exact aL ak) ?_));refine zm U (zv ?_);refine Ph (h:=h') (w:=w) (g:=g) (x:=x) (p6:=p6) (p9:=p9) ⟨U,U,U,U,U,U,U,aa⟩ λE2 LR=>hq E2 h' y c_ hJ kD ej LR (((s.del 7).del 6).del 5)
end
def GX (N B g a p q r aR:Nat)(data Z:List Nat)(ε:bA)(now:List (Int×List Nat))(x n l:Nat)(b:List Nat)(cs:List (List Nat))(xu f:Nat)(lo:Ky)(hi:Option Ky)(ks:List fo)(p9:Nat)(S:List aE)(h':H): Prop:=∃ah,EI N B ah/\Sm N ε ah/\(Sat h' (GA g a p q r data aR now ah::aY x n l b cs::pt p9 (.cells 4 [.cg,.int .i64 0,.cg,.cg] false)::S) \/
 ∃i kl kr eD dS xl xr D,Ep Z (pgG now ε) l lo hi ks i kl kr eD dS/\486<cy (hO l kr.key eD dS)/\(cs.length<2->eD.length<2\/dS.length<2)/\(∀(h:H) (S:List aE),Sat h (aY x n l b cs::D::S)->Sat h (aY xl kl.pg l (pgG now ε kl.pg) eD::aY xr kr.pg l (pgG now ε kr.pg) dS::S)) /\
  Sat h' (GA g a p q r data aR now ah::aY x n l b cs::D::aY xu f (l+1) (pgG now ε f) (bF ks)::pt p9 (.cells 4 [.ptr xu 0,.int .i64 (i:Int),.ptr xl 0,.ptr xr 0] false)::S))
section
variable {told:cu} {p m f:Nat} {t:Fx}
theorem cM.ne (h:cM Z l cs): cs≠[]:=by
 unfold cM at h;split at h
 .exact h
 .rcases h with h|⟨_,_,_,_,rfl⟩
  .intro e;rw[e] at h;cases h
  .simp
theorem GX.pre (hs:Sm N ε c_)(I:GX N B g a p q r aR data Z c_ now x n l b cs xu f lo hi ks p9 S h): GX N B g a p q r aR data Z ε now x n l b cs xu f lo hi ks p9 S h:=by
 obtain⟨ah,a1,a2,a3⟩:=I;rw[gN hs] at a3;exact⟨ah,a1,hs.trans a2,a3⟩
theorem GX.del (h1:GX N B g a p q r aR data Z ε now x n l b cs xu f lo hi ks p9 (C::S) h): GX N B g a p q r aR data Z ε now x n l b cs xu f lo hi ks p9 S h:=by
 obtain⟨ah,I,a2,s|⟨i,kl,kr,eD,dS,xl,xr,D,b1,b2,b3,b4,s⟩⟩:=h1
 .exact⟨ah,I,a2,.inl (s.del 3)⟩
 .exact⟨ah,I,a2,.inr ⟨i,kl,kr,eD,dS,xl,xr,D,b1,b2,b3,b4,s.del 5⟩⟩
theorem Uu (hT:W told)(hB:B<=2000)(hN:N<=65536)(cn:EI N B ε)(hw:NW N now)(hx:Be N R ot Z root L A (pgG now ε) M t f l lo hi eL eR pO ks)(MB:∀j,i=j+1->∃kl eD,Ep Z (pgG now ε) l lo hi ks j kl kk eD cs)(c9:i<ks.length)(ih:DW told N B g a p q r aR root data R ot Z A L m)(sk:t.length<m)(Ei:xS.length=4)
 (s:Sat h (GA g a p q r data aR now ε::aY x kk.pg l (pgG now ε kk.pg) cs::aY xu f (l+1) (pgG now ε f) (bF ks)::pt p6 (.cells 2 [.ptr xu 0,.int .i64 (i:Int)] false)::pt p9 (.cells 4 xS false)::wyA w ((eT t++[(xu,ui)])++[(x,xi)])::nodsA (pgG now ε) (l+2) t::S))
 (hE:Has E [(0,.ptr g 0),(1,w),(5,.ptr x 0),(6,.ptr p6 0),(9,.ptr p9 0),(67,tf),(68,.int .i64 ((1:Nat):Int))])
 (I:∀E' h' v,Has E' [(4,v)]->uN N B g a p q r aR root data R ot Z A L ε now (eL++ks.flatMap (·.es)++eR) (now.length+4*t.length+2*L+8) S v h'->Q .ret E' h')
 (h0:i=0->∀E' h',Has E' [(0,.ptr g 0),(5,.ptr x 0),(9,.ptr p9 0)]->Sat h' (GA g a p q r data aR now ε::aY x kk.pg l (pgG now ε kk.pg) cs::aY xu f (l+1) (pgG now ε f) (bF ks)::pt p9 (.cells 4 xS false)::S)->Q (.exit 0) E' h')
 (hq:∀E' h',Has E' [(0,.ptr g 0),(5,.ptr x 0),(9,.ptr p9 0)]->GX N B g a p q r aR data Z ε now x kk.pg l (pgG now ε kk.pg) cs xu f lo hi ks p9 S h'->Q (.exit 0) E' h'): WP ⟨Tryz.prog,told⟩ 131 (.loop CM) E h Q:=by
 have ve:=hx.pf.fits;rw[dn] at ve;cases i with
 |zero =>
  have s:=s.ae [3,2];refine Pg (k:=1) hT c9 (by omega) (.inr ⟨U,U⟩) s hE λE1 h1 LQ s=>Ph LQ λE2 LR=>h0 U E2 h1 LR ?_;have s:=s.ae [2,2,1,1];exact((s.del 6).del 5).del 4
 |succ j =>
  obtain⟨kl,eD,hp⟩:=MB j U;refine aay hT hB hN cn hw hx hp ih sk Ei s hE I λE' h' y iJ hJ oH j3 dY s=>hq E' h' dY ⟨iJ,oH,j3,.inr ⟨j,kl,kk,eD,cs,y,x,_,hp,hJ,.inr,λh S s => ?_,s⟩⟩;have s:=s.ae [1];exact s
theorem aaz (hT:W told)(hB:B<=2000)(hN:N<=65536)(cn:EI N B ε)(hw:NW N now)(hx:Be N R ot Z root L A (pgG now ε) M t f l lo hi eL eR pO ks)(hR:i+1<ks.length->∃kr dS,Ep Z (pgG now ε) l lo hi ks i kk kr cs dS)(MB:∀j,i=j+1->∃kl eD,Ep Z (pgG now ε) l lo hi ks j kl kk eD cs)(c9:i<ks.length)(ih:DW told N B g a p q r aR root data R ot Z A L m)(sk:t.length<m)
 (s:Sat h (GA g a p q r data aR now ε::aY x kk.pg l (pgG now ε kk.pg) cs::aY xu f (l+1) (pgG now ε f) (bF ks)::pt p6 (.cells 2 [.ptr xu 0,.int .i64 (i:Int)] false)::pt p9 (.cells 4 [.cg,.int .i64 0,.cg,.cg] false)::wyA w ((eT t++[(xu,ui)])++[(x,xi)])::nodsA (pgG now ε) (l+2) t::S))
 (hE:Has E [(0,.ptr g 0),(1,w),(5,.ptr x 0),(6,.ptr p6 0),(9,.ptr p9 0),(67,tf),(68,.int .i64 ((0:Nat):Int))])
 (kO:∀E' h' v,Has E' [(4,v)]->uN N B g a p q r aR root data R ot Z A L ε now (eL++ks.flatMap (·.es)++eR) (now.length+4*t.length+2*L+8) S v h'->Q .ret E' h')
 (hq:∀E' h',Has E' [(0,.ptr g 0),(5,.ptr x 0),(9,.ptr p9 0)]->GX N B g a p q r aR data Z ε now x kk.pg l (pgG now ε kk.pg) cs xu f lo hi ks p9 S h'->Q (.exit 0) E' h'): WP ⟨Tryz.prog,told⟩ 131 (.loop CM) E h Q:=by
 have ve:=hx.pf.fits;rw[dn] at ve;by_cases hr:i+1<ks.length
 .obtain⟨kr,dS,hp⟩:=hR hr;refine Xp hT hB hN cn hw hx hp ih sk U s hE kO λE1 h1 y c_ hJ kD ej LQ s => ?_;have gY:pgG now c_=pgG now ε:=gN ej;rw[<-gY] at s hx MB hp hq;refine Uu (S:=aY y kr.pg l (pgG now c_ kr.pg) dS::S) hT hB hN kD hw hx MB c9 ih sk U s LQ (λE' h' v I hr=>kO E' h' v I (hr.pre ej).del) (λ_ E' h' I s=>hq E' h' I (.pre ej ⟨c_,kD,Sm.refl N c_,.inr ⟨i,kk,kr,cs,dS,x,y,aY y kr.pg l (pgG now c_ kr.pg) dS,hp,hJ,.inl,λh S s=>s,?_⟩⟩)) λE' h' I he=>hq E' h' I (he.pre ej).del;have s:=s.ae [0,0,2,0,0];exact s
 .have s:=s.ae [3,2];refine Pg (k:=0) hT c9 (by omega) (.inl ⟨U,by omega⟩) s hE λE1 h1 LQ s => ?_;have s:=s.ae [2,2,1,0];refine Uu hT hB hN cn hw hx MB c9 ih sk U s LQ kO (λ_ E' h' I s=>hq E' h' I ⟨ε,cn,Sm.refl N ε,.inl (s.del 2)⟩) hq
theorem acC (hT:W told)(hB:B<=2000)(hN:N<=65536)(hw:NW N now)(hx:Be N R ot Z root L A (pgG now ε) M t f l lo hi eL eR pO ks)(eG:∃z,qT N root R ot (z::Z) A L (pgG now ε) (pgG now ε) (eL++ks.flatMap (·.es)++eR))(oI:now.length+3<=nl)(he:GX N B g a p q r aR data Z ε now x n l b cs xu f lo hi ks p9 S h)(hE:Has E [(0,.ptr g 0),(5,.ptr x 0),(9,.ptr p9 0)])
 (kO:∀E' h' v,Has E' [(4,v)]->uN N B g a p q r aR root data R ot Z A L ε now (eL++ks.flatMap (·.es)++eR) nl S v h'->Q .ret E' h'): WP ⟨Tryz.prog,told⟩ 131 mdT E h Q:=by
 obtain⟨c_,kD,ej,s|⟨i,kl,kr,eD,dS,xl,xr,D,hp,hJ,Xn,Xo,s⟩⟩:=he
 .have I:pgG now c_=pgG now ε:=gN ej;rw[<-I] at eG;exact acB kD hw eG (by omega) s ⟨hE.2.1,hE.2.2.1,aa⟩ λE' h' v dY hr=>kO E' h' v dY (hr.pre ej)
 .have I:pgG now c_=pgG now ε:=gN ej;rw[<-I] at eG hx hp s;exact Xm hT hB hN kD hw hx hp eG oI hJ Xn (λ{h S} s=>by have:=Xo h S s;rw[<-I] at this;exact this) s hE λE' h' v dY hr=>kO E' h' v dY (hr.pre ej)
end
section
variable {told:cu} {p:Nat}
set_option maxHeartbeats 1000000 in
theorem aaA (hT:W told)(hB:B<=2000)(hN:N<=65536): ∀m,DW told N B g a p q r aR root data R ot Z A L m:=by
 intro m;induction m with
 |zero=>intro fx l x n i lo hi eL eR pO cs es ps w ε now M h S hm;exact absurd hm (vL _)
 |succ m ih =>
  intro fx l x n i lo hi eL eR pO cs es ps w ε now M h S hm cn hw gI jd nP jL eA hL Mf hA s;have oD:=jd.my n (by simp);have uK:(eT fx).length=fx.length:=by rw[eT,jt,cf]
  have mh:(eT fx++[(x,i)]).length=fx.length+1:=by rw[aO,uK];rfl
  have s:=s.ae [1];obtain⟨id,off,e1,e2,_⟩:=J6 (P:=Tryz.prog) (j:=fx.length) (x:=x) (i:=i) eS lM (by rw[hU (by omega),uK,gK];rfl) s;have AU:=CF (P:=Tryz.prog) s eS;rw[mh] at AU;refine Call.of_wp (hT.free _ U) Tryz.func72 U U (zK 8 U (zo U (aD U U U AU) (zo U (aq (r:=.int .i64 (fx.length:Int)) U U (by rw[show((fx.length:Nat):Int)=((fx.length+1:Nat):Int)-1 by omega];exact dV ak)) ?_)));refine zo U (bM (r:=.ptr id off) U U e1) (zf U (jx _ _) (zl U (e2 _ fD) (zk 6 U (zo U (aD U U U AU) ?_))));cases fx with
  |nil =>
   obtain⟨rfl,rfl,rfl,rfl,rfl,rfl,rfl⟩:=nP;obtain⟨Ju,hA2⟩:=hA;refine zB U dK (by simp) ?_;have s:=s.ae [1,1];refine zk 6 U (zc U (Xf (ot:=ot) (Z:=Z) (A:=A) (es:=es) hT hB hN Mf cn hw gI jd jL eA Ju hA2 s) ?_);rintro v h ⟨c_,n_,rfl,a1,a2,a3,a4,a5,s⟩;exact zk 2 U (WP.ret ⟨aa,_,U,c_,n_,0,U,a1,a2,a3,by simp only[b6];omega,s.skip 2,by simpa using a5.more⟩)
  |cons e t =>
   refine zC U dK (by simp;omega) ?_;have Ip:(eT t).length=t.length:=by rw[eT,jt,cf]
   have afi:eT (e::t)++[(x,i)]=(eT t++[(e.1,e.2.i)])++[(x,i)]:=by rw[rB]
   have sL:(eT (e::t)++[(x,i)])[t.length]?=some (e.1,e.2.i):=by
    rw[rB,dN,hU (by omega),Ip,gK];rfl
   obtain⟨tq,qD,y1,_,y3⟩:=J6 (P:=Tryz.prog) eS lM sL s;have cq:(e::t).length=t.length+1:=rfl;have hmt:t.length<m:=by rw[cq] at hm;omega
   refine zk 7 U (zo U (aD U U U AU) (zo U (aq (r:=.int .i64 (t.length:Int)) U U (by rw[show((t.length:Nat):Int)=(((e::t).length+1:Nat):Int)-2 by rw[cq];omega];exact dV ak)) ?_));refine zo U (bM (r:=.ptr tq qD) U U y1) (zl U (y3 HN) ?_);obtain⟨fX,eO,ni,ji,iT,ks,kk,p1,p2,p3,p4,rfl,rfl,rfl,p8,rfl,rfl,Gm,Ee,p13,p14,p15⟩:=g_.pop nP es ps;have hx:Be N R ot Z root L A (pgG now ε) M t e.2.pg l fX eO ni ji iT ks:=⟨gI,jd.perm (p15.append_right ot),p1,p8,Ee,p13,by rw[cq] at hL;omega,Mf,hA⟩;rw[p14];obtain⟨n1,n2,n3,n4⟩:=hx.nd;have ve:=hx.pf.fits;have c9:=(List.getElem?_eq_some_iff.1 p4).1;have s:=s.ae [3];have s:=vG.1 s;rw[<-p2,afi] at s;have s:=s.ae [4];obtain⟨bv,cv,us,s⟩:=aU.1 s;refine au.cj s U U U (cm Qa) (λp6 h s => ?_);refine zS U (s.gZ (j:=0) U lM U U) (λh s => ?_);refine zk 6 U (zY s 1 cP gx U (zo U (aD U U U (gT (P:=Tryz.prog) aQ s.drop)) ?_));by_cases Uv:cs.length=0
   .obtain rfl:cs=[]:=iZ Uv;obtain⟨XT,rS⟩:kk.es=[]/\kk.ps=[]:=by
     rcases jL with jL|⟨_,_,q1,q2⟩
     .cases l with
      |zero=>obtain⟨q1,_,q2⟩:=jL;exact⟨List.map_eq_nil_iff.1 q1.symm,q2⟩
      |succ l =>
       obtain⟨k2,q1,q2,_⟩:=jL;exact absurd (List.map_eq_nil_iff.1 q1.symm) q2.ne
     .exact⟨q1,q2⟩
    refine zB U dK (by simp) ?_;have s:=s.ae [8];have hkm:=kZ p4 (m:=kk.pg) a_;have kL:((iT++e.2.pg::ks.flatMap cL)++ot).Perm (kk.pg::((iT++e.2.pg::ks.flatMap cL)++ot).erase kk.pg):=List.perm_cons_erase (fc _ (js _ (bk _ hkm)));refine zk 8 U (zY s 2 iA bP U (zc U (E8 hT hB cn hw gI hx.tr kL s) ?_));rintro v h ⟨c_,n_,M1,rfl,a1,a2,a3,a4,a5,a6,a7,s⟩;have s:=s.ae [0,5];refine zk 5 U (zC U aG (U) (zk 6 U (zY s 2 jx fD U (zm U (zY s 2 sJ bP U (zc U (El hT hB a1 a3 (n4 _ a_).2 hx.pf (by rw[dn];exact c9) (Uq) s) ?_))))));rintro v h ⟨iJ,bU,rfl,b1,b2,b3,b4,s⟩;have j5:∀m:Int,pgG (cD (e.2.pg:Int) bU n_) iJ m=if (e.2.pg:Int)=m then bU else pgG n_ c_ m:=λm=>by rw[eY,gN b2]
    have W6:=gz (i:=(e.2.pg:Int)) (b:=bU) (now:=n_);generalize cD (e.2.pg:Int) bU n_=I at s j5 b3 W6;have hfp:pgG I iJ e.2.pg=bU:=by rw[j5,ay U]
    have CL:∀m:Nat,2<=m->m≠e.2.pg->pgG I iJ m=pgG now ε m:=λm q1 q2=>by rw[j5,ai (by omega),a7 _ (by omega)]
    obtain⟨nj,u1,u2⟩:=acz (P':=pgG I iJ) hx.sep p4 XT rS Gm n1 (λm q1 q2=>CL m (n4 m (bk _ q2)).1 q1);have xT:∀m:Nat,m∈iT->pgG I iJ m=pgG now ε m:=λm hm=>CL m (n2 m hm).2.2 (n2 m hm).1;have uM:∀m:Nat,m∈ot->pgG I iJ m=pgG now ε m:=λm hm=>CL m (n3 m hm).2.2 (n3 m hm).1;obtain⟨w1,w2⟩:=hx.up (P':=pgG I iJ) xT (YY:=(bF ks).eraseIdx e.2.i) Ur;have tZ:jA N M1 ((iT++e.2.pg::nj)++ot):=a6.perm (by
     refine(kL.symm.trans ?_).cons_inv;rw[lY] at u2 ⊢;intro z;have:=u2 z;simp only[lZ,l7] at this ⊢;omega)
    have h2f:=(n4 _ a_).1;have Oh:((eT t++[(e.1,e.2.i)])++[(x,i)]:List (Nat×Nat)).length=t.length+2:=by simp[eT]
    have Re:((eT t++[(e.1,e.2.i)])++[(x,i)]).take (t.length+1)=eT t++[(e.1,e.2.i)]:=fY (by simp[eT]);refine zk 5 U (zC U aG (U) (zk 8 U (zo U (aD (r:=.int .i64 ((t.length+2:Nat):Int)) U U U (by rw[<-Oh];exact s.AR (j:=8) U eS)) ?_)));refine zo U (aq (r:=.int .i64 ((t.length+1:Nat):Int)) U U (by rw[show((t.length+1:Nat):Int)=((t.length+2:Nat):Int)-1 by omega];exact dV ak)) ?_;refine zo U (bK (p:=none) (q:=some (.int .i64 ((t.length+1:Nat):Int))) (m:=none) (p':=none) (q':=some (t.length+1)) (m':=none) U U U U U (by rw[bN];rfl) U (s.AS (j:=8) U (b:=t.length+1) eS lM (by omega))) ?_;have s:=L8 (b:=t.length+1) (by omega) (by omega) (s.ae [8]);rw[Re,<-um (P':=pgG I iJ) (fx:=t) λe' sA=>xT e'.2.pg (p1.YK e'.2 (oK sA))] at s;rw[<-hfp] at s;have s:=s.ae [1,0,0,5];refine zc U (ih t (l+1) e.1 e.2.pg e.2.i fX eO ni ji iT _ _ nj _ iJ I M1 h _ hmt b1 b3 (a5.frame (by rw[j5,ai (by omega)]) (by rw[j5,ai (by omega)])) tZ w1 u1 (by rw[hfp];exact b4) hx.len Mf w2 s) ?_;rintro v0 h ⟨kI,Mx,z,rfl,c1,c2,c3,c4,s,c5⟩;exact zk 2 U (WP.ret ⟨aa,_,U,kI,Mx,z,U,c1,a2.trans (b2.trans c2),c3,by rw[cq];omega,s.skip 5,c5.base uM⟩)
   .skip;refine zC U dK (decide_eq_false (by omega)) ?_;have fG:cs≠[]:=λq=>Uv (by rw[q];rfl);have jL:Nv (cM Z) (pgG now ε) l (loK fX ks e.2.i) (cT eO ks e.2.i) cs kk.es kk.ps:=jL.resolve_right λq=>fG q.2.1;have eG:∃z,qT N root R ot (z::Z) A L (pgG now ε) (pgG now ε) (ni++ks.flatMap (·.es)++ji):=by
     obtain⟨z,GN,cs',q1,q2,q3,q4⟩:=aax nP jL fG eA;have:=hx.lam _ q2;exact⟨z,M,L,cs',GN,gI,jd.perm (q3.symm.append_right ot),by rw[<-p14];exact q1,q2,⟨aH _,by omega⟩,λ_ _=>U⟩
    have fin:∀ {E':List (Nat×V)} {h':H} {v:V},Has E' [(4,v)]->uN N B g a p q r aR root data R ot Z A L ε now (ni++ks.flatMap (·.es)++ji) (now.length+4*t.length+2*L+8) S v h'->True/\∃v,resLE Tryz.prog E' h' [.tmp 4]=some v/\uN N B g a p q r aR root data R ot Z A L ε now (ni++ks.flatMap (·.es)++ji) (now.length+4*(e::t).length+2*L+4) S v h':=λhE hr=>⟨aa,_,Aq hE.1,by rw[cq,show now.length+4*(t.length+1)+2*L+4=now.length+4*t.length+2*L+8 by omega];exact hr⟩;have p4:ks[e.2.i]?=some kk:=p4;have c9:e.2.i<ks.length:=c9;have Gm:∀j k,ks[j]?=some k->j≠e.2.i->Kd (cM Z) (pgG now ε) l (loK fX ks j) (cT eO ks j) k:=Gm;have hR:e.2.i+1<ks.length->∃kr dS,Ep Z (pgG now ε) l fX eO ks e.2.i kk kr cs dS:=λq=>by
     obtain⟨dS,g1,g2,g3⟩:=Gm (e.2.i+1) _ (aF q) (by omega);exact⟨_,dS,p4,aF q,λj k hk h1 _=>Gm j k hk h1,jL,g1,fG,g2.ne,eA,g3⟩
    have MB:∀j,e.2.i=j+1->∃kl eD,Ep Z (pgG now ε) l fX eO ks j kl kk eD cs:=λj q=>by
     obtain⟨kl,qa⟩:∃kl,ks[j]?=some kl:=⟨_,aF (by omega)⟩;obtain⟨eD,g1,g2,g3⟩:=Gm j kl qa (by omega);exact⟨kl,eD,qa,by rw[<-q];exact p4,λj2 k hk h1 h2=>Gm j2 k hk (by omega),g1,by rw[<-q];exact jL,g2.ne,fG,g3,eA⟩
    refine zk 5 U ?_;refine au.cj s U U U (cm vt) (λp9 h s => ?_);refine zk 4 U (zo U (cO (r:=tf) U (by rw[adm];rfl)) ?_);have s:=s.ae [2,2,2,2];have s:Sat h (aY x kk.pg l (pgG now ε kk.pg) cs::_):=aU.2 ⟨bv,cv,us,s⟩;have s:=s.ae [6,0,2,1,0,1,0];exact zk 2 U (WP.block (aaz (ui:=e.2.i) (xi:=i) (w:=w) hT hB hN cn hw hx hR MB c9 ih hmt s ⟨U,U,U,U,U,U,U,aa⟩ (λE' h' v dY hr=>fin dY hr) λE' h' dY he=>(WP.has dY (acC (nl:=now.length+4*t.length+2*L+8) hT hB hN hw hx eG (by omega) he ⟨U,U,U,aa⟩ λE' h' v dY hr=>fin dY hr))))
end
section
theorem xV (h:∀e∈es,e.1≠k): ng es k=es:=List.filter_eq_self.2 λe he=>by simp[h e he]
theorem aaB (h:(es.map (·.1)).Nodup)(he:es[i]?=some e)(I:e.1=k): ng es k=es.eraseIdx i:=by
 unfold ng;induction es generalizing i with
 |nil=>simp at he
 |cons a t ih =>
  simp only[gB,oO] at h;cases i with
  |zero =>
   simp only[jN,aA] at he;subst he;rw[List.filter_cons_of_neg (by simp[I]),List.eraseIdx_cons_zero];exact xV λd hd q=>h.1 (by rw[I,<-q];exact oK hd)
  |succ i =>
   simp only[oJ] at he;have fG:a.1≠k:=λq=>h.1 (by rw[q,<-I];exact oK (aJ he));rw[List.filter_cons_of_pos (by simp[fG]),List.eraseIdx_cons_succ,ih h.2 he]
theorem Xq (I:∀e∈eL,e.1<k)(h2:∀e∈eR,k<e.1): ng (eL++es++eR) k=eL++ng es k++eR:=by
 unfold ng;rw[oM,oM];congr 1
 .congr 1;exact xV λe he q=>absurd (q ▸ I e he) (l9 _)
 .exact xV λe he q=>absurd (q ▸ h2 e he) (l9 _)
theorem aaC (h:gq es k=none): ∀e∈es,e.1≠k:=λe he q=>by
 have:=List.find?_eq_none.1 (Option.map_eq_none_iff.1 h) e he;exact this (by simpa using q)
theorem kj.era (h:kj lo hi es)(i:Nat): kj lo hi (es.eraseIdx i):=⟨λe he=>h.bd e (yx he),λe he=>h.sz e (yx he),h.jZ.sublist (List.eraseIdx_sublist _ _)⟩
end
section
variable {told:cu} {p:Nat} {k:List Nat}
theorem Xr (hT:WB told)(hB:B<=2000)(hN:N<=2999)(cn:EI N B ε)(hw:NW N now)(gI:fU N R M (pgG now ε))(jd:jA N M ((root::ps)++ot))(jL:Nv (cM Z) (pgG now ε) L [] none cs es ps)(hp:bH (pgG now ε root) 204 0 L cs)(hL:L<=60)(hA:lam L cs<=A)(hX:cC X (cK kv k))(hk:1<=k.length/\k.length<=96)
 (s:Sat h (GA g a p q r data aR now ε::X::S)):
  Call ⟨Tryz.prog,told⟩ 21 [.ptr g 0,.int .i64 (root:Int),kv] h λv h'=>∃ah aN ov z,v=.aX [ov,.bool (gq es k).isSome,.int .i64 0]/\EI N B ah/\Sm N ε ah/\NW N aN/\aN.length<=now.length+6*L+5/\Sat h' (GA g a p q r data aR aN ah::CJ ov (gq es k)::X::S)/\qT N root R ot (z::Z) (A+104) L (pgG now ε) (pgG aN ah) (ng es k):=by
 have hW:=hT.w;have tg:=jd.my root (by simp);refine Call.of_wp (hW.free _ U) Tryz.func21 U U (zK 10 U (zc U (ET hW (s.ae [1]) hX) ?_));rintro v h' ⟨rfl,rfl⟩;rw[dZ hk];refine zh U (eo U U) (U) (zk 6 U (zo U (oz U (mki_of j9 U)) (zk 2 U (zc U (J4 hT (ES hW hB hw) (by omega) (by omega) hX jL hp cn U tg.2 (λm hm=>(jd.my m (by simp[hm])).2) s) ?_))));rintro v h ⟨w,x,n,lo,hi,eL,eR,pO,es',fx,c_,rfl,q1,q2,q3,q4,q5,q6,q7,q8,q9,pE,s⟩;have uK:(eT fx).length=L:=by rw[eT,jt,cf,pE]
 have mh:(eT fx++[(x,0)]).length=L+1:=by rw[aO,uK];rfl
 obtain⟨id,off,e1,e2,_⟩:=w6 (P:=Tryz.prog) (j:=L) (x:=x) (i:=0) eS lM (by rw[hU (by omega),uK,gK];rfl) s;have W8:es'.length<=512:=by have:=q3.fits;rw[cf] at this;omega
 refine zk 10 U (zC U aG (U) (zk 7 U (zo U (aD U U U (s.fS (j:=0) (n:=L+1) U (by rw[lq,mh]) (by decide) eS)) ?_)));refine zo U (aq (r:=.int .i64 (L:Int)) U U (by rw[show((L:Nat):Int)=((L+1:Nat):Int)-1 by omega];exact dV ak)) ?_;refine zo U (bM (r:=.ptr id off) U U e1) (zf U (jx _ _) (zl U (e2 _ fD) (zk 6 U (zc U (AP hT hX q2 W8 (s.ae [1,3])) ?_))));rintro v h ⟨i,rfl,hl,s⟩;obtain⟨Jt,Ml⟩:=q1.side q7;have nL:gq es k=gq es' k:=by rw[<-q8];exact EX Jt Ml
 have qx:ng es k=eL++ng es' k++eR:=by rw[<-q8];exact Xq Jt Ml
 have gY:pgG now c_=pgG now ε:=gN q6;refine zk 10 U ?_;cases hq:sameE es' k i with
 |false =>
  have ho:=hl.none q2 hq;refine zt U (eo U U) (U) (zk 8 U (WP.ret ⟨aa,_,U,?_⟩));have s:=((s.ae [4,1]).del 4 |>.del 3 |>.del 2).gJ (φ:=V.aZ=.aZ) U;have s:Sat h (CJ .aZ none::_):=s;have s:=s.ae [1];refine⟨c_,now,.aZ,0,?_,q5,q6,hw,by omega,?_,M,L,cs,ps,by rw[gY];exact gI,jd,by rw[gY,qx,xV (aaC ho),q8];exact jL.mono λ_ _ h=>h.more,by rw[gY];exact hp,⟨aH _,by omega⟩,λ_ _=>by rw[gY]⟩
  .rw[nL,ho];rfl
  .rw[nL,ho];exact s
 |true =>
  obtain⟨e,he,xM⟩:=EY hq;have ho:=Il q2.nodup he xM;obtain⟨c1,c2,c3⟩:=we q2 he;have fH:=(List.getElem?_eq_some_iff.1 he).1;refine zh U (eo U U) (U) (zk 7 U (zc U (DR hW c1 c2 c3 s) ?_));rintro Jo h s;rw[DT] at s;refine zc U (si hW s (bp _ _) (by have:=(q2.sz e (aJ he)).2.2;omega)) ?_;intro ov h s;have s:=(s.del 1).ae [1];obtain⟨bv,cv,us,s⟩:=aU.1 s;have oo:=ko (s.ae [3]);rw[cf] at oo;have s:=s.ae [1];refine zk 6 U (zY s 1 nT bS U (zm U (zc U (Mv hW (i:=i) s (bp _ _) q3 (by rw[cf];exact fH) (λc hc=>by obtain⟨e,_,rfl⟩:=List.mem_map.1 hc;simp[eB])) ?_)));rintro v h ⟨u,b',rfl,uL,s⟩;have s:=s.ae [9,0,1];refine zk 10 U (zC U aG (U) ?_);have s:=(s.ae [1]).ff.ae [1];have oD:=jd.perm (q9.symm.append_right ot);have qu:=oD.my n (by simp);refine zk 9 U (zY s 2 iA bP U (zm U (zc U (wZ hW hB q5 hw qu.2 s (bp _ _) uL.good) ?_)));rintro v0 h ⟨rC,rfl,w1,w2,w3,s⟩;have j5:∀q:Int,pgG (cD (n:Int) b' now) rC q=if (n:Int)=q then b' else pgG now ε q:=λq=>by rw[eY,gN w2,gY]
  have oI:=gz (i:=(n:Int)) (b:=b') (now:=now);generalize cD (n:Int) b' now=I at s j5 w3 oI;refine zk 5 U (zC U aG (U) ?_);have s:=s.ae [4];refine zk 10 U (zY s 3 cP gx U (zc U (mY hW s (cU _ _ _)) ?_));intro cl h s;have s:=Pe i (s.ae [6]);have s:=s.ae [1];refine zk 2 U (zo U (aq (r:=.int .i64 ((i+1:Nat):Int)) U U (by rw[show((i+1:Nat):Int)=(i:Int)+1 by omega];exact aL ak)) ?_);refine zc U (Pd hW s (by omega) (by omega)) ?_;intro dl h s;have xN:=(s.aC (k:=4) U (bp _ _)).cells;have GV:=ku (s.jo (j:=0) U (cU _ _ _));refine zn U (zf U (nT _ _) (zS U (s.kC (k:=5) U dP U (by decide) xN.1 xN.2) ?_));intro h s;refine zn U (zf U (cP _ _) (zS U (s.kC (k:=5) U VC U (by decide) GV.1 GV.2.1) ?_));intro h s;have XU:(es'.map eB).eraseIdx i=(es'.eraseIdx i).map eB:=by rw[ny,ny,rJ,rL,tH]
  rw[XU] at s uL;have s:=s.ae [5,4,0,0];have hb4:pgG I rC n=b':=by rw[j5,ay U]
  have s:Sat h (aY x n 0 b' ((es'.eraseIdx i).map eB)::_):=aU.2 ⟨u,dl,_,s⟩;rw[<-hb4] at s uL;have fB:=oD.nd;rw[dN,mJ] at fB;have yq:=fB.2.1;rw[fJ,oO] at yq;have YZ:∀m:Nat,m≠n->pgG I rC m=pgG now ε m:=λm hm=>by rw[j5,ai (by omega)]
  have xT:∀m:Nat,m∈pO->pgG I rC m=pgG now ε m:=λm hm=>YZ m λe=>fB.2.2 m hm n (by simp) e;have uM:∀m:Nat,m∈ot->pgG I rC m=pgG now ε m:=λm hm=>YZ m λe=>yq.1 (by simpa using e ▸ hm);have s:=Q5 (by rw[aO];exact Nat.le_add_left _ _) (s.ae [6]);have s:=((s.ae [3,0,0,4]).del 5).del 4;rw[<-um (P':=pgG I rC) (fx:=fx) λe' sA=>xT e'.2.pg (q1.YK e'.2 (oK sA))] at s;have hmd:Xj L root (pgG I rC) (A+104) ((es'.eraseIdx i).map eB) fx:=by
   cases fx with
   |nil =>
    have pE:L=0:=pE.symm;subst pE;unfold lam at hA;rw[ay U] at hA;refine⟨?_,λq=>by omega⟩;unfold E4;rw[ay U];omega
   |cons e t =>
    intro d hd;rcases q1.rt with⟨q,_⟩|⟨_,hr⟩
    .cases q
    .rw[xT root hr] at hd;rw[hd.uniq hp];omega
  refine zk 6 U (zc U (aaA hW hB (by omega) (fx.length+1) fx 0 x n 0 lo hi eL eR pO _ (es'.eraseIdx i) [] w rC I M h _ (tC _) w1 w3 (gI.frame (YZ 0 (by omega)) (YZ 1 (by omega))) oD (q1.frame xT) (.inl ⟨U,q2.era i,U⟩) uL (by omega) hL hmd s) ?_);rintro v0 h ⟨Mi,CH,z,rfl,c1,c2,c3,c4,s,c5⟩;refine zk 5 U (zC U aG (U) (zk 10 U (WP.ret ⟨aa,_,U,?_⟩)));refine⟨Mi,CH,ov,z,?_,c1,q6.trans (w2.trans c2),c3,by omega,?_,?_⟩
  .rw[nL,ho];rfl
  .rw[nL,ho];exact s
  .rw[qx,aaB q2.nodup he xM];exact c5.base uM
end
structure WS (told:cu): Prop where
 w:W told
 fmt:told 32=some (qR Tryz.prog 32 (L0 32))
section
variable {told:cu} {p:Nat} {v x uv:V} {Rt:List V} {w7:List Bool} {l L:List Nat} {A:bA->aE}
theorem Rf (hT:WS told){m:Nat}(hB:B<=800)(I:EI N B ε)(hN:4<=N)(Gx:N<=2999)(hz:(pgA ε 0).length=512)(hg:cI (pgA ε 0)=false)(hd:vi K m ε)(hf:K+1068<=m)(s:Sat h (SA a p q r .cg data aR ε::S)):
  Call ⟨Tryz.prog,told⟩ 32 [.ptr a 0] h λv h'=>v=.int .i64 0/\∃ah,EI N (B+2) ah/\fU N (List.replicate 64 0) Bb (pgA ah)/\vi (K+1068) m ah/\Sat h' (SA a p q r .cg data aR ah::S)/\GDn N B 1 ε ah :=
 Call.defer hT.fmt LN U (T6 hB I hN Gx hz hg hd hf s)
theorem Ir (hT:WS told){m f:Nat}(hN:4<=n)(Gx:n<=2999)(hm:m<=16777216)(hf:1068<=m)(h4:1<=f)(h5:f<=1024)(s:Sat h S):
  Call ⟨Tryz.prog,told⟩ 42 [.int .i64 (n:Int),.int .i64 (m:Int),.int .i64 (f:Int)] h λv h'=>∃p a q r ε,v=.ptr a 0/\EI n 3 ε/\fU n (List.replicate 64 0) Bb (pgA ε)/\vi 1068 m ε/\Sat h' (SA a p q r .cg [] 0 ε::S):=by
 have I:cI (List.replicate 512 0)=false:=by decide +kernel
 refine Call.of_wp (hT.w.free _ U) Tryz.func42 U U (zK 9 U (zc U (QF (n:=n) (m:=m) (f:=f) hT.w s (by omega) (by omega) hm h4 h5) ?_));rintro v h ⟨p,a,q,r,rfl,s⟩;have s:Sat h (SA a p q r .cg [] 0 (fresh n m f)::S):=cY.2 s;refine zk 10 U (zC U (AF zG) (U) (zk 2 U (zc U (Rf (K:=0) (m:=m) hT (by decide) (EI.fresh (by omega) hm h4 h5) hN Gx (by rw[Jp];exact gA) (by rw[Jp];exact I) ⟨aH _,U⟩ (by omega) s) ?_)));rintro v h ⟨rfl,ah,va,hp,hd,s,_⟩;rw[eW] at hd;exact zC U aG (U) (zk 9 U (WP.ret ⟨aa,_,U,p,a,q,r,ah,U,va,hp,hd,s⟩))
theorem CN (I:W told)(s:Sat h (SA a p q r .cg data aR ε::S)): Call ⟨Tryz.prog,told⟩ 13 [.ptr a 0] h λv h'=>∃g,v=.ptr g 0/\Sat h' (GA g a p q r data aR [] ε::S):=by
 have s:=cY.1 s;have s:Sat h (gH a p q r .cg data aR::gG r p q ε.1::dH q p ε.2.1::bZ p ε.2.2::S):=s;refine Call.of_wp (I.free _ U) Tryz.func13 U U (zK 7 U (zc U (I_ I s) ?_));rintro v h ⟨g,rfl,s⟩;exact zk 10 U (zC U aG (U) (zk 8 U (WP.ret ⟨aa,_,U,g,U,cY.2 s⟩)))
end
section
variable {bj tx p:Nat} {ah:bA} {e:Int} {cl:Bool}
theorem DnR.or7 (hr:DnR ε now kd tx 0 0 [] 0 bj e cl ah)(I:EI N B ε)(hB:B<=4000)(hw:NW N now)(hN:N<=2999)(hl:now.length<=2000)(h1:1<=kd)(h2:kd<=7)(Gg:tx<16384):
  (cl=false/\e=7)\/(cl=true/\e=0/\EI N (B+2) ah/\∀m,pgA ah m=match lookL m now with|some b=>eV b bj|none=>pgA ε m):=by
 have xq:∀n∈gp now,0<=n/\n<N:=λn hq=>hw.keys n (r_.1 hq);have Q7:=I.done hB hw (by omega) (by omega) hr;rcases Q7 with⟨fN,he,_⟩|⟨fN,he,k1,k2⟩
 .refine .inl ⟨fN,?_⟩;rcases he with he|he
  .exact he
  .exfalso;cases hr with
   |arg hh=>omega
   |dead _ _ _ hd=>rw[I.ec.dk.alive] at hd;cases hd
   |sQ e c ah _ _ _ _ hc Cj=>exact absurd (hc.ec I.ec I.ok xq).2.2 Cj
   |app c iJ _ _ _ _ hc Cj =>
    have K5:=E0 (kd:=kd) hc hw hl (by omega) Gg;grind[mg]
   |put c iJ e kI _ _ _ _ hc ha hp=>cases fN
 .exact .inr ⟨fN,he,k1,k2⟩
theorem bH.done {i:Int}{k:Nat}(hd:∀m,pgA ah m=match lookL m now with|.some b=>eV b bj|.none=>pgA ε m)(I:bH (pgG now ε i) k link extra cs): bH (pgA ah i) k link extra cs:=by
 rw[hd];unfold pgG at I;cases hq:lookL i now with
 |none=>rw[hq] at I;exact I
 |some b =>
  rw[hq] at I;obtain⟨k1,k2,_⟩:=Cq (n:=bj) I.len;exact I.tail k2 k1
theorem Nv.Ih : ∀ {l:Nat} {lo:Ky} {hi:Option Ky} {cs:List (List Nat)} {es:List En} {ps:List Nat},Nv F P l lo hi cs es ps->(∀m∈ps,∀k x e cs,bH (P m) k x e cs->bH (P' m) k x e cs)->Nv F P' l lo hi cs es ps:=by
 intro l;induction l with
 |zero=>intro lo hi cs es ps h _;exact h
 |succ l ih =>
  intro lo hi cs es ps ⟨ks,h1,h2,h3,h4,h5⟩ hp;subst h4;refine⟨ks,h1,h2,h3,U,λi k hk => ?_⟩;obtain⟨cs',a1,a2,a3⟩:=h5 i k hk;have hm:=aJ hk;have hq:∀m∈k.pg::k.ps,∀k x e cs,bH (P m) k x e cs->bH (P' m) k x e cs:=λm I=>hp m (List.mem_flatMap.2 ⟨k,hm,I⟩);exact⟨cs',ih a1 λm I=>hq m (bk _ I),a2,hq k.pg a_ _ _ _ _ a3⟩
def qc (N root:Nat)(R ot Z:List Nat)(A:Nat)(P:Int->List Nat)(es:List En): Prop:=qT N root R ot Z A A P P es
theorem MC : 374*L<=lam L cs/\486<=lam L cs+486*L:=by
 unfold lam;split<;>omega
theorem qT.o (h:qT N root R ot Z A Lx P0 P es): qc N root R ot Z A P es:=by
 obtain⟨M,L,cs,ps,I,h2,h3,h4,h5,_⟩:=h;have:=(MC (L:=L) (cs:=cs)).1;exact⟨M,L,cs,ps,I,h2,h3,h4,⟨by omega,h5.2⟩,λ_ _=>U⟩
section
theorem qc.done (hw:NW N now)(I:∀m,pgA ah m=match lookL m now with|some b=>eV b bj|none=>pgA ε m)(h:qc N root R ot Z A (pgG now ε) es): qc N root R ot Z A (pgA ah) es:=by
 obtain⟨M,L,cs,ps,h1,h2,h3,h4,h5,_⟩:=h;exact⟨M,L,cs,ps,h1.done hw I,h2,h3.Ih λm _ k x e cs hp=>hp.done I,h4.done I,h5,λ_ _=>U⟩
theorem qc.fresh (hs:fU N R M P)(I:jA N M (root::ot))(hp:bH (P root) 204 0 0 []): qc N root R ot [] 486 P [] :=
 ⟨M,0,[],[],hs,I,⟨U,⟨by simp,by simp,List.Pairwise.nil⟩,U⟩,hp,⟨by decide,by decide⟩,λ_ _=>U⟩
theorem qc.ok (h:qc N root R ot Z A P es): kj [] none es:=by
 obtain⟨M,L,cs,ps,h1,h2,I,h4,h5,_⟩:=h;exact I.ok
theorem qc.rt (h:qc N root R ot Z A P es): root<N:=by
 obtain⟨M,L,cs,ps,h1,I,h3,h4,h5,_⟩:=h;exact(I.my root (fc _ a_)).2
theorem qc.bI {I:List Nat}(h2:jA N I ((root::ps)++ot))(h3:Nv (cM Z) P L [] none cs es ps): ps.length<=2*es.length+Z.length:=by
 exact(h3.bI (List.nodup_cons.1 (List.nodup_append.1 h2.nd).1).2).1
end
end
structure WT (told:cu): Prop extends WI told where
 fmt:told 32=some (qR Tryz.prog 32 (L0 32))
theorem WT.ws {told:cu}(h:WT told): WS told:=⟨h.w,h.fmt⟩
section
variable {told:cu} {p:Nat}
noncomputable def grL : Code:=dm [1,1,1,1,1,1,0,1,0,0] ((Tryz.f12.body).getD .skip)
theorem NC (hT:W told){m0:Nat}{sv:V}(hN:nt+4<=N)(hnt:nt<=20)(hB:B<=2000): ∀(j i:Nat) (rs:List Nat) (M:List Nat) (lv:V) (ε:bA) (now:List (Int×List Nat)) (h:H) (E:List (Nat×V)) (Q:Ex->List (Nat×V)->H->Prop),i+j=nt->rs.length=i->EI N B ε->NW N now->now.length<=3*i->fU N R M (pgG now ε)->jA N M rs->(∀z∈rs,bH (pgG now ε (z:Nat)) 204 0 0 [])->vi K m0 ε ->
  Sat h (.arr 1 lv (cJ rs)::GA g a p q r data aR now ε::S)->Has E [(1,.int .i64 (nt:Int)),(7,sv),(8,.ptr g 0),(9,lv),(10,.int .i64 (i:Int))] ->
  (∀rs M lv ε now E' h',rs.length=nt->EI N B ε->NW N now->now.length<=3*nt->fU N R M (pgG now ε)->jA N M rs->(∀z∈rs,bH (pgG now ε (z:Nat)) 204 0 0 [])->vi K m0 ε->Has E' [(7,sv),(8,.ptr g 0),(9,lv)]->Sat h' (.arr 1 lv (cJ rs)::GA g a p q r data aR now ε::S)->Q (.exit 0) E' h')->WP ⟨Tryz.prog,told⟩ 49 (.loop grL) E h Q:=by
 intro j;induction j with
 |zero =>
  intro i rs M lv ε now h E Q hi Ca cn hw oI gI I eA hdv s hE hq;obtain rfl:i=nt:=hi;refine WP.loop (WP.has hE (zK 5 U (zC U aK (by simp) ?_)));exact zk 2 U (WP.exit (hq rs M lv ε now _ _ Ca cn hw oI gI I eA hdv ⟨U,U,U,aa⟩ s))
 |succ j ih =>
  intro i rs M lv ε now h E Q hi Ca cn hw oI gI I eA hdv s hE hq;refine WP.loop (WP.has hE (zK 5 U (zB U aK (by simp;omega) ?_)));refine zk 4 U (WP.block (zK 3 U (zc U (WU hT hB cn hw gI I (s.ae [1])) ?_)));rintro v h ⟨ah,aN,h1,h2,h3,h4,s,(⟨_,_,hn⟩|⟨z,M',rfl,z2,hzN,afj,afk,afl,hpz,E_⟩)⟩
  .omega
  have s:=s.ae [1];dsimp only[aM,bringA,getA] at s;obtain⟨iv,h1',w,IJ,e3,e4,s2⟩:=E3 (k:=z) s (by omega);refine zk 10 U (zC U aG (U) (zk 6 U (au.any U U U (OpR.of (R:=λv h'=>v=iv/\h'=h1') (je U e3) ⟨U,U⟩) ?_)));rintro iv hA ⟨rfl,rfl⟩;refine au.any U U U (OpR.of (R:=λv h'=>v=w/\h'=IJ) (iY U U e4) ⟨U,U⟩) ?_;rintro w hB' ⟨rfl,rfl⟩;refine za U (zv (zr U (zm U (zb U (by exact aL ak) ?_))));refine za U (zv ?_);refine ih (i+1) (rs++[z]) M' w ah aN _ _ Q (by omega) (by rw[aO,Ca];rfl) h1 h3 (by omega) afk (afl.perm (List.perm_append_singleton _ _).symm) (λy hy => ?_) (hdv.sm h2) s2 ⟨U,U,U,U,U,aa⟩ hq;rcases List.mem_append.1 hy with hy|hy
  .have h2y:=(I.my y hy).1;rw[E_ y (by omega) (by have:y≠z:=λq=>afj (q ▸ hy);omega)];exact eA y hy
  .rw[List.mem_singleton.1 hy];exact hpz.f
end
section
variable {told:cu}
theorem Jx (I:WT told)(hN:nt+4<=N)(Gx:N<=2999)(hnt:nt<=20)(s:Sat h S):
  Call ⟨Tryz.prog,told⟩ 12 [.int .i64 (N:Int),.int .i64 (nt:Int)] h λv h'=>∃p a q r lv rs M ε,v=.aX [.ptr a 0,lv,.bool true]/\rs.length=nt/\EI N 5 ε/\fU N (List.replicate 64 0) M (pgA ε)/\jA N M rs/\(∀z∈rs,bH (pgA ε (z:Nat)) 204 0 0 [])/\(∃K,K<=1048576/\vi K 1048576 ε) /\
   Sat h' (.arr 1 lv (cJ rs)::SA a p q r .cg [] 0 ε::S):=by
 refine Call.of_wp (I.w.free _ U) Tryz.func12 U U (zK 9 U (zc U (Ir (n:=N) (m:=1048576) (f:=32) I.ws (by omega) Gx (by decide) (by decide) (by decide) (by decide) s) ?_));rintro v h ⟨p,a,q,r,ε,rfl,cn,hp,hd,s⟩;refine zk 6 U (zC U (AF zG) (U) (zk 6 U (zc U (CN I.w s) ?_)));rintro v h ⟨g,rfl,s⟩;refine zk 6 U (zC U (AF j9) (U) ?_);have s:=s.mq (k:=1);generalize hR:List.replicate 64 0=R at hp ⊢;refine zk 12 U (WP.block ?_);have ht0:jA N Bb []:=⟨vO,by simp,λj _=>by rw[T4];simp⟩;refine NC I.w hN hnt (by decide) nt 0 [] Bb .aZ ε [] _ _ _ (by omega) U cn (NW.nil N) (by simp) hp ht0 (by simp) hd s ⟨U,U,U,U,U,aa⟩ (λrs M lv c_ now E' h' k1 k2 k3 k4 k5 k6 k7 A9 hE s' => ?_);have s:=s'.ae [1];refine WP.has hE (zK 3 U (zo U (cO U (AT (kd:=1))) (zc U (Jr (kd:=1) (L:=3*nt) I.w (by decide) k2 k3 k4 Gx (by omega) (by decide) (by decide) A9 (by omega) s) ?_)));rintro v h ⟨bj,iJ,rfl,q1,q2,q3,s,_⟩;refine zk 11 U (zB U dK (by decide) ?_);exact zk 4 U (WP.ret ⟨aa,_,U,p,a,q,r,lv,rs,M,iJ,U,k1,q1,k5.done k3 q2,k6,λz hz=>(k7 z hz).done q2,⟨_,by omega,q3⟩,(s.del 0).ae [1,0]⟩)
end
section
variable {told:cu} {p:Nat} {b:Nat}
theorem lW {l:List Nat}(h:l[i]?=some n): (cJ l)[i]?=some (.int .i64 (n:Int)):=by rw[cJ,kP,h];rfl
theorem Fa (s:Sat h S)(hb:b<256): ∃v I h2,buildSliceV Tryz.prog h 29 1 [(0,.int .u8 (b:Int))]=some (v,I)/\convV Tryz.prog I 29 29 v=none/\convB Tryz.prog I 29 29 v=some (v,h2)/\Sat h2 (.b8 v [b]::S):=by
 have s1:=s.new (.cells 1 [.int .u8 (b:Int)] false);have hg:=s1.row (k:=0) U;refine⟨_,_,(h.new (.cells 1 [.int .u8 (b:Int)] false)).put h.next (some (.cells 1 (ofBytes [b]) true)),W3 (P:=Tryz.prog) (u:=.int .u8 (b:Int)) aP zt5 X9 U U U,?_,?_,?_⟩
 .simp only[convV,aP]
 .simp only[convB,aP,Tryz.underlying5,hg];rfl
 .have s2:Sat _ (pt h.next (.cells 1 (ofBytes [b]) true)::S):=s1.put (k:=0) U
  exact s2.freeze.dM λm r hm=>⟨by simpa using hb,.inr ⟨h.next,0,.exact 1,1,_,true,U,hm,U,aH _,U,aH _⟩⟩
theorem Xs (hT:WI told)(hB:B<=2000)(hN:N<=2999)(I:EI N B ε)(hw:NW N now){val:Ky}(ht:qc N root R ot Z A (pgG now ε) es)(hA:A<=22000)(hX:cC X (cK kv k))(hY:cC Y (cK vv val))(hk:1<=k.length/\k.length<=96)(LO:val.length<=128)
 (s:Sat h (GA g a p q r data aR now ε::X::Y::S)):
  Call ⟨Tryz.prog,told⟩ 14 [.ptr g 0,.int .i64 (root:Int),kv,vv] h λv h'=>∃ah aN,EI N B ah/\Sm N ε ah/\NW N aN/\aN.length<=now.length+400/\((v=.aX [.aZ,.bool false,.int .i64 7]/\N<=2*es.length+Z.length+ot.length+A/374+4/\Sat h' (GA g a p q r data aR aN ah::X::Y::S)) \/
   (∃ov,v=.aX [ov,.bool (gq es k).isSome,.int .i64 0]/\Sat h' (GA g a p q r data aR aN ah::CJ ov (gq es k)::X::Y::S)/\qc N root R ot Z (A+104) (pgG aN ah) (uY es k val))):=by
 obtain⟨M,L,cs,ps,h1,h2,h3,h4,h5,_⟩:=ht;have hpn:=qc.bI h2 h3;have hL:=(MC (L:=L) (cs:=cs)).1;refine(O_ (L:=L) (cs:=cs) (ps:=ps) hT hB hN I hw h1 h2 h3 h4 (by omega) h5.2 hX hY hk LO s).mono ?_;rintro v h ⟨ah,aN,k1,k2,k3,k4,(⟨e1,e2,e3⟩|⟨ov,e1,e2,e3⟩)⟩
 .refine⟨ah,aN,k1,k2,k3,by omega,.inl ⟨e1,?_,e3⟩⟩;simp only[aO,aW] at e2;omega
 .exact⟨ah,aN,k1,k2,k3,by omega,.inr ⟨ov,e1,e2,e3.o⟩⟩
theorem Xt (hT:WB told){I:bA->aE}(hR:mE told N B rv I pg)(hN:N<=2999)(cn:EI N B ε)(ht:qc N root R ot Z A (pg ε) es)(hA:A<=22000)(hX:cC X (cK kv k))(hk:1<=k.length/\k.length<=96)
 (s:Sat h (I ε::X::S)):
  Call ⟨Tryz.prog,told⟩ 17 [rv,.int .i64 (root:Int),kv] h λv h'=>∃ah,EI N B ah/\Sm N ε ah/\match gq es k with
   |none=>v=.aX [.aZ,.bool false,.int .i64 0]/\Sat h' (I ah::X::S)
   |some val=>∃bv,v=.aX [bv,.bool true,.int .i64 0]/\Sat h' (bf bv val::I ah::X::S):=by
 have hr:=ht.rt;obtain⟨M,L,cs,ps,h1,h2,h3,h4,h5,_⟩:=ht;have hL:=(MC (L:=L) (cs:=cs)).1;exact aan hT hR (by omega) (by omega) hX hk h3 h4 cn U hr (λm hm=>(h2.my m (fc _ (bk _ hm))).2) s
theorem Rg (I:WT told)(s:Sat h S): Call ⟨Tryz.prog,told⟩ 11 [] h λv h'=>v=.bool true/\Sat h' S:=by
 refine Call.of_wp (I.w.free _ U) Tryz.func11 U U (zK 6 U (zc U (Jx (N:=16) (nt:=1) I (by decide) (by decide) (by decide) s) ?_));rintro v h ⟨p,a,q,r,lw,rs,M,ε,rfl,Ca,cn,gI,sk,eA,_,s⟩;obtain⟨root,rfl⟩:∃z,rs=[z]:=List.length_eq_one_iff.1 Ca;generalize List.replicate 64 0=R at gI;have ht:qc 16 root R [] [] 486 (pgA ε) []:=qc.fresh gI sk (eA root a_);have s:=s.ae [1];refine zk 12 U (zo U (eo U U) (zk 6 U (zc U (CN I.w s) ?_)));rintro v h ⟨g,rfl,s⟩;have s:=s.ae [1];obtain⟨id,off,e1,e2⟩:=kX (P:=Tryz.prog) s (k:=0) (i:=0) U (lW (n:=root) U) dF lQ;refine zk 6 U (zC U (AF j9) (U) (zk 7 U (zo U (bM (r:=.ptr id off) U U e1) (zl U (e2 _ bP) ?_))));obtain⟨kv,h1,h2,e3,e4,e5,s2⟩:=Fa (b:=98) s (by decide);refine au.any U U U (OpR.of (R:=λv h'=>v=kv/\h'=h1) (je U e3) ⟨U,U⟩) ?_;rintro kv hA ⟨rfl,rfl⟩;refine au.any U U U (OpR.of (R:=λv h'=>v=kv/\h'=h2) (v_ U e4 e5) ⟨U,U⟩) ?_;rintro kv h ⟨rfl,rfl⟩;obtain⟨vv,h1,h2,e3,e4,e5,s3⟩:=Fa (b:=49) s2 (by decide);refine au.any U U U (OpR.of (R:=λv h'=>v=vv/\h'=h1) (je U e3) ⟨U,U⟩) ?_;rintro vv hA ⟨rfl,rfl⟩;refine au.any U U U (OpR.of (R:=λv h'=>v=vv/\h'=h2) (v_ U e4 e5) ⟨U,U⟩) ?_;rintro vv h ⟨rfl,rfl⟩;have s:=s3.ae [3,1,0];refine zc U (Xs (now:=[]) (B:=5) I.toWI (by decide) (by decide) cn (NW.nil 16) ht (by decide) (bp _ _) (bp _ _) (by decide) (by decide) s) ?_;rintro v h ⟨ah,aN,k1,k2,k3,k4,(⟨_,xh,_⟩|⟨ov,rfl,s,htE⟩)⟩
 .simp at xh
 have s:=(s.del 1).ae [3];obtain⟨id,off,e1,e2⟩:=kX (P:=Tryz.prog) s (k:=0) (i:=0) U (lW (n:=root) U) dF lQ;refine zk 11 U (zo U (oz U (mki_of j9 U)) (zm U (zo U (bM (r:=.ptr id off) U U e1) (zl U (e2 _ bP) ?_))));obtain⟨kw,h1,h2,e3,e4,e5,s2⟩:=Fa (b:=98) s (by decide);refine au.any U U U (OpR.of (R:=λv h'=>v=kw/\h'=h1) (je U e3) ⟨U,U⟩) ?_;rintro kw hA ⟨rfl,rfl⟩;refine au.any U U U (OpR.of (R:=λv h'=>v=kw/\h'=h2) (v_ U e4 e5) ⟨U,U⟩) ?_;rintro kw h ⟨rfl,rfl⟩;have s:=s2.ae [2,0];refine zc U (Xt I.toWB (ES I.w (by decide) k3) (by decide) k1 htE (by decide) (bp _ _) (by decide) s) ?_;rintro v h ⟨iJ,q1,q2,q3⟩;have hg:gq (uY [] [98] [49]) [98]=some [49]:=by decide
 rw[hg] at q3;obtain⟨bv,rfl,s⟩:=q3;exact zk 11 U (zB U dK (U) (zk 2 U (zo U (eo U U) (zk 3 U (zB U dK (U) (zk 6 U (zo U (cS U (Co (s.aC (k:=0) U (bh _ _)))) (zB U P7 (U) (zk 3 U (WP.ret ⟨aa,_,U,U,s.drop.drop.drop.drop.drop.drop⟩))))))))))
end
structure uO where
 act:Int
 tree:Int
 k:List Nat
 v:List Nat
variable {D:uO}
section
variable {told:cu} {p p7:Nat} {bad:Bool}
theorem Xu {v:Ky}{d:En}(h:d∈uY es k v): d∈es\/d=(k,v):=by
 unfold uY at h;rcases List.mem_append.1 h with h|h
 .exact .inl (List.mem_filter.1 h).1
 .rcases List.mem_cons.1 h with h|h
  .exact .inr h
  .exact .inl (List.mem_filter.1 h).1
end
def sn : List V->List uO->aE
 |[],[]=>.pu True
 |a::b::c::d::l,D::m=>.an (.an (.pu (a=.int .i64 D.act/\b=.int .i64 D.tree)) (.an (.b8 c D.k) (.b8 d D.v))) (sn l m)
 |_,_=>.pu False
theorem aI.sn : ∀(m:List uO) (l:List V),aI (Am.sn l m):=by
 intro m;induction m with
 |nil=>intro l;cases l with
  |nil=>exact aI.pu _
  |cons a t=>rcases t with _|⟨b,_|⟨c,_|⟨d,t⟩⟩⟩<;>exact aI.pu _
 |cons D m I =>
  intro l;rcases l with _|⟨a,_|⟨b,_|⟨c,_|⟨d,l⟩⟩⟩⟩
  .exact aI.pu _
  .exact aI.pu _
  .exact aI.pu _
  .exact aI.pu _
  .exact aI.an (aI.an (aI.pu _) (aI.an (aI.b8 _ _) (aI.b8 _ _))) (I l)
theorem Pj {a b:PM}: ∀ {m:List uO} {l:List V},(sn l m).p a b->l.length=m.length*4:=by
 intro m;induction m with
 |nil =>
  intro l h;rcases l with _|⟨a,_|⟨b,_|⟨c,_|⟨d,l⟩⟩⟩⟩
  .rfl
  all_goals exact h.elim
 |cons D m I =>
  intro l h;rcases l with _|⟨a,_|⟨b,_|⟨c,_|⟨d,l⟩⟩⟩⟩
  .exact h.elim
  .exact h.elim
  .exact h.elim
  .exact h.elim
  .have:=I h.2;simp only[aW];omega
theorem Pk {a b:PM}: ∀ {m:List uO} {l:List V} {i:Nat} {D:uO},(sn l m).p a b->m[i]?=some D->∃kv vv,(l.drop (i*4)).take 4=[.int .i64 D.act,.int .i64 D.tree,kv,vv]/\(aE.b8 kv D.k).p a b/\(aE.b8 vv D.v).p a b:=by
 intro m;induction m with
 |nil=>intro l i D h hi;simp at hi
 |cons D' m I =>
  intro l i D h hi;rcases l with _|⟨x,_|⟨y,_|⟨c,_|⟨d,l⟩⟩⟩⟩
  .exact h.elim
  .exact h.elim
  .exact h.elim
  .exact h.elim
  .cases i with
   |zero =>
    simp only[jN,aA] at hi;subst hi;obtain⟨⟨⟨rfl,rfl⟩,h2,h3⟩,_⟩:=h;exact⟨c,d,U,h2,h3⟩
   |succ i =>
    obtain⟨kv,vv,e,k⟩:=I h.2 (by simpa using hi);refine⟨kv,vv,?_,k⟩;rw[show(i+1)*4=4+i*4 by omega,<-vN];exact e
theorem acD {cs:List V}{L:List uO}(s:Sat h (sn cs L::S))(hi:L[i]?=some D): ∃kv vv,(cs.drop (i*4)).take 4=[.int .i64 D.act,.int .i64 D.tree,kv,vv]/\Sat h (.b8 kv D.k::.b8 vv D.v::sn cs L::S):=by
 obtain⟨m,r,_,_,h3⟩:=s.at (k:=0) U;obtain⟨kv,vv,e,_⟩:=Pk h3 hi;refine⟨kv,vv,e,?_⟩;have key:∀m r,(sn cs L).p m r->(aE.b8 kv D.k).p m r/\(aE.b8 vv D.v).p m r:=λm r hm=>by
  obtain⟨kv',vv',I,k⟩:=Pk hm hi;rw[e] at I;injection I with _ I;injection I with _ I;injection I with e1 I;injection I with e2 _;rw[e1,e2];exact k
 have s1:=(s.dup (aI.sn _ _)).dM (B:=.b8 vv D.v) λm r hm=>(key m r hm).2;have s2:=((s1.ae [1]).dup (aI.sn _ _)).dM (B:=.b8 kv D.k) λm r hm=>(key m r hm).1;exact s2.ae [0,1,0]
def MD (c:Ctx): Prop:=∀id,id<c.N->c.X id=true
noncomputable def Ctx.fix (c:Ctx)(w:World)(b off:Nat): Ctx:=⟨λi=>if i=c.N then(b,off) else c.ρ i,λx=>if x=b then rowSize w b else c.Z x,c.N+1,λi=>if i=c.N then true else c.X i⟩
theorem Rel.fix {c:Ctx}{w:World}(h:Rel c σ w)(hX:MD c){b:Nat}{cs:List V}{C:Array Value}{e:TypeId}(hb:w.heap[b]?=some (.cells C e fz))(hl:off+cs.length<=C.size)
 (hc:∀j v,cs[j]?=some v->C[off+j]?=some (conc c v))(o9:∀v∈cs,wf c v/\storable v=true):
  Rel (c.fix w b off) (σ.new (.cells cs.length cs true)) w/\MD (c.fix w b off)/\Ext c (c.fix w b off)/\(c.fix w b off).ρ σ.next=(b,off)/\σ.next<(c.fix w b off).N:=by
 have hold:∀i,i<c.N->(c.fix w b off).ρ i=c.ρ i:=λi hi=>by grind[Ctx.fix]
 have Ft:∀i,i<c.N->(c.fix w b off).X i=c.X i:=λi hi=>by grind[Ctx.fix]
 have nN:(c.fix w b off).ρ c.N=(b,off):=by simp[Ctx.fix]
 have hnX:(c.fix w b off).X c.N=true:=by simp[Ctx.fix]
 have hN:(c.fix w b off).N=c.N+1:=rfl;have cq:b<w.heap.size:=(Array.getElem?_eq_some_iff.1 hb).1;have I:MD (c.fix w b off):=λi hi=>by
  by_cases h1:i=c.N
  .grind
  .rw[Ft i (by omega)];exact hX i (by omega)
 have ex:Ext c (c.fix w b off):=⟨by omega,hold,λi hi=>by
  show(if (c.ρ i).1=b then rowSize w b else c.Z (c.ρ i).1)=_;split
  .rename_i he;rw[h.zz i hi,he]
  .rfl,Ft⟩
 have key:∀i o,(σ.new (.cells cs.length cs true)).tr.get i=some o->(i=c.N/\o=.cells cs.length cs true)\/(i<c.N/\σ.tr.get i=some o):=by
  intro i o hi;rw[ja,h.next] at hi
  by_cases h1:i=c.N
  .grind
  .simp[h1] at hi;exact .inr ⟨h.live i o hi,hi⟩
 refine⟨⟨by simp[H.new,h.next,hN],λi o hi => ?_,λi hi => ?_,λi hi => ?_,λi j o o' hi hj he => ?_,λi o hi => ?_,λi xb rQ hi hx => ?_,λi o hi hx => ?_⟩,I,ex,by rw[h.next];exact nN,by rw[h.next,hN];omega⟩
 .grind
 .by_cases h1:i=c.N
  .grind
  .rw[hold i (by omega)];exact h.o8 i (by omega)
 .by_cases h1:i=c.N
  .rw[h1,nN];show(if b=b then rowSize w b else c.Z b)=_;rw[ay U]
  .rw[hold i (by omega)];show(if (c.ρ i).1=b then rowSize w b else c.Z (c.ρ i).1)=_;split
   .grind
   .exact h.zz i (by omega)
 .have li:i<c.N+1:=by grind
  have lj:j<c.N+1:=by grind
  exact .inr ⟨I i (by omega),I j (by omega)⟩
 .rcases key i o hi with⟨rfl,rfl⟩|⟨a1,a2⟩
  .refine⟨U,λv hv=>⟨(dh ex v (o9 v hv).1).2,(o9 v hv).2⟩,C,e,fz,by grind,by grind,λj v hj => ?_,aa⟩<;>grind[dh]
  .exact(h.obj i o a2).later ex a1 U
 .have li:i<c.N+1:=by grind
  rw[I i (by omega)] at hx;cases hx
 .rcases key i o hi with⟨_,rfl⟩|⟨a1,a2⟩
  .simp
  .rw[Ft i a1] at hx;exact h.fx i o a2 hx
theorem ND {c c':Ctx}{w w':World}(hX:MD c)(h:dB c w c' w'): w.keptBut w' (λ_=>False)/\w.heap.size<=w'.heap.size/\∀b,b<w.heap.size->w'.heap[b]?=w.heap[b]?:=by
 have hk:∀b,b<w.heap.size->w'.heap[b]?=w.heap[b]?:=λb hb=>h.qA b hb λid I _=>hX id I;refine⟨⟨h.sys.1,h.sys.2,λi hi => ?_⟩,h.size,hk⟩;rw[hk i hi];split<;>simp_all
end Go.Proofs.YtdonpgpfplgigaaGreat.Am
namespace Go.Proofs.YtdonpgpfplgigaaGreat.Am
open Go Go.ChangeShapes
variable {X Y C:aE} {cap:Cap} {D:uO} {e:En} {ε c_:bA} {pg:bA->Int->List Nat} {Q:Ex->List (Nat×V)->H->Prop} {fx:Fx} {h h' σ:H} {d:Int} {P P' P0:Int->List Nat} {kl kr kk:fo} {lo k:Ky} {now:List (Int×List Nat)} {cs eD dS ou J:List (List Nat)} {E:List (Nat×V)} {S:List aE} {eL eR jH es gM:List En} {fs:List pz} {ks:List fo} {Z data R M ot pO b ps c lU lV qs bu bl br:List Nat} {us ds xS:List V} {A N B g a q r aR root L x n i id off l kb j kd link extra alt xu nu xl nl xr nr Lx ui xi p9 p6 K nt fuel:Nat} {fz:Nat×Nat} {F:Nat->List (List Nat)->Prop} {hi:Option Ky} {α H':Type} {t te:TypeId} {w u y z kv vv lv rv:V}
def CO (W:World)(S:List aE)(c:Ctx)(σ:H): Prop:=Rel c σ W/\MD c/\Sat σ S
theorem CO.zero (W:World): ∃c σ,CO W [] c σ:=by
 refine⟨_,_,Rel.empty W,λid h=>absurd h (vL _),⟨λid o h=>by simp[T.wj] at h,λ_=>none,λ_=>none,λ_ _ h=>(by cases h),λ_ _ h=>(by cases h),λ_=>.inl U,aa⟩⟩
theorem CO.sat {W:World}{S':List aE}{c:Ctx}(h:CO W S c σ)(hs:∀h,Sat h S->Sat h S'): CO W S' c σ:=⟨h.1,h.2.1,hs σ h.2.2⟩
def qU {α:Type}(W:World)(cs:List Value)(E:List V->α->aE)(φ:α->Prop): Prop :=
 ∀(c:Ctx) (σ:H) (S:List aE),CO W S c σ->∃(c':Ctx) (fb:H) (vs:List V) (x:α),CO W (E vs x::S) c' fb/\Ext c c'/\vs.map (conc c')=cs/\(∀v∈vs,wf c' v/\storable v=true)/\φ x
theorem qU.rows {W:World}{E:List V->α->aE}{A:List V->List α->aE}{φ:α->Prop}(hE:∀vs x,aI (E vs x))(hA:∀l m,aI (A l m))(BD:∀m r,(A [] []).p m r)(Fw:∀vs x l m a b,(E vs x).p a b->(A l m).p a b->(A (vs++l) (x::m)).p a b):
  ∀(I:List (List Value)),(∀cs∈I,qU W cs E φ)->qU W I.flatten A (λxs=>xs.length=I.length/\∀x∈xs,φ x):=by
 intro I;induction I with
 |nil =>
  intro _ c σ S h;exact⟨c,σ,[],[],h.sat λh s=>(s.gJ (φ:=True) aa).dM λm r _=>BD m r,Ext.refl c,U,λv hv=>(by cases hv),U,λx hx=>(by cases hx)⟩
 |cons cs I ih =>
  intro hc c σ S h;obtain⟨c1,σ1,l,m,h1,e1,m1,w1,n1,p1⟩:=ih (λx hx=>hc x (bk _ hx)) c σ S h;obtain⟨c2,σ2,vs,x,h2,e2,m2,w2,p2⟩:=hc cs a_ c1 σ1 _ h1;obtain⟨q1,q2⟩:=pF e2 λv hv=>(w1 v hv).1;refine⟨c2,σ2,vs++l,x::m,h2.sat λh s=>s.two (hE _ _) (hA _ _) λa b k1 k2=>Fw _ _ _ _ _ _ k1 k2,e1.trans e2,?_,λv hv => ?_,by grind,λy hy => ?_⟩<;>grind
def Uw {α:Type}(k:Nat)(A:List V->List α->aE)(vs:List V)(x:List α): aE:=.xs λv:V=>.xs λcs:List V=>.an (.pu (vs=[v])) (.an (sW k v cs) (A cs x))
theorem qU.afm {W:World}{k:Nat}{A:List V->List α->aE}{φ:List α->Prop}(I:∀m r,(A [] []).p m r)(hφ:φ []): qU W [.slice none 0 0] (Uw k A) φ:=λc σ S h =>
 ⟨c,σ,[.aZ],[],h.sat λh s=>(s.gJ (φ:=True) aa).dM λm r _=>⟨.aZ,[],U,⟨none,.inl U,U⟩,I m r⟩,Ext.refl c,by rfl,λv hv=>by rw[List.mem_singleton.1 hv];exact⟨aa,U⟩,hφ⟩
theorem qU.acE {W:World}{k:Nat}{A:List V->List α->aE}{φ:List α->Prop}{a:Addr}(I:∀m r,(A [] []).p m r)(hφ:φ []): qU W [.slice (some a) 0 0] (Uw k A) φ:=λc σ S h =>
 ⟨c,σ,[.sle a],[],h.sat λh s=>(s.gJ (φ:=True) aa).dM λm r _=>⟨.sle a,[],U,⟨none,.inr ⟨a,U⟩,U⟩,I m r⟩,Ext.refl c,by rfl,λv hv=>by rw[List.mem_singleton.1 hv];exact⟨aa,U⟩,hφ⟩
theorem qU.afn {W:World}{k b len cap:Nat}{A:List V->List α->aE}{φ:List α->Prop}{cs:List Value}{C:Array Value}{e:TypeId}(hb:W.heap[b]?=some (.cells C e fz))(hl:off+cs.length<=C.size)(hn:cs.length=len*k)(Kl:len<=cap)
 (hc:∀j v,cs[j]?=some v->C[off+j]?=some v)(hA:∀l m,aI (A l m))(ho:qU W cs A φ): qU W [.slice (some ⟨b,off,none⟩) len cap] (Uw k A) φ:=by
 intro c σ S h;obtain⟨c1,I,vs,x,h1,e1,m1,w1,p1⟩:=ho c σ S h;have hlen:vs.length=cs.length:=by grind
 obtain⟨g1,g2,g3,g4,g5⟩:=h1.1.fix h1.2.1 hb (cs:=vs) (off:=off) (by omega) (λj v hv=>hc j _ (by grind)) w1;refine⟨_,_,[.sl I.next 0 len (.exact cap)],x,⟨g1,g2,?_⟩,e1.trans g3,?_,λv hv => ?_,p1⟩
 .have s1:Sat (I.new (.cells vs.length vs true)) (.ro I.next (.cells vs.length vs true)::A vs x::S):=(h1.2.2.new _).freeze
  refine s1.two (aI.ro _ _) (hA _ _) λm r k1 k2=>⟨_,vs,U,⟨some (I.next,len,cap),k1,U,by omega⟩,k2⟩
 .simp[conc,g4]
 .rw[List.mem_singleton.1 hv];exact⟨⟨g5,Kl⟩,U⟩
def Ux (vs:List V)(l:List Nat): aE:=.xs λv:V=>.an (.pu (vs=[v])) (.b8 v l)
theorem aI.Ux (vs:List V)(l:List Nat): aI (Am.Ux vs l):=aI.xs λ_=>aI.an (aI.pu _) (aI.b8 _ _)
theorem ME {W:World}{a:Addr}{v:Value}(h:W.cell? a=some v): ∃b off,a=⟨b,off,none⟩/\∃C e fz,W.heap[b]?=some (.cells C e fz)/\C[off]?=some v:=by
 obtain⟨b,off,spot⟩:=a;have hs:spot=none:=World.cell?_spot h;grind[World.cell?]
theorem Is {β:Type}{f:α->β}{l:List α}{b:β}(h:l.map f=[b]): ∃a,l=[a]/\f a=b:=by
 simp_all
end Go.Proofs.YtdonpgpfplgigaaGreat.Am
namespace Go.Proofs.YtdonpgpfplgigaaGreat.Am
open Go Go.ChangeShapes Go.WideShapes Go.ChangeAt Go.RowKit
variable {X Y C:aE} {cap:Cap} {D:uO} {e:En} {ε c_:bA} {pg:bA->Int->List Nat} {Q:Ex->List (Nat×V)->H->Prop} {fx:Fx} {h h' σ:H} {d:Int} {P P' P0:Int->List Nat} {kl kr kk:fo} {lo k:Ky} {now:List (Int×List Nat)} {cs eD dS ou J:List (List Nat)} {E:List (Nat×V)} {S:List aE} {eL eR jH es gM:List En} {fs:List pz} {ks:List fo} {Z data R M ot pO b ps c lU lV qs bu bl br:List Nat} {us ds xS:List V} {A N B g a q r aR root L x n i id off l kb j kd link extra alt xu nu xl nl xr nr Lx ui xi p9 p6 K nt fuel:Nat} {fz:Nat×Nat} {F:Nat->List (List Nat)->Prop} {hi:Option Ky} {α H':Type} {t te:TypeId} {w u y z kv vv lv rv:V}
theorem Xv {H:Type}(d:DataW H): 1<=Rows.uptoBulk d:=by
 cases d with
 |lit l=>cases l<;>simp[Rows.uptoBulk]
 |nil=>simp[Rows.uptoBulk]
 |ptr d=>simp[Rows.uptoBulk]
 |slice elems spare=>simp[Rows.uptoBulk]
 |agg parts=>simp[Rows.uptoBulk]
 |iface t d=>simp[Rows.uptoBulk]
 |map entries=>simp[Rows.uptoBulk]
 |held h=>simp[Rows.uptoBulk]
theorem xW {H:Type}{d:DataW H}: ∀ {l:List (DataW H)},d∈l->Rows.uptoBulk d<=Rows.uptoBulkAll l:=by
 intro l;induction l<;>grind[Rows.uptoBulkAll]
theorem MF {H:Type}: ∀(l:List (DataW H)),l.length<=Rows.uptoBulkAll l:=by
 intro l;induction l<;>grind[Xv,Rows.uptoBulkAll]
theorem GY {H:Type}(a b:List (DataW H)): Rows.uptoBulk (.slice a b)=Rows.uptoBulkAll a+Rows.uptoBulkAll b+1:=by rfl
theorem Xw {H:Type}(a:List (DataW H)): Rows.uptoBulk (.agg a)=Rows.uptoBulkAll a+1:=by rfl
theorem Pm {W:World}{b o:Nat}{C:Array Value}{e:TypeId}(I:W.heap[b]?=some (.cells C e fz)): W.cell? ⟨b,o,none⟩=C[o]?:=by
 grind[World.cell?]
section
variable {enc:TypeId×Value->H'} {W:World} {cs:List Value} {x:DataW H'×List MemPlace}
theorem Pn (h:DataW.trod enc Tryz.prog W 0 (λ_=>true) true fuel 29 cs=some x)(hB:Rows.uptoBulk x.1<=B): qU W cs Ux (λl=>l.length<=B):=by
 rcases open_ints aP Tryz.underlying5 (by kernel_rfl) h with⟨rfl,rfl⟩|⟨a,len,cap,zs,rfl,_,OJ,_,hz,rfl,I,o9⟩
 .exact λc σ S h=>⟨c,σ,[.aZ],[],h.sat λh s=>s.ug.dM λm r k=>⟨.aZ,U,k⟩,Ext.refl c,by rfl,λv hv=>by rw[List.mem_singleton.1 hv];exact⟨aa,U⟩,gh _⟩
 .rw[ay U] at hz;by_cases h0:cap=0
  .have:len=0:=by omega
   subst this;subst h0;exact λc σ S h=>⟨c,σ,[.sle a],[],h.sat λh s=>(s.gJ (φ:=True) aa).dM λm r k=>⟨.sle a,U,by simp,.inl ⟨.inr ⟨a,U⟩,U⟩⟩,Ext.refl c,by rfl,λv hv=>by rw[List.mem_singleton.1 hv];exact⟨aa,U⟩,gh _⟩
  .have g0:=I 0 (by omega);obtain⟨b,off,spot⟩:=a;have hs:spot=none:=by simpa[Addr.add] using World.cell?_spot g0
   subst hs;have I:∀i,i<zs.length->W.cell? ⟨b,off+i,none⟩=some (.int .u8 (zs.getD i 0)):=λi hi=>by grind[add_plain]
   obtain⟨b',off',he,C,e,fz,hb,Uv⟩:=ME (I 0 (by omega));simp only[Addr.mk.injEq,and_true] at he;obtain⟨rfl,rfl⟩:=he;have hC:∀i,i<zs.length->C[off+i]?=some (.int .u8 (zs.getD i 0)):=λi hi=>by grind[Pm]
   have Iq:off<C.size:=by
    grind
   have hu8:∀z∈zs,0<=z/\z<256:=λz hz=>by
    have:=o9 z hz;simp only[Lit.wf,bV,ke] at this;have e1:IntKind.min .u8=0:=rfl;have e2:IntKind.max .u8=255:=rfl;omega
   have pW:((zs.take len).map Int.toNat).length=len:=by grind
   have hob:(ofBytes ((zs.take len).map Int.toNat)).length=len:=by rw[dJ,pW]
   have afo:∀y∈(zs.take len).map Int.toNat,y<256:=λy hy=>by
    grind
   intro c σ S h;have dx:off+(ofBytes ((zs.take len).map Int.toNat)).length<=C.size:=by
    by_cases IA:len=0
    .omega
    .have:=(Array.getElem?_eq_some_iff.1 (hC (len-1) (by omega))).1;omega
   have afp:∀j v,(ofBytes ((zs.take len).map Int.toNat))[j]?=some v->C[off+j]?=some (conc c v):=λj v hv=>by
    grind[ofBytes,List.getElem_mem,conc]
   obtain⟨g1,g2,g3,g4,g5⟩:=h.1.fix h.2.1 hb (off:=off) dx afp (λv hv=>by obtain⟨n,_,rfl⟩:=List.mem_map.1 hv;exact⟨aa,U⟩);refine⟨_,_,[.sl σ.next 0 len (.exact cap)],(zs.take len).map Int.toNat,⟨g1,g2,?_⟩,g3,?_,λv hv => ?_,?_⟩
   .have s1:=(h.2.2.new (.cells (ofBytes ((zs.take len).map Int.toNat)).length (ofBytes ((zs.take len).map Int.toNat)) true)).freeze;refine s1.dM λm r k=>⟨_,U,afo,.inr ⟨σ.next,0,.exact cap,_,_,true,by rw[pW],k,U,by omega,?_,?_⟩⟩<;>grind
   .simp[conc,g4]
   .rw[List.mem_singleton.1 hv];exact⟨⟨g5,OJ⟩,U⟩
   .rw[GY] at hB;have h1:=MF (lits (H:=H') .u8 (zs.take len));grind[lits]
theorem Uy {e:TypeId}{k:Nat}{E:List V->α->aE}{A:List V->List α->aE}{φ:α->Prop}(ht:Tryz.prog.underlying t=some (.slice e))(hk:Tryz.prog.cellsOf e=k)(h1:1<=k)
 (hE:∀vs x,aI (E vs x))(hA:∀l m,aI (A l m))(BD:∀m r,(A [] []).p m r)(Fw:∀vs x l m a b,(E vs x).p a b->(A l m).p a b->(A (vs++l) (x::m)).p a b)
 (wC:∀n cs (y:DataW H'×List MemPlace),DataW.trod enc Tryz.prog W 0 (λ_=>true) true n e cs=some y->Rows.uptoBulk y.1<=B->qU W cs E φ)
 (h:DataW.trod enc Tryz.prog W 0 (λ_=>true) true fuel t cs=some x)(hB:Rows.uptoBulk x.1<=B): qU W cs (Uw k A) (λxs=>xs.length<=B/\∀x∈xs,φ x):=by
 rcases DataW.trod_slice ht h with⟨rfl,rfl⟩|⟨a,len,cap,elems,rest,n,_,rfl,rfl,_,OJ,_,hlen,Xx,gI,_⟩
 .grind[qU.afm]
 .obtain⟨Ca,Y0⟩:=gI U;rw[hk] at Xx Y0;rw[GY] at hB;by_cases h0:cap=0
  .simp_all[qU.acE]
  .-- each element's cells
   have each:∀i,i<cap->∃cs,W.cells? 0 (a.add (i*k)) k=some cs:=λi hi=>by
    by_cases xw:i<len
    .have h2:=Xx i xw;rw[aF (by omega)] at h2;obtain⟨cs,h3,_⟩:=Option.bind_eq_some_iff.1 h2;exact⟨cs,h3⟩
    .have h2:=Y0 (i-len) (by omega);rw[aF (by omega),show len+(i-len)=i by omega] at h2;obtain⟨cs,h3,_⟩:=Option.bind_eq_some_iff.1 h2;exact⟨cs,h3⟩
   obtain⟨GL,afq⟩:=each 0 (by omega);obtain⟨_,IA,Uv⟩:=World.cells?_some afq;have g0:=Uv 0 (by omega);obtain⟨v0,hv0⟩:∃v,GL[0]?=some v:=⟨_,aF (by omega)⟩;rw[hv0] at g0;obtain⟨b,off,spot⟩:=a;have hs:spot=none:=by simpa[Addr.add] using World.cell?_spot g0
   subst hs;simp only[add_plain,mc,eF] at g0;obtain⟨b',off',he,C,ty,fz,hb,A1⟩:=ME g0;simp only[Addr.mk.injEq,and_true] at he;obtain⟨rfl,rfl⟩:=he;have Iq:off<C.size:=(Array.getElem?_eq_some_iff.1 A1).1
   -- the rows
   have rows:∀i,i<len->∃cs,cs.length=k/\qU W cs E φ/\∀q v,cs[q]?=some v->C[off+i*k+q]?=some v:=λi hi=>by
    have h2:=Xx i hi;rw[aF (by omega)] at h2;obtain⟨cs,h3,h4⟩:=Option.bind_eq_some_iff.1 h2;obtain⟨_,hl,hc⟩:=World.cells?_some h3;refine⟨cs,hl,wC n cs _ h4 ?_,λq v hq => ?_⟩
    .have:=xW (l:=elems.map (·.1)) (oK (C7 (l:=elems) (n:=i) (by omega)));omega
    .have hqk:q<k:=by grind
     have:=hc q hqk;rw[add_plain,add_plain,Pm hb,hq] at this;exact this
   have build:∀m,m<=len->∃I:List (List Value),I.length=m/\(∀cs∈I,qU W cs E φ)/\I.flatten.length=m*k/\∀j v,I.flatten[j]?=some v->C[off+j]?=some v:=by
    intro m;induction m with
    |zero=>simp
    |succ m ih =>
     intro hm;obtain⟨I,i1,i2,i3,i4⟩:=ih (by omega);obtain⟨cs,r1,r2,r3⟩:=rows m (by omega);refine⟨I++[cs],by simp[i1],λy hy => ?_,by simp[i3,r1,rM],λj v hj => ?_⟩
     .rcases List.mem_append.1 hy with hy|hy<;>grind[List.mem_singleton]
     .rw[List.flatten_append,List.flatten_singleton] at hj;by_cases cq:j<m*k
      .grind
      .rw[hU (by omega),i3] at hj;have:=r3 _ v hj
       rwa [show off+m*k+(j-m*k)=off+j by omega] at this
   obtain⟨I,b1,b2,b3,b4⟩:=build len (aH _);have dx:off+I.flatten.length<=C.size:=by
    by_cases IA:len*k=0
    .omega
    .obtain⟨v,hv⟩:∃v,I.flatten[len*k-1]?=some v:=⟨_,aF (by omega)⟩;have:=(Array.getElem?_eq_some_iff.1 (b4 _ v hv)).1;omega
   have main:=qU.afn (k:=k) (len:=len) (cap:=cap) hb dx b3 OJ b4 hA (qU.rows hE hA BD Fw I b2);intro c σ S h;obtain⟨c1,σ1,vs,x,q1,q2,q3,q4,q5,q6⟩:=main c σ S h;refine⟨c1,σ1,vs,x,q1,q2,q3,q4,?_,q6⟩;have:=MF (elems.map (·.1));rw[cf] at this;omega
end
end Go.Proofs.YtdonpgpfplgigaaGreat.Am
namespace Go.Proofs.YtdonpgpfplgigaaGreat.Am
open Go Go.ChangeShapes Go.WideShapes Go.ChangeAt Go.RowKit
variable {X Y C:aE} {cap:Cap} {D:uO} {e:En} {ε c_:bA} {pg:bA->Int->List Nat} {Q:Ex->List (Nat×V)->H->Prop} {fx:Fx} {h h' σ:H} {d:Int} {P P' P0:Int->List Nat} {kl kr kk:fo} {lo k:Ky} {now:List (Int×List Nat)} {cs eD dS ou J:List (List Nat)} {E:List (Nat×V)} {S:List aE} {eL eR jH es gM:List En} {fs:List pz} {ks:List fo} {Z data R M ot pO b ps c lU lV qs bu bl br:List Nat} {us ds xS:List V} {A N B g a q r aR root L x n i id off l kb j kd link extra alt xu nu xl nl xr nr Lx ui xi p9 p6 K nt fuel:Nat} {fz:Nat×Nat} {F:Nat->List (List Nat)->Prop} {hi:Option Ky} {α H':Type} {t te:TypeId} {w u y z kv vv lv rv:V}
noncomputable def Rh : List (Nat×OY):=[(116,L1),(52,GJ),(32,L0 32)]
noncomputable def Ri : Nat->Option (List V->H->Option (V×H)):=toldP Rh uk
noncomputable abbrev CW : gO:=⟨Tryz.prog,Ri⟩
theorem aaD : W Ri:=aaj λx I=>by
 simp only[Rh,gd,jQ,mM] at I;rcases I with rfl|rfl|rfl<;>exact⟨by decide,by decide,by decide⟩
theorem MG : iR CW:=WL λx I=>by
 simp only[Rh,gd,jQ,mM] at I;rcases I with rfl|rfl|rfl
 .exact⟨_,LM,U,by decide⟩
 .exact⟨_,zU,U,by decide⟩
 .exact⟨_,LN,U,by decide⟩
theorem Xy : WT Ri:=⟨⟨⟨aaD,U⟩,U⟩,U⟩
theorem iS.okW {f:FuncId}{args:List V}{v:V}(hd:iS CW f args h v h'){c:Ctx}{w:World}(I:Rel c h w)(hw:∀x∈args,wf c x): kK Tryz.prog f args c w v h':=by
 obtain⟨N,hN⟩:=hd;exact(callF_ok (C:=CW) (Du Ci MG N).1 MG hN I hw).1
end Go.Proofs.YtdonpgpfplgigaaGreat.Am
namespace Go.Proofs.YtdonpgpfplgigaaGreat.Am
open Go Go.ChangeShapes Go.WideShapes Go.ChangeAt Go.RowKit
variable {X Y C:aE} {cap:Cap} {D:uO} {e:En} {ε c_:bA} {pg:bA->Int->List Nat} {Q:Ex->List (Nat×V)->H->Prop} {fx:Fx} {h h' σ:H} {d:Int} {P P' P0:Int->List Nat} {kl kr kk:fo} {lo k:Ky} {now:List (Int×List Nat)} {cs eD dS ou J:List (List Nat)} {E:List (Nat×V)} {S:List aE} {eL eR jH es gM:List En} {fs:List pz} {ks:List fo} {Z data R M ot pO b ps c lU lV qs bu bl br:List Nat} {us ds xS:List V} {A N B g a q r aR root L x n i id off l kb j kd link extra alt xu nu xl nl xr nr Lx ui xi p9 p6 K nt fuel:Nat} {fz:Nat×Nat} {F:Nat->List (List Nat)->Prop} {hi:Option Ky} {α H':Type} {t te:TypeId} {w u y z kv vv lv rv:V}
noncomputable def Po (P:Program)(t:TypeId): Array Field:=match P.underlying t with
 |some (.struct fs)=>fs
 |_ => #[]
def It (fs:Array Field)(i:Nat): Option (TypeId×Nat):=(fs[i]?).map λf=>(f.type,f.offset)
theorem adS : Tryz.prog.underlying 31=some (.struct (Po Tryz.prog 31)):=by kernel_rfl
theorem Y1 : Tryz.prog.cellsOf 31=4:=by kernel_rfl
theorem Y2 : Tryz.prog.cellsOf 3=1:=by kernel_rfl
theorem Y3 : Tryz.prog.cellsOf 29=1:=by kernel_rfl
theorem adT : (Po Tryz.prog 31).size=4:=by kernel_rfl
theorem adU : It (Po Tryz.prog 31) 0=some (3,0):=by kernel_rfl
theorem adV : It (Po Tryz.prog 31) 1=some (3,1):=by kernel_rfl
theorem adW : It (Po Tryz.prog 31) 2=some (29,2):=by kernel_rfl
theorem adX : It (Po Tryz.prog 31) 3=some (29,3):=by kernel_rfl
theorem DY {fs:Array Field}{o:Nat}(h:It fs i=some (t,o)): ∃f,fs[i]?=some f/\f.type=t/\f.offset=o:=by
 grind[It]
theorem Uz {l:List α}(h:l.length=4): ∃a b c d,l=[a,b,c,d]:=by
 rcases l with _|⟨a,_|⟨b,_|⟨c,_|⟨d,_|⟨e,l⟩⟩⟩⟩⟩<;>simp at h;exact⟨a,b,c,d,U⟩
def UA (vs:List V)(D:uO): aE:=.xs λk:V=>.xs λv:V=>.an (.pu (vs=[.int .i64 D.act,.int .i64 D.tree,k,v])) (.an (.b8 k D.k) (.b8 v D.v))
theorem aI.UA (vs:List V)(D:uO): aI (Am.UA vs D):=aI.xs λ_=>aI.xs λ_=>aI.an (aI.pu _) (aI.an (aI.b8 _ _) (aI.b8 _ _))
section
variable {enc:TypeId×Value->H'} {W:World} {cs:List Value} {x:DataW H'×List MemPlace}
theorem aaE (h:DataW.trod enc Tryz.prog W 0 (λ_=>true) true fuel 31 cs=some x)(hB:Rows.uptoBulk x.1<=B): qU W cs UA (λ_=>True):=by
 obtain⟨xs,n,rfl,rfl,hl,hx,hf⟩:=DataW.trod_struct adS h;rw[Y1] at hl;rw[adT] at hx;obtain⟨f0,a0,b0,c0⟩:=DY adU;obtain⟨f1,a1,b1,c1⟩:=DY adV;obtain⟨f2,a2,b2,c2⟩:=DY adW;obtain⟨f3,a3,b3,c3⟩:=DY adX;have h0:=hf 0 f0 a0;have h1:=hf 1 f1 a1;have h2:=hf 2 f2 a2;have h3:=hf 3 f3 a3;rw[b0,c0,Y2] at h0;rw[b1,c1,Y2] at h1;rw[b2,c2,Y3] at h2;rw[b3,c3,Y3] at h3;obtain⟨v0,v1,v2,v3,rfl⟩:=Uz hl;obtain⟨y0,y1,I,y3,rfl⟩:=Uz hx;have h0:DataW.trod enc Tryz.prog W 0 (λ_=>true) true n 3 [v0]=some y0:=h0;have h1:DataW.trod enc Tryz.prog W 0 (λ_=>true) true n 3 [v1]=some y1:=h1;have h2:DataW.trod enc Tryz.prog W 0 (λ_=>true) true n 29 [v2]=some I:=h2;have h3:DataW.trod enc Tryz.prog W 0 (λ_=>true) true n 29 [v3]=some y3:=h3;obtain⟨m0,wo,_,_⟩:=DataW.trod_int b_ h0;injection wo with wo _;subst wo;obtain⟨m1,mB,_,_⟩:=DataW.trod_int b_ h1;injection mB with mB _;subst mB;rw[Xw] at hB;have e:([y0,y1,I,y3].map (·.1))=[y0.1,y1.1,I.1,y3.1]:=rfl;rw[e] at hB;have hB2:Rows.uptoBulk I.1<=B:=by
  have:=xW (l:=[y0.1,y1.1,I.1,y3.1]) (d:=I.1) (by simp);omega
 have hB3:Rows.uptoBulk y3.1<=B:=by
  have:=xW (l:=[y0.1,y1.1,I.1,y3.1]) (d:=y3.1) (by simp);omega
 intro c σ S hr;obtain⟨c1,σ1,vs1,lv,r1,r2,r3,r4,r5⟩:=Pn h3 hB3 c σ S hr;obtain⟨v,rfl,hv⟩:=Is r3;obtain⟨c2,σ2,vs2,lk,t1,t2,t3,t4,t5⟩:=Pn h2 hB2 c1 σ1 _ r1;obtain⟨k,rfl,hk⟩:=Is t3;obtain⟨q1,q2⟩:=dh t2 v (r4 v (by simp)).1;refine⟨c2,σ2,[.int .i64 m0,.int .i64 m1,k,v],⟨m0,m1,lk,lv⟩,t1.sat λh s=>s.two (aI.Ux _ _) (aI.Ux _ _) λa b k1 k2 => ?_,r2.trans t2,by simp[conc,hk,q1,hv],λu hu => ?_,aa⟩
 .obtain⟨k',e1,k1⟩:=k1;obtain⟨v',e2,k2⟩:=k2;have e1:[k]=[k']:=e1;have e2:[v]=[v']:=e2;injection e1 with e1 _;injection e2 with e2 _;subst e1;subst e2;exact⟨k,v,U,k1,k2⟩
 .simp only[gd,jQ,mM] at hu;rcases hu with rfl|rfl|rfl|rfl
  .exact⟨aa,U⟩
  .exact⟨aa,U⟩
  .exact t4 _ (by simp)
  .exact⟨q2,(r4 _ (by simp)).2⟩
theorem Xz (h:DataW.trod enc Tryz.prog W 0 (λ_=>true) true fuel 22 cs=some x)(I:Rows.uptoBulk x.1<=B): qU W cs (Uw 4 sn) (λxs=>xs.length<=B/\∀y∈xs,True) :=
 Uy (E:=UA) GR Y1 (by decide) aI.UA (λl m=>aI.sn m l) (λ_ _=>trivial) (λvs x l m a b h1 h2=>by
  obtain⟨k,v,e,k1,k2⟩:=h1;have e:vs=[.int .i64 x.act,.int .i64 x.tree,k,v]:=e;subst e;exact⟨⟨⟨U,U⟩,k1,k2⟩,h2⟩) (λn cs y hy hb=>aaE hy hb) h I
end
theorem Rj {enc:TypeId×Value->H'}{W:World}{x:DataW H'×List MemPlace}{v0:Value}{f:FuncId}(hct:∀ {L:List uO} {cs:List V} {dv:V} {h:H} {S:List aE},L.length<=1048576->Sat h (sW 4 dv cs::sn cs L::S)->Call CW f [dv] h λv h'=>v=.bool true)
 (h1:DataW.trod enc Tryz.prog W 0 (λ_=>true) true fuel 22 [v0]=some x)(hB1:Rows.uptoBulk x.1<=1048576):
  Calls Tryz.prog f #[v0] W λe w'=>e=.returned (.bool true)/\W.keptBut w' (λ_=>False)/\W.heap.size<=w'.heap.size/\∀b,b<W.heap.size->w'.heap[b]?=W.heap[b]?:=by
 obtain⟨c0,σ0,h0⟩:=CO.zero W;obtain⟨c,σ,vs1,da,hr,_,mB,afr,hL1⟩:=Xz h1 hB1 c0 σ0 [] h0;obtain⟨av,rfl,OC⟩:=Is mB;obtain⟨xG,s⟩:=jv.1 hr.2.2;obtain⟨cs,s⟩:=jv.1 s;have s0:=s;obtain⟨_,_,_,_,hk⟩:=s0.at (k:=0) U;have e:[av]=[xG]:=hk.1;injection e with e _;subst e;have s1:=s.dup (aI.an (aI.pu _) (aI.an (aI.sW _ _ _) (aI.sn _ _)));have s2:=(s1.dM (B:=sn cs da) λ_ _ k=>k.2.2).ae [1];have s3:Sat σ (sW 4 av cs::sn cs da::[]):=s2.dM (B:=sW 4 av cs) λ_ _ k=>k.2.1;obtain⟨v',h',Sb,rfl⟩:=hct hL1.1 s3;have I:=Sb.okW hr.1 (λx hx=>by
  rw[List.mem_singleton.1 hx];exact(afr av (by simp)).1)
 unfold kK at I;have ea:(([av].map (conc c)).toArray) = #[v0]:=by simp[OC]
 rw[ea] at I;refine Calls.mono I ?_;rintro e w' ⟨c',rfl,_,_,hs⟩;obtain⟨k1,k2,k3⟩:=ND hr.2.1 hs;exact⟨by simp[conc],k1,k2,k3⟩
end Go.Proofs.YtdonpgpfplgigaaGreat.Am
namespace Go.Proofs.YtdonpgpfplgigaaGreat.Am
open Go
variable {X Y C:aE} {cap:Cap} {D:uO} {e:En} {ε c_:bA} {pg:bA->Int->List Nat} {Q:Ex->List (Nat×V)->H->Prop} {fx:Fx} {h h' σ:H} {d:Int} {P P' P0:Int->List Nat} {kl kr kk:fo} {lo k:Ky} {now:List (Int×List Nat)} {cs eD dS ou J:List (List Nat)} {E:List (Nat×V)} {S:List aE} {eL eR jH es gM:List En} {fs:List pz} {ks:List fo} {Z data R M ot pO b ps c lU lV qs bu bl br:List Nat} {us ds xS:List V} {A N B g a q r aR root L x n i id off l kb j kd link extra alt xu nu xl nl xr nr Lx ui xi p9 p6 K nt fuel:Nat} {fz:Nat×Nat} {F:Nat->List (List Nat)->Prop} {hi:Option Ky} {α H':Type} {t te:TypeId} {w u y z kv vv lv rv:V}
def nextF : Ky->Option Ky
 |[]=>none
 |x::t=>match nextF t with
  |some u=>some (x::u)
  |none=>if x=255 then none else some [x+1]
theorem MH : ∀ {a u:Ky},nextF a=some u->a<u:=by
 intro a;induction a with
 |nil=>intro u h;cases h
 |cons x t ih =>
  intro u h;simp only[nextF] at h;cases I:nextF t with
  |some w =>
   rw[I] at h;obtain rfl:=bD h;exact List.cons_lt_cons_iff.2 (.inr ⟨U,ih I⟩)
  |none =>
   rw[I] at h;simp only at h;split at h
   .cases h
   .obtain rfl:=bD h;exact List.cons_lt_cons_iff.2 (.inl (tC x))
theorem MI : ∀ {a b:Ky},a<b->b.length<=a.length->(∀x∈b,x<256)->∃u,nextF a=some u/\¬ b<u:=by
 intro a;induction a with
 |nil =>
  intro b h hl _;obtain rfl:b=[]:=iZ (by simpa using hl);exact absurd h (l9 _)
 |cons x t ih =>
  intro b h hl hb;cases b with
  |nil=>exact absurd h (yG _)
  |cons y s =>
   simp only[nextF];have hy:=hb y a_;rcases List.cons_lt_cons_iff.1 h with S_|⟨rfl,I⟩
   .cases hn:nextF t with
    |some w=>exact⟨_,U,λq=>by rcases List.cons_lt_cons_iff.1 q with q|⟨q,_⟩<;>omega⟩
    |none =>
     simp only;rw[ai (by omega)];exact⟨_,U,λq=>by
      rcases List.cons_lt_cons_iff.1 q with q|⟨q,q2⟩
      .omega
      .exact yG _ q2⟩
   .obtain⟨w,hw,hn⟩:=ih I (by simpa using hl) λz hz=>hb z (bk _ hz);rw[hw];exact⟨_,U,λq=>by
     rcases List.cons_lt_cons_iff.1 q with q|⟨_,q2⟩
     .omega
     .exact hn q2⟩
theorem Jy : ∀ {a:Ky},(∀x∈a,x=255)->nextF a=none:=by
 intro a;induction a with
 |nil=>intro _;rfl
 |cons x t I =>
  intro h;simp only[nextF];rw[I λz hz=>h z (bk _ hz)];simp only;rw[ay (h x a_)]
theorem XA : ∀ {a b:Ky} {x:Nat},x≠255->(∀y∈b,y=255)->nextF (a++x::b)=some (a++[x+1]):=by
 intro a;induction a with
 |nil =>
  intro b x I hb;simp only[dL,nextF];rw[Jy hb];simp only;rw[ai I]
 |cons z t ih =>
  intro b x I hb;simp only[fJ,nextF];rw[ih I hb]
theorem UB : ∀ {a u:Ky},nextF a=some u->u.length<=a.length:=by
 intro a;induction a with
 |nil=>intro u h;cases h
 |cons x t ih =>
  intro u h;simp only[nextF] at h;cases I:nextF t with
  |some w =>
   rw[I] at h;obtain rfl:=bD h;have:=ih I;simp only[aW];omega
  |none =>
   rw[I] at h;simp only at h;split at h
   .cases h
   .obtain rfl:=bD h;simp
theorem Rk : ∀ {a u:Ky},nextF a=some u->(∀x∈a,x<256)->∀x∈u,x<256:=by
 intro a;induction a with
 |nil=>intro u h;cases h
 |cons x t ih =>
  intro u h hb y I;have hx:=hb x a_;simp only[nextF] at h;cases hn:nextF t with
  |some w =>
   rw[hn] at h;obtain rfl:=bD h;rcases List.mem_cons.1 I with rfl|I
   .exact hx
   .exact ih hn (λz hz=>hb z (bk _ hz)) y I
  |none =>
   rw[hn] at h;simp only at h;split at h
   .cases h
   .obtain rfl:=bD h;rw[List.mem_singleton.1 I];omega
theorem UC : ∀ {a:Ky},a<a++[0]:=by
 intro a;induction a with
 |nil=>exact vK _ _
 |cons x t I=>exact List.cons_lt_cons_iff.2 (.inr ⟨U,I⟩)
theorem acF : ∀ {a b:Ky},a<b->¬ b<a++[0]:=by
 intro a;induction a with
 |nil =>
  intro b h q;cases b with
  |nil=>exact l9 _ h
  |cons y s =>
   rcases List.cons_lt_cons_iff.1 q with q|⟨_,q⟩
   .omega
   .exact yG _ q
 |cons x t ih =>
  intro b h q;cases b with
  |nil=>exact yG _ h
  |cons y s =>
   rcases List.cons_lt_cons_iff.1 h with I|⟨I,uw⟩
   .rcases List.cons_lt_cons_iff.1 q with q|⟨q,_⟩<;>omega
   .rcases List.cons_lt_cons_iff.1 q with q|⟨_,q⟩
    .omega
    .exact ih uw q
theorem XB (I:∀e∈es.take i,e.1<k)(h2:∀e,es[i]?=some e->¬ e.1<k): nq es k=es[i]?:=by
 have hs:es=es.take i++es.drop i:=(jP i es).symm;cases he:es[i]? with
 |none =>
  have:es.length<=i:=List.getElem?_eq_none_iff.1 he;rw[h_ this] at I;exact List.find?_eq_none.2 λe hm=>by simp[I e hm]
 |some e =>
  have hd:es.drop i=e::es.drop (i+1):=by
   obtain⟨hb,h3⟩:=List.getElem?_eq_some_iff.1 he;rw[<-h3];exact mH hb
  rw[hs,xU I,hd];simp[nq,h2 e he]
def xX (es:List En)(i:Nat)(k:Ky): Prop:=(∀e∈es.take i,e.1<k)/\∀j e,es[j]?=some e->i<=j->¬ e.1<k
theorem xX.Q_ (h:xX es i k): nq es k=es[i]?:=XB h.1 λe he=>h.2 i e he (aH _)
theorem xX.nil : xX es 0 []:=⟨λe he=>by simp at he,λ_ _ _ _=>yG _⟩
theorem Fb (hs:es.Pairwise λa b=>a.1<b.1)(he:es[i]?=some e): (∀d∈es.take i,d.1<e.1)/\∀j d,es[j]?=some d->i<j->e.1<d.1:=by
 obtain⟨hi,hie⟩:=List.getElem?_eq_some_iff.1 he;have hp:=List.pairwise_iff_getElem.1 hs;refine⟨λd hd => ?_,λj d hd pH => ?_⟩
 .obtain⟨j,hj⟩:=List.mem_iff_getElem?.1 hd;have kJ:j<i:=by have:=(List.getElem?_eq_some_iff.1 hj).1;rw[cz] at this;omega
  rw[G9 kJ] at hj;obtain⟨I,Lw⟩:=List.getElem?_eq_some_iff.1 hj;rw[<-Lw,<-hie];exact hp j i I hi kJ
 .obtain⟨I,Lw⟩:=List.getElem?_eq_some_iff.1 hd;rw[<-Lw,<-hie];exact hp i j hi I pH
theorem Bf (he:es[i]?=some e){d:En}(I:d∈es.take (i+1)): d∈es.take i\/d=e:=by
 rw[nF,he] at I;simpa using I
theorem xX.more (hs:es.Pairwise λa b=>a.1<b.1)(he:es[i]?=some e): xX es (i+1) (e.1++[0]):=by
 obtain⟨h1,h2⟩:=Fb hs he;refine⟨λd I => ?_,λj d I hj=>acF (h2 j d I (by omega))⟩;rcases Bf he I with I|rfl
 .exact List.lt_trans (h1 d I) UC
 .exact UC
theorem xX.next {u:Ky}(hs:es.Pairwise λa b=>a.1<b.1)(he:es[i]?=some e)(hl:∀d∈es,d.1.length<=e.1.length)(hb:∀d∈es,∀x∈d.1,x<256)(hu:nextF e.1=some u): xX es (i+1) u:=by
 obtain⟨h1,h2⟩:=Fb hs he;refine⟨λd I => ?_,λj d I hj => ?_⟩
 .rcases Bf he I with I|rfl
  .exact List.lt_trans (h1 d I) (MH hu)
  .exact MH hu
 .have hm:=aJ I;obtain⟨w,hw,hn⟩:=MI (h2 j d I (by omega)) (hl d hm) (hb d hm);rw[hu] at hw;obtain rfl:=bD hw;exact hn
theorem xX.last (hs:es.Pairwise λa b=>a.1<b.1)(he:es[i]?=some e)(hl:∀d∈es,d.1.length<=e.1.length)(hb:∀d∈es,∀x∈d.1,x<256)(hu:nextF e.1=none): i+1=es.length:=by
 obtain⟨h1,h2⟩:=Fb hs he;have hi:=(List.getElem?_eq_some_iff.1 he).1;by_cases hq:i+1<es.length
 .exfalso;have I:es[i+1]?=some (es[i+1]'hq):=aF _;have hm:=aJ I;obtain⟨w,hw,_⟩:=MI (h2 (i+1) _ I (by omega)) (hl _ hm) (hb _ hm);rw[hu] at hw;cases hw
 .omega
section
variable {v:V} {l:List Nat}
theorem MJ (s:Sat h S)(hl:∀b∈l,b<256): ∃v h',convV Tryz.prog h 9 29 (.str l)=none/\convB Tryz.prog h 9 29 (.str l)=some (v,h')/\Sat h' (.b8 v l::S):=by
 refine⟨.sl h.next 0 l.length (.rest 1 0),h.new (.cells l.length (ofBytes l) true),?_,?_,?_⟩
 .simp only[convV,oF,aP]
 .simp only[convB,oF,aP,Tryz.underlying5,fO];rfl
 .exact(s.new (.cells l.length (ofBytes l) true)).freeze.dM λm r hm=>⟨hl,.inr ⟨h.next,0,.rest 1 0,l.length,ofBytes l,true,U,hm,by rw[dJ],by omega,by rw[ga,h_ (by rw[dJ];exact aH _)],U⟩⟩
theorem Rl (s:Sat h (pt id (.cells 0 [] false)::S))(hl:∀b∈l,b<256)(h1:1<=l.length)(h2:l.length<=1000000): ∃v h',appendV Tryz.prog h #[29,9] (.sl id 0 0 (.exact 0)) (.str l)=some (v,h')/\Sat h' (bf v l::S):=by
 obtain⟨i,hi,i1,i2⟩:=Dw;have hg:=s.row (k:=0) U;have I:lu (0+l.length) 1=true:=ow.2 ⟨by omega,by omega⟩;refine⟨.sl h.next 0 l.length (.rest 1 0),h.new (.cells l.length (ofBytes l) false),?_,?_⟩
 .unfold appendV;simp only[aP,oF,hi,qY,i1,i2,V.cells,aW,b6,srcV];rw[show(Nat.ble 1 1&&Nat.ble 1 4096&&Nat.beq (0+1) 1)=true from U,ag,show Nat.beq 1 1=true from U,ag];simp only;rw[fM (by omega:l.length≠0),aT,show Nat.ble (0+l.length) 0=false from by cases hq:Nat.ble (0+l.length) 0 with|false=>rfl|true=>have:=aS.1 hq;omega,aT];rw[I,ag,show rdN h id 0 (0*1)=some [] by simp[rdN,hg];rfl];simp only[j7,dL,eW,cH]
 .exact((s.ae [0]).drop.new (.cells l.length (ofBytes l) false)).dM λm r hm=>⟨hl,.inr (.inr ⟨h.next,U,hm,h1⟩)⟩
end
section
variable {told:cu} {fs:List En}
theorem UD {P:Program}{fs:Array Field}{a b:En}(I:P.underlying t=some (.struct fs))(hs:P.stoodInHeld t=false)(hf:strFs P 0 fs.toList=true)(hn:fs.toList.length=2):
  eqArr P t [.str a.1,.str a.2] [.str b.1,.str b.2]=some (decide (a=b)):=by
 have hl:Nat.beq fs.toList.length [V.str a.1,V.str a.2].length=true:=by rw[hn];rfl
 unfold eqArr;simp only[I,hs,hf,hl,yH,kf,ag,strsBeq,qL];congr 1;obtain⟨a1,a2⟩:=a;obtain⟨b1,b2⟩:=b;by_cases h1:a1=b1<;>by_cases h2:a2=b2<;>simp[h1,h2]
theorem aaF {x y:Operand}{a b:En}: binV Tryz.prog h .neq 53 x y (.agg [.str a.1,.str a.2]) (.agg [.str b.1,.str b.2])=some (.bool (!decide (a=b))):=by
 have e:=UD (P:=Tryz.prog) (a:=a) (b:=b) Tryz.underlying53 (by kernel_rfl) (by kernel_rfl) (by kernel_rfl);simp only[binV,e,gQ]
noncomputable def smL : Code:=dm [1,1,0,1,0,0] ((Tryz.f68.body).getD .skip)
theorem Rm : ∀(j i:Nat) (h:H) (E:List (Nat×V)) (Q:Ex->List (Nat×V)->H->Prop),i+j=es.length->es.length<=1000000 ->
  Sat h (.arr 2 lv (dw es)::.arr 2 rv (dw es)::S)->Has E [(0,lv),(1,rv),(5,.int .i64 (i:Int))] ->
  (∀E' h',Sat h' (.arr 2 lv (dw es)::.arr 2 rv (dw es)::S)->Q (.exit 0) E' h')->WP ⟨Tryz.prog,told⟩ 26 (.loop smL) E h Q:=by
 intro j
 induction j with
 |zero =>
  intro i h E Q hi hlen s hE hq
  have I:=s.fS (P:=Tryz.prog) (j:=0) (n:=es.length) U (eN _) (by decide) jM
  refine WP.loop (WP.has hE (zK 5 U (zo U (aD U U U I) (zC U aK (by simp;omega) ?_))))
  exact zk 2 U (WP.exit (hq _ _ s))
 |succ j ih =>
  intro i h E Q hi hlen s hE hq
  obtain⟨e,he⟩:∃e,es[i]?=some e:=⟨_,aF (by omega)⟩
  have I:=s.fS (P:=Tryz.prog) (j:=0) (n:=es.length) U (eN _) (by decide) jM
  obtain⟨id,off,e1,_,_,e2⟩:=GS (P:=Tryz.prog) jM Ew he s
  obtain⟨tq,qD,e3,_,_,e4⟩:=GS (P:=Tryz.prog) jM Ew he (s.ae [1])
  refine WP.loop (WP.has hE (zK 5 U (zo U (aD U U U I) (zB U aK (by simp;omega) ?_))))
  refine zk 4 U (WP.block (zw (WP.drawn [af,af,af,af,af,af,af,af,af] U (by kernel_rfl) (by kernel_rfl) ?_)))
  refine zM U (zM U (zO U (bM (r:=.ptr id off) U U e1) (zL U (e2 VA) (zM U (zM U (zO U (bM (r:=.ptr tq qD) U U e3) (zL U (e4 VA) (aB.rW U U U U (aq U U aaF) (by simp) ?_))))))))
  refine aB.nil ⟨⟨aa,aa,aa,aa,aa,aa,aa,aa,aa,aa⟩,?_⟩
  refine zj U (WP.skip (zr U (zm U (zb U (by exact aL ak) ?_))))
  refine za U (zv ?_)
  exact ih (i+1) _ _ Q (by omega) hlen s ⟨U,U,U,aa⟩ hq
theorem XC (hT:W told)(hlen:es.length<=1000000)(s:Sat h (.arr 2 lv (dw es)::.arr 2 rv (dw es)::S)):
  Call ⟨Tryz.prog,told⟩ 68 [lv,rv] h λv h'=>v=.bool true/\Sat h' (.arr 2 lv (dw es)::.arr 2 rv (dw es)::S):=by
 have I:=s.fS (P:=Tryz.prog) (j:=0) (n:=es.length) U (eN _) (by decide) jM;have Em:=s.fS (P:=Tryz.prog) (j:=1) (n:=es.length) U (eN _) (by decide) jM;refine Call.of_wp (hT.free _ U) Tryz.func68 U U (zK 8 U (zo U (aD U U U I) (zm U (zo U (aD U U U Em) (zC U aG (by simp) ?_)))));refine zk 8 U (WP.block ?_);refine Rm es.length 0 _ _ _ (by omega) hlen s ⟨U,U,U,aa⟩ (λE' h' s' => ?_);have s:=s';exact WP.has (F:=[]) aa (zK 4 U (WP.ret ⟨aa,_,U,U,s⟩))
end
end Go.Proofs.YtdonpgpfplgigaaGreat.Am
