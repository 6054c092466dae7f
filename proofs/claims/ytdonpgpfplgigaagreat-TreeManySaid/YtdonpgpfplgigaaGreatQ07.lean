/- TreeMany: a part of its proof; conditions: its statement's. -/
import Derived.Test.YtdonpgpfplgigaaGreatQ06
import Derived.Test.YtdonpgpfplgigaaGreatQ05
set_option linter.defProp false
namespace Go.Proofs.YtdonpgpfplgigaaGreat.Am
open Go
def iy:=@Tryz.underlying28
def GL:=@Tryz.underlying92
def GM:=@Tryz.func157
variable {X Y C D:aG} {cap:Cap} {e:En} {ε dz:bk} {pg:bk->Int->List Nat} {Q:Ex->List (Nat×V)->H->Prop} {fx:Fx} {d:Int} {P P' P0:Int->List Nat} {kl kr kk:fV} {lo k:Ky} {now:List (Int×List Nat)} {cs eV eB qQ J:List (List Nat)} {E:List (Nat×V)} {S:List aG} {eL eR kN es gL:List En} {fs:List sU} {ks:List fV} {Z data R M ot pO b ps c nU nV qs bu bl br:List Nat} {us ds GN:List V} {A N B g a q r aQ root L x n i id l kb j kd link extra alt xu nu xl nl xr nr Lx ui xi p9 p6 K nt:Nat} {F:Nat->List (List Nat)->Prop} {hi:Option Ky} {α:Type} {t te:TypeId} {w u y z kv vv lv rv:V}
def qv (N root:Nat)(R ot:List Nat)(Z:List Nat)(A Lx:Nat)(P0 P':Int->List Nat)(es:List En): Prop:=∃M' L' cs' I,fT N R M' P'/\jo N M' ((root::I)++ot)/\Nv (cU Z) P' L' [] none cs' es I/\bH (P' root) 204 0 L' cs'/\(L'<=Lx/\lam L' cs'<=A)/\∀m∈ot,P' (m:Nat)=P0 m
section
variable {told:cu} {p:Nat} {b0:List Nat} {e0:Nat} {LV:List (List Nat)} {v pv ov:V} {was:Bool} {h:H}
noncomputable def tpT : Code:=cX [1,1,1,1,1,1,1,1,1,1] ((Tryz.f14.body).getD .skip)
theorem AW (hT:WI told)(hB:B<=2000)(hN:N<=2999)(b_:EI N B ε)(hw:NW N now)(gD:fT N R M (pgG now ε))(kW:jo N M ((pO++[n])++ot))(nM:gW (cU Z) (pgG now ε) L root (fx.map (·.2)) 0 lo hi n eL eR pO)(jK:js lo hi kN)(fb:kN≠[])(l_:fx.length=L)(hL:L<=60)(OI:yf L root (pgG now ε) A (kN.map eE) fx)
 (hA:(e0=0/\∃b',bH b' 204 0 0 (kN.map eE)/\Sat h (GA g a p q r data aQ now ε::aY pv b'::aW x n 0 b0 LV::S)) \/
   (e0=7/\486<cB (kN.map eE)/\cB (kN.map eE)<=715/\Sat h (GA g a p q r data aQ now ε::.arr 1 v us::dn us (kN.map eE)::wyA w (eT fx++[(x,0)])::aW x n 0 b0 LV::nodsA (pgG now ε) 1 fx::S)))(hE:Has E [(0,.ptr g 0),(8,ov),(10,.int .i64 (e0:Int)),(11,w),(12,.ptr x 0),(14,.bool was),(16,v),(17,pv)])
 (hq:∀E' h' ah aJ,EI N B ah->Sm N ε ah->NW N aJ->aJ.length<=now.length+4*L+7->Sat h' (GA g a p q r data aQ aJ ah::S) ->
   ((Has E' [(8,.aZ),(9,.bool false),(10,.int .i64 7)]/\N<=((pO++[n])++ot).length+L+3)\/Has E' [(8,ov),(9,.bool was),(10,.int .i64 0)]/\qv N root R ot Z A (L+1) (pgG now ε) (pgG aJ ah) (eL++kN++eR))->Q .ret E' h'): WP ⟨Tryz.prog,told⟩ 112 tpT E h Q:=by
 have hW:=hT.w;have jM:Nv (cU Z) (pgG now ε) 0 lo hi (kN.map eE) kN []:=⟨U,jK,U⟩;have oE:=kW.mz n (by simp);rcases hA with⟨rfl,b',uH,s⟩|⟨rfl,Cg,y_,s⟩
 .have s:=s.ae [2];obtain⟨Ya,Yb,us0,s⟩:=aT.1 s;refine WP.has hE (zK 4 U (zC U cS (U) (zk 5 U (zB U cS (U) (zk 6 U (zY s 0 iB bT U (zm U ?_)))))));have s:=s.ae [4,4];refine zc U (wP hW hB b_ hw oE.2 s (bg _ _) uH.good) ?_;rintro v0 h ⟨qP,rfl,w1,w2,w3,s⟩;have I:∀q:Int,pgG (cD (n:Int) b' now) qP q=if (n:Int)=q then b' else pgG now ε q:=λq=>by rw[eY,gI w2]
  have LX:=gy (i:=(n:Int)) (b:=b') (now:=now);generalize Yd:cD (n:Int) b' now=oY at s I w3 LX;refine zk 6 U (zC U aE (U) (zk 11 U (WP.ret ?_)));have fE:=kW.nd;rw[dO,mE] at fE;have yg:=fE.2.1;rw[fK,nC] at yg;obtain⟨GI,cs',t1,t2,t3,t4⟩:=gW.Qh (nM.frame (P':=pgG oY qP) λq hq=>by
   have:q≠n:=λe=>fE.2.2 q hq n (by simp) e;rw[I,ai (by omega)]) (jM.frame λq hq=>by cases hq) (by rw[I,ay U];exact uH) (λ_=>by
   unfold cU;rw[ay U];simpa using fb)
  have hA4:yf L root (pgG oY qP) A (kN.map eE) fx:=by
   cases fx with
   |nil=>exact OI
   |cons e t =>
    have OH:root∈pO:=by
     rcases nM.rt with⟨q,_⟩|⟨_,q⟩
     .cases q
     .exact q
    intro c hc;have:root≠n:=λe=>fE.2.2 root OH n (by simp) e;rw[I,ai (by omega)] at hc;exact OI c hc
  refine hq _ _ qP oY w1 w2 w3 (by omega) (s.skip 5) (.inr ⟨⟨U,U,U,aa⟩,M,L,cs',GI,gD.frame ?_ ?_,kW.perm (t3.symm.append_right ot),t1,t2,⟨by omega,hA4.fin t2 t4⟩,λm hm => ?_⟩)
  .rw[I,ai (by omega)]
  .rw[I,ai (by omega)]
  .have:m≠n:=λe=>yg.1 (by rw[<-e];exact jt _ hm);rw[I,ai (by omega)]
 .have s:=((s.ae [1]).rW).eD Gu;have s:=s.ae [1,0];refine WP.has hE (zK 4 U (zB U cS (U) (zk 6 U (zc U (Wj (ot:=ot) (root:=root) (R:=R) hT hB hN (fx.length+1) fx 0 x n 0 lo hi eL eR pO (kN.map eE) LV b0 kN [] v w us ε now M Z A L h S (tu _) b_ hw gD kW nM jM Cg (by rw[ay U];exact y_) (by omega) hL OI s) ?_))));rintro v0 h ⟨qP,oY,w1,w2,w3,w4,s,(⟨rfl,qU⟩|⟨rfl,uM⟩)⟩
  .skip;exact zk 6 U (zB U aE (U) (zk 9 U (WP.ret (hq _ _ qP oY w1 w2 w3 (by rw[<-l_];exact w4) s (.inl ⟨⟨U,U,U,aa⟩,by rw[<-l_];exact qU⟩)))))
  .skip;exact zk 6 U (zC U aE (U) (zk 11 U (WP.ret (hq _ _ qP oY w1 w2 w3 (by rw[<-l_];exact w4) s (.inr ⟨⟨U,U,U,aa⟩,uM⟩)))))
end
theorem TG {f:V->α->aG}{a b:PM}{c:α}: ∀ {l:List V} {m:List α} (k:Nat),(each f l m).p a b->(f u c).p a b->(each f (l.set k u) (m.set k c)).p a b:=by
 intro l;induction l with
 |nil=>intro m k h _;cases m with
  |nil=>exact h
  |cons x m=>exact h.elim
 |cons v l I=>intro m k h hu;cases m with
  |nil=>exact h.elim
  |cons x m=>cases k with
   |zero=>exact⟨hu,h.2⟩
   |succ k=>exact⟨h.1,I k h.2 hu⟩
theorem abN {P:Program}{h:H}{b c:Nat}{x:V}(I:look E a=some x)(hb:look E b=some y)(hc:look E c=some z): resLE P E h [.tmp a,.tmp b,.tmp c]=some (.aV [x,y,z]):=by
 simp only[resLE,mapO,resE,I,hb,hc]
section
variable {told:cu} {p:Nat} {k val:List Nat} {h:H}
theorem OJ (s:Sat h (oh u c::dn us cs::S)): Sat h (dn (us.set i u) (cs.set i c)::S) :=
 s.two (bf.cG _ _) (bf.qO _ _) λm r a b=>TG i b a
def yh (v:V)(o:Option (List Nat)): aG:=match o with
 |none=>.pu (v=.aZ)
 |some l=>aY v l
set_option maxHeartbeats 1000000 in
theorem OK (hT:WI told)(hB:B<=2000)(hN:N<=2999)(b_:EI N B ε)(hw:NW N now)(gD:fT N R M (pgG now ε))(kW:jo N M ((root::ps)++ot))(jM:Nv (cU Z) (pgG now ε) L [] none cs es ps)(hp:bH (pgG now ε root) 204 0 L cs)(hL:L<=60)(hA:lam L cs<=A)(hX:cy X (cE kv k))(hY:cy Y (cE vv val))(hk:1<=k.length/\k.length<=96)(Gv:val.length<=128)
 (s:Sat h (GA g a p q r data aQ now ε::X::Y::S)):
  Call ⟨Tryz.prog,told⟩ 14 [.ptr g 0,.int .i64 (root:Int),kv,vv] h λv h'=>∃ah aJ,EI N B ah/\Sm N ε ah/\NW N aJ/\aJ.length<=now.length+4*L+7/\((v=.aV [.aZ,.bool false,.int .i64 7]/\N<=((root::ps)++ot).length+L+3/\Sat h' (GA g a p q r data aQ aJ ah::X::Y::S)) \/
   (∃ov,v=.aV [ov,.bool (fI es k).isSome,.int .i64 0]/\Sat h' (GA g a p q r data aQ aJ ah::yh ov (fI es k)::X::Y::S)/\qv N root R ot Z (A+104) (L+1) (pgG now ε) (pgG aJ ah) (rq es k val))):=by
 have hW:=hT.w;have s_:=kW.mz root (by simp);refine Call.of_wp (hW.free _ U) Tryz.func14 U U (zK 10 U (zc U (EJ hW (s.ae [1]) hX) ?_));rintro v h' ⟨rfl,rfl⟩;rw[dZ hk];refine zh U (eo U U) (U) (zk 2 U (zo U (aC U U U (bA aP (s.aD (k:=2) U hY))) (zC U cP (decide_eq_false (by omega)) ?_)));refine zk 7 U (zo U (oz U (mki_of jH U)) (zk 2 U (zc U (JQ hT.toWB (EH hW hB hw) (by omega) (by omega) hX jM hp b_ U s_.2 (λm hm=>(kW.mz m (by simp[hm])).2) s) ?_)));rintro v h ⟨w,x,n,lo,hi,eL,eR,pO,es',fx,dz,rfl,q1,q2,q3,q4,q5,q6,q7,q8,q9,o9,s⟩;have uG:(eT fx).length=L:=by rw[eT,ju,cj,o9]
 have l_:(eT fx++[(x,0)]).length=L+1:=by rw[aN,uG];rfl
 obtain⟨id,off,e1,e2,_⟩:=wQ (P:=Tryz.prog) (j:=L) (x:=x) (i:=0) eS lR (by rw[iz (by omega),uG,gF];rfl) s;have Wo:es'.length<=512:=by have:=q3.fits;rw[cj] at this;omega
 refine zk 10 U (zC U aE (U) (zk 7 U (zo U (aC U U U (s.fq (j:=0) (n:=L+1) U (by rw[lz,l_]) (by decide) eS)) ?_)));refine zo U (aq (r:=.int .i64 (L:Int)) U U (by rw[show((L:Nat):Int)=((L+1:Nat):Int)-1 by omega];exact dM ak)) ?_;refine zo U (bM (r:=.ptr id off) U U e1) (zf U (jx _ _) (zl U (e2 _ fH) (zk 6 U (zc U (AP hT.toWB hX q2 Wo (s.ae [1,3])) ?_))));rintro v h ⟨i,rfl,hl,s⟩;refine zk 10 U (zc U (ZG hW (s.ae [1,4]) hX hY (by omega) (by omega)) ?_);intro cb h s;have D5:=(s.aD (k:=0) U (bg _ _)).cells;have s:=Qv (by omega) (s.fh.ae [4]);have s:=s.ae [4];obtain⟨bv,cv,us,s⟩:=aT.1 s;have ou:=kj (s.ae [3]);rw[cj] at ou;refine zk 6 U (zY s 0 cM gu U (zc U (mT hW (s.ae [2]) (cR _ _ _)) ?_));intro cl h s;have s:=s.ae [0,0,0,0,0,0,0,2,2];obtain⟨Je,L0⟩:=q1.side q7;have gV:pgG now dz=pgG now ε:=gI q6;rw[<-gV] at s;have AO:fT N R M (pgG now dz):=by rw[gV];exact gD
 have tV:jo N M ((pO++[n])++ot):=kW.perm (q9.symm.append_right ot);have Qz:gW (cU Z) (pgG now dz) L root (fx.map (·.2)) 0 lo hi n eL eR pO:=by rw[gV];exact q1
 have CG:=q2.put (v:=val) hl q7 hk.1 hk.2 Gv;have uR:rq es k val=eL++AN es' i (sameE es' k i) (k,val)++eR:=by
  rw[<-q8];exact VU (by rw[q8];exact jM.ok.jY) hl Je L0
 have nJ:fI es k=fI es' k:=by rw[<-q8];exact EO Je L0
 have lD:bH (pgG now dz n) 204 0 0 (es'.map eE):=by rw[gV];exact q3
 have dL:=lD.fits;rw[cj] at dL;have Jf:∀c,yf L root (pgG now dz) (A+104) c fx:=λc=>by
  cases fx with
  |nil =>
   have o9:L=0:=o9.symm;subst o9;exact c_ hA (C0 _ _)
  |cons e t =>
   intro d hd;rw[gV] at hd;rw[hd.uniq hp];omega
 have hlc:(eE (k,val)).length<=225:=by simp[eE];omega
 have fin:∀ {ov:V} {o:Option (List Nat)} {E':List (Nat×V)} {h':H} {ah:bk} {aJ:List (Int×List Nat)},fI es' k=o->EI N B ah->Sm N dz ah->NW N aJ->aJ.length<=now.length+4*L+7->Sat h' (GA g a p q r data aQ aJ ah::yh ov o::X::Y::S) ->
   ((Has E' [(8,.aZ),(9,.bool false),(10,.int .i64 7)]/\N<=((pO++[n])++ot).length+L+3)\/Has E' [(8,ov),(9,.bool o.isSome),(10,.int .i64 0)]/\qv N root R ot Z (A+104) (L+1) (pgG now dz) (pgG aJ ah) (eL++AN es' i (sameE es' k i) (k,val)++eR)) ->
   ∃v,resLE Tryz.prog E' h' [.tmp 8,.tmp 9,.tmp 10]=some v/\∃ah aJ,EI N B ah/\Sm N ε ah/\NW N aJ/\aJ.length<=now.length+4*L+7/\((v=.aV [.aZ,.bool false,.int .i64 7]/\N<=((root::ps)++ot).length+L+3/\Sat h' (GA g a p q r data aQ aJ ah::X::Y::S)) \/
    (∃ov,v=.aV [ov,.bool (fI es k).isSome,.int .i64 0]/\Sat h' (GA g a p q r data aQ aJ ah::yh ov (fI es k)::X::Y::S)/\qv N root R ot Z (A+104) (L+1) (pgG now ε) (pgG aJ ah) (rq es k val))):=by
  intro ov o E' h' ah aJ ho w1 w2 w3 w4 s' I;rcases I with⟨⟨r1,r2,r3,_⟩,qU⟩|⟨⟨r1,r2,r3,_⟩,ht⟩
  .exact⟨_,abN r1 r2 r3,ah,aJ,w1,q6.trans w2,w3,w4,.inl ⟨U,by have:=q9.length_eq;simp only[aN,aX,bY] at this qU ⊢;omega,s'.del 1⟩⟩
  .exact⟨_,abN r1 r2 r3,ah,aJ,w1,q6.trans w2,w3,w4,.inr ⟨ov,by rw[nJ,ho],by rw[nJ,ho];exact s',by rw[uR,<-gV];exact ht⟩⟩
 cases hq:sameE es' k i with
 |true =>
  rw[hq] at CG fin;obtain⟨e,he,xB⟩:=EP hq;have ho:=DJ q2.nodup he xB;obtain⟨c1,c2,c3⟩:=vV q2 he;have fc:=(List.getElem?_eq_some_iff.1 he).1;have o7:(AN es' i true (k,val)).map eE=(es'.map eE).set i (eE (k,val)):=C8;have s:=(s.ae [4]).dup (bf.qO _ _);have s:=s.ae [4,4,3,0];have s:Sat h (aW x n 0 (pgG now dz n) (es'.map eE)::_):=aT.2 ⟨bv,cv,us,s⟩;refine zk 16 U (zc U (DH hW c1 c2 c3 s) ?_);rintro I9 h s;rw[DL] at s;refine zc U (r_ hW s (bC _ _) (by have:=(q2.sz e (aI he)).2.2;omega)) ?_;intro ov h s;have s:=((s.del 1).ae [3]).eD k8;obtain⟨L1,EW,h4,e4,e5,s4⟩:=sZ (P:=Tryz.prog) (i:=i) (x:=cb) s (by omega) D5.1 D5.2 aO dQ;refine zk 7 U (zo U (bM (r:=.ptr L1 EW) U U e4) (zS U (⟨_,e5,s4⟩) ?_));intro h s;have s:=s.ae [2];obtain⟨bv3,cv3,us3,s⟩:=aT.1 s;have s:=s.ae [1,7];refine zk 4 U (zY s 2 nP b8 U (zk 2 U (zc U (VV hW (i:=i) s (bC _ _) (bC _ _) lD c1 (by omega)) ?_)));have uk:=qj (c':=eE (k,val)) c1;have fb:AN es' i true (k,val)≠[]:=G0 (by show 0<(es'.set i (k,val)).length;rw[cL];omega);rintro v0 h (⟨hf,pv,b',rfl,uH,s⟩|⟨hf,rfl,s⟩)
  .have s:=s.ae [3,1,2,2];have s:Sat h (aW x n 0 (pgG now dz n) (es'.map eE)::_):=aT.2 ⟨bv3,cv3,us3,s⟩;have s:=((((s.del 7).del 6).del 5).del 3).del 2;have s:=s.ae [3,1,0,0];refine zk 6 U ?_;refine AW (was:=true) (v:=cl) (us:=us) (w:=w) (e0:=0) (ot:=ot) (root:=root) (R:=R) (L:=L) hT hB hN q5 hw AO tV Qz CG fb o9 hL (Jf _) (.inl ⟨U,b',by rw[o7];exact uH,s⟩) ⟨U,U,U,U,U,U,U,U,aa⟩ λE' h' ah aJ w1 w2 w3 w4 s' I=>⟨aa,fin (o:=some e.2) ho w1 w2 w3 w4 s' I⟩
  .have s:=s.ae [2,0,1,1];have s:Sat h (aW x n 0 (pgG now dz n) (es'.map eE)::_):=aT.2 ⟨bv3,cv3,us3,s⟩;have s:=OJ (i:=i) (s.ae [1,3]);have s:=s.ae [6,2,0,2,0,1,0];refine zk 6 U ?_;refine AW (pv:=.aZ) (was:=true) (v:=cl) (w:=w) (e0:=7) (ot:=ot) (root:=root) (R:=R) (L:=L) hT hB hN q5 hw AO tV Qz CG fb o9 hL (Jf _) (.inr ⟨U,by rw[o7,ku,cL];omega,by rw[o7,ku,cL,cj];omega,by rw[o7];exact s⟩) ⟨U,U,U,U,U,U,U,U,aa⟩ λE' h' ah aJ w1 w2 w3 w4 s' I=>⟨aa,fin (o:=some e.2) ho w1 w2 w3 w4 s' I⟩
 |false =>
  rw[hq] at CG fin;have ho:=hl.none q2 hq;have fb:AN es' i false (k,val)≠[]:=G0 (by show 0<(dh i (k,val) es').length;rw[lu hl.le];omega);have o7:(AN es' i false (k,val)).map eE=dh i (eE (k,val)) (es'.map eE):=by simp[AN,dh,rI,tD]
  refine zk 17 U (au.any U U U (OpR.of (R:=λv h'=>v=.sl h.next 0 1 (.exact 1)/\h'=h.new (.cells 1 [cb] false)) (iZ U (Wi aO lQ dQ U D5.1 D5.2)) ⟨U,U⟩) ?_)
  rintro v' h' ⟨rfl,rfl⟩;have s:=s.new (.cells 1 [cb] false);refine zc U (TF hT (s.ae [1]) D5.2 (by rw[ou];exact hl.le) (by omega)) ?_;intro iv h s;have s:=s.ae [3,5];refine zk 5 U (zY s 4 nP b8 U (zk 2 U (zc U (Ln hW (i:=i) s (bC _ _) (bC _ _) lD (by rw[cj];exact hl.le) (by omega)) ?_)));rintro v0 h (⟨hf,pv,b',rfl,uH,s⟩|⟨hf,rfl,s⟩)
  .have s:=s.ae [5,1,3,3];have s:Sat h (aW x n 0 (pgG now dz n) (es'.map eE)::_):=aT.2 ⟨bv,cv,us,s⟩;have s:=((((s.del 5).del 4).del 3).del 2).ir (φ:=V.aZ=.aZ) U;have s:Sat h (yh .aZ none::_):=s;have s:=s.ae [3,2,1,0];refine zk 6 U ?_;refine AW (was:=false) (v:=iv) (us:=us) (w:=w) (e0:=0) (ot:=ot) (root:=root) (R:=R) (L:=L) hT hB hN q5 hw AO tV Qz CG fb o9 hL (Jf _) (.inl ⟨U,b',by rw[o7];exact uH,s⟩) ⟨U,U,U,U,U,U,U,U,aa⟩ λE' h' ah aJ w1 w2 w3 w4 s' I=>⟨aa,fin (o:=none) ho w1 w2 w3 w4 s' I⟩
  .have s:=(s.ae [5]).dup (bf.qO _ _);have s:=OG (i:=i) (s.ae [3,0]);have s:=s.ae [5,2,3,1];have s:Sat h (aW x n 0 (pgG now dz n) (es'.map eE)::_):=aT.2 ⟨bv,cv,us,s⟩;have s:=s.ir (φ:=V.aZ=.aZ) U;have s:Sat h (yh .aZ none::_):=s;have s:=s.ae [6,3,2,2,1,1,0];dsimp only[aL,bringA,getA] at s;refine zk 6 U ?_;refine AW (pv:=.aZ) (was:=false) (v:=iv) (w:=w) (e0:=7) (ot:=ot) (root:=root) (R:=R) (L:=L) hT hB hN q5 hw AO tV Qz CG fb o9 hL (Jf _) (.inr ⟨U,by rw[o7,ku,lu (by rw[cj];exact hl.le),wM];omega,by rw[o7,ku,lu (by rw[cj];exact hl.le),wM,cj];omega,by rw[o7];exact s⟩) ⟨U,U,U,U,U,U,U,U,aa⟩ λE' h' ah aJ w1 w2 w3 w4 s' I=>⟨aa,fin (o:=none) ho w1 w2 w3 w4 s' I⟩
end
def cZ (es:List En): List V:=es.flatMap λe=>[.str e.1,.str e.2]
theorem dW : ∀(l:List En),(cZ l).length=l.length*2:=by
 intro l;induction l with
 |nil=>rfl
 |cons e l I=>rw[cZ,eG,aN];show 2+(cZ l).length=_;rw[I,aX];omega
theorem AX {a b:List En}: cZ (a++b)=cZ a++cZ b:=nk
theorem ZS : ∀ {l:List En} {j:Nat} {e:En},l[j]?=some e->((cZ l).drop (j*2)).take 2=[.str e.1,.str e.2]:=by
 intro l;induction l with
 |nil=>simp
 |cons a t ih =>
  intro j e I;cases j with
  |zero =>
   simp only[j9,aA] at I;subst I;rfl
  |succ j =>
   rw[show cZ (a::t)=[.str a.1,.str a.2]++cZ t from U,show(j+1)*2=2+j*2 by omega,<-yC];exact ih I
theorem Jg : ∀ {a b:List Nat},lessL a b=decide (a<b):=by
 intro a;induction a with
 |nil=>intro b;cases b with
  |nil=>rfl
  |cons y b=>simp[lessL]
 |cons x a ih=>intro b;cases b with
  |nil=>simp[lessL]
  |cons y b =>
   simp only[lessL,G3,ih];by_cases I:x<y
   .simp[I,Nat.blt_eq]
   .by_cases h2:x=y
    .subst h2;simp
    .have e1:Nat.blt x y=false:=by
      cases q:Nat.blt x y with
      |false=>rfl
      |true=>exact absurd (gj.1 q) I
     rw[e1,fO h2];simp[I,h2]
section
variable {P:Program} {h:H} {v:V}
theorem z7 (hu:P.underlying t=some (.slice te))(I:bq P te=some 2)(he:es[i]?=some e)(s:Sat h (.arr 2 v (cZ es)::S)):
  ∃id off,indexAddrV P t v (.int .i64 (i:Int))=some (.ptr id off)/\(∀t',isAggT P t'=some false->loadV P h t' (.ptr id off)=some (.str e.1))/\(∀t',isAggT P t'=some false->loadV P h t' (.ptr id (off+1))=some (.str e.2)) /\
   (isAggT P te=some true->loadV P h te (.ptr id off)=some (.agg [.str e.1,.str e.2])):=by
 have hi:=(List.getElem?_eq_some_iff.1 he).1;have hb:i*2+2<=(cZ es).length:=by rw[dW];omega
 rcases (s.B2 (j:=0) U (jg _ _ _)).2 with⟨_,q⟩|⟨id,n,cap,N,rest,rfl,hg,e1,e2,_⟩
 .rw[q] at hb;simp at hb
 .have hd:((cZ es++rest).drop (i*2)).take 2=[.str e.1,.str e.2]:=by
   rw[<-ZS he,GW (by omega),GX (by rw[fD];omega)]
  rw[dW] at e1;refine⟨id,i*2,?_,λt' ht=>BP ht hg ?_,λt' ht=>BP ht hg ?_,λht => ?_⟩
  .simp only[indexAddrV,hu,I,fS];rw[show(decide ((0:Int)<=(i:Int))&&decide ((i:Int)<(n:Int)))=true by simp;omega,ag,eW]
  .rw[gB];have:=dg (λl=>l[0]?) hd;simpa[hO,fB] using this
  .rw[gB];have:=dg (λl=>l[1]?) hd;simpa[hO,fB] using this
  .simp only[loadV,ht,I];rw[pL hg (by rw[aN];exact e2),hd];rfl
end
theorem TH (h:fI es k=none\/e.1≠k): fI (es++[e]) k=if e.1=k then some e.2 else fI es k:=by
 rw[EN];have I:fI [e] k=if e.1=k then some e.2 else none:=by
  by_cases q:e.1=k<;>simp[fI,q]
 rw[I];by_cases q:e.1=k
 .rw[ay q,ay q];rcases h with h|h
  .rw[h];rfl
  .exact absurd q h
 .rw[ai q,ai q];cases fI es k<;>rfl
theorem L3 : ∃i,Tryz.prog.info? 53=some i/\i.size=2/\i.bytes<=4096 :=
 ⟨_,(show Tryz.prog.info? 53=some ((Tryz.prog.info? 53).getD default) by kernel_rfl),by kernel_rfl,rC (by kernel_rfl)⟩
def kO (es:List En)(k:Ky): List En:=es.filter λe=>decide (e.1≠k)
section
variable {told:cu} {h:H}
theorem EX {wv:V}{c:List En}(hl:c.length<=1000)(s:Sat h (.arr 2 wv (cZ c)::S)): ∃I h1 w h2,buildSliceV Tryz.prog h 28 1 [(0,.agg [.str e.1,.str e.2])]=some (I,h1)/\appendV Tryz.prog h1 #[28,28] wv I=some (w,h2)/\Sat h2 (.arr 2 w (cZ (c++[e]))::S):=by
 obtain⟨i1,c9,fc,pP⟩:=L3;obtain⟨I,h1,e1,s1⟩:=kY (P:=Tryz.prog) (k:=2) (x:=.agg [.str e.1,.str e.2]) s iy Py Aq U (by decide) (by decide) U U;obtain⟨w,h2,e2,s2⟩:=iw (s1.ae [1,0]) iy c9 Py fc pP U (by decide) (by rw[dW];simp[V.cells];omega);have s2:=s2.del 1;exact⟨I,h1,w,h2,e1,e2,by rw[AX];exact s2⟩
noncomputable def ltL : Code:=cX [1,1,1,1,0,1,0,0] ((Tryz.f22.body).getD .skip)
theorem TI (hT:W told)(fE:(es.map (·.1)).Nodup)(hlen:es.length<=400): ∀(j i:Nat) (v:V) (h:H) (E:List (Nat×V)) (Q:Ex->List (Nat×V)->H->Prop),i+j=es.length ->
  Sat h (.arr 2 v (cZ (kO (es.take i) k))::.arr 2 lv (cZ es)::S)->Has E [(0,lv),(1,.str k),(7,v),(8,.str ((fI (es.take i) k).getD [])),(9,.bool (fI (es.take i) k).isSome),(10,.int .i64 (i:Int))] ->
  (∀E' h' v',Has E' [(7,v'),(8,.str ((fI es k).getD [])),(9,.bool (fI es k).isSome)]->Sat h' (.arr 2 v' (cZ (kO es k))::.arr 2 lv (cZ es)::S)->Q (.exit 0) E' h')->WP ⟨Tryz.prog,told⟩ 39 (.loop ltL) E h Q:=by
 intro j;induction j with
 |zero =>
  intro i v h E Q hi s hE hq;have hi:i=es.length:=hi;subst hi;rw[jP] at hE s;have hlv:=s.fq (P:=Tryz.prog) (j:=1) (n:=es.length) U (dW _) (by decide) iy;refine WP.loop (WP.has hE (zK 5 U (zo U (aC U U U hlv) (zC U aK (by simp) ?_))));exact zk 2 U (WP.exit (hq _ _ v ⟨U,U,U,aa⟩ s))
 |succ j ih =>
  intro i v h E Q hi s hE hq;obtain⟨e,he⟩:∃e,es[i]?=some e:=⟨_,aF (by omega)⟩;have hlv:=s.fq (P:=Tryz.prog) (j:=1) (n:=es.length) U (dW _) (by decide) iy;have s0:=s.ae [1];dsimp only[bringA,getA,aL] at s0;obtain⟨id,off,e1,e2,e3,e4⟩:=z7 (P:=Tryz.prog) iy Aq he s0;have qt:es.take (i+1)=es.take i++[e]:=by rw[nA,he];rfl
  have wW:fI (es.take i) k=none\/e.1≠k:=by
   by_cases q:e.1=k
   .refine .inl (xH λd hd hdk => ?_);have h1:(es.take (i+1)).map (·.1) |>.Nodup:=(rI (f:=λe:En=>e.1) (l:=es) (i:=i+1)) ▸ fE.sublist (List.take_sublist _ _);rw[qt,rG,mE] at h1;exact h1.2.2 d.1 (nj hd) e.1 (by simp) (by rw[hdk,q])
   .exact .inr q
  have I:=TH wW;rw[<-qt] at I;have QA:kO (es.take (i+1)) k=if e.1=k then kO (es.take i) k else kO (es.take i) k++[e]:=by
   unfold kO;rw[qt,oJ];by_cases q:e.1=k<;>simp[q]
  refine WP.loop (WP.has hE (zK 5 U (zo U (aC U U U hlv) (zB U aK (by simp;omega) ?_))));refine zk 4 U (WP.block (zK 4 U (zo U (bM (r:=.ptr id off) U U e1) (zf U (FL _ _) (zl U (e2 _ RY) ?_)))));by_cases q:e.1=k
  .rw[ay q] at I QA;refine zm U (zo U (aq (r:=.bool true) U U (by simp only[binV,strV,qI,q,C_])) ?_);refine zv (zi U (zr U (zk 2 U (zo U (bM (r:=.ptr id off) U U e1) (zf U (aa6 _ _) (zl U (e3 _ RY) (zk 2 U (zv (zr U (zm U (zb U (by exact aM ak) ?_)))))))))));refine za U (zv ?_);exact ih (i+1) v _ _ Q (by omega) (by rw[QA];exact s) ⟨U,U,U,by rw[I];rfl,by rw[I];rfl,U,aa⟩ hq
  .rw[ai q] at I QA;obtain⟨xv,h1,w,h2,f1,f2,s2⟩:=EX (e:=e) (by have:=CS (λe:En=>decide (e.1≠k)) (es.take i);rw[cz] at this;unfold kO;omega) s;refine zm U (zo U (aq (r:=.bool false) U U (by simp only[binV,strV,qI,q,yF])) ?_);refine zk 6 U (zo U (bM (r:=.ptr id off) U U e1) (zl U (e4 UZ) (au.any U U U (OpR.of (R:=λv h'=>v=xv/\h'=h1) (iZ U f1) ⟨U,U⟩) ?_)));rintro xv h1 ⟨rfl,rfl⟩;refine au.any U U U (OpR.of (R:=λv h'=>v=w/\h'=h2) (jc U U f2) ⟨U,U⟩) ?_;rintro w h2 ⟨rfl,rfl⟩;refine za U (zv (zr U (zm U (zb U (by exact aM ak) ?_))));refine za U (zv ?_);exact ih (i+1) _ _ _ Q (by omega) (by rw[QA];exact s2) ⟨U,U,U,by rw[I];rfl,by rw[I];rfl,U,aa⟩ hq
theorem Wp (hT:W told)(I:(es.map (·.1)).Nodup)(hlen:es.length<=400)(s:Sat h (.arr 2 lv (cZ es)::S)):
  Call ⟨Tryz.prog,told⟩ 22 [lv,.str k] h λv h'=>∃v',v=.aV [v',.str ((fI es k).getD []),.bool (fI es k).isSome]/\Sat h' (.arr 2 v' (cZ (kO es k))::.arr 2 lv (cZ es)::S):=by
 refine Call.of_wp (hT.free _ U) Tryz.func22 U U (zK 23 U (WP.block ?_));have s:=s.lJ (k:=2);refine TI hT I hlen es.length 0 .aZ _ _ _ (by omega) s ⟨U,U,U,U,U,U,aa⟩ λE' h' v' dY s' => ?_;have s:=s';exact WP.has dY (zK 9 U (WP.ret ⟨aa,_,U,v',U,s⟩))
end
theorem TJ (a b:Ky): a<b\/a=b\/b<a:=by
 by_cases I:a<b
 .exact .inl I
 .by_cases h2:b<a
  .exact .inr (.inr h2)
  .exact .inr (.inl (List.le_antisymm (List.not_lt.1 h2) (List.not_lt.1 I)))
theorem TK : ∀ {es:List En},(es.Pairwise λa b=>a.1<b.1)->kO es k=es.filter (λe=>decide (e.1<k))++es.filter (λe=>decide (k<e.1)):=by
 intro es;induction es with
 |nil=>intro _;rfl
 |cons e t I =>
  intro hs;obtain⟨h1,h2⟩:=List.pairwise_cons.1 hs;have I:=I h2;unfold kO at I ⊢;simp only[ne_eq,decide_not] at I ⊢;rcases TJ e.1 k with q|q|q
  .have a:e.1≠k:=λx=>absurd (x ▸ q) (jQ _);have b:¬ k<e.1:=λx=>rJ x q;simp[a,b,q,I]
  .have c:t.filter (λe=>decide (e.1<k))=[]:=List.filter_eq_nil_iff.2 λd hd=>by
    have:=h1 d hd;rw[q] at this;simpa using λx=>rJ x this
   rw[c] at I;simp[q,I,c,jQ]
  .have a:e.1≠k:=λx=>absurd (x ▸ q) (jQ _);have b:¬ e.1<k:=λx=>rJ x q;have c:t.filter (λe=>decide (e.1<k))=[]:=List.filter_eq_nil_iff.2 λd hd=>by
    have:=List.lt_trans q (h1 d hd);simpa using λx=>rJ x this
   rw[c] at I;simp[a,b,q,I,c]
theorem ada {A B:List En}(I:∀e∈A,e.1<k)(hB:∀e∈B,k<e.1)(he:(A++B)[i]?=some e): (e.1<k↔i<A.length):=by
 by_cases q:i<A.length
 .rw[rA q] at he;exact⟨λ_=>q,λ_=>I e (aI he)⟩
 .rw[iz (by omega)] at he;exact⟨λx=>absurd x (rJ (hB e (aI he))),λx=>absurd x q⟩
section
variable {told:cu} {h:H} {A B:List En} {val:Ky}
noncomputable def lpL : Code:=cX [1,1,1,0,1,0,0] ((Tryz.f15.body).getD .skip)
theorem Wq (hT:W told)(hA:∀e∈A,e.1<k)(hB:∀e∈B,k<e.1)(hlen:(A++B).length<=400){XD x11:V}: ∀(j i:Nat) (h:H) (E:List (Nat×V)) (Q:Ex->List (Nat×V)->H->Prop),i+j=(A++B).length ->
  Sat h (.arr 2 rv (cZ (A++B))::S)->Has E [(1,.str k),(2,vv),(9,rv),(10,XD),(11,x11),(12,.int .i64 ((min i A.length:Nat):Int)),(13,.int .i64 (i:Int))] ->
  (∀E' h',Has E' [(1,.str k),(2,vv),(9,rv),(10,XD),(11,x11),(12,.int .i64 (A.length:Int))]->Sat h' (.arr 2 rv (cZ (A++B))::S)->Q (.exit 0) E' h')->WP ⟨Tryz.prog,told⟩ 55 (.loop lpL) E h Q:=by
 have hAl:A.length<=(A++B).length:=by rw[aN];omega
 intro j;induction j with
 |zero =>
  intro i h E Q hi s hE hq;have hi:i=(A++B).length:=hi;subst hi;rw[Nat.min_eq_right hAl] at hE;have I:=s.fq (P:=Tryz.prog) (j:=0) (n:=(A++B).length) U (dW _) (by decide) iy;refine WP.loop (WP.has hE (zK 5 U (zo U (aC U U U I) (zC U aK (by simp) ?_))));exact zk 2 U (WP.exit (hq _ _ ⟨U,U,U,U,U,U,aa⟩ s))
 |succ j ih =>
  intro i h E Q hi s hE hq;obtain⟨e,he⟩:∃e,(A++B)[i]?=some e:=⟨_,aF (by omega)⟩;have I:=s.fq (P:=Tryz.prog) (j:=0) (n:=(A++B).length) U (dW _) (by decide) iy;obtain⟨id,off,e1,e2,_,_⟩:=z7 (P:=Tryz.prog) iy Aq he s;have jF:=ada hA hB he;refine WP.loop (WP.has hE (zK 5 U (zo U (aC U U U I) (zB U aK (by rw[aN] at hi ⊢;simp;omega) ?_))));refine zk 4 U (WP.block (zK 4 U (zo U (bM (r:=.ptr id off) U U e1) (zf U (FL _ _) (zl U (e2 _ RY) ?_)))));by_cases q:e.1<k
  .have hm:min (i+1) A.length=i+1:=by have:=jF.1 q;omega
   refine zm U (zo U (aq (r:=.bool true) U U (by simp only[binV,strV,Jg,q,C_])) ?_);refine zk 4 U (zb U (by exact aM ak) ?_);refine za U (zv (zr U (zm U (zb U (by exact aM ak) ?_))));refine za U (zv ?_);exact ih (i+1) _ _ Q (by omega) s ⟨U,U,U,U,U,by rw[hm];rfl,U,aa⟩ hq
  .skip;refine zm U (zo U (aq (r:=.bool false) U U (by simp only[binV,strV,Jg,q,yF])) ?_);refine zv (zj U (WP.skip (zr U (zm U (zb U (by exact aM ak) ?_)))));refine za U (zv ?_);have hm:min (i+1) A.length=min i A.length:=by
    have:¬ i<A.length:=λx=>q (jF.2 x);omega
   exact ih (i+1) _ _ Q (by omega) s ⟨U,U,U,U,U,by rw[hm];rfl,U,aa⟩ hq
end
section
variable {P:Program} {h:H} {v:V} {cs:List V} {k:Nat}
theorem L4 {m:Nat}(xS:srcV h k w=some (ds,m))(hm:ds.length=m*k)(sJ:ds.all storable=true)(s:Sat h (.arr k v cs::S)){e:TypeId}{i:TypeInfo}(hu:P.underlying t=some (.slice e))(hi:P.info? e=some i)(hz:zeroT P e=some z)(hk:i.size=k)(hb:i.bytes<=4096)(hl:z.cells.length=k)
 (h1:1<=k)(fY:cs.length+ds.length<=1073741824):
  ∃v' h',appendV P h #[t,t] v w=some (v',h')/\Sat h' (.arr k v' (cs++ds)::S):=by
 have adP:=s.JM (j:=0) U;have kK:(cs++ds).all storable=true:=by grind
 have I:∀n:Nat,n*k=cs.length->lB (n+m) i.bytes=true:=λn hn=>by
  have e2:n+m<=(n+m)*k:=Nat.le_mul_of_pos_right _ h1;have e3:(n+m)*i.bytes<=(n+m)*4096:=CV _ hb;grind[ow]
 have pH:∀(σ:H) (n:Nat) (T:List aG),Sat σ T->n*k=cs.length->1<=m->Sat (j6 σ k cs ds (n+m)).2 (.arr k (j6 σ k cs ds (n+m)).1 (cs++ds)::T):=by
  intro σ n T sT hn o7;refine(sT.new (.cells ((n+m)*k) (cs++ds) false)).eD λa r D3=>⟨kK,.inr ⟨σ.next,n+m,.rest k 0,(n+m)*k,[],U,by rw[gd];exact D3,by grind,by grind,U,U,U,U,by omega⟩⟩
 unfold appendV;simp only[hu,hi,hz,hk,hl,xS];rw[show(Nat.ble 1 k&&Nat.ble i.bytes 4096&&Nat.beq k k)=true by simp_all,ag];cases Bx:Nat.beq m 0 with
 |true =>
  have:m=0:=beq_iff.1 Bx;subst this;have xh:ds=[]:=iK (by omega);subst xh;obtain⟨m,r,q1,q2,q3⟩:=s.at (k:=0) U;rcases q3.2 with⟨rfl,rfl⟩|⟨id,n,cap,N,rest,rfl,hg,e1,e2,e3,e4⟩
  .grind
  .grind
 |false =>
  have o7:1<=m:=by
   grind[qT]
  obtain⟨a,r,q1,q2,q3⟩:=s.at (k:=0) U;rcases q3.2 with⟨rfl,rfl⟩|⟨id,n,cap,N,rest,rfl,hg,e1,e2,e3,e4⟩
  .have hg:=I 0 (by simp);rw[eW] at hg;simp only[hg,ag];have:=pH h 0 (.arr k .aZ []::S) s (by simp) o7;rw[eW] at this;refine⟨_,_,U,?_⟩;exact(this.ae [1]).drop
  .cases cap with
   |exact c =>
    obtain⟨e4,e5⟩:=e4;simp only[eW];have kU:(cs++rest).take cs.length=cs:=ga U;cases hq:Nat.ble (n+m) c with
    |true =>
     have Bt:=aR.1 hq;have dL:n*k+ds.length<=N:=by rw[hm,<-yG,e4];exact qb _ Bt
     rw[yZ (q1 _ _ hg) (by grind) dL];obtain⟨m',r',p1,p2,p3,x1,x2,x3,x4,x5,⟨_,x6⟩,x7⟩:=s.ok;have pG:x1 id=some (.cells N (cs++rest) false):=by
      rcases x6 with⟨x6,_⟩|⟨wS,n',Ej,N',Xr,x6,x8,x9,XD,_⟩
      .cases x6
      .injection x6 with y1 y2 y3 y4;subst y1;rw[x8];have:=p1 _ _ (x4 _ _ x8);rw[q1 _ _ hg] at this;injection this with this;rw[this]
     have s0:Sat h (pt id (.cells N (cs++rest) false)::S):=⟨s.wf,m',r',p1,p2,p3,x1,x2,x3,x4,x5,pG,x7⟩;have s1:=s0.put (k:=0) (o':=.cells N ((cs++rest).take (n*k)++(ds++(cs++rest).drop (n*k+ds.length))) false) U;refine⟨_,_,U,Sat.eD s1 λa' r'' ha=>⟨kK,.inr ⟨id,n+m,.exact c,N,rest.drop ds.length,U,?_,by grind,by grind,?_,e4,Bt⟩⟩⟩
     .have ha':a' id=some (.cells N ((cs++rest).take (n*k)++(ds++(cs++rest).drop (n*k+ds.length))) false):=ha;simp_all[vE]
     .grind
    |false =>
     rw[aS,I n e1.symm,ag,pL (q1 _ _ hg) (by grind)];rw[gi,<-e1,kU];have:=pH h n _ s e1.symm o7;exact⟨_,_,U,(this.ae [1]).drop⟩
   |rest e' alt =>
    obtain⟨ek,rfl,rfl,e7⟩:=e4;have ek:=ek.symm;subst ek;simp only[kg,ag,gd,eW] at hg e2 ⊢;have v7:fJ h id 0 k=n:=by
     simp only[fJ,q1 _ _ hg];grind[Nat.mul_div_cancel]
    rw[v7];rw[show Nat.ble (n+m) n=false by
     grind[aR],aS,I n e1.symm,show Nat.ble 2 ((n+m)*k)=true from aR.2 (by
      have:2*1<=(n+m)*k:=tC (by omega) h1;omega),kf,ag,pL (q1 _ _ hg) (by omega),q1 _ _ hg]
    simp only;obtain⟨m',r',p1,p2,p3,x1,x2,x3,x4,x5,⟨_,x6⟩,x7⟩:=s.ok;have pG:x1 id=some (.cells N cs false):=by
     grind
    have s0:Sat h (pt id (.cells N cs false)::S):=⟨s.wf,m',r',p1,p2,p3,x1,x2,x3,x4,x5,pG,x7⟩;have:=pH (h.put id none) n _ s0.kill e1.symm o7;rw[gi,g_ (by omega)];exact⟨_,_,U,this⟩
end
section
variable {told:cu} {P:Program} {h:H} {m:Nat} {val:Ky}
theorem TL : cZ (es.take m)=(cZ es).take (m*2):=by
 by_cases hm:m<=es.length
 .have:cZ es=cZ (es.take m)++cZ (es.drop m):=by rw[<-AX,jO]
  rw[this,ga (by rw[dW,cz];omega)]
 .rw[g_ (by omega),g_ (by rw[dW];omega)]
theorem TM : cZ (es.drop m)=(cZ es).drop (m*2):=by
 by_cases hm:m<=es.length
 .have:cZ es=cZ (es.take m)++cZ (es.drop m):=by rw[<-AX,jO]
  rw[this,vH (by rw[dW,cz];omega)]
 .rw[tq (by omega),tq (by rw[dW];omega)];rfl
theorem L5 {off len:Nat}{row:List V}(I:T.get h.tr id=some (.cells N row false))(hl:row.length=N)(hb:off+len*2<=N): srcV h 2 (.sl id off len cap)=some ((row.drop off).take (len*2),len):=by
 simp only[srcV,pL I hl hb,gO]
theorem OL (hu:P.underlying t=some (.slice te))(pY:bq P te=some 2)(s:Sat h (.arr 2 rv (cZ es)::S))(hm:m<=es.length):
  (∃w,sliceV P h t rv none (some m) none=some w/\srcV h 2 w=some (cZ (es.take m),m))/\∃w,sliceV P h t rv (some m) none none=some w/\srcV h 2 w=some (cZ (es.drop m),es.length-m):=by
 rcases (s.B2 (j:=0) U (jg _ _ _)).2 with⟨rfl,q⟩|⟨id,n,cap,N,rest,rfl,hg,e1,e2,_,e4⟩
 .have h0:es.length=0:=by have:=dg List.length q;rw[dW,bY] at this;omega
  have:es=[]:=iK h0;subst this;have Bx:m=0:=by simpa using hm
  subst Bx;exact⟨⟨.aZ,by simp only[sliceV,hu,pY];rfl,U⟩,⟨.aZ,by simp only[sliceV,hu,pY];rfl,U⟩⟩
 .rw[dW] at e1 e2;have hn:n=es.length:=by omega
  subst hn;have hl:(cZ es++rest).length=N:=by rw[aN,dW];exact e2
  have k1:((cZ es++rest).drop 0).take (m*2)=cZ (es.take m):=by
   rw[gi,GX (by rw[dW];omega),TL]
  have k2:((cZ es++rest).drop (m*2)).take ((es.length-m)*2)=cZ (es.drop m):=by
   rw[GW (by rw[dW];omega),ga (by rw[fD,dW];omega),TM]
  have s1:∀I,srcV h 2 (.sl id 0 m I)=some (cZ (es.take m),m):=λI=>by rw[L5 hg hl (by omega),k1]
  have s2:∀I,srcV h 2 (.sl id (m*2) (es.length-m) I)=some (cZ (es.drop m),es.length-m):=λI=>by rw[L5 hg hl (by omega),k2]
  cases cap with
  |exact c =>
   have e4:N=c*2/\es.length<=c:=e4;refine⟨⟨_,?_,s1 (.exact c)⟩,?_⟩
   .simp only[sliceV,hu,pY,fC,dw];rw[show(Nat.ble 0 m&&Nat.ble m c)=true by simp;omega,ag,mH,eH,h_,h_];cases Nat.beq c 0<;>rfl
   .by_cases Cb:c=m
    .refine⟨.sl id 0 (es.length-m) (.exact (c-m)),?_,?_⟩
     .simp only[sliceV,hu,pY,fC,dw];rw[show(Nat.ble m es.length&&Nat.ble es.length c)=true by simp;omega,ag,qT Cb,ag]
     .have h0:es.length-m=0:=by omega
      rw[L5 hg hl (by omega),h0,tq (by omega:es.length<=m)];simp[cZ]
    .refine⟨_,?_,s2 (.exact (c-m))⟩;simp only[sliceV,hu,pY,fC,dw];rw[show(Nat.ble m es.length&&Nat.ble es.length c)=true by simp;omega,ag,fO Cb,aS,eW]
  |rest z alt =>
   have e4:z=2/\_:=e4;have hz:(Nat.beq z 2&&Nat.ble 1 2)=true:=by simp[e4.1]
   refine⟨⟨.sl id 0 m (.rest 2 (cond (Nat.beq 0 0) alt (cond (Nat.blt 0 m) 0 0))),?_,s1 _⟩,⟨.sl id (m*2) (es.length-m) (.rest 2 (cond (Nat.beq m 0) alt (cond (Nat.blt m es.length) (0+m*2) 0))),?_,s2 _⟩⟩
   .simp only[sliceV,hu,pY,fC,dw];rw[hz,ag,show(Nat.ble 0 m&&(Nat.ble m es.length||Nat.ble m (fJ h id 0 2)))=true by simp;omega,ag];simp
   .simp only[sliceV,hu,pY,fC,dw];rw[hz,ag,show(Nat.ble m es.length&&(Nat.ble es.length es.length||Nat.ble es.length (fJ h id 0 2)))=true by simp;omega,ag,eW]
end
section
variable {told:cu} {h:H} {val:Ky}
theorem OM : (cZ es).all storable=true:=by
 rw[nB];intro v hv;obtain⟨e,_,I⟩:=List.mem_flatMap.1 hv;simp only[gz,ke,nG] at I;rcases I with rfl|rfl<;>rfl
theorem L6 : (rq es k val).length<=es.length+1:=by
 unfold rq;induction es with
 |nil=>simp
 |cons e t I =>
  rcases TJ e.1 k with q|q|q
  .have b:¬ k<e.1:=λx=>rJ x q;simp[q,b] at I ⊢;omega
  .simp[q,jQ] at I ⊢;omega
  .have b:¬ e.1<k:=λx=>rJ x q;simp[q,b] at I ⊢;omega
theorem ZT (hT:W told)(hs:es.Pairwise λa b=>a.1<b.1)(hlen:es.length<=300)(s:Sat h (.arr 2 lv (cZ es)::S)):
  Call ⟨Tryz.prog,told⟩ 15 [lv,.str k,.str val] h λv h'=>∃v',v=.aV [v',.str ((fI es k).getD []),.bool (fI es k).isSome]/\Sat h' (.arr 2 v' (cZ (rq es k val))::S):=by
 have fE:(es.map (·.1)).Nodup:=by
  rw[Ni,List.pairwise_map];exact hs.imp λh q=>absurd (q ▸ h) (jQ _)
 obtain⟨i1,I,fc,pP⟩:=L3;refine Call.of_wp (hT.free _ U) Tryz.func15 U U (zK 10 U (zc U (Wp hT fE (by omega) s) ?_));rintro v h ⟨rv,rfl,s⟩;obtain⟨A,hA⟩:∃A,A=es.filter (λe=>decide (e.1<k)):=⟨_,U⟩;obtain⟨B,hB⟩:∃B,B=es.filter (λe=>decide (k<e.1)):=⟨_,U⟩;have hAB:kO es k=A++B:=by rw[hA,hB];exact TK hs
 have uR:rq es k val=A++[(k,val)]++B:=by rw[hA,hB];simp[rq]
 have Nq:A.length<=es.length:=by rw[hA];exact CS _ _
 have KR:B.length<=es.length:=by rw[hB];exact CS _ _
 have Jf:∀e∈A,e.1<k:=λe he=>by rw[hA] at he;exact rC (List.mem_filter.1 he).2
 have hB1:∀e∈B,k<e.1:=λe he=>by rw[hB] at he;exact rC (List.mem_filter.1 he).2
 have aep:(kO es k).length<=es.length:=CS _ _;rw[hAB] at s aep;rw[uR];refine zk 17 U (WP.block (Wq hT Jf hB1 (by omega) (A++B).length 0 _ _ _ (by omega) s ⟨U,U,U,U,U,by rw[Nat.zero_min];rfl,U,aa⟩ λE' h' dY s' => ?_));have s:=s';refine WP.has dY ?_;obtain⟨w1,f1,f2⟩:=(OL (P:=Tryz.prog) (m:=A.length) iy Aq s (by rw[aN];omega)).1;rw[ga U] at f2;have s:=s.lJ (k:=2);obtain⟨v2,h2,g1,s2⟩:=L4 (P:=Tryz.prog) f2 (dW A) OM s iy I Py fc pP U (by decide) (by rw[dW];simp;omega);rw[dJ] at s2;refine zK 9 U (zo U (bK (p:=none) (q:=some (.int .i64 (A.length:Int))) (m:=none) (p':=none) (q':=some A.length) (m':=none) U U U U U (by rw[bN];rfl) U f1) ?_);refine au.any U U U (OpR.of (R:=λv h'=>v=v2/\h'=h2) (jc U U g1) ⟨U,U⟩) ?_;rintro v2 h2 ⟨rfl,rfl⟩;obtain⟨xv,h3,w3,h4,f3,f4,s3⟩:=EX (e:=(k,val)) (by omega) s2;refine zk 7 U (zo U (cI (r:=.agg [.str k,.str val]) U (by rw[aa7];rfl)) ?_);refine au.any U U U (OpR.of (R:=λv h'=>v=xv/\h'=h3) (iZ U f3) ⟨U,U⟩) ?_;rintro xv h3 ⟨rfl,rfl⟩;refine au.any U U U (OpR.of (R:=λv h'=>v=w3/\h'=h4) (jc U U f4) ⟨U,U⟩) ?_;rintro w3 h4 ⟨rfl,rfl⟩;have s4:=s3.ae [1];obtain⟨w5,f5,f6⟩:=(OL (P:=Tryz.prog) (m:=A.length) iy Aq s4 (by rw[aN];omega)).2;have hBl:(A++B).length-A.length=B.length:=by rw[aN];omega
 rw[vH U,hBl] at f6;obtain⟨v6,h6,g6,s6⟩:=L4 (P:=Tryz.prog) f6 (dW B) OM s3 iy I Py fc pP U (by decide) (by rw[dW,dW];simp;omega);rw[<-AX] at s6;refine zk 7 U (zo U (bK (p:=some (.int .i64 (A.length:Int))) (q:=none) (m:=none) (p':=some A.length) (q':=none) (m':=none) U U U U (by rw[bN];rfl) U U f5) ?_);refine au.any U U U (OpR.of (R:=λv h'=>v=v6/\h'=h6) (jc U U g6) ⟨U,U⟩) ?_;rintro v6 h6 ⟨rfl,rfl⟩;have s:=(s6.del 2).del 1;exact zk 6 U (WP.ret ⟨aa,_,U,_,U,s⟩)
end
section
variable {told:cu} {h:H}
theorem Ws : fM 0 (eE e)=e.1:=r7
theorem L7 (I:W told)(jK:js lo hi es)(he:es[i]?=some e)(s:Sat h (aW x n 0 b (es.map eE)::S)):
  Call ⟨Tryz.prog,told⟩ 56 [.ptr x 0,.int .i64 (i:Int)] h λv h'=>∃kv vv,v=.aV [kv,vv,.bool true,.int .i64 0]/\Sat h' (aY kv e.1::aY vv e.2::aW x n 0 b (es.map eE)::S):=by
 obtain⟨c1,c2,c3⟩:=vV jK he;obtain⟨z1,z2,z3⟩:=jK.sz e (aI he);refine Call.of_wp (I.free _ U) Tryz.func56 U U (zK 11 U (zc U (oR I c1 c2 (by omega) c3 s) ?_));intro kv h s;rw[Ws] at s;refine zc U (r_ I s (bC _ _) (by omega)) ?_;intro kb h s;have s:=(s.del 1).ae [1];refine zk 2 U (zc U (DH I c1 c2 c3 s) ?_);intro vv h s;rw[DL] at s;refine zc U (r_ I s (bC _ _) (by omega)) ?_;intro vb h s;exact zk 5 U (WP.ret ⟨aa,_,U,kb,vb,U,(s.del 1).ae [2,0,0]⟩)
end
theorem Nv.lvl (h:Nv (cU []) P L lo hi cs es ps)(I:ps.Nodup)(hn:es.length<1024): L<=10:=by
 obtain⟨_,h2,_⟩:=h.bG I;refine rD λhL => ?_;have h3:=h2 U (by omega);have h4:2^10<=2^(L-1):=yq (by decide) (by omega);omega
section
theorem Nv.whole (h:Nv F P l lo hi cs es ps): Nv F P l [] none cs es ps :=
 h.LC (by cases lo with|nil=>exact nF _|cons x t=>exact oM (vF _ _)) λb I=>by cases I
theorem gW.zero : ∀ {fs:List sU} {l:Nat} {lo:Ky} {hi:Option Ky} {n:Nat} {eL eR:List En} {pO:List Nat},gW F P L r fs l lo hi n eL eR pO->(∀f∈fs,f.i=0)->eL=[]:=by
 intro fs;induction fs with
 |nil=>rintro l lo hi n eL eR pO ⟨_,_,_,_,rfl,_⟩ _;rfl
 |cons f fs I =>
  rintro l lo hi n eL eR pO ⟨fZ,eN,m9,jh,iW,kk,h1,_,_,_,_,_,_,_,_,rfl,_⟩ h0;rw[I h1 λg hg=>h0 g (bw _ hg),h0 f a_];rfl
theorem gW.last : ∀ {fs:List sU} {l:Nat} {lo:Ky} {hi:Option Ky} {n:Nat} {eL eR:List En} {pO:List Nat},gW F P L r fs l lo hi n eL eR pO->(∀f∈fs,f.i+1=f.ks.length)->eR=[]:=by
 intro fs;induction fs with
 |nil=>rintro l lo hi n eL eR pO ⟨_,_,_,_,_,rfl,_⟩ _;rfl
 |cons f fs I =>
  rintro l lo hi n eL eR pO ⟨fZ,eN,m9,jh,iW,kk,h1,_,_,_,_,_,_,_,_,_,rfl,_⟩ h0;rw[I h1 λg hg=>h0 g (bw _ hg),tq (by have:=h0 f a_;omega)];rfl
def ChD (d:Int)(ks:List fV)(i:Nat): Prop:=(0<d->i=0)/\(d<0->i+1=ks.length)
end
section
variable {told:cu} {h:H}
theorem abO (hT:W told)(hd:d=1\/d = -1)(hS:Sep lo hi ks)(hlen:ks.length<=512)(s:Sat h (aW x n l b (bI ks)::pt kb (.cells 1 [.int .i64 d] false)::S)):
  Call ⟨Tryz.prog,told⟩ 135 [.ptr x 0,.ptr kb 0] h λv h'=>∃i:Nat,v=.int .i64 (i:Int)/\ChD d ks i/\i<ks.length/\Sat h' (aW x n l b (bI ks)::pt kb (.cells 1 [.int .i64 d] false)::S):=by
 have hn:0<ks.length:=by
  rcases nq ks.length with q|q
  .exact absurd (iK q) hS.ne
  .exact q
 have s0:=s;obtain⟨bv,cv,us,s⟩:=aT.1 s;have I:lenV Tryz.prog h 98 cv=some (.int .i64 (ks.length:Int)):=by
  have:=gR (P:=Tryz.prog) aO s
  rwa [dI] at this
 refine Call.of_wp (hT.free _ U) Tryz.func135 U U (zK 7 U (zy s 4 bT U ?_));rcases hd with rfl|rfl
 .skip;exact zB U cP (U) (zk 6 U (WP.ret ⟨aa,_,U,0,U,⟨λ_=>U,λq=>by omega⟩,hn,s0⟩))
 .skip;refine zC U cP (U) (zk 7 U (zY s 0 cM gu U (zo U (aC U U U I) (zo U (aq (r:=.int .i64 ((ks.length-1:Nat):Int)) U U (by rw[show((ks.length-1:Nat):Int)=(ks.length:Int)-1 by omega];exact dM ak)) ?_))));exact zk 2 U (WP.ret ⟨aa,_,U,ks.length-1,U,⟨λq=>by omega,λ_=>by omega⟩,by omega,s0⟩)
end
section
variable {told:cu} {A:bk->aG} {c0:List (Nat×Nat)}
theorem adb {P:Program}{e:TypeId}{c:List (Nat×Nat)}{h:H}(hu:P.underlying t=some (.slice e))(I:bq P e=some 2)(hj:c[j]?=some (x,i))(s:Sat h (wyA w c::S)):
  ∃id off,indexAddrV P t w (.int .i64 (j:Int))=some (.ptr id off)/\(∀t',isAggT P t'=some false->loadV P h t' (.ptr id off)=some (.ptr x 0))/\∀t',isAggT P t'=some false->loadV P h t' (.ptr id (off+1))=some (.int .i64 (i:Int)):=by
 have IN:=(List.getElem?_eq_some_iff.1 hj).1;obtain⟨id,cap,N,row,rfl,q1,q2,q3,q4,q5,s⟩:=DM s;have hr:=s.aaW (k:=0) U;have hd:(row.drop (j*2)).take 2=[.ptr x 0,.int .i64 (i:Int)]:=by
  rw[<-OB hj,<-q3,l7,rH,yz (by omega)]
 refine⟨id,j*2,?_,λt' ht=>BP ht hr ?_,λt' ht=>BP ht hr ?_⟩
 .simp only[indexAddrV,hu,I,fS];rw[show(decide ((0:Int)<=(j:Int))&&decide ((j:Int)<(c.length:Int)))=true by simp;omega,ag,eW]
 .rw[gB];have:=dg (λl=>l[0]?) hd;simpa[hO,fB] using this
 .rw[gB];have:=dg (λl=>l[1]?) hd;simpa[hO,fB] using this
noncomputable def nxL : Code:=cX [1,0,1,0,0] ((Tryz.f57.body).getD .skip)
set_option maxHeartbeats 1000000 in
theorem TN (hT:W told)(hR:my told N B rv A pg)(hN:N<=65536)(hL:L<=60)(hd:d=1\/d = -1): ∀(fx:Fx) (l n:Nat) (lo:Ky) (hi:Option Ky) (eL eR:List En) (pO:List Nat) (ε:bk) (c1:List (Nat×Nat)) (h:H) (E:List (Nat×V)) (S:List aG) (Q:Ex->List (Nat×V)->H->Prop),
  gW F P L root (fx.map (·.2)) l lo hi n eL eR pO->EI N B ε->pg ε=P->(∀m∈pO,m<N)->fx.length+l=L ->
  Sat h (wyA w (eT fx++c1)::nodsA P (l+1) fx::A ε::pt kb (.cells 1 [.int .i64 d] false)::S)->Has E [(0,rv),(1,w),(5,.ptr kb 0),(8,.int .i64 ((fx.length:Int)-1))] ->
  (∀E' h' ah,(0<d->eR=[])->(d<0->eL=[])->EI N B ah->Sm N ε ah->Sat h' (A ah::S)->Q (.exit 0) E' h') ->
  (∀E' h' ah y m gL e2 L8 fc,(0<d->eR=gL++e2)->(d<0->eL=e2++gL)->js L8 fc gL->F 0 (gL.map eE)->gL.length<=512->EI N B ah->Sm N ε ah->Has E' [(6,.ptr y 0),(7,.int .i64 0)]->Sat h' (aW y m 0 (P m) (gL.map eE)::A ah::S)->Q .ret E' h')->WP ⟨Tryz.prog,told⟩ 64 (.loop nxL) E h Q:=by
 intro fx
 induction fx with
 |nil =>
  intro l n lo hi eL eR pO ε c1 h E S Q nM b_ eA nZ hlen s hE hq hr
  obtain⟨rfl,rfl,rfl,rfl,rfl,rfl,rfl⟩:=nM
  refine WP.loop (WP.has hE (zK 4 U (zC U j5 (by simp) ?_)))
  exact zk 2 U (WP.exit (hq _ _ ε (λ_=>U) (λ_=>U) b_ (Sm.refl N ε) (((s.del 3).del 1).drop)))
 |cons e t ih =>
  intro l n lo hi eL eR pO ε c1 h E S Q nM b_ eA nZ hlen s hE hq hr
  obtain⟨fZ,eN,m9,jh,iW,kk,h1,h2,h3,h4,h5,h6,h7,h8,h9,uV,A5,h12⟩:=nM
  have h2:e.2.ks[e.2.i]?=some kk:=h2
  have h6:bH (P e.2.pg) 204 0 (l+1) (bI e.2.ks):=h6
  have h7:Sep fZ eN e.2.ks:=h7
  have uV:eL=m9++(e.2.ks.take e.2.i).flatMap (·.es):=uV
  have A5:eR=(e.2.ks.drop (e.2.i+1)).flatMap (·.es)++jh:=A5
  have A6:=(List.getElem?_eq_some_iff.1 h2).1
  have dL:=h6.fits
  rw[dI] at dL
  have Ig:(eT t).length=t.length:=by rw[eT,ju,cj]
  have eO:(eT (e::t)++c1)[t.length]?=some (e.1,e.2.i):=by
   rw[ry,dO,iz (by omega),Ig,gF]
   rfl
  obtain⟨id,off,e1,e2,e3⟩:=adb (P:=Tryz.prog) eS lR eO s
  rw[show(((e::t).length:Int)-1)=(t.length:Int) by simp] at hE
  have cq:t.length+1+l=L:=hlen
  have xK:∀m∈iW,m<N:=λm hm=>nZ m (by rw[h12];exact bw _ (fA _ hm))
  have s:=vA.1 (s.ae [1])
  dsimp only[aL,bringA] at s
  have s1:=((s.drop).ae [1,0])
  dsimp only[bringA,getA,aL] at s1
  rw[show eT (e::t)++c1=eT t++([(e.1,e.2.i)]++c1) by rw[ry,dO]] at s1
  have stop:(e.2.i:Int)+d<0\/(e.2.ks.length:Int)<=(e.2.i:Int)+d->∀E,Has E [(0,rv),(1,w),(5,.ptr kb 0),(8,.int .i64 ((t.length:Int)-1))]->WP ⟨Tryz.prog,told⟩ 64 (.loop nxL) E h Q:=λq E hE=>by
   have hR':0<d->eR=jh:=λ_=>by
    rw[A5,tq (by omega)];rfl
   have hL':d<0->eL=m9:=λ_=>by
    rw[uV,show e.2.i=0 by omega];simp
   exact ih (l+1) e.2.pg fZ eN m9 jh iW ε _ _ _ S Q h1 b_ eA xK (by omega) s1 hE (λE' h' ah a1 a2=>hq E' h' ah (λq=>by rw[hR' q,a1 q]) λq=>by rw[hL' q,a2 q]) λE' h' ah y m gL e2 L8 fc a1 a2=>hr E' h' ah y m gL e2 L8 fc (λq=>by rw[hR' q,a1 q]) λq=>by rw[hL' q,a2 q]
  obtain⟨bve,Yf,use,s⟩:=aT.1 s
  have pU:lenV Tryz.prog h 98 Yf=some (.int .i64 (e.2.ks.length:Int)):=by
   have:=gR (P:=Tryz.prog) aO s
   rwa [dI] at this
  refine WP.loop (WP.has hE (zK 4 U (zB U j5 (by simp) ?_)))
  refine zk 4 U (WP.block (zw (WP.drawn [af,af,af,af,af,af,af,af] U (by kernel_rfl) (by kernel_rfl) ?_)))
  refine zM U (zM U (zO U (bM (r:=.ptr id off) U U e1) (zF U (sH _ _) (zL U (e3 _ bT) (zL U (s.ld (k:=7) U bT U) (zO U (aq (r:=.int .i64 ((e.2.i:Int)+d)) U U (aM ak)) ?_))))))
  refine zA U ?_
  refine aB.nil ⟨⟨aa,aa,aa,aa,aa,aa,aa,aa,aa⟩,?_⟩
  refine zK 4 U ?_
  by_cases q1:(e.2.i:Int)+d<0
  .skip
   refine zB U aK (by simp;omega) ?_
   refine zk 15 U (WP.exit (zK 2 U (zo U (aq (r:=.int .i64 ((t.length:Int)-1)) U U (dM ak)) ?_)))
   refine za U (zv ?_)
   exact stop (.inl q1) _ ⟨U,U,U,U,aa⟩
  .skip
   refine zh U (aq U U aK) (by simp;omega) ?_
   refine zk 4 U (zo U (bM (r:=.ptr id off) U U e1) (zf U (jx _ _) (zl U (e2 _ fH) (zn U (zY s 0 cM gu U (zo U (aC U U U pU) ?_))))))
   by_cases q2:(e.2.ks.length:Int)<=(e.2.i:Int)+d
   .skip
    refine zB U j5 (by simp;omega) ?_
    refine zk 3 U (WP.exit (zK 2 U (zo U (aq (r:=.int .i64 ((t.length:Int)-1)) U U (dM ak)) ?_)))
    refine za U (zv ?_)
    exact stop (.inr q2) _ ⟨U,U,U,U,aa⟩
   .skip
    refine zC U j5 (by simp;omega) ?_
    obtain⟨j,hj⟩:∃j:Nat,(e.2.i:Int)+d=(j:Int):=⟨((e.2.i:Int)+d).toNat,by omega⟩
    obtain⟨k2,kZ⟩:∃k2,e.2.ks[j]?=some k2:=⟨_,aF (by omega)⟩
    have h9:∀j k,e.2.ks[j]?=some k->j≠e.2.i->∃cs',Nv F P l (loK fZ e.2.ks j) (cQ eN e.2.ks j) cs' k.es k.ps/\F l cs'/\bH (P k.pg) 204 0 l cs':=h9
    obtain⟨cs',g1,g2,g3⟩:=h9 j k2 kZ (by omega)
    have ve:=gU kZ
    have s:Sat h (aW e.1 e.2.pg (l+1) (P e.2.pg) (bI e.2.ks)::_):=aT.2 ⟨bve,Yf,use,s⟩
    refine zk 9 U (zo U (bM (r:=.ptr id off) U U e1) (zf U (jx _ _) (zl U (e2 _ fH) (zm U ?_))))
    rw[hj]
    refine zc U (DI hT ve (h7.pg k2 (aI kZ)) s) ?_
    rintro v0 h ⟨rfl,s⟩
    have s:=s.ae [3,3]
    have s:=((s.del 4).del 3).del 2
    have TC:k2∈e.2.ks.eraseIdx e.2.i:=List.mem_eraseIdx_iff_getElem?.2 ⟨j,by omega,kZ⟩
    have Tv:∀m∈cW k2,m<N:=λm hm=>nZ m (by rw[h12];exact bw _ (jt _ (List.mem_flatMap.2 ⟨k2,TC,hm⟩)))
    refine zo U (JG U U) (zc U (OA hT hR hN (F:=F) (P:=P) (L:=l) (r:=k2.pg) (by omega) (g:=135) (caps:=[.ptr kb 0]) (K:=pt kb (.cells 1 [.int .i64 d] false)) (Ch:=ChD d) (λhS hlen wD iJ s=>abO hT hd hS hlen s) g1.whole g3 b_ eA (Tv k2.pg a_) (λm hm=>Tv m (bw _ hm)) U U s) ?_)
    rintro v0 h ⟨w2,x2,n2,L8,fc,eL2,Yg,pO2,gL,I,ij,rfl,p1,p2,p3,p4,p5,p6,p7,p8,p9,p10,s⟩
    have p7:∀f∈I.map (·.2),ChD d f.ks f.i:=λf hf=>by
     obtain⟨e',su,rfl⟩:=List.mem_map.1 hf
     exact p7 e' su
    have l_:(eT I++[(x2,0)]).length=I.length+1:=by rw[aN,eT,ju,cj];rfl
    obtain⟨L1,EW,y1,y2,_⟩:=wQ (P:=Tryz.prog) (j:=I.length) (x:=x2) (i:=0) eS lR (by rw[iz (by rw[eT,ju,cj];omega),eT,ju,cj,gF];rfl) s
    refine zk 10 U (zC U aE (U) (zk 7 U (zo U (aC U U U (s.fq (j:=0) (n:=I.length+1) U (by rw[lz,l_]) (by decide) eS)) ?_)))
    refine zo U (aq (r:=.int .i64 (I.length:Int)) U U (by rw[show((I.length:Nat):Int)=((I.length+1:Nat):Int)-1 by omega];exact dM ak)) ?_
    refine zo U (bM (r:=.ptr L1 EW) U U y1) (zf U (jx _ _) (zl U (y2 _ fH) ?_))
    have hF:F 0 (gL.map eE):=by
     by_cases hf:I.map (·.2)=[]
     .rw[hf] at p1
      obtain⟨q1,_,_,_,rfl,rfl,_⟩:=p1
      subst q1
      obtain⟨rfl,_,_⟩:=g1
      rw[dJ,gd] at p8
      rw[p8]
      exact g2
     .exact p4 hf
    have hl5:gL.length<=512:=by have:=p3.fits;rw[cj] at this;omega
    have gD:e.2.ks.drop j=k2::e.2.ks.drop (j+1):=by
     obtain⟨hb,hk3⟩:=List.getElem?_eq_some_iff.1 kZ
     rw[<-hk3]
     exact mC hb
    have sJ:e.2.ks.take (j+1)=e.2.ks.take j++[k2]:=by rw[nA,kZ];rfl
    refine zk 3 U (WP.ret ?_)
    rcases hd with rfl|rfl
    .refine hr _ _ ij x2 n2 gL (Yg++((e.2.ks.drop (j+1)).flatMap (·.es)++jh)) L8 fc (λ_ => ?_) (λq=>by omega) p2 hF hl5 p5 p6 ⟨U,U,aa⟩ ((((s.ae [1,2]).del 4).del 3).del 2)
     rw[A5,show e.2.i+1=j by omega,gD,eG,<-p8,p1.zero λf hf=>(p7 f hf).1 (by omega)]
     simp[dO]
    .refine hr _ _ ij x2 n2 gL (m9++((e.2.ks.take j).flatMap (·.es)++eL2)) L8 fc (λq=>by omega) (λ_ => ?_) p2 hF hl5 p5 p6 ⟨U,U,aa⟩ ((((s.ae [1,2]).del 4).del 3).del 2)
     rw[uV,show e.2.i=j+1 by omega,sJ,nk,List.flatMap_singleton,<-p8,p1.last λf hf=>(p7 f hf).2 (by omega)]
     simp[dO]
theorem ZU (hT:W told)(hR:my told N B rv A pg)(hN:N<=65536)(hL:L<=60)(hd:d=1\/d = -1){h:H}(nM:gW F P L root (fx.map (·.2)) 0 lo hi n eL eR pO)(b_:EI N B ε)(eA:pg ε=P)(nZ:∀m∈pO,m<N)(l_:fx.length=L)
 (s:Sat h (wyA w (eT fx++[(x,0)])::nodsA P 1 fx::A ε::S)):
  Call ⟨Tryz.prog,told⟩ 57 [rv,w,.int .i64 d] h λv h'=>∃ah,EI N B ah/\Sm N ε ah/\(((0<d->eR=[])/\(d<0->eL=[])/\v=.aV [.cf,.int .i64 0]/\Sat h' (A ah::S)) \/
   ∃y m gL e2 I fc,v=.aV [.ptr y 0,.int .i64 0]/\(0<d->eR=gL++e2)/\(d<0->eL=e2++gL)/\js I fc gL/\F 0 (gL.map eE)/\gL.length<=512/\Sat h' (aW y m 0 (P m) (gL.map eE)::A ah::S)):=by
 have pU:(eT fx++[(x,0)]).length=fx.length+1:=by
  rw[aN,eT,ju,cj];rfl
 refine Call.of_wp (hT.free _ U) Tryz.func57 U U (zg U (au.cg s U U U (fG U (by rfl)) ?_));intro kb h s;have s:=s.ae [1,1,1,0];have Ol:=CF (P:=Tryz.prog) s eS;rw[pU] at Ol;refine zk 7 U (zo U (aC U U U Ol) (zo U (aq (r:=.int .i64 ((fx.length:Int)-1)) U U (by rw[show((fx.length:Int)-1)=((fx.length+1:Nat):Int)-2 by omega];exact dM ak)) ?_));refine zk 2 U (WP.block ?_);refine TN hT hR hN hL hd fx 0 n lo hi eL eR pO ε [(x,0)] _ _ _ _ nM b_ eA nZ (by omega) s ⟨U,U,U,U,aa⟩ (λE' h' ah k0 k1 k2 k3 s' => ?_) λE' h' ah y m gL Yg I fc k0 k1 k2 k3 kl k4 k5 k6 s'=>⟨aa,_,AH k6.1 k6.2.1,ah,k4,k5,.inr ⟨y,m,gL,Yg,I,fc,U,k0,k1,k2,k3,kl,s'⟩⟩;have s:=s';exact zK 5 U (WP.ret ⟨aa,_,U,ah,k2,k3,.inl ⟨k0,k1,U,s⟩⟩)
end
def ng (es:List En)(k:Ky): Option En:=es.find? λe => !decide (e.1<k)
section
theorem xL (h:∀e∈eL,e.1<k): ng (eL++es) k=ng es k:=by
 unfold ng;rw[He,List.find?_eq_none.2 λe he=>by simp[h e he]];rfl
theorem Ec.QB (hl:Ec es k i)(he:es[i]?=some e): ng es k=some e:=by
 have hi:=(List.getElem?_eq_some_iff.1 he).1;have hs:es=es.take i++es.drop i:=(jO i es).symm;rw[hs,xL λd hd => ?_]
 .have hd:es.drop i=e::es.drop (i+1):=by
   obtain⟨_,h2⟩:=List.getElem?_eq_some_iff.1 he;rw[<-h2];exact mC hi
  have hk:¬ e.1<k:=List.not_lt.2 (hl.hi i e he (aH _));rw[hd];simp[ng,hk]
 .obtain⟨j,hj⟩:=List.mem_iff_getElem?.1 hd;have I:j<i:=by have:=(List.getElem?_eq_some_iff.1 hj).1;rw[cz] at this;omega
  rw[G1 I] at hj;exact hl.lo j d hj I
theorem Ec.all (hl:Ec es k es.length): ∀e∈es,e.1<k:=λe he=>by
 obtain⟨j,I⟩:=List.mem_iff_getElem?.1 he;exact hl.lo j e I (List.getElem?_eq_some_iff.1 I).1
end
section
variable {told:cu} {k:List Nat} {A:bk->aG} {h:H}
theorem L9 (hT:WB told)(hR:my told N B rv A pg)(hN:N<=65536)(hL:L<=60)(hX:cy X (cE kv k))(hk:k.length<=96)(hv:Nv (cU Z) P L [] none cs es ps)(hp:bH (P r) 204 0 L cs)(b_:EI N B ε)(eA:pg ε=P)(hr:r<N)(nZ:∀m∈ps,m<N)(s:Sat h (A ε::X::S)):
  Call ⟨Tryz.prog,told⟩ 16 [rv,.int .i64 (r:Int),kv] h λv h'=>∃ah,EI N B ah/\Sm N ε ah/\match ng es k with
   |none=>v=.aV [.aZ,.aZ,.bool false,.int .i64 0]/\Sat h' (A ah::S)
   |some e=>∃kb vb,v=.aV [kb,vb,.bool true,.int .i64 0]/\Sat h' (aY kb e.1::aY vb e.2::A ah::S):=by
 have hW:=hT.w;refine Call.of_wp (hW.free _ U) Tryz.func16 U U (zK 11 U (zo U (aC U U U (bA aP (s.aD (k:=1) U hX))) (zC U cP (decide_eq_false (by omega)) ?_)));refine zk 8 U (zc U (JQ hT hR hN (by omega) hX hv hp b_ eA hr nZ s) ?_);rintro v h ⟨w,x,n,lo,hi,eL,eR,pO,es',fx,dz,rfl,q1,q2,q3,q4,q5,q6,q7,q8,q9,o9,s⟩;have uG:(eT fx).length=L:=by rw[eT,ju,cj,o9]
 have l_:(eT fx++[(x,0)]).length=L+1:=by rw[aN,uG];rfl
 obtain⟨id,off,e1,e2,_⟩:=wQ (P:=Tryz.prog) (j:=L) (x:=x) (i:=0) eS lR (by rw[iz (by omega),uG,gF];rfl) s;refine zk 10 U (zC U aE (U) (zk 7 U (zo U (aC U U U (s.fq (j:=0) (n:=L+1) U (by rw[lz,l_]) (by decide) eS)) ?_)));refine zo U (aq (r:=.int .i64 (L:Int)) U U (by rw[show((L:Nat):Int)=((L+1:Nat):Int)-1 by omega];exact dM ak)) ?_;refine zo U (bM (r:=.ptr id off) U U e1) (zf U (jx _ _) (zl U (e2 _ fH) (zk 7 U (zc U (AP hT hX q2 (by have:=q3.fits;rw[cj] at this;omega) (s.ae [1,3])) ?_))));rintro v h ⟨i,rfl,hl,s⟩;obtain⟨Je,L0⟩:=q1.side q7;have s0:=s;obtain⟨bv,cv,us,s⟩:=aT.1 s;have pU:lenV Tryz.prog h 98 cv=some (.int .i64 (es'.length:Int)):=by
  have:=gR (P:=Tryz.prog) aO s
  rwa [cj] at this
 refine zk 11 U (zY s 0 cM gu U (zo U (aC U U U pU) ?_));rcases CY hl.le with cq|rfl
 .obtain⟨e,he⟩:∃e,es'[i]?=some e:=⟨_,aF cq⟩;have Yh:ng es k=some e:=by
   rw[<-q8,dO,xL Je];unfold ng;rw[He];have:=hl.QB he;unfold ng at this;rw[this];rfl
  rw[Yh];refine zB U aK (by simp;omega) ?_;refine zk 6 U (zc U (L7 hW q2 he s0) ?_);rintro v h ⟨kb,vb,rfl,s⟩;exact zk 9 U (WP.ret ⟨aa,_,U,dz,q5,q6,kb,vb,U,(((s.ae [0,0,4]).del 6).del 5).del 4 |>.del 3⟩)
 .have gV:pg dz=P:=by rw[<-eA];funext m;exact hR.same q6 m
  have OH:∀m∈pO,m<N:=λm hm=>by
   have:=q9.mem_iff.1 (fA [n] hm);rcases List.mem_cons.1 this with rfl|h1
   .exact hr
   .exact nZ m h1
  have ade:∀e∈eL++es',e.1<k:=λe he=>by
   rcases List.mem_append.1 he with h1|h1
   .exact Je e h1
   .exact hl.all e h1
  have Yh:ng es k=ng eR k:=by rw[<-q8];exact xL ade
  have s:=(Qv (by omega) (s0.ae [2])).ae [0,2,2];refine zC U aK (by simp) ?_;refine zk 7 U (zc U (ZU (d:=1) hW hR hN hL (.inl U) q1 q5 gV OH o9 s) ?_);rintro v h ⟨ij,k1,k2,(⟨I,_,rfl,s⟩|⟨y,m,gL,Yg,L8,fc,rfl,I,_,k3,k4,_,s⟩)⟩
  .rw[Yh,I (by decide)];refine zk 10 U (zC U aE (U) (zk 2 U (zo U (aq (r:=.bool true) U U (by simp only[binV,eqV,GL,gO])) ?_)));exact zk 19 U (WP.ret ⟨aa,_,U,ij,k1,q6.trans k2,U,(s.del 2).del 1⟩)
  .have I:=I (by decide);have fb:0<gL.length:=by
    rw[cU,ay U] at k4;exact List.length_pos_iff.2 λq=>k4 (by rw[q];rfl)
   obtain⟨e,he⟩:∃e,gL[0]?=some e:=⟨_,aF fb⟩;have xB:¬ e.1<k:=λq=>rJ q (L0 e (by rw[I];exact fA _ (aI he)));have aeq:ng es k=some e:=by
    rw[Yh,I];cases gL with
    |nil=>simp at fb
    |cons d t =>
     simp only[j9,aA] at he;subst he;simp[ng,xB]
   rw[aeq];have s0:=s;obtain⟨I9,zZ,us2,s⟩:=aT.1 s;have aer:lenV Tryz.prog h 98 zZ=some (.int .i64 (gL.length:Int)):=by
    have:=gR (P:=Tryz.prog) aO s
    rwa [cj] at this
   refine zk 10 U (zC U aE (U) (zk 2 U (zo U (aq (r:=.bool false) U U (by simp only[binV,eqV,GL,gO])) ?_)));refine zk 4 U (zY s 0 cM gu U (zo U (aC U U U aer) (zC U cS (decide_eq_false (by omega)) ?_)));refine zk 7 U (zc U (L7 (i:=0) hW k3 he s0) ?_);rintro v h ⟨kb,vb,rfl,s⟩;exact zk 9 U (WP.ret ⟨aa,_,U,ij,k1,q6.trans k2,kb,vb,U,((s.del 5).del 4).del 2⟩)
end
section
variable {told:cu} {h:H} {k:Nat} {v x:V} {l c':List Nat}
theorem L_ (hT:W told)(s:Sat h (X::S))(hX:cy X (cE v b))(hp:bH b kd link extra cs)(hi:i<cs.length)(DY:∀c∈cs,1<=c.length):
  Call ⟨Tryz.prog,told⟩ 70 [v,.int .i64 (i:Int)] h λr h'=>∃u b',r=.aV [u,.int .i64 0]/\bH b' kd link extra (cs.eraseIdx i)/\Sat h' (aY u b'::X::S):=by
 have hl:=hp.len
 have dL:=hp.fits
 have oU:=hp.low
 have qU:=hp.gq
 have hle:∀n,(le 2 n).length=2:=λn=>cO 2 n
 have wD:cs.length=1->dy b≠512:=λh1=>by
  have hc:cs[0]?=some (cs[0]'(by omega)):=aF _
  have h2:=hp.slot 0 _ hc
  have h3:=DY _ (aI hc)
  omega
 have I:=hp.rm (lo:=if cs.length=1 then 512 else dy b) hi (by
  by_cases h1:cs.length=1
  .exact .inr ⟨h1,ay h1⟩
  .exact .inl (if_neg h1))
 obtain⟨n,hn⟩:∃n,cs.length=n+1:=⟨cs.length-1,by omega⟩
 have Rf:Be b i cs.length=az (az (az b (26+4*i) ((b.drop (30+4*i)).take (4*(n-i)))) (26+4*n) (List.replicate 4 0)) 14 (le 2 n):=by
  rw[Be,hn,show n+1-1-i=n-i by omega,show 22+4*(n+1)=26+4*n by omega,show n+1-1=n by omega]
 rw[Rf] at I
 refine Call.of_wp (hT.free _ U) Tryz.func70 U U (zK 8 U (zc U (pQ hT s hX (by omega)) ?_))
 rintro r h' (⟨hg,u,rfl,s⟩|⟨hg,rfl,s⟩)
 .obtain⟨lU,_,cap,_,rfl,_⟩:=s.eX (by omega)
  refine zk 3 U ?_
  refine au.cg s U U U (cm jC) (λp6 h s => ?_)
  dsimp only[V.cells,List.length_cons,List.length_nil,Nat.reduceAdd] at s
  refine zS U (s.gX (j:=0) U aU U U) (λh s => ?_)
  dsimp only[setA] at s
  refine zk 3 U (WP.block (zK 3 U (zC U aE (U) (zk 6 U (zC U aK (by simp) ?_)))))
  refine zk 2 U (zl U (s.b7 (k:=0) U bD aU) (zc U (gx hT s (k:=1) U (bg _ _) hl) ?_))
  rintro r h' ⟨rfl,s⟩
  rw[qU,hn]
  refine zC U j5 (by simp;omega) ?_
  refine zk 2 U (zv (zj U (WP.skip (zg U (zl U (by exact s.b7 (k:=0) U bD aU) ?_)))))
  refine zc U (gx hT s (k:=1) U (bg _ _) hl) ?_
  rintro r h' ⟨rfl,s⟩
  rw[qU,hn]
  refine zk 3 U ?_
  have q1:((26:Int)+4*(i:Int)).toNat=26+4*i:=by omega
  have q2:((26:Int)+4*(((n+1:Nat):Int)-1)).toNat=26+4*n:=by omega
  have q3:((26:Int)+4*((i:Int)+1)).toNat=30+4*i:=by omega
  have q4:((26:Int)+4*((n+1:Nat):Int)).toNat=30+4*n:=by omega
  have l1:(az b (26+4*i) ((b.drop (30+4*i)).take (4*(n-i)))).length=512:=by rw[bF (by rw[cz,fD];omega),hl]
  have s0:=s
  refine WP.drawn [af,af,af,af,af,af,af,af,af,af,af,af,af,af,af,af,af,af,af,af,af] U (by kernel_rfl) (by kernel_rfl) ?_
  refine zF U (ey _ _) (zL U (s.ld (k:=0) U b8 U) (zM U (zO U (aq U U (by exact iO ak)) ?_)))
  refine zO U (aq U U (by exact aM ak)) ?_
  refine zM U (zO U (aq U U (by exact dM ak)) ?_)
  refine zO U (aq U U (by exact iO ak)) ?_
  refine zO U (aq U U (by exact aM ak)) ?_
  refine zO U (bK (p:=some (.int .i64 (26+4*(i:Int)))) (q:=some (.int .i64 (26+4*(((n+1:Nat):Int)-1)))) (m:=none) (p':=some (26+4*i)) (q':=some (26+4*n)) (m':=none) U U U U (by rw[bN,q1]) (by rw[bN,q2]) U (fR (s.buf (k:=1) U).view (by omega) (by omega)).1) ?_
  refine zF U (ey _ _) (zL U (s.ld (k:=0) U b8 U) (zM U (zO U (aq U U (by exact aM ak)) ?_)))
  refine zO U (aq U U (by exact iO ak)) ?_
  refine zO U (aq U U (by exact aM ak)) ?_
  refine zM U (zO U (aq U U (by exact iO ak)) ?_)
  refine zO U (aq U U (by exact aM ak)) ?_
  refine zO U (bK (p:=some (.int .i64 (26+4*((i:Int)+1)))) (q:=some (.int .i64 (26+4*((n+1:Nat):Int)))) (m:=none) (p':=some (30+4*i)) (q':=some (30+4*n)) (m':=none) U U U U (by rw[bN,q3]) (by rw[bN,q4]) U (fR (s.buf (k:=1) U).view (by omega) (by omega)).1) ?_
  refine aB.any U U U U (OpR.XX (n:=4*(n-i)) U (s.ae [1]) U U U U (by omega) (by omega) (by omega) (by omega) (by omega)) ?_
  intro r h s
  have s:=s.ae [1,0]
  refine aB.nil ⟨⟨aa,aa,aa,aa,aa,aa,aa,aa,aa,aa,aa,aa,aa,aa,aa,aa,aa,aa,aa,aa,aa,aa⟩,?_⟩
  have s:Sat h (pt p6 _::aY _ (az b (26+4*i) ((b.drop (30+4*i)).take (4*(n-i))))::_):=s
  generalize az b (26+4*i) ((b.drop (30+4*i)).take (4*(n-i)))=b1 at s l1 I ⊢
  have l2:(az b1 (26+4*n) (List.replicate 4 0)).length=512:=by rw[bF (by rw[f_];omega),l1]
  have l3:(az (az b1 (26+4*n) (List.replicate 4 0)) 14 (le 2 n)).length=512:=by rw[bF (by rw[hle];omega),l2]
  refine zg U (zY s 0 ey b8 U (zm U (zb U (by exact dM ak) ?_)))
  refine zb U (by exact iO ak) ?_
  refine zb U (by exact aM ak) ?_
  refine zm U (zb U (by exact iO ak) ?_)
  refine zb U (by exact aM ak) ?_
  refine zo U (bK (p:=some (.int .i64 (26+4*(((n+1:Nat):Int)-1)))) (q:=some (.int .i64 (26+4*((n+1:Nat):Int)))) (m:=none) (p':=some (26+4*n)) (q':=some (30+4*n)) (m':=none) U U U U (by rw[bN,q2]) (by rw[bN,q4]) U (fR (s.buf (k:=1) U).view (by omega) (by omega)).1) ?_
  refine au.lP U U (OpR.S6 U (s.ae [1]) U U U U (by omega) (by omega)) ?_
  rintro _ h s
  rw[show 30+4*n-(26+4*n)=4 by omega] at s
  have s:=s.ae [1,0]
  have en:((n+1:Nat):Int)-1=(n:Int):=by omega
  refine zk 3 U (zl U (s.b7 (k:=0) U bD aU) (zm U (zo U (aq (r:=.int .i64 (n:Int)) U U (by rw[<-en];exact dM ak)) ?_)))
  refine zo U (cN U (by exact kC b9 eZ iN)) ?_
  refine zc U (nT (a:=14) (z:=2) (n:=n) hT (s.ae [1]) (by decide) (by decide) (by omega) (by omega)) ?_
  rintro r h ⟨rfl,s⟩
  have s:=s.ae [1,0]
  refine zk 5 U ?_
  by_cases h1:n=0
  .have e1:cs.length=1:=by omega
   simp only[ay e1,ai (jR (wD e1))] at I
   refine zB U cS (decide_eq_true (by omega)) ?_
   refine zk 3 U (zl U (s.b7 (k:=0) U bD aU) (zc U (nT (a:=16) (z:=2) (n:=512) hT (s.ae [1]) (by decide) (by decide) (by omega) (by omega)) ?_))
   rintro r h ⟨rfl,s⟩
   have s:=s.ae [1,0]
   exact zk 3 U (zY s 0 ey b8 U (zk 3 U (WP.ret ⟨aa,_,U,_,_,U,I,s.drop⟩)))
  .have e1:cs.length≠1:=by omega
   simp only[ai e1,dG] at I
   refine zC U cS (decide_eq_false (by omega)) ?_
   exact zk 5 U (zY s 0 ey b8 U (zk 3 U (WP.ret ⟨aa,_,U,_,_,U,I,s.drop⟩)))
 .rw[hp.good] at hg;cases hg
end
def Kd (F:Nat->List (List Nat)->Prop)(P:Int->List Nat)(l:Nat)(lo:Ky)(hi:Option Ky)(k:fV): Prop:=∃cs',Nv F P l lo hi cs' k.es k.ps/\F l cs'/\bH (P k.pg) 204 0 l cs'
def gZ (l:Nat)(cut:Ky)(a b:List (List Nat)): List (List Nat):=a++if l=0 then b else match b with|[]=>[]|c::t=>(c.take 4++cut)::t
section
variable {F':Nat->List (List Nat)->Prop} {fZ:Ky} {eN:Option Ky}
theorem Nv.mono (I:∀l cs,F l cs->F' l cs): ∀ {l:Nat} {lo:Ky} {hi:Option Ky} {cs:List (List Nat)} {es:List En} {ps:List Nat},Nv F P l lo hi cs es ps->Nv F' P l lo hi cs es ps:=by
 intro l;induction l with
 |zero=>intro lo hi cs es ps h;exact h
 |succ l ih =>
  intro lo hi cs es ps ⟨ks,h1,h2,h3,h4,h5⟩;exact⟨ks,h1,h2,h3,h4,λi k hk=>by obtain⟨cs',b1,b2,b3⟩:=h5 i k hk;exact⟨cs',ih b1,I _ _ b2,b3⟩⟩
theorem gW.mono (I:∀l cs,F l cs->F' l cs): ∀ {fs:List sU} {l:Nat} {lo:Ky} {hi:Option Ky} {n:Nat} {eL eR:List En} {pO:List Nat},gW F P L r fs l lo hi n eL eR pO->gW F' P L r fs l lo hi n eL eR pO:=by
 intro fs;induction fs with
 |nil=>intro l lo hi n eL eR pO h;exact h
 |cons f fs ih =>
  rintro l lo hi n eL eR pO ⟨fZ,eN,m9,jh,iW,k,h1,h2,h3,h4,h5,h6,h7,Om,h8,h9⟩;exact⟨fZ,eN,m9,jh,iW,k,ih h1,h2,h3,h4,h5,h6,h7,λq=>I _ _ (Om q),λj k hk hj=>by obtain⟨cs',b1,b2,b3⟩:=h8 j k hk hj;exact⟨cs',b1.mono I,I _ _ b2,b3⟩,h9⟩
theorem Kd.frame {k:fV}(h:Kd F P l lo hi k)(I:∀m∈cW k,P' m=P m): Kd F P' l lo hi k:=by
 obtain⟨cs',a1,a2,a3⟩:=h;exact⟨cs',a1.frame λm hm=>I m (bw _ hm),a2,by rw[I k.pg a_];exact a3⟩
theorem gW.pop {f:sU}(h:gW F P L r (f::fs) l lo hi n eL eR pO)(es:List En)(ps:List Nat):
  ∃fZ eN I jh iW ks k,gW F P L r fs (l+1) fZ eN f.pg I jh iW/\bI ks=bI f.ks/\ks.length=f.ks.length/\ks[f.i]?=some k/\k.pg=n/\k.es=es/\k.ps=ps/\Sep fZ eN ks/\lo=loK fZ ks f.i/\hi=cQ eN ks f.i/\(∀j k,ks[j]?=some k->j≠f.i->Kd F P l (loK fZ ks j) (cQ eN ks j) k) /\
   bH (P f.pg) 204 0 (l+1) (bI ks)/\(fs≠[]->F (l+1) (bI ks))/\eL++es++eR=I++ks.flatMap (·.es)++jh/\(pO++n::ps).Perm (iW++f.pg::ks.flatMap cW):=by
 obtain⟨fZ,eN,I,jh,iW,k,q1,q2,rfl,rfl,rfl,q6,q7,q7b,q8,rfl,rfl,rfl⟩:=h;have c9:=(List.getElem?_eq_some_iff.1 q2).1;have hK:=EG (k1:=⟨k.key,k.pg,es,ps⟩) q2 U U;refine⟨fZ,eN,I,jh,iW,f.ks.set f.i ⟨k.key,k.pg,es,ps⟩,_,q1,hK,cL,jN c9,U,U,U,q7.set q2 U U,(zI (k1:=⟨k.key,k.pg,es,ps⟩) q2 U).symm,(vU (k1:=⟨k.key,k.pg,es,ps⟩) q2 U).symm,λj m hm hj => ?_,by rw[hK];exact q6,by rw[hK];exact q7b,by rw[rj c9];simp[dO],?_⟩
 .rw[zI (k1:=⟨k.key,k.pg,es,ps⟩) q2 U,vU (k1:=⟨k.key,k.pg,es,ps⟩) q2 U];rw[lW (jR hj)] at hm;exact q8 j m hm hj
 .rw[rj c9,vy,lX];intro x;simp only[cW,lY,lZ,fK];omega
theorem CJ {m:List α}{k:Nat}{x:α}(h:(m.eraseIdx k)[j]?=some x): m[if j<k then j else j+1]?=some x:=by
 rw[yo] at h;split
 .rwa [ay (by assumption)] at h
 .rwa [ai (by assumption)] at h
theorem Sep.erase (h:Sep lo hi ks)(k:Nat)(h2:2<=ks.length): Sep lo hi (ks.eraseIdx k):=by
 refine⟨λe => ?_,λx I=>h.pg x (yn I),λx I=>h.len x (yn I),λj x I hj=>h.sz _ x (CJ I) (by split<;>omega),λj x I hj=>h.bd _ x (CJ I) (by split<;>omega),λj j2 x y I hy a1 a2=>h.jY _ _ x y (CJ I) (CJ hy) (by split<;>omega) (by split<;>split<;>omega)⟩;have:=dg List.length e;rw[G4,bY] at this;split at this<;>omega
theorem Yi (I:j<=i): (ks.eraseIdx (i+1))[j]?=ks[j]?:=by rw[yo,ay (by omega)]
theorem Yj (I:i<j): (ks.eraseIdx (i+1))[j]?=ks[j+1]?:=by rw[yo,ai (by omega)]
theorem JT (I:j<=i): loK lo (ks.eraseIdx (i+1)) j=loK lo ks j:=by
 unfold loK;rw[Yi I]
theorem abP (I:i<j): loK lo (ks.eraseIdx (i+1)) j=loK lo ks (j+1):=by
 unfold loK;rw[Yj I,ai (show ¬j=0 by omega),ai (show ¬j+1=0 by omega)]
theorem adf (I:j<i): cQ hi (ks.eraseIdx (i+1)) j=cQ hi ks j:=by
 unfold cQ;rw[Yi (by omega)]
theorem GO (I:i<=j): cQ hi (ks.eraseIdx (i+1)) j=cQ hi ks (j+1):=by
 unfold cQ;rw[Yj (by omega)]
theorem DN {k:Nat}: bI (ks.eraseIdx k)=(bI ks).eraseIdx k:=by
 rw[bI,bI,nh,nh,rG,rI,tD]
theorem Sep.wide (hs:Sep lo hi ks)(h2:i+1<ks.length)(I:∀j k,ks[j]?=some k->j≠i->j≠i+1->Kd F P l (loK lo ks j) (cQ hi ks j) k):
  Sep lo hi (ks.eraseIdx (i+1))/\∀j k,(ks.eraseIdx (i+1))[j]?=some k->j≠i->Kd F P l (loK lo (ks.eraseIdx (i+1)) j) (cQ hi (ks.eraseIdx (i+1)) j) k:=by
 refine⟨hs.erase _ (by omega),λj k hk hj => ?_⟩;have hk:=CJ hk;by_cases q:j<i
 .rw[ay (by omega)] at hk;rw[JT (by omega),adf q];exact I j k hk hj (by omega)
 .rw[ai (by omega)] at hk;rw[abP (by omega),GO (by omega)];exact I (j+1) k hk (by omega) (by omega)
theorem sg {g:fV->List α}(hl:ks[i]?=some kl)(hr:ks[i+1]?=some kr): ks.flatMap g=((ks.eraseIdx (i+1)).take i).flatMap g++(g kl++g kr)++((ks.eraseIdx (i+1)).drop (i+1)).flatMap g:=by
 have I:=(List.getElem?_eq_some_iff.1 hr).1;rw[sV hl,nh,GX (by rw[cz];omega),rH,show min i (i+1)=i by omega,GW (by rw[cz];omega),l7,gF,tw,dJ,
  mC (i:=i+1) I,eG,(List.getElem?_eq_some_iff.1 hr).2]
 simp[dO]
theorem QC (hl:ks[i]?=some kl): (ks.eraseIdx (i+1))[i]?=some kl:=by
 rw[yo,ay (by omega)];exact hl
theorem Nv.join {cut:Ky}{wK qJ:List (List Nat)}(h1:Nv F P l lo (some cut) wK kN nU)(h2:Nv F P l cut hi qJ gL nV)(c1:lo<cut)(c2:∀b,hi=some b->cut<b)(c3:1<=cut.length/\cut.length<=96):
  Nv F P l lo hi (gZ l cut wK qJ) (kN++gL) (nU++nV):=by
 cases l with
 |zero =>
  obtain⟨rfl,q2,rfl⟩:=h1;obtain⟨rfl,r2,rfl⟩:=h2;refine⟨by unfold gZ;rw[ay U,rG],⟨λe he => ?_,λe he => ?_,?_⟩,U⟩
  .rcases List.mem_append.1 he with q|q
   .exact⟨(q2.bd e q).1,λb hb=>by have:=(q2.bd e q).2 cut U;have:=c2 b hb;grind⟩
   .exact⟨by have:=(r2.bd e q).1;grind,(r2.bd e q).2⟩
  .rcases List.mem_append.1 he with q|q
   .exact q2.sz e q
   .exact r2.sz e q
  .exact List.pairwise_append.2 ⟨q2.jY,r2.jY,λa ha b hb=>by have:=(q2.bd a ha).2 cut U;have:=(r2.bd b hb).1;grind⟩
 |succ l =>
  obtain⟨I,rfl,s1,rfl,rfl,k1⟩:=h1;obtain⟨ks2,rfl,s2,rfl,rfl,k2⟩:=h2;obtain⟨x,t,rfl⟩:∃x t,ks2=x::t:=by
   cases ks2 with
   |nil=>exact absurd U s2.ne
   |cons x t=>exact⟨x,t,U⟩
  obtain⟨m,hm⟩:∃m,m=I.length:=⟨_,U⟩;have o7:1<=m:=by rw[hm];exact List.length_pos_iff.2 s1.ne
  have hL:∀ {j k},(I++⟨cut,x.pg,x.es,x.ps⟩::t)[j]?=some k->(j<m/\I[j]?=some k)\/(j=m/\k=⟨cut,x.pg,x.es,x.ps⟩)\/(m<j/\(x::t)[j-m]?=some k/\1<=j-m):=λ{j k} h=>by
   rw[List.getElem?_append] at h;split at h
   .exact .inl ⟨by omega,h⟩
   .rename_i q;by_cases q2:j=m
    .subst q2;rw[hm,gF] at h;exact .inr (.inl ⟨U,(bB h).symm⟩)
    .obtain⟨z,hz⟩:∃z,j-m=z+1:=⟨j-m-1,by omega⟩;rw[<-hm,hz] at h;exact .inr (.inr ⟨by omega,by rw[hz];exact h,by omega⟩)
  refine⟨I++⟨cut,x.pg,x.es,x.ps⟩::t,?_,⟨by simp,λk hk => ?_,λk hk => ?_,λj k hk hj => ?_,λj k hk hj => ?_,λj j2 k k' hk hk' a1 a2 => ?_⟩,by simp,by simp[cW],λj k hk => ?_⟩
  .have h4:=cO 4 x.pg;unfold gZ;rw[ai (by omega)];simp only[bI,rG,hU,ff,ga h4]
  .obtain⟨j,hj⟩:=List.mem_iff_getElem?.1 hk;rcases hL hj with⟨_,q⟩|⟨_,rfl⟩|⟨_,q,_⟩
   .exact s1.pg k (aI q)
   .exact s2.pg x a_
   .exact s2.pg k (aI q)
  .obtain⟨j,hj⟩:=List.mem_iff_getElem?.1 hk;rcases hL hj with⟨_,q⟩|⟨_,rfl⟩|⟨_,q,_⟩
   .exact s1.len k (aI q)
   .exact c3.2
   .exact s2.len k (aI q)
  .rcases hL hk with⟨_,q⟩|⟨_,rfl⟩|⟨_,q,q2⟩
   .exact s1.sz j k q hj
   .exact c3.1
   .exact s2.sz _ k q q2
  .rcases hL hk with⟨_,q⟩|⟨_,rfl⟩|⟨_,q,q2⟩
   .exact⟨(s1.bd j k q hj).1,λb hb=>by have:=(s1.bd j k q hj).2 cut U;have:=c2 b hb;grind⟩
   .exact⟨c1,c2⟩
   .exact⟨by have:=(s2.bd _ k q q2).1;grind,(s2.bd _ k q q2).2⟩
  .rcases hL hk with⟨b1,q⟩|⟨b1,rfl⟩|⟨b1,q,q2⟩
   .rcases hL hk' with⟨_,r⟩|⟨_,rfl⟩|⟨_,r,r2⟩
    .exact s1.jY j j2 k k' q r a1 a2
    .exact(s1.bd j k q a1).2 cut U
    .have:=(s1.bd j k q a1).2 cut U;have:=(s2.bd _ k' r r2).1;grind
   .rcases hL hk' with⟨b2,_⟩|⟨b2,_⟩|⟨_,r,r2⟩
    .omega
    .omega
    .exact(s2.bd _ k' r r2).1
   .rcases hL hk' with⟨b2,_⟩|⟨b2,_⟩|⟨_,r,r2⟩
    .omega
    .omega
    .exact s2.jY _ _ k k' q r q2 (by omega)
  .have hR:∀j,m<j->(I++⟨cut,x.pg,x.es,x.ps⟩::t)[j]?=(x::t)[j-m]?:=λj hj=>by
    obtain⟨z,hz⟩:∃z,j-m=z+1:=⟨j-m-1,by omega⟩;rw[iz (by omega),<-hm,hz];rfl
   have hR1:∀j,j<m->(I++⟨cut,x.pg,x.es,x.ps⟩::t)[j]?=I[j]?:=λj hj=>rA (by omega);have hRm:(I++⟨cut,x.pg,x.es,x.ps⟩::t)[m]?=some ⟨cut,x.pg,x.es,x.ps⟩:=by
    rw[iz (by omega),<-hm,gF];rfl
   rcases hL hk with⟨b1,q⟩|⟨rfl,rfl⟩|⟨b1,q,q2⟩
   .have e1:loK lo (I++⟨cut,x.pg,x.es,x.ps⟩::t) j=loK lo I j:=by unfold loK;rw[hR1 j b1]
    have e2:cQ hi (I++⟨cut,x.pg,x.es,x.ps⟩::t) j=cQ (some cut) I j:=by
     unfold cQ;by_cases q3:j+1<m
     .rw[hR1 _ q3,aF (show j+1<I.length by omega)]
     .rw[show j+1=m by omega,hRm,rB (by omega)]
    rw[e1,e2];exact k1 j k q
   .have e1:loK lo (I++⟨cut,x.pg,x.es,x.ps⟩::t) j=cut:=by unfold loK;rw[ai (by omega),hRm]
    have e2:cQ hi (I++⟨cut,x.pg,x.es,x.ps⟩::t) j=cQ hi (x::t) 0:=by unfold cQ;rw[hR (j+1) (by omega),tj]
    rw[e1,e2];exact k2 0 x U
   .have e1:loK lo (I++⟨cut,x.pg,x.es,x.ps⟩::t) j=loK cut (x::t) (j-m):=by unfold loK;rw[ai (by omega),ai (by omega),hR j b1]
    have e2:cQ hi (I++⟨cut,x.pg,x.es,x.ps⟩::t) j=cQ hi (x::t) (j-m):=by unfold cQ;rw[hR (j+1) (by omega),show j+1-m=j-m+1 by omega]
    rw[e1,e2];exact k2 (j-m) k q
theorem Sep.mJ (hs:Sep lo hi ks)(hr:ks[i+1]?=some kr): loK lo ks i<kr.key/\(∀b,cQ hi ks (i+1)=some b->kr.key<b)/\1<=kr.key.length/\kr.key.length<=96/\cQ hi ks i=some kr.key/\loK lo ks (i+1)=kr.key:=by
 have c9:=(List.getElem?_eq_some_iff.1 hr).1;refine⟨?_,λb I => ?_,hs.sz _ kr hr (by omega),hs.len kr (aI hr),by unfold cQ;rw[hr],by unfold loK;rw[ai (by omega),hr]⟩
 .unfold loK;split
  .exact(hs.bd _ kr hr (by omega)).1
  .have hk:ks[i]?=some (ks[i]'(by omega)):=aF _;rw[hk];exact hs.jY i (i+1) _ kr hk hr (by omega) (by omega)
 .unfold cQ at I;cases hq:ks[i+1+1]? with
  |none=>rw[hq] at I;exact(hs.bd _ kr hr (by omega)).2 b I
  |some m=>rw[hq] at I;obtain rfl:=bB I;exact hs.jY _ _ kr m hr hq (by omega) (by omega)
theorem Nv.mrg (hs:Sep lo hi ks)(hl:ks[i]?=some kl)(hr:ks[i+1]?=some kr)(I:∀j k,ks[j]?=some k->j≠i->j≠i+1->Kd F P l (loK lo ks j) (cQ hi ks j) k)
 (nl:Nv F P l (loK lo ks i) (cQ hi ks i) eV kl.es kl.ps)(nr:Nv F P l (loK lo ks (i+1)) (cQ hi ks (i+1)) eB kr.es kr.ps)(hF:F l (gZ l kr.key eV eB))(hp:bH (P kl.pg) 204 0 l (gZ l kr.key eV eB)):
  ∃m_,Nv F P (l+1) lo hi ((bI ks).eraseIdx (i+1)) (ks.flatMap (·.es)) m_/\(kr.pg::m_).Perm (ks.flatMap cW):=by
 have c9:=(List.getElem?_eq_some_iff.1 hr).1;obtain⟨m1,m2,m3,m4,m5,m6⟩:=hs.mJ hr;obtain⟨w1,w2⟩:=hs.wide c9 I;rw[m5] at nl;rw[m6] at nr;have hj:=nl.join nr m1 m2 ⟨m3,m4⟩;have hh:=Nv.hole (k1:=⟨kl.key,kl.pg,kl.es++kr.es,kl.ps++kr.ps⟩) (QC hl) U U w1 w2 (by rw[JT (aH _),GO (aH _)];exact hj) hF hp;rw[DN] at hh;refine⟨_,by rw[sg (g:=(·.es)) hl hr];exact hh,?_⟩;rw[sg (g:=cW) hl hr,lX];intro x;simp only[cW,lY,lZ,fK];omega
theorem Nv.ers {k:fV}(hs:Sep lo hi ks)(h2:2<=ks.length)(hk:ks[i]?=some k)(he:k.es=[])(o5:k.ps=[])(I:∀j k,ks[j]?=some k->j≠i->Kd F P l (loK lo ks j) (cQ hi ks j) k):
  ∃m_,Nv F P (l+1) lo hi ((bI ks).eraseIdx i) (ks.flatMap (·.es)) m_/\(k.pg::m_).Perm (ks.flatMap cW):=by
 have c9:=(List.getElem?_eq_some_iff.1 hk).1;cases i with
 |zero =>
  cases ks with
  |nil=>simp at c9
  |cons x t =>
   obtain rfl:x=k:=by simpa using hk
   have hS:=hs.erase 0 h2;refine⟨t.flatMap cW,⟨t,DN.symm,hS,by simp[he],U,λj m hm => ?_⟩,by simp[cW,o5]⟩;obtain⟨cs',a1,a2,a3⟩:=I (j+1) m (by simpa using hm) (by omega);refine⟨cs',a1.LC ?_ λb hb=>⟨b,hb,nF _⟩,a2,a3⟩;have e:loK lo (x::t) (j+1)=m.key:=by
    unfold loK;rw[ai (by omega),oI,hm]
   rw[e];unfold loK;split
   .exact oM (hs.bd (j+1) m (by simpa using hm) (by omega)).1
   .rw[hm];exact nF _
 |succ i =>
  obtain⟨kl,hl⟩:∃kl,ks[i]?=some kl:=⟨_,aF (by omega)⟩;obtain⟨m1,m2,m3,m4,m5,m6⟩:=hs.mJ hk;obtain⟨w1,w2⟩:=hs.wide c9 λj m hm _ hj=>I j m hm hj;obtain⟨cs',a1,a2,a3⟩:=I i kl hl (by omega);have hh:=Nv.hole (k1:=kl) (QC hl) U U w1 w2 (by
   rw[JT (aH _),GO (aH _)];refine a1.LC (nF _) λb hb => ?_;exact⟨_,m5,oM (m2 b hb)⟩) a2 a3
  rw[DN] at hh;refine⟨_,by rw[sg (g:=(·.es)) hl hk,he,gd];exact hh,?_⟩;rw[sg (g:=cW) hl hk,lX];intro x;simp only[cW,o5,lY,lZ,fK,List.count_nil];omega
theorem abQ {m:List α}{c:α}(h:i<m.length): dh i c (m.eraseIdx i)=m.set i c:=by
 rw[dh,nh,ga (by rw[cz];omega),vH (by rw[cz];omega),CP,ay h]
theorem Nv.shr {cut:Ky}(hs:Sep lo hi ks)(hl:ks[i]?=some kl)(hr:ks[i+1]?=some kr)(I:∀j k,ks[j]?=some k->j≠i->j≠i+1->Kd F P l (loK lo ks j) (cQ hi ks j) k)
 (nl:Nv F P l (loK lo ks i) (some cut) eV kN nU)(gl:F l eV)(pl:bH (P kl.pg) 204 0 l eV)(nr:Nv F P l cut (cQ hi ks (i+1)) eB gL nV)(gr:F l eB)(pr:bH (P kr.pg) 204 0 l eB)
 (c1:loK lo ks i<cut)(c2:∀b,cQ hi ks (i+1)=some b->cut<b)(c3:1<=cut.length/\cut.length<=96)(he:kN++gL=kl.es++kr.es)(o5:nU++nV=kl.ps++kr.ps):
  ∃m_,Nv F P (l+1) lo hi ((bI ks).set (i+1) (ff kr.pg cut)) (ks.flatMap (·.es)) m_/\m_.Perm (ks.flatMap cW):=by
 have c9:=(List.getElem?_eq_some_iff.1 hr).1;obtain⟨w1,w2⟩:=hs.wide c9 I;have e1:loK lo (ks.eraseIdx (i+1)) i=loK lo ks i:=JT (aH _);have e2:cQ hi (ks.eraseIdx (i+1)) i=cQ hi ks (i+1):=GO (aH _);have hh:=Nv.abr w1 (QC hl) w2 (by rw[e1];exact nl) gl pl (by rw[e2];exact nr) gr pr (by rw[e1];exact c1) (by rw[e2];exact c2) c3 (hs.pg kr (aI hr));rw[DN,abQ (by rw[dI];exact c9),he] at hh;refine⟨_,by rw[sg (g:=(·.es)) hl hr];exact hh,?_⟩;rw[sg (g:=cW) hl hr,lX];intro x;have:=dg (List.count x) o5;simp only[cW,lY,lZ,fK] at this ⊢;omega
end
section
variable {P:Program} {h:H} {e:TypeId} {f:TypeInfo}
theorem Wt {m:List α}(hi:i<m.length): m.take i++(m.drop (i+1)++m.drop (m.length-1))=m.eraseIdx i++m.drop (m.length-1):=by
 rw[nh,dO]
theorem ZV (s:Sat h (pt x (.cells us.length us false)::S))(hi:i<us.length)(hu:P.underlying t=some (.slice e))(hf:P.info? e=some f)(hz:zeroT P e=some z)(hk:f.size=1)(hb:f.bytes<=4096)(hzl:z.cells.length=1):
  ∃h',appendV P h #[t,t] (.sl x 0 i (.rest 1 alt)) (.sl x (i+1) (us.length-(i+1)) cap)=some (.sl x 0 (us.length-1) (.rest 1 alt),h')/\Sat h' (pt x (.cells us.length (us.eraseIdx i++us.drop (us.length-1)) false)::S):=by
 have hg:=s.row (k:=0) U;have hd:(us.drop (i+1)).length=us.length-(i+1):=fD;have hr:rdN h x (i+1) ((us.length-(i+1))*1)=some (us.drop (i+1)):=by
  rw[pL hg U,cH,g_ (by omega)]
 have I:fJ h x 0 1=us.length:=by simp only[fJ,hg];simp
 unfold appendV;simp only[hu,hf,hz,hk,srcV,hr,gO];rw[show(Nat.ble 1 1&&Nat.ble f.bytes 4096&&Nat.beq z.cells.length 1)=true by rw[aR.2 hb,qT hzl];rfl,ag];by_cases h0:us.length-(i+1)=0
 .rw[qT h0,ag];refine⟨h,by rw[show us.length-1=i by omega],?_⟩;have:us.eraseIdx i++us.drop (us.length-1)=us:=by
   rw[nh,tq (i:=i+1) (by omega),gd,show us.length-1=i by omega,jO]
  rw[this];exact s
 .rw[fO h0,aS,show Nat.beq 1 1=true from U,ag,I,aR.2 (by omega),ag,yZ hg U (by rw[hd];omega)];refine⟨_,by rw[show i+(us.length-(i+1))=us.length-1 by omega],?_⟩;have:=s.put (k:=0) (o':=.cells us.length (us.take (0+i*1)++(us.drop (i+1)++us.drop (0+i*1+(us.drop (i+1)).length))) false) U;rw[show us.take (0+i*1)++(us.drop (i+1)++us.drop (0+i*1+(us.drop (i+1)).length))=us.eraseIdx i++us.drop (us.length-1) by
   rw[<-Wt hi,hd,eW,cH,show i+(us.length-(i+1))=us.length-1 by omega]] at this ⊢
  exact this
theorem TO {c d:V}(s:Sat h (pt x (.cells (ds.length+1) (ds++[c]) false)::S))(hu:P.underlying t=some (.slice e))(I:zeroT P e=some d)(hd:d.cells=[d]):
  ∃h',clearV P h t (.sl x ds.length 1 (.rest 1 alt))=some h'/\Sat h' (pt x (.cells (ds.length+1) (ds++[d]) false)::S):=by
 have hg:=s.row (k:=0) U;unfold clearV;simp only[hu,I,hd];rw[show(Nat.ble 1 [d].length&&Nat.ble 1 1)=true from U,ag,yZ hg (by simp) (by simp[repeatL])];refine⟨_,U,?_⟩;have:=s.put (k:=0) (o':=.cells (ds.length+1) ((ds++[c]).take ds.length++(repeatL [d] 1++(ds++[c]).drop (ds.length+(repeatL [d] 1).length))) false) U;rw[show(ds++[c]).take ds.length++(repeatL [d] 1++(ds++[c]).drop (ds.length+(repeatL [d] 1).length))=ds++[d] by simp[repeatL]] at this ⊢;exact this
end
theorem abR {P:Program}{h h':H}{x:V}(he:clearV P h t x=some h'): builtinV P h .clear #[t] [x]=some (.aV [],h'):=by
 show(clearV P h t x).map _=_;rw[he];rfl
section
variable {told:cu} {h:H} {v:V}
theorem ON (hT:W told)(s:Sat h (Cz v us::S))(hi:i<us.length)(hl:us.length<=512):
  Call ⟨Tryz.prog,told⟩ 71 [v,.int .i64 (i:Int),.int .i64 ((i+1:Nat):Int)] h λr h'=>Sat h' (roS 1 r (us.eraseIdx i)::S):=by
 obtain⟨i1,c9,fc,pP⟩:=ri
 obtain⟨x,rfl,eO,s⟩:=EM s (by omega)
 have wj:(us.eraseIdx i).length=us.length-1:=by rw[G4,ay hi]
 obtain⟨c,hc⟩:∃c,us.drop (us.length-1)=[c]:=by
  have:(us.drop (us.length-1)).length=1:=by rw[fD];omega
  exact List.length_eq_one_iff.1 this
 refine Call.of_wp (hT.free _ U) Tryz.func71 U U ?_
 have xk:us=us.eraseIdx i++us.drop (us.length-1)->True:=λ_=>trivial
 have I:∀ {h:H} {n:Nat},lenV Tryz.prog h 98 (.sl x 0 n (.rest 1 0))=some (.int .i64 (n:Int)):=λ{h n}=>by simp only[lenV,aO]
 have v7:∀ {h:H} {N:Nat} {row:List V} {S:List aG},Sat h (pt x (.cells N row false)::S)->fJ h x 0 1=N:=λ{h N row S} s=>by
  have hg:=s.row (k:=0) U
  simp only[fJ,hg];simp
 have e1:sliceV Tryz.prog h 98 (.sl x 0 us.length (.rest 1 0)) (some i) (some (i+1)) (some us.length)=some (.sl x (cond (Nat.beq us.length i) 0 (0+i*1)) (i+1-i) (.exact (us.length-i))):=by
  simp only[sliceV,aO,dQ,dw]
  rw[show(Nat.beq 1 1&&Nat.ble 1 1)=true from U,ag,show(Nat.ble i (i+1)&&Nat.ble (i+1) us.length&&(Nat.ble us.length us.length||Nat.ble us.length (fJ h x 0 1))&&Nat.blt 0 us.length)=true by simp;omega,ag]
 have e2:sliceV Tryz.prog h 98 (.sl x 0 us.length (.rest 1 0)) none (some i) none=some (.sl x 0 i (.rest 1 0)):=by
  simp only[sliceV,aO,dQ,dw,fC]
  rw[show(Nat.beq 1 1&&Nat.ble 1 1)=true from U,ag,show(Nat.ble 0 i&&(Nat.ble i us.length||Nat.ble i (fJ h x 0 1)))=true by simp;omega,ag]
  rfl
 have e3:∃alt,sliceV Tryz.prog h 98 (.sl x 0 us.length (.rest 1 0)) (some (i+1)) none none=some (.sl x (i+1) (us.length-(i+1)) (.rest 1 alt)):=by
  simp only[sliceV,aO,dQ,dw,fC]
  rw[show(Nat.beq 1 1&&Nat.ble 1 1)=true from U,ag,show(Nat.ble (i+1) us.length&&(Nat.ble us.length us.length||Nat.ble us.length (fJ h x 0 1)))=true by simp;omega,ag,eW,cH]
  exact⟨_,U⟩
 obtain⟨alt,e3⟩:=e3
 obtain⟨h2,e4,s2⟩:=ZV (P:=Tryz.prog) (t:=98) (alt:=0) (cap:=.rest 1 alt) s hi aO c9 lQ fc (by omega) U
 rw[hc] at s2
 have hN:us.length=(us.eraseIdx i).length+1:=by omega
 rw[hN] at s2
 have e5:∃alt,sliceV Tryz.prog h2 98 (.sl x 0 (us.length-1) (.rest 1 0)) (some (us.length-1)) (some us.length) none=some (.sl x (us.eraseIdx i).length 1 (.rest 1 alt)):=by
  simp only[sliceV,aO,dQ,dw,fC]
  rw[show(Nat.beq 1 1&&Nat.ble 1 1)=true from U,ag,v7 s2,show(Nat.ble (us.length-1) us.length&&(Nat.ble us.length (us.length-1)||Nat.ble us.length ((us.eraseIdx i).length+1)))=true by simp;omega,ag,eW,cH,wj,show us.length-(us.length-1)=1 by omega]
  exact⟨_,U⟩
 obtain⟨aes,e5⟩:=e5
 obtain⟨h3,e6,s3⟩:=TO (P:=Tryz.prog) (t:=98) (alt:=aes) s2 aO lQ U
 refine zK 10 U (zo U (aC U U U I) (zo U (bK (p:=some (.int .i64 (i:Int))) (q:=some (.int .i64 ((i+1:Nat):Int))) (m:=some (.int .i64 (us.length:Int))) (p':=some i) (q':=some (i+1)) (m':=some us.length) U U U U (by rw[bN];rfl) (by rw[bN];rfl) (by rw[bN];rfl) e1) ?_))
 refine zk 6 U (zC U cS (by simp;omega) ?_)
 refine zk 6 U (zo U (aC U U U I) (zk 3 U ?_))
 have z0:=s
 refine WP.drawn [af,af,af,af,af,af,af,af] U (by kernel_rfl) (by kernel_rfl) ?_
 refine zM U (zM U (zO U (bK (p:=none) (q:=some (.int .i64 (i:Int))) (m:=none) (p':=none) (q':=some i) (m':=none) U U U U U (by rw[bN];rfl) U e2) ?_))
 refine zM U (zM U (zO U (bK (p:=some (.int .i64 ((i+1:Nat):Int))) (q:=none) (m:=none) (p':=some (i+1)) (q':=none) (m':=none) U U U U (by rw[bN];rfl) U U e3) ?_))
 refine aB.any U U U U (OpR.of (R:=λv h'=>v=.sl x 0 (us.length-1) (.rest 1 0)/\h'=h2) (jc U U e4) ⟨U,U⟩) ?_
 rintro v' h ⟨rfl,rfl⟩
 refine zA U ?_
 refine aB.nil ⟨⟨aa,aa,aa,aa,aa,aa,aa,aa,aa⟩,?_⟩
 refine zK 4 U (zo U (aC U U U I) (zm U (zo U (bK (p:=some (.int .i64 ((us.length-1:Nat):Int))) (q:=some (.int .i64 (us.length:Int))) (m:=none) (p':=some (us.length-1)) (q':=some us.length) (m':=none) U U U U (by rw[bN];rfl) (by rw[bN];rfl) U e5) ?_)))
 refine au.lP U U (OpR.of (R:=λv h'=>h'=h3) (KB U U (abR e6)) U) ?_
 rintro v' h rfl
 have s:=s3.freeze
 refine zk 6 U (WP.ret ⟨aa,_,U,?_⟩)
 rw[<-wj]
 exact uF (N:=(us.eraseIdx i).length+1) (row:=us.eraseIdx i++[.aZ]) (by simp) (by omega) (by simp) U (by
  rw[nB] at eO ⊢
  exact λy hy=>eO y (yn hy)) s
end
section
variable {told:cu} {h:H} {p:Nat}
theorem OO (i:Nat)(s:Sat h (dn us cs::S)): Sat h (dn (us.eraseIdx i) (cs.eraseIdx i)::S):=s.eD λm r h=>by
 rw[nh,nh];exact Au (CD i h) (CE (i+1) h)
theorem Sat.Yk {A:aG}: ∀(k:Nat) {S:List aG},Sat h (A::C::S)->Sat h (A::C::S.drop k):=by
 intro k;induction k with
 |zero=>intro S s;exact s
 |succ k I=>intro S s;cases S with
  |nil=>exact s
  |cons B S=>exact I (S:=S) (s.del 2)
theorem Ed (I:W told)(hB:B<=2000)(b_:EI N B ε)(hw:NW N now)(hn:n<N)(hp:bH b 204 0 l cs)(hi:i<cs.length)(hc:∀c∈cs,1<=c.length)(s:Sat h (GA g a p q r data aQ now ε::aW x n l b cs::S)):
  Call ⟨Tryz.prog,told⟩ 156 [.ptr x 0,.ptr g 0,.int .i64 (i:Int)] h λv h'=>∃ah b',v=.int .i64 0/\EI N B ah/\Sm N ε ah/\NW N (cD (n:Int) b' now)/\bH b' 204 0 l (cs.eraseIdx i)/\Sat h' (GA g a p q r data aQ (cD (n:Int) b' now) ah::aW x n l b' (cs.eraseIdx i)::S):=by
 have dL:=hp.fits;have s:=s.ae [1];obtain⟨bv,cv,us,s⟩:=aT.1 s;have ou:=kj (s.ae [3]);refine Call.of_wp (I.free _ U) Tryz.func156 U U (zK 8 U (zY s 0 nP b8 U (zm U ?_)));have s:=s.ae [1];refine zc U (L_ I s (bC _ _) hp hi hc) ?_;rintro v h ⟨u,b',rfl,uH,s⟩;have s:=s.ae [2,2];refine zk 10 U (zC U aE (U) (zk 10 U (zY s 0 cM gu U ?_)));have s:=s.ae [1];refine zc U (mT I s (cR _ _ _)) ?_;intro cl h s;have s:=OO i (s.ae [5]);have s:=s.ae [1];refine zk 2 U (zo U (aq (r:=.int .i64 ((i+1:Nat):Int)) U U (by rw[show((i+1:Nat):Int)=(i:Int)+1 by omega];exact aM ak)) ?_);refine zc U (ON I s (by omega) (by omega)) ?_;intro dl h s;have s:=(s.ae [4]).fh;have xC:=(s.aD (k:=0) U (bC _ _)).cells;have GP:=ko (s.jm (j:=1) U (cR _ _ _));refine zn U (zf U (nP _ _) (zS U (s.kz (k:=4) U dQ U (by decide) xC.1 xC.2) ?_));intro h s;refine zn U (zf U (cM _ _) (zS U (s.kz (k:=4) U U1 U (by decide) GP.1 GP.2.1) ?_));intro h s;have s:=s.ae [6,0];refine zk 6 U (zY s 5 iB bT U (zm U (zc U (wP I hB b_ hw hn s (bC _ _) uH.good) ?_)));rintro v h ⟨ah,rfl,k1,k2,k3,s⟩;refine zk 2 U (WP.ret ⟨aa,_,U,?_⟩);have s:=s.ae [5,1,1,1,0];have s:Sat h (aW x n l b' (cs.eraseIdx i)::_):=aT.2 ⟨u,dl,_,s⟩;exact⟨ah,b',U,k1,k2,k3,uH,(s.ae [1]).Yk 2⟩
end
section
theorem jo.less (h:jo N M ps){z:Nat}{M':List Nat}(hp:ps.Perm (z::qs))(hb:∀j,j<N->bt M' j=if j=z then false else bt M j): jo N M' qs:=by
 have I:=h.perm hp;obtain⟨h3,h4⟩:=List.nodup_cons.1 I.nd;refine⟨h4,λp hq=>I.mz p (bw _ hq),λj hj => ?_⟩;have hz:=I.mz z a_;rw[hb j hj];by_cases q:j=z
 .subst q;rw[ay U];refine(decide_eq_false λq => ?_).symm;rcases q with q|q
  .omega
  .exact h3 q
 .rw[ai q,I.bits j hj];congr 1;simp only[gz,q,false_or]
end
section
variable {told:cu} {h:H} {p:Nat}
theorem EY (hT:W told)(hB:B<=2000)(b_:EI N B ε)(hw:NW N now)(I:fT N R M (pgG now ε))(ht:jo N M ps){z:Nat}(hz:ps.Perm (z::qs))(s:Sat h (GA g a p q r data aQ now ε::S)):
  Call ⟨Tryz.prog,told⟩ 155 [.ptr g 0,.int .i64 (z:Int)] h λv h'=>∃ah aJ M',v=.int .i64 0/\EI N B ah/\Sm N ε ah/\NW N aJ/\aJ.length<=now.length+1/\fT N R M' (pgG aJ ah)/\jo N M' qs/\(∀m,m≠1->pgG aJ ah m=pgG now ε m)/\Sat h' (GA g a p q r data aQ aJ ah::S):=by
 have hzm:z∈ps:=hz.mem_iff.2 a_;obtain⟨z1,z2⟩:=ht.mz z hzm;have hb:=ht.bits z z2;rw[dZ (.inr hzm)] at hb;have Gd:=I.ml;have qp:=I.n2;refine(Tl hT hB b_ hw I s).mono ?_;rintro v h' ⟨ah,aJ,k1,k2,k3,k4,s,(⟨wW,_⟩|⟨_,_,_,rfl,k5,k6⟩)⟩
 .exact absurd ⟨by omega,by omega,hb⟩ wW
 .exact⟨ah,aJ,_,U,k1,k2,k3,k4,k5,ht.less hz λj hj=>X5 (by rw[Gd];show z/8<_;omega),k6,s⟩
end
section
variable {told:cu} {h:H} {cut:Ky} {mr:Nat}
abbrev TP (xu i xl xr:Nat): V:=.agg [.ptr xu 0,.int .i64 (i:Int),.ptr xl 0,.ptr xr 0]
theorem Wu {P:Program}{v:V}{e:TypeId}{f:TypeInfo}(s:Sat h (Cz v us::.arr 1 w ds::S))(hu:P.underlying t=some (.slice e))(hi:P.info? e=some f)(I:zeroT P e=some z)(hk:f.size=1)(hb:f.bytes<=4096)(hl:z.cells.length=1)(fY:us.length+ds.length<=1073741824):
  ∃v' h',appendV P h #[t,t] v w=some (v',h')/\Sat h' (.arr 1 v' (us++ds)::S):=by
 obtain⟨v',h',e1,s⟩:=iw (k:=1) (s.eD k8) hu hi I hk hb hl (by decide) (by omega);exact⟨v',h',e1,s.del 1⟩
theorem ZW {P:Program}{v:V}{e:TypeId}(s:Sat h (Cz v us::S))(hu:P.underlying t=some (.slice e)): lenV P h t v=some (.int .i64 (us.length:Int)):=(s.eD k8).fq (j:=0) (n:=us.length) U (by rw[cH]) (by decide) hu
theorem ZX {vs:List V}{ds:List (List Nat)}(s:Sat h (dn us cs::dn vs ds::S)): Sat h (dn (us++vs) (cs++ds)::S):=s.two (bf.qO _ _) (bf.qO _ _) λm r a b=>Au a b
noncomputable def jnT : Code:=cX [1,1,1] ((Tryz.f83.body).getD .skip)
theorem OP (hT:W told){v3:V}{I:List V}{cs3:List (List Nat)}{p1:Nat}(h3:I.length<=512)(hl:eV.length<=512)(hj:gZ l cut eV eB=eV++cs3)
 (s:Sat h (.arr 1 v3 I::dn I cs3::pt p1 (.cells 4 [.ptr xu 0,.int .i64 (i:Int),.ptr xl 0,.ptr xr 0] false)::aW xu nu (l+1) bu qQ::aW xl nl l bl eV::aW xr nr l br eB::S))(hE:Has E [(1,.ptr p1 0),(3,v3)])
 (hq:∀E' h' v us,Has E' [(2,v)]->Sat h' (roS 1 v us::dn us (gZ l cut eV eB)::aW xu nu (l+1) bu qQ::aW xl nl l bl eV::aW xr nr l br eB::S)->Q .ret E' h'): WP ⟨Tryz.prog,told⟩ 41 jnT E h Q:=by
 obtain⟨i1,c9,fc,pP⟩:=ri;have s:=s.ae [4];obtain⟨bv,cv,usl,s⟩:=aT.1 s;have afD:=kj (s.ae [3]);refine WP.has hE (zg U (zY s 6 vP fH U (zn U (zY s 0 cM gu U ?_))));have s:=s.ae [2];refine zc U (mT hT s (cR _ _ _)) ?_;intro v4 h s;have s:=s.ae [0,4];obtain⟨av,h2,e1,s2⟩:=Wu (P:=Tryz.prog) s aO c9 lQ fc (by omega) U (by omega);refine zm U (au.any U U U (OpR.of (R:=λv h'=>v=av/\h'=h2) (jc U U e1) ⟨U,U⟩) ?_);rintro v' h ⟨rfl,rfl⟩;have s:=(s2.ae [4]).dup (bf.qO _ _);have s:=ZX (s.ae [0,5]);rw[<-hj] at s;have s:=s.ae [4,4,3,1];have s:Sat h (aW xl nl l bl eV::_):=aT.2 ⟨bv,cv,usl,s⟩;have s:=((s.ae [2]).rW).eD Gu;have s:=(s.ae [0,1,2,0,1]).del 5;exact zk 2 U (WP.ret (hq _ _ _ _ ⟨U,aa⟩ s))
theorem Jh (I:W told)(hc:qQ[i+1]?=some (ff mr cut))(nX:cut.length<=96)(hu:qQ.length<=512)(hl:eV.length<=512)(hr:eB.length<=512)(aet:l+1<=64)(hk:1<=l->∃m ky,eB[0]?=some (ff m ky)/\m<4294967296)
 (s:Sat h (aW xu nu (l+1) bu qQ::aW xl nl l bl eV::aW xr nr l br eB::S)):
  Call ⟨Tryz.prog,told⟩ 83 [TP xu i xl xr] h λv h'=>∃us,Sat h' (roS 1 v us::dn us (gZ l cut eV eB)::aW xu nu (l+1) bu qQ::aW xl nl l bl eV::aW xr nr l br eB::S):=by
 have s:=s.ae [2];obtain⟨bv,cv,Yl,s⟩:=aT.1 s;have aeu:=kj (s.ae [3]);refine Call.of_wp (I.free _ U) Tryz.func83 U U (zg U ?_);refine au.cg s U U U (fG U U) (λp1 h s => ?_);refine zk 4 U (zY s 0 rT fH U (zn U (zY s 1 cM gu U ?_)));have s:=s.ae [3];refine zc U (mT I s (cR _ _ _)) ?_;intro v3 h s;have s:=(s.ae [5]).dup (bf.qO _ _);have s:=s.ae [2,0,3];refine zk 5 U (zY s 5 rT fH U (zn U (zY s 2 ew bT U ?_)));by_cases h0:l=0
 .subst h0;refine zC U cP (by simp) ?_;have s:=s.ae [2,5,3,2];have s:Sat h (aW xr nr 0 br eB::_):=aT.2 ⟨bv,cv,Yl,s⟩;have s:=(s.ae [1,1,1,1,1,0]).eD k8;exact zk 8 U (OP I (by omega) hl (by unfold gZ;rw[ay U]) s ⟨U,U,aa⟩ λE' h' v us hE s=>⟨aa,_,xW hE.1,us,s⟩)
 .skip;refine zB U cP (by simp;omega) ?_;obtain⟨m,ky,By,hm⟩:=hk (by omega);obtain⟨c0,t0,rfl⟩:∃c t,eB=c::t:=by
   cases eB with
   |nil=>simp at By
   |cons c t=>exact⟨c,t,U⟩
  obtain rfl:c0=ff m ky:=by simpa using By
  rw[aX] at aeu hr;refine zk 2 U (zo U (aC U U U (ZW s aO)) (zB U cP (by simp;omega) ?_));have s:=s.ae [2,5,3,2];have s:Sat h (aW xr nr l br (ff m ky::t0)::_):=aT.2 ⟨bv,cv,Yl,s⟩;obtain⟨l',rfl⟩:∃l',l=l'+1:=⟨l-1,by omega⟩;have Np:=(ko (((s.ae [1]).eD k8).jm (j:=0) U (jg _ _ _).s)).2.2;have z0:=s;refine zk 3 U (WP.drawn [some (0,4),af,af,af,some (0,2),some (0,2),some (0,2),some (0,2),some (0,2),af,af,af,af] U (by kernel_rfl) (by kernel_rfl) ?_);refine zM U (zF U (rT _ _) (zL U (s.ld (k:=3) U fH U) (aB.any U U U U (OpR.call U U U U (DI I By hm s)) ?_)));rintro v h ⟨rfl,s⟩;have z1:=s;have s:=s.ae [4];refine zF U (l8 _ _) (zL U (s.ld (k:=4) U fH U) (zF U (yV _ _) (zL U (s.ld (k:=4) U bT U) ?_)));refine zO U (aq (r:=.int .i64 ((i+1:Nat):Int)) U U (by rw[show((i+1:Nat):Int)=(i:Int)+1 by omega];exact aM (ak (by omega) (by have:=(List.getElem?_eq_some_iff.1 hc).1;omega)))) ?_;refine aB.any U U U U (OpR.call U U U U (oR I hc (by rw[iT,ai (by omega),ff,aN,cO];omega) aet (by rw[ff,aN,cO];omega) s)) ?_;intro kv h s;rw[ql] at s;have z2:=s;refine aB.any U U U U (OpR.call U U U U (zU I hm s (bC _ _) (by omega))) ?_;intro u h s;have s:=s.fh;have Jd:=(s.aD (k:=0) U (bC _ _)).cells;have s:=(s.ae [4]).eD k8;obtain⟨wz,LU,h2,e3,e4,s2⟩:=sZ (P:=Tryz.prog) (i:=0) (x:=u) s (by omega) Jd.1 Jd.2 aO dQ;have z3:=s;refine zO U (bM (r:=.ptr wz LU) U U e3) (aB.lP U U U (OpR.yU U U U (⟨_,e4,s2⟩)) ?_);rintro _ h ⟨_,s⟩;refine aB.nil ⟨⟨λ_ _=>.inr ⟨U,⟨_,bZ U⟩,Np⟩,aa,aa,aa,λ_ _=>.inr ⟨U,⟨_,mX U (l8 _ _)⟩,bp _ U⟩,gC (.inr ⟨U,⟨_,o_load U (z0.ld (k:=3) U fH U)⟩,bp _ U⟩) (.inr ⟨U,⟨_,o_load U (z1.ld (k:=3) U fH U)⟩,bp _ U⟩),λ_ _=>.inr ⟨U,⟨_,mX U (yV _ _)⟩,bp _ U⟩,gC (.inr ⟨U,⟨_,o_load U (z0.ld (k:=3) U bT U)⟩,bp _ U⟩) (.inr ⟨U,⟨_,o_load U (z1.ld (k:=3) U bT U)⟩,bp _ U⟩),λ_ _=>.inr ⟨U,⟨_,aq (r:=.int .i64 ((i+1:Nat):Int)) U U (by rw[show((i+1:Nat):Int)=(i:Int)+1 by omega];exact aM (ak (by omega) (by have:=(List.getElem?_eq_some_iff.1 hc).1;omega)))⟩,bp _ U⟩,yr 5⟩,?_⟩;have s:=EU (s.ae [1,4]);have s:=s.ae [1,0,3,1,2,1];exact OP I (by rw[cL];omega) hl (by unfold gZ;rw[ai (by omega)];simp only[ff,ga (cO 4 m)]) s ⟨U,U,aa⟩ λE' h' v us hE s=>⟨aa,_,xW hE.1,us,s.del 5⟩
end
section
variable {told:cu} {h:H} {p:Nat} {kd:fV}
theorem Sat.Ym {A:aG}: ∀(k:Nat) {S:List aG},Sat h (A::C::D::S)->Sat h (A::C::D::S.drop k):=by
 intro k;induction k with
 |zero=>intro S s;exact s
 |succ k I=>intro S s;cases S with
  |nil=>exact s
  |cons B S=>exact I (S:=S) (s.del 3)
theorem Ma (hT:W told)(hi:i<ks.length)(hl:ks.length<=512){TQ:Bool}(I:if TQ then ks.length<=i+1 else i=0)(s:Sat h (aW xu nu (l+1) bu (bI ks)::S)):
  Call ⟨Tryz.prog,told⟩ 157 [.ptr g 0,.agg [.ptr xu 0,.int .i64 (i:Int)],.ptr x 0,.bool TQ] h λv h'=>v=.aV [.agg [.cf,.int .i64 0,.cf,.cf],.bool false,.int .i64 0]/\Sat h' (aW xu nu (l+1) bu (bI ks)::S):=by
 obtain⟨bv,cv,us,s⟩:=aT.1 s;have jk:∀ {h:H} {S:List aG} {A C:aG},Sat h (A::C::pt xu (.cells 4 (uZ nu (l+1) bv cv) false)::.cG bv bu::roS 1 cv us::dn us (bI ks)::S)->lenV Tryz.prog h 98 cv=some (.int .i64 (ks.length:Int)):=λ{h S A C} s=>by
  have s:=s.drop.drop;have:=gR (P:=Tryz.prog) aO s
  rwa [dI] at this
 cases TQ with
 |true =>
  have I:ks.length<=i+1:=I;refine Call.of_wp (hT.free _ U) GM U U (zg U ?_);refine au.cg s U U U (fG U U) (λp5 h s => ?_);refine au.cg s U U U (cm vl) (λp8 h s => ?_);refine zk 5 U (zY s 1 sH bT U (zk 6 U (zo U (eo U U) (zk 7 U (zC U aK (decide_eq_false (by omega)) ?_)))));refine zk 2 U (zo U (aq (r:=.int .i64 ((i+1:Nat):Int)) U U (by rw[show((i+1:Nat):Int)=(i:Int)+1 by omega];exact aM ak)) ?_);refine zY s 1 jx fH U (zn U (zY s 2 cM gu U (zo U (aC U U U (jk s)) (zB U j5 (decide_eq_true (by omega)) ?_))));refine zk 5 U (zo U (cI U (by rw[JK];rfl)) ?_);refine zS U (s.gX (j:=0) U jB U U) (λh s => ?_);refine zk 3 U ?_;refine WP.ret ⟨aa,_,DE U (s.b7 (k:=0) U qf jB) U U,?_⟩;exact⟨U,aT.2 ⟨bv,cv,us,s.drop.drop⟩⟩
 |false =>
  have I:i=0:=I;subst I;refine Call.of_wp (hT.free _ U) GM U U (zg U ?_);refine au.cg s U U U (fG U U) (λp5 h s => ?_);refine au.cg s U U U (cm vl) (λp8 h s => ?_);refine zk 5 U (zY s 1 sH bT U (zk 6 U (zo U (eo U U) (zk 4 U (zb U (by exact dM ak) ?_)))));refine zk 6 U (zB U aK (by decide) ?_);refine zk 15 U (zo U (cI U (by rw[JK];rfl)) ?_);refine zS U (s.gX (j:=0) U jB U U) (λh s => ?_);refine zk 3 U ?_;refine WP.ret ⟨aa,_,DE U (s.b7 (k:=0) U qf jB) U U,?_⟩;exact⟨U,aT.2 ⟨bv,cv,us,s.drop.drop⟩⟩
theorem Wv (hT:W told)(hB:B<=2000)(hN:N<=65536)(b_:EI N B ε)(hw:NW N now)(hi:ks[i+1]?=some kd)(hl:ks.length<=512)(I:l+1<=64)(hm:kd.pg<N)(hp:bH (pgG now ε kd.pg) 204 0 l cs)(hc:∀c∈cs,iT l c/\c.length<=225)
 (s:Sat h (GA g a p q r data aQ now ε::aW xu nu (l+1) bu (bI ks)::S)):
  Call ⟨Tryz.prog,told⟩ 157 [.ptr g 0,.agg [.ptr xu 0,.int .i64 (i:Int)],.ptr x 0,.bool true] h λv h'=>∃y ah,v=.aV [TP xu i x y,.bool true,.int .i64 0]/\EI N B ah/\Sm N ε ah/\Sat h' (GA g a p q r data aQ now ah::aW y kd.pg l (pgG now ε kd.pg) cs::aW xu nu (l+1) bu (bI ks)::S):=by
 have A6:=(List.getElem?_eq_some_iff.1 hi).1;have s:=s.ae [1];obtain⟨bv,cv,us,s⟩:=aT.1 s;have jk:∀ {h:H} {S:List aG} {A C:aG},Sat h (A::C::pt xu (.cells 4 (uZ nu (l+1) bv cv) false)::.cG bv bu::roS 1 cv us::dn us (bI ks)::S)->lenV Tryz.prog h 98 cv=some (.int .i64 (ks.length:Int)):=λ{h S A C} s=>by
  have s:=s.drop.drop;have:=gR (P:=Tryz.prog) aO s
  rwa [dI] at this
 refine Call.of_wp (hT.free _ U) GM U U (zg U ?_);refine au.cg s U U U (fG U U) (λp5 h s => ?_);refine au.cg s U U U (cm vl) (λp8 h s => ?_);refine zk 5 U (zY s 1 sH bT U (zk 6 U (zo U (eo U U) (zk 7 U (zC U aK (decide_eq_false (by omega)) ?_)))));refine zk 2 U (zo U (aq (r:=.int .i64 ((i+1:Nat):Int)) U U (by rw[show((i+1:Nat):Int)=(i:Int)+1 by omega];exact aM ak)) ?_);refine zY s 1 jx fH U (zn U (zY s 2 cM gu U (zo U (aC U U U (jk s)) (zC U j5 (decide_eq_false (by omega)) ?_))));refine zk 6 U (zY s 1 jx fH U (zk 3 U (zo U (cI U (by rw[JK];rfl)) ?_)));refine zS U (s.gX (j:=0) U jB U U) (λh s => ?_);refine zk 8 U (zY s 1 jx fH U (zm U (zo U (oz U (mki_of jH U)) (zm U (zo U (aq (r:=.int .i64 ((i+1:Nat):Int)) U U (by rw[show((i+1:Nat):Int)=(i:Int)+1 by omega];exact aM ak)) ?_)))));have s:=s.ae [2,2,2,2];have s:Sat h (aW xu nu (l+1) bu (bI ks)::_):=aT.2 ⟨bv,cv,us,s⟩;have s:=s.ae [0,2];refine zc U (sY hT (EH hT hB hw) b_ (gU hi) hm hN hp hc I s) ?_;rintro v h ⟨y,ah,rfl,uX,hs,s⟩;have s:=s.ae [3];refine zk 3 U (zf U (rT _ _) ?_);refine zS U (by exact s.kz (k:=0) U aa8 U (by decide) U U) (λh s => ?_);refine zk 4 U (zl U (s.b7 (k:=0) U qf jB) (zm U (zB U cS (U) (zm U ?_))));refine zS U (s.gX (j:=0) U jB U U) (λh s => ?_);refine zk 3 U ?_;refine WP.ret ⟨aa,_,DE U (s.b7 (k:=0) U qf jB) U U,?_⟩;exact⟨y,ah,U,uX,hs,(s.ae [3,1,1]).Ym 2⟩
theorem Ww (hT:W told)(hB:B<=2000)(hN:N<=65536)(b_:EI N B ε)(hw:NW N now)(hk:ks[i]?=some kd)(hi:i+1<ks.length)(hl:ks.length<=512)(I:l+1<=64)(hm:kd.pg<N)(hp:bH (pgG now ε kd.pg) 204 0 l cs)(hc:∀c∈cs,iT l c/\c.length<=225)
 (s:Sat h (GA g a p q r data aQ now ε::aW xu nu (l+1) bu (bI ks)::S)):
  Call ⟨Tryz.prog,told⟩ 157 [.ptr g 0,.agg [.ptr xu 0,.int .i64 ((i+1:Nat):Int)],.ptr x 0,.bool false] h λv h'=>∃y ah,v=.aV [TP xu i y x,.bool true,.int .i64 0]/\EI N B ah/\Sm N ε ah/\Sat h' (GA g a p q r data aQ now ah::aW y kd.pg l (pgG now ε kd.pg) cs::aW xu nu (l+1) bu (bI ks)::S):=by
 have s:=s.ae [1];obtain⟨bv,cv,us,s⟩:=aT.1 s;have jk:∀ {h:H} {S:List aG} {A C:aG},Sat h (A::C::pt xu (.cells 4 (uZ nu (l+1) bv cv) false)::.cG bv bu::roS 1 cv us::dn us (bI ks)::S)->lenV Tryz.prog h 98 cv=some (.int .i64 (ks.length:Int)):=λ{h S A C} s=>by
  have s:=s.drop.drop;have:=gR (P:=Tryz.prog) aO s
  rwa [dI] at this
 refine Call.of_wp (hT.free _ U) GM U U (zg U ?_);refine au.cg s U U U (fG U U) (λp5 h s => ?_);refine au.cg s U U U (cm vl) (λp8 h s => ?_);refine zk 5 U (zY s 1 sH bT U (zk 6 U (zo U (eo U U) (zk 4 U (zo U (aq (r:=.int .i64 (i:Int)) U U (by rw[show(i:Int)=((i+1:Nat):Int)-1 by omega];exact dM ak)) ?_)))));refine zk 6 U (zC U aK (decide_eq_false (by omega)) ?_);refine zk 2 U (zo U (aq (r:=.int .i64 ((i+1:Nat):Int)) U U (by rw[show((i+1:Nat):Int)=(i:Int)+1 by omega];exact aM ak)) ?_);refine zY s 1 jx fH U (zn U (zY s 2 cM gu U (zo U (aC U U U (jk s)) (zC U j5 (decide_eq_false (by omega)) ?_))));refine zk 6 U (zY s 1 jx fH U (zk 3 U (zo U (cI U (by rw[JK];rfl)) ?_)));refine zS U (s.gX (j:=0) U jB U U) (λh s => ?_);refine zk 8 U (zY s 1 jx fH U (zm U (zo U (oz U (mki_of jH U)) (zm U ?_))));have s:=s.ae [2,2,2,2];have s:Sat h (aW xu nu (l+1) bu (bI ks)::_):=aT.2 ⟨bv,cv,us,s⟩;have s:=s.ae [0,2];refine zc U (sY hT (EH hT hB hw) b_ (gU hk) hm hN hp hc I s) ?_;rintro v h ⟨y,ah,rfl,uX,hs,s⟩;have s:=s.ae [3];refine zk 3 U (zf U (vP _ _) ?_);refine zS U (by exact s.kz (k:=0) U aa8 U (by decide) U U) (λh s => ?_);refine zk 4 U (zl U (s.b7 (k:=0) U qf jB) (zm U (zB U cS (U) (zm U ?_))));refine zS U (s.gX (j:=0) U jB U U) (λh s => ?_);refine zk 3 U ?_;refine WP.ret ⟨aa,_,DE U (s.b7 (k:=0) U qf jB) U U,?_⟩;exact⟨y,ah,U,uX,hs,(s.ae [3,1,1]).Ym 2⟩
end
section
variable {told:cu} {h:H} {p:Nat} {v:V}
theorem Wx (hT:W told)(hB:B<=2000)(b_:EI N B ε)(hw:NW N now)(gD:fT N R M (pgG now ε))(ht:jo N M ps)(hz:ps.Perm (nr::qs))(pZ:nl∈ps)(hnu:nu∈ps)(hlu:nl≠nu)(hf:cB J<=486)(hl:l+1<=64)(Gk:bH bu 204 0 (l+1) qQ)(hi:i+1<qQ.length)(hcu:∀c∈qQ,1<=c.length)
 (s:Sat h (GA g a p q r data aQ now ε::roS 1 v us::dn us J::aW xu nu (l+1) bu qQ::aW xl nl l bl eV::aW xr nr l br eB::S)):
  Call ⟨Tryz.prog,told⟩ 85 [TP xu i xl xr,.ptr g 0,v] h λv' h'=>∃ah aJ M' bJ bU,v'=.int .i64 0/\EI N B ah/\Sm N ε ah/\NW N aJ/\aJ.length<=now.length+3/\fT N R M' (pgG aJ ah)/\jo N M' qs/\bH bJ 204 0 l J/\bH bU 204 0 (l+1) (qQ.eraseIdx (i+1))/\pgG aJ ah nl=bJ/\pgG aJ ah nu=bU/\(∀m:Int,m≠1->m≠nl->m≠nu->pgG aJ ah m=pgG now ε m) /\
   Sat h' (GA g a p q r data aQ aJ ah::aW xu nu (l+1) bU (qQ.eraseIdx (i+1))::S):=by
 have Ee:=ht.mz nl pZ
 have hur:=ht.mz nu hnu
 have afe:=Gk.fits
 have s:=s.ae [4]
 obtain⟨bvl,cvl,usl,s⟩:=aT.1 s
 have s:=s.ae [8]
 obtain⟨bvr,cvr,Yl,s⟩:=aT.1 s
 have s:=s.ae [0,3,6,6,6,6]
 have Ls:=(ko (s.jm (j:=3) U (cR _ _ _))).2.2
 refine Call.of_wp (hT.free _ U) Tryz.func85 U U (zg U ?_)
 refine au.cg s U U U (fG U U) (λp3 h s => ?_)
 refine zk 4 U ?_
 have s:=s.ae [3,3,3]
 refine WP.drawn [af,af,af,af,af,af,af,af,af,af,af,af,af,af] U (by kernel_rfl) (by kernel_rfl) ?_
 refine zM U (zF U (vP _ _) (zL U (s.ld (k:=3) U fH U) (zN U (zF U (iB _ _) (zL U (s.ld (k:=5) U bT U) (zF U (vP _ _) (zL U (s.ld (k:=3) U fH U) (zN U (zF U (ew _ _) (zL U (s.ld (k:=5) U bT U) (zM U (aB.any U U U U (OpR.call U U U U (mS hT hB b_ hw Ee.2 (cR _ _ _) hf (by omega) s)) ?_))))))))))))
 rintro v0 h ⟨dz,bJ,rfl,a1,a2,a3,a4,s⟩
 have j3:∀m:Int,pgG (cD (nl:Int) bJ now) dz m=if (nl:Int)=m then bJ else pgG now ε m:=λm=>by rw[eY,gI a2]
 have AO:fT N R M (pgG (cD (nl:Int) bJ now) dz):=gD.frame (by rw[j3,ai (by omega)]) (by rw[j3,ai (by omega)])
 have jk:=gy (i:=(nl:Int)) (b:=bJ) (now:=now)
 generalize aff:cD (nl:Int) bJ now=n_ at s j3 AO a3 jk
 refine zA U ?_
 refine aB.nil ⟨⟨aa,aa,aa,aa,aa,aa,aa,aa,aa,aa,aa,aa,aa,aa,aa⟩,?_⟩
 refine zK 3 U (zC U aE (U) (zk 7 U (zY s 3 rT fH U (zn U (zY s 4 iB bT U (zc U (EY hT hB a1 a3 AO ht hz s) ?_))))))
 rintro v0 h ⟨ij,mB,M2,rfl,c1,c2,c3,c4,c5,c6,c7,s⟩
 refine zk 5 U (zC U aE (U) (zk 5 U (zY s 3 l8 fH U (zm U (zY s 3 yV bT U (zo U (aq (r:=.int .i64 ((i+1:Nat):Int)) U U (by rw[show((i+1:Nat):Int)=(i:Int)+1 by omega];exact aM ak)) ?_))))))
 have s:=s.ae [0,5]
 refine zc U (Ed hT hB c1 c3 hur.2 Gk hi hcu s) ?_
 rintro v0 h ⟨kQ,bU,rfl,d1,d2,d3,d4,s⟩
 refine zk 2 U (WP.ret ⟨aa,_,U,?_⟩)
 have I:∀m:Int,pgG (cD (nu:Int) bU mB) kQ m=if (nu:Int)=m then bU else pgG mB ij m:=λm=>by rw[eY,gI d2]
 have aev:=gy (i:=(nu:Int)) (b:=bU) (now:=mB)
 refine⟨kQ,_,M2,bJ,bU,U,d1,a2.trans (c2.trans d2),d3,by omega,c5.frame ?_ ?_,c6,a4.f,d4,?_,?_,λm h1 h2 h3 => ?_,s.Yk 11⟩
 .rw[I,ai (by omega)]
 .rw[I,ai (by omega)]
 .rw[I,ai (by omega),c7 _ (by omega),j3,ay U]
 .rw[I,ay U]
 .rw[I,ai (λe=>h3 e.symm),c7 _ h1,j3,ai (λe=>h2 e.symm)]
end
section
variable {told:cu} {p:Nat}
theorem EZ {k lk e:Nat}(h:bH b k lk e cs): cB cs<=486:=by
 have:=h.fits;rw[ku];omega
theorem Na {h:H}{n l:Int}{bv cv:V}(hb:View h bv b)(hc:wN (T.get h.tr) 1 cv us): buildV Tryz.prog 101 [(0,.int .i64 n),(1,.int .i64 l),(2,bv),(3,cv)]=some (.agg [.int .i64 n,.int .i64 l,bv,cv]):=by
 rcases hb.2 with⟨rfl|⟨a,rfl⟩,_⟩|⟨id,off,cap,N,cs,st,rfl,_⟩<;>rcases hc.2 with⟨rfl,_⟩|⟨wz,I,n2,HP,N2,rest,rfl,_⟩<;>(rw[PA];rfl)
noncomputable def aew : Code:=cX [1,1,0,0,0] ((Tryz.f154.body).getD .skip)
theorem GQ (hT:W told)(hB:B<=2000)(hN:N<=65536)(hL:L<=60): ∀(l x nl:Nat) (cs:List (List Nat)) (ps M:List Nat) (ε:bk) (now:List (Int×List Nat)) (h:H) (E:List (Nat×V)) (S:List aG) (Q:Ex->List (Nat×V)->H->Prop),
  EI N B ε->NW N now->fT N R M (pgG now ε)->jo N M ((root::ps)++ot)->Nv (cU Z) (pgG now ε) l [] none cs es ps->bH (pgG now ε root) 204 0 l cs->l<=L->lam l cs<=A->(1<=l->374*l+112<=A)->(∀m∈ot,pgG now ε (m:Nat)=P0 m)->now.length+2*l<=nl ->
  Sat h (GA g a p q r data aQ now ε::aW x root l (pgG now ε root) cs::S)->Has E [(0,.ptr g 0),(1,.ptr x 0)] ->
  (∀E' h' ah aJ,EI N B ah->Sm N ε ah->NW N aJ->aJ.length<=nl->qv N root R ot Z A L P0 (pgG aJ ah) es->Has E' [(0,.ptr g 0)]->Sat h' (GA g a p q r data aQ aJ ah::S)->Q (.exit 0) E' h')->WP ⟨Tryz.prog,told⟩ 91 (.loop aew) E h Q:=by
 intro l
 induction l with
 |zero =>
  intro x nl cs ps M ε now h E S Q b_ hw gD I jM hp hlL AV Yn uI pZ s hE hq
  have s:=s.ae [1]
  obtain⟨bv,cv,us,s⟩:=aT.1 s
  refine WP.loop (WP.has hE (zK 5 U (zY s 0 ew bT U (zC U cP (by simp) ?_))))
  refine zk 10 U (WP.exit ?_)
  have s:=s.ae [4]
  exact hq _ _ ε now b_ (Sm.refl N ε) hw (by omega) ⟨M,0,cs,ps,gD,I,jM,hp,⟨hlL,AV⟩,uI⟩ ⟨U,aa⟩ (s.skip 4)
 |succ l ih =>
  intro x nl cs ps M ε now h E S Q b_ hw gD I jM hp hlL AV Yn uI pZ s hE hq
  have abS:=jM
  obtain⟨ks,rfl,hS,rfl,rfl,Qu⟩:=jM
  have s0:=s
  have s:=s.ae [1]
  obtain⟨bv,cv,us,s⟩:=aT.1 s
  have jk:=gR (P:=Tryz.prog) aO s
  rw[dI] at jk
  refine WP.loop (WP.has hE (zK 5 U (zY s 0 ew bT U (zB U cP (by simp) ?_))))
  refine zk 3 U (zY s 0 cM gu U (zo U (aC U U U jk) ?_))
  by_cases h1:ks.length=1
  .obtain⟨kd,rfl⟩:=List.length_eq_one_iff.1 h1
   obtain⟨cs',a1,a2,a3⟩:=Qu 0 kd U
   have e1:loK [] [kd] 0=[]:=rfl
   have e2:cQ none [kd] 0=none:=rfl
   rw[e1,e2] at a1
   have s_:=I.mz root (by simp)
   have Ef:=I.mz kd.pg (by simp[cW])
   have fE:=I.nd
   simp only[eG,tv,gd,cW,fK,nC,gz,nD,not_or] at fE
   refine zB U cS (by simp) ?_
   refine zk 4 U (WP.block (zK 4 U (zo U (oz U (mki_of jH U)) (zc U (sY hT (EH hT hB hw) b_ (gU (i:=0) (k:=kd) U) Ef.2 hN a3 (λc hc=>⟨(a1.cells c hc).1,(a1.cells c hc).2.1⟩) (by omega) (s0.ae [1])) ?_))))
   rintro v h ⟨y,dz,rfl,kD,ej,s⟩
   obtain⟨I9,zZ,us2,s⟩:=aT.1 s
   have hyb:=(s.aD (k:=1) U (bC _ _)).cells
   have hyc:=ko (s.jm (j:=2) U (cR _ _ _))
   have gV:pgG now dz=pgG now ε:=gI ej
   have adg:((root::[kd].flatMap cW)++ot).Perm (kd.pg::((root::kd.ps)++ot)):=by
    rw[lX]
    intro z
    simp only[eG,tv,gd,cW,lY,lZ,fK]
    omega
   have s:=s.ae [5]
   refine zk 10 U (zC U aE (U) (zk 9 U (zY s 1 iB bT U (zc U (EY hT hB kD hw (by rw[gV];exact gD) I adg s) ?_))))
   rintro v h ⟨ij,mB,M2,rfl,c1,c2,c3,c4,c5,c6,c7,s⟩
   refine zk 5 U (zC U aE (U) ?_)
   have s:=s.ae [5,1]
   obtain⟨bv3,cv3,us3,s⟩:=aT.1 s
   have s:=s.ae [4,0,3]
   refine zk 5 U (WP.drawn [af,af,af,af,af,af,af,af,af,af,af] U (by kernel_rfl) (by kernel_rfl) ?_)
   refine zM U (zM U (zN U (zF U (iB _ _) (zL U (s.ld (k:=1) U bT U) (zM U (zN U (zF U (nP _ _) (zL U (s.ld (k:=0) U b8 U) ?_))))))))
   have s:=s.ae [2,5]
   refine aB.any U U U U (OpR.call U U U U (wP hT hB c1 c3 s_.2 s (bC _ _) a3.good)) ?_
   rintro v h ⟨kQ,rfl,d1,d2,d3,s⟩
   refine zA U ?_
   refine aB.nil ⟨⟨aa,aa,aa,aa,aa,aa,aa,aa,aa,aa,aa,aa⟩,?_⟩
   refine zK 3 U (zC U aE (U) ?_)
   have s:=s.ae [2,2,5]
   refine zk 3 U (WP.drawn [af,af,af,af,af,af,af,af,af,af,af,af,af,af,af,af,af,af,af] U (by kernel_rfl) (by kernel_rfl) ?_)
   refine zM U (zN U (zF U (iB _ _) (zL U (s.ld (k:=1) U bT U) (zM U (zN U (zF U (ew _ _) (zL U (s.ld (k:=0) U bT U) (zM U (zN U (zF U (nP _ _) (zL U (s.ld (k:=0) U b8 U) (zM U (zN U (zF U (cM _ _) (zL U (s.ld (k:=0) U gu U) (zO U (cI (r:=.agg (uZ root l I9 zZ)) U (Na (s.aD (k:=4) U (bC _ _)) (s.jm (j:=2) U (cR _ _ _)))) (aB.any U U U U (OpR.of (R:=λv h'=>v=.ptr h.next 0/\h'=h.new (.cells 4 (uZ root l I9 zZ) false)) (fG U (by simp only[V.cells,mG,nE,hyb.2,hyc.2.1];rfl)) ⟨U,U⟩) ?_)))))))))))))))))
   rintro v' h' ⟨rfl,rfl⟩
   have s:=s.new (.cells 4 (uZ root l I9 zZ) false)
   generalize h.next=x2 at s ⊢
   have s:=s.ae [0,4,2,6,2]
   have s:Sat _ (aW x2 root l (pgG now ε kd.pg) cs'::_):=aT.2 ⟨I9,zZ,us2,s⟩
   refine zA U ?_
   refine aB.nil ⟨⟨aa,aa,aa,aa,aa,aa,aa,aa,aa,aa,aa,aa,aa,aa,aa,aa,aa,aa,aa,aa⟩,?_⟩
   have j3:∀m:Int,pgG (cD (root:Int) (pgG now ε kd.pg) mB) kQ m=if (root:Int)=m then pgG now ε kd.pg else pgG mB ij m:=λm=>by rw[eY,gI d2]
   have jk:=gy (i:=(root:Int)) (b:=pgG now ε kd.pg) (now:=mB)
   generalize cD (root:Int) (pgG now ε kd.pg) mB=Mb at s j3 jk d3
   have GH:pgG Mb kQ root=pgG now ε kd.pg:=by rw[j3,ay U]
   have hold:∀m:Nat,m∈kd.ps\/m∈ot->pgG Mb kQ (m:Nat)=pgG now ε m:=λm hm=>by
    have hr:=I.mz m (by simp only[eG,tv,gd,cW,fK,gz,nD];rcases hm with q|q<;>simp[q])
    have fb:m≠root:=λe=>by
     subst e
     rcases hm with q|q
     .exact fE.1.2.1 q
     .exact fE.1.2.2 q
    rw[j3,ai (by omega),c7 _ (by omega),gV]
   have hz:=EZ a3
   rw[<-GH] at s
   have h2a:=Yn (by omega)
   have he:[kd].flatMap (·.es)=kd.es:=by simp
   have s:=s.ae [1]
   dsimp only[aL,bringA,getA] at s
   refine ih x2 nl cs' kd.ps M2 kQ Mb _ _ _ Q d1 d3 (c5.frame (by rw[j3,ai (by omega)]) (by rw[j3,ai (by omega)])) c6 ?_ (by rw[GH];exact a3) (by omega) ?_ (λ_=>by omega) (λm hm=>by rw[hold m (.inr hm),uI m hm]) (by omega) s ⟨U,U,aa⟩ λE' h' ah aJ w1 w2 w3 w4 w5 dY s'=>hq E' h' ah aJ w1 (ej.trans (c2.trans (d2.trans w2))) w3 w4 w5 dY (s'.skip 5)
   .rw[he]
    exact a1.frame λm hm=>hold m (.inl hm)
   .unfold lam
    split<;>omega
  .skip
   refine zC U cS (by simp;omega) ?_
   refine zk 3 U (WP.exit ?_)
   have s:=s.ae [4]
   exact hq _ _ ε now b_ (Sm.refl N ε) hw (by omega) ⟨M,l+1,_,_,gD,I,abS,hp,⟨hlL,AV⟩,uI⟩ ⟨U,aa⟩ (s.skip 4)
theorem Wy (hT:W told)(hB:B<=2000)(hN:N<=65536)(hL:L<=60){h:H}(b_:EI N B ε)(hw:NW N now)(gD:fT N R M (pgG now ε))(kW:jo N M ((root::ps)++ot))
 (jM:Nv (cU Z) (pgG now ε) L [] none cs es ps\/1<=L/\cs=[]/\es=[]/\ps=[])(hp:bH (pgG now ε root) 204 0 L cs)(AV:lam L cs<=A)(I:1<=L->374*L+112<=A)(s:Sat h (GA g a p q r data aQ now ε::aW x root L (pgG now ε root) cs::S)):
  Call ⟨Tryz.prog,told⟩ 154 [.ptr g 0,.ptr x 0] h λv h'=>∃ah aJ,v=.int .i64 0/\EI N B ah/\Sm N ε ah/\NW N aJ/\aJ.length<=now.length+2*L+1/\qv N root R ot Z A L (pgG now ε) (pgG aJ ah) es/\Sat h' (GA g a p q r data aQ aJ ah::S):=by
 have s_:=kW.mz root (by simp);have s0:=s;have s:=s.ae [1];obtain⟨bv,cv,us,s⟩:=aT.1 s;have jk:=gR (P:=Tryz.prog) aO s;rcases jM with jM|⟨h1,rfl,rfl,rfl⟩
 .have fb:L=0\/cs.length≠0:=by
   cases L with
   |zero=>exact .inl U
   |succ l =>
    obtain⟨ks,rfl,hS,_⟩:=jM;rw[dI];exact .inr λq=>hS.ne (iK q)
  refine Call.of_wp (hT.free _ U) Tryz.func154 U U (zK 9 U (zY s 0 ew bT U ?_));by_cases h0:L=0
  .skip;refine zC U cP (by simp;omega) ?_;refine zk 12 U (WP.block (GQ (P0:=pgG now ε) (A:=A) (L:=L) (R:=R) (ot:=ot) (Z:=Z) (es:=es) hT hB hN hL L x (now.length+2*L+1) cs ps M ε now _ _ S _ b_ hw gD kW jM hp (aH _) AV I (λ_ _=>U) (by omega) s0 ⟨U,U,aa⟩ λE' h' ah aJ w1 w2 w3 w4 w5 hE s' => ?_));have s:=s';exact WP.has hE (zK 4 U (WP.ret ⟨aa,_,U,ah,aJ,U,w1,w2,w3,w4,w5,s⟩))
  .skip;refine zB U cP (by simp;omega) ?_;refine zk 3 U (zY s 0 cM gu U (zo U (aC U U U jk) (zC U cS (decide_eq_false (by have:=fb.resolve_left h0;omega)) ?_)));refine zk 5 U (WP.block (GQ (P0:=pgG now ε) (A:=A) (L:=L) (R:=R) (ot:=ot) (Z:=Z) (es:=es) hT hB hN hL L x (now.length+2*L+1) cs ps M ε now _ _ S _ b_ hw gD kW jM hp (aH _) AV I (λ_ _=>U) (by omega) s0 ⟨U,U,aa⟩ λE' h' ah aJ w1 w2 w3 w4 w5 hE s' => ?_));have s:=s';exact WP.has hE (zK 4 U (WP.ret ⟨aa,_,U,ah,aJ,U,w1,w2,w3,w4,w5,s⟩))
 .refine Call.of_wp (hT.free _ U) Tryz.func154 U U ?_;refine zK 9 U (zY s 0 ew bT U (zB U cP (by simp;omega) ?_));refine zk 3 U (zY s 0 cM gu U (zo U (aC U U U jk) (zB U cS (U) ?_)));have s:=(Oq s).lJ (k:=1);have s:=s.ae [6];refine zk 8 U (zY s 3 iB bT U (zc U (mS (l:=0) hT hB b_ hw s_.2 (jg _ _ _).s (by decide) (by omega) s) ?_));rintro v h ⟨dz,b1,rfl,c1,c2,c3,c4,s⟩;have j3:∀m:Int,pgG (cD (root:Int) b1 now) dz m=if (root:Int)=m then b1 else pgG now ε m:=λm=>by rw[eY,gI c2]
  have jk:=gy (i:=(root:Int)) (b:=b1) (now:=now);have fE:=kW.nd;rw[fK,nC] at fE;refine zk 2 U (WP.ret ⟨aa,_,U,?_⟩);refine⟨dz,_,U,c1,c2,c3,by omega,⟨M,0,[],[],gD.frame (by rw[j3,ai (by omega)]) (by rw[j3,ai (by omega)]),kW,⟨U,⟨by simp,by simp,List.Pairwise.nil⟩,U⟩,by rw[j3,ay U];exact c4.f,⟨gG _,?_⟩,λm hm => ?_⟩,s.skip 6⟩
  .have:=I h1;show 486<=A;omega
  .have:m≠root:=λe=>fE.1 (by rw[<-e];exact hm);rw[j3,ai (by omega)]
end
section
variable {told:cu} {h:H} {p:Nat} {v:V}
def ShR (N B g a p q r aQ nu nl nr l i:Nat)(data:List Nat)(qQ J:List (List Nat))(ε:bk)(now:List (Int×List Nat))(S:List aG)(v:V)(h':H): Prop:=∃ah aJ,v=.int .i64 0/\EI N B ah/\Sm N ε ah/\NW N aJ/\aJ.length<=now.length+3/\Sat h' (GA g a p q r data aQ aJ ah::S) /\
 (pgG aJ ah=pgG now ε\/∃k ck I br' bu',J[k]?=some ck/\mo J 2 k/\bH I 204 0 l (J.take k)/\bH br' 204 0 l (rgtC l (J.drop k))/\bH bu' 204 0 (l+1) (qQ.set (i+1) (ff nr (fM l ck)))/\pgG aJ ah nl=I/\pgG aJ ah nr=br'/\pgG aJ ah nu=bu'/\∀m:Int,m≠nl->m≠nr->m≠nu->pgG aJ ah m=pgG now ε m)
set_option maxHeartbeats 1000000 in
theorem Wz (hT:W told)(hB:B<=2000)(b_:EI N B ε)(hw:NW N now)(wD:1<=l)(hl:l+1<=64)(hJ1:486<cB J)(Yo:cB J<=695)(hJc:∀c∈J,iT l c/\c.length<=100)(hcu:∀c∈qQ,c.length<=100)(ou:qQ.length<=512)(hi:i+1<qQ.length)(pZ:nl<N)(oE:nr<N)(hnu:nu<N)(hN:N<=65536)(h1:nl≠nr)(h2:nl≠nu)(h3:nr≠nu)
 (s:Sat h (GA g a p q r data aQ now ε::roS 1 v us::dn us J::aW xu nu (l+1) bu qQ::aW xl nl l bl eV::aW xr nr l br eB::S)):
  Call ⟨Tryz.prog,told⟩ 158 [TP xu i xl xr,.ptr g 0,v] h (ShR N B g a p q r aQ nu nl nr l i data qQ J ε now S):=by
 obtain⟨k0,By⟩:=Lh (λc hc=>by have:=(hJc c hc).2;omega) hJ1 Yo
 have aej:=By.k2
 have hJl:J.length<=512:=by
  rw[ku] at Yo
  omega
 have s:=s.ae [4]
 dsimp only[bringA,getA,aL] at s
 obtain⟨bvl,cvl,usl,s⟩:=aT.1 s
 have s:=s.ae [8]
 dsimp only[bringA,getA,aL] at s
 obtain⟨bvr,cvr,Yl,s⟩:=aT.1 s
 have s:=(((((((s.ae [0,3,6,6,6,6]).del 11).del 10).del 9).del 8).del 7).del 6)
 dsimp only[bringA,getA,aL] at s
 have afE:=kj (s.ae [4])
 refine Call.of_wp (hT.free _ U) Tryz.func158 U U ?_
 have s:=s.ae [3,3]
 dsimp only[bringA,getA,aL] at s
 refine zg U ?_
 refine au.cg s U U U (fG U U) (λp3 h s => ?_)
 dsimp only[V.cells,List.length_cons,List.length_nil,Nat.reduceAdd] at s
 refine za U (zv (zg U (zm U ?_)))
 have s:=s.ae [1,1]
 dsimp only[bringA,getA,aL] at s
 refine au.call U U U U U U U (I8 (least:=2) hT (cR _ _ _) (λc h=>by have:=(hJc c h).2;omega) hJl (by omega) (by omega) s) ?_
 rintro v0 h ⟨k,rfl,lD,ob,s⟩
 have hk:k≠0:=λe=>lD e k0 By
 have nX:=ob hk
 have l9:=nX.k1
 have kZ:=nX.k2
 obtain⟨ck,Bh⟩:∃ck,J[k]?=some ck:=⟨_,aF kZ⟩
 refine za U (zv (zw (zg U (zm U (au.rR U U U (aq U U cS) (by simp;omega) ?_)))))
 refine zv (zj U (WP.skip (zw ?_)))
 have afF:=kj (s.ae [1])
 have z0:=s
 have g1:=xI (P:=Tryz.prog) (b:=k) (s.jm (j:=0) U (cR _ _ _)) (by omega) l9 aO dQ
 have g2:=JR (P:=Tryz.prog) (a:=k) (s.jm (j:=0) U (cR _ _ _)) (by omega) aO dQ
 obtain⟨v1,f1,s⟩:=Qj (P:=Tryz.prog) (b:=k) s (by omega) l9 aO dQ
 obtain⟨v2,f2,s⟩:=X0 (P:=Tryz.prog) (a:=k) (s.ae [1]) (by omega) aO dQ
 dsimp only[bringA,getA,aL] at s
 rw[g1] at f1
 rw[g2] at f2
 cases f1
 cases f2
 have Tr:=(ko (s.jm (j:=1) U (cR _ _ _))).2.2
 have lD:=(ko (s.jm (j:=2) U (cR _ _ _))).2.2
 have ob:=(ko (s.jm (j:=0) U (cR _ _ _))).2.2
 refine WP.drawn [some (0,2),some (0,2),some (0,2),some (0,2),af,af,af,af,af,af] U (by kernel_rfl) (by kernel_rfl) ?_
 refine zM U (zM U (zM U (zO U (bK (p:=none) (q:=some (.int .i64 (k:Int))) (m:=some (.int .i64 (k:Int))) (p':=none) (q':=some k) (m':=some k) U U U U U (by rw[bN];rfl) (by rw[bN];rfl) (xI (s.jm (j:=1) U (cR _ _ _)) (by omega) l9 aO dQ)) ?_)))
 refine zM U (zM U (zO U (bK (p:=some (.int .i64 (k:Int))) (q:=none) (m:=none) (p':=some k) (q':=none) (m':=none) U U U U (by rw[bN];rfl) U U (JR (s.jm (j:=1) U (cR _ _ _)) (by omega) aO dQ)) ?_))
 have z0:=s
 refine aB.any U U U U (OpR.call U U U U (mT hT s (cR _ _ _) (by rw[fD];omega))) ?_
 intro cv h s
 have z1:=s.ae [1,1]
 dsimp only[bringA,getA,aL] at z1
 refine zA U (zA U ?_)
 refine aB.nil ⟨⟨λ_ _=>.inr ⟨U,⟨_,bZ U⟩,Tr⟩,λ_ _=>.inr ⟨U,⟨_,bZ U⟩,bp _ U⟩,λ_ _=>.inr ⟨U,⟨_,bZ U⟩,bp _ U⟩,gC (.inr ⟨U,⟨_,bK (p:=none) (q:=some (.int .i64 (k:Int))) (m:=some (.int .i64 (k:Int))) (p':=none) (q':=some k) (m':=some k) U U U U U (by rw[bN];rfl) (by rw[bN];rfl) (xI (z0.jm (j:=1) U (cR _ _ _)) (by omega) l9 aO dQ)⟩,lD⟩) (.inr ⟨U,⟨_,bK (p:=none) (q:=some (.int .i64 (k:Int))) (m:=some (.int .i64 (k:Int))) (p':=none) (q':=some k) (m':=some k) U U U U U (by rw[bN];rfl) (by rw[bN];rfl) (xI (z1.jm (j:=1) U (cR _ _ _)) (by omega) l9 aO dQ)⟩,lD⟩),aa,aa,aa,aa,aa,aa,aa⟩,?_⟩
 have s:=(s.del 2).del 1
 dsimp only[Nat.reduceAdd,aL] at s
 have s:=LM k (s.ae [2])
 dsimp only[aL,bringA] at s
 have s:=LN k (s.ae [1])
 dsimp only[aL,bringA] at s
 have s:=s.ae [9]
 dsimp only[bringA,getA,aL] at s
 obtain⟨bvu,cvu,usu,s⟩:=aT.1 s
 have afG:=kj (s.ae [3])
 have s:=(s.del 5).ae [8,8,8,0]
 dsimp only[aL,bringA,getA] at s
 refine zg U (zf U (l8 _ _) (zl U (by exact s.ld (k:=0) U fH U) ?_))
 refine zn U (zf U (cM _ _) (zl U (by exact s.ld (k:=3) U gu U) ?_))
 have s:=s.ae [5]
 dsimp only[bringA,getA,aL] at s
 refine au.call U U U U U U U (mT hT s (cR _ _ _)) ?_
 intro uv h s
 have s:=s.ae [2,2,8]
 dsimp only[bringA,getA,aL] at s
 refine za U (zv (zw ?_))
 have Np:=(ko (((s.ae [3]).eD k8).jm (j:=0) U (jg _ _ _).s)).2.2
 have Wk:(J.drop k)[0]?=some ck:=by rw[fB,eH];exact Bh
 obtain⟨I,ae6⟩:=hJc ck (aI Bh)
 rw[iT,ai (by omega)] at I
 have pE:fM l ck=ck.drop 4:=by rw[fM,ai (by omega)]
 have s:=s.ae [2,8]
 dsimp only[bringA,getA,aL] at s
 obtain⟨u0,X3,aex,e1,e2,XT,s⟩:=xG (P:=Tryz.prog) (λm r h=>(jg _ _ _).s m r (k8 m r h)) Wk aO dQ b8 s
 have hv0:=s.aD (k:=2) U (bC _ _)
 have z0:=s
 refine WP.drawn [some (0,2),some (0,2),some (0,2),some (0,2),af,af,af,af,af,af,af,af,af,af,af,af] U (by kernel_rfl) (by kernel_rfl) ?_
 refine zM U (zF U (yV _ _) (zL U (by exact s.ld (k:=3) U bT U) ?_))
 refine zO U (aq (r:=.int .i64 ((i+1:Nat):Int)) U U (by rw[show((i+1:Nat):Int)=(i:Int)+1 by omega];exact aM ak)) ?_
 refine zF U (rT _ _) (zL U (by exact s.ld (k:=3) U fH U) ?_)
 refine zN U (zF U (iB _ _) (zL U (by exact s.ld (k:=4) U bT U) ?_))
 refine zM U (zO U (bM (r:=.ptr X3 aex) U U e1) (zL U e2 (zO U (bK (p:=some (.int .i64 4)) (q:=none) (m:=none) (p':=some 4) (q':=none) (m':=none) U U U U (by rfl) U U (iu hv0 I).1) ?_)))
 have s:=(s.ae [2]).eD (ru (a:=4) (b:=ck.length) I (aH _))
 rw[jP,<-pE] at s
 dsimp only[aL,bringA] at s
 refine aB.any U U U U (OpR.call U U U U (zU hT (m:=nr) (by omega) s (bC _ _) (by rw[pE,fD];omega))) ?_
 intro u1 h s
 have s:=s.fh
 have Jd:=(s.aD (k:=0) U (bC _ _)).cells
 have z1:=s
 have s:=(s.ae [6]).eD k8
 dsimp only[aL,bringA] at s
 obtain⟨wz,LU,It,e3,e4,s2⟩:=sZ (P:=Tryz.prog) (i:=i+1) (x:=u1) s (by omega) Jd.1 Jd.2 aO dQ
 refine zO U (bM (r:=.ptr wz LU) U U e3) (aB.lP U U U (OpR.yU U U U (⟨_,e4,s2⟩)) ?_)
 rintro _ h ⟨_,s⟩
 refine aB.nil ⟨⟨λ_ _=>.inr ⟨U,⟨_,bZ U⟩,Np⟩,λ_ _=>.inr ⟨U,⟨_,mX U (yV _ _)⟩,bp _ U⟩,gC (.inr ⟨U,⟨_,o_load U (by exact z0.ld (k:=3) U bT U)⟩,bp _ U⟩) (.inr ⟨U,⟨_,o_load U (by exact z1.ld (k:=4) U bT U)⟩,bp _ U⟩),λ_ _=>.inr ⟨U,⟨_,aq (r:=.int .i64 ((i+1:Nat):Int)) U U (by rw[show((i+1:Nat):Int)=(i:Int)+1 by omega];exact aM ak)⟩,bp _ U⟩,aa,aa,aa,aa,aa,aa,aa,aa,aa,aa,aa,aa,aa⟩,?_⟩
 have s:=OJ (i:=i+1) (s.ae [1,10])
 dsimp only[aL,bringA] at s
 have s:=s.ae [1]
 dsimp only[bringA,getA,aL] at s
 have Cu:∀c∈qQ.set (i+1) (ff nr (fM l ck)),c.length<=100:=λc hc=>by
  rcases mD hc with q|rfl
  .exact hcu c q
  .rw[ff,aN,cO,pE,fD];omega
 refine zw (zg U (zm U (au.call U U U U U U U (EK hT (jg _ _ _).s (λc hc=>by have:=Cu c hc;omega) (by rw[cL];exact ou) s) ?_)))
 rintro v0 h ⟨rfl,s⟩
 by_cases dL:486<cB (qQ.set (i+1) (ff nr (fM l ck)))
 .skip
  refine au.w_ U U U (aq U U cP) (by simp;omega) ?_
  have s:=s.ae [13]
  dsimp only[bringA,getA,aL] at s
  refine zv (zi U (zg U (za U (zv ?_))))
  refine WP.ret ⟨aa,_,U,?_⟩
  exact⟨ε,now,U,b_,Sm.refl N ε,hw,by omega,s.skip 13,.inl U⟩
 .skip
  refine au.rR U U U (aq U U cP) (by simp;omega) ?_
  have hd:J.drop k=ck::J.drop (k+1):=by
   rw[mC kZ,(List.getElem?_eq_some_iff.1 Bh).2]
  have hrg:rgtC l (J.drop k)=ck.take 4::J.drop (k+1):=by rw[hd,rgtC,ai (by omega)]
  have QD:mo J (min 2 (l+1)) k:=by rw[show min 2 (l+1)=2 by omega];exact nX
  obtain⟨_,_,_,_,ej,jZ,_,_⟩:=QD.parts
  have s:=(s.ae [3]).eD k8
  dsimp only[aL,bringA] at s
  have s:=s.ae [0,3]
  dsimp only[bringA,getA,aL] at s
  rw[hd] at s
  obtain⟨u2,r8,oX,e5,e6,_,s⟩:=xG (P:=Tryz.prog) (i:=0) (jg _ _ _).s U aO dQ b8 s
  have hv3:=s.aD (k:=2) U (bC _ _)
  have hv4:=LS (b:=4) (d:=4) hv3 (aH _) I (by omega)
  have s:=(s.ae [2]).eD (Jc (a:=0) (b:=4) (d:=4) (by omega) (by omega) I (by omega))
  dsimp only[List.drop,aL,bringA] at s
  have hvd:=(s.aD (k:=0) U (bC _ _)).cells
  have s:=s.ae [1]
  dsimp only[bringA,getA,aL] at s
  obtain⟨L1,EW,h4,e7,e8,s4⟩:=sZ (P:=Tryz.prog) (i:=0) (x:=slR3 u2 0 4 4) s (by rw[fD];omega) hvd.1 hvd.2 aO dQ
  have s4:=EU (s4.ae [1,1])
  dsimp only[aL,bringA] at s4
  have s4:=s4.ae [1]
  dsimp only[bringA,getA,aL] at s4
  rw[<-hrg] at s4
  refine zv (zj U (WP.skip (zg U (zm U (zm U (zo U (bM (r:=.ptr r8 oX) U U e5) (zl U e6 (zo U (bK (p:=none) (q:=some (.int .i64 4)) (m:=some (.int .i64 4)) (p':=none) (q':=some 4) (m':=some 4) U U U U U U U hv4) (zo U (bM (r:=.ptr L1 EW) U U e7) (au.yU U U U U U (⟨_,e8,s4⟩) ?_))))))))))
  intro h s
  have s:=s.ae [13,12,11,5,7,5,6]
  dsimp only[bringA,getA,aL] at s
  refine zv (zw (zw (WP.drawn [af,af,af,af,af,af,af,af,af,af,af,af,af,af] U (by kernel_rfl) (by kernel_rfl) ?_)))
  refine zM U (zF U (vP _ _) (zL U (by exact s.ld (k:=3) U fH U) ?_))
  refine zN U (zF U (iB _ _) (zL U (by exact s.ld (k:=4) U bT U) ?_))
  refine zF U (vP _ _) (zL U (by exact s.ld (k:=3) U fH U) ?_)
  refine zN U (zF U (ew _ _) (zL U (by exact s.ld (k:=4) U bT U) ?_))
  refine zM U (aB.any U U U U (OpR.call U U U U (mS hT hB b_ hw pZ (cR _ _ _) ej (by omega) s)) ?_)
  rintro v0 h ⟨dz,bL,rfl,c1,c2,c3,c4,s⟩
  have WA:∀m:Int,pgG (cD (nl:Int) bL now) dz m=if (nl:Int)=m then bL else pgG now ε m:=λm=>by rw[eY,gI c2]
  have aey:=gy (i:=(nl:Int)) (b:=bL) (now:=now)
  generalize cD (nl:Int) bL now=n_ at s WA c3 aey
  refine zA U ?_
  refine aB.nil ⟨⟨aa,aa,aa,aa,aa,aa,aa,aa,aa,aa,aa,aa,aa,aa,aa⟩,?_⟩
  refine zg U (zm U (au.rR U U U (aq U U aE) (U) ?_))
  have s:=s.ae [0,6,6,2,3,3]
  dsimp only[Nat.reduceAdd,bringA,getA,aL] at s
  refine zv (zj U (WP.skip (zw (zw (WP.drawn [af,af,af,af,af,af,af,af,af,af,af,af,af,af] U (by kernel_rfl) (by kernel_rfl) ?_)))))
  refine zM U (zF U (rT _ _) (zL U (by exact s.ld (k:=3) U fH U) ?_))
  refine zN U (zF U (iB _ _) (zL U (by exact s.ld (k:=4) U bT U) ?_))
  refine zF U (rT _ _) (zL U (by exact s.ld (k:=3) U fH U) ?_)
  refine zN U (zF U (ew _ _) (zL U (by exact s.ld (k:=4) U bT U) ?_))
  refine zM U (aB.any U U U U (OpR.call U U U U (mS hT hB c1 c3 oE (jg _ _ _).s jZ (by omega) s)) ?_)
  rintro v0 h ⟨ij,bR,rfl,d1,d2,d3,d4,s⟩
  have QE:∀m:Int,pgG (cD (nr:Int) bR n_) ij m=if (nr:Int)=m then bR else pgG n_ dz m:=λm=>by rw[eY,gI d2]
  have aez:=gy (i:=(nr:Int)) (b:=bR) (now:=n_)
  generalize cD (nr:Int) bR n_=mB at s QE d3 aez
  refine zA U ?_
  refine aB.nil ⟨⟨aa,aa,aa,aa,aa,aa,aa,aa,aa,aa,aa,aa,aa,aa,aa⟩,?_⟩
  refine zg U (zm U (au.rR U U U (aq U U aE) (U) ?_))
  have s:=s.ae [9,9,3,4]
  dsimp only[bringA,getA,aL] at s
  have GP:=ko (s.jm (j:=0) U (jg _ _ _).s)
  have z0:=s
  refine zv (zj U (WP.skip (zw (WP.drawn [some (0,2),some (0,2),some (0,3),some (0,3),some (0,2),af,af,af,af,af,af,af,af,af,af,af,af,af] U (by kernel_rfl) (by kernel_rfl) ?_))))
  refine zF U (l8 _ _) (zL U (by exact s.ld (k:=2) U fH U) ?_)
  refine zF U (l8 _ _) (zL U (by exact s.ld (k:=2) U fH U) ?_)
  refine zM U (zF U (l8 _ _) (zL U (by exact s.ld (k:=2) U fH U) ?_))
  refine zN U (zF U (ew _ _) (zL U (by exact s.ld (k:=3) U bT U) ?_))
  refine zM U (aB.any U U U U (OpR.call U U U U (LJ hT (jg _ _ _).s (by omega) hl s)) ?_)
  rintro bv h ⟨bU,hbU,s⟩
  have s:=s.fh
  have xC:=(s.aD (k:=0) U (bC _ _)).cells
  have z1:=s
  refine zN U (zF U (cM _ _) (aB.lP U U U (OpR.yU U U U (s.kz (k:=4) U U1 U (by decide) GP.1 GP.2.1)) ?_))
  rintro _ h ⟨_,s⟩
  dsimp only[Nat.reduceAdd,List.set,setA] at s
  have z2:=s
  refine zN U (zF U (nP _ _) (aB.lP U U U (OpR.yU U U U (s.kz (k:=4) U dQ U (by decide) xC.1 xC.2)) ?_))
  rintro _ h ⟨_,s⟩
  dsimp only[Nat.reduceAdd,List.set,setA] at s
  refine aB.nil ⟨⟨λ_ _=>.inr ⟨U,⟨_,mX U (l8 _ _)⟩,bp _ U⟩,gC (.inr ⟨U,⟨_,o_load U (by exact z0.ld (k:=2) U fH U)⟩,bp _ U⟩) (.inr ⟨U,⟨_,o_load U (by exact z1.ld (k:=3) U fH U)⟩,bp _ U⟩),λ_ _=>.inr ⟨U,⟨_,mX U (l8 _ _)⟩,bp _ U⟩,BQ (.inr ⟨U,⟨_,o_load U (by exact z0.ld (k:=2) U fH U)⟩,bp _ U⟩) (.inr ⟨U,⟨_,o_load U (by exact z1.ld (k:=3) U fH U)⟩,bp _ U⟩) (.inr ⟨U,⟨_,o_load U (by exact z2.ld (k:=3) U fH U)⟩,bp _ U⟩),λ_ _=>.inr ⟨U,⟨_,bZ U⟩,GP.2.2⟩,aa,aa,aa,aa,aa,aa,aa,aa,aa,aa,aa,aa,aa,aa⟩,?_⟩
  have s:=s.ae [5,0]
  dsimp only[bringA,getA,aL] at s
  refine zw (WP.drawn [af,af,af,af,af,af,af,af,af,af,af,af,af] U (by kernel_rfl) (by kernel_rfl) ?_)
  refine zM U (zF U (l8 _ _) (zL U (by exact s.ld (k:=4) U fH U) ?_))
  refine zN U (zF U (iB _ _) (zL U (by exact s.ld (k:=5) U bT U) ?_))
  refine zF U (l8 _ _) (zL U (by exact s.ld (k:=4) U fH U) ?_)
  refine zN U (zF U (nP _ _) (zL U (by exact s.ld (k:=5) U b8 U) ?_))
  refine aB.any U U U U (OpR.call U U U U (wP hT hB d1 d3 hnu s (bC _ _) hbU.good)) ?_
  rintro v0 h ⟨kQ,rfl,f1,f2,f3,s⟩
  have oa:∀m:Int,pgG (cD (nu:Int) bU mB) kQ m=if (nu:Int)=m then bU else pgG mB ij m:=λm=>by rw[eY,gI f2]
  have aev:=gy (i:=(nu:Int)) (b:=bU) (now:=mB)
  refine zA U ?_
  refine aB.nil ⟨⟨aa,aa,aa,aa,aa,aa,aa,aa,aa,aa,aa,aa,aa,aa⟩,?_⟩
  refine WP.ret ⟨aa,_,U,?_⟩
  refine⟨kQ,_,U,f1,c2.trans (d2.trans f2),f3,by omega,s.skip 14,.inr ⟨k,ck,bL,bR,bU,Bh,nX,c4.f,d4.f,hbU.f,?_,?_,?_,λm m1 m2 m3 => ?_⟩⟩
  .rw[oa,ai (by omega),QE,ai (by omega),WA,ay U]
  .rw[oa,ai (by omega),QE,ay U]
  .rw[oa,ay U]
  .rw[oa,ai (λe=>m3 e.symm),QE,ai (λe=>m2 e.symm),WA,ai (λe=>m1 e.symm)]
end
section
variable {f z:Nat}
theorem cU.more (h:cU Z l cs): cU (z::Z) l cs:=by
 unfold cU at h ⊢;split
 .rwa [ay (by assumption)] at h
 .rw[ai (by assumption)] at h;rcases h with h|⟨p,I,k,h2⟩
  .exact .inl h
  .exact .inr ⟨p,bw _ I,k,h2⟩
theorem rz (h:(ks.flatMap cW).Nodup){k k':fV}(hk:ks[i]?=some k)(I:ks[j]?=some k')(pz:i≠j): ∀m∈cW k',m∉cW k:=by
 intro m hm qC;rw[sV hk,dO,mE] at h;obtain⟨_,h2,h3⟩:=h;rw[mE] at h2;obtain⟨_,_,h4⟩:=h2;have hj:=(List.getElem?_eq_some_iff.1 I).1;rcases yy pz with q|q
 .refine h4 m qC m (List.mem_flatMap.2 ⟨k',?_,hm⟩) U;rw[CR];exact⟨j-(i+1),by rw[fB,show i+1+(j-(i+1))=j by omega];exact I⟩
 .refine h3 m (List.mem_flatMap.2 ⟨k',?_,hm⟩) m (fA _ qC) U;rw[CR];exact⟨j,by rw[hO,ay q];exact I⟩
theorem Mc (h:(ks.flatMap cW).Nodup){k:fV}(I:ks[i]?=some k): k.pg∉k.ps:=by
 rw[sV I,dO,mE,mE] at h;exact(List.nodup_cons.1 h.2.1.1).1
theorem k9 {k:fV}(I:ks[i]?=some k){m:Nat}(hm:m∈cW k): m∈ks.flatMap cW:=List.mem_flatMap.2 ⟨k,aI I,hm⟩
theorem WC (I:eV≠[])(h2:eB≠[]){cut:Ky}: cU Z l (gZ l cut eV eB):=by
 have a1:=List.length_pos_iff.2 I;unfold cU gZ;split
 .intro e;have:=dg List.length e;rw[aN,bY] at this;omega
 .left;cases eB with
  |nil=>exact absurd U h2
  |cons c t=>simp only[aN,aX];omega
theorem abT (hs:Sep lo hi ks)(hl:ks[i]?=some kl)(hr:ks[i+1]?=some kr)(E0:∀j k,ks[j]?=some k->j≠i->j≠i+1->Kd (cU Z) P l (loK lo ks j) (cQ hi ks j) k)
 (nl:Nv (cU Z) P l (loK lo ks i) (cQ hi ks i) eV kl.es kl.ps)(nr:Nv (cU Z) P l (loK lo ks (i+1)) (cQ hi ks (i+1)) eB kr.es kr.ps)(gn:eV≠[])(BG:eB≠[])(fE:(f::ks.flatMap cW).Nodup)
 (hP:∀m:Nat,m≠f->m≠kl.pg->m∈ks.flatMap cW->P' m=P m)(hp:bH (P' kl.pg) 204 0 l (gZ l kr.key eV eB)):
  ∃m_,Nv (cU Z) P' (l+1) lo hi ((bI ks).eraseIdx (i+1)) (ks.flatMap (·.es)) m_/\(kr.pg::m_).Perm (ks.flatMap cW):=by
 obtain⟨hf,fE⟩:=List.nodup_cons.1 fE;have fb:∀m,m∈ks.flatMap cW->m≠f:=λm hm e=>hf (e ▸ hm);have o5:∀m∈kl.ps,P' (m:Nat)=P m:=λm hm=>by
  have I:=k9 hl (bw _ hm);exact hP m (fb m I) (λe=>Mc fE hl (e ▸ hm)) I
 have uI:∀j k,ks[j]?=some k->j≠i->∀m∈cW k,P' (m:Nat)=P m:=λj k hk hj m hm=>by
  have I:=k9 hk hm;exact hP m (fb m I) (λe=>rz fE hl hk (jR hj) m hm (by rw[e];exact a_)) I
 exact Nv.mrg hs hl hr (λj k hk h1 h2=>(E0 j k hk h1 h2).frame (uI j k hk h1)) (nl.frame o5) (nr.frame λm hm=>uI _ _ hr (by omega) m (bw _ hm)) (WC gn BG) hp
theorem abU {k:fV}(hs:Sep lo hi ks)(hk:ks[i]?=some k)(he:k.es=[])(o5:k.ps=[])(E0:∀j k,ks[j]?=some k->j≠i->Kd (cU Z) P l (loK lo ks j) (cQ hi ks j) k)(fE:(f::ks.flatMap cW).Nodup)(hP:∀m:Nat,m≠f->m∈ks.flatMap cW->P' m=P m):
  ∃I,(Nv (cU Z) P' (l+1) lo hi ((bI ks).eraseIdx i) (ks.flatMap (·.es)) I\/1<=l+1/\(bI ks).eraseIdx i=[]/\ks.flatMap (·.es)=[]/\I=[])/\(k.pg::I).Perm (ks.flatMap cW):=by
 obtain⟨hf,fE⟩:=List.nodup_cons.1 fE;have c9:=(List.getElem?_eq_some_iff.1 hk).1;by_cases h2:2<=ks.length
 .obtain⟨I,h3,h4⟩:=Nv.ers (P:=P') hs h2 hk he o5 λj k hk hj=>(E0 j k hk hj).frame λm hm=>hP m (λe=>hf (e ▸ k9 hk hm)) (k9 hk hm);exact⟨I,.inl h3,h4⟩
 .obtain⟨x,rfl⟩:=List.length_eq_one_iff.1 (show ks.length=1 by omega);have h0:i=0:=by simpa using c9
  subst h0;obtain rfl:x=k:=by simpa using hk
  exact⟨[],.inr ⟨by omega,U,by simp[he],U⟩,by simp[cW,o5]⟩
theorem abV {k:Nat}{ck:List Nat}{kN gL:List En}(hs:Sep lo hi ks)(hl:ks[i]?=some kl)(hr:ks[i+1]?=some kr)(E0:∀j k,ks[j]?=some k->j≠i->j≠i+1->Kd (cU Z) P l (loK lo ks j) (cQ hi ks j) k)
 (nl:Nv (cU Z) P l (loK lo ks i) (cQ hi ks i) eV kl.es kl.ps)(nr:Nv (cU Z) P l (loK lo ks (i+1)) (cQ hi ks (i+1)) eB kr.es kr.ps)(I:(f::ks.flatMap cW).Nodup)(wD:1<=l)
 (Bh:(gZ l kr.key eV eB)[k]?=some ck)(nX:mo (gZ l kr.key eV eB) 2 k)
 (hP:∀m:Nat,m≠f->m≠kl.pg->m≠kr.pg->m∈ks.flatMap cW->P' m=P m)(pl:bH (P' kl.pg) 204 0 l ((gZ l kr.key eV eB).take k))(pr:bH (P' kr.pg) 204 0 l (rgtC l ((gZ l kr.key eV eB).drop k))):
  ∃m_,Nv (cU Z) P' (l+1) lo hi ((bI ks).set (i+1) (ff kr.pg (fM l ck))) (ks.flatMap (·.es)) m_/\m_.Perm (ks.flatMap cW):=by
 obtain⟨hf,I⟩:=List.nodup_cons.1 I;have fb:∀m,m∈ks.flatMap cW->m≠f:=λm hm e=>hf (e ▸ hm);obtain⟨m1,m2,m3,m4,m5,m6⟩:=hs.mJ hr;have o5:∀m∈kl.ps++kr.ps,P' (m:Nat)=P m:=λm hm=>by
  rcases List.mem_append.1 hm with hm|hm
  .have qC:=k9 hl (bw _ hm);exact hP m (fb m qC) (λe=>Mc I hl (e ▸ hm)) (λe=>rz I hr hl (by omega) m (bw _ hm) (by rw[e];exact a_)) qC
  .have qC:=k9 hr (bw _ hm);exact hP m (fb m qC) (λe=>rz I hl hr (by omega) m (bw _ hm) (by rw[e];exact a_)) (λe=>Mc I hr (e ▸ hm)) qC
 have uI:∀j k,ks[j]?=some k->j≠i->j≠i+1->∀m∈cW k,P' (m:Nat)=P m:=λj k hk hj Le m hm=>by
  have qC:=k9 hk hm;exact hP m (fb m qC) (λe=>rz I hl hk (jR hj) m hm (by rw[e];exact a_)) (λe=>rz I hr hk (jR Le) m hm (by rw[e];exact a_)) qC
 rw[m5] at nl;rw[m6] at nr;have hj:=(nl.join nr m1 m2 ⟨m3,m4⟩).frame o5;have QD:mo (gZ l kr.key eV eB) (min 2 (l+1)) k:=by rw[show min 2 (l+1)=2 by omega];exact nX
 obtain⟨_,_,g1,g2,_,_,k1,_⟩:=QD.parts;obtain⟨kN,gL,nU,nV,e1,e2,q1,q2,q3,q4,q5,q6⟩:=hj.cut k1 Bh;exact Nv.shr hs hl hr (λj k hk h1 h2=>(E0 j k hk h1 h2).frame (uI j k hk h1 h2)) q1 (g1 Z) pl q2 (g2 Z) pr q3 q4 ⟨q5,q6⟩ e1.symm e2.symm
theorem ZY (nM:gW (cU Z) P L r fs l lo hi n eL eR pO)(jM:Nv (cU Z) P l lo hi cs es ps)(fb:cs≠[])(hp:bH (P n) 204 0 l cs):
  ∃z I cs',Nv (cU (z::Z)) P L [] none cs' (eL++es++eR) I/\bH (P r) 204 0 L cs'/\(r::I).Perm (pO++n::ps)/\(fs=[]->cs'=cs):=by
 obtain⟨z,hz⟩:∃z,cU (z::Z) l cs:=by
  cases l with
  |zero=>exact⟨0,by rw[cU,ay U];exact fb⟩
  |succ l =>
   obtain⟨ks,rfl,hS,_⟩:=jM;match ks,hS with
   |[],hS=>exact absurd U hS.ne
   |[k],hS=>exact⟨k.pg,by rw[cU,ai (by omega)];exact .inr ⟨k.pg,a_,k.key,hS.pg k (by simp),U⟩⟩
   |k1::k2::t,_=>exact⟨0,by rw[cU,ai (by omega),dI];exact .inl (by simp)⟩
 obtain⟨I,cs',h1,h2,h3,h4⟩:=gW.Qh (nM.mono λ_ _ h=>h.more (z:=z)) (jM.mono λ_ _ h=>h.more (z:=z)) hp λ_=>hz;exact⟨z,I,cs',h1,h2,h3,h4⟩
end
def WD (L root:Nat)(P:Int->List Nat)(A:Nat)(cs:List (List Nat)): Fx->Prop
 |[]=>lam L cs<=A/\(1<=L->374*L+112<=A)
 |_::_=>∀c,bH (P root) 204 0 L c->lam L c+104<=A
def uJ (N B g a p q r aQ root:Nat)(data R ot Z:List Nat)(A L:Nat)(ε:bk)(now:List (Int×List Nat))(es:List En)(nl:Nat)(S:List aG)(v:V)(h':H): Prop:=∃ah aJ z,v=.int .i64 0/\EI N B ah/\Sm N ε ah/\NW N aJ/\aJ.length<=nl/\Sat h' (GA g a p q r data aQ aJ ah::S)/\qv N root R ot (z::Z) A L (pgG now ε) (pgG aJ ah) es
def DO (told:cu)(N B g a p q r aQ root:Nat)(data R ot Z:List Nat)(A L m:Nat): Prop:=∀(fx:Fx) (l x n i:Nat) (lo:Ky) (hi:Option Ky) (eL eR:List En) (pO:List Nat) (cs:List (List Nat)) (es:List En) (ps:List Nat) (w:V) (ε:bk) (now:List (Int×List Nat)) (M:List Nat) (h:H) (S:List aG),
 fx.length<m->EI N B ε->NW N now->fT N R M (pgG now ε)->jo N M ((pO++n::ps)++ot)->gW (cU Z) (pgG now ε) L root (fx.map (·.2)) l lo hi n eL eR pO->(Nv (cU Z) (pgG now ε) l lo hi cs es ps\/1<=l/\cs=[]/\es=[]/\ps=[])->bH (pgG now ε n) 204 0 l cs->fx.length+l=L->L<=60->WD L root (pgG now ε) A cs fx ->
 Sat h (GA g a p q r data aQ now ε::wyA w (eT fx++[(x,i)])::aW x n l (pgG now ε n) cs::nodsA (pgG now ε) (l+1) fx::S) ->
 Call ⟨Tryz.prog,told⟩ 72 [.ptr g 0,w] h (uJ N B g a p q r aQ root data R ot Z A L ε now (eL++es++eR) (now.length+4*fx.length+2*L+4) S)
structure Bi (N:Nat)(R ot Z:List Nat)(root L A:Nat)(P:Int->List Nat)(M:List Nat)(t:Fx)(f l:Nat)(lo:Ky)(hi:Option Ky)(eL eR:List En)(pO:List Nat)(ks:List fV): Prop where
 sp:fT N R M P
 tr:jo N M ((pO++f::ks.flatMap cW)++ot)
 pt:gW (cU Z) P L root (t.map (·.2)) (l+1) lo hi f eL eR pO
 sep:Sep lo hi ks
 pf:bH (P f) 204 0 (l+1) (bI ks)
 fat:t.map (·.2)≠[]->cU Z (l+1) (bI ks)
 len:t.length+(l+1)=L
 Yp:L<=60
 lam:∀c,bH (P root) 204 0 L c->Am.lam L c+104<=A
structure Eg (Z:List Nat)(P:Int->List Nat)(l:Nat)(lo:Ky)(hi:Option Ky)(ks:List fV)(i:Nat)(kl kr:fV)(eV eB:List (List Nat)): Prop where
 hl:ks[i]?=some kl
 hr:ks[i+1]?=some kr
 oth:∀j k,ks[j]?=some k->j≠i->j≠i+1->Kd (cU Z) P l (loK lo ks j) (cQ hi ks j) k
 nl:Nv (cU Z) P l (loK lo ks i) (cQ hi ks i) eV kl.es kl.ps
 nr:Nv (cU Z) P l (loK lo ks (i+1)) (cQ hi ks (i+1)) eB kr.es kr.ps
 cl:eV≠[]
 cr:eB≠[]
 pl:bH (P kl.pg) 204 0 l eV
 pr:bH (P kr.pg) 204 0 l eB
section
variable {t:Fx} {f:Nat} {Yq:List (List Nat)}
theorem Bi.nd (h:Bi N R ot Z root L A P M t f l lo hi eL eR pO ks): (f::ks.flatMap cW).Nodup/\(∀m∈pO,m≠f/\m∉ks.flatMap cW/\2<=m)/\(∀m∈ot,m≠f/\m∉ks.flatMap cW/\2<=m)/\∀m∈f::ks.flatMap cW,2<=m/\m<N:=by
 have I:=h.tr.nd;rw[dO,mE] at I;obtain⟨h2,h3,h4⟩:=I;rw[mE] at h3;obtain⟨h5,h6,h7⟩:=h3;refine⟨h5,λm hm=>⟨λe=>h4 m hm f (by simp) e,λq=>h4 m hm m (fA _ (bw _ q)) U,(h.tr.mz m (by simp[hm])).1⟩,λm hm=>⟨λe=>h7 f (by simp) m hm e.symm,λq=>h7 m (bw _ q) m hm U,(h.tr.mz m (by simp[hm])).1⟩,λm hm=>h.tr.mz m ?_⟩;exact fA _ (jt _ hm)
theorem WE (h:Sep lo hi ks): 8<=cB (bI ks):=by
 match ks,h.ne with
 |k::t,_ =>
  have I:=cO 4 k.pg;simp only[cB,tot,bI,hU,yD,aX,ff,aN];omega
theorem Bi.up (h:Bi N R ot Z root L A P M t f l lo hi eL eR pO ks)(I:∀m:Nat,m∈pO->P' m=P m)(hz:cB Yq<=cB (bI ks)): gW (cU Z) P' L root (t.map (·.2)) (l+1) lo hi f eL eR pO/\WD L root P' A Yq t:=by
 refine⟨h.pt.frame I,?_⟩;have h8:=WE h.sep;rcases h.pt.rt with⟨q,rfl,rfl⟩|⟨q,hr⟩
 .cases t with
  |cons e t=>cases q
  |nil =>
   have h1:=h.lam _ h.pf;unfold Am.lam at h1;rw[ai (by omega)] at h1;refine⟨?_,λ_=>by omega⟩;unfold Am.lam;rw[ai (by omega)];omega
 .cases t with
  |nil=>exact absurd U q
  |cons e t=>intro c hc;rw[I root hr] at hc;exact h.lam c hc
theorem TR {cut:Ky}{a b:List (List Nat)}: (gZ l cut a b).length=a.length+b.length:=by
 unfold gZ;split
 .exact aN
 .cases b<;>simp
theorem TS : ∀c∈bI ks,1<=c.length:=λc I=>by
 obtain⟨k,_,rfl⟩:=List.mem_map.1 I;rw[ff,aN,cO];omega
theorem qv.base {I:Int->List Nat}(h:qv N root R ot Z A Lx P0 P' es)(h1:∀m:Nat,m∈ot->P0 m=I m): qv N root R ot Z A Lx I P' es:=by
 obtain⟨M,L,cs,ps,q1,q2,q3,q4,q5,q6⟩:=h;exact⟨M,L,cs,ps,q1,q2,q3,q4,q5,λm hm=>(q6 m hm).trans (h1 m hm)⟩
theorem qv.more {z:Nat}(h:qv N root R ot Z A Lx P0 P' es): qv N root R ot (z::Z) A Lx P0 P' es:=by
 obtain⟨M,L,cs,ps,q1,I,q3,q4⟩:=h;exact⟨M,L,cs,ps,q1,I,q3.mono λ_ _ h=>h.more,q4⟩
theorem TT : cB (cs.eraseIdx i)<=cB cs:=by
 have I:=IZ (cs:=cs) (i:=i);have h2:=List.length_eraseIdx_le (l:=cs) (i:=i);rw[cB,cB];omega
end
section
variable {told:cu} {h:H} {p m f D7:Nat} {y6 y67 y68:V} {t:Fx}
noncomputable def mdJ : Code:=cX [1,1,1,1,1,1,0,1,0,0,1,1,0,0,1,1,1] ((Tryz.f72.body).getD .skip)
theorem TU (hT:W told)(hB:B<=2000)(hN:N<=65536)(b_:EI N B ε)(hw:NW N now)(hx:Bi N R ot Z root L A (pgG now ε) M t f l lo hi eL eR pO ks)(hp:Eg Z (pgG now ε) l lo hi ks i kl kr eV eB)(ih:DO told N B g a p q r aQ root data R ot Z A L m)(si:t.length<m)(Eb:GN.length=4)
 (s:Sat h (GA g a p q r data aQ now ε::aW xu f (l+1) (pgG now ε f) (bI ks)::aW xl kl.pg l (pgG now ε kl.pg) eV::aW xr kr.pg l (pgG now ε kr.pg) eB::pt D7 (.cells 4 [.ptr xu 0,.int .i64 (i:Int),.ptr xl 0,.ptr xr 0] false)::pt p9 (.cells 4 GN false)::wyA w ((eT t++[(xu,ui)])++[(x,xi)])::nodsA (pgG now ε) (l+2) t::S))
 (hE:Has E [(0,.ptr g 0),(1,w),(5,.ptr x 0),(6,y6),(9,.ptr p9 0),(12,.ptr D7 0),(67,y67),(68,y68)])
 (mj:∀E' h' v,Has E' [(4,v)]->uJ N B g a p q r aQ root data R ot Z A L ε now (eL++ks.flatMap (·.es)++eR) (now.length+4*t.length+2*L+8) S v h'->Q .ret E' h')
 (hq:∀E' h',486<cB (gZ l kr.key eV eB)->Has E' [(0,.ptr g 0),(1,w),(5,.ptr x 0),(6,y6),(9,.ptr p9 0),(67,y67),(68,y68)] ->
   Sat h' (GA g a p q r data aQ now ε::aW xu f (l+1) (pgG now ε f) (bI ks)::aW xl kl.pg l (pgG now ε kl.pg) eV::aW xr kr.pg l (pgG now ε kr.pg) eB::pt p9 (.cells 4 [.ptr xu 0,.int .i64 (i:Int),.ptr xl 0,.ptr xr 0] false)::wyA w ((eT t++[(xu,ui)])++[(x,xi)])::nodsA (pgG now ε) (l+2) t::S)->Q .normal E' h'): WP ⟨Tryz.prog,told⟩ 131 mdJ E h Q:=by
 have hlen:=hx.len;have Me:=hx.Yp;obtain⟨n1,n2,n3,n4⟩:=hx.nd;obtain⟨m1,m2,m3,m4,m5,m6⟩:=hx.sep.mJ hp.hr;have xx:=hx.pf.fits;have l_:=hp.pl.fits;have uU:=hp.pr.fits;have Ef:=hx.sep.pg kr (aI hp.hr);have v_:1<=l->∃m ky,eB[0]?=some (ff m ky)/\m<4294967296:=λh1=>by
  have oE:=hp.nr;cases l with
  |zero=>omega
  |succ l =>
   obtain⟨k2,e1,e2,_⟩:=oE;match k2,e2,e1 with
   |[],e2,_=>exact absurd U e2.ne
   |k::_,e2,e1=>exact⟨k.pg,k.key,by rw[e1];rfl,e2.pg k (by simp)⟩
 have pZ:=hp.nl;have oE:=hp.nr;have gn:=hp.nl.cells;have BG:=hp.nr.cells;have hj:=(by rw[m5] at pZ;exact pZ:Nv (cU Z) (pgG now ε) l (loK lo ks i) (some kr.key) eV kl.es kl.ps).join (by rw[m6] at oE;exact oE:Nv (cU Z) (pgG now ε) l kr.key (cQ hi ks (i+1)) eB kr.es kr.ps) m1 m2 ⟨m3,m4⟩;have TV:=hj.cells;have IN:(gZ l kr.key eV eB).length=eV.length+eB.length:=TR;have qu:=k9 hp.hl (m:=kl.pg) a_;have aeA:=k9 hp.hr (m:=kr.pg) a_;have Ee:kl.pg≠kr.pg:=λe=>rz (List.nodup_cons.1 n1).2 hp.hl hp.hr (by omega) kr.pg a_ (by rw[<-e];exact a_);have hlf:kl.pg≠f:=λe=>(List.nodup_cons.1 n1).1 (e ▸ qu);have NR:(((eT t++[(xu,ui)])++[(x,xi)]):List (Nat×Nat)).length=t.length+2:=by simp[eT]
 have QF:((eT t++[(xu,ui)])++[(x,xi)]).take (t.length+1)=eT t++[(xu,ui)]:=ga (by simp[eT]);refine WP.has hE (zK 3 U (zl U (s.b7 (k:=4) U qf jB) ?_));have s:=s.ae [1,1,1];refine zc U (Jh hT (gU hp.hr) m4 (by omega) (by omega) (by omega) (by omega) v_ s) ?_;rintro v h ⟨us,s⟩;refine zk 5 U (zc U (EK hT (cR _ _ _) (λc hc=>(TV c hc).2.1) (by omega) s) ?_);rintro v0 h ⟨rfl,s⟩;by_cases dL:cB (gZ l kr.key eV eB)<=486
 .skip;refine zB U wo (by simp;omega) ?_;refine zk 5 U (zl U (s.b7 (k:=6) U qf jB) (zk 2 U ?_));have s:=s.ae [5,0];have kK:((pO++f::ks.flatMap cW)++ot).Perm (kr.pg::((pO++f::ks.flatMap cW)++ot).erase kr.pg):=List.perm_cons_erase (fA _ (jt _ (bw _ aeA)));refine zc U (Wx hT hB b_ hw hx.sp hx.tr kK (fA _ (jt _ (bw _ qu))) (fA _ (jt _ a_)) hlf dL (by omega) hx.pf (by rw[dI];exact(List.getElem?_eq_some_iff.1 hp.hr).1) (TS) s) ?_;rintro v0 h ⟨dz,I,M1,bJ,bU,rfl,a1,a2,a3,a4,a5,a6,a7,a8,a9,a10,a11,s⟩;have CK:∀m:Nat,2<=m->m≠kl.pg->m≠f->pgG I dz m=pgG now ε m:=λm q1 q2 q3=>a11 m (by omega) (by omega) (by omega);obtain⟨m_,u1,u2⟩:=abT (P':=pgG I dz) hx.sep hp.hl hp.hr hp.oth hp.nl hp.nr hp.cl hp.cr n1 (λm q1 q2 q3=>CK m (n4 m (bw _ q3)).1 q2 q1) (by rw[a9];exact a7);have xK:∀m:Nat,m∈pO->pgG I dz m=pgG now ε m:=λm hm=>CK m (n2 m hm).2.2 (λe=>(n2 m hm).2.1 (e ▸ qu)) (n2 m hm).1;have uI:∀m:Nat,m∈ot->pgG I dz m=pgG now ε m:=λm hm=>CK m (n3 m hm).2.2 (λe=>(n3 m hm).2.1 (e ▸ qu)) (n3 m hm).1;obtain⟨w1,w2⟩:=hx.up (P':=pgG I dz) xK (Yq:=(bI ks).eraseIdx (i+1)) TT;have tV:jo N M1 ((pO++f::m_)++ot):=a6.perm (by
   refine(kK.symm.trans ?_).cons_inv;rw[lX] at u2 ⊢;intro z;have:=u2 z;simp only[lY,lZ] at this ⊢;omega)
  refine zk 5 U (zC U aE (U) (zk 8 U (zo U (aC (r:=.int .i64 ((t.length+2:Nat):Int)) U U U (by rw[<-NR];exact s.AR (j:=4) U eS)) ?_)));refine zo U (aq (r:=.int .i64 ((t.length+1:Nat):Int)) U U (by rw[show((t.length+1:Nat):Int)=((t.length+2:Nat):Int)-1 by omega];exact dM ak)) ?_;refine zo U (bK (p:=none) (q:=some (.int .i64 ((t.length+1:Nat):Int))) (m:=none) (p':=none) (q':=some (t.length+1)) (m':=none) U U U U U (by rw[bN];rfl) U (s.AS (j:=4) U (b:=t.length+1) eS lR (by omega))) ?_;have s:=LO (b:=t.length+1) (by omega) (by omega) (s.ae [4]);rw[QF,<-uf (P':=pgG I dz) (fx:=t) λe' su=>xK e'.2.pg (hx.pt.Yc e'.2 (nj su))] at s;rw[<-a10] at s;have s:=((s.ae [1,0,0,2]).del 5).del 4;refine zc U (ih t (l+1) xu f ui lo hi eL eR pO _ _ m_ _ dz I M1 h S si a1 a3 a5 tV w1 (.inl u1) (by rw[a10];exact a8) hlen Me w2 s) ?_;rintro v0 h ⟨ij,mB,z,rfl,b1,b2,b3,b4,s,b5⟩;exact zk 2 U (WP.ret (mj _ _ _ ⟨U,aa⟩ ⟨ij,mB,z,U,b1,a2.trans b2,b3,by omega,s,b5.base uI⟩))
 .skip;refine zC U wo (by simp;omega) ?_;refine zk 4 U (zl U (s.b7 (k:=6) U qf jB) ?_);refine zS U (s.gX (j:=7) U jB U U) (λh s => ?_);exact zv (hq _ _ (by omega) ⟨U,U,U,U,U,U,U,aa⟩ (((s.ae [5,2,2,2,3,3,3]).del 9).del 8 |>.del 7))
end
section
variable {told:cu} {h:H} {p y f:Nat} {t:Fx}
noncomputable def mdT : Code:=cX [1,1,1,1,1,1,1] ((Tryz.f72.body).getD .skip)
theorem abW (b_:EI N B ε)(hw:NW N now)(I:∃z,qv N root R ot (z::Z) A L (pgG now ε) (pgG now ε) es)(pZ:now.length<=nl)
 (s:Sat h (GA g a p q r data aQ now ε::aW x n l b cs::pt p9 (.cells 4 [.cf,.int .i64 0,.cf,.cf] false)::S))(hE:Has E [(5,.ptr x 0),(9,.ptr p9 0)])
 (mj:∀E' h' v,Has E' [(4,v)]->uJ N B g a p q r aQ root data R ot Z A L ε now es nl S v h'->Q .ret E' h'): WP ⟨Tryz.prog,told⟩ 131 mdT E h Q:=by
 obtain⟨z,I⟩:=I;have s:=s.ae [1];obtain⟨bv,cv,us,s⟩:=aT.1 s;have jk:=gR (P:=Tryz.prog) aO s;have s1:=((s.ae [4]).skip 5);refine WP.has hE (zK 5 U (zY s 0 ew bT U ?_));by_cases h0:l=0
 .skip;refine zC U cP (by simp;omega) ?_;exact zk 20 U (WP.ret (mj _ _ _ ⟨U,aa⟩ ⟨ε,now,z,U,b_,Sm.refl N ε,hw,pZ,s1,I⟩))
 .skip;refine zB U cP (by simp;omega) ?_;refine zk 3 U (zY s 0 cM gu U (zo U (aC U U U jk) ?_));by_cases h2:cs.length<2
  .skip;refine zB U aK (by simp;omega) ?_;exact zk 2 U (zY s 5 l8 fH U (zC U (XM GL) (U) (zk 8 U (WP.ret (mj _ _ _ ⟨U,aa⟩ ⟨ε,now,z,U,b_,Sm.refl N ε,hw,pZ,s1,I⟩)))))
  .skip;refine zC U aK (by simp;omega) ?_;exact zk 13 U (WP.ret (mj _ _ _ ⟨U,aa⟩ ⟨ε,now,z,U,b_,Sm.refl N ε,hw,pZ,s1,I⟩))
theorem WG {cut:Ky}(hc:cut.length<=96)(hr:1<=l->∀c∈eB,4<=c.length)(hl:1<=l): cB (gZ l cut eV eB)<=cB eV+cB eB+96:=by
 have I:∀a b:List (List Nat),cB (a++b)=cB a+cB b:=λa b=>by rw[cB,tT,aN,cB,cB];omega
 have h2:∀(c:List Nat) (b:List (List Nat)),cB (c::b)=c.length+4+cB b:=λc b=>by
  have:=I [c] b;rw[List.singleton_append] at this;rw[this];simp[cB,tot]
 unfold gZ;rw[ai (by omega),I];cases eB with
 |nil=>simp
 |cons c t =>
  have:=hr hl c a_;rw[h2,h2,aN,cz];omega
theorem WH (hT:W told)(hB:B<=2000)(hN:N<=65536)(b_:EI N B ε)(hw:NW N now)(hx:Bi N R ot Z root L A (pgG now ε) M t f l lo hi eL eR pO ks)(hp:Eg Z (pgG now ε) l lo hi ks i kl kr eV eB)(eO:∃z,qv N root R ot (z::Z) A L (pgG now ε) (pgG now ε) (eL++ks.flatMap (·.es)++eR))(pZ:now.length+3<=nl)(hJ:486<cB (gZ l kr.key eV eB))(WJ:cs.length<2->eV.length<2\/eB.length<2)
 (WK:∀ {h:H} {S:List aG},Sat h (aW x n l b cs::D::S)->Sat h (aW xl kl.pg l (pgG now ε kl.pg) eV::aW xr kr.pg l (pgG now ε kr.pg) eB::S))
 (s:Sat h (GA g a p q r data aQ now ε::aW x n l b cs::D::aW xu f (l+1) (pgG now ε f) (bI ks)::pt p9 (.cells 4 [.ptr xu 0,.int .i64 (i:Int),.ptr xl 0,.ptr xr 0] false)::S))(hE:Has E [(0,.ptr g 0),(5,.ptr x 0),(9,.ptr p9 0)])
 (mj:∀E' h' v,Has E' [(4,v)]->uJ N B g a p q r aQ root data R ot Z A L ε now (eL++ks.flatMap (·.es)++eR) nl S v h'->Q .ret E' h'): WP ⟨Tryz.prog,told⟩ 131 mdT E h Q:=by
 obtain⟨z,eO⟩:=eO;have sJ:∀ {E':List (Nat×V)} {h:H},Has E' [(4,.int .i64 0)]->Sat h (GA g a p q r data aQ now ε::S)->Q .ret E' h:=λhE s=>mj _ _ _ hE ⟨ε,now,z,U,b_,Sm.refl N ε,hw,by omega,s,eO⟩;have sx:=s.ae [1,1];have s:=s.ae [1];obtain⟨bv,cv,us,s⟩:=aT.1 s;have jk:=gR (P:=Tryz.prog) aO s;have s1:=((s.ae [4]).skip 7);refine WP.has hE (zK 5 U (zY s 0 ew bT U ?_));by_cases h0:l=0
 .skip;refine zC U cP (by simp;omega) ?_;exact zk 20 U (WP.ret (sJ ⟨U,aa⟩ s1))
 .skip;refine zB U cP (by simp;omega) ?_;refine zk 3 U (zY s 0 cM gu U (zo U (aC U U U jk) ?_));by_cases h2:cs.length<2
  .skip;refine zB U aK (by simp;omega) ?_;have s:=s.ae [7,6];refine zk 2 U (zY s 0 l8 fH U (zB U (ac3 GL) (U) ?_));have s:=(WK sx).ae [3];have v_:∃m ky,eB[0]?=some (ff m ky)/\m<4294967296:=by
    have oE:=hp.nr;cases l with
    |zero=>omega
    |succ l =>
     obtain⟨k2,e1,e2,_⟩:=oE;match k2,e2,e1 with
     |[],e2,_=>exact absurd U e2.ne
     |k::_,e2,e1=>exact⟨k.pg,k.key,by rw[e1];rfl,e2.pg k (by simp)⟩
   obtain⟨n1,n2,n3,n4⟩:=hx.nd;obtain⟨m1,m2,m3,m4,m5,m6⟩:=hx.sep.mJ hp.hr;have xx:=hx.pf.fits;have l_:=EZ hp.pl;have uU:=EZ hp.pr;have hlen:=hx.len;have Me:=hx.Yp;have pZ:=hp.nl;have oE:=hp.nr;have gn:=hp.nl.cells;have BG:=hp.nr.cells;rw[m5] at pZ;rw[m6] at oE;have TV:=(pZ.join oE m1 m2 ⟨m3,m4⟩).cells;have fY:=WG (l:=l) (eV:=eV) (eB:=eB) m4 (λ_ c hc=>by have:=(BG c hc).1;rw[iT,ai h0] at this;exact this) (by omega);have y9:∀ {d:List (List Nat)},d.length<2->(∀c∈d,c.length<=100)->cB d<=104:=λ{d} h1 h2=>by
    match d,h1,h2 with
    |[],_,_=>simp[cB,tot]
    |[c],_,h2=>have:=h2 c (by simp);simp[cB,tot];omega
   have Yo:cB (gZ l kr.key eV eB)<=695:=by
    rcases WJ h2 with q|q
    .have:=y9 q λc hc=>(gn c hc).2.2 (by omega);omega
    .have:=y9 q λc hc=>(BG c hc).2.2 (by omega);omega
   rw[ku] at l_ uU;have c9:=(List.getElem?_eq_some_iff.1 hp.hr).1;have qu:=k9 hp.hl (m:=kl.pg) a_;have Ef:=k9 hp.hr (m:=kr.pg) a_;have Ee:kl.pg≠kr.pg:=λe=>rz (List.nodup_cons.1 n1).2 hp.hl hp.hr (by omega) kr.pg a_ (by rw[<-e];exact a_);have hlf:kl.pg≠f:=λe=>(List.nodup_cons.1 n1).1 (e ▸ qu);have hrf:kr.pg≠f:=λe=>(List.nodup_cons.1 n1).1 (e ▸ Ef);have uY:∀c∈bI ks,c.length<=100:=λc hc=>by
    obtain⟨k,hk,rfl⟩:=List.mem_map.1 hc;have:=hx.sep.len k hk;rw[ff,aN,cO];omega
   have z0:=s;refine zk 4 U (WP.drawn [some (0,2),some (0,2),af,af,af,af] U (by kernel_rfl) (by kernel_rfl) ?_);refine zL U (s.b7 (k:=4) U qf jB) (zM U (zL U (s.b7 (k:=4) U qf jB) (aB.any U U U U (OpR.call U U U U (Jh hT (gU hp.hr) m4 (by omega) (by omega) (by omega) (by omega) (λ_=>v_) s)) ?_)));rintro v h ⟨us,s⟩;have z1:=s;have s:=s.ae [5];refine aB.any U U U U (OpR.call U U U U (Wz hT hB b_ hw (by omega) (by omega) hJ Yo (λc hc=>⟨(TV c hc).1,(TV c hc).2.2 (by omega)⟩) uY (by omega) (by rw[dI];exact c9) (n4 _ (bw _ qu)).2 (n4 _ (bw _ Ef)).2 (n4 _ a_).2 hN Ee hlf hrf s)) ?_;rintro v0 h ⟨dz,I,rfl,a1,a2,a3,a4,s,a5⟩;refine zA U ?_;refine aB.nil ⟨⟨gC (.inr ⟨U,⟨_,o_load U (z0.b7 (k:=4) U qf jB)⟩,bp _ U⟩) (.inr ⟨U,⟨_,o_load U (z1.b7 (k:=6) U qf jB)⟩,bp _ U⟩),λ_ _=>.inr ⟨U,⟨_,bZ U⟩,bp _ U⟩,yr 5⟩,?_⟩;refine WP.ret (mj _ _ _ ⟨U,aa⟩ ?_);rcases a5 with a5|⟨k,ck,bl',br',bu',g1,g2,g3,g4,g5,g6,g7,g8,g9⟩
   .exact⟨dz,I,z,U,a1,a2,a3,by omega,s.skip 1,by rw[a5];exact eO⟩
   .have CK:∀m:Nat,m≠f->m≠kl.pg->m≠kr.pg->pgG I dz m=pgG now ε m:=λm q1 q2 q3=>g9 m (by omega) (by omega) (by omega);obtain⟨m_,u1,u2⟩:=abV (P':=pgG I dz) (kN:=[]) (gL:=[]) hx.sep hp.hl hp.hr hp.oth hp.nl hp.nr n1 (by omega) g1 g2 (λm q1 q2 q3 _=>CK m q1 q2 q3) (by rw[g6];exact g3) (by rw[g7];exact g4);have xK:∀m:Nat,m∈pO->pgG I dz m=pgG now ε m:=λm hm=>CK m (n2 m hm).1 (λe=>(n2 m hm).2.1 (e ▸ qu)) (λe=>(n2 m hm).2.1 (e ▸ Ef));have uI:∀m:Nat,m∈ot->pgG I dz m=pgG now ε m:=λm hm=>CK m (n3 m hm).1 (λe=>(n3 m hm).2.1 (e ▸ qu)) (λe=>(n3 m hm).2.1 (e ▸ Ef));have hlg:=(List.getElem?_eq_some_iff.1 (gU hp.hr)).1;obtain⟨GI,cs',w1,w2,w3,w4⟩:=gW.Qh (hx.pt.frame (P':=pgG I dz) xK) u1 (by rw[g8];exact g5) (λ_=>by
     rw[cU,ai (by omega),cL,dI];exact .inl (by omega))
    have h2:=n4 _ (bw _ qu);have h3:=n4 _ (bw _ Ef);have h4:=n4 _ a_;refine⟨dz,I,0,U,a1,a2,a3,by omega,s.skip 1,M,L,cs',GI,hx.sp.frame (g9 0 (by omega) (by omega) (by omega)) (g9 1 (by omega) (by omega) (by omega)),hx.tr.perm ?_,w1.mono λ_ _ h=>h.more,w2,⟨aH _,?_⟩,uI⟩
    .refine List.Perm.append_right ot ((List.Perm.trans ?_ w3.symm));rw[lX] at u2 ⊢;intro z;have:=u2 z;simp only[lY,lZ] at this ⊢;omega
    .rcases hx.pt.rt with⟨q,rfl,rfl⟩|⟨q,hr⟩
     .rw[w4 q];have e1:=hx.lam _ hx.pf;have e2:=qj (c':=ff kr.pg (fM l ck)) (gU hp.hr);have e3:=uY _ (aI (gU hp.hr));have e4:4<=(ff kr.pg kr.key).length:=by rw[ff,aN,cO];omega
      have e5:(ff kr.pg (fM l ck)).length<=100:=by
       obtain⟨e6,_,e7⟩:=TV ck (aI g1);have e7:=e7 (by omega);rw[ff,aN,cO,fM,ai h0,fD];omega
      unfold Am.lam at e1 ⊢;rw[ai (by omega)] at e1 ⊢;rw[cB,cL];rw[cB] at e1;omega
     .rw[xK _ hr] at w2;have:=hx.lam _ w2;omega
  .skip;refine zC U aK (by simp;omega) ?_;exact zk 13 U (WP.ret (sJ ⟨U,aa⟩ s1))
end
section
variable {told:cu} {h:H} {p m f:Nat} {t:Fx}
theorem uJ.pre {v:V}(hs:Sm N ε dz)(h1:uJ N B g a p q r aQ root data R ot Z A L dz now es nl S v h): uJ N B g a p q r aQ root data R ot Z A L ε now es nl S v h:=by
 obtain⟨ah,aJ,z,rfl,a1,a2,a3,a4,a5,I⟩:=h1;rw[gI hs] at I;exact⟨ah,aJ,z,U,a1,hs.trans a2,a3,a4,a5,I⟩
theorem uJ.del {v:V}(I:uJ N B g a p q r aQ root data R ot Z A L ε now es nl (C::S) v h): uJ N B g a p q r aQ root data R ot Z A L ε now es nl S v h:=by
 obtain⟨ah,aJ,z,a0,a1,a2,a3,a4,a5,a6⟩:=I;exact⟨ah,aJ,z,a0,a1,a2,a3,a4,a5.del 1,a6⟩
theorem DP {a b:Bool}: indexV Tryz.prog 230 (.agg [.bool a,.bool b]) (.int .i64 ((0:Nat):Int))=some (.bool a)/\indexV Tryz.prog 230 (.agg [.bool a,.bool b]) (.int .i64 ((1:Nat):Int))=some (.bool b):=by
 simp only[indexV,Tryz.underlying230,BX,tW,sF];exact⟨U,U⟩
abbrev s8 : V:=.agg [.bool true,.bool false]
noncomputable def CL : Code:=cX [1,1,1,1,1,1,0,1,0,0] ((Tryz.f72.body).getD .skip)
theorem OQ (hT:W told)(hi:i<ks.length)(hl:ks.length<=512){k:Nat}(hk:k=0/\ks.length<=i+1\/k=1/\i=0)
 (s:Sat h (pt p6 (.cells 2 [.ptr xu 0,.int .i64 (i:Int)] false)::aW xu f (l+1) bu (bI ks)::S))(hE:Has E [(0,.ptr g 0),(1,w),(5,.ptr x 0),(6,.ptr p6 0),(9,.ptr p9 0),(67,s8),(68,.int .i64 (k:Int))])
 (hq:∀E' h',Has E' [(0,.ptr g 0),(1,w),(5,.ptr x 0),(6,.ptr p6 0),(9,.ptr p9 0),(67,s8),(68,.int .i64 ((k+1:Nat):Int))]->Sat h' (pt p6 (.cells 2 [.ptr xu 0,.int .i64 (i:Int)] false)::aW xu f (l+1) bu (bI ks)::S)->WP ⟨Tryz.prog,told⟩ 131 (.loop CL) E' h' Q): WP ⟨Tryz.prog,told⟩ 131 (.loop CL) E h Q:=by
 rcases hk with⟨rfl,I⟩|⟨rfl,I⟩
 .skip;refine WP.loop (WP.has hE (zg U (zB U aK (by decide) ?_)));refine zk 5 U (WP.block (zg U (zo U (Aj (r:=.bool true) U U DP.1) (zk 5 U (zl U (s.b7 (k:=0) U HG lR) (zk 2 U ?_))))));have s:=s.ae [1];dsimp only[bringA,getA,aL] at s;refine zc U (Ma (TQ:=true) hT hi hl I s) ?_;rintro v h ⟨rfl,s⟩;have s:=s.ae [1];dsimp only[bringA,getA,aL] at s;refine zk 4 U ?_;refine au.cg s U U U (cm vl) (λD7 h s => ?_);dsimp only[V.cells,List.length_cons,List.length_nil,Nat.reduceAdd] at s;refine zS U (s.gX (j:=0) U jB U U) (λh s => ?_);dsimp only[setA] at s;refine zk 4 U (WP.block (zK 3 U (zC U aE (U) (zk 6 U (zo U (eo U U) (zk 3 U (WP.exit (zr U (zb U (by exact aM ak) ?_)))))))));refine zm U (zv ?_);exact hq _ _ ⟨U,U,U,U,U,U,U,aa⟩ s.drop
 .skip;refine WP.loop (WP.has hE (zg U (zB U aK (by decide) ?_)));refine zk 5 U (WP.block (zg U (zo U (Aj (r:=.bool false) U U DP.2) (zk 5 U (zl U (s.b7 (k:=0) U HG lR) (zk 2 U ?_))))));have s:=s.ae [1];dsimp only[bringA,getA,aL] at s;refine zc U (Ma (TQ:=false) hT hi hl I s) ?_;rintro v h ⟨rfl,s⟩;have s:=s.ae [1];dsimp only[bringA,getA,aL] at s;refine zk 4 U ?_;refine au.cg s U U U (cm vl) (λD7 h s => ?_);dsimp only[V.cells,List.length_cons,List.length_nil,Nat.reduceAdd] at s;refine zS U (s.gX (j:=0) U jB U U) (λh s => ?_);dsimp only[setA] at s;refine zk 4 U (WP.block (zK 3 U (zC U aE (U) (zk 6 U (zo U (eo U U) (zk 3 U (WP.exit (zr U (zb U (by exact aM ak) ?_)))))))));refine zm U (zv ?_);exact hq _ _ ⟨U,U,U,U,U,U,U,aa⟩ s.drop
theorem OR (I:Has E [(0,.ptr g 0),(1,w),(5,.ptr x 0),(6,.ptr p6 0),(9,.ptr p9 0),(67,s8),(68,.int .i64 ((1+1:Nat):Int))])
 (hq:∀E',Has E' [(0,.ptr g 0),(5,.ptr x 0),(9,.ptr p9 0)]->Q (.exit 0) E' h): WP ⟨Tryz.prog,told⟩ 131 (.loop CL) E h Q:=by
 refine WP.loop (WP.has I (zg U (zC U aK (by decide) ?_)));exact zk 3 U (WP.exit (hq _ ⟨U,U,U,aa⟩))
theorem WL (hT:W told)(hB:B<=2000)(hN:N<=65536)(b_:EI N B ε)(hw:NW N now)(hx:Bi N R ot Z root L A (pgG now ε) M t f l lo hi eL eR pO ks)(hp:Eg Z (pgG now ε) l lo hi ks i kk kr cs eB)(ih:DO told N B g a p q r aQ root data R ot Z A L m)(si:t.length<m)(Eb:GN.length=4)
 (s:Sat h (GA g a p q r data aQ now ε::aW x kk.pg l (pgG now ε kk.pg) cs::aW xu f (l+1) (pgG now ε f) (bI ks)::pt p6 (.cells 2 [.ptr xu 0,.int .i64 (i:Int)] false)::pt p9 (.cells 4 GN false)::wyA w ((eT t++[(xu,ui)])++[(x,xi)])::nodsA (pgG now ε) (l+2) t::S))
 (hE:Has E [(0,.ptr g 0),(1,w),(5,.ptr x 0),(6,.ptr p6 0),(9,.ptr p9 0),(67,s8),(68,.int .i64 ((0:Nat):Int))])
 (mj:∀E' h' v,Has E' [(4,v)]->uJ N B g a p q r aQ root data R ot Z A L ε now (eL++ks.flatMap (·.es)++eR) (now.length+4*t.length+2*L+8) S v h'->Q .ret E' h')
 (hq:∀E' h' y ah,486<cB (gZ l kr.key cs eB)->EI N B ah->Sm N ε ah->Has E' [(0,.ptr g 0),(1,w),(5,.ptr x 0),(6,.ptr p6 0),(9,.ptr p9 0),(67,s8),(68,.int .i64 ((1:Nat):Int))] ->
   Sat h' (GA g a p q r data aQ now ah::aW x kk.pg l (pgG now ε kk.pg) cs::aW xu f (l+1) (pgG now ε f) (bI ks)::pt p6 (.cells 2 [.ptr xu 0,.int .i64 (i:Int)] false)::pt p9 (.cells 4 [.ptr xu 0,.int .i64 (i:Int),.ptr x 0,.ptr y 0] false)::wyA w ((eT t++[(xu,ui)])++[(x,xi)])::nodsA (pgG now ε) (l+2) t::aW y kr.pg l (pgG now ε kr.pg) eB::S)->WP ⟨Tryz.prog,told⟩ 131 (.loop CL) E' h' Q): WP ⟨Tryz.prog,told⟩ 131 (.loop CL) E h Q:=by
 have hlen:=hx.len;have Me:=hx.Yp;have xx:=hx.pf.fits;rw[dI] at xx;have Ef:=k9 hp.hr (m:=kr.pg) a_;have Mf:=(hx.nd.2.2.2 _ (bw _ Ef)).2;refine WP.loop (WP.has hE (zg U (zB U aK (by decide) ?_)));refine zk 5 U (WP.block (zg U (zo U (Aj (r:=.bool true) U U DP.1) ?_)));have s:=s.ae [0,1,1];dsimp only[bringA,getA,aL] at s;refine zk 5 U (zl U (s.b7 (k:=2) U HG lR) (zk 2 U (zc U (Wv hT hB hN b_ hw hp.hr (by omega) (by omega) Mf hp.pr (λc hc=>⟨(hp.nr.cells c hc).1,(hp.nr.cells c hc).2.1⟩) s) ?_)));rintro v h ⟨y,dz,rfl,I,ej,s⟩;have gV:pgG now dz=pgG now ε:=gI ej;refine zk 4 U ?_;refine au.cg s U U U (cm vl) (λD7 h s => ?_);dsimp only[V.cells,List.length_cons,List.length_nil,Nat.reduceAdd] at s;refine zS U (s.gX (j:=0) U jB U U) (λh s => ?_);dsimp only[setA] at s;refine zk 4 U (WP.block (zK 3 U (zC U aE (U) (zk 6 U (zo U (eo U U) (zk 3 U ?_))))));have s:=s.ae [1,2,3,1,0,1,1,1];dsimp only[bringA,getA,aL] at s;rw[<-gV] at s hx hp hq;refine WP.skip ?_;refine TU (xi:=xi) (ui:=ui) (x:=x) hT hB hN I hw hx hp ih si Eb s ⟨U,U,U,U,U,U,U,U,aa⟩ (λE' h' v dY hr=>mj E' h' v dY (hr.pre ej).del) (λE' h' hJ dY s' => ?_);have s:=s'.ae [0,1,0,4,1,1,1,0];dsimp only[bringA,getA,aL] at s;refine WP.has dY (zr U (zb U (by exact aM ak) ?_));refine zm U (zv ?_);exact hq _ _ y dz hJ I ej ⟨U,U,U,U,U,U,U,aa⟩ s
theorem ZZ (hT:W told)(hB:B<=2000)(hN:N<=65536)(b_:EI N B ε)(hw:NW N now)(hx:Bi N R ot Z root L A (pgG now ε) M t f l lo hi eL eR pO ks)(I:Eg Z (pgG now ε) l lo hi ks i kl kk eV cs)(ih:DO told N B g a p q r aQ root data R ot Z A L m)(si:t.length<m)(Eb:GN.length=4)
 (s:Sat h (GA g a p q r data aQ now ε::aW x kk.pg l (pgG now ε kk.pg) cs::aW xu f (l+1) (pgG now ε f) (bI ks)::pt p6 (.cells 2 [.ptr xu 0,.int .i64 ((i+1:Nat):Int)] false)::pt p9 (.cells 4 GN false)::wyA w ((eT t++[(xu,ui)])++[(x,xi)])::nodsA (pgG now ε) (l+2) t::S))
 (hE:Has E [(0,.ptr g 0),(1,w),(5,.ptr x 0),(6,.ptr p6 0),(9,.ptr p9 0),(67,s8),(68,.int .i64 ((1:Nat):Int))])
 (mj:∀E' h' v,Has E' [(4,v)]->uJ N B g a p q r aQ root data R ot Z A L ε now (eL++ks.flatMap (·.es)++eR) (now.length+4*t.length+2*L+8) S v h'->Q .ret E' h')
 (hq:∀E' h' y ah,486<cB (gZ l kk.key eV cs)->EI N B ah->Sm N ε ah->Has E' [(0,.ptr g 0),(5,.ptr x 0),(9,.ptr p9 0)] ->
   Sat h' (GA g a p q r data aQ now ah::aW x kk.pg l (pgG now ε kk.pg) cs::aW y kl.pg l (pgG now ε kl.pg) eV::aW xu f (l+1) (pgG now ε f) (bI ks)::pt p9 (.cells 4 [.ptr xu 0,.int .i64 (i:Int),.ptr y 0,.ptr x 0] false)::S)->Q (.exit 0) E' h'): WP ⟨Tryz.prog,told⟩ 131 (.loop CL) E h Q:=by
 have hlen:=hx.len;have Me:=hx.Yp;have xx:=hx.pf.fits;rw[dI] at xx;have qu:=k9 I.hl (m:=kl.pg) a_;have Mf:=(hx.nd.2.2.2 _ (bw _ qu)).2;have c9:=(List.getElem?_eq_some_iff.1 I.hr).1;refine WP.loop (WP.has hE (zg U (zB U aK (by decide) ?_)));refine zk 5 U (WP.block (zg U (zo U (Aj (r:=.bool false) U U DP.2) ?_)));have s:=s.ae [0,1,1];dsimp only[bringA,getA,aL] at s;refine zk 5 U (zl U (s.b7 (k:=2) U HG lR) (zk 2 U (zc U (Ww hT hB hN b_ hw I.hl c9 (by omega) (by omega) Mf I.pl (λc hc=>⟨(I.nl.cells c hc).1,(I.nl.cells c hc).2.1⟩) s) ?_)));rintro v h ⟨y,dz,rfl,kD,ej,s⟩;have gV:pgG now dz=pgG now ε:=gI ej;refine zk 4 U ?_;refine au.cg s U U U (cm vl) (λD7 h s => ?_);dsimp only[V.cells,List.length_cons,List.length_nil,Nat.reduceAdd] at s;refine zS U (s.gX (j:=0) U jB U U) (λh s => ?_);dsimp only[setA] at s;refine zk 4 U (WP.block (zK 3 U (zC U aE (U) (zk 6 U (zo U (eo U U) (zk 3 U ?_))))));have s:=s.ae [1,2,1,2,0,1,1,1];dsimp only[bringA,getA,aL] at s;rw[<-gV] at s hx I hq;refine WP.skip ?_;refine TU (xi:=xi) (ui:=ui) (x:=x) hT hB hN kD hw hx I ih si Eb s ⟨U,U,U,U,U,U,U,U,aa⟩ (λE' h' v dY hr=>mj E' h' v dY (hr.pre ej).del) (λE' h' hJ dY s' => ?_);have s:=s'.ae [0,2,1,0,0];dsimp only[bringA,getA,aL] at s;refine WP.has dY (zr U (zb U (by exact aM ak) ?_));refine zm U (zv ?_);refine OR (h:=h') (w:=w) (g:=g) (x:=x) (p6:=p6) (p9:=p9) ⟨U,U,U,U,U,U,U,aa⟩ λE2 zR=>hq E2 h' y dz hJ kD ej zR (((s.del 7).del 6).del 5)
end
def GR (N B g a p q r aQ:Nat)(data Z:List Nat)(ε:bk)(now:List (Int×List Nat))(x n l:Nat)(b:List Nat)(cs:List (List Nat))(xu f:Nat)(lo:Ky)(hi:Option Ky)(ks:List fV)(p9:Nat)(S:List aG)(h':H): Prop:=∃ah,EI N B ah/\Sm N ε ah/\(Sat h' (GA g a p q r data aQ now ah::aW x n l b cs::pt p9 (.cells 4 [.cf,.int .i64 0,.cf,.cf] false)::S) \/
 ∃i kl kr eV eB xl xr D,Eg Z (pgG now ε) l lo hi ks i kl kr eV eB/\486<cB (gZ l kr.key eV eB)/\(cs.length<2->eV.length<2\/eB.length<2)/\(∀(h:H) (S:List aG),Sat h (aW x n l b cs::D::S)->Sat h (aW xl kl.pg l (pgG now ε kl.pg) eV::aW xr kr.pg l (pgG now ε kr.pg) eB::S)) /\
  Sat h' (GA g a p q r data aQ now ah::aW x n l b cs::D::aW xu f (l+1) (pgG now ε f) (bI ks)::pt p9 (.cells 4 [.ptr xu 0,.int .i64 (i:Int),.ptr xl 0,.ptr xr 0] false)::S))
section
variable {told:cu} {h:H} {p m f:Nat} {t:Fx}
theorem cU.ne (h:cU Z l cs): cs≠[]:=by
 unfold cU at h;split at h
 .exact h
 .rcases h with h|⟨_,_,_,_,rfl⟩
  .intro e;rw[e] at h;cases h
  .simp
theorem GR.pre (hs:Sm N ε dz)(I:GR N B g a p q r aQ data Z dz now x n l b cs xu f lo hi ks p9 S h): GR N B g a p q r aQ data Z ε now x n l b cs xu f lo hi ks p9 S h:=by
 obtain⟨ah,a1,a2,a3⟩:=I;rw[gI hs] at a3;exact⟨ah,a1,hs.trans a2,a3⟩
theorem GR.del (h1:GR N B g a p q r aQ data Z ε now x n l b cs xu f lo hi ks p9 (C::S) h): GR N B g a p q r aQ data Z ε now x n l b cs xu f lo hi ks p9 S h:=by
 obtain⟨ah,I,a2,s|⟨i,kl,kr,eV,eB,xl,xr,D,b1,b2,b3,b4,s⟩⟩:=h1
 .exact⟨ah,I,a2,.inl (s.del 3)⟩
 .exact⟨ah,I,a2,.inr ⟨i,kl,kr,eV,eB,xl,xr,D,b1,b2,b3,b4,s.del 5⟩⟩
theorem TW (hT:W told)(hB:B<=2000)(hN:N<=65536)(b_:EI N B ε)(hw:NW N now)(hx:Bi N R ot Z root L A (pgG now ε) M t f l lo hi eL eR pO ks)(Mg:∀j,i=j+1->∃kl eV,Eg Z (pgG now ε) l lo hi ks j kl kk eV cs)(c9:i<ks.length)(ih:DO told N B g a p q r aQ root data R ot Z A L m)(si:t.length<m)(Eb:GN.length=4)
 (s:Sat h (GA g a p q r data aQ now ε::aW x kk.pg l (pgG now ε kk.pg) cs::aW xu f (l+1) (pgG now ε f) (bI ks)::pt p6 (.cells 2 [.ptr xu 0,.int .i64 (i:Int)] false)::pt p9 (.cells 4 GN false)::wyA w ((eT t++[(xu,ui)])++[(x,xi)])::nodsA (pgG now ε) (l+2) t::S))
 (hE:Has E [(0,.ptr g 0),(1,w),(5,.ptr x 0),(6,.ptr p6 0),(9,.ptr p9 0),(67,s8),(68,.int .i64 ((1:Nat):Int))])
 (I:∀E' h' v,Has E' [(4,v)]->uJ N B g a p q r aQ root data R ot Z A L ε now (eL++ks.flatMap (·.es)++eR) (now.length+4*t.length+2*L+8) S v h'->Q .ret E' h')
 (h0:i=0->∀E' h',Has E' [(0,.ptr g 0),(5,.ptr x 0),(9,.ptr p9 0)]->Sat h' (GA g a p q r data aQ now ε::aW x kk.pg l (pgG now ε kk.pg) cs::aW xu f (l+1) (pgG now ε f) (bI ks)::pt p9 (.cells 4 GN false)::S)->Q (.exit 0) E' h')
 (hq:∀E' h',Has E' [(0,.ptr g 0),(5,.ptr x 0),(9,.ptr p9 0)]->GR N B g a p q r aQ data Z ε now x kk.pg l (pgG now ε kk.pg) cs xu f lo hi ks p9 S h'->Q (.exit 0) E' h'): WP ⟨Tryz.prog,told⟩ 131 (.loop CL) E h Q:=by
 have xx:=hx.pf.fits;rw[dI] at xx;cases i with
 |zero =>
  have s:=s.ae [3,2];refine OQ (k:=1) hT c9 (by omega) (.inr ⟨U,U⟩) s hE λE1 h1 Gx s=>OR Gx λE2 zR=>h0 U E2 h1 zR ?_;have s:=s.ae [2,2,1,1];exact((s.del 6).del 5).del 4
 |succ j =>
  obtain⟨kl,eV,hp⟩:=Mg j U;refine ZZ hT hB hN b_ hw hx hp ih si Eb s hE I λE' h' y ij hJ nY jZ dY s=>hq E' h' dY ⟨ij,nY,jZ,.inr ⟨j,kl,kk,eV,cs,y,x,_,hp,hJ,.inr,λh S s => ?_,s⟩⟩;have s:=s.ae [1];exact s
theorem Z0 (hT:W told)(hB:B<=2000)(hN:N<=65536)(b_:EI N B ε)(hw:NW N now)(hx:Bi N R ot Z root L A (pgG now ε) M t f l lo hi eL eR pO ks)(hR:i+1<ks.length->∃kr eB,Eg Z (pgG now ε) l lo hi ks i kk kr cs eB)(Mg:∀j,i=j+1->∃kl eV,Eg Z (pgG now ε) l lo hi ks j kl kk eV cs)(c9:i<ks.length)(ih:DO told N B g a p q r aQ root data R ot Z A L m)(si:t.length<m)
 (s:Sat h (GA g a p q r data aQ now ε::aW x kk.pg l (pgG now ε kk.pg) cs::aW xu f (l+1) (pgG now ε f) (bI ks)::pt p6 (.cells 2 [.ptr xu 0,.int .i64 (i:Int)] false)::pt p9 (.cells 4 [.cf,.int .i64 0,.cf,.cf] false)::wyA w ((eT t++[(xu,ui)])++[(x,xi)])::nodsA (pgG now ε) (l+2) t::S))
 (hE:Has E [(0,.ptr g 0),(1,w),(5,.ptr x 0),(6,.ptr p6 0),(9,.ptr p9 0),(67,s8),(68,.int .i64 ((0:Nat):Int))])
 (mj:∀E' h' v,Has E' [(4,v)]->uJ N B g a p q r aQ root data R ot Z A L ε now (eL++ks.flatMap (·.es)++eR) (now.length+4*t.length+2*L+8) S v h'->Q .ret E' h')
 (hq:∀E' h',Has E' [(0,.ptr g 0),(5,.ptr x 0),(9,.ptr p9 0)]->GR N B g a p q r aQ data Z ε now x kk.pg l (pgG now ε kk.pg) cs xu f lo hi ks p9 S h'->Q (.exit 0) E' h'): WP ⟨Tryz.prog,told⟩ 131 (.loop CL) E h Q:=by
 have xx:=hx.pf.fits;rw[dI] at xx;by_cases hr:i+1<ks.length
 .obtain⟨kr,eB,hp⟩:=hR hr;refine WL hT hB hN b_ hw hx hp ih si U s hE mj λE1 h1 y dz hJ kD ej Gx s => ?_;have gV:pgG now dz=pgG now ε:=gI ej;rw[<-gV] at s hx Mg hp hq;refine TW (S:=aW y kr.pg l (pgG now dz kr.pg) eB::S) hT hB hN kD hw hx Mg c9 ih si U s Gx (λE' h' v I hr=>mj E' h' v I (hr.pre ej).del) (λ_ E' h' I s=>hq E' h' I (.pre ej ⟨dz,kD,Sm.refl N dz,.inr ⟨i,kk,kr,cs,eB,x,y,aW y kr.pg l (pgG now dz kr.pg) eB,hp,hJ,.inl,λh S s=>s,?_⟩⟩)) λE' h' I he=>hq E' h' I (he.pre ej).del;have s:=s.ae [0,0,2,0,0];exact s
 .have s:=s.ae [3,2];refine OQ (k:=0) hT c9 (by omega) (.inl ⟨U,by omega⟩) s hE λE1 h1 Gx s => ?_;have s:=s.ae [2,2,1,0];refine TW hT hB hN b_ hw hx Mg c9 ih si U s Gx mj (λ_ E' h' I s=>hq E' h' I ⟨ε,b_,Sm.refl N ε,.inl (s.del 2)⟩) hq
theorem abX (hT:W told)(hB:B<=2000)(hN:N<=65536)(hw:NW N now)(hx:Bi N R ot Z root L A (pgG now ε) M t f l lo hi eL eR pO ks)(eO:∃z,qv N root R ot (z::Z) A L (pgG now ε) (pgG now ε) (eL++ks.flatMap (·.es)++eR))(pZ:now.length+3<=nl)(he:GR N B g a p q r aQ data Z ε now x n l b cs xu f lo hi ks p9 S h)(hE:Has E [(0,.ptr g 0),(5,.ptr x 0),(9,.ptr p9 0)])
 (mj:∀E' h' v,Has E' [(4,v)]->uJ N B g a p q r aQ root data R ot Z A L ε now (eL++ks.flatMap (·.es)++eR) nl S v h'->Q .ret E' h'): WP ⟨Tryz.prog,told⟩ 131 mdT E h Q:=by
 obtain⟨dz,kD,ej,s|⟨i,kl,kr,eV,eB,xl,xr,D,hp,hJ,WJ,WK,s⟩⟩:=he
 .have I:pgG now dz=pgG now ε:=gI ej;rw[<-I] at eO;exact abW kD hw eO (by omega) s ⟨hE.2.1,hE.2.2.1,aa⟩ λE' h' v dY hr=>mj E' h' v dY (hr.pre ej)
 .have I:pgG now dz=pgG now ε:=gI ej;rw[<-I] at eO hx hp s;exact WH hT hB hN kD hw hx hp eO pZ hJ WJ (λ{h S} s=>by have:=WK h S s;rw[<-I] at this;exact this) s hE λE' h' v dY hr=>mj E' h' v dY (hr.pre ej)
end
section
variable {told:cu} {p:Nat}
set_option maxHeartbeats 1000000 in
theorem Z1 (hT:W told)(hB:B<=2000)(hN:N<=65536): ∀m,DO told N B g a p q r aQ root data R ot Z A L m:=by
 intro m;induction m with
 |zero=>intro fx l x n i lo hi eL eR pO cs es ps w ε now M h S hm;exact absurd hm (vG _)
 |succ m ih =>
  intro fx l x n i lo hi eL eR pO cs es ps w ε now M h S hm b_ hw gD kW nM jM eA hL LW hA s;have oE:=kW.mz n (by simp);have uG:(eT fx).length=fx.length:=by rw[eT,ju,cj]
  have l_:(eT fx++[(x,i)]).length=fx.length+1:=by rw[aN,uG];rfl
  have s:=s.ae [1];obtain⟨id,off,e1,e2,_⟩:=JS (P:=Tryz.prog) (j:=fx.length) (x:=x) (i:=i) eS lR (by rw[iz (by omega),uG,gF];rfl) s;have AU:=CF (P:=Tryz.prog) s eS;rw[l_] at AU;refine Call.of_wp (hT.free _ U) Tryz.func72 U U (zK 8 U (zo U (aC U U U AU) (zo U (aq (r:=.int .i64 (fx.length:Int)) U U (by rw[show((fx.length:Nat):Int)=((fx.length+1:Nat):Int)-1 by omega];exact dM ak)) ?_)));refine zo U (bM (r:=.ptr id off) U U e1) (zf U (jx _ _) (zl U (e2 _ fH) (zk 6 U (zo U (aC U U U AU) ?_))));cases fx with
  |nil =>
   obtain⟨rfl,rfl,rfl,rfl,rfl,rfl,rfl⟩:=nM;obtain⟨Jf,hA2⟩:=hA;refine zB U cS (by simp) ?_;have s:=s.ae [1,1];refine zk 6 U (zc U (Wy (ot:=ot) (Z:=Z) (A:=A) (es:=es) hT hB hN LW b_ hw gD kW jM eA Jf hA2 s) ?_);rintro v h ⟨dz,n_,rfl,a1,a2,a3,a4,a5,s⟩;exact zk 2 U (WP.ret ⟨aa,_,U,dz,n_,0,U,a1,a2,a3,by simp only[bY];omega,s.skip 2,by simpa using a5.more⟩)
  |cons e t =>
   refine zC U cS (by simp;omega) ?_;have Ig:(eT t).length=t.length:=by rw[eT,ju,cj]
   have aeB:eT (e::t)++[(x,i)]=(eT t++[(e.1,e.2.i)])++[(x,i)]:=by rw[ry]
   have sJ:(eT (e::t)++[(x,i)])[t.length]?=some (e.1,e.2.i):=by
    rw[ry,dO,iz (by omega),Ig,gF];rfl
   obtain⟨r8,oX,y1,_,y3⟩:=JS (P:=Tryz.prog) eS lR sJ s;have cq:(e::t).length=t.length+1:=rfl;have hmt:t.length<m:=by rw[cq] at hm;omega
   refine zk 7 U (zo U (aC U U U AU) (zo U (aq (r:=.int .i64 (t.length:Int)) U U (by rw[show((t.length:Nat):Int)=(((e::t).length+1:Nat):Int)-2 by rw[cq];omega];exact dM ak)) ?_));refine zo U (bM (r:=.ptr r8 oX) U U y1) (zl U (y3 HG) ?_);obtain⟨fZ,eN,m9,jh,iW,ks,kk,p1,p2,p3,p4,rfl,rfl,rfl,p8,rfl,rfl,Ge,D7,p13,p14,p15⟩:=gW.pop nM es ps;have hx:Bi N R ot Z root L A (pgG now ε) M t e.2.pg l fZ eN m9 jh iW ks:=⟨gD,kW.perm (p15.append_right ot),p1,p8,D7,p13,by rw[cq] at hL;omega,LW,hA⟩;rw[p14];obtain⟨n1,n2,n3,n4⟩:=hx.nd;have xx:=hx.pf.fits;have c9:=(List.getElem?_eq_some_iff.1 p4).1;have s:=s.ae [3];have s:=vA.1 s;rw[<-p2,aeB] at s;have s:=s.ae [4];obtain⟨bv,cv,us,s⟩:=aT.1 s;refine au.cg s U U U (cm Pz) (λp6 h s => ?_);refine zS U (s.gX (j:=0) U lR U U) (λh s => ?_);refine zk 6 U (zY s 1 cM gu U (zo U (aC U U U (gR (P:=Tryz.prog) aO s.drop)) ?_));by_cases hc0:cs.length=0
   .obtain rfl:cs=[]:=iK hc0;obtain⟨Xg,tc⟩:kk.es=[]/\kk.ps=[]:=by
     rcases jM with jM|⟨_,_,q1,q2⟩
     .cases l with
      |zero=>obtain⟨q1,_,q2⟩:=jM;exact⟨List.map_eq_nil_iff.1 q1.symm,q2⟩
      |succ l =>
       obtain⟨k2,q1,q2,_⟩:=jM;exact absurd (List.map_eq_nil_iff.1 q1.symm) q2.ne
     .exact⟨q1,q2⟩
    refine zB U cS (by simp) ?_;have s:=s.ae [8];have hkm:=k9 p4 (m:=kk.pg) a_;have kK:((iW++e.2.pg::ks.flatMap cW)++ot).Perm (kk.pg::((iW++e.2.pg::ks.flatMap cW)++ot).erase kk.pg):=List.perm_cons_erase (fA _ (jt _ (bw _ hkm)));refine zk 8 U (zY s 2 iB bT U (zc U (EY hT hB b_ hw gD hx.tr kK s) ?_));rintro v h ⟨dz,n_,M1,rfl,a1,a2,a3,a4,a5,a6,a7,s⟩;have s:=s.ae [0,5];refine zk 5 U (zC U aE (U) (zk 6 U (zY s 2 jx fH U (zm U (zY s 2 sH bT U (zc U (Ed hT hB a1 a3 (n4 _ a_).2 hx.pf (by rw[dI];exact c9) (TS) s) ?_))))));rintro v h ⟨ij,bU,rfl,b1,b2,b3,b4,s⟩;have j3:∀m:Int,pgG (cD (e.2.pg:Int) bU n_) ij m=if (e.2.pg:Int)=m then bU else pgG n_ dz m:=λm=>by rw[eY,gI b2]
    have Wl:=gy (i:=(e.2.pg:Int)) (b:=bU) (now:=n_);generalize cD (e.2.pg:Int) bU n_=I at s j3 b3 Wl;have hfp:pgG I ij e.2.pg=bU:=by rw[j3,ay U]
    have CK:∀m:Nat,2<=m->m≠e.2.pg->pgG I ij m=pgG now ε m:=λm q1 q2=>by rw[j3,ai (by omega),a7 _ (by omega)]
    obtain⟨m_,u1,u2⟩:=abU (P':=pgG I ij) hx.sep p4 Xg tc Ge n1 (λm q1 q2=>CK m (n4 m (bw _ q2)).1 q1);have xK:∀m:Nat,m∈iW->pgG I ij m=pgG now ε m:=λm hm=>CK m (n2 m hm).2.2 (n2 m hm).1;have uI:∀m:Nat,m∈ot->pgG I ij m=pgG now ε m:=λm hm=>CK m (n3 m hm).2.2 (n3 m hm).1;obtain⟨w1,w2⟩:=hx.up (P':=pgG I ij) xK (Yq:=(bI ks).eraseIdx e.2.i) TT;have tV:jo N M1 ((iW++e.2.pg::m_)++ot):=a6.perm (by
     refine(kK.symm.trans ?_).cons_inv;rw[lX] at u2 ⊢;intro z;have:=u2 z;simp only[lY,lZ] at this ⊢;omega)
    have h2f:=(n4 _ a_).1;have NR:((eT t++[(e.1,e.2.i)])++[(x,i)]:List (Nat×Nat)).length=t.length+2:=by simp[eT]
    have QF:((eT t++[(e.1,e.2.i)])++[(x,i)]).take (t.length+1)=eT t++[(e.1,e.2.i)]:=ga (by simp[eT]);refine zk 5 U (zC U aE (U) (zk 8 U (zo U (aC (r:=.int .i64 ((t.length+2:Nat):Int)) U U U (by rw[<-NR];exact s.AR (j:=8) U eS)) ?_)));refine zo U (aq (r:=.int .i64 ((t.length+1:Nat):Int)) U U (by rw[show((t.length+1:Nat):Int)=((t.length+2:Nat):Int)-1 by omega];exact dM ak)) ?_;refine zo U (bK (p:=none) (q:=some (.int .i64 ((t.length+1:Nat):Int))) (m:=none) (p':=none) (q':=some (t.length+1)) (m':=none) U U U U U (by rw[bN];rfl) U (s.AS (j:=8) U (b:=t.length+1) eS lR (by omega))) ?_;have s:=LO (b:=t.length+1) (by omega) (by omega) (s.ae [8]);rw[QF,<-uf (P':=pgG I ij) (fx:=t) λe' su=>xK e'.2.pg (p1.Yc e'.2 (nj su))] at s;rw[<-hfp] at s;have s:=s.ae [1,0,0,5];refine zc U (ih t (l+1) e.1 e.2.pg e.2.i fZ eN m9 jh iW _ _ m_ _ ij I M1 h _ hmt b1 b3 (a5.frame (by rw[j3,ai (by omega)]) (by rw[j3,ai (by omega)])) tV w1 u1 (by rw[hfp];exact b4) hx.len LW w2 s) ?_;rintro v0 h ⟨kQ,Mb,z,rfl,c1,c2,c3,c4,s,c5⟩;exact zk 2 U (WP.ret ⟨aa,_,U,kQ,Mb,z,U,c1,a2.trans (b2.trans c2),c3,by rw[cq];omega,s.skip 5,c5.base uI⟩)
   .skip;refine zC U cS (decide_eq_false (by omega)) ?_;have fb:cs≠[]:=λq=>hc0 (by rw[q];rfl);have jM:Nv (cU Z) (pgG now ε) l (loK fZ ks e.2.i) (cQ eN ks e.2.i) cs kk.es kk.ps:=jM.resolve_right λq=>fb q.2.1;have eO:∃z,qv N root R ot (z::Z) A L (pgG now ε) (pgG now ε) (m9++ks.flatMap (·.es)++jh):=by
     obtain⟨z,GI,cs',q1,q2,q3,q4⟩:=ZY nM jM fb eA;have:=hx.lam _ q2;exact⟨z,M,L,cs',GI,gD,kW.perm (q3.symm.append_right ot),by rw[<-p14];exact q1,q2,⟨aH _,by omega⟩,λ_ _=>U⟩
    have fin:∀ {E':List (Nat×V)} {h':H} {v:V},Has E' [(4,v)]->uJ N B g a p q r aQ root data R ot Z A L ε now (m9++ks.flatMap (·.es)++jh) (now.length+4*t.length+2*L+8) S v h'->True/\∃v,resLE Tryz.prog E' h' [.tmp 4]=some v/\uJ N B g a p q r aQ root data R ot Z A L ε now (m9++ks.flatMap (·.es)++jh) (now.length+4*(e::t).length+2*L+4) S v h':=λhE hr=>⟨aa,_,xW hE.1,by rw[cq,show now.length+4*(t.length+1)+2*L+4=now.length+4*t.length+2*L+8 by omega];exact hr⟩;have p4:ks[e.2.i]?=some kk:=p4;have c9:e.2.i<ks.length:=c9;have Ge:∀j k,ks[j]?=some k->j≠e.2.i->Kd (cU Z) (pgG now ε) l (loK fZ ks j) (cQ eN ks j) k:=Ge;have hR:e.2.i+1<ks.length->∃kr eB,Eg Z (pgG now ε) l fZ eN ks e.2.i kk kr cs eB:=λq=>by
     obtain⟨eB,g1,g2,g3⟩:=Ge (e.2.i+1) _ (aF q) (by omega);exact⟨_,eB,p4,aF q,λj k hk h1 _=>Ge j k hk h1,jM,g1,fb,g2.ne,eA,g3⟩
    have Mg:∀j,e.2.i=j+1->∃kl eV,Eg Z (pgG now ε) l fZ eN ks j kl kk eV cs:=λj q=>by
     obtain⟨kl,qu⟩:∃kl,ks[j]?=some kl:=⟨_,aF (by omega)⟩;obtain⟨eV,g1,g2,g3⟩:=Ge j kl qu (by omega);exact⟨kl,eV,qu,by rw[<-q];exact p4,λj2 k hk h1 h2=>Ge j2 k hk (by omega),g1,by rw[<-q];exact jM,g2.ne,fb,g3,eA⟩
    refine zk 5 U ?_;refine au.cg s U U U (cm vl) (λp9 h s => ?_);refine zk 4 U (zo U (cI (r:=s8) U (by rw[acN];rfl)) ?_);have s:=s.ae [2,2,2,2];have s:Sat h (aW x kk.pg l (pgG now ε kk.pg) cs::_):=aT.2 ⟨bv,cv,us,s⟩;have s:=s.ae [6,0,2,1,0,1,0];exact zk 2 U (WP.block (Z0 (ui:=e.2.i) (xi:=i) (w:=w) hT hB hN b_ hw hx hR Mg c9 ih hmt s ⟨U,U,U,U,U,U,U,aa⟩ (λE' h' v dY hr=>fin dY hr) λE' h' dY he=>(WP.has dY (abX (nl:=now.length+4*t.length+2*L+8) hT hB hN hw hx eO (by omega) he ⟨U,U,U,aa⟩ λE' h' v dY hr=>fin dY hr))))
end
section
theorem xM (h:∀e∈es,e.1≠k): kO es k=es:=List.filter_eq_self.2 λe he=>by simp[h e he]
theorem Z2 (h:(es.map (·.1)).Nodup)(he:es[i]?=some e)(I:e.1=k): kO es k=es.eraseIdx i:=by
 unfold kO;induction es generalizing i with
 |nil=>simp at he
 |cons a t ih =>
  simp only[hU,nC] at h;cases i with
  |zero =>
   simp only[j9,aA] at he;subst he;rw[List.filter_cons_of_neg (by simp[I]),List.eraseIdx_cons_zero];exact xM λd hd q=>h.1 (by rw[I,<-q];exact nj hd)
  |succ i =>
   simp only[oI] at he;have fb:a.1≠k:=λq=>h.1 (by rw[q,<-I];exact nj (aI he));rw[List.filter_cons_of_pos (by simp[fb]),List.eraseIdx_cons_succ,ih h.2 he]
theorem WM (I:∀e∈eL,e.1<k)(h2:∀e∈eR,k<e.1): kO (eL++es++eR) k=eL++kO es k++eR:=by
 unfold kO;rw[oJ,oJ];congr 1
 .congr 1;exact xM λe he q=>absurd (q ▸ I e he) (jQ _)
 .exact xM λe he q=>absurd (q ▸ h2 e he) (jQ _)
theorem Z3 (h:fI es k=none): ∀e∈es,e.1≠k:=λe he q=>by
 have:=List.find?_eq_none.1 (Option.map_eq_none_iff.1 h) e he;exact this (by simpa using q)
theorem js.era (h:js lo hi es)(i:Nat): js lo hi (es.eraseIdx i):=⟨λe he=>h.bd e (yn he),λe he=>h.sz e (yn he),h.jY.sublist (List.eraseIdx_sublist _ _)⟩
end
section
variable {told:cu} {p:Nat} {k:List Nat} {h:H}
theorem WN (hT:WB told)(hB:B<=2000)(hN:N<=2999)(b_:EI N B ε)(hw:NW N now)(gD:fT N R M (pgG now ε))(kW:jo N M ((root::ps)++ot))(jM:Nv (cU Z) (pgG now ε) L [] none cs es ps)(hp:bH (pgG now ε root) 204 0 L cs)(hL:L<=60)(hA:lam L cs<=A)(hX:cy X (cE kv k))(hk:1<=k.length/\k.length<=96)
 (s:Sat h (GA g a p q r data aQ now ε::X::S)):
  Call ⟨Tryz.prog,told⟩ 21 [.ptr g 0,.int .i64 (root:Int),kv] h λv h'=>∃ah aJ ov z,v=.aV [ov,.bool (fI es k).isSome,.int .i64 0]/\EI N B ah/\Sm N ε ah/\NW N aJ/\aJ.length<=now.length+6*L+5/\Sat h' (GA g a p q r data aQ aJ ah::yh ov (fI es k)::X::S)/\qv N root R ot (z::Z) (A+104) L (pgG now ε) (pgG aJ ah) (kO es k):=by
 have hW:=hT.w;have s_:=kW.mz root (by simp);refine Call.of_wp (hW.free _ U) Tryz.func21 U U (zK 10 U (zc U (EJ hW (s.ae [1]) hX) ?_));rintro v h' ⟨rfl,rfl⟩;rw[dZ hk];refine zh U (eo U U) (U) (zk 6 U (zo U (oz U (mki_of jH U)) (zk 2 U (zc U (JQ hT (EH hW hB hw) (by omega) (by omega) hX jM hp b_ U s_.2 (λm hm=>(kW.mz m (by simp[hm])).2) s) ?_))));rintro v h ⟨w,x,n,lo,hi,eL,eR,pO,es',fx,dz,rfl,q1,q2,q3,q4,q5,q6,q7,q8,q9,o9,s⟩;have uG:(eT fx).length=L:=by rw[eT,ju,cj,o9]
 have l_:(eT fx++[(x,0)]).length=L+1:=by rw[aN,uG];rfl
 obtain⟨id,off,e1,e2,_⟩:=wQ (P:=Tryz.prog) (j:=L) (x:=x) (i:=0) eS lR (by rw[iz (by omega),uG,gF];rfl) s;have Wo:es'.length<=512:=by have:=q3.fits;rw[cj] at this;omega
 refine zk 10 U (zC U aE (U) (zk 7 U (zo U (aC U U U (s.fq (j:=0) (n:=L+1) U (by rw[lz,l_]) (by decide) eS)) ?_)));refine zo U (aq (r:=.int .i64 (L:Int)) U U (by rw[show((L:Nat):Int)=((L+1:Nat):Int)-1 by omega];exact dM ak)) ?_;refine zo U (bM (r:=.ptr id off) U U e1) (zf U (jx _ _) (zl U (e2 _ fH) (zk 6 U (zc U (AP hT hX q2 Wo (s.ae [1,3])) ?_))));rintro v h ⟨i,rfl,hl,s⟩;obtain⟨Je,L0⟩:=q1.side q7;have nJ:fI es k=fI es' k:=by rw[<-q8];exact EO Je L0
 have qt:kO es k=eL++kO es' k++eR:=by rw[<-q8];exact WM Je L0
 have gV:pgG now dz=pgG now ε:=gI q6;refine zk 10 U ?_;cases hq:sameE es' k i with
 |false =>
  have ho:=hl.none q2 hq;refine zt U (eo U U) (U) (zk 8 U (WP.ret ⟨aa,_,U,?_⟩));have s:=((s.ae [4,1]).del 4 |>.del 3 |>.del 2).ir (φ:=V.aZ=.aZ) U;have s:Sat h (yh .aZ none::_):=s;have s:=s.ae [1];refine⟨dz,now,.aZ,0,?_,q5,q6,hw,by omega,?_,M,L,cs,ps,by rw[gV];exact gD,kW,by rw[gV,qt,xM (Z3 ho),q8];exact jM.mono λ_ _ h=>h.more,by rw[gV];exact hp,⟨aH _,by omega⟩,λ_ _=>by rw[gV]⟩
  .rw[nJ,ho];rfl
  .rw[nJ,ho];exact s
 |true =>
  obtain⟨e,he,xB⟩:=EP hq;have ho:=DJ q2.nodup he xB;obtain⟨c1,c2,c3⟩:=vV q2 he;have fc:=(List.getElem?_eq_some_iff.1 he).1;refine zh U (eo U U) (U) (zk 7 U (zc U (DH hW c1 c2 c3 s) ?_));rintro I9 h s;rw[DL] at s;refine zc U (r_ hW s (bC _ _) (by have:=(q2.sz e (aI he)).2.2;omega)) ?_;intro ov h s;have s:=(s.del 1).ae [1];obtain⟨bv,cv,us,s⟩:=aT.1 s;have ou:=kj (s.ae [3]);rw[cj] at ou;have s:=s.ae [1];refine zk 6 U (zY s 1 nP b8 U (zm U (zc U (L_ hW (i:=i) s (bC _ _) q3 (by rw[cj];exact fc) (λc hc=>by obtain⟨e,_,rfl⟩:=List.mem_map.1 hc;simp[eE])) ?_)));rintro v h ⟨u,b',rfl,uH,s⟩;have s:=s.ae [9,0,1];refine zk 10 U (zC U aE (U) ?_);have s:=(s.ae [1]).fh.ae [1];have oE:=kW.perm (q9.symm.append_right ot);have qp:=oE.mz n (by simp);refine zk 9 U (zY s 2 iB bT U (zm U (zc U (wP hW hB q5 hw qp.2 s (bC _ _) uH.good) ?_)));rintro v0 h ⟨qP,rfl,w1,w2,w3,s⟩;have j3:∀q:Int,pgG (cD (n:Int) b' now) qP q=if (n:Int)=q then b' else pgG now ε q:=λq=>by rw[eY,gI w2,gV]
  have pZ:=gy (i:=(n:Int)) (b:=b') (now:=now);generalize cD (n:Int) b' now=I at s j3 w3 pZ;refine zk 5 U (zC U aE (U) ?_);have s:=s.ae [4];refine zk 10 U (zY s 3 cM gu U (zc U (mT hW s (cR _ _ _)) ?_));intro cl h s;have s:=OO i (s.ae [6]);have s:=s.ae [1];refine zk 2 U (zo U (aq (r:=.int .i64 ((i+1:Nat):Int)) U U (by rw[show((i+1:Nat):Int)=(i:Int)+1 by omega];exact aM ak)) ?_);refine zc U (ON hW s (by omega) (by omega)) ?_;intro dl h s;have xC:=(s.aD (k:=4) U (bC _ _)).cells;have GP:=ko (s.jm (j:=0) U (cR _ _ _));refine zn U (zf U (nP _ _) (zS U (s.kz (k:=5) U dQ U (by decide) xC.1 xC.2) ?_));intro h s;refine zn U (zf U (cM _ _) (zS U (s.kz (k:=5) U U1 U (by decide) GP.1 GP.2.1) ?_));intro h s;have Xh:(es'.map eE).eraseIdx i=(es'.eraseIdx i).map eE:=by rw[nh,nh,rG,rI,tD]
  rw[Xh] at s uH;have s:=s.ae [5,4,0,0];have hb4:pgG I qP n=b':=by rw[j3,ay U]
  have s:Sat h (aW x n 0 b' ((es'.eraseIdx i).map eE)::_):=aT.2 ⟨u,dl,_,s⟩;rw[<-hb4] at s uH;have fE:=oE.nd;rw[dO,mE] at fE;have yg:=fE.2.1;rw[fK,nC] at yg;have Yr:∀m:Nat,m≠n->pgG I qP m=pgG now ε m:=λm hm=>by rw[j3,ai (by omega)]
  have xK:∀m:Nat,m∈pO->pgG I qP m=pgG now ε m:=λm hm=>Yr m λe=>fE.2.2 m hm n (by simp) e;have uI:∀m:Nat,m∈ot->pgG I qP m=pgG now ε m:=λm hm=>Yr m λe=>yg.1 (by simpa using e ▸ hm);have s:=Qv (by rw[aN];exact Nat.le_add_left _ _) (s.ae [6]);have s:=((s.ae [3,0,0,4]).del 5).del 4;rw[<-uf (P':=pgG I qP) (fx:=fx) λe' su=>xK e'.2.pg (q1.Yc e'.2 (nj su))] at s;have hmd:WD L root (pgG I qP) (A+104) ((es'.eraseIdx i).map eE) fx:=by
   cases fx with
   |nil =>
    have o9:L=0:=o9.symm;subst o9;unfold lam at hA;rw[ay U] at hA;refine⟨?_,λq=>by omega⟩;unfold lam;rw[ay U];omega
   |cons e t =>
    intro d hd;rcases q1.rt with⟨q,_⟩|⟨_,hr⟩
    .cases q
    .rw[xK root hr] at hd;rw[hd.uniq hp];omega
  refine zk 6 U (zc U (Z1 hW hB (by omega) (fx.length+1) fx 0 x n 0 lo hi eL eR pO _ (es'.eraseIdx i) [] w qP I M h _ (tu _) w1 w3 (gD.frame (Yr 0 (by omega)) (Yr 1 (by omega))) oE (q1.frame xK) (.inl ⟨U,q2.era i,U⟩) uH (by omega) hL hmd s) ?_);rintro v0 h ⟨Jz,CH,z,rfl,c1,c2,c3,c4,s,c5⟩;refine zk 5 U (zC U aE (U) (zk 10 U (WP.ret ⟨aa,_,U,?_⟩)));refine⟨Jz,CH,ov,z,?_,c1,q6.trans (w2.trans c2),c3,by omega,?_,?_⟩
  .rw[nJ,ho];rfl
  .rw[nJ,ho];exact s
  .rw[qt,Z2 q2.nodup he xB];exact c5.base uI
end
structure WS (told:cu): Prop where
 w:W told
 fmt:told 32=some (qM Tryz.prog 32 (LG 32))
section
variable {told:cu} {h:H} {p:Nat} {v x uv:V} {Rt:List V} {w7:List Bool} {l L:List Nat} {A:bk->aG}
theorem QG (hT:WS told){m:Nat}(hB:B<=800)(I:EI N B ε)(hN:4<=N)(Gr:N<=2999)(hz:(pgA ε 0).length=512)(hg:cJ (pgA ε 0)=false)(hd:xJ K m ε)(hf:K+1068<=m)(s:Sat h (SA a p q r .cf data aQ ε::S)):
  Call ⟨Tryz.prog,told⟩ 32 [.ptr a 0] h λv h'=>v=.int .i64 0/\∃ah,EI N (B+2) ah/\fT N (List.replicate 64 0) Bg (pgA ah)/\xJ (K+1068) m ah/\Sat h' (SA a p q r .cf data aQ ah::S)/\GDn N B 1 ε ah :=
 Call.defer hT.fmt Lr U (TA hB I hN Gr hz hg hd hf s)
theorem Ih (hT:WS told){m f:Nat}(hN:4<=n)(Gr:n<=2999)(hm:m<=16777216)(hf:1068<=m)(h4:1<=f)(h5:f<=1024)(s:Sat h S):
  Call ⟨Tryz.prog,told⟩ 42 [.int .i64 (n:Int),.int .i64 (m:Int),.int .i64 (f:Int)] h λv h'=>∃p a q r ε,v=.ptr a 0/\EI n 3 ε/\fT n (List.replicate 64 0) Bg (pgA ε)/\xJ 1068 m ε/\Sat h' (SA a p q r .cf [] 0 ε::S):=by
 have I:cJ (List.replicate 512 0)=false:=by decide +kernel
 refine Call.of_wp (hT.w.free _ U) Tryz.func42 U U (zK 9 U (zc U (P_ (n:=n) (m:=m) (f:=f) hT.w s (by omega) (by omega) hm h4 h5) ?_));rintro v h ⟨p,a,q,r,rfl,s⟩;have s:Sat h (SA a p q r .cf [] 0 (fresh n m f)::S):=dx.2 s;refine zk 10 U (zC U (xp zu) (U) (zk 2 U (zc U (QG (K:=0) (m:=m) hT (by decide) (EI.fresh (by omega) hm h4 h5) hN Gr (by rw[I_];exact f_) (by rw[I_];exact I) ⟨aH _,U⟩ (by omega) s) ?_)));rintro v h ⟨rfl,ah,uX,hp,hd,s,_⟩;rw[eW] at hd;exact zC U aE (U) (zk 9 U (WP.ret ⟨aa,_,U,p,a,q,r,ah,U,uX,hp,hd,s⟩))
theorem xN (I:W told)(s:Sat h (SA a p q r .cf data aQ ε::S)): Call ⟨Tryz.prog,told⟩ 13 [.ptr a 0] h λv h'=>∃g,v=.ptr g 0/\Sat h' (GA g a p q r data aQ [] ε::S):=by
 have s:=dx.1 s;have s:Sat h (gM a p q r .cf data aQ::gE r p q ε.1::dF q p ε.2.1::bX p ε.2.2::S):=s;refine Call.of_wp (I.free _ U) Tryz.func13 U U (zK 7 U (zc U (IU I s) ?_));rintro v h ⟨g,rfl,s⟩;exact zk 10 U (zC U aE (U) (zk 8 U (WP.ret ⟨aa,_,U,g,U,dx.2 s⟩)))
end
section
variable {bj tx p:Nat} {ah:bk} {e:Int} {cl:Bool}
theorem uC.or7 (hr:uC ε now kd tx 0 0 [] 0 bj e cl ah)(I:EI N B ε)(hB:B<=4000)(hw:NW N now)(hN:N<=2999)(hl:now.length<=2000)(h1:1<=kd)(h2:kd<=7)(F9:tx<16384):
  (cl=false/\e=7)\/(cl=true/\e=0/\EI N (B+2) ah/\∀m,pgA ah m=match lookL m now with|some b=>e_ b bj|none=>pgA ε m):=by
 have FC:∀n∈gK now,0<=n/\n<N:=λn hq=>hw.keys n (uB.1 hq);have Qx:=I.done hB hw (by omega) (by omega) hr;rcases Qx with⟨gn,he,_⟩|⟨gn,he,k1,k2⟩
 .refine .inl ⟨gn,?_⟩;rcases he with he|he
  .exact he
  .exfalso;cases hr with
   |arg hh=>omega
   |dead _ _ _ hd=>rw[I.ec.dk.alive] at hd;cases hd
   |tf e c ah _ _ _ _ hc Gf=>exact absurd (hc.ec I.ec I.ok FC).2.2 Gf
   |app c ij _ _ _ _ hc Gf =>
    have KR:=ES (kd:=kd) hc hw hl (by omega) F9;grind[nW]
   |put c ij e kQ _ _ _ _ hc ha hp=>cases gn
 .exact .inr ⟨gn,he,k1,k2⟩
theorem bH.done {i:Int}{k:Nat}(hd:∀m,pgA ah m=match lookL m now with|.some b=>e_ b bj|.none=>pgA ε m)(I:bH (pgG now ε i) k link extra cs): bH (pgA ah i) k link extra cs:=by
 rw[hd];unfold pgG at I;cases hq:lookL i now with
 |none=>rw[hq] at I;exact I
 |some b =>
  rw[hq] at I;obtain⟨k1,k2,_⟩:=Cq (n:=bj) I.len;exact I.tail k2 k1
theorem Nv.H9 : ∀ {l:Nat} {lo:Ky} {hi:Option Ky} {cs:List (List Nat)} {es:List En} {ps:List Nat},Nv F P l lo hi cs es ps->(∀m∈ps,∀k x e cs,bH (P m) k x e cs->bH (P' m) k x e cs)->Nv F P' l lo hi cs es ps:=by
 intro l;induction l with
 |zero=>intro lo hi cs es ps h _;exact h
 |succ l ih =>
  intro lo hi cs es ps ⟨ks,h1,h2,h3,h4,h5⟩ hp;subst h4;refine⟨ks,h1,h2,h3,U,λi k hk => ?_⟩;obtain⟨cs',a1,a2,a3⟩:=h5 i k hk;have hm:=aI hk;have hq:∀m∈k.pg::k.ps,∀k x e cs,bH (P m) k x e cs->bH (P' m) k x e cs:=λm I=>hp m (List.mem_flatMap.2 ⟨k,hm,I⟩);exact⟨cs',ih a1 λm I=>hq m (bw _ I),a2,hq k.pg a_ _ _ _ _ a3⟩
def Bj (N root:Nat)(R ot Z:List Nat)(A:Nat)(P:Int->List Nat)(es:List En): Prop:=qv N root R ot Z A A P P es
theorem Mh : 374*L<=lam L cs/\486<=lam L cs+486*L:=by
 unfold lam;split<;>omega
theorem qv.o (h:qv N root R ot Z A Lx P0 P es): Bj N root R ot Z A P es:=by
 obtain⟨M,L,cs,ps,I,h2,h3,h4,h5,_⟩:=h;have:=(Mh (L:=L) (cs:=cs)).1;exact⟨M,L,cs,ps,I,h2,h3,h4,⟨by omega,h5.2⟩,λ_ _=>U⟩
section
theorem Bj.fresh (hs:fT N R M P)(I:jo N M (root::ot))(hp:bH (P root) 204 0 0 []): Bj N root R ot [] 486 P [] :=
 ⟨M,0,[],[],hs,I,⟨U,⟨by simp,by simp,List.Pairwise.nil⟩,U⟩,hp,⟨by decide,by decide⟩,λ_ _=>U⟩
theorem Bj.rt (h:Bj N root R ot Z A P es): root<N:=by
 obtain⟨M,L,cs,ps,h1,I,h3,h4,h5,_⟩:=h;exact(I.mz root (fA _ a_)).2
theorem Bj.bG {I:List Nat}(h2:jo N I ((root::ps)++ot))(h3:Nv (cU Z) P L [] none cs es ps): ps.length<=2*es.length+Z.length:=by
 exact(h3.bG (List.nodup_cons.1 (List.nodup_append.1 h2.nd).1).2).1
end
end
structure WT (told:cu): Prop extends WI told where
 fmt:told 32=some (qM Tryz.prog 32 (LG 32))
theorem WT.ws {told:cu}(h:WT told): WS told:=⟨h.w,h.fmt⟩
section
variable {told:cu} {h:H} {p:Nat}
theorem Ji (hT:W told)(hB:B<=4000)(I:EI N B ε)(hw:NW N now)(hN:N<=2999)(hl:now.length<=2000)(h1:1<=kd)(h2:kd<=7)(s:Sat h (GA g a p q r data aQ now ε::S)):
  Call ⟨Tryz.prog,told⟩ 18 [.ptr g 0,.agg (qq (kd:Int) 0 0 0 .aZ .aZ)] h λv h'=>∃(bj:Nat),(v=.aV [.int .u64 (bj:Int),.int .i64 7])\/∃ah,v=.aV [.int .u64 (bj:Int),.int .i64 0]/\EI N (B+2) ah/\(∀m,pgA ah m=match lookL m now with|some b=>e_ b bj|none=>pgA ε m)/\Sat h' (SA a p q r .cf data aQ ah::S):=by
 refine(Ja hT hB I hw s).mono ?_;rintro v h ⟨bj,e,cl,ah,hr,rfl,s⟩;rcases hr.or7 I (by omega) hw hN hl h1 h2 (by decide) with⟨rfl,rfl⟩|⟨rfl,rfl,k1,k2⟩
 .exact⟨bj,.inl U⟩
 .exact⟨bj,.inr ⟨ah,U,k1,k2,s.drop⟩⟩
noncomputable def grL : Code:=cX [1,1,1,1,1,1,0,1,0,0] ((Tryz.f12.body).getD .skip)
theorem Nb (hT:W told){m0:Nat}{sv:V}(hN:nt+4<=N)(hnt:nt<=20)(hB:B<=2000): ∀(j i:Nat) (rs:List Nat) (M:List Nat) (lv:V) (ε:bk) (now:List (Int×List Nat)) (h:H) (E:List (Nat×V)) (Q:Ex->List (Nat×V)->H->Prop),i+j=nt->rs.length=i->EI N B ε->NW N now->now.length<=3*i->fT N R M (pgG now ε)->jo N M rs->(∀z∈rs,bH (pgG now ε (z:Nat)) 204 0 0 [])->xJ K m0 ε ->
  Sat h (.arr 1 lv (cC rs)::GA g a p q r data aQ now ε::S)->Has E [(1,.int .i64 (nt:Int)),(7,sv),(8,.ptr g 0),(9,lv),(10,.int .i64 (i:Int))] ->
  (∀rs M lv ε now E' h',rs.length=nt->EI N B ε->NW N now->now.length<=3*nt->fT N R M (pgG now ε)->jo N M rs->(∀z∈rs,bH (pgG now ε (z:Nat)) 204 0 0 [])->xJ K m0 ε->Has E' [(7,sv),(8,.ptr g 0),(9,lv)]->Sat h' (.arr 1 lv (cC rs)::GA g a p q r data aQ now ε::S)->Q (.exit 0) E' h')->WP ⟨Tryz.prog,told⟩ 49 (.loop grL) E h Q:=by
 intro j;induction j with
 |zero =>
  intro i rs M lv ε now h E Q hi Ga b_ hw pZ gD I eA hdv s hE hq;obtain rfl:i=nt:=hi;refine WP.loop (WP.has hE (zK 5 U (zC U aK (by simp) ?_)));exact zk 2 U (WP.exit (hq rs M lv ε now _ _ Ga b_ hw pZ gD I eA hdv ⟨U,U,U,aa⟩ s))
 |succ j ih =>
  intro i rs M lv ε now h E Q hi Ga b_ hw pZ gD I eA hdv s hE hq;refine WP.loop (WP.has hE (zK 5 U (zB U aK (by simp;omega) ?_)));refine zk 4 U (WP.block (zK 3 U (zc U (Wc hT hB b_ hw gD I (s.ae [1])) ?_)));rintro v h ⟨ah,aJ,h1,h2,h3,h4,s,(⟨_,_,hn⟩|⟨z,M',rfl,z2,hzN,aeC,aeD,aeE,hpz,E0⟩)⟩
  .omega
  have s:=s.ae [1];dsimp only[aL,bringA,getA] at s;obtain⟨iv,h1',w,It,e3,e4,s2⟩:=ET (k:=z) s (by omega);refine zk 10 U (zC U aE (U) (zk 6 U (au.any U U U (OpR.of (R:=λv h'=>v=iv/\h'=h1') (iZ U e3) ⟨U,U⟩) ?_)));rintro iv hA ⟨rfl,rfl⟩;refine au.any U U U (OpR.of (R:=λv h'=>v=w/\h'=It) (jc U U e4) ⟨U,U⟩) ?_;rintro w hB' ⟨rfl,rfl⟩;refine za U (zv (zr U (zm U (zb U (by exact aM ak) ?_))));refine za U (zv ?_);refine ih (i+1) (rs++[z]) M' w ah aJ _ _ Q (by omega) (by rw[aN,Ga];rfl) h1 h3 (by omega) aeD (aeE.perm (List.perm_append_singleton _ _).symm) (λy hy => ?_) (hdv.sm h2) s2 ⟨U,U,U,U,U,aa⟩ hq;rcases List.mem_append.1 hy with hy|hy
  .have h2y:=(I.mz y hy).1;rw[E0 y (by omega) (by have:y≠z:=λq=>aeC (q ▸ hy);omega)];exact eA y hy
  .rw[List.mem_singleton.1 hy];exact hpz.f
end
section
variable {told:cu} {h:H}
theorem Jj (I:WT told)(hN:nt+4<=N)(Gr:N<=2999)(hnt:nt<=20)(s:Sat h S):
  Call ⟨Tryz.prog,told⟩ 12 [.int .i64 (N:Int),.int .i64 (nt:Int)] h λv h'=>∃p a q r lv rs M ε,v=.aV [.ptr a 0,lv,.bool true]/\rs.length=nt/\EI N 5 ε/\fT N (List.replicate 64 0) M (pgA ε)/\jo N M rs/\(∀z∈rs,bH (pgA ε (z:Nat)) 204 0 0 []) /\
   Sat h' (.arr 1 lv (cC rs)::SA a p q r .cf [] 0 ε::S):=by
 refine Call.of_wp (I.w.free _ U) Tryz.func12 U U (zK 9 U (zc U (Ih (n:=N) (m:=1048576) (f:=32) I.ws (by omega) Gr (by decide) (by decide) (by decide) (by decide) s) ?_));rintro v h ⟨p,a,q,r,ε,rfl,b_,hp,hd,s⟩;refine zk 6 U (zC U (xp zu) (U) (zk 6 U (zc U (xN I.w s) ?_)));rintro v h ⟨g,rfl,s⟩;refine zk 6 U (zC U (xp jH) (U) ?_);have s:=s.lJ (k:=1);generalize hR:List.replicate 64 0=R at hp ⊢;refine zk 12 U (WP.block ?_);have ht0:jo N Bg []:=⟨vI,by simp,λj _=>by rw[Tz];simp⟩;refine Nb I.w hN hnt (by decide) nt 0 [] Bg .aZ ε [] _ _ _ (by omega) U b_ (NW.nil N) (by simp) hp ht0 (by simp) hd s ⟨U,U,U,U,U,aa⟩ (λrs M lv dz now E' h' k1 k2 k3 k4 k5 k6 k7 Bc hE s' => ?_);have s:=s'.ae [1];refine WP.has hE (zK 3 U (zo U (cI U (vB (kd:=1))) (zc U (Jb (kd:=1) (L:=3*nt) I.w (by decide) k2 k3 k4 Gr (by omega) (by decide) (by decide) Bc (by omega) s) ?_)));rintro v h ⟨bj,ij,rfl,q1,q2,q3,s,_⟩;refine zk 11 U (zB U cS (by decide) ?_);exact zk 4 U (WP.ret ⟨aa,_,U,p,a,q,r,lv,rs,M,ij,U,k1,q1,k5.done k3 q2,k6,λz hz=>(k7 z hz).done q2,(s.del 0).ae [1,0]⟩)
end
section
variable {told:cu} {h:H} {p:Nat} {b:Nat}
theorem kP {l:List Nat}(h:l[i]?=some n): (cC l)[i]?=some (.int .i64 (n:Int)):=by rw[cC,kR,h];rfl
theorem E3 (s:Sat h S)(hb:b<256): ∃v I h2,buildSliceV Tryz.prog h 29 1 [(0,.int .u8 (b:Int))]=some (v,I)/\convV Tryz.prog I 29 29 v=none/\convB Tryz.prog I 29 29 v=some (v,h2)/\Sat h2 (.cG v [b]::S):=by
 have s1:=s.new (.cells 1 [.int .u8 (b:Int)] false);have hg:=s1.row (k:=0) U;refine⟨_,_,(h.new (.cells 1 [.int .u8 (b:Int)] false)).put h.next (some (.cells 1 (ofBytes [b]) true)),Wi (P:=Tryz.prog) (u:=.int .u8 (b:Int)) aP zt5 Xw U U U,?_,?_,?_⟩
 .simp only[convV,aP]
 .simp only[convB,aP,Tryz.underlying5,hg];rfl
 .have s2:Sat _ (pt h.next (.cells 1 (ofBytes [b]) true)::S):=s1.put (k:=0) U
  exact s2.freeze.eD λm r hm=>⟨by simpa using hb,.inr ⟨h.next,0,.exact 1,1,_,true,U,hm,U,aH _,U,aH _⟩⟩
theorem WO (hT:WI told)(hB:B<=2000)(hN:N<=2999)(I:EI N B ε)(hw:NW N now){val:Ky}(ht:Bj N root R ot Z A (pgG now ε) es)(hA:A<=22000)(hX:cy X (cE kv k))(hY:cy Y (cE vv val))(hk:1<=k.length/\k.length<=96)(Gv:val.length<=128)
 (s:Sat h (GA g a p q r data aQ now ε::X::Y::S)):
  Call ⟨Tryz.prog,told⟩ 14 [.ptr g 0,.int .i64 (root:Int),kv,vv] h λv h'=>∃ah aJ,EI N B ah/\Sm N ε ah/\NW N aJ/\aJ.length<=now.length+400/\((v=.aV [.aZ,.bool false,.int .i64 7]/\N<=2*es.length+Z.length+ot.length+A/374+4/\Sat h' (GA g a p q r data aQ aJ ah::X::Y::S)) \/
   (∃ov,v=.aV [ov,.bool (fI es k).isSome,.int .i64 0]/\Sat h' (GA g a p q r data aQ aJ ah::yh ov (fI es k)::X::Y::S)/\Bj N root R ot Z (A+104) (pgG aJ ah) (rq es k val))):=by
 obtain⟨M,L,cs,ps,h1,h2,h3,h4,h5,_⟩:=ht;have hpn:=Bj.bG h2 h3;have hL:=(Mh (L:=L) (cs:=cs)).1;refine(OK (L:=L) (cs:=cs) (ps:=ps) hT hB hN I hw h1 h2 h3 h4 (by omega) h5.2 hX hY hk Gv s).mono ?_;rintro v h ⟨ah,aJ,k1,k2,k3,k4,(⟨e1,e2,e3⟩|⟨ov,e1,e2,e3⟩)⟩
 .refine⟨ah,aJ,k1,k2,k3,by omega,.inl ⟨e1,?_,e3⟩⟩;simp only[aN,aX] at e2;omega
 .exact⟨ah,aJ,k1,k2,k3,by omega,.inr ⟨ov,e1,e2,e3.o⟩⟩
theorem WQ (hT:WB told){I:bk->aG}(hR:my told N B rv I pg)(hN:N<=2999)(b_:EI N B ε)(ht:Bj N root R ot Z A (pg ε) es)(hA:A<=22000)(hX:cy X (cE kv k))(hk:1<=k.length/\k.length<=96)
 (s:Sat h (I ε::X::S)):
  Call ⟨Tryz.prog,told⟩ 17 [rv,.int .i64 (root:Int),kv] h λv h'=>∃ah,EI N B ah/\Sm N ε ah/\match fI es k with
   |none=>v=.aV [.aZ,.bool false,.int .i64 0]/\Sat h' (I ah::X::S)
   |some val=>∃bv,v=.aV [bv,.bool true,.int .i64 0]/\Sat h' (aY bv val::I ah::X::S):=by
 have hr:=ht.rt;obtain⟨M,L,cs,ps,h1,h2,h3,h4,h5,_⟩:=ht;have hL:=(Mh (L:=L) (cs:=cs)).1;exact ZN hT hR (by omega) (by omega) hX hk h3 h4 b_ U hr (λm hm=>(h2.mz m (fA _ (bw _ hm))).2) s
theorem QH (I:WT told)(s:Sat h S): Call ⟨Tryz.prog,told⟩ 11 [] h λv h'=>v=.bool true/\Sat h' S:=by
 refine Call.of_wp (I.w.free _ U) Tryz.func11 U U (zK 6 U (zc U (Jj (N:=16) (nt:=1) I (by decide) (by decide) (by decide) s) ?_));rintro v h ⟨p,a,q,r,lw,rs,M,ε,rfl,Ga,b_,gD,si,eA,s⟩;obtain⟨root,rfl⟩:∃z,rs=[z]:=List.length_eq_one_iff.1 Ga;generalize List.replicate 64 0=R at gD;have ht:Bj 16 root R [] [] 486 (pgA ε) []:=Bj.fresh gD si (eA root a_);have s:=s.ae [1];refine zk 12 U (zo U (eo U U) (zk 6 U (zc U (xN I.w s) ?_)));rintro v h ⟨g,rfl,s⟩;have s:=s.ae [1];obtain⟨id,off,e1,e2⟩:=ki (P:=Tryz.prog) s (k:=0) (i:=0) U (kP (n:=root) U) dm lI;refine zk 6 U (zC U (xp jH) (U) (zk 7 U (zo U (bM (r:=.ptr id off) U U e1) (zl U (e2 _ bT) ?_))));obtain⟨kv,h1,h2,e3,e4,e5,s2⟩:=E3 (b:=98) s (by decide);refine au.any U U U (OpR.of (R:=λv h'=>v=kv/\h'=h1) (iZ U e3) ⟨U,U⟩) ?_;rintro kv hA ⟨rfl,rfl⟩;refine au.any U U U (OpR.of (R:=λv h'=>v=kv/\h'=h2) (qm U e4 e5) ⟨U,U⟩) ?_;rintro kv h ⟨rfl,rfl⟩;obtain⟨vv,h1,h2,e3,e4,e5,s3⟩:=E3 (b:=49) s2 (by decide);refine au.any U U U (OpR.of (R:=λv h'=>v=vv/\h'=h1) (iZ U e3) ⟨U,U⟩) ?_;rintro vv hA ⟨rfl,rfl⟩;refine au.any U U U (OpR.of (R:=λv h'=>v=vv/\h'=h2) (qm U e4 e5) ⟨U,U⟩) ?_;rintro vv h ⟨rfl,rfl⟩;have s:=s3.ae [3,1,0];refine zc U (WO (now:=[]) (B:=5) I.toWI (by decide) (by decide) b_ (NW.nil 16) ht (by decide) (bC _ _) (bC _ _) (by decide) (by decide) s) ?_;rintro v h ⟨ah,aJ,k1,k2,k3,k4,(⟨_,wW,_⟩|⟨ov,rfl,s,htE⟩)⟩
 .simp at wW
 have s:=(s.del 1).ae [3];obtain⟨id,off,e1,e2⟩:=ki (P:=Tryz.prog) s (k:=0) (i:=0) U (kP (n:=root) U) dm lI;refine zk 11 U (zo U (oz U (mki_of jH U)) (zm U (zo U (bM (r:=.ptr id off) U U e1) (zl U (e2 _ bT) ?_))));obtain⟨kw,h1,h2,e3,e4,e5,s2⟩:=E3 (b:=98) s (by decide);refine au.any U U U (OpR.of (R:=λv h'=>v=kw/\h'=h1) (iZ U e3) ⟨U,U⟩) ?_;rintro kw hA ⟨rfl,rfl⟩;refine au.any U U U (OpR.of (R:=λv h'=>v=kw/\h'=h2) (qm U e4 e5) ⟨U,U⟩) ?_;rintro kw h ⟨rfl,rfl⟩;have s:=s2.ae [2,0];refine zc U (WQ I.toWB (EH I.w (by decide) k3) (by decide) k1 htE (by decide) (bC _ _) (by decide) s) ?_;rintro v h ⟨ij,q1,q2,q3⟩;have hg:fI (rq [] [98] [49]) [98]=some [49]:=by decide
 rw[hg] at q3;obtain⟨bv,rfl,s⟩:=q3;exact zk 11 U (zB U cS (U) (zk 2 U (zo U (eo U U) (zk 3 U (zB U cS (U) (zk 6 U (zo U (cN U (D_ (s.aD (k:=0) U (bg _ _)))) (zB U Pv (U) (zk 3 U (WP.ret ⟨aa,_,U,U,s.drop.drop.drop.drop.drop.drop⟩))))))))))
end
def nextF : Ky->Option Ky
 |[]=>none
 |x::t=>match nextF t with
  |some u=>some (x::u)
  |none=>if x=255 then none else some [x+1]
theorem Mi : ∀ {a u:Ky},nextF a=some u->a<u:=by
 intro a;induction a with
 |nil=>intro u h;cases h
 |cons x t ih =>
  intro u h;simp only[nextF] at h;cases I:nextF t with
  |some w =>
   rw[I] at h;obtain rfl:=bB h;exact List.cons_lt_cons_iff.2 (.inr ⟨U,ih I⟩)
  |none =>
   rw[I] at h;simp only at h;split at h
   .cases h
   .obtain rfl:=bB h;exact List.cons_lt_cons_iff.2 (.inl (tu x))
theorem Mj : ∀ {a b:Ky},a<b->b.length<=a.length->(∀x∈b,x<256)->∃u,nextF a=some u/\¬ b<u:=by
 intro a;induction a with
 |nil =>
  intro b h hl _;obtain rfl:b=[]:=iK (by simpa using hl);exact absurd h (jQ _)
 |cons x t ih =>
  intro b h hl hb;cases b with
  |nil=>exact absurd h (yA _)
  |cons y s =>
   simp only[nextF];have hy:=hb y a_;rcases List.cons_lt_cons_iff.1 h with SD|⟨rfl,I⟩
   .cases hn:nextF t with
    |some w=>exact⟨_,U,λq=>by rcases List.cons_lt_cons_iff.1 q with q|⟨q,_⟩<;>omega⟩
    |none =>
     simp only;rw[ai (by omega)];exact⟨_,U,λq=>by
      rcases List.cons_lt_cons_iff.1 q with q|⟨q,q2⟩
      .omega
      .exact yA _ q2⟩
   .obtain⟨w,hw,hn⟩:=ih I (by simpa using hl) λz hz=>hb z (bw _ hz);rw[hw];exact⟨_,U,λq=>by
     rcases List.cons_lt_cons_iff.1 q with q|⟨_,q2⟩
     .omega
     .exact hn q2⟩
theorem Jk : ∀ {a:Ky},(∀x∈a,x=255)->nextF a=none:=by
 intro a;induction a with
 |nil=>intro _;rfl
 |cons x t I =>
  intro h;simp only[nextF];rw[I λz hz=>h z (bw _ hz)];simp only;rw[ay (h x a_)]
theorem WR : ∀ {a b:Ky} {x:Nat},x≠255->(∀y∈b,y=255)->nextF (a++x::b)=some (a++[x+1]):=by
 intro a;induction a with
 |nil =>
  intro b x I hb;simp only[dJ,nextF];rw[Jk hb];simp only;rw[ai I]
 |cons z t ih =>
  intro b x I hb;simp only[fK,nextF];rw[ih I hb]
theorem TX : ∀ {a u:Ky},nextF a=some u->u.length<=a.length:=by
 intro a;induction a with
 |nil=>intro u h;cases h
 |cons x t ih =>
  intro u h;simp only[nextF] at h;cases I:nextF t with
  |some w =>
   rw[I] at h;obtain rfl:=bB h;have:=ih I;simp only[aX];omega
  |none =>
   rw[I] at h;simp only at h;split at h
   .cases h
   .obtain rfl:=bB h;simp
theorem QI : ∀ {a u:Ky},nextF a=some u->(∀x∈a,x<256)->∀x∈u,x<256:=by
 intro a;induction a with
 |nil=>intro u h;cases h
 |cons x t ih =>
  intro u h hb y I;have hx:=hb x a_;simp only[nextF] at h;cases hn:nextF t with
  |some w =>
   rw[hn] at h;obtain rfl:=bB h;rcases List.mem_cons.1 I with rfl|I
   .exact hx
   .exact ih hn (λz hz=>hb z (bw _ hz)) y I
  |none =>
   rw[hn] at h;simp only at h;split at h
   .cases h
   .obtain rfl:=bB h;rw[List.mem_singleton.1 I];omega
theorem TY : ∀ {a:Ky},a<a++[0]:=by
 intro a;induction a with
 |nil=>exact vF _ _
 |cons x t I=>exact List.cons_lt_cons_iff.2 (.inr ⟨U,I⟩)
theorem abY : ∀ {a b:Ky},a<b->¬ b<a++[0]:=by
 intro a;induction a with
 |nil =>
  intro b h q;cases b with
  |nil=>exact jQ _ h
  |cons y s =>
   rcases List.cons_lt_cons_iff.1 q with q|⟨_,q⟩
   .omega
   .exact yA _ q
 |cons x t ih =>
  intro b h q;cases b with
  |nil=>exact yA _ h
  |cons y s =>
   rcases List.cons_lt_cons_iff.1 h with I|⟨I,uk⟩
   .rcases List.cons_lt_cons_iff.1 q with q|⟨q,_⟩<;>omega
   .rcases List.cons_lt_cons_iff.1 q with q|⟨_,q⟩
    .omega
    .exact ih uk q
theorem WU (I:∀e∈es.take i,e.1<k)(h2:∀e,es[i]?=some e->¬ e.1<k): ng es k=es[i]?:=by
 have hs:es=es.take i++es.drop i:=(jO i es).symm;cases he:es[i]? with
 |none =>
  have:es.length<=i:=List.getElem?_eq_none_iff.1 he;rw[g_ this] at I;exact List.find?_eq_none.2 λe hm=>by simp[I e hm]
 |some e =>
  have hd:es.drop i=e::es.drop (i+1):=by
   obtain⟨hb,h3⟩:=List.getElem?_eq_some_iff.1 he;rw[<-h3];exact mC hb
  rw[hs,xL I,hd];simp[ng,h2 e he]
def xO (es:List En)(i:Nat)(k:Ky): Prop:=(∀e∈es.take i,e.1<k)/\∀j e,es[j]?=some e->i<=j->¬ e.1<k
theorem xO.QB (h:xO es i k): ng es k=es[i]?:=WU h.1 λe he=>h.2 i e he (aH _)
theorem xO.nil : xO es 0 []:=⟨λe he=>by simp at he,λ_ _ _ _=>yA _⟩
theorem E4 (hs:es.Pairwise λa b=>a.1<b.1)(he:es[i]?=some e): (∀d∈es.take i,d.1<e.1)/\∀j d,es[j]?=some d->i<j->e.1<d.1:=by
 obtain⟨hi,hie⟩:=List.getElem?_eq_some_iff.1 he;have hp:=List.pairwise_iff_getElem.1 hs;refine⟨λd hd => ?_,λj d hd pz => ?_⟩
 .obtain⟨j,hj⟩:=List.mem_iff_getElem?.1 hd;have kI:j<i:=by have:=(List.getElem?_eq_some_iff.1 hj).1;rw[cz] at this;omega
  rw[G1 kI] at hj;obtain⟨I,Le⟩:=List.getElem?_eq_some_iff.1 hj;rw[<-Le,<-hie];exact hp j i I hi kI
 .obtain⟨I,Le⟩:=List.getElem?_eq_some_iff.1 hd;rw[<-Le,<-hie];exact hp i j hi I pz
theorem Bk (he:es[i]?=some e){d:En}(I:d∈es.take (i+1)): d∈es.take i\/d=e:=by
 rw[nA,he] at I;simpa using I
theorem xO.more (hs:es.Pairwise λa b=>a.1<b.1)(he:es[i]?=some e): xO es (i+1) (e.1++[0]):=by
 obtain⟨h1,h2⟩:=E4 hs he;refine⟨λd I => ?_,λj d I hj=>abY (h2 j d I (by omega))⟩;rcases Bk he I with I|rfl
 .exact List.lt_trans (h1 d I) TY
 .exact TY
theorem xO.next {u:Ky}(hs:es.Pairwise λa b=>a.1<b.1)(he:es[i]?=some e)(hl:∀d∈es,d.1.length<=e.1.length)(hb:∀d∈es,∀x∈d.1,x<256)(hu:nextF e.1=some u): xO es (i+1) u:=by
 obtain⟨h1,h2⟩:=E4 hs he;refine⟨λd I => ?_,λj d I hj => ?_⟩
 .rcases Bk he I with I|rfl
  .exact List.lt_trans (h1 d I) (Mi hu)
  .exact Mi hu
 .have hm:=aI I;obtain⟨w,hw,hn⟩:=Mj (h2 j d I (by omega)) (hl d hm) (hb d hm);rw[hu] at hw;obtain rfl:=bB hw;exact hn
theorem xO.last (hs:es.Pairwise λa b=>a.1<b.1)(he:es[i]?=some e)(hl:∀d∈es,d.1.length<=e.1.length)(hb:∀d∈es,∀x∈d.1,x<256)(hu:nextF e.1=none): i+1=es.length:=by
 obtain⟨h1,h2⟩:=E4 hs he;have hi:=(List.getElem?_eq_some_iff.1 he).1;by_cases hq:i+1<es.length
 .exfalso;have I:es[i+1]?=some (es[i+1]'hq):=aF _;have hm:=aI I;obtain⟨w,hw,_⟩:=Mj (h2 (i+1) _ I (by omega)) (hl _ hm) (hb _ hm);rw[hu] at hw;cases hw
 .omega
section
variable {h:H} {v:V} {l:List Nat}
theorem wR (s:Sat h S)(hl:∀b∈l,b<256): ∃v h',convV Tryz.prog h 9 29 (.str l)=none/\convB Tryz.prog h 9 29 (.str l)=some (v,h')/\Sat h' (.cG v l::S):=by
 refine⟨.sl h.next 0 l.length (.rest 1 0),h.new (.cells l.length (ofBytes l) true),?_,?_,?_⟩
 .simp only[convV,oG,aP]
 .simp only[convB,oG,aP,Tryz.underlying5,fF];rfl
 .exact(s.new (.cells l.length (ofBytes l) true)).freeze.eD λm r hm=>⟨hl,.inr ⟨h.next,0,.rest 1 0,l.length,ofBytes l,true,U,hm,by rw[dN],by omega,by rw[gi,g_ (by rw[dN];exact aH _)],U⟩⟩
theorem QJ (s:Sat h (pt id (.cells 0 [] false)::S))(hl:∀b∈l,b<256)(h1:1<=l.length)(h2:l.length<=1000000): ∃v h',appendV Tryz.prog h #[29,9] (.sl id 0 0 (.exact 0)) (.str l)=some (v,h')/\Sat h' (aY v l::S):=by
 obtain⟨i,hi,i1,i2⟩:=Dn;have hg:=s.row (k:=0) U;have I:lB (0+l.length) 1=true:=ow.2 ⟨by omega,by omega⟩;refine⟨.sl h.next 0 l.length (.rest 1 0),h.new (.cells l.length (ofBytes l) false),?_,?_⟩
 .unfold appendV;simp only[aP,oG,hi,pJ,i1,i2,V.cells,aX,bY,srcV];rw[show(Nat.ble 1 1&&Nat.ble 1 4096&&Nat.beq (0+1) 1)=true from U,ag,show Nat.beq 1 1=true from U,ag];simp only;rw[fO (by omega:l.length≠0),aS,show Nat.ble (0+l.length) 0=false from by cases hq:Nat.ble (0+l.length) 0 with|false=>rfl|true=>have:=aR.1 hq;omega,aS];rw[I,ag,show rdN h id 0 (0*1)=some [] by simp[rdN,hg];rfl];simp only[j6,dJ,eW,cH]
 .exact((s.ae [0]).drop.new (.cells l.length (ofBytes l) false)).eD λm r hm=>⟨hl,.inr (.inr ⟨h.next,U,hm,h1⟩)⟩
end
section
variable {told:cu} {h:H} {fs:List En}
theorem TZ {P:Program}{fs:Array Field}{a b:En}(I:P.underlying t=some (.struct fs))(hs:P.stoodInHeld t=false)(hf:strFs P 0 fs.toList=true)(hn:fs.toList.length=2):
  eqArr P t [.str a.1,.str a.2] [.str b.1,.str b.2]=some (decide (a=b)):=by
 have hl:Nat.beq fs.toList.length [V.str a.1,V.str a.2].length=true:=by rw[hn];rfl
 unfold eqArr;simp only[I,hs,hf,hl,yB,kf,ag,strsBeq,qI];congr 1;obtain⟨a1,a2⟩:=a;obtain⟨b1,b2⟩:=b;by_cases h1:a1=b1<;>by_cases h2:a2=b2<;>simp[h1,h2]
theorem Z4 {x y:Operand}{a b:En}: binV Tryz.prog h .neq 53 x y (.agg [.str a.1,.str a.2]) (.agg [.str b.1,.str b.2])=some (.bool (!decide (a=b))):=by
 have e:=TZ (P:=Tryz.prog) (a:=a) (b:=b) Tryz.underlying53 (by kernel_rfl) (by kernel_rfl) (by kernel_rfl);simp only[binV,e,gO]
noncomputable def smL : Code:=cX [1,1,0,1,0,0] ((Tryz.f68.body).getD .skip)
theorem QK : ∀(j i:Nat) (h:H) (E:List (Nat×V)) (Q:Ex->List (Nat×V)->H->Prop),i+j=es.length->es.length<=1000000 ->
  Sat h (.arr 2 lv (cZ es)::.arr 2 rv (cZ es)::S)->Has E [(0,lv),(1,rv),(5,.int .i64 (i:Int))] ->
  (∀E' h',Sat h' (.arr 2 lv (cZ es)::.arr 2 rv (cZ es)::S)->Q (.exit 0) E' h')->WP ⟨Tryz.prog,told⟩ 26 (.loop smL) E h Q:=by
 intro j
 induction j with
 |zero =>
  intro i h E Q hi hlen s hE hq
  have I:=s.fq (P:=Tryz.prog) (j:=0) (n:=es.length) U (dW _) (by decide) iy
  refine WP.loop (WP.has hE (zK 5 U (zo U (aC U U U I) (zC U aK (by simp;omega) ?_))))
  exact zk 2 U (WP.exit (hq _ _ s))
 |succ j ih =>
  intro i h E Q hi hlen s hE hq
  obtain⟨e,he⟩:∃e,es[i]?=some e:=⟨_,aF (by omega)⟩
  have I:=s.fq (P:=Tryz.prog) (j:=0) (n:=es.length) U (dW _) (by decide) iy
  obtain⟨id,off,e1,_,_,e2⟩:=z7 (P:=Tryz.prog) iy Aq he s
  obtain⟨r8,oX,e3,_,_,e4⟩:=z7 (P:=Tryz.prog) iy Aq he (s.ae [1])
  refine WP.loop (WP.has hE (zK 5 U (zo U (aC U U U I) (zB U aK (by simp;omega) ?_))))
  refine zk 4 U (WP.block (zw (WP.drawn [af,af,af,af,af,af,af,af,af] U (by kernel_rfl) (by kernel_rfl) ?_)))
  refine zM U (zM U (zO U (bM (r:=.ptr id off) U U e1) (zL U (e2 UZ) (zM U (zM U (zO U (bM (r:=.ptr r8 oX) U U e3) (zL U (e4 UZ) (aB.rR U U U U (aq U U Z4) (by simp) ?_))))))))
  refine aB.nil ⟨⟨aa,aa,aa,aa,aa,aa,aa,aa,aa,aa⟩,?_⟩
  refine zj U (WP.skip (zr U (zm U (zb U (by exact aM ak) ?_))))
  refine za U (zv ?_)
  exact ih (i+1) _ _ Q (by omega) hlen s ⟨U,U,U,aa⟩ hq
theorem WV (hT:W told)(hlen:es.length<=1000000)(s:Sat h (.arr 2 lv (cZ es)::.arr 2 rv (cZ es)::S)):
  Call ⟨Tryz.prog,told⟩ 68 [lv,rv] h λv h'=>v=.bool true/\Sat h' (.arr 2 lv (cZ es)::.arr 2 rv (cZ es)::S):=by
 have I:=s.fq (P:=Tryz.prog) (j:=0) (n:=es.length) U (dW _) (by decide) iy;have Ee:=s.fq (P:=Tryz.prog) (j:=1) (n:=es.length) U (dW _) (by decide) iy;refine Call.of_wp (hT.free _ U) Tryz.func68 U U (zK 8 U (zo U (aC U U U I) (zm U (zo U (aC U U U Ee) (zC U aE (by simp) ?_)))));refine zk 8 U (WP.block ?_);refine QK es.length 0 _ _ _ (by omega) hlen s ⟨U,U,U,aa⟩ (λE' h' s' => ?_);have s:=s';exact WP.has (F:=[]) aa (zK 4 U (WP.ret ⟨aa,_,U,U,s⟩))
end
theorem T0 {l:List Nat}{b:Nat}(I:l[i]?=some b): indexV Tryz.prog 9 (.str l) (.int .i64 (i:Int))=some (.int .u8 (b:Int)):=by
 simp only[indexV,oG,fS];rw[show decide ((0:Int)<=(i:Int))=true by simp,ag,gB,I]
theorem T1 {h:H}{l:List Nat}{b:Nat}(I:b<=l.length): sliceV Tryz.prog h 9 (.str l) none (some b) none=some (.str (l.take b)):=by
 simp only[sliceV,oG,fC,dw,gi];rw[aR.2 (gG b),aR.2 I];rfl
theorem adh {P:Program}{h:H}{x y:Operand}{a:List Nat}(hl:a.length+b.length<=1000000): binV P h .add t x y (.str a) (.str b)=some (.str (a++b)):=by
 simp only[binV,strV];rw[aR.2 (by omega),ag]
section
variable {told:cu} {h:H} {a:List Nat}
noncomputable def nxA : Code:=cX [1,1,0,0,0] ((Tryz.f152.body).getD .skip)
theorem QL : ∀(n:Nat) (h:H) (E:List (Nat×V)) (Q:Ex->List (Nat×V)->H->Prop),n<=a.length->a.length<=1000->(∀x∈a.drop n,x=255)->Has E [(0,.str a),(4,.int .i64 (n:Int))]->Sat h S ->
  (∀E' n,n<=a.length->(∀x∈a.drop n,x=255)->(n=0\/∃m x,n=m+1/\a[m]?=some x/\x≠255)->Has E' [(0,.str a),(4,.int .i64 (n:Int))]->Q (.exit 0) E' h)->WP ⟨Tryz.prog,told⟩ 35 (.loop nxA) E h Q:=by
 intro n;induction n with
 |zero =>
  intro h E Q hn hl hd hE s hq;refine WP.loop (WP.has hE (zK 4 U (zC U cP (by simp) ?_)));exact zk 9 U (WP.exit (hq _ 0 hn hd (.inl U) ⟨U,U,aa⟩))
 |succ n ih =>
  intro h E Q hn hl hd hE s hq;obtain⟨x,hx⟩:∃x,a[n]?=some x:=⟨_,aF (by omega)⟩;refine WP.loop (WP.has hE (zK 4 U (zB U cP (by simp) ?_)));refine zk 3 U (zo U (aq (r:=.int .i64 (n:Int)) U U (by rw[show(n:Int)=((n+1:Nat):Int)-1 by omega];exact dM ak)) ?_);refine zo U (Aj U U (T0 hx)) ?_;by_cases I:x=255
  .subst I;refine zB U cS (by simp) ?_;refine zk 4 U (WP.block (zK 2 U (zo U (aq (r:=.int .i64 (n:Int)) U U (by rw[show(n:Int)=((n+1:Nat):Int)-1 by omega];exact dM ak)) ?_)));refine za U (zv ?_);exact ih _ _ Q (by omega) hl (λy hy=>by
    rw[mC (show n<a.length by omega)] at hy;rcases List.mem_cons.1 hy with rfl|hy
    .rw[aF (by omega)] at hx;exact bB hx
    .exact hd y hy) ⟨U,U,aa⟩ s hq
  .skip;refine zC U cS (by simp;omega) ?_;exact zk 3 U (WP.exit (hq _ (n+1) hn hd (.inr ⟨n,x,U,hx,I⟩) ⟨U,U,aa⟩))
theorem WW (hT:W told)(hl:a.length<=1000)(hb:∀x∈a,x<256)(s:Sat h S):
  Call ⟨Tryz.prog,told⟩ 152 [.str a] h λv h'=>v=.aV [.str ((nextF a).getD []),.bool (nextF a).isSome]/\Sat h' S:=by
 refine Call.of_wp (hT.free _ U) Tryz.func152 U U (zK 8 U (zo U (aC U U U (NI oG)) (zk 3 U (WP.block ?_))));refine QL a.length _ _ _ (aH _) hl (by simp) ⟨U,U,aa⟩ s (λE' n hn hd hx hE => ?_);refine WP.has hE (zK 4 U ?_);rcases hx with rfl|⟨m,x,rfl,hx,aeF⟩
 .have hn:nextF a=none:=Jk hd;rw[hn];refine zB U cS (by simp) ?_;exact zk 7 U (WP.ret ⟨aa,_,U,U,s⟩)
 .obtain⟨hm,hxe⟩:=List.getElem?_eq_some_iff.1 hx;have ha:a=a.take m++x::a.drop (m+1):=by rw[<-hxe];simp
  have Cc:nextF a=some (a.take m++[x+1]):=by
   conv=>lhs;rw[ha]
   exact WR aeF hd
  have qt:a.take (m+1)=a.take m++[x]:=by rw[nA,hx];rfl
  have I:(a.take m).length=m:=by rw[cz];omega
  have hxb:x<256:=hb x (aI hx);rw[Cc];refine zC U cS (by simp;omega) ?_;refine zk 5 U ?_;obtain⟨h1,e3,s1⟩:=Ob (P:=Tryz.prog) s aP zt5 Xw U (by decide);refine au.any U U U (OpR.of (R:=λv h'=>v=.sl h.next 0 0 (.exact 0)/\h'=h1) (iZ U e3) ⟨U,U⟩) ?_
  rintro v h' ⟨rfl,rfl⟩;obtain⟨v,h2,e4,s2⟩:=QJ (l:=a.take (m+1)) s1 (λy hy=>hb y (iL hy)) (by rw[qt,aN,I];simp) (by rw[cz];omega);refine zk 2 U (zo U (bK (p:=none) (q:=some (.int .i64 ((m+1:Nat):Int))) (m:=none) (p':=none) (q':=some (m+1)) (m':=none) U U U U U (by rw[bN,fS]) U (T1 hm)) ?_);refine au.any U U U (OpR.of (R:=λv' h'=>v'=v/\h'=h2) (jc U U e4) ⟨U,U⟩) ?_;rintro v h ⟨rfl,rfl⟩;rw[qt] at s2;have jX:(a.take m++[x])[m]?=some x:=by rw[iz (by omega),I,gF];rfl
  obtain⟨id,off,e5,e6⟩:=eU (s2.buf (k:=0) U).view jX;obtain⟨id7,aeG,e7,h3,e8,s3⟩:=oP s2 (i:=m) (b:=x+1) (by rw[aN,I];simp) (by omega);have ee:V.ptr id off=V.ptr id7 aeG:=by rw[e5] at e7;exact bB e7
  rw[<-ee] at e8;have Cu:(a.take m++[x]).set m (x+1)=a.take m++[x+1]:=by rw[G2 _ _ (by omega),I,gF];rfl
  rw[Cu] at s3;refine zk 6 U (zo U (aq (r:=.int .i64 (m:Int)) U U (by rw[show(m:Int)=((m+1:Nat):Int)-1 by omega];exact dM ak)) ?_);refine zo U (bM (r:=.ptr id off) U U e5) (zl U e6 (zo U (aq (r:=.int .u8 ((x+1:Nat):Int)) U U (by rw[show((x+1:Nat):Int)=(x:Int)+1 by omega];exact aM qH)) ?_));refine zo U (bM (r:=.ptr id off) U U e5) (zS U (⟨h3,e8,s3⟩) ?_);rintro h s;exact zk 4 U (zo U (cN U (D_ (s.aD (k:=0) U (bg _ _)))) (zk 3 U (WP.ret ⟨aa,_,U,U,s.drop⟩)))
end
section
variable {told:cu} {A:bk->aG} {Ii:Int}
noncomputable def liA : Code:=cX [1,1,1,0,1,0,0] ((Tryz.f66.body).getD .skip)
theorem Nc (hT:WB told)(hR:my told N B rv A pg)(hN:N<=65536)(hL:L<=60)(hv:Nv (cU Z) P L [] none cs es ps)(hp:bH (P root) 204 0 L cs)(hr:root<N)(nZ:∀m∈ps,m<N)(hb:∀d∈es,∀x∈d.1,x<256)(hlen:es.length<=400)(hm:(es.length:Int)<=Ii)(qC:Ii<1000000):
  ∀(j i:Nat) (k:Ky) (ov:V) (ε:bk) (h:H) (E:List (Nat×V)) (S:List aG) (Q:Ex->List (Nat×V)->H->Prop),i+j=es.length->xO es i k->(∀x∈k,x<256)->k.length<=96->EI N B ε->pg ε=P ->
  Sat h (.arr 2 ov (cZ (es.take i))::A ε::S)->Has E [(0,rv),(1,.int .i64 (root:Int)),(2,.int .i64 Ii),(8,ov),(9,.str k),(10,.int .i64 (i:Int))] ->
  (∀E' h' I ah,EI N B ah->Sm N ε ah->Has E' [(6,I),(7,.bool true)]->Sat h' (.arr 2 I (cZ es)::A ah::S)->Q .ret E' h')->WP ⟨Tryz.prog,told⟩ 61 (.loop liA) E h Q:=by
 have jK:=hv.ok;intro j;induction j with
 |zero =>
  intro i k ov ε h E S Q hi jX GJ qu b_ eA s hE hq;obtain rfl:i=es.length:=hi;obtain⟨kv,h1,c1,c2,s1⟩:=wR s GJ;have wW:es[es.length]?=none:=List.getElem?_eq_none_iff.2 (aH _);refine WP.loop (WP.has hE (zK 5 U (zB U wo (by simp;omega) ?_)));refine zk 4 U (WP.block (zK 5 U (au.any U U U (OpR.of (R:=λv h'=>v=kv/\h'=h1) (qm U c1 c2) ⟨U,U⟩) ?_)));rintro v h ⟨rfl,rfl⟩;refine zc U (L9 hT hR hN hL (bC _ _) qu hv hp b_ eA hr nZ (s1.ae [2,0])) ?_;rintro v h ⟨dz,k1,k2,k3⟩;rw[jX.QB,wW] at k3;obtain⟨rfl,s⟩:=k3;refine zk 14 U (zC U aE (U) (zk 7 U (zo U (eo U U) (zk 8 U (WP.ret (hq _ _ ov dz k1 k2 ⟨U,U,aa⟩ ?_))))));rw[jP] at s;exact s.ae [1,0]
 |succ j ih =>
  intro i k ov ε h E S Q hi jX GJ qu b_ eA s hE hq;obtain⟨e,he⟩:∃e,es[i]?=some e:=⟨_,aF (by omega)⟩;have On:=aI he;have qt:es.take (i+1)=es.take i++[e]:=by rw[nA,he];rfl
  have wj:=jK.sz e On;have Ki:=hb e On;obtain⟨kv,h1,c1,c2,s1⟩:=wR s GJ;refine WP.loop (WP.has hE (zK 5 U (zB U wo (by simp;omega) ?_)));refine zk 4 U (WP.block (zK 5 U (au.any U U U (OpR.of (R:=λv h'=>v=kv/\h'=h1) (qm U c1 c2) ⟨U,U⟩) ?_)));rintro v h ⟨rfl,rfl⟩;refine zc U (L9 hT hR hN hL (bC _ _) qu hv hp b_ eA hr nZ (s1.ae [2,0])) ?_;rintro v h ⟨dz,k1,k2,k3⟩;rw[jX.QB,he] at k3;obtain⟨kb,vb,rfl,s⟩:=k3;have gV:pg dz=P:=by rw[<-eA];funext m;exact hR.same k2 m
  refine zk 14 U (zC U aE (U) (zk 7 U (zo U (eo U U) (zk 7 U (zo U (cN U (D_ (s.aD (k:=0) U (bg _ _)))) (zm U (zo U (cN U (D_ (s.aD (k:=1) U (bg _ _)))) ?_)))))));obtain⟨xv,h1,w,h2,e3,e4,s2⟩:=EX (e:=e) (by rw[cz];omega) (s.ae [3]);rw[<-qt] at s2;refine zo U (cI U (by rw[aa7];rfl)) ?_;refine au.any U U U (OpR.of (R:=λv h'=>v=xv/\h'=h1) (iZ U e3) ⟨U,U⟩) ?_;rintro xv h1 ⟨rfl,rfl⟩;refine au.any U U U (OpR.of (R:=λv h'=>v=w/\h'=h2) (jc U U e4) ⟨U,U⟩) ?_;rintro w h2 ⟨rfl,rfl⟩;have s:=s2;dsimp only[aL,bringA] at s;have Gp:∀d∈es,d.1.length<=96:=λd hd=>(jK.sz d hd).2.1;refine zk 5 U (zo U (cN U (D_ (s.aD (k:=1) U (bg _ _)))) (zo U (aq (r:=.str (e.1++[0])) U U (adh (a:=e.1) (b:=[0]) (by simp only[aX,bY];omega))) ?_));refine zk 5 U (zo U (aC U U U (NI oG)) ?_);by_cases Ys:e.1.length=96
  .skip;refine zB U cP (by simp only[aN,aX,bY,Ys];decide) ?_;refine zk 5 U (zo U (cN U (D_ (s.aD (k:=1) U (bg _ _)))) (zc U (WW hT.w (by omega) Ki s) ?_));rintro v h ⟨rfl,s⟩;cases Cc:nextF e.1 with
   |none =>
    have adi:=xO.last jK.jY he (λd hd=>by rw[Ys];exact Gp d hd) hb Cc;rw[adi,jP] at s;exact zk 10 U (zo U (eo U U) (zk 8 U (WP.ret (hq _ _ _ dz k1 k2 ⟨U,U,aa⟩ ((s.ae [0,2]).del 3 |>.del 2)))))
   |some u =>
    refine zk 5 U (zv (zw (zg U (zm U (zo U (eo U U) (zv (zj U (WP.skip (zr U (zk 2 U (zv (zr U (zm U (zb U (by exact aM ak) ?_))))))))))))));refine za U (zv ?_);have ou:u.length<=96:=by rw[<-Ys];exact TX Cc
    have Se:∀x∈u,x<256:=QI Cc Ki;have h1':(i:Int)+1=((i+1:Nat):Int):=by omega
    exact ih (i+1) u _ dz _ _ S Q (by omega) (xO.next jK.jY he (λd hd=>by rw[Ys];exact Gp d hd) hb Cc) Se ou k1 gV ((s.ae [0,2]).del 3 |>.del 2) ⟨U,U,U,U,U,U,aa⟩ (λE' h' I ah g1 g2=>hq E' h' I ah g1 (k2.trans g2))
  .skip;refine zC U cP (by simp;omega) ?_;refine zv (zj U (WP.skip (zr U (zm U (zb U (by exact aM ak) ?_)))));refine za U (zv ?_);exact ih (i+1) _ _ dz _ _ S Q (by omega) (xO.more jK.jY he) (λx hx=>by
    rcases List.mem_append.1 hx with hx|hx
    .exact Ki x hx
    .rw[List.mem_singleton.1 hx];decide) (by rw[aN];simp;omega) k1 gV ((s.ae [0,2]).del 3 |>.del 2) ⟨U,U,U,U,U,U,aa⟩ (λE' h' I ah g1 g2=>hq E' h' I ah g1 (k2.trans g2))
theorem T2 (hT:WB told)(hR:my told N B rv A pg)(hN:N<=65536)(hL:L<=60)(hv:Nv (cU Z) P L [] none cs es ps)(hp:bH (P root) 204 0 L cs)(hr:root<N)(I:∀m∈ps,m<N)(hb:∀d∈es,∀x∈d.1,x<256)(hlen:es.length<=400)(hm:(es.length:Int)<=Ii)(qC:Ii<1000000){h:H}(b_:EI N B ε)(eA:pg ε=P)(s:Sat h (A ε::S)):
  Call ⟨Tryz.prog,told⟩ 66 [rv,.int .i64 (root:Int),.int .i64 Ii] h λv h'=>∃ov ah,v=.aV [ov,.bool true]/\EI N B ah/\Sm N ε ah/\Sat h' (.arr 2 ov (cZ es)::A ah::S):=by
 refine Call.of_wp (hT.w.free _ U) Tryz.func66 U U (zK 18 U (WP.block ?_));refine Nc hT hR hN hL hv hp hr I hb hlen hm qC es.length 0 [] .aZ ε _ _ S _ (by omega) xO.nil (by simp) (by simp) b_ eA s.lJ ⟨U,U,U,U,U,U,aa⟩ (λE' h' GS ah k1 k2 hE s' => ?_);exact⟨aa,_,AH hE.1 hE.2.1,GS,ah,U,k1,k2,s'⟩
end
def WX (cap:Cap)(N:Nat): Prop:=match cap with
 |.exact c=>c=N
 |.rest e _=>e=1
def oZ (v:V)(cs:List V): aG:=.xs λo:Nat×Nat×Cap×List V=>.an (.pt o.1 (.cells o.2.1 (cs++o.2.2.2) false))
 (.pu (v=.sl o.1 0 cs.length o.2.2.1/\cs.length+o.2.2.2.length=o.2.1/\1<=o.2.1/\(cs++o.2.2.2).all storable=true/\WX o.2.2.1 o.2.1))
section
variable {P:Program} {h:H} {v:V} {cs:List V} {e:TypeId}
theorem AY (s:Sat h (oZ v cs::S)): ∃id N cap rest,v=.sl id 0 cs.length cap/\cs.length+rest.length=N/\1<=N/\(cs++rest).all storable=true/\WX cap N/\Sat h (pt id (.cells N (cs++rest) false)::S):=by
 obtain⟨⟨id,N,cap,rest⟩,s⟩:=j8.1 s;obtain⟨_,_,_,_,I⟩:=s.at (k:=0) U;obtain⟨_,q1,q2,q3,q4,q5⟩:=I;exact⟨id,N,cap,rest,q1,q2,q3,q4,q5,s.eD λ_ _ h=>h.1⟩
theorem CM {row rest:List V}(hr:row=cs++rest)(I:cs.length+rest.length=N)(q3:1<=N)(q4:row.all storable=true)(q5:WX cap N)(s:Sat h (pt id (.cells N row false)::S)): Sat h (oZ (.sl id 0 cs.length cap) cs::S) :=
 s.eD λ_ _ h=>⟨(id,N,cap,rest),by subst hr;exact h,by subst hr;exact⟨U,I,q3,q4,q5⟩⟩
theorem abZ (hc:1<=cs.length)(s:Sat h (.arr 1 v cs::S)): Sat h (oZ v cs::S):=by
 have I:cs≠[]:=λq=>by rw[q] at hc;simp at hc
 have eO:=s.JM (j:=0) U;exact s.eD λm r hm=>by
  obtain⟨h1,h2⟩:=hm;rcases h2 with⟨_,q⟩|⟨id,n,cap,N,rest,rfl,hg,h3,h4,h5,h6⟩
  .exact absurd q I
  .have hN:1<=N:=by rw[<-h4];omega
   have hn:cs.length=n:=by omega
   subst hn;refine⟨(id,N,cap,rest),hg,U,h4,hN,by rw[C3,h1,h5];rfl,?_⟩;cases cap with
   |exact c=>show c=N;omega
   |rest e alt=>exact h6.1
theorem OS (s:Sat h (oZ v cs::S))(hu:P.underlying t=some (.slice e)): lenV P h t v=some (.int .i64 (cs.length:Int)):=by
 obtain⟨id,N,cap,rest,rfl,_⟩:=AY s;simp only[lenV,hu]
theorem ab0 {c:V}(s:Sat h (oZ v cs::S))(hc:cs[i]?=some c)(hu:P.underlying t=some (.slice e))(I:bq P e=some 1):
  ∃id off,indexAddrV P t v (.int .i64 (i:Int))=some (.ptr id off)/\∀t',isAggT P t'=some false->loadV P h t' (.ptr id off)=some c:=by
 obtain⟨id,N,cap,rest,rfl,q2,q3,q4,q5,s⟩:=AY s;have hi:=(List.getElem?_eq_some_iff.1 hc).1;refine⟨id,i,?_,λt' ht=>BP ht (s.row (k:=0) U) ?_⟩
 .simp only[indexAddrV,hu,I,fS];rw[show(decide ((0:Int)<=(i:Int))&&decide ((i:Int)<(cs.length:Int)))=true by simp;omega,ag,eW,cH]
 .rw[gB,rA hi,hc]
theorem Z5 {c:V}(s:Sat h (oZ v (cs++[c])::S))(hu:P.underlying t=some (.slice e))(pY:bq P e=some 1): ∃v',sliceV P h t v none (some cs.length) none=some v'/\Sat h (oZ v' cs::S):=by
 obtain⟨id,N,cap,rest,rfl,q2,q3,q4,I,s⟩:=AY s;rw[aN,yp] at q2;refine⟨.sl id 0 cs.length cap,?_,CM (rest:=c::rest) (by simp) (by simp;omega) q3 q4 I s⟩;cases cap with
 |exact m =>
  have I:m=N:=I;subst I;simp only[sliceV,hu,pY,fC,dw];rw[show(Nat.ble 0 cs.length&&Nat.ble cs.length m)=true by simp;omega,ag,h_,h_,mH,eH];cases Nat.beq m 0<;>rfl
 |rest z alt =>
  have I:z=1:=I;subst I;simp only[sliceV,hu,pY,fC,dw];rw[show(Nat.beq 1 1&&Nat.ble 1 1)=true from U,ag,show(Nat.ble 0 cs.length&&(Nat.ble cs.length (cs++[c]).length||Nat.ble cs.length (fJ h id 0 1)))=true by simp,ag,h_,mH,eH,show Nat.beq 0 0=true from U,ag]
theorem WY {x:V}{i:TypeInfo}(hx:storable x=true)(xS:srcV h 1 w=some ([x],1))(hl:cs.length<=1000000)(s:Sat h (oZ v cs::S))(hu:P.underlying t=some (.slice e))(hi:P.info? e=some i)(hz:zeroT P e=some z)(hk:i.size=1)(hb:i.bytes<=4096)(hzl:z.cells.length=1):
  ∃v' h',appendV P h #[t,t] v w=some (v',h')/\Sat h' (oZ v' (cs++[x])::S):=by
 obtain⟨id,N,cap,rest,rfl,q2,q3,q4,q5,sp⟩:=AY s;have hg:=sp.row (k:=0) U;have ob:(cs.length+1)*i.bytes<=140737488355328:=c_ (tC (by omega:cs.length+1<=1000001) hb) (by decide);have NB:lB (cs.length+1) i.bytes=true:=ow.2 ⟨by omega,ob⟩;rw[C3,bV] at q4;have I:∀ {h0:H} {S0:List aG},Sat h0 S0->Sat (j6 h0 1 cs [x] (cs.length+1)).2 (oZ (j6 h0 1 cs [x] (cs.length+1)).1 (cs++[x])::S0):=λ{h0 S0} s0=>by
  have e:(j6 h0 1 cs [x] (cs.length+1)).1=.sl h0.next 0 (cs++[x]).length (.rest 1 0):=by simp[j6]
  rw[e];have:=s0.new (.cells ((cs.length+1)*1) (cs++[x]) false);exact CM (rest:=[]) (by simp) (by simp) (by simp) (by rw[C3,q4.1];simp[hx]) U this
 unfold appendV;simp only[hu,hi,hz,hk,xS];rw[show(Nat.ble 1 1&&Nat.ble i.bytes 4096&&Nat.beq z.cells.length 1)=true by rw[aR.2 hb,qT hzl];rfl,ag];rw[show Nat.beq 1 0=false from U,aS];have uR:cs.length+1<=N->wrN h id (0+cs.length*1) [x]=some (h.put id (some (.cells N (cs++(x::rest.drop 1)) false)))/\Sat (h.put id (some (.cells N (cs++(x::rest.drop 1)) false))) (oZ (.sl id 0 (cs.length+1) cap) (cs++[x])::S):=λhN=>by
  constructor
  .rw[yZ hg (by rw[aN];exact q2) (by simp;omega)];simp only[eW,cH,yp];rw[ga U,vE,tq (by omega),show cs.length+1-cs.length=1 by omega];rfl
  .have:=sp.put (k:=0) (o':=.cells N (cs++(x::rest.drop 1)) false) U;have:=CM (cs:=cs++[x]) (rest:=rest.drop 1) (cap:=cap) (by simp) (by simp;omega) q3 (by
    rw[C3,q4.1];simp only[mG,hx,C6];rw[nB] at q4 ⊢;exact λy hy=>List.all_eq_true.1 q4.2 y (jd hy)) q5 this
   simpa using this
 have jl:rdN h id 0 (cs.length*1)=some cs:=by
  rw[pL hg (by rw[aN];exact q2),gi,cH,ga U]
 cases cap with
 |exact c =>
  have q5:c=N:=q5;subst q5;simp only;cases hq:Nat.ble (cs.length+1) c with
  |true =>
   obtain⟨e1,e2⟩:=uR (aR.1 hq);rw[ag,e1];exact⟨_,_,U,e2⟩
  |false =>
   rw[aS,NB,ag,jl];exact⟨_,_,U,I sp.drop⟩
 |rest y alt =>
  have q5:y=1:=q5;subst q5;have v7:fJ h id 0 1=N:=by simp only[fJ,hg];simp
  simp only;rw[show Nat.beq 1 1=true from U,ag,v7];cases hq:Nat.ble (cs.length+1) N with
  |true =>
   obtain⟨e1,e2⟩:=uR (aR.1 hq);rw[ag,e1];exact⟨_,_,U,e2⟩
  |false =>
   have hn:N<=cs.length:=by
    refine rD λq => ?_;rw[aR.2 (by omega)] at hq;cases hq
   rw[aS,NB,show Nat.ble 2 ((cs.length+1)*1)=true from aR.2 (by omega),kf,ag,jl,hg];exact⟨_,_,U,I sp.kill⟩
end
section
variable {h:H} {v:V} {l:List Nat} {k:Nat}
theorem WZ (s:Sat h (oZ v (cC l)::S))(hl:l.length<=1000000):
  ∃iv h1 w h2,buildSliceV Tryz.prog h 25 1 [(0,.int .i64 (k:Int))]=some (iv,h1)/\appendV Tryz.prog h1 #[25,25] v iv=some (w,h2)/\Sat h2 (oZ w (cC (l++[k]))::S):=by
 obtain⟨iv,h1,e1,s1⟩:=kY (P:=Tryz.prog) (k:=1) (x:=.int .i64 (k:Int)) s dm BW lI U (by decide) (by decide) U U;obtain⟨i1,c9,fc,pP⟩:=Ay;obtain⟨n,hn,I⟩:=S_ (s1.jm (j:=0) U (jg _ _ _).s);have wB:n=1:=by simpa[V.cells] using hn.symm
 subst wB;obtain⟨w,h2,e2,s2⟩:=WY (x:=.int .i64 (k:Int)) U I (by rw[jy];exact hl) (s1.ae [1,0]) dm c9 BW fc (by omega) U;have e:cC (l++[k])=cC l++[.int .i64 (k:Int)]:=by simp[cC]
 exact⟨iv,h1,w,h2,e1,e2,by rw[e];exact s2.del 1⟩
end
end Go.Proofs.YtdonpgpfplgigaaGreat.Am
