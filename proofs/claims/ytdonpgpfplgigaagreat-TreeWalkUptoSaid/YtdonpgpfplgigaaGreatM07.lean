/- TreeWalk: a part of its proof; conditions: its statement's. -/
import Derived.Test.YtdonpgpfplgigaaGreatM06
import Derived.Test.YtdonpgpfplgigaaGreatM05
set_option linter.defProp false
namespace Go.Proofs.YtdonpgpfplgigaaGreat.Am
open Go
def kz:=@Tryz.underlying28
def zD:=@Tryz.underlying92
def Cz:=@Tryz.underlying22
def Gz:=@Tryz.func157
variable {X Y C:aE} {cap:Cap} {e:En} {ε ep:bE} {A0:bE→aE} {pg:bE→Int→List Nat} {Q:Ex→List (Nat×V)→H→Prop} {fx:Fx} {h:H} {d:Int} {P P' P0:Int→List Nat} {kl kr kk:gG} {k lo:Ky} {now:List (Int×List Nat)} {cs eF dY qD J:List (List Nat)} {E:List (Nat×V)} {S:List aE} {es eL eR jA fP:List En} {fs:List sF} {ks:List gG} {b c Z data R M ot ps pO nR nT qs bu bl br:List Nat} {us ds:List V} {a x A N B g q r aN root L i n l kb j kd link extra alt xu nu xl nl xr nr Lx ui xi p9 p6 K nt:Nat} {F:Nat→List (List Nat)→Prop} {hi:Option Ky} {α:Type} {t te:TypeId} {u y z kv vv lv rv w:V}
theorem Tc {f:V→α→aE}{a b:PM}{c:α}: ∀ {l:List V} {m:List α} (k:Nat),(each f l m).p a b→(f u c).p a b→(each f (l.set k u) (m.set k c)).p a b:=by
 intro l
 induction l with
 |nil=>intro m k h _;cases m with
  |nil=>exact h
  |cons x m=>exact h.elim
 |cons v l I=>intro m k h hu;cases m with
  |nil=>exact h.elim
  |cons x m=>cases k with
   |zero=>exact⟨hu,h.2⟩
   |succ k=>exact⟨h.1,I k h.2 hu⟩
theorem abf {P:Program}{b c:Nat}{x:V}(I:look E a=some x)(hb:look E b=some y)(hc:look E c=some z): resLE P E h [.tmp a,.tmp b,.tmp c]=some (.aT [x,y,z]):=by
 simp only[resLE,mapO,resE,I,hb,hc]
section
variable {told:cE} {p:Nat} {k val:List Nat}
theorem Ol (s:Sat h (oP u c::cX us cs::S)): Sat h (cX (us.set i u) (cs.set i c)::S) :=
 s.two (aJ.cg _ _) (aJ.yX _ _) fun m r a b=>Tc i b a
def xW (v:V)(o:Option (List Nat)): aE:=match o with
 |none=>.pu (v=.aR)
 |some l=>aU v l
set_option maxHeartbeats 1000000 in
theorem Zf (hT:WI told)(hB:B≤2000)(hN:N≤2999)(cA:EI N B ε)(hw:NW N now)(gm:fY N R M (pgG now ε))(kH:jC N M ((root::ps)++ot))(jD:Nv (cS Z) (pgG now ε) L [] none cs es ps)(hp:bH (pgG now ε root) 204 0 L cs)(hL:L≤60)(hA:lam L cs≤A)(hX:cf X (cy kv k))(hY:cf Y (cy vv val))(hk:1≤k.length∧k.length≤96)(Lm:val.length≤128)
 (s:Sat h (GA g a p q r data aN now ε::X::Y::S)):
  Call ⟨Tryz.prog,told⟩ 14 [.ptr g 0,.int .i64 (root:Int),kv,vv] h fun v h'=>∃ag aF,EI N B ag∧Sm N ε ag∧NW N aF∧aF.length≤now.length+4*L+7∧((v=.aT [.aR,.bool false,.int .i64 7]∧N≤((root::ps)++ot).length+L+3∧Sat h' (GA g a p q r data aN aF ag::X::Y::S)) ∨
   (∃ov,v=.aT [ov,.bool (fI es k).isSome,.int .i64 0]∧Sat h' (GA g a p q r data aN aF ag::xW ov (fI es k)::X::Y::S)∧qC N root R ot Z (A+104) (L+1) (pgG now ε) (pgG aF ag) (qR es k val))):=by
 have hW:=hT.w
 have sM:=kH.mc root (by simp)
 refine Call.of_wp (hW.free _ rfl) Tryz.func14 rfl rfl (zK 10 rfl (zc rfl (wE hW (s.ae [1]) hX) ?_))
 rintro v h' ⟨rfl,rfl⟩
 rw[dB hk]
 refine zh rfl (dZ rfl rfl) (rfl) (zk 2 rfl (zo rfl (aD rfl rfl rfl (aY aK (s.aC (k:=2) rfl hY))) (zC rfl cV (decide_eq_false (by omega)) ?_)))
 refine zk 7 rfl (zo rfl (mI rfl (mki_of jT rfl)) (zk 2 rfl (zc rfl (JO hT.toWB (EH hW hB hw) (by omega) (by omega) hX jD hp cA rfl sM.2 (fun m hm=>(kH.mc m (by simp[hm])).2) s) ?_)))
 rintro v h ⟨w,x,n,lo,hi,eL,eR,pO,es',fx,ep,rfl,q1,q2,q3,q4,q5,q6,q7,q8,q9,nf,s⟩
 have qd:(dX fx).length=L:=by rw[dX,gh,bX,nf]
 have ko:(dX fx++[(x,0)]).length=L+1:=by rw[aX,qd];rfl
 obtain⟨id,off,e1,e2,_⟩:=tD (P:=Tryz.prog) (j:=L) (x:=x) (i:=0) eo kQ (by rw[ie (by omega),qd,gV];rfl) s
 have LQ:es'.length≤512:=by have:=q3.fits;rw[bX] at this;omega
 refine zk 10 rfl (zC rfl aH (rfl) (zk 7 rfl (zo rfl (aD rfl rfl rfl (s.fW (j:=0) (n:=L+1) rfl (by rw[j6,ko]) (by decide) eo)) ?_)))
 refine zo rfl (ak (r:=.int .i64 (L:Int)) rfl rfl (by rw[show((L:Nat):Int)=((L+1:Nat):Int)-1 by omega];exact ew (aq (by omega) (by omega)))) ?_
 refine zo rfl (bS (r:=.ptr id off) rfl rfl e1) (zf rfl (jb _ _) (zl rfl (e2 _ e_) (zk 6 rfl (zc rfl (wD hT.toWB hX q2 LQ (s.ae [1,3])) ?_))))
 rintro v h ⟨i,rfl,hl,s⟩
 refine zk 10 rfl (zc rfl (Y4 hW (s.ae [1,4]) hX hY (by omega) (by omega)) ?_)
 intro cb h s
 have D5:=(s.aC (k:=0) rfl (aZ _ _)).cells
 have s:=JQ (by omega) (s.eW.ae [4])
 have s:=s.ae [4]
 obtain⟨bv,cv,us,s⟩:=bh.1 s
 have sQ:=jZ (s.ae [3])
 rw[bX] at sQ
 refine zk 6 rfl (zY s 0 cN gz rfl (zc rfl (mO hW (s.ae [2]) (dK _ _ _) (by omega)) ?_))
 intro cl h s
 have s:=s.ae [0,0,0,0,0,0,0,2,2]
 obtain⟨Eb,GB⟩:=q1.side q7
 have jP:pgG now ep=pgG now ε:=gA q6
 rw[←jP] at s
 have Ax:fY N R M (pgG now ep):=by rw[jP];exact gm
 have tE:jC N M ((pO++[n])++ot):=kH.perm (q9.symm.append_right ot)
 have Qj:gH (cS Z) (pgG now ep) L root (fx.map (·.2)) 0 lo hi n eL eR pO:=by rw[jP];exact q1
 have Cu:=q2.put (v:=val) hl q7 hk.1 hk.2 Lm
 have Aq:qR es k val=eL++Aw es' i (sameE es' k i) (k,val)++eR:=by
  rw[←q8]
  exact Vl (by rw[q8];exact jD.ok.kK) hl Eb GB
 have nH:fI es k=fI es' k:=by rw[←q8];exact EN Eb GB
 have lT:bH (pgG now ep n) 204 0 0 (es'.map ey):=by rw[jP];exact q3
 have cU:=lT.fits
 rw[bX] at cU
 have Jc:∀c,xV L root (pgG now ep) (A+104) c fx:=fun c=>by
  cases fx with
  |nil =>
   have nf:L=0:=nf.symm
   subst nf
   exact cY hA (CU _ _)
  |cons e t =>
   intro d hd
   rw[jP] at hd
   rw[hd.uniq hp]
   omega
 have NV:(ey (k,val)).length≤225:=by simp[ey];omega
 have fin:∀ {ov:V} {o:Option (List Nat)} {E':List (Nat×V)} {h':H} {ag:bE} {aF:List (Int×List Nat)},fI es' k=o→EI N B ag→Sm N ep ag→NW N aF→aF.length≤now.length+4*L+7→Sat h' (GA g a p q r data aN aF ag::xW ov o::X::Y::S) →
   ((Has E' [(8,.aR),(9,.bool false),(10,.int .i64 7)]∧N≤((pO++[n])++ot).length+L+3)∨Has E' [(8,ov),(9,.bool o.isSome),(10,.int .i64 0)]∧qC N root R ot Z (A+104) (L+1) (pgG now ep) (pgG aF ag) (eL++Aw es' i (sameE es' k i) (k,val)++eR)) →
   ∃v,resLE Tryz.prog E' h' [.tmp 8,.tmp 9,.tmp 10]=some v∧∃ag aF,EI N B ag∧Sm N ε ag∧NW N aF∧aF.length≤now.length+4*L+7∧((v=.aT [.aR,.bool false,.int .i64 7]∧N≤((root::ps)++ot).length+L+3∧Sat h' (GA g a p q r data aN aF ag::X::Y::S)) ∨
    (∃ov,v=.aT [ov,.bool (fI es k).isSome,.int .i64 0]∧Sat h' (GA g a p q r data aN aF ag::xW ov (fI es k)::X::Y::S)∧qC N root R ot Z (A+104) (L+1) (pgG now ε) (pgG aF ag) (qR es k val))):=by
  intro ov o E' h' ag aF ho w1 w2 w3 w4 s' I
  rcases I with⟨⟨r1,r2,r3,_⟩,qH⟩|⟨⟨r1,r2,r3,_⟩,ht⟩
  ·exact⟨_,abf r1 r2 r3,ag,aF,w1,q6.trans w2,w3,w4,.inl ⟨rfl,by have:=q9.length_eq;simp only[aX,bq,cj] at this qH ⊢;omega,s'.del 1⟩⟩
  ·exact⟨_,abf r1 r2 r3,ag,aF,w1,q6.trans w2,w3,w4,.inr ⟨ov,by rw[nH,ho],by rw[nH,ho];exact s',by rw[Aq,←jP];exact ht⟩⟩
 cases hq:sameE es' k i with
 |true =>
  rw[hq] at Cu fin
  obtain⟨e,he,xp⟩:=EO hq
  have ho:=H6 q2.nodup he xp
  obtain⟨c1,c2,c3⟩:=vL q2 he
  have fy:=(List.getElem?_eq_some_iff.1 he).1
  have l8:(Aw es' i true (k,val)).map ey=(es'.map ey).set i (ey (k,val)):=CY
  have s:=(s.ae [4]).dup (aJ.yX _ _)
  have s:=s.ae [4,4,3,0]
  have s:Sat h (a_ x n 0 (pgG now ep n) (es'.map ey)::_):=bh.2 ⟨bv,cv,us,s⟩
  refine zk 16 rfl (zc rfl (DG hW c1 c2 c3 s) ?_)
  rintro Gu h s
  rw[DH] at s
  refine zc rfl (rP hW s (bj _ _) (by have:=(q2.sz e (aM he)).2.2;omega)) ?_
  intro ov h s
  have s:=((s.del 1).ae [3]).dQ kL
  obtain⟨Jd,CA,h4,e4,e5,s4⟩:=sK (P:=Tryz.prog) (i:=i) (x:=cb) s (by omega) D5.1 D5.2 aP dH
  refine zk 7 rfl (zo rfl (bS (r:=.ptr Jd CA) rfl rfl e4) (zS rfl (⟨_,e5,s4⟩) ?_))
  intro h s
  have s:=s.ae [2]
  obtain⟨bv3,cv3,us3,s⟩:=bh.1 s
  have s:=s.ae [1,7]
  refine zk 4 rfl (zY s 2 nN bF rfl (zk 2 rfl (zc rfl (Vm hW (i:=i) s (bj _ _) (bj _ _) lT c1 (by omega)) ?_)))
  have vS:=pZ (c':=ey (k,val)) c1
  have eZ:Aw es' i true (k,val)≠[]:=CL (by show 0<(es'.set i (k,val)).length;rw[cI];omega)
  rintro v0 h (⟨hf,pv,b',rfl,uq,s⟩|⟨hf,rfl,s⟩)
  ·have s:=s.ae [3,1,2,2]
   have s:Sat h (a_ x n 0 (pgG now ep n) (es'.map ey)::_):=bh.2 ⟨bv3,cv3,us3,s⟩
   have s:=((((s.del 7).del 6).del 5).del 3).del 2
   have s:=s.ae [3,1,0,0]
   refine zk 6 rfl ?_
   refine AH (was:=true) (v:=cl) (us:=us) (w:=w) (e0:=0) (ot:=ot) (root:=root) (R:=R) (L:=L) hT hB hN q5 hw Ax tE Qj Cu eZ nf hL (Jc _) (.inl ⟨rfl,b',by rw[l8];exact uq,s⟩) ⟨rfl,rfl,rfl,rfl,rfl,rfl,rfl,rfl,aa⟩ fun E' h' ag aF w1 w2 w3 w4 s' I=>⟨aa,fin (o:=some e.2) ho w1 w2 w3 w4 s' I⟩
  ·have s:=s.ae [2,0,1,1]
   have s:Sat h (a_ x n 0 (pgG now ep n) (es'.map ey)::_):=bh.2 ⟨bv3,cv3,us3,s⟩
   have s:=Ol (i:=i) (s.ae [1,3])
   have s:=s.ae [6,2,0,2,0,1,0]
   refine zk 6 rfl ?_
   refine AH (pv:=.aR) (was:=true) (v:=cl) (w:=w) (e0:=7) (ot:=ot) (root:=root) (R:=R) (L:=L) hT hB hN q5 hw Ax tE Qj Cu eZ nf hL (Jc _) (.inr ⟨rfl,by rw[l8,j5,cI];omega,by rw[l8,j5,cI,bX];omega,by rw[l8];exact s⟩) ⟨rfl,rfl,rfl,rfl,rfl,rfl,rfl,rfl,aa⟩ fun E' h' ag aF w1 w2 w3 w4 s' I=>⟨aa,fin (o:=some e.2) ho w1 w2 w3 w4 s' I⟩
 |false =>
  rw[hq] at Cu fin
  have ho:=hl.none q2 hq
  have eZ:Aw es' i false (k,val)≠[]:=CL (by show 0<(cW i (k,val) es').length;rw[kS hl.le];omega)
  have l8:(Aw es' i false (k,val)).map ey=cW i (ey (k,val)) (es'.map ey):=by simp[Aw,cW,ri,sW]
  refine zk 17 rfl (au.any rfl rfl rfl (OpR.of (R:=fun v h'=>v=.sl h.next 0 1 (.exact 1)∧h'=h.new (.cells 1 [cb] false)) (ku rfl (VG aP lq dH rfl D5.1 D5.2)) ⟨rfl,rfl⟩) ?_)
  rintro v' h' ⟨rfl,rfl⟩
  have s:=s.new (.cells 1 [cb] false)
  refine zc rfl (Ta hT (s.ae [1]) D5.2 (by rw[sQ];exact hl.le) (by omega)) ?_
  intro iv h s
  have s:=s.ae [3,5]
  refine zk 5 rfl (zY s 4 nN bF rfl (zk 2 rfl (zc rfl (Lh hW (i:=i) s (bj _ _) (bj _ _) lT (by rw[bX];exact hl.le) (by omega)) ?_)))
  rintro v0 h (⟨hf,pv,b',rfl,uq,s⟩|⟨hf,rfl,s⟩)
  ·have s:=s.ae [5,1,3,3]
   have s:Sat h (a_ x n 0 (pgG now ep n) (es'.map ey)::_):=bh.2 ⟨bv,cv,us,s⟩
   have s:=((((s.del 5).del 4).del 3).del 2).gQ (φ:=V.aR=.aR) rfl
   have s:Sat h (xW .aR none::_):=s
   have s:=s.ae [3,2,1,0]
   refine zk 6 rfl ?_
   refine AH (was:=false) (v:=iv) (us:=us) (w:=w) (e0:=0) (ot:=ot) (root:=root) (R:=R) (L:=L) hT hB hN q5 hw Ax tE Qj Cu eZ nf hL (Jc _) (.inl ⟨rfl,b',by rw[l8];exact uq,s⟩) ⟨rfl,rfl,rfl,rfl,rfl,rfl,rfl,rfl,aa⟩ fun E' h' ag aF w1 w2 w3 w4 s' I=>⟨aa,fin (o:=none) ho w1 w2 w3 w4 s' I⟩
  ·have s:=(s.ae [5]).dup (aJ.yX _ _)
   have s:=Oj (i:=i) (s.ae [3,0])
   have s:=s.ae [5,2,3,1]
   have s:Sat h (a_ x n 0 (pgG now ep n) (es'.map ey)::_):=bh.2 ⟨bv,cv,us,s⟩
   have s:=s.gQ (φ:=V.aR=.aR) rfl
   have s:Sat h (xW .aR none::_):=s
   have s:=s.ae [6,3,2,2,1,1,0]
   dsimp only[aL,bringA,getA] at s
   refine zk 6 rfl ?_
   refine AH (pv:=.aR) (was:=false) (v:=iv) (w:=w) (e0:=7) (ot:=ot) (root:=root) (R:=R) (L:=L) hT hB hN q5 hw Ax tE Qj Cu eZ nf hL (Jc _) (.inr ⟨rfl,by rw[l8,j5,kS (by rw[bX];exact hl.le),wA];omega,by rw[l8,j5,kS (by rw[bX];exact hl.le),wA,bX];omega,by rw[l8];exact s⟩) ⟨rfl,rfl,rfl,rfl,rfl,rfl,rfl,rfl,aa⟩ fun E' h' ag aF w1 w2 w3 w4 s' I=>⟨aa,fin (o:=none) ho w1 w2 w3 w4 s' I⟩
end
def dL (es:List En): List V:=es.flatMap fun e=>[.str e.1,.str e.2]
theorem eV : ∀(l:List En),(dL l).length=l.length*2:=by
 intro l
 induction l with
 |nil=>rfl
 |cons e l I=>rw[dL,gi,aX];show 2+(dL l).length=_;rw[I,bq];omega
theorem AI {a b:List En}: dL (a++b)=dL a++dL b:=pL
theorem Zg : ∀ {l:List En} {j:Nat} {e:En},l[j]?=some e→((dL l).drop (j*2)).take 2=[.str e.1,.str e.2]:=by
 intro l
 induction l with
 |nil=>simp
 |cons a t ih =>
  intro j e I
  cases j with
  |zero =>
   simp only[jE,aA] at I
   subst I
   rfl
  |succ j =>
   rw[show dL (a::t)=[.str a.1,.str a.2]++dL t from rfl,show(j+1)*2=2+j*2 by omega,←vt]
   exact ih I
theorem Je : ∀ {a b:List Nat},lessL a b=decide (a<b):=by
 intro a
 induction a with
 |nil=>intro b;cases b with
  |nil=>rfl
  |cons y b=>simp[lessL]
 |cons x a ih=>intro b;cases b with
  |nil=>simp[lessL]
  |cons y b =>
   simp only[lessL,GR,ih]
   by_cases I:x<y
   ·simp[I,Nat.blt_eq]
   ·by_cases h2:x=y
    ·subst h2;simp
    ·have e1:Nat.blt x y=false:=by
      cases q:Nat.blt x y with
      |false=>rfl
      |true=>exact absurd (fS.1 q) I
     rw[e1,fH h2]
     simp[I,h2]
section
variable {P:Program} {v:V}
theorem GC (hu:P.underlying t=some (.slice te))(I:bp P te=some 2)(he:es[i]?=some e)(s:Sat h (.arr 2 v (dL es)::S)):
  ∃id off,indexAddrV P t v (.int .i64 (i:Int))=some (.ptr id off)∧(∀t',isAggT P t'=some false→loadV P h t' (.ptr id off)=some (.str e.1))∧(∀t',isAggT P t'=some false→loadV P h t' (.ptr id (off+1))=some (.str e.2)) ∧
   (isAggT P te=some true→loadV P h te (.ptr id off)=some (.agg [.str e.1,.str e.2])):=by
 have hi:=(List.getElem?_eq_some_iff.1 he).1
 have hb:i*2+2≤(dL es).length:=by rw[eV];omega
 rcases (s.BU (j:=0) rfl (ji _ _ _)).2 with⟨_,q⟩|⟨id,n,cap,N,rest,rfl,hg,e1,e2,_⟩
 ·rw[q] at hb;simp at hb
 ·have hd:((dL es++rest).drop (i*2)).take 2=[.str e.1,.str e.2]:=by
   rw[←Zg he,GK (by omega),GL (by rw[fc];omega)]
  rw[eV] at e1
  refine⟨id,i*2,?_,fun t' ht=>D1 ht hg ?_,fun t' ht=>D1 ht hg ?_,fun ht => ?_⟩
  ·simp only[indexAddrV,hu,I,gU]
   rw[show(decide ((0:Int)≤(i:Int))&&decide ((i:Int)<(n:Int)))=true by simp;omega,ah,fh]
  ·rw[gF]
   have:=dn (fun l=>l[0]?) hd
   simpa[ig,fb] using this
  ·rw[gF]
   have:=dn (fun l=>l[1]?) hd
   simpa[ig,fb] using this
  ·simp only[loadV,ht,I]
   rw[qx hg (by rw[aX];exact e2) (by omega),hd]
   rfl
end
theorem Td (h:fI es k=none∨e.1≠k): fI (es++[e]) k=if e.1=k then some e.2 else fI es k:=by
 rw[EM]
 have I:fI [e] k=if e.1=k then some e.2 else none:=by
  by_cases q:e.1=k<;>simp[fI,q]
 rw[I]
 by_cases q:e.1=k
 ·rw[ay q,ay q]
  rcases h with h|h
  ·rw[h];rfl
  ·exact absurd q h
 ·rw[ai q,ai q]
  cases fI es k<;>rfl
theorem LR : ∃i,Tryz.prog.info? 53=some i∧i.size=2∧i.bytes≤4096 :=
 ⟨_,(show Tryz.prog.info? 53=some ((Tryz.prog.info? 53).getD default) by kernel_rfl),by kernel_rfl,pN (by kernel_rfl)⟩
def lu (es:List En)(k:Ky): List En:=es.filter fun e=>decide (e.1≠k)
section
variable {told:cE}
theorem LS {wv:V}{c:List En}(hl:c.length≤1000)(s:Sat h (.arr 2 wv (dL c)::S)): ∃I h1 w h2,buildSliceV Tryz.prog h 28 1 [(0,.agg [.str e.1,.str e.2])]=some (I,h1)∧appendV Tryz.prog h1 #[28,28] wv I=some (w,h2)∧Sat h2 (.arr 2 w (dL (c++[e]))::S):=by
 obtain⟨i1,dy,fy,o8⟩:=LR
 obtain⟨I,h1,e1,s1⟩:=lR (P:=Tryz.prog) (k:=2) (x:=.agg [.str e.1,.str e.2]) s kz Pe El rfl (by decide) (by decide) rfl rfl
 obtain⟨w,h2,e2,s2⟩:=h_ (s1.ae [1,0]) kz dy Pe fy o8 rfl (by decide) (by rw[eV];simp[V.cells];omega)
 have s2:=s2.del 1
 exact⟨I,h1,w,h2,e1,e2,by rw[AI];exact s2⟩
noncomputable def ltL : Code:=eu [1,1,1,1,0,1,0,0] ((Tryz.f22.body).getD .skip)
theorem Te (hT:W told)(iS:(es.map (·.1)).Nodup)(hlen:es.length≤400): ∀(j i:Nat) (v:V) (h:H) (E:List (Nat×V)) (Q:Ex→List (Nat×V)→H→Prop),i+j=es.length →
  Sat h (.arr 2 v (dL (lu (es.take i) k))::.arr 2 lv (dL es)::S)→Has E [(0,lv),(1,.str k),(7,v),(8,.str ((fI (es.take i) k).getD [])),(9,.bool (fI (es.take i) k).isSome),(10,.int .i64 (i:Int))] →
  (∀E' h' v',Has E' [(7,v'),(8,.str ((fI es k).getD [])),(9,.bool (fI es k).isSome)]→Sat h' (.arr 2 v' (dL (lu es k))::.arr 2 lv (dL es)::S)→Q (.exit 0) E' h')→WP ⟨Tryz.prog,told⟩ 39 (.loop ltL) E h Q:=by
 intro j
 induction j with
 |zero =>
  intro i v h E Q hi s hE hq
  have hi:i=es.length:=hi
  subst hi
  rw[mo] at hE s
  have GD:=s.fW (P:=Tryz.prog) (j:=1) (n:=es.length) rfl (eV _) (by decide) kz
  refine WP.loop (WP.has hE (zK 5 rfl (zo rfl (aD rfl rfl rfl GD) (zC rfl aO (by simp) ?_))))
  exact zk 2 rfl (WP.exit (hq _ _ v ⟨rfl,rfl,rfl,aa⟩ s))
 |succ j ih =>
  intro i v h E Q hi s hE hq
  obtain⟨e,he⟩:∃e,es[i]?=some e:=⟨_,aG (by omega)⟩
  have GD:=s.fW (P:=Tryz.prog) (j:=1) (n:=es.length) rfl (eV _) (by decide) kz
  have s0:=s.ae [1]
  dsimp only[bringA,getA,aL] at s0
  obtain⟨id,off,e1,e2,e3,e4⟩:=GC (P:=Tryz.prog) kz El he s0
  have uK:es.take (i+1)=es.take i++[e]:=by rw[qV,he];rfl
  have yA:fI (es.take i) k=none∨e.1≠k:=by
   by_cases q:e.1=k
   ·refine .inl (xC fun d hd hdk => ?_)
    have h1:(es.take (i+1)).map (·.1) |>.Nodup:=(ri (f:=fun e:En=>e.1) (l:=es) (i:=i+1)) ▸ iS.sublist (List.take_sublist _ _)
    rw[uK,qY,nA] at h1
    exact h1.2.2 d.1 (oz hd) e.1 (by simp) (by rw[hdk,q])
   ·exact .inr q
  have I:=Td yA
  rw[←uK] at I
  have H_:lu (es.take (i+1)) k=if e.1=k then lu (es.take i) k else lu (es.take i) k++[e]:=by
   unfold lu
   rw[uK,lI]
   by_cases q:e.1=k<;>simp[q]
  refine WP.loop (WP.has hE (zK 5 rfl (zo rfl (aD rfl rfl rfl GD) (zB rfl aO (by simp;omega) ?_))))
  refine zk 4 rfl (WP.block (zK 4 rfl (zo rfl (bS (r:=.ptr id off) rfl rfl e1) (zf rfl (BS _ _) (zl rfl (e2 _ IE) ?_)))))
  by_cases q:e.1=k
  ·rw[ay q] at I H_
   refine zm rfl (zo rfl (ak (r:=.bool true) rfl rfl (by simp only[binV,strV,qu,q,C3])) ?_)
   refine zv (zi rfl (zr rfl (zk 2 rfl (zo rfl (bS (r:=.ptr id off) rfl rfl e1) (zf rfl (Rx _ _) (zl rfl (e3 _ IE) (zk 2 rfl (zv (zr rfl (zm rfl (zb rfl (by exact aQ (aq (by omega) (by omega))) ?_)))))))))))
   refine za rfl (zv ?_)
   exact ih (i+1) v _ _ Q (by omega) (by rw[H_];exact s) ⟨rfl,rfl,rfl,by rw[I];rfl,by rw[I];rfl,rfl,aa⟩ hq
  ·rw[ai q] at I H_
   obtain⟨xv,h1,w,h2,f1,f2,s2⟩:=LS (e:=e) (by have:=ya (fun e:En=>decide (e.1≠k)) (es.take i);rw[cH] at this;unfold lu;omega) s
   refine zm rfl (zo rfl (ak (r:=.bool false) rfl rfl (by simp only[binV,strV,qu,q,yt])) ?_)
   refine zk 6 rfl (zo rfl (bS (r:=.ptr id off) rfl rfl e1) (zl rfl (e4 ada) (au.any rfl rfl rfl (OpR.of (R:=fun v h'=>v=xv∧h'=h1) (ku rfl f1) ⟨rfl,rfl⟩) ?_)))
   rintro xv h1 ⟨rfl,rfl⟩
   refine au.any rfl rfl rfl (OpR.of (R:=fun v h'=>v=w∧h'=h2) (j_ rfl rfl f2) ⟨rfl,rfl⟩) ?_
   rintro w h2 ⟨rfl,rfl⟩
   refine za rfl (zv (zr rfl (zm rfl (zb rfl (by exact aQ (aq (by omega) (by omega))) ?_))))
   refine za rfl (zv ?_)
   exact ih (i+1) _ _ _ Q (by omega) (by rw[H_];exact s2) ⟨rfl,rfl,rfl,by rw[I];rfl,by rw[I];rfl,rfl,aa⟩ hq
theorem LU (hT:W told)(I:(es.map (·.1)).Nodup)(hlen:es.length≤400)(s:Sat h (.arr 2 lv (dL es)::S)):
  Call ⟨Tryz.prog,told⟩ 22 [lv,.str k] h fun v h'=>∃v',v=.aT [v',.str ((fI es k).getD []),.bool (fI es k).isSome]∧Sat h' (.arr 2 v' (dL (lu es k))::.arr 2 lv (dL es)::S):=by
 refine Call.of_wp (hT.free _ rfl) Tryz.func22 rfl rfl (zK 23 rfl (WP.block ?_))
 have s:=s.mJ (k:=2)
 refine Te hT I hlen es.length 0 .aR _ _ _ (by omega) s ⟨rfl,rfl,rfl,rfl,rfl,rfl,aa⟩ fun E' h' v' eN s' => ?_
 have s:=s'
 exact WP.has eN (zK 9 rfl (WP.ret ⟨aa,_,rfl,v',rfl,s⟩))
end
theorem Tf (a b:Ky): a<b∨a=b∨b<a:=by
 by_cases I:a<b
 ·exact .inl I
 ·by_cases h2:b<a
  ·exact .inr (.inr h2)
  ·exact .inr (.inl (List.le_antisymm (List.not_lt.1 h2) (List.not_lt.1 I)))
theorem Tg : ∀ {es:List En},(es.Pairwise fun a b=>a.1<b.1)→lu es k=es.filter (fun e=>decide (e.1<k))++es.filter (fun e=>decide (k<e.1)):=by
 intro es
 induction es with
 |nil=>intro _;rfl
 |cons e t I =>
  intro hs
  obtain⟨h1,h2⟩:=List.pairwise_cons.1 hs
  have I:=I h2
  unfold lu at I ⊢
  simp only[ne_eq,decide_not] at I ⊢
  rcases Tf e.1 k with q|q|q
  ·have a:e.1≠k:=fun x=>absurd (x ▸ q) (mu _)
   have b:¬ k<e.1:=fun x=>pQ x q
   simp[a,b,q,I]
  ·have c:t.filter (fun e=>decide (e.1<k))=[]:=List.filter_eq_nil_iff.2 fun d hd=>by
    have:=h1 d hd
    rw[q] at this
    simpa using fun x=>pQ x this
   rw[c] at I
   simp[q,I,c,mu]
  ·have a:e.1≠k:=fun x=>absurd (x ▸ q) (mu _)
   have b:¬ e.1<k:=fun x=>pQ x q
   have c:t.filter (fun e=>decide (e.1<k))=[]:=List.filter_eq_nil_iff.2 fun d hd=>by
    have:=List.lt_trans q (h1 d hd)
    simpa using fun x=>pQ x this
   rw[c] at I
   simp[a,b,q,I,c]
theorem acz {A B:List En}(I:∀e∈A,e.1<k)(hB:∀e∈B,k<e.1)(he:(A++B)[i]?=some e): (e.1<k↔i<A.length):=by
 by_cases q:i<A.length
 ·rw[sU q] at he
  exact⟨fun _=>q,fun _=>I e (aM he)⟩
 ·rw[ie (by omega)] at he
  exact⟨fun x=>absurd x (pQ (hB e (aM he))),fun x=>absurd x q⟩
section
variable {told:cE} {A B:List En} {val:Ky}
noncomputable def lpL : Code:=eu [1,1,1,0,1,0,0] ((Tryz.f15.body).getD .skip)
theorem VM (hT:W told)(hA:∀e∈A,e.1<k)(hB:∀e∈B,k<e.1)(hlen:(A++B).length≤400){WZ x11:V}: ∀(j i:Nat) (h:H) (E:List (Nat×V)) (Q:Ex→List (Nat×V)→H→Prop),i+j=(A++B).length →
  Sat h (.arr 2 rv (dL (A++B))::S)→Has E [(1,.str k),(2,vv),(9,rv),(10,WZ),(11,x11),(12,.int .i64 ((min i A.length:Nat):Int)),(13,.int .i64 (i:Int))] →
  (∀E' h',Has E' [(1,.str k),(2,vv),(9,rv),(10,WZ),(11,x11),(12,.int .i64 (A.length:Int))]→Sat h' (.arr 2 rv (dL (A++B))::S)→Q (.exit 0) E' h')→WP ⟨Tryz.prog,told⟩ 55 (.loop lpL) E h Q:=by
 have hAl:A.length≤(A++B).length:=by rw[aX];omega
 intro j
 induction j with
 |zero =>
  intro i h E Q hi s hE hq
  have hi:i=(A++B).length:=hi
  subst hi
  rw[Nat.min_eq_right hAl] at hE
  have I:=s.fW (P:=Tryz.prog) (j:=0) (n:=(A++B).length) rfl (eV _) (by decide) kz
  refine WP.loop (WP.has hE (zK 5 rfl (zo rfl (aD rfl rfl rfl I) (zC rfl aO (by simp) ?_))))
  exact zk 2 rfl (WP.exit (hq _ _ ⟨rfl,rfl,rfl,rfl,rfl,rfl,aa⟩ s))
 |succ j ih =>
  intro i h E Q hi s hE hq
  obtain⟨e,he⟩:∃e,(A++B)[i]?=some e:=⟨_,aG (by omega)⟩
  have I:=s.fW (P:=Tryz.prog) (j:=0) (n:=(A++B).length) rfl (eV _) (by decide) kz
  obtain⟨id,off,e1,e2,_,_⟩:=GC (P:=Tryz.prog) kz El he s
  have js:=acz hA hB he
  refine WP.loop (WP.has hE (zK 5 rfl (zo rfl (aD rfl rfl rfl I) (zB rfl aO (by rw[aX] at hi ⊢;simp;omega) ?_))))
  refine zk 4 rfl (WP.block (zK 4 rfl (zo rfl (bS (r:=.ptr id off) rfl rfl e1) (zf rfl (BS _ _) (zl rfl (e2 _ IE) ?_)))))
  by_cases q:e.1<k
  ·have hm:min (i+1) A.length=i+1:=by have:=js.1 q;omega
   refine zm rfl (zo rfl (ak (r:=.bool true) rfl rfl (by simp only[binV,strV,Je,q,C3])) ?_)
   refine zk 4 rfl (zb rfl (by exact aQ (aq (by omega) (by omega))) ?_)
   refine za rfl (zv (zr rfl (zm rfl (zb rfl (by exact aQ (aq (by omega) (by omega))) ?_))))
   refine za rfl (zv ?_)
   exact ih (i+1) _ _ Q (by omega) s ⟨rfl,rfl,rfl,rfl,rfl,by rw[hm];rfl,rfl,aa⟩ hq
  ·skip
   refine zm rfl (zo rfl (ak (r:=.bool false) rfl rfl (by simp only[binV,strV,Je,q,yt])) ?_)
   refine zv (zj rfl (WP.skip (zr rfl (zm rfl (zb rfl (by exact aQ (aq (by omega) (by omega))) ?_)))))
   refine za rfl (zv ?_)
   have hm:min (i+1) A.length=min i A.length:=by
    have:¬ i<A.length:=fun x=>q (js.2 x)
    omega
   exact ih (i+1) _ _ Q (by omega) s ⟨rfl,rfl,rfl,rfl,rfl,by rw[hm];rfl,rfl,aa⟩ hq
end
section
variable {P:Program} {v:V} {cs:List V} {k:Nat}
theorem LV {m:Nat}(Br:srcV h k w=some (ds,m))(hm:ds.length=m*k)(sn:ds.all storable=true)(s:Sat h (.arr k v cs::S)){e:TypeId}{i:TypeInfo}(hu:P.underlying t=some (.slice e))(hi:P.info? e=some i)(hz:zeroT P e=some z)(hk:i.size=k)(hb:i.bytes≤4096)(hl:z.cells.length=k)
 (h1:1≤k)(fJ:cs.length+ds.length≤1073741824):
  ∃v' h',appendV P h #[t,t] v w=some (v',h')∧Sat h' (.arr k v' (cs++ds)::S):=by
 have adh:=s.Pp (j:=0) rfl
 have kj:(cs++ds).all storable=true:=by grind
 have I:∀n:Nat,n*k=cs.length→mA (n+m) i.bytes=true:=fun n hn=>by
  have e2:n+m≤(n+m)*k:=Nat.le_mul_of_pos_right _ h1
  have e3:(n+m)*i.bytes≤(n+m)*4096:=CQ _ hb
  grind[rU]
 have nJ:∀(σ:H) (n:Nat) (T:List aE),Sat σ T→n*k=cs.length→1≤m→Sat (mB σ k cs ds (n+m)).2 (.arr k (mB σ k cs ds (n+m)).1 (cs++ds)::T):=by
  intro σ n T sT hn l8
  refine(sT.new (.cells ((n+m)*k) (cs++ds) false)).dQ fun a r DZ=>⟨kj,.inr ⟨σ.next,n+m,.rest k 0,(n+m)*k,[],rfl,by rw[fe];exact DZ,by grind,by grind,rfl,rfl,rfl,rfl,by omega⟩⟩
 unfold appendV
 simp only[hu,hi,hz,hk,hl,Br]
 rw[show(Nat.ble 1 k&&Nat.ble i.bytes 4096&&Nat.beq k k)=true by simp_all,ah]
 cases vP:Nat.beq m 0 with
 |true =>
  have:m=0:=beq_iff.1 vP
  subst this
  have wW:ds=[]:=ic (by omega)
  subst wW
  obtain⟨m,r,q1,q2,q3⟩:=s.at (k:=0) rfl
  rcases q3.2 with⟨rfl,rfl⟩|⟨id,n,cap,N,rest,rfl,hg,e1,e2,e3,e4⟩
  ·grind
  ·grind
 |false =>
  have l8:1≤m:=by
   grind[rS]
  obtain⟨a,r,q1,q2,q3⟩:=s.at (k:=0) rfl
  rcases q3.2 with⟨rfl,rfl⟩|⟨id,n,cap,N,rest,rfl,hg,e1,e2,e3,e4⟩
  ·have hg:=I 0 (by simp)
   rw[fh] at hg
   simp only[hg,ah]
   have:=nJ h 0 (.arr k .aR []::S) s (by simp) l8
   rw[fh] at this
   refine⟨_,_,rfl,?_⟩
   exact(this.ae [1]).drop
  ·cases cap with
   |exact c =>
    obtain⟨e4,e5⟩:=e4
    simp only[fh]
    have lz:(cs++rest).take cs.length=cs:=gq rfl
    cases hq:Nat.ble (n+m) c with
    |true =>
     have Bh:=aW.1 hq
     have cU:n*k+ds.length≤N:=by rw[hm,←rj,e4];exact pK _ Bh
     rw[Dv (q1 _ _ hg) (by grind) cU]
     obtain⟨m',r',p1,p2,p3,x1,x2,x3,x4,x5,⟨_,x6⟩,x7⟩:=s.ok
     have oX:x1 id=some (.cells N (cs++rest) false):=by
      rcases x6 with⟨x6,_⟩|⟨wI,n',Bt,N',WM,x6,x8,x9,WZ,_⟩
      ·cases x6
      ·injection x6 with y1 y2 y3 y4
       subst y1
       rw[x8]
       have:=p1 _ _ (x4 _ _ x8)
       rw[q1 _ _ hg] at this
       injection this with this
       rw[this]
     have s0:Sat h (pt id (.cells N (cs++rest) false)::S):=⟨s.wf,m',r',p1,p2,p3,x1,x2,x3,x4,x5,oX,x7⟩
     have s1:=s0.put (k:=0) (o':=.cells N ((cs++rest).take (n*k)++(ds++(cs++rest).drop (n*k+ds.length))) false) rfl
     refine⟨_,_,rfl,Sat.dQ s1 fun a' r'' ha=>⟨kj,.inr ⟨id,n+m,.exact c,N,rest.drop ds.length,rfl,?_,by grind,by grind,?_,e4,Bh⟩⟩⟩
     ·have ha':a' id=some (.cells N ((cs++rest).take (n*k)++(ds++(cs++rest).drop (n*k+ds.length))) false):=ha
      simp_all[yj]
     ·grind
    |false =>
     rw[aV,I n e1.symm,ah,qx (q1 _ _ hg) (by grind) (by omega)]
     rw[ij,←e1,lz]
     have:=nJ h n _ s e1.symm l8
     exact⟨_,_,rfl,(this.ae [1]).drop⟩
   |rest e' alt =>
    obtain⟨ek,rfl,rfl,e7⟩:=e4
    have ek:=ek.symm
    subst ek
    simp only[kE,ah,fe,fh] at hg e2 ⊢
    have zU:fU h id 0 k=n:=by
     simp only[fU,q1 _ _ hg]
     grind[Nat.mul_div_cancel]
    rw[zU]
    rw[show Nat.ble (n+m) n=false by
     grind[aW],aV,I n e1.symm,show Nat.ble 2 ((n+m)*k)=true from aW.2 (by
      have:2*1≤(n+m)*k:=vr (by omega) h1
      omega),lN,ah,qx (q1 _ _ hg) (by omega) (by omega),q1 _ _ hg]
    simp only
    obtain⟨m',r',p1,p2,p3,x1,x2,x3,x4,x5,⟨_,x6⟩,x7⟩:=s.ok
    have oX:x1 id=some (.cells N cs false):=by
     grind
    have s0:Sat h (pt id (.cells N cs false)::S):=⟨s.wf,m',r',p1,p2,p3,x1,x2,x3,x4,x5,oX,x7⟩
    have:=nJ (h.put id none) n _ s0.kill e1.symm l8
    rw[ij,gT (by omega)]
    exact⟨_,_,rfl,this⟩
end
section
variable {told:cE} {P:Program} {m:Nat} {val:Ky}
theorem Th : dL (es.take m)=(dL es).take (m*2):=by
 by_cases hm:m≤es.length
 ·have:dL es=dL (es.take m)++dL (es.drop m):=by rw[←AI,jG]
  rw[this,gq (by rw[eV,cH];omega)]
 ·rw[gT (by omega),gT (by rw[eV];omega)]
theorem Ti : dL (es.drop m)=(dL es).drop (m*2):=by
 by_cases hm:m≤es.length
 ·have:dL es=dL (es.take m)++dL (es.drop m):=by rw[←AI,jG]
  rw[this,vq (by rw[eV,cH];omega)]
 ·rw[vk (by omega),vk (by rw[eV];omega)]
  rfl
theorem LW {id off len:Nat}{row:List V}(I:T.get h.tr id=some (.cells N row false))(hl:row.length=N)(hb:off+len*2≤N): srcV h 2 (.sl id off len cap)=some ((row.drop off).take (len*2),len):=by
 simp only[srcV,qx I hl hb,gJ]
theorem Om (hu:P.underlying t=some (.slice te))(rM:bp P te=some 2)(s:Sat h (.arr 2 rv (dL es)::S))(hm:m≤es.length):
  (∃w,sliceV P h t rv none (some m) none=some w∧srcV h 2 w=some (dL (es.take m),m))∧∃w,sliceV P h t rv (some m) none none=some w∧srcV h 2 w=some (dL (es.drop m),es.length-m):=by
 rcases (s.BU (j:=0) rfl (ji _ _ _)).2 with⟨rfl,q⟩|⟨id,n,cap,N,rest,rfl,hg,e1,e2,_,e4⟩
 ·have h0:es.length=0:=by have:=dn List.length q;rw[eV,cj] at this;omega
  have:es=[]:=ic h0
  subst this
  have vP:m=0:=by simpa using hm
  subst vP
  exact⟨⟨.aR,by simp only[sliceV,hu,rM];rfl,rfl⟩,⟨.aR,by simp only[sliceV,hu,rM];rfl,rfl⟩⟩
 ·rw[eV] at e1 e2
  have hn:n=es.length:=by omega
  subst hn
  have hl:(dL es++rest).length=N:=by rw[aX,eV];exact e2
  have k1:((dL es++rest).drop 0).take (m*2)=dL (es.take m):=by
   rw[ij,GL (by rw[eV];omega),Th]
  have k2:((dL es++rest).drop (m*2)).take ((es.length-m)*2)=dL (es.drop m):=by
   rw[GK (by rw[eV];omega),gq (by rw[fc,eV];omega),Ti]
  have s1:∀I,srcV h 2 (.sl id 0 m I)=some (dL (es.take m),m):=fun I=>by rw[LW hg hl (by omega),k1]
  have s2:∀I,srcV h 2 (.sl id (m*2) (es.length-m) I)=some (dL (es.drop m),es.length-m):=fun I=>by rw[LW hg hl (by omega),k2]
  cases cap with
  |exact c =>
   have e4:N=c*2∧es.length≤c:=e4
   refine⟨⟨_,?_,s1 (.exact c)⟩,?_⟩
   ·simp only[sliceV,hu,rM,fR,dD]
    rw[show(Nat.ble 0 m&&Nat.ble m c)=true by simp;omega,ah,nC,eS,iW,iW]
    cases Nat.beq c 0<;>rfl
   ·by_cases IM:c=m
    ·refine⟨.sl id 0 (es.length-m) (.exact (c-m)),?_,?_⟩
     ·simp only[sliceV,hu,rM,fR,dD]
      rw[show(Nat.ble m es.length&&Nat.ble es.length c)=true by simp;omega,ah,rS IM,ah]
     ·have h0:es.length-m=0:=by omega
      rw[LW hg hl (by omega),h0,vk (by omega:es.length≤m)]
      simp[dL]
    ·refine⟨_,?_,s2 (.exact (c-m))⟩
     simp only[sliceV,hu,rM,fR,dD]
     rw[show(Nat.ble m es.length&&Nat.ble es.length c)=true by simp;omega,ah,fH IM,aV,fh]
  |rest z alt =>
   have e4:z=2∧_:=e4
   have hz:(Nat.beq z 2&&Nat.ble 1 2)=true:=by simp[e4.1]
   refine⟨⟨.sl id 0 m (.rest 2 (cond (Nat.beq 0 0) alt (cond (Nat.blt 0 m) 0 0))),?_,s1 _⟩,⟨.sl id (m*2) (es.length-m) (.rest 2 (cond (Nat.beq m 0) alt (cond (Nat.blt m es.length) (0+m*2) 0))),?_,s2 _⟩⟩
   ·simp only[sliceV,hu,rM,fR,dD]
    rw[hz,ah,show(Nat.ble 0 m&&(Nat.ble m es.length||Nat.ble m (fU h id 0 2)))=true by simp;omega,ah]
    simp
   ·simp only[sliceV,hu,rM,fR,dD]
    rw[hz,ah,show(Nat.ble m es.length&&(Nat.ble es.length es.length||Nat.ble es.length (fU h id 0 2)))=true by simp;omega,ah,fh]
end
section
variable {told:cE} {val:Ky}
theorem On : (dL es).all storable=true:=by
 rw[oA]
 intro v hv
 obtain⟨e,_,I⟩:=List.mem_flatMap.1 hv
 simp only[gj,jY,nE] at I
 rcases I with rfl|rfl<;>rfl
theorem VN : (qR es k val).length≤es.length+1:=by
 unfold qR
 induction es with
 |nil=>simp
 |cons e t I =>
  rcases Tf e.1 k with q|q|q
  ·have b:¬ k<e.1:=fun x=>pQ x q
   simp[q,b] at I ⊢;omega
  ·simp[q,mu] at I ⊢;omega
  ·have b:¬ e.1<k:=fun x=>pQ x q
   simp[q,b] at I ⊢;omega
theorem Zh (hT:W told)(hs:es.Pairwise fun a b=>a.1<b.1)(hlen:es.length≤300)(s:Sat h (.arr 2 lv (dL es)::S)):
  Call ⟨Tryz.prog,told⟩ 15 [lv,.str k,.str val] h fun v h'=>∃v',v=.aT [v',.str ((fI es k).getD []),.bool (fI es k).isSome]∧Sat h' (.arr 2 v' (dL (qR es k val))::S):=by
 have iS:(es.map (·.1)).Nodup:=by
  rw[MX,List.pairwise_map]
  exact hs.imp fun h q=>absurd (q ▸ h) (mu _)
 obtain⟨i1,I,fy,o8⟩:=LR
 refine Call.of_wp (hT.free _ rfl) Tryz.func15 rfl rfl (zK 10 rfl (zc rfl (LU hT iS (by omega) s) ?_))
 rintro v h ⟨rv,rfl,s⟩
 obtain⟨A,hA⟩:∃A,A=es.filter (fun e=>decide (e.1<k)):=⟨_,rfl⟩
 obtain⟨B,hB⟩:∃B,B=es.filter (fun e=>decide (k<e.1)):=⟨_,rfl⟩
 have hAB:lu es k=A++B:=by rw[hA,hB];exact Tg hs
 have Aq:qR es k val=A++[(k,val)]++B:=by rw[hA,hB];simp[qR]
 have WA:A.length≤es.length:=by rw[hA];exact ya _ _
 have D4:B.length≤es.length:=by rw[hB];exact ya _ _
 have Jc:∀e∈A,e.1<k:=fun e he=>by rw[hA] at he;exact pN (List.mem_filter.1 he).2
 have hB1:∀e∈B,k<e.1:=fun e he=>by rw[hB] at he;exact pN (List.mem_filter.1 he).2
 have adV:(lu es k).length≤es.length:=ya _ _
 rw[hAB] at s adV
 rw[Aq]
 refine zk 17 rfl (WP.block (VM hT Jc hB1 (by omega) (A++B).length 0 _ _ _ (by omega) s ⟨rfl,rfl,rfl,rfl,rfl,by rw[Nat.zero_min];rfl,rfl,aa⟩ fun E' h' eN s' => ?_))
 have s:=s'
 refine WP.has eN ?_
 obtain⟨w1,f1,f2⟩:=(Om (P:=Tryz.prog) (m:=A.length) kz El s (by rw[aX];omega)).1
 rw[gq rfl] at f2
 have s:=s.mJ (k:=2)
 obtain⟨v2,h2,g1,s2⟩:=LV (P:=Tryz.prog) f2 (eV A) On s kz I Pe fy o8 rfl (by decide) (by rw[eV];simp;omega)
 rw[dG] at s2
 refine zK 9 rfl (zo rfl (bO (p:=none) (q:=some (.int .i64 (A.length:Int))) (m:=none) (p':=none) (q':=some A.length) (m':=none) rfl rfl rfl rfl rfl (by rw[bT (by omega)];rfl) rfl f1) ?_)
 refine au.any rfl rfl rfl (OpR.of (R:=fun v h'=>v=v2∧h'=h2) (j_ rfl rfl g1) ⟨rfl,rfl⟩) ?_
 rintro v2 h2 ⟨rfl,rfl⟩
 obtain⟨xv,h3,w3,h4,f3,f4,s3⟩:=LS (e:=(k,val)) (by omega) s2
 refine zk 7 rfl (zo rfl (cQ (r:=.agg [.str k,.str val]) rfl (by rw[adb];rfl)) ?_)
 refine au.any rfl rfl rfl (OpR.of (R:=fun v h'=>v=xv∧h'=h3) (ku rfl f3) ⟨rfl,rfl⟩) ?_
 rintro xv h3 ⟨rfl,rfl⟩
 refine au.any rfl rfl rfl (OpR.of (R:=fun v h'=>v=w3∧h'=h4) (j_ rfl rfl f4) ⟨rfl,rfl⟩) ?_
 rintro w3 h4 ⟨rfl,rfl⟩
 have s4:=s3.ae [1]
 obtain⟨w5,f5,f6⟩:=(Om (P:=Tryz.prog) (m:=A.length) kz El s4 (by rw[aX];omega)).2
 have hBl:(A++B).length-A.length=B.length:=by rw[aX];omega
 rw[vq rfl,hBl] at f6
 obtain⟨v6,h6,g6,s6⟩:=LV (P:=Tryz.prog) f6 (eV B) On s3 kz I Pe fy o8 rfl (by decide) (by rw[eV,eV];simp;omega)
 rw[←AI] at s6
 refine zk 7 rfl (zo rfl (bO (p:=some (.int .i64 (A.length:Int))) (q:=none) (m:=none) (p':=some A.length) (q':=none) (m':=none) rfl rfl rfl rfl (by rw[bT (by omega)];rfl) rfl rfl f5) ?_)
 refine au.any rfl rfl rfl (OpR.of (R:=fun v h'=>v=v6∧h'=h6) (j_ rfl rfl g6) ⟨rfl,rfl⟩) ?_
 rintro v6 h6 ⟨rfl,rfl⟩
 have s:=(s6.del 2).del 1
 exact zk 6 rfl (WP.ret ⟨aa,_,rfl,_,rfl,s⟩)
end
section
variable {told:cE}
theorem VO : gp 0 (ey e)=e.1:=DC
theorem AJ (I:W told)(jU:jc lo hi es)(he:es[i]?=some e)(s:Sat h (a_ x n 0 b (es.map ey)::S)):
  Call ⟨Tryz.prog,told⟩ 56 [.ptr x 0,.int .i64 (i:Int)] h fun v h'=>∃kv vv,v=.aT [kv,vv,.bool true,.int .i64 0]∧Sat h' (aU kv e.1::aU vv e.2::a_ x n 0 b (es.map ey)::S):=by
 obtain⟨c1,c2,c3⟩:=vL jU he
 obtain⟨z1,z2,z3⟩:=jU.sz e (aM he)
 refine Call.of_wp (I.free _ rfl) Tryz.func56 rfl rfl (zK 11 rfl (zc rfl (y8 I c1 c2 (by omega) c3 s) ?_))
 intro kv h s
 rw[VO] at s
 refine zc rfl (rP I s (bj _ _) (by omega)) ?_
 intro kb h s
 have s:=(s.del 1).ae [1]
 refine zk 2 rfl (zc rfl (DG I c1 c2 c3 s) ?_)
 intro vv h s
 rw[DH] at s
 refine zc rfl (rP I s (bj _ _) (by omega)) ?_
 intro vb h s
 exact zk 5 rfl (WP.ret ⟨aa,_,rfl,kb,vb,rfl,(s.del 1).ae [2,0,0]⟩)
end
section
theorem Nv.whole (h:Nv F P l lo hi cs es ps): Nv F P l [] none cs es ps :=
 h.Lu (by cases lo with|nil=>exact nD _|cons x t=>exact pP (ym _ _)) fun b I=>by cases I
theorem gH.zero : ∀ {fs:List sF} {l:Nat} {lo:Ky} {hi:Option Ky} {n:Nat} {eL eR:List En} {pO:List Nat},gH F P L r fs l lo hi n eL eR pO→(∀f∈fs,f.i=0)→eL=[]:=by
 intro fs
 induction fs with
 |nil=>rintro l lo hi n eL eR pO ⟨_,_,_,_,rfl,_⟩ _;rfl
 |cons f fs ih =>
  rintro l lo hi n eL eR pO ⟨fQ,eT,m9,jd,iM,kk,h1,_,_,_,_,_,_,_,_,rfl,_⟩ I
  rw[ih h1 fun g hg=>I g (bA _ hg),I f bB]
  rfl
theorem gH.last : ∀ {fs:List sF} {l:Nat} {lo:Ky} {hi:Option Ky} {n:Nat} {eL eR:List En} {pO:List Nat},gH F P L r fs l lo hi n eL eR pO→(∀f∈fs,f.i+1=f.ks.length)→eR=[]:=by
 intro fs
 induction fs with
 |nil=>rintro l lo hi n eL eR pO ⟨_,_,_,_,_,rfl,_⟩ _;rfl
 |cons f fs ih =>
  rintro l lo hi n eL eR pO ⟨fQ,eT,m9,jd,iM,kk,h1,_,_,_,_,_,_,_,_,_,rfl,_⟩ I
  rw[ih h1 fun g hg=>I g (bA _ hg),vk (by have:=I f bB;omega)]
  rfl
def ChD (d:Int)(ks:List gG)(i:Nat): Prop:=(0<d→i=0)∧(d<0→i+1=ks.length)
end
section
variable {told:cE}
theorem abg (hT:W told)(hd:d=1∨d = -1)(hS:Sep lo hi ks)(hlen:ks.length≤512)(s:Sat h (a_ x n l b (bP ks)::pt kb (.cells 1 [.int .i64 d] false)::S)):
  Call ⟨Tryz.prog,told⟩ 135 [.ptr x 0,.ptr kb 0] h fun v h'=>∃i:Nat,v=.int .i64 (i:Int)∧ChD d ks i∧i<ks.length∧Sat h' (a_ x n l b (bP ks)::pt kb (.cells 1 [.int .i64 d] false)::S):=by
 have hn:0<ks.length:=by
  rcases pM ks.length with q|q
  ·exact absurd (ic q) hS.ne
  ·exact q
 have s0:=s
 obtain⟨bv,cv,us,s⟩:=bh.1 s
 have I:lenV Tryz.prog h 98 cv=some (.int .i64 (ks.length:Int)):=by
  have:=iJ (P:=Tryz.prog) aP s
  rwa [eC] at this
 refine Call.of_wp (hT.free _ rfl) Tryz.func135 rfl rfl (zK 7 rfl (zy s 4 b9 rfl ?_))
 rcases hd with rfl|rfl
 ·skip
  exact zB rfl cV (rfl) (zk 6 rfl (WP.ret ⟨aa,_,rfl,0,rfl,⟨fun _=>rfl,fun q=>by omega⟩,hn,s0⟩))
 ·skip
  refine zC rfl cV (rfl) (zk 7 rfl (zY s 0 cN gz rfl (zo rfl (aD rfl rfl rfl I) (zo rfl (ak (r:=.int .i64 ((ks.length-1:Nat):Int)) rfl rfl (by rw[show((ks.length-1:Nat):Int)=(ks.length:Int)-1 by omega];exact ew (aq (by omega) (by omega)))) ?_))))
  exact zk 2 rfl (WP.ret ⟨aa,_,rfl,ks.length-1,rfl,⟨fun q=>by omega,fun _=>by omega⟩,by omega,s0⟩)
end
section
variable {told:cE} {A:bE→aE} {c0:List (Nat×Nat)}
theorem acA {P:Program}{e:TypeId}{c:List (Nat×Nat)}(hu:P.underlying t=some (.slice e))(I:bp P e=some 2)(hj:c[j]?=some (x,i))(s:Sat h (wyA w c::S)):
  ∃id off,indexAddrV P t w (.int .i64 (j:Int))=some (.ptr id off)∧(∀t',isAggT P t'=some false→loadV P h t' (.ptr id off)=some (.ptr x 0))∧∀t',isAggT P t'=some false→loadV P h t' (.ptr id (off+1))=some (.int .i64 (i:Int)):=by
 have IL:=(List.getElem?_eq_some_iff.1 hj).1
 obtain⟨id,cap,N,row,rfl,q1,q2,q3,q4,q5,s⟩:=DI s
 have hr:=s.aap (k:=0) rfl
 have hd:(row.drop (j*2)).take 2=[.ptr x 0,.int .i64 (i:Int)]:=by
  rw[←Oe hj,←q3,lM,q_,yn (by omega)]
 refine⟨id,j*2,?_,fun t' ht=>D1 ht hr ?_,fun t' ht=>D1 ht hr ?_⟩
 ·simp only[indexAddrV,hu,I,gU]
  rw[show(decide ((0:Int)≤(j:Int))&&decide ((j:Int)<(c.length:Int)))=true by simp;omega,ah,fh]
 ·rw[gF]
  have:=dn (fun l=>l[0]?) hd
  simpa[ig,fb] using this
 ·rw[gF]
  have:=dn (fun l=>l[1]?) hd
  simpa[ig,fb] using this
noncomputable def nxL : Code:=eu [1,0,1,0,0] ((Tryz.f57.body).getD .skip)
theorem Tj (hT:W told)(hR:rO told N B rv A pg)(hN:N≤65536)(hL:L≤60)(hd:d=1∨d = -1): ∀(fx:Fx) (l n:Nat) (lo:Ky) (hi:Option Ky) (eL eR:List En) (pO:List Nat) (ε:bE) (c1:List (Nat×Nat)) (h:H) (E:List (Nat×V)) (S:List aE) (Q:Ex→List (Nat×V)→H→Prop),
  gH F P L root (fx.map (·.2)) l lo hi n eL eR pO→EI N B ε→pg ε=P→(∀m∈pO,m<N)→fx.length+l=L →
  Sat h (wyA w (dX fx++c1)::nodsA P (l+1) fx::A ε::pt kb (.cells 1 [.int .i64 d] false)::S)→Has E [(0,rv),(1,w),(5,.ptr kb 0),(8,.int .i64 ((fx.length:Int)-1))] →
  (∀E' h' ag,(0<d→eR=[])→(d<0→eL=[])→EI N B ag→Sm N ε ag→Sat h' (A ag::S)→Q (.exit 0) E' h') →
  (∀E' h' ag y m fP e2 Jf fy,(0<d→eR=fP++e2)→(d<0→eL=e2++fP)→jc Jf fy fP→F 0 (fP.map ey)→fP.length≤512→EI N B ag→Sm N ε ag→Has E' [(6,.ptr y 0),(7,.int .i64 0)]→Sat h' (a_ y m 0 (P m) (fP.map ey)::A ag::S)→Q .ret E' h')→WP ⟨Tryz.prog,told⟩ 64 (.loop nxL) E h Q:=by
 intro fx
 induction fx with
 |nil =>
  intro l n lo hi eL eR pO ε c1 h E S Q mH cA fO oK hlen s hE hq hr
  obtain⟨rfl,rfl,rfl,rfl,rfl,rfl,rfl⟩:=mH
  refine WP.loop (WP.has hE (zK 4 rfl (zC rfl mV (by simp) ?_)))
  exact zk 2 rfl (WP.exit (hq _ _ ε (fun _=>rfl) (fun _=>rfl) cA (Sm.refl N ε) (((s.del 3).del 1).drop)))
 |cons e t ih =>
  intro l n lo hi eL eR pO ε c1 h E S Q mH cA fO oK hlen s hE hq hr
  obtain⟨fQ,eT,m9,jd,iM,kk,h1,h2,h3,h4,h5,h6,h7,h8,h9,uG,Ft,h12⟩:=mH
  have h2:e.2.ks[e.2.i]?=some kk:=h2
  have h6:bH (P e.2.pg) 204 0 (l+1) (bP e.2.ks):=h6
  have h7:Sep fQ eT e.2.ks:=h7
  have uG:eL=m9++(e.2.ks.take e.2.i).flatMap (·.es):=uG
  have Ft:eR=(e.2.ks.drop (e.2.i+1)).flatMap (·.es)++jd:=Ft
  have AU:=(List.getElem?_eq_some_iff.1 h2).1
  have cU:=h6.fits
  rw[eC] at cU
  have H9:(dX t).length=t.length:=by rw[dX,gh,bX]
  have eD:(dX (e::t)++c1)[t.length]?=some (e.1,e.2.i):=by
   rw[qT,dA,ie (by omega),H9,gV]
   rfl
  obtain⟨id,off,e1,e2,e3⟩:=acA (P:=Tryz.prog) eo kQ eD s
  rw[show(((e::t).length:Int)-1)=(t.length:Int) by simp] at hE
  have cq:t.length+1+l=L:=hlen
  have xF:∀m∈iM,m<N:=fun m hm=>oK m (by rw[h12];exact bA _ (gI _ hm))
  have s:=vh.1 (s.ae [1])
  dsimp only[aL,bringA] at s
  have s1:=((s.drop).ae [1,0])
  dsimp only[bringA,getA,aL] at s1
  rw[show dX (e::t)++c1=dX t++([(e.1,e.2.i)]++c1) by rw[qT,dA]] at s1
  have stop:(e.2.i:Int)+d<0∨(e.2.ks.length:Int)≤(e.2.i:Int)+d→∀E,Has E [(0,rv),(1,w),(5,.ptr kb 0),(8,.int .i64 ((t.length:Int)-1))]→WP ⟨Tryz.prog,told⟩ 64 (.loop nxL) E h Q:=fun q E hE=>by
   have hR':0<d→eR=jd:=fun _=>by
    rw[Ft,vk (by omega)];rfl
   have hL':d<0→eL=m9:=fun _=>by
    rw[uG,show e.2.i=0 by omega];simp
   exact ih (l+1) e.2.pg fQ eT m9 jd iM ε _ _ _ S Q h1 cA fO xF (by omega) s1 hE (fun E' h' ag a1 a2=>hq E' h' ag (fun q=>by rw[hR' q,a1 q]) fun q=>by rw[hL' q,a2 q]) fun E' h' ag y m fP e2 Jf fy a1 a2=>hr E' h' ag y m fP e2 Jf fy (fun q=>by rw[hR' q,a1 q]) fun q=>by rw[hL' q,a2 q]
  obtain⟨bve,XD,use,s⟩:=bh.1 s
  have w_:lenV Tryz.prog h 98 XD=some (.int .i64 (e.2.ks.length:Int)):=by
   have:=iJ (P:=Tryz.prog) aP s
   rwa [eC] at this
  refine WP.loop (WP.has hE (zK 4 rfl (zB rfl mV (by simp) ?_)))
  refine zk 4 rfl (WP.block (zw (WP.drawn [af,af,af,af,af,af,af,af] rfl (by kernel_rfl) (by kernel_rfl) ?_)))
  refine zM rfl (zM rfl (zO rfl (bS (r:=.ptr id off) rfl rfl e1) (zF rfl (si _ _) (zL rfl (e3 _ b9) (zL rfl (s.ld (k:=7) rfl b9 rfl) (zO rfl (ak (r:=.int .i64 ((e.2.i:Int)+d)) rfl rfl (aQ (aq (by omega) (by omega)))) ?_))))))
  refine zA rfl ?_
  refine aB.nil ⟨⟨aa,aa,aa,aa,aa,aa,aa,aa,aa⟩,?_⟩
  refine zK 4 rfl ?_
  by_cases q1:(e.2.i:Int)+d<0
  ·skip
   refine zB rfl aO (by simp;omega) ?_
   refine zk 15 rfl (WP.exit (zK 2 rfl (zo rfl (ak (r:=.int .i64 ((t.length:Int)-1)) rfl rfl (ew (aq (by omega) (by omega)))) ?_)))
   refine za rfl (zv ?_)
   exact stop (.inl q1) _ ⟨rfl,rfl,rfl,rfl,aa⟩
  ·skip
   refine zh rfl (ak rfl rfl aO) (by simp;omega) ?_
   refine zk 4 rfl (zo rfl (bS (r:=.ptr id off) rfl rfl e1) (zf rfl (jb _ _) (zl rfl (e2 _ e_) (zn rfl (zY s 0 cN gz rfl (zo rfl (aD rfl rfl rfl w_) ?_))))))
   by_cases q2:(e.2.ks.length:Int)≤(e.2.i:Int)+d
   ·skip
    refine zB rfl mV (by simp;omega) ?_
    refine zk 3 rfl (WP.exit (zK 2 rfl (zo rfl (ak (r:=.int .i64 ((t.length:Int)-1)) rfl rfl (ew (aq (by omega) (by omega)))) ?_)))
    refine za rfl (zv ?_)
    exact stop (.inr q2) _ ⟨rfl,rfl,rfl,rfl,aa⟩
   ·skip
    refine zC rfl mV (by simp;omega) ?_
    obtain⟨j,hj⟩:∃j:Nat,(e.2.i:Int)+d=(j:Int):=⟨((e.2.i:Int)+d).toNat,by omega⟩
    obtain⟨k2,mK⟩:∃k2,e.2.ks[j]?=some k2:=⟨_,aG (by omega)⟩
    have h9:∀j k,e.2.ks[j]?=some k→j≠e.2.i→∃cs',Nv F P l (loK fQ e.2.ks j) (cZ eT e.2.ks j) cs' k.es k.ps∧F l cs'∧bH (P k.pg) 204 0 l cs':=h9
    obtain⟨cs',g1,g2,g3⟩:=h9 j k2 mK (by omega)
    have rT:=jB mK
    have s:Sat h (a_ e.1 e.2.pg (l+1) (P e.2.pg) (bP e.2.ks)::_):=bh.2 ⟨bve,XD,use,s⟩
    refine zk 9 rfl (zo rfl (bS (r:=.ptr id off) rfl rfl e1) (zf rfl (jb _ _) (zl rfl (e2 _ e_) (zm rfl ?_))))
    rw[hj]
    refine zc rfl (HY hT rT (h7.pg k2 (aM mK)) s) ?_
    rintro v0 h ⟨rfl,s⟩
    have s:=s.ae [3,3]
    have s:=((s.del 4).del 3).del 2
    have S_:k2∈e.2.ks.eraseIdx e.2.i:=List.mem_eraseIdx_iff_getElem?.2 ⟨j,by omega,mK⟩
    have S4:∀m∈ej k2,m<N:=fun m hm=>oK m (by rw[h12];exact bA _ (lF _ (List.mem_flatMap.2 ⟨k2,S_,hm⟩)))
    refine zo rfl (Fz rfl rfl) (zc rfl (HZ hT hR hN (F:=F) (P:=P) (L:=l) (r:=k2.pg) (by omega) (g:=135) (caps:=[.ptr kb 0]) (K:=pt kb (.cells 1 [.int .i64 d] false)) (Ch:=ChD d) (fun hS hlen uf iA s=>abg hT hd hS hlen s) g1.whole g3 cA fO (S4 k2.pg bB) (fun m hm=>S4 m (bA _ hm)) rfl rfl s) ?_)
    rintro v0 h ⟨w2,x2,n2,Jf,fy,eL2,XE,pO2,fP,I,iQ,rfl,p1,p2,p3,p4,p5,p6,p7,p8,p9,p10,s⟩
    have p7:∀f∈I.map (·.2),ChD d f.ks f.i:=fun f hf=>by
     obtain⟨e',qn,rfl⟩:=List.mem_map.1 hf
     exact p7 e' qn
    have ko:(dX I++[(x2,0)]).length=I.length+1:=by rw[aX,dX,gh,bX];rfl
    obtain⟨Jd,CA,y1,y2,_⟩:=tD (P:=Tryz.prog) (j:=I.length) (x:=x2) (i:=0) eo kQ (by rw[ie (by rw[dX,gh,bX];omega),dX,gh,bX,gV];rfl) s
    refine zk 10 rfl (zC rfl aH (rfl) (zk 7 rfl (zo rfl (aD rfl rfl rfl (s.fW (j:=0) (n:=I.length+1) rfl (by rw[j6,ko]) (by decide) eo)) ?_)))
    refine zo rfl (ak (r:=.int .i64 (I.length:Int)) rfl rfl (by rw[show((I.length:Nat):Int)=((I.length+1:Nat):Int)-1 by omega];exact ew (aq (by omega) (by omega)))) ?_
    refine zo rfl (bS (r:=.ptr Jd CA) rfl rfl y1) (zf rfl (jb _ _) (zl rfl (y2 _ e_) ?_))
    have hF:F 0 (fP.map ey):=by
     by_cases hf:I.map (·.2)=[]
     ·rw[hf] at p1
      obtain⟨q1,_,_,_,rfl,rfl,_⟩:=p1
      subst q1
      obtain⟨rfl,_,_⟩:=g1
      rw[dG,fe] at p8
      rw[p8]
      exact g2
     ·exact p4 hf
    have hl5:fP.length≤512:=by have:=p3.fits;rw[bX] at this;omega
    have gm:e.2.ks.drop j=k2::e.2.ks.drop (j+1):=by
     obtain⟨hb,hk3⟩:=List.getElem?_eq_some_iff.1 mK
     rw[←hk3]
     exact pH hb
    have sn:e.2.ks.take (j+1)=e.2.ks.take j++[k2]:=by rw[qV,mK];rfl
    refine zk 3 rfl (WP.ret ?_)
    rcases hd with rfl|rfl
    ·refine hr _ _ iQ x2 n2 fP (XE++((e.2.ks.drop (j+1)).flatMap (·.es)++jd)) Jf fy (fun _ => ?_) (fun q=>by omega) p2 hF hl5 p5 p6 ⟨rfl,rfl,aa⟩ ((((s.ae [1,2]).del 4).del 3).del 2)
     rw[Ft,show e.2.i+1=j by omega,gm,gi,←p8,p1.zero fun f hf=>(p7 f hf).1 (by omega)]
     simp[dA]
    ·refine hr _ _ iQ x2 n2 fP (m9++((e.2.ks.take j).flatMap (·.es)++eL2)) Jf fy (fun q=>by omega) (fun _ => ?_) p2 hF hl5 p5 p6 ⟨rfl,rfl,aa⟩ ((((s.ae [1,2]).del 4).del 3).del 2)
     rw[uG,show e.2.i=j+1 by omega,sn,pL,List.flatMap_singleton,←p8,p1.last fun f hf=>(p7 f hf).2 (by omega)]
     simp[dA]
theorem Oo (hT:W told)(hR:rO told N B rv A pg)(hN:N≤65536)(hL:L≤60)(hd:d=1∨d = -1)(mH:gH F P L root (fx.map (·.2)) 0 lo hi n eL eR pO)(cA:EI N B ε)(fO:pg ε=P)(oK:∀m∈pO,m<N)(ko:fx.length=L)
 (s:Sat h (wyA w (dX fx++[(x,0)])::nodsA P 1 fx::A ε::S)):
  Call ⟨Tryz.prog,told⟩ 57 [rv,w,.int .i64 d] h fun v h'=>∃ag,EI N B ag∧Sm N ε ag∧(((0<d→eR=[])∧(d<0→eL=[])∧v=.aT [.b8,.int .i64 0]∧Sat h' (A ag::S)) ∨
   ∃y m fP e2 I fy,v=.aT [.ptr y 0,.int .i64 0]∧(0<d→eR=fP++e2)∧(d<0→eL=e2++fP)∧jc I fy fP∧F 0 (fP.map ey)∧fP.length≤512∧Sat h' (a_ y m 0 (P m) (fP.map ey)::A ag::S)):=by
 have w_:(dX fx++[(x,0)]).length=fx.length+1:=by
  rw[aX,dX,gh,bX]
  rfl
 refine Call.of_wp (hT.free _ rfl) Tryz.func57 rfl rfl (zg rfl (au.b_ s rfl rfl rfl (eU rfl (by rfl)) ?_))
 intro kb h s
 have s:=s.ae [1,1,1,0]
 have N3:=Ct (P:=Tryz.prog) s eo
 rw[w_] at N3
 refine zk 7 rfl (zo rfl (aD rfl rfl rfl N3) (zo rfl (ak (r:=.int .i64 ((fx.length:Int)-1)) rfl rfl (by rw[show((fx.length:Int)-1)=((fx.length+1:Nat):Int)-2 by omega];exact ew (aq (by omega) (by omega)))) ?_))
 refine zk 2 rfl (WP.block ?_)
 refine Tj hT hR hN hL hd fx 0 n lo hi eL eR pO ε [(x,0)] _ _ _ _ mH cA fO oK (by omega) s ⟨rfl,rfl,rfl,rfl,aa⟩ (fun E' h' ag k0 k1 k2 k3 s' => ?_) fun E' h' ag y m fP XE I fy k0 k1 k2 k3 kl k4 k5 k6 s'=>⟨aa,_,wu k6.1 k6.2.1,ag,k4,k5,.inr ⟨y,m,fP,XE,I,fy,rfl,k0,k1,k2,k3,kl,s'⟩⟩
 have s:=s'
 exact zK 5 rfl (WP.ret ⟨aa,_,rfl,ag,k2,k3,.inl ⟨k0,k1,rfl,s⟩⟩)
end
def og (es:List En)(k:Ky): Option En:=es.find? fun e => !decide (e.1<k)
section
theorem CC (h:∀e∈eL,e.1<k): og (eL++es) k=og es k:=by
 unfold og
 rw[GZ,List.find?_eq_none.2 fun e he=>by simp[h e he]]
 rfl
theorem A6.abh (hl:A6 es k i)(he:es[i]?=some e): og es k=some e:=by
 have hi:=(List.getElem?_eq_some_iff.1 he).1
 have hs:es=es.take i++es.drop i:=(jG i es).symm
 rw[hs,CC fun d hd => ?_]
 ·have hd:es.drop i=e::es.drop (i+1):=by
   obtain⟨_,h2⟩:=List.getElem?_eq_some_iff.1 he
   rw[←h2]
   exact pH hi
  have hk:¬ e.1<k:=List.not_lt.2 (hl.hi i e he (aI _))
  rw[hd]
  simp[og,hk]
 ·obtain⟨j,hj⟩:=List.mem_iff_getElem?.1 hd
  have I:j<i:=by have:=(List.getElem?_eq_some_iff.1 hj).1;rw[cH] at this;omega
  rw[GQ I] at hj
  exact hl.lo j d hj I
theorem A6.all (hl:A6 es k es.length): ∀e∈es,e.1<k:=fun e he=>by
 obtain⟨j,I⟩:=List.mem_iff_getElem?.1 he
 exact hl.lo j e I (List.getElem?_eq_some_iff.1 I).1
end
section
variable {told:cE} {k:List Nat} {A:bE→aE}
theorem VQ (hT:WB told)(hR:rO told N B rv A pg)(hN:N≤65536)(hL:L≤60)(hX:cf X (cy kv k))(hk:k.length≤96)(hv:Nv (cS Z) P L [] none cs es ps)(hp:bH (P r) 204 0 L cs)(cA:EI N B ε)(fO:pg ε=P)(hr:r<N)(oK:∀m∈ps,m<N)(s:Sat h (A ε::X::S)):
  Call ⟨Tryz.prog,told⟩ 16 [rv,.int .i64 (r:Int),kv] h fun v h'=>∃ag,EI N B ag∧Sm N ε ag∧match og es k with
   |none=>v=.aT [.aR,.aR,.bool false,.int .i64 0]∧Sat h' (A ag::S)
   |some e=>∃kb vb,v=.aT [kb,vb,.bool true,.int .i64 0]∧Sat h' (aU kb e.1::aU vb e.2::A ag::S):=by
 have hW:=hT.w
 refine Call.of_wp (hW.free _ rfl) Tryz.func16 rfl rfl (zK 11 rfl (zo rfl (aD rfl rfl rfl (aY aK (s.aC (k:=1) rfl hX))) (zC rfl cV (decide_eq_false (by omega)) ?_)))
 refine zk 8 rfl (zc rfl (JO hT hR hN (by omega) hX hv hp cA fO hr oK s) ?_)
 rintro v h ⟨w,x,n,lo,hi,eL,eR,pO,es',fx,ep,rfl,q1,q2,q3,q4,q5,q6,q7,q8,q9,nf,s⟩
 have qd:(dX fx).length=L:=by rw[dX,gh,bX,nf]
 have ko:(dX fx++[(x,0)]).length=L+1:=by rw[aX,qd];rfl
 obtain⟨id,off,e1,e2,_⟩:=tD (P:=Tryz.prog) (j:=L) (x:=x) (i:=0) eo kQ (by rw[ie (by omega),qd,gV];rfl) s
 refine zk 10 rfl (zC rfl aH (rfl) (zk 7 rfl (zo rfl (aD rfl rfl rfl (s.fW (j:=0) (n:=L+1) rfl (by rw[j6,ko]) (by decide) eo)) ?_)))
 refine zo rfl (ak (r:=.int .i64 (L:Int)) rfl rfl (by rw[show((L:Nat):Int)=((L+1:Nat):Int)-1 by omega];exact ew (aq (by omega) (by omega)))) ?_
 refine zo rfl (bS (r:=.ptr id off) rfl rfl e1) (zf rfl (jb _ _) (zl rfl (e2 _ e_) (zk 7 rfl (zc rfl (wD hT hX q2 (by have:=q3.fits;rw[bX] at this;omega) (s.ae [1,3])) ?_))))
 rintro v h ⟨i,rfl,hl,s⟩
 obtain⟨Eb,GB⟩:=q1.side q7
 have s0:=s
 obtain⟨bv,cv,us,s⟩:=bh.1 s
 have w_:lenV Tryz.prog h 98 cv=some (.int .i64 (es'.length:Int)):=by
  have:=iJ (P:=Tryz.prog) aP s
  rwa [bX] at this
 refine zk 11 rfl (zY s 0 cN gz rfl (zo rfl (aD rfl rfl rfl w_) ?_))
 rcases yh hl.le with cq|rfl
 ·obtain⟨e,he⟩:∃e,es'[i]?=some e:=⟨_,aG cq⟩
  have XF:og es k=some e:=by
   rw[←q8,dA,CC Eb]
   unfold og
   rw[GZ]
   have:=hl.abh he
   unfold og at this
   rw[this]
   rfl
  rw[XF]
  refine zB rfl aO (by simp;omega) ?_
  refine zk 6 rfl (zc rfl (AJ hW q2 he s0) ?_)
  rintro v h ⟨kb,vb,rfl,s⟩
  exact zk 9 rfl (WP.ret ⟨aa,_,rfl,ep,q5,q6,kb,vb,rfl,(((s.ae [0,0,4]).del 6).del 5).del 4 |>.del 3⟩)
 ·have jP:pg ep=P:=by rw[←fO];funext m;exact hR.same q6 m
  have Cx:∀m∈pO,m<N:=fun m hm=>by
   have:=q9.mem_iff.1 (gI [n] hm)
   rcases List.mem_cons.1 this with rfl|h1
   ·exact hr
   ·exact oK m h1
  have acB:∀e∈eL++es',e.1<k:=fun e he=>by
   rcases List.mem_append.1 he with h1|h1
   ·exact Eb e h1
   ·exact hl.all e h1
  have XF:og es k=og eR k:=by rw[←q8];exact CC acB
  have s:=(JQ (by omega) (s0.ae [2])).ae [0,2,2]
  refine zC rfl aO (by simp) ?_
  refine zk 7 rfl (zc rfl (Oo (d:=1) hW hR hN hL (.inl rfl) q1 q5 jP Cx nf s) ?_)
  rintro v h ⟨iQ,k1,k2,(⟨I,_,rfl,s⟩|⟨y,m,fP,XE,Jf,fy,rfl,I,_,k3,k4,_,s⟩)⟩
  ·rw[XF,I (by decide)]
   refine zk 10 rfl (zC rfl aH (rfl) (zk 2 rfl (zo rfl (ak (r:=.bool true) rfl rfl (by simp only[binV,eqV,zD,gJ])) ?_)))
   exact zk 19 rfl (WP.ret ⟨aa,_,rfl,iQ,k1,q6.trans k2,rfl,(s.del 2).del 1⟩)
  ·have I:=I (by decide)
   have eZ:0<fP.length:=by
    rw[cS,ay rfl] at k4
    exact List.length_pos_iff.2 fun q=>k4 (by rw[q];rfl)
   obtain⟨e,he⟩:∃e,fP[0]?=some e:=⟨_,aG eZ⟩
   have xp:¬ e.1<k:=fun q=>pQ q (GB e (by rw[I];exact gI _ (aM he)))
   have adW:og es k=some e:=by
    rw[XF,I]
    cases fP with
    |nil=>simp at eZ
    |cons d t =>
     simp only[jE,aA] at he
     subst he
     simp[og,xp]
   rw[adW]
   have s0:=s
   obtain⟨Gu,wG,Xx,s⟩:=bh.1 s
   have adX:lenV Tryz.prog h 98 wG=some (.int .i64 (fP.length:Int)):=by
    have:=iJ (P:=Tryz.prog) aP s
    rwa [bX] at this
   refine zk 10 rfl (zC rfl aH (rfl) (zk 2 rfl (zo rfl (ak (r:=.bool false) rfl rfl (by simp only[binV,eqV,zD,gJ])) ?_)))
   refine zk 4 rfl (zY s 0 cN gz rfl (zo rfl (aD rfl rfl rfl adX) (zC rfl c8 (decide_eq_false (by omega)) ?_)))
   refine zk 7 rfl (zc rfl (AJ (i:=0) hW k3 he s0) ?_)
   rintro v h ⟨kb,vb,rfl,s⟩
   exact zk 9 rfl (WP.ret ⟨aa,_,rfl,iQ,k1,q6.trans k2,kb,vb,rfl,((s.del 5).del 4).del 2⟩)
end
section
variable {told:cE} {k:Nat} {v x:V} {l c':List Nat}
theorem LX (hT:W told)(s:Sat h (X::S))(hX:cf X (cy v b))(hp:bH b kd link extra cs)(hi:i<cs.length)(AO:∀c∈cs,1≤c.length):
  Call ⟨Tryz.prog,told⟩ 70 [v,.int .i64 (i:Int)] h fun r h'=>∃u b',r=.aT [u,.int .i64 0]∧bH b' kd link extra (cs.eraseIdx i)∧Sat h' (aU u b'::X::S):=by
 have hl:=hp.len
 have cU:=hp.fits
 have oH:=hp.low
 have qH:=hp.fZ
 have hle:∀n,(le 2 n).length=2:=fun n=>cJ 2 n
 have uf:cs.length=1→c9 b≠512:=fun h1=>by
  have hc:cs[0]?=some (cs[0]'(by omega)):=aG _
  have h2:=hp.slot 0 _ hc
  have h3:=AO _ (aM hc)
  omega
 have I:=hp.rm (lo:=if cs.length=1 then 512 else c9 b) hi (by
  by_cases h1:cs.length=1
  ·exact .inr ⟨h1,ay h1⟩
  ·exact .inl (if_neg h1))
 obtain⟨n,hn⟩:∃n,cs.length=n+1:=⟨cs.length-1,by omega⟩
 have QJ:A4 b i cs.length=az (az (az b (26+4*i) ((b.drop (30+4*i)).take (4*(n-i)))) (26+4*n) (List.replicate 4 0)) 14 (le 2 n):=by
  rw[A4,hn,show n+1-1-i=n-i by omega,show 22+4*(n+1)=26+4*n by omega,show n+1-1=n by omega]
 rw[QJ] at I
 refine Call.of_wp (hT.free _ rfl) Tryz.func70 rfl rfl (zK 8 rfl (zc rfl (o9 hT s hX (by omega)) ?_))
 rintro r h' (⟨hg,u,rfl,s⟩|⟨hg,rfl,s⟩)
 ·obtain⟨lD,_,cap,_,rfl,_⟩:=s.eG (by omega)
  refine zk 3 rfl ?_
  refine au.b_ s rfl rfl rfl (cu jo) (fun p6 h s => ?_)
  dsimp only[V.cells,List.length_cons,List.length_nil,Nat.reduceAdd] at s
  refine zS rfl (s.gX (j:=0) rfl aS rfl rfl) (fun h s => ?_)
  dsimp only[setA] at s
  refine zk 3 rfl (WP.block (zK 3 rfl (zC rfl aH (rfl) (zk 6 rfl (zC rfl aO (by simp) ?_)))))
  refine zk 2 rfl (zl rfl (s.b7 (k:=0) rfl bx aS) (zc rfl (f_ hT s (k:=1) rfl (aZ _ _) hl) ?_))
  rintro r h' ⟨rfl,s⟩
  rw[qH,hn]
  refine zC rfl mV (by simp;omega) ?_
  refine zk 2 rfl (zv (zj rfl (WP.skip (zg rfl (zl rfl (by exact s.b7 (k:=0) rfl bx aS) ?_)))))
  refine zc rfl (f_ hT s (k:=1) rfl (aZ _ _) hl) ?_
  rintro r h' ⟨rfl,s⟩
  rw[qH,hn]
  refine zk 3 rfl ?_
  have q1:((26:Int)+4*(i:Int)).toNat=26+4*i:=by omega
  have q2:((26:Int)+4*(((n+1:Nat):Int)-1)).toNat=26+4*n:=by omega
  have q3:((26:Int)+4*((i:Int)+1)).toNat=30+4*i:=by omega
  have q4:((26:Int)+4*((n+1:Nat):Int)).toNat=30+4*n:=by omega
  have l1:(az b (26+4*i) ((b.drop (30+4*i)).take (4*(n-i)))).length=512:=by rw[bD (by rw[cH,fc];omega),hl]
  have s0:=s
  refine WP.drawn [af,af,af,af,af,af,af,af,af,af,af,af,af,af,af,af,af,af,af,af,af] rfl (by kernel_rfl) (by kernel_rfl) ?_
  refine zF rfl (dW _ _) (zL rfl (s.ld (k:=0) rfl bF rfl) (zM rfl (zO rfl (ak rfl rfl (by exact jx (aq (by omega) (by omega)))) ?_)))
  refine zO rfl (ak rfl rfl (by exact aQ (aq (by omega) (by omega)))) ?_
  refine zM rfl (zO rfl (ak rfl rfl (by exact ew (aq (by omega) (by omega)))) ?_)
  refine zO rfl (ak rfl rfl (by exact jx (aq (by omega) (by omega)))) ?_
  refine zO rfl (ak rfl rfl (by exact aQ (aq (by omega) (by omega)))) ?_
  refine zO rfl (bO (p:=some (.int .i64 (26+4*(i:Int)))) (q:=some (.int .i64 (26+4*(((n+1:Nat):Int)-1)))) (m:=none) (p':=some (26+4*i)) (q':=some (26+4*n)) (m':=none) rfl rfl rfl rfl (by rw[bT (by omega),q1]) (by rw[bT (by omega),q2]) rfl (fE (s.buf (k:=1) rfl).view (by omega) (by omega)).1) ?_
  refine zF rfl (dW _ _) (zL rfl (s.ld (k:=0) rfl bF rfl) (zM rfl (zO rfl (ak rfl rfl (by exact aQ (aq (by omega) (by omega)))) ?_)))
  refine zO rfl (ak rfl rfl (by exact jx (aq (by omega) (by omega)))) ?_
  refine zO rfl (ak rfl rfl (by exact aQ (aq (by omega) (by omega)))) ?_
  refine zM rfl (zO rfl (ak rfl rfl (by exact jx (aq (by omega) (by omega)))) ?_)
  refine zO rfl (ak rfl rfl (by exact aQ (aq (by omega) (by omega)))) ?_
  refine zO rfl (bO (p:=some (.int .i64 (26+4*((i:Int)+1)))) (q:=some (.int .i64 (26+4*((n+1:Nat):Int)))) (m:=none) (p':=some (30+4*i)) (q':=some (30+4*n)) (m':=none) rfl rfl rfl rfl (by rw[bT (by omega),q3]) (by rw[bT (by omega),q4]) rfl (fE (s.buf (k:=1) rfl).view (by omega) (by omega)).1) ?_
  refine aB.any rfl rfl rfl rfl (OpR.Xi (n:=4*(n-i)) rfl (s.ae [1]) rfl rfl rfl rfl (by omega) (by omega) (by omega) (by omega) (by omega)) ?_
  intro r h s
  have s:=s.ae [1,0]
  refine aB.nil ⟨⟨aa,aa,aa,aa,aa,aa,aa,aa,aa,aa,aa,aa,aa,aa,aa,aa,aa,aa,aa,aa,aa,aa⟩,?_⟩
  have s:Sat h (pt p6 _::aU _ (az b (26+4*i) ((b.drop (30+4*i)).take (4*(n-i))))::_):=s
  generalize az b (26+4*i) ((b.drop (30+4*i)).take (4*(n-i)))=b1 at s l1 I ⊢
  have l2:(az b1 (26+4*n) (List.replicate 4 0)).length=512:=by rw[bD (by rw[gd];omega),l1]
  have l3:(az (az b1 (26+4*n) (List.replicate 4 0)) 14 (le 2 n)).length=512:=by rw[bD (by rw[hle];omega),l2]
  refine zg rfl (zY s 0 dW bF rfl (zm rfl (zb rfl (by exact ew (aq (by omega) (by omega))) ?_)))
  refine zb rfl (by exact jx (aq (by omega) (by omega))) ?_
  refine zb rfl (by exact aQ (aq (by omega) (by omega))) ?_
  refine zm rfl (zb rfl (by exact jx (aq (by omega) (by omega))) ?_)
  refine zb rfl (by exact aQ (aq (by omega) (by omega))) ?_
  refine zo rfl (bO (p:=some (.int .i64 (26+4*(((n+1:Nat):Int)-1)))) (q:=some (.int .i64 (26+4*((n+1:Nat):Int)))) (m:=none) (p':=some (26+4*n)) (q':=some (30+4*n)) (m':=none) rfl rfl rfl rfl (by rw[bT (by omega),q2]) (by rw[bT (by omega),q4]) rfl (fE (s.buf (k:=1) rfl).view (by omega) (by omega)).1) ?_
  refine au.mg rfl rfl (OpR.SB rfl (s.ae [1]) rfl rfl rfl rfl (by omega) (by omega)) ?_
  rintro _ h s
  rw[show 30+4*n-(26+4*n)=4 by omega] at s
  have s:=s.ae [1,0]
  have en:((n+1:Nat):Int)-1=(n:Int):=by omega
  refine zk 3 rfl (zl rfl (s.b7 (k:=0) rfl bx aS) (zm rfl (zo rfl (ak (r:=.int .i64 (n:Int)) rfl rfl (by rw[←en];exact ew (aq (by omega) (by omega)))) ?_)))
  refine zo rfl (cL rfl (by exact kJ cm eM (iD (by omega) (by omega)))) ?_
  refine zc rfl (nQ (a:=14) (z:=2) (n:=n) hT (s.ae [1]) (by decide) (by decide) (by omega) (by omega)) ?_
  rintro r h ⟨rfl,s⟩
  have s:=s.ae [1,0]
  refine zk 5 rfl ?_
  by_cases h1:n=0
  ·have e1:cs.length=1:=by omega
   simp only[ay e1,ai (jH (uf e1))] at I
   refine zB rfl c8 (decide_eq_true (by omega)) ?_
   refine zk 3 rfl (zl rfl (s.b7 (k:=0) rfl bx aS) (zc rfl (nQ (a:=16) (z:=2) (n:=512) hT (s.ae [1]) (by decide) (by decide) (by omega) (by omega)) ?_))
   rintro r h ⟨rfl,s⟩
   have s:=s.ae [1,0]
   exact zk 3 rfl (zY s 0 dW bF rfl (zk 3 rfl (WP.ret ⟨aa,_,rfl,_,_,rfl,I,s.drop⟩)))
  ·have e1:cs.length≠1:=by omega
   simp only[ai e1,dw] at I
   refine zC rfl c8 (decide_eq_false (by omega)) ?_
   exact zk 5 rfl (zY s 0 dW bF rfl (zk 3 rfl (WP.ret ⟨aa,_,rfl,_,_,rfl,I,s.drop⟩)))
 ·rw[hp.good] at hg;cases hg
end
def Kd (F:Nat→List (List Nat)→Prop)(P:Int→List Nat)(l:Nat)(lo:Ky)(hi:Option Ky)(k:gG): Prop:=∃cs',Nv F P l lo hi cs' k.es k.ps∧F l cs'∧bH (P k.pg) 204 0 l cs'
def gS (l:Nat)(cut:Ky)(a b:List (List Nat)): List (List Nat):=a++if l=0 then b else match b with|[]=>[]|c::t=>(c.take 4++cut)::t
section
variable {F':Nat→List (List Nat)→Prop} {fQ:Ky} {eT:Option Ky}
theorem Nv.mono (I:∀l cs,F l cs→F' l cs): ∀ {l:Nat} {lo:Ky} {hi:Option Ky} {cs:List (List Nat)} {es:List En} {ps:List Nat},Nv F P l lo hi cs es ps→Nv F' P l lo hi cs es ps:=by
 intro l
 induction l with
 |zero=>intro lo hi cs es ps h;exact h
 |succ l ih =>
  intro lo hi cs es ps ⟨ks,h1,h2,h3,h4,h5⟩
  exact⟨ks,h1,h2,h3,h4,fun i k hk=>by obtain⟨cs',b1,b2,b3⟩:=h5 i k hk;exact⟨cs',ih b1,I _ _ b2,b3⟩⟩
theorem gH.mono (I:∀l cs,F l cs→F' l cs): ∀ {fs:List sF} {l:Nat} {lo:Ky} {hi:Option Ky} {n:Nat} {eL eR:List En} {pO:List Nat},gH F P L r fs l lo hi n eL eR pO→gH F' P L r fs l lo hi n eL eR pO:=by
 intro fs
 induction fs with
 |nil=>intro l lo hi n eL eR pO h;exact h
 |cons f fs ih =>
  rintro l lo hi n eL eR pO ⟨fQ,eT,m9,jd,iM,k,h1,h2,h3,h4,h5,h6,h7,N4,h8,h9⟩
  exact⟨fQ,eT,m9,jd,iM,k,ih h1,h2,h3,h4,h5,h6,h7,fun q=>I _ _ (N4 q),fun j k hk hj=>by obtain⟨cs',b1,b2,b3⟩:=h8 j k hk hj;exact⟨cs',b1.mono I,I _ _ b2,b3⟩,h9⟩
theorem Kd.frame {k:gG}(h:Kd F P l lo hi k)(I:∀m∈ej k,P' m=P m): Kd F P' l lo hi k:=by
 obtain⟨cs',a1,a2,a3⟩:=h
 exact⟨cs',a1.frame fun m hm=>I m (bA _ hm),a2,by rw[I k.pg bB];exact a3⟩
theorem gH.pop {f:sF}(h:gH F P L r (f::fs) l lo hi n eL eR pO)(es:List En)(ps:List Nat):
  ∃fQ eT I jd iM ks k,gH F P L r fs (l+1) fQ eT f.pg I jd iM∧bP ks=bP f.ks∧ks.length=f.ks.length∧ks[f.i]?=some k∧k.pg=n∧k.es=es∧k.ps=ps∧Sep fQ eT ks∧lo=loK fQ ks f.i∧hi=cZ eT ks f.i∧(∀j k,ks[j]?=some k→j≠f.i→Kd F P l (loK fQ ks j) (cZ eT ks j) k) ∧
   bH (P f.pg) 204 0 (l+1) (bP ks)∧(fs≠[]→F (l+1) (bP ks))∧eL++es++eR=I++ks.flatMap (·.es)++jd∧(pO++n::ps).Perm (iM++f.pg::ks.flatMap ej):=by
 obtain⟨fQ,eT,I,jd,iM,k,q1,q2,rfl,rfl,rfl,q6,q7,q7b,q8,rfl,rfl,rfl⟩:=h
 have dy:=(List.getElem?_eq_some_iff.1 q2).1
 have hK:=EF (k1:=⟨k.key,k.pg,es,ps⟩) q2 rfl rfl
 refine⟨fQ,eT,I,jd,iM,f.ks.set f.i ⟨k.key,k.pg,es,ps⟩,_,q1,hK,cI,jF dy,rfl,rfl,rfl,q7.set q2 rfl rfl,(yV (k1:=⟨k.key,k.pg,es,ps⟩) q2 rfl).symm,(vK (k1:=⟨k.key,k.pg,es,ps⟩) q2 rfl).symm,fun j m hm hj => ?_,by rw[hK];exact q6,by rw[hK];exact q7b,by rw[qQ dy];simp[dA],?_⟩
 ·rw[yV (k1:=⟨k.key,k.pg,es,ps⟩) q2 rfl,vK (k1:=⟨k.key,k.pg,es,ps⟩) q2 rfl]
  rw[lG (jH hj)] at hm
  exact q8 j m hm hj
 ·rw[qQ dy,vg,lH]
  intro x
  simp only[ej,lJ,lK,fF]
  omega
theorem CD {m:List α}{k:Nat}{x:α}(h:(m.eraseIdx k)[j]?=some x): m[if j<k then j else j+1]?=some x:=by
 rw[x_] at h
 split
 ·rwa [ay (by assumption)] at h
 ·rwa [ai (by assumption)] at h
theorem Sep.erase (h:Sep lo hi ks)(k:Nat)(h2:2≤ks.length): Sep lo hi (ks.eraseIdx k):=by
 refine⟨fun e => ?_,fun x I=>h.pg x (xZ I),fun x I=>h.len x (xZ I),fun j x I hj=>h.sz _ x (CD I) (by split<;>omega),fun j x I hj=>h.bd _ x (CD I) (by split<;>omega),fun j j2 x y I hy a1 a2=>h.kK _ _ x y (CD I) (CD hy) (by split<;>omega) (by split<;>split<;>omega)⟩
 have:=dn List.length e
 rw[GU,cj] at this
 split at this<;>omega
theorem XG (I:j≤i): (ks.eraseIdx (i+1))[j]?=ks[j]?:=by rw[x_,ay (by omega)]
theorem XH (I:i<j): (ks.eraseIdx (i+1))[j]?=ks[j+1]?:=by rw[x_,ai (by omega)]
theorem JS (I:j≤i): loK lo (ks.eraseIdx (i+1)) j=loK lo ks j:=by
 unfold loK
 rw[XG I]
theorem abi (I:i<j): loK lo (ks.eraseIdx (i+1)) j=loK lo ks (j+1):=by
 unfold loK
 rw[XH I,ai (show ¬j=0 by omega),ai (show ¬j+1=0 by omega)]
theorem acC (I:j<i): cZ hi (ks.eraseIdx (i+1)) j=cZ hi ks j:=by
 unfold cZ
 rw[XG (by omega)]
theorem GF (I:i≤j): cZ hi (ks.eraseIdx (i+1)) j=cZ hi ks (j+1):=by
 unfold cZ
 rw[XH (by omega)]
theorem DJ {k:Nat}: bP (ks.eraseIdx k)=(bP ks).eraseIdx k:=by
 rw[bP,bP,nj,nj,qY,ri,sW]
theorem Sep.wide (hs:Sep lo hi ks)(h2:i+1<ks.length)(I:∀j k,ks[j]?=some k→j≠i→j≠i+1→Kd F P l (loK lo ks j) (cZ hi ks j) k):
  Sep lo hi (ks.eraseIdx (i+1))∧∀j k,(ks.eraseIdx (i+1))[j]?=some k→j≠i→Kd F P l (loK lo (ks.eraseIdx (i+1)) j) (cZ hi (ks.eraseIdx (i+1)) j) k:=by
 refine⟨hs.erase _ (by omega),fun j k hk hj => ?_⟩
 have hk:=CD hk
 by_cases q:j<i
 ·rw[ay (by omega)] at hk
  rw[JS (by omega),acC q]
  exact I j k hk hj (by omega)
 ·rw[ai (by omega)] at hk
  rw[abi (by omega),GF (by omega)]
  exact I (j+1) k hk (by omega) (by omega)
theorem rQ {g:gG→List α}(hl:ks[i]?=some kl)(hr:ks[i+1]?=some kr): ks.flatMap g=((ks.eraseIdx (i+1)).take i).flatMap g++(g kl++g kr)++((ks.eraseIdx (i+1)).drop (i+1)).flatMap g:=by
 have I:=(List.getElem?_eq_some_iff.1 hr).1
 rw[sG hl,nj,GL (by rw[cH];omega),q_,show min i (i+1)=i by omega,GK (by rw[cH];omega),lM,gV,qZ,dG,
  pH (i:=i+1) I,gi,(List.getElem?_eq_some_iff.1 hr).2]
 simp[dA]
theorem Qk (hl:ks[i]?=some kl): (ks.eraseIdx (i+1))[i]?=some kl:=by
 rw[x_,ay (by omega)];exact hl
theorem Nv.join {cut:Ky}{wq qw:List (List Nat)}(h1:Nv F P l lo (some cut) wq jA nR)(h2:Nv F P l cut hi qw fP nT)(c1:lo<cut)(c2:∀b,hi=some b→cut<b)(c3:1≤cut.length∧cut.length≤96):
  Nv F P l lo hi (gS l cut wq qw) (jA++fP) (nR++nT):=by
 cases l with
 |zero =>
  obtain⟨rfl,q2,rfl⟩:=h1
  obtain⟨rfl,r2,rfl⟩:=h2
  refine⟨by unfold gS;rw[ay rfl,qY],⟨fun e he => ?_,fun e he => ?_,?_⟩,rfl⟩
  ·rcases List.mem_append.1 he with q|q
   ·exact⟨(q2.bd e q).1,fun b hb=>by have:=(q2.bd e q).2 cut rfl;have:=c2 b hb;grind⟩
   ·exact⟨by have:=(r2.bd e q).1;grind,(r2.bd e q).2⟩
  ·rcases List.mem_append.1 he with q|q
   ·exact q2.sz e q
   ·exact r2.sz e q
  ·exact List.pairwise_append.2 ⟨q2.kK,r2.kK,fun a ha b hb=>by have:=(q2.bd a ha).2 cut rfl;have:=(r2.bd b hb).1;grind⟩
 |succ l =>
  obtain⟨I,rfl,s1,rfl,rfl,k1⟩:=h1
  obtain⟨ks2,rfl,s2,rfl,rfl,k2⟩:=h2
  obtain⟨x,t,rfl⟩:∃x t,ks2=x::t:=by
   cases ks2 with
   |nil=>exact absurd rfl s2.ne
   |cons x t=>exact⟨x,t,rfl⟩
  obtain⟨m,hm⟩:∃m,m=I.length:=⟨_,rfl⟩
  have l8:1≤m:=by rw[hm];exact List.length_pos_iff.2 s1.ne
  have hL:∀ {j k},(I++⟨cut,x.pg,x.es,x.ps⟩::t)[j]?=some k→(j<m∧I[j]?=some k)∨(j=m∧k=⟨cut,x.pg,x.es,x.ps⟩)∨(m<j∧(x::t)[j-m]?=some k∧1≤j-m):=fun {j k} h=>by
   rw[List.getElem?_append] at h
   split at h
   ·exact .inl ⟨by omega,h⟩
   ·rename_i q
    by_cases q2:j=m
    ·subst q2
     rw[hm,gV] at h
     exact .inr (.inl ⟨rfl,(bW h).symm⟩)
    ·obtain⟨z,hz⟩:∃z,j-m=z+1:=⟨j-m-1,by omega⟩
     rw[←hm,hz] at h
     exact .inr (.inr ⟨by omega,by rw[hz];exact h,by omega⟩)
  refine⟨I++⟨cut,x.pg,x.es,x.ps⟩::t,?_,⟨by simp,fun k hk => ?_,fun k hk => ?_,fun j k hk hj => ?_,fun j k hk hj => ?_,fun j j2 k k' hk hk' a1 a2 => ?_⟩,by simp,by simp[ej],fun j k hk => ?_⟩
  ·have h4:=cJ 4 x.pg
   unfold gS
   rw[ai (by omega)]
   simp only[bP,qY,ik,eX,gq h4]
  ·obtain⟨j,hj⟩:=List.mem_iff_getElem?.1 hk
   rcases hL hj with⟨_,q⟩|⟨_,rfl⟩|⟨_,q,_⟩
   ·exact s1.pg k (aM q)
   ·exact s2.pg x bB
   ·exact s2.pg k (aM q)
  ·obtain⟨j,hj⟩:=List.mem_iff_getElem?.1 hk
   rcases hL hj with⟨_,q⟩|⟨_,rfl⟩|⟨_,q,_⟩
   ·exact s1.len k (aM q)
   ·exact c3.2
   ·exact s2.len k (aM q)
  ·rcases hL hk with⟨_,q⟩|⟨_,rfl⟩|⟨_,q,q2⟩
   ·exact s1.sz j k q hj
   ·exact c3.1
   ·exact s2.sz _ k q q2
  ·rcases hL hk with⟨_,q⟩|⟨_,rfl⟩|⟨_,q,q2⟩
   ·exact⟨(s1.bd j k q hj).1,fun b hb=>by have:=(s1.bd j k q hj).2 cut rfl;have:=c2 b hb;grind⟩
   ·exact⟨c1,c2⟩
   ·exact⟨by have:=(s2.bd _ k q q2).1;grind,(s2.bd _ k q q2).2⟩
  ·rcases hL hk with⟨b1,q⟩|⟨b1,rfl⟩|⟨b1,q,q2⟩
   ·rcases hL hk' with⟨_,r⟩|⟨_,rfl⟩|⟨_,r,r2⟩
    ·exact s1.kK j j2 k k' q r a1 a2
    ·exact(s1.bd j k q a1).2 cut rfl
    ·have:=(s1.bd j k q a1).2 cut rfl;have:=(s2.bd _ k' r r2).1;grind
   ·rcases hL hk' with⟨b2,_⟩|⟨b2,_⟩|⟨_,r,r2⟩
    ·omega
    ·omega
    ·exact(s2.bd _ k' r r2).1
   ·rcases hL hk' with⟨b2,_⟩|⟨b2,_⟩|⟨_,r,r2⟩
    ·omega
    ·omega
    ·exact s2.kK _ _ k k' q r q2 (by omega)
  ·have hR:∀j,m<j→(I++⟨cut,x.pg,x.es,x.ps⟩::t)[j]?=(x::t)[j-m]?:=fun j hj=>by
    obtain⟨z,hz⟩:∃z,j-m=z+1:=⟨j-m-1,by omega⟩
    rw[ie (by omega),←hm,hz]
    rfl
   have hR1:∀j,j<m→(I++⟨cut,x.pg,x.es,x.ps⟩::t)[j]?=I[j]?:=fun j hj=>sU (by omega)
   have hRm:(I++⟨cut,x.pg,x.es,x.ps⟩::t)[m]?=some ⟨cut,x.pg,x.es,x.ps⟩:=by
    rw[ie (by omega),←hm,gV];rfl
   rcases hL hk with⟨b1,q⟩|⟨rfl,rfl⟩|⟨b1,q,q2⟩
   ·have e1:loK lo (I++⟨cut,x.pg,x.es,x.ps⟩::t) j=loK lo I j:=by unfold loK;rw[hR1 j b1]
    have e2:cZ hi (I++⟨cut,x.pg,x.es,x.ps⟩::t) j=cZ (some cut) I j:=by
     unfold cZ
     by_cases q3:j+1<m
     ·rw[hR1 _ q3,aG (show j+1<I.length by omega)]
     ·rw[show j+1=m by omega,hRm,nm (by omega)]
    rw[e1,e2]
    exact k1 j k q
   ·have e1:loK lo (I++⟨cut,x.pg,x.es,x.ps⟩::t) j=cut:=by unfold loK;rw[ai (by omega),hRm]
    have e2:cZ hi (I++⟨cut,x.pg,x.es,x.ps⟩::t) j=cZ hi (x::t) 0:=by unfold cZ;rw[hR (j+1) (by omega),sV]
    rw[e1,e2]
    exact k2 0 x rfl
   ·have e1:loK lo (I++⟨cut,x.pg,x.es,x.ps⟩::t) j=loK cut (x::t) (j-m):=by unfold loK;rw[ai (by omega),ai (by omega),hR j b1]
    have e2:cZ hi (I++⟨cut,x.pg,x.es,x.ps⟩::t) j=cZ hi (x::t) (j-m):=by unfold cZ;rw[hR (j+1) (by omega),show j+1-m=j-m+1 by omega]
    rw[e1,e2]
    exact k2 (j-m) k q
theorem Sep.mz (hs:Sep lo hi ks)(hr:ks[i+1]?=some kr): loK lo ks i<kr.key∧(∀b,cZ hi ks (i+1)=some b→kr.key<b)∧1≤kr.key.length∧kr.key.length≤96∧cZ hi ks i=some kr.key∧loK lo ks (i+1)=kr.key:=by
 have dy:=(List.getElem?_eq_some_iff.1 hr).1
 refine⟨?_,fun b I => ?_,hs.sz _ kr hr (by omega),hs.len kr (aM hr),by unfold cZ;rw[hr],by unfold loK;rw[ai (by omega),hr]⟩
 ·unfold loK
  split
  ·exact(hs.bd _ kr hr (by omega)).1
  ·have hk:ks[i]?=some (ks[i]'(by omega)):=aG _
   rw[hk]
   exact hs.kK i (i+1) _ kr hk hr (by omega) (by omega)
 ·unfold cZ at I
  cases hq:ks[i+1+1]? with
  |none=>rw[hq] at I;exact(hs.bd _ kr hr (by omega)).2 b I
  |some m=>rw[hq] at I;obtain rfl:=bW I;exact hs.kK _ _ kr m hr hq (by omega) (by omega)
theorem Nv.mrg (hs:Sep lo hi ks)(hl:ks[i]?=some kl)(hr:ks[i+1]?=some kr)(I:∀j k,ks[j]?=some k→j≠i→j≠i+1→Kd F P l (loK lo ks j) (cZ hi ks j) k)
 (nl:Nv F P l (loK lo ks i) (cZ hi ks i) eF kl.es kl.ps)(nr:Nv F P l (loK lo ks (i+1)) (cZ hi ks (i+1)) dY kr.es kr.ps)(hF:F l (gS l kr.key eF dY))(hp:bH (P kl.pg) 204 0 l (gS l kr.key eF dY)):
  ∃m_,Nv F P (l+1) lo hi ((bP ks).eraseIdx (i+1)) (ks.flatMap (·.es)) m_∧(kr.pg::m_).Perm (ks.flatMap ej):=by
 have dy:=(List.getElem?_eq_some_iff.1 hr).1
 obtain⟨m1,m2,m3,m4,m5,m6⟩:=hs.mz hr
 obtain⟨w1,w2⟩:=hs.wide dy I
 rw[m5] at nl
 rw[m6] at nr
 have hj:=nl.join nr m1 m2 ⟨m3,m4⟩
 have hh:=Nv.hole (k1:=⟨kl.key,kl.pg,kl.es++kr.es,kl.ps++kr.ps⟩) (Qk hl) rfl rfl w1 w2 (by rw[JS (aI _),GF (aI _)];exact hj) hF hp
 rw[DJ] at hh
 refine⟨_,by rw[rQ (g:=(·.es)) hl hr];exact hh,?_⟩
 rw[rQ (g:=ej) hl hr,lH]
 intro x
 simp only[ej,lJ,lK,fF]
 omega
theorem Nv.ers {k:gG}(hs:Sep lo hi ks)(h2:2≤ks.length)(hk:ks[i]?=some k)(he:k.es=[])(uF:k.ps=[])(I:∀j k,ks[j]?=some k→j≠i→Kd F P l (loK lo ks j) (cZ hi ks j) k):
  ∃m_,Nv F P (l+1) lo hi ((bP ks).eraseIdx i) (ks.flatMap (·.es)) m_∧(k.pg::m_).Perm (ks.flatMap ej):=by
 have dy:=(List.getElem?_eq_some_iff.1 hk).1
 cases i with
 |zero =>
  cases ks with
  |nil=>simp at dy
  |cons x t =>
   obtain rfl:x=k:=by simpa using hk
   have hS:=hs.erase 0 h2
   refine⟨t.flatMap ej,⟨t,DJ.symm,hS,by simp[he],rfl,fun j m hm => ?_⟩,by simp[ej,uF]⟩
   obtain⟨cs',a1,a2,a3⟩:=I (j+1) m (by simpa using hm) (by omega)
   refine⟨cs',a1.Lu ?_ fun b hb=>⟨b,hb,nD _⟩,a2,a3⟩
   have e:loK lo (x::t) (j+1)=m.key:=by
    unfold loK;rw[ai (by omega),ow,hm]
   rw[e]
   unfold loK
   split
   ·exact pP (hs.bd (j+1) m (by simpa using hm) (by omega)).1
   ·rw[hm];exact nD _
 |succ i =>
  obtain⟨kl,hl⟩:∃kl,ks[i]?=some kl:=⟨_,aG (by omega)⟩
  obtain⟨m1,m2,m3,m4,m5,m6⟩:=hs.mz hk
  obtain⟨w1,w2⟩:=hs.wide dy fun j m hm _ hj=>I j m hm hj
  obtain⟨cs',a1,a2,a3⟩:=I i kl hl (by omega)
  have hh:=Nv.hole (k1:=kl) (Qk hl) rfl rfl w1 w2 (by
   rw[JS (aI _),GF (aI _)]
   refine a1.Lu (nD _) fun b hb => ?_
   exact⟨_,m5,pP (m2 b hb)⟩) a2 a3
  rw[DJ] at hh
  refine⟨_,by rw[rQ (g:=(·.es)) hl hk,he,fe];exact hh,?_⟩
  rw[rQ (g:=ej) hl hk,lH]
  intro x
  simp only[ej,uF,lJ,lK,fF,List.count_nil]
  omega
theorem abj {m:List α}{c:α}(h:i<m.length): cW i c (m.eraseIdx i)=m.set i c:=by
 rw[cW,nj,gq (by rw[cH];omega),vq (by rw[cH];omega),CJ,ay h]
theorem Nv.shr {cut:Ky}(hs:Sep lo hi ks)(hl:ks[i]?=some kl)(hr:ks[i+1]?=some kr)(I:∀j k,ks[j]?=some k→j≠i→j≠i+1→Kd F P l (loK lo ks j) (cZ hi ks j) k)
 (nl:Nv F P l (loK lo ks i) (some cut) eF jA nR)(gl:F l eF)(pl:bH (P kl.pg) 204 0 l eF)(nr:Nv F P l cut (cZ hi ks (i+1)) dY fP nT)(gr:F l dY)(pr:bH (P kr.pg) 204 0 l dY)
 (c1:loK lo ks i<cut)(c2:∀b,cZ hi ks (i+1)=some b→cut<b)(c3:1≤cut.length∧cut.length≤96)(he:jA++fP=kl.es++kr.es)(uF:nR++nT=kl.ps++kr.ps):
  ∃m_,Nv F P (l+1) lo hi ((bP ks).set (i+1) (eX kr.pg cut)) (ks.flatMap (·.es)) m_∧m_.Perm (ks.flatMap ej):=by
 have dy:=(List.getElem?_eq_some_iff.1 hr).1
 obtain⟨w1,w2⟩:=hs.wide dy I
 have e1:loK lo (ks.eraseIdx (i+1)) i=loK lo ks i:=JS (aI _)
 have e2:cZ hi (ks.eraseIdx (i+1)) i=cZ hi ks (i+1):=GF (aI _)
 have hh:=Nv.aaT w1 (Qk hl) w2 (by rw[e1];exact nl) gl pl (by rw[e2];exact nr) gr pr (by rw[e1];exact c1) (by rw[e2];exact c2) c3 (hs.pg kr (aM hr))
 rw[DJ,abj (by rw[eC];exact dy),he] at hh
 refine⟨_,by rw[rQ (g:=(·.es)) hl hr];exact hh,?_⟩
 rw[rQ (g:=ej) hl hr,lH]
 intro x
 have:=dn (List.count x) uF
 simp only[ej,lJ,lK,fF] at this ⊢
 omega
end
section
variable {P:Program} {e:TypeId} {f:TypeInfo}
theorem VR {m:List α}(hi:i<m.length): m.take i++(m.drop (i+1)++m.drop (m.length-1))=m.eraseIdx i++m.drop (m.length-1):=by
 rw[nj,dA]
theorem Zi (s:Sat h (pt x (.cells us.length us false)::S))(hi:i<us.length)(hu:P.underlying t=some (.slice e))(hf:P.info? e=some f)(hz:zeroT P e=some z)(hk:f.size=1)(hb:f.bytes≤4096)(hzl:z.cells.length=1):
  ∃h',appendV P h #[t,t] (.sl x 0 i (.rest 1 alt)) (.sl x (i+1) (us.length-(i+1)) cap)=some (.sl x 0 (us.length-1) (.rest 1 alt),h')∧Sat h' (pt x (.cells us.length (us.eraseIdx i++us.drop (us.length-1)) false)::S):=by
 have hg:=s.row (k:=0) rfl
 have hd:(us.drop (i+1)).length=us.length-(i+1):=fc
 have hr:rdN h x (i+1) ((us.length-(i+1))*1)=some (us.drop (i+1)):=by
  rw[qx hg rfl (by omega),dV,gT (by omega)]
 have I:fU h x 0 1=us.length:=by simp only[fU,hg];simp
 unfold appendV
 simp only[hu,hf,hz,hk,srcV,hr,gJ]
 rw[show(Nat.ble 1 1&&Nat.ble f.bytes 4096&&Nat.beq z.cells.length 1)=true by rw[aW.2 hb,rS hzl];rfl,ah]
 by_cases h0:us.length-(i+1)=0
 ·rw[rS h0,ah]
  refine⟨h,by rw[show us.length-1=i by omega],?_⟩
  have:us.eraseIdx i++us.drop (us.length-1)=us:=by
   rw[nj,vk (i:=i+1) (by omega),fe,show us.length-1=i by omega,jG]
  rw[this]
  exact s
 ·rw[fH h0,aV,show Nat.beq 1 1=true from rfl,ah,I,aW.2 (by omega),ah,Dv hg rfl (by rw[hd];omega)]
  refine⟨_,by rw[show i+(us.length-(i+1))=us.length-1 by omega],?_⟩
  have:=s.put (k:=0) (o':=.cells us.length (us.take (0+i*1)++(us.drop (i+1)++us.drop (0+i*1+(us.drop (i+1)).length))) false) rfl
  rw[show us.take (0+i*1)++(us.drop (i+1)++us.drop (0+i*1+(us.drop (i+1)).length))=us.eraseIdx i++us.drop (us.length-1) by
   rw[←VR hi,hd,fh,dV,show i+(us.length-(i+1))=us.length-1 by omega]] at this ⊢
  exact this
theorem Tk {c d:V}(s:Sat h (pt x (.cells (ds.length+1) (ds++[c]) false)::S))(hu:P.underlying t=some (.slice e))(I:zeroT P e=some d)(hd:d.cells=[d]):
  ∃h',clearV P h t (.sl x ds.length 1 (.rest 1 alt))=some h'∧Sat h' (pt x (.cells (ds.length+1) (ds++[d]) false)::S):=by
 have hg:=s.row (k:=0) rfl
 unfold clearV
 simp only[hu,I,hd]
 rw[show(Nat.ble 1 [d].length&&Nat.ble 1 1)=true from rfl,ah,Dv hg (by simp) (by simp[repeatL])]
 refine⟨_,rfl,?_⟩
 have:=s.put (k:=0) (o':=.cells (ds.length+1) ((ds++[c]).take ds.length++(repeatL [d] 1++(ds++[c]).drop (ds.length+(repeatL [d] 1).length))) false) rfl
 rw[show(ds++[c]).take ds.length++(repeatL [d] 1++(ds++[c]).drop (ds.length+(repeatL [d] 1).length))=ds++[d] by simp[repeatL]] at this ⊢
 exact this
end
theorem abk {P:Program}{h':H}{x:V}(he:clearV P h t x=some h'): builtinV P h .clear #[t] [x]=some (.aT [],h'):=by
 show(clearV P h t x).map _=_
 rw[he];rfl
section
variable {told:cE} {v:V}
theorem Oq (hT:W told)(s:Sat h (Co v us::S))(hi:i<us.length)(hl:us.length≤512):
  Call ⟨Tryz.prog,told⟩ 71 [v,.int .i64 (i:Int),.int .i64 ((i+1:Nat):Int)] h fun r h'=>Sat h' (roS 1 r (us.eraseIdx i)::S):=by
 obtain⟨i1,dy,fy,o8⟩:=qP
 obtain⟨x,rfl,eD,s⟩:=EK s (by omega)
 have AS:(us.eraseIdx i).length=us.length-1:=by rw[GU,ay hi]
 obtain⟨c,hc⟩:∃c,us.drop (us.length-1)=[c]:=by
  have:(us.drop (us.length-1)).length=1:=by rw[fc];omega
  exact List.length_eq_one_iff.1 this
 refine Call.of_wp (hT.free _ rfl) Tryz.func71 rfl rfl ?_
 have AV:us=us.eraseIdx i++us.drop (us.length-1)→True:=fun _=>trivial
 have I:∀ {h:H} {n:Nat},lenV Tryz.prog h 98 (.sl x 0 n (.rest 1 0))=some (.int .i64 (n:Int)):=fun {h n}=>by simp only[lenV,aP]
 have zU:∀ {h:H} {N:Nat} {row:List V} {S:List aE},Sat h (pt x (.cells N row false)::S)→fU h x 0 1=N:=fun {h N row S} s=>by
  have hg:=s.row (k:=0) rfl
  simp only[fU,hg];simp
 have e1:sliceV Tryz.prog h 98 (.sl x 0 us.length (.rest 1 0)) (some i) (some (i+1)) (some us.length)=some (.sl x (cond (Nat.beq us.length i) 0 (0+i*1)) (i+1-i) (.exact (us.length-i))):=by
  simp only[sliceV,aP,dH,dD]
  rw[show(Nat.beq 1 1&&Nat.ble 1 1)=true from rfl,ah,show(Nat.ble i (i+1)&&Nat.ble (i+1) us.length&&(Nat.ble us.length us.length||Nat.ble us.length (fU h x 0 1))&&Nat.blt 0 us.length)=true by simp;omega,ah]
 have e2:sliceV Tryz.prog h 98 (.sl x 0 us.length (.rest 1 0)) none (some i) none=some (.sl x 0 i (.rest 1 0)):=by
  simp only[sliceV,aP,dH,dD,fR]
  rw[show(Nat.beq 1 1&&Nat.ble 1 1)=true from rfl,ah,show(Nat.ble 0 i&&(Nat.ble i us.length||Nat.ble i (fU h x 0 1)))=true by simp;omega,ah]
  rfl
 have e3:∃alt,sliceV Tryz.prog h 98 (.sl x 0 us.length (.rest 1 0)) (some (i+1)) none none=some (.sl x (i+1) (us.length-(i+1)) (.rest 1 alt)):=by
  simp only[sliceV,aP,dH,dD,fR]
  rw[show(Nat.beq 1 1&&Nat.ble 1 1)=true from rfl,ah,show(Nat.ble (i+1) us.length&&(Nat.ble us.length us.length||Nat.ble us.length (fU h x 0 1)))=true by simp;omega,ah,fh,dV]
  exact⟨_,rfl⟩
 obtain⟨alt,e3⟩:=e3
 obtain⟨h2,e4,s2⟩:=Zi (P:=Tryz.prog) (t:=98) (alt:=0) (cap:=.rest 1 alt) s hi aP dy lq fy (by omega) rfl
 rw[hc] at s2
 have hN:us.length=(us.eraseIdx i).length+1:=by omega
 rw[hN] at s2
 have e5:∃alt,sliceV Tryz.prog h2 98 (.sl x 0 (us.length-1) (.rest 1 0)) (some (us.length-1)) (some us.length) none=some (.sl x (us.eraseIdx i).length 1 (.rest 1 alt)):=by
  simp only[sliceV,aP,dH,dD,fR]
  rw[show(Nat.beq 1 1&&Nat.ble 1 1)=true from rfl,ah,zU s2,show(Nat.ble (us.length-1) us.length&&(Nat.ble us.length (us.length-1)||Nat.ble us.length ((us.eraseIdx i).length+1)))=true by simp;omega,ah,fh,dV,AS,show us.length-(us.length-1)=1 by omega]
  exact⟨_,rfl⟩
 obtain⟨adY,e5⟩:=e5
 obtain⟨h3,e6,s3⟩:=Tk (P:=Tryz.prog) (t:=98) (alt:=adY) s2 aP lq rfl
 refine zK 10 rfl (zo rfl (aD rfl rfl rfl I) (zo rfl (bO (p:=some (.int .i64 (i:Int))) (q:=some (.int .i64 ((i+1:Nat):Int))) (m:=some (.int .i64 (us.length:Int))) (p':=some i) (q':=some (i+1)) (m':=some us.length) rfl rfl rfl rfl (by rw[bT (by omega)];rfl) (by rw[bT (by omega)];rfl) (by rw[bT (by omega)];rfl) e1) ?_))
 refine zk 6 rfl (zC rfl c8 (by simp;omega) ?_)
 refine zk 6 rfl (zo rfl (aD rfl rfl rfl I) (zk 3 rfl ?_))
 have z0:=s
 refine WP.drawn [af,af,af,af,af,af,af,af] rfl (by kernel_rfl) (by kernel_rfl) ?_
 refine zM rfl (zM rfl (zO rfl (bO (p:=none) (q:=some (.int .i64 (i:Int))) (m:=none) (p':=none) (q':=some i) (m':=none) rfl rfl rfl rfl rfl (by rw[bT (by omega)];rfl) rfl e2) ?_))
 refine zM rfl (zM rfl (zO rfl (bO (p:=some (.int .i64 ((i+1:Nat):Int))) (q:=none) (m:=none) (p':=some (i+1)) (q':=none) (m':=none) rfl rfl rfl rfl (by rw[bT (by omega)];rfl) rfl rfl e3) ?_))
 refine aB.any rfl rfl rfl rfl (OpR.of (R:=fun v h'=>v=.sl x 0 (us.length-1) (.rest 1 0)∧h'=h2) (j_ rfl rfl e4) ⟨rfl,rfl⟩) ?_
 rintro v' h ⟨rfl,rfl⟩
 refine zA rfl ?_
 refine aB.nil ⟨⟨aa,aa,aa,aa,aa,aa,aa,aa,aa⟩,?_⟩
 refine zK 4 rfl (zo rfl (aD rfl rfl rfl I) (zm rfl (zo rfl (bO (p:=some (.int .i64 ((us.length-1:Nat):Int))) (q:=some (.int .i64 (us.length:Int))) (m:=none) (p':=some (us.length-1)) (q':=some us.length) (m':=none) rfl rfl rfl rfl (by rw[bT (by omega)];rfl) (by rw[bT (by omega)];rfl) rfl e5) ?_)))
 refine au.mg rfl rfl (OpR.of (R:=fun v h'=>h'=h3) (Ux rfl rfl (abk e6)) rfl) ?_
 rintro v' h rfl
 have s:=s3.freeze
 refine zk 6 rfl (WP.ret ⟨aa,_,rfl,?_⟩)
 rw[←AS]
 exact uo (N:=(us.eraseIdx i).length+1) (row:=us.eraseIdx i++[.aR]) (by simp) (by omega) (by simp) rfl (by
  rw[oA] at eD ⊢
  exact fun y hy=>eD y (xZ hy)) s
end
section
variable {told:cE} {p:Nat}
theorem Ot (i:Nat)(s:Sat h (cX us cs::S)): Sat h (cX (us.eraseIdx i) (cs.eraseIdx i)::S):=s.dQ fun m r h=>by
 rw[nj,nj]
 exact Ad (Cr i h) (Cs (i+1) h)
theorem Sat.XI {A:aE}: ∀(k:Nat) {S:List aE},Sat h (A::C::S)→Sat h (A::C::S.drop k):=by
 intro k
 induction k with
 |zero=>intro S s;exact s
 |succ k I=>intro S s;cases S with
  |nil=>exact s
  |cons B S=>exact I (S:=S) (s.del 2)
theorem Ec (I:W told)(hB:B≤2000)(cA:EI N B ε)(hw:NW N now)(hn:n<N)(hp:bH b 204 0 l cs)(hi:i<cs.length)(hc:∀c∈cs,1≤c.length)(s:Sat h (GA g a p q r data aN now ε::a_ x n l b cs::S)):
  Call ⟨Tryz.prog,told⟩ 156 [.ptr x 0,.ptr g 0,.int .i64 (i:Int)] h fun v h'=>∃ag b',v=.int .i64 0∧EI N B ag∧Sm N ε ag∧NW N (cD (n:Int) b' now)∧bH b' 204 0 l (cs.eraseIdx i)∧Sat h' (GA g a p q r data aN (cD (n:Int) b' now) ag::a_ x n l b' (cs.eraseIdx i)::S):=by
 have cU:=hp.fits
 have s:=s.ae [1]
 obtain⟨bv,cv,us,s⟩:=bh.1 s
 have sQ:=jZ (s.ae [3])
 refine Call.of_wp (I.free _ rfl) Tryz.func156 rfl rfl (zK 8 rfl (zY s 0 nN bF rfl (zm rfl ?_)))
 have s:=s.ae [1]
 refine zc rfl (LX I s (bj _ _) hp hi hc) ?_
 rintro v h ⟨u,b',rfl,uq,s⟩
 have s:=s.ae [2,2]
 refine zk 10 rfl (zC rfl aH (rfl) (zk 10 rfl (zY s 0 cN gz rfl ?_)))
 have s:=s.ae [1]
 refine zc rfl (mO I s (dK _ _ _) (by omega)) ?_
 intro cl h s
 have s:=Ot i (s.ae [5])
 have s:=s.ae [1]
 refine zk 2 rfl (zo rfl (ak (r:=.int .i64 ((i+1:Nat):Int)) rfl rfl (by rw[show((i+1:Nat):Int)=(i:Int)+1 by omega];exact aQ (aq (by omega) (by omega)))) ?_)
 refine zc rfl (Oq I s (by omega) (by omega)) ?_
 intro dl h s
 have s:=(s.ae [4]).eW
 have xy:=(s.aC (k:=0) rfl (bj _ _)).cells
 have GG:=j3 (s.kZ (j:=1) rfl (dK _ _ _))
 refine zn rfl (zf rfl (nN _ _) (zS rfl (s.jS (k:=4) rfl dH rfl (by decide) xy.1 xy.2) ?_))
 intro h s
 refine zn rfl (zf rfl (cN _ _) (zS rfl (s.jS (k:=4) rfl Ur rfl (by decide) GG.1 GG.2.1) ?_))
 intro h s
 have s:=s.ae [6,0]
 refine zk 6 rfl (zY s 5 iZ b9 rfl (zm rfl (zc rfl (wF I hB cA hw hn s (bj _ _) uq.good) ?_)))
 rintro v h ⟨ag,rfl,k1,k2,k3,s⟩
 refine zk 2 rfl (WP.ret ⟨aa,_,rfl,?_⟩)
 have s:=s.ae [5,1,1,1,0]
 have s:Sat h (a_ x n l b' (cs.eraseIdx i)::_):=bh.2 ⟨u,dl,_,s⟩
 exact⟨ag,b',rfl,k1,k2,k3,uq,(s.ae [1]).XI 2⟩
end
section
theorem jC.less (h:jC N M ps){z:Nat}{M':List Nat}(hp:ps.Perm (z::qs))(hb:∀j,j<N→bt M' j=if j=z then false else bt M j): jC N M' qs:=by
 have I:=h.perm hp
 obtain⟨h3,h4⟩:=List.nodup_cons.1 I.nd
 refine⟨h4,fun p hq=>I.mc p (bA _ hq),fun j hj => ?_⟩
 have hz:=I.mc z bB
 rw[hb j hj]
 by_cases q:j=z
 ·subst q
  rw[ay rfl]
  refine(decide_eq_false fun q => ?_).symm
  rcases q with q|q
  ·omega
  ·exact h3 q
 ·rw[ai q,I.bits j hj]
  congr 1
  simp only[gj,q,false_or]
end
section
variable {told:cE} {p:Nat}
theorem EU (hT:W told)(hB:B≤2000)(cA:EI N B ε)(hw:NW N now)(I:fY N R M (pgG now ε))(ht:jC N M ps){z:Nat}(hz:ps.Perm (z::qs))(s:Sat h (GA g a p q r data aN now ε::S)):
  Call ⟨Tryz.prog,told⟩ 155 [.ptr g 0,.int .i64 (z:Int)] h fun v h'=>∃ag aF M',v=.int .i64 0∧EI N B ag∧Sm N ε ag∧NW N aF∧aF.length≤now.length+1∧fY N R M' (pgG aF ag)∧jC N M' qs∧(∀m,m≠1→pgG aF ag m=pgG now ε m)∧Sat h' (GA g a p q r data aN aF ag::S):=by
 have hzm:z∈ps:=hz.mem_iff.2 bB
 obtain⟨z1,z2⟩:=ht.mc z hzm
 have hb:=ht.bits z z2
 rw[dB (.inr hzm)] at hb
 have F_:=I.ml
 have sA:=I.n2
 refine(SR hT hB cA hw I s).mono ?_
 rintro v h' ⟨ag,aF,k1,k2,k3,k4,s,(⟨yA,_⟩|⟨_,_,_,rfl,k5,k6⟩)⟩
 ·exact absurd ⟨by omega,by omega,hb⟩ yA
 ·exact⟨ag,aF,_,rfl,k1,k2,k3,k4,k5,ht.less hz fun j hj=>Xs (by rw[F_];show z/8<_;omega),k6,s⟩
end
section
variable {told:cE} {cut:Ky} {mr:Nat}
abbrev Tl (xu i xl xr:Nat): V:=.agg [.ptr xu 0,.int .i64 (i:Int),.ptr xl 0,.ptr xr 0]
theorem VS {P:Program}{v:V}{e:TypeId}{f:TypeInfo}(s:Sat h (Co v us::.arr 1 w ds::S))(hu:P.underlying t=some (.slice e))(hi:P.info? e=some f)(I:zeroT P e=some z)(hk:f.size=1)(hb:f.bytes≤4096)(hl:z.cells.length=1)(fJ:us.length+ds.length≤1073741824):
  ∃v' h',appendV P h #[t,t] v w=some (v',h')∧Sat h' (.arr 1 v' (us++ds)::S):=by
 obtain⟨v',h',e1,s⟩:=h_ (k:=1) (s.dQ kL) hu hi I hk hb hl (by decide) (by omega)
 exact⟨v',h',e1,s.del 1⟩
theorem Zj {P:Program}{v:V}{e:TypeId}(s:Sat h (Co v us::S))(hu:P.underlying t=some (.slice e)): lenV P h t v=some (.int .i64 (us.length:Int)):=(s.dQ kL).fW (j:=0) (n:=us.length) rfl (by rw[dV]) (by decide) hu
theorem Zk {vs:List V}{ds:List (List Nat)}(s:Sat h (cX us cs::cX vs ds::S)): Sat h (cX (us++vs) (cs++ds)::S):=s.two (aJ.yX _ _) (aJ.yX _ _) fun m r a b=>Ad a b
noncomputable def jnT : Code:=eu [1,1,1] ((Tryz.f83.body).getD .skip)
theorem Ou (hT:W told){v3:V}{I:List V}{cs3:List (List Nat)}{p1:Nat}(h3:I.length≤512)(hl:eF.length≤512)(hj:gS l cut eF dY=eF++cs3)
 (s:Sat h (.arr 1 v3 I::cX I cs3::pt p1 (.cells 4 [.ptr xu 0,.int .i64 (i:Int),.ptr xl 0,.ptr xr 0] false)::a_ xu nu (l+1) bu qD::a_ xl nl l bl eF::a_ xr nr l br dY::S))(hE:Has E [(1,.ptr p1 0),(3,v3)])
 (hq:∀E' h' v us,Has E' [(2,v)]→Sat h' (roS 1 v us::cX us (gS l cut eF dY)::a_ xu nu (l+1) bu qD::a_ xl nl l bl eF::a_ xr nr l br dY::S)→Q .ret E' h'): WP ⟨Tryz.prog,told⟩ 41 jnT E h Q:=by
 obtain⟨i1,dy,fy,o8⟩:=qP
 have s:=s.ae [4]
 obtain⟨bv,cv,usl,s⟩:=bh.1 s
 have ae_:=jZ (s.ae [3])
 refine WP.has hE (zg rfl (zY s 6 vF e_ rfl (zn rfl (zY s 0 cN gz rfl ?_))))
 have s:=s.ae [2]
 refine zc rfl (mO hT s (dK _ _ _) (by omega)) ?_
 intro v4 h s
 have s:=s.ae [0,4]
 obtain⟨av,h2,e1,s2⟩:=VS (P:=Tryz.prog) s aP dy lq fy (by omega) rfl (by omega)
 refine zm rfl (au.any rfl rfl rfl (OpR.of (R:=fun v h'=>v=av∧h'=h2) (j_ rfl rfl e1) ⟨rfl,rfl⟩) ?_)
 rintro v' h ⟨rfl,rfl⟩
 have s:=(s2.ae [4]).dup (aJ.yX _ _)
 have s:=Zk (s.ae [0,5])
 rw[←hj] at s
 have s:=s.ae [4,4,3,1]
 have s:Sat h (a_ xl nl l bl eF::_):=bh.2 ⟨bv,cv,usl,s⟩
 have s:=((s.ae [2]).tZ).dQ JN
 have s:=(s.ae [0,1,2,0,1]).del 5
 exact zk 2 rfl (WP.ret (hq _ _ _ _ ⟨rfl,aa⟩ s))
theorem Jg (I:W told)(hc:qD[i+1]?=some (eX mr cut))(nV:cut.length≤96)(hu:qD.length≤512)(hl:eF.length≤512)(hr:dY.length≤512)(adZ:l+1≤64)(hk:1≤l→∃m ky,dY[0]?=some (eX m ky)∧m<4294967296)
 (s:Sat h (a_ xu nu (l+1) bu qD::a_ xl nl l bl eF::a_ xr nr l br dY::S)):
  Call ⟨Tryz.prog,told⟩ 83 [Tl xu i xl xr] h fun v h'=>∃us,Sat h' (roS 1 v us::cX us (gS l cut eF dY)::a_ xu nu (l+1) bu qD::a_ xl nl l bl eF::a_ xr nr l br dY::S):=by
 have s:=s.ae [2]
 obtain⟨bv,cv,XJ,s⟩:=bh.1 s
 have ad0:=jZ (s.ae [3])
 refine Call.of_wp (I.free _ rfl) Tryz.func83 rfl rfl (zg rfl ?_)
 refine au.b_ s rfl rfl rfl (eU rfl rfl) (fun p1 h s => ?_)
 refine zk 4 rfl (zY s 0 rE e_ rfl (zn rfl (zY s 1 cN gz rfl ?_)))
 have s:=s.ae [3]
 refine zc rfl (mO I s (dK _ _ _) (by omega)) ?_
 intro v3 h s
 have s:=(s.ae [5]).dup (aJ.yX _ _)
 have s:=s.ae [2,0,3]
 refine zk 5 rfl (zY s 5 rE e_ rfl (zn rfl (zY s 2 fG b9 rfl ?_)))
 by_cases h0:l=0
 ·subst h0
  refine zC rfl cV (by simp) ?_
  have s:=s.ae [2,5,3,2]
  have s:Sat h (a_ xr nr 0 br dY::_):=bh.2 ⟨bv,cv,XJ,s⟩
  have s:=(s.ae [1,1,1,1,1,0]).dQ kL
  exact zk 8 rfl (Ou I (by omega) hl (by unfold gS;rw[ay rfl]) s ⟨rfl,rfl,aa⟩ fun E' h' v us hE s=>⟨aa,_,z_ hE.1,us,s⟩)
 ·skip
  refine zB rfl cV (by simp;omega) ?_
  obtain⟨m,ky,Bl,hm⟩:=hk (by omega)
  obtain⟨c0,t0,rfl⟩:∃c t,dY=c::t:=by
   cases dY with
   |nil=>simp at Bl
   |cons c t=>exact⟨c,t,rfl⟩
  obtain rfl:c0=eX m ky:=by simpa using Bl
  rw[bq] at ad0 hr
  refine zk 2 rfl (zo rfl (aD rfl rfl rfl (Zj s aP)) (zB rfl cV (by simp;omega) ?_))
  have s:=s.ae [2,5,3,2]
  have s:Sat h (a_ xr nr l br (eX m ky::t0)::_):=bh.2 ⟨bv,cv,XJ,s⟩
  obtain⟨l',rfl⟩:∃l',l=l'+1:=⟨l-1,by omega⟩
  have M8:=(j3 (((s.ae [1]).dQ kL).kZ (j:=0) rfl (ji _ _ _).s)).2.2
  have z0:=s
  refine zk 3 rfl (WP.drawn [some (0,4),af,af,af,some (0,2),some (0,2),some (0,2),some (0,2),some (0,2),af,af,af,af] rfl (by kernel_rfl) (by kernel_rfl) ?_)
  refine zM rfl (zF rfl (rE _ _) (zL rfl (s.ld (k:=3) rfl e_ rfl) (aB.any rfl rfl rfl rfl (OpR.call rfl rfl rfl rfl (HY I Bl hm s)) ?_)))
  rintro v h ⟨rfl,s⟩
  have z1:=s
  have s:=s.ae [4]
  refine zF rfl (lQ _ _) (zL rfl (s.ld (k:=4) rfl e_ rfl) (zF rfl (yJ _ _) (zL rfl (s.ld (k:=4) rfl b9 rfl) ?_)))
  refine zO rfl (ak (r:=.int .i64 ((i+1:Nat):Int)) rfl rfl (by rw[show((i+1:Nat):Int)=(i:Int)+1 by omega];exact aQ (aq (by omega) (by have:=(List.getElem?_eq_some_iff.1 hc).1;omega)))) ?_
  refine aB.any rfl rfl rfl rfl (OpR.call rfl rfl rfl rfl (y8 I hc (by rw[jQ,ai (by omega),eX,aX,cJ];omega) adZ (by rw[eX,aX,cJ];omega) s)) ?_
  intro kv h s
  rw[HT] at s
  have z2:=s
  refine aB.any rfl rfl rfl rfl (OpR.call rfl rfl rfl rfl (y9 I hm s (bj _ _) (by omega))) ?_
  intro u h s
  have s:=s.eW
  have A9:=(s.aC (k:=0) rfl (bj _ _)).cells
  have s:=(s.ae [4]).dQ kL
  obtain⟨sk,H8,h2,e3,e4,s2⟩:=sK (P:=Tryz.prog) (i:=0) (x:=u) s (by omega) A9.1 A9.2 aP dH
  have z3:=s
  refine zO rfl (bS (r:=.ptr sk H8) rfl rfl e3) (aB.mg rfl rfl rfl (OpR.yH rfl rfl rfl (⟨_,e4,s2⟩)) ?_)
  rintro _ h ⟨_,s⟩
  refine aB.nil ⟨⟨fun _ _=>.inr ⟨rfl,⟨_,bV rfl⟩,M8⟩,aa,aa,aa,fun _ _=>.inr ⟨rfl,⟨_,mU rfl (lQ _ _)⟩,bg _ rfl⟩,fV (.inr ⟨rfl,⟨_,o_load rfl (z0.ld (k:=3) rfl e_ rfl)⟩,bg _ rfl⟩) (.inr ⟨rfl,⟨_,o_load rfl (z1.ld (k:=3) rfl e_ rfl)⟩,bg _ rfl⟩),fun _ _=>.inr ⟨rfl,⟨_,mU rfl (yJ _ _)⟩,bg _ rfl⟩,fV (.inr ⟨rfl,⟨_,o_load rfl (z0.ld (k:=3) rfl b9 rfl)⟩,bg _ rfl⟩) (.inr ⟨rfl,⟨_,o_load rfl (z1.ld (k:=3) rfl b9 rfl)⟩,bg _ rfl⟩),fun _ _=>.inr ⟨rfl,⟨_,ak (r:=.int .i64 ((i+1:Nat):Int)) rfl rfl (by rw[show((i+1:Nat):Int)=(i:Int)+1 by omega];exact aQ (aq (by omega) (by have:=(List.getElem?_eq_some_iff.1 hc).1;omega)))⟩,bg _ rfl⟩,aa,aa,aa,aa,aa⟩,?_⟩
  have s:=ES (s.ae [1,4])
  have s:=s.ae [1,0,3,1,2,1]
  exact Ou I (by rw[cI];omega) hl (by unfold gS;rw[ai (by omega)];simp only[eX,gq (cJ 4 m)]) s ⟨rfl,rfl,aa⟩ fun E' h' v us hE s=>⟨aa,_,z_ hE.1,us,s.del 5⟩
end
section
variable {told:cE} {p:Nat} {kd:gG}
theorem Sat.XK {A D:aE}: ∀(k:Nat) {S:List aE},Sat h (A::C::D::S)→Sat h (A::C::D::S.drop k):=by
 intro k
 induction k with
 |zero=>intro S s;exact s
 |succ k I=>intro S s;cases S with
  |nil=>exact s
  |cons B S=>exact I (S:=S) (s.del 3)
theorem LY (hT:W told)(hi:i<ks.length)(hl:ks.length≤512){Tm:Bool}(I:if Tm then ks.length≤i+1 else i=0)(s:Sat h (a_ xu nu (l+1) bu (bP ks)::S)):
  Call ⟨Tryz.prog,told⟩ 157 [.ptr g 0,.agg [.ptr xu 0,.int .i64 (i:Int)],.ptr x 0,.bool Tm] h fun v h'=>v=.aT [.agg [.b8,.int .i64 0,.b8,.b8],.bool false,.int .i64 0]∧Sat h' (a_ xu nu (l+1) bu (bP ks)::S):=by
 obtain⟨bv,cv,us,s⟩:=bh.1 s
 have m8:∀ {h:H} {S:List aE} {A C:aE},Sat h (A::C::pt xu (.cells 4 (uL nu (l+1) bv cv) false)::.cg bv bu::roS 1 cv us::cX us (bP ks)::S)→lenV Tryz.prog h 98 cv=some (.int .i64 (ks.length:Int)):=fun {h S A C} s=>by
  have s:=s.drop.drop
  have:=iJ (P:=Tryz.prog) aP s
  rwa [eC] at this
 cases Tm with
 |true =>
  have I:ks.length≤i+1:=I
  refine Call.of_wp (hT.free _ rfl) Gz rfl rfl (zg rfl ?_)
  refine au.b_ s rfl rfl rfl (eU rfl rfl) (fun p5 h s => ?_)
  refine au.b_ s rfl rfl rfl (cu uX) (fun p8 h s => ?_)
  refine zk 5 rfl (zY s 1 si b9 rfl (zk 6 rfl (zo rfl (dZ rfl rfl) (zk 7 rfl (zC rfl aO (decide_eq_false (by omega)) ?_)))))
  refine zk 2 rfl (zo rfl (ak (r:=.int .i64 ((i+1:Nat):Int)) rfl rfl (by rw[show((i+1:Nat):Int)=(i:Int)+1 by omega];exact aQ (aq (by omega) (by omega)))) ?_)
  refine zY s 1 jb e_ rfl (zn rfl (zY s 2 cN gz rfl (zo rfl (aD rfl rfl rfl (m8 s)) (zB rfl mV (decide_eq_true (by omega)) ?_))))
  refine zk 5 rfl (zo rfl (cQ rfl (by rw[JH];rfl)) ?_)
  refine zS rfl (s.gX (j:=0) rfl jm rfl rfl) (fun h s => ?_)
  refine zk 3 rfl ?_
  refine WP.ret ⟨aa,_,Dz rfl (s.b7 (k:=0) rfl pU jm) rfl rfl,?_⟩
  exact⟨rfl,bh.2 ⟨bv,cv,us,s.drop.drop⟩⟩
 |false =>
  have I:i=0:=I
  subst I
  refine Call.of_wp (hT.free _ rfl) Gz rfl rfl (zg rfl ?_)
  refine au.b_ s rfl rfl rfl (eU rfl rfl) (fun p5 h s => ?_)
  refine au.b_ s rfl rfl rfl (cu uX) (fun p8 h s => ?_)
  refine zk 5 rfl (zY s 1 si b9 rfl (zk 6 rfl (zo rfl (dZ rfl rfl) (zk 4 rfl (zb rfl (by exact ew (aq (by omega) (by omega))) ?_)))))
  refine zk 6 rfl (zB rfl aO (by decide) ?_)
  refine zk 15 rfl (zo rfl (cQ rfl (by rw[JH];rfl)) ?_)
  refine zS rfl (s.gX (j:=0) rfl jm rfl rfl) (fun h s => ?_)
  refine zk 3 rfl ?_
  refine WP.ret ⟨aa,_,Dz rfl (s.b7 (k:=0) rfl pU jm) rfl rfl,?_⟩
  exact⟨rfl,bh.2 ⟨bv,cv,us,s.drop.drop⟩⟩
theorem VT (hT:W told)(hB:B≤2000)(hN:N≤65536)(cA:EI N B ε)(hw:NW N now)(hi:ks[i+1]?=some kd)(hl:ks.length≤512)(I:l+1≤64)(hm:kd.pg<N)(hp:bH (pgG now ε kd.pg) 204 0 l cs)(hc:∀c∈cs,jQ l c∧c.length≤225)
 (s:Sat h (GA g a p q r data aN now ε::a_ xu nu (l+1) bu (bP ks)::S)):
  Call ⟨Tryz.prog,told⟩ 157 [.ptr g 0,.agg [.ptr xu 0,.int .i64 (i:Int)],.ptr x 0,.bool true] h fun v h'=>∃y ag,v=.aT [Tl xu i x y,.bool true,.int .i64 0]∧EI N B ag∧Sm N ε ag∧Sat h' (GA g a p q r data aN now ag::a_ y kd.pg l (pgG now ε kd.pg) cs::a_ xu nu (l+1) bu (bP ks)::S):=by
 have AU:=(List.getElem?_eq_some_iff.1 hi).1
 have s:=s.ae [1]
 obtain⟨bv,cv,us,s⟩:=bh.1 s
 have m8:∀ {h:H} {S:List aE} {A C:aE},Sat h (A::C::pt xu (.cells 4 (uL nu (l+1) bv cv) false)::.cg bv bu::roS 1 cv us::cX us (bP ks)::S)→lenV Tryz.prog h 98 cv=some (.int .i64 (ks.length:Int)):=fun {h S A C} s=>by
  have s:=s.drop.drop
  have:=iJ (P:=Tryz.prog) aP s
  rwa [eC] at this
 refine Call.of_wp (hT.free _ rfl) Gz rfl rfl (zg rfl ?_)
 refine au.b_ s rfl rfl rfl (eU rfl rfl) (fun p5 h s => ?_)
 refine au.b_ s rfl rfl rfl (cu uX) (fun p8 h s => ?_)
 refine zk 5 rfl (zY s 1 si b9 rfl (zk 6 rfl (zo rfl (dZ rfl rfl) (zk 7 rfl (zC rfl aO (decide_eq_false (by omega)) ?_)))))
 refine zk 2 rfl (zo rfl (ak (r:=.int .i64 ((i+1:Nat):Int)) rfl rfl (by rw[show((i+1:Nat):Int)=(i:Int)+1 by omega];exact aQ (aq (by omega) (by omega)))) ?_)
 refine zY s 1 jb e_ rfl (zn rfl (zY s 2 cN gz rfl (zo rfl (aD rfl rfl rfl (m8 s)) (zC rfl mV (decide_eq_false (by omega)) ?_))))
 refine zk 6 rfl (zY s 1 jb e_ rfl (zk 3 rfl (zo rfl (cQ rfl (by rw[JH];rfl)) ?_)))
 refine zS rfl (s.gX (j:=0) rfl jm rfl rfl) (fun h s => ?_)
 refine zk 8 rfl (zY s 1 jb e_ rfl (zm rfl (zo rfl (mI rfl (mki_of jT rfl)) (zm rfl (zo rfl (ak (r:=.int .i64 ((i+1:Nat):Int)) rfl rfl (by rw[show((i+1:Nat):Int)=(i:Int)+1 by omega];exact aQ (aq (by omega) (by omega)))) ?_)))))
 have s:=s.ae [2,2,2,2]
 have s:Sat h (a_ xu nu (l+1) bu (bP ks)::_):=bh.2 ⟨bv,cv,us,s⟩
 have s:=s.ae [0,2]
 refine zc rfl (vi hT (EH hT hB hw) cA (jB hi) hm hN hp hc I s) ?_
 rintro v h ⟨y,ag,rfl,uJ,hs,s⟩
 have s:=s.ae [3]
 refine zk 3 rfl (zf rfl (rE _ _) ?_)
 refine zS rfl (by exact s.jS (k:=0) rfl aaz rfl (by decide) rfl rfl) (fun h s => ?_)
 refine zk 4 rfl (zl rfl (s.b7 (k:=0) rfl pU jm) (zm rfl (zB rfl c8 (rfl) (zm rfl ?_))))
 refine zS rfl (s.gX (j:=0) rfl jm rfl rfl) (fun h s => ?_)
 refine zk 3 rfl ?_
 refine WP.ret ⟨aa,_,Dz rfl (s.b7 (k:=0) rfl pU jm) rfl rfl,?_⟩
 exact⟨y,ag,rfl,uJ,hs,(s.ae [3,1,1]).XK 2⟩
theorem VU (hT:W told)(hB:B≤2000)(hN:N≤65536)(cA:EI N B ε)(hw:NW N now)(hk:ks[i]?=some kd)(hi:i+1<ks.length)(hl:ks.length≤512)(I:l+1≤64)(hm:kd.pg<N)(hp:bH (pgG now ε kd.pg) 204 0 l cs)(hc:∀c∈cs,jQ l c∧c.length≤225)
 (s:Sat h (GA g a p q r data aN now ε::a_ xu nu (l+1) bu (bP ks)::S)):
  Call ⟨Tryz.prog,told⟩ 157 [.ptr g 0,.agg [.ptr xu 0,.int .i64 ((i+1:Nat):Int)],.ptr x 0,.bool false] h fun v h'=>∃y ag,v=.aT [Tl xu i y x,.bool true,.int .i64 0]∧EI N B ag∧Sm N ε ag∧Sat h' (GA g a p q r data aN now ag::a_ y kd.pg l (pgG now ε kd.pg) cs::a_ xu nu (l+1) bu (bP ks)::S):=by
 have s:=s.ae [1]
 obtain⟨bv,cv,us,s⟩:=bh.1 s
 have m8:∀ {h:H} {S:List aE} {A C:aE},Sat h (A::C::pt xu (.cells 4 (uL nu (l+1) bv cv) false)::.cg bv bu::roS 1 cv us::cX us (bP ks)::S)→lenV Tryz.prog h 98 cv=some (.int .i64 (ks.length:Int)):=fun {h S A C} s=>by
  have s:=s.drop.drop
  have:=iJ (P:=Tryz.prog) aP s
  rwa [eC] at this
 refine Call.of_wp (hT.free _ rfl) Gz rfl rfl (zg rfl ?_)
 refine au.b_ s rfl rfl rfl (eU rfl rfl) (fun p5 h s => ?_)
 refine au.b_ s rfl rfl rfl (cu uX) (fun p8 h s => ?_)
 refine zk 5 rfl (zY s 1 si b9 rfl (zk 6 rfl (zo rfl (dZ rfl rfl) (zk 4 rfl (zo rfl (ak (r:=.int .i64 (i:Int)) rfl rfl (by rw[show(i:Int)=((i+1:Nat):Int)-1 by omega];exact ew (aq (by omega) (by omega)))) ?_)))))
 refine zk 6 rfl (zC rfl aO (decide_eq_false (by omega)) ?_)
 refine zk 2 rfl (zo rfl (ak (r:=.int .i64 ((i+1:Nat):Int)) rfl rfl (by rw[show((i+1:Nat):Int)=(i:Int)+1 by omega];exact aQ (aq (by omega) (by omega)))) ?_)
 refine zY s 1 jb e_ rfl (zn rfl (zY s 2 cN gz rfl (zo rfl (aD rfl rfl rfl (m8 s)) (zC rfl mV (decide_eq_false (by omega)) ?_))))
 refine zk 6 rfl (zY s 1 jb e_ rfl (zk 3 rfl (zo rfl (cQ rfl (by rw[JH];rfl)) ?_)))
 refine zS rfl (s.gX (j:=0) rfl jm rfl rfl) (fun h s => ?_)
 refine zk 8 rfl (zY s 1 jb e_ rfl (zm rfl (zo rfl (mI rfl (mki_of jT rfl)) (zm rfl ?_))))
 have s:=s.ae [2,2,2,2]
 have s:Sat h (a_ xu nu (l+1) bu (bP ks)::_):=bh.2 ⟨bv,cv,us,s⟩
 have s:=s.ae [0,2]
 refine zc rfl (vi hT (EH hT hB hw) cA (jB hk) hm hN hp hc I s) ?_
 rintro v h ⟨y,ag,rfl,uJ,hs,s⟩
 have s:=s.ae [3]
 refine zk 3 rfl (zf rfl (vF _ _) ?_)
 refine zS rfl (by exact s.jS (k:=0) rfl aaz rfl (by decide) rfl rfl) (fun h s => ?_)
 refine zk 4 rfl (zl rfl (s.b7 (k:=0) rfl pU jm) (zm rfl (zB rfl c8 (rfl) (zm rfl ?_))))
 refine zS rfl (s.gX (j:=0) rfl jm rfl rfl) (fun h s => ?_)
 refine zk 3 rfl ?_
 refine WP.ret ⟨aa,_,Dz rfl (s.b7 (k:=0) rfl pU jm) rfl rfl,?_⟩
 exact⟨y,ag,rfl,uJ,hs,(s.ae [3,1,1]).XK 2⟩
end
section
variable {told:cE} {p:Nat} {v:V}
theorem VV (hT:W told)(hB:B≤2000)(cA:EI N B ε)(hw:NW N now)(gm:fY N R M (pgG now ε))(ht:jC N M ps)(hz:ps.Perm (nr::qs))(pG:nl∈ps)(hnu:nu∈ps)(hlu:nl≠nu)(hf:cB J≤486)(hl:l+1≤64)(Ge:bH bu 204 0 (l+1) qD)(hi:i+1<qD.length)(hcu:∀c∈qD,1≤c.length)
 (s:Sat h (GA g a p q r data aN now ε::roS 1 v us::cX us J::a_ xu nu (l+1) bu qD::a_ xl nl l bl eF::a_ xr nr l br dY::S)):
  Call ⟨Tryz.prog,told⟩ 85 [Tl xu i xl xr,.ptr g 0,v] h fun v' h'=>∃ag aF M' bJ bU,v'=.int .i64 0∧EI N B ag∧Sm N ε ag∧NW N aF∧aF.length≤now.length+3∧fY N R M' (pgG aF ag)∧jC N M' qs∧bH bJ 204 0 l J∧bH bU 204 0 (l+1) (qD.eraseIdx (i+1))∧pgG aF ag nl=bJ∧pgG aF ag nu=bU∧(∀m:Int,m≠1→m≠nl→m≠nu→pgG aF ag m=pgG now ε m) ∧
   Sat h' (GA g a p q r data aN aF ag::a_ xu nu (l+1) bU (qD.eraseIdx (i+1))::S):=by
 have XL:=ht.mc nl pG
 have hur:=ht.mc nu hnu
 have aeL:=Ge.fits
 have s:=s.ae [4]
 obtain⟨bvl,cvl,usl,s⟩:=bh.1 s
 have s:=s.ae [8]
 obtain⟨bvr,cvr,XJ,s⟩:=bh.1 s
 have s:=s.ae [0,3,6,6,6,6]
 have SH:=(j3 (s.kZ (j:=3) rfl (dK _ _ _))).2.2
 refine Call.of_wp (hT.free _ rfl) Tryz.func85 rfl rfl (zg rfl ?_)
 refine au.b_ s rfl rfl rfl (eU rfl rfl) (fun p3 h s => ?_)
 refine zk 4 rfl ?_
 have s:=s.ae [3,3,3]
 refine WP.drawn [af,af,af,af,af,af,af,af,af,af,af,af,af,af] rfl (by kernel_rfl) (by kernel_rfl) ?_
 refine zM rfl (zF rfl (vF _ _) (zL rfl (s.ld (k:=3) rfl e_ rfl) (zN rfl (zF rfl (iZ _ _) (zL rfl (s.ld (k:=5) rfl b9 rfl) (zF rfl (vF _ _) (zL rfl (s.ld (k:=3) rfl e_ rfl) (zN rfl (zF rfl (fG _ _) (zL rfl (s.ld (k:=5) rfl b9 rfl) (zM rfl (aB.any rfl rfl rfl rfl (OpR.call rfl rfl rfl rfl (mN hT hB cA hw XL.2 (dK _ _ _) hf (by omega) s)) ?_))))))))))))
 rintro v0 h ⟨ep,bJ,rfl,a1,a2,a3,a4,s⟩
 have jO:∀m:Int,pgG (cD (nl:Int) bJ now) ep m=if (nl:Int)=m then bJ else pgG now ε m:=fun m=>by rw[eH,gA a2]
 have Ax:fY N R M (pgG (cD (nl:Int) bJ now) ep):=gm.frame (by rw[jO,ai (by omega)]) (by rw[jO,ai (by omega)])
 have m8:=ga (i:=(nl:Int)) (b:=bJ) (now:=now)
 generalize aeM:cD (nl:Int) bJ now=oc at s jO Ax a3 m8
 refine zA rfl ?_
 refine aB.nil ⟨⟨aa,aa,aa,aa,aa,aa,aa,aa,aa,aa,aa,aa,aa,aa,aa⟩,?_⟩
 refine zK 3 rfl (zC rfl aH (rfl) (zk 7 rfl (zY s 3 rE e_ rfl (zn rfl (zY s 4 iZ b9 rfl (zc rfl (EU hT hB a1 a3 Ax ht hz s) ?_))))))
 rintro v0 h ⟨iQ,mh,M2,rfl,c1,c2,c3,c4,c5,c6,c7,s⟩
 refine zk 5 rfl (zC rfl aH (rfl) (zk 5 rfl (zY s 3 lQ e_ rfl (zm rfl (zY s 3 yJ b9 rfl (zo rfl (ak (r:=.int .i64 ((i+1:Nat):Int)) rfl rfl (by rw[show((i+1:Nat):Int)=(i:Int)+1 by omega];exact aQ (aq (by omega) (by omega)))) ?_))))))
 have s:=s.ae [0,5]
 refine zc rfl (Ec hT hB c1 c3 hur.2 Ge hi hcu s) ?_
 rintro v0 h ⟨kC,bU,rfl,d1,d2,d3,d4,s⟩
 refine zk 2 rfl (WP.ret ⟨aa,_,rfl,?_⟩)
 have I:∀m:Int,pgG (cD (nu:Int) bU mh) kC m=if (nu:Int)=m then bU else pgG mh iQ m:=fun m=>by rw[eH,gA d2]
 have ad1:=ga (i:=(nu:Int)) (b:=bU) (now:=mh)
 refine⟨kC,_,M2,bJ,bU,rfl,d1,a2.trans (c2.trans d2),d3,by omega,c5.frame ?_ ?_,c6,a4.f,d4,?_,?_,fun m h1 h2 h3 => ?_,s.XI 11⟩
 ·rw[I,ai (by omega)]
 ·rw[I,ai (by omega)]
 ·rw[I,ai (by omega),c7 _ (by omega),jO,ay rfl]
 ·rw[I,ay rfl]
 ·rw[I,ai (fun e=>h3 e.symm),c7 _ h1,jO,ai (fun e=>h2 e.symm)]
end
section
variable {told:cE} {p:Nat}
theorem EV {k lk e:Nat}(h:bH b k lk e cs): cB cs≤486:=by
 have:=h.fits
 rw[j5];omega
theorem MT {n l:Int}{bv cv:V}(hb:View h bv b)(hc:xx (T.get h.tr) 1 cv us): buildV Tryz.prog 101 [(0,.int .i64 n),(1,.int .i64 l),(2,bv),(3,cv)]=some (.agg [.int .i64 n,.int .i64 l,bv,cv]):=by
 rcases hb.2 with⟨rfl|⟨a,rfl⟩,_⟩|⟨id,off,cap,N,cs,st,rfl,_⟩<;>rcases hc.2 with⟨rfl,_⟩|⟨sk,I,n2,HE,N2,rest,rfl,_⟩<;>(rw[Pg];rfl)
noncomputable def ad2 : Code:=eu [1,1,0,0,0] ((Tryz.f154.body).getD .skip)
theorem GH (hT:W told)(hB:B≤2000)(hN:N≤65536)(hL:L≤60): ∀(l x nl:Nat) (cs:List (List Nat)) (ps M:List Nat) (ε:bE) (now:List (Int×List Nat)) (h:H) (E:List (Nat×V)) (S:List aE) (Q:Ex→List (Nat×V)→H→Prop),
  EI N B ε→NW N now→fY N R M (pgG now ε)→jC N M ((root::ps)++ot)→Nv (cS Z) (pgG now ε) l [] none cs es ps→bH (pgG now ε root) 204 0 l cs→l≤L→lam l cs≤A→(1≤l→374*l+112≤A)→(∀m∈ot,pgG now ε (m:Nat)=P0 m)→now.length+2*l≤nl →
  Sat h (GA g a p q r data aN now ε::a_ x root l (pgG now ε root) cs::S)→Has E [(0,.ptr g 0),(1,.ptr x 0)] →
  (∀E' h' ag aF,EI N B ag→Sm N ε ag→NW N aF→aF.length≤nl→qC N root R ot Z A L P0 (pgG aF ag) es→Has E' [(0,.ptr g 0)]→Sat h' (GA g a p q r data aN aF ag::S)→Q (.exit 0) E' h')→WP ⟨Tryz.prog,told⟩ 91 (.loop ad2) E h Q:=by
 intro l
 induction l with
 |zero =>
  intro x nl cs ps M ε now h E S Q cA hw gm I jD hp hlL AG XM ur pG s hE hq
  have s:=s.ae [1]
  obtain⟨bv,cv,us,s⟩:=bh.1 s
  refine WP.loop (WP.has hE (zK 5 rfl (zY s 0 fG b9 rfl (zC rfl cV (by simp) ?_))))
  refine zk 10 rfl (WP.exit ?_)
  have s:=s.ae [4]
  exact hq _ _ ε now cA (Sm.refl N ε) hw (by omega) ⟨M,0,cs,ps,gm,I,jD,hp,⟨hlL,AG⟩,ur⟩ ⟨rfl,aa⟩ (s.skip 4)
 |succ l ih =>
  intro x nl cs ps M ε now h E S Q cA hw gm I jD hp hlL AG XM ur pG s hE hq
  have ad3:=jD
  obtain⟨ks,rfl,hS,rfl,rfl,Qe⟩:=jD
  have s0:=s
  have s:=s.ae [1]
  obtain⟨bv,cv,us,s⟩:=bh.1 s
  have m8:=iJ (P:=Tryz.prog) aP s
  rw[eC] at m8
  refine WP.loop (WP.has hE (zK 5 rfl (zY s 0 fG b9 rfl (zB rfl cV (by simp) ?_))))
  refine zk 3 rfl (zY s 0 cN gz rfl (zo rfl (aD rfl rfl rfl m8) ?_))
  by_cases h1:ks.length=1
  ·obtain⟨kd,rfl⟩:=List.length_eq_one_iff.1 h1
   obtain⟨cs',a1,a2,a3⟩:=Qe 0 kd rfl
   have e1:loK [] [kd] 0=[]:=rfl
   have e2:cZ none [kd] 0=none:=rfl
   rw[e1,e2] at a1
   have sM:=I.mc root (by simp)
   have Ed:=I.mc kd.pg (by simp[ej])
   have iS:=I.nd
   simp only[gi,yl,fe,ej,fF,oC,gj,nB,not_or] at iS
   refine zB rfl c8 (by simp) ?_
   refine zk 4 rfl (WP.block (zK 4 rfl (zo rfl (mI rfl (mki_of jT rfl)) (zc rfl (vi hT (EH hT hB hw) cA (jB (i:=0) (k:=kd) rfl) Ed.2 hN a3 (fun c hc=>⟨(a1.cells c hc).1,(a1.cells c hc).2.1⟩) (by omega) (s0.ae [1])) ?_))))
   rintro v h ⟨y,ep,rfl,ou,fK,s⟩
   obtain⟨Gu,wG,Xx,s⟩:=bh.1 s
   have hyb:=(s.aC (k:=1) rfl (bj _ _)).cells
   have hyc:=j3 (s.kZ (j:=2) rfl (dK _ _ _))
   have jP:pgG now ep=pgG now ε:=gA fK
   have acD:((root::[kd].flatMap ej)++ot).Perm (kd.pg::((root::kd.ps)++ot)):=by
    rw[lH]
    intro z
    simp only[gi,yl,fe,ej,lJ,lK,fF]
    omega
   have s:=s.ae [5]
   refine zk 10 rfl (zC rfl aH (rfl) (zk 9 rfl (zY s 1 iZ b9 rfl (zc rfl (EU hT hB ou hw (by rw[jP];exact gm) I acD s) ?_))))
   rintro v h ⟨iQ,mh,M2,rfl,c1,c2,c3,c4,c5,c6,c7,s⟩
   refine zk 5 rfl (zC rfl aH (rfl) ?_)
   have s:=s.ae [5,1]
   obtain⟨bv3,cv3,us3,s⟩:=bh.1 s
   have s:=s.ae [4,0,3]
   refine zk 5 rfl (WP.drawn [af,af,af,af,af,af,af,af,af,af,af] rfl (by kernel_rfl) (by kernel_rfl) ?_)
   refine zM rfl (zM rfl (zN rfl (zF rfl (iZ _ _) (zL rfl (s.ld (k:=1) rfl b9 rfl) (zM rfl (zN rfl (zF rfl (nN _ _) (zL rfl (s.ld (k:=0) rfl bF rfl) ?_))))))))
   have s:=s.ae [2,5]
   refine aB.any rfl rfl rfl rfl (OpR.call rfl rfl rfl rfl (wF hT hB c1 c3 sM.2 s (bj _ _) a3.good)) ?_
   rintro v h ⟨kC,rfl,d1,d2,d3,s⟩
   refine zA rfl ?_
   refine aB.nil ⟨⟨aa,aa,aa,aa,aa,aa,aa,aa,aa,aa,aa,aa⟩,?_⟩
   refine zK 3 rfl (zC rfl aH (rfl) ?_)
   have s:=s.ae [2,2,5]
   refine zk 3 rfl (WP.drawn [af,af,af,af,af,af,af,af,af,af,af,af,af,af,af,af,af,af,af] rfl (by kernel_rfl) (by kernel_rfl) ?_)
   refine zM rfl (zN rfl (zF rfl (iZ _ _) (zL rfl (s.ld (k:=1) rfl b9 rfl) (zM rfl (zN rfl (zF rfl (fG _ _) (zL rfl (s.ld (k:=0) rfl b9 rfl) (zM rfl (zN rfl (zF rfl (nN _ _) (zL rfl (s.ld (k:=0) rfl bF rfl) (zM rfl (zN rfl (zF rfl (cN _ _) (zL rfl (s.ld (k:=0) rfl gz rfl) (zO rfl (cQ (r:=.agg (uL root l Gu wG)) rfl (MT (s.aC (k:=4) rfl (bj _ _)) (s.kZ (j:=2) rfl (dK _ _ _)))) (aB.any rfl rfl rfl rfl (OpR.of (R:=fun v h'=>v=.ptr h.next 0∧h'=h.new (.cells 4 (uL root l Gu wG) false)) (eU rfl (by simp only[V.cells,kD,lP,hyb.2,hyc.2.1];rfl)) ⟨rfl,rfl⟩) ?_)))))))))))))))))
   rintro v' h' ⟨rfl,rfl⟩
   have s:=s.new (.cells 4 (uL root l Gu wG) false)
   generalize h.next=x2 at s ⊢
   have s:=s.ae [0,4,2,6,2]
   have s:Sat _ (a_ x2 root l (pgG now ε kd.pg) cs'::_):=bh.2 ⟨Gu,wG,Xx,s⟩
   refine zA rfl ?_
   refine aB.nil ⟨⟨aa,aa,aa,aa,aa,aa,aa,aa,aa,aa,aa,aa,aa,aa,aa,aa,aa,aa,aa,aa⟩,?_⟩
   have jO:∀m:Int,pgG (cD (root:Int) (pgG now ε kd.pg) mh) kC m=if (root:Int)=m then pgG now ε kd.pg else pgG mh iQ m:=fun m=>by rw[eH,gA d2]
   have m8:=ga (i:=(root:Int)) (b:=pgG now ε kd.pg) (now:=mh)
   generalize cD (root:Int) (pgG now ε kd.pg) mh=LZ at s jO m8 d3
   have Gw:pgG LZ kC root=pgG now ε kd.pg:=by rw[jO,ay rfl]
   have hold:∀m:Nat,m∈kd.ps∨m∈ot→pgG LZ kC (m:Nat)=pgG now ε m:=fun m hm=>by
    have hr:=I.mc m (by simp only[gi,yl,fe,ej,fF,gj,nB];rcases hm with q|q<;>simp[q])
    have eZ:m≠root:=fun e=>by
     subst e
     rcases hm with q|q
     ·exact iS.1.2.1 q
     ·exact iS.1.2.2 q
    rw[jO,ai (by omega),c7 _ (by omega),jP]
   have hz:=EV a3
   rw[←Gw] at s
   have h2a:=XM (by omega)
   have he:[kd].flatMap (·.es)=kd.es:=by simp
   have s:=s.ae [1]
   dsimp only[aL,bringA,getA] at s
   refine ih x2 nl cs' kd.ps M2 kC LZ _ _ _ Q d1 d3 (c5.frame (by rw[jO,ai (by omega)]) (by rw[jO,ai (by omega)])) c6 ?_ (by rw[Gw];exact a3) (by omega) ?_ (fun _=>by omega) (fun m hm=>by rw[hold m (.inr hm),ur m hm]) (by omega) s ⟨rfl,rfl,aa⟩ fun E' h' ag aF w1 w2 w3 w4 w5 eN s'=>hq E' h' ag aF w1 (fK.trans (c2.trans (d2.trans w2))) w3 w4 w5 eN (s'.skip 5)
   ·rw[he]
    exact a1.frame fun m hm=>hold m (.inl hm)
   ·unfold lam
    split<;>omega
  ·skip
   refine zC rfl c8 (by simp;omega) ?_
   refine zk 3 rfl (WP.exit ?_)
   have s:=s.ae [4]
   exact hq _ _ ε now cA (Sm.refl N ε) hw (by omega) ⟨M,l+1,_,_,gm,I,ad3,hp,⟨hlL,AG⟩,ur⟩ ⟨rfl,aa⟩ (s.skip 4)
theorem VW (hT:W told)(hB:B≤2000)(hN:N≤65536)(hL:L≤60)(cA:EI N B ε)(hw:NW N now)(gm:fY N R M (pgG now ε))(kH:jC N M ((root::ps)++ot))
 (jD:Nv (cS Z) (pgG now ε) L [] none cs es ps∨1≤L∧cs=[]∧es=[]∧ps=[])(hp:bH (pgG now ε root) 204 0 L cs)(AG:lam L cs≤A)(I:1≤L→374*L+112≤A)(s:Sat h (GA g a p q r data aN now ε::a_ x root L (pgG now ε root) cs::S)):
  Call ⟨Tryz.prog,told⟩ 154 [.ptr g 0,.ptr x 0] h fun v h'=>∃ag aF,v=.int .i64 0∧EI N B ag∧Sm N ε ag∧NW N aF∧aF.length≤now.length+2*L+1∧qC N root R ot Z A L (pgG now ε) (pgG aF ag) es∧Sat h' (GA g a p q r data aN aF ag::S):=by
 have sM:=kH.mc root (by simp)
 have s0:=s
 have s:=s.ae [1]
 obtain⟨bv,cv,us,s⟩:=bh.1 s
 have m8:=iJ (P:=Tryz.prog) aP s
 rcases jD with jD|⟨h1,rfl,rfl,rfl⟩
 ·have eZ:L=0∨cs.length≠0:=by
   cases L with
   |zero=>exact .inl rfl
   |succ l =>
    obtain⟨ks,rfl,hS,_⟩:=jD
    rw[eC]
    exact .inr fun q=>hS.ne (ic q)
  refine Call.of_wp (hT.free _ rfl) Tryz.func154 rfl rfl (zK 9 rfl (zY s 0 fG b9 rfl ?_))
  by_cases h0:L=0
  ·skip
   refine zC rfl cV (by simp;omega) ?_
   refine zk 12 rfl (WP.block (GH (P0:=pgG now ε) (A:=A) (L:=L) (R:=R) (ot:=ot) (Z:=Z) (es:=es) hT hB hN hL L x (now.length+2*L+1) cs ps M ε now _ _ S _ cA hw gm kH jD hp (aI _) AG I (fun _ _=>rfl) (by omega) s0 ⟨rfl,rfl,aa⟩ fun E' h' ag aF w1 w2 w3 w4 w5 hE s' => ?_))
   have s:=s'
   exact WP.has hE (zK 4 rfl (WP.ret ⟨aa,_,rfl,ag,aF,rfl,w1,w2,w3,w4,w5,s⟩))
  ·skip
   refine zB rfl cV (by simp;omega) ?_
   refine zk 3 rfl (zY s 0 cN gz rfl (zo rfl (aD rfl rfl rfl m8) (zC rfl c8 (decide_eq_false (by have:=eZ.resolve_left h0;omega)) ?_)))
   refine zk 5 rfl (WP.block (GH (P0:=pgG now ε) (A:=A) (L:=L) (R:=R) (ot:=ot) (Z:=Z) (es:=es) hT hB hN hL L x (now.length+2*L+1) cs ps M ε now _ _ S _ cA hw gm kH jD hp (aI _) AG I (fun _ _=>rfl) (by omega) s0 ⟨rfl,rfl,aa⟩ fun E' h' ag aF w1 w2 w3 w4 w5 hE s' => ?_))
   have s:=s'
   exact WP.has hE (zK 4 rfl (WP.ret ⟨aa,_,rfl,ag,aF,rfl,w1,w2,w3,w4,w5,s⟩))
 ·refine Call.of_wp (hT.free _ rfl) Tryz.func154 rfl rfl ?_
  refine zK 9 rfl (zY s 0 fG b9 rfl (zB rfl cV (by simp;omega) ?_))
  refine zk 3 rfl (zY s 0 cN gz rfl (zo rfl (aD rfl rfl rfl m8) (zB rfl c8 (rfl) ?_)))
  have s:=(N7 s).mJ (k:=1)
  have s:=s.ae [6]
  refine zk 8 rfl (zY s 3 iZ b9 rfl (zc rfl (mN (l:=0) hT hB cA hw sM.2 (ji _ _ _).s (by decide) (by omega) s) ?_))
  rintro v h ⟨ep,b1,rfl,c1,c2,c3,c4,s⟩
  have jO:∀m:Int,pgG (cD (root:Int) b1 now) ep m=if (root:Int)=m then b1 else pgG now ε m:=fun m=>by rw[eH,gA c2]
  have m8:=ga (i:=(root:Int)) (b:=b1) (now:=now)
  have iS:=kH.nd
  rw[fF,oC] at iS
  refine zk 2 rfl (WP.ret ⟨aa,_,rfl,?_⟩)
  refine⟨ep,_,rfl,c1,c2,c3,by omega,⟨M,0,[],[],gm.frame (by rw[jO,ai (by omega)]) (by rw[jO,ai (by omega)]),kH,⟨rfl,⟨by simp,by simp,List.Pairwise.nil⟩,rfl⟩,by rw[jO,ay rfl];exact c4.f,⟨gu _,?_⟩,fun m hm => ?_⟩,s.skip 6⟩
  ·have:=I h1
   show 486≤A
   omega
  ·have:m≠root:=fun e=>iS.1 (by rw[←e];exact hm)
   rw[jO,ai (by omega)]
end
section
variable {told:cE} {p:Nat} {v:V}
def ShR (N B g a p q r aN nu nl nr l i:Nat)(data:List Nat)(qD J:List (List Nat))(ε:bE)(now:List (Int×List Nat))(S:List aE)(v:V)(h':H): Prop:=∃ag aF,v=.int .i64 0∧EI N B ag∧Sm N ε ag∧NW N aF∧aF.length≤now.length+3∧Sat h' (GA g a p q r data aN aF ag::S) ∧
 (pgG aF ag=pgG now ε∨∃k ck I br' bu',J[k]?=some ck∧lZ J 2 k∧bH I 204 0 l (J.take k)∧bH br' 204 0 l (rgtC l (J.drop k))∧bH bu' 204 0 (l+1) (qD.set (i+1) (eX nr (gp l ck)))∧pgG aF ag nl=I∧pgG aF ag nr=br'∧pgG aF ag nu=bu'∧∀m:Int,m≠nl→m≠nr→m≠nu→pgG aF ag m=pgG now ε m)
set_option maxHeartbeats 1000000 in
theorem VX (hT:W told)(hB:B≤2000)(cA:EI N B ε)(hw:NW N now)(uf:1≤l)(hl:l+1≤64)(hJ1:486<cB J)(XN:cB J≤695)(hJc:∀c∈J,jQ l c∧c.length≤100)(hcu:∀c∈qD,c.length≤100)(sQ:qD.length≤512)(hi:i+1<qD.length)(pG:nl<N)(oh:nr<N)(hnu:nu<N)(hN:N≤65536)(h1:nl≠nr)(h2:nl≠nu)(h3:nr≠nu)
 (s:Sat h (GA g a p q r data aN now ε::roS 1 v us::cX us J::a_ xu nu (l+1) bu qD::a_ xl nl l bl eF::a_ xr nr l br dY::S)):
  Call ⟨Tryz.prog,told⟩ 158 [Tl xu i xl xr,.ptr g 0,v] h (ShR N B g a p q r aN nu nl nr l i data qD J ε now S):=by
 obtain⟨k0,Bl⟩:=La (fun c hc=>by have:=(hJc c hc).2;omega) hJ1 XN
 have adO:=Bl.k2
 have hJl:J.length≤512:=by
  rw[j5] at XN
  omega
 have s:=s.ae [4]
 dsimp only[bringA,getA,aL] at s
 obtain⟨bvl,cvl,usl,s⟩:=bh.1 s
 have s:=s.ae [8]
 dsimp only[bringA,getA,aL] at s
 obtain⟨bvr,cvr,XJ,s⟩:=bh.1 s
 have s:=(((((((s.ae [0,3,6,6,6,6]).del 11).del 10).del 9).del 8).del 7).del 6)
 dsimp only[bringA,getA,aL] at s
 have afa:=jZ (s.ae [4])
 refine Call.of_wp (hT.free _ rfl) Tryz.func158 rfl rfl ?_
 have s:=s.ae [3,3]
 dsimp only[bringA,getA,aL] at s
 refine zg rfl ?_
 refine au.b_ s rfl rfl rfl (eU rfl rfl) (fun p3 h s => ?_)
 dsimp only[V.cells,List.length_cons,List.length_nil,Nat.reduceAdd] at s
 refine za rfl (zv (zg rfl (zm rfl ?_)))
 have s:=s.ae [1,1]
 dsimp only[bringA,getA,aL] at s
 refine au.call rfl rfl rfl rfl rfl rfl rfl (I8 (least:=2) hT (dK _ _ _) (fun c h=>by have:=(hJc c h).2;omega) hJl (by omega) (by omega) s) ?_
 rintro v0 h ⟨k,rfl,lT,qa,s⟩
 have hk:k≠0:=fun e=>lT e k0 Bl
 have nV:=qa hk
 have lS:=nV.k1
 have mK:=nV.k2
 obtain⟨ck,A_⟩:∃ck,J[k]?=some ck:=⟨_,aG mK⟩
 refine za rfl (zv (zw (zg rfl (zm rfl (au.qb rfl rfl rfl (ak rfl rfl c8) (by simp;omega) ?_)))))
 refine zv (zj rfl (WP.skip (zw ?_)))
 have afb:=jZ (s.ae [1])
 have z0:=s
 have g1:=xD (P:=Tryz.prog) (b:=k) (s.kZ (j:=0) rfl (dK _ _ _)) (by omega) lS aP dH
 have g2:=JP (P:=Tryz.prog) (a:=k) (s.kZ (j:=0) rfl (dK _ _ _)) (by omega) aP dH
 obtain⟨v1,f1,s⟩:=Xl (P:=Tryz.prog) (b:=k) s (by omega) lS aP dH
 obtain⟨v2,f2,s⟩:=Xm (P:=Tryz.prog) (a:=k) (s.ae [1]) (by omega) aP dH
 dsimp only[bringA,getA,aL] at s
 rw[g1] at f1
 rw[g2] at f2
 cases f1
 cases f2
 have SZ:=(j3 (s.kZ (j:=1) rfl (dK _ _ _))).2.2
 have lT:=(j3 (s.kZ (j:=2) rfl (dK _ _ _))).2.2
 have qa:=(j3 (s.kZ (j:=0) rfl (dK _ _ _))).2.2
 refine WP.drawn [some (0,2),some (0,2),some (0,2),some (0,2),af,af,af,af,af,af] rfl (by kernel_rfl) (by kernel_rfl) ?_
 refine zM rfl (zM rfl (zM rfl (zO rfl (bO (p:=none) (q:=some (.int .i64 (k:Int))) (m:=some (.int .i64 (k:Int))) (p':=none) (q':=some k) (m':=some k) rfl rfl rfl rfl rfl (by rw[bT (by omega)];rfl) (by rw[bT (by omega)];rfl) (xD (s.kZ (j:=1) rfl (dK _ _ _)) (by omega) lS aP dH)) ?_)))
 refine zM rfl (zM rfl (zO rfl (bO (p:=some (.int .i64 (k:Int))) (q:=none) (m:=none) (p':=some k) (q':=none) (m':=none) rfl rfl rfl rfl (by rw[bT (by omega)];rfl) rfl rfl (JP (s.kZ (j:=1) rfl (dK _ _ _)) (by omega) aP dH)) ?_))
 have z0:=s
 refine aB.any rfl rfl rfl rfl (OpR.call rfl rfl rfl rfl (mO hT s (dK _ _ _) (by rw[fc];omega))) ?_
 intro cv h s
 have z1:=s.ae [1,1]
 dsimp only[bringA,getA,aL] at z1
 refine zA rfl (zA rfl ?_)
 refine aB.nil ⟨⟨fun _ _=>.inr ⟨rfl,⟨_,bV rfl⟩,SZ⟩,fun _ _=>.inr ⟨rfl,⟨_,bV rfl⟩,bg _ rfl⟩,fun _ _=>.inr ⟨rfl,⟨_,bV rfl⟩,bg _ rfl⟩,fV (.inr ⟨rfl,⟨_,bO (p:=none) (q:=some (.int .i64 (k:Int))) (m:=some (.int .i64 (k:Int))) (p':=none) (q':=some k) (m':=some k) rfl rfl rfl rfl rfl (by rw[bT (by omega)];rfl) (by rw[bT (by omega)];rfl) (xD (z0.kZ (j:=1) rfl (dK _ _ _)) (by omega) lS aP dH)⟩,lT⟩) (.inr ⟨rfl,⟨_,bO (p:=none) (q:=some (.int .i64 (k:Int))) (m:=some (.int .i64 (k:Int))) (p':=none) (q':=some k) (m':=some k) rfl rfl rfl rfl rfl (by rw[bT (by omega)];rfl) (by rw[bT (by omega)];rfl) (xD (z1.kZ (j:=1) rfl (dK _ _ _)) (by omega) lS aP dH)⟩,lT⟩),aa,aa,aa,aa,aa,aa,aa⟩,?_⟩
 have s:=(s.del 2).del 1
 dsimp only[Nat.reduceAdd,aL] at s
 have s:=LH k (s.ae [2])
 dsimp only[aL,bringA] at s
 have s:=LI k (s.ae [1])
 dsimp only[aL,bringA] at s
 have s:=s.ae [9]
 dsimp only[bringA,getA,aL] at s
 obtain⟨bvu,cvu,usu,s⟩:=bh.1 s
 have afc:=jZ (s.ae [3])
 have s:=(s.del 5).ae [8,8,8,0]
 dsimp only[aL,bringA,getA] at s
 refine zg rfl (zf rfl (lQ _ _) (zl rfl (by exact s.ld (k:=0) rfl e_ rfl) ?_))
 refine zn rfl (zf rfl (cN _ _) (zl rfl (by exact s.ld (k:=3) rfl gz rfl) ?_))
 have s:=s.ae [5]
 dsimp only[bringA,getA,aL] at s
 refine au.call rfl rfl rfl rfl rfl rfl rfl (mO hT s (dK _ _ _) (by omega)) ?_
 intro uv h s
 have s:=s.ae [2,2,8]
 dsimp only[bringA,getA,aL] at s
 refine za rfl (zv (zw ?_))
 have M8:=(j3 (((s.ae [3]).dQ kL).kZ (j:=0) rfl (ji _ _ _).s)).2.2
 have VI:(J.drop k)[0]?=some ck:=by rw[fb,eS];exact A_
 obtain⟨I,aeD⟩:=hJc ck (aM A_)
 rw[jQ,ai (by omega)] at I
 have oV:gp l ck=ck.drop 4:=by rw[gp,ai (by omega)]
 have s:=s.ae [2,8]
 dsimp only[bringA,getA,aL] at s
 obtain⟨u0,Xp,ad4,e1,e2,Xf,s⟩:=xB (P:=Tryz.prog) (fun m r h=>(ji _ _ _).s m r (kL m r h)) VI aP dH bF s
 have hv0:=s.aC (k:=2) rfl (bj _ _)
 have z0:=s
 refine WP.drawn [some (0,2),some (0,2),some (0,2),some (0,2),af,af,af,af,af,af,af,af,af,af,af,af] rfl (by kernel_rfl) (by kernel_rfl) ?_
 refine zM rfl (zF rfl (yJ _ _) (zL rfl (by exact s.ld (k:=3) rfl b9 rfl) ?_))
 refine zO rfl (ak (r:=.int .i64 ((i+1:Nat):Int)) rfl rfl (by rw[show((i+1:Nat):Int)=(i:Int)+1 by omega];exact aQ (aq (by omega) (by omega)))) ?_
 refine zF rfl (rE _ _) (zL rfl (by exact s.ld (k:=3) rfl e_ rfl) ?_)
 refine zN rfl (zF rfl (iZ _ _) (zL rfl (by exact s.ld (k:=4) rfl b9 rfl) ?_))
 refine zM rfl (zO rfl (bS (r:=.ptr Xp ad4) rfl rfl e1) (zL rfl e2 (zO rfl (bO (p:=some (.int .i64 4)) (q:=none) (m:=none) (p':=some 4) (q':=none) (m':=none) rfl rfl rfl rfl (by rfl) rfl rfl (hU hv0 I).1) ?_)))
 have s:=(s.ae [2]).dQ (qS (a:=4) (b:=ck.length) I (aI _))
 rw[mo,←oV] at s
 dsimp only[aL,bringA] at s
 refine aB.any rfl rfl rfl rfl (OpR.call rfl rfl rfl rfl (y9 hT (m:=nr) (by omega) s (bj _ _) (by rw[oV,fc];omega))) ?_
 intro u1 h s
 have s:=s.eW
 have A9:=(s.aC (k:=0) rfl (bj _ _)).cells
 have z1:=s
 have s:=(s.ae [6]).dQ kL
 dsimp only[aL,bringA] at s
 obtain⟨sk,H8,Iq,e3,e4,s2⟩:=sK (P:=Tryz.prog) (i:=i+1) (x:=u1) s (by omega) A9.1 A9.2 aP dH
 refine zO rfl (bS (r:=.ptr sk H8) rfl rfl e3) (aB.mg rfl rfl rfl (OpR.yH rfl rfl rfl (⟨_,e4,s2⟩)) ?_)
 rintro _ h ⟨_,s⟩
 refine aB.nil ⟨⟨fun _ _=>.inr ⟨rfl,⟨_,bV rfl⟩,M8⟩,fun _ _=>.inr ⟨rfl,⟨_,mU rfl (yJ _ _)⟩,bg _ rfl⟩,fV (.inr ⟨rfl,⟨_,o_load rfl (by exact z0.ld (k:=3) rfl b9 rfl)⟩,bg _ rfl⟩) (.inr ⟨rfl,⟨_,o_load rfl (by exact z1.ld (k:=4) rfl b9 rfl)⟩,bg _ rfl⟩),fun _ _=>.inr ⟨rfl,⟨_,ak (r:=.int .i64 ((i+1:Nat):Int)) rfl rfl (by rw[show((i+1:Nat):Int)=(i:Int)+1 by omega];exact aQ (aq (by omega) (by omega)))⟩,bg _ rfl⟩,aa,aa,aa,aa,aa,aa,aa,aa,aa,aa,aa,aa,aa⟩,?_⟩
 have s:=Ol (i:=i+1) (s.ae [1,10])
 dsimp only[aL,bringA] at s
 have s:=s.ae [1]
 dsimp only[bringA,getA,aL] at s
 have HV:∀c∈qD.set (i+1) (eX nr (gp l ck)),c.length≤100:=fun c hc=>by
  rcases mj hc with q|rfl
  ·exact hcu c q
  ·rw[eX,aX,cJ,oV,fc];omega
 refine zw (zg rfl (zm rfl (au.call rfl rfl rfl rfl rfl rfl rfl (EJ hT (ji _ _ _).s (fun c hc=>by have:=HV c hc;omega) (by rw[cI];exact sQ) s) ?_)))
 rintro v0 h ⟨rfl,s⟩
 by_cases cU:486<cB (qD.set (i+1) (eX nr (gp l ck)))
 ·skip
  refine au.uH rfl rfl rfl (ak rfl rfl cV) (by simp;omega) ?_
  have s:=s.ae [13]
  dsimp only[bringA,getA,aL] at s
  refine zv (zi rfl (zg rfl (za rfl (zv ?_))))
  refine WP.ret ⟨aa,_,rfl,?_⟩
  exact⟨ε,now,rfl,cA,Sm.refl N ε,hw,by omega,s.skip 13,.inl rfl⟩
 ·skip
  refine au.qb rfl rfl rfl (ak rfl rfl cV) (by simp;omega) ?_
  have hd:J.drop k=ck::J.drop (k+1):=by
   rw[pH mK,(List.getElem?_eq_some_iff.1 A_).2]
  have hrg:rgtC l (J.drop k)=ck.take 4::J.drop (k+1):=by rw[hd,rgtC,ai (by omega)]
  have Ql:lZ J (min 2 (l+1)) k:=by rw[show min 2 (l+1)=2 by omega];exact nV
  obtain⟨_,_,_,_,fK,nc,_,_⟩:=Ql.parts
  have s:=(s.ae [3]).dQ kL
  dsimp only[aL,bringA] at s
  have s:=s.ae [0,3]
  dsimp only[bringA,getA,aL] at s
  rw[hd] at s
  obtain⟨u2,xA,sI,e5,e6,_,s⟩:=xB (P:=Tryz.prog) (i:=0) (ji _ _ _).s rfl aP dH bF s
  have hv3:=s.aC (k:=2) rfl (bj _ _)
  have hv4:=LM (b:=4) (d:=4) hv3 (aI _) I (by omega)
  have s:=(s.ae [2]).dQ (Jb (a:=0) (b:=4) (d:=4) (by omega) (by omega) I (by omega))
  dsimp only[List.drop,aL,bringA] at s
  have hvd:=(s.aC (k:=0) rfl (bj _ _)).cells
  have s:=s.ae [1]
  dsimp only[bringA,getA,aL] at s
  obtain⟨Jd,CA,h4,e7,e8,s4⟩:=sK (P:=Tryz.prog) (i:=0) (x:=slR3 u2 0 4 4) s (by rw[fc];omega) hvd.1 hvd.2 aP dH
  have s4:=ES (s4.ae [1,1])
  dsimp only[aL,bringA] at s4
  have s4:=s4.ae [1]
  dsimp only[bringA,getA,aL] at s4
  rw[←hrg] at s4
  refine zv (zj rfl (WP.skip (zg rfl (zm rfl (zm rfl (zo rfl (bS (r:=.ptr xA sI) rfl rfl e5) (zl rfl e6 (zo rfl (bO (p:=none) (q:=some (.int .i64 4)) (m:=some (.int .i64 4)) (p':=none) (q':=some 4) (m':=some 4) rfl rfl rfl rfl rfl rfl rfl hv4) (zo rfl (bS (r:=.ptr Jd CA) rfl rfl e7) (au.yH rfl rfl rfl rfl rfl (⟨_,e8,s4⟩) ?_))))))))))
  intro h s
  have s:=s.ae [13,12,11,5,7,5,6]
  dsimp only[bringA,getA,aL] at s
  refine zv (zw (zw (WP.drawn [af,af,af,af,af,af,af,af,af,af,af,af,af,af] rfl (by kernel_rfl) (by kernel_rfl) ?_)))
  refine zM rfl (zF rfl (vF _ _) (zL rfl (by exact s.ld (k:=3) rfl e_ rfl) ?_))
  refine zN rfl (zF rfl (iZ _ _) (zL rfl (by exact s.ld (k:=4) rfl b9 rfl) ?_))
  refine zF rfl (vF _ _) (zL rfl (by exact s.ld (k:=3) rfl e_ rfl) ?_)
  refine zN rfl (zF rfl (fG _ _) (zL rfl (by exact s.ld (k:=4) rfl b9 rfl) ?_))
  refine zM rfl (aB.any rfl rfl rfl rfl (OpR.call rfl rfl rfl rfl (mN hT hB cA hw pG (dK _ _ _) fK (by omega) s)) ?_)
  rintro v0 h ⟨ep,bL,rfl,c1,c2,c3,c4,s⟩
  have VY:∀m:Int,pgG (cD (nl:Int) bL now) ep m=if (nl:Int)=m then bL else pgG now ε m:=fun m=>by rw[eH,gA c2]
  have ad5:=ga (i:=(nl:Int)) (b:=bL) (now:=now)
  generalize cD (nl:Int) bL now=oc at s VY c3 ad5
  refine zA rfl ?_
  refine aB.nil ⟨⟨aa,aa,aa,aa,aa,aa,aa,aa,aa,aa,aa,aa,aa,aa,aa⟩,?_⟩
  refine zg rfl (zm rfl (au.qb rfl rfl rfl (ak rfl rfl aH) (rfl) ?_))
  have s:=s.ae [0,6,6,2,3,3]
  dsimp only[Nat.reduceAdd,bringA,getA,aL] at s
  refine zv (zj rfl (WP.skip (zw (zw (WP.drawn [af,af,af,af,af,af,af,af,af,af,af,af,af,af] rfl (by kernel_rfl) (by kernel_rfl) ?_)))))
  refine zM rfl (zF rfl (rE _ _) (zL rfl (by exact s.ld (k:=3) rfl e_ rfl) ?_))
  refine zN rfl (zF rfl (iZ _ _) (zL rfl (by exact s.ld (k:=4) rfl b9 rfl) ?_))
  refine zF rfl (rE _ _) (zL rfl (by exact s.ld (k:=3) rfl e_ rfl) ?_)
  refine zN rfl (zF rfl (fG _ _) (zL rfl (by exact s.ld (k:=4) rfl b9 rfl) ?_))
  refine zM rfl (aB.any rfl rfl rfl rfl (OpR.call rfl rfl rfl rfl (mN hT hB c1 c3 oh (ji _ _ _).s nc (by omega) s)) ?_)
  rintro v0 h ⟨iQ,bR,rfl,d1,d2,d3,d4,s⟩
  have Qm:∀m:Int,pgG (cD (nr:Int) bR oc) iQ m=if (nr:Int)=m then bR else pgG oc ep m:=fun m=>by rw[eH,gA d2]
  have ad6:=ga (i:=(nr:Int)) (b:=bR) (now:=oc)
  generalize cD (nr:Int) bR oc=mh at s Qm d3 ad6
  refine zA rfl ?_
  refine aB.nil ⟨⟨aa,aa,aa,aa,aa,aa,aa,aa,aa,aa,aa,aa,aa,aa,aa⟩,?_⟩
  refine zg rfl (zm rfl (au.qb rfl rfl rfl (ak rfl rfl aH) (rfl) ?_))
  have s:=s.ae [9,9,3,4]
  dsimp only[bringA,getA,aL] at s
  have GG:=j3 (s.kZ (j:=0) rfl (ji _ _ _).s)
  have z0:=s
  refine zv (zj rfl (WP.skip (zw (WP.drawn [some (0,2),some (0,2),some (0,3),some (0,3),some (0,2),af,af,af,af,af,af,af,af,af,af,af,af,af] rfl (by kernel_rfl) (by kernel_rfl) ?_))))
  refine zF rfl (lQ _ _) (zL rfl (by exact s.ld (k:=2) rfl e_ rfl) ?_)
  refine zF rfl (lQ _ _) (zL rfl (by exact s.ld (k:=2) rfl e_ rfl) ?_)
  refine zM rfl (zF rfl (lQ _ _) (zL rfl (by exact s.ld (k:=2) rfl e_ rfl) ?_))
  refine zN rfl (zF rfl (fG _ _) (zL rfl (by exact s.ld (k:=3) rfl b9 rfl) ?_))
  refine zM rfl (aB.any rfl rfl rfl rfl (OpR.call rfl rfl rfl rfl (LC hT (ji _ _ _).s (by omega) hl s)) ?_)
  rintro bv h ⟨bU,hbU,s⟩
  have s:=s.eW
  have xy:=(s.aC (k:=0) rfl (bj _ _)).cells
  have z1:=s
  refine zN rfl (zF rfl (cN _ _) (aB.mg rfl rfl rfl (OpR.yH rfl rfl rfl (s.jS (k:=4) rfl Ur rfl (by decide) GG.1 GG.2.1)) ?_))
  rintro _ h ⟨_,s⟩
  dsimp only[Nat.reduceAdd,List.set,setA] at s
  have z2:=s
  refine zN rfl (zF rfl (nN _ _) (aB.mg rfl rfl rfl (OpR.yH rfl rfl rfl (s.jS (k:=4) rfl dH rfl (by decide) xy.1 xy.2)) ?_))
  rintro _ h ⟨_,s⟩
  dsimp only[Nat.reduceAdd,List.set,setA] at s
  refine aB.nil ⟨⟨fun _ _=>.inr ⟨rfl,⟨_,mU rfl (lQ _ _)⟩,bg _ rfl⟩,fV (.inr ⟨rfl,⟨_,o_load rfl (by exact z0.ld (k:=2) rfl e_ rfl)⟩,bg _ rfl⟩) (.inr ⟨rfl,⟨_,o_load rfl (by exact z1.ld (k:=3) rfl e_ rfl)⟩,bg _ rfl⟩),fun _ _=>.inr ⟨rfl,⟨_,mU rfl (lQ _ _)⟩,bg _ rfl⟩,BK (.inr ⟨rfl,⟨_,o_load rfl (by exact z0.ld (k:=2) rfl e_ rfl)⟩,bg _ rfl⟩) (.inr ⟨rfl,⟨_,o_load rfl (by exact z1.ld (k:=3) rfl e_ rfl)⟩,bg _ rfl⟩) (.inr ⟨rfl,⟨_,o_load rfl (by exact z2.ld (k:=3) rfl e_ rfl)⟩,bg _ rfl⟩),fun _ _=>.inr ⟨rfl,⟨_,bV rfl⟩,GG.2.2⟩,aa,aa,aa,aa,aa,aa,aa,aa,aa,aa,aa,aa,aa,aa⟩,?_⟩
  have s:=s.ae [5,0]
  dsimp only[bringA,getA,aL] at s
  refine zw (WP.drawn [af,af,af,af,af,af,af,af,af,af,af,af,af] rfl (by kernel_rfl) (by kernel_rfl) ?_)
  refine zM rfl (zF rfl (lQ _ _) (zL rfl (by exact s.ld (k:=4) rfl e_ rfl) ?_))
  refine zN rfl (zF rfl (iZ _ _) (zL rfl (by exact s.ld (k:=5) rfl b9 rfl) ?_))
  refine zF rfl (lQ _ _) (zL rfl (by exact s.ld (k:=4) rfl e_ rfl) ?_)
  refine zN rfl (zF rfl (nN _ _) (zL rfl (by exact s.ld (k:=5) rfl bF rfl) ?_))
  refine aB.any rfl rfl rfl rfl (OpR.call rfl rfl rfl rfl (wF hT hB d1 d3 hnu s (bj _ _) hbU.good)) ?_
  rintro v0 h ⟨kC,rfl,f1,f2,f3,s⟩
  have nW:∀m:Int,pgG (cD (nu:Int) bU mh) kC m=if (nu:Int)=m then bU else pgG mh iQ m:=fun m=>by rw[eH,gA f2]
  have ad1:=ga (i:=(nu:Int)) (b:=bU) (now:=mh)
  refine zA rfl ?_
  refine aB.nil ⟨⟨aa,aa,aa,aa,aa,aa,aa,aa,aa,aa,aa,aa,aa,aa⟩,?_⟩
  refine WP.ret ⟨aa,_,rfl,?_⟩
  refine⟨kC,_,rfl,f1,c2.trans (d2.trans f2),f3,by omega,s.skip 14,.inr ⟨k,ck,bL,bR,bU,A_,nV,c4.f,d4.f,hbU.f,?_,?_,?_,fun m m1 m2 m3 => ?_⟩⟩
  ·rw[nW,ai (by omega),Qm,ai (by omega),VY,ay rfl]
  ·rw[nW,ai (by omega),Qm,ay rfl]
  ·rw[nW,ay rfl]
  ·rw[nW,ai (fun e=>m3 e.symm),Qm,ai (fun e=>m2 e.symm),VY,ai (fun e=>m1 e.symm)]
end
section
variable {f z:Nat}
theorem cS.more (h:cS Z l cs): cS (z::Z) l cs:=by
 unfold cS at h ⊢
 split
 ·rwa [ay (by assumption)] at h
 ·rw[ai (by assumption)] at h
  rcases h with h|⟨p,I,k,h2⟩
  ·exact .inl h
  ·exact .inr ⟨p,bA _ I,k,h2⟩
theorem qU (h:(ks.flatMap ej).Nodup){k k':gG}(hk:ks[i]?=some k)(I:ks[j]?=some k')(qm:i≠j): ∀m∈ej k',m∉ej k:=by
 intro m hm sN
 rw[sG hk,dA,nA] at h
 obtain⟨_,h2,h3⟩:=h
 rw[nA] at h2
 obtain⟨_,_,h4⟩:=h2
 have hj:=(List.getElem?_eq_some_iff.1 I).1
 rcases CS qm with q|q
 ·refine h4 m sN m (List.mem_flatMap.2 ⟨k',?_,hm⟩) rfl
  rw[CM]
  exact⟨j-(i+1),by rw[fb,show i+1+(j-(i+1))=j by omega];exact I⟩
 ·refine h3 m (List.mem_flatMap.2 ⟨k',?_,hm⟩) m (gI _ sN) rfl
  rw[CM]
  exact⟨j,by rw[ig,ay q];exact I⟩
theorem L0 (h:(ks.flatMap ej).Nodup){k:gG}(I:ks[i]?=some k): k.pg∉k.ps:=by
 rw[sG I,dA,nA,nA] at h
 exact(List.nodup_cons.1 h.2.1.1).1
theorem kM {k:gG}(I:ks[i]?=some k){m:Nat}(hm:m∈ej k): m∈ks.flatMap ej:=List.mem_flatMap.2 ⟨k,aM I,hm⟩
theorem VZ (I:eF≠[])(h2:dY≠[]){cut:Ky}: cS Z l (gS l cut eF dY):=by
 have a1:=List.length_pos_iff.2 I
 unfold cS gS
 split
 ·intro e
  have:=dn List.length e
  rw[aX,cj] at this
  omega
 ·left
  cases dY with
  |nil=>exact absurd rfl h2
  |cons c t=>simp only[aX,bq];omega
theorem abl (hs:Sep lo hi ks)(hl:ks[i]?=some kl)(hr:ks[i+1]?=some kr)(EW:∀j k,ks[j]?=some k→j≠i→j≠i+1→Kd (cS Z) P l (loK lo ks j) (cZ hi ks j) k)
 (nl:Nv (cS Z) P l (loK lo ks i) (cZ hi ks i) eF kl.es kl.ps)(nr:Nv (cS Z) P l (loK lo ks (i+1)) (cZ hi ks (i+1)) dY kr.es kr.ps)(gy:eF≠[])(By:dY≠[])(iS:(f::ks.flatMap ej).Nodup)
 (hP:∀m:Nat,m≠f→m≠kl.pg→m∈ks.flatMap ej→P' m=P m)(hp:bH (P' kl.pg) 204 0 l (gS l kr.key eF dY)):
  ∃m_,Nv (cS Z) P' (l+1) lo hi ((bP ks).eraseIdx (i+1)) (ks.flatMap (·.es)) m_∧(kr.pg::m_).Perm (ks.flatMap ej):=by
 obtain⟨hf,iS⟩:=List.nodup_cons.1 iS
 have eZ:∀m,m∈ks.flatMap ej→m≠f:=fun m hm e=>hf (e ▸ hm)
 have uF:∀m∈kl.ps,P' (m:Nat)=P m:=fun m hm=>by
  have I:=kM hl (bA _ hm)
  exact hP m (eZ m I) (fun e=>L0 iS hl (e ▸ hm)) I
 have ur:∀j k,ks[j]?=some k→j≠i→∀m∈ej k,P' (m:Nat)=P m:=fun j k hk hj m hm=>by
  have I:=kM hk hm
  exact hP m (eZ m I) (fun e=>qU iS hl hk (jH hj) m hm (by rw[e];exact bB)) I
 exact Nv.mrg hs hl hr (fun j k hk h1 h2=>(EW j k hk h1 h2).frame (ur j k hk h1)) (nl.frame uF) (nr.frame fun m hm=>ur _ _ hr (by omega) m (bA _ hm)) (VZ gy By) hp
theorem abm {k:gG}(hs:Sep lo hi ks)(hk:ks[i]?=some k)(he:k.es=[])(uF:k.ps=[])(EW:∀j k,ks[j]?=some k→j≠i→Kd (cS Z) P l (loK lo ks j) (cZ hi ks j) k)(iS:(f::ks.flatMap ej).Nodup)(hP:∀m:Nat,m≠f→m∈ks.flatMap ej→P' m=P m):
  ∃I,(Nv (cS Z) P' (l+1) lo hi ((bP ks).eraseIdx i) (ks.flatMap (·.es)) I∨1≤l+1∧(bP ks).eraseIdx i=[]∧ks.flatMap (·.es)=[]∧I=[])∧(k.pg::I).Perm (ks.flatMap ej):=by
 obtain⟨hf,iS⟩:=List.nodup_cons.1 iS
 have dy:=(List.getElem?_eq_some_iff.1 hk).1
 by_cases h2:2≤ks.length
 ·obtain⟨I,h3,h4⟩:=Nv.ers (P:=P') hs h2 hk he uF fun j k hk hj=>(EW j k hk hj).frame fun m hm=>hP m (fun e=>hf (e ▸ kM hk hm)) (kM hk hm)
  exact⟨I,.inl h3,h4⟩
 ·obtain⟨x,rfl⟩:=List.length_eq_one_iff.1 (show ks.length=1 by omega)
  have h0:i=0:=by simpa using dy
  subst h0
  obtain rfl:x=k:=by simpa using hk
  exact⟨[],.inr ⟨by omega,rfl,by simp[he],rfl⟩,by simp[ej,uF]⟩
theorem abn {k:Nat}{ck:List Nat}{jA fP:List En}(hs:Sep lo hi ks)(hl:ks[i]?=some kl)(hr:ks[i+1]?=some kr)(EW:∀j k,ks[j]?=some k→j≠i→j≠i+1→Kd (cS Z) P l (loK lo ks j) (cZ hi ks j) k)
 (nl:Nv (cS Z) P l (loK lo ks i) (cZ hi ks i) eF kl.es kl.ps)(nr:Nv (cS Z) P l (loK lo ks (i+1)) (cZ hi ks (i+1)) dY kr.es kr.ps)(I:(f::ks.flatMap ej).Nodup)(uf:1≤l)
 (A_:(gS l kr.key eF dY)[k]?=some ck)(nV:lZ (gS l kr.key eF dY) 2 k)
 (hP:∀m:Nat,m≠f→m≠kl.pg→m≠kr.pg→m∈ks.flatMap ej→P' m=P m)(pl:bH (P' kl.pg) 204 0 l ((gS l kr.key eF dY).take k))(pr:bH (P' kr.pg) 204 0 l (rgtC l ((gS l kr.key eF dY).drop k))):
  ∃m_,Nv (cS Z) P' (l+1) lo hi ((bP ks).set (i+1) (eX kr.pg (gp l ck))) (ks.flatMap (·.es)) m_∧m_.Perm (ks.flatMap ej):=by
 obtain⟨hf,I⟩:=List.nodup_cons.1 I
 have eZ:∀m,m∈ks.flatMap ej→m≠f:=fun m hm e=>hf (e ▸ hm)
 obtain⟨m1,m2,m3,m4,m5,m6⟩:=hs.mz hr
 have uF:∀m∈kl.ps++kr.ps,P' (m:Nat)=P m:=fun m hm=>by
  rcases List.mem_append.1 hm with hm|hm
  ·have sN:=kM hl (bA _ hm)
   exact hP m (eZ m sN) (fun e=>L0 I hl (e ▸ hm)) (fun e=>qU I hr hl (by omega) m (bA _ hm) (by rw[e];exact bB)) sN
  ·have sN:=kM hr (bA _ hm)
   exact hP m (eZ m sN) (fun e=>qU I hl hr (by omega) m (bA _ hm) (by rw[e];exact bB)) (fun e=>L0 I hr (e ▸ hm)) sN
 have ur:∀j k,ks[j]?=some k→j≠i→j≠i+1→∀m∈ej k,P' (m:Nat)=P m:=fun j k hk hj hj2 m hm=>by
  have sN:=kM hk hm
  exact hP m (eZ m sN) (fun e=>qU I hl hk (jH hj) m hm (by rw[e];exact bB)) (fun e=>qU I hr hk (jH hj2) m hm (by rw[e];exact bB)) sN
 rw[m5] at nl
 rw[m6] at nr
 have hj:=(nl.join nr m1 m2 ⟨m3,m4⟩).frame uF
 have Ql:lZ (gS l kr.key eF dY) (min 2 (l+1)) k:=by rw[show min 2 (l+1)=2 by omega];exact nV
 obtain⟨_,_,g1,g2,_,_,k1,_⟩:=Ql.parts
 obtain⟨jA,fP,nR,nT,e1,e2,q1,q2,q3,q4,q5,q6⟩:=hj.cut k1 A_
 exact Nv.shr hs hl hr (fun j k hk h1 h2=>(EW j k hk h1 h2).frame (ur j k hk h1 h2)) q1 (g1 Z) pl q2 (g2 Z) pr q3 q4 ⟨q5,q6⟩ e1.symm e2.symm
theorem Zl (mH:gH (cS Z) P L r fs l lo hi n eL eR pO)(jD:Nv (cS Z) P l lo hi cs es ps)(eZ:cs≠[])(hp:bH (P n) 204 0 l cs):
  ∃z I cs',Nv (cS (z::Z)) P L [] none cs' (eL++es++eR) I∧bH (P r) 204 0 L cs'∧(r::I).Perm (pO++n::ps)∧(fs=[]→cs'=cs):=by
 obtain⟨z,hz⟩:∃z,cS (z::Z) l cs:=by
  cases l with
  |zero=>exact⟨0,by rw[cS,ay rfl];exact eZ⟩
  |succ l =>
   obtain⟨ks,rfl,hS,_⟩:=jD
   match ks,hS with
   |[],hS=>exact absurd rfl hS.ne
   |[k],hS=>exact⟨k.pg,by rw[cS,ai (by omega)];exact .inr ⟨k.pg,bB,k.key,hS.pg k (by simp),rfl⟩⟩
   |k1::k2::t,_=>exact⟨0,by rw[cS,ai (by omega),eC];exact .inl (by simp)⟩
 obtain⟨I,cs',h1,h2,h3,h4⟩:=gH.PZ (mH.mono fun _ _ h=>h.more (z:=z)) (jD.mono fun _ _ h=>h.more (z:=z)) hp fun _=>hz
 exact⟨z,I,cs',h1,h2,h3,h4⟩
end
def V0 (L root:Nat)(P:Int→List Nat)(A:Nat)(cs:List (List Nat)): Fx→Prop
 |[]=>lam L cs≤A∧(1≤L→374*L+112≤A)
 |_::_=>∀c,bH (P root) 204 0 L c→lam L c+104≤A
def uu (N B g a p q r aN root:Nat)(data R ot Z:List Nat)(A L:Nat)(ε:bE)(now:List (Int×List Nat))(es:List En)(nl:Nat)(S:List aE)(v:V)(h':H): Prop:=∃ag aF z,v=.int .i64 0∧EI N B ag∧Sm N ε ag∧NW N aF∧aF.length≤nl∧Sat h' (GA g a p q r data aN aF ag::S)∧qC N root R ot (z::Z) A L (pgG now ε) (pgG aF ag) es
def DL (told:cE)(N B g a p q r aN root:Nat)(data R ot Z:List Nat)(A L m:Nat): Prop:=∀(fx:Fx) (l x n i:Nat) (lo:Ky) (hi:Option Ky) (eL eR:List En) (pO:List Nat) (cs:List (List Nat)) (es:List En) (ps:List Nat) (w:V) (ε:bE) (now:List (Int×List Nat)) (M:List Nat) (h:H) (S:List aE),
 fx.length<m→EI N B ε→NW N now→fY N R M (pgG now ε)→jC N M ((pO++n::ps)++ot)→gH (cS Z) (pgG now ε) L root (fx.map (·.2)) l lo hi n eL eR pO→(Nv (cS Z) (pgG now ε) l lo hi cs es ps∨1≤l∧cs=[]∧es=[]∧ps=[])→bH (pgG now ε n) 204 0 l cs→fx.length+l=L→L≤60→V0 L root (pgG now ε) A cs fx →
 Sat h (GA g a p q r data aN now ε::wyA w (dX fx++[(x,i)])::a_ x n l (pgG now ε n) cs::nodsA (pgG now ε) (l+1) fx::S) →
 Call ⟨Tryz.prog,told⟩ 72 [.ptr g 0,w] h (uu N B g a p q r aN root data R ot Z A L ε now (eL++es++eR) (now.length+4*fx.length+2*L+4) S)
structure Ba (N:Nat)(R ot Z:List Nat)(root L A:Nat)(P:Int→List Nat)(M:List Nat)(t:Fx)(f l:Nat)(lo:Ky)(hi:Option Ky)(eL eR:List En)(pO:List Nat)(ks:List gG): Prop where
 sp:fY N R M P
 tr:jC N M ((pO++f::ks.flatMap ej)++ot)
 pt:gH (cS Z) P L root (t.map (·.2)) (l+1) lo hi f eL eR pO
 sep:Sep lo hi ks
 pf:bH (P f) 204 0 (l+1) (bP ks)
 fat:t.map (·.2)≠[]→cS Z (l+1) (bP ks)
 len:t.length+(l+1)=L
 XO:L≤60
 lam:∀c,bH (P root) 204 0 L c→Am.lam L c+104≤A
structure Ee (Z:List Nat)(P:Int→List Nat)(l:Nat)(lo:Ky)(hi:Option Ky)(ks:List gG)(i:Nat)(kl kr:gG)(eF dY:List (List Nat)): Prop where
 hl:ks[i]?=some kl
 hr:ks[i+1]?=some kr
 oth:∀j k,ks[j]?=some k→j≠i→j≠i+1→Kd (cS Z) P l (loK lo ks j) (cZ hi ks j) k
 nl:Nv (cS Z) P l (loK lo ks i) (cZ hi ks i) eF kl.es kl.ps
 nr:Nv (cS Z) P l (loK lo ks (i+1)) (cZ hi ks (i+1)) dY kr.es kr.ps
 cl:eF≠[]
 cr:dY≠[]
 pl:bH (P kl.pg) 204 0 l eF
 pr:bH (P kr.pg) 204 0 l dY
section
variable {t:Fx} {f:Nat} {XP:List (List Nat)}
theorem Ba.nd (h:Ba N R ot Z root L A P M t f l lo hi eL eR pO ks): (f::ks.flatMap ej).Nodup∧(∀m∈pO,m≠f∧m∉ks.flatMap ej∧2≤m)∧(∀m∈ot,m≠f∧m∉ks.flatMap ej∧2≤m)∧∀m∈f::ks.flatMap ej,2≤m∧m<N:=by
 have I:=h.tr.nd
 rw[dA,nA] at I
 obtain⟨h2,h3,h4⟩:=I
 rw[nA] at h3
 obtain⟨h5,h6,h7⟩:=h3
 refine⟨h5,fun m hm=>⟨fun e=>h4 m hm f (by simp) e,fun q=>h4 m hm m (gI _ (bA _ q)) rfl,(h.tr.mc m (by simp[hm])).1⟩,fun m hm=>⟨fun e=>h7 f (by simp) m hm e.symm,fun q=>h7 m (bA _ q) m hm rfl,(h.tr.mc m (by simp[hm])).1⟩,fun m hm=>h.tr.mc m ?_⟩
 exact gI _ (lF _ hm)
theorem V1 (h:Sep lo hi ks): 8≤cB (bP ks):=by
 match ks,h.ne with
 |k::t,_ =>
  have I:=cJ 4 k.pg
  simp only[cB,tot,bP,ik,yp,bq,eX,aX]
  omega
theorem Ba.up (h:Ba N R ot Z root L A P M t f l lo hi eL eR pO ks)(I:∀m:Nat,m∈pO→P' m=P m)(hz:cB XP≤cB (bP ks)): gH (cS Z) P' L root (t.map (·.2)) (l+1) lo hi f eL eR pO∧V0 L root P' A XP t:=by
 refine⟨h.pt.frame I,?_⟩
 have h8:=V1 h.sep
 rcases h.pt.rt with⟨q,rfl,rfl⟩|⟨q,hr⟩
 ·cases t with
  |cons e t=>cases q
  |nil =>
   have h1:=h.lam _ h.pf
   unfold Am.lam at h1
   rw[ai (by omega)] at h1
   refine⟨?_,fun _=>by omega⟩
   unfold Am.lam
   rw[ai (by omega)]
   omega
 ·cases t with
  |nil=>exact absurd rfl q
  |cons e t=>intro c hc;rw[I root hr] at hc;exact h.lam c hc
theorem Tn {cut:Ky}{a b:List (List Nat)}: (gS l cut a b).length=a.length+b.length:=by
 unfold gS
 split
 ·exact aX
 ·cases b<;>simp
theorem To : ∀c∈bP ks,1≤c.length:=fun c I=>by
 obtain⟨k,_,rfl⟩:=List.mem_map.1 I
 rw[eX,aX,cJ];omega
theorem qC.base {I:Int→List Nat}(h:qC N root R ot Z A Lx P0 P' es)(h1:∀m:Nat,m∈ot→P0 m=I m): qC N root R ot Z A Lx I P' es:=by
 obtain⟨M,L,cs,ps,q1,q2,q3,q4,q5,q6⟩:=h
 exact⟨M,L,cs,ps,q1,q2,q3,q4,q5,fun m hm=>(q6 m hm).trans (h1 m hm)⟩
theorem qC.more {z:Nat}(h:qC N root R ot Z A Lx P0 P' es): qC N root R ot (z::Z) A Lx P0 P' es:=by
 obtain⟨M,L,cs,ps,q1,I,q3,q4⟩:=h
 exact⟨M,L,cs,ps,q1,I,q3.mono fun _ _ h=>h.more,q4⟩
theorem Tp : cB (cs.eraseIdx i)≤cB cs:=by
 have I:=IY (cs:=cs) (i:=i)
 have h2:=List.length_eraseIdx_le (l:=cs) (i:=i)
 rw[cB,cB];omega
end
section
variable {told:cE} {p m f D7:Nat} {y6 y67 y68:V} {xG:List V} {t:Fx}
noncomputable def mdJ : Code:=eu [1,1,1,1,1,1,0,1,0,0,1,1,0,0,1,1,1] ((Tryz.f72.body).getD .skip)
theorem Tq (hT:W told)(hB:B≤2000)(hN:N≤65536)(cA:EI N B ε)(hw:NW N now)(hx:Ba N R ot Z root L A (pgG now ε) M t f l lo hi eL eR pO ks)(hp:Ee Z (pgG now ε) l lo hi ks i kl kr eF dY)(ih:DL told N B g a p q r aN root data R ot Z A L m)(wH:t.length<m)(A5:xG.length=4)
 (s:Sat h (GA g a p q r data aN now ε::a_ xu f (l+1) (pgG now ε f) (bP ks)::a_ xl kl.pg l (pgG now ε kl.pg) eF::a_ xr kr.pg l (pgG now ε kr.pg) dY::pt D7 (.cells 4 [.ptr xu 0,.int .i64 (i:Int),.ptr xl 0,.ptr xr 0] false)::pt p9 (.cells 4 xG false)::wyA w ((dX t++[(xu,ui)])++[(x,xi)])::nodsA (pgG now ε) (l+2) t::S))
 (hE:Has E [(0,.ptr g 0),(1,w),(5,.ptr x 0),(6,y6),(9,.ptr p9 0),(12,.ptr D7 0),(67,y67),(68,y68)])
 (mZ:∀E' h' v,Has E' [(4,v)]→uu N B g a p q r aN root data R ot Z A L ε now (eL++ks.flatMap (·.es)++eR) (now.length+4*t.length+2*L+8) S v h'→Q .ret E' h')
 (hq:∀E' h',486<cB (gS l kr.key eF dY)→Has E' [(0,.ptr g 0),(1,w),(5,.ptr x 0),(6,y6),(9,.ptr p9 0),(67,y67),(68,y68)] →
   Sat h' (GA g a p q r data aN now ε::a_ xu f (l+1) (pgG now ε f) (bP ks)::a_ xl kl.pg l (pgG now ε kl.pg) eF::a_ xr kr.pg l (pgG now ε kr.pg) dY::pt p9 (.cells 4 [.ptr xu 0,.int .i64 (i:Int),.ptr xl 0,.ptr xr 0] false)::wyA w ((dX t++[(xu,ui)])++[(x,xi)])::nodsA (pgG now ε) (l+2) t::S)→Q .normal E' h'): WP ⟨Tryz.prog,told⟩ 131 mdJ E h Q:=by
 have hlen:=hx.len
 have Qn:=hx.XO
 obtain⟨n1,n2,n3,n4⟩:=hx.nd
 obtain⟨m1,m2,m3,m4,m5,m6⟩:=hx.sep.mz hp.hr
 have xj:=hx.pf.fits
 have ko:=hp.pl.fits
 have AL:=hp.pr.fits
 have Ed:=hx.sep.pg kr (aM hp.hr)
 have vR:1≤l→∃m ky,dY[0]?=some (eX m ky)∧m<4294967296:=fun h1=>by
  have oh:=hp.nr
  cases l with
  |zero=>omega
  |succ l =>
   obtain⟨k2,e1,e2,_⟩:=oh
   match k2,e2,e1 with
   |[],e2,_=>exact absurd rfl e2.ne
   |k::_,e2,e1=>exact⟨k.pg,k.key,by rw[e1];rfl,e2.pg k (by simp)⟩
 have pG:=hp.nl
 have oh:=hp.nr
 have gy:=hp.nl.cells
 have By:=hp.nr.cells
 have hj:=(by rw[m5] at pG;exact pG:Nv (cS Z) (pgG now ε) l (loK lo ks i) (some kr.key) eF kl.es kl.ps).join (by rw[m6] at oh;exact oh:Nv (cS Z) (pgG now ε) l kr.key (cZ hi ks (i+1)) dY kr.es kr.ps) m1 m2 ⟨m3,m4⟩
 have Tr:=hj.cells
 have IL:(gS l kr.key eF dY).length=eF.length+dY.length:=Tn
 have rN:=kM hp.hl (m:=kl.pg) bB
 have ad7:=kM hp.hr (m:=kr.pg) bB
 have XL:kl.pg≠kr.pg:=fun e=>qU (List.nodup_cons.1 n1).2 hp.hl hp.hr (by omega) kr.pg bB (by rw[←e];exact bB)
 have hlf:kl.pg≠f:=fun e=>(List.nodup_cons.1 n1).1 (e ▸ rN)
 have Nx:(((dX t++[(xu,ui)])++[(x,xi)]):List (Nat×Nat)).length=t.length+2:=by simp[dX]
 have Qo:((dX t++[(xu,ui)])++[(x,xi)]).take (t.length+1)=dX t++[(xu,ui)]:=gq (by simp[dX])
 refine WP.has hE (zK 3 rfl (zl rfl (s.b7 (k:=4) rfl pU jm) ?_))
 have s:=s.ae [1,1,1]
 refine zc rfl (Jg hT (jB hp.hr) m4 (by omega) (by omega) (by omega) (by omega) vR s) ?_
 rintro v h ⟨us,s⟩
 refine zk 5 rfl (zc rfl (EJ hT (dK _ _ _) (fun c hc=>(Tr c hc).2.1) (by omega) s) ?_)
 rintro v0 h ⟨rfl,s⟩
 by_cases cU:cB (gS l kr.key eF dY)≤486
 ·skip
  refine zB rfl r9 (by simp;omega) ?_
  refine zk 5 rfl (zl rfl (s.b7 (k:=6) rfl pU jm) (zk 2 rfl ?_))
  have s:=s.ae [5,0]
  have kj:((pO++f::ks.flatMap ej)++ot).Perm (kr.pg::((pO++f::ks.flatMap ej)++ot).erase kr.pg):=List.perm_cons_erase (gI _ (lF _ (bA _ ad7)))
  refine zc rfl (VV hT hB cA hw hx.sp hx.tr kj (gI _ (lF _ (bA _ rN))) (gI _ (lF _ bB)) hlf cU (by omega) hx.pf (by rw[eC];exact(List.getElem?_eq_some_iff.1 hp.hr).1) (To) s) ?_
  rintro v0 h ⟨ep,I,M1,bJ,bU,rfl,a1,a2,a3,a4,a5,a6,a7,a8,a9,a10,a11,s⟩
  have CE:∀m:Nat,2≤m→m≠kl.pg→m≠f→pgG I ep m=pgG now ε m:=fun m q1 q2 q3=>a11 m (by omega) (by omega) (by omega)
  obtain⟨m_,u1,u2⟩:=abl (P':=pgG I ep) hx.sep hp.hl hp.hr hp.oth hp.nl hp.nr hp.cl hp.cr n1 (fun m q1 q2 q3=>CE m (n4 m (bA _ q3)).1 q2 q1) (by rw[a9];exact a7)
  have xF:∀m:Nat,m∈pO→pgG I ep m=pgG now ε m:=fun m hm=>CE m (n2 m hm).2.2 (fun e=>(n2 m hm).2.1 (e ▸ rN)) (n2 m hm).1
  have ur:∀m:Nat,m∈ot→pgG I ep m=pgG now ε m:=fun m hm=>CE m (n3 m hm).2.2 (fun e=>(n3 m hm).2.1 (e ▸ rN)) (n3 m hm).1
  obtain⟨w1,w2⟩:=hx.up (P':=pgG I ep) xF (XP:=(bP ks).eraseIdx (i+1)) Tp
  have tE:jC N M1 ((pO++f::m_)++ot):=a6.perm (by
   refine(kj.symm.trans ?_).cons_inv
   rw[lH] at u2 ⊢
   intro z
   have:=u2 z
   simp only[lJ,lK] at this ⊢
   omega)
  refine zk 5 rfl (zC rfl aH (rfl) (zk 8 rfl (zo rfl (aD (r:=.int .i64 ((t.length+2:Nat):Int)) rfl rfl rfl (by rw[←Nx];exact s.AA (j:=4) rfl eo)) ?_)))
  refine zo rfl (ak (r:=.int .i64 ((t.length+1:Nat):Int)) rfl rfl (by rw[show((t.length+1:Nat):Int)=((t.length+2:Nat):Int)-1 by omega];exact ew (aq (by omega) (by omega)))) ?_
  refine zo rfl (bO (p:=none) (q:=some (.int .i64 ((t.length+1:Nat):Int))) (m:=none) (p':=none) (q':=some (t.length+1)) (m':=none) rfl rfl rfl rfl rfl (by rw[bT (by omega)];rfl) rfl (s.AB (j:=4) rfl (b:=t.length+1) eo kQ (by omega))) ?_
  have s:=LJ (b:=t.length+1) (by omega) (by omega) (s.ae [4])
  rw[Qo,←tO (P':=pgG I ep) (fx:=t) fun e' qn=>xF e'.2.pg (hx.pt.XA e'.2 (oz qn))] at s
  rw[←a10] at s
  have s:=((s.ae [1,0,0,2]).del 5).del 4
  refine zc rfl (ih t (l+1) xu f ui lo hi eL eR pO _ _ m_ _ ep I M1 h S wH a1 a3 a5 tE w1 (.inl u1) (by rw[a10];exact a8) hlen Qn w2 s) ?_
  rintro v0 h ⟨iQ,mh,z,rfl,b1,b2,b3,b4,s,b5⟩
  exact zk 2 rfl (WP.ret (mZ _ _ _ ⟨rfl,aa⟩ ⟨iQ,mh,z,rfl,b1,a2.trans b2,b3,by omega,s,b5.base ur⟩))
 ·skip
  refine zC rfl r9 (by simp;omega) ?_
  refine zk 4 rfl (zl rfl (s.b7 (k:=6) rfl pU jm) ?_)
  refine zS rfl (s.gX (j:=7) rfl jm rfl rfl) (fun h s => ?_)
  exact zv (hq _ _ (by omega) ⟨rfl,rfl,rfl,rfl,rfl,rfl,rfl,aa⟩ (((s.ae [5,2,2,2,3,3,3]).del 9).del 8 |>.del 7))
end
section
variable {told:cE} {p y f:Nat} {t:Fx} {D:aE}
noncomputable def mdT : Code:=eu [1,1,1,1,1,1,1] ((Tryz.f72.body).getD .skip)
theorem abo (cA:EI N B ε)(hw:NW N now)(I:∃z,qC N root R ot (z::Z) A L (pgG now ε) (pgG now ε) es)(pG:now.length≤nl)
 (s:Sat h (GA g a p q r data aN now ε::a_ x n l b cs::pt p9 (.cells 4 [.b8,.int .i64 0,.b8,.b8] false)::S))(hE:Has E [(5,.ptr x 0),(9,.ptr p9 0)])
 (mZ:∀E' h' v,Has E' [(4,v)]→uu N B g a p q r aN root data R ot Z A L ε now es nl S v h'→Q .ret E' h'): WP ⟨Tryz.prog,told⟩ 131 mdT E h Q:=by
 obtain⟨z,I⟩:=I
 have s:=s.ae [1]
 obtain⟨bv,cv,us,s⟩:=bh.1 s
 have m8:=iJ (P:=Tryz.prog) aP s
 have s1:=((s.ae [4]).skip 5)
 refine WP.has hE (zK 5 rfl (zY s 0 fG b9 rfl ?_))
 by_cases h0:l=0
 ·skip
  refine zC rfl cV (by simp;omega) ?_
  exact zk 20 rfl (WP.ret (mZ _ _ _ ⟨rfl,aa⟩ ⟨ε,now,z,rfl,cA,Sm.refl N ε,hw,pG,s1,I⟩))
 ·skip
  refine zB rfl cV (by simp;omega) ?_
  refine zk 3 rfl (zY s 0 cN gz rfl (zo rfl (aD rfl rfl rfl m8) ?_))
  by_cases h2:cs.length<2
  ·skip
   refine zB rfl aO (by simp;omega) ?_
   exact zk 2 rfl (zY s 5 lQ e_ rfl (zC rfl (Xc zD) (rfl) (zk 8 rfl (WP.ret (mZ _ _ _ ⟨rfl,aa⟩ ⟨ε,now,z,rfl,cA,Sm.refl N ε,hw,pG,s1,I⟩)))))
  ·skip
   refine zC rfl aO (by simp;omega) ?_
   exact zk 13 rfl (WP.ret (mZ _ _ _ ⟨rfl,aa⟩ ⟨ε,now,z,rfl,cA,Sm.refl N ε,hw,pG,s1,I⟩))
theorem V2 {cut:Ky}(hc:cut.length≤96)(hr:1≤l→∀c∈dY,4≤c.length)(hl:1≤l): cB (gS l cut eF dY)≤cB eF+cB dY+96:=by
 have I:∀a b:List (List Nat),cB (a++b)=cB a+cB b:=fun a b=>by rw[cB,tC,aX,cB,cB];omega
 have h2:∀(c:List Nat) (b:List (List Nat)),cB (c::b)=c.length+4+cB b:=fun c b=>by
  have:=I [c] b
  rw[List.singleton_append] at this
  rw[this]
  simp[cB,tot]
 unfold gS
 rw[ai (by omega),I]
 cases dY with
 |nil=>simp
 |cons c t =>
  have:=hr hl c bB
  rw[h2,h2,aX,cH]
  omega
theorem V3 (hT:W told)(hB:B≤2000)(hN:N≤65536)(cA:EI N B ε)(hw:NW N now)(hx:Ba N R ot Z root L A (pgG now ε) M t f l lo hi eL eR pO ks)(hp:Ee Z (pgG now ε) l lo hi ks i kl kr eF dY)(eD:∃z,qC N root R ot (z::Z) A L (pgG now ε) (pgG now ε) (eL++ks.flatMap (·.es)++eR))(pG:now.length+3≤nl)(hJ:486<cB (gS l kr.key eF dY))(V4:cs.length<2→eF.length<2∨dY.length<2)
 (V5:∀ {h:H} {S:List aE},Sat h (a_ x n l b cs::D::S)→Sat h (a_ xl kl.pg l (pgG now ε kl.pg) eF::a_ xr kr.pg l (pgG now ε kr.pg) dY::S))
 (s:Sat h (GA g a p q r data aN now ε::a_ x n l b cs::D::a_ xu f (l+1) (pgG now ε f) (bP ks)::pt p9 (.cells 4 [.ptr xu 0,.int .i64 (i:Int),.ptr xl 0,.ptr xr 0] false)::S))(hE:Has E [(0,.ptr g 0),(5,.ptr x 0),(9,.ptr p9 0)])
 (mZ:∀E' h' v,Has E' [(4,v)]→uu N B g a p q r aN root data R ot Z A L ε now (eL++ks.flatMap (·.es)++eR) nl S v h'→Q .ret E' h'): WP ⟨Tryz.prog,told⟩ 131 mdT E h Q:=by
 obtain⟨z,eD⟩:=eD
 have sn:∀ {E':List (Nat×V)} {h:H},Has E' [(4,.int .i64 0)]→Sat h (GA g a p q r data aN now ε::S)→Q .ret E' h:=fun hE s=>mZ _ _ _ hE ⟨ε,now,z,rfl,cA,Sm.refl N ε,hw,by omega,s,eD⟩
 have sx:=s.ae [1,1]
 have s:=s.ae [1]
 obtain⟨bv,cv,us,s⟩:=bh.1 s
 have m8:=iJ (P:=Tryz.prog) aP s
 have s1:=((s.ae [4]).skip 7)
 refine WP.has hE (zK 5 rfl (zY s 0 fG b9 rfl ?_))
 by_cases h0:l=0
 ·skip
  refine zC rfl cV (by simp;omega) ?_
  exact zk 20 rfl (WP.ret (sn ⟨rfl,aa⟩ s1))
 ·skip
  refine zB rfl cV (by simp;omega) ?_
  refine zk 3 rfl (zY s 0 cN gz rfl (zo rfl (aD rfl rfl rfl m8) ?_))
  by_cases h2:cs.length<2
  ·skip
   refine zB rfl aO (by simp;omega) ?_
   have s:=s.ae [7,6]
   refine zk 2 rfl (zY s 0 lQ e_ rfl (zB rfl (acn zD) (rfl) ?_))
   have s:=(V5 sx).ae [3]
   have vR:∃m ky,dY[0]?=some (eX m ky)∧m<4294967296:=by
    have oh:=hp.nr
    cases l with
    |zero=>omega
    |succ l =>
     obtain⟨k2,e1,e2,_⟩:=oh
     match k2,e2,e1 with
     |[],e2,_=>exact absurd rfl e2.ne
     |k::_,e2,e1=>exact⟨k.pg,k.key,by rw[e1];rfl,e2.pg k (by simp)⟩
   obtain⟨n1,n2,n3,n4⟩:=hx.nd
   obtain⟨m1,m2,m3,m4,m5,m6⟩:=hx.sep.mz hp.hr
   have xj:=hx.pf.fits
   have ko:=EV hp.pl
   have AL:=EV hp.pr
   have hlen:=hx.len
   have Qn:=hx.XO
   have pG:=hp.nl
   have oh:=hp.nr
   have gy:=hp.nl.cells
   have By:=hp.nr.cells
   rw[m5] at pG
   rw[m6] at oh
   have Tr:=(pG.join oh m1 m2 ⟨m3,m4⟩).cells
   have fJ:=V2 (l:=l) (eF:=eF) (dY:=dY) m4 (fun _ c hc=>by have:=(By c hc).1;rw[jQ,ai h0] at this;exact this) (by omega)
   have yP:∀ {d:List (List Nat)},d.length<2→(∀c∈d,c.length≤100)→cB d≤104:=fun {d} h1 h2=>by
    match d,h1,h2 with
    |[],_,_=>simp[cB,tot]
    |[c],_,h2=>have:=h2 c (by simp);simp[cB,tot];omega
   have XN:cB (gS l kr.key eF dY)≤695:=by
    rcases V4 h2 with q|q
    ·have:=yP q fun c hc=>(gy c hc).2.2 (by omega);omega
    ·have:=yP q fun c hc=>(By c hc).2.2 (by omega);omega
   rw[j5] at ko AL
   have dy:=(List.getElem?_eq_some_iff.1 hp.hr).1
   have rN:=kM hp.hl (m:=kl.pg) bB
   have Ed:=kM hp.hr (m:=kr.pg) bB
   have XL:kl.pg≠kr.pg:=fun e=>qU (List.nodup_cons.1 n1).2 hp.hl hp.hr (by omega) kr.pg bB (by rw[←e];exact bB)
   have hlf:kl.pg≠f:=fun e=>(List.nodup_cons.1 n1).1 (e ▸ rN)
   have hrf:kr.pg≠f:=fun e=>(List.nodup_cons.1 n1).1 (e ▸ Ed)
   have sS:∀c∈bP ks,c.length≤100:=fun c hc=>by
    obtain⟨k,hk,rfl⟩:=List.mem_map.1 hc
    have:=hx.sep.len k hk
    rw[eX,aX,cJ];omega
   have z0:=s
   refine zk 4 rfl (WP.drawn [some (0,2),some (0,2),af,af,af,af] rfl (by kernel_rfl) (by kernel_rfl) ?_)
   refine zL rfl (s.b7 (k:=4) rfl pU jm) (zM rfl (zL rfl (s.b7 (k:=4) rfl pU jm) (aB.any rfl rfl rfl rfl (OpR.call rfl rfl rfl rfl (Jg hT (jB hp.hr) m4 (by omega) (by omega) (by omega) (by omega) (fun _=>vR) s)) ?_)))
   rintro v h ⟨us,s⟩
   have z1:=s
   have s:=s.ae [5]
   refine aB.any rfl rfl rfl rfl (OpR.call rfl rfl rfl rfl (VX hT hB cA hw (by omega) (by omega) hJ XN (fun c hc=>⟨(Tr c hc).1,(Tr c hc).2.2 (by omega)⟩) sS (by omega) (by rw[eC];exact dy) (n4 _ (bA _ rN)).2 (n4 _ (bA _ Ed)).2 (n4 _ bB).2 hN XL hlf hrf s)) ?_
   rintro v0 h ⟨ep,I,rfl,a1,a2,a3,a4,s,a5⟩
   refine zA rfl ?_
   refine aB.nil ⟨⟨fV (.inr ⟨rfl,⟨_,o_load rfl (z0.b7 (k:=4) rfl pU jm)⟩,bg _ rfl⟩) (.inr ⟨rfl,⟨_,o_load rfl (z1.b7 (k:=6) rfl pU jm)⟩,bg _ rfl⟩),fun _ _=>.inr ⟨rfl,⟨_,bV rfl⟩,bg _ rfl⟩,aa,aa,aa,aa,aa⟩,?_⟩
   refine WP.ret (mZ _ _ _ ⟨rfl,aa⟩ ?_)
   rcases a5 with a5|⟨k,ck,bl',br',bu',g1,g2,g3,g4,g5,g6,g7,g8,g9⟩
   ·exact⟨ep,I,z,rfl,a1,a2,a3,by omega,s.skip 1,by rw[a5];exact eD⟩
   ·have CE:∀m:Nat,m≠f→m≠kl.pg→m≠kr.pg→pgG I ep m=pgG now ε m:=fun m q1 q2 q3=>g9 m (by omega) (by omega) (by omega)
    obtain⟨m_,u1,u2⟩:=abn (P':=pgG I ep) (jA:=[]) (fP:=[]) hx.sep hp.hl hp.hr hp.oth hp.nl hp.nr n1 (by omega) g1 g2 (fun m q1 q2 q3 _=>CE m q1 q2 q3) (by rw[g6];exact g3) (by rw[g7];exact g4)
    have xF:∀m:Nat,m∈pO→pgG I ep m=pgG now ε m:=fun m hm=>CE m (n2 m hm).1 (fun e=>(n2 m hm).2.1 (e ▸ rN)) (fun e=>(n2 m hm).2.1 (e ▸ Ed))
    have ur:∀m:Nat,m∈ot→pgG I ep m=pgG now ε m:=fun m hm=>CE m (n3 m hm).1 (fun e=>(n3 m hm).2.1 (e ▸ rN)) (fun e=>(n3 m hm).2.1 (e ▸ Ed))
    have hlg:=(List.getElem?_eq_some_iff.1 (jB hp.hr)).1
    obtain⟨Gx,cs',w1,w2,w3,w4⟩:=gH.PZ (hx.pt.frame (P':=pgG I ep) xF) u1 (by rw[g8];exact g5) (fun _=>by
     rw[cS,ai (by omega),cI,eC]
     exact .inl (by omega))
    have h2:=n4 _ (bA _ rN)
    have h3:=n4 _ (bA _ Ed)
    have h4:=n4 _ bB
    refine⟨ep,I,0,rfl,a1,a2,a3,by omega,s.skip 1,M,L,cs',Gx,hx.sp.frame (g9 0 (by omega) (by omega) (by omega)) (g9 1 (by omega) (by omega) (by omega)),hx.tr.perm ?_,w1.mono fun _ _ h=>h.more,w2,⟨aI _,?_⟩,ur⟩
    ·refine List.Perm.append_right ot ((List.Perm.trans ?_ w3.symm))
     rw[lH] at u2 ⊢
     intro z
     have:=u2 z
     simp only[lJ,lK] at this ⊢
     omega
    ·rcases hx.pt.rt with⟨q,rfl,rfl⟩|⟨q,hr⟩
     ·rw[w4 q]
      have e1:=hx.lam _ hx.pf
      have e2:=pZ (c':=eX kr.pg (gp l ck)) (jB hp.hr)
      have e3:=sS _ (aM (jB hp.hr))
      have e4:4≤(eX kr.pg kr.key).length:=by rw[eX,aX,cJ];omega
      have e5:(eX kr.pg (gp l ck)).length≤100:=by
       obtain⟨e6,_,e7⟩:=Tr ck (aM g1)
       have e7:=e7 (by omega)
       rw[eX,aX,cJ,gp,ai h0,fc]
       omega
      unfold Am.lam at e1 ⊢
      rw[ai (by omega)] at e1 ⊢
      rw[cB,cI]
      rw[cB] at e1
      omega
     ·rw[xF _ hr] at w2
      have:=hx.lam _ w2
      omega
  ·skip
   refine zC rfl aO (by simp;omega) ?_
   exact zk 13 rfl (WP.ret (sn ⟨rfl,aa⟩ s1))
end
section
variable {told:cE} {p m f:Nat} {xG:List V} {t:Fx}
theorem uu.pre {v:V}(hs:Sm N ε ep)(h1:uu N B g a p q r aN root data R ot Z A L ep now es nl S v h): uu N B g a p q r aN root data R ot Z A L ε now es nl S v h:=by
 obtain⟨ag,aF,z,rfl,a1,a2,a3,a4,a5,I⟩:=h1
 rw[gA hs] at I
 exact⟨ag,aF,z,rfl,a1,hs.trans a2,a3,a4,a5,I⟩
theorem uu.del {v:V}(I:uu N B g a p q r aN root data R ot Z A L ε now es nl (C::S) v h): uu N B g a p q r aN root data R ot Z A L ε now es nl S v h:=by
 obtain⟨ag,aF,z,a0,a1,a2,a3,a4,a5,a6⟩:=I
 exact⟨ag,aF,z,a0,a1,a2,a3,a4,a5.del 1,a6⟩
theorem DM {a b:Bool}: indexV Tryz.prog 230 (.agg [.bool a,.bool b]) (.int .i64 ((0:Nat):Int))=some (.bool a)∧indexV Tryz.prog 230 (.agg [.bool a,.bool b]) (.int .i64 ((1:Nat):Int))=some (.bool b):=by
 simp only[indexV,Tryz.underlying230,BP,tF,r_]
 exact⟨rfl,rfl⟩
abbrev sL : V:=.agg [.bool true,.bool false]
noncomputable def CF : Code:=eu [1,1,1,1,1,1,0,1,0,0] ((Tryz.f72.body).getD .skip)
theorem Ov (hT:W told)(hi:i<ks.length)(hl:ks.length≤512){k:Nat}(hk:k=0∧ks.length≤i+1∨k=1∧i=0)
 (s:Sat h (pt p6 (.cells 2 [.ptr xu 0,.int .i64 (i:Int)] false)::a_ xu f (l+1) bu (bP ks)::S))(hE:Has E [(0,.ptr g 0),(1,w),(5,.ptr x 0),(6,.ptr p6 0),(9,.ptr p9 0),(67,sL),(68,.int .i64 (k:Int))])
 (hq:∀E' h',Has E' [(0,.ptr g 0),(1,w),(5,.ptr x 0),(6,.ptr p6 0),(9,.ptr p9 0),(67,sL),(68,.int .i64 ((k+1:Nat):Int))]→Sat h' (pt p6 (.cells 2 [.ptr xu 0,.int .i64 (i:Int)] false)::a_ xu f (l+1) bu (bP ks)::S)→WP ⟨Tryz.prog,told⟩ 131 (.loop CF) E' h' Q): WP ⟨Tryz.prog,told⟩ 131 (.loop CF) E h Q:=by
 rcases hk with⟨rfl,I⟩|⟨rfl,I⟩
 ·skip
  refine WP.loop (WP.has hE (zg rfl (zB rfl aO (by decide) ?_)))
  refine zk 5 rfl (WP.block (zg rfl (zo rfl (BJ (r:=.bool true) rfl rfl DM.1) (zk 5 rfl (zl rfl (s.b7 (k:=0) rfl Hu kQ) (zk 2 rfl ?_))))))
  have s:=s.ae [1]
  dsimp only[bringA,getA,aL] at s
  refine zc rfl (LY (Tm:=true) hT hi hl I s) ?_
  rintro v h ⟨rfl,s⟩
  have s:=s.ae [1]
  dsimp only[bringA,getA,aL] at s
  refine zk 4 rfl ?_
  refine au.b_ s rfl rfl rfl (cu uX) (fun D7 h s => ?_)
  dsimp only[V.cells,List.length_cons,List.length_nil,Nat.reduceAdd] at s
  refine zS rfl (s.gX (j:=0) rfl jm rfl rfl) (fun h s => ?_)
  dsimp only[setA] at s
  refine zk 4 rfl (WP.block (zK 3 rfl (zC rfl aH (rfl) (zk 6 rfl (zo rfl (dZ rfl rfl) (zk 3 rfl (WP.exit (zr rfl (zb rfl (by exact aQ (aq (by omega) (by omega))) ?_)))))))))
  refine zm rfl (zv ?_)
  exact hq _ _ ⟨rfl,rfl,rfl,rfl,rfl,rfl,rfl,aa⟩ s.drop
 ·skip
  refine WP.loop (WP.has hE (zg rfl (zB rfl aO (by decide) ?_)))
  refine zk 5 rfl (WP.block (zg rfl (zo rfl (BJ (r:=.bool false) rfl rfl DM.2) (zk 5 rfl (zl rfl (s.b7 (k:=0) rfl Hu kQ) (zk 2 rfl ?_))))))
  have s:=s.ae [1]
  dsimp only[bringA,getA,aL] at s
  refine zc rfl (LY (Tm:=false) hT hi hl I s) ?_
  rintro v h ⟨rfl,s⟩
  have s:=s.ae [1]
  dsimp only[bringA,getA,aL] at s
  refine zk 4 rfl ?_
  refine au.b_ s rfl rfl rfl (cu uX) (fun D7 h s => ?_)
  dsimp only[V.cells,List.length_cons,List.length_nil,Nat.reduceAdd] at s
  refine zS rfl (s.gX (j:=0) rfl jm rfl rfl) (fun h s => ?_)
  dsimp only[setA] at s
  refine zk 4 rfl (WP.block (zK 3 rfl (zC rfl aH (rfl) (zk 6 rfl (zo rfl (dZ rfl rfl) (zk 3 rfl (WP.exit (zr rfl (zb rfl (by exact aQ (aq (by omega) (by omega))) ?_)))))))))
  refine zm rfl (zv ?_)
  exact hq _ _ ⟨rfl,rfl,rfl,rfl,rfl,rfl,rfl,aa⟩ s.drop
theorem Ow (I:Has E [(0,.ptr g 0),(1,w),(5,.ptr x 0),(6,.ptr p6 0),(9,.ptr p9 0),(67,sL),(68,.int .i64 ((1+1:Nat):Int))])
 (hq:∀E',Has E' [(0,.ptr g 0),(5,.ptr x 0),(9,.ptr p9 0)]→Q (.exit 0) E' h): WP ⟨Tryz.prog,told⟩ 131 (.loop CF) E h Q:=by
 refine WP.loop (WP.has I (zg rfl (zC rfl aO (by decide) ?_)))
 exact zk 3 rfl (WP.exit (hq _ ⟨rfl,rfl,rfl,aa⟩))
theorem V6 (hT:W told)(hB:B≤2000)(hN:N≤65536)(cA:EI N B ε)(hw:NW N now)(hx:Ba N R ot Z root L A (pgG now ε) M t f l lo hi eL eR pO ks)(hp:Ee Z (pgG now ε) l lo hi ks i kk kr cs dY)(ih:DL told N B g a p q r aN root data R ot Z A L m)(wH:t.length<m)(A5:xG.length=4)
 (s:Sat h (GA g a p q r data aN now ε::a_ x kk.pg l (pgG now ε kk.pg) cs::a_ xu f (l+1) (pgG now ε f) (bP ks)::pt p6 (.cells 2 [.ptr xu 0,.int .i64 (i:Int)] false)::pt p9 (.cells 4 xG false)::wyA w ((dX t++[(xu,ui)])++[(x,xi)])::nodsA (pgG now ε) (l+2) t::S))
 (hE:Has E [(0,.ptr g 0),(1,w),(5,.ptr x 0),(6,.ptr p6 0),(9,.ptr p9 0),(67,sL),(68,.int .i64 ((0:Nat):Int))])
 (mZ:∀E' h' v,Has E' [(4,v)]→uu N B g a p q r aN root data R ot Z A L ε now (eL++ks.flatMap (·.es)++eR) (now.length+4*t.length+2*L+8) S v h'→Q .ret E' h')
 (hq:∀E' h' y ag,486<cB (gS l kr.key cs dY)→EI N B ag→Sm N ε ag→Has E' [(0,.ptr g 0),(1,w),(5,.ptr x 0),(6,.ptr p6 0),(9,.ptr p9 0),(67,sL),(68,.int .i64 ((1:Nat):Int))] →
   Sat h' (GA g a p q r data aN now ag::a_ x kk.pg l (pgG now ε kk.pg) cs::a_ xu f (l+1) (pgG now ε f) (bP ks)::pt p6 (.cells 2 [.ptr xu 0,.int .i64 (i:Int)] false)::pt p9 (.cells 4 [.ptr xu 0,.int .i64 (i:Int),.ptr x 0,.ptr y 0] false)::wyA w ((dX t++[(xu,ui)])++[(x,xi)])::nodsA (pgG now ε) (l+2) t::a_ y kr.pg l (pgG now ε kr.pg) dY::S)→WP ⟨Tryz.prog,told⟩ 131 (.loop CF) E' h' Q): WP ⟨Tryz.prog,told⟩ 131 (.loop CF) E h Q:=by
 have hlen:=hx.len
 have Qn:=hx.XO
 have xj:=hx.pf.fits
 rw[eC] at xj
 have Ed:=kM hp.hr (m:=kr.pg) bB
 have hkN:=(hx.nd.2.2.2 _ (bA _ Ed)).2
 refine WP.loop (WP.has hE (zg rfl (zB rfl aO (by decide) ?_)))
 refine zk 5 rfl (WP.block (zg rfl (zo rfl (BJ (r:=.bool true) rfl rfl DM.1) ?_)))
 have s:=s.ae [0,1,1]
 dsimp only[bringA,getA,aL] at s
 refine zk 5 rfl (zl rfl (s.b7 (k:=2) rfl Hu kQ) (zk 2 rfl (zc rfl (VT hT hB hN cA hw hp.hr (by omega) (by omega) hkN hp.pr (fun c hc=>⟨(hp.nr.cells c hc).1,(hp.nr.cells c hc).2.1⟩) s) ?_)))
 rintro v h ⟨y,ep,rfl,I,fK,s⟩
 have jP:pgG now ep=pgG now ε:=gA fK
 refine zk 4 rfl ?_
 refine au.b_ s rfl rfl rfl (cu uX) (fun D7 h s => ?_)
 dsimp only[V.cells,List.length_cons,List.length_nil,Nat.reduceAdd] at s
 refine zS rfl (s.gX (j:=0) rfl jm rfl rfl) (fun h s => ?_)
 dsimp only[setA] at s
 refine zk 4 rfl (WP.block (zK 3 rfl (zC rfl aH (rfl) (zk 6 rfl (zo rfl (dZ rfl rfl) (zk 3 rfl ?_))))))
 have s:=s.ae [1,2,3,1,0,1,1,1]
 dsimp only[bringA,getA,aL] at s
 rw[←jP] at s hx hp hq
 refine WP.skip ?_
 refine Tq (xi:=xi) (ui:=ui) (x:=x) hT hB hN I hw hx hp ih wH A5 s ⟨rfl,rfl,rfl,rfl,rfl,rfl,rfl,rfl,aa⟩ (fun E' h' v eN hr=>mZ E' h' v eN (hr.pre fK).del) (fun E' h' hJ eN s' => ?_)
 have s:=s'.ae [0,1,0,4,1,1,1,0]
 dsimp only[bringA,getA,aL] at s
 refine WP.has eN (zr rfl (zb rfl (by exact aQ (aq (by omega) (by omega))) ?_))
 refine zm rfl (zv ?_)
 exact hq _ _ y ep hJ I fK ⟨rfl,rfl,rfl,rfl,rfl,rfl,rfl,aa⟩ s
theorem Zm (hT:W told)(hB:B≤2000)(hN:N≤65536)(cA:EI N B ε)(hw:NW N now)(hx:Ba N R ot Z root L A (pgG now ε) M t f l lo hi eL eR pO ks)(I:Ee Z (pgG now ε) l lo hi ks i kl kk eF cs)(ih:DL told N B g a p q r aN root data R ot Z A L m)(wH:t.length<m)(A5:xG.length=4)
 (s:Sat h (GA g a p q r data aN now ε::a_ x kk.pg l (pgG now ε kk.pg) cs::a_ xu f (l+1) (pgG now ε f) (bP ks)::pt p6 (.cells 2 [.ptr xu 0,.int .i64 ((i+1:Nat):Int)] false)::pt p9 (.cells 4 xG false)::wyA w ((dX t++[(xu,ui)])++[(x,xi)])::nodsA (pgG now ε) (l+2) t::S))
 (hE:Has E [(0,.ptr g 0),(1,w),(5,.ptr x 0),(6,.ptr p6 0),(9,.ptr p9 0),(67,sL),(68,.int .i64 ((1:Nat):Int))])
 (mZ:∀E' h' v,Has E' [(4,v)]→uu N B g a p q r aN root data R ot Z A L ε now (eL++ks.flatMap (·.es)++eR) (now.length+4*t.length+2*L+8) S v h'→Q .ret E' h')
 (hq:∀E' h' y ag,486<cB (gS l kk.key eF cs)→EI N B ag→Sm N ε ag→Has E' [(0,.ptr g 0),(5,.ptr x 0),(9,.ptr p9 0)] →
   Sat h' (GA g a p q r data aN now ag::a_ x kk.pg l (pgG now ε kk.pg) cs::a_ y kl.pg l (pgG now ε kl.pg) eF::a_ xu f (l+1) (pgG now ε f) (bP ks)::pt p9 (.cells 4 [.ptr xu 0,.int .i64 (i:Int),.ptr y 0,.ptr x 0] false)::S)→Q (.exit 0) E' h'): WP ⟨Tryz.prog,told⟩ 131 (.loop CF) E h Q:=by
 have hlen:=hx.len
 have Qn:=hx.XO
 have xj:=hx.pf.fits
 rw[eC] at xj
 have rN:=kM I.hl (m:=kl.pg) bB
 have hkN:=(hx.nd.2.2.2 _ (bA _ rN)).2
 have dy:=(List.getElem?_eq_some_iff.1 I.hr).1
 refine WP.loop (WP.has hE (zg rfl (zB rfl aO (by decide) ?_)))
 refine zk 5 rfl (WP.block (zg rfl (zo rfl (BJ (r:=.bool false) rfl rfl DM.2) ?_)))
 have s:=s.ae [0,1,1]
 dsimp only[bringA,getA,aL] at s
 refine zk 5 rfl (zl rfl (s.b7 (k:=2) rfl Hu kQ) (zk 2 rfl (zc rfl (VU hT hB hN cA hw I.hl dy (by omega) (by omega) hkN I.pl (fun c hc=>⟨(I.nl.cells c hc).1,(I.nl.cells c hc).2.1⟩) s) ?_)))
 rintro v h ⟨y,ep,rfl,ou,fK,s⟩
 have jP:pgG now ep=pgG now ε:=gA fK
 refine zk 4 rfl ?_
 refine au.b_ s rfl rfl rfl (cu uX) (fun D7 h s => ?_)
 dsimp only[V.cells,List.length_cons,List.length_nil,Nat.reduceAdd] at s
 refine zS rfl (s.gX (j:=0) rfl jm rfl rfl) (fun h s => ?_)
 dsimp only[setA] at s
 refine zk 4 rfl (WP.block (zK 3 rfl (zC rfl aH (rfl) (zk 6 rfl (zo rfl (dZ rfl rfl) (zk 3 rfl ?_))))))
 have s:=s.ae [1,2,1,2,0,1,1,1]
 dsimp only[bringA,getA,aL] at s
 rw[←jP] at s hx I hq
 refine WP.skip ?_
 refine Tq (xi:=xi) (ui:=ui) (x:=x) hT hB hN ou hw hx I ih wH A5 s ⟨rfl,rfl,rfl,rfl,rfl,rfl,rfl,rfl,aa⟩ (fun E' h' v eN hr=>mZ E' h' v eN (hr.pre fK).del) (fun E' h' hJ eN s' => ?_)
 have s:=s'.ae [0,2,1,0,0]
 dsimp only[bringA,getA,aL] at s
 refine WP.has eN (zr rfl (zb rfl (by exact aQ (aq (by omega) (by omega))) ?_))
 refine zm rfl (zv ?_)
 refine Ow (h:=h') (w:=w) (g:=g) (x:=x) (p6:=p6) (p9:=p9) ⟨rfl,rfl,rfl,rfl,rfl,rfl,rfl,aa⟩ fun E2 Lo=>hq E2 h' y ep hJ ou fK Lo (((s.del 7).del 6).del 5)
end
def GI (N B g a p q r aN:Nat)(data Z:List Nat)(ε:bE)(now:List (Int×List Nat))(x n l:Nat)(b:List Nat)(cs:List (List Nat))(xu f:Nat)(lo:Ky)(hi:Option Ky)(ks:List gG)(p9:Nat)(S:List aE)(h':H): Prop:=∃ag,EI N B ag∧Sm N ε ag∧(Sat h' (GA g a p q r data aN now ag::a_ x n l b cs::pt p9 (.cells 4 [.b8,.int .i64 0,.b8,.b8] false)::S) ∨
 ∃i kl kr eF dY xl xr D,Ee Z (pgG now ε) l lo hi ks i kl kr eF dY∧486<cB (gS l kr.key eF dY)∧(cs.length<2→eF.length<2∨dY.length<2)∧(∀(h:H) (S:List aE),Sat h (a_ x n l b cs::D::S)→Sat h (a_ xl kl.pg l (pgG now ε kl.pg) eF::a_ xr kr.pg l (pgG now ε kr.pg) dY::S)) ∧
  Sat h' (GA g a p q r data aN now ag::a_ x n l b cs::D::a_ xu f (l+1) (pgG now ε f) (bP ks)::pt p9 (.cells 4 [.ptr xu 0,.int .i64 (i:Int),.ptr xl 0,.ptr xr 0] false)::S))
section
variable {told:cE} {p m f:Nat} {xG:List V} {t:Fx}
theorem cS.ne (h:cS Z l cs): cs≠[]:=by
 unfold cS at h
 split at h
 ·exact h
 ·rcases h with h|⟨_,_,_,_,rfl⟩
  ·intro e;rw[e] at h;cases h
  ·simp
theorem GI.pre (hs:Sm N ε ep)(I:GI N B g a p q r aN data Z ep now x n l b cs xu f lo hi ks p9 S h): GI N B g a p q r aN data Z ε now x n l b cs xu f lo hi ks p9 S h:=by
 obtain⟨ag,a1,a2,a3⟩:=I
 rw[gA hs] at a3
 exact⟨ag,a1,hs.trans a2,a3⟩
theorem GI.del (h1:GI N B g a p q r aN data Z ε now x n l b cs xu f lo hi ks p9 (C::S) h): GI N B g a p q r aN data Z ε now x n l b cs xu f lo hi ks p9 S h:=by
 obtain⟨ag,I,a2,s|⟨i,kl,kr,eF,dY,xl,xr,D,b1,b2,b3,b4,s⟩⟩:=h1
 ·exact⟨ag,I,a2,.inl (s.del 3)⟩
 ·exact⟨ag,I,a2,.inr ⟨i,kl,kr,eF,dY,xl,xr,D,b1,b2,b3,b4,s.del 5⟩⟩
theorem Ts (hT:W told)(hB:B≤2000)(hN:N≤65536)(cA:EI N B ε)(hw:NW N now)(hx:Ba N R ot Z root L A (pgG now ε) M t f l lo hi eL eR pO ks)(L1:∀j,i=j+1→∃kl eF,Ee Z (pgG now ε) l lo hi ks j kl kk eF cs)(dy:i<ks.length)(ih:DL told N B g a p q r aN root data R ot Z A L m)(wH:t.length<m)(A5:xG.length=4)
 (s:Sat h (GA g a p q r data aN now ε::a_ x kk.pg l (pgG now ε kk.pg) cs::a_ xu f (l+1) (pgG now ε f) (bP ks)::pt p6 (.cells 2 [.ptr xu 0,.int .i64 (i:Int)] false)::pt p9 (.cells 4 xG false)::wyA w ((dX t++[(xu,ui)])++[(x,xi)])::nodsA (pgG now ε) (l+2) t::S))
 (hE:Has E [(0,.ptr g 0),(1,w),(5,.ptr x 0),(6,.ptr p6 0),(9,.ptr p9 0),(67,sL),(68,.int .i64 ((1:Nat):Int))])
 (I:∀E' h' v,Has E' [(4,v)]→uu N B g a p q r aN root data R ot Z A L ε now (eL++ks.flatMap (·.es)++eR) (now.length+4*t.length+2*L+8) S v h'→Q .ret E' h')
 (h0:i=0→∀E' h',Has E' [(0,.ptr g 0),(5,.ptr x 0),(9,.ptr p9 0)]→Sat h' (GA g a p q r data aN now ε::a_ x kk.pg l (pgG now ε kk.pg) cs::a_ xu f (l+1) (pgG now ε f) (bP ks)::pt p9 (.cells 4 xG false)::S)→Q (.exit 0) E' h')
 (hq:∀E' h',Has E' [(0,.ptr g 0),(5,.ptr x 0),(9,.ptr p9 0)]→GI N B g a p q r aN data Z ε now x kk.pg l (pgG now ε kk.pg) cs xu f lo hi ks p9 S h'→Q (.exit 0) E' h'): WP ⟨Tryz.prog,told⟩ 131 (.loop CF) E h Q:=by
 have xj:=hx.pf.fits
 rw[eC] at xj
 cases i with
 |zero =>
  have s:=s.ae [3,2]
  refine Ov (k:=1) hT dy (by omega) (.inr ⟨rfl,rfl⟩) s hE fun E1 h1 Ln s=>Ow Ln fun E2 Lo=>h0 rfl E2 h1 Lo ?_
  have s:=s.ae [2,2,1,1]
  exact((s.del 6).del 5).del 4
 |succ j =>
  obtain⟨kl,eF,hp⟩:=L1 j rfl
  refine Zm hT hB hN cA hw hx hp ih wH A5 s hE I fun E' h' y iQ hJ sH nc eN s=>hq E' h' eN ⟨iQ,sH,nc,.inr ⟨j,kl,kk,eF,cs,y,x,_,hp,hJ,.inr,fun h S s => ?_,s⟩⟩
  have s:=s.ae [1]
  exact s
theorem Zn (hT:W told)(hB:B≤2000)(hN:N≤65536)(cA:EI N B ε)(hw:NW N now)(hx:Ba N R ot Z root L A (pgG now ε) M t f l lo hi eL eR pO ks)(hR:i+1<ks.length→∃kr dY,Ee Z (pgG now ε) l lo hi ks i kk kr cs dY)(L1:∀j,i=j+1→∃kl eF,Ee Z (pgG now ε) l lo hi ks j kl kk eF cs)(dy:i<ks.length)(ih:DL told N B g a p q r aN root data R ot Z A L m)(wH:t.length<m)
 (s:Sat h (GA g a p q r data aN now ε::a_ x kk.pg l (pgG now ε kk.pg) cs::a_ xu f (l+1) (pgG now ε f) (bP ks)::pt p6 (.cells 2 [.ptr xu 0,.int .i64 (i:Int)] false)::pt p9 (.cells 4 [.b8,.int .i64 0,.b8,.b8] false)::wyA w ((dX t++[(xu,ui)])++[(x,xi)])::nodsA (pgG now ε) (l+2) t::S))
 (hE:Has E [(0,.ptr g 0),(1,w),(5,.ptr x 0),(6,.ptr p6 0),(9,.ptr p9 0),(67,sL),(68,.int .i64 ((0:Nat):Int))])
 (mZ:∀E' h' v,Has E' [(4,v)]→uu N B g a p q r aN root data R ot Z A L ε now (eL++ks.flatMap (·.es)++eR) (now.length+4*t.length+2*L+8) S v h'→Q .ret E' h')
 (hq:∀E' h',Has E' [(0,.ptr g 0),(5,.ptr x 0),(9,.ptr p9 0)]→GI N B g a p q r aN data Z ε now x kk.pg l (pgG now ε kk.pg) cs xu f lo hi ks p9 S h'→Q (.exit 0) E' h'): WP ⟨Tryz.prog,told⟩ 131 (.loop CF) E h Q:=by
 have xj:=hx.pf.fits
 rw[eC] at xj
 by_cases hr:i+1<ks.length
 ·obtain⟨kr,dY,hp⟩:=hR hr
  refine V6 hT hB hN cA hw hx hp ih wH rfl s hE mZ fun E1 h1 y ep hJ ou fK Ln s => ?_
  have jP:pgG now ep=pgG now ε:=gA fK
  rw[←jP] at s hx L1 hp hq
  refine Ts (S:=a_ y kr.pg l (pgG now ep kr.pg) dY::S) hT hB hN ou hw hx L1 dy ih wH rfl s Ln (fun E' h' v I hr=>mZ E' h' v I (hr.pre fK).del) (fun _ E' h' I s=>hq E' h' I (.pre fK ⟨ep,ou,Sm.refl N ep,.inr ⟨i,kk,kr,cs,dY,x,y,a_ y kr.pg l (pgG now ep kr.pg) dY,hp,hJ,.inl,fun h S s=>s,?_⟩⟩)) fun E' h' I he=>hq E' h' I (he.pre fK).del
  have s:=s.ae [0,0,2,0,0]
  exact s
 ·have s:=s.ae [3,2]
  refine Ov (k:=0) hT dy (by omega) (.inl ⟨rfl,by omega⟩) s hE fun E1 h1 Ln s => ?_
  have s:=s.ae [2,2,1,0]
  refine Ts hT hB hN cA hw hx L1 dy ih wH rfl s Ln mZ (fun _ E' h' I s=>hq E' h' I ⟨ε,cA,Sm.refl N ε,.inl (s.del 2)⟩) hq
theorem abp (hT:W told)(hB:B≤2000)(hN:N≤65536)(hw:NW N now)(hx:Ba N R ot Z root L A (pgG now ε) M t f l lo hi eL eR pO ks)(eD:∃z,qC N root R ot (z::Z) A L (pgG now ε) (pgG now ε) (eL++ks.flatMap (·.es)++eR))(pG:now.length+3≤nl)(he:GI N B g a p q r aN data Z ε now x n l b cs xu f lo hi ks p9 S h)(hE:Has E [(0,.ptr g 0),(5,.ptr x 0),(9,.ptr p9 0)])
 (mZ:∀E' h' v,Has E' [(4,v)]→uu N B g a p q r aN root data R ot Z A L ε now (eL++ks.flatMap (·.es)++eR) nl S v h'→Q .ret E' h'): WP ⟨Tryz.prog,told⟩ 131 mdT E h Q:=by
 obtain⟨ep,ou,fK,s|⟨i,kl,kr,eF,dY,xl,xr,D,hp,hJ,V4,V5,s⟩⟩:=he
 ·have I:pgG now ep=pgG now ε:=gA fK
  rw[←I] at eD
  exact abo ou hw eD (by omega) s ⟨hE.2.1,hE.2.2.1,aa⟩ fun E' h' v eN hr=>mZ E' h' v eN (hr.pre fK)
 ·have I:pgG now ep=pgG now ε:=gA fK
  rw[←I] at eD hx hp s
  exact V3 hT hB hN ou hw hx hp eD pG hJ V4 (fun {h S} s=>by have:=V5 h S s;rw[←I] at this;exact this) s hE fun E' h' v eN hr=>mZ E' h' v eN (hr.pre fK)
end
section
variable {told:cE} {p:Nat}
theorem Zo (hT:W told)(hB:B≤2000)(hN:N≤65536): ∀m,DL told N B g a p q r aN root data R ot Z A L m:=by
 intro m
 induction m with
 |zero=>intro fx l x n i lo hi eL eR pO cs es ps w ε now M h S hm;exact absurd hm (vp _)
 |succ m ih =>
  intro fx l x n i lo hi eL eR pO cs es ps w ε now M h S hm cA hw gm kH mH jD fO hL LN hA s
  have oh:=kH.mc n (by simp)
  have qd:(dX fx).length=fx.length:=by rw[dX,gh,bX]
  have ko:(dX fx++[(x,i)]).length=fx.length+1:=by rw[aX,qd];rfl
  have s:=s.ae [1]
  obtain⟨id,off,e1,e2,_⟩:=JR (P:=Tryz.prog) (j:=fx.length) (x:=x) (i:=i) eo kQ (by rw[ie (by omega),qd,gV];rfl) s
  have AF:=Ct (P:=Tryz.prog) s eo
  rw[ko] at AF
  refine Call.of_wp (hT.free _ rfl) Tryz.func72 rfl rfl (zK 8 rfl (zo rfl (aD rfl rfl rfl AF) (zo rfl (ak (r:=.int .i64 (fx.length:Int)) rfl rfl (by rw[show((fx.length:Nat):Int)=((fx.length+1:Nat):Int)-1 by omega];exact ew (aq (by omega) (by omega)))) ?_)))
  refine zo rfl (bS (r:=.ptr id off) rfl rfl e1) (zf rfl (jb _ _) (zl rfl (e2 _ e_) (zk 6 rfl (zo rfl (aD rfl rfl rfl AF) ?_))))
  cases fx with
  |nil =>
   obtain⟨rfl,rfl,rfl,rfl,rfl,rfl,rfl⟩:=mH
   obtain⟨Jc,hA2⟩:=hA
   refine zB rfl c8 (by simp) ?_
   have s:=s.ae [1,1]
   refine zk 6 rfl (zc rfl (VW (ot:=ot) (Z:=Z) (A:=A) (es:=es) hT hB hN LN cA hw gm kH jD fO Jc hA2 s) ?_)
   rintro v h ⟨ep,oc,rfl,a1,a2,a3,a4,a5,s⟩
   exact zk 2 rfl (WP.ret ⟨aa,_,rfl,ep,oc,0,rfl,a1,a2,a3,by simp only[cj];omega,s.skip 2,by simpa using a5.more⟩)
  |cons e t =>
   refine zC rfl c8 (by simp;omega) ?_
   have H9:(dX t).length=t.length:=by rw[dX,gh,bX]
   have ad8:dX (e::t)++[(x,i)]=(dX t++[(e.1,e.2.i)])++[(x,i)]:=by rw[qT]
   have sn:(dX (e::t)++[(x,i)])[t.length]?=some (e.1,e.2.i):=by
    rw[qT,dA,ie (by omega),H9,gV]
    rfl
   obtain⟨xA,sI,y1,_,y3⟩:=JR (P:=Tryz.prog) eo kQ sn s
   have cq:(e::t).length=t.length+1:=rfl
   have hmt:t.length<m:=by rw[cq] at hm;omega
   refine zk 7 rfl (zo rfl (aD rfl rfl rfl AF) (zo rfl (ak (r:=.int .i64 (t.length:Int)) rfl rfl (by rw[show((t.length:Nat):Int)=(((e::t).length+1:Nat):Int)-2 by rw[cq];omega];exact ew (aq (by omega) (by omega)))) ?_))
   refine zo rfl (bS (r:=.ptr xA sI) rfl rfl y1) (zl rfl (y3 Hu) ?_)
   obtain⟨fQ,eT,m9,jd,iM,ks,kk,p1,p2,p3,p4,rfl,rfl,rfl,p8,rfl,rfl,IT,D7,p13,p14,p15⟩:=gH.pop mH es ps
   have hx:Ba N R ot Z root L A (pgG now ε) M t e.2.pg l fQ eT m9 jd iM ks:=⟨gm,kH.perm (p15.append_right ot),p1,p8,D7,p13,by rw[cq] at hL;omega,LN,hA⟩
   rw[p14]
   obtain⟨n1,n2,n3,n4⟩:=hx.nd
   have xj:=hx.pf.fits
   have dy:=(List.getElem?_eq_some_iff.1 p4).1
   have s:=s.ae [3]
   have s:=vh.1 s
   rw[←p2,ad8] at s
   have s:=s.ae [4]
   obtain⟨bv,cv,us,s⟩:=bh.1 s
   refine au.b_ s rfl rfl rfl (cu Pf) (fun p6 h s => ?_)
   refine zS rfl (s.gX (j:=0) rfl kQ rfl rfl) (fun h s => ?_)
   refine zk 6 rfl (zY s 1 cN gz rfl (zo rfl (aD rfl rfl rfl (iJ (P:=Tryz.prog) aP s.drop)) ?_))
   by_cases Tt:cs.length=0
   ·obtain rfl:cs=[]:=ic Tt
    obtain⟨Wx,wP⟩:kk.es=[]∧kk.ps=[]:=by
     rcases jD with jD|⟨_,_,q1,q2⟩
     ·cases l with
      |zero=>obtain⟨q1,_,q2⟩:=jD;exact⟨List.map_eq_nil_iff.1 q1.symm,q2⟩
      |succ l =>
       obtain⟨k2,q1,q2,_⟩:=jD
       exact absurd (List.map_eq_nil_iff.1 q1.symm) q2.ne
     ·exact⟨q1,q2⟩
    refine zB rfl c8 (by simp) ?_
    have s:=s.ae [8]
    have hkm:=kM p4 (m:=kk.pg) bB
    have kj:((iM++e.2.pg::ks.flatMap ej)++ot).Perm (kk.pg::((iM++e.2.pg::ks.flatMap ej)++ot).erase kk.pg):=List.perm_cons_erase (gI _ (lF _ (bA _ hkm)))
    refine zk 8 rfl (zY s 2 iZ b9 rfl (zc rfl (EU hT hB cA hw gm hx.tr kj s) ?_))
    rintro v h ⟨ep,oc,M1,rfl,a1,a2,a3,a4,a5,a6,a7,s⟩
    have s:=s.ae [0,5]
    refine zk 5 rfl (zC rfl aH (rfl) (zk 6 rfl (zY s 2 jb e_ rfl (zm rfl (zY s 2 si b9 rfl (zc rfl (Ec hT hB a1 a3 (n4 _ bB).2 hx.pf (by rw[eC];exact dy) (To) s) ?_))))))
    rintro v h ⟨iQ,bU,rfl,b1,b2,b3,b4,s⟩
    have jO:∀m:Int,pgG (cD (e.2.pg:Int) bU oc) iQ m=if (e.2.pg:Int)=m then bU else pgG oc ep m:=fun m=>by rw[eH,gA b2]
    have VJ:=ga (i:=(e.2.pg:Int)) (b:=bU) (now:=oc)
    generalize cD (e.2.pg:Int) bU oc=I at s jO b3 VJ
    have hfp:pgG I iQ e.2.pg=bU:=by rw[jO,ay rfl]
    have CE:∀m:Nat,2≤m→m≠e.2.pg→pgG I iQ m=pgG now ε m:=fun m q1 q2=>by rw[jO,ai (by omega),a7 _ (by omega)]
    obtain⟨m_,u1,u2⟩:=abm (P':=pgG I iQ) hx.sep p4 Wx wP IT n1 (fun m q1 q2=>CE m (n4 m (bA _ q2)).1 q1)
    have xF:∀m:Nat,m∈iM→pgG I iQ m=pgG now ε m:=fun m hm=>CE m (n2 m hm).2.2 (n2 m hm).1
    have ur:∀m:Nat,m∈ot→pgG I iQ m=pgG now ε m:=fun m hm=>CE m (n3 m hm).2.2 (n3 m hm).1
    obtain⟨w1,w2⟩:=hx.up (P':=pgG I iQ) xF (XP:=(bP ks).eraseIdx e.2.i) Tp
    have tE:jC N M1 ((iM++e.2.pg::m_)++ot):=a6.perm (by
     refine(kj.symm.trans ?_).cons_inv
     rw[lH] at u2 ⊢
     intro z
     have:=u2 z
     simp only[lJ,lK] at this ⊢
     omega)
    have h2f:=(n4 _ bB).1
    have Nx:((dX t++[(e.1,e.2.i)])++[(x,i)]:List (Nat×Nat)).length=t.length+2:=by simp[dX]
    have Qo:((dX t++[(e.1,e.2.i)])++[(x,i)]).take (t.length+1)=dX t++[(e.1,e.2.i)]:=gq (by simp[dX])
    refine zk 5 rfl (zC rfl aH (rfl) (zk 8 rfl (zo rfl (aD (r:=.int .i64 ((t.length+2:Nat):Int)) rfl rfl rfl (by rw[←Nx];exact s.AA (j:=8) rfl eo)) ?_)))
    refine zo rfl (ak (r:=.int .i64 ((t.length+1:Nat):Int)) rfl rfl (by rw[show((t.length+1:Nat):Int)=((t.length+2:Nat):Int)-1 by omega];exact ew (aq (by omega) (by omega)))) ?_
    refine zo rfl (bO (p:=none) (q:=some (.int .i64 ((t.length+1:Nat):Int))) (m:=none) (p':=none) (q':=some (t.length+1)) (m':=none) rfl rfl rfl rfl rfl (by rw[bT (by omega)];rfl) rfl (s.AB (j:=8) rfl (b:=t.length+1) eo kQ (by omega))) ?_
    have s:=LJ (b:=t.length+1) (by omega) (by omega) (s.ae [8])
    rw[Qo,←tO (P':=pgG I iQ) (fx:=t) fun e' qn=>xF e'.2.pg (p1.XA e'.2 (oz qn))] at s
    rw[←hfp] at s
    have s:=s.ae [1,0,0,5]
    refine zc rfl (ih t (l+1) e.1 e.2.pg e.2.i fQ eT m9 jd iM _ _ m_ _ iQ I M1 h _ hmt b1 b3 (a5.frame (by rw[jO,ai (by omega)]) (by rw[jO,ai (by omega)])) tE w1 u1 (by rw[hfp];exact b4) hx.len LN w2 s) ?_
    rintro v0 h ⟨kC,LZ,z,rfl,c1,c2,c3,c4,s,c5⟩
    exact zk 2 rfl (WP.ret ⟨aa,_,rfl,kC,LZ,z,rfl,c1,a2.trans (b2.trans c2),c3,by rw[cq];omega,s.skip 5,c5.base ur⟩)
   ·skip
    refine zC rfl c8 (decide_eq_false (by omega)) ?_
    have eZ:cs≠[]:=fun q=>Tt (by rw[q];rfl)
    have jD:Nv (cS Z) (pgG now ε) l (loK fQ ks e.2.i) (cZ eT ks e.2.i) cs kk.es kk.ps:=jD.resolve_right fun q=>eZ q.2.1
    have eD:∃z,qC N root R ot (z::Z) A L (pgG now ε) (pgG now ε) (m9++ks.flatMap (·.es)++jd):=by
     obtain⟨z,Gx,cs',q1,q2,q3,q4⟩:=Zl mH jD eZ fO
     have:=hx.lam _ q2
     exact⟨z,M,L,cs',Gx,gm,kH.perm (q3.symm.append_right ot),by rw[←p14];exact q1,q2,⟨aI _,by omega⟩,fun _ _=>rfl⟩
    have fin:∀ {E':List (Nat×V)} {h':H} {v:V},Has E' [(4,v)]→uu N B g a p q r aN root data R ot Z A L ε now (m9++ks.flatMap (·.es)++jd) (now.length+4*t.length+2*L+8) S v h'→True∧∃v,resLE Tryz.prog E' h' [.tmp 4]=some v∧uu N B g a p q r aN root data R ot Z A L ε now (m9++ks.flatMap (·.es)++jd) (now.length+4*(e::t).length+2*L+4) S v h':=fun hE hr=>⟨aa,_,z_ hE.1,by rw[cq,show now.length+4*(t.length+1)+2*L+4=now.length+4*t.length+2*L+8 by omega];exact hr⟩
    have p4:ks[e.2.i]?=some kk:=p4
    have dy:e.2.i<ks.length:=dy
    have IT:∀j k,ks[j]?=some k→j≠e.2.i→Kd (cS Z) (pgG now ε) l (loK fQ ks j) (cZ eT ks j) k:=IT
    have hR:e.2.i+1<ks.length→∃kr dY,Ee Z (pgG now ε) l fQ eT ks e.2.i kk kr cs dY:=fun q=>by
     obtain⟨dY,g1,g2,g3⟩:=IT (e.2.i+1) _ (aG q) (by omega)
     exact⟨_,dY,p4,aG q,fun j k hk h1 _=>IT j k hk h1,jD,g1,eZ,g2.ne,fO,g3⟩
    have L1:∀j,e.2.i=j+1→∃kl eF,Ee Z (pgG now ε) l fQ eT ks j kl kk eF cs:=fun j q=>by
     obtain⟨kl,rN⟩:∃kl,ks[j]?=some kl:=⟨_,aG (by omega)⟩
     obtain⟨eF,g1,g2,g3⟩:=IT j kl rN (by omega)
     exact⟨kl,eF,rN,by rw[←q];exact p4,fun j2 k hk h1 h2=>IT j2 k hk (by omega),g1,by rw[←q];exact jD,g2.ne,eZ,g3,fO⟩
    refine zk 5 rfl ?_
    refine au.b_ s rfl rfl rfl (cu uX) (fun p9 h s => ?_)
    refine zk 4 rfl (zo rfl (cQ (r:=sL) rfl (by rw[ab4];rfl)) ?_)
    have s:=s.ae [2,2,2,2]
    have s:Sat h (a_ x kk.pg l (pgG now ε kk.pg) cs::_):=bh.2 ⟨bv,cv,us,s⟩
    have s:=s.ae [6,0,2,1,0,1,0]
    exact zk 2 rfl (WP.block (Zn (ui:=e.2.i) (xi:=i) (w:=w) hT hB hN cA hw hx hR L1 dy ih hmt s ⟨rfl,rfl,rfl,rfl,rfl,rfl,rfl,aa⟩ (fun E' h' v eN hr=>fin eN hr) fun E' h' eN he=>(WP.has eN (abp (nl:=now.length+4*t.length+2*L+8) hT hB hN hw hx eD (by omega) he ⟨rfl,rfl,rfl,aa⟩ fun E' h' v eN hr=>fin eN hr))))
end
section
theorem xH (h:∀e∈es,e.1≠k): lu es k=es:=List.filter_eq_self.2 fun e he=>by simp[h e he]
theorem Zp (h:(es.map (·.1)).Nodup)(he:es[i]?=some e)(I:e.1=k): lu es k=es.eraseIdx i:=by
 unfold lu
 induction es generalizing i with
 |nil=>simp at he
 |cons a t ih =>
  simp only[ik,oC] at h
  cases i with
  |zero =>
   simp only[jE,aA] at he
   subst he
   rw[List.filter_cons_of_neg (by simp[I]),List.eraseIdx_cons_zero]
   exact xH fun d hd q=>h.1 (by rw[I,←q];exact oz hd)
  |succ i =>
   simp only[ow] at he
   have eZ:a.1≠k:=fun q=>h.1 (by rw[q,←I];exact oz (aM he))
   rw[List.filter_cons_of_pos (by simp[eZ]),List.eraseIdx_cons_succ,ih h.2 he]
theorem V7 (I:∀e∈eL,e.1<k)(h2:∀e∈eR,k<e.1): lu (eL++es++eR) k=eL++lu es k++eR:=by
 unfold lu
 rw[lI,lI]
 congr 1
 ·congr 1
  exact xH fun e he q=>absurd (q ▸ I e he) (mu _)
 ·exact xH fun e he q=>absurd (q ▸ h2 e he) (mu _)
theorem Zq (h:fI es k=none): ∀e∈es,e.1≠k:=fun e he q=>by
 have:=List.find?_eq_none.1 (Option.map_eq_none_iff.1 h) e he
 exact this (by simpa using q)
theorem jc.era (h:jc lo hi es)(i:Nat): jc lo hi (es.eraseIdx i):=⟨fun e he=>h.bd e (xZ he),fun e he=>h.sz e (xZ he),h.kK.sublist (List.eraseIdx_sublist _ _)⟩
end
section
variable {told:cE} {p:Nat} {k:List Nat}
theorem V8 (hT:WB told)(hB:B≤2000)(hN:N≤2999)(cA:EI N B ε)(hw:NW N now)(gm:fY N R M (pgG now ε))(kH:jC N M ((root::ps)++ot))(jD:Nv (cS Z) (pgG now ε) L [] none cs es ps)(hp:bH (pgG now ε root) 204 0 L cs)(hL:L≤60)(hA:lam L cs≤A)(hX:cf X (cy kv k))(hk:1≤k.length∧k.length≤96)
 (s:Sat h (GA g a p q r data aN now ε::X::S)):
  Call ⟨Tryz.prog,told⟩ 21 [.ptr g 0,.int .i64 (root:Int),kv] h fun v h'=>∃ag aF ov z,v=.aT [ov,.bool (fI es k).isSome,.int .i64 0]∧EI N B ag∧Sm N ε ag∧NW N aF∧aF.length≤now.length+6*L+5∧Sat h' (GA g a p q r data aN aF ag::xW ov (fI es k)::X::S)∧qC N root R ot (z::Z) (A+104) L (pgG now ε) (pgG aF ag) (lu es k):=by
 have hW:=hT.w
 have sM:=kH.mc root (by simp)
 refine Call.of_wp (hW.free _ rfl) Tryz.func21 rfl rfl (zK 10 rfl (zc rfl (wE hW (s.ae [1]) hX) ?_))
 rintro v h' ⟨rfl,rfl⟩
 rw[dB hk]
 refine zh rfl (dZ rfl rfl) (rfl) (zk 6 rfl (zo rfl (mI rfl (mki_of jT rfl)) (zk 2 rfl (zc rfl (JO hT (EH hW hB hw) (by omega) (by omega) hX jD hp cA rfl sM.2 (fun m hm=>(kH.mc m (by simp[hm])).2) s) ?_))))
 rintro v h ⟨w,x,n,lo,hi,eL,eR,pO,es',fx,ep,rfl,q1,q2,q3,q4,q5,q6,q7,q8,q9,nf,s⟩
 have qd:(dX fx).length=L:=by rw[dX,gh,bX,nf]
 have ko:(dX fx++[(x,0)]).length=L+1:=by rw[aX,qd];rfl
 obtain⟨id,off,e1,e2,_⟩:=tD (P:=Tryz.prog) (j:=L) (x:=x) (i:=0) eo kQ (by rw[ie (by omega),qd,gV];rfl) s
 have LQ:es'.length≤512:=by have:=q3.fits;rw[bX] at this;omega
 refine zk 10 rfl (zC rfl aH (rfl) (zk 7 rfl (zo rfl (aD rfl rfl rfl (s.fW (j:=0) (n:=L+1) rfl (by rw[j6,ko]) (by decide) eo)) ?_)))
 refine zo rfl (ak (r:=.int .i64 (L:Int)) rfl rfl (by rw[show((L:Nat):Int)=((L+1:Nat):Int)-1 by omega];exact ew (aq (by omega) (by omega)))) ?_
 refine zo rfl (bS (r:=.ptr id off) rfl rfl e1) (zf rfl (jb _ _) (zl rfl (e2 _ e_) (zk 6 rfl (zc rfl (wD hT hX q2 LQ (s.ae [1,3])) ?_))))
 rintro v h ⟨i,rfl,hl,s⟩
 obtain⟨Eb,GB⟩:=q1.side q7
 have nH:fI es k=fI es' k:=by rw[←q8];exact EN Eb GB
 have uK:lu es k=eL++lu es' k++eR:=by rw[←q8];exact V7 Eb GB
 have jP:pgG now ep=pgG now ε:=gA q6
 refine zk 10 rfl ?_
 cases hq:sameE es' k i with
 |false =>
  have ho:=hl.none q2 hq
  refine zt rfl (dZ rfl rfl) (rfl) (zk 8 rfl (WP.ret ⟨aa,_,rfl,?_⟩))
  have s:=((s.ae [4,1]).del 4 |>.del 3 |>.del 2).gQ (φ:=V.aR=.aR) rfl
  have s:Sat h (xW .aR none::_):=s
  have s:=s.ae [1]
  refine⟨ep,now,.aR,0,?_,q5,q6,hw,by omega,?_,M,L,cs,ps,by rw[jP];exact gm,kH,by rw[jP,uK,xH (Zq ho),q8];exact jD.mono fun _ _ h=>h.more,by rw[jP];exact hp,⟨aI _,by omega⟩,fun _ _=>by rw[jP]⟩
  ·rw[nH,ho];rfl
  ·rw[nH,ho];exact s
 |true =>
  obtain⟨e,he,xp⟩:=EO hq
  have ho:=H6 q2.nodup he xp
  obtain⟨c1,c2,c3⟩:=vL q2 he
  have fy:=(List.getElem?_eq_some_iff.1 he).1
  refine zh rfl (dZ rfl rfl) (rfl) (zk 7 rfl (zc rfl (DG hW c1 c2 c3 s) ?_))
  rintro Gu h s
  rw[DH] at s
  refine zc rfl (rP hW s (bj _ _) (by have:=(q2.sz e (aM he)).2.2;omega)) ?_
  intro ov h s
  have s:=(s.del 1).ae [1]
  obtain⟨bv,cv,us,s⟩:=bh.1 s
  have sQ:=jZ (s.ae [3])
  rw[bX] at sQ
  have s:=s.ae [1]
  refine zk 6 rfl (zY s 1 nN bF rfl (zm rfl (zc rfl (LX hW (i:=i) s (bj _ _) q3 (by rw[bX];exact fy) (fun c hc=>by obtain⟨e,_,rfl⟩:=List.mem_map.1 hc;simp[ey])) ?_)))
  rintro v h ⟨u,b',rfl,uq,s⟩
  have s:=s.ae [9,0,1]
  refine zk 10 rfl (zC rfl aH (rfl) ?_)
  have s:=(s.ae [1]).eW.ae [1]
  have oh:=kH.perm (q9.symm.append_right ot)
  have sA:=oh.mc n (by simp)
  refine zk 9 rfl (zY s 2 iZ b9 rfl (zm rfl (zc rfl (wF hW hB q5 hw sA.2 s (bj _ _) uq.good) ?_)))
  rintro v0 h ⟨qB,rfl,w1,w2,w3,s⟩
  have jO:∀q:Int,pgG (cD (n:Int) b' now) qB q=if (n:Int)=q then b' else pgG now ε q:=fun q=>by rw[eH,gA w2,jP]
  have pG:=ga (i:=(n:Int)) (b:=b') (now:=now)
  generalize cD (n:Int) b' now=I at s jO w3 pG
  refine zk 5 rfl (zC rfl aH (rfl) ?_)
  have s:=s.ae [4]
  refine zk 10 rfl (zY s 3 cN gz rfl (zc rfl (mO hW s (dK _ _ _) (by omega)) ?_))
  intro cl h s
  have s:=Ot i (s.ae [6])
  have s:=s.ae [1]
  refine zk 2 rfl (zo rfl (ak (r:=.int .i64 ((i+1:Nat):Int)) rfl rfl (by rw[show((i+1:Nat):Int)=(i:Int)+1 by omega];exact aQ (aq (by omega) (by omega)))) ?_)
  refine zc rfl (Oq hW s (by omega) (by omega)) ?_
  intro dl h s
  have xy:=(s.aC (k:=4) rfl (bj _ _)).cells
  have GG:=j3 (s.kZ (j:=0) rfl (dK _ _ _))
  refine zn rfl (zf rfl (nN _ _) (zS rfl (s.jS (k:=5) rfl dH rfl (by decide) xy.1 xy.2) ?_))
  intro h s
  refine zn rfl (zf rfl (cN _ _) (zS rfl (s.jS (k:=5) rfl Ur rfl (by decide) GG.1 GG.2.1) ?_))
  intro h s
  have Wy:(es'.map ey).eraseIdx i=(es'.eraseIdx i).map ey:=by rw[nj,nj,qY,ri,sW]
  rw[Wy] at s uq
  have s:=s.ae [5,4,0,0]
  have hb4:pgG I qB n=b':=by rw[jO,ay rfl]
  have s:Sat h (a_ x n 0 b' ((es'.eraseIdx i).map ey)::_):=bh.2 ⟨u,dl,_,s⟩
  rw[←hb4] at s uq
  have iS:=oh.nd
  rw[dA,nA] at iS
  have Cw:=iS.2.1
  rw[fF,oC] at Cw
  have XQ:∀m:Nat,m≠n→pgG I qB m=pgG now ε m:=fun m hm=>by rw[jO,ai (by omega)]
  have xF:∀m:Nat,m∈pO→pgG I qB m=pgG now ε m:=fun m hm=>XQ m fun e=>iS.2.2 m hm n (by simp) e
  have ur:∀m:Nat,m∈ot→pgG I qB m=pgG now ε m:=fun m hm=>XQ m fun e=>Cw.1 (by simpa using e ▸ hm)
  have s:=JQ (by rw[aX];exact Nat.le_add_left _ _) (s.ae [6])
  have s:=((s.ae [3,0,0,4]).del 5).del 4
  rw[←tO (P':=pgG I qB) (fx:=fx) fun e' qn=>xF e'.2.pg (q1.XA e'.2 (oz qn))] at s
  have hmd:V0 L root (pgG I qB) (A+104) ((es'.eraseIdx i).map ey) fx:=by
   cases fx with
   |nil =>
    have nf:L=0:=nf.symm
    subst nf
    unfold lam at hA
    rw[ay rfl] at hA
    refine⟨?_,fun q=>by omega⟩
    unfold lam
    rw[ay rfl]
    omega
   |cons e t =>
    intro d hd
    rcases q1.rt with⟨q,_⟩|⟨_,hr⟩
    ·cases q
    ·rw[xF root hr] at hd
     rw[hd.uniq hp]
     omega
  refine zk 6 rfl (zc rfl (Zo hW hB (by omega) (fx.length+1) fx 0 x n 0 lo hi eL eR pO _ (es'.eraseIdx i) [] w qB I M h _ (vn _) w1 w3 (gm.frame (XQ 0 (by omega)) (XQ 1 (by omega))) oh (q1.frame xF) (.inl ⟨rfl,q2.era i,rfl⟩) uq (by omega) hL hmd s) ?_)
  rintro v0 h ⟨Qi,Cv,z,rfl,c1,c2,c3,c4,s,c5⟩
  refine zk 5 rfl (zC rfl aH (rfl) (zk 10 rfl (WP.ret ⟨aa,_,rfl,?_⟩)))
  refine⟨Qi,Cv,ov,z,?_,c1,q6.trans (w2.trans c2),c3,by omega,?_,?_⟩
  ·rw[nH,ho];rfl
  ·rw[nH,ho];exact s
  ·rw[uK,Zp q2.nodup he xp];exact c5.base ur
end
def oR (es:List En)(k:Ky): Option En:=if k=[] then es.getLast? else(es.filter fun e=>decide (e.1<k)).getLast?
section
variable {e2:List En}
theorem Jh : oR es []=es.getLast?:=ay rfl
theorem Ji (hk:k≠[])(h1:∀e∈eL,e.1<k)(h2:∀e∈eR,k<e.1)(hl:A6 es k i): oR (eL++es++eR) k=(eL++es.take i).getLast?:=by
 have a1:∀ {l:List En},(∀e∈l,e.1<k)→(l.filter fun e=>decide (e.1<k))=l:=fun h=>List.filter_eq_self.2 fun e he=>by simp[h e he]
 have a2:∀ {l:List En},(∀e∈l,¬ e.1<k)→(l.filter fun e=>decide (e.1<k))=[]:=fun h=>List.filter_eq_nil_iff.2 fun e he=>by simpa using h e he
 rw[oR,ai hk,lI,lI,a1 h1,a2 (l:=eR) fun e he q=>pQ q (h2 e he),fe]
 congr 2
 have hs:es=es.take i++es.drop i:=(jG i es).symm
 conv=>lhs;rw[hs]
 rw[lI,a1 (l:=es.take i) fun d hd => ?_,a2 (l:=es.drop i) fun d hd => ?_,fe]
 ·obtain⟨j,I⟩:=List.mem_iff_getElem?.1 hd
  rw[fb] at I
  exact List.not_lt.2 (hl.hi (i+j) d I (by omega))
 ·obtain⟨j,I⟩:=List.mem_iff_getElem?.1 hd
  have kg:j<i:=by have:=(List.getElem?_eq_some_iff.1 I).1;rw[cH] at this;omega
  rw[GQ kg] at I
  exact hl.lo j d I kg
theorem Ox (h:es[i]?=some e): (eL++es.take (i+1)).getLast?=some e:=by
 rw[qV,h,Option.toList_some,←dA,List.getLast?_concat]
end
section
variable {told:cE} {k:List Nat}
theorem V9 (hT:WB told)(hX:cf X (cy kv k))(hS:Sep lo hi ks)(hlen:ks.length≤512)(I:1≤l)(iA:l≤64)(s:Sat h (a_ x n l b (bP ks)::star [pt kb (.cells 1 [kv] false),X]::S)):
  Call ⟨Tryz.prog,told⟩ 75 [.ptr x 0,.ptr kb 0] h fun v h'=>∃i:Nat,v=.int .i64 (i:Int)∧((k=[]→i+1=ks.length)∧(k≠[]→Way ks k i))∧i<ks.length∧Sat h' (a_ x n l b (bP ks)::star [pt kb (.cells 1 [kv] false),X]::S):=by
 have hW:=hT.w
 have hn:0<ks.length:=by
  rcases pM ks.length with q|q
  ·exact absurd (ic q) hS.ne
  ·exact q
 have s0:=s
 have s:=cK.1 (s.ae [1])
 have s:Sat h (pt kb (.cells 1 [kv] false)::X::a_ x n l b (bP ks)::S):=s
 refine Call.of_wp (hW.free _ rfl) Tryz.func75 rfl rfl (zK 7 rfl (zy s 0 bF rfl (zo rfl (aD rfl rfl rfl (aY aK (s.aC (k:=1) rfl hX))) ?_)))
 by_cases hk:k=[]
 ·subst hk
  have s:=s0
  obtain⟨bv,cv,us,s⟩:=bh.1 s
  have w_:lenV Tryz.prog h 98 cv=some (.int .i64 (ks.length:Int)):=by
   have:=iJ (P:=Tryz.prog) aP s
   rwa [eC] at this
  refine zB rfl c8 (rfl) (zk 6 rfl (zY s 0 cN gz rfl (zo rfl (aD rfl rfl rfl w_) (zo rfl (ak (r:=.int .i64 ((ks.length-1:Nat):Int)) rfl rfl (by rw[show((ks.length-1:Nat):Int)=(ks.length:Int)-1 by omega];exact ew (aq (by omega) (by omega)))) ?_))))
  exact zk 2 rfl (WP.ret ⟨aa,_,rfl,ks.length-1,rfl,⟨fun _=>by omega,fun q=>absurd rfl q⟩,by omega,s0⟩)
 ·have rN:k.length≠0:=fun q=>hk (ic q)
  refine zC rfl c8 (decide_eq_false (by omega)) ?_
  refine zk 6 rfl (zy s 0 bF rfl (zc rfl (SV hT hX hS hlen I iA (s.ae [2,1])) ?_))
  rintro v h ⟨i,rfl,hw,s⟩
  refine zk 2 rfl (WP.ret ⟨aa,_,rfl,?_⟩)
  have s:=s.ae [2,1,0]
  have s:Sat h (star [pt kb (.cells 1 [kv] false),X]::_):=cK.2 s
  exact⟨i,rfl,⟨fun q=>absurd q hk,fun _=>hw⟩,hw.lt,s.ae [1]⟩
end
section
variable {told:cE} {k:List Nat} {A:bE→aE}
theorem acE {P:Program}{b c d:Nat}{v x:V}(I:look E a=some v)(h2:look E b=some w)(h3:look E c=some x)(h4:look E d=some y): resLE P E h [.tmp a,.tmp b,.tmp c,.tmp d]=some (.aT [v,w,x,y]):=by simp only[resLE,mapO,resE,I,h2,h3,h4]
noncomputable def lsT : Code:=eu [1,1,1,1,1,1,1] ((Tryz.f24.body).getD .skip)
theorem Jj (hT:W told)(hR:rO told N B rv A pg)(hN:N≤65536)(hL:L≤60){es':List En}(mH:gH (cS Z) P L r (fx.map (·.2)) 0 lo hi n eL eR pO)(jU:jc lo hi es')(hp:bH (P n) 204 0 0 (es'.map ey))(cA:EI N B ε)(fO:pg ε=P)(Cx:∀m∈pO,m<N)(ko:fx.length=L)(fy:i≤es'.length)(hl:oR es k=(eL++es'.take i).getLast?)
 (s:Sat h (.arr 2 w (jr (dX fx++[(x,0)]))::a_ x n 0 (P n) (es'.map ey)::nodsA P 1 fx::A ε::S))(hE:Has E [(0,rv),(10,w),(11,.ptr x 0),(12,.int .i64 (i:Int))])
 (hq:∀E' h' ag v0 v1 v2,EI N B ag→Sm N ε ag→Has E' [(6,v0),(7,v1),(8,v2),(9,.int .i64 0)]→(match oR es k with
   |none=>v0=.aR∧v1=.aR∧v2=.bool false∧Sat h' (A ag::S)
   |some e=>v2=.bool true∧Sat h' (aU v0 e.1::aU v1 e.2::A ag::S))→Q .ret E' h'): WP ⟨Tryz.prog,told⟩ 90 lsT E h Q:=by
 have cU:=hp.fits
 rw[bX] at cU
 have qd:1≤(dX fx++[(x,0)]).length:=by rw[aX];exact Nat.le_add_left _ _
 refine WP.has hE (zK 4 rfl ?_)
 by_cases h0:0<i
 ·obtain⟨j,rfl⟩:∃j,i=j+1:=⟨i-1,by omega⟩
  obtain⟨e,he⟩:∃e,es'[j]?=some e:=⟨_,aG (by omega)⟩
  rw[hl,Ox he] at hq
  refine zB rfl cV (by simp) ?_
  refine zk 6 rfl (zo rfl (ak (r:=.int .i64 (j:Int)) rfl rfl (by rw[show((j:Nat):Int)=((j+1:Nat):Int)-1 by omega];exact ew (aq (by omega) (by omega)))) ?_)
  refine zc rfl (AJ hT jU he (s.ae [1])) ?_
  rintro v h ⟨kb,vb,rfl,s⟩
  exact zk 9 rfl (WP.ret (hq _ _ ε kb vb (.bool true) cA (Sm.refl N ε) ⟨rfl,rfl,rfl,rfl,aa⟩ ⟨rfl,(((s.ae [0,0,3]).del 5).del 4).del 3⟩))
 ·obtain rfl:i=0:=by omega
  rw[hl,qZ,fe] at hq
  have s:=(JQ qd s).ae [0,1,1]
  refine zC rfl cV (by simp) ?_
  refine zk 7 rfl (zc rfl (Oo (d := -1) hT hR hN hL (.inr rfl) mH cA fO Cx ko s) ?_)
  rintro v h ⟨iQ,k1,k2,(⟨_,heL,rfl,s⟩|⟨y,m,fP,e2,Jf,fy,rfl,_,heL,k3,k4,k5,s⟩)⟩
  ·rw[heL (by decide)] at hq
   refine zk 10 rfl (zC rfl aH (rfl) (zk 2 rfl (zo rfl (ak (r:=.bool true) rfl rfl (by simp only[binV,eqV,zD,gJ])) ?_)))
   exact zk 19 rfl (WP.ret (hq _ _ iQ _ _ _ k1 k2 ⟨rfl,rfl,rfl,rfl,aa⟩ ⟨rfl,rfl,rfl,s.del 1⟩))
  ·have eZ:fP≠[]:=fun q=>by
    rw[cS,ay rfl] at k4
    exact k4 (by rw[q];rfl)
   have m8:=List.length_pos_iff.2 eZ
   obtain⟨e,he⟩:∃e,fP[fP.length-1]?=some e:=⟨_,aG (by omega)⟩
   have A5:(e2++fP).getLast?=some e:=by rw[List.getLast?_append,show fP.getLast?=some e by rw[List.getLast?_eq_getElem?,he]];rfl
   rw[heL (by decide),A5] at hq
   have s0:=s
   obtain⟨Gu,wG,Xx,s⟩:=bh.1 s
   have I:lenV Tryz.prog h 98 wG=some (.int .i64 (fP.length:Int)):=by
    have:=iJ (P:=Tryz.prog) aP s
    rwa [bX] at this
   refine zk 10 rfl (zC rfl aH (rfl) (zk 2 rfl (zo rfl (ak (r:=.bool false) rfl rfl (by simp only[binV,eqV,zD,gJ])) ?_)))
   refine zk 4 rfl (zY s 0 cN gz rfl (zo rfl (aD rfl rfl rfl I) (zC rfl c8 (decide_eq_false (by omega)) ?_)))
   refine zk 9 rfl (zY s 0 cN gz rfl (zo rfl (aD rfl rfl rfl I) (zo rfl (ak (r:=.int .i64 ((fP.length-1:Nat):Int)) rfl rfl (by rw[show((fP.length-1:Nat):Int)=(fP.length:Int)-1 by omega];exact ew (aq (by omega) (by omega)))) ?_)))
   refine zc rfl (AJ hT k3 he s0) ?_
   rintro v h ⟨kb,vb,rfl,s⟩
   exact zk 9 rfl (WP.ret (hq _ _ iQ kb vb (.bool true) k1 k2 ⟨rfl,rfl,rfl,rfl,aa⟩ ⟨rfl,(s.del 4).del 2⟩))
theorem V_ (hT:WB told)(hR:rO told N B rv A pg)(hN:N≤65536)(hL:L≤60)(hX:cf X (cy kv k))(hk:k.length≤96)(hv:Nv (cS Z) P L [] none cs es ps)(hp:bH (P r) 204 0 L cs)(cA:EI N B ε)(fO:pg ε=P)(hr:r<N)(oK:∀m∈ps,m<N)(s:Sat h (A ε::X::S)):
  Call ⟨Tryz.prog,told⟩ 24 [rv,.int .i64 (r:Int),kv] h fun v h'=>∃ag,EI N B ag∧Sm N ε ag∧match oR es k with
   |none=>v=.aT [.aR,.aR,.bool false,.int .i64 0]∧Sat h' (A ag::S)
   |some e=>∃kb vb,v=.aT [kb,vb,.bool true,.int .i64 0]∧Sat h' (aU kb e.1::aU vb e.2::A ag::S):=by
 have hW:=hT.w
 have hkv:=s.aC (k:=1) rfl hX
 refine Call.of_wp (hW.free _ rfl) Tryz.func24 rfl rfl (zg rfl (au.b_ s rfl rfl rfl (eU rfl (by simp only[hkv.cells.1,kD,lP,hkv.cells.2];rfl)) ?_))
 intro kb h s
 rw[hkv.cells.1] at s
 have s:=s.ae [0,1,0]
 refine zk 8 rfl (zy s 0 bF rfl (zo rfl (aD rfl rfl rfl (aY aK (s.aC (k:=1) rfl hX))) (zC rfl cV (decide_eq_false (by omega)) ?_)))
 have s:Sat h (star [pt kb (.cells 1 [kv] false),X]::_):=cK.2 s
 refine zk 7 rfl (zo rfl (Fz rfl rfl) (zc rfl (HZ hW hR hN (Ch:=fun ks i=>(k=[]→i+1=ks.length)∧(k≠[]→Way ks k i)) (by omega) (fun hS hlen uf iA s=>V9 hT hX hS hlen uf iA s) hv hp cA fO hr oK rfl rfl (s.ae [1])) ?_))
 rintro v h ⟨w,x,n,lo,hi,eL,eR,pO,es',fx,ep,rfl,q1,q2,q3,q4,q5,q6,q7,q8,q9,nf,s⟩
 have q7:∀f∈fx.map (·.2),(k=[]→f.i+1=f.ks.length)∧(k≠[]→Way f.ks k f.i):=fun f hf=>by
  obtain⟨e',qn,rfl⟩:=List.mem_map.1 hf
  exact q7 e' qn
 have jP:pg ep=P:=by rw[←fO];funext m;exact hR.same q6 m
 have Cx:∀m∈pO,m<N:=fun m hm=>by
  have:=q9.mem_iff.1 (gI [n] hm)
  rcases List.mem_cons.1 this with rfl|h1
  ·exact hr
  ·exact oK m h1
 have LQ:es'.length≤512:=by have:=q3.fits;rw[bX] at this;omega
 have qd:(dX fx).length=L:=by rw[dX,gh,bX,nf]
 have ko:(dX fx++[(x,0)]).length=L+1:=by rw[aX,qd];rfl
 have s:=cK.1 (s.ae [4])
 have s:=s.ae [2]
 obtain⟨id,off,e1,e2,_⟩:=tD (P:=Tryz.prog) (j:=L) (x:=x) (i:=0) eo kQ (by rw[ie (by omega),qd,gV];rfl) s
 have s0:=s.ae [0,2,2,2]
 have sx:=s.ae [3,2]
 have s:=s.ae [3]
 obtain⟨bv,cv,us,s⟩:=bh.1 s
 have w_:lenV Tryz.prog h 98 cv=some (.int .i64 (es'.length:Int)):=by
  have:=iJ (P:=Tryz.prog) aP s
  rwa [bX] at this
 have fin:∀ {E':List (Nat×V)} {h':H} {ag:bE} {v0 v1 v2:V},EI N B ag→Sm N ep ag→Has E' [(6,v0),(7,v1),(8,v2),(9,.int .i64 0)]→(match oR es k with
   |none=>v0=.aR∧v1=.aR∧v2=.bool false∧Sat h' (A ag::S)
   |some e=>v2=.bool true∧Sat h' (aU v0 e.1::aU v1 e.2::A ag::S))→∃v,resLE Tryz.prog E' h' [.tmp 6,.tmp 7,.tmp 8,.tmp 9]=some v∧∃ag,EI N B ag∧Sm N ε ag∧match oR es k with
   |none=>v=.aT [.aR,.aR,.bool false,.int .i64 0]∧Sat h' (A ag::S)
   |some e=>∃kb vb,v=.aT [kb,vb,.bool true,.int .i64 0]∧Sat h' (aU kb e.1::aU vb e.2::A ag::S):=by
  intro E' h' ag v0 v1 v2 a1 a2 ⟨b1,b2,b3,b4,_⟩ a3
  refine⟨_,acE b1 b2 b3 b4,ag,a1,q6.trans a2,?_⟩
  cases q:oR es k with
  |none=>rw[q] at a3;obtain⟨rfl,rfl,rfl,s⟩:=a3;exact⟨rfl,s⟩
  |some e=>rw[q] at a3;obtain⟨rfl,s⟩:=a3;exact⟨v0,v1,rfl,s⟩
 refine zk 10 rfl (zC rfl aH (rfl) (zk 7 rfl (zo rfl (aD rfl rfl rfl (s.fW (j:=4) (n:=L+1) rfl (by rw[j6,ko]) (by decide) eo)) ?_)))
 refine zo rfl (ak (r:=.int .i64 (L:Int)) rfl rfl (by rw[show((L:Nat):Int)=((L+1:Nat):Int)-1 by omega];exact ew (aq (by omega) (by omega)))) ?_
 refine zo rfl (bS (r:=.ptr id off) rfl rfl e1) (zf rfl (jb _ _) (zl rfl (e2 _ e_) (zk 6 rfl (zY s 0 cN gz rfl (zo rfl (aD rfl rfl rfl w_) (zk 5 rfl (zy s 5 bF rfl (zo rfl (aD rfl rfl rfl (aY aK (s.aC (k:=6) rfl hX))) ?_))))))))
 by_cases I:k=[]
 ·subst I
  have heR:eR=[]:=q1.last fun f hf=>(q7 f hf).1 rfl
  have Tu:oR es []=(eL++es'.take es'.length).getLast?:=by rw[Jh,←q8,heR,mo,fe]
  refine zC rfl cV (rfl) (zk 3 rfl ?_)
  refine Jj (i:=es'.length) hW hR hN hL q1 q2 q3 q5 jP Cx nf (aI _) Tu ((s0.del 5).del 4) ⟨rfl,rfl,rfl,rfl,aa⟩ fun E' h' ag v0 v1 v2 a1 a2 a3 a4=>⟨aa,fin a1 a2 a3 a4⟩
 ·have rN:k.length≠0:=fun q=>I (ic q)
  have M5:=q1.way fun f hf=>(q7 f hf).2 I
  obtain⟨Eb,GB⟩:=q1.side M5
  refine zB rfl cV (decide_eq_true (by omega)) ?_
  refine zk 4 rfl (zy s 5 bF rfl (zc rfl (wD hT hX q2 LQ sx) ?_))
  rintro v h ⟨i,rfl,hl,s⟩
  have Tu:oR es k=(eL++es'.take i).getLast?:=by rw[←q8];exact Ji I Eb GB hl
  have s:=s.ae [2,0,2,2]
  refine zk 5 rfl ?_
  refine Jj (i:=i) hW hR hN hL q1 q2 q3 q5 jP Cx nf hl.le Tu ((s.del 5).del 4) ⟨rfl,rfl,rfl,rfl,aa⟩ fun E' h' ag v0 v1 v2 a1 a2 a3 a4=>⟨aa,fin a1 a2 a3 a4⟩
end
structure WS (told:cE): Prop where
 w:W told
 fmt:told 32=some (qz Tryz.prog 32 (Lw 32))
section
variable {told:cE} {p:Nat} {v x uv:V} {Rt:List V} {U:List Bool} {l L:List Nat} {A:bE→aE}
theorem Qp (hT:WS told){m:Nat}(hB:B≤800)(I:EI N B ε)(hN:4≤N)(Gi:N≤2999)(hz:(pgA ε 0).length=512)(hg:cF (pgA ε 0)=false)(hd:xE K m ε)(hf:K+1068≤m)(s:Sat h (SA a p q r .b8 data aN ε::S)):
  Call ⟨Tryz.prog,told⟩ 32 [.ptr a 0] h fun v h'=>v=.int .i64 0∧∃ag,EI N (B+2) ag∧fY N (List.replicate 64 0) A8 (pgA ag)∧xE (K+1068) m ag∧Sat h' (SA a p q r .b8 data aN ag::S)∧GDn N B 1 ε ag :=
 Call.defer hT.fmt Ll rfl (S9 hB I hN Gi hz hg hd hf s)
theorem Ia (hT:WS told){m f:Nat}(hN:4≤n)(Gi:n≤2999)(hm:m≤16777216)(hf:1068≤m)(h4:1≤f)(h5:f≤1024)(s:Sat h S):
  Call ⟨Tryz.prog,told⟩ 42 [.int .i64 (n:Int),.int .i64 (m:Int),.int .i64 (f:Int)] h fun v h'=>∃p a q r ε,v=.ptr a 0∧EI n 3 ε∧fY n (List.replicate 64 0) A8 (pgA ε)∧xE 1068 m ε∧Sat h' (SA a p q r .b8 [] 0 ε::S):=by
 have I:cF (List.replicate 512 0)=false:=by decide +kernel
 refine Call.of_wp (hT.w.free _ rfl) Tryz.func42 rfl rfl (zK 9 rfl (zc rfl (PR (n:=n) (m:=m) (f:=f) hT.w s (by omega) (by omega) hm h4 h5) ?_))
 rintro v h ⟨p,a,q,r,rfl,s⟩
 have s:Sat h (SA a p q r .b8 [] 0 (fresh n m f)::S):=cK.2 s
 refine zk 10 rfl (zC rfl (Ao uj) (rfl) (zk 2 rfl (zc rfl (Qp (K:=0) (m:=m) hT (by decide) (EI.fresh (by omega) hm h4 h5) hN Gi (by rw[I9];exact gd) (by rw[I9];exact I) ⟨aI _,rfl⟩ (by omega) s) ?_)))
 rintro v h ⟨rfl,ag,uJ,hp,hd,s,_⟩
 rw[fh] at hd
 exact zC rfl aH (rfl) (zk 9 rfl (WP.ret ⟨aa,_,rfl,p,a,q,r,ag,rfl,uJ,hp,hd,s⟩))
theorem CG (I:W told)(s:Sat h (SA a p q r .b8 data aN ε::S)): Call ⟨Tryz.prog,told⟩ 13 [.ptr a 0] h fun v h'=>∃g,v=.ptr g 0∧Sat h' (GA g a p q r data aN [] ε::S):=by
 have s:=cK.1 s
 have s:Sat h (gD a p q r .b8 data aN::gn r p q ε.1::dm q p ε.2.1::bZ p ε.2.2::S):=s
 refine Call.of_wp (I.free _ rfl) Tryz.func13 rfl rfl (zK 7 rfl (zc rfl (IS I s) ?_))
 rintro v h ⟨g,rfl,s⟩
 exact zk 10 rfl (zC rfl aH (rfl) (zk 8 rfl (WP.ret ⟨aa,_,rfl,g,rfl,cK.2 s⟩)))
end
section
variable {bk tx p:Nat} {ag:bE} {e:Int} {cl:Bool}
theorem uk.or7 (hr:uk ε now kd tx 0 0 [] 0 bk e cl ag)(I:EI N B ε)(hB:B≤1000)(hw:NW N now)(hN:N≤2999)(hl:now.length≤2000)(h1:1≤kd)(h2:kd≤7)(F5:tx<16384):
  (cl=false∧e=7)∨(cl=true∧e=0∧EI N (B+2) ag∧∀m,pgA ag m=match lookL m now with|some b=>eO b bk|none=>pgA ε m):=by
 have Fw:∀n∈gC now,0≤n∧n<N:=fun n hq=>hw.keys n (uh.1 hq)
 have Qg:=I.done hB hw (by omega) (by omega) hr
 rcases Qg with⟨gy,he,_⟩|⟨gy,he,k1,k2⟩
 ·refine .inl ⟨gy,?_⟩
  rcases he with he|he
  ·exact he
  ·exfalso
   cases hr with
   |arg hh=>omega
   |dead _ _ _ hd=>rw[I.ec.dk.alive] at hd;cases hd
   |sP e c ag _ _ _ _ hc KU=>exact absurd (hc.ec I.ec I.ok Fw).2.2 KU
   |app c iQ _ _ _ _ hc KU =>
    have D4:=ER (kd:=kd) hc hw hl (by omega) F5
    grind[nU]
   |put c iQ e kC _ _ _ _ hc ha hp=>cases gy
 ·exact .inr ⟨gy,he,k1,k2⟩
theorem bH.done {i:Int}{k:Nat}(hd:∀m,pgA ag m=match lookL m now with|.some b=>eO b bk|.none=>pgA ε m)(I:bH (pgG now ε i) k link extra cs): bH (pgA ag i) k link extra cs:=by
 rw[hd]
 unfold pgG at I
 cases hq:lookL i now with
 |none=>rw[hq] at I;exact I
 |some b =>
  rw[hq] at I
  obtain⟨k1,k2,_⟩:=Ci (n:=bk) I.len
  exact I.tail k2 k1
theorem Nv.HS : ∀ {l:Nat} {lo:Ky} {hi:Option Ky} {cs:List (List Nat)} {es:List En} {ps:List Nat},Nv F P l lo hi cs es ps→(∀m∈ps,∀k x e cs,bH (P m) k x e cs→bH (P' m) k x e cs)→Nv F P' l lo hi cs es ps:=by
 intro l
 induction l with
 |zero=>intro lo hi cs es ps h _;exact h
 |succ l ih =>
  intro lo hi cs es ps ⟨ks,h1,h2,h3,h4,h5⟩ hp
  subst h4
  refine⟨ks,h1,h2,h3,rfl,fun i k hk => ?_⟩
  obtain⟨cs',a1,a2,a3⟩:=h5 i k hk
  have hm:=aM hk
  have hq:∀m∈k.pg::k.ps,∀k x e cs,bH (P m) k x e cs→bH (P' m) k x e cs:=fun m I=>hp m (List.mem_flatMap.2 ⟨k,hm,I⟩)
  exact⟨cs',ih a1 fun m I=>hq m (bA _ I),a2,hq k.pg bB _ _ _ _ a3⟩
def mP (N root:Nat)(R ot Z:List Nat)(A:Nat)(P:Int→List Nat)(es:List En): Prop:=qC N root R ot Z A A P P es
theorem zE : 374*L≤lam L cs∧486≤lam L cs+486*L:=by
 unfold lam
 split<;>omega
theorem qC.o (h:qC N root R ot Z A Lx P0 P es): mP N root R ot Z A P es:=by
 obtain⟨M,L,cs,ps,I,h2,h3,h4,h5,_⟩:=h
 have:=(zE (L:=L) (cs:=cs)).1
 exact⟨M,L,cs,ps,I,h2,h3,h4,⟨by omega,h5.2⟩,fun _ _=>rfl⟩
section
theorem mP.done (hw:NW N now)(I:∀m,pgA ag m=match lookL m now with|some b=>eO b bk|none=>pgA ε m)(h:mP N root R ot Z A (pgG now ε) es): mP N root R ot Z A (pgA ag) es:=by
 obtain⟨M,L,cs,ps,h1,h2,h3,h4,h5,_⟩:=h
 exact⟨M,L,cs,ps,h1.done hw I,h2,h3.HS fun m _ k x e cs hp=>hp.done I,h4.done I,h5,fun _ _=>rfl⟩
theorem mP.fresh (hs:fY N R M P)(I:jC N M (root::ot))(hp:bH (P root) 204 0 0 []): mP N root R ot [] 486 P [] :=
 ⟨M,0,[],[],hs,I,⟨rfl,⟨by simp,by simp,List.Pairwise.nil⟩,rfl⟩,hp,⟨by decide,by decide⟩,fun _ _=>rfl⟩
theorem mP.ok (h:mP N root R ot Z A P es): jc [] none es:=by
 obtain⟨M,L,cs,ps,h1,h2,I,h4,h5,_⟩:=h
 exact I.ok
theorem mP.rt (h:mP N root R ot Z A P es): root<N:=by
 obtain⟨M,L,cs,ps,h1,I,h3,h4,h5,_⟩:=h
 exact(I.mc root (gI _ bB)).2
theorem mP.bG {I:List Nat}(h2:jC N I ((root::ps)++ot))(h3:Nv (cS Z) P L [] none cs es ps): ps.length≤2*es.length+Z.length:=by
 exact(h3.bG (List.nodup_cons.1 (List.nodup_append.1 h2.nd).1).2).1
end
end
structure WT (told:cE): Prop extends WI told where
 fmt:told 32=some (qz Tryz.prog 32 (Lw 32))
theorem WT.ws {told:cE}(h:WT told): WS told:=⟨h.w,h.fmt⟩
section
variable {told:cE} {p:Nat}
theorem Tv (hT:W told)(hB:B≤900)(I:EI N B ε)(hw:NW N now)(hN:N≤2999)(hl:now.length≤2000)(h1:1≤kd)(h2:kd≤7)(s:Sat h (GA g a p q r data aN now ε::S)):
  Call ⟨Tryz.prog,told⟩ 18 [.ptr g 0,.agg (qc (kd:Int) 0 0 0 .aR .aR)] h fun v h'=>∃(bk:Nat),(v=.aT [.int .u64 (bk:Int),.int .i64 7])∨∃ag,v=.aT [.int .u64 (bk:Int),.int .i64 0]∧EI N (B+2) ag∧(∀m,pgA ag m=match lookL m now with|some b=>eO b bk|none=>pgA ε m)∧Sat h' (SA a p q r .b8 data aN ag::S):=by
 refine(I_ hT hB I hw s).mono ?_
 rintro v h ⟨bk,e,cl,ag,hr,rfl,s⟩
 rcases hr.or7 I (by omega) hw hN hl h1 h2 (by decide) with⟨rfl,rfl⟩|⟨rfl,rfl,k1,k2⟩
 ·exact⟨bk,.inl rfl⟩
 ·exact⟨bk,.inr ⟨ag,rfl,k1,k2,s.drop⟩⟩
noncomputable def grL : Code:=eu [1,1,1,1,1,1,0,1,0,0] ((Tryz.f12.body).getD .skip)
theorem MU (hT:W told){m0:Nat}{sv:V}(hN:nt+4≤N)(hnt:nt≤20)(hB:B≤2000): ∀(j i:Nat) (rs:List Nat) (M:List Nat) (lv:V) (ε:bE) (now:List (Int×List Nat)) (h:H) (E:List (Nat×V)) (Q:Ex→List (Nat×V)→H→Prop),i+j=nt→rs.length=i→EI N B ε→NW N now→now.length≤3*i→fY N R M (pgG now ε)→jC N M rs→(∀z∈rs,bH (pgG now ε (z:Nat)) 204 0 0 [])→xE K m0 ε →
  Sat h (.arr 1 lv (gB rs)::GA g a p q r data aN now ε::S)→Has E [(1,.int .i64 (nt:Int)),(7,sv),(8,.ptr g 0),(9,lv),(10,.int .i64 (i:Int))] →
  (∀rs M lv ε now E' h',rs.length=nt→EI N B ε→NW N now→now.length≤3*nt→fY N R M (pgG now ε)→jC N M rs→(∀z∈rs,bH (pgG now ε (z:Nat)) 204 0 0 [])→xE K m0 ε→Has E' [(7,sv),(8,.ptr g 0),(9,lv)]→Sat h' (.arr 1 lv (gB rs)::GA g a p q r data aN now ε::S)→Q (.exit 0) E' h')→WP ⟨Tryz.prog,told⟩ 49 (.loop grL) E h Q:=by
 intro j
 induction j with
 |zero =>
  intro i rs M lv ε now h E Q hi F7 cA hw pG gm I fO hdv s hE hq
  obtain rfl:i=nt:=hi
  refine WP.loop (WP.has hE (zK 5 rfl (zC rfl aO (by simp) ?_)))
  exact zk 2 rfl (WP.exit (hq rs M lv ε now _ _ F7 cA hw pG gm I fO hdv ⟨rfl,rfl,rfl,aa⟩ s))
 |succ j ih =>
  intro i rs M lv ε now h E Q hi F7 cA hw pG gm I fO hdv s hE hq
  refine WP.loop (WP.has hE (zK 5 rfl (zB rfl aO (by simp;omega) ?_)))
  refine zk 4 rfl (WP.block (zK 3 rfl (zc rfl (VA hT hB cA hw gm I (s.ae [1])) ?_)))
  rintro v h ⟨ag,aF,h1,h2,h3,h4,s,(⟨_,_,hn⟩|⟨z,M',rfl,z2,hzN,ad9,ad_,aea,hpz,EW⟩)⟩
  ·omega
  have s:=s.ae [1]
  dsimp only[aL,bringA,getA] at s
  obtain⟨iv,h1',w,Iq,e3,e4,s2⟩:=VE (k:=z) s (by omega)
  refine zk 10 rfl (zC rfl aH (rfl) (zk 6 rfl (au.any rfl rfl rfl (OpR.of (R:=fun v h'=>v=iv∧h'=h1') (ku rfl e3) ⟨rfl,rfl⟩) ?_)))
  rintro iv hA ⟨rfl,rfl⟩
  refine au.any rfl rfl rfl (OpR.of (R:=fun v h'=>v=w∧h'=Iq) (j_ rfl rfl e4) ⟨rfl,rfl⟩) ?_
  rintro w hB' ⟨rfl,rfl⟩
  refine za rfl (zv (zr rfl (zm rfl (zb rfl (by exact aQ (aq (by omega) (by omega))) ?_))))
  refine za rfl (zv ?_)
  refine ih (i+1) (rs++[z]) M' w ag aF _ _ Q (by omega) (by rw[aX,F7];rfl) h1 h3 (by omega) ad_ (aea.perm (List.perm_append_singleton _ _).symm) (fun y hy => ?_) (hdv.sm h2) s2 ⟨rfl,rfl,rfl,rfl,rfl,aa⟩ hq
  rcases List.mem_append.1 hy with hy|hy
  ·have h2y:=(I.mc y hy).1
   rw[EW y (by omega) (by have:y≠z:=fun q=>ad9 (q ▸ hy);omega)]
   exact fO y hy
  ·rw[List.mem_singleton.1 hy]
   exact hpz.f
end
section
variable {told:cE}
theorem Jk (I:WT told)(hN:nt+4≤N)(Gi:N≤2999)(hnt:nt≤20)(s:Sat h S):
  Call ⟨Tryz.prog,told⟩ 12 [.int .i64 (N:Int),.int .i64 (nt:Int)] h fun v h'=>∃p a q r lv rs M ε,v=.aT [.ptr a 0,lv,.bool true]∧rs.length=nt∧EI N 5 ε∧fY N (List.replicate 64 0) M (pgA ε)∧jC N M rs∧(∀z∈rs,bH (pgA ε (z:Nat)) 204 0 0 []) ∧
   Sat h' (.arr 1 lv (gB rs)::SA a p q r .b8 [] 0 ε::S):=by
 refine Call.of_wp (I.w.free _ rfl) Tryz.func12 rfl rfl (zK 9 rfl (zc rfl (Ia (n:=N) (m:=1048576) (f:=32) I.ws (by omega) Gi (by decide) (by decide) (by decide) (by decide) s) ?_))
 rintro v h ⟨p,a,q,r,ε,rfl,cA,hp,hd,s⟩
 refine zk 6 rfl (zC rfl (Ao uj) (rfl) (zk 6 rfl (zc rfl (CG I.w s) ?_)))
 rintro v h ⟨g,rfl,s⟩
 refine zk 6 rfl (zC rfl (Ao jT) (rfl) ?_)
 have s:=s.mJ (k:=1)
 generalize hR:List.replicate 64 0=R at hp ⊢
 refine zk 12 rfl (WP.block ?_)
 have ht0:jC N A8 []:=⟨vu,by simp,fun j _=>by rw[S8];simp⟩
 refine MU I.w hN hnt (by decide) nt 0 [] A8 .aR ε [] _ _ _ (by omega) rfl cA (NW.nil N) (by simp) hp ht0 (by simp) hd s ⟨rfl,rfl,rfl,rfl,rfl,aa⟩ (fun rs M lv ep now E' h' k1 k2 k3 k4 k5 k6 k7 A3 hE s' => ?_)
 have s:=s'.ae [1]
 refine WP.has hE (zK 3 rfl (zo rfl (cQ rfl (AE (kd:=1))) (zc rfl (Ja (kd:=1) (L:=3*nt) I.w (by decide) k2 k3 k4 Gi (by omega) (by decide) (by decide) A3 (by omega) s) ?_)))
 rintro v h ⟨bk,iQ,rfl,q1,q2,q3,s,_⟩
 refine zk 11 rfl (zB rfl c8 (by decide) ?_)
 exact zk 4 rfl (WP.ret ⟨aa,_,rfl,p,a,q,r,lv,rs,M,iQ,rfl,k1,q1,k5.done k3 q2,k6,fun z hz=>(k7 z hz).done q2,(s.del 0).ae [1,0]⟩)
end
section
variable {told:cE} {p:Nat} {b:Nat}
theorem mQ {l:List Nat}(h:l[i]?=some n): (gB l)[i]?=some (.int .i64 (n:Int)):=by rw[gB,jW,h];rfl
theorem EX (s:Sat h S)(hb:b<256): ∃v I h2,buildSliceV Tryz.prog h 29 1 [(0,.int .u8 (b:Int))]=some (v,I)∧convV Tryz.prog I 29 29 v=none∧convB Tryz.prog I 29 29 v=some (v,h2)∧Sat h2 (.cg v [b]::S):=by
 have s1:=s.new (.cells 1 [.int .u8 (b:Int)] false)
 have hg:=s1.row (k:=0) rfl
 refine⟨_,_,(h.new (.cells 1 [.int .u8 (b:Int)] false)).put h.next (some (.cells 1 (ofBytes [b]) true)),VG (P:=Tryz.prog) (u:=.int .u8 (b:Int)) aK zt5 sz5 rfl rfl rfl,?_,?_,?_⟩
 ·simp only[convV,aK]
 ·simp only[convB,aK,Tryz.underlying5,hg]
  rfl
 ·have s2:Sat _ (pt h.next (.cells 1 (ofBytes [b]) true)::S):=s1.put (k:=0) rfl
  exact s2.freeze.dQ fun m r hm=>⟨by simpa using hb,.inr ⟨h.next,0,.exact 1,1,_,true,rfl,hm,rfl,aI _,rfl,aI _⟩⟩
theorem L2 (hT:WI told)(hB:B≤2000)(hN:N≤2999)(I:EI N B ε)(hw:NW N now){val:Ky}(ht:mP N root R ot Z A (pgG now ε) es)(hA:A≤22000)(hX:cf X (cy kv k))(hY:cf Y (cy vv val))(hk:1≤k.length∧k.length≤96)(Lm:val.length≤128)
 (s:Sat h (GA g a p q r data aN now ε::X::Y::S)):
  Call ⟨Tryz.prog,told⟩ 14 [.ptr g 0,.int .i64 (root:Int),kv,vv] h fun v h'=>∃ag aF,EI N B ag∧Sm N ε ag∧NW N aF∧aF.length≤now.length+400∧((v=.aT [.aR,.bool false,.int .i64 7]∧N≤2*es.length+Z.length+ot.length+A/374+4∧Sat h' (GA g a p q r data aN aF ag::X::Y::S)) ∨
   (∃ov,v=.aT [ov,.bool (fI es k).isSome,.int .i64 0]∧Sat h' (GA g a p q r data aN aF ag::xW ov (fI es k)::X::Y::S)∧mP N root R ot Z (A+104) (pgG aF ag) (qR es k val))):=by
 obtain⟨M,L,cs,ps,h1,h2,h3,h4,h5,_⟩:=ht
 have hpn:=mP.bG h2 h3
 have hL:=(zE (L:=L) (cs:=cs)).1
 refine(Zf (L:=L) (cs:=cs) (ps:=ps) hT hB hN I hw h1 h2 h3 h4 (by omega) h5.2 hX hY hk Lm s).mono ?_
 rintro v h ⟨ag,aF,k1,k2,k3,k4,(⟨e1,e2,e3⟩|⟨ov,e1,e2,e3⟩)⟩
 ·refine⟨ag,aF,k1,k2,k3,by omega,.inl ⟨e1,?_,e3⟩⟩
  simp only[aX,bq] at e2
  omega
 ·exact⟨ag,aF,k1,k2,k3,by omega,.inr ⟨ov,e1,e2,e3.o⟩⟩
theorem Tw (hT:WB told)(hB:B≤2000)(hN:N≤2999)(I:EI N B ε)(hw:NW N now)(ht:mP N root R ot Z A (pgG now ε) es)(hA:A≤22000)(hX:cf X (cy kv k))(hk:1≤k.length∧k.length≤96)
 (s:Sat h (GA g a p q r data aN now ε::X::S)):
  Call ⟨Tryz.prog,told⟩ 21 [.ptr g 0,.int .i64 (root:Int),kv] h fun v h'=>∃ag aF ov z,v=.aT [ov,.bool (fI es k).isSome,.int .i64 0]∧EI N B ag∧Sm N ε ag∧NW N aF∧aF.length≤now.length+400∧Sat h' (GA g a p q r data aN aF ag::xW ov (fI es k)::X::S)∧mP N root R ot (z::Z) (A+104) (pgG aF ag) (lu es k):=by
 obtain⟨M,L,cs,ps,h1,h2,h3,h4,h5,_⟩:=ht
 have hL:=(zE (L:=L) (cs:=cs)).1
 refine(V8 (L:=L) (cs:=cs) (ps:=ps) hT hB hN I hw h1 h2 h3 h4 (by omega) h5.2 hX hk s).mono ?_
 rintro v h ⟨ag,aF,ov,z,rfl,k1,k2,k3,k4,s,e⟩
 exact⟨ag,aF,ov,z,rfl,k1,k2,k3,by omega,s,e.o⟩
theorem Wa (hT:WB told)(hR:rO told N B rv A0 pg)(hN:N≤2999)(I:EI N B ε)(ht:mP N root R ot Z A (pg ε) es)(hA:A≤22000)(hX:cf X (cy kv k))(hk:1≤k.length∧k.length≤96)
 (s:Sat h (A0 ε::X::S)):
  Call ⟨Tryz.prog,told⟩ 17 [rv,.int .i64 (root:Int),kv] h fun v h'=>∃ag,EI N B ag∧Sm N ε ag∧match fI es k with
   |none=>v=.aT [.aR,.bool false,.int .i64 0]∧Sat h' (A0 ag::X::S)
   |some val=>∃bv,v=.aT [bv,.bool true,.int .i64 0]∧Sat h' (aU bv val::A0 ag::X::S):=by
 have hr:=ht.rt
 obtain⟨M,L,cs,ps,h1,h2,h3,h4,h5,_⟩:=ht
 have hL:=(zE (L:=L) (cs:=cs)).1
 exact Za hT hR (by omega) (by omega) hX hk h3 h4 I rfl hr (fun m hm=>(h2.mc m (gI _ (bA _ hm))).2) s
theorem Tx (hT:WB told)(hR:rO told N B rv A0 pg)(hN:N≤2999)(I:EI N B ε)(ht:mP N root R ot Z A (pg ε) es)(hA:A≤22000)(hX:cf X (cy kv k))(hk:k.length≤96)
 (s:Sat h (A0 ε::X::S)):
  Call ⟨Tryz.prog,told⟩ 16 [rv,.int .i64 (root:Int),kv] h fun v h'=>∃ag,EI N B ag∧Sm N ε ag∧match og es k with
   |none=>v=.aT [.aR,.aR,.bool false,.int .i64 0]∧Sat h' (A0 ag::S)
   |some e=>∃kb vb,v=.aT [kb,vb,.bool true,.int .i64 0]∧Sat h' (aU kb e.1::aU vb e.2::A0 ag::S):=by
 have hr:=ht.rt
 obtain⟨M,L,cs,ps,h1,h2,h3,h4,h5,_⟩:=ht
 have hL:=(zE (L:=L) (cs:=cs)).1
 exact VQ hT hR (by omega) (by omega) hX hk h3 h4 I rfl hr (fun m hm=>(h2.mc m (gI _ (bA _ hm))).2) s
theorem Jl (hT:WB told)(hR:rO told N B rv A0 pg)(hN:N≤2999)(I:EI N B ε)(ht:mP N root R ot Z A (pg ε) es)(hA:A≤22000)(hX:cf X (cy kv k))(hk:k.length≤96)
 (s:Sat h (A0 ε::X::S)):
  Call ⟨Tryz.prog,told⟩ 24 [rv,.int .i64 (root:Int),kv] h fun v h'=>∃ag,EI N B ag∧Sm N ε ag∧match oR es k with
   |none=>v=.aT [.aR,.aR,.bool false,.int .i64 0]∧Sat h' (A0 ag::S)
   |some e=>∃kb vb,v=.aT [kb,vb,.bool true,.int .i64 0]∧Sat h' (aU kb e.1::aU vb e.2::A0 ag::S):=by
 have hr:=ht.rt
 obtain⟨M,L,cs,ps,h1,h2,h3,h4,h5,_⟩:=ht
 have hL:=(zE (L:=L) (cs:=cs)).1
 exact V_ hT hR (by omega) (by omega) hX hk h3 h4 I rfl hr (fun m hm=>(h2.mc m (gI _ (bA _ hm))).2) s
theorem Qq (I:WT told)(s:Sat h S): Call ⟨Tryz.prog,told⟩ 11 [] h fun v h'=>v=.bool true∧Sat h' S:=by
 refine Call.of_wp (I.w.free _ rfl) Tryz.func11 rfl rfl (zK 6 rfl (zc rfl (Jk (N:=16) (nt:=1) I (by decide) (by decide) (by decide) s) ?_))
 rintro v h ⟨p,a,q,r,lw,rs,M,ε,rfl,F7,cA,gm,wH,fO,s⟩
 obtain⟨root,rfl⟩:∃z,rs=[z]:=List.length_eq_one_iff.1 F7
 generalize List.replicate 64 0=R at gm
 have ht:mP 16 root R [] [] 486 (pgA ε) []:=mP.fresh gm wH (fO root bB)
 have s:=s.ae [1]
 refine zk 12 rfl (zo rfl (dZ rfl rfl) (zk 6 rfl (zc rfl (CG I.w s) ?_)))
 rintro v h ⟨g,rfl,s⟩
 have s:=s.ae [1]
 obtain⟨id,off,e1,e2⟩:=jL (P:=Tryz.prog) s (k:=0) (i:=0) rfl (mQ (n:=root) rfl) gP nY
 refine zk 6 rfl (zC rfl (Ao jT) (rfl) (zk 7 rfl (zo rfl (bS (r:=.ptr id off) rfl rfl e1) (zl rfl (e2 _ b9) ?_))))
 obtain⟨kv,h1,h2,e3,e4,e5,s2⟩:=EX (b:=98) s (by decide)
 refine au.any rfl rfl rfl (OpR.of (R:=fun v h'=>v=kv∧h'=h1) (ku rfl e3) ⟨rfl,rfl⟩) ?_
 rintro kv hA ⟨rfl,rfl⟩
 refine au.any rfl rfl rfl (OpR.of (R:=fun v h'=>v=kv∧h'=h2) (y7 rfl e4 e5) ⟨rfl,rfl⟩) ?_
 rintro kv h ⟨rfl,rfl⟩
 obtain⟨vv,h1,h2,e3,e4,e5,s3⟩:=EX (b:=49) s2 (by decide)
 refine au.any rfl rfl rfl (OpR.of (R:=fun v h'=>v=vv∧h'=h1) (ku rfl e3) ⟨rfl,rfl⟩) ?_
 rintro vv hA ⟨rfl,rfl⟩
 refine au.any rfl rfl rfl (OpR.of (R:=fun v h'=>v=vv∧h'=h2) (y7 rfl e4 e5) ⟨rfl,rfl⟩) ?_
 rintro vv h ⟨rfl,rfl⟩
 have s:=s3.ae [3,1,0]
 refine zc rfl (L2 (now:=[]) (B:=5) I.toWI (by decide) (by decide) cA (NW.nil 16) ht (by decide) (bj _ _) (bj _ _) (by decide) (by decide) s) ?_
 rintro v h ⟨ag,aF,k1,k2,k3,k4,(⟨_,yA,_⟩|⟨ov,rfl,s,htE⟩)⟩
 ·simp at yA
 have s:=(s.del 1).ae [3]
 obtain⟨id,off,e1,e2⟩:=jL (P:=Tryz.prog) s (k:=0) (i:=0) rfl (mQ (n:=root) rfl) gP nY
 refine zk 11 rfl (zo rfl (mI rfl (mki_of jT rfl)) (zm rfl (zo rfl (bS (r:=.ptr id off) rfl rfl e1) (zl rfl (e2 _ b9) ?_))))
 obtain⟨kw,h1,h2,e3,e4,e5,s2⟩:=EX (b:=98) s (by decide)
 refine au.any rfl rfl rfl (OpR.of (R:=fun v h'=>v=kw∧h'=h1) (ku rfl e3) ⟨rfl,rfl⟩) ?_
 rintro kw hA ⟨rfl,rfl⟩
 refine au.any rfl rfl rfl (OpR.of (R:=fun v h'=>v=kw∧h'=h2) (y7 rfl e4 e5) ⟨rfl,rfl⟩) ?_
 rintro kw h ⟨rfl,rfl⟩
 have s:=s2.ae [2,0]
 refine zc rfl (Wa I.toWB (EH I.w (by decide) k3) (by decide) k1 htE (by decide) (bj _ _) (by decide) s) ?_
 rintro v h ⟨iQ,q1,q2,q3⟩
 have hg:fI (qR [] [98] [49]) [98]=some [49]:=by decide
 rw[hg] at q3
 obtain⟨bv,rfl,s⟩:=q3
 exact zk 11 rfl (zB rfl c8 (rfl) (zk 2 rfl (zo rfl (dZ rfl rfl) (zk 3 rfl (zB rfl c8 (rfl) (zk 6 rfl (zo rfl (cL rfl (Cf (s.aC (k:=0) rfl (aZ _ _)))) (zB rfl FH (rfl) (zk 3 rfl (WP.ret ⟨aa,_,rfl,rfl,s.drop.drop.drop.drop.drop.drop⟩))))))))))
end
section
variable {told:cE} {gv:V} {k val:List Nat}
theorem L3 (hT:W told)(hX:cf X (cy kv k))(hY:cf Y (cy vv val))(I:(1≤k.length∧k.length≤96)→128<val.length)(s:Sat h (X::Y::S)):
  Call ⟨Tryz.prog,told⟩ 14 [gv,rv,kv,vv] h fun v h'=>v=.aT [.aR,.bool false,.int .i64 1]∧h'=h:=by
 refine Call.of_wp (hT.free _ rfl) Tryz.func14 rfl rfl (zK 10 rfl (zc rfl (wE hT s hX) ?_))
 rintro v h' ⟨rfl,rfl⟩
 by_cases hk:1≤k.length∧k.length≤96
 ·rw[dB hk]
  refine zh rfl (dZ rfl rfl) (rfl) (zk 2 rfl (zo rfl (aD rfl rfl rfl (aY aK (s.aC (k:=1) rfl hY))) (zB rfl cV (decide_eq_true (by have:=I hk;omega)) ?_)))
  exact zk 9 rfl (WP.ret ⟨aa,_,rfl,rfl,rfl⟩)
 ·rw[er hk]
  exact zt rfl (dZ rfl rfl) (rfl) (zk 13 rfl (WP.ret ⟨aa,_,rfl,rfl,rfl⟩))
theorem Ty (hT:W told)(hX:cf X (cy kv k))(I:¬(1≤k.length∧k.length≤96))(s:Sat h (X::S)):
  Call ⟨Tryz.prog,told⟩ 21 [gv,rv,kv] h fun v h'=>v=.aT [.aR,.bool false,.int .i64 1]∧h'=h:=by
 refine Call.of_wp (hT.free _ rfl) Tryz.func21 rfl rfl (zK 10 rfl (zc rfl (wE hT s hX) ?_))
 rintro v h' ⟨rfl,rfl⟩
 rw[er I]
 exact zt rfl (dZ rfl rfl) (rfl) (zk 8 rfl (WP.ret ⟨aa,_,rfl,rfl,rfl⟩))
end
theorem XR {P:Program}{x y:Operand}{b:Bool}(hu:P.underlying t=some .bool): binV P h .eql t x y (.bool b) (.bool b)=some (.bool true):=by simp only[binV,eqV,hu,beq_self_eq_true,gJ]
structure zG where
 act:Int
 tree:Int
 k:List Nat
 v:List Nat
variable {D:zG}
section
variable {told:cE} {p p7:Nat} {bad:Bool}
def StP (N B root g a p q r aN A:Nat)(data R ot Z:List Nat)(ε:bE)(now:List (Int×List Nat))(es:List En)(D:zG)(S:List aE)(v:V)(h':H): Prop:=∃ag aF v' es' I A',v=.aT [v',.bool true]∧EI N B ag∧Sm N ε ag∧NW N aF∧aF.length≤now.length+400∧es'.length≤es.length+1∧I.length≤Z.length+1∧A'≤A+104∧(∀d∈es',d∈es∨d.1=D.k)∧mP N root R ot I A' (pgG aF ag) es'∧Sat h' (GA g a p q r data aN aF ag::.arr 2 v' (dL es')::S)
theorem Tz {o:Option (List Nat)}{ov:V}(s:Sat h (xW ov o::S)): Sat h (aU ov (o.getD [])::S):=by
 cases o with
 |none =>
  obtain⟨rfl,s1⟩:=r8.1 s
  exact s1.t_
 |some l=>exact s
theorem Wb {v:Ky}{d:En}(h:d∈qR es k v): d∈es∨d=(k,v):=by
 unfold qR at h
 rcases List.mem_append.1 h with h|h
 ·exact .inl (List.mem_filter.1 h).1
 ·rcases List.mem_cons.1 h with h|h
  ·exact .inr h
  ·exact .inl (List.mem_filter.1 h).1
noncomputable def stB : Code:=eu [1,1,0] ((Tryz.f23.body).getD .skip)
theorem CH (hT:WI told)(hB:B≤2000)(hN:N≤2999)(cA:EI N B ε)(hw:NW N now)(ht:mP N root R ot Z A (pgG now ε) es)(hA:A≤22000)(AR:es.length≤300)(nh:2*es.length+Z.length+ot.length+A/374+4<N)(L4:D.act≤5)(I:bad = !decide (1≤D.k.length∧D.k.length≤96))
 (s:Sat h (pt p7 (.cells 4 [.int .i64 D.act,.int .i64 D.tree,kv,vv] false)::GA g a p q r data aN now ε::.cg kv D.k::.cg vv D.v::.arr 2 lv (dL es)::S))(hE:Has E [(0,.ptr g 0),(1,.int .i64 (root:Int)),(2,lv),(7,.ptr p7 0),(10,.bool bad)])
 (hq:∀E' h' v',Has E' [(8,v'),(9,.bool true)]→StP N B root g a p q r aN A data R ot Z ε now es D S (.aT [v',.bool true]) h'→Q .ret E' h'): WP ⟨Tryz.prog,told⟩ 251 stB E h Q:=by
 have hW:=hT.w
 have jU:=ht.ok
 have uV:∀ {h:H},Sat h (GA g a p q r data aN now ε::.arr 2 lv (dL es)::S)→StP N B root g a p q r aN A data R ot Z ε now es D S (.aT [lv,.bool true]) h:=fun s=>⟨ε,now,lv,es,Z,A,rfl,cA,Sm.refl N ε,hw,by omega,by omega,by omega,by omega,fun d hd=>.inl hd,ht,s⟩
 have sb:Sat h (GA g a p q r data aN now ε::.arr 2 lv (dL es)::S):=(((s.ae [1,3]).del 4).del 3).del 2
 refine WP.has hE (WP.block (zg rfl (zY s 0 FI b9 rfl ?_)))
 by_cases h3:D.act≤3
 ·skip
  refine zB rfl r9 (decide_eq_true h3) (zk 7 rfl (zY s 0 yI bF rfl (zY s 0 FJ bF rfl ?_)))
  by_cases hk:1≤D.k.length∧D.k.length≤96
  ·rw[dB hk] at I
   subst I
   by_cases hv:128<D.v.length
   ·skip
    refine zc rfl (L3 hW (bj _ _) (bj _ _) (fun _=>hv) (s.ae [2,2])) ?_
    rintro v h' ⟨rfl,rfl⟩
    refine zk 13 rfl (zY s 0 FJ bF rfl (zo rfl (aD rfl rfl rfl (aY aK (s.aC (k:=3) rfl (bj _ _)))) (zB rfl cV (decide_eq_true (by omega)) ?_)))
    exact zk 7 rfl (zB rfl c8 (rfl) (zk 2 rfl (zo rfl (dZ rfl rfl) (zk 3 rfl (zo rfl (aD rfl rfl rfl (Eo rfl aK)) (zB rfl c8 (rfl) (zk 4 rfl (WP.ret (hq _ _ lv ⟨rfl,rfl,aa⟩ (uV sb))))))))))
   ·skip
    refine zc rfl (L2 hT hB hN cA hw ht hA (bj _ _) (bj _ _) hk (by omega) (s.ae [1,1,1])) ?_
    rintro v h ⟨ag,aF,k1,k2,k3,k4,(⟨_,yA,_⟩|⟨ov,rfl,s,TA⟩)⟩
    ·omega
    have s:=Tz (s.ae [1])
    have s:=s.ae [5]
    refine zk 13 rfl (zY s 5 FJ bF rfl (zo rfl (aD rfl rfl rfl (aY aK (s.aC (k:=4) rfl (bj _ _)))) (zC rfl cV (decide_eq_false (by omega)) ?_)))
    refine zk 7 rfl (zY s 5 yI bF rfl (zo rfl (cL rfl (Cf (s.aC (k:=3) rfl (bj _ _)))) (zY s 5 FJ bF rfl (zo rfl (cL rfl (Cf (s.aC (k:=4) rfl (bj _ _)))) (zc rfl (Zh hW jU.kK AR s) ?_)))))
    rintro v h ⟨v',rfl,s⟩
    refine zk 9 rfl (WP.drawn [af,af,af,af,af,af,af,af,af,af,af,af,af,af,af,af] rfl (by kernel_rfl) (by kernel_rfl) ?_)
    refine zM rfl (zM rfl (aB.uH rfl rfl rfl rfl (ak rfl rfl c8) (rfl) (zM rfl (zM rfl (zM rfl (zO rfl (ak rfl rfl (XR BX)) (zO rfl (mw rfl rfl) (zM rfl (zM rfl (aB.op rfl rfl rfl (by simp only[isEff,o7]) (cL rfl (Cf (s.aC (k:=1) rfl (aZ _ _)))) ?_))))))))))
    refine zM rfl (aB.uH rfl rfl rfl rfl (ak rfl rfl FH) (decide_eq_true rfl) (zO rfl (mw rfl rfl) (zA rfl (zA rfl ?_))))
    refine aB.nil ⟨⟨aa,aa,aa,aa,aa,aa,aa,aa,aa,aa,aa,aa,aa,aa,aa,aa,aa⟩,?_⟩
    refine WP.ret ?_
    have hlen:=VN (es:=es) (k:=D.k) (val:=D.v)
    exact hq _ _ v' ⟨rfl,rfl,aa⟩ ⟨ag,aF,v',qR es D.k D.v,Z,A+104,rfl,k1,k2,k3,k4,hlen,by omega,by omega,fun d hd=>(Wb hd).imp_right fun e=>by rw[e],TA,((((s.ae [2,0]).del 5).del 4).del 3).del 2⟩
  ·rw[er hk] at I
   subst I
   refine zc rfl (L3 hW (bj _ _) (bj _ _) (fun q=>absurd q hk) (s.ae [2,2])) ?_
   rintro v h' ⟨rfl,rfl⟩
   exact zk 24 rfl (zB rfl c8 (rfl) (zk 2 rfl (zo rfl (dZ rfl rfl) (zk 3 rfl (zo rfl (aD rfl rfl rfl (Eo rfl aK)) (zB rfl c8 (rfl) (zk 4 rfl (WP.ret (hq _ _ lv ⟨rfl,rfl,aa⟩ (uV sb))))))))))
 ·skip
  refine zC rfl r9 (decide_eq_false h3) (zk 5 rfl (zY s 0 FI b9 rfl (zB rfl r9 (decide_eq_true L4) (zk 7 rfl (zY s 0 yI bF rfl ?_)))))
  by_cases hk:1≤D.k.length∧D.k.length≤96
  ·rw[dB hk] at I
   subst I
   refine zc rfl (Tw hT.toWB hB hN cA hw ht hA (bj _ _) hk (s.ae [1,1])) ?_
   rintro v h ⟨ag,aF,ov,z,rfl,k1,k2,k3,k4,s,TA⟩
   have s:=Tz (s.ae [1])
   have s:=s.ae [5]
   refine zk 18 rfl (zY s 4 yI bF rfl (zo rfl (cL rfl (Cf (s.aC (k:=3) rfl (bj _ _)))) (zc rfl (LU hW jU.nodup (by omega) s) ?_)))
   rintro v h ⟨v',rfl,s⟩
   refine zk 9 rfl (WP.drawn [af,af,af,af,af,af,af,af,af,af,af,af,af,af,af,af] rfl (by kernel_rfl) (by kernel_rfl) ?_)
   refine zM rfl (zM rfl (aB.uH rfl rfl rfl rfl (ak rfl rfl c8) (rfl) (zM rfl (zM rfl (zM rfl (zO rfl (ak rfl rfl (XR BX)) (zO rfl (mw rfl rfl) (zM rfl (zM rfl (aB.op rfl rfl rfl (by simp only[isEff,o7]) (cL rfl (Cf (s.aC (k:=2) rfl (aZ _ _)))) ?_))))))))))
   refine zM rfl (aB.uH rfl rfl rfl rfl (ak rfl rfl FH) (decide_eq_true rfl) (zO rfl (mw rfl rfl) (zA rfl (zA rfl ?_))))
   refine aB.nil ⟨⟨aa,aa,aa,aa,aa,aa,aa,aa,aa,aa,aa,aa,aa,aa,aa,aa,aa⟩,?_⟩
   refine WP.ret ?_
   have hlen:(lu es D.k).length≤es.length:=ya _ _
   exact hq _ _ v' ⟨rfl,rfl,aa⟩ ⟨ag,aF,v',lu es D.k,z::Z,A+104,rfl,k1,k2,k3,k4,by omega,by rw[bq];omega,by omega,fun d hd=>.inl (List.mem_filter.1 hd).1,TA,(((((s.ae [3,0]).del 6).del 5).del 4).del 3).del 2⟩
  ·rw[er hk] at I
   subst I
   refine zc rfl (Ty hW (bj _ _) hk (s.ae [2])) ?_
   rintro v h' ⟨rfl,rfl⟩
   exact zk 18 rfl (zB rfl c8 (rfl) (zk 2 rfl (zo rfl (dZ rfl rfl) (zk 3 rfl (zo rfl (aD rfl rfl rfl (Eo rfl aK)) (zB rfl c8 (rfl) (zk 4 rfl (WP.ret (hq _ _ lv ⟨rfl,rfl,aa⟩ (uV sb))))))))))
theorem Wc (hT:WI told)(hB:B≤2000)(hN:N≤2999)(cA:EI N B ε)(hw:NW N now)(ht:mP N root R ot Z A (pgG now ε) es)(hA:A≤22000)(AR:es.length≤300)(nh:2*es.length+Z.length+ot.length+A/374+4<N)(L4:D.act≤5)
 (s:Sat h (GA g a p q r data aN now ε::.cg kv D.k::.cg vv D.v::.arr 2 lv (dL es)::S)):
  Call ⟨Tryz.prog,told⟩ 23 [.ptr g 0,.int .i64 (root:Int),lv,.agg [.int .i64 D.act,.int .i64 D.tree,kv,vv]] h (StP N B root g a p q r aN A data R ot Z ε now es D S):=by
 have sS:=(s.aC (k:=1) rfl (bj _ _)).cells
 have A9:=(s.aC (k:=2) rfl (bj _ _)).cells
 have eD:[V.int .i64 D.act,.int .i64 D.tree,kv,vv].all storable=true:=by simp only[kD,lP,sS.2,A9.2];rfl
 refine Call.of_wp (hT.w.free _ rfl) Tryz.func23 rfl rfl (zg rfl (au.b_ s rfl rfl rfl (eU rfl eD) ?_))
 intro p7 h s
 refine zk 5 rfl (zY s 0 yI bF rfl (zo rfl (aD rfl rfl rfl (aY aK (s.aC (k:=2) rfl (bj _ _)))) ?_))
 by_cases q1:D.k.length<1
 ·skip
  refine zB rfl aO (decide_eq_true (by omega)) ?_
  refine zk 9 rfl ?_
  refine CH (bad:=true) hT hB hN cA hw ht hA AR nh L4 (by rw[er (by omega)];rfl) s ⟨rfl,rfl,rfl,rfl,rfl,aa⟩ fun E' h' v' I hs=>⟨aa,_,wu I.1 I.2.1,hs⟩
 ·skip
  refine zC rfl aO (decide_eq_false (by omega)) ?_
  refine zm rfl (zY s 0 yI bF rfl (zo rfl (aD rfl rfl rfl (aY aK (s.aC (k:=2) rfl (bj _ _)))) ?_))
  by_cases q2:96<D.k.length
  ·skip
   refine zB rfl cV (decide_eq_true (by omega)) ?_
   refine zk 4 rfl ?_
   refine CH (bad:=true) hT hB hN cA hw ht hA AR nh L4 (by rw[er (by omega)];rfl) s ⟨rfl,rfl,rfl,rfl,rfl,aa⟩ fun E' h' v' I hs=>⟨aa,_,wu I.1 I.2.1,hs⟩
  ·skip
   refine zC rfl cV (decide_eq_false (by omega)) ?_
   refine zk 4 rfl ?_
   refine CH (bad:=false) hT hB hN cA hw ht hA AR nh L4 (by rw[dB (by omega)];rfl) s ⟨rfl,rfl,rfl,rfl,rfl,aa⟩ fun E' h' v' I hs=>⟨aa,_,wu I.1 I.2.1,hs⟩
end
def qE : List V→List zG→aE
 |[],[]=>.pu True
 |a::b::c::d::l,D::m=>.an (.an (.pu (a=.int .i64 D.act∧b=.int .i64 D.tree)) (.an (.cg c D.k) (.cg d D.v))) (qE l m)
 |_,_=>.pu False
theorem aJ.qE : ∀(m:List zG) (l:List V),aJ (Am.qE l m):=by
 intro m
 induction m with
 |nil=>intro l;cases l with
  |nil=>exact aJ.pu _
  |cons a t=>rcases t with _|⟨b,_|⟨c,_|⟨d,t⟩⟩⟩<;>exact aJ.pu _
 |cons D m I =>
  intro l
  rcases l with _|⟨a,_|⟨b,_|⟨c,_|⟨d,l⟩⟩⟩⟩
  ·exact aJ.pu _
  ·exact aJ.pu _
  ·exact aJ.pu _
  ·exact aJ.pu _
  ·exact aJ.an (aJ.an (aJ.pu _) (aJ.an (aJ.cg _ _) (aJ.cg _ _))) (I l)
theorem Ib {a b:PM}: ∀ {m:List zG} {l:List V},(qE l m).p a b→l.length=m.length*4:=by
 intro m
 induction m with
 |nil =>
  intro l h
  rcases l with _|⟨a,_|⟨b,_|⟨c,_|⟨d,l⟩⟩⟩⟩
  ·rfl
  all_goals exact h.elim
 |cons D m I =>
  intro l h
  rcases l with _|⟨a,_|⟨b,_|⟨c,_|⟨d,l⟩⟩⟩⟩
  ·exact h.elim
  ·exact h.elim
  ·exact h.elim
  ·exact h.elim
  ·have:=I h.2
   simp only[bq]
   omega
theorem Oy {a b:PM}: ∀ {m:List zG} {l:List V} {i:Nat} {D:zG},(qE l m).p a b→m[i]?=some D→∃kv vv,(l.drop (i*4)).take 4=[.int .i64 D.act,.int .i64 D.tree,kv,vv]∧(aE.cg kv D.k).p a b∧(aE.cg vv D.v).p a b:=by
 intro m
 induction m with
 |nil=>intro l i D h hi;simp at hi
 |cons D' m I =>
  intro l i D h hi
  rcases l with _|⟨x,_|⟨y,_|⟨c,_|⟨d,l⟩⟩⟩⟩
  ·exact h.elim
  ·exact h.elim
  ·exact h.elim
  ·exact h.elim
  ·cases i with
   |zero =>
    simp only[jE,aA] at hi
    subst hi
    obtain⟨⟨⟨rfl,rfl⟩,h2,h3⟩,_⟩:=h
    exact⟨c,d,rfl,h2,h3⟩
   |succ i =>
    obtain⟨kv,vv,e,k⟩:=I h.2 (by simpa using hi)
    refine⟨kv,vv,?_,k⟩
    rw[show(i+1)*4=4+i*4 by omega,←vt]
    exact e
theorem abq {cs:List V}{L:List zG}(s:Sat h (qE cs L::S))(hi:L[i]?=some D): ∃kv vv,(cs.drop (i*4)).take 4=[.int .i64 D.act,.int .i64 D.tree,kv,vv]∧Sat h (.cg kv D.k::.cg vv D.v::qE cs L::S):=by
 obtain⟨m,r,_,_,h3⟩:=s.at (k:=0) rfl
 obtain⟨kv,vv,e,_⟩:=Oy h3 hi
 refine⟨kv,vv,e,?_⟩
 have key:∀m r,(qE cs L).p m r→(aE.cg kv D.k).p m r∧(aE.cg vv D.v).p m r:=fun m r hm=>by
  obtain⟨kv',vv',I,k⟩:=Oy hm hi
  rw[e] at I
  injection I with _ I
  injection I with _ I
  injection I with e1 I
  injection I with e2 _
  rw[e1,e2]
  exact k
 have s1:=(s.dup (aJ.qE _ _)).dQ (B:=.cg vv D.v) fun m r hm=>(key m r hm).2
 have s2:=((s1.ae [1]).dup (aJ.qE _ _)).dQ (B:=.cg kv D.k) fun m r hm=>(key m r hm).1
 exact s2.ae [0,1,0]
section
variable {told:cE} {p p8:Nat} {dv lw:V} {cs:List V} {L:List zG}
structure TB (R:List Nat)(root i:Nat)(ε:bE)(es:List En): Prop where
 ei:EI 1024 (5+2*i) ε
 tr:∃Z A,Z.length≤i∧A≤486+104*i∧mP 1024 root R [] Z A (pgA ε) es
 by_:∀d∈es,∀x∈d.1,x<256
 len:es.length≤i
noncomputable def twO : Code:=eu [1,1,1,1,1,1,0,1,0,0] ((Tryz.f6.body).getD .skip)
noncomputable def twB : Code:=eu [1,1,1,1,1,1,0,1,0,0,1,0,0,1,1] ((Tryz.f6.body).getD .skip)
theorem Oz (hT:WT told)(hi:i<200)(hI:TB R root i ε es)(I:D.act≤5)
 (s:Sat h (pt p8 (.cells 4 [.int .i64 D.act,.int .i64 D.tree,kv,vv] false)::.cg kv D.k::.cg vv D.v::.arr 2 lv (dL es)::SA a p q r .b8 [] 0 ε::.arr 1 lw (gB [root])::S))(hE:Has E [(0,dv),(3,.ptr a 0),(4,lw),(6,lv),(7,.int .i64 (i:Int)),(8,.ptr p8 0)])
 (mZ:∀E' h',look E' 2=some (.bool true)→Q .ret E' h')
 (hq:∀E' h' lv es ε,TB R root (i+1) ε es→Has E' [(0,dv),(3,.ptr a 0),(4,lw),(6,lv),(7,.int .i64 (i:Int))]→Sat h' (.arr 2 lv (dL es)::SA a p q r .b8 [] 0 ε::.arr 1 lw (gB [root])::S)→Q .normal E' h'): WP ⟨Tryz.prog,told⟩ 191 twB E h Q:=by
 have hW:=hT.w
 obtain⟨cA,⟨Z,A,hZ,hA,ht⟩,TC,hlen⟩:=hI
 have hKb:=(s.aC (k:=1) rfl (bj _ _)).1
 have s:=s.ae [4]
 dsimp only[bringA,getA,aL] at s
 refine WP.has hE (zK 3 rfl (zc rfl (CG hW s) ?_))
 rintro v h ⟨g,rfl,s⟩
 have s:=s.ae [0,1,1,1,0,0]
 dsimp only[bringA,getA,aL] at s
 refine zk 6 rfl (zC rfl (Ao jT) (rfl) ?_)
 obtain⟨id,off,e1,e2⟩:=jL (P:=Tryz.prog) s (k:=5) (i:=0) rfl (mQ (n:=root) rfl) gP nY
 refine zk 4 rfl (WP.drawn [af,af,af,af,af,af,af,af,af,af,af,af] rfl (by kernel_rfl) (by kernel_rfl) ?_)
 refine zM rfl (zM rfl (zO rfl (bS (r:=.ptr id off) rfl rfl e1) (zL rfl (e2 _ b9) (zM rfl (zL rfl (s.b7 (k:=4) rfl aas Un) (aB.any rfl rfl rfl rfl (OpR.call rfl rfl rfl rfl (Wc (now:=[]) hT.toWI (by omega) (by decide) cA (NW.nil 1024) ht (by omega) (by omega) (by simp only[cj];omega) I s)) ?_))))))
 rintro v h ⟨ep,oc,lv1,jA,Z1,A1,rfl,k1,k2,k3,k4,k5,k6,k7,k8,TA,s⟩
 rw[cj] at k4
 refine zM rfl (zO rfl (iU rfl rfl) (zO rfl (iU rfl rfl) (zA rfl (zA rfl ?_))))
 refine aB.nil ⟨⟨aa,aa,aa,aa,aa,aa,aa,aa,aa,aa,aa,aa,aa⟩,?_⟩
 refine zK 3 rfl (zo rfl (cQ rfl (AE (kd:=1))) (zc rfl (Tv (kd:=1) hW (by omega) k1 k3 (by decide) (by omega) (by decide) (by decide) s) ?_))
 rintro v h ⟨bk,(rfl|⟨iQ,rfl,q1,q2,s⟩)⟩
 ·skip
  refine zk 12 rfl (zB rfl c8 (by decide) ?_)
  exact zk 7 rfl (WP.ret (mZ _ _ rfl))
 ·skip
  refine zk 12 rfl (zC rfl c8 (by decide) ?_)
  refine zk 8 rfl (zo rfl (dZ rfl rfl) (zk 2 rfl (zC rfl aH (by decide) ?_)))
  refine zp rfl (zv (zj rfl (WP.skip (zr rfl (zk 2 rfl (zv ?_))))))
  refine hq _ _ lv1 jA iQ ⟨q1,⟨Z1,A1,by omega,by omega,TA.done k3 q2⟩,fun d hd => ?_,by omega⟩ ⟨rfl,rfl,rfl,rfl,rfl,aa⟩ ((s.ae [1,0]).del 2)
  rcases k8 d hd with k9|k9
  ·exact TC d k9
  ·rw[k9];exact hKb
theorem aeb (hT:WT told)(hL:L.length≤200): ∀(d i:Nat) (lv:V) (es:List En) (ε:bE) (h:H) (E:List (Nat×V)) (Q:Ex→List (Nat×V)→H→Prop),i+d=L.length→TB R root i ε es →
  Sat h (.arr 2 lv (dL es)::SA a p q r .b8 [] 0 ε::.arr 1 lw (gB [root])::qO 4 dv cs::qE cs L::S)→Has E [(0,dv),(3,.ptr a 0),(4,lw),(6,lv),(7,.int .i64 (i:Int))] →
  (∀E' h',look E' 2=some (.bool true)→Q .ret E' h') →
  (∀lv es ε E' h',TB R root L.length ε es→Sat h' (.arr 2 lv (dL es)::SA a p q r .b8 [] 0 ε::.arr 1 lw (gB [root])::qO 4 dv cs::qE cs L::S)→Has E' [(3,.ptr a 0),(4,lw),(6,lv)]→Q (.exit 0) E' h') →
  WP ⟨Tryz.prog,told⟩ 191 (.loop twO) E h Q:=by
 intro d
 induction d with
 |zero =>
  intro i lv es ε h E Q hi hI s hE I hq
  obtain rfl:i=L.length:=hi
  have gy:cs.length=L.length*4:=by
   obtain⟨m,r,_,_,h3⟩:=s.at (k:=4) rfl
   exact Ib h3
  refine WP.loop (WP.has hE (zK 5 rfl (zo rfl (aD rfl rfl rfl (s.K4 (n:=L.length) (j:=3) rfl gy (by decide) Cz)) ?_)))
  refine zC rfl aO (by simp) ?_
  exact zk 2 rfl (WP.exit (hq lv es ε _ _ hI s ⟨rfl,rfl,rfl,aa⟩))
 |succ d ih =>
  intro i lv es ε h E Q hi hI s hE I hq
  obtain⟨D,hD⟩:∃D,L[i]?=some D:=⟨_,aG (by omega)⟩
  have gy:cs.length=L.length*4:=by
   obtain⟨m,r,_,_,h3⟩:=s.at (k:=4) rfl
   exact Ib h3
  have GD:=s.K4 (P:=Tryz.prog) (n:=L.length) (j:=3) rfl gy (by decide) Cz
  obtain⟨id,off,e1,e2⟩:=s.acs (P:=Tryz.prog) (i:=i) (j:=3) rfl (by omega) (by decide) Cz Un aas
  obtain⟨kv,vv,N5,s⟩:=abq (s.ae [4]) hD
  rw[N5] at e2
  have sS:=(s.aC (k:=0) rfl (bj _ _)).cells
  have A9:=(s.aC (k:=1) rfl (bj _ _)).cells
  have eD:[V.int .i64 D.act,.int .i64 D.tree,kv,vv].all storable=true:=by simp only[kD,lP,sS.2,A9.2];rfl
  have s:=s.ae [0,0,1,1,1,1,0]
  dsimp only[aL,bringA,getA] at s
  refine WP.loop (WP.has hE (zK 5 rfl (zo rfl (aD rfl rfl rfl GD) (zB rfl aO (by simp;omega) ?_))))
  refine zk 4 rfl (WP.block (zK 4 rfl (zo rfl (bS (r:=.ptr id off) rfl rfl e1) (zl rfl e2 ?_))))
  refine au.b_ s rfl rfl rfl (cu ac_) (fun p8 h s => ?_)
  dsimp only[V.cells,List.length_cons,List.length_nil,Nat.reduceAdd] at s
  refine zS rfl (s.gX (j:=0) rfl Un rfl eD) ?_
  intro h s
  dsimp only[setA] at s
  refine zk 4 rfl (zY s 0 FI b9 rfl ?_)
  have go:∀(E':List (Nat×V)) (h':H) (lv:V) (es:List En) (ε:bE),TB R root (i+1) ε es→Has E' [(0,dv),(3,.ptr a 0),(4,lw),(6,lv),(7,.int .i64 ((i+1:Nat):Int))]→Sat h' (.arr 2 lv (dL es)::SA a p q r .b8 [] 0 ε::.arr 1 lw (gB [root])::qO 4 dv cs::qE cs L::S)→WP ⟨Tryz.prog,told⟩ 191 (.loop twO) E' h' Q:=fun E' h' lv es ε hI hE s=>ih (i+1) lv es ε h' E' Q (by omega) hI s hE I hq
  by_cases h5:D.act>5
  ·skip
   refine zB rfl cV (decide_eq_true h5) (zk 3 rfl (zf rfl (FI _ _) (zS rfl (s.jS (k:=0) rfl nY rfl (by decide) rfl rfl) ?_)))
   intro h s
   dsimp only[Nat.reduceAdd,List.set,setA] at s
   refine zv (Oz (D:=⟨1,D.tree,D.k,D.v⟩) hT (by omega) hI (by show(1:Int)≤5;decide) s ⟨rfl,rfl,rfl,rfl,rfl,rfl,aa⟩ I fun E' h' lv es ε hI hE s => ?_)
   refine WP.has hE (zK 2 rfl (zb rfl (by exact aQ (aq (by omega) (by omega))) ?_))
   refine za rfl (zv ?_)
   exact go _ _ lv es ε hI ⟨rfl,rfl,rfl,rfl,rfl,aa⟩ s
  ·skip
   refine zC rfl cV (decide_eq_false h5) (zk 3 rfl (Oz hT (by omega) hI (by omega) s ⟨rfl,rfl,rfl,rfl,rfl,rfl,aa⟩ I fun E' h' lv es ε hI hE s => ?_))
   refine WP.has hE (zK 2 rfl (zb rfl (by exact aQ (aq (by omega) (by omega))) ?_))
   refine za rfl (zv ?_)
   exact go _ _ lv es ε hI ⟨rfl,rfl,rfl,rfl,rfl,aa⟩ s
end
end Go.Proofs.YtdonpgpfplgigaaGreat.Am
