/- TxOrders: a part of its proof; conditions: its statement's. -/
import Derived.Test.YtiojppeahfoiaaaGreatJ05
set_option linter.defProp false
namespace Go.Proofs.YtiojppeahfoiaaaGreat.Am
open Go
def GP:=@Tryz.underlying345
variable {h:H} {aV:List cr} {tx pv nx:Nat}
theorem Sd {P:Program}{E:List (Nat×V)}{a t:Nat}{p v:V}(I:look E a=some p)(hd:loadV P h t p=some v): resLE P E h [.cell a t]=some v:=by simp only[resLE,mapO,resE,I,hd]
section
variable {told:cE} {S:List aE} {X:aE} {c:Nat} {v w:V} {l m:List Nat}
theorem Lk (J:W told){x:cr}(hx:x.Ok)(hc:Cu h c X S (iH x++l)):
  Call ⟨Tryz.prog,told⟩ 252 [.ptr c 0] h fun r h'=>∃u,r=.agg [.int .i64 x.aY,.int .i64 x.pos,.bool x.whole,u]∧Cu h' c X (aW u x.b::S) l:=by
 obtain⟨x1,x2,x3,x4,x5,x6⟩:=hx
 obtain⟨pg,ps,wh,b⟩:=x
 dsimp only at x1 x2 x3 x4 x5 x6 hc
 obtain⟨pg,rfl⟩:=Int.eq_ofNat_of_zero_le x1
 obtain⟨ps,rfl⟩:=Int.eq_ofNat_of_zero_le x3
 simp only[iH,b8,cX,gW,d_] at hc
 generalize M7:(if wh=true then 1 else 0)=wb at hc
 have sN:wb≤1:=by rw[←M7];cases wh<;>decide
 have sx:decide ((wb:Int)=1)=wh:=by rw[←M7];cases wh<;>rfl
 obtain⟨v,I,s⟩:=hc
 refine Call.of_wp (J.free _ rfl) Tryz.func252 rfl rfl (zg rfl ?_)
 refine aq.bG s rfl rfl rfl (bM mo) (fun p2 h s => ?_)
 refine zk 4 rfl (zc rfl (vJ J (by omega) ⟨v,I,s.ae [1,1,0]⟩) ?_)
 rintro v h ⟨rfl,v,I,s⟩
 refine zm rfl (zc rfl (vJ J (by omega) ⟨v,I,s⟩) ?_)
 rintro v h ⟨rfl,v,I,s⟩
 refine zf rfl (yN _ _) ?_
 refine zS rfl (by exact s.dL (k:=2) rfl nE rfl (by decide) rfl rfl) (fun h s => ?_)
 refine zf rfl (o8 _ _) ?_
 refine zS rfl (by exact s.dL (k:=2) rfl nE rfl (by decide) rfl rfl) (fun h s => ?_)
 refine zk 4 rfl (zc rfl (Dh J ⟨v,I,s⟩) ?_)
 rintro v h ⟨rfl,v,I,s⟩
 refine zk 5 rfl (zB rfl CV (by simp;omega) ?_)
 refine zc rfl (kL J) ?_
 rintro r h' ⟨rfl,rfl⟩
 refine zk 4 rfl (zo rfl (ak (r:=.bool wh) rfl rfl (by rw[←sx];exact c4)) ?_)
 refine zf rfl (yO _ _) ?_
 refine zS rfl (by exact s.dL (k:=2) rfl vZ rfl (by decide) rfl rfl) (fun h s => ?_)
 refine zk 4 rfl ?_
 rw[←cX] at I
 refine zc rfl (GO J (by omega) ⟨v,I,s⟩) ?_
 rintro u h ⟨v,I,s⟩
 have hu:=(s.buf (k:=2) rfl).view.cells
 refine zf rfl (nM _ _) (zS rfl (s.dL (k:=3) rfl jR rfl (by decide) hu.1 hu.2) ?_)
 rintro h s
 dsimp only[V.cells,List.length_cons,List.length_nil,Nat.reduceAdd,aC,bringA,getA,List.set,setA] at s
 refine zk 3 rfl (zl rfl (s.cy (k:=3) rfl KD oo) (zS rfl (s.fh (j:=3) rfl oo rfl (by simp only[jv,j7,hu.2];rfl)) ?_))
 rintro h s
 refine zv ?_
 refine WP.ret ⟨aa,_,Sd rfl (s.cy (k:=3) rfl KD oo),?_⟩
 exact⟨u,rfl,v,I,s.del 3⟩
structure vK (tx pv nx:Nat)(data:List Nat)(aV:List cr): Prop where
 tx:tx<9223372036854775808
 pv:pv<9223372036854775808
 nx:nx<9223372036854775808
 data:data.length≤1048576
 many:aV.length≤1048576
theorem Ll (k n:Nat): 1≤(digits k n).length:=by
 cases k with
 |zero=>simp[digits]
 |succ k=>rw[digits];split<;>simp
theorem QJ (x:cr): 1≤(iH x).length:=by simp only[iH,bP,bq];omega
theorem GQ : ∀l:List cr,l.length≤(l.flatMap iH).length:=by
 intro l
 induction l with
 |nil=>simp
 |cons x l I=>have:=QJ x;simp only[nj,bP,bq];omega
noncomputable def rdL : Code:=c6 [1,1,1,1,1,1,1,1,0,1,0,0] ((Tryz.f221.body).getD .skip)
theorem TM (hT:W told){kd:Nat}{p2:Nat}{dt:V}(g_:∀x∈aV,x.Ok)(hn:aV.length≤1048576): ∀(j i:Nat) (av:V) (cs:List V) (h:H) (E:List (Nat×V)) (Q:Ex→List (Nat×V)→H→Prop),
  i+j=aV.length→Cu h c X (pt p2 (.cells 6 (c5 kd tx pv nx dt av) false)::.arr 4 av cs::cG cs (aV.take i)::S) ((aV.drop i).flatMap iH)→Has E [(0,.ptr c 0),(2,.ptr p2 0),(41,.int .i64 aV.length),(42,.int .i64 i)] →
  (∀E' h' av cs,Has E' [(0,.ptr c 0),(2,.ptr p2 0)]→Cu h' c X (pt p2 (.cells 6 (c5 kd tx pv nx dt av) false)::.arr 4 av cs::cG cs aV::S) []→Q (.exit 2) E' h')→WP ⟨Tryz.prog,told⟩ 64 (.loop rdL) E h Q:=by
 intro j
 induction j with
 |zero =>
  intro i av cs h E Q hi hc hE hq
  refine WP.loop (WP.has hE (zg rfl (zC rfl aJ (by simp;omega) ?_)))
  refine zk 3 rfl (WP.exit ?_)
  rw[fS (by omega),List.drop_of_length_le (by omega)] at hc
  exact hq _ _ _ _ ⟨rfl,rfl,aa⟩ hc
 |succ j ih =>
  intro i av cs h E Q hi hc hE hq
  have hx:aV[i]?=some (aV[i]'(by omega)):=bp _
  generalize (aV[i]'(by omega))=x at hx
  have hxo:=g_ x (bI hx)
  have I:aV.drop i=x::aV.drop (i+1):=by
   obtain⟨h1,rfl⟩:=List.getElem?_eq_some_iff.1 hx
   exact qM h1
  have J:aV.take (i+1)=aV.take i++[x]:=by rw[Cp,hx];rfl
  rw[I,nj] at hc
  obtain⟨v,hX,s⟩:=hc
  refine WP.loop (WP.has hE (zg rfl (zB rfl aJ (by simp;omega) ?_)))
  refine zk 5 rfl (WP.block ?_)
  have s0:=s
  have DZ:=(s.iU (j:=3) rfl).2.2
  refine WP.drawn [some (0,3),some (0,3),af,af,af,af,af,af] rfl (by kernel_rfl) (by kernel_rfl) ?_
  refine zF rfl (iC _ _) (zL rfl (s.ld (k:=2) rfl og rfl) (zM rfl (az.any rfl rfl rfl rfl (OpR.call rfl rfl rfl rfl (Lk hT hxo ⟨v,hX,s⟩)) ?_)))
  rintro w h ⟨u,rfl,v,hX,s⟩
  dsimp only[c5] at s
  have hu:=(s.buf (k:=2) rfl).view.cells
  have DY:=eN (s.buf (k:=2) rfl).view
  have s1:=s
  have s:=(s.ae [2]).gP
  dsimp only[bringA,getA,aC] at s
  obtain⟨rv,h1,xC,s2⟩:=k9 (P:=Tryz.prog) (k:=4) (x:=.agg [.int .i64 x.aY,.int .i64 x.pos,.bool x.whole,u]) s gG mo oo rfl (by decide) (by decide) rfl (by simp only[V.cells,jv,j7,hu.2];rfl)
  dsimp only[V.cells] at s2
  refine az.any rfl rfl rfl rfl (OpR.of (R:=fun v h'=>v=rv∧h'=h1) (ob rfl xC) ⟨rfl,rfl⟩) ?_
  rintro v' h' ⟨rfl,rfl⟩
  obtain⟨i1,mB,kE,xm⟩:=sj
  have Qk:cs.length=(aV.take i).length*4:=by
   obtain⟨a,b,q1,q2,q3⟩:=s2.at (k:=6) rfl
   exact lS q3
  rw[j6] at Qk
  obtain⟨nR,h2,p_,s3⟩:=iV (s2.ae [5,0]) gG mB mo kE (by omega) rfl (by decide) (by simp only[bq,cD];omega)
  dsimp only[bringA,getA,aC] at s3
  refine az.any rfl rfl rfl rfl (OpR.of (R:=fun v h'=>v=nR∧h'=h2) (pJ rfl rfl p_) ⟨rfl,rfl⟩) ?_
  rintro v' h' ⟨rfl,rfl⟩
  have s:=s3
  have sZ:=s.iU (j:=0) rfl
  refine zF rfl (iC _ _) (az.iR rfl rfl rfl (OpR.uC rfl rfl rfl (s.dL (k:=5) rfl yA rfl (by decide) sZ.1 sZ.2.1)) ?_)
  rintro v' h ⟨rfl,s⟩
  dsimp only[Nat.reduceAdd,List.set,setA] at s
  refine az.nil ⟨⟨fun _ _=>.inr ⟨rfl,⟨_,jr rfl (iC _ _)⟩,aN _ rfl⟩,rQ (.inr ⟨rfl,⟨_,aP rfl (s0.ld (k:=2) rfl og rfl)⟩,DZ⟩) (.inr ⟨rfl,⟨_,aP rfl (s1.ld (k:=3) rfl og rfl)⟩,DZ⟩) (.inr ⟨rfl,⟨_,aP rfl (s2.ld (k:=4) rfl og rfl)⟩,DZ⟩),aa,aa,aa,aa,aa,aa,aa⟩,?_⟩
  refine zr rfl (zb rfl (by exact aR (ax (by omega) (by omega))) ?_)
  refine zm rfl (zv ?_)
  have s4:Sat _ (cG cs (aV.take i)::.cL u x.b::_):=s.ae [6,2]
  have s5:=s4.two (C:=cG (cs++[.int .i64 x.aY,.int .i64 x.pos,.bool x.whole,u]) (aV.take i++[x])) (aX.mO _ _) (aX.cL _ _) fun a b q1 q2=>vx q1 ⟨⟨⟨rfl,rfl,rfl⟩,q2⟩,aa⟩
  rw[←J] at s5
  have s6:=(s5.ae [3,3,3,1,0]).del 5
  exact ih (i+1) _ _ h _ Q (by omega) ⟨v,hX,s6⟩ ⟨rfl,rfl,rfl,rfl,aa⟩ hq
theorem TN (J:W told){kd:Nat}{data:List Nat}(hg:dg kd aV=true)(hk:kd<256)(hr:vK tx pv nx data aV)(hc:Cu h c X S (cI kd tx pv nx data aV)):
  Call ⟨Tryz.prog,told⟩ 221 [.ptr c 0] h fun r h'=>∃dt ch cs,r=.agg (c5 kd tx pv nx dt ch)∧Sat h' (X::aW dt data::.arr 4 ch cs::cG cs aV::S):=by
 simp only[cI,b8,cX,gW,d_] at hc
 obtain⟨v,I,s⟩:=hc
 refine Call.of_wp (J.free _ rfl) Tryz.func221 rfl rfl (zg rfl ?_)
 refine aq.bG s rfl rfl rfl (bM oh) (fun p2 h s => ?_)
 dsimp only[V.cells,List.length_cons,List.length_nil,Nat.reduceAdd] at s
 refine zk 4 rfl (zc rfl (Dh J ⟨v,I,s.ae [1,1,0]⟩) ?_)
 rintro v h ⟨rfl,v,I,s⟩
 dsimp only[aC,bringA,getA] at s
 refine zo rfl (bJ rfl (Iq (by omega))) ?_
 refine zf rfl (nG _ _) ?_
 refine zS rfl (by exact s.dL (k:=2) rfl nE rfl (by decide) rfl rfl) (fun h s => ?_)
 dsimp only[Nat.reduceAdd,List.set,setA] at s
 refine zk 4 rfl (zo rfl (vn rfl rfl) (zk 5 rfl (zf rfl (CW _ _) (zf rfl (CX _ _) (zf rfl (IZ _ _) (zo rfl (b_ rfl (by rw[XN];rfl)) ?_))))))
 refine zk 2 rfl (WP.block (WP.loop (zg rfl (zB rfl aJ (rfl) (zk 5 rfl (WP.block (zg rfl (zo rfl (wX rfl rfl (r:=.ptr p2 (0+1)) (by simp only[indexV,GP,KF,mV,KG];rfl)) ?_))))))))
 refine zk 5 rfl (zc rfl (tg J hr.tx ⟨v,I,s⟩) ?_)
 rintro v h ⟨rfl,v,I,s⟩
 refine zn rfl ?_
 refine zS rfl (by exact s.dL (k:=2) rfl od rfl (by decide) rfl rfl) (fun h s => ?_)
 dsimp only[Nat.reduceAdd,List.set,setA] at s
 refine zv (zr rfl (zb rfl (by exact aR (ax (by omega) (by omega))) ?_))
 refine zm rfl (zv (WP.loop (zg rfl (zt rfl (ak rfl rfl aJ) (rfl) (zv (zw (zi rfl (WP.skip (zw (WP.block (zg rfl (zo rfl (wX rfl rfl (r:=.ptr p2 (0+2)) (by simp only[indexV,GP,KF,mV,KG];rfl)) ?_))))))))))))
 refine zk 5 rfl (zc rfl (tg J hr.pv ⟨v,I,s⟩) ?_)
 rintro v h ⟨rfl,v,I,s⟩
 refine zn rfl ?_
 refine zS rfl (by exact s.dL (k:=2) rfl od rfl (by decide) rfl rfl) (fun h s => ?_)
 dsimp only[Nat.reduceAdd,List.set,setA] at s
 refine zv (zr rfl (zb rfl (by exact aR (ax (by omega) (by omega))) ?_))
 refine zk 2 rfl (WP.loop (zg rfl (zB rfl aJ (rfl) (zk 5 rfl (WP.block (zg rfl (zo rfl (wX rfl rfl (r:=.ptr p2 (0+3)) (by simp only[indexV,GP,KF,mV,KG];rfl)) ?_)))))))
 refine zk 5 rfl (zc rfl (tg J hr.nx ⟨v,I,s⟩) ?_)
 rintro v h ⟨rfl,v,I,s⟩
 refine zn rfl ?_
 refine zS rfl (by exact s.dL (k:=2) rfl od rfl (by decide) rfl rfl) (fun h s => ?_)
 dsimp only[Nat.reduceAdd,List.set,setA] at s
 refine zv (zr rfl (zb rfl (by exact aR (ax (by omega) (by omega))) ?_))
 refine zm rfl (zv (WP.loop (zg rfl (zh rfl (ak rfl rfl aJ) (rfl) (zv (zw (zj rfl (WP.exit (zg rfl (zm rfl ?_))))))))))
 rw[←cX] at I
 refine zc rfl (GO J hr.data ⟨v,I,s⟩) ?_
 rintro dt h ⟨v,I,s⟩
 have ji:=(s.buf (k:=2) rfl).view.cells
 refine zf rfl (yB _ _) (zS rfl (s.dL (k:=3) rfl jR rfl (by decide) ji.1 ji.2) ?_)
 rintro h s
 refine zk 4 rfl (zc rfl (vJ J hr.many ⟨v,I,s⟩) ?_)
 rintro v h ⟨rfl,v,I,s⟩
 have hv:=s.aD (k:=1) rfl I
 refine zk 7 rfl (zY s 0 kn bX rfl (zo rfl (aQ rfl rfl rfl (bh aM hv)) (zB rfl CV (by have:=GQ aV;simp only[gn];omega) ?_)))
 refine zc rfl (kL J) ?_
 rintro r h' ⟨rfl,rfl⟩
 refine zk 4 rfl ?_
 obtain⟨i1,mB,kE,xm⟩:=sj
 have KW:=hr.many
 obtain⟨nv,Ry,e1,s1⟩:=DS (P:=Tryz.prog) s gG mB mo kE (by omega) rfl (by decide) (by decide) (n:=0) (c:=aV.length) (by omega) (by omega)
 dsimp only[repeatL] at s1
 refine aq.any rfl rfl rfl (OpR.of (R:=fun v h'=>v=nv∧h'=Ry) (yy rfl rfl e1) ⟨rfl,rfl⟩) ?_
 rintro v h' ⟨rfl,rfl⟩
 have s:=s1.ae [1,1,2,0]
 have Zi:=s.iU (j:=3) rfl
 refine zf rfl (iC _ _) (zS rfl (s.dL (k:=2) rfl yA rfl (by decide) Zi.1 Zi.2.1) ?_)
 rintro h s
 have g_:∀x∈aV,x.Ok:=fun x hx=>by
  simp only[dg,bC,tX,gn] at hg
  exact hg.2 x hx
 have s2:=((s.fH (φ:=True) aa).gO (B:=cG [] []) fun _ _ h=>h).ae [1,1,1,1,0]
 refine zk 7 rfl (WP.block ?_)
 refine TM J g_ hr.many aV.length 0 _ [] h _ _ (by omega) ⟨_,I,s2⟩ ⟨rfl,rfl,rfl,rfl,aa⟩ (fun E h av cs hE hc => ?_)
 obtain⟨v,I,s⟩:=hc
 refine WP.has hE ?_
 have hv:=s.aD (k:=1) rfl I
 have ji:=(s.buf (k:=5) rfl).view.cells
 have sZ:=s.iU (j:=3) rfl
 have gB:[V.int .i64 (kd:Int),V.int .u64 (tx:Int),V.int .u64 (pv:Int),V.int .u64 (nx:Int),dt,av].all storable=true:=kq ji.2 sZ.2.1
 have eR:xw aV:=⟨by omega,fun x hx=>by have:=g_ x hx;unfold cr.Ok at this;omega,fun x hx=>by have:=g_ x hx;unfold cr.Ok at this;omega⟩
 refine zK 4 rfl (zY s 0 kn bX rfl (zo rfl (aQ rfl rfl rfl (bh aM hv)) (zB rfl c4 (rfl) (zm rfl (zl rfl (s.cy (k:=2) rfl iS eD) (zc rfl (Ga J (s.ae [3,3]) ji.2 eR) ?_))))))
 rintro r h ⟨rfl,s⟩
 rw[hg]
 refine zq rfl (zc rfl (kL J) ?_)
 rintro r h' ⟨rfl,rfl⟩
 refine zk 3 rfl (zl rfl (s.cy (k:=4) rfl iS eD) (zS rfl (s.fh (j:=4) rfl eD rfl gB) ?_))
 rintro h s
 refine zv ?_
 refine WP.ret ⟨aa,_,Sd rfl (s.cy (k:=4) rfl iS eD),?_⟩
 exact⟨dt,av,cs,rfl,((s.ae [3,4,0,0]).del 4).del 4⟩
end
end Go.Proofs.YtiojppeahfoiaaaGreat.Am
