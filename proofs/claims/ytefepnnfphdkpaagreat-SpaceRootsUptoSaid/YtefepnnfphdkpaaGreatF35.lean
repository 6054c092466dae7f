/- SpaceRoots: a part of its proof; conditions: its statement's. -/
import Derived.Test.YtefepnnfphdkpaaGreatF34
set_option linter.defProp false
namespace Go.Proofs.YtefepnnfphdkpaaGreat.Am
open Go
def IU:=@Tryz.underlying270
theorem TM {P:Program}{E:List (Nat×V)}{h:H}{a t:Nat}{p v:V}(I:look E a=some p)(J:loadV P h t p=some v): iI P E h [.cell a t]=some v:=by simp only [iI,mapO,resE,I,J]
section
variable {told:cQ} {h:H} {S:List au} {X:au} {c:Nat} {v w:V} {l m:List Nat}
theorem MV (J:W told){x:cq}(hx:x.Ok)(hc:Cu h c X S (kC x++l)):
  Call ⟨Tryz.prog,told⟩ 204 [.ptr c 0] h fun r h'=>∃u,r=.agg [.int .i64 x.aL,.int .i64 x.pos,.bool x.whole,u]∧Cu h' c X (aZ u x.b::S) l:=by
 obtain ⟨x1,x2,x3,x4,x5,x6⟩:=hx
 obtain ⟨pg,ps,wh,b⟩:=x
 dsimp only at x1 x2 x3 x4 x5 x6 hc
 obtain ⟨pg,rfl⟩:=Int.eq_ofNat_of_zero_le x1
 obtain ⟨ps,rfl⟩:=Int.eq_ofNat_of_zero_le x3
 simp only [kC,b9,bS,fg,cZ] at hc
 generalize OI:(if wh=true then 1 else 0)=wb at hc
 have pY:wb≤1:=by rw [←OI]; cases wh <;> decide
 have vl:decide ((wb:Int)=1)=wh:=by rw [←OI]; cases wh <;> rfl
 obtain ⟨v,I,s⟩:=hc
 refine Call.of_wp (J.free _ rfl) Tryz.func204 rfl rfl (zg rfl ?_)
 refine aA.b5 s rfl rfl rfl (bX nY) (fun p2 h s => ?_)
 refine zk 4 rfl (zc rfl (xX J (by omega) ⟨v,I,s.ae [1,1,0]⟩) ?_)
 rintro v h ⟨rfl,v,I,s⟩
 refine zm rfl (zc rfl (xX J (by omega) ⟨v,I,s⟩) ?_)
 rintro v h ⟨rfl,v,I,s⟩
 refine zf rfl (nZ _ _) ?_
 refine zS rfl (by exact s.ey (k:=2) rfl kW rfl (by decide) rfl rfl) (fun h s => ?_)
 refine zf rfl (pz _ _) ?_
 refine zS rfl (by exact s.ey (k:=2) rfl kW rfl (by decide) rfl rfl) (fun h s => ?_)
 refine zk 4 rfl (zc rfl (E8 J ⟨v,I,s⟩) ?_)
 rintro v h ⟨rfl,v,I,s⟩
 refine zk 5 rfl (zt rfl (af rfl rfl BY) (by simp; omega) ?_)
 refine zc rfl (mK J) ?_
 rintro r h' ⟨rfl,rfl⟩
 refine zk 4 rfl (zo rfl (af (r:=.bool wh) rfl rfl (by rw [←vl]; exact eA)) ?_)
 refine zf rfl (wF _ _) ?_
 refine zS rfl (by exact s.ey (k:=2) rfl uf rfl (by decide) rfl rfl) (fun h s => ?_)
 refine zk 4 rfl ?_
 rw [←bS] at I
 refine zc rfl (IT J (by omega) ⟨v,I,s⟩) ?_
 rintro u h ⟨v,I,s⟩
 have hu:=(s.buf (k:=2) rfl).view.cells
 refine zf rfl (m6 _ _) (zS rfl (s.ey (k:=3) rfl gR rfl (by decide) hu.1 hu.2) ?_)
 rintro h s
 dsimp only [V.cells,List.length_cons,List.length_nil,Nat.reduceAdd,aQ,bringA,getA,List.set,setA] at s
 refine zk 3 rfl (zl rfl (s.cA (k:=3) rfl GJ oL) (zS rfl (s.eH (j:=3) rfl oL rfl (by simp only [fH,jh,hu.2]; rfl)) ?_))
 rintro h s
 refine zv ?_
 refine WP.ret ⟨aa,_,TM rfl (s.cA (k:=3) rfl GJ oL),?_⟩
 exact ⟨u,rfl,v,I,s.del 3⟩
structure xY (tx pv nx:Nat)(data:List Nat)(aM:List cq): Prop where
 tx:tx<9223372036854775808
 pv:pv<9223372036854775808
 nx:nx<9223372036854775808
 data:data.length≤1048576
 many:aM.length≤1048576
theorem Sg (x:cq): 1≤(kC x).length:=by simp only [kC,bx,aS]; omega
theorem IV : ∀l:List cq,l.length≤(l.flatMap kC).length:=by
 intro l
 induction l with
 | nil=>simp
 | cons x l I=>have:=Sg x; simp only [qG,bx,aS]; omega
noncomputable def rdL : Code:=dB [1,1,1,1,1,1,1,1,0,1,0,0] ((Tryz.f192.body).getD .skip)
theorem Vo (hT:W told){kd tx pv nx:Nat}{p2:Nat}{dt:V}{aM:List cq}(me:∀x∈aM,x.Ok)(hn:aM.length≤1048576): ∀(j i:Nat) (I:V) (cs:List V) (h:H) (E:List (Nat×V)) (Q:Ex→List (Nat×V)→H→Prop),
  i+j=aM.length→Cu h c X (pt p2 (.cells 6 (gT kd tx pv nx dt I) false)::.arr 4 I cs::dg cs (aM.take i)::S) ((aM.drop i).flatMap kC)→Has E [(0,.ptr c 0),(2,.ptr p2 0),(41,.int .i64 aM.length),(42,.int .i64 i)] →
  (∀E' h' I cs,Has E' [(0,.ptr c 0),(2,.ptr p2 0)]→Cu h' c X (pt p2 (.cells 6 (gT kd tx pv nx dt I) false)::.arr 4 I cs::dg cs aM::S) []→Q (.exit 2) E' h')→WP ⟨Tryz.prog,told⟩ 64 (.loop rdL) E h Q:=by
 intro j
 induction j with
 | zero =>
  intro i I cs h E Q hi hc hE hq
  refine WP.loop (WP.has hE (zg rfl (zh rfl (af rfl rfl aT) (by simp; omega) ?_)))
  refine zk 3 rfl (WP.exit ?_)
  rw [dO (by omega),vJ (by omega)] at hc
  exact hq _ _ _ _ ⟨rfl,rfl,aa⟩ hc
 | succ j ih =>
  intro i I cs h E Q hi hc hE hq
  have hx:aM[i]?=some (aM[i]'(by omega)):=bf _
  generalize (aM[i]'(by omega))=x at hx
  have hxo:=me x (bC hx)
  have J:aM.drop i=x::aM.drop (i+1):=by
   obtain ⟨h1,rfl⟩:=List.getElem?_eq_some_iff.1 hx
   exact oW h1
  have Mk:aM.take (i+1)=aM.take i++[x]:=by rw [D8,hx]; rfl
  rw [J,qG] at hc
  obtain ⟨v,hX,s⟩:=hc
  refine WP.loop (WP.has hE (zg rfl (zt rfl (af rfl rfl aT) (by simp; omega) ?_)))
  refine zk 5 rfl (WP.block ?_)
  have s0:=s
  have FF:=(s.jb (j:=3) rfl).2.2
  refine WP.drawn [some (0,3),some (0,3),ai,ai,ai,ai,ai,ai] rfl (by kernel_rfl) (by kernel_rfl) ?_
  refine zF rfl (mO _ _) (zL rfl (s.ld (k:=2) rfl ug rfl) (zM rfl (aB.any rfl rfl rfl rfl (OpR.call rfl rfl rfl rfl (MV hT hxo ⟨v,hX,s⟩)) ?_)))
  rintro w h ⟨u,rfl,v,hX,s⟩
  dsimp only [gT] at s
  have hu:=(s.buf (k:=2) rfl).view.cells
  have uw:=dz (s.buf (k:=2) rfl).view
  have s1:=s
  have s:=(s.ae [2]).fU
  dsimp only [bringA,getA,aQ] at s
  obtain ⟨rv,h1,uI,s2⟩:=l_ (P:=Tryz.prog) (k:=4) (x:=.agg [.int .i64 x.aL,.int .i64 x.pos,.bool x.whole,u]) s iO nY oL rfl (by decide) (by decide) rfl (by simp only [V.cells,fH,jh,hu.2]; rfl)
  dsimp only [V.cells] at s2
  refine aB.any rfl rfl rfl rfl (OpR.of (R:=fun v h'=>v=rv∧h'=h1) (om rfl uI) ⟨rfl,rfl⟩) ?_
  rintro v' h' ⟨rfl,rfl⟩
  obtain ⟨i1,kB,jF,wL⟩:=uH
  have RC:cs.length=(aM.take i).length*4:=by
   obtain ⟨a,b,q1,q2,q3⟩:=s2.at (k:=6) rfl
   exact oS q3
  rw [dM] at RC
  obtain ⟨vi,h2,rZ,s3⟩:=iK (s2.ae [5,0]) iO kB nY jF (by omega) rfl (by decide) (by simp only [aS,bT]; omega)
  dsimp only [bringA,getA,aQ] at s3
  refine aB.any rfl rfl rfl rfl (OpR.of (R:=fun v h'=>v=vi∧h'=h2) (mF rfl rfl rZ) ⟨rfl,rfl⟩) ?_
  rintro v' h' ⟨rfl,rfl⟩
  have s:=s3
  have Dn:=s.jb (j:=0) rfl
  refine zF rfl (mO _ _) (aB.i_ rfl rfl rfl (OpR.fO rfl rfl rfl (s.ey (k:=5) rfl Ma rfl (by decide) Dn.1 Dn.2.1)) ?_)
  rintro v' h ⟨rfl,s⟩
  dsimp only [Nat.reduceAdd,List.set,setA] at s
  refine aB.nil ⟨⟨fun _ _=>.inr ⟨rfl,⟨_,lY rfl (mO _ _)⟩,bq _ rfl⟩,yW (.inr ⟨rfl,⟨_,bh rfl (s0.ld (k:=2) rfl ug rfl)⟩,FF⟩) (.inr ⟨rfl,⟨_,bh rfl (s1.ld (k:=3) rfl ug rfl)⟩,FF⟩) (.inr ⟨rfl,⟨_,bh rfl (s2.ld (k:=4) rfl ug rfl)⟩,FF⟩),aa,aa,aa,aa,aa,aa,aa⟩,?_⟩
  refine zr rfl (zb rfl (by exact br (aC (by omega) (by omega))) ?_)
  refine zm rfl (zv ?_)
  have s4:Sat _ (dg cs (aM.take i)::.cx u x.b::_):=s.ae [6,2]
  have s5:=s4.two (C:=dg (cs++[.int .i64 x.aL,.int .i64 x.pos,.bool x.whole,u]) (aM.take i++[x])) (aW.nF _ _) (aW.cx _ _) fun a b q1 q2=>xE q1 ⟨⟨⟨rfl,rfl,rfl⟩,q2⟩,aa⟩
  rw [←Mk] at s5
  have s6:=(s5.ae [3,3,3,1,0]).del 5
  exact ih (i+1) _ _ h _ Q (by omega) ⟨v,hX,s6⟩ ⟨rfl,rfl,rfl,rfl,aa⟩ hq
theorem Vp (J:W told){kd tx pv nx:Nat}{data:List Nat}{aM:List cq}(hg:dD kd aM=true)(hk:kd<256)(hr:xY tx pv nx data aM)(hc:Cu h c X S (dK kd tx pv nx data aM)):
  Call ⟨Tryz.prog,told⟩ 192 [.ptr c 0] h fun r h'=>∃dt ch cs,r=.agg (gT kd tx pv nx dt ch)∧Sat h' (X::aZ dt data::.arr 4 ch cs::dg cs aM::S):=by
 simp only [dK,b9,bS,fg,cZ] at hc
 obtain ⟨v,I,s⟩:=hc
 refine Call.of_wp (J.free _ rfl) Tryz.func192 rfl rfl (zg rfl ?_)
 refine aA.b5 s rfl rfl rfl (bX qX) (fun p2 h s => ?_)
 dsimp only [V.cells,List.length_cons,List.length_nil,Nat.reduceAdd] at s
 refine zk 4 rfl (zc rfl (E8 J ⟨v,I,s.ae [1,1,0]⟩) ?_)
 rintro v h ⟨rfl,v,I,s⟩
 dsimp only [aQ,bringA,getA] at s
 refine zo rfl (cJ rfl (J2 (by omega))) ?_
 refine zf rfl (uh _ _) ?_
 refine zS rfl (by exact s.ey (k:=2) rfl kW rfl (by decide) rfl rfl) (fun h s => ?_)
 dsimp only [Nat.reduceAdd,List.set,setA] at s
 refine zk 4 rfl (zo rfl (GD rfl rfl) (zk 5 rfl (zf rfl (Ol _ _) (zf rfl (Om _ _) (zf rfl (On _ _) (zo rfl (c_ rfl (by rw [YM]; rfl)) ?_))))))
 refine zk 2 rfl (WP.block (WP.loop (zg rfl (zt rfl (af rfl rfl aT) (rfl) (zk 5 rfl (WP.block (zg rfl (zo rfl (yV rfl rfl (r:=.ptr p2 (0+1)) (by simp only [indexV,IU,Me,oJ,Mf]; rfl)) ?_))))))))
 refine zk 5 rfl (zc rfl (vn J hr.tx ⟨v,I,s⟩) ?_)
 rintro v h ⟨rfl,v,I,s⟩
 refine zn rfl ?_
 refine zS rfl (by exact s.ey (k:=2) rfl vy rfl (by decide) rfl rfl) (fun h s => ?_)
 dsimp only [Nat.reduceAdd,List.set,setA] at s
 refine zv (zr rfl (zb rfl (by exact br (aC (by omega) (by omega))) ?_))
 refine zm rfl (zv (WP.loop (zg rfl (zt rfl (af rfl rfl aT) (rfl) (zv (zw (zi rfl (WP.skip (zw (WP.block (zg rfl (zo rfl (yV rfl rfl (r:=.ptr p2 (0+2)) (by simp only [indexV,IU,Me,oJ,Mf]; rfl)) ?_))))))))))))
 refine zk 5 rfl (zc rfl (vn J hr.pv ⟨v,I,s⟩) ?_)
 rintro v h ⟨rfl,v,I,s⟩
 refine zn rfl ?_
 refine zS rfl (by exact s.ey (k:=2) rfl vy rfl (by decide) rfl rfl) (fun h s => ?_)
 dsimp only [Nat.reduceAdd,List.set,setA] at s
 refine zv (zr rfl (zb rfl (by exact br (aC (by omega) (by omega))) ?_))
 refine zk 2 rfl (WP.loop (zg rfl (zt rfl (af rfl rfl aT) (rfl) (zk 5 rfl (WP.block (zg rfl (zo rfl (yV rfl rfl (r:=.ptr p2 (0+3)) (by simp only [indexV,IU,Me,oJ,Mf]; rfl)) ?_)))))))
 refine zk 5 rfl (zc rfl (vn J hr.nx ⟨v,I,s⟩) ?_)
 rintro v h ⟨rfl,v,I,s⟩
 refine zn rfl ?_
 refine zS rfl (by exact s.ey (k:=2) rfl vy rfl (by decide) rfl rfl) (fun h s => ?_)
 dsimp only [Nat.reduceAdd,List.set,setA] at s
 refine zv (zr rfl (zb rfl (by exact br (aC (by omega) (by omega))) ?_))
 refine zm rfl (zv (WP.loop (zg rfl (zh rfl (af rfl rfl aT) (rfl) (zv (zw (zj rfl (WP.exit (zg rfl (zm rfl ?_))))))))))
 rw [←bS] at I
 refine zc rfl (IT J hr.data ⟨v,I,s⟩) ?_
 rintro dt h ⟨v,I,s⟩
 have jr:=(s.buf (k:=2) rfl).view.cells
 refine zf rfl (y9 _ _) (zS rfl (s.ey (k:=3) rfl gR rfl (by decide) jr.1 jr.2) ?_)
 rintro h s
 refine zk 4 rfl (zc rfl (xX J hr.many ⟨v,I,s⟩) ?_)
 rintro v h ⟨rfl,v,I,s⟩
 have hv:=s.aE (k:=1) rfl I
 refine zk 7 rfl (zf rfl (l9 _ _) (zl rfl (s.ld (k:=0) rfl bJ rfl) (zo rfl (aU rfl rfl rfl (a_ aG hv)) (zt rfl (af rfl rfl BY) (by have:=IV aM; simp only [eL]; omega) ?_))))
 refine zc rfl (mK J) ?_
 rintro r h' ⟨rfl,rfl⟩
 refine zk 4 rfl ?_
 obtain ⟨i1,kB,jF,wL⟩:=uH
 have Mt:=hr.many
 obtain ⟨nv,XK,e1,s1⟩:=u_ (P:=Tryz.prog) s iO kB nY jF (by omega) rfl (by decide) (by decide) (n:=0) (c:=aM.length) (by omega) (by omega)
 dsimp only [repeatL] at s1
 refine aA.any rfl rfl rfl (OpR.of (R:=fun v h'=>v=nv∧h'=XK) (sK rfl rfl e1) ⟨rfl,rfl⟩) ?_
 rintro v h' ⟨rfl,rfl⟩
 have s:=s1.ae [1,1,2,0]
 have hnv:=s.jb (j:=3) rfl
 refine zf rfl (mO _ _) (zS rfl (s.ey (k:=2) rfl Ma rfl (by decide) hnv.1 hnv.2.1) ?_)
 rintro h s
 have me:∀x∈aM,x.Ok:=fun x hx=>by
  simp only [dD,aO,lQ,eL] at hg
  exact hg.2 x hx
 have s2:=((s.gA (φ:=True) aa).hO (B:=dg [] []) fun _ _ h=>h).ae [1,1,1,1,0]
 refine zk 7 rfl (WP.block ?_)
 refine Vo J me hr.many aM.length 0 _ [] h _ _ (by omega) ⟨_,I,s2⟩ ⟨rfl,rfl,rfl,rfl,aa⟩ (fun E h av cs hE hc => ?_)
 obtain ⟨v,I,s⟩:=hc
 refine WP.has hE ?_
 have hv:=s.aE (k:=1) rfl I
 have jr:=(s.buf (k:=5) rfl).view.cells
 have Dn:=s.jb (j:=3) rfl
 have fN:[V.int .i64 (kd:Int),V.int .u64 (tx:Int),V.int .u64 (pv:Int),V.int .u64 (nx:Int),dt,av].all storable=true:=mP jr.2 Dn.2.1
 have dZ:zR aM:=⟨by omega,fun x hx=>by have:=me x hx; unfold cq.Ok at this; omega,fun x hx=>by have:=me x hx; unfold cq.Ok at this; omega⟩
 refine zK 4 rfl (zf rfl (l9 _ _) (zl rfl (s.ld (k:=0) rfl bJ rfl) (zo rfl (aU rfl rfl rfl (a_ aG hv)) (zt rfl (af rfl rfl eA) (rfl) (zm rfl (zl rfl (s.cA (k:=2) rfl nD gL) (zc rfl (HZ J (s.ae [3,3]) jr.2 dZ) ?_)))))))
 rintro r h ⟨rfl,s⟩
 rw [hg]
 refine zq rfl (zc rfl (mK J) ?_)
 rintro r h' ⟨rfl,rfl⟩
 refine zk 3 rfl (zl rfl (s.cA (k:=4) rfl nD gL) (zS rfl (s.eH (j:=4) rfl gL rfl fN) ?_))
 rintro h s
 refine zv ?_
 refine WP.ret ⟨aa,_,TM rfl (s.cA (k:=4) rfl nD gL),?_⟩
 exact ⟨dt,av,cs,rfl,((s.ae [3,4,0,0]).del 4).del 4⟩
end
end Go.Proofs.YtefepnnfphdkpaaGreat.Am
