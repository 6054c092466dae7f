/- SpaceRoots: a part of its proof; conditions: its statement's. -/
import Derived.Test.YtefepnnfphdkpaaGreatF42
import Derived.Test.YtefepnnfphdkpaaGreatF33
import Derived.Test.YtefepnnfphdkpaaGreatF34
import Derived.Test.YtefepnnfphdkpaaGreatF24
import Derived.Test.YtefepnnfphdkpaaGreatF29
import Derived.WalkKit
import Derived.ProofKit
import Derived.OpenShut
import Derived.ChangeSlices
import Derived.Test.YtefepnnfphdkpaaGreatRows
set_option linter.defProp false
namespace Go.Proofs.YtefepnnfphdkpaaGreat.Am
open Go
def Ao:=@Tryz.underlying61
theorem Gg (M:Nat): kJ fun x=>x.2.room=M:=by
 refine ⟨fun x n h => ?_,fun x n b h => ?_⟩
 ·unfold bE Dk.cK
  split
  ·exact h
  ·split
   ·exact h
   ·split
    ·exact h
    ·split <;> first | exact h | exact h
 ·unfold Dk.bK
  split
  ·exact h
  ·split
   ·exact h
   ·split <;> exact h
section
variable {N M:Nat} {ε ε':aI} {x:LD}
end
theorem RS.fresh {n m f:Nat}: RS n 1 0 [] [] (fun _=>List.replicate 512 0) (fun _=>none) (Am.fresh n m f):=by
 have hi:∀k,imgOf (Dk.fresh n m) k=List.replicate 512 0:=fun k=>by rw [←E9 (δ:=Dk.fresh n m) rfl]; exact Ce k
 have hC:∀n b,¬kH (Pl.fresh f) n b:=fun n b ⟨i,x,hx,_,_,k2,_⟩=>by rw [qp hx] at k2; cases k2
 have hc:∀k w,yc (Dk.fresh n m) k w→w=List.replicate 512 0:=fun k w h=>by
  rcases h with h | ⟨wr,I,_⟩
  ·rw [h,hi]
  ·cases I
 refine ⟨⟨rfl,rfl,rfl,rfl,rfl,rfl,by show (-1:Int)<0; decide,rfl,rfl,rfl,fun w hw=>(by cases hw),fun r hr=>(by cases hr)⟩,?_,fun k _ _=>by rw [r9]; exact jU.refl cY,⟨fun k x hx=>by rw [qB hx]; decide,fun r hr=>(by cases hr),fun t t' k ht ⟨r,hr,_⟩ => ?_⟩⟩
 ·refine ⟨rfl,rfl,rfl,rfl,by show (-1:Int)<0; decide,⟨[],[],rfl,rfl⟩,aD _,fun k w t t' h0 ht Al hr J => ?_,fun k rec q=>(by cases q),fun k _ wr I=>(by cases I),fun k b hb=>absurd hb (hC k b),fun k rec q=>(by cases q),fun k rec q=>(by cases q),fun k b hb=>(by cases hb),fun k rec fl q=>(by cases q),fun k rec q=>(by cases q),fun k w h0 J => ?_,fun k q=>q.elim⟩
  ·obtain ⟨rfl,_⟩:=List.append_eq_nil_iff.1 ht.symm
   rw [hc k w J]
   exact jU.refl cY
  ·rw [hc k w J]; exact xT
 ·obtain ⟨rfl,_⟩:=List.append_eq_nil_iff.1 ht.symm
  cases hr
theorem Kb (F:Nat): kJ fun x=>F≤x.1.forced∧x.1.forced≤x.1.b.length:=by
 refine ⟨fun x n h => ?_,fun x n b h=>h⟩
 unfold bE
 split
 ·exact h
 ·split
  ·exact h
  ·exact ⟨cC h.1 h.2,aD _⟩
section
variable {N B kd tx aK:Nat} {ε ε':aI} {now:List (Int×List Nat)} {e:Int} {cl:Bool}
theorem pM.seven (hr:pM ε now kd tx 0 0 [] 0 aK e cl ε')(I:EI N B ε)(hB:B≤1000)(hw:NW N now)(hN:N≤1024)(h1:1≤kd)(h2:kd≤7)(FI:tx<16384):
  (cl=false∧e=7)∨(cl=true∧e=0∧cn ε'≤cn ε+now.length∧ε'.2.2.room=ε.2.2.room∧ε'.2.2.log.length≤ε.2.2.room):=by
 have J:∀n∈bU now,0≤n∧n<N:=fun n hq=>hw.keys n (jJ.1 hq)
 have ML:=I.done hB hw (by omega) (by omega) hr
 cases hr with
 | arg hh=>omega
 | dead _ _ _ hd=>rw [I.ec.dk.alive] at hd; cases hd
 | nF e c ε' _ _ _ _ hc z6=>exact absurd (hc.ec I.ec I.ok J).2.2 z6
 | app c qo _ _ _ _ hc z6 =>
  have sx:=xU (kd:=kd) hc hw hw.len (by omega) FI
  obtain ⟨c1,c2,c3⟩:=hc.ec I.ec I.ok J
  have qx:dD kd c=true:=by
   refine uL ⟨by omega,by omega⟩ (hc.fit (fun x hx=>eX (hw.good x hx).1) fun n hq => ?_)
   have:=J n hq
   omega
  rcases jl qo.2 kd tx 0 0 [] c with ⟨e,he,rQ,hq⟩ | ⟨_,Du,hq⟩ | ⟨_,hb,sy,dZ,Du,hq⟩
  ·rcases rQ with ⟨rfl,hg⟩ | ⟨_,hb⟩ | ⟨rfl,sy⟩ | ⟨rfl,hb⟩
   ·rw [qx] at hg; cases hg
   ·omega
   ·rw [c1.dk.alive] at sy; cases sy
   ·rw [hq]; exact .inl ⟨rfl,rfl⟩
  ·have:=c1.dk.aP; omega
  ·rw [hq] at z6; exact absurd rfl z6
 | put c qo e DD _ _ _ _ hc ha hp =>
  rcases ML with ⟨iG,_⟩ | ⟨_,he,_⟩
  ·cases iG
  ·have hP:=(rC ε.2.2.log.length ε.2.2.room).ch hc ⟨rfl,rfl⟩
   have hi:EI N B qo:=⟨hc.mj I.ok,(hc.ec I.ec I.ok J).1,hc.el I.el,cC hc.cn I.cn⟩
   have hpc:=hc.cn
   have dZ:dD kd c=true:=by
    refine uL ⟨by omega,by omega⟩ (hc.fit (fun x hx=>eX (hw.good x hx).1) fun n hq => ?_)
    have:=J n hq
    omega
   obtain ⟨a1,_,_⟩:=hi.app (kd:=kd) (tx:=tx) (pv:=0) (nx:=0) (data:=[]) (c:=c) hB dZ
   have Oz:=hp.cn a1.ok
   have hkl:(bU now).length=now.length:=Ck
   rcases jl qo.2 kd tx 0 0 [] c with ⟨e,he,rQ,hq⟩ | ⟨_,Du,hq⟩ | ⟨_,hb,sy,dZ,Du,hq⟩
   ·rw [hq] at ha; exact absurd ha he
   ·rw [hq] at ha; cases ha
   ·rw [hq] at hp Oz
    have iF:=(rC (ε.2.2.log.length+(dI qo.2.1 kd tx 0 0 [] c).length) ε.2.2.room).pt hp ⟨by show (qo.2.2.log++_).length=_; rw [bx,hP.1],hP.2⟩
    refine .inr ⟨rfl,he,?_,iF.2,?_⟩
    ·have h3:cn ε'≤cn qo+(bU now).length:=Oz
     omega
    ·rw [iF.1]; rw [hP.1,hP.2] at dZ; exact dZ
end
abbrev rJ : Int→List Nat:=fun _=>List.replicate 512 0
structure oh (N:Nat)(rs:List bZ)(ε:aI): Prop where
 ei:EI N 1 ε
 ex:∃g,RS N 1 0 [] rs rJ g ε
 pt:cn ε≤szB rs
 rm:ε.2.2.room=65536
 sz:szB rs≤65536
theorem oh.sm {N:Nat}{rs:List bZ}{ε ε':aI}(h:oh N rs ε)(he:EI N 1 ε')(hs:Sm N ε ε'): oh N rs ε':=by
 obtain ⟨g,I⟩:=h.ex
 exact ⟨he,⟨g,I.pre hs.2.1 hs.1⟩,cC hs.2.2 h.pt,hs.2.1 _ ((Gg 65536).vC N) h.rm,h.sz⟩
theorem oh.done {N kd aK:Nat}{rs:List bZ}{ε ε':aI}{now:List (Int×List Nat)}(h:oh N rs ε)(hw:NW N now)(hl:now.length≤8)(hN:N≤1024)(h1:1≤kd)(h2:kd≤7)(hr:pM ε now kd 0 0 0 [] 0 aK 0 true ε'):
  ∃r,oh N (rs++[r]) ε'∧aK=1+szB rs:=by
 obtain ⟨g,I⟩:=h.ex
 obtain ⟨r,g',k1,_,_,_,_,_,k7,J,k9,k10,k11,_⟩:=hr.ri h.ei (by decide) hw I.lr h1 h2 (by decide) I.ri I.st I.gd
 rcases hr.seven h.ei (by decide) hw hN h1 h2 (by decide) with ⟨q,_⟩ | ⟨_,_,q1,q2,q3⟩
 ·cases q
 rcases h.ei.done (by decide) hw (by omega) (by omega) hr with ⟨q,_⟩ | ⟨_,_,he,_⟩
 ·cases q
 have hlen:ε'.2.2.log.length=szB (rs++[r]):=by rw [J.log,f_]
 have hb:=J.b
 have sx:ε'.2.1.b.length=szB (rs++[r]):=by rw [hb,f_]
 have FK:=rM r
 have e2:szB (rs++[r])=szB rs+r.len:=by rw [pP]; simp [szB]
 have hp:=h.pt
 rw [h.rm] at q2 q3
 refine ⟨r,⟨⟨he.ok,he.ec,⟨he.el.log,he.el.cert,?_⟩,?_⟩,⟨g',J,k9,k10,k11⟩,by omega,q2,by omega⟩,k7⟩
 ·rw [J.base,sx]; omega
 ·omega
def Nf (rs:List bZ)(ε:aI): Prop:=ε.2.1.forced=szB rs
theorem oh.force {N:Nat}{rs:List bZ}{r:bZ}{ε:aI}(h:oh N (rs++[r]) ε): (bE ε.2 (1+szB rs)).1=0∧oh N (rs++[r]) (ε.1,(bE ε.2 (1+szB rs)).2)∧Nf (rs++[r]) (ε.1,(bE ε.2 (1+szB rs)).2)∧∀m,pgA (ε.1,(bE ε.2 (1+szB rs)).2) m=pgA ε m:=by
 obtain ⟨f1,f2,f3⟩:=h.ei.force (n:=1+szB rs)
 obtain ⟨g,hg⟩:=h.ex
 have FK:=rM r
 have e2:szB (rs++[r])=szB rs+r.len:=by rw [pP]; simp [szB]
 obtain ⟨x',I,J,bF,w1,w2,w3⟩:=(uR.1 hg.ri).force (1+szB rs) (by omega)
 have hlr:=(Bk 1 0 [] (rs++[r])).force ε.2 (1+szB rs) hg.lr
 rw [I] at f2 f3 hlr ⊢
 refine ⟨rfl,⟨f2,⟨g,hlr,uR.2 J,fun n a b=>by rw [f3]; exact hg.st n a b,hg.gd⟩,?_,?_,h.sz⟩,?_,f3⟩
 ·have:cn (ε.1,x')=cn ε:=by unfold cn; rw [w1]
  rw [this]; exact h.pt
 ·have:=(Gg 65536).force ε.2 (1+szB rs) h.rm
  rw [I] at this; exact this
 ·obtain ⟨u,v,hu,hf⟩:=J.forced
  show x'.1.forced=_
  rcases qC v with rfl | ⟨v,z,rfl⟩
  ·rw [bR] at hu; rw [hf,hu]
  ·obtain ⟨k1,_⟩:=mW (show rs++[r]=(u++v)++[z] by rw [hu]; simp) rfl
   have:=qu (u:=u) (v:=v)
   rw [←k1] at this
   omega
theorem oh.cr {N:Nat}{rs:List bZ}{ε:aI}(h:oh N rs ε): ε.2.2.Cr:=by
 obtain ⟨g,J⟩:=h.ex
 have I:=h.ei.cn
 have TH:=rA (ε:=ε)
 exact J.lr.cr h.ei.ok.ok.dk (by omega) (by decide)
theorem oh.X7 {N f:Nat}{rs:List bZ}{ε:aI}(h:oh N rs ε)(c:List Nat)(hf:1≤f)(Ld:f≤1024):
  ∃u w j,rs=u++w∧ε.2.1.forced≤szB u∧ow (fC ε.2.2 c) 65536∧(fC ε.2.2 c).mark=[]∧(fC ε.2.2 c).log=logB 1 u++j∧rD j∧(∀r∈u,r.Ok)∧1+(fC ε.2.2 c).log.length≤1099511627776∧(eC (fC ε.2.2 c) 1 u [] u).1=0 ∧
   EI N 1 (Pl.fresh f,(iE 1 0 u,(eC (fC ε.2.2 c) 1 u [] u).2))∧∀n,0≤n→n<(N:Int)→jU (fO u rJ n) (pgA (Pl.fresh f,(iE 1 0 u,(eC (fC ε.2.2 c) 1 u [] u).2)) n)∧jU (fO rs rJ n) (pgA ε n):=by
 obtain ⟨g,hg⟩:=h.ex
 have hdk:=h.ei.ok.ok.dk
 obtain ⟨I,Cn⟩:=SD (c:=c) h.cr
 have WZ:TV 1 0 [] rs [] ε.2.1.forced g:=⟨fun n rec hn=>by
  obtain ⟨t,_,_,_,e,_⟩:=(uR.1 hg.ri).bI n rec hn
  simp only [szB]; omega,.inl ⟨rfl,rfl,rfl⟩⟩
 obtain ⟨u,v,r2,hu,hf0,P9,Cz⟩:=hg.cr WZ hdk
 obtain ⟨t,t',J,abm⟩:=Cz.Zk c
 have e2:r2=u:=by have:=P9.1; simpa using this.symm
 subst e2
 have Bz:jK 1 rJ (r2++t) [] (r2++t) N (fC ε.2.2 c):=⟨abm,rfl,by rw [Cn]; exact h.ei.ec.dk.ax,fun k hk=>(by cases hk),kL,fun n b hb=>(by cases hb)⟩
 obtain ⟨j,e1,e2⟩:=Bz.X6
 have hlen:(fC ε.2.2 c).log.length≤16777216:=I.ok.len
 have hlu:szB (r2++t)≤szB rs:=by rw [hu,J,←bS]; exact qu
 have eZ:=h.sz
 obtain ⟨o1,o2,o3⟩:=Bz.eng (aH:=0) (B:=1) (f:=f) rfl rfl rfl SC I.ok hf Ld (by decide) (by decide) (by omega) (by decide)
 exact ⟨r2++t,t',j,by rw [hu,J,bS],by rw [hf0]; exact qu,I,hg.lr.mark,e1,e2,o3.lr.rs,by omega,o1,o2,fun n h0 h1=>⟨o3.st n h0 h1,hg.st n h0 h1⟩⟩
theorem oh.fresh {N m f:Nat}(J:N≤65536)(hm:m=65536)(h4:1≤f)(h5:f≤1024): oh N [] (Am.fresh N m f):=by
 subst hm
 have e:fJ (Pl.fresh f).ak=0:=by
  rw [fJ,List.count_eq_zero]
  intro hh
  obtain ⟨x,hx,I⟩:=List.mem_map.1 hh
  rw [qB hx] at I
  cases I
 exact ⟨EI.fresh J (by decide) h4 h5,⟨_,RS.fresh⟩,by show ([]:List Wr).length+fJ (Pl.fresh f).ak≤_; rw [e]; exact ew _,rfl,ew _⟩
theorem oh.fmt {N:Nat}{ε ε':aI}{rs:List bZ}(h:oh N rs ε)(I:N≤1024)(J:XB N 1 1 ε ε'): ∃r,oh N (rs++[r]) ε':=by
 obtain ⟨sn,now,aK,h1,h2,h3,h4,h5⟩:=J
 obtain ⟨r,hr,_⟩:=(h.sm h1 h2).done h3 (by omega) I (by decide) (by decide) h5
 exact ⟨r,hr⟩
structure W6 (told:cQ): Prop where
 w5:W5 told
 fmt:told 31=some (kD Tryz.prog 31 (IE 31))
theorem W6.w {told:cQ}(h:W6 told): W told:=h.w5.w.w
theorem W6.ws {told:cQ}(h:W6 told): WS told:=⟨h.w5.w.w,h.fmt⟩
theorem dX.TW {b I:List Nat}{kd link extra:Nat}{cs:List (List Nat)}(h:dX b kd link extra cs)(J:jU b I): dX I kd link extra cs:=h.tail J.2.1 J.2.2.symm
theorem iH.TW {N:Nat}{R M:List Nat}{P P':Int→List Nat}(h:iH N R M P)(I:jU (P 0) (P' 0))(J:jU (P 1) (P' 1)): iH N R M P':=by
 obtain ⟨ex,e0⟩:=h.head
 obtain ⟨kd,lk,og,e1⟩:=h.marks
 exact ⟨⟨ex,e0.TW I⟩,h.rl,⟨kd,lk,og,e1.TW J⟩,h.ml,h.n1,h.n2,h.own,h.hi⟩
section
variable {told:cQ} {h:H} {S:List au} {X:au} {N B g a p q r aH p7 i:Nat} {v w dv cv uv uk:V} {Rt Rk:List V} {U:List Bool} {R M data c:List Nat} {ε:aI} {now:List (Int×List Nat)} {L:List (Int×Int×Int)} {x y:Int}
theorem SN (hT:W told)(hB:B≤2000)(mo:EI N B ε)(hw:NW N now)(hm:F9 N R M (fR now ε) Rt U)(hu:storable uv=true)(s:Sat h (mC uv (fV U)::GA g a p q r data aH now ε::S)):
  Call ⟨Tryz.prog,told⟩ 32 [.ptr g 0,.agg (uv::Rt),.agg [.int .i64 3,.int .i64 x,.int .i64 y]] h fun v h'=>∃I J U' ε' cS R' M',v=.bj [.agg (I::J),.bool true]∧EI N B ε'∧Sm N ε ε'∧NW N cS∧cS.length≤now.length+2∧F9 N R' M' (fR cS ε') J U'∧storable I=true∧I.beq I=true ∧
   Sat h' (mC I (fV U')::GA g a p q r data aH cS ε'::S):=by
 have ux:=hm.BP.n1
 have sA:=hm.BP.n2
 have zW:=hm.ul
 have nM:=hm.rt.len
 have fN:=wR hm.rt hu
 refine Call.of_wp (hT.free _ rfl) Tryz.func32 rfl rfl (zg rfl (aA.b5 s rfl rfl rfl (fe rfl fN) ?_))
 intro p4 h s
 dsimp only [V.cells,List.length_cons] at s
 rw [nM] at s
 have s:Sat h (pt p4 (.cells 17 (uv::Rt) false)::_):=s
 refine aA.b5 s rfl rfl rfl (fe rfl rfl) (fun p5 h s => ?_)
 dsimp only [Nat.reduceAdd,V.cells,List.length_cons,List.length_nil] at s
 refine aA.b5 s rfl rfl rfl (bX EA) (fun p6 h s => ?_)
 dsimp only [V.cells,List.length_cons,List.length_nil,Nat.reduceAdd] at s
 refine zk 4 rfl (zl rfl (s.cA (k:=2) rfl nE ja) (zc rfl (MU hT fN nM (by omega) (by omega) (s.ae [3])) ?_))
 rintro v h ⟨wv,rfl,s⟩
 have hwv:=s.jb (j:=0) rfl
 have xu:=wR hm.rt hwv.2.1
 have s:=s.ae [4]
 dsimp only [aQ,bringA,getA] at s
 refine zS rfl (s.eH (j:=0) rfl ja (by rw [aS,nM]) xu) ?_
 rintro h s
 dsimp only [setA] at s
 have s:=s.ae [0,3,2,0,1]
 dsimp only [bringA,getA,aQ] at s
 refine zk 4 rfl (zf rfl (HB _ _) (zl rfl (s.ld (k:=1) rfl dL rfl) (zv (WP.block (zK 3 rfl (zh rfl (af rfl rfl eA) (by decide) ?_))))))
 refine zk 4 rfl (zh rfl (af rfl rfl eA) (by decide) ?_)
 refine zk 5 rfl (zh rfl (af rfl rfl eA) (by decide) ?_)
 refine za rfl (zv (zj rfl (WP.skip ?_)))
 refine Zd hT hB mo hw hm s ⟨rfl,rfl,rfl,rfl,aa⟩ (fun I J U' ε' cS R' M' E' h' g1 g2 g3 g4 g5 g6 g7 s' => ?_)
 have hv:=s'.jb (j:=3) rfl
 have s2:=DG (s'.ae [3]) (by rw [m9,g5.ul]; omega)
 exact ⟨aa,_,Zc g6 (s'.cA (k:=2) rfl nE ja) g7,I,J,U',ε',cS,R',M',rfl,g1,g2,g3,g4,g5,hv.2.1,hv.2.2,(((s2.ae [0,3]).del 5).del 4).del 3 |>.del 2⟩
structure RoS (N:Nat)(rs:List bZ)(ε:aI)(Rk:List V)(U:List Bool)(uk:V): Prop where
 ro:oh N rs ε
 md:∃R M,F9 N R M (pgA ε) Rk U
 all:Nf rs ε∨((∃r,rs=[r])∧Rk=F8)
 su:storable uk=true∧uk.beq uk=true
theorem Vw {N:Nat}{rs:List bZ}{ε ε':aI}(h:oh N rs ε)(he:oh N rs ε')(hs:Sm N ε ε')(ha:Nf rs ε): Nf rs ε':=by
 have I:=hs.2.1 _ ((Kb (szB rs)).vC N) ⟨Nat.le_of_eq ha.symm,by
  obtain ⟨g,J⟩:=h.ex
  rw [ha,J.lr.b,f_]; exact aD _⟩
 have I:szB rs≤ε'.2.1.forced∧ε'.2.1.forced≤ε'.2.1.b.length:=I
 obtain ⟨g,J⟩:=he.ex
 rw [J.lr.b,f_] at I
 exact Nat.le_antisymm I.2 I.1
noncomputable def roL : Code:=dB [1,1,1,1,1,0,1,0,0] ((Tryz.f6.body).getD .skip)
theorem Vx (hT:W6 told)(hN:N=12)(hLn:L.length≤1048576): ∀(d i:Nat) (rs:List bZ) (ε:aI) (Rk:List V) (U:List Bool) (uk:V) (h:H) (E:List (Nat×V)) (Q:Ex→List (Nat×V)→H→Prop),i+d=L.length →
  RoS N rs ε Rk U uk→Sat h (SA a p q r .cu [] 0 ε::pt p7 (.cells 17 (uk::Rk) false)::mC uk (fV U)::xP 3 dv (yw L)::.cx cv c::S) →
  Has E [(0,dv),(1,cv),(5,.ptr p 0),(6,.ptr a 0),(7,.ptr p7 0),(8,.int .i64 (i:Int))] →
  (∀E' h',look E' 4=some (.bool true)→Q .ret E' h') →
  (∀rs' ε' Rk' U' X8 E' h',RoS N rs' ε' Rk' U' X8→Has E' [(1,cv),(5,.ptr p 0),(6,.ptr a 0),(7,.ptr p7 0)]→Sat h' (SA a p q r .cu [] 0 ε'::pt p7 (.cells 17 (X8::Rk') false)::mC X8 (fV U')::.cx cv c::S)→Q (.exit 0) E' h') →
  WP ⟨Tryz.prog,told⟩ 136 (.loop roL) E h Q:=by
 have hW:=hT.w
 have iG:=Vm L
 intro d
 induction d with
 | zero =>
  intro i rs ε Rk U uk h E Q hi hr s hE J hx
  refine WP.loop (WP.has hE (zK 5 rfl (zo rfl (aU rfl rfl rfl (s.Pf (n:=L.length) (j:=3) rfl iG (by decide) Ao)) ?_)))
  refine zh rfl (af rfl rfl aT) (by simp; omega) ?_
  exact zk 2 rfl (WP.exit (hx rs ε Rk U uk _ _ hr ⟨rfl,rfl,rfl,rfl,aa⟩ (s.del 3)))
 | succ d ih =>
  intro i rs ε Rk U uk h E Q hi hr s hE J hx
  obtain ⟨D,hD⟩:∃D,L[i]?=some D:=⟨_,bf (by omega)⟩
  obtain ⟨z,x,y⟩:=D
  obtain ⟨R1,M1,hm⟩:=hr.md
  have hrk:=hm.rt.len
  have acr:=wR hm.rt hr.su.1
  refine WP.loop (WP.has hE (zK 5 rfl (zo rfl (aU rfl rfl rfl (s.Pf (n:=L.length) (j:=3) rfl iG (by decide) Ao)) ?_)))
  refine zt rfl (af rfl rfl aT) (by simp; omega) ?_
  refine zk 4 rfl (WP.block (zK 3 rfl (zc rfl (F7 hW s) ?_)))
  rintro v h ⟨g,rfl,s⟩
  refine zk 6 rfl (zh rfl (af rfl rfl (vh ql)) (rfl) ?_)
  obtain ⟨id,off,e1,e2⟩:=s.Y3 (P:=Tryz.prog) (i:=i) (j:=3) rfl (by omega) (by decide) Ao Mb Q2
  rw [Lj hD] at e2
  refine zk 7 rfl (zo rfl (dr (r:=.ptr id off) rfl rfl e1) (zl rfl e2 ?_))
  refine aA.b5 s rfl rfl rfl (bX aaB) (fun p10 h s => ?_)
  dsimp only [V.cells,List.length_cons,List.length_nil,Nat.reduceAdd] at s
  refine zS rfl (s.eH (j:=0) rfl Mb rfl rfl) (fun h s => ?_)
  dsimp only [setA] at s
  refine zk 3 rfl (zf rfl (HB _ _) ?_)
  refine zS rfl (by exact s.ey (k:=0) rfl kW rfl (by decide) rfl rfl) (fun h s => ?_)
  dsimp only [Nat.reduceAdd,List.set,setA] at s
  refine zk 4 rfl (zl rfl (s.cA (k:=2) rfl nE ja) (zl rfl (s.cA (k:=0) rfl Q2 Mb) (zc rfl (SN hW (by omega) hr.ro.ei (NW.nil N) hm hr.su.1 (((s.ae [3]).dup (aW.mC _ _)).ae [0,2])) ?_)))
  rintro v h ⟨un,Rn,Un,sn,now,R2,M2,rfl,pO,ig,pY,wM,rP,hsu,hbu,s⟩
  have hrn:=rP.rt.len
  have X9:=wR rP.rt hsu
  have SO:=hr.ro.sm pO ig
  refine zk 3 rfl ?_
  refine aA.b5 s rfl rfl rfl (bX EA) (fun p11 h s => ?_)
  dsimp only [V.cells,List.length_cons,List.length_nil,Nat.reduceAdd,aQ,bringA] at s
  refine zS rfl (s.eH (j:=0) rfl ja (by rw [aS,hrn]) X9) ?_
  rintro h s
  dsimp only [setA] at s
  refine zk 6 rfl (zo rfl (eD rfl rfl) (zv ?_))
  obtain ⟨id,off,g1,g2,g3⟩:=s.XP (P:=Tryz.prog) (i:=i) (j:=6) rfl (by omega) (by decide) Ao Mb Q2
  rw [Lj hD] at g2 g3
  refine zK 7 rfl (zo rfl (dr (r:=.ptr id off) rfl rfl g1) (zf rfl (HB _ _) (zl rfl (g3 0 _ _ rfl dL) ?_)))
  obtain ⟨k,hk,hke⟩:=Sd (k:=z) (m:=1) (by decide)
  refine zo rfl (af (r:=.int .i64 (k:Int)) rfl rfl hke) ?_
  have Aj:∃R M,F9 N R M (pgA sn) Rk U:=⟨R1,M1,by rw [show pgA sn=pgA ε from funext ig.1]; exact hm⟩
  by_cases SX:k=0
  ·skip
   refine zt rfl (af rfl rfl eA) (by simp; omega) ?_
   refine zk 5 rfl (zc rfl (PS hW (s.ae [2])) ?_)
   rintro v h ⟨rfl,s⟩
   refine zv (WP.exit (zK 2 rfl (zb rfl (by exact br (aC (by omega) (by omega))) ?_)))
   refine za rfl (zv ?_)
   refine ih (i+1) rs sn Rk U uk _ _ Q (by omega) ⟨SO,Aj,hr.all.imp (Vw hr.ro SO ig) fun w=>w,hr.su⟩ ((((s.ae [0,4,2,3,3]).del 7).del 6).del 5) ⟨rfl,rfl,rfl,rfl,rfl,rfl,aa⟩ J hx
  ·skip
   refine zh rfl (af rfl rfl eA) (by simp; omega) ?_
   refine zk 6 rfl (zo rfl (c_ rfl (DE (kd:=1))) (zc rfl (F5 (kd:=1) hW (by omega) pO pY (s.ae [2])) ?_))
   rintro v h ⟨aK,e,cl,I,IG,rfl,s⟩
   rcases IG.seven pO (by decide) pY (by omega) (by decide) (by decide) (by decide) with ⟨rfl,rfl⟩ | ⟨rfl,rfl,_,_,_⟩
   ·skip
    refine zk 10 rfl (zt rfl (af rfl rfl aN) (by decide) ?_)
    refine zk 11 rfl (zt rfl (af rfl rfl eA) (by decide) ?_)
    exact zk 2 rfl (WP.ret (J _ _ rfl))
   ·skip
    obtain ⟨r0,SP,rfl⟩:=SO.done pY (by have:([]:List (Int×List Nat)).length=0:=rfl; omega) (by omega) (by decide) (by decide) IG
    obtain ⟨_,_,_,abn⟩:=(pO.done (by decide) pY (by decide) (by decide) IG).resolve_left (by rintro ⟨q,_⟩; cases q)
    have abo:F9 N R2 M2 (pgA I) Rn Un:=⟨rP.BP.done pY abn,rP.rt,rP.ul,rP.us⟩
    obtain ⟨f1,abp,mE,MT⟩:=SP.force
    have s:Sat h (fZ g a now true::SA a p q r .cu [] 0 I::_):=s
    have s:=bQ.1 (s.ae [1])
    dsimp only [aQ,bringA,List.cons_append,List.nil_append] at s
    refine zk 10 rfl (zh rfl (af rfl rfl aN) (by decide) ?_)
    refine zk 3 rfl (zc rfl (Pc (n:=1+szB rs) hW (s.ae [0,1,1]) SP.ei.ok.ok.lg SP.ei.ok.ok.dk.aP) ?_)
    rintro v h ⟨rfl,s⟩
    rw [f1]
    have s:Sat h (SA a p q r .cu [] 0 (I.1,(bE I.2 (1+szB rs)).2)::_):=bQ.2 (s.ae [0,2,0,0])
    refine zh rfl (af rfl rfl aN) (by decide) ?_
    refine zk 5 rfl (zl rfl (s.cA (k:=2) rfl nE ja) ?_)
    dsimp only [aQ,bringA] at s
    refine zS rfl (s.eH (j:=6) rfl ja (by rw [aS,hrn]) X9) ?_
    rintro h s
    dsimp only [setA] at s
    refine zv (zr rfl (zm rfl (zb rfl (by exact br (aC (by omega) (by omega))) ?_)))
    refine za rfl (zv ?_)
    exact ih (i+1) (rs++[r0]) (I.1,(bE I.2 (1+szB rs)).2) Rn Un un _ _ Q (by omega) ⟨abp,⟨R2,M2,by rw [show pgA (I.1,(bE I.2 (1+szB rs)).2)=pgA I from funext MT]; exact abo⟩,.inl mE,hsu,hbu⟩ (((((s.ae [0,5,2,4,4]).del 8).del 7).del 6).del 5) ⟨rfl,rfl,rfl,rfl,rfl,rfl,aa⟩ J hx
theorem Qh (hT:W6 told)(hLn:L.length≤1048576)(s:Sat h (xP 3 dv (yw L)::.cx cv c::S)): Call ⟨Tryz.prog,told⟩ 6 [dv,cv] h fun v h'=>v=.bool true:=by
 have I:=hT.w
 have X_:b7 (List.replicate 512 0)=false:=by decide +kernel
 refine Call.of_wp (I.free _ rfl) Tryz.func6 rfl rfl (zK 7 rfl (zc rfl (PO hT.ws s) ?_))
 rintro v h ⟨rfl,s⟩
 refine zo rfl (eD rfl rfl) (zk 5 rfl (zc rfl (Dt (n:=12) (m:=65536) (f:=12) I s (by decide) (by decide) (by decide) (by decide) (by decide)) ?_))
 rintro v h ⟨p,a,q,r,rfl,s⟩
 have s:Sat h (SA a p q r .cu [] 0 (fresh 12 65536 12)::_):=bQ.2 s
 refine zk 10 rfl (zh rfl (af rfl rfl (vh qn)) (rfl) (zk 2 rfl (zc rfl (F6 (N:=12) (B:=1) (K:=0) (m:=65536) hT.ws (by decide) (EI.fresh (by decide) (by decide) (by decide) (by decide)) (by decide) (by decide) (by rw [r9]; exact cY) (by rw [r9]; exact X_) ⟨aD _,rfl⟩ (by decide) s) ?_)))
 rintro v h ⟨rfl,ε,_,hp,_,s,hg⟩
 obtain ⟨r0,Hj⟩:=(oh.fresh (N:=12) (f:=12) (by decide) rfl (by decide) (by decide)).fmt (by decide) hg
 refine zh rfl (af rfl rfl aN) (rfl) (zk 6 rfl (zc rfl (PN (n:=12) I (by decide) (by decide) s) ?_))
 rintro v h ⟨uv,rfl,fN,s⟩
 have uw:=(s.XF (j:=0) rfl).2.2
 have xu:(uv::F8).all storable=true:=by rw [fH,fN]; rfl
 refine aA.b5 s rfl rfl rfl (bX EA) (fun p7 h s => ?_)
 refine zS rfl (s.eH (j:=0) rfl ja rfl xu) ?_
 rintro h s
 have s:Sat h (pt p7 (.cells 17 (uv::F8) false)::mC uv (fV (IN 12))::SA a p q r .cu [] 0 ε::xP 3 dv (yw L)::.cx cv c::S):=s
 refine zk 6 rfl (WP.block ?_)
 refine Vx hT rfl hLn L.length 0 [r0] ε F8 (IN 12) uv _ _ _ (by omega) ⟨Hj,⟨_,_,hp,BO.zero,Vk,fun i hi=>by rw [Vl hi,DF]⟩,.inr ⟨⟨r0,rfl⟩,rfl⟩,fN,uw⟩ (s.ae [2,0]) ⟨rfl,rfl,rfl,rfl,rfl,rfl,aa⟩ (fun E' h' hr=>⟨aa,_,ue hr,rfl⟩) (fun rs ε Rk U uk E' h' hr hE s' => ?_)
 have s:=s'
 obtain ⟨R,M,hm⟩:=hr.md
 have hrk:=hm.rt.len
 obtain ⟨u,w,j,hu,hf,SY,Aj,e1,e2,e3,e4,o1,J,CF⟩:=hr.ro.X7 (f:=12) c (by decide) (by decide)
 have Zl:u=rs∨(u=[]∧Rk=F8):=by
  rcases hr.all with ha | ⟨⟨r1,rfl⟩,hR⟩
  ·rcases qC w with rfl | ⟨w,z,rfl⟩
   ·rw [bR] at hu; exact .inl hu.symm
   ·exfalso
    have hz:=rM z
    rw [ha,hu,List.concat_eq_append,←bS,pP] at hf
    have:=qu (u:=u) (v:=w)
    simp only [szB] at hf
    omega
  ·cases u with
   | nil=>exact .inr ⟨rfl,hR⟩
   | cons x u=>cases u with
    | nil=>cases w with
     | nil=>exact .inl (by simpa using hu.symm)
     | cons y w=>simp at hu
    | cons y u=>simp at hu
 have Cz:=hr.ro.cr
 refine WP.has hE ?_
 have s:=bQ.1 s
 have s:=s.ae [3,5]
 refine zK 4 rfl (zc rfl (Sn (c:=c) I s (dy _ _) Cz) ?_)
 rintro v h ⟨q4,rfl,s⟩
 refine zc rfl (SB (n:=12) (base:=1) (aH:=0) (rs:=u) (dw:=[]) (fP:=u) (data:=[]) hT.w5 (by decide) (by decide) s SY rfl (.inl ⟨Aj,rfl,rfl⟩) e4 (by decide) e1 e3 e2 ⟨rfl,.inl ⟨rfl,rfl,rfl⟩⟩) ?_
 rintro v h (⟨h0,_⟩ | ⟨_,a5,q5,r5,rfl,s⟩)
 ·exact absurd o1 h0
 have s:Sat h (SA a p q r .cu [] 0 ε::_):=bQ.2 (s.ae [6,6,6,4])
 have s:=s.ae [0,6]
 refine zk 10 rfl (zh rfl (af rfl rfl aN) (by decide) ?_)
 refine zk 2 rfl (zh rfl (af rfl rfl (vh qn)) (rfl) (zk 3 rfl (zo rfl (u9 rfl (rW qn rfl)) (zl rfl (s.cA (k:=7) rfl nE ja) (zc rfl (IL I (IA I (by decide)) hr.ro.ei (by decide) hm.BP hm.rt hr.su.1 hm.ul hm.us s) ?_)))))
 rintro v h ⟨rfl,_,_,_,s⟩
 refine zo rfl (eD rfl rfl) (zk 7 rfl (zo rfl (u9 rfl (rW qn rfl)) ?_))
 have s:Sat h (SA a5 q4 q5 r5 .cu [] 0 (Pl.fresh 12,(iE 1 0 u,(eC (fC ε.2.2 c) 1 u [] u).2))::_):=bQ.2 (s.ae [2,2,2,2])
 generalize (Pl.fresh 12,(iE 1 0 u,(eC (fC ε.2.2 c) 1 u [] u).2))=ε5 at J CF s
 have s:=s.ae [0,1]
 rcases Zl with rfl | ⟨hu0,rfl⟩
 ·have ha:∀n,0≤n→n<((12:Nat):Int)→jU (pgA ε n) (pgA ε5 n):=fun n h0 h1=>(CF n h0 h1).2.symm.trans (CF n h0 h1).1
  have SQ:=hm.BP.TW (ha 0 (by decide) (by decide)) (ha 1 (by decide) (by decide))
  obtain ⟨ex,pX⟩:=SQ.head
  refine zc rfl (Ag I (IA I (by decide)) J (by decide) pX SQ.rl s) ?_
  rintro v h ⟨ε6,rfl,aaa,Ya,s⟩
  have abq:=SQ.aa_ (P':=pgA ε6) (Ya.1 0) (Ya.1 1)
  refine zk 9 rfl (zt rfl (af rfl rfl eA) (by decide) ?_)
  refine zk 2 rfl (zo rfl (eD rfl rfl) (zk 16 rfl (zo rfl (u9 rfl (rW qn rfl)) (zl rfl (s.cA (k:=4) rfl nE ja) (zc rfl (IL I (IA I (by decide)) aaa (by decide) abq hm.rt hr.su.1 hm.ul hm.us s) ?_)))))
  rintro v h ⟨rfl,_⟩
  refine zk 5 rfl (WP.ret ⟨aa,_,rfl,?_⟩)
  rfl
 ·have hz:=(CF 0 (by decide) (by decide)).1
  rw [hu0] at hz
  have hz:jU (List.replicate 512 0) (pgA ε5 0):=hz
  refine zc rfl (yu I (IA I (by decide)) J (by decide) hz.2.1 (by rw [←hz.good]; exact X_) s) ?_
  rintro v h ⟨ε6,rfl,aaa,Ya,s⟩
  refine zk 9 rfl (zt rfl (af rfl rfl eA) (by decide) ?_)
  refine zk 2 rfl (zo rfl (eD rfl rfl) (zm rfl (zf rfl (kY _ _) (zl rfl (s.ld (k:=4) rfl qY rfl) (zo rfl (aU rfl rfl rfl (s.DI (n:=12) (j:=1) rfl hm.ul mq)) (zt rfl (af rfl rfl eA) (by decide) ?_))))))
  refine zk 2 rfl (zf rfl (HA _ _) (zl rfl (Ou aaz aay (s.row (k:=4) rfl) rfl (by decide)) ?_))
  refine zo rfl (c_ rfl (by rw [aaA]; rfl)) ?_
  refine zt rfl (af rfl rfl (by kernel_rfl)) (rfl) ?_
  refine zk 13 rfl (WP.ret ⟨aa,_,rfl,?_⟩)
  rfl
end
def Jb (c:Ctx): Prop:=∀id,id<c.N→c.X id=true
noncomputable def Ctx.fix (c:Ctx)(w:World)(b off:Nat): Ctx:=⟨fun i=>if i=c.N then (b,off) else c.ρ i,fun x=>if x=b then rowSize w b else c.Z x,c.N+1,fun i=>if i=c.N then true else c.X i⟩
theorem Rel.fix {c:Ctx}{σ:H}{w:World}(h:Rel c σ w)(hX:Jb c){b off:Nat}{cs:List V}{C:Array Value}{e:TypeId}{fz:Nat×Nat}(hb:w.heap[b]?=some (.cells C e fz))(hl:off+cs.length≤C.size)
 (hc:∀j v,cs[j]?=some v→C[off+j]?=some (conc c v))(jP:∀v∈cs,wf c v∧storable v=true):
  Rel (c.fix w b off) (σ.new (.cells cs.length cs true)) w∧Jb (c.fix w b off)∧Ext c (c.fix w b off)∧(c.fix w b off).ρ σ.next=(b,off)∧σ.next<(c.fix w b off).N:=by
 have hold:∀i,i<c.N→(c.fix w b off).ρ i=c.ρ i:=fun i hi=>by simp [Ctx.fix,jg hi]
 have Cy:∀i,i<c.N→(c.fix w b off).X i=c.X i:=fun i hi=>by simp [Ctx.fix,jg hi]
 have I:(c.fix w b off).ρ c.N=(b,off):=by simp [Ctx.fix]
 have hnX:(c.fix w b off).X c.N=true:=by simp [Ctx.fix]
 have hN:(c.fix w b off).N=c.N+1:=rfl
 have bF:b<w.heap.size:=(Array.getElem?_eq_some_iff.1 hb).1
 have mE:Jb (c.fix w b off):=fun i hi=>by
  by_cases J:i=c.N
  ·rw [J]; exact hnX
  ·rw [Cy i (by rw [hN] at hi; omega)]; exact hX i (by rw [hN] at hi; omega)
 have ex:Ext c (c.fix w b off):=⟨by rw [hN]; omega,hold,fun i hi=>by
  show (if (c.ρ i).1=b then rowSize w b else c.Z (c.ρ i).1)=_
  split
  ·rename_i he; rw [h.zz i hi,he]
  ·rfl,Cy⟩
 have key:∀i o,(σ.new (.cells cs.length cs true)).tr.get i=some o→(i=c.N∧o=.cells cs.length cs true)∨(i<c.N∧σ.tr.get i=some o):=by
  intro i o hi
  rw [iz,h.next] at hi
  by_cases J:i=c.N
  ·simp [J] at hi; exact .inl ⟨J,hi.symm⟩
  ·simp [J] at hi; exact .inr ⟨h.live i o hi,hi⟩
 refine ⟨⟨by simp [H.new,h.next,hN],fun i o hi => ?_,fun i hi => ?_,fun i hi => ?_,fun i j o o' hi hj he => ?_,fun i o hi => ?_,fun i o9 nt hi hx => ?_,fun i o hi hx => ?_⟩,mE,ex,by rw [h.next]; exact I,by rw [h.next,hN]; omega⟩
 ·rw [hN]; rcases key i o hi with ⟨J,_⟩ | ⟨J,_⟩ <;> omega
 ·rw [hN] at hi
  by_cases J:i=c.N
  ·rw [J,I]; exact bF
  ·rw [hold i (by omega)]; exact h.lF i (by omega)
 ·rw [hN] at hi
  by_cases J:i=c.N
  ·rw [J,I]; show (if b=b then rowSize w b else c.Z b)=_; rw [aj rfl]
  ·rw [hold i (by omega)]
   show (if (c.ρ i).1=b then rowSize w b else c.Z (c.ρ i).1)=_
   split
   ·rename_i he; rw [he]
   ·exact h.zz i (by omega)
 ·have li:i<c.N+1:=by rcases key i o hi with ⟨J,_⟩ | ⟨J,_⟩ <;> omega
  have lj:j<c.N+1:=by rcases key j o' hj with ⟨J,_⟩ | ⟨J,_⟩ <;> omega
  exact .inr ⟨mE i (by rw [hN]; exact li),mE j (by rw [hN]; exact lj)⟩
 ·rcases key i o hi with ⟨rfl,rfl⟩ | ⟨a1,a2⟩
  ·refine ⟨rfl,fun v hv=>⟨(cg ex v (jP v hv).1).2,(jP v hv).2⟩,C,e,fz,by rw [I]; exact hb,by rw [I]; exact hl,fun j v hj => ?_,aa⟩
   rw [I,(cg ex v (jP v (bC hj)).1).1]
   exact hc j v hj
  ·exact (h.obj i o a2).later ex a1 rfl
 ·have li:i<c.N+1:=by rcases key i _ hi with ⟨J,_⟩ | ⟨J,_⟩ <;> omega
  rw [mE i (by rw [hN]; exact li)] at hx; cases hx
 ·rcases key i o hi with ⟨_,rfl⟩ | ⟨a1,a2⟩
  ·exact ⟨_,_,rfl⟩
  ·rw [Cy i a1] at hx; exact h.fx i o a2 hx
theorem Kc {c c':Ctx}{w w':World}(hX:Jb c)(h:cV c w c' w'): w.keptBut w' (fun _=>False)∧w.heap.size≤w'.heap.size∧∀b,b<w.heap.size→w'.heap[b]?=w.heap[b]?:=by
 have J:∀b,b<w.heap.size→w'.heap[b]?=w.heap[b]?:=fun b hb=>h.mD b hb fun id I _=>hX id I
 refine ⟨⟨h.sys.1,h.sys.2,fun i hi => ?_⟩,h.size,J⟩
 rw [J i hi]
 split <;> simp_all
end Go.Proofs.YtefepnnfphdkpaaGreat.Am
namespace Go.Proofs.YtefepnnfphdkpaaGreat.Am
open Go Go.ChangeShapes
def Ap (W:World)(S:List au)(c:Ctx)(σ:H): Prop:=Rel c σ W∧Jb c∧Sat σ S
theorem Ap.zero (W:World): ∃c σ,Ap W [] c σ:=by
 refine ⟨_,_,Rel.empty W,fun id h=>absurd h (Ee _),⟨fun id o h=>by simp [T.jX] at h,fun _=>none,fun _=>none,fun _ _ h=>(by cases h),fun _ _ h=>(by cases h),fun _=>.inl rfl,aa⟩⟩
theorem Ap.sat {W:World}{S S':List au}{c:Ctx}{σ:H}(h:Ap W S c σ)(hs:∀h,Sat h S→Sat h S'): Ap W S' c σ:=⟨h.1,h.2.1,hs σ h.2.2⟩
def oI {α:Type}(W:World)(cs:List Value)(E:List V→α→au)(φ:α→Prop): Prop :=
 ∀(c:Ctx) (σ:H) (S:List au),Ap W S c σ→∃(c':Ctx) (I:H) (vs:List V) (x:α),Ap W (E vs x::S) c' I∧Ext c c'∧vs.map (conc c')=cs∧(∀v∈vs,wf c' v∧storable v=true)∧φ x
theorem oI.rows {W:World}{α:Type}{E:List V→α→au}{A:List V→List α→au}{φ:α→Prop}(hE:∀vs x,aW (E vs x))(hA:∀l m,aW (A l m))(BV:∀m r,(A [] []).p m r)(J:∀vs x l m a b,(E vs x).p a b→(A l m).p a b→(A (vs++l) (x::m)).p a b):
  ∀(I:List (List Value)),(∀cs∈I,oI W cs E φ)→oI W I.flatten A (fun xs=>xs.length=I.length∧∀x∈xs,φ x):=by
 intro I
 induction I with
 | nil =>
  intro _ c σ S h
  exact ⟨c,σ,[],[],h.sat fun h s=>(s.gA (φ:=True) aa).hO fun m r _=>BV m r,Ext.refl c,rfl,fun v hv=>(by cases hv),rfl,fun x hx=>(by cases hx)⟩
 | cons cs I ih =>
  intro hc c σ S h
  obtain ⟨c1,Yb,l,m,h1,e1,m1,w1,n1,p1⟩:=ih (fun x hx=>hc x (bn _ hx)) c σ S h
  obtain ⟨c2,σ2,vs,x,h2,e2,m2,w2,p2⟩:=hc cs bu c1 Yb _ h1
  obtain ⟨q1,q2⟩:=nr e2 fun v hv=>(w1 v hv).1
  refine ⟨c2,σ2,vs++l,x::m,h2.sat fun h s=>s.two (hE _ _) (hA _ _) fun a b k1 k2=>J _ _ _ _ _ _ k1 k2,e1.trans e2,?_,fun v hv => ?_,by simp [n1],fun y hy => ?_⟩
  ·rw [Ef,m2,q1,m1,List.flatten_cons]
  ·rcases List.mem_append.1 hv with hv | hv
   ·exact w2 v hv
   ·exact ⟨q2 v hv,(w1 v hv).2⟩
  ·rcases List.mem_cons.1 hy with rfl | hy
   ·exact p2
   ·exact p1 y hy
def Qi {α:Type}(k:Nat)(A:List V→List α→au)(vs:List V)(x:List α): au:=.xs fun v:V=>.xs fun cs:List V=>.an (.pu (vs=[v])) (.an (xP k v cs) (A cs x))
theorem oI.abr {W:World}{α:Type}{k:Nat}{A:List V→List α→au}{φ:List α→Prop}(I:∀m r,(A [] []).p m r)(J:φ []): oI W [.slice none 0 0] (Qi k A) φ:=fun c σ S h =>
 ⟨c,σ,[.bw],[],h.sat fun h s=>(s.gA (φ:=True) aa).hO fun m r _=>⟨.bw,[],rfl,⟨none,.inl rfl,rfl⟩,I m r⟩,Ext.refl c,by simp [conc],fun v hv=>by rw [List.mem_singleton.1 hv]; exact ⟨aa,rfl⟩,J⟩
theorem oI.Yc {W:World}{α:Type}{k:Nat}{A:List V→List α→au}{φ:List α→Prop}{a:Addr}(I:∀m r,(A [] []).p m r)(J:φ []): oI W [.slice (some a) 0 0] (Qi k A) φ:=fun c σ S h =>
 ⟨c,σ,[.sle a],[],h.sat fun h s=>(s.gA (φ:=True) aa).hO fun m r _=>⟨.sle a,[],rfl,⟨none,.inr ⟨a,rfl⟩,rfl⟩,I m r⟩,Ext.refl c,by simp [conc],fun v hv=>by rw [List.mem_singleton.1 hv]; exact ⟨aa,rfl⟩,J⟩
theorem oI.abt {W:World}{α:Type}{k b off len cap:Nat}{A:List V→List α→au}{φ:List α→Prop}{cs:List Value}{C:Array Value}{e:TypeId}{fz:Nat×Nat}(hb:W.heap[b]?=some (.cells C e fz))(hl:off+cs.length≤C.size)(hn:cs.length=len*k)(J:len≤cap)
 (hc:∀j v,cs[j]?=some v→C[off+j]?=some v)(hA:∀l m,aW (A l m))(ho:oI W cs A φ): oI W [.slice (some ⟨b,off,none⟩) len cap] (Qi k A) φ:=by
 intro c σ S h
 obtain ⟨c1,I,vs,x,h1,e1,m1,w1,p1⟩:=ho c σ S h
 have hlen:vs.length=cs.length:=by rw [←m1,fS]
 obtain ⟨g1,g2,g3,g4,g5⟩:=h1.1.fix h1.2.1 hb (cs:=vs) (off:=off) (by omega) (fun j v hv=>hc j _ (by rw [←m1,mV,hv]; rfl)) w1
 refine ⟨_,_,[.sl I.next 0 len (.exact cap)],x,⟨g1,g2,?_⟩,e1.trans g3,?_,fun v hv => ?_,p1⟩
 ·have s1:Sat (I.new (.cells vs.length vs true)) (.ro I.next (.cells vs.length vs true)::A vs x::S):=(h1.2.2.new _).freeze
  refine s1.two (aW.ro _ _) (hA _ _) fun m r k1 k2=>⟨_,vs,rfl,⟨some (I.next,len,cap),k1,rfl,by rw [hlen,hn]⟩,k2⟩
 ·simp [conc,g4]
 ·rw [List.mem_singleton.1 hv]
  exact ⟨⟨g5,J⟩,rfl⟩
def byE (vs:List V)(l:List Nat): au:=.xs fun v:V=>.an (.pu (vs=[v])) (.cx v l)
theorem Jc {W:World}{a:Addr}{v:Value}(h:W.cell? a=some v): ∃b off,a=⟨b,off,none⟩∧∃C e I,W.heap[b]?=some (.cells C e I)∧C[off]?=some v:=by
 obtain ⟨b,off,spot⟩:=a
 have hs:spot=none:=World.cell?_spot h
 subst hs
 refine ⟨b,off,rfl,?_⟩
 unfold World.cell? at h
 split at h
 ·rename_i C e I J
  exact ⟨C,e,I,J,by simpa using h⟩
 ·cases h
theorem Ls {α β:Type}{f:α→β}{l:List α}{b:β}(h:l.map f=[b]): ∃a,l=[a]∧f a=b:=by
 rcases l with _ | ⟨a,_ | ⟨c,l⟩⟩
 ·cases h
 ·simp at h; exact ⟨a,rfl,h⟩
 ·simp at h
end Go.Proofs.YtefepnnfphdkpaaGreat.Am
namespace Go.Proofs.YtefepnnfphdkpaaGreat.Am
open Go Go.ChangeShapes Go.WideShapes Go.ChangeAt Go.RowKit
theorem SR {H:Type}(d:DataW H): 1≤Rows.uptoBulk d:=by
 cases d with
 | lit l=>cases l <;> simp [Rows.uptoBulk]
 | nil=>simp [Rows.uptoBulk]
 | ptr d=>simp [Rows.uptoBulk]
 | slice elems spare=>simp [Rows.uptoBulk]
 | agg parts=>simp [Rows.uptoBulk]
 | iface t d=>simp [Rows.uptoBulk]
 | map entries=>simp [Rows.uptoBulk]
 | held h=>simp [Rows.uptoBulk]
theorem Aq {H:Type}{d:DataW H}: ∀ {l:List (DataW H)},d∈l→Rows.uptoBulk d≤Rows.uptoBulkAll l:=by
 intro l
 induction l with
 | nil=>intro h; cases h
 | cons x r I =>
  intro h
  simp only [Rows.uptoBulkAll]
  rcases List.mem_cons.1 h with e | e
  ·subst e; omega
  ·have:=I e; omega
theorem Jd {H:Type}: ∀(l:List (DataW H)),l.length≤Rows.uptoBulkAll l:=by
 intro l
 induction l with
 | nil=>exact ew _
 | cons x r I=>have:=SR x; simp only [Rows.uptoBulkAll,aS]; omega
theorem DQ {H:Type}(a b:List (DataW H)): Rows.uptoBulk (.slice a b)=Rows.uptoBulkAll a+Rows.uptoBulkAll b+1:=by simp only [Rows.uptoBulk]
theorem Lt {W:World}{b o:Nat}{C:Array Value}{e:TypeId}{I:Nat×Nat}(J:W.heap[b]?=some (.cells C e I)): W.cell? ⟨b,o,none⟩=C[o]?:=by
 unfold World.cell?
 simp only [J]
 rfl
section
variable {H':Type} {enc:TypeId×Value→H'} {W:World} {fuel B:Nat} {cs:List Value} {x:DataW H'×List MemPlace}
theorem Vy (h:DataW.trod enc Tryz.prog W 0 (fun _=>true) true fuel 28 cs=some x)(hB:Rows.uptoBulk x.1≤B): oI W cs byE (fun l=>l.length≤B):=by
 rcases open_ints aG Tryz.underlying5 (by kernel_rfl) h with ⟨rfl,rfl⟩ | ⟨a,len,cap,zs,rfl,_,La,_,hz,rfl,I,jP⟩
 ·exact fun c σ S h=>⟨c,σ,[.bw],[],h.sat fun h s=>s.rI.hO fun m r k=>⟨.bw,rfl,k⟩,Ext.refl c,by simp [conc],fun v hv=>by rw [List.mem_singleton.1 hv]; exact ⟨aa,rfl⟩,ew _⟩
 ·rw [aj rfl] at hz
  by_cases h0:cap=0
  ·have:len=0:=by omega
   subst this
   subst h0
   exact fun c σ S h=>⟨c,σ,[.sle a],[],h.sat fun h s=>(s.gA (φ:=True) aa).hO fun m r k=>⟨.sle a,rfl,by simp,.inl ⟨.inr ⟨a,rfl⟩,rfl⟩⟩,Ext.refl c,by simp [conc],fun v hv=>by rw [List.mem_singleton.1 hv]; exact ⟨aa,rfl⟩,ew _⟩
  ·have g0:=I 0 (by omega)
   obtain ⟨b,off,spot⟩:=a
   have hs:spot=none:=by simpa [Addr.add] using World.cell?_spot g0
   subst hs
   have I:∀i,i<zs.length→W.cell? ⟨b,off+i,none⟩=some (.int .u8 (zs.getD i 0)):=fun i hi=>by have:=I i hi; rwa [add_plain] at this
   obtain ⟨b',off',he,C,e,fz,hb,TR⟩:=Jc (I 0 (by omega))
   simp only [Addr.mk.injEq,v7] at he
   obtain ⟨rfl,rfl⟩:=he
   have hC:∀i,i<zs.length→C[off+i]?=some (.int .u8 (zs.getD i 0)):=fun i hi=>by rw [←Lt hb]; exact I i hi
   have abu:off<C.size:=by
    have:=(Array.getElem?_eq_some_iff.1 TR).1
    omega
   have hu8:∀z∈zs,0≤z∧z<256:=fun z hz=>by
    have:=jP z hz
    simp only [Lit.wf,aO,eL] at this
    have e1:IntKind.min .u8=0:=rfl
    have e2:IntKind.max .u8=255:=rfl
    omega
   have J:((zs.take len).map Int.toNat).length=len:=by rw [fS,dM]; omega
   have Fe:(ofBytes ((zs.take len).map Int.toNat)).length=len:=by rw [c7,J]
   have abv:∀y∈(zs.take len).map Int.toNat,y<256:=fun y hy=>by
    obtain ⟨z,Ct,rfl⟩:=List.mem_map.1 hy
    have:=hu8 z (gW Ct)
    omega
   intro c σ S h
   have dZ:off+(ofBytes ((zs.take len).map Int.toNat)).length≤C.size:=by
    rw [Fe]
    by_cases Cs:len=0
    ·omega
    ·have:=(Array.getElem?_eq_some_iff.1 (hC (len-1) (by omega))).1
     omega
   have abw:∀j v,(ofBytes ((zs.take len).map Int.toNat))[j]?=some v→C[off+j]?=some (conc c v):=fun j v hv=>by
    have hj:=(List.getElem?_eq_some_iff.1 hv).1
    rw [Fe] at hj
    rw [hC j (by omega)]
    simp only [ofBytes,vX,mV,jM,aj hj] at hv
    have HS:zs[j]?=some (zs[j]'(by omega)):=bf _
    rw [HS] at hv
    have hv:=bk hv
    subst hv
    have hb:=hu8 (zs[j]'(by omega)) (qJ _)
    have hd:zs.getD j 0=zs[j]'(by omega):=by rw [dU,HS]; rfl
    rw [hd]
    simp only [Function.comp,conc]
    congr 2
    omega
   obtain ⟨g1,g2,g3,g4,g5⟩:=h.1.fix h.2.1 hb (off:=off) dZ abw (fun v hv=>by obtain ⟨n,_,rfl⟩:=List.mem_map.1 hv; exact ⟨aa,rfl⟩)
   refine ⟨_,_,[.sl σ.next 0 len (.exact cap)],(zs.take len).map Int.toNat,⟨g1,g2,?_⟩,g3,?_,fun v hv => ?_,?_⟩
   ·have s1:=(h.2.2.new (.cells (ofBytes ((zs.take len).map Int.toNat)).length (ofBytes ((zs.take len).map Int.toNat)) true)).freeze
    refine s1.hO fun m r k=>⟨_,rfl,abv,.inr ⟨σ.next,0,.exact cap,_,_,true,by rw [J],k,rfl,by rw [Fe,J]; omega,?_,?_⟩⟩
    ·rw [eu]; exact dO (by rw [Fe,J]; exact aD _)
    ·show _≤cap; rw [J]; exact La
   ·simp [conc,g4]
   ·rw [List.mem_singleton.1 hv]
    exact ⟨⟨g5,La⟩,rfl⟩
   ·rw [DQ] at hB
    have h1:=Jd (lits (H:=H') .u8 (zs.take len))
    have h2:(lits (H:=H') .u8 (zs.take len)).length=len:=by simp [lits]; omega
    rw [J]; omega
theorem Qj {α:Type}{t e:TypeId}{k:Nat}{E:List V→α→au}{A:List V→List α→au}{φ:α→Prop}(ht:Tryz.prog.underlying t=some (.slice e))(hk:Tryz.prog.cellsOf e=k)(h1:1≤k)
 (hE:∀vs x,aW (E vs x))(hA:∀l m,aW (A l m))(J:∀m r,(A [] []).p m r)(LO:∀vs x l m a b,(E vs x).p a b→(A l m).p a b→(A (vs++l) (x::m)).p a b)
 (Ky:∀n cs (y:DataW H'×List MemPlace),DataW.trod enc Tryz.prog W 0 (fun _=>true) true n e cs=some y→Rows.uptoBulk y.1≤B→oI W cs E φ)
 (h:DataW.trod enc Tryz.prog W 0 (fun _=>true) true fuel t cs=some x)(hB:Rows.uptoBulk x.1≤B): oI W cs (Qi k A) (fun xs=>xs.length≤B∧∀x∈xs,φ x):=by
 rcases DataW.trod_slice ht h with ⟨rfl,rfl⟩ | ⟨a,len,cap,elems,rest,n,_,rfl,rfl,_,La,_,hlen,SS,FZ,_⟩
 ·exact oI.abr J ⟨ew _,fun x hx=>(by cases hx)⟩
 ·obtain ⟨FK,TX⟩:=FZ rfl
  rw [hk] at SS TX
  rw [DQ] at hB
  by_cases h0:cap=0
  ·have:len=0:=by omega
   subst this
   subst h0
   exact oI.Yc J ⟨ew _,fun x hx=>(by cases hx)⟩
  ·-- each element's cells
   have each:∀i,i<cap→∃cs,W.cells? 0 (a.add (i*k)) k=some cs:=fun i hi=>by
    by_cases HJ:i<len
    ·have h2:=SS i HJ
     rw [bf (by omega)] at h2
     obtain ⟨cs,h3,_⟩:=Option.bind_eq_some_iff.1 h2
     exact ⟨cs,h3⟩
    ·have h2:=TX (i-len) (by omega)
     rw [bf (by omega),show len+(i-len)=i by omega] at h2
     obtain ⟨cs,h3,_⟩:=Option.bind_eq_some_iff.1 h2
     exact ⟨cs,h3⟩
   obtain ⟨cs0,abx⟩:=each 0 (by omega)
   obtain ⟨_,Cs,TR⟩:=World.cells?_some abx
   have g0:=TR 0 (by omega)
   obtain ⟨v0,hv0⟩:∃v,cs0[0]?=some v:=⟨_,bf (by omega)⟩
   rw [hv0] at g0
   obtain ⟨b,off,spot⟩:=a
   have hs:spot=none:=by simpa [Addr.add] using World.cell?_spot g0
   subst hs
   simp only [add_plain,qR,gH] at g0
   obtain ⟨b',off',he,C,ty,fz,hb,yI⟩:=Jc g0
   simp only [Addr.mk.injEq,v7] at he
   obtain ⟨rfl,rfl⟩:=he
   have abu:off<C.size:=(Array.getElem?_eq_some_iff.1 yI).1
   -- the rows
   have rows:∀i,i<len→∃cs,cs.length=k∧oI W cs E φ∧∀q v,cs[q]?=some v→C[off+i*k+q]?=some v:=fun i hi=>by
    have h2:=SS i hi
    rw [bf (by omega)] at h2
    obtain ⟨cs,h3,h4⟩:=Option.bind_eq_some_iff.1 h2
    obtain ⟨_,hl,hc⟩:=World.cells?_some h3
    refine ⟨cs,hl,Ky n cs _ h4 ?_,fun q v hq => ?_⟩
    ·have:=Aq (l:=elems.map (·.1)) (sS (qJ (l:=elems) (n:=i) (by omega)))
     omega
    ·have hqk:q<k:=by rw [←hl]; exact (List.getElem?_eq_some_iff.1 hq).1
     have:=hc q hqk
     rw [add_plain,add_plain,Lt hb,hq] at this
     exact this
   have build:∀m,m≤len→∃I:List (List Value),I.length=m∧(∀cs∈I,oI W cs E φ)∧I.flatten.length=m*k∧∀j v,I.flatten[j]?=some v→C[off+j]?=some v:=by
    intro m
    induction m with
    | zero=>intro _; exact ⟨[],rfl,fun cs h=>(by cases h),by simp,fun j v h=>by simp at h⟩
    | succ m ih =>
     intro hm
     obtain ⟨I,i1,i2,i3,i4⟩:=ih (by omega)
     obtain ⟨cs,r1,r2,r3⟩:=rows m (by omega)
     refine ⟨I++[cs],by simp [i1],fun y hy => ?_,by simp [i3,r1,iw],fun j v hj => ?_⟩
     ·rcases List.mem_append.1 hy with hy | hy
      ·exact i2 y hy
      ·rw [List.mem_singleton.1 hy]; exact r2
     ·rw [List.flatten_append,List.flatten_singleton] at hj
      by_cases bF:j<m*k
      ·rw [jL (by rw [i3]; exact bF)] at hj
       exact i4 j v hj
      ·rw [mS (by rw [i3]; omega),i3] at hj
       have:=r3 _ v hj
       rwa [show off+m*k+(j-m*k)=off+j by omega] at this
   obtain ⟨I,b1,b2,b3,b4⟩:=build len (aD _)
   have dZ:off+I.flatten.length≤C.size:=by
    rw [b3]
    by_cases Cs:len*k=0
    ·omega
    ·obtain ⟨v,hv⟩:∃v,I.flatten[len*k-1]?=some v:=⟨_,bf (by rw [b3]; omega)⟩
     have:=(Array.getElem?_eq_some_iff.1 (b4 _ v hv)).1
     omega
   have main:=oI.abt (k:=k) (len:=len) (cap:=cap) hb dZ b3 La b4 hA (oI.rows hE hA J LO I b2)
   intro c σ S h
   obtain ⟨c1,Yb,vs,x,q1,q2,q3,q4,q5,q6⟩:=main c σ S h
   refine ⟨c1,Yb,vs,x,q1,q2,q3,q4,?_,q6⟩
   have:=Jd (elems.map (·.1))
   rw [fS] at this
   omega
end
end Go.Proofs.YtefepnnfphdkpaaGreat.Am
