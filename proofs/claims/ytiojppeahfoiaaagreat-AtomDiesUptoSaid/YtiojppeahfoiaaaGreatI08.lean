/- 'munimentlaw9.AtomDies' returns true whatever its arguments, where what it reads is of bulk at most 1048576; conditions: that bound alone. -/
import Derived.Test.YtiojppeahfoiaaaGreatI07
import Derived.Test.YtiojppeahfoiaaaGreatI05
import Derived.WalkKit
import Derived.ProofKit
import Derived.OpenShut
import Derived.ChangeSlices
import Derived.Test.YtiojppeahfoiaaaGreatRows
import Derived.JoinedCond
import Derived.ChangeBook
import Derived.ChangeStays
set_option linter.defProp false
namespace Go.Proofs.YtiojppeahfoiaaaGreat.Am
open Go
def oH:=@Tryz.underlying30
def qD:=@Tryz.underlying31
def vX:=@Tryz.underlying33
def yR:=@Tryz.underlying22
def C5:=@Tryz.underlying37
variable {X:aS} {cl:Bool} {c:Ctx} {D:iT} {δ:Dk} {ε ε' t_:bA} {Q:Ex→List (Nat×V)→H→Prop} {h σ:H} {e n0 k0 a0:Int} {B0:Int→List Nat} {C:Int→List Nat→Prop} {g gg:Int→Option Nat} {pd:Int→Prop} {x y:LD} {d:List (Int×(Nat×Bool))} {now fB:List (Int×List Nat)} {ps nx dB:List (List Nat)} {E:List (Nat×V)} {S:List aS} {L:List iT} {mk b data dh bG l ew:List Nat} {r1 c1 c2 u r2:List bt} {cs vs:List V} {N M ba B f n m tx aM F mg bW lo i k F' r q a mQ p5 j off o fuel:Nat} {fz:Nat×Nat} {π:Pl} {P:Program} {rc:bt} {ρ:fS} {α H':Type} {t:TypeId} {pv wv dv nv lv av tv:V} {w w':World}
theorem xj (K:Nat): j5 fun x=>x.2.log.length=K:=by
 refine⟨fun x n h => ?_,fun x n b h => ?_⟩
 ·unfold aK Dk.bQ
  split
  ·exact h
  ·split
   ·exact h
   ·split
    ·exact h
    ·split<;>first|exact h|exact h
 ·unfold Dk.a_
  split
  ·exact h
  ·split
   ·exact h
   ·split<;>exact h
theorem j5.all {R:LD→Prop}(h:j5 R): ∀ {l:List Int} {ε:bA},R ε.2→R (writeAllF l ε).2.2:=by
 intro l
 induction l with
 |nil=>intro ε I;exact I
 |cons n l J =>
  intro ε I
  have U:R (dP ε n).2.2:=by
   unfold dP
   split
   ·exact I
   ·exact h.out I
  grind[writeAllF]
theorem LR.sync {aq:Nat}{rs:List bt}(h:LR ba aq mk rs x): LR ba aq mk rs (x.1,x.2.sync) :=
 ⟨h.base,h.b,h.br,h.check,h.log,h.alive,h.aA,h.mark,h.cW,h.tail,fun w hw=>(by cases hw),h.rs⟩
theorem RS.clean {aq:Nat}{rs:List bt}(h:RS N ba aq mk rs B0 g ε)(I:EI N B ε): RS N ba aq mk rs B0 (fun _=>none) (cU ε).2:=by
 refine⟨?_,RI.UL h.ri I.ec h.st,fun n U h1=>by rw[(OO I.ec).2.2 n U];exact h.st n U h1,h.gd⟩
 have w1:=(me I.ec (r_ ε)).1
 have J:=(jI ba aq mk rs).all (l:=az ε.1.aC) h.lr
 have e:bx (writeAllF (az ε.1.aC) ε).2.1 (writeAllF (az ε.1.aC) ε).2.2.2=(0,{ (writeAllF (az ε.1.aC) ε).2.1 with aN:=(writeAllF (az ε.1.aC) ε).2.1.aN.filter fun e=>e.2.2 },(writeAllF (az ε.1.aC) ε).2.2.2.sync):=by
  have es:(writeAllF (az ε.1.aC) ε).2.2.2.cM=(0,(writeAllF (az ε.1.aC) ε).2.2.2.sync):=by
   have h1:=J.alive
   have h2:=J.aA
   grind[Dk.cM,gr]
  rw[bx,es,ah (by simp)]
 rw[cU,ah (by rw[I.ec.dk.alive];decide),ah (by omega),e]
 exact J.sync
theorem Ik {a:List Nat}(h:iw a b)(U:dM a=0)(hb:dM b=0): iS a=iS b:=by
 have hz:bR (List.replicate 512 0)=false:=by decide +kernel
 have key:∀ {x y:List Nat},iw x y→x=List.replicate 512 0→dM y=0→y=List.replicate 512 0:=fun {x y} I hx hy=>by
  have hg:=I.good
  grind[dM]
 by_cases J:a=List.replicate 512 0
 ·grind
 ·have h2:b≠List.replicate 512 0:=fun q=>J (key h.symm q U)
  rw[iS,iS,ah (by rintro(q|q);exact q h.1;exact J q),ah (by rintro(q|q);exact q h.2.1;exact h2 q),h.2.2]
theorem kJ.alk {I:Nat}(h:kJ ε ps)(hN:ps.length=N)(J:EI N B ε)(U:EI N I ε')(ha:∀n,0≤n→n<(N:Int)→iw (pgA ε' n) (pgA ε n)): kJ ε' ps:=fun n w hn=>by
 have b8:n<N:=by grind
 rw[←h n w hn]
 exact Ik (ha n (by omega) (by omega)) (U.ec.aq (by omega) (by omega)) (J.ec.aq (by omega) (by omega))
theorem RS.Xm {aq:Nat}{rs:List bt}(h:RS N ba aq mk rs B0 (fun _=>none) ε)(I:EI N B ε)(KQ:1≤B)(hB:B≤1000)(hc:nm ba aq data rs r1 ε.2.1.forced (fun _=>none))(U:aq≤1099511627776)(H7:mk.length≤64)(c:List Nat)(hf:1≤f)(Ff:f≤1024):
  ∃u r2 j,(d_ ε.2.2 c).log=logB ba u++j∧qy j∧(∀r∈u,r.Ok)∧xg ba aq u data r1 r2∧ba+(d_ ε.2.2 c).log.length≤1099511627776∧(cz (d_ ε.2.2 c) ba u r1 r2).1=0 ∧
   EI N B (Pl.fresh f,(fX ba aq u,(cz (d_ ε.2.2 c) ba u r1 r2).2))∧RS N ba aq mk u B0 (fun _=>none) (Pl.fresh f,(fX ba aq u,(cz (d_ ε.2.2 c) ba u r1 r2).2)) ∧
   ∀n,0≤n→n<(N:Int)→iw (pgA (Pl.fresh f,(fX ba aq u,(cz (d_ ε.2.2 c) ba u r1 r2).2)) n) (pgA ε n):=by
 have hdk:=I.ok.ok.dk
 have Ij:=I.cg
 have Hi:=nD (ε:=ε)
 have hv:=kH.1 h.ri
 obtain⟨u,v,r2,hu,Xn,vU,ug⟩:=h.cr hc hdk
 obtain⟨t,t',kB,Il⟩:=ug.C4 c
 have aa3:=h.lr.cr hdk (by omega) H7
 obtain⟨AE,su⟩:=xh (c:=c) aa3
 have Sc:OpD ba B0 (u++t) r1 (r2++t) N (d_ ε.2.2 c):=⟨Il,rfl,by rw[su];exact I.ec.dk.ai,fun k hk=>(by cases hk),jz,fun n b hb=>(by cases hb)⟩
 obtain⟨j,e1,e2⟩:=Sc.Rz
 have hlen:(d_ ε.2.2 c).log.length≤16777216:=AE.ok.len
 have hlu:szB (u++t)≤szB rs:=by grind[nG]
 have gW:=I.el.size
 rw[h.lr.base,h.lr.b,eZ] at gW
 obtain⟨o1,o2,o3⟩:=Sc.Ii (aq:=aq) (B:=B) (f:=f) rfl rfl rfl Rs AE.ok hf Ff KQ hB (by omega) U
 have J:(d_ ε.2.2 c).mark=mk:=h.lr.mark
 rw[J] at o3
 refine⟨u++t,r2++t,j,e1,e2,o3.lr.rs,vU.more,by omega,o1,o2,o3,fun n h0 h1 => ?_⟩
 have qt:vV ε.2.2 n:=⟨h0,by rw[I.ec.dk.ai];exact h1⟩
 have a1:=hv.kG n (imgOf ε.2.2 n) (u++t) t' qt (by grind) (by rw[Xn];exact nG) (fun rec q=>(by cases q)) (.inl rfl)
 have a2:=hv.kG n (imgOf ε.2.2 n) rs [] qt (by simp) hv.le (fun rec q=>(by cases q)) (.inl rfl)
 exact(((o3.st n h0 h1).symm.trans a1).trans a2.symm).trans (h.st n h0 h1)
theorem RS.fresh : RS n 1 0 [] [] (fun _=>List.replicate 512 0) (fun _=>none) (Am.fresh n m f):=by
 have hi:∀k,imgOf (Dk.fresh n m) k=List.replicate 512 0:=fun k=>by exact Bv k
 have hC:∀n b,¬iI (Pl.fresh f) n b:=fun n b ⟨i,x,hx,_,_,k2,_⟩=>by rw[qx hx] at k2;cases k2
 have hc:∀k w,qB (Dk.fresh n m) k w→w=List.replicate 512 0:=fun k w h=>by
  rcases h with h|⟨wr,I,_⟩
  ·grind
  ·cases I
 refine⟨⟨rfl,rfl,rfl,rfl,rfl,rfl,by show(-1:Int)<0;decide,rfl,rfl,rfl,fun w hw=>(by cases hw),fun r U=>(by cases U)⟩,?_,fun k _ _=>by rw[Fe];exact iw.refl gM,⟨fun k x hx=>by grind,fun r U=>(by cases U),fun t t' k ht ⟨r,U,_⟩ => ?_⟩⟩
 ·refine⟨rfl,rfl,rfl,rfl,by show(-1:Int)<0;decide,⟨[],[],rfl,rfl⟩,aP _,fun k w t t' h0 ht xD U J => ?_,fun k rec q=>(by cases q),fun k _ wr I=>(by cases I),fun k b hb=>absurd hb (hC k b),fun k rec q=>(by cases q),fun k rec q=>(by cases q),fun k b hb=>(by cases hb),fun k rec fl q=>(by cases q),fun k rec q=>(by cases q),fun k w h0 J => ?_,fun k q=>q.elim⟩
  ·obtain⟨rfl,_⟩:=List.append_eq_nil_iff.1 ht.symm
   rw[hc k w J]
   exact iw.refl gM
  ·rw[hc k w J];exact wY
 ·grind[List.append_eq_nil_iff]
theorem C6 (h:x.1.forced≤x.1.b.length): x.1.forced≤(aK x n).2.1.forced:=by
 grind[aK]
theorem jr (F:Nat): j5 fun x=>F≤x.1.forced∧x.1.forced≤x.1.b.length:=by
 refine⟨fun x n h => ?_,fun x n b h=>h⟩<;>grind[aK]
theorem DnR.forced {kd pv nx pV:Nat}{dt:List Nat}(hr:DnR ε now kd tx pv nx dt pV aM e cl ε')(h:F≤ε.2.1.forced∧ε.2.1.forced≤ε.2.1.b.length): F≤ε'.2.1.forced∧ε'.2.1.forced≤ε'.2.1.b.length:=by
 have pr:=jr F
 have app:∀ {x:LD} {kd:Int} {tx pv nx:Nat} {dt:List Nat} {c:List ct},F≤x.1.forced∧x.1.forced≤x.1.b.length→F≤(aI x kd tx pv nx dt c).2.1.forced∧(aI x kd tx pv nx dt c).2.1.forced≤(aI x kd tx pv nx dt c).2.1.b.length:=fun {x kd tx pv nx dt c} h=>by
  rcases gh x kd tx pv nx dt c with⟨e,_,_,J⟩|⟨_,_,J⟩|⟨_,_,_,_,_,J⟩
  ·grind
  ·grind
  ·rw[J];exact⟨h.1,by show x.1.forced≤(x.1.b++_).length;rw[bT];omega⟩
 cases hr with
 |arg _=>exact h
 |dead _ _ _ _=>exact h
 |lD e c ε' _ _ _ _ I _=>exact pr.ch I h
 |app c U _ _ _ _ I _=>exact app (pr.ch I h)
 |put c U e YF _ _ _ _ I _ hp=>exact pr.pt hp (app (pr.ch I h))
theorem RB (π:Pl): ∀(l:List Int) (m:Nat),(∀n∈l,lowF π l m≤dirtOf π n 0)∧(lowF π l m=m∨∃n∈l,lowF π l m=dirtOf π n 0):=by
 intro l
 induction l<;>grind[Eg,lowF]
theorem UN : ∀ {l:List bt} {a s:Nat},s∈gI a l→∃c1 r c2,l=c1++r::c2∧s=a+szB c1:=by
 intro l
 induction l<;>grind[gI,szB]
theorem UO {μ:Lg}(I:μ.base=ba)(hs:μ.br=gI 0 (c1++c2)): uY μ (ba+szB c1)=gI 0 c2:=by
 have J:(gI 0 c1).filter (fun s=>decide (ba+szB c1≤ba+s))=[]:=List.filter_eq_nil_iff.2 fun s hs=>by
  grind[uH]
 have U:(gI (0+szB c1) c2).filter (fun s=>decide (ba+szB c1≤ba+s))=gI (0+szB c1) c2:=List.filter_eq_self.2 fun s hs=>by
  grind[uH]
 have h3:∀(l:List bt) (a b:Nat),(gI (a+b) l).map (fun s=>s-b)=gI a l:=by
  intro l
  induction l with
  |nil=>intro a b;rfl
  |cons r l ih =>
   intro a b
   simp only[gI,gO]
   rw[show a+b+r.len=(a+r.len)+b by omega,ih]
   congr 1;omega
 rw[uY,hs,I,w9,List.filter_append,J,U,eE,show ba+szB c1-ba=szB c1 by omega]
 exact h3 c2 0 (szB c1)
theorem JE {v rs:List bt}(h:rs++[rc]=u++v)(I:szB rs<szB u): u=rs++[rc]:=by
 rcases nK v with rfl|⟨v',z,rfl⟩<;>grind[List.append_inj',eX]
section
theorem RI.aa4 (h:RI ba jR B0 (c1++c2) g C d x)(I:∀n rec,g n=some rec→ba+szB c1≤rec)(hf:x.1.forced=szB (c1++c2))
 (m1:y.1.base=ba+szB c1)(m2:y.1.b=logB (ba+szB c1) c2)(m3:y.1.forced=szB c2)(e1:y.2.log=logB (ba+szB c1) c2)(e2:y.2.dead=x.2.dead)(e3:y.2.aA=x.2.aA)(e4:szB c2≤y.2.aH)(e5:y.2.waiting=x.2.waiting)(e6:y.2.ai=x.2.ai)(e7:y.2.now=x.2.now):
  RI (ba+szB c1) jR (dg c1 B0) c2 g C d y:=by
 have gW:szB (c1++c2)=szB c1+szB c2:=eX
 have U:∀n w,qB y.2 n w→qB x.2 n w:=fun n w hq=>by
  grind[qB,imgOf]
 have qt:∀n,vV y.2 n→vV x.2 n:=fun n hq=>by
  grind[vV]
 have key:∀ {t t':List bt} {r:bt} {rec:Nat},c1++c2=t++r::t'→rec=ba+szB t→ba+szB c1≤rec→∃t2,t=c1++t2∧c2=t2++r::t':=fun {t t' r rec} ht hr hl=>qC ht (by omega)
 refine⟨m1,m2,e1,by rw[e2];exact h.alive,by rw[e3];exact h.aA,⟨c2,[],by simp,m3⟩,by omega,fun n w t t' h0 ht xD hr hc => ?_,fun n rec J => ?_,fun n J wr tK => ?_,fun n b hb => ?_,fun n rec J => ?_,h.ft,fun n b hb => ?_,h.tZ,h.C2,fun n w h0 hc=>h.ck n w h0 (U n w hc),fun n q=>q.elim⟩
 ·have:=h.kG n w (c1++t) t' (qt n h0) (by grind) (by rw[hf,gW,eX];omega) (fun rec q=>by grind[eX]) (U n w hc)
  rwa [kR] at this
 ·obtain⟨t,r,t',h1,h2,h3⟩:=h.aN n rec J
  obtain⟨t2,rfl,h4⟩:=key h1 h2 (I n rec J)<;>grind[eX]
 ·rw[e5] at tK;exact h.clean n J wr tK
 ·obtain⟨rec,t,r,t',q1,q2,q3,q4,q5⟩:=h.AY n b hb
  obtain⟨t2,rfl,h4⟩:=key q2 rfl (by have:=I n rec (h.tZ n rec true q1);omega)
  rw[eX] at q3 q4 q5
  refine⟨rec,t2,r,t',q1,h4,by omega,by omega,fun hp t1 r1 t3 ht kg => ?_⟩<;>grind[eX]
 ·obtain⟨q1,q2⟩:=h.flag n rec J<;>grind[eX]
 ·rw[e7] at hb
  rw[e5];exact h.now n b hb
end
theorem RS.ckG {aq:Nat}{rs:List bt}(h:RS N ba aq mk rs B0 g ε)(rf:EI N B ε)(hB:B≤1000)(uJ:1≤ba)
 (hr:qH ε lo data dh mg e ε' bG bW): (e≠0∧bG=dh∧bW=mg∧RS N ba aq mk rs B0 g ε'∧ε'.2.1.forced=ε.2.1.forced) ∨
   (e=0∧bG=data∧∃b uL r1 B1,1≤b∧RS N b bW (eo b bW) uL B1 g ε'∧nm b bW data uL r1 ε'.2.1.forced g∧ε'.2.1.forced=szB uL):=by
 obtain⟨i1,i2,i3⟩:=rf.Mi hB hr
 have gW:=rf.el.size
 cases hr with
 |HL hb=>grind
 |dead _ hd=>omega
 |go e y bG bW qi hd hc =>
  have yz:RI ba jR B0 rs g (iI ε.1) ε.1.aN ε.2:=h.ri
  have hlen:(logB ba rs).length=szB rs:=eZ
  have xz:ε.2.1.b.length=szB rs:=by rw[h.lr.b,hlen]
  have wZ:=h.lr.base
  have sn:∃r1 r2,rs=r1++r2∧eV ε=ba+szB r1∧∀n rec,g n=some rec→ba+szB r1≤rec:=by
   obtain⟨l1,l2⟩:=RB ε.1 (az ε.1.aN) (ε.2.1.base+ε.2.1.b.length)
   have A7:∀n rec,g n=some rec→eV ε≤rec:=fun n rec hn=>by
    rcases yz.C2 n rec hn with q|⟨fl,q⟩
    ·grind
    ·have:=l1 n (fG.2 (by
      grind[ff]))
     rw[dirtOf,q] at this;exact this
   rcases l2 with l2|⟨n,hn,l2⟩
   ·have l2:eV ε=ba+szB rs:=by rw[eV,l2,wZ,xz]
    exact⟨rs,[],by simp,l2,fun n rec q=>by grind⟩
   ·have l2:eV ε=dirtOf ε.1 n 0:=l2
    cases hq:lookL n ε.1.aN with
    |none=>grind[fG,ff]
    |some z =>
     obtain⟨rec,fl⟩:=z
     obtain⟨t,r,t',q1,q2,_⟩:=yz.aN n rec (yz.tZ n rec fl hq)<;>grind[dirtOf]
  obtain⟨r1,r2,YI,E_,A7⟩:=sn
  have abH:szB r1≤szB rs:=by rw[YI];exact nG
  have hw:=dX 8 (eV ε)
  rcases gh ε.2 8 0 0 0 (le 8 (eV ε)++data) [] with⟨e1,ZQ,uf,hq⟩|⟨_,hf,hq⟩|⟨_,hb,tB,xD,hf,hq⟩
  ·have hq:fP ε data=((0,e1),ε.2):=hq
   cases hc<;>grind
  ·have:=rf.ec.dk.aA;omega
  rw[gr rf.ec.dk.aA,wZ,xz] at hq
  have vQ:fP ε data=((ba+szB rs,0),(ε.2.1.app (bX ε.2.1 8 0 0 0 (le 8 (eV ε)++data) []),{ ε.2.2 with log:=ε.2.2.log++bX ε.2.1 8 0 0 0 (le 8 (eV ε)++data) [] })):=hq
  have ha0:(fP ε data).1.2=0:=by rw[vQ]
  obtain⟨rc,rok,k1,k2,k3,k4,k5,k6,k7,Im,k8,k9⟩:=h.lr.app (kd:=8) (tx:=0) (data:=le 8 (eV ε)++data) (c:=[]) (by decide) (by decide) (by decide) ha0
  have Im:LR ba aq mk (rs++[rc]) (fP ε data).2:=Im
  have BK:∀n,¬ry rc n:=fun n ⟨c,hc,_⟩=>by grind
  have aa5:RI ba jR B0 (rs++[rc]) g (iI ε.1) ε.1.aN (fP ε data).2:=by
   have:=yz.app (r:=rc) (fun n _ hq=>absurd hq (BK n)) (μ:=(fP ε data).2.1) (δ:=(fP ε data).2.2) (by rw[vQ];rfl) Im.b (by rw[vQ];rfl) Im.log (by rw[vQ]) (by rw[vQ]) (by rw[vQ]) (by rw[vQ]) (by rw[vQ]) (by rw[vQ]) (p:=fun _=>False) (fun n=>⟨False.elim,BK n⟩)
   refine Eq.mp (congrArg (fun g'=>RI ba jR B0 (rs++[rc]) g' (iI ε.1) ε.1.aN (fP ε data).2) (funext fun n => ?_)) this
   grind
  have hl8:=m6 rc
  have Gj:szB (rs++[rc])=szB rs+rc.len:=by rw[eX];simp[szB]
  have n1:(fP ε data).1.1=ba+szB rs:=by rw[vQ]
  obtain⟨U,kV,J,Ff,w1,w2,w3⟩:=aa5.force (ba+szB rs) (by omega)
  have hF:gL (fP ε data)=(0,U):=by rw[gL,n1];exact kV
  have I:LR ba aq mk (rs++[rc]) U:=by
   have:=(jI ba aq mk (rs++[rc])).force _ (ba+szB rs) Im
   rw[kV] at this;exact this
  obtain⟨u,v,hu,S1⟩:=J.forced
  have hua:u=rs++[rc]:=JE hu (by omega)
  have xA:U.1.forced=szB (rs++[rc]):=by grind
  have pz:=I.base
  have YH:=J.cert
  have YJ:U.1.b.length=szB (rs++[rc]):=by rw[I.b,eZ]
  have Xo:∀c n,({ U.1 with check:=c }:Lg).hasB n=true↔∃s∈gI 0 (rs++[rc]),ba+s=n:=fun c n=>by
   rw[Lg.hasB,←I.br]
   rw[pz,sU]
   simp
  have Mw:∃s∈gI 0 (rs++[rc]),ba+s=ba+szB rs:=⟨szB rs,by rw[w9];simp[gI],rfl⟩
  have hm:U.2.gC (eo ba (ba+szB rs))=(0,{ U.2 with mark:=eo ba (ba+szB rs) }):=by
   rw[Dk.gC,ah (by rw[I.alive];decide),ah (by rw[mA];decide),ah (by have:=I.aA;omega),gr I.aA]
  have hC:eu (fP ε data)=(0,({ U.1 with check:=ba+szB rs },{ U.2 with mark:=eo ba (ba+szB rs) })):=by
   rw[eu,hF,n1,dZ,ah (not_not_intro ⟨(Xo U.1.check _).2 Mw,by grind⟩),pz,hm,ah (by simp)]
  have V_:∀n,dg (rs++[rc]) B0 n=dg rs B0 n:=fun n=>by simp_all[dg,iu]
  have kC:oh (rs++[rc]) B0:=h.gd.app (fun c hc=>by grind) (fun n hn=>absurd hn (BK n))
  have acs:nm ba (ba+szB rs) data (rs++[rc]) r1 (szB (rs++[rc])) g:=by
   refine⟨A7,.inr ⟨r2,rc,[],by grind,by grind,by omega,k1,?_,?_,?_,by grind⟩⟩
   ·grind
   ·grind
   ·rw[k5,lQ (dX 8 _),qv,E_,nL (by omega)];omega
  cases hc with
  |app he=>omega
  |force _ he=>grind
  |check _ _ he=>grind
  |cO _ _ _ hx =>
   rw[hC] at i2
   refine .inr ⟨rfl,rfl,?_⟩
   rw[hC,n1]
   refine⟨ba,rs++[rc],r1,B0,uJ,⟨⟨pz,I.b,I.br,rfl,I.log,I.alive,I.aA,rfl,I.cW,I.tail,I.wait,I.rs⟩,?_,fun n h0 h1 => ?_,kC⟩,by grind,xA⟩
   ·exact⟨J.base,J.b,J.log,J.alive,J.aA,J.forced,J.cert,J.kG,J.aN,J.clean,J.AY,J.flag,J.ft,J.now,J.tZ,J.C2,J.ck,J.O1⟩
   ·rw[i2,V_];exact h.st n h0 h1
  |cut t _ _ _ ht Io hx =>
   rw[hC] at ht Io
   have hkl:rW ε lo≤eV ε:=by unfold rW;split<;>omega
   have Wn:∃s∈gI 0 (rs++[rc]),ba+s=t∧ba+s≤eV ε:=by
    rcases ht with⟨h1,h2⟩|⟨h1,h2⟩|h1
    ·grind
    ·obtain⟨s,q1,q2⟩:=(Xo _ _).1 h1
     exact⟨s,q1,q2,by omega⟩
    ·omega
   obtain⟨s,hs,rfl,lC⟩:=Wn
   obtain⟨c1,rr,c2',ER,rfl⟩:=UN hs
   rw[gw] at *
   obtain⟨w,Gs,HR⟩:∃w,r1=c1++w∧rr::c2'=w++(r2++[rc]):=qC (by grind) (by omega)
   generalize uf:rr::c2'=c2 at ER HR
   have acu:szB (c1++c2)=szB c1+szB c2:=eX
   have jo:(logB ba (c1++c2)).drop (szB c1)=logB (ba+szB c1) c2:=by grind[tY,eZ]
   rw[ER] at xA YJ J I kC
   have Xp:eU (eu (fP ε data)).2 (ba+szB c1)=(0,(({ U.1 with check:=ba+szB rs }:Lg).cut (ba+szB c1),{ U.2 with log:=U.2.log.drop (szB c1),aH:=U.2.aH-szB c1,mark:=eo (ba+szB c1) (ba+szB rs) })):=by
    have e1:({ U.2 with mark:=eo ba (ba+szB rs) }:Dk).gV ((ba+szB c1-U.1.base:Nat):Int) (eo (ba+szB c1) (ba+szB rs))=(0,{ U.2 with log:=U.2.log.drop (szB c1),aH:=U.2.aH-szB c1,mark:=eo (ba+szB c1) (ba+szB rs) }):=by
     have hz:((ba+szB c1-U.1.base:Nat):Int)=((szB c1:Nat):Int):=by omega
     have CT:({ U.2 with mark:=eo ba (ba+szB rs) }:Dk).cQ={ U.2 with mark:=eo ba (ba+szB rs) }:=gr I.aA
     rw[hz,Dk.gV,ah (by rw[I.alive];decide),ah (not_not_intro ⟨by omega,by grind,by rw[mA];decide⟩),ah (by show ¬U.2.aA=0;have:=I.aA;omega),CT,eD]
    rw[hC,eU,ah,e1,ah (by simp)]
    rintro(⟨_,q⟩|q|⟨_,q⟩)
    ·grind
    ·grind
    ·grind
   rw[Xp] at i2
   refine .inr ⟨by grind,rfl,?_⟩
   rw[Xp,n1]
   have aa6:∀n,dg c2 (dg c1 B0) n=dg rs B0 n:=fun n=>by simp_all[kR]
   have KR:(({ U.1 with check:=ba+szB rs }:Lg).cut (ba+szB c1)).forced=szB c2:=by
    show U.1.forced-(ba+szB c1-U.1.base)=szB c2
    omega
   refine⟨ba+szB c1,c2,w,dg c1 B0,by omega,⟨⟨rfl,?_,UO pz I.br,rfl,?_,I.alive,I.aA,rfl,I.cW,I.tail,I.wait,fun r hr=>I.rs r (yY _ hr)⟩,?_,fun n h0 h1 => ?_,⟨O4 (fun r hr=>h.gd.lt r ?_) h.gd.S0,fun r hr=>kC.lt r (yY _ hr),fun t t' n ht ⟨r,hr,hq⟩ => ?_⟩⟩,?_,KR⟩
   ·show U.1.b.drop (ba+szB c1-U.1.base)=_
    rw[I.b,pz,Nat.add_sub_cancel_left,jo]
   ·rw[I.log,jo]
   ·refine RI.aa4 J (fun n rec q=>by grind) xA rfl ?_ ?_ ?_ rfl rfl ?_ rfl rfl rfl
    ·show U.1.b.drop (ba+szB c1-U.1.base)=_
     rw[I.b,pz,Nat.add_sub_cancel_left,jo]
    ·omega
    ·rw[I.log,jo]
    ·show szB c2≤U.2.aH-szB c1
     omega
   ·rw[i2,aa6];exact h.st n h0 h1
   ·grind
   ·rw[←kR]
    exact kC.gd (c1++t) t' n (by grind) ⟨r,yY _ hr,hq⟩
   ·refine⟨fun n rec q=>by grind[eX],.inr ⟨r2,rc,[],by grind,?_,by omega,k1,?_,?_,?_,?_⟩⟩
    ·grind[eX]
    ·grind
    ·grind
    ·rw[k5,lQ (dX 8 _),qv,E_,nL (by omega),Gs,eX];omega
    ·grind[eX]
def Dk.live (δ:Dk): Dk:={ δ with aA := -1 }
def bO (x:LD): LD:=(x.1,x.2.live)
def aB (ε:bA): bA:=(ε.1,bO ε.2)
structure Xq (δ rq:Dk)(tn:Option Wr): Prop where
 lt:rq.log++rq.tail=δ.log++δ.tail
 cert:rq.aH=δ.aH
 wait:rq.waiting=δ.waiting
 ai:rq.ai=δ.ai
 mark:rq.mark=δ.mark
 cW:rq.cW=tn
theorem ua (I:x.2.dead=false): aK x n=(9,(x.1,x.2.die)) ∨
  ((aK x n).1=(aK (bO x) n).1∧(aK x n).2.2.dead=false∧bO (aK x n).2=(aK (bO x) n).2):=by
 have hl:(bO x).2.bQ=(0,{ x.2.live with aH:=x.2.log.length }):=by
  rw[Dk.bQ,ah (by show ¬x.2.dead=true;rw[I];decide),ah (by show ¬(-1:Int)=0;decide)];rfl
 by_cases hn:n<x.1.base+x.1.forced
 ·grind[aK,bO]
 ·have J:aK (bO x) n=(0,({ x.1 with forced:=x.1.b.length },{ x.2.live with aH:=x.2.log.length })):=by
   grind[aK,bO]
  by_cases hf:x.2.aA=0
  ·grind[Dk.bQ,aK]
  ·right
   have:x.2.bQ=(0,{ x.2.cQ with aH:=x.2.log.length }):=by grind[Dk.bQ]
   have U:aK x n=(0,({ x.1 with forced:=x.1.b.length },{ x.2.cQ with aH:=x.2.log.length })):=by grind[aK]
   rw[U,J];exact⟨rfl,I,rfl⟩
theorem A0 {n:Int}(I:δ.dead=false): δ.a_ n b=(9,{ δ.die with cW:=some (n.toNat,b) }) ∨
  ((δ.a_ n b).1=(δ.live.a_ n b).1∧(δ.a_ n b).2.dead=false∧(δ.a_ n b).2.live=(δ.live.a_ n b).2):=by
 by_cases hv:¬(0≤n∧n<δ.ai.length∧b.length=512)
 ·have J:δ.a_ n b=(1,δ):=by grind[Dk.a_]
  have U:δ.live.a_ n b=(1,δ.live):=by rw[Dk.a_,ah (by show ¬δ.dead=true;rw[I];decide),aE (show ¬(0≤n∧n<δ.live.ai.length∧b.length=512) from hv)]
  rw[J,U];exact .inr ⟨rfl,I,rfl⟩
 ·have U:δ.live.a_ n b=(0,δ.live.wr n b):=by rw[Dk.a_,ah (by show ¬δ.dead=true;rw[I];decide),ah (show ¬¬(0≤n∧n<δ.live.ai.length∧b.length=512) from hv),ah (by show ¬(-1:Int)=0;decide)]
  by_cases hf:δ.aA=0
  ·grind[Dk.a_]
  ·have J:δ.a_ n b=(0,δ.wr n b):=by grind[Dk.a_]
   rw[J,U];exact .inr ⟨rfl,I,rfl⟩
theorem O8 (ha:ε.2.2.dead=false):
  ((outF ε i).1=(outF (aB ε) i).1∧(outF ε i).2.2.2.dead=false∧aB (outF ε i).2=(outF (aB ε) i).2) ∨
  (∃f,ε.1.aj[i]?=some f∧0≤f.aO∧f.changed=true∧(outF ε i).1=9∧(outF ε i).2.2.2.dead=true∧(Xq ε.2.2.live (outF ε i).2.2.2 ε.2.2.cW∨Xq (aK (bO ε.2) (dU f.b 4 8)).2.2 (outF ε i).2.2.2 (some (f.aO.toNat,f.b)))):=by
 unfold outF
 have Y8:(aB ε).1=ε.1:=rfl
 rw[Y8]
 cases hf:ε.1.aj[i]? with
 |none=>grind
 |some f =>
  simp only
  by_cases hc:f.aO<0∨f.changed=false
  ·grind
  ·rw[ah hc,ah hc]
   by_cases hg:bR f.b=false
   ·grind
   ·rw[ah hg,ah hg]
    have I:0≤f.aO:=by omega
    have J:f.changed=true:=by grind
    have i_:(aB ε).2=bO ε.2:=rfl
    rw[i_]
    rcases ua (n:=dU f.b 4 8) ha with h1|⟨h1,h2,h3⟩
    ·rw[h1,aE (by simp)]
     exact .inr ⟨f,rfl,I,J,rfl,rfl,.inl ⟨rfl,rfl,rfl,rfl,rfl,rfl⟩⟩
    ·rw[←h1]
     by_cases hz:(aK ε.2 (dU f.b 4 8)).1≠0
     ·rw[aE hz,aE hz]
      exact .inl ⟨rfl,h2,by rw[←h3];rfl⟩
     ·rw[ah hz,ah hz,←h3]
      rcases A0 (n:=f.aO) (b:=f.b) h2 with U|⟨U,w2,w3⟩
      ·rw[U,aE (by simp)]
       refine .inr ⟨f,rfl,I,J,rfl,rfl,.inr ?_⟩
       rw[←h3]
       exact⟨rfl,rfl,rfl,rfl,rfl,rfl⟩
      ·have w3:(((aK ε.2 (dU f.b 4 8)).2.2.a_ f.aO f.b).2).live=((bO (aK ε.2 (dU f.b 4 8)).2).2.a_ f.aO f.b).2:=w3
       have U:((aK ε.2 (dU f.b 4 8)).2.2.a_ f.aO f.b).1=((bO (aK ε.2 (dU f.b 4 8)).2).2.a_ f.aO f.b).1:=U
       rw[←U,←w3]
       by_cases hy:((aK ε.2 (dU f.b 4 8)).2.2.a_ f.aO f.b).1≠0
       ·rw[aE hy,aE hy];exact .inl ⟨rfl,w2,rfl⟩
       ·rw[ah hy,ah hy];exact .inl ⟨rfl,w2,rfl⟩
structure mh (N ba aq:Nat)(mk:List Nat)(rs:List bt)(B0:Int→List Nat)(g:Int→Option Nat)(F:Nat)(δ:Dk): Prop where
 ex:∃pd C d x tn,RI ba pd B0 rs g C d x∧LR ba aq mk rs x∧F≤x.1.forced∧x.2.ai.length=N∧x.2.log.length≤16777216∧Xq x.2 δ tn∧∀w,tn=some w→w.1<N∧w.2.length=512∧∃rec,g w.1=some rec∧rec<ba+x.1.forced
section
variable {aq:Nat} {rs:List bt}
theorem KS {f:Fm}(I:vw (RI ba pd B0 rs g) (aB ε))(hl:LR ba aq mk rs (bO ε.2))(he:EC N (aB ε))(ha:ε.2.2.dead=false)(Ep:ε.2.2.log.length≤16777216):
  ((outF ε i).1=(outF (aB ε) i).1∧(outF ε i).2.2.2.dead=false∧aB (outF ε i).2=(outF (aB ε) i).2)∨((outF ε i).1=9∧(outF ε i).2.2.2.dead=true∧mh N ba aq mk rs B0 g ε.2.1.forced (outF ε i).2.2.2):=by
 have I:RI ba pd B0 rs g (iI ε.1) ε.1.aN (bO ε.2):=I
 have Ip:ε.2.2.cW=none:=hl.cW
 rcases O8 (i:=i) ha with h|⟨f,hf,h0,hc,h1,h1d,J⟩
 ·grind
 ·refine .inr ⟨h1,h1d,?_⟩
  have hN:(bO ε.2).2.ai.length=N:=he.dk.ai
  rcases J with J|J
  ·rw[Ip] at J
   exact⟨_,_,_,bO ε.2,none,I,hl,aP _,hN,Ep,J,fun w hw=>(by cases hw)⟩
  ·obtain⟨rec,t0,r0,t0',g1,g2,g3,g4,g5⟩:=I.AY f.aO f.b ⟨i,f,hf,rfl,h0,hc,rfl⟩
   have U:=(he.back i f hf).resolve_left (by omega)
   obtain⟨x',kV,h',b8,w1,w2,w3⟩:=I.force (dU f.b 4 8) (by grind[vW])
   have S2:=(jI ba aq mk rs).force _ (dU f.b 4 8) hl
   have hle:=C6 (x:=bO ε.2) (n:=dU f.b 4 8) (by rw[I.len];exact I.le)
   have C7:=(xj ε.2.2.log.length).force (bO ε.2) (dU f.b 4 8) rfl
   rw[kV] at J S2 hle C7
   refine⟨_,_,_,x',_,h',S2,hle,by grind,by grind,J,fun w hw => ?_⟩
   have hw:=cA hw
   subst hw
   have Io:=U.lt
   refine⟨by omega,fb (U.lD hc),rec,?_,by omega⟩
   show g ((f.aO.toNat:Nat):Int)=some rec
   rw[Int.toNat_of_nonneg h0]
   exact I.tZ _ _ _ g1
theorem Iq : ∀ {l:List Int} {ε:bA},(∀n∈l,(lookL n ε.1.aC).isSome=true)→vw (RI ba jR B0 rs g) (aB ε)→LR ba aq mk rs (bO ε.2)→EC N (aB ε)→ε.2.2.dead=false→ε.2.2.log.length≤16777216→∀ {F:Nat},F≤ε.2.1.forced →
  ((writeAllF l ε).1=0∧(writeAllF l ε).2.2.2.dead=false∧aB (writeAllF l ε).2=(writeAllF l (aB ε)).2)∨((writeAllF l ε).1=9∧(writeAllF l ε).2.2.2.dead=true∧mh N ba aq mk rs B0 g F (writeAllF l ε).2.2.2):=by
 intro l
 induction l with
 |nil=>intro ε _ _ _ _ ha _ F _;exact .inl ⟨rfl,ha,rfl⟩
 |cons n l ih =>
  intro ε hk U hl he ha Ep F hF
  obtain⟨i,hi⟩:=Option.isSome_iff_exists.1 (hk n cn)
  obtain⟨h0,j,f,rfl,hf,hp⟩:=he.jL n i hi
  have e1:dP ε n=outF ε j:=by rw[dP,hi];rfl
  have e2:dP (aB ε) n=outF (aB ε) j:=by
   grind[dP,aB]
  obtain⟨o1,o2,o3,o4,_⟩:=he.out hf
  rcases KS (f:=f) (i:=j) U hl he ha Ep with⟨q1,q2,J⟩|⟨q1,q1d,q2⟩
  ·have hz:¬(outF ε j).1≠0:=by omega
   rw[writeAllF,e1,ah hz,writeAllF,e2,ah (by omega),←J]
   have hw:(outF ε j).2.1.aC=ε.1.aC:=by
    have:=kO (fun x:bA=>x.1.aC) J
    exact this.trans o4
   have kB:vw (RI ba jR B0 rs g) (aB (outF ε j).2):=by rw[J];exact(RI.j6 N).out he hf U
   have i_:LR ba aq mk rs (bO (outF ε j).2.2):=by
    have:=(jI ba aq mk rs).out (ε:=aB ε) (i:=j) hl
    rw[←J] at this;exact this
   have hle:ε.2.1.forced≤(outF ε j).2.2.1.forced:=by
    have h5:=(jr ε.2.1.forced).out (ε:=aB ε) (i:=j) ⟨aP _,by have:=(kH.1 U).len;have h6:=(kH.1 U).le;rw[this];exact h6⟩
    rw[←J] at h5;exact h5.1
   have I:=(xj ε.2.2.log.length).out (ε:=aB ε) (i:=j) rfl
   rw[←J] at I
   have I:(outF ε j).2.2.2.log.length=ε.2.2.log.length:=I
   exact ih (fun m hm=>by grind) kB i_ (by grind) q2 (by omega) (b_ hF hle)
  ·have hd:mh N ba aq mk rs B0 g F (outF ε j).2.2.2:=by
    obtain⟨pd,C,d,x,tn,k1,k2,k3,k4⟩:=q2.ex
    exact⟨pd,C,d,x,tn,k1,k2,b_ hF k3,k4⟩
   grind[writeAllF]
theorem mh.cr (h:mh N ba aq mk rs B0 g F δ)(kC:oh rs B0)(hc:nm ba aq data rs r1 F g)(ob:δ.aH≤δ.log.length):
  ∃u v r2,rs=u++v∧F≤szB u∧xg ba aq u data r1 r2∧Ek ba B0 u v r1 r2 δ:=by
 obtain⟨pd,C,d,x,tn,hv,hl,hF,hN,Ep,hd,ht⟩:=h.ex
 obtain⟨u,v,hu,hf⟩:=hv.forced
 obtain⟨r2,U⟩:=hc.at hu (by omega)
 have qt:∀ {t t' a b:List bt} {r:bt} {rec n},u++t++t'=a++r::b→rec=ba+szB a→g n=some rec→szB a<szB (u++t)→r∈r2++t:=fun {t t' a b r rec n} k1 k2 I gW=>by
  have sn:=hc.low n rec I
  obtain⟨w1,e1,e2⟩:=qC (a:=a) (b:=r::b) (u:=u++t) (v:=t') k1.symm (vm gW)
  cases w1 with
  |nil=>grind
  |cons y w1 =>
   injection e2 with e2 e3
   subst e2
   obtain⟨w2,e4,e5⟩:=qC (a:=r1) (b:=r2++t) (u:=a) (v:=r::w1) (by rw[←e1,U.1,cE]) (by omega)
   rw[e5];simp
 refine⟨u,v,r2,hu,by omega,U,U.1,by rw[←hu];exact hl.rs,⟨[],by rw[hd.lt,hl.tail,hl.log,hu,cS],.inl (by decide)⟩,by rw[←hf,hd.cert];exact hv.cert,ob,by grind,fun n w t t' h0 ht' hw J => ?_,fun w hq => ?_⟩
 ·have h0:vV x.2 n:=by unfold vV at h0 ⊢;rw[←hd.ai];exact h0
  have J:qB x.2 n w:=by unfold qB imgOf at J ⊢;rw[hd.ai,hd.wait] at J;exact J
  refine⟨hv.kG n w (u++t) t' h0 (by grind) (by rw[hf];exact nG) (fun rec I => ?_) J,hv.ck n w h0.1 J⟩
  refine u9 fun b8 => ?_
  obtain⟨a,r,b,k1,k2,k3⟩:=hv.aN n rec I
  exact hw ⟨r,qt (t:=t) (t':=t') (by rw[←k1,hu,ht',cE]) k2 I (by omega),k3⟩
 ·obtain⟨_,_,rec,q1,q2⟩:=ht w (by rw[←hd.cW];exact hq)
  obtain⟨a,r,b,k1,k2,k3⟩:=hv.aN w.1 rec q1
  have:=qt (t:=[]) (t':=v) (by rw[cS,←hu];exact k1) k2 q1 (by grind)
  rw[cS] at this
  exact⟨r,this,k3⟩
end
theorem Mz (h:δ.dead=true): (bx π δ).2.2=δ:=by
 grind[bx,Dk.cM]
theorem MA (I:ε.2.2.dead=false)(J:(writeAllF (az ε.1.aC) ε).1≠0→(writeAllF (az ε.1.aC) ε).2.2.2.dead=true): (cU ε).2.2.2=(bx (writeAllF (az ε.1.aC) ε).2.1 (writeAllF (az ε.1.aC) ε).2.2.2).2.2:=by
 grind[cU,Mz]
theorem O9 : j5 fun x=>∀e∈x.2.now,0≤e.1∧e.1<x.2.ai.length:=by
 refine⟨fun x n h => ?_,fun x n b h => ?_⟩
 ·unfold aK Dk.bQ
  split
  ·exact h
  ·split
   ·exact h
   ·split
    ·exact h
    ·split<;>first|exact h|exact h
 ·unfold Dk.a_
  split
  ·exact h
  ·split
   ·exact h
   ·rename_i I
    have I:=Classical.not_not.1 I
    split
    ·exact h
    ·intro e he
     rcases wX he with rfl|he
     ·exact⟨I.1,I.2.1⟩
     ·exact h e he
theorem Ir (h:δ.Ok): (bx π δ).2.2.Ok∧(bx π δ).2.2.waiting.length≤δ.waiting.length:=by
 have e:(bx π δ).2.2=δ.cM.2:=by unfold bx;split<;>rfl
 rw[e]
 refine⟨h.syn,?_⟩
 unfold Dk.cM
 split
 ·simp
 ·split
  ·exact aP _
  ·exact fZ _
theorem EI.YK (h:EI N B ε)(hB:B≤1000){k:Int}(hk:k<4294967296)(w:Int×bA)(hw:w=writeAllF (az ε.1.aC) (ε.1,(ε.2.1,{ ε.2.2 with aA:=k }))):
  ow (ε.1,(ε.2.1,{ ε.2.2 with aA:=k }))∧w.2.2.2.Ok∧(∀e∈w.2.2.2.now,0≤e.1∧e.1<w.2.2.2.ai.length)∧w.2.2.2.waiting.length≤268435456:=by
 have q:=h.ok.ok.dk
 have J:fL (ε.1,(ε.2.1,{ ε.2.2 with aA:=k })):=⟨⟨h.ok.ok.pl,h.ok.ok.lg,⟨hk,q.len,q.room,q.now,q.ai,q.aH,q.many⟩⟩,h.ok.pins,h.ok.full⟩
 have I:EL (B*1048600) (ε.2.1,{ ε.2.2 with aA:=k }):=⟨h.el.log,h.el.cert,h.el.size⟩
 obtain⟨k1,k2,k3⟩:=vS (l:=az ε.1.aC) (ε:=(ε.1,(ε.2.1,{ ε.2.2 with aA:=k }))) I J
 have U:=O9.all (l:=az ε.1.aC) (ε:=(ε.1,(ε.2.1,{ ε.2.2 with aA:=k }))) (fun e he=>by rw[h.ec.dk.ai];exact h.ec.dk.keys _ (lP he))
 rw[←hw] at k2 k3 U
 have hp:Am.cg (ε.1,(ε.2.1,{ ε.2.2 with aA:=k }))=Am.cg ε:=rfl
 have Ij:=h.cg
 have Hi:=nD (ε:=w.2)
 exact⟨J.ok,k2.ok.dk,U,by omega⟩
structure FS (N ba aq:Nat)(mk:List Nat)(rs:List bt)(B0:Int→List Nat)(g:Int→Option Nat)(pd:Int→Prop)(ε:bA): Prop where
 alive:ε.2.2.dead=false
 ri:vw (RI ba pd B0 rs g) (aB ε)
 lr:LR ba aq mk rs (bO ε.2)
 ec:EC N (aB ε)
 len:ε.2.2.log.length≤16777216
def KT (N ba aq:Nat)(mk:List Nat)(rs:List bt)(B0:Int→List Nat)(g:Int→Option Nat)(F:Nat)(e:Int)(ε':bA)(R:Prop): Prop :=
 (ε'.2.2.dead=false∧R)∨(e=9∧ε'.2.2.dead=true∧mh N ba aq mk rs B0 g F ε'.2.2)
theorem mh.low {aq:Nat}{rs:List bt}(h:mh N ba aq mk rs B0 g F' δ)(I:F≤F'): mh N ba aq mk rs B0 g F δ:=by
 obtain⟨pd,C,d,x,tn,k1,k2,J,U⟩:=h.ex
 exact⟨pd,C,d,x,tn,k1,k2,b_ I J,U⟩
section
variable {aq:Nat} {rs:List bt} {n:Int} {l:List Int} {cs:List ct}
theorem FS.le (h:FS N ba aq mk rs B0 g pd ε): ε.2.1.forced≤ε.2.1.b.length:=by
 have q:=kH.1 h.ri
 have I:=q.len
 have J:=q.le
 show(aB ε).2.1.forced≤(aB ε).2.1.b.length
 rw[I];exact J
theorem O_ {bC:Pl}(I:fK ε.1 bC): fK (aB ε).1 bC:=I
theorem eY.mj (hr:eY ε n e b ε')(h:FS N ba aq mk rs B0 g pd ε): KT N ba aq mk rs B0 g ε.2.1.forced e ε' (eY (aB ε) n e b (aB ε')):=by
 have key:∀(bC:Pl) (i:Nat),fK ε.1 bC→((outF (bC,ε.2) i).1=(outF (bC,bO ε.2) i).1∧(outF (bC,ε.2) i).2.2.2.dead=false∧aB (outF (bC,ε.2) i).2=(outF (bC,bO ε.2) i).2)∨((outF (bC,ε.2) i).1=9∧(outF (bC,ε.2) i).2.2.2.dead=true∧mh N ba aq mk rs B0 g ε.2.1.forced (outF (bC,ε.2) i).2.2.2):=fun bC i I=>by
  obtain⟨ec2,_⟩:=h.ec.rj (O_ I)
  have kB:vw (RI ba pd B0 rs g) (bC,bO ε.2):=by
   show RI ba pd B0 rs g (iI bC) bC.aN (bO ε.2)
   rw[HZ I,I.aN];exact kH.1 h.ri
  exact KS (ε:=(bC,ε.2)) (f:=⟨0,[],0,false,false⟩) kB h.lr ec2 h.alive h.len
 cases hr with
 |arg U=>exact .inl ⟨h.alive,.arg U⟩
 |xB i f U h2 hl hf=>exact .inl ⟨h.alive,.xB i f U h2 hl hf⟩
 |out bC i f U h2 hl I hf hh he =>
  rcases key bC i I with⟨k1,k2,J⟩|⟨k1,k2,J⟩
  ·refine .inl ⟨k2,?_⟩
   rw[k1,J]
   exact .out (ε:=aB ε) bC i f U h2 hl I hf hh (by rw[k1] at he;exact he)
  ·exact .inr ⟨k1,k2,J⟩
 |read bC i f U h2 hl I hf hh he hr =>
  rcases key bC i I with⟨k1,k2,J⟩|⟨k1,k2,J⟩
  ·have r1:(outF (bC,ε.2) i).2.2.2.lH n=(outF (bC,bO ε.2) i).2.2.2.lH n:=by rw[←J];rfl
   refine .inl ⟨k2,?_⟩
   have:=eY.read (ε:=aB ε) bC i f U h2 hl I hf hh (by rw[k1] at he;exact he) (by rw[r1] at hr;exact hr)
   grind[aB]
  ·omega
 |bad bC i f U h2 hl I hf hh he hr hc =>
  rcases key bC i I with⟨k1,k2,J⟩|⟨k1,k2,J⟩
  ·have r1:(outF (bC,ε.2) i).2.2.2.lH n=(outF (bC,bO ε.2) i).2.2.2.lH n:=by rw[←J];rfl
   have r2:(outF (bC,ε.2) i).2.2.2.at n=(outF (bC,bO ε.2) i).2.2.2.at n:=by rw[←J];rfl
   refine .inl ⟨k2,?_⟩
   have:=eY.bad (ε:=aB ε) bC i f U h2 hl I hf hh (by rw[k1] at he;exact he) (by rw[r1] at hr;exact hr) (by rw[r2] at hc;exact hc)
   grind[aB]
  ·omega
 |load bC i f U h2 hl I hf hh he hr hc =>
  rcases key bC i I with⟨k1,k2,J⟩|⟨k1,k2,J⟩
  ·have r1:(outF (bC,ε.2) i).2.2.2.lH n=(outF (bC,bO ε.2) i).2.2.2.lH n:=by rw[←J];rfl
   have r2:(outF (bC,ε.2) i).2.2.2.at n=(outF (bC,bO ε.2) i).2.2.2.at n:=by rw[←J];rfl
   refine .inl ⟨k2,?_⟩
   have:=eY.load (ε:=aB ε) bC i f U h2 hl I hf hh (by rw[k1] at he;exact he) (by rw[r1] at hr;exact hr) (by rw[r2] at hc;exact hc)
   grind[aB]
  ·omega
theorem FS.next (h:FS N ba aq mk rs B0 g pd ε)(J:ε'.2.2.dead=false)(he:EC N (aB ε'))(I:∀P:VP,iL N P→vw P (aB ε)→vw P (aB ε')): FS N ba aq mk rs B0 g pd ε'∧ε.2.1.forced≤ε'.2.1.forced :=
 ⟨⟨J,I _ (RI.j6 N) h.ri,I _ ((jI ba aq mk rs).j6 N) h.lr,he,by
  have q:(aB ε').2.2.log.length=ε.2.2.log.length:=I _ ((xj ε.2.2.log.length).j6 N) rfl
  have q:ε'.2.2.log.length=ε.2.2.log.length:=q
  rw[q];exact h.len⟩,(I _ ((jr ε.2.1.forced).j6 N) ⟨aP _,h.le⟩).1⟩
theorem kD.mj (J:kD ε n e b ε')(h:FS N ba aq mk rs B0 g pd ε): KT N ba aq mk rs B0 g ε.2.1.forced e ε' (kD (aB ε) n e b (aB ε')):=by
 cases J with
 |dead I=>rw[h.alive] at I;cases I
 |ja e b ε' I J he =>
  rcases J.mj h with⟨k1,k2⟩|k
  ·exact .inl ⟨k1,.ja _ _ _ I k2 he⟩
  ·exact .inr k
 |rH b ε' I J he =>
  rcases J.mj h with⟨k1,k2⟩|⟨k,_⟩
  ·exact .inl ⟨k1,.rH (ε:=aB ε) _ _ I k2 he⟩
  ·cases k
 |read b ε' I J he =>
  rcases J.mj h with⟨k1,k2⟩|⟨k,_⟩
  ·exact .inl ⟨k1,.read (ε:=aB ε) _ _ I k2 he⟩
  ·cases k
theorem GRd.mj (hr:GRd ε now false n e b ε')(h:FS N ba aq mk rs B0 g pd ε): KT N ba aq mk rs B0 g ε.2.1.forced e ε' (GRd (aB ε) now false n e b (aB ε')):=by
 cases hr with
 |arg I=>exact .inl ⟨h.alive,.arg I⟩
 |bV I U J=>cases J
 |own b I U J hl=>exact .inl ⟨h.alive,.own _ I U J hl⟩
 |read e b ε' I U J hl hr =>
  rcases hr.mj h with⟨k1,k2⟩|k
  ·exact .inl ⟨k1,.read (ε:=aB ε) _ _ _ I U J hl k2⟩
  ·exact .inr k
theorem mC.mj (I:mC ε now false n b e fB ε')(h:FS N ba aq mk rs B0 g pd ε): KT N ba aq mk rs B0 g ε.2.1.forced e ε' (mC (aB ε) now false n b e fB (aB ε')):=by
 cases I with
 |may e c ε' I he =>
  rcases I.mj h with⟨k1,k2⟩|k
  ·exact .inl ⟨k1,.may _ _ _ k2 he⟩
  ·exact .inr k
 |bad c ε' I J =>
  rcases I.mj h with⟨k1,k2⟩|⟨k,_⟩
  ·exact .inl ⟨k1,.bad _ _ k2 J⟩
  ·cases k
 |done c ε' I J =>
  rcases I.mj h with⟨k1,k2⟩|⟨k,_⟩
  ·exact .inl ⟨k1,.done _ _ k2 J⟩
  ·cases k
theorem ChR.mj (I:ChR now l ε e cs ε'): fL (aB ε)→FS N ba aq mk rs B0 g pd ε→∀ {F:Nat},F≤ε.2.1.forced→KT N ba aq mk rs B0 g F e ε' (ChR now l (aB ε) e cs (aB ε')):=by
 induction I with
 |nil ε=>intro _ h F _;exact .inl ⟨h.alive,.nil _⟩
 |err n l ε e b ε' I he =>
  intro J h F U
  rcases I.mj h with⟨k1,k2⟩|⟨k1,k2,k3⟩
  ·exact .inl ⟨k1,.err _ _ _ _ _ _ k2 he⟩
  ·exact .inr ⟨k1,k2,k3.low U⟩
 |part n l ε eO b ε' c e cs od I hb hd hc hl ht ih =>
  intro J h F U
  rcases I.mj h with⟨k1,k2⟩|⟨k,_⟩
  ·obtain⟨q1,q2⟩:=h.next k1 (k2.ec h.ec J.pins).1 (fun P hP hv=>hP.rd k2 h.ec hv)
   rcases ih (k2.iR J) q1 (b_ U q2) with⟨j1,j2⟩|j
   ·exact .inl ⟨j1,.part _ _ _ _ _ _ _ _ _ _ k2 hb hd hc hl j2⟩
   ·exact .inr j
  ·cases k
 |whole n l ε eO b ε' e cs od I hb hd ht ih =>
  intro J h F U
  rcases I.mj h with⟨k1,k2⟩|⟨k,_⟩
  ·obtain⟨q1,q2⟩:=h.next k1 (k2.ec h.ec J.pins).1 (fun P hP hv=>hP.rd k2 h.ec hv)
   rcases ih (k2.iR J) q1 (b_ U q2) with⟨j1,j2⟩|j
   ·exact .inl ⟨j1,.whole _ _ _ _ _ _ _ _ _ k2 hb hd j2⟩
   ·exact .inr j
  ·cases k
end
theorem sq {kd:Int}{pv nx:Nat}{c:List ct}(I:x.2.dead=false):
  ((aI x kd tx pv nx data c)=((0,9),(x.1,{ x.2.die with tail:=bX x.1 kd tx pv nx data c }))∧(aI (bO x) kd tx pv nx data c).1.2=0∧(aI (bO x) kd tx pv nx data c).2.2={ x.2.live with log:=x.2.log++bX x.1 kd tx pv nx data c }∧x.2.log.length+(bX x.1 kd tx pv nx data c).length≤x.2.room) ∨
  ((aI x kd tx pv nx data c).1=(aI (bO x) kd tx pv nx data c).1∧(aI x kd tx pv nx data c).2.2.dead=false∧bO (aI x kd tx pv nx data c).2=(aI (bO x) kd tx pv nx data c).2):=by
 by_cases hg:dY kd c=false
 ·grind[aI]
 ·by_cases hb:1048576<(dF kd tx pv nx data c).length
  ·grind[aI]
  ·by_cases J:x.2.room<x.2.log.length+(bX x.1 kd tx pv nx data c).length
   ·have a1:x.2.iY (bX x.1 kd tx pv nx data c)=(7,x.2):=by grind[Dk.iY]
    have U:(bO x).2.iY (bX (bO x).1 kd tx pv nx data c)=(7,(bO x).2):=by
     rw[Dk.iY,ah (by show ¬x.2.dead=true;rw[I];decide),aE (show(bO x).2.room<(bO x).2.log.length+(bX (bO x).1 kd tx pv nx data c).length from J)]
    grind[aI]
   ·have U:(bO x).2.iY (bX (bO x).1 kd tx pv nx data c)=(0,{ x.2.live with log:=x.2.log++bX x.1 kd tx pv nx data c }):=by
     rw[Dk.iY,ah (by show ¬x.2.dead=true;rw[I];decide),ah (show ¬(bO x).2.room<(bO x).2.log.length+(bX (bO x).1 kd tx pv nx data c).length from J),ah (by show ¬(-1:Int)=0;decide)];rfl
    have e2:aI (bO x) kd tx pv nx data c=(((bO x).1.base+(bO x).1.b.length,0),((bO x).1.app (bX x.1 kd tx pv nx data c),{ x.2.live with log:=x.2.log++bX x.1 kd tx pv nx data c })):=by
     rw[aI,ah hg,ah hb,U,ah (by simp)];rfl
    by_cases hf:x.2.aA=0
    ·grind[Dk.iY,aI]
    ·have a1:x.2.iY (bX x.1 kd tx pv nx data c)=(0,{ x.2.cQ with log:=x.2.log++bX x.1 kd tx pv nx data c }):=by grind[Dk.iY]
     have e1:aI x kd tx pv nx data c=((x.1.base+x.1.b.length,0),(x.1.app (bX x.1 kd tx pv nx data c),{ x.2.cQ with log:=x.2.log++bX x.1 kd tx pv nx data c })):=by
      grind[aI]
     rw[e1,e2];exact .inr ⟨rfl,I,rfl⟩
section
variable {aq:Nat} {rs:List bt} {n:Int} {cs:List ct}
theorem PtR.mj {l:List Int}(J:PtR now aM l ε e ε'): ∀ {p:Int→Prop},fL (aB ε)→FS N ba aq mk rs B0 g p ε→NW N now→(∀n∈l,0≤n∧n<N)→l.Nodup→(∀n∈l,p n)→(∃t r,rs=t++[r]∧aM=ba+szB t)→aM<18446744073709551616→∀ {F:Nat},F≤ε.2.1.forced →
  KT N ba aq mk rs B0 g F e ε' (PtR now aM l (aB ε) e (aB ε')):=by
 induction J with
 |nil ε=>intro p _ h _ _ _ _ _ _ F _;exact .inl ⟨h.alive,.nil _⟩
 |ja n l ε e b ε' J he =>
  intro p h3 h hn hl _ _ _ _ F hF
  rcases J.mj h with⟨k1,k2⟩|⟨k1,k2,k3⟩
  ·exact .inl ⟨k1,.ja _ _ _ _ _ _ k2 he⟩
  ·exact .inr ⟨k1,k2,k3.low hF⟩
 |bad n l ε b0 b ε' J hb he =>
  intro p h3 h hn hl _ _ _ _ F hF
  rcases J.mj h with⟨k1,k2⟩|⟨k,_⟩
  ·exact .inl ⟨k1,.bad (ε:=aB ε) _ _ _ _ _ k2 hb he⟩
  ·cases k
 |put n l ε b0 b ε' e od J hb he ht ih =>
  intro p h3 h hn hl mL hp I b8 F hF
  rcases J.mj h with⟨k1,k2⟩|⟨k,_⟩
  ·have U:=hl n cn
   obtain⟨c1,c2,c3,c4⟩:=k2.ec h.ec
   obtain⟨i,f,p1,p2,p3,p4,p5⟩:=k2.at h3.pins
   have hg:=hn.look hb
   have e1:=sQ (aM:=aM) p1 p2 p3 hg.1
   have uy:iJ ε'.1 n b aM=iJ (aB ε').1 n b aM:=rfl
   obtain⟨q1,q2⟩:=c1.put (aM:=aM) p1 p2 hg.1 hg.2 U.1 U.2
   have HY:=(k2.put (b:=b) (aM:=aM) h3).1
   have uv:vw (RI ba p B0 rs g) (aB ε'):=(RI.j6 N).ja k2 h.ec h.ri
   have kB:=RI.put uv c1 p1 p2 (fb hg.1) U.1 (hp n cn) I b8
   have S2:=((jI ba aq mk rs).j6 N).ja k2 h.ec h.lr
   have KR:=(((jr ε.2.1.forced).j6 N).ja k2 h.ec ⟨aP _,h.le⟩).1
   have C7:(aB ε').2.2.log.length=ε.2.2.log.length:=((xj ε.2.2.log.length).j6 N).ja k2 h.ec rfl
   obtain⟨d1,d2⟩:=List.nodup_cons.1 mL
   have h':FS N ba aq mk rs B0 g (fun m=>p m∧m≠n) ((iJ ε'.1 n b aM).2,ε'.2):=by
    refine⟨k1,?_,S2,?_,?_⟩
    ·rw[uy,e1];exact kB
    ·rw[uy,e1];exact q1
    ·have C7:ε'.2.2.log.length=ε.2.2.log.length:=C7
     rw[C7];exact h.len
   rcases ih HY h' hn (fun m hm=>hl m (b9 _ hm)) d2 (fun m hm=>⟨hp m (b9 _ hm),fun q=>d1 (by grind)⟩) I b8 (b_ hF KR) with⟨j1,j2⟩|j
   ·exact .inl ⟨j1,.put (ε:=aB ε) _ _ _ _ _ _ _ k2 hb he j2⟩
   ·exact .inr j
  ·cases k
theorem ChR.laid {kd:Nat}{η I:bA}(hc:ChR now (az now) η 0 cs I)(h:EI N B η)(hB:B≤1000)(hn:NW N now)(hl:LR ba aq mk rs η.2)(h1:1≤kd)(h2:kd≤7)(ht:tx<65536)(hv:vw (RI ba jR B0 rs g) η)(fM:AZ N rs B0 η)(kC:oh rs B0)
 (ha:(aI I.2 kd tx 0 0 data cs).1.2=0): ∃(r:bt) (g':Int→Option Nat),r.kd=kd∧(aI I.2 kd tx 0 0 data cs).1.1=ba+szB rs∧ba+szB rs<18446744073709551616∧LR ba aq mk (rs++[r]) (aI I.2 kd tx 0 0 data cs).2 ∧
   vw (RI ba (fun n=>n∈az now) B0 (rs++[r]) g') (I.1,(aI I.2 kd tx 0 0 data cs).2)∧EI N (B+1) (I.1,(aI I.2 kd tx 0 0 data cs).2)∧oh (rs++[r]) B0∧(∀n rec,g' n=some rec→g n=some rec∨rec=ba+szB rs) ∧
   ∀n,0≤n→n<(N:Int)→iw (dg (rs++[r]) B0 n) (match lookL n now with|some b=>b|none=>pgA η n):=by
 have J:∀n∈az now,0≤n∧n<N:=fun n U=>hn.keys n (fG.1 U)
 have hN:=h.many
 have lX:dY kd cs=true:=by
  refine Bq ⟨by omega,by omega⟩ (hc.fit (fun x hx=>fb (hn.good x hx).1) fun n U => ?_)<;>grind
 have mL:(az now).Nodup:=(en _).nodup_iff.2 hn.nodup
 obtain⟨c1,c2,c3⟩:=hc.ec h.ec h.ok J
 have hi:EI N B I:=⟨hc.iR h.ok,c1,hc.el h.el,b_ hc.cg h.cg⟩
 have tQ:=(jI ba aq mk rs).ch hc hl
 obtain⟨r,k1,k2,k3,k4,k5,k6,k7,k8,k9,Xk,_⟩:=tQ.app h1 lX ht ha
 obtain⟨a1,a2,a3⟩:=hi.app (kd:=kd) (tx:=tx) (pv:=0) (nx:=0) (data:=data) (c:=cs) hB lX
 have a3:=a3.resolve_right (by omega)
 obtain⟨_,a4⟩:=a3
 have uv:vw (RI ba jR B0 rs g) I:=(RI.j6 N).ch hc h.ec h.ok hv
 obtain⟨s1,s2,s3,s4⟩:=hc.st (σ:=dg rs B0) h.ec h.ok hn mL J hv (fun n hm=>by have:=J n hm;exact fM n this.1 this.2)
 subst k7
 have gW:=hi.el.size
 have Gi:=tQ.b
 have uJ:=tQ.base
 have b8:ba+szB rs<18446744073709551616:=by
  grind
 have kg:∀n,n∈az now↔ry r n:=fun n=>(s3 n).symm
 have kB:=RI.app (kH.1 uv) (r:=r) (fun n hg U=>s4 n ((kg n).2 U) hg) (μ:=(aI I.2 kd tx 0 0 data r.aR).2.1) (δ:=(aI I.2 kd tx 0 0 data r.aR).2.2)
  (by rw[k9.base,uJ]) k9.b (by rw[a4];rfl) k9.log (by rw[a4]) (by rw[a4]) (by rw[a4]) (by rw[a4]) (by rw[a4]) (by rw[a4]) kg
 refine⟨r,_,k2,k8,b8,k9,kB,a1,kC.app (hc.lt hn) (fun n U => ?_),fun n rec U => ?_,fun n h0 CA => ?_⟩
 ·have hm:=(kg n).2 U
  cases hb:lookL n now with
  |none=>grind[fG,ff]
  |some b =>
   rw[kR]
   show bR (iu r.aR (dg rs B0) n)=true
   rw[(s1 n hm b hb).good];exact(hn.look hb).1
 ·grind
 ·rw[kR]
  show iw (iu r.aR (dg rs B0) n) _
  cases U:lookL n now with
  |some b =>
   have hm:n∈az now:=fG.2 ((fh U) |> lP (f:=(·.1)))
   exact s1 n hm b U
  |none =>
   have hm:n∉az now:=fun q=>ff.1 U (fG.1 q)
   rw[s2 n hm]
   exact fM n h0 CA
theorem DnR.mj {kd:Nat}(hr:DnR ε now kd tx 0 0 data 0 aM e cl ε')(h:FS N ba aq mk rs B0 g jR ε)(hi:EI N B (aB ε))(hB:B≤1000)(hn:NW N now)(h1:1≤kd)(h2:kd≤7)(ht:tx<65536)(fM:AZ N rs B0 (aB ε))(kC:oh rs B0):
  (ε'.2.2.dead=false∧DnR (aB ε) now kd tx 0 0 data 0 aM e cl (aB ε'))∨(e=9∧aM=0∧ε'.2.2.dead=true∧mh N ba aq mk rs B0 g ε.2.1.forced ε'.2.2) ∨
  (e=9∧aM=0∧ε'.2.2.dead=true∧∃(r:bt) (g':Int→Option Nat),r.kd=kd∧mh N ba aq mk (rs++[r]) B0 g' ε.2.1.forced ε'.2.2∧oh (rs++[r]) B0∧(∀n rec,g' n=some rec→g n=some rec∨rec=ba+szB rs) ∧
   ∀n,0≤n→n<(N:Int)→iw (dg (rs++[r]) B0 n) (match lookL n now with|some b=>b|none=>pgA (aB ε) n)):=by
 have J:∀n∈az now,0≤n∧n<N:=fun n hq=>hn.keys n (fG.1 hq)
 have mL:(az now).Nodup:=(en _).nodup_iff.2 hn.nodup
 cases hr with
 |arg hh=>omega
 |dead _ _ _ hd=>rw[h.alive] at hd;cases hd
 |lD e c ε' q1 q2 q3 hd hc he =>
  rcases hc.mj hi.ok h (aP _) with⟨k1,k2⟩|⟨k1,k2,k3⟩
  ·exact .inl ⟨k1,.lD _ _ _ q1 q2 q3 hd k2 he⟩
  ·grind
 |app c I q1 q2 q3 hd hc he =>
  rcases hc.mj hi.ok h (aP _) with⟨k1,k2⟩|⟨k,_⟩
  ·obtain⟨c1,c2,c3⟩:=k2.ec hi.ec hi.ok J
   obtain⟨f1,f2⟩:=h.next k1 c1 (fun P hP hv=>hP.ch k2 h.ec hi.ok hv)
   rcases sq (x:=I.2) (kd:=kd) (tx:=tx) (pv:=0) (nx:=0) (data:=data) (c:=c) k1 with⟨U,a2,a3,a4⟩|⟨U,a2,a3⟩
   ·refine .inr (.inr ⟨by rw[U],rfl,by rw[U];rfl,?_⟩)
    obtain⟨r,g',r1,r2,r3,r4,r5,r6,r7,r8,r9⟩:=k2.laid hi hB hn h.lr h1 h2 ht h.ri fM kC (kd:=kd) (tx:=tx) (data:=data) a2
    refine⟨r,g',r1,⟨_,_,_,_,none,kH.1 r5,r4,?_,r6.ec.dk.ai,r6.ok.ok.dk.len,?_,fun w hw=>(by cases hw)⟩,r7,r8,r9⟩
    ·have:∀ {x:LD} {kd:Int} {tx pv nx:Nat} {dt:List Nat} {c:List ct},(aI x kd tx pv nx dt c).2.1.forced=x.1.forced:=fun {x kd tx pv nx dt c}=>by
      rcases gh x kd tx pv nx dt c with⟨e,_,_,hq⟩|⟨_,_,hq⟩|⟨_,_,_,_,_,hq⟩<;>rw[hq]
      rfl
     rw[this];exact f2
    ·have ht:I.2.2.tail=[]:=f1.lr.tail
     have Ip:I.2.2.cW=none:=f1.lr.cW
     have a3:(aI (aB I).2 kd tx 0 0 data c).2.2={ I.2.2.live with log:=I.2.2.log++bX I.2.1 kd tx 0 0 data c }:=a3
     rw[a3,U]
     refine⟨?_,rfl,rfl,rfl,rfl,Ip⟩
     show I.2.2.log++bX I.2.1 kd tx 0 0 data c=(I.2.2.log++bX I.2.1 kd tx 0 0 data c)++I.2.2.tail
     rw[ht,cS]
   ·have:=DnR.app (ε:=aB ε) (now:=now) (kd:=kd) (tx:=tx) (pv:=0) (nx:=0) (data:=data) c (aB I) q1 q2 q3 hd k2 (by rw[U] at he;exact he)
    grind[aB]
  ·cases k
 |put c I e YF q1 q2 q3 hd hc ha hp =>
  rcases hc.mj hi.ok h (aP _) with⟨k1,k2⟩|⟨k,_⟩
  ·obtain⟨c1,c2,c3⟩:=k2.ec hi.ec hi.ok J
   obtain⟨f1,f2⟩:=h.next k1 c1 (fun P hP hv=>hP.ch k2 h.ec hi.ok hv)
   rcases sq (x:=I.2) (kd:=kd) (tx:=tx) (pv:=0) (nx:=0) (data:=data) (c:=c) k1 with⟨U,_⟩|⟨U,a2,a3⟩
   ·grind
   ·have Wa:(aI (aB I).2 kd tx 0 0 data c).1.2=0:=by
     show(aI (bO I.2) kd tx 0 0 data c).1.2=0
     rw[←U];exact ha
    obtain⟨r,g',r1,r2,r3,r4,r5,r6,r7,r8,r9⟩:=k2.laid hi hB hn h.lr h1 h2 ht h.ri fM kC (kd:=kd) (tx:=tx) (data:=data) Wa
    have e3:aB (I.1,(aI I.2 kd tx 0 0 data c).2)=((aB I).1,(aI (aB I).2 kd tx 0 0 data c).2):=by
     show(I.1,bO (aI I.2 kd tx 0 0 data c).2)=_
     rw[a3];rfl
    have hlf:(aI I.2 kd tx 0 0 data c).2.1.forced=I.2.1.forced:=by
     rcases gh I.2 kd tx 0 0 data c with⟨e,_,_,hq⟩|⟨_,_,hq⟩|⟨_,_,_,_,_,hq⟩<;>rw[hq]
     rfl
    have hF:FS N ba aq mk (rs++[r]) B0 g' (fun n=>n∈az now) (I.1,(aI I.2 kd tx 0 0 data c).2):=by
     refine⟨a2,by grind,?_,by rw[e3];exact r6.ec,?_⟩
     ·grind[aB]
     ·have:=r6.ok.ok.dk.len
      have e5:(aI I.2 kd tx 0 0 data c).2.2.log=(aI (aB I).2 kd tx 0 0 data c).2.2.log:=by
       show(bO (aI I.2 kd tx 0 0 data c).2).2.log=_
       rw[a3];rfl
      grind
    have Xl:(aI I.2 kd tx 0 0 data c).1.1=ba+szB rs:=by rw[U];exact r2
    rcases hp.mj (by rw[e3];exact r6.ok) hF hn J mL (fun n hm=>hm) ⟨rs,r,rfl,Xl⟩ (by omega) (F:=ε.2.1.forced) (by grind) with⟨j1,j2⟩|⟨j1,j2,j3⟩
    ·refine .inl ⟨j1,?_⟩
     rw[e3,U] at j2
     have:=DnR.put (ε:=aB ε) (now:=now) (kd:=kd) (tx:=tx) (pv:=0) (nx:=0) (data:=data) c (aB I) e (aB ε') q1 q2 q3 hd k2 Wa j2
     rw[U];exact this
    ·grind
  ·cases k
end
theorem MB (I:δ.dead=false): δ.gC b=(9,δ.die) ∨
  ((δ.gC b).1=(δ.live.gC b).1∧(δ.gC b).2.dead=false∧(δ.gC b).2.live=(δ.live.gC b).2):=by
 by_cases hl:64<b.length
 ·have J:δ.gC b=(1,δ):=by grind[Dk.gC]
  have U:δ.live.gC b=(1,δ.live):=by rw[Dk.gC,ah (by show ¬δ.dead=true;rw[I];decide),aE hl]
  rw[J,U];exact .inr ⟨rfl,I,rfl⟩
 ·have U:δ.live.gC b=(0,{ δ.live with mark:=b }):=by rw[Dk.gC,ah (by show ¬δ.dead=true;rw[I];decide),ah hl,ah (by show ¬(-1:Int)=0;decide)];rfl
  by_cases hf:δ.aA=0
  ·grind[Dk.gC]
  ·have J:δ.gC b=(0,{ δ.cQ with mark:=b }):=by grind[Dk.gC]
   rw[J,U];exact .inr ⟨rfl,I,rfl⟩
theorem Pa {n:Int}(I:δ.dead=false): δ.gV n b=(9,δ.die) ∨
  ((δ.gV n b).1=(δ.live.gV n b).1∧(δ.gV n b).2.dead=false∧(δ.gV n b).2.live=(δ.live.gV n b).2):=by
 by_cases hl:¬(0≤n∧n≤δ.aH∧b.length≤64)
 ·have J:δ.gV n b=(1,δ):=by grind[Dk.gV]
  have U:δ.live.gV n b=(1,δ.live):=by rw[Dk.gV,ah (by show ¬δ.dead=true;rw[I];decide),aE (show ¬(0≤n∧n≤δ.live.aH∧b.length≤64) from hl)]
  rw[J,U];exact .inr ⟨rfl,I,rfl⟩
 ·have U:δ.live.gV n b=(0,{ δ.live with log:=δ.log.drop n.toNat,aH:=δ.aH-n.toNat,mark:=b }):=by rw[Dk.gV,ah (by show ¬δ.dead=true;rw[I];decide),ah (show ¬¬(0≤n∧n≤δ.live.aH∧b.length≤64) from hl),ah (by show ¬(-1:Int)=0;decide)];rfl
  by_cases hf:δ.aA=0
  ·grind[Dk.gV]
  ·have J:δ.gV n b=(0,{ δ.cQ with log:=δ.log.drop n.toNat,aH:=δ.aH-n.toNat,mark:=b }):=by grind[Dk.gV]
   rw[J,U];exact .inr ⟨rfl,I,rfl⟩
theorem Is (I:x.2.dead=false): dZ x n=(9,(x.1,x.2.die)) ∨
  ((dZ x n).1=(dZ (bO x) n).1∧(dZ x n).2.2.dead=false∧bO (dZ x n).2=(dZ (bO x) n).2):=by
 grind[dZ,bO,MB]
theorem MC (I:x.2.dead=false): eU x n=(9,(x.1,x.2.die)) ∨
  ((eU x n).1=(eU (bO x) n).1∧(eU x n).2.2.dead=false∧bO (eU x n).2=(eU (bO x) n).2):=by
 grind[bO,eU,Pa]
section
variable {aq:Nat} {rs:List bt}
theorem RS.S3 (h:RS N ba aq mk rs B0 g ε)(rf:EI N B ε)(hB:B≤1000)(ha:(fP ε data).1.2=0):
  ∃rc:bt,rc.aR=[]∧LR ba aq mk (rs++[rc]) (fP ε data).2∧RI ba jR B0 (rs++[rc]) g (iI ε.1) ε.1.aN (fP ε data).2∧oh (rs++[rc]) B0∧(fP ε data).2.1.forced=ε.2.1.forced∧EI N (B+1) (ε.1,(fP ε data).2)∧(fP ε data).1.1=ba+szB rs:=by
 have yz:RI ba jR B0 rs g (iI ε.1) ε.1.aN ε.2:=h.ri
 obtain⟨rc,rok,k1,k2,k3,k4,k5,k6,k7,I,k8,k9⟩:=h.lr.app (kd:=8) (tx:=0) (data:=le 8 (eV ε)++data) (c:=[]) (by decide) (by decide) (by decide) ha
 have I:LR ba aq mk (rs++[rc]) (fP ε data).2:=I
 have J:∀n,¬ry rc n:=fun n ⟨c,hc,_⟩=>by grind
 obtain⟨a1,a2,a3⟩:=rf.app (kd:=8) (tx:=0) (pv:=0) (nx:=0) (data:=le 8 (eV ε)++data) (c:=[]) hB (by decide)
 have a3:=a3.resolve_right (by
  have ha:(aI ε.2 8 0 0 0 (le 8 (eV ε)++data) []).1.2=0:=ha
  rw[ha];rintro(q|⟨q,_⟩)<;>cases q)
 obtain⟨_,a4⟩:=a3
 have a4:fP ε data=_:=a4
 have U:RI ba jR B0 (rs++[rc]) g (iI ε.1) ε.1.aN (fP ε data).2:=by
  have:=yz.app (r:=rc) (fun n _ hq=>absurd hq (J n)) (μ:=(fP ε data).2.1) (δ:=(fP ε data).2.2) (by rw[a4];rfl) I.b (by rw[a4];rfl) I.log (by rw[a4]) (by rw[a4]) (by rw[a4]) (by rw[a4]) (by rw[a4]) (by rw[a4]) (p:=fun _=>False) (fun n=>⟨False.elim,J n⟩)
  refine Eq.mp (congrArg (fun g'=>RI ba jR B0 (rs++[rc]) g' (iI ε.1) ε.1.aN (fP ε data).2) (funext fun n => ?_)) this
  grind
 exact⟨rc,k6,I,U,h.gd.app (fun c hc=>by grind) (fun n hn=>absurd hn (J n)),by rw[a4];rfl,a1,k7⟩
theorem Aw (J:bO x=y)(h:RI ba pd B0 rs g C d y)(I:LR ba aq mk rs y)(U:F≤y.1.forced)(hN:y.2.ai.length=N)(hlen:y.2.log.length≤16777216): mh N ba aq mk rs B0 g F x.2.die:=by
 subst J
 exact⟨_,_,_,_,none,h,I,U,hN,hlen,⟨rfl,rfl,rfl,rfl,rfl,I.cW⟩,fun w hw=>(by cases hw)⟩
theorem Pb (J:RI ba pd B0 (rs++[rc]) g C d x)(k2:LR ba aq mk (rs++[rc]) x)(hN:x.2.ai.length=N)(hlen:x.2.log.length≤16777216):
  RI ba pd B0 (rs++[rc]) g C d (aK x (ba+szB rs)).2∧LR ba aq mk (rs++[rc]) (aK x (ba+szB rs)).2∧x.1.forced≤(aK x (ba+szB rs)).2.1.forced∧(aK x (ba+szB rs)).2.2.ai.length=N∧(aK x (ba+szB rs)).2.2.log.length≤16777216:=by
 have e3:=m6 rc
 have e4:szB (rs++[rc])=szB rs+rc.len:=by rw[eX];simp[szB]
 obtain⟨x',kV,U,Ff,w1,w2,w3⟩:=J.force (ba+szB rs) (by omega)
 have I:=(jI ba aq mk (rs++[rc])).force _ (ba+szB rs) k2
 have hs:=qu (π:=Pl.fresh 0) (x:=x) (n:=ba+szB rs)
 have hle:=C6 (x:=x) (n:=ba+szB rs) (by rw[J.len];exact J.le)
 refine⟨by grind,I,hle,?_,?_⟩
 ·grind
 ·rw[show(aK x (ba+szB rs)).2.2.log=x.2.log from hs.log];exact hlen
theorem RC {y:(Nat×Int)×LD}: (eu y).2.1.base=y.2.1.base:=by
 grind[dZ,aK,eu,gL]
theorem yL.live {y I:(Nat×Int)×LD}{kp:Nat}{z:LD}(U:y.1=I.1)(a2:y.2.2.dead=false)(a3:bO y.2=I.2)(J:yL y kp data dh mg e z bG bW):
  (z.2.dead=false∧yL I kp data dh mg e (bO z) bG bW) ∨
  (y.1.2=0∧e=9∧bG=dh∧bW=mg∧z.2=y.2.2.die) ∨
  (y.1.2=0∧e=9∧bG=dh∧bW=mg∧z.2=(gL y).2.2.die∧bO (gL y).2=(gL I).2) ∨
  (y.1.2=0∧e=9∧bG=data∧bW=y.1.1∧z.2=(eu y).2.2.die∧bO (eu y).2=(eu I).2∧(gL I).1=0∧(eu I).1=0):=by
 have hF:gL I=aK (bO y.2) y.1.1:=by rw[gL,←a3,←U]
 have Xr:gL y=aK y.2 y.1.1:=rfl
 by_cases h0:y.1.2=0
 ·rcases ua (x:=y.2) (n:=y.1.1) a2 with f1|⟨f1,f2,f3⟩
  ·cases J<;>grind
  ·rw[←hF,←Xr] at f1 f3
   by_cases Xn:(gL y).1=0
   ·have hC:eu I=dZ (bO (gL y).2) y.1.1:=by rw[eu,←f3,←U]
    have hC0:eu y=dZ (gL y).2 y.1.1:=rfl
    rcases Is (x:=(gL y).2) (n:=y.1.1) f2 with c1|⟨c1,c2,c3⟩
    ·cases J<;>grind
    ·rw[←hC,←hC0] at c1 c3
     have c4:(eu y).2.1=(eu I).2.1:=by rw[←c3];rfl
     by_cases SX:(eu y).1=0
     ·cases J with
      |app he=>omega
      |force _ he=>omega
      |check _ _ he=>omega
      |cO _ _ _ hx =>
       refine .inl ⟨c2,?_⟩
       rw[c3,U]
       exact .cO (by grind) (by omega) (by omega) (by grind)
      |cut t _ _ _ ht b8 hx =>
       rcases MC (x:=(eu y).2) (n:=t) c2 with d1|⟨d1,d2,d3⟩
       ·grind
       ·refine .inl ⟨d2,?_⟩
        rw[d3,d1,c3,U]
        exact .cut t (by grind) (by omega) (by omega) (by grind) (by grind) (by grind)
     ·cases J with
      |app he=>omega
      |force _ he=>omega
      |check _ _ he =>
       refine .inl ⟨c2,?_⟩
       rw[c3,c1]
       exact .check (by grind) (by omega) (by omega)
      |cut t _ _ he=>omega
      |cO _ _ he=>omega
   ·cases J with
    |app he=>omega
    |force _ he =>
     refine .inl ⟨f2,?_⟩
     rw[f3,f1]
     exact .force (by grind) (by omega)
    |check _ he=>omega
    |cut t _ he=>omega
    |cO _ he=>omega
 ·cases J with
  |app he =>
   refine .inl ⟨a2,?_⟩
   rw[a3,U]
   exact .app (by grind)
  |force he=>omega
  |check he=>omega
  |cut t he=>omega
  |cO he=>omega
theorem qH.mj (hr:qH ε lo data dh mg e ε' bG bW)(h:FS N ba aq mk rs B0 g jR ε)(hi:EI N B (aB ε))(hB:B≤1000)(uJ:1≤ba)(fM:AZ N rs B0 (aB ε))(kC:oh rs B0):
  (ε'.2.2.dead=false∧qH (aB ε) lo data dh mg e (aB ε') bG bW) ∨
  (e=9∧bG=dh∧bW=mg∧ε'.2.2.dead=true∧∃rc:bt,rc.aR=[]∧mh N ba aq mk (rs++[rc]) B0 g ε.2.1.forced ε'.2.2∧oh (rs++[rc]) B0) ∨
  (e=9∧bG=data∧ε'.2.2.dead=true∧∃b I r1 B1,1≤b∧mh N b bW (eo b bW) I B1 g (szB I) ε'.2.2∧oh I B1∧nm b bW data I r1 (szB I) g∧(b≤(B+1)*1048600∧bW≤1099511627776)∧∀n,0≤n→n<(N:Int)→iw (dg I B1 n) (pgA (aB ε) n)):=by
 have J:RS N ba aq mk rs B0 g (aB ε):=⟨h.lr,h.ri,fM,kC⟩
 cases hr with
 |HL hb=>exact .inl ⟨h.alive,.HL hb⟩
 |dead _ hd=>rw[h.alive] at hd;cases hd
 |go e y bG bW qi hd hc =>
  have lift:yL (fP (aB ε) data) (rW ε lo) data dh mg e (bO y) bG bW→qH (aB ε) lo data dh mg e (aB (ε.1,y)) bG bW:=fun q=>.go _ _ _ _ qi h.alive q
  have vU:fP (aB ε) data=aI (bO ε.2) 8 0 0 0 (le 8 (eV ε)++data) []:=rfl
  have U:fP ε data=aI ε.2 8 0 0 0 (le 8 (eV ε)++data) []:=rfl
  rcases sq (x:=ε.2) (kd:=8) (tx:=0) (pv:=0) (nx:=0) (data:=le 8 (eV ε)++data) (c:=[]) h.alive with⟨a1,a2,a3,a4⟩|⟨a1,a2,a3⟩
  ·rw[←U] at a1
   rw[←vU] at a2 a3
   cases hc with
   |app he =>
    obtain⟨rc,k1,k2,k3,k4,k5,k6,k7⟩:=J.S3 hi hB (data:=data) a2
    rw[a1]
    refine .inr (.inl ⟨rfl,rfl,rfl,rfl,rc,k1,⟨_,_,_,_,none,k3,k2,sV k5.symm,k6.ec.dk.ai,k6.ok.ok.dk.len,?_,fun w hw=>(by cases hw)⟩,k4⟩)
    have ht:ε.2.2.tail=[]:=h.lr.tail
    have Ip:ε.2.2.cW=none:=h.lr.cW
    rw[a3]
    refine⟨?_,rfl,rfl,rfl,rfl,Ip⟩
    show ε.2.2.log++bX ε.2.1 8 0 0 0 (le 8 (eV ε)++data) []=(ε.2.2.log++bX ε.2.1 8 0 0 0 (le 8 (eV ε)++data) [])++ε.2.2.tail
    rw[ht,cS]
   |force h0=>grind
   |check h0=>grind
   |cut t h0=>grind
   |cO h0=>grind
  ·rw[←vU,←U] at a1 a3
   rw[←U] at a2
   rcases hc.live a1 a2 a3 with⟨z1,z2⟩|⟨h0,rfl,rfl,rfl,z⟩|⟨h0,rfl,rfl,rfl,z,f3⟩|⟨h0,rfl,hd1,rfl,z,c3,f0,c0⟩
   ·grind
   ·obtain⟨rc,k1,k2,k3,k4,k5,k6,k7⟩:=J.S3 hi hB (data:=data) (by grind)
    refine .inr (.inl ⟨rfl,rfl,rfl,by rw[z];rfl,rc,k1,?_,k4⟩)
    show mh N ba aq mk (rs++[rc]) B0 g ε.2.1.forced y.2
    rw[z]
    exact Aw a3 k3 k2 (sV k5.symm) k6.ec.dk.ai k6.ok.ok.dk.len
   ·obtain⟨rc,k1,k2,k3,k4,k5,k6,k7⟩:=J.S3 hi hB (data:=data) (by grind)
    refine .inr (.inl ⟨rfl,rfl,rfl,by rw[z];rfl,rc,k1,?_,k4⟩)
    show mh N ba aq mk (rs++[rc]) B0 g ε.2.1.forced y.2
    rw[z]
    obtain⟨m1,m2,m3,m4,m5⟩:=Pb k3 k2 k6.ec.dk.ai k6.ok.ok.dk.len
    have e5:bO (gL (fP ε data)).2=(aK (fP (aB ε) data).2 (ba+szB rs)).2:=by rw[f3,gL,k7]
    exact Aw e5 m1 m2 (by rw[k5] at m3;exact m3) m4 m5
   ·have S4:(fP (aB ε) data).1.2=0:=by grind
    have EE:(eu (fP (aB ε) data)).2.1.base=ba:=by
     obtain⟨rc,k1,k2,k3,k4,k5,k6,k7⟩:=J.S3 hi hB (data:=data) S4
     rw[RC];exact k2.base
    have Hv:qH (aB ε) 1 data dh mg 0 ((aB ε).1,(eu (fP (aB ε) data)).2) data (fP (aB ε) data).1.1:=by
     refine .go _ _ _ _ qi h.alive (.cO S4 f0 c0 fun _ _ => ?_)<;>grind[rW]
    generalize (eu (fP (aB ε) data)).2=w at c3 Hv
    obtain⟨i1,i2,i3⟩:=hi.Mi hB Hv
    rcases J.ckG hi hB uJ Hv with⟨q,_⟩|⟨_,_,b,I,r1,B1,b1,b2,b3,b4⟩
    ·omega
    ·rw[a1]
     refine .inr (.inr ⟨rfl,hd1,by rw[z];rfl,b,I,r1,B1,b1,?_,b2.gd,by grind,⟨?_,?_⟩,fun n n0 n1 => ?_⟩)
     ·rw[z]
      have b5:RI b jR B1 I g (iI ε.1) ε.1.aN w:=kH.1 b2.ri
      exact Aw c3 b5 b2.lr (sV b4.symm) i1.ec.dk.ai i1.ok.ok.dk.len
     ·have h8:w.1.base+w.1.b.length≤(B+1)*1048600:=i1.el.size
      have:w.1.base=b:=b2.lr.base
      omega
     ·have h8:w.1.check≤1099511627776:=i1.ok.ok.lg.check
      have:w.1.check=(fP (aB ε) data).1.1:=b2.lr.check
      omega
     ·rw[←i2];exact b2.st n n0 n1
end
theorem C8 (I:δ.dead=false): δ.cM=(9,δ.die)∨((δ.cM).1=(δ.live.cM).1∧(δ.cM).2.dead=false∧(δ.cM).2.live=(δ.live.cM).2):=by
 have J:δ.live.cM=(0,δ.live.sync):=by rw[Dk.cM,ah (by show ¬δ.dead=true;rw[I];decide),ah (by show ¬(-1:Int)=0;decide)];rfl
 by_cases hf:δ.aA=0
 ·grind[Dk.cM]
 ·have U:δ.cM=(0,δ.cQ.sync):=by grind[Dk.cM]
  rw[U,J];exact .inr ⟨rfl,I,rfl⟩
theorem JF (I:δ.dead=false): bx π δ=(9,π,δ.die) ∨
  ((bx π δ).1=(bx π δ.live).1∧(bx π δ).2.2.dead=false∧(bx π δ).2.1=(bx π δ.live).2.1∧(bx π δ).2.2.live=(bx π δ.live).2.2):=by
 grind[C8,bx]
section
variable {aq:Nat} {rs:List bt}
theorem FS.dead (h:FS N ba aq mk rs B0 g pd ε): mh N ba aq mk rs B0 g ε.2.1.forced ε.2.2.die :=
 Aw (y:=bO ε.2) rfl (kH.1 h.ri) h.lr (aP _) h.ec.dk.ai h.len
theorem FS.S5 (h:FS N ba aq mk rs B0 g pd ε): (bx ε.1 ε.2.2=(9,ε.1,ε.2.2.die)∧mh N ba aq mk rs B0 g ε.2.1.forced ε.2.2.die) ∨
  ((bx ε.1 ε.2.2).1=(bx (aB ε).1 (aB ε).2.2).1∧(bx ε.1 ε.2.2).2.2.dead=false ∧
   aB ((bx ε.1 ε.2.2).2.1,(ε.2.1,(bx ε.1 ε.2.2).2.2))=((bx (aB ε).1 (aB ε).2.2).2.1,((aB ε).2.1,(bx (aB ε).1 (aB ε).2.2).2.2))):=by
 rcases JF (π:=ε.1) h.alive with k|⟨k1,k2,I,J⟩
 ·exact .inl ⟨k,h.dead⟩
 ·refine .inr ⟨k1,k2,?_⟩
  show((bx ε.1 ε.2.2).2.1,(ε.2.1,(bx ε.1 ε.2.2).2.2.live))=_
  rw[I,J];rfl
theorem FS.RD (h:FS N ba aq mk rs B0 g jR ε): ((writeAllF (az ε.1.aC) ε).1=9∧(writeAllF (az ε.1.aC) ε).2.2.2.dead=true∧mh N ba aq mk rs B0 g ε.2.1.forced (writeAllF (az ε.1.aC) ε).2.2.2) ∨
  ((writeAllF (az ε.1.aC) ε).1=0∧aB (writeAllF (az ε.1.aC) ε).2=(writeAllF (az (aB ε).1.aC) (aB ε)).2∧FS N ba aq mk rs B0 g jR (writeAllF (az ε.1.aC) ε).2∧ε.2.1.forced≤(writeAllF (az ε.1.aC) ε).2.2.1.forced):=by
 have I:=r_ ε
 rcases Iq (l:=az ε.1.aC) I h.ri h.lr h.ec h.alive h.len (aP _) with⟨U,q2,J⟩|q
 ·obtain⟨w1,w2,w3⟩:=me h.ec I
  obtain⟨n1,n2⟩:=h.next (ε':=(writeAllF (az ε.1.aC) ε).2) q2 (by grind) (fun P hP hv=>by rw[J];exact(u5 hP h.ec I hv).1)
  exact .inr ⟨U,J,n1,n2⟩
 ·grind
theorem FS.Xs (h:FS N ba aq mk rs B0 g pd ε)(n:Nat): (aK ε.2 n=(9,(ε.2.1,ε.2.2.die))∧mh N ba aq mk rs B0 g ε.2.1.forced ε.2.2.die) ∨
  ((aK ε.2 n).1=(aK (aB ε).2 n).1∧(aK ε.2 n).2.2.dead=false∧aB (ε.1,(aK ε.2 n).2)=((aB ε).1,(aK (aB ε).2 n).2)):=by
 rcases ua (n:=n) h.alive with k|⟨k1,k2,I⟩
 ·exact .inl ⟨k,h.dead⟩
 ·refine .inr ⟨k1,k2,?_⟩
  show(ε.1,bO (aK ε.2 n).2)=_
  rw[I];rfl
theorem FS.Xt (h:FS N ba aq mk rs B0 g jR ε): ((cU ε).1=9∧(cU ε).2.2.2.dead=true∧mh N ba aq mk rs B0 g ε.2.1.forced (cU ε).2.2.2) ∨
  ((cU ε).1=(cU (aB ε)).1∧(cU ε).2.2.2.dead=false∧aB (cU ε).2=(cU (aB ε)).2):=by
 have e1:∀ {θ:bA},θ.2.2.dead=false→(writeAllF (az θ.1.aC) θ).1=0→cU θ=((bx (writeAllF (az θ.1.aC) θ).2.1 (writeAllF (az θ.1.aC) θ).2.2.2).1,((bx (writeAllF (az θ.1.aC) θ).2.1 (writeAllF (az θ.1.aC) θ).2.2.2).2.1,((writeAllF (az θ.1.aC) θ).2.2.1,(bx (writeAllF (az θ.1.aC) θ).2.1 (writeAllF (az θ.1.aC) θ).2.2.2).2.2))):=fun {θ} ha hz=>by
  grind[cU]
 rcases h.RD with⟨I,J,U⟩|⟨I,J,U,q4⟩
 ·rw[cU,ah (by rw[h.alive];decide),aE (by omega)]
  exact .inl ⟨I,J,U⟩
 ·have w1:=(me h.ec (r_ ε)).1
  rw[e1 h.alive I,e1 (θ:=aB ε) h.alive w1,←J]
  rcases U.S5 with⟨k1,k2⟩|⟨k1,k2,k3⟩
  ·rw[k1];exact .inl ⟨rfl,rfl,k2.low q4⟩
  ·grind
end
structure FM (N B ba aq:Nat)(mk:List Nat)(rs:List bt)(B0:Int→List Nat)(g:Int→Option Nat)(F:Nat)(ε:bA): Prop where
 ok:fL ε
 fs:FS N ba aq mk rs B0 g jR ε
 ei:EI N B (aB ε)
 st:AZ N rs B0 (aB ε)
 gd:oh rs B0
 fo:F≤ε.2.1.forced
def YL (N ba aq:Nat)(mk:List Nat)(rs:List bt)(B0:Int→List Nat)(g:Int→Option Nat)(F:Nat)(e:Int)(ε:bA): Prop:=e=9∧ε.2.2.dead=true∧mh N ba aq mk rs B0 g F ε.2.2
section
variable {aq:Nat} {w:List Nat} {rs:List bt} {n:Int}
theorem FM.next (h:FM N B ba aq mk rs B0 g F ε)(ho:fL ε')(J:ε'.2.2.dead=false)(he:EI N B (aB ε'))(U:∀P:VP,iL N P→vw P (aB ε)→vw P (aB ε'))(hg:∀m,pgA (aB ε') m=pgA (aB ε) m): FM N B ba aq mk rs B0 g F ε':=by
 obtain⟨I,h2⟩:=h.fs.next J he.ec U
 exact⟨ho,I,he,fun m h0 I=>by rw[hg];exact h.st m h0 I,h.gd,b_ h.fo h2⟩
theorem FM.E9 (h:FM N B ba aq mk rs B0 g F ε)(I:mC ε now false n b e fB ε'): YL N ba aq mk rs B0 g F e ε'∨(FM N B ba aq mk rs B0 g F ε'∧mC (aB ε) now false n b e fB (aB ε')∧∀m,pgA (aB ε') m=pgA (aB ε) m):=by
 rcases I.mj h.fs with⟨k1,k2⟩|⟨k1,k2,U⟩
 ·have J:=(k2.ec h.ei.ec h.ei.ok.pins).2.1
  exact .inr ⟨h.next (I.iR h.ok) k1 (h.ei.E9 k2) (fun P hP hv=>hP.E9 k2 h.fs.ec hv) J,k2,J⟩
 ·exact .inl ⟨k1,k2,U.low h.fo⟩
end
theorem YM {m:List (Int×List Nat)}{x:Int×List Nat}(s:Sat h (og cs m::S))(U:m[i]?=some x):
  ∃u,(cs.drop (i*2)).take 2=[.int .i64 x.1,u]∧u.cells=[u]∧storable u=true∧u.beq u=true∧(∀b∈x.2,b<256)∧Sat h (.cm u x.2::og cs m::S):=by
 obtain⟨a,b,q1,q2,q3⟩:=s.at (k:=0) rfl
 obtain⟨u,e1,e2⟩:=KH q3 U
 have s3:=(s.dup (aF.og _ _)).fR (B:=.cm u x.2) fun a b h=>by
  obtain⟨u',I,J⟩:=KH h U
  rw[e1] at I
  injection I with _ I
  injection I with I _
  subst I
  exact J
 have hu:=(s3.aL (k:=0) rfl (cI _ _))
 exact⟨u,e1,hu.cells.1,hu.cells.2,dr hu,hu.1,s3⟩
theorem Pc {m:List (Int×List Nat)}(s:Sat h S)(I:getA S k=some (og cs m)): cs.length=m.length*2:=by
 obtain⟨a,b,U,q2,J⟩:=s.at I
 exact UD J
structure NX (N:Nat)(ps:List (List Nat))(now:List (Int×List Nat))(nx:List (List Nat)): Prop where
 len:nx.length=N
 old:ps.length=N
 is:∀(n:Nat) (w:List Nat),nx[n]?=some w→(match lookL (n:Int) now with|some b=>w=b.drop 12|none=>ps[n]?=some w)
theorem NX.put (h:NX N ps now nx)(I:n<N): NX N ps (cY (n:Int) b now) (nx.set n (b.drop 12)):=by
 refine⟨by rw[ep];exact h.len,h.old,fun m w hm => ?_⟩
 rw[gH]
 by_cases e:(n:Int)=(m:Int)
 ·have:n=m:=by omega
  subst this
  rw[aE rfl]
  rw[kM (by rw[h.len];exact I)] at hm
  exact(cA hm).symm
 ·rw[ah e]
  rw[y5 (by omega)] at hm
  exact h.is m w hm
section
variable {told:dI} {p g aq:Nat} {op v x:V}
def okW (N:Nat)(x:Int×List Nat): Prop:=0≤x.1∧x.1<N∧bR x.2=true
instance (N:Nat) (x:Int×List Nat):Decidable (okW N x):=by unfold okW;infer_instance
def nxW (N:Nat): List (Int×List Nat)→List (List Nat)→List (List Nat)
 |[],nx=>nx
 |x::l,nx=>nxW N l (if okW N x then nx.set x.1.toNat (x.2.drop 12) else nx)
def nowW (N:Nat): List (Int×List Nat)→List (Int×List Nat)→List (Int×List Nat)
 |[],now=>now
 |x::l,now=>nowW N l (if okW N x then cY x.1 x.2 now else now)
theorem UP {l:List (List Nat)}{w:List Nat}{J:TypeId}(s:Sat h (.arr 1 v (dG l)::S))(hn:n<l.length)(hu:P.underlying t=some (.slice J))(I:bB P J=some 1):
  ∃id off h',indexAddrV P t v (.int .i64 (n:Int))=some (.ptr id off)∧ic P h J (.ptr id off) (.str w)=some h'∧Sat h' (.arr 1 v (dG (l.set n w))::S):=by
 have U:dG l≠[]:=fun e=>by have:=kO List.length e;rw[jb,dz] at this;omega
 have fM:=s.SC (j:=0) rfl
 obtain⟨id,m,cap,M,rest,rfl,hl,hM,s1,hc⟩:=s.TP U
 rw[jb,e_] at hl
 obtain⟨h',e1,e2⟩:=s1.dV (P:=P) (t:=J) (k:=0) (off:=n) (v:=.str w) rfl I (by rw[bT,hM]) (by rw[hM,jb];omega) rfl rfl
 refine⟨id,n,h',?_,e1,hc h' (dG (l.set n w)) S ?_ ?_ ?_⟩
 ·simp only[indexAddrV,hu,I,eD]
  rw[show(decide ((0:Int)≤(n:Int))&&decide ((n:Int)<(m:Int)))=true by simp;omega,ak]
  simp
 ·rw[jb,jb,ep]
 ·rw[qK];intro v hv;obtain⟨x,_,rfl⟩:=List.mem_map.1 hv;rfl
 ·have e3:(dG l++rest).set n (.str w)=dG (l.set n w)++rest:=by
   rw[List.set_append_left _ _ (by rw[jb];exact hn)]
   simp[dG,List.map_set]
  dsimp only[setA] at e2
  rw[e3] at e2
  exact e2
noncomputable def plL : Code:=cC [1,1,1,1,1,0,1,0,0] ((Tryz.f14.body).getD .skip)
end
theorem Xu {b c d:Nat}{v w x y:V}(I:look E a=some v)(J:look E b=some w)(U:look E c=some x)(h4:look E d=some y): resLE P E h [.tmp a,.tmp b,.tmp c,.tmp d]=some (.bD [v,w,x,y]):=by simp only[resLE,mapO,resE,I,J,U,h4]
theorem BB {x y:Operand}{k:Int}(hm:m<65536): binV P h .and t x y (.int .i64 k) (.int .i64 (m:Int))=some (.int .i64 ((Nat.land ((k%(2^(IntKind.i64).bits:Int)).toNat) m:Nat):Int)):=by
 have I:(((m:Nat):Int)%(2^(IntKind.i64).bits:Int)).toNat=m:=by simp only[IntKind.bits];omega
 simp only[binV,ikBeq,ak,intV,bitsV,I]
 have hle:Nat.land ((k%(2^(IntKind.i64).bits:Int)).toNat) m≤m:=zE
 rw[wrap_i64 (n:=Nat.land ((k%(2^(IntKind.i64).bits:Int)).toNat) m) (by omega)]
theorem Pd {kd:Int}(I:View h dv l): buildV Tryz.prog 104 [(0,.int .i64 kd),(1,.int .u64 (tx:Int)),(4,dv)]=some (.agg (iH kd tx 0 0 dv .bw)):=by
 rcases I.2 with⟨rfl|⟨J,rfl⟩,_⟩|⟨id,off,cap,n,cs,st,rfl,_⟩
 ·rw[sL];rfl
 ·rw[sL];rfl
 ·rw[sL];rfl
theorem NX.YN (h:NX N ps now nx)(hw:NW N now)(hp:kJ ε ps)(hd:∀m,pgA ε' m=match lookL m now with|some b=>cP b aM|none=>pgA ε m): kJ ε' nx:=fun n w hn=>by
 have I:=h.is n w hn
 rw[hd]
 cases J:lookL (n:Int) now with
 |some b =>
  rw[J] at I
  simp only at I ⊢
  have U:=hw.look J
  rw[I]
  exact(uE U.1 U.2).2.2
 |none =>
  rw[J] at I
  exact hp n w I
def uc (k:Int): Nat:=Nat.land ((k%(2^(IntKind.i64).bits:Int)).toNat) 3+1
def It (k:Int): Nat:=Nat.land ((k%(2^(IntKind.i64).bits:Int)).toNat) 255
theorem KU {k:Int}: 1≤uc k∧uc k≤4:=by
 have:Nat.land ((k%(2^(IntKind.i64).bits:Int)).toNat) 3≤3:=zE
 unfold uc;omega
theorem KV {k:Int}: It k≤255:=zE
inductive A2 (N:Nat)(D:iT)(ε:bA)(ps:List (List Nat)): Int→List (List Nat)→Nat→bA→Prop where
 |drop (ε':bA) (ha:D.act=2) (hp:∀P:VP,iL N P→vw P ε→vw P ε') (hg:∀m,pgA ε' m=pgA ε m):A2 N D ε ps 0 ps 0 ε'
 |fail (C3 ε':bA) (aM:Nat) (e:Int) (ha:D.act≠2) (hp:∀P:VP,iL N P→vw P ε→vw P C3) (hg:∀m,pgA C3 m=pgA ε m) (hw:NW N (nowW N D.w [])) (hi:∃B,B≤900∧EI N B C3)
  (hr:DnR C3 (nowW N D.w []) (uc D.cO) (It D.cO) 0 0 D.data 0 aM e false ε') (he:e=7∨e=2):A2 N D ε ps e ps 0 ε'
 |done (C3 ε':bA) (aM:Nat) (ha:D.act≠2) (hp:∀P:VP,iL N P→vw P ε→vw P C3) (hg:∀m,pgA C3 m=pgA ε m) (hw:NW N (nowW N D.w [])) (hi:∃B,B≤900∧EI N B C3)
  (hr:DnR C3 (nowW N D.w []) (uc D.cO) (It D.cO) 0 0 D.data 0 aM 0 true ε'):A2 N D ε ps 0 (nxW N D.w ps) aM ε'
section
variable {told:dI} {p g aq:Nat} {op v x:V}
noncomputable def pgE : Code:=cC [1,1,1,1,1,1] ((Tryz.f14.body).getD .skip)
end
theorem Iu : ∃i,Tryz.prog.info? 9=some i∧i.size=1∧i.bytes=16 :=
 ⟨_,(show Tryz.prog.info? 9=some ((Tryz.prog.info? 9).getD default) by kernel_rfl),by kernel_rfl,by kernel_rfl⟩
inductive xE (N:Nat)(D:iT)(ε:bA)(ps:List (List Nat))(data:List Nat)(aq:Nat): Int→List (List Nat)→Nat→bA→List Nat→Nat→Prop where
 |grp (e:Int) (dB:List (List Nat)) (aM:Nat) (ε':bA) (h:¬(3≤D.act∧D.act≤7)) (ho:A2 N D ε ps e dB aM ε'):xE N D ε ps data aq e dB aM ε' data aq
 |ck (e:Int) (lo:Nat) (ε':bA) (bG:List Nat) (bW:Nat) (h:D.act=3) (E_:lo=0∨lo=ε.2.1.base) (hr:qH ε lo D.data data aq e ε' bG bW):xE N D ε ps data aq e ps 0 ε' bG bW
 |all (h:D.act=4):xE N D ε ps data aq 0 ps 0 (writeAllF (az ε.1.aC) ε).2 data aq
 |sync (h:D.act=5):xE N D ε ps data aq 0 ps 0 ((bx ε.1 ε.2.2).2.1,(ε.2.1,(bx ε.1 ε.2.2).2.2)) data aq
 |clean (h:D.act=6):xE N D ε ps data aq 0 ps 0 (cU ε).2 data aq
 |force (h:D.act=7):xE N D ε ps data aq 0 ps 0 (ε.1,(aK ε.2 (ε.2.1.base+ε.2.1.b.length)).2) data aq
section
variable {told:dI} {p g aq:Nat} {op v x:V}
noncomputable def plK : Code:=cC [1,0,1,0,1,0,1,1] ((Tryz.f14.body).getD .skip)
noncomputable def plG : Code:=cC [1,1] ((Tryz.f14.body).getD .skip)
end
theorem A2.rs {aq:Nat}{rs:List bt}(ho:A2 N D ε ps e dB aM ε')(h:RS N ba aq mk rs B0 g ε):
  (aM=0∧dB=ps∧RS N ba aq mk rs B0 g ε')∨∃(r0:bt) (g':Int→Option Nat),e=0∧dB=nxW N D.w ps∧r0.kd=uc D.cO∧aM=ba+szB rs∧RS N ba aq mk (rs++[r0]) B0 g' ε'∧∀n rec,g' n=some rec→g n=some rec∨rec=ba+szB rs:=by
 have O0:=KU (k:=D.cO)
 have N6:=KV (k:=D.cO)
 cases ho with
 |drop ε' ha J U=>exact .inl ⟨rfl,rfl,h.pre J U⟩
 |fail C3 ε' aM e ha J U hw hi hr he =>
  obtain⟨B,hB,hi⟩:=hi
  have I:=h.pre J U
  obtain⟨k1,k2,k3⟩:=hr.ri0 hi (by omega) hw I.lr (by omega) (by omega) I.ri I.st
  exact .inl ⟨rfl,rfl,k1,k2,k3,h.gd⟩
 |done C3 ε' aM ha J U hw hi hr =>
  obtain⟨B,hB,hi⟩:=hi
  have I:=h.pre J U
  obtain⟨r,g',k1,k2,k3,k4,k5,k6,k7,k8,k9,Xk,k11,k12,_⟩:=hr.ri hi (by omega) hw I.lr (by omega) (by omega) (by omega) I.ri I.st I.gd
  exact .inr ⟨r,g',rfl,rfl,k2,k7,⟨k8,k9,Xk,k11⟩,k12⟩
theorem RS.aa7 {aq:Nat}{rs:List bt}(h:RS N ba aq mk rs B0 g ε): ε.2.1.forced≤ε.2.1.b.length:=by
 have q:=kH.1 h.ri
 rw[q.len];exact q.le
theorem Iv {b:Nat}: qz (eo a b) a b:=.inr rfl
section
variable {aq:Nat}
theorem A2.forced (ho:A2 N D ε ps e dB aM ε')(h:F≤ε.2.1.forced∧ε.2.1.forced≤ε.2.1.b.length): F≤ε'.2.1.forced:=by
 have pr:=jr F
 cases ho with
 |drop ε' ha I hg=>exact(I _ (pr.j6 N) h).1
 |fail J ε' aM e ha I hg hw hi U he=>exact(U.forced (I _ (pr.j6 N) h)).1
 |done J ε' aM ha I hg hw hi U=>exact(U.forced (I _ (pr.j6 N) h)).1
theorem qH.BC (hr:qH ε lo D.data data aq e ε' bG bW): ε.2.1.base+ε.2.1.b.length≤ε'.2.1.base+ε'.2.1.b.length:=by
 have I:ε.2.1.base+ε.2.1.b.length≤(fP ε D.data).2.1.base+(fP ε D.data).2.1.b.length:=by
  rw[fP]
  rcases gh ε.2 8 0 0 0 (le 8 (eV ε)++D.data) [] with⟨e,_,_,U⟩|⟨_,_,U⟩|⟨_,_,_,_,_,U⟩<;>rw[U]
  ·exact aP _
  ·exact aP _
  ·show _≤ε.2.1.base+(ε.2.1.b++_).length
   rw[bT];omega
 have hF:∀y:(Nat×Int)×LD,(gL y).2.1.base=y.2.1.base∧(gL y).2.1.b=y.2.1.b:=fun y=>by
  have f:=qu (π:=ε.1) (x:=y.2) (n:=y.1.1)
  exact⟨f.base,f.b⟩
 have hC:∀y:(Nat×Int)×LD,(eu y).2.1.base=y.2.1.base∧(eu y).2.1.b=y.2.1.b:=fun y=>by
  have:=hF y
  grind[eu,dZ]
 have hX:∀(x:LD) (t:Nat),x.1.base<t→x.1.base+x.1.b.length≤(eU x t).2.1.base+(eU x t).2.1.b.length:=fun x t ht=>by
  unfold eU
  split
  ·exact aP _
  ·split
   ·exact aP _
   ·show _≤t+(x.1.b.drop (t-x.1.base)).length
    rw[nN];omega
 cases hr with
 |HL _=>exact aP _
 |dead _ _=>exact aP _
 |go e y bG bW _ _ hc =>
  generalize fP ε D.data=z at I hc
  have h2:=hF z
  have J:=hC z
  cases hc with
  |app _=>exact I
  |force _ _=>show _≤(gL z).2.1.base+(gL z).2.1.b.length;rw[h2.1,h2.2];exact I
  |check _ _ _=>show _≤(eu z).2.1.base+(eu z).2.1.b.length;rw[J.1,J.2];exact I
  |cO _ _ _ _=>show _≤(eu z).2.1.base+(eu z).2.1.b.length;rw[J.1,J.2];exact I
  |cut t _ _ _ _ b8 _ =>
   have:=hX (eu z).2 t b8
   rw[J.1,J.2] at this
   exact b_ I this
theorem xE.rs3 {rs:List bt}(hp:xE N D ε ps data aq e dB aM ε' bG bW)(J:RS N ba aq mk rs B0 g ε)(I:EI N B ε)(hB:B≤1000)(hb:1≤ba):
  (aM=0∧dB=ps∧bG=data∧bW=aq∧ε.2.1.forced≤ε'.2.1.forced∧∃g',RS N ba aq mk rs B0 g' ε'∧∀n rec,g' n=some rec→g n=some rec) ∨
  (bG=data∧bW=aq∧aM=ba+szB rs∧ε.2.1.forced≤ε'.2.1.forced∧∃r0 g',RS N ba aq mk (rs++[r0]) B0 g' ε'∧∀n rec,g' n=some rec→g n=some rec∨rec=ba+szB rs) ∨
  (aM=0∧dB=ps∧∃b U r1 B1,1≤b∧RS N b bW (eo b bW) U B1 g ε'∧nm b bW bG U r1 ε'.2.1.forced g∧ε'.2.1.forced=szB U∧ε.2.1.base+ε.2.1.b.length≤ε'.2.1.base+ε'.2.1.b.length):=by
 have qd:=J.aa7
 have yz:=kH.1 J.ri
 cases hp with
 |grp e dB aM ε' _ ho =>
  have hF:=ho.forced ⟨aP _,qd⟩
  rcases ho.rs J with⟨q1,q2,q⟩|⟨r0,g',_,_,_,ql,q,hg⟩
  ·exact .inl ⟨q1,q2,rfl,rfl,hF,g,q,fun _ _ q=>q⟩
  ·exact .inr (.inl ⟨rfl,rfl,ql,hF,r0,g',q,hg⟩)
 |ck e lo ε' bG bW _ _ hk =>
  rcases J.ckG I hB hb hk with⟨_,rfl,rfl,q,hF⟩|⟨_,rfl,b,U,S6,B1,oA,q,EP,hz⟩
  ·exact .inl ⟨rfl,rfl,rfl,rfl,sV hF.symm,g,q,fun _ _ q=>q⟩
  ·exact .inr (.inr ⟨rfl,rfl,b,U,S6,B1,oA,q,EP,hz,hk.BC⟩)
 |all _ =>
  obtain⟨w1,w2,w3⟩:=I.writeAll
  have hF:=((jr ε.2.1.forced).all (l:=az ε.1.aC) ⟨aP _,qd⟩).1
  exact .inl ⟨rfl,rfl,rfl,rfl,hF,g,J.pre (fun P hP hv=>(u5 hP I.ec (r_ ε) hv).1) w3,fun _ _ q=>q⟩
 |sync _ =>
  obtain⟨w1,w2,w3⟩:=I.sync
  obtain⟨q1,q2⟩:=RI.sync J.ri I.ec J.st
  rw[q1] at w3 ⊢
  refine .inl ⟨rfl,rfl,rfl,rfl,aP _,_,⟨J.lr.sync,q2,fun n h0 h1=>by rw[w3 n h0];exact J.st n h0 h1,J.gd⟩,fun n rec q => ?_⟩
  unfold syG at q
  split at q
  ·rename_i hq
   have q:=cA q
   subst q
   exact yz.tZ _ _ _ hq
  ·cases q
 |clean _ =>
  have hF:ε.2.1.forced≤(cU ε).2.2.1.forced:=by
   have h1:=((jr ε.2.1.forced).all (l:=az ε.1.aC) ⟨aP _,qd⟩).1
   unfold cU
   split
   ·exact aP _
   ·split<;>exact h1
  exact .inl ⟨rfl,rfl,rfl,rfl,hF,_,J.clean I,fun n rec q=>by cases q⟩
 |force _ =>
  obtain⟨w1,w2,w3⟩:=I.force (n:=ε.2.1.base+ε.2.1.b.length)
  have hF:=((jr ε.2.1.forced).force ε.2 (ε.2.1.base+ε.2.1.b.length) ⟨aP _,qd⟩).1
  have hv:vw (RI ba jR B0 rs g) (ε.1,(aK ε.2 (ε.2.1.base+ε.2.1.b.length)).2):=by
   have key:aK ε.2 (ε.2.1.base+ε.2.1.b.length)=(0,({ ε.2.1 with forced:=ε.2.1.b.length },{ ε.2.2 with aH:=ε.2.2.log.length })):=by
    rw[aK,ah (by omega),Br I.ec.dk,ah (by simp)]
   rw[key];exact yz.all
  exact .inl ⟨rfl,rfl,rfl,rfl,hF,g,⟨(jI ba _ mk rs).force _ _ J.lr,hv,fun n h0 h1=>by rw[w3];exact J.st n h0 h1,J.gd⟩,fun _ _ q=>q⟩
end
theorem Dk.Ok.apd (h:δ.Ok)(I:δ.log.length+b.length≤δ.room): Dk.Ok { δ.cQ with log:=δ.log++b } :=
 ⟨h.cQ.aA,by have:=h.room;show(δ.log++b).length≤_;rw[bT];omega,h.room,h.now,h.ai,by have:=h.aH;show δ.aH≤(δ.log++b).length;rw[bT];omega,h.many⟩
def Wt (w:List Wr)(δ:Dk): Prop:=δ.Ok∧δ.waiting=w
section
variable {w:List Wr}
theorem Wt.die (h:Wt w δ): Wt w δ.die:=⟨h.1.die,h.2⟩
theorem Wt.app {kd:Int}{pv nx:Nat}{c:List ct}(h:Wt w x.2): Wt w (aI x kd tx pv nx data c).2.2:=by
 rcases gh x kd tx pv nx data c with⟨e,_,_,I⟩|⟨_,_,I⟩|⟨_,_,_,J,_,I⟩
 ·rw[I];exact h
 ·rw[I];exact⟨⟨h.1.aA,h.1.len,h.1.room,h.1.now,h.1.ai,h.1.aH,h.1.many⟩,h.2⟩
 ·rw[I];exact⟨h.1.apd J,h.2⟩
theorem Wt.force (h:Wt w x.2): Wt w (aK x n).2.2:=by
 refine⟨mH h.1,?_⟩
 have:=h.2
 grind[aK,Dk.bQ,Dk.cQ,Dk.die]
theorem Wt.mark (h:Wt w δ): Wt w (δ.gC b).2:=by
 unfold Dk.gC
 split
 ·exact h
 ·split
  ·exact h
  ·split
   ·exact h.die
   ·exact⟨⟨h.1.cQ.aA,h.1.len,h.1.room,h.1.now,h.1.ai,h.1.aH,h.1.many⟩,h.2⟩
theorem Wt.cut {n:Int}(h:Wt w δ): Wt w (δ.gV n b).2:=by
 unfold Dk.gV
 split
 ·exact h
 ·split
  ·exact h
  ·split
   ·exact h.die
   ·refine⟨⟨h.1.cQ.aA,?_,h.1.room,h.1.now,h.1.ai,?_,h.1.many⟩,h.2⟩
    ·have:=h.1.len
     show(δ.log.drop n.toNat).length≤_
     rw[nN];omega
    ·have:=h.1.aH
     show δ.aH-n.toNat≤(δ.log.drop n.toNat).length
     rw[nN];omega
theorem Wt.check (h:Wt w x.2): Wt w (dZ x n).2.2:=by
 have:=h.mark (b:=eo x.1.base n)
 grind[dZ]
theorem Wt.aa8 (h:Wt w x.2): Wt w (eU x n).2.2:=by
 have:=h.cut (n:=((n-x.1.base:Nat):Int)) (b:=eo n x.1.check)
 grind[eU]
theorem qH.wt {aq:Nat}(hr:qH ε lo data dh aq e ε' bG bW)(h:Wt w ε.2.2): Wt w ε'.2.2:=by
 cases hr with
 |HL _=>exact h
 |dead _ _=>exact h
 |go e y bG bW _ _ U =>
  have I:Wt w (fP ε data).2.2:=h.app
  generalize fP ε data=z at I U
  have h2:Wt w (gL z).2.2:=Wt.force (x:=z.2) (n:=z.1.1) I
  have J:Wt w (eu z).2.2:=Wt.check (x:=(gL z).2) (n:=z.1.1) h2
  cases U with
  |app _=>exact I
  |force _ _=>exact h2
  |check _ _ _=>exact J
  |cut t _ _ _ _ _ _=>exact Wt.aa8 (x:=(eu z).2) (n:=t) J
  |cO _ _ _ _=>exact J
end
structure C9 (N ba aq:Nat)(mk:List Nat)(rs:List bt)(B0:Int→List Nat)(g:Int→Option Nat)(F:Nat)(ε:bA): Prop where
 S7:mh N ba aq mk rs B0 g F ε.2.2
 ok:ε.2.2.Ok
 wt:ε.2.2.waiting.length≤268435456
section
variable {aq:Nat} {rs:List bt} {n:Int} {c:List Nat}
theorem FM.wait (h:FM N B ba aq mk rs B0 g F ε): ε.2.2.waiting.length≤B*65536:=b_ (nD (ε:=aB ε)) h.ei.cg
theorem FM.rsl (h:FM N B ba aq mk rs B0 g F ε): RS N ba aq mk rs B0 g (aB ε):=⟨h.fs.lr,h.fs.ri,h.st,h.gd⟩
theorem FM.of (I:RS N ba aq mk rs B0 g (aB ε))(hi:EI N B (aB ε))(J:ε.2.2.dead=false)(U:ε.2.2.aA<4294967296)(hF:F≤ε.2.1.forced): FM N B ba aq mk rs B0 g F ε:=by
 have q:=hi.ok.ok.dk
 exact⟨⟨⟨hi.ok.ok.pl,hi.ok.ok.lg,⟨U,q.len,q.room,q.now,q.ai,q.aH,q.many⟩⟩,hi.ok.pins,hi.ok.full⟩,⟨J,I.ri,I.lr,hi.ec,q.len⟩,hi,I.st,I.gd,hF⟩
theorem GRd.Xv (I:GRd ε now false n e b ε')(he:e=9): 0≤n∧n<ε.2.2.ai.length:=by
 cases I with
 |arg _=>omega
 |bV _ _ _=>omega
 |own _ _ _ _ _=>omega
 |read e b ε' J U _ _ _=>exact⟨J,U⟩
theorem mC.Xv (I:mC ε now false n b e fB ε')(he:e=9): 0≤n∧n<ε.2.2.ai.length:=by
 cases I with
 |may e c ε' I _=>exact I.Xv he
 |bad c ε' I J=>omega
 |done c ε' I J=>omega
theorem GRd.aa9 (J:GRd ε now false n e b ε')(I:lookL n now=some c)(U:0≤n)(h1:n<ε.2.2.ai.length): e=0∧b=c∧ε'=ε:=by
 cases J with
 |arg h=>exact absurd ⟨U,h1⟩ h
 |bV _ _ h=>cases h
 |own b _ _ _ h=>rw[I] at h;exact⟨rfl,(cA h).symm,rfl⟩
 |read e b ε' _ _ _ h _=>rw[I] at h;cases h
theorem FM.aa_ (h:FM N B ba aq mk rs B0 g F ε)(I:mC ε now false n b e fB ε')(hB:B≤2000): (e=9∧0≤n∧n<(N:Int)∧C9 N ba aq mk rs B0 g F ε') ∨
  (FM N B ba aq mk rs B0 g F ε'∧mC (aB ε) now false n b e fB (aB ε')∧∀m,pgA (aB ε') m=pgA (aB ε) m):=by
 rcases h.E9 I with⟨k1,k2,J⟩|k
 ·obtain⟨U,q2⟩:=I.Xv k1
  have h1:ε.2.2.ai.length=N:=h.ei.ec.dk.ai
  have h2:=h.wait
  have h3:=I.wait
  exact .inl ⟨k1,U,by omega,J,(I.iR h.ok).ok.dk,by omega⟩
 ·exact .inr k
theorem DnR.iR {kd:Nat}(hr:DnR ε now kd tx 0 0 data 0 aM e cl ε')(h:fL ε)(hl:ε.2.1.b=ε.2.2.log)(hz:ε.2.1.base+ε.2.1.b.length+1048584≤1099511627776): fL ε'∧cg ε'≤cg ε+now.length:=by
 have hkl:(az now).length=now.length:=xb
 have ap:∀ {c:List ct} {I:bA},ChR now (az now) ε 0 c I→fL (I.1,(aI I.2 kd tx 0 0 data c).2)∧cg (I.1,(aI I.2 kd tx 0 0 data c).2)≤cg ε:=fun {c I} J=>by
  have h3:=J.iR h
  have U:=J.same
  have KA:=rI (x:=I.2) (kd:=kd) (tx:=tx) (pv:=0) (nx:=0) (data:=data) (c:=c) h3.ok.lg h3.ok.dk (by rw[U.b,U.log];exact hl) (by rw[U.base,U.b];exact hz)
  have hp:=J.cg
  refine⟨⟨⟨h3.ok.pl,KA.1,KA.2.1⟩,h3.pins,h3.full⟩,?_⟩<;>grind[cg]
 cases hr with
 |arg _=>grind
 |dead _ _ _ _=>grind
 |lD e c ε' _ _ _ _ J _=>exact⟨J.iR h,by have:=J.cg;omega⟩
 |app c I _ _ _ _ J _=>grind
 |put c I e YF _ _ _ _ J _ hp =>
  obtain⟨a1,a2⟩:=ap J
  have:=hp.cg a1
  exact⟨hp.iR a1,by omega⟩
def Sh (N:Nat)(P:Int→List Nat)(x:List (List Nat)): Prop:=∀n:Nat,n<N→∃w,iw (P n) w∧dM w=0∧∀y,x[n]?=some y→iS w=y
theorem Sh.of {x:List (List Nat)}(hi:EI N B ε)(I:∀n,0≤n→n<(N:Int)→iw (dg rs B0 n) (pgA ε n))(J:kJ ε x): Sh N (dg rs B0) x:=fun n hn =>
 ⟨pgA ε n,I n (by omega) (by omega),hi.ec.aq (by omega) (by omega),fun y U=>J n y U⟩
theorem Sh.pg {x:List (List Nat)}(h:Sh N (dg rs B0) x)(J:x.length=N)(hi:EI N B ε)(U:∀n,0≤n→n<(N:Int)→iw (dg rs B0 n) (pgA ε n)): kJ ε x:=fun n y I=>by
 have hn:n<N:=by rw[←J];exact(List.getElem?_eq_some_iff.1 I).1
 obtain⟨w,h1,h2,h3⟩:=h n hn
 rw[←h3 y I]
 exact Ik ((U n (by omega) (by omega)).symm.trans h1) (hi.ec.aq (by omega) (by omega)) h2
end
inductive vY (N B ba aq:Nat)(mk:List Nat)(rs:List bt)(B0:Int→List Nat)(g:Int→Option Nat)(F:Nat)(ε:bA)(ps:List (List Nat)): List (List Nat)→bA→Prop where
 |old (dB:List (List Nat)) (ε':bA) (hl:dB.length=N) (h:C9 N ba aq mk rs B0 g F ε'):vY N B ba aq mk rs B0 g F ε ps dB ε'
 |new (r:bt) (g':Int→Option Nat) (dB:List (List Nat)) (ε':bA) (hl:dB.length=N) (h:C9 N ba aq mk (rs++[r]) B0 g' F ε') (hg:oh (rs++[r]) B0) (hr:∀n rec,g' n=some rec→g n=some rec∨rec=ba+szB rs) (hs:Sh N (dg (rs++[r]) B0) dB):vY N B ba aq mk rs B0 g F ε ps dB ε'
 |ck (rc:bt) (ε':bA) (hc:rc.aR=[]) (h:C9 N ba aq mk (rs++[rc]) B0 g F ε') (hg:oh (rs++[rc]) B0):vY N B ba aq mk rs B0 g F ε ps ps ε'
 |cut (b bW:Nat) (data:List Nat) (uL r1:List bt) (B1:Int→List Nat) (ε':bA) (hb:1≤b) (h:C9 N b bW (eo b bW) uL B1 g (szB uL) ε') (hg:oh uL B1) (hc:nm b bW data uL r1 (szB uL) g) (hz:b≤(B+1)*1048600∧bW≤1099511627776)
   (ha:∀n,0≤n→n<(N:Int)→iw (dg uL B1 n) (pgA (aB ε) n)):vY N B ba aq mk rs B0 g F ε ps ps ε'
section
variable {aq:Nat} {rs:List bt} {n:Int} {c:List Nat}
theorem FM.aA (h:FM N B ba aq mk rs B0 g F ε): ε.2.2.aA<4294967296:=h.ok.ok.dk.aA
theorem FM.done {kd:Nat}(h:FM N B ba aq mk rs B0 g F ε)(hr:DnR ε now kd tx 0 0 data 0 aM e cl ε')(hB:B≤1000)(hn:NW N now)(h1:1≤kd)(h2:kd≤7)(ht:tx<65536)(hx:NX N ps now nx)(hp:kJ ε ps):
  (e=9∧aM=0∧vY N B ba aq mk rs B0 g F t_ ps nx ε')∨(ε'.2.2.dead=false∧ε'.2.2.aA<4294967296∧DnR (aB ε) now kd tx 0 0 data 0 aM e cl (aB ε')):=by
 have S8:=h.ei.many
 have I:=h.ei.el.size
 have I:ε.2.1.base+ε.2.1.b.length≤B*1048600:=I
 have hl:ε.2.1.b=ε.2.2.log:=h.ei.el.log
 obtain⟨k1,k2⟩:=hr.iR h.ok hl (by omega)
 have Zr:cg ε≤B*65536:=h.ei.cg
 have hnl:=hn.len
 have hw:=nD (ε:=ε')
 have key:∀ {J:List bt} {g':Int→Option Nat},mh N ba aq mk J B0 g' ε.2.1.forced ε'.2.2→C9 N ba aq mk J B0 g' F ε':=fun q=>⟨q.low h.fo,k1.ok.dk,by omega⟩
 rcases hr.mj h.fs h.ei hB hn h1 h2 ht h.st h.gd with⟨U,q2⟩|⟨U,q2,_,q3⟩|⟨U,q2,_,r,g',q3,q4,q5,q6,q7⟩
 ·exact .inr ⟨U,k1.ok.dk.aA,q2⟩
 ·exact .inl ⟨U,q2,.old _ _ hx.len (key q3)⟩
 ·refine .inl ⟨U,q2,.new r g' _ _ hx.len (key q4) q5 q6 fun n hN => ?_⟩
  have h3:=q7 n (by omega) (by omega)
  have h5:=h.ei.ec.aq (n:=(n:Int)) (by omega) (by omega)
  cases hq:lookL (n:Int) now with
  |some b =>
   rw[hq] at h3
   have hg:=hn.look hq
   have hs:=uE (n:=0) hg.1 hg.2
   refine⟨cP b 0,iw.trans h3 (BA (fb hg.1)).symm,hs.1,fun y hy => ?_⟩
   have:=hx.is n y hy
   rw[hq] at this
   rw[hs.2.2];exact this.symm
  |none =>
   rw[hq] at h3
   refine⟨_,h3,h5,fun y hy => ?_⟩
   have:=hx.is n y hy
   rw[hq] at this
   exact hp n y this
theorem FM.ck (h:FM N B ba aq mk rs B0 g F ε)(hr:qH ε lo data dh mg e ε' bG bW)(hB:B≤1000)(uJ:1≤ba):
  (e=9∧(bG=dh∨bG=data)∧vY N B ba aq mk rs B0 g F ε ps ps ε')∨(ε'.2.2.dead=false∧ε'.2.2.aA<4294967296∧qH (aB ε) lo data dh mg e (aB ε') bG bW):=by
 have hw:=h.wait
 obtain⟨k1,k2⟩:=hr.wt ⟨h.ok.ok.dk,rfl⟩
 have key:∀ {ba aq:Nat} {mk:List Nat} {I:List bt} {B0:Int→List Nat} {F:Nat},mh N ba aq mk I B0 g F ε'.2.2→C9 N ba aq mk I B0 g F ε':=fun q=>⟨q,k1,by rw[k2];omega⟩
 rcases hr.mj h.fs h.ei hB uJ h.st h.gd with⟨J,U⟩|⟨J,U,_,_,rc,q3,q4,q5⟩|⟨J,U,_,b,I,r1,B1,q3,q4,q5,q6,q7,q8⟩
 ·exact .inr ⟨J,k1.aA,U⟩
 ·exact .inl ⟨J,.inl U,.ck rc _ q3 (key (q4.low h.fo)) q5⟩
 ·exact .inl ⟨J,.inr U,.cut b bW data I r1 B1 _ q3 (key q4) q5 q6 q7 q8⟩
def Fk (N ba aq:Nat)(mk:List Nat)(rs:List bt)(B0:Int→List Nat)(g:Int→Option Nat)(F:Nat)(e:Int)(ε' L:bA): Prop :=
 (e=9∧C9 N ba aq mk rs B0 g F ε')∨(e=0∧ε'.2.2.dead=false∧ε'.2.2.aA<4294967296∧aB ε'=L)
theorem FM.cO (h:FM N B ba aq mk rs B0 g F ε)(I:B≤1000): (writeAllF (az ε.1.aC) ε).2.2.2.Ok∧(∀e∈(writeAllF (az ε.1.aC) ε).2.2.2.now,0≤e.1∧e.1<(writeAllF (az ε.1.aC) ε).2.2.2.ai.length)∧(writeAllF (az ε.1.aC) ε).2.2.2.waiting.length≤268435456 :=
 (h.ei.YK I (k:=ε.2.2.aA) h.aA _ rfl).2
theorem FM.all (h:FM N B ba aq mk rs B0 g F ε)(hB:B≤1000): Fk N ba aq mk rs B0 g F (writeAllF (az ε.1.aC) ε).1 (writeAllF (az ε.1.aC) ε).2 (writeAllF (az (aB ε).1.aC) (aB ε)).2:=by
 obtain⟨k1,k2,k3⟩:=h.cO hB
 rcases h.fs.RD with⟨I,U,J⟩|⟨I,U,J,q4⟩
 ·exact .inl ⟨I,J.low h.fo,k1,k3⟩
 ·exact .inr ⟨I,J.alive,k1.aA,U⟩
theorem FM.sync (h:FM N B ba aq mk rs B0 g F ε)(hB:B≤1000): Fk N ba aq mk rs B0 g F (bx ε.1 ε.2.2).1 ((bx ε.1 ε.2.2).2.1,(ε.2.1,(bx ε.1 ε.2.2).2.2)) ((bx (aB ε).1 (aB ε).2.2).2.1,((aB ε).2.1,(bx (aB ε).1 (aB ε).2.2).2.2)):=by
 obtain⟨k1,k2⟩:=Ir (π:=ε.1) h.ok.ok.dk
 have hw:=h.wait
 rcases h.fs.S5 with⟨I,J⟩|⟨I,J,U⟩
 ·exact .inl ⟨by rw[I],⟨by rw[I];exact J.low h.fo,k1,b_ k2 (by omega)⟩⟩
 ·exact .inr ⟨I.trans h.ei.sync.1,J,k1.aA,U⟩
theorem FM.clean (h:FM N B ba aq mk rs B0 g F ε)(hB:B≤1000): Fk N ba aq mk rs B0 g F (cU ε).1 (cU ε).2 (cU (aB ε)).2:=by
 obtain⟨k1,k2,k3⟩:=h.cO hB
 have hd:(writeAllF (az ε.1.aC) ε).1≠0→(writeAllF (az ε.1.aC) ε).2.2.2.dead=true:=fun q=>by
  rcases h.fs.RD with⟨_,J,_⟩|⟨I,_⟩
  ·exact J
  ·exact absurd I q
 have e:=MA h.fs.alive hd
 obtain⟨U,k5⟩:=Ir (π:=(writeAllF (az ε.1.aC) ε).2.1) k1
 rw[←e] at U k5
 rcases h.fs.Xt with⟨I,J,q3⟩|⟨I,J,q3⟩
 ·exact .inl ⟨I,q3.low h.fo,U,by omega⟩
 ·exact .inr ⟨I.trans h.ei.clean.1,J,U.aA,q3⟩
theorem FM.force (h:FM N B ba aq mk rs B0 g F ε)(hB:B≤1000)(n:Nat): Fk N ba aq mk rs B0 g F (aK ε.2 n).1 (ε.1,(aK ε.2 n).2) ((aB ε).1,(aK (aB ε).2 n).2):=by
 have hw:=h.wait
 obtain⟨k1,k2⟩:=Wt.force (x:=ε.2) (n:=n) ⟨h.ok.ok.dk,rfl⟩
 rcases h.fs.Xs n with⟨I,J⟩|⟨I,J,U⟩
 ·exact .inl ⟨by rw[I],⟨by rw[I];exact J.low h.fo,k1,by show(aK ε.2 n).2.2.waiting.length≤_;rw[k2];omega⟩⟩
 ·exact .inr ⟨I.trans (h.ei.force (n:=n)).1,J,k1.aA,U⟩
end
section
variable {told:dI} {p g aq:Nat} {op v x:V} {rs:List bt}
theorem UQ (hT:W told)(hN2:N≤65536)(hB:B≤2000)(hD:D.w.length≤1048576∧∀x∈D.w,x.2.length≤1048576): ∀(j i:Nat) (ε:bA) (now:List (Int×List Nat)) (nx:List (List Nat)) (nv:V) (h:H) (E:List (Nat×V)) (Q:Ex→List (Nat×V)→H→Prop),i+j=D.w.length→FM N B ba mQ mk rs B0 gg F ε→NW N now→NX N ps now nx →
  Sat h (gZ g a now false::cB a p q r (.ptr g 0) data aq::cq r p q ε.1::bh q p ε.2.1::aD p ε.2.2::.arr 1 nv (dG nx)::roH 1 pv (dG ps)::pt p5 (.cells 4 [.int .i64 D.act,.int .i64 D.cO,wv,dv] false)::j7 2 wv cs::og cs D.w::S) →
  Has E [(0,.ptr a 0),(1,pv),(5,.ptr p5 0),(18,.ptr g 0),(20,nv),(21,.int .i64 (i:Int))] →
  (∀ε' E' h',C9 N ba mQ mk rs B0 gg F ε'→look E' 6=some pv→look E' 7=some (.int .u64 0)→look E' 8=some (.bool true)→look E' 9=some (.int .i64 9)→Sat h' (aD p ε'.2.2::roH 1 pv (dG ps)::S)→Q .ret E' h') →
  (∀ε' fB J E' h',FM N B ba mQ mk rs B0 gg F ε'→NW N fB→NX N ps fB J→(J=nxW N (D.w.drop i) nx∧fB=nowW N (D.w.drop i) now∧(∀m,pgA (aB ε') m=pgA (aB ε) m)∧∀P:VP,iL N P→vw P (aB ε)→vw P (aB ε'))→Has E' [(0,.ptr a 0),(1,pv),(5,.ptr p5 0),(18,.ptr g 0),(20,nv)] →
   Sat h' (gZ g a fB false::cB a p q r (.ptr g 0) data aq::cq r p q ε'.1::bh q p ε'.2.1::aD p ε'.2.2::.arr 1 nv (dG J)::roH 1 pv (dG ps)::pt p5 (.cells 4 [.int .i64 D.act,.int .i64 D.cO,wv,dv] false)::j7 2 wv cs::og cs D.w::S)→Q (.exit 1) E' h') →
  WP ⟨Tryz.prog,told⟩ 262 (.loop plL) E h Q:=by
 intro j
 induction j with
 |zero =>
  intro i ε now nx nv h E Q hi U hw hx s hE hd hq
  have hlen:=Pc s (k:=9) rfl
  refine WP.loop (WP.has hE (zK 4 rfl (zY s 7 GQ Qc rfl (zo rfl (aY rfl rfl rfl (s.yN (n:=D.w.length) (j:=8) rfl hlen (by decide) C5)) ?_))))
  refine zC rfl bq (by simp<;>omega) ?_
  exact zk 2 rfl (WP.exit (hq ε now nx _ _ U hw hx (by rw[va (by omega)];exact⟨rfl,rfl,fun _=>rfl,fun _ _ h=>h⟩) ⟨rfl,rfl,rfl,rfl,rfl,aa⟩ s))
 |succ j ih =>
  intro i ε now nx nv h E Q hi U hw hx s hE hd hq
  have hlen:=Pc s (k:=9) rfl
  have Fo:D.w[i]?=some (D.w[i]'(by omega)):=bn _
  generalize (D.w[i]'(by omega))=y at Fo
  obtain⟨pg,b⟩:=y
  have jo:D.w.drop i=(pg,b)::D.w.drop (i+1):=by
   obtain⟨h1,h2⟩:=List.getElem?_eq_some_iff.1 Fo
   rw[lJ h1,h2]
  have xz:b.length≤1048576:=hD.2 _ (bu Fo)
  obtain⟨u,c1,u1,u2,u3,YO,s⟩:=YM (s.ae [9]) Fo
  dsimp only[bringA,getA,aQ] at s
  obtain⟨id,off,g1,g2⟩:=s.YA (P:=Tryz.prog) (i:=i) (j:=10) rfl (by omega) (by decide) C5 Sr X1
  rw[c1] at g2
  have s:=s.ae [9,2,2,2,2,2,0,1,1,1,0]
  dsimp only[bringA,getA,aQ] at s
  have nc:∀e∈now,e.2.length=512:=fun e he=>fb (hw.good e he).1
  have Hi:=U.wait
  have hpN:ε.2.2.ai.length=N:=U.ei.ec.dk.ai
  refine WP.loop (WP.has hE (zK 4 rfl (zY s 0 GQ Qc rfl (zo rfl (aY rfl rfl rfl (s.yN (n:=D.w.length) (j:=9) rfl hlen (by decide) C5)) ?_))))
  refine zB rfl bq (by simp<;>omega) ?_
  refine zk 4 rfl (WP.block (zg rfl (zY s 0 GQ Qc rfl (zm rfl (zo rfl (dD (r:=.ptr id off) rfl rfl g1) (zl rfl g2 ?_))))))
  refine ay.cV s rfl rfl rfl (cK X2) (fun p22 h s => ?_)
  dsimp only[V.cells,List.length_cons,List.length_nil,Nat.reduceAdd] at s
  refine zS rfl (s.iq (j:=0) rfl Sr rfl (by simp only[jB,jC,u2];rfl)) ?_
  intro h s
  dsimp only[setA] at s
  refine zk 4 rfl (zY s 0 pH dy rfl (zY s 0 Ag bL rfl (zc rfl (Oo (n:=pg) hT (s.ae [2,2,2,2,2,2]) (cI _ _) (by omega) U.ok (by omega) nc) ?_)))
  rintro v h ⟨e,fB,ε',hr,rfl,s⟩
  dsimp only[bringA,getA,aQ] at s
  rcases U.aa_ hr (by omega) with⟨rfl,n0,n1,tB⟩|⟨E8,xq,k2⟩
  ·skip
   refine zk 2 rfl (WP.block (zg rfl (zY s 6 pH dy rfl (zC rfl bq (by simp;omega) ?_))))
   refine zm rfl (zY s 6 pH dy rfl (zm rfl (zo rfl (aY rfl rfl rfl (Cs (s.yh (j:=9) rfl (rO _ _ _)) (by rw[jb,hx.old,e_]) (by decide) oH)) ?_)))
   refine zC rfl kK (by simp;omega) ?_
   refine zk 7 rfl (zB rfl bZ (by decide) ?_)
   exact zk 12 rfl (WP.ret (hd ε' _ _ tB rfl rfl rfl rfl ((((((((((s.ae [4,8]).del 11).del 10).del 9).del 8).del 7).del 6).del 5).del 4).del 3 |>.del 2)))
  have acG:=E8.ei
  obtain⟨k1,_,k3,k4,k5⟩:=xq.ec U.ei.ec U.ei.ok.pins
  have next:∀(h:H) (E:List (Nat×V)) (J:List (List Nat)),NW N fB→NX N ps fB J→(J=(if okW N (pg,b) then nx.set pg.toNat (b.drop 12) else nx)∧fB=(if okW N (pg,b) then cY pg b now else now)) →
    Sat h (gZ g a fB false::cB a p q r (.ptr g 0) data aq::cq r p q ε'.1::bh q p ε'.2.1::aD p ε'.2.2::.arr 1 nv (dG J)::roH 1 pv (dG ps)::pt p5 (.cells 4 [.int .i64 D.act,.int .i64 D.cO,wv,dv] false)::j7 2 wv cs::og cs D.w::S) →
    Has E [(0,.ptr a 0),(1,pv),(5,.ptr p5 0),(18,.ptr g 0),(20,nv),(21,.int .i64 ((i:Int)+1))]→WP ⟨Tryz.prog,told⟩ 262 (.loop plL) E h Q:=fun h E J a3 a4 a7 a5 a6 =>
   ih (i+1) ε' fB J nv h E Q (by omega) E8 a3 a4 a5 a6 hd fun ε3 aba nx3 E3 h3 b1 b3 b4 b7 b5 b6=>hq ε3 aba nx3 E3 h3 b1 b3 b4
    ⟨by rw[jo,nxW,←a7.1];exact b7.1,by rw[jo,nowW,←a7.2];exact b7.2.1,fun m=>by rw[b7.2.2.1,k2],fun R hR xM=>b7.2.2.2 R hR (hR.E9 xq U.ei.ec xM)⟩ b5 b6
  have BK:¬okW N (pg,b)→fB=now→nx=(if okW N (pg,b) then nx.set pg.toNat (b.drop 12) else nx)∧fB=(if okW N (pg,b) then cY pg b now else now):=fun q I=>⟨(if_neg q).symm,by rw[ah q,I]⟩
  refine zk 2 rfl (WP.block (zg rfl (zY s 6 pH dy rfl ?_)))
  by_cases acv:pg<0
  ·skip
   refine zB rfl bq (by simp;omega) ?_
   obtain⟨rfl,I⟩:=k3 (by omega)
   have no:=BK (fun q=>by have:=q.1;omega)
   refine zk 13 rfl (zC rfl aX (by simp) ?_)
   refine zk 4 rfl (zv (zj rfl (WP.skip (zr rfl (zm rfl (zb rfl (by exact bP (aV (by omega) (by omega))) ?_))))))
   refine za rfl (zv ?_)
   exact next _ _ nx (by rw[I];exact hw) (by rw[I];exact hx) (no I) (((s.ae [0,0,0,0,0,3,3,2,2,2]).del 11).del 10) ⟨rfl,rfl,rfl,rfl,rfl,rfl,aa⟩
  ·skip
   refine zC rfl bq (by simp;omega) ?_
   refine zm rfl (zY s 6 pH dy rfl (zm rfl (zo rfl (aY rfl rfl rfl (Cs (s.yh (j:=9) rfl (rO _ _ _)) (by rw[jb,hx.old,e_]) (by decide) oH)) ?_)))
   by_cases D7:(N:Int)≤pg
   ·skip
    refine zB rfl kK (by simp;omega) ?_
    obtain⟨rfl,I⟩:=k3 (by omega)
    have no:=BK (fun q=>by have:=q.2.1;omega)
    refine zk 7 rfl (zC rfl aX (by simp) ?_)
    refine zk 4 rfl (zv (zj rfl (WP.skip (zr rfl (zm rfl (zb rfl (by exact bP (aV (by omega) (by omega))) ?_))))))
    refine za rfl (zv ?_)
    exact next _ _ nx (by rw[I];exact hw) (by rw[I];exact hx) (no I) (((s.ae [0,0,0,0,0,3,3,2,2,2]).del 11).del 10) ⟨rfl,rfl,rfl,rfl,rfl,rfl,aa⟩
   ·skip
    refine zC rfl kK (by simp;omega) ?_
    obtain⟨n,rfl⟩:∃n:Nat,pg=n:=⟨pg.toNat,by omega⟩
    have Xw:n<N:=by omega
    refine zk 7 rfl ?_
    cases hg:bR b with
    |false =>
     obtain⟨rfl,I⟩:=k4 (by omega) (by omega) hg
     have no:=BK (fun q=>by have:=q.2.2;rw[hg] at this;cases this)
     refine zC rfl bZ (by decide) ?_
     refine zk 5 rfl (zY s 6 Ag bL rfl (zc rfl (HN hT (s.ae [5]) (cI _ _)) ?_))
     rintro v h ⟨rfl,s⟩
     dsimp only[bringA,getA,aQ] at s
     rw[hg]
     refine zt rfl (dQ rfl rfl) (rfl) (zk 6 rfl (zC rfl aX (by decide) ?_))
     refine zv (zj rfl (WP.skip (zr rfl (zm rfl (zb rfl (by exact bP (aV (by omega) (by omega))) ?_)))))
     refine za rfl (zv ?_)
     exact next _ _ nx (by rw[I];exact hw) (by rw[I];exact hx) (no I) (((s.ae [1,1,1,1,1,3,3,2,2,2]).del 11).del 10) ⟨rfl,rfl,rfl,rfl,rfl,rfl,aa⟩
    |true =>
     obtain⟨rfl,rfl⟩:=k5 (by omega) (by omega) hg
     have qF:=hw.put (n:=(n:Int)) (by omega) (by omega) hg YO
     have kV:=hx.put (b:=b) Xw
     have acw:=E8.wait
     have acy:ε'.2.2.ai.length=N:=E8.ei.ec.dk.ai
     refine zC rfl bZ (by decide) ?_
     refine zk 5 rfl (zY s 6 Ag bL rfl (zc rfl (HN hT (s.ae [5]) (cI _ _)) ?_))
     rintro v h ⟨rfl,s⟩
     dsimp only[bringA,getA,aQ] at s
     rw[hg]
     refine zh rfl (dQ rfl rfl) (rfl) (zk 6 rfl (zC rfl aX (by decide) ?_))
     refine zk 4 rfl ?_
     have s:=s.ae [8,0]
     dsimp only[bringA,getA,aQ] at s
     have lC:=eA (s.aL (k:=1) rfl (cI _ _)) (a:=12) (by rw[fb hg];decide)
     obtain⟨nh,RE,h2,f1,f2,f3⟩:=UP (P:=Tryz.prog) (w:=b.drop 12) s (by rw[hx.len];exact Xw) oH Sm
     refine WP.drawn [af,af,af,af,af,af,af,af,af] rfl (by kernel_rfl) (by kernel_rfl) ?_
     refine zM rfl (zF rfl (pH _ _) (zL rfl (s.ld (k:=7) rfl dy rfl) (zF rfl (Ag _ _) (zL rfl (s.ld (k:=7) rfl bL rfl) (zO rfl (cG (p:=some (.int .i64 12)) (q:=none) (m:=none) (p':=some 12) (q':=none) (m':=none) rfl rfl rfl rfl rfl rfl rfl lC.1) (au.op rfl rfl rfl (by simp only[isEff,iP]) (cj rfl (xC lC.2.1)) ?_))))))
     refine zO rfl (dD (r:=.ptr nh RE) rfl rfl f1) (au.ik rfl rfl rfl (OpR.dg rfl rfl rfl (⟨h2,f2,f3⟩)) ?_)
     rintro v h ⟨rfl,s⟩
     refine au.nil ⟨⟨aa,aa,aa,aa,aa,aa,aa,aa,aa,aa⟩,?_⟩
     obtain⟨id3,abb,f4,f5⟩:=iX (P:=Tryz.prog) s (k:=0) (i:=n) (c:=.str (b.drop 12)) rfl (Fc (kM (by rw[hx.len];exact Xw))) oH Sm
     refine zw (WP.drawn [af,af,af,af,af,af,af,af,af,af,af] rfl (by kernel_rfl) (by kernel_rfl) ?_)
     refine zM rfl (zO rfl (Lu rfl (mki_of tT rfl)) (zF rfl (pH _ _) (zL rfl (s.ld (k:=7) rfl dy rfl) (zM rfl (zF rfl (pH _ _) (zL rfl (s.ld (k:=7) rfl dy rfl) (zO rfl (dD (r:=.ptr id3 abb) rfl rfl f4) (zL rfl (f5 _ Zy) (au.any rfl rfl rfl rfl (OpR.call rfl rfl rfl rfl (Uw (n:=(n:Int)) (w:=b.drop 12) hT (s.ae [2,2,2,2,2]) E8.ok (by omega) (fun e he=>fb (qF.good e he).1))) ?_)))))))))
     rintro v h ⟨e2,b2,od,EK,rfl,s'⟩
     dsimp only[bringA,getA,aQ] at s'
     obtain⟨rfl,rfl,rfl⟩:=EK.aa9 (by rw[gH,aE rfl]) (by omega) (by omega)
     have s:=s'
     have pE:nk 0 b2 (b2.drop 12)=true:=by
      obtain⟨q1,q2⟩:=Mk hg
      rw[nk,er q1,er q2];rfl
     rw[pE]
     refine au.mN rfl rfl rfl rfl (dQ rfl rfl) (rfl) ?_
     refine au.nil ⟨⟨aa,aa,aa,aa,aa,aa,aa,aa,aa,aa,aa,aa⟩,?_⟩
     refine zj rfl (WP.skip (zr rfl (zm rfl (zb rfl (by exact bP (aV (by omega) (by omega))) ?_))))
     refine za rfl (zv ?_)
     exact next _ _ _ qF kV ⟨(if_pos (show okW N ((n:Int),b2) from⟨by omega,by omega,hg⟩)).symm,(if_pos (show okW N ((n:Int),b2) from⟨by omega,by omega,hg⟩)).symm⟩ (((s.ae [0,0,0,0,0,0,3,2,2,2]).del 11).del 10) ⟨rfl,rfl,rfl,rfl,rfl,rfl,aa⟩
end
section
variable {told:dI} {p g aq:Nat} {op v x:V} {rs:List bt}
theorem UR (hT:W told)(hB:B≤900)(rf:FM N B ba mQ mk rs B0 gg F ε)(hw:NW N now)(hx:NX N ps now nx)(hp:kJ ε ps)(hD:D.data.length≤1048576)
 (nc:now=nowW N D.w [])(EZ:nx=nxW N D.w ps)(Xx:∀P:VP,iL N P→vw P (aB t_)→vw P (aB ε))(ni:∀m,pgA (aB ε) m=pgA (aB t_) m)
 (s:Sat h (gZ g a now false::cB a p q r (.ptr g 0) data aq::cq r p q ε.1::bh q p ε.2.1::aD p ε.2.2::.cm dv D.data::.arr 1 nv (dG nx)::roH 1 pv (dG ps)::pt p5 (.cells 4 [.int .i64 D.act,.int .i64 D.cO,wv,dv] false)::S))(hE:Has E [(0,.ptr a 0),(1,pv),(5,.ptr p5 0),(18,.ptr g 0),(20,nv)])
 (hd:∀ε' E' h',vY N B ba mQ mk rs B0 gg F t_ ps nx ε'→look E' 6=some nv→look E' 7=some (.int .u64 0)→look E' 8=some (.bool true)→look E' 9=some (.int .i64 9)→Sat h' (aD p ε'.2.2::roH 1 nv (dG nx)::S)→Q .ret E' h')
 (hq:∀(e:Int) (dB:List (List Nat)) (om:V) (aM:Nat) (ε':bA) (E':List (Nat×V)) (h':H),A2 N D (aB t_) ps e dB aM (aB ε')→ε'.2.2.dead=false→ε'.2.2.aA<4294967296→EI N (B+2) (aB ε')→dB.length=N→kJ ε' dB →
   look E' 6=some om→look E' 7=some (.int .u64 (aM:Int))→look E' 8=some (.bool true)→look E' 9=some (.int .i64 e) →
   Sat h' (cB a p q r .cH data aq::cq r p q ε'.1::bh q p ε'.2.1::aD p ε'.2.2::roH 1 om (dG dB)::S)→Q .ret E' h'):
  WP ⟨Tryz.prog,told⟩ 262 pgE E h Q:=by
 have I:=rf.ei
 have hN:=I.many
 have Ij:cg ε≤B*65536:=I.cg
 have gW:ε.2.1.base+ε.2.1.b.length≤B*1048600:=I.el.size
 have C7:ε.2.1.b=ε.2.2.log:=I.el.log
 have hv:=s.aL (k:=5) rfl (cI _ _)
 have s:=s.ae [8]
 refine WP.has hE (zK 3 rfl (zY s 0 NA dy rfl ?_))
 by_cases J:D.act=2
 ·skip
  refine zB rfl bZ (by simp;exact J) ?_
  refine zk 5 rfl (zc rfl (HA hT (s.ae [1,1])) ?_)
  rintro v h ⟨rfl,s⟩
  exact zk 9 rfl (WP.ret (hq 0 ps pv 0 ε _ _ (.drop (aB ε) J Xx ni) rf.fs.alive rf.aA (I.more (by omega)) hx.old hp rfl rfl rfl rfl (((((s.ae [1,2,2,2,4]).del 8).del 7).del 6).del 5)))
 ·have O0:=KU (k:=D.cO)
  have N6:=KV (k:=D.cO)
  refine zC rfl bZ (by simp;exact J) ?_
  refine zk 6 rfl (zY s 0 GP dy rfl (zb rfl (BB (m:=3) (by decide)) ?_))
  refine zo rfl (aJ (r:=.int .i64 (uc D.cO:Int)) rfl rfl (by rw[show((uc D.cO:Nat):Int)=1+((Nat.land ((D.cO%(2^(IntKind.i64).bits:Int)).toNat) 3:Nat):Int) by unfold uc;omega];exact bP (aV (by unfold uc at O0;omega) (by unfold uc at O0;omega)))) ?_
  refine zY s 0 GP dy rfl (zb rfl (BB (m:=255) (by decide)) ?_)
  refine zo rfl (cj (r:=.int .u64 (It D.cO:Int)) rfl (js bK cD (fe (by omega) (by unfold It at N6;omega)))) ?_
  refine zY s 0 Cj bL rfl (zo rfl (dn rfl (Pd hv)) ?_)
  have s:=s.qh (k:=4)
  refine zc rfl (Ul (pV:=0) hT (s.ae [2,2,2,2,2,2,0]) (cI _ _) rfl rf.ok (by omega) (fun e he=>fb (hw.good e he).1) (by have:=hw.len;omega) (fun n hn=>by have:=hw.keys n hn;omega) (by omega) (by decide) (by decide) (by omega) C7 (by omega)) ?_
  rintro v h ⟨aM,e,cl,ε',hr,rfl,s⟩
  rcases rf.done (t_:=t_) hr (by omega) hw (by omega) (by omega) (by omega) hx hp with⟨rfl,rfl,tB⟩|⟨ha,hf,hr⟩
  ·skip
   refine zk 10 rfl (zB rfl bZ (by decide) ?_)
   exact zk 11 rfl (WP.ret (hd ε' _ _ tB rfl rfl rfl rfl ((((((((s.ae [7]).yj.ae [5,0]).del 8).del 7).del 6).del 5).del 4).del 3 |>.del 2)))
  have xq:=hr
  rw[nc] at xq
  rcases I.done (by omega) hw (by omega) (by omega) hr with⟨rfl,he,U,MD⟩|⟨rfl,rfl,U,MD⟩
  ·have s:Sat h (gZ g a now false::cB a p q r (.ptr g 0) data aq::_):=s
   have he9:e≠9:=by omega
   have out:A2 N D (aB t_) ps e ps 0 (aB ε'):=.fail (aB ε) (aB ε') aM e J Xx ni (by rw[←nc];exact hw) ⟨B,hB,I⟩ xq he
   refine zk 10 rfl (zC rfl bZ (by simp;exact he9) ?_)
   refine zk 7 rfl (zB rfl aX (by simp;omega) ?_)
   refine zk 5 rfl (zc rfl (HA hT s) ?_)
   rintro v h ⟨rfl,s⟩
   refine zk 5 rfl ?_
   have fin:=(((((s.ae [1,1,1,1,4]).del 8).del 7).del 6).del 5)
   rcases he with rfl|rfl
   ·skip
    refine zB rfl bZ (by decide) ?_
    exact zk 10 rfl (WP.ret (hq 7 ps pv 0 ε' _ _ out ha hf U hx.old (hp.of fun m _=>MD m) rfl rfl rfl rfl fin))
   ·skip
    refine zC rfl bZ (by decide) ?_
    refine zk 2 rfl (zB rfl bZ (by decide) ?_)
    exact zk 7 rfl (WP.ret (hq 2 ps pv 0 ε' _ _ out ha hf U hx.old (hp.of fun m _=>MD m) rfl rfl rfl rfl fin))
  ·have s:Sat h (gZ g a now true::cB a p q r .cH data aq::_):=s
   refine zk 10 rfl (zC rfl bZ (by decide) ?_)
   refine zk 7 rfl (zC rfl aX (by decide) ?_)
   exact zk 12 rfl (WP.ret (hq 0 nx nv aM ε' _ _ (by rw[EZ];exact .done (aB ε) (aB ε') aM J Xx ni (by rw[←nc];exact hw) ⟨B,hB,I⟩ xq) ha hf U hx.len (hx.YN hw hp MD) rfl rfl rfl rfl (((((s.ae [7]).yj.ae [2,2,2,2,0]).del 8).del 7).del 6 |>.del 5)))
end
def Xy (N B ba mQ:Nat)(mk:List Nat)(rs:List bt)(B0:Int→List Nat)(gg:Int→Option Nat)(F a p q r:Nat)(D:iT)(ε:bA)(ps:List (List Nat))(data:List Nat)(aq:Nat)(S:List aS)(Q:Ex→List (Nat×V)→H→Prop): Prop :=
 (∀(e:Int) (dB:List (List Nat)) (I:V) (aM:Nat) (ε':bA) (bG:List Nat) (bW:Nat) (E':List (Nat×V)) (h':H),xE N D (aB ε) ps data aq e dB aM (aB ε') bG bW→e≠9→ε'.2.2.dead=false→ε'.2.2.aA<4294967296→EI N (B+2) (aB ε')→dB.length=N→kJ ε' dB→bG.length≤1048576 →
   look E' 6=some I→look E' 7=some (.int .u64 (aM:Int))→look E' 8=some (.bool true)→look E' 9=some (.int .i64 e) →
   Sat h' (cB a p q r .cH bG bW::cq r p q ε'.1::bh q p ε'.2.1::aD p ε'.2.2::roH 1 I (dG dB)::S)→Q .ret E' h') ∧
 ∀(dB:List (List Nat)) (I:V) (ε':bA) (E':List (Nat×V)) (h':H),vY N B ba mQ mk rs B0 gg F ε ps dB ε'→look E' 6=some I→look E' 7=some (.int .u64 0)→look E' 8=some (.bool true)→look E' 9=some (.int .i64 9) →
  Sat h' (aD p ε'.2.2::roH 1 I (dG dB)::S)→Q .ret E' h'
section
variable {told:dI} {p g aq:Nat} {op v x:V} {rs:List bt}
theorem S9 (hT:W told)(hB:B≤900)(uJ:1≤ba)(J:FM N B ba mQ mk rs B0 gg F ε)(hN:ps.length=N)(hp:kJ ε ps)(qi:data.length≤1048576)(hD:D.data.length≤1048576)(E_:lo<18446744073709551616)(ha:D.act=3)(U:lo=0∨lo=ε.2.1.base)
 (s:Sat h (pt p5 (.cells 4 [.int .i64 D.act,.int .i64 D.cO,wv,dv] false)::cB a p q r .cH data aq::cq r p q ε.1::bh q p ε.2.1::aD p ε.2.2::.cm dv D.data::roH 1 pv (dG ps)::S))(hE:Has E [(0,.ptr a 0),(1,pv),(5,.ptr p5 0),(10,.int .u64 (lo:Int))])(hq:Xy N B ba mQ mk rs B0 gg F a p q r D ε ps data aq S Q):
  WP ⟨Tryz.prog,told⟩ 262 plK E h Q:=by
 have I:=J.ei
 have S8:=I.many
 have gW:ε.2.1.base+ε.2.1.b.length≤B*1048600:=I.el.size
 have C7:ε.2.1.b=ε.2.2.log:=I.el.log
 have acz:ε.1.aN.length≤N:=I.aN
 refine WP.has hE (zK 4 rfl (zY s 0 Cj bL rfl (zc rfl (Ur (lo:=lo) hT (s.ae [1,1,1,1,1]) (cI _ _) J.ok.ok E_ (by omega) (fun n hn=>wf_i64 (I.ec.ru n hn).1 (by have:=(I.ec.ru n hn).2;omega)) C7 (by omega)) ?_)))
 rintro v h ⟨e,ε',bG,bW,hr,rfl,s⟩
 have vU:=J.ck (ps:=ps) hr (by omega) uJ
 have KK:bG.length≤1048576:=by
  rcases vU with⟨_,rfl|rfl,_⟩|⟨_,_,q⟩
  ·exact qi
  ·exact hD
  ·rcases (I.Mi (by omega) q).2.2 with⟨_,_,rfl⟩|⟨_,rfl⟩|⟨_,rfl⟩<;>assumption
 refine zk 5 rfl (zc rfl (Ma hT s (by omega)) ?_)
 rintro v h ⟨w,rfl,s⟩
 have uv:=s.aL (k:=0) rfl (bJ _ _)
 have kB:=s.aL (k:=5) rfl (cI _ _)
 have s:=s.ae [6]
 have fin:=(((s.ae [2,2,2,2,3]).del 7).del 6).del 5
 dsimp only[bringA,getA,aQ] at fin
 rcases vU with⟨rfl,_,tB⟩|⟨Xz,hf,hr⟩
 ·have s:=s.ae [5,6]
  refine zk 7 rfl (WP.drawn [af,af,af,af,af,af,af,af,af,af,af,af,af,af,af,af,af,af,af,af,af,af,af,af,af,af,af,af,af,af,af,af,af,af] rfl (by kernel_rfl) (by kernel_rfl) ?_)
  refine zM rfl (zM rfl (au.oc rfl rfl rfl rfl (aJ rfl rfl bZ) (by decide) ?_))
  refine zM rfl (au.no (e:=false) rfl rfl rfl rfl (au.no (e:=false) rfl rfl rfl rfl (zO rfl (jf rfl rfl) (zM rfl (au.no (e:=false) rfl rfl rfl rfl (au.no (e:=false) rfl rfl rfl rfl (au.no (e:=false) rfl rfl rfl rfl (au.no (e:=false) rfl rfl rfl rfl (au.no (e:=false) rfl rfl rfl (by simp only[isEff,iP]) ?_)))))))))
  refine au.no (e:=false) rfl rfl rfl rfl (au.no (e:=false) rfl rfl rfl rfl (au.no (e:=false) rfl rfl rfl (by simp only[isEff,iP]) ?_))
  refine au.no (e:=false) rfl rfl rfl rfl (au.no (e:=false) rfl rfl rfl rfl (zO rfl (jf rfl rfl) (zM rfl (au.no (e:=false) rfl rfl rfl rfl (au.no (e:=false) rfl rfl rfl rfl (au.no (e:=false) rfl rfl rfl rfl (au.no (e:=false) rfl rfl rfl rfl (au.no (e:=false) rfl rfl rfl rfl (au.no (e:=false) rfl rfl rfl rfl (au.no (e:=false) rfl rfl rfl rfl (au.no (e:=false) rfl rfl rfl rfl (zO rfl (jf rfl rfl) (zM rfl (zA rfl (zA rfl (zA rfl (zA rfl ?_)))))))))))))))))
  refine au.nil ⟨⟨aa,aa,aa,aa,aa,aa,aa,aa,aa,aa,aa,aa,aa,aa,aa,aa,aa,aa,aa,aa,aa,aa,aa,aa,aa,aa,aa,aa,aa,aa,aa,aa,aa,aa,aa⟩,?_⟩
  exact WP.ret (hq.2 ps pv ε' _ _ tB rfl rfl rfl rfl ((((((s.del 7).del 6).del 5).del 4).del 3).del 2))
 obtain⟨i1,i2,i3⟩:=I.Mi (by omega) hr
 rcases i3 with⟨rfl,D7,_⟩|⟨rfl,_⟩|⟨rfl,rfl⟩
 ·skip
  refine zk 7 rfl (WP.drawn [af,af,af,af,af,af,af,af,af,af,af,af,af,af,af,af,af,af,af,af,af,af,af,af,af,af,af,af,af,af,af,af,af,af] rfl (by kernel_rfl) (by kernel_rfl) ?_)
  refine zM rfl (zM rfl (au.mN rfl rfl rfl rfl (aJ rfl rfl bZ) (by decide) ?_))
  refine zM rfl (zM rfl (au.mN rfl rfl rfl rfl (aJ rfl rfl bZ) (by decide) ?_))
  refine zO rfl (ko rfl rfl) (zM rfl (zM rfl (au.mN rfl rfl rfl rfl (aJ rfl rfl bZ) (by decide) ?_)))
  refine zM rfl (au.no (e:=false) rfl rfl rfl rfl (au.no (e:=false) rfl rfl rfl (by simp only[isEff,iP]) ?_))
  refine au.no (e:=false) rfl rfl rfl rfl (au.no (e:=false) rfl rfl rfl rfl (au.no (e:=false) rfl rfl rfl (by simp only[isEff,iP]) ?_))
  refine au.no (e:=false) rfl rfl rfl rfl (zO rfl (ko rfl rfl) (zO rfl (ko rfl rfl) (zM rfl (zM rfl (au.oc rfl rfl rfl rfl (aJ rfl rfl bZ) (by decide) ?_)))))
  refine zM rfl (zF rfl (Cj _ _) (zL rfl (s.ld (k:=0) rfl bL rfl) (zO rfl (aY rfl rfl rfl (bk aW kB)) (au.oc rfl rfl rfl rfl (aJ rfl rfl dS) (by simp;omega) ?_))))
  refine zO rfl (jf rfl rfl) (zO rfl (ko rfl rfl) (zM rfl (zA rfl (zA rfl (zA rfl (zA rfl ?_))))))
  refine au.nil ⟨⟨aa,aa,aa,aa,aa,aa,aa,aa,aa,aa,aa,aa,aa,aa,aa,aa,aa,aa,aa,aa,aa,aa,aa,aa,aa,aa,aa,aa,aa,aa,aa,aa,aa,aa,aa⟩,?_⟩
  exact WP.ret (hq.1 2 ps pv 0 ε' bG bW _ _ (.ck _ lo _ _ _ ha U hr) (by decide) Xz hf (i1.more (by omega)) hN (hp.of fun m _=>i2 m) KK rfl rfl rfl rfl fin)
 ·skip
  refine zk 7 rfl (WP.drawn [af,af,af,af,af,af,af,af,af,af,af,af,af,af,af,af,af,af,af,af,af,af,af,af,af,af,af,af,af,af,af,af,af,af] rfl (by kernel_rfl) (by kernel_rfl) ?_)
  refine zM rfl (zM rfl (au.mN rfl rfl rfl rfl (aJ rfl rfl bZ) (by decide) ?_))
  refine zM rfl (zM rfl (au.oc rfl rfl rfl rfl (aJ rfl rfl bZ) (by decide) ?_))
  refine zO rfl (ko rfl rfl) (zM rfl (au.no (e:=false) rfl rfl rfl rfl (au.no (e:=false) rfl rfl rfl rfl (au.no (e:=false) rfl rfl rfl rfl (au.no (e:=false) rfl rfl rfl rfl (au.no (e:=false) rfl rfl rfl (by simp only[isEff,iP]) ?_))))))
  refine au.no (e:=false) rfl rfl rfl rfl (au.no (e:=false) rfl rfl rfl rfl (au.no (e:=false) rfl rfl rfl (by simp only[isEff,iP]) ?_))
  refine au.no (e:=false) rfl rfl rfl rfl (au.no (e:=false) rfl rfl rfl rfl (zO rfl (jf rfl rfl) (zM rfl (au.no (e:=false) rfl rfl rfl rfl (au.no (e:=false) rfl rfl rfl rfl (au.no (e:=false) rfl rfl rfl rfl (au.no (e:=false) rfl rfl rfl rfl (au.no (e:=false) rfl rfl rfl rfl (au.no (e:=false) rfl rfl rfl rfl (au.no (e:=false) rfl rfl rfl rfl (au.no (e:=false) rfl rfl rfl rfl (zO rfl (jf rfl rfl) (zM rfl (zA rfl (zA rfl (zA rfl (zA rfl ?_)))))))))))))))))
  refine au.nil ⟨⟨aa,aa,aa,aa,aa,aa,aa,aa,aa,aa,aa,aa,aa,aa,aa,aa,aa,aa,aa,aa,aa,aa,aa,aa,aa,aa,aa,aa,aa,aa,aa,aa,aa,aa,aa⟩,?_⟩
  exact WP.ret (hq.1 7 ps pv 0 ε' bG bW _ _ (.ck _ lo _ _ _ ha U hr) (by decide) Xz hf (i1.more (by omega)) hN (hp.of fun m _=>i2 m) KK rfl rfl rfl rfl fin)
 ·skip
  refine zk 7 rfl (WP.drawn [af,af,af,af,af,af,af,af,af,af,af,af,af,af,af,af,af,af,af,af,af,af,af,af,af,af,af,af,af,af,af,af,af,af] rfl (by kernel_rfl) (by kernel_rfl) ?_)
  refine zM rfl (zM rfl (au.mN rfl rfl rfl rfl (aJ rfl rfl bZ) (by decide) ?_))
  refine zM rfl (zM rfl (au.mN rfl rfl rfl rfl (aJ rfl rfl bZ) (by decide) ?_))
  refine zO rfl (ko rfl rfl) (zM rfl (zM rfl (au.oc rfl rfl rfl rfl (aJ rfl rfl bZ) (by decide) ?_)))
  refine zM rfl (zM rfl (au.op rfl rfl rfl (by simp only[isEff,iP]) (cj rfl (xC uv)) ?_))
  refine zF rfl (Cj _ _) (zL rfl (s.ld (k:=0) rfl bL rfl) (au.op rfl rfl rfl (by simp only[isEff,iP]) (cj rfl (xC kB)) ?_))
  refine au.oc rfl rfl rfl rfl (aJ rfl rfl wC) (decide_eq_true rfl) (zO rfl (jf rfl rfl) (zO rfl (ko rfl rfl) (zM rfl (au.no (e:=false) rfl rfl rfl rfl (au.no (e:=false) rfl rfl rfl rfl (au.no (e:=false) rfl rfl rfl rfl (au.no (e:=false) rfl rfl rfl rfl (au.no (e:=false) rfl rfl rfl rfl (au.no (e:=false) rfl rfl rfl rfl (au.no (e:=false) rfl rfl rfl rfl (au.no (e:=false) rfl rfl rfl rfl (zO rfl (jf rfl rfl) (zM rfl (zA rfl (zA rfl (zA rfl (zA rfl ?_)))))))))))))))))
  refine au.nil ⟨⟨aa,aa,aa,aa,aa,aa,aa,aa,aa,aa,aa,aa,aa,aa,aa,aa,aa,aa,aa,aa,aa,aa,aa,aa,aa,aa,aa,aa,aa,aa,aa,aa,aa,aa,aa⟩,?_⟩
  exact WP.ret (hq.1 0 ps pv 0 ε' _ bW _ _ (.ck _ lo _ _ _ ha U hr) (by decide) Xz hf (i1.more (by omega)) hN (hp.of fun m _=>i2 m) KK rfl rfl rfl rfl fin)
theorem YP (hT:W told)(hB:B≤900)(J:FM N B ba mQ mk rs B0 gg F ε)(hN:ps.length=N)(hp:kJ ε ps)(qi:data.length≤1048576)(hD:D.data.length≤1048576∧D.w.length≤1048576∧∀x∈D.w,x.2.length≤1048576)(ha:¬(3≤D.act∧D.act≤7))
 (s:Sat h (cB a p q r .cH data aq::cq r p q ε.1::bh q p ε.2.1::aD p ε.2.2::roH 1 pv (dG ps)::pt p5 (.cells 4 [.int .i64 D.act,.int .i64 D.cO,wv,dv] false)::j7 2 wv cs::og cs D.w::.cm dv D.data::S))(hE:Has E [(0,.ptr a 0),(1,pv),(5,.ptr p5 0)])(hq:Xy N B ba mQ mk rs B0 gg F a p q r D ε ps data aq S Q):
  WP ⟨Tryz.prog,told⟩ 262 plG E h Q:=by
 have S8:=J.ei.many
 refine WP.has hE (zK 3 rfl (zc rfl (On hT s) ?_))
 rintro v h ⟨g,rfl,s⟩
 refine zk 10 rfl (zC rfl aX (by decide) ?_)
 refine zk 2 rfl (zC rfl (CP tT) (rfl) (zk 6 rfl ?_))
 obtain⟨h1,e1,s1⟩:=Ee (P:=Tryz.prog) s oH V5 Sm rfl (by decide)
 refine ay.any rfl rfl rfl (OpR.of (R:=fun v h'=>v=.sl h.next 0 0 (.exact 0)∧h'=h1) (mE rfl e1) ⟨rfl,rfl⟩) ?_
 rintro v h' ⟨rfl,rfl⟩
 have s:=(Um (q:=1) s1).ae [0,5]
 obtain⟨i1,kI,jd,qj⟩:=Iu
 obtain⟨nv,h2,e2,s2⟩:=GW (P:=Tryz.prog) (rO _ _ _) s oH kI V5 jd (by omega) rfl (by decide) (by rw[jb,hN];simp;omega)
 refine zm rfl (ay.any rfl rfl rfl (OpR.of (R:=fun v h'=>v=nv∧h'=h2) (mD rfl rfl e2) ⟨rfl,rfl⟩) ?_)
 rintro v h ⟨rfl,rfl⟩
 rw[eE] at s2
 refine zk 7 rfl (WP.block ?_)
 refine UQ hT (N:=N) (ps:=ps) S8 (by omega) hD.2 D.w.length 0 ε [] ps _ _ _ _ (by omega) J (NW.nil N) ⟨hN,hN,fun n w h=>h⟩ (s2.ae [2,2,2,2,2,0,0,0,0,0]) ⟨rfl,rfl,rfl,rfl,rfl,rfl,aa⟩
  (fun ε' E' h' g1 U l7 l8 l9 s'=>hq.2 ps pv ε' E' h' (.old _ _ hN g1) U l7 l8 l9 (s'.del 2)) (fun ε' fB nx' E' h' g1 g3 g4 I g5 s' => ?_)
 rw[fY] at I
 have s:=s'
 exact UR hT (B:=B) (t_:=ε) hB g1 g3 g4 (hp.of fun m _=>I.2.2.1 m) hD.1 I.2.1 I.1 I.2.2.2 I.2.2.1 (((s.ae [0,0,0,0,0,5,0,0,0]).del 10).del 9) g5 (fun ε' E' h' ho U l7 l8 l9 s'=>hq.2 _ _ ε' E' h' ho U l7 l8 l9 s') fun e dB om aM ε' E' h' ho a1 a2 b1 b2 b3 U l7 l8 l9 s' =>
  hq.1 e dB om aM ε' data aq E' h' (.grp _ _ _ _ ha ho) (by cases ho with|drop=>decide|fail _ _ _ _ _ _ _ _ _ _ he=>omega|done=>decide) a1 a2 b1 b2 b3 qi U l7 l8 l9 s'
theorem Pe (hT:W2 told)(hB:B≤900)(uJ:1≤ba)(U:FM N B ba mQ mk rs B0 gg F ε)(hN:ps.length=N)(hp:kJ ε ps)(qi:data.length≤1048576)(hD:D.data.length≤1048576∧D.w.length≤1048576∧∀x∈D.w,x.2.length≤1048576)
 (s:Sat h (cB a p q r .cH data aq::cq r p q ε.1::bh q p ε.2.1::aD p ε.2.2::roH 1 pv (dG ps)::qw wv dv D::S)):
  Call ⟨Tryz.prog,told⟩ 14 [.ptr a 0,pv,.agg [.int .i64 D.act,.int .i64 D.cO,wv,dv]] h fun v h'=>(∃(e:Int) (dB:List (List Nat)) (om:V) (aM:Nat) (ε':bA) (bG:List Nat) (bW:Nat),
   xE N D (aB ε) ps data aq e dB aM (aB ε') bG bW∧e≠9∧(ε'.2.2.dead=false∧ε'.2.2.aA<4294967296)∧EI N (B+2) (aB ε')∧dB.length=N∧kJ ε' dB∧bG.length≤1048576∧v=.bD [om,.int .u64 (aM:Int),.bool true,.int .i64 e] ∧
   Sat h' (cB a p q r .cH bG bW::cq r p q ε'.1::bh q p ε'.2.1::aD p ε'.2.2::roH 1 om (dG dB)::S)) ∨
   ∃(dB:List (List Nat)) (om:V) (ε':bA),vY N B ba mQ mk rs B0 gg F ε ps dB ε'∧v=.bD [om,.int .u64 0,.bool true,.int .i64 9]∧Sat h' (aD p ε'.2.2::roH 1 om (dG dB)::S):=by
 have uj:=U.ei
 have S8:=uj.many
 have Hi:=U.wait
 have gW:ε.2.1.base+ε.2.1.b.length≤B*1048600:=uj.el.size
 obtain⟨q1,q2⟩:(∀n∈ε.1.aC.map (·.1),0≤n∧n<(N:Int))∧ε.1.aC.length≤N:=uj.aC
 have FL:∀n∈ε.1.aC.map (·.1),(Lit.int .i64 n).wf=true:=fun n hn=>wf_i64 (q1 n hn).1 (by have:=(q1 n hn).2;omega)
 -- the deed's parts
 have s:=((s.ae [5]).dup (aF.qw _ _ _)).fR (B:=.cm dv D.data) (fun _ _ h=>h.2) |>.ae [1] |>.fR (B:=.xs fun cs:List V=>.an (j7 2 wv cs) (og cs D.w)) (fun _ _ h=>h.1)
 obtain⟨cs,s⟩:=fU.1 s
 have s:=(s.dup (aF.an (aF.j7 _ _ _) (aF.og _ _))).fR (B:=j7 2 wv cs) (fun _ _ h=>h.1) |>.ae [1] |>.fR (B:=og cs D.w) (fun _ _ h=>h.2)
 have s:Sat h (og cs D.w::j7 2 wv cs::.cm dv D.data::cB a p q r .cH data aq::cq r p q ε.1::bh q p ε.2.1::aD p ε.2.2::roH 1 pv (dG ps)::S):=s
 have tI:=s.aaV (j:=1) rfl
 have hdv:=(s.aL (k:=2) rfl (cI _ _)).cells
 have fM:(V.agg [.int .i64 D.act,.int .i64 D.cO,wv,dv]).cells.all storable=true:=by
  simp only[V.cells,jB,jC,tI.2.1,hdv.2];rfl
 refine Call.of_wp (hT.w.free _ rfl) Tryz.func14 rfl rfl (zg rfl (ay.cV s rfl rfl rfl (gP rfl fM) ?_))
 intro p5 h s
 have s:Sat h (pt p5 (.cells 4 [.int .i64 D.act,.int .i64 D.cO,wv,dv] false)::_):=s
 have s:=s.ae [0,3,3,3,3,3,2,1,0]
 have hq:Xy N B ba mQ mk rs B0 gg F a p q r D ε ps data aq S fun ex E' h'=>(match ex with|.exit _=>False|_=>True)∧∃v,resLE Tryz.prog E' h' [.tmp 6,.tmp 7,.tmp 8,.tmp 9]=some v∧((∃(e:Int) (dB:List (List Nat)) (om:V) (aM:Nat) (ε':bA) (bG:List Nat) (bW:Nat),
   xE N D (aB ε) ps data aq e dB aM (aB ε') bG bW∧e≠9∧(ε'.2.2.dead=false∧ε'.2.2.aA<4294967296)∧EI N (B+2) (aB ε')∧dB.length=N∧kJ ε' dB∧bG.length≤1048576∧v=.bD [om,.int .u64 (aM:Int),.bool true,.int .i64 e] ∧
   Sat h' (cB a p q r .cH bG bW::cq r p q ε'.1::bh q p ε'.2.1::aD p ε'.2.2::roH 1 om (dG dB)::S)) ∨
   ∃(dB:List (List Nat)) (om:V) (ε':bA),vY N B ba mQ mk rs B0 gg F ε ps dB ε'∧v=.bD [om,.int .u64 0,.bool true,.int .i64 9]∧Sat h' (aD p ε'.2.2::roH 1 om (dG dB)::S)) :=
  ⟨fun e dB om aM ε' bG bW E' h' h0 h1 a1 a2 h2 h3 h4 h5 l6 l7 l8 l9 s'=>⟨aa,_,Xu l6 l7 l8 l9,.inl ⟨e,dB,om,aM,ε',bG,bW,h0,h1,⟨a1,a2⟩,h2,h3,h4,h5,rfl,s'⟩⟩,
   fun dB om ε' E' h' h0 l6 l7 l8 l9 s'=>⟨aa,_,Xu l6 l7 l8 l9,.inr ⟨dB,om,ε',h0,rfl,s'⟩⟩⟩
 have F1:∀ {h:H} {A B C D E F G I J:aS},Sat h (A::B::C::D::E::F::G::I::J::S)→Sat h (A::B::S):=fun s=>(((((((s.del 8).del 7).del 6).del 5).del 4).del 3).del 2)
 have F2:∀ {h:H} {A B C D E F G I J:aS},Sat h (A::B::C::D::E::F::G::I::J::S)→Sat h (A::B::C::D::E::S):=fun s=>(((s.del 8).del 7).del 6).del 5
 refine zk 8 rfl (zY s 0 NA dy rfl (zv (WP.block (zg rfl ?_))))
 by_cases h3:D.act=3
 ·skip
  refine zB rfl bZ (by simp;exact h3) ?_
  refine zk 10 rfl (zY s 0 GP dy rfl ?_)
  by_cases hk:0<D.cO
  ·skip
   refine zB rfl dS (by simp;exact hk) ?_
   refine zk 4 rfl (zc rfl (Ed hT.w (s.ae [1])) ?_)
   rintro v h' ⟨rfl,rfl⟩
   refine zc rfl (uw hT.w (s.ae [3])) ?_
   rintro v h' ⟨rfl,rfl⟩
   exact zk 2 rfl (S9 hT.w hB uJ U hN hp qi hD.1 (by omega) h3 (.inr rfl) (((s.ae [0,0,0,0,0,1,0]).del 8).del 7) ⟨rfl,rfl,rfl,rfl,aa⟩ hq)
  ·skip
   refine zC rfl dS (by simp;omega) ?_
   exact zk 2 rfl (WP.skip (S9 hT.w (lo:=0) hB uJ U hN hp qi hD.1 (by decide) h3 (.inl rfl) (((s.ae [0,0,0,0,0,1,0]).del 8).del 7) ⟨rfl,rfl,rfl,rfl,aa⟩ hq))
 ·skip
  refine zC rfl bZ (by simp;exact h3) ?_
  refine zk 5 rfl ?_
  by_cases h4:D.act=4
  ·skip
   refine zB rfl bZ (by simp;exact h4) ?_
   refine zk 6 rfl (zc rfl (HJ hT.w (s.ae [1])) ?_)
   rintro v h' ⟨rfl,rfl⟩
   refine zc rfl (AU hT.w (s.ae [2,2,2]) U.ok.ok (by omega) (by omega) FL) ?_
   rintro v h ⟨rfl,s⟩
   have h2:Fk N ba mQ mk rs B0 gg F (writeAllF (az ε.1.aC) (ε.1,ε.2.1,ε.2.2)).1 (writeAllF (az ε.1.aC) (ε.1,ε.2.1,ε.2.2)).2 _:=U.all (by omega)
   generalize writeAllF (az ε.1.aC) (ε.1,ε.2.1,ε.2.2)=θ at h2 s ⊢
   obtain⟨_,w2,w3⟩:=uj.writeAll
   rcases h2 with⟨k9,kd⟩|⟨k0,ka,kf,kl⟩
   ·skip
    rw[k9]
    refine zk 6 rfl (zC rfl bZ (by decide) ?_)
    refine zk 2 rfl (zB rfl bZ (by decide) ?_)
    exact zk 7 rfl (WP.ret ⟨aa,_,rfl,.inr ⟨ps,pv,_,.old _ _ hN kd,rfl,F1 (s.ae [2,4])⟩⟩)
   ·skip
    rw[k0]
    refine zk 6 rfl (zB rfl bZ (by decide) ?_)
    exact zk 10 rfl (WP.ret ⟨aa,_,rfl,.inl ⟨0,ps,pv,0,_,data,aq,by rw[kl];exact .all h4,by decide,⟨ka,kf⟩,by rw[kl];exact w2.more (by omega),hN,hp.of fun m m0=>(congrArg (fun x=>pgA x m) kl).trans (w3 m),qi,rfl,(F2 (s.ae [4,0,0,0,1]))⟩⟩)
  ·skip
   refine zC rfl bZ (by simp;exact h4) ?_
   refine zk 5 rfl ?_
   by_cases h5:D.act=5
   ·skip
    refine zB rfl bZ (by simp;exact h5) ?_
    refine zk 6 rfl (zc rfl (HJ hT.w (s.ae [1])) ?_)
    rintro v h' ⟨rfl,rfl⟩
    refine zc rfl (Hx hT (s.ae [2,3]) U.ok.ok.dk (fun e he=>by rw[show ε.2.2.ai.length=N from uj.ec.dk.ai];exact uj.ec.dk.keys _ (lP he))) ?_
    rintro v h ⟨rfl,s⟩
    have h2:Fk N ba mQ mk rs B0 gg F (bx ε.1 ε.2.2).1 ((bx ε.1 ε.2.2).2.1,(ε.2.1,(bx ε.1 ε.2.2).2.2)) _:=U.sync (by omega)
    generalize bx ε.1 ε.2.2=θ at h2 s ⊢
    obtain⟨_,w2,w3⟩:=uj.sync
    rcases h2 with⟨k9,kd⟩|⟨k0,ka,kf,kl⟩
    ·skip
     rw[k9]
     refine zk 6 rfl (zC rfl bZ (by decide) ?_)
     refine zk 2 rfl (zB rfl bZ (by decide) ?_)
     exact zk 7 rfl (WP.ret ⟨aa,_,rfl,.inr ⟨ps,pv,_,.old _ _ hN kd,rfl,F1 (s.ae [1,4])⟩⟩)
    ·skip
     rw[k0]
     refine zk 6 rfl (zB rfl bZ (by decide) ?_)
     exact zk 10 rfl (WP.ret ⟨aa,_,rfl,.inl ⟨0,ps,pv,0,_,data,aq,by rw[kl];exact .sync h5,by decide,⟨ka,kf⟩,by rw[kl];exact w2.more (by omega),hN,hp.of fun m m0=>(congrArg (fun x=>pgA x m) kl).trans (w3 m m0),qi,rfl,(F2 (s.ae [3,0,2,0,1]))⟩⟩)
   ·skip
    refine zC rfl bZ (by simp;exact h5) ?_
    refine zk 5 rfl ?_
    by_cases h6:D.act=6
    ·skip
     refine zB rfl bZ (by simp;exact h6) ?_
     refine zk 6 rfl ?_
     obtain⟨kk1,kk2,_⟩:=U.cO (by omega)
     refine zc rfl (Q5 hT (s.ae [1,1,1,1]) U.ok.ok (by omega) (by omega) FL kk1 kk2) ?_
     rintro v h ⟨rfl,s⟩
     have h2:Fk N ba mQ mk rs B0 gg F (cU (ε.1,ε.2.1,ε.2.2)).1 (cU (ε.1,ε.2.1,ε.2.2)).2 _:=U.clean (by omega)
     generalize cU (ε.1,ε.2.1,ε.2.2)=θ at h2 s ⊢
     obtain⟨_,w2,w3⟩:=uj.clean
     rcases h2 with⟨k9,kd⟩|⟨k0,ka,kf,kl⟩
     ·skip
      rw[k9]
      refine zk 6 rfl (zC rfl bZ (by decide) ?_)
      refine zk 2 rfl (zB rfl bZ (by decide) ?_)
      exact zk 7 rfl (WP.ret ⟨aa,_,rfl,.inr ⟨ps,pv,_,.old _ _ hN kd,rfl,F1 (s.ae [3,4])⟩⟩)
     ·skip
      rw[k0]
      refine zk 6 rfl (zB rfl bZ (by decide) ?_)
      exact zk 10 rfl (WP.ret ⟨aa,_,rfl,.inl ⟨0,ps,pv,0,_,data,aq,by rw[kl];exact .clean h6,by decide,⟨ka,kf⟩,by rw[kl];exact w2.more (by omega),hN,hp.of fun m m0=>(congrArg (fun x=>pgA x m) kl).trans (w3 m m0),qi,rfl,(F2 (s.ae [0,0,0,0,1]))⟩⟩)
    ·skip
     refine zC rfl bZ (by simp;exact h6) ?_
     refine zk 5 rfl ?_
     by_cases h7:D.act=7
     ·skip
      refine zB rfl bZ (by simp;exact h7) ?_
      refine zk 7 rfl (zc rfl (Ed hT.w (s.ae [1])) ?_)
      rintro v h' ⟨rfl,rfl⟩
      refine zc rfl (nZ hT.w (s.ae [3]) (by omega)) ?_
      rintro v h' ⟨rfl,rfl⟩
      have ec:(ε.2.1.base:Int)+(ε.2.1.b.length:Int)=((ε.2.1.base+ε.2.1.b.length:Nat):Int):=by omega
      rw[ec]
      refine zc rfl (Oy hT.w (s.ae [1,2,2]) U.ok.ok.lg U.ok.ok.dk.aA) ?_
      rintro v h ⟨rfl,s⟩
      have h2:Fk N ba mQ mk rs B0 gg F (aK (ε.2.1,ε.2.2) (ε.2.1.base+ε.2.1.b.length)).1 (ε.1,(aK (ε.2.1,ε.2.2) (ε.2.1.base+ε.2.1.b.length)).2) _:=U.force (by omega) _
      generalize aK (ε.2.1,ε.2.2) (ε.2.1.base+ε.2.1.b.length)=θ at h2 s ⊢
      obtain⟨_,w2,w3⟩:=uj.force (n:=ε.2.1.base+ε.2.1.b.length)
      rcases h2 with⟨k9,kd⟩|⟨k0,ka,kf,kl⟩
      ·skip
       rw[k9]
       refine zk 6 rfl (zC rfl bZ (by decide) ?_)
       refine zk 2 rfl (zB rfl bZ (by decide) ?_)
       exact zk 7 rfl (WP.ret ⟨aa,_,rfl,.inr ⟨ps,pv,_,.old _ _ hN kd,rfl,F1 (s.ae [2,4])⟩⟩)
      ·skip
       rw[k0]
       refine zk 6 rfl (zB rfl bZ (by decide) ?_)
       exact zk 10 rfl (WP.ret ⟨aa,_,rfl,.inl ⟨0,ps,pv,0,_,data,aq,by rw[kl];exact .force h7,by decide,⟨ka,kf⟩,by rw[kl];exact w2.more (by omega),hN,hp.of fun m m0=>(congrArg (fun x=>pgA x m) kl).trans (w3 m),qi,rfl,(F2 (s.ae [0,3,0,0,1]))⟩⟩)
     ·skip
      refine zC rfl bZ (by simp;exact h7) ?_
      exact zk 3 rfl (WP.skip (YP hT.w hB U hN hp qi hD (by omega) (s.ae [1,1,1,1,1,0,1,1,0]) ⟨rfl,rfl,rfl,aa⟩ hq))
end
def Hk (N ba:Nat)(rs:List bt)(B0:Int→List Nat)(F:Nat)(all:List (List (List Nat)))(ew:List Nat): Prop :=
 ∀u v,rs=u++v→F≤szB u→∃(k:Nat) (x:List (List Nat)),(∀j a:Nat,ew[j]?=some a→a<ba+szB u→j≤k)∧all[k]?=some x∧x.length=N∧Sh N (dg u B0) x
structure Lw (N B f:Nat)(all:List (List (List Nat)))(ew:List Nat)(ps:List (List Nat))(data:List Nat)(aq:Nat)(ε:bA): Prop where
 ex:∃ba mk rs B0 g r1,1≤ba∧qz mk ba aq∧mk.length≤64∧FM N B ba aq mk rs B0 g ε.2.1.forced ε∧nm ba aq data rs r1 ε.2.1.forced g∧Hk N ba rs B0 ε.2.1.forced all ew
 len:all.length=ew.length
 pos:1≤ew.length
 KW:all[ew.length-1]?=some ps
 sh:kJ ε ps
 pl:ps.length=N
 lt:∀a∈ew,a<ε.2.1.base+ε.2.1.b.length
 fl:∃a,ew[f]?=some a∧a<ε.2.1.base+ε.2.1.forced
structure Iw (N f:Nat)(all:List (List (List Nat)))(δ:Dk): Prop where
 ex:∃ba aq mk rs B0 g F data r1,1≤ba∧qz mk ba aq∧mk.length≤64∧mh N ba aq mk rs B0 g F δ∧oh rs B0∧nm ba aq data rs r1 F g∧ba≤524300000∧aq≤1099511627776 ∧
  ∀u v,rs=u++v→F≤szB u→∃k x,f≤k∧all[k]?=some x∧x.length=N∧Sh N (dg u B0) x
 ok:δ.Ok
 wt:δ.waiting.length≤268435456
section
variable {aq:Nat} {rs:List bt} {all:List (List (List Nat))} {x:List (List Nat)} {r:bt}
theorem Hk.more (h:Hk N ba rs B0 F all ew)(I:F≤F'): Hk N ba rs B0 F' all ew:=fun u v hu J=>h u v hu (b_ I J)
theorem Hk.app (h:Hk N ba rs B0 F all ew)(hl:all.length=ew.length)(U:x.length=N)(hs:Sh N (dg (rs++[r]) B0) x)(hF:F≤F'): Hk N ba (rs++[r]) B0 F' (all++[x]) (ew++[ba+szB rs]):=by
 intro u v hu hf
 rcases nK v with rfl|⟨v',z,rfl⟩
 ·rw[cS] at hu
  subst hu
  refine⟨all.length,x,fun j a I _ => ?_,by simp,U,hs⟩
  have:=(List.getElem?_eq_some_iff.1 I).1
  rw[bT,Dg] at this
  omega
 ·rw[Dh,←cE] at hu
  obtain⟨hu,_⟩:=vj hu rfl
  obtain⟨k,y,h1,J,h3⟩:=h u v' hu (by omega)
  have hle:szB u≤szB rs:=by rw[hu];exact nG
  refine⟨k,y,fun j a I ha => ?_,by rw[oW (List.getElem?_eq_some_iff.1 J).1];exact J,h3⟩
  rw[List.getElem?_append] at I
  split at I
  ·exact h1 j a I ha
  ·have:(j-ew.length:Nat)=0:=by
    have:=(List.getElem?_eq_some_iff.1 I).1
    rw[Dg] at this;omega
   rw[this] at I
   have:ba+szB rs=a:=by simpa using I
   omega
theorem FM.BC (h:FM N B ba aq mk rs B0 g F ε): ε.2.1.base=ba∧ε.2.1.b.length=szB rs∧ε.2.1.forced≤szB rs:=by
 have U:ε.2.1.base=ba:=h.fs.lr.base
 have I:ε.2.1.b=logB ba rs:=h.fs.lr.b
 have J:=h.fs.le
 rw[I,eZ] at J
 exact⟨U,by rw[I,eZ],J⟩
theorem Lw.S_ (hb:1≤ba)(hm:qz mk ba aq)(rR:mk.length≤64)(hr:RS N ba aq mk rs B0 g (aB ε))(hi:EI N B (aB ε))(ha:ε.2.2.dead=false)(hf:ε.2.2.aA<4294967296)(hc:nm ba aq data rs r1 ε.2.1.forced g)(hk:Hk N ba rs B0 ε.2.1.forced all ew)
 (hl:all.length=ew.length)(I:1≤ew.length)(J:all[ew.length-1]?=some ps)(hs:kJ ε ps)(su:ps.length=N)(b8:∀a∈ew,a<ba+szB rs)(qd:∃a,ew[f]?=some a∧a<ba+ε.2.1.forced): Lw N B f all ew ps data aq ε:=by
 have U:=FM.of hr hi ha hf (aP _)
 obtain⟨e1,e2,e3⟩:=U.BC
 exact⟨⟨ba,mk,rs,B0,g,r1,hb,hm,rR,U,hc,hk⟩,hl,I,J,hs,su,by rw[e1,e2];exact b8,by rw[e1];exact qd⟩
theorem Lw.step (h:Lw N B f all ew ps data aq ε)(hB:B≤900)(hp:xE N D (aB ε) ps data aq e dB aM (aB ε') bG bW)(ha:ε'.2.2.dead=false)(hf:ε'.2.2.aA<4294967296)(hi:EI N (B+2) (aB ε'))(I:dB.length=N)(hs:kJ ε' dB):
  (aM=0∧Lw N (B+2) f all ew dB bG bW ε')∨(0<aM∧Lw N (B+2) f (all++[dB]) (ew++[aM]) dB bG bW ε'):=by
 obtain⟨ba,mk,rs,B0,g,r1,hb,hm,rR,C_,hc,hk⟩:=h.ex
 obtain⟨e1,e2,e3⟩:=C_.BC
 obtain⟨fa,J,qd⟩:=h.fl
 have U:=h.lt
 rw[e1,e2] at U
 rw[e1] at qd
 have xA:(aB ε).2.1.forced=ε.2.1.forced:=rfl
 have acA:(aB ε').2.1.forced=ε'.2.1.forced:=rfl
 rcases hp.rs3 C_.rsl C_.ei (by omega) hb with⟨rfl,rfl,rfl,rfl,hF,g',q,hg⟩|⟨rfl,rfl,rfl,hF,r0,g',q,hg⟩|⟨rfl,rfl,b,uL,S6,B1,oA,q,EP,hz,Bi⟩
 ·exact .inl ⟨rfl,Lw.S_ hb hm rR q hi ha hf (hc.more hg hF) (hk.more hF) h.len h.pos h.KW hs I U ⟨fa,J,by omega⟩⟩
 ·have hl8:=m6 r0
  have gW:szB (rs++[r0])=szB rs+r0.len:=by rw[eX];simp[szB]
  refine .inr ⟨by omega,Lw.S_ hb hm rR q hi ha hf (hc.app hg hF) (hk.app h.len I (Sh.of hi q.st hs) hF) (by simp[h.len]) (by simp) (by simp[←h.len]) hs I (fun a hq => ?_) ⟨fa,?_,by omega⟩⟩
  ·rcases List.mem_append.1 hq with hq|hq
   ·have:=U a hq;omega
   ·rw[List.mem_singleton.1 hq];omega
  ·rw[oW (List.getElem?_eq_some_iff.1 J).1];exact J
 ·have z1:(aB ε').2.1.base=b:=q.lr.base
  have z2:(aB ε').2.1.b.length=szB uL:=by rw[q.lr.b,eZ]
  have z3:(aB ε).2.1.base=ba:=e1
  have z4:(aB ε).2.1.b.length=szB rs:=e2
  rw[z1,z2,z3,z4] at Bi
  refine .inl ⟨rfl,Lw.S_ oA Iv (by rw[mA];decide) q hi ha hf EP (fun u v hu S1 => ?_) h.len h.pos h.KW hs I (fun a hq=>by have:=U a hq;omega) ⟨fa,J,by have:=U fa (bu J);omega⟩⟩
  have hv:v=[]:=by
   cases v with
   |nil=>rfl
   |cons r v =>
    have:=m6 r
    rw[hu,eX,szB] at hz;omega
  subst hv
  rw[cS] at hu
  subst hu
  exact⟨ew.length-1,dB,fun j a hj _=>by have:=(List.getElem?_eq_some_iff.1 hj).1;omega,h.KW,I,Sh.of hi q.st hs⟩
theorem Lw.at (h:Lw N B f all ew ps data aq ε)(I:ew[k]?=some a)(J:a<ε.2.1.base+ε.2.1.forced): Lw N B k all ew ps data aq ε :=
 ⟨h.ex,h.len,h.pos,h.KW,h.sh,h.pl,h.lt,⟨a,I,J⟩⟩
theorem Lw.size (h:Lw N B f all ew ps data aq ε): ε.2.1.base≤B*1048600∧aq≤1099511627776:=by
 obtain⟨ba,mk,rs,B0,g,r1,U,hm,J,I,hc,hk⟩:=h.ex
 have h1:ε.2.1.base+ε.2.1.b.length≤B*1048600:=I.ei.el.size
 have h2:ε.2.1.check≤1099511627776:=I.ok.ok.lg.check
 have h3:ε.2.1.check=aq:=I.fs.lr.check
 omega
theorem Lw.dda (h:Lw N B f all ew ps data aq ε)(hB:B≤450): Iw N f all ε.2.2:=by
 obtain⟨z1,z2⟩:=h.size
 obtain⟨ba,mk,rs,B0,g,r1,hb,hm,J,I,hc,hk⟩:=h.ex
 obtain⟨e1,e2,e3⟩:=I.BC
 obtain⟨fa,U,qd⟩:=h.fl
 have hw:=I.wait
 have Ip:ε.2.2.cW=none:=I.fs.lr.cW
 refine⟨⟨ba,aq,mk,rs,B0,g,ε.2.1.forced,data,r1,hb,hm,J,⟨jR,_,_,bO ε.2,none,kH.1 I.fs.ri,I.fs.lr,aP _,I.ei.ec.dk.ai,I.fs.len,⟨rfl,rfl,rfl,rfl,rfl,Ip⟩,fun w hw=>(by cases hw)⟩,I.gd,hc,by omega,z2,fun u v hu hf => ?_⟩,I.ok.ok.dk,by omega⟩
 obtain⟨k,x,q1,q2,q3⟩:=hk u v hu hf
 exact⟨k,x,q1 f fa U (by omega),q2,q3⟩
theorem Lw.abc (h:Lw N B f all ew ps data aq ε)(hB:B≤450)(hb:1≤ba)(hm:qz mk ba aq)(J:mk.length≤64)(U:FM N B ba aq mk rs B0 g ε.2.1.forced ε)(hc:nm ba aq data rs r1 ε.2.1.forced g)(hk:Hk N ba rs B0 ε.2.1.forced all ew)(I:vY N B ba aq mk rs B0 g ε.2.1.forced ε ps dB ε'):
  Iw N f (all++[dB]) ε'.2.2:=by
 obtain⟨z1,z2⟩:=h.size
 obtain⟨e1,e2,e3⟩:=U.BC
 obtain⟨fa,hfa,qd⟩:=h.fl
 have hex:∀u v,rs=u++v→ε.2.1.forced≤szB u→∃k x,f≤k∧(all++[dB])[k]?=some x∧x.length=N∧Sh N (dg u B0) x:=fun u v hu hf=>by
  obtain⟨k,x,q1,q2,q3⟩:=hk u v hu hf
  exact⟨k,x,q1 f fa hfa (by omega),by rw[oW (List.getElem?_eq_some_iff.1 q2).1];exact q2,q3⟩
 have hlf:f<all.length:=by rw[h.len];exact(List.getElem?_eq_some_iff.1 hfa).1
 cases I with
 |old dB ε' hl I=>exact⟨⟨ba,aq,mk,rs,B0,g,_,data,r1,hb,hm,J,I.S7,U.gd,hc,by omega,z2,hex⟩,I.ok,I.wt⟩
 |new r g' dB ε' hl I hg hr hs =>
  refine⟨⟨ba,aq,mk,rs++[r],B0,g',_,data,r1,hb,hm,J,I.S7,hg,hc.app hr (aP _),by omega,z2,fun u v hu hf => ?_⟩,I.ok,I.wt⟩
  rcases nK v with rfl|⟨v',z,rfl⟩
  ·rw[cS] at hu
   subst hu
   exact⟨all.length,dB,by omega,by simp,hl,hs⟩
  ·rw[Dh,←cE] at hu
   exact hex u v' (vj hu rfl).1 hf
 |ck rc ε' pq I hg =>
  refine⟨⟨ba,aq,mk,rs++[rc],B0,g,_,data,r1,hb,hm,J,I.S7,hg,hc.app (fun _ _ q=>.inl q) (aP _),by omega,z2,fun u v hu hf => ?_⟩,I.ok,I.wt⟩
  rcases nK v with rfl|⟨v',z,rfl⟩
  ·rw[cS] at hu
   subst hu
   have:dg (rs++[rc]) B0=dg rs B0:=by rw[kR];simp[dg,pq,iu]
   rw[this]
   exact hex rs [] (cS _).symm e3
  ·rw[Dh,←cE] at hu
   exact hex u v' (vj hu rfl).1 hf
 |cut b bW bG uL S6 B1 ε' oA I hg EP hz Ew =>
  refine⟨⟨b,bW,_,uL,B1,g,_,bG,S6,oA,Iv,by rw[mA];decide,I.S7,hg,EP,by omega,hz.2,fun u v hu hf => ?_⟩,I.ok,I.wt⟩
  have hv:v=[]:=by
   cases v with
   |nil=>rfl
   |cons r v =>
    have:=m6 r
    rw[hu,eX,szB] at hf;omega
  subst hv
  rw[cS] at hu
  subst hu
  refine⟨ew.length-1,ps,by rw[h.len] at hlf;omega,?_,h.pl,Sh.of U.ei Ew h.sh⟩
  rw[oW (by have:=h.len;have:=h.pos;omega)];exact h.KW
end
structure sA (N f:Nat)(all:List (List (List Nat)))(ba aq:Nat)(u r1 r2:List bt)(B0:Int→List Nat)(data:List Nat)(δ:Dk): Prop where
 op:OpD ba B0 u r1 r2 N δ
 b1:1≤ba
 bs:ba≤524300000
 ck:aq≤1099511627776
 mo:qz δ.mark ba aq
 ml:δ.mark.length≤64
 at_:xg ba aq u data r1 r2
 cp:nm ba aq data u r1 (szB u) (fun _=>none)
 ag:oy δ 65536
 now:δ.now=[]
 wt:δ.waiting=[]
 al:δ.dead=false
 tn:δ.cW=none
 fit:∃k x,f≤k∧all[k]?=some x∧x.length=N∧Sh N (dg u B0) x
theorem nm.pre {aq:Nat}{rs v:List bt}(h:nm ba aq data rs r1 F g)(hu:rs=u++v)(hF:F≤szB u): nm ba aq data u r1 (szB u) (fun _=>none):=by
 refine⟨fun n rec q=>(by cases q),?_⟩
 rcases h.pt with k|⟨I,rc,B,k1,k2,J,U,k5,k6,k7,k8⟩
 ·exact .inl k
 ·obtain⟨w,hw,_⟩:=qC (a:=(r1++I)++[rc]) (b:=B) (u:=u) (v:=v) (by rw[←hu,k1];simp) (by rw[eX];simp[szB];omega)
  refine .inr ⟨I,rc,w,by rw[hw];simp,k2,J,U,k5,k6,k7,?_⟩
  rw[hw];grind[eX,szB]
section
variable {aq:Nat} {all:List (List (List Nat))}
theorem Iw.cr (h:Iw N f all δ): δ.Cr:=by
 obtain⟨ba,aq,mk,rs,B0,g,F,data,r1,hb,hm,rR,J,kC,hc,z1,z2,hex⟩:=h.ex
 obtain⟨pd,C,d,x,tn,hvx,hl,hFx,hN,Ep,I,ht⟩:=J.ex
 have su:δ.ai.length=N:=by rw[I.ai];exact hN
 exact⟨h.ok,fun w U=>by rw[I.wait] at U;rw[I.ai];exact hl.wait w U,h.wt,fun w U=>by rw[I.cW] at U;obtain⟨k1,k2,_⟩:=ht w U;exact⟨by rw[su];exact k1,k2⟩,by have:=kO List.length I.lt;rw[hl.tail,cS,bT] at this;omega,by rw[I.mark,hl.mark];exact rR⟩
theorem Iw.C4 (h:Iw N f all δ)(c:List Nat): ∃ba aq u r1 r2 B0 data,sA N f all ba aq u r1 r2 B0 data (d_ δ c):=by
 have J:=h.cr
 obtain⟨ba,aq,mk,rs,B0,g,F,data,r1,hb,hm,rR,I,kC,hc,z1,z2,hex⟩:=h.ex
 obtain⟨u,v,r2,hu,hF,vU,ug⟩:=I.cr kC hc h.ok.aH
 obtain⟨pd,C,d,x,tn,hvx,hl,hFx,hN,Ep,hd,ht⟩:=I.ex
 have su:δ.ai.length=N:=by rw[hd.ai];exact hN
 have U:δ.mark=mk:=by rw[hd.mark];exact hl.mark
 obtain⟨t,t',kB,Il⟩:=ug.C4 c
 obtain⟨AE,ni⟩:=xh (c:=c) J
 have hu2:rs=(u++t)++t':=by rw[hu,kB,cE]
 have KR:F≤szB (u++t):=by rw[eX];omega
 exact⟨ba,aq,u++t,r1,r2++t,B0,data,⟨Il,rfl,by rw[ni];exact su,fun k hk=>(by cases hk),jz,fun n b hb=>(by cases hb)⟩,hb,z1,z2,by show qz δ.mark ba aq;rw[U];exact hm,by show δ.mark.length≤64;rw[U];exact rR,vU.more,hc.pre hu2 KR,AE,rfl,rfl,rfl,rfl,hex _ _ hu2 KR⟩
theorem sA.m9 (h:sA N f all ba aq u r1 r2 B0 data δ){k:Int}(I:k<4294967296): sA N f all ba aq u r1 r2 B0 data (δ.m9 k):=by
 have o:=h.op
 have c:=o.cr
 have q:=h.ag.ok
 exact⟨⟨⟨c.split,c.rs,c.log,c.cert,c.len,c.gd,c.kG,c.cW⟩,o.tail,o.ai,o.keys,o.nodup,o.nw⟩,h.b1,h.bs,h.ck,h.mo,h.ml,h.at_,h.cp,⟨⟨by show max (-1:Int) k<_;omega,q.len,q.room,q.now,q.ai,q.aH,q.many⟩,h.ag.wait,h.ag.now⟩,h.now,h.wt,h.al,h.tn,h.fit⟩
theorem sA.room (h:sA N f all ba aq u r1 r2 B0 data δ): ∃j,δ.log=logB ba u++j∧qy j∧szB u≤16777216∧ba+δ.log.length≤1099511627776:=by
 obtain⟨j,I,J⟩:=h.op.Rz
 have U:=h.ag.ok.len
 have h4:=h.bs
 rw[I,bT,eZ] at U ⊢
 exact⟨j,I.symm ▸ rfl,J,by omega,by omega⟩
theorem sA.Ii (h:sA N f all ba aq u r1 r2 B0 data δ)(I:δ.aA<0)(J:1≤n)(U:n≤1024): (cz δ ba u r1 r2).1=0∧EI N 600 (Pl.fresh n,(fX ba aq u,(cz δ ba u r1 r2).2))∧RS N ba aq δ.mark u B0 (fun _=>none) (Pl.fresh n,(fX ba aq u,(cz δ ba u r1 r2).2)):=by
 obtain⟨j,_,_,q,_⟩:=h.room
 have:=h.bs
 exact h.op.Ii h.now h.wt h.tn ⟨h.al,I⟩ h.ag.ok J U (by decide) (by decide) (by omega) h.ck
theorem JG (I:δ.dead=false): (δ.cJ n).1=9∨((δ.cJ n).1=(δ.live.cJ n).1∧(δ.cJ n).2.dead=false∧(δ.cJ n).2.live=(δ.live.cJ n).2):=by
 grind[Dk.cJ,Dk.oM,Dk.live,Dk.cQ,Dk.die]
theorem JH (I:δ.dead=false): δ.bQ.1=9∨(δ.bQ.1=δ.live.bQ.1∧δ.bQ.2.dead=false∧δ.bQ.2.live=δ.live.bQ.2):=by
 grind[Dk.bQ,Dk.live,Dk.cQ,Dk.die]
theorem ME (ha:δ.dead=false): (δ.cy n).1=9∨((δ.cy n).1=(δ.live.cy n).1∧(δ.cy n).2.dead=false∧(δ.cy n).2.live=(δ.live.cy n).2):=by
 unfold Dk.cy
 rcases JG (n:=n) ha with h|⟨h1,h2,I⟩
 ·rw[aE (by omega)];exact .inl h
 ·rw[←h1]
  have hc:(δ.live.cJ n).2.aH=(δ.cJ n).2.aH:=by rw[←I];rfl
  by_cases J:(δ.cJ n).1≠0
  ·rw[aE J,aE J];exact .inr ⟨h1,h2,I⟩
  ·rw[ah J,ah J,hc]
   by_cases U:(δ.cJ n).2.aH<n
   ·rw[aE U,aE U,←I];exact JH h2
   ·rw[ah U,ah U];exact .inr ⟨rfl,h2,I⟩
theorem JI : ∀ {l:List Int} {δ:Dk},δ.dead=false→(againW ρ l δ).1=9∨((againW ρ l δ).1=(againW ρ l δ.live).1∧(againW ρ l δ).2.dead=false∧(againW ρ l δ).2.live=(againW ρ l δ.live).2):=by
 intro l
 induction l with
 |nil=>intro δ I;exact .inr ⟨rfl,I,rfl⟩
 |cons k l J =>
  intro δ I
  rw[againW,againW]
  cases lookL k ρ.ai with
  |none=>exact J I
  |some b =>
   simp only
   have hp:δ.live.ai=δ.ai:=rfl
   rw[hp]
   split
   ·rcases A0 (n:=k) (b:=cP b (lI ρ k)) I with h|⟨U,h2,h3⟩
    ·rw[h,aE (by simp)];exact .inl rfl
    ·rw[←U,←h3]
     split
     ·exact .inr ⟨U,h2,h3⟩
     ·exact J h2
   ·exact J I
theorem MF (ha:δ.dead=false): (cz δ ba u r1 r2).1=9∨((cz δ ba u r1 r2).1=(cz δ.live ba u r1 r2).1∧(cz δ ba u r1 r2).2.dead=false∧(cz δ ba u r1 r2).2.live=(cz δ.live ba u r1 r2).2):=by
 unfold cz
 rcases ME (n:=szB u) ha with h|⟨h1,h2,h3⟩
 ·rw[aE (by omega)];exact .inl h
 ·rw[←h1]
  by_cases I:(δ.cy (szB u)).1≠0
  ·rw[aE I,aE I];exact .inr ⟨h1,h2,h3⟩
  ·rw[ah I,ah I,←h3]
   unfold kF
   generalize redoL (ba+szB r1) r2 fS.none=ρ
   rcases JI (ρ:=ρ) (l:=az ρ.ai) h2 with g|⟨g1,g2,g3⟩
   ·rw[aE (by omega)];exact .inl g
   ·rw[←g1]
    by_cases J:(againW ρ (az ρ.ai) (δ.cy (szB u)).2).1≠0
    ·rw[aE J,aE J];exact .inr ⟨g1,g2,g3⟩
    ·rw[ah J,ah J]
     by_cases U:ρ.ai=[]
     ·rw[aE U,aE U];exact .inr ⟨rfl,g2,g3⟩
     ·rw[ah U,ah U,←g3]
      rcases C8 g2 with q|q
      ·rw[q];exact .inl rfl
      ·exact .inr q
theorem JJ : ∀ {l:List Int} {δ:Dk},(againW ρ l δ).2.waiting.length≤δ.waiting.length+l.length:=by
 intro l
 induction l with
 |nil=>intro δ;exact aP _
 |cons k l I =>
  intro δ
  rw[againW]
  have hw:∀ {b:List Nat},(δ.a_ k b).2.waiting.length≤δ.waiting.length+1:=fun {b}=>by
   unfold Dk.a_
   split
   ·exact hO _
   ·split
    ·exact hO _
    ·split
     ·exact hO _
     ·show(δ.waiting++_).length≤_;simp
  rw[bI]
  cases lookL k ρ.ai with
  |none=>have:=I (δ:=δ);simp only;omega
  |some b =>
   simp only
   have J:=hw (b:=cP b (lI ρ k))
   split
   ·split
    ·omega
    ·have:=I (δ:=(δ.a_ k (cP b (lI ρ k))).2);omega
   ·have:=I (δ:=δ);omega
theorem sA.cr (h:sA N f all ba aq u r1 r2 B0 data δ): (cz δ ba u r1 r2).2.Cr:=by
 obtain⟨o1,_⟩:=h.op.cz h.now h.wt
 obtain⟨_,hw,ht⟩:=uK (ba:=ba) (u:=u) (r1:=r1) (r2:=r2) (R:=fun x=>x.ai.length=N∧(∀w∈x.waiting,w.1<N∧w.2.length=512)∧∀w,x.cW=some w→w.1<N∧w.2.length=512) (fun x n ⟨J,U,q3⟩=>by
   obtain⟨k1,_,k3⟩:=sR (δ:=x) (n:=n)
   exact⟨by rw[k3];exact J,by rw[k1];exact U,by rw[yP.1];exact q3⟩) (fun x k b ⟨J,U,q3⟩=>by
   unfold Dk.a_
   split
   ·exact⟨J,U,q3⟩
   ·split
    ·exact⟨J,U,q3⟩
    ·rename_i hv
     have hv:=Classical.not_not.1 hv
     have hk:k.toNat<N∧b.length=512:=⟨by omega,hv.2.2⟩
     split
     ·exact⟨J,U,fun w I=>by have I:=cA I;subst I;exact hk⟩
     ·refine⟨J,fun w I => ?_,q3⟩
      rcases List.mem_append.1 I with I|I
      ·exact U w I
      ·rw[List.mem_singleton.1 I];exact hk) (fun x ⟨J,U,q3⟩=>by
   unfold Dk.cM
   split
   ·exact⟨J,U,q3⟩
   ·split
    ·exact⟨J,U,q3⟩
    ·exact⟨by show(laidP x.now x.ai).length=N;rw[mB];exact J,fun w I=>(by cases I),q3⟩) (δ:=δ) ⟨h.op.ai,by rw[h.wt];exact fun w I=>(by cases I),by rw[h.tn];exact fun w I=>(by cases I)⟩
 have ke:=Ih (ba:=ba) (u:=u) (r1:=r1) (r2:=r2) h.ag.ok
 have H7:=yQ (ba:=ba) (u:=u) (r1:=r1) (r2:=r2) (δ:=δ)
 refine⟨ke,fun w I=>by rw[o1.ai];exact hw w I,?_,fun w I=>by rw[o1.ai];exact ht w I,by rw[o1.tail];exact ke.len,by rw[H7];exact h.ml⟩
 have qa:∀r∈r2,r.Ok:=fun r hr=>h.op.cr.rs r (by rw[cS,h.op.cr.split];exact List.mem_append.2 (.inr hr))
 have Rr:=(w_ (n:=ba+szB r1) vT qa).few
 have hkl:(az (redoL (ba+szB r1) r2 fS.none).ai).length≤65536:=by rw[xb];exact Rr
 have h0:=(sR (δ:=δ) (n:=szB u)).1
 rw[h.wt] at h0
 have h1:=JJ (ρ:=redoL (ba+szB r1) r2 fS.none) (l:=az (redoL (ba+szB r1) r2 fS.none).ai) (δ:=(δ.cy (szB u)).2)
 rw[h0] at h1
 have h1:_≤0+_:=h1
 unfold cz
 split
 ·rw[h0];decide
 ·unfold kF
  split
  ·omega
  ·split
   ·show(againW _ _ _).2.waiting.length≤_;omega
   ·unfold Dk.cM
    split
    ·show(againW _ _ _).2.waiting.length≤_;omega
    ·split
     ·show(againW _ _ _).2.waiting.length≤_;omega
     ·exact fZ _
theorem sA.again (h:sA N f all ba aq u r1 r2 B0 data δ)(c:List Nat): sA N f all ba aq u r1 r2 B0 data (d_ (cz δ ba u r1 r2).2 c):=by
 obtain⟨o1,_⟩:=h.op.cz h.now h.wt
 have U:=h.cr
 obtain⟨t,t',hv,I⟩:=o1.cr.C4 c
 obtain⟨rfl,rfl⟩:=List.append_eq_nil_iff.1 hv.symm
 rw[cS,cS] at I
 obtain⟨AE,ni⟩:=xh (c:=c) U
 have J:(d_ (cz δ ba u r1 r2).2 c).mark=δ.mark:=yQ
 exact⟨⟨I,rfl,by rw[ni];exact o1.ai,fun k hk=>(by cases hk),jz,fun n b hb=>(by cases hb)⟩,h.b1,h.bs,h.ck,by rw[J];exact h.mo,by rw[J];exact h.ml,h.at_,h.cp,AE,rfl,rfl,rfl,rfl,h.fit⟩
theorem sA.Ta (h:sA N f all ba aq u r1 r2 B0 data δ)(U:δ.aA = -1){k:Int}(h0:(cz (δ.m9 k) ba u r1 r2).1=0∨(cz (δ.m9 k) ba u r1 r2).1≠9): (cz (δ.m9 k) ba u r1 r2).1=0∧(cz (δ.m9 k) ba u r1 r2).2.m9 (-1)=(cz δ ba u r1 r2).2:=by
 have hl:(δ.m9 k).live=δ:=by
  show { δ with aA:=(-1:Int) }=δ
  rw[←U]
 rcases MF (ba:=ba) (u:=u) (r1:=r1) (r2:=r2) (δ:=δ.m9 k) h.al with q|⟨I,q2,J⟩
 ·omega
 ·rw[hl] at I J
  exact⟨I.trans (h.Ii (by omega) (n:=1) (by decide) (by decide)).1,J⟩
end
theorem Pf {w:List Nat}(h:EI N B ε)(I:kD ε n e b ε')(hn:n<N): nk e b w=decide (iS (pgA ε n)=w)∧EI N B ε'∧(∀m,pgA ε' m=pgA ε m)∧∀P:VP,iL N P→vw P ε→vw P ε':=by
 obtain⟨k1,k2,J,k4⟩:=I.ec h.ec h.ok.pins
 obtain⟨rfl,rfl⟩:=J (by omega) (by omega)
 refine⟨?_,h.rd I,k2,fun P U hv=>U.rd I h.ec hv⟩
 have hc:=h.ec.aq (n:=(n:Int)) (by omega) (by omega)
 rw[nk,show decide (dM (pgA ε n)≠4)=true from er (by rw[hc];decide)]
 simp
section
variable {told:dI} {p aq:Nat} {op:V}
theorem MG (hT:W told)(hX:Kh X 1 pv (dG ps))(hN:ps.length=N)(hN2:N≤65536)(hB:B≤2000): ∀(j i:Nat) (ε:bA) (h:H) (E:List (Nat×V)) (Q:Ex→List (Nat×V)→H→Prop),i+j=N→EI N B ε →
  Sat h (cB a p q r op data aq::cq r p q ε.1::bh q p ε.2.1::aD p ε.2.2::X::S)→Has E [(0,.ptr a 0),(1,pv),(5,.int .i64 (i:Int))] →
  (∀ε' E' h',EI N B ε'→((∀m,pgA ε' m=pgA ε m)∧∀P:VP,iL N P→vw P ε→vw P ε')→¬kJ ε ps→look E' 4=some (.bool false)→Sat h' (cB a p q r op data aq::cq r p q ε'.1::bh q p ε'.2.1::aD p ε'.2.2::X::S)→Q .ret E' h') →
  (∀ε' E' h',EI N B ε'→((∀m,pgA ε' m=pgA ε m)∧∀P:VP,iL N P→vw P ε→vw P ε')→(∀(n:Nat) w,i≤n→ps[n]?=some w→iS (pgA ε n)=w)→Sat h' (cB a p q r op data aq::cq r p q ε'.1::bh q p ε'.2.1::aD p ε'.2.2::X::S)→Q (.exit 0) E' h') →
  WP ⟨Tryz.prog,told⟩ 21 (.loop smL) E h Q:=by
 intro j
 induction j with
 |zero =>
  intro i ε h E Q hi I s hE hf hx
  refine WP.loop (WP.has hE (zK 5 rfl (zo rfl (aY rfl rfl rfl (Cs (n:=N) (s.yh (j:=4) rfl hX) (by rw[jb,hN,e_]) (by decide) oH)) ?_)))
  refine zC rfl bq (by simp<;>omega) ?_
  exact zk 2 rfl (WP.exit (hx ε _ _ I ⟨fun _=>rfl,fun _ _ U=>U⟩ (fun n w hn hw=>by have:=(List.getElem?_eq_some_iff.1 hw).1;omega) s))
 |succ j ih =>
  intro i ε h E Q hi I s hE hf hx
  have hw:ps[i]?=some (ps[i]'(by omega)):=bn _
  generalize (ps[i]'(by omega))=w at hw
  obtain⟨id,off,e1,e2⟩:=aav (P:=Tryz.prog) (i:=i) (s.yh (j:=4) rfl hX) (by rw[jb];omega) (by decide) oH Sm
  have e3:=e2 0 (.str w) 9 (by rw[e_,List.getElem?_take_of_lt (by decide),ve];exact Fc hw) Zy
  have Ij:=I.cg
  have Hi:=nD (ε:=ε)
  refine WP.loop (WP.has hE (zK 5 rfl (zo rfl (aY rfl rfl rfl (Cs (n:=N) (s.yh (j:=4) rfl hX) (by rw[jb,hN,e_]) (by decide) oH)) ?_)))
  refine zB rfl bq (by simp<;>omega) ?_
  refine zk 4 rfl (WP.block (zK 3 rfl (zo rfl (Lu rfl (mki_of yC rfl)) (zk 3 rfl (zo rfl (dD (r:=.ptr id off) rfl rfl e1) (zl rfl e3 (zc rfl (Uv (n:=(i:Int)) (w:=w) hT s I.ok (by omega)) ?_)))))))
  rintro v h ⟨e,b,ε',hr,rfl,s⟩
  obtain⟨r1,r2,r3,r4⟩:=Pf (w:=w) I hr (by omega)
  rw[r1]
  by_cases hb:iS (pgA ε i)=w
  ·skip
   rw[er hb]
   refine zh rfl (dQ rfl rfl) (rfl) (zv (zj rfl (WP.skip (zr rfl (zm rfl (zb rfl (by exact bP (aV (by omega) (by omega))) ?_))))))
   refine za rfl (zv ?_)
   refine ih (i+1) ε' _ _ Q (by omega) r2 s ⟨rfl,rfl,rfl,aa⟩ (fun J E' h' g1 g2 g3 g4 g5=>hf J E' h' g1 ⟨fun m=>by rw[g2.1,r3],fun P hP U=>g2.2 P hP (r4 P hP U)⟩ (fun q=>g3 fun n y hn=>by rw[r3];exact q n y hn) g4 g5) fun J E' h' g1 g2 g3 g4=>hx J E' h' g1 ⟨fun m=>by rw[g2.1,r3],fun P hP U=>g2.2 P hP (r4 P hP U)⟩ (fun n y hn hy => ?_) g4
   rcases Dl hn with rfl|b8
   ·rw[hw] at hy;rw[←cA hy];exact hb
   ·have:=g3 n y b8 hy
    rw[r3] at this;exact this
  ·skip
   rw[eW hb]
   exact zt rfl (dQ rfl rfl) (rfl) (zk 6 rfl (WP.ret (hf ε' _ _ r2 ⟨r3,r4⟩ (fun q=>hb (q i w hw)) rfl s)))
theorem BD (hT:W told)(hX:Kh X 1 pv (dG ps))(hN:ps.length=N)(I:N≤65536)(hB:B≤2000)(J:EI N B ε)(s:Sat h (cB a p q r op data aq::cq r p q ε.1::bh q p ε.2.1::aD p ε.2.2::X::S)):
  Call ⟨Tryz.prog,told⟩ 20 [.ptr a 0,pv] h fun v h'=>∃b ε',v=.bool b∧(b=true↔kJ ε ps)∧EI N B ε'∧((∀m,pgA ε' m=pgA ε m)∧∀P:VP,iL N P→vw P ε→vw P ε') ∧
   Sat h' (cB a p q r op data aq::cq r p q ε'.1::bh q p ε'.2.1::aD p ε'.2.2::X::S):=by
 refine Call.of_wp (hT.free _ rfl) Tryz.func20 rfl rfl (zK 9 rfl (WP.block ?_))
 refine MG hT hX hN I hB N 0 ε _ _ _ (by omega) J s ⟨rfl,rfl,rfl,aa⟩ (fun ε' E' h' U g2 g3 g4 s'=>⟨aa,_,ny g4,false,ε',rfl,by simp[g3],U,g2,s'⟩) (fun ε' E' h' U g2 g3 s' => ?_)
 have s:=s'
 exact WP.has (F:=[]) aa (zK 4 rfl (WP.ret ⟨aa,_,rfl,true,ε',rfl,⟨fun _ n w hw=>g3 n w (fZ _) hw,fun _=>rfl⟩,U,g2,s⟩))
end
structure W3 (told:dI): Prop where
 w:W2 told
 aw:∃g,told 11=some g∧∀h,g [] h=some (.bool true,h)
theorem US {m:List iT}{x:iT}(s:Sat h (jx cs m::S))(U:m[i]?=some x):
  ∃w d,(cs.drop (i*4)).take 4=[.int .i64 x.act,.int .i64 x.cO,w,d]∧Sat h (qw w d x::jx cs m::S):=by
 obtain⟨a,b,q1,q2,q3⟩:=s.at (k:=0) rfl
 obtain⟨u,v,e1,e2⟩:=CZ q3 U
 refine⟨u,v,e1,(s.dup (aF.jx _ _)).fR (B:=qw u v x) fun a b h => ?_⟩
 obtain⟨u',v',I,J⟩:=CZ h U
 rw[e1] at I
 injection I with _ I
 injection I with _ I
 injection I with hu I
 injection I with hv _
 subst hu
 subst hv
 exact J
theorem yS {m:List iT}(s:Sat h S)(I:getA S k=some (jx cs m)): cs.length=m.length*4:=by
 obtain⟨a,b,U,q2,J⟩:=s.at I
 exact Ml J
section
variable {told:dI} {p g aq:Nat} {op v x:V}
theorem RF (I:W3 told)(s:Sat h S): Call ⟨Tryz.prog,told⟩ 11 [] h fun v h'=>v=.bool true∧h'=h:=by
 obtain⟨g,J,U⟩:=I.aw
 exact⟨_,_,ij.told J Tryz.func11 rfl (U h),rfl,rfl⟩
end
structure W4 (told:dI): Prop where
 w:W3 told
 pr:told 191=some (mP Tryz.prog 191 CX)
theorem W4.w5 {told:dI}(h:W4 told): W5 told:=⟨h.w.w,h.pr⟩
section
variable {v:V} {xs:List (List (List Nat))} {x:List (List Nat)}
def Da (v:V)(x:List (List Nat)): aS:=roH 1 v (dG x)
theorem aF.Da (v:V)(x:List (List Nat)): aF (Am.Da v x):=aF.roH _ _ _
abbrev ud (vs:List V)(xs:List (List (List Nat))): aS:=each Da vs xs
theorem UT (s:Sat h (ud vs xs::roH 1 v (dG x)::S)): Sat h (ud (vs++[v]) (xs++[x])::S) :=
 s.two (aF.each aF.Da _ _) (aF.Da _ _) fun _ _ a b=>Qk a ⟨b,aa⟩
theorem KX (s:Sat h S)(I:getA S j=some (ud vs xs)): vs.length=xs.length:=by
 obtain⟨a,b,U,q2,J⟩:=s.at I
 exact oR J
def rz (l:List Nat): List V:=l.map fun(n:Nat)=>V.int .u64 (n:Int)
theorem BE (l:List Nat): (rz l).length=l.length:=by simp[rz]
theorem RG (h:l[i]?=some a): (rz l)[i]?=some (.int .u64 (a:Int)):=by simp[rz,h]
theorem RH : rz (l++[a])=rz l++[.int .u64 (a:Int)]:=by simp[rz]
theorem Pg : ∃i,Tryz.prog.info? 32=some i∧i.size=1∧i.bytes=8 :=
 ⟨_,(show Tryz.prog.info? 32=some ((Tryz.prog.info? 32).getD default) by kernel_rfl),by kernel_rfl,by kernel_rfl⟩
theorem Ph : ∃i,Tryz.prog.info? 30=some i∧i.size=1∧i.bytes≤4096 :=
 ⟨_,(show Tryz.prog.info? 30=some ((Tryz.prog.info? 30).getD default) by kernel_rfl),by kernel_rfl,of_decide_eq_true (by kernel_rfl)⟩
theorem Iy (s:Sat h (.arr 1 av vs::ud vs xs::roH 1 pv (dG x)::S))(hl:vs.length≤1048576):
  ∃bv J w U,buildSliceV Tryz.prog h 31 1 [(0,pv)]=some (bv,J)∧appendV Tryz.prog J #[31,31] av bv=some (w,U)∧Sat U (.arr 1 w (vs++[pv])::ud (vs++[pv]) (xs++[x])::S):=by
 have I:pv.cells=[pv]∧storable pv=true:=by
  rcases (s.yh (j:=2) rfl (rO 1 pv (dG x))).2 with⟨rfl,_⟩|⟨_,_,_,_,_,rfl,_⟩<;>exact⟨rfl,rfl⟩
 obtain⟨i1,kI,jd,qj⟩:=Ph
 obtain⟨bv,J,e1,s1⟩:=kr (P:=Tryz.prog) (k:=1) (x:=pv) s qD Qb DR rfl (by decide) (by decide) (by rw[I.1];rfl) (by rw[I.1];simp[I.2])
 rw[I.1] at s1
 obtain⟨w,U,e2,s2⟩:=iN (s1.ae [1,0]) qD kI Qb jd qj rfl (by decide) (by simp;omega)
 refine⟨bv,J,w,U,e1,e2,?_⟩
 exact(UT ((s2.del 1).ae [1,1,0])).ae [1]
theorem Pj (s:Sat h (.arr 1 tv (rz l)::S))(hl:l.length≤1048576):
  ∃bv I w J,buildSliceV Tryz.prog h 33 1 [(0,.int .u64 (a:Int))]=some (bv,I)∧appendV Tryz.prog I #[33,33] tv bv=some (w,J)∧Sat J (.arr 1 w (rz (l++[a]))::S):=by
 obtain⟨i1,U,jd,qj⟩:=Pg
 obtain⟨bv,I,e1,s1⟩:=kr (P:=Tryz.prog) (k:=1) (x:=.int .u64 (a:Int)) s vX GO ot rfl (by decide) (by decide) rfl rfl
 obtain⟨w,J,e2,s2⟩:=iN (s1.ae [1,0]) vX U GO jd (by omega) rfl (by decide) (by rw[BE];simp[V.cells];omega)
 rw[RH]
 exact⟨bv,I,w,J,e1,e2,s2.del 1⟩
end
theorem BF {k:Int}(hm:m<65536): ∃r:Nat,r≤m∧∀ {P:Program} {h:H} {t:TypeId} {x y:Operand},binV P h .and t x y (.int .i64 k) (.int .i64 (m:Int))=some (.int .i64 (r:Int)) :=
 ⟨Nat.land ((k%(2^(IntKind.i64).bits:Int)).toNat) m,zE,fun {P h t x y}=>BB hm⟩
theorem vY.len {aq:Nat}{rs:List bt}(I:vY N B ba aq mk rs B0 g F ε ps dB ε')(h:ps.length=N): dB.length=N:=by
 cases I<;>assumption
theorem Tb {x y:Operand}{b:Nat}: binV P h .lss t x y (.int .u64 (a:Int)) (.int .u64 (b:Int))=some (.bool (decide (a<b))):=by
 rw[bq];simp
theorem Hk.fresh (J:n≤65536)(hm:m≤16777216)(U:1≤f)(I:f≤1024): Hk n 1 [] (fun _=>List.replicate 512 0) 0 [List.replicate n []] [0]:=fun u v hu _=>by
 obtain⟨rfl,_⟩:=List.append_eq_nil_iff.1 hu.symm
 exact⟨0,List.replicate n [],fun j a hj _=>by have:=(List.getElem?_eq_some_iff.1 hj).1;simp at this;omega,rfl,gM,Sh.of (EI.fresh J hm U I) (RS.fresh (n:=n) (m:=m) (f:=f)).st kJ.fresh⟩
theorem Lw.fresh {k:Int}(hk:k<4294967296)(J:n≤65536)(hm:m≤16777216)(U:1≤f)(I:f≤1024):
  Lw n 1 0 [List.replicate n []] [0] (List.replicate n []) [] 0 ((fresh n m f).1,((fresh n m f).2.1,(fresh n m f).2.2.m9 k)) :=
 Lw.S_ (aP 1) (.inl ⟨rfl,rfl,rfl⟩) (by decide) (RS.fresh (n:=n) (m:=m) (f:=f)) (EI.fresh J hm U I) rfl (by show max (-1:Int) k<_;omega) ⟨fun n rec q=>(by cases q),.inl ⟨rfl,rfl,rfl⟩⟩ (Hk.fresh J hm U I) rfl (aP _) rfl (kJ.fresh (n:=n) (m:=m) (f:=f)) gM (fun a ha=>by rw[List.mem_singleton.1 ha];simp[szB]) ⟨0,rfl,by show 0<1+0;decide⟩
section
variable {told:dI} {p:Nat} {cv bv y4:V} {xs:List (List (List Nat))} {ch la:List Nat}
noncomputable def dyI : Code:=cC [1,1,1,1,1,1,1,1,1,0,1,0,0,1,0,0,1,1,1,1,0,1,0,0] ((Tryz.f3.body).getD .skip)
theorem RJ (hT:W told)(hB:B≤900){aq:Nat}(hn:ew.length≤1048576): ∀(d k f:Nat) (E:List (Nat×V)) (Q:Ex→List (Nat×V)→H→Prop),k+d=ew.length→Lw N B f xs ew ps data aq ε →
  Sat h (.arr 1 tv (rz ew)::cB a p q r .cH data aq::bh q p ε.2.1::S)→Has E [(1,lv),(3,cv),(4,y4),(5,bv),(13,.ptr p 0),(14,.ptr a 0),(15,av),(16,tv),(17,.int .i64 (f:Int)),(18,.int .i64 n0),(23,.int .i64 (k:Int))] →
  (∀f' E',Lw N B f' xs ew ps data aq ε→Has E' [(1,lv),(3,cv),(4,y4),(5,bv),(13,.ptr p 0),(14,.ptr a 0),(15,av),(16,tv),(17,.int .i64 (f':Int)),(18,.int .i64 n0)]→Q (.exit 2) E' h) →
  WP ⟨Tryz.prog,told⟩ 184 (.loop dyI) E h Q:=by
 intro d
 induction d with
 |zero =>
  intro k f E Q hd U s hE hq
  refine WP.loop (WP.has hE (zK 5 rfl (zo rfl (aY rfl rfl rfl (s.iG (n:=ew.length) (j:=0) rfl (by rw[BE,e_]) (by decide) vX)) ?_)))
  refine zC rfl bq (by simp;omega) ?_
  exact zk 2 rfl (WP.exit (hq f _ U ⟨rfl,rfl,rfl,rfl,rfl,rfl,rfl,rfl,rfl,rfl,aa⟩))
 |succ d ih =>
  intro k f E Q hd U s hE hq
  obtain⟨x,hx⟩:∃x,ew[k]?=some x:=⟨_,bn (by omega)⟩
  obtain⟨id,off,e1,I⟩:=iX (P:=Tryz.prog) s (k:=0) (i:=k) rfl (RG hx) vX ot
  obtain⟨ba,mk,rs,B0,g,r1,hb,hm,rR,C_,hc,hk⟩:=U.ex
  have htb:=(s.jW (j:=0) rfl).2.2
  obtain⟨z1,z2,z3⟩:=C_.BC
  have gW:ε.2.1.base+ε.2.1.b.length≤B*1048600:=C_.ei.el.size
  refine WP.loop (WP.has hE (zK 5 rfl (zo rfl (aY rfl rfl rfl (s.iG (n:=ew.length) (j:=0) rfl (by rw[BE,e_]) (by decide) vX)) ?_)))
  refine zB rfl bq (by simp;omega) ?_
  refine zk 4 rfl (WP.block (zw (WP.drawn [some (0,3),some (0,3),some (0,3),some (0,3),af,af,af,af] rfl (by kernel_rfl) (by kernel_rfl) ?_)))
  refine zM rfl (zM rfl (zO rfl (dD (r:=.ptr id off) rfl rfl e1) (zL rfl (I _ fA) (zM rfl (au.any rfl rfl rfl rfl (OpR.call rfl rfl rfl rfl (Ed hT (s.ae [1]))) ?_)))))
  rintro v h' ⟨rfl,rfl⟩
  refine au.any rfl rfl rfl rfl (OpR.call rfl rfl rfl rfl (qn hT (s.ae [2]) (by omega) (by omega))) ?_
  rintro v h' ⟨rfl,rfl⟩
  rw[show(ε.2.1.base:Int)+(ε.2.1.forced:Int)=((ε.2.1.base+ε.2.1.forced:Nat):Int) by omega]
  by_cases J:x<ε.2.1.base+ε.2.1.forced
  ·skip
   refine au.oc rfl rfl rfl rfl (aJ rfl rfl Tb) (decide_eq_true J) ?_
   refine au.nil ⟨⟨fun _ _=>.inr ⟨rfl,⟨_,bj rfl⟩,htb⟩,fun _ _=>.inr ⟨rfl,⟨_,bj rfl⟩,aU _ rfl⟩,fun _ _=>.inr ⟨rfl,⟨_,dD (r:=.ptr id off) rfl rfl e1⟩,aU _ rfl⟩,rN (.inr ⟨rfl,⟨_,aT rfl (I _ fA)⟩,aU _ rfl⟩) (.inr ⟨rfl,⟨_,aT rfl (I _ fA)⟩,aU _ rfl⟩) (.inr ⟨rfl,⟨_,aT rfl (I _ fA)⟩,aU _ rfl⟩),aa,aa,aa,aa,aa⟩,?_⟩
   refine zi rfl (zr rfl (zk 2 rfl (zv (zr rfl (zm rfl (zb rfl (by exact bP (aV (by omega) (by omega))) ?_))))))
   refine za rfl (zv ?_)
   exact ih (k+1) k _ Q (by omega) (U.at hx J) s ⟨rfl,rfl,rfl,rfl,rfl,rfl,rfl,rfl,rfl,rfl,rfl,aa⟩ hq
  ·skip
   refine au.mN rfl rfl rfl rfl (aJ rfl rfl Tb) (decide_eq_false J) ?_
   refine au.nil ⟨⟨fun _ _=>.inr ⟨rfl,⟨_,bj rfl⟩,htb⟩,fun _ _=>.inr ⟨rfl,⟨_,bj rfl⟩,aU _ rfl⟩,fun _ _=>.inr ⟨rfl,⟨_,dD (r:=.ptr id off) rfl rfl e1⟩,aU _ rfl⟩,rN (.inr ⟨rfl,⟨_,aT rfl (I _ fA)⟩,aU _ rfl⟩) (.inr ⟨rfl,⟨_,aT rfl (I _ fA)⟩,aU _ rfl⟩) (.inr ⟨rfl,⟨_,aT rfl (I _ fA)⟩,aU _ rfl⟩),aa,aa,aa,aa,aa⟩,?_⟩
   refine zj rfl (WP.skip (zr rfl (zm rfl (zb rfl (by exact bP (aV (by omega) (by omega))) ?_))))
   refine za rfl (zv ?_)
   exact ih (k+1) f _ Q (by omega) U s ⟨rfl,rfl,rfl,rfl,rfl,rfl,rfl,rfl,rfl,rfl,rfl,aa⟩ hq
noncomputable def dyT : Code:=cC [1,1,1,1,1,1,1,1,1,0,1,0,0,1,0,0,1,1,1] ((Tryz.f3.body).getD .skip)
theorem KY (hT:W told){aq:Nat}(he:e≠9)(I:ε.2.2.dead=false)(hB:B≤900)(hn:ew.length≤1048576)(hl:Lw N B f xs ew ps data aq ε)
 (s:Sat h (.arr 1 tv (rz ew)::cB a p q r .cH data aq::bh q p ε.2.1::aD p ε.2.2::S))
 (hE:Has E [(1,lv),(3,cv),(4,y4),(5,bv),(13,.ptr p 0),(14,.ptr a 0),(15,av),(16,tv),(17,.int .i64 (f:Int)),(18,.int .i64 n0),(22,.int .i64 e)])
 (hq:∀f' E',Lw N B f' xs ew ps data aq ε→Has E' [(1,lv),(3,cv),(4,y4),(5,bv),(13,.ptr p 0),(14,.ptr a 0),(15,av),(16,tv),(17,.int .i64 (f':Int)),(18,.int .i64 n0)]→Q .normal E' h): WP ⟨Tryz.prog,told⟩ 184 dyT E h Q:=by
 have qd:f≤ew.length:=by obtain⟨x,hx,_⟩:=hl.fl;have:=(List.getElem?_eq_some_iff.1 hx).1;omega
 refine WP.has hE (zK 4 rfl (zC rfl bZ (by simp;exact he) ?_))
 refine zk 9 rfl (WP.block (RJ hT hB hn (ew.length-f) f f _ _ (by omega) hl s ⟨rfl,rfl,rfl,rfl,rfl,rfl,rfl,rfl,rfl,rfl,rfl,aa⟩ fun f' E' J U => ?_))
 refine WP.has U (zK 3 rfl (zc rfl (tO hT (s.ae [3])) ?_))
 rintro v h' ⟨rfl,rfl⟩
 rw[I]
 refine zv (zj rfl (WP.skip ?_))
 exact hq f' _ J ⟨rfl,rfl,rfl,rfl,rfl,rfl,rfl,rfl,rfl,rfl,aa⟩
noncomputable def dyR : Code:=cC [1,1,1,1,1,1,1,1,1,0,1,0,0] ((Tryz.f3.body).getD .skip)
theorem RK (hT:W2 told)(hL:L.length≤200)(hD:∀D∈L,D.data.length≤1048576∧D.w.length≤1048576∧∀x∈D.w,x.2.length≤1048576): ∀(j i f:Nat) (ε:bA) (ps:List (List Nat)) (av tv:V) (vs:List V) (xs:List (List (List Nat))) (ew:List Nat) (data:List Nat) (aq:Nat) (h:H) (E:List (Nat×V)) (Q:Ex→List (Nat×V)→H→Prop),i+j=L.length →
  Lw 12 (1+2*i) f xs ew ps data aq ε→ew.length≤i+1→(∀x∈xs,x.length=12)→data.length≤1048576 →
  Sat h (cB a p q r .cH data aq::cq r p q ε.1::bh q p ε.2.1::aD p ε.2.2::.arr 1 av vs::ud vs xs::.arr 1 tv (rz ew)::j7 4 lv cs::jx cs L::S) →
  Has E [(1,lv),(3,cv),(4,y4),(5,bv),(13,.ptr p 0),(14,.ptr a 0),(15,av),(16,tv),(17,.int .i64 (f:Int)),(18,.int .i64 (i:Int))] →
  (∀f' J vs' CK δ E' h',Iw 12 f' J δ→f'<J.length→J.length≤202→(∀x∈J,x.length=12)→Has E' [(3,cv),(4,y4),(5,bv),(13,.ptr p 0),(15,CK),(17,.int .i64 (f':Int))] →
   Sat h' (aD p δ::.arr 1 CK vs'::ud vs' J::S)→Q (.exit 0) E' h') →
  WP ⟨Tryz.prog,told⟩ 184 (.loop dyR) E h Q:=by
 have hW:=hT.w
 intro j
 induction j with
 |zero =>
  intro i f ε ps av tv vs xs ew data aq h E Q hi I Kw U qi s hE hq
  have hlen:=yS s (k:=8) rfl
  have H6:=I.len
  have qd:f<xs.length:=by obtain⟨x,hx,_⟩:=I.fl;have:=(List.getElem?_eq_some_iff.1 hx).1;omega
  refine WP.loop (WP.has hE (zK 5 rfl (zo rfl (aY rfl rfl rfl (s.yN (n:=L.length) (j:=7) rfl hlen (by decide) yR)) ?_)))
  refine zC rfl bq (by simp;omega) ?_
  exact zk 2 rfl (WP.exit (hq f xs vs av _ _ _ (I.dda (by omega)) qd (by omega) U ⟨rfl,rfl,rfl,rfl,rfl,rfl,aa⟩ ((((((s.del 8).del 7).del 6).ae [3,3,3]).del 5).del 4 |>.del 3)))
 |succ j ih =>
  intro i f ε ps av tv vs xs ew data aq h E Q hi I Kw U qi s hE hq
  have hlen:=yS s (k:=8) rfl
  have H6:=I.len
  have W7:=KX s (j:=5) rfl
  have acB:=I.pos
  have Fo:L[i]?=some (L[i]'(by omega)):=bn _
  generalize (L[i]'(by omega))=D at Fo
  have hDi:=hD D (bu Fo)
  obtain⟨wv,dv,c1,s⟩:=US (s.ae [8]) Fo
  dsimp only[aQ,bringA] at s
  obtain⟨pv,AP,s⟩:=Ak aF.Da (s.ae [7]) I.KW
  dsimp only[aQ,bringA] at s
  have s:Sat h (roH 1 pv (dG ps)::_):=s
  have s:=s.ae [4,4,4,4,0,1,2,0,1,1,0]
  dsimp only[bringA,getA,aQ] at s
  obtain⟨ba,mk,rs,B0,g,r1,hb,hm,rR,C_,hc,hk⟩:=I.ex
  obtain⟨id,off,g1,g2,g3⟩:=s.W8 (P:=Tryz.prog) (i:=i) (j:=9) rfl (by omega) (by decide) yR aat aau
  rw[c1] at g2 g3
  obtain⟨nh,RE,e1,e2⟩:=iX (P:=Tryz.prog) s (k:=6) (i:=ew.length-1) rfl AP qD DR
  refine WP.loop (WP.has hE (zK 5 rfl (zo rfl (aY rfl rfl rfl (s.yN (n:=L.length) (j:=9) rfl hlen (by decide) yR)) ?_)))
  refine zB rfl bq (by simp;omega) ?_
  refine zk 4 rfl (WP.block (zw (WP.drawn [af,af,af,af,af,af,af,af,af,af,af,af,af,af,af,af,af,af,af,af,af] rfl (by kernel_rfl) (by kernel_rfl) ?_)))
  refine zM rfl (zM rfl (zM rfl (zO rfl (aY rfl rfl rfl (s.iG (n:=ew.length) (j:=6) rfl (by omega) (by decide) qD)) ?_)))
  refine zO rfl (aJ (r:=.int .i64 ((ew.length-1:Nat):Int)) rfl rfl (by rw[show((ew.length-1:Nat):Int)=(ew.length:Int)-1 by omega];exact jV (aV (by omega) (by omega)))) ?_
  refine zO rfl (dD (r:=.ptr nh RE) rfl rfl e1) (zL rfl (e2 _ LF) (zM rfl (zM rfl (zO rfl (dD (r:=.ptr id off) rfl rfl g1) (zL rfl g2 (au.any rfl rfl rfl rfl (OpR.call rfl rfl rfl rfl (Pe (ε:=ε) (ps:=ps) hT (B:=1+2*i) (by omega) hb C_ I.pl I.sh qi hDi s)) ?_))))))
  rintro v h (⟨e,dB,om,aM,ε',bG,bW,h0,he,⟨i1,i2⟩,i3,i4,i5,i6,rfl,s⟩|⟨dB,om,ε',h0,rfl,s⟩)
  ·have HK:=I.step (by omega) h0 i1 i2 i3 i4 i5
   refine zM rfl (zO rfl (bN rfl rfl) (zO rfl (bN rfl rfl) (zO rfl (bN rfl rfl) (zO rfl (bN rfl rfl) (zA rfl (zA rfl (zA rfl (zA rfl ?_))))))))
   refine au.nil ⟨⟨aa,aa,aa,aa,aa,aa,aa,aa,aa,aa,aa,aa,aa,aa,aa,aa,aa,aa,aa,aa,aa,aa⟩,?_⟩
   refine zK 4 rfl (zh rfl (dQ rfl rfl) (rfl) ?_)
   rcases HK with⟨rfl,i_⟩|⟨hls,i_⟩
   ·skip
    refine zk 7 rfl (zC rfl dS (by simp) ?_)
    have s:=(s.ae [7,0,1,1,0,1,1,1,1]).del 9
    dsimp only[bringA,getA,aQ] at s
    refine zk 3 rfl (KY hW he i1 (by omega) (by omega) i_ s ⟨rfl,rfl,rfl,rfl,rfl,rfl,rfl,rfl,rfl,rfl,rfl,aa⟩ fun f' E' SW fW => ?_)
    refine WP.has fW (zK 2 rfl (zb rfl (by exact bP (aV (by omega) (by omega))) ?_))
    refine za rfl (zv ?_)
    exact ih (i+1) f' ε' dB _ _ _ _ _ _ _ _ _ Q (by omega) SW (by omega) U i6 (s.ae [1,3,1,1,1,1,0,0,0]) ⟨rfl,rfl,rfl,rfl,rfl,rfl,rfl,rfl,rfl,rfl,aa⟩ hq
   ·skip
    refine zk 7 rfl (zB rfl dS (by simp;omega) ?_)
    obtain⟨XA,h1,w,h2,e3,e4,s2⟩:=Iy (s.ae [5,5,4]) (by omega)
    refine zk 6 rfl (ay.any rfl rfl rfl (OpR.of (R:=fun v h'=>v=XA∧h'=h1) (mE rfl e3) ⟨rfl,rfl⟩) ?_)
    rintro v h' ⟨rfl,rfl⟩
    refine ay.any rfl rfl rfl (OpR.of (R:=fun v h'=>v=w∧h'=h2) (mD rfl rfl e4) ⟨rfl,rfl⟩) ?_
    rintro w h2 ⟨rfl,rfl⟩
    have s:=s2
    dsimp only[aQ,bringA] at s
    obtain⟨bv2,h3,w2,h4,e5,e6,s2⟩:=Pj (a:=aM) (s.ae [6]) (by omega)
    refine zk 5 rfl (ay.any rfl rfl rfl (OpR.of (R:=fun v h'=>v=bv2∧h'=h3) (mE rfl e5) ⟨rfl,rfl⟩) ?_)
    rintro v h' ⟨rfl,rfl⟩
    refine ay.any rfl rfl rfl (OpR.of (R:=fun v h'=>v=w2∧h'=h4) (mD rfl rfl e6) ⟨rfl,rfl⟩) ?_
    rintro w2 h4 ⟨rfl,rfl⟩
    have s:=s2
    dsimp only[aQ,bringA] at s
    have s:=s.ae [0,2,3,3,2,0,0,0,0]
    dsimp only[bringA,getA,aQ] at s
    refine zk 2 rfl (KY hW he i1 (by omega) (by simp;omega) i_ s ⟨rfl,rfl,rfl,rfl,rfl,rfl,rfl,rfl,rfl,rfl,rfl,aa⟩ fun f' E' SW fW => ?_)
    refine WP.has fW (zK 2 rfl (zb rfl (by exact bP (aV (by omega) (by omega))) ?_))
    refine za rfl (zv ?_)
    exact ih (i+1) f' ε' dB _ _ _ _ _ _ _ _ _ Q (by omega) SW (by simp;omega) (fun x hx=>by rcases List.mem_append.1 hx with q|q;exact U x q;rw[List.mem_singleton.1 q];exact i4) i6 (s.ae [1,3,1,1,1,1,0,0,0]) ⟨rfl,rfl,rfl,rfl,rfl,rfl,rfl,rfl,rfl,rfl,aa⟩ hq
  ·have tB:=I.abc (by omega) hb hm rR C_ hc hk h0
   have su:=h0.len I.pl
   have qd:f<ew.length:=by obtain⟨x,hx,_⟩:=I.fl;exact(List.getElem?_eq_some_iff.1 hx).1
   refine zM rfl (zO rfl (bN rfl rfl) (zO rfl (bN rfl rfl) (zO rfl (bN rfl rfl) (zO rfl (bN rfl rfl) (zA rfl (zA rfl (zA rfl (zA rfl ?_))))))))
   refine au.nil ⟨⟨aa,aa,aa,aa,aa,aa,aa,aa,aa,aa,aa,aa,aa,aa,aa,aa,aa,aa,aa,aa,aa,aa⟩,?_⟩
   refine zK 4 rfl (zh rfl (dQ rfl rfl) (rfl) (zk 7 rfl (zC rfl dS (by decide) ?_)))
   refine zk 7 rfl (zB rfl bZ (by decide) ?_)
   obtain⟨XA,h1,w,h2,e3,e4,s2⟩:=Iy (s.ae [2,2,1]) (by omega)
   refine zk 6 rfl (ay.any rfl rfl rfl (OpR.of (R:=fun v h'=>v=XA∧h'=h1) (mE rfl e3) ⟨rfl,rfl⟩) ?_)
   rintro v h' ⟨rfl,rfl⟩
   refine ay.any rfl rfl rfl (OpR.of (R:=fun v h'=>v=w∧h'=h2) (mD rfl rfl e4) ⟨rfl,rfl⟩) ?_
   rintro w h2 ⟨rfl,rfl⟩
   have s:=s2.ae [2,0,0]
   exact zk 2 rfl (WP.exit (hq f _ _ _ _ _ _ tB (by simp;omega) (by simp;omega) (fun x hx=>by rcases List.mem_append.1 hx with q|q;exact U x q;rw[List.mem_singleton.1 q];exact su) ⟨rfl,rfl,rfl,rfl,rfl,rfl,aa⟩ (((s.del 5).del 4).del 3)))
noncomputable def dyK : Code:=cC [1,1,1,1,1,1,1,1,1,1,1,1,1,1,1,1,1,0,1,0,0] ((Tryz.f3.body).getD .skip)
theorem Iz {z:Int}(J:Has E [(3,cv),(15,av),(17,.int .i64 (f:Int)),(24,.ptr p 0),(27,.int .i64 (j:Int)),(28,.int .i64 z)])(I:∀E',Has E' [(3,cv),(15,av),(24,.ptr p 0),(27,.int .i64 (j:Int))]→Q (.exit 4) E' h): WP ⟨Tryz.prog,told⟩ 184 (.loop dyK) E h Q:=by
 refine WP.loop (WP.has J (zK 5 rfl ?_))
 by_cases U:(f:Int)≤z
 ·skip
  refine zB rfl kK (by simp;omega) ?_
  refine zk 2 rfl (zC rfl bq (by simp<;>omega) ?_)
  exact zk 3 rfl (WP.exit (I _ ⟨rfl,rfl,rfl,rfl,aa⟩))
 ·skip
  refine zC rfl kK (by simp;omega) ?_
  exact zk 6 rfl (WP.exit (I _ ⟨rfl,rfl,rfl,rfl,aa⟩))
theorem RL (hT:W told)(Db:∀x∈xs,x.length=N)(hN:N≤65536)(H6:xs.length≤1000){k0 aq:Nat}(hB:B≤2000)(Va:f≤k0){x0:List (List Nat)}(U:xs[k0]?=some x0)(Gr:kJ t_ x0): ∀(d:Nat) (ε:bA) (h:H) (E:List (Nat×V)) (Q:Ex→List (Nat×V)→H→Prop),k0+d<xs.length→EI N B ε→((∀m,pgA ε m=pgA t_ m)∧∀P:VP,iL N P→vw P t_→vw P ε) →
  Sat h (cB a p q r .cH data aq::cq r p q ε.1::bh q p ε.2.1::aD p ε.2.2::.arr 1 av vs::ud vs xs::S)→Has E [(3,cv),(15,av),(17,.int .i64 (f:Int)),(24,.ptr p 0),(25,.ptr a 0),(27,.int .i64 (-1)),(28,.int .i64 ((k0+d:Nat):Int))] →
  (∀ε' (j:Nat) x E' h',xs[j]?=some x→EI N B ε'→((∀m,pgA ε' m=pgA t_ m)∧∀P:VP,iL N P→vw P t_→vw P ε')→kJ ε' x→Sat h' (cB a p q r .cH data aq::cq r p q ε'.1::bh q p ε'.2.1::aD p ε'.2.2::.arr 1 av vs::ud vs xs::S) →
   Has E' [(3,cv),(15,av),(24,.ptr p 0),(27,.int .i64 (j:Int))]→Q (.exit 4) E' h')→WP ⟨Tryz.prog,told⟩ 184 (.loop dyK) E h Q:=by
 intro d
 induction d with
 |zero =>
  intro ε h E Q hd rf hv s hE hq
  obtain⟨pv,AP,s⟩:=Ak aF.Da (s.ae [5]) U
  dsimp only[aQ,bringA] at s
  have s:Sat h (roH 1 pv (dG x0)::_):=s
  have s:=s.ae [2,2,2,2,0,1,0]
  dsimp only[bringA,getA,aQ] at s
  obtain⟨id,off,e1,e2⟩:=iX (P:=Tryz.prog) s (k:=5) (i:=k0) rfl AP qD DR
  rw[qM] at hE
  refine WP.loop (WP.has hE (zK 5 rfl (zB rfl kK (by simp;omega) ?_)))
  refine zk 2 rfl (zB rfl bq (by decide) ?_)
  refine zk 5 rfl (WP.block (zK 5 rfl (zo rfl (dD (r:=.ptr id off) rfl rfl e1) (zl rfl (e2 _ LF) (zc rfl (BD hT (rO 1 pv (dG x0)) (Db _ (bu U)) hN hB rf s) ?_)))))
  rintro v h ⟨b,ε',rfl,hb,J,I,s⟩
  obtain rfl:=hb.2 (Gr.of fun m _=>hv.1 m)
  refine zv (zi rfl (zr rfl (zk 2 rfl (zv (zr rfl (zm rfl (zb rfl rfl (za rfl (zv ?_)))))))))
  exact Iz ⟨rfl,rfl,rfl,rfl,rfl,rfl,aa⟩ fun E' fW=>hq ε' k0 x0 _ _ U J ⟨fun m=>(I.1 m).trans (hv.1 m),fun P hP h=>I.2 P hP (hv.2 P hP h)⟩ (Gr.of fun m _=>(I.1 m).trans (hv.1 m)) (s.ae [0,0,0,0,1,1] |>.del 6) fW
 |succ d ih =>
  intro ε h E Q hd rf hv s hE hq
  obtain⟨x1,B7⟩:∃x,xs[k0+(d+1)]?=some x:=⟨_,bn hd⟩
  obtain⟨pv,AP,s⟩:=Ak aF.Da (s.ae [5]) B7
  dsimp only[aQ,bringA] at s
  have s:Sat h (roH 1 pv (dG x1)::_):=s
  have s:=s.ae [2,2,2,2,0,1,0]
  dsimp only[bringA,getA,aQ] at s
  obtain⟨id,off,e1,e2⟩:=iX (P:=Tryz.prog) s (k:=5) (i:=k0+(d+1)) rfl AP qD DR
  refine WP.loop (WP.has hE (zK 5 rfl (zB rfl kK (by simp;omega) ?_)))
  refine zk 2 rfl (zB rfl bq (by decide) ?_)
  refine zk 5 rfl (WP.block (zK 5 rfl (zo rfl (dD (r:=.ptr id off) rfl rfl e1) (zl rfl (e2 _ LF) (zc rfl (BD hT (rO 1 pv (dG x1)) (Db _ (bu B7)) hN hB rf s) ?_)))))
  rintro v h ⟨b,ε',rfl,hb,J,I,s⟩
  have kB:(∀m,pgA ε' m=pgA t_ m)∧∀P:VP,iL N P→vw P t_→vw P ε':=⟨fun m=>(I.1 m).trans (hv.1 m),fun P hP h=>I.2 P hP (hv.2 P hP h)⟩
  have s:=(s.ae [0,0,0,0,1,1]).del 6
  dsimp only[bringA,getA,aQ] at s
  cases b with
  |true =>
   refine zv (zi rfl (zr rfl (zk 2 rfl (zv (zr rfl (zm rfl (zb rfl rfl (za rfl (zv ?_)))))))))
   exact Iz ⟨rfl,rfl,rfl,rfl,rfl,rfl,aa⟩ fun E' fW=>hq ε' _ x1 _ _ B7 J kB ((hb.1 rfl).of fun m _=>I.1 m) s fW
  |false =>
   refine zv (zj rfl (WP.skip (zr rfl (zm rfl (zo rfl (aJ (r:=.int .i64 ((k0+d:Nat):Int)) rfl rfl (by rw[show((k0+d:Nat):Int)=((k0+(d+1):Nat):Int)-1 by omega];exact jV (aV (by omega) (by omega)))) ?_)))))
   refine za rfl (zv ?_)
   exact ih ε' _ _ Q (by omega) J kB s ⟨rfl,rfl,rfl,rfl,rfl,rfl,rfl,aa⟩ hq
noncomputable def dyZ : Code:=cC [1,1,1,1,1,1,1,1,1,1,1,1,1,1] ((Tryz.f3.body).getD .skip)
theorem KZ (hT:W4 told)(Db:∀x∈xs,x.length=12)(H6:xs.length≤202){aq:Nat}{δ5:Dk}(I:sA 12 f xs ba aq u r1 r2 B0 data δ)(hf:δ.aA<0)(Bj:δ5.m9 (-1)=(cz δ ba u r1 r2).2)(h1:1≤n)(h2:n≤1024)
 (s:Sat h (cB a p q r .cH data aq::cq r p q (Pl.fresh n)::bh q p (fX ba aq u)::aD p δ5::.arr 1 av vs::ud vs xs::.cm cv ch::S))
 (hE:Has E [(3,cv),(15,av),(17,.int .i64 (f:Int)),(24,.ptr p 0),(25,.ptr a 0),(26,.int .i64 0)])(hq:∀E' h',look E' 12=some (.bool true)→Q .ret E' h'): WP ⟨Tryz.prog,told⟩ 184 dyZ E h Q:=by
 have hW:=hT.w.w.w
 obtain⟨_,uj,qa⟩:=I.Ii hf h1 h2
 obtain⟨k0,x0,BJ,EU,hk3,hk4⟩:=I.fit
 have U7:=(List.getElem?_eq_some_iff.1 EU).1
 have W7:=KX s (j:=5) rfl
 have Gr:=hk4.pg hk3 uj qa.st
 have rR:=I.ml
 have U:=I.ck
 have Xr:szB u≤(fX ba aq u).forced∧(fX ba aq u).forced≤(fX ba aq u).b.length:=by
  have:(logB ba u).length=szB u:=eZ
  exact⟨by show _≤(logB ba u).length;omega,aP _⟩
 refine WP.has hE (zK 4 rfl (zC rfl aX (by decide) ?_))
 refine zk 2 rfl (zC rfl (CP yC) (rfl) (zk 7 rfl (zc rfl (Bh (n := -1) hW (s.ae [3])) ?_)))
 rintro v h ⟨rfl,s⟩
 rw[Bj] at s
 have s:=s.ae [1,1,1,0]
 refine zk 9 rfl (zo rfl (aY rfl rfl rfl (s.iG (n:=xs.length) (j:=4) rfl (by omega) (by decide) qD)) ?_)
 refine zo rfl (aJ (r:=.int .i64 ((k0+(xs.length-1-k0):Nat):Int)) rfl rfl (by rw[show((k0+(xs.length-1-k0):Nat):Int)=(xs.length:Int)-1 by omega];exact jV (aV (by omega) (by omega)))) ?_
 refine zk 2 rfl (WP.block (RL (t_:=(Pl.fresh n,(fX ba aq u,(cz δ ba u r1 r2).2))) hW Db (by decide) (by omega) (B:=600) (by decide) BJ EU Gr (xs.length-1-k0) (Pl.fresh n,(fX ba aq u,(cz δ ba u r1 r2).2)) _ _ _ (by omega) uj ⟨fun _=>rfl,fun _ _ h=>h⟩ s ⟨rfl,rfl,rfl,rfl,rfl,rfl,rfl,aa⟩ fun ε j x E' h' hx J hv hp s' fW => ?_))
 have s:=s'
 have hj:=(List.getElem?_eq_some_iff.1 hx).1
 have hr:=qa.pre hv.2 hv.1
 have hF:szB u≤ε.2.1.forced:=(hv.2 _ ((jr (szB u)).j6 12) Xr).1
 have Ij:=J.cg
 have Hi:=nD (ε:=ε)
 obtain⟨u',r2',jj,c1,c2,c3,c4,c5,c6,c7,c8,c9⟩:=hr.Xm (f:=11) J (by decide) (by decide) (I.cp.more (fun _ _ q=>q) hF) U rR ch (by decide) (by decide)
 have ug:=hr.lr.cr J.ok.ok.dk (by omega) rR
 obtain⟨AE,_⟩:=xh (c:=ch) ug
 have hp5:=hp.alk (Db x (bu hx)) J c7 c9
 refine WP.has fW (zK 4 rfl (zC rfl bq (by simp<;>omega) ?_))
 refine zk 7 rfl (zc rfl (Bw (c:=ch) hW (s.ae [3,5]) (cI _ _) ug) ?_)
 rintro v h ⟨q4,rfl,s⟩
 refine zc rfl (Bz (n:=11) (base:=ba) (aq:=aq) (rs:=u') (dK:=r1) (gu:=r2') (data:=data) hT.w5 (by decide) (by decide) s AE rfl (by rw[show(d_ ε.2.2 ch).mark=δ.mark from hr.lr.mark];exact I.mo) c5 U c1 c3 c2 c4) ?_
 rintro v h (⟨h0,_⟩|⟨_,a5,q5,r5,rfl,s⟩)
 ·exact absurd c6 h0
 obtain⟨pv,AP,s⟩:=Ak aF.Da (s.ae [10]) hx
 have s:Sat h (roH 1 pv (dG x)::_):=s
 obtain⟨id,off,e1,e2⟩:=iX (P:=Tryz.prog) s (k:=11) (i:=j) rfl AP qD DR
 refine zk 9 rfl (zB rfl bZ (by decide) ?_)
 refine zk 2 rfl (zB rfl (SM yC) (rfl) (zk 5 rfl (zo rfl (dD (r:=.ptr id off) rfl rfl e1) (zl rfl (e2 _ LF) (zc rfl (BD (ε:=(Pl.fresh 11,(fX ba aq u',(cz (d_ ε.2.2 ch) ba u' r1 r2').2))) hW (rO 1 pv (dG x)) (Db _ (bu hx)) (by decide) (by decide) c7 (s.ae [2,2,2,2,0])) ?_)))))
 rintro v h ⟨b,ε',rfl,hb,_⟩
 obtain rfl:=hb.2 hp5
 exact zk 3 rfl (WP.ret (hq _ _ rfl))
theorem RM (hT:W4 told)(hD:∀D∈L,D.data.length≤1048576∧D.w.length≤1048576∧∀x∈D.w,x.2.length≤1048576)(hLn:L.length≤1048576)(s:Sat h (j7 4 lv cs::jx cs L::.cm cv ch::.cm bv la::S)):
  Call ⟨Tryz.prog,told⟩ 3 [.int .i64 n0,lv,.int .i64 k0,cv,.int .i64 a0,bv] h fun v h'=>v=.bool true:=by
 have hW:=hT.w.w.w
 have hlen:=yS s (k:=1) rfl
 obtain⟨kf,hkf,abd⟩:=BF (k:=n0) (m:=7) (by decide)
 obtain⟨f0,Xn,abe⟩:=BF (k:=k0) (m:=127) (by decide)
 obtain⟨g0,hg0,abf⟩:=BF (k:=a0) (m:=63) (by decide)
 refine Call.of_wp (hW.free _ rfl) Tryz.func3 rfl rfl (zK 7 rfl (zc rfl (RF hT.w s) ?_))
 rintro v h' ⟨rfl,rfl⟩
 refine zh rfl (dQ rfl rfl) (rfl) (zk 7 rfl (zo rfl (aY rfl rfl rfl (s.yN (n:=L.length) (j:=0) rfl hlen (by decide) yR)) ?_))
 by_cases hL:200<L.length
 ·skip
  refine zB rfl dS (by simp;omega) ?_
  refine zk 6 rfl (WP.ret ⟨aa,_,rfl,?_⟩)
  rfl
 refine zC rfl dS (by simp;omega) ?_
 refine zk 6 rfl (zo rfl (aJ (r:=.int .i64 (kf:Int)) rfl rfl abd) (zo rfl (aJ (r:=.int .i64 ((10+kf:Nat):Int)) rfl rfl (by rw[show((10+kf:Nat):Int)=10+(kf:Int) by omega];exact bP (aV (by omega) (by omega)))) ?_))
 refine zc rfl (L_ (n:=12) (m:=65536) (f:=10+kf) hW s (by decide) (by decide) (by decide) (by omega) (by omega)) ?_
 rintro v h ⟨p,a,q,r,rfl,s⟩
 refine zk 10 rfl (zC rfl (CP yC) (rfl) (zk 7 rfl (zo rfl (aJ (r:=.int .i64 (f0:Int)) rfl rfl abe) (zc rfl (Bh (n:=(f0:Int)) hW (s.ae [3])) ?_))))
 rintro v h ⟨rfl,s⟩
 obtain⟨i1,kI,jd,qj⟩:=Iu
 obtain⟨pv,h1,e3,s1⟩:=ur (P:=Tryz.prog) s oH kI V5 jd (by omega) rfl (by decide) (by decide) (n:=12) (c:=12) (by decide) (by decide)
 refine zk 3 rfl (ay.any rfl rfl rfl (OpR.of (R:=fun v h'=>v=pv∧h'=h1) (rC rfl rfl e3) ⟨rfl,rfl⟩) ?_)
 rintro pv h ⟨rfl,rfl⟩
 have s:Sat h (.arr 1 pv (dG (List.replicate 12 []))::_):=s1
 have s:=s.yj
 have yK:pv.cells=[pv]∧storable pv=true:=by
  rcases (s.yh (j:=0) rfl (rO 1 pv _)).2 with⟨rfl,_⟩|⟨_,_,_,_,_,rfl,_⟩<;>exact⟨rfl,rfl⟩
 obtain⟨av,h1,b1,s1⟩:=kr (P:=Tryz.prog) (k:=1) (x:=pv) s qD Qb DR rfl (by decide) (by decide) (by rw[yK.1];rfl) (by rw[yK.1];simp[yK.2])
 rw[yK.1] at s1
 refine ay.any rfl rfl rfl (OpR.of (R:=fun v h'=>v=av∧h'=h1) (mE rfl b1) ⟨rfl,rfl⟩) ?_
 rintro av h ⟨rfl,rfl⟩
 have s:Sat h (.arr 1 av [pv]::_):=s1
 have s:=(s.ae [1]).fR (B:=ud [pv] [List.replicate 12 []]) fun _ _ k=>⟨k,aa⟩
 obtain⟨tv,h1,b2,s1⟩:=kr (P:=Tryz.prog) (k:=1) (x:=.int .u64 0) s vX GO ot rfl (by decide) (by decide) rfl rfl
 refine zk 4 rfl (ay.any rfl rfl rfl (OpR.of (R:=fun v h'=>v=tv∧h'=h1) (mE rfl b2) ⟨rfl,rfl⟩) ?_)
 rintro tv h ⟨rfl,rfl⟩
 have s:Sat h (.arr 1 tv (rz [0])::_):=s1
 have s:=s.ae [4,4,4,3,2,1,0]
 refine zk 11 rfl (WP.block (RK (cs:=cs) (L:=L) hT.w.w (by omega) hD L.length 0 0 ((fresh 12 65536 (10+kf)).1,((fresh 12 65536 (10+kf)).2.1,(fresh 12 65536 (10+kf)).2.2.m9 (f0:Int))) (List.replicate 12 []) _ _ _ _ _ [] 0 _ _ _ (by omega) (Lw.fresh (by omega) (by decide) (by decide) (by omega) (by omega)) (aP 1) (fun x hx=>by rw[List.mem_singleton.1 hx];exact gM) (fZ _) s ⟨rfl,rfl,rfl,rfl,rfl,rfl,rfl,rfl,rfl,rfl,aa⟩ fun f xs vs av δ E' h' hd hfx H6 Db hE s' => ?_))
 have s:=s'
 have ug:=hd.cr
 obtain⟨ba,aq,u,r1,r2,B0,data,J⟩:=hd.C4 ch
 obtain⟨jj,j1,j2,j3,j4⟩:=J.room
 have S1:(d_ δ ch).aA = -1:=rfl
 refine WP.has hE (zK 4 rfl (zc rfl (Bw (c:=ch) hW (s.ae [0,2]) (cI _ _) ug) ?_))
 rintro v h ⟨q4,rfl,s⟩
 refine zk 6 rfl (zo rfl (aJ (r:=.int .i64 (g0:Int)) rfl rfl abf) (zc rfl (Bh (n:=(g0:Int)) hW s) ?_))
 rintro v h ⟨rfl,s⟩
 generalize d_ δ ch=uV at J j1 j4 S1 s
 have U:=J.m9 (k:=(g0:Int)) (by omega)
 have Tc:=J.Ta S1 (k:=(g0:Int))
 refine zk 4 rfl ?_
 have XB:=(J.Ii (by omega) (n:=1) (by decide) (by decide)).2.2.lr.rs
 refine zc rfl (Bz (n:=12) (base:=ba) (aq:=aq) (rs:=u) (dK:=r1) (gu:=r2) (data:=data) hT.w5 (by decide) (by decide) s U.ag U.al U.mo j4 J.ck j1 XB j2 J.at_) ?_
 rintro v h (⟨h0,rfl,s⟩|⟨h0,a5,q5,r5,rfl,s⟩)
 ·have h9:(cz (uV.m9 (g0:Int)) ba u r1 r2).1=9:=u9 fun q=>h0 (Tc (.inr q)).1
  have I:=U.again la
  have Il:=U.cr
  obtain⟨jk,k1,k2,k3,k4⟩:=I.room
  have RN:(d_ (cz (uV.m9 (g0:Int)) ba u r1 r2).2 la).aA = -1:=rfl
  rw[h9]
  refine zk 10 rfl (zB rfl aX (by decide) ?_)
  refine zk 6 rfl (zC rfl aX (by decide) ?_)
  refine zk 7 rfl (zc rfl (Bw (c:=la) hW (s.ae [0,4]) (cI _ _) Il) ?_)
  rintro v h ⟨q6,rfl,s⟩
  generalize d_ (cz (uV.m9 (g0:Int)) ba u r1 r2).2 la=YQ at I k1 k4 RN s
  obtain⟨g1,_,_⟩:=I.Ii (by omega) (n:=1) (by decide) (by decide)
  have pz:YQ.m9 (-1)=YQ:=by
   show { YQ with aA:=(-1:Int) }=YQ
   rw[←RN]
  have i_:=I.Ta RN (k := -1)
  rw[pz] at i_
  refine zk 4 rfl (zc rfl (Bz (n:=9) (base:=ba) (aq:=aq) (rs:=u) (dK:=r1) (gu:=r2) (data:=data) hT.w5 (by decide) (by decide) s I.ag I.al I.mo k4 I.ck k1 XB k2 I.at_) ?_)
  rintro v h (⟨h0,_⟩|⟨_,a5,q5,r5,rfl,s⟩)
  ·exact absurd g1 h0
  refine zk 6 rfl ?_
  refine KZ (ch:=ch) hT Db H6 I (by omega) (i_ (.inl g1)).2 (n:=9) (by decide) (by decide) (s.ae [0,0,0,0,4,4,3] |>.del 9 |>.del 8 |>.del 7) ⟨rfl,rfl,rfl,rfl,rfl,rfl,aa⟩ fun E' h' hr=>⟨aa,_,ny hr,rfl⟩
 ·skip
  refine zk 10 rfl (zC rfl aX (by decide) ?_)
  refine zk 3 rfl ?_
  refine KZ (ch:=ch) hT Db H6 J (by omega) (Tc (.inl h0)).2 (n:=12) (by decide) (by decide) (s.ae [0,0,0,0,2,2,1]) ⟨rfl,rfl,rfl,rfl,rfl,rfl,aa⟩ fun E' h' hr=>⟨aa,_,ny hr,rfl⟩
end
def IA (c:Ctx): Prop:=∀id,id<c.N→c.X id=true
noncomputable def Ctx.fix (c:Ctx)(w:World)(b off:Nat): Ctx:=⟨fun i=>if i=c.N then(b,off) else c.ρ i,fun x=>if x=b then rowSize w b else c.Z x,c.N+1,fun i=>if i=c.N then true else c.X i⟩
theorem Rel.fix (h:Rel c σ w)(hX:IA c){b:Nat}{C:Array Value}{e:TypeId}(hb:w.heap[b]?=some (.cells C e fz))(hl:off+cs.length≤C.size)
 (hc:∀j v,cs[j]?=some v→C[off+j]?=some (conc c v))(oz:∀v∈cs,wf c v∧storable v=true):
  Rel (c.fix w b off) (σ.new (.cells cs.length cs true)) w∧IA (c.fix w b off)∧Ext c (c.fix w b off)∧(c.fix w b off).ρ σ.next=(b,off)∧σ.next<(c.fix w b off).N:=by
 have hold:∀i,i<c.N→(c.fix w b off).ρ i=c.ρ i:=fun i hi=>by grind[Ctx.fix]
 have U:∀i,i<c.N→(c.fix w b off).X i=c.X i:=fun i hi=>by grind[Ctx.fix]
 have J:(c.fix w b off).ρ c.N=(b,off):=by simp[Ctx.fix]
 have hnX:(c.fix w b off).X c.N=true:=by simp[Ctx.fix]
 have hN:(c.fix w b off).N=c.N+1:=rfl
 have b8:b<w.heap.size:=(Array.getElem?_eq_some_iff.1 hb).1
 have I:IA (c.fix w b off):=fun i hi=>by
  by_cases h1:i=c.N
  ·grind
  ·rw[U i (by omega)];exact hX i (by omega)
 have ex:Ext c (c.fix w b off):=⟨by omega,hold,fun i hi=>by
  show(if (c.ρ i).1=b then rowSize w b else c.Z (c.ρ i).1)=_
  split
  ·rename_i he;rw[h.zz i hi,he]
  ·rfl,U⟩
 have key:∀i o,(σ.new (.cells cs.length cs true)).tr.get i=some o→(i=c.N∧o=.cells cs.length cs true)∨(i<c.N∧σ.tr.get i=some o):=by
  intro i o hi
  rw[ga,h.next] at hi
  by_cases h1:i=c.N
  ·grind
  ·simp[h1] at hi;exact .inr ⟨h.live i o hi,hi⟩
 refine⟨⟨by simp[H.new,h.next,hN],fun i o hi => ?_,fun i hi => ?_,fun i hi => ?_,fun i j o o' hi hj he => ?_,fun i o hi => ?_,fun i JQ qE hi hx => ?_,fun i o hi hx => ?_⟩,I,ex,by rw[h.next];exact J,by rw[h.next,hN];omega⟩
 ·grind
 ·by_cases h1:i=c.N
  ·grind
  ·rw[hold i (by omega)];exact h.lB i (by omega)
 ·by_cases h1:i=c.N
  ·rw[h1,J];show(if b=b then rowSize w b else c.Z b)=_;rw[aE rfl]
  ·rw[hold i (by omega)]
   show(if (c.ρ i).1=b then rowSize w b else c.Z (c.ρ i).1)=_
   split
   ·grind
   ·exact h.zz i (by omega)
 ·have li:i<c.N+1:=by grind
  have lj:j<c.N+1:=by grind
  exact .inr ⟨I i (by omega),I j (by omega)⟩
 ·rcases key i o hi with⟨rfl,rfl⟩|⟨a1,a2⟩
  ·refine⟨rfl,fun v hv=>⟨(cu ex v (oz v hv).1).2,(oz v hv).2⟩,C,e,fz,by grind,by grind,fun j v hj => ?_,aa⟩<;>grind[cu]
  ·exact(h.obj i o a2).later ex a1 rfl
 ·have li:i<c.N+1:=by grind
  rw[I i (by omega)] at hx;cases hx
 ·rcases key i o hi with⟨_,rfl⟩|⟨a1,a2⟩
  ·simp
  ·rw[U i a1] at hx;exact h.fx i o a2 hx
theorem JK {c':Ctx}(U:IA c)(h:dH c w c' w'): w.keptBut w' (fun _=>False)∧w.heap.size≤w'.heap.size∧∀b,b<w.heap.size→w'.heap[b]?=w.heap[b]?:=by
 have J:∀b,b<w.heap.size→w'.heap[b]?=w.heap[b]?:=fun b hb=>h.cO b hb fun id I _=>U id I
 refine⟨⟨h.sys.1,h.sys.2,fun i hi => ?_⟩,h.size,J⟩
 rw[J i hi]
 split<;>simp_all
end Go.Proofs.YtiojppeahfoiaaaGreat.Am
namespace Go.Proofs.YtiojppeahfoiaaaGreat.Am
open Go Go.ChangeShapes
variable {X:aS} {cl:Bool} {c:Ctx} {D:iT} {δ:Dk} {ε ε' t_:bA} {Q:Ex→List (Nat×V)→H→Prop} {h σ:H} {e n0 k0 a0:Int} {B0:Int→List Nat} {C:Int→List Nat→Prop} {g gg:Int→Option Nat} {pd:Int→Prop} {x y:LD} {d:List (Int×(Nat×Bool))} {now fB:List (Int×List Nat)} {ps nx dB:List (List Nat)} {E:List (Nat×V)} {S:List aS} {L:List iT} {mk b data dh bG l ew:List Nat} {r1 c1 c2 u r2:List bt} {cs vs:List V} {N M ba B f n m tx aM F mg bW lo i k F' r q a mQ p5 j off o fuel:Nat} {fz:Nat×Nat} {π:Pl} {P:Program} {rc:bt} {ρ:fS} {α H':Type} {t:TypeId} {pv wv dv nv lv av tv:V} {w w':World}
def yT (W:World)(S:List aS)(c:Ctx)(σ:H): Prop:=Rel c σ W∧IA c∧Sat σ S
theorem yT.zero (W:World): ∃c σ,yT W [] c σ:=by
 refine⟨_,_,Rel.empty W,fun id h=>absurd h (zG _),⟨fun id o h=>by simp[T.tu] at h,fun _=>none,fun _=>none,fun _ _ h=>(by cases h),fun _ _ h=>(by cases h),fun _=>.inl rfl,aa⟩⟩
theorem yT.sat {W:World}{S':List aS}(h:yT W S c σ)(hs:∀h,Sat h S→Sat h S'): yT W S' c σ:=⟨h.1,h.2.1,hs σ h.2.2⟩
def nH {α:Type}(W:World)(cs:List Value)(E:List V→α→aS)(φ:α→Prop): Prop :=
 ∀(c:Ctx) (σ:H) (S:List aS),yT W S c σ→∃(c':Ctx) (ee:H) (vs:List V) (x:α),yT W (E vs x::S) c' ee∧Ext c c'∧vs.map (conc c')=cs∧(∀v∈vs,wf c' v∧storable v=true)∧φ x
theorem nH.rows {W:World}{E:List V→α→aS}{A:List V→List α→aS}{φ:α→Prop}(hE:∀vs x,aF (E vs x))(hA:∀l m,aF (A l m))(U:∀m r,(A [] []).p m r)(J:∀vs x l m a b,(E vs x).p a b→(A l m).p a b→(A (vs++l) (x::m)).p a b):
  ∀(I:List (List Value)),(∀cs∈I,nH W cs E φ)→nH W I.flatten A (fun xs=>xs.length=I.length∧∀x∈xs,φ x):=by
 intro I
 induction I with
 |nil =>
  intro _ c σ S h
  exact⟨c,σ,[],[],h.sat fun h s=>(s.gB (φ:=True) aa).fR fun m r _=>U m r,Ext.refl c,rfl,fun v hv=>(by cases hv),rfl,fun x hx=>(by cases hx)⟩
 |cons cs I ih =>
  intro hc c σ S h
  obtain⟨c1,RO,l,m,h1,e1,m1,w1,n1,p1⟩:=ih (fun x hx=>hc x (b9 _ hx)) c σ S h
  obtain⟨c2,XC,vs,x,h2,e2,m2,w2,p2⟩:=hc cs cn c1 RO _ h1
  obtain⟨q1,q2⟩:=F8 e2 fun v hv=>(w1 v hv).1
  refine⟨c2,XC,vs++l,x::m,h2.sat fun h s=>s.two (hE _ _) (hA _ _) fun a b k1 k2=>J _ _ _ _ _ _ k1 k2,e1.trans e2,?_,fun v hv => ?_,by grind,fun y hy => ?_⟩<;>grind
def A3 {α:Type}(k:Nat)(A:List V→List α→aS)(vs:List V)(x:List α): aS:=.xs fun v:V=>.xs fun cs:List V=>.an (.pu (vs=[v])) (.an (j7 k v cs) (A cs x))
theorem aF.A3 {A:List V→List α→aS}(I:∀l m,aF (A l m))(vs:List V)(x:List α): aF (Am.A3 k A vs x):=aF.xs fun _=>aF.xs fun _=>aF.an (aF.pu _) (aF.an (aF.j7 _ _ _) (I _ _))
theorem nH.abg {W:World}{A:List V→List α→aS}{φ:List α→Prop}(I:∀m r,(A [] []).p m r)(J:φ []): nH W [.slice none 0 0] (A3 k A) φ:=fun c σ S h =>
 ⟨c,σ,[.bw],[],h.sat fun h s=>(s.gB (φ:=True) aa).fR fun m r _=>⟨.bw,[],rfl,⟨none,.inl rfl,rfl⟩,I m r⟩,Ext.refl c,by rfl,fun v U=>by rw[List.mem_singleton.1 U];exact⟨aa,rfl⟩,J⟩
theorem nH.XD {W:World}{A:List V→List α→aS}{φ:List α→Prop}{a:Addr}(I:∀m r,(A [] []).p m r)(J:φ []): nH W [.slice (some a) 0 0] (A3 k A) φ:=fun c σ S h =>
 ⟨c,σ,[.sle a],[],h.sat fun h s=>(s.gB (φ:=True) aa).fR fun m r _=>⟨.sle a,[],rfl,⟨none,.inr ⟨a,rfl⟩,rfl⟩,I m r⟩,Ext.refl c,by rfl,fun v U=>by rw[List.mem_singleton.1 U];exact⟨aa,rfl⟩,J⟩
theorem nH.abh {W:World}{b len cap:Nat}{A:List V→List α→aS}{φ:List α→Prop}{cs:List Value}{C:Array Value}{e:TypeId}(hb:W.heap[b]?=some (.cells C e fz))(hl:off+cs.length≤C.size)(hn:cs.length=len*k)(J:len≤cap)
 (hc:∀j v,cs[j]?=some v→C[off+j]?=some v)(hA:∀l m,aF (A l m))(ho:nH W cs A φ): nH W [.slice (some ⟨b,off,none⟩) len cap] (A3 k A) φ:=by
 intro c σ S h
 obtain⟨c1,I,vs,x,U,e1,m1,w1,p1⟩:=ho c σ S h
 have hlen:vs.length=cs.length:=by grind
 obtain⟨g1,g2,g3,g4,g5⟩:=U.1.fix U.2.1 hb (cs:=vs) (off:=off) (by omega) (fun j v hv=>hc j _ (by grind)) w1
 refine⟨_,_,[.sl I.next 0 len (.exact cap)],x,⟨g1,g2,?_⟩,e1.trans g3,?_,fun v hv => ?_,p1⟩
 ·have s1:Sat (I.new (.cells vs.length vs true)) (.ro I.next (.cells vs.length vs true)::A vs x::S):=(U.2.2.new _).freeze
  refine s1.two (aF.ro _ _) (hA _ _) fun m r k1 k2=>⟨_,vs,rfl,⟨some (I.next,len,cap),k1,rfl,by omega⟩,k2⟩
 ·simp[conc,g4]
 ·rw[List.mem_singleton.1 hv]
  exact⟨⟨g5,J⟩,rfl⟩
def Td (vs:List V)(l:List Nat): aS:=.xs fun v:V=>.an (.pu (vs=[v])) (.cm v l)
theorem aF.Td (vs:List V)(l:List Nat): aF (Am.Td vs l):=aF.xs fun _=>aF.an (aF.pu _) (aF.cm _ _)
theorem IB {W:World}{a:Addr}{v:Value}(h:W.cell? a=some v): ∃b off,a=⟨b,off,none⟩∧∃C e fz,W.heap[b]?=some (.cells C e fz)∧C[off]?=some v:=by
 obtain⟨b,off,spot⟩:=a
 have hs:spot=none:=World.cell?_spot h
 grind[World.cell?]
theorem th {β:Type}{f:α→β}{l:List α}{b:β}(h:l.map f=[b]): ∃a,l=[a]∧f a=b:=by
 simp_all
end Go.Proofs.YtiojppeahfoiaaaGreat.Am
namespace Go.Proofs.YtiojppeahfoiaaaGreat.Am
open Go Go.ChangeShapes Go.WideShapes Go.ChangeAt Go.RowKit
variable {X:aS} {cl:Bool} {c:Ctx} {D:iT} {δ:Dk} {ε ε' t_:bA} {Q:Ex→List (Nat×V)→H→Prop} {h σ:H} {e n0 k0 a0:Int} {B0:Int→List Nat} {C:Int→List Nat→Prop} {g gg:Int→Option Nat} {pd:Int→Prop} {x y:LD} {d:List (Int×(Nat×Bool))} {now fB:List (Int×List Nat)} {ps nx dB:List (List Nat)} {E:List (Nat×V)} {S:List aS} {L:List iT} {mk b data dh bG l ew:List Nat} {r1 c1 c2 u r2:List bt} {cs vs:List V} {N M ba B f n m tx aM F mg bW lo i k F' r q a mQ p5 j off o fuel:Nat} {fz:Nat×Nat} {π:Pl} {P:Program} {rc:bt} {ρ:fS} {α H':Type} {t:TypeId} {pv wv dv nv lv av tv:V} {w w':World}
theorem RP {H:Type}(d:DataW H): 1≤Rows.uptoBulk d:=by
 cases d with
 |lit l=>cases l<;>simp[Rows.uptoBulk]
 |nil=>simp[Rows.uptoBulk]
 |ptr d=>simp[Rows.uptoBulk]
 |slice elems spare=>simp[Rows.uptoBulk]
 |agg parts=>simp[Rows.uptoBulk]
 |iface t d=>simp[Rows.uptoBulk]
 |map entries=>simp[Rows.uptoBulk]
 |held h=>simp[Rows.uptoBulk]
theorem sg {H:Type}{d:DataW H}: ∀ {l:List (DataW H)},d∈l→Rows.uptoBulk d≤Rows.uptoBulkAll l:=by
 intro l
 induction l<;>grind[Rows.uptoBulkAll]
theorem IC {H:Type}: ∀(l:List (DataW H)),l.length≤Rows.uptoBulkAll l:=by
 intro l
 induction l<;>grind[RP,Rows.uptoBulkAll]
theorem Dc {H:Type}(a b:List (DataW H)): Rows.uptoBulk (.slice a b)=Rows.uptoBulkAll a+Rows.uptoBulkAll b+1:=by rfl
theorem ID {H:Type}(a:List (DataW H)): Rows.uptoBulk (.agg a)=Rows.uptoBulkAll a+1:=by rfl
theorem K0 {W:World}{b:Nat}{C:Array Value}{e:TypeId}(I:W.heap[b]?=some (.cells C e fz)): W.cell? ⟨b,o,none⟩=C[o]?:=by
 grind[World.cell?]
section
variable {enc:TypeId×Value→H'} {W:World} {cs:List Value} {x:DataW H'×List MemPlace}
theorem Ax (h:DataW.trod enc Tryz.prog W 0 (fun _=>true) true fuel 23 cs=some x)(hB:Rows.uptoBulk x.1≤B): nH W cs Td (fun l=>l.length≤B):=by
 rcases open_ints aW Tryz.underlying5 (by kernel_rfl) h with⟨rfl,rfl⟩|⟨a,len,cap,zs,rfl,_,SR,_,hz,rfl,I,oz⟩
 ·exact fun c σ S h=>⟨c,σ,[.bw],[],h.sat fun h s=>s.rG.fR fun m r k=>⟨.bw,rfl,k⟩,Ext.refl c,by rfl,fun v J=>by rw[List.mem_singleton.1 J];exact⟨aa,rfl⟩,fZ _⟩
 ·rw[aE rfl] at hz
  by_cases h0:cap=0
  ·have:len=0:=by omega
   subst this
   subst h0
   exact fun c σ S h=>⟨c,σ,[.sle a],[],h.sat fun h s=>(s.gB (φ:=True) aa).fR fun m r k=>⟨.sle a,rfl,by simp,.inl ⟨.inr ⟨a,rfl⟩,rfl⟩⟩,Ext.refl c,by rfl,fun v J=>by rw[List.mem_singleton.1 J];exact⟨aa,rfl⟩,fZ _⟩
  ·have g0:=I 0 (by omega)
   obtain⟨b,off,spot⟩:=a
   have hs:spot=none:=by simpa[Addr.add] using World.cell?_spot g0
   subst hs
   have I:∀i,i<zs.length→W.cell? ⟨b,off+i,none⟩=some (.int .u8 (zs.getD i 0)):=fun i hi=>by grind[add_plain]
   obtain⟨b',off',he,C,e,fz,hb,SX⟩:=IB (I 0 (by omega))
   simp only[Addr.mk.injEq,and_true] at he
   obtain⟨rfl,rfl⟩:=he
   have hC:∀i,i<zs.length→C[off+i]?=some (.int .u8 (zs.getD i 0)):=fun i hi=>by grind[K0]
   have abi:off<C.size:=by
    grind
   have hu8:∀z∈zs,0≤z∧z<256:=fun z hz=>by
    have:=oz z hz
    simp only[Lit.wf,bS,gN] at this
    have e1:IntKind.min .u8=0:=rfl
    have e2:IntKind.max .u8=255:=rfl
    omega
   have U:((zs.take len).map Int.toNat).length=len:=by grind
   have Y_:(ofBytes ((zs.take len).map Int.toNat)).length=len:=by rw[fu,U]
   have abj:∀y∈(zs.take len).map Int.toNat,y<256:=fun y hy=>by
    grind
   intro c σ S h
   have lX:off+(ofBytes ((zs.take len).map Int.toNat)).length≤C.size:=by
    by_cases JS:len=0
    ·omega
    ·have:=(Array.getElem?_eq_some_iff.1 (hC (len-1) (by omega))).1
     omega
   have abk:∀j v,(ofBytes ((zs.take len).map Int.toNat))[j]?=some v→C[off+j]?=some (conc c v):=fun j v J=>by
    grind[ofBytes,List.getElem_mem,conc]
   obtain⟨g1,g2,g3,g4,g5⟩:=h.1.fix h.2.1 hb (off:=off) lX abk (fun v J=>by obtain⟨n,_,rfl⟩:=List.mem_map.1 J;exact⟨aa,rfl⟩)
   refine⟨_,_,[.sl σ.next 0 len (.exact cap)],(zs.take len).map Int.toNat,⟨g1,g2,?_⟩,g3,?_,fun v J => ?_,?_⟩
   ·have s1:=(h.2.2.new (.cells (ofBytes ((zs.take len).map Int.toNat)).length (ofBytes ((zs.take len).map Int.toNat)) true)).freeze
    refine s1.fR fun m r k=>⟨_,rfl,abj,.inr ⟨σ.next,0,.exact cap,_,_,true,by rw[U],k,rfl,by omega,?_,?_⟩⟩<;>grind
   ·simp[conc,g4]
   ·rw[List.mem_singleton.1 J]
    exact⟨⟨g5,SR⟩,rfl⟩
   ·rw[Dc] at hB
    have h1:=IC (lits (H:=H') .u8 (zs.take len))
    grind[lits]
theorem Fp {e:TypeId}{E:List V→α→aS}{A:List V→List α→aS}{φ:α→Prop}(ht:Tryz.prog.underlying t=some (.slice e))(hk:Tryz.prog.cellsOf e=k)(h1:1≤k)
 (hE:∀vs x,aF (E vs x))(hA:∀l m,aF (A l m))(A5:∀m r,(A [] []).p m r)(Le:∀vs x l m a b,(E vs x).p a b→(A l m).p a b→(A (vs++l) (x::m)).p a b)
 (Ng:∀n cs (y:DataW H'×List MemPlace),DataW.trod enc Tryz.prog W 0 (fun _=>true) true n e cs=some y→Rows.uptoBulk y.1≤B→nH W cs E φ)
 (h:DataW.trod enc Tryz.prog W 0 (fun _=>true) true fuel t cs=some x)(hB:Rows.uptoBulk x.1≤B): nH W cs (A3 k A) (fun xs=>xs.length≤B∧∀x∈xs,φ x):=by
 rcases DataW.trod_slice ht h with⟨rfl,rfl⟩|⟨a,len,cap,elems,rest,n,_,rfl,rfl,_,SR,_,hlen,J,HK,_⟩
 ·grind[nH.abg]
 ·obtain⟨E4,U⟩:=HK rfl
  rw[hk] at J U
  rw[Dc] at hB
  by_cases h0:cap=0
  ·simp_all[nH.XD]
  ·-- each element's cells
   have each:∀i,i<cap→∃cs,W.cells? 0 (a.add (i*k)) k=some cs:=fun i hi=>by
    by_cases EJ:i<len
    ·have h2:=J i EJ
     rw[bn (by omega)] at h2
     obtain⟨cs,h3,_⟩:=Option.bind_eq_some_iff.1 h2
     exact⟨cs,h3⟩
    ·have h2:=U (i-len) (by omega)
     rw[bn (by omega),show len+(i-len)=i by omega] at h2
     obtain⟨cs,h3,_⟩:=Option.bind_eq_some_iff.1 h2
     exact⟨cs,h3⟩
   obtain⟨cs0,abl⟩:=each 0 (by omega)
   obtain⟨_,JS,SX⟩:=World.cells?_some abl
   have g0:=SX 0 (by omega)
   obtain⟨v0,hv0⟩:∃v,cs0[0]?=some v:=⟨_,bn (by omega)⟩
   rw[hv0] at g0
   obtain⟨b,off,spot⟩:=a
   have hs:spot=none:=by simpa[Addr.add] using World.cell?_spot g0
   subst hs
   simp only[add_plain,zJ,qM] at g0
   obtain⟨b',off',he,C,ty,fz,hb,xp⟩:=IB g0
   simp only[Addr.mk.injEq,and_true] at he
   obtain⟨rfl,rfl⟩:=he
   have abi:off<C.size:=(Array.getElem?_eq_some_iff.1 xp).1
   -- the rows
   have rows:∀i,i<len→∃cs,cs.length=k∧nH W cs E φ∧∀q v,cs[q]?=some v→C[off+i*k+q]?=some v:=fun i hi=>by
    have h2:=J i hi
    rw[bn (by omega)] at h2
    obtain⟨cs,h3,h4⟩:=Option.bind_eq_some_iff.1 h2
    obtain⟨_,hl,hc⟩:=World.cells?_some h3
    refine⟨cs,hl,Ng n cs _ h4 ?_,fun q v hq => ?_⟩
    ·have:=sg (l:=elems.map (·.1)) (lP (vg (l:=elems) (n:=i) (by omega)))
     omega
    ·have hqk:q<k:=by grind
     have:=hc q hqk
     rw[add_plain,add_plain,K0 hb,hq] at this
     exact this
   have build:∀m,m≤len→∃I:List (List Value),I.length=m∧(∀cs∈I,nH W cs E φ)∧I.flatten.length=m*k∧∀j v,I.flatten[j]?=some v→C[off+j]?=some v:=by
    intro m
    induction m with
    |zero=>simp
    |succ m ih =>
     intro hm
     obtain⟨I,i1,i2,i3,i4⟩:=ih (by omega)
     obtain⟨cs,r1,r2,r3⟩:=rows m (by omega)
     refine⟨I++[cs],by simp[i1],fun y hy => ?_,by simp[i3,r1,pe],fun j v hj => ?_⟩
     ·rcases List.mem_append.1 hy with hy|hy<;>grind[List.mem_singleton]
     ·rw[List.flatten_append,List.flatten_singleton] at hj
      by_cases b8:j<m*k
      ·grind
      ·rw[yW (by omega),i3] at hj
       have:=r3 _ v hj
       rwa [show off+m*k+(j-m*k)=off+j by omega] at this
   obtain⟨I,b1,b2,b3,b4⟩:=build len (aP _)
   have lX:off+I.flatten.length≤C.size:=by
    by_cases JS:len*k=0
    ·omega
    ·obtain⟨v,hv⟩:∃v,I.flatten[len*k-1]?=some v:=⟨_,bn (by omega)⟩
     have:=(Array.getElem?_eq_some_iff.1 (b4 _ v hv)).1
     omega
   have main:=nH.abh (k:=k) (len:=len) (cap:=cap) hb lX b3 SR b4 hA (nH.rows hE hA A5 Le I b2)
   intro c σ S h
   obtain⟨c1,RO,vs,x,q1,q2,q3,q4,q5,q6⟩:=main c σ S h
   refine⟨c1,RO,vs,x,q1,q2,q3,q4,?_,q6⟩
   have:=IC (elems.map (·.1))
   rw[iE] at this
   omega
end
end Go.Proofs.YtiojppeahfoiaaaGreat.Am
namespace Go.Proofs.YtiojppeahfoiaaaGreat.Am
open Go
variable {X:aS} {cl:Bool} {c:Ctx} {D:iT} {δ:Dk} {ε ε' t_:bA} {Q:Ex→List (Nat×V)→H→Prop} {h σ:H} {e n0 k0 a0:Int} {B0:Int→List Nat} {C:Int→List Nat→Prop} {g gg:Int→Option Nat} {pd:Int→Prop} {x y:LD} {d:List (Int×(Nat×Bool))} {now fB:List (Int×List Nat)} {ps nx dB:List (List Nat)} {E:List (Nat×V)} {S:List aS} {L:List iT} {mk b data dh bG l ew:List Nat} {r1 c1 c2 u r2:List bt} {cs vs:List V} {N M ba B f n m tx aM F mg bW lo i k F' r q a mQ p5 j off o fuel:Nat} {fz:Nat×Nat} {π:Pl} {P:Program} {rc:bt} {ρ:fS} {α H':Type} {t:TypeId} {pv wv dv nv lv av tv:V} {w w':World}
set_option maxRecDepth 10000000 in
set_option maxHeartbeats 0 in
theorem MH : isTrue (run CB 100000 11 [] ⟨0,.lf⟩)=true:=by kernel_rfl
noncomputable def toldAw : List V→H→Option (V×H)
 |[],h=>some (.bool true,h)
 |_,_=>none
theorem Rel.grown (h:Rel c σ w)(hs:w.heap.size≤w'.heap.size)(J:∀b,b<w.heap.size→w'.heap[b]?=w.heap[b]?)(ho:w'.os=w.os∧w'.output=w.output): Rel c σ w'∧dH c w c w':=by
 have rows:∀b,b<w.heap.size→rowSize w' b=rowSize w b:=fun b I=>by unfold rowSize;rw[J b I]
 refine⟨⟨h.next,h.live,fun id hi=>g9 (h.lB id hi) hs,fun id hi=>by rw[rows _ (h.lB id hi)];exact h.zz id hi,h.inj,
  fun id o ho=>(h.obj id o ho).later (Ext.refl c) (h.live id o ho) (J _ (h.lB id (h.live id o ho))),h.one,h.fx⟩,
  ⟨Ext.refl c,hs,rows,fun b I _=>J b I,fun id U h2=>by omega,ho⟩⟩
theorem Pk : DI Tryz.prog 11 toldAw:=by
 refine .inl ⟨⟨_,Tryz.func11,rfl,by decide⟩,fun args σ v ee J c w h hw => ?_⟩
 unfold toldAw at J
 split at J
 ·simp only[aG,bE] at J
  obtain⟨rfl,rfl⟩:=J
  have I:=MH
  cases U:run CB 100000 11 [] ⟨0,.lf⟩ with
  |none=>rw[U] at I;cases I
  |some x =>
   obtain⟨v,h'⟩:=x
   rw[U] at I
   have hv:v=.bool true:=by
    unfold isTrue at I
    split at I
    ·rename_i he;simp only[aG,bE] at he;exact he.1
    ·cases I
   subst hv
   have:=B3 (C:=CB) ir fI U (Rel.empty w) (fun x hx=>by cases hx)
   unfold fT at this ⊢
   refine Calls.mono this ?_
   rintro e w' ⟨c',rfl,_,_,hs⟩
   obtain⟨g1,g2⟩:=h.grown hs.size (fun b hb=>hs.cO b hb fun id xo=>absurd xo (zG _)) hs.sys
   exact⟨c,rfl,aa,g1,g2⟩
 ·cases J
noncomputable def Dd (f:Nat): Option (List V→H→Option (V×H)) :=
 cond (Nat.beq f 11) (some toldAw) (cond (Nat.beq f 117) (some (mP Tryz.prog 117 Eb))
  (cond (Nat.beq f 118) (some (mP Tryz.prog 118 Hw)) (CN f)))
noncomputable abbrev CL : gy:=⟨Tryz.prog,Dd⟩
theorem RQ : W3 Dd:=by
 refine⟨⟨⟨fun f I => ?_,rfl,rfl⟩,rfl,rfl⟩,toldAw,rfl,fun _=>rfl⟩
 have J:f≠11:=fun e=>by subst e;revert I;decide
 have U:f≠117:=fun e=>by subst e;revert I;decide
 have h3:f≠118:=fun e=>by subst e;revert I;decide
 simp only[Dd,eF J,eF U,eF h3,bf]
 exact W.base.free f I
theorem RR : ig CL:=by
 intro f g I
 simp only[CL,Dd] at I ⊢
 by_cases J:f=11
 ·subst J
  rw[qO rfl,ak] at I
  simp only[aG] at I
  subst I
  exact Pk
 ·rw[eF J,bf] at I
  by_cases U:f=117
  ·subst U
   rw[qO rfl,ak] at I
   simp only[aG] at I
   subst I
   exact yD ⟨_,yB,rfl,by decide⟩
  ·rw[eF U,bf] at I
   by_cases h3:f=118
   ·subst h3
    rw[qO rfl,ak] at I
    simp only[aG] at I
    subst I
    exact yD ⟨_,Hl,rfl,by decide⟩
   ·rw[eF h3,bf] at I
    exact fI f g I
end Go.Proofs.YtiojppeahfoiaaaGreat.Am
namespace Go.Proofs.YtiojppeahfoiaaaGreat.Am
open Go Go.ChangeShapes Go.WideShapes Go.ChangeAt Go.RowKit
variable {X:aS} {cl:Bool} {c:Ctx} {D:iT} {δ:Dk} {ε ε' t_:bA} {Q:Ex→List (Nat×V)→H→Prop} {h σ:H} {e n0 k0 a0:Int} {B0:Int→List Nat} {C:Int→List Nat→Prop} {g gg:Int→Option Nat} {pd:Int→Prop} {x y:LD} {d:List (Int×(Nat×Bool))} {now fB:List (Int×List Nat)} {ps nx dB:List (List Nat)} {E:List (Nat×V)} {S:List aS} {L:List iT} {mk b data dh bG l ew:List Nat} {r1 c1 c2 u r2:List bt} {cs vs:List V} {N M ba B f n m tx aM F mg bW lo i k F' r q a mQ p5 j off o fuel:Nat} {fz:Nat×Nat} {π:Pl} {P:Program} {rc:bt} {ρ:fS} {α H':Type} {t:TypeId} {pv wv dv nv lv av tv:V} {w w':World}
noncomputable def u6 (P:Program)(t:TypeId): Array Field:=match P.underlying t with
 |some (.struct fs)=>fs
 |_ => #[]
def Fq (fs:Array Field)(i:Nat): Option (TypeId×Nat):=(fs[i]?).map fun f=>(f.type,f.offset)
theorem YR : Tryz.prog.underlying 118=some (.struct (u6 Tryz.prog 118)):=by kernel_rfl
theorem YS : Tryz.prog.underlying 39=some (.struct (u6 Tryz.prog 39)):=by kernel_rfl
theorem Te : Tryz.prog.cellsOf 118=2:=by kernel_rfl
theorem Tf : Tryz.prog.cellsOf 39=4:=by kernel_rfl
theorem IE : Tryz.prog.cellsOf 3=1:=by kernel_rfl
theorem Tg : Tryz.prog.cellsOf 23=1:=by kernel_rfl
theorem YT : Tryz.prog.cellsOf 37=1:=by kernel_rfl
theorem YU : (u6 Tryz.prog 118).size=2:=by kernel_rfl
theorem YV : (u6 Tryz.prog 39).size=4:=by kernel_rfl
theorem YW : Fq (u6 Tryz.prog 118) 0=some (3,0):=by kernel_rfl
theorem YX : Fq (u6 Tryz.prog 118) 1=some (23,1):=by kernel_rfl
theorem YY : Fq (u6 Tryz.prog 39) 0=some (3,0):=by kernel_rfl
theorem YZ : Fq (u6 Tryz.prog 39) 1=some (3,1):=by kernel_rfl
theorem Y0 : Fq (u6 Tryz.prog 39) 2=some (37,2):=by kernel_rfl
theorem Y1 : Fq (u6 Tryz.prog 39) 3=some (23,3):=by kernel_rfl
theorem vZ {fs:Array Field}(h:Fq fs i=some (t,o)): ∃f,fs[i]?=some f∧f.type=t∧f.offset=o:=by
 unfold Fq at h
 obtain⟨f,J,I⟩:=Option.map_eq_some_iff.1 h
 simp only[bE] at I
 exact⟨f,J,I.1,I.2⟩
def Pm (vs:List V)(x:Int×List Nat): aS:=.xs fun u:V=>.an (.pu (vs=[.int .i64 x.1,u])) (.cm u x.2)
theorem aF.Pm (vs:List V)(x:Int×List Nat): aF (Am.Pm vs x):=aF.xs fun _=>aF.an (aF.pu _) (aF.cm _ _)
def Pn (vs:List V)(D:iT): aS:=.xs fun w:V=>.xs fun d:V=>.an (.pu (vs=[.int .i64 D.act,.int .i64 D.cO,w,d])) (qw w d D)
theorem aF.Pn (vs:List V)(D:iT): aF (Am.Pn vs D):=aF.xs fun _=>aF.xs fun _=>aF.an (aF.pu _) (aF.qw _ _ _)
theorem Th {l:List α}(h:l.length=2): ∃a b,l=[a,b]:=by
 rcases l with _|⟨a,_|⟨b,_|⟨c,l⟩⟩⟩<;>simp at h
 exact⟨a,b,rfl⟩
theorem Ti {l:List α}(h:l.length=4): ∃a b c d,l=[a,b,c,d]:=by
 rcases l with _|⟨a,_|⟨b,_|⟨c,_|⟨d,_|⟨e,l⟩⟩⟩⟩⟩<;>simp at h
 exact⟨a,b,c,d,rfl⟩
section
variable {enc:TypeId×Value→H'} {W:World} {cs:List Value} {x:DataW H'×List MemPlace}
theorem UU (h:DataW.trod enc Tryz.prog W 0 (fun _=>true) true fuel 118 cs=some x)(hB:Rows.uptoBulk x.1≤B): nH W cs Pm (fun y=>y.2.length≤B):=by
 obtain⟨xs,n,rfl,rfl,hl,hx,hf⟩:=DataW.trod_struct YR h
 rw[Te] at hl
 rw[YU] at hx
 obtain⟨f0,a0,b0,c0⟩:=vZ YW
 obtain⟨f1,a1,b1,c1⟩:=vZ YX
 have J:=hf 0 f0 a0
 have U:=hf 1 f1 a1
 rw[b0,c0,IE] at J
 rw[b1,c1,Tg] at U
 obtain⟨v0,v1,rfl⟩:=Th hl
 obtain⟨y0,I,rfl⟩:=Th hx
 have J:DataW.trod enc Tryz.prog W 0 (fun _=>true) true n 3 [v0]=some y0:=J
 have U:DataW.trod enc Tryz.prog W 0 (fun _=>true) true n 23 [v1]=some I:=U
 obtain⟨m,hm,_,_⟩:=DataW.trod_int bK J
 injection hm with hm _
 subst hm
 have KQ:Rows.uptoBulk I.1≤B:=by
  rw[ID] at hB
  have:=sg (l:=[y0.1,I.1]) (d:=I.1) (by simp)
  have e:([y0,I].map (·.1))=[y0.1,I.1]:=rfl
  rw[e] at hB
  omega
 intro c σ S hr
 obtain⟨c',ee,vs,l,r1,r2,r3,r4,r5⟩:=Ax U KQ c σ S hr
 obtain⟨u,rfl,hu⟩:=th r3
 refine⟨c',ee,[.int .i64 m,u],(m,l),r1.sat fun h s=>s.fR fun a b k => ?_,r2,by simp[conc,hu],fun v hv => ?_,r5⟩
 ·obtain⟨u',e,k⟩:=k
  injection e with e _
  subst e
  exact⟨u,rfl,k⟩
 ·rcases List.mem_cons.1 hv with rfl|hv
  ·exact⟨aa,rfl⟩
  ·exact r4 v hv
theorem RT (h:DataW.trod enc Tryz.prog W 0 (fun _=>true) true fuel 37 cs=some x)(I:Rows.uptoBulk x.1≤B): nH W cs (A3 2 og) (fun xs=>xs.length≤B∧∀y∈xs,y.2.length≤B) :=
 Fp (E:=Pm) C5 Te (by decide) aF.Pm (fun l m=>aF.og m l) (fun _ _=>trivial) (fun vs x l m a b J U=>by
  obtain⟨u,e,k⟩:=J
  have e:vs=[.int .i64 x.1,u]:=e
  subst e
  exact⟨⟨rfl,k⟩,U⟩) (fun n cs y hy hb=>UU hy hb) h I
theorem UW (h:DataW.trod enc Tryz.prog W 0 (fun _=>true) true fuel 39 cs=some x)(hB:Rows.uptoBulk x.1≤B): nH W cs Pn (fun D=>D.data.length≤B∧D.w.length≤B∧∀y∈D.w,y.2.length≤B):=by
 obtain⟨xs,n,rfl,rfl,hl,hx,hf⟩:=DataW.trod_struct YS h
 rw[Tf] at hl
 rw[YV] at hx
 obtain⟨f0,a0,b0,c0⟩:=vZ YY
 obtain⟨f1,a1,b1,c1⟩:=vZ YZ
 obtain⟨f2,a2,b2,c2⟩:=vZ Y0
 obtain⟨f3,a3,b3,c3⟩:=vZ Y1
 have h0:=hf 0 f0 a0
 have h1:=hf 1 f1 a1
 have h2:=hf 2 f2 a2
 have h3:=hf 3 f3 a3
 rw[b0,c0,IE] at h0
 rw[b1,c1,IE] at h1
 rw[b2,c2,YT] at h2
 rw[b3,c3,Tg] at h3
 obtain⟨v0,v1,v2,v3,rfl⟩:=Ti hl
 obtain⟨y0,y1,I,J,rfl⟩:=Ti hx
 have h0:DataW.trod enc Tryz.prog W 0 (fun _=>true) true n 3 [v0]=some y0:=h0
 have h1:DataW.trod enc Tryz.prog W 0 (fun _=>true) true n 3 [v1]=some y1:=h1
 have h2:DataW.trod enc Tryz.prog W 0 (fun _=>true) true n 37 [v2]=some I:=h2
 have h3:DataW.trod enc Tryz.prog W 0 (fun _=>true) true n 23 [v3]=some J:=h3
 obtain⟨m0,U,_,_⟩:=DataW.trod_int bK h0
 injection U with U _
 subst U
 obtain⟨m1,xx,_,_⟩:=DataW.trod_int bK h1
 injection xx with xx _
 subst xx
 rw[ID] at hB
 have e:([y0,y1,I,J].map (·.1))=[y0.1,y1.1,I.1,J.1]:=rfl
 rw[e] at hB
 have XE:Rows.uptoBulk I.1≤B:=by
  have:=sg (l:=[y0.1,y1.1,I.1,J.1]) (d:=I.1) (by simp)
  omega
 have XF:Rows.uptoBulk J.1≤B:=by
  have:=sg (l:=[y0.1,y1.1,I.1,J.1]) (d:=J.1) (by simp)
  omega
 intro c σ S hr
 obtain⟨c1,RO,vs1,l,r1,r2,r3,r4,r5⟩:=Ax h3 XF c σ S hr
 obtain⟨d,rfl,hd⟩:=th r3
 obtain⟨c2,XC,vs2,ws,t1,t2,t3,t4,t5⟩:=RT h2 XE c1 RO _ r1
 obtain⟨w,rfl,hw⟩:=th t3
 obtain⟨q1,q2⟩:=cu t2 d (r4 d (by simp)).1
 refine⟨c2,XC,[.int .i64 m0,.int .i64 m1,w,d],⟨m0,m1,ws,l⟩,t1.sat fun h s=>s.two (aF.A3 (fun l m=>aF.og m l) _ _) (aF.Td _ _) fun a b k1 k2 => ?_,r2.trans t2,by simp[conc,hw,q1,hd],fun v hv => ?_,r5,t5⟩
 ·obtain⟨w',cs,e1,k1⟩:=k1
  obtain⟨d',e2,k2⟩:=k2
  have e1:[w]=[w']:=e1
  have e2:[d]=[d']:=e2
  injection e1 with e1 _
  injection e2 with e2 _
  subst e1
  subst e2
  exact⟨w,d,rfl,⟨cs,k1⟩,k2⟩
 ·simp only[mT,nM,sW] at hv
  rcases hv with rfl|rfl|rfl|rfl
  ·exact⟨aa,rfl⟩
  ·exact⟨aa,rfl⟩
  ·exact t4 _ (by simp)
  ·exact⟨q2,(r4 _ (by simp)).2⟩
theorem RU (h:DataW.trod enc Tryz.prog W 0 (fun _=>true) true fuel 22 cs=some x)(I:Rows.uptoBulk x.1≤B): nH W cs (A3 4 jx) (fun xs=>xs.length≤B∧∀D∈xs,D.data.length≤B∧D.w.length≤B∧∀y∈D.w,y.2.length≤B) :=
 Fp (E:=Pn) yR Tf (by decide) aF.Pn (fun l m=>aF.jx m l) (fun _ _=>trivial) (fun vs x l m a b J U=>by
  obtain⟨w,d,e,k⟩:=J
  have e:vs=[.int .i64 x.act,.int .i64 x.cO,w,d]:=e
  subst e
  exact⟨⟨⟨rfl,rfl⟩,k⟩,U⟩) (fun n cs y hy hb=>UW hy hb) h I
end
end Go.Proofs.YtiojppeahfoiaaaGreat.Am
namespace Go.Proofs.YtiojppeahfoiaaaGreat.Am
open Go Go.ChangeShapes Go.WideShapes Go.ChangeAt Go.RowKit
variable {X:aS} {cl:Bool} {c:Ctx} {D:iT} {δ:Dk} {ε ε' t_:bA} {Q:Ex→List (Nat×V)→H→Prop} {h σ:H} {e n0 k0 a0:Int} {B0:Int→List Nat} {C:Int→List Nat→Prop} {g gg:Int→Option Nat} {pd:Int→Prop} {x y:LD} {d:List (Int×(Nat×Bool))} {now fB:List (Int×List Nat)} {ps nx dB:List (List Nat)} {E:List (Nat×V)} {S:List aS} {L:List iT} {mk b data dh bG l ew:List Nat} {r1 c1 c2 u r2:List bt} {cs vs:List V} {N M ba B f n m tx aM F mg bW lo i k F' r q a mQ p5 j off o fuel:Nat} {fz:Nat×Nat} {π:Pl} {P:Program} {rc:bt} {ρ:fS} {α H':Type} {t:TypeId} {pv wv dv nv lv av tv:V} {w w':World}
noncomputable def F3 (f:Nat): Option (List V→H→Option (V×H)) :=
 cond (Nat.beq f 191) (some (mP Tryz.prog 191 CX)) (Dd f)
noncomputable abbrev CE : gy:=⟨Tryz.prog,F3⟩
theorem RV : W4 F3:=by
 refine⟨⟨⟨⟨fun f I => ?_,rfl,rfl⟩,rfl,rfl⟩,toldAw,rfl,fun _=>rfl⟩,rfl⟩
 have J:f≠191:=fun e=>by subst e;revert I;decide
 simp only[F3,eF J,bf]
 exact RQ.w.w.free f I
theorem IF : ig CE:=by
 intro f g I
 simp only[CE,F3] at I ⊢
 by_cases J:f=191
 ·subst J
  rw[qO rfl,ak] at I
  simp only[aG] at I
  subst I
  exact yD ⟨_,HT,rfl,by decide⟩
 ·rw[eF J,bf] at I
  exact RR f g I
theorem ij.okE {f:FuncId}{args:List V}{h':H}{v:V}(J:ij CE f args h v h')(I:Rel c h w)(hw:∀x∈args,wf c x): fT Tryz.prog f args c w v h':=by
 obtain⟨N,U⟩:=J
 exact(callF_ok (C:=CE) (FJ ir IF N).1 IF U I hw).1
end Go.Proofs.YtiojppeahfoiaaaGreat.Am
namespace Go.Proofs.YtiojppeahfoiaaaGreat.Am
open Go Go.ChangeShapes Go.WideShapes Go.ChangeAt Go.RowKit
variable {X:aS} {cl:Bool} {c:Ctx} {D:iT} {δ:Dk} {ε ε' t_:bA} {Q:Ex→List (Nat×V)→H→Prop} {h σ:H} {e n0 k0 a0:Int} {B0:Int→List Nat} {C:Int→List Nat→Prop} {g gg:Int→Option Nat} {pd:Int→Prop} {x y:LD} {d:List (Int×(Nat×Bool))} {now fB:List (Int×List Nat)} {ps nx dB:List (List Nat)} {E:List (Nat×V)} {S:List aS} {L:List iT} {mk b data dh bG l ew:List Nat} {r1 c1 c2 u r2:List bt} {cs vs:List V} {N M ba B f n m tx aM F mg bW lo i k F' r q a mQ p5 j off o fuel:Nat} {fz:Nat×Nat} {π:Pl} {P:Program} {rc:bt} {ρ:fS} {α H':Type} {t:TypeId} {pv wv dv nv lv av tv:V} {w w':World}
theorem MI {enc:TypeId×Value→H'}{W:World}{U F4 Y2:Nat}{x1 x2 x3:DataW H'×List MemPlace}{v0 v1 v2:Value}(h1:DataW.trod enc Tryz.prog W 0 (fun _=>true) true U 22 [v0]=some x1)(KQ:Rows.uptoBulk x1.1≤1048576)
 (h2:DataW.trod enc Tryz.prog W 0 (fun _=>true) true F4 23 [v1]=some x2)(XE:Rows.uptoBulk x2.1≤1048576)
 (h3:DataW.trod enc Tryz.prog W 0 (fun _=>true) true Y2 23 [v2]=some x3)(XF:Rows.uptoBulk x3.1≤1048576):
  Calls Tryz.prog 3 #[.int .i64 n0,v0,.int .i64 k0,v1,.int .i64 a0,v2] W fun e w'=>e=.returned (.bool true)∧W.keptBut w' (fun _=>False)∧W.heap.size≤w'.heap.size∧∀b,b<W.heap.size→w'.heap[b]?=W.heap[b]?:=by
 obtain⟨c0,σ0,h0⟩:=yT.zero W
 obtain⟨c1,RO,vs1,L,tH,_,xx,abm,hL,hD⟩:=RU h1 KQ c0 σ0 [] h0
 obtain⟨lv,rfl,Tc⟩:=th xx
 obtain⟨c2,XC,vs2,ch,EK,Y3,MW,abn,_⟩:=Ax h2 XE c1 RO _ tH
 obtain⟨cv,rfl,hcv⟩:=th MW
 obtain⟨c,σ,vs3,la,hr,J,hm3,abo,_⟩:=Ax h3 XF c2 XC _ EK
 obtain⟨bv,rfl,Xd⟩:=th hm3
 have hw0:=cu Y3 lv (abm lv (by simp)).1
 have Gs:=cu J lv hw0.2
 have HR:=cu J cv (abn cv (by simp)).1
 obtain⟨Wk,s⟩:=fU.1 hr.2.2
 have s0:=s
 obtain⟨_,_,_,_,hk⟩:=s0.at (k:=0) rfl
 have e:[bv]=[Wk]:=hk.1
 injection e with e _
 subst e
 have s:=s.fR (B:=.cm bv la) fun _ _ k=>k.2
 obtain⟨cv',s⟩:=fU.1 (s.ae [1])
 have s0:=s
 obtain⟨_,_,_,_,hk⟩:=s0.at (k:=0) rfl
 have e:[cv]=[cv']:=hk.1
 injection e with e _
 subst e
 have s:=s.fR (B:=.cm cv ch) fun _ _ k=>k.2
 have s:Sat σ (.cm cv ch::.cm bv la::A3 4 jx [lv] L::[]):=s
 obtain⟨lv',s⟩:=fU.1 (s.ae [2])
 obtain⟨cs,s⟩:=fU.1 s
 have s0:=s
 obtain⟨_,_,_,_,hk⟩:=s0.at (k:=0) rfl
 have e:[lv]=[lv']:=hk.1
 injection e with e _
 subst e
 have s1:=((s.fR (B:=.an (j7 4 lv cs) (jx cs L)) fun _ _ k=>k.2).dup (aF.an (aF.j7 _ _ _) (aF.jx _ _))).fR (B:=j7 4 lv cs) (fun _ _ k=>k.1) |>.ae [1] |>.fR (B:=jx cs L) (fun _ _ k=>k.2) |>.ae [1]
 obtain⟨v',h',B5,rfl⟩:=RM RV (ch:=ch) (cv:=cv) (la:=la) (bv:=bv) (n0:=n0) (k0:=k0) (a0:=a0) hD hL s1
 have ke:=B5.okE hr.1 (fun x I=>by
  rcases List.mem_cons.1 I with rfl|I
  ·exact aa
  rcases List.mem_cons.1 I with rfl|I
  ·exact Gs.2
  rcases List.mem_cons.1 I with rfl|I
  ·exact aa
  rcases List.mem_cons.1 I with rfl|I
  ·exact HR.2
  rcases List.mem_cons.1 I with rfl|I
  ·exact aa
  rw[List.mem_singleton.1 I];exact(abo bv (by simp)).1)
 unfold fT at ke
 have ea:(([.int .i64 n0,lv,.int .i64 k0,cv,.int .i64 a0,bv].map (conc c)).toArray) = #[.int .i64 n0,v0,.int .i64 k0,v1,.int .i64 a0,v2]:=by simp[conc,Gs.1,hw0.1,HR.1,Tc,hcv,Xd]
 rw[ea] at ke
 refine Calls.mono ke ?_
 rintro e w' ⟨c',rfl,_,_,hs⟩
 obtain⟨k1,k2,k3⟩:=JK hr.2.1 hs
 exact⟨by simp[conc],k1,k2,k3⟩
end Go.Proofs.YtiojppeahfoiaaaGreat.Am
namespace Go.Proofs.YtiojppeahfoiaaaGreat.AtomDies
open Go.ChangeShapes Go.WideShapes Go.ChangeAt Go.RowKit
theorem own : ownKnob Tryz.prog.godebug=none:=by kernel_rfl
theorem laid : laidOutB Tryz.prog=true:=by kernel_rfl
theorem Mv : Tryz.prog.readableRec 22=true:=by kernel_rfl
theorem row : (22:TypeId)<Tryz.prog.types.size:=of_decide_eq_true (by kernel_rfl)
theorem F5 : Tryz.prog.readableRec 23=true:=by kernel_rfl
theorem XG : (23:TypeId)<Tryz.prog.types.size:=of_decide_eq_true (by kernel_rfl)
set_option maxRecDepth 100000 in
theorem RW (H:Type)(enc:TypeId×Value→H)(W:World)(base:Nat)(args:Array Value)(ds gs:List (DataW H))(before:List MemPlace)
 (I:∀(j:Nat) t v,Tryz.f3.params[j]?=some t→args[j]?=some v→Value.okWide Tryz.prog W .any base t v)
 (hW:DataW.Whole enc Tryz.prog Tryz.f3.params.toList Rows.atomDiesSpec.vars false W args.toList ds gs before)(hk:Rows.uptoBulkAll (ds++gs)≤1048576):
  Calls Tryz.prog 3 args W fun e W'=>∃v,e=.returned v∧Rows.atomDiesSpec.post enc Tryz.prog Tryz.f3 false true false false W args v W':=by
 have Tj:=hW
 obtain⟨p,q,hA0,hV,rfl,Em,mL⟩:=hW
 have hA:DataW.TrodAll enc Tryz.prog W 0 (fun _=>true) true Tryz.f3.params.toList args.toList ds p:=hA0
 rw[Tryz.params3] at hA I
 obtain⟨n0,vs0,e0,ds0,p0,q0,Sb,rfl,rfl,NU,r0⟩:=trodAll_cons hA
 obtain⟨v0,vs1,d0,ds1,p1,q1,rfl,rfl,rfl,h0,r1⟩:=trodAll_cons r0
 obtain⟨k0,vs2,e2,ds2,p2,q2,rfl,rfl,rfl,jd,r2⟩:=trodAll_cons r1
 obtain⟨v1,vs3,d1,ds3,p3,q3,rfl,rfl,rfl,h1,r3⟩:=trodAll_cons r2
 obtain⟨g0,vs4,e4,ds4,p4,q4,rfl,rfl,rfl,hi4,r4⟩:=trodAll_cons r3
 obtain⟨v2,vs5,d2,ds5,p5,q5,rfl,rfl,rfl,h2,r5⟩:=trodAll_cons r4
 obtain⟨rfl,rfl,rfl⟩:=trodAll_nil r5
 obtain rfl:args = #[n0,v0,k0,v1,g0,v2]:=by cases args;simp_all
 obtain⟨rfl,rfl⟩:=trodVars_none hV
 obtain⟨a0,rfl,rfl,rfl,w0⟩:=open_int Tryz.underlying3 (I 0 3 n0 rfl rfl) NU
 obtain⟨a2,rfl,rfl,rfl,w2⟩:=open_int Tryz.underlying3 (I 2 3 k0 rfl rfl) jd
 obtain⟨a4,rfl,rfl,rfl,w4⟩:=open_int Tryz.underlying3 (I 4 3 g0 rfl rfl) hi4
 obtain⟨U,h0⟩:=h0
 obtain⟨fuel,h1⟩:=h1
 obtain⟨F4,h2⟩:=h2
 have XH:v0.cells.toList=[v0]:=by
  have:=I 1 22 v0 rfl rfl
  simp only[Value.okWide,Tryz.underlying22,Cell.okWide,Cell.ok] at this
  split at this<;>first|rfl|exact this.elim
 have z_:v1.cells.toList=[v1]:=by
  have:=I 3 23 v1 rfl rfl
  simp only[Value.okWide,Tryz.underlying23,Cell.okWide,Cell.ok] at this
  split at this<;>first|rfl|exact this.elim
 have XI:v2.cells.toList=[v2]:=by
  have:=I 5 23 v2 rfl rfl
  simp only[Value.okWide,Tryz.underlying23,Cell.okWide,Cell.ok] at this
  split at this<;>first|rfl|exact this.elim
 have S4:=h0
 rw[XH] at h0
 have JR:=h1
 rw[z_] at h1
 have Nm:=h2
 rw[XI] at h2
 have RX:∀d∈[DataW.lit (Lit.int .i64 a0),d0,DataW.lit (Lit.int .i64 a2),d1,DataW.lit (Lit.int .i64 a4),d2]++([]:List (DataW H)),Rows.uptoBulk d≤1048576:=fun d hd=>Nat.le_trans (Am.sg hd) hk
 refine(Am.MI (n0:=a0) (k0:=a2) (a0:=a4) h0 (RX d0 (by simp)) h1 (RX d1 (by simp)) h2 (RX d2 (by simp))).mono fun e W' ⟨he,hg,hs,Tk⟩ => ?_
 subst he
 have XJ:∀x∈p1,x.block<W.heap.size:=fun x J=>Tj.lt x (by simp[J])
 have b8:∀x∈p3,x.block<W.heap.size:=fun x J=>Tj.lt x (by simp[J])
 have Io:∀x∈p5,x.block<W.heap.size:=fun x J=>Tj.lt x (by simp[J])
 have cO:∀ {p:List MemPlace},(∀x∈p,x.block<W.heap.size)→∀x∈p,match x with|.cell b off=>W'.cell? ⟨b,off,none⟩=W.cell? ⟨b,off,none⟩|.map b=>W'.heap[b]?=W.heap[b]?:=fun hp x J=>by
  have hl:=hp x J
  cases x with
  |cell b off =>
   show W'.cell? ⟨b,off,none⟩=W.cell? ⟨b,off,none⟩
   unfold World.cell?
   rw[Tk b hl]
  |map b=>exact Tk b hl
 have XK:DataW.trod enc Tryz.prog W' 0 (fun b=>decide (b<W.heap.size)) true U 22 v0.cells.toList=some (d0,p1) :=
  DataW.trod_stays (kids_book laid Mv) (book_sized Mv) (fun h=>by cases h) ⟨row,book_self _⟩ S4 (cO XJ) (fun x J=>by simpa using XJ x J)
 have Y4:DataW.trod enc Tryz.prog W' 0 (fun b=>decide (b<W.heap.size)) true fuel 23 v1.cells.toList=some (d1,p3) :=
  DataW.trod_stays (kids_book laid F5) (book_sized F5) (fun h=>by cases h) ⟨XG,book_self _⟩ JR (cO b8) (fun x J=>by simpa using b8 x J)
 have XL:DataW.trod enc Tryz.prog W' 0 (fun b=>decide (b<W.heap.size)) true F4 23 v2.cells.toList=some (d2,p5) :=
  DataW.trod_stays (kids_book laid F5) (book_sized F5) (fun h=>by cases h) ⟨XG,book_self _⟩ Nm (cO Io) (fun x J=>by simpa using Io x J)
 exact⟨_,rfl,⟨_,[],_,[],_,[],Tj,trodAll_cons_mk (shut_bool Tryz.underlying4 _) trodAll_mk0,trodAll_cons_mk (shut_int Tryz.underlying3 w0) (trodAll_cons_mk ⟨U,XK⟩ (trodAll_cons_mk (shut_int Tryz.underlying3 w2) (trodAll_cons_mk ⟨fuel,Y4⟩ (trodAll_cons_mk (shut_int Tryz.underlying3 w4) (trodAll_cons_mk ⟨F4,XL⟩ trodAll_mk0))))),rfl,World.keptBut_mono (fun _ f=>f.elim) hg,fun h=>by cases h⟩⟩
set_option maxRecDepth 100000 in
theorem lifted (os:Os)(started:os.Started)(H:Type)(enc:TypeId×Value→H)(F:Stop.Interp):
  ReturnsInHanded {} Tryz.checked os 3 .any ((Rows.OpenSpec.upto Rows.atomDiesSpec).pre6 enc Tryz.prog Tryz.f3 Rows.atomDiesUptoRow.domain false) (((Rows.OpenSpec.upto Rows.atomDiesSpec).at F).post enc Tryz.prog Tryz.f3 false true false false):=by
 refine returnsInHanded_of_cond (C:=Tryz.checked) (s:=Rows.OpenSpec.upto Rows.atomDiesSpec) (k:=Rows.uptoSmall) rfl own started (by kernel_rfl) Tryz.func3
  (OpenSpec.witness (enc:=enc) (C:=Tryz.checked) (s:=Rows.OpenSpec.upto Rows.atomDiesSpec) (k:=Rows.uptoSmall) rfl false ⟨#[], #[.int .i64 0,.slice none 0 0,.int .i64 0,.slice none 0 0,.int .i64 0,.slice none 0 0],[]⟩ 8 (by kernel_rfl) (by kernel_rfl) (by kernel_rfl)
   (x:=([.lit (.int .i64 0),.nil,.lit (.int .i64 0),.nil,.lit (.int .i64 0),.nil],[],[])) (by kernel_rfl) rfl (by kernel_rfl)) ?_
 intro W base args ds gs before I J _ U _
 exact RW H enc W base args ds gs before I J (of_decide_eq_true U)
theorem bV : Rows.atomDiesUptoRow.holds Tryz.pinned (Rows.OpenSpec.upto Rows.atomDiesSpec) :=
 OpenClaim.holds_of_cond 3 Tryz.f3 rfl rfl rfl rfl rfl rfl rfl ⟨rfl,rfl,rfl,rfl,rfl⟩ rfl rfl rfl rfl rfl (by kernel_rfl) Tryz.func3 (by kernel_rfl)
  (of_decide_eq_true (by kernel_rfl)) (by unfold Func.isWrapper;first|(rw[if_pos (by decide +kernel)];kernel_rfl)|(rw[if_neg (by decide +kernel)];exact⟨rfl,rfl⟩))
  (fun os started H enc _ F=>lifted os started H enc F)
theorem proved : Rows.AtomDiesUptoSaid :=
 bV
#print axioms proved
end Go.Proofs.YtiojppeahfoiaaaGreat.AtomDies
