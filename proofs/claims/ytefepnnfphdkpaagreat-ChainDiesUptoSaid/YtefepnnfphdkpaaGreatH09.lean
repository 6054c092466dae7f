/- ChainDies: a part of its proof; conditions: its statement's. -/
import Derived.Test.YtefepnnfphdkpaaGreatH06
import Derived.Test.YtefepnnfphdkpaaGreatH05
import Derived.Test.YtefepnnfphdkpaaGreatH08
import Derived.Test.YtefepnnfphdkpaaGreatH04
import Derived.WalkKit
import Derived.ProofKit
import Derived.OpenShut
import Derived.ChangeSlices
import Derived.Test.YtefepnnfphdkpaaGreatRows
import Derived.JoinedCond
import Derived.ChangeBook
import Derived.ChangeStays
set_option linter.defProp false
namespace Go.Proofs.YtefepnnfphdkpaaGreat.Am
open Go
def xD:=@Tryz.underlying82
variable {C:Array Value} {X Y:aL} {ε af:aX} {lv dd:aX→Prop} {Q:Ex→List (Nat×V)→H→Prop} {h σ:H} {x y z:Int} {P P':Int→List Nat} {L:List (Int×Int×Nat)} {now nm:List (Int×List Nat)} {dy:List (List Nat)} {E:List (Nat×V)} {S:List aL} {U:List Bool} {R M b l c data R0 M0:List Nat} {rs:List cz} {Rt ds M5 Rk vs nc:List V} {cs:List Value} {N B n g a q r aC p4 p5 p6 K p7 i F k fi off o fuel uY:Nat} {fz:Nat×Nat} {α H':Type} {e t:TypeId} {rv uv dv uk cv av nv:V}
theorem fI.roots (h:fI N R M P){I:List Nat}(J:P' 1=P 1)(h0:∃ex,dR (P' 0) 201 N ex [ic,I])(hl:I.length=64): fI N I M P' :=
 ⟨h0,hl,by rw[J];exact h.marks,h.ml,h.n1,h.n2,h.own,h.hi⟩
section
variable {told:cR} {M p:Nat}
theorem O3 (hT:W2 told)(I:EI N B ε)(hB:B≤900)(s:Sat h (SA a p q r .b_ data aC ε::S)):
  Call ⟨Tryz.prog,told⟩ 39 [.ptr a 0] h fun v h'=>v=.int .i64 0∧Sat h' (SA a p q r .b_ data aC (eN ε).2::S):=by
 have u9:=I.bM
 have Cc:=kD (ε:=ε)
 have hNm:=I.many
 obtain⟨q1,q2⟩:=I.aH
 have s:=bn.1 s
 obtain⟨w1,w2,w3⟩:=I.clean
 obtain⟨v1,v2,v3⟩:=I.writeAll
 have J:∀n∈ε.1.aH.map (·.1),(Lit.int .i64 n).wf=true:=fun n hn=>wf_i64 (q1 n hn).1 (by have:=(q1 n hn).2;omega)
 refine(T8 hT s I.ok.ok (by omega) (by omega) J v2.ok.ok.dk (fun e he=>by rw[v2.ec.dk.aq];exact v2.ec.dk.keys _ (nj he))).mono ?_
 rintro v h ⟨rfl,s⟩
 rw[w1]
 exact⟨rfl,bn.2 s⟩
end
theorem fI.adi (h:fI N R M P)(I:P' 0=P 0)(J:P' 1=P 1): fI N R M P':=h.roots J (by rw[I];exact h.head) h.rl
structure W6 (told:cR): Prop where
 w5:W5 told
 fmt:told 31=some (iZ Tryz.prog 31 (FQ 31))
theorem W6.w {told:cR}(h:W6 told): W told:=h.w5.w.w
theorem W6.ws {told:cR}(h:W6 told): WS told:=⟨h.w5.w.w,h.fmt⟩
theorem dR.th {I:List Nat}{kd link extra:Nat}{cs:List (List Nat)}(h:dR b kd link extra cs)(J:iO b I): dR I kd link extra cs:=h.tail J.2.1 J.2.2.symm
theorem fI.th (h:fI N R M P)(I:iO (P 0) (P' 0))(J:iO (P 1) (P' 1)): fI N R M P':=by
 obtain⟨ex,e0⟩:=h.head
 obtain⟨kd,lk,mJ,e1⟩:=h.marks
 exact⟨⟨ex,e0.th I⟩,h.rl,⟨kd,lk,mJ,e1.th J⟩,h.ml,h.n1,h.n2,h.own,h.hi⟩
section
variable {told:cR} {M:Nat}
theorem Mo.Wn (hT:W told): Mo told N (ig N M B F rs) (Dd N F rs) O2:=by
 refine⟨fun _ _=>rfl,fun J h2 m=>(h2 m).trans (J m),fun h=>h,fun {g a p q r aC data now} hw=>⟨⟨_,_,_,rfl,FJ,fun {h S ε n} I h0 J s => ?_⟩,fun hs m => ?_,fun J h2 m=>(h2 m).trans (J m)⟩,fun {h S X g a p q r aC i kd link extra data b now x cs ε} I hw hi s hX hp => ?_,fun {h S g a p q r aC data now ε n} hd hw s => ?_⟩
 ·have u9:=I.FY
  have Cc:=kD (ε:=ε)
  have s:=bn.1 s
  refine(yo hT (n:=n) s I.ok (by omega) (fun e he=>eB (hw.good e he).1)).mono ?_
  rintro v h ⟨e,b,af,hr,hs⟩
  rcases I.qF hr with⟨rfl,hd⟩|⟨k1,k2,k3⟩
  ·rcases hs with⟨_,rfl,s⟩|⟨he,_⟩
   ·exact .inl ⟨af,rfl,hd,bn.2 s⟩
   ·cases he
  ·obtain⟨rfl,rfl⟩:=k3 h0 J
   rcases hs with⟨he,_⟩|⟨_,u,rfl,s⟩
   ·exact absurd rfl he
   ·have s2:Sat h (GA g a p q r data aC now af::aQ u (Am.pgG now ε n)::S):=bn.2 (s.ae [1,1,1,1,1,0])
    exact .inr ⟨u,af,rfl,k1,k2,s2.ae [1]⟩
 ·unfold Am.pgG
  rw[hs m]
 ·have u9:=I.FY
  have Cc:=kD (ε:=ε)
  have hlen:=hp.len
  have hb:=(s.aD (k:=1) rfl hX).1
  have s:=bn.1 s
  refine(GN hT (n:=(i:Int)) s hX (by omega) I.ok (by omega) (fun e he=>eB (hw.good e he).1)).mono ?_
  rintro v h ⟨e,bL,af,hr,rfl,s⟩
  rcases I.y5 hr with⟨rfl,hn,hd⟩|⟨k1,k2,k3⟩
  ·rw[hn] at s
   exact .inl ⟨af,rfl,bn.2 s,hd⟩
  ·obtain⟨rfl,rfl⟩:=k3 (by omega) (by omega) hp.good
   exact .inr ⟨af,rfl,k1,k2,hw.put (by omega) (by omega) hp.good hb,bn.2 s⟩
 ·have LZ:=hd.pt
  have Cc:=kD (ε:=ε)
  have s:=bn.1 s
  refine(yo hT (n:=n) s hd.ok (by omega) (fun e he=>eB (hw.good e he).1)).mono ?_
  rintro v h ⟨e,b,af,hr,hs⟩
  have he:=hd.qF hr
  subst he
  rcases hs with⟨_,rfl,s⟩|⟨rfl,u,rfl,s⟩
  ·exact⟨_,e,af,rfl,hd,bn.2 s⟩
  ·have s2:Sat h (GA g a p q r data aC now af::aQ u b::S):=bn.2 (s.ae [1,1,1,1,1,0])
   exact⟨u,0,af,rfl,hd,s2.del 1⟩
end
abbrev Mod : Type:=V×List V×List Bool
def vJ (N:Nat)(P:Int→List Nat): Prop:=∀i:Nat,2≤i→i<N→(P i).length=512∧(bW (P i)=false∨∃l e c,dR (P i) 203 l e [c]∧e≤1001∧(2≤e→2≤l∧l<N))
theorem vJ.rd (h:vJ N P): ∀(left p:Nat),2≤p→p<N→1≤left→∃r,Rd N P left p r:=by
 intro left
 induction left using Nat.strongRecOn with
 |ind left ih =>
  intro p h1 I h3
  obtain⟨hl,hb|⟨l,e,c,J,he,hn⟩⟩:=h p h1 I
  ·exact⟨_,.bad I hl hb⟩
  ·by_cases q:left<e
   ·exact⟨_,.many I J q⟩
   ·by_cases q2:e≤1
    ·exact⟨_,.last I J q2 (by omega)⟩
    ·obtain⟨k,rfl⟩:∃k,e=k+2:=⟨e-2,by omega⟩
     obtain⟨n1,n2⟩:=hn (by omega)
     obtain⟨r,hr⟩:=ih (k+1) (by omega) l n1 n2 (by omega)
     exact⟨_,.more I J (by omega) he hr⟩
theorem mO.pgk : ∀ {ps:List Nat} {cs:List (List Nat)},mO P ps cs→∀z∈ps,∃l e c,dR (P (z:Nat)) 203 l e [c]∧e≤ps.length∧(2≤e→l∈ps):=by
 intro ps
 induction ps with
 |nil=>simp
 |cons p ps J =>
  intro cs h z I
  cases cs with
  |nil=>exact h.elim
  |cons c cs =>
   rcases List.mem_cons.1 I with rfl|I
   ·refine⟨_,_,_,h.1,by simp,fun q => ?_⟩
    cases ps<;>grind
   ·obtain⟨l,e,c,h1,h2,h3⟩:=J h.2 z I<;>grind
theorem mO.th : ∀ {ps:List Nat} {cs:List (List Nat)},mO P ps cs→(∀z∈ps,iO (P (z:Nat)) (P' (z:Nat)))→mO P' ps cs:=by
 intro ps
 induction ps with
 |nil=>intro cs h _;cases cs with
  |nil=>trivial
  |cons c cs=>exact h
 |cons p ps J=>intro cs h I;cases cs with
  |nil=>exact h
  |cons c cs=>exact⟨h.1.th (I p bZ),J h.2 fun z m=>I z (b8 _ m)⟩
def m_ (N:Nat)(P:Int→List Nat)(m:List (Int×List Nat)): Prop:=∃R M dy,fI N R M P∧mC N P dy m∧(∀j,j<N→bt M j=(decide (j<2)||decide (j∈dy.flatten)))∧vJ N P
section
variable {M':List Nat} {m:List (Int×List Nat)} {r:cz} {xs:List (List V×List (Int×List Nat))} {x:List V×List (Int×List Nat)}
theorem vJ.th (h:vJ N P)(J:∀n:Int,0≤n→n<(N:Int)→iO (P n) (P' n)): vJ N P':=fun i h1 h2=>by
 obtain⟨_,I⟩:=h i h1 h2
 have a:=J i (by omega) (by omega)
 refine⟨a.2.1,?_⟩
 rcases I with I|⟨l,e,c,h4,h5⟩
 ·exact .inl (by rw[←a.good];exact I)
 ·exact .inr ⟨l,e,c,h4.th a,h5⟩
theorem m_.th (h:m_ N P m)(J:∀n:Int,0≤n→n<(N:Int)→iO (P n) (P' n)): m_ N P' m:=by
 obtain⟨R,M,dy,h1,I,h3,h4⟩:=h
 have hn:=h1.n1
 refine⟨R,M,dy,h1.th (J 0 (by decide) (by omega)) (J 1 (by decide) (by omega)),⟨I.len,fun i ps x q1 q2 => ?_,I.nd,I.lt⟩,h3,h4.th J⟩
 have hc:=I.ch i ps x q1 q2
 exact⟨hc.hd,hc.len,hc.ch.th fun z hz=>J z (by omega) (by have:=I.lt z (List.mem_flatten.2 ⟨ps,bD q1,hz⟩);omega),hc.sz⟩
theorem m_.done {aO:Nat}(h:m_ N (pgG now ε) m)(hw:NW N now)(hd:∀m,pgA af m=match lookL m now with|some b=>cW b aO|none=>pgA ε m)(I:∀n:Int,0≤n→n<(N:Int)→(pgA ε n).length=512): m_ N (pgA af) m:=h.th fun n J h1=>by
 rw[hd]
 unfold pgG
 cases hq:lookL n now with
 |none=>exact iO.refl (I n J h1)
 |some b=>exact(CX (eB (hw.look hq).1)).symm
theorem vJ.wrote (h:vJ N P)(J:Cf N R M P ((cM M N).take k) M' P')(hc:mO P' ((cM M N).take k) (chunks b k))(hk:k≤1000)(hs:fI N R M P): vJ N P':=fun i h1 h2=>by
 by_cases hi:i∈(cM M N).take k
 ·obtain⟨l,e,c,I,q2,q3⟩:=hc.pgk i hi
  have:((cM M N).take k).length≤k:=by grind
  exact⟨I.len,.inr ⟨l,e,c,I,by omega,fun q=>hs.V5 (ko (q3 q))⟩⟩
 ·rw[J.same i (by omega) hi];exact h i h1 h2
theorem m_.wrote (h1:fI N R M P)(h2:mC N P dy m)(h3:∀j,j<N→bt M j=(decide (j<2)||decide (j∈dy.flatten)))(h4:vJ N P)(hm:iC b.length=k)(I:k≤(cM M N).length)(J:b.length≤8192)(hg:Cf N R M P ((cM M N).take k) M' P')(hc:mO P' ((cM M N).take k) (chunks b k)): m_ N P' (m++[(((((cM M N).take k).headD 0:Nat):Int),b)]):=by
 obtain⟨q1,q2⟩:=h2.wrote h1 h3 hg hm I hc J
 have:k≤1000:=by grind[iC]
 exact⟨R,M',_,hg.Cg,q1,q2,h4.wrote hg hc this h1⟩
theorem m_.dF {ps:List Nat}{y:Int×List Nat}(J:mC N P (ps::dy) (y::m))(h3:∀j,j<N→bt M j=(decide (j<2)||decide (j∈(ps::dy).flatten)))(h4:vJ N P)(I:RU N R M P ps M' P'): m_ N P' m:=by
 obtain⟨q1,q2⟩:=J.dF h3 I
 exact⟨R,M',dy,I.Cg,q1,q2,fun i a b=>by rw[I.same i (by omega)];exact h4 i a b⟩
structure Ey (N:Nat)(m:List (Int×List Nat)): Prop where
 Ce:m.length≤N
 ok:∀y∈m,y.2.length≤8192∧∃z:Nat,y.1=(z:Int)∧2≤z∧z<N
theorem m_.okx (h:m_ N P m): Ey N m:=by
 obtain⟨R,M,dy,h1,I,h3,h4⟩:=h
 refine⟨I.cV,fun y hy => ?_⟩
 obtain⟨i,hi⟩:=tZ hy
 have:=(List.getElem?_eq_some_iff.1 hi).1
 have J:dy[i]?=some (dy[i]'(by rw[I.len];exact this)):=bx _
 generalize (dy[i]'(by grind))=ps at J
 have hc:=I.ch i ps y J hi
 obtain⟨z,qs,e,hz⟩:=headD_cons hc.one
 exact⟨hc.sz,z,by rw[hc.hd,hz],I.lt z (List.mem_flatten.2 ⟨ps,bD J,by grind⟩)⟩
theorem Ey.lk (h:Ey N m)(J:vJ N P)(hN:N≤3000): Lk N P m:=⟨bX h.Ce hN,fun y I=>(h.ok y I).1,fun y I=>by
 obtain⟨_,z,h1,h2,h3⟩:=h.ok y I
 obtain⟨r,hr⟩:=J.rd 65536 z h2 h3 (by decide)
 exact⟨z,r,h1,hr⟩⟩
def zD (N:Nat)(rs:List cz)(xs:List (List V×List (Int×List Nat))): Prop:=∀k,k<rs.length→∃x,xs[k]?=some x∧m_ N (fun n=>eA (rs.take (k+1)) gQ n) x.2
theorem zD.app (h:zD N rs xs)(J:xs.length=rs.length)(hm:m_ N (fun n=>eA (rs++[r]) gQ n) x.2): zD N (rs++[r]) (xs++[x]):=by
 intro k hk
 by_cases I:k<rs.length
 ·obtain⟨y,h1,h2⟩:=h k I<;>grind
 grind
theorem zD.more (h:zD N rs xs): zD N rs (xs++[x]):=fun k I=>by
 obtain⟨y,J,h2⟩:=h k I<;>grind
structure DiC (N M B F fi:Nat)(rs:List cz)(xs:List (List V×List (Int×List Nat)))(ε:aX): Prop where
 lv:ig N M B F rs ε∨Dd N F rs ε
 md:zD N rs xs
 ok:∀x∈xs,Ey N x.2
 fl:fi<rs.length
 fo:szB (rs.take (fi+1))≤F
 ln:rs.length≤xs.length
theorem FX.many {f:Nat}{δ:Dk}{u:List cz}{j:List Nat}(h:FX N B f c F rs δ u j)(h3:fi<rs.length)(h2:szB (rs.take (fi+1))≤F): fi<u.length∧u.length≤rs.length∧rs.take u.length=u:=by
 obtain⟨w,hu⟩:=h.pre
 have h1:=h.all
 refine v_ fun I => ?_
 have h4:rs.take (fi+1)=u++w.take (fi+1-u.length):=by grind[List.take_append,List.take_of_length_le]
 have J:0<(w.take (fi+1-u.length)).length:=by
  grind
 cases hq:w.take (fi+1-u.length) with
 |nil=>grind
 |cons y l =>
  grind[Ck,qJ,szB]
theorem ig.adj (h:ig N K B F rs ε): (ε.2.1.base:Int)+(ε.2.1.b.length:Int)=((1+szB rs:Nat):Int):=by
 obtain⟨g,I⟩:=h.fm
 have J:ε.2.1.base=1:=I.fs.lr.base
 have h2:ε.2.1.b=logB 1 rs:=I.fs.lr.b
 rw[J,h2,fW];omega
end
def rF (L:List (Int×Int×Nat)): List V:=L.flatMap fun d=>[.int .i64 d.1,.int .i64 d.2.1,.int .u8 (d.2.2:Int)]
theorem FZ : ∀(L:List (Int×Int×Nat)),(rF L).length=L.length*3:=by
 intro L
 induction L<;>grind[rF]
theorem Yj : ∀ {L:List (Int×Int×Nat)} {i:Nat} {d:Int×Int×Nat},L[i]?=some d→((rF L).drop (i*3)).take 3=[.int .i64 d.1,.int .i64 d.2.1,.int .u8 (d.2.2:Int)]:=by
 intro L
 induction L with
 |nil=>simp
 |cons e L I =>
  intro i d h
  cases i with
  |zero =>
   simp at h;subst h
   rfl
  |succ i =>
   rw[show(i+1)*3=i*3+3 by omega]
   exact I h
def Kt (c:Ctx): Prop:=∀id,id<c.N→c.X id=true
noncomputable def Ctx.fix (c:Ctx)(w:World)(b off:Nat): Ctx:=⟨fun i=>if i=c.N then(b,off) else c.ρ i,fun x=>if x=b then rowSize w b else c.Z x,c.N+1,fun i=>if i=c.N then true else c.X i⟩
theorem Rel.fix {c:Ctx}{w:World}(h:Rel c σ w)(hX:Kt c){b:Nat}{cs:List V}(hb:w.heap[b]?=some (.cells C e fz))(hl:off+cs.length≤C.size)
 (hc:∀j v,cs[j]?=some v→C[off+j]?=some (conc c v))(nJ:∀v∈cs,wf c v∧storable v=true):
  Rel (c.fix w b off) (σ.new (.cells cs.length cs true)) w∧Kt (c.fix w b off)∧Ext c (c.fix w b off)∧(c.fix w b off).ρ σ.next=(b,off)∧σ.next<(c.fix w b off).N:=by
 have hold:∀i,i<c.N→(c.fix w b off).ρ i=c.ρ i:=fun i hi=>by grind[Ctx.fix]
 have C_:∀i,i<c.N→(c.fix w b off).X i=c.X i:=fun i hi=>by grind[Ctx.fix]
 have J:(c.fix w b off).ρ c.N=(b,off):=by simp[Ctx.fix]
 have hnX:(c.fix w b off).X c.N=true:=by simp[Ctx.fix]
 have hN:(c.fix w b off).N=c.N+1:=rfl
 have cI:b<w.heap.size:=(Array.getElem?_eq_some_iff.1 hb).1
 have I:Kt (c.fix w b off):=fun i hi=>by
  by_cases h1:i=c.N
  ·grind
  ·rw[C_ i (by omega)];exact hX i (by omega)
 have ex:Ext c (c.fix w b off):=⟨by omega,hold,fun i hi=>by
  show(if (c.ρ i).1=b then rowSize w b else c.Z (c.ρ i).1)=_
  split
  ·rename_i he;rw[h.zz i hi,he]
  ·rfl,C_⟩
 have key:∀i o,(σ.new (.cells cs.length cs true)).tr.get i=some o→(i=c.N∧o=.cells cs.length cs true)∨(i<c.N∧σ.tr.get i=some o):=by
  intro i o hi
  rw[gI,h.next] at hi
  by_cases h1:i=c.N
  ·grind
  ·simp[h1] at hi;exact .inr ⟨h.live i o hi,hi⟩
 refine⟨⟨by simp[H.new,h.next,hN],fun i o hi => ?_,fun i hi => ?_,fun i hi => ?_,fun i j o o' hi hj he => ?_,fun i o hi => ?_,fun i yP nR hi hx => ?_,fun i o hi hx => ?_⟩,I,ex,by rw[h.next];exact J,by rw[h.next,hN];omega⟩
 ·grind
 ·by_cases h1:i=c.N
  ·grind
  ·rw[hold i (by omega)];exact h.lP i (by omega)
 ·by_cases h1:i=c.N
  ·rw[h1,J];show(if b=b then rowSize w b else c.Z b)=_;rw[aP rfl]
  ·rw[hold i (by omega)]
   show(if (c.ρ i).1=b then rowSize w b else c.Z (c.ρ i).1)=_
   split
   ·grind
   ·exact h.zz i (by omega)
 ·have li:i<c.N+1:=by grind
  have lj:j<c.N+1:=by grind
  exact .inr ⟨I i (by omega),I j (by omega)⟩
 ·rcases key i o hi with⟨rfl,rfl⟩|⟨a1,a2⟩
  ·refine⟨rfl,fun v hv=>⟨(cx ex v (nJ v hv).1).2,(nJ v hv).2⟩,C,e,fz,by grind,by grind,fun j v hj => ?_,aa⟩<;>grind[cx]
  ·exact(h.obj i o a2).later ex a1 rfl
 ·have li:i<c.N+1:=by grind
  rw[I i (by omega)] at hx;cases hx
 ·rcases key i o hi with⟨_,rfl⟩|⟨a1,a2⟩
  ·simp
  ·rw[C_ i a1] at hx;exact h.fx i o a2 hx
theorem LC {c c':Ctx}{w w':World}(hX:Kt c)(h:cF c w c' w'): w.keptBut w' (fun _=>False)∧w.heap.size≤w'.heap.size∧∀b,b<w.heap.size→w'.heap[b]?=w.heap[b]?:=by
 have J:∀b,b<w.heap.size→w'.heap[b]?=w.heap[b]?:=fun b hb=>h.kH b hb fun id I _=>hX id I
 refine⟨⟨h.sys.1,h.sys.2,fun i hi => ?_⟩,h.size,J⟩
 rw[J i hi]
 split<;>simp_all
end Go.Proofs.YtefepnnfphdkpaaGreat.Am
namespace Go.Proofs.YtefepnnfphdkpaaGreat.Am
open Go Go.ChangeShapes
variable {C:Array Value} {X Y:aL} {ε af:aX} {lv dd:aX→Prop} {Q:Ex→List (Nat×V)→H→Prop} {h σ:H} {x y z:Int} {P P':Int→List Nat} {L:List (Int×Int×Nat)} {now nm:List (Int×List Nat)} {dy:List (List Nat)} {E:List (Nat×V)} {S:List aL} {U:List Bool} {R M b l c data R0 M0:List Nat} {rs:List cz} {Rt ds M5 Rk vs nc:List V} {cs:List Value} {N B n g a q r aC p4 p5 p6 K p7 i F k fi off o fuel uY:Nat} {fz:Nat×Nat} {α H':Type} {e t:TypeId} {rv uv dv uk cv av nv:V}
def AZ (W:World)(S:List aL)(c:Ctx)(σ:H): Prop:=Rel c σ W∧Kt c∧Sat σ S
theorem AZ.zero (W:World): ∃c σ,AZ W [] c σ:=by
 refine⟨_,_,Rel.empty W,fun id h=>absurd h (EX _),⟨fun id o h=>by simp[T.uB] at h,fun _=>none,fun _=>none,fun _ _ h=>(by cases h),fun _ _ h=>(by cases h),fun _=>.inl rfl,aa⟩⟩
theorem AZ.sat {W:World}{S':List aL}{c:Ctx}(h:AZ W S c σ)(hs:∀h,Sat h S→Sat h S'): AZ W S' c σ:=⟨h.1,h.2.1,hs σ h.2.2⟩
def pH {α:Type}(W:World)(cs:List Value)(E:List V→α→aL)(φ:α→Prop): Prop :=
 ∀(c:Ctx) (σ:H) (S:List aL),AZ W S c σ→∃(c':Ctx) (dz:H) (vs:List V) (x:α),AZ W (E vs x::S) c' dz∧Ext c c'∧vs.map (conc c')=cs∧(∀v∈vs,wf c' v∧storable v=true)∧φ x
theorem pH.rows {W:World}{E:List V→α→aL}{A:List V→List α→aL}{φ:α→Prop}(hE:∀vs x,aV (E vs x))(hA:∀l m,aV (A l m))(xR:∀m r,(A [] []).p m r)(J:∀vs x l m a b,(E vs x).p a b→(A l m).p a b→(A (vs++l) (x::m)).p a b):
  ∀(I:List (List Value)),(∀cs∈I,pH W cs E φ)→pH W I.flatten A (fun xs=>xs.length=I.length∧∀x∈xs,φ x):=by
 intro I
 induction I with
 |nil =>
  intro _ c σ S h
  exact⟨c,σ,[],[],h.sat fun h s=>(s.gD (φ:=True) aa).gK fun m r _=>xR m r,Ext.refl c,rfl,fun v hv=>(by cases hv),rfl,fun x hx=>(by cases hx)⟩
 |cons cs I ih =>
  intro hc c σ S h
  obtain⟨c1,σ1,l,m,h1,e1,m1,w1,n1,p1⟩:=ih (fun x hx=>hc x (b8 _ hx)) c σ S h
  obtain⟨c2,σ2,vs,x,h2,e2,m2,w2,p2⟩:=hc cs bZ c1 σ1 _ h1
  obtain⟨q1,q2⟩:=l9 e2 fun v hv=>(w1 v hv).1
  refine⟨c2,σ2,vs++l,x::m,h2.sat fun h s=>s.two (hE _ _) (hA _ _) fun a b k1 k2=>J _ _ _ _ _ _ k1 k2,e1.trans e2,?_,fun v hv => ?_,by grind,fun y hy => ?_⟩<;>grind
def Sq {α:Type}(k:Nat)(A:List V→List α→aL)(vs:List V)(x:List α): aL:=.xs fun v:V=>.xs fun cs:List V=>.an (.pu (vs=[v])) (.an (pZ k v cs) (A cs x))
theorem pH.adk {W:World}{A:List V→List α→aL}{φ:List α→Prop}(I:∀m r,(A [] []).p m r)(J:φ []): pH W [.slice none 0 0] (Sq k A) φ:=fun c σ S h =>
 ⟨c,σ,[.a_],[],h.sat fun h s=>(s.gD (φ:=True) aa).gK fun m r _=>⟨.a_,[],rfl,⟨none,.inl rfl,rfl⟩,I m r⟩,Ext.refl c,by rfl,fun v hv=>by rw[List.mem_singleton.1 hv];exact⟨aa,rfl⟩,J⟩
theorem pH.aaK {W:World}{A:List V→List α→aL}{φ:List α→Prop}{a:Addr}(I:∀m r,(A [] []).p m r)(J:φ []): pH W [.slice (some a) 0 0] (Sq k A) φ:=fun c σ S h =>
 ⟨c,σ,[.sle a],[],h.sat fun h s=>(s.gD (φ:=True) aa).gK fun m r _=>⟨.sle a,[],rfl,⟨none,.inr ⟨a,rfl⟩,rfl⟩,I m r⟩,Ext.refl c,by rfl,fun v hv=>by rw[List.mem_singleton.1 hv];exact⟨aa,rfl⟩,J⟩
theorem pH.adl {W:World}{b len cap:Nat}{A:List V→List α→aL}{φ:List α→Prop}(hb:W.heap[b]?=some (.cells C e fz))(hl:off+cs.length≤C.size)(hn:cs.length=len*k)(J:len≤cap)
 (hc:∀j v,cs[j]?=some v→C[off+j]?=some v)(hA:∀l m,aV (A l m))(ho:pH W cs A φ): pH W [.slice (some ⟨b,off,none⟩) len cap] (Sq k A) φ:=by
 intro c σ S h
 obtain⟨c1,I,vs,x,h1,e1,m1,w1,p1⟩:=ho c σ S h
 have hlen:vs.length=cs.length:=by grind
 obtain⟨g1,g2,g3,g4,g5⟩:=h1.1.fix h1.2.1 hb (cs:=vs) (off:=off) (by omega) (fun j v hv=>hc j _ (by grind)) w1
 refine⟨_,_,[.sl I.next 0 len (.exact cap)],x,⟨g1,g2,?_⟩,e1.trans g3,?_,fun v hv => ?_,p1⟩
 ·have s1:Sat (I.new (.cells vs.length vs true)) (.ro I.next (.cells vs.length vs true)::A vs x::S):=(h1.2.2.new _).freeze
  refine s1.two (aV.ro _ _) (hA _ _) fun m r k1 k2=>⟨_,vs,rfl,⟨some (I.next,len,cap),k1,rfl,by omega⟩,k2⟩
 ·simp[conc,g4]
 ·rw[List.mem_singleton.1 hv]
  exact⟨⟨g5,J⟩,rfl⟩
def byE (vs:List V)(l:List Nat): aL:=.xs fun v:V=>.an (.pu (vs=[v])) (.bY v l)
theorem Ku {W:World}{a:Addr}{v:Value}(h:W.cell? a=some v): ∃b off,a=⟨b,off,none⟩∧∃C e fz,W.heap[b]?=some (.cells C e fz)∧C[off]?=some v:=by
 obtain⟨b,off,spot⟩:=a
 have hs:spot=none:=World.cell?_spot h
 grind[World.cell?]
theorem M6 {β:Type}{f:α→β}{l:List α}{b:β}(h:l.map f=[b]): ∃a,l=[a]∧f a=b:=by
 simp_all
end Go.Proofs.YtefepnnfphdkpaaGreat.Am
namespace Go.Proofs.YtefepnnfphdkpaaGreat.Am
open Go Go.ChangeShapes Go.WideShapes Go.ChangeAt Go.RowKit
variable {C:Array Value} {X Y:aL} {ε af:aX} {lv dd:aX→Prop} {Q:Ex→List (Nat×V)→H→Prop} {h σ:H} {x y z:Int} {P P':Int→List Nat} {L:List (Int×Int×Nat)} {now nm:List (Int×List Nat)} {dy:List (List Nat)} {E:List (Nat×V)} {S:List aL} {U:List Bool} {R M b l c data R0 M0:List Nat} {rs:List cz} {Rt ds M5 Rk vs nc:List V} {cs:List Value} {N B n g a q r aC p4 p5 p6 K p7 i F k fi off o fuel uY:Nat} {fz:Nat×Nat} {α H':Type} {e t:TypeId} {rv uv dv uk cv av nv:V}
theorem U2 {H:Type}(d:DataW H): 1≤Rows.uptoBulk d:=by
 cases d with
 |lit l=>cases l<;>simp[Rows.uptoBulk]
 |nil=>simp[Rows.uptoBulk]
 |ptr d=>simp[Rows.uptoBulk]
 |slice elems spare=>simp[Rows.uptoBulk]
 |agg parts=>simp[Rows.uptoBulk]
 |iface t d=>simp[Rows.uptoBulk]
 |map entries=>simp[Rows.uptoBulk]
 |held h=>simp[Rows.uptoBulk]
theorem A0 {H:Type}{d:DataW H}: ∀ {l:List (DataW H)},d∈l→Rows.uptoBulk d≤Rows.uptoBulkAll l:=by
 intro l
 induction l<;>grind[Rows.uptoBulkAll]
theorem Kv {H:Type}: ∀(l:List (DataW H)),l.length≤Rows.uptoBulkAll l:=by
 intro l
 induction l<;>grind[U2,Rows.uptoBulkAll]
theorem Ez {H:Type}(a b:List (DataW H)): Rows.uptoBulk (.slice a b)=Rows.uptoBulkAll a+Rows.uptoBulkAll b+1:=by rfl
theorem M7 {W:World}{b:Nat}(I:W.heap[b]?=some (.cells C e fz)): W.cell? ⟨b,o,none⟩=C[o]?:=by
 grind[World.cell?]
section
variable {enc:TypeId×Value→H'} {W:World} {x:DataW H'×List MemPlace}
theorem Yk (h:DataW.trod enc Tryz.prog W 0 (fun _=>true) true fuel 28 cs=some x)(hB:Rows.uptoBulk x.1≤B): pH W cs byE (fun l=>l.length≤B):=by
 rcases open_ints aK Tryz.underlying5 (by kernel_rfl) h with⟨rfl,rfl⟩|⟨a,len,cap,zs,rfl,_,Rb,_,hz,rfl,I,nJ⟩
 ·exact fun c σ S h=>⟨c,σ,[.a_],[],h.sat fun h s=>s.sy.gK fun m r k=>⟨.a_,rfl,k⟩,Ext.refl c,by rfl,fun v hv=>by rw[List.mem_singleton.1 hv];exact⟨aa,rfl⟩,fe _⟩
 ·rw[aP rfl] at hz
  by_cases h0:cap=0
  ·have:len=0:=by omega
   subst this
   subst h0
   exact fun c σ S h=>⟨c,σ,[.sle a],[],h.sat fun h s=>(s.gD (φ:=True) aa).gK fun m r k=>⟨.sle a,rfl,by simp,.inl ⟨.inr ⟨a,rfl⟩,rfl⟩⟩,Ext.refl c,by rfl,fun v hv=>by rw[List.mem_singleton.1 hv];exact⟨aa,rfl⟩,fe _⟩
  ·have g0:=I 0 (by omega)
   obtain⟨b,off,spot⟩:=a
   have hs:spot=none:=by simpa[Addr.add] using World.cell?_spot g0
   subst hs
   have I:∀i,i<zs.length→W.cell? ⟨b,off+i,none⟩=some (.int .u8 (zs.getD i 0)):=fun i hi=>by grind[add_plain]
   obtain⟨b',off',he,C,e,fz,hb,hc0⟩:=Ku (I 0 (by omega))
   simp only[Addr.mk.injEq,and_true] at he
   obtain⟨rfl,rfl⟩:=he
   have hC:∀i,i<zs.length→C[off+i]?=some (.int .u8 (zs.getD i 0)):=fun i hi=>by grind[M7]
   have adm:off<C.size:=by
    grind
   have hu8:∀z∈zs,0≤z∧z<256:=fun z hz=>by
    have:=nJ z hz
    simp only[Lit.wf,bQ,gE] at this
    have e1:IntKind.min .u8=0:=rfl
    have e2:IntKind.max .u8=255:=rfl
    omega
   have J:((zs.take len).map Int.toNat).length=len:=by grind
   have YG:(ofBytes ((zs.take len).map Int.toNat)).length=len:=by rw[dV,J]
   have adn:∀y∈(zs.take len).map Int.toNat,y<256:=fun y hy=>by
    grind
   intro c σ S h
   have eX:off+(ofBytes ((zs.take len).map Int.toNat)).length≤C.size:=by
    by_cases qN:len=0
    ·omega
    ·have:=(Array.getElem?_eq_some_iff.1 (hC (len-1) (by omega))).1
     omega
   have ado:∀j v,(ofBytes ((zs.take len).map Int.toNat))[j]?=some v→C[off+j]?=some (conc c v):=fun j v hv=>by
    grind[ofBytes,List.getElem_mem,conc]
   obtain⟨g1,g2,g3,g4,g5⟩:=h.1.fix h.2.1 hb (off:=off) eX ado (fun v hv=>by obtain⟨n,_,rfl⟩:=List.mem_map.1 hv;exact⟨aa,rfl⟩)
   refine⟨_,_,[.sl σ.next 0 len (.exact cap)],(zs.take len).map Int.toNat,⟨g1,g2,?_⟩,g3,?_,fun v hv => ?_,?_⟩
   ·have s1:=(h.2.2.new (.cells (ofBytes ((zs.take len).map Int.toNat)).length (ofBytes ((zs.take len).map Int.toNat)) true)).freeze
    refine s1.gK fun m r k=>⟨_,rfl,adn,.inr ⟨σ.next,0,.exact cap,_,_,true,by rw[J],k,rfl,by omega,?_,?_⟩⟩<;>grind
   ·simp[conc,g4]
   ·rw[List.mem_singleton.1 hv]
    exact⟨⟨g5,Rb⟩,rfl⟩
   ·rw[Ez] at hB
    have h1:=Kv (lits (H:=H') .u8 (zs.take len))
    grind[lits]
theorem Sr {E:List V→α→aL}{A:List V→List α→aL}{φ:α→Prop}(ht:Tryz.prog.underlying t=some (.slice e))(hk:Tryz.prog.cellsOf e=k)(h1:1≤k)
 (hE:∀vs x,aV (E vs x))(hA:∀l m,aV (A l m))(xR:∀m r,(A [] []).p m r)(Nn:∀vs x l m a b,(E vs x).p a b→(A l m).p a b→(A (vs++l) (x::m)).p a b)
 (PG:∀n cs (y:DataW H'×List MemPlace),DataW.trod enc Tryz.prog W 0 (fun _=>true) true n e cs=some y→Rows.uptoBulk y.1≤B→pH W cs E φ)
 (h:DataW.trod enc Tryz.prog W 0 (fun _=>true) true fuel t cs=some x)(hB:Rows.uptoBulk x.1≤B): pH W cs (Sq k A) (fun xs=>xs.length≤B∧∀x∈xs,φ x):=by
 rcases DataW.trod_slice ht h with⟨rfl,rfl⟩|⟨a,len,cap,elems,rest,n,_,rfl,rfl,_,Rb,_,hlen,J,JA,_⟩
 ·grind[pH.adk]
 ·obtain⟨GH,Wo⟩:=JA rfl
  rw[hk] at J Wo
  rw[Ez] at hB
  by_cases h0:cap=0
  ·simp_all[pH.aaK]
  ·-- each element's cells
   have each:∀i,i<cap→∃cs,W.cells? 0 (a.add (i*k)) k=some cs:=fun i hi=>by
    by_cases L0:i<len
    ·have h2:=J i L0
     rw[bx (by omega)] at h2
     obtain⟨cs,h3,_⟩:=Option.bind_eq_some_iff.1 h2
     exact⟨cs,h3⟩
    ·have h2:=Wo (i-len) (by omega)
     rw[bx (by omega),show len+(i-len)=i by omega] at h2
     obtain⟨cs,h3,_⟩:=Option.bind_eq_some_iff.1 h2
     exact⟨cs,h3⟩
   obtain⟨cs0,adp⟩:=each 0 (by omega)
   obtain⟨_,qN,hc0⟩:=World.cells?_some adp
   have g0:=hc0 0 (by omega)
   obtain⟨v0,hv0⟩:∃v,cs0[0]?=some v:=⟨_,bx (by omega)⟩
   rw[hv0] at g0
   obtain⟨b,off,spot⟩:=a
   have hs:spot=none:=by simpa[Addr.add] using World.cell?_spot g0
   subst hs
   simp only[add_plain,uf,nu] at g0
   obtain⟨b',off',he,C,ty,fz,hb,vm⟩:=Ku g0
   simp only[Addr.mk.injEq,and_true] at he
   obtain⟨rfl,rfl⟩:=he
   have adm:off<C.size:=(Array.getElem?_eq_some_iff.1 vm).1
   -- the rows
   have rows:∀i,i<len→∃cs,cs.length=k∧pH W cs E φ∧∀q v,cs[q]?=some v→C[off+i*k+q]?=some v:=fun i hi=>by
    have h2:=J i hi
    rw[bx (by omega)] at h2
    obtain⟨cs,h3,h4⟩:=Option.bind_eq_some_iff.1 h2
    obtain⟨_,hl,hc⟩:=World.cells?_some h3
    refine⟨cs,hl,PG n cs _ h4 ?_,fun q v hq => ?_⟩
    ·have:=A0 (l:=elems.map (·.1)) (nj (Ba (l:=elems) (n:=i) (by omega)))
     omega
    ·have hqk:q<k:=by grind
     have:=hc q hqk
     rw[add_plain,add_plain,M7 hb,hq] at this
     exact this
   have build:∀m,m≤len→∃I:List (List Value),I.length=m∧(∀cs∈I,pH W cs E φ)∧I.flatten.length=m*k∧∀j v,I.flatten[j]?=some v→C[off+j]?=some v:=by
    intro m
    induction m with
    |zero=>simp
    |succ m ih =>
     intro hm
     obtain⟨I,i1,i2,i3,i4⟩:=ih (by omega)
     obtain⟨cs,r1,r2,r3⟩:=rows m (by omega)
     refine⟨I++[cs],by simp[i1],fun y hy => ?_,by simp[i3,r1,rL],fun j v hj => ?_⟩
     ·rcases List.mem_append.1 hy with hy|hy<;>grind[List.mem_singleton]
     ·rw[wo,List.flatten_singleton] at hj
      by_cases cI:j<m*k
      ·grind
      ·rw[rG (by omega),i3] at hj
       have:=r3 _ v hj
       rwa [show off+m*k+(j-m*k)=off+j by omega] at this
   obtain⟨I,b1,b2,b3,b4⟩:=build len (aU _)
   have eX:off+I.flatten.length≤C.size:=by
    by_cases qN:len*k=0
    ·omega
    ·obtain⟨v,hv⟩:∃v,I.flatten[len*k-1]?=some v:=⟨_,bx (by omega)⟩
     have:=(Array.getElem?_eq_some_iff.1 (b4 _ v hv)).1
     omega
   have main:=pH.adl (k:=k) (len:=len) (cap:=cap) hb eX b3 Rb b4 hA (pH.rows hE hA xR Nn I b2)
   intro c σ S h
   obtain⟨c1,σ1,vs,x,q1,q2,q3,q4,q5,q6⟩:=main c σ S h
   refine⟨c1,σ1,vs,x,q1,q2,q3,q4,?_,q6⟩
   have:=Kv (elems.map (·.1))
   rw[jl] at this
   omega
end
end Go.Proofs.YtefepnnfphdkpaaGreat.Am
namespace Go.Proofs.YtefepnnfphdkpaaGreat.Am
open Go Go.ChangeShapes Go.WideShapes Go.ChangeAt Go.RowKit
variable {C:Array Value} {X Y:aL} {ε af:aX} {lv dd:aX→Prop} {Q:Ex→List (Nat×V)→H→Prop} {h σ:H} {x y z:Int} {P P':Int→List Nat} {L:List (Int×Int×Nat)} {now nm:List (Int×List Nat)} {dy:List (List Nat)} {E:List (Nat×V)} {S:List aL} {U:List Bool} {R M b l c data R0 M0:List Nat} {rs:List cz} {Rt ds M5 Rk vs nc:List V} {cs:List Value} {N B n g a q r aC p4 p5 p6 K p7 i F k fi off o fuel uY:Nat} {fz:Nat×Nat} {α H':Type} {e t:TypeId} {rv uv dv uk cv av nv:V}
noncomputable def Ss (P:Program)(t:TypeId): Array Field:=match P.underlying t with
 |some (.struct fs)=>fs
 |_ => #[]
def Kw (fs:Array Field)(i:Nat): Option (TypeId×Nat):=(fs[i]?).map fun f=>(f.type,f.offset)
theorem Wp : Tryz.prog.cellsOf 3=1:=by kernel_rfl
theorem F0 {fs:Array Field}(h:Kw fs i=some (t,o)): ∃f,fs[i]?=some f∧f.type=t∧f.offset=o:=by
 grind[Kw]
theorem Su {l:List α}(h:l.length=3): ∃a b c,l=[a,b,c]:=by
 rcases l with _|⟨a,_|⟨b,_|⟨c,_|⟨d,l⟩⟩⟩⟩<;>simp at h
 exact⟨a,b,c,rfl⟩
end Go.Proofs.YtefepnnfphdkpaaGreat.Am
namespace Go.Proofs.YtefepnnfphdkpaaGreat.Am
open Go Go.ChangeShapes Go.WideShapes Go.ChangeAt Go.RowKit
variable {C:Array Value} {X Y:aL} {ε af:aX} {lv dd:aX→Prop} {Q:Ex→List (Nat×V)→H→Prop} {h σ:H} {x y z:Int} {P P':Int→List Nat} {L:List (Int×Int×Nat)} {now nm:List (Int×List Nat)} {dy:List (List Nat)} {E:List (Nat×V)} {S:List aL} {U:List Bool} {R M b l c data R0 M0:List Nat} {rs:List cz} {Rt ds M5 Rk vs nc:List V} {cs:List Value} {N B n g a q r aC p4 p5 p6 K p7 i F k fi off o fuel uY:Nat} {fz:Nat×Nat} {α H':Type} {e t:TypeId} {rv uv dv uk cv av nv:V}
noncomputable def EA (f:Nat): Option (List V→H→Option (V×H)) :=
 cond (Nat.beq f 31) (some (iZ Tryz.prog 31 (FQ 31))) (cond (Nat.beq f 139) (some (iZ Tryz.prog 139 FH)) (cond (Nat.beq f 145) (some (iZ Tryz.prog 145 Jj)) (cond (Nat.beq f 173) (some (iZ Tryz.prog 173 HU)) (mV f))))
noncomputable abbrev C6 : fc:=⟨Tryz.prog,EA⟩
theorem U3 : W6 EA:=by
 refine⟨⟨⟨⟨fun f I => ?_,rfl,rfl⟩,rfl,rfl⟩,rfl⟩,rfl⟩
 have J:f≠31:=fun e=>by subst e;revert I;decide
 have h2:f≠139:=fun e=>by subst e;revert I;decide
 have h3:f≠145:=fun e=>by subst e;revert I;decide
 have h4:f≠173:=fun e=>by subst e;revert I;decide
 simp only[EA,eo J,eo h2,eo h3,eo h4,aY]
 exact W.base.free f I
theorem U4 : fq C6:=by
 intro f g I
 simp only[C6,EA] at I ⊢
 by_cases J:f=31
 ·subst J
  rw[oS rfl,aj] at I
  simp only[az] at I
  subst I
  exact sO ⟨_,JM,rfl,by decide⟩
 rw[eo J,aY] at I
 by_cases h2:f=139
 ·subst h2
  rw[oS rfl,aj] at I
  simp only[az] at I
  subst I
  exact sO ⟨_,Aw,rfl,by decide⟩
 rw[eo h2,aY] at I
 by_cases h3:f=145
 ·subst h3
  rw[oS rfl,aj] at I
  simp only[az] at I
  subst I
  exact sO ⟨_,Jg,rfl,by decide⟩
 rw[eo h3,aY] at I
 by_cases h4:f=173
 ·subst h4
  rw[oS rfl,aj] at I
  simp only[az] at I
  subst I
  exact sO ⟨_,Kb,rfl,by decide⟩
 rw[eo h4,aY] at I
 exact fF f g I
end Go.Proofs.YtefepnnfphdkpaaGreat.Am
namespace Go.Proofs.YtefepnnfphdkpaaGreat.Am
open Go
variable {C:Array Value} {X Y:aL} {ε af:aX} {lv dd:aX→Prop} {Q:Ex→List (Nat×V)→H→Prop} {h σ:H} {x y z:Int} {P P':Int→List Nat} {L:List (Int×Int×Nat)} {now nm:List (Int×List Nat)} {dy:List (List Nat)} {E:List (Nat×V)} {S:List aL} {U:List Bool} {R M b l c data R0 M0:List Nat} {rs:List cz} {Rt ds M5 Rk vs nc:List V} {cs:List Value} {N B n g a q r aC p4 p5 p6 K p7 i F k fi off o fuel uY:Nat} {fz:Nat×Nat} {α H':Type} {e t:TypeId} {rv uv dv uk cv av nv:V}
structure W7 (told:cR): Prop where
 w6:W6 told
 all:told 50=some (iZ Tryz.prog 50 (JW 50))
theorem W7.wc {told:cR}(h:W7 told): WC told:=⟨h.w6.w,h.w6.fmt,h.all⟩
theorem W7.w {told:cR}(h:W7 told): W told:=h.w6.w
section
variable {told:cR} {M p:Nat} {v w:V} {xs:List (List V×List (Int×List Nat))}
def CdQ (N M B p:Nat)(cv:V)(c:List Nat)(S:List aL)(Q:Ex→List (Nat×V)→H→Prop): Prop :=
 (∀(F fi:Nat) (rs:List cz) (vs:List V) (xs:List (List V×List (Int×List Nat))) (ε:aX) (av:V) (E':List (Nat×V)) (h':H),DiC N M B F fi rs xs ε→xs.length≤201→Has E' [(2,cv),(7,.ptr p 0),(9,av),(10,.int .i64 (fi:Int))] →
  Sat h' (aS p ε.2.2::.arr 1 av vs::nI vs xs::.bY cv c::S)→Q (.exit 0) E' h')∧∀E' h',look E' 6=some (.bool true)→Q .ret E' h'
noncomputable def cdL : Code:=cN [1,1,1,1,1,1,1,1,0,1,0,0] ((Tryz.f9.body).getD .skip)
theorem F1 (hT:W told)(hl:L.length≤200)(I:xs.length≤201)(hD:DiC N M B F fi rs xs ε)(hd:ε.2.2.dead=true)(hi:i≤L.length)
 (s:Sat h (aS p ε.2.2::.arr 1 av vs::nI vs xs::.bY cv c::pZ 3 dv (rF L)::S))(hE:Has E [(0,dv),(2,cv),(7,.ptr p 0),(9,av),(10,.int .i64 (fi:Int)),(11,.int .i64 (i:Int))])(hq:CdQ N M B p cv c S Q): WP ⟨Tryz.prog,told⟩ 194 (.loop cdL) E h Q:=by
 have J:=FZ L
 refine WP.loop (WP.has hE (zK 5 rfl (zo rfl (aN rfl rfl rfl (s.Ef (n:=L.length) (j:=4) rfl J (by decide) xD)) ?_)))
 by_cases hiL:i<L.length
 ·skip
  refine zB rfl bh (by simp;omega) ?_
  refine zk 2 rfl (zc rfl (lH hT s) ?_)
  rintro v h' ⟨rfl,rfl⟩
  rw[hd]
  exact zo rfl (er rfl rfl) (zk 3 rfl (WP.exit (hq.1 F fi rs vs xs ε av _ _ hD I ⟨rfl,rfl,rfl,rfl,aa⟩ (s.del 4))))
 ·skip
  refine zC rfl bh (by simp;omega) ?_
  exact zk 7 rfl (WP.exit (hq.1 F fi rs vs xs ε av _ _ hD I ⟨rfl,rfl,rfl,rfl,aa⟩ (s.del 4)))
noncomputable def cdE : Code:=cN [1,1,1,1,1,1,1,1,0,1,0,0,1,0,0,1,1,1,1,1,1] ((Tryz.f9.body).getD .skip)
theorem M8 (hT:W7 told)(xu:N≤1024)(Sv:xs.length≤200)(eY:ig N M B F rs ε)(vK:zD N rs xs)(gT:∀x∈xs,Ey N x.2)(qP:fi<rs.length)(nM:szB (rs.take (fi+1))≤F)(uF:rs.length=xs.length)(hw:NW N now)(hS:m_ N (pgG now ε) nm)
 (s:Sat h (GA g a p q r [] 0 now ε::.arr 1 av vs::nI vs xs::roH 2 nv nc::jG nc nm::.bY cv c::pZ 3 dv (rF L)::S))(hE:Has E [(0,dv),(2,cv),(7,.ptr p 0),(8,.ptr a 0),(9,av),(10,.int .i64 (fi:Int)),(11,.int .i64 (i:Int)),(13,nv),(14,.ptr g 0)])
 (h7:∀E' h',look E' 6=some (.bool true)→Q .ret E' h')
 (hn:∀(J:List cz) (af:aX) (y8:List V) (mM:V) (E':List (Nat×V)) (h':H),ig N M B F J af→zD N J (xs++[(nc,nm)])→(∀x∈xs++[(nc,nm)],Ey N x.2)→fi<J.length→szB (J.take (fi+1))≤F→J.length=xs.length+1→m_ N (pgA af) nm →
   Sat h' (SA a p q r .b_ [] 0 af::.arr 1 mM y8::nI y8 (xs++[(nc,nm)])::.bY cv c::pZ 3 dv (rF L)::S)→Has E' [(0,dv),(2,cv),(7,.ptr p 0),(8,.ptr a 0),(9,mM),(10,.int .i64 (fi:Int)),(11,.int .i64 (i:Int))]→Q .normal E' h')
 (Mz:∀(J:List cz) (af:aX) (y8:List V) (mM:V) (E':List (Nat×V)) (h':H),DiC N M B F fi J (xs++[(nc,nm)]) af→af.2.2.dead=true→Sat h' (aS p af.2.2::.arr 1 mM y8::nI y8 (xs++[(nc,nm)])::.bY cv c::pZ 3 dv (rF L)::S) →
   Has E' [(0,dv),(2,cv),(7,.ptr p 0),(9,mM),(10,.int .i64 (fi:Int)),(11,.int .i64 (i:Int))]→Q .normal E' h'): WP ⟨Tryz.prog,told⟩ 194 cdE E h Q:=by
 have hW:=hT.w
 have Ja:∀x∈xs++[(nc,nm)],Ey N x.2:=fun x hx=>by
  rcases List.mem_append.1 hx with q|q
  ·exact gT x q
  ·rw[List.mem_singleton.1 q];exact hS.okx
 have G6:nv.cells=[nv]∧storable nv=true:=by
  rcases (s.vY (j:=3) rfl (vc 2 nv nc)).2 with⟨rfl,_⟩|⟨_,_,_,_,_,rfl,_⟩<;>exact⟨rfl,rfl⟩
 have Kh:=FT s (j:=2) rfl
 have s:=s.ae [1]
 dsimp only[bringA,getA,aI] at s
 refine WP.has hE (zK 4 rfl ?_)
 obtain⟨bv,h1,w,h2,e3,e4,s2⟩:=RX s G6.1 G6.2 (by omega)
 refine ax.any rfl rfl rfl (OpR.of (R:=fun v h'=>v=bv∧h'=h1) (ke rfl e3) ⟨rfl,rfl⟩) ?_
 rintro bv h1 ⟨rfl,rfl⟩
 refine ax.any rfl rfl rfl (OpR.of (R:=fun v h'=>v=w∧h'=h2) (jI rfl rfl e4) ⟨rfl,rfl⟩) ?_
 rintro w h2 ⟨rfl,rfl⟩
 have s:=X5 (x:=(nc,nm)) (s2.ae [2,2,2])
 have s:=s.ae [2,1,0]
 dsimp only[bringA,getA,aI] at s
 refine zk 5 rfl (zo rfl (cT rfl (El (kd:=1))) (zc rfl (GV (kd:=1) hW eY.ok (by have:=eY.FY;omega) eY.log eY.size (by omega) hw s) ?_))
 rintro v h ⟨aO,e,cl,fM,Ry,rfl,s⟩
 have iW:∀y:cz,(rs++[y]).length=rs.length+1:=fun y=>by simp
 rcases eY.done hw xu (by decide) (by decide) Ry with⟨rfl,rfl,I⟩|⟨rfl,rfl,jW⟩|⟨rfl,rfl,r0,jW,rfl,nN⟩
 ·have s:=bn.1 (s.ae [1])
  dsimp only[bringA,getA,aI,List.cons_append,List.nil_append] at s
  have s:=s.ae [3,4,4,4,4]
  dsimp only[bringA,getA,aI] at s
  have s:=((s.del 8).del 7).del 6 |>.del 5
  have O4:fM.2.2.dead=true:=by
   rcases I with I|⟨_,I,_⟩
   ·exact I.dead
   ·exact I.dead
  refine zk 10 rfl (zC rfl eu (by decide) ?_)
  refine zk 6 rfl (zB rfl aE (by decide) ?_)
  refine zk 2 rfl (zc rfl (lH hW s) ?_)
  rintro v h' ⟨rfl,rfl⟩
  rw[O4]
  refine zo rfl (er rfl rfl) (zq rfl (zv (zj rfl (WP.skip ?_))))
  rcases I with I|⟨r0,I,adq⟩
  ·exact Mz rs fM _ _ _ _ ⟨.inr I,vK.more,Ja,qP,nM,by simp;omega⟩ O4 s ⟨rfl,rfl,rfl,rfl,rfl,rfl,aa⟩
  ·exact Mz (rs++[r0]) fM _ _ _ _ ⟨.inr I,vK.app uF.symm (hS.th fun n h0 h1=>(adq n h0 h1).symm),Ja,by rw[iW];omega,by rw[tX (by omega)];exact nM,by simp;omega⟩ O4 s ⟨rfl,rfl,rfl,rfl,rfl,rfl,aa⟩
 ·skip
  refine zk 10 rfl (zB rfl eu (by decide) ?_)
  exact zk 6 rfl (WP.ret (h7 _ _ rfl))
 ·have NR:y9 N (rs++[r0]) gQ (bB fM):=by obtain⟨_,hg⟩:=jW.fm;exact hg.st
  have ZJ:y9 N rs gQ (bB ε):=by obtain⟨_,hg⟩:=eY.fm;exact hg.st
  have Kx:m_ N (pgA fM) nm:=hS.done hw nN fun n h0 h1=>(ZJ n h0 h1).2.1
  have ads:zD N (rs++[r0]) (xs++[(nc,nm)]):=vK.app uF.symm (Kx.th fun n h0 h1=>(NR n h0 h1).symm)
  have s:Sat h (gC g a now true::SA a p q r .b_ [] 0 fM::_):=s
  refine zk 10 rfl (zC rfl eu (by decide) ?_)
  refine zk 6 rfl (zC rfl aE (by decide) ?_)
  refine zk 5 rfl (zv (zj rfl (WP.skip ?_)))
  exact hn (rs++[r0]) fM _ _ _ _ jW ads Ja (by rw[iW];omega) (by rw[tX (by omega)];exact nM) (by rw[iW];omega) Kx ((s.ae [1,1,1,1,1]).del 5) ⟨rfl,rfl,rfl,rfl,rfl,rfl,rfl,aa⟩
end
section
variable {told:cR} {M p:Nat} {v w:V} {xs:List (List V×List (Int×List Nat))}
structure BrK (N M B F:Nat)(rs:List cz)(g a p q r fi i:Nat)(dv cv av:V)(c:List Nat)(vs:List V)(xs:List (List V×List (Int×List Nat)))(L:List (Int×Int×Nat))(S:List aL)(ε:aX)(Q:Ex→List (Nat×V)→H→Prop): Prop where
 done:∀(af:aX) (now:List (Int×List Nat)) (nv:V) (nc:List V) (nm:List (Int×List Nat)) (E':List (Nat×V)) (h':H),ig N M B F rs af→NW N now→m_ N (pgG now af) nm→Sat h' (GA g a p q r [] 0 now af::.arr 1 av vs::nI vs xs::roH 2 nv nc::jG nc nm::.bY cv c::pZ 3 dv (rF L)::S) →
  Has E' [(0,dv),(2,cv),(7,.ptr p 0),(8,.ptr a 0),(9,av),(10,.int .i64 (fi:Int)),(11,.int .i64 (i:Int)),(13,nv),(14,.ptr g 0)]→Q .normal E' h'
 dead:∀(af:aX) (E':List (Nat×V)) (h':H),Dd N F rs af→Sat h' (aS p af.2.2::.arr 1 av vs::nI vs xs::.bY cv c::S)→Has E' [(2,cv),(7,.ptr p 0),(9,av),(10,.int .i64 (fi:Int))]→Q (.exit 0) E' h'
 next:∀(af:aX) (E':List (Nat×V)) (h':H),ig N M B F rs af→pgA af=pgA ε→Sat h' (SA a p q r .b_ [] 0 af::.arr 1 av vs::nI vs xs::.bY cv c::pZ 3 dv (rF L)::S)→Has E' [(0,dv),(2,cv),(7,.ptr p 0),(8,.ptr a 0),(9,av),(10,.int .i64 (fi:Int)),(11,.int .i64 (i:Int))]→Q (.exit 1) E' h'
noncomputable def cdF : Code:=cN [1,1,1,1,1,1,1,1,0,1,0,0,1,0,0,1,1,1,1,1,0,1,0] ((Tryz.f9.body).getD .skip)
theorem Yl (hT:W7 told)(xu:N≤1000){y:Nat}(eY:ig N M B F rs ε)(hp:fI N R0 M0 (pgA ε))(hc:mC N (pgA ε) dy nm)(hb:∀j,j<N→bt M0 j=(decide (j<2)||decide (j∈dy.flatten)))(hk:vJ N (pgA ε))
 (s:Sat h (GA g a p q r [] 0 [] ε::pt uY (.cells 3 [.int .i64 z,.int .i64 x,.int .u8 (y:Int)] false)::roH 2 nv nc::jG nc nm::nI vs xs::.arr 1 av vs::.bY cv c::pZ 3 dv (rF L)::S))
 (hE:Has E [(0,dv),(2,cv),(7,.ptr p 0),(8,.ptr a 0),(9,av),(10,.int .i64 (fi:Int)),(11,.int .i64 (i:Int)),(12,.ptr uY 0),(13,nv),(14,.ptr g 0)])(hq:BrK N M B F rs g a p q r fi i dv cv av c vs xs L S ε Q): WP ⟨Tryz.prog,told⟩ 194 cdF E h Q:=by
 have hW:=hT.w
 have I:=xz s (k:=3) rfl
 refine WP.has hE (zK 4 rfl (zo rfl (aN rfl rfl rfl (J4 (n:=nm.length) (s.vY (j:=2) rfl (vc 2 nv nc)) I (by decide) mA)) ?_))
 cases nm with
 |nil =>
  refine zB rfl eu (by simp) ?_
  refine zk 5 rfl (zc rfl (G3 hW s) ?_)
  rintro v h ⟨rfl,s⟩
  exact zv (WP.exit (hq.next _ _ _ eY rfl (((s.ae [0,4,3,3,3]).del 7 |>.del 6 |>.del 5)) ⟨rfl,rfl,rfl,rfl,rfl,rfl,rfl,aa⟩))
 |cons y0 nm =>
  cases dy with
  |nil=>have:=hc.len;simp at this
  |cons ps dy =>
   have hC:=hc.ch 0 ps y0 rfl rfl
   obtain⟨z0,qs,rfl,hz⟩:=headD_cons hC.one
   have RR:y0.1=(z0:Int):=by rw[hC.hd,hz]
   have J:=hc.nd
   rw[EU] at J
   have J:=(List.nodup_append.1 J).1
   have uJ:∀u∈z0::qs,u∈((z0::qs)::dy).flatten:=fun u hu=>by rw[EU];exact List.mem_append.2 (.inl hu)
   have mN:∀u∈z0::qs,2≤u∧u<N∧bt M0 u=true:=fun u hu=>by
    have h2:=hc.lt u (uJ u hu)
    exact⟨h2.1,h2.2,by rw[hb u h2.2,gn (uJ u hu),Bool.or_true]⟩
   have UQ:=hc.Ce
   rw[EU,bV] at UQ
   have hqn:(z0::qs).length≤1000:=by omega
   have adt:flatL (chunks y0.2 (z0::qs).length)=y0.2:=by rw[hC.len];exact Ep
   have fC:=hC.sz
   obtain⟨uv,hu,_⟩:=Wa (i:=0) (s.ae [3]) rfl
   obtain⟨Rx,JR,e7,e8⟩:=OJ (P:=Tryz.prog) (i:=0) (s.vY (j:=2) rfl (vc 2 nv nc)) (by rw[I,bF];omega) (by decide) mA Al
   have qN:=e8 0 (.int .i64 y0.1) 3 (by rw[hu];rfl) dN
   rw[RR] at qN
   refine zC rfl eu (by simp;omega) ?_
   refine zk 7 rfl (zo rfl (cK (r:=.ptr Rx JR) rfl rfl e7) (zf rfl (DG _ _) (zl rfl qN (zc rfl (X4 (ps:=z0::qs) (qs:=qs) (cs:=chunks y0.2 (z0::qs).length) hT.wc (Mo.Wn hW) (Mo.Wn W.base) (by omega) rfl rfl eY (NW.nil N) hp hC.ch J mN hqn (by rw[adt];omega) s) ?_))))
   rintro v h (⟨rfl,fM,ov,kG,s,nW⟩|⟨M2,fM,ov,rfl,jW,jg,kG,y7,s⟩)
   ·have s:=bn.1 s
    dsimp only[List.cons_append,List.nil_append] at s
    refine zk 6 rfl (zB rfl aE (by decide) ?_)
    refine zk 6 rfl (zc rfl (lH hW (s.ae [4])) ?_)
    rintro v h' ⟨rfl,rfl⟩
    rw[nW.dead]
    exact zo rfl (er rfl rfl) (zk 3 rfl (WP.exit (hq.dead _ _ _ nW ((s.ae [4,8,7,7]).del 11 |>.del 10 |>.del 9 |>.del 8 |>.del 7 |>.del 6 |>.del 5 |>.del 4) ⟨rfl,rfl,rfl,rfl,aa⟩)))
   ·have Kx:m_ N (pgG ov fM) nm:=m_.dF hc hb hk y7
    refine zk 6 rfl (zC rfl aE (by decide) ?_)
    refine zk 4 rfl ?_
    obtain⟨h1,e3,s1⟩:=My (P:=Tryz.prog) s mA IJ Al rfl (by decide)
    refine ax.any rfl rfl rfl (OpR.of (R:=fun v h'=>v=.sl h.next 0 0 (.exact 0)∧h'=h1) (ke rfl e3) ⟨rfl,rfl⟩) ?_
    rintro v h' ⟨rfl,rfl⟩
    have s:=s1
    have TZ:2≤nc.length:=by rw[I,bF];omega
    have ha:=s.vY (j:=3) rfl (vc 2 nv nc)
    obtain⟨n1,qX,vO⟩:=X2 ha TZ
    have hcn:(y0::nm).length≤N:=hc.cV
    rw[bF] at hcn I
    refine zm rfl (zo rfl (cH (p:=some (.int .i64 1)) (q:=none) (m:=none) (p':=some 1) (q':=none) (m':=none) rfl rfl rfl rfl rfl rfl rfl (Uy ha TZ mA Al)) ?_)
    obtain⟨w,h2,e4,s2⟩:=J6 s vO qX (List.all_eq_true.2 fun x hx=>List.all_eq_true.1 ha.1 x (qd hx)) (by rw[EW];omega)
    refine ax.any rfl rfl rfl (OpR.of (R:=fun v h'=>v=w∧h'=h2) (jI rfl rfl e4) ⟨rfl,rfl⟩) ?_
    rintro w h2 ⟨rfl,rfl⟩
    have s:=(s2.G4.ae [4]).abH
    dsimp only[bringA,getA,aI] at s
    have s:=(s.ae [3,6,5,2,0,3,3]).del 9 |>.del 8 |>.del 7
    refine za rfl (zv ?_)
    exact hq.done _ _ _ _ _ _ _ jW kG Kx s ⟨rfl,rfl,rfl,rfl,rfl,rfl,rfl,rfl,rfl,aa⟩
noncomputable def cdW : Code:=cN [1,1,1,1,1,1,1,1,0,1,0,0,1,0,0,1,1,1,1,1,0,1,1] ((Tryz.f9.body).getD .skip)
theorem U5 (hT:W7 told)(xu:N≤1000){y:Nat}(eY:ig N M B F rs ε)(hp:fI N R0 M0 (pgA ε))(hc:mC N (pgA ε) dy nm)(hb:∀j,j<N→bt M0 j=(decide (j<2)||decide (j∈dy.flatten)))(hk:vJ N (pgA ε))
 (s:Sat h (GA g a p q r [] 0 [] ε::pt uY (.cells 3 [.int .i64 z,.int .i64 x,.int .u8 (y:Int)] false)::roH 2 nv nc::jG nc nm::nI vs xs::.arr 1 av vs::.bY cv c::pZ 3 dv (rF L)::S))
 (hE:Has E [(0,dv),(2,cv),(7,.ptr p 0),(8,.ptr a 0),(9,av),(10,.int .i64 (fi:Int)),(11,.int .i64 (i:Int)),(12,.ptr uY 0),(13,nv),(14,.ptr g 0)])(hq:BrK N M B F rs g a p q r fi i dv cv av c vs xs L S ε Q): WP ⟨Tryz.prog,told⟩ 194 cdW E h Q:=by
 have hW:=hT.w
 have adu:=xz s (k:=3) rfl
 obtain⟨n,qA,hn3⟩:∃n:Nat,min (max x 0) 3000=(n:Int)∧n≤3000:=⟨(min (max x 0) 3000).toNat,by omega,by omega⟩
 refine WP.has hE (zg rfl (zY s 1 ZE dN rfl (zo rfl (CC rfl rfl aak) (zo rfl (CC (r:=.int .i64 (n:Int)) rfl rfl (Ow.trans (by rw[qA]))) ?_))))
 refine zY s 1 ZF ag5 rfl (zc rfl (Uv (n:=n) (f:=y) hW (by omega) s) ?_)
 intro tv h s
 have hTl:(pM y n).length=n:=vE
 generalize pM y n=T at s hTl
 have s:=s.ga.ae [1,0]
 dsimp only[bringA,getA,aI] at s
 obtain⟨k,F5⟩:∃k,iC T.length=k:=⟨_,rfl⟩
 have htc:=(s.aD (k:=1) rfl (c8 _ _)).cells
 refine zk 6 rfl ?_
 by_cases eX:k≤(cM M0 N).length
 ·skip
  refine zc rfl (J3 (b:=T) (M:=M0) (now:=[]) (m:=k) hW (Mo.Wn hW) (c8 _ _) (by omega) eY (NW.nil N) hp F5 eX s) ?_
  rintro v h (⟨rfl,fM,I,kG,s,J⟩|⟨fM,I,M2,rfl,jW,jg,kG,DM,uG,s⟩)
  ·have s:=bn.1 s
   dsimp only[List.cons_append,List.nil_append] at s
   refine zk 10 rfl (zC rfl eu (by decide) ?_)
   refine zk 7 rfl (zB rfl aE (by decide) ?_)
   refine zk 6 rfl (zc rfl (lH hW (s.ae [4])) ?_)
   rintro v h' ⟨rfl,rfl⟩
   rw[J.dead]
   exact zo rfl (er rfl rfl) (zk 3 rfl (WP.exit (hq.dead _ _ _ J ((s.ae [4,9,8,8]).del 12 |>.del 11 |>.del 10 |>.del 9 |>.del 8 |>.del 7 |>.del 6 |>.del 5 |>.del 4) ⟨rfl,rfl,rfl,rfl,aa⟩)))
  ·have Kx:=m_.wrote hp hc hb hk F5 eX (by omega) DM uG
   generalize ((cM M0 N).take k).headD 0=z0 at Kx ⊢
   have hcn:nm.length≤N:=hc.cV
   refine zk 10 rfl (zC rfl eu (by decide) ?_)
   refine zk 7 rfl (zC rfl aE (by decide) ?_)
   refine zk 4 rfl ?_
   obtain⟨h1,e3,s1⟩:=My (P:=Tryz.prog) s mA IJ Al rfl (by decide)
   refine ax.any rfl rfl rfl (OpR.of (R:=fun v h'=>v=.sl h.next 0 0 (.exact 0)∧h'=h1) (ke rfl e3) ⟨rfl,rfl⟩) ?_
   rintro v h' ⟨rfl,rfl⟩
   have s:=s1
   have ha:=s.vY (j:=4) rfl (vc 2 nv nc)
   obtain⟨n1,qX,vO⟩:=aap ha
   obtain⟨w,h2,e4,s2⟩:=J6 s vO qX ha.1 (by omega)
   refine zm rfl (ax.any rfl rfl rfl (OpR.of (R:=fun v h'=>v=w∧h'=h2) (jI rfl rfl e4) ⟨rfl,rfl⟩) ?_)
   rintro w h2 ⟨rfl,rfl⟩
   have s:=(s2.ae [5]).dup (aV.jG _ _)
   dsimp only[bringA,getA,aI] at s
   refine zk 2 rfl (zo rfl (cT (r:=.agg [.int .i64 (z0:Int),tv]) rfl (OK htc.1)) ?_)
   obtain⟨xv,h1,w2,h3,e5,e6,s3⟩:=RT (x:=((z0:Int),T)) (s.ae [4,2,0]) (by omega)
   refine ax.any rfl rfl rfl (OpR.of (R:=fun v h'=>v=xv∧h'=h1) (ke rfl e5) ⟨rfl,rfl⟩) ?_
   rintro xv h1 ⟨rfl,rfl⟩
   refine ax.any rfl rfl rfl (OpR.of (R:=fun v h'=>v=w2∧h'=h3) (jI rfl rfl e6) ⟨rfl,rfl⟩) ?_
   rintro w2 h3 ⟨rfl,rfl⟩
   have s:=s3.G4
   dsimp only[bringA,getA,aI] at s
   have s:=(s.ae [3,6,5,0,0,3,3]).del 9 |>.del 8 |>.del 7
   refine za rfl (zv ?_)
   exact hq.done _ _ _ _ _ _ _ jW kG Kx s ⟨rfl,rfl,rfl,rfl,rfl,rfl,rfl,rfl,rfl,aa⟩
 ·skip
  refine zc rfl (RK (b:=T) (M:=M0) (now:=[]) (m:=k) hW (Mo.Wn hW) (c8 _ _) (by omega) eY (NW.nil N) hp F5 (by omega) s) ?_
  rintro v h (⟨rfl,fM,I,kG,s,J⟩|⟨fM,I,rfl,jW,jg,kG,s⟩)
  ·have s:=bn.1 s
   dsimp only[List.cons_append,List.nil_append] at s
   refine zk 10 rfl (zC rfl eu (by decide) ?_)
   refine zk 7 rfl (zB rfl aE (by decide) ?_)
   refine zk 6 rfl (zc rfl (lH hW (s.ae [4])) ?_)
   rintro v h' ⟨rfl,rfl⟩
   rw[J.dead]
   exact zo rfl (er rfl rfl) (zk 3 rfl (WP.exit (hq.dead _ _ _ J ((s.ae [4,9,8,8]).del 12 |>.del 11 |>.del 10 |>.del 9 |>.del 8 |>.del 7 |>.del 6 |>.del 5 |>.del 4) ⟨rfl,rfl,rfl,rfl,aa⟩)))
  ·skip
   refine zk 10 rfl (zB rfl eu (by decide) ?_)
   refine zk 5 rfl (zc rfl (G3 hW s) ?_)
   rintro v h ⟨rfl,s⟩
   exact zv (WP.exit (hq.next _ _ _ jW (funext jg) ((s.ae [0,5,4,4,4]).del 8 |>.del 7 |>.del 6 |>.del 5) ⟨rfl,rfl,rfl,rfl,rfl,rfl,rfl,aa⟩))
theorem Ym (hT:W7 told)(xu:N≤1000)(Wq:L.length≤200): ∀(d i F fi:Nat) (rs:List cz) (xs:List (List V×List (Int×List Nat))) (ε:aX) (vs:List V) (av:V) (h:H) (E:List (Nat×V)) (Q:Ex→List (Nat×V)→H→Prop),i+d=L.length→xs.length≤i+1 →
  ig N M B F rs ε→zD N rs xs→(∀x∈xs,Ey N x.2)→fi<rs.length→szB (rs.take (fi+1))≤F→rs.length=xs.length→(∀x,xs[xs.length-1]?=some x→m_ N (pgA ε) x.2) →
  Sat h (SA a p q r .b_ [] 0 ε::.arr 1 av vs::nI vs xs::.bY cv c::pZ 3 dv (rF L)::S) →
  Has E [(0,dv),(2,cv),(7,.ptr p 0),(8,.ptr a 0),(9,av),(10,.int .i64 (fi:Int)),(11,.int .i64 (i:Int))] →
  CdQ N M B p cv c S Q→WP ⟨Tryz.prog,told⟩ 194 (.loop cdL) E h Q:=by
 have hW:=hT.w
 have je:=FZ L
 intro d
 induction d with
 |zero =>
  intro i F fi rs xs ε vs av h E Q hi Sv J vK gT qP nM uF I s hE hq
  have s:=bn.1 s
  refine WP.loop (WP.has hE (zK 5 rfl (zo rfl (aN rfl rfl rfl (s.Ef (n:=L.length) (j:=7) rfl je (by decide) xD)) ?_)))
  refine zC rfl bh (by simp;omega) ?_
  exact zk 7 rfl (WP.exit (hq.1 F fi rs vs xs ε av _ _ ⟨.inl J,vK,gT,qP,nM,by omega⟩ (by omega) ⟨rfl,rfl,rfl,rfl,aa⟩ ((s.ae [3,3,3,3]).del 7 |>.del 6 |>.del 5 |>.del 4)))
 |succ d ih =>
  intro i F fi rs xs ε vs av h E Q hi Sv J vK gT qP nM uF I s hE hq
  obtain⟨D,hD⟩:∃D,L[i]?=some D:=⟨_,bx (by omega)⟩
  obtain⟨z,x,y⟩:=D
  have PE:ε.2.2.dead=false:=by obtain⟨_,hg⟩:=J.fm;exact hg.fs.alive
  obtain⟨⟨nc,nm⟩,hx⟩:∃x,xs[xs.length-1]?=some x:=⟨_,bx (by omega)⟩
  have hS:=I _ hx
  have Kh:=FT s (j:=2) rfl
  have s:=bn.1 s
  refine WP.loop (WP.has hE (zK 5 rfl (zo rfl (aN rfl rfl rfl (s.Ef (n:=L.length) (j:=7) rfl je (by decide) xD)) ?_)))
  refine zB rfl bh (by simp;omega) ?_
  refine zk 2 rfl (zc rfl (lH hW (s.ae [3])) ?_)
  rintro v h' ⟨rfl,rfl⟩
  rw[PE]
  refine zo rfl (er rfl rfl) (zk 2 rfl ?_)
  obtain⟨id,off,e1,e2⟩:=s.abA (P:=Tryz.prog) (i:=i) (j:=7) rfl (by omega) (by decide) xD ZD acr
  rw[Yj hD] at e2
  refine zK 3 rfl (WP.block (zK 4 rfl (zo rfl (cK (r:=.ptr id off) rfl rfl e1) (zl rfl e2 ?_))))
  refine ax.cm s rfl rfl rfl (b6 acs) (fun uY h s => ?_)
  dsimp only[V.cells,List.length_cons,List.length_nil,Nat.reduceAdd,List.cons_append,List.nil_append] at s
  refine zS rfl (s.fS (j:=0) rfl ZD rfl rfl) (fun h s => ?_)
  dsimp only[setA] at s
  refine zk 4 rfl (zY s 0 Qd dN rfl ?_)
  by_cases h3:3≤z
  ·skip
   refine zB rfl oa (by simp;omega) ?_
   refine zk 7 rfl (zc rfl (XH hW (s.ae [1])) ?_)
   rintro v h' ⟨rfl,rfl⟩
   refine zc rfl (xg hW (s.ae [3]) (by have:=J.size;omega)) ?_
   rintro v h' ⟨rfl,rfl⟩
   rw[J.adj]
   refine zc rfl (QZ (n:=1+szB rs) hW (s.ae [1,2,2]) J.ok.ok.lg J.ok.ok.dk.aT) ?_
   rintro v2 h ⟨rfl,s⟩
   have s:Sat h (SA a p q r .b_ [] 0 (ε.1,(aJ ε.2 (1+szB rs)).2)::_):=bn.2 (s.ae [0,3,0,0])
   rcases J.AV with⟨f1,f2⟩|⟨f1,f2,f3⟩
   ·rw[f1]
    generalize (ε.1,(aJ ε.2 (1+szB rs)).2)=tW at f2 s
    have s:=bn.1 s
    refine zC rfl eu (by decide) ?_
    refine zk 8 rfl (WP.exit (zK 2 rfl (zb rfl (by exact bC (aB (by omega) (by omega))) ?_)))
    refine za rfl (zv ?_)
    exact F1 hW Wq (by omega) ⟨.inr f2,vK,gT,qP,nM,by omega⟩ f2.dead (i:=i+1) (by omega) ((s.ae [3,4,4,4,4]).del 8 |>.del 7 |>.del 6 |>.del 5) ⟨rfl,rfl,rfl,rfl,rfl,rfl,aa⟩ hq
   ·rw[f1]
    generalize (ε.1,(aJ ε.2 (1+szB rs)).2)=tW at f2 f3 s
    have adv:tW.2.2.dead=false:=by obtain⟨_,hg⟩:=f2.fm;exact hg.fs.alive
    have s:=bn.1 s
    dsimp only[bringA,getA,aI,List.cons_append,List.nil_append] at s
    refine zB rfl eu (by decide) ?_
    refine zk 2 rfl (zc rfl (lH hW (s.ae [3])) ?_)
    rintro v h' ⟨rfl,rfl⟩
    rw[adv]
    refine zo rfl (er rfl rfl) (zk 5 rfl (zo rfl (aN rfl rfl rfl (s.dZ (n:=xs.length) (j:=5) rfl (by rw[Kh,eF]) (by decide) ry)) ?_))
    refine zo rfl (aA (r:=.int .i64 ((xs.length-1:Nat):Int)) rfl rfl (by rw[show((xs.length-1:Nat):Int)=(xs.length:Int)-1 by omega];exact iM (aB (by omega) (by omega)))) ?_
    refine zk 2 rfl (WP.exit (zK 2 rfl (zb rfl (by exact bC (aB (by omega) (by omega))) ?_)))
    refine za rfl (zv ?_)
    have s:Sat _ (SA a p q r .b_ [] 0 tW::_):=bn.2 (s.ae [0,0,0,0])
    exact ih (i+1) (szB rs) (xs.length-1) rs xs tW vs av _ _ Q (by omega) (by omega) f2 vK gT (by omega) (by rw[gj (by omega)];exact aU _) uF (fun x hx=>by rw[show pgA tW=pgA ε from funext f3];exact I x hx) (s.del 1) ⟨rfl,rfl,rfl,rfl,rfl,rfl,rfl,aa⟩ hq
  obtain⟨R0,M0,dy,hp,hc,hb,hk⟩:=hS
  obtain⟨nv,G6,s⟩:=J7 (s.ae [6]) hx
  have aeG:vs[xs.length-1]?=some nv:=G6
  dsimp only[bringA,getA,aI] at s
  have s:=s.ae [4,4,4,4,3,0,0,0,0]
  dsimp only[bringA,getA,aI] at s
  have s:Sat h (SA a p q r .b_ [] 0 ε::_):=bn.2 s
  have adu:=xz s (k:=3) rfl
  obtain⟨JL,CO,e5,e6⟩:=gJ (P:=Tryz.prog) s (k:=5) (i:=xs.length-1) rfl G6 ry II
  refine zC rfl oa (by simp;omega) ?_
  refine zk 7 rfl (zo rfl (aN rfl rfl rfl (s.dZ (n:=xs.length) (j:=5) rfl (by rw[Kh,eF]) (by decide) ry)) ?_)
  refine zo rfl (aA (r:=.int .i64 ((xs.length-1:Nat):Int)) rfl rfl (by rw[show((xs.length-1:Nat):Int)=(xs.length:Int)-1 by omega];exact iM (aB (by omega) (by omega)))) ?_
  refine zo rfl (cK (r:=.ptr JL CO) rfl rfl e5) (zl rfl (e6 _ Th) (zk 5 rfl (zc rfl (GZ hW s) ?_)))
  rintro v h ⟨g,rfl,s⟩
  have aeH:pgG [] ε=pgA ε:=rfl
  refine zk 6 rfl (zC rfl (vz lu) (rfl) (zk 6 rfl (zY s 1 Qd dN rfl ?_)))
  by_cases h2:z=2
  ·skip
   refine zB rfl eu (by simp;omega) ?_
   refine zk 2 rfl ?_
   refine Yl hT xu J hp hc hb hk s ⟨rfl,rfl,rfl,rfl,rfl,rfl,rfl,rfl,rfl,rfl,aa⟩ (Q:=_) ⟨fun fM ov nv2 nc2 nm2 E2 h2 k1 k2 k3 s' k4 => ?_,fun fM E2 h2 k1 s' k2 => ?_,fun fM E2 h2 k1 k2 s' k3 => ?_⟩
   ·have s:=s'
    refine WP.has k4 ?_
    refine M8 hT (by omega) (by omega) k1 vK gT qP nM uF k2 k3 s ⟨rfl,rfl,rfl,rfl,rfl,rfl,rfl,rfl,rfl,aa⟩ hq.2 (fun Sw af y8 mM E' h' k1 k2 k3 k4 k5 k6 k7 s' k8 => ?_) (fun Sw af y8 mM E' h' k1 k2 s' k3 => ?_)
    ·have s:=s'
     refine WP.has k8 (zK 2 rfl (zb rfl (by exact bC (aB (by omega) (by omega))) ?_))
     refine za rfl (zv ?_)
     exact ih (i+1) F fi Sw _ af y8 mM _ _ Q (by omega) (by simp;omega) k1 k2 k3 k4 k5 (by simp;omega) (fun x hx=>by rw[rG (by simp)] at hx;simp at hx;subst hx;exact k7) s ⟨rfl,rfl,rfl,rfl,rfl,rfl,rfl,aa⟩ hq
    ·have s:=s'
     refine WP.has k3 (zK 2 rfl (zb rfl (by exact bC (aB (by omega) (by omega))) ?_))
     refine za rfl (zv ?_)
     exact F1 hW Wq (by simp;omega) k1 k2 (i:=i+1) (by omega) s ⟨rfl,rfl,rfl,rfl,rfl,rfl,aa⟩ hq
   ·exact hq.1 F fi rs vs xs fM av _ _ ⟨.inr k1,vK,gT,qP,nM,by omega⟩ (by omega) k2 s'
   ·have s:=s'
    refine WP.has k3 (zK 2 rfl (zb rfl (by exact bC (aB (by omega) (by omega))) ?_))
    refine za rfl (zv ?_)
    exact ih (i+1) F fi rs xs fM vs av _ _ Q (by omega) (by omega) k1 vK gT qP nM uF (fun x hx=>by rw[k2];exact I x hx) s ⟨rfl,rfl,rfl,rfl,rfl,rfl,rfl,aa⟩ hq
  ·skip
   refine zC rfl eu (by simp;omega) ?_
   refine zk 2 rfl ?_
   refine U5 hT xu J hp hc hb hk s ⟨rfl,rfl,rfl,rfl,rfl,rfl,rfl,rfl,rfl,rfl,aa⟩ (Q:=_) ⟨fun fM ov nv2 nc2 nm2 E2 h2 k1 k2 k3 s' k4 => ?_,fun fM E2 h2 k1 s' k2 => ?_,fun fM E2 h2 k1 k2 s' k3 => ?_⟩
   ·have s:=s'
    refine WP.has k4 ?_
    refine M8 hT (by omega) (by omega) k1 vK gT qP nM uF k2 k3 s ⟨rfl,rfl,rfl,rfl,rfl,rfl,rfl,rfl,rfl,aa⟩ hq.2 (fun Sw af y8 mM E' h' k1 k2 k3 k4 k5 k6 k7 s' k8 => ?_) (fun Sw af y8 mM E' h' k1 k2 s' k3 => ?_)
    ·have s:=s'
     refine WP.has k8 (zK 2 rfl (zb rfl (by exact bC (aB (by omega) (by omega))) ?_))
     refine za rfl (zv ?_)
     exact ih (i+1) F fi Sw _ af y8 mM _ _ Q (by omega) (by simp;omega) k1 k2 k3 k4 k5 (by simp;omega) (fun x hx=>by rw[rG (by simp)] at hx;simp at hx;subst hx;exact k7) s ⟨rfl,rfl,rfl,rfl,rfl,rfl,rfl,aa⟩ hq
    ·have s:=s'
     refine WP.has k3 (zK 2 rfl (zb rfl (by exact bC (aB (by omega) (by omega))) ?_))
     refine za rfl (zv ?_)
     exact F1 hW Wq (by simp;omega) k1 k2 (i:=i+1) (by omega) s ⟨rfl,rfl,rfl,rfl,rfl,rfl,aa⟩ hq
   ·exact hq.1 F fi rs vs xs fM av _ _ ⟨.inr k1,vK,gT,qP,nM,by omega⟩ (by omega) k2 s'
   ·have s:=s'
    refine WP.has k3 (zK 2 rfl (zb rfl (by exact bC (aB (by omega) (by omega))) ?_))
    refine za rfl (zv ?_)
    exact ih (i+1) F fi rs xs fM vs av _ _ Q (by omega) (by omega) k1 vK gT qP nM uF (fun x hx=>by rw[k2];exact I x hx) s ⟨rfl,rfl,rfl,rfl,rfl,rfl,rfl,aa⟩ hq
end
theorem Rv.pg (h:Rv N B 1 ε af)(I:B≤1000){i:Int}(hi:2≤i): pgA af i=pgA ε i:=by
 obtain⟨J,now,aO,h1,h2,h3,h4,h5⟩:=h
 rcases h1.done I h3 (by decide) (by decide) h5 with⟨q,_⟩|⟨_,_,_,q⟩
 ·cases q
 ·rw[q,h4 i hi];exact h2.1 i
section
variable {told:cR} {M p:Nat} {v w:V} {xs:List (List V×List (Int×List Nat))} {n0:Int}
noncomputable def cdP : Code:=cN [1,1,1,1,1,1,1,1,1,1,1,0,1,0,0] ((Tryz.f9.body).getD .skip)
theorem Yn (hT:W7 told)(hN:2≤N)(xu:N≤1000)(gT:∀x∈xs,Ey N x.2)(hxl:xs.length≤201){j:Nat}(hfi:fi≤j){x0:List V×List (Int×List Nat)}(Q2:xs[j]?=some x0)(hS:m_ N P x0.2): ∀(d:Nat) (ε:aX) (h:H) (E:List (Nat×V)) (Q:Ex→List (Nat×V)→H→Prop),j+d<xs.length→EI N 17 ε→pgA ε=P →
  Sat h (SA a p q r .b_ [] 0 ε::.arr 1 av vs::nI vs xs::S)→Has E [(9,av),(10,.int .i64 (fi:Int)),(21,.ptr a 0),(23,.int .i64 ((j+d:Nat):Int))] →
  (∀E' h',look E' 6=some (.bool true)→Q .ret E' h')→WP ⟨Tryz.prog,told⟩ 194 (.loop cdP) E h Q:=by
 have hW:=hT.w
 obtain⟨R,M0,dy,hp,hc,hb,hk⟩:=hS
 intro d
 induction d with
 |zero =>
  intro ε h E Q hd I hP s hE hq
  subst hP
  obtain⟨nv,J,s⟩:=J7 (s.ae [2]) Q2
  dsimp only[bringA,getA,aI] at s
  have s:=s.ae [0,0,1,1,0]
  dsimp only[bringA,getA,aI] at s
  obtain⟨id,off,e1,e2⟩:=gJ (P:=Tryz.prog) s (k:=3) (i:=j) rfl J ry II
  rw[nu] at hE
  refine WP.loop (WP.has hE (zK 5 rfl (zB rfl oa (by simp;omega) ?_)))
  refine zk 4 rfl (WP.block (zK 3 rfl (zo rfl (qS rfl (mki_of sQ rfl)) (zk 2 rfl (zo rfl (cK (r:=.ptr id off) rfl rfl e1) (zl rfl (e2 _ Th) (zc rfl (J5 (G:=True) hT.wc (JK W.base (by decide)) (JK hW (by decide)) ⟨rfl,rfl,by simp[V.beq]⟩ (vc 2 nv x0.1) hN (by omega) I hp ((gT _ (bD Q2)).lk hk (by omega)) (fun _=>⟨hc,hb⟩) s) ?_)))))))
  rintro v h ⟨bl,rfl,m7,_⟩
  obtain rfl:=m7 aa
  exact zk 6 rfl (WP.ret (hq _ _ rfl))
 |succ d ih =>
  intro ε h E Q hd I hP s hE hq
  subst hP
  obtain⟨x1,yW⟩:∃x,xs[j+(d+1)]?=some x:=⟨_,bx hd⟩
  obtain⟨nv,J,s⟩:=J7 (s.ae [2]) yW
  dsimp only[bringA,getA,aI] at s
  have s:=s.ae [0,0,1,1,0]
  dsimp only[bringA,getA,aI] at s
  obtain⟨id,off,e1,e2⟩:=gJ (P:=Tryz.prog) s (k:=3) (i:=j+(d+1)) rfl J ry II
  refine WP.loop (WP.has hE (zK 5 rfl (zB rfl oa (by simp;omega) ?_)))
  refine zk 4 rfl (WP.block (zK 3 rfl (zo rfl (qS rfl (mki_of sQ rfl)) (zk 2 rfl (zo rfl (cK (r:=.ptr id off) rfl rfl e1) (zl rfl (e2 _ Th) (zc rfl (J5 (G:=False) (dy:=[]) hT.wc (JK W.base (by decide)) (JK hW (by decide)) ⟨rfl,rfl,by simp[V.beq]⟩ (vc 2 nv x1.1) hN (by omega) I hp ((gT _ (bD yW)).lk hk (by omega)) (fun q=>q.elim) s) ?_)))))))
  rintro v h ⟨bl,rfl,_,af,rq,hs,s⟩
  cases bl with
  |true =>
   exact zk 6 rfl (WP.ret (hq _ _ rfl))
  |false =>
   refine zv (zj rfl (WP.skip (zr rfl (zm rfl (zo rfl (aA (r:=.int .i64 ((j+d:Nat):Int)) rfl rfl (by rw[show((j+d:Nat):Int)=((j+(d+1):Nat):Int)-1 by omega];exact iM (aB (by omega) (by omega)))) ?_)))))
   refine za rfl (zv ?_)
   exact ih af _ _ Q (by omega) rq (funext hs.1) ((s.ae [2,2,2]).del 4 |>.del 3) ⟨rfl,rfl,rfl,rfl,aa⟩ hq
theorem U6 (hT:W7 told)(Wq:L.length≤1048576)(s:Sat h (pZ 3 dv (rF L)::.bY cv c::S)): Call ⟨Tryz.prog,told⟩ 9 [dv,.int .i64 n0,cv] h fun v h'=>v=.bool true:=by
 have hW:=hT.w
 have aaL:bW (List.replicate 512 0)=false:=by decide +kernel
 have je:=FZ L
 obtain⟨f,hf,hfe⟩:=Uz (k:=n0) (m:=127) (by decide)
 refine Call.of_wp (hW.free _ rfl) Tryz.func9 rfl rfl (zK 7 rfl (zc rfl (OI hT.wc s) ?_))
 rintro v h ⟨rfl,s⟩
 refine zo rfl (er rfl rfl) (zk 7 rfl (zo rfl (aN rfl rfl rfl (s.Ef (n:=L.length) (j:=0) rfl je (by decide) xD)) ?_))
 by_cases hL:200<L.length
 ·skip
  refine zB rfl gA (by simp;omega) ?_
  refine zk 6 rfl (WP.ret ⟨aa,_,rfl,?_⟩)
  rfl
 refine zC rfl gA (by simp;omega) ?_
 refine zk 5 rfl (zc rfl (Eb (n:=64) (m:=1048576) (f:=24) hW s (by decide) (by decide) (by decide) (by decide) (by decide)) ?_)
 rintro v h ⟨p,a,q,r,rfl,s⟩
 have s:Sat h (SA a p q r .b_ [] 0 (fresh 64 1048576 24)::_):=bn.2 s
 have LK:m9 64 1048576 16 [] (fresh 64 1048576 24):=m9.fresh (by decide) (by decide) (by decide) (by decide) (by decide) (by decide)
 refine zk 10 rfl (zC rfl (vz sQ) (rfl) (zk 2 rfl (zc rfl (GY (N:=64) (B:=16) (K:=0) (m:=1048576) hT.w6.ws (by decide) LK.ei (by decide) (by decide) (by rw[qI];exact fN) (by rw[qI];exact aaL) ⟨aU _,rfl⟩ (by decide) s) ?_)))
 rintro v h ⟨rfl,ε,_,hp,_,s,hg⟩
 obtain⟨r0,J⟩:=LK.fmt (by decide) hg
 have J:m9 64 1048576 16 [r0] ε:=J
 have hS0:m_ 64 (pgA ε) []:=⟨_,_,[],hp,⟨rfl,fun i ps x q=>(by simp at q),kq,fun z hz=>(by cases hz)⟩,fun j _=>by rw[JQ];simp,fun i h1 h2=>by
  rw[hg.pg (by decide) (by omega),qI]
  exact⟨fN,.inl aaL⟩⟩
 refine zC rfl aE (rfl) (zk 3 rfl ?_)
 obtain⟨U7,U8⟩:=J.clean
 obtain⟨_,_,U9⟩:=J.ei.clean
 refine zc rfl (O3 hT.w6.w5.w J.ei (by decide) s) ?_
 rintro v h ⟨rfl,s⟩
 have Ws:m_ 64 (pgA (eN ε).2) []:=hS0.th fun n h0 h1=>by
  obtain⟨g0,hg0⟩:=J.ex
  rw[U9 n h0]
  exact iO.refl (hg0.st n h0 h1).2.1
 have xq:fI 64 (List.replicate 64 0) sX (pgA (eN ε).2):=hp.adi (U9 0 (by decide)) (U9 1 (by decide))
 generalize (eN ε).2=I at U7 U8 xq Ws s
 obtain⟨ex0,sF⟩:=xq.head
 have nM:=Sn U8 U7.ei (by decide) sF.good
 have Ic:=U7.Ax nM (k:=f) (by omega)
 refine zC rfl aE (rfl) ?_
 obtain⟨av,h1,b1,s1⟩:=jB (P:=Tryz.prog) (k:=1) (x:=.a_) s ry Ti II rfl (by decide) (by decide) rfl rfl
 refine zk 6 rfl (ax.any rfl rfl rfl (OpR.of (R:=fun v h'=>v=av∧h'=h1) (ke rfl b1) ⟨rfl,rfl⟩) ?_)
 rintro av h ⟨rfl,rfl⟩
 have s:Sat h (.arr 1 av [.a_]::_):=s1
 have s:=(s.gD aa).gK (B:=nI [.a_] [([],[])]) fun _ _ _=>⟨⟨⟨none,rfl,rfl,rfl⟩,aa⟩,aa⟩
 refine zk 10 rfl (zo rfl (aA (r:=.int .i64 (f:Int)) rfl rfl hfe) ?_)
 have s:=bn.1 (s.ae [2])
 refine zc rfl (Tq (n:=(f:Int)) hW (s.ae [3])) ?_
 rintro v h ⟨rfl,s⟩
 have s:Sat h (SA a p q r .b_ [] 0 (I.1,(I.2.1,I.2.2.Ax (f:Int)))::_):=bn.2 (s.ae [1,1,1,0])
 have aaM:pgA (I.1,(I.2.1,I.2.2.Ax (f:Int)))=pgA I:=rfl
 generalize (I.1,(I.2.1,I.2.2.Ax (f:Int)))=fM at Ic aaM s
 refine zk 6 rfl (WP.block ?_)
 have adw:zD 64 [r0] [([],[])]:=fun k hk=>by
  have F5:k=0:=by simpa using hk
  subst F5
  exact⟨_,rfl,Ws.th fun n h0 h1=>(U8.st n h0 h1).symm⟩
 refine Ym (B:=16) (M:=1048576) hT (by decide) (by omega) L.length 0 (szB [r0]) 0 [r0] [([],[])] fM [.a_] av _ _ _ (by omega) (aU _) Ic adw (fun x hx=>by rw[List.mem_singleton.1 hx];exact Ws.okx) (A9 _) (aU _) rfl (fun x hx=>by cases hx;rw[aaM];exact Ws) (s.ae [0,1,0,1,0]) ⟨rfl,rfl,rfl,rfl,rfl,rfl,rfl,aa⟩ ⟨fun F fi rs vs xs ε av E' h' hD xj hE s' => ?_,fun E' h' he=>⟨aa,_,pO he,rfl⟩⟩
 have s:=s'
 obtain⟨u,j,hO⟩:∃u j,FX 64 17 24 c F rs ε.2.2 u j:=by
  rcases hD.lv with q|q
  ·exact q.xC c (by decide) (by decide)
  ·exact q.xC c (by decide) (by decide)
 have De:ε.2.2.Cr:=by
  rcases hD.lv with q|q
  ·exact q.cr
  ·exact q.cr.1
 obtain⟨QD,aeI,hut⟩:=hO.many hD.fl hD.fo
 obtain⟨x0,Q2,Sv⟩:=hD.md (u.length-1) (by omega)
 rw[show u.length-1+1=u.length by omega,hut] at Sv
 have Vj:=hO.ei
 have hS5:=Sv.th fun n h0 h1=>hO.pg n h0 h1
 have uF:=hD.ln
 have Kh:=FT s (j:=2) rfl
 refine WP.has hE ?_
 have s:=s.ae [0,2]
 refine zK 4 rfl (zc rfl (UH (c:=c) hW s (c8 _ _) De) ?_)
 rintro v h ⟨q4,rfl,s⟩
 refine zc rfl (UR (n:=24) (base:=1) (aC:=0) (rs:=u) (dP:=[]) (fK:=u) (data:=[]) hT.w6.w5 (by decide) (by decide) s hO.ag rfl (.inl ⟨hO.mark,rfl,rfl⟩) hO.len (by decide) hO.log hO.ok hO.SX ⟨rfl,.inl ⟨rfl,rfl,rfl⟩⟩) ?_
 rintro v h (⟨h0,_⟩|⟨_,a5,q5,r5,rfl,s⟩)
 ·exact absurd hO.Db h0
 have s:Sat h (SA a5 q4 q5 r5 .b_ [] 0 (Pl.fresh 24,(jc 1 0 u,(e_ (fV ε.2.2 c) 1 u [] u).2))::_):=bn.2 s
 generalize (Pl.fresh 24,(jc 1 0 u,(e_ (fV ε.2.2 c) 1 u [] u).2))=ε5 at Vj hS5 s
 refine zk 10 rfl (zC rfl aE (by decide) ?_)
 refine zk 2 rfl (zC rfl (vz sQ) (rfl) ?_)
 have s:=s.ae [0,2,2]
 refine zk 8 rfl (zo rfl (aN rfl rfl rfl (s.dZ (n:=xs.length) (j:=1) rfl (by rw[Kh,eF]) (by decide) ry)) ?_)
 refine zo rfl (aA (r:=.int .i64 ((xs.length-1:Nat):Int)) rfl rfl (by rw[show((xs.length-1:Nat):Int)=(xs.length:Int)-1 by omega];exact iM (aB (by omega) (by omega)))) ?_
 refine zk 2 rfl (WP.block ?_)
 refine Yn (j:=u.length-1) hT (by decide) (by decide) hD.ok xj (by omega) Q2 hS5 (xs.length-u.length) ε5 _ _ _ (by omega) Vj rfl s ⟨rfl,rfl,rfl,?_,aa⟩ (fun E' h' hr=>⟨aa,_,pO hr,rfl⟩)
 exact jm (fun z:Nat=>some (V.int .i64 (z:Int))) (by omega)
end
end Go.Proofs.YtefepnnfphdkpaaGreat.Am
namespace Go.Proofs.YtefepnnfphdkpaaGreat.Am
open Go Go.ChangeShapes Go.WideShapes Go.ChangeAt Go.RowKit
variable {C:Array Value} {X Y:aL} {ε af:aX} {lv dd:aX→Prop} {Q:Ex→List (Nat×V)→H→Prop} {h σ:H} {x y z:Int} {P P':Int→List Nat} {L:List (Int×Int×Nat)} {now nm:List (Int×List Nat)} {dy:List (List Nat)} {E:List (Nat×V)} {S:List aL} {U:List Bool} {R M b l c data R0 M0:List Nat} {rs:List cz} {Rt ds M5 Rk vs nc:List V} {cs:List Value} {N B n g a q r aC p4 p5 p6 K p7 i F k fi off o fuel uY:Nat} {fz:Nat×Nat} {α H':Type} {e t:TypeId} {rv uv dv uk cv av nv:V}
theorem abS : Tryz.prog.underlying 85=some (.struct (Ss Tryz.prog 85)):=by kernel_rfl
theorem Wt : Tryz.prog.cellsOf 85=3:=by kernel_rfl
theorem abT : Tryz.prog.cellsOf 5=1:=by kernel_rfl
theorem abU : (Ss Tryz.prog 85).size=3:=by kernel_rfl
theorem abV : Kw (Ss Tryz.prog 85) 0=some (3,0):=by kernel_rfl
theorem abW : Kw (Ss Tryz.prog 85) 1=some (3,1):=by kernel_rfl
theorem abX : Kw (Ss Tryz.prog 85) 2=some (5,2):=by kernel_rfl
theorem wf_u8 {n:Int}(h:(Lit.int .u8 n).wf=true): 0≤n:=by
 simp only[Lit.wf,bQ,gE] at h
 have e:IntKind.min .u8=0:=by decide
 omega
def d4E (vs:List V)(D:Int×Int×Nat): aL:=.pu (vs=[.int .i64 D.1,.int .i64 D.2.1,.int .u8 (D.2.2:Int)])
def d4A (l:List V)(m:List (Int×Int×Nat)): aL:=.pu (l=rF m)
section
variable {enc:TypeId×Value→H'} {W:World} {x:DataW H'×List MemPlace}
theorem Yo (h:DataW.trod enc Tryz.prog W 0 (fun _=>true) true fuel 85 cs=some x): pH W cs d4E (fun _=>True):=by
 obtain⟨xs,n,rfl,rfl,hl,hx,hf⟩:=DataW.trod_struct abS h
 rw[Wt] at hl
 rw[abU] at hx
 obtain⟨f0,a0,b0,c0⟩:=F0 abV
 obtain⟨f1,a1,b1,c1⟩:=F0 abW
 obtain⟨f2,a2,b2,c2⟩:=F0 abX
 have h0:=hf 0 f0 a0
 have h1:=hf 1 f1 a1
 have h2:=hf 2 f2 a2
 rw[b0,c0,Wp] at h0
 rw[b1,c1,Wp] at h1
 rw[b2,c2,abT] at h2
 obtain⟨v0,v1,v2,rfl⟩:=Su hl
 obtain⟨y0,y1,y2,rfl⟩:=Su hx
 have h0:DataW.trod enc Tryz.prog W 0 (fun _=>true) true n 3 [v0]=some y0:=h0
 have h1:DataW.trod enc Tryz.prog W 0 (fun _=>true) true n 3 [v1]=some y1:=h1
 have h2:DataW.trod enc Tryz.prog W 0 (fun _=>true) true n 5 [v2]=some y2:=h2
 obtain⟨m0,I,_,_⟩:=DataW.trod_int bT h0
 injection I with I _
 subst I
 obtain⟨m1,J,_,_⟩:=DataW.trod_int bT h1
 injection J with J _
 subst J
 obtain⟨m2,BS,_,hw⟩:=DataW.trod_int Tryz.underlying5 h2
 injection BS with BS _
 subst BS
 have hw:=wf_u8 hw
 obtain⟨m2,rfl⟩:∃k:Nat,m2=k:=⟨m2.toNat,by omega⟩
 exact fun c σ S hr=>⟨c,σ,[.int .i64 m0,.int .i64 m1,.int .u8 m2],(m0,m1,m2),hr.sat fun h s=>(s.gD (φ:=True) aa).gK fun a b k=>rfl,Ext.refl c,by simp[conc],fun v hv=>by
  simp only[kP,ow,ug] at hv
  rcases hv with rfl|rfl|rfl<;>exact⟨aa,rfl⟩,aa⟩
theorem U_ (h:DataW.trod enc Tryz.prog W 0 (fun _=>true) true fuel 82 cs=some x)(hB:Rows.uptoBulk x.1≤B): pH W cs (Sq 3 d4A) (fun xs=>xs.length≤B∧∀y∈xs,True) :=
 Sr (E:=d4E) xD Wt (by decide) (fun _ _=>aV.pu _) (fun _ _=>aV.pu _) (fun _ _=>rfl) (fun vs x l m a b I J=>by
  have I:vs=[.int .i64 x.1,.int .i64 x.2.1,.int .u8 (x.2.2:Int)]:=I
  have J:l=rF m:=J
  subst I
  subst J
  exact(rfl:_=rF (x::m))) (fun n cs y hy _=>Yo hy) h hB
end
noncomputable def HV (f:Nat): Option (List V→H→Option (V×H)) :=
 cond (Nat.beq f 50) (some (iZ Tryz.prog 50 (JW 50))) (EA f)
noncomputable abbrev C7 : fc:=⟨Tryz.prog,HV⟩
theorem Va : W7 HV:=by
 have hw:=U3
 refine⟨⟨⟨⟨⟨fun f I => ?_,rfl,rfl⟩,rfl,rfl⟩,rfl⟩,rfl⟩,rfl⟩
 have J:f≠50:=fun e=>by subst e;revert I;decide
 simp only[HV,eo J,aY]
 exact hw.w.free f I
theorem Ky : fq C7:=by
 intro f g I
 simp only[C7,HV] at I ⊢
 by_cases J:f=50
 ·subst J
  rw[oS rfl,aj] at I
  simp only[az] at I
  subst I
  exact sO ⟨_,JN,rfl,by decide⟩
 rw[eo J,aY] at I
 exact U4 f g I
theorem gO.ok7 {f:FuncId}{args:List V}{h':H}{v:V}(hd:gO C7 f args h v h'){c:Ctx}{w:World}(I:Rel c h w)(hw:∀x∈args,wf c x): eZ Tryz.prog f args c w v h':=by
 obtain⟨N,J⟩:=hd
 exact(callF_ok (C:=C7) (xT iy Ky N).1 Ky J I hw).1
theorem O5 {enc:TypeId×Value→H'}{W:World}{I J:Nat}{x1 x2:DataW H'×List MemPlace}{n:Int}{v0 v1:Value}(h1:DataW.trod enc Tryz.prog W 0 (fun _=>true) true I 82 [v0]=some x1)(hB1:Rows.uptoBulk x1.1≤1048576)
 (h2:DataW.trod enc Tryz.prog W 0 (fun _=>true) true J 28 [v1]=some x2)(hB2:Rows.uptoBulk x2.1≤1048576):
  Calls Tryz.prog 9 #[v0,.int .i64 n,v1] W fun e w'=>e=.returned (.bool true)∧W.keptBut w' (fun _=>False)∧W.heap.size≤w'.heap.size∧∀b,b<W.heap.size→w'.heap[b]?=W.heap[b]?:=by
 obtain⟨c0,σ0,h0⟩:=AZ.zero W
 obtain⟨c1,σ1,vs1,L,j7,_,Aq,adx,hL⟩:=U_ h1 hB1 c0 σ0 [] h0
 obtain⟨lv,rfl,hlv⟩:=M6 Aq
 obtain⟨c,σ,vs2,ch,hr,Cp,BS,ady,_⟩:=Yk h2 hB2 c1 σ1 _ j7
 obtain⟨cv,rfl,C4⟩:=M6 BS
 have BV:=cx Cp lv (adx lv (by simp)).1
 obtain⟨cv',s⟩:=g_.1 hr.2.2
 have s0:=s
 obtain⟨_,_,_,_,hk⟩:=s0.at (k:=0) rfl
 have e:[cv]=[cv']:=hk.1
 injection e with e _
 subst e
 have s:=s.gK (B:=.bY cv ch) fun _ _ k=>k.2
 obtain⟨lv',s⟩:=g_.1 (s.ae [1])
 obtain⟨cs,s⟩:=g_.1 s
 have s0:=s
 obtain⟨_,_,_,_,hk⟩:=s0.at (k:=0) rfl
 have e:[lv]=[lv']:=hk.1
 injection e with e _
 subst e
 have ec:cs=rF L:=hk.2.2
 subst ec
 have s1:=s.gK (B:=pZ 3 lv (rF L)) fun _ _ k=>k.2.1
 obtain⟨v',h',Aa,rfl⟩:=U6 Va (n0:=n) (c:=ch) (cv:=cv) hL.1 s1
 have gT:=Aa.ok7 hr.1 (fun x hx=>by
  rcases List.mem_cons.1 hx with rfl|hx
  ·exact BV.2
  rcases List.mem_cons.1 hx with rfl|hx
  ·exact aa
  ·rw[List.mem_singleton.1 hx];exact(ady cv (by simp)).1)
 unfold eZ at gT
 have ea:(([lv,V.int .i64 n,cv].map (conc c)).toArray) = #[v0,.int .i64 n,v1]:=by simp[conc,BV.1,hlv,C4]
 rw[ea] at gT
 refine Calls.mono gT ?_
 rintro e w' ⟨c',rfl,_,_,hs⟩
 obtain⟨k1,k2,k3⟩:=LC hr.2.1 hs
 exact⟨by simp[conc],k1,k2,k3⟩
end Go.Proofs.YtefepnnfphdkpaaGreat.Am
namespace Go.Proofs.YtefepnnfphdkpaaGreat.ChainDies
open Go.ChangeShapes Go.WideShapes Go.ChangeAt Go.RowKit
theorem own : ownKnob Tryz.prog.godebug=none:=by kernel_rfl
theorem laid : laidOutB Tryz.prog=true:=by kernel_rfl
theorem OY : Tryz.prog.readableRec 82=true:=by kernel_rfl
theorem row : (82:TypeId)<Tryz.prog.types.size:=of_decide_eq_true (by kernel_rfl)
theorem Wu : Tryz.prog.readableRec 28=true:=by kernel_rfl
theorem adz : (28:TypeId)<Tryz.prog.types.size:=of_decide_eq_true (by kernel_rfl)
set_option maxRecDepth 100000 in
theorem Vb (H:Type)(enc:TypeId×Value→H)(W:World)(base:Nat)(args:Array Value)(ds gs:List (DataW H))(before:List MemPlace)
 (I:∀(j:Nat) t v,Tryz.f9.params[j]?=some t→args[j]?=some v→Value.okWide Tryz.prog W .any base t v)
 (hW:DataW.Whole enc Tryz.prog Tryz.f9.params.toList Rows.chainDiesSpec.vars false W args.toList ds gs before)(hk:Rows.uptoBulkAll (ds++gs)≤1048576):
  Calls Tryz.prog 9 args W fun e W'=>∃v,e=.returned v∧Rows.chainDiesSpec.post enc Tryz.prog Tryz.f9 false true false false W args v W':=by
 have hW':=hW
 obtain⟨p,q,hA0,hV,rfl,F3,iK⟩:=hW
 have hA:DataW.TrodAll enc Tryz.prog W 0 (fun _=>true) true Tryz.f9.params.toList args.toList ds p:=hA0
 rw[Tryz.params9] at hA I
 obtain⟨v0,vs0,d0,ds0,p0,q0,Br,rfl,rfl,h0,r0⟩:=trodAll_cons hA
 obtain⟨n1,vs1,e1,ds1,p1,q1,rfl,rfl,rfl,iu,r1⟩:=trodAll_cons r0
 obtain⟨v2,vs2,d2,ds2,p2,q2,rfl,rfl,rfl,h2,r2⟩:=trodAll_cons r1
 obtain⟨rfl,rfl,rfl⟩:=trodAll_nil r2
 obtain rfl:args = #[v0,n1,v2]:=by cases args;simp_all
 obtain⟨rfl,rfl⟩:=trodVars_none hV
 obtain⟨a1,rfl,rfl,rfl,w1⟩:=open_int Tryz.underlying3 (I 1 3 n1 rfl rfl) iu
 obtain⟨J,h0⟩:=h0
 obtain⟨fuel,h2⟩:=h2
 have aaN:v0.cells.toList=[v0]:=by
  have:=I 0 82 v0 rfl rfl
  simp only[Value.okWide,Tryz.underlying82,Cell.okWide,Cell.ok] at this
  split at this<;>first|rfl|exact this.elim
 have xH:v2.cells.toList=[v2]:=by
  have:=I 2 28 v2 rfl rfl
  simp only[Value.okWide,Tryz.underlying28,Cell.okWide,Cell.ok] at this
  split at this<;>first|rfl|exact this.elim
 have h0':=h0
 rw[aaN] at h0
 have Is:=h2
 rw[xH] at h2
 have sD:Rows.uptoBulk d0≤1048576:=by
  have:=Am.A0 (l:=([d0,DataW.lit (Lit.int .i64 a1),d2]++([]:List (DataW H)))) (d:=d0) (by simp)
  exact Nat.le_trans this hk
 have hb:Rows.uptoBulk d2≤1048576:=by
  have:=Am.A0 (l:=([d0,DataW.lit (Lit.int .i64 a1),d2]++([]:List (DataW H)))) (d:=d2) (by simp)
  exact Nat.le_trans this hk
 refine(Am.O5 (n:=a1) h0 sD h2 hb).mono fun e W' ⟨he,hg,hs,Wv⟩ => ?_
 subst he
 have cI:∀x∈p2,x.block<W.heap.size:=fun x hx=>hW'.lt x (by simp[hx])
 have aaO:∀x∈p0,x.block<W.heap.size:=fun x hx=>hW'.lt x (by simp[hx])
 have kH:∀ {p:List MemPlace},(∀x∈p,x.block<W.heap.size)→∀x∈p,match x with|.cell b off=>W'.cell? ⟨b,off,none⟩=W.cell? ⟨b,off,none⟩|.map b=>W'.heap[b]?=W.heap[b]?:=fun hp x hx=>by
  have hl:=hp x hx
  cases x with
  |cell b off =>
   show W'.cell? ⟨b,off,none⟩=W.cell? ⟨b,off,none⟩
   unfold World.cell?
   rw[Wv b hl]
  |map b=>exact Wv b hl
 have aaP:DataW.trod enc Tryz.prog W' 0 (fun b=>decide (b<W.heap.size)) true J 82 v0.cells.toList=some (d0,p0) :=
  DataW.trod_stays (kids_book laid OY) (book_sized OY) (fun h=>by cases h) ⟨row,book_self _⟩ h0' (kH aaO) (fun x hx=>by simpa using aaO x hx)
 have abY:DataW.trod enc Tryz.prog W' 0 (fun b=>decide (b<W.heap.size)) true fuel 28 v2.cells.toList=some (d2,p2) :=
  DataW.trod_stays (kids_book laid Wu) (book_sized Wu) (fun h=>by cases h) ⟨adz,book_self _⟩ Is (kH cI) (fun x hx=>by simpa using cI x hx)
 exact⟨_,rfl,⟨_,[],_,[],_,[],hW',trodAll_cons_mk (shut_bool Tryz.underlying4 _) trodAll_mk0,trodAll_cons_mk ⟨J,aaP⟩ (trodAll_cons_mk (shut_int Tryz.underlying3 w1) (trodAll_cons_mk ⟨fuel,abY⟩ trodAll_mk0)),rfl,World.keptBut_mono (fun _ f=>f.elim) hg,fun h=>by cases h⟩⟩
set_option maxRecDepth 100000 in
theorem lifted (os:Os)(started:os.Started)(H:Type)(enc:TypeId×Value→H)(F:Stop.Interp):
  ReturnsInHanded {} Tryz.checked os 9 .any ((Rows.OpenSpec.upto Rows.chainDiesSpec).pre6 enc Tryz.prog Tryz.f9 Rows.chainDiesUptoRow.domain false) (((Rows.OpenSpec.upto Rows.chainDiesSpec).at F).post enc Tryz.prog Tryz.f9 false true false false):=by
 refine returnsInHanded_of_cond (C:=Tryz.checked) (s:=Rows.OpenSpec.upto Rows.chainDiesSpec) (k:=Rows.uptoSmall) rfl own started (by kernel_rfl) Tryz.func9
  (OpenSpec.witness (enc:=enc) (C:=Tryz.checked) (s:=Rows.OpenSpec.upto Rows.chainDiesSpec) (k:=Rows.uptoSmall) rfl false ⟨#[], #[.slice none 0 0,.int .i64 0,.slice none 0 0],[]⟩ 8 (by kernel_rfl) (by kernel_rfl) (by kernel_rfl)
   (x:=([.nil,.lit (.int .i64 0),.nil],[],[])) (by kernel_rfl) rfl (by kernel_rfl)) ?_
 intro W base args ds gs before I J _ hk _
 exact Vb H enc W base args ds gs before I J (of_decide_eq_true hk)
theorem cu : Rows.chainDiesUptoRow.holds Tryz.pinned (Rows.OpenSpec.upto Rows.chainDiesSpec) :=
 OpenClaim.holds_of_cond 9 Tryz.f9 rfl rfl rfl rfl rfl rfl rfl ⟨rfl,rfl,rfl,rfl,rfl⟩ rfl rfl rfl rfl rfl (by kernel_rfl) Tryz.func9 (by kernel_rfl)
  (of_decide_eq_true (by kernel_rfl)) (by unfold Func.isWrapper;first|(rw[if_pos (by decide +kernel)];kernel_rfl)|(rw[if_neg (by decide +kernel)];exact⟨rfl,rfl⟩))
  (fun os started H enc _ F=>lifted os started H enc F)
theorem proved : Rows.ChainDiesUptoSaid :=
 cu
#print axioms proved
end Go.Proofs.YtefepnnfphdkpaaGreat.ChainDies
