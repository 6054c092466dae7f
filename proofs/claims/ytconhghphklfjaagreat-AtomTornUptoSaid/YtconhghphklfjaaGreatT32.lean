/- AtomTorn: a part of its proof; conditions: its statement's. -/
import Derived.Test.YtconhghphklfjaaGreatT30
import Derived.Test.YtconhghphklfjaaGreatT31
import Derived.Test.YtconhghphklfjaaGreatT24
namespace Go.Proofs.YtconhghphklfjaaGreat.Am
open Go
theorem vt {n m:Nat}(hle:n≤m){args:List V}{h:H}{r:V×H}(I:toldParsed CB n args h=some r): toldParsed CB m args h=some r:=by
 unfold toldParsed at I ⊢
 have mono:=gz (C:=CB) hle
 split at I
 ·rename_i x
  split at I
  ·rename_i J h₁
   simp only [mono _ _ _ h₁]
   cases U:Nat.blt 4 J.az with
   | false=>rw [U] at I; cases I
   | true =>
    rw [U,ag] at I
    rw [ag]
    split at I
    ·rename_i K_ P9
     simp only [mono _ _ _ P9]
     split at I
     ·rename_i abU TX
      simp only [mono _ _ _ TX]
      exact I
     ·cases I
    ·cases I
  ·cases I
 ·cases I
section
variable {h:H} {S:List ax} {X:ax} {v:V}
noncomputable def Z3 : Code:=cM [0] ((Tryz.f101.body).getD .skip)
noncomputable def Z4 : Code:=cM [1,1,0] ((Tryz.f101.body).getD .skip)
theorem Xa {E:List (Nat×V)}{Q:Ex→List (Nat×V)→H→Prop}(s:Sat h S)(U:Has E [(0,v)])
 (hq:∀E' h' I J,Has E' [(0,v),(2,.ptr I 0),(3,.ptr J 0)]→Sat h' (pt J (.cells 1 [.bool false] false)::pt I (.cells 6 (iI 0 0 0 0 .bz .bz) false)::S)→Q .normal E' h'): WP CB 9 Z3 E h Q:=by
 refine WP.has U (zr rfl ?_)
 refine aB.cT s rfl rfl rfl (cI rI) (fun I h s => ?_)
 refine aB.cT s rfl rfl rfl (cI Zy) (fun J h s => ?_)
 exact zv (hq _ _ _ _ ⟨rfl,rfl,rfl,aa⟩ s)
theorem Xb {kd tx pv nx:Nat}{data:List Nat}{aR:List cn}(hg:dU kd aR=true)(hk:kd<256)(hr:xS tx pv nx data aR)(hX:cU X (cY v (dB kd tx pv nx data aR)))
 {I J:Nat}{E:List (Nat×V)}{Q:Ex→List (Nat×V)→H→Prop}(s:Sat h (pt J (.cells 1 [.bool false] false)::pt I (.cells 6 (iI 0 0 0 0 .bz .bz) false)::X::S))
 (hE:Has E [(0,v),(2,.ptr I 0),(3,.ptr J 0)])
 (hq:∀E' h' dt ch cs,Has E' [(2,.ptr I 0),(3,.ptr J 0)]→Sat h' (pt J (.cells 1 [.bool true] false)::pt I (.cells 6 (iI kd tx pv nx dt ch) false)::X::bK dt data::.arr 4 ch cs::cZ cs aR::S)→Q .normal E' h'): WP CB 9 Z4 E h Q:=by
 obtain ⟨pi,po,pc,rfl⟩:=kN (s.aL (k:=2) rfl hX) (by simp only [dB,bC,bl]; omega)
 refine WP.has hE (zK 2 rfl (zo rfl (c8 rfl (by rw [Yp]; rfl)) ?_))
 refine aB.cT s rfl rfl rfl (gL rfl rfl) ?_
 intro p1 h s
 dsimp only [V.cells] at s
 refine zc rfl (UD W.base hg hk hr ⟨_,hX,s.ae [0,2]⟩) ?_
 rintro r h ⟨dt,ch,cs,rfl,s⟩
 have U:=(s.buf (k:=1) rfl).view.cells
 have ki:=s.kU (j:=2) rfl
 refine zS rfl (s.ia (j:=5) rfl gM rfl (mZ U.2 ki.2.1)) ?_
 rintro h s
 refine zS rfl (by exact s.ee (k:=4) rfl yq rfl (by decide) rfl rfl) (fun h s => ?_)
 exact zv (hq _ _ _ _ _ ⟨rfl,rfl,aa⟩ (s.ae [4,4,0,0,0,0]))
noncomputable def Z5 : Code:=cM [1] ((Tryz.f131.body).getD .skip)
theorem Xc {x y:V}{E:List (Nat×V)}{Q:Ex→List (Nat×V)→H→Prop}(I:Has E [(0,x),(1,y),(2,.mJ),(5,.mJ)])(J:∀E',Q .normal E' h): WP CB 16 Z5 E h Q:=by
 refine WP.has I (zK 3 rfl (zo rfl (Qm (r:=.bE [.int .i64 0,.bool false]) rfl (by simp only [assertV,Tryz.underlying28,aay])) ?_))
 refine zk 14 rfl (zo rfl (ah (r:=.bool false) rfl rfl (by simp only [binV,Tryz.underlying20]; rfl)) ?_)
 refine zv (zj rfl (WP.skip ?_))
 exact J _
theorem Mq {kd tx pv nx:Nat}{data:List Nat}{aR:List cn}(hg:dU kd aR=true)(hk:kd<256)(hr:xS tx pv nx data aR)(s:Sat h (X::S))(hX:cU X (cY v (dB kd tx pv nx data aR))):
  ∃n r,toldParsed CB n [v] h=some r∧∃dt ch cs,r.1=.bE [.agg (iI kd tx pv nx dt ch),.bool true]∧Sat r.2 (X::bK dt data::.arr 4 ch cs::cZ cs aR::S):=by
 obtain ⟨N1,ex1,I,h1,E1,a1,k1,rfl,J,U,O3,s1⟩:=Xa (Q:=fun ex E' h'=>ex=.normal∧∃J U,Has E' [(0,v),(2,.ptr J 0),(3,.ptr U 0)]∧Sat h' (pt U (.cells 1 [.bool false] false)::pt J (.cells 6 (iI 0 0 0 0 .bz .bz) false)::X::S)) (v:=v) (E:=argE [v] 0) s ⟨rfl,aa⟩ (fun E' h' J U hE s=>⟨rfl,J,U,hE,s⟩) _ (AZ [v])
 have v2:I.v 2=.ptr J 0:=by simp only [Env.v,k1 _ _ O3.2.1]
 have v3:I.v 3=.ptr U 0:=by simp only [Env.v,k1 _ _ O3.2.2.1]
 have k1':=k1.set 4 (.fn (.func 131) [] [I.v 2,I.v 3])
 obtain ⟨N2,Sh,Xd,h2,E2,a2,k2,rfl,dt,ch,cs,Z6,s2⟩:=Xb (Q:=fun ex E' h'=>ex=.normal∧∃dt ch cs,Has E' [(2,.ptr J 0),(3,.ptr U 0)]∧Sat h' (pt U (.cells 1 [.bool true] false)::pt J (.cells 6 (iI kd tx pv nx dt ch) false)::X::bK dt data::.arr 4 ch cs::cZ cs aR::S)) hg hk hr hX s1 (E:=(4,.fn (.func 131) [] [I.v 2,I.v 3])::E1) ⟨O3.1,O3.2.1,O3.2.2.1,aa⟩ (fun E' h' dt ch cs hE s=>⟨rfl,dt,ch,cs,hE,s⟩) _ k1'
 have k3:=((AZ [V.ptr J 0,V.ptr U 0]).set 5 .mJ).set 2 .mJ
 obtain ⟨N3,ex3,acB,h3,E3,a3,k3',rfl,rfl⟩:=Xc (h:=h2) (x:=.ptr J 0) (y:=.ptr U 0) (Q:=fun ex E' h'=>ex=.normal∧h'=h2) (E:=(2,.mJ)::(5,.mJ)::argE [.ptr J 0,.ptr U 0] 0) ⟨rfl,rfl,rfl,rfl,aa⟩ (fun E'=>⟨rfl,rfl⟩) _ k3
 have r1:mapO (resV Tryz.prog ⟨Xd,9,h3⟩) Tryz.f101.results.toList=some [.agg (iI kd tx pv nx dt ch),.bool true]:=by
  refine En (s:=⟨Xd,9,h3⟩) k2 ?_
  have e1:resE Tryz.prog E2 h3 (.cell 2 40)=some (.agg (iI kd tx pv nx dt ch)):=by
   simp only [resE,Z6.1]
   exact s2.fM (k:=1) rfl nE gM
  have e2:resE Tryz.prog E2 h3 (.cell 3 4)=some (.bool true):=by
   simp only [resE,Z6.2.1]
   exact s2.ld (k:=0) rfl ke rfl
  show mapO (resE Tryz.prog E2 h3) [.cell 2 40,.cell 3 4]=_
  simp only [mapO,e1,e2]
 refine ⟨max N1 (max N2 N3),(.bE [.agg (iI kd tx pv nx dt ch),.bool true],h3),?_,dt,ch,cs,rfl,(s2.del 0).del 0⟩
 have b1:=gz (C:=CB) (show N1≤max N1 (max N2 N3) by omega) _ _ _ a1
 have b2:=gz (C:=CB) (show N2≤max N1 (max N2 N3) by omega) _ _ _ a2
 have b3:=gz (C:=CB) (show N3≤max N1 (max N2 N3) by omega) _ _ _ a3
 simp only [toldParsed]
 rw [show Mo=Z3 from rfl,b1]
 simp only [v2,v3] at b2 ⊢
 rw [show Nat.blt 4 9=true from rfl,ag,show Mp=Z4 from rfl,b2]
 dsimp only
 rw [show Gr=Z5 from rfl,b3]
 dsimp only
 rw [r1]
def Gs (args:List V)(h:H)(r:V×H): Prop:=∃n,toldParsed CB n args h=some r
structure WR (told:dM): Prop where
 w:W told
 pr:told 101=some (nK Tryz.prog 101 Gs)
theorem O4 {told:dM}(U:WR told){kd tx pv nx:Nat}{data:List Nat}{aR:List cn}(hg:dU kd aR=true)(hk:kd<256)(J:xS tx pv nx data aR)(s:Sat h (X::S))(hX:cU X (cY v (dB kd tx pv nx data aR))):
  Call ⟨Tryz.prog,told⟩ 101 [v] h fun r h'=>∃dt ch cs,r=.bE [.agg (iI kd tx pv nx dt ch),.bool true]∧Sat h' (X::bK dt data::.arr 4 ch cs::cZ cs aR::S):=by
 obtain ⟨n,r,e,hP⟩:=Mq hg hk J s hX
 obtain ⟨r',h1,m,h2⟩:=Ag (P:=Tryz.prog) (f:=101) (jf:=Gs) (args:=[v]) (r:=r) ⟨n,e⟩ (fun c w J hw=>Ga (C:=CB) rfl ic fH e J hw)
 have e1:=vt (show n≤max n m by omega) e
 have I:=vt (show m≤max n m by omega) h2
 rw [e1] at I
 injection I with I
 subst I
 exact ⟨r.1,r.2,hO.told U.pr Ir rfl h1,hP⟩
end
structure DK (δ Gb:Dk): Prop where
 dead:Gb.dead=δ.dead
 aD:Gb.aD=δ.aD
 aq:Gb.aq=δ.aq
 now:Gb.now=δ.now
theorem DK.refl (δ:Dk): DK δ δ:=⟨rfl,rfl,rfl,rfl⟩
theorem DK.at {δ I:Dk}(h:DK δ I)(n:Int): I.at n=δ.at n:=by rw [Dk.at,Dk.at,h.now,h.aq]
structure DA (N:Nat)(δ:Dk): Prop where
 alive:δ.dead=false
 aD:δ.aD<0
 aq:δ.aq.length=N
 keys:∀k:Int,k∈δ.now.map (·.1)→0≤k∧k<N
 nodup:(δ.now.map (·.1)).Nodup
 good:∀n:Int,0≤n→n<N→dN (δ.at n)=0
theorem DA.of {N:Nat}{δ I:Dk}(h:DA N δ)(k:DK δ I): DA N I :=
 ⟨k.dead.trans h.alive,by rw [k.aD]; exact h.aD,by rw [k.aq]; exact h.aq,by rw [k.now]; exact h.keys,by rw [k.now]; exact h.nodup,fun n a b=>by rw [k.at]; exact h.good n a b⟩
theorem fP {δ:Dk}(h:δ.aD<0): δ.c9=δ:=by
 have:(if 0<δ.aD then δ.aD-1 else δ.aD)=δ.aD:=af (by omega)
 rw [Dk.c9,this]
theorem Cd {N:Nat}{δ:Dk}(h:DA N δ): δ.cg=(0,{ δ with aJ:=δ.log.length }):=by
 rw [Dk.cg,af (by rw [h.alive]; decide),af (by have:=h.aD; omega),fP h.aD]
theorem UE {N:Nat}{δ:Dk}{b:List Nat}(h:DA N δ)(I:b.length≤64): δ.qG b=(0,{ δ with mark:=b }):=by
 rw [Dk.qG,af (by rw [h.alive]; decide),af (by omega),af (by have:=h.aD; omega),fP h.aD]
theorem FM {N:Nat}{x:LD}{n:Nat}(h:DA N x.2): (aT x n).1=0∧DK x.2 (aT x n).2.2:=by
 unfold aT
 split
 ·exact ⟨rfl,DK.refl _⟩
 ·rw [Cd h,af (by simp)]
  exact ⟨rfl,rfl,rfl,rfl,rfl⟩
theorem Rq {N:Nat}{δ:Dk}{n:Int}{b:List Nat}(h:DA N δ)(h0:0≤n)(h1:n<N)(hb:b.length=512)(hc:dN b=0):
  (δ.bk n b).1=0∧DA N (δ.bk n b).2∧∀m,(δ.bk n b).2.at m=if n=m then b else δ.at m:=by
 have e:δ.bk n b=(0,δ.wr n b):=by
  rw [Dk.bk,af (by rw [h.alive]; decide),af (not_not_intro ⟨h0,by rw [h.aq]; exact h1,hb⟩),af (by have:=h.aD; omega)]
 have I:(δ.wr n b).now=cN n b δ.now:=rfl
 have nJ:(δ.wr n b).aq=δ.aq:=rfl
 have J:∀m,(δ.wr n b).at m=if n=m then b else δ.at m:=fun m=>by
  rw [Dk.at,Dk.at,I,nJ,gY]
  by_cases hm:n=m
  ·rw [aj hm,aj hm]
  ·rw [af hm,af hm]
 have O5:(δ.wr n b).aD=δ.aD:=by
  show δ.c9.aD=δ.aD
  rw [fP h.aD]
 rw [e]
 refine ⟨rfl,⟨h.alive,by rw [O5]; exact h.aD,h.aq,fun x U => ?_,?_,fun m a c => ?_⟩,J⟩
 ·rw [I] at U
  rcases oY.1 U with rfl | U
  ·exact ⟨h0,h1⟩
  ·exact h.keys x U
 ·rw [I]; exact iQ h.nodup
 ·rw [J]
  by_cases hm:n=m
  ·rw [aj hm]; exact hc
  ·rw [af hm]; exact h.good m a c
theorem laidP_get : ∀ {l:List (Int×List Nat)} {m:List (Option (List Nat))} {n:Int} {N:Nat},m.length=N→(l.map (·.1)).Nodup→(∀k:Int,k∈l.map (·.1)→0≤k∧k<N)→0≤n→(laidP l m)[n.toNat]?=match lookL n l with
  | some b=>some (some b)
  | none=>m[n.toNat]?:=by
 intro l
 induction l with
 | nil=>intro m n N _ _ _ _; rfl
 | cons e l U =>
  intro m n N hm hd J hn
  have I:e.1∉l.map (·.1)∧(l.map (·.1)).Nodup:=List.nodup_cons.1 hd
  have h1:=J e.1 (by simp)
  rw [laidP,U (N:=N) (by rw [dD]; exact hm) I.2 (fun x hx=>J x (by simp only [bI,fo]; exact .inr hx)) hn]
  simp only [lookL]
  by_cases he:e.1=n
  ·rw [aj he]
   have:lookL n l=none:=fD.2 (by rw [←he]; exact I.1)
   rw [this]
   simp only
   rw [he,iT (by rw [hm]; omega)]
  ·rw [af he]
   cases hq:lookL n l with
   | some b=>rfl
   | none=>simp only; rw [iU (by omega)]
theorem UF {N:Nat}{δ:Dk}(h:DA N δ): δ.c7.1=0∧DA N δ.c7.2∧∀m,0≤m→δ.c7.2.at m=δ.at m:=by
 have e:δ.c7=(0,δ.sync):=by rw [Dk.c7,af (by rw [h.alive]; decide),af (by have:=h.aD; omega),fP h.aD]
 have I:∀m,0≤m→δ.sync.at m=δ.at m:=fun m hm=>by
  rw [Dk.at,Dk.at]
  have J:lookL m δ.sync.now=none:=rfl
  rw [J]
  simp only
  rw [show δ.sync.aq=laidP δ.now δ.aq from rfl,laidP_get h.aq h.nodup h.keys hm]
  cases hq:lookL m δ.now with
  | some b=>rfl
  | none=>rfl
 rw [e]
 refine ⟨rfl,⟨h.alive,h.aD,by rw [show δ.sync.aq=laidP δ.now δ.aq from rfl,mO]; exact h.aq,fun x U=>(by cases U),kG,fun m a c => ?_⟩,I⟩
 rw [I m a]; exact h.good m a c
theorem BK {l m:List Nat}{a b:Nat}(J:a+m.length≤l.length)(U:a+m.length≤b): (dg l a m).drop b=l.drop b:=by
 have I:(l.take a).length=a:=by rw [dP]; omega
 rw [dg,←bH,AH,iB (by rw [bC,I]; omega),cW,rq,bC,I]
 congr 1; omega
theorem xU {l m:List Nat}{a z:Nat}(I:l.drop 12=m.drop 12)(J:12≤a): dY l a z=dY m a z:=by
 have e:∀l:List Nat,(l.take (a+z)).drop a=((l.drop 12).drop (a-12)).take z:=fun l=>by
  rw [rq,show 12+(a-12)=a by omega,tJ]
  congr 1; omega
 rw [dY,dY,e,e,I]
theorem JK {l m:List Nat}(I:l.drop 12=m.drop 12){low:Nat}: ∀(n i:Nat) (t:List Bool),cellsL l low n i t=cellsL m low n i t:=by
 intro n
 induction n with
 | zero=>intro i t; rfl
 | succ n J =>
  intro i t
  have U:jC l i=jC m i:=xU I (by omega)
  have e2:mg l i=mg m i:=xU I (by omega)
  simp only [cellsL,U,e2,J]
theorem Dw {l m:List Nat}(J:l.length=m.length)(I:l.drop 12=m.drop 12): bT l=bT m:=by
 have U:ku l=ku m:=xU I (by omega)
 have e2:iK l=iK m:=xU I (by omega)
 have e3:l.getD 13 0=m.getD 13 0:=by
  have:∀l:List Nat,l[13]?=(l.drop 12)[1]?:=fun l=>by rw [jW]
  rw [kD,kD,this,this,I]
 simp only [bT,J,U,e2,e3,JK I]
theorem qL : ∀(k n:Nat),leN (le k n)=n%256^k:=by
 intro k
 induction k with
 | zero=>intro n; rw [Nat.pow_zero,Nat.mod_one]; rfl
 | succ k I =>
  intro n
  rw [le,leN,I,pO,rB (256^k) 256,Nat.mod_mul]
theorem qj {b:List Nat}{n:Nat}(J:b.length=512): (cO b n).drop 12=b.drop 12∧(cO b n).length=512∧(cO b n).drop 4=(nj b n).drop 4∧dY (cO b n) 0 4=zV 0 ((nj b n).drop 4)%4294967296:=by
 have U:=xD (n:=n) J
 have h2:(cO b n).length=512:=by rw [cO,iO (by rw [cR]; omega),U]
 have I:(cO b n).drop 4=(nj b n).drop 4:=by rw [cO]; exact BK (by rw [cR]; omega) (by rw [cR]; omega)
 have h4:(nj b n).drop 12=b.drop 12:=by rw [nj]; exact BK (by rw [cR]; omega) (by rw [cR]; omega)
 refine ⟨?_,h2,I,?_⟩
 ·have:=iZ (List.drop 8) I
  rw [rq,rq] at this
  exact this.trans h4
 ·have e:(cO b n).take 4=le 4 (zV 0 ((nj b n).drop 4)):=by
   rw [cO,dg,pN,cW,pq (by rw [cR]; omega),fR (by rw [cR]; omega)]
  rw [dY,dV,d_,e,qL]
theorem UG {b:List Nat}{n:Nat}(I:∀x∈b,x<256): ∀x∈nj b n,x<256:=zH I (L2 _ _)
theorem Aq {b:List Nat}{n:Nat}(U:bT b=true)(hb:∀x∈b,x<256): dN (cO b n)=0∧bT (cO b n)=true∧j6 (cO b n)=b.drop 12:=by
 have hl:=fy U
 obtain ⟨h1,h2,h3,h4⟩:=qj (n:=n) hl
 have I:bT (cO b n)=true:=by rw [Dw (h2.trans hl.symm) h1]; exact U
 have hz:bT (List.replicate 512 0)=false:=by decide +kernel
 have J:cO b n≠List.replicate 512 0:=fun e=>by rw [e,hz] at I; cases I
 have hc:zV 0 ((nj b n).drop 4)<4294967296:=B5 (by decide) fun x hx=>UG hb x (iC hx)
 refine ⟨?_,I,?_⟩
 ·rw [dN,af J,af (by rw [I]; decide),af]
  rw [h4,h3,gJ hc]; exact not_not_intro rfl
 ·rw [j6,af (by rintro (h | h); exact h h2; exact J h),h1]
theorem Ce {x y z:List Nat}{a b:Nat}(I:x.length=a)(J:a+y.length=b): ((x++(y++z)).take b).drop a=y:=by
 subst I; subst J
 rw [←bH,pq (by simp),fR (by simp),nX rfl]
theorem YM (n:Nat)(b:List Nat): b.length<4294967296→tq n b<4294967296→leN (le 4 b.length)=b.length∧leN (le 4 (tq n b))=tq n b:=by
 intro I J
 rw [qL,qL]
 exact ⟨gJ (by simpa using I),gJ (by simpa using J)⟩
section
variable {told:dM} {h:H} {S:List ax} {X:ax} {v:V} {l:List Nat}
theorem Iu (hT:WR told){kd tx pv nx n a:Nat}{data:List Nat}{aR:List cn}{pre rest bd:List Nat}(hg:dU kd aR=true)(hk:kd<256)(hr:xS tx pv nx data aR)(Xe:bd=dB kd tx pv nx data aR)
 (uq:bd.length≤1048576)(ha:pre.length=a)(J:l=pre++(iA n bd++rest))(FJ:l.length≤1073741824)(s:Sat h (X::S))(I:cU X (cY v l)):
  Call ⟨Tryz.prog,told⟩ 57 [v,.int .i64 (a:Int),.int .u64 (n:Int)] h fun r h'=>∃dt ch cs,r=.bE [.agg (iI kd tx pv nx dt ch),.int .i64 ((a+8+bd.length:Nat):Int),.int .i64 0]∧Sat h' (X::bK dt data::.arr 4 ch cs::cZ cs aR::S):=by
 have hv:=s.aL (k:=0) rfl I
 have bV:∀x∈bd,x<256:=fun x hx=>hv.1 x (by rw [J,iA]; simp [hx])
 have U:=Hx (aK:=n) bV
 obtain ⟨q1,q2⟩:=YM n bd (by omega) U
 have hlen:l.length=a+8+bd.length+rest.length:=by rw [J]; simp only [bC,rN]; omega
 have m1:(l.take (a+4)).drop a=le 4 bd.length:=by
  rw [J,iA,bH,bH]
  exact Ce ha (by rw [cR])
 have m2:(l.take (a+8)).drop (a+4)=le 4 (tq n bd):=by
  rw [J,iA,bH,bH,←bH pre]
  exact Ce (by rw [bC,cR,ha]) (by rw [cR])
 have m3:(l.take (a+8+bd.length)).drop (a+8)=bd:=by
  rw [J,iA,bH,bH,←bH pre,←bH (pre++_)]
  exact Ce (by rw [bC,bC,cR,cR,ha]) rfl
 have hW:=hT.w
 have hvl:=bj (P:=Tryz.prog) (h:=h) aS hv
 refine Call.of_wp (hW.free _ rfl) Tryz.func57 rfl rfl (zg rfl ?_)
 refine aB.cT s rfl rfl rfl (cI rI) (fun p6 h s => ?_)
 refine zk 7 rfl (zh rfl (ah rfl rfl bB) (by simp) ?_)
 refine zk 3 rfl (zo rfl (bf rfl rfl rfl (bj aS (s.aL (k:=1) rfl I))) (zh rfl (ah rfl rfl ep) (by simp; omega) ?_))
 refine zk 8 rfl (zo rfl (bf rfl rfl rfl (bj aS (s.aL (k:=1) rfl I))) (zm rfl (zb rfl (by exact lV (aY (by omega) (by omega))) ?_)))
 refine zh rfl (ah rfl rfl bB) (by simp; omega) ?_
 refine zk 8 rfl (zb rfl (by exact bU (aY (by omega) (by omega))) ?_)
 refine zo rfl (cF (p:=some (.int .i64 (a:Int))) (q:=some (.int .i64 ((a:Int)+4))) (m:=none) (p':=some a) (q':=some (a+4)) (m':=none) rfl rfl rfl rfl (by rw [fO (by omega)]; rfl) (by rw [fO (by omega)]; congr 2 <;> omega) rfl (iN (s.aL (k:=1) rfl I) (a:=a) (b:=a+4) (by omega) (by omega)).1) ?_
 refine zc rfl (qb hW s (k:=1) rfl (mQ I (a:=a) (b:=a+4) (by omega) (by omega)) (by rw [m1,cR]; decide)) ?_
 rintro r h' ⟨rfl,rfl⟩
 rw [m1,q1]
 refine zk 6 rfl (zh rfl (ah rfl rfl ep) (by simp; omega) ?_)
 refine zk 2 rfl (zo rfl (bZ rfl (by exact jJ cx bG (aY (by omega) (by omega)))) ?_)
 refine zm rfl (zo rfl (bf rfl rfl rfl (bj aS (s.aL (k:=1) rfl I))) (zm rfl (zb rfl (by exact lV (aY (by omega) (by omega))) ?_)))
 refine zb rfl (by exact lV (aY (by omega) (by omega))) ?_
 refine zh rfl (ah rfl rfl ep) (by simp; omega) ?_
 refine zk 7 rfl (zb rfl (by exact bU (aY (by omega) (by omega))) ?_)
 refine zm rfl (zo rfl (bZ rfl (by exact jJ cx bG (aY (by omega) (by omega)))) ?_)
 refine zb rfl (by exact bU (aY (by omega) (by omega))) ?_
 refine zk 6 rfl (zb rfl (by exact bU (aY (by omega) (by omega))) ?_)
 refine zm rfl (zo rfl (cF (p:=some (.int .i64 ((a:Int)+8))) (q:=some (.int .i64 ((a:Int)+8+(bd.length:Int)))) (m:=none) (p':=some (a+8)) (q':=some (a+8+bd.length)) (m':=none) rfl rfl rfl rfl (by rw [fO (by omega)]; congr 2 <;> omega) (by rw [fO (by omega)]; congr 2 <;> omega) rfl (iN (s.aL (k:=1) rfl I) (a:=a+8) (b:=a+8+bd.length) (by omega) (by omega)).1) ?_)
 refine zk 7 rfl (zb rfl (by exact bU (aY (by omega) (by omega))) ?_)
 refine zm rfl (zb rfl (by exact bU (aY (by omega) (by omega))) ?_)
 refine zo rfl (cF (p:=some (.int .i64 ((a:Int)+4))) (q:=some (.int .i64 ((a:Int)+8))) (m:=none) (p':=some (a+4)) (q':=some (a+8)) (m':=none) rfl rfl rfl rfl (by rw [fO (by omega)]; congr 2 <;> omega) (by rw [fO (by omega)]; congr 2 <;> omega) rfl (iN (s.aL (k:=1) rfl I) (a:=a+4) (b:=a+8) (by omega) (by omega)).1) ?_
 refine zc rfl (qb hW s (k:=1) rfl (mQ I (a:=a+4) (b:=a+8) (by omega) (by omega)) (by rw [m2,cR]; decide)) ?_
 rintro r h' ⟨rfl,rfl⟩
 rw [m2,q2]
 refine zo rfl (bZ rfl (by exact jJ cx Tryz.underlying155 (TP (by omega) (by omega)))) ?_
 refine zk 2 rfl (zc rfl (FC hW s (k:=1) rfl (mQ I (a:=a+8) (b:=a+8+bd.length) (by omega) (by omega)) (by rw [m3]; omega)) ?_)
 rintro r h ⟨rfl,s⟩
 rw [m3]
 refine zh rfl (ah rfl rfl aV) (by simp) ?_
 refine zk 6 rfl ?_
 have hX':cU X (cY (slR v (a+8) (a+8+bd.length)) (dB kd tx pv nx data aR)):=by
  have:=mQ I (a:=a+8) (b:=a+8+bd.length) (by omega) (by omega)
  rw [m3] at this
  rw [←Xe]
  exact this
 refine zc rfl (O4 hT hg hk hr (s.ae [1]) hX') ?_
 rintro r h ⟨dt,ch,cs,rfl,s⟩
 have j5:=(s.buf (k:=1) rfl).view.cells
 have ki:=s.kU (j:=2) rfl
 have gF:[V.int .i64 (kd:Int),V.int .u64 (tx:Int),V.int .u64 (pv:Int),V.int .u64 (nx:Int),dt,ch].all storable=true:=mZ j5.2 ki.2.1
 refine zk 3 rfl (zS rfl (s.ia (j:=4) rfl gM rfl gF) ?_)
 rintro h s
 refine zk 6 rfl (zh rfl (dS rfl rfl) (rfl) (zk 5 rfl (zl rfl (s.fM (k:=4) rfl nE gM) (zm rfl (zS rfl (s.ia (j:=4) rfl gM rfl gF) ?_)))))
 rintro h s
 refine zk 3 rfl ?_
 refine WP.ret ⟨aa,_,xP rfl (s.fM (k:=4) rfl nE gM) rfl rfl,?_⟩
 exact ⟨dt,ch,cs,rfl,s.del 4⟩
end
section
variable {told:dM} {h:H} {S:List ax} {X:ax} {v:V} {l:List Nat} {q p:Nat} {μ:Lg}
theorem O6 (hT:WR told){kd tx pv nx n a:Nat}{data:List Nat}{aR:List cn}{pre rest bd:List Nat}(hg:dU kd aR=true)(hk:kd<256)(hr:xS tx pv nx data aR)(Xe:bd=dB kd tx pv nx data aR)
 (uq:bd.length≤1048576)(ha:pre.length=a)(hl:μ.b=pre++(iA n bd++rest))(hn:n=μ.base+a)(hh:μ.hasB n=true)(I:μ.Ok)(s:Sat h (bh q p μ::S)):
  Call ⟨Tryz.prog,told⟩ 20 [.ptr q 0,.int .u64 (n:Int)] h fun r h'=>∃dt ch cs,r=.bE [.agg (iI kd tx pv nx dt ch),.int .u64 ((n+8+bd.length:Nat):Int),.int .i64 0]∧Sat h' (bh q p μ::bK dt data::.arr 4 ch cs::cZ cs aR::S):=by
 have hW:=hT.w
 have hlen:μ.b.length=a+8+bd.length+rest.length:=by rw [hl]; simp only [bC,rN]; omega
 have eX:=I.size
 have hb:=I.len
 refine Call.of_wp (hW.free _ rfl) Ie rfl rfl (zg rfl ?_)
 refine aB.cT s rfl rfl rfl (cI rI) (fun p4 h s => ?_)
 dsimp only [V.cells,List.length_cons,List.length_nil,Nat.reduceAdd] at s
 refine zk 4 rfl (WP.block (zK 4 rfl ?_))
 have s:=s.ae [1]
 dsimp only [bringA,getA,aU] at s
 refine zc rfl (oh hW s I.size) ?_
 rintro v h' ⟨rfl,rfl⟩
 refine zh rfl (ah rfl rfl cB) (by simp; omega) ?_
 refine zk 7 rfl (zc rfl (Bc (n:=n) hW s I (by omega)) ?_)
 rintro v h' ⟨rfl,rfl⟩
 rw [hh]
 refine zo rfl (dS rfl rfl) (za rfl (zv (zj rfl (WP.skip (zw ?_)))))
 obtain ⟨bv,sv,s⟩:=dm.1 s
 have s0:=s
 have yc:=dc (s.buf (k:=1) rfl).view
 have J:((n:Int)-(μ.base:Int))=(a:Int):=by omega
 refine WP.drawn [ai,ai,ai,ai,ai,ai,ai,ai,ai,ai,ai,ai,ai,ai,ai,some (1,2),some (1,2),ai,ai,ai] rfl (by kernel_rfl) (by kernel_rfl) ?_
 refine zM rfl (zN rfl (zF rfl (eO _ _) (zL rfl (s.ld (k:=0) rfl bO rfl) (zM rfl (zM rfl (zN rfl (zF rfl (gN _ _) (zL rfl (s.ld (k:=0) rfl gx rfl) (zO rfl (ah (r:=.int .u64 (a:Int)) rfl rfl (by rw [←J]; exact lV (fb (by omega) (by omega)))) ?_)))))))))
 refine aA.op rfl rfl rfl (by simp only [isEff,bG]) (bZ rfl (by exact jJ cx bG (aY (by omega) (by omega)))) ?_
 refine zM rfl (aA.any rfl rfl rfl rfl (OpR.call rfl rfl rfl rfl (Iu (n:=n) (a:=a) hT hg hk hr Xe uq ha hl (by omega) (s.ae [1]) (bM _ _))) ?_)
 rintro r h ⟨dt,ch,cs,rfl,s⟩
 have j5:=(s.buf (k:=1) rfl).view.cells
 have U:=s.kU (j:=2) rfl
 have BA:=dc (s.buf (k:=1) rfl).view
 have gF:[V.int .i64 (kd:Int),V.int .u64 (tx:Int),V.int .u64 (pv:Int),V.int .u64 (nx:Int),dt,ch].all storable=true:=mZ j5.2 U.2.1
 have s1:=s
 refine zM rfl (zO rfl (cA rfl rfl) (zO rfl (cA rfl rfl) (zO rfl (cA rfl rfl) (aA.h_ rfl rfl rfl (OpR.eA rfl rfl rfl (s.ia (j:=6) rfl gM rfl gF)) ?_))))
 rintro v h ⟨rfl,s⟩
 refine zA rfl (zA rfl ?_)
 refine aA.nil ⟨⟨aa,aa,aa,aa,aa,aa,aa,aa,aa,aa,aa,aa,aa,aa,aa,fun _ _=>.inr ⟨rfl,⟨_,cA rfl rfl⟩,aX _ rfl⟩,fun _ _=>.inr ⟨rfl,⟨_,cA rfl rfl⟩,aX _ rfl⟩,aa,aa,aa,aa⟩,?_⟩
 refine zK 4 rfl (zh rfl (ah rfl rfl aV) (rfl) (zk 4 rfl ?_))
 have Ic:(V.agg [V.int .i64 (kd:Int),V.int .u64 (tx:Int),V.int .u64 (pv:Int),V.int .u64 (nx:Int),dt,ch]).beq (V.agg [V.int .i64 (kd:Int),V.int .u64 (tx:Int),V.int .u64 (pv:Int),V.int .u64 (nx:Int),dt,ch])=true:=Bd BA U.2.2
 have s0:=s
 refine WP.drawn [none,some (0,2),some (0,2),some (0,2),some (0,2),some (0,2),some (0,2),some (0,2),ai,ai,ai] rfl (by kernel_rfl) (by kernel_rfl) ?_
 refine zL rfl (s.fM (k:=6) rfl nE gM) (zM rfl (zN rfl (zF rfl (gN _ _) (zL rfl (s.ld (k:=4) rfl gx rfl) (zM rfl (aA.op rfl rfl rfl (by simp only [isEff,cx]) (bZ rfl (by exact jJ bG cx (fb (by omega) (by omega)))) ?_))))))
 refine zO rfl (ah rfl rfl (by exact bU (fb (by omega) (by omega)))) ?_
 refine aA.h_ rfl rfl rfl (OpR.eA rfl rfl rfl (s.ia (j:=6) rfl gM rfl gF)) ?_
 rintro v h ⟨rfl,s⟩
 dsimp only [zY,aU,bringA,iI,setA] at s
 refine zA rfl (zA rfl ?_)
 refine aA.nil ⟨⟨aa,fun _ _=>.inr ⟨rfl,⟨_,bn rfl⟩,aX _ rfl⟩,fun _ _=>.inr ⟨rfl,⟨_,kq rfl⟩,aX _ rfl⟩,fun _ _=>.inr ⟨rfl,⟨_,jI rfl (gN _ _)⟩,aX _ rfl⟩,dX (.inr ⟨rfl,⟨_,aW rfl (s0.ld (k:=4) rfl gx rfl)⟩,aX _ rfl⟩) (.inr ⟨rfl,⟨_,aW rfl (s.ld (k:=4) rfl gx rfl)⟩,aX _ rfl⟩),fun _ _=>.inr ⟨rfl,⟨_,bn rfl⟩,aX _ rfl⟩,fun _ _=>.inr ⟨rfl,⟨_,bZ rfl (by exact jJ bG cx (fb (by omega) (by omega)))⟩,aX _ rfl⟩,fun _ _=>.inr ⟨rfl,⟨_,ah rfl rfl (by exact bU (fb (by omega) (by omega)))⟩,aX _ rfl⟩,aa,aa,aa,aa⟩,?_⟩
 refine WP.ret ⟨aa,_,xP rfl (s.fM (k:=6) rfl nE gM) rfl rfl,?_⟩
 refine ⟨dt,ch,cs,?_,dm.2 ⟨bv,sv,(s.ae [4,0,3,0,0,0]).del 6⟩⟩
 rw [show ((μ.base:Int)+((a+8+bd.length:Nat):Int))=((n+8+bd.length:Nat):Int) by omega]
 rfl
end
section
variable {told:dM} {h:H} {S:List ax} {X:ax} {v w:V} {l m:List Nat} {a g p q r aC:Nat} {op:V} {data:List Nat} {now:List (Int×List Nat)}
end
def pgA (ε:aO)(n:Int): List Nat:=match lookL n ε.1.aE with
 | some i=>match ε.1.ak[i.toNat]? with
  | some f=>f.b
  | none=>ε.2.2.at n
 | none=>ε.2.2.at n
structure Rr (N:Nat)(δ:Dk)(aE:List (Int×Int))(i:Nat)(f:Fm): Prop where
 lt:f.aM<N
 here:lookL f.aM aE=some (i:Int)
 aC:dN f.b=0
 same:f.changed=false→f.b=δ.at f.aM
 mD:f.changed=true→bT f.b=true
structure EC (N:Nat)(ε:aO): Prop where
 dk:DA N ε.2.2
 nodup:(ε.1.aE.map (·.1)).Nodup
 jR:∀(n i:Int),lookL n ε.1.aE=some i→0≤n∧∃(j:Nat) (f:Fm),i=j∧ε.1.ak[j]?=some f∧f.aM=n
 back:∀(i:Nat) (f:Fm),ε.1.ak[i]?=some f→f.aM<0∨Rr N ε.2.2 ε.1.aE i f
 oC:∀k:Int,k∈ε.1.aN.map (·.1)→0≤k∧k<N
 yA:(ε.1.aN.map (·.1)).Nodup
theorem pn {ε:aO}{n:Int}{j:Nat}{f:Fm}(h:lookL n ε.1.aE=some (j:Int))(I:ε.1.ak[j]?=some f): pgA ε n=f.b:=by
 simp only [pgA,h,cQ,I]
theorem mT {ε:aO}{n:Int}(h:lookL n ε.1.aE=none): pgA ε n=ε.2.2.at n:=by simp only [pgA,h]
theorem EC.cases {N:Nat}{ε:aO}(h:EC N ε)(n:Int): (∃(j:Nat) (f:Fm),lookL n ε.1.aE=some (j:Int)∧ε.1.ak[j]?=some f∧f.aM=n∧0≤n∧Rr N ε.2.2 ε.1.aE j f∧pgA ε n=f.b)∨(lookL n ε.1.aE=none∧pgA ε n=ε.2.2.at n):=by
 cases I:lookL n ε.1.aE with
 | none=>exact .inr ⟨rfl,mT I⟩
 | some i =>
  obtain ⟨h0,j,f,rfl,J,hp⟩:=h.jR n i I
  refine .inl ⟨j,f,rfl,J,hp,h0,?_,pn I J⟩
  rcases h.back j f J with U | U
  ·omega
  ·exact U
theorem EC.aC {N:Nat}{ε:aO}(h:EC N ε){n:Int}(I:0≤n)(J:n<N): dN (pgA ε n)=0:=by
 rcases h.cases n with ⟨j,f,_,_,_,_,ho,e⟩ | ⟨_,e⟩
 ·rw [e]; exact ho.aC
 ·rw [e]; exact h.dk.good n I J
theorem nO {m:List Fm}{i j:Nat}{f g x:Fm}(U:m[i]?=some f)(J:(m.set i g)[j]?=some x): (i=j∧x=g)∨(i≠j∧m[j]?=some x):=by
 by_cases I:i=j
 ·subst I
  rw [iT (List.getElem?_eq_some_iff.1 U).1] at J
  exact .inl ⟨rfl,(bx J).symm⟩
 ·rw [iU I] at J
  exact .inr ⟨I,J⟩
theorem EC.set {N:Nat}{ε:aO}{i:Nat}{f g:Fm}{y:Lg}{δ:Dk}{d:List (Int×(Nat×Bool))}(h:EC N ε)(hf:ε.1.ak[i]?=some f)(hp:g.aM=f.aM)(tv:DA N δ)
 (hg:g.aM<0∨Rr N δ ε.1.aE i g)(ho:∀(j:Nat) (x:Fm),i≠j→ε.1.ak[j]?=some x→0≤x.aM→δ.at x.aM=ε.2.2.at x.aM)(hd:∀k:Int,k∈d.map (·.1)→0≤k∧k<N)(hdn:(d.map (·.1)).Nodup):
  EC N ({ ε.1 with ak:=ε.1.ak.set i g,aN:=d },(y,δ)):=by
 have hi:=(List.getElem?_eq_some_iff.1 hf).1
 refine ⟨tv,h.nodup,fun n k hk => ?_,fun j x J => ?_,hd,hdn⟩
 ·obtain ⟨h0,j,x,rfl,J,wQ⟩:=h.jR n k hk
  refine ⟨h0,j,?_⟩
  by_cases I:i=j
  ·subst I
   rw [hf] at J
   have:=bx J
   subst this
   exact ⟨g,rfl,iT hi,hp.trans wQ⟩
  ·exact ⟨x,rfl,by show (ε.1.ak.set i g)[j]?=some x; rw [iU I]; exact J,wQ⟩
 ·rcases nO hf J with ⟨rfl,rfl⟩ | ⟨I,J⟩
  ·exact hg
  ·rcases h.back j x J with U | U
   ·exact .inl U
   ·by_cases h2:x.aM<0
    ·exact .inl h2
    ·refine .inr ⟨U.lt,U.here,U.aC,fun hc => ?_,U.mD⟩
     rw [ho j x I J (by omega)]; exact U.same hc
theorem KR {ε:aO}{i:Nat}{f g:Fm}{x:LD}{d:List (Int×(Nat×Bool))}(U:ε.1.ak[i]?=some f)(hb:g.b=f.b){n:Int}(hx:lookL n ε.1.aE=none→x.2.at n=ε.2.2.at n)(hy:∀j:Int,lookL n ε.1.aE=some j→∃f',ε.1.ak[j.toNat]?=some f'):
  pgA ({ ε.1 with ak:=ε.1.ak.set i g,aN:=d },x) n=pgA ε n:=by
 unfold pgA
 simp only
 cases hl:lookL n ε.1.aE with
 | none=>exact hx hl
 | some j =>
  simp only
  obtain ⟨f',J⟩:=hy j hl
  by_cases I:i=j.toNat
  ·subst I
   rw [iT (List.getElem?_eq_some_iff.1 U).1,U]
   exact hb
  ·rw [iU I,J]
theorem EC.there {N:Nat}{ε:aO}(h:EC N ε){n:Int}: ∀j:Int,lookL n ε.1.aE=some j→∃f',ε.1.ak[j.toNat]?=some f':=fun j I=>by
 obtain ⟨_,k,f,rfl,J,_⟩:=h.jR n j I
 exact ⟨f,by rw [cQ]; exact J⟩
theorem EC.out {N:Nat}{ε:aO}{i:Nat}{f:Fm}(h:EC N ε)(I:ε.1.ak[i]?=some f):
  (outF ε i).1=0∧EC N (outF ε i).2∧(∀n,pgA (outF ε i).2 n=pgA ε n)∧(outF ε i).2.1.aE=ε.1.aE∧∃g,(outF ε i).2.1.ak[i]?=some g∧g.aM=f.aM∧(0≤g.aM→g.changed=false):=by
 have hi:=(List.getElem?_eq_some_iff.1 I).1
 unfold outF
 rw [I]
 simp only
 by_cases hc:f.aM<0∨f.changed=false
 ·rw [aj hc]
  exact ⟨rfl,h,fun n=>rfl,rfl,f,I,rfl,fun h0=>hc.resolve_left (by omega)⟩
 ·rw [af hc]
  have J:0≤f.aM:=by omega
  have sQ:f.changed=true:=by cases hq:f.changed <;> simp [hq] at hc ⊢
  have ho:=(h.back i f I).resolve_left (by omega)
  have hg:=ho.mD sQ
  rw [af (by rw [hg]; decide)]
  obtain ⟨e1,k1⟩:=FM (x:=ε.2) (n:=dY f.b 4 8) h.dk
  rw [af (by rw [e1]; decide)]
  obtain ⟨e2,k2,k3⟩:=Rq (h.dk.of k1) J ho.lt (fy hg) ho.aC
  rw [af (by rw [e2]; decide)]
  have U:∀m,f.aM≠m→((aT ε.2 (dY f.b 4 8)).2.2.bk f.aM f.b).2.at m=ε.2.2.at m:=fun m hm=>by rw [k3,af hm,k1.at]
  refine ⟨rfl,h.set I rfl k2 (.inr ⟨ho.lt,ho.here,ho.aC,fun _ => ?_,fun hq=>(by cases hq)⟩) (fun j x um hx h0=>U _ fun hpp => ?_) (fun k hk => ?_) (iQ h.yA),fun n => ?_,rfl,_,iT hi,rfl,fun _=>rfl⟩
  ·simp only; rw [k3,aj rfl]
  ·rcases h.back j x hx with h1 | h1
   ·omega
   ·have:=h1.here
    rw [←hpp,ho.here] at this
    have:=bx this
    omega
  ·rcases oY.1 hk with rfl | hk
   ·exact ⟨J,ho.lt⟩
   ·exact h.oC k hk
  ·exact KR I (by rfl) (fun hn=>U n fun e=>by rw [←e,ho.here] at hn; cases hn) h.there
theorem gj.back {π I:Pl}(J:gj π I){i:Nat}{x:Fm}(U:I.ak[i]?=some x): ∃f t,π.ak[i]?=some f∧x={ f with fA:=t }:=by
 have hi:=(List.getElem?_eq_some_iff.1 U).1
 rw [J.len] at hi
 have hf:π.ak[i]?=some (π.ak[i]'hi):=bg _
 obtain ⟨t,ht⟩:=J.get i _ hf
 rw [U] at ht
 exact ⟨_,t,hf,bx ht⟩
theorem EC.rQ {N:Nat}{ε:aO}{J:Pl}(h:EC N ε)(I:gj ε.1 J): EC N (J,ε.2)∧∀n,pgA (J,ε.2) n=pgA ε n:=by
 refine ⟨⟨h.dk,by rw [I.aE]; exact h.nodup,fun n i hi => ?_,fun i x hx => ?_,by rw [I.aN]; exact h.oC,by rw [I.aN]; exact h.yA⟩,fun n => ?_⟩
 ·rw [I.aE] at hi
  obtain ⟨h0,j,f,rfl,hf,hp⟩:=h.jR n i hi
  obtain ⟨t,ht⟩:=I.get j f hf
  exact ⟨h0,j,_,rfl,ht,hp⟩
 ·obtain ⟨f,t,hf,rfl⟩:=I.back hx
  rcases h.back i f hf with U | U
  ·exact .inl U
  ·exact .inr ⟨U.lt,by rw [I.aE]; exact U.here,U.aC,U.same,U.mD⟩
 ·unfold pgA
  simp only [I.aE]
  cases hl:lookL n ε.1.aE with
  | none=>rfl
  | some i =>
   obtain ⟨h0,j,f,rfl,hf,hp⟩:=h.jR n i hl
   obtain ⟨t,ht⟩:=I.get j f hf
   simp only [cQ,ht,hf]
theorem EC.dH {N:Nat}{ε:aO}{i:Nat}{f g:Fm}(h:EC N ε)(hg:ε.1.ak[i]?=some g)(hp:g.aM=f.aM)(hc:0≤g.aM→g.changed=false): EC N (dH ε.1 i f,ε.2)∧(∀n,pgA (dH ε.1 i f,ε.2) n=pgA ε n) ∧
  (dH ε.1 i f).ak[i]?=some fe∧∀n,lookL n ε.1.aE=none→lookL n (dH ε.1 i f).aE=none:=by
 have hi:=(List.getElem?_eq_some_iff.1 hg).1
 have YN:(ε.1.ak.set i fe)[i]?=some fe:=iT hi
 have I:∀n,lookL n (Am.dH ε.1 i f).aE=if 0≤f.aM∧f.aM=n then none else lookL n ε.1.aE:=fun n=>by
  rw [Am.dH]
  by_cases h0:f.aM<0
  ·rw [aj h0,af (by omega)]
  ·rw [af h0,Fq h.nodup]
   by_cases hn:f.aM=n
   ·rw [aj hn,aj ⟨by omega,hn⟩]
   ·rw [af hn,af (by omega)]
 refine ⟨⟨h.dk,?_,fun n k hk => ?_,fun j x J => ?_,h.oC,h.yA⟩,fun n => ?_,YN,fun n hn => ?_⟩
 ·rw [Am.dH]
  by_cases h0:f.aM<0
  ·rw [aj h0]; exact h.nodup
  ·rw [af h0]; exact xy h.nodup
 ·rw [I] at hk
  split at hk
  ·cases hk
  ·rename_i gy
   obtain ⟨h0,j,x,rfl,J,wQ⟩:=h.jR n k hk
   refine ⟨h0,j,x,rfl,?_,wQ⟩
   show (ε.1.ak.set i fe)[j]?=some x
   rw [iU]
   ·exact J
   ·rintro rfl
    rw [hg] at J
    have:=bx J
    subst this
    omega
 ·rcases nO hg J with ⟨rfl,rfl⟩ | ⟨um,J⟩
  ·exact .inl (by decide)
  ·rcases h.back j x J with h1 | h1
   ·exact .inl h1
   ·by_cases hx0:x.aM<0
    ·exact .inl hx0
    refine .inr ⟨h1.lt,?_,h1.aC,h1.same,h1.mD⟩
    rw [I,af]
    ·exact h1.here
    ·rintro ⟨h0,U⟩
     rcases h.back i g hg with h2 | h2
     ·omega
     ·have e:=h2.here
      rw [hp,U,h1.here] at e
      have:=bx e
      omega
 ·rcases h.cases n with ⟨j,x,hl,J,wQ,h0,ho,e⟩ | ⟨hl,e⟩
  ·rw [e]
   by_cases U:f.aM=n
   ·have um:i=j:=by
     rcases h.back i g hg with h2 | h2
     ·omega
     ·have e:=h2.here
      rw [hp,U,hl] at e
      have:=bx e
      omega
    subst um
    rw [hg] at J
    have:=bx J
    subst this
    rw [mT (by rw [I,aj ⟨by omega,U⟩])]
    rw [ho.same (hc (by omega)),hp,U]
   ·refine pn (j:=j) (by rw [I,af (by omega)]; exact hl) ?_
    show (ε.1.ak.set i fe)[j]?=some x
    rw [iU]
    ·exact J
    ·rintro rfl
     rw [hg] at J
     have:=bx J
     subst this
     omega
  ·rw [e,mT (by rw [I]; split; rfl; exact hl)]
 ·rw [I]; split; rfl; exact hn
theorem EC.jQ {N:Nat}{ε:aO}{i:Nat}{e:Fm}{n:Int}(h:EC N ε)(he:ε.1.ak[i]?=some e)(hp:e.aM<0)(hl:lookL n ε.1.aE=none)(h0:0≤n)(h1:n<N): EC N (jQ ε.1 i n (ε.2.2.at n),ε.2)∧∀m,pgA (jQ ε.1 i n (ε.2.2.at n),ε.2) m=pgA ε m:=by
 have hi:=(List.getElem?_eq_some_iff.1 he).1
 have J:(ε.1.ak.set i ⟨n,ε.2.2.at n,1,true,false⟩)[i]?=some ⟨n,ε.2.2.at n,1,true,false⟩:=iT hi
 have I:∀m,lookL m (Am.jQ ε.1 i n (ε.2.2.at n)).aE=if n=m then some (i:Int) else lookL m ε.1.aE:=fun m=>gY _
 refine ⟨⟨h.dk,iQ h.nodup,fun m k hk => ?_,fun j x U => ?_,h.oC,h.yA⟩,fun m => ?_⟩
 ·rw [I] at hk
  split at hk
  ·rename_i HU
   have:=bx hk
   subst this
   subst HU
   exact ⟨h0,i,_,rfl,J,rfl⟩
  ·rename_i gy
   obtain ⟨h0,j,x,rfl,U,wQ⟩:=h.jR m k hk
   refine ⟨h0,j,x,rfl,?_,wQ⟩
   show (ε.1.ak.set i _)[j]?=some x
   rw [iU]
   ·exact U
   ·rintro rfl
    rw [he] at U
    have:=bx U
    subst this
    omega
 ·rcases nO he U with ⟨rfl,rfl⟩ | ⟨um,U⟩
  ·exact .inr ⟨h1,by rw [I,aj rfl],h.dk.good n h0 h1,fun _=>rfl,fun hq=>(by cases hq)⟩
  ·rcases h.back j x U with h2 | h2
   ·exact .inl h2
   ·refine .inr ⟨h2.lt,?_,h2.aC,h2.same,h2.mD⟩
    rw [I,af]
    ·exact h2.here
    ·rintro rfl
     rw [h2.here] at hl; cases hl
 ·by_cases HU:n=m
  ·subst HU
   rw [pn (j:=i) (by rw [I,aj rfl]) J,mT hl]
  ·rcases h.cases m with ⟨j,x,kx,U,wQ,_,ho,e2⟩ | ⟨kx,e2⟩
   ·rw [e2]
    refine pn (j:=j) (by rw [I,af HU]; exact kx) ?_
    show (ε.1.ak.set i _)[j]?=some x
    rw [iU]
    ·exact U
    ·rintro rfl
     rw [he] at U
     have:=bx U
     subst this
     omega
   ·rw [e2,mT (by rw [I,af HU]; exact kx)]
theorem EC.frame {N:Nat}{ε:aO}{i:Nat}{f g:Fm}(h:EC N ε)(hf:ε.1.ak[i]?=some f)(J:g.aM=f.aM)(U:g.b=f.b)(hc:g.changed=f.changed): EC N ({ ε.1 with ak:=ε.1.ak.set i g },ε.2)∧∀n,pgA ({ ε.1 with ak:=ε.1.ak.set i g },ε.2) n=pgA ε n:=by
 refine ⟨h.set (y:=ε.2.1) (δ:=ε.2.2) hf J h.dk ?_ (fun _ _ _ _ _=>rfl) h.oC h.yA,fun n=>KR hf U (fun _=>rfl) h.there⟩
 rcases h.back i f hf with I | I
 ·exact .inl (by omega)
 ·exact .inr ⟨by rw [J]; exact I.lt,by rw [J]; exact I.here,by rw [U]; exact I.aC,by rw [J,U,hc]; exact I.same,by rw [U,hc]; exact I.mD⟩
theorem gn.ec {N:Nat}{ε ε':aO}{n e:Int}{b:List Nat}(hr:gn ε n e b ε')(h:EC N ε): EC N ε'∧(∀m,pgA ε' m=pgA ε m)∧(0≤n→n<N→e=0∧b=pgA ε n)∧(¬(0≤n∧n<N)→e=1∧ε'=ε):=by
 have U:=h.dk.aq
 cases hr with
 | arg I=>rw [U] at I; exact ⟨h,fun _=>rfl,fun a b=>absurd ⟨a,b⟩ I,fun _=>⟨rfl,rfl⟩⟩
 | BF i f h1 J hl hf =>
  rw [U] at J
  obtain ⟨k1,k2⟩:=h.frame (g:={ f with fA:=true,pins:=f.pins+1 }) hf rfl rfl rfl
  exact ⟨k1,k2,fun _ _=>⟨rfl,(pn hl hf).symm⟩,fun I=>absurd ⟨h1,J⟩ I⟩
 | out gZ i f h1 J hl I hf hh he=>exact absurd ((h.rQ I).1.out hf).1 he
 | read gZ i f h1 J hl I hf hh he hr =>
  obtain ⟨k1,k2,k3,k4,g,k5,k6,k7⟩:=(h.rQ I).1.out hf
  refine absurd ?_ hr
  rw [U] at J
  rw [Dk.r_,af (by rw [k2.dk.alive]; decide),af (by rw [k2.dk.aq]; exact not_not_intro ⟨h1,J⟩)]
 | bad gZ i f h1 J hl I hf hh he hr hc =>
  obtain ⟨k1,k2,k3,k4,g,k5,k6,k7⟩:=(h.rQ I).1.out hf
  rw [U] at J
  exact absurd (k2.dk.good n h1 J) hc
 | load gZ i f h1 J hl I hf hh he hr hc =>
  obtain ⟨n1,n2⟩:=h.rQ I
  obtain ⟨k1,k2,k3,k4,g,k5,k6,k7⟩:=n1.out hf
  rw [U] at J
  obtain ⟨f1,f2,f3,f4⟩:=k2.dH k5 k6 k7
  have kx:lookL n (outF (gZ,ε.2) i).2.1.aE=none:=by rw [k4]; show lookL n gZ.aE=none; rw [I.aE]; exact hl
  obtain ⟨l1,l2⟩:=f1.jQ f3 (by decide) (f4 n kx) h1 J
  exact ⟨l1,fun m=>by rw [l2,f2,k3,n2],fun _ _=>⟨rfl,by rw [←n2,←k3,mT kx]⟩,fun I=>absurd ⟨h1,J⟩ I⟩
theorem O7 {N:Nat}{π:Pl}{x:LD}{n:Int}(h:EC N (π,x)): EC N ((unpinF π n).2,x)∧∀m,pgA ((unpinF π n).2,x) m=pgA (π,x) m:=by
 unfold unpinF
 split
 ·exact ⟨h,fun _=>rfl⟩
 ·split
  ·exact ⟨h,fun _=>rfl⟩
  ·rename_i i hi f I
   exact h.frame (g:={ f with pins:=f.pins-1 }) I rfl rfl rfl
theorem mP.ec {N:Nat}{ε ε':aO}{n e:Int}{b:List Nat}(I:mP ε n e b ε')(h:EC N ε)(hp:∀f∈ε.1.ak,f.pins=0): EC N ε'∧(∀m,pgA ε' m=pgA ε m)∧(0≤n→n<N→e=0∧b=pgA ε n)∧(¬(0≤n∧n<N)→e=1∧ε'=ε):=by
 cases I with
 | dead J=>rw [h.dk.alive] at J; cases J
 | jf e b ε' J I he =>
  obtain ⟨k1,k2,U,k4⟩:=I.ec h
  exact ⟨k1,k2,fun a b=>absurd (U a b).1 he,k4⟩
 | tw b ε' J I he=>exact absurd (I.Cb hp).1 he
 | read b ε' J I he =>
  obtain ⟨k1,k2,U,k4⟩:=I.ec h
  obtain ⟨u1,u2⟩:=O7 (n:=n) k1
  refine ⟨u1,fun m=>by rw [u2]; exact k2 m,U,fun hn=>absurd (k4 hn).1 (by decide)⟩
theorem oQ.ec {N:Nat}{ε ε':aO}{now:List (Int×List Nat)}{n e:Int}{b:List Nat}(hr:oQ ε now false n e b ε')(h:EC N ε)(hp:∀f∈ε.1.ak,f.pins=0): EC N ε'∧(∀m,pgA ε' m=pgA ε m) ∧
  (0≤n→n<N→e=0∧b=(match lookL n now with | some b=>b | none=>pgA ε n))∧(¬(0≤n∧n<N)→e=1):=by
 have I:=h.dk.aq
 cases hr with
 | arg J=>rw [I] at J; exact ⟨h,fun _=>rfl,fun a b=>absurd ⟨a,b⟩ J,fun _=>rfl⟩
 | b9 _ _ ho=>cases ho
 | own b h1 U _ hl=>rw [I] at U; exact ⟨h,fun _=>rfl,fun _ _=>⟨rfl,by rw [hl]⟩,fun J=>absurd ⟨h1,U⟩ J⟩
 | read e b ε' h1 U _ hl hr =>
  rw [I] at U
  obtain ⟨k1,k2,k3,k4⟩:=hr.ec h hp
  exact ⟨k1,k2,fun a b=>by rw [hl]; exact k3 a b,fun J=>absurd ⟨h1,U⟩ J⟩
end Go.Proofs.YtconhghphklfjaaGreat.Am
