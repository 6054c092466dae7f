/- AtomSame: a part of its proof; conditions: its statement's. -/
import Derived.Test.YtconhghphklfjaaGreatS30
import Derived.Test.YtconhghphklfjaaGreatS31
import Derived.Test.YtconhghphklfjaaGreatS24
namespace Go.Proofs.YtconhghphklfjaaGreat.Am
open Go
theorem uW {n m:Nat}(hle:n≤m){args:List V}{h:H}{r:V×H}(I:toldParsed CB n args h=some r): toldParsed CB m args h=some r:=by
 unfold toldParsed at I ⊢
 have mono:=fZ (C:=CB) hle
 split at I
 ·rename_i x
  split at I
  ·rename_i J h₁
   simp only [mono _ _ _ h₁]
   cases U:Nat.blt 4 J.ay with
   | false=>rw [U] at I; cases I
   | true =>
    rw [U,ah] at I
    rw [ah]
    split at I
    ·rename_i KE Pg
     simp only [mono _ _ _ Pg]
     split at I
     ·rename_i aaI S0
      simp only [mono _ _ _ S0]
      exact I
     ·cases I
    ·cases I
  ·cases I
 ·cases I
section
variable {h:H} {S:List ax} {X:ax} {v:V}
noncomputable def YL : Code:=cJ [0] ((Tryz.f101.body).getD .skip)
noncomputable def YM : Code:=cJ [1,1,0] ((Tryz.f101.body).getD .skip)
theorem V5 {E:List (Nat×V)}{Q:Ex→List (Nat×V)→H→Prop}(s:Sat h S)(J:Has E [(0,v)])
 (U:∀E' h' p2 I,Has E' [(0,v),(2,.ptr p2 0),(3,.ptr I 0)]→Sat h' (pt I (.cells 1 [.bool false] false)::pt p2 (.cells 6 (iy 0 0 0 0 .bA .bA) false)::S)→Q .normal E' h'): WP CB 9 YL E h Q:=by
 refine WP.has J (zr rfl ?_)
 refine aB.cO s rfl rfl rfl (cH qU) (fun p2 h s => ?_)
 refine aB.cO s rfl rfl rfl (cH Yc) (fun I h s => ?_)
 exact zv (U _ _ _ _ ⟨rfl,rfl,rfl,aa⟩ s)
theorem V6 {kd tx pv nx:Nat}{data:List Nat}{aP:List cm}(hg:dM kd aP=true)(hk:kd<256)(hr:xk tx pv nx data aP)(hX:cR X (cV v (dm kd tx pv nx data aP)))
 {p2 I:Nat}{E:List (Nat×V)}{Q:Ex→List (Nat×V)→H→Prop}(s:Sat h (pt I (.cells 1 [.bool false] false)::pt p2 (.cells 6 (iy 0 0 0 0 .bA .bA) false)::X::S))
 (hE:Has E [(0,v),(2,.ptr p2 0),(3,.ptr I 0)])
 (hq:∀E' h' dt ch cs,Has E' [(2,.ptr p2 0),(3,.ptr I 0)]→Sat h' (pt I (.cells 1 [.bool true] false)::pt p2 (.cells 6 (iy kd tx pv nx dt ch) false)::X::bG dt data::.arr 4 ch cs::cT cs aP::S)→Q .normal E' h'): WP CB 9 YM E h Q:=by
 obtain ⟨pi,po,pc,rfl⟩:=kx (s.aG (k:=2) rfl hX) (by simp only [dm,bC,bj]; omega)
 refine WP.has hE (zK 2 rfl (zo rfl (cX rfl (by rw [W8]; rfl)) ?_))
 refine aB.cO s rfl rfl rfl (gw rfl rfl) ?_
 intro p1 h s
 dsimp only [V.cells] at s
 refine zc rfl (TH W.base hg hk hr ⟨_,hX,s.ae [0,2]⟩) ?_
 rintro r h ⟨dt,ch,cs,rfl,s⟩
 have J:=(s.buf (k:=1) rfl).view.cells
 have U:=s.kF (j:=2) rfl
 refine zS rfl (s.gX (j:=5) rfl gy rfl (mP J.2 U.2.1)) ?_
 rintro h s
 refine zS rfl (by exact s.dZ (k:=4) rfl xN rfl (by decide) rfl rfl) (fun h s => ?_)
 exact zv (hq _ _ _ _ _ ⟨rfl,rfl,aa⟩ (s.ae [4,4,0,0,0,0]))
noncomputable def YN : Code:=cJ [1] ((Tryz.f131.body).getD .skip)
theorem V7 {x y:V}{E:List (Nat×V)}{Q:Ex→List (Nat×V)→H→Prop}(I:Has E [(0,x),(1,y),(2,.mq),(5,.mq)])(J:∀E',Q .normal E' h): WP CB 16 YN E h Q:=by
 refine WP.has I (zK 3 rfl (zo rfl (Pw (r:=.bD [.int .i64 0,.bool false]) rfl (by simp only [assertV,Tryz.underlying28,Zz])) ?_))
 refine zk 14 rfl (zo rfl (ag (r:=.bool false) rfl rfl (by simp only [binV,Tryz.underlying20]; rfl)) ?_)
 refine zv (zj rfl (WP.skip ?_))
 exact J _
theorem LP {kd tx pv nx:Nat}{data:List Nat}{aP:List cm}(hg:dM kd aP=true)(hk:kd<256)(hr:xk tx pv nx data aP)(s:Sat h (X::S))(hX:cR X (cV v (dm kd tx pv nx data aP))):
  ∃n r,toldParsed CB n [v] h=some r∧∃dt ch cs,r.1=.bD [.agg (iy kd tx pv nx dt ch),.bool true]∧Sat r.2 (X::bG dt data::.arr 4 ch cs::cT cs aP::S):=by
 obtain ⟨N1,ex1,I,h1,E1,a1,k1,rfl,p2,J,U,s1⟩:=V5 (Q:=fun ex E' h'=>ex=.normal∧∃p2 J,Has E' [(0,v),(2,.ptr p2 0),(3,.ptr J 0)]∧Sat h' (pt J (.cells 1 [.bool false] false)::pt p2 (.cells 6 (iy 0 0 0 0 .bA .bA) false)::X::S)) (v:=v) (E:=argE [v] 0) s ⟨rfl,aa⟩ (fun E' h' p2 J hE s=>⟨rfl,p2,J,hE,s⟩) _ (Aj [v])
 have v2:I.v 2=.ptr p2 0:=by simp only [Env.v,k1 _ _ U.2.1]
 have v3:I.v 3=.ptr J 0:=by simp only [Env.v,k1 _ _ U.2.2.1]
 have k1':=k1.set 4 (.fn (.func 131) [] [I.v 2,I.v 3])
 obtain ⟨N2,Rp,V8,h2,E2,a2,k2,rfl,dt,ch,cs,YO,s2⟩:=V6 (Q:=fun ex E' h'=>ex=.normal∧∃dt ch cs,Has E' [(2,.ptr p2 0),(3,.ptr J 0)]∧Sat h' (pt J (.cells 1 [.bool true] false)::pt p2 (.cells 6 (iy kd tx pv nx dt ch) false)::X::bG dt data::.arr 4 ch cs::cT cs aP::S)) hg hk hr hX s1 (E:=(4,.fn (.func 131) [] [I.v 2,I.v 3])::E1) ⟨U.1,U.2.1,U.2.2.1,aa⟩ (fun E' h' dt ch cs hE s=>⟨rfl,dt,ch,cs,hE,s⟩) _ k1'
 have k3:=((Aj [V.ptr p2 0,V.ptr J 0]).set 5 .mq).set 2 .mq
 obtain ⟨N3,ex3,abh,h3,E3,a3,k3',rfl,rfl⟩:=V7 (h:=h2) (x:=.ptr p2 0) (y:=.ptr J 0) (Q:=fun ex E' h'=>ex=.normal∧h'=h2) (E:=(2,.mq)::(5,.mq)::argE [.ptr p2 0,.ptr J 0] 0) ⟨rfl,rfl,rfl,rfl,aa⟩ (fun E'=>⟨rfl,rfl⟩) _ k3
 have r1:mapO (resV Tryz.prog ⟨V8,9,h3⟩) Tryz.f101.results.toList=some [.agg (iy kd tx pv nx dt ch),.bool true]:=by
  refine DN (s:=⟨V8,9,h3⟩) k2 ?_
  have e1:resE Tryz.prog E2 h3 (.cell 2 40)=some (.agg (iy kd tx pv nx dt ch)):=by
   simp only [resE,YO.1]
   exact s2.fE (k:=1) rfl ni gy
  have e2:resE Tryz.prog E2 h3 (.cell 3 4)=some (.bool true):=by
   simp only [resE,YO.2.1]
   exact s2.ld (k:=0) rfl jV rfl
  show mapO (resE Tryz.prog E2 h3) [.cell 2 40,.cell 3 4]=_
  simp only [mapO,e1,e2]
 refine ⟨max N1 (max N2 N3),(.bD [.agg (iy kd tx pv nx dt ch),.bool true],h3),?_,dt,ch,cs,rfl,(s2.del 0).del 0⟩
 have b1:=fZ (C:=CB) (show N1≤max N1 (max N2 N3) by omega) _ _ _ a1
 have b2:=fZ (C:=CB) (show N2≤max N1 (max N2 N3) by omega) _ _ _ a2
 have b3:=fZ (C:=CB) (show N3≤max N1 (max N2 N3) by omega) _ _ _ a3
 simp only [toldParsed]
 rw [show LN=YL from rfl,b1]
 simp only [v2,v3] at b2 ⊢
 rw [show Nat.blt 4 9=true from rfl,ah,show LO=YM from rfl,b2]
 dsimp only
 rw [show FQ=YN from rfl,b3]
 dsimp only
 rw [r1]
def FR (args:List V)(h:H)(r:V×H): Prop:=∃n,toldParsed CB n args h=some r
structure WR (told:dF): Prop where
 w:W told
 pr:told 101=some (nq Tryz.prog 101 FR)
theorem Oj {told:dF}(U:WR told){kd tx pv nx:Nat}{data:List Nat}{aP:List cm}(hg:dM kd aP=true)(hk:kd<256)(J:xk tx pv nx data aP)(s:Sat h (X::S))(hX:cR X (cV v (dm kd tx pv nx data aP))):
  Call ⟨Tryz.prog,told⟩ 101 [v] h fun r h'=>∃dt ch cs,r=.bD [.agg (iy kd tx pv nx dt ch),.bool true]∧Sat h' (X::bG dt data::.arr 4 ch cs::cT cs aP::S):=by
 obtain ⟨n,r,e,hP⟩:=LP hg hk J s hX
 obtain ⟨r',h1,m,h2⟩:=yV (P:=Tryz.prog) (f:=101) (iU:=FR) (args:=[v]) (r:=r) ⟨n,e⟩ (fun c w J hw=>FB (C:=CB) rfl gY fu e J hw)
 have e1:=uW (show n≤max n m by omega) e
 have I:=uW (show m≤max n m by omega) h2
 rw [e1] at I
 injection I with I
 subst I
 exact ⟨r.1,r.2,gU.told U.pr HK rfl h1,hP⟩
end
structure DK (δ Xu:Dk): Prop where
 dead:Xu.dead=δ.dead
 aI:Xu.aI=δ.aI
 aq:Xu.aq=δ.aq
 now:Xu.now=δ.now
theorem DK.refl (δ:Dk): DK δ δ:=⟨rfl,rfl,rfl,rfl⟩
theorem DK.at {δ I:Dk}(h:DK δ I)(n:Int): I.at n=δ.at n:=by rw [Dk.at,Dk.at,h.now,h.aq]
structure DA (N:Nat)(δ:Dk): Prop where
 alive:δ.dead=false
 aI:δ.aI<0
 aq:δ.aq.length=N
 keys:∀k:Int,k∈δ.now.map (·.1)→0≤k∧k<N
 nodup:(δ.now.map (·.1)).Nodup
 good:∀n:Int,0≤n→n<N→dI (δ.at n)=0
theorem DA.of {N:Nat}{δ I:Dk}(h:DA N δ)(k:DK δ I): DA N I :=
 ⟨k.dead.trans h.alive,by rw [k.aI]; exact h.aI,by rw [k.aq]; exact h.aq,by rw [k.now]; exact h.keys,by rw [k.now]; exact h.nodup,fun n a b=>by rw [k.at]; exact h.good n a b⟩
theorem gI {δ:Dk}(h:δ.aI<0): δ.c_=δ:=by
 have:(if 0<δ.aI then δ.aI-1 else δ.aI)=δ.aI:=af (by omega)
 rw [Dk.c_,this]
theorem HN {N:Nat}{δ:Dk}(h:DA N δ): δ.cG=(0,{ δ with aR:=δ.log.length }):=by
 rw [Dk.cG,af (by rw [h.alive]; decide),af (by have:=h.aI; omega),gI h.aI]
theorem TI {N:Nat}{δ:Dk}{b:List Nat}(h:DA N δ)(I:b.length≤64): δ.qj b=(0,{ δ with mark:=b }):=by
 rw [Dk.qj,af (by rw [h.alive]; decide),af (by omega),af (by have:=h.aI; omega),gI h.aI]
theorem E7 {N:Nat}{x:LD}{n:Nat}(h:DA N x.2): (bB x n).1=0∧DK x.2 (bB x n).2.2:=by
 unfold bB
 split
 ·exact ⟨rfl,DK.refl _⟩
 ·rw [HN h,af (by simp)]
  exact ⟨rfl,rfl,rfl,rfl,rfl⟩
theorem QB {N:Nat}{δ:Dk}{n:Int}{b:List Nat}(h:DA N δ)(h0:0≤n)(h1:n<N)(hb:b.length=512)(hc:dI b=0):
  (δ.bJ n b).1=0∧DA N (δ.bJ n b).2∧∀m,(δ.bJ n b).2.at m=if n=m then b else δ.at m:=by
 have e:δ.bJ n b=(0,δ.wr n b):=by
  rw [Dk.bJ,af (by rw [h.alive]; decide),af (not_not_intro ⟨h0,by rw [h.aq]; exact h1,hb⟩),af (by have:=h.aI; omega)]
 have I:(δ.wr n b).now=cK n b δ.now:=rfl
 have mC:(δ.wr n b).aq=δ.aq:=rfl
 have J:∀m,(δ.wr n b).at m=if n=m then b else δ.at m:=fun m=>by
  rw [Dk.at,Dk.at,I,mC,gM]
  by_cases hm:n=m
  ·rw [aj hm,aj hm]
  ·rw [af hm,af hm]
 have hfu:(δ.wr n b).aI=δ.aI:=by
  show δ.c_.aI=δ.aI
  rw [gI h.aI]
 rw [e]
 refine ⟨rfl,⟨h.alive,by rw [hfu]; exact h.aI,h.aq,fun x U => ?_,?_,fun m a c => ?_⟩,J⟩
 ·rw [I] at U
  rcases oH.1 U with rfl | U
  ·exact ⟨h0,h1⟩
  ·exact h.keys x U
 ·rw [I]; exact iI h.nodup
 ·rw [J]
  by_cases hm:n=m
  ·rw [aj hm]; exact hc
  ·rw [af hm]; exact h.good m a c
theorem laidP_get : ∀ {l:List (Int×List Nat)} {m:List (Option (List Nat))} {n:Int} {N:Nat},m.length=N→(l.map (·.1)).Nodup→(∀k:Int,k∈l.map (·.1)→0≤k∧k<N)→0≤n→(laidP l m)[n.toNat]?=match lookL n l with
  | some b=>some (some b)
  | none=>m[n.toNat]?:=by
 intro l
 induction l with
 | nil=>intro m n N _ _ _ _; rfl
 | cons e l U =>
  intro m n N hm hd J hn
  have I:e.1∉l.map (·.1)∧(l.map (·.1)).Nodup:=List.nodup_cons.1 hd
  have h1:=J e.1 (by simp)
  rw [laidP,U (N:=N) (by rw [dn]; exact hm) I.2 (fun x hx=>J x (by simp only [bH,eX]; exact .inr hx)) hn]
  simp only [lookL]
  by_cases he:e.1=n
  ·rw [aj he]
   have:lookL n l=none:=fU.2 (by rw [←he]; exact I.1)
   rw [this]
   simp only
   rw [he,iL (by rw [hm]; omega)]
  ·rw [af he]
   cases hq:lookL n l with
   | some b=>rfl
   | none=>simp only; rw [iM (by omega)]
theorem TJ {N:Nat}{δ:Dk}(h:DA N δ): δ.dQ.1=0∧DA N δ.dQ.2∧∀m,0≤m→δ.dQ.2.at m=δ.at m:=by
 have e:δ.dQ=(0,δ.sync):=by rw [Dk.dQ,af (by rw [h.alive]; decide),af (by have:=h.aI; omega),gI h.aI]
 have I:∀m,0≤m→δ.sync.at m=δ.at m:=fun m hm=>by
  rw [Dk.at,Dk.at]
  have J:lookL m δ.sync.now=none:=rfl
  rw [J]
  simp only
  rw [show δ.sync.aq=laidP δ.now δ.aq from rfl,laidP_get h.aq h.nodup h.keys hm]
  cases hq:lookL m δ.now with
  | some b=>rfl
  | none=>rfl
 rw [e]
 refine ⟨rfl,⟨h.alive,h.aI,by rw [show δ.sync.aq=laidP δ.now δ.aq from rfl,nt]; exact h.aq,fun x U=>(by cases U),ki,fun m a c => ?_⟩,I⟩
 rw [I m a]; exact h.good m a c
theorem Bc {l m:List Nat}{a b:Nat}(J:a+m.length≤l.length)(U:a+m.length≤b): (cZ l a m).drop b=l.drop b:=by
 have I:(l.take a).length=a:=by rw [dJ]; omega
 rw [cZ,←bP,zU,ig (by rw [bC,I]; omega),cU,qH,bC,I]
 congr 1; omega
theorem xn {l m:List Nat}{a z:Nat}(I:l.drop 12=m.drop 12)(J:12≤a): eM l a z=eM m a z:=by
 have e:∀l:List Nat,(l.take (a+z)).drop a=((l.drop 12).drop (a-12)).take z:=fun l=>by
  rw [qH,show 12+(a-12)=a by omega,sV]
  congr 1; omega
 rw [eM,eM,e,e,I]
theorem Jh {l m:List Nat}(I:l.drop 12=m.drop 12){low:Nat}: ∀(n i:Nat) (t:List Bool),cellsL l low n i t=cellsL m low n i t:=by
 intro n
 induction n with
 | zero=>intro i t; rfl
 | succ n J =>
  intro i t
  have U:jq l i=jq m i:=xn I (by omega)
  have e2:lP l i=lP m i:=xn I (by omega)
  simp only [cellsL,U,e2,J]
theorem CU {l m:List Nat}(J:l.length=m.length)(I:l.drop 12=m.drop 12): bU l=bU m:=by
 have U:j5 l=j5 m:=xn I (by omega)
 have e2:iB l=iB m:=xn I (by omega)
 have e3:l.getD 13 0=m.getD 13 0:=by
  have:∀l:List Nat,l[13]?=(l.drop 12)[1]?:=fun l=>by rw [jG]
  rw [ke,ke,this,this,I]
 simp only [bU,J,U,e2,e3,Jh I]
theorem uz : ∀(k n:Nat),leN (le k n)=n%256^k:=by
 intro k
 induction k with
 | zero=>intro n; rw [Nat.pow_zero,Nat.mod_one]; rfl
 | succ k I =>
  intro n
  rw [le,leN,I,o_,qM (256^k) 256,Nat.mod_mul]
theorem pR {b:List Nat}{n:Nat}(J:b.length=512): (cM b n).drop 12=b.drop 12∧(cM b n).length=512∧(cM b n).drop 4=(m4 b n).drop 4∧eM (cM b n) 0 4=yJ 0 ((m4 b n).drop 4)%4294967296:=by
 have U:=wV (n:=n) J
 have h2:(cM b n).length=512:=by rw [cM,iG (by rw [dH]; omega),U]
 have I:(cM b n).drop 4=(m4 b n).drop 4:=by rw [cM]; exact Bc (by rw [dH]; omega) (by rw [dH]; omega)
 have h4:(m4 b n).drop 12=b.drop 12:=by rw [m4]; exact Bc (by rw [dH]; omega) (by rw [dH]; omega)
 refine ⟨?_,h2,I,?_⟩
 ·have:=ja (List.drop 8) I
  rw [qH,qH] at this
  exact this.trans h4
 ·have e:(cM b n).take 4=le 4 (yJ 0 ((m4 b n).drop 4)):=by
   rw [cM,cZ,o9,cU,oQ (by rw [dH]; omega),fI (by rw [dH]; omega)]
  rw [eM,dU,dS,e,uz]
theorem TK {b:List Nat}{n:Nat}(I:∀x∈b,x<256): ∀x∈m4 b n,x<256:=yB I (Ln _ _)
theorem y_ {b:List Nat}{n:Nat}(U:bU b=true)(hb:∀x∈b,x<256): dI (cM b n)=0∧bU (cM b n)=true∧jO (cM b n)=b.drop 12:=by
 have hl:=fq U
 obtain ⟨h1,h2,h3,h4⟩:=pR (n:=n) hl
 have I:bU (cM b n)=true:=by rw [CU (h2.trans hl.symm) h1]; exact U
 have hz:bU (List.replicate 512 0)=false:=by decide +kernel
 have J:cM b n≠List.replicate 512 0:=fun e=>by rw [e,hz] at I; cases I
 have hc:yJ 0 ((m4 b n).drop 4)<4294967296:=Bt (by decide) fun x hx=>TK hb x (ij hx)
 refine ⟨?_,I,?_⟩
 ·rw [dI,af J,af (by rw [I]; decide),af]
  rw [h4,h3,ik hc]; exact not_not_intro rfl
 ·rw [jO,af (by rintro (h | h); exact h h2; exact J h),h1]
theorem BA {x y z:List Nat}{a b:Nat}(I:x.length=a)(J:a+y.length=b): ((x++(y++z)).take b).drop a=y:=by
 subst I; subst J
 rw [←bP,oQ (by simp),fI (by simp),sU rfl]
theorem Xv (n:Nat)(b:List Nat): b.length<4294967296→sG n b<4294967296→leN (le 4 b.length)=b.length∧leN (le 4 (sG n b))=sG n b:=by
 intro I J
 rw [uz,uz]
 exact ⟨ik (by simpa using I),ik (by simpa using J)⟩
section
variable {told:dF} {h:H} {S:List ax} {X:ax} {v:V} {l:List Nat}
theorem HO (hT:WR told){kd tx pv nx n a:Nat}{data:List Nat}{aP:List cm}{pre rest bd:List Nat}(hg:dM kd aP=true)(hk:kd<256)(hr:xk tx pv nx data aP)(V9:bd=dm kd tx pv nx data aP)
 (xD:bd.length≤1048576)(ha:pre.length=a)(J:l=pre++(ic n bd++rest))(E5:l.length≤1073741824)(s:Sat h (X::S))(I:cR X (cV v l)):
  Call ⟨Tryz.prog,told⟩ 57 [v,.int .i64 (a:Int),.int .u64 (n:Int)] h fun r h'=>∃dt ch cs,r=.bD [.agg (iy kd tx pv nx dt ch),.int .i64 ((a+8+bd.length:Nat):Int),.int .i64 0]∧Sat h' (X::bG dt data::.arr 4 ch cs::cT cs aP::S):=by
 have hv:=s.aG (k:=0) rfl I
 have bX:∀x∈bd,x<256:=fun x hx=>hv.1 x (by rw [J,ic]; simp [hx])
 have U:=GS (aF:=n) bX
 obtain ⟨q1,q2⟩:=Xv n bd (by omega) U
 have hlen:l.length=a+8+bd.length+rest.length:=by rw [J]; simp only [bC,oK]; omega
 have m1:(l.take (a+4)).drop a=le 4 bd.length:=by
  rw [J,ic,bP,bP]
  exact BA ha (by rw [dH])
 have m2:(l.take (a+8)).drop (a+4)=le 4 (sG n bd):=by
  rw [J,ic,bP,bP,←bP pre]
  exact BA (by rw [bC,dH,ha]) (by rw [dH])
 have m3:(l.take (a+8+bd.length)).drop (a+8)=bd:=by
  rw [J,ic,bP,bP,←bP pre,←bP (pre++_)]
  exact BA (by rw [bC,bC,dH,dH,ha]) rfl
 have hW:=hT.w
 have hvl:=bh (P:=Tryz.prog) (h:=h) aS hv
 refine Call.of_wp (hW.free _ rfl) Tryz.func57 rfl rfl (zg rfl ?_)
 refine aB.cO s rfl rfl rfl (cH qU) (fun p6 h s => ?_)
 refine zk 7 rfl (zh rfl (ag rfl rfl bx) (by simp) ?_)
 refine zk 3 rfl (zo rfl (a_ rfl rfl rfl (bh aS (s.aG (k:=1) rfl I))) (zh rfl (ag rfl rfl dR) (by simp; omega) ?_))
 refine zk 8 rfl (zo rfl (a_ rfl rfl rfl (bh aS (s.aG (k:=1) rfl I))) (zm rfl (zb rfl (by exact lE (aT (by omega) (by omega))) ?_)))
 refine zh rfl (ag rfl rfl bx) (by simp; omega) ?_
 refine zk 8 rfl (zb rfl (by exact bO (aT (by omega) (by omega))) ?_)
 refine zo rfl (cC (p:=some (.int .i64 (a:Int))) (q:=some (.int .i64 ((a:Int)+4))) (m:=none) (p':=some a) (q':=some (a+4)) (m':=none) rfl rfl rfl rfl (by rw [fG (by omega)]; rfl) (by rw [fG (by omega)]; congr 2 <;> omega) rfl (iF (s.aG (k:=1) rfl I) (a:=a) (b:=a+4) (by omega) (by omega)).1) ?_
 refine zc rfl (pN hW s (k:=1) rfl (mE I (a:=a) (b:=a+4) (by omega) (by omega)) (by rw [m1,dH]; decide)) ?_
 rintro r h' ⟨rfl,rfl⟩
 rw [m1,q1]
 refine zk 6 rfl (zh rfl (ag rfl rfl dR) (by simp; omega) ?_)
 refine zk 2 rfl (zo rfl (b8 rfl (by exact jx cq bE (aT (by omega) (by omega)))) ?_)
 refine zm rfl (zo rfl (a_ rfl rfl rfl (bh aS (s.aG (k:=1) rfl I))) (zm rfl (zb rfl (by exact lE (aT (by omega) (by omega))) ?_)))
 refine zb rfl (by exact lE (aT (by omega) (by omega))) ?_
 refine zh rfl (ag rfl rfl dR) (by simp; omega) ?_
 refine zk 7 rfl (zb rfl (by exact bO (aT (by omega) (by omega))) ?_)
 refine zm rfl (zo rfl (b8 rfl (by exact jx cq bE (aT (by omega) (by omega)))) ?_)
 refine zb rfl (by exact bO (aT (by omega) (by omega))) ?_
 refine zk 6 rfl (zb rfl (by exact bO (aT (by omega) (by omega))) ?_)
 refine zm rfl (zo rfl (cC (p:=some (.int .i64 ((a:Int)+8))) (q:=some (.int .i64 ((a:Int)+8+(bd.length:Int)))) (m:=none) (p':=some (a+8)) (q':=some (a+8+bd.length)) (m':=none) rfl rfl rfl rfl (by rw [fG (by omega)]; congr 2 <;> omega) (by rw [fG (by omega)]; congr 2 <;> omega) rfl (iF (s.aG (k:=1) rfl I) (a:=a+8) (b:=a+8+bd.length) (by omega) (by omega)).1) ?_)
 refine zk 7 rfl (zb rfl (by exact bO (aT (by omega) (by omega))) ?_)
 refine zm rfl (zb rfl (by exact bO (aT (by omega) (by omega))) ?_)
 refine zo rfl (cC (p:=some (.int .i64 ((a:Int)+4))) (q:=some (.int .i64 ((a:Int)+8))) (m:=none) (p':=some (a+4)) (q':=some (a+8)) (m':=none) rfl rfl rfl rfl (by rw [fG (by omega)]; congr 2 <;> omega) (by rw [fG (by omega)]; congr 2 <;> omega) rfl (iF (s.aG (k:=1) rfl I) (a:=a+4) (b:=a+8) (by omega) (by omega)).1) ?_
 refine zc rfl (pN hW s (k:=1) rfl (mE I (a:=a+4) (b:=a+8) (by omega) (by omega)) (by rw [m2,dH]; decide)) ?_
 rintro r h' ⟨rfl,rfl⟩
 rw [m2,q2]
 refine zo rfl (b8 rfl (by exact jx cq Tryz.underlying155 (SR (by omega) (by omega)))) ?_
 refine zk 2 rfl (zc rfl (EV hW s (k:=1) rfl (mE I (a:=a+8) (b:=a+8+bd.length) (by omega) (by omega)) (by rw [m3]; omega)) ?_)
 rintro r h ⟨rfl,s⟩
 rw [m3]
 refine zh rfl (ag rfl rfl aX) (by simp) ?_
 refine zk 6 rfl ?_
 have hX':cR X (cV (slR v (a+8) (a+8+bd.length)) (dm kd tx pv nx data aP)):=by
  have:=mE I (a:=a+8) (b:=a+8+bd.length) (by omega) (by omega)
  rw [m3] at this
  rw [←V9]
  exact this
 refine zc rfl (Oj hT hg hk hr (s.ae [1]) hX') ?_
 rintro r h ⟨dt,ch,cs,rfl,s⟩
 have jM:=(s.buf (k:=1) rfl).view.cells
 have me:=s.kF (j:=2) rfl
 have gn:[V.int .i64 (kd:Int),V.int .u64 (tx:Int),V.int .u64 (pv:Int),V.int .u64 (nx:Int),dt,ch].all storable=true:=mP jM.2 me.2.1
 refine zk 3 rfl (zS rfl (s.gX (j:=4) rfl gy rfl gn) ?_)
 rintro h s
 refine zk 6 rfl (zh rfl (dA rfl rfl) (rfl) (zk 5 rfl (zl rfl (s.fE (k:=4) rfl ni gy) (zm rfl (zS rfl (s.gX (j:=4) rfl gy rfl gn) ?_)))))
 rintro h s
 refine zk 3 rfl ?_
 refine WP.ret ⟨aa,_,xh rfl (s.fE (k:=4) rfl ni gy) rfl rfl,?_⟩
 exact ⟨dt,ch,cs,rfl,s.del 4⟩
end
section
variable {told:dF} {h:H} {S:List ax} {X:ax} {v:V} {l:List Nat} {q p:Nat} {μ:Lg}
theorem Ol (hT:WR told){kd tx pv nx n a:Nat}{data:List Nat}{aP:List cm}{pre rest bd:List Nat}(hg:dM kd aP=true)(hk:kd<256)(hr:xk tx pv nx data aP)(V9:bd=dm kd tx pv nx data aP)
 (xD:bd.length≤1048576)(ha:pre.length=a)(hl:μ.b=pre++(ic n bd++rest))(hn:n=μ.base+a)(hh:μ.hasB n=true)(I:μ.Ok)(s:Sat h (bf q p μ::S)):
  Call ⟨Tryz.prog,told⟩ 20 [.ptr q 0,.int .u64 (n:Int)] h fun r h'=>∃dt ch cs,r=.bD [.agg (iy kd tx pv nx dt ch),.int .u64 ((n+8+bd.length:Nat):Int),.int .i64 0]∧Sat h' (bf q p μ::bG dt data::.arr 4 ch cs::cT cs aP::S):=by
 have hW:=hT.w
 have hlen:μ.b.length=a+8+bd.length+rest.length:=by rw [hl]; simp only [bC,oK]; omega
 have fc:=I.size
 have hb:=I.len
 refine Call.of_wp (hW.free _ rfl) Hz rfl rfl (zg rfl ?_)
 refine aB.cO s rfl rfl rfl (cH qU) (fun p4 h s => ?_)
 dsimp only [V.cells,List.length_cons,List.length_nil,Nat.reduceAdd] at s
 refine zk 4 rfl (WP.block (zK 4 rfl ?_))
 have s:=s.ae [1]
 dsimp only [bringA,getA,aU] at s
 refine zc rfl (nQ hW s I.size) ?_
 rintro v h' ⟨rfl,rfl⟩
 refine zh rfl (ag rfl rfl bR) (by simp; omega) ?_
 refine zk 7 rfl (zc rfl (Az (n:=n) hW s I (by omega)) ?_)
 rintro v h' ⟨rfl,rfl⟩
 rw [hh]
 refine zo rfl (dA rfl rfl) (za rfl (zv (zj rfl (WP.skip (zw ?_)))))
 obtain ⟨bv,sv,s⟩:=c8.1 s
 have s0:=s
 have xz:=cY (s.buf (k:=1) rfl).view
 have J:((n:Int)-(μ.base:Int))=(a:Int):=by omega
 refine WP.drawn [ai,ai,ai,ai,ai,ai,ai,ai,ai,ai,ai,ai,ai,ai,ai,some (1,2),some (1,2),ai,ai,ai] rfl (by kernel_rfl) (by kernel_rfl) ?_
 refine zM rfl (zN rfl (zF rfl (eD _ _) (zL rfl (s.ld (k:=0) rfl bL rfl) (zM rfl (zM rfl (zN rfl (zF rfl (gz _ _) (zL rfl (s.ld (k:=0) rfl fX rfl) (zO rfl (ag (r:=.int .u64 (a:Int)) rfl rfl (by rw [←J]; exact lE (eR (by omega) (by omega)))) ?_)))))))))
 refine aA.op rfl rfl rfl (by simp only [isEff,bE]) (b8 rfl (by exact jx cq bE (aT (by omega) (by omega)))) ?_
 refine zM rfl (aA.any rfl rfl rfl rfl (OpR.call rfl rfl rfl rfl (HO (n:=n) (a:=a) hT hg hk hr V9 xD ha hl (by omega) (s.ae [1]) (bI _ _))) ?_)
 rintro r h ⟨dt,ch,cs,rfl,s⟩
 have jM:=(s.buf (k:=1) rfl).view.cells
 have U:=s.kF (j:=2) rfl
 have A0:=cY (s.buf (k:=1) rfl).view
 have gn:[V.int .i64 (kd:Int),V.int .u64 (tx:Int),V.int .u64 (pv:Int),V.int .u64 (nx:Int),dt,ch].all storable=true:=mP jM.2 U.2.1
 have s1:=s
 refine zM rfl (zO rfl (cz rfl rfl) (zO rfl (cz rfl rfl) (zO rfl (cz rfl rfl) (aA.gV rfl rfl rfl (OpR.eU rfl rfl rfl (s.gX (j:=6) rfl gy rfl gn)) ?_))))
 rintro v h ⟨rfl,s⟩
 refine zA rfl (zA rfl ?_)
 refine aA.nil ⟨⟨aa,aa,aa,aa,aa,aa,aa,aa,aa,aa,aa,aa,aa,aa,aa,fun _ _=>.inr ⟨rfl,⟨_,cz rfl rfl⟩,aW _ rfl⟩,fun _ _=>.inr ⟨rfl,⟨_,cz rfl rfl⟩,aW _ rfl⟩,aa,aa,aa,aa⟩,?_⟩
 refine zK 4 rfl (zh rfl (ag rfl rfl aX) (rfl) (zk 4 rfl ?_))
 have Hy:(V.agg [V.int .i64 (kd:Int),V.int .u64 (tx:Int),V.int .u64 (pv:Int),V.int .u64 (nx:Int),dt,ch]).beq (V.agg [V.int .i64 (kd:Int),V.int .u64 (tx:Int),V.int .u64 (pv:Int),V.int .u64 (nx:Int),dt,ch])=true:=AA A0 U.2.2
 have s0:=s
 refine WP.drawn [none,some (0,2),some (0,2),some (0,2),some (0,2),some (0,2),some (0,2),some (0,2),ai,ai,ai] rfl (by kernel_rfl) (by kernel_rfl) ?_
 refine zL rfl (s.fE (k:=6) rfl ni gy) (zM rfl (zN rfl (zF rfl (gz _ _) (zL rfl (s.ld (k:=4) rfl fX rfl) (zM rfl (aA.op rfl rfl rfl (by simp only [isEff,cq]) (b8 rfl (by exact jx bE cq (eR (by omega) (by omega)))) ?_))))))
 refine zO rfl (ag rfl rfl (by exact bO (eR (by omega) (by omega)))) ?_
 refine aA.gV rfl rfl rfl (OpR.eU rfl rfl rfl (s.gX (j:=6) rfl gy rfl gn)) ?_
 rintro v h ⟨rfl,s⟩
 dsimp only [yM,aU,bringA,iy,setA] at s
 refine zA rfl (zA rfl ?_)
 refine aA.nil ⟨⟨aa,fun _ _=>.inr ⟨rfl,⟨_,bk rfl⟩,aW _ rfl⟩,fun _ _=>.inr ⟨rfl,⟨_,jZ rfl⟩,aW _ rfl⟩,fun _ _=>.inr ⟨rfl,⟨_,jv rfl (gz _ _)⟩,aW _ rfl⟩,dP (.inr ⟨rfl,⟨_,aV rfl (s0.ld (k:=4) rfl fX rfl)⟩,aW _ rfl⟩) (.inr ⟨rfl,⟨_,aV rfl (s.ld (k:=4) rfl fX rfl)⟩,aW _ rfl⟩),fun _ _=>.inr ⟨rfl,⟨_,bk rfl⟩,aW _ rfl⟩,fun _ _=>.inr ⟨rfl,⟨_,b8 rfl (by exact jx bE cq (eR (by omega) (by omega)))⟩,aW _ rfl⟩,fun _ _=>.inr ⟨rfl,⟨_,ag rfl rfl (by exact bO (eR (by omega) (by omega)))⟩,aW _ rfl⟩,aa,aa,aa,aa⟩,?_⟩
 refine WP.ret ⟨aa,_,xh rfl (s.fE (k:=6) rfl ni gy) rfl rfl,?_⟩
 refine ⟨dt,ch,cs,?_,c8.2 ⟨bv,sv,(s.ae [4,0,3,0,0,0]).del 6⟩⟩
 rw [show ((μ.base:Int)+((a+8+bd.length:Nat):Int))=((n+8+bd.length:Nat):Int) by omega]
 rfl
end
section
variable {told:dF} {h:H} {S:List ax} {X:ax} {v w:V} {l m:List Nat} {a g p q r aD:Nat} {op:V} {data:List Nat} {now:List (Int×List Nat)}
end
def pgA (ε:aM)(n:Int): List Nat:=match lookL n ε.1.aH with
 | some i=>match ε.1.ak[i.toNat]? with
  | some f=>f.b
  | none=>ε.2.2.at n
 | none=>ε.2.2.at n
structure QC (N:Nat)(δ:Dk)(aH:List (Int×Int))(i:Nat)(f:Fm): Prop where
 lt:f.aK<N
 here:lookL f.aK aH=some (i:Int)
 aD:dI f.b=0
 same:f.changed=false→f.b=δ.at f.aK
 mB:f.changed=true→bU f.b=true
structure EC (N:Nat)(ε:aM): Prop where
 dk:DA N ε.2.2
 nodup:(ε.1.aH.map (·.1)).Nodup
 j6:∀(n i:Int),lookL n ε.1.aH=some i→0≤n∧∃(j:Nat) (f:Fm),i=j∧ε.1.ak[j]?=some f∧f.aK=n
 back:∀(i:Nat) (f:Fm),ε.1.ak[i]?=some f→f.aK<0∨QC N ε.2.2 ε.1.aH i f
 rq:∀k:Int,k∈ε.1.aQ.map (·.1)→0≤k∧k<N
 zu:(ε.1.aQ.map (·.1)).Nodup
theorem oN {ε:aM}{n:Int}{j:Nat}{f:Fm}(h:lookL n ε.1.aH=some (j:Int))(I:ε.1.ak[j]?=some f): pgA ε n=f.b:=by
 simp only [pgA,h,cQ,I]
theorem mI {ε:aM}{n:Int}(h:lookL n ε.1.aH=none): pgA ε n=ε.2.2.at n:=by simp only [pgA,h]
theorem EC.cases {N:Nat}{ε:aM}(h:EC N ε)(n:Int): (∃(j:Nat) (f:Fm),lookL n ε.1.aH=some (j:Int)∧ε.1.ak[j]?=some f∧f.aK=n∧0≤n∧QC N ε.2.2 ε.1.aH j f∧pgA ε n=f.b)∨(lookL n ε.1.aH=none∧pgA ε n=ε.2.2.at n):=by
 cases I:lookL n ε.1.aH with
 | none=>exact .inr ⟨rfl,mI I⟩
 | some i =>
  obtain ⟨h0,j,f,rfl,J,hp⟩:=h.j6 n i I
  refine .inl ⟨j,f,rfl,J,hp,h0,?_,oN I J⟩
  rcases h.back j f J with U | U
  ·omega
  ·exact U
theorem EC.aD {N:Nat}{ε:aM}(h:EC N ε){n:Int}(I:0≤n)(J:n<N): dI (pgA ε n)=0:=by
 rcases h.cases n with ⟨j,f,_,_,_,_,ho,e⟩ | ⟨_,e⟩
 ·rw [e]; exact ho.aD
 ·rw [e]; exact h.dk.good n I J
theorem nA {m:List Fm}{i j:Nat}{f g x:Fm}(U:m[i]?=some f)(J:(m.set i g)[j]?=some x): (i=j∧x=g)∨(i≠j∧m[j]?=some x):=by
 by_cases I:i=j
 ·subst I
  rw [iL (List.getElem?_eq_some_iff.1 U).1] at J
  exact .inl ⟨rfl,(bt J).symm⟩
 ·rw [iM I] at J
  exact .inr ⟨I,J⟩
theorem EC.set {N:Nat}{ε:aM}{i:Nat}{f g:Fm}{y:Lg}{δ:Dk}{d:List (Int×(Nat×Bool))}(h:EC N ε)(hf:ε.1.ak[i]?=some f)(hp:g.aK=f.aK)(sI:DA N δ)
 (hg:g.aK<0∨QC N δ ε.1.aH i g)(ho:∀(j:Nat) (x:Fm),i≠j→ε.1.ak[j]?=some x→0≤x.aK→δ.at x.aK=ε.2.2.at x.aK)(hd:∀k:Int,k∈d.map (·.1)→0≤k∧k<N)(hdn:(d.map (·.1)).Nodup):
  EC N ({ ε.1 with ak:=ε.1.ak.set i g,aQ:=d },(y,δ)):=by
 have hi:=(List.getElem?_eq_some_iff.1 hf).1
 refine ⟨sI,h.nodup,fun n k hk => ?_,fun j x J => ?_,hd,hdn⟩
 ·obtain ⟨h0,j,x,rfl,J,v7⟩:=h.j6 n k hk
  refine ⟨h0,j,?_⟩
  by_cases I:i=j
  ·subst I
   rw [hf] at J
   have:=bt J
   subst this
   exact ⟨g,rfl,iL hi,hp.trans v7⟩
  ·exact ⟨x,rfl,by show (ε.1.ak.set i g)[j]?=some x; rw [iM I]; exact J,v7⟩
 ·rcases nA hf J with ⟨rfl,rfl⟩ | ⟨I,J⟩
  ·exact hg
  ·rcases h.back j x J with U | U
   ·exact .inl U
   ·by_cases h2:x.aK<0
    ·exact .inl h2
    ·refine .inr ⟨U.lt,U.here,U.aD,fun hc => ?_,U.mB⟩
     rw [ho j x I J (by omega)]; exact U.same hc
theorem Kl {ε:aM}{i:Nat}{f g:Fm}{x:LD}{d:List (Int×(Nat×Bool))}(U:ε.1.ak[i]?=some f)(hb:g.b=f.b){n:Int}(hx:lookL n ε.1.aH=none→x.2.at n=ε.2.2.at n)(hy:∀j:Int,lookL n ε.1.aH=some j→∃f',ε.1.ak[j.toNat]?=some f'):
  pgA ({ ε.1 with ak:=ε.1.ak.set i g,aQ:=d },x) n=pgA ε n:=by
 unfold pgA
 simp only
 cases hl:lookL n ε.1.aH with
 | none=>exact hx hl
 | some j =>
  simp only
  obtain ⟨f',J⟩:=hy j hl
  by_cases I:i=j.toNat
  ·subst I
   rw [iL (List.getElem?_eq_some_iff.1 U).1,U]
   exact hb
  ·rw [iM I,J]
theorem EC.there {N:Nat}{ε:aM}(h:EC N ε){n:Int}: ∀j:Int,lookL n ε.1.aH=some j→∃f',ε.1.ak[j.toNat]?=some f':=fun j I=>by
 obtain ⟨_,k,f,rfl,J,_⟩:=h.j6 n j I
 exact ⟨f,by rw [cQ]; exact J⟩
theorem EC.out {N:Nat}{ε:aM}{i:Nat}{f:Fm}(h:EC N ε)(I:ε.1.ak[i]?=some f):
  (outF ε i).1=0∧EC N (outF ε i).2∧(∀n,pgA (outF ε i).2 n=pgA ε n)∧(outF ε i).2.1.aH=ε.1.aH∧∃g,(outF ε i).2.1.ak[i]?=some g∧g.aK=f.aK∧(0≤g.aK→g.changed=false):=by
 have hi:=(List.getElem?_eq_some_iff.1 I).1
 unfold outF
 rw [I]
 simp only
 by_cases hc:f.aK<0∨f.changed=false
 ·rw [aj hc]
  exact ⟨rfl,h,fun n=>rfl,rfl,f,I,rfl,fun h0=>hc.resolve_left (by omega)⟩
 ·rw [af hc]
  have J:0≤f.aK:=by omega
  have uH:f.changed=true:=by cases hq:f.changed <;> simp [hq] at hc ⊢
  have ho:=(h.back i f I).resolve_left (by omega)
  have hg:=ho.mB uH
  rw [af (by rw [hg]; decide)]
  obtain ⟨e1,k1⟩:=E7 (x:=ε.2) (n:=eM f.b 4 8) h.dk
  rw [af (by rw [e1]; decide)]
  obtain ⟨e2,k2,k3⟩:=QB (h.dk.of k1) J ho.lt (fq hg) ho.aD
  rw [af (by rw [e2]; decide)]
  have U:∀m,f.aK≠m→((bB ε.2 (eM f.b 4 8)).2.2.bJ f.aK f.b).2.at m=ε.2.2.at m:=fun m hm=>by rw [k3,af hm,k1.at]
  refine ⟨rfl,h.set I rfl k2 (.inr ⟨ho.lt,ho.here,ho.aD,fun _ => ?_,fun hq=>(by cases hq)⟩) (fun j x tM hx h0=>U _ fun hpp => ?_) (fun k hk => ?_) (iI h.zu),fun n => ?_,rfl,_,iL hi,rfl,fun _=>rfl⟩
  ·simp only; rw [k3,aj rfl]
  ·rcases h.back j x hx with h1 | h1
   ·omega
   ·have:=h1.here
    rw [←hpp,ho.here] at this
    have:=bt this
    omega
  ·rcases oH.1 hk with rfl | hk
   ·exact ⟨J,ho.lt⟩
   ·exact h.rq k hk
  ·exact Kl I (by rfl) (fun hn=>U n fun e=>by rw [←e,ho.here] at hn; cases hn) h.there
theorem fR.back {π I:Pl}(J:fR π I){i:Nat}{x:Fm}(U:I.ak[i]?=some x): ∃f t,π.ak[i]?=some f∧x={ f with e_:=t }:=by
 have hi:=(List.getElem?_eq_some_iff.1 U).1
 rw [J.len] at hi
 have hf:π.ak[i]?=some (π.ak[i]'hi):=bg _
 obtain ⟨t,ht⟩:=J.get i _ hf
 rw [U] at ht
 exact ⟨_,t,hf,bt ht⟩
theorem EC.rj {N:Nat}{ε:aM}{J:Pl}(h:EC N ε)(I:fR ε.1 J): EC N (J,ε.2)∧∀n,pgA (J,ε.2) n=pgA ε n:=by
 refine ⟨⟨h.dk,by rw [I.aH]; exact h.nodup,fun n i hi => ?_,fun i x hx => ?_,by rw [I.aQ]; exact h.rq,by rw [I.aQ]; exact h.zu⟩,fun n => ?_⟩
 ·rw [I.aH] at hi
  obtain ⟨h0,j,f,rfl,hf,hp⟩:=h.j6 n i hi
  obtain ⟨t,ht⟩:=I.get j f hf
  exact ⟨h0,j,_,rfl,ht,hp⟩
 ·obtain ⟨f,t,hf,rfl⟩:=I.back hx
  rcases h.back i f hf with U | U
  ·exact .inl U
  ·exact .inr ⟨U.lt,by rw [I.aH]; exact U.here,U.aD,U.same,U.mB⟩
 ·unfold pgA
  simp only [I.aH]
  cases hl:lookL n ε.1.aH with
  | none=>rfl
  | some i =>
   obtain ⟨h0,j,f,rfl,hf,hp⟩:=h.j6 n i hl
   obtain ⟨t,ht⟩:=I.get j f hf
   simp only [cQ,ht,hf]
theorem EC.dy {N:Nat}{ε:aM}{i:Nat}{f g:Fm}(h:EC N ε)(hg:ε.1.ak[i]?=some g)(hp:g.aK=f.aK)(hc:0≤g.aK→g.changed=false): EC N (dy ε.1 i f,ε.2)∧(∀n,pgA (dy ε.1 i f,ε.2) n=pgA ε n) ∧
  (dy ε.1 i f).ak[i]?=some eT∧∀n,lookL n ε.1.aH=none→lookL n (dy ε.1 i f).aH=none:=by
 have hi:=(List.getElem?_eq_some_iff.1 hg).1
 have Xw:(ε.1.ak.set i eT)[i]?=some eT:=iL hi
 have I:∀n,lookL n (Am.dy ε.1 i f).aH=if 0≤f.aK∧f.aK=n then none else lookL n ε.1.aH:=fun n=>by
  rw [Am.dy]
  by_cases h0:f.aK<0
  ·rw [aj h0,af (by omega)]
  ·rw [af h0,EG h.nodup]
   by_cases hn:f.aK=n
   ·rw [aj hn,aj ⟨by omega,hn⟩]
   ·rw [af hn,af (by omega)]
 refine ⟨⟨h.dk,?_,fun n k hk => ?_,fun j x J => ?_,h.rq,h.zu⟩,fun n => ?_,Xw,fun n hn => ?_⟩
 ·rw [Am.dy]
  by_cases h0:f.aK<0
  ·rw [aj h0]; exact h.nodup
  ·rw [af h0]; exact wO h.nodup
 ·rw [I] at hk
  split at hk
  ·cases hk
  ·rename_i fY
   obtain ⟨h0,j,x,rfl,J,v7⟩:=h.j6 n k hk
   refine ⟨h0,j,x,rfl,?_,v7⟩
   show (ε.1.ak.set i eT)[j]?=some x
   rw [iM]
   ·exact J
   ·rintro rfl
    rw [hg] at J
    have:=bt J
    subst this
    omega
 ·rcases nA hg J with ⟨rfl,rfl⟩ | ⟨tM,J⟩
  ·exact .inl (by decide)
  ·rcases h.back j x J with h1 | h1
   ·exact .inl h1
   ·by_cases hx0:x.aK<0
    ·exact .inl hx0
    refine .inr ⟨h1.lt,?_,h1.aD,h1.same,h1.mB⟩
    rw [I,af]
    ·exact h1.here
    ·rintro ⟨h0,U⟩
     rcases h.back i g hg with h2 | h2
     ·omega
     ·have e:=h2.here
      rw [hp,U,h1.here] at e
      have:=bt e
      omega
 ·rcases h.cases n with ⟨j,x,hl,J,v7,h0,ho,e⟩ | ⟨hl,e⟩
  ·rw [e]
   by_cases U:f.aK=n
   ·have tM:i=j:=by
     rcases h.back i g hg with h2 | h2
     ·omega
     ·have e:=h2.here
      rw [hp,U,hl] at e
      have:=bt e
      omega
    subst tM
    rw [hg] at J
    have:=bt J
    subst this
    rw [mI (by rw [I,aj ⟨by omega,U⟩])]
    rw [ho.same (hc (by omega)),hp,U]
   ·refine oN (j:=j) (by rw [I,af (by omega)]; exact hl) ?_
    show (ε.1.ak.set i eT)[j]?=some x
    rw [iM]
    ·exact J
    ·rintro rfl
     rw [hg] at J
     have:=bt J
     subst this
     omega
  ·rw [e,mI (by rw [I]; split; rfl; exact hl)]
 ·rw [I]; split; rfl; exact hn
theorem EC.jC {N:Nat}{ε:aM}{i:Nat}{e:Fm}{n:Int}(h:EC N ε)(he:ε.1.ak[i]?=some e)(hp:e.aK<0)(hl:lookL n ε.1.aH=none)(h0:0≤n)(h1:n<N): EC N (jC ε.1 i n (ε.2.2.at n),ε.2)∧∀m,pgA (jC ε.1 i n (ε.2.2.at n),ε.2) m=pgA ε m:=by
 have hi:=(List.getElem?_eq_some_iff.1 he).1
 have J:(ε.1.ak.set i ⟨n,ε.2.2.at n,1,true,false⟩)[i]?=some ⟨n,ε.2.2.at n,1,true,false⟩:=iL hi
 have I:∀m,lookL m (Am.jC ε.1 i n (ε.2.2.at n)).aH=if n=m then some (i:Int) else lookL m ε.1.aH:=fun m=>gM _
 refine ⟨⟨h.dk,iI h.nodup,fun m k hk => ?_,fun j x U => ?_,h.rq,h.zu⟩,fun m => ?_⟩
 ·rw [I] at hk
  split at hk
  ·rename_i Hg
   have:=bt hk
   subst this
   subst Hg
   exact ⟨h0,i,_,rfl,J,rfl⟩
  ·rename_i fY
   obtain ⟨h0,j,x,rfl,U,v7⟩:=h.j6 m k hk
   refine ⟨h0,j,x,rfl,?_,v7⟩
   show (ε.1.ak.set i _)[j]?=some x
   rw [iM]
   ·exact U
   ·rintro rfl
    rw [he] at U
    have:=bt U
    subst this
    omega
 ·rcases nA he U with ⟨rfl,rfl⟩ | ⟨tM,U⟩
  ·exact .inr ⟨h1,by rw [I,aj rfl],h.dk.good n h0 h1,fun _=>rfl,fun hq=>(by cases hq)⟩
  ·rcases h.back j x U with h2 | h2
   ·exact .inl h2
   ·refine .inr ⟨h2.lt,?_,h2.aD,h2.same,h2.mB⟩
    rw [I,af]
    ·exact h2.here
    ·rintro rfl
     rw [h2.here] at hl; cases hl
 ·by_cases Hg:n=m
  ·subst Hg
   rw [oN (j:=i) (by rw [I,aj rfl]) J,mI hl]
  ·rcases h.cases m with ⟨j,x,lH,U,v7,_,ho,e2⟩ | ⟨lH,e2⟩
   ·rw [e2]
    refine oN (j:=j) (by rw [I,af Hg]; exact lH) ?_
    show (ε.1.ak.set i _)[j]?=some x
    rw [iM]
    ·exact U
    ·rintro rfl
     rw [he] at U
     have:=bt U
     subst this
     omega
   ·rw [e2,mI (by rw [I,af Hg]; exact lH)]
theorem EC.frame {N:Nat}{ε:aM}{i:Nat}{f g:Fm}(h:EC N ε)(hf:ε.1.ak[i]?=some f)(J:g.aK=f.aK)(U:g.b=f.b)(hc:g.changed=f.changed): EC N ({ ε.1 with ak:=ε.1.ak.set i g },ε.2)∧∀n,pgA ({ ε.1 with ak:=ε.1.ak.set i g },ε.2) n=pgA ε n:=by
 refine ⟨h.set (y:=ε.2.1) (δ:=ε.2.2) hf J h.dk ?_ (fun _ _ _ _ _=>rfl) h.rq h.zu,fun n=>Kl hf U (fun _=>rfl) h.there⟩
 rcases h.back i f hf with I | I
 ·exact .inl (by omega)
 ·exact .inr ⟨by rw [J]; exact I.lt,by rw [J]; exact I.here,by rw [U]; exact I.aD,by rw [J,U,hc]; exact I.same,by rw [U,hc]; exact I.mB⟩
theorem fS.ec {N:Nat}{ε ε':aM}{n e:Int}{b:List Nat}(hr:fS ε n e b ε')(h:EC N ε): EC N ε'∧(∀m,pgA ε' m=pgA ε m)∧(0≤n→n<N→e=0∧b=pgA ε n)∧(¬(0≤n∧n<N)→e=1∧ε'=ε):=by
 have U:=h.dk.aq
 cases hr with
 | arg I=>rw [U] at I; exact ⟨h,fun _=>rfl,fun a b=>absurd ⟨a,b⟩ I,fun _=>⟨rfl,rfl⟩⟩
 | A6 i f h1 J hl hf =>
  rw [U] at J
  obtain ⟨k1,k2⟩:=h.frame (g:={ f with e_:=true,pins:=f.pins+1 }) hf rfl rfl rfl
  exact ⟨k1,k2,fun _ _=>⟨rfl,(oN hl hf).symm⟩,fun I=>absurd ⟨h1,J⟩ I⟩
 | out gO i f h1 J hl I hf hh he=>exact absurd ((h.rj I).1.out hf).1 he
 | read gO i f h1 J hl I hf hh he hr =>
  obtain ⟨k1,k2,k3,k4,g,k5,k6,k7⟩:=(h.rj I).1.out hf
  refine absurd ?_ hr
  rw [U] at J
  rw [Dk.rH,af (by rw [k2.dk.alive]; decide),af (by rw [k2.dk.aq]; exact not_not_intro ⟨h1,J⟩)]
 | bad gO i f h1 J hl I hf hh he hr hc =>
  obtain ⟨k1,k2,k3,k4,g,k5,k6,k7⟩:=(h.rj I).1.out hf
  rw [U] at J
  exact absurd (k2.dk.good n h1 J) hc
 | load gO i f h1 J hl I hf hh he hr hc =>
  obtain ⟨n1,n2⟩:=h.rj I
  obtain ⟨k1,k2,k3,k4,g,k5,k6,k7⟩:=n1.out hf
  rw [U] at J
  obtain ⟨f1,f2,f3,f4⟩:=k2.dy k5 k6 k7
  have lH:lookL n (outF (gO,ε.2) i).2.1.aH=none:=by rw [k4]; show lookL n gO.aH=none; rw [I.aH]; exact hl
  obtain ⟨l1,l2⟩:=f1.jC f3 (by decide) (f4 n lH) h1 J
  exact ⟨l1,fun m=>by rw [l2,f2,k3,n2],fun _ _=>⟨rfl,by rw [←n2,←k3,mI lH]⟩,fun I=>absurd ⟨h1,J⟩ I⟩
theorem Om {N:Nat}{π:Pl}{x:LD}{n:Int}(h:EC N (π,x)): EC N ((unpinF π n).2,x)∧∀m,pgA ((unpinF π n).2,x) m=pgA (π,x) m:=by
 unfold unpinF
 split
 ·exact ⟨h,fun _=>rfl⟩
 ·split
  ·exact ⟨h,fun _=>rfl⟩
  ·rename_i i hi f I
   exact h.frame (g:={ f with pins:=f.pins-1 }) I rfl rfl rfl
theorem mD.ec {N:Nat}{ε ε':aM}{n e:Int}{b:List Nat}(I:mD ε n e b ε')(h:EC N ε)(hp:∀f∈ε.1.ak,f.pins=0): EC N ε'∧(∀m,pgA ε' m=pgA ε m)∧(0≤n→n<N→e=0∧b=pgA ε n)∧(¬(0≤n∧n<N)→e=1∧ε'=ε):=by
 cases I with
 | dead J=>rw [h.dk.alive] at J; cases J
 | iU e b ε' J I he =>
  obtain ⟨k1,k2,U,k4⟩:=I.ec h
  exact ⟨k1,k2,fun a b=>absurd (U a b).1 he,k4⟩
 | sJ b ε' J I he=>exact absurd (I.Bz hp).1 he
 | read b ε' J I he =>
  obtain ⟨k1,k2,U,k4⟩:=I.ec h
  obtain ⟨u1,u2⟩:=Om (n:=n) k1
  refine ⟨u1,fun m=>by rw [u2]; exact k2 m,U,fun hn=>absurd (k4 hn).1 (by decide)⟩
theorem ow.ec {N:Nat}{ε ε':aM}{now:List (Int×List Nat)}{n e:Int}{b:List Nat}(hr:ow ε now false n e b ε')(h:EC N ε)(hp:∀f∈ε.1.ak,f.pins=0): EC N ε'∧(∀m,pgA ε' m=pgA ε m) ∧
  (0≤n→n<N→e=0∧b=(match lookL n now with | some b=>b | none=>pgA ε n))∧(¬(0≤n∧n<N)→e=1):=by
 have I:=h.dk.aq
 cases hr with
 | arg J=>rw [I] at J; exact ⟨h,fun _=>rfl,fun a b=>absurd ⟨a,b⟩ J,fun _=>rfl⟩
 | b_ _ _ ho=>cases ho
 | own b h1 U _ hl=>rw [I] at U; exact ⟨h,fun _=>rfl,fun _ _=>⟨rfl,by rw [hl]⟩,fun J=>absurd ⟨h1,U⟩ J⟩
 | read e b ε' h1 U _ hl hr =>
  rw [I] at U
  obtain ⟨k1,k2,k3,k4⟩:=hr.ec h hp
  exact ⟨k1,k2,fun a b=>by rw [hl]; exact k3 a b,fun J=>absurd ⟨h1,U⟩ J⟩
end Go.Proofs.YtconhghphklfjaaGreat.Am
