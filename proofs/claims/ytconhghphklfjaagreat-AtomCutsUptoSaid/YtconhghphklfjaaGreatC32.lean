/- AtomCuts: a part of its proof; conditions: its statement's. -/
import Derived.Test.YtconhghphklfjaaGreatC30
import Derived.Test.YtconhghphklfjaaGreatC31
import Derived.Test.YtconhghphklfjaaGreatC24
namespace Go.Proofs.YtconhghphklfjaaGreat.Am
open Go
theorem vm {n m:Nat}(hle:n≤m){args:List V}{h:H}{r:V×H}(I:toldParsed CB n args h=some r): toldParsed CB m args h=some r:=by
 unfold toldParsed at I ⊢
 have mono:=gq (C:=CB) hle
 split at I
 ·rename_i x
  split at I
  ·rename_i J h₁
   simp only [mono _ _ _ h₁]
   cases U:Nat.blt 4 J.ay with
   | false=>rw [U] at I; cases I
   | true =>
    rw [U,ag] at I
    rw [ag]
    split at I
    ·rename_i KR PJ
     simp only [mono _ _ _ PJ]
     split at I
     ·rename_i abp Tv
      simp only [mono _ _ _ Tv]
      exact I
     ·cases I
    ·cases I
  ·cases I
 ·cases I
section
variable {h:H} {S:List ax} {X:ax} {v:V}
noncomputable def Zp : Code:=cK [0] ((Tryz.f101.body).getD .skip)
noncomputable def Zq : Code:=cK [1,1,0] ((Tryz.f101.body).getD .skip)
theorem Wz {E:List (Nat×V)}{Q:Ex→List (Nat×V)→H→Prop}(s:Sat h S)(U:Has E [(0,v)])
 (hq:∀E' h' I J,Has E' [(0,v),(2,.ptr I 0),(3,.ptr J 0)]→Sat h' (pt J (.cells 1 [.bool false] false)::pt I (.cells 6 (iC 0 0 0 0 .bz .bz) false)::S)→Q .normal E' h'): WP CB 9 Zp E h Q:=by
 refine WP.has U (zr rfl ?_)
 refine aB.cQ s rfl rfl rfl (cC ru) (fun I h s => ?_)
 refine aB.cQ s rfl rfl rfl (cC YT) (fun J h s => ?_)
 exact zv (hq _ _ _ _ ⟨rfl,rfl,rfl,aa⟩ s)
theorem WA {kd tx pv nx:Nat}{data:List Nat}{aR:List cj}(hg:dK kd aR=true)(hk:kd<256)(hr:xD tx pv nx data aR)(hX:cT X (cU v (cY kd tx pv nx data aR)))
 {I J:Nat}{E:List (Nat×V)}{Q:Ex→List (Nat×V)→H→Prop}(s:Sat h (pt J (.cells 1 [.bool false] false)::pt I (.cells 6 (iC 0 0 0 0 .bz .bz) false)::X::S))
 (hE:Has E [(0,v),(2,.ptr I 0),(3,.ptr J 0)])
 (hq:∀E' h' dt ch cs,Has E' [(2,.ptr I 0),(3,.ptr J 0)]→Sat h' (pt J (.cells 1 [.bool true] false)::pt I (.cells 6 (iC kd tx pv nx dt ch) false)::X::bH dt data::.arr 4 ch cs::cV cs aR::S)→Q .normal E' h'): WP CB 9 Zq E h Q:=by
 obtain ⟨pi,po,pc,rfl⟩:=kC (s.aG (k:=2) rfl hX) (by simp only [cY,bA,bj]; omega)
 refine WP.has hE (zK 2 rfl (zo rfl (c7 rfl (by rw [XK]; rfl)) ?_))
 refine aB.cQ s rfl rfl rfl (gC rfl rfl) ?_
 intro p1 h s
 dsimp only [V.cells] at s
 refine zc rfl (Ub W.base hg hk hr ⟨_,hX,s.ae [0,2]⟩) ?_
 rintro r h ⟨dt,ch,cs,rfl,s⟩
 have U:=(s.buf (k:=1) rfl).view.cells
 have jZ:=s.kJ (j:=2) rfl
 refine zS rfl (s.g9 (j:=5) rfl gE rfl (mS U.2 jZ.2.1)) ?_
 rintro h s
 refine zS rfl (by exact s.dQ (k:=4) rfl x_ rfl (by decide) rfl rfl) (fun h s => ?_)
 exact zv (hq _ _ _ _ _ ⟨rfl,rfl,aa⟩ (s.ae [4,4,0,0,0,0]))
noncomputable def Zr : Code:=cK [1] ((Tryz.f131.body).getD .skip)
theorem WB {x y:V}{E:List (Nat×V)}{Q:Ex→List (Nat×V)→H→Prop}(I:Has E [(0,x),(1,y),(2,.mq),(5,.mq)])(J:∀E',Q .normal E' h): WP CB 16 Zr E h Q:=by
 refine WP.has I (zK 3 rfl (zo rfl (P0 (r:=.bD [.int .i64 0,.bool false]) rfl (by simp only [assertV,Tryz.underlying28,aac])) ?_))
 refine zk 14 rfl (zo rfl (ah (r:=.bool false) rfl rfl (by simp only [binV,Tryz.underlying20]; rfl)) ?_)
 refine zv (zj rfl (WP.skip ?_))
 exact J _
theorem L5 {kd tx pv nx:Nat}{data:List Nat}{aR:List cj}(hg:dK kd aR=true)(hk:kd<256)(hr:xD tx pv nx data aR)(s:Sat h (X::S))(hX:cT X (cU v (cY kd tx pv nx data aR))):
  ∃n r,toldParsed CB n [v] h=some r∧∃dt ch cs,r.1=.bD [.agg (iC kd tx pv nx dt ch),.bool true]∧Sat r.2 (X::bH dt data::.arr 4 ch cs::cV cs aR::S):=by
 obtain ⟨N1,ex1,I,h1,E1,a1,k1,rfl,J,U,OH,s1⟩:=Wz (Q:=fun ex E' h'=>ex=.normal∧∃J U,Has E' [(0,v),(2,.ptr J 0),(3,.ptr U 0)]∧Sat h' (pt U (.cells 1 [.bool false] false)::pt J (.cells 6 (iC 0 0 0 0 .bz .bz) false)::X::S)) (v:=v) (E:=argE [v] 0) s ⟨rfl,aa⟩ (fun E' h' J U hE s=>⟨rfl,J,U,hE,s⟩) _ (Az [v])
 have v2:I.v 2=.ptr J 0:=by simp only [Env.v,k1 _ _ OH.2.1]
 have v3:I.v 3=.ptr U 0:=by simp only [Env.v,k1 _ _ OH.2.2.1]
 have k1':=k1.set 4 (.fn (.func 131) [] [I.v 2,I.v 3])
 obtain ⟨N2,RR,WC,h2,E2,a2,k2,rfl,dt,ch,cs,Zs,s2⟩:=WA (Q:=fun ex E' h'=>ex=.normal∧∃dt ch cs,Has E' [(2,.ptr J 0),(3,.ptr U 0)]∧Sat h' (pt U (.cells 1 [.bool true] false)::pt J (.cells 6 (iC kd tx pv nx dt ch) false)::X::bH dt data::.arr 4 ch cs::cV cs aR::S)) hg hk hr hX s1 (E:=(4,.fn (.func 131) [] [I.v 2,I.v 3])::E1) ⟨OH.1,OH.2.1,OH.2.2.1,aa⟩ (fun E' h' dt ch cs hE s=>⟨rfl,dt,ch,cs,hE,s⟩) _ k1'
 have k3:=((Az [V.ptr J 0,V.ptr U 0]).set 5 .mq).set 2 .mq
 obtain ⟨N3,ex3,abZ,h3,E3,a3,k3',rfl,rfl⟩:=WB (h:=h2) (x:=.ptr J 0) (y:=.ptr U 0) (Q:=fun ex E' h'=>ex=.normal∧h'=h2) (E:=(2,.mq)::(5,.mq)::argE [.ptr J 0,.ptr U 0] 0) ⟨rfl,rfl,rfl,rfl,aa⟩ (fun E'=>⟨rfl,rfl⟩) _ k3
 have r1:mapO (resV Tryz.prog ⟨WC,9,h3⟩) Tryz.f101.results.toList=some [.agg (iC kd tx pv nx dt ch),.bool true]:=by
  refine Ea (s:=⟨WC,9,h3⟩) k2 ?_
  have e1:resE Tryz.prog E2 h3 (.cell 2 40)=some (.agg (iC kd tx pv nx dt ch)):=by
   simp only [resE,Zs.1]
   exact s2.fG (k:=1) rfl nt gE
  have e2:resE Tryz.prog E2 h3 (.cell 3 4)=some (.bool true):=by
   simp only [resE,Zs.2.1]
   exact s2.ld (k:=0) rfl jW rfl
  show mapO (resE Tryz.prog E2 h3) [.cell 2 40,.cell 3 4]=_
  simp only [mapO,e1,e2]
 refine ⟨max N1 (max N2 N3),(.bD [.agg (iC kd tx pv nx dt ch),.bool true],h3),?_,dt,ch,cs,rfl,(s2.del 0).del 0⟩
 have b1:=gq (C:=CB) (show N1≤max N1 (max N2 N3) by omega) _ _ _ a1
 have b2:=gq (C:=CB) (show N2≤max N1 (max N2 N3) by omega) _ _ _ a2
 have b3:=gq (C:=CB) (show N3≤max N1 (max N2 N3) by omega) _ _ _ a3
 simp only [toldParsed]
 rw [show L3=Zp from rfl,b1]
 simp only [v2,v3] at b2 ⊢
 rw [show Nat.blt 4 9=true from rfl,ag,show L4=Zq from rfl,b2]
 dsimp only
 rw [show F_=Zr from rfl,b3]
 dsimp only
 rw [r1]
def Ga (args:List V)(h:H)(r:V×H): Prop:=∃n,toldParsed CB n args h=some r
structure WR (told:dH): Prop where
 w:W told
 pr:told 101=some (nA Tryz.prog 101 Ga)
theorem OI {told:dH}(U:WR told){kd tx pv nx:Nat}{data:List Nat}{aR:List cj}(hg:dK kd aR=true)(hk:kd<256)(J:xD tx pv nx data aR)(s:Sat h (X::S))(hX:cT X (cU v (cY kd tx pv nx data aR))):
  Call ⟨Tryz.prog,told⟩ 101 [v] h fun r h'=>∃dt ch cs,r=.bD [.agg (iC kd tx pv nx dt ch),.bool true]∧Sat h' (X::bH dt data::.arr 4 ch cs::cV cs aR::S):=by
 obtain ⟨n,r,e,hP⟩:=L5 hg hk J s hX
 obtain ⟨r',h1,m,h2⟩:=zC (P:=Tryz.prog) (f:=101) (iZ:=Ga) (args:=[v]) (r:=r) ⟨n,e⟩ (fun c w J hw=>FW (C:=CB) rfl g_ fB e J hw)
 have e1:=vm (show n≤max n m by omega) e
 have I:=vm (show m≤max n m by omega) h2
 rw [e1] at I
 injection I with I
 subst I
 exact ⟨r.1,r.2,g6.told U.pr Ia rfl h1,hP⟩
end
structure DK (δ X8:Dk): Prop where
 dead:X8.dead=δ.dead
 aF:X8.aF=δ.aF
 aq:X8.aq=δ.aq
 now:X8.now=δ.now
theorem DK.refl (δ:Dk): DK δ δ:=⟨rfl,rfl,rfl,rfl⟩
theorem DK.at {δ I:Dk}(h:DK δ I)(n:Int): I.at n=δ.at n:=by rw [Dk.at,Dk.at,h.now,h.aq]
structure DA (N:Nat)(δ:Dk): Prop where
 alive:δ.dead=false
 aF:δ.aF<0
 aq:δ.aq.length=N
 keys:∀k:Int,k∈δ.now.map (·.1)→0≤k∧k<N
 nodup:(δ.now.map (·.1)).Nodup
 good:∀n:Int,0≤n→n<N→dA (δ.at n)=0
theorem DA.of {N:Nat}{δ I:Dk}(h:DA N δ)(k:DK δ I): DA N I :=
 ⟨k.dead.trans h.alive,by rw [k.aF]; exact h.aF,by rw [k.aq]; exact h.aq,by rw [k.now]; exact h.keys,by rw [k.now]; exact h.nodup,fun n a b=>by rw [k.at]; exact h.good n a b⟩
theorem fU {δ:Dk}(h:δ.aF<0): δ.c_=δ:=by
 have:(if 0<δ.aF then δ.aF-1 else δ.aF)=δ.aF:=af (by omega)
 rw [Dk.c_,this]
theorem Ie {N:Nat}{δ:Dk}(h:DA N δ): δ.cE=(0,{ δ with aL:=δ.log.length }):=by
 rw [Dk.cE,af (by rw [h.alive]; decide),af (by have:=h.aF; omega),fU h.aF]
theorem Uc {N:Nat}{δ:Dk}{b:List Nat}(h:DA N δ)(I:b.length≤64): δ.nW b=(0,{ δ with mark:=b }):=by
 rw [Dk.nW,af (by rw [h.alive]; decide),af (by omega),af (by have:=h.aF; omega),fU h.aF]
theorem Ft {N:Nat}{x:LD}{n:Nat}(h:DA N x.2): (bC x n).1=0∧DK x.2 (bC x n).2.2:=by
 unfold bC
 split
 ·exact ⟨rfl,DK.refl _⟩
 ·rw [Ie h,af (by simp)]
  exact ⟨rfl,rfl,rfl,rfl,rfl⟩
theorem Q5 {N:Nat}{δ:Dk}{n:Int}{b:List Nat}(h:DA N δ)(h0:0≤n)(h1:n<N)(hb:b.length=512)(hc:dA b=0):
  (δ.bI n b).1=0∧DA N (δ.bI n b).2∧∀m,(δ.bI n b).2.at m=if n=m then b else δ.at m:=by
 have e:δ.bI n b=(0,δ.wr n b):=by
  rw [Dk.bI,af (by rw [h.alive]; decide),af (not_not_intro ⟨h0,by rw [h.aq]; exact h1,hb⟩),af (by have:=h.aF; omega)]
 have I:(δ.wr n b).now=cM n b δ.now:=rfl
 have mC:(δ.wr n b).aq=δ.aq:=rfl
 have J:∀m,(δ.wr n b).at m=if n=m then b else δ.at m:=fun m=>by
  rw [Dk.at,Dk.at,I,mC,gQ]
  by_cases hm:n=m
  ·rw [aj hm,aj hm]
  ·rw [af hm,af hm]
 have WD:(δ.wr n b).aF=δ.aF:=by
  show δ.c_.aF=δ.aF
  rw [fU h.aF]
 rw [e]
 refine ⟨rfl,⟨h.alive,by rw [WD]; exact h.aF,h.aq,fun x U => ?_,?_,fun m a c => ?_⟩,J⟩
 ·rw [I] at U
  rcases oM.1 U with rfl | U
  ·exact ⟨h0,h1⟩
  ·exact h.keys x U
 ·rw [I]; exact iL h.nodup
 ·rw [J]
  by_cases hm:n=m
  ·rw [aj hm]; exact hc
  ·rw [af hm]; exact h.good m a c
theorem laidP_get : ∀ {l:List (Int×List Nat)} {m:List (Option (List Nat))} {n:Int} {N:Nat},m.length=N→(l.map (·.1)).Nodup→(∀k:Int,k∈l.map (·.1)→0≤k∧k<N)→0≤n→(laidP l m)[n.toNat]?=match lookL n l with
  | some b=>some (some b)
  | none=>m[n.toNat]?:=by
 intro l
 induction l with
 | nil=>intro m n N _ _ _ _; rfl
 | cons e l U =>
  intro m n N hm hd J hn
  have I:e.1∉l.map (·.1)∧(l.map (·.1)).Nodup:=List.nodup_cons.1 hd
  have h1:=J e.1 (by simp)
  rw [laidP,U (N:=N) (by rw [dw]; exact hm) I.2 (fun x hx=>J x (by simp only [bJ,fb]; exact .inr hx)) hn]
  simp only [lookL]
  by_cases he:e.1=n
  ·rw [aj he]
   have:lookL n l=none:=f_.2 (by rw [←he]; exact I.1)
   rw [this]
   simp only
   rw [he,iO (by rw [hm]; omega)]
  ·rw [af he]
   cases hq:lookL n l with
   | some b=>rfl
   | none=>simp only; rw [iP (by omega)]
theorem Ud {N:Nat}{δ:Dk}(h:DA N δ): δ.dL.1=0∧DA N δ.dL.2∧∀m,0≤m→δ.dL.2.at m=δ.at m:=by
 have e:δ.dL=(0,δ.sync):=by rw [Dk.dL,af (by rw [h.alive]; decide),af (by have:=h.aF; omega),fU h.aF]
 have I:∀m,0≤m→δ.sync.at m=δ.at m:=fun m hm=>by
  rw [Dk.at,Dk.at]
  have J:lookL m δ.sync.now=none:=rfl
  rw [J]
  simp only
  rw [show δ.sync.aq=laidP δ.now δ.aq from rfl,laidP_get h.aq h.nodup h.keys hm]
  cases hq:lookL m δ.now with
  | some b=>rfl
  | none=>rfl
 rw [e]
 refine ⟨rfl,⟨h.alive,h.aF,by rw [show δ.sync.aq=laidP δ.now δ.aq from rfl,nC]; exact h.aq,fun x U=>(by cases U),kq,fun m a c => ?_⟩,I⟩
 rw [I m a]; exact h.good m a c
theorem Bt {l m:List Nat}{a b:Nat}(J:a+m.length≤l.length)(U:a+m.length≤b): (c9 l a m).drop b=l.drop b:=by
 have I:(l.take a).length=a:=by rw [dI]; omega
 rw [c9,←bN,Ae,iu (by rw [bA,I]; omega),cW,qR,bA,I]
 congr 1; omega
theorem xF {l m:List Nat}{a z:Nat}(I:l.drop 12=m.drop 12)(J:12≤a): eR l a z=eR m a z:=by
 have e:∀l:List Nat,(l.take (a+z)).drop a=((l.drop 12).drop (a-12)).take z:=fun l=>by
  rw [qR,show 12+(a-12)=a by omega,tI]
  congr 1; omega
 rw [eR,eR,e,e,I]
theorem Jy {l m:List Nat}(I:l.drop 12=m.drop 12){low:Nat}: ∀(n i:Nat) (t:List Bool),cellsL l low n i t=cellsL m low n i t:=by
 intro n
 induction n with
 | zero=>intro i t; rfl
 | succ n J =>
  intro i t
  have U:jy l i=jy m i:=xF I (by omega)
  have e2:lS l i=lS m i:=xF I (by omega)
  simp only [cellsL,U,e2,J]
theorem Dg {l m:List Nat}(J:l.length=m.length)(I:l.drop 12=m.drop 12): bU l=bU m:=by
 have U:j7 l=j7 m:=xF I (by omega)
 have e2:iF l=iF m:=xF I (by omega)
 have e3:l.getD 13 0=m.getD 13 0:=by
  have:∀l:List Nat,l[13]?=(l.drop 12)[1]?:=fun l=>by rw [jO]
  rw [ki,ki,this,this,I]
 simp only [bU,J,U,e2,e3,Jy I]
theorem sr : ∀(k n:Nat),leN (le k n)=n%256^k:=by
 intro k
 induction k with
 | zero=>intro n; rw [Nat.pow_zero,Nat.mod_one]; rfl
 | succ k I =>
  intro n
  rw [le,leN,I,pF,qW (256^k) 256,Nat.mod_mul]
theorem pX {b:List Nat}{n:Nat}(J:b.length=512): (cO b n).drop 12=b.drop 12∧(cO b n).length=512∧(cO b n).drop 4=(m_ b n).drop 4∧eR (cO b n) 0 4=yX 0 ((m_ b n).drop 4)%4294967296:=by
 have U:=xj (n:=n) J
 have h2:(cO b n).length=512:=by rw [cO,iJ (by rw [cX]; omega),U]
 have I:(cO b n).drop 4=(m_ b n).drop 4:=by rw [cO]; exact Bt (by rw [cX]; omega) (by rw [cX]; omega)
 have h4:(m_ b n).drop 12=b.drop 12:=by rw [m_]; exact Bt (by rw [cX]; omega) (by rw [cX]; omega)
 refine ⟨?_,h2,I,?_⟩
 ·have:=jh (List.drop 8) I
  rw [qR,qR] at this
  exact this.trans h4
 ·have e:(cO b n).take 4=le 4 (yX 0 ((m_ b n).drop 4)):=by
   rw [cO,c9,pE,cW,oU (by rw [cX]; omega),fL (by rw [cX]; omega)]
  rw [eR,dU,dS,e,sr]
theorem Ue {b:List Nat}{n:Nat}(I:∀x∈b,x<256): ∀x∈m_ b n,x<256:=yP I (LF _ _)
theorem zQ {b:List Nat}{n:Nat}(U:bU b=true)(hb:∀x∈b,x<256): dA (cO b n)=0∧bU (cO b n)=true∧jQ (cO b n)=b.drop 12:=by
 have hl:=fA U
 obtain ⟨h1,h2,h3,h4⟩:=pX (n:=n) hl
 have I:bU (cO b n)=true:=by rw [Dg (h2.trans hl.symm) h1]; exact U
 have hz:bU (List.replicate 512 0)=false:=by decide +kernel
 have J:cO b n≠List.replicate 512 0:=fun e=>by rw [e,hz] at I; cases I
 have hc:yX 0 ((m_ b n).drop 4)<4294967296:=BK (by decide) fun x hx=>Ue hb x (iw hx)
 refine ⟨?_,I,?_⟩
 ·rw [dA,af J,af (by rw [I]; decide),af]
  rw [h4,h3,gT hc]; exact not_not_intro rfl
 ·rw [jQ,af (by rintro (h | h); exact h h2; exact J h),h1]
theorem BR {x y z:List Nat}{a b:Nat}(I:x.length=a)(J:a+y.length=b): ((x++(y++z)).take b).drop a=y:=by
 subst I; subst J
 rw [←bN,oU (by simp),fL (by simp),pz rfl]
theorem X9 (n:Nat)(b:List Nat): b.length<4294967296→tg n b<4294967296→leN (le 4 b.length)=b.length∧leN (le 4 (tg n b))=tg n b:=by
 intro I J
 rw [sr,sr]
 exact ⟨gT (by simpa using I),gT (by simpa using J)⟩
section
variable {told:dH} {h:H} {S:List ax} {X:ax} {v:V} {l:List Nat}
theorem Ig (hT:WR told){kd tx pv nx n a:Nat}{data:List Nat}{aR:List cj}{pre rest bd:List Nat}(hg:dK kd aR=true)(hk:kd<256)(hr:xD tx pv nx data aR)(SG:bd=cY kd tx pv nx data aR)
 (sK:bd.length≤1048576)(ha:pre.length=a)(J:l=pre++(iq n bd++rest))(C7:l.length≤1073741824)(s:Sat h (X::S))(I:cT X (cU v l)):
  Call ⟨Tryz.prog,told⟩ 57 [v,.int .i64 (a:Int),.int .u64 (n:Int)] h fun r h'=>∃dt ch cs,r=.bD [.agg (iC kd tx pv nx dt ch),.int .i64 ((a+8+bd.length:Nat):Int),.int .i64 0]∧Sat h' (X::bH dt data::.arr 4 ch cs::cV cs aR::S):=by
 have hv:=s.aG (k:=0) rfl I
 have bS:∀x∈bd,x<256:=fun x hx=>hv.1 x (by rw [J,iq]; simp [hx])
 have U:=He (aI:=n) bS
 obtain ⟨q1,q2⟩:=X9 n bd (by omega) U
 have hlen:l.length=a+8+bd.length+rest.length:=by rw [J]; simp only [bA,mH]; omega
 have m1:(l.take (a+4)).drop a=le 4 bd.length:=by
  rw [J,iq,bN,bN]
  exact BR ha (by rw [cX])
 have m2:(l.take (a+8)).drop (a+4)=le 4 (tg n bd):=by
  rw [J,iq,bN,bN,←bN pre]
  exact BR (by rw [bA,cX,ha]) (by rw [cX])
 have m3:(l.take (a+8+bd.length)).drop (a+8)=bd:=by
  rw [J,iq,bN,bN,←bN pre,←bN (pre++_)]
  exact BR (by rw [bA,bA,cX,cX,ha]) rfl
 have hW:=hT.w
 have hvl:=bg (P:=Tryz.prog) (h:=h) aS hv
 refine Call.of_wp (hW.free _ rfl) Tryz.func57 rfl rfl (zg rfl ?_)
 refine aB.cQ s rfl rfl rfl (cC ru) (fun p6 h s => ?_)
 refine zk 7 rfl (zh rfl (ah rfl rfl bu) (by simp) ?_)
 refine zk 3 rfl (zo rfl (a_ rfl rfl rfl (bg aS (s.aG (k:=1) rfl I))) (zh rfl (ah rfl rfl dR) (by simp; omega) ?_))
 refine zk 8 rfl (zo rfl (a_ rfl rfl rfl (bg aS (s.aG (k:=1) rfl I))) (zm rfl (zb rfl (by exact lG (aU (by omega) (by omega))) ?_)))
 refine zh rfl (ah rfl rfl bu) (by simp; omega) ?_
 refine zk 8 rfl (zb rfl (by exact bQ (aU (by omega) (by omega))) ?_)
 refine zo rfl (cD (p:=some (.int .i64 (a:Int))) (q:=some (.int .i64 ((a:Int)+4))) (m:=none) (p':=some a) (q':=some (a+4)) (m':=none) rfl rfl rfl rfl (by rw [fK (by omega)]; rfl) (by rw [fK (by omega)]; congr 2 <;> omega) rfl (iI (s.aG (k:=1) rfl I) (a:=a) (b:=a+4) (by omega) (by omega)).1) ?_
 refine zc rfl (pS hW s (k:=1) rfl (mF I (a:=a) (b:=a+4) (by omega) (by omega)) (by rw [m1,cX]; decide)) ?_
 rintro r h' ⟨rfl,rfl⟩
 rw [m1,q1]
 refine zk 6 rfl (zh rfl (ah rfl rfl dR) (by simp; omega) ?_)
 refine zk 2 rfl (zo rfl (bV rfl (by exact jF cq bF (aU (by omega) (by omega)))) ?_)
 refine zm rfl (zo rfl (a_ rfl rfl rfl (bg aS (s.aG (k:=1) rfl I))) (zm rfl (zb rfl (by exact lG (aU (by omega) (by omega))) ?_)))
 refine zb rfl (by exact lG (aU (by omega) (by omega))) ?_
 refine zh rfl (ah rfl rfl dR) (by simp; omega) ?_
 refine zk 7 rfl (zb rfl (by exact bQ (aU (by omega) (by omega))) ?_)
 refine zm rfl (zo rfl (bV rfl (by exact jF cq bF (aU (by omega) (by omega)))) ?_)
 refine zb rfl (by exact bQ (aU (by omega) (by omega))) ?_
 refine zk 6 rfl (zb rfl (by exact bQ (aU (by omega) (by omega))) ?_)
 refine zm rfl (zo rfl (cD (p:=some (.int .i64 ((a:Int)+8))) (q:=some (.int .i64 ((a:Int)+8+(bd.length:Int)))) (m:=none) (p':=some (a+8)) (q':=some (a+8+bd.length)) (m':=none) rfl rfl rfl rfl (by rw [fK (by omega)]; congr 2 <;> omega) (by rw [fK (by omega)]; congr 2 <;> omega) rfl (iI (s.aG (k:=1) rfl I) (a:=a+8) (b:=a+8+bd.length) (by omega) (by omega)).1) ?_)
 refine zk 7 rfl (zb rfl (by exact bQ (aU (by omega) (by omega))) ?_)
 refine zm rfl (zb rfl (by exact bQ (aU (by omega) (by omega))) ?_)
 refine zo rfl (cD (p:=some (.int .i64 ((a:Int)+4))) (q:=some (.int .i64 ((a:Int)+8))) (m:=none) (p':=some (a+4)) (q':=some (a+8)) (m':=none) rfl rfl rfl rfl (by rw [fK (by omega)]; congr 2 <;> omega) (by rw [fK (by omega)]; congr 2 <;> omega) rfl (iI (s.aG (k:=1) rfl I) (a:=a+4) (b:=a+8) (by omega) (by omega)).1) ?_
 refine zc rfl (pS hW s (k:=1) rfl (mF I (a:=a+4) (b:=a+8) (by omega) (by omega)) (by rw [m2,cX]; decide)) ?_
 rintro r h' ⟨rfl,rfl⟩
 rw [m2,q2]
 refine zo rfl (bV rfl (by exact jF cq Tryz.underlying155 (Tn (by omega) (by omega)))) ?_
 refine zk 2 rfl (zc rfl (Fj hW s (k:=1) rfl (mF I (a:=a+8) (b:=a+8+bd.length) (by omega) (by omega)) (by rw [m3]; omega)) ?_)
 rintro r h ⟨rfl,s⟩
 rw [m3]
 refine zh rfl (ah rfl rfl aX) (by simp) ?_
 refine zk 6 rfl ?_
 have hX':cT X (cU (slR v (a+8) (a+8+bd.length)) (cY kd tx pv nx data aR)):=by
  have:=mF I (a:=a+8) (b:=a+8+bd.length) (by omega) (by omega)
  rw [m3] at this
  rw [←SG]
  exact this
 refine zc rfl (OI hT hg hk hr (s.ae [1]) hX') ?_
 rintro r h ⟨dt,ch,cs,rfl,s⟩
 have iY:=(s.buf (k:=1) rfl).view.cells
 have jZ:=s.kJ (j:=2) rfl
 have fW:[V.int .i64 (kd:Int),V.int .u64 (tx:Int),V.int .u64 (pv:Int),V.int .u64 (nx:Int),dt,ch].all storable=true:=mS iY.2 jZ.2.1
 refine zk 3 rfl (zS rfl (s.g9 (j:=4) rfl gE rfl fW) ?_)
 rintro h s
 refine zk 6 rfl (zh rfl (dX rfl rfl) (rfl) (zk 5 rfl (zl rfl (s.fG (k:=4) rfl nt gE) (zm rfl (zS rfl (s.g9 (j:=4) rfl gE rfl fW) ?_)))))
 rintro h s
 refine zk 3 rfl ?_
 refine WP.ret ⟨aa,_,xA rfl (s.fG (k:=4) rfl nt gE) rfl rfl,?_⟩
 exact ⟨dt,ch,cs,rfl,s.del 4⟩
end
section
variable {told:dH} {h:H} {S:List ax} {X:ax} {v:V} {l:List Nat} {q p:Nat} {μ:Lg}
theorem OJ (hT:WR told){kd tx pv nx n a:Nat}{data:List Nat}{aR:List cj}{pre rest bd:List Nat}(hg:dK kd aR=true)(hk:kd<256)(hr:xD tx pv nx data aR)(SG:bd=cY kd tx pv nx data aR)
 (sK:bd.length≤1048576)(ha:pre.length=a)(hl:μ.b=pre++(iq n bd++rest))(hn:n=μ.base+a)(hh:μ.hasB n=true)(I:μ.Ok)(s:Sat h (bf q p μ::S)):
  Call ⟨Tryz.prog,told⟩ 20 [.ptr q 0,.int .u64 (n:Int)] h fun r h'=>∃dt ch cs,r=.bD [.agg (iC kd tx pv nx dt ch),.int .u64 ((n+8+bd.length:Nat):Int),.int .i64 0]∧Sat h' (bf q p μ::bH dt data::.arr 4 ch cs::cV cs aR::S):=by
 have hW:=hT.w
 have hlen:μ.b.length=a+8+bd.length+rest.length:=by rw [hl]; simp only [bA,mH]; omega
 have eO:=I.size
 have hb:=I.len
 refine Call.of_wp (hW.free _ rfl) HT rfl rfl (zg rfl ?_)
 refine aB.cQ s rfl rfl rfl (cC ru) (fun p4 h s => ?_)
 dsimp only [V.cells,List.length_cons,List.length_nil,Nat.reduceAdd] at s
 refine zk 4 rfl (WP.block (zK 4 rfl ?_))
 have s:=s.ae [1]
 dsimp only [bringA,getA,aT] at s
 refine zc rfl (nV hW s I.size) ?_
 rintro v h' ⟨rfl,rfl⟩
 refine zh rfl (ah rfl rfl cI) (by simp; omega) ?_
 refine zk 7 rfl (zc rfl (AN (n:=n) hW s I (by omega)) ?_)
 rintro v h' ⟨rfl,rfl⟩
 rw [hh]
 refine zo rfl (dX rfl rfl) (za rfl (zv (zj rfl (WP.skip (zw ?_)))))
 obtain ⟨bv,sv,s⟩:=dc.1 s
 have s0:=s
 have xO:=c8 (s.buf (k:=1) rfl).view
 have J:((n:Int)-(μ.base:Int))=(a:Int):=by omega
 refine WP.drawn [ai,ai,ai,ai,ai,ai,ai,ai,ai,ai,ai,ai,ai,ai,ai,some (1,2),some (1,2),ai,ai,ai] rfl (by kernel_rfl) (by kernel_rfl) ?_
 refine zM rfl (zN rfl (zF rfl (eF _ _) (zL rfl (s.ld (k:=0) rfl bL rfl) (zM rfl (zM rfl (zN rfl (zF rfl (gF _ _) (zL rfl (s.ld (k:=0) rfl gj rfl) (zO rfl (ah (r:=.int .u64 (a:Int)) rfl rfl (by rw [←J]; exact lG (eW (by omega) (by omega)))) ?_)))))))))
 refine aA.op rfl rfl rfl (by simp only [isEff,bF]) (bV rfl (by exact jF cq bF (aU (by omega) (by omega)))) ?_
 refine zM rfl (aA.any rfl rfl rfl rfl (OpR.call rfl rfl rfl rfl (Ig (n:=n) (a:=a) hT hg hk hr SG sK ha hl (by omega) (s.ae [1]) (bE _ _))) ?_)
 rintro r h ⟨dt,ch,cs,rfl,s⟩
 have iY:=(s.buf (k:=1) rfl).view.cells
 have U:=s.kJ (j:=2) rfl
 have Bb:=c8 (s.buf (k:=1) rfl).view
 have fW:[V.int .i64 (kd:Int),V.int .u64 (tx:Int),V.int .u64 (pv:Int),V.int .u64 (nx:Int),dt,ch].all storable=true:=mS iY.2 U.2.1
 have s1:=s
 refine zM rfl (zO rfl (cy rfl rfl) (zO rfl (cy rfl rfl) (zO rfl (cy rfl rfl) (aA.g8 rfl rfl rfl (OpR.d_ rfl rfl rfl (s.g9 (j:=6) rfl gE rfl fW)) ?_))))
 rintro v h ⟨rfl,s⟩
 refine zA rfl (zA rfl ?_)
 refine aA.nil ⟨⟨aa,aa,aa,aa,aa,aa,aa,aa,aa,aa,aa,aa,aa,aa,aa,fun _ _=>.inr ⟨rfl,⟨_,cy rfl rfl⟩,aW _ rfl⟩,fun _ _=>.inr ⟨rfl,⟨_,cy rfl rfl⟩,aW _ rfl⟩,aa,aa,aa,aa⟩,?_⟩
 refine zK 4 rfl (zh rfl (ah rfl rfl aX) (rfl) (zk 4 rfl ?_))
 have HS:(V.agg [V.int .i64 (kd:Int),V.int .u64 (tx:Int),V.int .u64 (pv:Int),V.int .u64 (nx:Int),dt,ch]).beq (V.agg [V.int .i64 (kd:Int),V.int .u64 (tx:Int),V.int .u64 (pv:Int),V.int .u64 (nx:Int),dt,ch])=true:=AO Bb U.2.2
 have s0:=s
 refine WP.drawn [none,some (0,2),some (0,2),some (0,2),some (0,2),some (0,2),some (0,2),some (0,2),ai,ai,ai] rfl (by kernel_rfl) (by kernel_rfl) ?_
 refine zL rfl (s.fG (k:=6) rfl nt gE) (zM rfl (zN rfl (zF rfl (gF _ _) (zL rfl (s.ld (k:=4) rfl gj rfl) (zM rfl (aA.op rfl rfl rfl (by simp only [isEff,cq]) (bV rfl (by exact jF bF cq (eW (by omega) (by omega)))) ?_))))))
 refine zO rfl (ah rfl rfl (by exact bQ (eW (by omega) (by omega)))) ?_
 refine aA.g8 rfl rfl rfl (OpR.d_ rfl rfl rfl (s.g9 (j:=6) rfl gE rfl fW)) ?_
 rintro v h ⟨rfl,s⟩
 dsimp only [y5,aT,bringA,iC,setA] at s
 refine zA rfl (zA rfl ?_)
 refine aA.nil ⟨⟨aa,fun _ _=>.inr ⟨rfl,⟨_,bk rfl⟩,aW _ rfl⟩,fun _ _=>.inr ⟨rfl,⟨_,j5 rfl⟩,aW _ rfl⟩,fun _ _=>.inr ⟨rfl,⟨_,jE rfl (gF _ _)⟩,aW _ rfl⟩,dO (.inr ⟨rfl,⟨_,aV rfl (s0.ld (k:=4) rfl gj rfl)⟩,aW _ rfl⟩) (.inr ⟨rfl,⟨_,aV rfl (s.ld (k:=4) rfl gj rfl)⟩,aW _ rfl⟩),fun _ _=>.inr ⟨rfl,⟨_,bk rfl⟩,aW _ rfl⟩,fun _ _=>.inr ⟨rfl,⟨_,bV rfl (by exact jF bF cq (eW (by omega) (by omega)))⟩,aW _ rfl⟩,fun _ _=>.inr ⟨rfl,⟨_,ah rfl rfl (by exact bQ (eW (by omega) (by omega)))⟩,aW _ rfl⟩,aa,aa,aa,aa⟩,?_⟩
 refine WP.ret ⟨aa,_,xA rfl (s.fG (k:=6) rfl nt gE) rfl rfl,?_⟩
 refine ⟨dt,ch,cs,?_,dc.2 ⟨bv,sv,(s.ae [4,0,3,0,0,0]).del 6⟩⟩
 rw [show ((μ.base:Int)+((a+8+bd.length:Nat):Int))=((n+8+bd.length:Nat):Int) by omega]
 rfl
end
section
variable {told:dH} {h:H} {S:List ax} {X:ax} {v w:V} {l m:List Nat} {a g p q r aC:Nat} {op:V} {data:List Nat} {now:List (Int×List Nat)}
end
def pgA (ε:aM)(n:Int): List Nat:=match lookL n ε.1.aH with
 | some i=>match ε.1.ak[i.toNat]? with
  | some f=>f.b
  | none=>ε.2.2.at n
 | none=>ε.2.2.at n
structure Q6 (N:Nat)(δ:Dk)(aH:List (Int×Int))(i:Nat)(f:Fm): Prop where
 lt:f.aO<N
 here:lookL f.aO aH=some (i:Int)
 aC:dA f.b=0
 same:f.changed=false→f.b=δ.at f.aO
 mB:f.changed=true→bU f.b=true
structure EC (N:Nat)(ε:aM): Prop where
 dk:DA N ε.2.2
 nodup:(ε.1.aH.map (·.1)).Nodup
 j9:∀(n i:Int),lookL n ε.1.aH=some i→0≤n∧∃(j:Nat) (f:Fm),i=j∧ε.1.ak[j]?=some f∧f.aO=n
 back:∀(i:Nat) (f:Fm),ε.1.ak[i]?=some f→f.aO<0∨Q6 N ε.2.2 ε.1.aH i f
 oR:∀k:Int,k∈ε.1.aN.map (·.1)→0≤k∧k<N
 zR:(ε.1.aN.map (·.1)).Nodup
theorem oS {ε:aM}{n:Int}{j:Nat}{f:Fm}(h:lookL n ε.1.aH=some (j:Int))(I:ε.1.ak[j]?=some f): pgA ε n=f.b:=by
 simp only [pgA,h,cP,I]
theorem mM {ε:aM}{n:Int}(h:lookL n ε.1.aH=none): pgA ε n=ε.2.2.at n:=by simp only [pgA,h]
theorem EC.cases {N:Nat}{ε:aM}(h:EC N ε)(n:Int): (∃(j:Nat) (f:Fm),lookL n ε.1.aH=some (j:Int)∧ε.1.ak[j]?=some f∧f.aO=n∧0≤n∧Q6 N ε.2.2 ε.1.aH j f∧pgA ε n=f.b)∨(lookL n ε.1.aH=none∧pgA ε n=ε.2.2.at n):=by
 cases I:lookL n ε.1.aH with
 | none=>exact .inr ⟨rfl,mM I⟩
 | some i =>
  obtain ⟨h0,j,f,rfl,J,hp⟩:=h.j9 n i I
  refine .inl ⟨j,f,rfl,J,hp,h0,?_,oS I J⟩
  rcases h.back j f J with U | U
  ·omega
  ·exact U
theorem EC.aC {N:Nat}{ε:aM}(h:EC N ε){n:Int}(I:0≤n)(J:n<N): dA (pgA ε n)=0:=by
 rcases h.cases n with ⟨j,f,_,_,_,_,ho,e⟩ | ⟨_,e⟩
 ·rw [e]; exact ho.aC
 ·rw [e]; exact h.dk.good n I J
theorem nE {m:List Fm}{i j:Nat}{f g x:Fm}(U:m[i]?=some f)(J:(m.set i g)[j]?=some x): (i=j∧x=g)∨(i≠j∧m[j]?=some x):=by
 by_cases I:i=j
 ·subst I
  rw [iO (List.getElem?_eq_some_iff.1 U).1] at J
  exact .inl ⟨rfl,(bw J).symm⟩
 ·rw [iP I] at J
  exact .inr ⟨I,J⟩
theorem EC.set {N:Nat}{ε:aM}{i:Nat}{f g:Fm}{y:Lg}{δ:Dk}{d:List (Int×(Nat×Bool))}(h:EC N ε)(hf:ε.1.ak[i]?=some f)(hp:g.aO=f.aO)(tj:DA N δ)
 (hg:g.aO<0∨Q6 N δ ε.1.aH i g)(ho:∀(j:Nat) (x:Fm),i≠j→ε.1.ak[j]?=some x→0≤x.aO→δ.at x.aO=ε.2.2.at x.aO)(hd:∀k:Int,k∈d.map (·.1)→0≤k∧k<N)(hdn:(d.map (·.1)).Nodup):
  EC N ({ ε.1 with ak:=ε.1.ak.set i g,aN:=d },(y,δ)):=by
 have hi:=(List.getElem?_eq_some_iff.1 hf).1
 refine ⟨tj,h.nodup,fun n k hk => ?_,fun j x J => ?_,hd,hdn⟩
 ·obtain ⟨h0,j,x,rfl,J,wE⟩:=h.j9 n k hk
  refine ⟨h0,j,?_⟩
  by_cases I:i=j
  ·subst I
   rw [hf] at J
   have:=bw J
   subst this
   exact ⟨g,rfl,iO hi,hp.trans wE⟩
  ·exact ⟨x,rfl,by show (ε.1.ak.set i g)[j]?=some x; rw [iP I]; exact J,wE⟩
 ·rcases nE hf J with ⟨rfl,rfl⟩ | ⟨I,J⟩
  ·exact hg
  ·rcases h.back j x J with U | U
   ·exact .inl U
   ·by_cases h2:x.aO<0
    ·exact .inl h2
    ·refine .inr ⟨U.lt,U.here,U.aC,fun hc => ?_,U.mB⟩
     rw [ho j x I J (by omega)]; exact U.same hc
theorem KD {ε:aM}{i:Nat}{f g:Fm}{x:LD}{d:List (Int×(Nat×Bool))}(U:ε.1.ak[i]?=some f)(hb:g.b=f.b){n:Int}(hx:lookL n ε.1.aH=none→x.2.at n=ε.2.2.at n)(hy:∀j:Int,lookL n ε.1.aH=some j→∃f',ε.1.ak[j.toNat]?=some f'):
  pgA ({ ε.1 with ak:=ε.1.ak.set i g,aN:=d },x) n=pgA ε n:=by
 unfold pgA
 simp only
 cases hl:lookL n ε.1.aH with
 | none=>exact hx hl
 | some j =>
  simp only
  obtain ⟨f',J⟩:=hy j hl
  by_cases I:i=j.toNat
  ·subst I
   rw [iO (List.getElem?_eq_some_iff.1 U).1,U]
   exact hb
  ·rw [iP I,J]
theorem EC.there {N:Nat}{ε:aM}(h:EC N ε){n:Int}: ∀j:Int,lookL n ε.1.aH=some j→∃f',ε.1.ak[j.toNat]?=some f':=fun j I=>by
 obtain ⟨_,k,f,rfl,J,_⟩:=h.j9 n j I
 exact ⟨f,by rw [cP]; exact J⟩
theorem EC.out {N:Nat}{ε:aM}{i:Nat}{f:Fm}(h:EC N ε)(I:ε.1.ak[i]?=some f):
  (outF ε i).1=0∧EC N (outF ε i).2∧(∀n,pgA (outF ε i).2 n=pgA ε n)∧(outF ε i).2.1.aH=ε.1.aH∧∃g,(outF ε i).2.1.ak[i]?=some g∧g.aO=f.aO∧(0≤g.aO→g.changed=false):=by
 have hi:=(List.getElem?_eq_some_iff.1 I).1
 unfold outF
 rw [I]
 simp only
 by_cases hc:f.aO<0∨f.changed=false
 ·rw [aj hc]
  exact ⟨rfl,h,fun n=>rfl,rfl,f,I,rfl,fun h0=>hc.resolve_left (by omega)⟩
 ·rw [af hc]
  have J:0≤f.aO:=by omega
  have sM:f.changed=true:=by cases hq:f.changed <;> simp [hq] at hc ⊢
  have ho:=(h.back i f I).resolve_left (by omega)
  have hg:=ho.mB sM
  rw [af (by rw [hg]; decide)]
  obtain ⟨e1,k1⟩:=Ft (x:=ε.2) (n:=eR f.b 4 8) h.dk
  rw [af (by rw [e1]; decide)]
  obtain ⟨e2,k2,k3⟩:=Q5 (h.dk.of k1) J ho.lt (fA hg) ho.aC
  rw [af (by rw [e2]; decide)]
  have U:∀m,f.aO≠m→((bC ε.2 (eR f.b 4 8)).2.2.bI f.aO f.b).2.at m=ε.2.2.at m:=fun m hm=>by rw [k3,af hm,k1.at]
  refine ⟨rfl,h.set I rfl k2 (.inr ⟨ho.lt,ho.here,ho.aC,fun _ => ?_,fun hq=>(by cases hq)⟩) (fun j x uj hx h0=>U _ fun hpp => ?_) (fun k hk => ?_) (iL h.zR),fun n => ?_,rfl,_,iO hi,rfl,fun _=>rfl⟩
  ·simp only; rw [k3,aj rfl]
  ·rcases h.back j x hx with h1 | h1
   ·omega
   ·have:=h1.here
    rw [←hpp,ho.here] at this
    have:=bw this
    omega
  ·rcases oM.1 hk with rfl | hk
   ·exact ⟨J,ho.lt⟩
   ·exact h.oR k hk
  ·exact KD I (by rfl) (fun hn=>U n fun e=>by rw [←e,ho.here] at hn; cases hn) h.there
theorem fX.back {π I:Pl}(J:fX π I){i:Nat}{x:Fm}(U:I.ak[i]?=some x): ∃f t,π.ak[i]?=some f∧x={ f with ff:=t }:=by
 have hi:=(List.getElem?_eq_some_iff.1 U).1
 rw [J.len] at hi
 have hf:π.ak[i]?=some (π.ak[i]'hi):=bh _
 obtain ⟨t,ht⟩:=J.get i _ hf
 rw [U] at ht
 exact ⟨_,t,hf,bw ht⟩
theorem EC.rE {N:Nat}{ε:aM}{J:Pl}(h:EC N ε)(I:fX ε.1 J): EC N (J,ε.2)∧∀n,pgA (J,ε.2) n=pgA ε n:=by
 refine ⟨⟨h.dk,by rw [I.aH]; exact h.nodup,fun n i hi => ?_,fun i x hx => ?_,by rw [I.aN]; exact h.oR,by rw [I.aN]; exact h.zR⟩,fun n => ?_⟩
 ·rw [I.aH] at hi
  obtain ⟨h0,j,f,rfl,hf,hp⟩:=h.j9 n i hi
  obtain ⟨t,ht⟩:=I.get j f hf
  exact ⟨h0,j,_,rfl,ht,hp⟩
 ·obtain ⟨f,t,hf,rfl⟩:=I.back hx
  rcases h.back i f hf with U | U
  ·exact .inl U
  ·exact .inr ⟨U.lt,by rw [I.aH]; exact U.here,U.aC,U.same,U.mB⟩
 ·unfold pgA
  simp only [I.aH]
  cases hl:lookL n ε.1.aH with
  | none=>rfl
  | some i =>
   obtain ⟨h0,j,f,rfl,hf,hp⟩:=h.j9 n i hl
   obtain ⟨t,ht⟩:=I.get j f hf
   simp only [cP,ht,hf]
theorem EC.dz {N:Nat}{ε:aM}{i:Nat}{f g:Fm}(h:EC N ε)(hg:ε.1.ak[i]?=some g)(hp:g.aO=f.aO)(hc:0≤g.aO→g.changed=false): EC N (dz ε.1 i f,ε.2)∧(∀n,pgA (dz ε.1 i f,ε.2) n=pgA ε n) ∧
  (dz ε.1 i f).ak[i]?=some eY∧∀n,lookL n ε.1.aH=none→lookL n (dz ε.1 i f).aH=none:=by
 have hi:=(List.getElem?_eq_some_iff.1 hg).1
 have X_:(ε.1.ak.set i eY)[i]?=some eY:=iO hi
 have I:∀n,lookL n (Am.dz ε.1 i f).aH=if 0≤f.aO∧f.aO=n then none else lookL n ε.1.aH:=fun n=>by
  rw [Am.dz]
  by_cases h0:f.aO<0
  ·rw [aj h0,af (by omega)]
  ·rw [af h0,E7 h.nodup]
   by_cases hn:f.aO=n
   ·rw [aj hn,aj ⟨by omega,hn⟩]
   ·rw [af hn,af (by omega)]
 refine ⟨⟨h.dk,?_,fun n k hk => ?_,fun j x J => ?_,h.oR,h.zR⟩,fun n => ?_,X_,fun n hn => ?_⟩
 ·rw [Am.dz]
  by_cases h0:f.aO<0
  ·rw [aj h0]; exact h.nodup
  ·rw [af h0]; exact w_ h.nodup
 ·rw [I] at hk
  split at hk
  ·cases hk
  ·rename_i gn
   obtain ⟨h0,j,x,rfl,J,wE⟩:=h.j9 n k hk
   refine ⟨h0,j,x,rfl,?_,wE⟩
   show (ε.1.ak.set i eY)[j]?=some x
   rw [iP]
   ·exact J
   ·rintro rfl
    rw [hg] at J
    have:=bw J
    subst this
    omega
 ·rcases nE hg J with ⟨rfl,rfl⟩ | ⟨uj,J⟩
  ·exact .inl (by decide)
  ·rcases h.back j x J with h1 | h1
   ·exact .inl h1
   ·by_cases hx0:x.aO<0
    ·exact .inl hx0
    refine .inr ⟨h1.lt,?_,h1.aC,h1.same,h1.mB⟩
    rw [I,af]
    ·exact h1.here
    ·rintro ⟨h0,U⟩
     rcases h.back i g hg with h2 | h2
     ·omega
     ·have e:=h2.here
      rw [hp,U,h1.here] at e
      have:=bw e
      omega
 ·rcases h.cases n with ⟨j,x,hl,J,wE,h0,ho,e⟩ | ⟨hl,e⟩
  ·rw [e]
   by_cases U:f.aO=n
   ·have uj:i=j:=by
     rcases h.back i g hg with h2 | h2
     ·omega
     ·have e:=h2.here
      rw [hp,U,hl] at e
      have:=bw e
      omega
    subst uj
    rw [hg] at J
    have:=bw J
    subst this
    rw [mM (by rw [I,aj ⟨by omega,U⟩])]
    rw [ho.same (hc (by omega)),hp,U]
   ·refine oS (j:=j) (by rw [I,af (by omega)]; exact hl) ?_
    show (ε.1.ak.set i eY)[j]?=some x
    rw [iP]
    ·exact J
    ·rintro rfl
     rw [hg] at J
     have:=bw J
     subst this
     omega
  ·rw [e,mM (by rw [I]; split; rfl; exact hl)]
 ·rw [I]; split; rfl; exact hn
theorem EC.jK {N:Nat}{ε:aM}{i:Nat}{e:Fm}{n:Int}(h:EC N ε)(he:ε.1.ak[i]?=some e)(hp:e.aO<0)(hl:lookL n ε.1.aH=none)(h0:0≤n)(h1:n<N): EC N (jK ε.1 i n (ε.2.2.at n),ε.2)∧∀m,pgA (jK ε.1 i n (ε.2.2.at n),ε.2) m=pgA ε m:=by
 have hi:=(List.getElem?_eq_some_iff.1 he).1
 have J:(ε.1.ak.set i ⟨n,ε.2.2.at n,1,true,false⟩)[i]?=some ⟨n,ε.2.2.at n,1,true,false⟩:=iO hi
 have I:∀m,lookL m (Am.jK ε.1 i n (ε.2.2.at n)).aH=if n=m then some (i:Int) else lookL m ε.1.aH:=fun m=>gQ _
 refine ⟨⟨h.dk,iL h.nodup,fun m k hk => ?_,fun j x U => ?_,h.oR,h.zR⟩,fun m => ?_⟩
 ·rw [I] at hk
  split at hk
  ·rename_i HE
   have:=bw hk
   subst this
   subst HE
   exact ⟨h0,i,_,rfl,J,rfl⟩
  ·rename_i gn
   obtain ⟨h0,j,x,rfl,U,wE⟩:=h.j9 m k hk
   refine ⟨h0,j,x,rfl,?_,wE⟩
   show (ε.1.ak.set i _)[j]?=some x
   rw [iP]
   ·exact U
   ·rintro rfl
    rw [he] at U
    have:=bw U
    subst this
    omega
 ·rcases nE he U with ⟨rfl,rfl⟩ | ⟨uj,U⟩
  ·exact .inr ⟨h1,by rw [I,aj rfl],h.dk.good n h0 h1,fun _=>rfl,fun hq=>(by cases hq)⟩
  ·rcases h.back j x U with h2 | h2
   ·exact .inl h2
   ·refine .inr ⟨h2.lt,?_,h2.aC,h2.same,h2.mB⟩
    rw [I,af]
    ·exact h2.here
    ·rintro rfl
     rw [h2.here] at hl; cases hl
 ·by_cases HE:n=m
  ·subst HE
   rw [oS (j:=i) (by rw [I,aj rfl]) J,mM hl]
  ·rcases h.cases m with ⟨j,x,lI,U,wE,_,ho,e2⟩ | ⟨lI,e2⟩
   ·rw [e2]
    refine oS (j:=j) (by rw [I,af HE]; exact lI) ?_
    show (ε.1.ak.set i _)[j]?=some x
    rw [iP]
    ·exact U
    ·rintro rfl
     rw [he] at U
     have:=bw U
     subst this
     omega
   ·rw [e2,mM (by rw [I,af HE]; exact lI)]
theorem EC.frame {N:Nat}{ε:aM}{i:Nat}{f g:Fm}(h:EC N ε)(hf:ε.1.ak[i]?=some f)(J:g.aO=f.aO)(U:g.b=f.b)(hc:g.changed=f.changed): EC N ({ ε.1 with ak:=ε.1.ak.set i g },ε.2)∧∀n,pgA ({ ε.1 with ak:=ε.1.ak.set i g },ε.2) n=pgA ε n:=by
 refine ⟨h.set (y:=ε.2.1) (δ:=ε.2.2) hf J h.dk ?_ (fun _ _ _ _ _=>rfl) h.oR h.zR,fun n=>KD hf U (fun _=>rfl) h.there⟩
 rcases h.back i f hf with I | I
 ·exact .inl (by omega)
 ·exact .inr ⟨by rw [J]; exact I.lt,by rw [J]; exact I.here,by rw [U]; exact I.aC,by rw [J,U,hc]; exact I.same,by rw [U,hc]; exact I.mB⟩
theorem fY.ec {N:Nat}{ε ε':aM}{n e:Int}{b:List Nat}(hr:fY ε n e b ε')(h:EC N ε): EC N ε'∧(∀m,pgA ε' m=pgA ε m)∧(0≤n→n<N→e=0∧b=pgA ε n)∧(¬(0≤n∧n<N)→e=1∧ε'=ε):=by
 have U:=h.dk.aq
 cases hr with
 | arg I=>rw [U] at I; exact ⟨h,fun _=>rfl,fun a b=>absurd ⟨a,b⟩ I,fun _=>⟨rfl,rfl⟩⟩
 | Bj i f h1 J hl hf =>
  rw [U] at J
  obtain ⟨k1,k2⟩:=h.frame (g:={ f with ff:=true,pins:=f.pins+1 }) hf rfl rfl rfl
  exact ⟨k1,k2,fun _ _=>⟨rfl,(oS hl hf).symm⟩,fun I=>absurd ⟨h1,J⟩ I⟩
 | out gS i f h1 J hl I hf hh he=>exact absurd ((h.rE I).1.out hf).1 he
 | read gS i f h1 J hl I hf hh he hr =>
  obtain ⟨k1,k2,k3,k4,g,k5,k6,k7⟩:=(h.rE I).1.out hf
  refine absurd ?_ hr
  rw [U] at J
  rw [Dk.rT,af (by rw [k2.dk.alive]; decide),af (by rw [k2.dk.aq]; exact not_not_intro ⟨h1,J⟩)]
 | bad gS i f h1 J hl I hf hh he hr hc =>
  obtain ⟨k1,k2,k3,k4,g,k5,k6,k7⟩:=(h.rE I).1.out hf
  rw [U] at J
  exact absurd (k2.dk.good n h1 J) hc
 | load gS i f h1 J hl I hf hh he hr hc =>
  obtain ⟨n1,n2⟩:=h.rE I
  obtain ⟨k1,k2,k3,k4,g,k5,k6,k7⟩:=n1.out hf
  rw [U] at J
  obtain ⟨f1,f2,f3,f4⟩:=k2.dz k5 k6 k7
  have lI:lookL n (outF (gS,ε.2) i).2.1.aH=none:=by rw [k4]; show lookL n gS.aH=none; rw [I.aH]; exact hl
  obtain ⟨l1,l2⟩:=f1.jK f3 (by decide) (f4 n lI) h1 J
  exact ⟨l1,fun m=>by rw [l2,f2,k3,n2],fun _ _=>⟨rfl,by rw [←n2,←k3,mM lI]⟩,fun I=>absurd ⟨h1,J⟩ I⟩
theorem OK {N:Nat}{π:Pl}{x:LD}{n:Int}(h:EC N (π,x)): EC N ((unpinF π n).2,x)∧∀m,pgA ((unpinF π n).2,x) m=pgA (π,x) m:=by
 unfold unpinF
 split
 ·exact ⟨h,fun _=>rfl⟩
 ·split
  ·exact ⟨h,fun _=>rfl⟩
  ·rename_i i hi f I
   exact h.frame (g:={ f with pins:=f.pins-1 }) I rfl rfl rfl
theorem mD.ec {N:Nat}{ε ε':aM}{n e:Int}{b:List Nat}(I:mD ε n e b ε')(h:EC N ε)(hp:∀f∈ε.1.ak,f.pins=0): EC N ε'∧(∀m,pgA ε' m=pgA ε m)∧(0≤n→n<N→e=0∧b=pgA ε n)∧(¬(0≤n∧n<N)→e=1∧ε'=ε):=by
 cases I with
 | dead J=>rw [h.dk.alive] at J; cases J
 | iZ e b ε' J I he =>
  obtain ⟨k1,k2,U,k4⟩:=I.ec h
  exact ⟨k1,k2,fun a b=>absurd (U a b).1 he,k4⟩
 | tq b ε' J I he=>exact absurd (I.BQ hp).1 he
 | read b ε' J I he =>
  obtain ⟨k1,k2,U,k4⟩:=I.ec h
  obtain ⟨u1,u2⟩:=OK (n:=n) k1
  refine ⟨u1,fun m=>by rw [u2]; exact k2 m,U,fun hn=>absurd (k4 hn).1 (by decide)⟩
theorem oB.ec {N:Nat}{ε ε':aM}{now:List (Int×List Nat)}{n e:Int}{b:List Nat}(hr:oB ε now false n e b ε')(h:EC N ε)(hp:∀f∈ε.1.ak,f.pins=0): EC N ε'∧(∀m,pgA ε' m=pgA ε m) ∧
  (0≤n→n<N→e=0∧b=(match lookL n now with | some b=>b | none=>pgA ε n))∧(¬(0≤n∧n<N)→e=1):=by
 have I:=h.dk.aq
 cases hr with
 | arg J=>rw [I] at J; exact ⟨h,fun _=>rfl,fun a b=>absurd ⟨a,b⟩ J,fun _=>rfl⟩
 | b_ _ _ ho=>cases ho
 | own b h1 U _ hl=>rw [I] at U; exact ⟨h,fun _=>rfl,fun _ _=>⟨rfl,by rw [hl]⟩,fun J=>absurd ⟨h1,U⟩ J⟩
 | read e b ε' h1 U _ hl hr =>
  rw [I] at U
  obtain ⟨k1,k2,k3,k4⟩:=hr.ec h hp
  exact ⟨k1,k2,fun a b=>by rw [hl]; exact k3 a b,fun J=>absurd ⟨h1,U⟩ J⟩
end Go.Proofs.YtconhghphklfjaaGreat.Am
