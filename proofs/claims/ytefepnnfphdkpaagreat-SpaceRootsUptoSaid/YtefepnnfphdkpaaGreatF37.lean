/- SpaceRoots: a part of its proof; conditions: its statement's. -/
import Derived.Test.YtefepnnfphdkpaaGreatF35
import Derived.Test.YtefepnnfphdkpaaGreatF36
import Derived.Test.YtefepnnfphdkpaaGreatF24
import Derived.Test.YtefepnnfphdkpaaGreatF28
import Derived.Test.YtefepnnfphdkpaaGreatF31
namespace Go.Proofs.YtefepnnfphdkpaaGreat.Am
open Go
theorem vo {n m:Nat}(hle:n≤m){args:List V}{h:H}{r:V×H}(I:toldParsed CB n args h=some r): toldParsed CB m args h=some r:=by
 unfold toldParsed at I ⊢
 have mono:=fA (C:=CB) hle
 split at I
 ·rename_i x
  split at I
  ·rename_i J h₁
   simp only [mono _ _ _ h₁]
   cases TN:Nat.blt 4 J.ay with
   | false=>rw [TN] at I; cases I
   | true =>
    rw [TN,ag] at I
    rw [ag]
    split at I
    ·rename_i Lu Ju
     simp only [mono _ _ _ Ju]
     split at I
     ·rename_i XL OE
      simp only [mono _ _ _ OE]
      exact I
     ·cases I
    ·cases I
  ·cases I
 ·cases I
section
variable {h:H} {S:List au} {X:au} {v:V}
noncomputable def prH : Code:=dB [0] ((Tryz.f173.body).getD .skip)
noncomputable def prM : Code:=dB [1,1,0] ((Tryz.f173.body).getD .skip)
theorem XM {E:List (Nat×V)}{Q:Ex→List (Nat×V)→H→Prop}(s:Sat h S)(hE:Has E [(0,v)])
 (hq:∀E' h' I J,Has E' [(0,v),(2,.ptr I 0),(3,.ptr J 0)]→Sat h' (pt J (.cells 1 [.bool false] false)::pt I (.cells 6 (gT 0 0 0 0 .bw .bw) false)::S)→Q .normal E' h'): WP CB 9 prH E h Q:=by
 refine WP.has hE (zr rfl ?_)
 refine aA.b5 s rfl rfl rfl (bX qX) (fun I h s => ?_)
 refine aA.b5 s rfl rfl rfl (bX WH) (fun J h s => ?_)
 exact zv (hq _ _ _ _ ⟨rfl,rfl,rfl,aa⟩ s)
theorem XN {kd tx pv nx:Nat}{data:List Nat}{aM:List cq}(hg:dD kd aM=true)(hk:kd<256)(hr:xY tx pv nx data aM)(hX:cT X (cU v (dK kd tx pv nx data aM)))
 {I J:Nat}{E:List (Nat×V)}{Q:Ex→List (Nat×V)→H→Prop}(s:Sat h (pt J (.cells 1 [.bool false] false)::pt I (.cells 6 (gT 0 0 0 0 .bw .bw) false)::X::S))
 (hE:Has E [(0,v),(2,.ptr I 0),(3,.ptr J 0)])
 (hq:∀E' h' dt ch cs,Has E' [(2,.ptr I 0),(3,.ptr J 0)]→Sat h' (pt J (.cells 1 [.bool true] false)::pt I (.cells 6 (gT kd tx pv nx dt ch) false)::X::aZ dt data::.arr 4 ch cs::dg cs aM::S)→Q .normal E' h'): WP CB 9 prM E h Q:=by
 obtain ⟨pi,po,pc,rfl⟩:=iC (s.aE (k:=2) rfl hX) (by simp only [dK,bx,aS]; omega)
 refine WP.has hE (zK 2 rfl (zo rfl (c_ rfl (by rw [YL]; rfl)) ?_))
 refine aA.b5 s rfl rfl rfl (fe rfl rfl) ?_
 intro p1 h s
 dsimp only [V.cells] at s
 refine zc rfl (Vp W.base hg hk hr ⟨_,hX,s.ae [0,2]⟩) ?_
 rintro r h ⟨dt,ch,cs,rfl,s⟩
 have jr:=(s.buf (k:=1) rfl).view.cells
 have jT:=s.jb (j:=2) rfl
 refine zS rfl (s.eH (j:=5) rfl gL rfl (mP jr.2 jT.2.1)) ?_
 rintro h s
 refine zS rfl (by exact s.ey (k:=4) rfl uf rfl (by decide) rfl rfl) (fun h s => ?_)
 exact zv (hq _ _ _ _ _ ⟨rfl,rfl,aa⟩ (s.ae [4,4,0,0,0,0]))
noncomputable def qrR : Code:=dB [1] ((Tryz.f191.body).getD .skip)
theorem XO {x y:V}{E:List (Nat×V)}{Q:Ex→List (Nat×V)→H→Prop}(I:Has E [(0,x),(1,y),(2,.jz),(5,.jz)])(J:∀E',Q .normal E' h): WP CB 16 qrR E h Q:=by
 refine WP.has I (zK 3 rfl (zo rfl (QZ (r:=.bj [.int .i64 0,.bool false]) rfl (by simp only [assertV,Tryz.underlying30,aax])) ?_))
 refine zk 14 rfl (zo rfl (af (r:=.bool false) rfl rfl (by simp only [binV,Tryz.underlying20]; rfl)) ?_)
 refine zv (zj rfl (WP.skip ?_))
 exact J _
theorem MY {kd tx pv nx:Nat}{data:List Nat}{aM:List cq}(hg:dD kd aM=true)(hk:kd<256)(hr:xY tx pv nx data aM)(s:Sat h (X::S))(hX:cT X (cU v (dK kd tx pv nx data aM))):
  ∃n r,toldParsed CB n [v] h=some r∧∃dt ch cs,r.1=.bj [.agg (gT kd tx pv nx dt ch),.bool true]∧Sat r.2 (X::aZ dt data::.arr 4 ch cs::dg cs aM::S):=by
 obtain ⟨N1,ex1,I,h1,E1,a1,k1,rfl,J,p3,PV,s1⟩:=XM (Q:=fun ex E' h'=>ex=.normal∧∃J p3,Has E' [(0,v),(2,.ptr J 0),(3,.ptr p3 0)]∧Sat h' (pt p3 (.cells 1 [.bool false] false)::pt J (.cells 6 (gT 0 0 0 0 .bw .bw) false)::X::S)) (v:=v) (E:=argE [v] 0) s ⟨rfl,aa⟩ (fun E' h' J p3 hE s=>⟨rfl,J,p3,hE,s⟩) _ (wq [v])
 have v2:I.v 2=.ptr J 0:=by simp only [Env.v,k1 _ _ PV.2.1]
 have v3:I.v 3=.ptr p3 0:=by simp only [Env.v,k1 _ _ PV.2.2.1]
 have k1':=k1.set 4 (.fn (.func 191) [] [I.v 2,I.v 3])
 obtain ⟨N2,og,MN,h2,E2,a2,k2,rfl,dt,ch,cs,Lf,s2⟩:=XN (Q:=fun ex E' h'=>ex=.normal∧∃dt ch cs,Has E' [(2,.ptr J 0),(3,.ptr p3 0)]∧Sat h' (pt p3 (.cells 1 [.bool true] false)::pt J (.cells 6 (gT kd tx pv nx dt ch) false)::X::aZ dt data::.arr 4 ch cs::dg cs aM::S)) hg hk hr hX s1 (E:=(4,.fn (.func 191) [] [I.v 2,I.v 3])::E1) ⟨PV.1,PV.2.1,PV.2.2.1,aa⟩ (fun E' h' dt ch cs hE s=>⟨rfl,dt,ch,cs,hE,s⟩) _ k1'
 have k3:=((wq [V.ptr J 0,V.ptr p3 0]).set 5 .jz).set 2 .jz
 obtain ⟨N3,ex3,acm,h3,E3,a3,k3',rfl,rfl⟩:=XO (h:=h2) (x:=.ptr J 0) (y:=.ptr p3 0) (Q:=fun ex E' h'=>ex=.normal∧h'=h2) (E:=(2,.jz)::(5,.jz)::argE [.ptr J 0,.ptr p3 0] 0) ⟨rfl,rfl,rfl,rfl,aa⟩ (fun E'=>⟨rfl,rfl⟩) _ k3
 have r1:mapO (resV Tryz.prog ⟨MN,9,h3⟩) Tryz.f173.results.toList=some [.agg (gT kd tx pv nx dt ch),.bool true]:=by
  refine AO (s:=⟨MN,9,h3⟩) k2 ?_
  have e1:resE Tryz.prog E2 h3 (.cell 2 48)=some (.agg (gT kd tx pv nx dt ch)):=by
   simp only [resE,Lf.1]
   exact s2.cA (k:=1) rfl nD gL
  have e2:resE Tryz.prog E2 h3 (.cell 3 4)=some (.bool true):=by
   simp only [resE,Lf.2.1]
   exact s2.ld (k:=0) rfl kX rfl
  show mapO (resE Tryz.prog E2 h3) [.cell 2 48,.cell 3 4]=_
  simp only [mapO,e1,e2]
 refine ⟨max N1 (max N2 N3),(.bj [.agg (gT kd tx pv nx dt ch),.bool true],h3),?_,dt,ch,cs,rfl,(s2.del 0).del 0⟩
 have b1:=fA (C:=CB) (show N1≤max N1 (max N2 N3) by omega) _ _ _ a1
 have b2:=fA (C:=CB) (show N2≤max N1 (max N2 N3) by omega) _ _ _ a2
 have b3:=fA (C:=CB) (show N3≤max N1 (max N2 N3) by omega) _ _ _ a3
 simp only [toldParsed]
 rw [show MW=prH from rfl,b1]
 simp only [v2,v3] at b2 ⊢
 rw [show Nat.blt 4 9=true from rfl,ag,show MX=prM from rfl,b2]
 dsimp only
 rw [show GN=qrR from rfl,b3]
 dsimp only
 rw [r1]
def GO (args:List V)(h:H)(r:V×H): Prop:=∃n,toldParsed CB n args h=some r
structure WR (told:cQ): Prop where
 w:W told
 pr:told 173=some (kD Tryz.prog 173 GO)
theorem PW {told:cQ}(hT:WR told){kd tx pv nx:Nat}{data:List Nat}{aM:List cq}(hg:dD kd aM=true)(hk:kd<256)(J:xY tx pv nx data aM)(s:Sat h (X::S))(hX:cT X (cU v (dK kd tx pv nx data aM))):
  Call ⟨Tryz.prog,told⟩ 173 [v] h fun r h'=>∃dt ch cs,r=.bj [.agg (gT kd tx pv nx dt ch),.bool true]∧Sat h' (X::aZ dt data::.arr 4 ch cs::dg cs aM::S):=by
 obtain ⟨n,r,e,hP⟩:=MY hg hk J s hX
 obtain ⟨r',h1,m,h2⟩:=zZ (P:=Tryz.prog) (f:=173) (iP:=GO) (args:=[v]) (r:=r) ⟨n,e⟩ (fun c w J hw=>Gy (C:=CB) rfl j3 ir e J hw)
 have e1:=vo (show n≤max n m by omega) e
 have I:=vo (show m≤max n m by omega) h2
 rw [e1] at I
 injection I with I
 subst I
 exact ⟨r.1,r.2,hG.told hT.pr IW rfl h1,hP⟩
end
theorem Ch {x y z:List Nat}{a b:Nat}(I:x.length=a)(J:a+y.length=b): ((x++(y++z)).take b).drop a=y:=by
 subst I; subst J
 rw [←bS,nO (by simp),dO (by simp),sY rfl]
theorem Zf (n:Nat)(b:List Nat): b.length<4294967296→sM n b<4294967296→leN (le 4 b.length)=b.length∧leN (le 4 (sM n b))=sM n b:=by
 intro I J
 rw [r7,r7]
 exact ⟨gY (by simpa using I),gY (by simpa using J)⟩
section
variable {told:cQ} {h:H} {S:List au} {X:au} {v:V} {l:List Nat}
theorem I0 (hT:WR told){kd tx pv nx n a:Nat}{data:List Nat}{aM:List cq}{pre rest bd:List Nat}(hg:dD kd aM=true)(hk:kd<256)(hr:xY tx pv nx data aM)(yL:bd=dK kd tx pv nx data aM)
 (sx:bd.length≤1048576)(ha:pre.length=a)(J:l=pre++(iq n bd++rest))(Ij:l.length≤1073741824)(s:Sat h (X::S))(I:cT X (cU v l)):
  Call ⟨Tryz.prog,told⟩ 133 [v,.int .i64 (a:Int),.int .u64 (n:Int)] h fun r h'=>∃dt ch cs,r=.bj [.agg (gT kd tx pv nx dt ch),.int .i64 ((a+8+bd.length:Nat):Int),.int .i64 0]∧Sat h' (X::aZ dt data::.arr 4 ch cs::dg cs aM::S):=by
 have hv:=s.aE (k:=0) rfl I
 have bF:∀x∈bd,x<256:=fun x hx=>hv.1 x (by rw [J,iq]; simp [hx])
 have abd:=HO (aK:=n) bF
 obtain ⟨q1,q2⟩:=Zf n bd (by omega) abd
 have hlen:l.length=a+8+bd.length+rest.length:=by rw [J]; simp only [bx,oT]; omega
 have m1:(l.take (a+4)).drop a=le 4 bd.length:=by
  rw [J,iq,bS,bS]
  exact Ch ha (by rw [cy])
 have m2:(l.take (a+8)).drop (a+4)=le 4 (sM n bd):=by
  rw [J,iq,bS,bS,←bS pre]
  exact Ch (by rw [bx,cy,ha]) (by rw [cy])
 have m3:(l.take (a+8+bd.length)).drop (a+8)=bd:=by
  rw [J,iq,bS,bS,←bS pre,←bS (pre++_)]
  exact Ch (by rw [bx,bx,cy,cy,ha]) rfl
 have hW:=hT.w
 have hvl:=a_ (P:=Tryz.prog) (h:=h) aG hv
 refine Call.of_wp (hW.free _ rfl) Tryz.func133 rfl rfl (zg rfl ?_)
 refine aA.b5 s rfl rfl rfl (bX qX) (fun p6 h s => ?_)
 refine zk 7 rfl (zh rfl (af rfl rfl aT) (by simp) ?_)
 refine zk 3 rfl (zo rfl (aU rfl rfl rfl (a_ aG (s.aE (k:=1) rfl I))) (zh rfl (af rfl rfl gv) (by simp; omega) ?_))
 refine zk 8 rfl (zo rfl (aU rfl rfl rfl (a_ aG (s.aE (k:=1) rfl I))) (zm rfl (zb rfl (by exact jE (aC (by omega) (by omega))) ?_)))
 refine zh rfl (af rfl rfl aT) (by simp; omega) ?_
 refine zk 8 rfl (zb rfl (by exact br (aC (by omega) (by omega))) ?_)
 refine zo rfl (cf (p:=some (.int .i64 (a:Int))) (q:=some (.int .i64 ((a:Int)+4))) (m:=none) (p':=some a) (q':=some (a+4)) (m':=none) rfl rfl rfl rfl (by rw [dm (by omega)]; rfl) (by rw [dm (by omega)]; congr 2 <;> omega) rfl (er (s.aE (k:=1) rfl I) (a:=a) (b:=a+4) (by omega) (by omega)).1) ?_
 refine zc rfl (n4 hW s (k:=1) rfl (lB I (a:=a) (b:=a+4) (by omega) (by omega)) (by rw [m1,cy]; decide)) ?_
 rintro r h' ⟨rfl,rfl⟩
 rw [m1,q1]
 refine zk 6 rfl (zh rfl (af rfl rfl gv) (by simp; omega) ?_)
 refine zk 2 rfl (zo rfl (cJ rfl (by exact iZ cE bD (aC (by omega) (by omega)))) ?_)
 refine zm rfl (zo rfl (aU rfl rfl rfl (a_ aG (s.aE (k:=1) rfl I))) (zm rfl (zb rfl (by exact jE (aC (by omega) (by omega))) ?_)))
 refine zb rfl (by exact jE (aC (by omega) (by omega))) ?_
 refine zh rfl (af rfl rfl gv) (by simp; omega) ?_
 refine zk 7 rfl (zb rfl (by exact br (aC (by omega) (by omega))) ?_)
 refine zm rfl (zo rfl (cJ rfl (by exact iZ cE bD (aC (by omega) (by omega)))) ?_)
 refine zb rfl (by exact br (aC (by omega) (by omega))) ?_
 refine zk 6 rfl (zb rfl (by exact br (aC (by omega) (by omega))) ?_)
 refine zm rfl (zo rfl (cf (p:=some (.int .i64 ((a:Int)+8))) (q:=some (.int .i64 ((a:Int)+8+(bd.length:Int)))) (m:=none) (p':=some (a+8)) (q':=some (a+8+bd.length)) (m':=none) rfl rfl rfl rfl (by rw [dm (by omega)]; congr 2 <;> omega) (by rw [dm (by omega)]; congr 2 <;> omega) rfl (er (s.aE (k:=1) rfl I) (a:=a+8) (b:=a+8+bd.length) (by omega) (by omega)).1) ?_)
 refine zk 7 rfl (zb rfl (by exact br (aC (by omega) (by omega))) ?_)
 refine zm rfl (zb rfl (by exact br (aC (by omega) (by omega))) ?_)
 refine zo rfl (cf (p:=some (.int .i64 ((a:Int)+4))) (q:=some (.int .i64 ((a:Int)+8))) (m:=none) (p':=some (a+4)) (q':=some (a+8)) (m':=none) rfl rfl rfl rfl (by rw [dm (by omega)]; congr 2 <;> omega) (by rw [dm (by omega)]; congr 2 <;> omega) rfl (er (s.aE (k:=1) rfl I) (a:=a+4) (b:=a+8) (by omega) (by omega)).1) ?_
 refine zc rfl (n4 hW s (k:=1) rfl (lB I (a:=a+4) (b:=a+8) (by omega) (by omega)) (by rw [m2,cy]; decide)) ?_
 rintro r h' ⟨rfl,rfl⟩
 rw [m2,q2]
 refine zo rfl (cJ rfl (by exact iZ cE Tryz.underlying231 (Us (by omega) (by omega)))) ?_
 refine zk 2 rfl (zc rfl (FJ hW s (k:=1) rfl (lB I (a:=a+8) (b:=a+8+bd.length) (by omega) (by omega)) (by rw [m3]; omega)) ?_)
 rintro r h ⟨rfl,s⟩
 rw [m3]
 refine zh rfl (af rfl rfl aN) (by simp) ?_
 refine zk 6 rfl ?_
 have hX':cT X (cU (slR v (a+8) (a+8+bd.length)) (dK kd tx pv nx data aM)):=by
  have:=lB I (a:=a+8) (b:=a+8+bd.length) (by omega) (by omega)
  rw [m3] at this
  rw [←yL]
  exact this
 refine zc rfl (PW hT hg hk hr (s.ae [1]) hX') ?_
 rintro r h ⟨dt,ch,cs,rfl,s⟩
 have jr:=(s.buf (k:=1) rfl).view.cells
 have jT:=s.jb (j:=2) rfl
 have fN:[V.int .i64 (kd:Int),V.int .u64 (tx:Int),V.int .u64 (pv:Int),V.int .u64 (nx:Int),dt,ch].all storable=true:=mP jr.2 jT.2.1
 refine zk 3 rfl (zS rfl (s.eH (j:=4) rfl gL rfl fN) ?_)
 rintro h s
 refine zk 6 rfl (zh rfl (eD rfl rfl) (rfl) (zk 5 rfl (zl rfl (s.cA (k:=4) rfl nD gL) (zm rfl (zS rfl (s.eH (j:=4) rfl gL rfl fN) ?_)))))
 rintro h s
 refine zk 3 rfl ?_
 refine WP.ret ⟨aa,_,xN rfl (s.cA (k:=4) rfl nD gL) rfl rfl,?_⟩
 exact ⟨dt,ch,cs,rfl,s.del 4⟩
end
section
variable {told:cQ} {h:H} {S:List au} {X:au} {v:V} {l:List Nat} {q p:Nat} {μ:Lg}
theorem PX (hT:WR told){kd tx pv nx n a:Nat}{data:List Nat}{aM:List cq}{pre rest bd:List Nat}(hg:dD kd aM=true)(hk:kd<256)(hr:xY tx pv nx data aM)(yL:bd=dK kd tx pv nx data aM)
 (sx:bd.length≤1048576)(ha:pre.length=a)(hl:μ.b=pre++(iq n bd++rest))(hn:n=μ.base+a)(hh:μ.hasB n=true)(I:μ.Ok)(s:Sat h (b8 q p μ::S)):
  Call ⟨Tryz.prog,told⟩ 84 [.ptr q 0,.int .u64 (n:Int)] h fun r h'=>∃dt ch cs,r=.bj [.agg (gT kd tx pv nx dt ch),.int .u64 ((n+8+bd.length:Nat):Int),.int .i64 0]∧Sat h' (b8 q p μ::aZ dt data::.arr 4 ch cs::dg cs aM::S):=by
 have hW:=hT.w
 have hlen:μ.b.length=a+8+bd.length+rest.length:=by rw [hl]; simp only [bx,oT]; omega
 have eZ:=I.size
 have hb:=I.len
 refine Call.of_wp (hW.free _ rfl) Io rfl rfl (zg rfl ?_)
 refine aA.b5 s rfl rfl rfl (bX qX) (fun p4 h s => ?_)
 dsimp only [V.cells,List.length_cons,List.length_nil,Nat.reduceAdd] at s
 refine zk 4 rfl (WP.block (zK 4 rfl ?_))
 have s:=s.ae [1]
 dsimp only [bringA,getA,aQ] at s
 refine zc rfl (A9 hW s I.size) ?_
 rintro v h' ⟨rfl,rfl⟩
 refine zh rfl (af rfl rfl eA) (by simp; omega) ?_
 refine zk 7 rfl (zc rfl (KS (n:=n) hW s I (by omega)) ?_)
 rintro v h' ⟨rfl,rfl⟩
 rw [hh]
 refine zo rfl (eD rfl rfl) (za rfl (zv (zj rfl (WP.skip (zw ?_)))))
 obtain ⟨bv,sv,s⟩:=fL.1 s
 have s0:=s
 have pR:=dz (s.buf (k:=1) rfl).view
 have J:((n:Int)-(μ.base:Int))=(a:Int):=by omega
 refine WP.drawn [ai,ai,ai,ai,ai,ai,ai,ai,ai,ai,ai,ai,ai,ai,ai,some (1,2),some (1,2),ai,ai,ai] rfl (by kernel_rfl) (by kernel_rfl) ?_
 refine zM rfl (zN rfl (zF rfl (eM _ _) (zL rfl (s.ld (k:=0) rfl bJ rfl) (zM rfl (zM rfl (zN rfl (zF rfl (l7 _ _) (zL rfl (s.ld (k:=0) rfl lZ rfl) (zO rfl (af (r:=.int .u64 (a:Int)) rfl rfl (by rw [←J]; exact jE (fD (by omega) (by omega)))) ?_)))))))))
 refine aB.op rfl rfl rfl (by simp only [isEff,bD]) (cJ rfl (by exact iZ cE bD (aC (by omega) (by omega)))) ?_
 refine zM rfl (aB.any rfl rfl rfl rfl (OpR.call rfl rfl rfl rfl (I0 (n:=n) (a:=a) hT hg hk hr yL sx ha hl (by omega) (s.ae [1]) (bg _ _))) ?_)
 rintro r h ⟨dt,ch,cs,rfl,s⟩
 have jr:=(s.buf (k:=1) rfl).view.cells
 have jT:=s.jb (j:=2) rfl
 have Ft:=dz (s.buf (k:=1) rfl).view
 have fN:[V.int .i64 (kd:Int),V.int .u64 (tx:Int),V.int .u64 (pv:Int),V.int .u64 (nx:Int),dt,ch].all storable=true:=mP jr.2 jT.2.1
 have s1:=s
 refine zM rfl (zO rfl (cO rfl rfl) (zO rfl (cO rfl rfl) (zO rfl (cO rfl rfl) (aB.i_ rfl rfl rfl (OpR.fO rfl rfl rfl (s.eH (j:=6) rfl gL rfl fN)) ?_))))
 rintro v h ⟨rfl,s⟩
 refine zA rfl (zA rfl ?_)
 refine aB.nil ⟨⟨aa,aa,aa,aa,aa,aa,aa,aa,aa,aa,aa,aa,aa,aa,aa,fun _ _=>.inr ⟨rfl,⟨_,cO rfl rfl⟩,bq _ rfl⟩,fun _ _=>.inr ⟨rfl,⟨_,cO rfl rfl⟩,bq _ rfl⟩,aa,aa,aa,aa⟩,?_⟩
 refine zK 4 rfl (zh rfl (af rfl rfl aN) (rfl) (zk 4 rfl ?_))
 have Ir:(V.agg [V.int .i64 (kd:Int),V.int .u64 (tx:Int),V.int .u64 (pv:Int),V.int .u64 (nx:Int),dt,ch]).beq (V.agg [V.int .i64 (kd:Int),V.int .u64 (tx:Int),V.int .u64 (pv:Int),V.int .u64 (nx:Int),dt,ch])=true:=Ba Ft jT.2.2
 have s0:=s
 refine WP.drawn [none,some (0,2),some (0,2),some (0,2),some (0,2),some (0,2),some (0,2),some (0,2),ai,ai,ai] rfl (by kernel_rfl) (by kernel_rfl) ?_
 refine zL rfl (s.cA (k:=6) rfl nD gL) (zM rfl (zN rfl (zF rfl (l7 _ _) (zL rfl (s.ld (k:=4) rfl lZ rfl) (zM rfl (aB.op rfl rfl rfl (by simp only [isEff,cE]) (cJ rfl (by exact iZ bD cE (fD (by omega) (by omega)))) ?_))))))
 refine zO rfl (af rfl rfl (by exact br (fD (by omega) (by omega)))) ?_
 refine aB.i_ rfl rfl rfl (OpR.fO rfl rfl rfl (s.eH (j:=6) rfl gL rfl fN)) ?_
 rintro v h ⟨rfl,s⟩
 dsimp only [zQ,aQ,bringA,gT,setA] at s
 refine zA rfl (zA rfl ?_)
 refine aB.nil ⟨⟨aa,fun _ _=>.inr ⟨rfl,⟨_,bz rfl⟩,bq _ rfl⟩,fun _ _=>.inr ⟨rfl,⟨_,oK rfl⟩,bq _ rfl⟩,fun _ _=>.inr ⟨rfl,⟨_,lY rfl (l7 _ _)⟩,bq _ rfl⟩,dW (.inr ⟨rfl,⟨_,bh rfl (s0.ld (k:=4) rfl lZ rfl)⟩,bq _ rfl⟩) (.inr ⟨rfl,⟨_,bh rfl (s.ld (k:=4) rfl lZ rfl)⟩,bq _ rfl⟩),fun _ _=>.inr ⟨rfl,⟨_,bz rfl⟩,bq _ rfl⟩,fun _ _=>.inr ⟨rfl,⟨_,cJ rfl (by exact iZ bD cE (fD (by omega) (by omega)))⟩,bq _ rfl⟩,fun _ _=>.inr ⟨rfl,⟨_,af rfl rfl (by exact br (fD (by omega) (by omega)))⟩,bq _ rfl⟩,aa,aa,aa,aa⟩,?_⟩
 refine WP.ret ⟨aa,_,xN rfl (s.cA (k:=6) rfl nD gL) rfl rfl,?_⟩
 refine ⟨dt,ch,cs,?_,fL.2 ⟨bv,sv,(s.ae [4,0,3,0,0,0]).del 6⟩⟩
 rw [show ((μ.base:Int)+((a+8+bd.length:Nat):Int))=((n+8+bd.length:Nat):Int) by omega]
 rfl
end
section
variable {told:cQ} {h:H} {S:List au} {X:au} {v w:V} {l m:List Nat} {a g p q r aH:Nat} {op:V} {data:List Nat} {now:List (Int×List Nat)}
end
structure W5 (told:cQ): Prop where
 w:W2 told
 pr:told 173=some (kD Tryz.prog 173 GO)
theorem W5.wr {told:cQ}(h:W5 told): WR told:=⟨h.w.w,h.pr⟩
theorem Sat.XP {P:Program}{h:H}{S:List au}{k j:Nat}{v:V}{cs:List V}{t e:TypeId}{i:Nat}(s:Sat h S)(hj:getA S j=some (xP k v cs))(hi:i*k+k≤cs.length)(hk:1≤k)(hu:P.underlying t=some (.slice e))(I:bH P e=some k)(ha:cm P e=some true):
  ∃id off,indexAddrV P t v (.int .i64 (i:Int))=some (.ptr id off)∧loadV P h e (.ptr id off)=some (.agg ((cs.drop (i*k)).take k))∧∀m c t',((cs.drop (i*k)).take k)[m]?=some c→cm P t'=some false→loadV P h t' (.ptr id (off+m))=some c:=by
 rcases s.rowAt hj with ⟨_,rfl⟩ | ⟨id,len,cap,rfl,hl,hg⟩
 ·simp at hi; omega
 ·refine ⟨id,i*k,?_,Ou ha I hg rfl hi,fun m c t' J ht=>Oc ht hg ?_⟩
  ·simp only [indexAddrV,hu,I,b9]
   have:i<len:=by
    have h4:i*k+k=(i+1)*k:=by rw [iw,vY]
    rw [h4,hl] at hi
    exact D7 (DS hi hk)
   rw [show (decide ((0:Int)≤(i:Int))&&decide ((i:Int)<(len:Int)))=true by simp; omega,ag]
   simp
  ·rw [jM] at J
   split at J
   ·rw [iU] at J; rw [fF]; exact J
   ·cases J
end Go.Proofs.YtefepnnfphdkpaaGreat.Am
