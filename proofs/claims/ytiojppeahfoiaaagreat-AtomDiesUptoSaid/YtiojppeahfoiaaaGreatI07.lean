/- AtomDies: a part of its proof; conditions: its statement's. -/
import Derived.Test.YtiojppeahfoiaaaGreatI05
import Derived.Test.YtiojppeahfoiaaaGreatI06
namespace Go.Proofs.YtiojppeahfoiaaaGreat.Am
open Go
variable {X:aS} {C:gy} {δ rq uZ:Dk} {R:Dk→Prop} {ε ε':bA} {Q:Ex→List (Nat×V)→H→Prop} {f:Fm} {cl:Go.Call} {h h':H} {n e:Int} {σ B0:Int→List Nat} {g g':Int→Option Nat} {nf:Int→Prop} {x:LD} {μ:Lg} {d:List (Int×(Nat×Bool))} {now fB:List (Int×List Nat)} {ps:List (List Nat)} {E:List (Nat×V)} {S:List aS} {m data b l rest mk eO:List Nat} {cs ds:List V} {tx pv nx N a i q j aM K B c k nh id c0 wv ba F':Nat} {o:Oper} {y:Operand} {π bC:Pl} {P:Program} {α:Type} {t:TypeId} {w cv z:V}
theorem uD {n m:Nat}(hle:n≤m){args:List V}{r:V×H}(I:toldParsed CB n args h=some r): toldParsed CB m args h=some r:=by
 unfold toldParsed at I ⊢
 have mono:=gz (C:=CB) hle
 split at I
 ·rename_i x
  split at I
  ·rename_i J h₁
   simp only[mono _ _ _ h₁]
   cases U:Nat.blt 4 J.ax with
   |false=>rw[U] at I;cases I
   |true =>
    rw[U,ak] at I
    rw[ak]
    split at I
    ·rename_i PD Yn
     simp only[mono _ _ _ Yn]
     split at I
     ·rename_i abC WV
      simp only[mono _ _ _ WV]
      exact I
     ·cases I
    ·cases I
  ·cases I
 ·cases I
section
variable {v:V}
noncomputable def Z0 : Code:=cC [0] ((Tryz.f191.body).getD .skip)
noncomputable def Z1 : Code:=cC [1,1,0] ((Tryz.f191.body).getD .skip)
theorem WX (s:Sat h S)(U:Has E [(0,v)])
 (hq:∀E' h' I J,Has E' [(0,v),(2,.ptr I 0),(3,.ptr J 0)]→Sat h' (pt J (.cells 1 [.bool false] false)::pt I (.cells 6 (iH 0 0 0 0 .bw .bw) false)::S)→Q .normal E' h'): WP CB 9 Z0 E h Q:=by
 refine WP.has U (zr rfl ?_)
 refine ay.cV s rfl rfl rfl (cK nT) (fun I h s => ?_)
 refine ay.cV s rfl rfl rfl (cK Zw) (fun J h s => ?_)
 exact zv (hq _ _ _ _ ⟨rfl,rfl,rfl,aa⟩ s)
theorem WY {kd:Nat}{aR:List ct}(hg:dY kd aR=true)(hk:kd<256)(hr:wV tx pv nx data aR)(hX:cX X (dc v (dF kd tx pv nx data aR))){I J:Nat}(s:Sat h (pt J (.cells 1 [.bool false] false)::pt I (.cells 6 (iH 0 0 0 0 .bw .bw) false)::X::S))
 (hE:Has E [(0,v),(2,.ptr I 0),(3,.ptr J 0)])
 (hq:∀E' h' dt ch cs,Has E' [(2,.ptr I 0),(3,.ptr J 0)]→Sat h' (pt J (.cells 1 [.bool true] false)::pt I (.cells 6 (iH kd tx pv nx dt ch) false)::X::bH dt data::.arr 4 ch cs::cZ cs aR::S)→Q .normal E' h'): WP CB 9 Z1 E h Q:=by
 obtain⟨pi,po,pc,rfl⟩:=ku (s.aL (k:=2) rfl hX) (by simp only[dF,bT,bI];omega)
 refine WP.has hE (zK 2 rfl (zo rfl (dn rfl (by rw[Yf];rfl)) ?_))
 refine ay.cV s rfl rfl rfl (gP rfl rfl) ?_
 intro p1 h s
 dsimp only[V.cells] at s
 refine zc rfl (Uz W.base hg hk hr ⟨_,hX,s.ae [0,2]⟩) ?_
 rintro r h ⟨dt,ch,cs,rfl,s⟩
 have U:=(s.buf (k:=1) rfl).view.cells
 have kg:=s.jW (j:=2) rfl
 refine zS rfl (s.iq (j:=5) rfl fE rfl (mO U.2 kg.2.1)) ?_
 rintro h s
 refine zS rfl (by exact s.dV (k:=4) rfl xw rfl (by decide) rfl rfl) (fun h s => ?_)
 exact zv (hq _ _ _ _ _ ⟨rfl,rfl,aa⟩ (s.ae [4,4,0,0,0,0]))
noncomputable def Z2 : Code:=cC [1] ((Tryz.f220.body).getD .skip)
theorem WZ {x y:V}(I:Has E [(0,x),(1,y),(2,.mq),(5,.mq)])(J:∀E',Q .normal E' h): WP CB 16 Z2 E h Q:=by
 refine WP.has I (zK 3 rfl (zo rfl (P9 (r:=.bD [.int .i64 0,.bool false]) rfl (by simp only[assertV,Tryz.underlying34,aas])) ?_))
 refine zk 14 rfl (zo rfl (aJ (r:=.bool false) rfl rfl (by simp only[binV,Tryz.underlying20];rfl)) ?_)
 refine zv (zj rfl (WP.skip ?_))
 exact J _
theorem Mg {kd:Nat}{aR:List ct}(hg:dY kd aR=true)(hk:kd<256)(hr:wV tx pv nx data aR)(s:Sat h (X::S))(hX:cX X (dc v (dF kd tx pv nx data aR))):
  ∃n r,toldParsed CB n [v] h=some r∧∃dt ch cs,r.1=.bD [.agg (iH kd tx pv nx dt ch),.bool true]∧Sat r.2 (X::bH dt data::.arr 4 ch cs::cZ cs aR::S):=by
 obtain⟨N1,ex1,I,h1,E1,a1,k1,rfl,J,U,OI,s1⟩:=WX (Q:=fun ex E' h'=>ex=.normal∧∃J U,Has E' [(0,v),(2,.ptr J 0),(3,.ptr U 0)]∧Sat h' (pt U (.cells 1 [.bool false] false)::pt J (.cells 6 (iH 0 0 0 0 .bw .bw) false)::X::S)) (v:=v) (E:=argE [v] 0) s ⟨rfl,aa⟩ (fun E' h' J U hE s=>⟨rfl,J,U,hE,s⟩) _ (Aa [v])
 have v2:I.v 2=.ptr J 0:=by simp only[Env.v,k1 _ _ OI.2.1]
 have v3:I.v 3=.ptr U 0:=by simp only[Env.v,k1 _ _ OI.2.2.1]
 have k1':=k1.set 4 (.fn (.func 220) [] [I.v 2,I.v 3])
 obtain⟨N2,R7,W6,h2,E2,a2,k2,rfl,dt,ch,cs,Z3,s2⟩:=WY (Q:=fun ex E' h'=>ex=.normal∧∃dt ch cs,Has E' [(2,.ptr J 0),(3,.ptr U 0)]∧Sat h' (pt U (.cells 1 [.bool true] false)::pt J (.cells 6 (iH kd tx pv nx dt ch) false)::X::bH dt data::.arr 4 ch cs::cZ cs aR::S)) hg hk hr hX s1 (E:=(4,.fn (.func 220) [] [I.v 2,I.v 3])::E1) ⟨OI.1,OI.2.1,OI.2.2.1,aa⟩ (fun E' h' dt ch cs hE s=>⟨rfl,dt,ch,cs,hE,s⟩) _ k1'
 have k3:=((Aa [V.ptr J 0,V.ptr U 0]).set 5 .mq).set 2 .mq
 obtain⟨N3,ex3,acm,h3,E3,a3,k3',rfl,rfl⟩:=WZ (h:=h2) (x:=.ptr J 0) (y:=.ptr U 0) (Q:=fun ex E' h'=>ex=.normal∧h'=h2) (E:=(2,.mq)::(5,.mq)::argE [.ptr J 0,.ptr U 0] 0) ⟨rfl,rfl,rfl,rfl,aa⟩ (fun E'=>⟨rfl,rfl⟩) _ k3
 have r1:mapO (resV Tryz.prog ⟨W6,9,h3⟩) Tryz.f191.results.toList=some [.agg (iH kd tx pv nx dt ch),.bool true]:=by
  refine DO (s:=⟨W6,9,h3⟩) k2 ?_
  have e1:resE Tryz.prog E2 h3 (.cell 2 104)=some (.agg (iH kd tx pv nx dt ch)):=by
   simp only[resE,Z3.1]
   exact s2.fN (k:=1) rfl kY fE
  have e2:resE Tryz.prog E2 h3 (.cell 3 4)=some (.bool true):=by
   simp only[resE,Z3.2.1]
   exact s2.ld (k:=0) rfl jQ rfl
  show mapO (resE Tryz.prog E2 h3) [.cell 2 104,.cell 3 4]=_
  simp only[mapO,e1,e2]
 refine⟨max N1 (max N2 N3),(.bD [.agg (iH kd tx pv nx dt ch),.bool true],h3),?_,dt,ch,cs,rfl,(s2.del 0).del 0⟩
 have b1:=gz (C:=CB) (show N1≤max N1 (max N2 N3) by omega) _ _ _ a1
 have b2:=gz (C:=CB) (show N2≤max N1 (max N2 N3) by omega) _ _ _ a2
 have b3:=gz (C:=CB) (show N3≤max N1 (max N2 N3) by omega) _ _ _ a3
 simp only[toldParsed]
 rw[show Me=Z0 from rfl,b1]
 simp only[v2,v3] at b2 ⊢
 rw[show Nat.blt 4 9=true from rfl,ak,show Mf=Z1 from rfl,b2]
 dsimp only
 rw[show F0=Z2 from rfl,b3]
 dsimp only
 rw[r1]
def CX (args:List V)(h:H)(r:V×H): Prop:=∃n,toldParsed CB n args h=some r
structure WR (told:dI): Prop where
 w:W told
 pr:told 191=some (mP Tryz.prog 191 CX)
theorem OJ {told:dI}(U:WR told){kd:Nat}{aR:List ct}(hg:dY kd aR=true)(hk:kd<256)(J:wV tx pv nx data aR)(s:Sat h (X::S))(hX:cX X (dc v (dF kd tx pv nx data aR))):
  Call ⟨Tryz.prog,told⟩ 191 [v] h fun r h'=>∃dt ch cs,r=.bD [.agg (iH kd tx pv nx dt ch),.bool true]∧Sat h' (X::bH dt data::.arr 4 ch cs::cZ cs aR::S):=by
 obtain⟨n,r,e,hP⟩:=Mg hg hk J s hX
 obtain⟨r',h1,m,h2⟩:=yE (P:=Tryz.prog) (f:=191) (ja:=CX) (args:=[v]) (r:=r) ⟨n,e⟩ (fun c w J hw=>FG (C:=CB) rfl ir fI e J hw)
 have e1:=uD (show n≤max n m by omega) e
 have I:=uD (show m≤max n m by omega) h2
 rw[e1] at I
 injection I with I
 subst I
 exact⟨r.1,r.2,ij.told U.pr HT rfl h1,hP⟩
end
structure DK (δ rq:Dk): Prop where
 dead:rq.dead=δ.dead
 aA:rq.aA=δ.aA
 ai:rq.ai=δ.ai
 now:rq.now=δ.now
theorem DK.refl (δ:Dk): DK δ δ:=⟨rfl,rfl,rfl,rfl⟩
theorem DK.at (h:DK δ rq)(n:Int): rq.at n=δ.at n:=by rw[Dk.at,Dk.at,h.now,h.ai]
structure DA (N:Nat)(δ:Dk): Prop where
 alive:δ.dead=false
 aA:δ.aA<0
 ai:δ.ai.length=N
 keys:∀k:Int,k∈δ.now.map (·.1)→0≤k∧k<N
 nodup:(δ.now.map (·.1)).Nodup
 good:∀n:Int,0≤n→n<N→dM (δ.at n)=0
theorem DA.of (h:DA N δ)(k:DK δ rq): DA N rq :=
 ⟨k.dead.trans h.alive,by rw[k.aA];exact h.aA,by rw[k.ai];exact h.ai,by rw[k.now];exact h.keys,by rw[k.now];exact h.nodup,fun n a b=>by rw[k.at];exact h.good n a b⟩
theorem gr (h:δ.aA<0): δ.cQ=δ:=by
 have:(if 0<δ.aA then δ.aA-1 else δ.aA)=δ.aA:=ah (by omega)
 rw[Dk.cQ,this]
theorem Br (h:DA N δ): δ.bQ=(0,{ δ with aH:=δ.log.length }):=by
 rw[Dk.bQ,ah (by rw[h.alive];decide),ah (by have:=h.aA;omega),gr h.aA]
theorem UA (h:DA N δ)(I:b.length≤64): δ.gC b=(0,{ δ with mark:=b }):=by
 rw[Dk.gC,ah (by rw[h.alive];decide),ah (by omega),ah (by have:=h.aA;omega),gr h.aA]
theorem Fa {n:Nat}(h:DA N x.2): (aK x n).1=0∧DK x.2 (aK x n).2.2:=by
 unfold aK
 split
 ·exact⟨rfl,DK.refl _⟩
 ·rw[Br h,ah (by simp)]
  exact⟨rfl,rfl,rfl,rfl,rfl⟩
theorem Rf (h:DA N δ)(h0:0≤n)(h1:n<N)(hb:b.length=512)(hc:dM b=0):
  (δ.a_ n b).1=0∧DA N (δ.a_ n b).2∧∀m,(δ.a_ n b).2.at m=if n=m then b else δ.at m:=by
 have e:δ.a_ n b=(0,δ.wr n b):=by
  rw[Dk.a_,ah (by rw[h.alive];decide),ah (not_not_intro ⟨h0,by rw[h.ai];exact h1,hb⟩),ah (by have:=h.aA;omega)]
 have nc:(δ.wr n b).now=cY n b δ.now:=rfl
 have ni:(δ.wr n b).ai=δ.ai:=rfl
 have I:∀m,(δ.wr n b).at m=if n=m then b else δ.at m:=fun m=>by
  grind[Dk.at,gH]
 have J:(δ.wr n b).aA=δ.aA:=by
  show δ.cQ.aA=δ.aA
  rw[gr h.aA]
 rw[e]
 refine⟨rfl,⟨h.alive,by rw[J];exact h.aA,h.ai,fun x U => ?_,?_,fun m a c => ?_⟩,I⟩
 ·rcases oP.1 U with rfl|U
  ·omega
  ·exact h.keys x U
 ·exact iO h.nodup
 ·rw[I]
  by_cases hm:n=m
  ·grind
  ·rw[ah hm];exact h.good m a c
theorem laidP_get : ∀ {l:List (Int×List Nat)} {m:List (Option (List Nat))} {n:Int} {N:Nat},m.length=N→(l.map (·.1)).Nodup→(∀k:Int,k∈l.map (·.1)→0≤k∧k<N)→0≤n→(laidP l m)[n.toNat]?=match lookL n l with
  |some b=>some (some b)
  |none=>m[n.toNat]?:=by
 intro l
 induction l with
 |nil=>intro m n N _ _ _ _;rfl
 |cons e l U =>
  intro m n N hm hd J hn
  have I:e.1∉l.map (·.1)∧(l.map (·.1)).Nodup:=List.nodup_cons.1 hd
  have h1:=J e.1 (by simp)
  rw[laidP,U (N:=N) (by grind) I.2 (fun x hx=>J x (by grind)) hn]
  grind[lookL,ff]
theorem UB (h:DA N δ): δ.cM.1=0∧DA N δ.cM.2∧∀m,0≤m→δ.cM.2.at m=δ.at m:=by
 have e:δ.cM=(0,δ.sync):=by rw[Dk.cM,ah (by rw[h.alive];decide),ah (by have:=h.aA;omega),gr h.aA]
 have I:∀m,0≤m→δ.sync.at m=δ.at m:=fun m hm=>by
  rw[Dk.at,Dk.at]
  have U:lookL m δ.sync.now=none:=rfl
  rw[show δ.sync.ai=laidP δ.now δ.ai from rfl,laidP_get h.ai h.nodup h.keys hm]
  cases hq:lookL m δ.now with
  |some b=>rfl
  |none=>rfl
 rw[e]
 refine⟨rfl,⟨h.alive,h.aA,by rw[show δ.sync.ai=laidP δ.now δ.ai from rfl,mB];exact h.ai,fun x J=>(by cases J),jz,fun m a c => ?_⟩,I⟩
 rw[I m a];exact h.good m a c
theorem Jt {b:Nat}(J:a+m.length≤l.length)(U:a+m.length≤b): (dJ l a m).drop b=l.drop b:=by
 have I:(l.take a).length=a:=by grind
 rw[dJ,←cE,zD,kL (by grind),eE,List.drop_drop,bT,I]
 congr 1;omega
theorem Mh (h:a+m.length≤l.length): (dJ l a m)[i]?=if a≤i∧i<a+m.length then m[i-a]? else l[i]?:=by
 grind[dJ]
theorem Bt {z:Nat}(I:l.drop 12=m.drop 12)(J:12≤a): dU l a z=dU m a z:=by
 have e:∀l:List Nat,(l.take (a+z)).drop a=((l.drop 12).drop (a-12)).take z:=fun l=>by
  simp_all[List.drop_take]
 rw[dU,dU,e,e,I]
theorem Ju (I:l.drop 12=m.drop 12){low:Nat}: ∀(n i:Nat) (t:List Bool),cellsL l low n i t=cellsL m low n i t:=by
 intro n
 induction n<;>grind[jH,Bt,mG,cellsL]
theorem CY (J:l.length=m.length)(I:l.drop 12=m.drop 12): bR l=bR m:=by
 have U:jZ l=jZ m:=Bt I (by omega)
 have e2:iK l=iK m:=Bt I (by omega)
 have e3:l.getD 13 0=m.getD 13 0:=by
  have:∀l:List Nat,l[13]?=(l.drop 12)[1]?:=fun l=>by simp
  grind
 grind[bR,Ju]
theorem qv : ∀(k n:Nat),leN (le k n)=n%256^k:=by
 intro k
 induction k<;>grind[le,leN,Nat.mod_mul]
theorem pW {n:Nat}(J:b.length=512): (cP b n).drop 12=b.drop 12∧(cP b n).length=512∧(cP b n).drop 4=(ov b n).drop 4∧dU (cP b n) 0 4=Cz 0 ((ov b n).drop 4)%4294967296:=by
 have h1:=wJ (n:=n) J
 have U:(cP b n).length=512:=by grind[cP,jm,dX]
 have I:(cP b n).drop 4=(ov b n).drop 4:=by rfl
 have h4:(ov b n).drop 12=b.drop 12:=by grind[ov,Jt,dX]
 refine⟨?_,U,I,?_⟩
 ·have:=kO (List.drop 8) I
  grind[List.drop_drop]
 ·have e:(cP b n).take 4=le 4 (Cz 0 ((ov b n).drop 4)):=by
   rfl
  grind[dU,qv]
theorem UC {n:Nat}(I:∀x∈b,x<256): ∀x∈ov b n,x<256:=yg I (LQ _ _)
theorem uE {n:Nat}(I:bR b=true)(hb:∀x∈b,x<256): dM (cP b n)=0∧bR (cP b n)=true∧iS (cP b n)=b.drop 12:=by
 have J:=fb I
 obtain⟨h1,h2,h3,h4⟩:=pW (n:=n) J
 have U:bR (cP b n)=true:=by grind[CY]
 have hz:bR (List.replicate 512 0)=false:=by decide +kernel
 grind[Bf,UC,dM,iS]
theorem Bu {x y z:List Nat}{b:Nat}(I:x.length=a)(J:a+y.length=b): ((x++(y++z)).take b).drop a=y:=by
 subst I;subst J
 rw[←cE,yV (by simp),jy (by simp),vk rfl]
theorem Yz (n:Nat)(b:List Nat): b.length<4294967296→sO n b<4294967296→leN (le 4 b.length)=b.length∧leN (le 4 (sO n b))=sO n b:=by
 intro I J
 rw[qv,qv]
 exact⟨nL (by simpa using I),nL (by simpa using J)⟩
section
variable {told:dI} {v:V}
theorem HW (hT:WR told){kd n:Nat}{aR:List ct}{pre bd:List Nat}(hg:dY kd aR=true)(hk:kd<256)(hr:wV tx pv nx data aR)(Et:bd=dF kd tx pv nx data aR)
 (xz:bd.length≤1048576)(ha:pre.length=a)(J:l=pre++(iD n bd++rest))(KF:l.length≤1073741824)(s:Sat h (X::S))(I:cX X (dc v l)):
  Call ⟨Tryz.prog,told⟩ 125 [v,.int .i64 (a:Int),.int .u64 (n:Int)] h fun r h'=>∃dt ch cs,r=.bD [.agg (iH kd tx pv nx dt ch),.int .i64 ((a+8+bd.length:Nat):Int),.int .i64 0]∧Sat h' (X::bH dt data::.arr 4 ch cs::cZ cs aR::S):=by
 have hv:=s.aL (k:=0) rfl I
 have b8:∀x∈bd,x<256:=fun x hx=>hv.1 x (by rw[J,iD];simp[hx])
 have U:=G5 (aM:=n) b8
 obtain⟨q1,q2⟩:=Yz n bd (by omega) U
 have hlen:l.length=a+8+bd.length+rest.length:=by rw[J];simp only[bT,qY];omega
 have m1:(l.take (a+4)).drop a=le 4 bd.length:=by
  rw[J,iD,cE,cE]
  exact Bu ha (by rw[dX])
 have m2:(l.take (a+8)).drop (a+4)=le 4 (sO n bd):=by
  rw[J,iD,cE,cE,←cE pre]
  exact Bu (by rw[bT,dX,ha]) (by rw[dX])
 have m3:(l.take (a+8+bd.length)).drop (a+8)=bd:=by
  rw[J,iD,cE,cE,←cE pre,←cE (pre++_)]
  exact Bu (by rw[bT,bT,dX,dX,ha]) rfl
 have hW:=hT.w
 have W7:=bk (P:=Tryz.prog) (h:=h) aW hv
 refine Call.of_wp (hW.free _ rfl) Tryz.func125 rfl rfl (zg rfl ?_)
 refine ay.cV s rfl rfl rfl (cK nT) (fun p6 h s => ?_)
 refine zk 7 rfl (zC rfl bq (by simp) ?_)
 refine zk 3 rfl (zo rfl (aY rfl rfl rfl (bk aW (s.aL (k:=1) rfl I))) (zC rfl dS (by simp;omega) ?_))
 refine zk 8 rfl (zo rfl (aY rfl rfl rfl (bk aW (s.aL (k:=1) rfl I))) (zm rfl (zb rfl (by exact jV (aV (by omega) (by omega))) ?_)))
 refine zC rfl bq (by simp;omega) ?_
 refine zk 8 rfl (zb rfl (by exact bP (aV (by omega) (by omega))) ?_)
 refine zo rfl (cG (p:=some (.int .i64 (a:Int))) (q:=some (.int .i64 ((a:Int)+4))) (m:=none) (p':=some a) (q':=some (a+4)) (m':=none) rfl rfl rfl rfl (by rw[gG (by omega)];rfl) (by rw[gG (by omega)];congr 2<;>omega) rfl (iM (s.aL (k:=1) rfl I) (a:=a) (b:=a+4) (by omega) (by omega)).1) ?_
 refine zc rfl (pS hW s (k:=1) rfl (mF I (a:=a) (b:=a+4) (by omega) (by omega)) (by rw[m1,dX];decide)) ?_
 rintro r h' ⟨rfl,rfl⟩
 rw[m1,q1]
 refine zk 6 rfl (zC rfl dS (by simp;omega) ?_)
 refine zk 2 rfl (zo rfl (cj rfl (by exact js cD bK (aV (by omega) (by omega)))) ?_)
 refine zm rfl (zo rfl (aY rfl rfl rfl (bk aW (s.aL (k:=1) rfl I))) (zm rfl (zb rfl (by exact jV (aV (by omega) (by omega))) ?_)))
 refine zb rfl (by exact jV (aV (by omega) (by omega))) ?_
 refine zC rfl dS (by simp;omega) ?_
 refine zk 7 rfl (zb rfl (by exact bP (aV (by omega) (by omega))) ?_)
 refine zm rfl (zo rfl (cj rfl (by exact js cD bK (aV (by omega) (by omega)))) ?_)
 refine zb rfl (by exact bP (aV (by omega) (by omega))) ?_
 refine zk 6 rfl (zb rfl (by exact bP (aV (by omega) (by omega))) ?_)
 refine zm rfl (zo rfl (cG (p:=some (.int .i64 ((a:Int)+8))) (q:=some (.int .i64 ((a:Int)+8+(bd.length:Int)))) (m:=none) (p':=some (a+8)) (q':=some (a+8+bd.length)) (m':=none) rfl rfl rfl rfl (by rw[gG (by omega)];congr 2<;>omega) (by rw[gG (by omega)];congr 2<;>omega) rfl (iM (s.aL (k:=1) rfl I) (a:=a+8) (b:=a+8+bd.length) (by omega) (by omega)).1) ?_)
 refine zk 7 rfl (zb rfl (by exact bP (aV (by omega) (by omega))) ?_)
 refine zm rfl (zb rfl (by exact bP (aV (by omega) (by omega))) ?_)
 refine zo rfl (cG (p:=some (.int .i64 ((a:Int)+4))) (q:=some (.int .i64 ((a:Int)+8))) (m:=none) (p':=some (a+4)) (q':=some (a+8)) (m':=none) rfl rfl rfl rfl (by rw[gG (by omega)];congr 2<;>omega) (by rw[gG (by omega)];congr 2<;>omega) rfl (iM (s.aL (k:=1) rfl I) (a:=a+4) (b:=a+8) (by omega) (by omega)).1) ?_
 refine zc rfl (pS hW s (k:=1) rfl (mF I (a:=a+4) (b:=a+8) (by omega) (by omega)) (by rw[m2,dX];decide)) ?_
 rintro r h' ⟨rfl,rfl⟩
 rw[m2,q2]
 refine zo rfl (cj rfl (by exact js cD Tryz.underlying285 (TL (by omega) (by omega)))) ?_
 refine zk 2 rfl (zc rfl (E0 hW s (k:=1) rfl (mF I (a:=a+8) (b:=a+8+bd.length) (by omega) (by omega)) (by rw[m3];omega)) ?_)
 rintro r h ⟨rfl,s⟩
 rw[m3]
 refine zC rfl aX (by simp) ?_
 refine zk 6 rfl ?_
 have hX':cX X (dc (slR v (a+8) (a+8+bd.length)) (dF kd tx pv nx data aR)):=by
  have:=mF I (a:=a+8) (b:=a+8+bd.length) (by omega) (by omega)
  rw[m3] at this
  rw[←Et]
  exact this
 refine zc rfl (OJ hT hg hk hr (s.ae [1]) hX') ?_
 rintro r h ⟨dt,ch,cs,rfl,s⟩
 have lE:=(s.buf (k:=1) rfl).view.cells
 have kg:=s.jW (j:=2) rfl
 have fM:[V.int .i64 (kd:Int),V.int .u64 (tx:Int),V.int .u64 (pv:Int),V.int .u64 (nx:Int),dt,ch].all storable=true:=mO lE.2 kg.2.1
 refine zk 3 rfl (zS rfl (s.iq (j:=4) rfl fE rfl fM) ?_)
 rintro h s
 refine zk 6 rfl (zh rfl (dQ rfl rfl) (rfl) (zk 5 rfl (zl rfl (s.fN (k:=4) rfl kY fE) (zm rfl (zS rfl (s.iq (j:=4) rfl fE rfl fM) ?_)))))
 rintro h s
 refine zk 3 rfl ?_
 refine WP.ret ⟨aa,_,wT rfl (s.fN (k:=4) rfl kY fE) rfl rfl,?_⟩
 exact⟨dt,ch,cs,rfl,s.del 4⟩
end
section
variable {told:dI} {v:V} {p:Nat}
theorem OK (hT:WR told){kd n:Nat}{aR:List ct}{pre bd:List Nat}(hg:dY kd aR=true)(hk:kd<256)(hr:wV tx pv nx data aR)(Et:bd=dF kd tx pv nx data aR)
 (xz:bd.length≤1048576)(ha:pre.length=a)(hl:μ.b=pre++(iD n bd++rest))(hn:n=μ.base+a)(hh:μ.hasB n=true)(I:μ.Ok)(s:Sat h (bh q p μ::S)):
  Call ⟨Tryz.prog,told⟩ 66 [.ptr q 0,.int .u64 (n:Int)] h fun r h'=>∃dt ch cs,r=.bD [.agg (iH kd tx pv nx dt ch),.int .u64 ((n+8+bd.length:Nat):Int),.int .i64 0]∧Sat h' (bh q p μ::bH dt data::.arr 4 ch cs::cZ cs aR::S):=by
 have hW:=hT.w
 have hlen:μ.b.length=a+8+bd.length+rest.length:=by rw[hl];simp only[bT,qY];omega
 have gW:=I.size
 have hb:=I.len
 refine Call.of_wp (hW.free _ rfl) Ho rfl rfl (zg rfl ?_)
 refine ay.cV s rfl rfl rfl (cK nT) (fun p4 h s => ?_)
 dsimp only[V.cells,List.length_cons,List.length_nil,Nat.reduceAdd] at s
 refine zk 4 rfl (WP.block (zK 4 rfl ?_))
 have s:=s.ae [1]
 dsimp only[bringA,getA,aQ] at s
 refine zc rfl (nZ hW s I.size) ?_
 rintro v h' ⟨rfl,rfl⟩
 refine zC rfl bZ (by simp;omega) ?_
 refine zk 7 rfl (zc rfl (Aq (n:=n) hW s I (by omega)) ?_)
 rintro v h' ⟨rfl,rfl⟩
 rw[hh]
 refine zo rfl (dQ rfl rfl) (za rfl (zv (zj rfl (WP.skip (zw ?_)))))
 obtain⟨bv,sv,s⟩:=dw.1 s
 have s0:=s
 have Gi:=dr (s.buf (k:=1) rfl).view
 have J:((n:Int)-(μ.base:Int))=(a:Int):=by omega
 refine WP.drawn [af,af,af,af,af,af,af,af,af,af,af,af,af,af,af,some (1,2),some (1,2),af,af,af] rfl (by kernel_rfl) (by kernel_rfl) ?_
 refine zM rfl (zN rfl (zF rfl (eH _ _) (zL rfl (s.ld (k:=0) rfl bL rfl) (zM rfl (zM rfl (zN rfl (zF rfl (gQ _ _) (zL rfl (s.ld (k:=0) rfl fA rfl) (zO rfl (aJ (r:=.int .u64 (a:Int)) rfl rfl (by rw[←J];exact jV (fe (by omega) (by omega)))) ?_)))))))))
 refine au.op rfl rfl rfl (by simp only[isEff,bK]) (cj rfl (by exact js cD bK (aV (by omega) (by omega)))) ?_
 refine zM rfl (au.any rfl rfl rfl rfl (OpR.call rfl rfl rfl rfl (HW (n:=n) (a:=a) hT hg hk hr Et xz ha hl (by omega) (s.ae [1]) (bJ _ _))) ?_)
 rintro r h ⟨dt,ch,cs,rfl,s⟩
 have lE:=(s.buf (k:=1) rfl).view.cells
 have U:=s.jW (j:=2) rfl
 have AL:=dr (s.buf (k:=1) rfl).view
 have fM:[V.int .i64 (kd:Int),V.int .u64 (tx:Int),V.int .u64 (pv:Int),V.int .u64 (nx:Int),dt,ch].all storable=true:=mO lE.2 U.2.1
 have s1:=s
 refine zM rfl (zO rfl (bN rfl rfl) (zO rfl (bN rfl rfl) (zO rfl (bN rfl rfl) (au.ik rfl rfl rfl (OpR.dg rfl rfl rfl (s.iq (j:=6) rfl fE rfl fM)) ?_))))
 rintro v h ⟨rfl,s⟩
 refine zA rfl (zA rfl ?_)
 refine au.nil ⟨⟨aa,aa,aa,aa,aa,aa,aa,aa,aa,aa,aa,aa,aa,aa,aa,fun _ _=>.inr ⟨rfl,⟨_,bN rfl rfl⟩,aU _ rfl⟩,fun _ _=>.inr ⟨rfl,⟨_,bN rfl rfl⟩,aU _ rfl⟩,aa,aa,aa,aa⟩,?_⟩
 refine zK 4 rfl (zC rfl aX (rfl) (zk 4 rfl ?_))
 have HH:(V.agg [V.int .i64 (kd:Int),V.int .u64 (tx:Int),V.int .u64 (pv:Int),V.int .u64 (nx:Int),dt,ch]).beq (V.agg [V.int .i64 (kd:Int),V.int .u64 (tx:Int),V.int .u64 (pv:Int),V.int .u64 (nx:Int),dt,ch])=true:=Ar AL U.2.2
 have s0:=s
 refine WP.drawn [none,some (0,2),some (0,2),some (0,2),some (0,2),some (0,2),some (0,2),some (0,2),af,af,af] rfl (by kernel_rfl) (by kernel_rfl) ?_
 refine zL rfl (s.fN (k:=6) rfl kY fE) (zM rfl (zN rfl (zF rfl (gQ _ _) (zL rfl (s.ld (k:=4) rfl fA rfl) (zM rfl (au.op rfl rfl rfl (by simp only[isEff,cD]) (cj rfl (by exact js bK cD (fe (by omega) (by omega)))) ?_))))))
 refine zO rfl (aJ rfl rfl (by exact bP (fe (by omega) (by omega)))) ?_
 refine au.ik rfl rfl rfl (OpR.dg rfl rfl rfl (s.iq (j:=6) rfl fE rfl fM)) ?_
 rintro v h ⟨rfl,s⟩
 dsimp only[yx,aQ,bringA,iH,setA] at s
 refine zA rfl (zA rfl ?_)
 refine au.nil ⟨⟨aa,fun _ _=>.inr ⟨rfl,⟨_,bj rfl⟩,aU _ rfl⟩,fun _ _=>.inr ⟨rfl,⟨_,jU rfl⟩,aU _ rfl⟩,fun _ _=>.inr ⟨rfl,⟨_,jg rfl (gQ _ _)⟩,aU _ rfl⟩,dR (.inr ⟨rfl,⟨_,aT rfl (s0.ld (k:=4) rfl fA rfl)⟩,aU _ rfl⟩) (.inr ⟨rfl,⟨_,aT rfl (s.ld (k:=4) rfl fA rfl)⟩,aU _ rfl⟩),fun _ _=>.inr ⟨rfl,⟨_,bj rfl⟩,aU _ rfl⟩,fun _ _=>.inr ⟨rfl,⟨_,cj rfl (by exact js bK cD (fe (by omega) (by omega)))⟩,aU _ rfl⟩,fun _ _=>.inr ⟨rfl,⟨_,aJ rfl rfl (by exact bP (fe (by omega) (by omega)))⟩,aU _ rfl⟩,aa,aa,aa,aa⟩,?_⟩
 refine WP.ret ⟨aa,_,wT rfl (s.fN (k:=6) rfl kY fE) rfl rfl,?_⟩
 refine⟨dt,ch,cs,?_,dw.2 ⟨bv,sv,(s.ae [4,0,3,0,0,0]).del 6⟩⟩
 rw[show((μ.base:Int)+((a+8+bd.length:Nat):Int))=((n+8+bd.length:Nat):Int) by omega]
 rfl
end
def pgA (ε:bA)(n:Int): List Nat:=match lookL n ε.1.aC with
 |some i=>match ε.1.aj[i.toNat]? with
  |some f=>f.b
  |none=>ε.2.2.at n
 |none=>ε.2.2.at n
structure Rg (N:Nat)(δ:Dk)(aC:List (Int×Int))(i:Nat)(f:Fm): Prop where
 lt:f.aO<N
 here:lookL f.aO aC=some (i:Int)
 aq:dM f.b=0
 same:f.changed=false→f.b=δ.at f.aO
 lD:f.changed=true→bR f.b=true
structure EC (N:Nat)(ε:bA): Prop where
 dk:DA N ε.2.2
 nodup:(ε.1.aC.map (·.1)).Nodup
 jL:∀(n i:Int),lookL n ε.1.aC=some i→0≤n∧∃(j:Nat) (f:Fm),i=j∧ε.1.aj[j]?=some f∧f.aO=n
 back:∀(i:Nat) (f:Fm),ε.1.aj[i]?=some f→f.aO<0∨Rg N ε.2.2 ε.1.aC i f
 ru:∀k:Int,k∈ε.1.aN.map (·.1)→0≤k∧k<N
 yM:(ε.1.aN.map (·.1)).Nodup
theorem oU (h:lookL n ε.1.aC=some (j:Int))(I:ε.1.aj[j]?=some f): pgA ε n=f.b:=by
 grind[pgA]
theorem nF (h:lookL n ε.1.aC=none): pgA ε n=ε.2.2.at n:=by simp only[pgA,h]
theorem EC.cases (h:EC N ε)(n:Int): (∃(j:Nat) (f:Fm),lookL n ε.1.aC=some (j:Int)∧ε.1.aj[j]?=some f∧f.aO=n∧0≤n∧Rg N ε.2.2 ε.1.aC j f∧pgA ε n=f.b)∨(lookL n ε.1.aC=none∧pgA ε n=ε.2.2.at n):=by
 cases J:lookL n ε.1.aC with
 |none=>grind[nF]
 |some i =>
  obtain⟨h0,j,f,rfl,I,hp⟩:=h.jL n i J
  refine .inl ⟨j,f,rfl,I,hp,h0,?_,oU J I⟩
  rcases h.back j f I with U|U
  ·omega
  ·exact U
theorem EC.aq (h:EC N ε)(I:0≤n)(J:n<N): dM (pgA ε n)=0:=by
 rcases h.cases n with⟨j,f,_,_,_,_,ho,e⟩|⟨_,e⟩
 ·rw[e];exact ho.aq
 ·rw[e];exact h.dk.good n I J
theorem pX {m:List Fm}{g x:Fm}(I:m[i]?=some f)(J:(m.set i g)[j]?=some x): (i=j∧x=g)∨(i≠j∧m[j]?=some x):=by
 grind
theorem EC.set {g:Fm}{y:Lg}(h:EC N ε)(hf:ε.1.aj[i]?=some f)(hp:g.aO=f.aO)(U:DA N δ)
 (hg:g.aO<0∨Rg N δ ε.1.aC i g)(ho:∀(j:Nat) (x:Fm),i≠j→ε.1.aj[j]?=some x→0≤x.aO→δ.at x.aO=ε.2.2.at x.aO)(hd:∀k:Int,k∈d.map (·.1)→0≤k∧k<N)(hdn:(d.map (·.1)).Nodup):
  EC N ({ ε.1 with aj:=ε.1.aj.set i g,aN:=d },(y,δ)):=by
 refine⟨U,h.nodup,fun n k hk => ?_,fun j x J => ?_,hd,hdn⟩
 ·obtain⟨h0,j,x,rfl,J,HX⟩:=h.jL n k hk<;>grind
 ·rcases pX hf J with⟨rfl,rfl⟩|⟨sy,J⟩
  ·exact hg
  ·rcases h.back j x J with I|I
   ·omega
   ·by_cases h2:x.aO<0
    ·omega
    ·refine .inr ⟨I.lt,I.here,I.aq,fun hc => ?_,I.lD⟩
     rw[ho j x sy J (by omega)];exact I.same hc
theorem KG {g:Fm}(I:ε.1.aj[i]?=some f)(J:g.b=f.b)(U:lookL n ε.1.aC=none→x.2.at n=ε.2.2.at n)(hy:∀j:Int,lookL n ε.1.aC=some j→∃f',ε.1.aj[j.toNat]?=some f'):
  pgA ({ ε.1 with aj:=ε.1.aj.set i g,aN:=d },x) n=pgA ε n:=by
 unfold pgA
 grind
theorem EC.there (h:EC N ε): ∀j:Int,lookL n ε.1.aC=some j→∃f',ε.1.aj[j.toNat]?=some f':=fun j I=>by
 obtain⟨_,k,f,rfl,J,_⟩:=h.jL n j I<;>grind
theorem EC.out (h:EC N ε)(I:ε.1.aj[i]?=some f):
  (outF ε i).1=0∧EC N (outF ε i).2∧(∀n,pgA (outF ε i).2 n=pgA ε n)∧(outF ε i).2.1.aC=ε.1.aC∧∃g,(outF ε i).2.1.aj[i]?=some g∧g.aO=f.aO∧(0≤g.aO→g.changed=false):=by
 have hi:=(List.getElem?_eq_some_iff.1 I).1
 unfold outF
 rw[I]
 simp only
 by_cases hc:f.aO<0∨f.changed=false
 ·grind
 ·rw[ah hc]
  have J:0≤f.aO:=by omega
  have uf:f.changed=true:=by grind
  have ho:=(h.back i f I).resolve_left (by omega)
  have hg:=ho.lD uf
  rw[ah (by grind)]
  obtain⟨e1,k1⟩:=Fa (x:=ε.2) (n:=dU f.b 4 8) h.dk
  rw[ah (by omega)]
  obtain⟨e2,k2,k3⟩:=Rf (h.dk.of k1) J ho.lt (fb hg) ho.aq
  rw[ah (by omega)]
  have U:∀m,f.aO≠m→((aK ε.2 (dU f.b 4 8)).2.2.a_ f.aO f.b).2.at m=ε.2.2.at m:=fun m hm=>by rw[k3,ah hm,k1.at]
  refine⟨rfl,h.set I rfl k2 (.inr ⟨ho.lt,ho.here,ho.aq,fun _ => ?_,fun hq=>(by cases hq)⟩) (fun j x sy hx h0=>U _ fun OL => ?_) (fun k hk => ?_) (iO h.yM),fun n => ?_,rfl,_,kM hi,rfl,fun _=>rfl⟩
  ·grind
  ·rcases h.back j x hx with h1|h1
   ·omega
   ·have:=h1.here
    rw[←OL,ho.here] at this
    grind
  ·rcases oP.1 hk with rfl|hk
   ·exact⟨J,ho.lt⟩
   ·exact h.ru k hk
  ·exact KG I (by rfl) (fun hn=>U n fun e=>by rw[←e,ho.here] at hn;cases hn) h.there
theorem fK.back (I:fK π bC){x:Fm}(J:bC.aj[i]?=some x): ∃f t,π.aj[i]?=some f∧x={ f with fQ:=t }:=by
 have hi:=(List.getElem?_eq_some_iff.1 J).1
 rw[I.len] at hi
 have U:π.aj[i]?=some (π.aj[i]'hi):=bn _
 obtain⟨t,ht⟩:=I.get i _ U<;>grind
theorem EC.rj (h:EC N ε)(I:fK ε.1 bC): EC N (bC,ε.2)∧∀n,pgA (bC,ε.2) n=pgA ε n:=by
 refine⟨⟨h.dk,by rw[I.aC];exact h.nodup,fun n i hi => ?_,fun i x hx => ?_,by rw[I.aN];exact h.ru,by rw[I.aN];exact h.yM⟩,fun n => ?_⟩
 ·rw[I.aC] at hi
  obtain⟨h0,j,f,rfl,U,hp⟩:=h.jL n i hi
  obtain⟨t,ht⟩:=I.get j f U
  exact⟨h0,j,_,rfl,ht,hp⟩
 ·obtain⟨f,t,U,rfl⟩:=I.back hx
  rcases h.back i f U with J|J
  ·grind
  ·exact .inr ⟨J.lt,by rw[I.aC];exact J.here,J.aq,J.same,J.lD⟩
 ·unfold pgA
  simp only[I.aC]
  cases hl:lookL n ε.1.aC with
  |none=>rfl
  |some i =>
   obtain⟨h0,j,f,rfl,U,hp⟩:=h.jL n i hl
   obtain⟨t,ht⟩:=I.get j f U<;>grind
theorem EC.dN {g:Fm}(h:EC N ε)(hg:ε.1.aj[i]?=some g)(hp:g.aO=f.aO)(hc:0≤g.aO→g.changed=false): EC N (dN ε.1 i f,ε.2)∧(∀n,pgA (dN ε.1 i f,ε.2) n=pgA ε n) ∧
  (dN ε.1 i f).aj[i]?=some fq∧∀n,lookL n ε.1.aC=none→lookL n (dN ε.1 i f).aC=none:=by
 have hi:=(List.getElem?_eq_some_iff.1 hg).1
 have J:(ε.1.aj.set i fq)[i]?=some fq:=kM hi
 have OM:∀n,lookL n (Am.dN ε.1 i f).aC=if 0≤f.aO∧f.aO=n then none else lookL n ε.1.aC:=fun n=>by
  rw[Am.dN]
  by_cases I:f.aO<0
  ·grind
  ·rw[ah I,ES h.nodup]
   simp_all
 refine⟨⟨h.dk,?_,fun n k hk => ?_,fun j x U => ?_,h.ru,h.yM⟩,fun n => ?_,J,fun n hn => ?_⟩
 ·rw[Am.dN]
  by_cases I:f.aO<0
  ·rw[aE I];exact h.nodup
  ·rw[ah I];exact wG h.nodup
 ·rw[OM] at hk
  split at hk
  ·cases hk
  ·obtain⟨I,j,x,rfl,U,HX⟩:=h.jL n k hk
   refine⟨I,j,x,rfl,?_,HX⟩
   show(ε.1.aj.set i fq)[j]?=some x
   grind
 ·rcases pX hg U with⟨rfl,rfl⟩|⟨sy,U⟩
  ·exact .inl (by decide)
  ·rcases h.back j x U with h1|h1
   ·omega
   ·by_cases hx0:x.aO<0
    ·omega
    refine .inr ⟨h1.lt,?_,h1.aq,h1.same,h1.lD⟩
    rw[OM,ah]
    ·exact h1.here
    ·rintro⟨I,OL⟩
     rcases h.back i g hg with h2|h2
     ·omega
     ·have e:=h2.here
      rw[hp,OL,h1.here] at e
      grind
 ·rcases h.cases n with⟨j,x,hl,U,HX,I,ho,e⟩|⟨hl,e⟩
  ·rw[e]
   by_cases OL:f.aO=n
   ·have sy:i=j:=by
     rcases h.back i g hg with h2|h2
     ·omega
     ·have e:=h2.here
      grind
    subst sy
    rw[hg] at U
    have:=cA U
    subst this
    rw[nF (by grind)]
    rw[ho.same (hc (by omega)),hp,OL]
   ·refine oU (j:=j) (by grind) ?_
    show(ε.1.aj.set i fq)[j]?=some x
    grind
  grind[nF]
 ·grind
theorem EC.jw {e:Fm}(h:EC N ε)(he:ε.1.aj[i]?=some e)(hp:e.aO<0)(hl:lookL n ε.1.aC=none)(h0:0≤n)(h1:n<N): EC N (jw ε.1 i n (ε.2.2.at n),ε.2)∧∀m,pgA (jw ε.1 i n (ε.2.2.at n),ε.2) m=pgA ε m:=by
 have hi:=(List.getElem?_eq_some_iff.1 he).1
 have I:(ε.1.aj.set i ⟨n,ε.2.2.at n,1,true,false⟩)[i]?=some ⟨n,ε.2.2.at n,1,true,false⟩:=kM hi
 have OM:∀m,lookL m (Am.jw ε.1 i n (ε.2.2.at n)).aC=if n=m then some (i:Int) else lookL m ε.1.aC:=fun m=>gH _
 refine⟨⟨h.dk,iO h.nodup,fun m k hk => ?_,fun j x hx => ?_,h.ru,h.yM⟩,fun m => ?_⟩
 ·rw[OM] at hk
  split at hk
  ·rename_i J
   have:=cA hk
   subst this
   subst J
   exact⟨h0,i,_,rfl,I,rfl⟩
  ·obtain⟨h0,j,x,rfl,hx,HX⟩:=h.jL m k hk
   refine⟨h0,j,x,rfl,?_,HX⟩
   show(ε.1.aj.set i _)[j]?=some x
   grind
 ·rcases pX he hx with⟨rfl,rfl⟩|⟨sy,hx⟩
  ·exact .inr ⟨h1,by grind,h.dk.good n h0 h1,fun _=>rfl,fun hq=>(by cases hq)⟩
  ·rcases h.back j x hx with U|U
   ·omega
   ·refine .inr ⟨U.lt,?_,U.aq,U.same,U.lD⟩
    rw[OM,ah]
    ·exact U.here
    ·rintro rfl
     rw[U.here] at hl;cases hl
 ·by_cases J:n=m
  ·subst J
   rw[oU (j:=i) (by grind) I,nF hl]
  ·rcases h.cases m with⟨j,x,i_,hx,HX,_,ho,e2⟩|⟨i_,e2⟩
   ·rw[e2]
    refine oU (j:=j) (by grind) ?_
    show(ε.1.aj.set i _)[j]?=some x
    grind
   grind[nF]
theorem EC.frame {g:Fm}(h:EC N ε)(hf:ε.1.aj[i]?=some f)(J:g.aO=f.aO)(U:g.b=f.b)(hc:g.changed=f.changed): EC N ({ ε.1 with aj:=ε.1.aj.set i g },ε.2)∧∀n,pgA ({ ε.1 with aj:=ε.1.aj.set i g },ε.2) n=pgA ε n:=by
 refine⟨h.set (y:=ε.2.1) (δ:=ε.2.2) hf J h.dk ?_ (fun _ _ _ _ _=>rfl) h.ru h.yM,fun n=>KG hf U (fun _=>rfl) h.there⟩
 rcases h.back i f hf with I|I
 ·omega
 ·exact .inr ⟨by rw[J];exact I.lt,by rw[J];exact I.here,by rw[U];exact I.aq,by rw[J,U,hc];exact I.same,by rw[U,hc];exact I.lD⟩
theorem eY.ec (hr:eY ε n e b ε')(h:EC N ε): EC N ε'∧(∀m,pgA ε' m=pgA ε m)∧(0≤n→n<N→e=0∧b=pgA ε n)∧(¬(0≤n∧n<N)→e=1∧ε'=ε):=by
 have ni:=h.dk.ai
 cases hr with
 |arg I=>grind
 |xB i f h1 J hl U =>
  obtain⟨k1,k2⟩:=h.frame (g:={ f with fQ:=true,pins:=f.pins+1 }) U rfl rfl rfl<;>grind[oU]
 |out bC i f h1 J hl I U hh he=>exact absurd ((h.rj I).1.out U).1 he
 |read bC i f h1 J hl I U hh he hr =>
  obtain⟨k1,k2,k3,k4,g,k5,k6,k7⟩:=(h.rj I).1.out U
  refine absurd ?_ hr
  rw[ni] at J
  rw[Dk.lH,ah (by rw[k2.dk.alive];decide),ah (by rw[k2.dk.ai];exact not_not_intro ⟨h1,J⟩)]
 |bad bC i f h1 J hl I U hh he hr hc =>
  obtain⟨k1,k2,k3,k4,g,k5,k6,k7⟩:=(h.rj I).1.out U
  rw[ni] at J
  exact absurd (k2.dk.good n h1 J) hc
 |load bC i f h1 J hl I U hh he hr hc =>
  obtain⟨n1,n2⟩:=h.rj I
  obtain⟨k1,k2,k3,k4,g,k5,k6,k7⟩:=n1.out U
  rw[ni] at J
  obtain⟨f1,f2,f3,f4⟩:=k2.dN k5 k6 k7
  have i_:lookL n (outF (bC,ε.2) i).2.1.aC=none:=by rw[k4];rw[I.aC];exact hl
  obtain⟨l1,l2⟩:=f1.jw f3 (by decide) (f4 n i_) h1 J
  exact⟨l1,fun m=>by grind,fun _ _=>⟨rfl,by grind[nF]⟩,fun I=>absurd ⟨h1,J⟩ I⟩
theorem ON (h:EC N (π,x)): EC N ((unpinF π n).2,x)∧∀m,pgA ((unpinF π n).2,x) m=pgA (π,x) m:=by
 unfold unpinF
 split
 ·grind
 ·split
  ·grind
  ·rename_i i hi f I
   exact h.frame (g:={ f with pins:=f.pins-1 }) I rfl rfl rfl
theorem kD.ec (I:kD ε n e b ε')(h:EC N ε)(U:∀f∈ε.1.aj,f.pins=0): EC N ε'∧(∀m,pgA ε' m=pgA ε m)∧(0≤n→n<N→e=0∧b=pgA ε n)∧(¬(0≤n∧n<N)→e=1∧ε'=ε):=by
 cases I with
 |dead J=>rw[h.dk.alive] at J;cases J
 |ja e b ε' J I he =>
  obtain⟨k1,k2,k3,k4⟩:=I.ec h<;>grind
 |rH b ε' J I he=>exact absurd (I.Bp U).1 he
 |read b ε' J I he =>
  obtain⟨k1,k2,k3,k4⟩:=I.ec h<;>grind[ON]
theorem GRd.ec (I:GRd ε now false n e b ε')(h:EC N ε)(J:∀f∈ε.1.aj,f.pins=0): EC N ε'∧(∀m,pgA ε' m=pgA ε m) ∧
  (0≤n→n<N→e=0∧b=(match lookL n now with|some b=>b|none=>pgA ε n))∧(¬(0≤n∧n<N)→e=1):=by
 have U:=h.dk.ai
 cases I with
 |arg hn=>grind
 |bV _ _ ho=>cases ho
 |own b h1 h2 _ hl=>grind
 |read e b ε' h1 h2 _ hl I =>
  obtain⟨k1,k2,k3,k4⟩:=I.ec h J<;>grind
theorem uF : ∀(N:Nat) (l:List Int),l.Nodup→(∀n∈l,0≤n∧n<N)→l.length≤N:=by
 intro N
 induction N with
 |zero =>
  intro l _ h
  cases l<;>grind[List.mem_cons_self]
 |succ N I =>
  intro l J h
  have U:=I (l.erase (N:Int)) (J.erase _) fun n hn=>by
   grind
  grind
structure NW (N:Nat)(now:List (Int×List Nat)): Prop where
 good:∀e∈now,bR e.2=true∧∀x∈e.2,x<256
 keys:∀k:Int,k∈now.map (·.1)→0≤k∧k<N
 nodup:(now.map (·.1)).Nodup
theorem NW.nil (N:Nat): NW N []:=⟨fun e h=>(by cases h),fun k h=>(by cases h),jz⟩
theorem wX {a:α}: ∀ {l:List (Int×α)} {e:Int×α},e∈cY n a l→e=(n,a)∨e∈l:=by
 intro l
 induction l<;>grind[cY]
theorem NW.put (h:NW N now)(J:0≤n)(U:n<N)(hg:bR b=true)(hb:∀x∈b,x<256): NW N (cY n b now):=by
 refine⟨fun e he => ?_,fun k I => ?_,iO h.nodup⟩
 ·rcases wX he with rfl|he
  ·grind
  ·exact h.good e he
 ·rcases oP.1 I with rfl|I
  ·omega
  ·exact h.keys k I
theorem NW.len (h:NW N now): now.length≤N:=by
 have:=uF N _ h.nodup h.keys
 rwa [iE] at this
theorem NW.look (h:NW N now)(I:lookL n now=some b): bR b=true∧∀x∈b,x<256:=h.good _ (fh I)
theorem mC.ec (I:mC ε now false n b e fB ε')(h:EC N ε)(J:∀f∈ε.1.aj,f.pins=0): EC N ε'∧(∀m,pgA ε' m=pgA ε m) ∧
  (¬(0≤n∧n<N)→e=1∧fB=now)∧(0≤n→n<N→bR b=false→e=4∧fB=now)∧(0≤n→n<N→bR b=true→e=0∧fB=cY n b now):=by
 cases I with
 |may e c ε' I he =>
  obtain⟨k1,k2,U,k4⟩:=I.ec h J<;>grind
 |bad c ε' I hg =>
  obtain⟨k1,k2,U,k4⟩:=I.ec h J<;>grind
 |done c ε' I hg =>
  obtain⟨k1,k2,U,k4⟩:=I.ec h J<;>grind
theorem ChR.ec {l:List Int}{cs:List ct}(I:ChR now l ε e cs ε'): EC N ε→fL ε→(∀n∈l,0≤n∧n<N)→EC N ε'∧(∀m,pgA ε' m=pgA ε m)∧e=0:=by
 induction I with
 |nil ε=>grind
 |err n l ε e b ε' I he =>
  intro h J hl
  obtain⟨k1,k2,k3,k4⟩:=I.ec h J.pins<;>grind
 |part n l ε eO b ε' c e cs U I hb hd hc ob ht ih =>
  intro h J hl
  obtain⟨k1,k2,k3,k4⟩:=I.ec h J.pins
  obtain⟨i1,i2,i3⟩:=ih k1 (I.iR J) fun m hm=>hl m (b9 _ hm)<;>grind
 |whole n l ε eO b ε' e cs U I hb hd ht ih =>
  intro h J hl
  obtain⟨k1,k2,k3,k4⟩:=I.ec h J.pins
  obtain⟨i1,i2,i3⟩:=ih k1 (I.iR J) fun m hm=>hl m (b9 _ hm)<;>grind
theorem EC.log (h:EC N ε)(k:DK ε.2.2 x.2): EC N (ε.1,x)∧∀m,pgA (ε.1,x) m=pgA ε m:=by
 refine⟨⟨h.dk.of k,h.nodup,h.jL,fun i f J => ?_,h.ru,h.yM⟩,fun m => ?_⟩
 ·rcases h.back i f J with I|I
  ·omega
  ·exact .inr ⟨I.lt,I.here,I.aq,fun U=>by rw[k.at];exact I.same U,I.lD⟩
 ·unfold pgA
  simp only[k.at]
theorem EC.put (h:EC N ε)(hl:lookL n ε.1.aC=some (i:Int))(I:ε.1.aj[i]?=some f)(hg:bR b=true)(hb:∀x∈b,x<256)(h0:0≤n)(h1:n<N):
  EC N (uX ε.1 n i f b aM,ε.2)∧∀m,pgA (uX ε.1 n i f b aM,ε.2) m=if m=n then cP b aM else pgA ε m:=by
 obtain⟨s1,s2,s3⟩:=uE (n:=aM) hg hb
 have hi:=(List.getElem?_eq_some_iff.1 I).1
 have hp:f.aO=n:=by
  obtain⟨_,j,x,sy,hx,J⟩:=h.jL n i hl<;>grind
 have ho:=(h.back i f I).resolve_left (by omega)
 refine⟨h.set (y:=ε.2.1) (δ:=ε.2.2) I rfl h.dk (.inr ⟨ho.lt,ho.here,s1,fun hq=>(by cases hq),fun _=>s2⟩) (fun _ _ _ _ _=>rfl) (fun k U => ?_) (iO h.yM),fun m => ?_⟩
 ·rcases oP.1 U with rfl|U
  ·omega
  ·exact h.ru k U
 ·by_cases hm:m=n
  ·subst hm
   rw[aE rfl]
   exact oU (ε:=(uX ε.1 m i f b aM,ε.2)) hl (kM hi)
  ·rcases h.cases m with⟨j,x,i_,hx,J,_,_,e2⟩|⟨i_,e2⟩<;>grind[oU,uX,nF]
theorem PtR.ec {l:List Int}(I:PtR now aM l ε e ε'): EC N ε→fL ε→NW N now→(∀n∈l,0≤n∧n<N)→EC N ε'∧e=0 ∧
  ∀m,pgA ε' m=if m∈l then(match lookL m now with|some b=>cP b aM|none=>pgA ε m) else pgA ε m:=by
 induction I with
 |nil ε=>grind
 |ja n l ε e b ε' I he =>
  intro h J U hl
  have:=hl n cn
  exact absurd ((I.ec h).2.2.1 this.1 this.2).1 he
 |bad n l ε b0 b ε' I hb he =>
  intro h J U hl
  exact absurd ((I.put (b:=b) (aM:=aM) J).2.2 (U.look hb).1) he
 |put n l ε b0 b ε' e od I hb he ht ih =>
  intro h J U hl
  have tH:=hl n cn
  obtain⟨k1,k2,k3,k4⟩:=I.ec h
  obtain⟨i,f,p1,p2,p3,p4,p5⟩:=I.at J.pins
  have hg:=U.look hb
  have e1:=sQ (aM:=aM) p1 p2 p3 hg.1
  obtain⟨q1,q2⟩:=k1.put (aM:=aM) p1 p2 hg.1 hg.2 tH.1 tH.2
  have HY:=(I.put (b:=b) (aM:=aM) J).1
  rw[e1] at ih HY
  obtain⟨i1,i2,i3⟩:=ih q1 HY U fun m hm=>hl m (b9 _ hm)
  refine⟨i1,i2,fun m => ?_⟩
  rw[i3,q2]
  by_cases hm:m=n
  ·grind
  ·grind
theorem me : ∀ {l:List Int} {ε:bA},EC N ε→(∀n∈l,(lookL n ε.1.aC).isSome=true)→(writeAllF l ε).1=0∧EC N (writeAllF l ε).2∧(∀m,pgA (writeAllF l ε).2 m=pgA ε m):=by
 intro l
 induction l with
 |nil=>intro ε h _;exact⟨rfl,h,fun _=>rfl⟩
 |cons n l U =>
  intro ε h hl
  cases I:lookL n ε.1.aC with
  |none=>grind
  |some i =>
   obtain⟨_,j,f,rfl,J,hp⟩:=h.jL n i I
   obtain⟨k1,k2,k3,k4,_⟩:=h.out J<;>grind[dP,Int.toNat_natCast,writeAllF]
theorem Fb (h:EC N ε): (bx ε.1 ε.2.2).1=0∧EC N ((bx ε.1 ε.2.2).2.1,(ε.2.1,(bx ε.1 ε.2.2).2.2))∧∀m,0≤m→pgA ((bx ε.1 ε.2.2).2.1,(ε.2.1,(bx ε.1 ε.2.2).2.2)) m=pgA ε m:=by
 obtain⟨s1,s2,s3⟩:=UB h.dk
 have e:bx ε.1 ε.2.2=(0,{ ε.1 with aN:=ε.1.aN.filter fun e=>e.2.2 },ε.2.2.cM.2):=by grind[bx]
 rw[e]
 have J:∀k,k∈((ε.1.aN.filter fun e=>e.2.2).map (·.1))→k∈ε.1.aN.map (·.1):=fun k U=>by
  grind
 refine⟨rfl,⟨s2,h.nodup,h.jL,fun i f hf => ?_,fun k U=>h.ru k (J k U),(List.filter_sublist.map _).nodup h.yM⟩,fun m hm => ?_⟩
 ·rcases h.back i f hf with I|I
  ·omega
  ·by_cases h0:f.aO<0
   ·omega
   ·exact .inr ⟨I.lt,I.here,I.aq,fun hc=>by rw[s3 _ (by omega)];exact I.same hc,I.lD⟩
 ·grind[pgA]
theorem OO (h:EC N ε): (cU ε).1=0∧EC N (cU ε).2∧∀m,0≤m→pgA (cU ε).2 m=pgA ε m:=by
 obtain⟨U,I,w3⟩:=me (l:=az ε.1.aC) h fun n hn=>by
  cases hq:lookL n ε.1.aC<;>grind[fG,ff]
 obtain⟨p1,J,p3⟩:=Fb I
 have e:cU ε=((bx (writeAllF (az ε.1.aC) ε).2.1 (writeAllF (az ε.1.aC) ε).2.2.2).1,((bx (writeAllF (az ε.1.aC) ε).2.1 (writeAllF (az ε.1.aC) ε).2.2.2).2.1,((writeAllF (az ε.1.aC) ε).2.2.1,(bx (writeAllF (az ε.1.aC) ε).2.1 (writeAllF (az ε.1.aC) ε).2.2.2).2.2))):=by
  rw[cU,ah (by rw[h.dk.alive];decide),ah (by omega)]
 rw[e]
 exact⟨p1,J,fun m hm=>by grind⟩
structure EL (K:Nat)(x:LD): Prop where
 log:x.1.b=x.2.log
 cert:x.1.forced≤x.2.aH
 size:x.1.base+x.1.b.length≤K
theorem EL.force {n:Nat}(h:EL K x): EL K (aK x n).2:=by
 unfold aK Dk.bQ
 split
 ·exact h
 ·by_cases J:x.2.dead=true
  ·grind
  ·rw[ah J]
   by_cases I:x.2.aA=0
   ·rw[aE I,aE (show(9:Int)≠0 by decide)];exact⟨h.log,h.cert,h.size⟩
   ·rw[ah I,ah (show ¬(0:Int)≠0 by decide)];exact⟨h.log,by rw[h.log];exact aP _,h.size⟩
theorem EL.write (h:EL K x): EL K (x.1,(x.2.a_ n b).2):=by
 unfold Dk.a_
 split
 ·exact h
 ·split
  ·exact h
  ·split<;>exact⟨h.log,h.cert,h.size⟩
theorem vR (K:Nat): j5 (EL K):=⟨fun _ _ h=>h.force,fun _ _ _ h=>h.write⟩
theorem EL.out (h:EL K ε.2): EL K (outF ε i).2.2:=(vR K).out h
theorem kD.el (I:kD ε n e b ε')(h:EL K ε.2): EL K ε'.2:=(vR K).rd I h
theorem mC.el {bV:Bool}(I:mC ε now bV n b e fB ε')(h:EL K ε.2): EL K ε'.2:=(vR K).E9 I h
theorem ChR.el {l:List Int}{cs:List ct}(I:ChR now l ε e cs ε')(h:EL K ε.2): EL K ε'.2:=(vR K).ch I h
theorem PtR.el {l:List Int}(I:PtR now aM l ε e ε')(h:EL K ε.2): EL K ε'.2:=(vR K).pt I h
theorem vS : ∀ {l:List Int} {ε:bA},EL K ε.2→fL ε→EL K (writeAllF l ε).2.2∧fL (writeAllF l ε).2∧cg (writeAllF l ε).2≤cg ε:=by
 intro l
 induction l with
 |nil=>intro ε h I;exact⟨h,I,aP _⟩
 |cons n l J =>
  intro ε h I
  have step:EL K (dP ε n).2.2∧fL (dP ε n).2∧cg (dP ε n).2≤cg ε:=by
   unfold dP
   split
   ·grind
   ·exact⟨h.out,⟨q_ I.ok,rV I.pins,rU I.full⟩,HE⟩
  grind[writeAllF]
structure EI (N B:Nat)(ε:bA): Prop where
 ok:fL ε
 ec:EC N ε
 el:EL (B*1048600) ε.2
 cg:cg ε≤B*65536
theorem EI.more (h:EI N B ε){I:Nat}(J:B≤I): EI N I ε :=
 ⟨h.ok,h.ec,⟨h.el.log,h.el.cert,b_ h.el.size (qJ _ J)⟩,b_ h.cg (qJ _ J)⟩
theorem EI.rd (h:EI N B ε)(I:kD ε n e b ε'): EI N B ε' :=
 ⟨I.iR h.ok,(I.ec h.ec h.ok.pins).1,I.el h.el,b_ I.cg h.cg⟩
theorem EI.E9 (h:EI N B ε)(I:mC ε now false n b e fB ε'): EI N B ε' :=
 ⟨I.iR h.ok,(I.ec h.ec h.ok.pins).1,I.el h.el,b_ I.cg h.cg⟩
theorem EI.many (h:EI N B ε): N≤65536:=by
 have:=h.ok.ok.dk.many
 rwa [h.ec.dk.ai] at this
theorem EI.aC (h:EI N B ε): (∀n:Int,n∈ε.1.aC.map (·.1)→0≤n∧n<N)∧ε.1.aC.length≤N:=by
 have I:∀n:Int,n∈ε.1.aC.map (·.1)→0≤n∧n<N:=fun n hn=>by
  cases J:lookL n ε.1.aC with
  |none=>grind[ff]
  |some i =>
   obtain⟨U,j,f,rfl,hf,hp⟩:=h.ec.jL n i J
   have:=(h.ec.back j f hf).resolve_left (by omega)
   exact⟨U,hp ▸ this.lt⟩
 have:=uF N _ h.ec.nodup I
 grind
theorem EI.aN (h:EI N B ε): ε.1.aN.length≤N:=by
 have:=uF N _ h.ec.yM h.ec.ru
 rwa [iE] at this
theorem EI.writeAll (h:EI N B ε): (writeAllF (az ε.1.aC) ε).1=0∧EI N B (writeAllF (az ε.1.aC) ε).2∧∀m,pgA (writeAllF (az ε.1.aC) ε).2 m=pgA ε m:=by
 obtain⟨I,J,U⟩:=me (l:=az ε.1.aC) h.ec fun n hn=>by
  cases hq:lookL n ε.1.aC<;>grind[fG,ff]
 obtain⟨k1,k2,k3⟩:=vS (l:=az ε.1.aC) h.el h.ok
 exact⟨I,⟨k2,J,k1,b_ k3 h.cg⟩,U⟩
theorem EI.sync (h:EI N B ε): (bx ε.1 ε.2.2).1=0∧EI N B ((bx ε.1 ε.2.2).2.1,(ε.2.1,(bx ε.1 ε.2.2).2.2))∧∀m,0≤m→pgA ((bx ε.1 ε.2.2).2.1,(ε.2.1,(bx ε.1 ε.2.2).2.2)) m=pgA ε m:=by
 obtain⟨p1,p2,p3⟩:=Fb h.ec
 refine⟨p1,?_,p3⟩
 have e0:ε.2.2.cM=(0,ε.2.2.sync):=by rw[Dk.cM,ah (by rw[h.ec.dk.alive];decide),ah (by have:=h.ec.dk.aA;omega),gr h.ec.dk.aA]
 have e:bx ε.1 ε.2.2=(0,{ ε.1 with aN:=ε.1.aN.filter fun e=>e.2.2 },ε.2.2.sync):=by grind[bx]
 rw[e] at p2 ⊢
 have I:=h.ok.ok.dk
 have U:∀(i:Nat) (b:List Nat),(laidP ε.2.2.now ε.2.2.ai)[i]?=some (some b)→b.length=512:=fun i b J=>by
  have h1:=laidP_get (n:=(i:Int)) h.ec.dk.ai h.ec.dk.nodup h.ec.dk.keys (by omega)
  rw[eD] at h1
  rw[h1] at J
  cases hq:lookL (i:Int) ε.2.2.now with
  |some x=>rw[hq] at J;have:=cA (cA J);subst this;exact I.now _ (fh hq)
  |none=>rw[hq] at J;exact I.ai i b J
 refine⟨⟨⟨⟨h.ok.ok.pl.hand,h.ok.ok.pl.many,h.ok.ok.pl.aC,h.ok.ok.pl.len,h.ok.ok.pl.pins⟩,h.ok.ok.lg,⟨I.aA,I.len,I.room,fun e he=>(by cases he),U,I.aH,by show(laidP _ _).length≤_;rw[mB];exact I.many⟩⟩,h.ok.pins,⟨h.ok.full.nodup,h.ok.full.jL⟩⟩,p2,⟨h.el.log,h.el.cert,h.el.size⟩,?_⟩
 have:=h.cg
 simp only[Am.cg] at this ⊢
 have e2:ε.2.2.sync.waiting.length=0:=rfl
 omega
theorem EI.clean (h:EI N B ε): (cU ε).1=0∧EI N B (cU ε).2∧∀m,0≤m→pgA (cU ε).2 m=pgA ε m:=by
 obtain⟨U,I,w3⟩:=h.writeAll
 obtain⟨p1,J,p3⟩:=I.sync
 have e:cU ε=((bx (writeAllF (az ε.1.aC) ε).2.1 (writeAllF (az ε.1.aC) ε).2.2.2).1,((bx (writeAllF (az ε.1.aC) ε).2.1 (writeAllF (az ε.1.aC) ε).2.2.2).2.1,((writeAllF (az ε.1.aC) ε).2.2.1,(bx (writeAllF (az ε.1.aC) ε).2.1 (writeAllF (az ε.1.aC) ε).2.2.2).2.2))):=by
  rw[cU,ah (by rw[h.ec.dk.alive];decide),ah (by omega)]
 rw[e]
 exact⟨p1,J,fun m hm=>by grind⟩
theorem EI.force {n:Nat}(h:EI N B ε): (aK ε.2 n).1=0∧EI N B (ε.1,(aK ε.2 n).2)∧∀m,pgA (ε.1,(aK ε.2 n).2) m=pgA ε m:=by
 obtain⟨f1,f2⟩:=Fa (n:=n) h.ec.dk
 obtain⟨I,J⟩:=h.ec.log f2
 refine⟨f1,⟨⟨⟨h.ok.ok.pl,uU h.ok.ok.lg,mH h.ok.ok.dk⟩,h.ok.pins,h.ok.full⟩,I,h.el.force,?_⟩,J⟩
 have:=h.cg
 grind[Am.cg,nB]
theorem EI.app {kd:Int}{c:List ct}(h:EI N B ε)(hB:B≤1000)(hg:dY kd c=true):
  EI N (B+1) (ε.1,(aI ε.2 kd tx pv nx data c).2)∧(∀m,pgA (ε.1,(aI ε.2 kd tx pv nx data c).2) m=pgA ε m) ∧
  (((aI ε.2 kd tx pv nx data c).1.2=0∧aI ε.2 kd tx pv nx data c=((ε.2.1.base+ε.2.1.b.length,0),(ε.2.1.app (bX ε.2.1 kd tx pv nx data c),{ ε.2.2 with log:=ε.2.2.log++bX ε.2.1 kd tx pv nx data c }))) ∨
   (aI ε.2 kd tx pv nx data c).1.2=7∨((aI ε.2 kd tx pv nx data c).1.2=2∧1048576<(dF kd tx pv nx data c).length)):=by
 have hs:=h.el.size
 have J:=rI (kd:=kd) (tx:=tx) (pv:=pv) (nx:=nx) (data:=data) (c:=c) h.ok.ok.lg h.ok.ok.dk h.el.log (by omega)
 have U:Am.cg (ε.1,(aI ε.2 kd tx pv nx data c).2)≤(B+1)*65536:=by
  have e:Am.cg (ε.1,(aI ε.2 kd tx pv nx data c).2)=Am.cg ε:=by grind[Am.cg]
  rw[e]
  exact b_ h.cg (qJ _ (hO B))
 have gW:(aI ε.2 kd tx pv nx data c).2.1.base+(aI ε.2 kd tx pv nx data c).2.1.b.length≤(B+1)*1048600:=by
  omega
 have main:∀(hk:DK ε.2.2 (aI ε.2 kd tx pv nx data c).2.2) (hc:(aI ε.2 kd tx pv nx data c).2.1.forced≤(aI ε.2 kd tx pv nx data c).2.2.aH),EI N (B+1) (ε.1,(aI ε.2 kd tx pv nx data c).2)∧∀m,pgA (ε.1,(aI ε.2 kd tx pv nx data c).2) m=pgA ε m:=fun hk hc=>by
  obtain⟨l1,l2⟩:=h.ec.log hk
  exact⟨⟨⟨⟨h.ok.ok.pl,J.1,J.2.1⟩,h.ok.pins,h.ok.full⟩,l1,⟨J.2.2.1,hc,gW⟩,U⟩,l2⟩
 rcases gh ε.2 kd tx pv nx data c with⟨e,he,hc,I⟩|⟨hd,hf,I⟩|⟨_,_,hd,lX,hf,I⟩
 ·obtain⟨m1,m2⟩:=main (by rw[I];exact DK.refl _) (by rw[I];exact h.el.cert)
  refine⟨m1,m2,.inr ?_⟩
  rw[I]
  rcases hc with⟨_,hb⟩|⟨rfl,hb⟩|⟨_,hb⟩|⟨rfl,hb⟩
  ·grind
  ·grind
  ·rw[h.ec.dk.alive] at hb;cases hb
  ·simp
 ·have:=h.ec.dk.aA;omega
 ·rw[gr h.ec.dk.aA] at I
  obtain⟨m1,m2⟩:=main (by rw[I];exact⟨rfl,rfl,rfl,rfl⟩) (by rw[I];exact h.el.cert)
  exact⟨m1,m2,.inl ⟨by rw[I],I⟩⟩
theorem EI.done {kd:Int}{cl:Bool}(h:EI N B ε)(hB:B≤1000)(hn:NW N now)(h1:1≤kd)(h2:kd≤7)(hr:DnR ε now kd tx pv nx data 0 aM e cl ε'):
  (cl=false∧(e=7∨e=2)∧EI N (B+2) ε'∧∀m,pgA ε' m=pgA ε m) ∨
  (cl=true∧e=0∧EI N (B+2) ε'∧∀m,pgA ε' m=match lookL m now with|some b=>cP b aM|none=>pgA ε m):=by
 have I:∀n∈az now,0≤n∧n<N:=fun n hq=>hn.keys n (fG.1 hq)
 have hN:=h.many
 have U:∀ {c:List ct} {ε':bA} {e:Int},ChR now (az now) ε e c ε'→dY kd c=true:=fun J=>by
  refine Bq ⟨h1,by omega⟩ (J.fit (fun x hx=>fb (hn.good x hx).1) fun n hq => ?_)<;>grind
 cases hr with
 |arg hq=>omega
 |dead _ _ _ hd=>rw[h.ec.dk.alive] at hd;cases hd
 |lD e c ε' _ _ _ hd J he=>exact absurd (J.ec h.ec h.ok I).2.2 he
 |app c ε' _ _ _ hd J he =>
  obtain⟨c1,c2,c3⟩:=J.ec h.ec h.ok I
  have hi:EI N B ε':=⟨J.iR h.ok,c1,J.el h.el,b_ J.cg h.cg⟩
  obtain⟨a1,a2,a3⟩:=hi.app (kd:=kd) (tx:=tx) (pv:=pv) (nx:=nx) (data:=data) (c:=c) hB (U J)
  refine .inl ⟨rfl,?_,a1.more (by omega),fun m=>by grind⟩<;>grind
 |put c ε' e od _ _ _ hd J ha hp =>
  obtain⟨c1,c2,c3⟩:=J.ec h.ec h.ok I
  have hi:EI N B ε':=⟨J.iR h.ok,c1,J.el h.el,b_ J.cg h.cg⟩
  obtain⟨a1,a2,a3⟩:=hi.app (kd:=kd) (tx:=tx) (pv:=pv) (nx:=nx) (data:=data) (c:=c) hB (U J)
  obtain⟨p1,p2,p3⟩:=hp.ec a1.ec a1.ok hn I
  have hl:(az now).length≤N:=by
   have:=hn.len
   rw[az,(en _).length_eq,iE];exact this
  have Zr:=hp.cg a1.ok
  have Gr:=a1.cg
  refine .inr ⟨rfl,p2,⟨hp.iR a1.ok,p1,?_,by omega⟩,fun m => ?_⟩
  ·have:=hp.el a1.el
   exact⟨this.log,this.cert,b_ this.size (qJ _ (by omega))⟩
  ·grind[fG,ff]
theorem Jv (n:Nat): (digits 9 n).length≤10:=uA 9 n
theorem Jw {kd:Int}(I:data.length≤4104): (dF kd tx pv nx data []).length≤1048576:=by
 grind[Jv,dF]
theorem Ei {n:Nat}(h:DA N x.2)(I:n<x.1.base+x.1.b.length): n<(aK x n).2.1.base+(aK x n).2.1.forced:=by
 grind[aK,Br]
theorem Rh : (μ.app b).hasB (μ.base+μ.b.length)=true:=by
 grind[Lg.hasB,Lg.app]
theorem Lg.Ok.cut {n:Nat}(h:μ.Ok)(h1:μ.base≤n)(h2:n≤μ.base+μ.b.length): (μ.cut n).Ok:=by
 have hs:=h.size
 have hf:=h.forced
 have hl:=h.len
 have hd:(μ.b.drop (n-μ.base)).length=μ.b.length-(n-μ.base):=nN
 have I:∀s,s∈uY μ n→∃t∈μ.br,n≤μ.base+t∧s=t-(n-μ.base):=fun s hs=>by
  obtain⟨t,ht,rfl⟩:=List.mem_map.1 hs<;>grind
 refine⟨?_,?_,fun s hs => ?_,?_,?_,?_,h.check⟩
 ·show n+(μ.b.drop (n-μ.base)).length≤_;omega
 ·show(uY μ n).length≤_
  rw[uY,iE]
  exact b_ (List.length_filter_le _ _) h.many
 ·obtain⟨t,J,h4,rfl⟩:=I s hs
  have:=h.low t J
  show _<(μ.b.drop (n-μ.base)).length
  omega
 ·show(uY μ n).Pairwise (·< ·)
  rw[uY,List.pairwise_map]
  refine(h.wL.filter _).imp_of_mem fun {a b} ha hb U => ?_<;>grind
 ·show μ.forced-(n-μ.base)≤(μ.b.drop (n-μ.base)).length;omega
 ·show(μ.b.drop (n-μ.base)).length≤_;omega
theorem EI.log (h:EI N B ε)(I:x.1.Ok)(J:x.2.Ok)(U:DK ε.2.2 x.2)(hl:EL (B*1048600) x)(hw:x.2.waiting=ε.2.2.waiting): EI N B (ε.1,x)∧∀m,pgA (ε.1,x) m=pgA ε m:=by
 obtain⟨l1,l2⟩:=h.ec.log U
 refine⟨⟨⟨⟨h.ok.ok.pl,I,J⟩,h.ok.pins,h.ok.full⟩,l1,hl,?_⟩,l2⟩
 have e:Am.cg (ε.1,x)=Am.cg ε:=by simp only[Am.cg,hw]
 rw[e];exact h.cg
theorem EI.check {n:Nat}(h:EI N B ε)(U:ε.2.1.hasB n=true∧n<ε.2.1.base+ε.2.1.forced): (dZ ε.2 n).1=0∧(dZ ε.2 n).2.1={ ε.2.1 with check:=n }∧EI N B (ε.1,(dZ ε.2 n).2)∧∀m,pgA (ε.1,(dZ ε.2 n).2) m=pgA ε m:=by
 have hm:=UA (b:=eo ε.2.1.base n) h.ec.dk (by rw[mA];decide)
 have e:dZ ε.2 n=(0,({ ε.2.1 with check:=n },{ ε.2.2 with mark:=eo ε.2.1.base n })):=by
  grind[dZ]
 have hf:=h.ok.ok.lg.forced
 have hs:=h.ok.ok.lg.size
 obtain⟨I,J⟩:=CV (n:=n) h.ok.ok.lg h.ok.ok.dk (by omega)
 rw[e] at I J ⊢
 exact⟨rfl,rfl,h.log I J ⟨rfl,rfl,rfl,rfl⟩ ⟨h.el.log,h.el.cert,h.el.size⟩ rfl⟩
theorem EI.cut {n:Nat}(h:EI N B ε)(U:ε.2.1.hasB n=true)(hf:n≤ε.2.1.base+ε.2.1.forced)(hc:ε.2.1.check=0∨n≤ε.2.1.check): (eU ε.2 n).1=0∧EI N B (ε.1,(eU ε.2 n).2)∧∀m,pgA (ε.1,(eU ε.2 n).2) m=pgA ε m:=by
 have h1:=Ef U
 have xA:=h.ok.ok.lg.forced
 have J:=h.el.cert
 have I:=h.ok.ok.dk
 have SR:=I.aH
 have KF:=I.len
 have gW:=h.el.size
 have e1:ε.2.2.gV ((n-ε.2.1.base:Nat):Int) (eo n ε.2.1.check)=(0,{ ε.2.2 with log:=ε.2.2.log.drop (n-ε.2.1.base),aH:=ε.2.2.aH-(n-ε.2.1.base),mark:=eo n ε.2.1.check }):=by
  rw[Dk.gV,ah (by rw[h.ec.dk.alive];decide),ah (not_not_intro ⟨by omega,by omega,by rw[mA];decide⟩),ah (by have:=h.ec.dk.aA;omega),gr h.ec.dk.aA,eD]
 have e:eU ε.2 n=(0,(ε.2.1.cut n,{ ε.2.2 with log:=ε.2.2.log.drop (n-ε.2.1.base),aH:=ε.2.2.aH-(n-ε.2.1.base),mark:=eo n ε.2.1.check })):=by
  grind[eU]
 rw[e]
 have hd:(ε.2.2.log.drop (n-ε.2.1.base)).length=ε.2.2.log.length-(n-ε.2.1.base):=nN
 have hd2:(ε.2.1.b.drop (n-ε.2.1.base)).length=ε.2.1.b.length-(n-ε.2.1.base):=nN
 refine⟨rfl,h.log (h.ok.ok.lg.cut h1 (by omega)) ⟨I.aA,by grind,I.room,I.now,I.ai,by grind,I.many⟩ ⟨rfl,rfl,rfl,rfl⟩ ⟨?_,?_,?_⟩ rfl⟩
 ·show ε.2.1.b.drop _=ε.2.2.log.drop _;rw[h.el.log]
 ·show ε.2.1.forced-_≤ε.2.2.aH-_;omega
 ·show n+(ε.2.1.b.drop _).length≤_;omega
theorem EI.Mi {lo:Nat}{dh bG:List Nat}{aq bW:Nat}(h:EI N B ε)(hB:B≤1000)(hr:qH ε lo data dh aq e ε' bG bW):
  EI N (B+1) ε'∧(∀m,pgA ε' m=pgA ε m)∧((e=2∧4096<data.length∧bG=dh)∨(e=7∧bG=dh)∨(e=0∧bG=data)):=by
 cases hr with
 |HL hb=>exact⟨h.more (by omega),fun _=>rfl,.inl ⟨rfl,hb,rfl⟩⟩
 |dead _ hd=>rw[h.ec.dk.alive] at hd;cases hd
 |go e y bG bW hb hd hc =>
  have hw:=dX 8 (eV ε)
  obtain⟨a1,a2,a3⟩:=h.app (kd:=8) (tx:=0) (pv:=0) (nx:=0) (data:=le 8 (eV ε)++data) (c:=[]) hB (by decide)
  have ey:aI ε.2 8 0 0 0 (le 8 (eV ε)++data) []=fP ε data:=rfl
  rw[ey] at a1 a2 a3
  have a3:((fP ε data).1.2=0∧fP ε data=((ε.2.1.base+ε.2.1.b.length,0),(ε.2.1.app (bX ε.2.1 8 0 0 0 (le 8 (eV ε)++data) []),{ ε.2.2 with log:=ε.2.2.log++bX ε.2.1 8 0 0 0 (le 8 (eV ε)++data) [] })))∨(fP ε data).1.2=7:=by
   grind[Jw]
  have sn:eV ε≤ε.2.1.base+ε.2.1.b.length:=Eg _ _ _
  have hkp:rW ε lo≤ε.2.1.base+ε.2.1.b.length:=by
   rw[rW];split<;>omega
  rcases a3 with⟨a0,a3⟩|a3
  ·have E4:8≤(bX ε.2.1 8 0 0 0 (le 8 (eV ε)++data) []).length:=by rw[bX,qY];omega
   generalize bX ε.2.1 8 0 0 0 (le 8 (eV ε)++data) []=rc at E4 a3
   generalize fP ε data=I at *
   have n1:I.1.1=ε.2.1.base+ε.2.1.b.length:=by rw[a3]
   have n2:I.2.1=ε.2.1.app rc:=by rw[a3]
   -- the log is forced
   obtain⟨f1,f2,f3⟩:=a1.force (n:=I.1.1)
   have f1:(gL I).1=0:=f1
   have f2:EI N (B+1) (ε.1,(gL I).2):=f2
   have f3:∀m,pgA (ε.1,(gL I).2) m=pgA (ε.1,I.2) m:=f3
   have qt:I.1.1<I.2.1.base+I.2.1.b.length:=by
    rw[n1,n2];show _<ε.2.1.base+(ε.2.1.b++rc).length;rw[bT];omega
   have f4:I.1.1<(gL I).2.1.base+(gL I).2.1.forced:=Ei a1.ec.dk qt
   have f5:=qu (π:=ε.1) (x:=I.2) (n:=I.1.1)
   have f6:(gL I).2.1.base=I.2.1.base:=f5.base
   have f7:(gL I).2.1.br=I.2.1.br:=f5.br
   have f8:(gL I).2.1.hasB I.1.1=true:=by
    grind[Rh,Lg.hasB]
   -- the mark
   obtain⟨c1,c2,U,c4⟩:=f2.check (n:=I.1.1) ⟨f8,f4⟩
   have c1:(eu I).1=0:=c1
   have c2:(eu I).2.1={ (gL I).2.1 with check:=I.1.1 }:=c2
   have U:EI N (B+1) (ε.1,(eu I).2):=U
   have c4:∀m,pgA (ε.1,(eu I).2) m=pgA (ε.1,(gL I).2) m:=c4
   have ni:∀m,pgA (ε.1,(eu I).2) m=pgA ε m:=fun m=>by grind
   cases hc with
   |app he=>omega
   |force _ he=>omega
   |check _ _ he=>omega
   |cut t _ _ _ ht b8 _ =>
    have Bi:I.1.1<(eu I).2.1.base+(eu I).2.1.b.length:=by
     have:=U.ok.ok.lg.forced
     grind
    have J:(eu I).2.1.hasB t=true∧t≤rW ε lo:=by
     grind
    have e2:(eu I).2.1.forced=(gL I).2.1.forced:=by rw[c2]
    have e3:(eu I).2.1.check=I.1.1:=by rw[c2]
    obtain⟨k1,k2,k3⟩:=U.cut J.1 (by grind) (.inr (by grind))
    exact⟨k2,fun m=>(k3 m).trans (ni m),.inr (.inr ⟨k1,rfl⟩)⟩
   |cO _ _ _ _=>grind
  ·cases hc<;>simp_all
def iI (π:Pl)(n:Int)(b:List Nat): Prop:=∃(i:Nat) (f:Fm),π.aj[i]?=some f∧f.aO=n∧0≤n∧f.changed=true∧f.b=b
abbrev VP := (Int→List Nat→Prop)→List (Int×(Nat×Bool))→LD→Prop
abbrev vw (P:VP)(ε:bA): Prop:=P (iI ε.1) ε.1.aN ε.2
theorem HZ (hn:fK π bC): iI bC=iI π:=by
 funext n b
 refine propext ⟨fun⟨i,x,hx,I,J,U,h3⟩ => ?_,fun⟨i,f,hf,I,J,U,h3⟩ => ?_⟩
 ·obtain⟨f,t,hf,rfl⟩:=hn.back hx
  exact⟨i,f,hf,I,J,U,h3⟩
 ·obtain⟨t,ht⟩:=hn.get i f hf
  exact⟨i,_,ht,I,J,U,h3⟩
theorem Av {g:Fm}(J:π.aj[i]?=some f)(hs:∀n b,(f.aO=n∧0≤n∧f.changed=true∧f.b=b)↔(g.aO=n∧0≤n∧g.changed=true∧g.b=b)){w:List (Int×Int)}{U:Nat}: iI ⟨π.aj.set i g,w,d,U⟩=iI π:=by
 have hi:=(List.getElem?_eq_some_iff.1 J).1
 funext n b
 refine propext ⟨fun⟨j,x,I,h⟩ => ?_,fun⟨j,x,I,h⟩ => ?_⟩
 ·rcases pX J I with⟨rfl,rfl⟩|⟨_,I⟩
  ·exact⟨i,f,J,(hs n b).2 h⟩
  ·exact⟨j,x,I,h⟩
 ·by_cases hj:i=j
  ·subst hj
   rw[J] at I
   have:=cA I
   subst this
   exact⟨i,g,kM hi,(hs n b).1 h⟩
  ·exact⟨j,x,by grind,h⟩
theorem OP {g:Fm}(J:π.aj[i]?=some g)(U:0≤g.aO→g.changed=false): iI (dN π i f)=iI π :=
 Av J fun n b=>⟨(fun⟨h1,h0,I,_⟩=>by grind),fun⟨_,_,I,_⟩=>(by cases I)⟩
theorem Mj {e:Fm}(he:π.aj[i]?=some e)(J:e.aO<0): iI (jw π i n b)=iI π :=
 Av he fun m c=>⟨fun⟨U,h0,_⟩=>by omega,fun⟨_,_,I,_⟩=>(by cases I)⟩
structure iL (N:Nat)(P:VP): Prop where
 one:∀(ε:bA) (i:Nat) (f:Fm),EC N ε→ε.1.aj[i]?=some f→0≤f.aO→f.changed=true→vw P ε→vw P (outF ε i).2
theorem j5.j6 {R:LD→Prop}(h:j5 R)(N:Nat): iL N (fun _ _ x=>R x):=⟨fun _ _ _ _ _ _ _ I=>h.out I⟩
section
variable {P:VP} {l:List Int} {cs:List ct}
theorem iL.out (h:iL N P)(he:EC N ε)(I:ε.1.aj[i]?=some f)(J:vw P ε): vw P (outF ε i).2:=by
 by_cases U:f.aO<0∨f.changed=false
 ·grind[outF]
 ·exact h.one ε i f he I (by omega) (by grind) J
theorem iL.ja (h:iL N P)(hr:eY ε n e b ε')(he:EC N ε)(hv:vw P ε): vw P ε':=by
 cases hr with
 |arg I=>exact hv
 |xB i f h1 J hl U =>
  grind[Av]
 |out bC i f h1 J hl I U hh hq=>exact absurd ((he.rj I).1.out U).1 hq
 |read bC i f h1 J hl I U hh hq hr =>
  obtain⟨k1,k2,k3,k4,g,k5,k6,k7⟩:=(he.rj I).1.out U
  refine absurd ?_ hr
  rw[he.dk.ai] at J
  rw[Dk.lH,ah (by rw[k2.dk.alive];decide),ah (by rw[k2.dk.ai];exact not_not_intro ⟨h1,J⟩)]
 |bad bC i f h1 J hl I U hh hq hr hc =>
  obtain⟨k1,k2,k3,k4,g,k5,k6,k7⟩:=(he.rj I).1.out U
  rw[he.dk.ai] at J
  exact absurd (k2.dk.good n h1 J) hc
 |load bC i f h1 J hl I U hh hq hr hc =>
  obtain⟨n1,n2⟩:=he.rj I
  have uv:vw P (bC,ε.2):=by show P (iI bC) bC.aN ε.2;rw[HZ I,I.aN];exact hv
  have kB:=h.out (ε:=(bC,ε.2)) n1 U uv
  grind[OP,dN,outF,fq,jw,Mj]
theorem OQ : iI (unpinF π n).2=iI π∧(unpinF π n).2.aN=π.aN:=by
 grind[unpinF,Av]
theorem iL.rd (h:iL N P)(I:kD ε n e b ε')(he:EC N ε)(J:vw P ε): vw P ε':=by
 cases I<;>grind[ja,OQ]
theorem iL.HG (h:iL N P)(I:GRd ε now false n e b ε')(he:EC N ε)(J:vw P ε): vw P ε':=by
 cases I with
 |arg hn=>exact J
 |bV _ _ ho=>cases ho
 |own b U h2 _ hl=>exact J
 |read e b ε' U h2 _ hl I=>exact h.rd I he J
theorem iL.E9 (h:iL N P)(I:mC ε now false n b e fB ε')(he:EC N ε)(J:vw P ε): vw P ε':=by
 cases I with
 |may e c ε' I _=>exact h.HG I he J
 |bad c ε' I U=>exact h.HG I he J
 |done c ε' I U=>exact h.HG I he J
theorem iL.ch (h:iL N P)(I:ChR now l ε e cs ε'): EC N ε→fL ε→vw P ε→vw P ε':=by
 induction I with
 |nil ε=>simp
 |err n l ε e b ε' I _=>exact fun he _ J=>h.rd I he J
 |part n l ε eO b ε' c e cs U I hb hd hc ob ht ih=>exact fun he h3 J=>ih (I.ec he h3.pins).1 (I.iR h3) (h.rd I he J)
 |whole n l ε eO b ε' e cs U I hb hd ht ih=>exact fun he h3 J=>ih (I.ec he h3.pins).1 (I.iR h3) (h.rd I he J)
end
def dG (l:List (List Nat)): List V:=l.map V.str
theorem jb (l:List (List Nat)): (dG l).length=l.length:=by simp[dG]
theorem Fc {l:List (List Nat)}{w:List Nat}(h:l[i]?=some w): (dG l)[i]?=some (.str w):=by simp[dG,h]
def kJ (ε:bA)(ps:List (List Nat)): Prop:=∀(n:Nat) (w:List Nat),ps[n]?=some w→iS (pgA ε n)=w
theorem kJ.of (h:kJ ε ps)(I:∀m,0≤m→pgA ε' m=pgA ε m): kJ ε' ps:=fun n w J=>by rw[I _ (by omega)];exact h n w J
theorem Mk (h:bR b=true): iS b=b.drop 12∧dM b≠4:=by
 have J:=fb h
 have U:bR (List.replicate 512 0)=false:=by decide +kernel
 have I:b≠List.replicate 512 0:=fun e=>by rw[e,U] at h;cases h
 refine⟨by rw[iS,ah (by rintro(q|q);exact q J;exact I q)],?_⟩
 rw[dM,ah I,ah (by rw[h];decide)]
 split<;>decide
def j7 (k:Nat)(v:V)(cs:List V): aS:=.xs fun o:Option (Nat×Nat×Nat)=>match o with
 |none=>.pu ((v=.bw∨∃a,v=.sle a)∧cs=[])
 |some (id,len,cap)=>.an (.ro id (.cells cs.length cs true)) (.pu (v=.sl id 0 len (.exact cap)∧cs.length=len*k))
theorem aF.j7 (k:Nat)(v:V)(cs:List V): aF (Am.j7 k v cs):=aF.xs fun o=>by
 cases o with
 |none=>exact aF.pu _
 |some x=>exact aF.an (aF.ro _ _) (aF.pu _)
section
variable {v:V}
theorem Sat.rowAt (s:Sat h S)(J:getA S j=some (j7 k v cs)): ((v=.bw∨∃a,v=.sle a)∧cs=[])∨∃id len cap,v=.sl id 0 len (.exact cap)∧cs.length=len*k∧T.get h.tr id=some (.cells cs.length cs true):=by
 obtain⟨m,r,h1,U,o,I⟩:=s.at J
 cases o with
 |none=>exact .inl I
 |some x=>exact .inr ⟨x.1,x.2.1,x.2.2,I.2.1,I.2.2,U _ _ I.1⟩
theorem Sat.yN {n:Nat}{e:TypeId}(s:Sat h S)(J:getA S j=some (j7 k v cs))(I:cs.length=n*k)(hk:1≤k)(hu:P.underlying t=some (.slice e)): lenV P h t v=some (.int .i64 n):=by
 rcases s.rowAt J with⟨U,rfl⟩|⟨id,len,cap,rfl,hl,_⟩
 ·have:n=0:=by
   cases n with
   |zero=>rfl
   |succ n=>simp only[dz,pe,zP] at I;omega
  subst this
  rcases U with rfl|⟨a,rfl⟩
  ·exact J9 hu
  ·simp only[lenV,hu];rfl
 ·have:n=len:=by
   rw[hl] at I
   exact(JO (by omega) I).symm
  subst this
  exact Ci hu
theorem Sat.YA {e:TypeId}(s:Sat h S)(J:getA S j=some (j7 k v cs))(hi:i*k+k≤cs.length)(U:1≤k)(hu:P.underlying t=some (.slice e))(I:bB P e=some k)(ha:isAggT P e=some true):
  ∃id off,indexAddrV P t v (.int .i64 (i:Int))=some (.ptr id off)∧loadV P h e (.ptr id off)=some (.agg ((cs.drop (i*k)).take k)):=by
 rcases s.rowAt J with⟨_,rfl⟩|⟨id,len,cap,rfl,hl,hg⟩
 ·simp at hi;omega
 ·refine⟨id,i*k,?_,SB ha I hg rfl hi⟩
  simp only[indexAddrV,hu,I,eD]
  have:i<len:=by
   have h4:i*k+k=(i+1)*k:=by rw[pe,zP]
   rw[h4,hl] at hi
   exact y9 (yX hi U)
  rw[show(decide ((0:Int)≤(i:Int))&&decide ((i:Int)<(len:Int)))=true by simp;omega,ak]
  simp
theorem Sat.aaV (s:Sat h S)(I:getA S j=some (j7 k v cs)): v.cells=[v]∧storable v=true∧v.beq v=true:=by
 rcases s.rowAt I with⟨rfl|⟨a,rfl⟩,_⟩|⟨id,len,cap,rfl,_⟩
 ·exact⟨rfl,rfl,rfl⟩
 ·exact⟨rfl,rfl,by simp[V.beq]⟩
 ·exact⟨rfl,rfl,Ce _ _ _ _⟩
end
def og : List V→List (Int×List Nat)→aS
 |[],[]=>.pu True
 |a::v::l,x::m=>.an (.an (.pu (a=.int .i64 x.1)) (.cm v x.2)) (og l m)
 |_,_=>.pu False
theorem aF.og : ∀(m:List (Int×List Nat)) (l:List V),aF (Am.og l m):=by
 intro m
 induction m with
 |nil=>intro l;rcases l with _|⟨a,_|⟨b,l⟩⟩<;>exact aF.pu _
 |cons x m I=>intro l;rcases l with _|⟨a,_|⟨b,l⟩⟩<;>first|exact aF.pu _|exact aF.an (aF.an (aF.pu _) (aF.cm _ _)) (I l)
theorem UD {a b:PM}: ∀ {m:List (Int×List Nat)} {l:List V},(og l m).p a b→l.length=m.length*2:=by
 intro m
 induction m with
 |nil=>intro l h;rcases l with _|⟨x,_|⟨y,l⟩⟩<;>first|rfl|exact h.elim
 |cons x m I=>intro l h;rcases l with _|⟨x,_|⟨y,l⟩⟩<;>first|exact h.elim|(have:=I h.2;simp only[bI];omega)
theorem KH {a b:PM}: ∀ {m:List (Int×List Nat)} {l:List V} {i:Nat} {x:Int×List Nat},(og l m).p a b→m[i]?=some x→∃u,(l.drop (i*2)).take 2=[.int .i64 x.1,u]∧(aS.cm u x.2).p a b:=by
 intro m
 induction m with
 |nil=>intro l i x h I;simp at I
 |cons y m J =>
  intro l i x h I
  rcases l with _|⟨p,_|⟨q,l⟩⟩
  ·exact h.elim
  ·exact h.elim
  ·cases i with
   |zero =>
    simp at I;subst I
    exact⟨q,by rw[show p=.int .i64 y.1 from h.1.1];rfl,h.1.2⟩
   |succ i =>
    rw[lK] at I
    obtain⟨u,U,h2⟩:=J h.2 I
    exact⟨u,by rw[show(i+1)*2=i*2+2 by omega];exact U,h2⟩
structure iT where
 act:Int
 cO:Int
 w:List (Int×List Nat)
 data:List Nat
def qw (wv dv:V)(D:iT): aS:=.an (.xs fun cs:List V=>.an (j7 2 wv cs) (og cs D.w)) (.cm dv D.data)
theorem aF.qw (wv dv:V)(D:iT): aF (Am.qw wv dv D):=aF.an (aF.xs fun _=>aF.an (aF.j7 _ _ _) (aF.og _ _)) (aF.cm _ _)
def jx : List V→List iT→aS
 |[],[]=>.pu True
 |a::b::w::d::l,x::m=>.an (.an (.pu (a=.int .i64 x.act∧b=.int .i64 x.cO)) (qw w d x)) (jx l m)
 |_,_=>.pu False
theorem aF.jx : ∀(m:List iT) (l:List V),aF (Am.jx l m):=by
 intro m
 induction m with
 |nil=>intro l;rcases l with _|⟨a,_|⟨b,_|⟨c,_|⟨d,l⟩⟩⟩⟩<;>exact aF.pu _
 |cons x m I=>intro l;rcases l with _|⟨a,_|⟨b,_|⟨c,_|⟨d,l⟩⟩⟩⟩<;>first|exact aF.pu _|exact aF.an (aF.an (aF.pu _) (aF.qw _ _ _)) (I l)
theorem Ml {a b:PM}: ∀ {m:List iT} {l:List V},(jx l m).p a b→l.length=m.length*4:=by
 intro m
 induction m with
 |nil=>intro l h;rcases l with _|⟨x,_|⟨y,_|⟨z,_|⟨u,l⟩⟩⟩⟩<;>first|rfl|exact h.elim
 |cons x m I=>intro l h;rcases l with _|⟨x,_|⟨y,_|⟨z,_|⟨u,l⟩⟩⟩⟩<;>first|exact h.elim|(have:=I h.2;simp only[bI];omega)
theorem CZ {a b:PM}: ∀ {m:List iT} {l:List V} {i:Nat} {x:iT},(jx l m).p a b→m[i]?=some x→∃w d,(l.drop (i*4)).take 4=[.int .i64 x.act,.int .i64 x.cO,w,d]∧(qw w d x).p a b:=by
 intro m
 induction m with
 |nil=>intro l i x h I;simp at I
 |cons y m J =>
  intro l i x h I
  rcases l with _|⟨p,_|⟨q,_|⟨w,_|⟨d,l⟩⟩⟩⟩
  ·exact h.elim
  ·exact h.elim
  ·exact h.elim
  ·exact h.elim
  ·cases i with
   |zero =>
    simp at I;subst I
    exact⟨w,d,by rw[show p=.int .i64 y.act from h.1.1.1,show q=.int .i64 y.cO from h.1.1.2];rfl,h.1.2⟩
   |succ i =>
    rw[lK] at I
    obtain⟨u,v,U,h2⟩:=J h.2 I
    exact⟨u,v,by rw[show(i+1)*4=i*4+4 by omega];exact U,h2⟩
section
variable {told:dI} {r p g aq:Nat} {op v x pv:V}
noncomputable def smL : Code:=cC [1,0,1,0,0] ((Tryz.f20.body).getD .skip)
end
theorem wY : dM (List.replicate 512 0)=0:=by rw[dM,aE rfl]
theorem OR : iS (List.replicate 512 0)=[]:=by rw[iS,aE (.inr rfl)]
def fresh (n m f:Nat): bA:=(Pl.fresh f,(Lg.fresh,Dk.fresh n m))
theorem Bv {n m:Nat}(k:Int): (Dk.fresh n m).at k=List.replicate 512 0:=by
 rw[Dk.at,show lookL k (Dk.fresh n m).now=none from rfl]
 simp only[Dk.fresh]
 cases I:(List.replicate n (none:Option (List Nat)))[k.toNat]? with
 |none=>rfl
 |some o =>
  have:=u_ (bu I)
  subst this
  rfl
theorem Fe {n m f:Nat}(k:Int): pgA (fresh n m f) k=List.replicate 512 0:=by
 rw[nF (by rfl)]
 exact Bv k
theorem qx {f:Nat}{x:Fm}(h:(Pl.fresh f).aj[i]?=some x): x=fq:=u_ (bu h)
theorem EI.fresh {n m f:Nat}(hn:n≤65536)(hm:m≤16777216)(hf:1≤f)(Ff:f≤1024): EI n 1 (fresh n m f):=by
 have J:∀x∈(Pl.fresh f).aj,x=fq:=fun x I=>u_ I
 have hlen:(Pl.fresh f).aj.length=f:=gM
 refine⟨⟨⟨⟨(show 0<(Pl.fresh f).aj.length by rw[hlen];omega),(show(Pl.fresh f).aj.length≤1024 by rw[hlen];exact Ff),fun e he=>(by cases he),fun x I=>by rw[J x I];decide,fun x I=>by rw[J x I];decide⟩,Lg.HI,?_⟩,fun x I=>by rw[J x I];rfl,⟨jz,fun k i U=>(by cases U)⟩⟩,⟨?_,jz,fun k i U=>(by cases U),fun i x I=>.inl (by rw[qx I];decide),fun k U=>(by cases U),jz⟩,⟨rfl,aP _,(show(1:Nat)+0≤1*1048600 by decide)⟩,?_⟩
 ·exact⟨(show(-1:Int)<4294967296 by decide),fZ _,hm,fun e he=>(by cases he),fun i b hb=>(by have h1:some b=none:=u_ (bu hb);cases h1),aP _,(show(List.replicate n (none:Option (List Nat))).length≤65536 by rw[gM];exact hn)⟩
 ·exact⟨rfl,(show(-1:Int)<0 by decide),gM,fun k U=>(by cases U),jz,fun k h0 h1=>by show dM ((Dk.fresh n m).at k)=0;rw[Bv];exact wY⟩
 ·have e:ia (Pl.fresh f).aj=0:=by
   rw[ia,List.count_eq_zero]
   intro hh
   obtain⟨x,I,hc⟩:=List.mem_map.1 hh
   rw[J x I] at hc
   cases hc
  show([]:List Wr).length+ia (Pl.fresh f).aj≤_
  rw[e];decide
theorem kJ.fresh {n m f:Nat}: kJ (Am.fresh n m f) (List.replicate n []):=fun k w hw=>by
 rw[Fe,OR]
 exact(u_ (bu hw)).symm
structure W5 (told:dI): Prop where
 w:W2 told
 pr:told 191=some (mP Tryz.prog 191 CX)
theorem W5.wr {told:dI}(h:W5 told): WR told:=⟨h.w.w,h.pr⟩
theorem Sat.W8 {v:V}{e:TypeId}(s:Sat h S)(hj:getA S j=some (j7 k v cs))(hi:i*k+k≤cs.length)(hk:1≤k)(hu:P.underlying t=some (.slice e))(I:bB P e=some k)(ha:isAggT P e=some true):
  ∃id off,indexAddrV P t v (.int .i64 (i:Int))=some (.ptr id off)∧loadV P h e (.ptr id off)=some (.agg ((cs.drop (i*k)).take k))∧∀m c t',((cs.drop (i*k)).take k)[m]?=some c→isAggT P t'=some false→loadV P h t' (.ptr id (off+m))=some c:=by
 rcases s.rowAt hj with⟨_,rfl⟩|⟨id,len,cap,rfl,hl,U⟩
 ·simp at hi;omega
 ·refine⟨id,i*k,?_,SB ha I U rfl hi,fun m c t' J ht=>GG ht U ?_⟩
  ·simp only[indexAddrV,hu,I,eD]
   have:i<len:=by
    have h4:i*k+k=(i+1)*k:=by rw[pe,zP]
    rw[h4,hl] at hi
    exact y9 (yX hi hk)
   rw[show(decide ((0:Int)≤(i:Int))&&decide ((i:Int)<(len:Int)))=true by simp;omega,ak]
   simp
  ·rw[List.getElem?_take] at J
   split at J
   ·rw[ve] at J;rw[gj];exact J
   ·cases J
theorem YB {m:List Wr}{x:Wr}{wt:V}{j1:Nat}(s:Sat h (tN cs m::S))(h1:getA (tN cs m::S) j1=some (.arr 2 wt cs))(J:m[i]?=some x):
  ∃id off u,indexAddrV Tryz.prog 107 wt (.int .i64 (i:Int))=some (.ptr id off)∧loadV Tryz.prog h 128 (.ptr id off)=some (.agg [.int .i64 (x.1:Int),u])∧u≠.bw∧Sat h (.cm u x.2::tN cs m::S):=by
 obtain⟨a,b,q1,q2,U⟩:=s.at (k:=0) rfl
 have hl:=Al U
 have EJ:=(List.getElem?_eq_some_iff.1 J).1
 have key:∀ {m:List Wr} {cs:List V} {i:Nat} {x:Wr} {a b:PM},(tN cs m).p a b→m[i]?=some x→∃u,(cs.drop (i*2)).take 2=[.int .i64 (x.1:Int),u]∧u≠.bw∧(aS.cm u x.2).p a b:=by
  intro m
  induction m with
  |nil=>simp
  |cons y m ih =>
   intro cs i x a b h J
   rcases cs with _|⟨p,_|⟨v,cs⟩⟩<;>first|exact h.elim|skip
   obtain⟨⟨⟨e1,e2⟩,e3⟩,e4⟩:=h
   cases i with
   |zero=>grind
   |succ i =>
    grind
 obtain⟨u,e1,e2,e3⟩:=key U J
 obtain⟨id,off,g1,I⟩:=GX (P:=Tryz.prog) (i:=i) s h1 (by omega) (by decide) yq Cl
 have I:=I Sv
 rw[e1] at I
 refine⟨id,off,u,g1,I,e2,?_⟩
 have s1:=(s.dup (aF.wr _ _)).fR (B:=.cm u x.2) fun a b h=>by
  grind
 exact s1
def layW (c:List Nat): Nat→List Wr→List (Option (List Nat))→List (Option (List Nat))
 |_,[],P=>P
 |i,w::l,P=>layW c (i+1) l (if c.getD i 0%2=0 then P.set w.1 (some w.2) else P)
def tornP (c:List Nat)(k:Nat)(P:List (Option (List Nat))): Option Wr→List (Option (List Nat))
 |none=>P
 |some w=>P.set w.1 (some (dJ (dJ (List.replicate 512 0) 0 ((P.getD w.1 none).getD [])) 0 (w.2.take (c.getD k 0/2%5*128))))
def kE (δ:Dk)(c:List Nat): Nat:=(c.getD 0 0+256*c.getD 1 0)%((δ.log.drop δ.aH++δ.tail).length+1)
def rX (δ:Dk)(c:List Nat): List Nat:=δ.log.take δ.aH++(δ.log.drop δ.aH++δ.tail).take (kE δ c)
def d_ (δ:Dk)(c:List Nat): Dk :=
 { room:=δ.room,ai:=tornP c δ.waiting.length (layW c 0 δ.waiting δ.ai) δ.cW,waiting:=[],now:=[],log:=rX δ c,aH:=(rX δ c).length,mark:=δ.mark,aA := -1,dead:=false,cW:=none,tail:=[] }
theorem aaW {x:Operand}{n:Nat}(U:n<256): binV P h .and t x y (.int .i64 (n:Int)) (.int .i64 1)=some (.int .i64 ((n%2:Nat):Int)):=by
 have I:((n:Int)%(2^(IntKind.i64).bits:Int)).toNat=n:=by grind[IntKind.bits]
 have J:((1:Int)%(2^(IntKind.i64).bits:Int)).toNat=1:=by rfl
 simp only[binV,ikBeq,ak,intV,bitsV,I,J]
 rw[show Nat.land n 1=n%2 from Nat.and_one_is_mod n,wrap_i64 (by omega)]
section
variable {told:dI} {v wt:V} {c:List Nat} {p:Nat}
theorem uG (hT:W told)(s:Sat h S)(hk:getA S k=some X)(hX:cX X (dc v c)): Call ⟨Tryz.prog,told⟩ 61 [v,.int .i64 (i:Int)] h fun r h'=>r=.int .i64 ((c.getD i 0:Nat):Int)∧h'=h:=by
 have I:=s.aL hk hX
 refine Call.of_wp (hT.free _ rfl) Tryz.func61 rfl rfl (zK 9 rfl (zo rfl (aY rfl rfl rfl (bk Tryz.underlying125 I)) ?_))
 by_cases hi:i<c.length
 ·skip
  have J:c[i]?=some (c[i]'hi):=bn _
  have U:c.getD i 0=c[i]'hi:=by grind
  rw[U]
  generalize (c[i]'hi)=b at J
  have pz:b<256:=I.1 b (bu J)
  obtain⟨id,off,e1,e2⟩:=iz I J
  have e3:indexAddrV Tryz.prog 125 v (.int .i64 (i:Int))=some (.ptr id off):=by
   rw[←e1]
   simp only[indexAddrV,Tryz.underlying125,aW]
  refine zB rfl bq (by grind) ?_
  refine zk 6 rfl (zo rfl (dD (r:=.ptr id off) rfl rfl e3) (zl rfl e2 (zo rfl (cj rfl (by exact js Tryz.underlying5 bK (aV (by omega) (by omega)))) ?_)))
  exact zk 2 rfl (WP.ret ⟨aa,_,rfl,rfl,rfl⟩)
 ·skip
  have U:c.getD i 0=0:=by grind
  rw[U]
  refine zC rfl bq (by grind) ?_
  exact zk 7 rfl (WP.ret ⟨aa,_,rfl,rfl,rfl⟩)
noncomputable def crL : Code:=cC [1,1,1,1,0,1,0,0] ((Tryz.f18.body).getD .skip)
theorem Mm (hT:W told){pv:V}{qc:List V}{W:List Wr}(vy:qc.length=12)(AO:nth qc 1=some (.sl nh 0 N (.exact N)))(hW:∀w∈W,w.1<N)(hn:W.length≤268435456)(hX:cX X (dc cv c))(hN:N≤65536): ∀(j i:Nat) (I:List V) (P:List (Option (List Nat))) (h:H) (E:List (Nat×V)) (Q:Ex→List (Nat×V)→H→Prop),
  i+j=W.length→I.length=N→P.length=N→Sat h (tN cs W::pt q (.cells 12 qc false)::pt nh (.cells N I false)::each k_ I P::.arr 2 wt cs::X::S) →
  Has E [(0,pv),(5,cv),(6,.ptr q 0),(36,wt),(37,.int .i64 W.length),(38,.int .i64 i)] →
  (∀E' h' I U,Has E' [(0,pv),(5,cv),(6,.ptr q 0)]→U=layW c i (W.drop i) P→I.length=N→U.length=N→Sat h' (tN cs W::pt q (.cells 12 qc false)::pt nh (.cells N I false)::each k_ I U::.arr 2 wt cs::X::S)→Q (.exit 0) E' h') →
  WP ⟨Tryz.prog,told⟩ 172 (.loop crL) E h Q:=by
 intro j
 induction j with
 |zero =>
  intro i I P h E Q hi hl hp s hE hq
  refine WP.loop (WP.has hE (zg rfl (zC rfl bq (by grind) ?_)))
  exact zk 3 rfl (WP.exit (hq _ _ _ _ ⟨rfl,rfl,rfl,aa⟩ (by rw[va (by omega)];rfl) hl hp s))
 |succ j ih =>
  intro i I P h E Q hi hl hp s hE hq
  have hx:W[i]?=some (W[i]'(by omega)):=bn _
  generalize (W[i]'(by omega))=x at hx
  have hxn:=hW x (bu hx)
  have J:W.drop i=x::W.drop (i+1):=by
   grind[List.drop_eq_getElem_cons]
  obtain⟨id,off,u,g1,g2,hu,s1⟩:=YB s (j1:=4) rfl hx
  have SS:=s1.aL (k:=0) rfl (cI _ _)
  have W9:=SS.cells
  have EW:=dr SS
  have s:=s1.ae [2,2,2,0,0,0,0]
  dsimp only[bringA,getA,aQ] at s
  refine WP.loop (WP.has hE (zg rfl (zB rfl bq (by grind) ?_)))
  refine zk 5 rfl (WP.block (zK 3 rfl (zo rfl (dD (r:=.ptr id off) rfl rfl g1) (zl rfl g2 ?_))))
  refine ay.cV s rfl rfl rfl (cK FR) (fun p8 h s => ?_)
  dsimp only[V.cells,List.length_cons,List.length_nil,Nat.reduceAdd] at s
  refine za rfl (zS rfl (s.iq (j:=0) rfl Cl rfl (by simp only[jB,jC,W9.2];rfl)) ?_)
  rintro h s
  dsimp only[setA] at s
  refine zk 5 rfl (zc rfl (uG hT s (k:=7) rfl hX) ?_)
  rintro r h' ⟨rfl,rfl⟩
  have b8:c.getD i 0<256:=by
   rw[qI]
   cases hc:c[i]? with
   |none=>decide
   |some b=>exact(s.aL (k:=7) rfl hX).1 b (bu hc)
  refine zb rfl (aaW b8) ?_
  by_cases tE:c.getD i 0%2=0
  ·skip
   have SU:indexAddrV Tryz.prog 106 (.sl nh 0 N (.exact N)) (.int .i64 (x.1:Int))=some (.ptr nh x.1):=by
    simp only[indexAddrV,tM,ju]
    grind
   refine zB rfl bZ (by grind) ?_
   refine zk 2 rfl ?_
   have s0:=s
   refine WP.drawn [af,af,af,af,af,af,af,af,af,af] rfl (by kernel_rfl) (by kernel_rfl) ?_
   refine zM rfl (zN rfl (zF rfl (mV _ _) (zL rfl (s.ld (k:=1) rfl rD AO) (zF rfl (DT _ _) (zL rfl (s.ld (k:=0) rfl dy rfl) (zF rfl (DU _ _) (zL rfl (s.ld (k:=0) rfl bL rfl) (zO rfl (dD (r:=.ptr nh x.1) rfl rfl SU) (au.ik rfl rfl rfl (OpR.dg rfl rfl rfl (s.dV (k:=2) rfl ju hl hxn W9.1 W9.2)) ?_)))))))))
   rintro v h ⟨rfl,s⟩
   dsimp only[setA] at s
   refine au.nil ⟨⟨aa,aa,aa,aa,aa,aa,aa,aa,aa,aa,aa⟩,?_⟩
   refine zr rfl (zb rfl (by exact bP (aV (by omega) (by omega))) ?_)
   refine zm rfl (zv ?_)
   have s3:Sat _ (each k_ I P::.cm u x.2::_):=s.ae [3,3]
   have s4:=s3.two (C:=each k_ (I.set x.1 u) (P.set x.1 (some x.2))) (aF.each aF.k_ _ _) (aF.cm _ _) fun a b q1 q2=>Be q1 ⟨hu,q2⟩
   dsimp only[bringA,getA,aQ] at s4
   refine ih (i+1) _ (P.set x.1 (some x.2)) _ _ Q (by omega) (by grind) (by grind) ((s4.ae [4,2,2,0,1,1]).del 6) ⟨rfl,rfl,rfl,rfl,rfl,rfl,aa⟩ (fun E' h' I U fW hP h1 h2 s'=>hq E' h' I U fW ?_ h1 h2 s')
   rw[hP,J,layW,aE tE]
  ·skip
   refine zC rfl bZ (by grind) ?_
   refine zv (zj rfl (WP.skip (zr rfl (zb rfl (by exact bP (aV (by omega) (by omega))) ?_))))
   refine zm rfl (zv ?_)
   refine ih (i+1) _ P _ _ Q (by omega) hl hp (((s.ae [5,1,1,1,2,2]).del 6).del 6) ⟨rfl,rfl,rfl,rfl,rfl,rfl,aa⟩ (fun E' h' I U fW hP h1 h2 s'=>hq E' h' I U fW ?_ h1 h2 s')
   rw[hP,J,layW,ah tE]
theorem Jx {n:Nat}(s:Sat h (pt i (.cells n cs false)::pt j (.cells n ds false)::S))(I:cs.length=n)(J:ds.length=n):
  ∃h',copyV Tryz.prog h 106 (.sl i 0 n (.exact n)) (.sl j 0 n (.exact n))=some (.int .i64 (n:Int),h')∧Sat h' (pt i (.cells n ds false)::pt j (.cells n ds false)::S):=by
 refine⟨h.put i (some (.cells n ds false)),?_,s.put (k:=0) rfl⟩
 have r1:=s.row (k:=0) rfl
 have r2:=s.row (k:=1) rfl
 simp only[copyV,tM,ju,rdN,wrN,r1,r2,e_]
 grind[aZ]
theorem OpR.UE {n:Nat}(hP:C.P=Tryz.prog)(s:Sat h (pt i (.cells n cs false)::pt j (.cells n ds false)::S))(I:cs.length=n)(J:ds.length=n)(U:o.op=.call cl)(hc:cl.callee=.builtin .copy)
 (hty:cl.argTypes = #[106,106])(ha:lookArgs E cl.args.toList=some [.sl i 0 n (.exact n),.sl j 0 n (.exact n)]): OpR C E h o fun _ h₁=>Sat h₁ (pt i (.cells n ds false)::pt j (.cells n ds false)::S):=by
 obtain⟨h₁,e1,e2⟩:=Jx s I J
 refine OpR.builtin U hc ha ⟨.int .i64 (n:Int),h₁,?_,e2⟩
 simp only[builtinV,hP,hty,e1]
theorem aaX {x:Operand}{b:Nat}(I:0<b)(hw:a<9223372036854775808): binV P h .quo t x y (.int .i64 (a:Int)) (.int .i64 (b:Int))=some (.int .i64 ((a/b:Nat):Int)):=by
 simp only[binV,ikBeq,ak,intV]
 have:intBeq (b:Int) 0=false:=by rw[nY];simp;omega
 have J:a/b≤a:=Nat.div_le_self a b
 grind[aV]
theorem Ri (I:jE h v l)(J:1≤l.length): slR v 0 l.length=v:=by
 rcases I.2 with⟨_,rfl⟩|⟨id,cs,c,rfl,_,U⟩|⟨id,rfl,_,_⟩<;>grind[slR]
theorem Mn (s:Sat h (bH v l::X::S))(hX:cX X (dc w m))(hl:1≤l.length)(hm:a+m.length≤l.length):
  ∃(n:Nat) (h':H),copyV Tryz.prog h 23 (slR v a l.length) w=some (.int .i64 (n:Int),h')∧Sat h' (bH v (dJ l a m)::X::S):=by
 by_cases hz:m=[]
 ·subst hz
  have hv:=s.aL (k:=1) rfl hX
  have J:=(s.buf (k:=0) rfl).1
  rw[show dJ l a []=l by simp[dJ]]
  obtain⟨id,c,cap,rest,rfl,s1,hc,hf⟩:=s.kq hl
  have U:∃o' c',slR (.sl id 0 l.length cap) a l.length=.sl id o' (l.length-a) c'∧o'≤l.length:=by
   cases cap with
   |exact c=>exact⟨_,_,rfl,by grind⟩
   |rest e alt=>exact⟨_,_,rfl,by omega⟩
  obtain⟨o',c',U,ho⟩:=U
  rw[U]
  rcases hv.2 with⟨rfl|⟨a,rfl⟩,_⟩|⟨nh,I,acn,n2,Kg,Zz,rfl,_⟩
  ·grind[copyV,Tryz.underlying23,gF]
  ·grind[copyV,Tryz.underlying23,gF]
  ·have hr:rdN h nh I 0=some []:=hv.rdN.2
   have SG:Nat.min 0 (l.length-a)=0:=Nat.zero_min _
   refine⟨0,h.put id (some (.cells c (ofBytes l++rest) false)),?_,hf _ _ rfl J (s1.put (k:=0) rfl)⟩
   simp only[copyV,aW,gF,dz,SG,zJ,hr,wrN,s1.row (k:=0) rfl]
   grind[aZ,eF,List.take_append_drop]
 ·have h1:1≤m.length:=by
   grind
  obtain⟨h',e1,e2⟩:=GV s hX (a:=a) (b:=l.length) (by omega) (by omega) h1<;>grind[List.take_of_length_le]
theorem OpR.OS {d:V}(U:C.P=Tryz.prog)(s:Sat h (bH v l::X::S))(hX:cX X (dc w m))(hl:1≤l.length)(hm:a+m.length≤l.length)
 (I:o.op=.call cl)(hc:cl.callee=.builtin .copy)(J:cl.argTypes = #[23,23])(ha:lookArgs E cl.args.toList=some [d,w])(hd:d=slR v a l.length): OpR C E h o fun _ h₁=>Sat h₁ (bH v (dJ l a m)::X::S):=by
 subst hd
 obtain⟨n,h₁,e1,e2⟩:=Mn s hX hl hm
 refine OpR.builtin I hc ha ⟨.int .i64 (n:Int),h₁,?_,e2⟩
 simp only[builtinV,U,J,e1]
theorem OpR.SV (hP:C.P=Tryz.prog)(s:Sat h (bH v l::X::S))(hX:cX X (dc w m))(U:1≤l.length)(hm:m.length≤l.length)
 (I:o.op=.call cl)(hc:cl.callee=.builtin .copy)(J:cl.argTypes = #[23,23])(ha:lookArgs E cl.args.toList=some [v,w]): OpR C E h o fun _ h₁=>Sat h₁ (bH v (dJ l 0 m)::X::S) :=
 OpR.OS hP s hX U (by omega) I hc J ha (Ri (s.buf (k:=0) rfl) U).symm
theorem W_ {o:Option (List Nat)}: cX (k_ v o) (dc v (o.getD [])):=by
 cases o with
 |none=>exact fun m r h=>.inl ⟨by simp,.inl ⟨.inl h,rfl⟩⟩
 |some b=>exact fun m r h=>.inr h.2
noncomputable def crT : Code:=cC [1,1,1,1,1,0,1,0] ((Tryz.f18.body).getD .skip)
theorem Mo (hT:W told){w:Wr}(s:Sat h (aD q uZ::aD p δ::X::S))(hX:cX X (dc cv c))(hn:δ.waiting.length≤268435456)(ht:δ.cW=some w)(hw:w.1<uZ.ai.length)(HR:w.2.length=512)(hN:uZ.ai.length≤65536)
 (ni:∀(i:Nat) (b:List Nat),uZ.ai[i]?=some (some b)→b.length=512)(hE:Has E [(0,.ptr p 0),(5,cv),(6,.ptr q 0)])
 (hq:∀E' h',Has E' [(0,.ptr p 0),(5,cv),(6,.ptr q 0)]→Sat h' (aD q { uZ with ai:=tornP c δ.waiting.length uZ.ai (some w) }::aD p δ::X::S)→Q .normal E' h'): WP ⟨Tryz.prog,told⟩ 172 crT E h Q:=by
 obtain⟨pg,wt,nw,lg,mk,tn,tl,ops,s⟩:=bp.1 (s.ae [1])
 rw[ht] at s
 obtain⟨tid,s⟩:=fU.1 (s.ae [6])
 obtain⟨u,s⟩:=fU.1 s
 have s:=ej.1 s
 dsimp only[List.cons_append,List.nil_append] at s
 obtain⟨rfl,s⟩:=eP.1 s
 obtain⟨Z4,Z5,Z6,Z7,Z8,Z9,Z_,Xa,s⟩:=bp.1 (s.ae [9])
 obtain⟨nh,I,rfl,s⟩:=gq.1 (s.ae [1])
 obtain⟨Xb,s⟩:=my.1 (s.ae [13])
 have s:=s.ae [4,12,10,2,2,8,0]
 have HM:Xb.length=δ.waiting.length*2:=by
  obtain⟨a,b,q1,q2,q3⟩:=s.at (k:=7) rfl
  exact Al q3
 have hb:c.getD δ.waiting.length 0<256:=by
  rw[qI]
  cases hc:c[δ.waiting.length]? with
  |none=>decide
  |some b=>exact(s.aL (k:=19) rfl hX).1 b (bu hc)
 have i_:I.length=uZ.ai.length:=by
  obtain⟨a,b,q1,q2,q3⟩:=s.at (k:=4) rfl
  exact oR q3
 have U:I[w.1]?=some (I[w.1]'(by omega)):=bn _
 have B7:uZ.ai[w.1]?=some (uZ.ai[w.1]'hw):=bn _
 generalize (I[w.1]'(by omega))=v1 at U
 generalize hxx:(uZ.ai[w.1]'hw)=x at B7
 have kC:uZ.ai.getD w.1 none=x:=by grind
 have H6:(x.getD []).length≤512:=by
  cases x<;>grind
 refine WP.has hE (zK 5 rfl (zY s 1 tg Ck rfl (zo rfl (aY rfl rfl rfl (s.iG (n:=δ.waiting.length) (j:=6) rfl HM (by decide) yq)) ?_)))
 refine zc rfl (uG hT (i:=δ.waiting.length) s (k:=19) rfl hX) ?_
 rintro r h' ⟨rfl,rfl⟩
 refine zb rfl (aaX (a:=c.getD δ.waiting.length 0) (b:=2) (by decide) (by omega)) ?_
 refine zb rfl (Qu (a:=c.getD δ.waiting.length 0/2) (b:=5) (by decide)) ?_
 refine zo rfl (aJ (r:=.int .i64 ((c.getD δ.waiting.length 0/2%5*128:Nat):Int)) rfl rfl (by simp only[binV,ikBeq,ak,intV];rw[show((c.getD δ.waiting.length 0/2%5:Nat):Int)*128=((c.getD δ.waiting.length 0/2%5*128:Nat):Int) by rfl,wrap_i64 (by omega)])) ?_
 refine zk 4 rfl (ay.any rfl rfl rfl (OpR.FX (c:=512) rfl s rfl rfl rfl rfl (by decide)) ?_)
 intro z h s
 refine zk 3 rfl ?_
 have s1:=((s.ae [5]).dup (aF.each aF.k_ _ _)).fR (B:=k_ v1 x) fun a b q=>Bd q U B7
 have s:=s1.ae [2,0,1,1,1,1]
 have mL:nth I w.1=some v1:=by rw[gj];exact U
 have SU:indexAddrV Tryz.prog 106 (.sl nh 0 uZ.ai.length (.exact uZ.ai.length)) (.int .i64 (w.1:Int))=some (.ptr nh w.1):=by
  simp only[indexAddrV,tM,ju]
  grind
 have s0:=s
 refine WP.drawn [af,af,af,af,af,af,af,af,af,af,af,af,af,af,af] rfl (by kernel_rfl) (by kernel_rfl) ?_
 refine zM rfl (zM rfl (zN rfl (zF rfl (mV _ _) (zL rfl (s.ld (k:=2) rfl rD rfl) (zM rfl (zN rfl (zF rfl (tJ _ _) (zL rfl (s.ld (k:=3) rfl FQ rfl) (zN rfl (zF rfl (DT _ _) (zL rfl (s.ld (k:=4) rfl dy rfl) (zO rfl (dD (r:=.ptr nh w.1) rfl rfl SU) (zL rfl (s.ld (k:=5) rfl bL mL) (au.any rfl rfl rfl rfl (OpR.SV rfl s W_ (by grind) (by grind) rfl rfl rfl rfl) ?_))))))))))))))
 intro r h s
 refine au.nil ⟨⟨aa,aa,aa,aa,aa,aa,aa,aa,aa,aa,aa,aa,aa,aa,aa,aa⟩,?_⟩
 have SW:(dJ (List.replicate 512 0) 0 (x.getD [])).length=512:=by grind[jm]
 have SS:=s.aL (k:=7) rfl (cI _ _)
 have J:c.getD δ.waiting.length 0/2%5*128≤w.2.length:=by omega
 refine zK 5 rfl (zY s 3 tJ FQ rfl (zn rfl (zY s 4 DU bL rfl (zm rfl (zo rfl (cG (p:=none) (q:=some (.int .i64 ((c.getD δ.waiting.length 0/2%5*128:Nat):Int))) (m:=none) (p':=none) (q':=some (c.getD δ.waiting.length 0/2%5*128)) (m':=none) rfl rfl rfl rfl rfl (by rfl) rfl (iC SS (b:=c.getD δ.waiting.length 0/2%5*128) J).1) ?_)))))
 refine ay.any rfl rfl rfl (OpR.SV rfl (s.ae [0,6]) (wF (cI _ _) (b:=c.getD δ.waiting.length 0/2%5*128) J) (by omega) (by grind) rfl rfl rfl rfl) ?_
 intro r h s
 have s:=s.fO
 have R2:=s.aL (k:=0) rfl (cI _ _)
 have hl4:(dJ (dJ (List.replicate 512 0) 0 (x.getD [])) 0 (w.2.take (c.getD δ.waiting.length 0/2%5*128))).length=512:=by grind[jm]
 refine zv (WP.drawn [af,af,af,af,af,af,af,af,af,af,af,af,af,af] rfl (by kernel_rfl) (by kernel_rfl) ?_)
 refine zM rfl (zN rfl (zF rfl (mV _ _) (zL rfl (s.ld (k:=3) rfl rD rfl) (zM rfl (zN rfl (zF rfl (tJ _ _) (zL rfl (s.ld (k:=4) rfl FQ rfl) (zN rfl (zF rfl (DT _ _) (zL rfl (s.ld (k:=5) rfl dy rfl) (zM rfl (zO rfl (dD (r:=.ptr nh w.1) rfl rfl SU) (au.ik rfl rfl rfl (OpR.dg rfl rfl rfl (s.dV (k:=6) rfl ju i_ hw R2.cells.1 R2.cells.2)) ?_)))))))))))))
 rintro r h ⟨rfl,s⟩
 refine au.nil ⟨⟨aa,aa,aa,aa,aa,aa,aa,aa,aa,aa,aa,aa,aa,aa,aa⟩,?_⟩
 have JU:z≠.bw:=fun e=>by
  grind[ku]
 have t1:=(s.ae [7,0]).two (C:=each k_ (I.set w.1 z) (tornP c δ.waiting.length uZ.ai (some w))) (aF.each aF.k_ _ _) (aF.cm _ _) fun a b q1 q2=>by
  rw[tornP,kC]
  exact Be q1 ⟨JU,q2⟩
 dsimp only[uu,aQ,bringA,getA,setA] at t1
 have su:(tornP c δ.waiting.length uZ.ai (some w)).length=uZ.ai.length:=by rw[tornP,ep]
 have t2:=gq.2 ⟨nh,I.set w.1 z,rfl,by rw[su];exact t1.ae [6,0]⟩
 rw[su] at t2
 dsimp only[aQ,bringA] at t2
 have t3:=bp (δ:={ uZ with ai:=tornP c δ.waiting.length uZ.ai (some w) }).2 ⟨_,_,_,_,_,_,_,_,t2.ae [3,0,6,6,6,6,6,6]⟩
 dsimp only[aQ,bringA] at t3
 have t4:=my.2 ⟨_,t3.ae [5,5]⟩
 dsimp only[aQ,bringA] at t4
 have t5:Sat h (Ao (.ptr tid 0) (some w)::_):=fU.2 ⟨tid,fU.2 ⟨u,ej.2 (eP.2 ⟨rfl,t4.ae [5,2]⟩)⟩⟩
 dsimp only[aQ] at t5
 have t6:=bp.2 ⟨_,_,_,_,_,_,_,_,by rw[ht];exact(t5.del 3).ae [3,3,1,2,2,2,0,1,0,0]⟩
 dsimp only[aQ,bringA,getA] at t6
 exact hq _ _ ⟨rfl,rfl,rfl,aa⟩ (t6.ae [1])
end
section
variable {told:dI} {v wt:V} {c:List Nat} {p:Nat}
noncomputable def crE : Code:=cC [1,1,1,1,1,1] ((Tryz.f18.body).getD .skip)
theorem Fg (J:W told)(s:Sat h (aD q uZ::aD p δ::X::S))(hX:cX X (dc cv c))(U:δ.Ok)(htl:δ.tail.length≤16777216)(H7:δ.mark.length≤64)(hE:Has E [(0,.ptr p 0),(5,cv),(6,.ptr q 0)])
 (hq:∀E' h',look E' 4=some (.ptr q 0)→Sat h' (aD q { uZ with log:=rX δ c,aH:=(rX δ c).length,mark:=δ.mark }::aD p δ::X::S)→Q .ret E' h'): WP ⟨Tryz.prog,told⟩ 172 crE E h Q:=by
 have hlen:=U.len
 have aco:=U.aH
 obtain⟨pg,wt,nw,lg,mk,tn,tl,ops,s⟩:=bp.1 (s.ae [1])
 have htv:=dr (s.aL (k:=7) rfl (cI _ _))
 refine WP.has hE (zw ?_)
 have s0:=s
 refine WP.drawn [af,af,af,af,af,af,af,af,af,af,some (0,2),some (0,2),some (0,2),some (0,2),none,none] rfl (by kernel_rfl) (by kernel_rfl) ?_
 refine zM rfl (zN rfl (zF rfl (jh _ _) (zL rfl (by exact s.ld (k:=0) rfl bL rfl) ?_)))
 refine zM rfl (zN rfl (zF rfl (nU _ _) (zL rfl (by exact s.ld (k:=0) rfl dy rfl) ?_)))
 refine zO rfl (cG (p:=some (.int .i64 (δ.aH:Int))) (q:=none) (m:=none) (p':=some δ.aH) (q':=none) (m':=none) rfl rfl rfl rfl (by simp[iA,bndV]) rfl rfl (eA (s.buf (k:=4) rfl).view (a:=δ.aH) (by omega)).1) ?_
 refine au.any rfl rfl rfl rfl (OpR.call rfl rfl rfl rfl (gT J (s.ae [4]) (nX (bJ _ _) (a:=δ.aH) (by omega)) (by grind))) ?_
 intro u h s
 dsimp only[uu,aQ,bringA] at s
 have s1:=s
 refine zM rfl (zN rfl (zF rfl (Ba _ _) (zL rfl (by exact s.ld (k:=2) rfl bL rfl) ?_)))
 refine au.any rfl rfl rfl rfl (OpR.oO rfl (s.ae [0,7]) (cI _ _) rfl rfl rfl rfl (by grind)) ?_
 intro r h s
 dsimp only[aQ,bringA] at s
 have s2:=s
 refine zA rfl ?_
 refine au.nil ⟨⟨aa,aa,aa,aa,aa,aa,aa,aa,aa,aa,fun _ _=>.inr ⟨rfl,⟨_,bj rfl⟩,aU _ rfl⟩,fun _ _=>.inr ⟨rfl,⟨_,jU rfl⟩,aU _ rfl⟩,fun _ _=>.inr ⟨rfl,⟨_,jg rfl (Ba _ _)⟩,aU _ rfl⟩,dR (.inr ⟨rfl,⟨_,aT rfl (by exact s0.ld (k:=0) rfl bL rfl)⟩,htv⟩) (.inr ⟨rfl,⟨_,aT rfl (by exact s1.ld (k:=2) rfl bL rfl)⟩,htv⟩),aa,aa,aa⟩,?_⟩
 have E4:(δ.log.drop δ.aH++δ.tail).length=δ.log.length-δ.aH+δ.tail.length:=by simp
 have I:=(s.buf (k:=0) rfl).view
 refine zg rfl (zm rfl (ay.call rfl rfl rfl rfl rfl rfl rfl (uG J (i:=0) s (k:=10) rfl hX) ?_))
 rintro v h' ⟨rfl,rfl⟩
 refine zm rfl (ay.call rfl rfl rfl rfl rfl rfl rfl (uG J (i:=1) s (k:=10) rfl hX) ?_)
 rintro v h' ⟨rfl,rfl⟩
 have hb:∀i,c.getD i 0<256:=fun i=>by
  rw[qI]
  cases hc:c[i]? with
  |none=>decide
  |some b=>exact(s.aL (k:=10) rfl hX).1 b (bu hc)
 have Ge:=hb 0
 have Gi:=hb 1
 refine zb rfl (by exact A9 (aV (by omega) (by omega))) ?_
 refine zb rfl (by exact bP (aV (by omega) (by omega))) ?_
 refine zm rfl (zo rfl (aY rfl rfl rfl (bk aW I)) (zb rfl (by exact bP (aV (by omega) (by omega))) ?_))
 refine zb rfl (Qu (a:=c.getD 0 0+256*c.getD 1 0) (b:=(δ.log.drop δ.aH++δ.tail).length+1) (by omega)) ?_
 refine za rfl (zv (zw ?_))
 have hk:kE δ c≤(δ.log.drop δ.aH++δ.tail).length:=Nat.le_of_lt_succ (zQ _ (by omega))
 obtain⟨Z4,Z5,Z6,Z7,Z8,Z9,Z_,Xa,s⟩:=bp.1 (s.ae [9])
 have s:=s.ae [0,10,3,8,6,3,9]
 dsimp only[uu,aQ,bringA,getA] at s
 have s0:=s
 have HH:=dr I
 have AQ:=dr (iC I (b:=kE δ c) hk).2.1
 refine WP.drawn [some (0,3),af,af,af,af,af,af,af,af,af,af,some (0,2),some (0,2),some (0,2),af,af,af,af] rfl (by kernel_rfl) (by kernel_rfl) ?_
 refine zM rfl (zM rfl (zN rfl (zF rfl (jh _ _) (zL rfl (by exact s.ld (k:=1) rfl bL rfl) ?_))))
 refine zM rfl (zN rfl (zF rfl (nU _ _) (zL rfl (by exact s.ld (k:=1) rfl dy rfl) ?_)))
 refine zO rfl (cG (p:=none) (q:=some (.int .i64 (δ.aH:Int))) (m:=none) (p':=none) (q':=some δ.aH) (m':=none) rfl rfl rfl rfl rfl (by simp[iA,bndV]) rfl (iC (s.buf (k:=3) rfl).view (b:=δ.aH) (by omega)).1) ?_
 refine au.any rfl rfl rfl rfl (OpR.call rfl rfl rfl rfl (gT J (s.ae [3]) (wF (bJ _ _) (b:=δ.aH) (by omega)) (by grind))) ?_
 intro u h s
 dsimp only[aQ,bringA] at s
 have s1:=s
 refine zM rfl (zM rfl (zO rfl (cG (p:=none) (q:=some (.int .i64 (kE δ c:Int))) (m:=none) (p':=none) (q':=some (kE δ c)) (m':=none) rfl rfl rfl rfl rfl (by simp[iA,bndV]) rfl (by exact(iC (s.buf (k:=5) rfl).view (b:=kE δ c) hk).1)) ?_))
 refine au.any rfl rfl rfl rfl (OpR.oO rfl (s.ae [0,4]) (wF (bJ _ _) (b:=kE δ c) hk) rfl rfl rfl rfl (by grind)) ?_
 intro w h s
 dsimp only[aQ,bringA] at s
 have s2:=s
 have hv:=(s.buf (k:=0) rfl).view.cells
 refine zN rfl (zF rfl (jh _ _) (au.ik rfl rfl rfl (OpR.dg rfl rfl rfl (s.dV (k:=3) rfl ju rfl (by decide) hv.1 hv.2)) ?_))
 rintro v h ⟨rfl,s⟩
 dsimp only[Nat.reduceAdd,List.set,setA] at s
 refine au.nil ⟨⟨fun _ _=>.inr ⟨rfl,⟨_,bj rfl⟩,aU _ rfl⟩,aa,aa,aa,aa,aa,aa,aa,aa,aa,aa,fun _ _=>.inr ⟨rfl,⟨_,bj rfl⟩,HH⟩,fun _ _=>.inr ⟨rfl,⟨_,bj rfl⟩,aU _ rfl⟩,dR (.inr ⟨rfl,⟨_,cG (p:=none) (q:=some (.int .i64 (kE δ c:Int))) (m:=none) (p':=none) (q':=some (kE δ c)) (m':=none) rfl rfl rfl rfl rfl (by simp[iA,bndV]) rfl (by exact(iC (s0.buf (k:=4) rfl).view (b:=kE δ c) hk).1)⟩,AQ⟩) (.inr ⟨rfl,⟨_,cG (p:=none) (q:=some (.int .i64 (kE δ c:Int))) (m:=none) (p':=none) (q':=some (kE δ c)) (m':=none) rfl rfl rfl rfl rfl (by simp[iA,bndV]) rfl (by exact(iC (s1.buf (k:=5) rfl).view (b:=kE δ c) hk).1)⟩,AQ⟩),aa,aa,aa,aa,aa⟩,?_⟩
 refine zg rfl (zm rfl (zm rfl (zn rfl (zf rfl (jh _ _) (zl rfl (by exact s.ld (k:=3) rfl bL rfl) ?_)))))
 refine zo rfl (aY rfl rfl rfl (by exact bk aW (s.aL (k:=0) rfl (bJ _ _)))) ?_
 refine zn rfl (zf rfl (nU _ _) ?_)
 refine ay.dg rfl rfl rfl rfl rfl (by exact s.dV (k:=3) rfl jt rfl (by decide) rfl rfl) (fun h s => ?_)
 dsimp only[Nat.reduceAdd,List.set,setA] at s
 refine zv (zg rfl (zm rfl (zm rfl (zn rfl (zf rfl (vH _ _) (zl rfl (by exact s.ld (k:=4) rfl bL rfl) ?_))))))
 refine ay.call rfl rfl rfl rfl rfl rfl rfl (gT J (s.ae [7]) (cI _ _) (by omega)) ?_
 intro m h s
 have s:=s.fO
 dsimp only[aQ,bringA] at s
 have hv:=(s.aL (k:=0) rfl (cI _ _)).cells
 refine zn rfl (zf rfl (vH _ _) (ay.dg rfl rfl rfl rfl rfl (s.dV (k:=5) rfl ju rfl (by decide) hv.1 hv.2) ?_))
 intro h s
 dsimp only[Nat.reduceAdd,List.set,setA] at s
 refine zv (zg rfl (zm rfl (za rfl (zv (WP.ret ?_)))))
 have s:=(((s.del 8).del 7).del 3).ae [4,5,5,5,2,0,3,3,2,3,3,3,1,0,1,0,0]
 dsimp only[aQ,bringA,getA] at s
 have s:=bp.2 ⟨_,_,_,_,_,_,_,_,(bp (δ:={ uZ with log:=rX δ c,aH:=(rX δ c).length,mark:=δ.mark }).2 ⟨_,_,_,_,_,_,_,_,s⟩).ae [1,1,1,1,1,1,1,1,0]⟩
 exact hq _ _ rfl (s.ae [1])
theorem Ej : ∀ {l:List Wr} {i:Nat} {P:List (Option (List Nat))},(layW c i l P).length=P.length:=by
 intro l
 induction l<;>grind[layW]
theorem KI : ∀ {l:List Wr} {i:Nat} {P:List (Option (List Nat))},(∀w∈l,w.2.length=512)→(∀(j:Nat) (b:List Nat),P[j]?=some (some b)→b.length=512)→∀(j:Nat) (b:List Nat),(layW c i l P)[j]?=some (some b)→b.length=512:=by
 intro l
 induction l with
 |nil=>intro i P _ h;exact h
 |cons w l I =>
  intro i P J h
  refine I (fun x U=>J x (b9 _ U)) ?_<;>grind
structure Dk.Cr (δ:Dk): Prop where
 ok:δ.Ok
 wait:∀w∈δ.waiting,w.1<δ.ai.length∧w.2.length=512
 many:δ.waiting.length≤268435456
 cW:∀w,δ.cW=some w→w.1<δ.ai.length∧w.2.length=512
 tail:δ.log.length+δ.tail.length≤16777216
 mark:δ.mark.length≤64
theorem Bw (hT:W told)(s:Sat h (aD p δ::X::S))(hX:cX X (dc cv c))(hc:δ.Cr):
  Call ⟨Tryz.prog,told⟩ 18 [.ptr p 0,cv] h fun v h'=>∃q,v=.ptr q 0∧Sat h' (aD q (d_ δ c)::aD p δ::X::S):=by
 obtain⟨J,hW,hn,ht,U,H7⟩:=hc
 have U:δ.tail.length≤16777216:=by omega
 obtain⟨pg,wt,nw,lg,mk,tn,tl,ops,s⟩:=bp.1 s
 obtain⟨id,cs,rfl,s⟩:=gq.1 (s.ae [1])
 have sP:=J.many
 have tQ:cs.length=δ.ai.length:=by
  obtain⟨a,b,q1,q2,q3⟩:=s.at (k:=1) rfl
  exact oR q3
 refine Call.of_wp (hT.free _ rfl) Tryz.func18 rfl rfl (zg rfl (za rfl (zv (zg rfl (zm rfl (za rfl (zv (zw ?_))))))))
 have s:=s.ae [2]
 dsimp only[bringA,getA,aQ] at s
 have s0:=s
 refine WP.drawn [af,af,af,af,af,af,af,af,af,af,af] rfl (by kernel_rfl) (by kernel_rfl) ?_
 refine zM rfl (zN rfl (zF rfl (mV _ _) (zL rfl (by exact s.ld (k:=0) rfl rD rfl) ?_)))
 refine zO rfl (aY rfl rfl rfl (Ci tM)) (zM rfl (zN rfl (zF rfl (Kc _ _) (zL rfl (by exact s.ld (k:=0) rfl dy rfl) ?_))))
 refine au.any rfl rfl rfl rfl (OpR.call rfl rfl rfl rfl (G6 (n:=δ.ai.length) (m:=δ.room) hT s (by omega))) ?_
 rintro v h ⟨q,rfl,s⟩
 refine zA rfl ?_
 refine au.nil ⟨⟨aa,aa,aa,aa,aa,aa,aa,aa,aa,aa,aa,aa⟩,?_⟩
 obtain⟨Z4,Z5,Z6,Z7,Z8,Z9,Z_,Xa,s⟩:=bp.1 s
 obtain⟨nh,Kg,e2,s⟩:=gq.1 (s.ae [1])
 dsimp only[bringA,getA,aQ,Dk.fresh] at s e2
 rw[gM] at s e2
 subst e2
 have i_:Kg.length=δ.ai.length:=by
  obtain⟨a,b,q1,q2,q3⟩:=s.at (k:=1) rfl<;>grind[oR,List.length_replicate]
 obtain⟨Xb,s⟩:=my.1 (s.ae [12])
 dsimp only[bringA,getA,aQ] at s
 have HM:Xb.length=δ.waiting.length*2:=by
  obtain⟨a,b,q1,q2,q3⟩:=s.at (k:=1) rfl
  exact Al q3
 have s:=s.ae [4,10,2,9]
 dsimp only[bringA,getA,aQ] at s
 refine zw ?_
 have s0:=s
 refine WP.drawn [af,af,af,af,af,af,af,af,af] rfl (by kernel_rfl) (by kernel_rfl) ?_
 refine zM rfl (zN rfl (zF rfl (mV _ _) (zL rfl (by exact s.ld (k:=0) rfl rD rfl) ?_)))
 refine zM rfl (zN rfl (zF rfl (mV _ _) (zL rfl (by exact s.ld (k:=1) rfl rD rfl) ?_)))
 refine au.any rfl rfl rfl rfl (OpR.UE rfl (s.ae [2,2]) i_ tQ rfl rfl rfl rfl) ?_
 intro r h s
 dsimp only[uu,aQ,bringA] at s
 refine au.nil ⟨⟨aa,aa,aa,aa,aa,aa,aa,aa,aa,aa⟩,?_⟩
 refine zw (zg rfl (zm rfl (zn rfl (zf rfl (tg _ _) (zl rfl (by exact s.ld (k:=3) rfl Ck rfl) ?_)))))
 refine zo rfl (aY rfl rfl rfl (s.iG (n:=δ.waiting.length) (j:=4) rfl HM (by decide) yq)) ?_
 refine zm rfl (zv (WP.block ?_))
 have s:=((s.ae [13]).dup (aF.each aF.k_ _ _)).ae [7,4,2,0,3,15]
 dsimp only[aQ,bringA,getA] at s
 refine Mm hT rfl rfl (fun w hw=>(hW w hw).1) hn hX sP δ.waiting.length 0 cs δ.ai h _ _ (gw _) tQ rfl s ⟨rfl,rfl,rfl,rfl,rfl,rfl,aa⟩ (fun E h Kg P hE hP h1 h2 s => ?_)
 rw[fY] at hP
 subst hP
 refine WP.has hE ?_
 have t1:=gq.2 ⟨nh,Kg,rfl,by rw[h2];exact s.ae [2,2]⟩
 rw[h2] at t1
 dsimp only[aQ,bringA] at t1
 have t2:=bp (δ:={ Dk.fresh δ.ai.length δ.room with ai:=layW c 0 δ.waiting δ.ai }).2 ⟨_,_,_,_,_,_,_,_,t1.ae [2,0,7,7,7,7,7,7]⟩
 dsimp only[aQ,bringA] at t2
 have t3:=gq.2 ⟨id,cs,rfl,t2.ae [5,4]⟩
 dsimp only[aQ,bringA] at t3
 have t4:=(my.2 ⟨_,t3.ae [3,2]⟩).del 5
 dsimp only[aQ,bringA] at t4
 have s:Sat h (aD q { Dk.fresh δ.ai.length δ.room with ai:=layW c 0 δ.waiting δ.ai }::aD p δ::X::S):=(bp.2 ⟨_,_,_,_,_,_,_,_,t4.ae [4,1,0,2,2,2,2,2,0,0]⟩).ae [1]
 have sk:=s
 obtain⟨pg3,wt3,nw3,lg3,mk3,tn3,tl3,acp,s⟩:=bp.1 (s.ae [1])
 dsimp only[uu,aQ,bringA] at s
 have hr:∀E' h',look E' 4=some (.ptr q 0)→Sat h' (aD q (d_ δ c)::aD p δ::X::S)→∃v,resLE Tryz.prog E' h' [.tmp 4]=some v∧∃q,v=.ptr q 0∧Sat h' (aD q (d_ δ c)::aD p δ::X::S):=fun E' h' e s'=>⟨_,ny e,q,rfl,s'⟩
 refine zw (zg rfl (zm rfl (zn rfl (zf rfl (tJ _ _) (zl rfl (by exact s.ld (k:=0) rfl FQ rfl) ?_)))))
 cases I:δ.cW with
 |none =>
  rw[I] at s
  obtain⟨rfl,_⟩:=eP.1 (s.ae [6])
  refine ay.mN rfl rfl rfl (aJ rfl rfl (FY Tryz.underlying109)) (rfl) (zv (zj rfl (WP.skip ?_)))
  refine Fg hT sk hX J U H7 ⟨rfl,rfl,rfl,aa⟩ (fun E' h' e s'=>⟨aa,hr E' h' e ?_⟩)
  rw[d_,I]
  exact s'
 |some w =>
  rw[I] at s
  obtain⟨tid,s⟩:=fU.1 (s.ae [6])
  obtain⟨u,s⟩:=fU.1 s
  obtain⟨rfl,_⟩:=eP.1 (ej.1 s)
  refine ay.oc rfl rfl rfl (aJ rfl rfl (SM Tryz.underlying109)) (rfl) (zv (zi rfl ?_))
  refine Mo (w:=w) hT sk hX hn I (by grind) (ht w I).2 (by grind) (KI (fun w hw=>(hW w hw).2) J.ai) ⟨rfl,rfl,rfl,aa⟩ (fun E h hE s => ?_)
  refine Fg hT s hX J U H7 hE (fun E' h' e s'=>⟨aa,hr E' h' e ?_⟩)
  rw[d_,I]
  exact s'
end
structure bt where
 kd:Nat
 tx:Nat
 pv:Nat
 nx:Nat
 data:List Nat
 aR:List ct
variable {u dK gu r1 r2:List bt} {r:bt}
def bt.bd (r:bt): List Nat:=dF r.kd r.tx r.pv r.nx r.data r.aR
def bt.len (r:bt): Nat:=8+r.bd.length
structure bt.Ok (r:bt): Prop where
 good:dY r.kd r.aR=true
 rd:wV r.tx r.pv r.nx r.data r.aR
 len:r.bd.length≤1048576
theorem bt.Ok.kd (h:r.Ok): r.kd<256:=by
 have:=h.good
 simp[dY] at this
 omega
def logB : Nat→List bt→List Nat
 |_,[]=>[]
 |n,r::l=>iD n r.bd++logB (n+r.len) l
def gI : Nat→List bt→List Nat
 |_,[]=>[]
 |a,r::l=>a::gI (a+r.len) l
def qy (j:List Nat): Prop:=j.length<8∨j.length-8<leN (j.take 4)
theorem Rj {x y:List Nat}{b:Nat}(I:x.length=a): ((x++y).take (a+b)).drop a=y.take b:=by
 grind
section
variable {told:dI} {v:V}
theorem Mp (U:W told){pre j:List Nat}{n:Nat}(hj:qy j)(ha:pre.length=a)(J:l=pre++j)(KF:l.length≤1073741824)(s:Sat h (X::S))(I:cX X (dc v l)):
  Call ⟨Tryz.prog,told⟩ 125 [v,.int .i64 (a:Int),.int .u64 (n:Int)] h fun r h'=>r=.bD [.agg (iH 0 0 0 0 .bw .bw),.int .i64 0,.int .i64 4]∧Sat h' (X::S):=by
 have hlen:l.length=a+j.length:=by rw[J,bT,ha]
 have W7:=bk (P:=Tryz.prog) (h:=h) aW (s.aL (k:=0) rfl I)
 have m1:(l.take (a+4)).drop a=j.take 4:=by rw[J];exact Rj ha
 refine Call.of_wp (U.free _ rfl) Tryz.func125 rfl rfl (zg rfl ?_)
 refine ay.cV s rfl rfl rfl (cK nT) (fun p6 h s => ?_)
 refine zk 7 rfl (zC rfl bq (by simp) ?_)
 refine zk 3 rfl (zo rfl (aY rfl rfl rfl (bk aW (s.aL (k:=1) rfl I))) (zC rfl dS (by simp;omega) ?_))
 refine zk 8 rfl (zo rfl (aY rfl rfl rfl (bk aW (s.aL (k:=1) rfl I))) (zm rfl (zb rfl (by exact jV (aV (by omega) (by omega))) ?_)))
 by_cases h8:j.length<8
 ·skip
  refine zB rfl bq (by simp;omega) ?_
  refine zk 4 rfl (zo rfl (dn rfl (by rw[sL];rfl)) ?_)
  refine zS rfl (s.iq (j:=0) rfl fE rfl rfl) (fun h s => ?_)
  refine zk 3 rfl ?_
  refine WP.ret ⟨aa,_,wT rfl (s.fN (k:=0) rfl kY fE) rfl rfl,?_⟩
  exact⟨rfl,s.drop⟩
 have gW:j.length-8<leN (j.take 4):=by rcases hj with h|h;exact absurd h h8;exact h
 have hw4:leN (j.take 4)<4294967296:=by
  have:=yw (j.take 4) (fun b hb=>(s.aL (k:=1) rfl I).1 b (by rw[J];exact List.mem_append.2 (.inr (lN hb))))
  rwa [gv,zH (by omega)] at this
 refine zC rfl bq (by simp;omega) ?_
 refine zk 8 rfl (zb rfl (by exact bP (aV (by omega) (by omega))) ?_)
 refine zo rfl (cG (p:=some (.int .i64 (a:Int))) (q:=some (.int .i64 ((a:Int)+4))) (m:=none) (p':=some a) (q':=some (a+4)) (m':=none) rfl rfl rfl rfl (by rw[gG (by omega)];rfl) (by rw[gG (by omega)];congr 2<;>omega) rfl (iM (s.aL (k:=1) rfl I) (a:=a) (b:=a+4) (by omega) (by omega)).1) ?_
 refine zc rfl (pS U s (k:=1) rfl (mF I (a:=a) (b:=a+4) (by omega) (by omega)) (by rw[m1,gv];omega)) ?_
 rintro r h' ⟨rfl,rfl⟩
 rw[m1]
 refine zk 6 rfl ?_
 by_cases D7:1048576<leN (j.take 4)
 ·skip
  refine zB rfl dS (by simp;omega) ?_
  refine zk 14 rfl (zo rfl (dn rfl (by rw[sL];rfl)) ?_)
  refine zS rfl (s.iq (j:=0) rfl fE rfl rfl) (fun h s => ?_)
  refine zk 3 rfl ?_
  refine WP.ret ⟨aa,_,wT rfl (s.fN (k:=0) rfl kY fE) rfl rfl,?_⟩
  exact⟨rfl,s.drop⟩
 refine zC rfl dS (by simp;omega) ?_
 refine zk 2 rfl (zo rfl (cj rfl (by exact js cD bK (aV (by omega) (by omega)))) ?_)
 refine zm rfl (zo rfl (aY rfl rfl rfl (bk aW (s.aL (k:=1) rfl I))) (zm rfl (zb rfl (by exact jV (aV (by omega) (by omega))) ?_)))
 refine zb rfl (by exact jV (aV (by omega) (by omega))) ?_
 refine zB rfl dS (by simp;omega) ?_
 refine zk 5 rfl (zo rfl (dn rfl (by rw[sL];rfl)) ?_)
 refine zS rfl (s.iq (j:=0) rfl fE rfl rfl) (fun h s => ?_)
 refine zk 3 rfl ?_
 refine WP.ret ⟨aa,_,wT rfl (s.fN (k:=0) rfl kY fE) rfl rfl,?_⟩
 exact⟨rfl,s.drop⟩
end
def Dk.oM (δ:Dk)(n:Nat): Int×Dk :=
 if δ.dead=true then(9,δ) else if ¬n≤δ.log.length then(1,δ) else if δ.aA=0 then(9,δ.die) else(0,{ δ.cQ with log:=δ.log.take n,aH:=n })
def Dk.cJ (δ:Dk)(n:Nat): Int×Dk:=if n<δ.log.length then δ.oM n else(0,δ)
def Dk.cy (δ:Dk)(n:Nat): Int×Dk :=
 if (δ.cJ n).1≠0 then δ.cJ n else if (δ.cJ n).2.aH<n then(δ.cJ n).2.bQ else(0,(δ.cJ n).2)
def fX (base aq:Nat)(rs:List bt): Lg:={ base:=base,b:=logB base rs,br:=gI 0 rs,forced:=(logB base rs).length,check:=aq }
theorem rY (n:Nat)(b:List Nat): (iD n b).length=8+b.length:=by rw[qY]
theorem Jy {v:V}(I:c<1073741824)(he:makeSliceV Tryz.prog h 23 (.int .i64 0) (.int .i64 (c:Int))=some (v,h')): v=.sl h.next 0 0 (.exact c):=by
 obtain⟨i,hi,i1,i2⟩:=vE
 simp only[makeSliceV,aW,hi,qQ,i1,i2,V.cells,bI,dz,eD,e_] at he
 rw[show(decide ((0:Int)≤0)&&decide ((0:Int)≤(c:Int))&&decide ((c:Int)<1073741824)&&Nat.ble 1 4096&&Nat.beq (0+1) 1&&Nat.ble 1 1)=true by simp;omega,ak] at he
 exact(congrArg Prod.fst (cA he)).symm
theorem H8 {n:Nat}{x v:V}(J:View h x m)(I:n+m.length≤c)(he:appendV Tryz.prog h #[23,23] (.sl id 0 n (.exact c)) x=some (v,h')): v=.sl id 0 (n+m.length) (.exact c):=by
 obtain⟨i,hi,i1,i2⟩:=vE
 unfold appendV at he
 simp only[aW,hi,qQ,i1,i2,V.cells,bI,dz,B_ J] at he
 rw[show(Nat.ble 1 1&&Nat.ble 1 4096&&Nat.beq (0+1) 1)=true from rfl,ak] at he
 cases hm:Nat.beq m.length 0 with
 |true =>
  rw[hm,ak] at he
  rw[beq_iff.1 hm];exact(congrArg Prod.fst (cA he)).symm
 |false =>
  rw[hm,bf,aZ.2 I,ak] at he
  split at he
  ·exact(congrArg Prod.fst (cA he)).symm
  ·cases he
theorem OT {n:Nat}(hn:n≤l.length): cX (bH (.sl id 0 l.length (.exact c)) l) (bH (.sl id 0 n (.exact c)) (l.take n)):=by
 intro m r ⟨h1,h2⟩
 have U:(l.take n).length=n:=by rw[gv];omega
 refine⟨fun b hb=>h1 b (lN hb),.inr (.inl ?_)⟩
 rcases h2 with⟨e,_⟩|⟨J,cs,c',e,hg,hc⟩|⟨J,e,_⟩
 ·cases e
 ·injection e with e1 _ _ I
  injection I with I
  subst e1;subst I
  refine⟨_,ofBytes (l.drop n)++cs,_,by rw[U],?_,?_⟩
  ·rw[←cE,←rB,List.take_append_drop];exact hg
  ·rw[bT,fu,nN,U];omega
 ·injection e with _ _ _ I;cases I
section
variable {told:dI} {p:Nat}
theorem Jz (hT:W told){x:V}(s:Sat h (X::S))(J:cX X (dc x l))(hl:l.length<1073741824):
  Call ⟨Tryz.prog,told⟩ 62 [x] h fun v h'=>∃id,v=.sl id 0 l.length (.exact l.length)∧Sat h' (bH v l::X::S):=by
 refine Call.of_wp (hT.free _ rfl) Tryz.func62 rfl rfl (zK 7 rfl (zo rfl (aY rfl rfl rfl (bk aW (s.aL (k:=0) rfl J))) ?_))
 obtain⟨v1,h1,e1,s1⟩:=EO s hl
 have U:=Jy hl e1
 subst U
 refine ay.any rfl rfl rfl (OpR.of (R:=fun v h'=>v=.sl h.next 0 0 (.exact l.length)∧h'=h1) (rC rfl rfl e1) ⟨rfl,rfl⟩) ?_
 rintro v h' ⟨rfl,rfl⟩
 refine zm rfl ?_
 obtain⟨v2,h2,e2,s2⟩:=Co s1 J (by simp;omega)
 have I:=H8 (s1.aL (k:=1) rfl J) (by omega) e2
 rw[gw] at I
 subst I
 refine ay.any rfl rfl rfl (OpR.of (R:=fun v h'=>v=.sl h.next 0 l.length (.exact l.length)∧h'=h2) (mD rfl rfl e2) ⟨rfl,rfl⟩) ?_
 rintro v h' ⟨rfl,rfl⟩
 exact zk 2 rfl (WP.ret ⟨aa,_,rfl,_,rfl,s2⟩)
theorem Mq (I:W told)(s:Sat h (aD p δ::S))(J:δ.dead=false)(U:δ.log.length<1073741824): Call ⟨Tryz.prog,told⟩ 124 [.ptr p 0] h fun v h' =>
  ∃id,v=.bD [.sl id 0 δ.log.length (.exact δ.log.length),.int .i64 0]∧Sat h' (bH (.sl id 0 δ.log.length (.exact δ.log.length)) δ.log::aD p δ::S):=by
 obtain⟨pg,wt,nw,lg,mk,tn,tl,ops,s⟩:=bp.1 s
 refine Call.of_wp (I.free _ rfl) Tryz.func124 rfl rfl (zK 10 rfl (zf rfl (ji _ _) (zh rfl ((aT rfl (s.ld (k:=0) rfl jQ rfl))) (J) (zk 7 rfl (zY s 0 jh bL rfl (zc rfl (Jz I (s.ae [4]) (bJ _ _) U) ?_))))))
 rintro v h ⟨id,rfl,s⟩
 exact zk 3 rfl (WP.ret ⟨aa,_,rfl,id,rfl,(bp.2 ⟨pg,wt,nw,lg,mk,tn,tl,ops,s.ae [2,2,2,2,1,1,1,1,0]⟩).ae [1]⟩)
end
section
variable {told:dI} {v b pv:V} {j:List Nat} {p base aq n:Nat}
theorem aaY {m:Nat}: slR (.sl id 0 m (.exact c)) 0 n=.sl id 0 n (.exact c):=by
 simp only[slR,zJ,qM,lR]
 cases Nat.beq c 0<;>rfl
theorem Dk.Ok.cJ (h:δ.Ok): (δ.cJ n).2.Ok:=by
 have J:=h.len
 unfold Dk.cJ Dk.oM
 split
 ·split
  ·exact h
  ·split
   ·exact h
   ·split
    ·exact h.die
    ·have I:=h.cQ
     exact⟨I.aA,by show(δ.log.take n).length≤_;rw[gv];omega,I.room,I.now,I.ai,by show n≤(δ.log.take n).length;rw[gv];omega,I.many⟩
 ·exact h
theorem Dk.Ok.cy (h:δ.Ok): (δ.cy n).2.Ok:=by
 unfold Dk.cy
 split
 ·exact h.cJ
 ·split
  ·exact h.cJ.bQ
  ·exact h.cJ
theorem Xc (hT:W told)(s:Sat h (aD p δ::S))(J:δ.Ok): Call ⟨Tryz.prog,told⟩ 126 [.ptr p 0,.int .i64 (n:Int)] h fun v h'=>v=.int .i64 (δ.oM n).1∧Sat h' (aD p (δ.oM n).2::S):=by
 have hl:=J.len
 refine(Qn hT s J.aA (by omega)).mono fun v h' hr => ?_
 unfold Dk.oM
 rcases hr with⟨I,rfl,s⟩|⟨I,h1,rfl,s⟩|⟨I,h1,h2,U,rfl,s⟩|⟨I,h1,h2,U,rfl,s⟩
 ·rw[aE I];exact⟨rfl,s⟩
 ·rw[ah (by rw[I];decide),aE (by omega)];exact⟨rfl,s⟩
 ·rw[ah (by rw[I];decide),ah (by omega),aE U];exact⟨rfl,s⟩
 ·rw[ah (by rw[I];decide),ah (by omega),ah U];exact⟨rfl,s⟩
theorem Rk (U:WR told){pre:List Nat}(I:r.Ok)(ha:pre.length=a)(hl:l=pre++(iD n r.bd++rest))(J:l.length≤1073741824)(s:Sat h (X::S))(hX:cX X (dc v l)):
  Call ⟨Tryz.prog,told⟩ 125 [v,.int .i64 (a:Int),.int .u64 (n:Int)] h fun x h'=>∃dt ch cs,x=.bD [.agg (iH r.kd r.tx r.pv r.nx dt ch),.int .i64 ((a+r.len:Nat):Int),.int .i64 0]∧Sat h' (X::bH dt r.data::.arr 4 ch cs::cZ cs r.aR::S):=by
 refine(HW U I.good I.kd I.rd rfl I.len ha hl J s hX).mono fun x h' hx => ?_
 have e:a+r.len=a+8+(dF r.kd r.tx r.pv r.nx r.data r.aR).length:=by rw[bt.len,bt.bd];omega
 rw[e]
 exact hx
theorem KJ {kd n:Int}{pv:Nat}{dt ch:V}(I:dt.beq dt=true)(J:ch.beq ch=true): (V.bD [.agg (iH kd tx pv nx dt ch),.int .i64 n,.int .i64 e]).beq (V.bD [.agg (iH kd tx pv nx dt ch),.int .i64 n,.int .i64 e])=true:=by
 simp only[V.beq,V.beqL,iH,I,J,lu,dL,jA,ak]
noncomputable def woL : Code:=cC [1,1,1,1,1,1,1,0,0,0] ((Tryz.f63.body).getD .skip)
theorem Mr (hT:WR told)(KF:l.length≤16777216)(wZ:base+l.length≤1099511627776)(hj:qy j): ∀(rs:List bt) (a:Nat) (pre st:List Nat) (J:V) (h:H) (E:List (Nat×V)) (Q:Ex→List (Nat×V)→H→Prop),
  (∀r∈rs,r.Ok)→l=pre++(logB (base+a) rs++j)→pre.length=a→st.length≤a→Sat h (pt q (.cells 6 (yx p base b J 0 aq) false)::bH b l::.arr 1 J (gU st)::S) →
  Has E [(0,pv),(6,.ptr q 0),(7,.int .i64 (a:Int))] →
  (∀E' h' I,Has E' [(0,pv),(6,.ptr q 0),(7,.int .i64 ((a+(logB (base+a) rs).length:Nat):Int))]→Sat h' (pt q (.cells 6 (yx p base b I 0 aq) false)::bH b l::.arr 1 I (gU (st++gI a rs))::S)→Q (.exit 1) E' h') →
  WP ⟨Tryz.prog,told⟩ 134 (.loop woL) E h Q:=by
 have hW:=hT.w
 intro rs
 induction rs with
 |nil =>
  intro a pre st J h E Q _ hl ha _ s hE hq
  have hq:∀E' h',Has E' [(0,pv),(6,.ptr q 0),(7,.int .i64 (a:Int))]→Sat h' (pt q (.cells 6 (yx p base b J 0 aq) false)::bH b l::.arr 1 J (gU st)::S)→Q (.exit 1) E' h':=fun E' h' h1 h2=>hq E' h' J h1 (by rw[gI,cS];exact h2)
  have hlen:l.length=a+j.length:=by rw[hl,logB,eE,bT,ha]
  refine WP.loop (WP.has hE (zK 6 rfl (zY s 0 eH bL rfl (zo rfl (aY rfl rfl rfl (bk aW (s.aL (k:=1) rfl (bJ _ _)))) ?_))))
  by_cases hz:j.length=0
  ·skip
   refine zC rfl bq (by simp;omega) ?_
   exact zk 2 rfl (WP.exit (hq _ _ ⟨rfl,rfl,rfl,aa⟩ s))
  ·skip
   refine zB rfl bq (by simp;omega) ?_
   refine zk 3 rfl (WP.block (zw ?_))
   have s0:=s
   have NF:=dr (s.buf (k:=1) rfl).view
   refine WP.drawn [af,af,af,af,af,af,af,af,af,af,af,af,af,some (1,2),some (1,2),some (1,3),some (1,3),af,af,af,af] rfl (by kernel_rfl) (by kernel_rfl) ?_
   refine zM rfl (zN rfl (zF rfl (eH _ _) (zL rfl (s.ld (k:=0) rfl bL rfl) (zM rfl (zM rfl (zN rfl (zF rfl (gQ _ _) (zL rfl (s.ld (k:=0) rfl fA rfl) (zM rfl (au.op rfl rfl rfl (by simp only[isEff,cD]) (cj rfl (by exact js bK cD (fe (by omega) (by omega)))) ?_))))))))))
   refine zO rfl (aJ rfl rfl (by exact bP (fe (by omega) (by omega)))) ?_
   refine au.any rfl rfl rfl rfl (OpR.call rfl rfl rfl rfl (Mp (n:=base+a) (a:=a) hW hj ha hl (by omega) (s.ae [1]) (bJ _ _))) ?_
   rintro x h ⟨rfl,s⟩
   dsimp only[yx,aQ,bringA] at s
   have s1:=s
   have U:=KJ (kd:=0) (tx:=0) (pv:=0) (nx:=0) (dt:=.bw) (ch:=.bw) (n:=0) (e:=4) rfl rfl
   have HH:=Ar (kd:=0) (tx:=0) (pv:=0) (nx:=0) (dt:=.bw) (ch:=.bw) rfl rfl
   refine zM rfl (zO rfl (bN rfl rfl) (zO rfl (bN rfl rfl) (zO rfl (bN rfl rfl) (au.any rfl rfl rfl rfl (OpR.cV s (cK nT)) ?_))))
   rintro v h ⟨p8,rfl,s⟩
   dsimp only[V.cells,List.length_cons,List.length_nil,Nat.reduceAdd] at s
   have s2:=s
   refine au.ik rfl rfl rfl (OpR.dg rfl rfl rfl (s.iq (j:=0) rfl fE rfl rfl)) ?_
   rintro v h ⟨rfl,s⟩
   dsimp only[setA] at s
   refine zA rfl (zA rfl ?_)
   refine au.nil ⟨⟨aa,aa,aa,aa,aa,aa,aa,aa,aa,aa,aa,aa,aa,fun _ _=>.inr ⟨rfl,⟨_,bj rfl⟩,U⟩,fun _ _=>.inr ⟨rfl,⟨_,bN rfl rfl⟩,HH⟩,fun _ _=>.inr ⟨rfl,⟨_,bN rfl rfl⟩,aU _ rfl⟩,fun _ _=>.inr ⟨rfl,⟨_,bN rfl rfl⟩,aU _ rfl⟩,aa,aa,aa,aa,aa⟩,?_⟩
   exact zK 4 rfl (zB rfl aX (rfl) (zk 2 rfl (WP.exit (hq _ _ ⟨rfl,rfl,rfl,aa⟩ ((s.del 0).ae [1,0,0])))))
 |cons r rs ih =>
  intro a pre st J h E Q qa hl ha fM s hE hq
  have hr:=qa r cn
  have E4:(iD (base+a) r.bd).length=r.len:=by rw[rY];rfl
  have hlen:l.length=a+(r.len+((logB (base+a+r.len) rs).length+j.length)):=by rw[hl,logB];simp only[bT,ha,E4];omega
  have hr8:8≤r.len:=by rw[bt.len];omega
  refine WP.loop (WP.has hE (zK 6 rfl (zY s 0 eH bL rfl (zo rfl (aY rfl rfl rfl (bk aW (s.aL (k:=1) rfl (bJ _ _)))) (zB rfl bq (by simp;omega) ?_)))))
  refine zk 3 rfl (WP.block (zw ?_))
  have s0:=s
  have NF:=dr (s.buf (k:=1) rfl).view
  refine WP.drawn [af,af,af,af,af,af,af,af,af,af,af,af,af,some (1,2),some (1,2),some (1,3),some (1,3),af,af,af,af] rfl (by kernel_rfl) (by kernel_rfl) ?_
  refine zM rfl (zN rfl (zF rfl (eH _ _) (zL rfl (s.ld (k:=0) rfl bL rfl) (zM rfl (zM rfl (zN rfl (zF rfl (gQ _ _) (zL rfl (s.ld (k:=0) rfl fA rfl) (zM rfl (au.op rfl rfl rfl (by simp only[isEff,cD]) (cj rfl (by exact js bK cD (fe (by omega) (by omega)))) ?_))))))))))
  refine zO rfl (aJ rfl rfl (by exact bP (fe (by omega) (by omega)))) ?_
  refine au.any rfl rfl rfl rfl (OpR.call rfl rfl rfl rfl (Rk (r:=r) (n:=base+a) (a:=a) (rest:=logB (base+a+r.len) rs++j) hT hr ha (by rw[hl,logB,cE]) (by omega) (s.ae [1]) (bJ _ _))) ?_
  rintro x h ⟨dt,ch,cs,rfl,s⟩
  dsimp only[yx,aQ,bringA] at s
  have lE:=(s.buf (k:=1) rfl).view.cells
  have kg:=s.jW (j:=2) rfl
  have AL:=dr (s.buf (k:=1) rfl).view
  have fM:[V.int .i64 (r.kd:Int),V.int .u64 (r.tx:Int),V.int .u64 (r.pv:Int),V.int .u64 (r.nx:Int),dt,ch].all storable=true:=mO lE.2 kg.2.1
  have U:=KJ (kd:=r.kd) (tx:=r.tx) (pv:=r.pv) (nx:=r.nx) (n:=((a+r.len:Nat):Int)) (e:=0) AL kg.2.2
  have HH:=Ar (kd:=r.kd) (tx:=r.tx) (pv:=r.pv) (nx:=r.nx) AL kg.2.2
  have s1:=s
  refine zM rfl (zO rfl (bN rfl rfl) (zO rfl (bN rfl rfl) (zO rfl (bN rfl rfl) (au.any rfl rfl rfl rfl (OpR.cV s (cK nT)) ?_))))
  rintro v h ⟨p8,rfl,s⟩
  dsimp only[V.cells,List.length_cons,List.length_nil,Nat.reduceAdd] at s
  have s2:=s
  refine au.ik rfl rfl rfl (OpR.dg rfl rfl rfl (s.iq (j:=0) rfl fE rfl fM)) ?_
  rintro v h ⟨rfl,s⟩
  dsimp only[setA] at s
  refine zA rfl (zA rfl ?_)
  refine au.nil ⟨⟨aa,aa,aa,aa,aa,aa,aa,aa,aa,aa,aa,aa,aa,fun _ _=>.inr ⟨rfl,⟨_,bj rfl⟩,U⟩,fun _ _=>.inr ⟨rfl,⟨_,bN rfl rfl⟩,HH⟩,fun _ _=>.inr ⟨rfl,⟨_,bN rfl rfl⟩,aU _ rfl⟩,fun _ _=>.inr ⟨rfl,⟨_,bN rfl rfl⟩,aU _ rfl⟩,aa,aa,aa,aa,aa⟩,?_⟩
  refine zK 4 rfl (zC rfl aX (rfl) ?_)
  have s:=((((s.ae [5,5,1]).del 3).del 3).del 3).del 3
  dsimp only[bringA,getA,aQ] at s
  refine zk 7 rfl (zY s 0 iW ng rfl (zm rfl ?_))
  obtain⟨i1,kI,jd,qj⟩:=wO
  obtain⟨iv,h1,e1,s1⟩:=kr (P:=Tryz.prog) (k:=1) (x:=.int .i64 (a:Int)) s eC EN jt rfl (by decide) (by decide) rfl rfl
  dsimp only[V.cells] at s1
  refine ay.any rfl rfl rfl (OpR.of (R:=fun v h'=>v=iv∧h'=h1) (mE rfl e1) ⟨rfl,rfl⟩) ?_
  rintro v h' ⟨rfl,rfl⟩
  obtain⟨I,h2,e2,s2⟩:=iN (s1.ae [2,0]) eC kI EN jd (by omega) rfl (by decide) (by simp only[j_,bI,dz];omega)
  dsimp only[aQ,bringA] at s2
  refine ay.any rfl rfl rfl (OpR.of (R:=fun v h'=>v=I∧h'=h2) (mD rfl rfl e2) ⟨rfl,rfl⟩) ?_
  rintro v h' ⟨rfl,rfl⟩
  have hv:=s2.jW (j:=0) rfl
  refine zk 2 rfl (zf rfl (iW _ _) (zS rfl (s2.dV (k:=2) rfl LG rfl (by decide) hv.1 hv.2.1) ?_))
  intro h s
  dsimp only[Nat.reduceAdd,List.set,setA] at s
  refine za rfl (zv ?_)
  have s:=(s.ae [2,2,0]).del 3
  refine ih (a+r.len) (pre++iD (base+a) r.bd) (st++[a]) _ _ _ Q (fun x hx=>qa x (b9 _ hx)) (by rw[hl,logB];simp only[cE,nO]) (by rw[bT,ha,E4]) (by simp;omega) (by rw[show gU (st++[a])=gU st++[.int .i64 (a:Int)] by simp[gU]];exact s) ⟨rfl,rfl,rfl,aa⟩ (fun E' h' I fW s' => ?_)
  refine hq E' h' I ?_ ?_
  ·rw[logB,bT,E4,←nO,nO base]
   exact fW
  ·rw[gI,List.append_cons]
   exact s'
noncomputable def woE : Code:=cC [1,1,1,1,1,1,1,1,1] ((Tryz.f63.body).getD .skip)
theorem C0 (hT:W told){st:List Nat}{sv:V}(s:Sat h (pt q (.cells 6 (yx p base b sv 0 aq) false)::bH b l::.arr 1 sv (gU st)::aD p δ::S))(hf:δ.aA<4294967296)(hE:Has E [(0,.ptr p 0),(6,.ptr q 0)]){y:Int×Dk}(J:y=if δ.aH<l.length then δ.bQ else(0,δ))
 (h1:∀E' h',y.1≠0→look E' 2=some .cH→look E' 3=some (.int .i64 y.1)→Sat h' (aD p y.2::S)→Q .ret E' h')
 (h2:∀E' h',y.1=0→look E' 2=some (.ptr q 0)→look E' 3=some (.int .i64 0)→Sat h' (bh q p { base:=base,b:=l,br:=st,forced:=l.length,check:=aq }::aD p y.2::S)→Q .ret E' h'):
  WP ⟨Tryz.prog,told⟩ 134 woE E h Q:=by
 refine WP.has hE (zK 2 rfl ?_)
 have U:=s
 have I:=dr (s.buf (k:=1) rfl).view
 refine WP.drawn [none,none,some (0,2),some (0,2),some (0,2),some (0,2),some (0,2),none] rfl (by kernel_rfl) (by kernel_rfl) ?_
 refine zM rfl (au.any rfl rfl rfl rfl (OpR.call rfl rfl rfl rfl (AM hT (s.ae [3]))) ?_)
 rintro v h' ⟨rfl,rfl⟩
 refine zM rfl (zN rfl (zF rfl (eH _ _) (zL rfl (s.ld (k:=0) rfl bL rfl) (zO rfl (aY rfl rfl rfl (bk aW (s.aL (k:=1) rfl (bJ _ _)))) ?_))))
 by_cases hc:δ.aH<l.length
 ·skip
  rw[aE hc] at J
  refine au.oc rfl rfl rfl rfl (aJ rfl rfl bq) (by rw[show δ.wI=δ.aH from rfl];simp;omega) ?_
  refine au.nil ⟨⟨aa,aa,fun _ _=>.inr ⟨rfl,⟨_,bj rfl⟩,aU _ rfl⟩,fun _ _=>.inr ⟨rfl,⟨_,jU rfl⟩,aU _ rfl⟩,fun _ _=>.inr ⟨rfl,⟨_,jg rfl (eH _ _)⟩,aU _ rfl⟩,dR (.inr ⟨rfl,⟨_,aT rfl (U.ld (k:=0) rfl bL rfl)⟩,I⟩) (.inr ⟨rfl,⟨_,aT rfl (s.ld (k:=0) rfl bL rfl)⟩,I⟩),dR (.inr ⟨rfl,⟨_,aY rfl rfl rfl (bk aW (U.aL (k:=1) rfl (bJ _ _)))⟩,aU _ rfl⟩) (.inr ⟨rfl,⟨_,aY rfl rfl rfl (bk aW (s.aL (k:=1) rfl (bJ _ _)))⟩,aU _ rfl⟩),aa,aa⟩,?_⟩
  refine zK 4 rfl (zc rfl (T3 hT (s.ae [3]) hf) ?_)
  rintro v h ⟨rfl,s⟩
  rw[←J] at s
  rw[←J]
  by_cases h0:y.1=0
  ·skip
   rw[h0]
   refine zk 5 rfl (zC rfl aX (rfl) (zk 8 rfl (zY s 1 eH bL rfl (zo rfl (aY rfl rfl rfl (bk aW (s.aL (k:=2) rfl (bJ _ _)))) (zn rfl (zf rfl (pK _ _) ?_))))))
   refine zS rfl (by exact s.dV (k:=1) rfl jt rfl (by decide) rfl rfl) (fun h s => ?_)
   exact zk 7 rfl (WP.ret (h2 _ _ h0 rfl rfl (dw.2 ⟨_,_,s.ae [1,1,1,0]⟩)))
  ·skip
   refine zk 5 rfl (zB rfl aX (by simpa using h0) ?_)
   exact zk 8 rfl (WP.ret (h1 _ _ h0 rfl rfl (((s.del 3).del 2).del 1)))
 ·skip
  rw[ah hc] at J
  subst J
  refine au.mN rfl rfl rfl rfl (aJ rfl rfl bq) (by rw[show δ.wI=δ.aH from rfl];simp;omega) ?_
  refine au.nil ⟨⟨aa,aa,fun _ _=>.inr ⟨rfl,⟨_,bj rfl⟩,aU _ rfl⟩,fun _ _=>.inr ⟨rfl,⟨_,jU rfl⟩,aU _ rfl⟩,fun _ _=>.inr ⟨rfl,⟨_,jg rfl (eH _ _)⟩,aU _ rfl⟩,dR (.inr ⟨rfl,⟨_,aT rfl (U.ld (k:=0) rfl bL rfl)⟩,I⟩) (.inr ⟨rfl,⟨_,aT rfl (s.ld (k:=0) rfl bL rfl)⟩,I⟩),dR (.inr ⟨rfl,⟨_,aY rfl rfl rfl (bk aW (U.aL (k:=1) rfl (bJ _ _)))⟩,aU _ rfl⟩) (.inr ⟨rfl,⟨_,aY rfl rfl rfl (bk aW (s.aL (k:=1) rfl (bJ _ _)))⟩,aU _ rfl⟩),aa,aa⟩,?_⟩
  refine zK 7 rfl (zY s 0 eH bL rfl (zo rfl (aY rfl rfl rfl (bk aW (s.aL (k:=1) rfl (bJ _ _)))) (zn rfl (zf rfl (pK _ _) ?_))))
  refine zS rfl (by exact s.dV (k:=0) rfl jt rfl (by decide) rfl rfl) (fun h s => ?_)
  exact zk 7 rfl (WP.ret (h2 _ _ rfl rfl rfl (dw.2 ⟨_,_,s⟩)))
noncomputable def woR : Code:=cC [1,1,1,1,1,1] ((Tryz.f63.body).getD .skip)
theorem Fh (hT:WR told){rs:List bt}{xy:Nat}(hb:b=.sl xy 0 δ.log.length (.exact δ.log.length))(s:Sat h (pt q (.cells 6 (yx p base b .bw 0 aq) false)::bH b δ.log::aD p δ::S))(U:δ.Ok)(wZ:base+δ.log.length≤1099511627776)
 (I:δ.log=logB base rs++j)(qa:∀r∈rs,r.Ok)(hj:qy j)(hE:Has E [(0,.ptr p 0),(6,.ptr q 0)])
 (h1:∀E' h',(δ.cy (logB base rs).length).1≠0→look E' 2=some .cH→look E' 3=some (.int .i64 (δ.cy (logB base rs).length).1)→Sat h' (aD p (δ.cy (logB base rs).length).2::S)→Q .ret E' h')
 (h2:∀E' h',(δ.cy (logB base rs).length).1=0→look E' 2=some (.ptr q 0)→look E' 3=some (.int .i64 0)→Sat h' (bh q p (fX base aq rs)::aD p (δ.cy (logB base rs).length).2::S)→Q .ret E' h'):
  WP ⟨Tryz.prog,told⟩ 134 woR E h Q:=by
 have hW:=hT.w
 have KF:=U.len
 have hlen:δ.log.length=(logB base rs).length+j.length:=by rw[I,bT]
 subst hb
 have OA:δ.log.take (logB base rs).length=logB base rs:=by rw[I,lQ rfl]
 generalize ho:δ.cy (logB base rs).length=y at h1 h2
 unfold Dk.cy at ho
 refine WP.has hE (zK 5 rfl (WP.block ?_))
 refine Mr (pv:=.ptr p 0) hT KF wZ hj rs 0 [] [] .bw h _ _ qa (by rw[eE];exact I) rfl (by simp) ((s.ae [0,0]).qh.ae [1,1,0]) ⟨rfl,rfl,rfl,aa⟩ (fun E h sv hE s => ?_)
 rw[qM,gw] at hE
 rw[eE] at s
 refine WP.has hE (zK 6 rfl (zY s 0 eH bL rfl (zo rfl (aY rfl rfl rfl (pQ rfl aW)) ?_)))
 have J:(δ.cJ (logB base rs).length)=if (logB base rs).length<δ.log.length then δ.oM (logB base rs).length else(0,δ):=rfl
 by_cases b8:(logB base rs).length<δ.log.length
 ·skip
  rw[aE b8] at J
  refine zB rfl bq (by simp;omega) ?_
  refine zk 7 rfl (zc rfl (Xc (n:=(logB base rs).length) hW (s.ae [3]) U) ?_)
  rintro v h ⟨rfl,s⟩
  rw[←J] at s
  rw[←J]
  by_cases h0:(δ.cJ (logB base rs).length).1=0
  ·skip
   rw[ah (not_not_intro h0)] at ho
   rw[h0]
   refine zk 5 rfl (zC rfl aX (rfl) ?_)
   have lC:=(iC (s.buf (k:=2) rfl).view (b:=(logB base rs).length) (by omega)).1
   rw[aaY] at lC
   refine zk 7 rfl (zY s 1 eH bL rfl (zm rfl (zo rfl (cG (p:=none) (q:=some (.int .i64 ((logB base rs).length:Int))) (m:=none) (p':=none) (q':=some (logB base rs).length) (m':=none) rfl rfl rfl rfl rfl (by simp[iA,bndV]) rfl lC) ?_)))
   refine zn rfl (zf rfl (eH _ _) (zS rfl (s.dV (k:=1) rfl ju rfl (by decide) rfl rfl) ?_))
   intro h s
   have s:=(s.ae [2]).fR (OT (n:=(logB base rs).length) (by omega))
   rw[OA] at s
   exact zv (C0 (l:=logB base rs) hW (s.ae [2,0,1,0]) U.cJ.aA ⟨rfl,rfl,aa⟩ ho.symm h1 h2)
  ·skip
   rw[aE h0] at ho
   rw[ho] at h0 s
   rw[ho]
   refine zk 5 rfl (zB rfl aX (by simpa using h0) ?_)
   exact zk 8 rfl (WP.ret (h1 _ _ h0 rfl rfl (((s.del 3).del 2).del 1)))
 ·skip
  rw[ah b8] at J
  rw[J,ah (by simp)] at ho
  refine zC rfl bq (by simp;omega) ?_
  refine zk 3 rfl ?_
  have e:δ.log=logB base rs:=by
   rw[jy (by omega)] at OA
   exact OA
  exact C0 (l:=logB base rs) hW (by rw[e] at s;exact s) U.aA ⟨rfl,rfl,aa⟩ ho.symm h1 h2
def qz (mark:List Nat)(base aq:Nat): Prop:=(mark=[]∧base=1∧aq=0)∨mark=le 8 base++le 8 aq
theorem Rl (hT:WR told){rs:List bt}(s:Sat h (aD p δ::S))(U:δ.Ok)(hd:δ.dead=false)(hm:qz δ.mark base aq)(I:base+δ.log.length≤1099511627776)(Ms:aq<18446744073709551616)
 (J:δ.log=logB base rs++j)(qa:∀r∈rs,r.Ok)(hj:qy j):
  Call ⟨Tryz.prog,told⟩ 63 [.ptr p 0] h fun v h'=>((δ.cy (logB base rs).length).1≠0∧v=.bD [.cH,.int .i64 (δ.cy (logB base rs).length).1]∧Sat h' (aD p (δ.cy (logB base rs).length).2::S)) ∨
   ((δ.cy (logB base rs).length).1=0∧∃q,v=.bD [.ptr q 0,.int .i64 0]∧Sat h' (bh q p (fX base aq rs)::aD p (δ.cy (logB base rs).length).2::S)):=by
 have hW:=hT.w
 have KF:=U.len
 have rR:δ.mark.length≤64:=by rcases hm with⟨hm,_⟩|hm<;>rw[hm]<;>simp[dX]
 refine Call.of_wp (hW.free _ rfl) Tryz.func63 rfl rfl (zK 8 rfl (zc rfl (CC hW s rR) ?_))
 rintro v h (⟨KK,_,_⟩|⟨_,b0,rfl,s⟩)
 ·rw[hd] at KK;cases KK
 refine zk 10 rfl (zC rfl aX (rfl) (zk 6 rfl (zo rfl (dn rfl (by rw[Su];rfl)) ?_)))
 refine ay.cV s rfl rfl rfl (gP rfl rfl) (fun ZJ h s => ?_)
 dsimp only[V.cells,List.take,List.length_cons,List.length_nil,Nat.reduceAdd,List.drop,List.cons_append,List.nil_append] at s
 refine zk 7 rfl ?_
 have s:=s.ae [2,0,0]
 dsimp only[bringA,getA,aQ] at s
 refine zc rfl (Mq hW s hd (by omega)) ?_
 rintro v h ⟨xy,rfl,s⟩
 refine zk 4 rfl (zf rfl (eH _ _) (zS rfl (s.dV (k:=2) rfl ju rfl (by decide) rfl rfl) ?_))
 intro h s
 dsimp only[Nat.reduceAdd,List.set,setA] at s
 refine zk 5 rfl (zC rfl aX (rfl) (zk 7 rfl (zo rfl (aY rfl rfl rfl (bk aW (s.aL (k:=3) rfl (bJ _ _)))) (zv (WP.block (zg rfl ?_))))))
 rcases hm with⟨hm,rfl,rfl⟩|hm
 ·skip
  refine zB rfl bZ (by rw[hm];rfl) ?_
  refine za rfl (zv (zi rfl (WP.skip ?_)))
  exact Fh hT rfl ((s.ae [2,0,0]).del 3) U I J qa hj ⟨rfl,rfl,aa⟩ (fun E' h' h0 e1 e2 s'=>⟨aa,_,uW e1 e2,.inl ⟨h0,rfl,s'⟩⟩) (fun E' h' h0 e1 e2 s'=>⟨aa,_,uW e1 e2,.inr ⟨h0,_,rfl,s'⟩⟩)
 ·skip
  have h16:δ.mark.length=16:=by rw[hm];simp[dX]
  refine zC rfl bZ (by rw[h16];rfl) ?_
  refine zk 5 rfl (zB rfl bZ (by rw[h16];rfl) ?_)
  refine zk 3 rfl ?_
  have w1:δ.mark.take 8=le 8 base:=by rw[hm,lQ (by rw[dX])]
  have w2:δ.mark.drop 8=le 8 aq:=by rw[hm,vk (by rw[dX])]
  have Xd:=dr (s.buf (k:=3) rfl).view
  have s0:=s
  refine WP.drawn [some (0,3),some (0,4),af,af,af,some (0,2),some (0,2),af,af,af,af,af,af,af] rfl (by kernel_rfl) (by kernel_rfl) ?_
  refine zM rfl (zM rfl (zM rfl (zO rfl (cG (p:=none) (q:=some (.int .i64 8)) (m:=none) (p':=none) (q':=some 8) (m':=none) rfl rfl rfl rfl rfl rfl rfl (iC (s.buf (k:=3) rfl).view (b:=8) (by omega)).1) ?_)))
  refine au.any rfl rfl rfl rfl (OpR.call rfl rfl rfl rfl (pS hW s (k:=3) rfl (wF (bJ _ _) (b:=8) (by omega)) (by rw[w1,dX];decide))) ?_
  rintro v h' ⟨rfl,rfl⟩
  rw[w1,qv,nL (by omega)]
  refine zM rfl (zO rfl (cG (p:=some (.int .i64 8)) (q:=none) (m:=none) (p':=some 8) (q':=none) (m':=none) rfl rfl rfl rfl rfl rfl rfl (eA (s.buf (k:=3) rfl).view (a:=8) (by omega)).1) ?_)
  refine au.any rfl rfl rfl rfl (OpR.call rfl rfl rfl rfl (pS hW s (k:=3) rfl (nX (bJ _ _) (a:=8) (by omega)) (by rw[w2,dX];decide))) ?_
  rintro v h' ⟨rfl,rfl⟩
  rw[w2,qv,nL (by omega)]
  refine zN rfl (zF rfl (gQ _ _) (au.ik rfl rfl rfl (OpR.dg rfl rfl rfl (s.dV (k:=2) rfl ot rfl (by decide) rfl rfl)) ?_))
  rintro v h ⟨rfl,s⟩
  have s2:=s
  refine zN rfl (zF rfl (pL _ _) (au.ik rfl rfl rfl (OpR.dg rfl rfl rfl (s.dV (k:=2) rfl ot rfl (by decide) rfl rfl)) ?_))
  rintro v h ⟨rfl,s⟩
  have AQ:=dr (eA (s0.buf (k:=3) rfl).view (a:=8) (by omega)).2.1
  refine au.nil ⟨⟨fun _ _=>.inr ⟨rfl,⟨_,bj rfl⟩,aU _ rfl⟩,fun _ _=>.inr ⟨rfl,⟨_,bj rfl⟩,aU _ rfl⟩,aa,aa,aa,fun _ _=>.inr ⟨rfl,⟨_,bj rfl⟩,Xd⟩,dR (.inr ⟨rfl,⟨_,cG (p:=some (.int .i64 8)) (q:=none) (m:=none) (p':=some 8) (q':=none) (m':=none) rfl rfl rfl rfl rfl rfl rfl (eA (s0.buf (k:=3) rfl).view (a:=8) (by omega)).1⟩,AQ⟩) (.inr ⟨rfl,⟨_,cG (p:=some (.int .i64 8)) (q:=none) (m:=none) (p':=some 8) (q':=none) (m':=none) rfl rfl rfl rfl rfl rfl rfl (eA (s0.buf (k:=3) rfl).view (a:=8) (by omega)).1⟩,AQ⟩),aa,aa,aa,aa,aa,aa,aa,aa⟩,?_⟩
  exact Fh hT rfl ((s.ae [2,0,0]).del 3) U I J qa hj ⟨rfl,rfl,aa⟩ (fun E' h' h0 e1 e2 s'=>⟨aa,_,uW e1 e2,.inl ⟨h0,rfl,s'⟩⟩) (fun E' h' h0 e1 e2 s'=>⟨aa,_,uW e1 e2,.inr ⟨h0,_,rfl,s'⟩⟩)
end
def bornE (n:Int)(c:Nat): cx→Nat
 |[]=>c
 |e::l=>if e.1=n then e.2.2 else bornE n c l
def oV (n:Int)(z:V)(c:Nat): cx→cx
 |[]=>[(n,z,c)]
 |e::l=>if e.1=n then e::l else e::oV n z c l
theorem Rm : ∀ {l:cx} {b:Nat},b≤c→fg c b l→b≤bornE n c l:=by
 intro l
 induction l with
 |nil=>intro b h _;exact h
 |cons e l J =>
  intro b h I
  simp only[bornE]
  by_cases he:e.1=n
  ·rw[aE he];exact I.1
  ·rw[ah he]
   have:=J (b:=e.2.2+1) I.2.1 I.2.2
   have:=I.1
   omega
theorem UF : ∀ {l:cx},lookE n l=none→oV n z c l=l++[(n,z,c)]∧bornE n c l=c:=by
 intro l
 induction l<;>grind[lookE,oV,bornE]
theorem UG {u:V}: ∀ {l:cx},lookE n l=some u→oV n z c l=l:=by
 intro l
 induction l<;>grind[lookE,oV]
theorem OU : ∀ {l:cx} {i j:Nat} {u:V},idxE n l i=some (j,u)→i≤j∧nth (l.map eN) (j-i)=some (.int .i64 n,u,bornE n c l):=by
 intro l
 induction l<;>grind[idxE,bornE,eN,gj]
theorem UH {v:V}: ∀ {l:cx} {b i:Nat},b≤c→fg c b l→∃j,findBorn ((oV n z c l).map eN) (bornE n c l:Int) i=some (i+j)∧setNth ((oV n z c l).map eN) j (fun e=>(e.1,v,e.2.2))=(jX n v c l).map eN:=by
 intro l
 induction l with
 |nil =>
  intro b i h _
  refine⟨0,?_,rfl⟩<;>grind[oV,bornE,eN,findBorn,lu]
 |cons e l J =>
  intro b i h I
  by_cases he:e.1=n
  ·refine⟨0,?_,?_⟩
   ·grind[oV,bornE,eN,findBorn,lu]
   ·simp only[oV,jX,aE he,gO]
    rfl
  ·obtain⟨j,g1,g2⟩:=J (b:=e.2.2+1) (i:=i+1) I.2.1 I.2.2
   have U:=Rm (n:=n) (b:=e.2.2+1) I.2.1 I.2.2
   refine⟨j+1,?_,?_⟩
   ·grind[oV,bornE,findBorn,eN,nY]
   grind[oV,jX,setNth,Nat.beq]
section
variable {v:V} {kt et:TypeId} {k:IntKind} {l:cx}
theorem OV : ∀ {S:List aS} {j:Nat} {A:aS},getA S j=some A→setA S j A=S:=by
 intro S
 induction S with
 |nil=>intro j A h;cases h
 |cons B S I =>
  intro j A h
  cases j<;>grind[getA,setA]
theorem Sat.entry (s:Sat h S)(U:getA S j=some (fV id l c))(hu:P.underlying t=some (.map kt et))(hk:P.underlying kt=some (.int k))(hz:zeroT P et=some z):
  ∃w h',mapEntryV P h t (.map id) (.int .i64 n)=some (.bD [w,.int .i64 (bornE n c l:Int)],h')∧Sat h' (setA S j (fV id (oV n z c l) (clkE n c l))):=by
 have hg:=s.row U
 simp only[mapEntryV,hu,hk,hz,hg,keyBeq,dL,ak,qX]
 have I:=pR (n:=n) l 0
 cases J:idxE n l 0 with
 |none =>
  rw[J] at I
  have I:lookE n l=none:=I.symm
  refine⟨z,h.put id (some (.map ((oV n z c l).map eN) (clkE n c l))),?_,s.put U⟩<;>grind[eN,clkE,UF]
 |some q =>
  obtain⟨i,u⟩:=q
  rw[J] at I
  have I:lookE n l=some u:=I.symm
  have hb:=(OU (c:=c) J).2
  rw[lR] at hb
  refine⟨u,h,?_,?_⟩
  ·grind
  ·grind[UG,clkE,OV]
theorem Sat.entryStore (s:Sat h S)(I:getA S j=some (fV id (oV n z c l) (clkE n c l)))(J:fg c 0 l):
  ∃h',entryStoreV h (.map id) (.int .i64 (bornE n c l:Int)) v=some h'∧Sat h' (setA S j (fV id (jX n v c l) (clkE n c l))):=by
 have U:=s.row I
 obtain⟨i,g1,g2⟩:=UH (n:=n) (z:=z) (v:=v) (i:=0) (fZ c) J
 refine⟨h.put id (some (.map ((jX n v c l).map eN) (clkE n c l))),?_,s.put I⟩<;>grind[entryStoreV]
end
theorem OpR.mapEntry {x:Operand}{a b v:V}{h₁:H}(I:o.op=.mapEntry t x y)(J:bl E x=some a)(U:bl E y=some b)
 (ho:mapEntryV C.P h t a b=some (v,h₁)): OpR C E h o fun w h'=>w=v∧h'=h₁ :=
 ⟨v,h₁,⟨rfl,rfl⟩,fun env hE=>⟨0,by grind[evOp,bU]⟩⟩
theorem OpR.entryStore {x z:Operand}{a b v:V}{S':List aS}(I:o.op=.entryStore t x y z)(U:bl E x=some a)(hy:bl E y=some b)(hz:bl E z=some v)
 (ho:∃h₁,entryStoreV h a b v=some h₁∧Sat h₁ S'): OpR C E h o fun _ h₁=>Sat h₁ S':=by
 obtain⟨h₁,e1,J⟩:=ho
 exact⟨cF,h₁,J,fun env hE=>⟨0,by grind[evOp,bU,sB]⟩⟩
abbrev H9 := List (Int×List Nat)
def bufsA : cx→H9→aS
 |[],[]=>.pu True
 |e::l,x::m=>star [.pu (e.1=x.1),bH e.2.1 x.2,bufsA l m]
 |_,_=>.pu False
def qA (n:Int): cx→H9→aS
 |[],[]=>.pu True
 |e::l,x::m=>if e.1=n then star [.pu (e.1=x.1),bufsA l m] else star [.pu (e.1=x.1),bH e.2.1 x.2,qA n l m]
 |_,_=>.pu False
section
variable {u:V} {x:List Nat}
theorem OW : ∀ {l:cx} {m:H9} {S:List aS},lookE n l=none→Sat h (bufsA l m::S)→lookL n m=none∧Sat h (qA n l m::S):=by
 intro l
 induction l with
 |nil=>intro m S _ s;cases m with
  |nil=>exact⟨rfl,s⟩
  |cons x m=>exact(eP.1 s).1.elim
 |cons e l J=>intro m S I s;cases m with
  |nil=>exact(eP.1 s).1.elim
  |cons x m =>
   obtain⟨U,s⟩:=eP.1 (ej.1 s)
   simp only[lookE] at I
   by_cases he:e.1=n
   ·grind
   ·rw[ah he] at I
    obtain⟨g1,g2⟩:=J (S:=bH e.2.1 x.2::S) I (s.ae [1])
    refine⟨?_,?_⟩
    ·grind[lookL]
    ·simp only[qA,ah he]
     exact ej.2 (eP.2 ⟨U,g2.ae [1]⟩)
theorem OX : ∀ {l:cx} {m:H9} {S:List aS},lookE n l=some u→Sat h (bufsA l m::S)→∃x,lookL n m=some x∧Sat h (bH u x::qA n l m::S):=by
 intro l
 induction l with
 |nil=>intro m S I s;cases I
 |cons e l U=>intro m S I s;cases m with
  |nil=>exact(eP.1 s).1.elim
  |cons x m =>
   obtain⟨J,s⟩:=eP.1 (ej.1 s)
   simp only[lookE] at I
   by_cases he:e.1=n
   ·rw[aE he] at I
    injection I with I
    subst I
    refine⟨x.2,by grind[lookL],?_⟩
    simp only[qA,aE he]
    have s2:Sat h (star [.pu (e.1=x.1),bufsA l m]::bH e.2.1 x.2::S):=ej.2 (eP.2 ⟨J,s.ae [1]⟩)
    exact s2.ae [1]
   ·rw[ah he] at I
    obtain⟨y,g1,g2⟩:=U (S:=bH e.2.1 x.2::S) I (s.ae [1])
    refine⟨y,by grind[lookL],?_⟩
    simp only[qA,ah he]
    have s2:Sat h (star [.pu (e.1=x.1),bH e.2.1 x.2,qA n l m]::bH u y::S):=ej.2 (eP.2 ⟨J,g2.ae [2,1]⟩)
    exact s2.ae [1]
theorem Rn : ∀ {l:cx} {m:H9} {S:List aS},Sat h (bH u x::qA n l m::S)→Sat h (bufsA (jX n u c l) (cY n x m)::S):=by
 intro l
 induction l with
 |nil=>intro m S s;cases m with
  |nil=>exact ej.2 (eP.2 ⟨rfl,s⟩)
  |cons y m=>exact(eP.1 s.drop).1.elim
 |cons e l J=>intro m S s;cases m with
  |nil=>exact(eP.1 s.drop).1.elim
  |cons y m =>
   by_cases he:e.1=n
   ·simp only[qA,aE he] at s
    obtain⟨I,s⟩:=eP.1 (ej.1 (s.ae [1]))
    simp only[jX,cY,←I,aE he]
    exact ej.2 (eP.2 ⟨he,(s.ae [1,0])⟩)
   ·simp only[qA,ah he] at s
    obtain⟨I,s⟩:=eP.1 (ej.1 (s.ae [1]))
    simp only[jX,cY,←I,ah he]
    have s2:=J (S:=bH e.2.1 y.2::S) (s.ae [2,1])
    exact ej.2 (eP.2 ⟨I,s2.ae [1]⟩)
theorem JA : ∀ {l:cx} {m:H9} {S:List aS},Sat h (bufsA l m::S)→Sat h (eT (fun v b=>.cm v b) l m::S):=by
 intro l
 induction l with
 |nil=>intro m S s;cases m with
  |nil=>exact s
  |cons x m=>exact(eP.1 s).1.elim
 |cons e l I=>intro m S s;cases m with
  |nil=>exact(eP.1 s).1.elim
  |cons x m =>
   obtain⟨J,s⟩:=eP.1 (ej.1 s)
   have s2:=I (S:=AK e.2.1 x.2::S) (s.fO.ae [1])
   have U:=(s2.ae [1]).two (C:=eT (fun v b=>.cm v b) (e::l) (x::m)) (aF.cm _ _) (aF.GY (fun _ _=>aF.cm _ _) _ _) fun a b h1 h2=>⟨⟨J,h1⟩,h2⟩
   exact U
end
structure fS where
 ai:H9
 ox:List (Int×Nat)
variable {ρ:fS}
def chgF (n:Nat)(c:ct)(ρ:fS): fS :=
 if c.whole=true then { ai:=cY c.aO c.b ρ.ai,ox:=cY c.aO n ρ.ox } else
 match lookL c.aO ρ.ai with
 |none=>ρ
 |some b=>{ ai:=cY c.aO (dJ b c.pos.toNat c.b) ρ.ai,ox:=cY c.aO n ρ.ox }
abbrev Bx (v:V)(n:Nat): aS:=.pu (v=.int .u64 (n:Int))
def w6 (x:Nat)(ρ:fS): aS:=xs fun i:Nat=>xs fun l:cx=>xs fun k:Nat=>xs fun j:Nat=>xs fun m:cx=>xs fun g:Nat =>
 star [.pu (fg k 0 l∧(ρ.ai.map (·.1)).Nodup∧fg g 0 m∧(ρ.ox.map (·.1)).Nodup),pt x (.cells 2 [.map i,.map j] false),fV i l k,bufsA l ρ.ai,fV j m g,eT Bx m ρ.ox]
theorem AX (l:List Nat): dJ l 0 l=l:=by simp[dJ]
section
variable {told:dI} {u v:V} {x n:Nat} {c:ct}
theorem tX : Sat h (w6 x ρ::S)↔∃i l k j m g,(fg k 0 l∧(ρ.ai.map (·.1)).Nodup∧fg g 0 m∧(ρ.ox.map (·.1)).Nodup) ∧
  Sat h (pt x (.cells 2 [.map i,.map j] false)::fV i l k::bufsA l ρ.ai::fV j m g::eT Bx m ρ.ox::S):=by
 simp only[w6,fU,ej,iU,eE,eP]
noncomputable def chR : Code:=cC [1,1,1] ((Tryz.f130.body).getD .skip)
theorem w8 (hT:W told){g p5:Nat}{l m:cx}(hb:b.length=512)(hc:c.Ok)(J:fg k 0 l)(h2:(ρ.ai.map (·.1)).Nodup)(U:fg g 0 m)(h4:(ρ.ox.map (·.1)).Nodup)
 (s:Sat h (bH v b::.cm u c.b::pt x (.cells 2 [.map i,.map j] false)::fV i l k::qA c.aO l ρ.ai::fV j m g::eT Bx m ρ.ox::pt p5 (.cells 4 [.int .i64 c.aO,.int .i64 c.pos,.bool c.whole,u] false)::S))(hE:Has E [(0,.ptr x 0),(1,.int .u64 (n:Int)),(5,.ptr p5 0),(6,v)])
 (hq:∀E' h',Sat h' (w6 x { ai:=cY c.aO (dJ b c.pos.toNat c.b) ρ.ai,ox:=cY c.aO n ρ.ox }::.cm u c.b::S)→Q .normal E' h'): WP ⟨Tryz.prog,told⟩ 52 chR E h Q:=by
 obtain⟨c1,c2,c3,c4,c5,c6⟩:=hc
 obtain⟨a,ha⟩:∃a:Nat,c.pos=a:=⟨c.pos.toNat,by omega⟩
 refine WP.has hE (zw ?_)
 have s0:=s
 have I:=dr (s.buf (k:=0) rfl).view
 have EW:=dr (s.aL (k:=1) rfl (cI _ _))
 rw[ha] at s
 have sl:=(eA (s.buf (k:=0) rfl).view (a:=a) (by omega)).1
 refine WP.drawn [af,af,af,af,af,af,af] rfl (by kernel_rfl) (by kernel_rfl) ?_
 refine zM rfl (zF rfl (pP _ _) (zL rfl (s.ld (k:=7) rfl dy rfl) (zO rfl (cG (p:=some (.int .i64 (a:Int))) (q:=none) (m:=none) (p':=some a) (q':=none) (m':=none) rfl rfl rfl rfl (by simp[iA,bndV]) rfl rfl sl) ?_)))
 refine zF rfl (mY _ _) (zL rfl (s.ld (k:=7) rfl bL rfl) (au.any rfl rfl rfl rfl (OpR.OS rfl s (cI _ _) (by omega) (by omega) rfl rfl rfl rfl rfl) ?_))
 intro r h s
 refine au.nil ⟨⟨aa,aa,aa,aa,aa,aa,aa,aa⟩,?_⟩
 have s0:=s
 refine WP.drawn [af,af,af,af,af,af,af,af,af,af,some (0,3),some (0,3),some (0,2),some (0,4),af,af,af,af,af,af] rfl (by kernel_rfl) (by kernel_rfl) ?_
 refine zM rfl (zN rfl (zF rfl (pO _ _) (zL rfl (s.ld (k:=2) rfl jF rfl) (zF rfl (nW _ _) (zL rfl (s.ld (k:=7) rfl dy rfl) (zM rfl (zN rfl (zF rfl (Kf _ _) (zL rfl (s.ld (k:=2) rfl Sw rfl) (zF rfl (nW _ _) (zL rfl (s.ld (k:=7) rfl dy rfl) (zM rfl (zM rfl ?_)))))))))))))
 obtain⟨w1,hh1,e1,s1⟩:=s.entry (j:=3) (n:=c.aO) rfl kZ bK yc
 refine au.any rfl rfl rfl rfl (OpR.mapEntry rfl rfl rfl e1) ?_
 rintro r1 tH ⟨rfl,rfl⟩
 refine zO rfl (bN rfl rfl) (au.ik rfl rfl rfl (OpR.entryStore rfl rfl rfl rfl (s1.entryStore (j:=3) (v:=v) rfl J)) ?_)
 intro r2 SK s2
 obtain⟨w3,hh3,e3,s3⟩:=s2.entry (j:=5) (n:=c.aO) rfl Tryz.underlying232 bK GO
 refine au.any rfl rfl rfl rfl (OpR.mapEntry rfl rfl rfl e3) ?_
 rintro r3 hr3 ⟨rfl,rfl⟩
 refine zO rfl (bN rfl rfl) (au.ik rfl rfl rfl (OpR.entryStore rfl rfl rfl rfl (s3.entryStore (j:=5) (v:=.int .u64 (n:Int)) rfl U)) ?_)
 intro r4 hh4 s
 refine au.nil ⟨⟨aa,aa,aa,aa,aa,aa,aa,aa,aa,aa,fun _ _=>.inr ⟨rfl,⟨_,jg rfl (nW _ _)⟩,aU _ rfl⟩,rN (.inr ⟨rfl,⟨_,aT rfl (s0.ld (k:=7) rfl dy rfl)⟩,aU _ rfl⟩) (.inr ⟨rfl,⟨_,aT rfl (s1.ld (k:=7) rfl dy rfl)⟩,aU _ rfl⟩) (.inr ⟨rfl,⟨_,aT rfl (s2.ld (k:=7) rfl dy rfl)⟩,aU _ rfl⟩),fun _ _=>.inr ⟨rfl,⟨_,bj rfl⟩,I⟩,fun _ _=>.inr ⟨rfl,⟨_,bj rfl⟩,aU _ rfl⟩,aa,aa,aa,aa,aa,aa,aa⟩,?_⟩
 have s:=Rn (c:=k) (s.ae [0,3])
 have s:=(s.ae [5]).fR (B:=eT Bx (jX c.aO (.int .u64 (n:Int)) g m) (cY c.aO n ρ.ox)) fun a b h=>ET (f:=Bx) (x:=n) (show V.int .u64 (n:Int)=_ from rfl) h
 refine hq _ _ ?_
 have e:c.pos.toNat=a:=by omega
 rw[e]
 have s:=s.del 6
 exact(tX.2 ⟨i,_,_,j,_,_,⟨yn rfl (fZ _) J,iO h2,yn rfl (fZ _) U,iO h4⟩,s.ae [3,3,1,2,0]⟩)
theorem OY (U:W told)(hρ:∀e∈ρ.ai,e.2.length=512)(hc:c.Ok)(s:Sat h (w6 x ρ::.cm u c.b::S)):
  Call ⟨Tryz.prog,told⟩ 130 [.ptr x 0,.int .u64 (n:Int),.agg [.int .i64 c.aO,.int .i64 c.pos,.bool c.whole,u]] h fun v h'=>v=.bD []∧Sat h' (w6 x (chgF n c ρ)::.cm u c.b::S):=by
 obtain⟨i,l,k,j,m,g,⟨h1,h2,h3,h4⟩,s⟩:=tX.1 s
 have hu:=(s.aL (k:=5) rfl (cI _ _)).cells
 have EW:=dr (s.aL (k:=5) rfl (cI _ _))
 refine Call.of_wp (U.free _ rfl) Tryz.func130 rfl rfl (zg rfl (ay.cV s rfl rfl rfl (gP rfl (by simp only[V.cells,jB,jC,hu.2];rfl)) ?_))
 intro p5 h s
 dsimp only[V.cells] at s
 dsimp only[List.length_cons,List.length_nil,Nat.reduceAdd] at s
 refine zk 2 rfl ?_
 have e2:=s.SD (n:=c.aO) (j:=2) rfl kZ bK yc
 have I:c.whole=true→c.pos=0∧c.b.length=512:=hc.2.2.2.2.2
 have ob:c.b.length≤512:=by have:=hc.2.2.1;have:=hc.2.2.2.2.1;omega
 have s0:=s
 rcases hle:lookE c.aO l with _|u0
 ·skip
  rw[hle] at e2
  obtain⟨J,s⟩:=OW hle (s.ae [3])
  have hX:=s
  have s:=s0
  refine WP.drawn [af,af,af,af,af,af,af,af,af,af,af,af] rfl (by kernel_rfl) (by kernel_rfl) ?_
  refine zM rfl (zN rfl (zF rfl (pO _ _) (zL rfl (s.ld (k:=1) rfl jF rfl) (zF rfl (nW _ _) (zL rfl (s.ld (k:=0) rfl dy rfl) (zO rfl (gX rfl rfl e2) (zM rfl (zO rfl (bN rfl rfl) (zO rfl (bN rfl rfl) (zA rfl (zA rfl ?_)))))))))))
  refine au.nil ⟨⟨aa,aa,aa,aa,aa,aa,aa,aa,aa,aa,aa,aa,aa⟩,?_⟩
  refine zw (WP.block (zg rfl (zf rfl (vK _ _) ?_)))
  by_cases hw:c.whole=true
  ·skip
   refine zt rfl (aT rfl (s.ld (k:=0) rfl jQ rfl)) (hw) (zk 4 rfl (zY s 0 mY bL rfl (zc rfl (jY U (hX.ae [6]) (cI _ _) (by omega)) ?_)))
   intro v h s
   dsimp only[aQ,bringA] at s
   refine za rfl (zv ?_)
   refine w8 (n:=n) U (I hw).2 hc h1 h2 h3 h4 (s.ae [0,0,2,2,0,1,1,0]) ⟨rfl,rfl,rfl,rfl,aa⟩ (fun E' h' s' => ?_)
   have e:dJ c.b c.pos.toNat c.b=c.b:=by rw[(I hw).1];exact AX _
   rw[e] at s'
   refine⟨aa,_,rfl,rfl,?_⟩
   rw[chgF,aE hw]
   exact s'
  ·skip
   refine zh rfl (aT rfl (s.ld (k:=0) rfl jQ rfl)) (by simpa using hw) ?_
   refine zk 6 rfl (zo rfl (dQ rfl rfl) (zk 3 rfl (WP.ret ⟨aa,_,rfl,?_⟩)))
   have e:chgF n c ρ=ρ:=by rw[chgF,ah hw,J]
   rw[e]
   exact⟨rfl,(tX.2 ⟨i,l,k,j,m,g,⟨h1,h2,h3,h4⟩,s.drop⟩)⟩
 ·skip
  rw[hle] at e2
  obtain⟨y,J,s⟩:=OX hle (s.ae [3])
  have hX:=s
  have s:=s0
  have acq:=dr (hX.buf (k:=0) rfl).view
  have hy:y.length=512:=hρ _ (fh J)
  refine WP.drawn [af,af,af,af,af,af,af,af,af,af,af,af] rfl (by kernel_rfl) (by kernel_rfl) ?_
  refine zM rfl (zN rfl (zF rfl (pO _ _) (zL rfl (s.ld (k:=1) rfl jF rfl) (zF rfl (nW _ _) (zL rfl (s.ld (k:=0) rfl dy rfl) (zO rfl (gX rfl rfl e2) (zM rfl (zO rfl (bN rfl rfl) (zO rfl (bN rfl rfl) (zA rfl (zA rfl ?_)))))))))))
  refine au.nil ⟨⟨aa,aa,aa,aa,aa,aa,aa,aa,aa,aa,aa,aa,aa⟩,?_⟩
  refine zw (WP.block (zg rfl (zf rfl (vK _ _) ?_)))
  by_cases hw:c.whole=true
  ·skip
   refine zt rfl (aT rfl (s.ld (k:=0) rfl jQ rfl)) (hw) (zk 4 rfl (zY s 0 mY bL rfl (zc rfl (jY U ((hX.drop).ae [6]) (cI _ _) (by omega)) ?_)))
   intro v h s
   dsimp only[aQ,bringA] at s
   refine za rfl (zv ?_)
   refine w8 (n:=n) U (I hw).2 hc h1 h2 h3 h4 (s.ae [0,0,2,2,0,1,1,0]) ⟨rfl,rfl,rfl,rfl,aa⟩ (fun E' h' s' => ?_)
   have e:dJ c.b c.pos.toNat c.b=c.b:=by rw[(I hw).1];exact AX _
   rw[e] at s'
   refine⟨aa,_,rfl,rfl,?_⟩
   rw[chgF,aE hw]
   exact s'
  ·skip
   refine zh rfl (aT rfl (s.ld (k:=0) rfl jQ rfl)) (by simpa using hw) ?_
   refine za rfl (zv (zj rfl (zg rfl (zm rfl (zo rfl (dQ rfl rfl) (za rfl (zv (zj rfl (WP.skip ?_)))))))))
   refine w8 (n:=n) U hy hc h1 h2 h3 h4 (hX.ae [0,6,2,2,0,1,1,0]) ⟨rfl,rfl,rfl,rfl,aa⟩ (fun E' h' s' => ?_)
   refine⟨aa,_,rfl,rfl,?_⟩
   rw[chgF,ah hw,J]
   exact s'
end
def szB : List bt→Nat
 |[]=>0
 |r::l=>r.len+szB l
theorem eZ : ∀ {rs:List bt} {n:Nat},(logB n rs).length=szB rs:=by
 intro rs
 induction rs with
 |nil=>intro n;rfl
 |cons r rs I=>intro n;simp only[logB,szB,bT,rY,I];rfl
theorem eX {x y:List bt}: szB (x++y)=szB x+szB y:=by
 induction x with
 |nil=>simp[szB]
 |cons r x I=>simp only[iU,szB,I];omega
theorem tY {y:List bt}: ∀ {x:List bt} {n:Nat},logB n (x++y)=logB n x++logB (n+szB x) y:=by
 intro x
 induction x with
 |nil=>intro n;simp[logB,szB]
 |cons r x I=>intro n;simp only[iU,logB,szB,I,cE,nO]
theorem w9 {y:List bt}: ∀ {x:List bt} {a:Nat},gI a (x++y)=gI a x++gI (a+szB x) y:=by
 intro x
 induction x with
 |nil=>intro a;simp[gI,szB]
 |cons r x I=>intro a;simp only[iU,gI,szB,I,nO]
theorem uH : ∀ {rs:List bt} {a:Nat},(gI a rs).Pairwise (· < ·)∧∀s∈gI a rs,a≤s∧s<a+szB rs:=by
 intro rs
 induction rs with
 |nil=>intro a;exact⟨List.Pairwise.nil,by simp[gI]⟩
 |cons r rs J =>
  intro a
  obtain⟨U,I⟩:=J (a:=a+r.len)
  have h8:8≤r.len:=by rw[bt.len];omega
  simp only[gI,szB,sS,mT]
  refine⟨⟨fun s hs=>by have:=I s hs;omega,U⟩,?_⟩
  rintro s (rfl|hs)
  ·omega
  ·have:=I s hs;omega
theorem Ro : ∀ {rs:List bt} {a:Nat},(gI a rs).length=rs.length:=by
 intro rs
 induction rs with
 |nil=>intro a;rfl
 |cons r rs I=>intro a;simp only[gI,bI,I]
theorem YC : ∀ {rs:List bt},rs.length*8≤szB rs:=by
 intro rs
 induction rs with
 |nil=>simp
 |cons r rs I=>have:8≤r.len:=(by rw[bt.len];omega);simp only[szB,bI];omega
theorem KL {base aq:Nat}{rs:List bt}(I:base+szB rs≤1099511627776)(J:szB rs≤16777216)(U:aq≤1099511627776): (fX base aq rs).Ok:=by
 have h4:=YC (rs:=rs)
 refine⟨?_,?_,?_,(uH (a:=0)).1,?_,?_,U⟩
 ·show base+(logB base rs).length≤_;rw[eZ];exact I
 ·show(gI 0 rs).length≤_;rw[Ro];omega
 ·intro s hs
  have:=(uH (a:=0) (rs:=rs)).2 s hs
  show s<(logB base rs).length
  rw[eZ];omega
 ·exact aP _
 ·show(logB base rs).length≤_;rw[eZ];exact J
theorem Rp {base aq:Nat}: (fX base aq (dK++r::gu)).hasB (base+szB dK)=true:=by
 rw[Lg.hasB,sU]
 refine⟨szB dK,?_,by simp[fX]⟩
 show szB dK∈gI 0 (dK++r::gu)
 rw[w9,gw]
 exact List.mem_append.2 (.inr cn)
def C1 (n:Nat)(aR:List ct)(ρ:fS): fS:=aR.foldl (fun ρ c=>chgF n c ρ) ρ
def redoL : Nat→List bt→fS→fS
 |_,[],ρ=>ρ
 |n,r::l,ρ=>redoL (n+r.len) l (C1 n r.aR ρ)
theorem Fi {a:α}: ∀ {l:List (Int×α)} {e:Int×α},e∈cY n a l→e=(n,a)∨e∈l:=wX
structure fS.Ok (ρ:fS): Prop where
 len:∀e∈ρ.ai,e.2.length=512
 low:∀k∈ρ.ai.map (·.1),(0:Int)≤k∧k<65536
 dup:(ρ.ai.map (·.1)).Nodup
theorem KM {n:Nat}{c:ct}(h:ρ.Ok)(I:c.Ok): (chgF n c ρ).Ok:=by
 have U:c.whole=true→c.pos=0∧c.b.length=512:=I.2.2.2.2.2
 have key:∀b:List Nat,b.length=512→∀L,(fS.mk (cY c.aO b ρ.ai) L).Ok:=fun b hb L=>by
  refine⟨fun e he => ?_,fun k hk => ?_,iO h.dup⟩
  ·rcases Fi he with rfl|he
   ·exact hb
   ·exact h.len e he
  ·rcases oP.1 hk with rfl|hk
   ·exact⟨I.1,I.2.1⟩
   ·exact h.low k hk
 unfold chgF
 split
 ·rename_i hw
  exact key _ (U hw).2 _
 ·split
  ·exact h
  ·rename_i b hb
   have J:=h.len _ (fh hb)
   simp only at J
   have:=I.2.2.1
   have:=I.2.2.2.2.1
   refine key _ ?_ _
   rw[jm (by omega),J]
theorem H_ {n:Nat}: ∀ {aR:List ct} {ρ:fS},ρ.Ok→(∀c∈aR,c.Ok)→(C1 n aR ρ).Ok:=by
 intro aR
 induction aR with
 |nil=>intro ρ h _;exact h
 |cons c aR J=>intro ρ h I;exact J (KM h (I c cn)) (fun x U=>I x (b9 _ U))
theorem bt.Ok.aR (h:r.Ok): ∀c∈r.aR,c.Ok:=by
 have:=h.good
 simp only[dY,bS,qK,gN] at this
 exact this.2
theorem w_ : ∀ {rs:List bt} {n:Nat} {ρ:fS},ρ.Ok→(∀r∈rs,r.Ok)→(redoL n rs ρ).Ok:=by
 intro rs
 induction rs with
 |nil=>intro n ρ h _;exact h
 |cons r rs J=>intro n ρ h I;exact J (H_ h (I r cn).aR) (fun x U=>I x (b9 _ U))
def lI (ρ:fS)(k:Int): Nat:=(lookL k ρ.ox).getD 0
def againW (ρ:fS): List Int→Dk→Int×Dk
 |[],δ=>(0,δ)
 |k::l,δ =>
  match lookL k ρ.ai with
  |some b=>if bR b=true∧k<δ.ai.length then(if (δ.a_ k (cP b (lI ρ k))).1≠0 then δ.a_ k (cP b (lI ρ k)) else againW ρ l (δ.a_ k (cP b (lI ρ k))).2) else againW ρ l δ
  |none=>againW ρ l δ
def kF (ρ:fS)(δ:Dk): Int×Dk :=
 if (againW ρ (az ρ.ai) δ).1≠0 then againW ρ (az ρ.ai) δ else if ρ.ai=[] then(0,(againW ρ (az ρ.ai) δ).2) else(againW ρ (az ρ.ai) δ).2.cM
section
variable {told:dI} {ch fv v op dv:V} {p r x n base aq:Nat}
noncomputable def agI : Code:=cC [1,1,1,0,1,0,0,0,1,1,0,1,0,0] ((Tryz.f69.body).getD .skip)
theorem OZ (hT:W told){aR:List ct}(pq:∀c∈aR,c.Ok){av nv:V}: ∀(j i:Nat) (ρ:fS) (h:H) (E:List (Nat×V)) (Q:Ex→List (Nat×V)→H→Prop),i+j=aR.length→aR.length<4294967296→ρ.Ok →
  Sat h (w6 x ρ::.arr 4 ch cs::cZ cs aR::S) →
  Has E [(0,av),(5,.ptr x 0),(6,.fn (.func 130) [.ptr x 0] []),(7,.int .u64 (n:Int)),(9,nv),(38,ch),(39,.int .i64 aR.length),(40,.int .i64 i)] →
  (∀E' h',Has E' [(0,av),(5,.ptr x 0),(6,.fn (.func 130) [.ptr x 0] []),(9,nv)]→Sat h' (w6 x (C1 n (aR.drop i) ρ)::.arr 4 ch cs::cZ cs aR::S)→Q (.exit 2) E' h') →
  WP ⟨Tryz.prog,told⟩ 110 (.loop agI) E h Q:=by
 intro j
 induction j with
 |zero =>
  intro i ρ h E Q hi hl I s hE hq
  refine WP.loop (WP.has hE (zg rfl (zC rfl bq (by simp;omega) ?_)))
  exact zk 3 rfl (WP.exit (hq _ _ ⟨rfl,rfl,rfl,rfl,aa⟩ (by rw[va (by omega)];exact s)))
 |succ j ih =>
  intro i ρ h E Q hi hl I s hE hq
  have hc:aR[i]?=some (aR[i]'(by omega)):=bn _
  generalize (aR[i]'(by omega))=c at hc
  have U:=pq c (bu hc)
  have J:aR.drop i=c::aR.drop (i+1):=by
   obtain⟨h1,rfl⟩:=List.getElem?_eq_some_iff.1 hc
   exact lJ h1
  obtain⟨id,off,u,e1,e2,u1,u2,u3,s⟩:=G9 (s.ae [1,1]) hc
  dsimp only[aQ,bringA] at s
  refine WP.loop (WP.has hE (zg rfl (zB rfl bq (by simp;omega) ?_)))
  refine zk 5 rfl (WP.block (zg rfl (zo rfl (dD (r:=.ptr id off) rfl rfl e1) (zl rfl e2 ?_))))
  refine ay.cV s rfl rfl rfl (cK nV) (fun Wo h s => ?_)
  dsimp only[V.cells,List.length_cons,List.length_nil,Nat.reduceAdd] at s
  refine zS rfl (s.iq (j:=0) rfl oL rfl (by simp only[jB,jC,u2];rfl)) ?_
  rintro h s
  dsimp only[setA] at s
  refine zk 4 rfl (zl rfl (s.fN (k:=0) rfl FW oL) (zc rfl (OY (n:=n) hT I.len U (s.ae [4,1])) ?_))
  rintro v h ⟨rfl,s⟩
  dsimp only[aQ,bringA] at s
  refine zv (zr rfl (zb rfl (by exact bP (aV (by omega) (by omega))) ?_))
  refine zm rfl (zv ?_)
  have s:=(s.ae [0,2,2]).del 3
  have s:=s.del 3
  refine ih (i+1) (chgF n c ρ) _ _ Q (by omega) hl (KM I U) s ⟨rfl,rfl,rfl,rfl,rfl,rfl,rfl,rfl,aa⟩ (fun E' h' fW s'=>hq E' h' fW ?_)
  rw[J]
  exact s'
theorem Ia (U:WR told){r:bt}(J:(fX base aq (dK++r::gu)).Ok)(I:r.Ok)(s:Sat h (bh q p (fX base aq (dK++r::gu))::S)):
  Call ⟨Tryz.prog,told⟩ 66 [.ptr q 0,.int .u64 ((base+szB dK:Nat):Int)] h fun v h'=>∃dt ch cs,v=.bD [.agg (iH r.kd r.tx r.pv r.nx dt ch),.int .u64 ((base+szB dK+r.len:Nat):Int),.int .i64 0] ∧
   Sat h' (bh q p (fX base aq (dK++r::gu))::bH dt r.data::.arr 4 ch cs::cZ cs r.aR::S):=by
 refine(OK (n:=base+szB dK) (a:=szB dK) (pre:=logB base dK) (rest:=logB (base+szB dK+r.len) gu) U I.good I.kd I.rd rfl I.len eZ ?_ rfl Rp J s).mono fun v h' hx => ?_
 ·show logB base (dK++r::gu)=_
  rw[tY,logB]
  rfl
 ·have e:base+szB dK+r.len=base+szB dK+8+(dF r.kd r.tx r.pv r.nx r.data r.aR).length:=by rw[bt.len,bt.bd];omega
  rw[e]
  exact hx
noncomputable def agO : Code:=cC [1,1,1,0,1,0,0] ((Tryz.f69.body).getD .skip)
theorem Mt (hT:WR told){rs:List bt}(qa:∀r∈rs,r.Ok)(I:(fX base aq rs).Ok): ∀(gu dK:List bt) (ρ:fS) (h:H) (E:List (Nat×V)) (Q:Ex→List (Nat×V)→H→Prop),rs=dK++gu→ρ.Ok →
  Sat h (w6 x ρ::pt a (.cells 6 (qq a p q r op dv wv) false)::bh q p (fX base aq rs)::S) →
  Has E [(0,.ptr a 0),(5,.ptr x 0),(6,.fn (.func 130) [.ptr x 0] []),(7,.int .u64 ((base+szB dK:Nat):Int))] →
  (∀E' h',Has E' [(0,.ptr a 0),(5,.ptr x 0)]→Sat h' (w6 x (redoL (base+szB dK) gu ρ)::pt a (.cells 6 (qq a p q r op dv wv) false)::bh q p (fX base aq rs)::S)→Q (.exit 0) E' h') →
  WP ⟨Tryz.prog,told⟩ 110 (.loop agO) E h Q:=by
 have hW:=hT.w
 intro gu
 induction gu with
 |nil =>
  intro dK ρ h E Q he J s U hq
  refine WP.loop (WP.has U ?_)
  have s:=s.ae [1,1,0]
  dsimp only[qq,bringA,getA,aQ] at s
  have gW:=I.size
  have hn:base+szB dK=(fX base aq rs).base+(fX base aq rs).b.length:=by
   show _=base+(logB base rs).length
   rw[eZ,he,cS]
  refine WP.block (zK 4 rfl (zY s 0 jG nA rfl (zm rfl (zc rfl (CU (n:=base+szB dK) hW (s.ae [1]) I (by omega) (.inl hn)) ?_))))
  rintro v h ⟨e,R4,rfl,s⟩
  refine zk 4 rfl ?_
  refine ay.cV s rfl rfl rfl (cK nT) (fun p8 h s => ?_)
  dsimp only[V.cells,List.length_cons,List.length_nil,Nat.reduceAdd,aQ,bringA] at s
  refine zS rfl (s.iq (j:=0) rfl fE rfl rfl) (fun h s => ?_)
  dsimp only[setA] at s
  refine zk 7 rfl (zB rfl aX (by simp;exact R4) ?_)
  exact zk 2 rfl (WP.exit (hq _ _ ⟨rfl,rfl,aa⟩ ((s.drop).ae [2,1,0])))
 |cons y gu ih =>
  intro dK ρ h E Q he J s U hq
  subst he
  have hy:=qa y (by simp)
  refine WP.loop (WP.has U ?_)
  have s:=s.ae [1,1,0]
  dsimp only[qq,bringA,getA,aQ] at s
  refine WP.block (zK 4 rfl (zY s 0 jG nA rfl (zm rfl (zc rfl (Ia (dK:=dK) (gu:=gu) (r:=y) hT I hy (s.ae [1])) ?_))))
  rintro v h ⟨dt,ch,cs,rfl,s⟩
  dsimp only[aQ,bringA] at s
  have lE:=(s.buf (k:=1) rfl).view.cells
  have kg:=s.jW (j:=2) rfl
  have fM:[V.int .i64 (y.kd:Int),V.int .u64 (y.tx:Int),V.int .u64 (y.pv:Int),V.int .u64 (y.nx:Int),dt,ch].all storable=true:=mO lE.2 kg.2.1
  refine zk 4 rfl ?_
  refine ay.cV s rfl rfl rfl (cK nT) (fun p8 h s => ?_)
  dsimp only[V.cells,List.length_cons,List.length_nil,Nat.reduceAdd] at s
  refine zS rfl (s.iq (j:=0) rfl fE rfl fM) ?_
  rintro h s
  dsimp only[setA] at s
  refine zk 7 rfl (zC rfl aX (rfl) (zk 6 rfl (zY s 0 kP qg rfl (zo rfl (aY rfl rfl rfl (s.vN (j1:=3) (j2:=4) rfl rfl iQ)) (zk 2 rfl (WP.block ?_))))))
  have s:=s.ae [6,3,3,3,1]
  dsimp only[bringA,getA,aQ] at s
  refine OZ (n:=base+szB dK) hW hy.aR y.aR.length 0 ρ h _ _ (by omega) (by have:=hy.rd.many;omega) J s ⟨rfl,rfl,rfl,rfl,rfl,rfl,rfl,rfl,aa⟩ (fun E h U s => ?_)
  rw[fY] at s
  refine WP.has U (zr rfl (zk 2 rfl (zv ?_)))
  have s:=(((s.del 6).del 5).ae [0,2,2]).del 3
  have s:=s.del 3
  refine ih (dK++[y]) (C1 (base+szB dK) y.aR ρ) _ _ Q (by simp) (H_ J hy.aR) s ⟨rfl,rfl,rfl,?_,aa⟩ (fun E' h' fW s'=>hq E' h' fW ?_)
  ·rw[eX]
   show some (V.int .u64 ((base+szB dK+y.len:Nat):Int))=_
   rw[show base+(szB dK+szB [y])=base+szB dK+y.len by simp only[szB];omega]
  ·rw[redoL,show base+szB dK+y.len=base+szB (dK++[y]) by rw[eX];simp only[szB];omega]
   exact s'
structure oy (δ:Dk)(m:Nat): Prop where
 ok:δ.Ok
 wait:δ.waiting.length+m≤268435456
 now:∀e∈δ.now,0≤e.1∧e.1<δ.ai.length
theorem oy.less {m:Nat}(h:oy δ (m+1)): oy δ m:=⟨h.ok,by have:=h.wait;omega,h.now⟩
theorem oy.write {m:Nat}{k:Int}(h:oy δ (m+1))(h0:0≤k)(h1:k<δ.ai.length): oy (δ.a_ k b).2 m∧(δ.a_ k b).2.ai=δ.ai:=by
 have hw:=h.wait
 have I:=h.ok.a_ (n:=k) (b:=b)
 unfold Dk.a_ at I ⊢
 split at I
 ·rename_i J
  rw[aE J]
  exact⟨⟨I,by simp only;omega,h.now⟩,rfl⟩
 ·rename_i J
  rw[ah J]
  split at I
  ·rename_i U
   rw[aE U]
   exact⟨⟨I,by simp only;omega,h.now⟩,rfl⟩
  ·rename_i U
   rw[ah U]
   split at I
   ·rename_i h3
    rw[aE h3]
    exact⟨⟨I,by show δ.waiting.length+m≤_;omega,h.now⟩,rfl⟩
   ·rename_i h3
    rw[ah h3]
    refine⟨⟨I,?_,fun e he => ?_⟩,rfl⟩
    ·show(δ.waiting++[(k.toNat,b)]).length+m≤_
     simp only[bT,bI,dz];omega
    ·rcases Fi he with rfl|he
     ·exact⟨h0,h1⟩
     ·exact h.now e he
noncomputable def agS : Code:=cC [1,1,1,1,0,1,0,0] ((Tryz.f69.body).getD .skip)
theorem JB (hT:W told){ks:List Int}{kv:V}{i0 j0:Nat}(Od:ks.length≤65536)(sn:∀k∈ks,0≤k)(qt:∀k∈ks,(lookL k ρ.ai).isSome=true)(hlen:∀e∈ρ.ai,e.2.length=512): ∀(j i:Nat) (δ:Dk) (h:H) (E:List (Nat×V)) (Q:Ex→List (Nat×V)→H→Prop),i+j=ks.length→oy δ j →
  Sat h (pt x (.cells 2 [.map i0,.map j0] false)::jc (fun v b=>.cm v b) (.map i0) ρ.ai::jc Bx (.map j0) ρ.ox::.arr 1 kv (eS ks)::pt a (.cells 6 (qq a p q r op dv wv) false)::aD p δ::S) →
  Has E [(0,.ptr a 0),(5,.ptr x 0),(55,kv),(56,.int .i64 ks.length),(57,.int .i64 i)] →
  (∀E' h',(againW ρ (ks.drop i) δ).1≠0→look E' 4=some (.int .i64 (againW ρ (ks.drop i) δ).1)→Sat h' (pt a (.cells 6 (qq a p q r op dv wv) false)::aD p (againW ρ (ks.drop i) δ).2::S)→Q .ret E' h') →
  (∀E' h',(againW ρ (ks.drop i) δ).1=0→oy (againW ρ (ks.drop i) δ).2 0→Has E' [(0,.ptr a 0),(5,.ptr x 0)]→Sat h' (pt x (.cells 2 [.map i0,.map j0] false)::jc (fun v b=>.cm v b) (.map i0) ρ.ai::pt a (.cells 6 (qq a p q r op dv wv) false)::aD p (againW ρ (ks.drop i) δ).2::S)→Q (.exit 4) E' h') →
  WP ⟨Tryz.prog,told⟩ 110 (.loop agS) E h Q:=by
 intro j
 induction j with
 |zero =>
  intro i δ h E Q hi I s hE J U
  rw[va (by omega)] at J U
  refine WP.loop (WP.has hE (zg rfl (zC rfl bq (by simp;omega) ?_)))
  exact zk 3 rfl (WP.exit (U _ _ rfl I ⟨rfl,rfl,aa⟩ ((s.ae [0,0,2,2]).del 5 |>.del 4)))
 |succ j ih =>
  intro i δ h E Q hi I s hE J U
  have hn:ks[i]?=some (ks[i]'(by omega)):=bn _
  generalize (ks[i]'(by omega))=k at hn
  have hkm:=bu hn
  have U7:=sn k hkm
  have jo:ks.drop i=k::ks.drop (i+1):=by
   obtain⟨J,rfl⟩:=List.getElem?_eq_some_iff.1 hn
   exact lJ J
  obtain⟨b,hb⟩:=Option.isSome_iff_exists.1 (qt k hkm)
  have xz:b.length=512:=hlen _ (fh hb)
  rw[jo,againW,hb] at J U
  simp only at J U
  have hc:(eS ks)[i]?=some (.int .i64 k):=by simp[eS,hn]
  obtain⟨id,off,e1,e2⟩:=iX s (k:=3) rfl hc eC jt
  refine WP.loop (WP.has hE (zg rfl (zB rfl bq (by simp;omega) ?_)))
  refine zk 5 rfl (WP.block (zg rfl (zo rfl (dD (r:=.ptr id off) rfl rfl e1) (zl rfl (e2 _ dy) (zk 3 rfl ?_)))))
  rcases mw (n:=k) (fun _ _=>aF.cm _ _) (s.ae [1]) kZ bK yc with⟨hl,_⟩|⟨u,b',hl,_,f2,s⟩
  ·rw[hb] at hl;cases hl
  rw[hb] at hl
  injection hl with hl
  subst hl
  dsimp only[qq,aQ,bringA] at s
  obtain⟨f4,s⟩:fC Tryz.prog h 232 (.map j0) (.int .i64 k) false=some (.int .u64 (lI ρ k:Int))∧Sat h (jc Bx (.map j0) ρ.ox::.cm u b::jc (fun v b=>.cm v b) (.map i0) ρ.ai::pt x (.cells 2 [.map i0,.map j0] false)::.arr 1 kv (eS ks)::pt a (.cells 6 (qq a p q r op dv wv) false)::aD p δ::S):=by
   have s:=s.ae [3,0,0,0]
   rcases mw (n:=k) (fun _ _=>aF.pu _) s Tryz.underlying232 bK GO with⟨hl,_,f⟩|⟨w,y,hl,_,f,s⟩
   ·exact⟨by rw[f,lI,hl];rfl,s⟩
   ·obtain⟨rfl,s2⟩:=eP.1 s
    exact⟨by rw[f,lI,hl];rfl,s2⟩
  have s:=s.ae [3,4,1]
  dsimp only[qq,bringA,getA,aQ] at s
  have EW:=dr (s.aL (k:=2) rfl (cI _ _))
  refine WP.drawn [af,af,af,af,af,af,af,af,af,af,af,af,af,af,af,af,af,af] rfl (by kernel_rfl) (by kernel_rfl) ?_
  refine zM rfl (zN rfl (zF rfl (pO _ _) (zL rfl (s.ld (k:=0) rfl jF rfl) (zM rfl (zO rfl (gX rfl rfl f2) (zM rfl (zN rfl (zF rfl (Kf _ _) (zL rfl (s.ld (k:=0) rfl Sw rfl) (zM rfl (zO rfl (gX rfl rfl f4) (au.any rfl rfl rfl rfl (OpR.call rfl rfl rfl rfl (Kn (n:=lI ρ k) hT (s.ae [2]) (cI _ _) (by omega))) ?_))))))))))))
  rintro v h (⟨hg,u2,rfl,s⟩|⟨hg,rfl,s⟩)
  ·skip
   dsimp only[aQ,bringA] at s
   refine zM rfl (zO rfl (bN rfl rfl) (zO rfl (bN rfl rfl) (zA rfl (zA rfl ?_))))
   refine au.nil ⟨⟨aa,aa,aa,aa,aa,aa,aa,aa,aa,aa,aa,aa,aa,aa,aa,aa,aa,aa,aa⟩,?_⟩
   refine zK 4 rfl (zC rfl aX (rfl) (zk 4 rfl (zY s 3 pI jK rfl (zc rfl (Bg hT (s.ae [7])) ?_))))
   rintro v h' ⟨rfl,rfl⟩
   by_cases hp:k<δ.ai.length
   ·skip
    rw[aE ⟨hg,hp⟩] at J U
    have lC:=(pW (n:=lI ρ k) xz).2.1
    have Hi:=I.wait
    have hw:=I.write (k:=k) (b:=cP b (lI ρ k)) U7 hp
    refine zC rfl kK (by simp;omega) ?_
    refine zk 8 rfl (zY s 3 pI jK rfl (zk 2 rfl (zc rfl (Kp hT (s.ae [7,0]) (bJ _ _) (by omega) I.ok.aA (by omega)) ?_)))
    rintro v h ⟨rfl,s⟩
    dsimp only[aQ,bringA] at s
    by_cases h0:(δ.a_ k (cP b (lI ρ k))).1=0
    ·rw[ah (not_not_intro h0)] at J U
     rw[h0]
     refine za rfl (zv (zg rfl (zm rfl (zh rfl (aJ rfl rfl aX) (rfl) (zv (zj rfl (WP.skip (zr rfl (zb rfl (by exact bP (aV (by omega) (by omega))) ?_)))))))))
     refine zm rfl (zv ?_)
     have s:=(s.ae [3,5,4,4,3,0]).del 6
     have s:=s.del 6
     dsimp only[bringA,getA,aQ] at s
     exact ih (i+1) _ _ _ Q (by omega) hw.1 s ⟨rfl,rfl,rfl,rfl,rfl,aa⟩ J U
    ·skip
     rw[aE h0] at J U
     refine zk 5 rfl (zB rfl aX (by simpa using h0) ?_)
     refine zk 7 rfl (WP.ret ?_)
     have s:=(s.ae [4,0]).del 2
     exact J _ _ h0 rfl ((((s.del 2).del 2).del 2).del 2 |>.del 2)
   ·skip
    rw[ah (fun q=>hp q.2)] at J U
    refine zB rfl kK (by simp;omega) ?_
    refine zk 3 rfl (WP.exit (zr rfl (zb rfl (by exact bP (aV (by omega) (by omega))) ?_)))
    refine zm rfl (zv ?_)
    have s:=(s.ae [2,4,3,3,2,2]).del 6
    have s:=s.del 6
    dsimp only[bringA,getA,aQ] at s
    exact ih (i+1) _ _ _ Q (by omega) I.less s ⟨rfl,rfl,rfl,rfl,rfl,aa⟩ J U
  ·skip
   rw[ah (fun q=>by rw[hg] at q;cases q.1)] at J U
   dsimp only[aQ,bringA] at s
   refine zM rfl (zO rfl (bN rfl rfl) (zO rfl (bN rfl rfl) (zA rfl (zA rfl ?_))))
   refine au.nil ⟨⟨aa,aa,aa,aa,aa,aa,aa,aa,aa,aa,aa,aa,aa,aa,aa,aa,aa,aa,aa⟩,?_⟩
   refine zK 4 rfl (zB rfl aX (rfl) (zk 11 rfl (WP.exit (zr rfl (zb rfl (by exact bP (aV (by omega) (by omega))) ?_)))))
   refine zm rfl (zv ?_)
   have s:=(s.ae [1,3,2,2,1,1]).del 6
   exact ih (i+1) _ _ _ Q (by omega) I.less s ⟨rfl,rfl,rfl,rfl,rfl,aa⟩ J U
end
def fS.none : fS:=⟨[],[]⟩
theorem vT : fS.none.Ok:=⟨fun e h=>(by cases h),fun k h=>(by cases h),jz⟩
theorem fS.Ok.few (h:ρ.Ok): ρ.ai.length≤65536:=by
 have:=uF 65536 _ h.dup (fun n I=>by have:=h.low n I;omega)
 simpa using this
theorem xb {m:List (Int×α)}: (az m).length=m.length:=by rw[az,(en _).length_eq,iE]
theorem By {m:List (Int×α)}{k:Int}: k∈az m↔k∈m.map (·.1):=(en _).mem_iff
section
variable {told:dI} {op:V} {p r base aq:Nat}
theorem Rq (hT:W5 told){rs:List bt}(he:rs=dK++gu)(qa:∀r∈rs,r.Ok)(L0:(fX base aq rs).Ok)(J:oy δ 65536)(s:Sat h (cB a p q r op data c0::bh q p (fX base aq rs)::aD p δ::S)):
  Call ⟨Tryz.prog,told⟩ 69 [.ptr a 0,.int .u64 ((base+szB dK:Nat):Int)] h fun v h' =>
   v=.int .i64 (kF (redoL (base+szB dK) gu fS.none) δ).1∧Sat h' (cB a p q r op data c0::bh q p (fX base aq rs)::aD p (kF (redoL (base+szB dK) gu fS.none) δ).2::S):=by
 have hW:=hT.w.w
 have I:(redoL (base+szB dK) gu fS.none).Ok:=w_ vT (fun r hr=>qa r (by rw[he];exact List.mem_append.2 (.inr hr)))
 obtain⟨dv,s⟩:=bM.1 s
 refine Call.of_wp (hW.free _ rfl) Tryz.func69 rfl rfl (zK 6 rfl ?_)
 refine ay.yb s rfl rfl rfl rfl (fun p18 h s => ?_)
 refine ay.yb s rfl rfl rfl rfl (fun p19 h s => ?_)
 refine zo rfl (dn rfl (by rw[Sx];rfl)) ?_
 refine ay.cV s rfl rfl rfl (gP rfl rfl) (fun Wq h s => ?_)
 refine zk 5 rfl (zo rfl (Ac rfl rfl) (zk 8 rfl (WP.block ?_)))
 have s:=(s.gB (φ:=True) aa).gB (φ:=True) aa
 have s:=tX (ρ:=fS.none).2 ⟨_,[],0,_,[],0,⟨aa,jz,aa,jz⟩,s.ae [2,3,0,1,0]⟩
 refine Mt hT.wr qa L0 gu dK fS.none h _ _ he vT (s.ae [0,0,1]) ⟨rfl,rfl,rfl,rfl,aa⟩ (fun E h hE s => ?_)
 generalize hρ:redoL (base+szB dK) gu fS.none=ρ at I s
 refine WP.has hE ?_
 obtain⟨i,l,k,j,m,g,⟨h1,h2,h3,h4⟩,s⟩:=tX.1 s
 have s:=JA (s.ae [2])
 have s:=eB.2 ⟨i,l,k,rfl,h1,h2,s.ae [2,0]⟩
 have s:=eB.2 ⟨j,m,g,rfl,h3,h4,s.ae [2,2]⟩
 have s:=s.ae [2,1,0]
 have Rr:=I.few
 refine zK 5 rfl (zY s 0 pO jF rfl (zc rfl (wR hW s) ?_))
 rintro v h ⟨kb,rfl,s⟩
 refine zc rfl (pU hW (s.ae [0,1]) (by decide) (by omega) (fun n hn=>wf_i64 (by have:=I.low n hn;omega) (by have:=I.low n hn;omega))) ?_
 intro kv h s
 refine zo rfl (aY rfl rfl rfl (s.iG (n:=(az ρ.ai).length) (j:=0) rfl (by simp[eS]) (by decide) eC)) ?_
 refine zk 2 rfl (WP.block ?_)
 have s:=(s.ae [3,2,2,0,1,3]).del 6
 refine JB hW (ks:=az ρ.ai) (by rw[xb];exact Rr) (fun k hk=>(I.low k (By.1 hk)).1) (fun k hk=>by
  cases hl:lookL k ρ.ai with
  |none=>exact absurd (By.1 hk) (ff.1 hl)
  |some b=>rfl) I.len (az ρ.ai).length 0 δ h _ _ (by omega) (by rw[xb];exact⟨J.ok,by have:=J.wait;omega,J.now⟩) s ⟨rfl,rfl,rfl,rfl,rfl,aa⟩ (fun E' h' U e2 s' => ?_) (fun E h U e2 hE s => ?_)
 ·rw[fY] at U e2 s'
  have e:kF ρ δ=againW ρ (az ρ.ai) δ:=by rw[kF,aE U]
  rw[e]
  exact⟨aa,_,ny e2,rfl,(bM.2 ⟨dv,s'.ae [0,2]⟩).ae [0,1,0]⟩
 ·rw[fY] at U e2 s
  refine WP.has hE (zK 5 rfl (zY s 0 pO jF rfl (zo rfl (aY rfl rfl rfl (Bb (s.ae [1]) kZ)) ?_)))
  by_cases hz:ρ.ai=[]
  ·skip
   have e:kF ρ δ=(0,(againW ρ (az ρ.ai) δ).2):=by rw[kF,ah (not_not_intro U),aE hz]
   rw[e]
   refine zB rfl bZ (by rw[hz];rfl) ?_
   exact zk 6 rfl (WP.ret ⟨aa,_,rfl,rfl,(bM.2 ⟨dv,((s.drop.drop).ae [0,2])⟩).ae [0,1,0]⟩)
  ·skip
   have e:kF ρ δ=(againW ρ (az ρ.ai) δ).2.cM:=by rw[kF,ah (not_not_intro U),ah hz]
   rw[e]
   refine zC rfl bZ (by have:ρ.ai.length≠0:=fun h=>hz (yU h);simp;omega) ?_
   refine zk 7 rfl (zY s 2 pI jK rfl (zc rfl (Kv hT.w (s.ae [3]) e2.ok e2.now) ?_))
   rintro v h ⟨rfl,s⟩
   dsimp only[qq,V.cells,List.take,List.length_cons,List.length_nil,Nat.reduceAdd,List.drop,List.cons_append,List.nil_append,aQ,bringA,getA] at s
   exact zk 2 rfl (WP.ret ⟨aa,_,rfl,rfl,(bM.2 ⟨dv,(((s.ae [3,4,3,0]).del 4).del 4)⟩).ae [0,0,0]⟩)
end
def xg (base aq:Nat)(rs:List bt)(data:List Nat)(dK gu:List bt): Prop :=
 rs=dK++gu∧((aq=0∧data=[]∧dK=[])∨∃A rc B,rs=A++rc::B∧aq=base+szB A∧aq≠0∧rc.kd=8∧8≤rc.data.length∧data=rc.data.drop 8∧max base (leN (rc.data.take 8))=base+szB dK)
def cz (δ:Dk)(base:Nat)(rs dK gu:List bt): Int×Dk :=
 if (δ.cy (szB rs)).1≠0 then δ.cy (szB rs) else kF (redoL (base+szB dK) gu fS.none) (δ.cy (szB rs)).2
theorem JC {n:Nat}: (δ.cJ n).2.waiting=δ.waiting∧(δ.cJ n).2.now=δ.now∧(δ.cJ n).2.ai=δ.ai:=by
 unfold Dk.cJ Dk.oM
 split
 ·split
  ·exact⟨rfl,rfl,rfl⟩
  ·split
   ·exact⟨rfl,rfl,rfl⟩
   ·split<;>exact⟨rfl,rfl,rfl⟩
 ·exact⟨rfl,rfl,rfl⟩
theorem JD : δ.bQ.2.waiting=δ.waiting∧δ.bQ.2.now=δ.now∧δ.bQ.2.ai=δ.ai:=by
 unfold Dk.bQ
 split
 ·exact⟨rfl,rfl,rfl⟩
 ·split<;>exact⟨rfl,rfl,rfl⟩
theorem sR {n:Nat}: (δ.cy n).2.waiting=δ.waiting∧(δ.cy n).2.now=δ.now∧(δ.cy n).2.ai=δ.ai:=by
 unfold Dk.cy
 have h:=JC (δ:=δ) (n:=n)
 split
 ·exact h
 ·split
  ·have I:=JD (δ:=(δ.cJ n).2)
   exact⟨I.1.trans h.1,I.2.1.trans h.2.1,I.2.2.trans h.2.2⟩
  ·exact h
theorem oy.cy {m n:Nat}(h:oy δ m): oy (δ.cy n).2 m:=by
 obtain⟨I,J,U⟩:=sR (δ:=δ) (n:=n)
 exact⟨h.ok.cy,by rw[I];exact h.wait,by rw[J,U];exact h.now⟩
section
variable {told:dI} {j:List Nat} {p base aq:Nat}
noncomputable def soE : Code:=cC [1,1,1,1,1,1,1,1,1] ((Tryz.f19.body).getD .skip)
theorem Fj (hT:W5 told){r n:Nat}{rs:List bt}(he:rs=dK++gu)(J:∀r∈rs,r.Ok)(U:(fX base aq rs).Ok)(Bj:oy δ 65536)
 (s:Sat h (cB a p q r .cH data c0::cq r p q (Pl.fresh n)::bh q p (fX base aq rs)::aD p δ::S))(hE:Has E [(9,.ptr a 0),(10,.int .u64 ((base+szB dK:Nat):Int))]){y:Int×Dk}(hy:kF (redoL (base+szB dK) gu fS.none) δ=y)
 (h1:∀E' h',y.1≠0→look E' 4=some .cH→look E' 5=some (.int .i64 y.1)→Sat h' (aD p y.2::S)→Q .ret E' h')
 (h2:∀E' h',y.1=0→look E' 4=some (.ptr a 0)→look E' 5=some (.int .i64 0)→Sat h' (cB a p q r .cH data c0::cq r p q (Pl.fresh n)::bh q p (fX base aq rs)::aD p y.2::S)→Q .ret E' h'): WP ⟨Tryz.prog,told⟩ 95 soE E h Q:=by
 refine WP.has hE (zK 5 rfl (zc rfl (Rq hT he J U Bj (s.ae [0,1,1])) ?_))
 rintro v h ⟨rfl,s⟩
 rw[hy] at s
 rw[hy]
 by_cases I:y.1=0
 ·skip
  rw[I]
  exact zk 5 rfl (zC rfl aX (rfl) (zk 9 rfl (WP.ret (h2 _ _ I rfl rfl (s.ae [0,2,0,0])))))
 ·skip
  refine zk 5 rfl (zB rfl aX (by simpa using I) ?_)
  exact zk 8 rfl (WP.ret (h1 _ _ I rfl rfl (((s.ae [2]).del 1 |>.del 1).del 1)))
theorem aaZ {ts:Array TypeId}{k:IntKind}{a b:Int}: builtinV P h .max ts [.int k a,.int k b]=some (.int k (max a b),h):=by
 simp only[builtinV,foldV,maxV,dL,ak,mR]
 by_cases I:a<b
 ·simp only[I,decide_true,ak]
  rw[show max a b=b by omega]
 ·simp only[I,decide_false,bf]
  rw[show max a b=a by omega]
theorem Bz (hT:W5 told){n:Nat}{rs:List bt}(AS:1≤n)(Ff:n≤1024)(s:Sat h (aD p δ::S))(U:oy δ 65536)(hd:δ.dead=false)(hm:qz δ.mark base aq)(wZ:base+δ.log.length≤1099511627776)(Ms:aq≤1099511627776)
 (yJ:δ.log=logB base rs++j)(J:∀r∈rs,r.Ok)(hj:qy j)(vU:xg base aq rs data dK gu):
  Call ⟨Tryz.prog,told⟩ 19 [.ptr p 0,.int .i64 (n:Int)] h fun v h' =>
   ((cz δ base rs dK gu).1≠0∧v=.bD [.cH,.int .i64 (cz δ base rs dK gu).1]∧Sat h' (aD p (cz δ base rs dK gu).2::S)) ∨
   ((cz δ base rs dK gu).1=0∧∃a q r,v=.bD [.ptr a 0,.int .i64 0]∧Sat h' (cB a p q r .cH data aq::cq r p q (Pl.fresh n)::bh q p (fX base aq rs)::aD p (cz δ base rs dK gu).2::S)):=by
 have hW:=hT.w.w
 have hlen:=U.ok.len
 have i_:δ.log.length=szB rs+j.length:=by rw[yJ,bT,eZ]
 have L0:(fX base aq rs).Ok:=KL (by omega) (by omega) Ms
 obtain⟨Xe,vU⟩:=vU
 generalize hy:cz δ base rs dK gu=y
 unfold cz at hy
 refine Call.of_wp (hW.free _ rfl) Tryz.func19 rfl rfl (zK 9 rfl (zC rfl bq (by simp<;>omega) ?_))
 refine zk 2 rfl (zC rfl dS (by simp<;>omega) ?_)
 refine zk 7 rfl (zc rfl (Rl hT.wr s U.ok hd hm wZ (by omega) yJ J hj) ?_)
 rw[eZ]
 rintro v h (⟨I,rfl,s⟩|⟨I,q,rfl,s⟩)
 ·skip
  rw[aE I] at hy
  rw[hy] at I s
  rw[hy]
  refine zk 10 rfl (zB rfl aX (by simpa using I) ?_)
  exact zk 8 rfl (WP.ret ⟨aa,_,rfl,.inl ⟨I,rfl,s⟩⟩)
 rw[ah (not_not_intro I)] at hy
 refine zk 10 rfl (zC rfl aX (rfl) (zk 8 rfl (zc rfl (Kt (p:=p) (q:=q) (n:=n) hW s) ?_)))
 rintro v h (⟨hn,_,_⟩|⟨_,_,r,rfl,s⟩)
 ·omega
 rw[eD] at s
 refine zk 10 rfl (zC rfl aX (rfl) (zk 8 rfl (zo rfl (dn rfl (by rw[Ss];rfl)) ?_)))
 refine ay.cV s rfl rfl rfl (gP rfl rfl) (fun p44 h s => ?_)
 refine zk 5 rfl (zc rfl (uw hW (s.ae [2])) ?_)
 rintro v h' ⟨rfl,rfl⟩
 refine zk 6 rfl (zc rfl (AN hW (s.ae [2])) ?_)
 rintro v h' ⟨rfl,rfl⟩
 rcases vU with⟨rfl,rfl,rfl⟩|⟨A,rc,B,hA,hcA,SX,O0,h8,rfl,fM⟩
 ·skip
  refine zk 5 rfl (zC rfl aX (rfl) (zk 3 rfl ?_))
  have s1:=bM.2 ⟨.bw,(s.rG).ae [1,0]⟩
  exact Fj hT Xe J L0 U.cy s1 ⟨rfl,rfl,aa⟩ hy (fun E' h' I e1 e2 s'=>⟨aa,_,uW e1 e2,.inl ⟨I,rfl,s'⟩⟩) (fun E' h' I e1 e2 s'=>⟨aa,_,uW e1 e2,.inr ⟨I,_,_,_,rfl,s'⟩⟩)
 ·skip
  subst hA
  subst hcA
  have p_:¬(((fX base (base+szB A) (A++rc::B)).check:Nat):Int)=0:=by show ¬((base+szB A:Nat):Int)=0;omega
  refine zk 5 rfl (zB rfl aX (by simpa using p_) ?_)
  refine zk 6 rfl (zc rfl (Ia (dK:=A) (gu:=B) (r:=rc) hT.wr L0 (J rc (by simp)) (s.ae [2])) ?_)
  rintro v h ⟨dt,ch,cs,rfl,s⟩
  have lE:=(s.buf (k:=1) rfl).view.cells
  have kg:=s.jW (j:=2) rfl
  have aa0:[V.int .i64 (rc.kd:Int),V.int .u64 (rc.tx:Int),V.int .u64 (rc.pv:Int),V.int .u64 (rc.nx:Int),dt,ch].all storable=true:=mO lE.2 kg.2.1
  refine zk 4 rfl ?_
  refine ay.cV s rfl rfl rfl (cK nT) (fun Wo h s => ?_)
  refine zS rfl (s.iq (j:=0) rfl fE rfl aa0) ?_
  rintro h s
  refine zk 6 rfl (zB rfl bZ (rfl) (zm rfl (zY s 0 qR dy rfl (zB rfl bZ (by rw[O0];rfl) ?_))))
  refine zk 2 rfl (zY s 0 vG bL rfl (zo rfl (aY rfl rfl rfl (bk aW (s.aL (k:=2) rfl (bJ _ _)))) (zB rfl kK (by simp;omega) ?_)))
  refine zk 7 rfl (zY s 0 vG bL rfl (zo rfl (cG (p:=some (.int .i64 8)) (q:=none) (m:=none) (p':=some 8) (q':=none) (m':=none) rfl rfl rfl rfl rfl rfl rfl (eA (s.buf (k:=2) rfl).view (a:=8) h8).1) (zc rfl (jY hW (s.ae [2]) (nX (bJ _ _) (a:=8) h8) (by have:=(J rc (by simp)).rd.data;simp;omega)) ?_)))
  intro u h s
  have s:=s.fO
  dsimp only[V.cells,List.length_cons,List.length_nil,Nat.reduceAdd,List.take,List.drop,List.cons_append,List.nil_append,aQ,bringA,setA] at s
  have hu:=(s.aL (k:=0) rfl (cI _ _)).cells
  refine zk 2 rfl (zf rfl (DS _ _) (zS rfl (s.dV (k:=6) rfl ju rfl (by decide) hu.1 hu.2) ?_))
  intro h s
  refine zn rfl (zf rfl (Ah _ _) ?_)
  refine zS rfl (by exact s.dV (k:=6) rfl ot rfl (by decide) rfl rfl) (fun h s => ?_)
  refine zk 3 rfl (zY s 2 vG bL rfl (zo rfl (cG (p:=none) (q:=some (.int .i64 8)) (m:=none) (p':=none) (q':=some 8) (m':=none) rfl rfl rfl rfl rfl rfl rfl (iC (s.buf (k:=1) rfl).view (b:=8) h8).1) (zc rfl (pS hW s (k:=1) rfl (wF (bJ _ _) (b:=8) h8) (by rw[gv];omega)) ?_)))
  rintro v h' ⟨rfl,rfl⟩
  refine zo rfl (LN (r:=.int .u64 ((base+szB dK:Nat):Int)) rfl rfl (aaZ.trans (by rw[show max (((fX base (base+szB A) (A++rc::B)).base:Nat):Int) ((leN (rc.data.take 8):Nat):Int)=((base+szB dK:Nat):Int) by rw[←fM];show max (base:Int) _=_;omega]))) ?_
  refine zk 2 rfl ?_
  have s:=(bM.2 ⟨u,(s.ae [6,0])⟩).ae [0,5,2,4]
  have s:=(((s.del 4).del 4).del 4).del 4
  exact Fj hT Xe J L0 U.cy s ⟨rfl,rfl,aa⟩ hy (fun E' h' I e1 e2 s'=>⟨aa,_,uW e1 e2,.inl ⟨I,rfl,s'⟩⟩) (fun E' h' I e1 e2 s'=>⟨aa,_,uW e1 e2,.inr ⟨I,_,_,_,rfl,s'⟩⟩)
end
structure LR (B0 aq:Nat)(mk:List Nat)(rs:List bt)(x:LD): Prop where
 base:x.1.base=B0
 b:x.1.b=logB B0 rs
 br:x.1.br=gI 0 rs
 check:x.1.check=aq
 log:x.2.log=logB B0 rs
 alive:x.2.dead=false
 aA:x.2.aA<0
 mark:x.2.mark=mk
 cW:x.2.cW=none
 tail:x.2.tail=[]
 wait:∀w∈x.2.waiting,w.1<x.2.ai.length∧w.2.length=512
 rs:∀r∈rs,r.Ok
theorem jI (base aq:Nat)(mk:List Nat)(rs:List bt): j5 (LR base aq mk rs):=by
 refine⟨fun x n h => ?_,fun x n b h => ?_⟩
 ·unfold aK
  split
  ·exact h
  ·have e:x.2.bQ=(0,{ x.2 with aH:=x.2.log.length }):=by
    rw[Dk.bQ,ah (by rw[h.alive];decide),ah (by have:=h.aA;omega),gr h.aA]
   rw[e,ah (by simp)]
   exact⟨h.base,h.b,h.br,h.check,h.log,h.alive,h.aA,h.mark,h.cW,h.tail,h.wait,h.rs⟩
 ·unfold Dk.a_
  rw[ah (by rw[h.alive];decide)]
  split
  ·exact h
  ·rename_i I
   rw[ah (by have:=h.aA;omega)]
   refine⟨h.base,h.b,h.br,h.check,h.log,h.alive,?_,h.mark,h.cW,h.tail,fun w hw => ?_,h.rs⟩
   ·show x.2.cQ.aA<0
    rw[gr h.aA];exact h.aA
   ·rcases List.mem_append.1 hw with hw|hw
    ·exact h.wait w hw
    ·rw[List.mem_singleton.1 hw]
     have I:=Classical.not_not.1 I
     exact⟨by show n.toNat<x.2.ai.length;omega,I.2.2⟩
theorem Mu {kd:Int}{aR:List ct}: data.length≤(dF kd tx pv nx data aR).length∧aR.length≤(dF kd tx pv nx data aR).length:=by
 have:=HS aR
 simp only[dF,bT,bI,dz]
 omega
theorem LR.app {base aq kd:Nat}{rs:List bt}{c:List ct}(h:LR base aq mk rs x)(hk:1≤kd)(hg:dY kd c=true)(ht:tx<65536)
 (ha:(aI x kd tx 0 0 data c).1.2=0): ∃r:bt,r.Ok∧r.kd=kd∧r.tx=tx∧r.pv=0∧r.nx=0∧r.data=data∧r.aR=c∧(aI x kd tx 0 0 data c).1.1=base+szB rs∧LR base aq mk (rs++[r]) (aI x kd tx 0 0 data c).2∧logB base (rs++[r])=logB base rs++bX x.1 kd tx 0 0 data c∧(logB base rs).length+(bX x.1 kd tx 0 0 data c).length≤x.2.room:=by
 rcases gh x kd tx 0 0 data c with⟨e,he,_,hq⟩|⟨_,hf,_⟩|⟨_,hb,hd,U,hf,hq⟩
 ·grind
 ·grind
 ·rw[gr h.aA] at hq
  have abG:=Mu (kd:=kd) (tx:=tx) (pv:=0) (nx:=0) (data:=data) (aR:=c)
  have hr:(bt.mk kd tx 0 0 data c).Ok:=⟨hg,⟨by grind,by simp,by simp,by grind,by grind⟩,hb⟩
  have hl:(logB base rs).length=szB rs:=eZ
  have hn:bX x.1 kd tx 0 0 data c=iD (base+szB rs) (bt.mk kd tx 0 0 data c).bd:=by rw[bX,h.base,h.b,hl];rfl
  have J:logB base (rs++[bt.mk kd tx 0 0 data c])=logB base rs++bX x.1 kd tx 0 0 data c:=by grind[tY,logB]
  have hof:gI 0 (rs++[bt.mk kd tx 0 0 data c])=gI 0 rs++[szB rs]:=by rw[w9,gw];rfl
  refine⟨bt.mk kd tx 0 0 data c,hr,rfl,rfl,rfl,rfl,rfl,rfl,?_,?_,J,by rw[←h.log];exact U⟩
  ·rw[hq];rw[h.base,h.b,hl]
  ·rw[hq]
   refine⟨h.base,?_,?_,h.check,?_,h.alive,h.aA,h.mark,h.cW,h.tail,h.wait,fun r I => ?_⟩
   ·show x.1.b++_=_;rw[h.b,J]
   ·show x.1.br++[x.1.b.length]=_;rw[h.br,h.b,hl,hof]
   ·grind[log]
   ·rcases List.mem_append.1 I with I|I
    ·exact h.rs r I
    grind
theorem UI : ∀(rs:List bt) (n K:Nat),(∀r∈rs,r.Ok)→∃dK gu j,rs=dK++gu∧(logB n rs).take K=logB n dK++j∧qy j:=by
 intro rs
 induction rs with
 |nil=>intro n K _;exact⟨[],[],[],rfl,by simp[logB],.inl (by decide)⟩
 |cons r rs U =>
  intro n K I
  have hr:=I r cn
  by_cases hK:r.len≤K
  ·obtain⟨dK,gu,j,h1,h2,h3⟩:=U (n+r.len) (K-r.len) (fun x hx=>I x (b9 _ hx))
   refine⟨r::dK,gu,j,by rw[h1];rfl,?_,h3⟩
   have J:(iD n r.bd).length=r.len:=by rw[rY];rfl
   rw[logB,List.take_append,jy (by omega),J,h2,logB,cE]
  ·refine⟨[],r::rs,(iD n r.bd).take K,rfl,?_,?_⟩
   ·have J:(iD n r.bd).length=r.len:=by rw[rY];rfl
    show List.take K (iD n r.bd++logB (n+r.len) rs)=[]++_
    rw[yV (by omega),eE]
   ·by_cases h8:K<8
    ·exact .inl (by rw[gv];omega)
    ·right
     have J:(iD n r.bd).length=r.len:=by rw[rY];rfl
     have h4:((iD n r.bd).take K).take 4=le 4 r.bd.length:=by
      rw[List.take_take,zH (by omega),iD,cE,yV (by rw[dX];omega),jy (by rw[dX];omega)]
     have hb:=hr.len
     have hlen:r.len=8+r.bd.length:=rfl
     rw[h4,qv,gv,nL (by simp;omega)]
     omega
structure Lv (δ:Dk): Prop where
 alive:δ.dead=false
 aA:δ.aA<0
theorem Lv.cJ {n:Nat}(h:Lv δ): (δ.cJ n).1=0∧Lv (δ.cJ n).2:=by
 unfold Dk.cJ
 split
 ·rename_i I
  unfold Dk.oM
  rw[ah (by rw[h.alive];decide),ah (by omega),ah (by have:=h.aA;omega),gr h.aA]
  exact⟨rfl,h.alive,h.aA⟩
 ·exact⟨rfl,h⟩
theorem Lv.bQ (h:Lv δ): δ.bQ.1=0∧Lv δ.bQ.2:=by
 unfold Dk.bQ
 rw[ah (by rw[h.alive];decide),ah (by have:=h.aA;omega),gr h.aA]
 exact⟨rfl,h.alive,h.aA⟩
theorem Lv.cy {n:Nat}(h:Lv δ): (δ.cy n).1=0∧Lv (δ.cy n).2:=by
 obtain⟨J,I⟩:=h.cJ (n:=n)
 unfold Dk.cy
 rw[ah (not_not_intro J)]
 split
 ·exact I.bQ
 ·exact⟨rfl,I⟩
theorem Lv.a_ (h:Lv δ)(I:0≤n)(J:n<δ.ai.length)(U:b.length=512): (δ.a_ n b).1=0∧Lv (δ.a_ n b).2:=by
 unfold Dk.a_
 rw[ah (by rw[h.alive];decide),ah (not_not_intro ⟨I,J,U⟩),ah (by have:=h.aA;omega)]
 refine⟨rfl,h.alive,?_⟩
 show δ.cQ.aA<0
 rw[gr h.aA];exact h.aA
theorem Lv.again (J:ρ.Ok): ∀ {l:List Int} {δ:Dk},(∀k∈l,0≤k)→Lv δ→(againW ρ l δ).1=0∧Lv (againW ρ l δ).2:=by
 intro l
 induction l with
 |nil=>intro δ _ h;exact⟨rfl,h⟩
 |cons k l U =>
  intro δ hl h
  have I:∀k∈l,0≤k:=fun x hx=>hl x (b9 _ hx)
  rw[againW]
  cases hq:lookL k ρ.ai with
  |none=>exact U I h
  |some b =>
   simp only
   split
   ·rename_i hg
    have hb:b.length=512:=J.len _ (fh hq)
    obtain⟨w1,w2⟩:=h.a_ (n:=k) (b:=cP b (lI ρ k)) (hl k cn) hg.2 (pW hb).2.1
    rw[ah (not_not_intro w1)]
    exact U I w2
   ·exact U I h
theorem Lv.cM (h:Lv δ): δ.cM.1=0∧Lv δ.cM.2:=by
 rw[Dk.cM,ah (by rw[h.alive];decide),ah (by have:=h.aA;omega),gr h.aA]
 exact⟨rfl,h.alive,h.aA⟩
theorem Lv.cz {base:Nat}{rs:List bt}(h:Lv δ)(J:∀r∈gu,r.Ok): (cz δ base rs dK gu).1=0∧Lv (cz δ base rs dK gu).2:=by
 have I:(redoL (base+szB dK) gu fS.none).Ok:=w_ vT J
 obtain⟨o1,o2⟩:=h.cy (n:=szB rs)
 unfold Am.cz kF
 rw[ah (not_not_intro o1)]
 obtain⟨a1,U⟩:=Lv.again I (l:=az (redoL (base+szB dK) gu fS.none).ai) (fun k hk=>(I.low k (By.1 hk)).1) o2
 rw[ah (not_not_intro a1)]
 split
 ·exact⟨rfl,U⟩
 ·exact U.cM
theorem LR.cr {base aq:Nat}{rs:List bt}(h:LR base aq mk rs x)(I:x.2.Ok)(hw:x.2.waiting.length≤268435456)(hm:mk.length≤64): x.2.Cr :=
 ⟨I,h.wait,hw,(fun w J=>by rw[h.cW] at J;cases J),(by rw[h.tail];have:=I.len;simpa using this),(by rw[h.mark];exact hm)⟩
theorem Rs {c:List Nat}: Lv (d_ δ c):=⟨rfl,by show(-1:Int)<0;decide⟩
theorem KN {P:List (Option (List Nat))}{x:List Nat}(h:∀(j:Nat) (b:List Nat),P[j]?=some (some b)→b.length=512)(J:x.length=512): ∀(j:Nat) (b:List Nat),(P.set i (some x))[j]?=some (some b)→b.length=512:=fun j b I=>by
 rw[Dq] at I
 split at I
 ·split at I
  ·injection I with I;injection I with I;rw[←I];exact J
  ·cases I
 ·exact h j b I
theorem xh {c:List Nat}(h:δ.Cr): oy (d_ δ c) 65536∧(d_ δ c).ai.length=δ.ai.length:=by
 have hl:=h.ok.len
 have hr:=h.ok.room
 have hc:=h.ok.aH
 have hlen:(d_ δ c).ai.length=δ.ai.length:=by
  show(tornP c _ _ δ.cW).length=_
  cases δ.cW with
  |none=>exact Ej
  |some w=>rw[tornP,ep,Ej]
 have J:=KI (c:=c) (i:=0) (fun w hw=>(h.wait w hw).2) h.ok.ai
 have U:∀(j:Nat) (b:List Nat),(d_ δ c).ai[j]?=some (some b)→b.length=512:=by
  show ∀(j:Nat) (b:List Nat),(tornP c _ _ δ.cW)[j]?=some (some b)→b.length=512
  cases ht:δ.cW with
  |none=>exact J
  |some w =>
   have hw:=(h.cW w ht).2
   refine KN J ?_
   have I:((layW c 0 δ.waiting δ.ai).getD w.1 none).getD []=[]∨(((layW c 0 δ.waiting δ.ai).getD w.1 none).getD []).length=512:=by
    rw[qI]
    cases hq:(layW c 0 δ.waiting δ.ai)[w.1]? with
    |none=>exact .inl rfl
    |some o =>
     cases o with
     |none=>exact .inl rfl
     |some b=>exact .inr (J _ _ hq)
   have h2:(dJ (List.replicate 512 0) 0 (((layW c 0 δ.waiting δ.ai).getD w.1 none).getD [])).length=512:=by
    rw[jm (by rw[gM];rcases I with I|I<;>rw[I]<;>decide),gM]
   rw[jm (by rw[h2,gv];omega),h2]
 refine⟨⟨⟨by show(-1:Int)<_;decide,?_,hr,fun e he=>(by cases he),U,aP _,by rw[hlen];exact h.ok.many⟩,by show 0+65536≤_;decide,fun e he=>(by cases he)⟩,hlen⟩
 show(rX δ c).length≤_
 have ht:=h.tail
 rw[rX,bT,gv,gv,bT,nN]
 omega
def jM (c:ct)(σ:Int→List Nat): Int→List Nat:=fun n=>if n=c.aO then(if c.whole=true then c.b else dJ (σ n) c.pos.toNat c.b) else σ n
def iu (cs:List ct)(σ:Int→List Nat): Int→List Nat:=cs.foldl (fun σ c=>jM c σ) σ
def dg (rs:List bt)(σ:Int→List Nat): Int→List Nat:=rs.foldl (fun σ r=>iu r.aR σ) σ
theorem kR {x y:List bt}: dg (x++y) σ=dg y (dg x σ):=by grind[dg]
theorem Ib {x y:List ct}: iu (x++y) σ=iu y (iu x σ):=by grind[iu]
def yO (cs:List ct)(n:Int): Prop:=∃c∈cs,c.aO=n∧c.whole=true
def rZ (rs:List bt)(n:Int): Prop:=∃r∈rs,yO r.aR n
structure uI (ρ:fS)(σ:Int→List Nat)(W:Int→Prop): Prop where
 some:∀n b,lookL n ρ.ai=some b→b=σ n∧W n
 none:∀n,lookL n ρ.ai=none→¬W n
theorem uI.lD {W:Int→Prop}(h:uI ρ σ W)(k:Nat)(c:ct): uI (chgF k c ρ) (jM c σ) (fun n=>W n∨(c.aO=n∧c.whole=true)):=by
 unfold chgF
 by_cases hw:c.whole=true
 ·rw[aE hw]
  refine⟨fun n b I => ?_,fun n I => ?_⟩
  ·rw[gH] at I
   by_cases J:c.aO=n
   ·grind[jM]
   ·rw[ah J] at I
    have:=h.some n b I
    grind[jM]
  ·rw[gH] at I
   by_cases J:c.aO=n
   ·grind
   ·rw[ah J] at I
    rintro(q|q)
    ·exact h.none n I q
    ·omega
 ·rw[ah hw]
  cases U:lookL c.aO ρ.ai with
  |none =>
   refine⟨fun n b I => ?_,fun n I => ?_⟩
   ·have:=h.some n b I
    grind[jM]
   ·rintro(q|q)
    ·exact h.none n I q
    ·grind
  |some x =>
   have hx:=h.some _ x U
   refine⟨fun n b I => ?_,fun n I => ?_⟩
   ·rw[gH] at I
    by_cases J:c.aO=n
    ·grind[jM]
    ·rw[ah J] at I
     have:=h.some n b I
     grind[jM]
   ·rw[gH] at I
    by_cases J:c.aO=n
    ·grind
    ·rw[ah J] at I
     rintro(q|q)
     ·exact h.none n I q
     ·omega
theorem uI.iff {W J:Int→Prop}(h:uI ρ σ W)(hw:∀n,W n↔J n): uI ρ σ J:=⟨fun n b I=>⟨(h.some n b I).1,(hw n).1 (h.some n b I).2⟩,fun n I q=>h.none n I ((hw n).2 q)⟩
theorem uI.aR : ∀ {cs:List ct} {ρ:fS} {σ:Int→List Nat} {W:Int→Prop},uI ρ σ W→uI (C1 k cs ρ) (iu cs σ) (fun n=>W n∨yO cs n):=by
 intro cs
 induction cs with
 |nil=>intro ρ σ W h;exact h.iff fun n=>⟨.inl,fun q=>q.elim id fun⟨c,I,_⟩=>(by cases I)⟩
 |cons c cs J =>
  intro ρ σ W h
  refine(J (h.lD k c)).iff fun n => ?_
  constructor
  ·rintro((q|q)|⟨c',I,q⟩)
   ·grind
   ·exact .inr ⟨c,cn,q⟩
   ·exact .inr ⟨c',b9 _ I,q⟩
  ·rintro(q|⟨c',I,q⟩)
   ·grind
   ·rcases List.mem_cons.1 I with rfl|I
    ·grind
    ·exact .inr ⟨c',I,q⟩
theorem uI.Mv : ∀ {rs:List bt} {k:Nat} {ρ:fS} {σ:Int→List Nat} {W:Int→Prop},uI ρ σ W→uI (redoL k rs ρ) (dg rs σ) (fun n=>W n∨rZ rs n):=by
 intro rs
 induction rs with
 |nil=>intro k ρ σ W h;exact h.iff fun n=>⟨.inl,fun q=>q.elim id fun⟨r,I,_⟩=>(by cases I)⟩
 |cons r rs U =>
  intro k ρ σ W h
  refine(U (h.aR (k:=k))).iff fun n => ?_
  constructor
  ·rintro((q|q)|⟨J,I,q⟩)
   ·grind
   ·exact .inr ⟨r,cn,q⟩
   ·exact .inr ⟨J,b9 _ I,q⟩
  ·rintro(q|⟨J,I,q⟩)
   ·grind
   ·rcases List.mem_cons.1 I with rfl|I
    ·grind
    ·exact .inr ⟨J,I,q⟩
theorem UJ (rs:List bt)(k:Nat)(σ:Int→List Nat): uI (redoL k rs fS.none) (dg rs σ) (rZ rs) :=
 (uI.Mv (ρ:=fS.none) (W:=fun _=>False) ⟨fun n b I=>(by cases I),fun n _ q=>q⟩).iff fun n=>⟨fun q=>q.elim False.elim id,.inr⟩
def iw (a b:List Nat): Prop:=a.length=512∧b.length=512∧a.drop 12=b.drop 12
theorem iw.symm {a:List Nat}(h:iw a b): iw b a:=⟨h.2.1,h.1,h.2.2.symm⟩
theorem iw.trans {a c:List Nat}(h:iw a b)(g:iw b c): iw a c:=⟨h.1,g.2.1,h.2.2.trans g.2.2⟩
theorem iw.refl {a:List Nat}(h:a.length=512): iw a a:=⟨h,h,rfl⟩
theorem BA {n:Nat}(h:b.length=512): iw (cP b n) b:=⟨(pW h).2.1,h,(pW h).1⟩
theorem iw.good {a:List Nat}(h:iw a b): bR a=bR b:=CY (h.1.trans h.2.1.symm) h.2.2
theorem Xf {pg:Int}{now:List Nat}{l:List ct}(U:uz pg eO now i l): ∀ {σ:Int→List Nat},now.length=512→(σ pg).length=512→12≤i→(∀j,12≤j→j<i→(σ pg)[j]?=now[j]?)→(∀j,i≤j→(σ pg)[j]?=eO[j]?) →
  (iu l σ pg).length=512∧(∀j,12≤j→(iu l σ pg)[j]?=now[j]?)∧∀n,n≠pg→iu l σ n=σ n:=by
 induction U with
 |done i h =>
  intro σ hn hs h12 I hhi
  refine⟨hs,fun j hj => ?_,fun _ _=>rfl⟩
  by_cases VA:j<i
  ·exact I j hj VA
  ·show(σ pg)[j]?=_
   grind
 |skip i l h he U ih =>
  grind
 |take i e l h1 h2 _ _ U ih =>
  intro σ hn hs h12 I hhi
  have hg:∀j,(dJ (σ pg) i ((now.take e).drop i))[j]?=if i≤j∧j<e then now[j]? else(σ pg)[j]?:=fun j=>by
   grind[Mh]
  have hc:jM ⟨pg,i,false,(now.take e).drop i⟩ σ pg=dJ (σ pg) i ((now.take e).drop i):=by grind[jM]
  obtain⟨k1,k2,k3⟩:=ih (σ:=jM ⟨pg,i,false,(now.take e).drop i⟩ σ) hn (by grind) (by omega) (fun j hj hje=>by
   grind) (fun j hj=>by grind)
  refine⟨k1,k2,fun n J => ?_⟩
  have:=k3 n J
  rw[show iu (⟨pg,i,false,(now.take e).drop i⟩::l) σ=iu l (jM ⟨pg,i,false,(now.take e).drop i⟩ σ) from rfl,this,jM,ah J]
theorem KO {a:List Nat}(I:a.length=512)(J:b.length=512)(h:∀j,12≤j→a[j]?=b[j]?): iw a b :=
 ⟨I,J,Dn fun i=>by grind⟩
theorem Xg {pg:Int}{now:List Nat}{c:List ct}(I:HB pg eO now c)(J:now.length=512)(hs:iw (σ pg) eO): iw (iu c σ pg) now∧∀n,n≠pg→iu c σ n=σ n:=by
 obtain⟨l,U,rfl⟩:=I
 have hd:∀j,12≤j→(σ pg)[j]?=eO[j]?:=fun j hj=>by
  have:=kO (fun l:List Nat=>l[j-12]?) hs.2.2
  grind
 obtain⟨k1,k2,k3⟩:=Xf U J hs.1 (aP _) (fun j h1 h2=>by omega) hd
 by_cases hz:l=[]
 ·simp_all[iu,jM,dJ,KO]
 ·grind[KO]
def imgOf (δ:Dk)(n:Int): List Nat:=match δ.ai[n.toNat]? with
 |some (some b)=>b
 |_=>List.replicate 512 0
def qB (δ:Dk)(n:Int)(w:List Nat): Prop:=w=imgOf δ n∨∃wr∈δ.waiting,((wr.1:Nat):Int)=n∧w=wr.2
def vV (δ:Dk)(n:Int): Prop:=0≤n∧n<(δ.ai.length:Int)
def ry (r:bt)(n:Int): Prop:=∃c∈r.aR,c.aO=n
structure RI (ba:Nat)(nf:Int→Prop)(B0:Int→List Nat)(rs:List bt)(g:Int→Option Nat)(C:Int→List Nat→Prop)(d:List (Int×(Nat×Bool)))(x:LD): Prop where
 base:x.1.base=ba
 b:x.1.b=logB ba rs
 log:x.2.log=logB ba rs
 alive:x.2.dead=false
 aA:x.2.aA<0
 forced:∃u v,rs=u++v∧x.1.forced=szB u
 cert:x.1.forced≤x.2.aH
 kG:∀n w t t',vV x.2 n→rs=t++t'→x.1.forced≤szB t→(∀rec,g n=some rec→ba+szB t≤rec)→qB x.2 n w→iw (dg t B0 n) w
 aN:∀n rec,g n=some rec→∃t r t',rs=t++r::t'∧rec=ba+szB t∧yO r.aR n
 clean:∀n,g n=none→∀wr∈x.2.waiting,((wr.1:Nat):Int)≠n
 AY:∀n b,C n b→∃rec t r t',lookL n d=some (rec,true)∧rs=t++r::t'∧dU b 4 8=ba+szB t∧rec≤ba+szB t∧(¬nf n→∀t1 r1 t2,rs=t1++r1::t2→ry r1 n→szB t1≤szB t)
 flag:∀n rec,lookL n d=some (rec,false)→rec<ba+x.1.forced∧(¬nf n→∀t r t',rs=t++r::t'→ry r n→szB t<x.1.forced)
 ft:∀n rec,lookL n d=some (rec,true)→∃b,C n b
 now:∀n b,lookL n x.2.now=some b→∃wr∈x.2.waiting,((wr.1:Nat):Int)=n∧wr.2=b
 tZ:∀n rec fl,lookL n d=some (rec,fl)→g n=some rec
 C2:∀n rec,g n=some rec→nf n∨∃fl,lookL n d=some (rec,fl)
 ck:∀n w,0≤n→qB x.2 n w→dM w=0
 O1:∀n,nf n→lookL n d=none→∃t r,rs=t++[r]∧g n=some (ba+szB t)
theorem Rt (I:δ.dead=false)(J:δ.aA<0)(U:0≤n)(h1:n<δ.ai.length)(hb:b.length=512): δ.a_ n b=(0,{ δ with waiting:=δ.waiting++[(n.toNat,b)],now:=cY n b δ.now,aA:=δ.aA }):=by
 grind[Dk.a_,Dk.wr,gr]
theorem nG {v:List bt}: szB u≤szB (u++v):=by rw[eX];omega
theorem m6 (r:bt): 8≤r.len:=by simp only[bt.len];omega
theorem vW {t t':List bt}: szB t<szB (t++r::t'):=by
 grind[m6,eX,szB]
section
variable {rs:List bt} {C:Int→List Nat→Prop}
theorem RI.len (h:RI ba nf B0 rs g C d x): x.1.b.length=szB rs:=by rw[h.b,eZ]
theorem RI.le (h:RI ba nf B0 rs g C d x): x.1.forced≤szB rs:=by
 obtain⟨u,v,hu,I⟩:=h.forced
 rw[I,hu];exact nG
theorem RI.all (h:RI ba nf B0 rs g C d x): RI ba nf B0 rs g C d ({ x.1 with forced:=x.1.b.length },{ x.2 with aH:=x.2.log.length }):=by
 have J:=h.len
 have hle:x.1.forced≤x.1.b.length:=by rw[J];exact h.le
 refine⟨h.base,h.b,h.log,h.alive,h.aA,⟨rs,[],by simp,J⟩,by rw[h.b,h.log];exact aP _,
  fun n w t t' h0 ht I hr hc=>h.kG n w t t' h0 ht (b_ hle I) hr hc,h.aN,h.clean,h.AY,fun n rec U=>⟨g9 (h.flag n rec U).1 (vb hle _),fun hp t r t' e q=>g9 ((h.flag n rec U).2 hp t r t' e q) hle⟩,h.ft,h.now,h.tZ,h.C2,h.ck,h.O1⟩
theorem RI.force (h:RI ba nf B0 rs g C d x)(n:Nat)(U:n<ba+szB rs): ∃I,aK x n=(0,I)∧RI ba nf B0 rs g C d I∧n<ba+I.1.forced∧I.2.waiting=x.2.waiting∧I.2.ai=x.2.ai∧I.2.now=x.2.now:=by
 unfold aK
 by_cases J:n<x.1.base+x.1.forced
 ·rw[aE J];exact⟨x,rfl,h,by rw[←h.base];exact J,rfl,rfl,rfl⟩
 ·have e:x.2.bQ=(0,{ x.2 with aH:=x.2.log.length }):=by
   rw[Dk.bQ,ah (by rw[h.alive];decide),ah (by have:=h.aA;omega),gr h.aA]
  rw[ah J,e,ah (by simp)]
  exact⟨_,rfl,h.all,by rw[h.len];exact U,rfl,rfl,rfl⟩
theorem RI.j6 (N:Nat): iL N (RI ba nf B0 rs g):=by
 refine⟨fun ε i f he hf h0 hc h => ?_⟩
 obtain⟨rec,t0,r0,t0',g1,g2,g3,g4,g5⟩:=h.AY f.aO f.b ⟨i,f,hf,rfl,h0,hc,rfl⟩
 have xA:=(he.back i f hf).resolve_left (by omega)
 have hg:=xA.lD hc
 obtain⟨x',kV,h',b8,w1,w2,w3⟩:=h.force (dU f.b 4 8) (by grind[vW])
 have I:=Rt (δ:=x'.2) (n:=f.aO) (b:=f.b) h'.alive h'.aA h0 (by rw[w2,he.dk.ai];exact xA.lt) (fb hg)
 have e:outF ε i=(0,({ ε.1 with aj:=ε.1.aj.set i { f with changed:=false },aN:=cY f.aO (l_ ε.1 f.aO,false) ε.1.aN },(x'.1,{ x'.2 with waiting:=x'.2.waiting++[(f.aO.toNat,f.b)],now:=cY f.aO f.b x'.2.now,aA:=x'.2.aA }))):=by
  grind[outF]
 have hdr:l_ ε.1 f.aO=rec:=by simp only[l_,g1]
 have hC:∀n b,iI { ε.1 with aj:=ε.1.aj.set i { f with changed:=false },aN:=cY f.aO (l_ ε.1 f.aO,false) ε.1.aN } n b→iI ε.1 n b∧n≠f.aO:=by
  rintro n b ⟨j,y,hy,k1,k0,k2,k3⟩
  rcases pX hf hy with⟨rfl,rfl⟩|⟨sy,hy⟩
  ·cases k2
  ·refine⟨⟨j,y,hy,k1,k0,k2,k3⟩,fun J=>sy ?_⟩
   have h1:=((he.back j y hy).resolve_left (by omega)).here
   rw[k1,J,xA.here] at h1
   have:=cA h1
   omega
 have hC2:∀n b,iI ε.1 n b→n≠f.aO→iI { ε.1 with aj:=ε.1.aj.set i { f with changed:=false },aN:=cY f.aO (l_ ε.1 f.aO,false) ε.1.aN } n b:=by
  rintro n b ⟨j,y,hy,k1,k0,k2,k3⟩ J
  refine⟨j,y,?_,k1,k0,k2,k3⟩<;>grind
 have hd:∀m,lookL m (cY f.aO (rec,false) ε.1.aN)=if f.aO=m then some (rec,false) else lookL m ε.1.aN:=fun m=>gH _
 show RI ba nf B0 rs g (iI (outF ε i).2.1) (outF ε i).2.1.aN (outF ε i).2.2
 rw[e]
 simp only[hdr] at hC hC2 ⊢
 have Se:g f.aO=some rec:=h.tZ _ _ _ g1
 refine⟨h'.base,h'.b,h'.log,h'.alive,h'.aA,h'.forced,h'.cert,fun n w t t' Es ht xD hr ya => ?_,h'.aN,fun n J wr I => ?_,fun n b hb => ?_,fun n U J => ?_,fun n U J => ?_,fun n b hb => ?_,fun n U fl J => ?_,fun n U J => ?_,fun n w Es ya => ?_,fun n hp J => ?_⟩
 ·by_cases J:f.aO=n
  ·grind
  ·have aa1:qB x'.2 n w:=by
    rcases ya with hq|⟨wr,I,q1,q2⟩
    ·exact .inl hq
    ·rcases List.mem_append.1 I with I|I
     ·exact .inr ⟨wr,I,q1,q2⟩
     grind
   exact h'.kG n w t t' Es ht xD hr aa1
 ·rcases List.mem_append.1 I with I|I
  ·exact h'.clean n J wr I
  grind
 ·obtain⟨k1,k2⟩:=hC n b hb
  obtain⟨r',t,r,t',m1,m2⟩:=h.AY n b k1
  exact⟨r',t,r,t',by grind,m2⟩
 ·rw[hd] at J
  by_cases hq:f.aO=n
  ·grind
  ·rw[ah hq] at J
   exact h'.flag n U J
 ·rw[hd] at J
  by_cases hq:f.aO=n
  ·grind
  ·rw[ah hq] at J
   obtain⟨b,hb⟩:=h.ft n U J<;>grind
 ·rw[gH] at hb
  by_cases hq:f.aO=n
  ·rw[aE hq] at hb
   injection hb with hb
   exact⟨(f.aO.toNat,f.b),List.mem_append.2 (.inr cn),by omega,hb⟩
  ·rw[ah hq] at hb
   obtain⟨wr,k1,k2⟩:=h'.now n b hb<;>grind
 ·rw[hd] at J
  by_cases hq:f.aO=n
  ·grind
  ·rw[ah hq] at J
   exact h.tZ n U fl J
 ·rcases h.C2 n U J with q|⟨fl,q⟩<;>grind
 ·rcases ya with hq|⟨wr,I,q1,q2⟩
  ·exact h'.ck n w Es (.inl hq)
  ·rcases List.mem_append.1 I with I|I
   ·exact h'.ck n w Es (.inr ⟨wr,I,q1,q2⟩)
   ·rw[q2,List.mem_singleton.1 I];exact xA.aq
 ·rw[hd] at J
  by_cases hq:f.aO=n
  ·grind
  ·rw[ah hq] at J
   exact h.O1 n hp J
theorem RI.app (h:RI ba (fun _=>False) B0 rs g C d x)(hw:∀n,g n=none→ry r n→yO r.aR n)(m1:μ.base=x.1.base)(m2:μ.b=logB ba (rs++[r]))(m3:μ.forced=x.1.forced)
 (e1:δ.log=logB ba (rs++[r]))(e2:δ.dead=x.2.dead)(e3:δ.aA=x.2.aA)(e4:δ.aH=x.2.aH)(e5:δ.waiting=x.2.waiting)(e6:δ.ai=x.2.ai)(e7:δ.now=x.2.now){p:Int→Prop}[DecidablePred p](hp:∀n,p n↔ry r n):
  RI ba p B0 (rs++[r]) (fun n=>match g n with|some rec=>some rec|none=>if p n then some (ba+szB rs) else none) C d (μ,δ):=by
 have I:∀n w,qB δ n w→qB x.2 n w:=fun n w hc=>by
  grind[qB,imgOf]
 have U:∀ {n rec},g n=some rec→(match g n with|some rec=>some rec|none=>if p n then some (ba+szB rs) else none)=some rec:=fun J=>by rw[J]
 have YD:∀ {n},(match g n with|some rec=>some rec|none=>if p n then some (ba+szB rs) else none)=none→g n=none∧¬p n:=fun {n} J=>by
  grind
 have SY:∀ {n rec},(match g n with|some rec=>some rec|none=>if p n then some (ba+szB rs) else none)=some rec→g n=some rec∨(g n=none∧p n∧rec=ba+szB rs):=fun {n rec} J=>by
  grind
 have Mw:∀ {n t r1 t'},rs++[r]=t++r1::t'→ry r1 n→¬p n→∃O2,rs=t++r1::O2:=fun {n t r1 t'} ht hc J=>by
  rcases nK t' with rfl|⟨O2,z,rfl⟩<;>grind[List.append_inj']
 refine⟨m1.trans h.base,m2,e1,e2.trans h.alive,by rw[e3];exact h.aA,?_,by rw[m3,e4];exact h.cert,fun n w t t' h0 ht xD hr hc => ?_,fun n rec J => ?_,fun n J => ?_,fun n b hb => ?_,fun n rec J => ?_,h.ft,fun n b hb => ?_,fun n rec fl J => ?_,fun n rec J => ?_,fun n w h0 hc=>h.ck n w h0 (I n w hc),fun n Ic J=>⟨rs,r,rfl,?_⟩⟩
 ·obtain⟨u,v,hu,hf⟩:=h.forced<;>grind
 ·have xD:x.1.forced≤szB t:=by grind
  rcases nK t' with rfl|⟨O2,z,rfl⟩
  ·-- all of it
   rw[cS] at ht
   subst ht
   have hg:g n=none∧¬p n:=by
    cases hq:g n with
    |some rec =>
     obtain⟨a,b,c,k1,k2,_⟩:=h.aN n rec hq<;>grind[vW]
    |none =>
     grind[vW]
   have hs:dg (rs++[r]) B0 n=dg rs B0 n:=by
    rw[kR]
    have:∀(l:List ct) (σ:Int→List Nat),(∀c∈l,c.aO≠n)→iu l σ n=σ n:=by
     intro l
     induction l with
     |nil=>intro σ _;rfl
     |cons c l ih =>
      intro σ hl
      show iu l (jM c σ) n=σ n
      grind[jM]
    exact this _ _ fun c hc q=>hg.2 ((hp n).2 ⟨c,hc,q⟩)
   rw[hs]
   exact h.kG n w rs [] (by rw[vV,←e6];exact h0) (by simp) h.le (fun rec q=>by grind) (I n w hc)
  ·have Xh:rs++[r]=(t++O2)++[z]:=by grind
   have ht3:=(vj Xh rfl).1
   exact h.kG n w t O2 (by rw[vV,←e6];exact h0) ht3 xD (fun rec q=>hr rec (U q)) (I n w hc)
 ·rcases SY J with hq|⟨hq,Ic,rfl⟩
  ·obtain⟨a,b,c,k1,k2,k3⟩:=h.aN n rec hq<;>grind
  ·grind
 ·rw[e5]
  exact h.clean n (YD J).1
 ·obtain⟨rec,t,r1,t',k1,k2,k3,k4,k5⟩:=h.AY n b hb
  refine⟨rec,t,r1,t'++[r],k1,by grind,k3,k4,fun Ic t1 r2 t2 e q => ?_⟩
  obtain⟨t3,e3⟩:=Mw e q Ic
  exact k5 (fun q=>q) t1 r2 t3 e3 q
 ·obtain⟨k1,k2⟩:=h.flag n rec J<;>grind
 ·obtain⟨wr,k1,k2⟩:=h.now n b (by grind)
  exact⟨wr,by grind,k2⟩
 ·exact U (h.tZ n rec fl J)
 ·rcases SY J with hq|⟨hq,Ic,rfl⟩
  ·rcases h.C2 n rec hq with q|q
   ·grind
   ·grind
  ·grind
 ·cases hq:g n with
  |none=>grind
  |some rec =>
   rcases h.C2 n rec hq with q|⟨fl,q⟩
   ·grind
   ·grind
end
theorem Ru {n:Nat}(I:b.length=512)(J:n<18446744073709551616): dU (cP b n) 4 8=n:=by
 have U:=(pW (n:=n) I).2.2.1
 have e1:dU (cP b n) 4 8=leN (((cP b n).drop 4).take 8):=by rfl
 grind[ov,le,dJ,dX,qv]
theorem lookL_filter : ∀ {d:List (Int×(Nat×Bool))},(d.map (·.1)).Nodup→lookL n (d.filter fun e=>e.2.2)=match lookL n d with|some (rec,true)=>some (rec,true)|_=>none:=by
 intro d
 induction d<;>grind[lookL,ff]
section
variable {rs:List bt}
theorem kH {p:Int→Prop}: vw (RI ba p B0 rs g) ε↔RI ba p B0 rs g (iI ε.1) ε.1.aN ε.2:=Iff.rfl
theorem RI.put (h:vw (RI ba nf B0 rs g) ε)(he:EC N ε)(hl:lookL n ε.1.aC=some (i:Int))(hf:ε.1.aj[i]?=some f)(hb:b.length=512)(h0:0≤n)(hp:nf n)
 (U:∃t r,rs=t++[r]∧aM=ba+szB t)(b8:aM<18446744073709551616): vw (RI ba (fun m=>nf m∧m≠n) B0 rs g) (uX ε.1 n i f b aM,ε.2):=by
 have hi:=(List.getElem?_eq_some_iff.1 hf).1
 obtain⟨t0,r0,e0,e1⟩:=U
 have ni:f.aO=n:=by
  obtain⟨_,j,x,sy,hx,HX⟩:=he.jL n i hl<;>grind
 have J:∀m,lookL m (cY n (dirtOf ε.1 n aM,true) ε.1.aN)=if n=m then some (dirtOf ε.1 n aM,true) else lookL m ε.1.aN:=fun m=>gH _
 have hg:g n=some (dirtOf ε.1 n aM)∧dirtOf ε.1 n aM≤aM:=by
  cases I:lookL n ε.1.aN with
  |some x =>
   obtain⟨rec,fl⟩:=x
   have:=h.tZ n rec fl I
   have e:dirtOf ε.1 n aM=rec:=by simp only[dirtOf,I]
   rw[e]
   refine⟨this,?_⟩
   obtain⟨a,c,a',k1,k2,_⟩:=h.aN n rec this
   rw[k2,e1]
   have:szB a≤szB t0:=by
    rcases nK a' with rfl|⟨AH,z,rfl⟩<;>grind[List.append_inj',nG]
   omega
  |none =>
   have e:dirtOf ε.1 n aM=aM:=by simp only[dirtOf,I]
   obtain⟨t,r,k1,k2⟩:=h.O1 n hp I<;>grind[List.append_inj']
 have hC:∀m c,iI (uX ε.1 n i f b aM) m c→(m=n∧c=cP b aM)∨(m≠n∧iI ε.1 m c):=by
  rintro m c ⟨j,y,hy,k1,k0,k2,k3⟩
  rcases pX hf hy with⟨rfl,rfl⟩|⟨sy,hy⟩
  ·grind
  ·refine .inr ⟨fun ZX=>sy ?_,j,y,hy,k1,k0,k2,k3⟩
   have h1:=((he.back j y hy).resolve_left (by omega)).here
   grind
 have hC2:iI (uX ε.1 n i f b aM) n (cP b aM):=⟨i,{ f with b:=cP b aM,changed:=true,pins:=0 },by exact kM hi,ni,h0,rfl,rfl⟩
 have hC3:∀m c,m≠n→iI ε.1 m c→iI (uX ε.1 n i f b aM) m c:=by
  rintro m c hm ⟨j,y,hy,k1,k0,k2,k3⟩
  refine⟨j,y,?_,k1,k0,k2,k3⟩
  show(ε.1.aj.set i _)[j]?=some y
  grind
 have Ic:∀ {m},m≠n→¬(nf m∧m≠n)→¬nf m:=fun hm I j8=>I ⟨j8,hm⟩
 refine⟨h.base,h.b,h.log,h.alive,h.aA,h.forced,h.cert,h.kG,h.aN,h.clean,fun m c hc => ?_,fun m rec hm => ?_,fun m rec hm => ?_,h.now,fun m rec fl hm => ?_,fun m rec hm => ?_,h.ck,fun m hm I => ?_⟩
 ·rcases hC m c hc with⟨rfl,rfl⟩|⟨hm,hc⟩
  ·refine⟨dirtOf ε.1 m aM,t0,r0,[],?_,e0,?_,?_,fun _ t1 r1 t2 q _ => ?_⟩
   ·show lookL m (cY m _ _)=_;rw[J,aE rfl]
   ·rw[Ru hb b8,e1]
   ·omega
   ·rcases nK t2 with rfl|⟨t3,z,rfl⟩<;>grind[List.append_inj',nG]
  ·obtain⟨rec,t,r,t',k1,k2,k3,k4,k5⟩:=h.AY m c hc
   exact⟨rec,t,r,t',by show lookL m (cY n _ _)=_;rw[J,ah (fun q=>hm q.symm)];exact k1,k2,k3,k4,fun q=>k5 (Ic hm q)⟩
 ·have hm:lookL m (cY n (dirtOf ε.1 n aM,true) ε.1.aN)=some (rec,false):=hm
  rw[J] at hm
  by_cases I:n=m
  ·grind
  ·rw[ah I] at hm
   obtain⟨k1,k2⟩:=h.flag m rec hm
   exact⟨k1,fun q=>k2 (Ic (fun q=>I q.symm) q)⟩
 ·have hm:lookL m (cY n (dirtOf ε.1 n aM,true) ε.1.aN)=some (rec,true):=hm
  rw[J] at hm
  by_cases I:n=m
  ·grind
  ·rw[ah I] at hm
   obtain⟨c,hc⟩:=h.ft m rec hm
   exact⟨c,hC3 m c (fun q=>I q.symm) hc⟩
 ·have hm:lookL m (cY n (dirtOf ε.1 n aM,true) ε.1.aN)=some (rec,fl):=hm
  rw[J] at hm
  by_cases I:n=m
  ·grind
  ·rw[ah I] at hm
   exact h.tZ m rec fl hm
 ·by_cases I:n=m
  ·subst I
   rw[hg.1] at hm
   exact .inr ⟨true,by show lookL n (cY n _ _)=_;rw[J,aE rfl,cA hm]⟩
  ·rcases h.C2 m rec hm with q|⟨fl,q⟩
   ·grind
   ·exact .inr ⟨fl,by show lookL m (cY n _ _)=_;rw[J,ah I];exact q⟩
 ·have I:lookL m (cY n (dirtOf ε.1 n aM,true) ε.1.aN)=none:=I
  rw[J,ah (fun q=>hm.2 q.symm)] at I
  exact h.O1 m hm.1 I
theorem PtR.ri {l:List Int}(J:PtR now aM l ε e ε'): ∀ {p:Int→Prop},EC N ε→fL ε→NW N now→(∀n∈l,0≤n∧n<N)→l.Nodup→(∀n∈l,p n)→(∃t r,rs=t++[r]∧aM=ba+szB t)→aM<18446744073709551616 →
  vw (RI ba p B0 rs g) ε→vw (RI ba (fun m=>p m∧m∉l) B0 rs g) ε':=by
 induction J with
 |nil ε =>
  simp
 |ja n l ε e b ε' J he =>
  intro p h h3 hn hl
  have:=hl n cn
  exact absurd ((J.ec h).2.2.1 this.1 this.2).1 he
 |bad n l ε b0 b ε' J hb he =>
  intro p h h3 hn hl
  exact absurd ((J.put (b:=b) (aM:=aM) h3).2.2 (hn.look hb).1) he
 |put n l ε b0 b ε' e od J hb he ht ih =>
  intro p h h3 hn hl mL hp I b8 hv
  have U:=hl n cn
  obtain⟨k1,k2,k3,k4⟩:=J.ec h
  obtain⟨i,f,p1,p2,p3,p4,p5⟩:=J.at h3.pins
  have hg:=hn.look hb
  have e1:=sQ (aM:=aM) p1 p2 p3 hg.1
  obtain⟨q1,q2⟩:=k1.put (aM:=aM) p1 p2 hg.1 hg.2 U.1 U.2
  have HY:=(J.put (b:=b) (aM:=aM) h3).1
  have uv:vw (RI ba p B0 rs g) ε':=(RI.j6 N).ja J h hv
  have kB:=RI.put uv k1 p1 p2 (fb hg.1) U.1 (hp n cn) I b8
  rw[e1] at ih HY
  obtain⟨d1,d2⟩:=List.nodup_cons.1 mL
  have:=ih q1 HY hn (fun m hm=>hl m (b9 _ hm)) d2 (p:=fun m=>p m∧m≠n) (fun m hm=>⟨hp m (b9 _ hm),fun q=>d1 (by grind)⟩) I b8 kB
  have e:(fun m=>(p m∧m≠n)∧m∉l)=(fun m=>p m∧m∉n::l):=funext fun m=>propext ⟨fun q=>⟨q.1.1,by grind⟩,fun q=>by
   grind⟩
  rw[←e];exact this
end
theorem O3 : ∀ {l:List ct} {σ:Int→List Nat},(∀c∈l,c.aO≠n)→iu l σ n=σ n:=by
 intro l
 induction l with
 |nil=>intro σ _;rfl
 |cons c l I =>
  intro σ J
  show iu l (jM c σ) n=σ n
  grind[jM]
theorem Ie : ∀ {l:List bt} {σ:Int→List Nat},(∀r∈l,¬ry r n)→dg l σ n=σ n:=by
 intro l
 induction l with
 |nil=>intro σ _;rfl
 |cons r l J =>
  intro σ I
  show dg l (iu r.aR σ) n=σ n
  rw[J fun r U=>I r (b9 _ U),O3 fun c hc q=>I r cn ⟨c,hc,q⟩]
def syG (d:List (Int×(Nat×Bool)))(n:Int): Option Nat:=match lookL n d with
 |some (rec,true)=>some rec
 |_=>none
section
variable {rs:List bt}
theorem RI.img (h:vw (RI ba (fun _=>False) B0 rs g) ε)(he:EC N ε)(I:0≤n): ((∃b,lookL n ε.2.2.now=some b∧imgOf ε.2.2.sync n=b)∨(lookL n ε.2.2.now=none∧imgOf ε.2.2.sync n=imgOf ε.2.2 n))∧imgOf ε.2.2.sync n=ε.2.2.at n:=by
 have e:imgOf ε.2.2.sync n=ε.2.2.at n:=by
  rw[imgOf,Dk.at,show ε.2.2.sync.ai=laidP ε.2.2.now ε.2.2.ai from rfl,laidP_get he.dk.ai he.dk.nodup he.dk.keys I]
  grind
 refine⟨?_,e⟩
 cases J:lookL n ε.2.2.now with
 |some b=>grind[Dk.at]
 |none=>exact .inr ⟨rfl,by rw[e,Dk.at,J];rfl⟩
theorem RI.sync (h:vw (RI ba (fun _=>False) B0 rs g) ε)(he:EC N ε)(fM:∀n,0≤n→n<(N:Int)→iw (dg rs B0 n) (pgA ε n)):
  bx ε.1 ε.2.2=(0,{ ε.1 with aN:=ε.1.aN.filter fun e=>e.2.2 },ε.2.2.sync)∧vw (RI ba (fun _=>False) B0 rs (syG ε.1.aN)) ({ ε.1 with aN:=ε.1.aN.filter fun e=>e.2.2 },(ε.2.1,ε.2.2.sync)):=by
 have es:ε.2.2.cM=(0,ε.2.2.sync):=by rw[Dk.cM,ah (by rw[he.dk.alive];decide),ah (by have:=he.dk.aA;omega),gr he.dk.aA]
 have hd:∀n,lookL n (ε.1.aN.filter fun e=>e.2.2)=match lookL n ε.1.aN with|some (rec,true)=>some (rec,true)|_=>none:=fun n=>lookL_filter he.yM
 have lE:∀ {n rec fl},lookL n (ε.1.aN.filter fun e=>e.2.2)=some (rec,fl)→fl=true∧lookL n ε.1.aN=some (rec,true):=fun {n rec fl} hq=>by
  grind
 have SZ:∀ {n rec},syG ε.1.aN n=some rec→lookL n ε.1.aN=some (rec,true):=fun {n rec} hq=>by
  grind[syG]
 refine⟨by grind[bx],?_⟩
 refine⟨h.base,h.b,h.log,h.alive,h.aA,h.forced,h.cert,fun n w t t' I ht xD hr hc => ?_,fun n rec hn=>h.aN n rec (h.tZ n rec _ (SZ hn)),fun n _ wr J=>(by cases J),fun n b hb => ?_,fun n rec hn => ?_,fun n rec hn => ?_,fun n b hb=>(by cases hb),fun n rec fl hn => ?_,fun n rec hn=>.inr ⟨true,?_⟩,fun n w I hc => ?_,fun n q=>q.elim⟩
 ·have qt:vV ε.2.2 n:=⟨I.1,by have:=I.2;rw[show ε.2.2.sync.ai=laidP ε.2.2.now ε.2.2.ai from rfl,mB] at this;exact this⟩
  have I:=I.1
  obtain⟨k1,k2⟩:=RI.img h he I
  have hw:w=imgOf ε.2.2.sync n:=by
   rcases hc with hc|⟨wr,J,_⟩
   ·exact hc
   ·cases J
  have hold:(∀rec,g n=some rec→ba+szB t≤rec)→iw (dg t B0 n) w:=fun U=>by
   refine h.kG n w t t' qt ht xD U ?_
   rcases k1 with⟨b,q1,q2⟩|⟨q1,q2⟩
   ·obtain⟨wr,m1,m2,m3⟩:=h.now n b q1
    exact .inr ⟨wr,m1,m2,by grind⟩
   ·exact .inl (by grind)
  cases hq:lookL n ε.1.aN with
  |none =>
   refine hold fun rec U => ?_
   rcases h.C2 n rec U with q|⟨fl,q⟩
   ·grind
   ·grind
  |some x =>
   obtain⟨rec,fl⟩:=x
   cases fl with
   |true =>
    have:g n=some rec:=h.tZ n rec _ hq
    grind[syG]
   |false =>
    have hN:=he.ru n (fh hq |> lP (f:=(·.1)))
    have ni:pgA ε n=ε.2.2.at n:=by
     rcases he.cases n with⟨j,f,q1,q2,q3,q4,q5,q6⟩|⟨q1,q2⟩
     ·rw[q6]
      cases hcg:f.changed with
      |false=>rw[q5.same hcg,q3]
      |true =>
       obtain⟨acr,_,_,_,m,_⟩:=h.AY n f.b ⟨j,f,q2,q3,I,hcg,rfl⟩
       rw[hq] at m
       cases m
     ·exact q2
    have hS:dg rs B0 n=dg t B0 n:=by
     rw[ht,kR]
     refine Ie fun r hr kg => ?_
     obtain⟨a,b,rfl⟩:=List.append_of_mem hr
     have:=(h.flag n rec hq).2 (fun q=>q) (t++a) r b (by grind) kg
     grind[nG]
    rw[←hS,hw,k2,←ni]
    exact fM n I hN.2
 ·obtain⟨rec,t,r,t',m1,m2⟩:=h.AY n b hb<;>grind
 ·grind
 ·exact h.ft n rec (lE hn).2
 ·grind[syG]
 ·grind
 ·rcases hc with hc|⟨wr,J,_⟩
  ·rcases (RI.img h he I).1 with⟨b,q1,q2⟩|⟨q1,q2⟩
   ·obtain⟨wr,m1,m2,m3⟩:=h.now n b q1
    exact h.ck n w I (.inr ⟨wr,m1,m2,by grind⟩)
   ·exact h.ck n w I (.inl (hc.trans q2))
  ·cases J
theorem UK (h:EC N ε)(U:ε.1.aj[i]?=some f)(h0:0≤f.aO)(hc:iI (outF ε i).2.1 n b): iI ε.1 n b∧n≠f.aO:=by
 obtain⟨o1,o2,o3,o4,gg,o5,o6,o7⟩:=h.out U
 have I:=(h.back i f U).resolve_left (by omega)
 obtain⟨j,y,hy,k1,k0,k2,k3⟩:=hc
 have p_:n≠f.aO:=by
  intro q
  have J:=(o2.back j y hy).resolve_left (by omega)
  have h1:=J.here
  rw[k1,q,o4,I.here] at h1
  grind
 grind[outF,iI]
theorem u5 {P:VP}(U:iL N P): ∀ {l:List Int} {ε:bA},EC N ε→(∀n∈l,(lookL n ε.1.aC).isSome=true)→vw P ε→vw P (writeAllF l ε).2∧∀n b,iI (writeAllF l ε).2.1 n b→iI ε.1 n b∧n∉l:=by
 intro l
 induction l with
 |nil=>intro ε h _ I;exact⟨I,fun n b q=>⟨q,by simp⟩⟩
 |cons n l ih =>
  intro ε h hl I
  cases hq:lookL n ε.1.aC with
  |none=>grind
  |some i =>
   obtain⟨Es,j,f,rfl,J,hp⟩:=h.jL n i hq
   obtain⟨k1,k2,k3,k4,_⟩:=h.out J
   have e:dP ε n=outF ε j:=by grind[dP]
   rw[writeAllF,e,ah (by omega)]
   obtain⟨i1,i2⟩:=ih k2 (fun m hm=>by grind) (U.out h J I)
   refine⟨i1,fun m b hm => ?_⟩
   obtain⟨q1,q2⟩:=i2 m b hm
   obtain⟨q3,q4⟩:=UK h J (by omega) q1
   exact⟨q3,by grind⟩
theorem r_ (ε:bA): ∀n∈az ε.1.aC,(lookL n ε.1.aC).isSome=true:=fun n I=>by
 cases J:lookL n ε.1.aC<;>grind[fG,ff]
theorem RI.UL (h:vw (RI ba (fun _=>False) B0 rs g) ε)(he:EC N ε)(fM:∀n,0≤n→n<(N:Int)→iw (dg rs B0 n) (pgA ε n)): vw (RI ba (fun _=>False) B0 rs (fun _=>none)) (cU ε).2:=by
 have J:=r_ ε
 obtain⟨w1,w2,w3⟩:=me he J
 obtain⟨a1,a2⟩:=u5 (RI.j6 N) he J h
 obtain⟨s1,s2⟩:=RI.sync a1 w2 (fun n h0 h1=>by grind)
 have e:(cU ε).2=({ (writeAllF (az ε.1.aC) ε).2.1 with aN:=(writeAllF (az ε.1.aC) ε).2.1.aN.filter fun e=>e.2.2 },((writeAllF (az ε.1.aC) ε).2.2.1,(writeAllF (az ε.1.aC) ε).2.2.2.sync)):=by
  rw[cU,ah (by rw[he.dk.alive];decide),ah (by omega),s1]
 have BK:∀n b,¬iI (writeAllF (az ε.1.aC) ε).2.1 n b:=fun n b hc=>by
  obtain⟨q1,U⟩:=a2 n b hc
  obtain⟨j,f,hf,k1,k0,k2,k3⟩:=q1
  have I:=(he.back j f hf).resolve_left (by omega)
  rw[←k1] at U
  refine U (fG.2 ?_)
  have:=I.here
  exact fh this |> lP (f:=(·.1))
 have hg:syG (writeAllF (az ε.1.aC) ε).2.1.aN=fun _=>none:=by
  grind[syG,ft]
 rw[hg] at s2
 rw[e];exact s2
end
theorem Rv {pg:Int}{now:List Nat}{l:List ct}(I:uz pg eO now i l): ∀c∈l,c.aO=pg:=by
 induction I<;>grind
theorem Rw {pg:Int}{now:List Nat}{c:List ct}(I:HB pg eO now c): (∀x∈c,x.aO=pg)∧c≠[]:=by
 obtain⟨l,J,rfl⟩:=I<;>grind[Rv]
theorem Xi {pg:Int}{now:List Nat}{l:List ct}(I:uz pg eO now i l)(J:∀x∈now,x<256): ∀c∈l,∀x∈c.b,x<256:=by
 induction I<;>grind
theorem Xj {pg:Int}{now:List Nat}{c:List ct}(I:HB pg eO now c)(J:∀x∈now,x<256): ∀x∈c,∀y∈x.b,y<256:=by
 obtain⟨l,U,rfl⟩:=I
 by_cases hz:l=[]
 ·grind
 ·rw[ah hz]
  exact Xi U J
theorem ChR.lt {l:List Int}{cs:List ct}(U:ChR now l ε e cs ε')(hn:NW N now): ∀c∈cs,∀x∈c.b,x<256:=by
 induction U with
 |nil ε=>simp
 |err n l ε e b ε' U he=>simp
 |part n l ε eO b ε' c e cs J U hb lE hc ob ht ih =>
  intro x I
  rcases List.mem_append.1 I with I|I
  ·exact Xj hc (hn.look hb).2 x I
  ·grind
 |whole n l ε eO b ε' e cs J U hb lE ht ih =>
  intro x I
  rcases List.mem_cons.1 I with rfl|I
  ·exact(hn.look hb).2
  ·grind
structure oh (rs:List bt)(B0:Int→List Nat): Prop where
 S0:∀n,∀x∈B0 n,x<256
 lt:∀r∈rs,∀c∈r.aR,∀x∈c.b,x<256
 gd:∀t t' n,rs=t++t'→(∃r∈t,ry r n)→bR (dg t B0 n)=true
theorem UM : ∀ {cs:List ct} {σ:Int→List Nat},(∀c∈cs,∀x∈c.b,x<256)→(∀n,∀x∈σ n,x<256)→∀n,∀x∈iu cs σ n,x<256:=by
 intro cs
 induction cs with
 |nil=>intro σ _ h;exact h
 |cons c cs J =>
  intro σ I h
  refine J (σ:=jM c σ) (fun x U=>I x (b9 _ U)) fun n => ?_
  rw[jM]
  split
  ·split
   ·grind
   ·exact yg (h n) (I c cn)
  ·grind
theorem O4 : ∀ {rs:List bt} {σ:Int→List Nat},(∀r∈rs,∀c∈r.aR,∀x∈c.b,x<256)→(∀n,∀x∈σ n,x<256)→∀n,∀x∈dg rs σ n,x<256:=by
 intro rs
 induction rs with
 |nil=>intro σ _ h;exact h
 |cons r rs J=>intro σ I h;exact J (σ:=iu r.aR σ) (fun x U=>I x (b9 _ U)) (UM (I r cn) h)
theorem oh.app {rs:List bt}(h:oh rs B0)(h1:∀c∈r.aR,∀x∈c.b,x<256)(h2:∀n,ry r n→bR (dg (rs++[r]) B0 n)=true): oh (rs++[r]) B0:=by
 refine⟨h.S0,fun x I => ?_,fun t t' n ht hc => ?_⟩
 ·rcases List.mem_append.1 I with I|I
  ·exact h.lt x I
  grind
 ·rcases nK t' with rfl|⟨J,z,rfl⟩
  ·rw[cS] at ht
   subst ht
   by_cases hq:ry r n
   ·grind
   ·obtain⟨x,I,U⟩:=hc
    rcases List.mem_append.1 I with I|I
    ·rw[kR]
     have:dg [r] (dg rs B0) n=dg rs B0 n:=Ie fun y hy=>by grind
     rw[this]
     exact h.gd rs [] n (by simp) ⟨x,I,U⟩
    grind
  ·have Xh:rs++[r]=(t++J)++[z]:=by grind
   exact h.gd t J n (vj Xh rfl).1 hc
def AZ (N:Nat)(rs:List bt)(B0:Int→List Nat)(ε:bA): Prop:=∀n,0≤n→n<(N:Int)→iw (dg rs B0 n) (pgA ε n)
abbrev jR : Int→Prop:=fun _=>False
section
variable {rs:List bt}
theorem ChR.st {l:List Int}{cs:List ct}(J:ChR now l ε e cs ε'): ∀ {σ:Int→List Nat},EC N ε→fL ε→NW N now→l.Nodup→(∀n∈l,0≤n∧n<N)→vw (RI ba jR B0 rs g) ε→(∀n∈l,iw (σ n) (pgA ε n)) →
  (∀n∈l,∀b,lookL n now=some b→iw (iu cs σ n) b)∧(∀n,n∉l→iu cs σ n=σ n)∧(∀n,(∃c∈cs,c.aO=n)↔n∈l)∧∀n∈l,g n=none→yO cs n:=by
 induction J with
 |nil ε=>intro σ _ _ _ _ _ _ _;exact⟨fun n I=>(by cases I),fun _ _=>rfl,fun n=>⟨fun⟨c,hc,_⟩=>(by cases hc),fun I=>(by cases I)⟩,fun n I=>(by cases I)⟩
 |err n l ε e b ε' J he =>
  intro σ h h3 I hd hl
  have:=hl n cn
  exact absurd ((J.ec h h3.pins).2.2.1 this.1 this.2).1 he
 |part n l ε eO b ε' c e cs od J hb lE hc ob ht ih =>
  intro σ h h3 I hd hl hv Py
  obtain⟨d1,d2⟩:=List.nodup_cons.1 hd
  have tH:=hl n cn
  obtain⟨k1,k2,k3,_⟩:=J.ec h h3.pins
  have U:vw (RI ba jR B0 rs g) ε':=(RI.j6 N).rd J h hv
  obtain⟨q1,q2⟩:=Xg hc (fb (I.look hb).1) (σ:=σ) (by grind)
  obtain⟨p1,p2⟩:=Rw hc
  obtain⟨i1,i2,i3,i4⟩:=ih (σ:=iu c σ) k1 (J.iR h3) I d2 (fun m hm=>hl m (b9 _ hm)) U (fun m hm=>by
   grind)
  refine⟨fun m hm b' oA => ?_,fun m hm => ?_,fun m => ?_,fun m hm hg => ?_⟩
  ·rw[Ib]
   grind
  ·simp_all[Ib]
  ·constructor
   ·grind
   ·intro hm
    rcases List.mem_cons.1 hm with rfl|hm
    ·obtain⟨x,hx⟩:=List.exists_mem_of_ne_nil _ p2<;>grind
    grind
  ·rcases List.mem_cons.1 hm with rfl|hm
   ·cases hq:lookL m ε'.1.aN with
    |none=>grind
    |some y =>
     obtain⟨rec,fl⟩:=y
     have:=(kH.1 U).tZ m rec fl hq
     rw[hg] at this
     cases this
   ·obtain⟨x,hx,e⟩:=i4 m hm hg
    exact⟨x,List.mem_append.2 (.inr hx),e⟩
 |whole n l ε eO b ε' e cs od J hb lE ht ih =>
  intro σ h h3 I hd hl hv Py
  obtain⟨d1,d2⟩:=List.nodup_cons.1 hd
  obtain⟨k1,k2,k3,_⟩:=J.ec h h3.pins
  have U:vw (RI ba jR B0 rs g) ε':=(RI.j6 N).rd J h hv
  have q2:∀m,m≠n→jM ⟨n,0,true,b⟩ σ m=σ m:=fun m hm=>by rw[jM,ah hm]
  have q1:jM ⟨n,0,true,b⟩ σ n=b:=by grind[jM]
  obtain⟨i1,i2,i3,i4⟩:=ih (σ:=jM ⟨n,0,true,b⟩ σ) k1 (J.iR h3) I d2 (fun m hm=>hl m (b9 _ hm)) U (fun m hm=>by
   grind)
  refine⟨fun m hm b' oA => ?_,fun m hm => ?_,fun m => ?_,fun m hm hg => ?_⟩
  ·show iw (iu cs (jM _ σ) m) b'
   rcases List.mem_cons.1 hm with rfl|hm
   ·rw[hb] at oA
    rw[←cA oA,i2 m d1,q1];exact iw.refl (fb (I.look hb).1)
   ·grind
  ·simp_all[iu]
  ·grind[List.mem_cons_self]
  ·rcases List.mem_cons.1 hm with rfl|hm
   ·exact⟨_,cn,rfl,rfl⟩
   ·obtain⟨x,hx,e⟩:=i4 m hm hg
    exact⟨x,b9 _ hx,e⟩
theorem DnR.ri {aq kd:Nat}(hr:DnR ε now kd tx 0 0 data 0 aM 0 true ε')(h:EI N B ε)(hB:B≤1000)(hn:NW N now)(hl:LR ba aq mk rs ε.2)(h1:1≤kd)(h2:kd≤7)(ht:tx<65536)
 (hv:vw (RI ba jR B0 rs g) ε)(fM:AZ N rs B0 ε)(kC:oh rs B0): ∃(r:bt) (g':Int→Option Nat),r.Ok∧r.kd=kd∧r.tx=tx∧r.pv=0∧r.nx=0∧r.data=data∧aM=ba+szB rs∧LR ba aq mk (rs++[r]) ε'.2∧vw (RI ba jR B0 (rs++[r]) g') ε'∧AZ N (rs++[r]) B0 ε'∧oh (rs++[r]) B0 ∧
   (∀n rec,g' n=some rec→g n=some rec∨rec=ba+szB rs)∧∃I,ChR now (az now) ε 0 r.aR I:=by
 have J:∀n∈az now,0≤n∧n<N:=fun n hq=>hn.keys n (fG.1 hq)
 have hN:=h.many
 have lX:∀ {c:List ct} {ε':bA} {e:Int},ChR now (az now) ε e c ε'→dY kd c=true:=fun U=>by
  refine Bq ⟨by omega,by omega⟩ (U.fit (fun x hx=>fb (hn.good x hx).1) fun n hq => ?_)<;>grind
 have mL:(az now).Nodup:=(en _).nodup_iff.2 hn.nodup
 have YE:=(h.done hB hn (by omega) (by omega) hr).resolve_left (by simp)
 generalize hz:(0:Int)=e at hr
 generalize ob:true=cl at hr
 cases hr with
 |arg hh=>omega
 |dead _ _ _ hd=>omega
 |lD e c ε' _ _ _ _ U he=>omega
 |app c I _ _ _ _ U he=>omega
 |put c I e YF _ _ _ _ U ha hp =>
  subst hz
  obtain⟨c1,c2,c3⟩:=U.ec h.ec h.ok J
  have hi:EI N B I:=⟨U.iR h.ok,c1,U.el h.el,b_ U.cg h.cg⟩
  have tQ:=(jI ba aq mk rs).ch U hl
  obtain⟨r,k1,k2,k3,k4,k5,k6,k7,k8,k9,Xk,_⟩:=tQ.app h1 (lX U) ht ha
  obtain⟨a1,a2,a3⟩:=hi.app (kd:=kd) (tx:=tx) (pv:=0) (nx:=0) (data:=data) (c:=c) hB (lX U)
  have a3:=a3.resolve_right (by omega)
  obtain⟨_,a4⟩:=a3
  have uv:vw (RI ba jR B0 rs g) I:=(RI.j6 N).ch U h.ec h.ok hv
  obtain⟨s1,s2,s3,s4⟩:=U.st (σ:=dg rs B0) h.ec h.ok hn mL J hv (fun n hm=>by have:=J n hm;exact fM n this.1 this.2)
  subst k7
  have Xl:(aI I.2 kd tx 0 0 data r.aR).1.1=ba+szB rs:=k8
  have gW:=hi.el.size
  have Gi:=tQ.b
  have uJ:=tQ.base
  have b8:ba+szB rs<18446744073709551616:=by
   grind
  have kg:∀n,n∈az now↔ry r n:=fun n=>(s3 n).symm
  have kB:=RI.app (kH.1 uv) (r:=r) (fun n hg hq=>s4 n ((kg n).2 hq) hg) (μ:=(aI I.2 kd tx 0 0 data r.aR).2.1) (δ:=(aI I.2 kd tx 0 0 data r.aR).2.2)
   (by rw[k9.base,uJ]) k9.b (by rw[a4];rfl) k9.log (by rw[a4]) (by rw[a4]) (by rw[a4]) (by rw[a4]) (by rw[a4]) (by rw[a4]) kg
  have OG:vw (RI ba (fun n=>n∈az now) B0 (rs++[r]) (fun n=>match g n with|some rec=>some rec|none=>if n∈az now then some (ba+szB rs) else none)) (I.1,(aI I.2 kd tx 0 0 data r.aR).2):=kB
  have hv4:=hp.ri a1.ec a1.ok hn J mL (fun n hm=>hm) ⟨rs,r,rfl,k8⟩ (by omega) OG
  have e0:(fun m:Int=>m∈az now∧m∉az now)=jR:=funext fun m=>propext ⟨fun q=>q.2 q.1,fun q=>q.elim⟩
  rw[e0] at hv4
  refine⟨r,_,k1,k2,k3,k4,k5,k6,by grind,(jI ba aq mk _).pt hp k9,hv4,fun n h0 CA => ?_,kC.app (U.lt hn) (fun n hq => ?_),fun n rec hq => ?_,I,U⟩
  ·rw[YE.2.2.2 n,kR]
   show iw (iu r.aR (dg rs B0) n) _
   cases hq:lookL n now with
   |some b =>
    have hm:n∈az now:=fG.2 ((fh hq) |> lP (f:=(·.1)))
    exact(s1 n hm b hq).trans (BA (fb (hn.look hq).1)).symm
   |none =>
    have hm:n∉az now:=fun q=>ff.1 hq (fG.1 q)
    rw[s2 n hm]
    exact fM n h0 CA
  ·have hm:=(kg n).2 hq
   cases hb:lookL n now with
   |none=>grind[fG,ff]
   |some b =>
    rw[kR]
    show bR (iu r.aR (dg rs B0) n)=true
    rw[(s1 n hm b hb).good];exact(hn.look hb).1
  ·grind
theorem DnR.ri0 {aq kd:Nat}(hr:DnR ε now kd tx 0 0 data 0 aM e false ε')(h:EI N B ε)(hB:B≤1000)(hn:NW N now)(hl:LR ba aq mk rs ε.2)(h1:1≤kd)(h2:kd≤7)
 (hv:vw (RI ba jR B0 rs g) ε)(fM:AZ N rs B0 ε): LR ba aq mk rs ε'.2∧vw (RI ba jR B0 rs g) ε'∧AZ N rs B0 ε':=by
 have I:=(h.done hB hn (by omega) (by omega) hr).resolve_right (by simp)
 have U:AZ N rs B0 ε':=fun n h0 h1=>by rw[I.2.2.2 n];exact fM n h0 h1
 generalize ob:false=cl at hr
 cases hr with
 |arg hh=>omega
 |dead _ _ _ hd=>omega
 |lD e c ε' _ _ _ _ J he=>exact⟨(jI ba aq mk rs).ch J hl,(RI.j6 N).ch J h.ec h.ok hv,U⟩
 |app c C3 _ _ _ _ J he =>
  have tQ:=(jI ba aq mk rs).ch J hl
  have uv:vw (RI ba jR B0 rs g) C3:=(RI.j6 N).ch J h.ec h.ok hv
  grind[gh]
 |put c C3 e YF _ _ _ _ J ha hp=>grind
end
structure RS (N ba aq:Nat)(mk:List Nat)(rs:List bt)(B0:Int→List Nat)(g:Int→Option Nat)(ε:bA): Prop where
 lr:LR ba aq mk rs ε.2
 ri:vw (RI ba jR B0 rs g) ε
 st:AZ N rs B0 ε
 gd:oh rs B0
theorem RS.pre {aq:Nat}{rs:List bt}(h:RS N ba aq mk rs B0 g ε)(I:∀P:VP,iL N P→vw P ε→vw P ε')(J:∀m,pgA ε' m=pgA ε m): RS N ba aq mk rs B0 g ε' :=
 ⟨I _ ((jI ba aq mk rs).j6 N) h.lr,I _ (RI.j6 N) h.ri,fun n a b=>by rw[J];exact h.st n a b,h.gd⟩
theorem qC {a b v:List bt}(h:a++b=u++v)(hs:szB a≤szB u): ∃w,u=a++w∧b=w++v:=by
 rcases List.append_eq_append_iff.1 h with⟨w,I,J⟩|⟨w,I,J⟩
 ·grind
 ·cases w<;>grind[vW]
structure nm (ba aq:Nat)(data:List Nat)(rs r1:List bt)(F:Nat)(g:Int→Option Nat): Prop where
 low:∀n rec,g n=some rec→ba+szB r1≤rec
 pt:(aq=0∧data=[]∧r1=[])∨∃A1 rc B,rs=(r1++A1)++rc::B∧aq=ba+szB (r1++A1)∧aq≠0∧rc.kd=8∧8≤rc.data.length∧data=rc.data.drop 8∧max ba (leN (rc.data.take 8))=ba+szB r1∧szB (r1++A1)+rc.len≤F
section
variable {aq F:Nat} {rs:List bt}
theorem nm.app (h:nm ba aq data rs r1 F g)(I:∀n rec,g' n=some rec→g n=some rec∨rec=ba+szB rs)(hF:F≤F'): nm ba aq data (rs++[r]) r1 F' g':=by
 have J:szB r1≤szB rs:=by
  rcases h.pt with⟨_,_,k⟩|⟨U,rc,B,k,_⟩<;>grind[szB,nG]
 refine⟨fun n rec hn => ?_,?_⟩
 ·rcases I n rec hn with q|q
  ·exact h.low n rec q
  ·omega
 ·rcases h.pt with k|⟨U,rc,B,k1,k2,k3,k4,k5,k6,k7,k8⟩<;>grind
theorem nm.more (h:nm ba aq data rs r1 F g)(I:∀n rec,g' n=some rec→g n=some rec)(U:F≤F'): nm ba aq data rs r1 F' g':=by
 refine⟨fun n rec J=>h.low n rec (I n rec J),?_⟩
 rcases h.pt with k|⟨A1,rc,B,k1,k2,k3,k4,k5,k6,k7,k8⟩<;>grind
theorem nm.at (h:nm ba aq data rs r1 F g){v:List bt}(hu:rs=u++v)(hF:F≤szB u): ∃r2,xg ba aq u data r1 r2:=by
 rcases h.pt with⟨k1,k2,I⟩|⟨J,rc,B,k1,k2,I,U,k5,k6,k7,k8⟩
 ·exact⟨u,by grind,.inl ⟨k1,k2,I⟩⟩
 ·obtain⟨w,hw,_⟩:=qC (a:=(r1++J)++[rc]) (b:=B) (u:=u) (v:=v) (by grind) (by grind[eX,szB])
  exact⟨J++rc::w,by grind,.inr ⟨r1++J,rc,w,by grind,k2,I,U,k5,k6,k7⟩⟩
theorem xg.more {v:List bt}(h:xg ba aq u data r1 r2): xg ba aq (u++v) data r1 (r2++v):=by
 obtain⟨I,J⟩:=h
 refine⟨by grind,?_⟩<;>grind
end
structure Ek (ba:Nat)(B0:Int→List Nat)(u v r1 r2:List bt)(δ:Dk): Prop where
 split:u=r1++r2
 rs:∀r∈u++v,r.Ok
 log:∃j,δ.log++δ.tail=logB ba (u++v)++j∧qy j
 cert:szB u≤δ.aH
 len:δ.aH≤δ.log.length
 gd:oh (u++v) B0
 kG:∀n w t t',vV δ n→v=t++t'→¬rZ (r2++t) n→qB δ n w→iw (dg (u++t) B0 n) w∧dM w=0
 cW:∀w,δ.cW=some w→rZ r2 w.1
theorem RS.cr {aq:Nat}{rs:List bt}(h:RS N ba aq mk rs B0 g ε)(hc:nm ba aq data rs r1 ε.2.1.forced g)(ke:ε.2.2.Ok):
  ∃u v r2,rs=u++v∧ε.2.1.forced=szB u∧xg ba aq u data r1 r2∧Ek ba B0 u v r1 r2 ε.2.2:=by
 have U:=kH.1 h.ri
 obtain⟨u,v,hu,hf⟩:=U.forced
 obtain⟨r2,J⟩:=hc.at hu (by omega)
 refine⟨u,v,r2,hu,hf,J,J.1,by rw[←hu];exact h.lr.rs,⟨[],by rw[h.lr.tail,h.lr.log,hu],.inl (by decide)⟩,by rw[←hf];exact U.cert,ke.aH,by rw[←hu];exact h.gd,fun n w t t' h0 ht hw ya => ?_,fun w hq=>by rw[h.lr.cW] at hq;cases hq⟩
 refine⟨U.kG n w (u++t) t' h0 (by grind) (by rw[hf];exact nG) (fun rec I => ?_) ya,U.ck n w h0.1 ya⟩
 refine u9 fun b8 => ?_
 obtain⟨a,r,b,k1,k2,k3⟩:=U.aN n rec I
 have sn:=hc.low n rec I
 have gW:szB a<szB (u++t):=by omega
 obtain⟨w1,e1,e2⟩:=qC (a:=a) (b:=r::b) (u:=u++t) (v:=t') (by grind) (vm gW)
 cases w1 with
 |nil=>grind
 |cons y w1 =>
  injection e2 with e2 e3
  subst e2
  obtain⟨w2,e4,e5⟩:=qC (a:=r1) (b:=r2++t) (u:=a) (v:=r::w1) (by rw[←e1,J.1,cE]) (by omega)
  exact hw ⟨r,by grind,k3⟩
def imgL (P:List (Option (List Nat)))(n:Int): List Nat:=match P[n.toNat]? with
 |some (some b)=>b
 |_=>List.replicate 512 0
theorem Ig {P:List (Option (List Nat))}(I:0≤n): imgL (P.set k (some b)) n=imgL P n∨(((k:Nat):Int)=n∧imgL (P.set k (some b)) n=b):=by
 grind[imgL]
theorem Rx {c:List Nat}(I:0≤n): ∀ {W:List Wr} {i:Nat} {P:List (Option (List Nat))},imgL (layW c i W P) n=imgL P n∨∃wr∈W,((wr.1:Nat):Int)=n∧imgL (layW c i W P) n=wr.2:=by
 intro W
 induction W<;>grind[layW,Ig]
theorem O5 {c:List Nat}(I:0≤n){P:List (Option (List Nat))}{o:Option Wr}: imgL (tornP c k P o) n=imgL P n∨∃w,o=some w∧((w.1:Nat):Int)=n:=by
 cases o<;>grind[tornP,Ig]
theorem O6 {j:List Nat}(h:qy j): qy (j.take k):=by
 by_cases J:k<8
 ·left;rw[gv];omega
 ·rcases h with h|h
  ·left;rw[gv];omega
  ·by_cases I:(j.take k).length<8
   ·exact .inl I
   ·right
    grind
theorem Ry {rs:List bt}{n:Nat}{j:List Nat}(I:∀r∈rs,r.Ok)(U:qy j): ∃dK gu J,rs=dK++gu∧(logB n rs++j).take K=logB n dK++J∧qy J:=by
 by_cases hK:K≤(logB n rs).length
 ·rw[yV hK]
  exact UI rs n K I
 ·refine⟨rs,[],j.take (K-(logB n rs).length),by simp,?_,O6 U⟩<;>grind[List.take_append,List.take_of_length_le]
theorem Mx {a b t:List Nat}{c K:Nat}(h:c≤a.length): a.take c++(a.drop c++t).take K=(a++t).take (c+K):=by
 grind
section
variable {v:List bt}
theorem Ek.C4 (h:Ek ba B0 u v r1 r2 δ)(c:List Nat): ∃t t',v=t++t'∧Ek ba B0 (u++t) [] r1 (r2++t) (d_ δ c):=by
 obtain⟨j,hl,hj⟩:=h.log
 have yJ:(d_ δ c).log=(δ.log++δ.tail).take (δ.aH+kE δ c):=Mx (b:=[]) h.len
 have hlu:(logB ba u).length=szB u:=eZ
 have hcu:=h.cert
 obtain⟨t,t',j',e1,e2,e3⟩:=Ry (rs:=v) (n:=ba+szB u) (K:=δ.aH+kE δ c-szB u) (j:=j) (fun r hr=>h.rs r (List.mem_append.2 (.inr hr))) hj
 have abQ:(d_ δ c).log=logB ba (u++t)++j':=by
  rw[yJ,hl,tY,cE,List.take_append,jy (by omega),hlu,e2,tY,cE]
 refine⟨t,t',e1,by rw[h.split,cE],fun r hr => ?_,⟨j',by grind[d_],e3⟩,?_,aP _,?_,fun n w a b h0 sx hw I => ?_,fun w hq=>(by cases hq)⟩
 ·refine h.rs r ?_<;>grind
 ·grind[d_,eZ]
 ·refine⟨h.gd.S0,fun r hr => ?_,fun a b n sx kg=>h.gd.gd a (b++t') n ?_ kg⟩
  ·refine h.gd.lt r ?_<;>grind
  grind
 ·have hlen:(d_ δ c).ai.length=δ.ai.length:=by
   show(tornP c _ _ δ.cW).length=_
   cases δ.cW<;>grind[Ej,tornP]
  have qt:vV δ n:=⟨h0.1,by rw[←hlen];exact h0.2⟩
  have h0:=h0.1
  obtain⟨rfl,rfl⟩:=List.append_eq_nil_iff.1 sx.symm
  rw[cS] at hw ⊢
  have J:w=imgL (tornP c δ.waiting.length (layW c 0 δ.waiting δ.ai) δ.cW) n:=by
   rcases I with I|⟨wr,tK,_⟩
   ·exact I
   ·cases tK
  have U:qB δ n w:=by
   rcases O5 (c:=c) (k:=δ.waiting.length) h0 (P:=layW c 0 δ.waiting δ.ai) (o:=δ.cW) with q|⟨wt,q1,q2⟩
   ·rw[q] at J
    rcases Rx (c:=c) h0 (W:=δ.waiting) (i:=0) (P:=δ.ai) with q|⟨wr,k1,k2,k3⟩
    ·exact .inl (J.trans q)
    ·exact .inr ⟨wr,k1,k2,J.trans k3⟩
   ·exfalso
    obtain⟨r,hr,hc⟩:=h.cW wt q1
    rw[q2] at hc
    exact hw ⟨r,List.mem_append.2 (.inl hr),hc⟩
  exact h.kG n w t t' qt e1 hw U
end
structure OpD (ba:Nat)(B0:Int→List Nat)(u r1 r2:List bt)(N:Nat)(δ:Dk): Prop where
 cr:Ek ba B0 u [] r1 r2 δ
 tail:δ.tail=[]
 ai:δ.ai.length=N
 keys:∀k:Int,k∈δ.now.map (·.1)→0≤k∧k<N
 nodup:(δ.now.map (·.1)).Nodup
 nw:∀n b,lookL n δ.now=some b→rZ r2 n
section
theorem OpD.die (h:OpD ba B0 u r1 r2 N δ): OpD ba B0 u r1 r2 N δ.die :=
 ⟨⟨h.cr.split,h.cr.rs,h.cr.log,h.cr.cert,h.cr.len,h.cr.gd,h.cr.kG,h.cr.cW⟩,h.tail,h.ai,h.keys,h.nodup,h.nw⟩
theorem OpD.cQ (h:OpD ba B0 u r1 r2 N δ): OpD ba B0 u r1 r2 N δ.cQ :=
 ⟨⟨h.cr.split,h.cr.rs,h.cr.log,h.cr.cert,h.cr.len,h.cr.gd,h.cr.kG,h.cr.cW⟩,h.tail,h.ai,h.keys,h.nodup,h.nw⟩
theorem OpD.Rz (h:OpD ba B0 u r1 r2 N δ): ∃j,δ.log=logB ba u++j∧qy j:=by
 obtain⟨j,I,J⟩:=h.cr.log
 rw[h.tail,cS,cS] at I
 exact⟨j,I,J⟩
theorem OpD.cJ (h:OpD ba B0 u r1 r2 N δ): OpD ba B0 u r1 r2 N (δ.cJ (szB u)).2∧((δ.cJ (szB u)).1=0→(δ.cJ (szB u)).2.log=logB ba u):=by
 obtain⟨j,I,J⟩:=h.Rz
 have U:(logB ba u).length=szB u:=eZ
 unfold Dk.cJ
 split
 ·unfold Dk.oM
  split
  ·grind
  ·rw[ah (by omega)]
   split
   ·exact⟨h.die,fun q=>(by cases q)⟩
   ·have e:δ.log.take (szB u)=logB ba u:=by grind
    refine⟨⟨⟨h.cr.split,h.cr.rs,⟨[],?_,.inl (by decide)⟩,aP _,?_,h.cr.gd,h.cr.kG,h.cr.cW⟩,h.tail,h.ai,h.keys,h.nodup,h.nw⟩,fun _=>e⟩
    ·show δ.log.take (szB u)++δ.tail=_
     rw[e,h.tail,cS,cS,cS]
    grind
 ·simp_all
theorem OpD.bQ (h:OpD ba B0 u r1 r2 N δ): OpD ba B0 u r1 r2 N δ.bQ.2:=by
 unfold Dk.bQ
 split
 ·exact h
 ·split
  ·exact h.die
  ·have:=h.cr.len
   have:=h.cr.cert
   exact⟨⟨h.cr.split,h.cr.rs,h.cr.log,by grind,aP _,h.cr.gd,h.cr.kG,h.cr.cW⟩,h.tail,h.ai,h.keys,h.nodup,h.nw⟩
theorem OpD.cy (h:OpD ba B0 u r1 r2 N δ): OpD ba B0 u r1 r2 N (δ.cy (szB u)).2∧((δ.cy (szB u)).1=0→(δ.cy (szB u)).2.log=logB ba u):=by
 obtain⟨t1,t2⟩:=h.cJ
 unfold Dk.cy
 split
 ·grind
 ·rename_i I
  have t2:=t2 (Classical.not_not.1 I)
  split
  ·refine⟨t1.bQ,fun _ => ?_⟩
   have:(δ.cJ (szB u)).2.bQ.2.log=(δ.cJ (szB u)).2.log:=by
    unfold Dk.bQ
    split
    ·rfl
    ·split<;>rfl
   rw[this,t2]
  ·grind
theorem OpD.a_ (h:OpD ba B0 u r1 r2 N δ){k:Int}(hk:rZ r2 k): OpD ba B0 u r1 r2 N (δ.a_ k b).2∧((δ.a_ k b).1=0→0≤k∧k<N∧∀n,lookL n (δ.a_ k b).2.now=if k=n then some b else lookL n δ.now):=by
 unfold Dk.a_
 split
 ·grind
 ·split
  ·grind
  ·rename_i U
   have U:=Classical.not_not.1 U
   have hN:=h.ai
   split
   ·refine⟨⟨⟨h.cr.split,h.cr.rs,h.cr.log,h.cr.cert,h.cr.len,h.cr.gd,h.cr.kG,fun w hw => ?_⟩,h.tail,h.ai,h.keys,h.nodup,h.nw⟩,fun q=>(by cases q)⟩<;>grind
   ·refine⟨⟨⟨h.cr.split,h.cr.rs,h.cr.log,h.cr.cert,h.cr.len,h.cr.gd,fun n w t t' h0 ht hw ya => ?_,h.cr.cW⟩,h.tail,h.ai,fun x hx => ?_,iO h.nodup,fun n c J => ?_⟩,fun _=>⟨U.1,by omega,fun n=>gH _⟩⟩
    ·refine h.cr.kG n w t t' h0 ht hw ?_
     rcases ya with hq|⟨wr,I,q1,q2⟩
     ·exact .inl hq
     ·rcases List.mem_append.1 I with I|I
      ·exact .inr ⟨wr,I,q1,q2⟩
      ·exfalso
       obtain⟨r,tH,EK⟩:=hk
       exact hw ⟨r,List.mem_append.2 (.inl tH),by grind⟩
    ·rcases oP.1 hx with rfl|hx
     ·omega
     ·exact h.keys x hx
    ·have J:lookL n (cY k b δ.now)=some c:=J
     rw[gH] at J
     by_cases hq:k=n
     ·grind
     ·rw[ah hq] at J;exact h.nw n c J
theorem OpD.img (h:OpD ba B0 u r1 r2 N δ)(I:0≤n): imgOf δ.sync n=match lookL n δ.now with|some b=>b|none=>imgOf δ n:=by
 rw[imgOf,show δ.sync.ai=laidP δ.now δ.ai from rfl,laidP_get h.ai h.nodup h.keys I]
 cases J:lookL n δ.now with
 |some b=>rfl
 |none=>rfl
theorem OpD.cM (h:OpD ba B0 u r1 r2 N δ): OpD ba B0 u r1 r2 N δ.cM.2:=by
 unfold Dk.cM
 split
 ·exact h
 ·split
  ·exact h.die
  ·refine⟨⟨h.cr.split,h.cr.rs,h.cr.log,h.cr.cert,h.cr.len,h.cr.gd,fun n w t t' I ht hw J => ?_,h.cr.cW⟩,h.tail,?_,fun k hk=>(by cases hk),jz,fun n b hb=>(by cases hb)⟩
   ·have U:vV δ n:=⟨I.1,by have:=I.2;rw[show δ.cQ.sync.ai=laidP δ.now δ.ai from rfl,mB] at this;exact this⟩
    have I:=I.1
    refine h.cr.kG n w t t' U ht hw (.inl ?_)
    have hq:w=imgOf δ.cQ.sync n:=by
     rcases J with hq|⟨wr,tK,_⟩
     ·exact hq
     ·cases tK
    rw[hq,h.cQ.img I]
    cases hl:lookL n δ.cQ.now with
    |none=>rfl
    |some b =>
     obtain⟨r,tH,EK⟩:=h.nw n b hl
     exact absurd ⟨r,List.mem_append.2 (.inl tH),EK⟩ hw
   ·show(laidP δ.now δ.ai).length=N
    rw[mB];exact h.ai
theorem OpD.again : ∀ {l:List Int} {δ:Dk},l.Nodup→(∀k∈l,∀b,lookL k ρ.ai=some b→rZ r2 k)→OpD ba B0 u r1 r2 N δ→OpD ba B0 u r1 r2 N (againW ρ l δ).2 ∧
  ((againW ρ l δ).1=0→(∀n,n∈l→∀b,lookL n ρ.ai=some b→bR b=true→n<N→lookL n (againW ρ l δ).2.now=some (cP b (lI ρ n)))∧(∀n,n∉l→lookL n (againW ρ l δ).2.now=lookL n δ.now)):=by
 intro l
 induction l with
 |nil=>intro δ _ _ h;exact⟨h,fun _=>⟨fun n J=>(by cases J),fun _ _=>rfl⟩⟩
 |cons k l ih =>
  intro δ U I h
  have BS:∀x∈l,∀b,lookL x ρ.ai=some b→rZ r2 x:=fun x hx=>I x (b9 _ hx)
  rw[againW]
  cases hq:lookL k ρ.ai with
  |none =>
   grind
  |some b =>
   simp only
   have hN:=h.ai
   split
   ·obtain⟨w1,w2⟩:=h.a_ (k:=k) (b:=cP b (lI ρ k)) (I k cn b hq)
    split
    ·grind
    ·grind
   grind
theorem OpD.cz (h:OpD ba B0 u r1 r2 N δ)(hn:δ.now=[])(hw:δ.waiting=[]): OpD ba B0 u r1 r2 N (cz δ ba u r1 r2).2∧((cz δ ba u r1 r2).1=0 →
  (cz δ ba u r1 r2).2.log=logB ba u∧(cz δ ba u r1 r2).2.now=[]∧(cz δ ba u r1 r2).2.waiting=[] ∧
  ∀n,0≤n→n<(N:Int)→iw (dg u B0 n) (imgOf (cz δ ba u r1 r2).2 n)∧dM (imgOf (cz δ ba u r1 r2).2 n)=0):=by
 have I:=UJ r2 (ba+szB r1) (dg r1 B0)
 have hS:dg r2 (dg r1 B0)=dg u B0:=by rw[h.cr.split,kR]
 rw[hS] at I
 have RA:∀r∈r2,r.Ok:=fun r hr=>h.cr.rs r (by rw[cS,h.cr.split];exact List.mem_append.2 (.inr hr))
 have ke:(redoL (ba+szB r1) r2 fS.none).Ok:=w_ vT RA
 obtain⟨o1,o2⟩:=h.cy
 obtain⟨f1,f2,f3⟩:=sR (δ:=δ) (n:=szB u)
 unfold Am.cz
 split
 ·grind
 ·rename_i h0
  have o2:=o2 (Classical.not_not.1 h0)
  generalize hρ:redoL (ba+szB r1) r2 fS.none=ρ at I ke ⊢
  have mL:(az ρ.ai).Nodup:=(en _).nodup_iff.2 ke.dup
  obtain⟨a1,a2⟩:=o1.again (ρ:=ρ) mL (fun k _ b hb=>(I.some k b hb).2)
  have YG:∀ {l:List Int} {δ:Dk},(againW ρ l δ).2.log=δ.log:=by
   intro l
   induction l with
   |nil=>intro δ;rfl
   |cons k l ih =>
    intro δ
    have V8:∀b,(δ.a_ k b).2.log=δ.log:=fun b=>by
     unfold Dk.a_
     split
     ·rfl
     ·split
      ·rfl
      ·split<;>rfl
    grind[againW]
  have fin:∀J,OpD ba B0 u r1 r2 N J→(againW ρ (az ρ.ai) (δ.cy (szB u)).2).1=0→(∀n,0≤n→imgOf J n=match lookL n (againW ρ (az ρ.ai) (δ.cy (szB u)).2).2.now with|some b=>b|none=>imgOf (againW ρ (az ρ.ai) (δ.cy (szB u)).2).2 n) →
    ∀n,0≤n→n<(N:Int)→iw (dg u B0 n) (imgOf J n)∧dM (imgOf J n)=0:=fun J h1 hz hi n U CA=>by
   obtain⟨b1,b2⟩:=a2 hz
   rw[hi n U]
   cases hl:lookL n ρ.ai with
   |some b =>
    obtain⟨e1,e2⟩:=I.some n b hl
    obtain⟨r,tH,c,xp,uf,_⟩:=e2
    have hg:bR b=true:=by
     rw[e1]
     exact h.cr.gd.gd u [] n (by simp) ⟨r,by rw[h.cr.split];exact List.mem_append.2 (.inr tH),c,xp,uf⟩
    have hb:∀x∈b,x<256:=by
     rw[e1]
     exact O4 (fun r hr=>h.cr.gd.lt r (by grind)) h.cr.gd.S0 n
    have xP:n∈az ρ.ai:=fG.2 ((fh hl) |> lP (f:=(·.1)))
    rw[b1 n xP b hl hg CA]
    simp only
    rw[←e1]
    exact⟨(BA (fb hg)).symm,(uE hg hb).1⟩
   |none =>
    have hnw:=I.none n hl
    have nc:lookL n (againW ρ (az ρ.ai) (δ.cy (szB u)).2).2.now=none:=by
     cases hq:lookL n (againW ρ (az ρ.ai) (δ.cy (szB u)).2).2.now with
     |none=>rfl
     |some b=>exact absurd (a1.nw n b hq) hnw
    rw[nc]
    have:=a1.cr.kG n _ [] [] ⟨U,by rw[a1.ai];exact CA⟩ rfl (by grind) (.inl rfl)
    grind
  unfold kF
  split
  ·grind
  ·rename_i hz
   have hz:=Classical.not_not.1 hz
   split
   ·rename_i hp
    have ek:az ρ.ai=[]:=by rw[hp];rfl
    grind[againW,lookL]
   ·refine⟨a1.cM,fun hs => ?_⟩
    have es:(againW ρ (az ρ.ai) (δ.cy (szB u)).2).2.cM=(0,(againW ρ (az ρ.ai) (δ.cy (szB u)).2).2.cQ.sync):=by
     grind[Dk.cM]
    have SZ:=a1.cM
    rw[es] at SZ ⊢
    refine⟨by show(againW ρ (az ρ.ai) (δ.cy (szB u)).2).2.log=_;rw[YG,o2],rfl,rfl,fin _ SZ hz fun n U => ?_⟩
    rw[a1.cQ.img U]
    rfl
end
theorem My (I:∀δ k b,R δ→R (δ.a_ k b).2): ∀ {l:List Int} {δ:Dk},R δ→R (againW ρ l δ).2:=by
 intro l
 induction l<;>grind[againW]
theorem uK (I:∀δ n,R δ→R (δ.cy n).2)(J:∀δ k b,R δ→R (δ.a_ k b).2)(U:∀δ,R δ→R δ.cM.2)(h:R δ): R (cz δ ba u r1 r2).2:=by
 unfold cz kF
 split
 ·grind
 ·have:=My (ρ:=redoL (ba+szB r1) r2 fS.none) (l:=az (redoL (ba+szB r1) r2 fS.none).ai) J (I δ (szB u) h)
  split
  ·omega
  ·grind
theorem Dk.Ok.syn (h:δ.Ok): δ.cM.2.Ok:=by
 unfold Dk.cM
 split
 ·exact h
 ·split
  ·exact h.die
  ·have I:=h.cQ
   refine⟨I.aA,I.len,I.room,fun e he=>(by cases he),fun i b U => ?_,I.aH,by show(laidP δ.now δ.ai).length≤_;rw[mB];exact I.many⟩
   have key:∀ {l:List (Int×List Nat)} {m:List (Option (List Nat))},(∀e∈l,e.2.length=512)→(∀(i:Nat) (b:List Nat),m[i]?=some (some b)→b.length=512)→∀(i:Nat) (b:List Nat),(laidP l m)[i]?=some (some b)→b.length=512:=by
    intro l
    induction l with
    |nil=>intro m _ hm;exact hm
    |cons e l ih =>
     intro m J hm
     exact ih (fun x hx=>J x (b9 _ hx)) (KN hm (J e cn))
   exact key h.now h.ai i b U
theorem yP {n:Nat}: (δ.cy n).2.cW=δ.cW∧(δ.cy n).2.mark=δ.mark:=by
 have I:(δ.cJ n).2.cW=δ.cW∧(δ.cJ n).2.mark=δ.mark:=by
  unfold Dk.cJ Dk.oM
  split
  ·split
   ·simp
   ·split
    ·simp
    ·split<;>exact⟨rfl,rfl⟩
  ·simp
 unfold Dk.cy
 split
 ·exact I
 ·split
  ·unfold Dk.bQ
   split
   ·exact I
   ·split<;>exact I
  ·exact I
theorem yQ : (cz δ ba u r1 r2).2.mark=δ.mark:=by
 refine uK (R:=fun x=>x.mark=δ.mark) (fun x n h=>yP.2.trans h) (fun x k b h => ?_) (fun x h => ?_) rfl
 ·unfold Dk.a_
  split
  ·exact h
  ·split
   ·exact h
   ·split<;>exact h
 ·unfold Dk.cM
  split
  ·exact h
  ·split<;>exact h
theorem Ih (h:δ.Ok): (cz δ ba u r1 r2).2.Ok :=
 uK (R:=Dk.Ok) (fun _ _ h=>h.cy) (fun _ _ _ h=>h.a_) (fun _ h=>h.syn) h
theorem O7 (J:δ.aA<0)(U:δ.cW=none): (cz δ ba u r1 r2).2.cW=none:=by
 have I:∀ {x:Dk} {n:Nat},x.aA<0→(x.cy n).2.aA<0:=fun {x n} h=>by
  grind[Dk.cJ,Dk.oM,gr,Dk.cy,Dk.bQ]
 refine(uK (R:=fun x=>x.aA<0∧x.cW=none) (fun x n h=>⟨I h.1,yP.1.trans h.2⟩) (fun x k b h => ?_) (fun x h => ?_) ⟨J,U⟩).2
 ·unfold Dk.a_
  split
  ·exact h
  ·split
   ·exact h
   ·rw[ah (by omega)]
    exact⟨by show x.cQ.aA<0;rw[gr h.1];exact h.1,h.2⟩
 ·unfold Dk.cM
  split
  ·exact h
  ·rw[ah (by omega)]
   exact⟨by rw[gr h.1];exact h.1,h.2⟩
theorem KP (I:δ.now=[]): δ.at n=imgOf δ n:=by
 rw[Dk.at,I];rfl
theorem OpD.Ii {aq f:Nat}(h:OpD ba B0 u r1 r2 N δ)(hn:δ.now=[])(hw:δ.waiting=[])(ht:δ.cW=none)(hl:Lv δ)(ke:δ.Ok)(hf:1≤f)(Ff:f≤1024)(KQ:1≤B)(hB:B≤1000)(gW:ba+szB u≤B*1048600)(Ms:aq≤1099511627776):
  (Am.cz δ ba u r1 r2).1=0∧EI N B (Pl.fresh f,(fX ba aq u,(Am.cz δ ba u r1 r2).2))∧RS N ba aq δ.mark u B0 (fun _=>none) (Pl.fresh f,(fX ba aq u,(Am.cz δ ba u r1 r2).2)):=by
 have RA:∀r∈r2,r.Ok:=fun r hr=>h.cr.rs r (by rw[cS,h.cr.split];exact List.mem_append.2 (.inr hr))
 obtain⟨v1,v2⟩:=hl.cz (base:=ba) (rs:=u) (dK:=r1) RA
 obtain⟨U,o2⟩:=h.cz hn hw
 obtain⟨p1,p2,p3,p4⟩:=o2 v1
 have q1:=Ih (ba:=ba) (u:=u) (r1:=r1) (r2:=r2) ke
 have q2:=yQ (ba:=ba) (u:=u) (r1:=r1) (r2:=r2) (δ:=δ)
 have q3:=O7 (ba:=ba) (u:=u) (r1:=r1) (r2:=r2) hl.aA ht
 refine⟨v1,?_⟩
 generalize (Am.cz δ ba u r1 r2).2=rq at *
 have F:=EI.fresh (n:=N) (m:=0) (f:=f) (by have:=q1.many;rw[U.ai] at this;exact this) (by decide) hf Ff
 have hlen:(logB ba u).length=szB u:=eZ
 have aa2:szB u≤16777216:=by have:=q1.len;rw[p1,hlen] at this;exact this
 have YH:szB u≤rq.aH:=U.cr.cert
 have hC:∀n b,¬iI (Pl.fresh f) n b:=fun n b ⟨i,x,hx,_,_,k2,_⟩=>by rw[qx hx] at k2;cases k2
 have Ij:ia (Pl.fresh f).aj≤1*65536:=by
  have:=F.cg
  grind[Am.cg,Am.fresh]
 have ni:∀n,pgA (Pl.fresh f,(fX ba aq u,rq)) n=imgOf rq n:=fun n=>by exact KP p2
 constructor
 ·refine⟨⟨⟨F.ok.ok.pl,KL (by omega) aa2 Ms,q1⟩,F.ok.pins,F.ok.full⟩,⟨⟨v2.alive,v2.aA,U.ai,fun k hk => ?_,?_,fun n h0 h1 => ?_⟩,F.ec.nodup,F.ec.jL,fun i x hx=>.inl ?_,F.ec.ru,F.ec.yM⟩,⟨p1.symm,?_,?_⟩,?_⟩
  ·grind
  ·grind
  ·grind[KP]
  ·rw[qx hx];decide
  ·show(logB ba u).length≤rq.aH;omega
  ·show ba+(logB ba u).length≤_;omega
  ·show rq.waiting.length+ia (Pl.fresh f).aj≤_
   grind
 ·refine⟨⟨rfl,rfl,rfl,rfl,p1,v2.alive,v2.aA,q2,q3,U.tail,fun w hw=>(by grind),fun r hr=>h.cr.rs r (by grind)⟩,?_,fun n h0 h1 => ?_,?_⟩
  ·refine⟨rfl,rfl,p1,v2.alive,v2.aA,⟨u,[],by simp,hlen⟩,by show(logB ba u).length≤rq.aH;omega,fun n w t t' h0 hu xD hr I => ?_,fun n rec q=>(by cases q),fun n _ wr tK=>(by grind),fun n b hb=>absurd hb (hC n b),fun n rec q=>(by cases q),fun n rec q=>(by cases q),fun n b hb=>(by rw[p2] at hb;cases hb),fun n rec fl q=>(by cases q),fun n rec q=>(by cases q),fun n w h0 I => ?_,fun n q=>q.elim⟩
   ·have xD:(logB ba u).length≤szB t:=xD
    obtain⟨w',e1,e2⟩:=qC (a:=u) (b:=[]) (u:=t) (v:=t') (by grind) (by omega)
    obtain⟨e3,_⟩:=List.append_eq_nil_iff.1 e2.symm
    rw[e3,cS] at e1
    subst e1
    have J:w=imgOf rq n:=by
     rcases I with I|⟨wr,tK,_⟩
     ·exact I
     ·grind
    rw[J]
    exact(p4 n h0.1 (by have:=h0.2;rw[U.ai] at this;exact this)).1
   ·have J:w=imgOf rq n:=by
     rcases I with I|⟨wr,tK,_⟩
     ·exact I
     ·grind
    rw[J]
    by_cases hN:n<(N:Int)
    ·grind
    ·have:imgOf rq n=List.replicate 512 0:=by
      have su:=U.ai
      grind[imgOf]
     rw[this];exact wY
  ·grind
  ·have:=h.cr.gd
   grind
end Go.Proofs.YtiojppeahfoiaaaGreat.Am
