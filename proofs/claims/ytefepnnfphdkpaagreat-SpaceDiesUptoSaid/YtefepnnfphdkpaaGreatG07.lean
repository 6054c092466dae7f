/- SpaceDies: a part of its proof; conditions: its statement's. -/
import Derived.Test.YtefepnnfphdkpaaGreatG05
import Derived.Test.YtefepnnfphdkpaaGreatG06
import Derived.Test.YtefepnnfphdkpaaGreatG04
namespace Go.Proofs.YtefepnnfphdkpaaGreat.Am
open Go
variable {X:aO} {cl:Bool} {C:fH} {δ rE vI:Dk} {ε ah:aZ} {Q:Ex→List (Nat×V)→H→Prop} {f:Fm} {h h':H} {n e pg:Int} {σ B0:Int→List Nat} {g:Int→Option Nat} {nq:Int→Prop} {x:LD} {R:LD→Prop} {μ:Lg} {d:List (Int×(Nat×Bool))} {now bR:List (Int×List Nat)} {E:List (Nat×V)} {S:List aO} {data b l rest mk d_:List Nat} {cs ds:List V} {tx pv nx N a i q aB j aM K B c k iR id c0 wv ba F oQ:Nat} {o:Oper} {y:Operand} {π bN:Pl} {P:Program} {α:Type} {t:TypeId} {wt cv z:V}
theorem vn {n m:Nat}(hle:n≤m){args:List V}{r:V×H}(I:toldParsed CB n args h=some r): toldParsed CB m args h=some r:=by
 unfold toldParsed at I ⊢
 have mono:=fP (C:=CB) hle
 split at I
 ·rename_i x
  split at I
  ·rename_i J h₁
   simp only[mono _ _ _ h₁]
   cases UC:Nat.blt 4 J.au with
   |false=>rw[UC] at I;cases I
   |true =>
    rw[UC,aj] at I
    rw[aj]
    split at I
    ·rename_i L5 O1
     simp only[mono _ _ _ O1]
     split at I
     ·rename_i YI OE
      simp only[mono _ _ _ OE]
      exact I
     ·cases I
    ·cases I
  ·cases I
 ·cases I
section
variable {v:V}
noncomputable def prH : Code:=cD [0] ((Tryz.f173.body).getD .skip)
noncomputable def prM : Code:=cD [1,1,0] ((Tryz.f173.body).getD .skip)
theorem YJ (s:Sat h S)(hE:Has E [(0,v)])
 (hq:∀E' h' I J,Has E' [(0,v),(2,.ptr I 0),(3,.ptr J 0)]→Sat h' (pt J (.cells 1 [.bool false] false)::pt I (.cells 6 (ie 0 0 0 0 .bC .bC) false)::S)→Q .normal E' h'): WP CB 9 prH E h Q:=by
 refine WP.has hE (zr rfl ?_)
 refine ay.b8 s rfl rfl rfl (bU qW) (fun I h s => ?_)
 refine ay.b8 s rfl rfl rfl (bU X6) (fun J h s => ?_)
 exact zv (hq _ _ _ _ ⟨rfl,rfl,rfl,aa⟩ s)
theorem YK {kd:Nat}{aQ:List cn}(hg:dY kd aQ=true)(hk:kd<256)(hr:xT tx pv nx data aQ)(hX:cQ X (cW v (dy kd tx pv nx data aQ))){I J:Nat}(s:Sat h (pt J (.cells 1 [.bool false] false)::pt I (.cells 6 (ie 0 0 0 0 .bC .bC) false)::X::S))
 (hE:Has E [(0,v),(2,.ptr I 0),(3,.ptr J 0)])
 (hq:∀E' h' dt ch cs,Has E' [(2,.ptr I 0),(3,.ptr J 0)]→Sat h' (pt J (.cells 1 [.bool true] false)::pt I (.cells 6 (ie kd tx pv nx dt ch) false)::X::aV dt data::.arr 4 ch cs::dh cs aQ::S)→Q .normal E' h'): WP CB 9 prM E h Q:=by
 obtain⟨pi,po,pc,rfl⟩:=iS (s.aH (k:=2) rfl hX) (by simp only[dy,bO,aX];omega)
 refine WP.has hE (zK 2 rfl (zo rfl (dn rfl (by rw[aag];rfl)) ?_))
 refine ay.b8 s rfl rfl rfl (fg rfl rfl) ?_
 intro p1 h s
 dsimp only[V.cells] at s
 refine zc rfl (V9 W.base hg hk hr ⟨_,hX,s.ae [0,2]⟩) ?_
 rintro r h ⟨dt,ch,cs,rfl,s⟩
 have jB:=(s.buf (k:=1) rfl).view.cells
 have iI:=s.iY (j:=2) rfl
 refine zS rfl (s.ep (j:=5) rfl g8 rfl (mQ jB.2 iI.2.1)) ?_
 rintro h s
 refine zS rfl (by exact s.eX (k:=4) rfl ox rfl (by decide) rfl rfl) (fun h s => ?_)
 exact zv (hq _ _ _ _ _ ⟨rfl,rfl,aa⟩ (s.ae [4,4,0,0,0,0]))
noncomputable def qrR : Code:=cD [1] ((Tryz.f191.body).getD .skip)
theorem YL {x y:V}(I:Has E [(0,x),(1,y),(2,.jN),(5,.jN)])(J:∀E',Q .normal E' h): WP CB 16 qrR E h Q:=by
 refine WP.has I (zK 3 rfl (zo rfl (RH (r:=.bf [.int .i64 0,.bool false]) rfl (by simp only[assertV,Tryz.underlying30,abb])) ?_))
 refine zk 14 rfl (zo rfl (az (r:=.bool false) rfl rfl (by simp only[binV,Tryz.underlying20];rfl)) ?_)
 refine zv (zj rfl (WP.skip ?_))
 exact J _
theorem M6 {kd:Nat}{aQ:List cn}(hg:dY kd aQ=true)(hk:kd<256)(hr:xT tx pv nx data aQ)(s:Sat h (X::S))(hX:cQ X (cW v (dy kd tx pv nx data aQ))):
  ∃n r,toldParsed CB n [v] h=some r∧∃dt ch cs,r.1=.bf [.agg (ie kd tx pv nx dt ch),.bool true]∧Sat r.2 (X::aV dt data::.arr 4 ch cs::dh cs aQ::S):=by
 obtain⟨N1,ex1,I,h1,E1,a1,k1,rfl,J,p3,PG,s1⟩:=YJ (Q:=fun ex E' h'=>ex=.normal∧∃J p3,Has E' [(0,v),(2,.ptr J 0),(3,.ptr p3 0)]∧Sat h' (pt p3 (.cells 1 [.bool false] false)::pt J (.cells 6 (ie 0 0 0 0 .bC .bC) false)::X::S)) (v:=v) (E:=argE [v] 0) s ⟨rfl,aa⟩ (fun E' h' J p3 hE s=>⟨rfl,J,p3,hE,s⟩) _ (wA [v])
 have v2:I.v 2=.ptr J 0:=by simp only[Env.v,k1 _ _ PG.2.1]
 have v3:I.v 3=.ptr p3 0:=by simp only[Env.v,k1 _ _ PG.2.2.1]
 have k1':=k1.set 4 (.fn (.func 191) [] [I.v 2,I.v 3])
 obtain⟨N2,ow,M7,h2,E2,a2,k2,rfl,dt,ch,cs,UD,s2⟩:=YK (Q:=fun ex E' h'=>ex=.normal∧∃dt ch cs,Has E' [(2,.ptr J 0),(3,.ptr p3 0)]∧Sat h' (pt p3 (.cells 1 [.bool true] false)::pt J (.cells 6 (ie kd tx pv nx dt ch) false)::X::aV dt data::.arr 4 ch cs::dh cs aQ::S)) hg hk hr hX s1 (E:=(4,.fn (.func 191) [] [I.v 2,I.v 3])::E1) ⟨PG.1,PG.2.1,PG.2.2.1,aa⟩ (fun E' h' dt ch cs hE s=>⟨rfl,dt,ch,cs,hE,s⟩) _ k1'
 have k3:=((wA [V.ptr J 0,V.ptr p3 0]).set 5 .jN).set 2 .jN
 obtain⟨N3,ex3,ac0,h3,E3,a3,k3',rfl,rfl⟩:=YL (h:=h2) (x:=.ptr J 0) (y:=.ptr p3 0) (Q:=fun ex E' h'=>ex=.normal∧h'=h2) (E:=(2,.jN)::(5,.jN)::argE [.ptr J 0,.ptr p3 0] 0) ⟨rfl,rfl,rfl,rfl,aa⟩ (fun E'=>⟨rfl,rfl⟩) _ k3
 have r1:mapO (resV Tryz.prog ⟨M7,9,h3⟩) Tryz.f173.results.toList=some [.agg (ie kd tx pv nx dt ch),.bool true]:=by
  refine A4 (s:=⟨M7,9,h3⟩) k2 ?_
  have e1:resE Tryz.prog E2 h3 (.cell 2 48)=some (.agg (ie kd tx pv nx dt ch)):=by
   simp only[resE,UD.1]
   exact s2.bZ (k:=1) rfl nG g8
  have e2:resE Tryz.prog E2 h3 (.cell 3 4)=some (.bool true):=by
   simp only[resE,UD.2.1]
   exact s2.ld (k:=0) rfl jK rfl
  show mapO (resE Tryz.prog E2 h3) [.cell 2 48,.cell 3 4]=_
  simp only[mapO,e1,e2]
 refine⟨max N1 (max N2 N3),(.bf [.agg (ie kd tx pv nx dt ch),.bool true],h3),?_,dt,ch,cs,rfl,(s2.del 0).del 0⟩
 have b1:=fP (C:=CB) (show N1≤max N1 (max N2 N3) by omega) _ _ _ a1
 have b2:=fP (C:=CB) (show N2≤max N1 (max N2 N3) by omega) _ _ _ a2
 have b3:=fP (C:=CB) (show N3≤max N1 (max N2 N3) by omega) _ _ _ a3
 simp only[toldParsed]
 rw[show M4=prH from rfl,b1]
 simp only[v2,v3] at b2 ⊢
 rw[show Nat.blt 4 9=true from rfl,aj,show M5=prM from rfl,b2]
 dsimp only
 rw[show G0=qrR from rfl,b3]
 dsimp only
 rw[r1]
def G1 (args:List V)(h:H)(r:V×H): Prop:=∃n,toldParsed CB n args h=some r
structure WR (told:dc): Prop where
 w:W told
 pr:told 173=some (kE Tryz.prog 173 G1)
theorem PI {told:dc}(hT:WR told){kd:Nat}{aQ:List cn}(hg:dY kd aQ=true)(hk:kd<256)(J:xT tx pv nx data aQ)(s:Sat h (X::S))(hX:cQ X (cW v (dy kd tx pv nx data aQ))):
  Call ⟨Tryz.prog,told⟩ 173 [v] h fun r h'=>∃dt ch cs,r=.bf [.agg (ie kd tx pv nx dt ch),.bool true]∧Sat h' (X::aV dt data::.arr 4 ch cs::dh cs aQ::S):=by
 obtain⟨n,r,e,hP⟩:=M6 hg hk J s hX
 obtain⟨r',h1,m,h2⟩:=vg (P:=Tryz.prog) (f:=173) (jt:=G1) (args:=[v]) (r:=r) ⟨n,e⟩ (fun c w J hw=>GF (C:=CB) rfl iD fQ e J hw)
 have e1:=vn (show n≤max n m by omega) e
 have I:=vn (show m≤max n m by omega) h2
 rw[e1] at I
 injection I with I
 subst I
 exact⟨r.1,r.2,h_.told hT.pr IL rfl h1,hP⟩
end
structure DK (δ rE:Dk): Prop where
 dead:rE.dead=δ.dead
 aS:rE.aS=δ.aS
 aq:rE.aq=δ.aq
 now:rE.now=δ.now
theorem DK.refl (δ:Dk): DK δ δ:=⟨rfl,rfl,rfl,rfl⟩
theorem DK.at (h:DK δ rE)(n:Int): rE.at n=δ.at n:=by rw[Dk.at,Dk.at,h.now,h.aq]
structure DA (N:Nat)(δ:Dk): Prop where
 alive:δ.dead=false
 aS:δ.aS<0
 aq:δ.aq.length=N
 keys:∀k:Int,k∈δ.now.map (·.1)→0≤k∧k<N
 nodup:(δ.now.map (·.1)).Nodup
 good:∀n:Int,0≤n→n<N→gU (δ.at n)=0
theorem DA.of (h:DA N δ)(k:DK δ rE): DA N rE :=
 ⟨k.dead.trans h.alive,by rw[k.aS];exact h.aS,by rw[k.aq];exact h.aq,by rw[k.now];exact h.keys,by rw[k.now];exact h.nodup,fun n a b=>by rw[k.at];exact h.good n a b⟩
theorem iT (h:δ.aS<0): δ.cY=δ:=by
 have:(if 0<δ.aS then δ.aS-1 else δ.aS)=δ.aS:=ak (by omega)
 rw[Dk.cY,this]
theorem SP (h:DA N δ): δ.cq=(0,{ δ with bh:=δ.log.length }):=by
 rw[Dk.cq,ak (by rw[h.alive];decide),ak (by have:=h.aS;omega),iT h.aS]
theorem F7 {n:Nat}(h:DA N x.2): (aI x n).1=0∧DK x.2 (aI x n).2.2:=by
 unfold aI
 split
 ·exact⟨rfl,DK.refl _⟩
 ·rw[SP h,ak (by simp)]
  exact⟨rfl,rfl,rfl,rfl,rfl⟩
theorem SQ (h:DA N δ)(h0:0≤n)(h1:n<N)(hb:b.length=512)(hc:gU b=0):
  (δ.bw n b).1=0∧DA N (δ.bw n b).2∧∀m,(δ.bw n b).2.at m=if n=m then b else δ.at m:=by
 have e:δ.bw n b=(0,δ.wr n b):=by
  rw[Dk.bw,ak (by rw[h.alive];decide),ak (not_not_intro ⟨h0,by rw[h.aq];exact h1,hb⟩),ak (by have:=h.aS;omega)]
 have sF:(δ.wr n b).now=cG n b δ.now:=rfl
 have mh:(δ.wr n b).aq=δ.aq:=rfl
 have I:∀m,(δ.wr n b).at m=if n=m then b else δ.at m:=fun m=>by
  grind[Dk.at,gD]
 have J:(δ.wr n b).aS=δ.aS:=by
  show δ.cY.aS=δ.aS
  rw[iT h.aS]
 rw[e]
 refine⟨rfl,⟨h.alive,by rw[J];exact h.aS,h.aq,fun x hx => ?_,?_,fun m a c => ?_⟩,I⟩
 ·rcases o_.1 hx with rfl|hx
  ·omega
  ·exact h.keys x hx
 ·exact jd h.nodup
 ·rw[I]
  by_cases hm:n=m
  ·grind
  ·rw[ak hm];exact h.good m a c
theorem laidP_get : ∀ {l:List (Int×List Nat)} {m:List (Option (List Nat))} {n:Int} {N:Nat},m.length=N→(l.map (·.1)).Nodup→(∀k:Int,k∈l.map (·.1)→0≤k∧k<N)→0≤n→(laidP l m)[n.toNat]?=match lookL n l with
  |some b=>some (some b)
  |none=>m[n.toNat]?:=by
 intro l
 induction l with
 |nil=>intro m n N _ _ _ _;rfl
 |cons e l ih =>
  intro m n N hm hd J hn
  have I:e.1∉l.map (·.1)∧(l.map (·.1)).Nodup:=List.nodup_cons.1 hd
  have h1:=J e.1 (by simp)
  rw[laidP,ih (N:=N) (by grind) I.2 (fun x hx=>J x (by grind)) hn]
  grind[lookL,f_]
theorem V_ (h:DA N δ): δ.dO.1=0∧DA N δ.dO.2∧∀m,0≤m→δ.dO.2.at m=δ.at m:=by
 have e:δ.dO=(0,δ.sync):=by rw[Dk.dO,ak (by rw[h.alive];decide),ak (by have:=h.aS;omega),iT h.aS]
 have I:∀m,0≤m→δ.sync.at m=δ.at m:=fun m hm=>by
  rw[Dk.at,Dk.at]
  have e1:lookL m δ.sync.now=none:=rfl
  rw[show δ.sync.aq=laidP δ.now δ.aq from rfl,laidP_get h.aq h.nodup h.keys hm]
  cases hq:lookL m δ.now with
  |some b=>rfl
  |none=>rfl
 rw[e]
 refine⟨rfl,⟨h.alive,h.aS,by rw[show δ.sync.aq=laidP δ.now δ.aq from rfl,nJ];exact h.aq,fun x J=>(by cases J),kO,fun m a c => ?_⟩,I⟩
 rw[I m a];exact h.good m a c
theorem Kl {m:List Nat}{b:Nat}(J:a+m.length≤l.length)(h2:a+m.length≤b): (bp l a m).drop b=l.drop b:=by
 have I:(l.take a).length=a:=by grind
 rw[bp,←c9,vX,kK (by grind),eB,List.drop_drop,bO,I]
 congr 1;omega
theorem xV {m:List Nat}(h:a+m.length≤l.length): (bp l a m)[i]?=if a≤i∧i<a+m.length then m[i-a]? else l[i]?:=by
 grind[bp]
theorem xW {m:List Nat}{z:Nat}(I:l.drop 12=m.drop 12)(J:12≤a): cO l a z=cO m a z:=by
 have e:∀l:List Nat,(l.take (a+z)).drop a=((l.drop 12).drop (a-12)).take z:=fun l=>by
  simp_all[El]
 rw[cO,cO,e,e,I]
theorem Km {m:List Nat}(I:l.drop 12=m.drop 12){low:Nat}: ∀(n i:Nat) (t:List Bool),cellsL l low n i t=cellsL m low n i t:=by
 intro n
 induction n<;>grind[dU,xW,jF,cellsL]
theorem DJ {m:List Nat}(J:l.length=m.length)(I:l.drop 12=m.drop 12): bW l=bW m:=by
 have e1:lF l=lF m:=xW I (by omega)
 have e2:jz l=jz m:=xW I (by omega)
 have e3:l.getD 13 0=m.getD 13 0:=by
  have:∀l:List Nat,l[13]?=(l.drop 12)[1]?:=fun l=>by simp
  grind
 grind[bW,Km]
theorem sj : ∀(k n:Nat),leN (le k n)=n%256^k:=by
 intro k
 induction k<;>grind[le,leN,Nat.mod_mul]
theorem nL {n:Nat}(J:b.length=512): (cT b n).drop 12=b.drop 12∧(cT b n).length=512∧(cT b n).drop 4=(oE b n).drop 4∧cO (cT b n) 0 4=Dn 0 ((oE b n).drop 4)%4294967296:=by
 have h1:=xI (n:=n) J
 have h2:(cT b n).length=512:=by grind[cT,cJ,cR]
 have I:(cT b n).drop 4=(oE b n).drop 4:=by rfl
 have h4:(oE b n).drop 12=b.drop 12:=by grind[oE,Kl,cR]
 refine⟨?_,h2,I,?_⟩
 ·have:=iO (List.drop 8) I
  grind[List.drop_drop]
 ·have e:(cT b n).take 4=le 4 (Dn 0 ((oE b n).drop 4)):=by
   rfl
  grind[cO,sj]
theorem Wa {n:Nat}(I:∀x∈b,x<256): ∀x∈oE b n,x<256:=zE I (MD _ _)
theorem F8 {n:Nat}(I:bW b=true)(hb:∀x∈b,x<256): gU (cT b n)=0∧bW (cT b n)=true∧Uy (cT b n)=b.drop 12:=by
 have J:=eC I
 obtain⟨h1,h2,h3,h4⟩:=nL (n:=n) J
 have HQ:bW (cT b n)=true:=by grind[DJ]
 have hz:bW (List.replicate 512 0)=false:=by decide +kernel
 grind[Cd,Wa,gU,Uy]
theorem Ck {x y z:List Nat}{b:Nat}(I:x.length=a)(J:a+y.length=b): ((x++(y++z)).take b).drop a=y:=by
 subst I;subst J
 rw[←c9,mU (by simp),eW (by simp),vY rfl]
theorem aav (n:Nat)(b:List Nat): b.length<4294967296→tg n b<4294967296→leN (le 4 b.length)=b.length∧leN (le 4 (tg n b))=tg n b:=by
 intro I J
 rw[sj,sj]
 exact⟨qS (by simpa using I),qS (by simpa using J)⟩
section
variable {told:dc} {v:V}
theorem IQ (hT:WR told){kd n:Nat}{aQ:List cn}{pre bd:List Nat}(hg:dY kd aQ=true)(hk:kd<256)(hr:xT tx pv nx data aQ)(Fk:bd=dy kd tx pv nx data aQ)
 (va:bd.length≤1048576)(ha:pre.length=a)(J:l=pre++(iL n bd++rest))(F4:l.length≤1073741824)(s:Sat h (X::S))(I:cQ X (cW v l)):
  Call ⟨Tryz.prog,told⟩ 133 [v,.int .i64 (a:Int),.int .u64 (n:Int)] h fun r h'=>∃dt ch cs,r=.bf [.agg (ie kd tx pv nx dt ch),.int .i64 ((a+8+bd.length:Nat):Int),.int .i64 0]∧Sat h' (X::aV dt data::.arr 4 ch cs::dh cs aQ::S):=by
 have hv:=s.aH (k:=0) rfl I
 have cE:∀x∈bd,x<256:=fun x hx=>hv.1 x (by rw[J,iL];simp[hx])
 have abx:=HZ (aM:=n) cE
 obtain⟨q1,q2⟩:=aav n bd (by omega) abx
 have hlen:l.length=a+8+bd.length+rest.length:=by rw[J];simp only[bO,pz];omega
 have m1:(l.take (a+4)).drop a=le 4 bd.length:=by
  rw[J,iL,c9,c9]
  exact Ck ha (by rw[cR])
 have m2:(l.take (a+8)).drop (a+4)=le 4 (tg n bd):=by
  rw[J,iL,c9,c9,←c9 pre]
  exact Ck (by rw[bO,cR,ha]) (by rw[cR])
 have m3:(l.take (a+8+bd.length)).drop (a+8)=bd:=by
  rw[J,iL,c9,c9,←c9 pre,←c9 (pre++_)]
  exact Ck (by rw[bO,bO,cR,cR,ha]) rfl
 have hW:=hT.w
 have hvl:=bj (P:=Tryz.prog) (h:=h) aT hv
 refine Call.of_wp (hW.free _ rfl) Tryz.func133 rfl rfl (zg rfl ?_)
 refine ay.b8 s rfl rfl rfl (bU qW) (fun p6 h s => ?_)
 refine zk 7 rfl (zC rfl aN (by simp) ?_)
 refine zk 3 rfl (zo rfl (aP rfl rfl rfl (bj aT (s.aH (k:=1) rfl I))) (zC rfl gT (by simp;omega) ?_))
 refine zk 8 rfl (zo rfl (aP rfl rfl rfl (bj aT (s.aH (k:=1) rfl I))) (zm rfl (zb rfl (by exact iX (aA (by omega) (by omega))) ?_)))
 refine zC rfl aN (by simp;omega) ?_
 refine zk 8 rfl (zb rfl (by exact bx (aA (by omega) (by omega))) ?_)
 refine zo rfl (bV (p:=some (.int .i64 (a:Int))) (q:=some (.int .i64 ((a:Int)+4))) (m:=none) (p':=some a) (q':=some (a+4)) (m':=none) rfl rfl rfl rfl (by rw[ey (by omega)];rfl) (by rw[ey (by omega)];congr 2<;>omega) rfl (eU (s.aH (k:=1) rfl I) (a:=a) (b:=a+4) (by omega) (by omega)).1) ?_
 refine zc rfl (n4 hW s (k:=1) rfl (lE I (a:=a) (b:=a+4) (by omega) (by omega)) (by rw[m1,cR];decide)) ?_
 rintro r h' ⟨rfl,rfl⟩
 rw[m1,q1]
 refine zk 6 rfl (zC rfl gT (by simp;omega) ?_)
 refine zk 2 rfl (zo rfl (b6 rfl (by exact ja cM bF (aA (by omega) (by omega)))) ?_)
 refine zm rfl (zo rfl (aP rfl rfl rfl (bj aT (s.aH (k:=1) rfl I))) (zm rfl (zb rfl (by exact iX (aA (by omega) (by omega))) ?_)))
 refine zb rfl (by exact iX (aA (by omega) (by omega))) ?_
 refine zC rfl gT (by simp;omega) ?_
 refine zk 7 rfl (zb rfl (by exact bx (aA (by omega) (by omega))) ?_)
 refine zm rfl (zo rfl (b6 rfl (by exact ja cM bF (aA (by omega) (by omega)))) ?_)
 refine zb rfl (by exact bx (aA (by omega) (by omega))) ?_
 refine zk 6 rfl (zb rfl (by exact bx (aA (by omega) (by omega))) ?_)
 refine zm rfl (zo rfl (bV (p:=some (.int .i64 ((a:Int)+8))) (q:=some (.int .i64 ((a:Int)+8+(bd.length:Int)))) (m:=none) (p':=some (a+8)) (q':=some (a+8+bd.length)) (m':=none) rfl rfl rfl rfl (by rw[ey (by omega)];congr 2<;>omega) (by rw[ey (by omega)];congr 2<;>omega) rfl (eU (s.aH (k:=1) rfl I) (a:=a+8) (b:=a+8+bd.length) (by omega) (by omega)).1) ?_)
 refine zk 7 rfl (zb rfl (by exact bx (aA (by omega) (by omega))) ?_)
 refine zm rfl (zb rfl (by exact bx (aA (by omega) (by omega))) ?_)
 refine zo rfl (bV (p:=some (.int .i64 ((a:Int)+4))) (q:=some (.int .i64 ((a:Int)+8))) (m:=none) (p':=some (a+4)) (q':=some (a+8)) (m':=none) rfl rfl rfl rfl (by rw[ey (by omega)];congr 2<;>omega) (by rw[ey (by omega)];congr 2<;>omega) rfl (eU (s.aH (k:=1) rfl I) (a:=a+4) (b:=a+8) (by omega) (by omega)).1) ?_
 refine zc rfl (n4 hW s (k:=1) rfl (lE I (a:=a+4) (b:=a+8) (by omega) (by omega)) (by rw[m2,cR];decide)) ?_
 rintro r h' ⟨rfl,rfl⟩
 rw[m2,q2]
 refine zo rfl (b6 rfl (by exact ja cM Tryz.underlying231 (Vv (by omega) (by omega)))) ?_
 refine zk 2 rfl (zc rfl (FX hW s (k:=1) rfl (lE I (a:=a+8) (b:=a+8+bd.length) (by omega) (by omega)) (by rw[m3];omega)) ?_)
 rintro r h ⟨rfl,s⟩
 rw[m3]
 refine zC rfl aD (by simp) ?_
 refine zk 6 rfl ?_
 have hX':cQ X (cW (slR v (a+8) (a+8+bd.length)) (dy kd tx pv nx data aQ)):=by
  have:=lE I (a:=a+8) (b:=a+8+bd.length) (by omega) (by omega)
  rw[m3] at this
  rw[←Fk]
  exact this
 refine zc rfl (PI hT hg hk hr (s.ae [1]) hX') ?_
 rintro r h ⟨dt,ch,cs,rfl,s⟩
 have jB:=(s.buf (k:=1) rfl).view.cells
 have iI:=s.iY (j:=2) rfl
 have dZ:[V.int .i64 (kd:Int),V.int .u64 (tx:Int),V.int .u64 (pv:Int),V.int .u64 (nx:Int),dt,ch].all storable=true:=mQ jB.2 iI.2.1
 refine zk 3 rfl (zS rfl (s.ep (j:=4) rfl g8 rfl dZ) ?_)
 rintro h s
 refine zk 6 rfl (zh rfl (dQ rfl rfl) (rfl) (zk 5 rfl (zl rfl (s.bZ (k:=4) rfl nG g8) (zm rfl (zS rfl (s.ep (j:=4) rfl g8 rfl dZ) ?_)))))
 rintro h s
 refine zk 3 rfl ?_
 refine WP.ret ⟨aa,_,xR rfl (s.bZ (k:=4) rfl nG g8) rfl rfl,?_⟩
 exact⟨dt,ch,cs,rfl,s.del 4⟩
end
section
variable {told:dc} {v:V} {p:Nat}
theorem PJ (hT:WR told){kd n:Nat}{aQ:List cn}{pre bd:List Nat}(hg:dY kd aQ=true)(hk:kd<256)(hr:xT tx pv nx data aQ)(Fk:bd=dy kd tx pv nx data aQ)
 (va:bd.length≤1048576)(ha:pre.length=a)(hl:μ.b=pre++(iL n bd++rest))(hn:n=μ.base+a)(hh:μ.hasB n=true)(I:μ.Ok)(s:Sat h (bS q p μ::S)):
  Call ⟨Tryz.prog,told⟩ 84 [.ptr q 0,.int .u64 (n:Int)] h fun r h'=>∃dt ch cs,r=.bf [.agg (ie kd tx pv nx dt ch),.int .u64 ((n+8+bd.length:Nat):Int),.int .i64 0]∧Sat h' (bS q p μ::aV dt data::.arr 4 ch cs::dh cs aQ::S):=by
 have hW:=hT.w
 have hlen:μ.b.length=a+8+bd.length+rest.length:=by rw[hl];simp only[bO,pz];omega
 have fU:=I.size
 have hb:=I.len
 refine Call.of_wp (hW.free _ rfl) Is rfl rfl (zg rfl ?_)
 refine ay.b8 s rfl rfl rfl (bU qW) (fun p4 h s => ?_)
 dsimp only[V.cells,List.length_cons,List.length_nil,Nat.reduceAdd] at s
 refine zk 4 rfl (WP.block (zK 4 rfl ?_))
 have s:=s.ae [1]
 dsimp only[bringA,getA,aL] at s
 refine zc rfl (Bh hW s I.size) ?_
 rintro v h' ⟨rfl,rfl⟩
 refine zC rfl dG (by simp;omega) ?_
 refine zk 7 rfl (zc rfl (K8 (n:=n) hW s I (by omega)) ?_)
 rintro v h' ⟨rfl,rfl⟩
 rw[hh]
 refine zo rfl (dQ rfl rfl) (za rfl (zv (zj rfl (WP.skip (zw ?_)))))
 obtain⟨bv,sv,s⟩:=ga.1 s
 have s0:=s
 have BB:=dg (s.buf (k:=1) rfl).view
 have J:((n:Int)-(μ.base:Int))=(a:Int):=by omega
 refine WP.drawn [af,af,af,af,af,af,af,af,af,af,af,af,af,af,af,some (1,2),some (1,2),af,af,af] rfl (by kernel_rfl) (by kernel_rfl) ?_
 refine zM rfl (zN rfl (zF rfl (fc _ _) (zL rfl (s.ld (k:=0) rfl bP rfl) (zM rfl (zM rfl (zN rfl (zF rfl (l9 _ _) (zL rfl (s.ld (k:=0) rfl l8 rfl) (zO rfl (az (r:=.int .u64 (a:Int)) rfl rfl (by rw[←J];exact iX (fK (by omega) (by omega)))) ?_)))))))))
 refine ax.op rfl rfl rfl (by simp only[isEff,bF]) (b6 rfl (by exact ja cM bF (aA (by omega) (by omega)))) ?_
 refine zM rfl (ax.any rfl rfl rfl rfl (OpR.call rfl rfl rfl rfl (IQ (n:=n) (a:=a) hT hg hk hr Fk va ha hl (by omega) (s.ae [1]) (bu _ _))) ?_)
 rintro r h ⟨dt,ch,cs,rfl,s⟩
 have jB:=(s.buf (k:=1) rfl).view.cells
 have iI:=s.iY (j:=2) rfl
 have FH:=dg (s.buf (k:=1) rfl).view
 have dZ:[V.int .i64 (kd:Int),V.int .u64 (tx:Int),V.int .u64 (pv:Int),V.int .u64 (nx:Int),dt,ch].all storable=true:=mQ jB.2 iI.2.1
 have s1:=s
 refine zM rfl (zO rfl (cK rfl rfl) (zO rfl (cK rfl rfl) (zO rfl (cK rfl rfl) (ax.iB rfl rfl rfl (OpR.eu rfl rfl rfl (s.ep (j:=6) rfl g8 rfl dZ)) ?_))))
 rintro v h ⟨rfl,s⟩
 refine zA rfl (zA rfl ?_)
 refine ax.nil ⟨⟨aa,aa,aa,aa,aa,aa,aa,aa,aa,aa,aa,aa,aa,aa,aa,fun _ _=>.inr ⟨rfl,⟨_,cK rfl rfl⟩,bn _ rfl⟩,fun _ _=>.inr ⟨rfl,⟨_,cK rfl rfl⟩,bn _ rfl⟩,aa,aa,aa,aa⟩,?_⟩
 refine zK 4 rfl (zC rfl aD (rfl) (zk 4 rfl ?_))
 have IE:(V.agg [V.int .i64 (kd:Int),V.int .u64 (tx:Int),V.int .u64 (pv:Int),V.int .u64 (nx:Int),dt,ch]).beq (V.agg [V.int .i64 (kd:Int),V.int .u64 (tx:Int),V.int .u64 (pv:Int),V.int .u64 (nx:Int),dt,ch])=true:=Bk FH iI.2.2
 have s0:=s
 refine WP.drawn [none,some (0,2),some (0,2),some (0,2),some (0,2),some (0,2),some (0,2),some (0,2),af,af,af] rfl (by kernel_rfl) (by kernel_rfl) ?_
 refine zL rfl (s.bZ (k:=6) rfl nG g8) (zM rfl (zN rfl (zF rfl (l9 _ _) (zL rfl (s.ld (k:=4) rfl l8 rfl) (zM rfl (ax.op rfl rfl rfl (by simp only[isEff,cM]) (b6 rfl (by exact ja bF cM (fK (by omega) (by omega)))) ?_))))))
 refine zO rfl (az rfl rfl (by exact bx (fK (by omega) (by omega)))) ?_
 refine ax.iB rfl rfl rfl (OpR.eu rfl rfl rfl (s.ep (j:=6) rfl g8 rfl dZ)) ?_
 rintro v h ⟨rfl,s⟩
 dsimp only[zV,aL,bringA,ie,setA] at s
 refine zA rfl (zA rfl ?_)
 refine ax.nil ⟨⟨aa,fun _ _=>.inr ⟨rfl,⟨_,bD rfl⟩,bn _ rfl⟩,fun _ _=>.inr ⟨rfl,⟨_,oU rfl⟩,bn _ rfl⟩,fun _ _=>.inr ⟨rfl,⟨_,jS rfl (l9 _ _)⟩,bn _ rfl⟩,dw (.inr ⟨rfl,⟨_,aW rfl (s0.ld (k:=4) rfl l8 rfl)⟩,bn _ rfl⟩) (.inr ⟨rfl,⟨_,aW rfl (s.ld (k:=4) rfl l8 rfl)⟩,bn _ rfl⟩),fun _ _=>.inr ⟨rfl,⟨_,bD rfl⟩,bn _ rfl⟩,fun _ _=>.inr ⟨rfl,⟨_,b6 rfl (by exact ja bF cM (fK (by omega) (by omega)))⟩,bn _ rfl⟩,fun _ _=>.inr ⟨rfl,⟨_,az rfl rfl (by exact bx (fK (by omega) (by omega)))⟩,bn _ rfl⟩,aa,aa,aa,aa⟩,?_⟩
 refine WP.ret ⟨aa,_,xR rfl (s.bZ (k:=6) rfl nG g8) rfl rfl,?_⟩
 refine⟨dt,ch,cs,?_,ga.2 ⟨bv,sv,(s.ae [4,0,3,0,0,0]).del 6⟩⟩
 rw[show((μ.base:Int)+((a+8+bd.length:Nat):Int))=((n+8+bd.length:Nat):Int) by omega]
 rfl
end
def pgA (ε:aZ)(n:Int): List Nat:=match lookL n ε.1.aG with
 |some i=>match ε.1.ai[i.toNat]? with
  |some f=>f.b
  |none=>ε.2.2.at n
 |none=>ε.2.2.at n
structure SR (N:Nat)(δ:Dk)(aG:List (Int×Int))(i:Nat)(f:Fm): Prop where
 lt:f.aK<N
 here:lookL f.aK aG=some (i:Int)
 aB:gU f.b=0
 same:f.changed=false→f.b=δ.at f.aK
 kf:f.changed=true→bW f.b=true
structure EC (N:Nat)(ε:aZ): Prop where
 dk:DA N ε.2.2
 nodup:(ε.1.aG.map (·.1)).Nodup
 jU:∀(n i:Int),lookL n ε.1.aG=some i→0≤n∧∃(j:Nat) (f:Fm),i=j∧ε.1.ai[j]?=some f∧f.aK=n
 back:∀(i:Nat) (f:Fm),ε.1.ai[i]?=some f→f.aK<0∨SR N ε.2.2 ε.1.aG i f
 uE:∀k:Int,k∈ε.1.bq.map (·.1)→0≤k∧k<N
 Ac:(ε.1.bq.map (·.1)).Nodup
theorem pF (h:lookL n ε.1.aG=some (j:Int))(I:ε.1.ai[j]?=some f): pgA ε n=f.b:=by
 grind[pgA]
theorem nM (h:lookL n ε.1.aG=none): pgA ε n=ε.2.2.at n:=by simp only[pgA,h]
theorem EC.cases (h:EC N ε)(n:Int): (∃(j:Nat) (f:Fm),lookL n ε.1.aG=some (j:Int)∧ε.1.ai[j]?=some f∧f.aK=n∧0≤n∧SR N ε.2.2 ε.1.aG j f∧pgA ε n=f.b)∨(lookL n ε.1.aG=none∧pgA ε n=ε.2.2.at n):=by
 cases J:lookL n ε.1.aG with
 |none=>grind[nM]
 |some i =>
  obtain⟨h0,j,f,rfl,I,hp⟩:=h.jU n i J
  refine .inl ⟨j,f,rfl,I,hp,h0,?_,pF J I⟩
  rcases h.back j f I with h1|h1
  ·omega
  ·exact h1
theorem qi {m:List Fm}{g x:Fm}(I:m[i]?=some f)(J:(m.set i g)[j]?=some x): (i=j∧x=g)∨(i≠j∧m[j]?=some x):=by
 grind
theorem EC.set {g:Fm}{y:Lg}(h:EC N ε)(hf:ε.1.ai[i]?=some f)(hp:g.aK=f.aK)(ob:DA N δ)
 (hg:g.aK<0∨SR N δ ε.1.aG i g)(ho:∀(j:Nat) (x:Fm),i≠j→ε.1.ai[j]?=some x→0≤x.aK→δ.at x.aK=ε.2.2.at x.aK)(hd:∀k:Int,k∈d.map (·.1)→0≤k∧k<N)(IS:(d.map (·.1)).Nodup):
  EC N ({ ε.1 with ai:=ε.1.ai.set i g,bq:=d },(y,δ)):=by
 refine⟨ob,h.nodup,fun n k hk => ?_,fun j x J => ?_,hd,IS⟩
 ·obtain⟨h0,j,x,rfl,J,IT⟩:=h.jU n k hk<;>grind
 ·rcases qi hf J with⟨rfl,rfl⟩|⟨sH,J⟩
  ·exact hg
  ·rcases h.back j x J with I|I
   ·omega
   ·by_cases h2:x.aK<0
    ·omega
    ·refine .inr ⟨I.lt,I.here,I.aB,fun hc => ?_,I.kf⟩
     rw[ho j x sH J (by omega)];exact I.same hc
theorem Ll {g:Fm}(I:ε.1.ai[i]?=some f)(J:g.b=f.b)(hx:lookL n ε.1.aG=none→x.2.at n=ε.2.2.at n)(hy:∀j:Int,lookL n ε.1.aG=some j→∃f',ε.1.ai[j.toNat]?=some f'):
  pgA ({ ε.1 with ai:=ε.1.ai.set i g,bq:=d },x) n=pgA ε n:=by
 unfold pgA
 grind
theorem EC.there (h:EC N ε): ∀j:Int,lookL n ε.1.aG=some j→∃f',ε.1.ai[j.toNat]?=some f':=fun j I=>by
 obtain⟨_,k,f,rfl,J,_⟩:=h.jU n j I<;>grind
theorem EC.out (h:EC N ε)(I:ε.1.ai[i]?=some f):
  (outF ε i).1=0∧EC N (outF ε i).2∧(∀n,pgA (outF ε i).2 n=pgA ε n)∧(outF ε i).2.1.aG=ε.1.aG∧∃g,(outF ε i).2.1.ai[i]?=some g∧g.aK=f.aK∧(0≤g.aK→g.changed=false):=by
 have hi:=(List.getElem?_eq_some_iff.1 I).1
 unfold outF
 rw[I]
 simp only
 by_cases hc:f.aK<0∨f.changed=false
 ·grind
 ·rw[ak hc]
  have J:0≤f.aK:=by omega
  have wo:f.changed=true:=by grind
  have ho:=(h.back i f I).resolve_left (by omega)
  have hg:=ho.kf wo
  rw[ak (by grind)]
  obtain⟨e1,k1⟩:=F7 (x:=ε.2) (n:=cO f.b 4 8) h.dk
  rw[ak (by omega)]
  obtain⟨e2,k2,k3⟩:=SQ (h.dk.of k1) J ho.lt (eC hg) ho.aB
  rw[ak (by omega)]
  have BS:∀m,f.aK≠m→((aI ε.2 (cO f.b 4 8)).2.2.bw f.aK f.b).2.at m=ε.2.2.at m:=fun m hm=>by rw[k3,ak hm,k1.at]
  refine⟨rfl,h.set I rfl k2 (.inr ⟨ho.lt,ho.here,ho.aB,fun _ => ?_,fun hq=>(by cases hq)⟩) (fun j x sH hx h0=>BS _ fun IU => ?_) (fun k hk => ?_) (jd h.Ac),fun n => ?_,rfl,_,iM hi,rfl,fun _=>rfl⟩
  ·grind
  ·rcases h.back j x hx with h1|h1
   ·omega
   ·have:=h1.here
    rw[←IU,ho.here] at this
    grind
  ·rcases o_.1 hk with rfl|hk
   ·exact⟨J,ho.lt⟩
   ·exact h.uE k hk
  ·exact Ll I (by rfl) (fun hn=>BS n fun e=>by rw[←e,ho.here] at hn;cases hn) h.there
theorem fT.back (I:fT π bN){x:Fm}(J:bN.ai[i]?=some x): ∃f t,π.ai[i]?=some f∧x={ f with gh:=t }:=by
 have hi:=(List.getElem?_eq_some_iff.1 J).1
 rw[I.len] at hi
 have hf:π.ai[i]?=some (π.ai[i]'hi):=bA _
 obtain⟨t,ht⟩:=I.get i _ hf<;>grind
theorem EC.rD (h:EC N ε)(I:fT ε.1 bN): EC N (bN,ε.2)∧∀n,pgA (bN,ε.2) n=pgA ε n:=by
 refine⟨⟨h.dk,by rw[I.aG];exact h.nodup,fun n i hi => ?_,fun i x hx => ?_,by rw[I.bq];exact h.uE,by rw[I.bq];exact h.Ac⟩,fun n => ?_⟩
 ·rw[I.aG] at hi
  obtain⟨h0,j,f,rfl,hf,hp⟩:=h.jU n i hi
  obtain⟨t,ht⟩:=I.get j f hf
  exact⟨h0,j,_,rfl,ht,hp⟩
 ·obtain⟨f,t,hf,rfl⟩:=I.back hx
  rcases h.back i f hf with J|J
  ·grind
  ·exact .inr ⟨J.lt,by rw[I.aG];exact J.here,J.aB,J.same,J.kf⟩
 ·unfold pgA
  simp only[I.aG]
  cases hl:lookL n ε.1.aG with
  |none=>rfl
  |some i =>
   obtain⟨h0,j,f,rfl,hf,hp⟩:=h.jU n i hl
   obtain⟨t,ht⟩:=I.get j f hf<;>grind
theorem EC.dN {g:Fm}(h:EC N ε)(hg:ε.1.ai[i]?=some g)(hp:g.aK=f.aK)(hc:0≤g.aK→g.changed=false): EC N (dN ε.1 i f,ε.2)∧(∀n,pgA (dN ε.1 i f,ε.2) n=pgA ε n) ∧
  (dN ε.1 i f).ai[i]?=some fq∧∀n,lookL n ε.1.aG=none→lookL n (dN ε.1 i f).aG=none:=by
 have hi:=(List.getElem?_eq_some_iff.1 hg).1
 have J:(ε.1.ai.set i fq)[i]?=some fq:=iM hi
 have PK:∀n,lookL n (Am.dN ε.1 i f).aG=if 0≤f.aK∧f.aK=n then none else lookL n ε.1.aG:=fun n=>by
  rw[Am.dN]
  by_cases I:f.aK<0
  ·grind
  ·rw[ak I,FN h.nodup]
   simp_all
 refine⟨⟨h.dk,?_,fun n k hk => ?_,fun j x hx => ?_,h.uE,h.Ac⟩,fun n => ?_,J,fun n hn => ?_⟩
 ·rw[Am.dN]
  by_cases I:f.aK<0
  ·rw[aJ I];exact h.nodup
  ·rw[ak I];exact xD h.nodup
 ·rw[PK] at hk
  split at hk
  ·cases hk
  ·obtain⟨I,j,x,rfl,hx,IT⟩:=h.jU n k hk
   refine⟨I,j,x,rfl,?_,IT⟩
   show(ε.1.ai.set i fq)[j]?=some x
   grind
 ·rcases qi hg hx with⟨rfl,rfl⟩|⟨sH,hx⟩
  ·exact .inl (by decide)
  ·rcases h.back j x hx with h1|h1
   ·omega
   ·by_cases hx0:x.aK<0
    ·omega
    refine .inr ⟨h1.lt,?_,h1.aB,h1.same,h1.kf⟩
    rw[PK,ak]
    ·exact h1.here
    ·rintro⟨I,IU⟩
     rcases h.back i g hg with h2|h2
     ·omega
     ·have e:=h2.here
      rw[hp,IU,h1.here] at e
      grind
 ·rcases h.cases n with⟨j,x,hl,hx,IT,I,ho,e⟩|⟨hl,e⟩
  ·rw[e]
   by_cases IU:f.aK=n
   ·have sH:i=j:=by
     rcases h.back i g hg with h2|h2
     ·omega
     ·have e:=h2.here
      grind
    subst sH
    rw[hg] at hx
    have:=cx hx
    subst this
    rw[nM (by grind)]
    rw[ho.same (hc (by omega)),hp,IU]
   ·refine pF (j:=j) (by grind) ?_
    show(ε.1.ai.set i fq)[j]?=some x
    grind
  grind[nM]
 ·grind
theorem EC.jM {e:Fm}(h:EC N ε)(he:ε.1.ai[i]?=some e)(hp:e.aK<0)(hl:lookL n ε.1.aG=none)(h0:0≤n)(h1:n<N): EC N (jM ε.1 i n (ε.2.2.at n),ε.2)∧∀m,pgA (jM ε.1 i n (ε.2.2.at n),ε.2) m=pgA ε m:=by
 have hi:=(List.getElem?_eq_some_iff.1 he).1
 have I:(ε.1.ai.set i ⟨n,ε.2.2.at n,1,true,false⟩)[i]?=some ⟨n,ε.2.2.at n,1,true,false⟩:=iM hi
 have PK:∀m,lookL m (Am.jM ε.1 i n (ε.2.2.at n)).aG=if n=m then some (i:Int) else lookL m ε.1.aG:=fun m=>gD _
 refine⟨⟨h.dk,jd h.nodup,fun m k hk => ?_,fun j x hx => ?_,h.uE,h.Ac⟩,fun m => ?_⟩
 ·rw[PK] at hk
  split at hk
  ·rename_i J
   have:=cx hk
   subst this
   subst J
   exact⟨h0,i,_,rfl,I,rfl⟩
  ·obtain⟨h0,j,x,rfl,hx,IT⟩:=h.jU m k hk
   refine⟨h0,j,x,rfl,?_,IT⟩
   show(ε.1.ai.set i _)[j]?=some x
   grind
 ·rcases qi he hx with⟨rfl,rfl⟩|⟨sH,hx⟩
  ·exact .inr ⟨h1,by grind,h.dk.good n h0 h1,fun _=>rfl,fun hq=>(by cases hq)⟩
  ·rcases h.back j x hx with h2|h2
   ·omega
   ·refine .inr ⟨h2.lt,?_,h2.aB,h2.same,h2.kf⟩
    rw[PK,ak]
    ·exact h2.here
    ·rintro rfl
     rw[h2.here] at hl;cases hl
 ·by_cases J:n=m
  ·subst J
   rw[pF (j:=i) (by grind) I,nM hl]
  ·rcases h.cases m with⟨j,x,js,hx,IT,_,ho,e2⟩|⟨js,e2⟩
   ·rw[e2]
    refine pF (j:=j) (by grind) ?_
    show(ε.1.ai.set i _)[j]?=some x
    grind
   grind[nM]
theorem EC.frame {g:Fm}(h:EC N ε)(hf:ε.1.ai[i]?=some f)(J:g.aK=f.aK)(hb:g.b=f.b)(hc:g.changed=f.changed): EC N ({ ε.1 with ai:=ε.1.ai.set i g },ε.2)∧∀n,pgA ({ ε.1 with ai:=ε.1.ai.set i g },ε.2) n=pgA ε n:=by
 refine⟨h.set (y:=ε.2.1) (δ:=ε.2.2) hf J h.dk ?_ (fun _ _ _ _ _=>rfl) h.uE h.Ac,fun n=>Ll hf hb (fun _=>rfl) h.there⟩
 rcases h.back i f hf with I|I
 ·omega
 ·exact .inr ⟨by rw[J];exact I.lt,by rw[J];exact I.here,by rw[hb];exact I.aB,by rw[J,hb,hc];exact I.same,by rw[hb,hc];exact I.kf⟩
theorem fC.ec (hr:fC ε n e b ah)(h:EC N ε): EC N ah∧(∀m,pgA ah m=pgA ε m)∧(0≤n→n<N→e=0∧b=pgA ε n)∧(¬(0≤n∧n<N)→e=1∧ah=ε):=by
 have mh:=h.dk.aq
 cases hr with
 |arg I=>grind
 |z6 i f h1 J hl hf =>
  obtain⟨k1,k2⟩:=h.frame (g:={ f with gh:=true,pins:=f.pins+1 }) hf rfl rfl rfl<;>grind[pF]
 |out bN i f h1 J hl I hf hh he=>exact absurd ((h.rD I).1.out hf).1 he
 |read bN i f h1 J hl I hf hh he hr =>
  obtain⟨k1,k2,k3,k4,g,k5,k6,k7⟩:=(h.rD I).1.out hf
  refine absurd ?_ hr
  rw[mh] at J
  rw[Dk.lQ,ak (by rw[k2.dk.alive];decide),ak (by rw[k2.dk.aq];exact not_not_intro ⟨h1,J⟩)]
 |bad bN i f h1 J hl I hf hh he hr hc =>
  obtain⟨k1,k2,k3,k4,g,k5,k6,k7⟩:=(h.rD I).1.out hf
  rw[mh] at J
  exact absurd (k2.dk.good n h1 J) hc
 |load bN i f h1 J hl I hf hh he hr hc =>
  obtain⟨n1,n2⟩:=h.rD I
  obtain⟨k1,k2,k3,k4,g,k5,k6,k7⟩:=n1.out hf
  rw[mh] at J
  obtain⟨f1,f2,f3,f4⟩:=k2.dN k5 k6 k7
  have js:lookL n (outF (bN,ε.2) i).2.1.aG=none:=by rw[k4];rw[I.aG];exact hl
  obtain⟨l1,l2⟩:=f1.jM f3 (by decide) (f4 n js) h1 J
  exact⟨l1,fun m=>by grind,fun _ _=>⟨rfl,by grind[nM]⟩,fun I=>absurd ⟨h1,J⟩ I⟩
theorem PL (h:EC N (π,x)): EC N ((unpinF π n).2,x)∧∀m,pgA ((unpinF π n).2,x) m=pgA (π,x) m:=by
 unfold unpinF
 split
 ·grind
 ·split
  ·grind
  ·rename_i i hi f I
   exact h.frame (g:={ f with pins:=f.pins-1 }) I rfl rfl rfl
theorem mq.ec (I:mq ε n e b ah)(h:EC N ε)(hp:∀f∈ε.1.ai,f.pins=0): EC N ah∧(∀m,pgA ah m=pgA ε m)∧(0≤n→n<N→e=0∧b=pgA ε n)∧(¬(0≤n∧n<N)→e=1∧ah=ε):=by
 cases I with
 |dead J=>rw[h.dk.alive] at J;cases J
 |jt e b ah J I he =>
  obtain⟨k1,k2,k3,k4⟩:=I.ec h<;>grind
 |th b ah J I he=>exact absurd (I.Cj hp).1 he
 |read b ah J I he =>
  obtain⟨k1,k2,k3,k4⟩:=I.ec h<;>grind[PL]
theorem GRd.ec (I:GRd ε now false n e b ah)(h:EC N ε)(J:∀f∈ε.1.ai,f.pins=0): EC N ah∧(∀m,pgA ah m=pgA ε m) ∧
  (0≤n→n<N→e=0∧b=(match lookL n now with|some b=>b|none=>pgA ε n))∧(¬(0≤n∧n<N)→e=1):=by
 have mh:=h.dk.aq
 cases I with
 |arg hn=>grind
 |cz _ _ ho=>cases ho
 |own b h1 h2 _ hl=>grind
 |read e b ah h1 h2 _ hl I =>
  obtain⟨k1,k2,k3,k4⟩:=I.ec h J<;>grind
theorem Ad : ∀(N:Nat) (l:List Int),l.Nodup→(∀n∈l,0≤n∧n<N)→l.length≤N:=by
 intro N
 induction N with
 |zero =>
  intro l _ h
  cases l<;>grind[List.mem_cons_self]
 |succ N I =>
  intro l J h
  have h1:=I (l.erase (N:Int)) (J.erase _) fun n hn=>by
   grind
  grind
structure NW (N:Nat)(now:List (Int×List Nat)): Prop where
 good:∀e∈now,bW e.2=true∧∀x∈e.2,x<256
 keys:∀k:Int,k∈now.map (·.1)→0≤k∧k<N
 nodup:(now.map (·.1)).Nodup
theorem NW.nil (N:Nat): NW N []:=⟨fun e h=>(by cases h),fun k h=>(by cases h),kO⟩
theorem DL {a:α}: ∀ {l:List (Int×α)} {e:Int×α},e∈cG n a l→e=(n,a)∨e∈l:=by
 intro l
 induction l<;>grind[cG]
theorem NW.put (h:NW N now)(J:0≤n)(h1:n<N)(hg:bW b=true)(hb:∀x∈b,x<256): NW N (cG n b now):=by
 refine⟨fun e he => ?_,fun k I => ?_,jd h.nodup⟩
 ·rcases DL he with rfl|he
  ·grind
  ·exact h.good e he
 ·rcases o_.1 I with rfl|I
  ·omega
  ·exact h.keys k I
theorem NW.len (h:NW N now): now.length≤N:=by
 have:=Ad N _ h.nodup h.keys
 rwa [jw] at this
theorem NW.look (h:NW N now)(I:lookL n now=some b): bW b=true∧∀x∈b,x<256:=h.good _ (fI I)
theorem nK.ec (I:nK ε now false n b e bR ah)(h:EC N ε)(J:∀f∈ε.1.ai,f.pins=0): EC N ah∧(∀m,pgA ah m=pgA ε m) ∧
  (¬(0≤n∧n<N)→e=1∧bR=now)∧(0≤n→n<N→bW b=false→e=4∧bR=now)∧(0≤n→n<N→bW b=true→e=0∧bR=cG n b now):=by
 cases I with
 |may e c ah I he =>
  obtain⟨k1,k2,k3,k4⟩:=I.ec h J<;>grind
 |bad c ah I hg =>
  obtain⟨k1,k2,k3,k4⟩:=I.ec h J<;>grind
 |done c ah I hg =>
  obtain⟨k1,k2,k3,k4⟩:=I.ec h J<;>grind
theorem ChR.ec {l:List Int}{cs:List cn}(I:ChR now l ε e cs ah): EC N ε→fD ε→(∀n∈l,0≤n∧n<N)→EC N ah∧(∀m,pgA ah m=pgA ε m)∧e=0:=by
 induction I with
 |nil ε=>grind
 |err n l ε e b ah I he =>
  intro h J hl
  obtain⟨k1,k2,k3,k4⟩:=I.ec h J.pins<;>grind
 |part n l ε d_ b ah c e cs lp I hb hd hc kz ht ih =>
  intro h J hl
  obtain⟨k1,k2,k3,k4⟩:=I.ec h J.pins
  obtain⟨i1,i2,i3⟩:=ih k1 (I.jg J) fun m hm=>hl m (b5 _ hm)<;>grind
 |whole n l ε d_ b ah e cs lp I hb hd ht ih =>
  intro h J hl
  obtain⟨k1,k2,k3,k4⟩:=I.ec h J.pins
  obtain⟨i1,i2,i3⟩:=ih k1 (I.jg J) fun m hm=>hl m (b5 _ hm)<;>grind
theorem EC.log (h:EC N ε)(k:DK ε.2.2 x.2): EC N (ε.1,x)∧∀m,pgA (ε.1,x) m=pgA ε m:=by
 refine⟨⟨h.dk.of k,h.nodup,h.jU,fun i f J => ?_,h.uE,h.Ac⟩,fun m => ?_⟩
 ·rcases h.back i f J with I|I
  ·omega
  ·exact .inr ⟨I.lt,I.here,I.aB,fun hc=>by rw[k.at];exact I.same hc,I.kf⟩
 ·unfold pgA
  simp only[k.at]
theorem EC.put (h:EC N ε)(hl:lookL n ε.1.aG=some (i:Int))(I:ε.1.ai[i]?=some f)(hg:bW b=true)(hb:∀x∈b,x<256)(h0:0≤n)(h1:n<N):
  EC N (vG ε.1 n i f b aM,ε.2)∧∀m,pgA (vG ε.1 n i f b aM,ε.2) m=if m=n then cT b aM else pgA ε m:=by
 obtain⟨s1,s2,s3⟩:=F8 (n:=aM) hg hb
 have hi:=(List.getElem?_eq_some_iff.1 I).1
 have hp:f.aK=n:=by
  obtain⟨_,j,x,sH,hx,J⟩:=h.jU n i hl<;>grind
 have ho:=(h.back i f I).resolve_left (by omega)
 refine⟨h.set (y:=ε.2.1) (δ:=ε.2.2) I rfl h.dk (.inr ⟨ho.lt,ho.here,s1,fun hq=>(by cases hq),fun _=>s2⟩) (fun _ _ _ _ _=>rfl) (fun k hk => ?_) (jd h.Ac),fun m => ?_⟩
 ·rcases o_.1 hk with rfl|hk
  ·omega
  ·exact h.uE k hk
 ·by_cases hm:m=n
  ·subst hm
   rw[aJ rfl]
   exact pF (ε:=(vG ε.1 m i f b aM,ε.2)) hl (iM hi)
  ·rcases h.cases m with⟨j,x,js,hx,J,_,_,e2⟩|⟨js,e2⟩<;>grind[pF,vG,nM]
theorem PtR.ec {l:List Int}(I:PtR now aM l ε e ah): EC N ε→fD ε→NW N now→(∀n∈l,0≤n∧n<N)→EC N ah∧e=0 ∧
  ∀m,pgA ah m=if m∈l then(match lookL m now with|some b=>cT b aM|none=>pgA ε m) else pgA ε m:=by
 induction I with
 |nil ε=>grind
 |jt n l ε e b ah I he =>
  intro h J hn hl
  have:=hl n b7
  exact absurd ((I.ec h).2.2.1 this.1 this.2).1 he
 |bad n l ε b0 b ah I hb he =>
  intro h J hn hl
  exact absurd ((I.put (b:=b) (aM:=aM) J).2.2 (hn.look hb).1) he
 |put n l ε b0 b ah e lp I hb he ht ih =>
  intro h J hn hl
  have lZ:=hl n b7
  obtain⟨k1,k2,k3,k4⟩:=I.ec h
  obtain⟨i,f,p1,p2,p3,p4,p5⟩:=I.at J.pins
  have hg:=hn.look hb
  have e1:=tj (aM:=aM) p1 p2 p3 hg.1
  obtain⟨q1,q2⟩:=k1.put (aM:=aM) p1 p2 hg.1 hg.2 lZ.1 lZ.2
  have IV:=(I.put (b:=b) (aM:=aM) J).1
  rw[e1] at ih IV
  obtain⟨i1,i2,i3⟩:=ih q1 IV hn fun m hm=>hl m (b5 _ hm)
  refine⟨i1,i2,fun m => ?_⟩
  rw[i3,q2]
  by_cases hm:m=n
  ·grind
  ·grind
theorem qD : ∀ {l:List Int} {ε:aZ},EC N ε→(∀n∈l,(lookL n ε.1.aG).isSome=true)→(writeAllF l ε).1=0∧EC N (writeAllF l ε).2∧(∀m,pgA (writeAllF l ε).2 m=pgA ε m):=by
 intro l
 induction l with
 |nil=>intro ε h _;exact⟨rfl,h,fun _=>rfl⟩
 |cons n l ih =>
  intro ε h hl
  cases I:lookL n ε.1.aG with
  |none=>grind
  |some i =>
   obtain⟨_,j,f,rfl,J,hp⟩:=h.jU n i I
   obtain⟨k1,k2,k3,k4,_⟩:=h.out J<;>grind[eY,Int.toNat_natCast,writeAllF]
theorem F9 (h:EC N ε): (dJ ε.1 ε.2.2).1=0∧EC N ((dJ ε.1 ε.2.2).2.1,(ε.2.1,(dJ ε.1 ε.2.2).2.2))∧∀m,0≤m→pgA ((dJ ε.1 ε.2.2).2.1,(ε.2.1,(dJ ε.1 ε.2.2).2.2)) m=pgA ε m:=by
 obtain⟨s1,s2,s3⟩:=V_ h.dk
 have e:dJ ε.1 ε.2.2=(0,{ ε.1 with bq:=ε.1.bq.filter fun e=>e.2.2 },ε.2.2.dO.2):=by grind[dJ]
 rw[e]
 have J:∀k,k∈((ε.1.bq.filter fun e=>e.2.2).map (·.1))→k∈ε.1.bq.map (·.1):=fun k hk=>by
  grind
 refine⟨rfl,⟨s2,h.nodup,h.jU,fun i f hf => ?_,fun k hk=>h.uE k (J k hk),(List.filter_sublist.map _).nodup h.Ac⟩,fun m hm => ?_⟩
 ·rcases h.back i f hf with I|I
  ·omega
  ·by_cases h0:f.aK<0
   ·omega
   ·exact .inr ⟨I.lt,I.here,I.aB,fun hc=>by rw[s3 _ (by omega)];exact I.same hc,I.kf⟩
 ·grind[pgA]
theorem PN (h:EC N ε): (eS ε).1=0∧EC N (eS ε).2∧∀m,0≤m→pgA (eS ε).2 m=pgA ε m:=by
 obtain⟨J,w2,w3⟩:=qD (l:=aE ε.1.aG) h fun n hn=>by
  cases hq:lookL n ε.1.aG<;>grind[fu,f_]
 obtain⟨p1,I,p3⟩:=F9 w2
 have e:eS ε=((dJ (writeAllF (aE ε.1.aG) ε).2.1 (writeAllF (aE ε.1.aG) ε).2.2.2).1,((dJ (writeAllF (aE ε.1.aG) ε).2.1 (writeAllF (aE ε.1.aG) ε).2.2.2).2.1,((writeAllF (aE ε.1.aG) ε).2.2.1,(dJ (writeAllF (aE ε.1.aG) ε).2.1 (writeAllF (aE ε.1.aG) ε).2.2.2).2.2))):=by
  rw[eS,ak (by rw[h.dk.alive];decide),ak (by omega)]
 rw[e]
 exact⟨p1,I,fun m hm=>by grind⟩
structure EL (K:Nat)(x:LD): Prop where
 log:x.1.b=x.2.log
 cert:x.1.forced≤x.2.bh
 size:x.1.base+x.1.b.length≤K
theorem EL.force {n:Nat}(h:EL K x): EL K (aI x n).2:=by
 unfold aI Dk.cq
 split
 ·exact h
 ·by_cases J:x.2.dead=true
  ·grind
  ·rw[ak J]
   by_cases I:x.2.aS=0
   ·rw[aJ I,aJ (show(9:Int)≠0 by decide)];exact⟨h.log,h.cert,h.size⟩
   ·rw[ak I,ak (show ¬(0:Int)≠0 by decide)];exact⟨h.log,by rw[h.log];exact aU _,h.size⟩
theorem EL.write (h:EL K x): EL K (x.1,(x.2.bw n b).2):=by
 unfold Dk.bw
 split
 ·exact h
 ·split
  ·exact h
  ·split<;>exact⟨h.log,h.cert,h.size⟩
theorem tP (K:Nat): jV (EL K):=⟨fun _ _ h=>h.force,fun _ _ _ h=>h.write⟩
theorem EL.out (h:EL K ε.2): EL K (outF ε i).2.2:=(tP K).out h
theorem mq.el (I:mq ε n e b ah)(h:EL K ε.2): EL K ah.2:=(tP K).rd I h
theorem GRd.el {cz:Bool}(I:GRd ε now cz n e b ah)(h:EL K ε.2): EL K ah.2:=(tP K).qh I h
theorem nK.el {cz:Bool}(I:nK ε now cz n b e bR ah)(h:EL K ε.2): EL K ah.2:=(tP K).yu I h
theorem ChR.el {l:List Int}{cs:List cn}(I:ChR now l ε e cs ah)(h:EL K ε.2): EL K ah.2:=(tP K).ch I h
theorem PtR.el {l:List Int}(I:PtR now aM l ε e ah)(h:EL K ε.2): EL K ah.2:=(tP K).pt I h
theorem wO : ∀ {l:List Int} {ε:aZ},EL K ε.2→fD ε→EL K (writeAllF l ε).2.2∧fD (writeAllF l ε).2∧bG (writeAllF l ε).2≤bG ε:=by
 intro l
 induction l with
 |nil=>intro ε h I;exact⟨h,I,aU _⟩
 |cons n l J =>
  intro ε h I
  have step:EL K (eY ε n).2.2∧fD (eY ε n).2∧bG (eY ε n).2≤bG ε:=by
   unfold eY
   split
   ·grind
   ·exact⟨h.out,⟨rC I.ok,si I.pins,sg I.full⟩,Iz⟩
  grind[writeAllF]
structure EI (N B:Nat)(ε:aZ): Prop where
 ok:fD ε
 ec:EC N ε
 el:EL (B*1048600) ε.2
 bG:bG ε≤B*65536
theorem EI.more (h:EI N B ε){I:Nat}(J:B≤I): EI N I ε :=
 ⟨h.ok,h.ec,⟨h.el.log,h.el.cert,bT h.el.size (qQ _ J)⟩,bT h.bG (qQ _ J)⟩
theorem EI.rd (h:EI N B ε)(I:mq ε n e b ah): EI N B ah :=
 ⟨I.jg h.ok,(I.ec h.ec h.ok.pins).1,I.el h.el,bT I.bG h.bG⟩
theorem EI.qh (h:EI N B ε)(I:GRd ε now false n e b ah): EI N B ah :=
 ⟨I.jg h.ok,(I.ec h.ec h.ok.pins).1,I.el h.el,bT I.bG h.bG⟩
theorem EI.yu (h:EI N B ε)(I:nK ε now false n b e bR ah): EI N B ah :=
 ⟨I.jg h.ok,(I.ec h.ec h.ok.pins).1,I.el h.el,bT I.bG h.bG⟩
theorem EI.many (h:EI N B ε): N≤65536:=by
 have:=h.ok.ok.dk.many
 rwa [h.ec.dk.aq] at this
theorem EI.aG (h:EI N B ε): (∀n:Int,n∈ε.1.aG.map (·.1)→0≤n∧n<N)∧ε.1.aG.length≤N:=by
 have I:∀n:Int,n∈ε.1.aG.map (·.1)→0≤n∧n<N:=fun n hn=>by
  cases J:lookL n ε.1.aG with
  |none=>grind[f_]
  |some i =>
   obtain⟨h0,j,f,rfl,hf,hp⟩:=h.ec.jU n i J
   have:=(h.ec.back j f hf).resolve_left (by omega)
   exact⟨h0,hp ▸ this.lt⟩
 have:=Ad N _ h.ec.nodup I
 grind
theorem EI.writeAll (h:EI N B ε): (writeAllF (aE ε.1.aG) ε).1=0∧EI N B (writeAllF (aE ε.1.aG) ε).2∧∀m,pgA (writeAllF (aE ε.1.aG) ε).2 m=pgA ε m:=by
 obtain⟨I,w2,J⟩:=qD (l:=aE ε.1.aG) h.ec fun n hn=>by
  cases hq:lookL n ε.1.aG<;>grind[fu,f_]
 obtain⟨k1,k2,k3⟩:=wO (l:=aE ε.1.aG) h.el h.ok
 exact⟨I,⟨k2,w2,k1,bT k3 h.bG⟩,J⟩
theorem EI.sync (h:EI N B ε): (dJ ε.1 ε.2.2).1=0∧EI N B ((dJ ε.1 ε.2.2).2.1,(ε.2.1,(dJ ε.1 ε.2.2).2.2))∧∀m,0≤m→pgA ((dJ ε.1 ε.2.2).2.1,(ε.2.1,(dJ ε.1 ε.2.2).2.2)) m=pgA ε m:=by
 obtain⟨p1,p2,p3⟩:=F9 h.ec
 refine⟨p1,?_,p3⟩
 have e0:ε.2.2.dO=(0,ε.2.2.sync):=by rw[Dk.dO,ak (by rw[h.ec.dk.alive];decide),ak (by have:=h.ec.dk.aS;omega),iT h.ec.dk.aS]
 have e:dJ ε.1 ε.2.2=(0,{ ε.1 with bq:=ε.1.bq.filter fun e=>e.2.2 },ε.2.2.sync):=by grind[dJ]
 rw[e] at p2 ⊢
 have I:=h.ok.ok.dk
 have BS:∀(i:Nat) (b:List Nat),(laidP ε.2.2.now ε.2.2.aq)[i]?=some (some b)→b.length=512:=fun i b J=>by
  have h1:=laidP_get (n:=(i:Int)) h.ec.dk.aq h.ec.dk.nodup h.ec.dk.keys (by omega)
  rw[cS] at h1
  rw[h1] at J
  cases hq:lookL (i:Int) ε.2.2.now with
  |some x=>rw[hq] at J;have:=cx (cx J);subst this;exact I.now _ (fI hq)
  |none=>rw[hq] at J;exact I.aq i b J
 refine⟨⟨⟨⟨h.ok.ok.pl.hand,h.ok.ok.pl.many,h.ok.ok.pl.aG,h.ok.ok.pl.len,h.ok.ok.pl.pins⟩,h.ok.ok.lg,⟨I.aS,I.len,I.room,fun e he=>(by cases he),BS,I.bh,by show(laidP _ _).length≤_;rw[nJ];exact I.many⟩⟩,h.ok.pins,⟨h.ok.full.nodup,h.ok.full.jU⟩⟩,p2,⟨h.el.log,h.el.cert,h.el.size⟩,?_⟩
 have:=h.bG
 simp only[Am.bG] at this ⊢
 have e2:ε.2.2.sync.waiting.length=0:=rfl
 omega
theorem EI.clean (h:EI N B ε): (eS ε).1=0∧EI N B (eS ε).2∧∀m,0≤m→pgA (eS ε).2 m=pgA ε m:=by
 obtain⟨J,w2,w3⟩:=h.writeAll
 obtain⟨p1,I,p3⟩:=w2.sync
 have e:eS ε=((dJ (writeAllF (aE ε.1.aG) ε).2.1 (writeAllF (aE ε.1.aG) ε).2.2.2).1,((dJ (writeAllF (aE ε.1.aG) ε).2.1 (writeAllF (aE ε.1.aG) ε).2.2.2).2.1,((writeAllF (aE ε.1.aG) ε).2.2.1,(dJ (writeAllF (aE ε.1.aG) ε).2.1 (writeAllF (aE ε.1.aG) ε).2.2.2).2.2))):=by
  rw[eS,ak (by rw[h.ec.dk.alive];decide),ak (by omega)]
 rw[e]
 exact⟨p1,I,fun m hm=>by grind⟩
theorem EI.force {n:Nat}(h:EI N B ε): (aI ε.2 n).1=0∧EI N B (ε.1,(aI ε.2 n).2)∧∀m,pgA (ε.1,(aI ε.2 n).2) m=pgA ε m:=by
 obtain⟨f1,f2⟩:=F7 (n:=n) h.ec.dk
 obtain⟨I,J⟩:=h.ec.log f2
 refine⟨f1,⟨⟨⟨h.ok.ok.pl,vF h.ok.ok.lg,oa h.ok.ok.dk⟩,h.ok.pins,h.ok.full⟩,I,h.el.force,?_⟩,J⟩
 have:=h.bG
 grind[Am.bG,me]
theorem EI.app {kd:Int}{c:List cn}(h:EI N B ε)(hB:B≤1000)(hg:dY kd c=true):
  EI N (B+1) (ε.1,(aF ε.2 kd tx pv nx data c).2)∧(∀m,pgA (ε.1,(aF ε.2 kd tx pv nx data c).2) m=pgA ε m) ∧
  (((aF ε.2 kd tx pv nx data c).1.2=0∧aF ε.2 kd tx pv nx data c=((ε.2.1.base+ε.2.1.b.length,0),(ε.2.1.app (cA ε.2.1 kd tx pv nx data c),{ ε.2.2 with log:=ε.2.2.log++cA ε.2.1 kd tx pv nx data c }))) ∨
   (aF ε.2 kd tx pv nx data c).1.2=7∨((aF ε.2 kd tx pv nx data c).1.2=2∧1048576<(dy kd tx pv nx data c).length)):=by
 have hs:=h.el.size
 have J:=vH (kd:=kd) (tx:=tx) (pv:=pv) (nx:=nx) (data:=data) (c:=c) h.ok.ok.lg h.ok.ok.dk h.el.log (by omega)
 have uD:Am.bG (ε.1,(aF ε.2 kd tx pv nx data c).2)≤(B+1)*65536:=by
  have e:Am.bG (ε.1,(aF ε.2 kd tx pv nx data c).2)=Am.bG ε:=by grind[Am.bG]
  rw[e]
  exact bT h.bG (qQ _ (kj B))
 have fU:(aF ε.2 kd tx pv nx data c).2.1.base+(aF ε.2 kd tx pv nx data c).2.1.b.length≤(B+1)*1048600:=by
  omega
 have main:∀(hk:DK ε.2.2 (aF ε.2 kd tx pv nx data c).2.2) (hc:(aF ε.2 kd tx pv nx data c).2.1.forced≤(aF ε.2 kd tx pv nx data c).2.2.bh),EI N (B+1) (ε.1,(aF ε.2 kd tx pv nx data c).2)∧∀m,pgA (ε.1,(aF ε.2 kd tx pv nx data c).2) m=pgA ε m:=fun hk hc=>by
  obtain⟨l1,l2⟩:=h.ec.log hk
  exact⟨⟨⟨⟨h.ok.ok.pl,J.1,J.2.1⟩,h.ok.pins,h.ok.full⟩,l1,⟨J.2.2.1,hc,fU⟩,uD⟩,l2⟩
 rcases ff ε.2 kd tx pv nx data c with⟨e,he,hc,I⟩|⟨hd,hf,I⟩|⟨_,_,hd,fA,hf,I⟩
 ·obtain⟨m1,m2⟩:=main (by rw[I];exact DK.refl _) (by rw[I];exact h.el.cert)
  refine⟨m1,m2,.inr ?_⟩
  rw[I]
  rcases hc with⟨_,hb⟩|⟨rfl,hb⟩|⟨_,hb⟩|⟨rfl,hb⟩
  ·grind
  ·grind
  ·rw[h.ec.dk.alive] at hb;cases hb
  ·simp
 ·have:=h.ec.dk.aS;omega
 ·rw[iT h.ec.dk.aS] at I
  obtain⟨m1,m2⟩:=main (by rw[I];exact⟨rfl,rfl,rfl,rfl⟩) (by rw[I];exact h.el.cert)
  exact⟨m1,m2,.inl ⟨by rw[I],I⟩⟩
theorem EI.done {kd:Int}(h:EI N B ε)(hB:B≤1000)(hn:NW N now)(h1:1≤kd)(h2:kd≤7)(hr:DnR ε now kd tx pv nx data 0 aM e cl ah):
  (cl=false∧(e=7∨e=2)∧EI N (B+2) ah∧∀m,pgA ah m=pgA ε m) ∨
  (cl=true∧e=0∧EI N (B+2) ah∧∀m,pgA ah m=match lookL m now with|some b=>cT b aM|none=>pgA ε m):=by
 have I:∀n∈aE now,0≤n∧n<N:=fun n hq=>hn.keys n (fu.1 hq)
 have hN:=h.many
 have fA:∀ {c:List cn} {ah:aZ} {e:Int},ChR now (aE now) ε e c ah→dY kd c=true:=fun J=>by
  refine xP ⟨h1,by omega⟩ (J.fit (fun x hx=>eC (hn.good x hx).1) fun n hq => ?_)<;>grind
 cases hr with
 |arg hq=>omega
 |dead _ _ _ hd=>rw[h.ec.dk.alive] at hd;cases hd
 |kf e c ah _ _ _ hd J he=>exact absurd (J.ec h.ec h.ok I).2.2 he
 |app c ah _ _ _ hd J he =>
  obtain⟨c1,c2,c3⟩:=J.ec h.ec h.ok I
  have hi:EI N B ah:=⟨J.jg h.ok,c1,J.el h.el,bT J.bG h.bG⟩
  obtain⟨a1,a2,a3⟩:=hi.app (kd:=kd) (tx:=tx) (pv:=pv) (nx:=nx) (data:=data) (c:=c) hB (fA J)
  refine .inl ⟨rfl,?_,a1.more (by omega),fun m=>by grind⟩<;>grind
 |put c ah e lp _ _ _ hd J ha hp =>
  obtain⟨c1,c2,c3⟩:=J.ec h.ec h.ok I
  have hi:EI N B ah:=⟨J.jg h.ok,c1,J.el h.el,bT J.bG h.bG⟩
  obtain⟨a1,a2,a3⟩:=hi.app (kd:=kd) (tx:=tx) (pv:=pv) (nx:=nx) (data:=data) (c:=c) hB (fA J)
  obtain⟨p1,p2,p3⟩:=hp.ec a1.ec a1.ok hn I
  have hl:(aE now).length≤N:=by
   have:=hn.len
   rw[aE,(eF _).length_eq,jw];exact this
  have KS:=hp.bG a1.ok
  have oI:=a1.bG
  refine .inr ⟨rfl,p2,⟨hp.jg a1.ok,p1,?_,by omega⟩,fun m => ?_⟩
  ·have:=hp.el a1.el
   exact⟨this.log,this.cert,bT this.size (qQ _ (by omega))⟩
  ·grind[fu,f_]
theorem Kn (n:Nat): (digits 9 n).length≤10:=vk 9 n
def j4 (π:Pl)(n:Int)(b:List Nat): Prop:=∃(i:Nat) (f:Fm),π.ai[i]?=some f∧f.aK=n∧0≤n∧f.changed=true∧f.b=b
abbrev VP := (Int→List Nat→Prop)→List (Int×(Nat×Bool))→LD→Prop
abbrev vw (P:VP)(ε:aZ): Prop:=P (j4 ε.1) ε.1.bq ε.2
theorem IW (hn:fT π bN): j4 bN=j4 π:=by
 funext n b
 refine propext ⟨fun⟨i,x,hx,I,J,h2,h3⟩ => ?_,fun⟨i,f,hf,I,J,h2,h3⟩ => ?_⟩
 ·obtain⟨f,t,hf,rfl⟩:=hn.back hx
  exact⟨i,f,hf,I,J,h2,h3⟩
 ·obtain⟨t,ht⟩:=hn.get i f hf
  exact⟨i,_,ht,I,J,h2,h3⟩
theorem Bn {g:Fm}(J:π.ai[i]?=some f)(hs:∀n b,(f.aK=n∧0≤n∧f.changed=true∧f.b=b)↔(g.aK=n∧0≤n∧g.changed=true∧g.b=b)){w:List (Int×Int)}{hd:Nat}: j4 ⟨π.ai.set i g,w,d,hd⟩=j4 π:=by
 have hi:=(List.getElem?_eq_some_iff.1 J).1
 funext n b
 refine propext ⟨fun⟨j,x,I,h⟩ => ?_,fun⟨j,x,I,h⟩ => ?_⟩
 ·rcases qi J I with⟨rfl,rfl⟩|⟨_,I⟩
  ·exact⟨i,f,J,(hs n b).2 h⟩
  ·exact⟨j,x,I,h⟩
 ·by_cases hj:i=j
  ·subst hj
   rw[J] at I
   have:=cx I
   subst this
   exact⟨i,g,iM hi,(hs n b).1 h⟩
  ·exact⟨j,x,by grind,h⟩
theorem PO {g:Fm}(J:π.ai[i]?=some g)(hc:0≤g.aK→g.changed=false): j4 (dN π i f)=j4 π :=
 Bn J fun n b=>⟨(fun⟨h1,h0,I,_⟩=>by grind),fun⟨_,_,I,_⟩=>(by cases I)⟩
theorem M8 {e:Fm}(he:π.ai[i]?=some e)(J:e.aK<0): j4 (jM π i n b)=j4 π :=
 Bn he fun m c=>⟨fun⟨h1,h0,_⟩=>by omega,fun⟨_,_,I,_⟩=>(by cases I)⟩
structure mu (N:Nat)(P:VP): Prop where
 one:∀(ε:aZ) (i:Nat) (f:Fm),EC N ε→ε.1.ai[i]?=some f→0≤f.aK→f.changed=true→vw P ε→vw P (outF ε i).2
theorem jV.kI (h:jV R)(N:Nat): mu N (fun _ _ x=>R x):=⟨fun _ _ _ _ _ _ _ hv=>h.out hv⟩
section
variable {P:VP} {l:List Int} {cs:List cn}
theorem mu.out (h:mu N P)(he:EC N ε)(I:ε.1.ai[i]?=some f)(hv:vw P ε): vw P (outF ε i).2:=by
 by_cases J:f.aK<0∨f.changed=false
 ·grind[outF]
 ·exact h.one ε i f he I (by omega) (by grind) hv
theorem mu.jt (h:mu N P)(hr:fC ε n e b ah)(he:EC N ε)(hv:vw P ε): vw P ah:=by
 cases hr with
 |arg I=>exact hv
 |z6 i f h1 J hl hf =>
  grind[Bn]
 |out bN i f h1 J hl I hf hh hq=>exact absurd ((he.rD I).1.out hf).1 hq
 |read bN i f h1 J hl I hf hh hq hr =>
  obtain⟨k1,k2,k3,k4,g,k5,k6,k7⟩:=(he.rD I).1.out hf
  refine absurd ?_ hr
  rw[he.dk.aq] at J
  rw[Dk.lQ,ak (by rw[k2.dk.alive];decide),ak (by rw[k2.dk.aq];exact not_not_intro ⟨h1,J⟩)]
 |bad bN i f h1 J hl I hf hh hq hr hc =>
  obtain⟨k1,k2,k3,k4,g,k5,k6,k7⟩:=(he.rD I).1.out hf
  rw[he.dk.aq] at J
  exact absurd (k2.dk.good n h1 J) hc
 |load bN i f h1 J hl I hf hh hq hr hc =>
  obtain⟨n1,n2⟩:=he.rD I
  have sL:vw P (bN,ε.2):=by show P (j4 bN) bN.bq ε.2;rw[IW I,I.bq];exact hv
  have oN:=h.out (ε:=(bN,ε.2)) n1 hf sL
  grind[PO,dN,outF,fq,jM,M8]
theorem PR : j4 (unpinF π n).2=j4 π∧(unpinF π n).2.bq=π.bq:=by
 grind[unpinF,Bn]
theorem mu.rd (h:mu N P)(I:mq ε n e b ah)(he:EC N ε)(hv:vw P ε): vw P ah:=by
 cases I<;>grind[jt,PR]
theorem mu.qh (h:mu N P)(I:GRd ε now false n e b ah)(he:EC N ε)(hv:vw P ε): vw P ah:=by
 cases I with
 |arg hn=>exact hv
 |cz _ _ ho=>cases ho
 |own b J h2 _ hl=>exact hv
 |read e b ah J h2 _ hl I=>exact h.rd I he hv
theorem mu.yu (h:mu N P)(I:nK ε now false n b e bR ah)(he:EC N ε)(hv:vw P ε): vw P ah:=by
 cases I with
 |may e c ah I _=>exact h.qh I he hv
 |bad c ah I J=>exact h.qh I he hv
 |done c ah I J=>exact h.qh I he hv
theorem mu.ch (h:mu N P)(I:ChR now l ε e cs ah): EC N ε→fD ε→vw P ε→vw P ah:=by
 induction I with
 |nil ε=>simp
 |err n l ε e b ah I _=>exact fun he _ hv=>h.rd I he hv
 |part n l ε d_ b ah c e cs J I hb hd hc kz ht ih=>exact fun he h3 hv=>ih (I.ec he h3.pins).1 (I.jg h3) (h.rd I he hv)
 |whole n l ε d_ b ah e cs J I hb hd ht ih=>exact fun he h3 hv=>ih (I.ec he h3.pins).1 (I.jg h3) (h.rd I he hv)
end
def pG (k:Nat)(v:V)(cs:List V): aO:=.xs fun o:Option (Nat×Nat×Nat)=>match o with
 |none=>.pu ((v=.bC∨∃a,v=.sle a)∧cs=[])
 |some (id,len,cap)=>.an (.ro id (.cells cs.length cs true)) (.pu (v=.sl id 0 len (.exact cap)∧cs.length=len*k))
section
variable {v:V}
theorem Sat.rowAt (s:Sat h S)(J:getA S j=some (pG k v cs)): ((v=.bC∨∃a,v=.sle a)∧cs=[])∨∃id len cap,v=.sl id 0 len (.exact cap)∧cs.length=len*k∧T.get h.tr id=some (.cells cs.length cs true):=by
 obtain⟨m,r,h1,h2,o,I⟩:=s.at J
 cases o with
 |none=>exact .inl I
 |some x=>exact .inr ⟨x.1,x.2.1,x.2.2,I.2.1,I.2.2,h2 _ _ I.1⟩
theorem Sat.IX {n:Nat}{e:TypeId}(s:Sat h S)(J:getA S j=some (pG k v cs))(I:cs.length=n*k)(hk:1≤k)(hu:P.underlying t=some (.slice e)): lenV P h t v=some (.int .i64 n):=by
 rcases s.rowAt J with⟨hv,rfl⟩|⟨id,len,cap,rfl,hl,_⟩
 ·have:n=0:=by
   cases n with
   |zero=>rfl
   |succ n=>simp only[cI,pO,AR] at I;omega
  subst this
  rcases hv with rfl|⟨a,rfl⟩
  ·exact Vu hu
  ·simp only[lenV,hu];rfl
 ·have:n=len:=by
   rw[hl] at I
   exact(KF (by omega) I).symm
  subst this
  exact C7 hu
theorem Sat.aaw {e:TypeId}(s:Sat h S)(J:getA S j=some (pG k v cs))(hi:i*k+k≤cs.length)(hk:1≤k)(hu:P.underlying t=some (.slice e))(I:bJ P e=some k)(ha:isAggT P e=some true):
  ∃id off,indexAddrV P t v (.int .i64 (i:Int))=some (.ptr id off)∧loadV P h e (.ptr id off)=some (.agg ((cs.drop (i*k)).take k)):=by
 rcases s.rowAt J with⟨_,rfl⟩|⟨id,len,cap,rfl,hl,hg⟩
 ·simp at hi;omega
 ·refine⟨id,i*k,?_,Uj ha I hg rfl hi⟩
  simp only[indexAddrV,hu,I,cS]
  have:i<len:=by
   have h4:i*k+k=(i+1)*k:=by rw[pO,AR]
   rw[h4,hl] at hi
   exact Ea (D3 hi hk)
  rw[show(decide ((0:Int)≤(i:Int))&&decide ((i:Int)<(len:Int)))=true by simp;omega,aj]
  simp
end
theorem xX : gU (List.replicate 512 0)=0:=by rw[gU,aJ rfl]
def fresh (n m f:Nat): aZ:=(Pl.fresh f,(Lg.fresh,Dk.fresh n m))
theorem Cl {n m:Nat}(k:Int): (Dk.fresh n m).at k=List.replicate 512 0:=by
 rw[Dk.at,show lookL k (Dk.fresh n m).now=none from rfl]
 simp only[Dk.fresh]
 cases I:(List.replicate n (none:Option (List Nat)))[k.toNat]? with
 |none=>rfl
 |some o =>
  have:=vQ (bI I)
  subst this
  rfl
theorem sn {n m f:Nat}(k:Int): pgA (fresh n m f) k=List.replicate 512 0:=by
 rw[nM (by rfl)]
 exact Cl k
theorem qE {f:Nat}{x:Fm}(h:(Pl.fresh f).ai[i]?=some x): x=fq:=vQ (bI h)
theorem EI.fresh {n m f:Nat}(hn:n≤65536)(hm:m≤16777216)(hf:1≤f)(F_:f≤1024): EI n 1 (fresh n m f):=by
 have J:∀x∈(Pl.fresh f).ai,x=fq:=fun x I=>vQ I
 have hlen:(Pl.fresh f).ai.length=f:=dx
 refine⟨⟨⟨⟨(show 0<(Pl.fresh f).ai.length by rw[hlen];omega),(show(Pl.fresh f).ai.length≤1024 by rw[hlen];exact F_),fun e he=>(by cases he),fun x I=>by rw[J x I];decide,fun x I=>by rw[J x I];decide⟩,Lg.IF,?_⟩,fun x I=>by rw[J x I];rfl,⟨kO,fun k i hk=>(by cases hk)⟩⟩,⟨?_,kO,fun k i hk=>(by cases hk),fun i x I=>.inl (by rw[qE I];decide),fun k hk=>(by cases hk),kO⟩,⟨rfl,aU _,(show(1:Nat)+0≤1*1048600 by decide)⟩,?_⟩
 ·exact⟨(show(-1:Int)<4294967296 by decide),fX _,hm,fun e he=>(by cases he),fun i b hb=>(by have h1:some b=none:=vQ (bI hb);cases h1),aU _,(show(List.replicate n (none:Option (List Nat))).length≤65536 by rw[dx];exact hn)⟩
 ·exact⟨rfl,(show(-1:Int)<0 by decide),dx,fun k hk=>(by cases hk),kO,fun k h0 h1=>by show gU ((Dk.fresh n m).at k)=0;rw[Cl];exact xX⟩
 ·have e:fR (Pl.fresh f).ai=0:=by
   rw[fR,List.count_eq_zero]
   intro hh
   obtain⟨x,I,hc⟩:=List.mem_map.1 hh
   rw[J x I] at hc
   cases hc
  show([]:List Wr).length+fR (Pl.fresh f).ai≤_
  rw[e];decide
structure W5 (told:dc): Prop where
 w:W2 told
 pr:told 173=some (kE Tryz.prog 173 G1)
theorem W5.wr {told:dc}(h:W5 told): WR told:=⟨h.w.w,h.pr⟩
theorem aax {m:List Wr}{x:Wr}{j1:Nat}(s:Sat h (ur cs m::S))(h1:getA (ur cs m::S) j1=some (.arr 2 wt cs))(J:m[i]?=some x):
  ∃id off u,indexAddrV Tryz.prog 146 wt (.int .i64 (i:Int))=some (.ptr id off)∧loadV Tryz.prog h 151 (.ptr id off)=some (.agg [.int .i64 (x.1:Int),u])∧u≠.bC∧Sat h (.cg u x.2::ur cs m::S):=by
 obtain⟨a,b,q1,q2,q3⟩:=s.at (k:=0) rfl
 have hl:=Bd q3
 have yq:=(List.getElem?_eq_some_iff.1 J).1
 have key:∀ {m:List Wr} {cs:List V} {i:Nat} {x:Wr} {a b:PM},(ur cs m).p a b→m[i]?=some x→∃u,(cs.drop (i*2)).take 2=[.int .i64 (x.1:Int),u]∧u≠.bC∧(aO.cg u x.2).p a b:=by
  intro m
  induction m with
  |nil=>simp
  |cons y m ih =>
   intro cs i x a b h J
   rcases cs with _|⟨p,_|⟨v,cs⟩⟩<;>first|exact h.elim|skip
   obtain⟨⟨⟨e1,e2⟩,e3⟩,e4⟩:=h
   cases i with
   |zero=>grind
   |succ i =>
    grind
 obtain⟨u,e1,e2,e3⟩:=key q3 J
 obtain⟨id,off,g1,I⟩:=OX (P:=Tryz.prog) (i:=i) s h1 (by omega) (by decide) zJ Da
 have I:=I Ud
 rw[e1] at I
 refine⟨id,off,u,g1,I,e2,?_⟩
 have s1:=(s.dup (aY.wr _ _)).gX (B:=.cg u x.2) fun a b h=>by
  grind
 exact s1
def layW (c:List Nat): Nat→List Wr→List (Option (List Nat))→List (Option (List Nat))
 |_,[],P=>P
 |i,w::l,P=>layW c (i+1) l (if c.getD i 0%2=0 then P.set w.1 (some w.2) else P)
def tornP (c:List Nat)(k:Nat)(P:List (Option (List Nat))): Option Wr→List (Option (List Nat))
 |none=>P
 |some w=>P.set w.1 (some (bp (bp (List.replicate 512 0) 0 ((P.getD w.1 none).getD [])) 0 (w.2.take (c.getD k 0/2%5*128))))
def kG (δ:Dk)(c:List Nat): Nat:=(c.getD 0 0+256*c.getD 1 0)%((δ.log.drop δ.bh++δ.tail).length+1)
def sq (δ:Dk)(c:List Nat): List Nat:=δ.log.take δ.bh++(δ.log.drop δ.bh++δ.tail).take (kG δ c)
def fS (δ:Dk)(c:List Nat): Dk :=
 { room:=δ.room,aq:=tornP c δ.waiting.length (layW c 0 δ.waiting δ.aq) δ.dA,waiting:=[],now:=[],log:=sq δ c,bh:=(sq δ c).length,mark:=δ.mark,aS := -1,dead:=false,dA:=none,tail:=[] }
theorem aby {x:Operand}{n:Nat}(hn:n<256): binV P h .and t x y (.int .i64 (n:Int)) (.int .i64 1)=some (.int .i64 ((n%2:Nat):Int)):=by
 have I:((n:Int)%(2^(IntKind.i64).bits:Int)).toNat=n:=by grind[IntKind.bits]
 have J:((1:Int)%(2^(IntKind.i64).bits:Int)).toNat=1:=by rfl
 simp only[binV,ikBeq,aj,intV,bitsV,I,J]
 rw[show Nat.land n 1=n%2 from D8 n,wrap_i64 (by omega)]
section
variable {told:dc} {v w:V} {c:List Nat} {p:Nat}
theorem vo (hT:W told)(s:Sat h S)(hk:getA S k=some X)(hX:cQ X (cW v c)): Call ⟨Tryz.prog,told⟩ 89 [v,.int .i64 (i:Int)] h fun r h'=>r=.int .i64 ((c.getD i 0:Nat):Int)∧h'=h:=by
 have hv:=s.aH hk hX
 refine Call.of_wp (hT.free _ rfl) Tryz.func89 rfl rfl (zK 9 rfl (zo rfl (aP rfl rfl rfl (bj Tryz.underlying143 hv)) ?_))
 by_cases hi:i<c.length
 ·skip
  have I:c[i]?=some (c[i]'hi):=bA _
  have J:c.getD i 0=c[i]'hi:=by grind
  rw[J]
  generalize (c[i]'hi)=b at I
  have Fj:b<256:=hv.1 b (bI I)
  obtain⟨id,off,e1,e2⟩:=eo hv I
  have e3:indexAddrV Tryz.prog 143 v (.int .i64 (i:Int))=some (.ptr id off):=by
   rw[←e1]
   simp only[indexAddrV,Tryz.underlying143,aT]
  refine zB rfl aN (by grind) ?_
  refine zk 6 rfl (zo rfl (cj (r:=.ptr id off) rfl rfl e3) (zl rfl e2 (zo rfl (b6 rfl (by exact ja Tryz.underlying5 bF (aA (by omega) (by omega)))) ?_)))
  exact zk 2 rfl (WP.ret ⟨aa,_,rfl,rfl,rfl⟩)
 ·skip
  have J:c.getD i 0=0:=by grind
  rw[J]
  refine zC rfl aN (by grind) ?_
  exact zk 7 rfl (WP.ret ⟨aa,_,rfl,rfl,rfl⟩)
noncomputable def crL : Code:=cD [1,1,1,1,0,1,0,0] ((Tryz.f36.body).getD .skip)
theorem M9 (hT:W told){pv:V}{qc:List V}{W:List Wr}(wj:qc.length=12)(Ic:nth qc 1=some (.sl iR 0 N (.exact N)))(hW:∀w∈W,w.1<N)(hn:W.length≤268435456)(hX:cQ X (cW cv c))(hN:N≤65536): ∀(j i:Nat) (I:List V) (P:List (Option (List Nat))) (h:H) (E:List (Nat×V)) (Q:Ex→List (Nat×V)→H→Prop),
  i+j=W.length→I.length=N→P.length=N→Sat h (ur cs W::pt q (.cells 12 qc false)::pt iR (.cells N I false)::each k_ I P::.arr 2 wt cs::X::S) →
  Has E [(0,pv),(5,cv),(6,.ptr q 0),(36,wt),(37,.int .i64 W.length),(38,.int .i64 i)] →
  (∀E' h' I P',Has E' [(0,pv),(5,cv),(6,.ptr q 0)]→P'=layW c i (W.drop i) P→I.length=N→P'.length=N→Sat h' (ur cs W::pt q (.cells 12 qc false)::pt iR (.cells N I false)::each k_ I P'::.arr 2 wt cs::X::S)→Q (.exit 0) E' h') →
  WP ⟨Tryz.prog,told⟩ 172 (.loop crL) E h Q:=by
 intro j
 induction j with
 |zero =>
  intro i I P h E Q hi hl hp s hE hq
  refine WP.loop (WP.has hE (zg rfl (zC rfl aN (by grind) ?_)))
  exact zk 3 rfl (WP.exit (hq _ _ _ _ ⟨rfl,rfl,rfl,aa⟩ (by rw[Ax (by omega)];rfl) hl hp s))
 |succ j ih =>
  intro i I P h E Q hi hl hp s hE hq
  have hx:W[i]?=some (W[i]'(by omega)):=bA _
  generalize (W[i]'(by omega))=x at hx
  have hxn:=hW x (bI hx)
  have J:W.drop i=x::W.drop (i+1):=by
   grind[List.drop_eq_getElem_cons]
  obtain⟨id,off,u,g1,g2,hu,s1⟩:=aax s (j1:=4) rfl hx
  have vp:=s1.aH (k:=0) rfl (dF _ _)
  have YM:=vp.cells
  have sK:=dg vp
  have s:=s1.ae [2,2,2,0,0,0,0]
  dsimp only[bringA,getA,aL] at s
  refine WP.loop (WP.has hE (zg rfl (zB rfl aN (by grind) ?_)))
  refine zk 5 rfl (WP.block (zK 3 rfl (zo rfl (cj (r:=.ptr id off) rfl rfl g1) (zl rfl g2 ?_))))
  refine ay.b8 s rfl rfl rfl (bU GS) (fun p8 h s => ?_)
  dsimp only[V.cells,List.length_cons,List.length_nil,Nat.reduceAdd] at s
  refine za rfl (zS rfl (s.ep (j:=0) rfl Da rfl (by simp only[gJ,ki,YM.2];rfl)) ?_)
  rintro h s
  dsimp only[setA] at s
  refine zk 5 rfl (zc rfl (vo hT s (k:=7) rfl hX) ?_)
  rintro r h' ⟨rfl,rfl⟩
  have cE:c.getD i 0<256:=by
   rw[gY]
   cases hc:c[i]? with
   |none=>decide
   |some b=>exact(s.aH (k:=7) rfl hX).1 b (bI hc)
  refine zb rfl (aby cE) ?_
  by_cases ou:c.getD i 0%2=0
  ·skip
   have UE:indexAddrV Tryz.prog 145 (.sl iR 0 N (.exact N)) (.int .i64 (x.1:Int))=some (.ptr iR x.1):=by
    simp only[indexAddrV,gG,ij]
    grind
   refine zB rfl dG (by grind) ?_
   refine zk 2 rfl ?_
   have s0:=s
   refine WP.drawn [af,af,af,af,af,af,af,af,af,af] rfl (by kernel_rfl) (by kernel_rfl) ?_
   refine zM rfl (zN rfl (zF rfl (ng _ _) (zL rfl (s.ld (k:=1) rfl rM Ic) (zF rfl (EG _ _) (zL rfl (s.ld (k:=0) rfl cL rfl) (zF rfl (EH _ _) (zL rfl (s.ld (k:=0) rfl bP rfl) (zO rfl (cj (r:=.ptr iR x.1) rfl rfl UE) (ax.iB rfl rfl rfl (OpR.eu rfl rfl rfl (s.eX (k:=2) rfl ij hl hxn YM.1 YM.2)) ?_)))))))))
   rintro v h ⟨rfl,s⟩
   dsimp only[setA] at s
   refine ax.nil ⟨⟨aa,aa,aa,aa,aa,aa,aa,aa,aa,aa,aa⟩,?_⟩
   refine zr rfl (zb rfl (by exact bx (aA (by omega) (by omega))) ?_)
   refine zm rfl (zv ?_)
   have s3:Sat _ (each k_ I P::.cg u x.2::_):=s.ae [3,3]
   have s4:=s3.two (C:=each k_ (I.set x.1 u) (P.set x.1 (some x.2))) (aY.each aY.k_ _ _) (aY.cg _ _) fun a b q1 q2=>Cc q1 ⟨hu,q2⟩
   dsimp only[bringA,getA,aL] at s4
   refine ih (i+1) _ (P.set x.1 (some x.2)) _ _ Q (by omega) (by grind) (by grind) ((s4.ae [4,2,2,0,1,1]).del 6) ⟨rfl,rfl,rfl,rfl,rfl,rfl,aa⟩ (fun E' h' I P' jf hP h1 h2 s'=>hq E' h' I P' jf ?_ h1 h2 s')
   rw[hP,J,layW,aJ ou]
  ·skip
   refine zC rfl dG (by grind) ?_
   refine zv (zj rfl (WP.skip (zr rfl (zb rfl (by exact bx (aA (by omega) (by omega))) ?_))))
   refine zm rfl (zv ?_)
   refine ih (i+1) _ P _ _ Q (by omega) hl hp (((s.ae [5,1,1,1,2,2]).del 6).del 6) ⟨rfl,rfl,rfl,rfl,rfl,rfl,aa⟩ (fun E' h' I P' jf hP h1 h2 s'=>hq E' h' I P' jf ?_ h1 h2 s')
   rw[hP,J,layW,ak ou]
theorem Ko {n:Nat}(s:Sat h (pt i (.cells n cs false)::pt j (.cells n ds false)::S))(I:cs.length=n)(J:ds.length=n):
  ∃h',copyV Tryz.prog h 145 (.sl i 0 n (.exact n)) (.sl j 0 n (.exact n))=some (.int .i64 (n:Int),h')∧Sat h' (pt i (.cells n ds false)::pt j (.cells n ds false)::S):=by
 refine⟨h.put i (some (.cells n ds false)),?_,s.put (k:=0) rfl⟩
 have r1:=s.row (k:=0) rfl
 have r2:=s.row (k:=1) rfl
 simp only[copyV,gG,ij,rdN,wrN,r1,r2,c_]
 grind[bg]
theorem OpR.Wb {cl:Go.Call}{n:Nat}(hP:C.P=Tryz.prog)(s:Sat h (pt i (.cells n cs false)::pt j (.cells n ds false)::S))(I:cs.length=n)(J:ds.length=n)(Fw:o.op=.call cl)(hc:cl.callee=.builtin .copy)
 (hty:cl.argTypes = #[145,145])(ha:lookArgs E cl.args.toList=some [.sl i 0 n (.exact n),.sl j 0 n (.exact n)]): OpR C E h o fun _ h₁=>Sat h₁ (pt i (.cells n ds false)::pt j (.cells n ds false)::S):=by
 obtain⟨h₁,e1,e2⟩:=Ko s I J
 refine OpR.builtin Fw hc ha ⟨.int .i64 (n:Int),h₁,?_,e2⟩
 simp only[builtinV,hP,hty,e1]
theorem abz {x:Operand}{b:Nat}(I:0<b)(hw:a<9223372036854775808): binV P h .quo t x y (.int .i64 (a:Int)) (.int .i64 (b:Int))=some (.int .i64 ((a/b:Nat):Int)):=by
 simp only[binV,ikBeq,aj,intV]
 have:intBeq (b:Int) 0=false:=by rw[kY];simp;omega
 have J:a/b≤a:=AL a b
 grind[aA]
theorem SS (I:jP h v l)(J:1≤l.length): slR v 0 l.length=v:=by
 rcases I.2 with⟨_,rfl⟩|⟨id,cs,c,rfl,_,hc⟩|⟨id,rfl,_,_⟩<;>grind[slR]
theorem M_ {m:List Nat}(s:Sat h (aV v l::X::S))(hX:cQ X (cW w m))(hl:1≤l.length)(hm:a+m.length≤l.length):
  ∃(n:Nat) (h':H),copyV Tryz.prog h 28 (slR v a l.length) w=some (.int .i64 (n:Int),h')∧Sat h' (aV v (bp l a m)::X::S):=by
 by_cases hz:m=[]
 ·subst hz
  have hv:=s.aH (k:=1) rfl hX
  have J:=(s.buf (k:=0) rfl).1
  rw[show bp l a []=l by simp[bp]]
  obtain⟨id,c,cap,rest,rfl,s1,hc,hf⟩:=s.fZ hl
  have hd:∃o' c',slR (.sl id 0 l.length cap) a l.length=.sl id o' (l.length-a) c'∧o'≤l.length:=by
   cases cap with
   |exact c=>exact⟨_,_,rfl,by grind⟩
   |rest e alt=>exact⟨_,_,rfl,by omega⟩
  obtain⟨o',c',hd,ho⟩:=hd
  rw[hd]
  rcases hv.2 with⟨rfl|⟨a,rfl⟩,_⟩|⟨iR,I,HP,n2,FJ,Yd,rfl,_⟩
  ·grind[copyV,Tryz.underlying28,eE]
  ·grind[copyV,Tryz.underlying28,eE]
  ·have hr:rdN h iR I 0=some []:=hv.rdN.2
   have Ur:Nat.min 0 (l.length-a)=0:=Nat.zero_min _
   refine⟨0,h.put id (some (.cells c (ofBytes l++rest) false)),?_,hf _ _ rfl J (s1.put (k:=0) rfl)⟩
   simp only[copyV,aT,eE,cI,Ur,qT,hr,wrN,s1.row (k:=0) rfl]
   grind[bg,eD,List.take_append_drop]
 ·have h1:1≤m.length:=by
   grind
  obtain⟨h',e1,e2⟩:=Ca s hX (a:=a) (b:=l.length) (by omega) (by omega) h1<;>grind[List.take_of_length_le]
theorem OpR.PS {cl:Go.Call}{m:List Nat}{d:V}(hP:C.P=Tryz.prog)(s:Sat h (aV v l::X::S))(hX:cQ X (cW w m))(hl:1≤l.length)(hm:a+m.length≤l.length)
 (I:o.op=.call cl)(hc:cl.callee=.builtin .copy)(J:cl.argTypes = #[28,28])(ha:lookArgs E cl.args.toList=some [d,w])(hd:d=slR v a l.length): OpR C E h o fun _ h₁=>Sat h₁ (aV v (bp l a m)::X::S):=by
 subst hd
 obtain⟨n,h₁,e1,e2⟩:=M_ s hX hl hm
 refine OpR.builtin I hc ha ⟨.int .i64 (n:Int),h₁,?_,e2⟩
 simp only[builtinV,hP,J,e1]
theorem OpR.UF {cl:Go.Call}{m:List Nat}(hP:C.P=Tryz.prog)(s:Sat h (aV v l::X::S))(hX:cQ X (cW w m))(hl:1≤l.length)(hm:m.length≤l.length)
 (I:o.op=.call cl)(hc:cl.callee=.builtin .copy)(J:cl.argTypes = #[28,28])(ha:lookArgs E cl.args.toList=some [v,w]): OpR C E h o fun _ h₁=>Sat h₁ (aV v (bp l 0 m)::X::S) :=
 OpR.PS hP s hX hl (by omega) I hc J ha (SS (s.buf (k:=0) rfl) hl).symm
theorem YN {o:Option (List Nat)}: cQ (k_ v o) (cW v (o.getD [])):=by
 cases o with
 |none=>exact fun m r h=>.inl ⟨by simp,.inl ⟨.inl h,rfl⟩⟩
 |some b=>exact fun m r h=>.inr h.2
noncomputable def crT : Code:=cD [1,1,1,1,1,0,1,0] ((Tryz.f36.body).getD .skip)
theorem Na (hT:W told){w:Wr}(s:Sat h (aR q vI::aR p δ::X::S))(hX:cQ X (cW cv c))(hn:δ.waiting.length≤268435456)(ht:δ.dA=some w)(hw:w.1<vI.aq.length)(DI:w.2.length=512)(hN:vI.aq.length≤65536)
 (mh:∀(i:Nat) (b:List Nat),vI.aq[i]?=some (some b)→b.length=512)(hE:Has E [(0,.ptr p 0),(5,cv),(6,.ptr q 0)])
 (hq:∀E' h',Has E' [(0,.ptr p 0),(5,cv),(6,.ptr q 0)]→Sat h' (aR q { vI with aq:=tornP c δ.waiting.length vI.aq (some w) }::aR p δ::X::S)→Q .normal E' h'): WP ⟨Tryz.prog,told⟩ 172 crT E h Q:=by
 obtain⟨pg,wt,nw,lg,mk,tn,tl,ops,s⟩:=bE.1 (s.ae [1])
 rw[ht] at s
 obtain⟨tid,s⟩:=ic.1 (s.ae [6])
 obtain⟨u,s⟩:=ic.1 s
 have s:=br.1 s
 dsimp only[List.cons_append,List.nil_append] at s
 obtain⟨rfl,s⟩:=eR.1 s
 obtain⟨pg2,wt2,nw2,lg2,mk2,tn2,tl2,YO,s⟩:=bE.1 (s.ae [9])
 obtain⟨iR,I,rfl,s⟩:=gH.1 (s.ae [1])
 obtain⟨YP,s⟩:=mD.1 (s.ae [13])
 have s:=s.ae [4,12,10,2,2,8,0]
 have YQ:YP.length=δ.waiting.length*2:=by
  obtain⟨a,b,q1,q2,q3⟩:=s.at (k:=7) rfl
  exact Bd q3
 have hb:c.getD δ.waiting.length 0<256:=by
  rw[gY]
  cases hc:c[δ.waiting.length]? with
  |none=>decide
  |some b=>exact(s.aH (k:=19) rfl hX).1 b (bI hc)
 have js:I.length=vI.aq.length:=by
  obtain⟨a,b,q1,q2,q3⟩:=s.at (k:=4) rfl
  exact ry q3
 have sL:I[w.1]?=some (I[w.1]'(by omega)):=bA _
 have CT:vI.aq[w.1]?=some (vI.aq[w.1]'hw):=bA _
 generalize (I[w.1]'(by omega))=v1 at sL
 generalize hxx:(vI.aq[w.1]'hw)=x at CT
 have nH:vI.aq.getD w.1 none=x:=by grind
 have hxl:(x.getD []).length≤512:=by
  cases x<;>grind
 refine WP.has hE (zK 5 rfl (zY s 1 tM C_ rfl (zo rfl (aP rfl rfl rfl (s.ew (n:=δ.waiting.length) (j:=6) rfl YQ (by decide) zJ)) ?_)))
 refine zc rfl (vo hT (i:=δ.waiting.length) s (k:=19) rfl hX) ?_
 rintro r h' ⟨rfl,rfl⟩
 refine zb rfl (abz (a:=c.getD δ.waiting.length 0) (b:=2) (by decide) (by omega)) ?_
 refine zb rfl (Ce (a:=c.getD δ.waiting.length 0/2) (b:=5) (by decide)) ?_
 refine zo rfl (az (r:=.int .i64 ((c.getD δ.waiting.length 0/2%5*128:Nat):Int)) rfl rfl (by simp only[binV,ikBeq,aj,intV];rw[show((c.getD δ.waiting.length 0/2%5:Nat):Int)*128=((c.getD δ.waiting.length 0/2%5*128:Nat):Int) by rfl,wrap_i64 (by omega)])) ?_
 refine zk 4 rfl (ay.any rfl rfl rfl (OpR.gN (c:=512) rfl s rfl rfl rfl rfl (by decide)) ?_)
 intro z h s
 refine zk 3 rfl ?_
 have s1:=((s.ae [5]).dup (aY.each aY.k_ _ _)).gX (B:=k_ v1 x) fun a b q=>xE q sL CT
 have s:=s1.ae [2,0,1,1,1,1]
 have lK:nth I w.1=some v1:=by rw[gP];exact sL
 have UE:indexAddrV Tryz.prog 145 (.sl iR 0 vI.aq.length (.exact vI.aq.length)) (.int .i64 (w.1:Int))=some (.ptr iR w.1):=by
  simp only[indexAddrV,gG,ij]
  grind
 have s0:=s
 refine WP.drawn [af,af,af,af,af,af,af,af,af,af,af,af,af,af,af] rfl (by kernel_rfl) (by kernel_rfl) ?_
 refine zM rfl (zM rfl (zN rfl (zF rfl (ng _ _) (zL rfl (s.ld (k:=2) rfl rM rfl) (zM rfl (zN rfl (zF rfl (uj _ _) (zL rfl (s.ld (k:=3) rfl GR rfl) (zN rfl (zF rfl (EG _ _) (zL rfl (s.ld (k:=4) rfl cL rfl) (zO rfl (cj (r:=.ptr iR w.1) rfl rfl UE) (zL rfl (s.ld (k:=5) rfl bP lK) (ax.any rfl rfl rfl rfl (OpR.UF rfl s YN (by grind) (by grind) rfl rfl rfl rfl) ?_))))))))))))))
 intro r h s
 refine ax.nil ⟨⟨aa,aa,aa,aa,aa,aa,aa,aa,aa,aa,aa,aa,aa,aa,aa,aa⟩,?_⟩
 have hl3:(bp (List.replicate 512 0) 0 (x.getD [])).length=512:=by grind[cJ]
 have vp:=s.aH (k:=7) rfl (dF _ _)
 have J:c.getD δ.waiting.length 0/2%5*128≤w.2.length:=by omega
 refine zK 5 rfl (zY s 3 uj GR rfl (zn rfl (zY s 4 EH bP rfl (zm rfl (zo rfl (bV (p:=none) (q:=some (.int .i64 ((c.getD δ.waiting.length 0/2%5*128:Nat):Int))) (m:=none) (p':=none) (q':=some (c.getD δ.waiting.length 0/2%5*128)) (m':=none) rfl rfl rfl rfl rfl (by rfl) rfl (iK vp (b:=c.getD δ.waiting.length 0/2%5*128) J).1) ?_)))))
 refine ay.any rfl rfl rfl (OpR.UF rfl (s.ae [0,6]) (xC (dF _ _) (b:=c.getD δ.waiting.length 0/2%5*128) J) (by omega) (by grind) rfl rfl rfl rfl) ?_
 intro r h s
 have s:=s.gC
 have TS:=s.aH (k:=0) rfl (dF _ _)
 have hl4:(bp (bp (List.replicate 512 0) 0 (x.getD [])) 0 (w.2.take (c.getD δ.waiting.length 0/2%5*128))).length=512:=by grind[cJ]
 refine zv (WP.drawn [af,af,af,af,af,af,af,af,af,af,af,af,af,af] rfl (by kernel_rfl) (by kernel_rfl) ?_)
 refine zM rfl (zN rfl (zF rfl (ng _ _) (zL rfl (s.ld (k:=3) rfl rM rfl) (zM rfl (zN rfl (zF rfl (uj _ _) (zL rfl (s.ld (k:=4) rfl GR rfl) (zN rfl (zF rfl (EG _ _) (zL rfl (s.ld (k:=5) rfl cL rfl) (zM rfl (zO rfl (cj (r:=.ptr iR w.1) rfl rfl UE) (ax.iB rfl rfl rfl (OpR.eu rfl rfl rfl (s.eX (k:=6) rfl ij js hw TS.cells.1 TS.cells.2)) ?_)))))))))))))
 rintro r h ⟨rfl,s⟩
 refine ax.nil ⟨⟨aa,aa,aa,aa,aa,aa,aa,aa,aa,aa,aa,aa,aa,aa,aa⟩,?_⟩
 have yJ:z≠.bC:=fun e=>by
  grind[iS]
 have t1:=(s.ae [7,0]).two (C:=each k_ (I.set w.1 z) (tornP c δ.waiting.length vI.aq (some w))) (aY.each aY.k_ _ _) (aY.cg _ _) fun a b q1 q2=>by
  rw[tornP,nH]
  exact Cc q1 ⟨yJ,q2⟩
 dsimp only[wL,aL,bringA,getA,setA] at t1
 have Fg:(tornP c δ.waiting.length vI.aq (some w)).length=vI.aq.length:=by rw[tornP,bY]
 have t2:=gH.2 ⟨iR,I.set w.1 z,rfl,by rw[Fg];exact t1.ae [6,0]⟩
 rw[Fg] at t2
 dsimp only[aL,bringA] at t2
 have t3:=bE (δ:={ vI with aq:=tornP c δ.waiting.length vI.aq (some w) }).2 ⟨_,_,_,_,_,_,_,_,t2.ae [3,0,6,6,6,6,6,6]⟩
 dsimp only[aL,bringA] at t3
 have t4:=mD.2 ⟨_,t3.ae [5,5]⟩
 dsimp only[aL,bringA] at t4
 have t5:Sat h (Bf (.ptr tid 0) (some w)::_):=ic.2 ⟨tid,ic.2 ⟨u,br.2 (eR.2 ⟨rfl,t4.ae [5,2]⟩)⟩⟩
 dsimp only[aL] at t5
 have t6:=bE.2 ⟨_,_,_,_,_,_,_,_,by rw[ht];exact(t5.del 3).ae [3,3,1,2,2,2,0,1,0,0]⟩
 dsimp only[aL,bringA,getA] at t6
 exact hq _ _ ⟨rfl,rfl,rfl,aa⟩ (t6.ae [1])
end
section
variable {told:dc} {v w:V} {c:List Nat} {p:Nat}
noncomputable def crE : Code:=cD [1,1,1,1,1,1] ((Tryz.f36.body).getD .skip)
theorem Ga (J:W told)(s:Sat h (aR q vI::aR p δ::X::S))(hX:cQ X (cW cv c))(ob:δ.Ok)(UG:δ.tail.length≤16777216)(DM:δ.mark.length≤64)(hE:Has E [(0,.ptr p 0),(5,cv),(6,.ptr q 0)])
 (hq:∀E' h',look E' 4=some (.ptr q 0)→Sat h' (aR q { vI with log:=sq δ c,bh:=(sq δ c).length,mark:=δ.mark }::aR p δ::X::S)→Q .ret E' h'): WP ⟨Tryz.prog,told⟩ 172 crE E h Q:=by
 have hlen:=ob.len
 have ac1:=ob.bh
 obtain⟨pg,wt,nw,lg,mk,tn,tl,ops,s⟩:=bE.1 (s.ae [1])
 have htv:=dg (s.aH (k:=7) rfl (dF _ _))
 refine WP.has hE (zw ?_)
 have s0:=s
 refine WP.drawn [af,af,af,af,af,af,af,af,af,af,some (0,2),some (0,2),some (0,2),some (0,2),none,none] rfl (by kernel_rfl) (by kernel_rfl) ?_
 refine zM rfl (zN rfl (zF rfl (kn _ _) (zL rfl (by exact s.ld (k:=0) rfl bP rfl) ?_)))
 refine zM rfl (zN rfl (zF rfl (tN _ _) (zL rfl (by exact s.ld (k:=0) rfl cL rfl) ?_)))
 refine zO rfl (bV (p:=some (.int .i64 (δ.bh:Int))) (q:=none) (m:=none) (p':=some δ.bh) (q':=none) (m':=none) rfl rfl rfl rfl (by simp[iW,bndV]) rfl rfl (cf (s.buf (k:=4) rfl).view (a:=δ.bh) (by omega)).1) ?_
 refine ax.any rfl rfl rfl rfl (OpR.call rfl rfl rfl rfl (jE J (s.ae [4]) (rq (bu _ _) (a:=δ.bh) (by omega)) (by grind))) ?_
 intro u h s
 dsimp only[wL,aL,bringA] at s
 have s1:=s
 refine zM rfl (zN rfl (zF rfl (B_ _ _) (zL rfl (by exact s.ld (k:=2) rfl bP rfl) ?_)))
 refine ax.any rfl rfl rfl rfl (OpR.qy rfl (s.ae [0,7]) (dF _ _) rfl rfl rfl rfl (by grind)) ?_
 intro r h s
 dsimp only[aL,bringA] at s
 have s2:=s
 refine zA rfl ?_
 refine ax.nil ⟨⟨aa,aa,aa,aa,aa,aa,aa,aa,aa,aa,fun _ _=>.inr ⟨rfl,⟨_,bD rfl⟩,bn _ rfl⟩,fun _ _=>.inr ⟨rfl,⟨_,oU rfl⟩,bn _ rfl⟩,fun _ _=>.inr ⟨rfl,⟨_,jS rfl (B_ _ _)⟩,bn _ rfl⟩,dw (.inr ⟨rfl,⟨_,aW rfl (by exact s0.ld (k:=0) rfl bP rfl)⟩,htv⟩) (.inr ⟨rfl,⟨_,aW rfl (by exact s1.ld (k:=2) rfl bP rfl)⟩,htv⟩),aa,aa,aa⟩,?_⟩
 have Du:(δ.log.drop δ.bh++δ.tail).length=δ.log.length-δ.bh+δ.tail.length:=by simp
 have I:=(s.buf (k:=0) rfl).view
 refine zg rfl (zm rfl (ay.call rfl rfl rfl rfl rfl rfl rfl (vo J (i:=0) s (k:=10) rfl hX) ?_))
 rintro v h' ⟨rfl,rfl⟩
 refine zm rfl (ay.call rfl rfl rfl rfl rfl rfl rfl (vo J (i:=1) s (k:=10) rfl hX) ?_)
 rintro v h' ⟨rfl,rfl⟩
 have hb:∀i,c.getD i 0<256:=fun i=>by
  rw[gY]
  cases hc:c[i]? with
  |none=>decide
  |some b=>exact(s.aH (k:=10) rfl hX).1 b (bI hc)
 have tU:=hb 0
 have BB:=hb 1
 refine zb rfl (by exact jT (aA (by omega) (by omega))) ?_
 refine zb rfl (by exact bx (aA (by omega) (by omega))) ?_
 refine zm rfl (zo rfl (aP rfl rfl rfl (bj aT I)) (zb rfl (by exact bx (aA (by omega) (by omega))) ?_))
 refine zb rfl (Ce (a:=c.getD 0 0+256*c.getD 1 0) (b:=(δ.log.drop δ.bh++δ.tail).length+1) (by omega)) ?_
 refine za rfl (zv (zw ?_))
 have hk:kG δ c≤(δ.log.drop δ.bh++δ.tail).length:=Nat.le_of_lt_succ (AT _ (by omega))
 obtain⟨pg2,wt2,nw2,lg2,mk2,tn2,tl2,YO,s⟩:=bE.1 (s.ae [9])
 have s:=s.ae [0,10,3,8,6,3,9]
 dsimp only[wL,aL,bringA,getA] at s
 have s0:=s
 have IE:=dg I
 have zX:=dg (iK I (b:=kG δ c) hk).2.1
 refine WP.drawn [some (0,3),af,af,af,af,af,af,af,af,af,af,some (0,2),some (0,2),some (0,2),af,af,af,af] rfl (by kernel_rfl) (by kernel_rfl) ?_
 refine zM rfl (zM rfl (zN rfl (zF rfl (kn _ _) (zL rfl (by exact s.ld (k:=1) rfl bP rfl) ?_))))
 refine zM rfl (zN rfl (zF rfl (tN _ _) (zL rfl (by exact s.ld (k:=1) rfl cL rfl) ?_)))
 refine zO rfl (bV (p:=none) (q:=some (.int .i64 (δ.bh:Int))) (m:=none) (p':=none) (q':=some δ.bh) (m':=none) rfl rfl rfl rfl rfl (by simp[iW,bndV]) rfl (iK (s.buf (k:=3) rfl).view (b:=δ.bh) (by omega)).1) ?_
 refine ax.any rfl rfl rfl rfl (OpR.call rfl rfl rfl rfl (jE J (s.ae [3]) (xC (bu _ _) (b:=δ.bh) (by omega)) (by grind))) ?_
 intro u h s
 dsimp only[aL,bringA] at s
 have s1:=s
 refine zM rfl (zM rfl (zO rfl (bV (p:=none) (q:=some (.int .i64 (kG δ c:Int))) (m:=none) (p':=none) (q':=some (kG δ c)) (m':=none) rfl rfl rfl rfl rfl (by simp[iW,bndV]) rfl (by exact(iK (s.buf (k:=5) rfl).view (b:=kG δ c) hk).1)) ?_))
 refine ax.any rfl rfl rfl rfl (OpR.qy rfl (s.ae [0,4]) (xC (bu _ _) (b:=kG δ c) hk) rfl rfl rfl rfl (by grind)) ?_
 intro w h s
 dsimp only[aL,bringA] at s
 have s2:=s
 have hv:=(s.buf (k:=0) rfl).view.cells
 refine zN rfl (zF rfl (kn _ _) (ax.iB rfl rfl rfl (OpR.eu rfl rfl rfl (s.eX (k:=3) rfl ij rfl (by decide) hv.1 hv.2)) ?_))
 rintro v h ⟨rfl,s⟩
 dsimp only[Nat.reduceAdd,List.set,setA] at s
 refine ax.nil ⟨⟨fun _ _=>.inr ⟨rfl,⟨_,bD rfl⟩,bn _ rfl⟩,aa,aa,aa,aa,aa,aa,aa,aa,aa,aa,fun _ _=>.inr ⟨rfl,⟨_,bD rfl⟩,IE⟩,fun _ _=>.inr ⟨rfl,⟨_,bD rfl⟩,bn _ rfl⟩,dw (.inr ⟨rfl,⟨_,bV (p:=none) (q:=some (.int .i64 (kG δ c:Int))) (m:=none) (p':=none) (q':=some (kG δ c)) (m':=none) rfl rfl rfl rfl rfl (by simp[iW,bndV]) rfl (by exact(iK (s0.buf (k:=4) rfl).view (b:=kG δ c) hk).1)⟩,zX⟩) (.inr ⟨rfl,⟨_,bV (p:=none) (q:=some (.int .i64 (kG δ c:Int))) (m:=none) (p':=none) (q':=some (kG δ c)) (m':=none) rfl rfl rfl rfl rfl (by simp[iW,bndV]) rfl (by exact(iK (s1.buf (k:=5) rfl).view (b:=kG δ c) hk).1)⟩,zX⟩),aa,aa,aa,aa,aa⟩,?_⟩
 refine zg rfl (zm rfl (zm rfl (zn rfl (zf rfl (kn _ _) (zl rfl (by exact s.ld (k:=3) rfl bP rfl) ?_)))))
 refine zo rfl (aP rfl rfl rfl (by exact bj aT (s.aH (k:=0) rfl (bu _ _)))) ?_
 refine zn rfl (zf rfl (tN _ _) ?_)
 refine ay.eu rfl rfl rfl rfl rfl (by exact s.eX (k:=3) rfl ke rfl (by decide) rfl rfl) (fun h s => ?_)
 dsimp only[Nat.reduceAdd,List.set,setA] at s
 refine zv (zg rfl (zm rfl (zm rfl (zn rfl (zf rfl (EF _ _) (zl rfl (by exact s.ld (k:=4) rfl bP rfl) ?_))))))
 refine ay.call rfl rfl rfl rfl rfl rfl rfl (jE J (s.ae [7]) (dF _ _) (by omega)) ?_
 intro m h s
 have s:=s.gC
 dsimp only[aL,bringA] at s
 have hv:=(s.aH (k:=0) rfl (dF _ _)).cells
 refine zn rfl (zf rfl (EF _ _) (ay.eu rfl rfl rfl rfl rfl (s.eX (k:=5) rfl ij rfl (by decide) hv.1 hv.2) ?_))
 intro h s
 dsimp only[Nat.reduceAdd,List.set,setA] at s
 refine zv (zg rfl (zm rfl (za rfl (zv (WP.ret ?_)))))
 have s:=(((s.del 8).del 7).del 3).ae [4,5,5,5,2,0,3,3,2,3,3,3,1,0,1,0,0]
 dsimp only[aL,bringA,getA] at s
 have s:=bE.2 ⟨_,_,_,_,_,_,_,_,(bE (δ:={ vI with log:=sq δ c,bh:=(sq δ c).length,mark:=δ.mark }).2 ⟨_,_,_,_,_,_,_,_,s⟩).ae [1,1,1,1,1,1,1,1,0]⟩
 exact hq _ _ rfl (s.ae [1])
theorem E5 : ∀ {l:List Wr} {i:Nat} {P:List (Option (List Nat))},(layW c i l P).length=P.length:=by
 intro l
 induction l<;>grind[layW]
theorem Lm : ∀ {l:List Wr} {i:Nat} {P:List (Option (List Nat))},(∀w∈l,w.2.length=512)→(∀(j:Nat) (b:List Nat),P[j]?=some (some b)→b.length=512)→∀(j:Nat) (b:List Nat),(layW c i l P)[j]?=some (some b)→b.length=512:=by
 intro l
 induction l with
 |nil=>intro i P _ h;exact h
 |cons w l I =>
  intro i P J h
  refine I (fun x hx=>J x (b5 _ hx)) ?_<;>grind
structure Dk.Cr (δ:Dk): Prop where
 ok:δ.Ok
 wait:∀w∈δ.waiting,w.1<δ.aq.length∧w.2.length=512
 many:δ.waiting.length≤268435456
 dA:∀w,δ.dA=some w→w.1<δ.aq.length∧w.2.length=512
 tail:δ.log.length+δ.tail.length≤16777216
 mark:δ.mark.length≤64
theorem SU (hT:W told)(s:Sat h (aR p δ::X::S))(hX:cQ X (cW cv c))(hc:δ.Cr):
  Call ⟨Tryz.prog,told⟩ 36 [.ptr p 0,cv] h fun v h'=>∃q,v=.ptr q 0∧Sat h' (aR q (fS δ c)::aR p δ::X::S):=by
 obtain⟨J,hW,hn,ht,UG,DM⟩:=hc
 have UG:δ.tail.length≤16777216:=by omega
 obtain⟨pg,wt,nw,lg,mk,tn,tl,ops,s⟩:=bE.1 s
 obtain⟨id,cs,rfl,s⟩:=gH.1 (s.ae [1])
 have Ds:=J.many
 have mc:cs.length=δ.aq.length:=by
  obtain⟨a,b,q1,q2,q3⟩:=s.at (k:=1) rfl
  exact ry q3
 refine Call.of_wp (hT.free _ rfl) Tryz.func36 rfl rfl (zg rfl (za rfl (zv (zg rfl (zm rfl (za rfl (zv (zw ?_))))))))
 have s:=s.ae [2]
 dsimp only[bringA,getA,aL] at s
 have s0:=s
 refine WP.drawn [af,af,af,af,af,af,af,af,af,af,af] rfl (by kernel_rfl) (by kernel_rfl) ?_
 refine zM rfl (zN rfl (zF rfl (ng _ _) (zL rfl (by exact s.ld (k:=0) rfl rM rfl) ?_)))
 refine zO rfl (aP rfl rfl rfl (C7 gG)) (zM rfl (zN rfl (zF rfl (KX _ _) (zL rfl (by exact s.ld (k:=0) rfl cL rfl) ?_))))
 refine ax.any rfl rfl rfl rfl (OpR.call rfl rfl rfl rfl (H7 (n:=δ.aq.length) (m:=δ.room) hT s (by omega))) ?_
 rintro v h ⟨q,rfl,s⟩
 refine zA rfl ?_
 refine ax.nil ⟨⟨aa,aa,aa,aa,aa,aa,aa,aa,aa,aa,aa,aa⟩,?_⟩
 obtain⟨pg2,wt2,nw2,lg2,mk2,tn2,tl2,YO,s⟩:=bE.1 s
 obtain⟨iR,FJ,e2,s⟩:=gH.1 (s.ae [1])
 dsimp only[bringA,getA,aL,Dk.fresh] at s e2
 rw[dx] at s e2
 subst e2
 have js:FJ.length=δ.aq.length:=by
  obtain⟨a,b,q1,q2,q3⟩:=s.at (k:=1) rfl<;>grind[ry,List.length_replicate]
 obtain⟨YP,s⟩:=mD.1 (s.ae [12])
 dsimp only[bringA,getA,aL] at s
 have YQ:YP.length=δ.waiting.length*2:=by
  obtain⟨a,b,q1,q2,q3⟩:=s.at (k:=1) rfl
  exact Bd q3
 have s:=s.ae [4,10,2,9]
 dsimp only[bringA,getA,aL] at s
 refine zw ?_
 have s0:=s
 refine WP.drawn [af,af,af,af,af,af,af,af,af] rfl (by kernel_rfl) (by kernel_rfl) ?_
 refine zM rfl (zN rfl (zF rfl (ng _ _) (zL rfl (by exact s.ld (k:=0) rfl rM rfl) ?_)))
 refine zM rfl (zN rfl (zF rfl (ng _ _) (zL rfl (by exact s.ld (k:=1) rfl rM rfl) ?_)))
 refine ax.any rfl rfl rfl rfl (OpR.Wb rfl (s.ae [2,2]) js mc rfl rfl rfl rfl) ?_
 intro r h s
 dsimp only[wL,aL,bringA] at s
 refine ax.nil ⟨⟨aa,aa,aa,aa,aa,aa,aa,aa,aa,aa⟩,?_⟩
 refine zw (zg rfl (zm rfl (zn rfl (zf rfl (tM _ _) (zl rfl (by exact s.ld (k:=3) rfl C_ rfl) ?_)))))
 refine zo rfl (aP rfl rfl rfl (s.ew (n:=δ.waiting.length) (j:=4) rfl YQ (by decide) zJ)) ?_
 refine zm rfl (zv (WP.block ?_))
 have s:=((s.ae [13]).dup (aY.each aY.k_ _ _)).ae [7,4,2,0,3,15]
 dsimp only[aL,bringA,getA] at s
 refine M9 hT rfl rfl (fun w hw=>(hW w hw).1) hn hX Ds δ.waiting.length 0 cs δ.aq h _ _ (gK _) mc rfl s ⟨rfl,rfl,rfl,rfl,rfl,rfl,aa⟩ (fun E h FJ P hE hP h1 h2 s => ?_)
 rw[gz] at hP
 subst hP
 refine WP.has hE ?_
 have t1:=gH.2 ⟨iR,FJ,rfl,by rw[h2];exact s.ae [2,2]⟩
 rw[h2] at t1
 dsimp only[aL,bringA] at t1
 have t2:=bE (δ:={ Dk.fresh δ.aq.length δ.room with aq:=layW c 0 δ.waiting δ.aq }).2 ⟨_,_,_,_,_,_,_,_,t1.ae [2,0,7,7,7,7,7,7]⟩
 dsimp only[aL,bringA] at t2
 have t3:=gH.2 ⟨id,cs,rfl,t2.ae [5,4]⟩
 dsimp only[aL,bringA] at t3
 have t4:=(mD.2 ⟨_,t3.ae [3,2]⟩).del 5
 dsimp only[aL,bringA] at t4
 have s:Sat h (aR q { Dk.fresh δ.aq.length δ.room with aq:=layW c 0 δ.waiting δ.aq }::aR p δ::X::S):=(bE.2 ⟨_,_,_,_,_,_,_,_,t4.ae [4,1,0,2,2,2,2,2,0,0]⟩).ae [1]
 have sk:=s
 obtain⟨pg3,wt3,nw3,lg3,mk3,tn3,tl3,ac2,s⟩:=bE.1 (s.ae [1])
 dsimp only[wL,aL,bringA] at s
 have hr:∀E' h',look E' 4=some (.ptr q 0)→Sat h' (aR q (fS δ c)::aR p δ::X::S)→∃v,resLE Tryz.prog E' h' [.tmp 4]=some v∧∃q,v=.ptr q 0∧Sat h' (aR q (fS δ c)::aR p δ::X::S):=fun E' h' e s'=>⟨_,qx e,q,rfl,s'⟩
 refine zw (zg rfl (zm rfl (zn rfl (zf rfl (uj _ _) (zl rfl (by exact s.ld (k:=0) rfl GR rfl) ?_)))))
 cases I:δ.dA with
 |none =>
  rw[I] at s
  obtain⟨rfl,_⟩:=eR.1 (s.ae [6])
  refine ay.kC rfl rfl rfl (az rfl rfl (MV Tryz.underlying147)) (rfl) (zv (zj rfl (WP.skip ?_)))
  refine Ga hT sk hX J UG DM ⟨rfl,rfl,rfl,aa⟩ (fun E' h' e s'=>⟨aa,hr E' h' e ?_⟩)
  rw[fS,I]
  exact s'
 |some w =>
  rw[I] at s
  obtain⟨tid,s⟩:=ic.1 (s.ae [6])
  obtain⟨u,s⟩:=ic.1 s
  obtain⟨rfl,_⟩:=eR.1 (br.1 s)
  refine ay.pU rfl rfl rfl (az rfl rfl (aaq Tryz.underlying147)) (rfl) (zv (zi rfl ?_))
  refine Na (w:=w) hT sk hX hn I (by grind) (ht w I).2 (by grind) (Lm (fun w hw=>(hW w hw).2) J.aq) ⟨rfl,rfl,rfl,aa⟩ (fun E h hE s => ?_)
  refine Ga hT s hX J UG DM hE (fun E' h' e s'=>⟨aa,hr E' h' e ?_⟩)
  rw[fS,I]
  exact s'
end
structure ct where
 kd:Nat
 tx:Nat
 pv:Nat
 nx:Nat
 data:List Nat
 aQ:List cn
variable {rs u dL er r1 r2:List ct} {r:ct}
def ct.bd (r:ct): List Nat:=dy r.kd r.tx r.pv r.nx r.data r.aQ
def ct.len (r:ct): Nat:=8+r.bd.length
structure ct.Ok (r:ct): Prop where
 good:dY r.kd r.aQ=true
 rd:xT r.tx r.pv r.nx r.data r.aQ
 len:r.bd.length≤1048576
theorem ct.Ok.kd (h:r.Ok): r.kd<256:=by
 have:=h.good
 simp[dY] at this
 omega
def logB : Nat→List ct→List Nat
 |_,[]=>[]
 |n,r::l=>iL n r.bd++logB (n+r.len) l
def lI : Nat→List ct→List Nat
 |_,[]=>[]
 |a,r::l=>a::lI (a+r.len) l
def rF (j:List Nat): Prop:=j.length<8∨j.length-8<leN (j.take 4)
theorem SV {x y:List Nat}{b:Nat}(I:x.length=a): ((x++y).take (a+b)).drop a=y.take b:=by
 grind
section
variable {told:dc} {v:V}
theorem Nb (hT:W told){pre j:List Nat}{n:Nat}(hj:rF j)(ha:pre.length=a)(J:l=pre++j)(F4:l.length≤1073741824)(s:Sat h (X::S))(I:cQ X (cW v l)):
  Call ⟨Tryz.prog,told⟩ 133 [v,.int .i64 (a:Int),.int .u64 (n:Int)] h fun r h'=>r=.bf [.agg (ie 0 0 0 0 .bC .bC),.int .i64 0,.int .i64 4]∧Sat h' (X::S):=by
 have hlen:l.length=a+j.length:=by rw[J,bO,ha]
 have hvl:=bj (P:=Tryz.prog) (h:=h) aT (s.aH (k:=0) rfl I)
 have m1:(l.take (a+4)).drop a=j.take 4:=by rw[J];exact SV ha
 refine Call.of_wp (hT.free _ rfl) Tryz.func133 rfl rfl (zg rfl ?_)
 refine ay.b8 s rfl rfl rfl (bU qW) (fun p6 h s => ?_)
 refine zk 7 rfl (zC rfl aN (by simp) ?_)
 refine zk 3 rfl (zo rfl (aP rfl rfl rfl (bj aT (s.aH (k:=1) rfl I))) (zC rfl gT (by simp;omega) ?_))
 refine zk 8 rfl (zo rfl (aP rfl rfl rfl (bj aT (s.aH (k:=1) rfl I))) (zm rfl (zb rfl (by exact iX (aA (by omega) (by omega))) ?_)))
 by_cases h8:j.length<8
 ·skip
  refine zB rfl aN (by simp;omega) ?_
  refine zk 4 rfl (zo rfl (dn rfl (by rw[ED];rfl)) ?_)
  refine zS rfl (s.ep (j:=0) rfl g8 rfl rfl) (fun h s => ?_)
  refine zk 3 rfl ?_
  refine WP.ret ⟨aa,_,xR rfl (s.bZ (k:=0) rfl nG g8) rfl rfl,?_⟩
  exact⟨rfl,s.drop⟩
 have fU:j.length-8<leN (j.take 4):=by rcases hj with h|h;exact absurd h h8;exact h
 have hw4:leN (j.take 4)<4294967296:=by
  have:=Dq (j.take 4) (fun b hb=>(s.aH (k:=1) rfl I).1 b (by rw[J];exact List.mem_append.2 (.inr (mZ hb))))
  rwa [gI,AK (by omega)] at this
 refine zC rfl aN (by simp;omega) ?_
 refine zk 8 rfl (zb rfl (by exact bx (aA (by omega) (by omega))) ?_)
 refine zo rfl (bV (p:=some (.int .i64 (a:Int))) (q:=some (.int .i64 ((a:Int)+4))) (m:=none) (p':=some a) (q':=some (a+4)) (m':=none) rfl rfl rfl rfl (by rw[ey (by omega)];rfl) (by rw[ey (by omega)];congr 2<;>omega) rfl (eU (s.aH (k:=1) rfl I) (a:=a) (b:=a+4) (by omega) (by omega)).1) ?_
 refine zc rfl (n4 hT s (k:=1) rfl (lE I (a:=a) (b:=a+4) (by omega) (by omega)) (by rw[m1,gI];omega)) ?_
 rintro r h' ⟨rfl,rfl⟩
 rw[m1]
 refine zk 6 rfl ?_
 by_cases Ig:1048576<leN (j.take 4)
 ·skip
  refine zB rfl gT (by simp;omega) ?_
  refine zk 14 rfl (zo rfl (dn rfl (by rw[ED];rfl)) ?_)
  refine zS rfl (s.ep (j:=0) rfl g8 rfl rfl) (fun h s => ?_)
  refine zk 3 rfl ?_
  refine WP.ret ⟨aa,_,xR rfl (s.bZ (k:=0) rfl nG g8) rfl rfl,?_⟩
  exact⟨rfl,s.drop⟩
 refine zC rfl gT (by simp;omega) ?_
 refine zk 2 rfl (zo rfl (b6 rfl (by exact ja cM bF (aA (by omega) (by omega)))) ?_)
 refine zm rfl (zo rfl (aP rfl rfl rfl (bj aT (s.aH (k:=1) rfl I))) (zm rfl (zb rfl (by exact iX (aA (by omega) (by omega))) ?_)))
 refine zb rfl (by exact iX (aA (by omega) (by omega))) ?_
 refine zB rfl gT (by simp;omega) ?_
 refine zk 5 rfl (zo rfl (dn rfl (by rw[ED];rfl)) ?_)
 refine zS rfl (s.ep (j:=0) rfl g8 rfl rfl) (fun h s => ?_)
 refine zk 3 rfl ?_
 refine WP.ret ⟨aa,_,xR rfl (s.bZ (k:=0) rfl nG g8) rfl rfl,?_⟩
 exact⟨rfl,s.drop⟩
end
def Dk.qF (δ:Dk)(n:Nat): Int×Dk :=
 if δ.dead=true then(9,δ) else if ¬n≤δ.log.length then(1,δ) else if δ.aS=0 then(9,δ.die) else(0,{ δ.cY with log:=δ.log.take n,bh:=n })
def Dk.dR (δ:Dk)(n:Nat): Int×Dk:=if n<δ.log.length then δ.qF n else(0,δ)
def Dk.c7 (δ:Dk)(n:Nat): Int×Dk :=
 if (δ.dR n).1≠0 then δ.dR n else if (δ.dR n).2.bh<n then(δ.dR n).2.cq else(0,(δ.dR n).2)
def iZ (base aB:Nat)(rs:List ct): Lg:={ base:=base,b:=logB base rs,cB:=lI 0 rs,forced:=(logB base rs).length,check:=aB }
theorem sr (n:Nat)(b:List Nat): (iL n b).length=8+b.length:=by rw[pz]
theorem Kp {v:V}(I:c<1073741824)(he:makeSliceV Tryz.prog h 28 (.int .i64 0) (.int .i64 (c:Int))=some (v,h')): v=.sl h.next 0 0 (.exact c):=by
 obtain⟨i,hi,i1,i2⟩:=wE
 simp only[makeSliceV,aT,hi,oZ,i1,i2,V.cells,aX,cI,cS,c_] at he
 rw[show(decide ((0:Int)≤0)&&decide ((0:Int)≤(c:Int))&&decide ((c:Int)<1073741824)&&Nat.ble 1 4096&&Nat.beq (0+1) 1&&Nat.ble 1 1)=true by simp;omega,aj] at he
 exact(congrArg Prod.fst (cx he)).symm
theorem IY {n:Nat}{x v:V}{m:List Nat}(J:View h x m)(I:n+m.length≤c)(he:appendV Tryz.prog h #[28,28] (.sl id 0 n (.exact c)) x=some (v,h')): v=.sl id 0 (n+m.length) (.exact c):=by
 obtain⟨i,hi,i1,i2⟩:=wE
 unfold appendV at he
 simp only[aT,hi,oZ,i1,i2,V.cells,aX,cI,CW J] at he
 rw[show(Nat.ble 1 1&&Nat.ble 1 4096&&Nat.beq (0+1) 1)=true from rfl,aj] at he
 cases hm:Nat.beq m.length 0 with
 |true =>
  rw[hm,aj] at he
  rw[beq_iff.1 hm];exact(congrArg Prod.fst (cx he)).symm
 |false =>
  rw[hm,a_,bg.2 I,aj] at he
  split at he
  ·exact(congrArg Prod.fst (cx he)).symm
  ·cases he
theorem PT {n:Nat}(hn:n≤l.length): cQ (aV (.sl id 0 l.length (.exact c)) l) (aV (.sl id 0 n (.exact c)) (l.take n)):=by
 intro m r ⟨h1,h2⟩
 have hl:(l.take n).length=n:=by rw[gI];omega
 refine⟨fun b hb=>h1 b (mZ hb),.inr (.inl ?_)⟩
 rcases h2 with⟨e,_⟩|⟨J,cs,c',e,hg,hc⟩|⟨J,e,_⟩
 ·cases e
 ·injection e with e1 _ _ I
  injection I with I
  subst e1;subst I
  refine⟨_,ofBytes (l.drop n)++cs,_,by rw[hl],?_,?_⟩
  ·rw[←c9,←rK,List.take_append_drop];exact hg
  ·rw[bO,dS,Ee,hl];omega
 ·injection e with _ _ _ I;cases I
section
variable {told:dc} {p:Nat}
theorem Kq (hT:W told){x:V}(s:Sat h (X::S))(J:cQ X (cW x l))(hl:l.length<1073741824):
  Call ⟨Tryz.prog,told⟩ 90 [x] h fun v h'=>∃id,v=.sl id 0 l.length (.exact l.length)∧Sat h' (aV v l::X::S):=by
 refine Call.of_wp (hT.free _ rfl) Tryz.func90 rfl rfl (zK 7 rfl (zo rfl (aP rfl rfl rfl (bj aT (s.aH (k:=0) rfl J))) ?_))
 obtain⟨v1,h1,e1,s1⟩:=FI s hl
 have qN:=Kp hl e1
 subst qN
 refine ay.any rfl rfl rfl (OpR.of (R:=fun v h'=>v=.sl h.next 0 0 (.exact l.length)∧h'=h1) (s_ rfl rfl e1) ⟨rfl,rfl⟩) ?_
 rintro v h' ⟨rfl,rfl⟩
 refine zm rfl ?_
 obtain⟨v2,h2,e2,s2⟩:=Dc s1 J (by simp;omega)
 have I:=IY (s1.aH (k:=1) rfl J) (by omega) e2
 rw[gK] at I
 subst I
 refine ay.any rfl rfl rfl (OpR.of (R:=fun v h'=>v=.sl h.next 0 l.length (.exact l.length)∧h'=h2) (lP rfl rfl e2) ⟨rfl,rfl⟩) ?_
 rintro v h' ⟨rfl,rfl⟩
 exact zk 2 rfl (WP.ret ⟨aa,_,rfl,_,rfl,s2⟩)
theorem Nc (I:W told)(s:Sat h (aR p δ::S))(J:δ.dead=false)(hl:δ.log.length<1073741824): Call ⟨Tryz.prog,told⟩ 132 [.ptr p 0] h fun v h' =>
  ∃id,v=.bf [.sl id 0 δ.log.length (.exact δ.log.length),.int .i64 0]∧Sat h' (aV (.sl id 0 δ.log.length (.exact δ.log.length)) δ.log::aR p δ::S):=by
 obtain⟨pg,wt,nw,lg,mk,tn,tl,ops,s⟩:=bE.1 s
 refine Call.of_wp (I.free _ rfl) Tryz.func132 rfl rfl (zK 10 rfl (zf rfl (ko _ _) (zh rfl ((aW rfl (s.ld (k:=0) rfl jK rfl))) (J) (zk 7 rfl (zY s 0 kn bP rfl (zc rfl (Kq I (s.ae [4]) (bu _ _) hl) ?_))))))
 rintro v h ⟨id,rfl,s⟩
 exact zk 3 rfl (WP.ret ⟨aa,_,rfl,id,rfl,(bE.2 ⟨pg,wt,nw,lg,mk,tn,tl,ops,s.ae [2,2,2,2,1,1,1,1,0]⟩).ae [1]⟩)
end
section
variable {told:dc} {v b pv:V} {j:List Nat} {p base n:Nat}
theorem abA {m:Nat}: slR (.sl id 0 m (.exact c)) 0 n=.sl id 0 n (.exact c):=by
 simp only[slR,qT,m9,lS]
 cases Nat.beq c 0<;>rfl
theorem Dk.Ok.dR (h:δ.Ok): (δ.dR n).2.Ok:=by
 have J:=h.len
 unfold Dk.dR Dk.qF
 split
 ·split
  ·exact h
  ·split
   ·exact h
   ·split
    ·exact h.die
    ·have I:=h.cY
     exact⟨I.aS,by show(δ.log.take n).length≤_;rw[gI];omega,I.room,I.now,I.aq,by show n≤(δ.log.take n).length;rw[gI];omega,I.many⟩
 ·exact h
theorem Dk.Ok.c7 (h:δ.Ok): (δ.c7 n).2.Ok:=by
 unfold Dk.c7
 split
 ·exact h.dR
 ·split
  ·exact h.dR.cq
  ·exact h.dR
theorem YR (hT:W told)(s:Sat h (aR p δ::S))(J:δ.Ok): Call ⟨Tryz.prog,told⟩ 134 [.ptr p 0,.int .i64 (n:Int)] h fun v h'=>v=.int .i64 (δ.qF n).1∧Sat h' (aR p (δ.qF n).2::S):=by
 have hl:=J.len
 refine(RW hT s J.aS (by omega)).mono fun v h' hr => ?_
 unfold Dk.qF
 rcases hr with⟨I,rfl,s⟩|⟨I,h1,rfl,s⟩|⟨I,h1,h2,h0,rfl,s⟩|⟨I,h1,h2,h0,rfl,s⟩
 ·rw[aJ I];exact⟨rfl,s⟩
 ·rw[ak (by rw[I];decide),aJ (by omega)];exact⟨rfl,s⟩
 ·rw[ak (by rw[I];decide),ak (by omega),aJ h0];exact⟨rfl,s⟩
 ·rw[ak (by rw[I];decide),ak (by omega),ak h0];exact⟨rfl,s⟩
theorem SW (hT:WR told){pre:List Nat}(I:r.Ok)(ha:pre.length=a)(hl:l=pre++(iL n r.bd++rest))(J:l.length≤1073741824)(s:Sat h (X::S))(hX:cQ X (cW v l)):
  Call ⟨Tryz.prog,told⟩ 133 [v,.int .i64 (a:Int),.int .u64 (n:Int)] h fun x h'=>∃dt ch cs,x=.bf [.agg (ie r.kd r.tx r.pv r.nx dt ch),.int .i64 ((a+r.len:Nat):Int),.int .i64 0]∧Sat h' (X::aV dt r.data::.arr 4 ch cs::dh cs r.aQ::S):=by
 refine(IQ hT I.good I.kd I.rd rfl I.len ha hl J s hX).mono fun x h' hx => ?_
 have e:a+r.len=a+8+(dy r.kd r.tx r.pv r.nx r.data r.aQ).length:=by rw[ct.len,ct.bd];omega
 rw[e]
 exact hx
theorem Ln {kd n:Int}{pv:Nat}{dt ch:V}(I:dt.beq dt=true)(J:ch.beq ch=true): (V.bf [.agg (ie kd tx pv nx dt ch),.int .i64 n,.int .i64 e]).beq (V.bf [.agg (ie kd tx pv nx dt ch),.int .i64 n,.int .i64 e])=true:=by
 simp only[V.beq,V.beqL,ie,I,J,lC,dD,jl,aj]
noncomputable def woL : Code:=cD [1,1,1,1,1,1,1,0,0,0] ((Tryz.f80.body).getD .skip)
theorem Nd (hT:WR told)(F4:l.length≤16777216)(xu:base+l.length≤1099511627776)(hj:rF j): ∀(rs:List ct) (a:Nat) (pre st:List Nat) (J:V) (h:H) (E:List (Nat×V)) (Q:Ex→List (Nat×V)→H→Prop),
  (∀r∈rs,r.Ok)→l=pre++(logB (base+a) rs++j)→pre.length=a→st.length≤a→Sat h (pt q (.cells 6 (zV p base b J 0 aB) false)::aV b l::.arr 1 J (dM st)::S) →
  Has E [(0,pv),(6,.ptr q 0),(7,.int .i64 (a:Int))] →
  (∀E' h' I,Has E' [(0,pv),(6,.ptr q 0),(7,.int .i64 ((a+(logB (base+a) rs).length:Nat):Int))]→Sat h' (pt q (.cells 6 (zV p base b I 0 aB) false)::aV b l::.arr 1 I (dM (st++lI a rs))::S)→Q (.exit 1) E' h') →
  WP ⟨Tryz.prog,told⟩ 134 (.loop woL) E h Q:=by
 have hW:=hT.w
 intro rs
 induction rs with
 |nil =>
  intro a pre st J h E Q _ hl ha _ s hE hq
  have hq:∀E' h',Has E' [(0,pv),(6,.ptr q 0),(7,.int .i64 (a:Int))]→Sat h' (pt q (.cells 6 (zV p base b J 0 aB) false)::aV b l::.arr 1 J (dM st)::S)→Q (.exit 1) E' h':=fun E' h' h1 h2=>hq E' h' J h1 (by rw[lI,ej];exact h2)
  have hlen:l.length=a+j.length:=by rw[hl,logB,eB,bO,ha]
  refine WP.loop (WP.has hE (zK 6 rfl (zY s 0 fc bP rfl (zo rfl (aP rfl rfl rfl (bj aT (s.aH (k:=1) rfl (bu _ _)))) ?_))))
  by_cases hz:j.length=0
  ·skip
   refine zC rfl aN (by simp;omega) ?_
   exact zk 2 rfl (WP.exit (hq _ _ ⟨rfl,rfl,rfl,aa⟩ s))
  ·skip
   refine zB rfl aN (by simp;omega) ?_
   refine zk 3 rfl (WP.block (zw ?_))
   have s0:=s
   have Uk:=dg (s.buf (k:=1) rfl).view
   refine WP.drawn [af,af,af,af,af,af,af,af,af,af,af,af,af,some (1,2),some (1,2),some (1,3),some (1,3),af,af,af,af] rfl (by kernel_rfl) (by kernel_rfl) ?_
   refine zM rfl (zN rfl (zF rfl (fc _ _) (zL rfl (s.ld (k:=0) rfl bP rfl) (zM rfl (zM rfl (zN rfl (zF rfl (l9 _ _) (zL rfl (s.ld (k:=0) rfl l8 rfl) (zM rfl (ax.op rfl rfl rfl (by simp only[isEff,cM]) (b6 rfl (by exact ja bF cM (fK (by omega) (by omega)))) ?_))))))))))
   refine zO rfl (az rfl rfl (by exact bx (fK (by omega) (by omega)))) ?_
   refine ax.any rfl rfl rfl rfl (OpR.call rfl rfl rfl rfl (Nb (n:=base+a) (a:=a) hW hj ha hl (by omega) (s.ae [1]) (bu _ _))) ?_
   rintro x h ⟨rfl,s⟩
   dsimp only[zV,aL,bringA] at s
   have s1:=s
   have YS:=Ln (kd:=0) (tx:=0) (pv:=0) (nx:=0) (dt:=.bC) (ch:=.bC) (n:=0) (e:=4) rfl rfl
   have IE:=Bk (kd:=0) (tx:=0) (pv:=0) (nx:=0) (dt:=.bC) (ch:=.bC) rfl rfl
   refine zM rfl (zO rfl (cK rfl rfl) (zO rfl (cK rfl rfl) (zO rfl (cK rfl rfl) (ax.any rfl rfl rfl rfl (OpR.b8 s (bU qW)) ?_))))
   rintro v h ⟨p8,rfl,s⟩
   dsimp only[V.cells,List.length_cons,List.length_nil,Nat.reduceAdd] at s
   have s2:=s
   refine ax.iB rfl rfl rfl (OpR.eu rfl rfl rfl (s.ep (j:=0) rfl g8 rfl rfl)) ?_
   rintro v h ⟨rfl,s⟩
   dsimp only[setA] at s
   refine zA rfl (zA rfl ?_)
   refine ax.nil ⟨⟨aa,aa,aa,aa,aa,aa,aa,aa,aa,aa,aa,aa,aa,fun _ _=>.inr ⟨rfl,⟨_,bD rfl⟩,YS⟩,fun _ _=>.inr ⟨rfl,⟨_,cK rfl rfl⟩,IE⟩,fun _ _=>.inr ⟨rfl,⟨_,cK rfl rfl⟩,bn _ rfl⟩,fun _ _=>.inr ⟨rfl,⟨_,cK rfl rfl⟩,bn _ rfl⟩,aa,aa,aa,aa,aa⟩,?_⟩
   exact zK 4 rfl (zB rfl aD (rfl) (zk 2 rfl (WP.exit (hq _ _ ⟨rfl,rfl,rfl,aa⟩ ((s.del 0).ae [1,0,0])))))
 |cons r rs ih =>
  intro a pre st J h E Q uT hl ha dZ s hE hq
  have hr:=uT r b7
  have Du:(iL (base+a) r.bd).length=r.len:=by rw[sr];rfl
  have hlen:l.length=a+(r.len+((logB (base+a+r.len) rs).length+j.length)):=by rw[hl,logB];simp only[bO,ha,Du];omega
  have hr8:8≤r.len:=by rw[ct.len];omega
  refine WP.loop (WP.has hE (zK 6 rfl (zY s 0 fc bP rfl (zo rfl (aP rfl rfl rfl (bj aT (s.aH (k:=1) rfl (bu _ _)))) (zB rfl aN (by simp;omega) ?_)))))
  refine zk 3 rfl (WP.block (zw ?_))
  have s0:=s
  have Uk:=dg (s.buf (k:=1) rfl).view
  refine WP.drawn [af,af,af,af,af,af,af,af,af,af,af,af,af,some (1,2),some (1,2),some (1,3),some (1,3),af,af,af,af] rfl (by kernel_rfl) (by kernel_rfl) ?_
  refine zM rfl (zN rfl (zF rfl (fc _ _) (zL rfl (s.ld (k:=0) rfl bP rfl) (zM rfl (zM rfl (zN rfl (zF rfl (l9 _ _) (zL rfl (s.ld (k:=0) rfl l8 rfl) (zM rfl (ax.op rfl rfl rfl (by simp only[isEff,cM]) (b6 rfl (by exact ja bF cM (fK (by omega) (by omega)))) ?_))))))))))
  refine zO rfl (az rfl rfl (by exact bx (fK (by omega) (by omega)))) ?_
  refine ax.any rfl rfl rfl rfl (OpR.call rfl rfl rfl rfl (SW (r:=r) (n:=base+a) (a:=a) (rest:=logB (base+a+r.len) rs++j) hT hr ha (by rw[hl,logB,c9]) (by omega) (s.ae [1]) (bu _ _))) ?_
  rintro x h ⟨dt,ch,cs,rfl,s⟩
  dsimp only[zV,aL,bringA] at s
  have jB:=(s.buf (k:=1) rfl).view.cells
  have iI:=s.iY (j:=2) rfl
  have FH:=dg (s.buf (k:=1) rfl).view
  have dZ:[V.int .i64 (r.kd:Int),V.int .u64 (r.tx:Int),V.int .u64 (r.pv:Int),V.int .u64 (r.nx:Int),dt,ch].all storable=true:=mQ jB.2 iI.2.1
  have YS:=Ln (kd:=r.kd) (tx:=r.tx) (pv:=r.pv) (nx:=r.nx) (n:=((a+r.len:Nat):Int)) (e:=0) FH iI.2.2
  have IE:=Bk (kd:=r.kd) (tx:=r.tx) (pv:=r.pv) (nx:=r.nx) FH iI.2.2
  have s1:=s
  refine zM rfl (zO rfl (cK rfl rfl) (zO rfl (cK rfl rfl) (zO rfl (cK rfl rfl) (ax.any rfl rfl rfl rfl (OpR.b8 s (bU qW)) ?_))))
  rintro v h ⟨p8,rfl,s⟩
  dsimp only[V.cells,List.length_cons,List.length_nil,Nat.reduceAdd] at s
  have s2:=s
  refine ax.iB rfl rfl rfl (OpR.eu rfl rfl rfl (s.ep (j:=0) rfl g8 rfl dZ)) ?_
  rintro v h ⟨rfl,s⟩
  dsimp only[setA] at s
  refine zA rfl (zA rfl ?_)
  refine ax.nil ⟨⟨aa,aa,aa,aa,aa,aa,aa,aa,aa,aa,aa,aa,aa,fun _ _=>.inr ⟨rfl,⟨_,bD rfl⟩,YS⟩,fun _ _=>.inr ⟨rfl,⟨_,cK rfl rfl⟩,IE⟩,fun _ _=>.inr ⟨rfl,⟨_,cK rfl rfl⟩,bn _ rfl⟩,fun _ _=>.inr ⟨rfl,⟨_,cK rfl rfl⟩,bn _ rfl⟩,aa,aa,aa,aa,aa⟩,?_⟩
  refine zK 4 rfl (zC rfl aD (rfl) ?_)
  have s:=((((s.ae [5,5,1]).del 3).del 3).del 3).del 3
  dsimp only[bringA,getA,aL] at s
  refine zk 7 rfl (zY s 0 nX y_ rfl (zm rfl ?_))
  obtain⟨i1,jZ,jv,u_⟩:=xK
  obtain⟨iv,h1,e1,s1⟩:=kq (P:=Tryz.prog) (k:=1) (x:=.int .i64 (a:Int)) s dI C8 ke rfl (by decide) (by decide) rfl rfl
  dsimp only[V.cells] at s1
  refine ay.any rfl rfl rfl (OpR.of (R:=fun v h'=>v=iv∧h'=h1) (nk rfl e1) ⟨rfl,rfl⟩) ?_
  rintro v h' ⟨rfl,rfl⟩
  obtain⟨I,h2,e2,s2⟩:=iG (s1.ae [2,0]) dI jZ C8 jv (by omega) rfl (by decide) (by simp only[fV,aX,cI];omega)
  dsimp only[aL,bringA] at s2
  refine ay.any rfl rfl rfl (OpR.of (R:=fun v h'=>v=I∧h'=h2) (lP rfl rfl e2) ⟨rfl,rfl⟩) ?_
  rintro v h' ⟨rfl,rfl⟩
  have hv:=s2.iY (j:=0) rfl
  refine zk 2 rfl (zf rfl (nX _ _) (zS rfl (s2.eX (k:=2) rfl X8 rfl (by decide) hv.1 hv.2.1) ?_))
  intro h s
  dsimp only[Nat.reduceAdd,List.set,setA] at s
  refine za rfl (zv ?_)
  have s:=(s.ae [2,2,0]).del 3
  refine ih (a+r.len) (pre++iL (base+a) r.bd) (st++[a]) _ _ _ Q (fun x hx=>uT x (b5 _ hx)) (by rw[hl,logB];simp only[c9,nT]) (by rw[bO,ha,Du]) (by simp;omega) (by rw[show dM (st++[a])=dM st++[.int .i64 (a:Int)] by simp[dM]];exact s) ⟨rfl,rfl,rfl,aa⟩ (fun E' h' I jf s' => ?_)
  refine hq E' h' I ?_ ?_
  ·rw[logB,bO,Du,←nT,nT base]
   exact jf
  ·rw[lI,List.append_cons]
   exact s'
noncomputable def woE : Code:=cD [1,1,1,1,1,1,1,1,1] ((Tryz.f80.body).getD .skip)
theorem DN (hT:W told){st:List Nat}{sv:V}(s:Sat h (pt q (.cells 6 (zV p base b sv 0 aB) false)::aV b l::.arr 1 sv (dM st)::aR p δ::S))(hf:δ.aS<4294967296)(hE:Has E [(0,.ptr p 0),(6,.ptr q 0)]){y:Int×Dk}(J:y=if δ.bh<l.length then δ.cq else(0,δ))
 (h1:∀E' h',y.1≠0→look E' 2=some .cy→look E' 3=some (.int .i64 y.1)→Sat h' (aR p y.2::S)→Q .ret E' h')
 (h2:∀E' h',y.1=0→look E' 2=some (.ptr q 0)→look E' 3=some (.int .i64 0)→Sat h' (bS q p { base:=base,b:=l,cB:=st,forced:=l.length,check:=aB }::aR p y.2::S)→Q .ret E' h'):
  WP ⟨Tryz.prog,told⟩ 134 woE E h Q:=by
 refine WP.has hE (zK 2 rfl ?_)
 have s0:=s
 have I:=dg (s.buf (k:=1) rfl).view
 refine WP.drawn [none,none,some (0,2),some (0,2),some (0,2),some (0,2),some (0,2),none] rfl (by kernel_rfl) (by kernel_rfl) ?_
 refine zM rfl (ax.any rfl rfl rfl rfl (OpR.call rfl rfl rfl rfl (BM hT (s.ae [3]))) ?_)
 rintro v h' ⟨rfl,rfl⟩
 refine zM rfl (zN rfl (zF rfl (fc _ _) (zL rfl (s.ld (k:=0) rfl bP rfl) (zO rfl (aP rfl rfl rfl (bj aT (s.aH (k:=1) rfl (bu _ _)))) ?_))))
 by_cases hc:δ.bh<l.length
 ·skip
  rw[aJ hc] at J
  refine ax.pU rfl rfl rfl rfl (az rfl rfl aN) (by rw[show δ.xH=δ.bh from rfl];simp;omega) ?_
  refine ax.nil ⟨⟨aa,aa,fun _ _=>.inr ⟨rfl,⟨_,bD rfl⟩,bn _ rfl⟩,fun _ _=>.inr ⟨rfl,⟨_,oU rfl⟩,bn _ rfl⟩,fun _ _=>.inr ⟨rfl,⟨_,jS rfl (fc _ _)⟩,bn _ rfl⟩,dw (.inr ⟨rfl,⟨_,aW rfl (s0.ld (k:=0) rfl bP rfl)⟩,I⟩) (.inr ⟨rfl,⟨_,aW rfl (s.ld (k:=0) rfl bP rfl)⟩,I⟩),dw (.inr ⟨rfl,⟨_,aP rfl rfl rfl (bj aT (s0.aH (k:=1) rfl (bu _ _)))⟩,bn _ rfl⟩) (.inr ⟨rfl,⟨_,aP rfl rfl rfl (bj aT (s.aH (k:=1) rfl (bu _ _)))⟩,bn _ rfl⟩),aa,aa⟩,?_⟩
  refine zK 4 rfl (zc rfl (VM hT (s.ae [3]) hf) ?_)
  rintro v h ⟨rfl,s⟩
  rw[←J] at s
  rw[←J]
  by_cases h0:y.1=0
  ·skip
   rw[h0]
   refine zk 5 rfl (zC rfl aD (rfl) (zk 8 rfl (zY s 1 fc bP rfl (zo rfl (aP rfl rfl rfl (bj aT (s.aH (k:=2) rfl (bu _ _)))) (zn rfl (zf rfl (wI _ _) ?_))))))
   refine zS rfl (by exact s.eX (k:=1) rfl ke rfl (by decide) rfl rfl) (fun h s => ?_)
   exact zk 7 rfl (WP.ret (h2 _ _ h0 rfl rfl (ga.2 ⟨_,_,s.ae [1,1,1,0]⟩)))
  ·skip
   refine zk 5 rfl (zB rfl aD (by simpa using h0) ?_)
   exact zk 8 rfl (WP.ret (h1 _ _ h0 rfl rfl (((s.del 3).del 2).del 1)))
 ·skip
  rw[ak hc] at J
  subst J
  refine ax.kC rfl rfl rfl rfl (az rfl rfl aN) (by rw[show δ.xH=δ.bh from rfl];simp;omega) ?_
  refine ax.nil ⟨⟨aa,aa,fun _ _=>.inr ⟨rfl,⟨_,bD rfl⟩,bn _ rfl⟩,fun _ _=>.inr ⟨rfl,⟨_,oU rfl⟩,bn _ rfl⟩,fun _ _=>.inr ⟨rfl,⟨_,jS rfl (fc _ _)⟩,bn _ rfl⟩,dw (.inr ⟨rfl,⟨_,aW rfl (s0.ld (k:=0) rfl bP rfl)⟩,I⟩) (.inr ⟨rfl,⟨_,aW rfl (s.ld (k:=0) rfl bP rfl)⟩,I⟩),dw (.inr ⟨rfl,⟨_,aP rfl rfl rfl (bj aT (s0.aH (k:=1) rfl (bu _ _)))⟩,bn _ rfl⟩) (.inr ⟨rfl,⟨_,aP rfl rfl rfl (bj aT (s.aH (k:=1) rfl (bu _ _)))⟩,bn _ rfl⟩),aa,aa⟩,?_⟩
  refine zK 7 rfl (zY s 0 fc bP rfl (zo rfl (aP rfl rfl rfl (bj aT (s.aH (k:=1) rfl (bu _ _)))) (zn rfl (zf rfl (wI _ _) ?_))))
  refine zS rfl (by exact s.eX (k:=0) rfl ke rfl (by decide) rfl rfl) (fun h s => ?_)
  exact zk 7 rfl (WP.ret (h2 _ _ rfl rfl rfl (ga.2 ⟨_,_,s⟩)))
noncomputable def woR : Code:=cD [1,1,1,1,1,1] ((Tryz.f80.body).getD .skip)
theorem Gb (hT:WR told){qM:Nat}(hb:b=.sl qM 0 δ.log.length (.exact δ.log.length))(s:Sat h (pt q (.cells 6 (zV p base b .bC 0 aB) false)::aV b δ.log::aR p δ::S))(ob:δ.Ok)(xu:base+δ.log.length≤1099511627776)
 (I:δ.log=logB base rs++j)(uT:∀r∈rs,r.Ok)(hj:rF j)(hE:Has E [(0,.ptr p 0),(6,.ptr q 0)])
 (h1:∀E' h',(δ.c7 (logB base rs).length).1≠0→look E' 2=some .cy→look E' 3=some (.int .i64 (δ.c7 (logB base rs).length).1)→Sat h' (aR p (δ.c7 (logB base rs).length).2::S)→Q .ret E' h')
 (h2:∀E' h',(δ.c7 (logB base rs).length).1=0→look E' 2=some (.ptr q 0)→look E' 3=some (.int .i64 0)→Sat h' (bS q p (iZ base aB rs)::aR p (δ.c7 (logB base rs).length).2::S)→Q .ret E' h'):
  WP ⟨Tryz.prog,told⟩ 134 woR E h Q:=by
 have hW:=hT.w
 have F4:=ob.len
 have hlen:δ.log.length=(logB base rs).length+j.length:=by rw[I,bO]
 subst hb
 have PU:δ.log.take (logB base rs).length=logB base rs:=by rw[I,m7 rfl]
 generalize ho:δ.c7 (logB base rs).length=y at h1 h2
 unfold Dk.c7 at ho
 refine WP.has hE (zK 5 rfl (WP.block ?_))
 refine Nd (pv:=.ptr p 0) hT F4 xu hj rs 0 [] [] .bC h _ _ uT (by rw[eB];exact I) rfl (by simp) ((s.ae [0,0]).oO.ae [1,1,0]) ⟨rfl,rfl,rfl,aa⟩ (fun E h sv hE s => ?_)
 rw[m9,gK] at hE
 rw[eB] at s
 refine WP.has hE (zK 6 rfl (zY s 0 fc bP rfl (zo rfl (aP rfl rfl rfl (p_ rfl aT)) ?_)))
 have J:(δ.dR (logB base rs).length)=if (logB base rs).length<δ.log.length then δ.qF (logB base rs).length else(0,δ):=rfl
 by_cases cE:(logB base rs).length<δ.log.length
 ·skip
  rw[aJ cE] at J
  refine zB rfl aN (by simp;omega) ?_
  refine zk 7 rfl (zc rfl (YR (n:=(logB base rs).length) hW (s.ae [3]) ob) ?_)
  rintro v h ⟨rfl,s⟩
  rw[←J] at s
  rw[←J]
  by_cases h0:(δ.dR (logB base rs).length).1=0
  ·skip
   rw[ak (not_not_intro h0)] at ho
   rw[h0]
   refine zk 5 rfl (zC rfl aD (rfl) ?_)
   have j_:=(iK (s.buf (k:=2) rfl).view (b:=(logB base rs).length) (by omega)).1
   rw[abA] at j_
   refine zk 7 rfl (zY s 1 fc bP rfl (zm rfl (zo rfl (bV (p:=none) (q:=some (.int .i64 ((logB base rs).length:Int))) (m:=none) (p':=none) (q':=some (logB base rs).length) (m':=none) rfl rfl rfl rfl rfl (by simp[iW,bndV]) rfl j_) ?_)))
   refine zn rfl (zf rfl (fc _ _) (zS rfl (s.eX (k:=1) rfl ij rfl (by decide) rfl rfl) ?_))
   intro h s
   have s:=(s.ae [2]).gX (PT (n:=(logB base rs).length) (by omega))
   rw[PU] at s
   exact zv (DN (l:=logB base rs) hW (s.ae [2,0,1,0]) ob.dR.aS ⟨rfl,rfl,aa⟩ ho.symm h1 h2)
  ·skip
   rw[aJ h0] at ho
   rw[ho] at h0 s
   rw[ho]
   refine zk 5 rfl (zB rfl aD (by simpa using h0) ?_)
   exact zk 8 rfl (WP.ret (h1 _ _ h0 rfl rfl (((s.del 3).del 2).del 1)))
 ·skip
  rw[ak cE] at J
  rw[J,ak (by simp)] at ho
  refine zC rfl aN (by simp;omega) ?_
  refine zk 3 rfl ?_
  have e:δ.log=logB base rs:=by
   rw[eW (by omega)] at PU
   exact PU
  exact DN (l:=logB base rs) hW (by rw[e] at s;exact s) ob.aS ⟨rfl,rfl,aa⟩ ho.symm h1 h2
def PV (mark:List Nat)(base aB:Nat): Prop:=(mark=[]∧base=1∧aB=0)∨mark=le 8 base++le 8 aB
theorem SX (hT:WR told)(s:Sat h (aR p δ::S))(ob:δ.Ok)(hd:δ.dead=false)(hm:PV δ.mark base aB)(I:base+δ.log.length≤1099511627776)(Nf:aB<18446744073709551616)
 (J:δ.log=logB base rs++j)(uT:∀r∈rs,r.Ok)(hj:rF j):
  Call ⟨Tryz.prog,told⟩ 80 [.ptr p 0] h fun v h'=>((δ.c7 (logB base rs).length).1≠0∧v=.bf [.cy,.int .i64 (δ.c7 (logB base rs).length).1]∧Sat h' (aR p (δ.c7 (logB base rs).length).2::S)) ∨
   ((δ.c7 (logB base rs).length).1=0∧∃q,v=.bf [.ptr q 0,.int .i64 0]∧Sat h' (bS q p (iZ base aB rs)::aR p (δ.c7 (logB base rs).length).2::S)):=by
 have hW:=hT.w
 have F4:=ob.len
 have ve:δ.mark.length≤64:=by rcases hm with⟨hm,_⟩|hm<;>rw[hm]<;>simp[cR]
 refine Call.of_wp (hW.free _ rfl) Tryz.func80 rfl rfl (zK 8 rfl (zc rfl (Dp hW s ve) ?_))
 rintro v h (⟨Fz,_,_⟩|⟨_,b0,rfl,s⟩)
 ·rw[hd] at Fz;cases Fz
 refine zk 10 rfl (zC rfl aD (rfl) (zk 6 rfl (zo rfl (dn rfl (by rw[Ue];rfl)) ?_)))
 refine ay.b8 s rfl rfl rfl (fg rfl rfl) (fun p23 h s => ?_)
 dsimp only[V.cells,List.take,List.length_cons,List.length_nil,Nat.reduceAdd,List.drop,List.cons_append,List.nil_append] at s
 refine zk 7 rfl ?_
 have s:=s.ae [2,0,0]
 dsimp only[bringA,getA,aL] at s
 refine zc rfl (Nc hW s hd (by omega)) ?_
 rintro v h ⟨qM,rfl,s⟩
 refine zk 4 rfl (zf rfl (fc _ _) (zS rfl (s.eX (k:=2) rfl ij rfl (by decide) rfl rfl) ?_))
 intro h s
 dsimp only[Nat.reduceAdd,List.set,setA] at s
 refine zk 5 rfl (zC rfl aD (rfl) (zk 7 rfl (zo rfl (aP rfl rfl rfl (bj aT (s.aH (k:=3) rfl (bu _ _)))) (zv (WP.block (zg rfl ?_))))))
 rcases hm with⟨hm,rfl,rfl⟩|hm
 ·skip
  refine zB rfl dG (by rw[hm];rfl) ?_
  refine za rfl (zv (zi rfl (WP.skip ?_)))
  exact Gb hT rfl ((s.ae [2,0,0]).del 3) ob I J uT hj ⟨rfl,rfl,aa⟩ (fun E' h' h0 e1 e2 s'=>⟨aa,_,uC e1 e2,.inl ⟨h0,rfl,s'⟩⟩) (fun E' h' h0 e1 e2 s'=>⟨aa,_,uC e1 e2,.inr ⟨h0,_,rfl,s'⟩⟩)
 ·skip
  have h16:δ.mark.length=16:=by rw[hm];simp[cR]
  refine zC rfl dG (by rw[h16];rfl) ?_
  refine zk 5 rfl (zB rfl dG (by rw[h16];rfl) ?_)
  refine zk 3 rfl ?_
  have w1:δ.mark.take 8=le 8 base:=by rw[hm,m7 (by rw[cR])]
  have w2:δ.mark.drop 8=le 8 aB:=by rw[hm,vY (by rw[cR])]
  have hbv:=dg (s.buf (k:=3) rfl).view
  have s0:=s
  refine WP.drawn [some (0,3),some (0,4),af,af,af,some (0,2),some (0,2),af,af,af,af,af,af,af] rfl (by kernel_rfl) (by kernel_rfl) ?_
  refine zM rfl (zM rfl (zM rfl (zO rfl (bV (p:=none) (q:=some (.int .i64 8)) (m:=none) (p':=none) (q':=some 8) (m':=none) rfl rfl rfl rfl rfl rfl rfl (iK (s.buf (k:=3) rfl).view (b:=8) (by omega)).1) ?_)))
  refine ax.any rfl rfl rfl rfl (OpR.call rfl rfl rfl rfl (n4 hW s (k:=3) rfl (xC (bu _ _) (b:=8) (by omega)) (by rw[w1,cR];decide))) ?_
  rintro v h' ⟨rfl,rfl⟩
  rw[w1,sj,qS (by omega)]
  refine zM rfl (zO rfl (bV (p:=some (.int .i64 8)) (q:=none) (m:=none) (p':=some 8) (q':=none) (m':=none) rfl rfl rfl rfl rfl rfl rfl (cf (s.buf (k:=3) rfl).view (a:=8) (by omega)).1) ?_)
  refine ax.any rfl rfl rfl rfl (OpR.call rfl rfl rfl rfl (n4 hW s (k:=3) rfl (rq (bu _ _) (a:=8) (by omega)) (by rw[w2,cR];decide))) ?_
  rintro v h' ⟨rfl,rfl⟩
  rw[w2,sj,qS (by omega)]
  refine zN rfl (zF rfl (l9 _ _) (ax.iB rfl rfl rfl (OpR.eu rfl rfl rfl (s.eX (k:=2) rfl vD rfl (by decide) rfl rfl)) ?_))
  rintro v h ⟨rfl,s⟩
  have s2:=s
  refine zN rfl (zF rfl (KZ _ _) (ax.iB rfl rfl rfl (OpR.eu rfl rfl rfl (s.eX (k:=2) rfl vD rfl (by decide) rfl rfl)) ?_))
  rintro v h ⟨rfl,s⟩
  have zX:=dg (cf (s0.buf (k:=3) rfl).view (a:=8) (by omega)).2.1
  refine ax.nil ⟨⟨fun _ _=>.inr ⟨rfl,⟨_,bD rfl⟩,bn _ rfl⟩,fun _ _=>.inr ⟨rfl,⟨_,bD rfl⟩,bn _ rfl⟩,aa,aa,aa,fun _ _=>.inr ⟨rfl,⟨_,bD rfl⟩,hbv⟩,dw (.inr ⟨rfl,⟨_,bV (p:=some (.int .i64 8)) (q:=none) (m:=none) (p':=some 8) (q':=none) (m':=none) rfl rfl rfl rfl rfl rfl rfl (cf (s0.buf (k:=3) rfl).view (a:=8) (by omega)).1⟩,zX⟩) (.inr ⟨rfl,⟨_,bV (p:=some (.int .i64 8)) (q:=none) (m:=none) (p':=some 8) (q':=none) (m':=none) rfl rfl rfl rfl rfl rfl rfl (cf (s0.buf (k:=3) rfl).view (a:=8) (by omega)).1⟩,zX⟩),aa,aa,aa,aa,aa,aa,aa,aa⟩,?_⟩
  exact Gb hT rfl ((s.ae [2,0,0]).del 3) ob I J uT hj ⟨rfl,rfl,aa⟩ (fun E' h' h0 e1 e2 s'=>⟨aa,_,uC e1 e2,.inl ⟨h0,rfl,s'⟩⟩) (fun E' h' h0 e1 e2 s'=>⟨aa,_,uC e1 e2,.inr ⟨h0,_,rfl,s'⟩⟩)
end
def bornE (n:Int)(c:Nat): cm→Nat
 |[]=>c
 |e::l=>if e.1=n then e.2.2 else bornE n c l
def pH (n:Int)(z:V)(c:Nat): cm→cm
 |[]=>[(n,z,c)]
 |e::l=>if e.1=n then e::l else e::pH n z c l
theorem SY : ∀ {l:cm} {b:Nat},b≤c→fh c b l→b≤bornE n c l:=by
 intro l
 induction l with
 |nil=>intro b h _;exact h
 |cons e l J =>
  intro b h I
  simp only[bornE]
  by_cases he:e.1=n
  ·rw[aJ he];exact I.1
  ·rw[ak he]
   have:=J (b:=e.2.2+1) I.2.1 I.2.2
   have:=I.1
   omega
theorem Wc : ∀ {l:cm},lookE n l=none→pH n z c l=l++[(n,z,c)]∧bornE n c l=c:=by
 intro l
 induction l<;>grind[lookE,pH,bornE]
theorem Wd {u:V}: ∀ {l:cm},lookE n l=some u→pH n z c l=l:=by
 intro l
 induction l<;>grind[lookE,pH]
theorem PW : ∀ {l:cm} {i j:Nat} {u:V},idxE n l i=some (j,u)→i≤j∧nth (l.map eP) (j-i)=some (.int .i64 n,u,bornE n c l):=by
 intro l
 induction l<;>grind[idxE,bornE,eP,gP]
theorem We {v:V}: ∀ {l:cm} {b i:Nat},b≤c→fh c b l→∃j,findBorn ((pH n z c l).map eP) (bornE n c l:Int) i=some (i+j)∧setNth ((pH n z c l).map eP) j (fun e=>(e.1,v,e.2.2))=(j8 n v c l).map eP:=by
 intro l
 induction l with
 |nil =>
  intro b i h _
  refine⟨0,?_,rfl⟩<;>grind[pH,bornE,eP,findBorn,lC]
 |cons e l J =>
  intro b i h I
  by_cases he:e.1=n
  ·refine⟨0,?_,?_⟩
   ·grind[pH,bornE,eP,findBorn,lC]
   ·simp only[pH,j8,aJ he,iu]
    rfl
  ·obtain⟨j,g1,g2⟩:=J (b:=e.2.2+1) (i:=i+1) I.2.1 I.2.2
   have Xz:=SY (n:=n) (b:=e.2.2+1) I.2.1 I.2.2
   refine⟨j+1,?_,?_⟩
   ·grind[pH,bornE,findBorn,eP,kY]
   grind[pH,j8,setNth,Nat.beq]
section
variable {v:V} {kt et:TypeId} {k:IntKind} {l:cm}
theorem PX : ∀ {S:List aO} {j:Nat} {A:aO},getA S j=some A→setA S j A=S:=by
 intro S
 induction S with
 |nil=>intro j A h;cases h
 |cons B S I =>
  intro j A h
  cases j<;>grind[getA,setA]
theorem Sat.entry (s:Sat h S)(hj:getA S j=some (gv id l c))(hu:P.underlying t=some (.map kt et))(hk:P.underlying kt=some (.int k))(hz:zeroT P et=some z):
  ∃w h',mapEntryV P h t (.map id) (.int .i64 n)=some (.bf [w,.int .i64 (bornE n c l:Int)],h')∧Sat h' (setA S j (gv id (pH n z c l) (clkE n c l))):=by
 have hg:=s.row hj
 simp only[mapEntryV,hu,hk,hz,hg,keyBeq,dD,aj,ru]
 have I:=qa (n:=n) l 0
 cases J:idxE n l 0 with
 |none =>
  rw[J] at I
  have I:lookE n l=none:=I.symm
  refine⟨z,h.put id (some (.map ((pH n z c l).map eP) (clkE n c l))),?_,s.put hj⟩<;>grind[eP,clkE,Wc]
 |some q =>
  obtain⟨i,u⟩:=q
  rw[J] at I
  have I:lookE n l=some u:=I.symm
  have hb:=(PW (c:=c) J).2
  rw[lS] at hb
  refine⟨u,h,?_,?_⟩
  ·grind
  ·grind[Wd,clkE,PX]
theorem Sat.entryStore (s:Sat h S)(I:getA S j=some (gv id (pH n z c l) (clkE n c l)))(J:fh c 0 l):
  ∃h',entryStoreV h (.map id) (.int .i64 (bornE n c l:Int)) v=some h'∧Sat h' (setA S j (gv id (j8 n v c l) (clkE n c l))):=by
 have hg:=s.row I
 obtain⟨i,g1,g2⟩:=We (n:=n) (z:=z) (v:=v) (i:=0) (fX c) J
 refine⟨h.put id (some (.map ((j8 n v c l).map eP) (clkE n c l))),?_,s.put I⟩<;>grind[entryStoreV]
end
theorem OpR.mapEntry {x:Operand}{a b v:V}{h₁:H}(I:o.op=.mapEntry t x y)(J:bB E x=some a)(hy:bB E y=some b)
 (ho:mapEntryV C.P h t a b=some (v,h₁)): OpR C E h o fun w h'=>w=v∧h'=h₁ :=
 ⟨v,h₁,⟨rfl,rfl⟩,fun env hE=>⟨0,by grind[evOp,bX]⟩⟩
theorem OpR.entryStore {x z:Operand}{a b v:V}{S':List aO}(I:o.op=.entryStore t x y z)(hx:bB E x=some a)(hy:bB E y=some b)(hz:bB E z=some v)
 (ho:∃h₁,entryStoreV h a b v=some h₁∧Sat h₁ S'): OpR C E h o fun _ h₁=>Sat h₁ S':=by
 obtain⟨h₁,e1,J⟩:=ho
 exact⟨cu,h₁,J,fun env hE=>⟨0,by grind[evOp,bX,sQ]⟩⟩
abbrev IZ := List (Int×List Nat)
def bufsA : cm→IZ→aO
 |[],[]=>.pu True
 |e::l,x::m=>star [.pu (e.1=x.1),aV e.2.1 x.2,bufsA l m]
 |_,_=>.pu False
def qG (n:Int): cm→IZ→aO
 |[],[]=>.pu True
 |e::l,x::m=>if e.1=n then star [.pu (e.1=x.1),bufsA l m] else star [.pu (e.1=x.1),aV e.2.1 x.2,qG n l m]
 |_,_=>.pu False
section
variable {u:V} {x:List Nat}
theorem PY : ∀ {l:cm} {m:IZ} {S:List aO},lookE n l=none→Sat h (bufsA l m::S)→lookL n m=none∧Sat h (qG n l m::S):=by
 intro l
 induction l with
 |nil=>intro m S _ s;cases m with
  |nil=>exact⟨rfl,s⟩
  |cons x m=>exact(eR.1 s).1.elim
 |cons e l J=>intro m S I s;cases m with
  |nil=>exact(eR.1 s).1.elim
  |cons x m =>
   obtain⟨hk,s⟩:=eR.1 (br.1 s)
   simp only[lookE] at I
   by_cases he:e.1=n
   ·grind
   ·rw[ak he] at I
    obtain⟨g1,g2⟩:=J (S:=aV e.2.1 x.2::S) I (s.ae [1])
    refine⟨?_,?_⟩
    ·grind[lookL]
    ·simp only[qG,ak he]
     exact br.2 (eR.2 ⟨hk,g2.ae [1]⟩)
theorem PZ : ∀ {l:cm} {m:IZ} {S:List aO},lookE n l=some u→Sat h (bufsA l m::S)→∃x,lookL n m=some x∧Sat h (aV u x::qG n l m::S):=by
 intro l
 induction l with
 |nil=>intro m S I s;cases I
 |cons e l ih=>intro m S I s;cases m with
  |nil=>exact(eR.1 s).1.elim
  |cons x m =>
   obtain⟨J,s⟩:=eR.1 (br.1 s)
   simp only[lookE] at I
   by_cases he:e.1=n
   ·rw[aJ he] at I
    injection I with I
    subst I
    refine⟨x.2,by grind[lookL],?_⟩
    simp only[qG,aJ he]
    have s2:Sat h (star [.pu (e.1=x.1),bufsA l m]::aV e.2.1 x.2::S):=br.2 (eR.2 ⟨J,s.ae [1]⟩)
    exact s2.ae [1]
   ·rw[ak he] at I
    obtain⟨y,g1,g2⟩:=ih (S:=aV e.2.1 x.2::S) I (s.ae [1])
    refine⟨y,by grind[lookL],?_⟩
    simp only[qG,ak he]
    have s2:Sat h (star [.pu (e.1=x.1),aV e.2.1 x.2,qG n l m]::aV u y::S):=br.2 (eR.2 ⟨J,g2.ae [2,1]⟩)
    exact s2.ae [1]
theorem SZ : ∀ {l:cm} {m:IZ} {S:List aO},Sat h (aV u x::qG n l m::S)→Sat h (bufsA (j8 n u c l) (cG n x m)::S):=by
 intro l
 induction l with
 |nil=>intro m S s;cases m with
  |nil=>exact br.2 (eR.2 ⟨rfl,s⟩)
  |cons y m=>exact(eR.1 s.drop).1.elim
 |cons e l J=>intro m S s;cases m with
  |nil=>exact(eR.1 s.drop).1.elim
  |cons y m =>
   by_cases he:e.1=n
   ·simp only[qG,aJ he] at s
    obtain⟨I,s⟩:=eR.1 (br.1 (s.ae [1]))
    simp only[j8,cG,←I,aJ he]
    exact br.2 (eR.2 ⟨he,(s.ae [1,0])⟩)
   ·simp only[qG,ak he] at s
    obtain⟨I,s⟩:=eR.1 (br.1 (s.ae [1]))
    simp only[j8,cG,←I,ak he]
    have s2:=J (S:=aV e.2.1 y.2::S) (s.ae [2,1])
    exact br.2 (eR.2 ⟨I,s2.ae [1]⟩)
theorem Kr : ∀ {l:cm} {m:IZ} {S:List aO},Sat h (bufsA l m::S)→Sat h (eV (fun v b=>.cg v b) l m::S):=by
 intro l
 induction l with
 |nil=>intro m S s;cases m with
  |nil=>exact s
  |cons x m=>exact(eR.1 s).1.elim
 |cons e l I=>intro m S s;cases m with
  |nil=>exact(eR.1 s).1.elim
  |cons x m =>
   obtain⟨J,s⟩:=eR.1 (br.1 s)
   have s2:=I (S:=BK e.2.1 x.2::S) (s.gC.ae [1])
   have s3:=(s2.ae [1]).two (C:=eV (fun v b=>.cg v b) (e::l) (x::m)) (aY.cg _ _) (aY.HR (fun _ _=>aY.cg _ _) _ _) fun a b h1 h2=>⟨⟨J,h1⟩,h2⟩
   exact s3
end
structure iU where
 aq:IZ
 oF:List (Int×Nat)
variable {ρ:iU}
def chgF (n:Nat)(c:cn)(ρ:iU): iU :=
 if c.whole=true then { aq:=cG c.aK c.b ρ.aq,oF:=cG c.aK n ρ.oF } else
 match lookL c.aK ρ.aq with
 |none=>ρ
 |some b=>{ aq:=cG c.aK (bp b c.pos.toNat c.b) ρ.aq,oF:=cG c.aK n ρ.oF }
abbrev Cm (v:V)(n:Nat): aO:=.pu (v=.int .u64 (n:Int))
def xY (x:Nat)(ρ:iU): aO:=xs fun i:Nat=>xs fun l:cm=>xs fun k:Nat=>xs fun j:Nat=>xs fun m:cm=>xs fun g:Nat =>
 star [.pu (fh k 0 l∧(ρ.aq.map (·.1)).Nodup∧fh g 0 m∧(ρ.oF.map (·.1)).Nodup),pt x (.cells 2 [.map i,.map j] false),gv i l k,bufsA l ρ.aq,gv j m g,eV Cm m ρ.oF]
theorem BV (l:List Nat): bp l 0 l=l:=by simp[bp]
section
variable {told:dc} {u v:V} {x n:Nat} {c:cn}
theorem uF : Sat h (xY x ρ::S)↔∃i l k j m g,(fh k 0 l∧(ρ.aq.map (·.1)).Nodup∧fh g 0 m∧(ρ.oF.map (·.1)).Nodup) ∧
  Sat h (pt x (.cells 2 [.map i,.map j] false)::gv i l k::bufsA l ρ.aq::gv j m g::eV Cm m ρ.oF::S):=by
 simp only[xY,ic,br,jk,eB,eR]
noncomputable def chR : Code:=cD [1,1,1] ((Tryz.f137.body).getD .skip)
theorem xZ (hT:W told){g p5:Nat}{l m:cm}(hb:b.length=512)(hc:c.Ok)(J:fh k 0 l)(h2:(ρ.aq.map (·.1)).Nodup)(h3:fh g 0 m)(h4:(ρ.oF.map (·.1)).Nodup)
 (s:Sat h (aV v b::.cg u c.b::pt x (.cells 2 [.map i,.map j] false)::gv i l k::qG c.aK l ρ.aq::gv j m g::eV Cm m ρ.oF::pt p5 (.cells 4 [.int .i64 c.aK,.int .i64 c.pos,.bool c.whole,u] false)::S))(hE:Has E [(0,.ptr x 0),(1,.int .u64 (n:Int)),(5,.ptr p5 0),(6,v)])
 (hq:∀E' h',Sat h' (xY x { aq:=cG c.aK (bp b c.pos.toNat c.b) ρ.aq,oF:=cG c.aK n ρ.oF }::.cg u c.b::S)→Q .normal E' h'): WP ⟨Tryz.prog,told⟩ 52 chR E h Q:=by
 obtain⟨c1,c2,c3,c4,c5,c6⟩:=hc
 obtain⟨a,ha⟩:∃a:Nat,c.pos=a:=⟨c.pos.toNat,by omega⟩
 refine WP.has hE (zw ?_)
 have s0:=s
 have I:=dg (s.buf (k:=0) rfl).view
 have sK:=dg (s.aH (k:=1) rfl (dF _ _))
 rw[ha] at s
 have sl:=(cf (s.buf (k:=0) rfl).view (a:=a) (by omega)).1
 refine WP.drawn [af,af,af,af,af,af,af] rfl (by kernel_rfl) (by kernel_rfl) ?_
 refine zM rfl (zF rfl (pY _ _) (zL rfl (s.ld (k:=7) rfl cL rfl) (zO rfl (bV (p:=some (.int .i64 (a:Int))) (q:=none) (m:=none) (p':=some a) (q':=none) (m':=none) rfl rfl rfl rfl (by simp[iW,bndV]) rfl rfl sl) ?_)))
 refine zF rfl (nh _ _) (zL rfl (s.ld (k:=7) rfl bP rfl) (ax.any rfl rfl rfl rfl (OpR.PS rfl s (dF _ _) (by omega) (by omega) rfl rfl rfl rfl rfl) ?_))
 intro r h s
 refine ax.nil ⟨⟨aa,aa,aa,aa,aa,aa,aa,aa⟩,?_⟩
 have s0:=s
 refine WP.drawn [af,af,af,af,af,af,af,af,af,af,some (0,3),some (0,3),some (0,2),some (0,4),af,af,af,af,af,af] rfl (by kernel_rfl) (by kernel_rfl) ?_
 refine zM rfl (zN rfl (zF rfl (p9 _ _) (zL rfl (s.ld (k:=2) rfl jQ rfl) (zF rfl (nZ _ _) (zL rfl (s.ld (k:=7) rfl cL rfl) (zM rfl (zN rfl (zF rfl (K0 _ _) (zL rfl (s.ld (k:=2) rfl Uf rfl) (zF rfl (nZ _ _) (zL rfl (s.ld (k:=7) rfl cL rfl) (zM rfl (zM rfl ?_)))))))))))))
 obtain⟨w1,hh1,e1,s1⟩:=s.entry (j:=3) (n:=c.aK) rfl kZ bF o8
 refine ax.any rfl rfl rfl rfl (OpR.mapEntry rfl rfl rfl e1) ?_
 rintro r1 lZ ⟨rfl,rfl⟩
 refine zO rfl (cK rfl rfl) (ax.iB rfl rfl rfl (OpR.entryStore rfl rfl rfl rfl (s1.entryStore (j:=3) (v:=v) rfl J)) ?_)
 intro r2 Uv s2
 obtain⟨w3,hh3,e3,s3⟩:=s2.entry (j:=5) (n:=c.aK) rfl Tryz.underlying208 bF X9
 refine ax.any rfl rfl rfl rfl (OpR.mapEntry rfl rfl rfl e3) ?_
 rintro r3 hr3 ⟨rfl,rfl⟩
 refine zO rfl (cK rfl rfl) (ax.iB rfl rfl rfl (OpR.entryStore rfl rfl rfl rfl (s3.entryStore (j:=5) (v:=.int .u64 (n:Int)) rfl h3)) ?_)
 intro r4 hh4 s
 refine ax.nil ⟨⟨aa,aa,aa,aa,aa,aa,aa,aa,aa,aa,fun _ _=>.inr ⟨rfl,⟨_,jS rfl (nZ _ _)⟩,bn _ rfl⟩,uf (.inr ⟨rfl,⟨_,aW rfl (s0.ld (k:=7) rfl cL rfl)⟩,bn _ rfl⟩) (.inr ⟨rfl,⟨_,aW rfl (s1.ld (k:=7) rfl cL rfl)⟩,bn _ rfl⟩) (.inr ⟨rfl,⟨_,aW rfl (s2.ld (k:=7) rfl cL rfl)⟩,bn _ rfl⟩),fun _ _=>.inr ⟨rfl,⟨_,bD rfl⟩,I⟩,fun _ _=>.inr ⟨rfl,⟨_,bD rfl⟩,bn _ rfl⟩,aa,aa,aa,aa,aa,aa,aa⟩,?_⟩
 have s:=SZ (c:=k) (s.ae [0,3])
 have s:=(s.ae [5]).gX (B:=eV Cm (j8 c.aK (.int .u64 (n:Int)) g m) (cG c.aK n ρ.oF)) fun a b h=>FO (f:=Cm) (x:=n) (show V.int .u64 (n:Int)=_ from rfl) h
 refine hq _ _ ?_
 have e:c.pos.toNat=a:=by omega
 rw[e]
 have s:=s.del 6
 exact(uF.2 ⟨i,_,_,j,_,_,⟨zH rfl (fX _) J,jd h2,zH rfl (fX _) h3,jd h4⟩,s.ae [3,3,1,2,0]⟩)
theorem P0 (J:W told)(hρ:∀e∈ρ.aq,e.2.length=512)(hc:c.Ok)(s:Sat h (xY x ρ::.cg u c.b::S)):
  Call ⟨Tryz.prog,told⟩ 137 [.ptr x 0,.int .u64 (n:Int),.agg [.int .i64 c.aK,.int .i64 c.pos,.bool c.whole,u]] h fun v h'=>v=.bf []∧Sat h' (xY x (chgF n c ρ)::.cg u c.b::S):=by
 obtain⟨i,l,k,j,m,g,⟨h1,h2,h3,h4⟩,s⟩:=uF.1 s
 have hu:=(s.aH (k:=5) rfl (dF _ _)).cells
 have sK:=dg (s.aH (k:=5) rfl (dF _ _))
 refine Call.of_wp (J.free _ rfl) Tryz.func137 rfl rfl (zg rfl (ay.b8 s rfl rfl rfl (fg rfl (by simp only[V.cells,gJ,ki,hu.2];rfl)) ?_))
 intro p5 h s
 dsimp only[V.cells] at s
 dsimp only[List.length_cons,List.length_nil,Nat.reduceAdd] at s
 refine zk 2 rfl ?_
 have e2:=s.Ul (n:=c.aK) (j:=2) rfl kZ bF o8
 have I:c.whole=true→c.pos=0∧c.b.length=512:=hc.2.2.2.2.2
 have kz:c.b.length≤512:=by have:=hc.2.2.1;have:=hc.2.2.2.2.1;omega
 have s0:=s
 rcases hle:lookE c.aK l with _|u0
 ·skip
  rw[hle] at e2
  obtain⟨P3,s⟩:=PY hle (s.ae [3])
  have hX:=s
  have s:=s0
  refine WP.drawn [af,af,af,af,af,af,af,af,af,af,af,af] rfl (by kernel_rfl) (by kernel_rfl) ?_
  refine zM rfl (zN rfl (zF rfl (p9 _ _) (zL rfl (s.ld (k:=1) rfl jQ rfl) (zF rfl (nZ _ _) (zL rfl (s.ld (k:=0) rfl cL rfl) (zO rfl (iC rfl rfl e2) (zM rfl (zO rfl (cK rfl rfl) (zO rfl (cK rfl rfl) (zA rfl (zA rfl ?_)))))))))))
  refine ax.nil ⟨⟨aa,aa,aa,aa,aa,aa,aa,aa,aa,aa,aa,aa,aa⟩,?_⟩
  refine zw (WP.block (zg rfl (zf rfl (wJ _ _) ?_)))
  by_cases hw:c.whole=true
  ·skip
   refine zt rfl (aW rfl (s.ld (k:=0) rfl jK rfl)) (hw) (zk 4 rfl (zY s 0 nh bP rfl (zc rfl (mH J (hX.ae [6]) (dF _ _) (by omega)) ?_)))
   intro v h s
   dsimp only[aL,bringA] at s
   refine za rfl (zv ?_)
   refine xZ (n:=n) J (I hw).2 hc h1 h2 h3 h4 (s.ae [0,0,2,2,0,1,1,0]) ⟨rfl,rfl,rfl,rfl,aa⟩ (fun E' h' s' => ?_)
   have e:bp c.b c.pos.toNat c.b=c.b:=by rw[(I hw).1];exact BV _
   rw[e] at s'
   refine⟨aa,_,rfl,rfl,?_⟩
   rw[chgF,aJ hw]
   exact s'
  ·skip
   refine zh rfl (aW rfl (s.ld (k:=0) rfl jK rfl)) (by simpa using hw) ?_
   refine zk 6 rfl (zo rfl (dQ rfl rfl) (zk 3 rfl (WP.ret ⟨aa,_,rfl,?_⟩)))
   have e:chgF n c ρ=ρ:=by rw[chgF,ak hw,P3]
   rw[e]
   exact⟨rfl,(uF.2 ⟨i,l,k,j,m,g,⟨h1,h2,h3,h4⟩,s.drop⟩)⟩
 ·skip
  rw[hle] at e2
  obtain⟨y,P3,s⟩:=PZ hle (s.ae [3])
  have hX:=s
  have s:=s0
  have ac3:=dg (hX.buf (k:=0) rfl).view
  have hy:y.length=512:=hρ _ (fI P3)
  refine WP.drawn [af,af,af,af,af,af,af,af,af,af,af,af] rfl (by kernel_rfl) (by kernel_rfl) ?_
  refine zM rfl (zN rfl (zF rfl (p9 _ _) (zL rfl (s.ld (k:=1) rfl jQ rfl) (zF rfl (nZ _ _) (zL rfl (s.ld (k:=0) rfl cL rfl) (zO rfl (iC rfl rfl e2) (zM rfl (zO rfl (cK rfl rfl) (zO rfl (cK rfl rfl) (zA rfl (zA rfl ?_)))))))))))
  refine ax.nil ⟨⟨aa,aa,aa,aa,aa,aa,aa,aa,aa,aa,aa,aa,aa⟩,?_⟩
  refine zw (WP.block (zg rfl (zf rfl (wJ _ _) ?_)))
  by_cases hw:c.whole=true
  ·skip
   refine zt rfl (aW rfl (s.ld (k:=0) rfl jK rfl)) (hw) (zk 4 rfl (zY s 0 nh bP rfl (zc rfl (mH J ((hX.drop).ae [6]) (dF _ _) (by omega)) ?_)))
   intro v h s
   dsimp only[aL,bringA] at s
   refine za rfl (zv ?_)
   refine xZ (n:=n) J (I hw).2 hc h1 h2 h3 h4 (s.ae [0,0,2,2,0,1,1,0]) ⟨rfl,rfl,rfl,rfl,aa⟩ (fun E' h' s' => ?_)
   have e:bp c.b c.pos.toNat c.b=c.b:=by rw[(I hw).1];exact BV _
   rw[e] at s'
   refine⟨aa,_,rfl,rfl,?_⟩
   rw[chgF,aJ hw]
   exact s'
  ·skip
   refine zh rfl (aW rfl (s.ld (k:=0) rfl jK rfl)) (by simpa using hw) ?_
   refine za rfl (zv (zj rfl (zg rfl (zm rfl (zo rfl (dQ rfl rfl) (za rfl (zv (zj rfl (WP.skip ?_)))))))))
   refine xZ (n:=n) J hy hc h1 h2 h3 h4 (hX.ae [0,6,2,2,0,1,1,0]) ⟨rfl,rfl,rfl,rfl,aa⟩ (fun E' h' s' => ?_)
   refine⟨aa,_,rfl,rfl,?_⟩
   rw[chgF,ak hw,P3]
   exact s'
end
def szB : List ct→Nat
 |[]=>0
 |r::l=>r.len+szB l
theorem gn : ∀ {rs:List ct} {n:Nat},(logB n rs).length=szB rs:=by
 intro rs
 induction rs with
 |nil=>intro n;rfl
 |cons r rs I=>intro n;simp only[logB,szB,bO,sr,I];rfl
theorem om {x y:List ct}: szB (x++y)=szB x+szB y:=by
 induction x with
 |nil=>simp[szB]
 |cons r x I=>simp only[jk,szB,I];omega
theorem x_ {y:List ct}: ∀ {x:List ct} {n:Nat},logB n (x++y)=logB n x++logB (n+szB x) y:=by
 intro x
 induction x with
 |nil=>intro n;simp[logB,szB]
 |cons r x I=>intro n;simp only[jk,logB,szB,I,c9,nT]
theorem I0 {y:List ct}: ∀ {x:List ct} {a:Nat},lI a (x++y)=lI a x++lI (a+szB x) y:=by
 intro x
 induction x with
 |nil=>intro a;simp[lI,szB]
 |cons r x I=>intro a;simp only[jk,lI,szB,I,nT]
theorem Gc : ∀ {rs:List ct} {a:Nat},(lI a rs).Pairwise (· < ·)∧∀s∈lI a rs,a≤s∧s<a+szB rs:=by
 intro rs
 induction rs with
 |nil=>intro a;exact⟨List.Pairwise.nil,by simp[lI]⟩
 |cons r rs J =>
  intro a
  obtain⟨h1,I⟩:=J (a:=a+r.len)
  have h8:8≤r.len:=by rw[ct.len];omega
  simp only[lI,szB,tA,m8]
  refine⟨⟨fun s hs=>by have:=I s hs;omega,h1⟩,?_⟩
  rintro s (rfl|hs)
  ·omega
  ·have:=I s hs;omega
theorem S0 : ∀ {rs:List ct} {a:Nat},(lI a rs).length=rs.length:=by
 intro rs
 induction rs with
 |nil=>intro a;rfl
 |cons r rs I=>intro a;simp only[lI,aX,I]
theorem aay : ∀ {rs:List ct},rs.length*8≤szB rs:=by
 intro rs
 induction rs with
 |nil=>simp
 |cons r rs I=>have:8≤r.len:=(by rw[ct.len];omega);simp only[szB,aX];omega
theorem Lo {base:Nat}(I:base+szB rs≤1099511627776)(J:szB rs≤16777216)(h3:aB≤1099511627776): (iZ base aB rs).Ok:=by
 have h4:=aay (rs:=rs)
 refine⟨?_,?_,?_,(Gc (a:=0)).1,?_,?_,h3⟩
 ·show base+(logB base rs).length≤_;rw[gn];exact I
 ·show(lI 0 rs).length≤_;rw[S0];omega
 ·intro s hs
  have:=(Gc (a:=0) (rs:=rs)).2 s hs
  show s<(logB base rs).length
  rw[gn];omega
 ·exact aU _
 ·show(logB base rs).length≤_;rw[gn];exact J
theorem S1 {base:Nat}: (iZ base aB (dL++r::er)).hasB (base+szB dL)=true:=by
 rw[Lg.hasB,List.any_eq_true]
 refine⟨szB dL,?_,by simp[iZ]⟩
 show szB dL∈lI 0 (dL++r::er)
 rw[I0,gK]
 exact List.mem_append.2 (.inr b7)
def DO (n:Nat)(aQ:List cn)(ρ:iU): iU:=aQ.foldl (fun ρ c=>chgF n c ρ) ρ
def redoL : Nat→List ct→iU→iU
 |_,[],ρ=>ρ
 |n,r::l,ρ=>redoL (n+r.len) l (DO n r.aQ ρ)
theorem Gd {a:α}: ∀ {l:List (Int×α)} {e:Int×α},e∈cG n a l→e=(n,a)∨e∈l:=DL
structure iU.Ok (ρ:iU): Prop where
 len:∀e∈ρ.aq,e.2.length=512
 low:∀k∈ρ.aq.map (·.1),(0:Int)≤k∧k<65536
 dup:(ρ.aq.map (·.1)).Nodup
theorem Lp {n:Nat}{c:cn}(h:ρ.Ok)(I:c.Ok): (chgF n c ρ).Ok:=by
 have hcw:c.whole=true→c.pos=0∧c.b.length=512:=I.2.2.2.2.2
 have key:∀b:List Nat,b.length=512→∀L,(iU.mk (cG c.aK b ρ.aq) L).Ok:=fun b hb L=>by
  refine⟨fun e he => ?_,fun k hk => ?_,jd h.dup⟩
  ·rcases Gd he with rfl|he
   ·exact hb
   ·exact h.len e he
  ·rcases o_.1 hk with rfl|hk
   ·exact⟨I.1,I.2.1⟩
   ·exact h.low k hk
 unfold chgF
 split
 ·rename_i hw
  exact key _ (hcw hw).2 _
 ·split
  ·exact h
  ·rename_i b hb
   have J:=h.len _ (fI hb)
   simp only at J
   have:=I.2.2.1
   have:=I.2.2.2.2.1
   refine key _ ?_ _
   rw[cJ (by omega),J]
theorem I1 {n:Nat}: ∀ {aQ:List cn} {ρ:iU},ρ.Ok→(∀c∈aQ,c.Ok)→(DO n aQ ρ).Ok:=by
 intro aQ
 induction aQ with
 |nil=>intro ρ h _;exact h
 |cons c aQ J=>intro ρ h I;exact J (Lp h (I c b7)) (fun x hx=>I x (b5 _ hx))
theorem ct.Ok.aQ (h:r.Ok): ∀c∈r.aQ,c.Ok:=by
 have:=h.good
 simp only[dY,bK,nQ,ir] at this
 exact this.2
theorem Cn : ∀ {rs:List ct} {n:Nat} {ρ:iU},ρ.Ok→(∀r∈rs,r.Ok)→(redoL n rs ρ).Ok:=by
 intro rs
 induction rs with
 |nil=>intro n ρ h _;exact h
 |cons r rs J=>intro n ρ h I;exact J (I1 h (I r b7).aQ) (fun x hx=>I x (b5 _ hx))
def oo (ρ:iU)(k:Int): Nat:=(lookL k ρ.oF).getD 0
def againW (ρ:iU): List Int→Dk→Int×Dk
 |[],δ=>(0,δ)
 |k::l,δ =>
  match lookL k ρ.aq with
  |some b=>if bW b=true∧k<δ.aq.length then(if (δ.bw k (cT b (oo ρ k))).1≠0 then δ.bw k (cT b (oo ρ k)) else againW ρ l (δ.bw k (cT b (oo ρ k))).2) else againW ρ l δ
  |none=>againW ρ l δ
def mw (ρ:iU)(δ:Dk): Int×Dk :=
 if (againW ρ (aE ρ.aq) δ).1≠0 then againW ρ (aE ρ.aq) δ else if ρ.aq=[] then(0,(againW ρ (aE ρ.aq) δ).2) else(againW ρ (aE ρ.aq) δ).2.dO
section
variable {told:dc} {ch fv v op dv:V} {p r x n base:Nat}
noncomputable def agI : Code:=cD [1,1,1,0,1,0,0,0,1,1,0,1,0,0] ((Tryz.f87.body).getD .skip)
theorem P4 (hT:W told){aQ:List cn}(pR:∀c∈aQ,c.Ok){av nv:V}: ∀(j i:Nat) (ρ:iU) (h:H) (E:List (Nat×V)) (Q:Ex→List (Nat×V)→H→Prop),i+j=aQ.length→aQ.length<4294967296→ρ.Ok →
  Sat h (xY x ρ::.arr 4 ch cs::dh cs aQ::S) →
  Has E [(0,av),(5,.ptr x 0),(6,.fn (.func 137) [.ptr x 0] []),(7,.int .u64 (n:Int)),(9,nv),(38,ch),(39,.int .i64 aQ.length),(40,.int .i64 i)] →
  (∀E' h',Has E' [(0,av),(5,.ptr x 0),(6,.fn (.func 137) [.ptr x 0] []),(9,nv)]→Sat h' (xY x (DO n (aQ.drop i) ρ)::.arr 4 ch cs::dh cs aQ::S)→Q (.exit 2) E' h') →
  WP ⟨Tryz.prog,told⟩ 110 (.loop agI) E h Q:=by
 intro j
 induction j with
 |zero =>
  intro i ρ h E Q hi hl I s hE hq
  refine WP.loop (WP.has hE (zg rfl (zC rfl aN (by simp;omega) ?_)))
  exact zk 3 rfl (WP.exit (hq _ _ ⟨rfl,rfl,rfl,rfl,aa⟩ (by rw[Ax (by omega)];exact s)))
 |succ j ih =>
  intro i ρ h E Q hi hl I s hE hq
  have hc:aQ[i]?=some (aQ[i]'(by omega)):=bA _
  generalize (aQ[i]'(by omega))=c at hc
  have FU:=pR c (bI hc)
  have J:aQ.drop i=c::aQ.drop (i+1):=by
   obtain⟨h1,rfl⟩:=List.getElem?_eq_some_iff.1 hc
   exact pL h1
  obtain⟨id,off,u,e1,e2,u1,u2,u3,s⟩:=Ib (s.ae [1,1]) hc
  dsimp only[aL,bringA] at s
  refine WP.loop (WP.has hE (zg rfl (zB rfl aN (by simp;omega) ?_)))
  refine zk 5 rfl (WP.block (zg rfl (zo rfl (cj (r:=.ptr id off) rfl rfl e1) (zl rfl e2 ?_))))
  refine ay.b8 s rfl rfl rfl (bU nY) (fun Yo h s => ?_)
  dsimp only[V.cells,List.length_cons,List.length_nil,Nat.reduceAdd] at s
  refine zS rfl (s.ep (j:=0) rfl oV rfl (by simp only[gJ,ki,u2];rfl)) ?_
  rintro h s
  dsimp only[setA] at s
  refine zk 4 rfl (zl rfl (s.bZ (k:=0) rfl GU oV) (zc rfl (P0 (n:=n) hT I.len FU (s.ae [4,1])) ?_))
  rintro v h ⟨rfl,s⟩
  dsimp only[aL,bringA] at s
  refine zv (zr rfl (zb rfl (by exact bx (aA (by omega) (by omega))) ?_))
  refine zm rfl (zv ?_)
  have s:=(s.ae [0,2,2]).del 3
  have s:=s.del 3
  refine ih (i+1) (chgF n c ρ) _ _ Q (by omega) hl (Lp I FU) s ⟨rfl,rfl,rfl,rfl,rfl,rfl,rfl,rfl,aa⟩ (fun E' h' jf s'=>hq E' h' jf ?_)
  rw[J]
  exact s'
theorem I2 (hT:WR told){r:ct}(J:(iZ base aB (dL++r::er)).Ok)(I:r.Ok)(s:Sat h (bS q p (iZ base aB (dL++r::er))::S)):
  Call ⟨Tryz.prog,told⟩ 84 [.ptr q 0,.int .u64 ((base+szB dL:Nat):Int)] h fun v h'=>∃dt ch cs,v=.bf [.agg (ie r.kd r.tx r.pv r.nx dt ch),.int .u64 ((base+szB dL+r.len:Nat):Int),.int .i64 0] ∧
   Sat h' (bS q p (iZ base aB (dL++r::er))::aV dt r.data::.arr 4 ch cs::dh cs r.aQ::S):=by
 refine(PJ (n:=base+szB dL) (a:=szB dL) (pre:=logB base dL) (rest:=logB (base+szB dL+r.len) er) hT I.good I.kd I.rd rfl I.len gn ?_ rfl S1 J s).mono fun v h' hx => ?_
 ·show logB base (dL++r::er)=_
  rw[x_,logB]
  rfl
 ·have e:base+szB dL+r.len=base+szB dL+8+(dy r.kd r.tx r.pv r.nx r.data r.aQ).length:=by rw[ct.len,ct.bd];omega
  rw[e]
  exact hx
noncomputable def agO : Code:=cD [1,1,1,0,1,0,0] ((Tryz.f87.body).getD .skip)
theorem Ng (hT:WR told)(uT:∀r∈rs,r.Ok)(I:(iZ base aB rs).Ok): ∀(er dL:List ct) (ρ:iU) (h:H) (E:List (Nat×V)) (Q:Ex→List (Nat×V)→H→Prop),rs=dL++er→ρ.Ok →
  Sat h (xY x ρ::pt a (.cells 6 (r_ a p q r op dv wv) false)::bS q p (iZ base aB rs)::S) →
  Has E [(0,.ptr a 0),(5,.ptr x 0),(6,.fn (.func 137) [.ptr x 0] []),(7,.int .u64 ((base+szB dL:Nat):Int))] →
  (∀E' h',Has E' [(0,.ptr a 0),(5,.ptr x 0)]→Sat h' (xY x (redoL (base+szB dL) er ρ)::pt a (.cells 6 (r_ a p q r op dv wv) false)::bS q p (iZ base aB rs)::S)→Q (.exit 0) E' h') →
  WP ⟨Tryz.prog,told⟩ 110 (.loop agO) E h Q:=by
 have hW:=hT.w
 intro er
 induction er with
 |nil =>
  intro dL ρ h E Q he J s hE hq
  refine WP.loop (WP.has hE ?_)
  have s:=s.ae [1,1,0]
  dsimp only[r_,bringA,getA,aL] at s
  have fU:=I.size
  have hn:base+szB dL=(iZ base aB rs).base+(iZ base aB rs).b.length:=by
   show _=base+(logB base rs).length
   rw[gn,he,ej]
  refine WP.block (zK 4 rfl (zY s 0 wG EE rfl (zm rfl (zc rfl (DE (n:=base+szB dL) hW (s.ae [1]) I (by omega) (.inl hn)) ?_))))
  rintro v h ⟨e,TV,rfl,s⟩
  refine zk 4 rfl ?_
  refine ay.b8 s rfl rfl rfl (bU qW) (fun p8 h s => ?_)
  dsimp only[V.cells,List.length_cons,List.length_nil,Nat.reduceAdd,aL,bringA] at s
  refine zS rfl (s.ep (j:=0) rfl g8 rfl rfl) (fun h s => ?_)
  dsimp only[setA] at s
  refine zk 7 rfl (zB rfl aD (by simp;exact TV) ?_)
  exact zk 2 rfl (WP.exit (hq _ _ ⟨rfl,rfl,aa⟩ ((s.drop).ae [2,1,0])))
 |cons y er ih =>
  intro dL ρ h E Q he J s hE hq
  subst he
  have hy:=uT y (by simp)
  refine WP.loop (WP.has hE ?_)
  have s:=s.ae [1,1,0]
  dsimp only[r_,bringA,getA,aL] at s
  refine WP.block (zK 4 rfl (zY s 0 wG EE rfl (zm rfl (zc rfl (I2 (dL:=dL) (er:=er) (r:=y) hT I hy (s.ae [1])) ?_))))
  rintro v h ⟨dt,ch,cs,rfl,s⟩
  dsimp only[aL,bringA] at s
  have jB:=(s.buf (k:=1) rfl).view.cells
  have iI:=s.iY (j:=2) rfl
  have dZ:[V.int .i64 (y.kd:Int),V.int .u64 (y.tx:Int),V.int .u64 (y.pv:Int),V.int .u64 (y.nx:Int),dt,ch].all storable=true:=mQ jB.2 iI.2.1
  refine zk 4 rfl ?_
  refine ay.b8 s rfl rfl rfl (bU qW) (fun p8 h s => ?_)
  dsimp only[V.cells,List.length_cons,List.length_nil,Nat.reduceAdd] at s
  refine zS rfl (s.ep (j:=0) rfl g8 rfl dZ) ?_
  rintro h s
  dsimp only[setA] at s
  refine zk 7 rfl (zC rfl aD (rfl) (zk 6 rfl (zY s 0 mO ug rfl (zo rfl (aP rfl rfl rfl (s.wM (j1:=3) (j2:=4) rfl rfl je)) (zk 2 rfl (WP.block ?_))))))
  have s:=s.ae [6,3,3,3,1]
  dsimp only[bringA,getA,aL] at s
  refine P4 (n:=base+szB dL) hW hy.aQ y.aQ.length 0 ρ h _ _ (by omega) (by have:=hy.rd.many;omega) J s ⟨rfl,rfl,rfl,rfl,rfl,rfl,rfl,rfl,aa⟩ (fun E h hE s => ?_)
  rw[gz] at s
  refine WP.has hE (zr rfl (zk 2 rfl (zv ?_)))
  have s:=(((s.del 6).del 5).ae [0,2,2]).del 3
  have s:=s.del 3
  refine ih (dL++[y]) (DO (base+szB dL) y.aQ ρ) _ _ Q (by simp) (I1 J hy.aQ) s ⟨rfl,rfl,rfl,?_,aa⟩ (fun E' h' jf s'=>hq E' h' jf ?_)
  ·rw[om]
   show some (V.int .u64 ((base+szB dL+y.len:Nat):Int))=_
   rw[show base+(szB dL+szB [y])=base+szB dL+y.len by simp only[szB];omega]
  ·rw[redoL,show base+szB dL+y.len=base+szB (dL++[y]) by rw[om];simp only[szB];omega]
   exact s'
structure oG (δ:Dk)(m:Nat): Prop where
 ok:δ.Ok
 wait:δ.waiting.length+m≤268435456
 now:∀e∈δ.now,0≤e.1∧e.1<δ.aq.length
theorem oG.less {m:Nat}(h:oG δ (m+1)): oG δ m:=⟨h.ok,by have:=h.wait;omega,h.now⟩
theorem oG.write {m:Nat}{k:Int}(h:oG δ (m+1))(h0:0≤k)(h1:k<δ.aq.length): oG (δ.bw k b).2 m∧(δ.bw k b).2.aq=δ.aq:=by
 have hw:=h.wait
 have I:=h.ok.bw (n:=k) (b:=b)
 unfold Dk.bw at I ⊢
 split at I
 ·rename_i J
  rw[aJ J]
  exact⟨⟨I,by simp only;omega,h.now⟩,rfl⟩
 ·rename_i J
  rw[ak J]
  split at I
  ·rename_i h2
   rw[aJ h2]
   exact⟨⟨I,by simp only;omega,h.now⟩,rfl⟩
  ·rename_i h2
   rw[ak h2]
   split at I
   ·rename_i h3
    rw[aJ h3]
    exact⟨⟨I,by show δ.waiting.length+m≤_;omega,h.now⟩,rfl⟩
   ·rename_i h3
    rw[ak h3]
    refine⟨⟨I,?_,fun e he => ?_⟩,rfl⟩
    ·show(δ.waiting++[(k.toNat,b)]).length+m≤_
     simp only[bO,aX,cI];omega
    ·rcases Gd he with rfl|he
     ·exact⟨h0,h1⟩
     ·exact h.now e he
noncomputable def agS : Code:=cD [1,1,1,1,0,1,0,0] ((Tryz.f87.body).getD .skip)
theorem Ks (hT:W told){ks:List Int}{kv:V}{i0 j0:Nat}(Yr:ks.length≤65536)(zU:∀k∈ks,0≤k)(vj:∀k∈ks,(lookL k ρ.aq).isSome=true)(hlen:∀e∈ρ.aq,e.2.length=512): ∀(j i:Nat) (δ:Dk) (h:H) (E:List (Nat×V)) (Q:Ex→List (Nat×V)→H→Prop),i+j=ks.length→oG δ j →
  Sat h (pt x (.cells 2 [.map i0,.map j0] false)::ju (fun v b=>.cg v b) (.map i0) ρ.aq::ju Cm (.map j0) ρ.oF::.arr 1 kv (fJ ks)::pt a (.cells 6 (r_ a p q r op dv wv) false)::aR p δ::S) →
  Has E [(0,.ptr a 0),(5,.ptr x 0),(55,kv),(56,.int .i64 ks.length),(57,.int .i64 i)] →
  (∀E' h',(againW ρ (ks.drop i) δ).1≠0→look E' 4=some (.int .i64 (againW ρ (ks.drop i) δ).1)→Sat h' (pt a (.cells 6 (r_ a p q r op dv wv) false)::aR p (againW ρ (ks.drop i) δ).2::S)→Q .ret E' h') →
  (∀E' h',(againW ρ (ks.drop i) δ).1=0→oG (againW ρ (ks.drop i) δ).2 0→Has E' [(0,.ptr a 0),(5,.ptr x 0)]→Sat h' (pt x (.cells 2 [.map i0,.map j0] false)::ju (fun v b=>.cg v b) (.map i0) ρ.aq::pt a (.cells 6 (r_ a p q r op dv wv) false)::aR p (againW ρ (ks.drop i) δ).2::S)→Q (.exit 4) E' h') →
  WP ⟨Tryz.prog,told⟩ 110 (.loop agS) E h Q:=by
 intro j
 induction j with
 |zero =>
  intro i δ h E Q hi I s hE J h2
  rw[Ax (by omega)] at J h2
  refine WP.loop (WP.has hE (zg rfl (zC rfl aN (by simp;omega) ?_)))
  exact zk 3 rfl (WP.exit (h2 _ _ rfl I ⟨rfl,rfl,aa⟩ ((s.ae [0,0,2,2]).del 5 |>.del 4)))
 |succ j ih =>
  intro i δ h E Q hi I s hE J h2
  have hn:ks[i]?=some (ks[i]'(by omega)):=bA _
  generalize (ks[i]'(by omega))=k at hn
  have hkm:=bI hn
  have TR:=zU k hkm
  have n_:ks.drop i=k::ks.drop (i+1):=by
   obtain⟨J,rfl⟩:=List.getElem?_eq_some_iff.1 hn
   exact pL J
  obtain⟨b,hb⟩:=Option.isSome_iff_exists.1 (vj k hkm)
  have va:b.length=512:=hlen _ (fI hb)
  rw[n_,againW,hb] at J h2
  simp only at J h2
  have hc:(fJ ks)[i]?=some (.int .i64 k):=by simp[fJ,hn]
  obtain⟨id,off,e1,e2⟩:=iz s (k:=3) rfl hc dI ke
  refine WP.loop (WP.has hE (zg rfl (zB rfl aN (by simp;omega) ?_)))
  refine zk 5 rfl (WP.block (zg rfl (zo rfl (cj (r:=.ptr id off) rfl rfl e1) (zl rfl (e2 _ cL) (zk 3 rfl ?_)))))
  rcases mC (n:=k) (fun _ _=>aY.cg _ _) (s.ae [1]) kZ bF o8 with⟨hl,_⟩|⟨u,b',hl,_,f2,s⟩
  ·rw[hb] at hl;cases hl
  rw[hb] at hl
  injection hl with hl
  subst hl
  dsimp only[r_,aL,bringA] at s
  obtain⟨f4,s⟩:fN Tryz.prog h 208 (.map j0) (.int .i64 k) false=some (.int .u64 (oo ρ k:Int))∧Sat h (ju Cm (.map j0) ρ.oF::.cg u b::ju (fun v b=>.cg v b) (.map i0) ρ.aq::pt x (.cells 2 [.map i0,.map j0] false)::.arr 1 kv (fJ ks)::pt a (.cells 6 (r_ a p q r op dv wv) false)::aR p δ::S):=by
   have s:=s.ae [3,0,0,0]
   rcases mC (n:=k) (fun _ _=>aY.pu _) s Tryz.underlying208 bF X9 with⟨hl,_,f⟩|⟨w,y,hl,_,f,s⟩
   ·exact⟨by rw[f,oo,hl];rfl,s⟩
   ·obtain⟨rfl,s2⟩:=eR.1 s
    exact⟨by rw[f,oo,hl];rfl,s2⟩
  have s:=s.ae [3,4,1]
  dsimp only[r_,bringA,getA,aL] at s
  have sK:=dg (s.aH (k:=2) rfl (dF _ _))
  refine WP.drawn [af,af,af,af,af,af,af,af,af,af,af,af,af,af,af,af,af,af] rfl (by kernel_rfl) (by kernel_rfl) ?_
  refine zM rfl (zN rfl (zF rfl (p9 _ _) (zL rfl (s.ld (k:=0) rfl jQ rfl) (zM rfl (zO rfl (iC rfl rfl f2) (zM rfl (zN rfl (zF rfl (K0 _ _) (zL rfl (s.ld (k:=0) rfl Uf rfl) (zM rfl (zO rfl (iC rfl rfl f4) (ax.any rfl rfl rfl rfl (OpR.call rfl rfl rfl rfl (K6 (n:=oo ρ k) hT (s.ae [2]) (dF _ _) (by omega))) ?_))))))))))))
  rintro v h (⟨hg,u2,rfl,s⟩|⟨hg,rfl,s⟩)
  ·skip
   dsimp only[aL,bringA] at s
   refine zM rfl (zO rfl (cK rfl rfl) (zO rfl (cK rfl rfl) (zA rfl (zA rfl ?_))))
   refine ax.nil ⟨⟨aa,aa,aa,aa,aa,aa,aa,aa,aa,aa,aa,aa,aa,aa,aa,aa,aa,aa,aa⟩,?_⟩
   refine zK 4 rfl (zC rfl aD (rfl) (zk 4 rfl (zY s 3 pW o9 rfl (zc rfl (xG hT (s.ae [7])) ?_))))
   rintro v h' ⟨rfl,rfl⟩
   by_cases hp:k<δ.aq.length
   ·skip
    rw[aJ ⟨hg,hp⟩] at J h2
    have j_:=(nL (n:=oo ρ k) va).2.1
    have BR:=I.wait
    have hw:=I.write (k:=k) (b:=cT b (oo ρ k)) TR hp
    refine zC rfl jJ (by simp;omega) ?_
    refine zk 8 rfl (zY s 3 pW o9 rfl (zk 2 rfl (zc rfl (K_ hT (s.ae [7,0]) (bu _ _) (by omega) I.ok.aS (by omega)) ?_)))
    rintro v h ⟨rfl,s⟩
    dsimp only[aL,bringA] at s
    by_cases h0:(δ.bw k (cT b (oo ρ k))).1=0
    ·rw[ak (not_not_intro h0)] at J h2
     rw[h0]
     refine za rfl (zv (zg rfl (zm rfl (zh rfl (az rfl rfl aD) (rfl) (zv (zj rfl (WP.skip (zr rfl (zb rfl (by exact bx (aA (by omega) (by omega))) ?_)))))))))
     refine zm rfl (zv ?_)
     have s:=(s.ae [3,5,4,4,3,0]).del 6
     have s:=s.del 6
     dsimp only[bringA,getA,aL] at s
     exact ih (i+1) _ _ _ Q (by omega) hw.1 s ⟨rfl,rfl,rfl,rfl,rfl,aa⟩ J h2
    ·skip
     rw[aJ h0] at J h2
     refine zk 5 rfl (zB rfl aD (by simpa using h0) ?_)
     refine zk 7 rfl (WP.ret ?_)
     have s:=(s.ae [4,0]).del 2
     exact J _ _ h0 rfl ((((s.del 2).del 2).del 2).del 2 |>.del 2)
   ·skip
    rw[ak (fun q=>hp q.2)] at J h2
    refine zB rfl jJ (by simp;omega) ?_
    refine zk 3 rfl (WP.exit (zr rfl (zb rfl (by exact bx (aA (by omega) (by omega))) ?_)))
    refine zm rfl (zv ?_)
    have s:=(s.ae [2,4,3,3,2,2]).del 6
    have s:=s.del 6
    dsimp only[bringA,getA,aL] at s
    exact ih (i+1) _ _ _ Q (by omega) I.less s ⟨rfl,rfl,rfl,rfl,rfl,aa⟩ J h2
  ·skip
   rw[ak (fun q=>by rw[hg] at q;cases q.1)] at J h2
   dsimp only[aL,bringA] at s
   refine zM rfl (zO rfl (cK rfl rfl) (zO rfl (cK rfl rfl) (zA rfl (zA rfl ?_))))
   refine ax.nil ⟨⟨aa,aa,aa,aa,aa,aa,aa,aa,aa,aa,aa,aa,aa,aa,aa,aa,aa,aa,aa⟩,?_⟩
   refine zK 4 rfl (zB rfl aD (rfl) (zk 11 rfl (WP.exit (zr rfl (zb rfl (by exact bx (aA (by omega) (by omega))) ?_)))))
   refine zm rfl (zv ?_)
   have s:=(s.ae [1,3,2,2,1,1]).del 6
   exact ih (i+1) _ _ _ Q (by omega) I.less s ⟨rfl,rfl,rfl,rfl,rfl,aa⟩ J h2
end
def iU.none : iU:=⟨[],[]⟩
theorem Bo : iU.none.Ok:=⟨fun e h=>(by cases h),fun k h=>(by cases h),kO⟩
theorem iU.Ok.YT (h:ρ.Ok): ρ.aq.length≤65536:=by
 have:=Ad 65536 _ h.dup (fun n I=>by have:=h.low n I;omega)
 simpa using this
theorem rG {m:List (Int×α)}: (aE m).length=m.length:=by rw[aE,(eF _).length_eq,jw]
theorem Co {m:List (Int×α)}{k:Int}: k∈aE m↔k∈m.map (·.1):=(eF _).mem_iff
section
variable {told:dc} {op:V} {p r base:Nat}
theorem S2 (hT:W5 told)(he:rs=dL++er)(uT:∀r∈rs,r.Ok)(EV:(iZ base aB rs).Ok)(J:oG δ 65536)(s:Sat h (eA a p q r op data c0::bS q p (iZ base aB rs)::aR p δ::S)):
  Call ⟨Tryz.prog,told⟩ 87 [.ptr a 0,.int .u64 ((base+szB dL:Nat):Int)] h fun v h' =>
   v=.int .i64 (mw (redoL (base+szB dL) er iU.none) δ).1∧Sat h' (eA a p q r op data c0::bS q p (iZ base aB rs)::aR p (mw (redoL (base+szB dL) er iU.none) δ).2::S):=by
 have hW:=hT.w.w
 have I:(redoL (base+szB dL) er iU.none).Ok:=Cn Bo (fun r hr=>uT r (by rw[he];exact List.mem_append.2 (.inr hr)))
 obtain⟨dv,s⟩:=cC.1 s
 refine Call.of_wp (hW.free _ rfl) Tryz.func87 rfl rfl (zK 6 rfl ?_)
 refine ay.y8 s rfl rfl rfl rfl (fun p18 h s => ?_)
 refine ay.y8 s rfl rfl rfl rfl (fun p19 h s => ?_)
 refine zo rfl (dn rfl (by rw[Ug];rfl)) ?_
 refine ay.b8 s rfl rfl rfl (fg rfl rfl) (fun Yq h s => ?_)
 refine zk 5 rfl (zo rfl (CX rfl rfl) (zk 8 rfl (WP.block ?_)))
 have s:=(s.gM (φ:=True) aa).gM (φ:=True) aa
 have s:=uF (ρ:=iU.none).2 ⟨_,[],0,_,[],0,⟨aa,kO,aa,kO⟩,s.ae [2,3,0,1,0]⟩
 refine Ng hT.wr uT EV er dL iU.none h _ _ he Bo (s.ae [0,0,1]) ⟨rfl,rfl,rfl,rfl,aa⟩ (fun E h hE s => ?_)
 generalize hρ:redoL (base+szB dL) er iU.none=ρ at I s
 refine WP.has hE ?_
 obtain⟨i,l,k,j,m,g,⟨h1,h2,h3,h4⟩,s⟩:=uF.1 s
 have s:=Kr (s.ae [2])
 have s:=eH.2 ⟨i,l,k,rfl,h1,h2,s.ae [2,0]⟩
 have s:=eH.2 ⟨j,m,g,rfl,h3,h4,s.ae [2,2]⟩
 have s:=s.ae [2,1,0]
 have abB:=I.YT
 refine zK 5 rfl (zY s 0 p9 jQ rfl (zc rfl (xO hW s) ?_))
 rintro v h ⟨kb,rfl,s⟩
 refine zc rfl (rX hW (s.ae [0,1]) (by decide) (by omega) (fun n hn=>wf_i64 (by have:=I.low n hn;omega) (by have:=I.low n hn;omega))) ?_
 intro kv h s
 refine zo rfl (aP rfl rfl rfl (s.ew (n:=(aE ρ.aq).length) (j:=0) rfl (by simp[fJ]) (by decide) dI)) ?_
 refine zk 2 rfl (WP.block ?_)
 have s:=(s.ae [3,2,2,0,1,3]).del 6
 refine Ks hW (ks:=aE ρ.aq) (by rw[rG];exact abB) (fun k hk=>(I.low k (Co.1 hk)).1) (fun k hk=>by
  cases hl:lookL k ρ.aq with
  |none=>exact absurd (Co.1 hk) (f_.1 hl)
  |some b=>rfl) I.len (aE ρ.aq).length 0 δ h _ _ (by omega) (by rw[rG];exact⟨J.ok,by have:=J.wait;omega,J.now⟩) s ⟨rfl,rfl,rfl,rfl,rfl,aa⟩ (fun E' h' e1 e2 s' => ?_) (fun E h e1 e2 hE s => ?_)
 ·rw[gz] at e1 e2 s'
  have e:mw ρ δ=againW ρ (aE ρ.aq) δ:=by rw[mw,aJ e1]
  rw[e]
  exact⟨aa,_,qx e2,rfl,(cC.2 ⟨dv,s'.ae [0,2]⟩).ae [0,1,0]⟩
 ·rw[gz] at e1 e2 s
  refine WP.has hE (zK 5 rfl (zY s 0 p9 jQ rfl (zo rfl (aP rfl rfl rfl (HS (s.ae [1]) kZ)) ?_)))
  by_cases hz:ρ.aq=[]
  ·skip
   have e:mw ρ δ=(0,(againW ρ (aE ρ.aq) δ).2):=by rw[mw,ak (not_not_intro e1),aJ hz]
   rw[e]
   refine zB rfl dG (by rw[hz];rfl) ?_
   exact zk 6 rfl (WP.ret ⟨aa,_,rfl,rfl,(cC.2 ⟨dv,((s.drop.drop).ae [0,2])⟩).ae [0,1,0]⟩)
  ·skip
   have e:mw ρ δ=(againW ρ (aE ρ.aq) δ).2.dO:=by rw[mw,ak (not_not_intro e1),ak hz]
   rw[e]
   refine zC rfl dG (by have:ρ.aq.length≠0:=fun h=>hz (pK h);simp;omega) ?_
   refine zk 7 rfl (zY s 2 pW o9 rfl (zc rfl (Lh hT.w (s.ae [3]) e2.ok e2.now) ?_))
   rintro v h ⟨rfl,s⟩
   dsimp only[r_,V.cells,List.take,List.length_cons,List.length_nil,Nat.reduceAdd,List.drop,List.cons_append,List.nil_append,aL,bringA,getA] at s
   exact zk 2 rfl (WP.ret ⟨aa,_,rfl,rfl,(cC.2 ⟨dv,(((s.ae [3,4,3,0]).del 4).del 4)⟩).ae [0,0,0]⟩)
end
def Nh (base aB:Nat)(rs:List ct)(data:List Nat)(dL er:List ct): Prop :=
 rs=dL++er∧((aB=0∧data=[]∧dL=[])∨∃A rc B,rs=A++rc::B∧aB=base+szB A∧aB≠0∧rc.kd=8∧8≤rc.data.length∧data=rc.data.drop 8∧max base (leN (rc.data.take 8))=base+szB dL)
def eZ (δ:Dk)(base:Nat)(rs dL er:List ct): Int×Dk :=
 if (δ.c7 (szB rs)).1≠0 then δ.c7 (szB rs) else mw (redoL (base+szB dL) er iU.none) (δ.c7 (szB rs)).2
theorem Kt {n:Nat}: (δ.dR n).2.waiting=δ.waiting∧(δ.dR n).2.now=δ.now∧(δ.dR n).2.aq=δ.aq:=by
 unfold Dk.dR Dk.qF
 split
 ·split
  ·exact⟨rfl,rfl,rfl⟩
  ·split
   ·exact⟨rfl,rfl,rfl⟩
   ·split<;>exact⟨rfl,rfl,rfl⟩
 ·exact⟨rfl,rfl,rfl⟩
theorem Ku : δ.cq.2.waiting=δ.waiting∧δ.cq.2.now=δ.now∧δ.cq.2.aq=δ.aq:=by
 unfold Dk.cq
 split
 ·exact⟨rfl,rfl,rfl⟩
 ·split<;>exact⟨rfl,rfl,rfl⟩
theorem DP {n:Nat}: (δ.c7 n).2.waiting=δ.waiting∧(δ.c7 n).2.now=δ.now∧(δ.c7 n).2.aq=δ.aq:=by
 unfold Dk.c7
 have h:=Kt (δ:=δ) (n:=n)
 split
 ·exact h
 ·split
  ·have I:=Ku (δ:=(δ.dR n).2)
   exact⟨I.1.trans h.1,I.2.1.trans h.2.1,I.2.2.trans h.2.2⟩
  ·exact h
theorem oG.c7 {m n:Nat}(h:oG δ m): oG (δ.c7 n).2 m:=by
 obtain⟨I,J,h3⟩:=DP (δ:=δ) (n:=n)
 exact⟨h.ok.c7,by rw[I];exact h.wait,by rw[J,h3];exact h.now⟩
section
variable {told:dc} {j:List Nat} {p base:Nat}
noncomputable def soE : Code:=cD [1,1,1,1,1,1,1,1,1] ((Tryz.f35.body).getD .skip)
theorem Ge (hT:W5 told){r n:Nat}(he:rs=dL++er)(J:∀r∈rs,r.Ok)(EV:(iZ base aB rs).Ok)(ob:oG δ 65536)
 (s:Sat h (eA a p q r .cy data c0::dK r p q (Pl.fresh n)::bS q p (iZ base aB rs)::aR p δ::S))(hE:Has E [(9,.ptr a 0),(10,.int .u64 ((base+szB dL:Nat):Int))]){y:Int×Dk}(hy:mw (redoL (base+szB dL) er iU.none) δ=y)
 (h1:∀E' h',y.1≠0→look E' 4=some .cy→look E' 5=some (.int .i64 y.1)→Sat h' (aR p y.2::S)→Q .ret E' h')
 (h2:∀E' h',y.1=0→look E' 4=some (.ptr a 0)→look E' 5=some (.int .i64 0)→Sat h' (eA a p q r .cy data c0::dK r p q (Pl.fresh n)::bS q p (iZ base aB rs)::aR p y.2::S)→Q .ret E' h'): WP ⟨Tryz.prog,told⟩ 95 soE E h Q:=by
 refine WP.has hE (zK 5 rfl (zc rfl (S2 hT he J EV ob (s.ae [0,1,1])) ?_))
 rintro v h ⟨rfl,s⟩
 rw[hy] at s
 rw[hy]
 by_cases I:y.1=0
 ·skip
  rw[I]
  exact zk 5 rfl (zC rfl aD (rfl) (zk 9 rfl (WP.ret (h2 _ _ I rfl rfl (s.ae [0,2,0,0])))))
 ·skip
  refine zk 5 rfl (zB rfl aD (by simpa using I) ?_)
  exact zk 8 rfl (WP.ret (h1 _ _ I rfl rfl (((s.ae [2]).del 1 |>.del 1).del 1)))
theorem abC {ts:Array TypeId}{k:IntKind}{a b:Int}: builtinV P h .max ts [.int k a,.int k b]=some (.int k (max a b),h):=by
 simp only[builtinV,foldV,maxV,dD,aj,m5]
 by_cases I:a<b
 ·simp only[I,AS,aj]
  rw[show max a b=b by omega]
 ·simp only[I,decide_false,a_]
  rw[show max a b=a by omega]
theorem S3 (hT:W5 told){n:Nat}(BP:1≤n)(F_:n≤1024)(s:Sat h (aR p δ::S))(ob:oG δ 65536)(hd:δ.dead=false)(hm:PV δ.mark base aB)(xu:base+δ.log.length≤1099511627776)(Nf:aB≤1099511627776)
 (E0:δ.log=logB base rs++j)(J:∀r∈rs,r.Ok)(hj:rF j)(DQ:Nh base aB rs data dL er):
  Call ⟨Tryz.prog,told⟩ 35 [.ptr p 0,.int .i64 (n:Int)] h fun v h' =>
   ((eZ δ base rs dL er).1≠0∧v=.bf [.cy,.int .i64 (eZ δ base rs dL er).1]∧Sat h' (aR p (eZ δ base rs dL er).2::S)) ∨
   ((eZ δ base rs dL er).1=0∧∃a q r,v=.bf [.ptr a 0,.int .i64 0]∧Sat h' (eA a p q r .cy data aB::dK r p q (Pl.fresh n)::bS q p (iZ base aB rs)::aR p (eZ δ base rs dL er).2::S)):=by
 have hW:=hT.w.w
 have hlen:=ob.ok.len
 have js:δ.log.length=szB rs+j.length:=by rw[E0,bO,gn]
 have EV:(iZ base aB rs).Ok:=Lo (by omega) (by omega) Nf
 obtain⟨YU,DQ⟩:=DQ
 generalize hy:eZ δ base rs dL er=y
 unfold eZ at hy
 refine Call.of_wp (hW.free _ rfl) Tryz.func35 rfl rfl (zK 9 rfl (zC rfl aN (by simp<;>omega) ?_))
 refine zk 2 rfl (zC rfl gT (by simp<;>omega) ?_)
 refine zk 7 rfl (zc rfl (SX hT.wr s ob.ok hd hm xu (by omega) E0 J hj) ?_)
 rw[gn]
 rintro v h (⟨I,rfl,s⟩|⟨I,q,rfl,s⟩)
 ·skip
  rw[aJ I] at hy
  rw[hy] at I s
  rw[hy]
  refine zk 10 rfl (zB rfl aD (by simpa using I) ?_)
  exact zk 8 rfl (WP.ret ⟨aa,_,rfl,.inl ⟨I,rfl,s⟩⟩)
 rw[ak (not_not_intro I)] at hy
 refine zk 10 rfl (zC rfl aD (rfl) (zk 8 rfl (zc rfl (Le (p:=p) (q:=q) (n:=n) hW s) ?_)))
 rintro v h (⟨hn,_,_⟩|⟨_,_,r,rfl,s⟩)
 ·omega
 rw[cS] at s
 refine zk 10 rfl (zC rfl aD (rfl) (zk 8 rfl (zo rfl (dn rfl (by rw[Ua];rfl)) ?_)))
 refine ay.b8 s rfl rfl rfl (fg rfl rfl) (fun p44 h s => ?_)
 refine zk 5 rfl (zc rfl (FT hW (s.ae [2])) ?_)
 rintro v h' ⟨rfl,rfl⟩
 refine zk 6 rfl (zc rfl (BN hW (s.ae [2])) ?_)
 rintro v h' ⟨rfl,rfl⟩
 rcases DQ with⟨rfl,rfl,rfl⟩|⟨A,rc,B,hA,hcA,YV,UH,h8,rfl,dZ⟩
 ·skip
  refine zk 5 rfl (zC rfl aD (rfl) (zk 3 rfl ?_))
  have s1:=cC.2 ⟨.bC,(s.rN).ae [1,0]⟩
  exact Ge hT YU J EV ob.c7 s1 ⟨rfl,rfl,aa⟩ hy (fun E' h' I e1 e2 s'=>⟨aa,_,uC e1 e2,.inl ⟨I,rfl,s'⟩⟩) (fun E' h' I e1 e2 s'=>⟨aa,_,uC e1 e2,.inr ⟨I,_,_,_,rfl,s'⟩⟩)
 ·skip
  subst hA
  subst hcA
  have kU:¬(((iZ base (base+szB A) (A++rc::B)).check:Nat):Int)=0:=by show ¬((base+szB A:Nat):Int)=0;omega
  refine zk 5 rfl (zB rfl aD (by simpa using kU) ?_)
  refine zk 6 rfl (zc rfl (I2 (dL:=A) (er:=B) (r:=rc) hT.wr EV (J rc (by simp)) (s.ae [2])) ?_)
  rintro v h ⟨dt,ch,cs,rfl,s⟩
  have jB:=(s.buf (k:=1) rfl).view.cells
  have iI:=s.iY (j:=2) rfl
  have abD:[V.int .i64 (rc.kd:Int),V.int .u64 (rc.tx:Int),V.int .u64 (rc.pv:Int),V.int .u64 (rc.nx:Int),dt,ch].all storable=true:=mQ jB.2 iI.2.1
  refine zk 4 rfl ?_
  refine ay.b8 s rfl rfl rfl (bU qW) (fun Yo h s => ?_)
  refine zS rfl (s.ep (j:=0) rfl g8 rfl abD) ?_
  rintro h s
  refine zk 6 rfl (zB rfl dG (rfl) (zm rfl (zY s 0 uh cL rfl (zB rfl dG (by rw[UH];rfl) ?_))))
  refine zk 2 rfl (zY s 0 zu bP rfl (zo rfl (aP rfl rfl rfl (bj aT (s.aH (k:=2) rfl (bu _ _)))) (zB rfl jJ (by simp;omega) ?_)))
  refine zk 7 rfl (zY s 0 zu bP rfl (zo rfl (bV (p:=some (.int .i64 8)) (q:=none) (m:=none) (p':=some 8) (q':=none) (m':=none) rfl rfl rfl rfl rfl rfl rfl (cf (s.buf (k:=2) rfl).view (a:=8) h8).1) (zc rfl (mH hW (s.ae [2]) (rq (bu _ _) (a:=8) h8) (by have:=(J rc (by simp)).rd.data;simp;omega)) ?_)))
  intro u h s
  have s:=s.gC
  dsimp only[V.cells,List.length_cons,List.length_nil,Nat.reduceAdd,List.take,List.drop,List.cons_append,List.nil_append,aL,bringA,setA] at s
  have hu:=(s.aH (k:=0) rfl (dF _ _)).cells
  refine zk 2 rfl (zf rfl (Vw _ _) (zS rfl (s.eX (k:=6) rfl ij rfl (by decide) hu.1 hu.2) ?_))
  intro h s
  refine zn rfl (zf rfl (Vx _ _) ?_)
  refine zS rfl (by exact s.eX (k:=6) rfl vD rfl (by decide) rfl rfl) (fun h s => ?_)
  refine zk 3 rfl (zY s 2 zu bP rfl (zo rfl (bV (p:=none) (q:=some (.int .i64 8)) (m:=none) (p':=none) (q':=some 8) (m':=none) rfl rfl rfl rfl rfl rfl rfl (iK (s.buf (k:=1) rfl).view (b:=8) h8).1) (zc rfl (n4 hW s (k:=1) rfl (xC (bu _ _) (b:=8) h8) (by rw[gI];omega)) ?_)))
  rintro v h' ⟨rfl,rfl⟩
  refine zo rfl (RN (r:=.int .u64 ((base+szB dL:Nat):Int)) rfl rfl (abC.trans (by rw[show max (((iZ base (base+szB A) (A++rc::B)).base:Nat):Int) ((leN (rc.data.take 8):Nat):Int)=((base+szB dL:Nat):Int) by rw[←dZ];show max (base:Int) _=_;omega]))) ?_
  refine zk 2 rfl ?_
  have s:=(cC.2 ⟨u,(s.ae [6,0])⟩).ae [0,5,2,4]
  have s:=(((s.del 4).del 4).del 4).del 4
  exact Ge hT YU J EV ob.c7 s ⟨rfl,rfl,aa⟩ hy (fun E' h' I e1 e2 s'=>⟨aa,_,uC e1 e2,.inl ⟨I,rfl,s'⟩⟩) (fun E' h' I e1 e2 s'=>⟨aa,_,uC e1 e2,.inr ⟨I,_,_,_,rfl,s'⟩⟩)
end
structure LR (B0 aB:Nat)(mk:List Nat)(rs:List ct)(x:LD): Prop where
 base:x.1.base=B0
 b:x.1.b=logB B0 rs
 cB:x.1.cB=lI 0 rs
 check:x.1.check=aB
 log:x.2.log=logB B0 rs
 alive:x.2.dead=false
 aS:x.2.aS<0
 mark:x.2.mark=mk
 dA:x.2.dA=none
 tail:x.2.tail=[]
 wait:∀w∈x.2.waiting,w.1<x.2.aq.length∧w.2.length=512
 rs:∀r∈rs,r.Ok
theorem my (base aB:Nat)(mk:List Nat)(rs:List ct): jV (LR base aB mk rs):=by
 refine⟨fun x n h => ?_,fun x n b h => ?_⟩
 ·unfold aI
  split
  ·exact h
  ·have e:x.2.cq=(0,{ x.2 with bh:=x.2.log.length }):=by
    rw[Dk.cq,ak (by rw[h.alive];decide),ak (by have:=h.aS;omega),iT h.aS]
   rw[e,ak (by simp)]
   exact⟨h.base,h.b,h.cB,h.check,h.log,h.alive,h.aS,h.mark,h.dA,h.tail,h.wait,h.rs⟩
 ·unfold Dk.bw
  rw[ak (by rw[h.alive];decide)]
  split
  ·exact h
  ·rename_i I
   rw[ak (by have:=h.aS;omega)]
   refine⟨h.base,h.b,h.cB,h.check,h.log,h.alive,?_,h.mark,h.dA,h.tail,fun w hw => ?_,h.rs⟩
   ·show x.2.cY.aS<0
    rw[iT h.aS];exact h.aS
   ·rcases List.mem_append.1 hw with hw|hw
    ·exact h.wait w hw
    ·rw[List.mem_singleton.1 hw]
     have I:=Classical.not_not.1 I
     exact⟨by show n.toNat<x.2.aq.length;omega,I.2.2⟩
theorem ya {kd:Int}{aQ:List cn}: data.length≤(dy kd tx pv nx data aQ).length∧aQ.length≤(dy kd tx pv nx data aQ).length:=by
 have:=IK aQ
 simp only[dy,bO,aX,cI]
 omega
theorem LR.app {base kd:Nat}{c:List cn}(h:LR base aB mk rs x)(hk:1≤kd)(hg:dY kd c=true)(ht:tx<65536)
 (ha:(aF x kd tx 0 0 data c).1.2=0): ∃r:ct,r.Ok∧r.kd=kd∧r.tx=tx∧r.pv=0∧r.nx=0∧r.data=data∧r.aQ=c∧(aF x kd tx 0 0 data c).1.1=base+szB rs∧LR base aB mk (rs++[r]) (aF x kd tx 0 0 data c).2∧logB base (rs++[r])=logB base rs++cA x.1 kd tx 0 0 data c∧(logB base rs).length+(cA x.1 kd tx 0 0 data c).length≤x.2.room:=by
 rcases ff x kd tx 0 0 data c with⟨e,he,_,hq⟩|⟨_,hf,_⟩|⟨_,hb,hd,fA,hf,hq⟩
 ·grind
 ·grind
 ·rw[iT h.aS] at hq
  have acq:=ya (kd:=kd) (tx:=tx) (pv:=0) (nx:=0) (data:=data) (aQ:=c)
  have hr:(ct.mk kd tx 0 0 data c).Ok:=⟨hg,⟨by grind,by simp,by simp,by grind,by grind⟩,hb⟩
  have hl:(logB base rs).length=szB rs:=gn
  have hn:cA x.1 kd tx 0 0 data c=iL (base+szB rs) (ct.mk kd tx 0 0 data c).bd:=by rw[cA,h.base,h.b,hl];rfl
  have J:logB base (rs++[ct.mk kd tx 0 0 data c])=logB base rs++cA x.1 kd tx 0 0 data c:=by grind[x_,logB]
  have hof:lI 0 (rs++[ct.mk kd tx 0 0 data c])=lI 0 rs++[szB rs]:=by rw[I0,gK];rfl
  refine⟨ct.mk kd tx 0 0 data c,hr,rfl,rfl,rfl,rfl,rfl,rfl,?_,?_,J,by rw[←h.log];exact fA⟩
  ·rw[hq];rw[h.base,h.b,hl]
  ·rw[hq]
   refine⟨h.base,?_,?_,h.check,?_,h.alive,h.aS,h.mark,h.dA,h.tail,h.wait,fun r I => ?_⟩
   ·show x.1.b++_=_;rw[h.b,J]
   ·show x.1.cB++[x.1.b.length]=_;rw[h.cB,h.b,hl,hof]
   ·grind[log]
   ·rcases List.mem_append.1 I with I|I
    ·exact h.rs r I
    grind
theorem Wf : ∀(rs:List ct) (n K:Nat),(∀r∈rs,r.Ok)→∃dL er j,rs=dL++er∧(logB n rs).take K=logB n dL++j∧rF j:=by
 intro rs
 induction rs with
 |nil=>intro n K _;exact⟨[],[],[],rfl,by simp[logB],.inl (by decide)⟩
 |cons r rs ih =>
  intro n K I
  have hr:=I r b7
  by_cases hK:r.len≤K
  ·obtain⟨dL,er,j,h1,h2,h3⟩:=ih (n+r.len) (K-r.len) (fun x hx=>I x (b5 _ hx))
   refine⟨r::dL,er,j,by rw[h1];rfl,?_,h3⟩
   have J:(iL n r.bd).length=r.len:=by rw[sr];rfl
   rw[logB,Ef,eW (by omega),J,h2,logB,c9]
  ·refine⟨[],r::rs,(iL n r.bd).take K,rfl,?_,?_⟩
   ·have J:(iL n r.bd).length=r.len:=by rw[sr];rfl
    show List.take K (iL n r.bd++logB (n+r.len) rs)=[]++_
    rw[mU (by omega),eB]
   ·by_cases h8:K<8
    ·exact .inl (by rw[gI];omega)
    ·right
     have J:(iL n r.bd).length=r.len:=by rw[sr];rfl
     have h4:((iL n r.bd).take K).take 4=le 4 r.bd.length:=by
      rw[List.take_take,AK (by omega),iL,c9,mU (by rw[cR];omega),eW (by rw[cR];omega)]
     have hb:=hr.len
     have hlen:r.len=8+r.bd.length:=rfl
     rw[h4,sj,gI,qS (by simp;omega)]
     omega
structure Lv (δ:Dk): Prop where
 alive:δ.dead=false
 aS:δ.aS<0
theorem Lv.dR {n:Nat}(h:Lv δ): (δ.dR n).1=0∧Lv (δ.dR n).2:=by
 unfold Dk.dR
 split
 ·rename_i I
  unfold Dk.qF
  rw[ak (by rw[h.alive];decide),ak (by omega),ak (by have:=h.aS;omega),iT h.aS]
  exact⟨rfl,h.alive,h.aS⟩
 ·exact⟨rfl,h⟩
theorem Lv.cq (h:Lv δ): δ.cq.1=0∧Lv δ.cq.2:=by
 unfold Dk.cq
 rw[ak (by rw[h.alive];decide),ak (by have:=h.aS;omega),iT h.aS]
 exact⟨rfl,h.alive,h.aS⟩
theorem Lv.c7 {n:Nat}(h:Lv δ): (δ.c7 n).1=0∧Lv (δ.c7 n).2:=by
 obtain⟨J,I⟩:=h.dR (n:=n)
 unfold Dk.c7
 rw[ak (not_not_intro J)]
 split
 ·exact I.cq
 ·exact⟨rfl,I⟩
theorem Lv.bw (h:Lv δ)(I:0≤n)(J:n<δ.aq.length)(hb:b.length=512): (δ.bw n b).1=0∧Lv (δ.bw n b).2:=by
 unfold Dk.bw
 rw[ak (by rw[h.alive];decide),ak (not_not_intro ⟨I,J,hb⟩),ak (by have:=h.aS;omega)]
 refine⟨rfl,h.alive,?_⟩
 show δ.cY.aS<0
 rw[iT h.aS];exact h.aS
theorem Lv.again (J:ρ.Ok): ∀ {l:List Int} {δ:Dk},(∀k∈l,0≤k)→Lv δ→(againW ρ l δ).1=0∧Lv (againW ρ l δ).2:=by
 intro l
 induction l with
 |nil=>intro δ _ h;exact⟨rfl,h⟩
 |cons k l ih =>
  intro δ hl h
  have I:∀k∈l,0≤k:=fun x hx=>hl x (b5 _ hx)
  rw[againW]
  cases hq:lookL k ρ.aq with
  |none=>exact ih I h
  |some b =>
   simp only
   split
   ·rename_i hg
    have hb:b.length=512:=J.len _ (fI hq)
    obtain⟨w1,w2⟩:=h.bw (n:=k) (b:=cT b (oo ρ k)) (hl k b7) hg.2 (nL hb).2.1
    rw[ak (not_not_intro w1)]
    exact ih I w2
   ·exact ih I h
theorem Lv.dO (h:Lv δ): δ.dO.1=0∧Lv δ.dO.2:=by
 rw[Dk.dO,ak (by rw[h.alive];decide),ak (by have:=h.aS;omega),iT h.aS]
 exact⟨rfl,h.alive,h.aS⟩
theorem Lv.eZ {base:Nat}(h:Lv δ)(J:∀r∈er,r.Ok): (eZ δ base rs dL er).1=0∧Lv (eZ δ base rs dL er).2:=by
 have I:(redoL (base+szB dL) er iU.none).Ok:=Cn Bo J
 obtain⟨o1,o2⟩:=h.c7 (n:=szB rs)
 unfold Am.eZ mw
 rw[ak (not_not_intro o1)]
 obtain⟨a1,a2⟩:=Lv.again I (l:=aE (redoL (base+szB dL) er iU.none).aq) (fun k hk=>(I.low k (Co.1 hk)).1) o2
 rw[ak (not_not_intro a1)]
 split
 ·exact⟨rfl,a2⟩
 ·exact a2.dO
theorem S4 {c:List Nat}: Lv (fS δ c):=⟨rfl,by show(-1:Int)<0;decide⟩
theorem Lq {P:List (Option (List Nat))}{x:List Nat}(h:∀(j:Nat) (b:List Nat),P[j]?=some (some b)→b.length=512)(J:x.length=512): ∀(j:Nat) (b:List Nat),(P.set i (some x))[j]?=some (some b)→b.length=512:=fun j b I=>by
 rw[Eb] at I
 split at I
 ·split at I
  ·injection I with I;injection I with I;rw[←I];exact J
  ·cases I
 ·exact h j b I
theorem S5 {c:List Nat}(h:δ.Cr): oG (fS δ c) 65536∧(fS δ c).aq.length=δ.aq.length:=by
 have hl:=h.ok.len
 have hr:=h.ok.room
 have hc:=h.ok.bh
 have hlen:(fS δ c).aq.length=δ.aq.length:=by
  show(tornP c _ _ δ.dA).length=_
  cases δ.dA with
  |none=>exact E5
  |some w=>rw[tornP,bY,E5]
 have J:=Lm (c:=c) (i:=0) (fun w hw=>(h.wait w hw).2) h.ok.aq
 have IU:∀(j:Nat) (b:List Nat),(fS δ c).aq[j]?=some (some b)→b.length=512:=by
  show ∀(j:Nat) (b:List Nat),(tornP c _ _ δ.dA)[j]?=some (some b)→b.length=512
  cases ht:δ.dA with
  |none=>exact J
  |some w =>
   have hw:=(h.dA w ht).2
   refine Lq J ?_
   have I:((layW c 0 δ.waiting δ.aq).getD w.1 none).getD []=[]∨(((layW c 0 δ.waiting δ.aq).getD w.1 none).getD []).length=512:=by
    rw[gY]
    cases hq:(layW c 0 δ.waiting δ.aq)[w.1]? with
    |none=>exact .inl rfl
    |some o =>
     cases o with
     |none=>exact .inl rfl
     |some b=>exact .inr (J _ _ hq)
   have h2:(bp (List.replicate 512 0) 0 (((layW c 0 δ.waiting δ.aq).getD w.1 none).getD [])).length=512:=by
    rw[cJ (by rw[dx];rcases I with I|I<;>rw[I]<;>decide),dx]
   rw[cJ (by rw[h2,gI];omega),h2]
 refine⟨⟨⟨by show(-1:Int)<_;decide,?_,hr,fun e he=>(by cases he),IU,aU _,by rw[hlen];exact h.ok.many⟩,by show 0+65536≤_;decide,fun e he=>(by cases he)⟩,hlen⟩
 show(sq δ c).length≤_
 have ht:=h.tail
 rw[sq,bO,gI,gI,bO,Ee]
 omega
def jW (c:cn)(σ:Int→List Nat): Int→List Nat:=fun n=>if n=c.aK then(if c.whole=true then c.b else bp (σ n) c.pos.toNat c.b) else σ n
def i_ (cs:List cn)(σ:Int→List Nat): Int→List Nat:=cs.foldl (fun σ c=>jW c σ) σ
def eu (rs:List ct)(σ:Int→List Nat): Int→List Nat:=rs.foldl (fun σ r=>i_ r.aQ σ) σ
theorem qj {x y:List ct}: eu (x++y) σ=eu y (eu x σ):=by grind[eu]
theorem I3 {x y:List cn}: i_ (x++y) σ=i_ y (i_ x σ):=by grind[i_]
def Ae (cs:List cn)(n:Int): Prop:=∃c∈cs,c.aK=n∧c.whole=true
def su (rs:List ct)(n:Int): Prop:=∃r∈rs,Ae r.aQ n
structure vq (ρ:iU)(σ:Int→List Nat)(W:Int→Prop): Prop where
 some:∀n b,lookL n ρ.aq=some b→b=σ n∧W n
 none:∀n,lookL n ρ.aq=none→¬W n
theorem vq.kf {W:Int→Prop}(h:vq ρ σ W)(k:Nat)(c:cn): vq (chgF k c ρ) (jW c σ) (fun n=>W n∨(c.aK=n∧c.whole=true)):=by
 unfold chgF
 by_cases hw:c.whole=true
 ·rw[aJ hw]
  refine⟨fun n b I => ?_,fun n I => ?_⟩
  ·rw[gD] at I
   by_cases J:c.aK=n
   ·grind[jW]
   ·rw[ak J] at I
    have:=h.some n b I
    grind[jW]
  ·rw[gD] at I
   by_cases J:c.aK=n
   ·grind
   ·rw[ak J] at I
    rintro(q|q)
    ·exact h.none n I q
    ·omega
 ·rw[ak hw]
  cases hl:lookL c.aK ρ.aq with
  |none =>
   refine⟨fun n b I => ?_,fun n I => ?_⟩
   ·have:=h.some n b I
    grind[jW]
   ·rintro(q|q)
    ·exact h.none n I q
    ·grind
  |some x =>
   have hx:=h.some _ x hl
   refine⟨fun n b I => ?_,fun n I => ?_⟩
   ·rw[gD] at I
    by_cases J:c.aK=n
    ·grind[jW]
    ·rw[ak J] at I
     have:=h.some n b I
     grind[jW]
   ·rw[gD] at I
    by_cases J:c.aK=n
    ·grind
    ·rw[ak J] at I
     rintro(q|q)
     ·exact h.none n I q
     ·omega
theorem vq.iff {W J:Int→Prop}(h:vq ρ σ W)(hw:∀n,W n↔J n): vq ρ σ J:=⟨fun n b I=>⟨(h.some n b I).1,(hw n).1 (h.some n b I).2⟩,fun n I q=>h.none n I ((hw n).2 q)⟩
theorem vq.aQ : ∀ {cs:List cn} {ρ:iU} {σ:Int→List Nat} {W:Int→Prop},vq ρ σ W→vq (DO k cs ρ) (i_ cs σ) (fun n=>W n∨Ae cs n):=by
 intro cs
 induction cs with
 |nil=>intro ρ σ W h;exact h.iff fun n=>⟨.inl,fun q=>q.elim id fun⟨c,I,_⟩=>(by cases I)⟩
 |cons c cs J =>
  intro ρ σ W h
  refine(J (h.kf k c)).iff fun n => ?_
  constructor
  ·rintro((q|q)|⟨c',I,q⟩)
   ·grind
   ·exact .inr ⟨c,b7,q⟩
   ·exact .inr ⟨c',b5 _ I,q⟩
  ·rintro(q|⟨c',I,q⟩)
   ·grind
   ·rcases List.mem_cons.1 I with rfl|I
    ·grind
    ·exact .inr ⟨c',I,q⟩
theorem vq.Ni : ∀ {rs:List ct} {k:Nat} {ρ:iU} {σ:Int→List Nat} {W:Int→Prop},vq ρ σ W→vq (redoL k rs ρ) (eu rs σ) (fun n=>W n∨su rs n):=by
 intro rs
 induction rs with
 |nil=>intro k ρ σ W h;exact h.iff fun n=>⟨.inl,fun q=>q.elim id fun⟨r,I,_⟩=>(by cases I)⟩
 |cons r rs ih =>
  intro k ρ σ W h
  refine(ih (h.aQ (k:=k))).iff fun n => ?_
  constructor
  ·rintro((q|q)|⟨J,I,q⟩)
   ·grind
   ·exact .inr ⟨r,b7,q⟩
   ·exact .inr ⟨J,b5 _ I,q⟩
  ·rintro(q|⟨J,I,q⟩)
   ·grind
   ·rcases List.mem_cons.1 I with rfl|I
    ·grind
    ·exact .inr ⟨J,I,q⟩
theorem Wg (rs:List ct)(k:Nat)(σ:Int→List Nat): vq (redoL k rs iU.none) (eu rs σ) (su rs) :=
 (vq.Ni (ρ:=iU.none) (W:=fun _=>False) ⟨fun n b I=>(by cases I),fun n _ q=>q⟩).iff fun n=>⟨fun q=>q.elim False.elim id,.inr⟩
def jb (a b:List Nat): Prop:=a.length=512∧b.length=512∧a.drop 12=b.drop 12
theorem jb.symm {a:List Nat}(h:jb a b): jb b a:=⟨h.2.1,h.1,h.2.2.symm⟩
theorem jb.trans {a c:List Nat}(h:jb a b)(g:jb b c): jb a c:=⟨h.1,g.2.1,h.2.2.trans g.2.2⟩
theorem jb.refl {a:List Nat}(h:a.length=512): jb a a:=⟨h,h,rfl⟩
theorem I4 {n:Nat}(h:b.length=512): jb (cT b n) b:=⟨(nL h).2.1,h,(nL h).1⟩
theorem jb.good {a:List Nat}(h:jb a b): bW a=bW b:=DJ (h.1.trans h.2.1.symm) h.2.2
theorem YW {now:List Nat}{l:List cn}(hr:uA pg d_ now i l): ∀ {σ:Int→List Nat},now.length=512→(σ pg).length=512→12≤i→(∀j,12≤j→j<i→(σ pg)[j]?=now[j]?)→(∀j,i≤j→(σ pg)[j]?=d_[j]?) →
  (i_ l σ pg).length=512∧(∀j,12≤j→(i_ l σ pg)[j]?=now[j]?)∧∀n,n≠pg→i_ l σ n=σ n:=by
 induction hr with
 |done i h =>
  intro σ hn hs h12 I hhi
  refine⟨hs,fun j hj => ?_,fun _ _=>rfl⟩
  by_cases Ft:j<i
  ·exact I j hj Ft
  ·show(σ pg)[j]?=_
   grind
 |skip i l h he hr ih =>
  grind
 |take i e l h1 h2 _ _ hr ih =>
  intro σ hn hs h12 I hhi
  have hg:∀j,(bp (σ pg) i ((now.take e).drop i))[j]?=if i≤j∧j<e then now[j]? else(σ pg)[j]?:=fun j=>by
   grind[xV]
  have hc:jW ⟨pg,i,false,(now.take e).drop i⟩ σ pg=bp (σ pg) i ((now.take e).drop i):=by grind[jW]
  obtain⟨k1,k2,k3⟩:=ih (σ:=jW ⟨pg,i,false,(now.take e).drop i⟩ σ) hn (by grind) (by omega) (fun j hj hje=>by
   grind) (fun j hj=>by grind)
  refine⟨k1,k2,fun n J => ?_⟩
  have:=k3 n J
  rw[show i_ (⟨pg,i,false,(now.take e).drop i⟩::l) σ=i_ l (jW ⟨pg,i,false,(now.take e).drop i⟩ σ) from rfl,this,jW,ak J]
theorem Lr {a:List Nat}(I:a.length=512)(J:b.length=512)(h:∀j,12≤j→a[j]?=b[j]?): jb a b :=
 ⟨I,J,tB fun i=>by grind⟩
theorem YX {now:List Nat}{c:List cn}(I:F3 pg d_ now c)(J:now.length=512)(hs:jb (σ pg) d_): jb (i_ c σ pg) now∧∀n,n≠pg→i_ c σ n=σ n:=by
 obtain⟨l,hl,rfl⟩:=I
 have hd:∀j,12≤j→(σ pg)[j]?=d_[j]?:=fun j hj=>by
  have:=iO (fun l:List Nat=>l[j-12]?) hs.2.2
  grind
 obtain⟨k1,k2,k3⟩:=YW hl J hs.1 (aU _) (fun j h1 h2=>by omega) hd
 by_cases hz:l=[]
 ·simp_all[i_,jW,bp,Lr]
 ·grind[Lr]
def imgOf (δ:Dk)(n:Int): List Nat:=match δ.aq[n.toNat]? with
 |some (some b)=>b
 |_=>List.replicate 512 0
def uG (δ:Dk)(n:Int)(w:List Nat): Prop:=w=imgOf δ n∨∃wr∈δ.waiting,((wr.1:Nat):Int)=n∧w=wr.2
def BW (δ:Dk)(n:Int): Prop:=0≤n∧n<(δ.aq.length:Int)
def uH (r:ct)(n:Int): Prop:=∃c∈r.aQ,c.aK=n
structure RI (ba:Nat)(nq:Int→Prop)(B0:Int→List Nat)(rs:List ct)(g:Int→Option Nat)(C:Int→List Nat→Prop)(d:List (Int×(Nat×Bool)))(x:LD): Prop where
 base:x.1.base=ba
 b:x.1.b=logB ba rs
 log:x.2.log=logB ba rs
 alive:x.2.dead=false
 aS:x.2.aS<0
 forced:∃u v,rs=u++v∧x.1.forced=szB u
 cert:x.1.forced≤x.2.bh
 kJ:∀n w t t',BW x.2 n→rs=t++t'→x.1.forced≤szB t→(∀rec,g n=some rec→ba+szB t≤rec)→uG x.2 n w→jb (eu t B0 n) w
 bq:∀n rec,g n=some rec→∃t r t',rs=t++r::t'∧rec=ba+szB t∧Ae r.aQ n
 clean:∀n,g n=none→∀wr∈x.2.waiting,((wr.1:Nat):Int)≠n
 DR:∀n b,C n b→∃rec t r t',lookL n d=some (rec,true)∧rs=t++r::t'∧cO b 4 8=ba+szB t∧rec≤ba+szB t∧(¬nq n→∀t1 r1 t2,rs=t1++r1::t2→uH r1 n→szB t1≤szB t)
 flag:∀n rec,lookL n d=some (rec,false)→rec<ba+x.1.forced∧(¬nq n→∀t r t',rs=t++r::t'→uH r n→szB t<x.1.forced)
 ft:∀n rec,lookL n d=some (rec,true)→∃b,C n b
 now:∀n b,lookL n x.2.now=some b→∃wr∈x.2.waiting,((wr.1:Nat):Int)=n∧wr.2=b
 Af:∀n rec fl,lookL n d=some (rec,fl)→g n=some rec
 I5:∀n rec,g n=some rec→nq n∨∃fl,lookL n d=some (rec,fl)
 ck:∀n w,0≤n→uG x.2 n w→gU w=0
 P5:∀n,nq n→lookL n d=none→∃t r,rs=t++[r]∧g n=some (ba+szB t)
theorem S6 (I:δ.dead=false)(J:δ.aS<0)(h0:0≤n)(h1:n<δ.aq.length)(hb:b.length=512): δ.bw n b=(0,{ δ with waiting:=δ.waiting++[(n.toNat,b)],now:=cG n b δ.now,aS:=δ.aS }):=by
 grind[Dk.bw,Dk.wr,iT]
theorem qH {v:List ct}: szB u≤szB (u++v):=by rw[om];omega
theorem vJ (r:ct): 8≤r.len:=by simp only[ct.len];omega
theorem wP {t t':List ct}: szB t<szB (t++r::t'):=by
 grind[vJ,om,szB]
section
variable {C:Int→List Nat→Prop}
theorem RI.len (h:RI ba nq B0 rs g C d x): x.1.b.length=szB rs:=by rw[h.b,gn]
theorem RI.le (h:RI ba nq B0 rs g C d x): x.1.forced≤szB rs:=by
 obtain⟨u,v,hu,I⟩:=h.forced
 rw[I,hu];exact qH
theorem RI.all (h:RI ba nq B0 rs g C d x): RI ba nq B0 rs g C d ({ x.1 with forced:=x.1.b.length },{ x.2 with bh:=x.2.log.length }):=by
 have J:=h.len
 have hle:x.1.forced≤x.1.b.length:=by rw[J];exact h.le
 refine⟨h.base,h.b,h.log,h.alive,h.aS,⟨rs,[],by simp,J⟩,by rw[h.b,h.log];exact aU _,
  fun n w t t' h0 ht I hr hc=>h.kJ n w t t' h0 ht (bT hle I) hr hc,h.bq,h.clean,h.DR,fun n rec hn=>⟨iN (h.flag n rec hn).1 (vT hle _),fun hp t r t' e q=>iN ((h.flag n rec hn).2 hp t r t' e q) hle⟩,h.ft,h.now,h.Af,h.I5,h.ck,h.P5⟩
theorem RI.force (h:RI ba nq B0 rs g C d x)(n:Nat)(hn:n<ba+szB rs): ∃I,aI x n=(0,I)∧RI ba nq B0 rs g C d I∧n<ba+I.1.forced∧I.2.waiting=x.2.waiting∧I.2.aq=x.2.aq∧I.2.now=x.2.now:=by
 unfold aI
 by_cases J:n<x.1.base+x.1.forced
 ·rw[aJ J];exact⟨x,rfl,h,by rw[←h.base];exact J,rfl,rfl,rfl⟩
 ·have e:x.2.cq=(0,{ x.2 with bh:=x.2.log.length }):=by
   rw[Dk.cq,ak (by rw[h.alive];decide),ak (by have:=h.aS;omega),iT h.aS]
  rw[ak J,e,ak (by simp)]
  exact⟨_,rfl,h.all,by rw[h.len];exact hn,rfl,rfl,rfl⟩
theorem RI.kI (N:Nat): mu N (RI ba nq B0 rs g):=by
 refine⟨fun ε i f he hf h0 hc h => ?_⟩
 obtain⟨rec,t0,r0,t0',g1,g2,g3,g4,g5⟩:=h.DR f.aK f.b ⟨i,f,hf,rfl,h0,hc,rfl⟩
 have nu:=(he.back i f hf).resolve_left (by omega)
 have hg:=nu.kf hc
 obtain⟨x',mM,h',cE,w1,w2,w3⟩:=h.force (cO f.b 4 8) (by grind[wP])
 have I:=S6 (δ:=x'.2) (n:=f.aK) (b:=f.b) h'.alive h'.aS h0 (by rw[w2,he.dk.aq];exact nu.lt) (eC hg)
 have e:outF ε i=(0,({ ε.1 with ai:=ε.1.ai.set i { f with changed:=false },bq:=cG f.aK (mg ε.1 f.aK,false) ε.1.bq },(x'.1,{ x'.2 with waiting:=x'.2.waiting++[(f.aK.toNat,f.b)],now:=cG f.aK f.b x'.2.now,aS:=x'.2.aS }))):=by
  grind[outF]
 have P6:mg ε.1 f.aK=rec:=by simp only[mg,g1]
 have hC:∀n b,j4 { ε.1 with ai:=ε.1.ai.set i { f with changed:=false },bq:=cG f.aK (mg ε.1 f.aK,false) ε.1.bq } n b→j4 ε.1 n b∧n≠f.aK:=by
  rintro n b ⟨j,y,hy,k1,k0,k2,k3⟩
  rcases qi hf hy with⟨rfl,rfl⟩|⟨sH,hy⟩
  ·cases k2
  ·refine⟨⟨j,y,hy,k1,k0,k2,k3⟩,fun J=>sH ?_⟩
   have h1:=((he.back j y hy).resolve_left (by omega)).here
   rw[k1,J,nu.here] at h1
   have:=cx h1
   omega
 have hC2:∀n b,j4 ε.1 n b→n≠f.aK→j4 { ε.1 with ai:=ε.1.ai.set i { f with changed:=false },bq:=cG f.aK (mg ε.1 f.aK,false) ε.1.bq } n b:=by
  rintro n b ⟨j,y,hy,k1,k0,k2,k3⟩ J
  refine⟨j,y,?_,k1,k0,k2,k3⟩<;>grind
 have hd:∀m,lookL m (cG f.aK (rec,false) ε.1.bq)=if f.aK=m then some (rec,false) else lookL m ε.1.bq:=fun m=>gD _
 show RI ba nq B0 rs g (j4 (outF ε i).2.1) (outF ε i).2.1.bq (outF ε i).2.2
 rw[e]
 simp only[P6] at hC hC2 ⊢
 have T7:g f.aK=some rec:=h.Af _ _ _ g1
 refine⟨h'.base,h'.b,h'.log,h'.alive,h'.aS,h'.forced,h'.cert,fun n w t t' wm ht BX hr uY => ?_,h'.bq,fun n J wr I => ?_,fun n b hb => ?_,fun n Ag J => ?_,fun n Ag J => ?_,fun n b hb => ?_,fun n Ag fl J => ?_,fun n Ag J => ?_,fun n w wm uY => ?_,fun n hp J => ?_⟩
 ·by_cases J:f.aK=n
  ·grind
  ·have abE:uG x'.2 n w:=by
    rcases uY with hq|⟨wr,I,q1,q2⟩
    ·exact .inl hq
    ·rcases List.mem_append.1 I with I|I
     ·exact .inr ⟨wr,I,q1,q2⟩
     grind
   exact h'.kJ n w t t' wm ht BX hr abE
 ·rcases List.mem_append.1 I with I|I
  ·exact h'.clean n J wr I
  grind
 ·obtain⟨k1,k2⟩:=hC n b hb
  obtain⟨r',t,r,t',m1,m2⟩:=h.DR n b k1
  exact⟨r',t,r,t',by grind,m2⟩
 ·rw[hd] at J
  by_cases hq:f.aK=n
  ·grind
  ·rw[ak hq] at J
   exact h'.flag n Ag J
 ·rw[hd] at J
  by_cases hq:f.aK=n
  ·grind
  ·rw[ak hq] at J
   obtain⟨b,hb⟩:=h.ft n Ag J<;>grind
 ·rw[gD] at hb
  by_cases hq:f.aK=n
  ·rw[aJ hq] at hb
   injection hb with hb
   exact⟨(f.aK.toNat,f.b),List.mem_append.2 (.inr b7),by omega,hb⟩
  ·rw[ak hq] at hb
   obtain⟨wr,k1,k2⟩:=h'.now n b hb<;>grind
 ·rw[hd] at J
  by_cases hq:f.aK=n
  ·grind
  ·rw[ak hq] at J
   exact h.Af n Ag fl J
 ·rcases h.I5 n Ag J with q|⟨fl,q⟩<;>grind
 ·rcases uY with hq|⟨wr,I,q1,q2⟩
  ·exact h'.ck n w wm (.inl hq)
  ·rcases List.mem_append.1 I with I|I
   ·exact h'.ck n w wm (.inr ⟨wr,I,q1,q2⟩)
   ·rw[q2,List.mem_singleton.1 I];exact nu.aB
 ·rw[hd] at J
  by_cases hq:f.aK=n
  ·grind
  ·rw[ak hq] at J
   exact h.P5 n hp J
theorem RI.app (h:RI ba (fun _=>False) B0 rs g C d x)(hw:∀n,g n=none→uH r n→Ae r.aQ n)(m1:μ.base=x.1.base)(m2:μ.b=logB ba (rs++[r]))(m3:μ.forced=x.1.forced)
 (e1:δ.log=logB ba (rs++[r]))(e2:δ.dead=x.2.dead)(e3:δ.aS=x.2.aS)(e4:δ.bh=x.2.bh)(e5:δ.waiting=x.2.waiting)(e6:δ.aq=x.2.aq)(e7:δ.now=x.2.now){p:Int→Prop}[DecidablePred p](hp:∀n,p n↔uH r n):
  RI ba p B0 (rs++[r]) (fun n=>match g n with|some rec=>some rec|none=>if p n then some (ba+szB rs) else none) C d (μ,δ):=by
 have I:∀n w,uG δ n w→uG x.2 n w:=fun n w hc=>by
  grind[uG,imgOf]
 have UI:∀ {n rec},g n=some rec→(match g n with|some rec=>some rec|none=>if p n then some (ba+szB rs) else none)=some rec:=fun J=>by rw[J]
 have aaz:∀ {n},(match g n with|some rec=>some rec|none=>if p n then some (ba+szB rs) else none)=none→g n=none∧¬p n:=fun {n} J=>by
  grind
 have UJ:∀ {n rec},(match g n with|some rec=>some rec|none=>if p n then some (ba+szB rs) else none)=some rec→g n=some rec∨(g n=none∧p n∧rec=ba+szB rs):=fun {n rec} J=>by
  grind
 have Nj:∀ {n t r1 t'},rs++[r]=t++r1::t'→uH r1 n→¬p n→∃P7,rs=t++r1::P7:=fun {n t r1 t'} ht hc J=>by
  rcases tv t' with rfl|⟨P7,z,rfl⟩<;>grind[List.append_inj']
 refine⟨m1.trans h.base,m2,e1,e2.trans h.alive,by rw[e3];exact h.aS,?_,by rw[m3,e4];exact h.cert,fun n w t t' h0 ht BX hr hc => ?_,fun n rec J => ?_,fun n J => ?_,fun n b hb => ?_,fun n rec J => ?_,h.ft,fun n b hb => ?_,fun n rec fl J => ?_,fun n rec J => ?_,fun n w h0 hc=>h.ck n w h0 (I n w hc),fun n I6 J=>⟨rs,r,rfl,?_⟩⟩
 ·obtain⟨u,v,hu,hf⟩:=h.forced<;>grind
 ·have BX:x.1.forced≤szB t:=by grind
  rcases tv t' with rfl|⟨P7,z,rfl⟩
  ·-- all of it
   rw[ej] at ht
   subst ht
   have hg:g n=none∧¬p n:=by
    cases hq:g n with
    |some rec =>
     obtain⟨a,b,c,k1,k2,_⟩:=h.bq n rec hq<;>grind[wP]
    |none =>
     grind[wP]
   have hs:eu (rs++[r]) B0 n=eu rs B0 n:=by
    rw[qj]
    have:∀(l:List cn) (σ:Int→List Nat),(∀c∈l,c.aK≠n)→i_ l σ n=σ n:=by
     intro l
     induction l with
     |nil=>intro σ _;rfl
     |cons c l ih =>
      intro σ hl
      show i_ l (jW c σ) n=σ n
      grind[jW]
    exact this _ _ fun c hc q=>hg.2 ((hp n).2 ⟨c,hc,q⟩)
   rw[hs]
   exact h.kJ n w rs [] (by rw[BW,←e6];exact h0) (by simp) h.le (fun rec q=>by grind) (I n w hc)
  ·have UK:rs++[r]=(t++P7)++[z]:=by grind
   have ht3:=(List.append_inj' UK rfl).1
   exact h.kJ n w t P7 (by rw[BW,←e6];exact h0) ht3 BX (fun rec q=>hr rec (UI q)) (I n w hc)
 ·rcases UJ J with hq|⟨hq,I6,rfl⟩
  ·obtain⟨a,b,c,k1,k2,k3⟩:=h.bq n rec hq<;>grind
  ·grind
 ·rw[e5]
  exact h.clean n (aaz J).1
 ·obtain⟨rec,t,r1,t',k1,k2,k3,k4,k5⟩:=h.DR n b hb
  refine⟨rec,t,r1,t'++[r],k1,by grind,k3,k4,fun I6 t1 r2 t2 e q => ?_⟩
  obtain⟨t3,e3⟩:=Nj e q I6
  exact k5 (fun q=>q) t1 r2 t3 e3 q
 ·obtain⟨k1,k2⟩:=h.flag n rec J<;>grind
 ·obtain⟨wr,k1,k2⟩:=h.now n b (by grind)
  exact⟨wr,by grind,k2⟩
 ·exact UI (h.Af n rec fl J)
 ·rcases UJ J with hq|⟨hq,I6,rfl⟩
  ·rcases h.I5 n rec hq with q|q
   ·grind
   ·grind
  ·grind
 ·cases hq:g n with
  |none=>grind
  |some rec =>
   rcases h.I5 n rec hq with q|⟨fl,q⟩
   ·grind
   ·grind
end
theorem S7 {n:Nat}(I:b.length=512)(J:n<18446744073709551616): cO (cT b n) 4 8=n:=by
 have h3:=(nL (n:=n) I).2.2.1
 have e1:cO (cT b n) 4 8=leN (((cT b n).drop 4).take 8):=by rfl
 grind[oE,le,bp,cR,sj]
theorem lookL_filter : ∀ {d:List (Int×(Nat×Bool))},(d.map (·.1)).Nodup→lookL n (d.filter fun e=>e.2.2)=match lookL n d with|some (rec,true)=>some (rec,true)|_=>none:=by
 intro d
 induction d<;>grind[lookL,f_]
section
theorem mz {p:Int→Prop}: vw (RI ba p B0 rs g) ε↔RI ba p B0 rs g (j4 ε.1) ε.1.bq ε.2:=Iff.rfl
theorem RI.put (h:vw (RI ba nq B0 rs g) ε)(he:EC N ε)(hl:lookL n ε.1.aG=some (i:Int))(hf:ε.1.ai[i]?=some f)(hb:b.length=512)(h0:0≤n)(hp:nq n)
 (Nj:∃t r,rs=t++[r]∧aM=ba+szB t)(cE:aM<18446744073709551616): vw (RI ba (fun m=>nq m∧m≠n) B0 rs g) (vG ε.1 n i f b aM,ε.2):=by
 have hi:=(List.getElem?_eq_some_iff.1 hf).1
 obtain⟨t0,r0,e0,e1⟩:=Nj
 have mh:f.aK=n:=by
  obtain⟨_,j,x,sH,hx,IT⟩:=he.jU n i hl<;>grind
 have J:∀m,lookL m (cG n (dirtOf ε.1 n aM,true) ε.1.bq)=if n=m then some (dirtOf ε.1 n aM,true) else lookL m ε.1.bq:=fun m=>gD _
 have hg:g n=some (dirtOf ε.1 n aM)∧dirtOf ε.1 n aM≤aM:=by
  cases I:lookL n ε.1.bq with
  |some x =>
   obtain⟨rec,fl⟩:=x
   have:=h.Af n rec fl I
   have e:dirtOf ε.1 n aM=rec:=by simp only[dirtOf,I]
   rw[e]
   refine⟨this,?_⟩
   obtain⟨a,c,a',k1,k2,_⟩:=h.bq n rec this
   rw[k2,e1]
   have:szB a≤szB t0:=by
    rcases tv a' with rfl|⟨yo,z,rfl⟩<;>grind[List.append_inj',qH]
   omega
  |none =>
   have e:dirtOf ε.1 n aM=aM:=by simp only[dirtOf,I]
   obtain⟨t,r,k1,k2⟩:=h.P5 n hp I<;>grind[List.append_inj']
 have hC:∀m c,j4 (vG ε.1 n i f b aM) m c→(m=n∧c=cT b aM)∨(m≠n∧j4 ε.1 m c):=by
  rintro m c ⟨j,y,hy,k1,k0,k2,k3⟩
  rcases qi hf hy with⟨rfl,rfl⟩|⟨sH,hy⟩
  ·grind
  ·refine .inr ⟨fun hmn=>sH ?_,j,y,hy,k1,k0,k2,k3⟩
   have h1:=((he.back j y hy).resolve_left (by omega)).here
   grind
 have hC2:j4 (vG ε.1 n i f b aM) n (cT b aM):=⟨i,{ f with b:=cT b aM,changed:=true,pins:=0 },by exact iM hi,mh,h0,rfl,rfl⟩
 have hC3:∀m c,m≠n→j4 ε.1 m c→j4 (vG ε.1 n i f b aM) m c:=by
  rintro m c hm ⟨j,y,hy,k1,k0,k2,k3⟩
  refine⟨j,y,?_,k1,k0,k2,k3⟩
  show(ε.1.ai.set i _)[j]?=some y
  grind
 have I6:∀ {m},m≠n→¬(nq m∧m≠n)→¬nq m:=fun hm I ku=>I ⟨ku,hm⟩
 refine⟨h.base,h.b,h.log,h.alive,h.aS,h.forced,h.cert,h.kJ,h.bq,h.clean,fun m c hc => ?_,fun m rec hm => ?_,fun m rec hm => ?_,h.now,fun m rec fl hm => ?_,fun m rec hm => ?_,h.ck,fun m hm I => ?_⟩
 ·rcases hC m c hc with⟨rfl,rfl⟩|⟨hm,hc⟩
  ·refine⟨dirtOf ε.1 m aM,t0,r0,[],?_,e0,?_,?_,fun _ t1 r1 t2 q _ => ?_⟩
   ·show lookL m (cG m _ _)=_;rw[J,aJ rfl]
   ·rw[S7 hb cE,e1]
   ·omega
   ·rcases tv t2 with rfl|⟨t3,z,rfl⟩<;>grind[List.append_inj',qH]
  ·obtain⟨rec,t,r,t',k1,k2,k3,k4,k5⟩:=h.DR m c hc
   exact⟨rec,t,r,t',by show lookL m (cG n _ _)=_;rw[J,ak (fun q=>hm q.symm)];exact k1,k2,k3,k4,fun q=>k5 (I6 hm q)⟩
 ·have hm:lookL m (cG n (dirtOf ε.1 n aM,true) ε.1.bq)=some (rec,false):=hm
  rw[J] at hm
  by_cases I:n=m
  ·grind
  ·rw[ak I] at hm
   obtain⟨k1,k2⟩:=h.flag m rec hm
   exact⟨k1,fun q=>k2 (I6 (fun q=>I q.symm) q)⟩
 ·have hm:lookL m (cG n (dirtOf ε.1 n aM,true) ε.1.bq)=some (rec,true):=hm
  rw[J] at hm
  by_cases I:n=m
  ·grind
  ·rw[ak I] at hm
   obtain⟨c,hc⟩:=h.ft m rec hm
   exact⟨c,hC3 m c (fun q=>I q.symm) hc⟩
 ·have hm:lookL m (cG n (dirtOf ε.1 n aM,true) ε.1.bq)=some (rec,fl):=hm
  rw[J] at hm
  by_cases I:n=m
  ·grind
  ·rw[ak I] at hm
   exact h.Af m rec fl hm
 ·by_cases I:n=m
  ·subst I
   rw[hg.1] at hm
   exact .inr ⟨true,by show lookL n (cG n _ _)=_;rw[J,aJ rfl,cx hm]⟩
  ·rcases h.I5 m rec hm with q|⟨fl,q⟩
   ·grind
   ·exact .inr ⟨fl,by show lookL m (cG n _ _)=_;rw[J,ak I];exact q⟩
 ·have I:lookL m (cG n (dirtOf ε.1 n aM,true) ε.1.bq)=none:=I
  rw[J,ak (fun q=>hm.2 q.symm)] at I
  exact h.P5 m hm.1 I
theorem PtR.ri {l:List Int}(J:PtR now aM l ε e ah): ∀ {p:Int→Prop},EC N ε→fD ε→NW N now→(∀n∈l,0≤n∧n<N)→l.Nodup→(∀n∈l,p n)→(∃t r,rs=t++[r]∧aM=ba+szB t)→aM<18446744073709551616 →
  vw (RI ba p B0 rs g) ε→vw (RI ba (fun m=>p m∧m∉l) B0 rs g) ah:=by
 induction J with
 |nil ε =>
  simp
 |jt n l ε e b ah J he =>
  intro p h h3 hn hl
  have:=hl n b7
  exact absurd ((J.ec h).2.2.1 this.1 this.2).1 he
 |bad n l ε b0 b ah J hb he =>
  intro p h h3 hn hl
  exact absurd ((J.put (b:=b) (aM:=aM) h3).2.2 (hn.look hb).1) he
 |put n l ε b0 b ah e lp J hb he ht ih =>
  intro p h h3 hn hl lK hp I cE hv
  have lZ:=hl n b7
  obtain⟨k1,k2,k3,k4⟩:=J.ec h
  obtain⟨i,f,p1,p2,p3,p4,p5⟩:=J.at h3.pins
  have hg:=hn.look hb
  have e1:=tj (aM:=aM) p1 p2 p3 hg.1
  obtain⟨q1,q2⟩:=k1.put (aM:=aM) p1 p2 hg.1 hg.2 lZ.1 lZ.2
  have IV:=(J.put (b:=b) (aM:=aM) h3).1
  have sL:vw (RI ba p B0 rs g) ah:=(RI.kI N).jt J h hv
  have oN:=RI.put sL k1 p1 p2 (eC hg.1) lZ.1 (hp n b7) I cE
  rw[e1] at ih IV
  obtain⟨d1,d2⟩:=List.nodup_cons.1 lK
  have:=ih q1 IV hn (fun m hm=>hl m (b5 _ hm)) d2 (p:=fun m=>p m∧m≠n) (fun m hm=>⟨hp m (b5 _ hm),fun q=>d1 (by grind)⟩) I cE oN
  have e:(fun m=>(p m∧m≠n)∧m∉l)=(fun m=>p m∧m∉n::l):=funext fun m=>propext ⟨fun q=>⟨q.1.1,by grind⟩,fun q=>by
   grind⟩
  rw[←e];exact this
end
theorem P8 : ∀ {l:List cn} {σ:Int→List Nat},(∀c∈l,c.aK≠n)→i_ l σ n=σ n:=by
 intro l
 induction l with
 |nil=>intro σ _;rfl
 |cons c l I =>
  intro σ J
  show i_ l (jW c σ) n=σ n
  grind[jW]
theorem I7 : ∀ {l:List ct} {σ:Int→List Nat},(∀r∈l,¬uH r n)→eu l σ n=σ n:=by
 intro l
 induction l with
 |nil=>intro σ _;rfl
 |cons r l J =>
  intro σ I
  show eu l (i_ r.aQ σ) n=σ n
  rw[J fun r hr=>I r (b5 _ hr),P8 fun c hc q=>I r b7 ⟨c,hc,q⟩]
def syG (d:List (Int×(Nat×Bool)))(n:Int): Option Nat:=match lookL n d with
 |some (rec,true)=>some rec
 |_=>none
section
theorem RI.img (h:vw (RI ba (fun _=>False) B0 rs g) ε)(he:EC N ε)(I:0≤n): ((∃b,lookL n ε.2.2.now=some b∧imgOf ε.2.2.sync n=b)∨(lookL n ε.2.2.now=none∧imgOf ε.2.2.sync n=imgOf ε.2.2 n))∧imgOf ε.2.2.sync n=ε.2.2.at n:=by
 have e:imgOf ε.2.2.sync n=ε.2.2.at n:=by
  rw[imgOf,Dk.at,show ε.2.2.sync.aq=laidP ε.2.2.now ε.2.2.aq from rfl,laidP_get he.dk.aq he.dk.nodup he.dk.keys I]
  grind
 refine⟨?_,e⟩
 cases J:lookL n ε.2.2.now with
 |some b=>grind[Dk.at]
 |none=>exact .inr ⟨rfl,by rw[e,Dk.at,J];rfl⟩
theorem RI.sync (h:vw (RI ba (fun _=>False) B0 rs g) ε)(he:EC N ε)(dZ:∀n,0≤n→n<(N:Int)→jb (eu rs B0 n) (pgA ε n)):
  dJ ε.1 ε.2.2=(0,{ ε.1 with bq:=ε.1.bq.filter fun e=>e.2.2 },ε.2.2.sync)∧vw (RI ba (fun _=>False) B0 rs (syG ε.1.bq)) ({ ε.1 with bq:=ε.1.bq.filter fun e=>e.2.2 },(ε.2.1,ε.2.2.sync)):=by
 have es:ε.2.2.dO=(0,ε.2.2.sync):=by rw[Dk.dO,ak (by rw[he.dk.alive];decide),ak (by have:=he.dk.aS;omega),iT he.dk.aS]
 have hd:∀n,lookL n (ε.1.bq.filter fun e=>e.2.2)=match lookL n ε.1.bq with|some (rec,true)=>some (rec,true)|_=>none:=fun n=>lookL_filter he.Ac
 have jB:∀ {n rec fl},lookL n (ε.1.bq.filter fun e=>e.2.2)=some (rec,fl)→fl=true∧lookL n ε.1.bq=some (rec,true):=fun {n rec fl} hq=>by
  grind
 have UL:∀ {n rec},syG ε.1.bq n=some rec→lookL n ε.1.bq=some (rec,true):=fun {n rec} hq=>by
  grind[syG]
 refine⟨by grind[dJ],?_⟩
 refine⟨h.base,h.b,h.log,h.alive,h.aS,h.forced,h.cert,fun n w t t' I ht BX hr hc => ?_,fun n rec hn=>h.bq n rec (h.Af n rec _ (UL hn)),fun n _ wr J=>(by cases J),fun n b hb => ?_,fun n rec hn => ?_,fun n rec hn => ?_,fun n b hb=>(by cases hb),fun n rec fl hn => ?_,fun n rec hn=>.inr ⟨true,?_⟩,fun n w I hc => ?_,fun n q=>q.elim⟩
 ·have vj:BW ε.2.2 n:=⟨I.1,by have:=I.2;rw[show ε.2.2.sync.aq=laidP ε.2.2.now ε.2.2.aq from rfl,nJ] at this;exact this⟩
  have I:=I.1
  obtain⟨k1,k2⟩:=RI.img h he I
  have hw:w=imgOf ε.2.2.sync n:=by
   rcases hc with hc|⟨wr,J,_⟩
   ·exact hc
   ·cases J
  have hold:(∀rec,g n=some rec→ba+szB t≤rec)→jb (eu t B0 n) w:=fun B9=>by
   refine h.kJ n w t t' vj ht BX B9 ?_
   rcases k1 with⟨b,q1,q2⟩|⟨q1,q2⟩
   ·obtain⟨wr,m1,m2,m3⟩:=h.now n b q1
    exact .inr ⟨wr,m1,m2,by grind⟩
   ·exact .inl (by grind)
  cases hq:lookL n ε.1.bq with
  |none =>
   refine hold fun rec B9 => ?_
   rcases h.I5 n rec B9 with q|⟨fl,q⟩
   ·grind
   ·grind
  |some x =>
   obtain⟨rec,fl⟩:=x
   cases fl with
   |true =>
    have:g n=some rec:=h.Af n rec _ hq
    grind[syG]
   |false =>
    have hN:=he.uE n (fI hq |> m4 (f:=(·.1)))
    have mh:pgA ε n=ε.2.2.at n:=by
     rcases he.cases n with⟨j,f,q1,q2,q3,q4,q5,q6⟩|⟨q1,q2⟩
     ·rw[q6]
      cases hcg:f.changed with
      |false=>rw[q5.same hcg,q3]
      |true =>
       obtain⟨Ag,_,_,_,m,_⟩:=h.DR n f.b ⟨j,f,q2,q3,I,hcg,rfl⟩
       rw[hq] at m
       cases m
     ·exact q2
    have hS:eu rs B0 n=eu t B0 n:=by
     rw[ht,qj]
     refine I7 fun r hr iI => ?_
     obtain⟨a,b,rfl⟩:=List.append_of_mem hr
     have:=(h.flag n rec hq).2 (fun q=>q) (t++a) r b (by grind) iI
     grind[qH]
    rw[←hS,hw,k2,←mh]
    exact dZ n I hN.2
 ·obtain⟨rec,t,r,t',m1,m2⟩:=h.DR n b hb<;>grind
 ·grind
 ·exact h.ft n rec (jB hn).2
 ·grind[syG]
 ·grind
 ·rcases hc with hc|⟨wr,J,_⟩
  ·rcases (RI.img h he I).1 with⟨b,q1,q2⟩|⟨q1,q2⟩
   ·obtain⟨wr,m1,m2,m3⟩:=h.now n b q1
    exact h.ck n w I (.inr ⟨wr,m1,m2,by grind⟩)
   ·exact h.ck n w I (.inl (hc.trans q2))
  ·cases J
theorem Wh (h:EC N ε)(hf:ε.1.ai[i]?=some f)(h0:0≤f.aK)(hc:j4 (outF ε i).2.1 n b): j4 ε.1 n b∧n≠f.aK:=by
 obtain⟨o1,o2,o3,o4,gg,o5,o6,o7⟩:=h.out hf
 have I:=(h.back i f hf).resolve_left (by omega)
 obtain⟨j,y,hy,k1,k0,k2,k3⟩:=hc
 have kU:n≠f.aK:=by
  intro q
  have J:=(o2.back j y hy).resolve_left (by omega)
  have h1:=J.here
  rw[k1,q,o4,I.here] at h1
  grind
 grind[outF,j4]
theorem Kv {P:VP}(J:mu N P): ∀ {l:List Int} {ε:aZ},EC N ε→(∀n∈l,(lookL n ε.1.aG).isSome=true)→vw P ε→vw P (writeAllF l ε).2∧∀n b,j4 (writeAllF l ε).2.1 n b→j4 ε.1 n b∧n∉l:=by
 intro l
 induction l with
 |nil=>intro ε h _ hv;exact⟨hv,fun n b q=>⟨q,by simp⟩⟩
 |cons n l ih =>
  intro ε h hl hv
  cases hq:lookL n ε.1.aG with
  |none=>grind
  |some i =>
   obtain⟨wm,j,f,rfl,I,hp⟩:=h.jU n i hq
   obtain⟨k1,k2,k3,k4,_⟩:=h.out I
   have e:eY ε n=outF ε j:=by grind[eY]
   rw[writeAllF,e,ak (by omega)]
   obtain⟨i1,i2⟩:=ih k2 (fun m hm=>by grind) (J.out h I hv)
   refine⟨i1,fun m b hm => ?_⟩
   obtain⟨q1,q2⟩:=i2 m b hm
   obtain⟨q3,q4⟩:=Wh h I (by omega) q1
   exact⟨q3,by grind⟩
theorem Gf (ε:aZ): ∀n∈aE ε.1.aG,(lookL n ε.1.aG).isSome=true:=fun n I=>by
 cases J:lookL n ε.1.aG<;>grind[fu,f_]
theorem RI.Wi (h:vw (RI ba (fun _=>False) B0 rs g) ε)(he:EC N ε)(dZ:∀n,0≤n→n<(N:Int)→jb (eu rs B0 n) (pgA ε n)): vw (RI ba (fun _=>False) B0 rs (fun _=>none)) (eS ε).2:=by
 have J:=Gf ε
 obtain⟨w1,w2,w3⟩:=qD he J
 obtain⟨a1,a2⟩:=Kv (RI.kI N) he J h
 obtain⟨s1,s2⟩:=RI.sync a1 w2 (fun n h0 h1=>by grind)
 have e:(eS ε).2=({ (writeAllF (aE ε.1.aG) ε).2.1 with bq:=(writeAllF (aE ε.1.aG) ε).2.1.bq.filter fun e=>e.2.2 },((writeAllF (aE ε.1.aG) ε).2.2.1,(writeAllF (aE ε.1.aG) ε).2.2.2.sync)):=by
  rw[eS,ak (by rw[he.dk.alive];decide),ak (by omega),s1]
 have yH:∀n b,¬j4 (writeAllF (aE ε.1.aG) ε).2.1 n b:=fun n b hc=>by
  obtain⟨q1,q2⟩:=a2 n b hc
  obtain⟨j,f,hf,k1,k0,k2,k3⟩:=q1
  have I:=(he.back j f hf).resolve_left (by omega)
  rw[←k1] at q2
  refine q2 (fu.2 ?_)
  have:=I.here
  exact fI this |> m4 (f:=(·.1))
 have hg:syG (writeAllF (aE ε.1.aG) ε).2.1.bq=fun _=>none:=by
  grind[syG,ft]
 rw[hg] at s2
 rw[e];exact s2
end
theorem S8 {now:List Nat}{l:List cn}(I:uA pg d_ now i l): ∀c∈l,c.aK=pg:=by
 induction I<;>grind
theorem I8 {now:List Nat}{c:List cn}(I:F3 pg d_ now c): (∀x∈c,x.aK=pg)∧c≠[]:=by
 obtain⟨l,J,rfl⟩:=I<;>grind[S8]
theorem YY {now:List Nat}{l:List cn}(I:uA pg d_ now i l)(J:∀x∈now,x<256): ∀c∈l,∀x∈c.b,x<256:=by
 induction I<;>grind
theorem YZ {now:List Nat}{c:List cn}(I:F3 pg d_ now c)(J:∀x∈now,x<256): ∀x∈c,∀y∈x.b,y<256:=by
 obtain⟨l,hl,rfl⟩:=I
 by_cases hz:l=[]
 ·grind
 ·rw[ak hz]
  exact YY hl J
theorem ChR.lt {l:List Int}{cs:List cn}(hr:ChR now l ε e cs ah)(hn:NW N now): ∀c∈cs,∀x∈c.b,x<256:=by
 induction hr with
 |nil ε=>simp
 |err n l ε e b ah hr he=>simp
 |part n l ε d_ b ah c e cs J hr hb jB hc kz ht ih =>
  intro x I
  rcases List.mem_append.1 I with I|I
  ·exact YZ hc (hn.look hb).2 x I
  ·grind
 |whole n l ε d_ b ah e cs J hr hb jB ht ih =>
  intro x I
  rcases List.mem_cons.1 I with rfl|I
  ·exact(hn.look hb).2
  ·grind
structure uI (rs:List ct)(B0:Int→List Nat): Prop where
 Y0:∀n,∀x∈B0 n,x<256
 lt:∀r∈rs,∀c∈r.aQ,∀x∈c.b,x<256
 gd:∀t t' n,rs=t++t'→(∃r∈t,uH r n)→bW (eu t B0 n)=true
theorem Wj : ∀ {cs:List cn} {σ:Int→List Nat},(∀c∈cs,∀x∈c.b,x<256)→(∀n,∀x∈σ n,x<256)→∀n,∀x∈i_ cs σ n,x<256:=by
 intro cs
 induction cs with
 |nil=>intro σ _ h;exact h
 |cons c cs J =>
  intro σ I h
  refine J (σ:=jW c σ) (fun x hx=>I x (b5 _ hx)) fun n => ?_
  rw[jW]
  split
  ·split
   ·grind
   ·exact zE (h n) (I c b7)
  ·grind
theorem Y1 : ∀ {rs:List ct} {σ:Int→List Nat},(∀r∈rs,∀c∈r.aQ,∀x∈c.b,x<256)→(∀n,∀x∈σ n,x<256)→∀n,∀x∈eu rs σ n,x<256:=by
 intro rs
 induction rs with
 |nil=>intro σ _ h;exact h
 |cons r rs J=>intro σ I h;exact J (σ:=i_ r.aQ σ) (fun x hx=>I x (b5 _ hx)) (Wj (I r b7) h)
theorem uI.app (h:uI rs B0)(h1:∀c∈r.aQ,∀x∈c.b,x<256)(h2:∀n,uH r n→bW (eu (rs++[r]) B0 n)=true): uI (rs++[r]) B0:=by
 refine⟨h.Y0,fun x I => ?_,fun t t' n ht hc => ?_⟩
 ·rcases List.mem_append.1 I with I|I
  ·exact h.lt x I
  grind
 ·rcases tv t' with rfl|⟨J,z,rfl⟩
  ·rw[ej] at ht
   subst ht
   by_cases hq:uH r n
   ·grind
   ·obtain⟨x,I,hx2⟩:=hc
    rcases List.mem_append.1 I with I|I
    ·rw[qj]
     have:eu [r] (eu rs B0) n=eu rs B0 n:=I7 fun y hy=>by grind
     rw[this]
     exact h.gd rs [] n (by simp) ⟨x,I,hx2⟩
    grind
  ·have UK:rs++[r]=(t++J)++[z]:=by grind
   exact h.gd t J n (List.append_inj' UK rfl).1 hc
def Ah (N:Nat)(rs:List ct)(B0:Int→List Nat)(ε:aZ): Prop:=∀n,0≤n→n<(N:Int)→jb (eu rs B0 n) (pgA ε n)
abbrev sM : Int→Prop:=fun _=>False
section
theorem ChR.st {l:List Int}{cs:List cn}(J:ChR now l ε e cs ah): ∀ {σ:Int→List Nat},EC N ε→fD ε→NW N now→l.Nodup→(∀n∈l,0≤n∧n<N)→vw (RI ba sM B0 rs g) ε→(∀n∈l,jb (σ n) (pgA ε n)) →
  (∀n∈l,∀b,lookL n now=some b→jb (i_ cs σ n) b)∧(∀n,n∉l→i_ cs σ n=σ n)∧(∀n,(∃c∈cs,c.aK=n)↔n∈l)∧∀n∈l,g n=none→Ae cs n:=by
 induction J with
 |nil ε=>intro σ _ _ _ _ _ _ _;exact⟨fun n I=>(by cases I),fun _ _=>rfl,fun n=>⟨fun⟨c,hc,_⟩=>(by cases hc),fun I=>(by cases I)⟩,fun n I=>(by cases I)⟩
 |err n l ε e b ah J he =>
  intro σ h h3 I hd hl
  have:=hl n b7
  exact absurd ((J.ec h h3.pins).2.2.1 this.1 this.2).1 he
 |part n l ε d_ b ah c e cs lp J hb jB hc kz ht ih =>
  intro σ h h3 I hd hl hv Q6
  obtain⟨d1,d2⟩:=List.nodup_cons.1 hd
  have lZ:=hl n b7
  obtain⟨k1,k2,k3,_⟩:=J.ec h h3.pins
  have UM:vw (RI ba sM B0 rs g) ah:=(RI.kI N).rd J h hv
  obtain⟨q1,q2⟩:=YX hc (eC (I.look hb).1) (σ:=σ) (by grind)
  obtain⟨p1,p2⟩:=I8 hc
  obtain⟨i1,i2,i3,i4⟩:=ih (σ:=i_ c σ) k1 (J.jg h3) I d2 (fun m hm=>hl m (b5 _ hm)) UM (fun m hm=>by
   grind)
  refine⟨fun m hm b' ot => ?_,fun m hm => ?_,fun m => ?_,fun m hm hg => ?_⟩
  ·rw[I3]
   grind
  ·simp_all[I3]
  ·constructor
   ·grind
   ·intro hm
    rcases List.mem_cons.1 hm with rfl|hm
    ·obtain⟨x,hx⟩:=List.exists_mem_of_ne_nil _ p2<;>grind
    grind
  ·rcases List.mem_cons.1 hm with rfl|hm
   ·cases hq:lookL m ah.1.bq with
    |none=>grind
    |some y =>
     obtain⟨rec,fl⟩:=y
     have:=(mz.1 UM).Af m rec fl hq
     rw[hg] at this
     cases this
   ·obtain⟨x,hx,e⟩:=i4 m hm hg
    exact⟨x,List.mem_append.2 (.inr hx),e⟩
 |whole n l ε d_ b ah e cs lp J hb jB ht ih =>
  intro σ h h3 I hd hl hv Q6
  obtain⟨d1,d2⟩:=List.nodup_cons.1 hd
  obtain⟨k1,k2,k3,_⟩:=J.ec h h3.pins
  have UM:vw (RI ba sM B0 rs g) ah:=(RI.kI N).rd J h hv
  have q2:∀m,m≠n→jW ⟨n,0,true,b⟩ σ m=σ m:=fun m hm=>by rw[jW,ak hm]
  have q1:jW ⟨n,0,true,b⟩ σ n=b:=by grind[jW]
  obtain⟨i1,i2,i3,i4⟩:=ih (σ:=jW ⟨n,0,true,b⟩ σ) k1 (J.jg h3) I d2 (fun m hm=>hl m (b5 _ hm)) UM (fun m hm=>by
   grind)
  refine⟨fun m hm b' ot => ?_,fun m hm => ?_,fun m => ?_,fun m hm hg => ?_⟩
  ·show jb (i_ cs (jW _ σ) m) b'
   rcases List.mem_cons.1 hm with rfl|hm
   ·rw[hb] at ot
    rw[←cx ot,i2 m d1,q1];exact jb.refl (eC (I.look hb).1)
   ·grind
  ·simp_all[i_]
  ·grind[List.mem_cons_self]
  ·rcases List.mem_cons.1 hm with rfl|hm
   ·exact⟨_,b7,rfl,rfl⟩
   ·obtain⟨x,hx,e⟩:=i4 m hm hg
    exact⟨x,b5 _ hx,e⟩
theorem DnR.ri {kd:Nat}(hr:DnR ε now kd tx 0 0 data 0 aM 0 true ah)(h:EI N B ε)(hB:B≤1000)(hn:NW N now)(hl:LR ba aB mk rs ε.2)(h1:1≤kd)(h2:kd≤7)(ht:tx<65536)
 (hv:vw (RI ba sM B0 rs g) ε)(dZ:Ah N rs B0 ε)(nH:uI rs B0): ∃(r:ct) (g':Int→Option Nat),r.Ok∧r.kd=kd∧r.tx=tx∧r.pv=0∧r.nx=0∧r.data=data∧aM=ba+szB rs∧LR ba aB mk (rs++[r]) ah.2∧vw (RI ba sM B0 (rs++[r]) g') ah∧Ah N (rs++[r]) B0 ah∧uI (rs++[r]) B0 ∧
   (∀n rec,g' n=some rec→g n=some rec∨rec=ba+szB rs)∧∃I,ChR now (aE now) ε 0 r.aQ I:=by
 have J:∀n∈aE now,0≤n∧n<N:=fun n hq=>hn.keys n (fu.1 hq)
 have hN:=h.many
 have fA:∀ {c:List cn} {ah:aZ} {e:Int},ChR now (aE now) ε e c ah→dY kd c=true:=fun hc=>by
  refine xP ⟨by omega,by omega⟩ (hc.fit (fun x hx=>eC (hn.good x hx).1) fun n hq => ?_)<;>grind
 have lK:(aE now).Nodup:=(eF _).nodup_iff.2 hn.nodup
 have aaA:=(h.done hB hn (by omega) (by omega) hr).resolve_left (by simp)
 generalize hz:(0:Int)=e at hr
 generalize kz:true=cl at hr
 cases hr with
 |arg hh=>omega
 |dead _ _ _ hd=>omega
 |kf e c ah _ _ _ _ hc he=>omega
 |app c I _ _ _ _ hc he=>omega
 |put c I e jH _ _ _ _ hc ha hp =>
  subst hz
  obtain⟨c1,c2,c3⟩:=hc.ec h.ec h.ok J
  have hi:EI N B I:=⟨hc.jg h.ok,c1,hc.el h.el,bT hc.bG h.bG⟩
  have mc:=(my ba aB mk rs).ch hc hl
  obtain⟨r,k1,k2,k3,k4,k5,k6,k7,k8,k9,Y2,_⟩:=mc.app h1 (fA hc) ht ha
  obtain⟨a1,a2,a3⟩:=hi.app (kd:=kd) (tx:=tx) (pv:=0) (nx:=0) (data:=data) (c:=c) hB (fA hc)
  have a3:=a3.resolve_right (by omega)
  obtain⟨_,a4⟩:=a3
  have sL:vw (RI ba sM B0 rs g) I:=(RI.kI N).ch hc h.ec h.ok hv
  obtain⟨s1,s2,s3,s4⟩:=hc.st (σ:=eu rs B0) h.ec h.ok hn lK J hv (fun n hm=>by have:=J n hm;exact dZ n this.1 this.2)
  subst k7
  have Y3:(aF I.2 kd tx 0 0 data r.aQ).1.1=ba+szB rs:=k8
  have fU:=hi.el.size
  have BB:=mc.b
  have Y4:=mc.base
  have cE:ba+szB rs<18446744073709551616:=by
   grind
  have iI:∀n,n∈aE now↔uH r n:=fun n=>(s3 n).symm
  have oN:=RI.app (mz.1 sL) (r:=r) (fun n hg hq=>s4 n ((iI n).2 hq) hg) (μ:=(aF I.2 kd tx 0 0 data r.aQ).2.1) (δ:=(aF I.2 kd tx 0 0 data r.aQ).2.2)
   (by rw[k9.base,Y4]) k9.b (by rw[a4];rfl) k9.log (by rw[a4]) (by rw[a4]) (by rw[a4]) (by rw[a4]) (by rw[a4]) (by rw[a4]) iI
  have PE:vw (RI ba (fun n=>n∈aE now) B0 (rs++[r]) (fun n=>match g n with|some rec=>some rec|none=>if n∈aE now then some (ba+szB rs) else none)) (I.1,(aF I.2 kd tx 0 0 data r.aQ).2):=oN
  have hv4:=hp.ri a1.ec a1.ok hn J lK (fun n hm=>hm) ⟨rs,r,rfl,k8⟩ (by omega) PE
  have e0:(fun m:Int=>m∈aE now∧m∉aE now)=sM:=funext fun m=>propext ⟨fun q=>q.2 q.1,fun q=>q.elim⟩
  rw[e0] at hv4
  refine⟨r,_,k1,k2,k3,k4,k5,k6,by grind,(my ba aB mk _).pt hp k9,hv4,fun n h0 oz => ?_,nH.app (hc.lt hn) (fun n hq => ?_),fun n rec hq => ?_,I,hc⟩
  ·rw[aaA.2.2.2 n,qj]
   show jb (i_ r.aQ (eu rs B0) n) _
   cases hq:lookL n now with
   |some b =>
    have hm:n∈aE now:=fu.2 ((fI hq) |> m4 (f:=(·.1)))
    exact(s1 n hm b hq).trans (I4 (eC (hn.look hq).1)).symm
   |none =>
    have hm:n∉aE now:=fun q=>f_.1 hq (fu.1 q)
    rw[s2 n hm]
    exact dZ n h0 oz
  ·have hm:=(iI n).2 hq
   cases hb:lookL n now with
   |none=>grind[fu,f_]
   |some b =>
    rw[qj]
    show bW (i_ r.aQ (eu rs B0) n)=true
    rw[(s1 n hm b hb).good];exact(hn.look hb).1
  ·grind
theorem DnR.ri0 {kd:Nat}(hr:DnR ε now kd tx 0 0 data 0 aM e false ah)(h:EI N B ε)(hB:B≤1000)(hn:NW N now)(hl:LR ba aB mk rs ε.2)(h1:1≤kd)(h2:kd≤7)
 (hv:vw (RI ba sM B0 rs g) ε)(dZ:Ah N rs B0 ε): LR ba aB mk rs ah.2∧vw (RI ba sM B0 rs g) ah∧Ah N rs B0 ah:=by
 have I:=(h.done hB hn (by omega) (by omega) hr).resolve_right (by simp)
 have S9:Ah N rs B0 ah:=fun n h0 h1=>by rw[I.2.2.2 n];exact dZ n h0 h1
 generalize kz:false=cl at hr
 cases hr with
 |arg hh=>omega
 |dead _ _ _ hd=>omega
 |kf e c ah _ _ _ _ J he=>exact⟨(my ba aB mk rs).ch J hl,(RI.kI N).ch J h.ec h.ok hv,S9⟩
 |app c nr _ _ _ _ J he =>
  have mc:=(my ba aB mk rs).ch J hl
  have sL:vw (RI ba sM B0 rs g) nr:=(RI.kI N).ch J h.ec h.ok hv
  grind[ff]
 |put c nr e jH _ _ _ _ J ha hp=>grind
end
structure RS (N ba aB:Nat)(mk:List Nat)(rs:List ct)(B0:Int→List Nat)(g:Int→Option Nat)(ε:aZ): Prop where
 lr:LR ba aB mk rs ε.2
 ri:vw (RI ba sM B0 rs g) ε
 st:Ah N rs B0 ε
 gd:uI rs B0
theorem RS.pre (h:RS N ba aB mk rs B0 g ε)(I:∀P:VP,mu N P→vw P ε→vw P ah)(J:∀m,pgA ah m=pgA ε m): RS N ba aB mk rs B0 g ah :=
 ⟨I _ ((my ba aB mk rs).kI N) h.lr,I _ (RI.kI N) h.ri,fun n a b=>by rw[J];exact h.st n a b,h.gd⟩
theorem wQ {a b v:List ct}(h:a++b=u++v)(hs:szB a≤szB u): ∃w,u=a++w∧b=w++v:=by
 rcases List.append_eq_append_iff.1 h with⟨w,I,J⟩|⟨w,I,J⟩
 ·grind
 ·cases w<;>grind[wP]
structure P9 (ba aB:Nat)(data:List Nat)(rs r1:List ct)(F:Nat)(g:Int→Option Nat): Prop where
 low:∀n rec,g n=some rec→ba+szB r1≤rec
 pt:(aB=0∧data=[]∧r1=[])∨∃A1 rc B,rs=(r1++A1)++rc::B∧aB=ba+szB (r1++A1)∧aB≠0∧rc.kd=8∧8≤rc.data.length∧data=rc.data.drop 8∧max ba (leN (rc.data.take 8))=ba+szB r1∧szB (r1++A1)+rc.len≤F
section
theorem P9.at (h:P9 ba aB data rs r1 F g){v:List ct}(hu:rs=u++v)(hF:F≤szB u): ∃r2,Nh ba aB u data r1 r2:=by
 rcases h.pt with⟨k1,k2,I⟩|⟨J,rc,B,k1,k2,I,k4,k5,k6,k7,k8⟩
 ·exact⟨u,by grind,.inl ⟨k1,k2,I⟩⟩
 ·obtain⟨w,hw,_⟩:=wQ (a:=(r1++J)++[rc]) (b:=B) (u:=u) (v:=v) (by grind) (by grind[om,szB])
  exact⟨J++rc::w,by grind,.inr ⟨r1++J,rc,w,by grind,k2,I,k4,k5,k6,k7⟩⟩
end
structure yb (ba:Nat)(B0:Int→List Nat)(u v r1 r2:List ct)(δ:Dk): Prop where
 split:u=r1++r2
 rs:∀r∈u++v,r.Ok
 log:∃j,δ.log++δ.tail=logB ba (u++v)++j∧rF j
 cert:szB u≤δ.bh
 len:δ.bh≤δ.log.length
 gd:uI (u++v) B0
 kJ:∀n w t t',BW δ n→v=t++t'→¬su (r2++t) n→uG δ n w→jb (eu (u++t) B0 n) w∧gU w=0
 dA:∀w,δ.dA=some w→su r2 w.1
theorem RS.cr (h:RS N ba aB mk rs B0 g ε)(hc:P9 ba aB data rs r1 ε.2.1.forced g)(iH:ε.2.2.Ok):
  ∃u v r2,rs=u++v∧ε.2.1.forced=szB u∧Nh ba aB u data r1 r2∧yb ba B0 u v r1 r2 ε.2.2:=by
 have hv:=mz.1 h.ri
 obtain⟨u,v,hu,hf⟩:=hv.forced
 obtain⟨r2,J⟩:=hc.at hu (by omega)
 refine⟨u,v,r2,hu,hf,J,J.1,by rw[←hu];exact h.lr.rs,⟨[],by rw[h.lr.tail,h.lr.log,hu],.inl (by decide)⟩,by rw[←hf];exact hv.cert,iH.bh,by rw[←hu];exact h.gd,fun n w t t' h0 ht hw uY => ?_,fun w hq=>by rw[h.lr.dA] at hq;cases hq⟩
 refine⟨hv.kJ n w (u++t) t' h0 (by grind) (by rw[hf];exact qH) (fun rec I => ?_) uY,hv.ck n w h0.1 uY⟩
 refine vP fun cE => ?_
 obtain⟨a,r,b,k1,k2,k3⟩:=hv.bq n rec I
 have zU:=hc.low n rec I
 have fU:szB a<szB (u++t):=by omega
 obtain⟨w1,e1,e2⟩:=wQ (a:=a) (b:=r::b) (u:=u++t) (v:=t') (by grind) (AO fU)
 cases w1 with
 |nil=>grind
 |cons y w1 =>
  injection e2 with e2 e3
  subst e2
  obtain⟨w2,e4,e5⟩:=wQ (a:=r1) (b:=r2++t) (u:=a) (v:=r::w1) (by rw[←e1,J.1,c9]) (by omega)
  exact hw ⟨r,by grind,k3⟩
def imgL (P:List (Option (List Nat)))(n:Int): List Nat:=match P[n.toNat]? with
 |some (some b)=>b
 |_=>List.replicate 512 0
theorem I9 {P:List (Option (List Nat))}(I:0≤n): imgL (P.set k (some b)) n=imgL P n∨(((k:Nat):Int)=n∧imgL (P.set k (some b)) n=b):=by
 grind[imgL]
theorem S_ {c:List Nat}(I:0≤n): ∀ {W:List Wr} {i:Nat} {P:List (Option (List Nat))},imgL (layW c i W P) n=imgL P n∨∃wr∈W,((wr.1:Nat):Int)=n∧imgL (layW c i W P) n=wr.2:=by
 intro W
 induction W<;>grind[layW,I9]
theorem P_ {c:List Nat}(I:0≤n){P:List (Option (List Nat))}{o:Option Wr}: imgL (tornP c k P o) n=imgL P n∨∃w,o=some w∧((w.1:Nat):Int)=n:=by
 cases o<;>grind[tornP,I9]
theorem Qa {j:List Nat}(h:rF j): rF (j.take k):=by
 by_cases J:k<8
 ·left;rw[gI];omega
 ·rcases h with h|h
  ·left;rw[gI];omega
  ·by_cases I:(j.take k).length<8
   ·exact .inl I
   ·right
    grind
theorem Ta {n:Nat}{j:List Nat}(I:∀r∈rs,r.Ok)(hj:rF j): ∃dL er J,rs=dL++er∧(logB n rs++j).take K=logB n dL++J∧rF J:=by
 by_cases hK:K≤(logB n rs).length
 ·rw[mU hK]
  exact Wf rs n K I
 ·refine⟨rs,[],j.take (K-(logB n rs).length),by simp,?_,Qa hj⟩<;>grind[List.take_append,List.take_of_length_le]
theorem Nk {a b t:List Nat}{c K:Nat}(h:c≤a.length): a.take c++(a.drop c++t).take K=(a++t).take (c+K):=by
 grind
section
variable {v:List ct}
theorem yb.aaB (h:yb ba B0 u v r1 r2 δ)(c:List Nat): ∃t t',v=t++t'∧yb ba B0 (u++t) [] r1 (r2++t) (fS δ c):=by
 obtain⟨j,hl,hj⟩:=h.log
 have E0:(fS δ c).log=(δ.log++δ.tail).take (δ.bh+kG δ c):=Nk (b:=[]) h.len
 have hlu:(logB ba u).length=szB u:=gn
 have hcu:=h.cert
 obtain⟨t,t',j',e1,e2,e3⟩:=Ta (rs:=v) (n:=ba+szB u) (K:=δ.bh+kG δ c-szB u) (j:=j) (fun r hr=>h.rs r (List.mem_append.2 (.inr hr))) hj
 have acA:(fS δ c).log=logB ba (u++t)++j':=by
  rw[E0,hl,x_,c9,Ef,eW (by omega),hlu,e2,x_,c9]
 refine⟨t,t',e1,by rw[h.split,c9],fun r hr => ?_,⟨j',by grind[fS],e3⟩,?_,aU _,?_,fun n w a b h0 oH hw I => ?_,fun w hq=>(by cases hq)⟩
 ·refine h.rs r ?_<;>grind
 ·grind[fS,gn]
 ·refine⟨h.gd.Y0,fun r hr => ?_,fun a b n oH iI=>h.gd.gd a (b++t') n ?_ iI⟩
  ·refine h.gd.lt r ?_<;>grind
  grind
 ·have hlen:(fS δ c).aq.length=δ.aq.length:=by
   show(tornP c _ _ δ.dA).length=_
   cases δ.dA<;>grind[E5,tornP]
  have vj:BW δ n:=⟨h0.1,by rw[←hlen];exact h0.2⟩
  have h0:=h0.1
  obtain⟨rfl,rfl⟩:=List.append_eq_nil_iff.1 oH.symm
  rw[ej] at hw ⊢
  have J:w=imgL (tornP c δ.waiting.length (layW c 0 δ.waiting δ.aq) δ.dA) n:=by
   rcases I with I|⟨wr,u6,_⟩
   ·exact I
   ·cases u6
  have aaC:uG δ n w:=by
   rcases P_ (c:=c) (k:=δ.waiting.length) h0 (P:=layW c 0 δ.waiting δ.aq) (o:=δ.dA) with q|⟨wt,q1,q2⟩
   ·rw[q] at J
    rcases S_ (c:=c) h0 (W:=δ.waiting) (i:=0) (P:=δ.aq) with q|⟨wr,k1,k2,k3⟩
    ·exact .inl (J.trans q)
    ·exact .inr ⟨wr,k1,k2,J.trans k3⟩
   ·exfalso
    obtain⟨r,hr,hc⟩:=h.dA wt q1
    rw[q2] at hc
    exact hw ⟨r,List.mem_append.2 (.inl hr),hc⟩
  exact h.kJ n w t t' vj e1 hw aaC
end
structure OpD (ba:Nat)(B0:Int→List Nat)(u r1 r2:List ct)(N:Nat)(δ:Dk): Prop where
 cr:yb ba B0 u [] r1 r2 δ
 tail:δ.tail=[]
 aq:δ.aq.length=N
 keys:∀k:Int,k∈δ.now.map (·.1)→0≤k∧k<N
 nodup:(δ.now.map (·.1)).Nodup
 nw:∀n b,lookL n δ.now=some b→su r2 n
section
theorem OpD.die (h:OpD ba B0 u r1 r2 N δ): OpD ba B0 u r1 r2 N δ.die :=
 ⟨⟨h.cr.split,h.cr.rs,h.cr.log,h.cr.cert,h.cr.len,h.cr.gd,h.cr.kJ,h.cr.dA⟩,h.tail,h.aq,h.keys,h.nodup,h.nw⟩
theorem OpD.cY (h:OpD ba B0 u r1 r2 N δ): OpD ba B0 u r1 r2 N δ.cY :=
 ⟨⟨h.cr.split,h.cr.rs,h.cr.log,h.cr.cert,h.cr.len,h.cr.gd,h.cr.kJ,h.cr.dA⟩,h.tail,h.aq,h.keys,h.nodup,h.nw⟩
theorem OpD.Y5 (h:OpD ba B0 u r1 r2 N δ): ∃j,δ.log=logB ba u++j∧rF j:=by
 obtain⟨j,I,J⟩:=h.cr.log
 rw[h.tail,ej,ej] at I
 exact⟨j,I,J⟩
theorem OpD.dR (h:OpD ba B0 u r1 r2 N δ): OpD ba B0 u r1 r2 N (δ.dR (szB u)).2∧((δ.dR (szB u)).1=0→(δ.dR (szB u)).2.log=logB ba u):=by
 obtain⟨j,I,J⟩:=h.Y5
 have hl:(logB ba u).length=szB u:=gn
 unfold Dk.dR
 split
 ·unfold Dk.qF
  split
  ·grind
  ·rw[ak (by omega)]
   split
   ·exact⟨h.die,fun q=>(by cases q)⟩
   ·have e:δ.log.take (szB u)=logB ba u:=by grind
    refine⟨⟨⟨h.cr.split,h.cr.rs,⟨[],?_,.inl (by decide)⟩,aU _,?_,h.cr.gd,h.cr.kJ,h.cr.dA⟩,h.tail,h.aq,h.keys,h.nodup,h.nw⟩,fun _=>e⟩
    ·show δ.log.take (szB u)++δ.tail=_
     rw[e,h.tail,ej,ej,ej]
    grind
 ·simp_all
theorem OpD.cq (h:OpD ba B0 u r1 r2 N δ): OpD ba B0 u r1 r2 N δ.cq.2:=by
 unfold Dk.cq
 split
 ·exact h
 ·split
  ·exact h.die
  ·have:=h.cr.len
   have:=h.cr.cert
   exact⟨⟨h.cr.split,h.cr.rs,h.cr.log,by grind,aU _,h.cr.gd,h.cr.kJ,h.cr.dA⟩,h.tail,h.aq,h.keys,h.nodup,h.nw⟩
theorem OpD.c7 (h:OpD ba B0 u r1 r2 N δ): OpD ba B0 u r1 r2 N (δ.c7 (szB u)).2∧((δ.c7 (szB u)).1=0→(δ.c7 (szB u)).2.log=logB ba u):=by
 obtain⟨t1,t2⟩:=h.dR
 unfold Dk.c7
 split
 ·grind
 ·rename_i I
  have t2:=t2 (Classical.not_not.1 I)
  split
  ·refine⟨t1.cq,fun _ => ?_⟩
   have:(δ.dR (szB u)).2.cq.2.log=(δ.dR (szB u)).2.log:=by
    unfold Dk.cq
    split
    ·rfl
    ·split<;>rfl
   rw[this,t2]
  ·grind
theorem OpD.bw (h:OpD ba B0 u r1 r2 N δ){k:Int}(hk:su r2 k): OpD ba B0 u r1 r2 N (δ.bw k b).2∧((δ.bw k b).1=0→0≤k∧k<N∧∀n,lookL n (δ.bw k b).2.now=if k=n then some b else lookL n δ.now):=by
 unfold Dk.bw
 split
 ·grind
 ·split
  ·grind
  ·rename_i hr
   have hr:=Classical.not_not.1 hr
   have hN:=h.aq
   split
   ·refine⟨⟨⟨h.cr.split,h.cr.rs,h.cr.log,h.cr.cert,h.cr.len,h.cr.gd,h.cr.kJ,fun w hw => ?_⟩,h.tail,h.aq,h.keys,h.nodup,h.nw⟩,fun q=>(by cases q)⟩<;>grind
   ·refine⟨⟨⟨h.cr.split,h.cr.rs,h.cr.log,h.cr.cert,h.cr.len,h.cr.gd,fun n w t t' h0 ht hw uY => ?_,h.cr.dA⟩,h.tail,h.aq,fun x hx => ?_,jd h.nodup,fun n c J => ?_⟩,fun _=>⟨hr.1,by omega,fun n=>gD _⟩⟩
    ·refine h.cr.kJ n w t t' h0 ht hw ?_
     rcases uY with hq|⟨wr,I,q1,q2⟩
     ·exact .inl hq
     ·rcases List.mem_append.1 I with I|I
      ·exact .inr ⟨wr,I,q1,q2⟩
      ·exfalso
       obtain⟨r,lZ,T5⟩:=hk
       exact hw ⟨r,List.mem_append.2 (.inl lZ),by grind⟩
    ·rcases o_.1 hx with rfl|hx
     ·omega
     ·exact h.keys x hx
    ·have J:lookL n (cG k b δ.now)=some c:=J
     rw[gD] at J
     by_cases hq:k=n
     ·grind
     ·rw[ak hq] at J;exact h.nw n c J
theorem OpD.img (h:OpD ba B0 u r1 r2 N δ)(I:0≤n): imgOf δ.sync n=match lookL n δ.now with|some b=>b|none=>imgOf δ n:=by
 rw[imgOf,show δ.sync.aq=laidP δ.now δ.aq from rfl,laidP_get h.aq h.nodup h.keys I]
 cases J:lookL n δ.now with
 |some b=>rfl
 |none=>rfl
theorem OpD.dO (h:OpD ba B0 u r1 r2 N δ): OpD ba B0 u r1 r2 N δ.dO.2:=by
 unfold Dk.dO
 split
 ·exact h
 ·split
  ·exact h.die
  ·refine⟨⟨h.cr.split,h.cr.rs,h.cr.log,h.cr.cert,h.cr.len,h.cr.gd,fun n w t t' I ht hw J => ?_,h.cr.dA⟩,h.tail,?_,fun k hk=>(by cases hk),kO,fun n b hb=>(by cases hb)⟩
   ·have vj:BW δ n:=⟨I.1,by have:=I.2;rw[show δ.cY.sync.aq=laidP δ.now δ.aq from rfl,nJ] at this;exact this⟩
    have I:=I.1
    refine h.cr.kJ n w t t' vj ht hw (.inl ?_)
    have hq:w=imgOf δ.cY.sync n:=by
     rcases J with hq|⟨wr,u6,_⟩
     ·exact hq
     ·cases u6
    rw[hq,h.cY.img I]
    cases hl:lookL n δ.cY.now with
    |none=>rfl
    |some b =>
     obtain⟨r,lZ,T5⟩:=h.nw n b hl
     exact absurd ⟨r,List.mem_append.2 (.inl lZ),T5⟩ hw
   ·show(laidP δ.now δ.aq).length=N
    rw[nJ];exact h.aq
theorem OpD.again : ∀ {l:List Int} {δ:Dk},l.Nodup→(∀k∈l,∀b,lookL k ρ.aq=some b→su r2 k)→OpD ba B0 u r1 r2 N δ→OpD ba B0 u r1 r2 N (againW ρ l δ).2 ∧
  ((againW ρ l δ).1=0→(∀n,n∈l→∀b,lookL n ρ.aq=some b→bW b=true→n<N→lookL n (againW ρ l δ).2.now=some (cT b (oo ρ n)))∧(∀n,n∉l→lookL n (againW ρ l δ).2.now=lookL n δ.now)):=by
 intro l
 induction l with
 |nil=>intro δ _ _ h;exact⟨h,fun _=>⟨fun n J=>(by cases J),fun _ _=>rfl⟩⟩
 |cons k l ih =>
  intro δ lK I h
  have wu:∀x∈l,∀b,lookL x ρ.aq=some b→su r2 x:=fun x hx=>I x (b5 _ hx)
  rw[againW]
  cases hq:lookL k ρ.aq with
  |none =>
   grind
  |some b =>
   simp only
   have hN:=h.aq
   split
   ·obtain⟨w1,w2⟩:=h.bw (k:=k) (b:=cT b (oo ρ k)) (I k b7 b hq)
    split
    ·grind
    ·grind
   grind
theorem OpD.eZ (h:OpD ba B0 u r1 r2 N δ)(hn:δ.now=[])(hw:δ.waiting=[]): OpD ba B0 u r1 r2 N (eZ δ ba u r1 r2).2∧((eZ δ ba u r1 r2).1=0 →
  (eZ δ ba u r1 r2).2.log=logB ba u∧(eZ δ ba u r1 r2).2.now=[]∧(eZ δ ba u r1 r2).2.waiting=[] ∧
  ∀n,0≤n→n<(N:Int)→jb (eu u B0 n) (imgOf (eZ δ ba u r1 r2).2 n)∧gU (imgOf (eZ δ ba u r1 r2).2 n)=0):=by
 have I:=Wg r2 (ba+szB r1) (eu r1 B0)
 have hS:eu r2 (eu r1 B0)=eu u B0:=by rw[h.cr.split,qj]
 rw[hS] at I
 have Tb:∀r∈r2,r.Ok:=fun r hr=>h.cr.rs r (by rw[ej,h.cr.split];exact List.mem_append.2 (.inr hr))
 have iH:(redoL (ba+szB r1) r2 iU.none).Ok:=Cn Bo Tb
 obtain⟨o1,o2⟩:=h.c7
 obtain⟨f1,f2,f3⟩:=DP (δ:=δ) (n:=szB u)
 unfold Am.eZ
 split
 ·grind
 ·rename_i h0
  have o2:=o2 (Classical.not_not.1 h0)
  generalize hρ:redoL (ba+szB r1) r2 iU.none=ρ at I iH ⊢
  have lK:(aE ρ.aq).Nodup:=(eF _).nodup_iff.2 iH.dup
  obtain⟨a1,a2⟩:=o1.again (ρ:=ρ) lK (fun k _ b hb=>(I.some k b hb).2)
  have aaD:∀ {l:List Int} {δ:Dk},(againW ρ l δ).2.log=δ.log:=by
   intro l
   induction l with
   |nil=>intro δ;rfl
   |cons k l ih =>
    intro δ
    have K1:∀b,(δ.bw k b).2.log=δ.log:=fun b=>by
     unfold Dk.bw
     split
     ·rfl
     ·split
      ·rfl
      ·split<;>rfl
    grind[againW]
  have fin:∀J,OpD ba B0 u r1 r2 N J→(againW ρ (aE ρ.aq) (δ.c7 (szB u)).2).1=0→(∀n,0≤n→imgOf J n=match lookL n (againW ρ (aE ρ.aq) (δ.c7 (szB u)).2).2.now with|some b=>b|none=>imgOf (againW ρ (aE ρ.aq) (δ.c7 (szB u)).2).2 n) →
    ∀n,0≤n→n<(N:Int)→jb (eu u B0 n) (imgOf J n)∧gU (imgOf J n)=0:=fun J h1 hz hi n wm oz=>by
   obtain⟨b1,b2⟩:=a2 hz
   rw[hi n wm]
   cases hl:lookL n ρ.aq with
   |some b =>
    obtain⟨e1,e2⟩:=I.some n b hl
    obtain⟨r,lZ,c,yL,wo,_⟩:=e2
    have hg:bW b=true:=by
     rw[e1]
     exact h.cr.gd.gd u [] n (by simp) ⟨r,by rw[h.cr.split];exact List.mem_append.2 (.inr lZ),c,yL,wo⟩
    have hb:∀x∈b,x<256:=by
     rw[e1]
     exact Y1 (fun r hr=>h.cr.gd.lt r (by grind)) h.cr.gd.Y0 n
    have yN:n∈aE ρ.aq:=fu.2 ((fI hl) |> m4 (f:=(·.1)))
    rw[b1 n yN b hl hg oz]
    simp only
    rw[←e1]
    exact⟨(I4 (eC hg)).symm,(F8 hg hb).1⟩
   |none =>
    have hnw:=I.none n hl
    have sF:lookL n (againW ρ (aE ρ.aq) (δ.c7 (szB u)).2).2.now=none:=by
     cases hq:lookL n (againW ρ (aE ρ.aq) (δ.c7 (szB u)).2).2.now with
     |none=>rfl
     |some b=>exact absurd (a1.nw n b hq) hnw
    rw[sF]
    have:=a1.cr.kJ n _ [] [] ⟨wm,by rw[a1.aq];exact oz⟩ rfl (by grind) (.inl rfl)
    grind
  unfold mw
  split
  ·grind
  ·rename_i hz
   have hz:=Classical.not_not.1 hz
   split
   ·rename_i hp
    have ek:aE ρ.aq=[]:=by rw[hp];rfl
    grind[againW,lookL]
   ·refine⟨a1.dO,fun hs => ?_⟩
    have es:(againW ρ (aE ρ.aq) (δ.c7 (szB u)).2).2.dO=(0,(againW ρ (aE ρ.aq) (δ.c7 (szB u)).2).2.cY.sync):=by
     grind[Dk.dO]
    have UL:=a1.dO
    rw[es] at UL ⊢
    refine⟨by show(againW ρ (aE ρ.aq) (δ.c7 (szB u)).2).2.log=_;rw[aaD,o2],rfl,rfl,fin _ UL hz fun n wm => ?_⟩
    rw[a1.cY.img wm]
    rfl
end
theorem Nl {R:Dk→Prop}(I:∀δ k b,R δ→R (δ.bw k b).2): ∀ {l:List Int} {δ:Dk},R δ→R (againW ρ l δ).2:=by
 intro l
 induction l<;>grind[againW]
theorem Ai {R:Dk→Prop}(I:∀δ n,R δ→R (δ.c7 n).2)(J:∀δ k b,R δ→R (δ.bw k b).2)(h3:∀δ,R δ→R δ.dO.2)(h:R δ): R (eZ δ ba u r1 r2).2:=by
 unfold eZ mw
 split
 ·grind
 ·have:=Nl (ρ:=redoL (ba+szB r1) r2 iU.none) (l:=aE (redoL (ba+szB r1) r2 iU.none).aq) J (I δ (szB u) h)
  split
  ·omega
  ·grind
theorem Dk.Ok.syn (h:δ.Ok): δ.dO.2.Ok:=by
 unfold Dk.dO
 split
 ·exact h
 ·split
  ·exact h.die
  ·have I:=h.cY
   refine⟨I.aS,I.len,I.room,fun e he=>(by cases he),fun i b hb => ?_,I.bh,by show(laidP δ.now δ.aq).length≤_;rw[nJ];exact I.many⟩
   have key:∀ {l:List (Int×List Nat)} {m:List (Option (List Nat))},(∀e∈l,e.2.length=512)→(∀(i:Nat) (b:List Nat),m[i]?=some (some b)→b.length=512)→∀(i:Nat) (b:List Nat),(laidP l m)[i]?=some (some b)→b.length=512:=by
    intro l
    induction l with
    |nil=>intro m _ hm;exact hm
    |cons e l ih =>
     intro m J hm
     exact ih (fun x hx=>J x (b5 _ hx)) (Lq hm (J e b7))
   exact key h.now h.aq i b hb
theorem Gg {n:Nat}: (δ.c7 n).2.dA=δ.dA∧(δ.c7 n).2.mark=δ.mark:=by
 have I:(δ.dR n).2.dA=δ.dA∧(δ.dR n).2.mark=δ.mark:=by
  unfold Dk.dR Dk.qF
  split
  ·split
   ·simp
   ·split
    ·simp
    ·split<;>exact⟨rfl,rfl⟩
  ·simp
 unfold Dk.c7
 split
 ·exact I
 ·split
  ·unfold Dk.cq
   split
   ·exact I
   ·split<;>exact I
  ·exact I
theorem Qb : (eZ δ ba u r1 r2).2.mark=δ.mark:=by
 refine Ai (R:=fun x=>x.mark=δ.mark) (fun x n h=>Gg.2.trans h) (fun x k b h => ?_) (fun x h => ?_) rfl
 ·unfold Dk.bw
  split
  ·exact h
  ·split
   ·exact h
   ·split<;>exact h
 ·unfold Dk.dO
  split
  ·exact h
  ·split<;>exact h
theorem Tc (h:δ.Ok): (eZ δ ba u r1 r2).2.Ok :=
 Ai (R:=Dk.Ok) (fun _ _ h=>h.c7) (fun _ _ _ h=>h.bw) (fun _ h=>h.syn) h
theorem Qc (J:δ.aS<0)(ht:δ.dA=none): (eZ δ ba u r1 r2).2.dA=none:=by
 have I:∀ {x:Dk} {n:Nat},x.aS<0→(x.c7 n).2.aS<0:=fun {x n} h=>by
  grind[Dk.dR,Dk.qF,iT,Dk.c7,Dk.cq]
 refine(Ai (R:=fun x=>x.aS<0∧x.dA=none) (fun x n h=>⟨I h.1,Gg.1.trans h.2⟩) (fun x k b h => ?_) (fun x h => ?_) ⟨J,ht⟩).2
 ·unfold Dk.bw
  split
  ·exact h
  ·split
   ·exact h
   ·rw[ak (by omega)]
    exact⟨by show x.cY.aS<0;rw[iT h.1];exact h.1,h.2⟩
 ·unfold Dk.dO
  split
  ·exact h
  ·rw[ak (by omega)]
   exact⟨by rw[iT h.1];exact h.1,h.2⟩
theorem Ls (I:δ.now=[]): δ.at n=imgOf δ n:=by
 rw[Dk.at,I];rfl
theorem OpD.eng {f:Nat}(h:OpD ba B0 u r1 r2 N δ)(hn:δ.now=[])(hw:δ.waiting=[])(ht:δ.dA=none)(hl:Lv δ)(iH:δ.Ok)(hf:1≤f)(F_:f≤1024)(hB1:1≤B)(hB:B≤1000)(fU:ba+szB u≤B*1048600)(Nf:aB≤1099511627776):
  (Am.eZ δ ba u r1 r2).1=0∧EI N B (Pl.fresh f,(iZ ba aB u,(Am.eZ δ ba u r1 r2).2))∧RS N ba aB δ.mark u B0 (fun _=>none) (Pl.fresh f,(iZ ba aB u,(Am.eZ δ ba u r1 r2).2)):=by
 have Tb:∀r∈r2,r.Ok:=fun r hr=>h.cr.rs r (by rw[ej,h.cr.split];exact List.mem_append.2 (.inr hr))
 obtain⟨v1,v2⟩:=hl.eZ (base:=ba) (rs:=u) (dL:=r1) Tb
 obtain⟨o1,o2⟩:=h.eZ hn hw
 obtain⟨p1,p2,p3,p4⟩:=o2 v1
 have q1:=Tc (ba:=ba) (u:=u) (r1:=r1) (r2:=r2) iH
 have q2:=Qb (ba:=ba) (u:=u) (r1:=r1) (r2:=r2) (δ:=δ)
 have q3:=Qc (ba:=ba) (u:=u) (r1:=r1) (r2:=r2) hl.aS ht
 refine⟨v1,?_⟩
 generalize (Am.eZ δ ba u r1 r2).2=rE at *
 have F:=EI.fresh (n:=N) (m:=0) (f:=f) (by have:=q1.many;rw[o1.aq] at this;exact this) (by decide) hf F_
 have hlen:(logB ba u).length=szB u:=gn
 have abF:szB u≤16777216:=by have:=q1.len;rw[p1,hlen] at this;exact this
 have acB:szB u≤rE.bh:=o1.cr.cert
 have hC:∀n b,¬j4 (Pl.fresh f) n b:=fun n b ⟨i,x,hx,_,_,k2,_⟩=>by rw[qE hx] at k2;cases k2
 have uD:fR (Pl.fresh f).ai≤1*65536:=by
  have:=F.bG
  grind[Am.bG,Am.fresh]
 have mh:∀n,pgA (Pl.fresh f,(iZ ba aB u,rE)) n=imgOf rE n:=fun n=>by exact Ls p2
 constructor
 ·refine⟨⟨⟨F.ok.ok.pl,Lo (by omega) abF Nf,q1⟩,F.ok.pins,F.ok.full⟩,⟨⟨v2.alive,v2.aS,o1.aq,fun k hk => ?_,?_,fun n h0 h1 => ?_⟩,F.ec.nodup,F.ec.jU,fun i x hx=>.inl ?_,F.ec.uE,F.ec.Ac⟩,⟨p1.symm,?_,?_⟩,?_⟩
  ·grind
  ·grind
  ·grind[Ls]
  ·rw[qE hx];decide
  ·show(logB ba u).length≤rE.bh;omega
  ·show ba+(logB ba u).length≤_;omega
  ·show rE.waiting.length+fR (Pl.fresh f).ai≤_
   grind
 ·refine⟨⟨rfl,rfl,rfl,rfl,p1,v2.alive,v2.aS,q2,q3,o1.tail,fun w hw=>(by grind),fun r hr=>h.cr.rs r (by grind)⟩,?_,fun n h0 h1 => ?_,?_⟩
  ·refine⟨rfl,rfl,p1,v2.alive,v2.aS,⟨u,[],by simp,hlen⟩,by show(logB ba u).length≤rE.bh;omega,fun n w t t' h0 hu BX hr I => ?_,fun n rec q=>(by cases q),fun n _ wr u6=>(by grind),fun n b hb=>absurd hb (hC n b),fun n rec q=>(by cases q),fun n rec q=>(by cases q),fun n b hb=>(by rw[p2] at hb;cases hb),fun n rec fl q=>(by cases q),fun n rec q=>(by cases q),fun n w h0 I => ?_,fun n q=>q.elim⟩
   ·have BX:(logB ba u).length≤szB t:=BX
    obtain⟨w',e1,e2⟩:=wQ (a:=u) (b:=[]) (u:=t) (v:=t') (by grind) (by omega)
    obtain⟨e3,_⟩:=List.append_eq_nil_iff.1 e2.symm
    rw[e3,ej] at e1
    subst e1
    have J:w=imgOf rE n:=by
     rcases I with I|⟨wr,u6,_⟩
     ·exact I
     ·grind
    rw[J]
    exact(p4 n h0.1 (by have:=h0.2;rw[o1.aq] at this;exact this)).1
   ·have J:w=imgOf rE n:=by
     rcases I with I|⟨wr,u6,_⟩
     ·exact I
     ·grind
    rw[J]
    by_cases hN:n<(N:Int)
    ·grind
    ·have:imgOf rE n=List.replicate 512 0:=by
      have Fg:=o1.aq
      grind[imgOf]
     rw[this];exact xX
  ·grind
  ·have:=h.cr.gd
   grind
theorem sx (M:Nat): jV fun x=>x.2.room=M:=by
 refine⟨fun x n h => ?_,fun x n b h => ?_⟩
 ·unfold aI Dk.cq
  split
  ·exact h
  ·split
   ·exact h
   ·split
    ·exact h
    ·split<;>first|exact h|exact h
 ·unfold Dk.bw
  split
  ·exact h
  ·split
   ·exact h
   ·split<;>exact h
theorem Cp (K:Nat): jV fun x=>x.2.log.length=K:=by
 refine⟨fun x n h => ?_,fun x n b h => ?_⟩
 ·unfold aI Dk.cq
  split
  ·exact h
  ·split
   ·exact h
   ·split
    ·exact h
    ·split<;>first|exact h|exact h
 ·unfold Dk.bw
  split
  ·exact h
  ·split
   ·exact h
   ·split<;>exact h
theorem jV.all (h:jV R): ∀ {l:List Int} {ε:aZ},R ε.2→R (writeAllF l ε).2.2:=by
 intro l
 induction l with
 |nil=>intro ε I;exact I
 |cons n l J =>
  intro ε I
  have hp:R (eY ε n).2.2:=by
   unfold eY
   split
   ·exact I
   ·exact h.out I
  grind[writeAllF]
section
variable {M:Nat}
theorem yw {kd:Int}{c:List cn}: (aF x kd tx pv nx data c).2.2.room=x.2.room:=by
 rcases ff x kd tx pv nx data c with⟨e,_,_,I⟩|⟨_,_,I⟩|⟨_,_,_,_,_,I⟩<;>rw[I]<;>rfl
theorem Kw : (dJ π δ).2.2.room=δ.room:=by
 have h:δ.dO.2.room=δ.room:=by
  unfold Dk.dO
  split
  ·rfl
  ·split<;>rfl
 unfold dJ
 split<;>exact h
theorem DnR.room {kd:Nat}(hr:DnR ε now kd tx pv nx data oQ aM e cl ah)(h:ε.2.2.room=M): ah.2.2.room=M:=by
 have pr:=sx M
 cases hr with
 |arg _=>exact h
 |dead _ _ _ _=>exact h
 |kf e c ah _ _ _ _ I _=>exact pr.ch I h
 |app c J _ _ _ _ I _=>exact yw.trans (pr.ch I h)
 |put c J e jH _ _ _ _ I _ hp=>exact pr.pt hp (yw.trans (pr.ch I h))
end
theorem LR.sync (h:LR ba aB mk rs x): LR ba aB mk rs (x.1,x.2.sync) :=
 ⟨h.base,h.b,h.cB,h.check,h.log,h.alive,h.aS,h.mark,h.dA,h.tail,fun w hw=>(by cases hw),h.rs⟩
theorem RS.clean (h:RS N ba aB mk rs B0 g ε)(I:EI N B ε): RS N ba aB mk rs B0 (fun _=>none) (eS ε).2:=by
 refine⟨?_,RI.Wi h.ri I.ec h.st,fun n h0 h1=>by rw[(PN I.ec).2.2 n h0];exact h.st n h0 h1,h.gd⟩
 have w1:=(qD I.ec (Gf ε)).1
 have J:=(my ba aB mk rs).all (l:=aE ε.1.aG) h.lr
 have e:dJ (writeAllF (aE ε.1.aG) ε).2.1 (writeAllF (aE ε.1.aG) ε).2.2.2=(0,{ (writeAllF (aE ε.1.aG) ε).2.1 with bq:=(writeAllF (aE ε.1.aG) ε).2.1.bq.filter fun e=>e.2.2 },(writeAllF (aE ε.1.aG) ε).2.2.2.sync):=by
  have es:(writeAllF (aE ε.1.aG) ε).2.2.2.dO=(0,(writeAllF (aE ε.1.aG) ε).2.2.2.sync):=by
   have h1:=J.alive
   have h2:=J.aS
   grind[Dk.dO,iT]
  rw[dJ,es,ak (by simp)]
 rw[eS,ak (by rw[I.ec.dk.alive];decide),ak (by omega),e]
 exact J.sync
theorem RS.fresh {n m f:Nat}: RS n 1 0 [] [] (fun _=>List.replicate 512 0) (fun _=>none) (Am.fresh n m f):=by
 have hi:∀k,imgOf (Dk.fresh n m) k=List.replicate 512 0:=fun k=>by exact Cl k
 have hC:∀n b,¬j4 (Pl.fresh f) n b:=fun n b ⟨i,x,hx,_,_,k2,_⟩=>by rw[qE hx] at k2;cases k2
 have hc:∀k w,uG (Dk.fresh n m) k w→w=List.replicate 512 0:=fun k w h=>by
  rcases h with h|⟨wr,I,_⟩
  ·grind
  ·cases I
 refine⟨⟨rfl,rfl,rfl,rfl,rfl,rfl,by show(-1:Int)<0;decide,rfl,rfl,rfl,fun w hw=>(by cases hw),fun r hr=>(by cases hr)⟩,?_,fun k _ _=>by rw[sn];exact jb.refl dx,⟨fun k x hx=>by grind,fun r hr=>(by cases hr),fun t t' k ht ⟨r,hr,_⟩ => ?_⟩⟩
 ·refine⟨rfl,rfl,rfl,rfl,by show(-1:Int)<0;decide,⟨[],[],rfl,rfl⟩,aU _,fun k w t t' h0 ht BX hr J => ?_,fun k rec q=>(by cases q),fun k _ wr I=>(by cases I),fun k b hb=>absurd hb (hC k b),fun k rec q=>(by cases q),fun k rec q=>(by cases q),fun k b hb=>(by cases hb),fun k rec fl q=>(by cases q),fun k rec q=>(by cases q),fun k w h0 J => ?_,fun k q=>q.elim⟩
  ·obtain⟨rfl,_⟩:=List.append_eq_nil_iff.1 ht.symm
   rw[hc k w J]
   exact jb.refl dx
  ·rw[hc k w J];exact xX
 ·grind[List.append_eq_nil_iff]
theorem Nm {n:Nat}(h:x.1.forced≤x.1.b.length): x.1.forced≤(aI x n).2.1.forced:=by
 grind[aI]
theorem vK (F:Nat): jV fun x=>F≤x.1.forced∧x.1.forced≤x.1.b.length:=by
 refine⟨fun x n h => ?_,fun x n b h=>h⟩<;>grind[aI]
theorem DnR.forced {kd:Nat}{dt:List Nat}(hr:DnR ε now kd tx pv nx dt oQ aM e cl ah)(h:F≤ε.2.1.forced∧ε.2.1.forced≤ε.2.1.b.length): F≤ah.2.1.forced∧ah.2.1.forced≤ah.2.1.b.length:=by
 have pr:=vK F
 have app:∀ {x:LD} {kd:Int} {tx pv nx:Nat} {dt:List Nat} {c:List cn},F≤x.1.forced∧x.1.forced≤x.1.b.length→F≤(aF x kd tx pv nx dt c).2.1.forced∧(aF x kd tx pv nx dt c).2.1.forced≤(aF x kd tx pv nx dt c).2.1.b.length:=fun {x kd tx pv nx dt c} h=>by
  rcases ff x kd tx pv nx dt c with⟨e,_,_,J⟩|⟨_,_,J⟩|⟨_,_,_,_,_,J⟩
  ·grind
  ·grind
  ·rw[J];exact⟨h.1,by show x.1.forced≤(x.1.b++_).length;rw[bO];omega⟩
 cases hr with
 |arg _=>exact h
 |dead _ _ _ _=>exact h
 |kf e c ah _ _ _ _ I _=>exact pr.ch I h
 |app c nr _ _ _ _ I _=>exact app (pr.ch I h)
 |put c nr e jH _ _ _ _ I _ hp=>exact pr.pt hp (app (pr.ch I h))
def Dk.live (δ:Dk): Dk:={ δ with aS := -1 }
def cU (x:LD): LD:=(x.1,x.2.live)
def bz (ε:aZ): aZ:=(ε.1,cU ε.2)
structure Y6 (δ rE:Dk)(tn:Option Wr): Prop where
 lt:rE.log++rE.tail=δ.log++δ.tail
 cert:rE.bh=δ.bh
 wait:rE.waiting=δ.waiting
 aq:rE.aq=δ.aq
 mark:rE.mark=δ.mark
 dA:rE.dA=tn
theorem Aj {n:Nat}(I:x.2.dead=false): aI x n=(9,(x.1,x.2.die)) ∨
  ((aI x n).1=(aI (cU x) n).1∧(aI x n).2.2.dead=false∧cU (aI x n).2=(aI (cU x) n).2):=by
 have hl:(cU x).2.cq=(0,{ x.2.live with bh:=x.2.log.length }):=by
  rw[Dk.cq,ak (by show ¬x.2.dead=true;rw[I];decide),ak (by show ¬(-1:Int)=0;decide)];rfl
 by_cases hn:n<x.1.base+x.1.forced
 ·grind[aI,cU]
 ·have J:aI (cU x) n=(0,({ x.1 with forced:=x.1.b.length },{ x.2.live with bh:=x.2.log.length })):=by
   grind[aI,cU]
  by_cases hf:x.2.aS=0
  ·grind[Dk.cq,aI]
  ·right
   have:x.2.cq=(0,{ x.2.cY with bh:=x.2.log.length }):=by grind[Dk.cq]
   have e1:aI x n=(0,({ x.1 with forced:=x.1.b.length },{ x.2.cY with bh:=x.2.log.length })):=by grind[aI]
   rw[e1,J];exact⟨rfl,I,rfl⟩
theorem Kx (I:δ.dead=false): δ.bw n b=(9,{ δ.die with dA:=some (n.toNat,b) }) ∨
  ((δ.bw n b).1=(δ.live.bw n b).1∧(δ.bw n b).2.dead=false∧(δ.bw n b).2.live=(δ.live.bw n b).2):=by
 by_cases hv:¬(0≤n∧n<δ.aq.length∧b.length=512)
 ·have J:δ.bw n b=(1,δ):=by grind[Dk.bw]
  have e2:δ.live.bw n b=(1,δ.live):=by rw[Dk.bw,ak (by show ¬δ.dead=true;rw[I];decide),aJ (show ¬(0≤n∧n<δ.live.aq.length∧b.length=512) from hv)]
  rw[J,e2];exact .inr ⟨rfl,I,rfl⟩
 ·have e2:δ.live.bw n b=(0,δ.live.wr n b):=by rw[Dk.bw,ak (by show ¬δ.dead=true;rw[I];decide),ak (show ¬¬(0≤n∧n<δ.live.aq.length∧b.length=512) from hv),ak (by show ¬(-1:Int)=0;decide)]
  by_cases hf:δ.aS=0
  ·grind[Dk.bw]
  ·have J:δ.bw n b=(0,δ.wr n b):=by grind[Dk.bw]
   rw[J,e2];exact .inr ⟨rfl,I,rfl⟩
theorem Qd (ha:ε.2.2.dead=false):
  ((outF ε i).1=(outF (bz ε) i).1∧(outF ε i).2.2.2.dead=false∧bz (outF ε i).2=(outF (bz ε) i).2) ∨
  (∃f,ε.1.ai[i]?=some f∧0≤f.aK∧f.changed=true∧(outF ε i).1=9∧(outF ε i).2.2.2.dead=true∧(Y6 ε.2.2.live (outF ε i).2.2.2 ε.2.2.dA∨Y6 (aI (cU ε.2) (cO f.b 4 8)).2.2 (outF ε i).2.2.2 (some (f.aK.toNat,f.b)))):=by
 unfold outF
 have NK:(bz ε).1=ε.1:=rfl
 rw[NK]
 cases hf:ε.1.ai[i]? with
 |none=>grind
 |some f =>
  simp only
  by_cases hc:f.aK<0∨f.changed=false
  ·grind
  ·rw[ak hc,ak hc]
   by_cases hg:bW f.b=false
   ·grind
   ·rw[ak hg,ak hg]
    have I:0≤f.aK:=by omega
    have J:f.changed=true:=by grind
    have js:(bz ε).2=cU ε.2:=rfl
    rw[js]
    rcases Aj (n:=cO f.b 4 8) ha with h1|⟨h1,h2,h3⟩
    ·rw[h1,aJ (by simp)]
     exact .inr ⟨f,rfl,I,J,rfl,rfl,.inl ⟨rfl,rfl,rfl,rfl,rfl,rfl⟩⟩
    ·rw[←h1]
     by_cases hz:(aI ε.2 (cO f.b 4 8)).1≠0
     ·rw[aJ hz,aJ hz]
      exact .inl ⟨rfl,h2,by rw[←h3];rfl⟩
     ·rw[ak hz,ak hz,←h3]
      rcases Kx (n:=f.aK) (b:=f.b) h2 with w1|⟨w1,w2,w3⟩
      ·rw[w1,aJ (by simp)]
       refine .inr ⟨f,rfl,I,J,rfl,rfl,.inr ?_⟩
       rw[←h3]
       exact⟨rfl,rfl,rfl,rfl,rfl,rfl⟩
      ·have w3:(((aI ε.2 (cO f.b 4 8)).2.2.bw f.aK f.b).2).live=((cU (aI ε.2 (cO f.b 4 8)).2).2.bw f.aK f.b).2:=w3
       have w1:((aI ε.2 (cO f.b 4 8)).2.2.bw f.aK f.b).1=((cU (aI ε.2 (cO f.b 4 8)).2).2.bw f.aK f.b).1:=w1
       rw[←w1,←w3]
       by_cases hy:((aI ε.2 (cO f.b 4 8)).2.2.bw f.aK f.b).1≠0
       ·rw[aJ hy,aJ hy];exact .inl ⟨rfl,w2,rfl⟩
       ·rw[ak hy,ak hy];exact .inl ⟨rfl,w2,rfl⟩
structure sN (N ba aB:Nat)(mk:List Nat)(rs:List ct)(B0:Int→List Nat)(g:Int→Option Nat)(F:Nat)(δ:Dk): Prop where
 ex:∃pd C d x tn,RI ba pd B0 rs g C d x∧LR ba aB mk rs x∧F≤x.1.forced∧x.2.aq.length=N∧x.2.log.length≤16777216∧Y6 x.2 δ tn∧∀w,tn=some w→w.1<N∧w.2.length=512∧∃rec,g w.1=some rec∧rec<ba+x.1.forced
section
theorem Wk {pd:Int→Prop}{f:Fm}(hv:vw (RI ba pd B0 rs g) (bz ε))(hl:LR ba aB mk rs (cU ε.2))(he:EC N (bz ε))(ha:ε.2.2.dead=false)(rR:ε.2.2.log.length≤16777216):
  ((outF ε i).1=(outF (bz ε) i).1∧(outF ε i).2.2.2.dead=false∧bz (outF ε i).2=(outF (bz ε) i).2)∨((outF ε i).1=9∧(outF ε i).2.2.2.dead=true∧sN N ba aB mk rs B0 g ε.2.1.forced (outF ε i).2.2.2):=by
 have hv:RI ba pd B0 rs g (j4 ε.1) ε.1.bq (cU ε.2):=hv
 have Y7:ε.2.2.dA=none:=hl.dA
 rcases Qd (i:=i) ha with h|⟨f,hf,h0,hc,h1,h1d,I⟩
 ·grind
 ·refine .inr ⟨h1,h1d,?_⟩
  have hN:(cU ε.2).2.aq.length=N:=he.dk.aq
  rcases I with I|I
  ·rw[Y7] at I
   exact⟨_,_,_,cU ε.2,none,hv,hl,aU _,hN,rR,I,fun w hw=>(by cases hw)⟩
  ·obtain⟨rec,t0,r0,t0',g1,g2,g3,g4,g5⟩:=hv.DR f.aK f.b ⟨i,f,hf,rfl,h0,hc,rfl⟩
   have J:=(he.back i f hf).resolve_left (by omega)
   obtain⟨x',mM,h',cE,w1,w2,w3⟩:=hv.force (cO f.b 4 8) (by grind[wP])
   have I_:=(my ba aB mk rs).force _ (cO f.b 4 8) hl
   have hle:=Nm (x:=cU ε.2) (n:=cO f.b 4 8) (by rw[hv.len];exact hv.le)
   have Qe:=(Cp ε.2.2.log.length).force (cU ε.2) (cO f.b 4 8) rfl
   rw[mM] at I I_ hle Qe
   refine⟨_,_,_,x',_,h',I_,hle,by grind,by grind,I,fun w hw => ?_⟩
   have hw:=cx hw
   subst hw
   have ac4:=J.lt
   refine⟨by omega,eC (J.kf hc),rec,?_,by omega⟩
   show g ((f.aK.toNat:Nat):Int)=some rec
   rw[Int.toNat_of_nonneg h0]
   exact hv.Af _ _ _ g1
theorem sN.cr (h:sN N ba aB mk rs B0 g F δ)(nH:uI rs B0)(hc:P9 ba aB data rs r1 F g)(kz:δ.bh≤δ.log.length):
  ∃u v r2,rs=u++v∧F≤szB u∧Nh ba aB u data r1 r2∧yb ba B0 u v r1 r2 δ:=by
 obtain⟨pd,C,d,x,tn,hv,hl,hF,hN,rR,hd,ht⟩:=h.ex
 obtain⟨u,v,hu,hf⟩:=hv.forced
 obtain⟨r2,DQ⟩:=hc.at hu (by omega)
 have vj:∀ {t t' a b:List ct} {r:ct} {rec n},u++t++t'=a++r::b→rec=ba+szB a→g n=some rec→szB a<szB (u++t)→r∈r2++t:=fun {t t' a b r rec n} k1 k2 I fU=>by
  have zU:=hc.low n rec I
  obtain⟨w1,e1,e2⟩:=wQ (a:=a) (b:=r::b) (u:=u++t) (v:=t') k1.symm (AO fU)
  cases w1 with
  |nil=>grind
  |cons y w1 =>
   injection e2 with e2 e3
   subst e2
   obtain⟨w2,e4,e5⟩:=wQ (a:=r1) (b:=r2++t) (u:=a) (v:=r::w1) (by rw[←e1,DQ.1,c9]) (by omega)
   rw[e5];simp
 refine⟨u,v,r2,hu,by omega,DQ,DQ.1,by rw[←hu];exact hl.rs,⟨[],by rw[hd.lt,hl.tail,hl.log,hu,ej],.inl (by decide)⟩,by rw[←hf,hd.cert];exact hv.cert,kz,by grind,fun n w t t' h0 ht' hw J => ?_,fun w hq => ?_⟩
 ·have h0:BW x.2 n:=by unfold BW at h0 ⊢;rw[←hd.aq];exact h0
  have J:uG x.2 n w:=by unfold uG imgOf at J ⊢;rw[hd.aq,hd.wait] at J;exact J
  refine⟨hv.kJ n w (u++t) t' h0 (by grind) (by rw[hf];exact qH) (fun rec I => ?_) J,hv.ck n w h0.1 J⟩
  refine vP fun cE => ?_
  obtain⟨a,r,b,k1,k2,k3⟩:=hv.bq n rec I
  exact hw ⟨r,vj (t:=t) (t':=t') (by rw[←k1,hu,ht',c9]) k2 I (by omega),k3⟩
 ·obtain⟨_,_,rec,q1,q2⟩:=ht w (by rw[←hd.dA];exact hq)
  obtain⟨a,r,b,k1,k2,k3⟩:=hv.bq w.1 rec q1
  have:=vj (t:=[]) (t':=v) (by rw[ej,←hu];exact k1) k2 q1 (by grind)
  rw[ej] at this
  exact⟨r,this,k3⟩
theorem EI.bz (h:EI N B ε): EI N B (Am.bz ε):=by
 have k:=h.ok.ok.dk
 refine⟨⟨⟨h.ok.ok.pl,h.ok.ok.lg,⟨by show(-1:Int)<4294967296;decide,k.len,k.room,k.now,k.aq,k.bh,k.many⟩⟩,h.ok.pins,h.ok.full⟩,⟨⟨h.ec.dk.alive,by show(-1:Int)<0;decide,h.ec.dk.aq,h.ec.dk.keys,h.ec.dk.nodup,h.ec.dk.good⟩,h.ec.nodup,h.ec.jU,fun i f I => ?_,h.ec.uE,h.ec.Ac⟩,⟨h.el.log,h.el.cert,h.el.size⟩,h.bG⟩
 rcases h.ec.back i f I with q|q
 ·omega
 ·exact .inr ⟨q.lt,q.here,q.aB,q.same,q.kf⟩
theorem RS.bz (h:RS N ba aB mk rs B0 g ε): RS N ba aB mk rs B0 g (Am.bz ε):=by
 have q:=mz.1 h.ri
 have l:=h.lr
 exact⟨⟨l.base,l.b,l.cB,l.check,l.log,l.alive,by show(-1:Int)<0;decide,l.mark,l.dA,l.tail,l.wait,l.rs⟩,
  ⟨q.base,q.b,q.log,q.alive,by show(-1:Int)<0;decide,q.forced,q.cert,q.kJ,q.bq,q.clean,q.DR,q.flag,q.ft,q.now,q.Af,q.I5,q.ck,q.P5⟩,h.st,h.gd⟩
end
end Go.Proofs.YtefepnnfphdkpaaGreat.Am
