/- TxBare: a part of its proof; conditions: its statement's. -/
import Derived.Test.YtiojppeahfoiaaaGreatN08
import Derived.Test.YtiojppeahfoiaaaGreatN05
import Derived.Test.YtiojppeahfoiaaaGreatN06
import Derived.Test.YtiojppeahfoiaaaGreatN02
import Derived.RangeFuncLeaves
import Derived.Test.YtiojppeahfoiaaaGreatN04
import Derived.WalkKit
import Derived.ProofKit
import Derived.OpenShut
import Derived.ChangeSlices
import Derived.Test.YtiojppeahfoiaaaGreatRows
set_option linter.defProp false
namespace Go.Proofs.YtiojppeahfoiaaaGreat.Am
open Go
def lB:=@Tryz.underlying33
def xu:=@Tryz.underlying145
def AS:=@Tryz.func208
def EB:=@Tryz.underlying48
def Kf:=@Tryz.func136
def Kg:=@Tryz.func26
def Kh:=@Tryz.func80
def Ki:=@Tryz.func81
variable {L:mL} {X:aI} {C:ep} {lT:Code} {c':Ctx} {ε aj:bA} {env:Env} {fn:Func} {cl:Go.Call} {h σ:H} {d x0 x1 x2:Int} {da db:List (Int×Int×Int×Int)} {now:List (Int×List Nat)} {l1 l2:List (Nat×Nat)} {E E2:List (Nat×V)} {S S':List aI} {ks:List Int} {data fI mk want mix:List Nat} {rs cy ey:List bV} {args cs:List V} {i id rr n N B c k tx pv M ba ck g a q r aH nx sK f l aF b dn qK b1 j it bk clock oX p2 r1 r2 off fuel:Nat} {fz:Nat×Nat} {o:Oper} {x:Operand} {P:Program} {A A1 A2:mU} {α H':Type} {e t:TypeId} {dv u dt kv mv av z vH y bv ka kb wv nn cv:V} {R:V→H→Prop} {w':World}
structure WK (told:cJ): Prop where
 w:W told
 kp:told 76=some (iQ Tryz.prog 76 BQ)
theorem Kj (I:L[i]?=some (id,rr,A)): ((L.map fun e=>((e.1:Int),e.2.1)).map (·.1)).Nodup→lookL (id:Int) (L.map fun e=>((e.1:Int),e.2.1))=some rr:=by
 induction L generalizing i with
 |nil=>simp at I
 |cons y L ih =>
  intro J
  simp only[fu,Bb] at J
  simp only[fu,lookL]
  cases i with
  |zero=>simp at I;subst I;rw[aC rfl]
  |succ i =>
   have I:L[i]?=some (id,rr,A):=by simpa using I
   have hm:(id:Int)∈(L.map fun e=>((e.1:Int),e.2.1)).map (·.1):=by
    rw[List.map_map];exact List.mem_map.2 ⟨_,bK I,rfl⟩
   rw[ak (fun e=>J.1 (by rw[e];exact hm))]
   exact ih I J.2
theorem Sat.later (s:Sat h S)(I:h.next≤n): Sat ⟨n,h.tr⟩ S:=⟨fun id o J=>gQ (s.wf id o J) I,s.ok⟩
theorem EI.nq {e:Int}{c:List bZ}(h:EI N B ε)(hw:NW N now)(I:iw now (bP now) ε e c aj): EI N B aj∧Sm N ε aj∧e=0:=by
 obtain⟨k1,k2,J⟩:=I.ec h.ec h.ok fun n hn=>hw.keys n (h_.1 hn)
 exact⟨⟨I.lS h.ok,k1,I.el h.el,cM I.b6 h.b6⟩,⟨k2,fun P hP hv=>hP.ch I h.ec h.ok hv,I.b6⟩,J⟩
theorem UI {A':mU}(I:L[i]?=some (id,rr,A)): ((L.set i (id,rr,A')).map fun e=>((e.1:Int),e.2.1))=L.map fun e=>((e.1:Int),e.2.1):=by
 apply qY
 intro j
 rw[pL,pL,tJ]
 by_cases h:i=j
 ·subst h
  have hi:=(List.getElem?_eq_some_iff.1 I).1
  rw[aC rfl,aC hi,I];rfl
 ·rw[ak h]
def AT (l:List Int)(k:Int): List Int:=if k∈l then l else l++[k]
def mU.more (A:mU)(aF cost:Nat)(ks:List Int): mU:=⟨if A.fst=0 then aF else A.fst,aF,aF,A.G1,A.dn++[(aF,cost)],ks.foldl AT A.pg⟩
theorem RR {k:Int}: ∀ {l:List Int},b8 k () (l.map fun n=>(n,()))=(AT l k).map fun n=>(n,()):=by
 intro l
 induction l with
 |nil=>rfl
 |cons x l J =>
  simp only[fu,b8]
  by_cases h:x=k
  ·subst h;simp[AT]
  ·rw[ak h,J]
   unfold AT
   by_cases I:k∈l
   ·rw[aC I,aC (bW _ I)];rfl
   ·rw[ak I,ak (by rw[jz];rintro(q|q);exact h q.symm;exact I q)];rfl
theorem Ya : ∃i,Tryz.prog.info? 185=some i∧i.size=2∧i.bytes≤4096 :=
 ⟨_,(show Tryz.prog.info? 185=some ((Tryz.prog.info? 185).getD default) by kernel_rfl),by kernel_rfl,of_decide_eq_true (by kernel_rfl)⟩
theorem OL {l:List Nat}{kd:Int}(hd:View h dv l): buildV Tryz.prog 104 [(0,.int .i64 kd),(1,.int .u64 (tx:Int)),(2,.int .u64 (pv:Int)),(4,dv)]=some (.agg (dx kd tx pv 0 dv .aY)):=by
 rcases hd.2 with⟨rfl|⟨I,rfl⟩,_⟩|⟨id,off,cap,n,cs,st,rfl,_⟩
 ·rw[rV];rfl
 ·rw[rV];rfl
 ·rw[rV];rfl
section
variable {told:cJ} {p m kd:Nat}
theorem Yb (hT:WK told)(J:xn L)(s:Sat h (fP m a nx u L::S)): Call ⟨Tryz.prog,told⟩ 76 [.ptr m 0] h fun v h'=>v=.int .i64 (r6 L:Int)∧Sat h' (fP m a nx u L::S):=by
 obtain⟨r,h1,h2⟩:=Rx J s
 obtain⟨r,h3,h4⟩:=qj h1 h2
 refine⟨r.1,r.2,gJ.told hT.kp Eo rfl h3,?_⟩
 clear h1 h2 h3
 obtain⟨m',cs,aeL,es',ad6,e1,g1,g2,g3,rfl⟩:=h4
 injection e1 with e1 _
 injection e1 with e1 _
 subst e1
 obtain⟨av,s1⟩:=dI.1 s
 obtain⟨bk,es,clock,rfl,hb,ju,s1⟩:=eT.1 (s1.ae [1])
 have e2:=rN (s1.row (k:=2) rfl) g1
 injection e2 with _ e2 _
 subst e2
 have g2:=cg g2
 injection g2 with g2
 subst g2
 have e3:=rN (s1.row (k:=0) rfl) g3
 injection e3 with e3 e4
 have ado:∀ {l I:cx},l.map (ja .u64)=I.map (ja .u64)→l=I:=by
  intro l
  induction l with
  |nil=>intro I h;cases I with
   |nil=>rfl
   |cons _ _=>cases h
  |cons y l ih =>
   intro I h
   cases I with
   |nil=>cases h
   |cons z I =>
    simp only[fu,E8] at h
    obtain⟨k1,k2⟩:=h
    obtain⟨y1,y2⟩:=y
    obtain⟨z1,z2⟩:=z
    simp only[ja,bC,V.int.injEq,true_and] at k1
    rw[ih k2,k1.1,k1.2]
 have e3:=ado e3
 subst e3
 obtain⟨qa,qb,q1,q2,q3⟩:=s1.at (k:=1) rfl
 have ur:∀(i:Nat) (x:Nat×Nat×mU),L[i]?=some x→costR h (.ptr x.2.1 0)=some (lu x,x.2.2.dn.length):=fun i x hx=>JZ ((ko hx).1 (s1.ae [3]))
 obtain⟨w1,_,_⟩:=J0 (X:=S) J.1 q3 ur
 refine⟨by rw[w1];rfl,?_⟩
 exact s.later (by show h.next≤h.next+1+_;omega)
theorem AU (hT:W told)(hB:B≤900)(h:ic N B M ba ck mk rs ε)(u9:ba+szB rs≤1000000000)(hw:NW N now){l:Nat}(hL:now.length≤l)(J:l≤1000)(hN:N≤1024)(h1:1≤kd)(h2:kd≤7)(qR:tx<2097152)(qS:pv<2097152)(qB:sK<2097152)(hd:data.length≤9)(hf:szB rs+520*l+40≤M)
 {h:H}(s:Sat h (GA g a p q r fI aH now ε::X::S))(hX:cN X (cP dt data)):
  Call ⟨Tryz.prog,told⟩ 50 [.ptr g 0,.agg (dx (kd:Int) tx pv sK dt .aY)] h fun v h'=>∃c aj aF,aF=ba+szB rs∧v=.aQ [.int .u64 (aF:Int),.int .i64 0]∧(∀m,pgA aj m=match lookL m now with|some b=>cz b aF|none=>pgA ε m) ∧
   (bV.mk kd tx pv sK data c).len≤520*l+40∧ic N (B+2) M ba ck mk (rs++[⟨kd,tx,pv,sK,data,c⟩]) aj∧Sat h' (eW g a now true::SA a p q r .bq fI aH aj::X::S):=by
 rename_i I
 have uW:=I.ei.b6
 have eL:ε.2.1.base+ε.2.1.b.length≤B*1048600:=I.ei.el.size
 have s:=aM.1 s
 have s:Sat h (eW g a now false::dA a p q r (.ptr g 0) fI aH::eo r p q ε.1::bS q p ε.2.1::aO p ε.2.2::X::S):=s
 have s:=s.kg (k:=4)
 refine(Mz (qI:=0) (kd:=(kd:Int)) (tx:=tx) (pv:=pv) (nx:=sK) (data:=data) hT (s.ae [1,1,1,1,1,1,0]) hX rfl I.ei.ok (by omega) (fun e he=>fb (hw.good e he).1) (by have:=hw.len;omega) (fun n hn=>by have:=hw.keys n hn;omega) (by omega) (by omega) (by omega) (by omega) I.ei.el.log (by omega)).mono ?_
 rintro v h ⟨aF,e,cl,aj,hr,rfl,s⟩
 obtain⟨rfl,rfl,rfl,gP,c,hlen,hi⟩:=I.done hr (by omega) hw hL J hN h1 h2 qR qS qB hd hf
 have s:Sat h (SA a p q r .bq fI aH aj::eW g a now true::X::S):=aM.2 (s.ae [1,1,1,1,0,0])
 exact⟨c,aj,_,rfl,rfl,gP,hlen,hi,s.ae [1]⟩
noncomputable def mnL : Code:=cU [1,1,1,1,1,1,1,1,1,1,1,1,1,1,1,1,1,0,1,0,0] ((Tryz.f41.body).getD .skip)
theorem UJ (hT:W told){pv:V}(hk:ks.length≤1000): ∀(j i:Nat) (pg:List Int) (h:H) (E:List (Nat×V)) (Q:Ex→List (Nat×V)→H→Prop),i+j=ks.length →
  Sat h (pt rr (.cells 7 (oD id f l n mv dv pv) false)::vU pv pg::.arr 1 kv (dY ks)::S)→Has E [(9,.ptr rr 0),(135,kv),(136,.int .i64 (ks.length:Int)),(137,.int .i64 (i:Int))] →
  (∀E' h',Sat h' (pt rr (.cells 7 (oD id f l n mv dv pv) false)::vU pv ((ks.drop i).foldl AT pg)::.arr 1 kv (dY ks)::S)→Q (.exit 2) E' h') →
  WP ⟨Tryz.prog,told⟩ 148 (.loop mnL) E h Q:=by
 intro j
 induction j with
 |zero =>
  intro i pg h E Q hi s hE I
  rw[v7 (by omega)] at I
  refine WP.loop (WP.has hE (zg rfl (zC rfl aT (by simp;omega) ?_)))
  exact zk 3 rfl (WP.exit (I _ _ s))
 |succ j ih =>
  intro i pg h E Q hi s hE I
  obtain⟨k,J⟩:∃k,ks[i]?=some k:=⟨_,bw (by omega)⟩
  have JE:ks.drop i=k::ks.drop (i+1):=by
   obtain⟨h1,h2⟩:=List.getElem?_eq_some_iff.1 J
   rw[pJ h1,h2]
  rw[JE,List.foldl_cons] at I
  obtain⟨AN,off,e1,e2⟩:=kJ (P:=Tryz.prog) s (k:=2) (i:=i) (c:=.int .i64 k) rfl (by rw[dY,pL,J];rfl) gW lR
  refine WP.loop (WP.has hE (zg rfl (zB rfl aT (by simp;omega) ?_)))
  refine zk 5 rfl (WP.block (zg rfl (zo rfl (c8 (r:=.ptr AN off) rfl rfl e1) (zl rfl (e2 _ dJ) (zk 5 rfl (zY s 0 FC NN rfl (zm rfl (zo rfl (cj rfl (by rw[abg];rfl)) ?_))))))))
  refine au.gh rfl rfl (OpR.mapUpdate rfl rfl rfl rfl (lH (n:=k) (f:=fun v (_:Unit)=>.pu (v=.agg [])) (x:=()) (fun _ _=>bg.pu _) ((s.ae [1]).fB rfl) JP br)) ?_
  intro _ h s
  rw[RR] at s
  have s:Sat h (vU pv (AT pg k)::_):=s
  have s:=s.ae [1,0]
  dsimp only[oD,aE,bringA,getA] at s
  refine zv (zr rfl (zb rfl (by exact bf (aA (by omega) (by omega))) ?_))
  refine zm rfl (zv ?_)
  exact ih (i+1) _ _ _ Q (by omega) s ⟨rfl,rfl,rfl,rfl,aa⟩ I
noncomputable def mnU : Code:=cU [1,1,1,1,1,1,1,1,1,1,1,1,1,1,1] ((Tryz.f41.body).getD .skip)
theorem RT (hT:W told){pv:V}(hk:ks.length≤1000){f0 cost:Nat}(sX:A.dn.length≤1000)(s:Sat h (pt rr (.cells 7 (oD id f0 A.jl A.qK mv dv pv) false)::.arr 1 mv (JU A.G1)::.arr 2 dv (mV A.dn)::vU pv A.pg::.arr 1 kv (dY ks)::S)){Q:Ex→List (Nat×V)→H→Prop}(hE:Has E [(9,.ptr rr 0),(19,.int .i64 (cost:Int)),(20,kv),(21,.int .u64 (aF:Int))])
 (hq:∀E' h',look E' 8=some (.int .i64 0)→Sat h' (pH rr id ⟨f0,aF,aF,A.G1,A.dn++[(aF,cost)],ks.foldl AT A.pg⟩::.arr 1 kv (dY ks)::S)→Q .ret E' h'): WP ⟨Tryz.prog,told⟩ 148 mnU E h Q:=by
 obtain⟨i1,J,jE,qg⟩:=Ya
 refine WP.has hE (zK 7 rfl (zf rfl (wZ _ _) (zS rfl (s.dK (k:=0) rfl kD rfl (show 0+2<7 by decide) rfl rfl) ?_)))
 intro h s
 refine zn rfl (zf rfl (pV _ _) (zS rfl (s.dK (k:=0) rfl kD rfl (show 0+3<7 by decide) rfl rfl) ?_))
 intro h s
 refine zk 6 rfl (zY s 0 rE DL rfl (zk 2 rfl (zo rfl (cj (r:=.agg [.int .u64 (aF:Int),.int .i64 (cost:Int)]) rfl (by rw[abh];rfl)) ?_)))
 obtain⟨xv,h1,e1,s1⟩:=kI (P:=Tryz.prog) (k:=2) (x:=.agg [.int .u64 (aF:Int),.int .i64 (cost:Int)]) s lq DM tw rfl (by decide) (by decide) rfl rfl
 obtain⟨w,h2,e2,s2⟩:=gU (s1.ae [3,0]) lq J DM jE qg rfl (by decide) (by rw[kK];simp[V.cells];omega)
 refine au.any rfl rfl rfl (OpR.of (R:=fun v h'=>v=xv∧h'=h1) (oF rfl e1) ⟨rfl,rfl⟩) ?_
 rintro xv h1 ⟨rfl,rfl⟩
 refine au.any rfl rfl rfl (OpR.of (R:=fun v h'=>v=w∧h'=h2) (mI rfl rfl e2) ⟨rfl,rfl⟩) ?_
 rintro w h2 ⟨rfl,rfl⟩
 have s:=s2.del 1
 have I:=s.iz (j:=0) rfl
 refine zn rfl (zf rfl (rE _ _) (zS rfl (s.dK (k:=1) rfl VJ rfl (show 0+5<7 by decide) I.1 I.2.1) ?_))
 intro h s
 have s:Sat h (.arr 2 w (mV A.dn++[.int .u64 (aF:Int),.int .i64 (cost:Int)])::pt rr (.cells 7 (oD id f0 aF aF mv w pv) false)::_):=s
 have s:=s.ae [1,2,2,0,0]
 refine zk 5 rfl (zo rfl (aP rfl rfl rfl (s.fR (n:=ks.length) (j:=2) rfl (by rw[dY,gD,iV]) (by decide) gW)) ?_)
 refine zk 2 rfl (WP.block (UJ hT hk ks.length 0 _ _ _ _ (by omega) s ⟨rfl,rfl,rfl,rfl,aa⟩ fun E' h' s' => ?_))
 have s:=s'
 rw[gS] at s
 refine WP.has (F:=[]) aa (zK 4 rfl (WP.ret (hq _ _ rfl ?_)))
 have s:=s.ae [0,3,2,0,0]
 exact kn.2 ⟨mv,w,pv,by rw[X0];exact s⟩
noncomputable def mnF : Code:=cU [1,1,1,1,1,1,1,0,1,0,0] ((Tryz.f41.body).getD .skip)
noncomputable def mnT : Code:=cU [1,1,1,1,1,1,1,1,1] ((Tryz.f41.body).getD .skip)
theorem UK : ∀c:List bZ,partsL c≤3*(c.flatMap jK).length:=by
 intro c
 induction c with
 |nil=>simp[partsL]
 |cons x c I =>
  have J:=yA (k:=9) (n:=x.aK.toNat)
  have h2:=yA (k:=9) (n:=x.pos.toNat)
  have h3:=yA (k:=9) (n:=x.b.length)
  simp only[partsL,pM,b7,jK,bz,cG]
  split<;>omega
theorem UL (hT:W told){pv v0 v2 v10 v11 I:V}{pg:List Int}(hk:ks.length≤1000): ∀(j i fr:Nat) (h:H) (E:List (Nat×V)) (Q:Ex→List (Nat×V)→H→Prop),i+j=ks.length→fr≤i →
  Sat h (pt rr (.cells 7 (oD id f l n mv dv pv) false)::vU pv pg::.arr 1 kv (dY ks)::S)→Has E [(0,v0),(2,v2),(9,.ptr rr 0),(10,v10),(11,v11),(12,I),(14,.int .i64 (fr:Int)),(50,kv),(51,.int .i64 (ks.length:Int)),(52,.int .i64 (i:Int))] →
  (∀E' h' J,J≤ks.length→Has E' [(0,v0),(2,v2),(9,.ptr rr 0),(10,v10),(11,v11),(12,I),(14,.int .i64 (J:Int))]→Sat h' (pt rr (.cells 7 (oD id f l n mv dv pv) false)::vU pv pg::.arr 1 kv (dY ks)::S)→Q (.exit 0) E' h') →
  WP ⟨Tryz.prog,told⟩ 148 (.loop mnF) E h Q:=by
 intro j
 induction j with
 |zero =>
  intro i fr h E Q hi F7 s hE hq
  refine WP.loop (WP.has hE (zg rfl (zC rfl aT (by simp;omega) ?_)))
  exact zk 3 rfl (WP.exit (hq _ _ fr (by omega) ⟨rfl,rfl,rfl,rfl,rfl,rfl,rfl,aa⟩ s))
 |succ j ih =>
  intro i fr h E Q hi F7 s hE hq
  obtain⟨k,vb⟩:∃k,ks[i]?=some k:=⟨_,bw (by omega)⟩
  obtain⟨AN,off,e1,e2⟩:=kJ (P:=Tryz.prog) s (k:=2) (i:=i) (c:=.int .i64 k) rfl (by rw[dY,pL,vb];rfl) gW lR
  obtain⟨bb,hl⟩:∃bb,dX Tryz.prog h 146 pv (.int .i64 k) true=some (.aQ [.agg [],.bool bb]):=by
   rcases iE (n:=k) (fun _ _=>bg.pu _) (s.ae [1]) JP br VN with⟨_,g2,_⟩|⟨uu,y,_,g2,_,s'⟩
   ·exact⟨_,g2⟩
   ·obtain⟨eu,_⟩:=ej.1 s'
    exact⟨_,by rw[g2,eu]⟩
  refine WP.loop (WP.has hE (zg rfl (zB rfl aT (by simp;omega) ?_)))
  refine zk 5 rfl (WP.block (zg rfl (zo rfl (c8 (r:=.ptr AN off) rfl rfl e1) (zl rfl (e2 _ dJ) (zk 6 rfl (zY s 0 FC NN rfl (zm rfl (zo rfl (fQ rfl rfl hl) (zk 3 rfl ?_)))))))))
  refine au.bD s rfl rfl rfl (bI VN) (fun p17 h s => ?_)
  dsimp only[V.cells,List.length_nil,oD] at s
  refine zS rfl (s.eS (j:=0) rfl abf rfl rfl) ?_
  intro h s
  dsimp only[setA] at s
  refine zk 5 rfl (zo rfl (eU rfl rfl) (zv ?_))
  cases bb with
  |true =>
   refine zj rfl (WP.skip (zr rfl (zb rfl (by exact bf (aA (by omega) (by omega))) ?_)))
   refine zm rfl (zv ?_)
   exact ih (i+1) fr _ _ Q (by omega) (by omega) s.drop ⟨rfl,rfl,rfl,rfl,rfl,rfl,rfl,rfl,rfl,rfl,aa⟩ hq
  |false =>
   refine zK 3 rfl (zo rfl (ay (r:=.int .i64 ((fr+1:Nat):Int)) rfl rfl (by rw[show((fr+1:Nat):Int)=(fr:Int)+1 by omega];exact bf (aA (by omega) (by omega)))) ?_)
   refine za rfl (zv (zr rfl (zb rfl (by exact bf (aA (by omega) (by omega))) ?_)))
   refine zm rfl (zv ?_)
   exact ih (i+1) (fr+1) _ _ Q (by omega) (by omega) s.drop ⟨rfl,rfl,rfl,rfl,rfl,rfl,rfl,rfl,rfl,rfl,aa⟩ hq
set_option maxHeartbeats 1000000 in
theorem Yc (hT:WK told)(hB:B≤900)(hI:ic N B M ba ck mk rs ε)(Kk:1≤ba)(u9:ba+szB rs≤1000000)(hN:N≤1024)(iO:xn L)(hx:L[i]?=some (id,rr,A)){k:Nat}{b:List Nat}(I:now=[((k:Int),b)])(hw:NW N now)(nC:id<2097152)(vV:A.jl<2097152)(hd:data.length≤9)(sX:A.dn.length≤1000)
 (vc:szB rs+7300+r6 L≤M)(hM:M≤16777216){sz pl fr w:Nat}(eL:sz≤560)(C_:pl≤1560)(F7:fr≤9)(s:Sat h (fP m a nx u L::GA g a p q r fI aH now ε::X::pt w (.cells 6 (dx (1:Nat) id A.jl 0 dt .aY) false)::S))(hX:cN X (cP dt data))
 {E:List (Nat×V)}{Q:Ex→List (Nat×V)→H→Prop}(hE:Has E [(0,.ptr m 0),(2,.ptr g 0),(9,.ptr rr 0),(10,.ptr w 0),(11,.int .i64 (sz:Int)),(12,.int .i64 (pl:Int)),(14,.int .i64 (fr:Int))])
 (hq:∀E' h' c aj aF,look E' 8=some (.int .i64 0)→aF=ba+szB rs→(∀m,pgA aj m=match lookL m now with|some b=>cz b aF|none=>pgA ε m)→(bV.mk 1 id A.jl 0 data c).len≤560→ic N (B+2) M ba ck mk (rs++[⟨1,id,A.jl,0,data,c⟩]) aj →
   Sat h' (fP m a nx u (L.set i (id,rr,A.more aF (pl+96) [(k:Int)]))::eW g a now true::SA a p q r .bq fI aH aj::X::S)→Q .ret E' h'): WP ⟨Tryz.prog,told⟩ 148 mnT E h Q:=by
 have hW:=hT.w
 have NF:∀n∈now.map (·.1),(Lit.int .i64 n).wf=true:=fun n hn=>by have:=hw.keys n hn;exact wf_i64 (by omega) (by omega)
 have hb:ε.2.1.b.length=szB rs:=by rw[hI.lr.b,fZ]
 have Gn:=hI.lr.base
 have LF:=hI.rm
 obtain⟨av,s⟩:=dI.1 s
 refine WP.has hE (zK 3 rfl (zo rfl (ay (r:=.int .i64 ((pl+96:Nat):Int)) rfl rfl (by rw[show((pl+96:Nat):Int)=(pl:Int)+96 by omega];exact bf (aA (by omega) (by omega)))) ?_))
 refine zk 7 rfl (zY s 0 rC o9 rfl ?_)
 have s0:Sat h (fP m a nx u L::GA g a p q r fI aH now ε::X::pt w (.cells 6 (dx (1:Nat) id A.jl 0 dt .aY) false)::S):=dI.2 ⟨av,s⟩
 refine zc rfl (Ue (μ:=ε.2.1) (δ:=ε.2.2) hW (by omega) (by omega) ((aM.1 (s0.ae [1])).ae [1,2,2])) ?_
 rintro v h' ⟨rfl,rfl⟩
 rw[hb,LF]
 refine zk 2 rfl (zo rfl (ay (r:=.int .i64 ((sz+(pl+96):Nat):Int)) rfl rfl (by rw[show((sz+(pl+96):Nat):Int)=(sz:Int)+((pl+96:Nat):Int) by omega];exact bf (aA (by omega) (by omega)))) ?_)
 refine zm rfl (zo rfl (ay (r:=.int .i64 ((560*fr:Nat):Int)) rfl rfl (by rw[show((560*fr:Nat):Int)=560*(fr:Int) by omega];exact jf (aA (by omega) (by omega)))) ?_)
 refine zo rfl (ay (r:=.int .i64 ((sz+(pl+96)+560*fr:Nat):Int)) rfl rfl (by rw[show((sz+(pl+96)+560*fr:Nat):Int)=((sz+(pl+96):Nat):Int)+((560*fr:Nat):Int) by omega];exact bf (aA (by omega) (by omega)))) ?_
 refine zm rfl (zc rfl (Yb hT iO s0) ?_)
 rintro v h ⟨rfl,s⟩
 refine zo rfl (ay (r:=.int .i64 ((sz+(pl+96)+560*fr+r6 L:Nat):Int)) rfl rfl (by rw[show((sz+(pl+96)+560*fr+r6 L:Nat):Int)=((sz+(pl+96)+560*fr:Nat):Int)+(r6 L:Int) by omega];exact bf (aA (by omega) (by omega)))) ?_
 refine zC rfl aT (by simp;omega) ?_
 refine zk 6 rfl ?_
 have s:=aM.1 (s.ae [1])
 have s:Sat h (eW g a now false::_):=s
 refine zc rfl (Ax hW s (by rw[I];simp) NF) ?_
 rintro kv h s
 have Mv:bP now=[(k:Int)]:=by rw[I];rfl
 rw[Mv] at s
 refine zk 5 rfl (zl rfl (s.cV (k:=8) rfl iJ dD) ?_)
 have s:=s.ae [1,1,1,1,1]
 have s:Sat h (GA g a p q r fI aH now ε::_):=aM.2 s
 have s:=s.ae [0,2]
 refine zc rfl (AU (kd:=1) (l:=1) hW hB hI (by omega) hw (by rw[I];simp) (by decide) hN (by decide) (by decide) nC vV (by decide) hd (by omega) s hX) ?_
 rintro v h ⟨c,aj,aF,C7,rfl,gP,hlen,mO,s⟩
 refine zk 10 rfl (zC rfl aD (rfl) ?_)
 obtain⟨qT,s⟩:=dI.1 (s.ae [4])
 have s:=(ko hx).1 (s.ae [2])
 obtain⟨mv,dv,pv,s⟩:=kn.1 s
 have s:=s.ae [0,0,0,0,6]
 refine zk 8 rfl (zY s 0 L4 dL rfl ?_)
 have hlen:(bV.mk 1 id A.jl 0 data c).len≤560:=by omega
 have fin:∀ {f0:Nat} {E':List (Nat×V)} {h:H},f0=(if A.fst=0 then aF else A.fst)→look E' 8=some (.int .i64 0)→Sat h (pH rr id ⟨f0,aF,aF,A.G1,A.dn++[(aF,pl+96)],[(k:Int)].foldl AT A.pg⟩::.arr 1 kv (dY [(k:Int)])::jX (L.eraseIdx i)::pt m (.cells 4 [.ptr a 0,u,qT,.int .u64 (nx:Int)] false)::jv .u64 (fun v (r:Nat)=>.pu (v=.ptr r 0)) qT (L.map fun e=>((e.1:Int),e.2.1))::eW g a now true::SA a p q r .bq fI aH aj::X::pt w (.cells 6 (dx (1:Nat) id A.jl 0 dt .aY) false)::S)→Q .ret E' h:=by
  intro f0 E' h M3 J s
  subst M3
  refine hq E' h c aj aF J C7 gP hlen mO ?_
  have s:=s.ae [0,1]
  have s:Sat h (jX (L.set i (id,rr,A.more aF (pl+96) [(k:Int)]))::_):=(Ui (x':=(id,rr,A.more aF (pl+96) [(k:Int)])) hx).1 s
  have s:=s.ae [2,2,0,1,1,1]
  rw[←UI (A':=A.more aF (pl+96) [(k:Int)]) hx] at s
  exact((dI.2 ⟨qT,s⟩).del 5).del 4
 by_cases hf:A.fst=0
 ·skip
  refine zB rfl dm (by simp[hf]) ?_
  refine zk 6 rfl (zf rfl (L4 _ _) (zS rfl (s.dK (k:=0) rfl kD rfl (show 0+1<7 by decide) rfl rfl) ?_))
  intro h s
  refine zv (RT (f0:=aF) (A:=A) hW (ks:=[(k:Int)]) (by simp) sX s ⟨rfl,rfl,rfl,rfl,aa⟩ fun E' h' J s' => ?_)
  exact fin (by rw[aC hf]) J s'
 ·skip
  refine zC rfl dm (by simp;omega) ?_
  refine zk 3 rfl (RT (f0:=A.fst) (A:=A) hW (ks:=[(k:Int)]) (by simp) sX s ⟨rfl,rfl,rfl,rfl,aa⟩ fun E' h' J s' => ?_)
  exact fin (by rw[ak hf]) J s'
set_option maxHeartbeats 1000000 in
theorem Kl (hT:WK told)(hB:B≤900)(hI:ic N B M ba ck mk rs ε)(Kk:1≤ba)(u9:ba+szB rs≤1000000)(hN:N≤1024)(iO:xn L)(hx:L[i]?=some (id,rr,A)){b:List Nat}(I:now=[((k:Int),b)])(hw:NW N now)(nC:id<2097152)(vV:A.jl<2097152)(hd:data.length≤9)(sX:A.dn.length≤1000)
 (vc:szB rs+7300+r6 L≤M)(hM:M≤16777216)(s:Sat h (fP m a nx u L::GA g a p q r fI aH now ε::X::S))(hX:cN X (cP dt data)):
  Call ⟨Tryz.prog,told⟩ 41 [.ptr m 0,.int .u64 (id:Int),.ptr g 0,dt] h fun v h'=>∃c cost aj aF,aF=ba+szB rs∧v=.int .i64 0∧(∀m,pgA aj m=match lookL m now with|some b=>cz b aF|none=>pgA ε m)∧(bV.mk 1 id A.jl 0 data c).len≤560∧cost≤1656 ∧
   ic N (B+2) M ba ck mk (rs++[⟨1,id,A.jl,0,data,c⟩]) aj∧Sat h' (fP m a nx u (L.set i (id,rr,A.more aF cost [(k:Int)]))::eW g a now true::SA a p q r .bq fI aH aj::X::S):=by
 have hW:=hT.w
 have iP:=s.aG (k:=2) rfl hX
 have fo:(V.agg (dx (1:Nat) id A.jl 0 dt .aY)).cells.all storable=true:=jc iP.cells.2 rfl
 obtain⟨av,s⟩:=dI.1 s
 have s:=s.ae [1]
 obtain⟨bk,es,clock,e0,hb,ju,_⟩:=eT.1 s
 have MF:=Kj hx ju
 obtain⟨uu,y,hy,_,gE,s⟩:∃uu y,lookL (id:Int) (L.map fun e=>((e.1:Int),e.2.1))=some y∧dX Tryz.prog h 142 av (.int .u64 (id:Int)) true=some (.aQ [uu,.bool true])∧dX Tryz.prog h 142 av (.int .u64 (id:Int)) false=some uu∧Sat h (.pu (uu=.ptr y 0)::jv .u64 (fun v (r:Nat)=>.pu (v=.ptr r 0)) av (L.map fun e=>((e.1:Int),e.2.1))::_):=by
  rcases iE (n:=(id:Int)) (fun _ _=>bg.pu _) s mT bR HN with⟨g1,_⟩|⟨uu,y,g1,g2,g3,s'⟩
  ·rw[MF] at g1;cases g1
  ·exact⟨uu,y,g1,g2,g3,s'⟩
 obtain⟨eu,s'⟩:=ej.1 s
 subst eu
 rw[MF] at hy
 obtain rfl:=cg hy
 have s:=s'
 have s:=(ko hx).1 (s.ae [2])
 obtain⟨mv,dv,pv,s⟩:=kn.1 s
 -- [act's row, marks, done, pages, others, map, manager's row, group .., X]
 refine Call.of_wp (hW.free _ rfl) Tryz.func41 rfl rfl (zK 8 rfl (zY s 6 iZ kr rfl (zm rfl (zo rfl (fQ rfl rfl gE) (zk 6 rfl (zC rfl (qH xu) (rfl) (zk 8 rfl (zY s 0 wZ dL rfl (zm rfl (zo rfl (cj (r:=.agg (dx (1:Nat) id A.jl 0 dt .aY)) rfl (OL iP)) ?_))))))))))
 refine au.bD s rfl rfl rfl (bI jC) (fun GI h s => ?_)
 refine zS rfl (s.eS (j:=0) rfl dD rfl fo) ?_
 intro h s
 refine zk 4 rfl (zl rfl (s.cV (k:=0) rfl iJ dD) ?_)
 have s:=aM.1 (s.ae [8])
 have s:Sat h (eW g a now false::dA a p q r (.ptr g 0) fI aH::eo r p q ε.1::bS q p ε.2.1::aO p ε.2.2::_):=s
 have J:∀n∈now.map (·.1),0≤n∧n<65536:=fun n hn=>by have:=hw.keys n hn;omega
 have uW:=hI.ei.b6
 refine zc rfl (Uf (kd:=(1:Nat)) (nx:=0) hW hI.ei.ok (by omega) (fun e he=>fb (hw.good e he).1) (by rw[I];simp) J (by omega) (by omega) (by omega) (by omega) (s.ae [0,0,0,0,0,8]) hX) ?_
 rintro v h ⟨e,c,qP,hc,Er,s⟩
 obtain⟨kA,g_,yM⟩:=hI.ei.nq hw hc
 have hnl:(bP now).length=1:=by rw[I];rfl
 have w_:=AR (kd:=((1:Nat):Int)) (tx:=id) (pv:=A.jl) (nx:=0) (data:=data) (L:=1) hc hw (by rw[I];simp) (by omega) nC vV (by decide) hd
 have C_:=UK c
 have hfw:=hc.Ra hw fun n hm=>by have:=hw.keys n (h_.1 hm);omega
 rw[hnl] at hfw
 have abY:dV ((1:Nat):Int) c=true:=yj ⟨by decide,by decide⟩ (hc.fit (fun x hx=>fb (hw.good x hx).1) fun n hq=>by have:=J n (h_.1 hq);omega)
 have Km:ic N B M ba ck mk rs qP:=hI.sm kA g_
 have aaB:∀m,pgA qP m=pgA ε m:=g_.1
 obtain⟨sz,eL,rfl⟩:∃sz:Nat,sz≤560∧v=.aQ [.int .i64 (sz:Int),.int .i64 (partsL c:Int),.int .i64 0]:=by
  rcases Er with⟨h1,_⟩|⟨_,h1,_⟩|⟨_,h1,_⟩|⟨_,h1⟩
  ·exact absurd yM h1
  ·rw[abY] at h1;cases h1
  ·omega
  ·exact⟨_,by omega,h1⟩
 generalize partsL c=pl at *
 refine zk 12 rfl (zC rfl aD (rfl) (zk 11 rfl (zc rfl (Ax hW s (by rw[I];simp) (fun n hn=>by have:=J n hn;exact wf_i64 (by omega) (by omega))) ?_)))
 rintro kv h s
 have Mv:bP now=[(k:Int)]:=by rw[I];rfl
 rw[Mv] at s
 refine zo rfl (aP rfl rfl rfl (s.fR (n:=1) (j:=0) rfl (by simp[dY]) (by decide) gW)) ?_
 refine zk 2 rfl (WP.block ?_)
 have s:=s.ae [8,10,0]
 refine UL (ks:=[(k:Int)]) (l:=A.jl) (n:=A.qK) hW (by simp) 1 0 0 _ _ _ rfl (aV _) s ⟨rfl,rfl,rfl,rfl,rfl,rfl,rfl,rfl,rfl,rfl,aa⟩ fun E' h' fr F7 fE s' => ?_
 have s:=s'
 have F7:fr≤1:=F7
 refine WP.has fE ?_
 have fin:∀ {h:H},Sat h (pt rr (.cells 7 (oD id A.fst A.jl A.qK mv dv pv) false)::vU pv A.pg::.arr 1 kv (dY [(k:Int)])::eW g a now false::dA a p q r (.ptr g 0) fI aH::eo r p q qP.1::bS q p qP.2.1::aO p qP.2.2::X::pt GI (.cells 6 (dx (1:Nat) id A.jl 0 dt .aY) false)::.arr 1 mv (JU A.G1)::.arr 2 dv (mV A.dn)::jX (L.eraseIdx i)::jv .u64 (fun v (r:Nat)=>.pu (v=.ptr r 0)) av (L.map fun e=>((e.1:Int),e.2.1))::pt m (.cells 4 [.ptr a 0,u,av,.int .u64 (nx:Int)] false)::S) →
   Sat h (fP m a nx u L::GA g a p q r fI aH now qP::X::pt GI (.cells 6 (dx (1:Nat) id A.jl 0 dt .aY) false)::S):=by
  intro h s
  have s:=s.ae [0,9,9,0]
  have s:=kn.2 ⟨mv,dv,pv,s⟩
  have s:=s.ae [0,8]
  have s:=(ko hx).2 s
  have s:=s.ae [10,9,0]
  have s:=dI.2 ⟨av,s⟩
  have s:=s.ae [2,2,2,2,2]
  have s:Sat h (GA g a p q r fI aH now qP::_):=aM.2 s
  exact((s.ae [1,0,1,1]).del 4)
 have tail:=fun {fr h E Q} (F7:fr≤9) s hE hq=>Yc (h:=h) (fr:=fr) (E:=E) (Q:=Q) hT hB Km Kk u9 hN iO hx I hw nC vV hd sX vc hM eL (show pl≤1560 by omega) F7 (fin s) hX hE hq
 refine zK 5 rfl (zY s 0 rE DL rfl (zo rfl (aP rfl rfl rfl (s.fR (n:=A.dn.length) (j:=11) rfl (kK _) (by decide) lq)) ?_))
 by_cases VV:A.dn=[]
 ·skip
  refine zB rfl dm (by simp[VV]) ?_
  refine zk 4 rfl (zo rfl (ay (r:=.int .i64 ((fr+8:Nat):Int)) rfl rfl (by rw[show((fr+8:Nat):Int)=(fr:Int)+8 by omega];exact bf (aA (by omega) (by omega)))) ?_)
  exact zk 2 rfl (tail (by omega) s ⟨rfl,rfl,rfl,rfl,rfl,rfl,rfl,aa⟩ fun E' h' c aj aF fE C7 gP hlen mO s'=>⟨aa,_,nG fE,c,pl+96,aj,aF,C7,rfl,fun m=>by rw[gP m,aaB m],hlen,by omega,mO,s'⟩)
 ·have h1:0<A.dn.length:=List.length_pos_iff.2 VV
  refine zC rfl dm (by simp;omega) ?_
  exact zk 3 rfl (tail (by omega) s ⟨rfl,rfl,rfl,rfl,rfl,rfl,rfl,aa⟩ fun E' h' c aj aF fE C7 gP hlen mO s'=>⟨aa,_,nG fE,c,pl+96,aj,aF,C7,rfl,fun m=>by rw[gP m,aaB m],hlen,by omega,mO,s'⟩)
end
abbrev RU := List V→H→V×H→Prop
noncomputable def toldP (l:List (Nat×RU))(base:Nat→Option (List V→H→Option (V×H)))(f:Nat): Option (List V→H→Option (V×H)) :=
 match l with
 |[]=>base f
 |x::l=>cond (Nat.beq f x.1) (some (iQ Tryz.prog x.1 x.2)) (toldP l base f)
theorem M4 {l:List (Nat×RU)}(h:∀x∈l,inL IV x.1=true∧x.1≠217∧x.1≠106): W (toldP l qF):=by
 induction l with
 |nil=>exact W.base
 |cons x l I =>
  have I:=I fun y hy=>h y (bW _ hy)
  obtain⟨h1,h2,h3⟩:=h x bX
  refine⟨fun f J => ?_,?_,?_⟩
  ·have:f≠x.1:=fun e=>by subst e;rw[h1] at J;cases J
   simp only[toldP,fF this,aX];exact I.free f J
  ·simp only[toldP,fF (l9 h2),aX];exact I.more
  ·simp only[toldP,fF (l9 h3),aX];exact I.sorted
theorem Kn {l : List (Nat × RU)} (h : ∀ x ∈ l, ∃ fn, Tryz.prog.funcs[x.1]? = some fn ∧ fn.body.isSome = true ∧ (fn.name == "runtime.NumGoroutine") = false) : eM ⟨Tryz.prog, toldP l qF⟩ := by
 induction l with
 | nil => exact eB
 | cons x l J =>
  have J := J fun y hy => h y (bW _ hy)
  intro f g I
  simp only [toldP] at I
  by_cases h1 : f = x.1
  ·subst h1
   rw [sO rfl, ah] at I
   simp only [aB] at I
   subst I
   exact QC (h x bX)
  ·rw [fF h1, aX] at I
   exact J f g I
def OM (C:ep)(f:FuncId)(args:List V)(h:H)(r:V×H): Prop:=∃I,∀N,I≤N→toldDefer C N f args h=some r
theorem Call.aaC {told:cJ}{f:FuncId}(hP:C.P=Tryz.prog)(hC:eM C)(ht:told f=some (iQ Tryz.prog f (OM C f)))(hf:Tryz.prog.funcs[f]?=some fn)(hb:fn.body.isSome=true)
 (hd:∃v I,(∃J,∀N,J≤N→toldDefer C N f args h=some (v,I))∧R v I): Call ⟨Tryz.prog,told⟩ f args h R:=by
 obtain⟨v,I,⟨J,h0⟩,hR⟩:=hd
 obtain⟨r,e1,N1,h1⟩:=qj (P:=Tryz.prog) (f:=f) (jF:=OM C f) (args:=args) (h:=h) (r:=(v,I)) ⟨J,h0⟩ (fun c w qq hw=>hP ▸ z6 (C:=C) (hP ▸ fT) hC (h0 J (aV _)) qq hw)
 have:r=(v,I):=by
  have a:=h0 (max J N1) (by omega)
  have b:=h1 (max J N1) (by omega)
  rw[a] at b
  exact(cg b).symm
 subst this
 exact⟨v,I,gJ.told ht hf hb e1,hR⟩
section
variable {told:cJ} {p m kd:Nat}
theorem RV (hB:B≤900)(hI:ic N B M ba ck mk rs ε)(u9:ba+szB rs≤1000000000)(hN:N≤1024)(h1:1≤kd)(I:kd≤7)(qR:tx<2097152)(qS:pv<2097152)(hf:szB rs+40≤M)
 (s:Sat h (pt m (.cells 4 [.ptr a 0,u,av,.int .u64 (nx:Int)] false)::SA a p q r .bq fI aH ε::S)):
  ∃v I,(∃N0,∀n,N0≤n→toldDefer CB n 136 [.ptr m 0,.agg (dx (kd:Int) tx pv 0 .aY .aY)] h=some (v,I))∧∃c aj,v=.aQ [.int .u64 ((ba+szB rs:Nat):Int),.int .i64 0]∧(∀m,pgA aj m=pgA ε m) ∧
   (bV.mk kd tx pv 0 [] c).len≤40∧ic N (B+2) M ba ck mk (rs++[⟨kd,tx,pv,0,[],c⟩]) aj∧Sat I (pt m (.cells 4 [.ptr a 0,u,av,.int .u64 (nx:Int)] false)::SA a p q r .bq fI aH aj::S):=by
 have J:=W.base
 refine toldDefer_do (C:=CB) Kf rfl rfl (of_decide_eq_true (by kernel_rfl)) ?_
 refine WPd.seq (WPd.of_wp rfl (zr rfl (au.bD s rfl rfl rfl (dB rfl rfl) ?_)))
 intro p3 h s
 dsimp only[Nat.reduceAdd,dx,V.cells,List.length_cons,List.length_nil] at s
 refine zk 2 rfl (zv (WPd.seq (WPd.of_wp rfl (zr rfl (zk 2 rfl (zf rfl (rC _ _) (zl rfl (by exact s.ld (k:=1) rfl o9 rfl) ?_)))))))
 have s:=aM.1 (s.ae [2])
 dsimp only[aE,bringA,List.cons_append,List.nil_append] at s
 refine zc rfl (sF J s) ?_
 rintro v h ⟨g,rfl,s⟩
 have s:Sat h (GA g a p q r fI aH [] ε::_):=aM.2 s
 have s:=s.uE.ae [1]
 dsimp only[bringA,getA,aE] at s
 refine zk 5 rfl (zv (WPd.seq (WPd.seq (WPd.of_wp rfl (zr rfl (zm rfl (zh rfl (ay rfl rfl aD) (rfl) (zv (WPd.of_wp rfl (zj rfl (WP.skip (WPd.seq (WPd.defer rfl rfl rfl rfl rfl rfl rfl rfl rfl rfl rfl rfl (WPd.seq (WPd.of_wp rfl (zr rfl (zm rfl (zl rfl (by exact s.cV (k:=2) rfl iJ dD) ?_))))))))))))))))))
 refine zc rfl (AU (kd:=kd) (l:=0) J hB hI u9 (NW.nil N) (aV _) (by decide) hN h1 I qR qS (by decide) (by decide) (by omega) s (aN _ _)) ?_
 rintro v h ⟨c,aj,aF,rfl,rfl,gP,hlen,mO,s⟩
 refine zk 4 rfl (zv (WPd.of_wp rfl (WP.ret ?_)))
 have s:=aM.1 (s.ae [1])
 have s:=s.ae [4,0]
 obtain⟨v2,I,pS,rfl,s⟩:=tD J s
 have s:=s.ae [1,1,1,1]
 have s:Sat I (SA a p q r .bq fI aH aj::_):=aM.2 s
 have sX:qF 59=none:=J.free _ rfl
 exact⟨aa,I,_,rZ (C:=CB) sX Au rfl rfl pS,sU rfl rfl,c,aj,rfl,fun m=>gP m,by omega,mO,(((s.ae [4,0]).del 4).del 3).del 2⟩
theorem yC (hT:WR told){y:bV}{x:LD}(I:LR ba ck mk (cy++y::ey) x)(qO:x.1.Ok)(s:Sat h (bS q p x.1::S)):
  Call ⟨Tryz.prog,told⟩ 66 [.ptr q 0,.int .u64 ((ba+szB cy:Nat):Int)] h fun v h'=>∃dt ch cs,v=.aQ [.agg (dx y.kd y.tx y.pv y.nx dt ch),.int .u64 ((ba+szB cy+y.len:Nat):Int),.int .i64 0] ∧
   Sat h' (bS q p x.1::aZ dt y.data::.arr 4 ch cs::c9 cs y.aR::S):=by
 have J:=I.rs y (by simp)
 refine(G0 (n:=ba+szB cy) (a:=szB cy) (pre:=logB ba cy) (rest:=logB (ba+szB cy+y.len) ey) hT J.good J.kd J.rd rfl J.len fZ ?_ (by rw[I.base]) ?_ qO s).mono fun v h' hx => ?_
 ·rw[I.b,u6,logB]
  rfl
 ·have:=J5 (base:=ba) (aH:=ck) (cy:=cy) (ey:=ey) (r:=y)
  have e1:=I.base
  have e2:=I.b
  have e3:=I.cE
  obtain⟨μ,δ⟩:=x
  obtain⟨b1,b2,b3,b4,b5⟩:=μ
  simp only at e1 e2 e3
  subst e1 e2 e3
  exact this
 ·have e:ba+szB cy+y.len=ba+szB cy+8+(c_ y.kd y.tx y.pv y.nx y.data y.aR).length:=by rw[bV.len,bV.bd];omega
  rw[e]
  exact hx
end
section
variable {told:cJ} {p m pv' kd:Nat} {cell:List Nat}
theorem oC.done (hw:NW N now)(hd:∀m,pgA aj m=match lookL m now with|some b=>cz b aF|none=>pgA ε m)(I:oC N n k cell (pgG now ε)): oC N n k cell (pgA aj):=by
 obtain⟨R,M,J,h2⟩:=I.hd
 exact⟨⟨R,M,J.done hw hd,h2⟩,I.k2,I.kN,I.pg.done hw hd,I.len⟩
def F3 (c:Nat): V:=.iface 161 (.agg [.ptr c 0])
end
def slZ : V→V
 |.sl id _ _ cap=>.sl id 0 0 cap
 |v=>v
theorem aaD {v:V}(a:uB (T.get h.tr) k v cs): (slZ v).cells=[slZ v]∧storable (slZ v)=true:=by
 rcases a.2 with⟨rfl,_⟩|⟨id,n,cap,N,rest,rfl,_⟩<;>exact⟨rfl,rfl⟩
theorem He {h':H}{v:V}(a:uB (T.get h.tr) k v cs)(hk:1≤k)(J:1≤cs.length)(hu:P.underlying t=some (.slice e))(I:bB P e=some k):
  sliceV P h' t v (some 0) none none=some v∧sliceV P h' t v none (some 0) none=some (slZ v):=by
 rcases a.2 with⟨rfl,rfl⟩|⟨id,n,cap,N,rest,rfl,hg,e1,e2,_,e4⟩
 ·simp at J
 ·have hn:1≤n:=by
   rcases wg n with h0|h0
   ·subst h0;omega
   ·exact h0
  cases cap with
  |exact c =>
   simp only[sliceV,hu,I,A9,iB,slZ]
   grind[aL]
  |rest q alt =>
   obtain⟨rfl,rfl,rfl,_⟩:=e4
   have h2:Nat.ble 1 q=true:=by rw[aL];exact hk
   have h3:Nat.blt 0 n=true:=by rw[Nat.blt_eq];exact hn
   have h4:Nat.ble 0 n=true:=by rw[aL];omega
   constructor
   ·simp[sliceV,hu,I,h2,h4,Nat.ble_self_eq_true]
   ·simp[sliceV,hu,I,h2,h4,slZ]
    rfl
theorem RW {v:V}(s:Sat h (.arr k v cs::S))(I:cs≠[])(hu:P.underlying t=some (.slice e))(hz:zeroT P e=some z)(hk:z.cells.length=k)(J:1≤k):
  ∃h',clearV P h t v=some h'∧Sat h' S:=by
 obtain⟨id,n,cap,N,rest,rfl,h1,h2,s,_⟩:=s.L8 I
 have hn:1≤n:=by
  rcases wg n with h0|h0
  ·subst h0;rw[qZ] at h1;exact absurd (List.length_eq_zero_iff.1 h1) I
  ·exact h0
 have g:=s.row (k:=0) rfl
 have hl:(repeatL z.cells n).length=cs.length:=by rw[oS,hk,h1,tO]
 have e0:(Nat.ble 1 z.cells.length&&Nat.ble 1 n)=true:=by rw[hk,bH,aL,aL];exact⟨J,hn⟩
 have e1:Nat.ble (0+(repeatL z.cells n).length) N=true:=by rw[aL,hl];omega
 refine⟨_,?_,(s.put (o':=.cells N (cond (Nat.beq 0 0&&Nat.beq (repeatL z.cells n).length N) (repeatL z.cells n) ((cs++rest).take 0++(repeatL z.cells n++(cs++rest).drop (0+(repeatL z.cells n).length)))) false) (k:=0) rfl).drop⟩
 ·simp only[clearV,hu,hz,e0,ah,wrN,show h.tr.get id=_ from g,e1]
theorem OpR.clear {m:V}(I:o.op=.call cl)(J:cl.callee=.builtin .clear)(ZH:cl.argTypes = #[t])(ha:lookArgs E cl.args.toList=some [m])
 (ho:∃h₁,clearV C.P h t m=some h₁∧Sat h₁ S'): OpR C E h o fun _ h₁=>Sat h₁ S':=by
 obtain⟨h₁,e1,e2⟩:=ho
 refine OpR.builtin I J ha ⟨.aQ [],h₁,?_,e2⟩<;>grind[builtinV]
section
variable {told:cJ} {to:Nat} {dn:List (Nat×Nat)}
theorem Ko (I:W told)(s:Sat h (pt b (.cells 1 [.int .u64 (to:Int)] false)::S)): Call ⟨Tryz.prog,told⟩ 139 [.agg [.int .u64 (l:Int),.int .i64 (c:Int)],.ptr b 0] h fun v h'=>v=.bool (decide (l>to))∧Sat h' (pt b (.cells 1 [.int .u64 (to:Int)] false)::S):=by
 refine Call.of_wp (I.free _ rfl) Tryz.func139 rfl rfl (zg rfl (au.bD s rfl rfl rfl (dB rfl rfl) ?_))
 intro p2 h s
 refine zk 4 rfl (zY s 0 Xc dL rfl (zy s 1 dL rfl (zo rfl (ay (r:=.bool (decide (l>to))) rfl rfl (fN.trans (by rw[show decide ((l:Int)>(to:Int))=decide (l>to) from by simp]))) ?_)))
 exact zk 2 rfl (WP.ret ⟨aa,_,rfl,rfl,s.drop⟩)
theorem Yd (hT:W told)(hl:dn.length≤1000)(J:∀d∈dn,to<d.1)(s:Sat h (.arr 2 dv (mV dn)::pt b (.cells 1 [.int .u64 (to:Int)] false)::S)):
  Call ⟨Tryz.prog,told⟩ 199 [dv,.fn (.func 139) [] [.ptr b 0]] h fun v h'=>v=.int .i64 (if dn=[] then -1 else 0)∧Sat h' (.arr 2 dv (mV dn)::pt b (.cells 1 [.int .u64 (to:Int)] false)::S):=by
 refine Call.of_wp (hT.free _ rfl) Tryz.func199 rfl rfl (zK 8 rfl (zo rfl (aP rfl rfl rfl (s.fR (n:=dn.length) (j:=0) rfl (kK _) (by decide) lq)) ?_))
 refine zk 2 rfl (WP.block (WP.loop (zg rfl ?_)))
 cases I:dn with
 |nil =>
  refine zC rfl aT (by simp) ?_
  refine zk 3 rfl (WP.exit (zK 4 rfl (WP.ret ⟨aa,_,rfl,?_⟩)))
  subst I
  exact⟨rfl,s⟩
 |cons d l =>
  refine zB rfl aT (by simp) ?_
  obtain⟨AN,off,e1,e2⟩:=s.JX (P:=Tryz.prog) (i:=0) (k:=2) (by rw[kK,I,bz];omega) (by decide) lq tw HO
  rw[I,FY (i:=0) (d:=d) rfl] at e2
  refine zk 5 rfl (WP.block (zK 10 rfl (zo rfl (c8 (r:=.ptr AN off) rfl rfl e1) (zl rfl e2 (zc rfl (Ko hT (s.ae [1])) ?_)))))
  rintro v h ⟨hv,s⟩
  rw[eE (J d (by rw[I];exact bX))] at hv
  subst hv
  exact zk 7 rfl (WP.ret ⟨aa,_,rfl,rfl,by rw[←I];exact s.ae [1]⟩)
noncomputable def dfL : Code:=cU [1,1,1,0,1,0,0] ((Tryz.f138.body).getD .skip)
theorem RX (hT:W told)(hl:dn.length≤1000)(I:∀d∈dn,to<d.1){fv:V}(hf:fv=.fn (.func 139) [] [.ptr b 0]): ∀(j i:Nat) (h:H) (E:List (Nat×V)) (Q:Ex→List (Nat×V)→H→Prop),i+j=dn.length →
  Sat h (.arr 2 dv (mV dn)::pt b (.cells 1 [.int .u64 (to:Int)] false)::S)→Has E [(0,dv),(1,fv),(5,.int .i64 0),(6,.int .i64 (i:Int))] →
  (∀E' h',Has E' [(0,dv),(5,.int .i64 0)]→Sat h' (.arr 2 dv (mV dn)::pt b (.cells 1 [.int .u64 (to:Int)] false)::S)→Q (.exit 0) E' h') →
  WP ⟨Tryz.prog,told⟩ 42 (.loop dfL) E h Q:=by
 subst hf
 intro j
 induction j with
 |zero =>
  intro i h E Q hi s J hq
  refine WP.loop (WP.has J (zK 5 rfl (zo rfl (aP rfl rfl rfl (s.fR (n:=dn.length) (j:=0) rfl (kK _) (by decide) lq)) ?_)))
  refine zC rfl aT (by simp;omega) ?_
  exact zk 2 rfl (WP.exit (hq _ _ ⟨rfl,rfl,aa⟩ s))
 |succ j ih =>
  intro i h E Q hi s J hq
  obtain⟨d,hd⟩:∃d,dn[i]?=some d:=⟨_,bw (by omega)⟩
  obtain⟨AN,off,e1,e2⟩:=s.JX (P:=Tryz.prog) (i:=i) (k:=2) (by rw[kK];omega) (by decide) lq tw HO
  rw[FY hd] at e2
  refine WP.loop (WP.has J (zK 5 rfl (zo rfl (aP rfl rfl rfl (s.fR (n:=dn.length) (j:=0) rfl (kK _) (by decide) lq)) ?_)))
  refine zB rfl aT (by simp;omega) ?_
  refine zk 4 rfl (WP.block (zK 4 rfl (zo rfl (c8 (r:=.ptr AN off) rfl rfl e1) (zl rfl e2 ?_))))
  refine au.bD s rfl rfl rfl (bI DM) (fun p7 h s => ?_)
  dsimp only[V.cells,List.length_cons,List.length_nil,Nat.reduceAdd] at s
  refine zS rfl (s.eS (j:=0) rfl tw rfl rfl) ?_
  intro h s
  dsimp only[setA] at s
  refine zk 4 rfl (zl rfl (s.cV (k:=0) rfl HO tw) (zc rfl (Ko hT (l:=d.1) (c:=d.2) (s.ae [2])) ?_))
  rintro v h ⟨hv,s⟩
  rw[eE (I d (bK hd))] at hv
  subst hv
  refine zo rfl (eU rfl rfl) (zv (zj rfl (WP.skip (zr rfl (zm rfl (zo rfl (ay (r:=.int .i64 ((i+1:Nat):Int)) rfl rfl (by rw[show((i+1:Nat):Int)=(i:Int)+1 by omega];exact bf (aA (by omega) (by omega)))) ?_))))))
  refine za rfl (zv ?_)
  exact ih (i+1) _ _ Q (by omega) ((s.ae [2,0]).del 2) ⟨rfl,rfl,rfl,rfl,aa⟩ hq
theorem Ye (hT:W told)(hl:dn.length≤1000)(J:∀d∈dn,to<d.1)(s:Sat h (.arr 2 dv (mV dn)::pt b (.cells 1 [.int .u64 (to:Int)] false)::S)):
  Call ⟨Tryz.prog,told⟩ 138 [dv,.fn (.func 139) [] [.ptr b 0]] h fun v h'=>v.cells=[v]∧storable v=true∧Sat h' (pt b (.cells 1 [.int .u64 (to:Int)] false)::S):=by
 have hdv:=s.iz (j:=0) rfl
 refine Call.of_wp (hT.free _ rfl) Tryz.func138 rfl rfl (zK 8 rfl (zc rfl (Yd hT hl J s) ?_))
 rintro v h ⟨rfl,s⟩
 by_cases h0:dn=[]
 ·rw[aC h0]
  refine zk 6 rfl (zB rfl dm (by simp) ?_)
  exact zk 7 rfl (WP.ret ⟨aa,_,rfl,hdv.1,hdv.2.1,s.drop⟩)
 ·rw[ak h0]
  have h1:1≤dn.length:=List.length_pos_iff.2 h0
  refine zk 6 rfl (zC rfl dm (by simp) ?_)
  refine zk 7 rfl (zb rfl (by exact bf (aA (by omega) (by omega))) ?_)
  refine zk 2 rfl (WP.block (RX hT hl J rfl (dn.length-1) 1 _ _ _ (by omega) s ⟨rfl,rfl,rfl,rfl,aa⟩ fun E' h' fE s' => ?_))
  have s:=s'
  refine WP.has fE ?_
  have I:1≤(mV dn).length:=by rw[kK];omega
  have am:=s.Tg (j:=0) rfl (II _ _ _)
  have ez:=aaD am
  refine zK 4 rfl (zo rfl (bU (p:=some (.int .i64 0)) (q:=none) (m:=none) (p':=some 0) (q':=none) (m':=none) rfl rfl rfl rfl rfl rfl rfl (He (P:=Tryz.prog) am (by decide) I lq tw).1) ?_)
  refine au.gh rfl rfl (OpR.clear rfl rfl rfl rfl (RW s (fun e=>by rw[e] at I;simp at I) lq DM rfl (by decide))) ?_
  intro _ h s
  refine zk 5 rfl (zo rfl (bU (p:=none) (q:=some (.int .i64 0)) (m:=none) (p':=none) (q':=some 0) (m':=none) rfl rfl rfl rfl rfl rfl rfl (He (P:=Tryz.prog) am (by decide) I lq tw).2) ?_)
  exact zk 2 rfl (WP.ret ⟨aa,_,rfl,ez.1,ez.2,s⟩)
end
structure WT (told:cJ): Prop where
 wr:WR told
 wk:WK told
 rc:told 136=some (iQ Tryz.prog 136 (vR 136))
 und:told 159=some (iQ Tryz.prog 159 (vR 159))
section
variable {told:cJ} {p m:Nat} {cell:List Nat} {cs:List bZ}
theorem Lt (J:W told){g:FuncId}{first cap:List V}{e:Int}(he:e≠7)(hc:Call ⟨Tryz.prog,told⟩ g (first++cap) h R)(hR:∀v h',R v h'→v=.int .i64 e):
  Call ⟨Tryz.prog,told⟩ 137 [.ptr m 0,.fn (.func g) first cap] h R:=by
 refine Call.of_wp (J.free _ rfl) Tryz.func137 rfl rfl (zK 7 rfl (zc rfl (hc) ?_))
 rintro v h' I
 have hr:=I
 obtain rfl:=hR _ _ I
 refine zk 6 rfl (zB rfl aD (by simp;exact he) ?_)
 exact zk 7 rfl (WP.ret ⟨aa,_,rfl,hr⟩)
end
theorem ow (r:bV): szB [r]=r.len:=by simp[szB]
theorem AV : ∀ {L:mL} {i:Nat},L[i]?=some (id,rr,A)→((L.map fun e=>((e.1:Int),e.2.1)).map (·.1)).Nodup→lG (id:Int) (L.map fun e=>((e.1:Int),e.2.1))=(L.eraseIdx i).map fun e=>((e.1:Int),e.2.1):=by
 intro L
 induction L with
 |nil=>intro i h;simp at h
 |cons y L J =>
  intro i h I
  simp only[fu,Bb] at I
  cases i with
  |zero=>simp at h;subst h;simp[lG]
  |succ i =>
   have h:L[i]?=some (id,rr,A):=by simpa using h
   have hm:(id:Int)∈(L.map fun e=>((e.1:Int),e.2.1)).map (·.1):=by
    rw[List.map_map];exact List.mem_map.2 ⟨_,bK h,rfl⟩
   simp only[fu,lG,List.eraseIdx_cons_succ]
   rw[ak (fun e=>I.1 (by rw[e];exact hm)),J h I.2]
section
variable {told:cJ} {p m:Nat} {cell:List Nat}
theorem ic.force {x:Nat}(I:ic N B M ba ck mk rs ε)(hx:x≤ba+szB rs): (bx ε.2 x).1=0∧ic N B M ba ck mk rs (ε.1,(bx ε.2 x).2)∧∀m,pgA (ε.1,(bx ε.2 x).2) m=pgA ε m:=by
 obtain⟨J,h2,h3⟩:=I.ei.force (n:=x)
 refine⟨J,⟨h2,(m_ ba ck mk rs).force _ _ I.lr,by have:=((nR ε.2.2.log.length ε.2.2.room).force ε.2 x ⟨rfl,rfl⟩).2;rw[this];exact I.rm,I.ft,fun e1 e2 e3 => ?_⟩,h3⟩
 subst e1 e2 e3
 obtain⟨g,hg,Vu⟩:=I.ex rfl rfl rfl
 obtain⟨x',mQ,Cg,w1⟩:∃x',bx ε.2 x=(0,x')∧vw (RI 1 Ez nm rs g) (ε.1,x')∧x'.2.waiting=ε.2.2.waiting:=by
  rcases Nat.lt_or_eq_of_le hx with q|rfl
  ·obtain⟨x',J,h2,_,h4,_⟩:=(oW.1 hg.ri).force x q
   exact⟨x',J,oW.2 h2,h4⟩
  ·obtain⟨x',J,h2,_,h4,_⟩:=(oW.1 hg.ri).Ey
   exact⟨x',J,oW.2 h2,h4⟩
 have RY:=(m_ 1 0 [] rs).force ε.2 x hg.lr
 rw[mQ] at RY h3 ⊢
 refine⟨g,⟨RY,Cg,fun n a b=>by rw[h3];exact hg.st n a b,hg.gd⟩,?_⟩
 have:Am.b6 (ε.1,x')=Am.b6 ε:=by unfold Am.b6;rw[w1]
 rw[this];exact Vu
theorem ON (J:W told){x:Nat}{op:V}(I:ic N B M ba ck mk rs ε)(hx:x≤ba+szB rs)(s:Sat h (SA a p q r op data aH ε::S)):
  Call ⟨Tryz.prog,told⟩ 42 [.ptr a 0,.int .u64 (x:Int)] h fun v h'=>v=.int .i64 0∧∃aj,ic N B M ba ck mk rs aj∧(∀m,pgA aj m=pgA ε m)∧Sat h' (SA a p q r op data aH aj::S):=by
 have s:=aM.1 s
 have s:Sat h (dA a p q r op data aH::eo r p q ε.1::bS q p ε.2.1::aO p ε.2.2::S):=s
 have Wa:=I.lr.aU
 obtain⟨h1,h2,h3⟩:=I.force (x:=x) hx
 refine(GS J (n:=x) (s.ae [0,1,1]) I.ei.ok.ok.lg (by omega)).mono ?_
 rintro v h ⟨rfl,s⟩
 have s:Sat h (SA a p q r op data aH (ε.1,(bx ε.2 x).2)::S):=aM.2 (s.ae [0,2,0,0])
 exact⟨by rw[show(ε.2.1,ε.2.2)=ε.2 from rfl,h1],_,h2,h3,s⟩
theorem UM (hT:WT told)(hB:B≤900)(hI:ic N B M ba ck mk rs ε)(u9:ba+szB rs≤1000000)(hN:N≤1024)(nC:id<2097152)(hl:l<2097152)(hf:szB rs+40≤M){kd b0 b2:Nat}(vb:3≤kd)(w8:kd≤4)
 (s:Sat h (pt b0 (.cells 1 [.ptr m 0] false)::pt b1 (.cells 1 [.int .i64 (kd:Int)] false)::pt b2 (.cells 1 [.ptr rr 0] false)::pt m (.cells 4 [.ptr a 0,u,av,.int .u64 (nx:Int)] false)::pt rr (.cells 7 (oD id f l qK mv dv vH) false)::SA a p q r .bq data aH ε::S)):
  Call ⟨Tryz.prog,told⟩ 135 [.ptr b0 0,.ptr b1 0,.ptr b2 0] h fun v h'=>v=.int .i64 0∧∃c' aj,(∀m,pgA aj m=pgA ε m)∧(bV.mk kd id l 0 [] c').len≤40∧ic N (B+2) M ba ck mk (rs++[⟨kd,id,l,0,[],c'⟩]) aj ∧
   Sat h' (pt b0 (.cells 1 [.ptr m 0] false)::pt b1 (.cells 1 [.int .i64 (kd:Int)] false)::pt b2 (.cells 1 [.ptr rr 0] false)::pt m (.cells 4 [.ptr a 0,u,av,.int .u64 (nx:Int)] false)::pt rr (.cells 7 (oD id f l qK mv dv vH) false)::SA a p q r .bq data aH aj::S):=by
 have hW:=hT.wr.w
 refine Call.of_wp (hW.free _ rfl) Tryz.func135 rfl rfl (zK 5 rfl (WP.drawn [af,af,af,af,af,af,af,af,af,af,af,af,af,af,af,af,af] rfl (by kernel_rfl) (by kernel_rfl) ?_))
 refine zL rfl (s.ld (k:=0) rfl ry rfl) (zL rfl (s.ld (k:=1) rfl dJ rfl) (zL rfl (s.ld (k:=2) rfl tv rfl) (zN rfl (zF rfl (L3 _ _) (zL rfl (s.ld (k:=4) rfl dL rfl) (zL rfl (s.ld (k:=2) rfl tv rfl) (zN rfl (zF rfl (wZ _ _) (zL rfl (s.ld (k:=4) rfl dL rfl) (zO rfl (cj (r:=.agg (dx (kd:Int) id l 0 .aY .aY)) rfl (by rw[rV];rfl)) ?_))))))))))
 have s:=s.ae [3,4]
 refine az.any rfl rfl rfl rfl (OpR.call rfl rfl rfl rfl (Call.defer hT.rc Kf rfl (RV hB hI (by omega) hN (show 1≤kd by omega) (by omega) nC hl hf s))) ?_
 rintro v h ⟨c',aj,rfl,I,hlen,J,s⟩
 refine zM rfl (zO rfl (bY rfl rfl) (zO rfl (bY rfl rfl) (zA rfl (zA rfl ?_))))
 refine az.nil ⟨⟨aa,aa,aa,aa,aa,aa,aa,aa,aa,aa,aa,aa,aa,aa,aa,aa,aa,aa⟩,?_⟩
 have s:=s.ae [2,2,2,0,1,0]
 refine zK 4 rfl (zB rfl dm (rfl) (zm rfl (zy s 1 dJ rfl ?_)))
 by_cases hk:kd=3
 ·skip
  refine zB rfl dm (by simp[hk]) ?_
  refine zk 4 rfl (zy s 0 ry rfl (zn rfl (zY s 3 rC o9 rfl (zm rfl (zc rfl (ON hW (x:=ba+szB rs) J (by rw[iI];omega) (s.ae [5])) ?_)))))
  rintro v h ⟨rfl,ki,jE,OO,s⟩
  exact zk 7 rfl (WP.ret ⟨aa,_,rfl,rfl,c',ki,fun m=>by rw[OO,I],hlen,jE,s.ae [1,1,1,1,1,0]⟩)
 ·skip
  refine zC rfl dm (by simp;omega) ?_
  exact zk 9 rfl (WP.ret ⟨aa,_,rfl,rfl,c',aj,I,hlen,J,s⟩)
end
theorem UN {k:Int}{x:α}: ∀ {l:List (Int×α)},(∀e∈l,e.1≠k)→b8 k x l=l++[(k,x)]:=by
 intro l
 induction l with
 |nil=>intro _;rfl
 |cons y l I =>
  intro h
  simp only[b8]
  rw[ak (h y bX),I fun e he=>h e (bW _ he)];rfl
section
variable {told:cJ} {p m:Nat} {cell:List Nat}
theorem vI (hx:L[i]?=some (id,rr,A))(s:Sat h (jv .u64 (fun v (r:Nat)=>.pu (v=.ptr r 0)) av (L.map fun e=>((e.1:Int),e.2.1))::S)):
  dX Tryz.prog h 142 av (.int .u64 (id:Int)) false=some (.ptr rr 0)∧((L.map fun e=>((e.1:Int),e.2.1)).map (·.1)).Nodup:=by
 obtain⟨bk,es,clock,e0,hb,I,_⟩:=eT.1 s
 have J:=Kj hx I
 rcases iE (n:=(id:Int)) (fun _ _=>bg.pu _) s mT bR HN with⟨g1,_⟩|⟨uu,y,g1,g2,g3,s'⟩
 ·rw[J] at g1;cases g1
 ·obtain⟨eu,_⟩:=ej.1 s'
  rw[J] at g1
  obtain rfl:=cg g1
  exact⟨by rw[g3,eu],I⟩
theorem Kp (hT:W told)(qB:nx≤1000000)(J:∀x∈L,x.1<nx)(s:Sat h (fP m a nx u L::S)):
  Call ⟨Tryz.prog,told⟩ 25 [.ptr m 0] h fun v h'=>v=.aQ [.int .u64 (nx:Int),.int .i64 0]∧∃rr,Sat h' (fP m a (nx+1) u (L++[(nx,rr,⟨0,0,0,[],[],[]⟩)])::S):=by
 obtain⟨av,s⟩:=dI.1 s
 refine Call.of_wp (hT.free _ rfl) Tryz.func25 rfl rfl (zK 9 rfl (zY s 0 rD dL rfl (zk 6 rfl (zY s 0 rD dL rfl (zo rfl (ay (r:=.int .u64 ((nx+1:Nat):Int)) rfl rfl (by rw[show((nx+1:Nat):Int)=(nx:Int)+1 by omega];exact bf (eP (by omega) (by omega)))) ?_)))))
 refine zn rfl (zf rfl (rD _ _) ?_)
 refine zS rfl (by exact s.dK (k:=0) rfl kD rfl (by decide) rfl rfl) (fun h s => ?_)
 refine zk 5 rfl (zY s 0 iZ kr rfl (zk 2 rfl ?_))
 refine au.sQ s rfl rfl rfl rfl (fun p22 h s => ?_)
 refine zo rfl (cj rfl (by rw[VK];rfl)) ?_
 refine au.bD s rfl rfl rfl (dB rfl rfl) (fun I h s => ?_)
 refine au.gh rfl rfl (OpR.mapUpdate rfl rfl rfl rfl (lH (n:=(nx:Int)) (f:=fun v (r:Nat)=>.pu (v=.ptr r 0)) (x:=I) (fun _ _=>bg.pu _) ((s.ae [3]).fB rfl) mT bR)) ?_
 intro _ h s
 rw[UN fun e he=>by
  obtain⟨x,hx,rfl⟩:=List.mem_map.1 he
  have:=J x hx
  show(x.1:Int)≠nx
  omega] at s
 have s:=pq (f:=fun v (_:Unit)=>.pu (v=.agg [])) (s.ae [2])
 have s:=(s.kg (k:=2)).kg (k:=1)
 have s:=s.ae [4,0,0,0]
 have s:Sat h (pH I nx ⟨0,0,0,[],[],[]⟩::_):=kn.2 ⟨.aY,.aY,.map p22,s⟩
 have s:=JV (s.ae [0,2])
 have s:=s.ae [2,1,0]
 refine zk 7 rfl (WP.ret ⟨aa,_,rfl,?_⟩)
 refine⟨rfl,I,dI.2 ⟨av,?_⟩⟩
 rw[List.map_append]
 exact s
end
noncomputable def HX : Nat→Option (List V→H→Option (V×H)):=toldP [(76,BQ)] qF
noncomputable abbrev CK : ep:=⟨Tryz.prog,HX⟩
theorem UO : eM CK:=Kn fun x I=>by
 rw[List.mem_singleton.1 I]
 exact⟨_,Eo,rfl,by decide⟩
theorem Kq : WK HX:=by
 refine⟨M4 fun x I => ?_,?_⟩
 ·rw[List.mem_singleton.1 I]
  exact⟨by decide,by decide,by decide⟩
 ·simp only[HX,toldP,sO rfl,ah]
section
variable {p m:Nat} {cell:List Nat}
set_option maxHeartbeats 1000000 in
theorem aaE (hB:B≤900)(hI:ic N B M ba ck mk rs ε)(Kk:1≤ba)(u9:ba+szB rs≤1000000)(hN:N≤1024)(iO:xn L)(hx:L[j]?=some (id,rr,A))(nC:id<2097152)(vV:A.jl<2097152)(GG:A.dn.length≤1000)
 (I:szB rs+7300+r6 L≤M)(hM:M≤16777216)(hp:oC N n k cell (pgA ε))(hi:i<n)(hn:n≤50)(hd:IntKind.wrap .u64 d=(dn:Int))(sX:dn<18446744073709551616)
 (s:Sat h (pt c (.cells 2 [.ptr m 0,.int .i64 (n:Int)] false)::fP m a nx u L::SA a p q r .bq data aH ε::S)):
  ∃v h2,(∃N0,∀n,N0≤n→toldDefer CK n 26 [.ptr c 0,.int .u64 (id:Int),.int .i64 (i:Int),.int .i64 d] h=some (v,h2))∧∃c' cost aj,v=.int .i64 0∧oC N n k (vT cell i ((kj cell i+dn)%18446744073709551616)) (pgA aj) ∧
   (bV.mk 1 id A.jl 0 (i::le 8 dn) c').len≤560∧cost≤1656∧ic N (B+2) M ba ck mk (rs++[⟨1,id,A.jl,0,i::le 8 dn,c'⟩]) aj ∧
   Sat h2 (pt c (.cells 2 [.ptr m 0,.int .i64 (n:Int)] false)::fP m a nx u (L.set j (id,rr,A.more (ba+szB rs) cost [(k:Int)]))::SA a p q r .bq data aH aj::S):=by
 have hT:=Kq.w
 have jO:=hp.len
 obtain⟨av,s⟩:=dI.1 (s.ae [1])
 dsimp only[aE,bringA] at s
 obtain⟨gE,_⟩:=vI hx (s.ae [1])
 refine toldDefer_do (C:=CK) Kg rfl rfl (of_decide_eq_true (by kernel_rfl)) ?_
 refine WPd.seq (WPd.of_wp rfl (zr rfl (za rfl (zv (WPd.seq (WPd.of_wp rfl (WP.block (zg rfl (zk 2 rfl (zf rfl (rz _ _) (zl rfl (by exact s.ld (k:=3) rfl ry rfl) ?_)))))))))))
 refine zn rfl (zY s 0 iZ kr rfl (zm rfl (zo rfl (fQ rfl rfl gE) (zC rfl (qH xu) (rfl) (zk 6 rfl (zC rfl aT (by simp) ?_))))))
 refine zk 4 rfl (zY s 3 wY dJ rfl (zC rfl jg (by simp;omega) ?_))
 refine zk 2 rfl (zv (zj rfl (WP.skip (WPd.seq (WPd.of_wp rfl (zr rfl (zk 2 rfl (zf rfl (rz _ _) (zl rfl (by exact s.ld (k:=3) rfl ry rfl) ?_)))))))))
 refine zn rfl (zY s 0 rC o9 rfl ?_)
 have s:=aM.1 (s.ae [4])
 dsimp only[aE,bringA,List.cons_append,List.nil_append] at s
 refine zc rfl (sF hT s) ?_
 rintro v h ⟨g,rfl,s⟩
 have s:Sat h (GA g a p q r data aH [] ε::_):=aM.2 s
 refine zk 5 rfl (zv (WPd.seq (WPd.seq (WPd.of_wp rfl (zr rfl (zm rfl (zh rfl (ay rfl rfl aD) (rfl) (zv (WPd.of_wp rfl (zj rfl (WP.skip (WPd.seq (WPd.defer rfl rfl rfl rfl rfl rfl rfl rfl rfl rfl rfl rfl (WPd.seq (WPd.seq (WPd.of_wp rfl (zr rfl (zk 4 rfl ?_))))))))))))))))))
 have uw:oC N n k cell (pgG [] ε):=hp.ada fun _=>rfl
 refine zc rfl (Ug hT (by omega) hI.ei (NW.nil N) uw (by omega) hd sX s) ?_
 rintro v h ⟨qP,b',rfl,oB,g_,wO,pQ,s⟩
 have Km:=hI.sm oB g_
 have JB:=uw.put g_ pQ (JS jO (by omega))
 refine za rfl (zv (WPd.seq (WPd.of_wp rfl (zr rfl (zm rfl (zh rfl (ay rfl rfl aD) (rfl) ?_))))))
 have wL:∀h,convV Tryz.prog h 2 32 (.int .i64 d)=some (.int .u64 (dn:Int),h):=fun h=>by simp only[convV,En,bR,hd]
 have s0:=s
 refine zv (WPd.of_wp rfl (zj rfl (WP.skip (WPd.seq (WPd.of_wp rfl (WP.drawn [some (0,3),some (0,3),some (0,3),some (0,3),some (0,3),some (0,3),af,af,af,some (0,2),some (0,2),af,af,af] rfl (by kernel_rfl) (by kernel_rfl) ?_))))))
 refine zM rfl (zN rfl (zF rfl (rz _ _) (zL rfl (s.ld (k:=4) rfl ry rfl) (zM rfl (zM rfl (zM rfl (az.op rfl rfl rfl (by simp only[isEff,Tryz.underlying5]) (bT rfl (by exact gL br Tryz.underlying5 (uC (by omega) (by omega)))) ?_)))))))
 refine az.any rfl rfl rfl rfl (OpR.HR (n:=i) rfl s rfl rfl rfl (by omega)) ?_
 intro bv h s
 have s1:=s
 refine zM rfl (az.op rfl rfl rfl (by simp only[isEff,bR]) (bT (r:=.int .u64 (dn:Int)) rfl (wL _)) ?_)
 refine az.any rfl rfl rfl rfl (OpR.call rfl rfl rfl rfl (xb (z:=8) (n:=dn) hT s (by decide) (by simp))) ?_
 intro bv h s
 have s2:=s
 have s:=s.ae [2,2,2]
 have s:=dI.2 ⟨av,s⟩
 have s:=s.ae [0,1,0]
 refine az.any rfl rfl rfl rfl (OpR.call rfl rfl rfl rfl (Kl Kq (by omega) Km Kk u9 hN iO hx rfl wO nC vV (show([i]++le 8 dn).length≤9 by simp[cO]) GG I hM s (aN _ _))) ?_
 rintro v h ⟨c',cost,aj,aF,rfl,rfl,gP,hlen,J,mO,s⟩
 refine zA rfl ?_
 refine az.nil ⟨⟨fun _ _=>.inr ⟨rfl,⟨_,bn rfl⟩,aS _ rfl⟩,fun _ _=>.inr ⟨rfl,⟨_,kT rfl⟩,aS _ rfl⟩,fun _ _=>.inr ⟨rfl,⟨_,jH rfl (rz _ _)⟩,aS _ rfl⟩,sA (.inr ⟨rfl,⟨_,o_load rfl (s0.ld (k:=4) rfl ry rfl)⟩,aS _ rfl⟩) (.inr ⟨rfl,⟨_,o_load rfl (s1.ld (k:=5) rfl ry rfl)⟩,aS _ rfl⟩) (.inr ⟨rfl,⟨_,o_load rfl (s2.ld (k:=5) rfl ry rfl)⟩,aS _ rfl⟩),fun _ _=>.inr ⟨rfl,⟨_,bn rfl⟩,aS _ rfl⟩,fun _ _=>.inr ⟨rfl,⟨_,bn rfl⟩,aS _ rfl⟩,aa,aa,aa,fun _ _=>.inr ⟨rfl,⟨_,bn rfl⟩,aS _ rfl⟩,fun _ _=>.inr ⟨rfl,⟨_,bT (r:=.int .u64 (dn:Int)) rfl (wL _)⟩,aS _ rfl⟩,aa,aa,aa,aa⟩,?_⟩
 refine WPd.of_wp rfl (WP.ret ?_)
 have s:=aM.1 (s.ae [2])
 have s:=s.ae [5,0]
 obtain⟨v2,h2,pS,rfl,s⟩:=tD hT s
 have s:=s.ae [1,1,1,1]
 have s:Sat h2 (SA a p q r .bq data aH aj::_):=aM.2 s
 have UP:HX 59=none:=hT.free _ rfl
 exact⟨aa,h2,_,rZ (C:=CK) UP Au rfl rfl pS,nG rfl,c',cost,aj,rfl,JB.done wO gP,hlen,J,mO,((s.ae [4,2,0]).del 4 |>.del 3)⟩
end
section
variable {p:Nat}
set_option maxHeartbeats 1000000 in
theorem UQ (hB:B≤800)(hI:ic N B M ba ck mk rs ε)(u9:ba+szB rs≤1000000)(hN:4≤N)(hN2:N≤1000)(hs:kB N (List.replicate 64 0) AK (pgA ε))(vo:1≤n)(hn:n≤50)(hf:szB rs+2120≤M)
 (s:Sat h (pt c (.cells 2 [.bq,.int .i64 (n:Int)] false)::SA a p q r .bq data aH ε::S)):
  ∃v h2,(∃N0,∀n,N0≤n→toldDefer CB n 80 [.ptr c 0,.ptr a 0] h=some (v,h2))∧∃c' aj,v=.int .i64 0∧oC N n 2 (List.replicate 400 0) (pgA aj) ∧
   (bV.mk 1 0 0 0 [] c').len≤2120∧ic N (B+2) M ba ck mk (rs++[⟨1,0,0,0,[],c'⟩]) aj∧Sat h2 (pt c (.cells 2 [.bq,.int .i64 (n:Int)] false)::SA a p q r .bq data aH aj::S):=by
 have J:=W.base
 have DZ:(List.replicate 64 0).length=64:=eY
 obtain⟨ex,uw⟩:=hs.head
 have UR:(List.replicate 400 0).length=400:=eY
 have Av:(dF (List.replicate 64 0) (4*(0:Int).toNat) 4:Nat)=0:=by decide +kernel
 have aaF:dF (AM (List.replicate 64 0) 0 2) 0 4=2:=by decide +kernel
 have AL:∀j,bt AK j=decide (j<2):=fun j=>Rj
 refine toldDefer_do (C:=CB) Kh rfl rfl (of_decide_eq_true (by kernel_rfl)) ?_
 generalize List.replicate 64 0=R at hs DZ uw Av aaF
 generalize AK=M0 at hs AL
 generalize hZ:List.replicate 400 0=Z at UR
 have s:=s.ae [1]
 dsimp only[bringA,getA,aE] at s
 refine WPd.seq (WPd.of_wp rfl (zr rfl (za rfl (zv (WPd.seq (WPd.of_wp rfl (zr rfl (zm rfl (zo rfl (rU rfl (mki_of uQ rfl)) (zc rfl (MJ (i:=0) J (Oj J (by omega)) hI.ei (by omega) uw DZ (by decide) (by decide) s) ?_))))))))))
 rintro v h ⟨qP,rfl,oB,g_,s⟩
 rw[aC (by decide),Av]
 have Km:=hI.sm oB g_
 refine zk 5 rfl (zv (WPd.seq (WPd.seq (WPd.of_wp rfl (zr rfl (zm rfl (zh rfl (ay rfl rfl aD) (rfl) (zv (WPd.of_wp rfl (zj rfl (WP.skip (WPd.seq (WPd.seq (WPd.of_wp rfl (zr rfl (zm rfl (zh rfl (ay rfl rfl aD) (rfl) (zv (WPd.of_wp rfl (zj rfl (WP.skip (WPd.seq (WPd.of_wp rfl (zr rfl (zm rfl ?_)))))))))))))))))))))))))
 have s:=aM.1 s
 dsimp only[List.cons_append,List.nil_append] at s
 refine zc rfl (sF J s) ?_
 rintro v h ⟨g,rfl,s⟩
 have s:Sat h (GA g a p q r data aH [] qP::_):=aM.2 s
 refine zk 5 rfl (zv (WPd.seq (WPd.seq (WPd.of_wp rfl (zr rfl (zm rfl (zh rfl (ay rfl rfl aD) (rfl) (zv (WPd.of_wp rfl (zj rfl (WP.skip (WPd.seq (WPd.defer rfl rfl rfl rfl rfl rfl rfl rfl rfl rfl rfl rfl (WPd.seq (WPd.seq (WPd.of_wp rfl (zr rfl (za rfl (zv (WPd.of_wp rfl (WP.block (WP.loop (zw (zg rfl (zm rfl (zb rfl (by exact jf (aA (by omega) (by omega))) ?_))))))))))))))))))))))))))
 refine zk 2 rfl (zY s 1 wY dJ rfl (zB rfl aT (by simp;omega) ?_))
 refine zv (zi rfl (WP.skip (zw (WP.block (zg rfl (zm rfl ?_))))))
 have hsG:kB N R M0 (pgG [] qP):=by rw[show pgG [] qP=pgA ε from funext fun m=>g_.1 m];exact hs
 refine zc rfl (Q_ (lo:=2) J (by omega) oB (NW.nil N) hsG (by omega) (by rw[AL];decide) (fun j hj=>by rw[AL];exact eE hj) s) ?_
 rintro v h ⟨ki,I,rfl,uX,qU,uY,yS,Mx,_,_,_,s⟩
 refine zk 10 rfl (zC rfl aD (rfl) (zk 5 rfl (zc rfl (Jw (kd:=205) J s (by decide)) ?_)))
 rintro v h ⟨u1,b1,rfl,sj,s⟩
 refine zk 11 rfl (zY s 2 wY dJ rfl (zc rfl (ME (lk:=0) (ex:=n) J s (aN _ _) sj (by decide) (by omega)) ?_))
 rintro v h ⟨u2,b2,rfl,zE,s⟩
 refine zk 8 rfl (au.any rfl rfl rfl (OpR.nm rfl s rfl rfl rfl rfl (by decide)) ?_)
 intro bv0 h s
 rw[hZ] at s
 have s:=s.ae [1,0]
 dsimp only[bringA,getA,aE] at s
 have fG:26+4*(([]:List (List Nat)).length+1)+(tot []+Z.length)≤512:=by rw[UR];decide
 refine zc rfl (MG (cs:=[]) (c:=Z) J s (aN _ _) (aN _ _) zE fG) ?_
 rintro v h ⟨u3,b3,rfl,YU,s⟩
 refine zk 11 rfl ?_
 have s:=s.ae [4,0]
 dsimp only[bringA,getA,aE] at s
 refine zc rfl (BO (i:=2) J (by omega) uX uY (by omega) s (aN _ _) YU) ?_
 rintro v h ⟨uZ,rfl,sY,nQ,qn,s⟩
 have e3:∀m:Int,m≠2→pgG (b8 ((2:Nat):Int) b3 I) uZ m=pgG I ki m:=fun m hm=>by rw[iG,ak (show ¬ ((2:Nat):Int)=m by omega),Ek nQ]
 have hp3:kB N R (Ej M0 2) (pgG (b8 ((2:Nat):Int) b3 I) uZ):=Mx.roots (e3 1 (by decide)) (by rw[e3 0 (by decide)];exact Mx.head) Mx.rl
 refine zk 5 rfl (zC rfl aD (rfl) (zk 8 rfl (zc rfl (On (i:=0) (z:=2) J (by omega) sY qn hp3 s) ?_)))
 rintro v h ⟨T8,US,aag,hs4,J1,hn4,s,Er⟩
 rcases Er with⟨B2,_⟩|⟨_,_,_,_,rfl,hp4,ho4⟩
 ·exact absurd ⟨by decide,by decide,by decide,by omega⟩ B2
 have ED:=Km.sm aag ((qU.trans nQ).trans hs4)
 have adp:pgG US T8 2=b3:=by rw[ho4 2 (by decide),iG,aC (show((2:Nat):Int)=2 from rfl)]
 have hl4:US.length≤4:=by
  have:=pG (i:=((2:Nat):Int)) (b:=b3) (now:=I)
  have yS:I.length≤2:=yS
  omega
 have hct:oC N n 2 Z (pgG US T8):=⟨⟨_,_,hp4,aaF⟩,by decide,by omega,by rw[show((2:Nat):Int)=2 from rfl,adp];exact YU,UR⟩
 refine za rfl (zv (zg rfl (zm rfl (zh rfl (ay rfl rfl aD) (rfl) (zv (zj rfl (WP.skip (zr rfl (zm rfl (zb rfl (by exact bf (aA (by omega) (by omega))) ?_))))))))))
 refine zk 2 rfl (WP.loop (zK 4 rfl (zb rfl (by exact jf (aA (by omega) (by omega))) ?_)))
 refine zk 2 rfl (zY s 5 wY dJ rfl (zC rfl aT (by simp;omega) ?_))
 refine zk 2 rfl (WP.exit (WPd.seq (WPd.of_wp rfl (zK 2 rfl (zo rfl (cj rfl (El (kd:=1))) ?_)))))
 have s:=s.uE.ae [1]
 dsimp only[bringA,getA,aE] at s
 refine zc rfl (AU (kd:=1) (l:=4) J (by omega) ED (by omega) J1 hl4 (by omega) (by omega) (by decide) (by decide) (by decide) (by decide) (by decide) (by decide) (by omega) s (aN _ _)) ?_
 rintro v h ⟨c',aj,aF,rfl,rfl,gP,hlen,mO,s⟩
 refine zk 4 rfl (zv (WPd.seq (WPd.of_wp rfl (zr rfl (zk 2 rfl (zv (WPd.of_wp rfl (WP.ret ?_))))))))
 have s:=aM.1 (s.ae [1])
 have s:=s.ae [4,0]
 obtain⟨v2,h2,pS,rfl,s⟩:=tD J s
 have s:=s.ae [1,1,1,1]
 have s:Sat h2 (SA a p q r .bq data aH aj::_):=aM.2 s
 have UP:qF 59=none:=J.free _ rfl
 have s:=s.ae [7,0]
 exact⟨aa,h2,_,rZ (C:=CB) UP Au rfl rfl pS,nG rfl,c',aj,rfl,hct.done J1 gP,hlen,mO,(s.del 7 |>.del 6 |>.del 5 |>.del 4 |>.del 3 |>.del 2)⟩
end
end Go.Proofs.YtiojppeahfoiaaaGreat.Am
namespace Go.Proofs.YtiojppeahfoiaaaGreat.Am
open Go Go.RowKit
variable {L:mL} {X:aI} {C:ep} {lT:Code} {c':Ctx} {ε aj:bA} {env:Env} {fn:Func} {cl:Go.Call} {h σ:H} {d x0 x1 x2:Int} {da db:List (Int×Int×Int×Int)} {now:List (Int×List Nat)} {l1 l2:List (Nat×Nat)} {E E2:List (Nat×V)} {S S':List aI} {ks:List Int} {data fI mk want mix:List Nat} {rs cy ey:List bV} {args cs:List V} {i id rr n N B c k tx pv M ba ck g a q r aH nx sK f l aF b dn qK b1 j it bk clock oX p2 r1 r2 off fuel:Nat} {fz:Nat×Nat} {o:Oper} {x:Operand} {P:Program} {A A1 A2:mU} {α H':Type} {e t:TypeId} {dv u dt kv mv av z vH y bv ka kb wv nn cv:V} {R:V→H→Prop} {w':World}
def rangeParts : Code→Option (Code×Code×Nat×Operand×Array Tmp×Code×Code×Code)
 |.seq a (.seq (.seq b (.block id (.rangeFunc x ps lT bd))) t)=>some (a,b,id,x,ps,lT,bd,t)
 |_=>none
noncomputable def toldRange (C:ep)(n:Nat)(f:FuncId)(args:List V)(h:H): Option (V×H):=match C.P.funcs[f]? with
 |none=>none
 |some fn=>match fn.body with
  |none=>none
  |some code=>cond (Nat.blt fn.ntmps args.length) none (match rangeParts code with
   |none=>none
   |some (a,b,_,x,ps,lT,bd,t)=>match ev C n a ⟨bindArgs args 0 .lf,fn.ntmps,h⟩ with
    |some (.normal,SJ)=>match ev C n b SJ with
     |some (.normal,I)=>match evO I.env x with
      |some (.fn (.func g) [] cap)=>match callF C (ev C n) g (.yY I.h.next::cap) (I.h.new (.loop false I.ax I.env ps.toList lT bd)) with
       |some (_,J)=>match T.get J.tr I.h.next with
        |some (.loop false _ _ _ _ _)=>match ev C n t ⟨I.env,I.ax,J.put I.h.next none⟩ with
         |some (.normal,s)|some (.ret,s)=>match mapO (resV C.P s) fn.results.toList with
          |some [v]=>some (v,s.h)
          |some vs=>some (.aQ vs,s.h)
          |none=>none
         |_=>none
        |some .Fa=>match mapO (resV C.P ⟨I.env,I.ax,J.put I.h.next none⟩) fn.results.toList with
         |some [v]=>some (v,J.put I.h.next none)
         |some vs=>some (.aQ vs,J.put I.h.next none)
         |none=>none
        |_=>none
       |none=>none
      |_=>none
     |_=>none
    |_=>none)
section
variable {c:Ctx} {w:World}
theorem Rel.other {o:Go.Obj}(h:Rel c σ w)(hb:∀id,id<c.N→(c.ρ id).1≠b): Rel c σ (w.putObj b o):=by
 have get:∀i,(w.putObj b o).heap[i]?=if b=i∧b<w.heap.size then some o else w.heap[i]?:=fun i=>by
  simp only[World.putObj,A0]
  by_cases J:b=i
  ·subst J
   by_cases I:b<w.heap.size
   ·simp[I]
   ·simp[I,Array.getElem?_eq_none (wm I)]
  ·simp[J]
 have same:∀id,id<c.N→(w.putObj b o).heap[(c.ρ id).1]?=w.heap[(c.ρ id).1]?:=fun id hi=>by
  rw[get]
  simp[l9 (hb id hi)]
 have rows:∀id,id<c.N→rowSize (w.putObj b o) (c.ρ id).1=rowSize w (c.ρ id).1:=fun id hi=>by unfold rowSize;rw[same id hi]
 exact⟨h.next,h.live,fun id hi=>by simpa[World.putObj] using h.lP id hi,fun id hi=>by rw[rows id hi];exact h.zz id hi,h.inj,
  fun id o ho=>(h.obj id o ho).later (Ext.refl c) (h.live id o ho) (same id (h.live id o ho)),h.one,h.fx⟩
theorem Rel.endLoop {o:Obj}{r aeM:Loop}(h:Rel c σ w)(hg:σ.tr.get id=some o)(ho:∀n cs,o≠.cells n cs true)(hb:w.heap[(c.ρ id).1]?=some (.loop aeM)):
  Rel c (σ.put id none) (w.putObj (c.ρ id).1 (.loop r))∧cC c w c (w.putObj (c.ρ id).1 (.loop r)):=by
 have cH:(c.ρ id).1<w.heap.size:=(Array.getElem?_eq_some_iff.1 hb).1
 have get:∀i,(w.putObj (c.ρ id).1 (.loop r)).heap[i]?=if (c.ρ id).1=i then some (.loop r) else w.heap[i]?:=fun i=>by
  simp only[World.putObj,A0,cH,cQ]
 have rows:∀i,rowSize (w.putObj (c.ρ id).1 (.loop r)) i=rowSize w i:=fun i=>by
  unfold rowSize
  rw[get]
  by_cases hi:(c.ρ id).1=i
  ·subst hi;simp[hb]
  ·simp[hi]
 have I:=h.kill id
 have hX:=h.Fe hg ho
 refine⟨⟨I.next,I.live,fun j hj=>by simpa[World.putObj] using I.lP j hj,fun j hj=>by rw[rows];exact I.zz j hj,I.inj,fun j o hj => ?_,I.one,I.fx⟩,
  ⟨Ext.refl c,by simp[World.putObj],fun b _=>rows b,fun b _ hn => ?_,fun j h1 h2=>by omega,rfl,rfl⟩⟩
 ·refine(I.obj j o hj).later (Ext.refl c) (I.live j o hj) ?_
  have J:=hj
  rw[dN] at J
  by_cases yP:j=id
  ·simp[yP] at J
  ·simp[yP] at J
   have mP:(c.ρ id).1≠(c.ρ j).1:=fun he=>yP (h.Cy J hg he.symm hX)
   rw[get]
   simp[mP]
 ·rw[get]
  have:(c.ρ id).1≠b:=fun he=>by have:=hn id (h.live id _ hg) he;rw[hX] at this;cases this
  simp[this]
theorem cC.M5 (h:cC c w c' w')(I:b<w.heap.size)(J:∀id,id<c.N→(c.ρ id).1≠b): (∀id,id<c'.N→(c'.ρ id).1≠b)∧w'.heap[b]?=w.heap[b]?:=by
 refine⟨fun id hi he => ?_,h.lD b I fun id hi he=>absurd he (J id hi)⟩
 by_cases h1:id<c.N
 ·rw[h.ext.ρ id h1] at he;exact J id h1 he
 ·rcases h.fresh id (by omega) hi with h2|⟨j,hj,h2,_⟩
  ·omega
  ·exact J j hj (by rw[h2,he])
theorem cC.aaG {o:Go.Obj}(h:cC c w c' w')(J:w.heap.size≤b): cC c w c' (w'.putObj b o):=by
 have get:∀i,i<w.heap.size→(w'.putObj b o).heap[i]?=w'.heap[i]?:=fun i hi=>World.putObj_heap_other (by omega)
 exact⟨h.ext,by simpa[World.putObj] using h.size,fun i hi=>by rw[←h.rows i hi];unfold rowSize;rw[get i hi],fun i hi I=>by rw[get i hi];exact h.lD i hi I,h.fresh,h.sys⟩
end
section
variable {c:Ctx} {w:World}
theorem dG.defers {a:Act}(h:dG c env n a)(ds:List Deferred): dG c env n { a with defers:=ds }:=⟨h.size,h.val,h.sg⟩
set_option maxHeartbeats 1000000 in
theorem Kr (hm:C.P.follows .mixedOrders=true)(hT:eM C){f:FuncId}{v:V}{dz:H}(hr:toldRange C n f args σ=some (v,dz))(h:Rel c σ w)(hw:∀x∈args,wf c x):
  fe C.P f args c w v dz:=by
 have hS:=(zU (C:=C) hm hT n).1
 unfold toldRange at hr
 split at hr
 ·cases hr
 ·rename_i fn hf
  split at hr
  ·cases hr
  ·rename_i code hb
   cases hq:Nat.blt fn.ntmps args.length with
   |true=>rw[hq] at hr;cases hr
   |false =>
    rw[hq,aX] at hr
    have hle:args.length≤fn.ntmps:=by
     rcases tN fn.ntmps args.length with h'|h'
     ·rw[ig.2 h'] at hq;cases hq
     ·exact h'
    have uo:=jt (c:=c) hle hw
    split at hr
    ·cases hr
    ·rename_i pa pb pid px pps lT pbd pt xq
     have abZ:code=.seq pa (.seq (.seq pb (.block pid (.rangeFunc px pps lT pbd))) pt):=by
      unfold rangeParts at xq
      split at xq
      ·simp only[aB,bC] at xq
       obtain⟨rfl,rfl,rfl,rfl,rfl,rfl,rfl,rfl⟩:=xq
       rfl
      ·cases xq
     split at hr
     ·rename_i SJ Vk
      split at hr
      ·rename_i J Pn
       split at hr
       ·rename_i g cap hx
        split at hr
        ·rename_i y Dy NG
         ·-- whatever the loop was left by
          have tail:∀o s,T.get Dy.tr J.h.next=some o→(∀n cs,o≠.cells n cs true) →
            (∀(CY:Ctx) (Ov:World),xy CY Ov J.h.next o→∃rr:Loop,Ov.heap[(CY.ρ J.h.next).1]?=some (.loop rr)∧rr.state≠.busy∧((rr.pending=none∧∃ex,ev C n pt ⟨J.env,J.ax,Dy.put J.h.next none⟩=some (ex,s)∧(ex=.normal∨ex=.ret))∨(rr.pending=some .ret∧s=⟨J.env,J.ax,Dy.put J.h.next none⟩))) →
            (match mapO (resV C.P s) fn.results.toList with
             |some [v]=>some (v,s.h)
             |some vs=>some (.aQ vs,s.h)
             |none=>none)=some (v,dz)→fe C.P f args c w v dz:=by
           intro o s Hf ad7 uL wN
           unfold fe
           refine(callsIn_wide (n:=0)).1 (callsIn_of_wp_marks (F:=Fence.wide) hf hb aa ?_ rfl)
           rw[abZ]
           refine wpIn_seq (wpIn_mono (hS pa _ .normal SJ Vk none c _ w h uo) ?_)
           rintro e BW sn ⟨rfl,Po,c₁,Ih,uq,nu⟩
           refine wpIn_seq (wpIn_seq (wpIn_mono (hS pb _ .normal J Pn none c₁ BW sn Ih uq) ?_))
           rintro e Hr I ⟨rfl,YR,c₂,Ii,Di,F_⟩
           have aaH:Hr.defers=[]:=by rw[YR,Po]
           obtain⟨Wf,su⟩:=wF Di hx
           have Fi:∀z∈cap,wf c₂ z:=by
            have:fL c₂ []∧fL c₂ cap:=by simpa[wf] using su
            exact iC.1 this.2
           have hN:J.h.next=c₂.N:=Ii.next
           -- the two blocks of the loop
           obtain⟨rA,eS⟩:=Ii.below (w':=I.alloc (.deferred (some []))) ((Below.refl _ I).alloc (aV _) _)
           have hDA:(I.alloc (.deferred (some []))).heap[I.heap.size]?=some (.deferred (some [])):=World.alloc_heap_new I _
           have adq:∀id,id<c₂.N→(c₂.ρ id).1≠I.heap.size:=fun id hi he=>absurd (Ii.lP id hi) (by omega)
           refine wpIn_block (wpIn_rangeFunc (fun fn' _ => ?_))
           obtain⟨O,hO⟩:∃O:Go.Obj,O=.loop { state:=.ready,pending:=none,fn:=fn',tmps:=Hr.tmps,params:=pps,assign:=lT,body:=pbd,defers:=I.heap.size }:=⟨_,rfl⟩
           have ads:(I.alloc (.deferred (some []))).heap.size=I.heap.size+1:=World.size_alloc _ _
           have YG:objSize O=0:=by rw[hO];rfl
           have eG:=Cz rA 0 (objSize O)
           obtain⟨rB,stB⟩:=rA.new (.loop false J.ax J.env pps.toList lT pbd) O 0 rfl (by
            refine⟨fn',Hr.tmps,I.heap.size,?_,Di.size,fun t => ?_,fun t=>(cu eG _ (Di.sg t)).2⟩
            ·rw[bG,hO]
             exact World.alloc_heap_new _ _
            ·rw[Di.val t,(cu eG _ (Di.sg t)).1])
           obtain⟨cB,hcB⟩:∃cB,cB=c₂.grow (I.alloc (.deferred (some []))).heap.size 0 (objSize O):=⟨_,rfl⟩
           rw[←hcB] at rB stB eG
           have aaI:cB.ρ c₂.N=(I.heap.size+1,0):=by rw[hcB,bG,ads]
           have hNB:cB.N=c₂.N+1:=by rw[hcB];rfl
           obtain⟨kc,ken⟩:=callF_ok hS.wide hT NG rB (by
            intro z hz
            rcases List.mem_cons.1 hz with rfl|hz
            ·simp only[wf];omega
            ·exact(cu eG _ (Fi z hz)).2)
           refine⟨I.heap.size+1,[{ target:=.collected I.heap.size,args := #[] }],(I.alloc (.deferred (some []))).alloc O,{ target:=.fn (.func g) (cap.map (conc c₂)).toArray,args := #[.func (.yield (I.heap.size+1)) #[] #[]] },(I.alloc (.deferred (some []))).alloc O,g,
            #[.func (.yield (I.heap.size+1)) #[] #[]]++(cap.map (conc c₂)).toArray,(I.alloc (.deferred (some []))).alloc O,?_,?_,fun _ _=>trivial,?_,?_,?_⟩
           ·rw[hO];exact run_enterLoop_outer _ _ _ _ _
           ·have ni:Hr.eval px=.func (.func g) #[] (cap.map (conc c₂)).toArray:=by rw[Wf];simp[conc,fK]
            simp only[resolve,rangeCall,ni]
            simp[go_sem,Act.eval]
           ·simp[invoke,go_sem,ken]
           ·intro hd;exact absurd hd (by decide)
           ·have Bp:((V.yY J.h.next::cap).map (conc cB)).toArray = #[.func (.yield (I.heap.size+1)) #[] #[]]++(cap.map (conc c₂)).toArray:=by
             apply Array.ext'
             simp only[fu,conc,hN,aaI,(mc eG Fi).1]
             simp
            unfold fe at kc
            rw[Bp] at kc
            refine Ig (r:=none) (Calls.mono kc ?_)
            rintro e Ov ⟨CY,rfl,_,XX,aaJ⟩
            rw[hN] at Hf
            have aeN:c₂.N<CY.N:=XX.live _ _ Hf
            have ad8:CY.ρ c₂.N=(I.heap.size+1,0):=by rw[aaJ.ext.ρ c₂.N (by omega),aaI]
            rw[hN] at uL
            obtain⟨rr,RZ,hnb,hpd⟩:=uL CY Ov (XX.obj c₂.N _ Hf)
            obtain⟨ab0,aaK⟩:=XX.endLoop (r:={ rr with state:=.exhausted }) Hf ad7 RZ
            rw[ad8] at RZ ab0 aaK
            refine⟨rr.pending,_,run_endLoop RZ hnb,?_⟩
            obtain⟨R4,aaL⟩:∃R4,R4=Ov.putObj (I.heap.size+1) (.loop { rr with state:=.exhausted }):=⟨_,rfl⟩
            rw[←aaL] at ab0 aaK
            -- all of it so far, pas one step
            have Wq:cC c₂ I CY R4:=((eS.trans stB).trans aaJ).trans aaK
            -- the block for the rounds' deferred calls
            have nB:∀id,id<cB.N→(cB.ρ id).1≠I.heap.size:=fun id hi=>by
             by_cases h1:id<c₂.N
             ·rw[eG.ρ id h1];exact adq id h1
             ·have:id=c₂.N:=by omega
              rw[this,aaI];simp
            have hDB:((I.alloc (.deferred (some []))).alloc O).heap[I.heap.size]?=some (.deferred (some [])):=by
             rw[g9,ak (by omega)];exact hDA
            have adt:I.heap.size<((I.alloc (.deferred (some []))).alloc O).heap.size:=(Array.getElem?_eq_some_iff.1 hDB).1
            obtain⟨aeO,aeP⟩:=aaJ.M5 adt nB
            have ad9:Ov.heap[I.heap.size]?=some (.deferred (some [])):=aeP.trans hDB
            have aci:R4.heap[I.heap.size]?=some (.deferred (some [])):=by rw[aaL];exact(World.putObj_heap_other (by omega)).trans ad9
            have abM:dG CY J.env J.ax { Hr with defers:=[{ target:=.collected I.heap.size,args := #[] }]++Hr.defers }:=(Di.ext Wq.ext).defers _
            have fin:∀(OP:Ctx) (UT:Act) (OQ:World),Rel OP s.h OQ→dG OP s.env s.ax UT→cC CY R4 OP OQ→UT.defers=[{ target:=.collected I.heap.size,args := #[] }] →
              LeavesInM Fence.wide 0 C.P fn UT.tmps (fun e w'=>∃c',e=.returned (conc c' v)∧wf c' v∧Rel c' dz w'∧cC c w c' w') UT.defers .returning OQ:=by
             intro OP UT OQ adu adv Ws adw
             have adx:I.heap.size<R4.heap.size:=(Array.getElem?_eq_some_iff.1 aci).1
             obtain⟨aeQ,aeR⟩:=Ws.M5 adx aeO
             have ad_:OQ.heap[I.heap.size]?=some (.deferred (some [])):=aeR.trans aci
             have ady:Rel OP s.h (OQ.putObj I.heap.size (.deferred none)):=adu.other aeQ
             have I7:cC c w OP (OQ.putObj I.heap.size (.deferred none)):=(((nu.trans F_).trans Wq).trans Ws).aaG (cM nu.size F_.size)
             rw[adw]
             refine⟨by simp,.inl ⟨I.heap.size,_,rfl,run_takeDeferred ad_,?_⟩⟩
             cases Dj:mapO (resV C.P s) fn.results.toList with
             |none=>simp[Dj] at wN
             |some vs =>
              obtain⟨q1,q2⟩:=ob ady adv Dj
              refine⟨_,q1,OP,?_⟩
              rw[Dj] at wN
              split at wN
              ·rename_i v0 yM
               simp only[aB] at yM
               subst yM
               simp only[aB,bC] at wN
               obtain⟨rfl,rfl⟩:=wN
               exact⟨by simp,q2 v0 (by simp),ady,I7⟩
              ·rename_i vs' mP yM
               simp only[aB] at yM
               subst yM
               simp only[aB,bC] at wN
               obtain⟨rfl,rfl⟩:=wN
               refine⟨?_,by simp only[wf,iC];exact q2,ady,I7⟩
               rw[dif_neg]
               ·simp[conc,fK]
               ·intro eL
                simp only[List.size_toArray,gD] at eL
                obtain⟨v0,rfl⟩:=List.length_eq_one_iff.1 eL
                exact mP v0 rfl
              ·cases wN
            rw[←aaL]
            rcases hpd with⟨hp,ex,fo,hex⟩|⟨hp,hs⟩
            ·rw[hp]
             refine wpIn_mono (hS pt _ ex s fo none CY _ R4 ab0 abM) ?_
             rintro e UT OQ ⟨rfl,aea,OP,adu,adv,Ws⟩
             have:=fin OP UT OQ adu adv Ws (by rw[aea,aaH];rfl)
             rcases hex with rfl|rfl
             ·exact this
             ·exact this
            ·rw[hp]
             subst hs
             exact wpIn_ret (fin CY _ R4 ab0 abM (cC.refl _ _) (by rw[aaH];rfl))
          split at hr
          ·rename_i aeY aeZ ae0 ae1 ae2 Hf
           have one:∀ex s,ev C n pt ⟨J.env,J.ax,Dy.put J.h.next none⟩=some (ex,s)→(ex=.normal∨ex=.ret)→_→fe C.P f args c w v dz:=fun ex s fo hex wN=>tail _ s Hf (by simp) (fun CY Ov ho=>by
            obtain⟨ae3,aej,ae5,RZ,_⟩:=ho
            exact⟨_,RZ,by simp,.inl ⟨rfl,ex,fo,hex⟩⟩) wN
           split at hr
           ·rename_i s fo
            exact one .normal s fo (.inl rfl) hr
           ·rename_i s fo
            exact one .ret s fo (.inr rfl) hr
           ·cases hr
          ·rename_i Hf
           exact tail _ ⟨J.env,J.ax,Dy.put J.h.next none⟩ Hf (by simp) (fun CY Ov ⟨rr,b1,b2,b3⟩=>⟨rr,b1,by simp[b2],.inr ⟨b3,rfl⟩⟩) hr
          ·cases hr
        ·cases hr
       ·cases hr
      ·cases hr
     ·cases hr
end
end Go.Proofs.YtiojppeahfoiaaaGreat.Am
namespace Go.Proofs.YtiojppeahfoiaaaGreat.Am
open Go
variable {L:mL} {X:aI} {C:ep} {lT:Code} {c':Ctx} {ε aj:bA} {env:Env} {fn:Func} {cl:Go.Call} {h σ:H} {d x0 x1 x2:Int} {da db:List (Int×Int×Int×Int)} {now:List (Int×List Nat)} {l1 l2:List (Nat×Nat)} {E E2:List (Nat×V)} {S S':List aI} {ks:List Int} {data fI mk want mix:List Nat} {rs cy ey:List bV} {args cs:List V} {i id rr n N B c k tx pv M ba ck g a q r aH nx sK f l aF b dn qK b1 j it bk clock oX p2 r1 r2 off fuel:Nat} {fz:Nat×Nat} {o:Oper} {x:Operand} {P:Program} {A A1 A2:mU} {α H':Type} {e t:TypeId} {dv u dt kv mv av z vH y bv ka kb wv nn cv:V} {R:V→H→Prop} {w':World}
def sL (i:Nat)(c:Code): Code:=match rangeParts c with
 |some (a,b,_,_,_,lT,bd,t)=>match i with
  |0=>a
  |1=>b
  |2=>lT
  |3=>bd
  |_=>t
 |none=>.skip
section
theorem OpR.yield {ax:Nat}{e:Env}{ps:List Nat}{bd:Code}{Ee:List (Nat×V)}(J:o.op=.call cl)(hc:cl.callee=.value x)(hx:bj E x=some (.yY id))(ha:lookArgs E cl.args.toList=some args)
 (hg:T.get h.tr id=some (.loop false ax env ps lT bd))(hb:bindPs ax ps args env=some e)(he:iM e Ee)
 (hw:WP C ax lT Ee h fun ex E1 h1=>ex=.normal∧T.get h1.tr id=some (.loop false ax env ps lT bd)∧WP C ax bd E1 (h1.put id (some (.loop true ax env ps lT bd))) fun ex E2 h2=>ex=.normal∧T.get h2.tr id=some (.loop true ax env ps lT bd)∧R (.bool true) (h2.put id (some (.loop false ax env ps lT bd)))):
  OpR C E h o R:=by
 obtain⟨N1,Wf,I,h1,E1,a1,a2,rfl,a4,uY⟩:=hw e he
 obtain⟨N2,su,AJ,h2,E2,b1,b2,rfl,b4,b5⟩:=uY I a2
 refine⟨.bool true,_,b5,fun Ja hE=>⟨max N1 N2,?_⟩⟩
 have c1:=dO (C:=C) (nZ N1 N2) _ _ _ a1
 have c2:=dO (C:=C) (nY N1 N2) _ _ _ b1
 simp only[evOp,J,evCall,lE hE ha,hc,bM hE hx,callV,roundV,hg,hb,c1,a4,c2,b4]
theorem AW {f:FuncId}{code a b t bd:Code}{kz:Nat}{ps:Array Tmp}(hf:C.P.funcs[f]?=some fn)(hb:fn.body=some code)(hl:Nat.blt fn.ntmps args.length=false)(hp:rangeParts code=some (a,b,kz,x,ps,lT,bd,t))
 (hw:WP C fn.ntmps a (argE args 0) h fun ex E1 h1=>ex=.normal∧WP C fn.ntmps b E1 h1 fun ex E2 h2=>ex=.normal∧∃cap,bj E2 x=some (.fn (.func g) [] cap)∧∀env,iM env E2→∃u h3,gJ C g (.yY h2.next::cap) (h2.new (.loop false fn.ntmps env ps.toList lT bd)) u h3 ∧
   ((T.get h3.tr h2.next=some (.loop false fn.ntmps env ps.toList lT bd)∧WP C fn.ntmps t E2 (h3.put h2.next none) fun ex E4 h4=>(match ex with|.exit _=>False|_=>True)∧∃v,resLE C.P E4 h4 fn.results.toList=some v∧R v h4) ∨
    (T.get h3.tr h2.next=some .Fa∧∃v,resLE C.P E2 (h3.put h2.next none) fn.results.toList=some v∧R v (h3.put h2.next none)))):
  ∃v h2,(∃N0,∀N,N0≤N→toldRange C N f args h=some (v,h2))∧R v h2:=by
 obtain⟨N1,Wf,adz,h1,E1,a1,a2,rfl,uY⟩:=hw _ (tV args)
 obtain⟨N2,su,AJ,h2,E2,b1,b2,rfl,cap,b4,qn⟩:=uY adz a2
 obtain⟨u,h3,⟨N3,c1⟩,J1⟩:=qn AJ b2
 have res:∀ {E4:List (Nat×V)} {Ks:Env} {h4:H} {v:V},iM Ks E4→resLE C.P E4 h4 fn.results.toList=some v→∃vs,mapO (resV C.P ⟨Ks,fn.ntmps,h4⟩) fn.results.toList=some vs∧(match vs with|[w]=>some w|vs=>some (.aQ vs))=some v:=fun {E4 Ks h4 v} d2 I=>by
  unfold resLE at I
  cases hm:mapO (resE C.P E4 h4) fn.results.toList with
  |none=>rw[hm] at I;cases I
  |some vs =>
   rw[hm] at I
   refine⟨vs,wR (P:=C.P) (s:=⟨Ks,fn.ntmps,h4⟩) d2 hm,?_⟩
   match vs,I with
   |[],I=>exact I
   |[_],I=>exact I
   |_::_::_,I=>exact I
 rcases J1 with⟨c2,J1⟩|⟨c2,v,I,hR⟩
 ·obtain⟨N4,ex4,Ks,h4,E4,d1,d2,hx,v,I,hR⟩:=J1 AJ b2
  refine⟨v,h4,⟨max (max N1 N2) (max N3 N4),fun N hN => ?_⟩,hR⟩
  have m1:=dO (C:=C) (show N1≤N by omega) _ _ _ a1
  have m2:=dO (C:=C) (show N2≤N by omega) _ _ _ b1
  have m3:=mH (dO (C:=C) (show N3≤N by omega)) c1
  have m4:=dO (C:=C) (show N4≤N by omega) _ _ _ d1
  obtain⟨vs,e3,J⟩:=res d2 I
  unfold toldRange
  simp only[hf,hb,hl,aX,hp,m1,m2,bM b2 b4,m3,c2,m4]
  cases ex4 with
  |exit i=>exact hx.elim
  |normal =>
   simp only[e3]
   match vs,J with
   |[],J=>simp only[aB] at J;rw[←J]
   |[_],J=>simp only[aB] at J;rw[←J]
   |_::_::_,J=>simp only[aB] at J;rw[←J]
  |ret =>
   simp only[e3]
   match vs,J with
   |[],J=>simp only[aB] at J;rw[←J]
   |[_],J=>simp only[aB] at J;rw[←J]
   |_::_::_,J=>simp only[aB] at J;rw[←J]
 ·refine⟨v,_,⟨max (max N1 N2) N3,fun N hN => ?_⟩,hR⟩
  have m1:=dO (C:=C) (show N1≤N by omega) _ _ _ a1
  have m2:=dO (C:=C) (show N2≤N by omega) _ _ _ b1
  have m3:=mH (dO (C:=C) (show N3≤N by omega)) c1
  obtain⟨vs,e3,J⟩:=res b2 I
  unfold toldRange
  simp only[hf,hb,hl,aX,hp,m1,m2,bM b2 b4,m3,c2,e3]
  match vs,J with
  |[],J=>simp only[aB] at J;rw[←J]
  |[_],J=>simp only[aB] at J;rw[←J]
  |_::_::_,J=>simp only[aB] at J;rw[←J]
end
def OR (f:FuncId)(args:List V)(h:H)(r:V×H): Prop:=∃I,∀N,I≤N→toldRange CB N f args h=some r
theorem Call.range {told:cJ}{f:FuncId}(ht:told f=some (iQ Tryz.prog f (OR f)))(hf:Tryz.prog.funcs[f]?=some fn)(hb:fn.body.isSome=true)
 (hd:∃v I,(∃J,∀N,J≤N→toldRange CB N f args h=some (v,I))∧R v I): Call ⟨Tryz.prog,told⟩ f args h R:=by
 obtain⟨v,I,⟨J,h0⟩,hR⟩:=hd
 obtain⟨r,e1,N1,h1⟩:=qj (P:=Tryz.prog) (f:=f) (jF:=OR f) (args:=args) (h:=h) (r:=(v,I)) ⟨J,h0⟩ (fun c w qq hw=>Kr (C:=CB) fT eB (h0 J (aV _)) qq hw)
 have:r=(v,I):=by
  have a:=h0 (max J N1) (by omega)
  have b:=h1 (max J N1) (by omega)
  rw[a] at b
  exact(cg b).symm
 subst this
 exact⟨v,I,gJ.told ht hf hb e1,hR⟩
structure WO (told:cJ): Prop where
 wt:WT told
 sq:told 208=some (iQ Tryz.prog 208 (OR 208))
theorem OpR.OS {v r:V}{h₁:H}(I:o.op=.next x false)(J:bj E x=some v)(hf:nextV h v=some (r,h₁)): OpR C E h o fun w h'=>w=r∧h'=h₁ :=
 ⟨r,h₁,⟨rfl,rfl⟩,fun env hE=>⟨0,by simp only[evOp,I,bM hE J,hf];rfl⟩⟩
theorem R5 (I:h.tr.get it=some (.iter bk clock clock []))(J:h.tr.get bk=some (.map [] clock)): nextV h (.ptr it 0)=some (.aQ [.bool false],h):=by
 have hb:Nat.ble clock clock=true:=by rw[aL];exact aV _
 simp[nextV,nextAll,I,J,leftV,oK,hb]
section
variable {told:cJ} {p m:Nat} {op:V}
theorem UU (I:W told)(s:Sat h (pt b (.cells 1 [.map bk] false)::pt bk (.map [] clock)::S)):
  Call ⟨Tryz.prog,told⟩ 156 [y,.ptr b 0] h fun v h'=>v=.aQ []∧Sat h' (pt b (.cells 1 [.map bk] false)::pt bk (.map [] clock)::S):=by
 have J:=s.row (k:=1) rfl
 refine Call.of_wp (I.free _ rfl) Tryz.func156 rfl rfl (zg rfl (zy s 0 kr rfl (au.any rfl rfl rfl (OpR.range rfl rfl (show rangeV Tryz.prog h 142 (.map bk)=some (.ptr h.next 0,h.new (.iter bk clock clock [])) by simp only[rangeV,mT,J])) ?_)))
 rintro v h' ⟨rfl,rfl⟩
 have s:=s.new (.iter bk clock clock [])
 generalize h.next=it at s ⊢
 generalize h.new (.iter bk clock clock [])=h1 at s ⊢
 refine zv (WP.block (WP.loop (zg rfl (au.any rfl rfl rfl (OpR.OS rfl rfl (R5 (s.row (k:=0) rfl) (s.row (k:=2) rfl))) ?_))))
 rintro v h' ⟨rfl,rfl⟩
 exact zk 4 rfl (WP.exit ⟨aa,_,rfl,rfl,s.drop⟩)
noncomputable def asA : Code:=sL 0 ((Tryz.f208.body).getD .skip)
noncomputable def asB : Code:=sL 1 ((Tryz.f208.body).getD .skip)
noncomputable def sM : Code:=sL 2 ((Tryz.f208.body).getD .skip)
noncomputable def sN : Code:=sL 3 ((Tryz.f208.body).getD .skip)
noncomputable def asT : Code:=sL 4 ((Tryz.f208.body).getD .skip)
theorem Yf (s:Sat h (pt b (.cells 1 [.map bk] false)::pt bk (.map [] clock)::S)):
  ∃v J,(∃N0,∀n,N0≤n→toldRange CB n 208 [.aY,.fn (.func 156) [] [.ptr b 0]] h=some (v,J))∧v=.aY∧Sat J (pt b (.cells 1 [.map bk] false)::pt bk (.map [] clock)::S):=by
 have hT:=W.base
 refine AW (C:=CB) (a:=asA) (b:=asB) (t:=asT) (lT:=sM) (bd:=sN) (kz:=0) (g:=156) (x:=.tmp 6) (ps := #[7]) AS rfl rfl (by kernel_rfl) ?_
 refine zr rfl (au.bD s rfl rfl rfl (dB rfl rfl) ?_)
 intro p2 h s
 dsimp only[V.cells,List.length_cons,List.length_nil,Nat.reduceAdd] at s
 refine za rfl (zv ?_)
 refine⟨rfl,?_⟩
 refine zr rfl (zm rfl (zv ?_))
 refine⟨rfl,_,rfl,fun env uo => ?_⟩
 have s:=s.new (.loop false 13 env [7] sM sN)
 have s:=s.ae [2,2]
 obtain⟨u,h3,I,rfl,s⟩:=UU (y:=.yY h.next) hT s
 have s:=s.ae [2]
 refine⟨_,h3,I,.inl ⟨s.row (k:=0) rfl,?_⟩⟩
 have s:=s.kill
 generalize h3.put h.next none=h at s ⊢
 exact zg rfl (zy s 2 Te rfl (zk 2 rfl (WP.ret ⟨aa,_,nG rfl,rfl,s.del 2⟩)))
theorem UW (I:W told): Call ⟨Tryz.prog,told⟩ 234 [.int .u64 0] h fun v h'=>v=.int .i64 0∧h'=h:=by
 refine Call.of_wp (I.free _ rfl) Tryz.func234 rfl rfl (zK 8 rfl (zC rfl jg (by decide) ?_))
 refine zk 7 rfl (zC rfl jg (by decide) ?_)
 refine zk 7 rfl (zC rfl jg (by decide) ?_)
 refine zk 7 rfl (zo rfl (bT rfl (by exact gL bR Tryz.underlying5 (uC (by omega) (by omega)))) ?_)
 refine zo rfl (xP rfl rfl (r:=.int .u8 0) (by simp only[indexV,uG];rfl)) ?_
 refine zo rfl (bT rfl (by exact gL Tryz.underlying5 br (aA (by omega) (by omega)))) ?_
 refine zb rfl (by exact bf (aA (by omega) (by omega))) ?_
 exact zk 2 rfl (WP.ret ⟨aa,_,rfl,rfl,rfl⟩)
theorem Yg (I:W told): Call ⟨Tryz.prog,told⟩ 210 [.int .u64 0] h fun v h'=>v=.int .i64 0∧h'=h:=by
 refine Call.of_wp (I.free _ rfl) Tryz.func210 rfl rfl (zK 10 rfl (zc rfl (UW I) ?_))
 rintro v h' ⟨rfl,rfl⟩
 exact zk 2 rfl (WP.ret ⟨aa,_,rfl,rfl,rfl⟩)
theorem R6 (I:W told): Call ⟨Tryz.prog,told⟩ 224 [.aY,.int .i64 0,.int .i64 0] h fun v h'=>v=.aQ []∧h'=h:=by
 refine Call.of_wp (I.free _ rfl) Tryz.func224 rfl rfl (zK 3 rfl (zb rfl (by exact bf (aA (by omega) (by omega))) ?_))
 refine zk 2 rfl (WP.block (WP.loop (zK 5 rfl (zC rfl aT (by simp) ?_))))
 exact zk 2 rfl (WP.exit ⟨aa,_,rfl,rfl,rfl⟩)
theorem Yh (I:W told){l:V}: Call ⟨Tryz.prog,told⟩ 209 [.aY,.int .i64 0,.int .i64 0,l] h fun v h'=>v=.aQ []∧h'=h:=by
 refine Call.of_wp (I.free _ rfl) Tryz.func209 rfl rfl (zK 8 rfl (WP.block (WP.loop (WP.block (zK 4 rfl (zb rfl (by exact jI (aA (by omega) (by omega))) ?_))))))
 refine zk 6 rfl (zB rfl CG (by simp) ?_)
 refine zk 7 rfl (zc rfl (R6 I) ?_)
 rintro v h' ⟨rfl,rfl⟩
 exact zv (WP.ret ⟨aa,_,rfl,rfl,rfl⟩)
theorem R7 (I:W told): Call ⟨Tryz.prog,told⟩ 155 [.aY] h fun v h'=>v=.aQ []∧h'=h:=by
 refine Call.of_wp (I.free _ rfl) Tryz.func155 rfl rfl (zK 3 rfl (zo rfl (aP rfl rfl rfl (o_ rfl lB)) (zk 6 rfl (zo rfl (bT (r:=.int .u64 0) rfl (gL br IN rfl)) (zc rfl (Yg I) ?_)))))
 rintro v h' ⟨rfl,rfl⟩
 refine zc rfl (Yh I) ?_
 rintro v h' ⟨rfl,rfl⟩
 exact zv ⟨aa,_,rfl,rfl,rfl⟩
theorem UX (I:WO told)(s:Sat h (pt b (.cells 1 [.map bk] false)::pt bk (.map [] clock)::S)):
  Call ⟨Tryz.prog,told⟩ 154 [.fn (.func 156) [] [.ptr b 0]] h fun v h'=>v=.aY∧Sat h' (pt b (.cells 1 [.map bk] false)::pt bk (.map [] clock)::S):=by
 refine Call.of_wp (I.wt.wr.w.free _ rfl) Tryz.func154 rfl rfl (zK 7 rfl (zc rfl (Call.range I.sq AS rfl (Yf s)) ?_))
 rintro v h ⟨rfl,s⟩
 exact zk 2 rfl (WP.ret ⟨aa,_,rfl,rfl,s⟩)
theorem yD (I:WO told)(s:Sat h (pt b (.cells 1 [.map bk] false)::pt bk (.map [] clock)::S)):
  Call ⟨Tryz.prog,told⟩ 82 [.fn (.func 156) [] [.ptr b 0]] h fun v h'=>v=.aY∧Sat h' (pt b (.cells 1 [.map bk] false)::pt bk (.map [] clock)::S):=by
 refine Call.of_wp (I.wt.wr.w.free _ rfl) Tryz.func82 rfl rfl (zK 7 rfl (zc rfl (UX I s) ?_))
 rintro v h ⟨rfl,s⟩
 refine zk 5 rfl (zc rfl (R7 I.wt.wr.w) ?_)
 rintro v h' ⟨rfl,rfl⟩
 exact zk 6 rfl (WP.ret ⟨aa,_,rfl,rfl,s⟩)
end
section
variable {told:cJ} {p m:Nat} {op ch:V} {kd:Int}
theorem Yi (J:W told)(I:(dx kd 0 pv nx dt ch).all storable=true)(s:Sat h S): Call ⟨Tryz.prog,told⟩ 81 [y,.agg (dx kd 0 pv nx dt ch),z] h fun v h'=>v=.aQ []∧Sat h' S:=by
 refine Call.of_wp (J.free _ rfl) Ki rfl rfl (zg rfl (au.bD s rfl rfl rfl (dB rfl I) ?_))
 intro p4 h s
 exact zk 4 rfl (zY s 0 kH dL rfl (zB rfl dm (rfl) (zk 7 rfl (WP.ret ⟨aa,_,rfl,rfl,s.drop⟩))))
noncomputable def toL : Code:=cU [1,1,1,0,1,0,0] ((Tryz.f36.body).getD .skip)
theorem OT (hT:WO told)(hl:LR ba ck mk rs ε.2)(qO:ε.2.1.Ok)(h0:∀y∈rs,y.tx=0): ∀(R2 J:List bV) (h:H) (E:List (Nat×V)) (Q:Ex→List (Nat×V)→H→Prop),rs=J++R2→Sat h (dA a p q r op data aH::bS q p ε.2.1::S) →
  Has E [(0,.ptr a 0),(6,.ptr m 0),(9,.int .u64 ((ba+szB J:Nat):Int))]→(∀E' h',Has E' [(0,.ptr a 0),(6,.ptr m 0)]→Sat h' (dA a p q r op data aH::bS q p ε.2.1::S)→Q (.exit 0) E' h')→WP ⟨Tryz.prog,told⟩ 105 (.loop toL) E h Q:=by
 have hW:=hT.wt.wr.w
 intro R2
 induction R2 with
 |nil =>
  intro J h E Q I s hE hq
  rw[eZ] at I
  subst I
  have uL:((ba+szB rs:Nat):Int)=(ε.2.1.base:Int)+(ε.2.1.b.length:Int):=by rw[hl.base,hl.b,fZ];omega
  refine WP.loop (WP.has hE (WP.block (zK 3 rfl (zc rfl (ou hW s) ?_))))
  rintro v h' ⟨rfl,rfl⟩
  rw[uL]
  refine zm rfl (zc rfl (AA hW (s.ae [1]) qO) ?_)
  rintro v h ⟨rfl,s⟩
  refine zk 4 rfl ?_
  refine au.bD s rfl rfl rfl (bI jC) (fun GI h s => ?_)
  dsimp only[V.cells,List.length_cons,List.length_nil,Nat.reduceAdd,aE,bringA] at s
  refine zS rfl (s.eS (j:=0) rfl dD rfl rfl) (fun h s => ?_)
  dsimp only[dx,setA] at s
  exact zk 7 rfl (zB rfl aD (rfl) (zk 2 rfl (WP.exit (hq _ _ ⟨rfl,rfl,aa⟩ ((s.ae [2,1]).del 2)))))
 |cons y R2 ih =>
  intro J h E Q I s hE hq
  have hy:y.tx=0:=h0 y (by rw[I];simp)
  refine WP.loop (WP.has hE (WP.block (zK 3 rfl (zc rfl (ou hW s) ?_))))
  rintro v h' ⟨rfl,rfl⟩
  refine zm rfl (zc rfl (yC hT.wt.wr (cy:=J) (ey:=R2) (y:=y) (by rw[←I];exact hl) qO (s.ae [1])) ?_)
  rintro v h ⟨dt,ch,cs',rfl,s⟩
  rw[hy]
  have fo:(V.agg (dx (y.kd:Int) 0 y.pv y.nx dt ch)).cells.all storable=true:=jc (s.buf (k:=1) rfl).view.cells.2 (s.iz (j:=2) rfl).2.1
  refine zk 4 rfl ?_
  refine au.bD s rfl rfl rfl (bI jC) (fun GI h s => ?_)
  dsimp only[V.cells,List.length_cons,List.length_nil,Nat.reduceAdd,aE,bringA] at s
  refine zS rfl (s.eS (j:=0) rfl dD rfl fo) ?_
  intro h s
  dsimp only[dx,setA] at s
  refine zk 7 rfl (zC rfl aD (rfl) (zk 6 rfl (zl rfl (s.cV (k:=0) rfl iJ dD) (zm rfl (zc rfl (Yi hW (kd:=(y.kd:Int)) (pv:=y.pv) (nx:=y.nx) (dt:=dt) (ch:=ch) fo s) ?_)))))
  rintro v h ⟨rfl,s⟩
  refine zv (zr rfl (zk 2 rfl (zv ?_)))
  exact ih (J++[y]) _ _ Q (by rw[I,cT];rfl) (((s.ae [5,1]).del 5 |>.del 4 |>.del 3 |>.del 2)) ⟨rfl,rfl,by rw[iI,ow,←j6];rfl,aa⟩ hq
theorem yE (I:W told)(s:Sat h S): Call ⟨Tryz.prog,told⟩ 83 [.map bk] h fun v h'=>∃b,v=.fn (.func 156) [] [.ptr b 0]∧Sat h' (pt b (.cells 1 [.map bk] false)::S):=by
 refine Call.of_wp (I.free _ rfl) Tryz.func83 rfl rfl (zg rfl (au.bD s rfl rfl rfl (dB rfl rfl) ?_))
 intro b h s
 exact zk 4 rfl (zo rfl (xQ rfl rfl) (zk 2 rfl (WP.ret ⟨aa,_,rfl,b,rfl,s⟩)))
theorem Kt (I:W told): Call ⟨Tryz.prog,told⟩ 85 [.aY] h fun v h'=>v=.int .i64 0∧h'=h:=by
 exact Call.of_wp (I.free _ rfl) Tryz.func85 rfl rfl (zK 7 rfl (zo rfl (aP rfl rfl rfl (o_ rfl Tryz.underlying164)) (zk 2 rfl (WP.ret ⟨aa,_,rfl,rfl,rfl⟩))))
theorem UY (hT:WO told)(hl:LR ba ck mk rs ε.2)(qO:ε.2.1.Ok)(h0:∀y∈rs,y.tx=0)(s:Sat h (SA a p q r .bq [] 0 ε::S)):
  Call ⟨Tryz.prog,told⟩ 36 [.ptr a 0,F3 c] h fun v h'=>∃m,v=.aQ [.ptr m 0,.int .i64 0]∧Sat h' (fP m a 1 (F3 c) []::SA a p q r .bq [] 0 ε::S):=by
 have I:=hT.wt.wr.w
 refine Call.of_wp (I.free _ rfl) Tryz.func36 rfl rfl (zg rfl (za rfl (za rfl (zv (zg rfl (zm rfl (zm rfl ?_)))))))
 refine au.sQ s rfl rfl rfl rfl (fun J h s => ?_)
 refine zo rfl (cj (r:=.agg [.ptr a 0,F3 c,.map J,.int .u64 ((1:Nat):Int)]) rfl (by rw[VI];rfl)) ?_
 refine au.bD s rfl rfl rfl (dB rfl rfl) ?_
 intro m h s
 dsimp only[V.cells,List.length_cons,List.length_nil,Nat.reduceAdd] at s
 have s:=aM.1 (s.ae [2])
 dsimp only[aE,bringA,List.cons_append,List.nil_append] at s
 refine za rfl (zv (zw (zg rfl (zm rfl (au.call rfl rfl rfl rfl rfl rfl rfl (Ec I s (by decide)) ?_)))))
 rintro v h ⟨w,rfl,s⟩
 refine zm rfl (ze rfl (ze rfl (za rfl (za rfl (zv (zg rfl (zm rfl (zo rfl (aP rfl rfl rfl (by exact aW aJ (s.aG (k:=0) rfl (aN _ _)))) ?_))))))))
 refine au.kU rfl rfl rfl (ay rfl rfl dm) (by simp) ?_
 refine zv (zj rfl (WP.skip (zw (zg rfl (zm rfl ?_)))))
 have s:=s.ae [1]
 dsimp only[bringA,getA,aE] at s
 refine au.call rfl rfl rfl rfl rfl rfl rfl (ou I s) ?_
 rintro v h' ⟨rfl,rfl⟩
 refine au.call rfl rfl rfl rfl rfl rfl rfl (sC I (s.ae [3])) ?_
 rintro v h' ⟨rfl,rfl⟩
 rw[hl.base]
 refine za rfl (zv (WP.block ?_))
 have s:=s.ae [0,2]
 dsimp only[bringA,getA,aE] at s
 refine OT hT hl qO h0 rs [] _ _ _ rfl s ⟨rfl,rfl,by rw[szB,l8];rfl,aa⟩ fun E' h' fE s' => ?_
 have s:=s'
 refine WP.has fE (zg rfl ?_)
 refine au.bD s rfl rfl rfl (bI VM) (fun p13 h s => ?_)
 dsimp only[V.cells,List.length_cons,List.length_nil,Nat.reduceAdd] at s
 refine zv (zw (zg rfl (zm rfl (zn rfl (zf rfl (iZ _ _) (zl rfl (by exact s.ld (k:=6) rfl kr rfl) ?_))))))
 have s:=s.ae [6,6]
 dsimp only[bringA,getA,aE] at s
 refine au.call rfl rfl rfl rfl rfl rfl rfl (yE I s) ?_
 rintro v h ⟨b,rfl,s⟩
 have s:=s.ae [0,1]
 dsimp only[bringA,getA,aE] at s
 refine au.call rfl rfl rfl rfl rfl rfl rfl (yD hT s) ?_
 rintro v h ⟨rfl,s⟩
 have s:=s.ae [2]
 dsimp only[bringA,getA,aE] at s
 refine zo rfl (aP rfl rfl rfl (by exact o_ rfl lB)) ?_
 refine zm rfl (zv (WP.block (WP.loop (zg rfl (au.kU rfl rfl rfl (ay rfl rfl aT) (by decide) ?_)))))
 refine zv (zw (zj rfl (WP.exit (zw (WP.block (WP.loop (zw (zg rfl (zl rfl (by exact s.ld (k:=3) rfl VL rfl) ?_)))))))))
 refine au.call rfl rfl rfl rfl rfl rfl rfl (Kt I) ?_
 rintro v h' ⟨rfl,rfl⟩
 refine au.kU rfl rfl rfl (ay rfl rfl fN) (by decide) ?_
 refine zv (zj rfl (WP.exit (zg rfl (zm rfl (za rfl (za rfl (zv ?_)))))))
 refine WP.ret ⟨aa,_,rfl,?_⟩
 have s:=s.ae [4,6,4,5]
 dsimp only[bringA,getA,aE] at s
 have s:Sat _ (SA a p q r .bq [] 0 ε::_):=aM.2 s
 have s:=s.ae [3]
 dsimp only[bringA,getA,aE] at s
 have s:=CL (κ:=.u64) (f:=fun v (r:Nat)=>.pu (v=.ptr r 0)) s
 have s:Sat _ (jX []::_):=(s.fB (φ:=True) aa)
 have s:=s.ae [3,1,0]
 dsimp only[bringA,getA,aE] at s
 have s:Sat _ (fP m a 1 (F3 c) []::_):=dI.2 ⟨.map J,s⟩
 exact⟨m,rfl,(s.del 4 |>.del 3 |>.del 2)⟩
end
section
variable {told:cJ} {w:V}
theorem UZ {k:V}(I:h.tr.get it=some (.iter bk clock clock []))(J:h.tr.get bk=some (.map [(k,w,b1)] clock))(hb:b1<clock): nextV h (.ptr it 0)=some (.aQ [.bool true,k,w],h.put it (some (.iter bk clock clock [b1]))):=by
 have h1:Nat.blt b1 clock=true:=by simpa[Nat.blt_eq] using hb
 have h2:Nat.ble clock clock=true:=by rw[aL];exact aV _
 simp[nextV,nextAll,I,J,leftV,inL,oK,h1,h2]
theorem R8 {k:V}(I:h.tr.get it=some (.iter bk clock clock [b1]))(J:h.tr.get bk=some (.map [(k,w,b1)] clock))(hb:b1<clock): nextV h (.ptr it 0)=some (.aQ [.bool false],h):=by
 have h1:Nat.blt b1 clock=true:=by simpa[Nat.blt_eq] using hb
 have h2:Nat.ble clock clock=true:=by rw[aL];exact aV _
 have h3:Nat.beq b1 b1=true:=by simp
 simp[nextV,nextAll,I,J,leftV,inL,oK,h1,h2,h3]
theorem R9 {k:V}(I:h.tr.get it=some (.iter bk clock clock [b1]))(J:h.tr.get bk=some (.map [(k,w,b1)] clock))(hb:b1<clock): r9 h (.ptr it 0)=some (.aQ [k,w]):=by
 have h3:Nat.beq b1 b1=true:=by simp
 have h4:Nat.beq clock clock=true:=by simp
 have h5:Nat.ble 0 b1=true:=by rw[aL];exact ew _
 simp[r9,I,J,lastN,q_,bornRise,h3,h4,h5]
abbrev r7 (id b1 clock:Nat)(w:V): Obj:=.map [(.int .u64 (id:Int),w,b1)] clock
theorem vJ : ∃i,Tryz.prog.info? 32=some i∧i.size=1∧i.bytes≤4096 :=
 ⟨_,(show Tryz.prog.info? 32=some ((Tryz.prog.info? 32).getD default) by kernel_rfl),by kernel_rfl,of_decide_eq_true (by kernel_rfl)⟩
theorem U0 (s:Sat h S): ∃I J w h2,buildSliceV Tryz.prog h 33 1 [(0,.int .u64 (id:Int))]=some (I,J)∧appendV Tryz.prog J #[33,33] .aY I=some (w,h2)∧Sat h2 (.arr 1 w [.int .u64 (id:Int)]::S):=by
 obtain⟨i1,kA,jE,qg⟩:=vJ
 obtain⟨I,J,e1,s1⟩:=kI (P:=Tryz.prog) (k:=1) (x:=.int .u64 (id:Int)) (s.kg (k:=1)) lB Ab kD rfl (by decide) (by decide) rfl rfl
 obtain⟨w,h2,e2,s2⟩:=gU (s1.ae [1,0]) lB kA Ab jE qg rfl (by decide) (by show 0+1≤1073741824;decide)
 have s2:=s2.del 1
 exact⟨I,J,w,h2,e1,e2,s2⟩
def YO (oX p2 id:Nat)(env:Env)(S:List aI)(v:V)(I:H): Prop:=v=.bool true∧∃u,Sat I (pt oX (.loop false 13 env [7] sM sN)::pt p2 (.cells 1 [u] false)::.arr 1 u [.int .u64 (id:Int)]::S)
theorem U1 (hE:Has E2 [(2,.ptr p2 0)])(s:Sat h (pt oX (.loop false 13 env [7] sM sN)::pt p2 (.cells 1 [.aY] false)::S)):
  WP ⟨Tryz.prog,told⟩ 13 sM ((7,.int .u64 (id:Int))::E2) h fun ex E1 I=>ex=.normal∧T.get I.tr oX=some (.loop false 13 env [7] sM sN)∧WP ⟨Tryz.prog,told⟩ 13 sN E1 (I.put oX (some (.loop true 13 env [7] sM sN))) fun ex E3 J=>ex=.normal∧T.get J.tr oX=some (.loop true 13 env [7] sM sN)∧YO oX p2 id env S (.bool true) (J.put oX (some (.loop false 13 env [7] sM sN))):=by
 refine zr rfl (za rfl (zv ?_))
 refine⟨rfl,s.row (k:=0) rfl,?_⟩
 have s:Sat _ (pt oX (.loop true 13 env [7] sM sN)::pt p2 (.cells 1 [.aY] false)::S):=s.put (k:=0) (o':=.loop true 13 env [7] sM sN) rfl
 generalize h.put oX (some (.loop true 13 env [7] sM sN))=h at s ⊢
 obtain⟨xv,I,w,J,e1,e2,s2⟩:=U0 (id:=id) s
 refine WP.has (F:=[(2,.ptr p2 0),(5,.int .u64 (id:Int))]) ⟨hE.1,rfl,aa⟩ (WP.block (zr rfl (zy s 1 Te rfl (zm rfl (au.any rfl rfl rfl (OpR.of (R:=fun v h'=>v=xv∧h'=I) (oF rfl e1) ⟨rfl,rfl⟩) ?_)))))
 rintro xv I ⟨rfl,rfl⟩
 refine au.any rfl rfl rfl (OpR.of (R:=fun v h'=>v=w∧h'=J) (mI rfl rfl e2) ⟨rfl,rfl⟩) ?_
 rintro w J ⟨rfl,rfl⟩
 have B3:=(s2.iz (j:=0) rfl)
 have s:=s2.ae [1,1]
 refine zS rfl (s.dK (k:=1) rfl acE rfl (by decide) B3.1 B3.2.1) ?_
 intro h s
 exact zv ⟨rfl,s.row (k:=0) rfl,rfl,w,s.put (k:=0) (o':=.loop false 13 env [7] sM sN) rfl⟩
theorem R_ (hT:W told)(J:b1<clock)(I:iM env E2)(MQ:Has E2 [(2,.ptr p2 0)])(s:Sat h (pt oX (.loop false 13 env [7] sM sN)::pt p2 (.cells 1 [.aY] false)::pt b (.cells 1 [.map bk] false)::pt bk (r7 id b1 clock w)::S)):
  Call ⟨Tryz.prog,told⟩ 156 [.yY oX,.ptr b 0] h fun v h'=>v=.aQ []∧∃u,Sat h' (pt oX (.loop false 13 env [7] sM sN)::pt p2 (.cells 1 [u] false)::.arr 1 u [.int .u64 (id:Int)]::pt b (.cells 1 [.map bk] false)::pt bk (r7 id b1 clock w)::S):=by
 have gm:=s.row (k:=3) rfl
 refine Call.of_wp (hT.free _ rfl) Tryz.func156 rfl rfl (zg rfl (zy s 2 kr rfl (au.any rfl rfl rfl (OpR.range rfl rfl (show rangeV Tryz.prog h 142 (.map bk)=some (.ptr h.next 0,h.new (.iter bk clock clock [])) by simp only[rangeV,mT,gm])) ?_)))
 rintro v h' ⟨rfl,rfl⟩
 have s:=s.new (.iter bk clock clock [])
 generalize h.next=it at s ⊢
 generalize h.new (.iter bk clock clock [])=h1 at s ⊢
 refine zv (WP.block (WP.loop (zg rfl (au.any rfl rfl rfl (OpR.OS rfl rfl (UZ (s.row (k:=0) rfl) (s.row (k:=4) rfl) J)) ?_))))
 rintro v h' ⟨rfl,rfl⟩
 have s:=s.put (k:=0) (o':=.iter bk clock clock [b1]) rfl
 dsimp only[setA] at s
 refine zk 5 rfl (WP.block (zg rfl (au.any rfl rfl rfl (OpR.entry rfl rfl (R9 (s.row (k:=0) rfl) (s.row (k:=4) rfl) J)) ?_)))
 rintro v h' ⟨rfl,rfl⟩
 have s:=s.ae [1,1]
 dsimp only[bringA,getA,aE] at s
 refine zk 7 rfl (au.any rfl rfl rfl (OpR.yield (R:=YO oX p2 id env (pt it (.iter bk clock clock [b1])::pt b (.cells 1 [.map bk] false)::pt bk (r7 id b1 clock w)::S)) rfl rfl rfl rfl (s.row (k:=0) rfl) rfl (I.set _ _) (U1 MQ s)) ?_)
 rintro v h ⟨rfl,u,s⟩
 refine zo rfl (eU rfl rfl) (zv (zj rfl (WP.skip (WP.loop (zg rfl (au.any rfl rfl rfl (OpR.OS rfl rfl (R8 (s.row (k:=3) rfl) (s.row (k:=5) rfl) J)) ?_))))))
 rintro v h' ⟨rfl,rfl⟩
 exact zk 4 rfl (WP.exit ⟨aa,_,rfl,rfl,u,s.del 3⟩)
theorem U2 (hb:b1<clock)(s:Sat h (pt b (.cells 1 [.map bk] false)::pt bk (r7 id b1 clock w)::S)):
  ∃v h2,(∃N0,∀n,N0≤n→toldRange CB n 208 [.aY,.fn (.func 156) [] [.ptr b 0]] h=some (v,h2))∧Sat h2 (.arr 1 v [.int .u64 (id:Int)]::pt b (.cells 1 [.map bk] false)::pt bk (r7 id b1 clock w)::S):=by
 have hT:=W.base
 refine AW (C:=CB) (a:=asA) (b:=asB) (t:=asT) (lT:=sM) (bd:=sN) (kz:=0) (g:=156) (x:=.tmp 6) (ps := #[7]) AS rfl rfl (by kernel_rfl) ?_
 refine zr rfl (au.bD s rfl rfl rfl (dB rfl rfl) ?_)
 intro p2 h s
 dsimp only[V.cells,List.length_cons,List.length_nil,Nat.reduceAdd] at s
 refine za rfl (zv ?_)
 refine⟨rfl,?_⟩
 refine zr rfl (zm rfl (zv ?_))
 refine⟨rfl,_,rfl,fun env I => ?_⟩
 have s:=s.new (.loop false 13 env [7] sM sN)
 obtain⟨u,h3,J,rfl,u2,s⟩:=R_ hT (p2:=p2) hb I ⟨rfl,aa⟩ s
 refine⟨_,h3,J,.inl ⟨s.row (k:=0) rfl,?_⟩⟩
 have s:=s.kill
 generalize h3.put h.next none=h at s ⊢
 exact zg rfl (zy s 0 Te rfl (zk 2 rfl (WP.ret ⟨aa,_,nG rfl,s.drop⟩)))
end
section
variable {told:cJ} {m:Nat} {w:V}
theorem Sa (I:W told): Call ⟨Tryz.prog,told⟩ 234 [.int .u64 1] h fun v h'=>v=.int .i64 1∧h'=h:=by
 refine Call.of_wp (I.free _ rfl) Tryz.func234 rfl rfl (zK 8 rfl (zC rfl jg (by decide) ?_))
 refine zk 7 rfl (zC rfl jg (by decide) ?_)
 refine zk 7 rfl (zC rfl jg (by decide) ?_)
 refine zk 7 rfl (zo rfl (bT rfl (by exact gL bR Tryz.underlying5 (uC (by omega) (by omega)))) ?_)
 refine zo rfl (xP rfl rfl (r:=.int .u8 1) (by simp only[indexV,uG];rfl)) ?_
 refine zo rfl (bT rfl (by exact gL Tryz.underlying5 br (aA (by omega) (by omega)))) ?_
 refine zb rfl (by exact bf (aA (by omega) (by omega))) ?_
 exact zk 2 rfl (WP.ret ⟨aa,_,rfl,rfl,rfl⟩)
theorem U3 (I:W told): Call ⟨Tryz.prog,told⟩ 210 [.int .u64 1] h fun v h'=>v=.int .i64 1∧h'=h:=by
 refine Call.of_wp (I.free _ rfl) Tryz.func210 rfl rfl (zK 10 rfl (zc rfl (Sa I) ?_))
 rintro v h' ⟨rfl,rfl⟩
 exact zk 2 rfl (WP.ret ⟨aa,_,rfl,rfl,rfl⟩)
theorem Sb (I:W told): Call ⟨Tryz.prog,told⟩ 224 [w,.int .i64 0,.int .i64 1] h fun v h'=>v=.aQ []∧h'=h:=by
 refine Call.of_wp (I.free _ rfl) Tryz.func224 rfl rfl (zK 3 rfl (zb rfl (by exact bf (aA (by omega) (by omega))) ?_))
 refine zk 2 rfl (WP.block (WP.loop (zK 5 rfl (zC rfl aT (by simp) ?_))))
 exact zk 2 rfl (WP.exit ⟨aa,_,rfl,rfl,rfl⟩)
theorem Yj (I:W told){l:V}: Call ⟨Tryz.prog,told⟩ 209 [w,.int .i64 0,.int .i64 1,l] h fun v h'=>v=.aQ []∧h'=h:=by
 refine Call.of_wp (I.free _ rfl) Tryz.func209 rfl rfl (zK 8 rfl (WP.block (WP.loop (WP.block (zK 4 rfl (zb rfl (by exact jI (aA (by omega) (by omega))) ?_))))))
 refine zk 6 rfl (zB rfl CG (by simp) ?_)
 refine zk 7 rfl (zc rfl (Sb I) ?_)
 rintro v h' ⟨rfl,rfl⟩
 exact zv (WP.ret ⟨aa,_,rfl,rfl,rfl⟩)
theorem Sc (I:W told)(s:Sat h (.arr 1 w [.int .u64 (id:Int)]::S)): Call ⟨Tryz.prog,told⟩ 155 [w] h fun v h'=>v=.aQ []∧h'=h:=by
 refine Call.of_wp (I.free _ rfl) Tryz.func155 rfl rfl (zK 3 rfl (zo rfl (aP rfl rfl rfl (s.fR (j:=0) (n:=1) rfl rfl (by decide) lB)) ?_))
 refine zk 6 rfl (zo rfl (bT (r:=.int .u64 1) rfl (gL br IN rfl)) (zc rfl (U3 I) ?_))
 rintro v h' ⟨rfl,rfl⟩
 refine zc rfl (Yj I) ?_
 rintro v h' ⟨rfl,rfl⟩
 exact zv ⟨aa,_,rfl,rfl,rfl⟩
theorem U4 (I:WO told)(J:b1<clock)(s:Sat h (pt b (.cells 1 [.map bk] false)::pt bk (r7 id b1 clock w)::S)):
  Call ⟨Tryz.prog,told⟩ 154 [.fn (.func 156) [] [.ptr b 0]] h fun v h'=>Sat h' (.arr 1 v [.int .u64 (id:Int)]::pt b (.cells 1 [.map bk] false)::pt bk (r7 id b1 clock w)::S):=by
 refine Call.of_wp (I.wt.wr.w.free _ rfl) Tryz.func154 rfl rfl (zK 7 rfl (zc rfl (Call.range I.sq AS rfl (U2 J s)) ?_))
 intro v h s
 exact zk 2 rfl (WP.ret ⟨aa,_,rfl,s⟩)
theorem OU (I:WO told)(J:b1<clock)(s:Sat h (pt b (.cells 1 [.map bk] false)::pt bk (r7 id b1 clock w)::S)):
  Call ⟨Tryz.prog,told⟩ 82 [.fn (.func 156) [] [.ptr b 0]] h fun v h'=>Sat h' (.arr 1 v [.int .u64 (id:Int)]::pt b (.cells 1 [.map bk] false)::pt bk (r7 id b1 clock w)::S):=by
 refine Call.of_wp (I.wt.wr.w.free _ rfl) Tryz.func82 rfl rfl (zK 7 rfl (zc rfl (U4 I J s) ?_))
 intro v h s
 refine zk 5 rfl (zc rfl (Sc I.wt.wr.w s) ?_)
 rintro v' h' ⟨rfl,rfl⟩
 exact zk 6 rfl (WP.ret ⟨aa,_,rfl,s⟩)
theorem M6 (hn:n<1000)(s:Sat h S): ∃v h1,makeSliceV Tryz.prog h 33 (.int .i64 0) (.int .i64 (n:Int))=some (v,h1)∧Sat h1 (.arr 1 v []::S):=by
 obtain⟨i1,I,J,qg⟩:=vJ
 have s1:=s.new (.cells (n*1) (repeatL [V.int .u64 0] n) false)
 refine⟨.sl h.next 0 0 (.exact n),_,?_,s1.iu fun m r hm=>⟨rfl,.inr ⟨h.next,0,.exact n,n*1,repeatL [V.int .u64 0] n,rfl,hm,rfl,?_,?_,rfl,ew _⟩⟩⟩
 ·simp only[makeSliceV,lB,I,Ab,V.cells,bz,cG,J]
  rw[show(decide ((0:Int)≤0)&&decide ((0:Int)≤(n:Int))&&decide ((n:Int)<1073741824)&&Nat.ble i1.bytes 4096&&Nat.beq (0+1) 1&&Nat.ble 1 1)=true by
   rw[aL.2 qg,eE (show(n:Int)<1073741824 by omega),eE (show(0:Int)≤(n:Int) by omega)];rfl,ah]
  rfl
 ·rw[oS];simp
 ·exact xR rfl n
theorem EE (hT:WO told)(s:Sat h (fP m a nx u [(id,rr,A)]::S)):
  Call ⟨Tryz.prog,told⟩ 37 [.ptr m 0] h fun v h'=>Sat h' (.arr 1 v [.int .u64 (id:Int)]::fP m a nx u [(id,rr,A)]::S):=by
 have hW:=hT.wt.wr.w
 obtain⟨av,s⟩:=dI.1 s
 have s:=s.ae [1]
 obtain⟨bk,l,c,rfl,I,ju,s⟩:=eT.1 s
 match l with
 |[]=>obtain⟨_,_,_,_,J⟩:=s.at (k:=1) rfl;exact J.elim
 |e1::e2::l=>obtain⟨_,_,_,_,J⟩:=s.at (k:=1) rfl;exact J.2.elim
 |[(k1,w1,b1)] =>
  have adA:=I
  obtain⟨_,sj,_⟩:=I
  have vb:k1=(id:Int):=by
   obtain⟨_,_,_,_,J⟩:=s.at (k:=1) rfl
   exact J.1.1
  subst vb
  have s:Sat h (pt bk (r7 id b1 c w1)::_):=s
  have s:=s.ae [2]
  refine Call.of_wp (hW.free _ rfl) Tryz.func37 rfl rfl (zK 8 rfl (zY s 0 iZ kr rfl (zc rfl (yE hW s) ?_)))
  rintro v h ⟨b,rfl,s⟩
  have s:=s.ae [0,1]
  refine zc rfl (OU hT sj s) ?_
  intro v h s
  obtain⟨i1,kA,jE,qg⟩:=vJ
  obtain⟨mv,h1,e1,s1⟩:=M6 (n:=1) (by decide) s
  obtain⟨w,h2,e2,s2⟩:=gU s1 lB kA Ab jE qg rfl (by decide) (by show 0+1≤1073741824;decide)
  refine zk 5 rfl (zo rfl (aP rfl rfl rfl (s.fR (j:=0) (n:=1) rfl rfl (by decide) lB)) ?_)
  refine au.any rfl rfl rfl (OpR.of (R:=fun v h'=>v=mv∧h'=h1) (tu rfl rfl e1) ⟨rfl,rfl⟩) ?_
  rintro mv h1 ⟨rfl,rfl⟩
  refine zm rfl (au.any rfl rfl rfl (OpR.of (R:=fun v h'=>v=w∧h'=h2) (mI rfl rfl e2) ⟨rfl,rfl⟩) ?_)
  rintro w h2 ⟨rfl,rfl⟩
  refine zk 2 rfl (WP.ret ⟨aa,_,rfl,?_⟩)
  have s:=s2.ae [3,4]
  have s:Sat _ (jv .u64 (fun v (r:Nat)=>.pu (v=.ptr r 0)) (.map bk) ([(id,rr,A)].map fun e=>((e.1:Int),e.2.1))::_):=eT.2 ⟨bk,[((id:Int),w1,b1)],c,rfl,adA,ju,s⟩
  have s:=s.ae [4,0,3]
  have s:Sat _ (fP m a nx u [(id,rr,A)]::_):=dI.2 ⟨.map bk,s⟩
  exact((s.ae [1]).del 3).del 2
theorem OV (hT:WO told)(s:Sat h (fP m a nx u []::S)):
  Call ⟨Tryz.prog,told⟩ 37 [.ptr m 0] h fun v h'=>Sat h' (.arr 1 v []::fP m a nx u []::S):=by
 have hW:=hT.wt.wr.w
 obtain⟨av,s⟩:=dI.1 s
 have s:=s.ae [1]
 obtain⟨bk,l,c,rfl,I,J,s⟩:=eT.1 s
 match l with
 |e1::l=>obtain⟨_,_,_,_,h3⟩:=s.at (k:=1) rfl;exact h3.elim
 |[] =>
  have s:Sat h (pt bk (.map [] c)::_):=s
  have s:=s.ae [2]
  refine Call.of_wp (hW.free _ rfl) Tryz.func37 rfl rfl (zK 8 rfl (zY s 0 iZ kr rfl (zc rfl (yE hW s) ?_)))
  rintro v h ⟨b,rfl,s⟩
  have s:=s.ae [0,1]
  refine zc rfl (yD hT s) ?_
  rintro v h ⟨rfl,s⟩
  obtain⟨i1,kA,jE,qg⟩:=vJ
  obtain⟨mv,h1,e1,s1⟩:=M6 (n:=0) (by decide) (s.kg (k:=1))
  obtain⟨w,h2,e2,s2⟩:=gU s1 lB kA Ab jE qg rfl (by decide) (by show 0+0≤1073741824;decide)
  refine zk 5 rfl (zo rfl (aP rfl rfl rfl (o_ rfl lB)) (au.any rfl rfl rfl (OpR.of (R:=fun v h'=>v=mv∧h'=h1) (tu rfl rfl e1) ⟨rfl,rfl⟩) ?_))
  rintro mv h1 ⟨rfl,rfl⟩
  refine zm rfl (au.any rfl rfl rfl (OpR.of (R:=fun v h'=>v=w∧h'=h2) (mI rfl rfl e2) ⟨rfl,rfl⟩) ?_)
  rintro w h2 ⟨rfl,rfl⟩
  refine zk 2 rfl (WP.ret ⟨aa,_,rfl,?_⟩)
  have s:=s2.ae [3,4]
  have s:Sat _ (jv .u64 (fun v (r:Nat)=>.pu (v=.ptr r 0)) (.map bk) (([]:mL).map fun e=>((e.1:Int),e.2.1))::_):=eT.2 ⟨bk,[],c,rfl,I,J,s⟩
  have s:=s.ae [4,0,3]
  have s:Sat _ (fP m a nx u []::_):=dI.2 ⟨.map bk,s⟩
  exact((s.ae [1]).del 3).del 2
end
inductive EF : Nat→List bV→Prop where
 |nil {k:Nat}:EF k []
 |cons {k kd l:Nat} {c c':List bZ} {rs:List bV} (hk:kd=3∨kd=4) (h:EF (k+1) rs):EF k (⟨1,k+1,0,0,[],c⟩::⟨kd,k+1,l,0,[],c'⟩::rs)
theorem EF.app {kd:Nat}{c c':List bZ}(h:EF k rs): ∀ {n:Nat},rs.length=2*n→(kd=3∨kd=4)→EF k (rs++[⟨1,k+n+1,0,0,[],c⟩,⟨kd,k+n+1,l,0,[],c'⟩]):=by
 induction h with
 |nil =>
  intro n I J
  obtain rfl:n=0:=by simp at I;omega
  exact .cons J .nil
 |cons J h ih =>
  intro n I w8
  obtain⟨n,rfl⟩:∃m,n=m+1:=⟨n-1,by simp at I;omega⟩
  have:=ih (n:=n) (by simp at I;omega) w8
  rw[show ∀k:Nat,k+1+n+1=k+(n+1)+1 from fun k=>by omega] at this
  exact .cons J this
section
variable {told:cJ} {p m t Sd:Nat} {op ch:V}
theorem Yk (hT:W told)(h1:1≤nx)(h2:nx≤1000000)(J:(dx ((1:Nat):Int) nx Sd sK dt ch).all storable=true)(s:Sat h (fP m a nx u []::S)):
  Call ⟨Tryz.prog,told⟩ 81 [.ptr m 0,.agg (dx ((1:Nat):Int) nx Sd sK dt ch),.int .u64 (t:Int)] h fun v h'=>v=.aQ []∧∃rr,Sat h' (fP m a (nx+1) u [(nx,rr,⟨t,t,t,[],[],[]⟩)]::S):=by
 obtain⟨av,s⟩:=dI.1 s
 refine Call.of_wp (hT.free _ rfl) Ki rfl rfl (zg rfl (au.bD s rfl rfl rfl (dB rfl J) ?_))
 intro p4 h s
 refine zk 4 rfl (zY s 0 kH dL rfl (zC rfl dm (by simp;omega) ?_))
 refine zm rfl (zY s 0 jh dJ rfl (zC rfl fN (rfl) (zk 5 rfl (WP.drawn [af,af,af,af,af,af,af,af,af,af,af,af] rfl (by kernel_rfl) (by kernel_rfl) ?_))))
 refine zM rfl (zM rfl (zN rfl (zF rfl (rD _ _) (zL rfl (s.ld (k:=1) rfl dL rfl) (zF rfl (kH _ _) (zL rfl (s.ld (k:=0) rfl dL rfl) (zO rfl (ay (r:=.int .u64 ((nx+1:Nat):Int)) rfl rfl (by rw[show((nx+1:Nat):Int)=(nx:Int)+1 by omega];exact bf (eP (by omega) (by omega)))) ?_)))))))
 refine zO rfl (Ti (r:=.int .u64 ((nx+1:Nat):Int)) rfl rfl (Uw.trans (by rw[show max (nx:Int) ((nx+1:Nat):Int)=((nx+1:Nat):Int) by omega]))) ?_
 refine zN rfl (zF rfl (rD _ _) (az.gh rfl rfl rfl (OpR.fM rfl rfl rfl (s.dK (k:=1) rfl kD rfl (by decide) rfl rfl)) ?_))
 rintro w h ⟨rfl,s⟩
 refine az.nil ⟨⟨aa,aa,aa,aa,aa,aa,aa,aa,aa,aa,aa,aa,aa⟩,?_⟩
 refine zK 3 rfl (zY s 0 jh dJ rfl (zC rfl dm (rfl) (zm rfl (zY s 0 jh dJ rfl (zC rfl dm (rfl) (zk 5 rfl (WP.drawn [af,af,af,af,af,af,af,af] rfl (by kernel_rfl) (by kernel_rfl) ?_)))))))
 refine zM rfl (zN rfl (zF rfl (iZ _ _) (zL rfl (s.ld (k:=1) rfl kr rfl) (zF rfl (kH _ _) (zL rfl (s.ld (k:=0) rfl dL rfl) ?_)))))
 have gE:dX Tryz.prog h 142 av (.int .u64 (nx:Int)) false=some .bq:=by
  rcases iE (n:=(nx:Int)) (fun _ _=>bg.pu _) (s.ae [2]) mT bR HN with⟨_,_,g3⟩|⟨uu,y,g1,_⟩
  ·exact g3
  ·cases g1
 refine zO rfl (fQ rfl rfl gE) (zA rfl ?_)
 refine az.nil ⟨⟨aa,aa,aa,aa,aa,aa,aa,aa,aa⟩,?_⟩
 refine zK 4 rfl (zB rfl (V6 xu) (rfl) (zk 4 rfl (zY s 0 kH dL rfl (zm rfl ?_))))
 refine au.sQ s rfl rfl rfl rfl (fun p52 h s => ?_)
 refine zo rfl (cj rfl (by rw[VK];rfl)) ?_
 refine au.bD s rfl rfl rfl (dB rfl rfl) (fun I h s => ?_)
 refine zk 2 rfl ?_
 have s:=s.ae [3]
 refine WP.drawn [af,af,af,af,af,af,af,af] rfl (by kernel_rfl) (by kernel_rfl) ?_
 refine zM rfl (zN rfl (zF rfl (iZ _ _) (zL rfl (s.ld (k:=0) rfl kr rfl) (zF rfl (kH _ _) (zL rfl (s.ld (k:=3) rfl dL rfl) (zM rfl (az.gh rfl rfl rfl (OpR.mapUpdate rfl rfl rfl rfl (lH (n:=(nx:Int)) (f:=fun v (r:Nat)=>.pu (v=.ptr r 0)) (x:=I) (fun _ _=>bg.pu _) ((s.ae [4]).fB rfl) mT bR)) ?_)))))))
 intro _ h s
 dsimp only[V.cells,List.take,List.length_cons,List.length_nil,Nat.reduceAdd,List.drop,List.cons_append,List.nil_append,dx,List.set,setA,bringA,getA,aE] at s
 refine az.nil ⟨⟨aa,aa,aa,aa,aa,aa,aa,aa,aa⟩,?_⟩
 refine zK 6 rfl (zf rfl (wZ _ _) ?_)
 refine zS rfl (by exact s.dK (k:=2) rfl kD rfl (by decide) rfl rfl) (fun h s => ?_)
 refine zn rfl (zf rfl (pV _ _) ?_)
 refine zS rfl (by exact s.dK (k:=2) rfl kD rfl (by decide) rfl rfl) (fun h s => ?_)
 refine zv ?_
 have s:=pq (f:=fun v (_:Unit)=>.pu (v=.agg [])) (s.ae [3])
 have s:=(s.kg (k:=2)).kg (k:=1)
 have s:=s.ae [5,0,0,0]
 have s:Sat h (pH I nx ⟨t,t,t,[],[],[]⟩::_):=kn.2 ⟨.aY,.aY,.map p52,s⟩
 have s:=JV (s.ae [0,3])
 have s:=s.ae [2,1,0]
 have s:Sat h (fP m a (nx+1) u [(nx,I,⟨t,t,t,[],[],[]⟩)]::_):=dI.2 ⟨av,s⟩
 exact⟨aa,_,rfl,rfl,I,s.del 1⟩
theorem Yl (hT:W told){kd:Nat}(hk:kd=3∨kd=4)(h1:1≤id)(h2:id≤1000000)(I:(dx (kd:Int) id Sd sK dt ch).all storable=true)(s:Sat h (fP m a (id+1) u [(id,rr,A)]::S)):
  Call ⟨Tryz.prog,told⟩ 81 [.ptr m 0,.agg (dx (kd:Int) id Sd sK dt ch),.int .u64 (t:Int)] h fun v h'=>v=.aQ []∧Sat h' (fP m a (id+1) u []::S):=by
 obtain⟨av,s⟩:=dI.1 s
 obtain⟨gE,J⟩:=vI (i:=0) rfl (s.ae [1])
 refine Call.of_wp (hT.free _ rfl) Ki rfl rfl (zg rfl (au.bD s rfl rfl rfl (dB rfl I) ?_))
 intro p4 h s
 refine zk 4 rfl (zY s 0 kH dL rfl (zC rfl dm (by simp;omega) ?_))
 refine zm rfl (zY s 0 jh dJ rfl (zC rfl fN (by simp;omega) ?_))
 refine zk 5 rfl (WP.drawn [af,af,af,af,af,af,af,af,af,af,af,af] rfl (by kernel_rfl) (by kernel_rfl) ?_)
 refine zM rfl (zM rfl (zN rfl (zF rfl (rD _ _) (zL rfl (s.ld (k:=1) rfl dL rfl) (zF rfl (kH _ _) (zL rfl (s.ld (k:=0) rfl dL rfl) (zO rfl (ay (r:=.int .u64 ((id+1:Nat):Int)) rfl rfl (by rw[show((id+1:Nat):Int)=(id:Int)+1 by omega];exact bf (eP (by omega) (by omega)))) ?_)))))))
 refine zO rfl (Ti (r:=.int .u64 ((id+1:Nat):Int)) rfl rfl (Uw.trans (by rw[show max ((id+1:Nat):Int) ((id+1:Nat):Int)=((id+1:Nat):Int) by omega]))) ?_
 refine zN rfl (zF rfl (rD _ _) (az.gh rfl rfl rfl (OpR.fM rfl rfl rfl (s.dK (k:=1) rfl kD rfl (by decide) rfl rfl)) ?_))
 rintro w h ⟨rfl,s⟩
 refine az.nil ⟨⟨aa,aa,aa,aa,aa,aa,aa,aa,aa,aa,aa,aa,aa⟩,?_⟩
 refine zK 3 rfl (zY s 0 jh dJ rfl ?_)
 have fin:∀ {h:H},Sat h (jv .u64 (fun v (r:Nat)=>.pu (v=.ptr r 0)) av (lG (id:Int) ([(id,rr,A)].map fun e=>((e.1:Int),e.2.1)))::pt p4 (.cells 6 (dx (kd:Int) id Sd sK dt ch) false)::pt m (.cells 4 [.ptr a 0,u,av,.int .u64 ((id+1:Nat):Int)] false)::jX [(id,rr,A)]::S)→Sat h (fP m a (id+1) u []::S):=by
  intro h s
  rw[AV (i:=0) rfl J] at s
  have s:Sat h (jX []::_):=(s.fB (φ:=True) aa)
  have s:=s.ae [3,1,0]
  have s:Sat h (fP m a (id+1) u []::_):=dI.2 ⟨av,s⟩
  exact(s.del 2).del 1
 rcases hk with rfl|rfl
 ·skip
  refine zB rfl dm (rfl) (zk 8 rfl (WP.drawn [af,af,af,af,af,af,af] rfl (by kernel_rfl) (by kernel_rfl) ?_))
  refine zM rfl (zN rfl (zF rfl (iZ _ _) (zL rfl (s.ld (k:=1) rfl kr rfl) (zF rfl (kH _ _) (zL rfl (s.ld (k:=0) rfl dL rfl) (az.gh rfl rfl rfl (OpR.delete rfl rfl rfl rfl (xU (n:=(id:Int)) (s.ae [2]) mT bR)) ?_))))))
  intro _ h s
  refine az.nil ⟨⟨aa,aa,aa,aa,aa,aa,aa,aa⟩,?_⟩
  refine WP.ret ⟨aa,_,rfl,?_⟩
  exact⟨rfl,fin s⟩
 ·skip
  refine zC rfl dm (rfl) (zm rfl (zY s 0 jh dJ rfl (zB rfl dm (rfl) (zk 4 rfl (WP.drawn [af,af,af,af,af,af,af] rfl (by kernel_rfl) (by kernel_rfl) ?_)))))
  refine zM rfl (zN rfl (zF rfl (iZ _ _) (zL rfl (s.ld (k:=1) rfl kr rfl) (zF rfl (kH _ _) (zL rfl (s.ld (k:=0) rfl dL rfl) (az.gh rfl rfl rfl (OpR.delete rfl rfl rfl rfl (xU (n:=(id:Int)) (s.ae [2]) mT bR)) ?_))))))
  intro _ h s
  refine az.nil ⟨⟨aa,aa,aa,aa,aa,aa,aa,aa⟩,?_⟩
  refine WP.ret ⟨aa,_,rfl,?_⟩
  exact⟨rfl,fin s⟩
theorem Lu (hT:WO told)(hl:LR ba ck mk rs ε.2)(qO:ε.2.1.Ok): ∀(J:List bV) (k:Nat),EF k J→∀(R1:List bV) (h:H) (E:List (Nat×V)) (Q:Ex→List (Nat×V)→H→Prop),rs=R1++J→k+J.length≤1000→Sat h (fP m a (k+1) u []::dA a p q r op data aH::bS q p ε.2.1::S) →
  Has E [(0,.ptr a 0),(6,.ptr m 0),(9,.int .u64 ((ba+szB R1:Nat):Int))]→(∀E' h',Has E' [(0,.ptr a 0),(6,.ptr m 0)]→Sat h' (fP m a (k+J.length/2+1) u []::dA a p q r op data aH::bS q p ε.2.1::S)→Q (.exit 0) E' h')→WP ⟨Tryz.prog,told⟩ 105 (.loop toL) E h Q:=by
 have hW:=hT.wt.wr.w
 intro J k hp
 induction hp with
 |nil =>
  intro R1 h E Q oz _ s hE hq
  rw[eZ] at oz
  subst oz
  have uL:((ba+szB rs:Nat):Int)=(ε.2.1.base:Int)+(ε.2.1.b.length:Int):=by rw[hl.base,hl.b,fZ];omega
  refine WP.loop (WP.has hE ?_)
  have s:=s.ae [1]
  dsimp only[bringA,getA,aE] at s
  refine WP.block (zK 3 rfl (zc rfl (ou hW s) ?_))
  rintro v h' ⟨rfl,rfl⟩
  rw[uL]
  refine zm rfl (zc rfl (AA hW (s.ae [2]) qO) ?_)
  rintro v h ⟨rfl,s⟩
  refine zk 4 rfl ?_
  refine au.bD s rfl rfl rfl (bI jC) (fun GI h s => ?_)
  dsimp only[V.cells,List.length_cons,List.length_nil,Nat.reduceAdd,aE,bringA] at s
  refine zS rfl (s.eS (j:=0) rfl dD rfl rfl) (fun h s => ?_)
  dsimp only[dx,setA] at s
  exact zk 7 rfl (zB rfl aD (rfl) (zk 2 rfl (WP.exit (hq _ _ ⟨rfl,rfl,aa⟩ ((s.ae [3,2,1]).del 3)))))
 |@cons k kd l c c' J hk _ ih =>
  intro R1 h E Q oz hn s hE hq
  simp only[bz] at hn
  refine WP.loop (WP.has hE ?_)
  have s:=s.ae [1]
  dsimp only[bringA,getA,aE] at s
  refine WP.block (zK 3 rfl (zc rfl (ou hW s) ?_))
  rintro v h' ⟨rfl,rfl⟩
  refine zm rfl (zc rfl (yC hT.wt.wr (cy:=R1) (ey:=⟨kd,k+1,l,0,[],c'⟩::J) (y:=⟨1,k+1,0,0,[],c⟩) (by rw[←oz];exact hl) qO (s.ae [2])) ?_)
  rintro v h ⟨dt,ch,cs',rfl,s⟩
  dsimp only at s
  have fo:(V.agg (dx ((1:Nat):Int) (k+1) 0 0 dt ch)).cells.all storable=true:=jc (s.buf (k:=1) rfl).view.cells.2 (s.iz (j:=2) rfl).2.1
  refine zk 4 rfl ?_
  refine au.bD s rfl rfl rfl (bI jC) (fun GI h s => ?_)
  dsimp only[V.cells,List.length_cons,List.length_nil,Nat.reduceAdd,aE,bringA] at s
  refine zS rfl (s.eS (j:=0) rfl dD rfl fo) ?_
  intro h s
  dsimp only[dx,setA] at s
  refine zk 7 rfl (zC rfl aD (rfl) (zk 6 rfl (zl rfl (s.cV (k:=0) rfl iJ dD) (zm rfl (zc rfl (Yk hW (t:=ba+szB R1) (nx:=k+1) (by omega) (by omega) fo (s.ae [6])) ?_)))))
  rintro v h ⟨rfl,rr,s⟩
  have s:=((s.ae [6,0,1]).del 6 |>.del 5 |>.del 4 |>.del 3)
  dsimp only[aE,bringA,getA] at s
  obtain⟨R3,hR3⟩:∃z,z=R1++[bV.mk 1 (k+1) 0 0 [] c]:=⟨_,rfl⟩
  obtain⟨I,Wt⟩:∃z,z=bV.mk kd (k+1) l 0 [] c':=⟨_,rfl⟩
  have e1:ba+szB R1+(bV.mk 1 (k+1) 0 0 [] c).len=ba+szB R3:=by rw[hR3,iI,ow,j6]
  have F0:rs=R3++I::J:=by rw[oz,hR3,Wt,cT];rfl
  have gE:LR ba ck mk (R3++I::J) ε.2:=by rw[←F0];exact hl
  refine zv (zr rfl (zk 2 rfl (zv (WP.loop (WP.has (F:=[(0,.ptr a 0),(6,.ptr m 0),(9,.int .u64 ((ba+szB R3:Nat):Int))]) ⟨rfl,rfl,by rw[←e1];rfl,aa⟩ ?_)))))
  refine WP.block (zK 3 rfl (zc rfl (ou hW s) ?_))
  rintro v h' ⟨rfl,rfl⟩
  refine zm rfl (zc rfl (yC hT.wt.wr gE qO (s.ae [2])) ?_)
  rintro v h ⟨dt,ch,cs',rfl,s⟩
  have q1:(I.kd:Int)=(kd:Int)∧(I.tx:Int)=((k+1:Nat):Int)∧I.data=[]:=by rw[Wt];exact⟨rfl,rfl,rfl⟩
  have fo:(V.agg (dx (I.kd:Int) I.tx I.pv I.nx dt ch)).cells.all storable=true:=jc (s.buf (k:=1) rfl).view.cells.2 (s.iz (j:=2) rfl).2.1
  refine zk 4 rfl ?_
  refine au.bD s rfl rfl rfl (bI jC) (fun GI h s => ?_)
  dsimp only[V.cells,List.length_cons,List.length_nil,Nat.reduceAdd,aE,bringA] at s
  refine zS rfl (s.eS (j:=0) rfl dD rfl fo) ?_
  intro h s
  dsimp only[dx,setA] at s
  refine zk 7 rfl (zC rfl aD (rfl) (zk 6 rfl (zl rfl (s.cV (k:=0) rfl iJ dD) (zm rfl ?_))))
  have e3:I.tx=k+1:=by rw[Wt]
  have e4:I.kd=3∨I.kd=4:=by rw[Wt];exact hk
  rw[←e3] at s
  refine zc rfl (Yl hW (t:=ba+szB R3) (id:=I.tx) e4 (by omega) (by omega) fo (s.ae [6])) ?_
  rintro v h ⟨rfl,s⟩
  have s:=((s.ae [0,5,1]).del 6 |>.del 5 |>.del 4 |>.del 3)
  dsimp only[aE,bringA,getA] at s
  rw[e3] at s
  refine zv (zr rfl (zk 2 rfl (zv ?_)))
  exact ih (R3++[I]) _ _ Q (by rw[F0,cT];rfl) (by omega) s ⟨rfl,rfl,by rw[iI,ow,←j6];rfl,aa⟩ fun E' h' fE s'=>hq E' h' fE (by
   have e2:k+(J.length+1+1)/2+1=k+1+J.length/2+1:=by omega
   simp only[bz]
   rw[e2];exact s')
theorem Hg (hT:WO told)(hl:LR ba ck mk rs ε.2)(qO:ε.2.1.Ok)(hp:EF 0 rs)(hn:rs.length≤1000)(s:Sat h (SA a p q r .bq [] 0 ε::S)):
  Call ⟨Tryz.prog,told⟩ 36 [.ptr a 0,.gO] h fun v h'=>∃m,v=.aQ [.ptr m 0,.int .i64 0]∧Sat h' (fP m a (rs.length/2+1) .gO []::SA a p q r .bq [] 0 ε::S):=by
 have I:=hT.wt.wr.w
 refine Call.of_wp (I.free _ rfl) Tryz.func36 rfl rfl (zK 9 rfl ?_)
 refine au.sQ s rfl rfl rfl rfl (fun J h s => ?_)
 refine zo rfl (cj (r:=.agg [.ptr a 0,.gO,.map J,.int .u64 ((1:Nat):Int)]) rfl (by rw[VI];rfl)) ?_
 refine au.bD s rfl rfl rfl (dB rfl rfl) ?_
 intro m h s
 have s:=CL (κ:=.u64) (f:=fun v (r:Nat)=>.pu (v=.ptr r 0)) (s.ae [1])
 have s:Sat _ (jX []::_):=(s.fB (φ:=True) aa)
 have s:=s.ae [2,1,0]
 have s:Sat _ (fP m a 1 .gO []::_):=dI.2 ⟨.map J,s⟩
 have s:=aM.1 (s.ae [1])
 refine zk 6 rfl (zc rfl (Ec I s (by decide)) ?_)
 rintro v h ⟨w,rfl,s⟩
 refine zk 9 rfl (zo rfl (aP rfl rfl rfl (aW aJ (s.aG (k:=0) rfl (aN _ _)))) (zC rfl dm (by simp) ?_))
 refine zk 7 rfl ?_
 have s:=s.ae [1]
 refine zc rfl (ou I s) ?_
 rintro v h' ⟨rfl,rfl⟩
 refine zc rfl (sC I (s.ae [3])) ?_
 rintro v h' ⟨rfl,rfl⟩
 rw[hl.base]
 refine zk 2 rfl (WP.block ?_)
 have s:=s.ae [5,0,2]
 refine Lu hT hl qO rs 0 hp [] _ _ _ rfl (by omega) s ⟨rfl,rfl,by rw[szB,l8];rfl,aa⟩ fun E' h' fE s' => ?_
 have s:=s'
 rw[fy] at s
 generalize rs.length/2+1=nx at s
 obtain⟨av,s⟩:=dI.1 s
 have s:=s.ae [1]
 obtain⟨bk,l,cl,rfl,hbr,ju,s⟩:=eT.1 s
 match l with
 |e1::l=>obtain⟨_,_,_,_,h3⟩:=s.at (k:=1) rfl;exact h3.elim
 |[] =>
  have s:Sat h' (pt bk (.map [] cl)::_):=s
  have s:=s.ae [2]
  refine WP.has fE (zg rfl ?_)
  refine au.bD s rfl rfl rfl (bI VM) (fun p13 h s => ?_)
  refine zk 6 rfl (zY s 1 iZ kr rfl (zc rfl (yE I s) ?_))
  rintro v h ⟨b,rfl,s⟩
  have s:=s.ae [0,2]
  refine zc rfl (yD hT s) ?_
  rintro v h ⟨rfl,s⟩
  refine zo rfl (aP rfl rfl rfl (o_ rfl lB)) (zk 2 rfl (WP.block (WP.loop (zg rfl (zC rfl aT (by decide) ?_)))))
  refine zk 3 rfl (WP.exit (zw (WP.block (WP.loop (zK 3 rfl (zy s 2 VL rfl (zc rfl (Kt I) ?_)))))))
  rintro v h' ⟨rfl,rfl⟩
  refine zC rfl fN (by decide) ?_
  refine zk 2 rfl (WP.exit (zK 6 rfl (WP.ret ⟨aa,_,rfl,?_⟩)))
  have s:=s.ae [3,1,2,2]
  have s:Sat _ (jv .u64 (fun v (r:Nat)=>.pu (v=.ptr r 0)) (.map bk) (([]:mL).map fun e=>((e.1:Int),e.2.1))::_):=eT.2 ⟨bk,[],cl,rfl,hbr,ju,s.ae [1,1]⟩
  have s:=s.ae [1,0,0]
  have s:Sat _ (fP m a nx .gO []::_):=dI.2 ⟨.map bk,s⟩
  have s:=s.ae [3,5,3,4]
  dsimp only[V.cells,List.length_cons,List.length_nil,Nat.reduceAdd,aE,bringA,getA] at s
  have s:Sat _ (SA a p q r .bq [] 0 ε::_):=aM.2 s
  exact⟨m,rfl,((s.ae [1]).del 4 |>.del 3 |>.del 2)⟩
end
section
variable {told:cJ} {p m:Nat} {cs:List bZ}
theorem OW (hT:W told)(hx:lookL (id:Int) (L.map fun e=>((e.1:Int),e.2.1))=none)(s:Sat h (fP m a nx u L::S)):
  Call ⟨Tryz.prog,told⟩ 41 [.ptr m 0,.int .u64 (id:Int),.ptr g 0,dt] h fun v h'=>v=.int .i64 12∧Sat h' (fP m a nx u L::S):=by
 obtain⟨av,s⟩:=dI.1 s
 have I:dX Tryz.prog h 142 av (.int .u64 (id:Int)) false=some .bq:=by
  rcases iE (n:=(id:Int)) (fun _ _=>bg.pu _) (s.ae [1]) mT bR HN with⟨_,_,g3⟩|⟨uu,y,J,_⟩
  ·exact g3
  ·rw[hx] at J;cases J
 exact Call.of_wp (hT.free _ rfl) Tryz.func41 rfl rfl (zK 8 rfl (zY s 0 iZ kr rfl (zm rfl (zo rfl (fQ rfl rfl I) (zk 6 rfl (zB rfl (V6 xu) (rfl) (zk 6 rfl (WP.ret ⟨aa,_,rfl,rfl,dI.2 ⟨av,s⟩⟩))))))))
set_option maxHeartbeats 1000000 in
theorem U5 (hT:WT told)(hI:ic N B M ba ck mk rs ε)(Kk:1≤ba)(J:rs=cy++⟨1,tx,0,0,[],cs⟩::ey)
 (s:Sat h (pt m (.cells 4 [.ptr a 0,u,av,.int .u64 (nx:Int)] false)::pt rr (.cells 7 (oD id f l (ba+szB cy) mv dv vH) false)::SA a p q r .bq data aH ε::S)):
  Call ⟨Tryz.prog,told⟩ 87 [.ptr m 0,.ptr rr 0] h fun v h'=>v=.int .i64 0 ∧
   Sat h' (pt m (.cells 4 [.ptr a 0,u,av,.int .u64 (nx:Int)] false)::pt rr (.cells 7 (oD id f l 0 mv dv vH) false)::SA a p q r .bq data aH ε::S):=by
 have hW:=hT.wr.w
 have eL:szB cy≤szB rs:=by rw[J,iI];omega
 have qO:ε.2.1.Ok:=hI.ei.ok.ok.lg
 refine Call.of_wp (hW.free _ rfl) Tryz.func87 rfl rfl (zg rfl (au.bD s rfl rfl rfl (dB rfl rfl) ?_))
 intro p2 h s
 dsimp only[V.cells,List.length_cons,List.length_nil,Nat.reduceAdd,oD] at s
 refine au.bD s rfl rfl rfl (dB rfl rfl) ?_
 intro p3 h s
 dsimp only[Nat.reduceAdd,V.cells,List.length_cons,List.length_nil] at s
 have s:=aM.1 (s.ae [4])
 dsimp only[aE,bringA,List.cons_append,List.nil_append] at s
 refine za rfl (zv (zw ?_))
 have s0:=s
 refine WP.drawn [af,af,af,af,af,some (0,2),some (0,2),some (0,2),some (0,2),none,some (2,2),some (2,2),some (2,3),some (2,3),af,af,af,af] rfl (by kernel_rfl) (by kernel_rfl) ?_
 refine zL rfl (by exact s.ld (k:=5) rfl ry rfl) ?_
 refine zN rfl (zF rfl (rC _ _) (zL rfl (by exact s.ld (k:=6) rfl o9 rfl) ?_))
 refine az.any rfl rfl rfl rfl (OpR.call rfl rfl rfl rfl (ou hW s)) ?_
 rintro v h' ⟨rfl,rfl⟩
 refine zL rfl (by exact s.ld (k:=4) rfl tv rfl) ?_
 refine zN rfl (zF rfl (pV _ _) (zL rfl (by exact s.ld (k:=7) rfl dL rfl) ?_))
 refine az.any rfl rfl rfl rfl (OpR.call rfl rfl rfl rfl (yC hT.wr (cy:=cy) (ey:=ey) (y:=⟨1,tx,0,0,[],cs⟩) (by rw[←J];exact hI.lr) qO (s.ae [2]))) ?_
 rintro v h ⟨dt,ch,cs',rfl,s⟩
 dsimp only at s
 have iP:=(s.buf (k:=1) rfl).view.cells
 have jx:=s.iz (j:=2) rfl
 have hib:∀(k:IntKind) (z:Int),V.beq (.int k z) (.int k z)=true:=fun k z=>aS _ rfl
 have I:V.beq (.agg (dx (1:Nat) tx 0 0 dt ch)) (.agg (dx (1:Nat) tx 0 0 dt ch))=true:=by
  show V.beqL (dx (1:Nat) tx 0 0 dt ch) (dx (1:Nat) tx 0 0 dt ch)=true
  unfold dx
  simp only[V.beqL,hib,cX (s.buf (k:=1) rfl).view,jx.2.2,ah]
 have adB:∀ {z w:Int},V.beq (.aQ [.agg (dx (1:Nat) tx 0 0 dt ch),.int .u64 z,.int .i64 w]) (.aQ [.agg (dx (1:Nat) tx 0 0 dt ch),.int .u64 z,.int .i64 w])=true:=by
  intro z w
  show V.beqL _ _=true
  simp only[V.beqL,I,hib,ah]
 have fo:(V.agg (dx (1:Nat) tx 0 0 dt ch)).cells.all storable=true:=jc iP.2 jx.2.1
 dsimp only[aE,bringA] at s
 refine zM rfl (zO rfl (bY rfl rfl) (zO rfl (bY rfl rfl) (zO rfl (bY rfl rfl) (az.any rfl rfl rfl rfl (OpR.bD s (bI jC)) ?_))))
 rintro v h ⟨p5,rfl,s⟩
 dsimp only[V.cells,List.length_cons,List.length_nil,Nat.reduceAdd] at s
 refine az.gh rfl rfl rfl (OpR.fM rfl rfl rfl (s.eS (j:=0) rfl dD rfl fo)) ?_
 rintro w h ⟨rfl,s⟩
 dsimp only[dx,setA] at s
 refine zA rfl (zA rfl ?_)
 refine az.nil ⟨⟨aa,aa,aa,aa,aa,dZ (.inr ⟨rfl,⟨_,o_load rfl (by exact s0.ld (k:=4) rfl tv rfl)⟩,aS _ rfl⟩) (.inr ⟨rfl,⟨_,o_load rfl (by exact s0.ld (k:=4) rfl tv rfl)⟩,aS _ rfl⟩),fun _ _=>.inr ⟨rfl,⟨_,kT rfl⟩,aS _ rfl⟩,fun _ _=>.inr ⟨rfl,⟨_,jH rfl (pV _ _)⟩,aS _ rfl⟩,dZ (.inr ⟨rfl,⟨_,o_load rfl (by exact s0.ld (k:=7) rfl dL rfl)⟩,aS _ rfl⟩) (.inr ⟨rfl,⟨_,o_load rfl (by exact s0.ld (k:=7) rfl dL rfl)⟩,aS _ rfl⟩),aa,fun _ _=>.inr ⟨rfl,⟨_,bn rfl⟩,adB⟩,fun _ _=>.inr ⟨rfl,⟨_,bY rfl rfl⟩,I⟩,fun _ _=>.inr ⟨rfl,⟨_,bY rfl rfl⟩,aS _ rfl⟩,fun _ _=>.inr ⟨rfl,⟨_,bY rfl rfl⟩,aS _ rfl⟩,aa,aa,aa,aa,aa⟩,?_⟩
 have s:=s.ae [9,0,7,7,7]
 dsimp only[bringA,getA,aE] at s
 refine zw (zg rfl (zm rfl (au.kU rfl rfl rfl (ay rfl rfl aD) (rfl) (zv (zj rfl (WP.skip (zg rfl (zf rfl (Fw _ _) (zl rfl (by exact s.ld (k:=1) rfl dL rfl) ?_)))))))))
 refine au.bD s rfl rfl rfl (bI Ab) ?_
 intro p8 h s
 dsimp only[V.cells,List.length_cons,List.length_nil,Nat.reduceAdd] at s
 refine au.fM rfl rfl rfl rfl rfl (by exact s.dK (k:=0) rfl kD rfl (by decide) rfl rfl) (fun h s => ?_)
 dsimp only[List.set,setA] at s
 refine zv (zw (zg rfl (zf rfl (jh _ _) (zl rfl (by exact s.ld (k:=2) rfl dJ rfl) ?_))))
 refine au.kU rfl rfl rfl (ay rfl rfl dm) (rfl) (zv (zj rfl (WP.skip (zw (zw ?_)))))
 have s0:=s
 refine WP.drawn [af,af,af,af,af,af] rfl (by kernel_rfl) (by kernel_rfl) ?_
 refine zL rfl (by exact s.ld (k:=0) rfl dL rfl) ?_
 refine zL rfl (by exact s.ld (k:=3) rfl tv rfl) ?_
 refine zN rfl (zF rfl (pV _ _) (zL rfl (by exact s.ld (k:=5) rfl dL rfl) ?_))
 refine az.kU rfl rfl rfl rfl (ay rfl rfl jg) (by simp;omega) ?_
 refine az.nil ⟨⟨aa,aa,aa,aa,aa,aa,aa⟩,?_⟩
 refine zj rfl (WP.skip (zw (zg rfl (zf rfl (jh _ _) (zl rfl (by exact s.ld (k:=2) rfl dJ rfl) ?_)))))
 refine au.kU rfl rfl rfl (ay rfl rfl dm) (rfl) (zm rfl (zf rfl (tW _ _) (zl rfl (by exact s.ld (k:=2) rfl bJ rfl) ?_)))
 refine zo rfl (aP rfl rfl rfl (aW aJ (s.aG (k:=7) rfl (aN _ _)))) (au.vl rfl rfl rfl (ay rfl rfl dm) (rfl) (zp rfl (zv (zi rfl (zg rfl (zl rfl (by exact s.ld (k:=3) rfl tv rfl) ?_))))))
 refine zl rfl (by exact s.ld (k:=0) rfl dL rfl) ?_
 refine zn rfl (zf rfl (pV _ _) ?_)
 refine au.fM rfl rfl rfl rfl rfl (by exact s.dK (k:=5) rfl kD rfl (by decide) rfl rfl) (fun h s => ?_)
 dsimp only[Nat.reduceAdd,List.set,setA] at s
 refine zv (zg rfl (za rfl (zv ?_)))
 refine WP.ret ⟨aa,_,rfl,?_⟩
 have s:=s.ae [10,10,6,9]
 dsimp only[bringA,getA,aE] at s
 have s:Sat h (SA a p q r .bq data aH ε::_):=aM.2 s
 exact⟨rfl,((s.ae [5,5]).del 9 |>.del 8 |>.del 7 |>.del 6 |>.del 5 |>.del 4 |>.del 3)⟩
theorem U6 (hT:WT told)(hI:ic N B M ba ck mk rs ε)(I:1≤ba)(J:rs=cy++⟨1,tx,0,0,[],cs⟩::ey){dn:List (Nat×Nat)}(GG:dn.length≤1000)(hgt:∀d∈dn,0<d.1)
 (s:Sat h (pt m (.cells 4 [.ptr a 0,u,av,.int .u64 (nx:Int)] false)::pt rr (.cells 7 (oD id f l (ba+szB cy) mv dv vH) false)::SA a p q r .bq data aH ε::.arr 2 dv (mV dn)::S)):
  Call ⟨Tryz.prog,told⟩ 73 [.ptr m 0,.ptr rr 0,.int .u64 0] h fun v h'=>v=.int .i64 0∧∃dv',
   Sat h' (pt m (.cells 4 [.ptr a 0,u,av,.int .u64 (nx:Int)] false)::pt rr (.cells 7 (oD id f l 0 mv dv' vH) false)::SA a p q r .bq data aH ε::S):=by
 have hW:=hT.wr.w
 refine Call.of_wp (hW.free _ rfl) Tryz.func73 rfl rfl (zg rfl (au.bD s rfl rfl rfl (dB rfl rfl) ?_))
 intro b h s
 dsimp only[Nat.reduceAdd,V.cells,List.length_cons,List.length_nil,oD] at s
 refine zk 3 rfl (WP.block (WP.loop (zK 2 rfl ?_)))
 have s0:=s
 refine WP.drawn [af,af,af,af,af,af] rfl (by kernel_rfl) (by kernel_rfl) ?_
 refine zM rfl (zN rfl (zF rfl (pV _ _) (zL rfl (s.ld (k:=2) rfl dL rfl) (zL rfl (s.ld (k:=0) rfl dL rfl) (az.vl rfl rfl rfl rfl (ay rfl rfl fN) (by simp;omega) ?_)))))
 refine az.nil ⟨⟨aa,aa,aa,aa,aa,aa,aa⟩,?_⟩
 refine zK 2 rfl (WP.block (zK 4 rfl (zc rfl (U5 hT hI I J (s.ae [1,1,1])) ?_)))
 rintro v h ⟨rfl,s⟩
 refine za rfl (zv (zg rfl (zm rfl (zh rfl (ay rfl rfl aD) (rfl) (zv (zj rfl (WP.skip (WP.loop (zw (zw ?_))))))))))
 have s0:=s
 refine WP.drawn [af,af,af,af,af,af] rfl (by kernel_rfl) (by kernel_rfl) ?_
 refine zM rfl (zN rfl (zF rfl (pV _ _) (zL rfl (s.ld (k:=1) rfl dL rfl) (zL rfl (s.ld (k:=3) rfl dL rfl) (az.kU rfl rfl rfl rfl (ay rfl rfl fN) (by simp) ?_)))))
 refine az.nil ⟨⟨aa,aa,aa,aa,aa,aa,aa⟩,?_⟩
 refine zj rfl (WP.exit (zK 5 rfl (zY s 1 rE DL rfl (zo rfl (xQ rfl rfl) ?_))))
 have s:=s.ae [4,3]
 refine zc rfl (Ye (to:=0) hW GG hgt s) ?_
 rintro v h ⟨uK,qy,s⟩
 refine zn rfl (zf rfl (rE _ _) (zS rfl (s.dK (k:=2) rfl VJ rfl (show 0+5<7 by decide) uK qy) ?_))
 intro h s
 refine zk 5 rfl (WP.ret ⟨aa,_,rfl,?_⟩)
 exact⟨rfl,v,s.drop⟩
theorem Ku (hT:WT told)(hB:B≤900)(hI:ic N B M ba ck mk rs ε)(I:ba+szB rs≤1000000)(hN:N≤1024)(J:id<2097152)(hl:l<2097152)(oA:0<l)(hf:szB rs+40≤M){kd:Nat}(vb:3≤kd)(w8:kd≤4){F:V→Nat→aI}{m0:List (Int×Nat)}
 (s:Sat h (pt m (.cells 4 [.ptr a 0,u,av,.int .u64 (nx:Int)] false)::pt rr (.cells 7 (oD id f l qK mv dv vH) false)::jv .u64 F av m0::SA a p q r .bq data aH ε::S)):
  Call ⟨Tryz.prog,told⟩ 72 [.ptr m 0,.ptr rr 0,.int .i64 (kd:Int)] h fun v h'=>v=.int .i64 0∧∃c' aj,(∀m,pgA aj m=pgA ε m)∧(bV.mk kd id l 0 [] c').len≤40∧ic N (B+2) M ba ck mk (rs++[⟨kd,id,l,0,[],c'⟩]) aj ∧
   Sat h' (pt m (.cells 4 [.ptr a 0,u,av,.int .u64 (nx:Int)] false)::jv .u64 F av (lG (id:Int) m0)::SA a p q r .bq data aH aj::S):=by
 have hW:=hT.wr.w
 refine Call.of_wp (hW.free _ rfl) Tryz.func72 rfl rfl (zg rfl (au.bD s rfl rfl rfl (dB rfl rfl) ?_))
 intro b0 h s
 refine au.bD s rfl rfl rfl (dB rfl rfl) ?_
 intro b2 h s
 refine au.bD s rfl rfl rfl (dB rfl rfl) ?_
 intro b1 h s
 have s:=s.ae [2,0,0]
 refine zk 5 rfl (zy s 2 tv rfl (zn rfl (zY s 4 wZ dL rfl (zC rfl dm (by simp;omega) ?_))))
 refine zk 5 rfl (zo rfl (xQ rfl rfl) (zk 5 rfl (zy s 0 ry rfl (zm rfl ?_))))
 have s:=s.ae [0,0,0,0,0,1]
 refine zc rfl (Lt (e:=0) hW (by decide) (UM hT hB hI I hN J hl hf vb w8 s) (fun v h' hv=>hv.1)) ?_
 rintro v h ⟨rfl,c',aj,gP,hlen,mO,s⟩
 refine zk 5 rfl (zC rfl aD (rfl) (zk 4 rfl ?_))
 have s:=s.ae [6]
 refine WP.drawn [af,af,af,af,af,af,af,af,af] rfl (by kernel_rfl) (by kernel_rfl) ?_
 refine zL rfl (s.ld (k:=1) rfl ry rfl) (zN rfl (zF rfl (iZ _ _) (zL rfl (s.ld (k:=4) rfl kr rfl) (zL rfl (s.ld (k:=3) rfl tv rfl) (zN rfl (zF rfl (L3 _ _) (zL rfl (s.ld (k:=5) rfl dL rfl) (az.gh rfl rfl rfl (OpR.delete rfl rfl rfl rfl (xU (n:=(id:Int)) s mT bR)) ?_))))))))
 intro _ h s
 refine az.nil ⟨⟨aa,aa,aa,aa,aa,aa,aa,aa,aa,aa⟩,?_⟩
 exact zK 4 rfl (WP.ret ⟨aa,_,rfl,rfl,c',aj,gP,hlen,mO,((s.ae [4,0,4]).del 6 |>.del 5 |>.del 4 |>.del 3)⟩)
theorem OX (hT:WT told)(hB:B≤900)(hI:ic N B M ba ck mk rs ε)(I:ba+szB rs≤1000000)(hN:N≤1024)(J:id<2097152)(hx:L[i]?=some (id,rr,A))(hl:A.jl<2097152)(oA:0<A.jl)(hf:szB rs+40≤M)
 (s:Sat h (fP m a nx u L::SA a p q r .bq data aH ε::S)):
  Call ⟨Tryz.prog,told⟩ 27 [.ptr m 0,.int .u64 (id:Int)] h fun v h'=>v=.int .i64 0∧∃c' aj,(∀m,pgA aj m=pgA ε m)∧(bV.mk 3 id A.jl 0 [] c').len≤40∧ic N (B+2) M ba ck mk (rs++[⟨3,id,A.jl,0,[],c'⟩]) aj ∧
   Sat h' (fP m a nx u (L.eraseIdx i)::SA a p q r .bq data aH aj::S):=by
 have hW:=hT.wr.w
 obtain⟨av,s⟩:=dI.1 s
 obtain⟨gE,ju⟩:=vI hx (s.ae [1])
 refine Call.of_wp (hW.free _ rfl) Tryz.func27 rfl rfl (zK 8 rfl (zY s 0 iZ kr rfl (zm rfl (zo rfl (fQ rfl rfl gE) (zk 6 rfl (zC rfl (qH xu) (rfl) (zk 7 rfl ?_)))))))
 have s:=(ko hx).1 (s.ae [2])
 obtain⟨mv,dv,pv,s⟩:=kn.1 s
 have s:=s.ae [5,0,4,4]
 refine zc rfl (Ku (kd:=3) hT hB hI I hN J hl oA hf (by decide) (by decide) s) ?_
 rintro v h ⟨rfl,c',aj,gP,eL,mO,s⟩
 refine zk 2 rfl (WP.ret ⟨aa,_,rfl,?_⟩)
 refine⟨rfl,c',aj,gP,eL,mO,?_⟩
 rw[AV hx ju] at s
 have s:=s.ae [0,0,4]
 exact((dI.2 ⟨av,s⟩).del 4 |>.del 3 |>.del 2)
theorem Se (hT:WT told)(hB:B≤900)(I:1≤ba)(hI:ic N B M ba ck mk rs ε)(u9:ba+szB rs≤1000000)(hN:N≤1024)(nC:id<2097152)(hx:L[i]?=some (id,rr,A))(oz:rs=cy++⟨1,tx,0,0,[],cs⟩::ey)(J:A.qK=ba+szB cy)(vV:A.jl<2097152)(oA:0<A.jl)(hf:szB rs+40≤M)(GG:A.dn.length≤1000)(hgt:∀d∈A.dn,0<d.1)
 (s:Sat h (fP m a nx u L::SA a p q r .bq data aH ε::S)):
  Call ⟨Tryz.prog,told⟩ 28 [.ptr m 0,.int .u64 (id:Int)] h fun v h'=>v=.int .i64 0∧∃c' aj,(∀m,pgA aj m=pgA ε m)∧(bV.mk 4 id A.jl 0 [] c').len≤40∧ic N (B+2) M ba ck mk (rs++[⟨4,id,A.jl,0,[],c'⟩]) aj ∧
   Sat h' (fP m a nx u (L.eraseIdx i)::SA a p q r .bq data aH aj::S):=by
 have hW:=hT.wr.w
 obtain⟨av,s⟩:=dI.1 s
 obtain⟨gE,ju⟩:=vI hx (s.ae [1])
 refine Call.of_wp (hW.free _ rfl) Tryz.func28 rfl rfl (zK 8 rfl (zY s 0 iZ kr rfl (zm rfl (zo rfl (fQ rfl rfl gE) (zk 6 rfl (zC rfl (qH xu) (rfl) (zk 8 rfl ?_)))))))
 have s:=(ko hx).1 (s.ae [2])
 obtain⟨mv,dv,pv,s⟩:=kn.1 s
 have s:=s.ae [5,0,5,1]
 rw[J] at s
 refine zc rfl (U6 hT hI I oz GG hgt s) ?_
 rintro v h ⟨rfl,dv1,s⟩
 refine zk 5 rfl (zC rfl aD (rfl) (zk 7 rfl ?_))
 have s:=s.ae [0,0,4,0]
 refine zc rfl (Ku (kd:=4) hT hB hI u9 hN nC vV oA hf (by decide) (by decide) s) ?_
 rintro v h ⟨rfl,c',aj,gP,eL,mO,s⟩
 refine zk 2 rfl (WP.ret ⟨aa,_,rfl,?_⟩)
 refine⟨rfl,c',aj,gP,eL,mO,?_⟩
 rw[AV hx ju] at s
 have s:=s.ae [0,0,3]
 exact((dI.2 ⟨av,s⟩).del 3 |>.del 2)
end
structure WX (told:cJ): Prop where
 wo:WO told
 fmt:told 79=some (iQ Tryz.prog 79 (vR 79))
 mkd:told 80=some (iQ Tryz.prog 80 (vR 80))
 add:told 26=some (iQ Tryz.prog 26 (OM CK 26))
theorem WX.w {told:cJ}(h:WX told): W told:=h.wo.wt.wr.w
theorem LR.fresh {m:Nat}: LR 1 0 [] [] (Am.fresh n m f).2 :=
 ⟨rfl,rfl,rfl,rfl,rfl,rfl,(show(-1:Int)<0 by decide),rfl,rfl,rfl,fun w hw=>(by cases hw),fun r I=>(by cases I)⟩
section
variable {told:cJ} {p:Nat}
theorem Ym (hw:NW N now)(h:∀i:Int,2≤i→lookL i now=none): now.length≤2:=by
 have:=AD 2 _ hw.nodup fun n I=>by
  have:=hw.keys n I
  refine⟨this.1,Int.not_le.1 fun J => ?_⟩
  have h3:=h n J
  grind[jV]
 rwa [gD] at this
theorem U7 (hT:WX told)(hM1:40000≤M)(hM2:M≤262144)(vo:1≤n)(hn:n≤50)(s:Sat h (aO p (Dk.fresh 32 M)::S)):
  Call ⟨Tryz.prog,told⟩ 34 [.ptr p 0,.int .i64 16,.int .i64 (n:Int)] h fun v h'=>∃c m a q r rs ε,v=.aQ [.ptr c 0,.int .i64 0]∧ic 32 5 M 1 0 [] rs ε∧oC 32 n 2 (List.replicate 400 0) (pgA ε)∧szB rs≤3200∧1≤szB rs ∧
   Sat h' (pt c (.cells 2 [.ptr m 0,.int .i64 (n:Int)] false)::fP m a 1 (F3 c) []::SA a p q r .bq [] 0 ε::S):=by
 have hW:=hT.w
 have adC:cf (List.replicate 512 0)=false:=by decide +kernel
 have hz:(pgA (fresh 32 M 16) 0).length=512:=by rw[vC];exact eY
 have hg:cf (pgA (fresh 32 M 16) 0)=false:=by rw[vC];exact adC
 refine Call.of_wp (hW.free _ rfl) Tryz.func34 rfl rfl (zK 9 rfl (zC rfl aT (by simp;omega) ?_))
 refine zk 2 rfl (zC rfl fN (by simp;omega) ?_)
 refine zk 8 rfl (zc rfl (Cp (n:=16) hW s (by decide) (by decide) rfl rfl rfl rfl) ?_)
 rintro v h ⟨a,q,r,rfl,s⟩
 have s:Sat h (SA a p q r .bq [] 0 (fresh 32 M 16)::S):=aM.2 s
 have J:EI 32 1 (fresh 32 M 16):=EI.fresh (by decide) (by omega) (by decide) (by decide)
 have B4:LR 1 0 [] [] (fresh 32 M 16).2:=LR.fresh
 have yJ:(fresh 32 M 16).2.2.room=M:=rfl
 have M3:vw FT (fresh 32 M 16):=fun n rec h=>by cases h
 have Z9:∃g,RS 32 1 0 [] [] nm g (fresh 32 M 16)∧b6 (fresh 32 M 16)≤szB []:=⟨_,RS.fresh,G_⟩
 generalize fresh 32 M 16=ε0 at s J B4 yJ hz hg M3 Z9
 have hI0:ic 32 1 M 1 0 [] [] ε0:=⟨J,B4,yJ,M3,fun _ _ _=>Z9⟩
 refine zk 10 rfl (zC rfl aD (rfl) (zk 6 rfl (zo rfl (rU rfl (mki_of uQ rfl)) (zc rfl (yW hW (Oj hW (by decide)) J (by decide) hz hg s) ?_))))
 rintro v h ⟨qP,rfl,oB,g_,s⟩
 have I:=hI0.sm oB g_
 refine zk 10 rfl (zB rfl dm (rfl) (zk 2 rfl (zo rfl (eU rfl rfl) (zk 5 rfl (zc rfl (Call.defer hT.fmt Jg rfl (Rk (K:=0) (M:=M) (by decide) I.ei (by decide) (by decide) (by rw[g_.1];exact hz) (by rw[g_.1];exact hg) ⟨Nat.le_of_eq (by rw[I.len];rfl),I.rm⟩ (by omega) s)) ?_)))))
 rintro v h ⟨rfl,ki,uX,Jv,_,s,uZ,now,aF,sY,nQ,qn,adD,JE⟩
 have Sf:=I.sm sY nQ
 obtain⟨_,_,_,_,c1,ab1,M7⟩:=Sf.done (L:=2) (kd:=1) JE (by decide) qn (Ym qn adD) (by decide) (by decide) (by decide) (by decide) (by decide) (by decide) (by decide) (by decide) (by simp only[szB];omega)
 refine zk 6 rfl (zC rfl aD (rfl) (zk 6 rfl (zo rfl (cj (r:=.agg [.bq,.int .i64 (n:Int)]) rfl (by rw[abb];rfl)) ?_)))
 refine au.bD s rfl rfl rfl (dB rfl rfl) ?_
 intro c h s
 have aeS:szB ([]++[(⟨1,0,0,0,[],c1⟩:bV)])≤1080:=by rw[dU,ow];exact ab1
 refine zk 7 rfl (zc rfl (Call.defer hT.mkd Kh rfl (UQ (by decide) M7 (by omega) (by decide) (by decide) Jv vo hn (by omega) s)) ?_)
 rintro v h ⟨c2,T8,rfl,hct,D4,ED,s⟩
 refine zk 5 rfl (zC rfl aD (rfl) (zk 9 rfl (zo rfl (cj (r:=.agg [.ptr c 0]) rfl (by rw[abc];rfl)) ?_)))
 refine zo rfl (rU rfl (mki_of Tryz.underlying161 rfl)) ?_
 have s:=s.ae [1]
 have qR:∀y∈[]++[(⟨1,0,0,0,[],c1⟩:bV)]++[⟨1,0,0,0,[],c2⟩],y.tx=0:=by
  intro y hy
  simp only[dU,iS,jz,kF,n4] at hy
  rcases hy with rfl|rfl<;>rfl
 refine zc rfl (UY (c:=c) hT.wo ED.lr ED.ei.ok.ok.lg qR s) ?_
 rintro v h ⟨m,rfl,s⟩
 refine zk 4 rfl (zf rfl (rz _ _) (zS rfl (s.dK (k:=2) rfl acG rfl (show 0+0<2 by decide) rfl rfl) ?_))
 intro h s
 exact zk 5 rfl (zC rfl aD (rfl) (zk 9 rfl (WP.ret ⟨aa,_,rfl,c,m,a,q,r,_,T8,rfl,ED,hct,by rw[iI,ow];have:(bV.mk 1 0 0 0 [] c2).len≤2120:=D4;omega,by rw[iI,ow];have:1≤(bV.mk 1 0 0 0 [] c2).len:=(by show 1≤8+_;omega);omega,s.ae [2,0,0]⟩)))
end
section
variable {told:cJ} {p m:Nat} {cell:List Nat}
theorem OY (J:W told)(s:Sat h S): Call ⟨Tryz.prog,told⟩ 23 [] h fun v h'=>∃p,v=.ptr p 0∧Sat h' (aO p (Dk.fresh 32 262144)::S):=by
 refine Call.of_wp (J.free _ rfl) Tryz.func23 rfl rfl (zK 6 rfl (zc rfl (Ma (n:=32) (m:=262144) J s) ?_))
 rintro v h (⟨I,_⟩|⟨_,_,_,_,p,rfl,s⟩)
 ·exact absurd ⟨by decide,by decide,by decide,by decide⟩ I
 exact zk 10 rfl (zC rfl aD (rfl) (zk 8 rfl (WP.ret ⟨aa,_,rfl,p,rfl,s⟩)))
theorem Sg (hT:WX told)(I:40000≤M)(J:M≤262144)(vo:1≤n)(hn:n≤50)(s:Sat h (aO p (Dk.fresh 32 M)::S)):
  Call ⟨Tryz.prog,told⟩ 22 [.ptr p 0,.int .i64 16,.int .i64 (n:Int)] h fun v h'=>∃c m a q r rs ε,v=.ptr c 0∧ic 32 5 M 1 0 [] rs ε∧oC 32 n 2 (List.replicate 400 0) (pgA ε)∧szB rs≤3200∧1≤szB rs ∧
   Sat h' (pt c (.cells 2 [.ptr m 0,.int .i64 (n:Int)] false)::fP m a 1 (F3 c) []::SA a p q r .bq [] 0 ε::S):=by
 refine Call.of_wp (hT.w.free _ rfl) Tryz.func22 rfl rfl (zK 8 rfl (zC rfl (qH Tryz.underlying25) (rfl) (zk 8 rfl (zc rfl (U7 hT I J vo hn s) ?_))))
 rintro v h ⟨c,m,a,q,r,rs,ε,rfl,h1,h2,h3,h4,s⟩
 exact zk 10 rfl (zC rfl aD (rfl) (zk 8 rfl (WP.ret ⟨aa,_,rfl,c,m,a,q,r,rs,ε,rfl,h1,h2,h3,h4,s⟩)))
theorem EG (I:W told)(s:Sat h (pt c (.cells 2 [.ptr m 0,.int .i64 (n:Int)] false)::S)): Call ⟨Tryz.prog,told⟩ 24 [.ptr c 0] h fun v h'=>v=.ptr m 0∧h'=h:=by
 exact Call.of_wp (I.free _ rfl) Tryz.func24 rfl rfl (zK 8 rfl (zY s 0 rz ry rfl (zk 2 rfl (WP.ret ⟨aa,_,rfl,rfl,rfl⟩))))
theorem U8 (J:W told)(hB:B≤2000)(I:EI 32 B ε)(hp:oC 32 n k cell (pgA ε))(hn:n≤50){z:Int}(s:Sat h (pt c (.cells 2 [.ptr m 0,.int .i64 (n:Int)] false)::fP m a nx u L::SA a p q r .bq data aH ε::S)):
  Call ⟨Tryz.prog,told⟩ 29 [.ptr c 0,.int .i64 z] h fun v h'=>∃aj,EI 32 B aj∧Sm 32 ε aj∧v=(if 0≤z∧z<n then .aQ [.int .i64 (IntKind.wrap .i64 (kj cell z.toNat:Nat)),.int .i64 0] else .aQ [.int .i64 0,.int .i64 1]) ∧
   Sat h' (pt c (.cells 2 [.ptr m 0,.int .i64 (n:Int)] false)::fP m a nx u L::SA a p q r .bq data aH aj::S):=by
 obtain⟨av,s⟩:=dI.1 (s.ae [1])
 refine(Uh J hB I hp hn (m:=m) (nx:=nx) (uv:=u) (av:=av) (i:=z) (s.ae [4,3,0])).mono ?_
 rintro v h ⟨aj,h1,h2,h3,s⟩
 have s:=s.ae [2,2,2]
 have s:Sat h (fP m a nx u L::_):=dI.2 ⟨av,s⟩
 exact⟨aj,h1,h2,h3,s.ae [2,0,0]⟩
theorem U9 (hT:WX told)(hB:B≤900)(hI:ic N B M ba ck mk rs ε)(J:1≤ba)(u9:ba+szB rs≤1000000)(hN:N≤1024)(iO:xn L)(hx:L[j]?=some (id,rr,A))(nC:id<2097152)(vV:A.jl<2097152)(GG:A.dn.length≤1000)
 (I:szB rs+7300+r6 L≤M)(hM:M≤16777216)(hp:oC N n k cell (pgA ε))(hi:i<n)(hn:n≤50)(hd:IntKind.wrap .u64 d=(dn:Int))(sX:dn<18446744073709551616)
 (s:Sat h (pt c (.cells 2 [.ptr m 0,.int .i64 (n:Int)] false)::fP m a nx u L::SA a p q r .bq data aH ε::S)):
  Call ⟨Tryz.prog,told⟩ 26 [.ptr c 0,.int .u64 (id:Int),.int .i64 (i:Int),.int .i64 d] h fun v h2=>∃c' cost aj,v=.int .i64 0∧oC N n k (vT cell i ((kj cell i+dn)%18446744073709551616)) (pgA aj) ∧
   (bV.mk 1 id A.jl 0 (i::le 8 dn) c').len≤560∧cost≤1656∧ic N (B+2) M ba ck mk (rs++[⟨1,id,A.jl,0,i::le 8 dn,c'⟩]) aj ∧
   Sat h2 (pt c (.cells 2 [.ptr m 0,.int .i64 (n:Int)] false)::fP m a nx u (L.set j (id,rr,A.more (ba+szB rs) cost [(k:Int)]))::SA a p q r .bq data aH aj::S) :=
 Call.aaC (C:=CK) rfl UO hT.add Kg rfl (aaE hB hI J u9 hN iO hx nC vV GG I hM hp hi hn hd sX s)
theorem U_ : kj (List.replicate 400 0) i=0:=by
 have:∀l:List Nat,(∀x∈l,x=0)→leN l=0:=by
  intro l
  induction l with
  |nil=>intro _;rfl
  |cons x l J=>intro I;simp only[leN,I x bX,J fun y hy=>I y (bW _ hy)]
 exact this _ fun x I=>tG (nW (kE I))
theorem OZ (hT:WX told)(s:Sat h S): Call ⟨Tryz.prog,told⟩ 21 [] h fun v h'=>v=.bool true∧Sat h' S:=by
 have I:=hT.w
 refine Call.of_wp (I.free _ rfl) Tryz.func21 rfl rfl (zK 6 rfl (zc rfl (OY I s) ?_))
 rintro v h ⟨p,rfl,s⟩
 refine zc rfl (Sg (n:=2) hT (by decide) (by decide) (by decide) (by decide) s) ?_
 rintro v h ⟨c,m,a,q,r,rs,ε,rfl,hI,hp,eL,_,s⟩
 refine zk 6 rfl (zC rfl (qH Tryz.underlying50) (rfl) (zk 2 rfl (zc rfl (EG I s) ?_)))
 rintro v h' ⟨rfl,rfl⟩
 refine zC rfl (qH Tryz.underlying54) (rfl) (zk 7 rfl (zc rfl (EG I s) ?_))
 rintro v h' ⟨rfl,rfl⟩
 have s:=s.ae [1]
 refine zc rfl (Kp I (by decide) (fun x hx=>by cases hx) s) ?_
 rintro v h ⟨rfl,rr,s⟩
 have s:=s.ae [1,0]
 have J:=hp.len
 have MW:kj (List.replicate 400 0) 0=0:=U_
 generalize List.replicate 400 0=Z at hp J MW
 refine zk 10 rfl (zc rfl (U9 (j:=0) (dn:=5) (i:=0) hT (by decide) hI (by decide) (by omega) (by decide) ⟨by simp,fun x hx=>by rw[List.mem_singleton.1 hx];exact⟨ew 1048576,ew 1048576,ew 1048576⟩⟩ rfl (by decide) (by decide) (by decide) (by simp[r6,lu,qL,jL];omega) (by decide) hp (by decide) (by decide) rfl (by decide) s) ?_)
 rintro v h ⟨c',cost,aj,rfl,hp',_,_,hI',s⟩
 have hv:kj (vT Z 0 ((kj Z 0+5)%18446744073709551616)) 0=5:=by rw[XZ J (by decide) (tQ _ (by decide)),aC rfl,MW]
 refine zk 5 rfl (zc rfl (U8 (z:=0) I (by decide) hI'.ei hp' (by decide) s) ?_)
 rintro v h ⟨ki,_,_,rfl,s⟩
 rw[aC (by decide),show(0:Int).toNat=0 from rfl,hv]
 exact zk 9 rfl (zB rfl dm (rfl) (zk 2 rfl (zB rfl dm (rfl) (zk 3 rfl (zB rfl dm (rfl) (zk 3 rfl (zB rfl dm (rfl) (zk 3 rfl (zB rfl dm (rfl) (zk 3 rfl (WP.ret ⟨aa,_,rfl,rfl,s.drop.drop.drop⟩)))))))))))
end
theorem O0 {a b:List Nat}(h:lz a b): a[12]?=b[12]?:=by
 have:=iW (fun l:List Nat=>l[0]?) h.2.2
 simpa using this
theorem aaM : (nP k)[12]?=some k:=by
 have h:∀l:List Nat,l.length=512→(a_ (l.set 12 k) 16 (le 2 512))[12]?=some k:=by
  intro l I
  rw[a_,vZ (by simp;omega),wj,aC (by decide),tJ,aC rfl,aC (by omega)]
 exact h _ eY
structure TbI (i:Nat)(rs:List bV)(want:List Nat)(ε:bA): Prop where
 tx:ic 8 (1+4*i) 262144 1 0 [] rs ε
 pr:EF 0 rs
 ln:rs.length=2*i
 sz:szB rs≤600*i
 wl:want.length=8
 pg:∀n:Nat,n<8→(pgA ε (n:Int))[12]?=want[n]?
section
theorem TbI.next {kd:Nat}{c c':List bZ}(h:TbI i rs want ε)(J:kd=3∨kd=4)(hn:n<8)(oA:(bV.mk 1 (i+1) 0 0 [] c).len≤560)(gE:(bV.mk kd (i+1) l 0 [] c').len≤40)(ht:ic 8 (1+4*i+2+2) 262144 1 0 [] (rs++[⟨1,i+1,0,0,[],c⟩]++[⟨kd,i+1,l,0,[],c'⟩]) aj)
 (hp:∀m,pgA aj m=match lookL m [((n:Int),nP (i+1))] with|some b=>cz b aF|none=>pgA ε m): TbI (i+1) (rs++[⟨1,i+1,0,0,[],c⟩]++[⟨kd,i+1,l,0,[],c'⟩]) (want.set n (i+1)) aj:=by
 have eL:=h.sz
 have I:=h.ln
 refine⟨by rw[show 1+4*(i+1)=1+4*i+2+2 by omega];exact ht,?_,by simp;omega,by rw[iI,iI,ow,ow];omega,by rw[dg];exact h.wl,fun m hm => ?_⟩
 ·rw[cT]
  have:=h.pr.app (kd:=kd) (l:=l) (c:=c) (c':=c') I J
  rw[fy] at this
  exact this
 ·rw[hp,tJ]
  have L7:=h.wl
  by_cases e:n=m
  ·subst e
   rw[aC rfl,aC (by omega)]
   simp only[lookL,cQ]
   rw[O0 (C4 Uj),aaM]
  ·rw[ak e]
   simp only[lookL]
   rw[ak (by omega)]
   exact h.pg m hm
theorem TbI.start (I:1≤f)(J:f≤1024): TbI 0 [] (List.replicate 8 0) (Am.fresh 8 262144 f) :=
 ⟨⟨EI.fresh (by decide) (by decide) I J,LR.fresh,rfl,fun n rec h=>(by cases h),fun _ _ _=>⟨_,RS.fresh,G_⟩⟩,.nil,rfl,aV _,rfl,fun n hn=>by
  rw[vC,EO,EO,aC (by decide),aC hn]⟩
theorem TbI.ro (h:TbI i rs want ε)(hi:i≤20): G9 8 262144 100 rs ε:=by
 obtain⟨g,I,J⟩:=h.tx.ex rfl rfl rfl
 have eL:=h.sz
 exact⟨h.tx.ei.more (by omega),⟨g,I⟩,J,h.tx.rm,by omega,by decide,by decide⟩
theorem TbI.force (h:TbI i rs want ε)(hi:i≤20): (bx ε.2 (1+szB rs)).1=0∧TbI i rs want (ε.1,(bx ε.2 (1+szB rs)).2)∧OK rs (ε.1,(bx ε.2 (1+szB rs)).2):=by
 obtain⟨I,J,h3⟩:=h.tx.force (aV _)
 obtain⟨_,_,h4,_⟩:=(h.ro hi).Ey
 exact⟨I,⟨J,h.pr,h.ln,h.sz,h.wl,fun n hn=>by rw[h3];exact h.pg n hn⟩,h4⟩
def Kd (want:List Nat)(ε:bA): Prop:=want.length=8∧∀n:Nat,n<8→(pgA ε (n:Int)).length=512∧(pgA ε (n:Int))[12]?=want[n]?
theorem TbI.kd (h:TbI i rs want ε): Kd want ε:=by
 obtain⟨g,I,_⟩:=h.tx.ex rfl rfl rfl
 exact⟨h.wl,fun n J=>⟨(I.st n (by omega) (by omega)).2.1,h.pg n J⟩⟩
theorem Kd.sm (h:Kd want ε)(hs:Sm N ε aj): Kd want aj:=⟨h.1,fun n I=>by rw[hs.1];exact h.2 n I⟩
theorem TbI.AQ (h:TbI i rs want ε)(hi:i≤20)(hf:OK rs ε)(c:List Nat): ε.2.2.Cr∧∃j,UH 8 100 9 c (szB rs) rs ε.2.2 rs j∧Kd want (Pl.fresh 9,(gZ 1 0 rs,(eC (eN ε.2.2 c) 1 rs [] rs).2)):=by
 have hr:=h.ro hi
 obtain⟨u,j,J⟩:=hr.AQ c (f:=9) (by decide) (by decide)
 obtain⟨w,hu⟩:=J.pre
 have I:=J.all
 rw[show ε.2.1.forced=szB rs from hf] at J I
 have e:rs=u:=by
  cases w with
  |nil=>simpa using hu
  |cons y l =>
   have hy:=Cw y
   rw[hu,iI,szB] at I
   omega
 subst e
 obtain⟨g,hg,_⟩:=h.tx.ex rfl rfl rfl
 exact⟨hr.cr,j,J,h.wl,fun n hn=>⟨(J.pg n (by omega) (by omega)).2.1,by rw[←h.pg n hn,←O0 (J.pg n (by omega) (by omega)),O0 (hg.st n (by omega) (by omega))]⟩⟩
end
def rQ (L:List (Int×Int×Int×Int)): List V:=L.flatMap fun d=>[.int .i64 d.1,.int .i64 d.2.1,.int .i64 d.2.2.1,.int .i64 d.2.2.2]
theorem C8 : ∀(L:List (Int×Int×Int×Int)),(rQ L).length=L.length*4:=by
 intro L
 induction L with
 |nil=>rfl
 |cons d L I=>rw[rQ,pM,b7];show 4+(rQ L).length=_;rw[I,bz];omega
theorem Va : ∀ {L:List (Int×Int×Int×Int)} {i:Nat} {d:Int×Int×Int×Int},L[i]?=some d→((rQ L).drop (i*4)).take 4=[.int .i64 d.1,.int .i64 d.2.1,.int .i64 d.2.2.1,.int .i64 d.2.2.2]:=by
 intro L
 induction L with
 |nil=>intro i d h;simp at h
 |cons x L I =>
  intro i d h
  cases i with
  |zero=>simp at h;subst h;rfl
  |succ i =>
   have:=I (i:=i) (by simpa using h)
   rw[show(i+1)*4=i*4+4 by omega]
   exact this
theorem ab2 {k:TypeId}{y:Operand}{m:Nat}{ds:List V}(hu:Tryz.prog.underlying t=some (.pointer e))(I:bB Tryz.prog e=some k)(J:1≤k)(hi:T.get h.tr i=some (.cells n cs false))(hj:T.get h.tr j=some (.cells m ds false))(hn:1≤n)(hm:1≤m):
  binV Tryz.prog h .neq t x y (.ptr i 0) (.ptr j 0)=some (.bool (!(Nat.beq i j))):=by
 simp only[binV,eqV,hu,I,aL.2 J,ah,hi,hj,aL.2 hn,aL.2 hm,iT,fJ,wz,lY]
theorem ia8 {w:Nat}(I:n<8): indexAddrV Tryz.prog 77 (.ptr w 0) (.int .i64 (n:Int))=some (.ptr w n):=by
 simp only[indexAddrV,Tryz.underlying77,lR,cL]
 rw[show decide ((0:Int)≤(n:Int))=true from eE (by omega),show decide ((n:Int)<((8:Nat):Int))=true from eE (by omega)]
 simp
def u_ (l:List Nat): List V:=l.map fun(n:Nat)=>V.int .i64 (n:Int)
section
variable {told:cJ} {p m w:Nat}
noncomputable def tbL : Code:=cU [1,1,1,1,1,1,1,1,1,0,1,0,0] ((Tryz.f7.body).getD .skip)
set_option maxHeartbeats 1000000 in
theorem Sh (hT:WX told): ∀(j i:Nat) (rs:List bV) (want:List Nat) (ε:bA) (h:H) (E:List (Nat×V)) (Q:Ex→List (Nat×V)→H→Prop),20-i=j→i≤20→TbI i rs want ε →
  Sat h (fP m a (i+1) .gO []::SA a p q r .bq [] 0 ε::pt w (.cells 8 (u_ want) false)::vP 4 dv (rQ da)::S) →
  Has E [(0,dv),(1,cv),(5,.ptr p 0),(7,.ptr a 0),(8,.ptr m 0),(9,.ptr w 0),(10,.int .i64 (i:Int))] →
  (∀E' h' i' rs' Wu aj,i'≤20→TbI i' rs' Wu aj→Has E' [(0,dv),(1,cv),(5,.ptr p 0),(7,.ptr a 0),(8,.ptr m 0),(9,.ptr w 0)] →
   Sat h' (fP m a (i'+1) .gO []::SA a p q r .bq [] 0 aj::pt w (.cells 8 (u_ Wu) false)::vP 4 dv (rQ da)::S)→Q (.exit 0) E' h') →
  WP ⟨Tryz.prog,told⟩ 255 (.loop tbL) E h Q:=by
 have hW:=hT.w
 intro j
 induction j with
 |zero =>
  intro i rs want ε h E Q hj hi hI s hE hq
  refine WP.loop (WP.has hE (zK 5 rfl (zo rfl (aP rfl rfl rfl (s.QU (n:=da.length) (j:=3) rfl (C8 _) (by decide) EB)) ?_)))
  by_cases c1:i<da.length
  ·skip
   refine zB rfl aT (by simp;omega) ?_
   refine zk 2 rfl (zC rfl aT (by simp;omega) ?_)
   exact zk 3 rfl (WP.exit (hq _ _ i rs want ε hi hI ⟨rfl,rfl,rfl,rfl,rfl,rfl,aa⟩ s))
  ·skip
   refine zC rfl aT (by simp;omega) ?_
   exact zk 6 rfl (WP.exit (hq _ _ i rs want ε hi hI ⟨rfl,rfl,rfl,rfl,rfl,rfl,aa⟩ s))
 |succ j ih =>
  intro i rs want ε h E Q hj hi hI s hE hq
  refine WP.loop (WP.has hE (zK 5 rfl (zo rfl (aP rfl rfl rfl (s.QU (n:=da.length) (j:=3) rfl (C8 _) (by decide) EB)) ?_)))
  by_cases c1:i<da.length
  ·skip
   refine zB rfl aT (by simp;omega) ?_
   refine zk 2 rfl (zB rfl aT (by simp;omega) ?_)
   refine zk 5 rfl (WP.block (zK 3 rfl (zc rfl (Kp hW (by omega) (fun x hx=>by cases hx) s) ?_)))
   rintro v h ⟨rfl,rr,s⟩
   have s:Sat h (fP m a (i+1+1) .gO [(i+1,rr,⟨0,0,0,[],[],[]⟩)]::_):=s
   have s:=aM.1 (s.ae [1])
   dsimp only[aE,bringA,List.cons_append,List.nil_append] at s
   refine zk 9 rfl (zc rfl (sF hW s) ?_)
   rintro v h ⟨g,rfl,s⟩
   have s:Sat h (GA g a p q r [] 0 [] ε::_):=aM.2 s
   have s:=s.ae [1]
   dsimp only[bringA,getA,aE] at s
   refine zk 10 rfl (zC rfl aD (rfl) (zk 2 rfl (zC rfl aD (rfl) (zk 3 rfl (zC rfl (qH qG) (rfl) (zk 3 rfl (zc rfl (EE hT.wo s) ?_)))))))
   intro v h s
   refine zo rfl (aP rfl rfl rfl (s.fR (j:=0) (n:=1) rfl rfl (by decide) lB)) ?_
   refine zC rfl aD (rfl) ?_
   have s:=s.ae [1]
   dsimp only[bringA,getA,aE] at s
   refine zk 3 rfl (zc rfl (EE hT.wo s) ?_)
   intro v2 h s
   obtain⟨AN,off,e1,e2⟩:=kJ (P:=Tryz.prog) s (k:=0) (i:=0) (c:=.int .u64 ((i+1:Nat):Int)) rfl rfl lB kD
   refine zo rfl (c8 (r:=.ptr AN off) rfl rfl e1) (zl rfl (e2 _ dL) (zm rfl (zC rfl aD (by simp) ?_)))
   refine zk 8 rfl ?_
   obtain⟨d,hd⟩:∃d,da[i]?=some d:=⟨_,bw c1⟩
   have ox:=Va hd
   have Wv:∀ {h:H} {S:List aI} {k:Nat},Sat h S→getA S k=some (vP 4 dv (rQ da))→∃id off,indexAddrV Tryz.prog 48 dv (.int .i64 (i:Int))=some (.ptr id off)∧∀(m:Nat) (c:V),[V.int .i64 d.1,V.int .i64 d.2.1,V.int .i64 d.2.2.1,V.int .i64 d.2.2.2][m]?=some c→loadV Tryz.prog h 3 (.ptr id (off+m))=some c:=by
    intro h S k s hk
    obtain⟨id,off,g1,_,g3⟩:=s.aap (P:=Tryz.prog) (i:=i) (j:=k) hk (by rw[C8];omega) (by decide) EB acH acI
    rw[ox] at g3
    exact⟨id,off,g1,fun m c hc=>g3 m c _ hc dJ⟩
   obtain⟨n,hn,mP⟩:=JW (k:=d.2.2.1) (m:=7) (by decide)
   obtain⟨b,hb,Ge⟩:=JW (k:=d.1) (m:=1) (by decide)
   obtain⟨cZ,I,g1,g2⟩:=Wv s (k:=5) rfl
   refine zo rfl (c8 (r:=.ptr cZ I) rfl rfl g1) (zf rfl (ZA _ _) (zl rfl (g2 2 _ rfl) (zo rfl (ay (r:=.int .i64 (n:Int)) rfl rfl mP) (zk 5 rfl (zo rfl (ay (r:=.int .i64 ((i+1:Nat):Int)) rfl rfl (by rw[show((i+1:Nat):Int)=(i:Int)+1 by omega];exact bf (aA (by omega) (by omega)))) ?_)))))
   have s:=((s.ae [1,2,2,2]).del 5 |>.del 4)
   dsimp only[bringA,getA,aE] at s
   refine zc rfl (AG hW (kd:=i+1) s (by omega)) ?_
   rintro v h ⟨u,rfl,s⟩
   have s:=s.ae [2,0]
   dsimp only[bringA,getA,aE] at s
   refine zk 10 rfl (zC rfl aD (rfl) (zk 4 rfl ?_))
   have eL:=hI.sz
   refine zc rfl (BO hW (by omega) hI.tx.ei (NW.nil 8) (show n<8 by omega) s (aN _ _) (eD.new (k:=i+1))) ?_
   rintro v h ⟨qP,rfl,oB,g_,wO,s⟩
   have Km:=hI.tx.sm oB g_
   have s:=s.ae [2]
   dsimp only[bringA,getA,aE] at s
   refine zC rfl aD (rfl) (zk 9 rfl (zo rfl (ay (r:=.int .u64 ((i+1+99:Nat):Int)) rfl rfl (by rw[show((i+1+99:Nat):Int)=((i+1:Nat):Int)+99 by omega];exact bf (eP (by omega) (by omega)))) ?_))
   refine zm rfl (zc rfl (OW hW (by simp[lookL];omega) s) ?_)
   rintro v h ⟨rfl,s⟩
   refine zC rfl aD (rfl) ?_
   have s:=s.uE.ae [1,1]
   dsimp only[bringA,getA,aE] at s
   refine zk 4 rfl (zc rfl (Kl (i:=0) (k:=n) (b:=nP (i+1)) (id:=i+1) hT.wo.wt.wk (by omega) Km (by decide) (by omega) (by decide) ⟨by simp,fun x hx=>by rw[List.mem_singleton.1 hx];exact⟨ew 1048576,ew 1048576,ew 1048576⟩⟩ rfl rfl wO (by omega) (by decide) (by decide) (by decide) (by simp[r6,lu,qL,jL];omega) (by decide) s (aN _ _)) ?_)
   rintro v h ⟨c,cost,ki,aF,C7,rfl,OO,hlen,aek,M7,s⟩
   subst C7
   obtain⟨A,hA⟩:∃A,A=mU.more ⟨0,0,0,[],[],[]⟩ (1+szB rs) cost [(n:Int)]:=⟨_,rfl⟩
   have s:Sat h (fP m a (i+1+1) .gO [(i+1,rr,mU.more ⟨0,0,0,[],[],[]⟩ (1+szB rs) cost [(n:Int)])]::_):=s
   rw[←hA] at s
   have hA1:A.jl=1+szB rs:=by rw[hA];rfl
   have hA2:A.qK=1+szB rs:=by rw[hA];rfl
   have hA3:A.dn=[(1+szB rs,cost)]:=by rw[hA];rfl
   have M7:ic 8 (1+4*i+2) 262144 1 0 [] (rs++[⟨1,i+1,0,0,[],c⟩]) ki:=M7
   have hlen:(bV.mk 1 (i+1) 0 0 [] c).len≤560:=hlen
   have aeT:szB (rs++[⟨1,i+1,0,0,[],c⟩])≤600*i+560:=by rw[iI,ow];omega
   have L7:=hI.wl
   refine zC rfl aD (rfl) (zk 8 rfl (zo rfl (ay (r:=.int .i64 ((i+1:Nat):Int)) rfl rfl (by rw[show((i+1:Nat):Int)=(i:Int)+1 by omega];exact bf (aA (by omega) (by omega)))) ?_))
   refine zo rfl (c8 (r:=.ptr w n) rfl rfl (ia8 (by omega))) ?_
   refine zS rfl (s.dK (k:=5) rfl lR (by rw[u_,gD,L7]) (by omega) rfl rfl) ?_
   intro h s
   rw[show(u_ want).set n (.int .i64 ((i+1:Nat):Int))=u_ (want.set n (i+1)) from by rw[u_,u_,List.map_set]] at s
   dsimp only[setA] at s
   obtain⟨cZ,I,g1,g2⟩:=Wv s (k:=6) rfl
   refine zk 5 rfl (zo rfl (c8 (r:=.ptr cZ I) rfl rfl g1) (zf rfl (IC _ _) (zl rfl (g2 0 _ rfl) (zo rfl (ay (r:=.int .i64 (b:Int)) rfl rfl Ge) ?_))))
   obtain rfl|rfl:b=0∨b=1:=by omega
   ·skip
    refine zB rfl dm (rfl) ?_
    have s:=s.ae [0,1]
    dsimp only[bringA,getA,aE] at s
    refine zk 3 rfl (zc rfl (OX (i:=0) (id:=i+1) hT.wo.wt (by omega) M7 (by omega) (by decide) (by omega) rfl (by omega) (by omega) (by omega) s) ?_)
    rintro v h ⟨rfl,c',uZ,FW,J,Sf,s⟩
    refine zC rfl aD (rfl) ?_
    obtain⟨cZ,I,g1,g2⟩:=Wv s (k:=6) rfl
    refine zk 4 rfl (zo rfl (c8 (r:=.ptr cZ I) rfl rfl g1) (zf rfl (IC _ _) (zl rfl (g2 0 _ rfl) (zo rfl (ay (r:=.int .i64 ((0:Nat):Int)) rfl rfl Ge) (zh rfl (ay rfl rfl dm) (rfl) (zk 7 rfl (zv (zj rfl (WP.skip (zr rfl (zm rfl (zo rfl (ay (r:=.int .i64 ((i+1:Nat):Int)) rfl rfl (by rw[show((i+1:Nat):Int)=(i:Int)+1 by omega];exact bf (aA (by omega) (by omega)))) ?_))))))))))))
    refine za rfl (zv ?_)
    have ED:=hI.next (.inl rfl) (show n<8 by omega) hlen J Sf (fun m=>by rw[FW,OO];cases lookL m [((n:Int),nP (i+1))] with|some b=>rfl|none=>exact g_.1 m)
    exact ih (i+1) _ _ uZ _ _ Q (by omega) (by omega) ED ((s.ae [0,0,3,3]).del 6 |>.del 5 |>.del 4) ⟨rfl,rfl,rfl,rfl,rfl,rfl,rfl,aa⟩ hq
   ·skip
    refine zC rfl dm (rfl) ?_
    obtain⟨cZ,I,g1,g2⟩:=Wv s (k:=6) rfl
    refine zk 9 rfl (zo rfl (c8 (r:=.ptr cZ I) rfl rfl g1) (zf rfl (IC _ _) (zl rfl (g2 0 _ rfl) (zo rfl (ay (r:=.int .i64 ((1:Nat):Int)) rfl rfl Ge) (zB rfl dm (rfl) ?_)))))
    have s:=s.ae [0,1]
    dsimp only[bringA,getA,aE] at s
    refine zk 3 rfl (zc rfl (Se (i:=0) (id:=i+1) hT.wo.wt (by omega) (by decide) M7 (by omega) (by decide) (by omega) rfl rfl hA2 (by omega) (by omega) (by omega) (by rw[hA3];show 1≤1000;decide) (fun d hd=>by rw[hA3] at hd;rw[List.mem_singleton.1 hd];show 0<1+szB rs;omega) s) ?_)
    rintro v h ⟨rfl,c',uZ,FW,J,Sf,s⟩
    refine zh rfl (ay rfl rfl aD) (rfl) (zk 2 rfl (zv (zj rfl (WP.skip (zr rfl (zm rfl (zo rfl (ay (r:=.int .i64 ((i+1:Nat):Int)) rfl rfl (by rw[show((i+1:Nat):Int)=(i:Int)+1 by omega];exact bf (aA (by omega) (by omega)))) ?_)))))))
    refine za rfl (zv ?_)
    have ED:=hI.next (.inr rfl) (show n<8 by omega) hlen J Sf (fun m=>by rw[FW,OO];cases lookL m [((n:Int),nP (i+1))] with|some b=>rfl|none=>exact g_.1 m)
    exact ih (i+1) _ _ uZ _ _ Q (by omega) (by omega) ED ((s.ae [0,0,3,3]).del 6 |>.del 5 |>.del 4) ⟨rfl,rfl,rfl,rfl,rfl,rfl,rfl,aa⟩ hq
  ·skip
   refine zC rfl aT (by simp;omega) ?_
   exact zk 6 rfl (WP.exit (hq _ _ i rs want ε hi hI ⟨rfl,rfl,rfl,rfl,rfl,rfl,aa⟩ s))
end
structure WB (told:cJ): Prop where
 x:WX told
 w2:W2 told
theorem WB.w5 {told:cJ}(h:WB told): W5 told:=⟨h.w2,h.x.wo.wt.wr.pr⟩
section
variable {told:cJ} {p a2 q2 m w:Nat} {n:Int} {op:V} {ki:bA} {c:List Nat}
theorem Hh (hT:W told)(hB:B≤2000)(I:EI N B ε)(h0:0≤n)(h1:n<N)(s:Sat h (SA a p q r op data aH ε::S)):
  Call ⟨Tryz.prog,told⟩ 44 [.ptr a 0,.int .i64 n] h fun v h'=>∃u aj,v=.aQ [u,.int .i64 0]∧EI N B aj∧Sm N ε aj∧Sat h' (SA a p q r op data aH aj::aZ u (pgA ε n)::S):=by
 have uW:=I.b6
 have Q8:=pz (ε:=ε)
 have s:=aM.1 s
 refine(yc hT (n:=n) s I.ok.ok I.ok.pins (by omega)).mono ?_
 rintro v h ⟨e,b,aj,J,hs⟩
 obtain⟨k1,k2,k3,k4⟩:=J.ec I.ec I.ok.pins
 obtain⟨rfl,rfl⟩:=k3 h0 h1
 rcases hs with⟨he,_⟩|⟨_,u,rfl,s⟩
 ·omega
 ·have s2:Sat h (SA a p q r op data aH aj::aZ u (pgA ε n)::S):=aM.2 (s.ae [1,1,1,1,0])
  exact⟨u,aj,rfl,I.rd J,⟨k2,fun P hP hv=>hP.rd J I.ec hv,J.b6⟩,s2⟩
theorem O1 (I:W told)(s:Sat h (fP m a nx u L::S)): Call ⟨Tryz.prog,told⟩ 31 [.ptr m 0] h fun v h'=>v=.ptr a 0∧h'=h:=by
 obtain⟨av,s⟩:=dI.1 s
 exact Call.of_wp (I.free _ rfl) Tryz.func31 rfl rfl (zK 8 rfl (zY s 0 rC o9 rfl (zk 2 rfl (WP.ret ⟨aa,_,rfl,rfl,rfl⟩))))
theorem Si (J:W told)(I:TbI i rs want ε)(hi:i≤20)(s:Sat h (SA a p q r op data aH ε::S)):
  Call ⟨Tryz.prog,told⟩ 42 [.ptr a 0,.int .u64 ((1+szB rs:Nat):Int)] h fun v h'=>v=.int .i64 0∧∃aj,TbI i rs want aj∧OK rs aj∧Sat h' (SA a p q r op data aH aj::S):=by
 have s:=aM.1 s
 have s:Sat h (dA a p q r op data aH::eo r p q ε.1::bS q p ε.2.1::aO p ε.2.2::S):=s
 have Wa:=I.tx.lr.aU
 obtain⟨h1,h2,h3⟩:=I.force hi
 refine(GS J (n:=1+szB rs) (s.ae [0,1,1]) I.tx.ei.ok.ok.lg (by omega)).mono ?_
 rintro v h ⟨rfl,s⟩
 have s:Sat h (SA a p q r op data aH (ε.1,(bx ε.2 (1+szB rs)).2)::S):=aM.2 (s.ae [0,2,0,0])
 exact⟨by rw[show(ε.2.1,ε.2.2)=ε.2 from rfl,h1],_,h2,h3,s⟩
noncomputable def trL : Code:=cU [1,1,1,1,1,1,1,1,1,1,1,1,1,1,1,0,1,0,0] ((Tryz.f7.body).getD .skip)
theorem Sj (hT:W told): ∀(j n:Nat) (ε ki:bA) (h:H) (E:List (Nat×V)) (Q:Ex→List (Nat×V)→H→Prop),n+j=8→EI 8 100 ε→EI 8 100 ki→Kd want ε→Kd want ki →
  Sat h (SA a p q r .bq [] 0 ε::SA a2 p2 q2 r2 .bq [] 0 ki::pt w (.cells 8 (u_ want) false)::S)→Has E [(7,.ptr a 0),(9,.ptr w 0),(18,.ptr a2 0),(19,.int .i64 (n:Int))] →
  (∀E' h',Q (.exit 2) E' h')→WP ⟨Tryz.prog,told⟩ 255 (.loop trL) E h Q:=by
 intro j
 induction j with
 |zero =>
  intro n ε ki h E Q hn mS I hk J s hE hq
  refine WP.loop (WP.has hE (zK 4 rfl (zC rfl aT (by simp;omega) ?_)))
  exact zk 2 rfl (WP.exit (hq _ _))
 |succ j ih =>
  intro n ε ki h E Q hn mS I hk J s hE hq
  refine WP.loop (WP.has hE (zK 4 rfl (zB rfl aT (by simp;omega) ?_)))
  refine zk 4 rfl (WP.block (zK 4 rfl (zc rfl (Hh hT (by decide) mS (by omega) (by omega) s) ?_)))
  rintro v h ⟨u1,aj,rfl,GR,Ca,s⟩
  have s:=s.ae [2]
  dsimp only[bringA,getA,aE] at s
  refine zk 10 rfl (zc rfl (Hh hT (by decide) I (by omega) (by omega) s) ?_)
  rintro v h ⟨u2,aeb,rfl,adE,adF,s⟩
  obtain⟨oA,sj⟩:=hk.2 n (by omega)
  obtain⟨gE,zE⟩:=J.2 n (by omega)
  obtain⟨x,hx⟩:∃x,want[n]?=some x:=⟨_,bw (by have:=hk.1;omega)⟩
  rw[hx] at sj zE
  have v1:=s.aG (k:=3) rfl (aN _ _)
  have v2:=s.aG (k:=1) rfl (aN _ _)
  obtain⟨i1,o1,e1,f1⟩:=fg v1 sj
  obtain⟨i2,o2,e2,f2⟩:=fg v2 zE
  have hwn:nth (u_ want) n=some (.int .i64 (x:Int)):=by rw[gH,u_,pL,hx];rfl
  have hx8:x<256:=v1.1 x (bK sj)
  have ldw:=s.ld (k:=4) rfl dJ hwn
  have q1:=cX v1
  have q2:=cX v2
  refine zk 7 rfl (WP.drawn [af,af,af,af,af,af,af,af,af,af,af,af,af,af,af,af,af,af,af,af,af,af,af,af,af,af,af,af,af,af,af,af,af,af,af,af] rfl (by kernel_rfl) (by kernel_rfl) ?_)
  refine zM rfl (az.kU rfl rfl rfl rfl (ay rfl rfl aD) (rfl) (zM rfl (zM rfl (az.kU rfl rfl rfl rfl (ay rfl rfl aD) (rfl) (zO rfl (mo rfl rfl) (zM rfl (zM rfl (zO rfl (aP rfl rfl rfl (aW aJ v1)) (az.kU rfl rfl rfl rfl (ay rfl rfl aD) (by rw[oA];rfl) ?_)))))))))
  refine zO rfl (mo rfl rfl) (zM rfl (zM rfl (zO rfl (aP rfl rfl rfl (aW aJ v2)) (az.kU rfl rfl rfl rfl (ay rfl rfl aD) (by rw[gE];rfl) ?_))))
  refine zO rfl (mo rfl rfl) (zM rfl (zM rfl (zO rfl (c8 (r:=.ptr i1 o1) rfl rfl e1) (zL rfl f1 (az.op rfl rfl rfl (by simp only[isEff,br]) (bT (r:=.int .i64 (x:Int)) rfl (gL Tryz.underlying5 br (aA (by omega) (by omega)))) ?_)))))
  refine zM rfl (zO rfl (c8 (r:=.ptr w n) rfl rfl (ia8 (by omega))) ?_)
  refine zL rfl ldw (az.kU rfl rfl rfl rfl (ay rfl rfl aD) (by simp) ?_)
  refine zO rfl (mo rfl rfl) (zM rfl (zM rfl (zO rfl (c8 (r:=.ptr i2 o2) rfl rfl e2) (zL rfl f2 (az.op rfl rfl rfl (by simp only[isEff,br]) (bT (r:=.int .i64 (x:Int)) rfl (gL Tryz.underlying5 br (aA (by omega) (by omega)))) ?_)))))
  refine zM rfl (zO rfl (c8 (r:=.ptr w n) rfl rfl (ia8 (by omega))) ?_)
  refine zL rfl ldw (az.kU rfl rfl rfl rfl (ay rfl rfl aD) (by simp) ?_)
  refine zO rfl (mo rfl rfl) ?_
  refine az.nil ⟨⟨aa,aa,aa,aa,aa,aa,aa,aa,aa,aa,aa,aa,aa,aa,aa,aa,aa,aa,aa,aa,aa,aa,aa,aa,aa,aa,aa,aa,aa,aa,aa,aa,aa,aa,aa,aa,aa⟩,?_⟩
  refine zj rfl (WP.skip (zr rfl (zm rfl (zo rfl (ay (r:=.int .i64 ((n+1:Nat):Int)) rfl rfl (by rw[show((n+1:Nat):Int)=(n:Int)+1 by omega];exact bf (aA (by omega) (by omega)))) ?_))))
  refine za rfl (zv ?_)
  exact ih (n+1) aj aeb _ _ Q (by omega) GR adE (hk.sm Ca) (J.sm adF) ((s.ae [2,0,2]).del 4 |>.del 3) ⟨rfl,rfl,rfl,rfl,aa⟩ hq
theorem Yn (hT:WB told)(s:Sat h (vP 4 dv (rQ da)::.cD cv c::S)): Call ⟨Tryz.prog,told⟩ 7 [dv,cv] h fun v _=>v=.bool true:=by
 have hX:=hT.x
 have J:=hX.w
 refine Call.of_wp (J.free _ rfl) Tryz.func7 rfl rfl (zK 7 rfl (zc rfl (OZ hX s) ?_))
 rintro v h ⟨rfl,s⟩
 refine zo rfl (eU rfl rfl) (zk 5 rfl (zc rfl (Ma (n:=8) (m:=262144) J s) ?_))
 rintro v h (⟨B2,_⟩|⟨_,_,_,_,p,rfl,s⟩)
 ·exact absurd ⟨by decide,by decide,by decide,by decide⟩ B2
 refine zk 10 rfl (zC rfl aD (rfl) (zk 6 rfl (zc rfl (Cp (n:=12) J s (by decide) (by decide) rfl rfl rfl rfl) ?_)))
 rintro v h ⟨a,q,r,rfl,s⟩
 have s:Sat h (SA a p q r .bq [] 0 (fresh 8 262144 12)::_):=aM.2 s
 have hI:TbI 0 [] (List.replicate 8 0) (fresh 8 262144 12):=TbI.start (by decide) (by decide)
 generalize fresh 8 262144 12=ε at hI s
 refine zk 10 rfl (zC rfl aD (rfl) (zk 2 rfl (zC rfl (qH uQ) (rfl) (zk 7 rfl (zc rfl (Hg hX.wo hI.tx.lr hI.tx.ei.ok.ok.lg .nil (by decide) s) ?_)))))
 rintro v h ⟨m,rfl,s⟩
 have s:Sat h (fP m a (0+1) .gO []::_):=s
 refine zk 10 rfl (zC rfl aD (rfl) (zk 2 rfl (zC rfl (qH Tryz.underlying54) (rfl) (zk 3 rfl (zc rfl (O1 J s) ?_)))))
 rintro v h' ⟨rfl,rfl⟩
 have s1:=aM.1 (s.ae [1])
 obtain⟨sv,s1⟩:=cm.1 s1
 have ga:=s1.row (k:=0) rfl
 refine zm rfl (zC rfl (ab2 uQ aa_ (by decide) ga ga (by decide) (by decide)) (by simp) ?_)
 refine zk 3 rfl (zc rfl (OV hX.wo s) ?_)
 intro v h s
 refine zo rfl (aP rfl rfl rfl (s.fR (j:=0) (n:=0) rfl rfl (by decide) lB)) ?_
 refine zC rfl aD (rfl) (zk 6 rfl (zo rfl (cj rfl (by rw[acL];rfl)) ?_))
 refine au.bD s rfl rfl rfl (bI acK) (fun p9 h s => ?_)
 refine zS rfl (s.eS (j:=0) rfl acJ rfl rfl) (fun h s => ?_)
 refine zk 6 rfl (WP.block ?_)
 have s:=((s.ae [2,2,0,1]).del 4)
 have s:Sat h (fP m a (0+1) .gO []::SA a p q r .bq [] 0 ε::pt p9 (.cells 8 (u_ (List.replicate 8 0)) false)::vP 4 dv (rQ da)::.cD cv c::S):=s
 refine Sh (cv:=cv) hX 20 0 [] _ ε _ _ _ rfl (by decide) hI s ⟨rfl,rfl,rfl,rfl,rfl,rfl,rfl,aa⟩ fun E' h' i rs want ε hi hI fE s' => ?_
 have s:=s'
 refine WP.has fE ?_
 have eL:=hI.sz
 have RY:=hI.tx.lr
 have uL:((1+szB rs:Nat):Int)=(ε.2.1.base:Int)+(ε.2.1.b.length:Int):=by rw[RY.base,RY.b,fZ];omega
 have s:=aM.1 (s.ae [1])
 refine zK 5 rfl (zc rfl (ou J s) ?_)
 rintro v h' ⟨rfl,rfl⟩
 refine zc rfl (ue J (s.ae [2]) (by omega)) ?_
 rintro v h' ⟨rfl,rfl⟩
 rw[←uL]
 have s:Sat _ (SA a p q r .bq [] 0 ε::_):=aM.2 s
 refine zc rfl (Si J hI hi s) ?_
 rintro v h ⟨rfl,aj,I,hF,s⟩
 refine zC rfl aD (rfl) ?_
 obtain⟨ur,j,hO,w8⟩:=I.AQ hi hF c
 have s:=aM.1 s
 have s:Sat h (dA a p q r .bq [] 0::eo r p q aj.1::bS q p aj.2.1::aO p aj.2.2::_):=s
 have s:=s.ae [3,6]
 refine zk 7 rfl (zc rfl (Un (c:=c) J s (dy _ _) ur) ?_)
 rintro v h ⟨q4,rfl,s⟩
 refine zc rfl (Ux (n:=9) (base:=1) (aH:=0) (rs:=rs) (cy:=[]) (ey:=rs) (data:=[]) hT.w5 (by decide) (by decide) s hO.ag rfl (.inl ⟨hO.mark,rfl,rfl⟩) hO.len (by decide) hO.log hO.ok hO.SS ⟨rfl,.inl ⟨rfl,rfl,rfl⟩⟩) ?_
 rintro v h (⟨h0,_⟩|⟨_,a5,q5,r5,rfl,s⟩)
 ·exact absurd hO.Dh h0
 have s:Sat h (SA a5 q4 q5 r5 .bq [] 0 (Pl.fresh 9,(gZ 1 0 rs,(eC (eN aj.2.2 c) 1 rs [] rs).2))::_):=aM.2 s
 have s:=s.ae [3,3,3,1]
 have s:Sat h (SA a p q r .bq [] 0 aj::_):=aM.2 s
 have PF:=hO.ei
 have hl5:LR 1 0 [] rs (Pl.fresh 9,(gZ 1 0 rs,(eC (eN aj.2.2 c) 1 rs [] rs).2)).2:=hO.lr
 generalize (Pl.fresh 9,(gZ 1 0 rs,(eC (eN aj.2.2 c) 1 rs [] rs).2))=ε5 at PF hl5 w8 s
 refine zk 10 rfl (zC rfl aD (rfl) (zk 2 rfl (zC rfl (qH uQ) (rfl) (zk 7 rfl ?_))))
 have s:=s.ae [1]
 refine zc rfl (Hg hX.wo hl5 PF.ok.ok.lg I.pr (by have:=I.ln;omega) s) ?_
 rintro v h ⟨m5,rfl,s⟩
 refine zk 9 rfl (zC rfl aD (rfl) (zk 8 rfl (WP.block (Sj J 8 0 aj ε5 _ _ _ rfl (I.tx.ei.more (by omega)) PF I.kd w8 (s.ae [2,1,3]) ⟨rfl,rfl,rfl,rfl,aa⟩ fun E' h' => ?_))))
 exact zK 4 rfl (WP.ret ⟨aa,_,rfl,rfl⟩)
end
def Kv (c:Ctx): Prop:=∀id,id<c.N→c.X id=true
noncomputable def Ctx.fix (c:Ctx)(w:World)(b off:Nat): Ctx:=⟨fun i=>if i=c.N then(b,off) else c.ρ i,fun x=>if x=b then rowSize w b else c.Z x,c.N+1,fun i=>if i=c.N then true else c.X i⟩
theorem Rel.fix {c:Ctx}{w:World}(h:Rel c σ w)(hX:Kv c){C:Array Value}(hb:w.heap[b]?=some (.cells C e fz))(hl:off+cs.length≤C.size)
 (hc:∀j v,cs[j]?=some v→C[off+j]?=some (conc c v))(mD:∀v∈cs,wf c v∧storable v=true):
  Rel (c.fix w b off) (σ.new (.cells cs.length cs true)) w∧Kv (c.fix w b off)∧Ext c (c.fix w b off)∧(c.fix w b off).ρ σ.next=(b,off)∧σ.next<(c.fix w b off).N:=by
 have hold:∀i,i<c.N→(c.fix w b off).ρ i=c.ρ i:=fun i hi=>by grind[Ctx.fix]
 have Df:∀i,i<c.N→(c.fix w b off).X i=c.X i:=fun i hi=>by grind[Ctx.fix]
 have J:(c.fix w b off).ρ c.N=(b,off):=by simp[Ctx.fix]
 have hnX:(c.fix w b off).X c.N=true:=by simp[Ctx.fix]
 have hN:(c.fix w b off).N=c.N+1:=rfl
 have cH:b<w.heap.size:=(Array.getElem?_eq_some_iff.1 hb).1
 have I:Kv (c.fix w b off):=fun i hi=>by
  by_cases h1:i=c.N
  ·grind
  ·rw[Df i (by omega)];exact hX i (by omega)
 have ex:Ext c (c.fix w b off):=⟨by omega,hold,fun i hi=>by
  show(if (c.ρ i).1=b then rowSize w b else c.Z (c.ρ i).1)=_
  split
  ·rename_i he;rw[h.zz i hi,he]
  ·rfl,Df⟩
 have key:∀i o,(σ.new (.cells cs.length cs true)).tr.get i=some o→(i=c.N∧o=.cells cs.length cs true)∨(i<c.N∧σ.tr.get i=some o):=by
  intro i o hi
  rw[gT,h.next] at hi
  by_cases h1:i=c.N
  ·grind
  ·simp[h1] at hi;exact .inr ⟨h.live i o hi,hi⟩
 refine⟨⟨by simp[H.new,h.next,hN],fun i o hi => ?_,fun i hi => ?_,fun i hi => ?_,fun i j o o' hi hj he => ?_,fun i o hi => ?_,fun i yF nu hi hx => ?_,fun i o hi hx => ?_⟩,I,ex,by rw[h.next];exact J,by rw[h.next,hN];omega⟩
 ·grind
 ·by_cases h1:i=c.N
  ·grind
  ·rw[hold i (by omega)];exact h.lP i (by omega)
 ·by_cases h1:i=c.N
  ·rw[h1,J];show(if b=b then rowSize w b else c.Z b)=_;rw[aC rfl]
  ·rw[hold i (by omega)]
   show(if (c.ρ i).1=b then rowSize w b else c.Z (c.ρ i).1)=_
   split
   ·grind
   ·exact h.zz i (by omega)
 ·have li:i<c.N+1:=by grind
  have lj:j<c.N+1:=by grind
  exact .inr ⟨I i (by omega),I j (by omega)⟩
 ·rcases key i o hi with⟨rfl,rfl⟩|⟨a1,a2⟩
  ·refine⟨rfl,fun v hv=>⟨(cu ex v (mD v hv).1).2,(mD v hv).2⟩,C,e,fz,by grind,by grind,fun j v hj => ?_,aa⟩<;>grind[cu]
  ·exact(h.obj i o a2).later ex a1 rfl
 ·have li:i<c.N+1:=by grind
  rw[I i (by omega)] at hx;cases hx
 ·rcases key i o hi with⟨_,rfl⟩|⟨a1,a2⟩
  ·simp
  ·rw[Df i a1] at hx;exact h.fx i o a2 hx
theorem Lw {c:Ctx}{w:World}(hX:Kv c)(h:cC c w c' w'): w.keptBut w' (fun _=>False)∧w.heap.size≤w'.heap.size∧∀b,b<w.heap.size→w'.heap[b]?=w.heap[b]?:=by
 have J:∀b,b<w.heap.size→w'.heap[b]?=w.heap[b]?:=fun b hb=>h.lD b hb fun id I _=>hX id I
 refine⟨⟨h.sys.1,h.sys.2,fun i hi => ?_⟩,h.size,J⟩
 rw[J i hi]
 split<;>simp_all
end Go.Proofs.YtiojppeahfoiaaaGreat.Am
namespace Go.Proofs.YtiojppeahfoiaaaGreat.Am
open Go Go.ChangeShapes
variable {L:mL} {X:aI} {C:ep} {lT:Code} {c':Ctx} {ε aj:bA} {env:Env} {fn:Func} {cl:Go.Call} {h σ:H} {d x0 x1 x2:Int} {da db:List (Int×Int×Int×Int)} {now:List (Int×List Nat)} {l1 l2:List (Nat×Nat)} {E E2:List (Nat×V)} {S S':List aI} {ks:List Int} {data fI mk want mix:List Nat} {rs cy ey:List bV} {args cs:List V} {i id rr n N B c k tx pv M ba ck g a q r aH nx sK f l aF b dn qK b1 j it bk clock oX p2 r1 r2 off fuel:Nat} {fz:Nat×Nat} {o:Oper} {x:Operand} {P:Program} {A A1 A2:mU} {α H':Type} {e t:TypeId} {dv u dt kv mv av z vH y bv ka kb wv nn cv:V} {R:V→H→Prop} {w':World}
def AX (W:World)(S:List aI)(c:Ctx)(σ:H): Prop:=Rel c σ W∧Kv c∧Sat σ S
theorem AX.zero (W:World): ∃c σ,AX W [] c σ:=by
 refine⟨_,_,Rel.empty W,fun id h=>absurd h (E6 _),⟨fun id o h=>by simp[T.ug] at h,fun _=>none,fun _=>none,fun _ _ h=>(by cases h),fun _ _ h=>(by cases h),fun _=>.inl rfl,aa⟩⟩
theorem AX.sat {W:World}{c:Ctx}(h:AX W S c σ)(hs:∀h,Sat h S→Sat h S'): AX W S' c σ:=⟨h.1,h.2.1,hs σ h.2.2⟩
def oY {α:Type}(W:World)(cs:List Value)(E:List V→α→aI)(φ:α→Prop): Prop :=
 ∀(c:Ctx) (σ:H) (S:List aI),AX W S c σ→∃(c':Ctx) (dz:H) (vs:List V) (x:α),AX W (E vs x::S) c' dz∧Ext c c'∧vs.map (conc c')=cs∧(∀v∈vs,wf c' v∧storable v=true)∧φ x
theorem oY.rows {W:World}{E:List V→α→aI}{A:List V→List α→aI}{φ:α→Prop}(hE:∀vs x,bg (E vs x))(hA:∀l m,bg (A l m))(zI:∀m r,(A [] []).p m r)(J:∀vs x l m a b,(E vs x).p a b→(A l m).p a b→(A (vs++l) (x::m)).p a b):
  ∀(I:List (List Value)),(∀cs∈I,oY W cs E φ)→oY W I.flatten A (fun xs=>xs.length=I.length∧∀x∈xs,φ x):=by
 intro I
 induction I with
 |nil =>
  intro _ c σ S h
  exact⟨c,σ,[],[],h.sat fun h s=>(s.fB (φ:=True) aa).iu fun m r _=>zI m r,Ext.refl c,rfl,fun v hv=>(by cases hv),rfl,fun x hx=>(by cases hx)⟩
 |cons cs I ih =>
  intro hc c σ S h
  obtain⟨c1,σ1,l,m,h1,e1,m1,w1,n1,p1⟩:=ih (fun x hx=>hc x (bW _ hx)) c σ S h
  obtain⟨c2,σ2,vs,x,h2,e2,m2,w2,p2⟩:=hc cs bX c1 σ1 _ h1
  obtain⟨q1,q2⟩:=mc e2 fun v hv=>(w1 v hv).1
  refine⟨c2,σ2,vs++l,x::m,h2.sat fun h s=>s.two (hE _ _) (hA _ _) fun a b k1 k2=>J _ _ _ _ _ _ k1 k2,e1.trans e2,?_,fun v hv => ?_,by grind,fun y hy => ?_⟩<;>grind
def Sk {α:Type}(k:Nat)(A:List V→List α→aI)(vs:List V)(x:List α): aI:=.xs fun v:V=>.xs fun cs:List V=>.an (.pu (vs=[v])) (.an (vP k v cs) (A cs x))
theorem oY.adG {W:World}{A:List V→List α→aI}{φ:List α→Prop}(I:∀m r,(A [] []).p m r)(J:φ []): oY W [.slice none 0 0] (Sk k A) φ:=fun c σ S h =>
 ⟨c,σ,[.aY],[],h.sat fun h s=>(s.fB (φ:=True) aa).iu fun m r _=>⟨.aY,[],rfl,⟨none,.inl rfl,rfl⟩,I m r⟩,Ext.refl c,by rfl,fun v hv=>by rw[List.mem_singleton.1 hv];exact⟨aa,rfl⟩,J⟩
theorem oY.aaN {W:World}{A:List V→List α→aI}{φ:List α→Prop}{a:Addr}(I:∀m r,(A [] []).p m r)(J:φ []): oY W [.slice (some a) 0 0] (Sk k A) φ:=fun c σ S h =>
 ⟨c,σ,[.sle a],[],h.sat fun h s=>(s.fB (φ:=True) aa).iu fun m r _=>⟨.sle a,[],rfl,⟨none,.inr ⟨a,rfl⟩,rfl⟩,I m r⟩,Ext.refl c,by rfl,fun v hv=>by rw[List.mem_singleton.1 hv];exact⟨aa,rfl⟩,J⟩
theorem oY.adH {W:World}{len cap:Nat}{A:List V→List α→aI}{φ:List α→Prop}{cs:List Value}{C:Array Value}(hb:W.heap[b]?=some (.cells C e fz))(hl:off+cs.length≤C.size)(hn:cs.length=len*k)(J:len≤cap)
 (hc:∀j v,cs[j]?=some v→C[off+j]?=some v)(hA:∀l m,bg (A l m))(ho:oY W cs A φ): oY W [.slice (some ⟨b,off,none⟩) len cap] (Sk k A) φ:=by
 intro c σ S h
 obtain⟨c1,I,vs,x,h1,e1,m1,w1,p1⟩:=ho c σ S h
 have hlen:vs.length=cs.length:=by grind
 obtain⟨g1,g2,g3,g4,g5⟩:=h1.1.fix h1.2.1 hb (cs:=vs) (off:=off) (by omega) (fun j v hv=>hc j _ (by grind)) w1
 refine⟨_,_,[.sl I.next 0 len (.exact cap)],x,⟨g1,g2,?_⟩,e1.trans g3,?_,fun v hv => ?_,p1⟩
 ·have s1:Sat (I.new (.cells vs.length vs true)) (.ro I.next (.cells vs.length vs true)::A vs x::S):=(h1.2.2.new _).freeze
  refine s1.two (bg.ro _ _) (hA _ _) fun m r k1 k2=>⟨_,vs,rfl,⟨some (I.next,len,cap),k1,rfl,by omega⟩,k2⟩
 ·simp[conc,g4]
 ·rw[List.mem_singleton.1 hv]
  exact⟨⟨g5,J⟩,rfl⟩
def byE (vs:List V)(l:List Nat): aI:=.xs fun v:V=>.an (.pu (vs=[v])) (.cD v l)
theorem Kw {W:World}{a:Addr}{v:Value}(h:W.cell? a=some v): ∃b off,a=⟨b,off,none⟩∧∃C e fz,W.heap[b]?=some (.cells C e fz)∧C[off]?=some v:=by
 obtain⟨b,off,spot⟩:=a
 have hs:spot=none:=World.cell?_spot h
 grind[World.cell?]
theorem M8 {β:Type}{f:α→β}{l:List α}{b:β}(h:l.map f=[b]): ∃a,l=[a]∧f a=b:=by
 simp_all
end Go.Proofs.YtiojppeahfoiaaaGreat.Am
namespace Go.Proofs.YtiojppeahfoiaaaGreat.Am
open Go Go.ChangeShapes Go.WideShapes Go.ChangeAt Go.RowKit
variable {L:mL} {X:aI} {C:ep} {lT:Code} {c':Ctx} {ε aj:bA} {env:Env} {fn:Func} {cl:Go.Call} {h σ:H} {d x0 x1 x2:Int} {da db:List (Int×Int×Int×Int)} {now:List (Int×List Nat)} {l1 l2:List (Nat×Nat)} {E E2:List (Nat×V)} {S S':List aI} {ks:List Int} {data fI mk want mix:List Nat} {rs cy ey:List bV} {args cs:List V} {i id rr n N B c k tx pv M ba ck g a q r aH nx sK f l aF b dn qK b1 j it bk clock oX p2 r1 r2 off fuel:Nat} {fz:Nat×Nat} {o:Oper} {x:Operand} {P:Program} {A A1 A2:mU} {α H':Type} {e t:TypeId} {dv u dt kv mv av z vH y bv ka kb wv nn cv:V} {R:V→H→Prop} {w':World}
theorem Vb {H:Type}(d:DataW H): 1≤Rows.uptoBulk d:=by
 cases d with
 |lit l=>cases l<;>simp[Rows.uptoBulk]
 |nil=>simp[Rows.uptoBulk]
 |ptr d=>simp[Rows.uptoBulk]
 |slice elems spare=>simp[Rows.uptoBulk]
 |agg parts=>simp[Rows.uptoBulk]
 |iface t d=>simp[Rows.uptoBulk]
 |map entries=>simp[Rows.uptoBulk]
 |held h=>simp[Rows.uptoBulk]
theorem AY {H:Type}{d:DataW H}: ∀ {l:List (DataW H)},d∈l→Rows.uptoBulk d≤Rows.uptoBulkAll l:=by
 intro l
 induction l<;>grind[Rows.uptoBulkAll]
theorem Kx {H:Type}: ∀(l:List (DataW H)),l.length≤Rows.uptoBulkAll l:=by
 intro l
 induction l<;>grind[Vb,Rows.uptoBulkAll]
theorem EH {H:Type}(a b:List (DataW H)): Rows.uptoBulk (.slice a b)=Rows.uptoBulkAll a+Rows.uptoBulkAll b+1:=by rfl
theorem M9 {W:World}{o:Nat}{C:Array Value}(I:W.heap[b]?=some (.cells C e fz)): W.cell? ⟨b,o,none⟩=C[o]?:=by
 grind[World.cell?]
section
variable {enc:TypeId×Value→H'} {W:World} {cs:List Value} {x:DataW H'×List MemPlace}
theorem Yo (h:DataW.trod enc Tryz.prog W 0 (fun _=>true) true fuel 23 cs=some x)(hB:Rows.uptoBulk x.1≤B): oY W cs byE (fun l=>l.length≤B):=by
 rcases open_ints aJ Tryz.underlying5 (by kernel_rfl) h with⟨rfl,rfl⟩|⟨a,len,cap,zs,rfl,_,Q0,_,hz,rfl,I,mD⟩
 ·exact fun c σ S h=>⟨c,σ,[.aY],[],h.sat fun h s=>s.rX.iu fun m r k=>⟨.aY,rfl,k⟩,Ext.refl c,by rfl,fun v J=>by rw[List.mem_singleton.1 J];exact⟨aa,rfl⟩,ew _⟩
 ·rw[aC rfl] at hz
  by_cases h0:cap=0
  ·have:len=0:=by omega
   subst this
   subst h0
   exact fun c σ S h=>⟨c,σ,[.sle a],[],h.sat fun h s=>(s.fB (φ:=True) aa).iu fun m r k=>⟨.sle a,rfl,by simp,.inl ⟨.inr ⟨a,rfl⟩,rfl⟩⟩,Ext.refl c,by rfl,fun v J=>by rw[List.mem_singleton.1 J];exact⟨aa,rfl⟩,ew _⟩
  ·have g0:=I 0 (by omega)
   obtain⟨b,off,spot⟩:=a
   have hs:spot=none:=by simpa[Addr.add] using World.cell?_spot g0
   subst hs
   have I:∀i,i<zs.length→W.cell? ⟨b,off+i,none⟩=some (.int .u8 (zs.getD i 0)):=fun i hi=>by grind[add_plain]
   obtain⟨b',off',he,C,e,fz,hb,MW⟩:=Kw (I 0 (by omega))
   simp only[Addr.mk.injEq,and_true] at he
   obtain⟨rfl,rfl⟩:=he
   have hC:∀i,i<zs.length→C[off+i]?=some (.int .u8 (zs.getD i 0)):=fun i hi=>by grind[M9]
   have adI:off<C.size:=by
    grind
   have hu8:∀z∈zs,0≤z∧z<256:=fun z hz=>by
    have:=mD z hz
    simp only[Lit.wf,bH,ie] at this
    have e1:IntKind.min .u8=0:=rfl
    have e2:IntKind.max .u8=255:=rfl
    omega
   have Cn:((zs.take len).map Int.toNat).length=len:=by grind
   have YG:(ofBytes ((zs.take len).map Int.toNat)).length=len:=by rw[dR,Cn]
   have adJ:∀y∈(zs.take len).map Int.toNat,y<256:=fun y hy=>by
    grind
   intro c σ S h
   have fG:off+(ofBytes ((zs.take len).map Int.toNat)).length≤C.size:=by
    by_cases B4:len=0
    ·omega
    ·have:=(Array.getElem?_eq_some_iff.1 (hC (len-1) (by omega))).1
     omega
   have adK:∀j v,(ofBytes ((zs.take len).map Int.toNat))[j]?=some v→C[off+j]?=some (conc c v):=fun j v J=>by
    grind[ofBytes,List.getElem_mem,conc]
   obtain⟨g1,g2,g3,g4,g5⟩:=h.1.fix h.2.1 hb (off:=off) fG adK (fun v J=>by obtain⟨n,_,rfl⟩:=List.mem_map.1 J;exact⟨aa,rfl⟩)
   refine⟨_,_,[.sl σ.next 0 len (.exact cap)],(zs.take len).map Int.toNat,⟨g1,g2,?_⟩,g3,?_,fun v J => ?_,?_⟩
   ·have s1:=(h.2.2.new (.cells (ofBytes ((zs.take len).map Int.toNat)).length (ofBytes ((zs.take len).map Int.toNat)) true)).freeze
    refine s1.iu fun m r k=>⟨_,rfl,adJ,.inr ⟨σ.next,0,.exact cap,_,_,true,by rw[Cn],k,rfl,by omega,?_,?_⟩⟩<;>grind
   ·simp[conc,g4]
   ·rw[List.mem_singleton.1 J]
    exact⟨⟨g5,Q0⟩,rfl⟩
   ·rw[EH] at hB
    have h1:=Kx (lits (H:=H') .u8 (zs.take len))
    grind[lits]
theorem Sl {E:List V→α→aI}{A:List V→List α→aI}{φ:α→Prop}(ht:Tryz.prog.underlying t=some (.slice e))(hk:Tryz.prog.cellsOf e=k)(h1:1≤k)
 (hE:∀vs x,bg (E vs x))(hA:∀l m,bg (A l m))(zI:∀m r,(A [] []).p m r)(Nq:∀vs x l m a b,(E vs x).p a b→(A l m).p a b→(A (vs++l) (x::m)).p a b)
 (PE:∀n cs (y:DataW H'×List MemPlace),DataW.trod enc Tryz.prog W 0 (fun _=>true) true n e cs=some y→Rows.uptoBulk y.1≤B→oY W cs E φ)
 (h:DataW.trod enc Tryz.prog W 0 (fun _=>true) true fuel t cs=some x)(hB:Rows.uptoBulk x.1≤B): oY W cs (Sk k A) (fun xs=>xs.length≤B∧∀x∈xs,φ x):=by
 rcases DataW.trod_slice ht h with⟨rfl,rfl⟩|⟨a,len,cap,elems,rest,n,_,rfl,rfl,_,Q0,_,hlen,J,Jv,_⟩
 ·grind[oY.adG]
 ·obtain⟨DZ,Ww⟩:=Jv rfl
  rw[hk] at J Ww
  rw[EH] at hB
  by_cases h0:cap=0
  ·simp_all[oY.aaN]
  ·-- each element's cells
   have each:∀i,i<cap→∃cs,W.cells? 0 (a.add (i*k)) k=some cs:=fun i hi=>by
    by_cases LS:i<len
    ·have h2:=J i LS
     rw[bw (by omega)] at h2
     obtain⟨cs,h3,_⟩:=Option.bind_eq_some_iff.1 h2
     exact⟨cs,h3⟩
    ·have h2:=Ww (i-len) (by omega)
     rw[bw (by omega),show len+(i-len)=i by omega] at h2
     obtain⟨cs,h3,_⟩:=Option.bind_eq_some_iff.1 h2
     exact⟨cs,h3⟩
   obtain⟨cs0,adL⟩:=each 0 (by omega)
   obtain⟨_,B4,MW⟩:=World.cells?_some adL
   have g0:=MW 0 (by omega)
   obtain⟨v0,hv0⟩:∃v,cs0[0]?=some v:=⟨_,bw (by omega)⟩
   rw[hv0] at g0
   obtain⟨b,off,spot⟩:=a
   have hs:spot=none:=by simpa[Addr.add] using World.cell?_spot g0
   subst hs
   simp only[add_plain,qZ,l8] at g0
   obtain⟨b',off',he,C,ty,fz,hb,zH⟩:=Kw g0
   simp only[Addr.mk.injEq,and_true] at he
   obtain⟨rfl,rfl⟩:=he
   have adI:off<C.size:=(Array.getElem?_eq_some_iff.1 zH).1
   -- the rows
   have rows:∀i,i<len→∃cs,cs.length=k∧oY W cs E φ∧∀q v,cs[q]?=some v→C[off+i*k+q]?=some v:=fun i hi=>by
    have h2:=J i hi
    rw[bw (by omega)] at h2
    obtain⟨cs,h3,h4⟩:=Option.bind_eq_some_iff.1 h2
    obtain⟨_,hl,hc⟩:=World.cells?_some h3
    refine⟨cs,hl,PE n cs _ h4 ?_,fun q v hq => ?_⟩
    ·have:=AY (l:=elems.map (·.1)) (tH (wq (l:=elems) (n:=i) (by omega)))
     omega
    ·have hqk:q<k:=by grind
     have:=hc q hqk
     rw[add_plain,add_plain,M9 hb,hq] at this
     exact this
   have build:∀m,m≤len→∃I:List (List Value),I.length=m∧(∀cs∈I,oY W cs E φ)∧I.flatten.length=m*k∧∀j v,I.flatten[j]?=some v→C[off+j]?=some v:=by
    intro m
    induction m with
    |zero=>simp
    |succ m ih =>
     intro hm
     obtain⟨I,i1,i2,i3,i4⟩:=ih (by omega)
     obtain⟨cs,r1,r2,r3⟩:=rows m (by omega)
     refine⟨I++[cs],by simp[i1],fun y hy => ?_,by simp[i3,r1,pN],fun j v hj => ?_⟩
     ·rcases List.mem_append.1 hy with hy|hy<;>grind[List.mem_singleton]
     ·rw[List.flatten_append,List.flatten_singleton] at hj
      by_cases cH:j<m*k
      ·grind
      ·rw[vY (by omega),i3] at hj
       have:=r3 _ v hj
       rwa [show off+m*k+(j-m*k)=off+j by omega] at this
   obtain⟨I,b1,b2,b3,b4⟩:=build len (aV _)
   have fG:off+I.flatten.length≤C.size:=by
    by_cases B4:len*k=0
    ·omega
    ·obtain⟨v,hv⟩:∃v,I.flatten[len*k-1]?=some v:=⟨_,bw (by omega)⟩
     have:=(Array.getElem?_eq_some_iff.1 (b4 _ v hv)).1
     omega
   have main:=oY.adH (k:=k) (len:=len) (cap:=cap) hb fG b3 Q0 b4 hA (oY.rows hE hA zI Nq I b2)
   intro c σ S h
   obtain⟨c1,σ1,vs,x,q1,q2,q3,q4,q5,q6⟩:=main c σ S h
   refine⟨c1,σ1,vs,x,q1,q2,q3,q4,?_,q6⟩
   have:=Kx (elems.map (·.1))
   rw[gD] at this
   omega
end
end Go.Proofs.YtiojppeahfoiaaaGreat.Am
namespace Go.Proofs.YtiojppeahfoiaaaGreat.Am
open Go Go.ChangeShapes Go.WideShapes Go.ChangeAt Go.RowKit
variable {L:mL} {X:aI} {C:ep} {lT:Code} {c':Ctx} {ε aj:bA} {env:Env} {fn:Func} {cl:Go.Call} {h σ:H} {d x0 x1 x2:Int} {da db:List (Int×Int×Int×Int)} {now:List (Int×List Nat)} {l1 l2:List (Nat×Nat)} {E E2:List (Nat×V)} {S S':List aI} {ks:List Int} {data fI mk want mix:List Nat} {rs cy ey:List bV} {args cs:List V} {i id rr n N B c k tx pv M ba ck g a q r aH nx sK f l aF b dn qK b1 j it bk clock oX p2 r1 r2 off fuel:Nat} {fz:Nat×Nat} {o:Oper} {x:Operand} {P:Program} {A A1 A2:mU} {α H':Type} {e t:TypeId} {dv u dt kv mv av z vH y bv ka kb wv nn cv:V} {R:V→H→Prop} {w':World}
noncomputable def M_ (P:Program)(t:TypeId): Array Field:=match P.underlying t with
 |some (.struct I)=>I
 |_ => #[]
def F4 (I:Array Field)(i:Nat): Option (TypeId×Nat):=(I[i]?).map fun f=>(f.type,f.offset)
theorem ab3 : Tryz.prog.underlying 59=some (.struct (M_ Tryz.prog 59)):=by kernel_rfl
theorem Wx : Tryz.prog.cellsOf 59=4:=by kernel_rfl
theorem O2 : Tryz.prog.cellsOf 3=1:=by kernel_rfl
theorem ab4 : (M_ Tryz.prog 59).size=4:=by kernel_rfl
theorem ab5 : F4 (M_ Tryz.prog 59) 0=some (3,0):=by kernel_rfl
theorem ab6 : F4 (M_ Tryz.prog 59) 1=some (3,1):=by kernel_rfl
theorem ab7 : F4 (M_ Tryz.prog 59) 2=some (3,2):=by kernel_rfl
theorem ab8 : F4 (M_ Tryz.prog 59) 3=some (2,3):=by kernel_rfl
theorem ab9 : Tryz.prog.cellsOf 2=1:=by kernel_rfl
theorem BT {I:Array Field}{o:Nat}(h:F4 I i=some (t,o)): ∃f,I[i]?=some f∧f.type=t∧f.offset=o:=by
 grind[F4]
theorem Sn {l:List α}(h:l.length=4): ∃a b c d,l=[a,b,c,d]:=by
 rcases l with _|⟨a,_|⟨b,_|⟨c,_|⟨d,_|⟨e,l⟩⟩⟩⟩⟩<;>simp at h
 exact⟨a,b,c,d,rfl⟩
def d4E (vs:List V)(D:Int×Int×Int×Int): aI:=.pu (vs=[.int .i64 D.1,.int .i64 D.2.1,.int .i64 D.2.2.1,.int .i64 D.2.2.2])
def d4A (l:List V)(m:List (Int×Int×Int×Int)): aI:=.pu (l=rQ m)
section
variable {enc:TypeId×Value→H'} {W:World} {cs:List Value} {x:DataW H'×List MemPlace}
theorem Yp (h:DataW.trod enc Tryz.prog W 0 (fun _=>true) true fuel 59 cs=some x): oY W cs d4E (fun _=>True):=by
 obtain⟨xs,n,rfl,rfl,hl,hx,hf⟩:=DataW.trod_struct ab3 h
 rw[Wx] at hl
 rw[ab4] at hx
 obtain⟨f0,a0,b0,c0⟩:=BT ab5
 obtain⟨f1,a1,b1,c1⟩:=BT ab6
 obtain⟨f2,a2,b2,c2⟩:=BT ab7
 obtain⟨f3,a3,b3,c3⟩:=BT ab8
 have h0:=hf 0 f0 a0
 have h1:=hf 1 f1 a1
 have h2:=hf 2 f2 a2
 have h3:=hf 3 f3 a3
 rw[b0,c0,O2] at h0
 rw[b1,c1,O2] at h1
 rw[b2,c2,O2] at h2
 rw[b3,c3,ab9] at h3
 obtain⟨v0,v1,v2,v3,rfl⟩:=Sn hl
 obtain⟨y0,y1,y2,y3,rfl⟩:=Sn hx
 have h0:DataW.trod enc Tryz.prog W 0 (fun _=>true) true n 3 [v0]=some y0:=h0
 have h1:DataW.trod enc Tryz.prog W 0 (fun _=>true) true n 3 [v1]=some y1:=h1
 have h2:DataW.trod enc Tryz.prog W 0 (fun _=>true) true n 3 [v2]=some y2:=h2
 have h3:DataW.trod enc Tryz.prog W 0 (fun _=>true) true n 2 [v3]=some y3:=h3
 obtain⟨m0,I,_,_⟩:=DataW.trod_int br h0
 injection I with I _
 subst I
 obtain⟨m1,J,_,_⟩:=DataW.trod_int br h1
 injection J with J _
 subst J
 obtain⟨m2,B6,_,_⟩:=DataW.trod_int br h2
 injection B6 with B6 _
 subst B6
 obtain⟨m3,hm3,_,_⟩:=DataW.trod_int En h3
 injection hm3 with hm3 _
 subst hm3
 exact fun c σ S hr=>⟨c,σ,[.int .i64 m0,.int .i64 m1,.int .i64 m2,.int .i64 m3],(m0,m1,m2,m3),hr.sat fun h s=>(s.fB (φ:=True) aa).iu fun a b k=>rfl,Ext.refl c,by rfl,fun v hv=>by
  simp only[jz,kF,n4] at hv
  rcases hv with rfl|rfl|rfl|rfl<;>exact⟨aa,rfl⟩,aa⟩
theorem Vc (h:DataW.trod enc Tryz.prog W 0 (fun _=>true) true fuel 48 cs=some x)(I:Rows.uptoBulk x.1≤B): oY W cs (Sk 4 d4A) (fun xs=>xs.length≤B∧∀y∈xs,True) :=
 Sl (E:=d4E) EB Wx (by decide) (fun _ _=>bg.pu _) (fun _ _=>bg.pu _) (fun _ _=>rfl) (fun vs x l m a b J h2=>by
  subst J
  subst h2
  exact(rfl:_=rQ (x::m))) (fun n cs y hy _=>Yp hy) h I
end
end Go.Proofs.YtiojppeahfoiaaaGreat.Am
namespace Go.Proofs.YtiojppeahfoiaaaGreat.Am
open Go Go.ChangeShapes Go.WideShapes Go.ChangeAt Go.RowKit
variable {L:mL} {X:aI} {C:ep} {lT:Code} {c':Ctx} {ε aj:bA} {env:Env} {fn:Func} {cl:Go.Call} {h σ:H} {d x0 x1 x2:Int} {da db:List (Int×Int×Int×Int)} {now:List (Int×List Nat)} {l1 l2:List (Nat×Nat)} {E E2:List (Nat×V)} {S S':List aI} {ks:List Int} {data fI mk want mix:List Nat} {rs cy ey:List bV} {args cs:List V} {i id rr n N B c k tx pv M ba ck g a q r aH nx sK f l aF b dn qK b1 j it bk clock oX p2 r1 r2 off fuel:Nat} {fz:Nat×Nat} {o:Oper} {x:Operand} {P:Program} {A A1 A2:mU} {α H':Type} {e t:TypeId} {dv u dt kv mv av z vH y bv ka kb wv nn cv:V} {R:V→H→Prop} {w':World}
noncomputable def O3 : List (Nat×RU):=[(76,BQ),(136,vR 136),(159,vR 159),
 (208,OR 208),(80,vR 80),(79,vR 79),
 (26,OM CK 26),(191,HW)]
end Go.Proofs.YtiojppeahfoiaaaGreat.Am
namespace Go.Proofs.YtiojppeahfoiaaaGreat.Am
open Go Go.ChangeShapes Go.WideShapes Go.ChangeAt Go.RowKit
variable {L:mL} {X:aI} {C:ep} {lT:Code} {c':Ctx} {ε aj:bA} {env:Env} {fn:Func} {cl:Go.Call} {h σ:H} {d x0 x1 x2:Int} {da db:List (Int×Int×Int×Int)} {now:List (Int×List Nat)} {l1 l2:List (Nat×Nat)} {E E2:List (Nat×V)} {S S':List aI} {ks:List Int} {data fI mk want mix:List Nat} {rs cy ey:List bV} {args cs:List V} {i id rr n N B c k tx pv M ba ck g a q r aH nx sK f l aF b dn qK b1 j it bk clock oX p2 r1 r2 off fuel:Nat} {fz:Nat×Nat} {o:Oper} {x:Operand} {P:Program} {A A1 A2:mU} {α H':Type} {e t:TypeId} {dv u dt kv mv av z vH y bv ka kb wv nn cv:V} {R:V→H→Prop} {w':World}
noncomputable def O4 : List (Nat×RU):=(117,FN)::(118,QF)::O3
noncomputable def O5 : Nat→Option (List V→H→Option (V×H)):=toldP O4 qF
noncomputable abbrev CZ : ep:=⟨Tryz.prog,O5⟩
theorem F5 : W O5:=M4 fun x I=>by
 simp only[O4,O3,jz,kF,n4] at I
 rcases I with rfl|rfl|rfl|rfl|rfl|rfl|rfl|rfl|rfl|rfl<;>exact⟨by decide,by decide,by decide⟩
theorem Ky : eM CZ:=Kn fun x I=>by
 simp only[O4,O3,jz,kF,n4] at I
 rcases I with rfl|rfl|rfl|rfl|rfl|rfl|rfl|rfl|rfl|rfl
 ·exact⟨_,Ak,rfl,by decide⟩
 ·exact⟨_,Tryz.func118,rfl,by decide⟩
 ·exact⟨_,Eo,rfl,by decide⟩
 ·exact⟨_,Kf,rfl,by decide⟩
 ·exact⟨_,Tryz.func159,rfl,by decide⟩
 ·exact⟨_,AS,rfl,by decide⟩
 ·exact⟨_,Kh,rfl,by decide⟩
 ·exact⟨_,Jg,rfl,by decide⟩
 ·exact⟨_,Kg,rfl,by decide⟩
 ·exact⟨_,JL,rfl,by decide⟩
theorem Vd : WB O5:=⟨⟨⟨⟨⟨F5,rfl⟩,⟨F5,rfl⟩,rfl,rfl⟩,rfl⟩,rfl,rfl,rfl⟩,⟨F5,rfl,rfl⟩⟩
theorem Sq {enc:TypeId×Value→H'}{W:World}{I J:Nat}{x1 x2:DataW H'×List MemPlace}{v0 v1:Value}(h1:DataW.trod enc Tryz.prog W 0 (fun _=>true) true I 48 [v0]=some x1)(hB1:Rows.uptoBulk x1.1≤1048576)
 (h2:DataW.trod enc Tryz.prog W 0 (fun _=>true) true J 23 [v1]=some x2)(hB2:Rows.uptoBulk x2.1≤1048576):
  Calls Tryz.prog 7 #[v0,v1] W fun e w'=>e=.returned (.bool true)∧W.keptBut w' (fun _=>False)∧W.heap.size≤w'.heap.size∧∀b,b<W.heap.size→w'.heap[b]?=W.heap[b]?:=by
 obtain⟨c0,σ0,h0⟩:=AX.zero W
 obtain⟨c1,σ1,vs1,L,oQ,_,Ce,adM,hL⟩:=Vc h1 hB1 c0 σ0 [] h0
 obtain⟨lv,rfl,hlv⟩:=M8 Ce
 obtain⟨c,σ,vs2,ch,hr,CA,B6,adN,_⟩:=Yo h2 hB2 c1 σ1 _ oQ
 obtain⟨cv,rfl,wL⟩:=M8 B6
 have wO:=cu CA lv (adM lv (by simp)).1
 obtain⟨cv',s⟩:=gK.1 hr.2.2
 have s0:=s
 obtain⟨_,_,_,_,hk⟩:=s0.at (k:=0) rfl
 have e:[cv]=[cv']:=hk.1
 injection e with e _
 subst e
 have s:=s.iu (B:=.cD cv ch) fun _ _ k=>k.2
 obtain⟨lv',s⟩:=gK.1 (s.ae [1])
 obtain⟨cs,s⟩:=gK.1 s
 have s0:=s
 obtain⟨_,_,_,_,hk⟩:=s0.at (k:=0) rfl
 have e:[lv]=[lv']:=hk.1
 injection e with e _
 subst e
 have ec:cs=rQ L:=hk.2.2
 subst ec
 have s1:=s.iu (B:=vP 4 lv (rQ L)) fun _ _ k=>k.2.1
 obtain⟨v',h',⟨K,hK⟩,rfl⟩:=Yn (c:=ch) (cv:=cv) Vd s1
 have iO:=(callF_ok (C:=CZ) (xJ fT Ky K).1 Ky hK hr.1 (fun x hx=>by
  rcases List.mem_cons.1 hx with rfl|hx
  ·exact wO.2
  ·rw[List.mem_singleton.1 hx];exact(adN cv (by simp)).1)).1
 unfold fe at iO
 have ea:(([lv,cv].map (conc c)).toArray) = #[v0,v1]:=by simp[wO.1,hlv,wL]
 rw[ea] at iO
 refine Calls.mono iO ?_
 rintro e w' ⟨c',rfl,_,_,hs⟩
 obtain⟨k1,k2,k3⟩:=Lw hr.2.1 hs
 exact⟨by simp[conc],k1,k2,k3⟩
end Go.Proofs.YtiojppeahfoiaaaGreat.Am
