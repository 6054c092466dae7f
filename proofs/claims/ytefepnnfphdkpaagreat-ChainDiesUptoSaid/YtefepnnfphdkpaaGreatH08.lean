/- ChainDies: a part of its proof; conditions: its statement's. -/
import Derived.Test.YtefepnnfphdkpaaGreatH06
import Derived.Test.YtefepnnfphdkpaaGreatH07
import Derived.Test.YtefepnnfphdkpaaGreatH04
import Derived.Test.YtefepnnfphdkpaaGreatH05
namespace Go.Proofs.YtefepnnfphdkpaaGreat.Am
open Go
variable {X:aL} {cl:Bool} {C:fc} {δ vZ:Dk} {R:Dk→Prop} {ε af:aX} {Q:Ex→List (Nat×V)→H→Prop} {h h':H} {e:Int} {σ B0:Int→List Nat} {g:Int→Option Nat} {mD pd:Int→Prop} {x:LD} {μ:Lg} {d:List (Int×(Nat×Bool))} {now bL:List (Int×List Nat)} {E:List (Nat×V)} {S:List aL} {cs:List cq} {data b l rest j dX:List Nat} {ds:List V} {n tx pv nx a q aC i c k kF N id c0 wv ba f aO B F K M pE:Nat} {o:Oper} {y:Operand} {P:Program} {α:Type} {t:TypeId} {wt cv z:V}
theorem vG {m:Nat}(hle:n≤m){args:List V}{r:V×H}(I:toldParsed CB n args h=some r): toldParsed CB m args h=some r:=by
 unfold toldParsed at I ⊢
 have mono:=dA (C:=CB) hle
 split at I
 ·rename_i x
  split at I
  ·rename_i J h₁
   simp only[mono _ _ _ h₁]
   cases We:Nat.blt 4 J.au with
   |false=>rw[We] at I;cases I
   |true =>
    rw[We,aj] at I
    rw[aj]
    split at I
    ·rename_i Nk Ql
     simp only[mono _ _ _ Ql]
     split at I
     ·rename_i aar Du
      simp only[mono _ _ _ Du]
      exact I
     ·cases I
    ·cases I
  ·cases I
 ·cases I
section
variable {v:V}
noncomputable def prH : Code:=cN [0] ((Tryz.f173.body).getD .skip)
noncomputable def prM : Code:=cN [1,1,0] ((Tryz.f173.body).getD .skip)
theorem aas (s:Sat h S)(I:Has E [(0,v)])
 (J:∀E' h' p2 p3,Has E' [(0,v),(2,.ptr p2 0),(3,.ptr p3 0)]→Sat h' (pt p3 (.cells 1 [.bool false] false)::pt p2 (.cells 6 (iw 0 0 0 0 .a_ .a_) false)::S)→Q .normal E' h'): WP CB 9 prH E h Q:=by
 refine WP.has I (zr rfl ?_)
 refine ax.cm s rfl rfl rfl (b6 rO) (fun p2 h s => ?_)
 refine ax.cm s rfl rfl rfl (b6 zt4) (fun p3 h s => ?_)
 exact zv (J _ _ _ _ ⟨rfl,rfl,rfl,aa⟩ s)
theorem aat {kd:Nat}{aR:List cq}(hg:ej kd aR=true)(hk:kd<256)(hr:yH tx pv nx data aR)(hX:cL X (cQ v (dD kd tx pv nx data aR))){p2 p3:Nat}(s:Sat h (pt p3 (.cells 1 [.bool false] false)::pt p2 (.cells 6 (iw 0 0 0 0 .a_ .a_) false)::X::S))
 (hE:Has E [(0,v),(2,.ptr p2 0),(3,.ptr p3 0)])
 (hq:∀E' h' dt ch cs,Has E' [(2,.ptr p2 0),(3,.ptr p3 0)]→Sat h' (pt p3 (.cells 1 [.bool true] false)::pt p2 (.cells 6 (iw kd tx pv nx dt ch) false)::X::aQ dt data::.arr 4 ch cs::dm cs aR::S)→Q .normal E' h'): WP CB 9 prM E h Q:=by
 obtain⟨pi,po,pc,rfl⟩:=iY (s.aD (k:=2) rfl hX) (by simp only[dD,bV,bF];omega)
 refine WP.has hE (zK 2 rfl (zo rfl (cT rfl (by rw[abj];rfl)) ?_))
 refine ax.cm s rfl rfl rfl (fY rfl rfl) ?_
 intro p1 h s
 dsimp only[V.cells] at s
 refine zc rfl (X8 W.base hg hk hr ⟨_,hX,s.ae [0,2]⟩) ?_
 rintro r h ⟨dt,ch,cs,rfl,s⟩
 have I:=(s.buf (k:=1) rfl).view.cells
 have J:=s.ju (j:=2) rfl
 refine zS rfl (s.fS (j:=5) rfl ik rfl (m8 I.2 J.2.1)) ?_
 rintro h s
 refine zS rfl (by exact s.eH (k:=4) rfl yX rfl (by decide) rfl rfl) (fun h s => ?_)
 exact zv (hq _ _ _ _ _ ⟨rfl,rfl,aa⟩ (s.ae [4,4,0,0,0,0]))
noncomputable def qrR : Code:=cN [1] ((Tryz.f191.body).getD .skip)
theorem aau {x y:V}(I:Has E [(0,x),(1,y),(2,.jQ),(5,.jQ)])(J:∀E',Q .normal E' h): WP CB 16 qrR E h Q:=by
 refine WP.has I (zK 3 rfl (zo rfl (Te (r:=.bf [.int .i64 0,.bool false]) rfl (by simp only[assertV,Tryz.underlying30,ZB])) ?_))
 refine zk 14 rfl (zo rfl (aA (r:=.bool false) rfl rfl (by simp only[binV,Tryz.underlying20];rfl)) ?_)
 refine zv (zj rfl (WP.skip ?_))
 exact J _
theorem OO {kd:Nat}{aR:List cq}(hg:ej kd aR=true)(hk:kd<256)(hr:yH tx pv nx data aR)(s:Sat h (X::S))(hX:cL X (cQ v (dD kd tx pv nx data aR))):
  ∃n r,toldParsed CB n [v] h=some r∧∃dt ch cs,r.1=.bf [.agg (iw kd tx pv nx dt ch),.bool true]∧Sat r.2 (X::aQ dt data::.arr 4 ch cs::dm cs aR::S):=by
 obtain⟨N1,Rz,I,h1,E1,a1,k1,rfl,p2,p3,J,s1⟩:=aas (Q:=fun ex E' h'=>ex=.normal∧∃p2 p3,Has E' [(0,v),(2,.ptr p2 0),(3,.ptr p3 0)]∧Sat h' (pt p3 (.cells 1 [.bool false] false)::pt p2 (.cells 6 (iw 0 0 0 0 .a_ .a_) false)::X::S)) (v:=v) (E:=argE [v] 0) s ⟨rfl,aa⟩ (fun E' h' p2 p3 hE s=>⟨rfl,p2,p3,hE,s⟩) _ (ur [v])
 have v2:I.v 2=.ptr p2 0:=by simp only[Env.v,k1 _ _ J.2.1]
 have v3:I.v 3=.ptr p3 0:=by simp only[Env.v,k1 _ _ J.2.2.1]
 have k1':=k1.set 4 (.fn (.func 191) [] [I.v 2,I.v 3])
 obtain⟨N2,mJ,yE,h2,E2,a2,k2,rfl,dt,ch,cs,VY,s2⟩:=aat (Q:=fun ex E' h'=>ex=.normal∧∃dt ch cs,Has E' [(2,.ptr p2 0),(3,.ptr p3 0)]∧Sat h' (pt p3 (.cells 1 [.bool true] false)::pt p2 (.cells 6 (iw kd tx pv nx dt ch) false)::X::aQ dt data::.arr 4 ch cs::dm cs aR::S)) hg hk hr hX s1 (E:=(4,.fn (.func 191) [] [I.v 2,I.v 3])::E1) ⟨J.1,J.2.1,J.2.2.1,aa⟩ (fun E' h' dt ch cs hE s=>⟨rfl,dt,ch,cs,hE,s⟩) _ k1'
 have k3:=((ur [V.ptr p2 0,V.ptr p3 0]).set 5 .jQ).set 2 .jQ
 obtain⟨N3,ex3,aez,h3,E3,a3,k3',rfl,rfl⟩:=aau (h:=h2) (x:=.ptr p2 0) (y:=.ptr p3 0) (Q:=fun ex E' h'=>ex=.normal∧h'=h2) (E:=(2,.jQ)::(5,.jQ)::argE [.ptr p2 0,.ptr p3 0] 0) ⟨rfl,rfl,rfl,rfl,aa⟩ (fun E'=>⟨rfl,rfl⟩) _ k3
 have r1:mapO (resV Tryz.prog ⟨yE,9,h3⟩) Tryz.f173.results.toList=some [.agg (iw kd tx pv nx dt ch),.bool true]:=by
  refine wT (s:=⟨yE,9,h3⟩) k2 ?_
  have e1:resE Tryz.prog E2 h3 (.cell 2 48)=some (.agg (iw kd tx pv nx dt ch)):=by
   simp only[resE,VY.1]
   exact s2.dn (k:=1) rfl oc ik
  have e2:resE Tryz.prog E2 h3 (.cell 3 4)=some (.bool true):=by
   simp only[resE,VY.2.1]
   exact s2.ld (k:=0) rfl kZ rfl
  show mapO (resE Tryz.prog E2 h3) [.cell 2 48,.cell 3 4]=_
  simp only[mapO,e1,e2]
 refine⟨max N1 (max N2 N3),(.bf [.agg (iw kd tx pv nx dt ch),.bool true],h3),?_,dt,ch,cs,rfl,(s2.del 0).del 0⟩
 have b1:=dA (C:=CB) (show N1≤max N1 (max N2 N3) by omega) _ _ _ a1
 have b2:=dA (C:=CB) (show N2≤max N1 (max N2 N3) by omega) _ _ _ a2
 have b3:=dA (C:=CB) (show N3≤max N1 (max N2 N3) by omega) _ _ _ a3
 simp only[toldParsed]
 rw[show OM=prH from rfl,b1]
 simp only[v2,v3] at b2 ⊢
 rw[show Nat.blt 4 9=true from rfl,aj,show ON=prM from rfl,b2]
 dsimp only
 rw[show HT=qrR from rfl,b3]
 dsimp only
 rw[r1]
def HU (args:List V)(h:H)(r:V×H): Prop:=∃n,toldParsed CB n args h=some r
structure WR (told:cR): Prop where
 w:W told
 pr:told 173=some (iZ Tryz.prog 173 HU)
theorem R1 {told:cR}(hT:WR told){kd:Nat}{aR:List cq}(hg:ej kd aR=true)(hk:kd<256)(J:yH tx pv nx data aR)(s:Sat h (X::S))(hX:cL X (cQ v (dD kd tx pv nx data aR))):
  Call ⟨Tryz.prog,told⟩ 173 [v] h fun r h'=>∃dt ch cs,r=.bf [.agg (iw kd tx pv nx dt ch),.bool true]∧Sat h' (X::aQ dt data::.arr 4 ch cs::dm cs aR::S):=by
 obtain⟨n,r,e,hP⟩:=OO hg hk J s hX
 obtain⟨r',h1,m,h2⟩:=sP (P:=Tryz.prog) (f:=173) (jj:=HU) (args:=[v]) (r:=r) ⟨n,e⟩ (fun c w J hw=>HD (C:=CB) rfl iy fF e J hw)
 have e1:=vG (show n≤max n m by omega) e
 have I:=vG (show m≤max n m by omega) h2
 rw[e1] at I
 injection I with I
 subst I
 exact⟨r.1,r.2,gO.told hT.pr Kb rfl h1,hP⟩
end
theorem CT {x y z:List Nat}{b:Nat}(I:x.length=a)(J:a+y.length=b): ((x++(y++z)).take b).drop a=y:=by
 subst I;subst J
 rw[←cP,tX (by simp),gj (by simp),wB rfl]
theorem abJ (n:Nat)(b:List Nat): b.length<4294967296→tT n b<4294967296→leN (le 4 b.length)=b.length∧leN (le 4 (tT n b))=tT n b:=by
 intro I J
 rw[sW,sW]
 exact⟨rJ (by simpa using I),rJ (by simpa using J)⟩
section
variable {told:cR} {v:V}
theorem Kg (hT:WR told){kd:Nat}{aR:List cq}{pre bd:List Nat}(hg:ej kd aR=true)(hk:kd<256)(hr:yH tx pv nx data aR)(tC:bd=dD kd tx pv nx data aR)
 (m7:bd.length≤1048576)(ha:pre.length=a)(J:l=pre++(iR n bd++rest))(D7:l.length≤1073741824)(s:Sat h (X::S))(I:cL X (cQ v l)):
  Call ⟨Tryz.prog,told⟩ 133 [v,.int .i64 (a:Int),.int .u64 (n:Int)] h fun r h'=>∃dt ch cs,r=.bf [.agg (iw kd tx pv nx dt ch),.int .i64 ((a+8+bd.length:Nat):Int),.int .i64 0]∧Sat h' (X::aQ dt data::.arr 4 ch cs::dm cs aR::S):=by
 have hv:=s.aD (k:=0) rfl I
 have cI:∀x∈bd,x<256:=fun x hx=>hv.1 x (by rw[J,iR];simp[hx])
 have ac6:=IX (aO:=n) cI
 obtain⟨q1,q2⟩:=abJ n bd (by omega) ac6
 have hlen:l.length=a+8+bd.length+rest.length:=by rw[J];simp only[bV,pV];omega
 have m1:(l.take (a+4)).drop a=le 4 bd.length:=by
  rw[J,iR,cP,cP]
  exact CT ha (by rw[dL])
 have m2:(l.take (a+8)).drop (a+4)=le 4 (tT n bd):=by
  rw[J,iR,cP,cP,←cP pre]
  exact CT (by rw[bV,dL,ha]) (by rw[dL])
 have m3:(l.take (a+8+bd.length)).drop (a+8)=bd:=by
  rw[J,iR,cP,cP,←cP pre,←cP (pre++_)]
  exact CT (by rw[bV,bV,dL,dL,ha]) rfl
 have hW:=hT.w
 have Kh:=aW (P:=Tryz.prog) (h:=h) aK hv
 refine Call.of_wp (hW.free _ rfl) Tryz.func133 rfl rfl (zg rfl ?_)
 refine ax.cm s rfl rfl rfl (b6 rO) (fun p6 h s => ?_)
 refine zk 7 rfl (zC rfl bh (by simp) ?_)
 refine zk 3 rfl (zo rfl (aN rfl rfl rfl (aW aK (s.aD (k:=1) rfl I))) (zC rfl gA (by simp;omega) ?_))
 refine zk 8 rfl (zo rfl (aN rfl rfl rfl (aW aK (s.aD (k:=1) rfl I))) (zm rfl (zb rfl (by exact iM (aB (by omega) (by omega))) ?_)))
 refine zC rfl bh (by simp;omega) ?_
 refine zk 8 rfl (zb rfl (by exact bC (aB (by omega) (by omega))) ?_)
 refine zo rfl (cH (p:=some (.int .i64 (a:Int))) (q:=some (.int .i64 ((a:Int)+4))) (m:=none) (p':=some a) (q':=some (a+4)) (m':=none) rfl rfl rfl rfl (by rw[fT (by omega)];rfl) (by rw[fT (by omega)];congr 2<;>omega) rfl (gP (s.aD (k:=1) rfl I) (a:=a) (b:=a+4) (by omega) (by omega)).1) ?_
 refine zc rfl (qC hW s (k:=1) rfl (lG I (a:=a) (b:=a+4) (by omega) (by omega)) (by rw[m1,dL];decide)) ?_
 rintro r h' ⟨rfl,rfl⟩
 rw[m1,q1]
 refine zk 6 rfl (zC rfl gA (by simp;omega) ?_)
 refine zk 2 rfl (zo rfl (cJ rfl (by exact jE c_ bT (aB (by omega) (by omega)))) ?_)
 refine zm rfl (zo rfl (aN rfl rfl rfl (aW aK (s.aD (k:=1) rfl I))) (zm rfl (zb rfl (by exact iM (aB (by omega) (by omega))) ?_)))
 refine zb rfl (by exact iM (aB (by omega) (by omega))) ?_
 refine zC rfl gA (by simp;omega) ?_
 refine zk 7 rfl (zb rfl (by exact bC (aB (by omega) (by omega))) ?_)
 refine zm rfl (zo rfl (cJ rfl (by exact jE c_ bT (aB (by omega) (by omega)))) ?_)
 refine zb rfl (by exact bC (aB (by omega) (by omega))) ?_
 refine zk 6 rfl (zb rfl (by exact bC (aB (by omega) (by omega))) ?_)
 refine zm rfl (zo rfl (cH (p:=some (.int .i64 ((a:Int)+8))) (q:=some (.int .i64 ((a:Int)+8+(bd.length:Int)))) (m:=none) (p':=some (a+8)) (q':=some (a+8+bd.length)) (m':=none) rfl rfl rfl rfl (by rw[fT (by omega)];congr 2<;>omega) (by rw[fT (by omega)];congr 2<;>omega) rfl (gP (s.aD (k:=1) rfl I) (a:=a+8) (b:=a+8+bd.length) (by omega) (by omega)).1) ?_)
 refine zk 7 rfl (zb rfl (by exact bC (aB (by omega) (by omega))) ?_)
 refine zm rfl (zb rfl (by exact bC (aB (by omega) (by omega))) ?_)
 refine zo rfl (cH (p:=some (.int .i64 ((a:Int)+4))) (q:=some (.int .i64 ((a:Int)+8))) (m:=none) (p':=some (a+4)) (q':=some (a+8)) (m':=none) rfl rfl rfl rfl (by rw[fT (by omega)];congr 2<;>omega) (by rw[fT (by omega)];congr 2<;>omega) rfl (gP (s.aD (k:=1) rfl I) (a:=a+4) (b:=a+8) (by omega) (by omega)).1) ?_
 refine zc rfl (qC hW s (k:=1) rfl (lG I (a:=a+4) (b:=a+8) (by omega) (by omega)) (by rw[m2,dL];decide)) ?_
 rintro r h' ⟨rfl,rfl⟩
 rw[m2,q2]
 refine zo rfl (cJ rfl (by exact jE c_ Tryz.underlying231 (W3 (by omega) (by omega)))) ?_
 refine zk 2 rfl (zc rfl (GG hW s (k:=1) rfl (lG I (a:=a+8) (b:=a+8+bd.length) (by omega) (by omega)) (by rw[m3];omega)) ?_)
 rintro r h ⟨rfl,s⟩
 rw[m3]
 refine zC rfl aE (by simp) ?_
 refine zk 6 rfl ?_
 have hX':cL X (cQ (slR v (a+8) (a+8+bd.length)) (dD kd tx pv nx data aR)):=by
  have:=lG I (a:=a+8) (b:=a+8+bd.length) (by omega) (by omega)
  rw[m3] at this
  rw[←tC]
  exact this
 refine zc rfl (R1 hT hg hk hr (s.ae [1]) hX') ?_
 rintro r h ⟨dt,ch,cs,rfl,s⟩
 have jV:=(s.buf (k:=1) rfl).view.cells
 have jf:=s.ju (j:=2) rfl
 have fX:[V.int .i64 (kd:Int),V.int .u64 (tx:Int),V.int .u64 (pv:Int),V.int .u64 (nx:Int),dt,ch].all storable=true:=m8 jV.2 jf.2.1
 refine zk 3 rfl (zS rfl (s.fS (j:=4) rfl ik rfl fX) ?_)
 rintro h s
 refine zk 6 rfl (zh rfl (er rfl rfl) (rfl) (zk 5 rfl (zl rfl (s.dn (k:=4) rfl oc ik) (zm rfl (zS rfl (s.fS (j:=4) rfl ik rfl fX) ?_)))))
 rintro h s
 refine zk 3 rfl ?_
 refine WP.ret ⟨aa,_,yu rfl (s.dn (k:=4) rfl oc ik) rfl rfl,?_⟩
 exact⟨dt,ch,cs,rfl,s.del 4⟩
end
section
variable {told:cR} {v:V} {p:Nat}
theorem R2 (hT:WR told){kd:Nat}{aR:List cq}{pre bd:List Nat}(hg:ej kd aR=true)(hk:kd<256)(hr:yH tx pv nx data aR)(tC:bd=dD kd tx pv nx data aR)
 (m7:bd.length≤1048576)(ha:pre.length=a)(hl:μ.b=pre++(iR n bd++rest))(hn:n=μ.base+a)(hh:μ.hasB n=true)(I:μ.Ok)(s:Sat h (b7 q p μ::S)):
  Call ⟨Tryz.prog,told⟩ 84 [.ptr q 0,.int .u64 (n:Int)] h fun r h'=>∃dt ch cs,r=.bf [.agg (iw kd tx pv nx dt ch),.int .u64 ((n+8+bd.length:Nat):Int),.int .i64 0]∧Sat h' (b7 q p μ::aQ dt data::.arr 4 ch cs::dm cs aR::S):=by
 have hW:=hT.w
 have hlen:μ.b.length=a+8+bd.length+rest.length:=by rw[hl];simp only[bV,pV];omega
 have fC:=I.size
 have hb:=I.len
 refine Call.of_wp (hW.free _ rfl) Ji rfl rfl (zg rfl ?_)
 refine ax.cm s rfl rfl rfl (b6 rO) (fun p4 h s => ?_)
 dsimp only[V.cells,List.length_cons,List.length_nil,Nat.reduceAdd] at s
 refine zk 4 rfl (WP.block (zK 4 rfl ?_))
 have s:=s.ae [1]
 dsimp only[bringA,getA,aI] at s
 refine zc rfl (xg hW s I.size) ?_
 rintro v h' ⟨rfl,rfl⟩
 refine zC rfl eu (by simp;omega) ?_
 refine zk 7 rfl (zc rfl (Mh (n:=n) hW s I (by omega)) ?_)
 rintro v h' ⟨rfl,rfl⟩
 rw[hh]
 refine zo rfl (er rfl rfl) (za rfl (zv (zj rfl (WP.skip (zw ?_)))))
 obtain⟨bv,sv,s⟩:=gy.1 s
 have s0:=s
 have BQ:=dB (s.buf (k:=1) rfl).view
 have J:((n:Int)-(μ.base:Int))=(a:Int):=by omega
 refine WP.drawn [ah,ah,ah,ah,ah,ah,ah,ah,ah,ah,ah,ah,ah,ah,ah,some (1,2),some (1,2),ah,ah,ah] rfl (by kernel_rfl) (by kernel_rfl) ?_
 refine zM rfl (zN rfl (zF rfl (ff _ _) (zL rfl (s.ld (k:=0) rfl bE rfl) (zM rfl (zM rfl (zN rfl (zF rfl (mj _ _) (zL rfl (s.ld (k:=0) rfl mh rfl) (zO rfl (aA (r:=.int .u64 (a:Int)) rfl rfl (by rw[←J];exact iM (fZ (by omega) (by omega)))) ?_)))))))))
 refine ay.op rfl rfl rfl (by simp only[isEff,bT]) (cJ rfl (by exact jE c_ bT (aB (by omega) (by omega)))) ?_
 refine zM rfl (ay.any rfl rfl rfl rfl (OpR.call rfl rfl rfl rfl (Kg (n:=n) (a:=a) hT hg hk hr tC m7 ha hl (by omega) (s.ae [1]) (bk _ _))) ?_)
 rintro r h ⟨dt,ch,cs,rfl,s⟩
 have jV:=(s.buf (k:=1) rfl).view.cells
 have jf:=s.ju (j:=2) rfl
 have B5:=dB (s.buf (k:=1) rfl).view
 have fX:[V.int .i64 (kd:Int),V.int .u64 (tx:Int),V.int .u64 (pv:Int),V.int .u64 (nx:Int),dt,ch].all storable=true:=m8 jV.2 jf.2.1
 have s1:=s
 refine zM rfl (zO rfl (cS rfl rfl) (zO rfl (cS rfl rfl) (zO rfl (cS rfl rfl) (ay.ij rfl rfl rfl (OpR.eA rfl rfl rfl (s.fS (j:=6) rfl ik rfl fX)) ?_))))
 rintro v h ⟨rfl,s⟩
 refine zA rfl (zA rfl ?_)
 refine ay.nil ⟨⟨aa,aa,aa,aa,aa,aa,aa,aa,aa,aa,aa,aa,aa,aa,aa,fun _ _=>.inr ⟨rfl,⟨_,cS rfl rfl⟩,bH _ rfl⟩,fun _ _=>.inr ⟨rfl,⟨_,cS rfl rfl⟩,bH _ rfl⟩,aa,aa,aa,aa⟩,?_⟩
 refine zK 4 rfl (zC rfl aE (rfl) (zk 4 rfl ?_))
 have Js:(V.agg [V.int .i64 (kd:Int),V.int .u64 (tx:Int),V.int .u64 (pv:Int),V.int .u64 (nx:Int),dt,ch]).beq (V.agg [V.int .i64 (kd:Int),V.int .u64 (tx:Int),V.int .u64 (pv:Int),V.int .u64 (nx:Int),dt,ch])=true:=BG B5 jf.2.2
 have s0:=s
 refine WP.drawn [none,some (0,2),some (0,2),some (0,2),some (0,2),some (0,2),some (0,2),some (0,2),ah,ah,ah] rfl (by kernel_rfl) (by kernel_rfl) ?_
 refine zL rfl (s.dn (k:=6) rfl oc ik) (zM rfl (zN rfl (zF rfl (mj _ _) (zL rfl (s.ld (k:=4) rfl mh rfl) (zM rfl (ay.op rfl rfl rfl (by simp only[isEff,c_]) (cJ rfl (by exact jE bT c_ (fZ (by omega) (by omega)))) ?_))))))
 refine zO rfl (aA rfl rfl (by exact bC (fZ (by omega) (by omega)))) ?_
 refine ay.ij rfl rfl rfl (OpR.eA rfl rfl rfl (s.fS (j:=6) rfl ik rfl fX)) ?_
 rintro v h ⟨rfl,s⟩
 dsimp only[Az,aI,bringA,iw,setA] at s
 refine zA rfl (zA rfl ?_)
 refine ay.nil ⟨⟨aa,fun _ _=>.inr ⟨rfl,⟨_,bK rfl⟩,bH _ rfl⟩,fun _ _=>.inr ⟨rfl,⟨_,pJ rfl⟩,bH _ rfl⟩,fun _ _=>.inr ⟨rfl,⟨_,lE rfl (mj _ _)⟩,bH _ rfl⟩,eE (.inr ⟨rfl,⟨_,aZ rfl (s0.ld (k:=4) rfl mh rfl)⟩,bH _ rfl⟩) (.inr ⟨rfl,⟨_,aZ rfl (s.ld (k:=4) rfl mh rfl)⟩,bH _ rfl⟩),fun _ _=>.inr ⟨rfl,⟨_,bK rfl⟩,bH _ rfl⟩,fun _ _=>.inr ⟨rfl,⟨_,cJ rfl (by exact jE bT c_ (fZ (by omega) (by omega)))⟩,bH _ rfl⟩,fun _ _=>.inr ⟨rfl,⟨_,aA rfl rfl (by exact bC (fZ (by omega) (by omega)))⟩,bH _ rfl⟩,aa,aa,aa,aa⟩,?_⟩
 refine WP.ret ⟨aa,_,yu rfl (s.dn (k:=6) rfl oc ik) rfl rfl,?_⟩
 refine⟨dt,ch,cs,?_,gy.2 ⟨bv,sv,(s.ae [4,0,3,0,0,0]).del 6⟩⟩
 rw[show((μ.base:Int)+((a+8+bd.length:Nat):Int))=((n+8+bd.length:Nat):Int) by omega]
 rfl
end
structure W5 (told:cR): Prop where
 w:W2 told
 pr:told 173=some (iZ Tryz.prog 173 HU)
theorem W5.wr {told:cR}(h:W5 told): WR told:=⟨h.w.w,h.pr⟩
theorem abK {cs:List V}{m:List Wr}{x:Wr}{j1:Nat}(s:Sat h (uV cs m::S))(h1:getA (uV cs m::S) j1=some (.arr 2 wt cs))(J:m[i]?=some x):
  ∃id off u,indexAddrV Tryz.prog 146 wt (.int .i64 (i:Int))=some (.ptr id off)∧loadV Tryz.prog h 151 (.ptr id off)=some (.agg [.int .i64 (x.1:Int),u])∧u≠.a_∧Sat h (.bY u x.2::uV cs m::S):=by
 obtain⟨a,b,q1,q2,q3⟩:=s.at (k:=0) rfl
 have hl:=BC q3
 have L0:=(List.getElem?_eq_some_iff.1 J).1
 have key:∀ {m:List Wr} {cs:List V} {i:Nat} {x:Wr} {a b:PM},(uV cs m).p a b→m[i]?=some x→∃u,(cs.drop (i*2)).take 2=[.int .i64 (x.1:Int),u]∧u≠.a_∧(aL.bY u x.2).p a b:=by
  intro m
  induction m with
  |nil=>simp
  |cons y m ih =>
   intro cs i x a b h J
   rcases cs with _|⟨p,_|⟨v,cs⟩⟩<;>first|exact h.elim|skip
   obtain⟨⟨⟨e1,e2⟩,e3⟩,e4⟩:=h
   cases i with
   |zero=>grind
   |succ i =>
    grind
 obtain⟨u,e1,e2,e3⟩:=key q3 J
 obtain⟨id,off,g1,I⟩:=Qh (P:=Tryz.prog) (i:=i) s h1 (by omega) (by decide) Au DI
 have I:=I VA
 rw[e1] at I
 refine⟨id,off,u,g1,I,e2,?_⟩
 have s1:=(s.dup (aV.wr _ _)).gK (B:=.bY u x.2) fun a b h=>by
  grind
 exact s1
def layW (c:List Nat): Nat→List Wr→List (Option (List Nat))→List (Option (List Nat))
 |_,[],P=>P
 |i,w::l,P=>layW c (i+1) l (if c.getD i 0%2=0 then P.set w.1 (some w.2) else P)
def tornP (c:List Nat)(k:Nat)(P:List (Option (List Nat))): Option Wr→List (Option (List Nat))
 |none=>P
 |some w=>P.set w.1 (some (bu (bu (List.replicate 512 0) 0 ((P.getD w.1 none).getD [])) 0 (w.2.take (c.getD k 0/2%5*128))))
def kE (δ:Dk)(c:List Nat): Nat:=(c.getD 0 0+256*c.getD 1 0)%((δ.log.drop δ.bj++δ.tail).length+1)
def sZ (δ:Dk)(c:List Nat): List Nat:=δ.log.take δ.bj++(δ.log.drop δ.bj++δ.tail).take (kE δ c)
def fV (δ:Dk)(c:List Nat): Dk :=
 { room:=δ.room,aq:=tornP c δ.waiting.length (layW c 0 δ.waiting δ.aq) δ.dG,waiting:=[],now:=[],log:=sZ δ c,bj:=(sZ δ c).length,mark:=δ.mark,aT := -1,dead:=false,dG:=none,tail:=[] }
theorem ac7 {x:Operand}(hn:n<256): binV P h .and t x y (.int .i64 (n:Int)) (.int .i64 1)=some (.int .i64 ((n%2:Nat):Int)):=by
 have I:((n:Int)%(2^(IntKind.i64).bits:Int)).toNat=n:=by grind[IntKind.bits]
 have J:((1:Int)%(2^(IntKind.i64).bits:Int)).toNat=1:=by rfl
 simp only[binV,ikBeq,aj,intV,bitsV,I,J]
 rw[show Nat.land n 1=n%2 from EN n,wrap_i64 (by omega)]
section
variable {told:cR} {v w:V} {c:List Nat} {p:Nat}
theorem vH (hT:W told)(s:Sat h S)(hk:getA S k=some X)(hX:cL X (cQ v c)): Call ⟨Tryz.prog,told⟩ 89 [v,.int .i64 (i:Int)] h fun r h'=>r=.int .i64 ((c.getD i 0:Nat):Int)∧h'=h:=by
 have hv:=s.aD hk hX
 refine Call.of_wp (hT.free _ rfl) Tryz.func89 rfl rfl (zK 9 rfl (zo rfl (aN rfl rfl rfl (aW Tryz.underlying143 hv)) ?_))
 by_cases hi:i<c.length
 ·skip
  have I:c[i]?=some (c[i]'hi):=bx _
  have J:c.getD i 0=c[i]'hi:=by grind
  rw[J]
  generalize (c[i]'hi)=b at I
  have F8:b<256:=hv.1 b (bD I)
  obtain⟨id,off,e1,e2⟩:=eU hv I
  have e3:indexAddrV Tryz.prog 143 v (.int .i64 (i:Int))=some (.ptr id off):=by
   rw[←e1]
   simp only[indexAddrV,Tryz.underlying143,aK]
  refine zB rfl bh (by grind) ?_
  refine zk 6 rfl (zo rfl (cK (r:=.ptr id off) rfl rfl e3) (zl rfl e2 (zo rfl (cJ rfl (by exact jE Tryz.underlying5 bT (aB (by omega) (by omega)))) ?_)))
  exact zk 2 rfl (WP.ret ⟨aa,_,rfl,rfl,rfl⟩)
 ·skip
  have J:c.getD i 0=0:=by grind
  rw[J]
  refine zC rfl bh (by grind) ?_
  exact zk 7 rfl (WP.ret ⟨aa,_,rfl,rfl,rfl⟩)
noncomputable def crL : Code:=cN [1,1,1,1,0,1,0,0] ((Tryz.f36.body).getD .skip)
theorem OP (hT:W told){pv:V}{qc:List V}{W:List Wr}{cs:List V}(wN:qc.length=12)(AA:nth qc 1=some (.sl kF 0 N (.exact N)))(hW:∀w∈W,w.1<N)(hn:W.length≤268435456)(hX:cL X (cQ cv c))(hN:N≤65536): ∀(j i:Nat) (I:List V) (P:List (Option (List Nat))) (h:H) (E:List (Nat×V)) (Q:Ex→List (Nat×V)→H→Prop),
  i+j=W.length→I.length=N→P.length=N→Sat h (uV cs W::pt q (.cells 12 qc false)::pt kF (.cells N I false)::each lp I P::.arr 2 wt cs::X::S) →
  Has E [(0,pv),(5,cv),(6,.ptr q 0),(36,wt),(37,.int .i64 W.length),(38,.int .i64 i)] →
  (∀E' h' I P',Has E' [(0,pv),(5,cv),(6,.ptr q 0)]→P'=layW c i (W.drop i) P→I.length=N→P'.length=N→Sat h' (uV cs W::pt q (.cells 12 qc false)::pt kF (.cells N I false)::each lp I P'::.arr 2 wt cs::X::S)→Q (.exit 0) E' h') →
  WP ⟨Tryz.prog,told⟩ 172 (.loop crL) E h Q:=by
 intro j
 induction j with
 |zero =>
  intro i I P h E Q hi hl hp s hE hq
  refine WP.loop (WP.has hE (zg rfl (zC rfl bh (by grind) ?_)))
  exact zk 3 rfl (WP.exit (hq _ _ _ _ ⟨rfl,rfl,rfl,aa⟩ (by rw[A3 (by omega)];rfl) hl hp s))
 |succ j ih =>
  intro i I P h E Q hi hl hp s hE hq
  have hx:W[i]?=some (W[i]'(by omega)):=bx _
  generalize (W[i]'(by omega))=x at hx
  have hxn:=hW x (bD hx)
  have J:W.drop i=x::W.drop (i+1):=by
   grind[List.drop_eq_getElem_cons]
  obtain⟨id,off,u,g1,g2,hu,s1⟩:=abK s (j1:=4) rfl hx
  have Wf:=s1.aD (k:=0) rfl (c8 _ _)
  have Wb:=Wf.cells
  have B7:=dB Wf
  have s:=s1.ae [2,2,2,0,0,0,0]
  dsimp only[bringA,getA,aI] at s
  refine WP.loop (WP.has hE (zg rfl (zB rfl bh (by grind) ?_)))
  refine zk 5 rfl (WP.block (zK 3 rfl (zo rfl (cK (r:=.ptr id off) rfl rfl g1) (zl rfl g2 ?_))))
  refine ax.cm s rfl rfl rfl (b6 HN) (fun p8 h s => ?_)
  dsimp only[V.cells,List.length_cons,List.length_nil,Nat.reduceAdd] at s
  refine za rfl (zS rfl (s.fS (j:=0) rfl DI rfl (by simp only[iT,iU,Wb.2];rfl)) ?_)
  rintro h s
  dsimp only[setA] at s
  refine zk 5 rfl (zc rfl (vH hT s (k:=7) rfl hX) ?_)
  rintro r h' ⟨rfl,rfl⟩
  have cI:c.getD i 0<256:=by
   rw[lW]
   cases hc:c[i]? with
   |none=>decide
   |some b=>exact(s.aD (k:=7) rfl hX).1 b (bD hc)
  refine zb rfl (ac7 cI) ?_
  by_cases nK:c.getD i 0%2=0
  ·skip
   have Wg:indexAddrV Tryz.prog 145 (.sl kF 0 N (.exact N)) (.int .i64 (x.1:Int))=some (.ptr kF x.1):=by
    simp only[indexAddrV,gR,gU]
    grind
   refine zB rfl eu (by grind) ?_
   refine zk 2 rfl ?_
   have s0:=s
   refine WP.drawn [ah,ah,ah,ah,ah,ah,ah,ah,ah,ah] rfl (by kernel_rfl) (by kernel_rfl) ?_
   refine zM rfl (zN rfl (zF rfl (nC _ _) (zL rfl (s.ld (k:=1) rfl sx AA) (zF rfl (Fp _ _) (zL rfl (s.ld (k:=0) rfl dN rfl) (zF rfl (Fq _ _) (zL rfl (s.ld (k:=0) rfl bE rfl) (zO rfl (cK (r:=.ptr kF x.1) rfl rfl Wg) (ay.ij rfl rfl rfl (OpR.eA rfl rfl rfl (s.eH (k:=2) rfl gU hl hxn Wb.1 Wb.2)) ?_)))))))))
   rintro v h ⟨rfl,s⟩
   dsimp only[setA] at s
   refine ay.nil ⟨⟨aa,aa,aa,aa,aa,aa,aa,aa,aa,aa,aa⟩,?_⟩
   refine zr rfl (zb rfl (by exact bC (aB (by omega) (by omega))) ?_)
   refine zm rfl (zv ?_)
   have s3:Sat _ (each lp I P::.bY u x.2::_):=s.ae [3,3]
   have s4:=s3.two (C:=each lp (I.set x.1 u) (P.set x.1 (some x.2))) (aV.each aV.lp _ _) (aV.bY _ _) fun a b q1 q2=>CF q1 ⟨hu,q2⟩
   dsimp only[bringA,getA,aI] at s4
   refine ih (i+1) _ (P.set x.1 (some x.2)) _ _ Q (by omega) (by grind) (by grind) ((s4.ae [4,2,2,0,1,1]).del 6) ⟨rfl,rfl,rfl,rfl,rfl,rfl,aa⟩ (fun E' h' I P' jx hP h1 h2 s'=>hq E' h' I P' jx ?_ h1 h2 s')
   rw[hP,J,layW,aP nK]
  ·skip
   refine zC rfl eu (by grind) ?_
   refine zv (zj rfl (WP.skip (zr rfl (zb rfl (by exact bC (aB (by omega) (by omega))) ?_))))
   refine zm rfl (zv ?_)
   refine ih (i+1) _ P _ _ Q (by omega) hl hp (((s.ae [5,1,1,1,2,2]).del 6).del 6) ⟨rfl,rfl,rfl,rfl,rfl,rfl,aa⟩ (fun E' h' I P' jx hP h1 h2 s'=>hq E' h' I P' jx ?_ h1 h2 s')
   rw[hP,J,layW,ak nK]
theorem Lq {j:Nat}{cs:List V}(s:Sat h (pt i (.cells n cs false)::pt j (.cells n ds false)::S))(I:cs.length=n)(hd:ds.length=n):
  ∃h',copyV Tryz.prog h 145 (.sl i 0 n (.exact n)) (.sl j 0 n (.exact n))=some (.int .i64 (n:Int),h')∧Sat h' (pt i (.cells n ds false)::pt j (.cells n ds false)::S):=by
 refine⟨h.put i (some (.cells n ds false)),?_,s.put (k:=0) rfl⟩
 have r1:=s.row (k:=0) rfl
 have r2:=s.row (k:=1) rfl
 simp only[copyV,gR,gU,rdN,wrN,r1,r2,eF]
 grind[bg]
theorem OpR.X9 {cl:Go.Call}{j:Nat}{cs:List V}(hP:C.P=Tryz.prog)(s:Sat h (pt i (.cells n cs false)::pt j (.cells n ds false)::S))(I:cs.length=n)(J:ds.length=n)(Ge:o.op=.call cl)(hc:cl.callee=.builtin .copy)
 (hty:cl.argTypes = #[145,145])(ha:lookArgs E cl.args.toList=some [.sl i 0 n (.exact n),.sl j 0 n (.exact n)]): OpR C E h o fun _ h₁=>Sat h₁ (pt i (.cells n ds false)::pt j (.cells n ds false)::S):=by
 obtain⟨h₁,e1,e2⟩:=Lq s I J
 refine OpR.builtin Ge hc ha ⟨.int .i64 (n:Int),h₁,?_,e2⟩
 simp only[builtinV,hP,hty,e1]
theorem ac8 {x:Operand}{b:Nat}(I:0<b)(hw:a<9223372036854775808): binV P h .quo t x y (.int .i64 (a:Int)) (.int .i64 (b:Int))=some (.int .i64 ((a/b:Nat):Int)):=by
 simp only[binV,ikBeq,aj,intV]
 have:intBeq (b:Int) 0=false:=by rw[mS];simp;omega
 have J:a/b≤a:=ue a b
 grind[aB]
theorem UG (I:jS h v l)(J:1≤l.length): slR v 0 l.length=v:=by
 rcases I.2 with⟨_,rfl⟩|⟨id,cs,c,rfl,_,hc⟩|⟨id,rfl,_,_⟩<;>grind[slR]
theorem OQ {m:List Nat}(s:Sat h (aQ v l::X::S))(hX:cL X (cQ w m))(hl:1≤l.length)(hm:a+m.length≤l.length):
  ∃(n:Nat) (h':H),copyV Tryz.prog h 28 (slR v a l.length) w=some (.int .i64 (n:Int),h')∧Sat h' (aQ v (bu l a m)::X::S):=by
 by_cases hz:m=[]
 ·subst hz
  have hv:=s.aD (k:=1) rfl hX
  have J:=(s.buf (k:=0) rfl).1
  rw[show bu l a []=l by simp[bu]]
  obtain⟨id,c,cap,rest,rfl,s1,hc,hf⟩:=s.gq hl
  have hd:∃o' c',slR (.sl id 0 l.length cap) a l.length=.sl id o' (l.length-a) c'∧o'≤l.length:=by
   cases cap with
   |exact c=>exact⟨_,_,rfl,by grind⟩
   |rest e alt=>exact⟨_,_,rfl,by omega⟩
  obtain⟨o',c',hd,ho⟩:=hd
  rw[hd]
  rcases hv.2 with⟨rfl|⟨a,rfl⟩,_⟩|⟨kF,I,IM,n2,Gr,ZH,rfl,_⟩
  ·grind[copyV,Tryz.underlying28,eC]
  ·grind[copyV,Tryz.underlying28,eC]
  ·have hr:rdN h kF I 0=some []:=hv.rdN.2
   have Mc:Nat.min 0 (l.length-a)=0:=Nat.zero_min _
   refine⟨0,h.put id (some (.cells c (ofBytes l++rest) false)),?_,hf _ _ rfl J (s1.put (k:=0) rfl)⟩
   simp only[copyV,aK,eC,cG,Mc,uf,hr,wrN,s1.row (k:=0) rfl]
   grind[bg,eo,List.take_append_drop]
 ·have h1:1≤m.length:=by
   grind
  obtain⟨h',e1,e2⟩:=CA s hX (a:=a) (b:=l.length) (by omega) (by omega) h1<;>grind[List.take_of_length_le]
theorem OpR.R3 {cl:Go.Call}{m:List Nat}{d:V}(hP:C.P=Tryz.prog)(s:Sat h (aQ v l::X::S))(hX:cL X (cQ w m))(hl:1≤l.length)(hm:a+m.length≤l.length)
 (I:o.op=.call cl)(hc:cl.callee=.builtin .copy)(J:cl.argTypes = #[28,28])(ha:lookArgs E cl.args.toList=some [d,w])(hd:d=slR v a l.length): OpR C E h o fun _ h₁=>Sat h₁ (aQ v (bu l a m)::X::S):=by
 subst hd
 obtain⟨n,h₁,e1,e2⟩:=OQ s hX hl hm
 refine OpR.builtin I hc ha ⟨.int .i64 (n:Int),h₁,?_,e2⟩
 simp only[builtinV,hP,J,e1]
theorem OpR.Wh {cl:Go.Call}{m:List Nat}(hP:C.P=Tryz.prog)(s:Sat h (aQ v l::X::S))(hX:cL X (cQ w m))(hl:1≤l.length)(hm:m.length≤l.length)
 (I:o.op=.call cl)(hc:cl.callee=.builtin .copy)(J:cl.argTypes = #[28,28])(ha:lookArgs E cl.args.toList=some [v,w]): OpR C E h o fun _ h₁=>Sat h₁ (aQ v (bu l 0 m)::X::S) :=
 OpR.R3 hP s hX hl (by omega) I hc J ha (UG (s.buf (k:=0) rfl) hl).symm
theorem aav {o:Option (List Nat)}: cL (lp v o) (cQ v (o.getD [])):=by
 cases o with
 |none=>exact fun m r h=>.inl ⟨by simp,.inl ⟨.inl h,rfl⟩⟩
 |some b=>exact fun m r h=>.inr h.2
noncomputable def crT : Code:=cN [1,1,1,1,1,0,1,0] ((Tryz.f36.body).getD .skip)
theorem OR (hT:W told){w:Wr}(s:Sat h (aS q vZ::aS p δ::X::S))(hX:cL X (cQ cv c))(hn:δ.waiting.length≤268435456)(ht:δ.dG=some w)(hw:w.1<vZ.aq.length)(kG:w.2.length=512)(hN:vZ.aq.length≤65536)
 (nN:∀(i:Nat) (b:List Nat),vZ.aq[i]?=some (some b)→b.length=512)(hE:Has E [(0,.ptr p 0),(5,cv),(6,.ptr q 0)])
 (hq:∀E' h',Has E' [(0,.ptr p 0),(5,cv),(6,.ptr q 0)]→Sat h' (aS q { vZ with aq:=tornP c δ.waiting.length vZ.aq (some w) }::aS p δ::X::S)→Q .normal E' h'): WP ⟨Tryz.prog,told⟩ 172 crT E h Q:=by
 obtain⟨pg,wt,nw,lg,mk,tn,tl,ops,s⟩:=bI.1 (s.ae [1])
 rw[ht] at s
 obtain⟨tid,s⟩:=g_.1 (s.ae [6])
 obtain⟨u,s⟩:=g_.1 s
 have s:=bn.1 s
 dsimp only[List.cons_append,List.nil_append] at s
 obtain⟨rfl,s⟩:=eS.1 s
 obtain⟨pg2,wt2,nw2,lg2,mk2,tn2,tl2,aaw,s⟩:=bI.1 (s.ae [9])
 obtain⟨kF,I,rfl,s⟩:=gS.1 (s.ae [1])
 obtain⟨wcs,s⟩:=mL.1 (s.ae [13])
 have s:=s.ae [4,12,10,2,2,8,0]
 have hlw:wcs.length=δ.waiting.length*2:=by
  obtain⟨a,b,q1,q2,q3⟩:=s.at (k:=7) rfl
  exact BC q3
 have hb:c.getD δ.waiting.length 0<256:=by
  rw[lW]
  cases hc:c[δ.waiting.length]? with
  |none=>decide
  |some b=>exact(s.aD (k:=19) rfl hX).1 b (bD hc)
 have iW:I.length=vZ.aq.length:=by
  obtain⟨a,b,q1,q2,q3⟩:=s.at (k:=4) rfl
  exact pT q3
 have oO:I[w.1]?=some (I[w.1]'(by omega)):=bx _
 have yW:vZ.aq[w.1]?=some (vZ.aq[w.1]'hw):=bx _
 generalize (I[w.1]'(by omega))=v1 at oO
 generalize hxx:(vZ.aq[w.1]'hw)=x at yW
 have lR:vZ.aq.getD w.1 none=x:=by grind
 have hxl:(x.getD []).length≤512:=by
  cases x<;>grind
 refine WP.has hE (zK 5 rfl (zY s 1 uw DH rfl (zo rfl (aN rfl rfl rfl (s.dZ (n:=δ.waiting.length) (j:=6) rfl hlw (by decide) Au)) ?_)))
 refine zc rfl (vH hT (i:=δ.waiting.length) s (k:=19) rfl hX) ?_
 rintro r h' ⟨rfl,rfl⟩
 refine zb rfl (ac8 (a:=c.getD δ.waiting.length 0) (b:=2) (by decide) (by omega)) ?_
 refine zb rfl (CH (a:=c.getD δ.waiting.length 0/2) (b:=5) (by decide)) ?_
 refine zo rfl (aA (r:=.int .i64 ((c.getD δ.waiting.length 0/2%5*128:Nat):Int)) rfl rfl (by simp only[binV,ikBeq,aj,intV];rw[show((c.getD δ.waiting.length 0/2%5:Nat):Int)*128=((c.getD δ.waiting.length 0/2%5*128:Nat):Int) by rfl,wrap_i64 (by omega)])) ?_
 refine zk 4 rfl (ax.any rfl rfl rfl (OpR.gQ (c:=512) rfl s rfl rfl rfl rfl (by decide)) ?_)
 intro z h s
 refine zk 3 rfl ?_
 have s1:=((s.ae [5]).dup (aV.each aV.lp _ _)).gK (B:=lp v1 x) fun a b q=>CE q oO yW
 have s:=s1.ae [2,0,1,1,1,1]
 have iK:nth I w.1=some v1:=by rw[ir];exact oO
 have Wg:indexAddrV Tryz.prog 145 (.sl kF 0 vZ.aq.length (.exact vZ.aq.length)) (.int .i64 (w.1:Int))=some (.ptr kF w.1):=by
  simp only[indexAddrV,gR,gU]
  grind
 have s0:=s
 refine WP.drawn [ah,ah,ah,ah,ah,ah,ah,ah,ah,ah,ah,ah,ah,ah,ah] rfl (by kernel_rfl) (by kernel_rfl) ?_
 refine zM rfl (zM rfl (zN rfl (zF rfl (nC _ _) (zL rfl (s.ld (k:=2) rfl sx rfl) (zM rfl (zN rfl (zF rfl (uR _ _) (zL rfl (s.ld (k:=3) rfl HM rfl) (zN rfl (zF rfl (Fp _ _) (zL rfl (s.ld (k:=4) rfl dN rfl) (zO rfl (cK (r:=.ptr kF w.1) rfl rfl Wg) (zL rfl (s.ld (k:=5) rfl bE iK) (ay.any rfl rfl rfl rfl (OpR.Wh rfl s aav (by grind) (by grind) rfl rfl rfl rfl) ?_))))))))))))))
 intro r h s
 refine ay.nil ⟨⟨aa,aa,aa,aa,aa,aa,aa,aa,aa,aa,aa,aa,aa,aa,aa,aa⟩,?_⟩
 have hl3:(bu (List.replicate 512 0) 0 (x.getD [])).length=512:=by grind[c9]
 have Wf:=s.aD (k:=7) rfl (c8 _ _)
 have J:c.getD δ.waiting.length 0/2%5*128≤w.2.length:=by omega
 refine zK 5 rfl (zY s 3 uR HM rfl (zn rfl (zY s 4 Fq bE rfl (zm rfl (zo rfl (cH (p:=none) (q:=some (.int .i64 ((c.getD δ.waiting.length 0/2%5*128:Nat):Int))) (m:=none) (p':=none) (q':=some (c.getD δ.waiting.length 0/2%5*128)) (m':=none) rfl rfl rfl rfl rfl (by rfl) rfl (iQ Wf (b:=c.getD δ.waiting.length 0/2%5*128) J).1) ?_)))))
 refine ax.any rfl rfl rfl (OpR.Wh rfl (s.ae [0,6]) (yb (c8 _ _) (b:=c.getD δ.waiting.length 0/2%5*128) J) (by omega) (by grind) rfl rfl rfl rfl) ?_
 intro r h s
 have s:=s.ga
 have Vf:=s.aD (k:=0) rfl (c8 _ _)
 have hl4:(bu (bu (List.replicate 512 0) 0 (x.getD [])) 0 (w.2.take (c.getD δ.waiting.length 0/2%5*128))).length=512:=by grind[c9]
 refine zv (WP.drawn [ah,ah,ah,ah,ah,ah,ah,ah,ah,ah,ah,ah,ah,ah] rfl (by kernel_rfl) (by kernel_rfl) ?_)
 refine zM rfl (zN rfl (zF rfl (nC _ _) (zL rfl (s.ld (k:=3) rfl sx rfl) (zM rfl (zN rfl (zF rfl (uR _ _) (zL rfl (s.ld (k:=4) rfl HM rfl) (zN rfl (zF rfl (Fp _ _) (zL rfl (s.ld (k:=5) rfl dN rfl) (zM rfl (zO rfl (cK (r:=.ptr kF w.1) rfl rfl Wg) (ay.ij rfl rfl rfl (OpR.eA rfl rfl rfl (s.eH (k:=6) rfl gU iW hw Vf.cells.1 Vf.cells.2)) ?_)))))))))))))
 rintro r h ⟨rfl,s⟩
 refine ay.nil ⟨⟨aa,aa,aa,aa,aa,aa,aa,aa,aa,aa,aa,aa,aa,aa,aa⟩,?_⟩
 have zU:z≠.a_:=fun e=>by
  grind[iY]
 have t1:=(s.ae [7,0]).two (C:=each lp (I.set w.1 z) (tornP c δ.waiting.length vZ.aq (some w))) (aV.each aV.lp _ _) (aV.bY _ _) fun a b q1 q2=>by
  rw[tornP,lR]
  exact CF q1 ⟨zU,q2⟩
 dsimp only[xb,aI,bringA,getA,setA] at t1
 have vi:(tornP c δ.waiting.length vZ.aq (some w)).length=vZ.aq.length:=by rw[tornP,dJ]
 have t2:=gS.2 ⟨kF,I.set w.1 z,rfl,by rw[vi];exact t1.ae [6,0]⟩
 rw[vi] at t2
 dsimp only[aI,bringA] at t2
 have t3:=bI (δ:={ vZ with aq:=tornP c δ.waiting.length vZ.aq (some w) }).2 ⟨_,_,_,_,_,_,_,_,t2.ae [3,0,6,6,6,6,6,6]⟩
 dsimp only[aI,bringA] at t3
 have t4:=mL.2 ⟨_,t3.ae [5,5]⟩
 dsimp only[aI,bringA] at t4
 have t5:Sat h (BE (.ptr tid 0) (some w)::_):=g_.2 ⟨tid,g_.2 ⟨u,bn.2 (eS.2 ⟨rfl,t4.ae [5,2]⟩)⟩⟩
 dsimp only[aI] at t5
 have t6:=bI.2 ⟨_,_,_,_,_,_,_,_,by rw[ht];exact(t5.del 3).ae [3,3,1,2,2,2,0,1,0,0]⟩
 dsimp only[aI,bringA,getA] at t6
 exact hq _ _ ⟨rfl,rfl,rfl,aa⟩ (t6.ae [1])
end
section
variable {told:cR} {v w:V} {c:List Nat} {p:Nat}
noncomputable def crE : Code:=cN [1,1,1,1,1,1] ((Tryz.f36.body).getD .skip)
theorem G7 (J:W told)(s:Sat h (aS q vZ::aS p δ::X::S))(hX:cL X (cQ cv c))(oI:δ.Ok)(RQ:δ.tail.length≤16777216)(Em:δ.mark.length≤64)(hE:Has E [(0,.ptr p 0),(5,cv),(6,.ptr q 0)])
 (hq:∀E' h',look E' 4=some (.ptr q 0)→Sat h' (aS q { vZ with log:=sZ δ c,bj:=(sZ δ c).length,mark:=δ.mark }::aS p δ::X::S)→Q .ret E' h'): WP ⟨Tryz.prog,told⟩ 172 crE E h Q:=by
 have hlen:=oI.len
 have aeA:=oI.bj
 obtain⟨pg,wt,nw,lg,mk,tn,tl,ops,s⟩:=bI.1 (s.ae [1])
 have htv:=dB (s.aD (k:=7) rfl (c8 _ _))
 refine WP.has hE (zw ?_)
 have s0:=s
 refine WP.drawn [ah,ah,ah,ah,ah,ah,ah,ah,ah,ah,some (0,2),some (0,2),some (0,2),some (0,2),none,none] rfl (by kernel_rfl) (by kernel_rfl) ?_
 refine zM rfl (zN rfl (zF rfl (ku _ _) (zL rfl (by exact s.ld (k:=0) rfl bE rfl) ?_)))
 refine zM rfl (zN rfl (zF rfl (ux _ _) (zL rfl (by exact s.ld (k:=0) rfl dN rfl) ?_)))
 refine zO rfl (cH (p:=some (.int .i64 (δ.bj:Int))) (q:=none) (m:=none) (p':=some δ.bj) (q':=none) (m':=none) rfl rfl rfl rfl (by simp[jb,bndV]) rfl rfl (fu (s.buf (k:=4) rfl).view (a:=δ.bj) (by omega)).1) ?_
 refine ay.any rfl rfl rfl rfl (OpR.call rfl rfl rfl rfl (jJ J (s.ae [4]) (rU (bk _ _) (a:=δ.bj) (by omega)) (by grind))) ?_
 intro u h s
 dsimp only[xb,aI,bringA] at s
 have s1:=s
 refine zM rfl (zN rfl (zF rfl (Cz _ _) (zL rfl (by exact s.ld (k:=2) rfl bE rfl) ?_)))
 refine ay.any rfl rfl rfl rfl (OpR.pQ rfl (s.ae [0,7]) (c8 _ _) rfl rfl rfl rfl (by grind)) ?_
 intro r h s
 dsimp only[aI,bringA] at s
 have s2:=s
 refine zA rfl ?_
 refine ay.nil ⟨⟨aa,aa,aa,aa,aa,aa,aa,aa,aa,aa,fun _ _=>.inr ⟨rfl,⟨_,bK rfl⟩,bH _ rfl⟩,fun _ _=>.inr ⟨rfl,⟨_,pJ rfl⟩,bH _ rfl⟩,fun _ _=>.inr ⟨rfl,⟨_,lE rfl (Cz _ _)⟩,bH _ rfl⟩,eE (.inr ⟨rfl,⟨_,aZ rfl (by exact s0.ld (k:=0) rfl bE rfl)⟩,htv⟩) (.inr ⟨rfl,⟨_,aZ rfl (by exact s1.ld (k:=2) rfl bE rfl)⟩,htv⟩),aa,aa,aa⟩,?_⟩
 have GH:(δ.log.drop δ.bj++δ.tail).length=δ.log.length-δ.bj+δ.tail.length:=by simp
 have I:=(s.buf (k:=0) rfl).view
 refine zg rfl (zm rfl (ax.call rfl rfl rfl rfl rfl rfl rfl (vH J (i:=0) s (k:=10) rfl hX) ?_))
 rintro v h' ⟨rfl,rfl⟩
 refine zm rfl (ax.call rfl rfl rfl rfl rfl rfl rfl (vH J (i:=1) s (k:=10) rfl hX) ?_)
 rintro v h' ⟨rfl,rfl⟩
 have hb:∀i,c.getD i 0<256:=fun i=>by
  rw[lW]
  cases hc:c[i]? with
  |none=>decide
  |some b=>exact(s.aD (k:=10) rfl hX).1 b (bD hc)
 have sD:=hb 0
 have BQ:=hb 1
 refine zb rfl (by exact kJ (aB (by omega) (by omega))) ?_
 refine zb rfl (by exact bC (aB (by omega) (by omega))) ?_
 refine zm rfl (zo rfl (aN rfl rfl rfl (aW aK I)) (zb rfl (by exact bC (aB (by omega) (by omega))) ?_))
 refine zb rfl (CH (a:=c.getD 0 0+256*c.getD 1 0) (b:=(δ.log.drop δ.bj++δ.tail).length+1) (by omega)) ?_
 refine za rfl (zv (zw ?_))
 have hk:kE δ c≤(δ.log.drop δ.bj++δ.tail).length:=Nat.le_of_lt_succ (Bh _ (by omega))
 obtain⟨pg2,wt2,nw2,lg2,mk2,tn2,tl2,aaw,s⟩:=bI.1 (s.ae [9])
 have s:=s.ae [0,10,3,8,6,3,9]
 dsimp only[xb,aI,bringA,getA] at s
 have s0:=s
 have Js:=dB I
 have GI:=dB (iQ I (b:=kE δ c) hk).2.1
 refine WP.drawn [some (0,3),ah,ah,ah,ah,ah,ah,ah,ah,ah,ah,some (0,2),some (0,2),some (0,2),ah,ah,ah,ah] rfl (by kernel_rfl) (by kernel_rfl) ?_
 refine zM rfl (zM rfl (zN rfl (zF rfl (ku _ _) (zL rfl (by exact s.ld (k:=1) rfl bE rfl) ?_))))
 refine zM rfl (zN rfl (zF rfl (ux _ _) (zL rfl (by exact s.ld (k:=1) rfl dN rfl) ?_)))
 refine zO rfl (cH (p:=none) (q:=some (.int .i64 (δ.bj:Int))) (m:=none) (p':=none) (q':=some δ.bj) (m':=none) rfl rfl rfl rfl rfl (by simp[jb,bndV]) rfl (iQ (s.buf (k:=3) rfl).view (b:=δ.bj) (by omega)).1) ?_
 refine ay.any rfl rfl rfl rfl (OpR.call rfl rfl rfl rfl (jJ J (s.ae [3]) (yb (bk _ _) (b:=δ.bj) (by omega)) (by grind))) ?_
 intro u h s
 dsimp only[aI,bringA] at s
 have s1:=s
 refine zM rfl (zM rfl (zO rfl (cH (p:=none) (q:=some (.int .i64 (kE δ c:Int))) (m:=none) (p':=none) (q':=some (kE δ c)) (m':=none) rfl rfl rfl rfl rfl (by simp[jb,bndV]) rfl (by exact(iQ (s.buf (k:=5) rfl).view (b:=kE δ c) hk).1)) ?_))
 refine ay.any rfl rfl rfl rfl (OpR.pQ rfl (s.ae [0,4]) (yb (bk _ _) (b:=kE δ c) hk) rfl rfl rfl rfl (by grind)) ?_
 intro w h s
 dsimp only[aI,bringA] at s
 have s2:=s
 have hv:=(s.buf (k:=0) rfl).view.cells
 refine zN rfl (zF rfl (ku _ _) (ay.ij rfl rfl rfl (OpR.eA rfl rfl rfl (s.eH (k:=3) rfl gU rfl (by decide) hv.1 hv.2)) ?_))
 rintro v h ⟨rfl,s⟩
 dsimp only[Nat.reduceAdd,List.set,setA] at s
 refine ay.nil ⟨⟨fun _ _=>.inr ⟨rfl,⟨_,bK rfl⟩,bH _ rfl⟩,aa,aa,aa,aa,aa,aa,aa,aa,aa,aa,fun _ _=>.inr ⟨rfl,⟨_,bK rfl⟩,Js⟩,fun _ _=>.inr ⟨rfl,⟨_,bK rfl⟩,bH _ rfl⟩,eE (.inr ⟨rfl,⟨_,cH (p:=none) (q:=some (.int .i64 (kE δ c:Int))) (m:=none) (p':=none) (q':=some (kE δ c)) (m':=none) rfl rfl rfl rfl rfl (by simp[jb,bndV]) rfl (by exact(iQ (s0.buf (k:=4) rfl).view (b:=kE δ c) hk).1)⟩,GI⟩) (.inr ⟨rfl,⟨_,cH (p:=none) (q:=some (.int .i64 (kE δ c:Int))) (m:=none) (p':=none) (q':=some (kE δ c)) (m':=none) rfl rfl rfl rfl rfl (by simp[jb,bndV]) rfl (by exact(iQ (s1.buf (k:=5) rfl).view (b:=kE δ c) hk).1)⟩,GI⟩),aa,aa,aa,aa,aa⟩,?_⟩
 refine zg rfl (zm rfl (zm rfl (zn rfl (zf rfl (ku _ _) (zl rfl (by exact s.ld (k:=3) rfl bE rfl) ?_)))))
 refine zo rfl (aN rfl rfl rfl (by exact aW aK (s.aD (k:=0) rfl (bk _ _)))) ?_
 refine zn rfl (zf rfl (ux _ _) ?_)
 refine ax.eA rfl rfl rfl rfl rfl (by exact s.eH (k:=3) rfl jF rfl (by decide) rfl rfl) (fun h s => ?_)
 dsimp only[Nat.reduceAdd,List.set,setA] at s
 refine zv (zg rfl (zm rfl (zm rfl (zn rfl (zf rfl (Fo _ _) (zl rfl (by exact s.ld (k:=4) rfl bE rfl) ?_))))))
 refine ax.call rfl rfl rfl rfl rfl rfl rfl (jJ J (s.ae [7]) (c8 _ _) (by omega)) ?_
 intro m h s
 have s:=s.ga
 dsimp only[aI,bringA] at s
 have hv:=(s.aD (k:=0) rfl (c8 _ _)).cells
 refine zn rfl (zf rfl (Fo _ _) (ax.eA rfl rfl rfl rfl rfl (s.eH (k:=5) rfl gU rfl (by decide) hv.1 hv.2) ?_))
 intro h s
 dsimp only[Nat.reduceAdd,List.set,setA] at s
 refine zv (zg rfl (zm rfl (za rfl (zv (WP.ret ?_)))))
 have s:=(((s.del 8).del 7).del 3).ae [4,5,5,5,2,0,3,3,2,3,3,3,1,0,1,0,0]
 dsimp only[aI,bringA,getA] at s
 have s:=bI.2 ⟨_,_,_,_,_,_,_,_,(bI (δ:={ vZ with log:=sZ δ c,bj:=(sZ δ c).length,mark:=δ.mark }).2 ⟨_,_,_,_,_,_,_,_,s⟩).ae [1,1,1,1,1,1,1,1,0]⟩
 exact hq _ _ rfl (s.ae [1])
theorem FW : ∀ {l:List Wr} {i:Nat} {P:List (Option (List Nat))},(layW c i l P).length=P.length:=by
 intro l
 induction l<;>grind[layW]
theorem MT : ∀ {l:List Wr} {i:Nat} {P:List (Option (List Nat))},(∀w∈l,w.2.length=512)→(∀(j:Nat) (b:List Nat),P[j]?=some (some b)→b.length=512)→∀(j:Nat) (b:List Nat),(layW c i l P)[j]?=some (some b)→b.length=512:=by
 intro l
 induction l with
 |nil=>intro i P _ h;exact h
 |cons w l I =>
  intro i P J h
  refine I (fun x hx=>J x (b8 _ hx)) ?_<;>grind
structure Dk.Cr (δ:Dk): Prop where
 ok:δ.Ok
 wait:∀w∈δ.waiting,w.1<δ.aq.length∧w.2.length=512
 many:δ.waiting.length≤268435456
 dG:∀w,δ.dG=some w→w.1<δ.aq.length∧w.2.length=512
 tail:δ.log.length+δ.tail.length≤16777216
 mark:δ.mark.length≤64
theorem UH (hT:W told)(s:Sat h (aS p δ::X::S))(hX:cL X (cQ cv c))(hc:δ.Cr):
  Call ⟨Tryz.prog,told⟩ 36 [.ptr p 0,cv] h fun v h'=>∃q,v=.ptr q 0∧Sat h' (aS q (fV δ c)::aS p δ::X::S):=by
 obtain⟨J,hW,hn,ht,RQ,Em⟩:=hc
 have RQ:δ.tail.length≤16777216:=by omega
 obtain⟨pg,wt,nw,lg,mk,tn,tl,ops,s⟩:=bI.1 s
 obtain⟨id,cs,rfl,s⟩:=gS.1 (s.ae [1])
 have DZ:=J.many
 have qD:cs.length=δ.aq.length:=by
  obtain⟨a,b,q1,q2,q3⟩:=s.at (k:=1) rfl
  exact pT q3
 refine Call.of_wp (hT.free _ rfl) Tryz.func36 rfl rfl (zg rfl (za rfl (zv (zg rfl (zm rfl (za rfl (zv (zw ?_))))))))
 have s:=s.ae [2]
 dsimp only[bringA,getA,aI] at s
 have s0:=s
 refine WP.drawn [ah,ah,ah,ah,ah,ah,ah,ah,ah,ah,ah] rfl (by kernel_rfl) (by kernel_rfl) ?_
 refine zM rfl (zN rfl (zF rfl (nC _ _) (zL rfl (by exact s.ld (k:=0) rfl sx rfl) ?_)))
 refine zO rfl (aN rfl rfl rfl (DE gR)) (zM rfl (zN rfl (zF rfl (L6 _ _) (zL rfl (by exact s.ld (k:=0) rfl dN rfl) ?_))))
 refine ay.any rfl rfl rfl rfl (OpR.call rfl rfl rfl rfl (IY (n:=δ.aq.length) (m:=δ.room) hT s (by omega))) ?_
 rintro v h ⟨q,rfl,s⟩
 refine zA rfl ?_
 refine ay.nil ⟨⟨aa,aa,aa,aa,aa,aa,aa,aa,aa,aa,aa,aa⟩,?_⟩
 obtain⟨pg2,wt2,nw2,lg2,mk2,tn2,tl2,aaw,s⟩:=bI.1 s
 obtain⟨kF,Gr,e2,s⟩:=gS.1 (s.ae [1])
 dsimp only[bringA,getA,aI,Dk.fresh] at s e2
 rw[fN] at s e2
 subst e2
 have iW:Gr.length=δ.aq.length:=by
  obtain⟨a,b,q1,q2,q3⟩:=s.at (k:=1) rfl<;>grind[pT,List.length_replicate]
 obtain⟨wcs,s⟩:=mL.1 (s.ae [12])
 dsimp only[bringA,getA,aI] at s
 have hlw:wcs.length=δ.waiting.length*2:=by
  obtain⟨a,b,q1,q2,q3⟩:=s.at (k:=1) rfl
  exact BC q3
 have s:=s.ae [4,10,2,9]
 dsimp only[bringA,getA,aI] at s
 refine zw ?_
 have s0:=s
 refine WP.drawn [ah,ah,ah,ah,ah,ah,ah,ah,ah] rfl (by kernel_rfl) (by kernel_rfl) ?_
 refine zM rfl (zN rfl (zF rfl (nC _ _) (zL rfl (by exact s.ld (k:=0) rfl sx rfl) ?_)))
 refine zM rfl (zN rfl (zF rfl (nC _ _) (zL rfl (by exact s.ld (k:=1) rfl sx rfl) ?_)))
 refine ay.any rfl rfl rfl rfl (OpR.X9 rfl (s.ae [2,2]) iW qD rfl rfl rfl rfl) ?_
 intro r h s
 dsimp only[xb,aI,bringA] at s
 refine ay.nil ⟨⟨aa,aa,aa,aa,aa,aa,aa,aa,aa,aa⟩,?_⟩
 refine zw (zg rfl (zm rfl (zn rfl (zf rfl (uw _ _) (zl rfl (by exact s.ld (k:=3) rfl DH rfl) ?_)))))
 refine zo rfl (aN rfl rfl rfl (s.dZ (n:=δ.waiting.length) (j:=4) rfl hlw (by decide) Au)) ?_
 refine zm rfl (zv (WP.block ?_))
 have s:=((s.ae [13]).dup (aV.each aV.lp _ _)).ae [7,4,2,0,3,15]
 dsimp only[aI,bringA,getA] at s
 refine OP hT rfl rfl (fun w hw=>(hW w hw).1) hn hX DZ δ.waiting.length 0 cs δ.aq h _ _ (gG _) qD rfl s ⟨rfl,rfl,rfl,rfl,rfl,rfl,aa⟩ (fun E h Gr P hE hP h1 h2 s => ?_)
 rw[gV] at hP
 subst hP
 refine WP.has hE ?_
 have t1:=gS.2 ⟨kF,Gr,rfl,by rw[h2];exact s.ae [2,2]⟩
 rw[h2] at t1
 dsimp only[aI,bringA] at t1
 have t2:=bI (δ:={ Dk.fresh δ.aq.length δ.room with aq:=layW c 0 δ.waiting δ.aq }).2 ⟨_,_,_,_,_,_,_,_,t1.ae [2,0,7,7,7,7,7,7]⟩
 dsimp only[aI,bringA] at t2
 have t3:=gS.2 ⟨id,cs,rfl,t2.ae [5,4]⟩
 dsimp only[aI,bringA] at t3
 have t4:=(mL.2 ⟨_,t3.ae [3,2]⟩).del 5
 dsimp only[aI,bringA] at t4
 have s:Sat h (aS q { Dk.fresh δ.aq.length δ.room with aq:=layW c 0 δ.waiting δ.aq }::aS p δ::X::S):=(bI.2 ⟨_,_,_,_,_,_,_,_,t4.ae [4,1,0,2,2,2,2,2,0,0]⟩).ae [1]
 have sk:=s
 obtain⟨pg3,wt3,nw3,lg3,mk3,tn3,tl3,aeB,s⟩:=bI.1 (s.ae [1])
 dsimp only[xb,aI,bringA] at s
 have hr:∀E' h',look E' 4=some (.ptr q 0)→Sat h' (aS q (fV δ c)::aS p δ::X::S)→∃v,resLE Tryz.prog E' h' [.tmp 4]=some v∧∃q,v=.ptr q 0∧Sat h' (aS q (fV δ c)::aS p δ::X::S):=fun E' h' e s'=>⟨_,pO e,q,rfl,s'⟩
 refine zw (zg rfl (zm rfl (zn rfl (zf rfl (uR _ _) (zl rfl (by exact s.ld (k:=0) rfl HM rfl) ?_)))))
 cases I:δ.dG with
 |none =>
  rw[I] at s
  obtain⟨rfl,_⟩:=eS.1 (s.ae [6])
  refine ax.oN rfl rfl rfl (aA rfl rfl (Oi Tryz.underlying147)) (rfl) (zv (zj rfl (WP.skip ?_)))
  refine G7 hT sk hX J RQ Em ⟨rfl,rfl,rfl,aa⟩ (fun E' h' e s'=>⟨aa,hr E' h' e ?_⟩)
  rw[fV,I]
  exact s'
 |some w =>
  rw[I] at s
  obtain⟨tid,s⟩:=g_.1 (s.ae [6])
  obtain⟨u,s⟩:=g_.1 s
  obtain⟨rfl,_⟩:=eS.1 (bn.1 s)
  refine ax.tE rfl rfl rfl (aA rfl rfl (abw Tryz.underlying147)) (rfl) (zv (zi rfl ?_))
  refine OR (w:=w) hT sk hX hn I (by grind) (ht w I).2 (by grind) (MT (fun w hw=>(hW w hw).2) J.aq) ⟨rfl,rfl,rfl,aa⟩ (fun E h hE s => ?_)
  refine G7 hT s hX J RQ Em hE (fun E' h' e s'=>⟨aa,hr E' h' e ?_⟩)
  rw[fV,I]
  exact s'
end
structure cz where
 kd:Nat
 tx:Nat
 pv:Nat
 nx:Nat
 data:List Nat
 aR:List cq
variable {rs u dP fK r1 r2:List cz} {r:cz}
def cz.bd (r:cz): List Nat:=dD r.kd r.tx r.pv r.nx r.data r.aR
def cz.len (r:cz): Nat:=8+r.bd.length
structure cz.Ok (r:cz): Prop where
 good:ej r.kd r.aR=true
 rd:yH r.tx r.pv r.nx r.data r.aR
 len:r.bd.length≤1048576
theorem cz.Ok.kd (h:r.Ok): r.kd<256:=by
 have:=h.good
 simp[ej] at this
 omega
def logB : Nat→List cz→List Nat
 |_,[]=>[]
 |n,r::l=>iR n r.bd++logB (n+r.len) l
def lN : Nat→List cz→List Nat
 |_,[]=>[]
 |a,r::l=>a::lN (a+r.len) l
def sj (j:List Nat): Prop:=j.length<8∨j.length-8<leN (j.take 4)
theorem UI {x y:List Nat}{b:Nat}(I:x.length=a): ((x++y).take (a+b)).drop a=y.take b:=by
 grind
section
variable {told:cR} {v:V}
theorem OS (hT:W told){pre:List Nat}(hj:sj j)(ha:pre.length=a)(J:l=pre++j)(D7:l.length≤1073741824)(s:Sat h (X::S))(I:cL X (cQ v l)):
  Call ⟨Tryz.prog,told⟩ 133 [v,.int .i64 (a:Int),.int .u64 (n:Int)] h fun r h'=>r=.bf [.agg (iw 0 0 0 0 .a_ .a_),.int .i64 0,.int .i64 4]∧Sat h' (X::S):=by
 have hlen:l.length=a+j.length:=by rw[J,bV,ha]
 have Kh:=aW (P:=Tryz.prog) (h:=h) aK (s.aD (k:=0) rfl I)
 have m1:(l.take (a+4)).drop a=j.take 4:=by rw[J];exact UI ha
 refine Call.of_wp (hT.free _ rfl) Tryz.func133 rfl rfl (zg rfl ?_)
 refine ax.cm s rfl rfl rfl (b6 rO) (fun p6 h s => ?_)
 refine zk 7 rfl (zC rfl bh (by simp) ?_)
 refine zk 3 rfl (zo rfl (aN rfl rfl rfl (aW aK (s.aD (k:=1) rfl I))) (zC rfl gA (by simp;omega) ?_))
 refine zk 8 rfl (zo rfl (aN rfl rfl rfl (aW aK (s.aD (k:=1) rfl I))) (zm rfl (zb rfl (by exact iM (aB (by omega) (by omega))) ?_)))
 by_cases h8:j.length<8
 ·skip
  refine zB rfl bh (by simp;omega) ?_
  refine zk 4 rfl (zo rfl (cT rfl (by rw[Fk];rfl)) ?_)
  refine zS rfl (s.fS (j:=0) rfl ik rfl rfl) (fun h s => ?_)
  refine zk 3 rfl ?_
  refine WP.ret ⟨aa,_,yu rfl (s.dn (k:=0) rfl oc ik) rfl rfl,?_⟩
  exact⟨rfl,s.drop⟩
 have fC:j.length-8<leN (j.take 4):=by rcases hj with h|h;exact absurd h h8;exact h
 have V2:leN (j.take 4)<4294967296:=by
  have:=DX (j.take 4) (fun b hb=>(s.aD (k:=1) rfl I).1 b (by rw[J];exact List.mem_append.2 (.inr (ko hb))))
  rwa [fO,Bd (by omega)] at this
 refine zC rfl bh (by simp;omega) ?_
 refine zk 8 rfl (zb rfl (by exact bC (aB (by omega) (by omega))) ?_)
 refine zo rfl (cH (p:=some (.int .i64 (a:Int))) (q:=some (.int .i64 ((a:Int)+4))) (m:=none) (p':=some a) (q':=some (a+4)) (m':=none) rfl rfl rfl rfl (by rw[fT (by omega)];rfl) (by rw[fT (by omega)];congr 2<;>omega) rfl (gP (s.aD (k:=1) rfl I) (a:=a) (b:=a+4) (by omega) (by omega)).1) ?_
 refine zc rfl (qC hT s (k:=1) rfl (lG I (a:=a) (b:=a+4) (by omega) (by omega)) (by rw[m1,fO];omega)) ?_
 rintro r h' ⟨rfl,rfl⟩
 rw[m1]
 refine zk 6 rfl ?_
 by_cases N_:1048576<leN (j.take 4)
 ·skip
  refine zB rfl gA (by simp;omega) ?_
  refine zk 14 rfl (zo rfl (cT rfl (by rw[Fk];rfl)) ?_)
  refine zS rfl (s.fS (j:=0) rfl ik rfl rfl) (fun h s => ?_)
  refine zk 3 rfl ?_
  refine WP.ret ⟨aa,_,yu rfl (s.dn (k:=0) rfl oc ik) rfl rfl,?_⟩
  exact⟨rfl,s.drop⟩
 refine zC rfl gA (by simp;omega) ?_
 refine zk 2 rfl (zo rfl (cJ rfl (by exact jE c_ bT (aB (by omega) (by omega)))) ?_)
 refine zm rfl (zo rfl (aN rfl rfl rfl (aW aK (s.aD (k:=1) rfl I))) (zm rfl (zb rfl (by exact iM (aB (by omega) (by omega))) ?_)))
 refine zb rfl (by exact iM (aB (by omega) (by omega))) ?_
 refine zB rfl gA (by simp;omega) ?_
 refine zk 5 rfl (zo rfl (cT rfl (by rw[Fk];rfl)) ?_)
 refine zS rfl (s.fS (j:=0) rfl ik rfl rfl) (fun h s => ?_)
 refine zk 3 rfl ?_
 refine WP.ret ⟨aa,_,yu rfl (s.dn (k:=0) rfl oc ik) rfl rfl,?_⟩
 exact⟨rfl,s.drop⟩
end
def Dk.rC (δ:Dk)(n:Nat): Int×Dk :=
 if δ.dead=true then(9,δ) else if ¬n≤δ.log.length then(1,δ) else if δ.aT=0 then(9,δ.die) else(0,{ δ.cV with log:=δ.log.take n,bj:=n })
def Dk.dU (δ:Dk)(n:Nat): Int×Dk:=if n<δ.log.length then δ.rC n else(0,δ)
def Dk.dc (δ:Dk)(n:Nat): Int×Dk :=
 if (δ.dU n).1≠0 then δ.dU n else if (δ.dU n).2.bj<n then(δ.dU n).2.cg else(0,(δ.dU n).2)
def jc (base aC:Nat)(rs:List cz): Lg:={ base:=base,b:=logB base rs,cE:=lN 0 rs,forced:=(logB base rs).length,check:=aC }
theorem s_ (n:Nat)(b:List Nat): (iR n b).length=8+b.length:=by rw[pV]
theorem Lr {v:V}(I:c<1073741824)(he:makeSliceV Tryz.prog h 28 (.int .i64 0) (.int .i64 (c:Int))=some (v,h')): v=.sl h.next 0 0 (.exact c):=by
 obtain⟨i,hi,i1,i2⟩:=wX
 simp only[makeSliceV,aK,hi,n4,i1,i2,V.cells,bF,cG,dY,eF] at he
 rw[show(decide ((0:Int)≤0)&&decide ((0:Int)≤(c:Int))&&decide ((c:Int)<1073741824)&&Nat.ble 1 4096&&Nat.beq (0+1) 1&&Nat.ble 1 1)=true by simp;omega,aj] at he
 exact(congrArg Prod.fst (cA he)).symm
theorem Ki {x v:V}{m:List Nat}(J:View h x m)(I:n+m.length≤c)(he:appendV Tryz.prog h #[28,28] (.sl id 0 n (.exact c)) x=some (v,h')): v=.sl id 0 (n+m.length) (.exact c):=by
 obtain⟨i,hi,i1,i2⟩:=wX
 unfold appendV at he
 simp only[aK,hi,n4,i1,i2,V.cells,bF,cG,Dv J] at he
 rw[show(Nat.ble 1 1&&Nat.ble 1 4096&&Nat.beq (0+1) 1)=true from rfl,aj] at he
 cases hm:Nat.beq m.length 0 with
 |true =>
  rw[hm,aj] at he
  rw[beq_iff.1 hm];exact(congrArg Prod.fst (cA he)).symm
 |false =>
  rw[hm,aY,bg.2 I,aj] at he
  split at he
  ·exact(congrArg Prod.fst (cA he)).symm
  ·cases he
theorem R4 (hn:n≤l.length): cL (aQ (.sl id 0 l.length (.exact c)) l) (aQ (.sl id 0 n (.exact c)) (l.take n)):=by
 intro m r ⟨h1,h2⟩
 have hl:(l.take n).length=n:=by rw[fO];omega
 refine⟨fun b hb=>h1 b (ko hb),.inr (.inl ?_)⟩
 rcases h2 with⟨e,_⟩|⟨J,cs,c',e,hg,hc⟩|⟨J,e,_⟩
 ·cases e
 ·injection e with e1 _ _ I
  injection I with I
  subst e1;subst I
  refine⟨_,ofBytes (l.drop n)++cs,_,by rw[hl],?_,?_⟩
  ·rw[←cP,←su,wg];exact hg
  ·rw[bV,dV,EW,hl];omega
 ·injection e with _ _ _ I;cases I
section
variable {told:cR} {p:Nat}
theorem Ls (hT:W told){x:V}(s:Sat h (X::S))(J:cL X (cQ x l))(hl:l.length<1073741824):
  Call ⟨Tryz.prog,told⟩ 90 [x] h fun v h'=>∃id,v=.sl id 0 l.length (.exact l.length)∧Sat h' (aQ v l::X::S):=by
 refine Call.of_wp (hT.free _ rfl) Tryz.func90 rfl rfl (zK 7 rfl (zo rfl (aN rfl rfl rfl (aW aK (s.aD (k:=0) rfl J))) ?_))
 obtain⟨v1,h1,e1,s1⟩:=Gq s hl
 have tF:=Lr hl e1
 subst tF
 refine ax.any rfl rfl rfl (OpR.of (R:=fun v h'=>v=.sl h.next 0 0 (.exact l.length)∧h'=h1) (qT rfl rfl e1) ⟨rfl,rfl⟩) ?_
 rintro v h' ⟨rfl,rfl⟩
 refine zm rfl ?_
 obtain⟨v2,h2,e2,s2⟩:=DL s1 J (by simp;omega)
 have I:=Ki (s1.aD (k:=1) rfl J) (by omega) e2
 rw[gG] at I
 subst I
 refine ax.any rfl rfl rfl (OpR.of (R:=fun v h'=>v=.sl h.next 0 l.length (.exact l.length)∧h'=h2) (jI rfl rfl e2) ⟨rfl,rfl⟩) ?_
 rintro v h' ⟨rfl,rfl⟩
 exact zk 2 rfl (WP.ret ⟨aa,_,rfl,_,rfl,s2⟩)
theorem OT (I:W told)(s:Sat h (aS p δ::S))(hd:δ.dead=false)(J:δ.log.length<1073741824): Call ⟨Tryz.prog,told⟩ 132 [.ptr p 0] h fun v h' =>
  ∃id,v=.bf [.sl id 0 δ.log.length (.exact δ.log.length),.int .i64 0]∧Sat h' (aQ (.sl id 0 δ.log.length (.exact δ.log.length)) δ.log::aS p δ::S):=by
 obtain⟨pg,wt,nw,lg,mk,tn,tl,ops,s⟩:=bI.1 s
 refine Call.of_wp (I.free _ rfl) Tryz.func132 rfl rfl (zK 10 rfl (zf rfl (kx _ _) (zh rfl ((aZ rfl (s.ld (k:=0) rfl kZ rfl))) (hd) (zk 7 rfl (zY s 0 ku bE rfl (zc rfl (Ls I (s.ae [4]) (bk _ _) J) ?_))))))
 rintro v h ⟨id,rfl,s⟩
 exact zk 3 rfl (WP.ret ⟨aa,_,rfl,id,rfl,(bI.2 ⟨pg,wt,nw,lg,mk,tn,tl,ops,s.ae [2,2,2,2,1,1,1,1,0]⟩).ae [1]⟩)
end
section
variable {told:cR} {v b pv:V} {p base:Nat}
theorem ac9 {m:Nat}: slR (.sl id 0 m (.exact c)) 0 n=.sl id 0 n (.exact c):=by
 simp only[slR,uf,nu,l7]
 cases Nat.beq c 0<;>rfl
theorem Dk.Ok.dU (h:δ.Ok): (δ.dU n).2.Ok:=by
 have J:=h.len
 unfold Dk.dU Dk.rC
 split
 ·split
  ·exact h
  ·split
   ·exact h
   ·split
    ·exact h.die
    ·have I:=h.cV
     exact⟨I.aT,by show(δ.log.take n).length≤_;rw[fO];omega,I.room,I.now,I.aq,by show n≤(δ.log.take n).length;rw[fO];omega,I.many⟩
 ·exact h
theorem Dk.Ok.dc (h:δ.Ok): (δ.dc n).2.Ok:=by
 unfold Dk.dc
 split
 ·exact h.dU
 ·split
  ·exact h.dU.cg
  ·exact h.dU
theorem aax (hT:W told)(s:Sat h (aS p δ::S))(I:δ.Ok): Call ⟨Tryz.prog,told⟩ 134 [.ptr p 0,.int .i64 (n:Int)] h fun v h'=>v=.int .i64 (δ.rC n).1∧Sat h' (aS p (δ.rC n).2::S):=by
 have hl:=I.len
 refine(Tr hT s I.aT (by omega)).mono fun v h' hr => ?_
 unfold Dk.rC
 rcases hr with⟨hd,rfl,s⟩|⟨hd,h1,rfl,s⟩|⟨hd,h1,h2,J,rfl,s⟩|⟨hd,h1,h2,J,rfl,s⟩
 ·rw[aP hd];exact⟨rfl,s⟩
 ·rw[ak (by rw[hd];decide),aP (by omega)];exact⟨rfl,s⟩
 ·rw[ak (by rw[hd];decide),ak (by omega),aP J];exact⟨rfl,s⟩
 ·rw[ak (by rw[hd];decide),ak (by omega),ak J];exact⟨rfl,s⟩
theorem UJ (hT:WR told){pre:List Nat}(I:r.Ok)(ha:pre.length=a)(hl:l=pre++(iR n r.bd++rest))(J:l.length≤1073741824)(s:Sat h (X::S))(hX:cL X (cQ v l)):
  Call ⟨Tryz.prog,told⟩ 133 [v,.int .i64 (a:Int),.int .u64 (n:Int)] h fun x h'=>∃dt ch cs,x=.bf [.agg (iw r.kd r.tx r.pv r.nx dt ch),.int .i64 ((a+r.len:Nat):Int),.int .i64 0]∧Sat h' (X::aQ dt r.data::.arr 4 ch cs::dm cs r.aR::S):=by
 refine(Kg hT I.good I.kd I.rd rfl I.len ha hl J s hX).mono fun x h' hx => ?_
 have e:a+r.len=a+8+(dD r.kd r.tx r.pv r.nx r.data r.aR).length:=by rw[cz.len,cz.bd];omega
 rw[e]
 exact hx
theorem MU {kd n:Int}{pv:Nat}{dt ch:V}(hd:dt.beq dt=true)(I:ch.beq ch=true): (V.bf [.agg (iw kd tx pv nx dt ch),.int .i64 n,.int .i64 e]).beq (V.bf [.agg (iw kd tx pv nx dt ch),.int .i64 n,.int .i64 e])=true:=by
 simp only[V.beq,V.beqL,iw,hd,I,lF,dx,jz,aj]
noncomputable def woL : Code:=cN [1,1,1,1,1,1,1,0,0,0] ((Tryz.f80.body).getD .skip)
theorem OU (hT:WR told)(D7:l.length≤16777216)(xX:base+l.length≤1099511627776)(hj:sj j): ∀(rs:List cz) (a:Nat) (pre st:List Nat) (sv:V) (h:H) (E:List (Nat×V)) (Q:Ex→List (Nat×V)→H→Prop),
  (∀r∈rs,r.Ok)→l=pre++(logB (base+a) rs++j)→pre.length=a→st.length≤a→Sat h (pt q (.cells 6 (Az p base b sv 0 aC) false)::aQ b l::.arr 1 sv (bG st)::S) →
  Has E [(0,pv),(6,.ptr q 0),(7,.int .i64 (a:Int))] →
  (∀E' h' I,Has E' [(0,pv),(6,.ptr q 0),(7,.int .i64 ((a+(logB (base+a) rs).length:Nat):Int))]→Sat h' (pt q (.cells 6 (Az p base b I 0 aC) false)::aQ b l::.arr 1 I (bG (st++lN a rs))::S)→Q (.exit 1) E' h') →
  WP ⟨Tryz.prog,told⟩ 134 (.loop woL) E h Q:=by
 have hW:=hT.w
 intro rs
 induction rs with
 |nil =>
  intro a pre st sv h E Q _ hl ha _ s hE hq
  have hq:∀E' h',Has E' [(0,pv),(6,.ptr q 0),(7,.int .i64 (a:Int))]→Sat h' (pt q (.cells 6 (Az p base b sv 0 aC) false)::aQ b l::.arr 1 sv (bG st)::S)→Q (.exit 1) E' h':=fun E' h' h1 h2=>hq E' h' sv h1 (by rw[lN,dS];exact h2)
  have hlen:l.length=a+j.length:=by rw[hl,logB,ey,bV,ha]
  refine WP.loop (WP.has hE (zK 6 rfl (zY s 0 ff bE rfl (zo rfl (aN rfl rfl rfl (aW aK (s.aD (k:=1) rfl (bk _ _)))) ?_))))
  by_cases hz:j.length=0
  ·skip
   refine zC rfl bh (by simp;omega) ?_
   exact zk 2 rfl (WP.exit (hq _ _ ⟨rfl,rfl,rfl,aa⟩ s))
  ·skip
   refine zB rfl bh (by simp;omega) ?_
   refine zk 3 rfl (WP.block (zw ?_))
   have s0:=s
   have VJ:=dB (s.buf (k:=1) rfl).view
   refine WP.drawn [ah,ah,ah,ah,ah,ah,ah,ah,ah,ah,ah,ah,ah,some (1,2),some (1,2),some (1,3),some (1,3),ah,ah,ah,ah] rfl (by kernel_rfl) (by kernel_rfl) ?_
   refine zM rfl (zN rfl (zF rfl (ff _ _) (zL rfl (s.ld (k:=0) rfl bE rfl) (zM rfl (zM rfl (zN rfl (zF rfl (mj _ _) (zL rfl (s.ld (k:=0) rfl mh rfl) (zM rfl (ay.op rfl rfl rfl (by simp only[isEff,c_]) (cJ rfl (by exact jE bT c_ (fZ (by omega) (by omega)))) ?_))))))))))
   refine zO rfl (aA rfl rfl (by exact bC (fZ (by omega) (by omega)))) ?_
   refine ay.any rfl rfl rfl rfl (OpR.call rfl rfl rfl rfl (OS (n:=base+a) (a:=a) hW hj ha hl (by omega) (s.ae [1]) (bk _ _))) ?_
   rintro x h ⟨rfl,s⟩
   dsimp only[Az,aI,bringA] at s
   have s1:=s
   have J:=MU (kd:=0) (tx:=0) (pv:=0) (nx:=0) (dt:=.a_) (ch:=.a_) (n:=0) (e:=4) rfl rfl
   have Js:=BG (kd:=0) (tx:=0) (pv:=0) (nx:=0) (dt:=.a_) (ch:=.a_) rfl rfl
   refine zM rfl (zO rfl (cS rfl rfl) (zO rfl (cS rfl rfl) (zO rfl (cS rfl rfl) (ay.any rfl rfl rfl rfl (OpR.cm s (b6 rO)) ?_))))
   rintro v h ⟨p8,rfl,s⟩
   dsimp only[V.cells,List.length_cons,List.length_nil,Nat.reduceAdd] at s
   have s2:=s
   refine ay.ij rfl rfl rfl (OpR.eA rfl rfl rfl (s.fS (j:=0) rfl ik rfl rfl)) ?_
   rintro v h ⟨rfl,s⟩
   dsimp only[setA] at s
   refine zA rfl (zA rfl ?_)
   refine ay.nil ⟨⟨aa,aa,aa,aa,aa,aa,aa,aa,aa,aa,aa,aa,aa,fun _ _=>.inr ⟨rfl,⟨_,bK rfl⟩,J⟩,fun _ _=>.inr ⟨rfl,⟨_,cS rfl rfl⟩,Js⟩,fun _ _=>.inr ⟨rfl,⟨_,cS rfl rfl⟩,bH _ rfl⟩,fun _ _=>.inr ⟨rfl,⟨_,cS rfl rfl⟩,bH _ rfl⟩,aa,aa,aa,aa,aa⟩,?_⟩
   exact zK 4 rfl (zB rfl aE (rfl) (zk 2 rfl (WP.exit (hq _ _ ⟨rfl,rfl,rfl,aa⟩ ((s.del 0).ae [1,0,0])))))
 |cons r rs ih =>
  intro a pre st sv h E Q vn hl ha fX s hE hq
  have hr:=vn r bZ
  have GH:(iR (base+a) r.bd).length=r.len:=by rw[s_];rfl
  have hlen:l.length=a+(r.len+((logB (base+a+r.len) rs).length+j.length)):=by rw[hl,logB];simp only[bV,ha,GH];omega
  have hr8:8≤r.len:=by rw[cz.len];omega
  refine WP.loop (WP.has hE (zK 6 rfl (zY s 0 ff bE rfl (zo rfl (aN rfl rfl rfl (aW aK (s.aD (k:=1) rfl (bk _ _)))) (zB rfl bh (by simp;omega) ?_)))))
  refine zk 3 rfl (WP.block (zw ?_))
  have s0:=s
  have VJ:=dB (s.buf (k:=1) rfl).view
  refine WP.drawn [ah,ah,ah,ah,ah,ah,ah,ah,ah,ah,ah,ah,ah,some (1,2),some (1,2),some (1,3),some (1,3),ah,ah,ah,ah] rfl (by kernel_rfl) (by kernel_rfl) ?_
  refine zM rfl (zN rfl (zF rfl (ff _ _) (zL rfl (s.ld (k:=0) rfl bE rfl) (zM rfl (zM rfl (zN rfl (zF rfl (mj _ _) (zL rfl (s.ld (k:=0) rfl mh rfl) (zM rfl (ay.op rfl rfl rfl (by simp only[isEff,c_]) (cJ rfl (by exact jE bT c_ (fZ (by omega) (by omega)))) ?_))))))))))
  refine zO rfl (aA rfl rfl (by exact bC (fZ (by omega) (by omega)))) ?_
  refine ay.any rfl rfl rfl rfl (OpR.call rfl rfl rfl rfl (UJ (r:=r) (n:=base+a) (a:=a) (rest:=logB (base+a+r.len) rs++j) hT hr ha (by rw[hl,logB,cP]) (by omega) (s.ae [1]) (bk _ _))) ?_
  rintro x h ⟨dt,ch,cs,rfl,s⟩
  dsimp only[Az,aI,bringA] at s
  have jV:=(s.buf (k:=1) rfl).view.cells
  have jf:=s.ju (j:=2) rfl
  have B5:=dB (s.buf (k:=1) rfl).view
  have fX:[V.int .i64 (r.kd:Int),V.int .u64 (r.tx:Int),V.int .u64 (r.pv:Int),V.int .u64 (r.nx:Int),dt,ch].all storable=true:=m8 jV.2 jf.2.1
  have J:=MU (kd:=r.kd) (tx:=r.tx) (pv:=r.pv) (nx:=r.nx) (n:=((a+r.len:Nat):Int)) (e:=0) B5 jf.2.2
  have Js:=BG (kd:=r.kd) (tx:=r.tx) (pv:=r.pv) (nx:=r.nx) B5 jf.2.2
  have s1:=s
  refine zM rfl (zO rfl (cS rfl rfl) (zO rfl (cS rfl rfl) (zO rfl (cS rfl rfl) (ay.any rfl rfl rfl rfl (OpR.cm s (b6 rO)) ?_))))
  rintro v h ⟨p8,rfl,s⟩
  dsimp only[V.cells,List.length_cons,List.length_nil,Nat.reduceAdd] at s
  have s2:=s
  refine ay.ij rfl rfl rfl (OpR.eA rfl rfl rfl (s.fS (j:=0) rfl ik rfl fX)) ?_
  rintro v h ⟨rfl,s⟩
  dsimp only[setA] at s
  refine zA rfl (zA rfl ?_)
  refine ay.nil ⟨⟨aa,aa,aa,aa,aa,aa,aa,aa,aa,aa,aa,aa,aa,fun _ _=>.inr ⟨rfl,⟨_,bK rfl⟩,J⟩,fun _ _=>.inr ⟨rfl,⟨_,cS rfl rfl⟩,Js⟩,fun _ _=>.inr ⟨rfl,⟨_,cS rfl rfl⟩,bH _ rfl⟩,fun _ _=>.inr ⟨rfl,⟨_,cS rfl rfl⟩,bH _ rfl⟩,aa,aa,aa,aa,aa⟩,?_⟩
  refine zK 4 rfl (zC rfl aE (rfl) ?_)
  have s:=((((s.ae [5,5,1]).del 3).del 3).del 3).del 3
  dsimp only[bringA,getA,aI] at s
  refine zk 7 rfl (zY s 0 oD ob rfl (zm rfl ?_))
  obtain⟨i1,iu,gW,pz⟩:=od
  obtain⟨iv,h1,e1,s1⟩:=jB (P:=Tryz.prog) (k:=1) (x:=.int .i64 (a:Int)) s cf uO jF rfl (by decide) (by decide) rfl rfl
  dsimp only[V.cells] at s1
  refine ax.any rfl rfl rfl (OpR.of (R:=fun v h'=>v=iv∧h'=h1) (ke rfl e1) ⟨rfl,rfl⟩) ?_
  rintro v h' ⟨rfl,rfl⟩
  obtain⟨I,h2,e2,s2⟩:=gv (s1.ae [2,0]) cf iu uO gW (by omega) rfl (by decide) (by simp only[gh,bF,cG];omega)
  dsimp only[aI,bringA] at s2
  refine ax.any rfl rfl rfl (OpR.of (R:=fun v h'=>v=I∧h'=h2) (jI rfl rfl e2) ⟨rfl,rfl⟩) ?_
  rintro v h' ⟨rfl,rfl⟩
  have hv:=s2.ju (j:=0) rfl
  refine zk 2 rfl (zf rfl (oD _ _) (zS rfl (s2.eH (k:=2) rfl IG rfl (by decide) hv.1 hv.2.1) ?_))
  intro h s
  dsimp only[Nat.reduceAdd,List.set,setA] at s
  refine za rfl (zv ?_)
  have s:=(s.ae [2,2,0]).del 3
  refine ih (a+r.len) (pre++iR (base+a) r.bd) (st++[a]) _ _ _ Q (fun x hx=>vn x (b8 _ hx)) (by rw[hl,logB];simp only[cP,ox]) (by rw[bV,ha,GH]) (by simp;omega) (by rw[show bG (st++[a])=bG st++[.int .i64 (a:Int)] by simp[bG]];exact s) ⟨rfl,rfl,rfl,aa⟩ (fun E' h' I jx s' => ?_)
  refine hq E' h' I ?_ ?_
  ·rw[logB,bV,GH,←ox,ox base]
   exact jx
  ·rw[lN,List.append_cons]
   exact s'
noncomputable def woE : Code:=cN [1,1,1,1,1,1,1,1,1] ((Tryz.f80.body).getD .skip)
theorem Es (hT:W told){st:List Nat}{sv:V}(s:Sat h (pt q (.cells 6 (Az p base b sv 0 aC) false)::aQ b l::.arr 1 sv (bG st)::aS p δ::S))(hf:δ.aT<4294967296)(hE:Has E [(0,.ptr p 0),(6,.ptr q 0)]){y:Int×Dk}(J:y=if δ.bj<l.length then δ.cg else(0,δ))
 (h1:∀E' h',y.1≠0→look E' 2=some .b_→look E' 3=some (.int .i64 y.1)→Sat h' (aS p y.2::S)→Q .ret E' h')
 (h2:∀E' h',y.1=0→look E' 2=some (.ptr q 0)→look E' 3=some (.int .i64 0)→Sat h' (b7 q p { base:=base,b:=l,cE:=st,forced:=l.length,check:=aC }::aS p y.2::S)→Q .ret E' h'):
  WP ⟨Tryz.prog,told⟩ 134 woE E h Q:=by
 refine WP.has hE (zK 2 rfl ?_)
 have s0:=s
 have I:=dB (s.buf (k:=1) rfl).view
 refine WP.drawn [none,none,some (0,2),some (0,2),some (0,2),some (0,2),some (0,2),none] rfl (by kernel_rfl) (by kernel_rfl) ?_
 refine zM rfl (ay.any rfl rfl rfl rfl (OpR.call rfl rfl rfl rfl (B8 hT (s.ae [3]))) ?_)
 rintro v h' ⟨rfl,rfl⟩
 refine zM rfl (zN rfl (zF rfl (ff _ _) (zL rfl (s.ld (k:=0) rfl bE rfl) (zO rfl (aN rfl rfl rfl (aW aK (s.aD (k:=1) rfl (bk _ _)))) ?_))))
 by_cases hc:δ.bj<l.length
 ·skip
  rw[aP hc] at J
  refine ay.tE rfl rfl rfl rfl (aA rfl rfl bh) (by rw[show δ.yh=δ.bj from rfl];simp;omega) ?_
  refine ay.nil ⟨⟨aa,aa,fun _ _=>.inr ⟨rfl,⟨_,bK rfl⟩,bH _ rfl⟩,fun _ _=>.inr ⟨rfl,⟨_,pJ rfl⟩,bH _ rfl⟩,fun _ _=>.inr ⟨rfl,⟨_,lE rfl (ff _ _)⟩,bH _ rfl⟩,eE (.inr ⟨rfl,⟨_,aZ rfl (s0.ld (k:=0) rfl bE rfl)⟩,I⟩) (.inr ⟨rfl,⟨_,aZ rfl (s.ld (k:=0) rfl bE rfl)⟩,I⟩),eE (.inr ⟨rfl,⟨_,aN rfl rfl rfl (aW aK (s0.aD (k:=1) rfl (bk _ _)))⟩,bH _ rfl⟩) (.inr ⟨rfl,⟨_,aN rfl rfl rfl (aW aK (s.aD (k:=1) rfl (bk _ _)))⟩,bH _ rfl⟩),aa,aa⟩,?_⟩
  refine zK 4 rfl (zc rfl (Xo hT (s.ae [3]) hf) ?_)
  rintro v h ⟨rfl,s⟩
  rw[←J] at s
  rw[←J]
  by_cases h0:y.1=0
  ·skip
   rw[h0]
   refine zk 5 rfl (zC rfl aE (rfl) (zk 8 rfl (zY s 1 ff bE rfl (zo rfl (aN rfl rfl rfl (aW aK (s.aD (k:=2) rfl (bk _ _)))) (zn rfl (zf rfl (w8 _ _) ?_))))))
   refine zS rfl (by exact s.eH (k:=1) rfl jF rfl (by decide) rfl rfl) (fun h s => ?_)
   exact zk 7 rfl (WP.ret (h2 _ _ h0 rfl rfl (gy.2 ⟨_,_,s.ae [1,1,1,0]⟩)))
  ·skip
   refine zk 5 rfl (zB rfl aE (by simpa using h0) ?_)
   exact zk 8 rfl (WP.ret (h1 _ _ h0 rfl rfl (((s.del 3).del 2).del 1)))
 ·skip
  rw[ak hc] at J
  subst J
  refine ay.oN rfl rfl rfl rfl (aA rfl rfl bh) (by rw[show δ.yh=δ.bj from rfl];simp;omega) ?_
  refine ay.nil ⟨⟨aa,aa,fun _ _=>.inr ⟨rfl,⟨_,bK rfl⟩,bH _ rfl⟩,fun _ _=>.inr ⟨rfl,⟨_,pJ rfl⟩,bH _ rfl⟩,fun _ _=>.inr ⟨rfl,⟨_,lE rfl (ff _ _)⟩,bH _ rfl⟩,eE (.inr ⟨rfl,⟨_,aZ rfl (s0.ld (k:=0) rfl bE rfl)⟩,I⟩) (.inr ⟨rfl,⟨_,aZ rfl (s.ld (k:=0) rfl bE rfl)⟩,I⟩),eE (.inr ⟨rfl,⟨_,aN rfl rfl rfl (aW aK (s0.aD (k:=1) rfl (bk _ _)))⟩,bH _ rfl⟩) (.inr ⟨rfl,⟨_,aN rfl rfl rfl (aW aK (s.aD (k:=1) rfl (bk _ _)))⟩,bH _ rfl⟩),aa,aa⟩,?_⟩
  refine zK 7 rfl (zY s 0 ff bE rfl (zo rfl (aN rfl rfl rfl (aW aK (s.aD (k:=1) rfl (bk _ _)))) (zn rfl (zf rfl (w8 _ _) ?_))))
  refine zS rfl (by exact s.eH (k:=0) rfl jF rfl (by decide) rfl rfl) (fun h s => ?_)
  exact zk 7 rfl (WP.ret (h2 _ _ rfl rfl rfl (gy.2 ⟨_,_,s⟩)))
noncomputable def woR : Code:=cN [1,1,1,1,1,1] ((Tryz.f80.body).getD .skip)
theorem G8 (hT:WR told){lq:Nat}(hb:b=.sl lq 0 δ.log.length (.exact δ.log.length))(s:Sat h (pt q (.cells 6 (Az p base b .a_ 0 aC) false)::aQ b δ.log::aS p δ::S))(oI:δ.Ok)(xX:base+δ.log.length≤1099511627776)
 (I:δ.log=logB base rs++j)(vn:∀r∈rs,r.Ok)(hj:sj j)(hE:Has E [(0,.ptr p 0),(6,.ptr q 0)])
 (h1:∀E' h',(δ.dc (logB base rs).length).1≠0→look E' 2=some .b_→look E' 3=some (.int .i64 (δ.dc (logB base rs).length).1)→Sat h' (aS p (δ.dc (logB base rs).length).2::S)→Q .ret E' h')
 (h2:∀E' h',(δ.dc (logB base rs).length).1=0→look E' 2=some (.ptr q 0)→look E' 3=some (.int .i64 0)→Sat h' (b7 q p (jc base aC rs)::aS p (δ.dc (logB base rs).length).2::S)→Q .ret E' h'):
  WP ⟨Tryz.prog,told⟩ 134 woR E h Q:=by
 have hW:=hT.w
 have D7:=oI.len
 have hlen:δ.log.length=(logB base rs).length+j.length:=by rw[I,bV]
 subst hb
 have JP:δ.log.take (logB base rs).length=logB base rs:=by rw[I,nt rfl]
 generalize ho:δ.dc (logB base rs).length=y at h1 h2
 unfold Dk.dc at ho
 refine WP.has hE (zK 5 rfl (WP.block ?_))
 refine OU (pv:=.ptr p 0) hT D7 xX hj rs 0 [] [] .a_ h _ _ vn (by rw[ey];exact I) rfl (by simp) ((s.ae [0,0]).m6.ae [1,1,0]) ⟨rfl,rfl,rfl,aa⟩ (fun E h sv hE s => ?_)
 rw[nu,gG] at hE
 rw[ey] at s
 refine WP.has hE (zK 6 rfl (zY s 0 ff bE rfl (zo rfl (aN rfl rfl rfl (qx rfl aK)) ?_)))
 have J:(δ.dU (logB base rs).length)=if (logB base rs).length<δ.log.length then δ.rC (logB base rs).length else(0,δ):=rfl
 by_cases cI:(logB base rs).length<δ.log.length
 ·skip
  rw[aP cI] at J
  refine zB rfl bh (by simp;omega) ?_
  refine zk 7 rfl (zc rfl (aax (n:=(logB base rs).length) hW (s.ae [3]) oI) ?_)
  rintro v h ⟨rfl,s⟩
  rw[←J] at s
  rw[←J]
  by_cases h0:(δ.dU (logB base rs).length).1=0
  ·skip
   rw[ak (not_not_intro h0)] at ho
   rw[h0]
   refine zk 5 rfl (zC rfl aE (rfl) ?_)
   have kz:=(iQ (s.buf (k:=2) rfl).view (b:=(logB base rs).length) (by omega)).1
   rw[ac9] at kz
   refine zk 7 rfl (zY s 1 ff bE rfl (zm rfl (zo rfl (cH (p:=none) (q:=some (.int .i64 ((logB base rs).length:Int))) (m:=none) (p':=none) (q':=some (logB base rs).length) (m':=none) rfl rfl rfl rfl rfl (by simp[jb,bndV]) rfl kz) ?_)))
   refine zn rfl (zf rfl (ff _ _) (zS rfl (s.eH (k:=1) rfl gU rfl (by decide) rfl rfl) ?_))
   intro h s
   have s:=(s.ae [2]).gK (R4 (n:=(logB base rs).length) (by omega))
   rw[JP] at s
   exact zv (Es (l:=logB base rs) hW (s.ae [2,0,1,0]) oI.dU.aT ⟨rfl,rfl,aa⟩ ho.symm h1 h2)
  ·skip
   rw[aP h0] at ho
   rw[ho] at h0 s
   rw[ho]
   refine zk 5 rfl (zB rfl aE (by simpa using h0) ?_)
   exact zk 8 rfl (WP.ret (h1 _ _ h0 rfl rfl (((s.del 3).del 2).del 1)))
 ·skip
  rw[ak cI] at J
  rw[J,ak (by simp)] at ho
  refine zC rfl bh (by simp;omega) ?_
  refine zk 3 rfl ?_
  have e:δ.log=logB base rs:=by
   rw[gj (by omega)] at JP
   exact JP
  exact Es (l:=logB base rs) hW (by rw[e] at s;exact s) oI.aT ⟨rfl,rfl,aa⟩ ho.symm h1 h2
def R5 (mark:List Nat)(base aC:Nat): Prop:=(mark=[]∧base=1∧aC=0)∨mark=le 8 base++le 8 aC
theorem UK (hT:WR told)(s:Sat h (aS p δ::S))(oI:δ.Ok)(hd:δ.dead=false)(hm:R5 δ.mark base aC)(I:base+δ.log.length≤1099511627776)(OV:aC<18446744073709551616)
 (J:δ.log=logB base rs++j)(vn:∀r∈rs,r.Ok)(hj:sj j):
  Call ⟨Tryz.prog,told⟩ 80 [.ptr p 0] h fun v h'=>((δ.dc (logB base rs).length).1≠0∧v=.bf [.b_,.int .i64 (δ.dc (logB base rs).length).1]∧Sat h' (aS p (δ.dc (logB base rs).length).2::S)) ∨
   ((δ.dc (logB base rs).length).1=0∧∃q,v=.bf [.ptr q 0,.int .i64 0]∧Sat h' (b7 q p (jc base aC rs)::aS p (δ.dc (logB base rs).length).2::S)):=by
 have hW:=hT.w
 have D7:=oI.len
 have xj:δ.mark.length≤64:=by rcases hm with⟨hm,_⟩|hm<;>rw[hm]<;>simp[dL]
 refine Call.of_wp (hW.free _ rfl) Tryz.func80 rfl rfl (zK 8 rfl (zc rfl (DW hW s xj) ?_))
 rintro v h (⟨L1,_,_⟩|⟨_,b0,rfl,s⟩)
 ·rw[hd] at L1;cases L1
 refine zk 10 rfl (zC rfl aE (rfl) (zk 6 rfl (zo rfl (cT rfl (by rw[VB];rfl)) ?_)))
 refine ax.cm s rfl rfl rfl (fY rfl rfl) (fun p23 h s => ?_)
 dsimp only[V.cells,List.take,List.length_cons,List.length_nil,Nat.reduceAdd,List.drop,List.cons_append,List.nil_append] at s
 refine zk 7 rfl ?_
 have s:=s.ae [2,0,0]
 dsimp only[bringA,getA,aI] at s
 refine zc rfl (OT hW s hd (by omega)) ?_
 rintro v h ⟨lq,rfl,s⟩
 refine zk 4 rfl (zf rfl (ff _ _) (zS rfl (s.eH (k:=2) rfl gU rfl (by decide) rfl rfl) ?_))
 intro h s
 dsimp only[Nat.reduceAdd,List.set,setA] at s
 refine zk 5 rfl (zC rfl aE (rfl) (zk 7 rfl (zo rfl (aN rfl rfl rfl (aW aK (s.aD (k:=3) rfl (bk _ _)))) (zv (WP.block (zg rfl ?_))))))
 rcases hm with⟨hm,rfl,rfl⟩|hm
 ·skip
  refine zB rfl eu (by rw[hm];rfl) ?_
  refine za rfl (zv (zi rfl (WP.skip ?_)))
  exact G8 hT rfl ((s.ae [2,0,0]).del 3) oI I J vn hj ⟨rfl,rfl,aa⟩ (fun E' h' h0 e1 e2 s'=>⟨aa,_,pX e1 e2,.inl ⟨h0,rfl,s'⟩⟩) (fun E' h' h0 e1 e2 s'=>⟨aa,_,pX e1 e2,.inr ⟨h0,_,rfl,s'⟩⟩)
 ·skip
  have h16:δ.mark.length=16:=by rw[hm];simp[dL]
  refine zC rfl eu (by rw[h16];rfl) ?_
  refine zk 5 rfl (zB rfl eu (by rw[h16];rfl) ?_)
  refine zk 3 rfl ?_
  have w1:δ.mark.take 8=le 8 base:=by rw[hm,nt (by rw[dL])]
  have w2:δ.mark.drop 8=le 8 aC:=by rw[hm,wB (by rw[dL])]
  have hbv:=dB (s.buf (k:=3) rfl).view
  have s0:=s
  refine WP.drawn [some (0,3),some (0,4),ah,ah,ah,some (0,2),some (0,2),ah,ah,ah,ah,ah,ah,ah] rfl (by kernel_rfl) (by kernel_rfl) ?_
  refine zM rfl (zM rfl (zM rfl (zO rfl (cH (p:=none) (q:=some (.int .i64 8)) (m:=none) (p':=none) (q':=some 8) (m':=none) rfl rfl rfl rfl rfl rfl rfl (iQ (s.buf (k:=3) rfl).view (b:=8) (by omega)).1) ?_)))
  refine ay.any rfl rfl rfl rfl (OpR.call rfl rfl rfl rfl (qC hW s (k:=3) rfl (yb (bk _ _) (b:=8) (by omega)) (by rw[w1,dL];decide))) ?_
  rintro v h' ⟨rfl,rfl⟩
  rw[w1,sW,rJ (by omega)]
  refine zM rfl (zO rfl (cH (p:=some (.int .i64 8)) (q:=none) (m:=none) (p':=some 8) (q':=none) (m':=none) rfl rfl rfl rfl rfl rfl rfl (fu (s.buf (k:=3) rfl).view (a:=8) (by omega)).1) ?_)
  refine ay.any rfl rfl rfl rfl (OpR.call rfl rfl rfl rfl (qC hW s (k:=3) rfl (rU (bk _ _) (a:=8) (by omega)) (by rw[w2,dL];decide))) ?_
  rintro v h' ⟨rfl,rfl⟩
  rw[w2,sW,rJ (by omega)]
  refine zN rfl (zF rfl (mj _ _) (ay.ij rfl rfl rfl (OpR.eA rfl rfl rfl (s.eH (k:=2) rfl vR rfl (by decide) rfl rfl)) ?_))
  rintro v h ⟨rfl,s⟩
  have s2:=s
  refine zN rfl (zF rfl (L8 _ _) (ay.ij rfl rfl rfl (OpR.eA rfl rfl rfl (s.eH (k:=2) rfl vR rfl (by decide) rfl rfl)) ?_))
  rintro v h ⟨rfl,s⟩
  have GI:=dB (fu (s0.buf (k:=3) rfl).view (a:=8) (by omega)).2.1
  refine ay.nil ⟨⟨fun _ _=>.inr ⟨rfl,⟨_,bK rfl⟩,bH _ rfl⟩,fun _ _=>.inr ⟨rfl,⟨_,bK rfl⟩,bH _ rfl⟩,aa,aa,aa,fun _ _=>.inr ⟨rfl,⟨_,bK rfl⟩,hbv⟩,eE (.inr ⟨rfl,⟨_,cH (p:=some (.int .i64 8)) (q:=none) (m:=none) (p':=some 8) (q':=none) (m':=none) rfl rfl rfl rfl rfl rfl rfl (fu (s0.buf (k:=3) rfl).view (a:=8) (by omega)).1⟩,GI⟩) (.inr ⟨rfl,⟨_,cH (p:=some (.int .i64 8)) (q:=none) (m:=none) (p':=some 8) (q':=none) (m':=none) rfl rfl rfl rfl rfl rfl rfl (fu (s0.buf (k:=3) rfl).view (a:=8) (by omega)).1⟩,GI⟩),aa,aa,aa,aa,aa,aa,aa,aa⟩,?_⟩
  exact G8 hT rfl ((s.ae [2,0,0]).del 3) oI I J vn hj ⟨rfl,rfl,aa⟩ (fun E' h' h0 e1 e2 s'=>⟨aa,_,pX e1 e2,.inl ⟨h0,rfl,s'⟩⟩) (fun E' h' h0 e1 e2 s'=>⟨aa,_,pX e1 e2,.inr ⟨h0,_,rfl,s'⟩⟩)
end
def bornE (n:Int)(c:Nat): cn→Nat
 |[]=>c
 |e::l=>if e.1=n then e.2.2 else bornE n c l
def p_ (n:Int)(z:V)(c:Nat): cn→cn
 |[]=>[(n,z,c)]
 |e::l=>if e.1=n then e::l else e::p_ n z c l
theorem UL {n:Int}: ∀ {l:cn} {b:Nat},b≤c→fy c b l→b≤bornE n c l:=by
 intro l
 induction l with
 |nil=>intro b h _;exact h
 |cons e l J =>
  intro b h I
  simp only[bornE]
  by_cases he:e.1=n
  ·rw[aP he];exact I.1
  ·rw[ak he]
   have:=J (b:=e.2.2+1) I.2.1 I.2.2
   have:=I.1
   omega
theorem X_ {n:Int}: ∀ {l:cn},lookE n l=none→p_ n z c l=l++[(n,z,c)]∧bornE n c l=c:=by
 intro l
 induction l<;>grind[lookE,p_,bornE]
theorem Ya {n:Int}{u:V}: ∀ {l:cn},lookE n l=some u→p_ n z c l=l:=by
 intro l
 induction l<;>grind[lookE,p_]
theorem R6 {n:Int}: ∀ {l:cn} {i j:Nat} {u:V},idxE n l i=some (j,u)→i≤j∧nth (l.map eR) (j-i)=some (.int .i64 n,u,bornE n c l):=by
 intro l
 induction l<;>grind[idxE,bornE,eR,ir]
theorem Yb {n:Int}{v:V}: ∀ {l:cn} {b i:Nat},b≤c→fy c b l→∃j,findBorn ((p_ n z c l).map eR) (bornE n c l:Int) i=some (i+j)∧setNth ((p_ n z c l).map eR) j (fun e=>(e.1,v,e.2.2))=(kf n v c l).map eR:=by
 intro l
 induction l with
 |nil =>
  intro b i h _
  refine⟨0,?_,rfl⟩<;>grind[p_,bornE,eR,findBorn,lF]
 |cons e l J =>
  intro b i h I
  by_cases he:e.1=n
  ·refine⟨0,?_,?_⟩
   ·grind[p_,bornE,eR,findBorn,lF]
   ·simp only[p_,kf,aP he,iE]
    rfl
  ·obtain⟨j,g1,g2⟩:=J (b:=e.2.2+1) (i:=i+1) I.2.1 I.2.2
   have Y2:=UL (n:=n) (b:=e.2.2+1) I.2.1 I.2.2
   refine⟨j+1,?_,?_⟩
   ·grind[p_,bornE,findBorn,eR,mS]
   grind[p_,kf,setNth,Nat.beq]
section
variable {v:V} {kt et:TypeId} {k:IntKind} {j:Nat} {l:cn} {n:Int}
theorem R7 : ∀ {S:List aL} {j:Nat} {A:aL},getA S j=some A→setA S j A=S:=by
 intro S
 induction S with
 |nil=>intro j A h;cases h
 |cons B S I =>
  intro j A h
  cases j<;>grind[getA,setA]
theorem Sat.entry (s:Sat h S)(hj:getA S j=some (gB id l c))(hu:P.underlying t=some (.map kt et))(hk:P.underlying kt=some (.int k))(hz:zeroT P et=some z):
  ∃w h',mapEntryV P h t (.map id) (.int .i64 n)=some (.bf [w,.int .i64 (bornE n c l:Int)],h')∧Sat h' (setA S j (gB id (p_ n z c l) (clkE n c l))):=by
 have hg:=s.row hj
 simp only[mapEntryV,hu,hk,hz,hg,keyBeq,dx,aj,rV]
 have I:=qy (n:=n) l 0
 cases J:idxE n l 0 with
 |none =>
  rw[J] at I
  have I:lookE n l=none:=I.symm
  refine⟨z,h.put id (some (.map ((p_ n z c l).map eR) (clkE n c l))),?_,s.put hj⟩<;>grind[eR,clkE,X_]
 |some q =>
  obtain⟨i,u⟩:=q
  rw[J] at I
  have I:lookE n l=some u:=I.symm
  have hb:=(R6 (c:=c) J).2
  rw[l7] at hb
  refine⟨u,h,?_,?_⟩
  ·grind
  ·grind[Ya,clkE,R7]
theorem Sat.entryStore (s:Sat h S)(I:getA S j=some (gB id (p_ n z c l) (clkE n c l)))(J:fy c 0 l):
  ∃h',entryStoreV h (.map id) (.int .i64 (bornE n c l:Int)) v=some h'∧Sat h' (setA S j (gB id (kf n v c l) (clkE n c l))):=by
 have hg:=s.row I
 obtain⟨i,g1,g2⟩:=Yb (n:=n) (z:=z) (v:=v) (i:=0) (fe c) J
 refine⟨h.put id (some (.map ((kf n v c l).map eR) (clkE n c l))),?_,s.put I⟩<;>grind[entryStoreV]
end
theorem OpR.mapEntry {x:Operand}{a b v:V}{h₁:H}(I:o.op=.mapEntry t x y)(J:bA E x=some a)(hy:bA E y=some b)
 (ho:mapEntryV C.P h t a b=some (v,h₁)): OpR C E h o fun w h'=>w=v∧h'=h₁ :=
 ⟨v,h₁,⟨rfl,rfl⟩,fun env hE=>⟨0,by grind[evOp,bU]⟩⟩
theorem OpR.entryStore {x z:Operand}{a b v:V}{S':List aL}(I:o.op=.entryStore t x y z)(hx:bA E x=some a)(hy:bA E y=some b)(hz:bA E z=some v)
 (ho:∃h₁,entryStoreV h a b v=some h₁∧Sat h₁ S'): OpR C E h o fun _ h₁=>Sat h₁ S':=by
 obtain⟨h₁,e1,J⟩:=ho
 exact⟨ct,h₁,J,fun env hE=>⟨0,by grind[evOp,bU,tJ]⟩⟩
abbrev Kj := List (Int×List Nat)
def bufsA : cn→Kj→aL
 |[],[]=>.pu True
 |e::l,x::m=>star [.pu (e.1=x.1),aQ e.2.1 x.2,bufsA l m]
 |_,_=>.pu False
def rD (n:Int): cn→Kj→aL
 |[],[]=>.pu True
 |e::l,x::m=>if e.1=n then star [.pu (e.1=x.1),bufsA l m] else star [.pu (e.1=x.1),aQ e.2.1 x.2,rD n l m]
 |_,_=>.pu False
section
variable {n:Int} {u:V} {x:List Nat}
theorem R8 : ∀ {l:cn} {m:Kj} {S:List aL},lookE n l=none→Sat h (bufsA l m::S)→lookL n m=none∧Sat h (rD n l m::S):=by
 intro l
 induction l with
 |nil=>intro m S _ s;cases m with
  |nil=>exact⟨rfl,s⟩
  |cons x m=>exact(eS.1 s).1.elim
 |cons e l J=>intro m S I s;cases m with
  |nil=>exact(eS.1 s).1.elim
  |cons x m =>
   obtain⟨hk,s⟩:=eS.1 (bn.1 s)
   simp only[lookE] at I
   by_cases he:e.1=n
   ·grind
   ·rw[ak he] at I
    obtain⟨g1,g2⟩:=J (S:=aQ e.2.1 x.2::S) I (s.ae [1])
    refine⟨?_,?_⟩
    ·grind[lookL]
    ·simp only[rD,ak he]
     exact bn.2 (eS.2 ⟨hk,g2.ae [1]⟩)
theorem R9 : ∀ {l:cn} {m:Kj} {S:List aL},lookE n l=some u→Sat h (bufsA l m::S)→∃x,lookL n m=some x∧Sat h (aQ u x::rD n l m::S):=by
 intro l
 induction l with
 |nil=>intro m S I s;cases I
 |cons e l ih=>intro m S I s;cases m with
  |nil=>exact(eS.1 s).1.elim
  |cons x m =>
   obtain⟨J,s⟩:=eS.1 (bn.1 s)
   simp only[lookE] at I
   by_cases he:e.1=n
   ·rw[aP he] at I
    injection I with I
    subst I
    refine⟨x.2,by grind[lookL],?_⟩
    simp only[rD,aP he]
    have s2:Sat h (star [.pu (e.1=x.1),bufsA l m]::aQ e.2.1 x.2::S):=bn.2 (eS.2 ⟨J,s.ae [1]⟩)
    exact s2.ae [1]
   ·rw[ak he] at I
    obtain⟨y,g1,g2⟩:=ih (S:=aQ e.2.1 x.2::S) I (s.ae [1])
    refine⟨y,by grind[lookL],?_⟩
    simp only[rD,ak he]
    have s2:Sat h (star [.pu (e.1=x.1),aQ e.2.1 x.2,rD n l m]::aQ u y::S):=bn.2 (eS.2 ⟨J,g2.ae [2,1]⟩)
    exact s2.ae [1]
theorem UM : ∀ {l:cn} {m:Kj} {S:List aL},Sat h (aQ u x::rD n l m::S)→Sat h (bufsA (kf n u c l) (cD n x m)::S):=by
 intro l
 induction l with
 |nil=>intro m S s;cases m with
  |nil=>exact bn.2 (eS.2 ⟨rfl,s⟩)
  |cons y m=>exact(eS.1 s.drop).1.elim
 |cons e l J=>intro m S s;cases m with
  |nil=>exact(eS.1 s.drop).1.elim
  |cons y m =>
   by_cases he:e.1=n
   ·simp only[rD,aP he] at s
    obtain⟨I,s⟩:=eS.1 (bn.1 (s.ae [1]))
    simp only[kf,cD,←I,aP he]
    exact bn.2 (eS.2 ⟨he,(s.ae [1,0])⟩)
   ·simp only[rD,ak he] at s
    obtain⟨I,s⟩:=eS.1 (bn.1 (s.ae [1]))
    simp only[kf,cD,←I,ak he]
    have s2:=J (S:=aQ e.2.1 y.2::S) (s.ae [2,1])
    exact bn.2 (eS.2 ⟨I,s2.ae [1]⟩)
theorem Lt : ∀ {l:cn} {m:Kj} {S:List aL},Sat h (bufsA l m::S)→Sat h (eV (fun v b=>.bY v b) l m::S):=by
 intro l
 induction l with
 |nil=>intro m S s;cases m with
  |nil=>exact s
  |cons x m=>exact(eS.1 s).1.elim
 |cons e l I=>intro m S s;cases m with
  |nil=>exact(eS.1 s).1.elim
  |cons x m =>
   obtain⟨J,s⟩:=eS.1 (bn.1 s)
   have s2:=I (S:=B4 e.2.1 x.2::S) (s.ga.ae [1])
   have s3:=(s2.ae [1]).two (C:=eV (fun v b=>.bY v b) (e::l) (x::m)) (aV.bY _ _) (aV.IN (fun _ _=>aV.bY _ _) _ _) fun a b h1 h2=>⟨⟨J,h1⟩,h2⟩
   exact s3
end
structure i_ where
 aq:Kj
 oW:List (Int×Nat)
variable {ρ:i_}
def chgF (n:Nat)(c:cq)(ρ:i_): i_ :=
 if c.whole=true then { aq:=cD c.aM c.b ρ.aq,oW:=cD c.aM n ρ.oW } else
 match lookL c.aM ρ.aq with
 |none=>ρ
 |some b=>{ aq:=cD c.aM (bu b c.pos.toNat c.b) ρ.aq,oW:=cD c.aM n ρ.oW }
abbrev CU (v:V)(n:Nat): aL:=.pu (v=.int .u64 (n:Int))
def yJ (x:Nat)(ρ:i_): aL:=xs fun i:Nat=>xs fun l:cn=>xs fun k:Nat=>xs fun j:Nat=>xs fun m:cn=>xs fun g:Nat =>
 star [.pu (fy k 0 l∧(ρ.aq.map (·.1)).Nodup∧fy g 0 m∧(ρ.oW.map (·.1)).Nodup),pt x (.cells 2 [.map i,.map j] false),gB i l k,bufsA l ρ.aq,gB j m g,eV CU m ρ.oW]
theorem Ci (l:List Nat): bu l 0 l=l:=by simp[bu]
section
variable {told:cR} {u v:V} {x:Nat} {c:cq}
theorem ve : Sat h (yJ x ρ::S)↔∃i l k j m g,(fy k 0 l∧(ρ.aq.map (·.1)).Nodup∧fy g 0 m∧(ρ.oW.map (·.1)).Nodup) ∧
  Sat h (pt x (.cells 2 [.map i,.map j] false)::gB i l k::bufsA l ρ.aq::gB j m g::eV CU m ρ.oW::S):=by
 simp only[yJ,g_,bn,jy,ey,eS]
noncomputable def chR : Code:=cN [1,1,1] ((Tryz.f137.body).getD .skip)
theorem yK (hT:W told){j g p5:Nat}{l m:cn}(hb:b.length=512)(hc:c.Ok)(J:fy k 0 l)(h2:(ρ.aq.map (·.1)).Nodup)(h3:fy g 0 m)(h4:(ρ.oW.map (·.1)).Nodup)
 (s:Sat h (aQ v b::.bY u c.b::pt x (.cells 2 [.map i,.map j] false)::gB i l k::rD c.aM l ρ.aq::gB j m g::eV CU m ρ.oW::pt p5 (.cells 4 [.int .i64 c.aM,.int .i64 c.pos,.bool c.whole,u] false)::S))(hE:Has E [(0,.ptr x 0),(1,.int .u64 (n:Int)),(5,.ptr p5 0),(6,v)])
 (hq:∀E' h',Sat h' (yJ x { aq:=cD c.aM (bu b c.pos.toNat c.b) ρ.aq,oW:=cD c.aM n ρ.oW }::.bY u c.b::S)→Q .normal E' h'): WP ⟨Tryz.prog,told⟩ 52 chR E h Q:=by
 obtain⟨c1,c2,c3,c4,c5,c6⟩:=hc
 obtain⟨a,ha⟩:∃a:Nat,c.pos=a:=⟨c.pos.toNat,by omega⟩
 refine WP.has hE (zw ?_)
 have s0:=s
 have I:=dB (s.buf (k:=0) rfl).view
 have B7:=dB (s.aD (k:=1) rfl (c8 _ _))
 rw[ha] at s
 have sl:=(fu (s.buf (k:=0) rfl).view (a:=a) (by omega)).1
 refine WP.drawn [ah,ah,ah,ah,ah,ah,ah] rfl (by kernel_rfl) (by kernel_rfl) ?_
 refine zM rfl (zF rfl (qt _ _) (zL rfl (s.ld (k:=7) rfl dN rfl) (zO rfl (cH (p:=some (.int .i64 (a:Int))) (q:=none) (m:=none) (p':=some a) (q':=none) (m':=none) rfl rfl rfl rfl (by simp[jb,bndV]) rfl rfl sl) ?_)))
 refine zF rfl (nD _ _) (zL rfl (s.ld (k:=7) rfl bE rfl) (ay.any rfl rfl rfl rfl (OpR.R3 rfl s (c8 _ _) (by omega) (by omega) rfl rfl rfl rfl rfl) ?_))
 intro r h s
 refine ay.nil ⟨⟨aa,aa,aa,aa,aa,aa,aa,aa⟩,?_⟩
 have s0:=s
 refine WP.drawn [ah,ah,ah,ah,ah,ah,ah,ah,ah,ah,some (0,3),some (0,3),some (0,2),some (0,4),ah,ah,ah,ah,ah,ah] rfl (by kernel_rfl) (by kernel_rfl) ?_
 refine zM rfl (zN rfl (zF rfl (qv _ _) (zL rfl (s.ld (k:=2) rfl jT rfl) (zF rfl (oF _ _) (zL rfl (s.ld (k:=7) rfl dN rfl) (zM rfl (zN rfl (zF rfl (L_ _ _) (zL rfl (s.ld (k:=2) rfl VE rfl) (zF rfl (oF _ _) (zL rfl (s.ld (k:=7) rfl dN rfl) (zM rfl (zM rfl ?_)))))))))))))
 obtain⟨w1,hh1,e1,s1⟩:=s.entry (j:=3) (n:=c.aM) rfl k_ bT oT
 refine ay.any rfl rfl rfl rfl (OpR.mapEntry rfl rfl rfl e1) ?_
 rintro r1 j7 ⟨rfl,rfl⟩
 refine zO rfl (cS rfl rfl) (ay.ij rfl rfl rfl (OpR.entryStore rfl rfl rfl rfl (s1.entryStore (j:=3) (v:=v) rfl J)) ?_)
 intro r2 VR s2
 obtain⟨w3,hh3,e3,s3⟩:=s2.entry (j:=5) (n:=c.aM) rfl Tryz.underlying208 bT ZC
 refine ay.any rfl rfl rfl rfl (OpR.mapEntry rfl rfl rfl e3) ?_
 rintro r3 hr3 ⟨rfl,rfl⟩
 refine zO rfl (cS rfl rfl) (ay.ij rfl rfl rfl (OpR.entryStore rfl rfl rfl rfl (s3.entryStore (j:=5) (v:=.int .u64 (n:Int)) rfl h3)) ?_)
 intro r4 hh4 s
 refine ay.nil ⟨⟨aa,aa,aa,aa,aa,aa,aa,aa,aa,aa,fun _ _=>.inr ⟨rfl,⟨_,lE rfl (oF _ _)⟩,bH _ rfl⟩,qU (.inr ⟨rfl,⟨_,aZ rfl (s0.ld (k:=7) rfl dN rfl)⟩,bH _ rfl⟩) (.inr ⟨rfl,⟨_,aZ rfl (s1.ld (k:=7) rfl dN rfl)⟩,bH _ rfl⟩) (.inr ⟨rfl,⟨_,aZ rfl (s2.ld (k:=7) rfl dN rfl)⟩,bH _ rfl⟩),fun _ _=>.inr ⟨rfl,⟨_,bK rfl⟩,I⟩,fun _ _=>.inr ⟨rfl,⟨_,bK rfl⟩,bH _ rfl⟩,aa,aa,aa,aa,aa,aa,aa⟩,?_⟩
 have s:=UM (c:=k) (s.ae [0,3])
 have s:=(s.ae [5]).gK (B:=eV CU (kf c.aM (.int .u64 (n:Int)) g m) (cD c.aM n ρ.oW)) fun a b h=>Gv (f:=CU) (x:=n) (show V.int .u64 (n:Int)=_ from rfl) h
 refine hq _ _ ?_
 have e:c.pos.toNat=a:=by omega
 rw[e]
 have s:=s.del 6
 exact(ve.2 ⟨i,_,_,j,_,_,⟨Ar rfl (fe _) J,jh h2,Ar rfl (fe _) h3,jh h4⟩,s.ae [3,3,1,2,0]⟩)
theorem R_ (J:W told)(hρ:∀e∈ρ.aq,e.2.length=512)(hc:c.Ok)(s:Sat h (yJ x ρ::.bY u c.b::S)):
  Call ⟨Tryz.prog,told⟩ 137 [.ptr x 0,.int .u64 (n:Int),.agg [.int .i64 c.aM,.int .i64 c.pos,.bool c.whole,u]] h fun v h'=>v=.bf []∧Sat h' (yJ x (chgF n c ρ)::.bY u c.b::S):=by
 obtain⟨i,l,k,j,m,g,⟨h1,h2,h3,h4⟩,s⟩:=ve.1 s
 have hu:=(s.aD (k:=5) rfl (c8 _ _)).cells
 have B7:=dB (s.aD (k:=5) rfl (c8 _ _))
 refine Call.of_wp (J.free _ rfl) Tryz.func137 rfl rfl (zg rfl (ax.cm s rfl rfl rfl (fY rfl (by simp only[V.cells,iT,iU,hu.2];rfl)) ?_))
 intro p5 h s
 dsimp only[V.cells] at s
 dsimp only[List.length_cons,List.length_nil,Nat.reduceAdd] at s
 refine zk 2 rfl ?_
 have e2:=s.VK (n:=c.aM) (j:=2) rfl k_ bT oT
 have I:c.whole=true→c.pos=0∧c.b.length=512:=hc.2.2.2.2.2
 have je:c.b.length≤512:=by have:=hc.2.2.1;have:=hc.2.2.2.2.1;omega
 have s0:=s
 rcases hle:lookE c.aM l with _|u0
 ·skip
  rw[hle] at e2
  obtain⟨RV,s⟩:=R8 hle (s.ae [3])
  have hX:=s
  have s:=s0
  refine WP.drawn [ah,ah,ah,ah,ah,ah,ah,ah,ah,ah,ah,ah] rfl (by kernel_rfl) (by kernel_rfl) ?_
  refine zM rfl (zN rfl (zF rfl (qv _ _) (zL rfl (s.ld (k:=1) rfl jT rfl) (zF rfl (oF _ _) (zL rfl (s.ld (k:=0) rfl dN rfl) (zO rfl (iL rfl rfl e2) (zM rfl (zO rfl (cS rfl rfl) (zO rfl (cS rfl rfl) (zA rfl (zA rfl ?_)))))))))))
  refine ay.nil ⟨⟨aa,aa,aa,aa,aa,aa,aa,aa,aa,aa,aa,aa,aa⟩,?_⟩
  refine zw (WP.block (zg rfl (zf rfl (w9 _ _) ?_)))
  by_cases hw:c.whole=true
  ·skip
   refine zt rfl (aZ rfl (s.ld (k:=0) rfl kZ rfl)) (hw) (zk 4 rfl (zY s 0 nD bE rfl (zc rfl (mT J (hX.ae [6]) (c8 _ _) (by omega)) ?_)))
   intro v h s
   dsimp only[aI,bringA] at s
   refine za rfl (zv ?_)
   refine yK (n:=n) J (I hw).2 hc h1 h2 h3 h4 (s.ae [0,0,2,2,0,1,1,0]) ⟨rfl,rfl,rfl,rfl,aa⟩ (fun E' h' s' => ?_)
   have e:bu c.b c.pos.toNat c.b=c.b:=by rw[(I hw).1];exact Ci _
   rw[e] at s'
   refine⟨aa,_,rfl,rfl,?_⟩
   rw[chgF,aP hw]
   exact s'
  ·skip
   refine zh rfl (aZ rfl (s.ld (k:=0) rfl kZ rfl)) (by simpa using hw) ?_
   refine zk 6 rfl (zo rfl (er rfl rfl) (zk 3 rfl (WP.ret ⟨aa,_,rfl,?_⟩)))
   have e:chgF n c ρ=ρ:=by rw[chgF,ak hw,RV]
   rw[e]
   exact⟨rfl,(ve.2 ⟨i,l,k,j,m,g,⟨h1,h2,h3,h4⟩,s.drop⟩)⟩
 ·skip
  rw[hle] at e2
  obtain⟨y,RV,s⟩:=R9 hle (s.ae [3])
  have hX:=s
  have s:=s0
  have aeC:=dB (hX.buf (k:=0) rfl).view
  have hy:y.length=512:=hρ _ (fJ RV)
  refine WP.drawn [ah,ah,ah,ah,ah,ah,ah,ah,ah,ah,ah,ah] rfl (by kernel_rfl) (by kernel_rfl) ?_
  refine zM rfl (zN rfl (zF rfl (qv _ _) (zL rfl (s.ld (k:=1) rfl jT rfl) (zF rfl (oF _ _) (zL rfl (s.ld (k:=0) rfl dN rfl) (zO rfl (iL rfl rfl e2) (zM rfl (zO rfl (cS rfl rfl) (zO rfl (cS rfl rfl) (zA rfl (zA rfl ?_)))))))))))
  refine ay.nil ⟨⟨aa,aa,aa,aa,aa,aa,aa,aa,aa,aa,aa,aa,aa⟩,?_⟩
  refine zw (WP.block (zg rfl (zf rfl (w9 _ _) ?_)))
  by_cases hw:c.whole=true
  ·skip
   refine zt rfl (aZ rfl (s.ld (k:=0) rfl kZ rfl)) (hw) (zk 4 rfl (zY s 0 nD bE rfl (zc rfl (mT J ((hX.drop).ae [6]) (c8 _ _) (by omega)) ?_)))
   intro v h s
   dsimp only[aI,bringA] at s
   refine za rfl (zv ?_)
   refine yK (n:=n) J (I hw).2 hc h1 h2 h3 h4 (s.ae [0,0,2,2,0,1,1,0]) ⟨rfl,rfl,rfl,rfl,aa⟩ (fun E' h' s' => ?_)
   have e:bu c.b c.pos.toNat c.b=c.b:=by rw[(I hw).1];exact Ci _
   rw[e] at s'
   refine⟨aa,_,rfl,rfl,?_⟩
   rw[chgF,aP hw]
   exact s'
  ·skip
   refine zh rfl (aZ rfl (s.ld (k:=0) rfl kZ rfl)) (by simpa using hw) ?_
   refine za rfl (zv (zj rfl (zg rfl (zm rfl (zo rfl (er rfl rfl) (za rfl (zv (zj rfl (WP.skip ?_)))))))))
   refine yK (n:=n) J hy hc h1 h2 h3 h4 (hX.ae [0,6,2,2,0,1,1,0]) ⟨rfl,rfl,rfl,rfl,aa⟩ (fun E' h' s' => ?_)
   refine⟨aa,_,rfl,rfl,?_⟩
   rw[chgF,ak hw,RV]
   exact s'
end
def szB : List cz→Nat
 |[]=>0
 |r::l=>r.len+szB l
theorem fW : ∀ {rs:List cz} {n:Nat},(logB n rs).length=szB rs:=by
 intro rs
 induction rs with
 |nil=>intro n;rfl
 |cons r rs I=>intro n;simp only[logB,szB,bV,s_,I];rfl
theorem qJ {x y:List cz}: szB (x++y)=szB x+szB y:=by
 induction x with
 |nil=>simp[szB]
 |cons r x I=>simp only[jy,szB,I];omega
theorem yL {y:List cz}: ∀ {x:List cz} {n:Nat},logB n (x++y)=logB n x++logB (n+szB x) y:=by
 intro x
 induction x with
 |nil=>intro n;simp[logB,szB]
 |cons r x I=>intro n;simp only[jy,logB,szB,I,cP,ox]
theorem Kk {y:List cz}: ∀ {x:List cz} {a:Nat},lN a (x++y)=lN a x++lN (a+szB x) y:=by
 intro x
 induction x with
 |nil=>intro a;simp[lN,szB]
 |cons r x I=>intro a;simp only[jy,lN,szB,I,ox]
theorem G9 : ∀ {rs:List cz} {a:Nat},(lN a rs).Pairwise (· < ·)∧∀s∈lN a rs,a≤s∧s<a+szB rs:=by
 intro rs
 induction rs with
 |nil=>intro a;exact⟨List.Pairwise.nil,by simp[lN]⟩
 |cons r rs J =>
  intro a
  obtain⟨h1,I⟩:=J (a:=a+r.len)
  have h8:8≤r.len:=by rw[cz.len];omega
  simp only[lN,szB,ua,kP]
  refine⟨⟨fun s hs=>by have:=I s hs;omega,h1⟩,?_⟩
  rintro s (rfl|hs)
  ·omega
  ·have:=I s hs;omega
theorem UN : ∀ {rs:List cz} {a:Nat},(lN a rs).length=rs.length:=by
 intro rs
 induction rs with
 |nil=>intro a;rfl
 |cons r rs I=>intro a;simp only[lN,bF,I]
theorem abL : ∀ {rs:List cz},rs.length*8≤szB rs:=by
 intro rs
 induction rs with
 |nil=>simp
 |cons r rs I=>have:8≤r.len:=(by rw[cz.len];omega);simp only[szB,bF];omega
theorem MV {base:Nat}(I:base+szB rs≤1099511627776)(J:szB rs≤16777216)(h3:aC≤1099511627776): (jc base aC rs).Ok:=by
 have h4:=abL (rs:=rs)
 refine⟨?_,?_,?_,(G9 (a:=0)).1,?_,?_,h3⟩
 ·show base+(logB base rs).length≤_;rw[fW];exact I
 ·show(lN 0 rs).length≤_;rw[UN];omega
 ·intro s hs
  have:=(G9 (a:=0) (rs:=rs)).2 s hs
  show s<(logB base rs).length
  rw[fW];omega
 ·exact aU _
 ·show(logB base rs).length≤_;rw[fW];exact J
theorem UO {base:Nat}: (jc base aC (dP++r::fK)).hasB (base+szB dP)=true:=by
 rw[Lg.hasB,List.any_eq_true]
 refine⟨szB dP,?_,by simp[jc]⟩
 show szB dP∈lN 0 (dP++r::fK)
 rw[Kk,gG]
 exact List.mem_append.2 (.inr bZ)
def Et (n:Nat)(aR:List cq)(ρ:i_): i_:=aR.foldl (fun ρ c=>chgF n c ρ) ρ
def redoL : Nat→List cz→i_→i_
 |_,[],ρ=>ρ
 |n,r::l,ρ=>redoL (n+r.len) l (Et n r.aR ρ)
theorem G_ {n:Int}{a:α}: ∀ {l:List (Int×α)} {e:Int×α},e∈cD n a l→e=(n,a)∨e∈l:=Ed
structure i_.Ok (ρ:i_): Prop where
 len:∀e∈ρ.aq,e.2.length=512
 low:∀k∈ρ.aq.map (·.1),(0:Int)≤k∧k<65536
 dup:(ρ.aq.map (·.1)).Nodup
theorem MW {c:cq}(h:ρ.Ok)(I:c.Ok): (chgF n c ρ).Ok:=by
 have hcw:c.whole=true→c.pos=0∧c.b.length=512:=I.2.2.2.2.2
 have key:∀b:List Nat,b.length=512→∀L,(i_.mk (cD c.aM b ρ.aq) L).Ok:=fun b hb L=>by
  refine⟨fun e he => ?_,fun k hk => ?_,jh h.dup⟩
  ·rcases G_ he with rfl|he
   ·exact hb
   ·exact h.len e he
  ·rcases pR.1 hk with rfl|hk
   ·exact⟨I.1,I.2.1⟩
   ·exact h.low k hk
 unfold chgF
 split
 ·rename_i hw
  exact key _ (hcw hw).2 _
 ·split
  ·exact h
  ·rename_i b hb
   have J:=h.len _ (fJ hb)
   simp only at J
   have:=I.2.2.1
   have:=I.2.2.2.2.1
   refine key _ ?_ _
   rw[c9 (by omega),J]
theorem Kl : ∀ {aR:List cq} {ρ:i_},ρ.Ok→(∀c∈aR,c.Ok)→(Et n aR ρ).Ok:=by
 intro aR
 induction aR with
 |nil=>intro ρ h _;exact h
 |cons c aR J=>intro ρ h I;exact J (MW h (I c bZ)) (fun x hx=>I x (b8 _ hx))
theorem cz.Ok.aR (h:r.Ok): ∀c∈r.aR,c.Ok:=by
 have:=h.good
 simp only[ej,bQ,ud,gE] at this
 exact this.2
theorem CV : ∀ {rs:List cz} {n:Nat} {ρ:i_},ρ.Ok→(∀r∈rs,r.Ok)→(redoL n rs ρ).Ok:=by
 intro rs
 induction rs with
 |nil=>intro n ρ h _;exact h
 |cons r rs J=>intro n ρ h I;exact J (Kl h (I r bZ).aR) (fun x hx=>I x (b8 _ hx))
def oM (ρ:i_)(k:Int): Nat:=(lookL k ρ.oW).getD 0
def againW (ρ:i_): List Int→Dk→Int×Dk
 |[],δ=>(0,δ)
 |k::l,δ =>
  match lookL k ρ.aq with
  |some b=>if bW b=true∧k<δ.aq.length then(if (δ.bz k (cW b (oM ρ k))).1≠0 then δ.bz k (cW b (oM ρ k)) else againW ρ l (δ.bz k (cW b (oM ρ k))).2) else againW ρ l δ
  |none=>againW ρ l δ
def mE (ρ:i_)(δ:Dk): Int×Dk :=
 if (againW ρ (aF ρ.aq) δ).1≠0 then againW ρ (aF ρ.aq) δ else if ρ.aq=[] then(0,(againW ρ (aF ρ.aq) δ).2) else(againW ρ (aF ρ.aq) δ).2.dQ
section
variable {told:cR} {ch fv v op dv:V} {cs:List V} {p r x base:Nat}
noncomputable def agI : Code:=cN [1,1,1,0,1,0,0,0,1,1,0,1,0,0] ((Tryz.f87.body).getD .skip)
theorem Sa (hT:W told){aR:List cq}(ql:∀c∈aR,c.Ok){av nv:V}: ∀(j i:Nat) (ρ:i_) (h:H) (E:List (Nat×V)) (Q:Ex→List (Nat×V)→H→Prop),i+j=aR.length→aR.length<4294967296→ρ.Ok →
  Sat h (yJ x ρ::.arr 4 ch cs::dm cs aR::S) →
  Has E [(0,av),(5,.ptr x 0),(6,.fn (.func 137) [.ptr x 0] []),(7,.int .u64 (n:Int)),(9,nv),(38,ch),(39,.int .i64 aR.length),(40,.int .i64 i)] →
  (∀E' h',Has E' [(0,av),(5,.ptr x 0),(6,.fn (.func 137) [.ptr x 0] []),(9,nv)]→Sat h' (yJ x (Et n (aR.drop i) ρ)::.arr 4 ch cs::dm cs aR::S)→Q (.exit 2) E' h') →
  WP ⟨Tryz.prog,told⟩ 110 (.loop agI) E h Q:=by
 intro j
 induction j with
 |zero =>
  intro i ρ h E Q hi hl I s hE hq
  refine WP.loop (WP.has hE (zg rfl (zC rfl bh (by simp;omega) ?_)))
  exact zk 3 rfl (WP.exit (hq _ _ ⟨rfl,rfl,rfl,rfl,aa⟩ (by rw[A3 (by omega)];exact s)))
 |succ j ih =>
  intro i ρ h E Q hi hl I s hE hq
  have hc:aR[i]?=some (aR[i]'(by omega)):=bx _
  generalize (aR[i]'(by omega))=c at hc
  have GC:=ql c (bD hc)
  have J:aR.drop i=c::aR.drop (i+1):=by
   obtain⟨h1,rfl⟩:=List.getElem?_eq_some_iff.1 hc
   exact qa h1
  obtain⟨id,off,u,e1,e2,u1,u2,u3,s⟩:=I4 (s.ae [1,1]) hc
  dsimp only[aI,bringA] at s
  refine WP.loop (WP.has hE (zg rfl (zB rfl bh (by simp;omega) ?_)))
  refine zk 5 rfl (WP.block (zg rfl (zo rfl (cK (r:=.ptr id off) rfl rfl e1) (zl rfl e2 ?_))))
  refine ax.cm s rfl rfl rfl (b6 oE) (fun uY h s => ?_)
  dsimp only[V.cells,List.length_cons,List.length_nil,Nat.reduceAdd] at s
  refine zS rfl (s.fS (j:=0) rfl pK rfl (by simp only[iT,iU,u2];rfl)) ?_
  rintro h s
  dsimp only[setA] at s
  refine zk 4 rfl (zl rfl (s.dn (k:=0) rfl HP pK) (zc rfl (R_ (n:=n) hT I.len GC (s.ae [4,1])) ?_))
  rintro v h ⟨rfl,s⟩
  dsimp only[aI,bringA] at s
  refine zv (zr rfl (zb rfl (by exact bC (aB (by omega) (by omega))) ?_))
  refine zm rfl (zv ?_)
  have s:=(s.ae [0,2,2]).del 3
  have s:=s.del 3
  refine ih (i+1) (chgF n c ρ) _ _ Q (by omega) hl (MW I GC) s ⟨rfl,rfl,rfl,rfl,rfl,rfl,rfl,rfl,aa⟩ (fun E' h' jx s'=>hq E' h' jx ?_)
  rw[J]
  exact s'
theorem Km (hT:WR told){r:cz}(J:(jc base aC (dP++r::fK)).Ok)(I:r.Ok)(s:Sat h (b7 q p (jc base aC (dP++r::fK))::S)):
  Call ⟨Tryz.prog,told⟩ 84 [.ptr q 0,.int .u64 ((base+szB dP:Nat):Int)] h fun v h'=>∃dt ch cs,v=.bf [.agg (iw r.kd r.tx r.pv r.nx dt ch),.int .u64 ((base+szB dP+r.len:Nat):Int),.int .i64 0] ∧
   Sat h' (b7 q p (jc base aC (dP++r::fK))::aQ dt r.data::.arr 4 ch cs::dm cs r.aR::S):=by
 refine(R2 (n:=base+szB dP) (a:=szB dP) (pre:=logB base dP) (rest:=logB (base+szB dP+r.len) fK) hT I.good I.kd I.rd rfl I.len fW ?_ rfl UO J s).mono fun v h' hx => ?_
 ·show logB base (dP++r::fK)=_
  rw[yL,logB]
  rfl
 ·have e:base+szB dP+r.len=base+szB dP+8+(dD r.kd r.tx r.pv r.nx r.data r.aR).length:=by rw[cz.len,cz.bd];omega
  rw[e]
  exact hx
noncomputable def agO : Code:=cN [1,1,1,0,1,0,0] ((Tryz.f87.body).getD .skip)
theorem OW (hT:WR told)(vn:∀r∈rs,r.Ok)(I:(jc base aC rs).Ok): ∀(fK dP:List cz) (ρ:i_) (h:H) (E:List (Nat×V)) (Q:Ex→List (Nat×V)→H→Prop),rs=dP++fK→ρ.Ok →
  Sat h (yJ x ρ::pt a (.cells 6 (sS a p q r op dv wv) false)::b7 q p (jc base aC rs)::S) →
  Has E [(0,.ptr a 0),(5,.ptr x 0),(6,.fn (.func 137) [.ptr x 0] []),(7,.int .u64 ((base+szB dP:Nat):Int))] →
  (∀E' h',Has E' [(0,.ptr a 0),(5,.ptr x 0)]→Sat h' (yJ x (redoL (base+szB dP) fK ρ)::pt a (.cells 6 (sS a p q r op dv wv) false)::b7 q p (jc base aC rs)::S)→Q (.exit 0) E' h') →
  WP ⟨Tryz.prog,told⟩ 110 (.loop agO) E h Q:=by
 have hW:=hT.w
 intro fK
 induction fK with
 |nil =>
  intro dP ρ h E Q he J s hE hq
  refine WP.loop (WP.has hE ?_)
  have s:=s.ae [1,1,0]
  dsimp only[sS,bringA,getA,aI] at s
  have fC:=I.size
  have hn:base+szB dP=(jc base aC rs).base+(jc base aC rs).b.length:=by
   show _=base+(logB base rs).length
   rw[fW,he,dS]
  refine WP.block (zK 4 rfl (zY s 0 uu Cy rfl (zm rfl (zc rfl (Ea (n:=base+szB dP) hW (s.ae [1]) I (by omega) (.inl hn)) ?_))))
  rintro v h ⟨e,BW,rfl,s⟩
  refine zk 4 rfl ?_
  refine ax.cm s rfl rfl rfl (b6 rO) (fun p8 h s => ?_)
  dsimp only[V.cells,List.length_cons,List.length_nil,Nat.reduceAdd,aI,bringA] at s
  refine zS rfl (s.fS (j:=0) rfl ik rfl rfl) (fun h s => ?_)
  dsimp only[setA] at s
  refine zk 7 rfl (zB rfl aE (by simp;exact BW) ?_)
  exact zk 2 rfl (WP.exit (hq _ _ ⟨rfl,rfl,aa⟩ ((s.drop).ae [2,1,0])))
 |cons y fK ih =>
  intro dP ρ h E Q he J s hE hq
  subst he
  have hy:=vn y (by simp)
  refine WP.loop (WP.has hE ?_)
  have s:=s.ae [1,1,0]
  dsimp only[sS,bringA,getA,aI] at s
  refine WP.block (zK 4 rfl (zY s 0 uu Cy rfl (zm rfl (zc rfl (Km (dP:=dP) (fK:=fK) (r:=y) hT I hy (s.ae [1])) ?_))))
  rintro v h ⟨dt,ch,cs,rfl,s⟩
  dsimp only[aI,bringA] at s
  have jV:=(s.buf (k:=1) rfl).view.cells
  have jf:=s.ju (j:=2) rfl
  have fX:[V.int .i64 (y.kd:Int),V.int .u64 (y.tx:Int),V.int .u64 (y.pv:Int),V.int .u64 (y.nx:Int),dt,ch].all storable=true:=m8 jV.2 jf.2.1
  refine zk 4 rfl ?_
  refine ax.cm s rfl rfl rfl (b6 rO) (fun p8 h s => ?_)
  dsimp only[V.cells,List.length_cons,List.length_nil,Nat.reduceAdd] at s
  refine zS rfl (s.fS (j:=0) rfl ik rfl fX) ?_
  rintro h s
  dsimp only[setA] at s
  refine zk 7 rfl (zC rfl aE (rfl) (zk 6 rfl (zY s 0 m5 uP rfl (zo rfl (aN rfl rfl rfl (s.xh (j1:=3) (j2:=4) rfl rfl ji)) (zk 2 rfl (WP.block ?_))))))
  have s:=s.ae [6,3,3,3,1]
  dsimp only[bringA,getA,aI] at s
  refine Sa (n:=base+szB dP) hW hy.aR y.aR.length 0 ρ h _ _ (by omega) (by have:=hy.rd.many;omega) J s ⟨rfl,rfl,rfl,rfl,rfl,rfl,rfl,rfl,aa⟩ (fun E h hE s => ?_)
  rw[gV] at s
  refine WP.has hE (zr rfl (zk 2 rfl (zv ?_)))
  have s:=(((s.del 6).del 5).ae [0,2,2]).del 3
  have s:=s.del 3
  refine ih (dP++[y]) (Et (base+szB dP) y.aR ρ) _ _ Q (by simp) (Kl J hy.aR) s ⟨rfl,rfl,rfl,?_,aa⟩ (fun E' h' jx s'=>hq E' h' jx ?_)
  ·rw[qJ]
   show some (V.int .u64 ((base+szB dP+y.len:Nat):Int))=_
   rw[show base+(szB dP+szB [y])=base+szB dP+y.len by simp only[szB];omega]
  ·rw[redoL,show base+szB dP+y.len=base+szB (dP++[y]) by rw[qJ];simp only[szB];omega]
   exact s'
structure oX (δ:Dk)(m:Nat): Prop where
 ok:δ.Ok
 wait:δ.waiting.length+m≤268435456
 now:∀e∈δ.now,0≤e.1∧e.1<δ.aq.length
theorem oX.less {m:Nat}(h:oX δ (m+1)): oX δ m:=⟨h.ok,by have:=h.wait;omega,h.now⟩
theorem oX.write {m:Nat}{k:Int}(h:oX δ (m+1))(h0:0≤k)(h1:k<δ.aq.length): oX (δ.bz k b).2 m∧(δ.bz k b).2.aq=δ.aq:=by
 have hw:=h.wait
 have I:=h.ok.bz (n:=k) (b:=b)
 unfold Dk.bz at I ⊢
 split at I
 ·rename_i hd
  rw[aP hd]
  exact⟨⟨I,by simp only;omega,h.now⟩,rfl⟩
 ·rename_i hd
  rw[ak hd]
  split at I
  ·rename_i J
   rw[aP J]
   exact⟨⟨I,by simp only;omega,h.now⟩,rfl⟩
  ·rename_i J
   rw[ak J]
   split at I
   ·rename_i h3
    rw[aP h3]
    exact⟨⟨I,by show δ.waiting.length+m≤_;omega,h.now⟩,rfl⟩
   ·rename_i h3
    rw[ak h3]
    refine⟨⟨I,?_,fun e he => ?_⟩,rfl⟩
    ·show(δ.waiting++[(k.toNat,b)]).length+m≤_
     simp only[bV,bF,cG];omega
    ·rcases G_ he with rfl|he
     ·exact⟨h0,h1⟩
     ·exact h.now e he
noncomputable def agS : Code:=cN [1,1,1,1,0,1,0,0] ((Tryz.f87.body).getD .skip)
theorem Lu (hT:W told){ks:List Int}{kv:V}{i0 j0:Nat}(ZT:ks.length≤65536)(Ay:∀k∈ks,0≤k)(mN:∀k∈ks,(lookL k ρ.aq).isSome=true)(hlen:∀e∈ρ.aq,e.2.length=512): ∀(j i:Nat) (δ:Dk) (h:H) (E:List (Nat×V)) (Q:Ex→List (Nat×V)→H→Prop),i+j=ks.length→oX δ j →
  Sat h (pt x (.cells 2 [.map i0,.map j0] false)::jv (fun v b=>.bY v b) (.map i0) ρ.aq::jv CU (.map j0) ρ.oW::.arr 1 kv (fL ks)::pt a (.cells 6 (sS a p q r op dv wv) false)::aS p δ::S) →
  Has E [(0,.ptr a 0),(5,.ptr x 0),(55,kv),(56,.int .i64 ks.length),(57,.int .i64 i)] →
  (∀E' h',(againW ρ (ks.drop i) δ).1≠0→look E' 4=some (.int .i64 (againW ρ (ks.drop i) δ).1)→Sat h' (pt a (.cells 6 (sS a p q r op dv wv) false)::aS p (againW ρ (ks.drop i) δ).2::S)→Q .ret E' h') →
  (∀E' h',(againW ρ (ks.drop i) δ).1=0→oX (againW ρ (ks.drop i) δ).2 0→Has E' [(0,.ptr a 0),(5,.ptr x 0)]→Sat h' (pt x (.cells 2 [.map i0,.map j0] false)::jv (fun v b=>.bY v b) (.map i0) ρ.aq::pt a (.cells 6 (sS a p q r op dv wv) false)::aS p (againW ρ (ks.drop i) δ).2::S)→Q (.exit 4) E' h') →
  WP ⟨Tryz.prog,told⟩ 110 (.loop agS) E h Q:=by
 intro j
 induction j with
 |zero =>
  intro i δ h E Q hi I s hE J h2
  rw[A3 (by omega)] at J h2
  refine WP.loop (WP.has hE (zg rfl (zC rfl bh (by simp;omega) ?_)))
  exact zk 3 rfl (WP.exit (h2 _ _ rfl I ⟨rfl,rfl,aa⟩ ((s.ae [0,0,2,2]).del 5 |>.del 4)))
 |succ j ih =>
  intro i δ h E Q hi I s hE J h2
  have hn:ks[i]?=some (ks[i]'(by omega)):=bx _
  generalize (ks[i]'(by omega))=k at hn
  have hkm:=bD hn
  have F5:=Ay k hkm
  have oG:ks.drop i=k::ks.drop (i+1):=by
   obtain⟨J,rfl⟩:=List.getElem?_eq_some_iff.1 hn
   exact qa J
  obtain⟨b,hb⟩:=Option.isSome_iff_exists.1 (mN k hkm)
  have m7:b.length=512:=hlen _ (fJ hb)
  rw[oG,againW,hb] at J h2
  simp only at J h2
  have hc:(fL ks)[i]?=some (.int .i64 k):=by simp[fL,hn]
  obtain⟨id,off,e1,e2⟩:=gJ s (k:=3) rfl hc cf jF
  refine WP.loop (WP.has hE (zg rfl (zB rfl bh (by simp;omega) ?_)))
  refine zk 5 rfl (WP.block (zg rfl (zo rfl (cK (r:=.ptr id off) rfl rfl e1) (zl rfl (e2 _ dN) (zk 3 rfl ?_)))))
  rcases mK (n:=k) (fun _ _=>aV.bY _ _) (s.ae [1]) k_ bT oT with⟨hl,_⟩|⟨u,b',hl,_,f2,s⟩
  ·rw[hb] at hl;cases hl
  rw[hb] at hl
  injection hl with hl
  subst hl
  dsimp only[sS,aI,bringA] at s
  obtain⟨f4,s⟩:fR Tryz.prog h 208 (.map j0) (.int .i64 k) false=some (.int .u64 (oM ρ k:Int))∧Sat h (jv CU (.map j0) ρ.oW::.bY u b::jv (fun v b=>.bY v b) (.map i0) ρ.aq::pt x (.cells 2 [.map i0,.map j0] false)::.arr 1 kv (fL ks)::pt a (.cells 6 (sS a p q r op dv wv) false)::aS p δ::S):=by
   have s:=s.ae [3,0,0,0]
   rcases mK (n:=k) (fun _ _=>aV.pu _) s Tryz.underlying208 bT ZC with⟨hl,_,f⟩|⟨w,y,hl,_,f,s⟩
   ·exact⟨by rw[f,oM,hl];rfl,s⟩
   ·obtain⟨rfl,s2⟩:=eS.1 s
    exact⟨by rw[f,oM,hl];rfl,s2⟩
  have s:=s.ae [3,4,1]
  dsimp only[sS,bringA,getA,aI] at s
  have B7:=dB (s.aD (k:=2) rfl (c8 _ _))
  refine WP.drawn [ah,ah,ah,ah,ah,ah,ah,ah,ah,ah,ah,ah,ah,ah,ah,ah,ah,ah] rfl (by kernel_rfl) (by kernel_rfl) ?_
  refine zM rfl (zN rfl (zF rfl (qv _ _) (zL rfl (s.ld (k:=0) rfl jT rfl) (zM rfl (zO rfl (iL rfl rfl f2) (zM rfl (zN rfl (zF rfl (L_ _ _) (zL rfl (s.ld (k:=0) rfl VE rfl) (zM rfl (zO rfl (iL rfl rfl f4) (ay.any rfl rfl rfl rfl (OpR.call rfl rfl rfl rfl (Mg (n:=oM ρ k) hT (s.ae [2]) (c8 _ _) (by omega))) ?_))))))))))))
  rintro v h (⟨hg,u2,rfl,s⟩|⟨hg,rfl,s⟩)
  ·skip
   dsimp only[aI,bringA] at s
   refine zM rfl (zO rfl (cS rfl rfl) (zO rfl (cS rfl rfl) (zA rfl (zA rfl ?_))))
   refine ay.nil ⟨⟨aa,aa,aa,aa,aa,aa,aa,aa,aa,aa,aa,aa,aa,aa,aa,aa,aa,aa,aa⟩,?_⟩
   refine zK 4 rfl (zC rfl aE (rfl) (zk 4 rfl (zY s 3 qp pP rfl (zc rfl (yg hT (s.ae [7])) ?_))))
   rintro v h' ⟨rfl,rfl⟩
   by_cases hp:k<δ.aq.length
   ·skip
    rw[aP ⟨hg,hp⟩] at J h2
    have kz:=(oo (n:=oM ρ k) m7).2.1
    have Cc:=I.wait
    have hw:=I.write (k:=k) (b:=cW b (oM ρ k)) F5 hp
    refine zC rfl oa (by simp;omega) ?_
    refine zk 8 rfl (zY s 3 qp pP rfl (zk 2 rfl (zc rfl (Mj hT (s.ae [7,0]) (bk _ _) (by omega) I.ok.aT (by omega)) ?_)))
    rintro v h ⟨rfl,s⟩
    dsimp only[aI,bringA] at s
    by_cases h0:(δ.bz k (cW b (oM ρ k))).1=0
    ·rw[ak (not_not_intro h0)] at J h2
     rw[h0]
     refine za rfl (zv (zg rfl (zm rfl (zh rfl (aA rfl rfl aE) (rfl) (zv (zj rfl (WP.skip (zr rfl (zb rfl (by exact bC (aB (by omega) (by omega))) ?_)))))))))
     refine zm rfl (zv ?_)
     have s:=(s.ae [3,5,4,4,3,0]).del 6
     have s:=s.del 6
     dsimp only[bringA,getA,aI] at s
     exact ih (i+1) _ _ _ Q (by omega) hw.1 s ⟨rfl,rfl,rfl,rfl,rfl,aa⟩ J h2
    ·skip
     rw[aP h0] at J h2
     refine zk 5 rfl (zB rfl aE (by simpa using h0) ?_)
     refine zk 7 rfl (WP.ret ?_)
     have s:=(s.ae [4,0]).del 2
     exact J _ _ h0 rfl ((((s.del 2).del 2).del 2).del 2 |>.del 2)
   ·skip
    rw[ak (fun q=>hp q.2)] at J h2
    refine zB rfl oa (by simp;omega) ?_
    refine zk 3 rfl (WP.exit (zr rfl (zb rfl (by exact bC (aB (by omega) (by omega))) ?_)))
    refine zm rfl (zv ?_)
    have s:=(s.ae [2,4,3,3,2,2]).del 6
    have s:=s.del 6
    dsimp only[bringA,getA,aI] at s
    exact ih (i+1) _ _ _ Q (by omega) I.less s ⟨rfl,rfl,rfl,rfl,rfl,aa⟩ J h2
  ·skip
   rw[ak (fun q=>by rw[hg] at q;cases q.1)] at J h2
   dsimp only[aI,bringA] at s
   refine zM rfl (zO rfl (cS rfl rfl) (zO rfl (cS rfl rfl) (zA rfl (zA rfl ?_))))
   refine ay.nil ⟨⟨aa,aa,aa,aa,aa,aa,aa,aa,aa,aa,aa,aa,aa,aa,aa,aa,aa,aa,aa⟩,?_⟩
   refine zK 4 rfl (zB rfl aE (rfl) (zk 11 rfl (WP.exit (zr rfl (zb rfl (by exact bC (aB (by omega) (by omega))) ?_)))))
   refine zm rfl (zv ?_)
   have s:=(s.ae [1,3,2,2,1,1]).del 6
   exact ih (i+1) _ _ _ Q (by omega) I.less s ⟨rfl,rfl,rfl,rfl,rfl,aa⟩ J h2
end
def i_.none : i_:=⟨[],[]⟩
theorem BK : i_.none.Ok:=⟨fun e h=>(by cases h),fun k h=>(by cases h),kq⟩
theorem i_.Ok.Ce (h:ρ.Ok): ρ.aq.length≤65536:=by
 have:=AL 65536 _ h.dup (fun n I=>by have:=h.low n I;omega)
 simpa using this
theorem sn {m:List (Int×α)}: (aF m).length=m.length:=by rw[aF,(eL _).length_eq,jl]
theorem CW {m:List (Int×α)}{k:Int}: k∈aF m↔k∈m.map (·.1):=(eL _).mem_iff
section
variable {told:cR} {op:V} {p r base:Nat}
theorem UP (hT:W5 told)(he:rs=dP++fK)(vn:∀r∈rs,r.Ok)(FD:(jc base aC rs).Ok)(J:oX δ 65536)(s:Sat h (ew a p q r op data c0::b7 q p (jc base aC rs)::aS p δ::S)):
  Call ⟨Tryz.prog,told⟩ 87 [.ptr a 0,.int .u64 ((base+szB dP:Nat):Int)] h fun v h' =>
   v=.int .i64 (mE (redoL (base+szB dP) fK i_.none) δ).1∧Sat h' (ew a p q r op data c0::b7 q p (jc base aC rs)::aS p (mE (redoL (base+szB dP) fK i_.none) δ).2::S):=by
 have hW:=hT.w.w
 have I:(redoL (base+szB dP) fK i_.none).Ok:=CV BK (fun r hr=>vn r (by rw[he];exact List.mem_append.2 (.inr hr)))
 obtain⟨dv,s⟩:=cy.1 s
 refine Call.of_wp (hW.free _ rfl) Tryz.func87 rfl rfl (zK 6 rfl ?_)
 refine ax.Ai s rfl rfl rfl rfl (fun p18 h s => ?_)
 refine ax.Ai s rfl rfl rfl rfl (fun p19 h s => ?_)
 refine zo rfl (cT rfl (by rw[VF];rfl)) ?_
 refine ax.cm s rfl rfl rfl (fY rfl rfl) (fun ZS h s => ?_)
 refine zk 5 rfl (zo rfl (Bu rfl rfl) (zk 8 rfl (WP.block ?_)))
 have s:=(s.gD (φ:=True) aa).gD (φ:=True) aa
 have s:=ve (ρ:=i_.none).2 ⟨_,[],0,_,[],0,⟨aa,kq,aa,kq⟩,s.ae [2,3,0,1,0]⟩
 refine OW hT.wr vn FD fK dP i_.none h _ _ he BK (s.ae [0,0,1]) ⟨rfl,rfl,rfl,rfl,aa⟩ (fun E h hE s => ?_)
 generalize hρ:redoL (base+szB dP) fK i_.none=ρ at I s
 refine WP.has hE ?_
 obtain⟨i,l,k,j,m,g,⟨h1,h2,h3,h4⟩,s⟩:=ve.1 s
 have s:=Lt (s.ae [2])
 have s:=eM.2 ⟨i,l,k,rfl,h1,h2,s.ae [2,0]⟩
 have s:=eM.2 ⟨j,m,g,rfl,h3,h4,s.ae [2,2]⟩
 have s:=s.ae [2,1,0]
 have UQ:=I.Ce
 refine zK 5 rfl (zY s 0 qv jT rfl (zc rfl (yp hW s) ?_))
 rintro v h ⟨kb,rfl,s⟩
 refine zc rfl (sN hW (s.ae [0,1]) (by decide) (by omega) (fun n hn=>wf_i64 (by have:=I.low n hn;omega) (by have:=I.low n hn;omega))) ?_
 intro kv h s
 refine zo rfl (aN rfl rfl rfl (s.dZ (n:=(aF ρ.aq).length) (j:=0) rfl (by simp[fL]) (by decide) cf)) ?_
 refine zk 2 rfl (WP.block ?_)
 have s:=(s.ae [3,2,2,0,1,3]).del 6
 refine Lu hW (ks:=aF ρ.aq) (by rw[sn];exact UQ) (fun k hk=>(I.low k (CW.1 hk)).1) (fun k hk=>by
  cases hl:lookL k ρ.aq with
  |none=>exact absurd (CW.1 hk) (gx.1 hl)
  |some b=>rfl) I.len (aF ρ.aq).length 0 δ h _ _ (by omega) (by rw[sn];exact⟨J.ok,by have:=J.wait;omega,J.now⟩) s ⟨rfl,rfl,rfl,rfl,rfl,aa⟩ (fun E' h' e1 e2 s' => ?_) (fun E h e1 e2 hE s => ?_)
 ·rw[gV] at e1 e2 s'
  have e:mE ρ δ=againW ρ (aF ρ.aq) δ:=by rw[mE,aP e1]
  rw[e]
  exact⟨aa,_,pO e2,rfl,(cy.2 ⟨dv,s'.ae [0,2]⟩).ae [0,1,0]⟩
 ·rw[gV] at e1 e2 s
  refine WP.has hE (zK 5 rfl (zY s 0 qv jT rfl (zo rfl (aN rfl rfl rfl (IP (s.ae [1]) k_)) ?_)))
  by_cases hz:ρ.aq=[]
  ·skip
   have e:mE ρ δ=(0,(againW ρ (aF ρ.aq) δ).2):=by rw[mE,ak (not_not_intro e1),aP hz]
   rw[e]
   refine zB rfl eu (by rw[hz];rfl) ?_
   exact zk 6 rfl (WP.ret ⟨aa,_,rfl,rfl,(cy.2 ⟨dv,((s.drop.drop).ae [0,2])⟩).ae [0,1,0]⟩)
  ·skip
   have e:mE ρ δ=(againW ρ (aF ρ.aq) δ).2.dQ:=by rw[mE,ak (not_not_intro e1),ak hz]
   rw[e]
   refine zC rfl eu (by have:ρ.aq.length≠0:=fun h=>hz (nf h);simp;omega) ?_
   refine zk 7 rfl (zY s 2 qp pP rfl (zc rfl (Mt hT.w (s.ae [3]) e2.ok e2.now) ?_))
   rintro v h ⟨rfl,s⟩
   dsimp only[sS,V.cells,List.take,List.length_cons,List.length_nil,Nat.reduceAdd,List.drop,List.cons_append,List.nil_append,aI,bringA,getA] at s
   exact zk 2 rfl (WP.ret ⟨aa,_,rfl,rfl,(cy.2 ⟨dv,(((s.ae [3,4,3,0]).del 4).del 4)⟩).ae [0,0,0]⟩)
end
def OX (base aC:Nat)(rs:List cz)(data:List Nat)(dP fK:List cz): Prop :=
 rs=dP++fK∧((aC=0∧data=[]∧dP=[])∨∃A rc B,rs=A++rc::B∧aC=base+szB A∧aC≠0∧rc.kd=8∧8≤rc.data.length∧data=rc.data.drop 8∧max base (leN (rc.data.take 8))=base+szB dP)
def e_ (δ:Dk)(base:Nat)(rs dP fK:List cz): Int×Dk :=
 if (δ.dc (szB rs)).1≠0 then δ.dc (szB rs) else mE (redoL (base+szB dP) fK i_.none) (δ.dc (szB rs)).2
theorem Lw : (δ.dU n).2.waiting=δ.waiting∧(δ.dU n).2.now=δ.now∧(δ.dU n).2.aq=δ.aq:=by
 unfold Dk.dU Dk.rC
 split
 ·split
  ·exact⟨rfl,rfl,rfl⟩
  ·split
   ·exact⟨rfl,rfl,rfl⟩
   ·split<;>exact⟨rfl,rfl,rfl⟩
 ·exact⟨rfl,rfl,rfl⟩
theorem Lx : δ.cg.2.waiting=δ.waiting∧δ.cg.2.now=δ.now∧δ.cg.2.aq=δ.aq:=by
 unfold Dk.cg
 split
 ·exact⟨rfl,rfl,rfl⟩
 ·split<;>exact⟨rfl,rfl,rfl⟩
theorem Eu : (δ.dc n).2.waiting=δ.waiting∧(δ.dc n).2.now=δ.now∧(δ.dc n).2.aq=δ.aq:=by
 unfold Dk.dc
 have h:=Lw (δ:=δ) (n:=n)
 split
 ·exact h
 ·split
  ·have I:=Lx (δ:=(δ.dU n).2)
   exact⟨I.1.trans h.1,I.2.1.trans h.2.1,I.2.2.trans h.2.2⟩
  ·exact h
theorem oX.dc {m:Nat}(h:oX δ m): oX (δ.dc n).2 m:=by
 obtain⟨I,J,h3⟩:=Eu (δ:=δ) (n:=n)
 exact⟨h.ok.dc,by rw[I];exact h.wait,by rw[J,h3];exact h.now⟩
section
variable {told:cR} {p base:Nat}
noncomputable def soE : Code:=cN [1,1,1,1,1,1,1,1,1] ((Tryz.f35.body).getD .skip)
theorem He (hT:W5 told){r:Nat}(he:rs=dP++fK)(J:∀r∈rs,r.Ok)(FD:(jc base aC rs).Ok)(oI:oX δ 65536)
 (s:Sat h (ew a p q r .b_ data c0::dO r p q (Pl.fresh n)::b7 q p (jc base aC rs)::aS p δ::S))(hE:Has E [(9,.ptr a 0),(10,.int .u64 ((base+szB dP:Nat):Int))]){y:Int×Dk}(hy:mE (redoL (base+szB dP) fK i_.none) δ=y)
 (h1:∀E' h',y.1≠0→look E' 4=some .b_→look E' 5=some (.int .i64 y.1)→Sat h' (aS p y.2::S)→Q .ret E' h')
 (h2:∀E' h',y.1=0→look E' 4=some (.ptr a 0)→look E' 5=some (.int .i64 0)→Sat h' (ew a p q r .b_ data c0::dO r p q (Pl.fresh n)::b7 q p (jc base aC rs)::aS p y.2::S)→Q .ret E' h'): WP ⟨Tryz.prog,told⟩ 95 soE E h Q:=by
 refine WP.has hE (zK 5 rfl (zc rfl (UP hT he J FD oI (s.ae [0,1,1])) ?_))
 rintro v h ⟨rfl,s⟩
 rw[hy] at s
 rw[hy]
 by_cases I:y.1=0
 ·skip
  rw[I]
  exact zk 5 rfl (zC rfl aE (rfl) (zk 9 rfl (WP.ret (h2 _ _ I rfl rfl (s.ae [0,2,0,0])))))
 ·skip
  refine zk 5 rfl (zB rfl aE (by simpa using I) ?_)
  exact zk 8 rfl (WP.ret (h1 _ _ I rfl rfl (((s.ae [2]).del 1 |>.del 1).del 1)))
theorem ac_ {ts:Array TypeId}{k:IntKind}{a b:Int}: builtinV P h .max ts [.int k a,.int k b]=some (.int k (max a b),h):=by
 simp only[builtinV,foldV,maxV,dx,aj,lZ]
 by_cases I:a<b
 ·simp only[I,decide_true,aj]
  rw[show max a b=b by omega]
 ·simp only[I,Be,aY]
  rw[show max a b=a by omega]
theorem UR (hT:W5 told)(Ca:1≤n)(y7:n≤1024)(s:Sat h (aS p δ::S))(oI:oX δ 65536)(hd:δ.dead=false)(hm:R5 δ.mark base aC)(xX:base+δ.log.length≤1099511627776)(OV:aC≤1099511627776)
 (FK:δ.log=logB base rs++j)(J:∀r∈rs,r.Ok)(hj:sj j)(Ev:OX base aC rs data dP fK):
  Call ⟨Tryz.prog,told⟩ 35 [.ptr p 0,.int .i64 (n:Int)] h fun v h' =>
   ((e_ δ base rs dP fK).1≠0∧v=.bf [.b_,.int .i64 (e_ δ base rs dP fK).1]∧Sat h' (aS p (e_ δ base rs dP fK).2::S)) ∨
   ((e_ δ base rs dP fK).1=0∧∃a q r,v=.bf [.ptr a 0,.int .i64 0]∧Sat h' (ew a p q r .b_ data aC::dO r p q (Pl.fresh n)::b7 q p (jc base aC rs)::aS p (e_ δ base rs dP fK).2::S)):=by
 have hW:=hT.w.w
 have hlen:=oI.ok.len
 have iW:δ.log.length=szB rs+j.length:=by rw[FK,bV,fW]
 have FD:(jc base aC rs).Ok:=MV (by omega) (by omega) OV
 obtain⟨aay,Ev⟩:=Ev
 generalize hy:e_ δ base rs dP fK=y
 unfold e_ at hy
 refine Call.of_wp (hW.free _ rfl) Tryz.func35 rfl rfl (zK 9 rfl (zC rfl bh (by simp<;>omega) ?_))
 refine zk 2 rfl (zC rfl gA (by simp<;>omega) ?_)
 refine zk 7 rfl (zc rfl (UK hT.wr s oI.ok hd hm xX (by omega) FK J hj) ?_)
 rw[fW]
 rintro v h (⟨I,rfl,s⟩|⟨I,q,rfl,s⟩)
 ·skip
  rw[aP I] at hy
  rw[hy] at I s
  rw[hy]
  refine zk 10 rfl (zB rfl aE (by simpa using I) ?_)
  exact zk 8 rfl (WP.ret ⟨aa,_,rfl,.inl ⟨I,rfl,s⟩⟩)
 rw[ak (not_not_intro I)] at hy
 refine zk 10 rfl (zC rfl aE (rfl) (zk 8 rfl (zc rfl (Mq (p:=p) (q:=q) (n:=n) hW s) ?_)))
 rintro v h (⟨hn,_,_⟩|⟨_,_,r,rfl,s⟩)
 ·omega
 rw[dY] at s
 refine zk 10 rfl (zC rfl aE (rfl) (zk 8 rfl (zo rfl (cT rfl (by rw[Vx];rfl)) ?_)))
 refine ax.cm s rfl rfl rfl (fY rfl rfl) (fun p44 h s => ?_)
 refine zk 5 rfl (zc rfl (GB hW (s.ae [2])) ?_)
 rintro v h' ⟨rfl,rfl⟩
 refine zk 6 rfl (zc rfl (B9 hW (s.ae [2])) ?_)
 rintro v h' ⟨rfl,rfl⟩
 rcases Ev with⟨rfl,rfl,rfl⟩|⟨A,rc,B,hA,hcA,hc0,VV,h8,rfl,fX⟩
 ·skip
  refine zk 5 rfl (zC rfl aE (rfl) (zk 3 rfl ?_))
  have s1:=cy.2 ⟨.a_,(s.sy).ae [1,0]⟩
  exact He hT aay J FD oI.dc s1 ⟨rfl,rfl,aa⟩ hy (fun E' h' I e1 e2 s'=>⟨aa,_,pX e1 e2,.inl ⟨I,rfl,s'⟩⟩) (fun E' h' I e1 e2 s'=>⟨aa,_,pX e1 e2,.inr ⟨I,_,_,_,rfl,s'⟩⟩)
 ·skip
  subst hA
  subst hcA
  have mH:¬(((jc base (base+szB A) (A++rc::B)).check:Nat):Int)=0:=by show ¬((base+szB A:Nat):Int)=0;omega
  refine zk 5 rfl (zB rfl aE (by simpa using mH) ?_)
  refine zk 6 rfl (zc rfl (Km (dP:=A) (fK:=B) (r:=rc) hT.wr FD (J rc (by simp)) (s.ae [2])) ?_)
  rintro v h ⟨dt,ch,cs,rfl,s⟩
  have jV:=(s.buf (k:=1) rfl).view.cells
  have jf:=s.ju (j:=2) rfl
  have ada:[V.int .i64 (rc.kd:Int),V.int .u64 (rc.tx:Int),V.int .u64 (rc.pv:Int),V.int .u64 (rc.nx:Int),dt,ch].all storable=true:=m8 jV.2 jf.2.1
  refine zk 4 rfl ?_
  refine ax.cm s rfl rfl rfl (b6 rO) (fun uY h s => ?_)
  refine zS rfl (s.fS (j:=0) rfl ik rfl ada) ?_
  rintro h s
  refine zk 6 rfl (zB rfl eu (rfl) (zm rfl (zY s 0 uQ dN rfl (zB rfl eu (by rw[VV];rfl) ?_))))
  refine zk 2 rfl (zY s 0 Ak bE rfl (zo rfl (aN rfl rfl rfl (aW aK (s.aD (k:=2) rfl (bk _ _)))) (zB rfl oa (by simp;omega) ?_)))
  refine zk 7 rfl (zY s 0 Ak bE rfl (zo rfl (cH (p:=some (.int .i64 8)) (q:=none) (m:=none) (p':=some 8) (q':=none) (m':=none) rfl rfl rfl rfl rfl rfl rfl (fu (s.buf (k:=2) rfl).view (a:=8) h8).1) (zc rfl (mT hW (s.ae [2]) (rU (bk _ _) (a:=8) h8) (by have:=(J rc (by simp)).rd.data;simp;omega)) ?_)))
  intro u h s
  have s:=s.ga
  dsimp only[V.cells,List.length_cons,List.length_nil,Nat.reduceAdd,List.take,List.drop,List.cons_append,List.nil_append,aI,bringA,setA] at s
  have hu:=(s.aD (k:=0) rfl (c8 _ _)).cells
  refine zk 2 rfl (zf rfl (W4 _ _) (zS rfl (s.eH (k:=6) rfl gU rfl (by decide) hu.1 hu.2) ?_))
  intro h s
  refine zn rfl (zf rfl (W8 _ _) ?_)
  refine zS rfl (by exact s.eH (k:=6) rfl vR rfl (by decide) rfl rfl) (fun h s => ?_)
  refine zk 3 rfl (zY s 2 Ak bE rfl (zo rfl (cH (p:=none) (q:=some (.int .i64 8)) (m:=none) (p':=none) (q':=some 8) (m':=none) rfl rfl rfl rfl rfl rfl rfl (iQ (s.buf (k:=1) rfl).view (b:=8) h8).1) (zc rfl (qC hW s (k:=1) rfl (yb (bk _ _) (b:=8) h8) (by rw[fO];omega)) ?_)))
  rintro v h' ⟨rfl,rfl⟩
  refine zo rfl (CC (r:=.int .u64 ((base+szB dP:Nat):Int)) rfl rfl (ac_.trans (by rw[show max (((jc base (base+szB A) (A++rc::B)).base:Nat):Int) ((leN (rc.data.take 8):Nat):Int)=((base+szB dP:Nat):Int) by rw[←fX];show max (base:Int) _=_;omega]))) ?_
  refine zk 2 rfl ?_
  have s:=(cy.2 ⟨u,(s.ae [6,0])⟩).ae [0,5,2,4]
  have s:=(((s.del 4).del 4).del 4).del 4
  exact He hT aay J FD oI.dc s ⟨rfl,rfl,aa⟩ hy (fun E' h' I e1 e2 s'=>⟨aa,_,pX e1 e2,.inl ⟨I,rfl,s'⟩⟩) (fun E' h' I e1 e2 s'=>⟨aa,_,pX e1 e2,.inr ⟨I,_,_,_,rfl,s'⟩⟩)
end
structure LR (B0 aC:Nat)(mk:List Nat)(rs:List cz)(x:LD): Prop where
 base:x.1.base=B0
 b:x.1.b=logB B0 rs
 cE:x.1.cE=lN 0 rs
 check:x.1.check=aC
 log:x.2.log=logB B0 rs
 alive:x.2.dead=false
 aT:x.2.aT<0
 mark:x.2.mark=mk
 dG:x.2.dG=none
 tail:x.2.tail=[]
 wait:∀w∈x.2.waiting,w.1<x.2.aq.length∧w.2.length=512
 rs:∀r∈rs,r.Ok
theorem mF (base aC:Nat)(mk:List Nat)(rs:List cz): jZ (LR base aC mk rs):=by
 refine⟨fun x n h => ?_,fun x n b h => ?_⟩
 ·unfold aJ
  split
  ·exact h
  ·have e:x.2.cg=(0,{ x.2 with bj:=x.2.log.length }):=by
    rw[Dk.cg,ak (by rw[h.alive];decide),ak (by have:=h.aT;omega),iN h.aT]
   rw[e,ak (by simp)]
   exact⟨h.base,h.b,h.cE,h.check,h.log,h.alive,h.aT,h.mark,h.dG,h.tail,h.wait,h.rs⟩
 ·unfold Dk.bz
  rw[ak (by rw[h.alive];decide)]
  split
  ·exact h
  ·rename_i I
   rw[ak (by have:=h.aT;omega)]
   refine⟨h.base,h.b,h.cE,h.check,h.log,h.alive,?_,h.mark,h.dG,h.tail,fun w hw => ?_,h.rs⟩
   ·show x.2.cV.aT<0
    rw[iN h.aT];exact h.aT
   ·rcases List.mem_append.1 hw with hw|hw
    ·exact h.wait w hw
    ·rw[List.mem_singleton.1 hw]
     have I:=Classical.not_not.1 I
     exact⟨by show n.toNat<x.2.aq.length;omega,I.2.2⟩
theorem yM {kd:Int}{aR:List cq}: data.length≤(dD kd tx pv nx data aR).length∧aR.length≤(dD kd tx pv nx data aR).length:=by
 have:=Ka aR
 simp only[dD,bV,bF,cG]
 omega
theorem LR.app {base kd:Nat}{mk:List Nat}{c:List cq}(h:LR base aC mk rs x)(hk:1≤kd)(hg:ej kd c=true)(ht:tx<65536)
 (ha:(aG x kd tx 0 0 data c).1.2=0): ∃r:cz,r.Ok∧r.kd=kd∧r.tx=tx∧r.pv=0∧r.nx=0∧r.data=data∧r.aR=c∧(aG x kd tx 0 0 data c).1.1=base+szB rs∧LR base aC mk (rs++[r]) (aG x kd tx 0 0 data c).2∧logB base (rs++[r])=logB base rs++cC x.1 kd tx 0 0 data c∧(logB base rs).length+(cC x.1 kd tx 0 0 data c).length≤x.2.room:=by
 rcases fh x kd tx 0 0 data c with⟨e,he,_,hq⟩|⟨_,hf,_⟩|⟨_,hb,hd,eX,hf,hq⟩
 ·grind
 ·grind
 ·rw[iN h.aT] at hq
  have xw:=yM (kd:=kd) (tx:=tx) (pv:=0) (nx:=0) (data:=data) (aR:=c)
  have hr:(cz.mk kd tx 0 0 data c).Ok:=⟨hg,⟨by grind,by simp,by simp,by grind,by grind⟩,hb⟩
  have hl:(logB base rs).length=szB rs:=fW
  have hn:cC x.1 kd tx 0 0 data c=iR (base+szB rs) (cz.mk kd tx 0 0 data c).bd:=by rw[cC,h.base,h.b,hl];rfl
  have J:logB base (rs++[cz.mk kd tx 0 0 data c])=logB base rs++cC x.1 kd tx 0 0 data c:=by grind[yL,logB]
  have hof:lN 0 (rs++[cz.mk kd tx 0 0 data c])=lN 0 rs++[szB rs]:=by rw[Kk,gG];rfl
  refine⟨cz.mk kd tx 0 0 data c,hr,rfl,rfl,rfl,rfl,rfl,rfl,?_,?_,J,by rw[←h.log];exact eX⟩
  ·rw[hq];rw[h.base,h.b,hl]
  ·rw[hq]
   refine⟨h.base,?_,?_,h.check,?_,h.alive,h.aT,h.mark,h.dG,h.tail,h.wait,fun r I => ?_⟩
   ·show x.1.b++_=_;rw[h.b,J]
   ·show x.1.cE++[x.1.b.length]=_;rw[h.cE,h.b,hl,hof]
   ·grind[log]
   ·rcases List.mem_append.1 I with I|I
    ·exact h.rs r I
    grind
theorem Yc : ∀(rs:List cz) (n K:Nat),(∀r∈rs,r.Ok)→∃dP fK j,rs=dP++fK∧(logB n rs).take K=logB n dP++j∧sj j:=by
 intro rs
 induction rs with
 |nil=>intro n K _;exact⟨[],[],[],rfl,by simp[logB],.inl (by decide)⟩
 |cons r rs ih =>
  intro n K I
  have hr:=I r bZ
  by_cases hK:r.len≤K
  ·obtain⟨dP,fK,j,h1,h2,h3⟩:=ih (n+r.len) (K-r.len) (fun x hx=>I x (b8 _ hx))
   refine⟨r::dP,fK,j,by rw[h1];rfl,?_,h3⟩
   have J:(iR n r.bd).length=r.len:=by rw[s_];rfl
   rw[logB,List.take_append,gj (by omega),J,h2,logB,cP]
  ·refine⟨[],r::rs,(iR n r.bd).take K,rfl,?_,?_⟩
   ·have J:(iR n r.bd).length=r.len:=by rw[s_];rfl
    show List.take K (iR n r.bd++logB (n+r.len) rs)=[]++_
    rw[tX (by omega),ey]
   ·by_cases h8:K<8
    ·exact .inl (by rw[fO];omega)
    ·right
     have J:(iR n r.bd).length=r.len:=by rw[s_];rfl
     have h4:((iR n r.bd).take K).take 4=le 4 r.bd.length:=by
      rw[List.take_take,Bd (by omega),iR,cP,tX (by rw[dL];omega),gj (by rw[dL];omega)]
     have hb:=hr.len
     have hlen:r.len=8+r.bd.length:=rfl
     rw[h4,sW,fO,rJ (by simp;omega)]
     omega
structure Lv (δ:Dk): Prop where
 alive:δ.dead=false
 aT:δ.aT<0
theorem Lv.dU (h:Lv δ): (δ.dU n).1=0∧Lv (δ.dU n).2:=by
 unfold Dk.dU
 split
 ·rename_i I
  unfold Dk.rC
  rw[ak (by rw[h.alive];decide),ak (by omega),ak (by have:=h.aT;omega),iN h.aT]
  exact⟨rfl,h.alive,h.aT⟩
 ·exact⟨rfl,h⟩
theorem Lv.cg (h:Lv δ): δ.cg.1=0∧Lv δ.cg.2:=by
 unfold Dk.cg
 rw[ak (by rw[h.alive];decide),ak (by have:=h.aT;omega),iN h.aT]
 exact⟨rfl,h.alive,h.aT⟩
theorem Lv.dc (h:Lv δ): (δ.dc n).1=0∧Lv (δ.dc n).2:=by
 obtain⟨J,I⟩:=h.dU (n:=n)
 unfold Dk.dc
 rw[ak (not_not_intro J)]
 split
 ·exact I.cg
 ·exact⟨rfl,I⟩
theorem Lv.bz {n:Int}(h:Lv δ)(I:0≤n)(J:n<δ.aq.length)(hb:b.length=512): (δ.bz n b).1=0∧Lv (δ.bz n b).2:=by
 unfold Dk.bz
 rw[ak (by rw[h.alive];decide),ak (not_not_intro ⟨I,J,hb⟩),ak (by have:=h.aT;omega)]
 refine⟨rfl,h.alive,?_⟩
 show δ.cV.aT<0
 rw[iN h.aT];exact h.aT
theorem Lv.again (J:ρ.Ok): ∀ {l:List Int} {δ:Dk},(∀k∈l,0≤k)→Lv δ→(againW ρ l δ).1=0∧Lv (againW ρ l δ).2:=by
 intro l
 induction l with
 |nil=>intro δ _ h;exact⟨rfl,h⟩
 |cons k l ih =>
  intro δ hl h
  have I:∀k∈l,0≤k:=fun x hx=>hl x (b8 _ hx)
  rw[againW]
  cases hq:lookL k ρ.aq with
  |none=>exact ih I h
  |some b =>
   simp only
   split
   ·rename_i hg
    have hb:b.length=512:=J.len _ (fJ hq)
    obtain⟨w1,w2⟩:=h.bz (n:=k) (b:=cW b (oM ρ k)) (hl k bZ) hg.2 (oo hb).2.1
    rw[ak (not_not_intro w1)]
    exact ih I w2
   ·exact ih I h
theorem Lv.dQ (h:Lv δ): δ.dQ.1=0∧Lv δ.dQ.2:=by
 rw[Dk.dQ,ak (by rw[h.alive];decide),ak (by have:=h.aT;omega),iN h.aT]
 exact⟨rfl,h.alive,h.aT⟩
theorem Lv.e_ {base:Nat}(h:Lv δ)(J:∀r∈fK,r.Ok): (e_ δ base rs dP fK).1=0∧Lv (e_ δ base rs dP fK).2:=by
 have I:(redoL (base+szB dP) fK i_.none).Ok:=CV BK J
 obtain⟨o1,o2⟩:=h.dc (n:=szB rs)
 unfold Am.e_ mE
 rw[ak (not_not_intro o1)]
 obtain⟨a1,a2⟩:=Lv.again I (l:=aF (redoL (base+szB dP) fK i_.none).aq) (fun k hk=>(I.low k (CW.1 hk)).1) o2
 rw[ak (not_not_intro a1)]
 split
 ·exact⟨rfl,a2⟩
 ·exact a2.dQ
theorem US {c:List Nat}: Lv (fV δ c):=⟨rfl,by show(-1:Int)<0;decide⟩
theorem MX {P:List (Option (List Nat))}{x:List Nat}(h:∀(j:Nat) (b:List Nat),P[j]?=some (some b)→b.length=512)(J:x.length=512): ∀(j:Nat) (b:List Nat),(P.set i (some x))[j]?=some (some b)→b.length=512:=fun j b I=>by
 rw[ES] at I
 split at I
 ·split at I
  ·injection I with I;injection I with I;rw[←I];exact J
  ·cases I
 ·exact h j b I
theorem UT {c:List Nat}(h:δ.Cr): oX (fV δ c) 65536∧(fV δ c).aq.length=δ.aq.length:=by
 have hl:=h.ok.len
 have hr:=h.ok.room
 have hc:=h.ok.bj
 have hlen:(fV δ c).aq.length=δ.aq.length:=by
  show(tornP c _ _ δ.dG).length=_
  cases δ.dG with
  |none=>exact FW
  |some w=>rw[tornP,dJ,FW]
 have J:=MT (c:=c) (i:=0) (fun w hw=>(h.wait w hw).2) h.ok.aq
 have Jv:∀(j:Nat) (b:List Nat),(fV δ c).aq[j]?=some (some b)→b.length=512:=by
  show ∀(j:Nat) (b:List Nat),(tornP c _ _ δ.dG)[j]?=some (some b)→b.length=512
  cases ht:δ.dG with
  |none=>exact J
  |some w =>
   have hw:=(h.dG w ht).2
   refine MX J ?_
   have I:((layW c 0 δ.waiting δ.aq).getD w.1 none).getD []=[]∨(((layW c 0 δ.waiting δ.aq).getD w.1 none).getD []).length=512:=by
    rw[lW]
    cases hq:(layW c 0 δ.waiting δ.aq)[w.1]? with
    |none=>exact .inl rfl
    |some o =>
     cases o with
     |none=>exact .inl rfl
     |some b=>exact .inr (J _ _ hq)
   have h2:(bu (List.replicate 512 0) 0 (((layW c 0 δ.waiting δ.aq).getD w.1 none).getD [])).length=512:=by
    rw[c9 (by rw[fN];rcases I with I|I<;>rw[I]<;>decide),fN]
   rw[c9 (by rw[h2,fO];omega),h2]
 refine⟨⟨⟨by show(-1:Int)<_;decide,?_,hr,fun e he=>(by cases he),Jv,aU _,by rw[hlen];exact h.ok.many⟩,by show 0+65536≤_;decide,fun e he=>(by cases he)⟩,hlen⟩
 show(sZ δ c).length≤_
 have ht:=h.tail
 rw[sZ,bV,fO,fO,bV,EW]
 omega
def j4 (c:cq)(σ:Int→List Nat): Int→List Nat:=fun n=>if n=c.aM then(if c.whole=true then c.b else bu (σ n) c.pos.toNat c.b) else σ n
def jd (cs:List cq)(σ:Int→List Nat): Int→List Nat:=cs.foldl (fun σ c=>j4 c σ) σ
def eA (rs:List cz)(σ:Int→List Nat): Int→List Nat:=rs.foldl (fun σ r=>jd r.aR σ) σ
theorem qK {x y:List cz}: eA (x++y) σ=eA y (eA x σ):=by grind[eA]
theorem Kn {x y:List cq}: jd (x++y) σ=jd y (jd x σ):=by grind[jd]
def AT (cs:List cq)(n:Int): Prop:=∃c∈cs,c.aM=n∧c.whole=true
def tc (rs:List cz)(n:Int): Prop:=∃r∈rs,AT r.aR n
structure vI (ρ:i_)(σ:Int→List Nat)(W:Int→Prop): Prop where
 some:∀n b,lookL n ρ.aq=some b→b=σ n∧W n
 none:∀n,lookL n ρ.aq=none→¬W n
theorem vI.kj {W:Int→Prop}(h:vI ρ σ W)(k:Nat)(c:cq): vI (chgF k c ρ) (j4 c σ) (fun n=>W n∨(c.aM=n∧c.whole=true)):=by
 unfold chgF
 by_cases hw:c.whole=true
 ·rw[aP hw]
  refine⟨fun n b I => ?_,fun n I => ?_⟩
  ·rw[gL] at I
   by_cases J:c.aM=n
   ·grind[j4]
   ·rw[ak J] at I
    have:=h.some n b I
    grind[j4]
  ·rw[gL] at I
   by_cases J:c.aM=n
   ·grind
   ·rw[ak J] at I
    rintro(q|q)
    ·exact h.none n I q
    ·omega
 ·rw[ak hw]
  cases hl:lookL c.aM ρ.aq with
  |none =>
   refine⟨fun n b I => ?_,fun n I => ?_⟩
   ·have:=h.some n b I
    grind[j4]
   ·rintro(q|q)
    ·exact h.none n I q
    ·grind
  |some x =>
   have hx:=h.some _ x hl
   refine⟨fun n b I => ?_,fun n I => ?_⟩
   ·rw[gL] at I
    by_cases J:c.aM=n
    ·grind[j4]
    ·rw[ak J] at I
     have:=h.some n b I
     grind[j4]
   ·rw[gL] at I
    by_cases J:c.aM=n
    ·grind
    ·rw[ak J] at I
     rintro(q|q)
     ·exact h.none n I q
     ·omega
theorem vI.iff {W J:Int→Prop}(h:vI ρ σ W)(hw:∀n,W n↔J n): vI ρ σ J:=⟨fun n b I=>⟨(h.some n b I).1,(hw n).1 (h.some n b I).2⟩,fun n I q=>h.none n I ((hw n).2 q)⟩
theorem vI.aR : ∀ {cs:List cq} {ρ:i_} {σ:Int→List Nat} {W:Int→Prop},vI ρ σ W→vI (Et k cs ρ) (jd cs σ) (fun n=>W n∨AT cs n):=by
 intro cs
 induction cs with
 |nil=>intro ρ σ W h;exact h.iff fun n=>⟨.inl,fun q=>q.elim id fun⟨c,I,_⟩=>(by cases I)⟩
 |cons c cs J =>
  intro ρ σ W h
  refine(J (h.kj k c)).iff fun n => ?_
  constructor
  ·rintro((q|q)|⟨c',I,q⟩)
   ·grind
   ·exact .inr ⟨c,bZ,q⟩
   ·exact .inr ⟨c',b8 _ I,q⟩
  ·rintro(q|⟨c',I,q⟩)
   ·grind
   ·rcases List.mem_cons.1 I with rfl|I
    ·grind
    ·exact .inr ⟨c',I,q⟩
theorem vI.OY : ∀ {rs:List cz} {k:Nat} {ρ:i_} {σ:Int→List Nat} {W:Int→Prop},vI ρ σ W→vI (redoL k rs ρ) (eA rs σ) (fun n=>W n∨tc rs n):=by
 intro rs
 induction rs with
 |nil=>intro k ρ σ W h;exact h.iff fun n=>⟨.inl,fun q=>q.elim id fun⟨r,I,_⟩=>(by cases I)⟩
 |cons r rs ih =>
  intro k ρ σ W h
  refine(ih (h.aR (k:=k))).iff fun n => ?_
  constructor
  ·rintro((q|q)|⟨J,I,q⟩)
   ·grind
   ·exact .inr ⟨r,bZ,q⟩
   ·exact .inr ⟨J,b8 _ I,q⟩
  ·rintro(q|⟨J,I,q⟩)
   ·grind
   ·rcases List.mem_cons.1 I with rfl|I
    ·grind
    ·exact .inr ⟨J,I,q⟩
theorem Yd (rs:List cz)(k:Nat)(σ:Int→List Nat): vI (redoL k rs i_.none) (eA rs σ) (tc rs) :=
 (vI.OY (ρ:=i_.none) (W:=fun _=>False) ⟨fun n b I=>(by cases I),fun n _ q=>q⟩).iff fun n=>⟨fun q=>q.elim False.elim id,.inr⟩
def iO (a b:List Nat): Prop:=a.length=512∧b.length=512∧a.drop 12=b.drop 12
theorem iO.symm {a:List Nat}(h:iO a b): iO b a:=⟨h.2.1,h.1,h.2.2.symm⟩
theorem iO.trans {a c:List Nat}(h:iO a b)(g:iO b c): iO a c:=⟨h.1,g.2.1,h.2.2.trans g.2.2⟩
theorem iO.refl {a:List Nat}(h:a.length=512): iO a a:=⟨h,h,rfl⟩
theorem CX (h:b.length=512): iO (cW b n) b:=⟨(oo h).2.1,h,(oo h).1⟩
theorem iO.good {a:List Nat}(h:iO a b): bW a=bW b:=Ec (h.1.trans h.2.1.symm) h.2.2
theorem aaz {pg:Int}{now:List Nat}{l:List cq}(hr:u6 pg dX now i l): ∀ {σ:Int→List Nat},now.length=512→(σ pg).length=512→12≤i→(∀j,12≤j→j<i→(σ pg)[j]?=now[j]?)→(∀j,i≤j→(σ pg)[j]?=dX[j]?) →
  (jd l σ pg).length=512∧(∀j,12≤j→(jd l σ pg)[j]?=now[j]?)∧∀n,n≠pg→jd l σ n=σ n:=by
 induction hr with
 |done i h =>
  intro σ hn hs h12 I hhi
  refine⟨hs,fun j hj => ?_,fun _ _=>rfl⟩
  by_cases yU:j<i
  ·exact I j hj yU
  ·show(σ pg)[j]?=_
   grind
 |skip i l h he hr ih =>
  grind
 |take i e l h1 h2 _ _ hr ih =>
  intro σ hn hs h12 I hhi
  have hg:∀j,(bu (σ pg) i ((now.take e).drop i))[j]?=if i≤j∧j<e then now[j]? else(σ pg)[j]?:=fun j=>by
   grind[yw]
  have hc:j4 ⟨pg,i,false,(now.take e).drop i⟩ σ pg=bu (σ pg) i ((now.take e).drop i):=by grind[j4]
  obtain⟨k1,k2,k3⟩:=ih (σ:=j4 ⟨pg,i,false,(now.take e).drop i⟩ σ) hn (by grind) (by omega) (fun j hj hje=>by
   grind) (fun j hj=>by grind)
  refine⟨k1,k2,fun n J => ?_⟩
  have:=k3 n J
  rw[show jd (⟨pg,i,false,(now.take e).drop i⟩::l) σ=jd l (j4 ⟨pg,i,false,(now.take e).drop i⟩ σ) from rfl,this,j4,ak J]
theorem MY {a:List Nat}(I:a.length=512)(J:b.length=512)(h:∀j,12≤j→a[j]?=b[j]?): iO a b :=
 ⟨I,J,uc fun i=>by grind⟩
theorem aaA {pg:Int}{now:List Nat}{c:List cq}(I:GP pg dX now c)(J:now.length=512)(hs:iO (σ pg) dX): iO (jd c σ pg) now∧∀n,n≠pg→jd c σ n=σ n:=by
 obtain⟨l,hl,rfl⟩:=I
 have hd:∀j,12≤j→(σ pg)[j]?=dX[j]?:=fun j hj=>by
  have:=jm (fun l:List Nat=>l[j-12]?) hs.2.2
  grind
 obtain⟨k1,k2,k3⟩:=aaz hl J hs.1 (aU _) (fun j h1 h2=>by omega) hd
 by_cases hz:l=[]
 ·simp_all[jd,j4,bu,MY]
 ·grind[MY]
def imgOf (δ:Dk)(n:Int): List Nat:=match δ.aq[n.toNat]? with
 |some (some b)=>b
 |_=>List.replicate 512 0
def vf (δ:Dk)(n:Int)(w:List Nat): Prop:=w=imgOf δ n∨∃wr∈δ.waiting,((wr.1:Nat):Int)=n∧w=wr.2
def Cj (δ:Dk)(n:Int): Prop:=0≤n∧n<(δ.aq.length:Int)
def vg (r:cz)(n:Int): Prop:=∃c∈r.aR,c.aM=n
structure RI (ba:Nat)(mD:Int→Prop)(B0:Int→List Nat)(rs:List cz)(g:Int→Option Nat)(C:Int→List Nat→Prop)(d:List (Int×(Nat×Bool)))(x:LD): Prop where
 base:x.1.base=ba
 b:x.1.b=logB ba rs
 log:x.2.log=logB ba rs
 alive:x.2.dead=false
 aT:x.2.aT<0
 forced:∃u v,rs=u++v∧x.1.forced=szB u
 cert:x.1.forced≤x.2.bj
 kL:∀n w t t',Cj x.2 n→rs=t++t'→x.1.forced≤szB t→(∀rec,g n=some rec→ba+szB t≤rec)→vf x.2 n w→iO (eA t B0 n) w
 br:∀n rec,g n=some rec→∃t r t',rs=t++r::t'∧rec=ba+szB t∧AT r.aR n
 clean:∀n,g n=none→∀wr∈x.2.waiting,((wr.1:Nat):Int)≠n
 Ew:∀n b,C n b→∃rec t r t',lookL n d=some (rec,true)∧rs=t++r::t'∧dh b 4 8=ba+szB t∧rec≤ba+szB t∧(¬mD n→∀t1 r1 t2,rs=t1++r1::t2→vg r1 n→szB t1≤szB t)
 flag:∀n rec,lookL n d=some (rec,false)→rec<ba+x.1.forced∧(¬mD n→∀t r t',rs=t++r::t'→vg r n→szB t<x.1.forced)
 ft:∀n rec,lookL n d=some (rec,true)→∃b,C n b
 now:∀n b,lookL n x.2.now=some b→∃wr∈x.2.waiting,((wr.1:Nat):Int)=n∧wr.2=b
 AU:∀n rec fl,lookL n d=some (rec,fl)→g n=some rec
 Ko:∀n rec,g n=some rec→mD n∨∃fl,lookL n d=some (rec,fl)
 ck:∀n w,0≤n→vf x.2 n w→h_ w=0
 Sb:∀n,mD n→lookL n d=none→∃t r,rs=t++[r]∧g n=some (ba+szB t)
theorem UU {n:Int}(I:δ.dead=false)(J:δ.aT<0)(h0:0≤n)(h1:n<δ.aq.length)(hb:b.length=512): δ.bz n b=(0,{ δ with waiting:=δ.waiting++[(n.toNat,b)],now:=cD n b δ.now,aT:=δ.aT }):=by
 grind[Dk.bz,Dk.wr,iN]
theorem tf {v:List cz}: szB u≤szB (u++v):=by rw[qJ];omega
theorem Ck (r:cz): 8≤r.len:=by simp only[cz.len];omega
theorem xA {t t':List cz}: szB t<szB (t++r::t'):=by
 grind[Ck,qJ,szB]
section
variable {C:Int→List Nat→Prop}
theorem RI.len (h:RI ba mD B0 rs g C d x): x.1.b.length=szB rs:=by rw[h.b,fW]
theorem RI.le (h:RI ba mD B0 rs g C d x): x.1.forced≤szB rs:=by
 obtain⟨u,v,hu,I⟩:=h.forced
 rw[I,hu];exact tf
theorem RI.all (h:RI ba mD B0 rs g C d x): RI ba mD B0 rs g C d ({ x.1 with forced:=x.1.b.length },{ x.2 with bj:=x.2.log.length }):=by
 have J:=h.len
 have hle:x.1.forced≤x.1.b.length:=by rw[J];exact h.le
 refine⟨h.base,h.b,h.log,h.alive,h.aT,⟨rs,[],by simp,J⟩,by rw[h.b,h.log];exact aU _,
  fun n w t t' h0 ht I hr hc=>h.kL n w t t' h0 ht (bX hle I) hr hc,h.br,h.clean,h.Ew,fun n rec hn=>⟨iS (h.flag n rec hn).1 (wm hle _),fun hp t r t' e q=>iS ((h.flag n rec hn).2 hp t r t' e q) hle⟩,h.ft,h.now,h.AU,h.Ko,h.ck,h.Sb⟩
theorem RI.force (h:RI ba mD B0 rs g C d x)(n:Nat)(hn:n<ba+szB rs): ∃I,aJ x n=(0,I)∧RI ba mD B0 rs g C d I∧n<ba+I.1.forced∧I.2.waiting=x.2.waiting∧I.2.aq=x.2.aq∧I.2.now=x.2.now:=by
 unfold aJ
 by_cases J:n<x.1.base+x.1.forced
 ·rw[aP J];exact⟨x,rfl,h,by rw[←h.base];exact J,rfl,rfl,rfl⟩
 ·have e:x.2.cg=(0,{ x.2 with bj:=x.2.log.length }):=by
   rw[Dk.cg,ak (by rw[h.alive];decide),ak (by have:=h.aT;omega),iN h.aT]
  rw[ak J,e,ak (by simp)]
  exact⟨_,rfl,h.all,by rw[h.len];exact hn,rfl,rfl,rfl⟩
theorem RI.AV (h:RI ba mD B0 rs g C d x): ∃I,aJ x (ba+szB rs)=(0,I)∧RI ba mD B0 rs g C d I∧I.1.forced=szB rs∧I.2.waiting=x.2.waiting∧I.2.aq=x.2.aq∧I.2.now=x.2.now:=by
 have e:x.2.cg=(0,{ x.2 with bj:=x.2.log.length }):=by
  rw[Dk.cg,ak (by rw[h.alive];decide),ak (by have:=h.aT;omega),iN h.aT]
 unfold aJ
 rw[ak (by rw[h.base];have:=h.le;omega),e,ak (by simp)]
 exact⟨_,rfl,h.all,h.len,rfl,rfl,rfl⟩
theorem RI.kK (N:Nat): mz N (RI ba mD B0 rs g):=by
 refine⟨fun ε i f he hf h0 hc h => ?_⟩
 obtain⟨rec,t0,r0,t0',g1,g2,g3,g4,g5⟩:=h.Ew f.aM f.b ⟨i,f,hf,rfl,h0,hc,rfl⟩
 have nM:=(he.back i f hf).resolve_left (by omega)
 have hg:=nM.kj hc
 obtain⟨x',mY,h',cI,w1,w2,w3⟩:=h.force (dh f.b 4 8) (by grind[xA])
 have I:=UU (δ:=x'.2) (n:=f.aM) (b:=f.b) h'.alive h'.aT h0 (by rw[w2,he.dk.aq];exact nM.lt) (eB hg)
 have e:outF ε i=(0,({ ε.1 with ai:=ε.1.ai.set i { f with changed:=false },br:=cD f.aM (mu ε.1 f.aM,false) ε.1.br },(x'.1,{ x'.2 with waiting:=x'.2.waiting++[(f.aM.toNat,f.b)],now:=cD f.aM f.b x'.2.now,aT:=x'.2.aT }))):=by
  grind[outF]
 have Ry:mu ε.1 f.aM=rec:=by simp only[mu,g1]
 have hC:∀n b,j8 { ε.1 with ai:=ε.1.ai.set i { f with changed:=false },br:=cD f.aM (mu ε.1 f.aM,false) ε.1.br } n b→j8 ε.1 n b∧n≠f.aM:=by
  rintro n b ⟨j,y,hy,k1,k0,k2,k3⟩
  rcases qG hf hy with⟨rfl,rfl⟩|⟨tB,hy⟩
  ·cases k2
  ·refine⟨⟨j,y,hy,k1,k0,k2,k3⟩,fun J=>tB ?_⟩
   have h1:=((he.back j y hy).resolve_left (by omega)).here
   rw[k1,J,nM.here] at h1
   have:=cA h1
   omega
 have hC2:∀n b,j8 ε.1 n b→n≠f.aM→j8 { ε.1 with ai:=ε.1.ai.set i { f with changed:=false },br:=cD f.aM (mu ε.1 f.aM,false) ε.1.br } n b:=by
  rintro n b ⟨j,y,hy,k1,k0,k2,k3⟩ J
  refine⟨j,y,?_,k1,k0,k2,k3⟩<;>grind
 have hd:∀m,lookL m (cD f.aM (rec,false) ε.1.br)=if f.aM=m then some (rec,false) else lookL m ε.1.br:=fun m=>gL _
 show RI ba mD B0 rs g (j8 (outF ε i).2.1) (outF ε i).2.1.br (outF ε i).2.2
 rw[e]
 simp only[Ry] at hC hC2 ⊢
 have Vs:g f.aM=some rec:=h.AU _ _ _ g1
 refine⟨h'.base,h'.b,h'.log,h'.alive,h'.aT,h'.forced,h'.cert,fun n w t t' wP ht Cl hr sI => ?_,h'.br,fun n J wr I => ?_,fun n b hb => ?_,fun n AW J => ?_,fun n AW J => ?_,fun n b hb => ?_,fun n AW fl J => ?_,fun n AW J => ?_,fun n w wP sI => ?_,fun n hp J => ?_⟩
 ·by_cases J:f.aM=n
  ·grind
  ·have adb:vf x'.2 n w:=by
    rcases sI with hq|⟨wr,I,q1,q2⟩
    ·exact .inl hq
    ·rcases List.mem_append.1 I with I|I
     ·exact .inr ⟨wr,I,q1,q2⟩
     grind
   exact h'.kL n w t t' wP ht Cl hr adb
 ·rcases List.mem_append.1 I with I|I
  ·exact h'.clean n J wr I
  grind
 ·obtain⟨k1,k2⟩:=hC n b hb
  obtain⟨r',t,r,t',m1,m2⟩:=h.Ew n b k1
  exact⟨r',t,r,t',by grind,m2⟩
 ·rw[hd] at J
  by_cases hq:f.aM=n
  ·grind
  ·rw[ak hq] at J
   exact h'.flag n AW J
 ·rw[hd] at J
  by_cases hq:f.aM=n
  ·grind
  ·rw[ak hq] at J
   obtain⟨b,hb⟩:=h.ft n AW J<;>grind
 ·rw[gL] at hb
  by_cases hq:f.aM=n
  ·rw[aP hq] at hb
   injection hb with hb
   exact⟨(f.aM.toNat,f.b),List.mem_append.2 (.inr bZ),by omega,hb⟩
  ·rw[ak hq] at hb
   obtain⟨wr,k1,k2⟩:=h'.now n b hb<;>grind
 ·rw[hd] at J
  by_cases hq:f.aM=n
  ·grind
  ·rw[ak hq] at J
   exact h.AU n AW fl J
 ·rcases h.Ko n AW J with q|⟨fl,q⟩<;>grind
 ·rcases sI with hq|⟨wr,I,q1,q2⟩
  ·exact h'.ck n w wP (.inl hq)
  ·rcases List.mem_append.1 I with I|I
   ·exact h'.ck n w wP (.inr ⟨wr,I,q1,q2⟩)
   ·rw[q2,List.mem_singleton.1 I];exact nM.aC
 ·rw[hd] at J
  by_cases hq:f.aM=n
  ·grind
  ·rw[ak hq] at J
   exact h.Sb n hp J
theorem RI.app (h:RI ba (fun _=>False) B0 rs g C d x)(hw:∀n,g n=none→vg r n→AT r.aR n)(m1:μ.base=x.1.base)(m2:μ.b=logB ba (rs++[r]))(m3:μ.forced=x.1.forced)
 (e1:δ.log=logB ba (rs++[r]))(e2:δ.dead=x.2.dead)(e3:δ.aT=x.2.aT)(e4:δ.bj=x.2.bj)(e5:δ.waiting=x.2.waiting)(e6:δ.aq=x.2.aq)(e7:δ.now=x.2.now){p:Int→Prop}[DecidablePred p](hp:∀n,p n↔vg r n):
  RI ba p B0 (rs++[r]) (fun n=>match g n with|some rec=>some rec|none=>if p n then some (ba+szB rs) else none) C d (μ,δ):=by
 have I:∀n w,vf δ n w→vf x.2 n w:=fun n w hc=>by
  grind[vf,imgOf]
 have Wi:∀ {n rec},g n=some rec→(match g n with|some rec=>some rec|none=>if p n then some (ba+szB rs) else none)=some rec:=fun J=>by rw[J]
 have abM:∀ {n},(match g n with|some rec=>some rec|none=>if p n then some (ba+szB rs) else none)=none→g n=none∧¬p n:=fun {n} J=>by
  grind
 have Wj:∀ {n rec},(match g n with|some rec=>some rec|none=>if p n then some (ba+szB rs) else none)=some rec→g n=some rec∨(g n=none∧p n∧rec=ba+szB rs):=fun {n rec} J=>by
  grind
 have abN:∀ {n t r1 t'},rs++[r]=t++r1::t'→vg r1 n→¬p n→∃Sc,rs=t++r1::Sc:=fun {n t r1 t'} ht hc J=>by
  rcases wj t' with rfl|⟨Sc,z,rfl⟩<;>grind[List.append_inj']
 refine⟨m1.trans h.base,m2,e1,e2.trans h.alive,by rw[e3];exact h.aT,?_,by rw[m3,e4];exact h.cert,fun n w t t' h0 ht Cl hr hc => ?_,fun n rec J => ?_,fun n J => ?_,fun n b hb => ?_,fun n rec J => ?_,h.ft,fun n b hb => ?_,fun n rec fl J => ?_,fun n rec J => ?_,fun n w h0 hc=>h.ck n w h0 (I n w hc),fun n Kp J=>⟨rs,r,rfl,?_⟩⟩
 ·obtain⟨u,v,hu,hf⟩:=h.forced<;>grind
 ·have Cl:x.1.forced≤szB t:=by grind
  rcases wj t' with rfl|⟨Sc,z,rfl⟩
  ·-- all of it
   rw[dS] at ht
   subst ht
   have hg:g n=none∧¬p n:=by
    cases hq:g n with
    |some rec =>
     obtain⟨a,b,c,k1,k2,_⟩:=h.br n rec hq<;>grind[xA]
    |none =>
     grind[xA]
   have hs:eA (rs++[r]) B0 n=eA rs B0 n:=by
    rw[qK]
    have:∀(l:List cq) (σ:Int→List Nat),(∀c∈l,c.aM≠n)→jd l σ n=σ n:=by
     intro l
     induction l with
     |nil=>intro σ _;rfl
     |cons c l ih =>
      intro σ hl
      show jd l (j4 c σ) n=σ n
      grind[j4]
    exact this _ _ fun c hc q=>hg.2 ((hp n).2 ⟨c,hc,q⟩)
   rw[hs]
   exact h.kL n w rs [] (by rw[Cj,←e6];exact h0) (by simp) h.le (fun rec q=>by grind) (I n w hc)
  ·have VT:rs++[r]=(t++Sc)++[z]:=by grind
   have ht3:=(List.append_inj' VT rfl).1
   exact h.kL n w t Sc (by rw[Cj,←e6];exact h0) ht3 Cl (fun rec q=>hr rec (Wi q)) (I n w hc)
 ·rcases Wj J with hq|⟨hq,Kp,rfl⟩
  ·obtain⟨a,b,c,k1,k2,k3⟩:=h.br n rec hq<;>grind
  ·grind
 ·rw[e5]
  exact h.clean n (abM J).1
 ·obtain⟨rec,t,r1,t',k1,k2,k3,k4,k5⟩:=h.Ew n b hb
  refine⟨rec,t,r1,t'++[r],k1,by grind,k3,k4,fun Kp t1 r2 t2 e q => ?_⟩
  obtain⟨t3,e3⟩:=abN e q Kp
  exact k5 (fun q=>q) t1 r2 t3 e3 q
 ·obtain⟨k1,k2⟩:=h.flag n rec J<;>grind
 ·obtain⟨wr,k1,k2⟩:=h.now n b (by grind)
  exact⟨wr,by grind,k2⟩
 ·exact Wi (h.AU n rec fl J)
 ·rcases Wj J with hq|⟨hq,Kp,rfl⟩
  ·rcases h.Ko n rec hq with q|q
   ·grind
   ·grind
  ·grind
 ·cases hq:g n with
  |none=>grind
  |some rec =>
   rcases h.Ko n rec hq with q|⟨fl,q⟩
   ·grind
   ·grind
end
theorem UW (I:b.length=512)(J:n<18446744073709551616): dh (cW b n) 4 8=n:=by
 have h3:=(oo (n:=n) I).2.2.1
 have e1:dh (cW b n) 4 8=leN (((cW b n).drop 4).take 8):=by rfl
 grind[oV,le,bu,dL,sW]
theorem lookL_filter {n:Int}: ∀ {d:List (Int×(Nat×Bool))},(d.map (·.1)).Nodup→lookL n (d.filter fun e=>e.2.2)=match lookL n d with|some (rec,true)=>some (rec,true)|_=>none:=by
 intro d
 induction d<;>grind[lookL,gx]
section
theorem mG {p:Int→Prop}: vw (RI ba p B0 rs g) ε↔RI ba p B0 rs g (j8 ε.1) ε.1.br ε.2:=Iff.rfl
theorem RI.put (h:vw (RI ba mD B0 rs g) ε)(he:EC N ε){n:Int}{f:Fm}(hl:lookL n ε.1.aH=some (i:Int))(hf:ε.1.ai[i]?=some f)(hb:b.length=512)(h0:0≤n)(hp:mD n)
 (J:∃t r,rs=t++[r]∧aO=ba+szB t)(cI:aO<18446744073709551616): vw (RI ba (fun m=>mD m∧m≠n) B0 rs g) (vV ε.1 n i f b aO,ε.2):=by
 have hi:=(List.getElem?_eq_some_iff.1 hf).1
 obtain⟨t0,r0,e0,e1⟩:=J
 have nN:f.aM=n:=by
  obtain⟨_,j,x,tB,hx,Ju⟩:=he.jY n i hl<;>grind
 have hd:∀m,lookL m (cD n (dirtOf ε.1 n aO,true) ε.1.br)=if n=m then some (dirtOf ε.1 n aO,true) else lookL m ε.1.br:=fun m=>gL _
 have hg:g n=some (dirtOf ε.1 n aO)∧dirtOf ε.1 n aO≤aO:=by
  cases I:lookL n ε.1.br with
  |some x =>
   obtain⟨rec,fl⟩:=x
   have:=h.AU n rec fl I
   have e:dirtOf ε.1 n aO=rec:=by simp only[dirtOf,I]
   rw[e]
   refine⟨this,?_⟩
   obtain⟨a,c,a',k1,k2,_⟩:=h.br n rec this
   rw[k2,e1]
   have:szB a≤szB t0:=by
    rcases wj a' with rfl|⟨yT,z,rfl⟩<;>grind[List.append_inj',tf]
   omega
  |none =>
   have e:dirtOf ε.1 n aO=aO:=by simp only[dirtOf,I]
   obtain⟨t,r,k1,k2⟩:=h.Sb n hp I<;>grind[List.append_inj']
 have hC:∀m c,j8 (vV ε.1 n i f b aO) m c→(m=n∧c=cW b aO)∨(m≠n∧j8 ε.1 m c):=by
  rintro m c ⟨j,y,hy,k1,k0,k2,k3⟩
  rcases qG hf hy with⟨rfl,rfl⟩|⟨tB,hy⟩
  ·grind
  ·refine .inr ⟨fun hmn=>tB ?_,j,y,hy,k1,k0,k2,k3⟩
   have h1:=((he.back j y hy).resolve_left (by omega)).here
   grind
 have hC2:j8 (vV ε.1 n i f b aO) n (cW b aO):=⟨i,{ f with b:=cW b aO,changed:=true,pins:=0 },by exact kM hi,nN,h0,rfl,rfl⟩
 have hC3:∀m c,m≠n→j8 ε.1 m c→j8 (vV ε.1 n i f b aO) m c:=by
  rintro m c hm ⟨j,y,hy,k1,k0,k2,k3⟩
  refine⟨j,y,?_,k1,k0,k2,k3⟩
  show(ε.1.ai.set i _)[j]?=some y
  grind
 have Kp:∀ {m},m≠n→¬(mD m∧m≠n)→¬mD m:=fun hm I jM=>I ⟨jM,hm⟩
 refine⟨h.base,h.b,h.log,h.alive,h.aT,h.forced,h.cert,h.kL,h.br,h.clean,fun m c hc => ?_,fun m rec hm => ?_,fun m rec hm => ?_,h.now,fun m rec fl hm => ?_,fun m rec hm => ?_,h.ck,fun m hm I => ?_⟩
 ·rcases hC m c hc with⟨rfl,rfl⟩|⟨hm,hc⟩
  ·refine⟨dirtOf ε.1 m aO,t0,r0,[],?_,e0,?_,?_,fun _ t1 r1 t2 q _ => ?_⟩
   ·show lookL m (cD m _ _)=_;rw[hd,aP rfl]
   ·rw[UW hb cI,e1]
   ·omega
   ·rcases wj t2 with rfl|⟨t3,z,rfl⟩<;>grind[List.append_inj',tf]
  ·obtain⟨rec,t,r,t',k1,k2,k3,k4,k5⟩:=h.Ew m c hc
   exact⟨rec,t,r,t',by show lookL m (cD n _ _)=_;rw[hd,ak (fun q=>hm q.symm)];exact k1,k2,k3,k4,fun q=>k5 (Kp hm q)⟩
 ·have hm:lookL m (cD n (dirtOf ε.1 n aO,true) ε.1.br)=some (rec,false):=hm
  rw[hd] at hm
  by_cases I:n=m
  ·grind
  ·rw[ak I] at hm
   obtain⟨k1,k2⟩:=h.flag m rec hm
   exact⟨k1,fun q=>k2 (Kp (fun q=>I q.symm) q)⟩
 ·have hm:lookL m (cD n (dirtOf ε.1 n aO,true) ε.1.br)=some (rec,true):=hm
  rw[hd] at hm
  by_cases I:n=m
  ·grind
  ·rw[ak I] at hm
   obtain⟨c,hc⟩:=h.ft m rec hm
   exact⟨c,hC3 m c (fun q=>I q.symm) hc⟩
 ·have hm:lookL m (cD n (dirtOf ε.1 n aO,true) ε.1.br)=some (rec,fl):=hm
  rw[hd] at hm
  by_cases I:n=m
  ·grind
  ·rw[ak I] at hm
   exact h.AU m rec fl hm
 ·by_cases I:n=m
  ·subst I
   rw[hg.1] at hm
   exact .inr ⟨true,by show lookL n (cD n _ _)=_;rw[hd,aP rfl,cA hm]⟩
  ·rcases h.Ko m rec hm with q|⟨fl,q⟩
   ·grind
   ·exact .inr ⟨fl,by show lookL m (cD n _ _)=_;rw[hd,ak I];exact q⟩
 ·have I:lookL m (cD n (dirtOf ε.1 n aO,true) ε.1.br)=none:=I
  rw[hd,ak (fun q=>hm.2 q.symm)] at I
  exact h.Sb m hm.1 I
theorem PtR.ri {l:List Int}(J:PtR now aO l ε e af): ∀ {p:Int→Prop},EC N ε→fG ε→NW N now→(∀n∈l,0≤n∧n<N)→l.Nodup→(∀n∈l,p n)→(∃t r,rs=t++[r]∧aO=ba+szB t)→aO<18446744073709551616 →
  vw (RI ba p B0 rs g) ε→vw (RI ba (fun m=>p m∧m∉l) B0 rs g) af:=by
 induction J with
 |nil ε =>
  simp
 |jj n l ε e b af J he =>
  intro p h h3 hn hl
  have:=hl n bZ
  exact absurd ((J.ec h).2.2.1 this.1 this.2).1 he
 |bad n l ε b0 b af J hb he =>
  intro p h h3 hn hl
  exact absurd ((J.put (b:=b) (aO:=aO) h3).2.2 (hn.look hb).1) he
 |put n l ε b0 b af e lz J hb he ht ih =>
  intro p h h3 hn hl iK hp I cI hv
  have j7:=hl n bZ
  obtain⟨k1,k2,k3,k4⟩:=J.ec h
  obtain⟨i,f,p1,p2,p3,p4,p5⟩:=J.at h3.pins
  have hg:=hn.look hb
  have e1:=tV (aO:=aO) p1 p2 p3 hg.1
  obtain⟨q1,q2⟩:=k1.put (aO:=aO) p1 p2 hg.1 hg.2 j7.1 j7.2
  have Jw:=(J.put (b:=b) (aO:=aO) h3).1
  have oO:vw (RI ba p B0 rs g) af:=(RI.kK N).jj J h hv
  have nL:=RI.put oO k1 p1 p2 (eB hg.1) j7.1 (hp n bZ) I cI
  rw[e1] at ih Jw
  obtain⟨d1,d2⟩:=List.nodup_cons.1 iK
  have:=ih q1 Jw hn (fun m hm=>hl m (b8 _ hm)) d2 (p:=fun m=>p m∧m≠n) (fun m hm=>⟨hp m (b8 _ hm),fun q=>d1 (by grind)⟩) I cI nL
  have e:(fun m=>(p m∧m≠n)∧m∉l)=(fun m=>p m∧m∉n::l):=funext fun m=>propext ⟨fun q=>⟨q.1.1,by grind⟩,fun q=>by
   grind⟩
  rw[←e];exact this
end
theorem Sd {n:Int}: ∀ {l:List cq} {σ:Int→List Nat},(∀c∈l,c.aM≠n)→jd l σ n=σ n:=by
 intro l
 induction l with
 |nil=>intro σ _;rfl
 |cons c l I =>
  intro σ J
  show jd l (j4 c σ) n=σ n
  grind[j4]
theorem Kq {n:Int}: ∀ {l:List cz} {σ:Int→List Nat},(∀r∈l,¬vg r n)→eA l σ n=σ n:=by
 intro l
 induction l with
 |nil=>intro σ _;rfl
 |cons r l J =>
  intro σ I
  show eA l (jd r.aR σ) n=σ n
  rw[J fun r hr=>I r (b8 _ hr),Sd fun c hc q=>I r bZ ⟨c,hc,q⟩]
def syG (d:List (Int×(Nat×Bool)))(n:Int): Option Nat:=match lookL n d with
 |some (rec,true)=>some rec
 |_=>none
section
theorem RI.img (h:vw (RI ba (fun _=>False) B0 rs g) ε)(he:EC N ε){n:Int}(I:0≤n): ((∃b,lookL n ε.2.2.now=some b∧imgOf ε.2.2.sync n=b)∨(lookL n ε.2.2.now=none∧imgOf ε.2.2.sync n=imgOf ε.2.2 n))∧imgOf ε.2.2.sync n=ε.2.2.at n:=by
 have e:imgOf ε.2.2.sync n=ε.2.2.at n:=by
  rw[imgOf,Dk.at,show ε.2.2.sync.aq=laidP ε.2.2.now ε.2.2.aq from rfl,laidP_get he.dk.aq he.dk.nodup he.dk.keys I]
  grind
 refine⟨?_,e⟩
 cases J:lookL n ε.2.2.now with
 |some b=>grind[Dk.at]
 |none=>exact .inr ⟨rfl,by rw[e,Dk.at,J];rfl⟩
theorem RI.sync (h:vw (RI ba (fun _=>False) B0 rs g) ε)(he:EC N ε)(fX:∀n,0≤n→n<(N:Int)→iO (eA rs B0 n) (pgA ε n)):
  dM ε.1 ε.2.2=(0,{ ε.1 with br:=ε.1.br.filter fun e=>e.2.2 },ε.2.2.sync)∧vw (RI ba (fun _=>False) B0 rs (syG ε.1.br)) ({ ε.1 with br:=ε.1.br.filter fun e=>e.2.2 },(ε.2.1,ε.2.2.sync)):=by
 have es:ε.2.2.dQ=(0,ε.2.2.sync):=by rw[Dk.dQ,ak (by rw[he.dk.alive];decide),ak (by have:=he.dk.aT;omega),iN he.dk.aT]
 have hd:∀n,lookL n (ε.1.br.filter fun e=>e.2.2)=match lookL n ε.1.br with|some (rec,true)=>some (rec,true)|_=>none:=fun n=>lookL_filter he.AK
 have jV:∀ {n rec fl},lookL n (ε.1.br.filter fun e=>e.2.2)=some (rec,fl)→fl=true∧lookL n ε.1.br=some (rec,true):=fun {n rec fl} hq=>by
  grind
 have Wk:∀ {n rec},syG ε.1.br n=some rec→lookL n ε.1.br=some (rec,true):=fun {n rec} hq=>by
  grind[syG]
 refine⟨by grind[dM],?_⟩
 refine⟨h.base,h.b,h.log,h.alive,h.aT,h.forced,h.cert,fun n w t t' I ht Cl hr hc => ?_,fun n rec hn=>h.br n rec (h.AU n rec _ (Wk hn)),fun n _ wr J=>(by cases J),fun n b hb => ?_,fun n rec hn => ?_,fun n rec hn => ?_,fun n b hb=>(by cases hb),fun n rec fl hn => ?_,fun n rec hn=>.inr ⟨true,?_⟩,fun n w I hc => ?_,fun n q=>q.elim⟩
 ·have mN:Cj ε.2.2 n:=⟨I.1,by have:=I.2;rw[show ε.2.2.sync.aq=laidP ε.2.2.now ε.2.2.aq from rfl,oh] at this;exact this⟩
  have I:=I.1
  obtain⟨k1,k2⟩:=RI.img h he I
  have hw:w=imgOf ε.2.2.sync n:=by
   rcases hc with hc|⟨wr,J,_⟩
   ·exact hc
   ·cases J
  have hold:(∀rec,g n=some rec→ba+szB t≤rec)→iO (eA t B0 n) w:=fun Cw=>by
   refine h.kL n w t t' mN ht Cl Cw ?_
   rcases k1 with⟨b,q1,q2⟩|⟨q1,q2⟩
   ·obtain⟨wr,m1,m2,m3⟩:=h.now n b q1
    exact .inr ⟨wr,m1,m2,by grind⟩
   ·exact .inl (by grind)
  cases hq:lookL n ε.1.br with
  |none =>
   refine hold fun rec Cw => ?_
   rcases h.Ko n rec Cw with q|⟨fl,q⟩
   ·grind
   ·grind
  |some x =>
   obtain⟨rec,fl⟩:=x
   cases fl with
   |true =>
    have:g n=some rec:=h.AU n rec _ hq
    grind[syG]
   |false =>
    have hN:=he.u_ n (fJ hq |> nj (f:=(·.1)))
    have nN:pgA ε n=ε.2.2.at n:=by
     rcases he.cases n with⟨j,f,q1,q2,q3,q4,q5,q6⟩|⟨q1,q2⟩
     ·rw[q6]
      cases hcg:f.changed with
      |false=>rw[q5.same hcg,q3]
      |true =>
       obtain⟨AW,_,_,_,m,_⟩:=h.Ew n f.b ⟨j,f,q2,q3,I,hcg,rfl⟩
       rw[hq] at m
       cases m
     ·exact q2
    have hS:eA rs B0 n=eA t B0 n:=by
     rw[ht,qK]
     refine Kq fun r hr jf => ?_
     obtain⟨a,b,rfl⟩:=List.append_of_mem hr
     have:=(h.flag n rec hq).2 (fun q=>q) (t++a) r b (by grind) jf
     grind[tf]
    rw[←hS,hw,k2,←nN]
    exact fX n I hN.2
 ·obtain⟨rec,t,r,t',m1,m2⟩:=h.Ew n b hb<;>grind
 ·grind
 ·exact h.ft n rec (jV hn).2
 ·grind[syG]
 ·grind
 ·rcases hc with hc|⟨wr,J,_⟩
  ·rcases (RI.img h he I).1 with⟨b,q1,q2⟩|⟨q1,q2⟩
   ·obtain⟨wr,m1,m2,m3⟩:=h.now n b q1
    exact h.ck n w I (.inr ⟨wr,m1,m2,by grind⟩)
   ·exact h.ck n w I (.inl (hc.trans q2))
  ·cases J
theorem Ye {f:Fm}(h:EC N ε)(hf:ε.1.ai[i]?=some f)(h0:0≤f.aM){n:Int}(hc:j8 (outF ε i).2.1 n b): j8 ε.1 n b∧n≠f.aM:=by
 obtain⟨o1,o2,o3,o4,gg,o5,o6,o7⟩:=h.out hf
 have I:=(h.back i f hf).resolve_left (by omega)
 obtain⟨j,y,hy,k1,k0,k2,k3⟩:=hc
 have mH:n≠f.aM:=by
  intro q
  have J:=(o2.back j y hy).resolve_left (by omega)
  have h1:=J.here
  rw[k1,q,o4,I.here] at h1
  grind
 grind[outF,j8]
theorem Lz {P:VP}(J:mz N P): ∀ {l:List Int} {ε:aX},EC N ε→(∀n∈l,(lookL n ε.1.aH).isSome=true)→vw P ε→vw P (writeAllF l ε).2∧∀n b,j8 (writeAllF l ε).2.1 n b→j8 ε.1 n b∧n∉l:=by
 intro l
 induction l with
 |nil=>intro ε h _ hv;exact⟨hv,fun n b q=>⟨q,by simp⟩⟩
 |cons n l ih =>
  intro ε h hl hv
  cases hq:lookL n ε.1.aH with
  |none=>grind
  |some i =>
   obtain⟨wP,j,f,rfl,I,hp⟩:=h.jY n i hq
   obtain⟨k1,k2,k3,k4,_⟩:=h.out I
   have e:eW ε n=outF ε j:=by grind[eW]
   rw[writeAllF,e,ak (by omega)]
   obtain⟨i1,i2⟩:=ih k2 (fun m hm=>by grind) (J.out h I hv)
   refine⟨i1,fun m b hm => ?_⟩
   obtain⟨q1,q2⟩:=i2 m b hm
   obtain⟨q3,q4⟩:=Ye h I (by omega) q1
   exact⟨q3,by grind⟩
theorem Hf (ε:aX): ∀n∈aF ε.1.aH,(lookL n ε.1.aH).isSome=true:=fun n I=>by
 cases J:lookL n ε.1.aH<;>grind[fB,gx]
theorem RI.Yf (h:vw (RI ba (fun _=>False) B0 rs g) ε)(he:EC N ε)(fX:∀n,0≤n→n<(N:Int)→iO (eA rs B0 n) (pgA ε n)): vw (RI ba (fun _=>False) B0 rs (fun _=>none)) (eN ε).2:=by
 have J:=Hf ε
 obtain⟨w1,w2,w3⟩:=ru he J
 obtain⟨a1,a2⟩:=Lz (RI.kK N) he J h
 obtain⟨s1,s2⟩:=RI.sync a1 w2 (fun n h0 h1=>by grind)
 have e:(eN ε).2=({ (writeAllF (aF ε.1.aH) ε).2.1 with br:=(writeAllF (aF ε.1.aH) ε).2.1.br.filter fun e=>e.2.2 },((writeAllF (aF ε.1.aH) ε).2.2.1,(writeAllF (aF ε.1.aH) ε).2.2.2.sync)):=by
  rw[eN,ak (by rw[he.dk.alive];decide),ak (by omega),s1]
 have H_:∀n b,¬j8 (writeAllF (aF ε.1.aH) ε).2.1 n b:=fun n b hc=>by
  obtain⟨q1,q2⟩:=a2 n b hc
  obtain⟨j,f,hf,k1,k0,k2,k3⟩:=q1
  have I:=(he.back j f hf).resolve_left (by omega)
  rw[←k1] at q2
  refine q2 (fB.2 ?_)
  have:=I.here
  exact fJ this |> nj (f:=(·.1))
 have hg:syG (writeAllF (aF ε.1.aH) ε).2.1.br=fun _=>none:=by
  grind[syG,ft]
 rw[hg] at s2
 rw[e];exact s2
end
theorem UX {pg:Int}{now:List Nat}{l:List cq}(I:u6 pg dX now i l): ∀c∈l,c.aM=pg:=by
 induction I<;>grind
theorem Kr {pg:Int}{now:List Nat}{c:List cq}(I:GP pg dX now c): (∀x∈c,x.aM=pg)∧c≠[]:=by
 obtain⟨l,J,rfl⟩:=I<;>grind[UX]
theorem aaB {pg:Int}{now:List Nat}{l:List cq}(I:u6 pg dX now i l)(J:∀x∈now,x<256): ∀c∈l,∀x∈c.b,x<256:=by
 induction I<;>grind
theorem aaC {pg:Int}{now:List Nat}{c:List cq}(I:GP pg dX now c)(J:∀x∈now,x<256): ∀x∈c,∀y∈x.b,y<256:=by
 obtain⟨l,hl,rfl⟩:=I
 by_cases hz:l=[]
 ·grind
 ·rw[ak hz]
  exact aaB hl J
theorem ChR.lt {l:List Int}(hr:ChR now l ε e cs af)(hn:NW N now): ∀c∈cs,∀x∈c.b,x<256:=by
 induction hr with
 |nil ε=>simp
 |err n l ε e b af hr he=>simp
 |part n l ε dX b af c e cs J hr hb jV hc je ht ih =>
  intro x I
  rcases List.mem_append.1 I with I|I
  ·exact aaC hc (hn.look hb).2 x I
  ·grind
 |whole n l ε dX b af e cs J hr hb jV ht ih =>
  intro x I
  rcases List.mem_cons.1 I with rfl|I
  ·exact(hn.look hb).2
  ·grind
structure vh (rs:List cz)(B0:Int→List Nat): Prop where
 lt0:∀n,∀x∈B0 n,x<256
 lt:∀r∈rs,∀c∈r.aR,∀x∈c.b,x<256
 gd:∀t t' n,rs=t++t'→(∃r∈t,vg r n)→bW (eA t B0 n)=true
theorem Yg : ∀ {cs:List cq} {σ:Int→List Nat},(∀c∈cs,∀x∈c.b,x<256)→(∀n,∀x∈σ n,x<256)→∀n,∀x∈jd cs σ n,x<256:=by
 intro cs
 induction cs with
 |nil=>intro σ _ h;exact h
 |cons c cs J =>
  intro σ I h
  refine J (σ:=j4 c σ) (fun x hx=>I x (b8 _ hx)) fun n => ?_
  rw[j4]
  split
  ·split
   ·grind
   ·exact Ao (h n) (I c bZ)
  ·grind
theorem aaD : ∀ {rs:List cz} {σ:Int→List Nat},(∀r∈rs,∀c∈r.aR,∀x∈c.b,x<256)→(∀n,∀x∈σ n,x<256)→∀n,∀x∈eA rs σ n,x<256:=by
 intro rs
 induction rs with
 |nil=>intro σ _ h;exact h
 |cons r rs J=>intro σ I h;exact J (σ:=jd r.aR σ) (fun x hx=>I x (b8 _ hx)) (Yg (I r bZ) h)
theorem vh.app (h:vh rs B0)(h1:∀c∈r.aR,∀x∈c.b,x<256)(h2:∀n,vg r n→bW (eA (rs++[r]) B0 n)=true): vh (rs++[r]) B0:=by
 refine⟨h.lt0,fun x I => ?_,fun t t' n ht hc => ?_⟩
 ·rcases List.mem_append.1 I with I|I
  ·exact h.lt x I
  grind
 ·rcases wj t' with rfl|⟨J,z,rfl⟩
  ·rw[dS] at ht
   subst ht
   by_cases hq:vg r n
   ·grind
   ·obtain⟨x,I,hx2⟩:=hc
    rcases List.mem_append.1 I with I|I
    ·rw[qK]
     have:eA [r] (eA rs B0) n=eA rs B0 n:=Kq fun y hy=>by grind
     rw[this]
     exact h.gd rs [] n (by simp) ⟨x,I,hx2⟩
    grind
  ·have VT:rs++[r]=(t++J)++[z]:=by grind
   exact h.gd t J n (List.append_inj' VT rfl).1 hc
def y9 (N:Nat)(rs:List cz)(B0:Int→List Nat)(ε:aX): Prop:=∀n,0≤n→n<(N:Int)→iO (eA rs B0 n) (pgA ε n)
abbrev tH : Int→Prop:=fun _=>False
section
theorem ChR.st {l:List Int}(J:ChR now l ε e cs af): ∀ {σ:Int→List Nat},EC N ε→fG ε→NW N now→l.Nodup→(∀n∈l,0≤n∧n<N)→vw (RI ba tH B0 rs g) ε→(∀n∈l,iO (σ n) (pgA ε n)) →
  (∀n∈l,∀b,lookL n now=some b→iO (jd cs σ n) b)∧(∀n,n∉l→jd cs σ n=σ n)∧(∀n,(∃c∈cs,c.aM=n)↔n∈l)∧∀n∈l,g n=none→AT cs n:=by
 induction J with
 |nil ε=>intro σ _ _ _ _ _ _ _;exact⟨fun n I=>(by cases I),fun _ _=>rfl,fun n=>⟨fun⟨c,hc,_⟩=>(by cases hc),fun I=>(by cases I)⟩,fun n I=>(by cases I)⟩
 |err n l ε e b af J he =>
  intro σ h h3 I hd hl
  have:=hl n bZ
  exact absurd ((J.ec h h3.pins).2.2.1 this.1 this.2).1 he
 |part n l ε dX b af c e cs lz J hb jV hc je ht ih =>
  intro σ h h3 I hd hl hv SH
  obtain⟨d1,d2⟩:=List.nodup_cons.1 hd
  have j7:=hl n bZ
  obtain⟨k1,k2,k3,_⟩:=J.ec h h3.pins
  have MZ:vw (RI ba tH B0 rs g) af:=(RI.kK N).rd J h hv
  obtain⟨q1,q2⟩:=aaA hc (eB (I.look hb).1) (σ:=σ) (by grind)
  obtain⟨p1,p2⟩:=Kr hc
  obtain⟨i1,i2,i3,i4⟩:=ih (σ:=jd c σ) k1 (J.jk h3) I d2 (fun m hm=>hl m (b8 _ hm)) MZ (fun m hm=>by
   grind)
  refine⟨fun m hm b' nU => ?_,fun m hm => ?_,fun m => ?_,fun m hm hg => ?_⟩
  ·rw[Kn]
   grind
  ·simp_all[Kn]
  ·constructor
   ·grind
   ·intro hm
    rcases List.mem_cons.1 hm with rfl|hm
    ·obtain⟨x,hx⟩:=List.exists_mem_of_ne_nil _ p2<;>grind
    grind
  ·rcases List.mem_cons.1 hm with rfl|hm
   ·cases hq:lookL m af.1.br with
    |none=>grind
    |some y =>
     obtain⟨rec,fl⟩:=y
     have:=(mG.1 MZ).AU m rec fl hq
     rw[hg] at this
     cases this
   ·obtain⟨x,hx,e⟩:=i4 m hm hg
    exact⟨x,List.mem_append.2 (.inr hx),e⟩
 |whole n l ε dX b af e cs lz J hb jV ht ih =>
  intro σ h h3 I hd hl hv SH
  obtain⟨d1,d2⟩:=List.nodup_cons.1 hd
  obtain⟨k1,k2,k3,_⟩:=J.ec h h3.pins
  have MZ:vw (RI ba tH B0 rs g) af:=(RI.kK N).rd J h hv
  have q2:∀m,m≠n→j4 ⟨n,0,true,b⟩ σ m=σ m:=fun m hm=>by rw[j4,ak hm]
  have q1:j4 ⟨n,0,true,b⟩ σ n=b:=by grind[j4]
  obtain⟨i1,i2,i3,i4⟩:=ih (σ:=j4 ⟨n,0,true,b⟩ σ) k1 (J.jk h3) I d2 (fun m hm=>hl m (b8 _ hm)) MZ (fun m hm=>by
   grind)
  refine⟨fun m hm b' nU => ?_,fun m hm => ?_,fun m => ?_,fun m hm hg => ?_⟩
  ·show iO (jd cs (j4 _ σ) m) b'
   rcases List.mem_cons.1 hm with rfl|hm
   ·rw[hb] at nU
    rw[←cA nU,i2 m d1,q1];exact iO.refl (eB (I.look hb).1)
   ·grind
  ·simp_all[jd]
  ·grind[List.mem_cons_self]
  ·rcases List.mem_cons.1 hm with rfl|hm
   ·exact⟨_,bZ,rfl,rfl⟩
   ·obtain⟨x,hx,e⟩:=i4 m hm hg
    exact⟨x,b8 _ hx,e⟩
theorem DnR.ri {kd:Nat}{mk:List Nat}(hr:DnR ε now kd tx 0 0 data 0 aO 0 true af)(h:EI N B ε)(hB:B≤1000)(hn:NW N now)(hl:LR ba aC mk rs ε.2)(h1:1≤kd)(h2:kd≤7)(ht:tx<65536)
 (hv:vw (RI ba tH B0 rs g) ε)(fX:y9 N rs B0 ε)(lR:vh rs B0): ∃(r:cz) (g':Int→Option Nat),r.Ok∧r.kd=kd∧r.tx=tx∧r.pv=0∧r.nx=0∧r.data=data∧aO=ba+szB rs∧LR ba aC mk (rs++[r]) af.2∧vw (RI ba tH B0 (rs++[r]) g') af∧y9 N (rs++[r]) B0 af∧vh (rs++[r]) B0 ∧
   (∀n rec,g' n=some rec→g n=some rec∨rec=ba+szB rs)∧∃I,ChR now (aF now) ε 0 r.aR I:=by
 have J:∀n∈aF now,0≤n∧n<N:=fun n hq=>hn.keys n (fB.1 hq)
 have hN:=h.many
 have eX:∀ {c:List cq} {af:aX} {e:Int},ChR now (aF now) ε e c af→ej kd c=true:=fun hc=>by
  refine yq ⟨by omega,by omega⟩ (hc.fit (fun x hx=>eB (hn.good x hx).1) fun n hq => ?_)<;>grind
 have iK:(aF now).Nodup:=(eL _).nodup_iff.2 hn.nodup
 have abO:=(h.done hB hn (by omega) (by omega) hr).resolve_left (by simp)
 generalize hz:(0:Int)=e at hr
 generalize je:true=cl at hr
 cases hr with
 |arg hh=>omega
 |dead _ _ _ hd=>omega
 |kj e c af _ _ _ _ hc he=>omega
 |app c I _ _ _ _ hc he=>omega
 |put c I e fM _ _ _ _ hc ha hp =>
  subst hz
  obtain⟨c1,c2,c3⟩:=hc.ec h.ec h.ok J
  have hi:EI N B I:=⟨hc.jk h.ok,c1,hc.el h.el,bX hc.bM h.bM⟩
  have qD:=(mF ba aC mk rs).ch hc hl
  obtain⟨r,k1,k2,k3,k4,k5,k6,k7,k8,k9,k10,_⟩:=qD.app h1 (eX hc) ht ha
  obtain⟨a1,a2,a3⟩:=hi.app (kd:=kd) (tx:=tx) (pv:=0) (nx:=0) (data:=data) (c:=c) hB (eX hc)
  have a3:=a3.resolve_right (by omega)
  obtain⟨_,a4⟩:=a3
  have oO:vw (RI ba tH B0 rs g) I:=(RI.kK N).ch hc h.ec h.ok hv
  obtain⟨s1,s2,s3,s4⟩:=hc.st (σ:=eA rs B0) h.ec h.ok hn iK J hv (fun n hm=>by have:=J n hm;exact fX n this.1 this.2)
  subst k7
  have aaE:(aG I.2 kd tx 0 0 data r.aR).1.1=ba+szB rs:=k8
  have fC:=hi.el.size
  have BQ:=qD.b
  have hba:=qD.base
  have cI:ba+szB rs<18446744073709551616:=by
   grind
  have jf:∀n,n∈aF now↔vg r n:=fun n=>(s3 n).symm
  have nL:=RI.app (mG.1 oO) (r:=r) (fun n hg hq=>s4 n ((jf n).2 hq) hg) (μ:=(aG I.2 kd tx 0 0 data r.aR).2.1) (δ:=(aG I.2 kd tx 0 0 data r.aR).2.2)
   (by rw[k9.base,hba]) k9.b (by rw[a4];rfl) k9.log (by rw[a4]) (by rw[a4]) (by rw[a4]) (by rw[a4]) (by rw[a4]) (by rw[a4]) jf
  have RY:vw (RI ba (fun n=>n∈aF now) B0 (rs++[r]) (fun n=>match g n with|some rec=>some rec|none=>if n∈aF now then some (ba+szB rs) else none)) (I.1,(aG I.2 kd tx 0 0 data r.aR).2):=nL
  have hv4:=hp.ri a1.ec a1.ok hn J iK (fun n hm=>hm) ⟨rs,r,rfl,k8⟩ (by omega) RY
  have e0:(fun m:Int=>m∈aF now∧m∉aF now)=tH:=funext fun m=>propext ⟨fun q=>q.2 q.1,fun q=>q.elim⟩
  rw[e0] at hv4
  refine⟨r,_,k1,k2,k3,k4,k5,k6,by grind,(mF ba aC mk _).pt hp k9,hv4,fun n h0 qX => ?_,lR.app (hc.lt hn) (fun n hq => ?_),fun n rec hq => ?_,I,hc⟩
  ·rw[abO.2.2.2 n,qK]
   show iO (jd r.aR (eA rs B0) n) _
   cases hq:lookL n now with
   |some b =>
    have hm:n∈aF now:=fB.2 ((fJ hq) |> nj (f:=(·.1)))
    exact(s1 n hm b hq).trans (CX (eB (hn.look hq).1)).symm
   |none =>
    have hm:n∉aF now:=fun q=>gx.1 hq (fB.1 q)
    rw[s2 n hm]
    exact fX n h0 qX
  ·have hm:=(jf n).2 hq
   cases hb:lookL n now with
   |none=>grind[fB,gx]
   |some b =>
    rw[qK]
    show bW (jd r.aR (eA rs B0) n)=true
    rw[(s1 n hm b hb).good];exact(hn.look hb).1
  ·grind
theorem DnR.ri0 {kd:Nat}{mk:List Nat}(hr:DnR ε now kd tx 0 0 data 0 aO e false af)(h:EI N B ε)(hB:B≤1000)(hn:NW N now)(hl:LR ba aC mk rs ε.2)(h1:1≤kd)(h2:kd≤7)
 (hv:vw (RI ba tH B0 rs g) ε)(fX:y9 N rs B0 ε): LR ba aC mk rs af.2∧vw (RI ba tH B0 rs g) af∧y9 N rs B0 af:=by
 have I:=(h.done hB hn (by omega) (by omega) hr).resolve_right (by simp)
 have ade:y9 N rs B0 af:=fun n h0 h1=>by rw[I.2.2.2 n];exact fX n h0 h1
 generalize je:false=cl at hr
 cases hr with
 |arg hh=>omega
 |dead _ _ _ hd=>omega
 |kj e c af _ _ _ _ J he=>exact⟨(mF ba aC mk rs).ch J hl,(RI.kK N).ch J h.ec h.ok hv,ade⟩
 |app c pG _ _ _ _ J he =>
  have qD:=(mF ba aC mk rs).ch J hl
  have oO:vw (RI ba tH B0 rs g) pG:=(RI.kK N).ch J h.ec h.ok hv
  grind[fh]
 |put c pG e fM _ _ _ _ J ha hp=>grind
end
structure RS (N ba aC:Nat)(mk:List Nat)(rs:List cz)(B0:Int→List Nat)(g:Int→Option Nat)(ε:aX): Prop where
 lr:LR ba aC mk rs ε.2
 ri:vw (RI ba tH B0 rs g) ε
 st:y9 N rs B0 ε
 gd:vh rs B0
theorem RS.pre {mk:List Nat}(h:RS N ba aC mk rs B0 g ε)(I:∀P:VP,mz N P→vw P ε→vw P af)(J:∀m,pgA af m=pgA ε m): RS N ba aC mk rs B0 g af :=
 ⟨I _ ((mF ba aC mk rs).kK N) h.lr,I _ (RI.kK N) h.ri,fun n a b=>by rw[J];exact h.st n a b,h.gd⟩
theorem xB {a b v:List cz}(h:a++b=u++v)(hs:szB a≤szB u): ∃w,u=a++w∧b=w++v:=by
 rcases List.append_eq_append_iff.1 h with⟨w,I,J⟩|⟨w,I,J⟩
 ·grind
 ·cases w<;>grind[xA]
structure Se (ba aC:Nat)(data:List Nat)(rs r1:List cz)(F:Nat)(g:Int→Option Nat): Prop where
 low:∀n rec,g n=some rec→ba+szB r1≤rec
 pt:(aC=0∧data=[]∧r1=[])∨∃A1 rc B,rs=(r1++A1)++rc::B∧aC=ba+szB (r1++A1)∧aC≠0∧rc.kd=8∧8≤rc.data.length∧data=rc.data.drop 8∧max ba (leN (rc.data.take 8))=ba+szB r1∧szB (r1++A1)+rc.len≤F
section
theorem Se.at (h:Se ba aC data rs r1 F g){v:List cz}(hu:rs=u++v)(hF:F≤szB u): ∃r2,OX ba aC u data r1 r2:=by
 rcases h.pt with⟨k1,k2,I⟩|⟨J,rc,B,k1,k2,I,k4,k5,k6,k7,k8⟩
 ·exact⟨u,by grind,.inl ⟨k1,k2,I⟩⟩
 ·obtain⟨w,hw,_⟩:=xB (a:=(r1++J)++[rc]) (b:=B) (u:=u) (v:=v) (by grind) (by grind[qJ,szB])
  exact⟨J++rc::w,by grind,.inr ⟨r1++J,rc,w,by grind,k2,I,k4,k5,k6,k7⟩⟩
end
structure yN (ba:Nat)(B0:Int→List Nat)(u v r1 r2:List cz)(δ:Dk): Prop where
 split:u=r1++r2
 rs:∀r∈u++v,r.Ok
 log:∃j,δ.log++δ.tail=logB ba (u++v)++j∧sj j
 cert:szB u≤δ.bj
 len:δ.bj≤δ.log.length
 gd:vh (u++v) B0
 kL:∀n w t t',Cj δ n→v=t++t'→¬tc (r2++t) n→vf δ n w→iO (eA (u++t) B0 n) w∧h_ w=0
 dG:∀w,δ.dG=some w→tc r2 w.1
theorem RS.cr {mk:List Nat}(h:RS N ba aC mk rs B0 g ε)(hc:Se ba aC data rs r1 ε.2.1.forced g)(gT:ε.2.2.Ok):
  ∃u v r2,rs=u++v∧ε.2.1.forced=szB u∧OX ba aC u data r1 r2∧yN ba B0 u v r1 r2 ε.2.2:=by
 have hv:=mG.1 h.ri
 obtain⟨u,v,hu,hf⟩:=hv.forced
 obtain⟨r2,J⟩:=hc.at hu (by omega)
 refine⟨u,v,r2,hu,hf,J,J.1,by rw[←hu];exact h.lr.rs,⟨[],by rw[h.lr.tail,h.lr.log,hu],.inl (by decide)⟩,by rw[←hf];exact hv.cert,gT.bj,by rw[←hu];exact h.gd,fun n w t t' h0 ht hw sI => ?_,fun w hq=>by rw[h.lr.dG] at hq;cases hq⟩
 refine⟨hv.kL n w (u++t) t' h0 (by grind) (by rw[hf];exact tf) (fun rec I => ?_) sI,hv.ck n w h0.1 sI⟩
 refine v_ fun cI => ?_
 obtain⟨a,r,b,k1,k2,k3⟩:=hv.br n rec I
 have Ay:=hc.low n rec I
 have fC:szB a<szB (u++t):=by omega
 obtain⟨w1,e1,e2⟩:=xB (a:=a) (b:=r::b) (u:=u++t) (v:=t') (by grind) (Bf fC)
 cases w1 with
 |nil=>grind
 |cons y w1 =>
  injection e2 with e2 e3
  subst e2
  obtain⟨w2,e4,e5⟩:=xB (a:=r1) (b:=r2++t) (u:=a) (v:=r::w1) (by rw[←e1,J.1,cP]) (by omega)
  exact hw ⟨r,by grind,k3⟩
def imgL (P:List (Option (List Nat)))(n:Int): List Nat:=match P[n.toNat]? with
 |some (some b)=>b
 |_=>List.replicate 512 0
theorem Ks {P:List (Option (List Nat))}{n:Int}(I:0≤n): imgL (P.set k (some b)) n=imgL P n∨(((k:Nat):Int)=n∧imgL (P.set k (some b)) n=b):=by
 grind[imgL]
theorem UY {c:List Nat}{n:Int}(I:0≤n): ∀ {W:List Wr} {i:Nat} {P:List (Option (List Nat))},imgL (layW c i W P) n=imgL P n∨∃wr∈W,((wr.1:Nat):Int)=n∧imgL (layW c i W P) n=wr.2:=by
 intro W
 induction W<;>grind[layW,Ks]
theorem Sf {c:List Nat}{n:Int}(I:0≤n){P:List (Option (List Nat))}{o:Option Wr}: imgL (tornP c k P o) n=imgL P n∨∃w,o=some w∧((w.1:Nat):Int)=n:=by
 cases o<;>grind[tornP,Ks]
theorem Sg (h:sj j): sj (j.take k):=by
 by_cases J:k<8
 ·left;rw[fO];omega
 ·rcases h with h|h
  ·left;rw[fO];omega
  ·by_cases I:(j.take k).length<8
   ·exact .inl I
   ·right
    grind
theorem UZ (I:∀r∈rs,r.Ok)(hj:sj j): ∃dP fK J,rs=dP++fK∧(logB n rs++j).take K=logB n dP++J∧sj J:=by
 by_cases hK:K≤(logB n rs).length
 ·rw[tX hK]
  exact Yc rs n K I
 ·refine⟨rs,[],j.take (K-(logB n rs).length),by simp,?_,Sg hj⟩<;>grind[List.take_append,List.take_of_length_le]
theorem OZ {a b t:List Nat}(h:c≤a.length): a.take c++(a.drop c++t).take K=(a++t).take (c+K):=by
 grind
section
variable {v:List cz}
theorem yN.abP (h:yN ba B0 u v r1 r2 δ)(c:List Nat): ∃t t',v=t++t'∧yN ba B0 (u++t) [] r1 (r2++t) (fV δ c):=by
 obtain⟨j,hl,hj⟩:=h.log
 have FK:(fV δ c).log=(δ.log++δ.tail).take (δ.bj+kE δ c):=OZ (b:=[]) h.len
 have hlu:(logB ba u).length=szB u:=fW
 have hcu:=h.cert
 obtain⟨t,t',j',e1,e2,e3⟩:=UZ (rs:=v) (n:=ba+szB u) (K:=δ.bj+kE δ c-szB u) (j:=j) (fun r hr=>h.rs r (List.mem_append.2 (.inr hr))) hj
 have ad4:(fV δ c).log=logB ba (u++t)++j':=by
  rw[FK,hl,yL,cP,List.take_append,gj (by omega),hlu,e2,yL,cP]
 refine⟨t,t',e1,by rw[h.split,cP],fun r hr => ?_,⟨j',by grind[fV],e3⟩,?_,aU _,?_,fun n w a b h0 oY hw I => ?_,fun w hq=>(by cases hq)⟩
 ·refine h.rs r ?_<;>grind
 ·grind[fV,fW]
 ·refine⟨h.gd.lt0,fun r hr => ?_,fun a b n oY jf=>h.gd.gd a (b++t') n ?_ jf⟩
  ·refine h.gd.lt r ?_<;>grind
  grind
 ·have hlen:(fV δ c).aq.length=δ.aq.length:=by
   show(tornP c _ _ δ.dG).length=_
   cases δ.dG<;>grind[FW,tornP]
  have mN:Cj δ n:=⟨h0.1,by rw[←hlen];exact h0.2⟩
  have h0:=h0.1
  obtain⟨rfl,rfl⟩:=List.append_eq_nil_iff.1 oY.symm
  rw[dS] at hw ⊢
  have J:w=imgL (tornP c δ.waiting.length (layW c 0 δ.waiting δ.aq) δ.dG) n:=by
   rcases I with I|⟨wr,vx,_⟩
   ·exact I
   ·cases vx
  have abQ:vf δ n w:=by
   rcases Sf (c:=c) (k:=δ.waiting.length) h0 (P:=layW c 0 δ.waiting δ.aq) (o:=δ.dG) with q|⟨wt,q1,q2⟩
   ·rw[q] at J
    rcases UY (c:=c) h0 (W:=δ.waiting) (i:=0) (P:=δ.aq) with q|⟨wr,k1,k2,k3⟩
    ·exact .inl (J.trans q)
    ·exact .inr ⟨wr,k1,k2,J.trans k3⟩
   ·exfalso
    obtain⟨r,hr,hc⟩:=h.dG wt q1
    rw[q2] at hc
    exact hw ⟨r,List.mem_append.2 (.inl hr),hc⟩
  exact h.kL n w t t' mN e1 hw abQ
end
structure OpD (ba:Nat)(B0:Int→List Nat)(u r1 r2:List cz)(N:Nat)(δ:Dk): Prop where
 cr:yN ba B0 u [] r1 r2 δ
 tail:δ.tail=[]
 aq:δ.aq.length=N
 keys:∀k:Int,k∈δ.now.map (·.1)→0≤k∧k<N
 nodup:(δ.now.map (·.1)).Nodup
 nw:∀n b,lookL n δ.now=some b→tc r2 n
section
theorem OpD.die (h:OpD ba B0 u r1 r2 N δ): OpD ba B0 u r1 r2 N δ.die :=
 ⟨⟨h.cr.split,h.cr.rs,h.cr.log,h.cr.cert,h.cr.len,h.cr.gd,h.cr.kL,h.cr.dG⟩,h.tail,h.aq,h.keys,h.nodup,h.nw⟩
theorem OpD.cV (h:OpD ba B0 u r1 r2 N δ): OpD ba B0 u r1 r2 N δ.cV :=
 ⟨⟨h.cr.split,h.cr.rs,h.cr.log,h.cr.cert,h.cr.len,h.cr.gd,h.cr.kL,h.cr.dG⟩,h.tail,h.aq,h.keys,h.nodup,h.nw⟩
theorem OpD.aaF (h:OpD ba B0 u r1 r2 N δ): ∃j,δ.log=logB ba u++j∧sj j:=by
 obtain⟨j,I,J⟩:=h.cr.log
 rw[h.tail,dS,dS] at I
 exact⟨j,I,J⟩
theorem OpD.dU (h:OpD ba B0 u r1 r2 N δ): OpD ba B0 u r1 r2 N (δ.dU (szB u)).2∧((δ.dU (szB u)).1=0→(δ.dU (szB u)).2.log=logB ba u):=by
 obtain⟨j,I,J⟩:=h.aaF
 have hl:(logB ba u).length=szB u:=fW
 unfold Dk.dU
 split
 ·unfold Dk.rC
  split
  ·grind
  ·rw[ak (by omega)]
   split
   ·exact⟨h.die,fun q=>(by cases q)⟩
   ·have e:δ.log.take (szB u)=logB ba u:=by grind
    refine⟨⟨⟨h.cr.split,h.cr.rs,⟨[],?_,.inl (by decide)⟩,aU _,?_,h.cr.gd,h.cr.kL,h.cr.dG⟩,h.tail,h.aq,h.keys,h.nodup,h.nw⟩,fun _=>e⟩
    ·show δ.log.take (szB u)++δ.tail=_
     rw[e,h.tail,dS,dS,dS]
    grind
 ·simp_all
theorem OpD.cg (h:OpD ba B0 u r1 r2 N δ): OpD ba B0 u r1 r2 N δ.cg.2:=by
 unfold Dk.cg
 split
 ·exact h
 ·split
  ·exact h.die
  ·have:=h.cr.len
   have:=h.cr.cert
   exact⟨⟨h.cr.split,h.cr.rs,h.cr.log,by grind,aU _,h.cr.gd,h.cr.kL,h.cr.dG⟩,h.tail,h.aq,h.keys,h.nodup,h.nw⟩
theorem OpD.dc (h:OpD ba B0 u r1 r2 N δ): OpD ba B0 u r1 r2 N (δ.dc (szB u)).2∧((δ.dc (szB u)).1=0→(δ.dc (szB u)).2.log=logB ba u):=by
 obtain⟨t1,t2⟩:=h.dU
 unfold Dk.dc
 split
 ·grind
 ·rename_i I
  have t2:=t2 (Classical.not_not.1 I)
  split
  ·refine⟨t1.cg,fun _ => ?_⟩
   have:(δ.dU (szB u)).2.cg.2.log=(δ.dU (szB u)).2.log:=by
    unfold Dk.cg
    split
    ·rfl
    ·split<;>rfl
   rw[this,t2]
  ·grind
theorem OpD.bz (h:OpD ba B0 u r1 r2 N δ){k:Int}(hk:tc r2 k): OpD ba B0 u r1 r2 N (δ.bz k b).2∧((δ.bz k b).1=0→0≤k∧k<N∧∀n,lookL n (δ.bz k b).2.now=if k=n then some b else lookL n δ.now):=by
 unfold Dk.bz
 split
 ·grind
 ·split
  ·grind
  ·rename_i hr
   have hr:=Classical.not_not.1 hr
   have hN:=h.aq
   split
   ·refine⟨⟨⟨h.cr.split,h.cr.rs,h.cr.log,h.cr.cert,h.cr.len,h.cr.gd,h.cr.kL,fun w hw => ?_⟩,h.tail,h.aq,h.keys,h.nodup,h.nw⟩,fun q=>(by cases q)⟩<;>grind
   ·refine⟨⟨⟨h.cr.split,h.cr.rs,h.cr.log,h.cr.cert,h.cr.len,h.cr.gd,fun n w t t' h0 ht hw sI => ?_,h.cr.dG⟩,h.tail,h.aq,fun x hx => ?_,jh h.nodup,fun n c J => ?_⟩,fun _=>⟨hr.1,by omega,fun n=>gL _⟩⟩
    ·refine h.cr.kL n w t t' h0 ht hw ?_
     rcases sI with hq|⟨wr,I,q1,q2⟩
     ·exact .inl hq
     ·rcases List.mem_append.1 I with I|I
      ·exact .inr ⟨wr,I,q1,q2⟩
      ·exfalso
       obtain⟨r,j7,Vr⟩:=hk
       exact hw ⟨r,List.mem_append.2 (.inl j7),by grind⟩
    ·rcases pR.1 hx with rfl|hx
     ·omega
     ·exact h.keys x hx
    ·have J:lookL n (cD k b δ.now)=some c:=J
     rw[gL] at J
     by_cases hq:k=n
     ·grind
     ·rw[ak hq] at J;exact h.nw n c J
theorem OpD.img (h:OpD ba B0 u r1 r2 N δ){n:Int}(I:0≤n): imgOf δ.sync n=match lookL n δ.now with|some b=>b|none=>imgOf δ n:=by
 rw[imgOf,show δ.sync.aq=laidP δ.now δ.aq from rfl,laidP_get h.aq h.nodup h.keys I]
 cases J:lookL n δ.now with
 |some b=>rfl
 |none=>rfl
theorem OpD.dQ (h:OpD ba B0 u r1 r2 N δ): OpD ba B0 u r1 r2 N δ.dQ.2:=by
 unfold Dk.dQ
 split
 ·exact h
 ·split
  ·exact h.die
  ·refine⟨⟨h.cr.split,h.cr.rs,h.cr.log,h.cr.cert,h.cr.len,h.cr.gd,fun n w t t' I ht hw J => ?_,h.cr.dG⟩,h.tail,?_,fun k hk=>(by cases hk),kq,fun n b hb=>(by cases hb)⟩
   ·have mN:Cj δ n:=⟨I.1,by have:=I.2;rw[show δ.cV.sync.aq=laidP δ.now δ.aq from rfl,oh] at this;exact this⟩
    have I:=I.1
    refine h.cr.kL n w t t' mN ht hw (.inl ?_)
    have hq:w=imgOf δ.cV.sync n:=by
     rcases J with hq|⟨wr,vx,_⟩
     ·exact hq
     ·cases vx
    rw[hq,h.cV.img I]
    cases hl:lookL n δ.cV.now with
    |none=>rfl
    |some b =>
     obtain⟨r,j7,Vr⟩:=h.nw n b hl
     exact absurd ⟨r,List.mem_append.2 (.inl j7),Vr⟩ hw
   ·show(laidP δ.now δ.aq).length=N
    rw[oh];exact h.aq
theorem OpD.again : ∀ {l:List Int} {δ:Dk},l.Nodup→(∀k∈l,∀b,lookL k ρ.aq=some b→tc r2 k)→OpD ba B0 u r1 r2 N δ→OpD ba B0 u r1 r2 N (againW ρ l δ).2 ∧
  ((againW ρ l δ).1=0→(∀n,n∈l→∀b,lookL n ρ.aq=some b→bW b=true→n<N→lookL n (againW ρ l δ).2.now=some (cW b (oM ρ n)))∧(∀n,n∉l→lookL n (againW ρ l δ).2.now=lookL n δ.now)):=by
 intro l
 induction l with
 |nil=>intro δ _ _ h;exact⟨h,fun _=>⟨fun n J=>(by cases J),fun _ _=>rfl⟩⟩
 |cons k l ih =>
  intro δ iK I h
  have yS:∀x∈l,∀b,lookL x ρ.aq=some b→tc r2 x:=fun x hx=>I x (b8 _ hx)
  rw[againW]
  cases hq:lookL k ρ.aq with
  |none =>
   grind
  |some b =>
   simp only
   have hN:=h.aq
   split
   ·obtain⟨w1,w2⟩:=h.bz (k:=k) (b:=cW b (oM ρ k)) (I k bZ b hq)
    split
    ·grind
    ·grind
   grind
theorem OpD.e_ (h:OpD ba B0 u r1 r2 N δ)(hn:δ.now=[])(hw:δ.waiting=[]): OpD ba B0 u r1 r2 N (e_ δ ba u r1 r2).2∧((e_ δ ba u r1 r2).1=0 →
  (e_ δ ba u r1 r2).2.log=logB ba u∧(e_ δ ba u r1 r2).2.now=[]∧(e_ δ ba u r1 r2).2.waiting=[] ∧
  ∀n,0≤n→n<(N:Int)→iO (eA u B0 n) (imgOf (e_ δ ba u r1 r2).2 n)∧h_ (imgOf (e_ δ ba u r1 r2).2 n)=0):=by
 have I:=Yd r2 (ba+szB r1) (eA r1 B0)
 have hS:eA r2 (eA r1 B0)=eA u B0:=by rw[h.cr.split,qK]
 rw[hS] at I
 have U0:∀r∈r2,r.Ok:=fun r hr=>h.cr.rs r (by rw[dS,h.cr.split];exact List.mem_append.2 (.inr hr))
 have gT:(redoL (ba+szB r1) r2 i_.none).Ok:=CV BK U0
 obtain⟨o1,o2⟩:=h.dc
 obtain⟨f1,f2,f3⟩:=Eu (δ:=δ) (n:=szB u)
 unfold Am.e_
 split
 ·grind
 ·rename_i h0
  have o2:=o2 (Classical.not_not.1 h0)
  generalize hρ:redoL (ba+szB r1) r2 i_.none=ρ at I gT ⊢
  have iK:(aF ρ.aq).Nodup:=(eL _).nodup_iff.2 gT.dup
  obtain⟨a1,a2⟩:=o1.again (ρ:=ρ) iK (fun k _ b hb=>(I.some k b hb).2)
  have abR:∀ {l:List Int} {δ:Dk},(againW ρ l δ).2.log=δ.log:=by
   intro l
   induction l with
   |nil=>intro δ;rfl
   |cons k l ih =>
    intro δ
    have Ap:∀b,(δ.bz k b).2.log=δ.log:=fun b=>by
     unfold Dk.bz
     split
     ·rfl
     ·split
      ·rfl
      ·split<;>rfl
    grind[againW]
  have fin:∀J,OpD ba B0 u r1 r2 N J→(againW ρ (aF ρ.aq) (δ.dc (szB u)).2).1=0→(∀n,0≤n→imgOf J n=match lookL n (againW ρ (aF ρ.aq) (δ.dc (szB u)).2).2.now with|some b=>b|none=>imgOf (againW ρ (aF ρ.aq) (δ.dc (szB u)).2).2 n) →
    ∀n,0≤n→n<(N:Int)→iO (eA u B0 n) (imgOf J n)∧h_ (imgOf J n)=0:=fun J h1 hz hi n wP qX=>by
   obtain⟨b1,b2⟩:=a2 hz
   rw[hi n wP]
   cases hl:lookL n ρ.aq with
   |some b =>
    obtain⟨e1,e2⟩:=I.some n b hl
    obtain⟨r,j7,c,vm,uG,_⟩:=e2
    have hg:bW b=true:=by
     rw[e1]
     exact h.cr.gd.gd u [] n (by simp) ⟨r,by rw[h.cr.split];exact List.mem_append.2 (.inr j7),c,vm,uG⟩
    have hb:∀x∈b,x<256:=by
     rw[e1]
     exact aaD (fun r hr=>h.cr.gd.lt r (by grind)) h.cr.gd.lt0 n
    have uJ:n∈aF ρ.aq:=fB.2 ((fJ hl) |> nj (f:=(·.1)))
    rw[b1 n uJ b hl hg qX]
    simp only
    rw[←e1]
    exact⟨(CX (eB hg)).symm,(GR hg hb).1⟩
   |none =>
    have hnw:=I.none n hl
    have tw:lookL n (againW ρ (aF ρ.aq) (δ.dc (szB u)).2).2.now=none:=by
     cases hq:lookL n (againW ρ (aF ρ.aq) (δ.dc (szB u)).2).2.now with
     |none=>rfl
     |some b=>exact absurd (a1.nw n b hq) hnw
    rw[tw]
    have:=a1.cr.kL n _ [] [] ⟨wP,by rw[a1.aq];exact qX⟩ rfl (by grind) (.inl rfl)
    grind
  unfold mE
  split
  ·grind
  ·rename_i hz
   have hz:=Classical.not_not.1 hz
   split
   ·rename_i hp
    have ek:aF ρ.aq=[]:=by rw[hp];rfl
    grind[againW,lookL]
   ·refine⟨a1.dQ,fun hs => ?_⟩
    have es:(againW ρ (aF ρ.aq) (δ.dc (szB u)).2).2.dQ=(0,(againW ρ (aF ρ.aq) (δ.dc (szB u)).2).2.cV.sync):=by
     grind[Dk.dQ]
    have Wk:=a1.dQ
    rw[es] at Wk ⊢
    refine⟨by show(againW ρ (aF ρ.aq) (δ.dc (szB u)).2).2.log=_;rw[abR,o2],rfl,rfl,fin _ Wk hz fun n wP => ?_⟩
    rw[a1.cV.img wP]
    rfl
end
theorem O0 (I:∀δ k b,R δ→R (δ.bz k b).2): ∀ {l:List Int} {δ:Dk},R δ→R (againW ρ l δ).2:=by
 intro l
 induction l<;>grind[againW]
theorem AX (I:∀δ n,R δ→R (δ.dc n).2)(J:∀δ k b,R δ→R (δ.bz k b).2)(h3:∀δ,R δ→R δ.dQ.2)(h:R δ): R (e_ δ ba u r1 r2).2:=by
 unfold e_ mE
 split
 ·grind
 ·have:=O0 (ρ:=redoL (ba+szB r1) r2 i_.none) (l:=aF (redoL (ba+szB r1) r2 i_.none).aq) J (I δ (szB u) h)
  split
  ·omega
  ·grind
theorem Dk.Ok.syn (h:δ.Ok): δ.dQ.2.Ok:=by
 unfold Dk.dQ
 split
 ·exact h
 ·split
  ·exact h.die
  ·have I:=h.cV
   refine⟨I.aT,I.len,I.room,fun e he=>(by cases he),fun i b hb => ?_,I.bj,by show(laidP δ.now δ.aq).length≤_;rw[oh];exact I.many⟩
   have key:∀ {l:List (Int×List Nat)} {m:List (Option (List Nat))},(∀e∈l,e.2.length=512)→(∀(i:Nat) (b:List Nat),m[i]?=some (some b)→b.length=512)→∀(i:Nat) (b:List Nat),(laidP l m)[i]?=some (some b)→b.length=512:=by
    intro l
    induction l with
    |nil=>intro m _ hm;exact hm
    |cons e l ih =>
     intro m J hm
     exact ih (fun x hx=>J x (b8 _ hx)) (MX hm (J e bZ))
   exact key h.now h.aq i b hb
theorem Hg : (δ.dc n).2.dG=δ.dG∧(δ.dc n).2.mark=δ.mark:=by
 have I:(δ.dU n).2.dG=δ.dG∧(δ.dU n).2.mark=δ.mark:=by
  unfold Dk.dU Dk.rC
  split
  ·split
   ·simp
   ·split
    ·simp
    ·split<;>exact⟨rfl,rfl⟩
  ·simp
 unfold Dk.dc
 split
 ·exact I
 ·split
  ·unfold Dk.cg
   split
   ·exact I
   ·split<;>exact I
  ·exact I
theorem Sh : (e_ δ ba u r1 r2).2.mark=δ.mark:=by
 refine AX (R:=fun x=>x.mark=δ.mark) (fun x n h=>Hg.2.trans h) (fun x k b h => ?_) (fun x h => ?_) rfl
 ·unfold Dk.bz
  split
  ·exact h
  ·split
   ·exact h
   ·split<;>exact h
 ·unfold Dk.dQ
  split
  ·exact h
  ·split<;>exact h
theorem U1 (h:δ.Ok): (e_ δ ba u r1 r2).2.Ok :=
 AX (R:=Dk.Ok) (fun _ _ h=>h.dc) (fun _ _ _ h=>h.bz) (fun _ h=>h.syn) h
theorem Si (J:δ.aT<0)(ht:δ.dG=none): (e_ δ ba u r1 r2).2.dG=none:=by
 have I:∀ {x:Dk} {n:Nat},x.aT<0→(x.dc n).2.aT<0:=fun {x n} h=>by
  grind[Dk.dU,Dk.rC,iN,Dk.dc,Dk.cg]
 refine(AX (R:=fun x=>x.aT<0∧x.dG=none) (fun x n h=>⟨I h.1,Hg.1.trans h.2⟩) (fun x k b h => ?_) (fun x h => ?_) ⟨J,ht⟩).2
 ·unfold Dk.bz
  split
  ·exact h
  ·split
   ·exact h
   ·rw[ak (by omega)]
    exact⟨by show x.cV.aT<0;rw[iN h.1];exact h.1,h.2⟩
 ·unfold Dk.dQ
  split
  ·exact h
  ·rw[ak (by omega)]
   exact⟨by rw[iN h.1];exact h.1,h.2⟩
theorem M3 {n:Int}(I:δ.now=[]): δ.at n=imgOf δ n:=by
 rw[Dk.at,I];rfl
theorem OpD.eng (h:OpD ba B0 u r1 r2 N δ)(hn:δ.now=[])(hw:δ.waiting=[])(ht:δ.dG=none)(hl:Lv δ)(gT:δ.Ok)(hf:1≤f)(y7:f≤1024)(hB1:1≤B)(hB:B≤1000)(fC:ba+szB u≤B*1048600)(OV:aC≤1099511627776):
  (Am.e_ δ ba u r1 r2).1=0∧EI N B (Pl.fresh f,(jc ba aC u,(Am.e_ δ ba u r1 r2).2))∧RS N ba aC δ.mark u B0 (fun _=>none) (Pl.fresh f,(jc ba aC u,(Am.e_ δ ba u r1 r2).2)):=by
 have U0:∀r∈r2,r.Ok:=fun r hr=>h.cr.rs r (by rw[dS,h.cr.split];exact List.mem_append.2 (.inr hr))
 obtain⟨v1,v2⟩:=hl.e_ (base:=ba) (rs:=u) (dP:=r1) U0
 obtain⟨o1,o2⟩:=h.e_ hn hw
 obtain⟨p1,p2,p3,p4⟩:=o2 v1
 have q1:=U1 (ba:=ba) (u:=u) (r1:=r1) (r2:=r2) gT
 have q2:=Sh (ba:=ba) (u:=u) (r1:=r1) (r2:=r2) (δ:=δ)
 have q3:=Si (ba:=ba) (u:=u) (r1:=r1) (r2:=r2) hl.aT ht
 refine⟨v1,?_⟩
 generalize (Am.e_ δ ba u r1 r2).2=rZ at *
 have F:=EI.fresh (n:=N) (m:=0) (f:=f) (by have:=q1.many;rw[o1.aq] at this;exact this) (by decide) hf y7
 have hlen:(logB ba u).length=szB u:=fW
 have adf:szB u≤16777216:=by have:=q1.len;rw[p1,hlen] at this;exact this
 have ad5:szB u≤rZ.bj:=o1.cr.cert
 have hC:∀n b,¬j8 (Pl.fresh f) n b:=fun n b ⟨i,x,hx,_,_,k2,_⟩=>by rw[rz hx] at k2;cases k2
 have u9:fU (Pl.fresh f).ai≤1*65536:=by
  have:=F.bM
  grind[Am.bM,Am.fresh]
 have nN:∀n,pgA (Pl.fresh f,(jc ba aC u,rZ)) n=imgOf rZ n:=fun n=>by exact M3 p2
 constructor
 ·refine⟨⟨⟨F.ok.ok.pl,MV (by omega) adf OV,q1⟩,F.ok.pins,F.ok.full⟩,⟨⟨v2.alive,v2.aT,o1.aq,fun k hk => ?_,?_,fun n h0 h1 => ?_⟩,F.ec.nodup,F.ec.jY,fun i x hx=>.inl ?_,F.ec.u_,F.ec.AK⟩,⟨p1.symm,?_,?_⟩,?_⟩
  ·grind
  ·grind
  ·grind[M3]
  ·rw[rz hx];decide
  ·show(logB ba u).length≤rZ.bj;omega
  ·show ba+(logB ba u).length≤_;omega
  ·show rZ.waiting.length+fU (Pl.fresh f).ai≤_
   grind
 ·refine⟨⟨rfl,rfl,rfl,rfl,p1,v2.alive,v2.aT,q2,q3,o1.tail,fun w hw=>(by grind),fun r hr=>h.cr.rs r (by grind)⟩,?_,fun n h0 h1 => ?_,?_⟩
  ·refine⟨rfl,rfl,p1,v2.alive,v2.aT,⟨u,[],by simp,hlen⟩,by show(logB ba u).length≤rZ.bj;omega,fun n w t t' h0 hu Cl hr I => ?_,fun n rec q=>(by cases q),fun n _ wr vx=>(by grind),fun n b hb=>absurd hb (hC n b),fun n rec q=>(by cases q),fun n rec q=>(by cases q),fun n b hb=>(by rw[p2] at hb;cases hb),fun n rec fl q=>(by cases q),fun n rec q=>(by cases q),fun n w h0 I => ?_,fun n q=>q.elim⟩
   ·have Cl:(logB ba u).length≤szB t:=Cl
    obtain⟨w',e1,e2⟩:=xB (a:=u) (b:=[]) (u:=t) (v:=t') (by grind) (by omega)
    obtain⟨e3,_⟩:=List.append_eq_nil_iff.1 e2.symm
    rw[e3,dS] at e1
    subst e1
    have J:w=imgOf rZ n:=by
     rcases I with I|⟨wr,vx,_⟩
     ·exact I
     ·grind
    rw[J]
    exact(p4 n h0.1 (by have:=h0.2;rw[o1.aq] at this;exact this)).1
   ·have J:w=imgOf rZ n:=by
     rcases I with I|⟨wr,vx,_⟩
     ·exact I
     ·grind
    rw[J]
    by_cases hN:n<(N:Int)
    ·grind
    ·have:imgOf rZ n=List.replicate 512 0:=by
      have vi:=o1.aq
      grind[imgOf]
     rw[this];exact yC
  ·grind
  ·have:=h.cr.gd
   grind
theorem tg (M:Nat): jZ fun x=>x.2.room=M:=by
 refine⟨fun x n h => ?_,fun x n b h => ?_⟩
 ·unfold aJ Dk.cg
  split
  ·exact h
  ·split
   ·exact h
   ·split
    ·exact h
    ·split<;>first|exact h|exact h
 ·unfold Dk.bz
  split
  ·exact h
  ·split
   ·exact h
   ·split<;>exact h
theorem CY (K:Nat): jZ fun x=>x.2.log.length=K:=by
 refine⟨fun x n h => ?_,fun x n b h => ?_⟩
 ·unfold aJ Dk.cg
  split
  ·exact h
  ·split
   ·exact h
   ·split
    ·exact h
    ·split<;>first|exact h|exact h
 ·unfold Dk.bz
  split
  ·exact h
  ·split
   ·exact h
   ·split<;>exact h
theorem jZ.all {R:LD→Prop}(h:jZ R): ∀ {l:List Int} {ε:aX},R ε.2→R (writeAllF l ε).2.2:=by
 intro l
 induction l with
 |nil=>intro ε I;exact I
 |cons n l J =>
  intro ε I
  have hp:R (eW ε n).2.2:=by
   unfold eW
   split
   ·exact I
   ·exact h.out I
  grind[writeAllF]
section
theorem y_ {kd:Int}{c:List cq}: (aG x kd tx pv nx data c).2.2.room=x.2.room:=by
 rcases fh x kd tx pv nx data c with⟨e,_,_,I⟩|⟨_,_,I⟩|⟨_,_,_,_,_,I⟩<;>rw[I]<;>rfl
theorem LA {π:Pl}: (dM π δ).2.2.room=δ.room:=by
 have h:δ.dQ.2.room=δ.room:=by
  unfold Dk.dQ
  split
  ·rfl
  ·split<;>rfl
 unfold dM
 split<;>exact h
theorem DnR.room {kd:Nat}(hr:DnR ε now kd tx pv nx data pE aO e cl af)(h:ε.2.2.room=M): af.2.2.room=M:=by
 have pr:=tg M
 cases hr with
 |arg _=>exact h
 |dead _ _ _ _=>exact h
 |kj e c af _ _ _ _ I _=>exact pr.ch I h
 |app c J _ _ _ _ I _=>exact y_.trans (pr.ch I h)
 |put c J e fM _ _ _ _ I _ hp=>exact pr.pt hp (y_.trans (pr.ch I h))
end
theorem LR.sync {mk:List Nat}(h:LR ba aC mk rs x): LR ba aC mk rs (x.1,x.2.sync) :=
 ⟨h.base,h.b,h.cE,h.check,h.log,h.alive,h.aT,h.mark,h.dG,h.tail,fun w hw=>(by cases hw),h.rs⟩
theorem RS.clean {mk:List Nat}(h:RS N ba aC mk rs B0 g ε)(I:EI N B ε): RS N ba aC mk rs B0 (fun _=>none) (eN ε).2:=by
 refine⟨?_,RI.Yf h.ri I.ec h.st,fun n h0 h1=>by rw[(Q4 I.ec).2.2 n h0];exact h.st n h0 h1,h.gd⟩
 have w1:=(ru I.ec (Hf ε)).1
 have J:=(mF ba aC mk rs).all (l:=aF ε.1.aH) h.lr
 have e:dM (writeAllF (aF ε.1.aH) ε).2.1 (writeAllF (aF ε.1.aH) ε).2.2.2=(0,{ (writeAllF (aF ε.1.aH) ε).2.1 with br:=(writeAllF (aF ε.1.aH) ε).2.1.br.filter fun e=>e.2.2 },(writeAllF (aF ε.1.aH) ε).2.2.2.sync):=by
  have es:(writeAllF (aF ε.1.aH) ε).2.2.2.dQ=(0,(writeAllF (aF ε.1.aH) ε).2.2.2.sync):=by
   have h1:=J.alive
   have h2:=J.aT
   grind[Dk.dQ,iN]
  rw[dM,es,ak (by simp)]
 rw[eN,ak (by rw[I.ec.dk.alive];decide),ak (by omega),e]
 exact J.sync
theorem RS.fresh {m:Nat}: RS n 1 0 [] [] (fun _=>List.replicate 512 0) (fun _=>none) (Am.fresh n m f):=by
 have hi:∀k,imgOf (Dk.fresh n m) k=List.replicate 512 0:=fun k=>by exact CP k
 have hC:∀n b,¬j8 (Pl.fresh f) n b:=fun n b ⟨i,x,hx,_,_,k2,_⟩=>by rw[rz hx] at k2;cases k2
 have hc:∀k w,vf (Dk.fresh n m) k w→w=List.replicate 512 0:=fun k w h=>by
  rcases h with h|⟨wr,I,_⟩
  ·grind
  ·cases I
 refine⟨⟨rfl,rfl,rfl,rfl,rfl,rfl,by show(-1:Int)<0;decide,rfl,rfl,rfl,fun w hw=>(by cases hw),fun r hr=>(by cases hr)⟩,?_,fun k _ _=>by rw[qI];exact iO.refl fN,⟨fun k x hx=>by grind,fun r hr=>(by cases hr),fun t t' k ht ⟨r,hr,_⟩ => ?_⟩⟩
 ·refine⟨rfl,rfl,rfl,rfl,by show(-1:Int)<0;decide,⟨[],[],rfl,rfl⟩,aU _,fun k w t t' h0 ht Cl hr J => ?_,fun k rec q=>(by cases q),fun k _ wr I=>(by cases I),fun k b hb=>absurd hb (hC k b),fun k rec q=>(by cases q),fun k rec q=>(by cases q),fun k b hb=>(by cases hb),fun k rec fl q=>(by cases q),fun k rec q=>(by cases q),fun k w h0 J => ?_,fun k q=>q.elim⟩
  ·obtain⟨rfl,_⟩:=List.append_eq_nil_iff.1 ht.symm
   rw[hc k w J]
   exact iO.refl fN
  ·rw[hc k w J];exact yC
 ·grind[List.append_eq_nil_iff]
theorem O1 (h:x.1.forced≤x.1.b.length): x.1.forced≤(aJ x n).2.1.forced:=by
 grind[aJ]
theorem v7 (F:Nat): jZ fun x=>F≤x.1.forced∧x.1.forced≤x.1.b.length:=by
 refine⟨fun x n h => ?_,fun x n b h=>h⟩<;>grind[aJ]
theorem DnR.forced {kd:Nat}{dt:List Nat}(hr:DnR ε now kd tx pv nx dt pE aO e cl af)(h:F≤ε.2.1.forced∧ε.2.1.forced≤ε.2.1.b.length): F≤af.2.1.forced∧af.2.1.forced≤af.2.1.b.length:=by
 have pr:=v7 F
 have app:∀ {x:LD} {kd:Int} {tx pv nx:Nat} {dt:List Nat} {c:List cq},F≤x.1.forced∧x.1.forced≤x.1.b.length→F≤(aG x kd tx pv nx dt c).2.1.forced∧(aG x kd tx pv nx dt c).2.1.forced≤(aG x kd tx pv nx dt c).2.1.b.length:=fun {x kd tx pv nx dt c} h=>by
  rcases fh x kd tx pv nx dt c with⟨e,_,_,J⟩|⟨_,_,J⟩|⟨_,_,_,_,_,J⟩
  ·grind
  ·grind
  ·rw[J];exact⟨h.1,by show x.1.forced≤(x.1.b++_).length;rw[bV];omega⟩
 cases hr with
 |arg _=>exact h
 |dead _ _ _ _=>exact h
 |kj e c af _ _ _ _ I _=>exact pr.ch I h
 |app c pG _ _ _ _ I _=>exact app (pr.ch I h)
 |put c pG e fM _ _ _ _ I _ hp=>exact pr.pt hp (app (pr.ch I h))
def Dk.live (δ:Dk): Dk:={ δ with aT := -1 }
def cZ (x:LD): LD:=(x.1,x.2.live)
def bB (ε:aX): aX:=(ε.1,cZ ε.2)
structure Dyg (δ rZ:Dk)(tn:Option Wr): Prop where
 lt:rZ.log++rZ.tail=δ.log++δ.tail
 cert:rZ.bj=δ.bj
 wait:rZ.waiting=δ.waiting
 aq:rZ.aq=δ.aq
 mark:rZ.mark=δ.mark
 dG:rZ.dG=tn
theorem AY (I:x.2.dead=false): aJ x n=(9,(x.1,x.2.die)) ∨
  ((aJ x n).1=(aJ (cZ x) n).1∧(aJ x n).2.2.dead=false∧cZ (aJ x n).2=(aJ (cZ x) n).2):=by
 have hl:(cZ x).2.cg=(0,{ x.2.live with bj:=x.2.log.length }):=by
  rw[Dk.cg,ak (by show ¬x.2.dead=true;rw[I];decide),ak (by show ¬(-1:Int)=0;decide)];rfl
 by_cases hn:n<x.1.base+x.1.forced
 ·grind[aJ,cZ]
 ·have J:aJ (cZ x) n=(0,({ x.1 with forced:=x.1.b.length },{ x.2.live with bj:=x.2.log.length })):=by
   grind[aJ,cZ]
  by_cases hf:x.2.aT=0
  ·grind[Dk.cg,aJ]
  ·right
   have:x.2.cg=(0,{ x.2.cV with bj:=x.2.log.length }):=by grind[Dk.cg]
   have e1:aJ x n=(0,({ x.1 with forced:=x.1.b.length },{ x.2.cV with bj:=x.2.log.length })):=by grind[aJ]
   rw[e1,J];exact⟨rfl,I,rfl⟩
theorem LB {n:Int}(I:δ.dead=false): δ.bz n b=(9,{ δ.die with dG:=some (n.toNat,b) }) ∨
  ((δ.bz n b).1=(δ.live.bz n b).1∧(δ.bz n b).2.dead=false∧(δ.bz n b).2.live=(δ.live.bz n b).2):=by
 by_cases hv:¬(0≤n∧n<δ.aq.length∧b.length=512)
 ·have J:δ.bz n b=(1,δ):=by grind[Dk.bz]
  have e2:δ.live.bz n b=(1,δ.live):=by rw[Dk.bz,ak (by show ¬δ.dead=true;rw[I];decide),aP (show ¬(0≤n∧n<δ.live.aq.length∧b.length=512) from hv)]
  rw[J,e2];exact .inr ⟨rfl,I,rfl⟩
 ·have e2:δ.live.bz n b=(0,δ.live.wr n b):=by rw[Dk.bz,ak (by show ¬δ.dead=true;rw[I];decide),ak (show ¬¬(0≤n∧n<δ.live.aq.length∧b.length=512) from hv),ak (by show ¬(-1:Int)=0;decide)]
  by_cases hf:δ.aT=0
  ·grind[Dk.bz]
  ·have J:δ.bz n b=(0,δ.wr n b):=by grind[Dk.bz]
   rw[J,e2];exact .inr ⟨rfl,I,rfl⟩
theorem Sj (ha:ε.2.2.dead=false):
  ((outF ε i).1=(outF (bB ε) i).1∧(outF ε i).2.2.2.dead=false∧bB (outF ε i).2=(outF (bB ε) i).2) ∨
  (∃f,ε.1.ai[i]?=some f∧0≤f.aM∧f.changed=true∧(outF ε i).1=9∧(outF ε i).2.2.2.dead=true∧(Dyg ε.2.2.live (outF ε i).2.2.2 ε.2.2.dG∨Dyg (aJ (cZ ε.2) (dh f.b 4 8)).2.2 (outF ε i).2.2.2 (some (f.aM.toNat,f.b)))):=by
 unfold outF
 have LK:(bB ε).1=ε.1:=rfl
 rw[LK]
 cases hf:ε.1.ai[i]? with
 |none=>grind
 |some f =>
  simp only
  by_cases hc:f.aM<0∨f.changed=false
  ·grind
  ·rw[ak hc,ak hc]
   by_cases hg:bW f.b=false
   ·grind
   ·rw[ak hg,ak hg]
    have I:0≤f.aM:=by omega
    have J:f.changed=true:=by grind
    have iW:(bB ε).2=cZ ε.2:=rfl
    rw[iW]
    rcases AY (n:=dh f.b 4 8) ha with h1|⟨h1,h2,h3⟩
    ·rw[h1,aP (by simp)]
     exact .inr ⟨f,rfl,I,J,rfl,rfl,.inl ⟨rfl,rfl,rfl,rfl,rfl,rfl⟩⟩
    ·rw[←h1]
     by_cases hz:(aJ ε.2 (dh f.b 4 8)).1≠0
     ·rw[aP hz,aP hz]
      exact .inl ⟨rfl,h2,by rw[←h3];rfl⟩
     ·rw[ak hz,ak hz,←h3]
      rcases LB (n:=f.aM) (b:=f.b) h2 with w1|⟨w1,w2,w3⟩
      ·rw[w1,aP (by simp)]
       refine .inr ⟨f,rfl,I,J,rfl,rfl,.inr ?_⟩
       rw[←h3]
       exact⟨rfl,rfl,rfl,rfl,rfl,rfl⟩
      ·have w3:(((aJ ε.2 (dh f.b 4 8)).2.2.bz f.aM f.b).2).live=((cZ (aJ ε.2 (dh f.b 4 8)).2).2.bz f.aM f.b).2:=w3
       have w1:((aJ ε.2 (dh f.b 4 8)).2.2.bz f.aM f.b).1=((cZ (aJ ε.2 (dh f.b 4 8)).2).2.bz f.aM f.b).1:=w1
       rw[←w1,←w3]
       by_cases hy:((aJ ε.2 (dh f.b 4 8)).2.2.bz f.aM f.b).1≠0
       ·rw[aP hy,aP hy];exact .inl ⟨rfl,w2,rfl⟩
       ·rw[ak hy,ak hy];exact .inl ⟨rfl,w2,rfl⟩
structure tI (N ba aC:Nat)(mk:List Nat)(rs:List cz)(B0:Int→List Nat)(g:Int→Option Nat)(F:Nat)(δ:Dk): Prop where
 ex:∃pd C d x tn,RI ba pd B0 rs g C d x∧LR ba aC mk rs x∧F≤x.1.forced∧x.2.aq.length=N∧x.2.log.length≤16777216∧Dyg x.2 δ tn∧∀w,tn=some w→w.1<N∧w.2.length=512∧∃rec,g w.1=some rec∧rec<ba+x.1.forced
section
variable {mk:List Nat}
theorem Yh {f:Fm}(hv:vw (RI ba pd B0 rs g) (bB ε))(hl:LR ba aC mk rs (cZ ε.2))(he:EC N (bB ε))(ha:ε.2.2.dead=false)(uF:ε.2.2.log.length≤16777216):
  ((outF ε i).1=(outF (bB ε) i).1∧(outF ε i).2.2.2.dead=false∧bB (outF ε i).2=(outF (bB ε) i).2)∨((outF ε i).1=9∧(outF ε i).2.2.2.dead=true∧tI N ba aC mk rs B0 g ε.2.1.forced (outF ε i).2.2.2):=by
 have hv:RI ba pd B0 rs g (j8 ε.1) ε.1.br (cZ ε.2):=hv
 have htn:ε.2.2.dG=none:=hl.dG
 rcases Sj (i:=i) ha with h|⟨f,hf,h0,hc,h1,h1d,I⟩
 ·grind
 ·refine .inr ⟨h1,h1d,?_⟩
  have hN:(cZ ε.2).2.aq.length=N:=he.dk.aq
  rcases I with I|I
  ·rw[htn] at I
   exact⟨_,_,_,cZ ε.2,none,hv,hl,aU _,hN,uF,I,fun w hw=>(by cases hw)⟩
  ·obtain⟨rec,t0,r0,t0',g1,g2,g3,g4,g5⟩:=hv.Ew f.aM f.b ⟨i,f,hf,rfl,h0,hc,rfl⟩
   have J:=(he.back i f hf).resolve_left (by omega)
   obtain⟨x',mY,h',cI,w1,w2,w3⟩:=hv.force (dh f.b 4 8) (by grind[xA])
   have Wl:=(mF ba aC mk rs).force _ (dh f.b 4 8) hl
   have hle:=O1 (x:=cZ ε.2) (n:=dh f.b 4 8) (by rw[hv.len];exact hv.le)
   have Sk:=(CY ε.2.2.log.length).force (cZ ε.2) (dh f.b 4 8) rfl
   rw[mY] at I Wl hle Sk
   refine⟨_,_,_,x',_,h',Wl,hle,by grind,by grind,I,fun w hw => ?_⟩
   have hw:=cA hw
   subst hw
   have aeD:=J.lt
   refine⟨by omega,eB (J.kj hc),rec,?_,by omega⟩
   show g ((f.aM.toNat:Nat):Int)=some rec
   rw[Int.toNat_of_nonneg h0]
   exact hv.AU _ _ _ g1
theorem tI.cr (h:tI N ba aC mk rs B0 g F δ)(lR:vh rs B0)(hc:Se ba aC data rs r1 F g)(je:δ.bj≤δ.log.length):
  ∃u v r2,rs=u++v∧F≤szB u∧OX ba aC u data r1 r2∧yN ba B0 u v r1 r2 δ:=by
 obtain⟨pd,C,d,x,tn,hv,hl,hF,hN,uF,hd,ht⟩:=h.ex
 obtain⟨u,v,hu,hf⟩:=hv.forced
 obtain⟨r2,Ev⟩:=hc.at hu (by omega)
 have mN:∀ {t t' a b:List cz} {r:cz} {rec n},u++t++t'=a++r::b→rec=ba+szB a→g n=some rec→szB a<szB (u++t)→r∈r2++t:=fun {t t' a b r rec n} k1 k2 I fC=>by
  have Ay:=hc.low n rec I
  obtain⟨w1,e1,e2⟩:=xB (a:=a) (b:=r::b) (u:=u++t) (v:=t') k1.symm (Bf fC)
  cases w1 with
  |nil=>grind
  |cons y w1 =>
   injection e2 with e2 e3
   subst e2
   obtain⟨w2,e4,e5⟩:=xB (a:=r1) (b:=r2++t) (u:=a) (v:=r::w1) (by rw[←e1,Ev.1,cP]) (by omega)
   rw[e5];simp
 refine⟨u,v,r2,hu,by omega,Ev,Ev.1,by rw[←hu];exact hl.rs,⟨[],by rw[hd.lt,hl.tail,hl.log,hu,dS],.inl (by decide)⟩,by rw[←hf,hd.cert];exact hv.cert,je,by grind,fun n w t t' h0 ht' hw J => ?_,fun w hq => ?_⟩
 ·have h0:Cj x.2 n:=by unfold Cj at h0 ⊢;rw[←hd.aq];exact h0
  have J:vf x.2 n w:=by unfold vf imgOf at J ⊢;rw[hd.aq,hd.wait] at J;exact J
  refine⟨hv.kL n w (u++t) t' h0 (by grind) (by rw[hf];exact tf) (fun rec I => ?_) J,hv.ck n w h0.1 J⟩
  refine v_ fun cI => ?_
  obtain⟨a,r,b,k1,k2,k3⟩:=hv.br n rec I
  exact hw ⟨r,mN (t:=t) (t':=t') (by rw[←k1,hu,ht',cP]) k2 I (by omega),k3⟩
 ·obtain⟨_,_,rec,q1,q2⟩:=ht w (by rw[←hd.dG];exact hq)
  obtain⟨a,r,b,k1,k2,k3⟩:=hv.br w.1 rec q1
  have:=mN (t:=[]) (t':=v) (by rw[dS,←hu];exact k1) k2 q1 (by grind)
  rw[dS] at this
  exact⟨r,this,k3⟩
theorem EI.bB (h:EI N B ε): EI N B (Am.bB ε):=by
 have k:=h.ok.ok.dk
 refine⟨⟨⟨h.ok.ok.pl,h.ok.ok.lg,⟨by show(-1:Int)<4294967296;decide,k.len,k.room,k.now,k.aq,k.bj,k.many⟩⟩,h.ok.pins,h.ok.full⟩,⟨⟨h.ec.dk.alive,by show(-1:Int)<0;decide,h.ec.dk.aq,h.ec.dk.keys,h.ec.dk.nodup,h.ec.dk.good⟩,h.ec.nodup,h.ec.jY,fun i f I => ?_,h.ec.u_,h.ec.AK⟩,⟨h.el.log,h.el.cert,h.el.size⟩,h.bM⟩
 rcases h.ec.back i f I with q|q
 ·omega
 ·exact .inr ⟨q.lt,q.here,q.aC,q.same,q.kj⟩
theorem RS.bB (h:RS N ba aC mk rs B0 g ε): RS N ba aC mk rs B0 g (Am.bB ε):=by
 have q:=mG.1 h.ri
 have l:=h.lr
 exact⟨⟨l.base,l.b,l.cE,l.check,l.log,l.alive,by show(-1:Int)<0;decide,l.mark,l.dG,l.tail,l.wait,l.rs⟩,
  ⟨q.base,q.b,q.log,q.alive,by show(-1:Int)<0;decide,q.forced,q.cert,q.kL,q.br,q.clean,q.Ew,q.flag,q.ft,q.now,q.AU,q.Ko,q.ck,q.Sb⟩,h.st,h.gd⟩
end
structure FS (N ba aC:Nat)(mk:List Nat)(rs:List cz)(B0:Int→List Nat)(g:Int→Option Nat)(pd:Int→Prop)(ε:aX): Prop where
 alive:ε.2.2.dead=false
 ri:vw (RI ba pd B0 rs g) (bB ε)
 lr:LR ba aC mk rs (cZ ε.2)
 ec:EC N (bB ε)
 len:ε.2.2.log.length≤16777216
def M4 (N ba aC:Nat)(mk:List Nat)(rs:List cz)(B0:Int→List Nat)(g:Int→Option Nat)(F:Nat)(e:Int)(af:aX)(R:Prop): Prop :=
 (af.2.2.dead=false∧R)∨(e=9∧af.2.2.dead=true∧tI N ba aC mk rs B0 g F af.2.2)
theorem tI.low {I:Nat}{mk:List Nat}(h:tI N ba aC mk rs B0 g I δ)(J:F≤I): tI N ba aC mk rs B0 g F δ:=by
 obtain⟨pd,C,d,x,tn,k1,k2,k3,k4⟩:=h.ex
 exact⟨pd,C,d,x,tn,k1,k2,bX J k3,k4⟩
section
variable {mk:List Nat} {n:Int} {l:List Int}
theorem FS.le (h:FS N ba aC mk rs B0 g pd ε): ε.2.1.forced≤ε.2.1.b.length:=by
 have q:=mG.1 h.ri
 have I:=q.len
 have J:=q.le
 show(bB ε).2.1.forced≤(bB ε).2.1.b.length
 rw[I];exact J
theorem Sl {bR:Pl}(I:f_ ε.1 bR): f_ (bB ε).1 bR:=I
theorem fE.mQ (hr:fE ε n e b af)(h:FS N ba aC mk rs B0 g pd ε): M4 N ba aC mk rs B0 g ε.2.1.forced e af (fE (bB ε) n e b (bB af)):=by
 have key:∀(bR:Pl) (i:Nat),f_ ε.1 bR→((outF (bR,ε.2) i).1=(outF (bR,cZ ε.2) i).1∧(outF (bR,ε.2) i).2.2.2.dead=false∧bB (outF (bR,ε.2) i).2=(outF (bR,cZ ε.2) i).2)∨((outF (bR,ε.2) i).1=9∧(outF (bR,ε.2) i).2.2.2.dead=true∧tI N ba aC mk rs B0 g ε.2.1.forced (outF (bR,ε.2) i).2.2.2):=fun bR i I=>by
  obtain⟨ec2,_⟩:=h.ec.r_ (Sl I)
  have nL:vw (RI ba pd B0 rs g) (bR,cZ ε.2):=by
   show RI ba pd B0 rs g (j8 bR) bR.br (cZ ε.2)
   rw[Jx I,I.br];exact mG.1 h.ri
  exact Yh (ε:=(bR,ε.2)) (f:=⟨0,[],0,false,false⟩) nL h.lr ec2 h.alive h.len
 cases hr with
 |arg h1=>exact .inl ⟨h.alive,.arg h1⟩
 |AE i f h1 h2 hl hf=>exact .inl ⟨h.alive,.AE i f h1 h2 hl hf⟩
 |out bR i f h1 h2 hl I hf hh he =>
  rcases key bR i I with⟨k1,k2,J⟩|⟨k1,k2,J⟩
  ·refine .inl ⟨k2,?_⟩
   rw[k1,J]
   exact .out (ε:=bB ε) bR i f h1 h2 hl I hf hh (by rw[k1] at he;exact he)
  ·exact .inr ⟨k1,k2,J⟩
 |read bR i f h1 h2 hl I hf hh he hr =>
  rcases key bR i I with⟨k1,k2,J⟩|⟨k1,k2,J⟩
  ·have r1:(outF (bR,ε.2) i).2.2.2.lV n=(outF (bR,cZ ε.2) i).2.2.2.lV n:=by rw[←J];rfl
   refine .inl ⟨k2,?_⟩
   have:=fE.read (ε:=bB ε) bR i f h1 h2 hl I hf hh (by rw[k1] at he;exact he) (by rw[r1] at hr;exact hr)
   grind[bB]
  ·omega
 |bad bR i f h1 h2 hl I hf hh he hr hc =>
  rcases key bR i I with⟨k1,k2,J⟩|⟨k1,k2,J⟩
  ·have r1:(outF (bR,ε.2) i).2.2.2.lV n=(outF (bR,cZ ε.2) i).2.2.2.lV n:=by rw[←J];rfl
   have r2:(outF (bR,ε.2) i).2.2.2.at n=(outF (bR,cZ ε.2) i).2.2.2.at n:=by rw[←J];rfl
   refine .inl ⟨k2,?_⟩
   have:=fE.bad (ε:=bB ε) bR i f h1 h2 hl I hf hh (by rw[k1] at he;exact he) (by rw[r1] at hr;exact hr) (by rw[r2] at hc;exact hc)
   grind[bB]
  ·omega
 |load bR i f h1 h2 hl I hf hh he hr hc =>
  rcases key bR i I with⟨k1,k2,J⟩|⟨k1,k2,J⟩
  ·have r1:(outF (bR,ε.2) i).2.2.2.lV n=(outF (bR,cZ ε.2) i).2.2.2.lV n:=by rw[←J];rfl
   have r2:(outF (bR,ε.2) i).2.2.2.at n=(outF (bR,cZ ε.2) i).2.2.2.at n:=by rw[←J];rfl
   refine .inl ⟨k2,?_⟩
   have:=fE.load (ε:=bB ε) bR i f h1 h2 hl I hf hh (by rw[k1] at he;exact he) (by rw[r1] at hr;exact hr) (by rw[r2] at hc;exact hc)
   grind[bB]
  ·omega
theorem FS.next (h:FS N ba aC mk rs B0 g pd ε)(J:af.2.2.dead=false)(he:EC N (bB af))(I:∀P:VP,mz N P→vw P (bB ε)→vw P (bB af)): FS N ba aC mk rs B0 g pd af∧ε.2.1.forced≤af.2.1.forced :=
 ⟨⟨J,I _ (RI.kK N) h.ri,I _ ((mF ba aC mk rs).kK N) h.lr,he,by
  have q:(bB af).2.2.log.length=ε.2.2.log.length:=I _ ((CY ε.2.2.log.length).kK N) rfl
  have q:af.2.2.log.length=ε.2.2.log.length:=q
  rw[q];exact h.len⟩,(I _ ((v7 ε.2.1.forced).kK N) ⟨aU _,h.le⟩).1⟩
theorem my.mQ (I:my ε n e b af)(h:FS N ba aC mk rs B0 g pd ε): M4 N ba aC mk rs B0 g ε.2.1.forced e af (my (bB ε) n e b (bB af)):=by
 cases I with
 |dead hd=>rw[h.alive] at hd;cases hd
 |jj e b af hd I he =>
  rcases I.mQ h with⟨k1,k2⟩|k
  ·exact .inl ⟨k1,.jj _ _ _ hd k2 he⟩
  ·exact .inr k
 |tU b af hd I he =>
  rcases I.mQ h with⟨k1,k2⟩|⟨k,_⟩
  ·exact .inl ⟨k1,.tU (ε:=bB ε) _ _ hd k2 he⟩
  ·cases k
 |read b af hd I he =>
  rcases I.mQ h with⟨k1,k2⟩|⟨k,_⟩
  ·exact .inl ⟨k1,.read (ε:=bB ε) _ _ hd k2 he⟩
  ·cases k
theorem GRd.mQ (hr:GRd ε now false n e b af)(h:FS N ba aC mk rs B0 g pd ε): M4 N ba aC mk rs B0 g ε.2.1.forced e af (GRd (bB ε) now false n e b (bB af)):=by
 cases hr with
 |arg I=>exact .inl ⟨h.alive,.arg I⟩
 |cu I h2 J=>cases J
 |own b I h2 J hl=>exact .inl ⟨h.alive,.own _ I h2 J hl⟩
 |read e b af I h2 J hl hr =>
  rcases hr.mQ h with⟨k1,k2⟩|k
  ·exact .inl ⟨k1,.read (ε:=bB ε) _ _ _ I h2 J hl k2⟩
  ·exact .inr k
theorem om.mQ (I:om ε now false n b e bL af)(h:FS N ba aC mk rs B0 g pd ε): M4 N ba aC mk rs B0 g ε.2.1.forced e af (om (bB ε) now false n b e bL (bB af)):=by
 cases I with
 |may e c af I he =>
  rcases I.mQ h with⟨k1,k2⟩|k
  ·exact .inl ⟨k1,.may _ _ _ k2 he⟩
  ·exact .inr k
 |bad c af I J =>
  rcases I.mQ h with⟨k1,k2⟩|⟨k,_⟩
  ·exact .inl ⟨k1,.bad _ _ k2 J⟩
  ·cases k
 |done c af I J =>
  rcases I.mQ h with⟨k1,k2⟩|⟨k,_⟩
  ·exact .inl ⟨k1,.done _ _ k2 J⟩
  ·cases k
theorem ChR.mQ (I:ChR now l ε e cs af): fG (bB ε)→FS N ba aC mk rs B0 g pd ε→∀ {F:Nat},F≤ε.2.1.forced→M4 N ba aC mk rs B0 g F e af (ChR now l (bB ε) e cs (bB af)):=by
 induction I with
 |nil ε=>intro _ h F _;exact .inl ⟨h.alive,.nil _⟩
 |err n l ε e b af I he =>
  intro J h F hF
  rcases I.mQ h with⟨k1,k2⟩|⟨k1,k2,k3⟩
  ·exact .inl ⟨k1,.err _ _ _ _ _ _ k2 he⟩
  ·exact .inr ⟨k1,k2,k3.low hF⟩
 |part n l ε dX b af c e cs lz I hb hd hc hl ht ih =>
  intro J h F hF
  rcases I.mQ h with⟨k1,k2⟩|⟨k,_⟩
  ·obtain⟨q1,q2⟩:=h.next k1 (k2.ec h.ec J.pins).1 (fun P hP hv=>hP.rd k2 h.ec hv)
   rcases ih (k2.jk J) q1 (bX hF q2) with⟨j1,j2⟩|j
   ·exact .inl ⟨j1,.part _ _ _ _ _ _ _ _ _ _ k2 hb hd hc hl j2⟩
   ·exact .inr j
  ·cases k
 |whole n l ε dX b af e cs lz I hb hd ht ih =>
  intro J h F hF
  rcases I.mQ h with⟨k1,k2⟩|⟨k,_⟩
  ·obtain⟨q1,q2⟩:=h.next k1 (k2.ec h.ec J.pins).1 (fun P hP hv=>hP.rd k2 h.ec hv)
   rcases ih (k2.jk J) q1 (bX hF q2) with⟨j1,j2⟩|j
   ·exact .inl ⟨j1,.whole _ _ _ _ _ _ _ _ _ k2 hb hd j2⟩
   ·exact .inr j
  ·cases k
end
theorem zu {kd:Int}{c:List cq}(I:x.2.dead=false):
  ((aG x kd tx pv nx data c)=((0,9),(x.1,{ x.2.die with tail:=cC x.1 kd tx pv nx data c }))∧(aG (cZ x) kd tx pv nx data c).1.2=0∧(aG (cZ x) kd tx pv nx data c).2.2={ x.2.live with log:=x.2.log++cC x.1 kd tx pv nx data c }∧x.2.log.length+(cC x.1 kd tx pv nx data c).length≤x.2.room) ∨
  ((aG x kd tx pv nx data c).1=(aG (cZ x) kd tx pv nx data c).1∧(aG x kd tx pv nx data c).2.2.dead=false∧cZ (aG x kd tx pv nx data c).2=(aG (cZ x) kd tx pv nx data c).2):=by
 by_cases hg:ej kd c=false
 ·grind[aG]
 ·by_cases hb:1048576<(dD kd tx pv nx data c).length
  ·grind[aG]
  ·by_cases J:x.2.room<x.2.log.length+(cC x.1 kd tx pv nx data c).length
   ·have a1:x.2.jr (cC x.1 kd tx pv nx data c)=(7,x.2):=by grind[Dk.jr]
    have a2:(cZ x).2.jr (cC (cZ x).1 kd tx pv nx data c)=(7,(cZ x).2):=by
     rw[Dk.jr,ak (by show ¬x.2.dead=true;rw[I];decide),aP (show(cZ x).2.room<(cZ x).2.log.length+(cC (cZ x).1 kd tx pv nx data c).length from J)]
    grind[aG]
   ·have a2:(cZ x).2.jr (cC (cZ x).1 kd tx pv nx data c)=(0,{ x.2.live with log:=x.2.log++cC x.1 kd tx pv nx data c }):=by
     rw[Dk.jr,ak (by show ¬x.2.dead=true;rw[I];decide),ak (show ¬(cZ x).2.room<(cZ x).2.log.length+(cC (cZ x).1 kd tx pv nx data c).length from J),ak (by show ¬(-1:Int)=0;decide)];rfl
    have e2:aG (cZ x) kd tx pv nx data c=(((cZ x).1.base+(cZ x).1.b.length,0),((cZ x).1.app (cC x.1 kd tx pv nx data c),{ x.2.live with log:=x.2.log++cC x.1 kd tx pv nx data c })):=by
     rw[aG,ak hg,ak hb,a2,ak (by simp)];rfl
    by_cases hf:x.2.aT=0
    ·grind[Dk.jr,aG]
    ·have a1:x.2.jr (cC x.1 kd tx pv nx data c)=(0,{ x.2.cV with log:=x.2.log++cC x.1 kd tx pv nx data c }):=by grind[Dk.jr]
     have e1:aG x kd tx pv nx data c=((x.1.base+x.1.b.length,0),(x.1.app (cC x.1 kd tx pv nx data c),{ x.2.cV with log:=x.2.log++cC x.1 kd tx pv nx data c })):=by
      grind[aG]
     rw[e1,e2];exact .inr ⟨rfl,I,rfl⟩
section
variable {mk:List Nat} {n:Int}
theorem PtR.mQ {l:List Int}(J:PtR now aO l ε e af): ∀ {p:Int→Prop},fG (bB ε)→FS N ba aC mk rs B0 g p ε→NW N now→(∀n∈l,0≤n∧n<N)→l.Nodup→(∀n∈l,p n)→(∃t r,rs=t++[r]∧aO=ba+szB t)→aO<18446744073709551616→∀ {F:Nat},F≤ε.2.1.forced →
  M4 N ba aC mk rs B0 g F e af (PtR now aO l (bB ε) e (bB af)):=by
 induction J with
 |nil ε=>intro p _ h _ _ _ _ _ _ F _;exact .inl ⟨h.alive,.nil _⟩
 |jj n l ε e b af J he =>
  intro p h3 h hn hl _ _ _ _ F hF
  rcases J.mQ h with⟨k1,k2⟩|⟨k1,k2,k3⟩
  ·exact .inl ⟨k1,.jj _ _ _ _ _ _ k2 he⟩
  ·exact .inr ⟨k1,k2,k3.low hF⟩
 |bad n l ε b0 b af J hb he =>
  intro p h3 h hn hl _ _ _ _ F hF
  rcases J.mQ h with⟨k1,k2⟩|⟨k,_⟩
  ·exact .inl ⟨k1,.bad (ε:=bB ε) _ _ _ _ _ k2 hb he⟩
  ·cases k
 |put n l ε b0 b af e lz J hb he ht ih =>
  intro p h3 h hn hl iK hp I cI F hF
  rcases J.mQ h with⟨k1,k2⟩|⟨k,_⟩
  ·have j7:=hl n bZ
   obtain⟨c1,c2,c3,c4⟩:=k2.ec h.ec
   obtain⟨i,f,p1,p2,p3,p4,p5⟩:=k2.at h3.pins
   have hg:=hn.look hb
   have e1:=tV (aO:=aO) p1 p2 p3 hg.1
   have tF:ja af.1 n b aO=ja (bB af).1 n b aO:=rfl
   obtain⟨q1,q2⟩:=c1.put (aO:=aO) p1 p2 hg.1 hg.2 j7.1 j7.2
   have Jw:=(k2.put (b:=b) (aO:=aO) h3).1
   have oO:vw (RI ba p B0 rs g) (bB af):=(RI.kK N).jj k2 h.ec h.ri
   have nL:=RI.put oO c1 p1 p2 (eB hg.1) j7.1 (hp n bZ) I cI
   have Wl:=((mF ba aC mk rs).kK N).jj k2 h.ec h.lr
   have hF2:=(((v7 ε.2.1.forced).kK N).jj k2 h.ec ⟨aU _,h.le⟩).1
   have Sk:(bB af).2.2.log.length=ε.2.2.log.length:=((CY ε.2.2.log.length).kK N).jj k2 h.ec rfl
   obtain⟨d1,d2⟩:=List.nodup_cons.1 iK
   have h':FS N ba aC mk rs B0 g (fun m=>p m∧m≠n) ((ja af.1 n b aO).2,af.2):=by
    refine⟨k1,?_,Wl,?_,?_⟩
    ·rw[tF,e1];exact nL
    ·rw[tF,e1];exact q1
    ·have Sk:af.2.2.log.length=ε.2.2.log.length:=Sk
     rw[Sk];exact h.len
   rcases ih Jw h' hn (fun m hm=>hl m (b8 _ hm)) d2 (fun m hm=>⟨hp m (b8 _ hm),fun q=>d1 (by grind)⟩) I cI (bX hF hF2) with⟨j1,j2⟩|j
   ·exact .inl ⟨j1,.put (ε:=bB ε) _ _ _ _ _ _ _ k2 hb he j2⟩
   ·exact .inr j
  ·cases k
theorem ChR.laid {kd:Nat}{η I:aX}(hc:ChR now (aF now) η 0 cs I)(h:EI N B η)(hB:B≤1000)(hn:NW N now)(hl:LR ba aC mk rs η.2)(h1:1≤kd)(h2:kd≤7)(ht:tx<65536)(hv:vw (RI ba tH B0 rs g) η)(fX:y9 N rs B0 η)(lR:vh rs B0)
 (ha:(aG I.2 kd tx 0 0 data cs).1.2=0): ∃(r:cz) (g':Int→Option Nat),r.kd=kd∧(aG I.2 kd tx 0 0 data cs).1.1=ba+szB rs∧ba+szB rs<18446744073709551616∧LR ba aC mk (rs++[r]) (aG I.2 kd tx 0 0 data cs).2 ∧
   vw (RI ba (fun n=>n∈aF now) B0 (rs++[r]) g') (I.1,(aG I.2 kd tx 0 0 data cs).2)∧EI N (B+1) (I.1,(aG I.2 kd tx 0 0 data cs).2)∧vh (rs++[r]) B0∧(∀n rec,g' n=some rec→g n=some rec∨rec=ba+szB rs) ∧
   ∀n,0≤n→n<(N:Int)→iO (eA (rs++[r]) B0 n) (match lookL n now with|some b=>b|none=>pgA η n):=by
 have J:∀n∈aF now,0≤n∧n<N:=fun n hq=>hn.keys n (fB.1 hq)
 have hN:=h.many
 have eX:ej kd cs=true:=by
  refine yq ⟨by omega,by omega⟩ (hc.fit (fun x hx=>eB (hn.good x hx).1) fun n hq => ?_)<;>grind
 have iK:(aF now).Nodup:=(eL _).nodup_iff.2 hn.nodup
 obtain⟨c1,c2,c3⟩:=hc.ec h.ec h.ok J
 have hi:EI N B I:=⟨hc.jk h.ok,c1,hc.el h.el,bX hc.bM h.bM⟩
 have qD:=(mF ba aC mk rs).ch hc hl
 obtain⟨r,k1,k2,k3,k4,k5,k6,k7,k8,k9,k10,_⟩:=qD.app h1 eX ht ha
 obtain⟨a1,a2,a3⟩:=hi.app (kd:=kd) (tx:=tx) (pv:=0) (nx:=0) (data:=data) (c:=cs) hB eX
 have a3:=a3.resolve_right (by omega)
 obtain⟨_,a4⟩:=a3
 have oO:vw (RI ba tH B0 rs g) I:=(RI.kK N).ch hc h.ec h.ok hv
 obtain⟨s1,s2,s3,s4⟩:=hc.st (σ:=eA rs B0) h.ec h.ok hn iK J hv (fun n hm=>by have:=J n hm;exact fX n this.1 this.2)
 subst k7
 have fC:=hi.el.size
 have BQ:=qD.b
 have hba:=qD.base
 have cI:ba+szB rs<18446744073709551616:=by
  grind
 have jf:∀n,n∈aF now↔vg r n:=fun n=>(s3 n).symm
 have nL:=RI.app (mG.1 oO) (r:=r) (fun n hg hq=>s4 n ((jf n).2 hq) hg) (μ:=(aG I.2 kd tx 0 0 data r.aR).2.1) (δ:=(aG I.2 kd tx 0 0 data r.aR).2.2)
  (by rw[k9.base,hba]) k9.b (by rw[a4];rfl) k9.log (by rw[a4]) (by rw[a4]) (by rw[a4]) (by rw[a4]) (by rw[a4]) (by rw[a4]) jf
 refine⟨r,_,k2,k8,cI,k9,nL,a1,lR.app (hc.lt hn) (fun n hq => ?_),fun n rec hq => ?_,fun n h0 qX => ?_⟩
 ·have hm:=(jf n).2 hq
  cases hb:lookL n now with
  |none=>grind[fB,gx]
  |some b =>
   rw[qK]
   show bW (jd r.aR (eA rs B0) n)=true
   rw[(s1 n hm b hb).good];exact(hn.look hb).1
 ·grind
 ·rw[qK]
  show iO (jd r.aR (eA rs B0) n) _
  cases hq:lookL n now with
  |some b =>
   have hm:n∈aF now:=fB.2 ((fJ hq) |> nj (f:=(·.1)))
   exact s1 n hm b hq
  |none =>
   have hm:n∉aF now:=fun q=>gx.1 hq (fB.1 q)
   rw[s2 n hm]
   exact fX n h0 qX
theorem DnR.mQ {kd:Nat}(hr:DnR ε now kd tx 0 0 data 0 aO e cl af)(h:FS N ba aC mk rs B0 g tH ε)(hi:EI N B (bB ε))(hB:B≤1000)(hn:NW N now)(h1:1≤kd)(h2:kd≤7)(ht:tx<65536)(fX:y9 N rs B0 (bB ε))(lR:vh rs B0):
  (af.2.2.dead=false∧DnR (bB ε) now kd tx 0 0 data 0 aO e cl (bB af))∨(e=9∧aO=0∧af.2.2.dead=true∧tI N ba aC mk rs B0 g ε.2.1.forced af.2.2) ∨
  (e=9∧aO=0∧af.2.2.dead=true∧∃(r:cz) (g':Int→Option Nat),r.kd=kd∧tI N ba aC mk (rs++[r]) B0 g' ε.2.1.forced af.2.2∧vh (rs++[r]) B0∧(∀n rec,g' n=some rec→g n=some rec∨rec=ba+szB rs) ∧
   ∀n,0≤n→n<(N:Int)→iO (eA (rs++[r]) B0 n) (match lookL n now with|some b=>b|none=>pgA (bB ε) n)):=by
 have J:∀n∈aF now,0≤n∧n<N:=fun n hq=>hn.keys n (fB.1 hq)
 have iK:(aF now).Nodup:=(eL _).nodup_iff.2 hn.nodup
 cases hr with
 |arg hh=>omega
 |dead _ _ _ hd=>rw[h.alive] at hd;cases hd
 |kj e c af q1 q2 q3 hd hc he =>
  rcases hc.mQ hi.ok h (aU _) with⟨k1,k2⟩|⟨k1,k2,k3⟩
  ·exact .inl ⟨k1,.kj _ _ _ q1 q2 q3 hd k2 he⟩
  ·grind
 |app c I q1 q2 q3 hd hc he =>
  rcases hc.mQ hi.ok h (aU _) with⟨k1,k2⟩|⟨k,_⟩
  ·obtain⟨c1,c2,c3⟩:=k2.ec hi.ec hi.ok J
   obtain⟨f1,f2⟩:=h.next k1 c1 (fun P hP hv=>hP.ch k2 h.ec hi.ok hv)
   rcases zu (x:=I.2) (kd:=kd) (tx:=tx) (pv:=0) (nx:=0) (data:=data) (c:=c) k1 with⟨a1,a2,a3,a4⟩|⟨a1,a2,a3⟩
   ·refine .inr (.inr ⟨by rw[a1],rfl,by rw[a1];rfl,?_⟩)
    obtain⟨r,g',r1,r2,r3,r4,r5,r6,r7,r8,r9⟩:=k2.laid hi hB hn h.lr h1 h2 ht h.ri fX lR (kd:=kd) (tx:=tx) (data:=data) a2
    refine⟨r,g',r1,⟨_,_,_,_,none,mG.1 r5,r4,?_,r6.ec.dk.aq,r6.ok.ok.dk.len,?_,fun w hw=>(by cases hw)⟩,r7,r8,r9⟩
    ·have:∀ {x:LD} {kd:Int} {tx pv nx:Nat} {dt:List Nat} {c:List cq},(aG x kd tx pv nx dt c).2.1.forced=x.1.forced:=fun {x kd tx pv nx dt c}=>by
      rcases fh x kd tx pv nx dt c with⟨e,_,_,hq⟩|⟨_,_,hq⟩|⟨_,_,_,_,_,hq⟩<;>rw[hq]
      rfl
     rw[this];exact f2
    ·have ht:I.2.2.tail=[]:=f1.lr.tail
     have htn:I.2.2.dG=none:=f1.lr.dG
     have a3:(aG (bB I).2 kd tx 0 0 data c).2.2={ I.2.2.live with log:=I.2.2.log++cC I.2.1 kd tx 0 0 data c }:=a3
     rw[a3,a1]
     refine⟨?_,rfl,rfl,rfl,rfl,htn⟩
     show I.2.2.log++cC I.2.1 kd tx 0 0 data c=(I.2.2.log++cC I.2.1 kd tx 0 0 data c)++I.2.2.tail
     rw[ht,dS]
   ·have:=DnR.app (ε:=bB ε) (now:=now) (kd:=kd) (tx:=tx) (pv:=0) (nx:=0) (data:=data) c (bB I) q1 q2 q3 hd k2 (by rw[a1] at he;exact he)
    grind[bB]
  ·cases k
 |put c I e fM q1 q2 q3 hd hc ha hp =>
  rcases hc.mQ hi.ok h (aU _) with⟨k1,k2⟩|⟨k,_⟩
  ·obtain⟨c1,c2,c3⟩:=k2.ec hi.ec hi.ok J
   obtain⟨f1,f2⟩:=h.next k1 c1 (fun P hP hv=>hP.ch k2 h.ec hi.ok hv)
   rcases zu (x:=I.2) (kd:=kd) (tx:=tx) (pv:=0) (nx:=0) (data:=data) (c:=c) k1 with⟨a1,_⟩|⟨a1,a2,a3⟩
   ·grind
   ·have ZK:(aG (bB I).2 kd tx 0 0 data c).1.2=0:=by
     show(aG (cZ I.2) kd tx 0 0 data c).1.2=0
     rw[←a1];exact ha
    obtain⟨r,g',r1,r2,r3,r4,r5,r6,r7,r8,r9⟩:=k2.laid hi hB hn h.lr h1 h2 ht h.ri fX lR (kd:=kd) (tx:=tx) (data:=data) ZK
    have e3:bB (I.1,(aG I.2 kd tx 0 0 data c).2)=((bB I).1,(aG (bB I).2 kd tx 0 0 data c).2):=by
     show(I.1,cZ (aG I.2 kd tx 0 0 data c).2)=_
     rw[a3];rfl
    have hlf:(aG I.2 kd tx 0 0 data c).2.1.forced=I.2.1.forced:=by
     rcases fh I.2 kd tx 0 0 data c with⟨e,_,_,hq⟩|⟨_,_,hq⟩|⟨_,_,_,_,_,hq⟩<;>rw[hq]
     rfl
    have hF:FS N ba aC mk (rs++[r]) B0 g' (fun n=>n∈aF now) (I.1,(aG I.2 kd tx 0 0 data c).2):=by
     refine⟨a2,by grind,?_,by rw[e3];exact r6.ec,?_⟩
     ·grind[bB]
     ·have:=r6.ok.ok.dk.len
      have e5:(aG I.2 kd tx 0 0 data c).2.2.log=(aG (bB I).2 kd tx 0 0 data c).2.2.log:=by
       show(cZ (aG I.2 kd tx 0 0 data c).2).2.log=_
       rw[a3];rfl
      grind
    have aaE:(aG I.2 kd tx 0 0 data c).1.1=ba+szB rs:=by rw[a1];exact r2
    rcases hp.mQ (by rw[e3];exact r6.ok) hF hn J iK (fun n hm=>hm) ⟨rs,r,rfl,aaE⟩ (by omega) (F:=ε.2.1.forced) (by grind) with⟨j1,j2⟩|⟨j1,j2,j3⟩
    ·refine .inl ⟨j1,?_⟩
     rw[e3,a1] at j2
     have:=DnR.put (ε:=bB ε) (now:=now) (kd:=kd) (tx:=tx) (pv:=0) (nx:=0) (data:=data) c (bB I) e (bB af) q1 q2 q3 hd k2 ZK j2
     rw[a1];exact this
    ·grind
  ·cases k
end
section
variable {aeE aeF lo:Nat} {mk HR ad6:List Nat}
theorem Yi {C:Int→List Nat→Prop}{y:LD}(J:cZ x=y)(h:RI ba pd B0 rs g C d y)(I:LR ba aC mk rs y)(hF:F≤y.1.forced)(hN:y.2.aq.length=N)(hlen:y.2.log.length≤16777216): tI N ba aC mk rs B0 g F x.2.die:=by
 subst J
 exact⟨_,_,_,_,none,h,I,hF,hN,hlen,⟨rfl,rfl,rfl,rfl,rfl,I.dG⟩,fun w hw=>(by cases hw)⟩
end
section
variable {mk:List Nat}
theorem FS.dead (h:FS N ba aC mk rs B0 g pd ε): tI N ba aC mk rs B0 g ε.2.1.forced ε.2.2.die :=
 Yi (y:=cZ ε.2) rfl (mG.1 h.ri) h.lr (aU _) h.ec.dk.aq h.len
theorem FS.aaG (h:FS N ba aC mk rs B0 g pd ε)(n:Nat): (aJ ε.2 n=(9,(ε.2.1,ε.2.2.die))∧tI N ba aC mk rs B0 g ε.2.1.forced ε.2.2.die) ∨
  ((aJ ε.2 n).1=(aJ (bB ε).2 n).1∧(aJ ε.2 n).2.2.dead=false∧bB (ε.1,(aJ ε.2 n).2)=((bB ε).1,(aJ (bB ε).2 n).2)):=by
 rcases AY (n:=n) h.alive with k|⟨k1,k2,I⟩
 ·exact .inl ⟨k,h.dead⟩
 ·refine .inr ⟨k1,k2,?_⟩
  show(ε.1,cZ (aJ ε.2 n).2)=_
  rw[I];rfl
end
structure FM (N B ba aC:Nat)(mk:List Nat)(rs:List cz)(B0:Int→List Nat)(g:Int→Option Nat)(F:Nat)(ε:aX): Prop where
 ok:fG ε
 fs:FS N ba aC mk rs B0 g tH ε
 ei:EI N B (bB ε)
 st:y9 N rs B0 (bB ε)
 gd:vh rs B0
 fo:F≤ε.2.1.forced
def Wm (N ba aC:Nat)(mk:List Nat)(rs:List cz)(B0:Int→List Nat)(g:Int→Option Nat)(F:Nat)(e:Int)(ε:aX): Prop:=e=9∧ε.2.2.dead=true∧tI N ba aC mk rs B0 g F ε.2.2
section
variable {mk w:List Nat} {n:Int}
theorem FM.next (h:FM N B ba aC mk rs B0 g F ε)(ho:fG af)(J:af.2.2.dead=false)(he:EI N B (bB af))(hp:∀P:VP,mz N P→vw P (bB ε)→vw P (bB af))(hg:∀m,pgA (bB af) m=pgA (bB ε) m): FM N B ba aC mk rs B0 g F af:=by
 obtain⟨I,h2⟩:=h.fs.next J he.ec hp
 exact⟨ho,I,he,fun m h0 I=>by rw[hg];exact h.st m h0 I,h.gd,bX h.fo h2⟩
theorem FM.qF (h:FM N B ba aC mk rs B0 g F ε)(I:GRd ε now false n e b af): Wm N ba aC mk rs B0 g F e af∨(FM N B ba aC mk rs B0 g F af∧GRd (bB ε) now false n e b (bB af)∧∀m,pgA (bB af) m=pgA (bB ε) m):=by
 rcases I.mQ h.fs with⟨k1,k2⟩|⟨k1,k2,k3⟩
 ·have J:=(k2.ec h.ei.ec h.ei.ok.pins).2.1
  exact .inr ⟨h.next (I.jk h.ok) k1 (h.ei.qF k2) (fun P hP hv=>hP.qF k2 h.fs.ec hv) J,k2,J⟩
 ·exact .inl ⟨k1,k2,k3.low h.fo⟩
theorem FM.y5 (h:FM N B ba aC mk rs B0 g F ε)(I:om ε now false n b e bL af): Wm N ba aC mk rs B0 g F e af∨(FM N B ba aC mk rs B0 g F af∧om (bB ε) now false n b e bL (bB af)∧∀m,pgA (bB af) m=pgA (bB ε) m):=by
 rcases I.mQ h.fs with⟨k1,k2⟩|⟨k1,k2,k3⟩
 ·have J:=(k2.ec h.ei.ec h.ei.ok.pins).2.1
  exact .inr ⟨h.next (I.jk h.ok) k1 (h.ei.y5 k2) (fun P hP hv=>hP.y5 k2 h.fs.ec hv) J,k2,J⟩
 ·exact .inl ⟨k1,k2,k3.low h.fo⟩
end
section
variable {kd:Nat}
theorem DnR.seven (hr:DnR ε now kd tx 0 0 [] 0 aO e cl af)(I:EI N B ε)(hB:B≤1000)(hw:NW N now)(hN:N≤1024)(h1:1≤kd)(h2:kd≤7)(GD:tx<16384):
  (cl=false∧e=7)∨(cl=true∧e=0∧bM af≤bM ε+now.length∧af.2.2.room=ε.2.2.room∧af.2.2.log.length≤ε.2.2.room):=by
 have J:∀n∈aF now,0≤n∧n<N:=fun n hq=>hw.keys n (fB.1 hq)
 have Oy:=I.done hB hw (by omega) (by omega) hr
 cases hr with
 |arg hh=>omega
 |dead _ _ _ hd=>omega
 |kj e c af _ _ _ _ hc Jl=>exact absurd (hc.ec I.ec I.ok J).2.2 Jl
 |app c fM _ _ _ _ hc Jl =>
  have m7:=yD (kd:=kd) hc hw hw.len (by omega) GD
  grind[fh]
 |put c fM e tW _ _ _ _ hc ha hp =>
  rcases Oy with⟨je,_⟩|⟨_,he,_⟩
  ·grind
  ·have hP:=(sg ε.2.2.log.length ε.2.2.room).ch hc ⟨rfl,rfl⟩
   have hi:EI N B fM:=⟨hc.jk I.ok,(hc.ec I.ec I.ok J).1,hc.el I.el,bX hc.bM I.bM⟩
   have hpc:=hc.bM
   have eX:ej kd c=true:=by
    refine yq ⟨by omega,by omega⟩ (hc.fit (fun x hx=>eB (hw.good x hx).1) fun n hq => ?_)<;>grind
   obtain⟨a1,_,_⟩:=hi.app (kd:=kd) (tx:=tx) (pv:=0) (nx:=0) (data:=[]) (c:=c) hB eX
   have LZ:=hp.bM a1.ok
   have V6:(aF now).length=now.length:=sn
   rcases fh fM.2 kd tx 0 0 [] c with⟨e,he,uG,hq⟩|⟨_,hfu,hq⟩|⟨_,hb,nW,eX,hfu,hq⟩
   ·grind
   ·grind
   ·rw[hq] at hp LZ
    have jM:=(sg (ε.2.2.log.length+(cC fM.2.1 kd tx 0 0 [] c).length) ε.2.2.room).pt hp ⟨by grind,hP.2⟩
    grind[bM]
end
abbrev gQ : Int→List Nat:=fun _=>List.replicate 512 0
structure m9 (N M B:Nat)(rs:List cz)(ε:aX): Prop where
 ei:EI N B ε
 ex:∃g,RS N 1 0 [] rs gQ g ε
 pt:bM ε≤szB rs
 rm:ε.2.2.room=M
 sz:szB rs≤M
 mb:M≤B*65536
 b9:1≤B∧B≤900
theorem m9.sm (h:m9 N M B rs ε)(he:EI N B af)(hs:Sm N ε af): m9 N M B rs af:=by
 obtain⟨g,I⟩:=h.ex
 exact⟨he,⟨g,I.pre hs.2.1 hs.1⟩,bX hs.2.2 h.pt,hs.2.1 _ ((tg M).kK N) h.rm,h.sz,h.mb,h.b9⟩
theorem ChR.cV {l:List Int}(I:ChR now l ε e cs af): e=0→l.length≤cs.length:=by
 induction I<;>grind[List.length_pos_iff,Kr]
theorem m9.done {kd:Nat}(h:m9 N M B rs ε)(hw:NW N now)(hN:N≤1024)(h1:1≤kd)(h2:kd≤7)(hr:DnR ε now kd 0 0 0 [] 0 aO 0 true af):
  ∃r,m9 N M B (rs++[r]) af∧aO=1+szB rs:=by
 obtain⟨g,I⟩:=h.ex
 have hb9:=h.b9
 have Ij:=h.mb
 obtain⟨r,g',k1,_,_,_,_,_,k7,J,k9,k10,k11,_,pG,jf⟩:=hr.ri h.ei (by omega) hw I.lr h1 h2 (by decide) I.ri I.st I.gd
 rcases hr.seven h.ei (by omega) hw hN h1 h2 (by decide) with⟨q,_⟩|⟨_,_,q1,q2,q3⟩
 ·cases q
 rcases h.ei.done (by omega) hw (by omega) (by omega) hr with⟨q,_⟩|⟨_,_,he,_⟩
 ·cases q
 have hlen:af.2.2.log.length=szB (rs++[r]):=by rw[J.log,fW]
 have hb:=J.b
 have m7:af.2.1.b.length=szB (rs++[r]):=by rw[hb,fW]
 have GH:now.length≤r.len:=by
  have c1:=jf.cV rfl
  have c2:=(yM (kd:=r.kd) (tx:=r.tx) (pv:=r.pv) (nx:=r.nx) (data:=r.data) (aR:=r.aR)).2
  have c3:(aF now).length=now.length:=sn
  have c4:r.len=8+(dD r.kd r.tx r.pv r.nx r.data r.aR).length:=rfl
  omega
 have e2:szB (rs++[r])=szB rs+r.len:=by rw[qJ];simp[szB]
 have hp:=h.pt
 rw[h.rm] at q2 q3
 refine⟨r,⟨⟨he.ok,he.ec,⟨he.el.log,he.el.cert,?_⟩,?_⟩,⟨g',J,k9,k10,k11⟩,by omega,q2,by omega,Ij,hb9⟩,k7⟩
 ·rw[J.base,m7];omega
 ·omega
def aaH (rs:List cz)(ε:aX): Prop:=ε.2.1.forced=szB rs
theorem m9.AV (h:m9 N M B rs ε): (aJ ε.2 (1+szB rs)).1=0∧m9 N M B rs (ε.1,(aJ ε.2 (1+szB rs)).2)∧aaH rs (ε.1,(aJ ε.2 (1+szB rs)).2)∧∀m,pgA (ε.1,(aJ ε.2 (1+szB rs)).2) m=pgA ε m:=by
 obtain⟨f1,f2,f3⟩:=h.ei.force (n:=1+szB rs)
 obtain⟨g,hg⟩:=h.ex
 obtain⟨x',I,MZ,cI,w1,w2,w3⟩:=(mG.1 hg.ri).AV
 have J:=(mF 1 0 [] rs).force ε.2 (1+szB rs) hg.lr
 rw[I] at f2 f3 J ⊢
 refine⟨rfl,⟨f2,⟨g,J,mG.2 MZ,fun n a b=>by rw[f3];exact hg.st n a b,hg.gd⟩,?_,?_,h.sz,h.mb,h.b9⟩,cI,f3⟩
 ·have:bM (ε.1,x')=bM ε:=by unfold bM;rw[w1]
  rw[this];exact h.pt
 ·have:=(tg M).force ε.2 (1+szB rs) h.rm
  rw[I] at this;exact this
structure FX (N B f:Nat)(c:List Nat)(F:Nat)(rs:List cz)(δ:Dk)(u:List cz)(j:List Nat): Prop where
 pre:∃w,rs=u++w
 all:F≤szB u
 ag:oX (fV δ c) 65536
 mark:(fV δ c).mark=[]
 log:(fV δ c).log=logB 1 u++j
 SX:sj j
 ok:∀r∈u,r.Ok
 len:1+(fV δ c).log.length≤1099511627776
 Db:(e_ (fV δ c) 1 u [] u).1=0
 ei:EI N B (Pl.fresh f,(jc 1 0 u,(e_ (fV δ c) 1 u [] u).2))
 pg:∀n,0≤n→n<(N:Int)→iO (eA u gQ n) (pgA (Pl.fresh f,(jc 1 0 u,(e_ (fV δ c) 1 u [] u).2)) n)
theorem yN.xC {v:List cz}(h:yN 1 gQ u v [] r2 δ)(hu:rs=u++v)(hF:F≤szB u)(De:δ.Cr)(Em:δ.mark=[])(nN:δ.aq.length=N)(fC:1+szB rs≤B*1048600)(hB:1≤B∧B≤900)(c:List Nat)(hf:1≤f)(y7:f≤1024): ∃u j,FX N B f c F rs δ u j:=by
 obtain⟨I,vi⟩:=UT (c:=c) De
 have e2:r2=u:=by have:=h.split;simpa using this.symm
 subst e2
 obtain⟨t,t',nL,J⟩:=h.abP c
 have Ge:OpD 1 gQ (r2++t) [] (r2++t) N (fV δ c):=⟨J,rfl,by omega,fun k hk=>(by cases hk),kq,fun n b hb=>(by cases hb)⟩
 obtain⟨j,e1,e2⟩:=Ge.aaF
 have hlen:(fV δ c).log.length≤16777216:=I.ok.len
 have hlu:szB (r2++t)≤szB rs:=by grind[tf]
 obtain⟨o1,o2,o3⟩:=Ge.eng (aC:=0) (B:=B) (f:=f) rfl rfl rfl US I.ok hf y7 hB.1 (by omega) (by omega) (by decide)
 exact⟨r2++t,j,⟨t',by grind⟩,bX hF tf,I,Em,e1,e2,o3.lr.rs,by omega,o1,o2,fun n h0 h1=>o3.st n h0 h1⟩
theorem aaI (h:∀n rec,g n=some rec→1≤rec): Se 1 0 [] rs [] F g:=⟨fun n rec I=>by
 grind[szB],.inl ⟨rfl,rfl,rfl⟩⟩
theorem m9.fresh (hN:N≤65536)(hm:M≤16777216)(J:1≤B∧B≤900)(I:M≤B*65536)(h4:1≤f)(h5:f≤1024): m9 N M B [] (Am.fresh N M f):=by
 have e:fU (Pl.fresh f).ai=0:=by
  rw[fU,List.count_eq_zero]
  intro hh
  obtain⟨x,hx,hc⟩:=List.mem_map.1 hh
  rw[we hx] at hc
  cases hc
 exact⟨(EI.fresh hN hm h4 h5).more J.1,⟨_,RS.fresh⟩,by show([]:List Wr).length+fU (Pl.fresh f).ai≤_;rw[e];exact fe _,rfl,fe _,I,J⟩
theorem m9.fmt (h:m9 N M B rs ε)(I:N≤1024)(hd:Rv N B 1 ε af): ∃r,m9 N M B (rs++[r]) af:=by
 obtain⟨J,now,aO,h1,h2,h3,h4,h5⟩:=hd
 obtain⟨r,hr,_⟩:=(h.sm h1 h2).done h3 I (by decide) (by decide) h5
 exact⟨r,hr⟩
section
variable {kd:Nat} {n:Int}
theorem DnR.jk (hr:DnR ε now kd tx 0 0 [] 0 aO e cl af)(h:fG ε)(hl:ε.2.1.b=ε.2.2.log)(hz:ε.2.1.base+ε.2.1.b.length+1048584≤1099511627776): fG af∧bM af≤bM ε+now.length∧(cl=false→bM af≤bM ε):=by
 have V6:(aF now).length=now.length:=sn
 have ap:∀ {c:List cq} {I:aX},ChR now (aF now) ε 0 c I→fG (I.1,(aG I.2 kd tx 0 0 [] c).2)∧bM (I.1,(aG I.2 kd tx 0 0 [] c).2)≤bM ε:=fun {c I} J=>by
  have h3:=J.jk h
  have oP:=J.same
  have Mx:=vW (x:=I.2) (kd:=kd) (tx:=tx) (pv:=0) (nx:=0) (data:=[]) (c:=c) h3.ok.lg h3.ok.dk (by rw[oP.b,oP.log];exact hl) (by rw[oP.base,oP.b];exact hz)
  have hp:=J.bM
  refine⟨⟨⟨h3.ok.pl,Mx.1,Mx.2.1⟩,h3.pins,h3.full⟩,?_⟩<;>grind[bM]
 cases hr with
 |arg _=>grind
 |dead _ _ _ _=>grind
 |kj e c af _ _ _ _ J _=>exact⟨J.jk h,by have:=J.bM;omega,fun _=>J.bM⟩
 |app c I _ _ _ _ J _=>grind
 |put c I e fM _ _ _ _ J _ hp =>
  obtain⟨a1,a2⟩:=ap J
  have:=hp.bM a1
  exact⟨hp.jk a1,by omega,fun q=>by cases q⟩
theorem om.in9 (I:om ε now false n b e bL af)(he:e=9): bL=now:=by
 cases I with
 |may e c af I he=>rfl
 |bad c af I J=>rfl
 |done c af I J=>cases he
structure ig (N M B F:Nat)(rs:List cz)(ε:aX): Prop where
 fm:∃g,FM N B 1 0 [] rs gQ g F ε
 pt:bM ε≤szB rs
 rm:ε.2.2.room=M
 sz:szB rs≤M
 mb:M≤B*65536
 b9:1≤B∧B≤900
structure Dd (N F:Nat)(rs:List cz)(ε:aX): Prop where
 dead:ε.2.2.dead=true
 ok:fG ε
 pt:bM ε≤268435456
 gd:vh rs gQ
 ex:∃g,tI N 1 0 [] rs gQ g F ε.2.2
def O2 (ε af:aX): Prop:=∀m,pgA af m=pgA ε m
theorem ig.log (h:ig N M B F rs ε): ε.2.1.b=ε.2.2.log:=by obtain⟨g,I⟩:=h.fm;exact I.ei.el.log
theorem ig.ok (h:ig N M B F rs ε): fG ε:=by obtain⟨g,I⟩:=h.fm;exact I.ok
theorem ig.size (h:ig N M B F rs ε): ε.2.1.base+ε.2.1.b.length+1048584≤1099511627776:=by
 obtain⟨g,I⟩:=h.fm
 have J:ε.2.1.base+ε.2.1.b.length≤B*1048600:=I.ei.el.size
 have:=h.b9
 omega
theorem ig.FY (h:ig N M B F rs ε): bM ε≤58982400:=by
 have I:=h.pt
 have J:=h.sz
 have h3:=h.mb
 have h4:=h.b9
 omega
theorem ig.next (h:ig N M B F rs ε)(I:bM af≤bM ε)(hs:(∀P:VP,mz N P→vw P (bB ε)→vw P (bB af)))(J:∃g,FM N B 1 0 [] rs gQ g F af): ig N M B F rs af :=
 ⟨J,bX I h.pt,hs _ ((tg M).kK N) h.rm,h.sz,h.mb,h.b9⟩
theorem ig.die (h:ig N M B F rs ε)(hp:bM af≤bM ε+65536)(ho:fG af)(hd:af.2.2.dead=true)(I:∃g,tI N 1 0 [] rs gQ g F af.2.2): Dd N F rs af:=by
 have:=h.FY
 obtain⟨g,J⟩:=h.fm
 exact⟨hd,ho,by omega,J.gd,I⟩
theorem ig.qF (h:ig N M B F rs ε)(I:GRd ε now false n e b af): (e=9∧Dd N F rs af)∨(ig N M B F rs af∧O2 ε af∧(0≤n→n<(N:Int)→e=0∧b=pgG now ε n)):=by
 obtain⟨g,J⟩:=h.fm
 rcases J.qF I with⟨k1,k2,k3⟩|⟨k1,k2,k3⟩
 ·exact .inl ⟨k1,h.die (bX I.bM (Bb _ _)) (I.jk h.ok) k2 ⟨g,k3⟩⟩
 ·have:=k2.ec J.ei.ec J.ei.ok.pins
  exact .inr ⟨h.next I.bM (fun P hP hv=>hP.qF k2 J.ei.ec hv) ⟨g,k1⟩,k3,this.2.2.1⟩
theorem ig.y5 (h:ig N M B F rs ε)(I:om ε now false n b e bL af): (e=9∧bL=now∧Dd N F rs af)∨(ig N M B F rs af∧O2 ε af∧(0≤n→n<(N:Int)→bW b=true→e=0∧bL=cD n b now)):=by
 obtain⟨g,J⟩:=h.fm
 rcases J.y5 I with⟨k1,k2,k3⟩|⟨k1,k2,k3⟩
 ·exact .inl ⟨k1,I.in9 k1,h.die (bX I.bM (Bb _ _)) (I.jk h.ok) k2 ⟨g,k3⟩⟩
 ·have:=k2.ec J.ei.ec J.ei.ok.pins
  exact .inr ⟨h.next I.bM (fun P hP hv=>hP.y5 k2 J.ei.ec hv) ⟨g,k1⟩,k3,this.2.2.2.2⟩
theorem Dd.qF (h:Dd N F rs ε)(I:GRd ε now false n e b af): af=ε:=by
 cases I with
 |arg _=>rfl
 |cu _ _ q=>cases q
 |own _ _ _ _ _=>rfl
 |read e b af _ _ _ _ I =>
  cases I<;>grind[dead]
theorem ig.done (h:ig N M B F rs ε)(hw:NW N now)(hN:N≤1024)(J:1≤kd)(h2:kd≤7)(hr:DnR ε now kd 0 0 0 [] 0 aO e cl af):
  (e=9∧aO=0∧(Dd N F rs af∨∃r,Dd N F (rs++[r]) af∧∀n,0≤n→n<(N:Int)→iO (eA (rs++[r]) gQ n) (pgG now ε n))) ∨
  (e=7∧cl=false∧ig N M B F rs af)∨(e=0∧cl=true∧∃r,ig N M B F (rs++[r]) af∧aO=1+szB rs∧∀m,pgA af m=match lookL m now with|some b=>cW b aO|none=>pgA ε m):=by
 obtain⟨g,I⟩:=h.fm
 obtain⟨o1,o2,o3⟩:=hr.jk h.ok h.log h.size
 have hb9:=h.b9
 have Ij:=h.mb
 have hnl:=hw.len
 have hp9:=h.FY
 have Ic:=hr.room h.rm
 have LZ:=h.pt
 have fC:=h.sz
 rcases hr.mQ I.fs I.ei (by omega) hw J h2 (by decide) I.st I.gd with⟨k1,k2⟩|⟨k1,k2,k3,k4⟩|⟨k1,k2,k3,r,g',k4,k5,k6,k7,k8⟩
 ·have nM:F≤af.2.1.forced:=by
   have hle:ε.2.1.forced≤ε.2.1.b.length:=I.fs.le
   have:=(k2.forced (F:=ε.2.1.forced) ⟨aU _,hle⟩).1
   exact bX I.fo this
  -- how long the log is
  have fin:∀ {fK:List cz} {B2:Nat} {g2:Int→Option Nat},LR 1 0 [] fK (bB af).2→vw (RI 1 tH gQ fK g2) (bB af)→EI N B2 (bB af)→y9 N fK gQ (bB af)→vh fK gQ→szB fK≤M→bM af≤szB fK→ig N M B F fK af:=fun {fK B2 g2} a1 a2 a3 a4 a5 a6 a7=>by
   refine⟨⟨g2,o1,⟨k1,a2,a1,a3.ec,o1.ok.dk.len⟩,⟨a3.ok,a3.ec,⟨a3.el.log,a3.el.cert,?_⟩,?_⟩,a4,a5,nM⟩,a7,Ic,a6,Ij,hb9⟩
   ·rw[a1.base,a1.b,fW];omega
   ·have:bM (bB af)=bM af:=rfl
    omega
  rcases k2.seven I.ei (by omega) hw hN J h2 (by decide) with⟨rfl,rfl⟩|⟨rfl,rfl,q1,q2,q3⟩
  ·obtain⟨j1,j2,j3⟩:=k2.ri0 I.ei (by omega) hw I.fs.lr J h2 I.fs.ri I.st
   rcases I.ei.done (by omega) hw (by omega) (by omega) k2 with⟨_,_,he,_⟩|⟨q,_⟩
   ·exact .inr (.inl ⟨rfl,rfl,fin j1 j2 he j3 I.gd fC (by grind)⟩)
   ·cases q
  ·obtain⟨r,g',r1,_,_,_,_,_,r7,r8,r9,r10,r11,_,pG,jf⟩:=k2.ri I.ei (by omega) hw I.fs.lr J h2 (by decide) I.fs.ri I.st I.gd
   rcases I.ei.done (by omega) hw (by omega) (by omega) k2 with⟨q,_⟩|⟨_,_,he,nN⟩
   ·cases q
   have GH:now.length≤r.len:=by
    have c1:=jf.cV rfl
    have c2:=(yM (kd:=r.kd) (tx:=r.tx) (pv:=r.pv) (nx:=r.nx) (data:=r.data) (aR:=r.aR)).2
    have c3:(aF now).length=now.length:=sn
    have c4:r.len=8+(dD r.kd r.tx r.pv r.nx r.data r.aR).length:=rfl
    omega
   have e2:szB (rs++[r])=szB rs+r.len:=by rw[qJ];simp[szB]
   have hlen:af.2.2.log.length=szB (rs++[r]):=by
    have:(bB af).2.2.log.length=szB (rs++[r]):=by rw[r8.log,fW]
    exact this
   have q3:af.2.2.log.length≤ε.2.2.room:=q3
   rw[h.rm] at q3
   exact .inr (.inr ⟨rfl,rfl,r,fin r8 r9 he r10 r11 (by omega) (by omega),r7,nN⟩)
 ·exact .inl ⟨k1,k2,.inl (h.die (by omega) o1 k3 ⟨g,k4.low I.fo⟩)⟩
 ·exact .inl ⟨k1,k2,.inr ⟨r,⟨k3,o1,by omega,k6,g',k5.low I.fo⟩,k8⟩⟩
theorem ig.aaJ {n:Nat}(h:ig N M B F rs ε)(hf:∀ {ε:aX},m9 N M B rs ε→(aJ ε.2 n).1=0∧m9 N M B rs (ε.1,(aJ ε.2 n).2)∧aaH rs (ε.1,(aJ ε.2 n).2)∧∀m,pgA (ε.1,(aJ ε.2 n).2) m=pgA ε m): ((aJ ε.2 n).1=9∧Dd N F rs (ε.1,(aJ ε.2 n).2)) ∨
  ((aJ ε.2 n).1=0∧ig N M B (szB rs) rs (ε.1,(aJ ε.2 n).2)∧∀m,pgA (ε.1,(aJ ε.2 n).2) m=pgA ε m):=by
 obtain⟨g,hg⟩:=h.fm
 have I:=h.ok
 have o1:fG (ε.1,(aJ ε.2 n).2):=⟨⟨I.ok.pl,vU I.ok.lg,oH I.ok.dk⟩,I.pins,I.full⟩
 have hpo:bM (ε.1,(aJ ε.2 n).2)=bM ε:=by unfold bM;rw[mq]
 rcases hg.fs.aaG n with⟨k1,k2⟩|⟨k1,k2,k3⟩
 ·refine .inl ⟨by rw[k1],h.die (by omega) o1 (by rw[k1];rfl) ⟨g,?_⟩⟩
  rw[k1];exact k2.low hg.fo
 ·have hRo:m9 N M B rs (bB ε):=⟨hg.ei,⟨g,hg.fs.lr,hg.fs.ri,hg.st,hg.gd⟩,h.pt,h.rm,h.sz,h.mb,h.b9⟩
  obtain⟨f1,f2,f3,f4⟩:=hf hRo
  rw[←k3] at f2 f3 f4
  obtain⟨g2,J⟩:=f2.ex
  refine .inr ⟨k1.trans f1,⟨⟨g2,o1,⟨k2,J.ri,J.lr,f2.ei.ec,o1.ok.dk.len⟩,f2.ei,J.st,J.gd,Bg f3.symm⟩,by rw[hpo];exact h.pt,f2.rm,h.sz,h.mb,h.b9⟩,f4⟩
theorem ig.AV (h:ig N M B F rs ε): ((aJ ε.2 (1+szB rs)).1=9∧Dd N F rs (ε.1,(aJ ε.2 (1+szB rs)).2)) ∨
  ((aJ ε.2 (1+szB rs)).1=0∧ig N M B (szB rs) rs (ε.1,(aJ ε.2 (1+szB rs)).2)∧∀m,pgA (ε.1,(aJ ε.2 (1+szB rs)).2) m=pgA ε m):=h.aaJ fun q=>q.AV
theorem Dd.cr (h:Dd N F rs ε): ε.2.2.Cr∧ε.2.2.mark=[]∧ε.2.2.aq.length=N∧szB rs≤16777216:=by
 obtain⟨g,pd,C,d,x,tn,hvx,I,hFx,hN,J,hd,ht⟩:=h.ex
 have gT:=h.ok.ok.dk
 have Cc:=kD (ε:=ε)
 have LZ:=h.pt
 have adg:ε.2.2.aq.length=N:=by rw[hd.aq];exact hN
 refine⟨⟨gT,fun w hq=>by rw[hd.wait] at hq;rw[hd.aq];exact I.wait w hq,by omega,fun w hq=>by rw[hd.dG] at hq;obtain⟨k1,k2,_⟩:=ht w hq;exact⟨by omega,k2⟩,by have:=jm List.length hd.lt;rw[I.tail,dS,bV] at this;omega,by rw[hd.mark,I.mark];decide⟩,by rw[hd.mark,I.mark],adg,?_⟩
 rw[I.log,fW] at J;exact J
theorem Dd.xC (h:Dd N F rs ε)(c:List Nat)(hf:1≤f)(I:f≤1024): ∃u j,FX N 17 f c F rs ε.2.2 u j:=by
 obtain⟨c1,c2,c3,c4⟩:=h.cr
 obtain⟨g,hx⟩:=h.ex
 obtain⟨u,v,r2,hu,hF,Ev,J⟩:=hx.cr h.gd (aaI fun n rec hn=>by
  obtain⟨pd,C,d,x,tn,hvx,_⟩:=hx.ex
  obtain⟨t,_,_,_,e,_⟩:=hvx.br n rec hn
  omega) h.ok.ok.dk.bj
 exact J.xC hu hF c1 c2 c3 (by omega) (by decide) c hf I
theorem ig.cr (h:ig N M B F rs ε): ε.2.2.Cr:=by
 obtain⟨g,hg⟩:=h.fm
 have hp9:=h.FY
 have Cc:=kD (ε:=ε)
 have J:=hg.fs.lr
 have I:=h.ok.ok.dk
 have e1:ε.2.2.dG=none:=J.dG
 have e2:ε.2.2.tail=[]:=J.tail
 have e3:ε.2.2.mark=[]:=J.mark
 exact⟨I,J.wait,by omega,fun w hq=>by grind,by rw[e2];exact I.len,by grind⟩
theorem ig.xC (h:ig N M B F rs ε)(c:List Nat)(hf:1≤f)(y7:f≤1024): ∃u j,FX N 17 f c F rs ε.2.2 u j:=by
 obtain⟨g,J⟩:=h.fm
 have hRS:RS N 1 0 [] rs gQ g (bB ε):=⟨J.fs.lr,J.fs.ri,J.st,J.gd⟩
 obtain⟨u,v,r2,hu,hf0,Ev,I⟩:=hRS.cr (aaI fun n rec hn=>by
  obtain⟨t,_,_,_,e,_⟩:=(mG.1 hRS.ri).br n rec hn
  omega) J.ei.ok.ok.dk
 have fC:szB rs≤16777216:=by
  have:=J.fs.len
  have e:(cZ ε.2).2.log=ε.2.2.log:=rfl
  rw[←e,J.fs.lr.log,fW] at this;exact this
 have nM:=J.fo
 have hf0:ε.2.1.forced=szB u:=hf0
 have adh:yN 1 gQ u v [] r2 ε.2.2:=⟨I.split,I.rs,I.log,I.cert,I.len,I.gd,I.kL,I.dG⟩
 exact adh.xC hu (by omega) h.cr J.fs.lr.mark J.ei.ec.dk.aq (by omega) (by decide) c hf y7
end
theorem m9.clean (h:m9 N M B rs ε): m9 N M B rs (eN ε).2∧RS N 1 0 [] rs gQ (fun _=>none) (eN ε).2:=by
 obtain⟨g,hg⟩:=h.ex
 obtain⟨w1,w2,w3⟩:=h.ei.clean
 have hr:=hg.clean h.ei
 have I:=h.ei
 obtain⟨v1,v2,v3⟩:=I.writeAll
 have hk:=(xm (l:=aF ε.1.aH) I.el I.ok).2.2
 have e:eN ε=((dM (writeAllF (aF ε.1.aH) ε).2.1 (writeAllF (aF ε.1.aH) ε).2.2.2).1,((dM (writeAllF (aF ε.1.aH) ε).2.1 (writeAllF (aF ε.1.aH) ε).2.2.2).2.1,((writeAllF (aF ε.1.aH) ε).2.2.1,(dM (writeAllF (aF ε.1.aH) ε).2.1 (writeAllF (aF ε.1.aH) ε).2.2.2).2.2))):=by
  grind[eN]
 have hp:bM (eN ε).2≤bM ε:=by
  refine bX ?_ hk
  rw[e]
  have hs:(writeAllF (aF ε.1.aH) ε).2.2.2.dQ=(0,(writeAllF (aF ε.1.aH) ε).2.2.2.sync):=by
   have h1:=v2.ec.dk.alive
   have h2:=v2.ec.dk.aT
   grind[Dk.dQ,iN]
  rw[dM,hs,ak (by simp)]
  show([]:List Wr).length+fU (writeAllF (aF ε.1.aH) ε).2.1.ai≤(writeAllF (aF ε.1.aH) ε).2.2.2.waiting.length+fU (writeAllF (aF ε.1.aH) ε).2.1.ai
  rw[cG];omega
 have J:(eN ε).2.2.2.room=M:=by
  rw[e]
  exact LA.trans ((tg M).all (l:=aF ε.1.aH) h.rm)
 exact⟨⟨w2,⟨_,hr⟩,bX hp h.pt,J,h.sz,h.mb,h.b9⟩,hr⟩
theorem Sn {r0:cz}(h:RS N 1 0 [] [r0] gQ (fun _=>none) ε)(eY:EI N B ε)(hN:1≤N)(hg:bW (pgA ε 0)=true): ε.2.1.forced=szB [r0]:=by
 have hv:=mG.1 h.ri
 obtain⟨u,v,hu,hf⟩:=hv.forced
 cases u with
 |cons x u =>
  simp_all
 |nil =>
  have I:Cj ε.2.2 0:=⟨by decide,by rw[eY.ec.dk.aq];omega⟩
  have a1:=hv.kL 0 (imgOf ε.2.2 0) [] [r0] I rfl (by omega) (fun rec q=>(by cases q)) (.inl rfl)
  have a2:=hv.kL 0 (imgOf ε.2.2 0) [r0] [] I rfl (by rw[hf];exact fe _) (fun rec q=>(by cases q)) (.inl rfl)
  have a3:=((h.st 0 (by decide) (by omega)).symm.trans a2).trans a1.symm
  have J:bW (List.replicate 512 0)=false:=by decide +kernel
  have hq:=a3.good
  rw[hg] at hq
  have:bW (eA [] gQ 0)=false:=J
  rw[←hq] at this
  cases this
theorem m9.Ax (h:m9 N M B rs ε)(hf:ε.2.1.forced=szB rs)(hk:k≤65535): ig N M B (szB rs) rs (ε.1,(ε.2.1,ε.2.2.Ax (k:Int))):=by
 obtain⟨g,hg⟩:=h.ex
 have J:=h.ei.bB
 have I:=hg.bB
 have d:=h.ei.ok.ok.dk
 have ho:fG (ε.1,(ε.2.1,ε.2.2.Ax (k:Int))):=⟨⟨h.ei.ok.ok.pl,h.ei.ok.ok.lg,⟨by show max (-1:Int) (k:Int)<4294967296;omega,d.len,d.room,d.now,d.aq,d.bj,d.many⟩⟩,h.ei.ok.pins,h.ei.ok.full⟩
 exact⟨⟨g,ho,⟨h.ei.ec.dk.alive,I.ri,I.lr,J.ec,d.len⟩,J,I.st,I.gd,Bg hf.symm⟩,h.pt,h.rm,h.sz,h.mb,h.b9⟩
end Go.Proofs.YtefepnnfphdkpaaGreat.Am
