/- TxLong: a part of its proof; conditions: its statement's. -/
import Derived.Test.YtiojppeahfoiaaaGreatK06
import Derived.Test.YtiojppeahfoiaaaGreatK07
import Derived.Test.YtiojppeahfoiaaaGreatK05
import Derived.Test.YtiojppeahfoiaaaGreatK02
import Derived.RangeFuncLeaves
set_option linter.defProp false
namespace Go.Proofs.YtiojppeahfoiaaaGreat.Am
open Go
def kK:=@Tryz.underlying147
def rT:=@Tryz.underlying142
def zD:=@Tryz.underlying2
def De:=@Tryz.func76
def Df:=@Tryz.underlying145
def Iy:=@Tryz.underlying146
def Iz:=@Tryz.func136
def IA:=@Tryz.func159
def IB:=@Tryz.func26
def IC:=@Tryz.func80
def ID:=@Tryz.func208
variable {X Y:aP} {C:eO} {c':Ctx} {δ:Dk} {ε ai SB:bq} {pg:bq→Int→List Nat} {lv dd:bq→Prop} {Q:Ex→List (Nat×V)→H→Prop} {fn:Func} {h h' σ:H} {d e z:Int} {P' B0:Int→List Nat} {YD:Int→Prop} {μ:Lg} {da db:List (Int×Int×Int×Int)} {now:List (Int×List Nat)} {l1 l2:List (Nat×Nat)} {E:List (Nat×V)} {S:List aP} {U:List Bool} {br:List cO} {ks:List Int} {data l pre rest cM R seen mk cell0:List Nat} {args cs Rt ds cs6:List V} {n tx pv nx a b q g r aE c i j N k B dn id M p4 p5 p6 f it mid clock A_ c0 aD ba ck rr Dg cost kV r1 r2 z0:Nat} {o:Oper} {x:Operand} {P:Program} {α:Type} {t:TypeId} {y dt av rv uv u dv cv wt fv kv mv zE bv ka kb wv nn:V} {w':World}
theorem uI {m:Nat}(hle:n≤m){r:V×H}(I:toldParsed CB n args h=some r): toldParsed CB m args h=some r:=by
 unfold toldParsed at I ⊢
 have mono:=dI (C:=CB) hle
 split at I
 ·rename_i x
  split at I
  ·rename_i J h₁
   simp only[mono _ _ _ h₁]
   cases T8:Nat.blt 4 J.ak with
   |false=>rw[T8] at I;cases I
   |true =>
    rw[T8,ah] at I
    rw[ah]
    split at I
    ·rename_i Lo Oo
     simp only[mono _ _ _ Oo]
     split at I
     ·rename_i YC Cj
      simp only[mono _ _ _ Cj]
      exact I
     ·cases I
    ·cases I
  ·cases I
 ·cases I
section
variable {v:V}
noncomputable def prH : Code:=cm [0] ((Tryz.f191.body).getD .skip)
noncomputable def prM : Code:=cm [1,1,0] ((Tryz.f191.body).getD .skip)
theorem YE (s:Sat h S)(hE:Has E [(0,v)])
 (hq:∀E' h' I J,Has E' [(0,v),(2,.ptr I 0),(3,.ptr J 0)]→Sat h' (pt J (.cells 1 [.bool false] false)::pt I (.cells 6 (dK 0 0 0 0 .aV .aV) false)::S)→Q .normal E' h'): WP CB 9 prH E h Q:=by
 refine WP.has hE (zr rfl ?_)
 refine au.bP s rfl rfl rfl (bR pP) (fun I h s => ?_)
 refine au.bP s rfl rfl rfl (bR zt4) (fun J h s => ?_)
 exact zv (hq _ _ _ _ ⟨rfl,rfl,rfl,aa⟩ s)
theorem YF {kd:Nat}(hg:dN kd br=true)(hk:kd<256)(hr:xo tx pv nx data br)(hX:cD X (cE v (cI kd tx pv nx data br))){I J:Nat}(s:Sat h (pt J (.cells 1 [.bool false] false)::pt I (.cells 6 (dK 0 0 0 0 .aV .aV) false)::X::S))
 (hE:Has E [(0,v),(2,.ptr I 0),(3,.ptr J 0)])
 (hq:∀E' h' dt ch cs,Has E' [(2,.ptr I 0),(3,.ptr J 0)]→Sat h' (pt J (.cells 1 [.bool true] false)::pt I (.cells 6 (dK kd tx pv nx dt ch) false)::X::bp dt data::.arr 4 ch cs::cP cs br::S)→Q .normal E' h'): WP CB 9 prM E h Q:=by
 obtain⟨pi,po,pc,rfl⟩:=gU (s.aI (k:=2) rfl hX) (by simp only[cI,bY,bn];omega)
 refine WP.has hE (zK 2 rfl (zo rfl (cx rfl (by rw[ZP];rfl)) ?_))
 refine au.bP s rfl rfl rfl (dG rfl rfl) ?_
 intro p1 h s
 dsimp only[V.cells] at s
 refine zc rfl (VD W.base hg hk hr ⟨_,hX,s.ae [0,2]⟩) ?_
 rintro r h ⟨dt,ch,cs,rfl,s⟩
 have iJ:=(s.buf (k:=1) rfl).view.cells
 have oo:=s.jk (j:=2) rfl
 refine zS rfl (s.fM (j:=5) rfl fe rfl (lF iJ.2 oo.2.1)) ?_
 rintro h s
 refine zS rfl (by exact s.dO (k:=4) rfl xJ rfl (by decide) rfl rfl) (fun h s => ?_)
 exact zv (hq _ _ _ _ _ ⟨rfl,rfl,aa⟩ (s.ae [4,4,0,0,0,0]))
noncomputable def qrR : Code:=cm [1] ((Tryz.f220.body).getD .skip)
theorem YG {x:V}(I:Has E [(0,x),(1,y),(2,.iP),(5,.iP)])(J:∀E',Q .normal E' h): WP CB 16 qrR E h Q:=by
 refine WP.has I (zK 3 rfl (zo rfl (Q5 (r:=.aO [.int .i64 0,.bool false]) rfl (by simp only[assertV,Tryz.underlying34,aaM])) ?_))
 refine zk 14 rfl (zo rfl (aq (r:=.bool false) rfl rfl (by simp only[binV,Tryz.underlying20];rfl)) ?_)
 refine zv (zj rfl (WP.skip ?_))
 exact J _
theorem MN {kd:Nat}(hg:dN kd br=true)(hk:kd<256)(hr:xo tx pv nx data br)(s:Sat h (X::S))(hX:cD X (cE v (cI kd tx pv nx data br))):
  ∃n r,toldParsed CB n [v] h=some r∧∃dt ch cs,r.1=.aO [.agg (dK kd tx pv nx dt ch),.bool true]∧Sat r.2 (X::bp dt data::.arr 4 ch cs::cP cs br::S):=by
 obtain⟨N1,YH,I,h1,E1,a1,k1,rfl,J,p3,PN,s1⟩:=YE (Q:=fun ex E' h'=>ex=.normal∧∃J p3,Has E' [(0,v),(2,.ptr J 0),(3,.ptr p3 0)]∧Sat h' (pt p3 (.cells 1 [.bool false] false)::pt J (.cells 6 (dK 0 0 0 0 .aV .aV) false)::X::S)) (v:=v) (E:=argE [v] 0) s ⟨rfl,aa⟩ (fun E' h' J p3 hE s=>⟨rfl,J,p3,hE,s⟩) _ (sW [v])
 have v2:I.v 2=.ptr J 0:=by simp only[Env.v,k1 _ _ PN.2.1]
 have v3:I.v 3=.ptr p3 0:=by simp only[Env.v,k1 _ _ PN.2.2.1]
 have k1':=k1.set 4 (.fn (.func 220) [] [I.v 2,I.v 3])
 obtain⟨N2,r9,BM,h2,E2,a2,k2,rfl,dt,ch,cs,T3,s2⟩:=YF (Q:=fun ex E' h'=>ex=.normal∧∃dt ch cs,Has E' [(2,.ptr J 0),(3,.ptr p3 0)]∧Sat h' (pt p3 (.cells 1 [.bool true] false)::pt J (.cells 6 (dK kd tx pv nx dt ch) false)::X::bp dt data::.arr 4 ch cs::cP cs br::S)) hg hk hr hX s1 (E:=(4,.fn (.func 220) [] [I.v 2,I.v 3])::E1) ⟨PN.1,PN.2.1,PN.2.2.1,aa⟩ (fun E' h' dt ch cs hE s=>⟨rfl,dt,ch,cs,hE,s⟩) _ k1'
 have k3:=((sW [V.ptr J 0,V.ptr p3 0]).set 5 .iP).set 2 .iP
 obtain⟨N3,ex3,acG,h3,E3,a3,k3',rfl,rfl⟩:=YG (h:=h2) (x:=.ptr J 0) (y:=.ptr p3 0) (Q:=fun ex E' h'=>ex=.normal∧h'=h2) (E:=(2,.iP)::(5,.iP)::argE [.ptr J 0,.ptr p3 0] 0) ⟨rfl,rfl,rfl,rfl,aa⟩ (fun E'=>⟨rfl,rfl⟩) _ k3
 have r1:mapO (resV Tryz.prog ⟨BM,9,h3⟩) Tryz.f191.results.toList=some [.agg (dK kd tx pv nx dt ch),.bool true]:=by
  refine vN (s:=⟨BM,9,h3⟩) k2 ?_
  have e1:resE Tryz.prog E2 h3 (.cell 2 104)=some (.agg (dK kd tx pv nx dt ch)):=by
   simp only[resE,T3.1]
   exact s2.cK (k:=1) rfl ju fe
  have e2:resE Tryz.prog E2 h3 (.cell 3 4)=some (.bool true):=by
   simp only[resE,T3.2.1]
   exact s2.ld (k:=0) rfl lK rfl
  show mapO (resE Tryz.prog E2 h3) [.cell 2 104,.cell 3 4]=_
  simp only[mapO,e1,e2]
 refine⟨max N1 (max N2 N3),(.aO [.agg (dK kd tx pv nx dt ch),.bool true],h3),?_,dt,ch,cs,rfl,(s2.del 0).del 0⟩
 have b1:=dI (C:=CB) (show N1≤max N1 (max N2 N3) by omega) _ _ _ a1
 have b2:=dI (C:=CB) (show N2≤max N1 (max N2 N3) by omega) _ _ _ a2
 have b3:=dI (C:=CB) (show N3≤max N1 (max N2 N3) by omega) _ _ _ a3
 simp only[toldParsed]
 rw[show MK=prH from rfl,b1]
 simp only[v2,v3] at b2 ⊢
 rw[show Nat.blt 4 9=true from rfl,ah,show ML=prM from rfl,b2]
 dsimp only
 rw[show Gq=qrR from rfl,b3]
 dsimp only
 rw[r1]
def MO (args:List V)(h:H)(r:V×H): Prop:=∃n,toldParsed CB n args h=some r
structure WR (told:cC): Prop where
 w:W told
 pr:told 191=some (iA Tryz.prog 191 MO)
theorem PO {told:cC}(hT:WR told){kd:Nat}(hg:dN kd br=true)(hk:kd<256)(J:xo tx pv nx data br)(s:Sat h (X::S))(hX:cD X (cE v (cI kd tx pv nx data br))):
  Call ⟨Tryz.prog,told⟩ 191 [v] h fun r h'=>∃dt ch cs,r=.aO [.agg (dK kd tx pv nx dt ch),.bool true]∧Sat h' (X::bp dt data::.arr 4 ch cs::cP cs br::S):=by
 obtain⟨n,r,e,hP⟩:=MN hg hk J s hX
 obtain⟨r',h1,m,h2⟩:=m5 (P:=Tryz.prog) (f:=191) (jG:=MO) (args:=[v]) (r:=r) ⟨n,e⟩ (fun c w J hw=>F5 (C:=CB) rfl ew c6 e J hw)
 have e1:=uI (show n≤max n m by omega) e
 have I:=uI (show m≤max n m by omega) h2
 rw[e1] at I
 injection I with I
 subst I
 exact⟨r.1,r.2,fL.told hT.pr It rfl h1,hP⟩
end
theorem BO {x y z:List Nat}(I:x.length=a)(J:a+y.length=b): ((x++(y++z)).take b).drop a=y:=by
 subst I;subst J
 rw[←dB,JZ (by simp),gC (by simp),vx rfl]
theorem aab (n:Nat)(b:List Nat): b.length<4294967296→sG n b<4294967296→leN (le 4 b.length)=b.length∧leN (le 4 (sG n b))=sG n b:=by
 intro I J
 rw[yZ,yZ]
 exact⟨nf (by simpa using I),nf (by simpa using J)⟩
section
variable {told:cC} {v:V}
theorem SC (hT:WR told){kd:Nat}{bd:List Nat}(hg:dN kd br=true)(hk:kd<256)(hr:xo tx pv nx data br)(xH:bd=cI kd tx pv nx data br)
 (ux:bd.length≤1048576)(ha:pre.length=a)(J:l=pre++(kR n bd++rest))(TW:l.length≤1073741824)(s:Sat h (X::S))(I:cD X (cE v l)):
  Call ⟨Tryz.prog,told⟩ 125 [v,.int .i64 (a:Int),.int .u64 (n:Int)] h fun r h'=>∃dt ch cs,r=.aO [.agg (dK kd tx pv nx dt ch),.int .i64 ((a+8+bd.length:Nat):Int),.int .i64 0]∧Sat h' (X::bp dt data::.arr 4 ch cs::cP cs br::S):=by
 have hv:=s.aI (k:=0) rfl I
 have cJ:∀x∈bd,x<256:=fun x hx=>hv.1 x (by rw[J,kR];simp[hx])
 have MP:=Hq (aD:=n) cJ
 obtain⟨q1,q2⟩:=aab n bd (by omega) MP
 have hlen:l.length=a+8+bd.length+rest.length:=by rw[J];simp only[bY,jY];omega
 have m1:(l.take (a+4)).drop a=le 4 bd.length:=by
  rw[J,kR,dB,dB]
  exact BO ha (by rw[cq])
 have m2:(l.take (a+8)).drop (a+4)=le 4 (sG n bd):=by
  rw[J,kR,dB,dB,←dB pre]
  exact BO (by rw[bY,cq,ha]) (by rw[cq])
 have m3:(l.take (a+8+bd.length)).drop (a+8)=bd:=by
  rw[J,kR,dB,dB,←dB pre,←dB (pre++_)]
  exact BO (by rw[bY,bY,cq,cq,ha]) rfl
 have hW:=hT.w
 have K7:=bA (P:=Tryz.prog) (h:=h) aN hv
 refine Call.of_wp (hW.free _ rfl) Tryz.func125 rfl rfl (zg rfl ?_)
 refine au.bP s rfl rfl rfl (bR pP) (fun p6 h s => ?_)
 refine zk 7 rfl (zC rfl aT (by simp) ?_)
 refine zk 3 rfl (zo rfl (a_ rfl rfl rfl (bA aN (s.aI (k:=1) rfl I))) (zC rfl er (by simp;omega) ?_))
 refine zk 8 rfl (zo rfl (a_ rfl rfl rfl (bA aN (s.aI (k:=1) rfl I))) (zm rfl (zb rfl (by exact g9 (az (by omega) (by omega))) ?_)))
 refine zC rfl aT (by simp;omega) ?_
 refine zk 8 rfl (zb rfl (by exact aW (az (by omega) (by omega))) ?_)
 refine zo rfl (cj (p:=some (.int .i64 (a:Int))) (q:=some (.int .i64 ((a:Int)+4))) (m:=none) (p':=some a) (q':=some (a+4)) (m':=none) rfl rfl rfl rfl (by rw[cF (by omega)];rfl) (by rw[cF (by omega)];congr 2<;>omega) rfl (cR (s.aI (k:=1) rfl I) (a:=a) (b:=a+4) (by omega) (by omega)).1) ?_
 refine zc rfl (pn hW s (k:=1) rfl (jW I (a:=a) (b:=a+4) (by omega) (by omega)) (by rw[m1,cq];decide)) ?_
 rintro r h' ⟨rfl,rfl⟩
 rw[m1,q1]
 refine zk 6 rfl (zC rfl er (by simp;omega) ?_)
 refine zk 2 rfl (zo rfl (bO rfl (by exact gB bM bF (az (by omega) (by omega)))) ?_)
 refine zm rfl (zo rfl (a_ rfl rfl rfl (bA aN (s.aI (k:=1) rfl I))) (zm rfl (zb rfl (by exact g9 (az (by omega) (by omega))) ?_)))
 refine zb rfl (by exact g9 (az (by omega) (by omega))) ?_
 refine zC rfl er (by simp;omega) ?_
 refine zk 7 rfl (zb rfl (by exact aW (az (by omega) (by omega))) ?_)
 refine zm rfl (zo rfl (bO rfl (by exact gB bM bF (az (by omega) (by omega)))) ?_)
 refine zb rfl (by exact aW (az (by omega) (by omega))) ?_
 refine zk 6 rfl (zb rfl (by exact aW (az (by omega) (by omega))) ?_)
 refine zm rfl (zo rfl (cj (p:=some (.int .i64 ((a:Int)+8))) (q:=some (.int .i64 ((a:Int)+8+(bd.length:Int)))) (m:=none) (p':=some (a+8)) (q':=some (a+8+bd.length)) (m':=none) rfl rfl rfl rfl (by rw[cF (by omega)];congr 2<;>omega) (by rw[cF (by omega)];congr 2<;>omega) rfl (cR (s.aI (k:=1) rfl I) (a:=a+8) (b:=a+8+bd.length) (by omega) (by omega)).1) ?_)
 refine zk 7 rfl (zb rfl (by exact aW (az (by omega) (by omega))) ?_)
 refine zm rfl (zb rfl (by exact aW (az (by omega) (by omega))) ?_)
 refine zo rfl (cj (p:=some (.int .i64 ((a:Int)+4))) (q:=some (.int .i64 ((a:Int)+8))) (m:=none) (p':=some (a+4)) (q':=some (a+8)) (m':=none) rfl rfl rfl rfl (by rw[cF (by omega)];congr 2<;>omega) (by rw[cF (by omega)];congr 2<;>omega) rfl (cR (s.aI (k:=1) rfl I) (a:=a+4) (b:=a+8) (by omega) (by omega)).1) ?_
 refine zc rfl (pn hW s (k:=1) rfl (jW I (a:=a+4) (b:=a+8) (by omega) (by omega)) (by rw[m2,cq];decide)) ?_
 rintro r h' ⟨rfl,rfl⟩
 rw[m2,q2]
 refine zo rfl (bO rfl (by exact gB bM Tryz.underlying285 (UC (by omega) (by omega)))) ?_
 refine zk 2 rfl (zc rfl (Fp hW s (k:=1) rfl (jW I (a:=a+8) (b:=a+8+bd.length) (by omega) (by omega)) (by rw[m3];omega)) ?_)
 rintro r h ⟨rfl,s⟩
 rw[m3]
 refine zC rfl aA (by simp) ?_
 refine zk 6 rfl ?_
 have hX':cD X (cE (slR v (a+8) (a+8+bd.length)) (cI kd tx pv nx data br)):=by
  have:=jW I (a:=a+8) (b:=a+8+bd.length) (by omega) (by omega)
  rw[m3] at this
  rw[←xH]
  exact this
 refine zc rfl (PO hT hg hk hr (s.ae [1]) hX') ?_
 rintro r h ⟨dt,ch,cs,rfl,s⟩
 have iJ:=(s.buf (k:=1) rfl).view.cells
 have oo:=s.jk (j:=2) rfl
 have fW:[V.int .i64 (kd:Int),V.int .u64 (tx:Int),V.int .u64 (pv:Int),V.int .u64 (nx:Int),dt,ch].all storable=true:=lF iJ.2 oo.2.1
 refine zk 3 rfl (zS rfl (s.fM (j:=4) rfl fe rfl fW) ?_)
 rintro h s
 refine zk 6 rfl (zh rfl (dM rfl rfl) (rfl) (zk 5 rfl (zl rfl (s.cK (k:=4) rfl ju fe) (zm rfl (zS rfl (s.fM (j:=4) rfl fe rfl fW) ?_)))))
 rintro h s
 refine zk 3 rfl ?_
 refine WP.ret ⟨aa,_,Gm rfl (s.cK (k:=4) rfl ju fe) rfl rfl,?_⟩
 exact⟨dt,ch,cs,rfl,s.del 4⟩
end
section
variable {told:cC} {v:V} {p:Nat}
theorem PR (hT:WR told){kd:Nat}{bd:List Nat}(hg:dN kd br=true)(hk:kd<256)(hr:xo tx pv nx data br)(xH:bd=cI kd tx pv nx data br)
 (ux:bd.length≤1048576)(ha:pre.length=a)(hl:μ.b=pre++(kR n bd++rest))(hn:n=μ.base+a)(hh:μ.hasB n=true)(I:μ.Ok)(s:Sat h (bx q p μ::S)):
  Call ⟨Tryz.prog,told⟩ 66 [.ptr q 0,.int .u64 (n:Int)] h fun r h'=>∃dt ch cs,r=.aO [.agg (dK kd tx pv nx dt ch),.int .u64 ((n+8+bd.length:Nat):Int),.int .i64 0]∧Sat h' (bx q p μ::bp dt data::.arr 4 ch cs::cP cs br::S):=by
 have hW:=hT.w
 have hlen:μ.b.length=a+8+bd.length+rest.length:=by rw[hl];simp only[bY,jY];omega
 have eH:=I.size
 have hb:=I.len
 refine Call.of_wp (hW.free _ rfl) HK rfl rfl (zg rfl ?_)
 refine au.bP s rfl rfl rfl (bR pP) (fun p4 h s => ?_)
 dsimp only[V.cells,List.length_cons,List.length_nil,Nat.reduceAdd] at s
 refine zk 4 rfl (WP.block (zK 4 rfl ?_))
 have s:=s.ae [1]
 dsimp only[bringA,getA,aK] at s
 refine zc rfl (nG hW s I.size) ?_
 rintro v h' ⟨rfl,rfl⟩
 refine zC rfl dh (by simp;omega) ?_
 refine zk 7 rfl (zc rfl (AJ (n:=n) hW s I (by omega)) ?_)
 rintro v h' ⟨rfl,rfl⟩
 rw[hh]
 refine zo rfl (dM rfl rfl) (za rfl (zv (zj rfl (WP.skip (zw ?_)))))
 obtain⟨bv,sv,s⟩:=dm.1 s
 have s0:=s
 have BX:=eM (s.buf (k:=1) rfl).view
 have J:((n:Int)-(μ.base:Int))=(a:Int):=by omega
 refine WP.drawn [af,af,af,af,af,af,af,af,af,af,af,af,af,af,af,some (1,2),some (1,2),af,af,af] rfl (by kernel_rfl) (by kernel_rfl) ?_
 refine zM rfl (zN rfl (zF rfl (jb _ _) (zL rfl (s.ld (k:=0) rfl b8 rfl) (zM rfl (zM rfl (zN rfl (zF rfl (ir _ _) (zL rfl (s.ld (k:=0) rfl cS rfl) (zO rfl (aq (r:=.int .u64 (a:Int)) rfl rfl (by rw[←J];exact g9 (eB (by omega) (by omega)))) ?_)))))))))
 refine ax.op rfl rfl rfl (by simp only[isEff,bF]) (bO rfl (by exact gB bM bF (az (by omega) (by omega)))) ?_
 refine zM rfl (ax.any rfl rfl rfl rfl (OpR.call rfl rfl rfl rfl (SC (n:=n) (a:=a) hT hg hk hr xH ux ha hl (by omega) (s.ae [1]) (aY _ _))) ?_)
 rintro r h ⟨dt,ch,cs,rfl,s⟩
 have iJ:=(s.buf (k:=1) rfl).view.cells
 have oo:=s.jk (j:=2) rfl
 have G4:=eM (s.buf (k:=1) rfl).view
 have fW:[V.int .i64 (kd:Int),V.int .u64 (tx:Int),V.int .u64 (pv:Int),V.int .u64 (nx:Int),dt,ch].all storable=true:=lF iJ.2 oo.2.1
 have s1:=s
 refine zM rfl (zO rfl (dU rfl rfl) (zO rfl (dU rfl rfl) (zO rfl (dU rfl rfl) (ax.gY rfl rfl rfl (OpR.rH rfl rfl rfl (s.fM (j:=6) rfl fe rfl fW)) ?_))))
 rintro v h ⟨rfl,s⟩
 refine zA rfl (zA rfl ?_)
 refine ax.nil ⟨⟨aa,aa,aa,aa,aa,aa,aa,aa,aa,aa,aa,aa,aa,aa,aa,fun _ _=>.inr ⟨rfl,⟨_,dU rfl rfl⟩,aB _ rfl⟩,fun _ _=>.inr ⟨rfl,⟨_,dU rfl rfl⟩,aB _ rfl⟩,aa,aa,aa,aa⟩,?_⟩
 refine zK 4 rfl (zC rfl aA (rfl) (zk 4 rfl ?_))
 have hrb:(V.agg [V.int .i64 (kd:Int),V.int .u64 (tx:Int),V.int .u64 (pv:Int),V.int .u64 (nx:Int),dt,ch]).beq (V.agg [V.int .i64 (kd:Int),V.int .u64 (tx:Int),V.int .u64 (pv:Int),V.int .u64 (nx:Int),dt,ch])=true:=KI G4 oo.2.2
 have s0:=s
 refine WP.drawn [none,some (0,2),some (0,2),some (0,2),some (0,2),some (0,2),some (0,2),some (0,2),af,af,af] rfl (by kernel_rfl) (by kernel_rfl) ?_
 refine zL rfl (s.cK (k:=6) rfl ju fe) (zM rfl (zN rfl (zF rfl (ir _ _) (zL rfl (s.ld (k:=4) rfl cS rfl) (zM rfl (ax.op rfl rfl rfl (by simp only[isEff,bM]) (bO rfl (by exact gB bF bM (eB (by omega) (by omega)))) ?_))))))
 refine zO rfl (aq rfl rfl (by exact aW (eB (by omega) (by omega)))) ?_
 refine ax.gY rfl rfl rfl (OpR.rH rfl rfl rfl (s.fM (j:=6) rfl fe rfl fW)) ?_
 rintro v h ⟨rfl,s⟩
 dsimp only[TR,aK,bringA,dK,setA] at s
 refine zA rfl (zA rfl ?_)
 refine ax.nil ⟨⟨aa,fun _ _=>.inr ⟨rfl,⟨_,aS rfl⟩,aB _ rfl⟩,fun _ _=>.inr ⟨rfl,⟨_,iL rfl⟩,aB _ rfl⟩,fun _ _=>.inr ⟨rfl,⟨_,g8 rfl (ir _ _)⟩,aB _ rfl⟩,dJ (.inr ⟨rfl,⟨_,aH rfl (s0.ld (k:=4) rfl cS rfl)⟩,aB _ rfl⟩) (.inr ⟨rfl,⟨_,aH rfl (s.ld (k:=4) rfl cS rfl)⟩,aB _ rfl⟩),fun _ _=>.inr ⟨rfl,⟨_,aS rfl⟩,aB _ rfl⟩,fun _ _=>.inr ⟨rfl,⟨_,bO rfl (by exact gB bF bM (eB (by omega) (by omega)))⟩,aB _ rfl⟩,fun _ _=>.inr ⟨rfl,⟨_,aq rfl rfl (by exact aW (eB (by omega) (by omega)))⟩,aB _ rfl⟩,aa,aa,aa,aa⟩,?_⟩
 refine WP.ret ⟨aa,_,Gm rfl (s.cK (k:=6) rfl ju fe) rfl rfl,?_⟩
 refine⟨dt,ch,cs,?_,dm.2 ⟨bv,sv,(s.ae [4,0,3,0,0,0]).del 6⟩⟩
 rw[show((μ.base:Int)+((a+8+bd.length:Nat):Int))=((n+8+bd.length:Nat):Int) by omega]
 rfl
end
def partsL : List cO→Nat
 |[]=>0
 |c::l=>(if c.whole=true then 0 else c.b.length+12)+partsL l
theorem Dh {a b:List cO}: partsL (a++b)=partsL a+partsL b:=by
 induction a<;>grind[partsL]
theorem abe {y:Operand}(I:b≤a)(J:a<18446744073709551616): binV P h .sub t x y (.int .u64 (a:Int)) (.int .u64 (b:Int))=some (.int .u64 ((a-b:Nat):Int)):=by
 rw[show((a-b:Nat):Int)=(a:Int)-(b:Int) by omega]
 exact g9 (eB (by omega) (by omega))
section
variable {told:cC} {p:Nat} {op:V}
theorem IE (J:W told)(hb:μ.base+μ.b.length≤1099511627776)(hr:δ.room≤16777216)(s:Sat h (c7 a p q r op data aE::bx q p μ::aJ p δ::S)):
  Call ⟨Tryz.prog,told⟩ 75 [.ptr a 0] h fun v h'=>v=.int .i64 ((δ.room:Int)-(μ.b.length:Int))∧h'=h:=by
 obtain⟨dv,s⟩:=bQ.1 s
 refine Call.of_wp (J.free _ rfl) Tryz.func75 rfl rfl (zK 5 rfl ?_)
 have I:=s
 refine WP.drawn [af,af,af,af,af,some (0,2),some (0,2),some (0,2),some (0,2),none,some (0,3),some (0,3),some (0,3),some (0,3),af,af,af,af,af] rfl (by kernel_rfl) (by kernel_rfl) ?_
 refine zM rfl (zN rfl (zF rfl (qz _ _) (zL rfl (s.ld (k:=0) rfl jt rfl) (ax.any rfl rfl rfl rfl (OpR.call rfl rfl rfl rfl (Rl J (s.ae [3]))) ?_))))
 rintro v h' ⟨rfl,rfl⟩
 rw[show δ.TO=δ.room from rfl]
 refine zM rfl (zN rfl (zF rfl (iq _ _) (zL rfl (s.ld (k:=0) rfl j9 rfl) (ax.any rfl rfl rfl rfl (OpR.call rfl rfl rfl rfl (nG J (s.ae [2]) hb)) ?_))))
 rintro v h' ⟨rfl,rfl⟩
 refine zM rfl (zN rfl (zF rfl (iq _ _) (zL rfl (s.ld (k:=0) rfl j9 rfl) (ax.any rfl rfl rfl rfl (OpR.call rfl rfl rfl rfl (uz J (s.ae [2]))) ?_))))
 rintro v h' ⟨rfl,rfl⟩
 refine zO rfl (aq (r:=.int .u64 ((μ.b.length:Nat):Int)) rfl rfl (by rw[show((μ.base:Int)+(μ.b.length:Int))=((μ.base+μ.b.length:Nat):Int) by omega,abe (by omega) (by omega),vh])) ?_
 refine ax.op rfl rfl rfl (by simp only[isEff,bF]) (bO (r:=.int .i64 ((μ.b.length:Nat):Int)) rfl (gB bM bF (az (by omega) (by omega)))) ?_
 refine zO rfl (aq (r:=.int .i64 ((δ.room:Int)-(μ.b.length:Int))) rfl rfl (g9 (az (by omega) (by omega)))) ?_
 refine zA rfl ?_
 refine ax.nil ⟨⟨aa,aa,aa,aa,aa,fun _ _=>.inr ⟨rfl,⟨_,aS rfl⟩,aB _ rfl⟩,fun _ _=>.inr ⟨rfl,⟨_,iL rfl⟩,aB _ rfl⟩,fun _ _=>.inr ⟨rfl,⟨_,g8 rfl (iq _ _)⟩,aB _ rfl⟩,dJ (.inr ⟨rfl,⟨_,aH rfl (I.ld (k:=0) rfl j9 rfl)⟩,aB _ rfl⟩) (.inr ⟨rfl,⟨_,aH rfl (I.ld (k:=0) rfl j9 rfl)⟩,aB _ rfl⟩),aa,fun _ _=>.inr ⟨rfl,⟨_,aS rfl⟩,aB _ rfl⟩,fun _ _=>.inr ⟨rfl,⟨_,iL rfl⟩,aB _ rfl⟩,fun _ _=>.inr ⟨rfl,⟨_,g8 rfl (iq _ _)⟩,aB _ rfl⟩,rG (.inr ⟨rfl,⟨_,aH rfl (I.ld (k:=0) rfl j9 rfl)⟩,aB _ rfl⟩) (.inr ⟨rfl,⟨_,aH rfl (I.ld (k:=0) rfl j9 rfl)⟩,aB _ rfl⟩) (.inr ⟨rfl,⟨_,aH rfl (I.ld (k:=0) rfl j9 rfl)⟩,aB _ rfl⟩),aa,aa,aa,aa,aa,aa⟩,?_⟩
 refine WP.ret ⟨aa,_,rfl,?_⟩
 exact⟨rfl,rfl⟩
noncomputable def gcL : Code:=cm [1,1,0,1,0,0] ((Tryz.f91.body).getD .skip)
theorem PS {t3:V}{c:List cO}(hc:c.length≤33554432)(hb:∀x∈c,x.b.length≤512): ∀(j i:Nat) (h:H) (E:List (Nat×V)) (Q:Ex→List (Nat×V)→H→Prop),i+j=c.length→Sat h (.arr 4 av cs::cP cs c::S) →
  Has E [(3,t3),(5,.int .i64 (partsL (c.take i):Int)),(20,av),(21,.int .i64 (c.length:Int)),(22,.int .i64 (i:Int))] →
  (∀E' h',Has E' [(3,t3),(5,.int .i64 (partsL c:Int))]→Sat h' (.arr 4 av cs::cP cs c::S)→Q (.exit 0) E' h') →
  WP ⟨Tryz.prog,told⟩ 45 (.loop gcL) E h Q:=by
 have hp:∀i,partsL (c.take i)≤524*i:=by
  intro i
  induction i with
  |zero=>simp[partsL]
  |succ i ih =>
   by_cases hi:i<c.length
   ·rw[zJ hi,Dh]
    have:=hb _ (vr hi)
    simp only[partsL]
    split<;>omega
   ·rw[gC (by omega)] at ih ⊢;omega
 intro j
 induction j with
 |zero =>
  intro i h E Q hi s hE hq
  obtain rfl:i=c.length:=by omega
  rw[List.take_length] at hE
  refine WP.loop (WP.has hE (zg rfl (zC rfl aT (by simp) ?_)))
  exact zk 3 rfl (WP.exit (hq _ _ ⟨rfl,rfl,aa⟩ s))
 |succ j ih =>
  intro i h E Q hi s hE hq
  obtain⟨x,hx⟩:∃x,c[i]?=some x:=⟨_,bw (by omega)⟩
  have hxb:=hb x (bJ hx)
  have hpi:=hp i
  obtain⟨id,off,u,e1,e2,u1,u2,u3,s⟩:=HB s hx
  have fW:[V.int .i64 x.bj,V.int .i64 x.pos,V.bool x.whole,u].all storable=true:=by simp only[jJ,jK,u2];rfl
  have I:partsL (c.take (i+1))=partsL (c.take i)+if x.whole=true then 0 else x.b.length+12:=by
   have J:i<c.length:=by omega
   rw[zJ J,Dh]
   have:c[i]=x:=by rw[bw J] at hx;exact b6 hx
   simp[partsL,this]
  refine WP.loop (WP.has hE (zg rfl (zB rfl aT (by simp;omega) ?_)))
  refine zk 5 rfl (WP.block (zg rfl (zo rfl (cZ (r:=.ptr id off) rfl rfl e1) (zl rfl e2 ?_))))
  refine au.bP s rfl rfl rfl (bR nC) (fun p8 h s => ?_)
  dsimp only[V.cells,List.length_cons,List.length_nil,Nat.reduceAdd] at s
  refine zS rfl (s.fM (j:=0) rfl pR rfl fW) ?_
  intro h s
  dsimp only[setA] at s
  refine zk 3 rfl (zY s 0 AF lK rfl ?_)
  have GG:x.whole=true∨x.whole=false:=by cases x.whole<;>simp
  rcases GG with hw|hw
  ·rw[aC hw] at I
   refine zh rfl (dM rfl rfl) (by rw[hw];rfl) ?_
   refine zv (zj rfl (WP.skip (zr rfl (zb rfl (by exact aW (az (by omega) (by omega))) ?_))))
   refine zm rfl (zv ?_)
   refine ih (i+1) _ _ Q (by omega) ((s.ae [2,2]).del 3 |>.del 2) ⟨rfl,?_,rfl,rfl,rfl,aa⟩ hq
   exact iZ (fun z:Nat=>some (V.int .i64 (z:Int))) I.symm
  ·rw[aj (by rw[hw];decide)] at I
   refine zt rfl (dM rfl rfl) (by rw[hw];rfl) ?_
   refine zk 4 rfl (zY s 0 o9 b8 rfl (zo rfl (a_ rfl rfl rfl (bA aN (s.aI (k:=1) rfl (eZ _ _)))) (zo rfl (aq (r:=.int .i64 ((x.b.length+12:Nat):Int)) rfl rfl (by rw[show((x.b.length+12:Nat):Int)=(x.b.length:Int)+12 by omega];exact aW (az (by omega) (by omega)))) ?_)))
   refine zo rfl (aq (r:=.int .i64 ((partsL (c.take (i+1)):Nat):Int)) rfl rfl (by rw[I,show((partsL (c.take i)+(x.b.length+12):Nat):Int)=(partsL (c.take i):Int)+((x.b.length+12:Nat):Int) by omega];exact aW (az (by omega) (by omega)))) ?_
   refine za rfl (zv (zr rfl (zb rfl (by exact aW (az (by omega) (by omega))) ?_)))
   refine zm rfl (zv ?_)
   exact ih (i+1) _ _ Q (by omega) ((s.ae [2,2]).del 3 |>.del 2) ⟨rfl,rfl,rfl,rfl,rfl,aa⟩ hq
theorem SD (hT:W told){kd:Int}(iI:gP ε)(hw:bV ε≤268435456)(I:∀e∈now,e.2.length=512)(hm:now.length≤65536)(hk:∀n∈now.map (·.1),0≤n∧n<65536)(qi:tx<18446744073709551616)(r_:pv<18446744073709551616)(nQ:nx<18446744073709551616)(hd:data.length≤35184372088832)
 (s:Sat h (eE g a now false::c7 a p q r op cM aE::cL r p q ε.1::bx q p ε.2.1::aJ p ε.2.2::X::S))(hX:cD X (cE dt data)):
  Call ⟨Tryz.prog,told⟩ 91 [.ptr g 0,.agg (dK kd tx pv nx dt .aV)] h fun v h'=>∃e c ai,jg now (aX now) ε e c ai ∧
   ((e≠0∧v=.aO [.int .i64 0,.int .i64 0,.int .i64 e])∨(e=0∧dN kd c=false∧v=.aO [.int .i64 0,.int .i64 (partsL c:Int),.int .i64 1])∨(e=0∧1048576<(cI kd tx pv nx data c).length∧v=.aO [.int .i64 0,.int .i64 (partsL c:Int),.int .i64 2]) ∨
    (e=0∧v=.aO [.int .i64 ((8+(cI kd tx pv nx data c).length:Nat):Int),.int .i64 (partsL c:Int),.int .i64 0])) ∧
   Sat h' (eE g a now false::c7 a p q r op cM aE::cL r p q ai.1::bx q p ai.2.1::aJ p ai.2.2::X::S):=by
 have nW:∀n∈now.map (·.1),(Lit.int .i64 n).wf=true:=fun n hn=>by
  have:=hk n hn
  exact wf_i64 (by omega) (by omega)
 have iJ:=s.aI (k:=5) rfl hX
 have fW:=lF (kd:=kd) (tx:=tx) (pv:=pv) (nx:=nx) (dt:=dt) (ch:=.aV) iJ.cells.2 rfl
 refine Call.of_wp (hT.free _ rfl) Tryz.func91 rfl rfl (zg rfl (au.bP s rfl rfl rfl (dG rfl fW) ?_))
 intro p3 h s
 refine zk 8 rfl (zc rfl (C0 hT (s.ae [1,1,1,1,1]) iI hw I hm nW) ?_)
 rintro v h ⟨e,c,ai,hc,Di⟩
 have J:=hc.fit I fun n hn=>hk n ((eP _).mem_iff.1 hn)
 rcases Di with⟨he,rfl,s⟩|⟨rfl,jC,av,cs,rfl,s⟩
 ·skip
  refine zk 3 rfl (zf rfl (ja _ _) (zS rfl (s.dO (k:=5) rfl Aq rfl (show 0+5<6 by decide) rfl rfl) ?_))
  intro h s
  refine zk 5 rfl (zB rfl aA (by simp;exact he) ?_)
  exact zk 9 rfl (WP.ret ⟨aa,_,rfl,e,c,ai,hc,.inl ⟨he,rfl⟩,(s.ae [0,0,0,0,0,1]).del 6⟩)
 ·have xN:=s.jk (j:=0) rfl
  refine zk 3 rfl (zf rfl (ja _ _) (zS rfl (s.dO (k:=7) rfl Aq rfl (show 0+5<6 by decide) xN.1 xN.2.1) ?_))
  intro h s
  refine zk 5 rfl (zC rfl aA (rfl) ?_)
  have s0:=s
  refine zk 6 rfl (zY s 7 ja pO rfl ?_)
  obtain⟨qa,qb,q1,q2,q3⟩:=s.at (k:=1) rfl
  have aac:=mX q3
  refine zo rfl (a_ rfl rfl rfl (s.fN (n:=c.length) (j:=0) rfl aac (by decide) hG)) ?_
  refine zk 2 rfl (WP.block ?_)
  refine PS jC (fun x hx => ?_) c.length 0 _ _ _ (by omega) s ⟨rfl,rfl,rfl,rfl,rfl,aa⟩ fun E' h' hE s' => ?_
  ·exact(J x hx).2
  have s:=s'
  refine WP.has hE (zg rfl (zl rfl (s.cK (k:=7) rfl ju fe) (zc rfl (Fq hT (s.ae [8,0,0]) hX (KH jC J qi r_ nQ hd)) ?_)))
  rintro v h (⟨hg,rfl,s⟩|⟨hg,hb,rfl,s⟩|⟨hg,hb,u,rfl,s⟩)
  ·skip
   exact zk 9 rfl (zo rfl (a_ rfl rfl rfl (tH rfl aN)) (zk 6 rfl (WP.ret ⟨aa,_,rfl,0,c,ai,hc,.inr (.inl ⟨rfl,hg,rfl⟩),((s.ae [3,3,3,3,3,0]).del 8 |>.del 7 |>.del 6)⟩)))
  ·skip
   exact zk 9 rfl (zo rfl (a_ rfl rfl rfl (tH rfl aN)) (zk 6 rfl (WP.ret ⟨aa,_,rfl,0,c,ai,hc,.inr (.inr (.inl ⟨rfl,hb,rfl⟩)),((s.ae [3,3,3,3,3,0]).del 8 |>.del 7 |>.del 6)⟩)))
  ·skip
   exact zk 9 rfl (zo rfl (a_ rfl rfl rfl (bA aN (s.aI (k:=0) rfl (aY _ _)))) (zk 6 rfl (WP.ret ⟨aa,_,rfl,0,c,ai,hc,.inr (.inr (.inr ⟨rfl,by rw[jY]⟩)),((s.ae [4,4,4,4,4,1]).del 9 |>.del 8 |>.del 7 |>.del 6)⟩)))
end
def dP (cell:List Nat)(i:Nat): Nat:=leN ((cell.drop (8*i)).take 8)
def mF (cell:List Nat)(i n:Nat): List Nat:=bH cell (8*i) (le 8 n)
theorem xq {cell:List Nat}(h:cell.length=400)(hi:i<50): (mF cell i n).length=400:=by
 rw[mF,c5 (by rw[cq];omega),h]
theorem VF {cell:List Nat}(I:∀b∈cell,b<256): dP cell i<18446744073709551616:=by
 have h:=CL ((cell.drop (8*i)).take 8) fun b J=>I b (nc (mg J))
 have h2:((cell.drop (8*i)).take 8).length≤8:=by simp;omega
 have h3:=qn (n:=256) (by decide) h2
 exact gQ h h3
theorem Ey {cell:List Nat}(h:cell.length=400)(hi:i<50)(J:n<18446744073709551616): dP (mF cell i n) j=if j=i then n else dP cell j:=by
 have e:∀(l:List Nat) (k:Nat),dP l k=dg l (8*k) 8:=fun l k=>by
  rw[dP,dg,sO,vh]
 rw[e,e,mF]
 by_cases I:j=i
 ·subst I;rw[aC rfl];exact we (by omega) (by omega)
 ·rw[aj I];exact AM (by rw[cq];omega) (by rw[cq];omega)
theorem Gr {y:Operand}(I:0<b)(hw:a<9223372036854775808): binV P h .rem t x y (.int .i64 (a:Int)) (.int .i64 (b:Int))=some (.int .i64 ((a%b:Nat):Int)):=by
 simp only[binV,ikBeq,ah,intV]
 have:intBeq (b:Int) 0=false:=by rw[nD];simp;omega
 have J:a%b≤a:=Nat.mod_le a b
 grind[az]
theorem PT : IntKind.wrap .u64 (n:Int)=((n%18446744073709551616:Nat):Int):=by
 rfl
theorem YI {y:Operand}: binV P h .add t x y (.int .u64 (a:Int)) (.int .u64 (b:Int))=some (.int .u64 (((a+b)%18446744073709551616:Nat):Int)):=by
 simp only[binV,ikBeq,ah,intV]
 rw[show(a:Int)+(b:Int)=((a+b:Nat):Int) by omega,PT]
structure gL (N n k:Nat)(cell:List Nat)(P:Int→List Nat): Prop where
 hd:∃R M,j7 N R M P∧dg R 0 4=k
 k2:2≤k
 kN:k<N
 pg:dX (P k) 205 0 n [cell]
 len:cell.length=400
theorem gL.MQ {cell:List Nat}{P:Int→List Nat}(h:gL N n k cell P)(e:∀m,P' m=P m): gL N n k cell P':=by
 rw[show P'=P from funext e];exact h
theorem gL.put {cell I J:List Nat}(h:gL N n k cell (pgG now ε))(hs:Sm N ε ai)(hb:dX J 205 0 n [I])(hl:I.length=400): gL N n k I (pgG (cW (k:Int) J now) ai):=by
 obtain⟨R,M,h1,h2⟩:=h.hd
 have hk:=h.k2
 have e:∀m:Int,m≠k→pgG (cW (k:Int) J now) ai m=pgG now ε m:=fun m hm=>by rw[gX,aj (jL hm),C_ hs]
 exact⟨⟨R,M,h1.roots (e 1 (by omega)) (by rw[e 0 (by omega)];exact h1.head) h1.rl,h2⟩,hk,h.kN,by rw[gX,aC rfl];exact hb,hl⟩
section
variable {told:cC} {p:Nat} {op:V} {cell:List Nat} {A:bq→aP}
theorem IF (hT:W told)(hR:C7 told N B rv A pg)(iI:EI N B ε)(hp:gL N n k cell (pg ε))(hi:i<50)(s:Sat h (A ε::S)):
  Call ⟨Tryz.prog,told⟩ 74 [.ptr c 0,rv,.int .i64 (i:Int)] h fun v h'=>∃w u ai,v=.aO [.int .i64 (k:Int),w,u,.int .i64 0]∧EI N B ai∧Sm N ε ai∧Sat h' (bp u cell::bp w (pg ε k)::A ai::S):=by
 obtain⟨R,M,hs,hk⟩:=hp.hd
 obtain⟨ex,qg⟩:=hs.head
 have hkN:=hp.kN
 obtain⟨ty,u,f,rfl,hm,kB⟩:=id hR.iface
 have e:i/50=0:=by omega
 refine Call.of_wp (hT.free _ rfl) Tryz.func74 rfl rfl (zK 12 rfl (zo rfl (aq (r:=.int .i64 ((i/50:Nat):Int)) rfl rfl (Gn (b:=50) (by decide) (by omega))) ?_))
 rw[e]
 refine zc rfl (K0 (i:=0) hT hR iI (by omega) qg hs.rl (by decide) (by decide) s) ?_
 rintro v h ⟨oJ,rfl,I,J,s⟩
 rw[aC (by decide),show 4*(0:Int).toNat=0 from rfl,hk]
 refine zk 9 rfl (zC rfl aA (rfl) (zk 8 rfl (au.any rfl rfl rfl (OpR.invoke rfl rfl rfl hm rfl (kB (n:=(k:Int)) I (by omega) (by omega) s)) ?_)))
 rintro v h ⟨w,u6,rfl,tV,qj,s⟩
 rw[hR.same J] at s
 refine zk 9 rfl (zC rfl aA (rfl) (zk 6 rfl (zc rfl (Ie (i:=0) hT s (aY _ _) hp.pg rfl) ?_)))
 rintro v h ⟨z,rfl,s⟩
 exact zk 17 rfl (WP.ret ⟨aa,_,rfl,w,z,u6,rfl,tV,J.trans qj,s⟩)
theorem IG (hT:W told)(hB:B≤2000)(iI:EI N B ε)(hw:NW N now)(hp:gL N n k cell (pgG now ε))(hi:i<50)(hd:IntKind.wrap .u64 d=(dn:Int))(m9:dn<18446744073709551616)(s:Sat h (GA g a p q r data aE now ε::S)):
  Call ⟨Tryz.prog,told⟩ 70 [.ptr c 0,.ptr g 0,.int .i64 (i:Int),.int .i64 d] h fun v h'=>∃ai b',v=.int .i64 0∧EI N B ai∧Sm N ε ai∧NW N (cW (k:Int) b' now) ∧
   dX b' 205 0 n [mF cell i ((dP cell i+dn)%18446744073709551616)]∧Sat h' (GA g a p q r data aE (cW (k:Int) b' now) ai::S):=by
 have hkN:=hp.kN
 have jC:=hp.len
 refine Call.of_wp (hT.free _ rfl) Tryz.func70 rfl rfl (zK 8 rfl (zo rfl (qW rfl (mki_of ot rfl)) (zm rfl (zc rfl (IF hT (Ym hT hB hw) iI hp hi s) ?_))))
 rintro v h ⟨w,u,oJ,rfl,nT,fV,s⟩
 have fS:pgG now oJ=pgG now ε:=C_ fV
 have I:=(s.buf (k:=0) rfl).view
 have aad:=I.1
 have TY:=VF (cell:=cell) (i:=i) aad
 have HS:=cR I (a:=8*i) (b:=8*i+8) (by omega) (by omega)
 have K7:(cell.take (8*i+8)).drop (8*i)=(cell.drop (8*i)).take 8:=by rw[sO,vh]
 have cJ:(dP cell i+dn)%18446744073709551616<18446744073709551616:=iY _ (by decide)
 have YJ:∀ {P:Program} {h:H} {t:TypeId} {x y:Operand},binV P h .add t x y (.int .u64 (dP cell i:Int)) (.int .u64 (dn:Int))=some (.int .u64 (((dP cell i+dn)%18446744073709551616:Nat):Int)):=YI
 generalize (dP cell i+dn)%18446744073709551616=z at cJ YJ ⊢
 have abf:i%50=i:=nf hi
 refine zk 14 rfl (zC rfl aA (rfl) (zk 6 rfl (zo rfl (aq (r:=.int .i64 (i:Int)) rfl rfl ((Gr (b:=50) (by decide) (by omega)).trans (by rw[abf]))) ?_)))
 refine zo rfl (aq (r:=.int .i64 ((8*i:Nat):Int)) rfl rfl (by rw[show((8*i:Nat):Int)=(i:Int)*8 by omega];exact iE (az (by omega) (by omega)))) ?_
 refine zk 3 rfl ?_
 have r7:=eM I
 have yL:=eM HS.2.1
 have x_:∀h,convV Tryz.prog h 2 32 (.int .i64 d)=some (.int .u64 (dn:Int),h):=fun h=>by simp only[convV,zD,bM,hd]
 have s0:=s
 refine WP.drawn [some (0,3),some (0,3),some (0,3),some (0,3),some (0,3),af,af,af,af,af,af,some (0,2),some (0,2),af,af,af] rfl (by kernel_rfl) (by kernel_rfl) ?_
 refine zM rfl (zM rfl (zM rfl (zO rfl (aq (r:=.int .i64 ((8*i+8:Nat):Int)) rfl rfl (by rw[show((8*i+8:Nat):Int)=((8*i:Nat):Int)+8 by omega];exact aW (az (by omega) (by omega)))) ?_)))
 refine zO rfl (cj (p:=some (.int .i64 ((8*i:Nat):Int))) (q:=some (.int .i64 ((8*i+8:Nat):Int))) (m:=none) (p':=some (8*i)) (q':=some (8*i+8)) (m':=none) rfl rfl rfl rfl (by rw[cF (by omega),b7]) (by rw[cF (by omega),b7]) rfl (cR (s.buf (k:=0) rfl).view (by omega) (by omega)).1) ?_
 refine zM rfl (zM rfl (zM rfl (zO rfl (aq (r:=.int .i64 ((8*i+8:Nat):Int)) rfl rfl (by rw[show((8*i+8:Nat):Int)=((8*i:Nat):Int)+8 by omega];exact aW (az (by omega) (by omega)))) ?_)))
 refine zO rfl (cj (p:=some (.int .i64 ((8*i:Nat):Int))) (q:=some (.int .i64 ((8*i+8:Nat):Int))) (m:=none) (p':=some (8*i)) (q':=some (8*i+8)) (m':=none) rfl rfl rfl rfl (by rw[cF (by omega),b7]) (by rw[cF (by omega),b7]) rfl (cR I (by omega) (by omega)).1) ?_
 refine ax.any rfl rfl rfl rfl (OpR.call rfl rfl rfl rfl (pn hT s (k:=0) rfl (jW (aY _ _) (a:=8*i) (b:=8*i+8) (by omega) (by omega)) (by rw[K7];simp;omega))) ?_
 rintro r h' ⟨rfl,rfl⟩
 rw[K7,show leN ((cell.drop (8*i)).take 8)=dP cell i from rfl]
 refine zM rfl (ax.op rfl rfl rfl (by simp only[isEff,bM]) (bO (r:=.int .u64 (dn:Int)) rfl (x_ _)) ?_)
 refine zO rfl (aq (r:=.int .u64 (z:Int)) rfl rfl YJ) ?_
 have s:=s.mV
 refine ax.any rfl rfl rfl rfl (OpR.call rfl rfl rfl rfl (oh (z:=8) (n:=z) hT s (by decide) (by simp))) ?_
 intro v h s
 rw[dY] at s
 have s:=s.ae [1,0]
 have s1:=s
 refine ax.any rfl rfl rfl rfl (OpR.L3 (p:=8*i) (q:=8*i+8) rfl s (aY _ _) rfl rfl rfl rfl (by omega) (by omega) (by rw[cq];omega)) ?_
 intro _ h s
 rw[gC (by rw[cq];omega)] at s
 have s:Sat h (bp u (mF cell i z)::_):=s
 refine ax.nil ⟨⟨fun _ _=>.inr ⟨rfl,⟨_,aS rfl⟩,r7⟩,fun _ _=>.inr ⟨rfl,⟨_,aS rfl⟩,aB _ rfl⟩,fun _ _=>.inr ⟨rfl,⟨_,aS rfl⟩,aB _ rfl⟩,fun _ _=>.inr ⟨rfl,⟨_,aq (r:=.int .i64 ((8*i+8:Nat):Int)) rfl rfl (by rw[show((8*i+8:Nat):Int)=((8*i:Nat):Int)+8 by omega];exact aW (az (by omega) (by omega)))⟩,aB _ rfl⟩,rG (.inr ⟨rfl,⟨_,cj (p:=some (.int .i64 ((8*i:Nat):Int))) (q:=some (.int .i64 ((8*i+8:Nat):Int))) (m:=none) (p':=some (8*i)) (q':=some (8*i+8)) (m':=none) rfl rfl rfl rfl (by rw[cF (by omega),b7]) (by rw[cF (by omega),b7]) rfl (cR (s0.buf (k:=0) rfl).view (by omega) (by omega)).1⟩,yL⟩) (.inr ⟨rfl,⟨_,cj (p:=some (.int .i64 ((8*i:Nat):Int))) (q:=some (.int .i64 ((8*i+8:Nat):Int))) (m:=none) (p':=some (8*i)) (q':=some (8*i+8)) (m':=none) rfl rfl rfl rfl (by rw[cF (by omega),b7]) (by rw[cF (by omega),b7]) rfl (cR (s0.buf (k:=0) rfl).view (by omega) (by omega)).1⟩,yL⟩) (.inr ⟨rfl,⟨_,cj (p:=some (.int .i64 ((8*i:Nat):Int))) (q:=some (.int .i64 ((8*i+8:Nat):Int))) (m:=none) (p':=some (8*i)) (q':=some (8*i+8)) (m':=none) rfl rfl rfl rfl (by rw[cF (by omega),b7]) (by rw[cF (by omega),b7]) rfl (cR (s1.buf (k:=0) rfl).view (by omega) (by omega)).1⟩,yL⟩),aa,aa,aa,aa,aa,aa,fun _ _=>.inr ⟨rfl,⟨_,aS rfl⟩,aB _ rfl⟩,fun _ _=>.inr ⟨rfl,⟨_,bO (r:=.int .u64 (dn:Int)) rfl (x_ _)⟩,aB _ rfl⟩,aa,aa,aa,aa⟩,?_⟩
 have s:=s.ae [2,0,1]
 have SE:dX (pgG now ε k) 205 0 n [cell]:=hp.pg
 refine zK 5 rfl (zc rfl (AN (i:=0) (c:=cell) hT s (aY _ _) (aY _ _) SE rfl (by rw[xq jC hi,jC])) ?_)
 rintro v h ⟨w3,b',rfl,J,s⟩
 have J:dX b' 205 0 n [mF cell i z]:=J
 refine zk 9 rfl (zC rfl aA (rfl) (zk 8 rfl (zc rfl (Da (i:=k) hT hB nT hw hkN (s.ae [3,0]) (aY _ _) J) ?_)))
 rintro v h ⟨xm,rfl,sg,kH,pG,s⟩
 exact zk 2 rfl (WP.ret ⟨aa,_,rfl,xm,b',rfl,sg,fV.trans kH,pG,J,(((s.del 4).del 3).del 2).del 1⟩)
theorem SF (hT:W told)(hB:B≤2000)(I:EI N B ε)(hp:gL N n k cell (pgA ε))(hn:n≤50){m:Nat}{i:Int}(s:Sat h (SA a p q r op data aE ε::pt c (.cells 2 [.ptr m 0,.int .i64 (n:Int)] false)::pt m (.cells 4 [.ptr a 0,uv,av,.int .u64 (nx:Int)] false)::S)):
  Call ⟨Tryz.prog,told⟩ 29 [.ptr c 0,.int .i64 i] h fun v h'=>∃ai,EI N B ai∧Sm N ε ai∧v=(if 0≤i∧i<n then .aO [.int .i64 (IntKind.wrap .i64 (dP cell i.toNat:Nat)),.int .i64 0] else .aO [.int .i64 0,.int .i64 1]) ∧
   Sat h' (SA a p q r op data aE ai::pt c (.cells 2 [.ptr m 0,.int .i64 (n:Int)] false)::pt m (.cells 4 [.ptr a 0,uv,av,.int .u64 (nx:Int)] false)::S):=by
 have jC:=hp.len
 refine Call.of_wp (hT.free _ rfl) Tryz.func29 rfl rfl (zK 9 rfl ?_)
 by_cases h0:i<0
 ·skip
  refine zB rfl aT (by simp;exact h0) ?_
  exact zk 15 rfl (WP.ret ⟨aa,_,rfl,ε,I,Sm.refl N ε,by rw[aj (by omega)],s⟩)
 ·obtain⟨j,rfl⟩:∃j:Nat,i=j:=⟨i.toNat,by omega⟩
  refine zC rfl aT (by simp<;>omega) ?_
  refine zk 4 rfl (zY s 1 vV dV rfl ?_)
  by_cases h1:n≤j
  ·skip
   refine zB rfl jj (by simp;omega) ?_
   exact zk 8 rfl (WP.ret ⟨aa,_,rfl,ε,I,Sm.refl N ε,by rw[aj (by omega)],s⟩)
  ·have J:j%50=j:=nf (by omega)
   have x_:∀h,convV Tryz.prog h 32 2 (.int .u64 (dP cell j:Nat))=some (.int .i64 (IntKind.wrap .i64 (dP cell j:Nat)),h):=fun h=>by simp only[convV,zD,bM]
   refine zC rfl jj (by simp;omega) ?_
   refine zk 9 rfl (zY s 1 qB mT rfl (zn rfl (zY s 2 lC lB rfl (zo rfl (qW rfl (mki_of C6 rfl)) (zm rfl (zc rfl (IF hT (MD hT hB) I hp (by omega) s) ?_))))))
   rintro v h ⟨w,u,oJ,rfl,nT,fV,s⟩
   have Fi:=(s.buf (k:=0) rfl).view
   have HS:=cR Fi (a:=8*j) (b:=8*j+8) (by omega) (by omega)
   have K7:(cell.take (8*j+8)).drop (8*j)=(cell.drop (8*j)).take 8:=by rw[sO,vh]
   refine zk 14 rfl (zC rfl aA (rfl) (zk 6 rfl (zo rfl (aq (r:=.int .i64 (j:Int)) rfl rfl ((Gr (b:=50) (by decide) (by omega)).trans (by rw[J]))) ?_)))
   refine zo rfl (aq (r:=.int .i64 ((8*j:Nat):Int)) rfl rfl (by rw[show((8*j:Nat):Int)=(j:Int)*8 by omega];exact iE (az (by omega) (by omega)))) ?_
   refine zk 7 rfl (zo rfl (aq (r:=.int .i64 ((8*j+8:Nat):Int)) rfl rfl (by rw[show((8*j+8:Nat):Int)=((8*j:Nat):Int)+8 by omega];exact aW (az (by omega) (by omega)))) ?_)
   refine zo rfl (cj (p:=some (.int .i64 ((8*j:Nat):Int))) (q:=some (.int .i64 ((8*j+8:Nat):Int))) (m:=none) (p':=some (8*j)) (q':=some (8*j+8)) (m':=none) rfl rfl rfl rfl (by rw[cF (by omega),b7]) (by rw[cF (by omega),b7]) rfl HS.1) ?_
   refine zc rfl (pn hT s (k:=0) rfl (jW (aY _ _) (a:=8*j) (b:=8*j+8) (by omega) (by omega)) (by rw[K7];simp;omega)) ?_
   rintro r h' ⟨rfl,rfl⟩
   rw[K7,show leN ((cell.drop (8*j)).take 8)=dP cell j from rfl]
   exact zo rfl (bO (r:=.int .i64 (IntKind.wrap .i64 (dP cell j:Nat))) rfl (x_ _)) (zk 3 rfl (WP.ret ⟨aa,_,rfl,oJ,nT,fV,by rw[aC (by omega),b7],((s.del 1).del 0)⟩))
end
def II (l:List Nat): List V:=l.map fun(n:Nat)=>V.int .u64 (n:Int)
structure pH where
 fst:Nat
 fg:Nat
 kV:Nat
 FD:List Nat
 dn:List (Nat×Nat)
 pg:List Int
variable {A A1 A2:pH}
def l9 (l:List (Nat×Nat)): List V:=l.flatMap fun d=>[.int .u64 (d.1:Int),.int .i64 (d.2:Int)]
theorem kn (l:List (Nat×Nat)): (l9 l).length=l.length*2:=by
 induction l with
 |nil=>rfl
 |cons d l I=>rw[l9,qq,bY];show 2+(l9 l).length=_;rw[I,bn];omega
theorem Ez : ∀ {l:List (Nat×Nat)} {i:Nat} {d:Nat×Nat},l[i]?=some d→((l9 l).drop (i*2)).take 2=[.int .u64 (d.1:Int),.int .i64 (d.2:Int)]:=by
 intro l
 induction l with
 |nil=>intro i d h;simp at h
 |cons x l I =>
  intro i d h
  cases i with
  |zero=>simp at h;subst h;rfl
  |succ i =>
   have:=I (i:=i) (by simpa using h)
   rw[show(i+1)*2=i*2+2 by omega]
   exact this
theorem VG {a b:List (Nat×Nat)}: l9 (a++b)=l9 a++l9 b:=by simp[l9]
def lP (id f l n:Nat)(mv dv pv:V): List V:=[.int .u64 (id:Int),.int .u64 (f:Int),.int .u64 (l:Int),.int .u64 (n:Int),mv,dv,pv]
def u9 (pv:V)(l:List Int): aP:=qL (fun v (_:Unit)=>.pu (v=.agg [])) pv (l.map fun n=>(n,()))
def qc (r id:Nat)(A:pH): aP:=xs fun mv:V=>xs fun dv:V=>xs fun pv:V=>star [pt r (.cells 7 (lP id A.fst A.fg A.kV mv dv pv) false),.arr 1 mv (II A.FD),.arr 2 dv (l9 A.dn),u9 pv A.pg]
abbrev tX := List (Nat×Nat×pH)
variable {L:tX}
def kL : tX→aP
 |[]=>.pu True
 |e::L=>star [qc e.2.1 e.1 e.2.2,kL L]
def gM (m a nx:Nat)(u:V)(L:tX): aP:=xs fun av:V=>star [pt m (.cells 4 [.ptr a 0,u,av,.int .u64 (nx:Int)] false),j_ .u64 (fun v (r:Nat)=>.pu (v=.ptr r 0)) av (L.map fun e=>((e.1:Int),e.2.1)),kL L]
section
variable {m:Nat} {x:Nat×Nat×pH}
theorem kT : Sat h (qc r id A::S)↔∃mv dv pv,Sat h (pt r (.cells 7 (lP id A.fst A.fg A.kV mv dv pv) false)::.arr 1 mv (II A.FD)::.arr 2 dv (l9 A.dn)::u9 pv A.pg::S):=by
 simp[qc,lz,bg]
theorem fc : Sat h (gM m a nx u L::S)↔∃av,Sat h (pt m (.cells 4 [.ptr a 0,u,av,.int .u64 (nx:Int)] false)::j_ .u64 (fun v (r:Nat)=>.pu (v=.ptr r 0)) av (L.map fun e=>((e.1:Int),e.2.1))::kL L::S):=by
 simp[gM,lz,bg]
theorem sI : Sat h (kL (x::L)::S)↔Sat h (qc x.2.1 x.1 x.2.2::kL L::S):=bg
theorem j3 : ∀ {L:tX} {i:Nat},L[i]?=some x→∀ {S:List aP},Sat h (kL L::S)↔Sat h (qc x.2.1 x.1 x.2.2::kL (L.eraseIdx i)::S):=by
 intro L
 induction L with
 |nil=>intro i h;simp at h
 |cons y L J =>
  intro i I S
  cases i with
  |zero=>simp at I;subst I;exact sI
  |succ i =>
   have I:L[i]?=some x:=by simpa using I
   rw[sI,List.eraseIdx_cons_succ]
   constructor
   ·intro s
    exact((sI (x:=y)).2 ((((J I).1 (s.ae [1])).ae [2,1]))).ae [1]
   ·intro s
    exact((J I).2 (((sI (x:=y)).1 (s.ae [1])).ae [2,1])).ae [1]
theorem SG (s:Sat h (qc r id A::kL L::S)): Sat h (kL (L++[(id,r,A)])::S):=by
 have I:(L++[(id,r,A)])[L.length]?=some (id,r,A):=by simp
 refine(j3 I).2 ?_
 rw[List.eraseIdx_append_of_length_le (aQ _)]
 simpa using s
theorem SH {x':Nat×Nat×pH}(I:L[i]?=some x): Sat h (qc x'.2.1 x'.1 x'.2.2::kL (L.eraseIdx i)::S)↔Sat h (kL (L.set i x')::S):=by
 have hi:=(List.getElem?_eq_some_iff.1 I).1
 have J:(L.set i x')[i]?=some x':=by simp[hi]
 rw[j3 J,List.eraseIdx_set_eq]
end
theorem Sat.IJ {v:V}{e:TypeId}(s:Sat h (.arr k v cs::S))(hi:i*k+k≤cs.length)(J:1≤k)(hu:P.underlying t=some (.slice e))(I:bB P e=some k)(ha:isAggT P e=some true):
  ∃id off,indexAddrV P t v (.int .i64 (i:Int))=some (.ptr id off)∧loadV P h e (.ptr id off)=some (.agg ((cs.drop (i*k)).take k)):=by
 obtain⟨id,n,cap,N,rest,rfl,hl,hN,s1,_⟩:=s.Ks (fun q=>by rw[q] at hi;simp at hi;omega)
 refine⟨id,i*k,?_,?_⟩
 ·simp only[indexAddrV,hu,I,b7]
  have:i<n:=by
   have h4:i*k+k=(i+1)*k:=by rw[vC,Nat.one_mul]
   rw[h4,hl] at hi
   exact Nat.lt_of_succ_le (J1 hi J)
  rw[show(decide ((0:Int)≤(i:Int))&&decide ((i:Int)<(n:Int)))=true by simp;omega,ah]
  simp
 ·rw[Xx ha I (s1.row (k:=0) rfl) (by rw[bY];exact hN.symm) (by omega)]
  rw[List.drop_append_of_le_length (by omega),JZ (by rw[vu];omega)]
def ic (l:List (Nat×Nat)): Nat:=(l.map (·.2)).foldr (· + ·) 0
theorem BP {a b:List (Nat×Nat)}: ic (a++b)=ic a+ic b:=by
 induction a<;>grind[ic]
theorem PU : ∀ {l:List (Nat×Nat)} {i:Nat} {d:Nat×Nat},l[i]?=some d→ic (l.take (i+1))=ic (l.take i)+d.2:=by
 intro l i d h
 have hi:=(List.getElem?_eq_some_iff.1 h)
 rw[zJ hi.1,BP,hi.2];simp[ic]
def qd (dn:List (Nat×Nat))(k:Nat): Nat:=128+ic dn+(if dn=[] then 0 else 560*(k+8))
structure Grow (h h':H)(k:Nat): Prop where
 next:h'.next=h.next+k
 get:∀i,i<h.next→T.get h'.tr i=T.get h.tr i
theorem Grow.trans {I:H}(a:Grow h h' i)(b:Grow h' I j): Grow h I (i+j) :=
 ⟨by rw[b.next,a.next];omega,fun k J=>by rw[b.get k (by rw[a.next];omega),a.get k J]⟩
section
variable {told:cC} {m:Nat}
noncomputable def coL : Code:=cm [1,1,0,1,0,0] ((Tryz.f143.body).getD .skip)
theorem MR {dn:List (Nat×Nat)}(hs:ic dn≤1099511627776)(hl:dn.length≤1048576){t0:V}: ∀(j i:Nat) (h:H) (E:List (Nat×V)) (Q:Ex→List (Nat×V)→H→Prop),i+j=dn.length→Sat h (.arr 2 dv (l9 dn)::S) →
  Has E [(0,t0),(3,.int .i64 ((128+ic (dn.take i):Nat):Int)),(9,dv),(10,.int .i64 (dn.length:Int)),(11,.int .i64 (i:Int))] →
  (∀E' h',Grow h h' j→Has E' [(0,t0),(3,.int .i64 ((128+ic dn:Nat):Int))]→Sat h' (.arr 2 dv (l9 dn)::S)→Q (.exit 0) E' h') →
  WP ⟨Tryz.prog,told⟩ 36 (.loop coL) E h Q:=by
 intro j
 induction j with
 |zero =>
  intro i h E Q hi s I J
  obtain rfl:i=dn.length:=by omega
  rw[List.take_length] at I
  refine WP.loop (WP.has I (zg rfl (zC rfl aT (by simp) ?_)))
  exact zk 3 rfl (WP.exit (J _ _ ⟨rfl,fun _ _=>rfl⟩ ⟨rfl,rfl,aa⟩ s))
 |succ j ih =>
  intro i h E Q hi s I J
  obtain⟨d,hd⟩:∃d,dn[i]?=some d:=⟨_,bw (by omega)⟩
  have fW:=PU hd
  have hle:ic (dn.take (i+1))≤ic dn:=by
   conv=>rhs;rw[←Ds (i+1) dn,BP]
   omega
  obtain⟨Dj,off,e1,e2⟩:=s.IJ (P:=Tryz.prog) (i:=i) (k:=2) (by rw[kn];omega) (by decide) kK sE Gg
  rw[Ez hd] at e2
  refine WP.loop (WP.has I (zg rfl (zB rfl aT (by simp;omega) ?_)))
  refine zk 5 rfl (WP.block (zg rfl (zo rfl (cZ (r:=.ptr Dj off) rfl rfl e1) (zl rfl e2 (zo rfl (bR Ct) ?_)))))
  have s1:=s.new (.cells 2 [.int .u64 0,.int .i64 0] false)
  have e3:=TV (P:=Tryz.prog) (t:=185) (l:=[.int .u64 (d.1:Int),.int .i64 (d.2:Int)]) (s1.row (k:=0) rfl) sE rfl rfl rfl
  have s2:=s1.put (o':=.cells 2 [.int .u64 (d.1:Int),.int .i64 (d.2:Int)] false) (k:=0) rfl
  dsimp only[setA] at s2
  have hg:Grow h ((h.new (.cells 2 [.int .u64 0,.int .i64 0] false)).put h.next (some (.cells 2 [.int .u64 (d.1:Int),.int .i64 (d.2:Int)] false))) 1:=⟨rfl,fun i hi=>by rw[cN,aj (by omega),fo,aj (by omega)]⟩
  refine au.NP rfl rfl (sX rfl rfl e3) ?_
  have s:=s2
  refine zk 3 rfl (zY s 0 UG dV rfl (zo rfl (aq (r:=.int .i64 ((128+ic (dn.take (i+1)):Nat):Int)) rfl rfl (by rw[show((128+ic (dn.take (i+1)):Nat):Int)=((128+ic (dn.take i):Nat):Int)+(d.2:Int) by omega];exact aW (az (by omega) (by omega)))) ?_))
  refine za rfl (zv (zr rfl (zb rfl (by exact aW (az (by omega) (by omega))) ?_)))
  refine zm rfl (zv ?_)
  exact ih (i+1) _ _ Q (by omega) s.drop ⟨rfl,rfl,rfl,rfl,rfl,aa⟩ fun E' h' YK eS s'=>J E' h' (by have:=hg.trans YK;rw[Ad 1 j] at this;exact this) eS s'
theorem SI (hs:ic A.dn≤1099511627776)(hd:A.dn.length≤1048576)(hp:A.pg.length≤1048576)(hT:W told)(s:Sat h (qc r id A::S)): Call ⟨Tryz.prog,told⟩ 143 [.ptr r 0] h fun v h'=>v=.int .i64 (qd A.dn A.pg.length:Int)∧Grow h h' A.dn.length∧Sat h' (qc r id A::S):=by
 obtain⟨mv,dv,pv,s⟩:=kT.1 s
 have s:=s.ae [2]
 refine Call.of_wp (hT.free _ rfl) Tryz.func143 rfl rfl (zK 13 rfl (zY s 1 qD Cs rfl (zo rfl (a_ rfl rfl rfl (s.fN (n:=A.dn.length) (j:=0) rfl (kn _) (by decide) kK)) ?_)))
 refine zk 2 rfl (WP.block (MR hs hd A.dn.length 0 _ _ _ (by omega) s ⟨rfl,rfl,rfl,rfl,rfl,aa⟩ fun E' h' hg J s' => ?_))
 have s:=s'
 refine WP.has J (zK 5 rfl (zY s 1 qD Cs rfl (zo rfl (a_ rfl rfl rfl (s.fN (n:=A.dn.length) (j:=0) rfl (kn _) (by decide) kK)) ?_)))
 have fin:∀ {h:H},Sat h (.arr 2 dv (l9 A.dn)::pt r (.cells 7 (lP id A.fst A.fg A.kV mv dv pv) false)::.arr 1 mv (II A.FD)::u9 pv A.pg::S)→Sat h (qc r id A::S):=fun s=>kT.2 ⟨mv,dv,pv,s.ae [1,1,0]⟩
 by_cases I:A.dn=[]
 ·skip
  refine zC rfl er (by simp[I]) ?_
  exact zk 8 rfl (WP.ret ⟨aa,_,rfl,by rw[qd,aC I];rfl,hg,fin s⟩)
 ·have h1:0<A.dn.length:=List.length_pos_iff.2 I
  refine zB rfl er (by simp;omega) ?_
  refine zk 6 rfl (zY s 1 D7 LS rfl (zo rfl (a_ rfl rfl rfl ((Bu (s.ae [3]) Iy).trans (by rw[eL]))) ?_))
  refine zo rfl (aq (r:=.int .i64 ((A.pg.length+8:Nat):Int)) rfl rfl (by rw[show((A.pg.length+8:Nat):Int)=(A.pg.length:Int)+8 by omega];exact aW (az (by omega) (by omega)))) ?_
  refine zo rfl (aq (r:=.int .i64 ((560*(A.pg.length+8):Nat):Int)) rfl rfl (by rw[show((560*(A.pg.length+8):Nat):Int)=560*((A.pg.length+8:Nat):Int) by omega];exact iE (az (by omega) (by omega)))) ?_
  refine zo rfl (aq (r:=.int .i64 (qd A.dn A.pg.length:Int)) rfl rfl (by rw[qd,aj I,show((128+ic A.dn+560*(A.pg.length+8):Nat):Int)=((128+ic A.dn:Nat):Int)+((560*(A.pg.length+8):Nat):Int) by omega];exact aW (az (by omega) (by omega)))) ?_
  exact zk 7 rfl (WP.ret ⟨aa,_,rfl,rfl,hg,fin s⟩)
end
theorem VH {v:V}(a:tF (T.get h.tr) k v cs): ∃n,cs.length=n*k∧srcV h k v=some (cs,n):=by
 rcases a.2 with⟨rfl,rfl⟩|⟨id,n,cap,N,rest,rfl,J,I,e2,_,e4⟩
 ·exact⟨0,by simp,rfl⟩
 ·refine⟨n,I,?_⟩
  simp only[srcV]
  rw[yE J (by grind) (by omega),←I,gE,oO rfl]
  rfl
def MS : List V→Nat
 |_::.int _ k::l=>k.toNat+MS l
 |_=>0
theorem VI : ∀l:List (Nat×Nat),MS (l9 l)=ic l:=by
 intro l
 induction l with
 |nil=>rfl
 |cons d l I =>
  show(d.2:Int).toNat+MS (l9 l)=_
  rw[I];simp[ic]
noncomputable def costR (h:H)(u:V): Option (Nat×Nat):=match u with
 |.ptr r 0=>match T.get h.tr r with
  |some (.cells 7 [_,_,_,_,_,dv,.map pid] false)=>match srcV h 2 dv,T.get h.tr pid with
   |some (cs,n),some (.map es _)=>some (128+MS cs+(if n=0 then 0 else 560*(es.length+8)),n)
   |_,_=>none
  |_=>none
 |_=>none
noncomputable def wC (h:H)(e:Int×V×Nat): Nat:=((costR h e.2.1).getD (0,0)).1
noncomputable def wK (h:H)(e:Int×V×Nat): Nat:=((costR h e.2.1).getD (0,0)).2
def sumF (f:Int×V×Nat→Nat): cn→Nat
 |[]=>0
 |e::l=>f e+sumF f l
def mL (f:Int×V×Nat→Nat)(seen:List Nat): cn→Nat
 |[]=>0
 |e::l=>cond (inL seen e.2.2) 0 (f e)+mL f seen l
theorem FE {f:Int×V×Nat→Nat}: ∀ {l:cn},mL f [] l=sumF f l:=by
 intro l
 induction l<;>grind[mL,sumF,inL]
theorem PV {f:Int×V×Nat→Nat}: ∀ {l:cn},(∀e∈l,inL seen e.2.2=true)→mL f seen l=0:=by
 intro l
 induction l<;>grind[mL]
theorem JV {f:Int×V×Nat→Nat}: ∀ {l:cn},(∀e∈l,e.2.2≠b)→mL f (seen++[b]) l=mL f seen l:=by
 intro l
 induction l<;>grind[mL,jf,eD]
theorem Dl {f:Int×V×Nat→Nat}: ∀ {l:cn} {b:Nat} {e:Int×V×Nat},fO c b l→e∈l→inL seen e.2.2=false→mL f (seen++[e.2.2]) l+f e=mL f seen l:=by
 intro l
 induction l with
 |nil=>intro b e _ he;cases he
 |cons y l ih =>
  intro b e I he hs
  rcases List.mem_cons.1 he with rfl|he
  ·simp only[mL,jf,hs,eV,Bool.or_true,ah,aL]
   rw[JV fun e' J=>by have:=lW I.2.2 e' J;omega]
   omega
  ·have:=lW I.2.2 e he
   simp only[mL,jf,eD (show e.2.2≠y.2.2 by omega),Aa]
   have:=ih I.2.2 he hs
   omega
def AP (args:List V)(h:H)(r:V×H): Prop:=∃m cs mid es clock,args=[.ptr m 0]∧T.get h.tr m=some (.cells 4 cs false)∧nth cs 2=some (.map mid)∧T.get h.tr mid=some (.map (es.map (iS .u64)) clock) ∧
 r=(.int .i64 ((256+sumF (wC h) es:Nat):Int),⟨h.next+1+sumF (wK h) es,h.tr⟩)
def kM (x:Nat×Nat×pH): Nat:=qd x.2.2.dn x.2.2.pg.length
def oB (L:tX): Nat:=256+(L.map kM).foldr (· + ·) 0
def tY (L:tX): Prop:=L.length≤1048576∧∀x∈L,ic x.2.2.dn≤1048576∧x.2.2.dn.length≤1048576∧x.2.2.pg.length≤1048576
section
variable {m:Nat}
theorem IK (s:Sat h (qc r id A::S)): costR h (.ptr r 0)=some (qd A.dn A.pg.length,A.dn.length):=by
 obtain⟨mv,dv,pv,s⟩:=kT.1 s
 have g1:=s.row (k:=0) rfl
 obtain⟨n,hn,I⟩:=VH (s.Rc (j:=2) rfl (Hf _ _ _))
 obtain⟨pid,es,c,rfl,hb,nX,s1⟩:=iT.1 (s.ae [3])
 have g2:=s1.row (k:=0) rfl
 obtain⟨qa,qb,q1,q2,q3⟩:=s1.at (k:=1) rfl
 have hk:=iZ List.length (nE q3)
 rw[kn] at hn
 have J:n=A.dn.length:=by omega
 subst J
 simp only[eL] at hk
 simp only[costR,g1,lP,I,g2,VI,eL,hk,qd]
 cases A.dn<;>simp
noncomputable def keA : Code:=cm [0] ((Tryz.f76.body).getD .skip)
noncomputable def keB : Code:=cm [1,0] ((Tryz.f76.body).getD .skip)
noncomputable def keC : Code:=cm [1,1,0,0] ((Tryz.f76.body).getD .skip)
noncomputable def YL : Code:=cm [1,1,0,1,0,0,0] ((Tryz.f76.body).getD .skip)
noncomputable def keD : Code:=cm [1,1,0,1,0,0,1,1,0] ((Tryz.f76.body).getD .skip)
noncomputable def keE : Code:=cm [1,1,1] ((Tryz.f76.body).getD .skip)
theorem SJ : Tryz.f76.body=some (.seq keA (.seq keB (.seq (.seq keC (.block 0 (.loop (.seq YL (.seq (.cond (.tmp 12) .skip (.exit 0)) (.block 1 keD)))))) keE))):=rfl
theorem VJ : ∃id I J,YL=.region id #[I,J] false∧I.guard=none∧J.guard=none∧I.op=.next (.tmp 10) false∧I.dst=some 11∧J.op=.extract (.tmp 11) 0∧J.dst=some 12:=⟨_,_,_,rfl,rfl,rfl,rfl,rfl,rfl,rfl⟩
def keJ (h₀:H)(it mid clock:Nat)(es:cn)(L:tX)(S:List aP)(j:Nat)(E:List (Nat×V))(h:H): Prop :=
 ∃seen k c,Has E [(3,.int .i64 ((256+c:Nat):Int)),(10,.ptr it 0)]∧j=(leftV seen (es.map (iS .u64))).length∧c+mL (wC h₀) seen es=sumF (wC h₀) es∧Grow h₀ h (1+k)∧k+mL (wK h₀) seen es=sumF (wK h₀) es ∧
  Sat h (pt it (.iter mid clock clock seen)::lS .u64 mid es clock::kL L::S)
theorem PW {h₀:H}{es:cn}(Bd:h₀.next≤it)(hb:fO clock 0 es)(hs:sumF (wC h₀) es≤4611686018427387904)(jD:∀x∈L,ic x.2.2.dn≤1048576∧x.2.2.dn.length≤1048576∧x.2.2.pg.length≤1048576)
 (he:∀e∈es,∃(i:Nat) (x:Nat×Nat×pH),L[i]?=some x∧e.2.1=.ptr x.2.1 0∧costR h₀ e.2.1=some (kM x,x.2.2.dn.length))(h0:keJ h₀ it mid clock es L S j E h):
  WPO CB 20 (.loop (.seq YL (.seq (.cond (.tmp 12) .skip (.exit 0)) (.block 1 keD)))) E h fun ex E' h'=>ex=.exit 0∧Has E' [(3,.int .i64 ((256+sumF (wC h₀) es:Nat):Int))]∧Grow h₀ h' (1+sumF (wK h₀) es):=by
 refine WPO.loop (keJ h₀ it mid clock es L S) ?_ h0
 rintro j E h ⟨seen,k,c,hE,rfl,hc,hg,hk,s⟩
 have g1:=s.row (k:=0) rfl
 have g2:=s.row (k:=1) rfl
 obtain⟨id,I8,Gy,q0,q1,q2,q3,q4,q5,q6⟩:=VJ
 refine WPO.seq ?_
 rw[q0]
 have hL:=next_at g1 (aQ _) g2 hb
 refine WPO.next ew c6 q1 q2 q3 q4 q5 rfl q6 rfl rfl (r:=it) ?_ hL fun q hq => ?_
 ·exact hE.2.1
 ·rcases BC g1 (aQ _) g2 hb hL q hq with⟨rfl,pL⟩|⟨e,I,HN,cJ,rfl⟩
  ·rw[PV pL] at hc hk
   refine⟨.bool false,[],rfl,?_⟩
   refine WPO.seq (WPO.cond (t:=false) rfl ?_)
   refine WPO.of ew c6 (WP.exit ?_)
   refine⟨rfl,⟨?_,aa⟩,?_⟩
   ·rw[←hc];exact hE.1
   ·rw[←hk];exact hg
  ·obtain⟨i,x,hx,hex,hcx⟩:=he e I
   have hx3:=jD x (bJ hx)
   have yb:wC h₀ e=kM x:=by rw[wC,hcx];rfl
   have xO:wK h₀ e=x.2.2.dn.length:=by rw[wK,hcx];rfl
   have dO:=Dl (f:=wC h₀) hb I HN
   have TL:=Dl (f:=wK h₀) hb I HN
   rw[yb] at dO
   rw[xO] at TL
   refine⟨.bool true,_,rfl,?_⟩
   refine WPO.seq (WPO.cond (t:=true) rfl ?_)
   refine WPO.of ew c6 (WP.skip ?_)
   refine WPO.block (WPO.of ew c6 ?_)
   have s:=s.put (o':=.iter mid clock clock (seen++[e.2.2])) (k:=0) rfl
   have hg:Grow h₀ (h.put it (some (.iter mid clock clock (seen++[e.2.2])))) (1+k):=⟨hg.next,fun i hi=>by rw[cN,aj (by omega)];exact hg.get i hi⟩
   generalize h.put it (some (.iter mid clock clock (seen++[e.2.2])))=h' at s hg
   dsimp only[setA] at s
   have g1:=s.row (k:=0) rfl
   have g2:=s.row (k:=1) rfl
   have J:=BB g1 g2 hb I
   rw[hex] at J
   have s:=(j3 hx).1 (s.ae [2])
   dsimp only[bringA,getA,aK] at s
   refine WP.has (F:=[(3,.int .i64 ((256+c:Nat):Int)),(10,.ptr it 0),(12,.bool true)]) ⟨hE.1,hE.2.1,rfl,aa⟩ (zg rfl (au.any rfl rfl rfl (OpR.entry rfl rfl J) ?_))
   rintro v h ⟨rfl,rfl⟩
   refine zk 6 rfl (zc rfl (SI (by omega) hx3.2.1 hx3.2.2 W.base s) ?_)
   rintro v h' ⟨rfl,YK,s⟩
   rw[show qd x.2.2.dn x.2.2.pg.length=kM x from rfl]
   have s:=((j3 hx).2 s).ae [1,1,0]
   dsimp only[bringA,getA,aK] at s
   refine zo rfl (aq (r:=.int .i64 ((256+(c+kM x):Nat):Int)) rfl rfl (by rw[show((256+(c+kM x):Nat):Int)=((256+c:Nat):Int)+(kM x:Int) by omega];exact aW (az (by omega) (by omega)))) ?_
   refine za rfl (zv ?_)
   exact⟨_,cJ,seen++[e.2.2],k+x.2.2.dn.length,c+kM x,⟨rfl,rfl,aa⟩,rfl,by omega,by rw[←oQ];exact hg.trans YK,by omega,s⟩
theorem IL {X:List aP}(hn:L.length≤1048576): ∀ {L:tX} {es:cn} {a b:PM},(eW (fun v (r:Nat)=>.pu (v=.ptr r 0)) es (L.map fun e=>((e.1:Int),e.2.1))).p a b→(∀(i:Nat) (x:Nat×Nat×pH),L[i]?=some x→costR h (.ptr x.2.1 0)=some (kM x,x.2.2.dn.length)) →
  sumF (wC h) es=(L.map kM).foldr (· + ·) 0∧sumF (wK h) es=(L.map fun x=>x.2.2.dn.length).foldr (· + ·) 0∧∀e∈es,∃(i:Nat) (x:Nat×Nat×pH),L[i]?=some x∧e.2.1=.ptr x.2.1 0∧costR h e.2.1=some (kM x,x.2.2.dn.length):=by
 intro L
 induction L with
 |nil=>intro es a b q _;cases es with
  |nil=>exact⟨rfl,rfl,fun e he=>by cases he⟩
  |cons e es=>exact q.elim
 |cons y L ih =>
  intro es a b q hc
  cases es with
  |nil=>exact q.elim
  |cons e es =>
   obtain⟨⟨_,J⟩,q3⟩:=q
   have J:e.2.1=.ptr y.2.1 0:=J
   obtain⟨k1,k2,k3⟩:=ih q3 fun i x hx=>hc (i+1) x (by simpa using hx)
   have h0:=hc 0 y rfl
   refine⟨?_,?_,fun e' I => ?_⟩
   ·simp only[sumF,wC,J,h0,dQ,vy];rw[←k1];rfl
   ·simp only[sumF,wK,J,h0,dQ,vy];rw[←k2];rfl
   ·rcases List.mem_cons.1 I with rfl|I
    ·exact⟨0,y,rfl,J,by rw[J];exact h0⟩
    ·obtain⟨i,x,g1,g2⟩:=k3 e' I
     exact⟨i+1,x,by simpa using g1,g2⟩
theorem PX (I:tY L)(s:Sat h (gM m a nx u L::S)):
  ∃r,AP [.ptr m 0] h r∧∀(c:Ctx) (w:World),Rel c h w→(∀x∈[V.ptr m 0],wf c x)→eo Tryz.prog 76 [.ptr m 0] c w r.1 r.2:=by
 obtain⟨av,s⟩:=fc.1 s
 obtain⟨mid,es,clock,rfl,hb,nX,s⟩:=fG.1 (s.ae [1])
 dsimp only[bringA,getA,aK] at s
 have gm:=s.row (k:=0) rfl
 have gp:=s.row (k:=2) rfl
 obtain⟨qa,qb,q1,q2,q3⟩:=s.at (k:=1) rfl
 have B6:∀(i:Nat) (x:Nat×Nat×pH),L[i]?=some x→costR h (.ptr x.2.1 0)=some (kM x,x.2.2.dn.length):=fun i x J=>IK ((j3 J).1 (s.ae [3]))
 obtain⟨w1,w2,w3⟩:=IL (X:=S) I.1 q3 B6
 have xH:sumF (wC h) es≤4611686018427387904:=by
  rw[w1]
  have key:∀l:List Nat,(∀z∈l,z≤1048576000)→l.foldr (· + ·) 0≤1048576000*l.length:=by
   intro l
   induction l with
   |nil=>intro _;simp
   |cons z l ih=>intro hz;have:=ih fun w hw=>hz w (cU _ hw);have:=hz z c8;simp only[vy,bn];omega
  have:=key (L.map kM) fun z hz=>by
   obtain⟨x,J,rfl⟩:=List.mem_map.1 hz
   obtain⟨k1,k2,k3⟩:=I.2 x J
   unfold kM qd
   split<;>omega
  have:=I.1
  rw[eL] at *
  omega
 refine⟨(.int .i64 ((256+sumF (wC h) es:Nat):Int),⟨h.next+1+sumF (wK h) es,h.tr⟩),⟨m,_,mid,es,clock,rfl,gp,rfl,gm,rfl⟩,fun c w hr ha => ?_⟩
 refine eo.yP (C:=CB) (args:=[.ptr m 0]) De SJ (show 1≤Tryz.f76.ntmps by decide) ?_ hr ha
 refine WPO.seq (WPO.of ew c6 ?_)
 refine zr rfl (za rfl (zv ?_))
 refine WPO.seq (WPO.of ew c6 ?_)
 refine zr rfl (za rfl (zv ?_))
 refine WPO.seq (WPO.seq (WPO.of ew c6 ?_))
 refine zK 3 rfl (zY s 2 my pQ rfl (au.any rfl rfl rfl (OpR.range rfl rfl (show rangeV Tryz.prog h 142 (.map mid)=some (.ptr h.next 0,h.new (.iter mid clock clock [])) by simp only[rangeV,rT,gm])) ?_))
 rintro v h' ⟨rfl,rfl⟩
 refine zv ?_
 have s7:=(s.new (.iter mid clock clock [])).ae [0,0,2]
 refine WPO.block ((PW (h₀:=h) (es:=es) (L:=L) (aQ _) hb xH (fun x J=>I.2 x J) w3 ⟨[],0,0,⟨rfl,rfl,aa⟩,rfl,by rw[FE,gd],⟨rfl,fun i hi=>by rw[fo,aj (by omega)]⟩,by rw[FE,gd],s7⟩).mono ?_)
 rintro ex E' h' ⟨rfl,eS,hg⟩
 refine WPO.of ew c6 (WP.has eS (zK 5 rfl (WP.ret ?_)))
 refine⟨aa,lR rfl,by rw[hg.next];show h.next+1+_=_;omega,fun id o ho => ?_⟩
 have cJ:id<h.next:=s.wf id o ho
 rw[hg.get id cJ];exact ho
end
structure dA where
 kd:Nat
 tx:Nat
 pv:Nat
 nx:Nat
 data:List Nat
 br:List cO
variable {iC si rs f_ FF:List dA} {rc:dA}
def dA.bd (r:dA): List Nat:=cI r.kd r.tx r.pv r.nx r.data r.br
def dA.len (r:dA): Nat:=8+r.bd.length
structure dA.Ok (r:dA): Prop where
 good:dN r.kd r.br=true
 rd:xo r.tx r.pv r.nx r.data r.br
 len:r.bd.length≤1048576
theorem dA.Ok.kd {r:dA}(h:r.Ok): r.kd<256:=by
 have:=h.good
 simp[dN] at this
 omega
def logB : Nat→List dA→List Nat
 |_,[]=>[]
 |n,r::l=>kR n r.bd++logB (n+r.len) l
def lH : Nat→List dA→List Nat
 |_,[]=>[]
 |a,r::l=>a::lH (a+r.len) l
def YM (base aE:Nat)(rs:List dA): Lg:={ base:=base,b:=logB base rs,bh:=lH 0 rs,forced:=(logB base rs).length,check:=aE }
theorem PY (n:Nat)(b:List Nat): (kR n b).length=8+b.length:=by rw[jY]
abbrev Pgs := List (Int×List Nat)
structure YN where
 aM:Pgs
 acH:List (Int×Nat)
variable {ρ:YN}
def szB : List dA→Nat
 |[]=>0
 |r::l=>r.len+szB l
theorem j4 : ∀ {rs:List dA} {n:Nat},(logB n rs).length=szB rs:=by
 intro rs
 induction rs with
 |nil=>intro n;rfl
 |cons r rs I=>intro n;simp only[logB,szB,bY,PY,I];rfl
theorem gJ {x y:List dA}: szB (x++y)=szB x+szB y:=by
 induction x with
 |nil=>simp[szB]
 |cons r x I=>simp only[ie,szB,I];omega
theorem BQ {y:List dA}: ∀ {x:List dA} {n:Nat},logB n (x++y)=logB n x++logB (n+szB x) y:=by
 intro x
 induction x with
 |nil=>intro n;simp[logB,szB]
 |cons r x I=>intro n;simp only[ie,logB,szB,I,dB,oQ]
theorem xu {y:List dA}: ∀ {x:List dA} {a:Nat},lH a (x++y)=lH a x++lH (a+szB x) y:=by
 intro x
 induction x with
 |nil=>intro a;simp[lH,szB]
 |cons r x I=>intro a;simp only[ie,lH,szB,I,oQ]
theorem PZ : ∀ {rs:List dA} {a:Nat},(lH a rs).Pairwise (· < ·)∧∀s∈lH a rs,a≤s∧s<a+szB rs:=by
 intro rs
 induction rs with
 |nil=>intro a;exact⟨List.Pairwise.nil,by simp[lH]⟩
 |cons r rs J =>
  intro a
  obtain⟨h1,I⟩:=J (a:=a+r.len)
  have h8:8≤r.len:=by rw[dA.len];omega
  simp only[lH,szB,sK,jI]
  refine⟨⟨fun s hs=>by have:=I s hs;omega,h1⟩,?_⟩
  rintro s (rfl|hs)
  ·omega
  ·have:=I s hs;omega
theorem SK {base:Nat}{r:dA}: (YM base aE (iC++r::si)).hasB (base+szB iC)=true:=by
 rw[Lg.hasB,vq]
 refine⟨szB iC,?_,by simp[YM]⟩
 show szB iC∈lH 0 (iC++r::si)
 rw[xu,gd]
 exact List.mem_append.2 (.inr c8)
structure LR (B0 aE:Nat)(mk:List Nat)(rs:List dA)(x:LD): Prop where
 base:x.1.base=B0
 b:x.1.b=logB B0 rs
 bh:x.1.bh=lH 0 rs
 check:x.1.check=aE
 log:x.2.log=logB B0 rs
 alive:x.2.dead=false
 aU:x.2.aU<0
 mark:x.2.mark=mk
 qN:x.2.qN=none
 tail:x.2.tail=[]
 wait:∀w∈x.2.waiting,w.1<x.2.aM.length∧w.2.length=512
 rs:∀r∈rs,r.Ok
theorem qS (base aE:Nat)(mk:List Nat)(rs:List dA): lG (LR base aE mk rs):=by
 refine⟨fun x n h => ?_,fun x n b h => ?_⟩
 ·unfold bG
  split
  ·exact h
  ·have e:x.2.fP=(0,{ x.2 with bL:=x.2.log.length }):=by
    rw[Dk.fP,aj (by rw[h.alive];decide),aj (by have:=h.aU;omega),j0 h.aU]
   rw[e,aj (by simp)]
   exact⟨h.base,h.b,h.bh,h.check,h.log,h.alive,h.aU,h.mark,h.qN,h.tail,h.wait,h.rs⟩
 ·unfold Dk.dx
  rw[aj (by rw[h.alive];decide)]
  split
  ·exact h
  ·rename_i I
   rw[aj (by have:=h.aU;omega)]
   refine⟨h.base,h.b,h.bh,h.check,h.log,h.alive,?_,h.mark,h.qN,h.tail,fun w hw => ?_,h.rs⟩
   ·show x.2.dc.aU<0
    rw[j0 h.aU];exact h.aU
   ·rcases List.mem_append.1 hw with hw|hw
    ·exact h.wait w hw
    ·rw[List.mem_singleton.1 hw]
     have I:=Classical.not_not.1 I
     exact⟨by show n.toNat<x.2.aM.length;omega,I.2.2⟩
theorem xw : 1≤(digits k n).length:=MJ k n
theorem MT {kd:Int}: data.length≤(cI kd tx pv nx data br).length∧br.length≤(cI kd tx pv nx data br).length:=by
 have:=Is br
 simp only[cI,bY,bn,cr]
 omega
def FT : VP:=fun C d _=>∀n rec,lookL n d=some (rec,true)→∃b,C n b
section
theorem FT.xh (N:Nat): nV N FT:=by
 refine⟨fun ε i f he hf h0 hc h => ?_⟩
 have Hz:=(he.back i f hf).resolve_left (by omega)
 have hs:(outF ε i).2.1=ε.1∨(outF ε i).2.1={ ε.1 with ag:=ε.1.ag.set i { f with changed:=false },bu:=cW f.bj (pE ε.1 f.bj,false) ε.1.bu }:=by grind[outF]
 show FT (p_ (outF ε i).2.1) (outF ε i).2.1.bu (outF ε i).2.2
 rcases hs with e|e
 ·rw[e];exact h
 ·rw[e]
  intro n rec I
  have I:lookL n (cW f.bj (pE ε.1 f.bj,false) ε.1.bu)=some (rec,true):=I
  rw[kD] at I
  by_cases J:f.bj=n
  ·rw[aC J] at I;injection I with I;injection I with _ I;cases I
  ·rw[aj J] at I
   obtain⟨b,j,y,hy,k1,k0,k2,k3⟩:=h n rec I
   refine⟨b,j,y,?_,k1,k0,k2,k3⟩
   show(ε.1.ag.set i _)[j]?=some y
   grind
theorem FT.put (h:vw FT ε)(he:EC N ε){n:Int}{f:Fm}{b:List Nat}(hl:lookL n ε.1.aF=some (i:Int))(hf:ε.1.ag[i]?=some f)(h0:0≤n): vw FT (BI ε.1 n i f b aD,ε.2):=by
 have hi:=(List.getElem?_eq_some_iff.1 hf).1
 have I:f.bj=n:=by
  obtain⟨_,j,x,xB,hx,H7⟩:=he.jZ n i hl<;>grind
 intro m rec hm
 have hm:lookL m (cW n (gx ε.1 n aD,true) ε.1.bu)=some (rec,true):=hm
 rw[kD] at hm
 by_cases J:n=m
 ·subst J
  exact⟨c_ b aD,i,{ f with b:=c_ b aD,changed:=true,pins:=0 },by exact ke hi,I,h0,rfl,rfl⟩
 ·rw[aj J] at hm
  obtain⟨c,j,y,hy,k1,k0,k2,k3⟩:=h m rec hm
  refine⟨c,j,y,?_,k1,k0,k2,k3⟩
  show(ε.1.ag.set i _)[j]?=some y
  grind
theorem PtR.ft {l:List Int}(I:PtR now aD l ε e ai): EC N ε→gP ε→NW N now→(∀n∈l,0≤n∧n<N)→vw FT ε→vw FT ai:=by
 induction I with
 |nil ε=>intro _ _ _ _ hv;exact hv
 |jG n l ε e b ai I he =>
  intro h h3 hn hl
  have:=hl n c8
  exact absurd ((I.ec h).2.2.1 this.1 this.2).1 he
 |bad n l ε b0 b ai I hb he =>
  intro h h3 hn hl
  exact absurd ((I.put (b:=b) (aD:=aD) h3).2.2 (hn.look hb).1) he
 |put n l ε b0 b ai e lN I hb he ht ih =>
  intro h h3 hn hl hv
  have J:=hl n c8
  obtain⟨k1,k2,k3,k4⟩:=I.ec h
  obtain⟨i,f,p1,p2,p3,p4,p5⟩:=I.at h3.pins
  have hg:=hn.look hb
  have e1:=w_ (aD:=aD) p1 p2 p3 hg.1
  obtain⟨q1,q2⟩:=k1.put (aD:=aD) p1 p2 hg.1 hg.2 J.1 J.2
  have Pf:=(I.put (b:=b) (aD:=aD) h3).1
  have Hx:vw FT ai:=(FT.xh N).jG I h hv
  have uo:=FT.put (b:=b) (aD:=aD) Hx k1 p1 p2 J.1
  rw[e1] at ih Pf
  exact ih q1 Pf hn (fun m hm=>hl m (cU _ hm)) uo
end
theorem EA (h:n<2097152): (digits 9 n).length≤3:=by
 grind[digits]
theorem zG {L:Nat}{cs:List cO}{kd:Int}(hr:jg now (aX now) ε e cs ai)(I:NW N now)(hL:now.length≤L)(hN:N≤16384)(ht:tx<2097152)(hp:pv<2097152)(hx:nx<2097152)(hd:data.length≤9):
  (cI kd tx pv nx data cs).length≤520*L+32:=by
 have h1:=EA ht
 have h2:=EA hp
 have h3:=EA hx
 have h4:=wg (n:=data.length) (by omega)
 have h5:=uY cs.length
 have h6:=hr.Ys I fun n hm=>by have:=I.keys n (iy.1 hm);omega
 have J:(aX now).length≤L:=by
  rw[aX,(eP _).length_eq,eL];exact hL
 have J:=Du 520 J
 simp only[cI,bY,bn,cr]
 omega
theorem LR.YO {base kd:Nat}{x:LD}{c:List cO}(h:LR base aE mk rs x)(hk:1≤kd)(hg:dN kd c=true)(ht:tx<2097152)(r_:pv<2097152)(nQ:nx<2097152)
 (ha:(bk x kd tx pv nx data c).1.2=0): (bk x kd tx pv nx data c).1.1=base+szB rs∧dA.Ok ⟨kd,tx,pv,nx,data,c⟩∧LR base aE mk (rs++[⟨kd,tx,pv,nx,data,c⟩]) (bk x kd tx pv nx data c).2:=by
 rcases gW x kd tx pv nx data c with⟨e,he,_,hq⟩|⟨_,hf,_⟩|⟨_,hb,hd,fu,hf,hq⟩
 ·grind
 ·grind
 ·rw[j0 h.aU] at hq
  have wj:=MT (kd:=kd) (tx:=tx) (pv:=pv) (nx:=nx) (data:=data) (br:=c)
  have hr:(dA.mk kd tx pv nx data c).Ok:=⟨hg,⟨by show tx<_;omega,by show pv<_;omega,by show nx<_;omega,by grind,by grind⟩,hb⟩
  have hl:(logB base rs).length=szB rs:=j4
  have hn:dF x.1 kd tx pv nx data c=kR (base+szB rs) (dA.mk kd tx pv nx data c).bd:=by rw[dF,h.base,h.b,hl];rfl
  have J:logB base (rs++[dA.mk kd tx pv nx data c])=logB base rs++dF x.1 kd tx pv nx data c:=by grind[BQ,logB]
  have hof:lH 0 (rs++[dA.mk kd tx pv nx data c])=lH 0 rs++[szB rs]:=by rw[xu,gd];rfl
  refine⟨by rw[hq];rw[h.base,h.b,hl],hr,?_⟩
  rw[hq]
  refine⟨h.base,?_,?_,h.check,?_,h.alive,h.aU,h.mark,h.qN,h.tail,h.wait,fun r I => ?_⟩
  ·show x.1.b++_=_;rw[h.b,J]
  ·show x.1.bh++[x.1.b.length]=_;rw[h.bh,h.b,hl,hof]
  ·grind[log]
  ·rcases List.mem_append.1 I with I|I
   ·exact h.rs r I
   ·rw[List.mem_singleton.1 I];exact hr
theorem EB {x:LD}{kd:Int}{c:List cO}: (bk x kd tx pv nx data c).2.2.room=x.2.room:=by
 rcases gW x kd tx pv nx data c with⟨e,_,_,I⟩|⟨_,_,I⟩|⟨_,_,_,_,_,I⟩<;>rw[I]<;>rfl
structure TxI (N B M ba ck:Nat)(mk:List Nat)(rs:List dA)(ε:bq): Prop where
 ei:EI N B ε
 lr:LR ba ck mk rs ε.2
 rm:ε.2.2.room=M
 ft:vw FT ε
theorem TxI.len (h:TxI N B M ba ck mk rs ε): ε.2.2.log.length=szB rs:=by
 rw[h.lr.log,j4]
theorem TxI.sm (h:TxI N B M ba ck mk rs ε)(hi:EI N B ai)(hs:Sm N ε ai): TxI N B M ba ck mk rs ai :=
 ⟨hi,hs.2.1 _ ((qS ba ck mk rs).xh N) h.lr,by rw[((xP.sm (K:=ε.2.2.log.length) ⟨aQ _,rfl⟩ hs).2)];exact h.rm,hs.2.1 _ (FT.xh N) h.ft⟩
theorem TxI.done {L kd:Nat}{cl:Bool}(h:TxI N B M ba ck mk rs ε)(hr:rQ ε now kd tx pv nx data 0 aD e cl ai)(hB:B≤1000)(hw:NW N now)(hL:now.length≤L)(hL2:L≤1000)(hN:N≤1024)
 (h1:1≤kd)(h2:kd≤7)(qi:tx<2097152)(r_:pv<2097152)(nQ:nx<2097152)(hd:data.length≤9)(hf:szB rs+520*L+40≤M):
  cl=true∧e=0∧aD=ba+szB rs∧(∀m,pgA ai m=match lookL m now with|some b=>c_ b aD|none=>pgA ε m)∧∃c,(dA.mk kd tx pv nx data c).len≤520*L+40∧TxI N (B+2) M ba ck mk (rs++[⟨kd,tx,pv,nx,data,c⟩]) ai:=by
 have sA:∀n∈aX now,0≤n∧n<N:=fun n hq=>hw.keys n (iy.1 hq)
 have MF:=h.ei.done hB hw (by omega) (by omega) hr
 have Mr:=h.len
 have A0:=h.rm
 have fu:∀ {c:List cO} {ai:bq} {e:Int},jg now (aX now) ε e c ai→dN kd c=true:=fun I=>by
  refine BJ ⟨by omega,by omega⟩ (I.fit (fun x hx=>gI (hw.good x hx).1) fun n hq => ?_)<;>grind
 cases hr with
 |arg hh=>omega
 |dead _ _ _ hd=>have:=h.lr.alive;grind
 |nP e c ai _ _ _ _ I uC=>exact absurd (I.ec h.ei.ec h.ei.ok sA).2.2 uC
 |app c J _ _ _ _ I uC =>
  have ux:=zG (kd:=kd) (tx:=tx) (pv:=pv) (nx:=nx) (data:=data) I hw hL (by omega) qi r_ nQ hd
  have hP:=(lX ε.2.2.log.length ε.2.2.room).ch I ⟨rfl,rfl⟩
  have hg:=fu I
  have Fj:=(qS ba ck mk rs).ch I h.lr
  have ha:=Fj.alive
  have Yt:=Fj.aU
  grind[gW,dF,jY]
 |put c J e xm _ _ _ _ I ha hp =>
  rcases MF with⟨jC,_⟩|⟨_,he,hi,fS⟩
  ·grind
  ·have ux:=zG (kd:=kd) (tx:=tx) (pv:=pv) (nx:=nx) (data:=data) I hw hL (by omega) qi r_ nQ hd
   have hP:=(lX ε.2.2.log.length ε.2.2.room).ch I ⟨rfl,rfl⟩
   obtain⟨k1,k2,k3⟩:=((qS ba ck mk rs).ch I h.lr).YO h1 (fu I) qi r_ nQ ha
   rw[he,aC rfl] at fS
   have Xi:(bk J.2 kd tx pv nx data c).2.2.room=J.2.2.room:=EB
   have hr3:=((lX (bk J.2 kd tx pv nx data c).2.2.log.length (bk J.2 kd tx pv nx data c).2.2.room).pt hp ⟨rfl,rfl⟩).2
   obtain⟨c1,_,_⟩:=I.ec h.ei.ec h.ei.ok sA
   obtain⟨hA,_⟩:=(EI.app (kd:=kd) (tx:=tx) (pv:=pv) (nx:=nx) (data:=data) (c:=c) (show EI N B J from⟨I.kI h.ei.ok,c1,I.el h.ei.el,cu I.bV h.ei.bV⟩) hB (fu I))
   have Yr:vw FT J:=(FT.xh N).ch I h.ei.ec h.ei.ok h.ft
   have hft:vw FT (J.1,(bk J.2 kd tx pv nx data c).2):=Yr
   refine⟨rfl,he,by rw[he,aC rfl,k1],by rw[he,aC rfl];exact fS,c,?_,hi,(qS ba ck mk _).pt hp k3,by rw[hr3,Xi,hP.2];exact A0,hp.ft hA.ec hA.ok hw sA hft⟩
   show 8+(cI kd tx pv nx data c).length≤_
   omega
theorem Bi (r:dA): 8≤r.len:=by simp only[dA.len];omega
section
variable {g:Int→Option Nat}
theorem VK {f:Fm}(h:EC N ε)(hf:ε.1.ag[i]?=some f)(h0:0≤f.bj){n:Int}{b:List Nat}(hc:p_ (outF ε i).2.1 n b): p_ ε.1 n b∧n≠f.bj:=by
 obtain⟨o1,o2,o3,o4,gg,o5,o6,o7⟩:=h.out hf
 have I:=(h.back i f hf).resolve_left (by omega)
 obtain⟨j,y,hy,k1,k0,k2,k3⟩:=hc
 have nM:n≠f.bj:=by
  intro q
  have J:=(o2.back j y hy).resolve_left (by omega)
  have h1:=J.here
  rw[k1,q,o4,I.here] at h1
  grind
 grind[outF,p_]
theorem u_ {P:VP}(hP:nV N P): ∀ {l:List Int} {ε:bq},EC N ε→(∀n∈l,(lookL n ε.1.aF).isSome=true)→vw P ε→vw P (writeAllF l ε).2∧∀n b,p_ (writeAllF l ε).2.1 n b→p_ ε.1 n b∧n∉l:=by
 intro l
 induction l with
 |nil=>intro ε h _ I;exact⟨I,fun n b q=>⟨q,by simp⟩⟩
 |cons n l ih =>
  intro ε h hl I
  cases hq:lookL n ε.1.aF with
  |none=>grind
  |some i =>
   obtain⟨Wn,j,f,rfl,J,hp⟩:=h.jZ n i hq
   obtain⟨k1,k2,k3,k4,_⟩:=h.out J
   have e:eX ε n=outF ε j:=by grind[eX]
   rw[writeAllF,e,aj (by omega)]
   obtain⟨i1,i2⟩:=ih k2 (fun m hm=>by grind) (hP.out h J I)
   refine⟨i1,fun m b hm => ?_⟩
   obtain⟨q1,q2⟩:=i2 m b hm
   obtain⟨q3,q4⟩:=VK h J (by omega) q1
   exact⟨q3,by grind⟩
theorem zH (ε:bq): ∀n∈aX ε.1.aF,(lookL n ε.1.aF).isSome=true:=fun n I=>by
 cases J:lookL n ε.1.aF<;>grind[iy,jw]
end
theorem IM {n:Int}{x:α}: ∀ {l:List (Int×α)},(l.map (·.1)).Nodup→(n,x)∈l→lookL n l=some x:=by
 intro l
 induction l with
 |nil=>intro _ h;cases h
 |cons y l J =>
  intro I h
  simp only[dQ,sN] at I
  simp only[lookL]
  rcases List.mem_cons.1 h with rfl|h
  ·rw[aC rfl]
  ·rw[aj (fun e=>I.1 (by rw[e];exact List.mem_map.2 ⟨_,h,rfl⟩))]
   exact J I.2 h
section
theorem FT.clean (h:vw FT ε)(he:EC N ε)(ha:(writeAllF (aX ε.1.aF) ε).2.2.2.dead=false)(hf:(writeAllF (aX ε.1.aF) ε).2.2.2.aU<0):
  (iB ε).2=({ (writeAllF (aX ε.1.aF) ε).2.1 with bu:=[] },((writeAllF (aX ε.1.aF) ε).2.2.1,(writeAllF (aX ε.1.aF) ε).2.2.2.sync)):=by
 have hk:=zH ε
 obtain⟨w1,w2,w3⟩:=y5 he hk
 obtain⟨a1,a2⟩:=u_ (FT.xh N) he hk h
 have es:(writeAllF (aX ε.1.aF) ε).2.2.2.jy=(0,(writeAllF (aX ε.1.aF) ε).2.2.2.sync):=by grind[Dk.jy,j0]
 have I:∀n b,¬p_ (writeAllF (aX ε.1.aF) ε).2.1 n b:=fun n b J=>by
  obtain⟨q1,q2⟩:=a2 n b J
  obtain⟨j,f,hf,k1,k0,k2,k3⟩:=q1
  have Hz:=(he.back j f hf).resolve_left (by omega)
  rw[←k1] at q2
  refine q2 (iy.2 ?_)
  have:=Hz.here
  exact jE this |> vk (f:=(·.1))
 have hd:(writeAllF (aX ε.1.aF) ε).2.1.bu.filter (fun e=>e.2.2)=[]:=by
  refine List.filter_eq_nil_iff.2 fun e hm hb => ?_
  obtain⟨n,rec,fl⟩:=e
  have Ka:fl=true:=hb
  subst Ka
  have hl:=IM w2.Bg hm
  obtain⟨b,J⟩:=a1 n rec hl
  exact I n b J
 rw[iB,aj (by rw[he.dk.alive];decide),aj (by omega),fh,es,aj (by simp),hd]
end
theorem MU (I:μ.base=ba)(hs:μ.bh=lH 0 (rs++[rc])): uX μ (ba+szB rs)=lH 0 [rc]:=by
 have J:(lH 0 rs).filter (fun s=>decide (ba+szB rs≤ba+s))=[]:=List.filter_eq_nil_iff.2 fun s hs=>by
  have:=(PZ.2 s hs).2
  simp only[gD]
  omega
 rw[uX,hs,I,xu,List.filter_append,J]
 simp[lH]
theorem TxI.H8 {abg jz:Nat}{ri:List Nat}(h:TxI N B M ba ck mk rs ε)(Dm:ε.1.bu=[])(hfc:ε.2.1.forced≤ε.2.1.b.length)(hB:B≤1000)(lI:1≤ba)(h0:0<szB rs)(CE:data.length≤64)(fu:szB rs+128≤M)
 (hr:KQ ε 0 data cM abg e ai ri jz): e=0∧ri=data∧jz=ba+szB rs∧(∀m,pgA ai m=pgA ε m)∧∃rc:dA,rc.len≤128∧TxI N (B+1) M (ba+szB rs) (ba+szB rs) (eC (ba+szB rs) (ba+szB rs)) [rc] ai:=by
 have iI:=h.ei
 obtain⟨i1,i2,i3⟩:=iI.H8 hB hr
 have eH:=iI.el.size
 have A0:=h.rm
 cases hr with
 |Yc hb=>omega
 |dead _ hd=>rw[iI.ec.dk.alive] at hd;cases hd
 |go e y ri jz _ hd hc =>
  have hlen:(logB ba rs).length=szB rs:=j4
  have ux:ε.2.1.b.length=szB rs:=by rw[h.lr.b,hlen]
  have TW:ε.2.2.log.length=szB rs:=by rw[h.lr.log,hlen]
  have tM:gv ε=ba+szB rs:=by rw[gv,Dm,h.lr.base,ux];rfl
  have T1:v_ ε 0=ba+szB rs:=by rw[v_,aC rfl,tM]
  have hw:=cq 8 (gv ε)
  have abh:(le 8 (gv ε)++data).length≤72:=by rw[bY];omega
  have xH:(cI 8 0 0 0 (le 8 (gv ε)++data) []).length≤96:=by
   have h2:=wg (n:=0) (by decide)
   have h3:=wg (n:=([]:List cO).length) (by decide)
   have h4:=wg (n:=(le 8 (gv ε)++data).length) (by omega)
   simp only[cI,bY,bn,cr,List.flatMap_nil] at h2 h3 h4 abh ⊢
   omega
  have F_:=h.lr.base
  have ha:(gZ ε data).1.2=0∧gZ ε data=((ba+szB rs,0),(ε.2.1.app (dF ε.2.1 8 0 0 0 (le 8 (gv ε)++data) []),{ ε.2.2 with log:=ε.2.2.log++dF ε.2.1 8 0 0 0 (le 8 (gv ε)++data) [] })):=by
   rcases gW ε.2 8 0 0 0 (le 8 (gv ε)++data) [] with⟨e,he,xG,hq⟩|⟨_,hf,hq⟩|⟨_,hb,EM,hft,hf,hq⟩
   ·exfalso
    rcases xG with⟨_,hb⟩|⟨_,hb⟩|⟨_,hb⟩|⟨_,hb⟩
    ·exact absurd hb (by decide)
    ·omega
    ·rw[hd] at hb;cases hb
    ·rw[dF,jY] at hb;omega
   ·have:=iI.ec.dk.aU;omega
   ·rw[j0 iI.ec.dk.aU,F_,ux] at hq
    exact⟨by rw[gZ,hq],hq⟩
  obtain⟨ha0,KR⟩:=ha
  obtain⟨_,rok,J⟩:=h.lr.YO (kd:=8) (tx:=0) (pv:=0) (nx:=0) (data:=le 8 (gv ε)++data) (c:=[]) (by decide) (by decide) (by decide) (by decide) (by decide) ha0
  generalize XO:(⟨8,0,0,0,le 8 (gv ε)++data,[]⟩:dA)=rc at rok J
  have tO:rc.len≤104:=by rw[←XO];show 8+_≤104;exact sJ xH 8
  have J:LR ba ck mk (rs++[rc]) (gZ ε data).2:=J
  have Yk:=Bi rc
  have fV:szB (rs++[rc])=szB rs+rc.len:=by rw[gJ];simp[szB]
  have n1:(gZ ε data).1.1=ba+szB rs:=by rw[KR]
  have abi:(gZ ε data).2.1.forced=ε.2.1.forced:=by rw[KR];rfl
  have hF:jh (gZ ε data)=(0,({ (gZ ε data).2.1 with forced:=(gZ ε data).2.1.b.length },{ (gZ ε data).2.2 with bL:=(gZ ε data).2.2.log.length })):=by
   have e:(gZ ε data).2.2.fP=(0,{ (gZ ε data).2.2 with bL:=(gZ ε data).2.2.log.length }):=by
    rw[Dk.fP,aj (by rw[J.alive];decide),aj (by have:=J.aU;omega),j0 J.aU]
   rw[jh,n1,bG,aj (by rw[J.base,abi];omega),e,aj (by simp)]
  have I:LR ba ck mk (rs++[rc]) (jh (gZ ε data)).2:=(qS ba ck mk (rs++[rc])).force _ _ J
  have Hz:(jh (gZ ε data)).2.1.forced=szB rs+rc.len:=by rw[hF];show(gZ ε data).2.1.b.length=_;rw[J.b,j4,fV]
  have aae:(jh (gZ ε data)).2.2.bL=szB rs+rc.len:=by rw[hF];show(gZ ε data).2.2.log.length=_;rw[J.log,j4,fV]
  have HX:(jh (gZ ε data)).2.2.room=M:=by rw[hF,←A0,KR]
  have hF0:(jh (gZ ε data)).1=0:=by rw[hF]
  have YP:jh (gZ ε data)=(0,(jh (gZ ε data)).2):=by rw[←hF0]
  generalize (jh (gZ ε data)).2=x' at YP I Hz aae HX
  have rz:=I.base
  have Es:∀c,({ x'.1 with check:=c }:Lg).hasB (ba+szB rs)=true:=fun c=>by
   rw[Lg.hasB]
   show(x'.1.bh.any fun s=>decide (x'.1.base+s=ba+szB rs))=true
   rw[I.bh,rz,xu,List.any_append]
   simp[lH]
  have hm:x'.2.pU (eC ba (ba+szB rs))=(0,{ x'.2 with mark:=eC ba (ba+szB rs) }):=by
   rw[Dk.pU,aj (by rw[I.alive];decide),aj (by rw[pq];decide),aj (by have:=I.aU;omega),j0 I.aU]
  have hC:gO (gZ ε data)=(0,({ x'.1 with check:=ba+szB rs },{ x'.2 with mark:=eC ba (ba+szB rs) })):=by
   rw[gO,YP,n1,iu,aj (not_not_intro ⟨Es x'.1.check,by show ba+szB rs<x'.1.base+x'.1.forced;omega⟩),rz,hm,aj (by simp)]
  have aaf:logB ba (rs++[rc])=logB ba rs++logB (ba+szB rs) [rc]:=BQ
  have mI:(logB ba (rs++[rc])).drop (szB rs)=logB (ba+szB rs) [rc]:=by rw[aaf,vx hlen]
  have ab9:x'.1.b.length=szB rs+rc.len:=by rw[I.b,j4,fV]
  have abj:∀r∈[rc],r.Ok:=fun r hr=>by rw[List.mem_singleton.1 hr];exact rok
  cases hc with
  |app he=>exact absurd ha0 he
  |force _ he=>rw[YP] at he;exact absurd rfl he
  |check _ _ he=>rw[hC] at he;exact absurd rfl he
  |cut t _ _ _ ht acI hx =>
   rw[hC,T1] at hx
   have Fs:t=ba+szB rs:=hx (Es _) (by show ba+szB rs<x'.1.base+x'.1.b.length;omega)
   subst Fs
   have SL:gu (gO (gZ ε data)).2 (ba+szB rs)=(0,(({ x'.1 with check:=ba+szB rs }:Lg).cut (ba+szB rs),{ x'.2 with log:=x'.2.log.drop (szB rs),bL:=x'.2.bL-szB rs,mark:=eC (ba+szB rs) (ba+szB rs) })):=by
    have e1:({ x'.2 with mark:=eC ba (ba+szB rs) }:Dk).mY ((ba+szB rs-x'.1.base:Nat):Int) (eC (ba+szB rs) (ba+szB rs))=(0,{ x'.2 with log:=x'.2.log.drop (szB rs),bL:=x'.2.bL-szB rs,mark:=eC (ba+szB rs) (ba+szB rs) }):=by
     have hz:((ba+szB rs-x'.1.base:Nat):Int)=((szB rs:Nat):Int):=by omega
     have C1:({ x'.2 with mark:=eC ba (ba+szB rs) }:Dk).dc={ x'.2 with mark:=eC ba (ba+szB rs) }:=j0 I.aU
     rw[hz,Dk.mY,aj (by show ¬x'.2.dead=true;rw[I.alive];decide),aj (not_not_intro ⟨by omega,by show((szB rs:Nat):Int)≤(x'.2.bL:Int);omega,by rw[pq];decide⟩),aj (by show ¬x'.2.aU=0;have:=I.aU;omega),C1,b7]
    rw[hC,gu,aj,e1,aj (by simp)]
    rintro(⟨_,q⟩|q|⟨_,q⟩)
    ·rw[Es] at q;cases q
    ·have q:x'.1.base+x'.1.forced<ba+szB rs:=q
     omega
    ·have q:ba+szB rs<ba+szB rs:=q
     omega
   have abk:LR (ba+szB rs) (ba+szB rs) (eC (ba+szB rs) (ba+szB rs)) [rc] (gu (gO (gZ ε data)).2 (ba+szB rs)).2:=by
    rw[SL]
    refine⟨rfl,?_,MU rz I.bh,rfl,?_,I.alive,I.aU,rfl,I.qN,I.tail,I.wait,abj⟩
    ·show x'.1.b.drop (ba+szB rs-x'.1.base)=_
     rw[I.b,rz,vh,mI]
    ·show x'.2.log.drop (szB rs)=_
     rw[I.log,mI]
   refine⟨by rw[SL],rfl,n1,i2,rc,by omega,i1,abk,?_,fun n rec hn=>by have hn:lookL n ε.1.bu=some (rec,true):=hn;rw[Dm] at hn;cases hn⟩
   show(gu (gO (gZ ε data)).2 (ba+szB rs)).2.2.room=M
   rw[SL];exact HX
  |jP _ _ _ hx =>
   rw[hC,T1] at hx
   have:=hx (Es _) (by show ba+szB rs<x'.1.base+x'.1.b.length;omega)
   have:ba+szB rs≤x'.1.base:=this
   omega
structure WK (told:cC): Prop where
 w:W told
 kp:told 76=some (iA Tryz.prog 76 AP)
theorem IN (I:L[i]?=some (id,rr,A)): ((L.map fun e=>((e.1:Int),e.2.1)).map (·.1)).Nodup→lookL (id:Int) (L.map fun e=>((e.1:Int),e.2.1))=some rr:=by
 induction L generalizing i with
 |nil=>simp at I
 |cons y L ih =>
  intro J
  simp only[dQ,sN] at J
  simp only[dQ,lookL]
  cases i with
  |zero=>simp at I;subst I;rw[aC rfl]
  |succ i =>
   have I:L[i]?=some (id,rr,A):=by simpa using I
   have hm:(id:Int)∈(L.map fun e=>((e.1:Int),e.2.1)).map (·.1):=by
    rw[List.map_map];exact List.mem_map.2 ⟨_,bJ I,rfl⟩
   rw[aj (fun e=>J.1 (by rw[e];exact hm))]
   exact ih I J.2
theorem Sat.later (s:Sat h S)(I:h.next≤n): Sat ⟨n,h.tr⟩ S:=⟨fun id o J=>gQ (s.wf id o J) I,s.ok⟩
theorem EI.nP {c:List cO}(h:EI N B ε)(hw:NW N now)(I:jg now (aX now) ε e c ai): EI N B ai∧Sm N ε ai∧e=0:=by
 obtain⟨k1,k2,J⟩:=I.ec h.ec h.ok fun n hn=>hw.keys n (iy.1 hn)
 exact⟨⟨I.kI h.ok,k1,I.el h.el,cu I.bV h.bV⟩,⟨k2,fun P hP hv=>hP.ch I h.ec h.ok hv,I.bV⟩,J⟩
theorem SM {A':pH}(I:L[i]?=some (id,rr,A)): ((L.set i (id,rr,A')).map fun e=>((e.1:Int),e.2.1))=L.map fun e=>((e.1:Int),e.2.1):=by
 apply sL
 intro j
 rw[qp,qp,Dx]
 by_cases h:i=j
 ·subst h
  have hi:=(List.getElem?_eq_some_iff.1 I).1
  rw[aC rfl,aC hi,I];rfl
 ·rw[aj h]
def va (l:List Int)(k:Int): List Int:=if k∈l then l else l++[k]
def pH.more (A:pH)(aD cost:Nat)(ks:List Int): pH:=⟨if A.fst=0 then aD else A.fst,aD,aD,A.FD,A.dn++[(aD,cost)],ks.foldl va A.pg⟩
theorem P0 {k:Int}: ∀ {l:List Int},cW k () (l.map fun n=>(n,()))=(va l k).map fun n=>(n,()):=by
 intro l
 induction l with
 |nil=>rfl
 |cons x l J =>
  simp only[dQ,cW]
  by_cases h:x=k
  ·subst h;simp[va]
  ·rw[aj h,J]
   unfold va
   by_cases I:k∈l
   ·rw[aC I,aC (cU _ I)];rfl
   ·rw[aj I,aj (by rw[jI];rintro(q|q);exact h q.symm;exact I q)];rfl
theorem VL : ∃i,Tryz.prog.info? 185=some i∧i.size=2∧i.bytes≤4096 :=
 ⟨_,(show Tryz.prog.info? 185=some ((Tryz.prog.info? 185).getD default) by kernel_rfl),by kernel_rfl,of_decide_eq_true (by kernel_rfl)⟩
theorem MV {kd:Int}(hd:View h dv l): buildV Tryz.prog 104 [(0,.int .i64 kd),(1,.int .u64 (tx:Int)),(2,.int .u64 (pv:Int)),(4,dv)]=some (.agg (dK kd tx pv 0 dv .aV)):=by
 rcases hd.2 with⟨rfl|⟨I,rfl⟩,_⟩|⟨id,off,cap,n,cs,st,rfl,_⟩
 ·rw[sC];rfl
 ·rw[sC];rfl
 ·rw[sC];rfl
section
variable {told:cC} {p m kd:Nat}
theorem K8 (hT:WK told)(J:tY L)(s:Sat h (gM m a nx u L::S)): Call ⟨Tryz.prog,told⟩ 76 [.ptr m 0] h fun v h'=>v=.int .i64 (oB L:Int)∧Sat h' (gM m a nx u L::S):=by
 obtain⟨r,h1,h2⟩:=PX J s
 obtain⟨r,h3,h4⟩:=m5 h1 h2
 refine⟨r.1,r.2,fL.told hT.kp De rfl h3,?_⟩
 clear h1 h2 h3
 obtain⟨m',cs,aa3,es',abW,e1,g1,g2,g3,rfl⟩:=h4
 injection e1 with e1 _
 injection e1 with e1 _
 subst e1
 obtain⟨av,s1⟩:=fc.1 s
 obtain⟨mid,es,clock,rfl,hb,nX,s1⟩:=fG.1 (s1.ae [1])
 have e2:=oG (s1.row (k:=2) rfl) g1
 injection e2 with _ e2 _
 subst e2
 have g2:=b6 g2
 injection g2 with g2
 subst g2
 have e3:=oG (s1.row (k:=0) rfl) g3
 injection e3 with e3 e4
 have abl:∀ {l I:cn},l.map (iS .u64)=I.map (iS .u64)→l=I:=by
  intro l
  induction l with
  |nil=>intro I h;cases I with
   |nil=>rfl
   |cons _ _=>cases h
  |cons y l ih =>
   intro I h
   cases I with
   |nil=>cases h
   |cons z I =>
    simp only[dQ,DG] at h
    obtain⟨k1,k2⟩:=h
    obtain⟨y1,y2⟩:=y
    obtain⟨z1,z2⟩:=z
    simp only[iS,bz,V.int.injEq,true_and] at k1
    rw[ih k2,k1.1,k1.2]
 have e3:=abl e3
 subst e3
 obtain⟨qa,qb,q1,q2,q3⟩:=s1.at (k:=1) rfl
 have B6:∀(i:Nat) (x:Nat×Nat×pH),L[i]?=some x→costR h (.ptr x.2.1 0)=some (kM x,x.2.2.dn.length):=fun i x hx=>IK ((j3 hx).1 (s1.ae [3]))
 obtain⟨w1,_,_⟩:=IL (X:=S) J.1 q3 B6
 refine⟨by rw[w1];rfl,?_⟩
 exact s.later (by show h.next≤h.next+1+_;omega)
theorem uJ (hT:W told)(hB:B≤900)(h:TxI N B M ba ck mk rs ε)(lI:ba+szB rs≤1000000000)(hw:NW N now){l:Nat}(hL:now.length≤l)(J:l≤1000)(hN:N≤1024)(h1:1≤kd)(h2:kd≤7)(qi:tx<2097152)(r_:pv<2097152)(nQ:Dg<2097152)(hd:data.length≤9)(hf:szB rs+520*l+40≤M)
 {h:H}(s:Sat h (GA g a p q r cM aE now ε::X::S))(hX:cD X (cE dt data)):
  Call ⟨Tryz.prog,told⟩ 50 [.ptr g 0,.agg (dK (kd:Int) tx pv Dg dt .aV)] h fun v h'=>∃c ai aD,aD=ba+szB rs∧v=.aO [.int .u64 (aD:Int),.int .i64 0]∧(∀m,pgA ai m=match lookL m now with|some b=>c_ b aD|none=>pgA ε m) ∧
   (dA.mk kd tx pv Dg data c).len≤520*l+40∧TxI N (B+2) M ba ck mk (rs++[⟨kd,tx,pv,Dg,data,c⟩]) ai∧Sat h' (eE g a now true::SA a p q r .aZ cM aE ai::X::S):=by
 rename_i I
 have uV:=I.ei.bV
 have eH:ε.2.1.base+ε.2.1.b.length≤B*1048600:=I.ei.el.size
 have s:=bg.1 s
 have s:Sat h (eE g a now false::c7 a p q r (.ptr g 0) cM aE::cL r p q ε.1::bx q p ε.2.1::aJ p ε.2.2::X::S):=s
 have s:=s.mU (k:=4)
 refine(KJ (pZ:=0) (kd:=(kd:Int)) (tx:=tx) (pv:=pv) (nx:=Dg) (data:=data) hT (s.ae [1,1,1,1,1,1,0]) hX rfl I.ei.ok (by omega) (fun e he=>gI (hw.good e he).1) (by have:=hw.len;omega) (fun n hn=>by have:=hw.keys n hn;omega) (by omega) (by omega) (by omega) (by omega) I.ei.el.log (by omega)).mono ?_
 rintro v h ⟨aD,e,cl,ai,hr,rfl,s⟩
 obtain⟨rfl,rfl,rfl,fS,c,hlen,hi⟩:=I.done hr (by omega) hw hL J hN h1 h2 qi r_ nQ hd hf
 have s:Sat h (SA a p q r .aZ cM aE ai::eE g a now true::X::S):=bg.2 (s.ae [1,1,1,1,0,0])
 exact⟨c,ai,_,rfl,rfl,fS,hlen,hi,s.ae [1]⟩
noncomputable def mnL : Code:=cm [1,1,1,1,1,1,1,1,1,1,1,1,1,1,1,1,1,0,1,0,0] ((Tryz.f41.body).getD .skip)
theorem SN (hT:W told){pv:V}(hk:ks.length≤1000){l:Nat}: ∀(j i:Nat) (pg:List Int) (h:H) (E:List (Nat×V)) (Q:Ex→List (Nat×V)→H→Prop),i+j=ks.length →
  Sat h (pt rr (.cells 7 (lP id f l n mv dv pv) false)::u9 pv pg::.arr 1 kv (dy ks)::S)→Has E [(9,.ptr rr 0),(135,kv),(136,.int .i64 (ks.length:Int)),(137,.int .i64 (i:Int))] →
  (∀E' h',Sat h' (pt rr (.cells 7 (lP id f l n mv dv pv) false)::u9 pv ((ks.drop i).foldl va pg)::.arr 1 kv (dy ks)::S)→Q (.exit 2) E' h') →
  WP ⟨Tryz.prog,told⟩ 148 (.loop mnL) E h Q:=by
 intro j
 induction j with
 |zero =>
  intro i pg h E Q hi s hE I
  rw[List.drop_of_length_le (by omega)] at I
  refine WP.loop (WP.has hE (zg rfl (zC rfl aT (by simp;omega) ?_)))
  exact zk 3 rfl (WP.exit (I _ _ s))
 |succ j ih =>
  intro i pg h E Q hi s hE I
  obtain⟨k,J⟩:∃k,ks[i]?=some k:=⟨_,bw (by omega)⟩
  have PJ:ks.drop i=k::ks.drop (i+1):=by
   obtain⟨h1,h2⟩:=List.getElem?_eq_some_iff.1 J
   rw[oK h1,h2]
  rw[PJ,List.foldl_cons] at I
  obtain⟨Dj,off,e1,e2⟩:=iH (P:=Tryz.prog) s (k:=2) (i:=i) (c:=.int .i64 k) rfl (by rw[dy,qp,J];rfl) dW j6
  refine WP.loop (WP.has hE (zg rfl (zB rfl aT (by simp;omega) ?_)))
  refine zk 5 rfl (WP.block (zg rfl (zo rfl (cZ (r:=.ptr Dj off) rfl rfl e1) (zl rfl (e2 _ dV) (zk 5 rfl (zY s 0 D7 LS rfl (zm rfl (zo rfl (cx rfl (by rw[ZD];rfl)) ?_))))))))
  refine au.gY rfl rfl (OpR.mapUpdate rfl rfl rfl rfl (lU (n:=k) (f:=fun v (_:Unit)=>.pu (v=.agg [])) (x:=()) (fun _ _=>bC.pu _) ((s.ae [1]).gh rfl) Iy bF)) ?_
  intro _ h s
  rw[P0] at s
  have s:Sat h (u9 pv (va pg k)::_):=s
  have s:=s.ae [1,0]
  dsimp only[lP,aK,bringA,getA] at s
  refine zv (zr rfl (zb rfl (by exact aW (az (by omega) (by omega))) ?_))
  refine zm rfl (zv ?_)
  exact ih (i+1) _ _ _ Q (by omega) s ⟨rfl,rfl,rfl,rfl,aa⟩ I
noncomputable def mnU : Code:=cm [1,1,1,1,1,1,1,1,1,1,1,1,1,1,1] ((Tryz.f41.body).getD .skip)
theorem P3 (hT:W told){pv:V}(hk:ks.length≤1000){f0:Nat}(m9:A.dn.length≤1000)(s:Sat h (pt rr (.cells 7 (lP id f0 A.fg A.kV mv dv pv) false)::.arr 1 mv (II A.FD)::.arr 2 dv (l9 A.dn)::u9 pv A.pg::.arr 1 kv (dy ks)::S))(hE:Has E [(9,.ptr rr 0),(19,.int .i64 (cost:Int)),(20,kv),(21,.int .u64 (aD:Int))])
 (hq:∀E' h',look E' 8=some (.int .i64 0)→Sat h' (qc rr id ⟨f0,aD,aD,A.FD,A.dn++[(aD,cost)],ks.foldl va A.pg⟩::.arr 1 kv (dy ks)::S)→Q .ret E' h'): WP ⟨Tryz.prog,told⟩ 148 mnU E h Q:=by
 obtain⟨i1,J,jd,tK⟩:=VL
 refine WP.has hE (zK 7 rfl (zf rfl (sZ _ _) (zS rfl (s.dO (k:=0) rfl mS rfl (show 0+2<7 by decide) rfl rfl) ?_)))
 intro h s
 refine zn rfl (zf rfl (qC _ _) (zS rfl (s.dO (k:=0) rfl mS rfl (show 0+3<7 by decide) rfl rfl) ?_))
 intro h s
 refine zk 6 rfl (zY s 0 qD Cs rfl (zk 2 rfl (zo rfl (cx (r:=.agg [.int .u64 (aD:Int),.int .i64 (cost:Int)]) rfl (by rw[ZE];rfl)) ?_)))
 obtain⟨xv,h1,e1,s1⟩:=kj (P:=Tryz.prog) (k:=2) (x:=.agg [.int .u64 (aD:Int),.int .i64 (cost:Int)]) s kK Ct sE rfl (by decide) (by decide) rfl rfl
 obtain⟨w,h2,e2,s2⟩:=g_ (s1.ae [3,0]) kK J Ct jd tK rfl (by decide) (by rw[kn];simp[V.cells];omega)
 refine au.any rfl rfl rfl (OpR.of (R:=fun v h'=>v=xv∧h'=h1) (mC rfl e1) ⟨rfl,rfl⟩) ?_
 rintro xv h1 ⟨rfl,rfl⟩
 refine au.any rfl rfl rfl (OpR.of (R:=fun v h'=>v=w∧h'=h2) (ox rfl rfl e2) ⟨rfl,rfl⟩) ?_
 rintro w h2 ⟨rfl,rfl⟩
 have s:=s2.del 1
 have I:=s.jk (j:=0) rfl
 refine zn rfl (zf rfl (qD _ _) (zS rfl (s.dO (k:=1) rfl TH rfl (show 0+5<7 by decide) I.1 I.2.1) ?_))
 intro h s
 have s:Sat h (.arr 2 w (l9 A.dn++[.int .u64 (aD:Int),.int .i64 (cost:Int)])::pt rr (.cells 7 (lP id f0 aD aD mv w pv) false)::_):=s
 have s:=s.ae [1,2,2,0,0]
 refine zk 5 rfl (zo rfl (a_ rfl rfl rfl (s.fN (n:=ks.length) (j:=2) rfl (by rw[dy,eL,ig]) (by decide) dW)) ?_)
 refine zk 2 rfl (WP.block (SN hT hk ks.length 0 _ _ _ _ (by omega) s ⟨rfl,rfl,rfl,rfl,aa⟩ fun E' h' s' => ?_))
 have s:=s'
 rw[gE] at s
 refine WP.has (F:=[]) aa (zK 4 rfl (WP.ret (hq _ _ rfl ?_)))
 have s:=s.ae [0,3,2,0,0]
 exact kT.2 ⟨mv,w,pv,by rw[VG];exact s⟩
noncomputable def mnF : Code:=cm [1,1,1,1,1,1,1,0,1,0,0] ((Tryz.f41.body).getD .skip)
noncomputable def mnT : Code:=cm [1,1,1,1,1,1,1,1,1] ((Tryz.f41.body).getD .skip)
theorem SO : ∀c:List cO,partsL c≤3*(c.flatMap jl).length:=by
 intro c
 induction c with
 |nil=>simp[partsL]
 |cons x c I =>
  have J:=xw (k:=9) (n:=x.bj.toNat)
  have h2:=xw (k:=9) (n:=x.pos.toNat)
  have h3:=xw (k:=9) (n:=x.b.length)
  simp only[partsL,qq,bY,jl,bn,cr]
  split<;>omega
theorem SP (hT:W told){pv v0 v2 v10 v11 I:V}{pg:List Int}(hk:ks.length≤1000){l:Nat}: ∀(j i fr:Nat) (h:H) (E:List (Nat×V)) (Q:Ex→List (Nat×V)→H→Prop),i+j=ks.length→fr≤i →
  Sat h (pt rr (.cells 7 (lP id f l n mv dv pv) false)::u9 pv pg::.arr 1 kv (dy ks)::S)→Has E [(0,v0),(2,v2),(9,.ptr rr 0),(10,v10),(11,v11),(12,I),(14,.int .i64 (fr:Int)),(50,kv),(51,.int .i64 (ks.length:Int)),(52,.int .i64 (i:Int))] →
  (∀E' h' J,J≤ks.length→Has E' [(0,v0),(2,v2),(9,.ptr rr 0),(10,v10),(11,v11),(12,I),(14,.int .i64 (J:Int))]→Sat h' (pt rr (.cells 7 (lP id f l n mv dv pv) false)::u9 pv pg::.arr 1 kv (dy ks)::S)→Q (.exit 0) E' h') →
  WP ⟨Tryz.prog,told⟩ 148 (.loop mnF) E h Q:=by
 intro j
 induction j with
 |zero =>
  intro i fr h E Q hi EG s hE hq
  refine WP.loop (WP.has hE (zg rfl (zC rfl aT (by simp;omega) ?_)))
  exact zk 3 rfl (WP.exit (hq _ _ fr (by omega) ⟨rfl,rfl,rfl,rfl,rfl,rfl,rfl,aa⟩ s))
 |succ j ih =>
  intro i fr h E Q hi EG s hE hq
  obtain⟨k,xA⟩:∃k,ks[i]?=some k:=⟨_,bw (by omega)⟩
  obtain⟨Dj,off,e1,e2⟩:=iH (P:=Tryz.prog) s (k:=2) (i:=i) (c:=.int .i64 k) rfl (by rw[dy,qp,xA];rfl) dW j6
  obtain⟨bb,hl⟩:∃bb,dZ Tryz.prog h 146 pv (.int .i64 k) true=some (.aO [.agg [],.bool bb]):=by
   rcases kE (n:=k) (fun _ _=>bC.pu _) (s.ae [1]) Iy bF TI with⟨_,g2,_⟩|⟨uu,y,_,g2,_,s'⟩
   ·exact⟨_,g2⟩
   ·obtain⟨eu,_⟩:=ob.1 s'
    exact⟨_,by rw[g2,eu]⟩
  refine WP.loop (WP.has hE (zg rfl (zB rfl aT (by simp;omega) ?_)))
  refine zk 5 rfl (WP.block (zg rfl (zo rfl (cZ (r:=.ptr Dj off) rfl rfl e1) (zl rfl (e2 _ dV) (zk 6 rfl (zY s 0 D7 LS rfl (zm rfl (zo rfl (fY rfl rfl hl) (zk 3 rfl ?_)))))))))
  refine au.bP s rfl rfl rfl (bR TI) (fun p17 h s => ?_)
  dsimp only[V.cells,List.length_nil,lP] at s
  refine zS rfl (s.fM (j:=0) rfl ZC rfl rfl) ?_
  intro h s
  dsimp only[setA] at s
  refine zk 5 rfl (zo rfl (dM rfl rfl) (zv ?_))
  cases bb with
  |true =>
   refine zj rfl (WP.skip (zr rfl (zb rfl (by exact aW (az (by omega) (by omega))) ?_)))
   refine zm rfl (zv ?_)
   exact ih (i+1) fr _ _ Q (by omega) (by omega) s.drop ⟨rfl,rfl,rfl,rfl,rfl,rfl,rfl,rfl,rfl,rfl,aa⟩ hq
  |false =>
   refine zK 3 rfl (zo rfl (aq (r:=.int .i64 ((fr+1:Nat):Int)) rfl rfl (by rw[show((fr+1:Nat):Int)=(fr:Int)+1 by omega];exact aW (az (by omega) (by omega)))) ?_)
   refine za rfl (zv (zr rfl (zb rfl (by exact aW (az (by omega) (by omega))) ?_)))
   refine zm rfl (zv ?_)
   exact ih (i+1) (fr+1) _ _ Q (by omega) (by omega) s.drop ⟨rfl,rfl,rfl,rfl,rfl,rfl,rfl,rfl,rfl,rfl,aa⟩ hq
theorem VM (hT:WK told)(hB:B≤900)(hI:TxI N B M ba ck mk rs ε)(xx:1≤ba)(lI:ba+szB rs≤1000000)(hN:N≤1024)(jD:tY L)(hx:L[i]?=some (id,rr,A)){k:Nat}{b:List Nat}(I:now=[((k:Int),b)])(hw:NW N now)(jS:id<2097152)(rZ:A.fg<2097152)(hd:data.length≤9)(m9:A.dn.length≤1000)
 (ua:szB rs+7300+oB L≤M)(hM:M≤16777216){sz pl fr w:Nat}(eH:sz≤560)(Tk:pl≤1560)(EG:fr≤9)(s:Sat h (gM m a nx u L::GA g a p q r cM aE now ε::X::pt w (.cells 6 (dK (1:Nat) id A.fg 0 dt .aV) false)::S))(hX:cD X (cE dt data))
 {E:List (Nat×V)}{Q:Ex→List (Nat×V)→H→Prop}(hE:Has E [(0,.ptr m 0),(2,.ptr g 0),(9,.ptr rr 0),(10,.ptr w 0),(11,.int .i64 (sz:Int)),(12,.int .i64 (pl:Int)),(14,.int .i64 (fr:Int))])
 (hq:∀E' h' c ai aD,look E' 8=some (.int .i64 0)→aD=ba+szB rs→(∀m,pgA ai m=match lookL m now with|some b=>c_ b aD|none=>pgA ε m)→(dA.mk 1 id A.fg 0 data c).len≤560→TxI N (B+2) M ba ck mk (rs++[⟨1,id,A.fg,0,data,c⟩]) ai →
   Sat h' (gM m a nx u (L.set i (id,rr,A.more aD (pl+96) [(k:Int)]))::eE g a now true::SA a p q r .aZ cM aE ai::X::S)→Q .ret E' h'): WP ⟨Tryz.prog,told⟩ 148 mnT E h Q:=by
 have hW:=hT.w
 have sA:∀n∈now.map (·.1),(Lit.int .i64 n).wf=true:=fun n hn=>by have:=hw.keys n hn;exact wf_i64 (by omega) (by omega)
 have hb:ε.2.1.b.length=szB rs:=by rw[hI.lr.b,j4]
 have EZ:=hI.lr.base
 have A0:=hI.rm
 obtain⟨av,s⟩:=fc.1 s
 refine WP.has hE (zK 3 rfl (zo rfl (aq (r:=.int .i64 ((pl+96:Nat):Int)) rfl rfl (by rw[show((pl+96:Nat):Int)=(pl:Int)+96 by omega];exact aW (az (by omega) (by omega)))) ?_))
 refine zk 7 rfl (zY s 0 lC lB rfl ?_)
 have s0:Sat h (gM m a nx u L::GA g a p q r cM aE now ε::X::pt w (.cells 6 (dK (1:Nat) id A.fg 0 dt .aV) false)::S):=fc.2 ⟨av,s⟩
 refine zc rfl (IE (μ:=ε.2.1) (δ:=ε.2.2) hW (by omega) (by omega) ((bg.1 (s0.ae [1])).ae [1,2,2])) ?_
 rintro v h' ⟨rfl,rfl⟩
 rw[hb,A0]
 refine zk 2 rfl (zo rfl (aq (r:=.int .i64 ((sz+(pl+96):Nat):Int)) rfl rfl (by rw[show((sz+(pl+96):Nat):Int)=(sz:Int)+((pl+96:Nat):Int) by omega];exact aW (az (by omega) (by omega)))) ?_)
 refine zm rfl (zo rfl (aq (r:=.int .i64 ((560*fr:Nat):Int)) rfl rfl (by rw[show((560*fr:Nat):Int)=560*(fr:Int) by omega];exact iE (az (by omega) (by omega)))) ?_)
 refine zo rfl (aq (r:=.int .i64 ((sz+(pl+96)+560*fr:Nat):Int)) rfl rfl (by rw[show((sz+(pl+96)+560*fr:Nat):Int)=((sz+(pl+96):Nat):Int)+((560*fr:Nat):Int) by omega];exact aW (az (by omega) (by omega)))) ?_
 refine zm rfl (zc rfl (K8 hT jD s0) ?_)
 rintro v h ⟨rfl,s⟩
 refine zo rfl (aq (r:=.int .i64 ((sz+(pl+96)+560*fr+oB L:Nat):Int)) rfl rfl (by rw[show((sz+(pl+96)+560*fr+oB L:Nat):Int)=((sz+(pl+96)+560*fr:Nat):Int)+(oB L:Int) by omega];exact aW (az (by omega) (by omega)))) ?_
 refine zC rfl aT (by simp;omega) ?_
 refine zk 6 rfl ?_
 have s:=bg.1 (s.ae [1])
 have s:Sat h (eE g a now false::_):=s
 refine zc rfl (yV hW s (by rw[I];simp) sA) ?_
 rintro kv h s
 have Fu:aX now=[(k:Int)]:=by rw[I];rfl
 rw[Fu] at s
 refine zk 5 rfl (zl rfl (s.cK (k:=8) rfl ju fe) ?_)
 have s:=s.ae [1,1,1,1,1]
 have s:Sat h (GA g a p q r cM aE now ε::_):=bg.2 s
 have s:=s.ae [0,2]
 refine zc rfl (uJ (kd:=1) (l:=1) hW hB hI (by omega) hw (by rw[I];simp) (by decide) hN (by decide) (by decide) jS rZ (by decide) hd (by omega) s hX) ?_
 rintro v h ⟨c,ai,aD,IP,rfl,fS,hlen,jQ,s⟩
 refine zk 10 rfl (zC rfl aA (rfl) ?_)
 obtain⟨nR,s⟩:=fc.1 (s.ae [4])
 have s:=(j3 hx).1 (s.ae [2])
 obtain⟨mv,dv,pv,s⟩:=kT.1 s
 have s:=s.ae [0,0,0,0,6]
 refine zk 8 rfl (zY s 0 Ko cS rfl ?_)
 have hlen:(dA.mk 1 id A.fg 0 data c).len≤560:=by omega
 have fin:∀ {f0:Nat} {E':List (Nat×V)} {h:H},f0=(if A.fst=0 then aD else A.fst)→look E' 8=some (.int .i64 0)→Sat h (qc rr id ⟨f0,aD,aD,A.FD,A.dn++[(aD,pl+96)],[(k:Int)].foldl va A.pg⟩::.arr 1 kv (dy [(k:Int)])::kL (L.eraseIdx i)::pt m (.cells 4 [.ptr a 0,u,nR,.int .u64 (nx:Int)] false)::j_ .u64 (fun v (r:Nat)=>.pu (v=.ptr r 0)) nR (L.map fun e=>((e.1:Int),e.2.1))::eE g a now true::SA a p q r .aZ cM aE ai::X::pt w (.cells 6 (dK (1:Nat) id A.fg 0 dt .aV) false)::S)→Q .ret E' h:=by
  intro f0 E' h T9 J s
  subst T9
  refine hq E' h c ai aD J IP fS hlen jQ ?_
  have s:=s.ae [0,1]
  have s:Sat h (kL (L.set i (id,rr,A.more aD (pl+96) [(k:Int)]))::_):=(SH (x':=(id,rr,A.more aD (pl+96) [(k:Int)])) hx).1 s
  have s:=s.ae [2,2,0,1,1,1]
  rw[←SM (A':=A.more aD (pl+96) [(k:Int)]) hx] at s
  exact((fc.2 ⟨nR,s⟩).del 5).del 4
 by_cases hf:A.fst=0
 ·skip
  refine zB rfl dh (by simp[hf]) ?_
  refine zk 6 rfl (zf rfl (Ko _ _) (zS rfl (s.dO (k:=0) rfl mS rfl (show 0+1<7 by decide) rfl rfl) ?_))
  intro h s
  refine zv (P3 (f0:=aD) (A:=A) hW (ks:=[(k:Int)]) (by simp) m9 s ⟨rfl,rfl,rfl,rfl,aa⟩ fun E' h' J s' => ?_)
  exact fin (by rw[aC hf]) J s'
 ·skip
  refine zC rfl dh (by simp;omega) ?_
  refine zk 3 rfl (P3 (f0:=A.fst) (A:=A) hW (ks:=[(k:Int)]) (by simp) m9 s ⟨rfl,rfl,rfl,rfl,aa⟩ fun E' h' J s' => ?_)
  exact fin (by rw[aj hf]) J s'
theorem SQ (hT:WK told)(hB:B≤900)(hI:TxI N B M ba ck mk rs ε)(xx:1≤ba)(lI:ba+szB rs≤1000000)(hN:N≤1024)(jD:tY L)(hx:L[i]?=some (id,rr,A)){b:List Nat}(I:now=[((k:Int),b)])(hw:NW N now)(jS:id<2097152)(rZ:A.fg<2097152)(hd:data.length≤9)(m9:A.dn.length≤1000)
 (ua:szB rs+7300+oB L≤M)(hM:M≤16777216)(s:Sat h (gM m a nx u L::GA g a p q r cM aE now ε::X::S))(hX:cD X (cE dt data)):
  Call ⟨Tryz.prog,told⟩ 41 [.ptr m 0,.int .u64 (id:Int),.ptr g 0,dt] h fun v h'=>∃c cost ai aD,aD=ba+szB rs∧v=.int .i64 0∧(∀m,pgA ai m=match lookL m now with|some b=>c_ b aD|none=>pgA ε m)∧(dA.mk 1 id A.fg 0 data c).len≤560∧cost≤1656 ∧
   TxI N (B+2) M ba ck mk (rs++[⟨1,id,A.fg,0,data,c⟩]) ai∧Sat h' (gM m a nx u (L.set i (id,rr,A.more aD cost [(k:Int)]))::eE g a now true::SA a p q r .aZ cM aE ai::X::S):=by
 have hW:=hT.w
 have iJ:=s.aI (k:=2) rfl hX
 have fW:(V.agg (dK (1:Nat) id A.fg 0 dt .aV)).cells.all storable=true:=lF iJ.cells.2 rfl
 obtain⟨av,s⟩:=fc.1 s
 have s:=s.ae [1]
 obtain⟨mid,es,clock,e0,hb,nX,_⟩:=fG.1 s
 have Fw:=IN hx nX
 obtain⟨uu,y,hy,_,iQ,s⟩:∃uu y,lookL (id:Int) (L.map fun e=>((e.1:Int),e.2.1))=some y∧dZ Tryz.prog h 142 av (.int .u64 (id:Int)) true=some (.aO [uu,.bool true])∧dZ Tryz.prog h 142 av (.int .u64 (id:Int)) false=some uu∧Sat h (.pu (uu=.ptr y 0)::j_ .u64 (fun v (r:Nat)=>.pu (v=.ptr r 0)) av (L.map fun e=>((e.1:Int),e.2.1))::_):=by
  rcases kE (n:=(id:Int)) (fun _ _=>bC.pu _) s rT bM TG with⟨g1,_⟩|⟨uu,y,g1,g2,g3,s'⟩
  ·rw[Fw] at g1;cases g1
  ·exact⟨uu,y,g1,g2,g3,s'⟩
 obtain⟨eu,s'⟩:=ob.1 s
 subst eu
 rw[Fw] at hy
 obtain rfl:=b6 hy
 have s:=s'
 have s:=(j3 hx).1 (s.ae [2])
 obtain⟨mv,dv,pv,s⟩:=kT.1 s
 -- [act's row, marks, done, pages, others, map, manager's row, group .., X]
 refine Call.of_wp (hW.free _ rfl) Tryz.func41 rfl rfl (zK 8 rfl (zY s 6 my pQ rfl (zm rfl (zo rfl (fY rfl rfl iQ) (zk 6 rfl (zC rfl (uB Df) (rfl) (zk 8 rfl (zY s 0 sZ cS rfl (zm rfl (zo rfl (cx (r:=.agg (dK (1:Nat) id A.fg 0 dt .aV)) rfl (MV iJ)) ?_))))))))))
 refine au.bP s rfl rfl rfl (bR pP) (fun Oz h s => ?_)
 refine zS rfl (s.fM (j:=0) rfl fe rfl fW) ?_
 intro h s
 refine zk 4 rfl (zl rfl (s.cK (k:=0) rfl ju fe) ?_)
 have s:=bg.1 (s.ae [8])
 have s:Sat h (eE g a now false::c7 a p q r (.ptr g 0) cM aE::cL r p q ε.1::bx q p ε.2.1::aJ p ε.2.2::_):=s
 have J:∀n∈now.map (·.1),0≤n∧n<65536:=fun n hn=>by have:=hw.keys n hn;omega
 have uV:=hI.ei.bV
 refine zc rfl (SD (kd:=(1:Nat)) (nx:=0) hW hI.ei.ok (by omega) (fun e he=>gI (hw.good e he).1) (by rw[I];simp) J (by omega) (by omega) (by omega) (by omega) (s.ae [0,0,0,0,0,8]) hX) ?_
 rintro v h ⟨e,c,oJ,hc,Di,s⟩
 obtain⟨jX,fV,A4⟩:=hI.ei.nP hw hc
 have hnl:(aX now).length=1:=by rw[I];rfl
 have ux:=zG (kd:=((1:Nat):Int)) (tx:=id) (pv:=A.fg) (nx:=0) (data:=data) (L:=1) hc hw (by rw[I];simp) (by omega) jS rZ (by decide) hd
 have Tk:=SO c
 have hfw:=hc.Ys hw fun n hm=>by have:=hw.keys n (iy.1 hm);omega
 rw[hnl] at hfw
 have aag:dN ((1:Nat):Int) c=true:=BJ ⟨by decide,by decide⟩ (hc.fit (fun x hx=>gI (hw.good x hx).1) fun n hq=>by have:=J n (iy.1 hq);omega)
 have uK:TxI N B M ba ck mk rs oJ:=hI.sm jX fV
 have YQ:∀m,pgA oJ m=pgA ε m:=fV.1
 obtain⟨sz,eH,rfl⟩:∃sz:Nat,sz≤560∧v=.aO [.int .i64 (sz:Int),.int .i64 (partsL c:Int),.int .i64 0]:=by
  rcases Di with⟨h1,_⟩|⟨_,h1,_⟩|⟨_,h1,_⟩|⟨_,h1⟩
  ·exact absurd A4 h1
  ·rw[aag] at h1;cases h1
  ·omega
  ·exact⟨_,by omega,h1⟩
 generalize partsL c=pl at *
 refine zk 12 rfl (zC rfl aA (rfl) (zk 11 rfl (zc rfl (yV hW s (by rw[I];simp) (fun n hn=>by have:=J n hn;exact wf_i64 (by omega) (by omega))) ?_)))
 rintro kv h s
 have Fu:aX now=[(k:Int)]:=by rw[I];rfl
 rw[Fu] at s
 refine zo rfl (a_ rfl rfl rfl (s.fN (n:=1) (j:=0) rfl (by simp[dy]) (by decide) dW)) ?_
 refine zk 2 rfl (WP.block ?_)
 have s:=s.ae [8,10,0]
 refine SP (ks:=[(k:Int)]) (l:=A.fg) (n:=A.kV) hW (by simp) 1 0 0 _ _ _ rfl (aQ _) s ⟨rfl,rfl,rfl,rfl,rfl,rfl,rfl,rfl,rfl,rfl,aa⟩ fun E' h' fr EG eS s' => ?_
 have s:=s'
 have EG:fr≤1:=EG
 refine WP.has eS ?_
 have fin:∀ {h:H},Sat h (pt rr (.cells 7 (lP id A.fst A.fg A.kV mv dv pv) false)::u9 pv A.pg::.arr 1 kv (dy [(k:Int)])::eE g a now false::c7 a p q r (.ptr g 0) cM aE::cL r p q oJ.1::bx q p oJ.2.1::aJ p oJ.2.2::X::pt Oz (.cells 6 (dK (1:Nat) id A.fg 0 dt .aV) false)::.arr 1 mv (II A.FD)::.arr 2 dv (l9 A.dn)::kL (L.eraseIdx i)::j_ .u64 (fun v (r:Nat)=>.pu (v=.ptr r 0)) av (L.map fun e=>((e.1:Int),e.2.1))::pt m (.cells 4 [.ptr a 0,u,av,.int .u64 (nx:Int)] false)::S) →
   Sat h (gM m a nx u L::GA g a p q r cM aE now oJ::X::pt Oz (.cells 6 (dK (1:Nat) id A.fg 0 dt .aV) false)::S):=by
  intro h s
  have s:=s.ae [0,9,9,0]
  have s:=kT.2 ⟨mv,dv,pv,s⟩
  have s:=s.ae [0,8]
  have s:=(j3 hx).2 s
  have s:=s.ae [10,9,0]
  have s:=fc.2 ⟨av,s⟩
  have s:=s.ae [2,2,2,2,2]
  have s:Sat h (GA g a p q r cM aE now oJ::_):=bg.2 s
  exact((s.ae [1,0,1,1]).del 4)
 have tail:=fun {fr h E Q} (EG:fr≤9) s hE hq=>VM (h:=h) (fr:=fr) (E:=E) (Q:=Q) hT hB uK xx lI hN jD hx I hw jS rZ hd m9 ua hM eH (show pl≤1560 by omega) EG (fin s) hX hE hq
 refine zK 5 rfl (zY s 0 qD Cs rfl (zo rfl (a_ rfl rfl rfl (s.fN (n:=A.dn.length) (j:=11) rfl (kn _) (by decide) kK)) ?_))
 by_cases TM:A.dn=[]
 ·skip
  refine zB rfl dh (by simp[TM]) ?_
  refine zk 4 rfl (zo rfl (aq (r:=.int .i64 ((fr+8:Nat):Int)) rfl rfl (by rw[show((fr+8:Nat):Int)=(fr:Int)+8 by omega];exact aW (az (by omega) (by omega)))) ?_)
  exact zk 2 rfl (tail (by omega) s ⟨rfl,rfl,rfl,rfl,rfl,rfl,rfl,aa⟩ fun E' h' c ai aD eS IP fS hlen jQ s'=>⟨aa,_,lR eS,c,pl+96,ai,aD,IP,rfl,fun m=>by rw[fS m,YQ m],hlen,by omega,jQ,s'⟩)
 ·have h1:0<A.dn.length:=List.length_pos_iff.2 TM
  refine zC rfl dh (by simp;omega) ?_
  exact zk 3 rfl (tail (by omega) s ⟨rfl,rfl,rfl,rfl,rfl,rfl,rfl,aa⟩ fun E' h' c ai aD eS IP fS hlen jQ s'=>⟨aa,_,lR eS,c,pl+96,ai,aD,IP,rfl,fun m=>by rw[fS m,YQ m],hlen,by omega,jQ,s'⟩)
end
abbrev P4 := List V→H→V×H→Prop
noncomputable def toldP (l:List (Nat×P4))(base:Nat→Option (List V→H→Option (V×H)))(f:Nat): Option (List V→H→Option (V×H)) :=
 match l with
 |[]=>base f
 |x::l=>cond (Nat.beq f x.1) (some (iA Tryz.prog x.1 x.2)) (toldP l base f)
theorem K9 {l:List (Nat×P4)}(h:∀x∈l,inL Hr x.1=true∧x.1≠217∧x.1≠106): W (toldP l oA):=by
 induction l with
 |nil=>exact W.base
 |cons x l I =>
  have I:=I fun y hy=>h y (cU _ hy)
  obtain⟨h1,h2,h3⟩:=h x c8
  refine⟨fun f J => ?_,?_,?_⟩
  ·have:f≠x.1:=fun e=>by subst e;rw[h1] at J;cases J
   simp only[toldP,eD this,aL];exact I.free f J
  ·simp only[toldP,eD (jL h2),aL];exact I.more
  ·simp only[toldP,eD (jL h3),aL];exact I.sorted
theorem IQ {l : List (Nat × P4)} (h : ∀ x ∈ l, ∃ fn, Tryz.prog.funcs[x.1]? = some fn ∧ fn.body.isSome = true ∧ (fn.name == "runtime.NumGoroutine") = false) : ep ⟨Tryz.prog, toldP l oA⟩ := by
 induction l with
 | nil => exact c6
 | cons x l J =>
  have J := J fun y hy => h y (cU _ hy)
  intro f g I
  simp only [toldP] at I
  by_cases h1 : f = x.1
  ·subst h1
   rw [rV rfl, ah] at I
   simp only [ay] at I
   subst I
   exact OW (h x c8)
  ·rw [eD h1, aL] at I
   exact J f g I
def MW (C:eO)(f:FuncId)(args:List V)(h:H)(r:V×H): Prop:=∃I,∀N,I≤N→toldDefer C N f args h=some r
theorem Call.YR {told:cC}{f:FuncId}{R:V→H→Prop}(hP:C.P=Tryz.prog)(hC:ep C)(ht:told f=some (iA Tryz.prog f (MW C f)))(hf:Tryz.prog.funcs[f]?=some fn)(hb:fn.body.isSome=true)
 (hd:∃v I,(∃J,∀N,J≤N→toldDefer C N f args h=some (v,I))∧R v I): Call ⟨Tryz.prog,told⟩ f args h R:=by
 obtain⟨v,I,⟨J,h0⟩,hR⟩:=hd
 obtain⟨r,e1,N1,h1⟩:=m5 (P:=Tryz.prog) (f:=f) (jG:=MW C f) (args:=args) (h:=h) (r:=(v,I)) ⟨J,h0⟩ (fun c w pK hw=>hP ▸ yu (C:=C) (hP ▸ ew) hC (h0 J (aQ _)) pK hw)
 have:r=(v,I):=by
  have a:=h0 (max J N1) (by omega)
  have b:=h1 (max J N1) (by omega)
  rw[a] at b
  exact(b6 b).symm
 subst this
 exact⟨v,I,fL.told ht hf hb e1,hR⟩
section
variable {told:cC} {p m kd:Nat}
theorem P5 (hB:B≤900)(hI:TxI N B M ba ck mk rs ε)(lI:ba+szB rs≤1000000000)(hN:N≤1024)(h1:1≤kd)(I:kd≤7)(qi:tx<2097152)(r_:pv<2097152)(hf:szB rs+40≤M)
 (s:Sat h (pt m (.cells 4 [.ptr a 0,u,av,.int .u64 (nx:Int)] false)::SA a p q r .aZ cM aE ε::S)):
  ∃v I,(∃N0,∀n,N0≤n→toldDefer CB n 136 [.ptr m 0,.agg (dK (kd:Int) tx pv 0 .aV .aV)] h=some (v,I))∧∃c ai,v=.aO [.int .u64 ((ba+szB rs:Nat):Int),.int .i64 0]∧(∀m,pgA ai m=pgA ε m) ∧
   (dA.mk kd tx pv 0 [] c).len≤40∧TxI N (B+2) M ba ck mk (rs++[⟨kd,tx,pv,0,[],c⟩]) ai∧Sat I (pt m (.cells 4 [.ptr a 0,u,av,.int .u64 (nx:Int)] false)::SA a p q r .aZ cM aE ai::S):=by
 have J:=W.base
 refine toldDefer_do (C:=CB) Iz rfl rfl (of_decide_eq_true (by kernel_rfl)) ?_
 refine WPd.seq (WPd.of_wp rfl (zr rfl (au.bP s rfl rfl rfl (dG rfl rfl) ?_)))
 intro p3 h s
 dsimp only[Nat.reduceAdd,dK,V.cells,List.length_cons,List.length_nil] at s
 refine zk 2 rfl (zv (WPd.seq (WPd.of_wp rfl (zr rfl (zk 2 rfl (zf rfl (lC _ _) (zl rfl (by exact s.ld (k:=1) rfl lB rfl) ?_)))))))
 have s:=bg.1 (s.ae [2])
 dsimp only[aK,bringA,List.cons_append,List.nil_append] at s
 refine zc rfl (rP J s) ?_
 rintro v h ⟨g,rfl,s⟩
 have s:Sat h (GA g a p q r cM aE [] ε::_):=bg.2 s
 have s:=s.mV.ae [1]
 dsimp only[bringA,getA,aK] at s
 refine zk 5 rfl (zv (WPd.seq (WPd.seq (WPd.of_wp rfl (zr rfl (zm rfl (zh rfl (aq rfl rfl aA) (rfl) (zv (WPd.of_wp rfl (zj rfl (WP.skip (WPd.seq (WPd.defer rfl rfl rfl rfl rfl rfl rfl rfl rfl rfl rfl rfl (WPd.seq (WPd.of_wp rfl (zr rfl (zm rfl (zl rfl (by exact s.cK (k:=2) rfl ju fe) ?_))))))))))))))))))
 refine zc rfl (uJ (kd:=kd) (l:=0) J hB hI lI (NW.nil N) (aQ _) (by decide) hN h1 I qi r_ (by decide) (by decide) (by omega) s (aY _ _)) ?_
 rintro v h ⟨c,ai,aD,rfl,rfl,fS,hlen,jQ,s⟩
 refine zk 4 rfl (zv (WPd.of_wp rfl (WP.ret ?_)))
 have s:=bg.1 (s.ae [1])
 have s:=s.ae [4,0]
 obtain⟨v2,I,vR,rfl,s⟩:=pY J s
 have s:=s.ae [1,1,1,1]
 have s:Sat I (SA a p q r .aZ cM aE ai::_):=bg.2 s
 have m9:oA 59=none:=J.free _ rfl
 exact⟨aa,I,_,ov (C:=CB) m9 vZ rfl rfl vR,Mq rfl rfl,c,ai,rfl,fun m=>fS m,by omega,jQ,(((s.ae [4,0]).del 4).del 3).del 2⟩
theorem IS (hT:WR told){y:dA}{x:LD}(I:LR ba ck mk (iC++y::si) x)(CP:x.1.Ok)(s:Sat h (bx q p x.1::S)):
  Call ⟨Tryz.prog,told⟩ 66 [.ptr q 0,.int .u64 ((ba+szB iC:Nat):Int)] h fun v h'=>∃dt ch cs,v=.aO [.agg (dK y.kd y.tx y.pv y.nx dt ch),.int .u64 ((ba+szB iC+y.len:Nat):Int),.int .i64 0] ∧
   Sat h' (bx q p x.1::bp dt y.data::.arr 4 ch cs::cP cs y.br::S):=by
 have J:=I.rs y (by simp)
 refine(PR (n:=ba+szB iC) (a:=szB iC) (pre:=logB ba iC) (rest:=logB (ba+szB iC+y.len) si) hT J.good J.kd J.rd rfl J.len j4 ?_ (by rw[I.base]) ?_ CP s).mono fun v h' hx => ?_
 ·rw[I.b,BQ,logB]
  rfl
 ·have:=SK (base:=ba) (aE:=ck) (iC:=iC) (si:=si) (r:=y)
  have e1:=I.base
  have e2:=I.b
  have e3:=I.bh
  obtain⟨μ,δ⟩:=x
  obtain⟨b1,b2,b3,b4,b5⟩:=μ
  simp only at e1 e2 e3
  subst e1 e2 e3
  exact this
 ·have e:ba+szB iC+y.len=ba+szB iC+8+(cI y.kd y.tx y.pv y.nx y.data y.br).length:=by rw[dA.len,dA.bd];omega
  rw[e]
  exact hx
end
def qT (d:Nat): Nat:=(18446744073709551616-d)%18446744073709551616
theorem VN (d:Nat): qT d<18446744073709551616:=iY _ (by decide)
theorem SR {d:Nat}(hd:d<18446744073709551616): IntKind.wrap .u64 (IntKind.wrap .i64 (-(IntKind.wrap .i64 (d:Int))))=(qT d:Int):=by
 have J:∀n:Int,IntKind.wrap .u64 n=n%18446744073709551616:=fun n=>rfl
 have I:∀n:Int,IntKind.wrap .i64 n=if n%18446744073709551616≥9223372036854775808 then n%18446744073709551616-18446744073709551616 else n%18446744073709551616:=fun n=>by
  show(if (true&&decide (n%18446744073709551616≥9223372036854775808))=true then _ else _)=_
  simp
  rfl
 have e3:∀n:Int,IntKind.wrap .i64 n%18446744073709551616=n%18446744073709551616:=fun n=>by rw[I];split<;>omega
 rw[J,e3]
 have:(-(IntKind.wrap .i64 (d:Int)))%18446744073709551616=(-(d:Int))%18446744073709551616:=by rw[I];split<;>omega
 rw[this,qT]
 omega
section
variable {told:cC} {p m pv' kd:Nat} {cell:List Nat}
theorem P6 (hT:W told)(hB:B≤2000)(iI:EI N B ε)(hw:NW N now)(hp:gL N n k cell (pgG now ε))(hi:i<50)(m9:dn<18446744073709551616)(s:Sat h (X::GA g a p q r data aE now ε::S))(hX:cD X (cE dv (i::le 8 dn))):
  Call ⟨Tryz.prog,told⟩ 282 [.agg [.ptr c 0],.ptr g 0,dv] h fun v h'=>∃ai b',v=.int .i64 0∧EI N B ai∧Sm N ε ai∧NW N (cW (k:Int) b' now) ∧
   dX b' 205 0 n [mF cell i ((dP cell i+qT dn)%18446744073709551616)]∧Sat h' (GA g a p q r data aE (cW (k:Int) b' now) ai::X::S):=by
 have hlen:(i::le 8 dn).length=9:=by rw[bn,cq]
 have J:=s.aI (k:=0) rfl hX
 have ab_:=J.1
 refine Call.of_wp (hT.free _ rfl) Tryz.func282 rfl rfl (zg rfl (au.bP s rfl rfl rfl (dG rfl rfl) ?_))
 intro p3 h s
 have J:=s.aI (k:=1) rfl hX
 refine zk 6 rfl (zo rfl (a_ rfl rfl rfl (bA aN J)) (zC rfl aA (by rw[hlen];rfl) ?_))
 obtain⟨Ps,I,e1,e2⟩:=fy (i:=0) J rfl
 have jT:=gj J (a:=1) (by omega)
 have r7:=eM J
 have s0:=s
 refine zk 4 rfl (WP.drawn [some (0,2),some (0,2),some (0,2),some (0,2),some (0,2),some (0,2),some (0,2),af,af,af,af,af,af,af] rfl (by kernel_rfl) (by kernel_rfl) ?_)
 refine zF rfl (Kp _ _) (zL rfl (s.ld (k:=0) rfl Q8 rfl) (zM rfl (zM rfl (zO rfl (cZ (r:=.ptr Ps I) rfl rfl e1) (zL rfl e2 (ax.op rfl rfl rfl (by simp only[isEff,bF]) (bO (r:=.int .i64 (i:Int)) rfl (gB Tryz.underlying5 bF (az (by omega) (by omega)))) ?_))))))
 refine zM rfl (zO rfl (cj (p:=some (.int .i64 1)) (q:=none) (m:=none) (p':=some 1) (q':=none) (m':=none) rfl rfl rfl rfl rfl rfl rfl jT.1) (ax.any rfl rfl rfl rfl (OpR.call rfl rfl rfl rfl (pn hT s (k:=1) rfl (qI hX (a:=1) (by omega)) (by simp[cq]))) ?_))
 rintro v h' ⟨rfl,rfl⟩
 rw[List.drop_one,List.tail_cons,yZ,show dn%256^8=dn from nf m9]
 refine ax.op rfl rfl rfl (by simp only[isEff,zD]) (bO rfl (cvW bM zD)) ?_
 refine zO rfl (dM (r:=.int .i64 (IntKind.wrap .i64 (-(IntKind.wrap .i64 (dn:Int))))) rfl (by simp[unV])) ?_
 have s:=s.ae [2]
 refine ax.any rfl rfl rfl rfl (OpR.call rfl rfl rfl rfl (IG (dn:=qT dn) hT hB iI hw hp hi (SR m9) (VN dn) s)) ?_
 rintro v h ⟨ai,b',rfl,h1,h2,h3,h4,s⟩
 refine zA rfl ?_
 refine ax.nil ⟨⟨fun _ _=>.inr ⟨rfl,⟨_,g8 rfl (Kp _ _)⟩,aB _ rfl⟩,dJ (.inr ⟨rfl,⟨_,aH rfl (s0.ld (k:=0) rfl Q8 rfl)⟩,aB _ rfl⟩) (.inr ⟨rfl,⟨_,aH rfl (s0.ld (k:=0) rfl Q8 rfl)⟩,aB _ rfl⟩),fun _ _=>.inr ⟨rfl,⟨_,aS rfl⟩,aB _ rfl⟩,fun _ _=>.inr ⟨rfl,⟨_,aS rfl⟩,r7⟩,fun _ _=>.inr ⟨rfl,⟨_,cZ (r:=.ptr Ps I) rfl rfl e1⟩,aB _ rfl⟩,dJ (.inr ⟨rfl,⟨_,aH rfl e2⟩,aB _ rfl⟩) (.inr ⟨rfl,⟨_,aH rfl e2⟩,aB _ rfl⟩),fun _ _=>.inr ⟨rfl,⟨_,bO (r:=.int .i64 (i:Int)) rfl (gB Tryz.underlying5 bF (az (by omega) (by omega)))⟩,aB _ rfl⟩,aa,aa,aa,aa,aa,aa,aa,aa⟩,?_⟩
 refine WP.ret ⟨aa,_,rfl,?_⟩
 exact⟨ai,b',rfl,h1,h2,h3,h4,(s.ae [0,1]).del 2⟩
theorem gL.done (hw:NW N now)(hd:∀m,pgA ai m=match lookL m now with|some b=>c_ b aD|none=>pgA ε m)(I:gL N n k cell (pgG now ε)): gL N n k cell (pgA ai):=by
 obtain⟨R,M,J,h2⟩:=I.hd
 exact⟨⟨R,M,J.done hw hd,h2⟩,I.k2,I.kN,I.pg.done hw hd,I.len⟩
theorem P7 : methV Tryz.prog 161 "Undo" = some 282 := by kernel_rfl
def jA (c:Nat): V:=.iface 161 (.agg [.ptr c 0])
theorem SS {b0 w b2 b3 f l nt to:Nat}{dt ch mv dv pv av:V}(hB:B≤900)(hI:TxI N B M ba ck mk rs ε)(lI:ba+szB rs≤1000000000)(hN:N≤1024)(jS:id<2097152)(hl:l<2097152)(T6:to<2097152)(hf:szB rs+560≤M)
 (hp:gL N n k cell (pgA ε))(hi:i<50)(m9:dn<18446744073709551616)
 (s:Sat h (pt b0 (.cells 1 [.ptr m 0] false)::pt w (.cells 6 (dK kd tx pv' Dg dt ch) false)::pt b2 (.cells 1 [.ptr rr 0] false)::pt b3 (.cells 1 [.int .u64 (to:Int)] false)::pt m (.cells 4 [.ptr a 0,jA c,av,.int .u64 (nx:Int)] false)::pt rr (.cells 7 (lP id f l nt mv dv pv) false)::SA a p q r .aZ data aE ε::X::S))(hX:cD X (cE dt (i::le 8 dn))):
  ∃v I,(∃N0,∀n,N0≤n→toldDefer CB n 159 [.ptr b0 0,.ptr w 0,.ptr b2 0,.ptr b3 0] h=some (v,I))∧∃c' ai,v=.int .i64 0∧gL N n k (mF cell i ((dP cell i+qT dn)%18446744073709551616)) (pgA ai) ∧
   (dA.mk 2 id l to [] c').len≤560∧TxI N (B+2) M ba ck mk (rs++[⟨2,id,l,to,[],c'⟩]) ai ∧
   Sat I (pt b0 (.cells 1 [.ptr m 0] false)::pt w (.cells 6 (dK kd tx pv' Dg dt ch) false)::pt b2 (.cells 1 [.ptr rr 0] false)::pt b3 (.cells 1 [.int .u64 (to:Int)] false)::pt m (.cells 4 [.ptr a 0,jA c,av,.int .u64 (nx:Int)] false)::pt rr (.cells 7 (lP id f (ba+szB rs) to mv dv pv) false)::SA a p q r .aZ data aE ai::X::S):=by
 have J:=W.base
 have jC:=hp.len
 refine toldDefer_do (C:=CB) IA rfl rfl (of_decide_eq_true (by kernel_rfl)) ?_
 refine WPd.seq (WPd.of_wp rfl (zr rfl (za rfl (zv (WPd.seq (WPd.of_wp rfl (zr rfl (zl rfl (by exact s.ld (k:=0) rfl mT rfl) ?_))))))))
 refine zn rfl (zY s 4 lC lB rfl ?_)
 have s:=bg.1 (s.ae [6])
 dsimp only[dK,lP,aK,bringA,List.cons_append,List.nil_append] at s
 refine zc rfl (rP J s) ?_
 rintro v h ⟨g,rfl,s⟩
 have s:Sat h (GA g a p q r data aE [] ε::_):=bg.2 s
 have s:=s.ae [1,1,1,1,1,1,1]
 dsimp only[bringA,getA,aK] at s
 refine zk 5 rfl (zv (WPd.seq (WPd.seq (WPd.of_wp rfl (zr rfl (zm rfl (zh rfl (aq rfl rfl aA) (rfl) (zv (WPd.of_wp rfl (zj rfl (WP.skip (WPd.seq (WPd.defer rfl rfl rfl rfl rfl rfl rfl rfl rfl rfl rfl rfl (WPd.seq (WPd.seq (WPd.of_wp rfl (WP.drawn [af,af,af,af,af,af,af,af,af] rfl (by kernel_rfl) (by kernel_rfl) ?_)))))))))))))))))
 refine zL rfl (s.ld (k:=0) rfl mT rfl) (zN rfl (zF rfl (UE _ _) (zL rfl (s.ld (k:=4) rfl Zu rfl) (zM rfl (zF rfl (Ar _ _) (zL rfl (s.ld (k:=1) rfl b8 rfl) ?_))))))
 have qg:gL N n k cell (pgG [] ε):=hp.MQ fun _=>rfl
 refine ax.any rfl rfl rfl rfl (OpR.invoke rfl rfl rfl P7 rfl (P6 J (by omega) hI.ei (NW.nil N) qg hi m9 (s.ae [6,6]) hX)) ?_
 rintro v h ⟨oJ,b',rfl,nT,fV,yb,nN,s⟩
 have uK:=hI.sm nT fV
 have y_:=qg.put fV nN (xq jC hi)
 dsimp only[aK,bringA] at s
 refine zA rfl ?_
 refine ax.nil ⟨⟨aa,aa,aa,aa,aa,aa,aa,aa,aa,aa⟩,?_⟩
 refine WPd.seq (WPd.of_wp rfl (zr rfl (zm rfl (zh rfl (aq rfl rfl aA) (rfl) (zv (WPd.of_wp rfl (zj rfl (WP.skip (WPd.seq (WPd.of_wp rfl (WP.drawn [af,af,af,af,af,af,af,af,af,af,af,af,af,af,af,af,af] rfl (by kernel_rfl) (by kernel_rfl) ?_)))))))))))
 refine zM rfl (zL rfl (s.ld (k:=4) rfl nA rfl) (zN rfl (zF rfl (Az _ _) (zL rfl (s.ld (k:=7) rfl cS rfl) (zL rfl (s.ld (k:=4) rfl nA rfl) (zN rfl (zF rfl (sZ _ _) (zL rfl (s.ld (k:=7) rfl cS rfl) (zL rfl (s.ld (k:=5) rfl cS rfl) (zO rfl (cx (r:=.agg (dK (2:Nat) id l to .aV .aV)) rfl (by rw[sC];rfl)) ?_))))))))))
 have s:=s.mV.ae [1]
 dsimp only[bringA,getA,aK] at s
 refine ax.any rfl rfl rfl rfl (OpR.call rfl rfl rfl rfl (uJ (kd:=2) (l:=1) J hB uK lI yb (by simp[cW]) (by decide) hN (by decide) (by decide) jS hl T6 (by decide) (by omega) s (aY _ _))) ?_
 rintro v h ⟨c',ai,aD,rfl,rfl,fS,hlen,jQ,s⟩
 refine zM rfl (zO rfl (dU rfl rfl) (zO rfl (dU rfl rfl) (zA rfl (zA rfl ?_))))
 refine ax.nil ⟨⟨aa,aa,aa,aa,aa,aa,aa,aa,aa,aa,aa,aa,aa,aa,aa,aa,aa,aa⟩,?_⟩
 refine WPd.seq (WPd.seq (WPd.of_wp rfl (zr rfl (zm rfl (zh rfl (aq rfl rfl aA) (rfl) (zv (WPd.of_wp rfl (zj rfl (WP.skip (WPd.seq (WPd.of_wp rfl (zr rfl (zl rfl (by exact s.ld (k:=6) rfl nA rfl) ?_)))))))))))))
 refine zy s 6 nA rfl (zm rfl (zy s 7 cS rfl (zn rfl (zf rfl (sZ _ _) (zS rfl (s.dO (k:=9) rfl mS rfl (show 0+2<7 by decide) rfl rfl) ?_)))))
 intro h s
 dsimp only[Nat.reduceAdd,List.set,setA] at s
 refine zn rfl (zf rfl (qC _ _) (zS rfl (s.dO (k:=9) rfl mS rfl (show 0+3<7 by decide) rfl rfl) ?_))
 intro h s
 dsimp only[Nat.reduceAdd,List.set,setA] at s
 refine zv (WPd.seq (WPd.of_wp rfl (zr rfl (za rfl (zv (WPd.of_wp rfl (WP.ret ?_)))))))
 have s:=bg.1 (s.ae [1])
 have s:=s.ae [4,0]
 obtain⟨v2,I,vR,rfl,s⟩:=pY J s
 have s:=s.ae [1,1,1,1]
 have s:Sat I (SA a p q r .aZ data aE ai::_):=bg.2 s
 have IT:oA 59=none:=J.free _ rfl
 have s:=s.ae [4,4,4,4,4,4,0,2]
 exact⟨aa,I,_,ov (C:=CB) IT vZ rfl rfl vR,lR rfl,c',ai,rfl,y_.done yb fS,by omega,jQ,((s.del 9).del 8)⟩
end
def slZ : V→V
 |.sl id _ _ cap=>.sl id 0 0 cap
 |v=>v
theorem YS {v:V}(a:tF (T.get h.tr) k v cs): (slZ v).cells=[slZ v]∧storable (slZ v)=true:=by
 rcases a.2 with⟨rfl,_⟩|⟨id,n,cap,N,rest,rfl,_⟩<;>exact⟨rfl,rfl⟩
theorem FG {e:TypeId}{v:V}(a:tF (T.get h.tr) k v cs)(hk:1≤k)(J:1≤cs.length)(hu:P.underlying t=some (.slice e))(I:bB P e=some k):
  sliceV P h' t v (some 0) none none=some v∧sliceV P h' t v none (some 0) none=some (slZ v):=by
 rcases a.2 with⟨rfl,rfl⟩|⟨id,n,cap,N,rest,rfl,hg,e1,e2,_,e4⟩
 ·simp at J
 ·have hn:1≤n:=by
   rcases vl n with h0|h0
   ·subst h0;omega
   ·exact h0
  cases cap with
  |exact c =>
   simp only[sliceV,hu,I,sM,ga,slZ]
   grind[aG]
  |rest q alt =>
   obtain⟨rfl,rfl,rfl,_⟩:=e4
   have h2:Nat.ble 1 q=true:=by rw[aG];exact hk
   have h3:Nat.blt 0 n=true:=by rw[Nat.blt_eq];exact hn
   have h4:Nat.ble 0 n=true:=by rw[aG];omega
   constructor
   ·simp[sliceV,hu,I,h2,h4,Nat.ble_self_eq_true]
   ·simp[sliceV,hu,I,h2,h4,slZ]
    rfl
theorem P8 {e:TypeId}{v z:V}(s:Sat h (.arr k v cs::S))(I:cs≠[])(hu:P.underlying t=some (.slice e))(hz:zeroT P e=some z)(hk:z.cells.length=k)(J:1≤k):
  ∃h',clearV P h t v=some h'∧Sat h' S:=by
 obtain⟨id,n,cap,N,rest,rfl,h1,h2,s,_⟩:=s.Ks I
 have hn:1≤n:=by
  rcases vl n with h0|h0
  ·subst h0;rw[Ab] at h1;exact absurd (List.length_eq_zero_iff.1 h1) I
  ·exact h0
 have g:=s.row (k:=0) rfl
 have hl:(repeatL z.cells n).length=cs.length:=by rw[qZ,hk,h1,qu]
 have e0:(Nat.ble 1 z.cells.length&&Nat.ble 1 n)=true:=by rw[hk,bK,aG,aG];exact⟨J,hn⟩
 have e1:Nat.ble (0+(repeatL z.cells n).length) N=true:=by rw[aG,hl];omega
 refine⟨_,?_,(s.put (o':=.cells N (cond (Nat.beq 0 0&&Nat.beq (repeatL z.cells n).length N) (repeatL z.cells n) ((cs++rest).take 0++(repeatL z.cells n++(cs++rest).drop (0+(repeatL z.cells n).length)))) false) (k:=0) rfl).drop⟩
 ·simp only[clearV,hu,hz,e0,ah,wrN,show h.tr.get id=_ from g,e1]
theorem OpR.clear {S':List aP}{cl:Go.Call}{m:V}(I:o.op=.call cl)(J:cl.callee=.builtin .clear)(hty:cl.argTypes = #[t])(ha:lookArgs E cl.args.toList=some [m])
 (ho:∃h₁,clearV C.P h t m=some h₁∧Sat h₁ S'): OpR C E h o fun _ h₁=>Sat h₁ S':=by
 obtain⟨h₁,e1,e2⟩:=ho
 refine OpR.builtin I J ha ⟨.aO [],h₁,?_,e2⟩<;>grind[builtinV]
section
variable {told:cC} {to:Nat} {dn:List (Nat×Nat)}
theorem IU (I:W told){l:Nat}(s:Sat h (pt b (.cells 1 [.int .u64 (to:Int)] false)::S)): Call ⟨Tryz.prog,told⟩ 139 [.agg [.int .u64 (l:Int),.int .i64 (c:Int)],.ptr b 0] h fun v h'=>v=.bool (decide (l>to))∧Sat h' (pt b (.cells 1 [.int .u64 (to:Int)] false)::S):=by
 refine Call.of_wp (I.free _ rfl) Tryz.func139 rfl rfl (zg rfl (au.bP s rfl rfl rfl (dG rfl rfl) ?_))
 intro J h s
 refine zk 4 rfl (zY s 0 UF cS rfl (zy s 1 cS rfl (zo rfl (aq (r:=.bool (decide (l>to))) rfl rfl (er.trans (by rw[show decide ((l:Int)>(to:Int))=decide (l>to) from by simp]))) ?_)))
 exact zk 2 rfl (WP.ret ⟨aa,_,rfl,rfl,s.drop⟩)
theorem VO (hT:W told)(hl:dn.length≤1000)(J:∀d∈dn,to<d.1)(s:Sat h (.arr 2 dv (l9 dn)::pt b (.cells 1 [.int .u64 (to:Int)] false)::S)):
  Call ⟨Tryz.prog,told⟩ 199 [dv,.fn (.func 139) [] [.ptr b 0]] h fun v h'=>v=.int .i64 (if dn=[] then -1 else 0)∧Sat h' (.arr 2 dv (l9 dn)::pt b (.cells 1 [.int .u64 (to:Int)] false)::S):=by
 refine Call.of_wp (hT.free _ rfl) Tryz.func199 rfl rfl (zK 8 rfl (zo rfl (a_ rfl rfl rfl (s.fN (n:=dn.length) (j:=0) rfl (kn _) (by decide) kK)) ?_))
 refine zk 2 rfl (WP.block (WP.loop (zg rfl ?_)))
 cases I:dn with
 |nil =>
  refine zC rfl aT (by simp) ?_
  refine zk 3 rfl (WP.exit (zK 4 rfl (WP.ret ⟨aa,_,rfl,?_⟩)))
  subst I
  exact⟨rfl,s⟩
 |cons d l =>
  refine zB rfl aT (by simp) ?_
  obtain⟨Dj,off,e1,e2⟩:=s.IJ (P:=Tryz.prog) (i:=0) (k:=2) (by rw[kn,I,bn];omega) (by decide) kK sE Gg
  rw[I,Ez (i:=0) (d:=d) rfl] at e2
  refine zk 5 rfl (WP.block (zK 10 rfl (zo rfl (cZ (r:=.ptr Dj off) rfl rfl e1) (zl rfl e2 (zc rfl (IU hT (s.ae [1])) ?_)))))
  rintro v h ⟨hv,s⟩
  rw[e_ (J d (by rw[I];exact c8))] at hv
  subst hv
  exact zk 7 rfl (WP.ret ⟨aa,_,rfl,rfl,by rw[←I];exact s.ae [1]⟩)
noncomputable def dfL : Code:=cm [1,1,1,0,1,0,0] ((Tryz.f138.body).getD .skip)
theorem P9 (hT:W told)(hl:dn.length≤1000)(I:∀d∈dn,to<d.1)(hf:fv=.fn (.func 139) [] [.ptr b 0]): ∀(j i:Nat) (h:H) (E:List (Nat×V)) (Q:Ex→List (Nat×V)→H→Prop),i+j=dn.length →
  Sat h (.arr 2 dv (l9 dn)::pt b (.cells 1 [.int .u64 (to:Int)] false)::S)→Has E [(0,dv),(1,fv),(5,.int .i64 0),(6,.int .i64 (i:Int))] →
  (∀E' h',Has E' [(0,dv),(5,.int .i64 0)]→Sat h' (.arr 2 dv (l9 dn)::pt b (.cells 1 [.int .u64 (to:Int)] false)::S)→Q (.exit 0) E' h') →
  WP ⟨Tryz.prog,told⟩ 42 (.loop dfL) E h Q:=by
 subst hf
 intro j
 induction j with
 |zero =>
  intro i h E Q hi s J hq
  refine WP.loop (WP.has J (zK 5 rfl (zo rfl (a_ rfl rfl rfl (s.fN (n:=dn.length) (j:=0) rfl (kn _) (by decide) kK)) ?_)))
  refine zC rfl aT (by simp;omega) ?_
  exact zk 2 rfl (WP.exit (hq _ _ ⟨rfl,rfl,aa⟩ s))
 |succ j ih =>
  intro i h E Q hi s J hq
  obtain⟨d,hd⟩:∃d,dn[i]?=some d:=⟨_,bw (by omega)⟩
  obtain⟨Dj,off,e1,e2⟩:=s.IJ (P:=Tryz.prog) (i:=i) (k:=2) (by rw[kn];omega) (by decide) kK sE Gg
  rw[Ez hd] at e2
  refine WP.loop (WP.has J (zK 5 rfl (zo rfl (a_ rfl rfl rfl (s.fN (n:=dn.length) (j:=0) rfl (kn _) (by decide) kK)) ?_)))
  refine zB rfl aT (by simp;omega) ?_
  refine zk 4 rfl (WP.block (zK 4 rfl (zo rfl (cZ (r:=.ptr Dj off) rfl rfl e1) (zl rfl e2 ?_))))
  refine au.bP s rfl rfl rfl (bR Ct) (fun p7 h s => ?_)
  dsimp only[V.cells,List.length_cons,List.length_nil,Nat.reduceAdd] at s
  refine zS rfl (s.fM (j:=0) rfl sE rfl rfl) ?_
  intro h s
  dsimp only[setA] at s
  refine zk 4 rfl (zl rfl (s.cK (k:=0) rfl Gg sE) (zc rfl (IU hT (l:=d.1) (c:=d.2) (s.ae [2])) ?_))
  rintro v h ⟨hv,s⟩
  rw[e_ (I d (bJ hd))] at hv
  subst hv
  refine zo rfl (dM rfl rfl) (zv (zj rfl (WP.skip (zr rfl (zm rfl (zo rfl (aq (r:=.int .i64 ((i+1:Nat):Int)) rfl rfl (by rw[show((i+1:Nat):Int)=(i:Int)+1 by omega];exact aW (az (by omega) (by omega)))) ?_))))))
  refine za rfl (zv ?_)
  exact ih (i+1) _ _ Q (by omega) ((s.ae [2,0]).del 2) ⟨rfl,rfl,rfl,rfl,aa⟩ hq
theorem VQ (hT:W told)(hl:dn.length≤1000)(J:∀d∈dn,to<d.1)(s:Sat h (.arr 2 dv (l9 dn)::pt b (.cells 1 [.int .u64 (to:Int)] false)::S)):
  Call ⟨Tryz.prog,told⟩ 138 [dv,.fn (.func 139) [] [.ptr b 0]] h fun v h'=>v.cells=[v]∧storable v=true∧Sat h' (pt b (.cells 1 [.int .u64 (to:Int)] false)::S):=by
 have hdv:=s.jk (j:=0) rfl
 refine Call.of_wp (hT.free _ rfl) Tryz.func138 rfl rfl (zK 8 rfl (zc rfl (VO hT hl J s) ?_))
 rintro v h ⟨rfl,s⟩
 by_cases h0:dn=[]
 ·rw[aC h0]
  refine zk 6 rfl (zB rfl dh (by simp) ?_)
  exact zk 7 rfl (WP.ret ⟨aa,_,rfl,hdv.1,hdv.2.1,s.drop⟩)
 ·rw[aj h0]
  have h1:1≤dn.length:=List.length_pos_iff.2 h0
  refine zk 6 rfl (zC rfl dh (by simp) ?_)
  refine zk 7 rfl (zb rfl (by exact aW (az (by omega) (by omega))) ?_)
  refine zk 2 rfl (WP.block (P9 hT hl J rfl (dn.length-1) 1 _ _ _ (by omega) s ⟨rfl,rfl,rfl,rfl,aa⟩ fun E' h' eS s' => ?_))
  have s:=s'
  refine WP.has eS ?_
  have I:1≤(l9 dn).length:=by rw[kn];omega
  have am:=s.Rc (j:=0) rfl (Hf _ _ _)
  have ez:=YS am
  refine zK 4 rfl (zo rfl (cj (p:=some (.int .i64 0)) (q:=none) (m:=none) (p':=some 0) (q':=none) (m':=none) rfl rfl rfl rfl rfl rfl rfl (FG (P:=Tryz.prog) am (by decide) I kK sE).1) ?_)
  refine au.gY rfl rfl (OpR.clear rfl rfl rfl rfl (P8 s (fun e=>by rw[e] at I;simp at I) kK Ct rfl (by decide))) ?_
  intro _ h s
  refine zk 5 rfl (zo rfl (cj (p:=none) (q:=some (.int .i64 0)) (m:=none) (p':=none) (q':=some 0) (m':=none) rfl rfl rfl rfl rfl rfl rfl (FG (P:=Tryz.prog) am (by decide) I kK sE).2) ?_)
  exact zk 2 rfl (WP.ret ⟨aa,_,rfl,ez.1,ez.2,s⟩)
end
structure WT (told:cC): Prop where
 wr:WR told
 wk:WK told
 rc:told 136=some (iA Tryz.prog 136 (u7 136))
 und:told 159=some (iA Tryz.prog 159 (u7 159))
section
variable {told:cC} {p m l:Nat} {cell:List Nat} {cs:List cO}
theorem Bj (J:W told){g:FuncId}{first cap:List V}{R:V→H→Prop}(he:e≠7)(hc:Call ⟨Tryz.prog,told⟩ g (first++cap) h R)(hR:∀v h',R v h'→v=.int .i64 e):
  Call ⟨Tryz.prog,told⟩ 137 [.ptr m 0,.fn (.func g) first cap] h R:=by
 refine Call.of_wp (J.free _ rfl) Tryz.func137 rfl rfl (zK 7 rfl (zc rfl (hc) ?_))
 rintro v h' I
 have hr:=I
 obtain rfl:=hR _ _ I
 refine zk 6 rfl (zB rfl aA (by simp;exact he) ?_)
 exact zk 7 rfl (WP.ret ⟨aa,_,rfl,hr⟩)
theorem VR (hT:WT told)(hB:B≤900)(hI:TxI N B M ba ck mk rs ε)(xx:1≤ba)(lI:ba+szB rs≤1000000)(hN:N≤1024)(jS:id<2097152)(hl:l<2097152)(hf:szB rs+560≤M)(hp:gL N n k cell (pgA ε))(hi:i<50)(m9:dn<18446744073709551616)
 (J:rs=iC++⟨1,tx,pv,0,i::le 8 dn,cs⟩::si)(r_:pv<ba+szB iC)
 (s:Sat h (pt m (.cells 4 [.ptr a 0,jA c,av,.int .u64 (nx:Int)] false)::pt rr (.cells 7 (lP id f l (ba+szB iC) mv dv zE) false)::SA a p q r .aZ data aE ε::S)):
  Call ⟨Tryz.prog,told⟩ 87 [.ptr m 0,.ptr rr 0] h fun v h'=>v=.int .i64 0∧∃c' ai,gL N n k (mF cell i ((dP cell i+qT dn)%18446744073709551616)) (pgA ai) ∧
   (dA.mk 2 id l pv [] c').len≤560∧TxI N (B+2) M ba ck mk (rs++[⟨2,id,l,pv,[],c'⟩]) ai ∧
   Sat h' (pt m (.cells 4 [.ptr a 0,jA c,av,.int .u64 (nx:Int)] false)::pt rr (.cells 7 (lP id f (ba+szB rs) pv mv dv zE) false)::SA a p q r .aZ data aE ai::S):=by
 have hW:=hT.wr.w
 have eH:szB iC≤szB rs:=by rw[J,gJ];omega
 have CP:ε.2.1.Ok:=hI.ei.ok.ok.lg
 refine Call.of_wp (hW.free _ rfl) Tryz.func87 rfl rfl (zg rfl (au.bP s rfl rfl rfl (dG rfl rfl) ?_))
 intro p2 h s
 dsimp only[V.cells,List.length_cons,List.length_nil,Nat.reduceAdd,lP] at s
 refine au.bP s rfl rfl rfl (dG rfl rfl) ?_
 intro p3 h s
 dsimp only[Nat.reduceAdd,V.cells,List.length_cons,List.length_nil] at s
 have s:=bg.1 (s.ae [4])
 dsimp only[aK,bringA,List.cons_append,List.nil_append] at s
 refine za rfl (zv (zw ?_))
 have s0:=s
 refine WP.drawn [af,af,af,af,af,some (0,2),some (0,2),some (0,2),some (0,2),none,some (2,2),some (2,2),some (2,3),some (2,3),af,af,af,af] rfl (by kernel_rfl) (by kernel_rfl) ?_
 refine zL rfl (by exact s.ld (k:=5) rfl mT rfl) ?_
 refine zN rfl (zF rfl (lC _ _) (zL rfl (by exact s.ld (k:=6) rfl lB rfl) ?_))
 refine ax.any rfl rfl rfl rfl (OpR.call rfl rfl rfl rfl (AK hW s)) ?_
 rintro v h' ⟨rfl,rfl⟩
 refine zL rfl (by exact s.ld (k:=4) rfl nA rfl) ?_
 refine zN rfl (zF rfl (qC _ _) (zL rfl (by exact s.ld (k:=7) rfl cS rfl) ?_))
 refine ax.any rfl rfl rfl rfl (OpR.call rfl rfl rfl rfl (IS hT.wr (iC:=iC) (si:=si) (y:=⟨1,tx,pv,0,i::le 8 dn,cs⟩) (by rw[←J];exact hI.lr) CP (s.ae [2]))) ?_
 rintro v h ⟨dt,ch,cs',rfl,s⟩
 dsimp only at s
 have iJ:=(s.buf (k:=1) rfl).view.cells
 have oo:=s.jk (j:=2) rfl
 have hib:∀(k:IntKind) (z:Int),V.beq (.int k z) (.int k z)=true:=fun k z=>aB _ rfl
 have I:V.beq (.agg (dK (1:Nat) tx pv 0 dt ch)) (.agg (dK (1:Nat) tx pv 0 dt ch))=true:=by
  show V.beqL (dK (1:Nat) tx pv 0 dt ch) (dK (1:Nat) tx pv 0 dt ch)=true
  unfold dK
  simp only[V.beqL,hib,eM (s.buf (k:=1) rfl).view,oo.2.2,ah]
 have abm:∀ {z w:Int},V.beq (.aO [.agg (dK (1:Nat) tx pv 0 dt ch),.int .u64 z,.int .i64 w]) (.aO [.agg (dK (1:Nat) tx pv 0 dt ch),.int .u64 z,.int .i64 w])=true:=by
  intro z w
  show V.beqL _ _=true
  simp only[V.beqL,I,hib,ah]
 have fW:(V.agg (dK (1:Nat) tx pv 0 dt ch)).cells.all storable=true:=lF iJ.2 oo.2.1
 dsimp only[aK,bringA] at s
 refine zM rfl (zO rfl (dU rfl rfl) (zO rfl (dU rfl rfl) (zO rfl (dU rfl rfl) (ax.any rfl rfl rfl rfl (OpR.bP s (bR pP)) ?_))))
 rintro v h ⟨p5,rfl,s⟩
 dsimp only[V.cells,List.length_cons,List.length_nil,Nat.reduceAdd] at s
 refine ax.gY rfl rfl rfl (OpR.rH rfl rfl rfl (s.fM (j:=0) rfl fe rfl fW)) ?_
 rintro w h ⟨rfl,s⟩
 dsimp only[dK,setA] at s
 refine zA rfl (zA rfl ?_)
 refine ax.nil ⟨⟨aa,aa,aa,aa,aa,dJ (.inr ⟨rfl,⟨_,aH rfl (by exact s0.ld (k:=4) rfl nA rfl)⟩,aB _ rfl⟩) (.inr ⟨rfl,⟨_,aH rfl (by exact s0.ld (k:=4) rfl nA rfl)⟩,aB _ rfl⟩),fun _ _=>.inr ⟨rfl,⟨_,iL rfl⟩,aB _ rfl⟩,fun _ _=>.inr ⟨rfl,⟨_,g8 rfl (qC _ _)⟩,aB _ rfl⟩,dJ (.inr ⟨rfl,⟨_,aH rfl (by exact s0.ld (k:=7) rfl cS rfl)⟩,aB _ rfl⟩) (.inr ⟨rfl,⟨_,aH rfl (by exact s0.ld (k:=7) rfl cS rfl)⟩,aB _ rfl⟩),aa,fun _ _=>.inr ⟨rfl,⟨_,aS rfl⟩,abm⟩,fun _ _=>.inr ⟨rfl,⟨_,dU rfl rfl⟩,I⟩,fun _ _=>.inr ⟨rfl,⟨_,dU rfl rfl⟩,aB _ rfl⟩,fun _ _=>.inr ⟨rfl,⟨_,dU rfl rfl⟩,aB _ rfl⟩,aa,aa,aa,aa,aa⟩,?_⟩
 have s:=s.ae [9,0,7,7,7]
 dsimp only[bringA,getA,aK] at s
 refine zw (zg rfl (zm rfl (au.mG rfl rfl rfl (aq rfl rfl aA) (rfl) (zv (zj rfl (WP.skip (zg rfl (zf rfl (D4 _ _) (zl rfl (by exact s.ld (k:=1) rfl cS rfl) ?_)))))))))
 refine au.bP s rfl rfl rfl (bR aaK) ?_
 intro p8 h s
 dsimp only[V.cells,List.length_cons,List.length_nil,Nat.reduceAdd] at s
 refine au.rH rfl rfl rfl rfl rfl (by exact s.dO (k:=0) rfl mS rfl (by decide) rfl rfl) (fun h s => ?_)
 dsimp only[List.set,setA] at s
 refine zv (zw (zg rfl (zf rfl (oW _ _) (zl rfl (by exact s.ld (k:=2) rfl dV rfl) ?_))))
 refine au.mG rfl rfl rfl (aq rfl rfl dh) (rfl) (zv (zj rfl (WP.skip (zw (zw ?_)))))
 have s0:=s
 refine WP.drawn [af,af,af,af,af,af] rfl (by kernel_rfl) (by kernel_rfl) ?_
 refine zL rfl (by exact s.ld (k:=0) rfl cS rfl) ?_
 refine zL rfl (by exact s.ld (k:=3) rfl nA rfl) ?_
 refine zN rfl (zF rfl (qC _ _) (zL rfl (by exact s.ld (k:=5) rfl cS rfl) ?_))
 refine ax.mG rfl rfl rfl rfl (aq rfl rfl jj) (by simp;omega) ?_
 refine ax.nil ⟨⟨aa,aa,aa,aa,aa,aa,aa⟩,?_⟩
 refine zj rfl (WP.skip (zw (zg rfl (zf rfl (oW _ _) (zl rfl (by exact s.ld (k:=2) rfl dV rfl) ?_)))))
 refine au.mG rfl rfl rfl (aq rfl rfl dh) (rfl) (zm rfl (zf rfl (Ar _ _) (zl rfl (by exact s.ld (k:=2) rfl b8 rfl) ?_)))
 refine zo rfl (a_ rfl rfl rfl (bA aN (s.aI (k:=7) rfl (aY _ _)))) (au.mG rfl rfl rfl (aq rfl rfl dh) (by rw[bn,cq];rfl) ?_)
 refine zp rfl (zv (zj rfl (WP.skip (zg rfl (zl rfl (by exact s.ld (k:=1) rfl mT rfl) ?_)))))
 refine zo rfl (sB rfl rfl) ?_
 have s:=s.ae [10,10,6,9]
 dsimp only[bringA,getA,aK] at s
 have s:Sat h (SA a p q r .aZ data aE ε::_):=bg.2 s
 have s:=s.ae [2,2,2,1,1,1,0,0]
 dsimp only[bringA,getA,aK] at s
 refine au.call rfl rfl rfl rfl rfl rfl rfl (Bj (e:=0) hW (by decide) (Call.defer hT.und IA rfl (SS hB hI (by omega) hN jS hl (show pv<2097152 by omega) hf hp hi m9 s (aY _ _))) (fun v h' hv=>hv.choose_spec.choose_spec.1)) ?_
 rintro v h ⟨c',ai,rfl,Dc,hlen,jQ,s⟩
 refine za rfl (zv ?_)
 refine WP.ret ⟨aa,_,rfl,?_⟩
 exact⟨rfl,c',ai,Dc,hlen,jQ,((s.ae [4,4,4]).del 9 |>.del 8 |>.del 7 |>.del 6 |>.del 5 |>.del 4 |>.del 3)⟩
end
inductive r5 (ba:Nat)(rs:List dA): Nat→List (Nat×Nat)→Prop where
 |nil:r5 ba rs 0 []
 |cons {iC si:List dA} {tx pv i dn:Nat} {cs:List cO} {l:List (Nat×Nat)} (h:rs=iC++⟨1,tx,pv,0,i::le 8 dn,cs⟩::si) (hp:pv<ba+szB iC) (hi:i<50) (hd:dn<18446744073709551616) (hl:r5 ba rs pv l):r5 ba rs (ba+szB iC) ((i,dn)::l)
theorem r5.more {l:List (Nat×Nat)}(h:r5 ba rs aD l): r5 ba (rs++f_) aD l:=by
 induction h with
 |nil=>exact .nil
 |cons h I hi hd hl J=>exact .cons (by rw[h,dB];rfl) I hi hd J
def offC (cell:List Nat): List (Nat×Nat)→List Nat
 |[]=>cell
 |x::l=>offC (mF cell x.1 ((dP cell x.1+qT x.2)%18446744073709551616)) l
theorem ko (r:dA): szB [r]=r.len:=by simp[szB]
section
variable {told:cC} {p m:Nat}
noncomputable def bkL : Code:=cm [1,0,0,0] ((Tryz.f73.body).getD .skip)
theorem P_ (hT:WT told)(xx:1≤ba)(hN:N≤1024)(jS:id<2097152){l:List (Nat×Nat)}: ∀(kV fg B:Nat) (rs:List dA) (ε:bq) (cell:List Nat) (h:H) (E:List (Nat×V)) (Q:Ex→List (Nat×V)→H→Prop),r5 ba rs kV l→gL N n k cell (pgA ε)→TxI N B M ba ck mk rs ε→B+2*l.length≤900 →
  ba+szB rs+560*l.length≤1000000→szB rs+560*l.length≤M→fg≤ba+szB rs→kV≤ba+szB rs →
  Sat h (pt b (.cells 1 [.int .u64 0] false)::pt m (.cells 4 [.ptr a 0,jA c,av,.int .u64 (nx:Int)] false)::pt rr (.cells 7 (lP id f fg kV mv dv zE) false)::SA a p q r .aZ data aE ε::S) →
  Has E [(0,.ptr m 0),(1,.ptr rr 0),(5,.ptr b 0)] →
  (∀E' h' f_ ai I,gL N n k (offC cell l) (pgA ai)→szB f_≤560*l.length→TxI N (B+2*l.length) M ba ck mk (rs++f_) ai→I≤ba+szB (rs++f_)→(I=0↔fg=0∧l=[])→Has E' [(0,.ptr m 0),(1,.ptr rr 0),(5,.ptr b 0)] →
   Sat h' (pt b (.cells 1 [.int .u64 0] false)::pt m (.cells 4 [.ptr a 0,jA c,av,.int .u64 (nx:Int)] false)::pt rr (.cells 7 (lP id f I 0 mv dv zE) false)::SA a p q r .aZ data aE ai::S)→Q (.exit 0) E' h') →
  WP ⟨Tryz.prog,told⟩ 29 (.loop bkL) E h Q:=by
 have hW:=hT.wr.w
 induction l with
 |nil =>
  intro kV fg B rs ε cell h E Q hc hp hI hB lI hM J IV s hE hq
  cases hc
  have s0:=s
  refine WP.loop (WP.has hE (zK 2 rfl (WP.drawn [af,af,af,af,af,af] rfl (by kernel_rfl) (by kernel_rfl) ?_)))
  refine zM rfl (zN rfl (zF rfl (qC _ _) (zL rfl (s.ld (k:=2) rfl cS rfl) (zL rfl (s.ld (k:=0) rfl cS rfl) (ax.mG rfl rfl rfl rfl (aq rfl rfl er) (by simp) ?_)))))
  refine ax.nil ⟨⟨aa,aa,aa,aa,aa,aa,aa⟩,?_⟩
  exact zj rfl (WP.exit (hq _ _ [] ε fg hp (by decide) (by rw[iW];exact hI) (by rw[iW];exact J) (by simp) ⟨rfl,rfl,rfl,aa⟩ s))
 |cons x l ih =>
  intro kV fg B rs ε cell h E Q hc hp hI hB lI hM J IV s hE hq
  cases hc with
  |@cons iC si tx pv i dn cs _ h1 h2 h3 h4 h5 =>
  have s0:=s
  simp only[bn] at hB lI hM
  have k1:B≤900:=by omega
  have k2:ba+szB rs≤1000000:=by omega
  have k3:fg<2097152:=by omega
  have k5:560≤560*(l.length+1):=Nat.le_mul_of_pos_right _ (Nat.succ_pos _)
  have k4:szB rs+560≤M:=cu (sJ k5 _) hM
  refine WP.loop (WP.has hE (zK 2 rfl (WP.drawn [af,af,af,af,af,af] rfl (by kernel_rfl) (by kernel_rfl) ?_)))
  refine zM rfl (zN rfl (zF rfl (qC _ _) (zL rfl (s.ld (k:=2) rfl cS rfl) (zL rfl (s.ld (k:=0) rfl cS rfl) (ax.vT rfl rfl rfl rfl (aq rfl rfl er) (by simp;omega) ?_)))))
  refine ax.nil ⟨⟨aa,aa,aa,aa,aa,aa,aa⟩,?_⟩
  refine zK 2 rfl (WP.block (zK 4 rfl (zc rfl (VR hT k1 hI xx k2 hN jS k3 k4 hp h3 h4 h1 h2 (s.ae [1,1,1])) ?_)))
  rintro v h ⟨rfl,c',ai,Dc,hlen,jQ,s⟩
  have eH:szB (rs++[⟨2,id,fg,pv,[],c'⟩])=szB rs+(dA.mk 2 id fg pv [] c').len:=by rw[gJ,ko]
  refine za rfl (zv (zg rfl (zm rfl (zh rfl (aq rfl rfl aA) (rfl) (zv (zj rfl (WP.skip ?_)))))))
  exact ih pv (ba+szB rs) (B+2) (rs++[⟨2,id,fg,pv,[],c'⟩]) ai _ _ _ Q h5.more Dc jQ (by omega) (by omega) (by omega) (by omega) (by omega) (s.ae [3]) ⟨rfl,rfl,rfl,aa⟩ fun E' h' f_ ai I g1 g2 g3 g4 g5 g6 g7 =>
   hq E' h' ([⟨2,id,fg,pv,[],c'⟩]++f_) ai I g1 (by rw[gJ];simp only[bn];rw[ko];omega) (by rw[←dB,bn,show B+2*(l.length+1)=B+2+2*l.length by omega];exact g3)
    (by rw[←dB];exact g4) (by rw[g5];constructor<;>simp;omega) g6 g7
end
theorem FH : ∀ {L:tX} {i:Nat},L[i]?=some (id,rr,A)→((L.map fun e=>((e.1:Int),e.2.1)).map (·.1)).Nodup→lE (id:Int) (L.map fun e=>((e.1:Int),e.2.1))=(L.eraseIdx i).map fun e=>((e.1:Int),e.2.1):=by
 intro L
 induction L with
 |nil=>intro i h;simp at h
 |cons y L J =>
  intro i h I
  simp only[dQ,sN] at I
  cases i with
  |zero=>simp at h;subst h;simp[lE]
  |succ i =>
   have h:L[i]?=some (id,rr,A):=by simpa using h
   have hm:(id:Int)∈(L.map fun e=>((e.1:Int),e.2.1)).map (·.1):=by
    rw[List.map_map];exact List.mem_map.2 ⟨_,bJ h,rfl⟩
   simp only[dQ,lE,List.eraseIdx_cons_succ]
   rw[aj (fun e=>I.1 (by rw[e];exact hm)),J h I.2]
section
variable {told:cC} {p m l:Nat} {cell:List Nat}
theorem TxI.force {x:Nat}(I:TxI N B M ba ck mk rs ε): (bG ε.2 x).1=0∧TxI N B M ba ck mk rs (ε.1,(bG ε.2 x).2)∧∀m,pgA (ε.1,(bG ε.2 x).2) m=pgA ε m:=by
 obtain⟨J,h2,h3⟩:=I.ei.force (n:=x)
 exact⟨J,⟨h2,(qS ba ck mk rs).force _ _ I.lr,by have:=((lX ε.2.2.log.length ε.2.2.room).force ε.2 x ⟨rfl,rfl⟩).2;rw[this];exact I.rm,I.ft⟩,h3⟩
theorem MX (J:W told){x:Nat}{op:V}(I:TxI N B M ba ck mk rs ε)(s:Sat h (SA a p q r op data aE ε::S)):
  Call ⟨Tryz.prog,told⟩ 42 [.ptr a 0,.int .u64 (x:Int)] h fun v h'=>v=.int .i64 0∧∃ai,TxI N B M ba ck mk rs ai∧(∀m,pgA ai m=pgA ε m)∧Sat h' (SA a p q r op data aE ai::S):=by
 have s:=bg.1 s
 have s:Sat h (c7 a p q r op data aE::cL r p q ε.1::bx q p ε.2.1::aJ p ε.2.2::S):=s
 have Yt:=I.lr.aU
 obtain⟨h1,h2,h3⟩:=I.force (x:=x)
 refine(O8 J (n:=x) (s.ae [0,1,1]) I.ei.ok.ok.lg (by omega)).mono ?_
 rintro v h ⟨rfl,s⟩
 have s:Sat h (SA a p q r op data aE (ε.1,(bG ε.2 x).2)::S):=bg.2 (s.ae [0,2,0,0])
 exact⟨by rw[show(ε.2.1,ε.2.2)=ε.2 from rfl,h1],_,h2,h3,s⟩
theorem VS (hT:WT told)(J:1≤ba)(hN:N≤1024)(jS:id<2097152){dn l:List (Nat×Nat)}{fg:Nat}(hc:r5 ba rs kV l)(hp:gL N n k cell (pgA ε))(hI:TxI N B M ba ck mk rs ε)(hB:B+2*l.length≤900)
 (lI:ba+szB rs+560*l.length≤1000000)(hM:szB rs+560*l.length≤M)(rZ:fg≤ba+szB rs)(IV:kV≤ba+szB rs)(CE:dn.length≤1000)(YT:∀d∈dn,0<d.1)
 (s:Sat h (pt m (.cells 4 [.ptr a 0,jA c,av,.int .u64 (nx:Int)] false)::pt rr (.cells 7 (lP id f fg kV mv dv zE) false)::SA a p q r .aZ data aE ε::.arr 2 dv (l9 dn)::S)):
  Call ⟨Tryz.prog,told⟩ 73 [.ptr m 0,.ptr rr 0,.int .u64 0] h fun v h'=>v=.int .i64 0∧∃f_ ai I dv',gL N n k (offC cell l) (pgA ai)∧szB f_≤560*l.length∧TxI N (B+2*l.length) M ba ck mk (rs++f_) ai∧I≤ba+szB (rs++f_)∧(I=0↔fg=0∧l=[]) ∧
   Sat h' (pt m (.cells 4 [.ptr a 0,jA c,av,.int .u64 (nx:Int)] false)::pt rr (.cells 7 (lP id f I 0 mv dv' zE) false)::SA a p q r .aZ data aE ai::S):=by
 have hW:=hT.wr.w
 refine Call.of_wp (hW.free _ rfl) Tryz.func73 rfl rfl (zg rfl (au.bP s rfl rfl rfl (dG rfl rfl) ?_))
 intro b h s
 refine zk 3 rfl (WP.block (P_ hT J hN jS kV fg B rs ε cell _ _ _ hc hp hI hB lI hM rZ IV s ⟨rfl,rfl,rfl,aa⟩ fun E' h' f_ ai I g1 g2 g3 g4 g5 eS s' => ?_))
 have s:=s'
 refine WP.has eS (zK 5 rfl (zY s 2 qD Cs rfl (zo rfl (sB rfl rfl) ?_)))
 have s:=s.ae [4,0]
 refine zc rfl (VQ (to:=0) hW CE YT s) ?_
 rintro v h ⟨Hx,uo,s⟩
 refine zn rfl (zf rfl (qD _ _) (zS rfl (s.dO (k:=2) rfl TH rfl (show 0+5<7 by decide) Hx uo) ?_))
 intro h s
 exact zk 5 rfl (WP.ret ⟨aa,_,rfl,rfl,f_,ai,I,v,g1,g2,g3,g4,g5,s.drop⟩)
theorem SU (hT:WT told)(hB:B≤900)(hI:TxI N B M ba ck mk rs ε)(lI:ba+szB rs≤1000000)(hN:N≤1024)(jS:id<2097152)(hl:l<2097152)(hf:szB rs+40≤M){kd b0 b1 b2:Nat}(xA:3≤kd)(Fg:kd≤4)
 (s:Sat h (pt b0 (.cells 1 [.ptr m 0] false)::pt b1 (.cells 1 [.int .i64 (kd:Int)] false)::pt b2 (.cells 1 [.ptr rr 0] false)::pt m (.cells 4 [.ptr a 0,u,av,.int .u64 (nx:Int)] false)::pt rr (.cells 7 (lP id f l kV mv dv zE) false)::SA a p q r .aZ data aE ε::S)):
  Call ⟨Tryz.prog,told⟩ 135 [.ptr b0 0,.ptr b1 0,.ptr b2 0] h fun v h'=>v=.int .i64 0∧∃c' ai,(∀m,pgA ai m=pgA ε m)∧(dA.mk kd id l 0 [] c').len≤40∧TxI N (B+2) M ba ck mk (rs++[⟨kd,id,l,0,[],c'⟩]) ai ∧
   Sat h' (pt b0 (.cells 1 [.ptr m 0] false)::pt b1 (.cells 1 [.int .i64 (kd:Int)] false)::pt b2 (.cells 1 [.ptr rr 0] false)::pt m (.cells 4 [.ptr a 0,u,av,.int .u64 (nx:Int)] false)::pt rr (.cells 7 (lP id f l kV mv dv zE) false)::SA a p q r .aZ data aE ai::S):=by
 have hW:=hT.wr.w
 refine Call.of_wp (hW.free _ rfl) Tryz.func135 rfl rfl (zK 5 rfl (WP.drawn [af,af,af,af,af,af,af,af,af,af,af,af,af,af,af,af,af] rfl (by kernel_rfl) (by kernel_rfl) ?_))
 refine zL rfl (s.ld (k:=0) rfl mT rfl) (zL rfl (s.ld (k:=1) rfl dV rfl) (zL rfl (s.ld (k:=2) rfl nA rfl) (zN rfl (zF rfl (Az _ _) (zL rfl (s.ld (k:=4) rfl cS rfl) (zL rfl (s.ld (k:=2) rfl nA rfl) (zN rfl (zF rfl (sZ _ _) (zL rfl (s.ld (k:=4) rfl cS rfl) (zO rfl (cx (r:=.agg (dK (kd:Int) id l 0 .aV .aV)) rfl (by rw[sC];rfl)) ?_))))))))))
 have s:=s.ae [3,4]
 refine ax.any rfl rfl rfl rfl (OpR.call rfl rfl rfl rfl (Call.defer hT.rc Iz rfl (P5 hB hI (by omega) hN (show 1≤kd by omega) (by omega) jS hl hf s))) ?_
 rintro v h ⟨c',ai,rfl,I,hlen,J,s⟩
 refine zM rfl (zO rfl (dU rfl rfl) (zO rfl (dU rfl rfl) (zA rfl (zA rfl ?_))))
 refine ax.nil ⟨⟨aa,aa,aa,aa,aa,aa,aa,aa,aa,aa,aa,aa,aa,aa,aa,aa,aa,aa⟩,?_⟩
 have s:=s.ae [2,2,2,0,1,0]
 refine zK 4 rfl (zB rfl dh (rfl) (zm rfl (zy s 1 dV rfl ?_)))
 by_cases hk:kd=3
 ·skip
  refine zB rfl dh (by simp[hk]) ?_
  refine zk 4 rfl (zy s 0 mT rfl (zn rfl (zY s 3 lC lB rfl (zm rfl (zc rfl (MX hW (x:=ba+szB rs) J (s.ae [5])) ?_)))))
  rintro v h ⟨rfl,u6,jd,abn,s⟩
  exact zk 7 rfl (WP.ret ⟨aa,_,rfl,rfl,c',u6,fun m=>by rw[abn,I],hlen,jd,s.ae [1,1,1,1,1,0]⟩)
 ·skip
  refine zC rfl dh (by simp;omega) ?_
  exact zk 9 rfl (WP.ret ⟨aa,_,rfl,rfl,c',ai,I,hlen,J,s⟩)
theorem K_ (hT:WT told)(hB:B≤900)(I:TxI N B M ba ck mk rs ε)(J:ba+szB rs≤1000000)(hN:N≤1024)(jS:id<2097152)(hl:l<2097152)(hf:szB rs+40≤M){kd:Nat}(xA:3≤kd)(Fg:kd≤4){F:V→Nat→aP}{m0:List (Int×Nat)}
 (s:Sat h (pt m (.cells 4 [.ptr a 0,u,av,.int .u64 (nx:Int)] false)::pt rr (.cells 7 (lP id f l kV mv dv zE) false)::j_ .u64 F av m0::SA a p q r .aZ data aE ε::S)):
  Call ⟨Tryz.prog,told⟩ 72 [.ptr m 0,.ptr rr 0,.int .i64 (kd:Int)] h fun v h'=>v=.int .i64 0∧∃f_ ai,(∀m,pgA ai m=pgA ε m)∧szB f_≤40∧TxI N (B+2) M ba ck mk (rs++f_) ai ∧
   Sat h' (pt m (.cells 4 [.ptr a 0,u,av,.int .u64 (nx:Int)] false)::j_ .u64 F av (lE (id:Int) m0)::SA a p q r .aZ data aE ai::S):=by
 have hW:=hT.wr.w
 refine Call.of_wp (hW.free _ rfl) Tryz.func72 rfl rfl (zg rfl (au.bP s rfl rfl rfl (dG rfl rfl) ?_))
 intro b0 h s
 refine au.bP s rfl rfl rfl (dG rfl rfl) ?_
 intro b2 h s
 refine au.bP s rfl rfl rfl (dG rfl rfl) ?_
 intro b1 h s
 have s:=s.ae [2,0,0]
 refine zk 5 rfl (zy s 2 nA rfl (zn rfl (zY s 4 sZ cS rfl ?_)))
 by_cases BZ:l=0
 ·skip
  refine zB rfl dh (by simp[BZ]) ?_
  refine zk 3 rfl (WP.drawn [af,af,af,af,af,af,af,af,af] rfl (by kernel_rfl) (by kernel_rfl) ?_)
  refine zL rfl (s.ld (k:=0) rfl mT rfl) (zN rfl (zF rfl (my _ _) (zL rfl (s.ld (k:=3) rfl pQ rfl) (zL rfl (s.ld (k:=2) rfl nA rfl) (zN rfl (zF rfl (Az _ _) (zL rfl (s.ld (k:=4) rfl cS rfl) (ax.gY rfl rfl rfl (OpR.delete rfl rfl rfl rfl (Bt (n:=(id:Int)) (s.ae [5]) rT bM)) ?_))))))))
  intro _ h s
  refine ax.nil ⟨⟨aa,aa,aa,aa,aa,aa,aa,aa,aa,aa⟩,?_⟩
  exact zK 4 rfl (WP.ret ⟨aa,_,rfl,rfl,[],ε,fun _=>rfl,by decide,by rw[iW];exact⟨I.ei.more (by omega),I.lr,I.rm,I.ft⟩,((s.ae [4,0,4]).del 6 |>.del 5 |>.del 4 |>.del 3)⟩)
 ·skip
  refine zC rfl dh (by simp;omega) ?_
  refine zk 5 rfl (zo rfl (sB rfl rfl) (zk 5 rfl (zy s 0 mT rfl (zm rfl ?_))))
  have s:=s.ae [0,0,0,0,0,1]
  refine zc rfl (Bj (e:=0) hW (by decide) (SU hT hB I J hN jS hl hf xA Fg s) (fun v h' hv=>hv.1)) ?_
  rintro v h ⟨rfl,c',ai,fS,hlen,jQ,s⟩
  refine zk 5 rfl (zC rfl aA (rfl) (zk 4 rfl ?_))
  have s:=s.ae [6]
  refine WP.drawn [af,af,af,af,af,af,af,af,af] rfl (by kernel_rfl) (by kernel_rfl) ?_
  refine zL rfl (s.ld (k:=1) rfl mT rfl) (zN rfl (zF rfl (my _ _) (zL rfl (s.ld (k:=4) rfl pQ rfl) (zL rfl (s.ld (k:=3) rfl nA rfl) (zN rfl (zF rfl (Az _ _) (zL rfl (s.ld (k:=5) rfl cS rfl) (ax.gY rfl rfl rfl (OpR.delete rfl rfl rfl rfl (Bt (n:=(id:Int)) s rT bM)) ?_))))))))
  intro _ h s
  refine ax.nil ⟨⟨aa,aa,aa,aa,aa,aa,aa,aa,aa,aa⟩,?_⟩
  exact zK 4 rfl (WP.ret ⟨aa,_,rfl,rfl,_,ai,fS,by rw[ko];exact hlen,jQ,((s.ae [4,0,4]).del 6 |>.del 5 |>.del 4 |>.del 3)⟩)
end
theorem SV {k:Int}{x:α}: ∀ {l:List (Int×α)},(∀e∈l,e.1≠k)→cW k x l=l++[(k,x)]:=by
 intro l
 induction l with
 |nil=>intro _;rfl
 |cons y l I =>
  intro h
  simp only[cW]
  rw[aj (h y c8),I fun e he=>h e (cU _ he)];rfl
section
variable {told:cC} {p m:Nat} {cell:List Nat}
theorem zI (hx:L[i]?=some (id,rr,A))(s:Sat h (j_ .u64 (fun v (r:Nat)=>.pu (v=.ptr r 0)) av (L.map fun e=>((e.1:Int),e.2.1))::S)):
  dZ Tryz.prog h 142 av (.int .u64 (id:Int)) false=some (.ptr rr 0)∧((L.map fun e=>((e.1:Int),e.2.1)).map (·.1)).Nodup:=by
 obtain⟨mid,es,clock,e0,hb,I,_⟩:=fG.1 s
 have J:=IN hx I
 rcases kE (n:=(id:Int)) (fun _ _=>bC.pu _) s rT bM TG with⟨g1,_⟩|⟨uu,y,g1,g2,g3,s'⟩
 ·rw[J] at g1;cases g1
 ·obtain⟨eu,_⟩:=ob.1 s'
  rw[J] at g1
  obtain rfl:=b6 g1
  exact⟨by rw[g3,eu],I⟩
theorem IW (hT:W told)(nQ:nx≤1000000)(J:∀x∈L,x.1<nx)(s:Sat h (gM m a nx u L::S)):
  Call ⟨Tryz.prog,told⟩ 25 [.ptr m 0] h fun v h'=>v=.aO [.int .u64 (nx:Int),.int .i64 0]∧∃rr,Sat h' (gM m a (nx+1) u (L++[(nx,rr,⟨0,0,0,[],[],[]⟩)])::S):=by
 obtain⟨av,s⟩:=fc.1 s
 refine Call.of_wp (hT.free _ rfl) Tryz.func25 rfl rfl (zK 9 rfl (zY s 0 Ay cS rfl (zk 6 rfl (zY s 0 Ay cS rfl (zo rfl (aq (r:=.int .u64 ((nx+1:Nat):Int)) rfl rfl (by rw[show((nx+1:Nat):Int)=(nx:Int)+1 by omega];exact aW (eB (by omega) (by omega)))) ?_)))))
 refine zn rfl (zf rfl (Ay _ _) ?_)
 refine zS rfl (by exact s.dO (k:=0) rfl mS rfl (by decide) rfl rfl) (fun h s => ?_)
 refine zk 5 rfl (zY s 0 my pQ rfl (zk 2 rfl ?_))
 refine au.yC s rfl rfl rfl rfl (fun p22 h s => ?_)
 refine zo rfl (cx rfl (by rw[Zw];rfl)) ?_
 refine au.bP s rfl rfl rfl (dG rfl rfl) (fun I h s => ?_)
 refine au.gY rfl rfl (OpR.mapUpdate rfl rfl rfl rfl (lU (n:=(nx:Int)) (f:=fun v (r:Nat)=>.pu (v=.ptr r 0)) (x:=I) (fun _ _=>bC.pu _) ((s.ae [3]).gh rfl) rT bM)) ?_
 intro _ h s
 rw[SV fun e he=>by
  obtain⟨x,hx,rfl⟩:=List.mem_map.1 he
  have:=J x hx
  show(x.1:Int)≠nx
  omega] at s
 have s:=qM (f:=fun v (_:Unit)=>.pu (v=.agg [])) (s.ae [2])
 have s:=(s.mU (k:=2)).mU (k:=1)
 have s:=s.ae [4,0,0,0]
 have s:Sat h (qc I nx ⟨0,0,0,[],[],[]⟩::_):=kT.2 ⟨.aV,.aV,.map p22,s⟩
 have s:=SG (s.ae [0,2])
 have s:=s.ae [2,1,0]
 refine zk 7 rfl (WP.ret ⟨aa,_,rfl,?_⟩)
 refine⟨rfl,I,fc.2 ⟨av,?_⟩⟩
 rw[DE]
 exact s
theorem Qa (hT:WT told)(hB:B≤900)(hI:TxI N B M ba ck mk rs ε)(I:ba+szB rs≤1000000)(hN:N≤1024)(J:id<2097152)(hx:L[i]?=some (id,rr,A))(hl:A.fg<2097152)(hf:szB rs+40≤M)
 (s:Sat h (gM m a nx u L::SA a p q r .aZ data aE ε::S)):
  Call ⟨Tryz.prog,told⟩ 27 [.ptr m 0,.int .u64 (id:Int)] h fun v h'=>v=.int .i64 0∧∃f_ ai,(∀m,pgA ai m=pgA ε m)∧szB f_≤40∧TxI N (B+2) M ba ck mk (rs++f_) ai ∧
   Sat h' (gM m a nx u (L.eraseIdx i)::SA a p q r .aZ data aE ai::S):=by
 have hW:=hT.wr.w
 obtain⟨av,s⟩:=fc.1 s
 obtain⟨iQ,nX⟩:=zI hx (s.ae [1])
 refine Call.of_wp (hW.free _ rfl) Tryz.func27 rfl rfl (zK 8 rfl (zY s 0 my pQ rfl (zm rfl (zo rfl (fY rfl rfl iQ) (zk 6 rfl (zC rfl (uB Df) (rfl) (zk 7 rfl ?_)))))))
 have s:=(j3 hx).1 (s.ae [2])
 obtain⟨mv,dv,pv,s⟩:=kT.1 s
 have s:=s.ae [5,0,4,4]
 refine zc rfl (K_ (kd:=3) hT hB hI I hN J hl hf (by decide) (by decide) s) ?_
 rintro v h ⟨rfl,f_,ai,fS,eH,jQ,s⟩
 refine zk 2 rfl (WP.ret ⟨aa,_,rfl,?_⟩)
 refine⟨rfl,f_,ai,fS,eH,jQ,?_⟩
 rw[FH hx nX] at s
 have s:=s.ae [0,0,4]
 exact((fc.2 ⟨av,s⟩).del 4 |>.del 3 |>.del 2)
theorem SW (hT:WT told)(I:1≤ba)(hI:TxI N B M ba ck mk rs ε)(hN:N≤1024)(J:id<2097152)(hx:L[i]?=some (id,rr,A)){l:List (Nat×Nat)}(hc:r5 ba rs A.kV l)(hp:gL N n k cell (pgA ε))(hB:B+2*l.length≤890)
 (lI:ba+szB rs+560*l.length≤1000000)(hM:szB rs+560*l.length+40≤M)(rZ:A.fg≤ba+szB rs)(IV:A.kV≤ba+szB rs)(CE:A.dn.length≤1000)(YT:∀d∈A.dn,0<d.1)
 (s:Sat h (gM m a nx (jA c) L::SA a p q r .aZ data aE ε::S)):
  Call ⟨Tryz.prog,told⟩ 28 [.ptr m 0,.int .u64 (id:Int)] h fun v h'=>v=.int .i64 0∧∃f_ ai,gL N n k (offC cell l) (pgA ai)∧szB f_≤560*l.length+40∧TxI N (B+2*l.length+2) M ba ck mk (rs++f_) ai ∧
   Sat h' (gM m a nx (jA c) (L.eraseIdx i)::SA a p q r .aZ data aE ai::S):=by
 have hW:=hT.wr.w
 obtain⟨av,s⟩:=fc.1 s
 obtain⟨iQ,nX⟩:=zI hx (s.ae [1])
 refine Call.of_wp (hW.free _ rfl) Tryz.func28 rfl rfl (zK 8 rfl (zY s 0 my pQ rfl (zm rfl (zo rfl (fY rfl rfl iQ) (zk 6 rfl (zC rfl (uB Df) (rfl) (zk 8 rfl ?_)))))))
 have s:=(j3 hx).1 (s.ae [2])
 obtain⟨mv,dv,pv,s⟩:=kT.1 s
 have s:=s.ae [5,0,5,1]
 have hM':szB rs+560*l.length≤M:=by omega
 refine zc rfl (VS hT I hN J hc hp hI (by omega) lI hM' rZ IV CE YT s) ?_
 rintro v h ⟨rfl,iC,oJ,abo,dv1,y_,abp,uK,Fj,_,s⟩
 have acJ:szB (rs++iC)=szB rs+szB iC:=gJ
 refine zk 5 rfl (zC rfl aA (rfl) (zk 7 rfl ?_))
 have s:=s.ae [0,0,4,0]
 refine zc rfl (K_ (kd:=4) hT (by omega) uK (by omega) hN J (show abo<2097152 by omega) (by omega) (by decide) (by decide) s) ?_
 rintro v h ⟨rfl,f_,ai,fS,eH,jQ,s⟩
 refine zk 2 rfl (WP.ret ⟨aa,_,rfl,?_⟩)
 refine⟨rfl,iC++f_,ai,y_.MQ fS,by rw[gJ];omega,by rw[←dB];exact jQ,?_⟩
 rw[FH hx nX] at s
 have s:=s.ae [0,0,3]
 exact((fc.2 ⟨av,s⟩).del 3 |>.del 2)
end
noncomputable def Gs : Nat→Option (List V→H→Option (V×H)):=toldP [(76,AP)] oA
noncomputable abbrev CK : eO:=⟨Tryz.prog,Gs⟩
theorem SX : ep CK:=IQ fun x I=>by
 rw[List.mem_singleton.1 I]
 exact⟨_,De,rfl,by decide⟩
theorem IX : WK Gs:=by
 refine⟨K9 fun x I => ?_,?_⟩
 ·rw[List.mem_singleton.1 I]
  exact⟨by decide,by decide,by decide⟩
 ·simp only[Gs,toldP,rV rfl,ah]
section
variable {p m:Nat} {cell:List Nat}
theorem YU (hB:B≤900)(hI:TxI N B M ba ck mk rs ε)(xx:1≤ba)(lI:ba+szB rs≤1000000)(hN:N≤1024)(jD:tY L)(hx:L[j]?=some (id,rr,A))(jS:id<2097152)(rZ:A.fg<2097152)(CE:A.dn.length≤1000)
 (I:szB rs+7300+oB L≤M)(hM:M≤16777216)(hp:gL N n k cell (pgA ε))(hi:i<n)(hn:n≤50)(hd:IntKind.wrap .u64 d=(dn:Int))(m9:dn<18446744073709551616)
 (s:Sat h (pt c (.cells 2 [.ptr m 0,.int .i64 (n:Int)] false)::gM m a nx u L::SA a p q r .aZ data aE ε::S)):
  ∃v h2,(∃N0,∀n,N0≤n→toldDefer CK n 26 [.ptr c 0,.int .u64 (id:Int),.int .i64 (i:Int),.int .i64 d] h=some (v,h2))∧∃c' cost ai,v=.int .i64 0∧gL N n k (mF cell i ((dP cell i+dn)%18446744073709551616)) (pgA ai) ∧
   (dA.mk 1 id A.fg 0 (i::le 8 dn) c').len≤560∧cost≤1656∧TxI N (B+2) M ba ck mk (rs++[⟨1,id,A.fg,0,i::le 8 dn,c'⟩]) ai ∧
   Sat h2 (pt c (.cells 2 [.ptr m 0,.int .i64 (n:Int)] false)::gM m a nx u (L.set j (id,rr,A.more (ba+szB rs) cost [(k:Int)]))::SA a p q r .aZ data aE ai::S):=by
 have hT:=IX.w
 have jC:=hp.len
 obtain⟨av,s⟩:=fc.1 (s.ae [1])
 dsimp only[aK,bringA] at s
 obtain⟨iQ,_⟩:=zI hx (s.ae [1])
 refine toldDefer_do (C:=CK) IB rfl rfl (of_decide_eq_true (by kernel_rfl)) ?_
 refine WPd.seq (WPd.of_wp rfl (zr rfl (za rfl (zv (WPd.seq (WPd.of_wp rfl (WP.block (zg rfl (zk 2 rfl (zf rfl (qB _ _) (zl rfl (by exact s.ld (k:=3) rfl mT rfl) ?_)))))))))))
 refine zn rfl (zY s 0 my pQ rfl (zm rfl (zo rfl (fY rfl rfl iQ) (zC rfl (uB Df) (rfl) (zk 6 rfl (zC rfl aT (by simp) ?_))))))
 refine zk 4 rfl (zY s 3 vV dV rfl (zC rfl jj (by simp;omega) ?_))
 refine zk 2 rfl (zv (zj rfl (WP.skip (WPd.seq (WPd.of_wp rfl (zr rfl (zk 2 rfl (zf rfl (qB _ _) (zl rfl (by exact s.ld (k:=3) rfl mT rfl) ?_)))))))))
 refine zn rfl (zY s 0 lC lB rfl ?_)
 have s:=bg.1 (s.ae [4])
 dsimp only[aK,bringA,List.cons_append,List.nil_append] at s
 refine zc rfl (rP hT s) ?_
 rintro v h ⟨g,rfl,s⟩
 have s:Sat h (GA g a p q r data aE [] ε::_):=bg.2 s
 refine zk 5 rfl (zv (WPd.seq (WPd.seq (WPd.of_wp rfl (zr rfl (zm rfl (zh rfl (aq rfl rfl aA) (rfl) (zv (WPd.of_wp rfl (zj rfl (WP.skip (WPd.seq (WPd.defer rfl rfl rfl rfl rfl rfl rfl rfl rfl rfl rfl rfl (WPd.seq (WPd.seq (WPd.of_wp rfl (zr rfl (zk 4 rfl ?_))))))))))))))))))
 have qg:gL N n k cell (pgG [] ε):=hp.MQ fun _=>rfl
 refine zc rfl (IG hT (by omega) hI.ei (NW.nil N) qg (by omega) hd m9 s) ?_
 rintro v h ⟨oJ,b',rfl,nT,fV,yb,nN,s⟩
 have uK:=hI.sm nT fV
 have y_:=qg.put fV nN (xq jC (by omega))
 refine za rfl (zv (WPd.seq (WPd.of_wp rfl (zr rfl (zm rfl (zh rfl (aq rfl rfl aA) (rfl) ?_))))))
 have x_:∀h,convV Tryz.prog h 2 32 (.int .i64 d)=some (.int .u64 (dn:Int),h):=fun h=>by simp only[convV,zD,bM,hd]
 have s0:=s
 refine zv (WPd.of_wp rfl (zj rfl (WP.skip (WPd.seq (WPd.of_wp rfl (WP.drawn [some (0,3),some (0,3),some (0,3),some (0,3),some (0,3),some (0,3),af,af,af,some (0,2),some (0,2),af,af,af] rfl (by kernel_rfl) (by kernel_rfl) ?_))))))
 refine zM rfl (zN rfl (zF rfl (qB _ _) (zL rfl (s.ld (k:=4) rfl mT rfl) (zM rfl (zM rfl (zM rfl (ax.op rfl rfl rfl (by simp only[isEff,Tryz.underlying5]) (bO rfl (by exact gB bF Tryz.underlying5 (vS (by omega) (by omega)))) ?_)))))))
 refine ax.any rfl rfl rfl rfl (OpR.Gj (n:=i) rfl s rfl rfl rfl (by omega)) ?_
 intro bv h s
 have s1:=s
 refine zM rfl (ax.op rfl rfl rfl (by simp only[isEff,bM]) (bO (r:=.int .u64 (dn:Int)) rfl (x_ _)) ?_)
 refine ax.any rfl rfl rfl rfl (OpR.call rfl rfl rfl rfl (oh (z:=8) (n:=dn) hT s (by decide) (by simp))) ?_
 intro bv h s
 have s2:=s
 have s:=s.ae [2,2,2]
 have s:=fc.2 ⟨av,s⟩
 have s:=s.ae [0,1,0]
 refine ax.any rfl rfl rfl rfl (OpR.call rfl rfl rfl rfl (SQ IX (by omega) uK xx lI hN jD hx rfl yb jS rZ (show([i]++le 8 dn).length≤9 by simp[cq]) CE I hM s (aY _ _))) ?_
 rintro v h ⟨c',cost,ai,aD,rfl,rfl,fS,hlen,J,jQ,s⟩
 refine zA rfl ?_
 refine ax.nil ⟨⟨fun _ _=>.inr ⟨rfl,⟨_,aS rfl⟩,aB _ rfl⟩,fun _ _=>.inr ⟨rfl,⟨_,iL rfl⟩,aB _ rfl⟩,fun _ _=>.inr ⟨rfl,⟨_,g8 rfl (qB _ _)⟩,aB _ rfl⟩,rG (.inr ⟨rfl,⟨_,aH rfl (s0.ld (k:=4) rfl mT rfl)⟩,aB _ rfl⟩) (.inr ⟨rfl,⟨_,aH rfl (s1.ld (k:=5) rfl mT rfl)⟩,aB _ rfl⟩) (.inr ⟨rfl,⟨_,aH rfl (s2.ld (k:=5) rfl mT rfl)⟩,aB _ rfl⟩),fun _ _=>.inr ⟨rfl,⟨_,aS rfl⟩,aB _ rfl⟩,fun _ _=>.inr ⟨rfl,⟨_,aS rfl⟩,aB _ rfl⟩,aa,aa,aa,fun _ _=>.inr ⟨rfl,⟨_,aS rfl⟩,aB _ rfl⟩,fun _ _=>.inr ⟨rfl,⟨_,bO (r:=.int .u64 (dn:Int)) rfl (x_ _)⟩,aB _ rfl⟩,aa,aa,aa,aa⟩,?_⟩
 refine WPd.of_wp rfl (WP.ret ?_)
 have s:=bg.1 (s.ae [2])
 have s:=s.ae [5,0]
 obtain⟨v2,h2,vR,rfl,s⟩:=pY hT s
 have s:=s.ae [1,1,1,1]
 have s:Sat h2 (SA a p q r .aZ data aE ai::_):=bg.2 s
 have IT:Gs 59=none:=hT.free _ rfl
 exact⟨aa,h2,_,ov (C:=CK) IT vZ rfl rfl vR,lR rfl,c',cost,ai,rfl,y_.done yb fS,hlen,J,jQ,((s.ae [4,2,0]).del 4 |>.del 3)⟩
end
section
variable {p:Nat}
theorem SY (hB:B≤800)(hI:TxI N B M ba ck mk rs ε)(lI:ba+szB rs≤1000000)(hN:4≤N)(hN2:N≤1000)(hs:j7 N (List.replicate 64 0) rS (pgA ε))(CJ:1≤n)(hn:n≤50)(hf:szB rs+2120≤M)
 (s:Sat h (pt c (.cells 2 [.aZ,.int .i64 (n:Int)] false)::SA a p q r .aZ data aE ε::S)):
  ∃v h2,(∃N0,∀n,N0≤n→toldDefer CB n 80 [.ptr c 0,.ptr a 0] h=some (v,h2))∧∃c' ai,v=.int .i64 0∧gL N n 2 (List.replicate 400 0) (pgA ai) ∧
   (dA.mk 1 0 0 0 [] c').len≤2120∧TxI N (B+2) M ba ck mk (rs++[⟨1,0,0,0,[],c'⟩]) ai∧Sat h2 (pt c (.cells 2 [.aZ,.int .i64 (n:Int)] false)::SA a p q r .aZ data aE ai::S):=by
 have J:=W.base
 have tO:(List.replicate 64 0).length=64:=fD
 obtain⟨ex,qg⟩:=hs.head
 have SZ:(List.replicate 400 0).length=400:=fD
 have v7:(dg (List.replicate 64 0) (4*(0:Int).toNat) 4:Nat)=0:=by decide +kernel
 have YV:dg (zu (List.replicate 64 0) 0 2) 0 4=2:=by decide +kernel
 have Im:∀j,bt rS j=decide (j<2):=fun j=>PG
 refine toldDefer_do (C:=CB) IC rfl rfl (of_decide_eq_true (by kernel_rfl)) ?_
 generalize List.replicate 64 0=R at hs tO qg v7 YV
 generalize rS=M0 at hs Im
 generalize hZ:List.replicate 400 0=Z at SZ
 have s:=s.ae [1]
 dsimp only[bringA,getA,aK] at s
 refine WPd.seq (WPd.of_wp rfl (zr rfl (za rfl (zv (WPd.seq (WPd.of_wp rfl (zr rfl (zm rfl (zo rfl (qW rfl (mki_of C6 rfl)) (zc rfl (K0 (i:=0) J (MD J (by omega)) hI.ei (by omega) qg tO (by decide) (by decide) s) ?_))))))))))
 rintro v h ⟨oJ,rfl,nT,fV,s⟩
 rw[aC (by decide),v7]
 have uK:=hI.sm nT fV
 refine zk 5 rfl (zv (WPd.seq (WPd.seq (WPd.of_wp rfl (zr rfl (zm rfl (zh rfl (aq rfl rfl aA) (rfl) (zv (WPd.of_wp rfl (zj rfl (WP.skip (WPd.seq (WPd.seq (WPd.of_wp rfl (zr rfl (zm rfl (zh rfl (aq rfl rfl aA) (rfl) (zv (WPd.of_wp rfl (zj rfl (WP.skip (WPd.seq (WPd.of_wp rfl (zr rfl (zm rfl ?_)))))))))))))))))))))))))
 have s:=bg.1 s
 dsimp only[List.cons_append,List.nil_append] at s
 refine zc rfl (rP J s) ?_
 rintro v h ⟨g,rfl,s⟩
 have s:Sat h (GA g a p q r data aE [] oJ::_):=bg.2 s
 refine zk 5 rfl (zv (WPd.seq (WPd.seq (WPd.of_wp rfl (zr rfl (zm rfl (zh rfl (aq rfl rfl aA) (rfl) (zv (WPd.of_wp rfl (zj rfl (WP.skip (WPd.seq (WPd.defer rfl rfl rfl rfl rfl rfl rfl rfl rfl rfl rfl rfl (WPd.seq (WPd.seq (WPd.of_wp rfl (zr rfl (za rfl (zv (WPd.of_wp rfl (WP.block (WP.loop (zw (zg rfl (zm rfl (zb rfl (by exact iE (az (by omega) (by omega))) ?_))))))))))))))))))))))))))
 refine zk 2 rfl (zY s 1 vV dV rfl (zB rfl aT (by simp;omega) ?_))
 refine zv (zi rfl (WP.skip (zw (WP.block (zg rfl (zm rfl ?_))))))
 have hsG:j7 N R M0 (pgG [] oJ):=by rw[show pgG [] oJ=pgA ε from funext fun m=>fV.1 m];exact hs
 refine zc rfl (Pz (lo:=2) J (by omega) nT (NW.nil N) hsG (by omega) (by rw[Im];decide) (fun j hj=>by rw[Im];exact e_ hj) s) ?_
 rintro v h ⟨u6,I,rfl,tV,qj,xO,xK,KG,_,_,_,s⟩
 refine zk 10 rfl (zC rfl aA (rfl) (zk 5 rfl (zc rfl (Ic (kd:=205) J s (by decide)) ?_)))
 rintro v h ⟨u1,b1,rfl,BX,s⟩
 refine zk 11 rfl (zY s 2 vV dV rfl (zc rfl (KW (lk:=0) (ex:=n) J s (aY _ _) BX (by decide) (by omega)) ?_))
 rintro v h ⟨u2,b2,rfl,rz,s⟩
 refine zk 8 rfl (au.any rfl rfl rfl (OpR.Cx rfl s rfl rfl rfl rfl (by decide)) ?_)
 intro bv0 h s
 rw[hZ] at s
 have s:=s.ae [1,0]
 dsimp only[bringA,getA,aK] at s
 have fu:26+4*(([]:List (List Nat)).length+1)+(tot []+Z.length)≤512:=by rw[SZ];decide
 refine zc rfl (KX (cs:=[]) (c:=Z) J s (aY _ _) (aY _ _) rz fu) ?_
 rintro v h ⟨u3,b3,rfl,Wy,s⟩
 refine zk 11 rfl ?_
 have s:=s.ae [4,0]
 dsimp only[bringA,getA,aK] at s
 refine zc rfl (Da (i:=2) J (by omega) tV xO (by omega) s (aY _ _) Wy) ?_
 rintro v h ⟨xm,rfl,sg,kH,pG,s⟩
 have e3:∀m:Int,m≠2→pgG (cW ((2:Nat):Int) b3 I) xm m=pgG I u6 m:=fun m hm=>by rw[gX,aj (show ¬ ((2:Nat):Int)=m by omega),C_ kH]
 have hp3:j7 N R (C9 M0 2) (pgG (cW ((2:Nat):Int) b3 I) xm):=KG.roots (e3 1 (by decide)) (by rw[e3 0 (by decide)];exact KG.head) KG.rl
 refine zk 5 rfl (zC rfl aA (rfl) (zk 8 rfl (zc rfl (MH (i:=0) (z:=2) J (by omega) sg pG hp3 s) ?_)))
 rintro v h ⟨Ss,S0,Yw,Qb,La,hn4,s,Di⟩
 rcases Di with⟨AX,_⟩|⟨_,_,_,_,rfl,hp4,ho4⟩
 ·exact absurd ⟨by decide,by decide,by decide,by omega⟩ AX
 have Qc:=uK.sm Yw ((qj.trans kH).trans Qb)
 have abq:pgG S0 Ss 2=b3:=by rw[ho4 2 (by decide),gX,aC (show((2:Nat):Int)=2 from rfl)]
 have hl4:S0.length≤4:=by
  have:=tW (i:=((2:Nat):Int)) (b:=b3) (now:=I)
  have xK:I.length≤2:=xK
  omega
 have YW:gL N n 2 Z (pgG S0 Ss):=⟨⟨_,_,hp4,YV⟩,by decide,by omega,by rw[show((2:Nat):Int)=2 from rfl,abq];exact Wy,SZ⟩
 refine za rfl (zv (zg rfl (zm rfl (zh rfl (aq rfl rfl aA) (rfl) (zv (zj rfl (WP.skip (zr rfl (zm rfl (zb rfl (by exact aW (az (by omega) (by omega))) ?_))))))))))
 refine zk 2 rfl (WP.loop (zK 4 rfl (zb rfl (by exact iE (az (by omega) (by omega))) ?_)))
 refine zk 2 rfl (zY s 5 vV dV rfl (zC rfl aT (by simp;omega) ?_))
 refine zk 2 rfl (WP.exit (WPd.seq (WPd.of_wp rfl (zK 2 rfl (zo rfl (cx rfl (Db (kd:=1))) ?_)))))
 have s:=s.mV.ae [1]
 dsimp only[bringA,getA,aK] at s
 refine zc rfl (uJ (kd:=1) (l:=4) J (by omega) Qc (by omega) La hl4 (by omega) (by omega) (by decide) (by decide) (by decide) (by decide) (by decide) (by decide) (by omega) s (aY _ _)) ?_
 rintro v h ⟨c',ai,aD,rfl,rfl,fS,hlen,jQ,s⟩
 refine zk 4 rfl (zv (WPd.seq (WPd.of_wp rfl (zr rfl (zk 2 rfl (zv (WPd.of_wp rfl (WP.ret ?_))))))))
 have s:=bg.1 (s.ae [1])
 have s:=s.ae [4,0]
 obtain⟨v2,h2,vR,rfl,s⟩:=pY J s
 have s:=s.ae [1,1,1,1]
 have s:Sat h2 (SA a p q r .aZ data aE ai::_):=bg.2 s
 have IT:oA 59=none:=J.free _ rfl
 have s:=s.ae [7,0]
 exact⟨aa,h2,_,ov (C:=CB) IT vZ rfl rfl vR,lR rfl,c',ai,rfl,YW.done La fS,hlen,jQ,(s.del 7 |>.del 6 |>.del 5 |>.del 4 |>.del 3 |>.del 2)⟩
end
def addS : List (Nat×Nat)→Nat→Nat
 |[],_=>0
 |x::l,j=>(if x.1=j then x.2 else 0)+addS l j
theorem IY {a b:List (Nat×Nat)}: addS (a++b) j=addS a j+addS b j:=by
 induction a<;>grind[addS]
theorem S1 : ∀ {l:List (Nat×Nat)},addS l.reverse j=addS l j:=by
 intro l
 induction l with
 |nil=>rfl
 |cons x l I=>rw[List.reverse_cons,IY,I];simp only[addS];omega
theorem VT {l:List (Nat×Nat)}: ∀ {cell:List Nat},cell.length=400→(∀x∈l,x.1<50∧x.2<18446744073709551616)→(∀j,j<50→dP cell j<18446744073709551616) →
  ∀j,j<50→dP (offC cell l) j<18446744073709551616∧(dP (offC cell l) j+addS l j)%18446744073709551616=dP cell j%18446744073709551616:=by
 induction l with
 |nil=>intro cell h1 h2 h3 j hj;exact⟨h3 j hj,rfl⟩
 |cons x l I =>
  intro cell h1 h2 h3 j hj
  obtain⟨EY,hx2⟩:=h2 x c8
  have hz:(dP cell x.1+qT x.2)%18446744073709551616<18446744073709551616:=iY _ (by decide)
  have hc:∀j,dP (mF cell x.1 ((dP cell x.1+qT x.2)%18446744073709551616)) j=if j=x.1 then(dP cell x.1+qT x.2)%18446744073709551616 else dP cell j:=fun j=>Ey h1 EY hz
  have I:=I (cell:=mF cell x.1 ((dP cell x.1+qT x.2)%18446744073709551616)) (xq h1 EY) (fun y hy=>h2 y (cU _ hy)) (fun j hj=>by rw[hc];split;exact hz;exact h3 j hj) j hj
  rw[hc] at I
  simp only[offC,addS]
  refine⟨I.1,?_⟩
  by_cases J:j=x.1
  ·subst J
   rw[aC rfl] at I ⊢
   unfold qT at I ⊢
   omega
  ·rw[aj J] at I
   rw[aj (jL J)]
   omega
structure xy (k ba:Nat)(rs:List dA)(A:pH)(l:List (Nat×Nat)): Prop where
 eq:A.fg=A.kV
 lt:A.kV<ba+szB rs
 dn:A.dn.length=l.length
 sum:ic A.dn≤1656*l.length
 pg:A.pg=[]∨A.pg=[(k:Int)]
 pos:∀d∈A.dn,0<d.1
 ch:r5 ba rs A.kV l.reverse
 ok:∀x∈l,x.1<50∧x.2<18446744073709551616
theorem VU (r:dA): 1≤r.len:=by show 1≤8+_;omega
theorem xy.more {l:List (Nat×Nat)}{c:List cO}(h:xy k ba rs A l)(lI:1≤ba)(hi:i<50)(hd:dn<18446744073709551616)(hc:cost≤1656):
  xy k ba (rs++[⟨1,id,A.fg,0,i::le 8 dn,c⟩]) (A.more (ba+szB rs) cost [(k:Int)]) (l++[(i,dn)]):=by
 have hl:=h.lt
 have hp:=VU ⟨1,id,A.fg,0,i::le 8 dn,c⟩
 refine⟨rfl,?_,?_,?_,?_,?_,?_,?_⟩
 ·show ba+szB rs<_;rw[gJ,ko];omega
 ·show(A.dn++[_]).length=_;rw[bY,bY,h.dn];rfl
 ·show ic (A.dn++[_])≤_
  have:=h.sum
  rw[BP,bY];simp only[ic,dQ,vA,vy,List.foldr_nil,bn,cr]
  simp only[ic] at this
  omega
 ·right
  show va A.pg (k:Int)=_
  rcases h.pg with e|e<;>rw[e]<;>simp[va]
 ·intro d I
  rcases List.mem_append.1 I with I|I
  ·exact h.pos d I
  ·rw[List.mem_singleton.1 I];show 0<ba+szB rs;omega
 ·rw[List.reverse_append]
  refine r5.cons (iC:=rs) (si:=[]) rfl (by rw[h.eq];exact hl) hi hd ?_
  rw[h.eq];exact h.ch.more
 ·intro x J
  rcases List.mem_append.1 J with J|J
  ·exact h.ok x J
  ·rw[List.mem_singleton.1 J];exact⟨hi,hd⟩
theorem xy.new (I:1≤ba): xy k ba rs ⟨0,0,0,[],[],[]⟩ [] :=
 ⟨rfl,by show 0<ba+szB rs;omega,rfl,by decide,.inl rfl,fun d hd=>(by cases hd),r5.nil,fun x J=>(by cases J)⟩
end Go.Proofs.YtiojppeahfoiaaaGreat.Am
namespace Go.Proofs.YtiojppeahfoiaaaGreat.Am
open Go Go.RowKit
variable {L:tX} {X Y:aP} {C:eO} {c':Ctx} {δ:Dk} {ε ai SB:bq} {pg:bq→Int→List Nat} {lv dd:bq→Prop} {Q:Ex→List (Nat×V)→H→Prop} {fn:Func} {h h' σ:H} {d e z:Int} {P' B0:Int→List Nat} {YD:Int→Prop} {μ:Lg} {da db:List (Int×Int×Int×Int)} {now:List (Int×List Nat)} {l1 l2:List (Nat×Nat)} {E:List (Nat×V)} {S:List aP} {U:List Bool} {br:List cO} {ks:List Int} {data l pre rest cM R seen mk cell0:List Nat} {iC si rs f_ FF:List dA} {args cs Rt ds cs6:List V} {n tx pv nx a b q g r aE c i j N k B dn id M p4 p5 p6 f it mid clock A_ c0 aD ba ck rr Dg cost kV r1 r2 z0:Nat} {o:Oper} {x:Operand} {P:Program} {rc:dA} {ρ:YN} {A A1 A2:pH} {α:Type} {t:TypeId} {y dt av rv uv u dv cv wt fv kv mv zE bv ka kb wv nn:V} {w':World}
def rangeParts : Code→Option (Code×Code×Nat×Operand×Array Tmp×Code×Code×Code)
 |.seq a (.seq (.seq b (.block id (.rangeFunc x ps uL bd))) t)=>some (a,b,id,x,ps,uL,bd,t)
 |_=>none
noncomputable def toldRange (C:eO)(n:Nat)(f:FuncId)(args:List V)(h:H): Option (V×H):=match C.P.funcs[f]? with
 |none=>none
 |some fn=>match fn.body with
  |none=>none
  |some code=>cond (Nat.blt fn.ntmps args.length) none (match rangeParts code with
   |none=>none
   |some (a,b,_,x,ps,uL,bd,t)=>match ev C n a ⟨bindArgs args 0 .lf,fn.ntmps,h⟩ with
    |some (.normal,QB)=>match ev C n b QB with
     |some (.normal,I)=>match evO I.env x with
      |some (.fn (.func g) [] cap)=>match callF C (ev C n) g (.BT I.h.next::cap) (I.h.new (.loop false I.ak I.env ps.toList uL bd)) with
       |some (_,J)=>match T.get J.tr I.h.next with
        |some (.loop false _ _ _ _ _)=>match ev C n t ⟨I.env,I.ak,J.put I.h.next none⟩ with
         |some (.normal,s)|some (.ret,s)=>match mapO (resV C.P s) fn.results.toList with
          |some [v]=>some (v,s.h)
          |some vs=>some (.aO vs,s.h)
          |none=>none
         |_=>none
        |some .DI=>match mapO (resV C.P ⟨I.env,I.ak,J.put I.h.next none⟩) fn.results.toList with
         |some [v]=>some (v,J.put I.h.next none)
         |some vs=>some (.aO vs,J.put I.h.next none)
         |none=>none
        |_=>none
       |none=>none
      |_=>none
     |_=>none
    |_=>none)
section
variable {c:Ctx} {w:World}
theorem Rel.other {o:Go.Obj}(h:Rel c σ w)(hb:∀id,id<c.N→(c.ρ id).1≠b): Rel c σ (w.putObj b o):=by
 have get:∀i,(w.putObj b o).heap[i]?=if b=i∧b<w.heap.size then some o else w.heap[i]?:=fun i=>by
  simp only[World.putObj,zP]
  by_cases J:b=i
  ·subst J
   by_cases I:b<w.heap.size
   ·simp[I]
   ·simp[I,Array.getElem?_eq_none (vn I)]
  ·simp[J]
 have same:∀id,id<c.N→(w.putObj b o).heap[(c.ρ id).1]?=w.heap[(c.ρ id).1]?:=fun id hi=>by
  rw[get]
  simp[jL (hb id hi)]
 have rows:∀id,id<c.N→rowSize (w.putObj b o) (c.ρ id).1=rowSize w (c.ρ id).1:=fun id hi=>by unfold rowSize;rw[same id hi]
 exact⟨h.next,h.live,fun id hi=>by simpa[World.putObj] using h.k_ id hi,fun id hi=>by rw[rows id hi];exact h.zz id hi,h.inj,
  fun id o ho=>(h.obj id o ho).later (Ext.refl c) (h.live id o ho) (same id (h.live id o ho)),h.one,h.fx⟩
theorem Rel.endLoop {o:Obj}{r acK:Loop}(h:Rel c σ w)(hg:σ.tr.get id=some o)(ho:∀n cs,o≠.cells n cs true)(hb:w.heap[(c.ρ id).1]?=some (.loop acK)):
  Rel c (σ.put id none) (w.putObj (c.ρ id).1 (.loop r))∧bZ c w c (w.putObj (c.ρ id).1 (.loop r)):=by
 have cJ:(c.ρ id).1<w.heap.size:=(Array.getElem?_eq_some_iff.1 hb).1
 have get:∀i,(w.putObj (c.ρ id).1 (.loop r)).heap[i]?=if (c.ρ id).1=i then some (.loop r) else w.heap[i]?:=fun i=>by
  simp only[World.putObj,zP,cJ,cA]
 have rows:∀i,rowSize (w.putObj (c.ρ id).1 (.loop r)) i=rowSize w i:=fun i=>by
  unfold rowSize
  rw[get]
  by_cases hi:(c.ρ id).1=i
  ·subst hi;simp[hb]
  ·simp[hi]
 have I:=h.kill id
 have hX:=h.DL hg ho
 refine⟨⟨I.next,I.live,fun j hj=>by simpa[World.putObj] using I.k_ j hj,fun j hj=>by rw[rows];exact I.zz j hj,I.inj,fun j o hj => ?_,I.one,I.fx⟩,
  ⟨Ext.refl c,by simp[World.putObj],fun b _=>rows b,fun b _ hn => ?_,fun j h1 h2=>by omega,rfl,rfl⟩⟩
 ·refine(I.obj j o hj).later (Ext.refl c) (I.live j o hj) ?_
  have J:=hj
  rw[cN] at J
  by_cases A6:j=id
  ·simp[A6] at J
  ·simp[A6] at J
   have nM:(c.ρ id).1≠(c.ρ j).1:=fun he=>A6 (h.Bl J hg he.symm hX)
   rw[get]
   simp[nM]
 ·rw[get]
  have:(c.ρ id).1≠b:=fun he=>by have:=hn id (h.live id _ hg) he;rw[hX] at this;cases this
  simp[this]
theorem bZ.Lb (h:bZ c w c' w')(I:b<w.heap.size)(J:∀id,id<c.N→(c.ρ id).1≠b): (∀id,id<c'.N→(c'.ρ id).1≠b)∧w'.heap[b]?=w.heap[b]?:=by
 refine⟨fun id hi he => ?_,h.jP b I fun id hi he=>absurd he (J id hi)⟩
 by_cases h1:id<c.N
 ·rw[h.ext.ρ id h1] at he;exact J id h1 he
 ·rcases h.fresh id (by omega) hi with h2|⟨j,hj,h2,_⟩
  ·omega
  ·exact J j hj (by rw[h2,he])
theorem bZ.YX {o:Go.Obj}(h:bZ c w c' w')(J:w.heap.size≤b): bZ c w c' (w'.putObj b o):=by
 have get:∀i,i<w.heap.size→(w'.putObj b o).heap[i]?=w'.heap[i]?:=fun i hi=>World.putObj_heap_other (by omega)
 exact⟨h.ext,by simpa[World.putObj] using h.size,fun i hi=>by rw[←h.rows i hi];unfold rowSize;rw[get i hi],fun i hi I=>by rw[get i hi];exact h.jP i hi I,h.fresh,h.sys⟩
end
section
variable {c:Ctx} {w:World}
theorem cX.defers {env:Env}{a:Act}(h:cX c env n a)(ds:List Deferred): cX c env n { a with defers:=ds }:=⟨h.size,h.val,h.ry⟩
theorem IZ (hm:C.P.follows .mixedOrders=true)(hT:ep C){f:FuncId}{v:V}{cV:H}(hr:toldRange C n f args σ=some (v,cV))(h:Rel c σ w)(hw:∀x∈args,wf c x):
  eo C.P f args c w v cV:=by
 have hS:=(ym (C:=C) hm hT n).1
 unfold toldRange at hr
 split at hr
 ·cases hr
 ·rename_i fn hf
  split at hr
  ·cases hr
  ·rename_i code hb
   cases hq:Nat.blt fn.ntmps args.length with
   |true=>rw[hq] at hr;cases hr
   |false =>
    rw[hq,aL] at hr
    have hle:args.length≤fn.ntmps:=by
     rcases sP fn.ntmps args.length with h'|h'
     ·rw[gF.2 h'] at hq;cases hq
     ·exact h'
    have tv:=iR (c:=c) hle hw
    split at hr
    ·cases hr
    ·rename_i pa pb pid px YY uL YZ pt wj
     have aah:code=.seq pa (.seq (.seq pb (.block pid (.rangeFunc px YY uL YZ))) pt):=by
      unfold rangeParts at wj
      split at wj
      ·simp only[ay,bz] at wj
       obtain⟨rfl,rfl,rfl,rfl,rfl,rfl,rfl,rfl⟩:=wj
       rfl
      ·cases wj
     split at hr
     ·rename_i QB Tn
      split at hr
      ·rename_i J Ns
       split at hr
       ·rename_i g cap hx
        split at hr
        ·rename_i y Cj LH
         ·-- whatever the loop was left by
          have tail:∀o s,T.get Cj.tr J.h.next=some o→(∀n cs,o≠.cells n cs true) →
            (∀(BN:Ctx) (MM:World),wz BN MM J.h.next o→∃rr:Loop,MM.heap[(BN.ρ J.h.next).1]?=some (.loop rr)∧rr.state≠.busy∧((rr.pending=none∧∃ex,ev C n pt ⟨J.env,J.ak,Cj.put J.h.next none⟩=some (ex,s)∧(ex=.normal∨ex=.ret))∨(rr.pending=some .ret∧s=⟨J.env,J.ak,Cj.put J.h.next none⟩))) →
            (match mapO (resV C.P s) fn.results.toList with
             |some [v]=>some (v,s.h)
             |some vs=>some (.aO vs,s.h)
             |none=>none)=some (v,cV)→eo C.P f args c w v cV:=by
           intro o s FI abX uS vK
           unfold eo
           refine(callsIn_wide (n:=0)).1 (callsIn_of_wp_marks (F:=Fence.wide) hf hb aa ?_ rfl)
           rw[aah]
           refine wpIn_seq (wpIn_mono (hS pa _ .normal QB Tn none c _ w h tv) ?_)
           rintro e AS rC ⟨rfl,Nt,c₁,GL,tw,nL⟩
           refine wpIn_seq (wpIn_seq (wpIn_mono (hS pb _ .normal J Ns none c₁ AS rC GL tw) ?_))
           rintro e FU I ⟨rfl,Wv,c₂,GM,B5,EN⟩
           have Y0:FU.defers=[]:=by rw[Wv,Nt]
           obtain⟨YH,r9⟩:=vG B5 hx
           have DP:∀z∈cap,wf c₂ z:=by
            have:fJ c₂ []∧fJ c₂ cap:=by simpa[wf] using r9
            exact gT.1 this.2
           have hN:J.h.next=c₂.N:=GM.next
           -- the two blocks of the loop
           obtain⟨rA,fM⟩:=GM.below (w':=I.alloc (.deferred (some []))) ((Below.refl _ I).alloc (aQ _) _)
           have hDA:(I.alloc (.deferred (some []))).heap[I.heap.size]?=some (.deferred (some [])):=World.alloc_heap_new I _
           have abr:∀id,id<c₂.N→(c₂.ρ id).1≠I.heap.size:=fun id hi he=>absurd (GM.k_ id hi) (by omega)
           refine wpIn_block (wpIn_rangeFunc (fun fn' _ => ?_))
           obtain⟨O,hO⟩:∃O:Go.Obj,O=.loop { state:=.ready,pending:=none,fn:=fn',tmps:=FU.tmps,params:=YY,assign:=uL,body:=YZ,defers:=I.heap.size }:=⟨_,rfl⟩
           have abt:(I.alloc (.deferred (some []))).heap.size=I.heap.size+1:=World.size_alloc _ _
           have hob:objSize O=0:=by rw[hO];rfl
           have eG:=Bn rA 0 (objSize O)
           obtain⟨rB,stB⟩:=rA.new (.loop false J.ak J.env YY.toList uL YZ) O 0 rfl (by
            refine⟨fn',FU.tmps,I.heap.size,?_,B5.size,fun t => ?_,fun t=>(b9 eG _ (B5.ry t)).2⟩
            ·rw[bE,hO]
             exact World.alloc_heap_new _ _
            ·rw[B5.val t,(b9 eG _ (B5.ry t)).1])
           obtain⟨cB,Y1⟩:∃cB,cB=c₂.grow (I.alloc (.deferred (some []))).heap.size 0 (objSize O):=⟨_,rfl⟩
           rw[←Y1] at rB stB eG
           have Y2:cB.ρ c₂.N=(I.heap.size+1,0):=by rw[Y1,bE,abt]
           have hNB:cB.N=c₂.N+1:=by rw[Y1];rfl
           obtain⟨kc,ken⟩:=callF_ok hS.wide hT LH rB (by
            intro z hz
            rcases List.mem_cons.1 hz with rfl|hz
            ·simp only[wf];omega
            ·exact(b9 eG _ (DP z hz)).2)
           refine⟨I.heap.size+1,[{ target:=.collected I.heap.size,args := #[] }],(I.alloc (.deferred (some []))).alloc O,{ target:=.fn (.func g) (cap.map (conc c₂)).toArray,args := #[.func (.yield (I.heap.size+1)) #[] #[]] },(I.alloc (.deferred (some []))).alloc O,g,
            #[.func (.yield (I.heap.size+1)) #[] #[]]++(cap.map (conc c₂)).toArray,(I.alloc (.deferred (some []))).alloc O,?_,?_,fun _ _=>trivial,?_,?_,?_⟩
           ·rw[hO];exact run_enterLoop_outer _ _ _ _ _
           ·have nY:FU.eval px=.func (.func g) #[] (cap.map (conc c₂)).toArray:=by rw[YH];simp[conc,fq]
            simp only[resolve,rangeCall,nY]
            simp[go_sem,Act.eval]
           ·simp[invoke,go_sem,ken]
           ·intro hd;exact absurd hd (by decide)
           ·have An:((V.BT J.h.next::cap).map (conc cB)).toArray = #[.func (.yield (I.heap.size+1)) #[] #[]]++(cap.map (conc c₂)).toArray:=by
             apply Array.ext'
             simp only[dQ,conc,hN,Y2,(mM eG DP).1]
             simp
            unfold eo at kc
            rw[An] at kc
            refine GJ (r:=none) (Calls.mono kc ?_)
            rintro e MM ⟨BN,rfl,_,VE,Y3⟩
            rw[hN] at FI
            have acL:c₂.N<BN.N:=VE.live _ _ FI
            have abY:BN.ρ c₂.N=(I.heap.size+1,0):=by rw[Y3.ext.ρ c₂.N (by omega),Y2]
            rw[hN] at uS
            obtain⟨rr,Qd,hnb,hpd⟩:=uS BN MM (VE.obj c₂.N _ FI)
            obtain⟨aai,Y4⟩:=VE.endLoop (r:={ rr with state:=.exhausted }) FI abX Qd
            rw[abY] at Qd aai Y4
            refine⟨rr.pending,_,run_endLoop Qd hnb,?_⟩
            obtain⟨Qe,Y5⟩:∃Qe,Qe=MM.putObj (I.heap.size+1) (.loop { rr with state:=.exhausted }):=⟨_,rfl⟩
            rw[←Y5] at aai Y4
            -- all of it so far, pas one step
            have T_:bZ c₂ I BN Qe:=((fM.trans stB).trans Y3).trans Y4
            -- the block for the rounds' deferred calls
            have nB:∀id,id<cB.N→(cB.ρ id).1≠I.heap.size:=fun id hi=>by
             by_cases h1:id<c₂.N
             ·rw[eG.ρ id h1];exact abr id h1
             ·have:id=c₂.N:=by omega
              rw[this,Y2];simp
            have hDB:((I.alloc (.deferred (some []))).alloc O).heap[I.heap.size]?=some (.deferred (some [])):=by
             rw[gA,aj (by omega)];exact hDA
            have abu:I.heap.size<((I.alloc (.deferred (some []))).alloc O).heap.size:=(Array.getElem?_eq_some_iff.1 hDB).1
            obtain⟨acM,acN⟩:=Y3.Lb abu nB
            have abZ:MM.heap[I.heap.size]?=some (.deferred (some [])):=acN.trans hDB
            have aar:Qe.heap[I.heap.size]?=some (.deferred (some [])):=by rw[Y5];exact(World.putObj_heap_other (by omega)).trans abZ
            have aaa:cX BN J.env J.ak { FU with defers:=[{ target:=.collected I.heap.size,args := #[] }]++FU.defers }:=(B5.ext T_.ext).defers _
            have fin:∀(MY:Ctx) (S2:Act) (MZ:World),Rel MY s.h MZ→cX MY s.env s.ak S2→bZ BN Qe MY MZ→S2.defers=[{ target:=.collected I.heap.size,args := #[] }] →
              LeavesInM Fence.wide 0 C.P fn S2.tmps (fun e w'=>∃c',e=.returned (conc c' v)∧wf c' v∧Rel c' cV w'∧bZ c w c' w') S2.defers .returning MZ:=by
             intro MY S2 MZ abv abw Ua abx
             have aby:I.heap.size<Qe.heap.size:=(Array.getElem?_eq_some_iff.1 aar).1
             obtain⟨acO,acP⟩:=Ua.Lb aby acM
             have ab0:MZ.heap[I.heap.size]?=some (.deferred (some [])):=acP.trans aar
             have abz:Rel MY s.h (MZ.putObj I.heap.size (.deferred none)):=abv.other acO
             have HF:bZ c w MY (MZ.putObj I.heap.size (.deferred none)):=(((nL.trans EN).trans T_).trans Ua).YX (cu nL.size EN.size)
             rw[abx]
             refine⟨by simp,.inl ⟨I.heap.size,_,rfl,run_takeDeferred ab0,?_⟩⟩
             cases B7:mapO (resV C.P s) fn.results.toList with
             |none=>simp[B7] at vK
             |some vs =>
              obtain⟨q1,q2⟩:=nm abz abw B7
              refine⟨_,q1,MY,?_⟩
              rw[B7] at vK
              split at vK
              ·rename_i v0 A4
               simp only[ay] at A4
               subst A4
               simp only[ay,bz] at vK
               obtain⟨rfl,rfl⟩:=vK
               exact⟨by simp,q2 v0 (by simp),abz,HF⟩
              ·rename_i vs' nM A4
               simp only[ay] at A4
               subst A4
               simp only[ay,bz] at vK
               obtain⟨rfl,rfl⟩:=vK
               refine⟨?_,by simp only[wf,gT];exact q2,abz,HF⟩
               rw[dif_neg]
               ·simp[conc,fq]
               ·intro eH
                simp only[List.size_toArray,eL] at eH
                obtain⟨v0,rfl⟩:=List.length_eq_one_iff.1 eH
                exact nM v0 rfl
              ·cases vK
            rw[←Y5]
            rcases hpd with⟨hp,ex,fW,hex⟩|⟨hp,hs⟩
            ·rw[hp]
             refine wpIn_mono (hS pt _ ex s fW none BN _ Qe aai aaa) ?_
             rintro e S2 MZ ⟨rfl,ab1,MY,abv,abw,Ua⟩
             have:=fin MY S2 MZ abv abw Ua (by rw[ab1,Y0];rfl)
             rcases hex with rfl|rfl
             ·exact this
             ·exact this
            ·rw[hp]
             subst hs
             exact wpIn_ret (fin BN _ Qe aai aaa (bZ.refl _ _) (by rw[Y0];rfl))
          split at hr
          ·rename_i acX acY acZ ac0 ac1 FI
           have one:∀ex s,ev C n pt ⟨J.env,J.ak,Cj.put J.h.next none⟩=some (ex,s)→(ex=.normal∨ex=.ret)→_→eo C.P f args c w v cV:=fun ex s fW hex vK=>tail _ s FI (by simp) (fun BN MM ho=>by
            obtain⟨ac2,acd,ac4,Qd,_⟩:=ho
            exact⟨_,Qd,by simp,.inl ⟨rfl,ex,fW,hex⟩⟩) vK
           split at hr
           ·rename_i s fW
            exact one .normal s fW (.inl rfl) hr
           ·rename_i s fW
            exact one .ret s fW (.inr rfl) hr
           ·cases hr
          ·rename_i FI
           exact tail _ ⟨J.env,J.ak,Cj.put J.h.next none⟩ FI (by simp) (fun BN MM ⟨rr,b1,b2,b3⟩=>⟨rr,b1,by simp[b2],.inr ⟨b3,rfl⟩⟩) hr
          ·cases hr
        ·cases hr
       ·cases hr
      ·cases hr
     ·cases hr
end
end Go.Proofs.YtiojppeahfoiaaaGreat.Am
namespace Go.Proofs.YtiojppeahfoiaaaGreat.Am
open Go
variable {L:tX} {X Y:aP} {C:eO} {c':Ctx} {δ:Dk} {ε ai SB:bq} {pg:bq→Int→List Nat} {lv dd:bq→Prop} {Q:Ex→List (Nat×V)→H→Prop} {fn:Func} {h h' σ:H} {d e z:Int} {P' B0:Int→List Nat} {YD:Int→Prop} {μ:Lg} {da db:List (Int×Int×Int×Int)} {now:List (Int×List Nat)} {l1 l2:List (Nat×Nat)} {E:List (Nat×V)} {S:List aP} {U:List Bool} {br:List cO} {ks:List Int} {data l pre rest cM R seen mk cell0:List Nat} {iC si rs f_ FF:List dA} {args cs Rt ds cs6:List V} {n tx pv nx a b q g r aE c i j N k B dn id M p4 p5 p6 f it mid clock A_ c0 aD ba ck rr Dg cost kV r1 r2 z0:Nat} {o:Oper} {x:Operand} {P:Program} {rc:dA} {ρ:YN} {A A1 A2:pH} {α:Type} {t:TypeId} {y dt av rv uv u dv cv wt fv kv mv zE bv ka kb wv nn:V} {w':World}
def rU (i:Nat)(c:Code): Code:=match rangeParts c with
 |some (a,b,_,_,_,uL,bd,t)=>match i with
  |0=>a
  |1=>b
  |2=>uL
  |3=>bd
  |_=>t
 |none=>.skip
section
theorem I0 {f:FuncId}{code a b t uL bd:Code}{lM:Nat}{ps:Array Tmp}{R:V→H→Prop}(hf:C.P.funcs[f]?=some fn)(hb:fn.body=some code)(hl:Nat.blt fn.ntmps args.length=false)(hp:rangeParts code=some (a,b,lM,x,ps,uL,bd,t))
 (hw:WP C fn.ntmps a (argE args 0) h fun ex E1 h1=>ex=.normal∧WP C fn.ntmps b E1 h1 fun ex E2 h2=>ex=.normal∧∃cap,bf E2 x=some (.fn (.func g) [] cap)∧∀env,iz env E2→∃u h3,fL C g (.BT h2.next::cap) (h2.new (.loop false fn.ntmps env ps.toList uL bd)) u h3 ∧
   ((T.get h3.tr h2.next=some (.loop false fn.ntmps env ps.toList uL bd)∧WP C fn.ntmps t E2 (h3.put h2.next none) fun ex E4 h4=>(match ex with|.exit _=>False|_=>True)∧∃v,resLE C.P E4 h4 fn.results.toList=some v∧R v h4) ∨
    (T.get h3.tr h2.next=some .DI∧∃v,resLE C.P E2 (h3.put h2.next none) fn.results.toList=some v∧R v (h3.put h2.next none)))):
  ∃v h2,(∃N0,∀N,N0≤N→toldRange C N f args h=some (v,h2))∧R v h2:=by
 obtain⟨N1,YH,abA,h1,E1,a1,a2,rfl,xO⟩:=hw _ (sW args)
 obtain⟨N2,r9,BM,h2,E2,b1,b2,rfl,cap,b4,pG⟩:=xO abA a2
 obtain⟨u,h3,⟨N3,c1⟩,La⟩:=pG BM b2
 have res:∀ {E4:List (Nat×V)} {I1:Env} {h4:H} {v:V},iz I1 E4→resLE C.P E4 h4 fn.results.toList=some v→∃vs,mapO (resV C.P ⟨I1,fn.ntmps,h4⟩) fn.results.toList=some vs∧(match vs with|[w]=>some w|vs=>some (.aO vs))=some v:=fun {E4 I1 h4 v} d2 I=>by
  unfold resLE at I
  cases hm:mapO (resE C.P E4 h4) fn.results.toList with
  |none=>rw[hm] at I;cases I
  |some vs =>
   rw[hm] at I
   refine⟨vs,vN (P:=C.P) (s:=⟨I1,fn.ntmps,h4⟩) d2 hm,?_⟩
   match vs,I with
   |[],I=>exact I
   |[_],I=>exact I
   |_::_::_,I=>exact I
 rcases La with⟨c2,La⟩|⟨c2,v,I,hR⟩
 ·obtain⟨N4,ex4,I1,h4,E4,d1,d2,hx,v,I,hR⟩:=La BM b2
  refine⟨v,h4,⟨max (max N1 N2) (max N3 N4),fun N hN => ?_⟩,hR⟩
  have m1:=dI (C:=C) (show N1≤N by omega) _ _ _ a1
  have m2:=dI (C:=C) (show N2≤N by omega) _ _ _ b1
  have m3:=lQ (dI (C:=C) (show N3≤N by omega)) c1
  have m4:=dI (C:=C) (show N4≤N by omega) _ _ _ d1
  obtain⟨vs,e3,J⟩:=res d2 I
  unfold toldRange
  simp only[hf,hb,hl,aL,hp,m1,m2,bN b2 b4,m3,c2,m4]
  cases ex4 with
  |exit i=>exact hx.elim
  |normal =>
   simp only[e3]
   match vs,J with
   |[],J=>simp only[ay] at J;rw[←J]
   |[_],J=>simp only[ay] at J;rw[←J]
   |_::_::_,J=>simp only[ay] at J;rw[←J]
  |ret =>
   simp only[e3]
   match vs,J with
   |[],J=>simp only[ay] at J;rw[←J]
   |[_],J=>simp only[ay] at J;rw[←J]
   |_::_::_,J=>simp only[ay] at J;rw[←J]
 ·refine⟨v,_,⟨max (max N1 N2) N3,fun N hN => ?_⟩,hR⟩
  have m1:=dI (C:=C) (show N1≤N by omega) _ _ _ a1
  have m2:=dI (C:=C) (show N2≤N by omega) _ _ _ b1
  have m3:=lQ (dI (C:=C) (show N3≤N by omega)) c1
  obtain⟨vs,e3,J⟩:=res b2 I
  unfold toldRange
  simp only[hf,hb,hl,aL,hp,m1,m2,bN b2 b4,m3,c2,e3]
  match vs,J with
  |[],J=>simp only[ay] at J;rw[←J]
  |[_],J=>simp only[ay] at J;rw[←J]
  |_::_::_,J=>simp only[ay] at J;rw[←J]
end
def M1 (f:FuncId)(args:List V)(h:H)(r:V×H): Prop:=∃I,∀N,I≤N→toldRange CB N f args h=some r
theorem Call.range {told:cC}{f:FuncId}{R:V→H→Prop}(ht:told f=some (iA Tryz.prog f (M1 f)))(hf:Tryz.prog.funcs[f]?=some fn)(hb:fn.body.isSome=true)
 (hd:∃v I,(∃J,∀N,J≤N→toldRange CB N f args h=some (v,I))∧R v I): Call ⟨Tryz.prog,told⟩ f args h R:=by
 obtain⟨v,I,⟨J,h0⟩,hR⟩:=hd
 obtain⟨r,e1,N1,h1⟩:=m5 (P:=Tryz.prog) (f:=f) (jG:=M1 f) (args:=args) (h:=h) (r:=(v,I)) ⟨J,h0⟩ (fun c w pK hw=>IZ (C:=CB) ew c6 (h0 J (aQ _)) pK hw)
 have:r=(v,I):=by
  have a:=h0 (max J N1) (by omega)
  have b:=h1 (max J N1) (by omega)
  rw[a] at b
  exact(b6 b).symm
 subst this
 exact⟨v,I,fL.told ht hf hb e1,hR⟩
structure WO (told:cC): Prop where
 wt:WT told
 sq:told 208=some (iA Tryz.prog 208 (M1 208))
theorem OpR.Ub {v r:V}{h₁:H}(I:o.op=.next x false)(J:bf E x=some v)(hf:nextV h v=some (r,h₁)): OpR C E h o fun w h'=>w=r∧h'=h₁ :=
 ⟨r,h₁,⟨rfl,rfl⟩,fun env hE=>⟨0,by simp only[evOp,I,bN hE J,hf];rfl⟩⟩
theorem FJ (I:h.tr.get it=some (.iter mid clock clock []))(J:h.tr.get mid=some (.map [] clock)): nextV h (.ptr it 0)=some (.aO [.bool false],h):=by
 have hb:Nat.ble clock clock=true:=by rw[aG];exact aQ _
 simp[nextV,nextAll,I,J,leftV,rq,hb]
section
variable {told:cC} {p m:Nat} {op:V}
theorem S3 (I:W told)(s:Sat h (pt b (.cells 1 [.map mid] false)::pt mid (.map [] clock)::S)):
  Call ⟨Tryz.prog,told⟩ 156 [y,.ptr b 0] h fun v h'=>v=.aO []∧Sat h' (pt b (.cells 1 [.map mid] false)::pt mid (.map [] clock)::S):=by
 have J:=s.row (k:=1) rfl
 refine Call.of_wp (I.free _ rfl) Tryz.func156 rfl rfl (zg rfl (zy s 0 pQ rfl (au.any rfl rfl rfl (OpR.range rfl rfl (show rangeV Tryz.prog h 142 (.map mid)=some (.ptr h.next 0,h.new (.iter mid clock clock [])) by simp only[rangeV,rT,J])) ?_)))
 rintro v h' ⟨rfl,rfl⟩
 have s:=s.new (.iter mid clock clock [])
 generalize h.next=it at s ⊢
 generalize h.new (.iter mid clock clock [])=h1 at s ⊢
 refine zv (WP.block (WP.loop (zg rfl (au.any rfl rfl rfl (OpR.Ub rfl rfl (FJ (s.row (k:=0) rfl) (s.row (k:=2) rfl))) ?_))))
 rintro v h' ⟨rfl,rfl⟩
 exact zk 4 rfl (WP.exit ⟨aa,_,rfl,rfl,s.drop⟩)
noncomputable def asA : Code:=rU 0 ((Tryz.f208.body).getD .skip)
noncomputable def asB : Code:=rU 1 ((Tryz.f208.body).getD .skip)
noncomputable def asS : Code:=rU 2 ((Tryz.f208.body).getD .skip)
noncomputable def asD : Code:=rU 3 ((Tryz.f208.body).getD .skip)
noncomputable def asT : Code:=rU 4 ((Tryz.f208.body).getD .skip)
theorem VV (s:Sat h (pt b (.cells 1 [.map mid] false)::pt mid (.map [] clock)::S)):
  ∃v J,(∃N0,∀n,N0≤n→toldRange CB n 208 [.aV,.fn (.func 156) [] [.ptr b 0]] h=some (v,J))∧v=.aV∧Sat J (pt b (.cells 1 [.map mid] false)::pt mid (.map [] clock)::S):=by
 have hT:=W.base
 refine I0 (C:=CB) (a:=asA) (b:=asB) (t:=asT) (uL:=asS) (bd:=asD) (lM:=0) (g:=156) (x:=.tmp 6) (ps := #[7]) ID rfl rfl (by kernel_rfl) ?_
 refine zr rfl (au.bP s rfl rfl rfl (dG rfl rfl) ?_)
 intro p2 h s
 dsimp only[V.cells,List.length_cons,List.length_nil,Nat.reduceAdd] at s
 refine za rfl (zv ?_)
 refine⟨rfl,?_⟩
 refine zr rfl (zm rfl (zv ?_))
 refine⟨rfl,_,rfl,fun env tv => ?_⟩
 have s:=s.new (.loop false 13 env [7] asS asD)
 have s:=s.ae [2,2]
 obtain⟨u,h3,I,rfl,s⟩:=S3 (y:=.BT h.next) hT s
 have s:=s.ae [2]
 refine⟨_,h3,I,.inl ⟨s.row (k:=0) rfl,?_⟩⟩
 have s:=s.kill
 generalize h3.put h.next none=h at s ⊢
 exact zg rfl (zy s 2 aaL rfl (zk 2 rfl (WP.ret ⟨aa,_,lR rfl,rfl,s.del 2⟩)))
theorem S4 (I:W told): Call ⟨Tryz.prog,told⟩ 234 [.int .u64 0] h fun v h'=>v=.int .i64 0∧h'=h:=by
 refine Call.of_wp (I.free _ rfl) Tryz.func234 rfl rfl (zK 8 rfl (zC rfl jj (by decide) ?_))
 refine zk 7 rfl (zC rfl jj (by decide) ?_)
 refine zk 7 rfl (zC rfl jj (by decide) ?_)
 refine zk 7 rfl (zo rfl (bO rfl (by exact gB bM Tryz.underlying5 (vS (by omega) (by omega)))) ?_)
 refine zo rfl (yx rfl rfl (r:=.int .u8 0) (by simp only[indexV,vX];rfl)) ?_
 refine zo rfl (bO rfl (by exact gB Tryz.underlying5 bF (az (by omega) (by omega)))) ?_
 refine zb rfl (by exact aW (az (by omega) (by omega))) ?_
 exact zk 2 rfl (WP.ret ⟨aa,_,rfl,rfl,rfl⟩)
theorem VW (I:W told): Call ⟨Tryz.prog,told⟩ 210 [.int .u64 0] h fun v h'=>v=.int .i64 0∧h'=h:=by
 refine Call.of_wp (I.free _ rfl) Tryz.func210 rfl rfl (zK 10 rfl (zc rfl (S4 I) ?_))
 rintro v h' ⟨rfl,rfl⟩
 exact zk 2 rfl (WP.ret ⟨aa,_,rfl,rfl,rfl⟩)
theorem Qf (I:W told): Call ⟨Tryz.prog,told⟩ 224 [.aV,.int .i64 0,.int .i64 0] h fun v h'=>v=.aO []∧h'=h:=by
 refine Call.of_wp (I.free _ rfl) Tryz.func224 rfl rfl (zK 3 rfl (zb rfl (by exact aW (az (by omega) (by omega))) ?_))
 refine zk 2 rfl (WP.block (WP.loop (zK 5 rfl (zC rfl aT (by simp) ?_))))
 exact zk 2 rfl (WP.exit ⟨aa,_,rfl,rfl,rfl⟩)
theorem VX (I:W told){l:V}: Call ⟨Tryz.prog,told⟩ 209 [.aV,.int .i64 0,.int .i64 0,l] h fun v h'=>v=.aO []∧h'=h:=by
 refine Call.of_wp (I.free _ rfl) Tryz.func209 rfl rfl (zK 8 rfl (WP.block (WP.loop (WP.block (zK 4 rfl (zb rfl (by exact g9 (az (by omega) (by omega))) ?_))))))
 refine zk 6 rfl (zB rfl yB (by simp) ?_)
 refine zk 7 rfl (zc rfl (Qf I) ?_)
 rintro v h' ⟨rfl,rfl⟩
 exact zv (WP.ret ⟨aa,_,rfl,rfl,rfl⟩)
theorem Qg (I:W told): Call ⟨Tryz.prog,told⟩ 155 [.aV] h fun v h'=>v=.aO []∧h'=h:=by
 refine Call.of_wp (I.free _ rfl) Tryz.func155 rfl rfl (zK 3 rfl (zo rfl (a_ rfl rfl rfl (tH rfl Tryz.underlying33)) (zk 6 rfl (zo rfl (bO (r:=.int .u64 0) rfl (gB bF Tryz.underlying308 rfl)) (zc rfl (VW I) ?_)))))
 rintro v h' ⟨rfl,rfl⟩
 refine zc rfl (VX I) ?_
 rintro v h' ⟨rfl,rfl⟩
 exact zv ⟨aa,_,rfl,rfl,rfl⟩
theorem S5 (I:WO told)(s:Sat h (pt b (.cells 1 [.map mid] false)::pt mid (.map [] clock)::S)):
  Call ⟨Tryz.prog,told⟩ 154 [.fn (.func 156) [] [.ptr b 0]] h fun v h'=>v=.aV∧Sat h' (pt b (.cells 1 [.map mid] false)::pt mid (.map [] clock)::S):=by
 refine Call.of_wp (I.wt.wr.w.free _ rfl) Tryz.func154 rfl rfl (zK 7 rfl (zc rfl (Call.range I.sq ID rfl (VV s)) ?_))
 rintro v h ⟨rfl,s⟩
 exact zk 2 rfl (WP.ret ⟨aa,_,rfl,rfl,s⟩)
theorem M3 (I:WO told)(s:Sat h (pt b (.cells 1 [.map mid] false)::pt mid (.map [] clock)::S)):
  Call ⟨Tryz.prog,told⟩ 82 [.fn (.func 156) [] [.ptr b 0]] h fun v h'=>v=.aV∧Sat h' (pt b (.cells 1 [.map mid] false)::pt mid (.map [] clock)::S):=by
 refine Call.of_wp (I.wt.wr.w.free _ rfl) Tryz.func82 rfl rfl (zK 7 rfl (zc rfl (S5 I s) ?_))
 rintro v h ⟨rfl,s⟩
 refine zk 5 rfl (zc rfl (Qg I.wt.wr.w) ?_)
 rintro v h' ⟨rfl,rfl⟩
 exact zk 6 rfl (WP.ret ⟨aa,_,rfl,rfl,s⟩)
end
section
variable {told:cC} {p m:Nat} {op ch:V} {kd:Int}
theorem VY (J:W told){z:V}(I:(dK kd 0 pv nx dt ch).all storable=true)(s:Sat h S): Call ⟨Tryz.prog,told⟩ 81 [y,.agg (dK kd 0 pv nx dt ch),z] h fun v h'=>v=.aO []∧Sat h' S:=by
 refine Call.of_wp (J.free _ rfl) Tryz.func81 rfl rfl (zg rfl (au.bP s rfl rfl rfl (dG rfl I) ?_))
 intro p4 h s
 exact zk 4 rfl (zY s 0 D3 cS rfl (zB rfl dh (rfl) (zk 7 rfl (WP.ret ⟨aa,_,rfl,rfl,s.drop⟩))))
noncomputable def toL : Code:=cm [1,1,1,0,1,0,0] ((Tryz.f36.body).getD .skip)
theorem M4 (hT:WO told)(hl:LR ba ck mk rs ε.2)(CP:ε.2.1.Ok)(h0:∀y∈rs,y.tx=0): ∀(R2 J:List dA) (h:H) (E:List (Nat×V)) (Q:Ex→List (Nat×V)→H→Prop),rs=J++R2→Sat h (c7 a p q r op data aE::bx q p ε.2.1::S) →
  Has E [(0,.ptr a 0),(6,.ptr m 0),(9,.int .u64 ((ba+szB J:Nat):Int))]→(∀E' h',Has E' [(0,.ptr a 0),(6,.ptr m 0)]→Sat h' (c7 a p q r op data aE::bx q p ε.2.1::S)→Q (.exit 0) E' h')→WP ⟨Tryz.prog,told⟩ 105 (.loop toL) E h Q:=by
 have hW:=hT.wt.wr.w
 intro R2
 induction R2 with
 |nil =>
  intro J h E Q I s hE hq
  rw[iW] at I
  subst I
  have uS:((ba+szB rs:Nat):Int)=(ε.2.1.base:Int)+(ε.2.1.b.length:Int):=by rw[hl.base,hl.b,j4];omega
  refine WP.loop (WP.has hE (WP.block (zK 3 rfl (zc rfl (AK hW s) ?_))))
  rintro v h' ⟨rfl,rfl⟩
  rw[uS]
  refine zm rfl (zc rfl (Fy hW (s.ae [1]) CP) ?_)
  rintro v h ⟨rfl,s⟩
  refine zk 4 rfl ?_
  refine au.bP s rfl rfl rfl (bR pP) (fun Oz h s => ?_)
  dsimp only[V.cells,List.length_cons,List.length_nil,Nat.reduceAdd,aK,bringA] at s
  refine zS rfl (s.fM (j:=0) rfl fe rfl rfl) (fun h s => ?_)
  dsimp only[dK,setA] at s
  exact zk 7 rfl (zB rfl aA (rfl) (zk 2 rfl (WP.exit (hq _ _ ⟨rfl,rfl,aa⟩ ((s.ae [2,1]).del 2)))))
 |cons y R2 ih =>
  intro J h E Q I s hE hq
  have hy:y.tx=0:=h0 y (by rw[I];simp)
  refine WP.loop (WP.has hE (WP.block (zK 3 rfl (zc rfl (AK hW s) ?_))))
  rintro v h' ⟨rfl,rfl⟩
  refine zm rfl (zc rfl (IS hT.wt.wr (iC:=J) (si:=R2) (y:=y) (by rw[←I];exact hl) CP (s.ae [1])) ?_)
  rintro v h ⟨dt,ch,cs',rfl,s⟩
  rw[hy]
  have fW:(V.agg (dK (y.kd:Int) 0 y.pv y.nx dt ch)).cells.all storable=true:=lF (s.buf (k:=1) rfl).view.cells.2 (s.jk (j:=2) rfl).2.1
  refine zk 4 rfl ?_
  refine au.bP s rfl rfl rfl (bR pP) (fun Oz h s => ?_)
  dsimp only[V.cells,List.length_cons,List.length_nil,Nat.reduceAdd,aK,bringA] at s
  refine zS rfl (s.fM (j:=0) rfl fe rfl fW) ?_
  intro h s
  dsimp only[dK,setA] at s
  refine zk 7 rfl (zC rfl aA (rfl) (zk 6 rfl (zl rfl (s.cK (k:=0) rfl ju fe) (zm rfl (zc rfl (VY hW (kd:=(y.kd:Int)) (pv:=y.pv) (nx:=y.nx) (dt:=dt) (ch:=ch) fW s) ?_)))))
  rintro v h ⟨rfl,s⟩
  refine zv (zr rfl (zk 2 rfl (zv ?_)))
  exact ih (J++[y]) _ _ Q (by rw[I,dB];rfl) (((s.ae [5,1]).del 5 |>.del 4 |>.del 3 |>.del 2)) ⟨rfl,rfl,by rw[gJ,ko,←oQ];rfl,aa⟩ hq
theorem S6 (I:W told)(s:Sat h S): Call ⟨Tryz.prog,told⟩ 83 [.map mid] h fun v h'=>∃b,v=.fn (.func 156) [] [.ptr b 0]∧Sat h' (pt b (.cells 1 [.map mid] false)::S):=by
 refine Call.of_wp (I.free _ rfl) Tryz.func83 rfl rfl (zg rfl (au.bP s rfl rfl rfl (dG rfl rfl) ?_))
 intro b h s
 exact zk 4 rfl (zo rfl (sB rfl rfl) (zk 2 rfl (WP.ret ⟨aa,_,rfl,b,rfl,s⟩)))
theorem S7 (I:W told): Call ⟨Tryz.prog,told⟩ 85 [.aV] h fun v h'=>v=.int .i64 0∧h'=h:=by
 exact Call.of_wp (I.free _ rfl) Tryz.func85 rfl rfl (zK 7 rfl (zo rfl (a_ rfl rfl rfl (tH rfl Tryz.underlying164)) (zk 2 rfl (WP.ret ⟨aa,_,rfl,rfl,rfl⟩))))
theorem S8 (hT:WO told)(hl:LR ba ck mk rs ε.2)(CP:ε.2.1.Ok)(h0:∀y∈rs,y.tx=0)(s:Sat h (SA a p q r .aZ [] 0 ε::S)):
  Call ⟨Tryz.prog,told⟩ 36 [.ptr a 0,jA c] h fun v h'=>∃m,v=.aO [.ptr m 0,.int .i64 0]∧Sat h' (gM m a 1 (jA c) []::SA a p q r .aZ [] 0 ε::S):=by
 have I:=hT.wt.wr.w
 refine Call.of_wp (I.free _ rfl) Tryz.func36 rfl rfl (zg rfl (za rfl (za rfl (zv (zg rfl (zm rfl (zm rfl ?_)))))))
 refine au.yC s rfl rfl rfl rfl (fun J h s => ?_)
 refine zo rfl (cx (r:=.agg [.ptr a 0,jA c,.map J,.int .u64 ((1:Nat):Int)]) rfl (by rw[Zv];rfl)) ?_
 refine au.bP s rfl rfl rfl (dG rfl rfl) ?_
 intro m h s
 dsimp only[V.cells,List.length_cons,List.length_nil,Nat.reduceAdd] at s
 have s:=bg.1 (s.ae [2])
 dsimp only[aK,bringA,List.cons_append,List.nil_append] at s
 refine za rfl (zv (zw (zg rfl (zm rfl (au.call rfl rfl rfl rfl rfl rfl rfl (Mu I s (by decide)) ?_)))))
 rintro v h ⟨w,rfl,s⟩
 refine zm rfl (ze rfl (ze rfl (za rfl (za rfl (zv (zg rfl (zm rfl (zo rfl (a_ rfl rfl rfl (by exact bA aN (s.aI (k:=0) rfl (aY _ _)))) ?_))))))))
 refine au.mG rfl rfl rfl (aq rfl rfl dh) (by simp) ?_
 refine zv (zj rfl (WP.skip (zw (zg rfl (zm rfl ?_)))))
 have s:=s.ae [1]
 dsimp only[bringA,getA,aK] at s
 refine au.call rfl rfl rfl rfl rfl rfl rfl (AK I s) ?_
 rintro v h' ⟨rfl,rfl⟩
 refine au.call rfl rfl rfl rfl rfl rfl rfl (uz I (s.ae [3])) ?_
 rintro v h' ⟨rfl,rfl⟩
 rw[hl.base]
 refine za rfl (zv (WP.block ?_))
 have s:=s.ae [0,2]
 dsimp only[bringA,getA,aK] at s
 refine M4 hT hl CP h0 rs [] _ _ _ rfl s ⟨rfl,rfl,by rw[szB,mj];rfl,aa⟩ fun E' h' eS s' => ?_
 have s:=s'
 refine WP.has eS (zg rfl ?_)
 refine au.bP s rfl rfl rfl (bR Zz) (fun p13 h s => ?_)
 dsimp only[V.cells,List.length_cons,List.length_nil,Nat.reduceAdd] at s
 refine zv (zw (zg rfl (zm rfl (zn rfl (zf rfl (my _ _) (zl rfl (by exact s.ld (k:=6) rfl pQ rfl) ?_))))))
 have s:=s.ae [6,6]
 dsimp only[bringA,getA,aK] at s
 refine au.call rfl rfl rfl rfl rfl rfl rfl (S6 I s) ?_
 rintro v h ⟨b,rfl,s⟩
 have s:=s.ae [0,1]
 dsimp only[bringA,getA,aK] at s
 refine au.call rfl rfl rfl rfl rfl rfl rfl (M3 hT s) ?_
 rintro v h ⟨rfl,s⟩
 have s:=s.ae [2]
 dsimp only[bringA,getA,aK] at s
 refine zo rfl (a_ rfl rfl rfl (by exact tH rfl Tryz.underlying33)) ?_
 refine zm rfl (zv (WP.block (WP.loop (zg rfl (au.mG rfl rfl rfl (aq rfl rfl aT) (by decide) ?_)))))
 refine zv (zw (zj rfl (WP.exit (zw (WP.block (WP.loop (zw (zg rfl (zl rfl (by exact s.ld (k:=3) rfl Zy rfl) ?_)))))))))
 refine au.call rfl rfl rfl rfl rfl rfl rfl (S7 I) ?_
 rintro v h' ⟨rfl,rfl⟩
 refine au.mG rfl rfl rfl (aq rfl rfl er) (by decide) ?_
 refine zv (zj rfl (WP.exit (zg rfl (zm rfl (za rfl (za rfl (zv ?_)))))))
 refine WP.ret ⟨aa,_,rfl,?_⟩
 have s:=s.ae [4,6,4,5]
 dsimp only[bringA,getA,aK] at s
 have s:Sat _ (SA a p q r .aZ [] 0 ε::_):=bg.2 s
 have s:=s.ae [3]
 dsimp only[bringA,getA,aK] at s
 have s:=Hg (κ:=.u64) (f:=fun v (r:Nat)=>.pu (v=.ptr r 0)) s
 have s:Sat _ (kL []::_):=(s.gh (φ:=True) aa)
 have s:=s.ae [3,1,0]
 dsimp only[bringA,getA,aK] at s
 have s:Sat _ (gM m a 1 (jA c) []::_):=fc.2 ⟨.map J,s⟩
 exact⟨m,rfl,(s.del 4 |>.del 3 |>.del 2)⟩
end
structure WX (told:cC): Prop where
 wo:WO told
 fmt:told 79=some (iA Tryz.prog 79 (u7 79))
 mkd:told 80=some (iA Tryz.prog 80 (u7 80))
 add:told 26=some (iA Tryz.prog 26 (MW CK 26))
theorem WX.w {told:cC}(h:WX told): W told:=h.wo.wt.wr.w
theorem LR.fresh {m:Nat}: LR 1 0 [] [] (Am.fresh n m f).2 :=
 ⟨rfl,rfl,rfl,rfl,rfl,rfl,(show(-1:Int)<0 by decide),rfl,rfl,rfl,fun w hw=>(by cases hw),fun r I=>(by cases I)⟩
section
variable {told:cC} {p:Nat}
theorem VZ (hw:NW N now)(h:∀i:Int,2≤i→lookL i now=none): now.length≤2:=by
 have:=uG 2 _ hw.nodup fun n I=>by
  have:=hw.keys n I
  refine⟨this.1,Int.not_le.1 fun J => ?_⟩
  have h3:=h n J
  grind[jw]
 rwa [eL] at this
theorem S9 (hT:WX told)(hM1:40000≤M)(hM2:M≤262144)(CJ:1≤n)(hn:n≤50)(s:Sat h (aJ p (Dk.fresh 32 M)::S)):
  Call ⟨Tryz.prog,told⟩ 34 [.ptr p 0,.int .i64 16,.int .i64 (n:Int)] h fun v h'=>∃c m a q r rs ε,v=.aO [.ptr c 0,.int .i64 0]∧TxI 32 5 M 1 0 [] rs ε∧gL 32 n 2 (List.replicate 400 0) (pgA ε)∧szB rs≤3200∧1≤szB rs ∧
   Sat h' (pt c (.cells 2 [.ptr m 0,.int .i64 (n:Int)] false)::gM m a 1 (jA c) []::SA a p q r .aZ [] 0 ε::S):=by
 have hW:=hT.w
 have abB:cg (List.replicate 512 0)=false:=by decide +kernel
 have hz:(pgA (fresh 32 M 16) 0).length=512:=by rw[FC];exact fD
 have hg:cg (pgA (fresh 32 M 16) 0)=false:=by rw[FC];exact abB
 refine Call.of_wp (hW.free _ rfl) Tryz.func34 rfl rfl (zK 9 rfl (zC rfl aT (by simp;omega) ?_))
 refine zk 2 rfl (zC rfl er (by simp;omega) ?_)
 refine zk 8 rfl (zc rfl (JL (n:=16) hW s (by decide) (by decide) rfl rfl rfl rfl) ?_)
 rintro v h ⟨a,q,r,rfl,s⟩
 have s:Sat h (SA a p q r .aZ [] 0 (fresh 32 M 16)::S):=bg.2 s
 have J:EI 32 1 (fresh 32 M 16):=EI.fresh (by decide) (by omega) (by decide) (by decide)
 have BZ:LR 1 0 [] [] (fresh 32 M 16).2:=LR.fresh
 have xF:(fresh 32 M 16).2.2.room=M:=rfl
 have T9:vw FT (fresh 32 M 16):=fun n rec h=>by cases h
 generalize fresh 32 M 16=SB at s J BZ xF hz hg T9
 have hI0:TxI 32 1 M 1 0 [] [] SB:=⟨J,BZ,xF,T9⟩
 refine zk 10 rfl (zC rfl aA (rfl) (zk 6 rfl (zo rfl (qW rfl (mki_of C6 rfl)) (zc rfl (xQ hW (MD hW (by decide)) J (by decide) hz hg s) ?_))))
 rintro v h ⟨oJ,rfl,nT,fV,s⟩
 have I:=hI0.sm nT fV
 refine zk 10 rfl (zB rfl dh (rfl) (zk 2 rfl (zo rfl (dM rfl rfl) (zk 5 rfl (zc rfl (Call.defer hT.fmt Ia rfl (PI (K:=0) (M:=M) (by decide) I.ei (by decide) (by decide) (by rw[fV.1];exact hz) (by rw[fV.1];exact hg) ⟨Nat.le_of_eq (by rw[I.len];rfl),I.rm⟩ (by omega) s)) ?_)))))
 rintro v h ⟨rfl,u6,tV,C2,_,s,xm,now,aD,sg,kH,pG,abC,PJ⟩
 have hI3:=I.sm sg kH
 obtain⟨_,_,_,_,c1,aaj,Qh⟩:=hI3.done (L:=2) (kd:=1) PJ (by decide) pG (VZ pG abC) (by decide) (by decide) (by decide) (by decide) (by decide) (by decide) (by decide) (by decide) (by simp only[szB];omega)
 refine zk 6 rfl (zC rfl aA (rfl) (zk 6 rfl (zo rfl (cx (r:=.agg [.aZ,.int .i64 (n:Int)]) rfl (by rw[Zt];rfl)) ?_)))
 refine au.bP s rfl rfl rfl (dG rfl rfl) ?_
 intro c h s
 have abp:szB ([]++[(⟨1,0,0,0,[],c1⟩:dA)])≤1080:=by rw[dY,ko];exact aaj
 refine zk 7 rfl (zc rfl (Call.defer hT.mkd IC rfl (SY (by decide) Qh (by omega) (by decide) (by decide) C2 CJ hn (by omega) s)) ?_)
 rintro v h ⟨c2,Ss,rfl,YW,CT,Qc,s⟩
 refine zk 5 rfl (zC rfl aA (rfl) (zk 9 rfl (zo rfl (cx (r:=.agg [.ptr c 0]) rfl (by rw[Zx];rfl)) ?_)))
 refine zo rfl (qW rfl (mki_of Tryz.underlying161 rfl)) ?_
 have s:=s.ae [1]
 have qi:∀y∈[]++[(⟨1,0,0,0,[],c1⟩:dA)]++[⟨1,0,0,0,[],c2⟩],y.tx=0:=by
  intro y hy
  simp only[dY,ie,jI,kZ,oR] at hy
  rcases hy with rfl|rfl<;>rfl
 refine zc rfl (S8 (c:=c) hT.wo Qc.lr Qc.ei.ok.ok.lg qi s) ?_
 rintro v h ⟨m,rfl,s⟩
 refine zk 4 rfl (zf rfl (qB _ _) (zS rfl (s.dO (k:=2) rfl aaN rfl (show 0+0<2 by decide) rfl rfl) ?_))
 intro h s
 exact zk 5 rfl (zC rfl aA (rfl) (zk 9 rfl (WP.ret ⟨aa,_,rfl,c,m,a,q,r,_,Ss,rfl,Qc,YW,by rw[gJ,ko];have:(dA.mk 1 0 0 0 [] c2).len≤2120:=CT;omega,by rw[gJ,ko];have:1≤(dA.mk 1 0 0 0 [] c2).len:=(by show 1≤8+_;omega);omega,s.ae [2,0,0]⟩)))
end
section
variable {told:cC} {p m:Nat} {cell:List Nat}
theorem M5 (J:W told)(s:Sat h S): Call ⟨Tryz.prog,told⟩ 23 [] h fun v h'=>∃p,v=.ptr p 0∧Sat h' (aJ p (Dk.fresh 32 262144)::S):=by
 refine Call.of_wp (J.free _ rfl) Tryz.func23 rfl rfl (zK 6 rfl (zc rfl (Kv (n:=32) (m:=262144) J s) ?_))
 rintro v h (⟨I,_⟩|⟨_,_,_,_,p,rfl,s⟩)
 ·exact absurd ⟨by decide,by decide,by decide,by decide⟩ I
 exact zk 10 rfl (zC rfl aA (rfl) (zk 8 rfl (WP.ret ⟨aa,_,rfl,p,rfl,s⟩)))
theorem FK (hT:WX told)(I:40000≤M)(J:M≤262144)(CJ:1≤n)(hn:n≤50)(s:Sat h (aJ p (Dk.fresh 32 M)::S)):
  Call ⟨Tryz.prog,told⟩ 22 [.ptr p 0,.int .i64 16,.int .i64 (n:Int)] h fun v h'=>∃c m a q r rs ε,v=.ptr c 0∧TxI 32 5 M 1 0 [] rs ε∧gL 32 n 2 (List.replicate 400 0) (pgA ε)∧szB rs≤3200∧1≤szB rs ∧
   Sat h' (pt c (.cells 2 [.ptr m 0,.int .i64 (n:Int)] false)::gM m a 1 (jA c) []::SA a p q r .aZ [] 0 ε::S):=by
 refine Call.of_wp (hT.w.free _ rfl) Tryz.func22 rfl rfl (zK 8 rfl (zC rfl (uB Tryz.underlying25) (rfl) (zk 8 rfl (zc rfl (S9 hT I J CJ hn s) ?_))))
 rintro v h ⟨c,m,a,q,r,rs,ε,rfl,h1,h2,h3,h4,s⟩
 exact zk 10 rfl (zC rfl aA (rfl) (zk 8 rfl (WP.ret ⟨aa,_,rfl,c,m,a,q,r,rs,ε,rfl,h1,h2,h3,h4,s⟩)))
theorem lZ (I:W told)(s:Sat h (pt c (.cells 2 [.ptr m 0,.int .i64 (n:Int)] false)::S)): Call ⟨Tryz.prog,told⟩ 24 [.ptr c 0] h fun v h'=>v=.ptr m 0∧h'=h:=by
 exact Call.of_wp (I.free _ rfl) Tryz.func24 rfl rfl (zK 8 rfl (zY s 0 qB mT rfl (zk 2 rfl (WP.ret ⟨aa,_,rfl,rfl,rfl⟩))))
theorem I2 (J:W told)(hB:B≤2000)(I:EI 32 B ε)(hp:gL 32 n k cell (pgA ε))(hn:n≤50)(s:Sat h (pt c (.cells 2 [.ptr m 0,.int .i64 (n:Int)] false)::gM m a nx u L::SA a p q r .aZ data aE ε::S)):
  Call ⟨Tryz.prog,told⟩ 29 [.ptr c 0,.int .i64 z] h fun v h'=>∃ai,EI 32 B ai∧Sm 32 ε ai∧v=(if 0≤z∧z<n then .aO [.int .i64 (IntKind.wrap .i64 (dP cell z.toNat:Nat)),.int .i64 0] else .aO [.int .i64 0,.int .i64 1]) ∧
   Sat h' (pt c (.cells 2 [.ptr m 0,.int .i64 (n:Int)] false)::gM m a nx u L::SA a p q r .aZ data aE ai::S):=by
 obtain⟨av,s⟩:=fc.1 (s.ae [1])
 refine(SF J hB I hp hn (m:=m) (nx:=nx) (uv:=u) (av:=av) (i:=z) (s.ae [4,3,0])).mono ?_
 rintro v h ⟨ai,h1,h2,h3,s⟩
 have s:=s.ae [2,2,2]
 have s:Sat h (gM m a nx u L::_):=fc.2 ⟨av,s⟩
 exact⟨ai,h1,h2,h3,s.ae [2,0,0]⟩
theorem I3 (hT:WX told)(hB:B≤900)(hI:TxI N B M ba ck mk rs ε)(J:1≤ba)(lI:ba+szB rs≤1000000)(hN:N≤1024)(jD:tY L)(hx:L[j]?=some (id,rr,A))(jS:id<2097152)(rZ:A.fg<2097152)(CE:A.dn.length≤1000)
 (I:szB rs+7300+oB L≤M)(hM:M≤16777216)(hp:gL N n k cell (pgA ε))(hi:i<n)(hn:n≤50)(hd:IntKind.wrap .u64 d=(dn:Int))(m9:dn<18446744073709551616)
 (s:Sat h (pt c (.cells 2 [.ptr m 0,.int .i64 (n:Int)] false)::gM m a nx u L::SA a p q r .aZ data aE ε::S)):
  Call ⟨Tryz.prog,told⟩ 26 [.ptr c 0,.int .u64 (id:Int),.int .i64 (i:Int),.int .i64 d] h fun v h2=>∃c' cost ai,v=.int .i64 0∧gL N n k (mF cell i ((dP cell i+dn)%18446744073709551616)) (pgA ai) ∧
   (dA.mk 1 id A.fg 0 (i::le 8 dn) c').len≤560∧cost≤1656∧TxI N (B+2) M ba ck mk (rs++[⟨1,id,A.fg,0,i::le 8 dn,c'⟩]) ai ∧
   Sat h2 (pt c (.cells 2 [.ptr m 0,.int .i64 (n:Int)] false)::gM m a nx u (L.set j (id,rr,A.more (ba+szB rs) cost [(k:Int)]))::SA a p q r .aZ data aE ai::S) :=
 Call.YR (C:=CK) rfl SX hT.add IB rfl (YU hB hI J lI hN jD hx jS rZ CE I hM hp hi hn hd m9 s)
theorem BR : dP (List.replicate 400 0) i=0:=by
 have:∀l:List Nat,(∀x∈l,x=0)→leN l=0:=by
  intro l
  induction l with
  |nil=>intro _;rfl
  |cons x l J=>intro I;simp only[leN,I x c8,J fun y hy=>I y (cU _ hy)]
 exact this _ fun x I=>vg (nc (mg I))
theorem M6 (hT:WX told)(s:Sat h S): Call ⟨Tryz.prog,told⟩ 21 [] h fun v h'=>v=.bool true∧Sat h' S:=by
 have I:=hT.w
 refine Call.of_wp (I.free _ rfl) Tryz.func21 rfl rfl (zK 6 rfl (zc rfl (M5 I s) ?_))
 rintro v h ⟨p,rfl,s⟩
 refine zc rfl (FK (n:=2) hT (by decide) (by decide) (by decide) (by decide) s) ?_
 rintro v h ⟨c,m,a,q,r,rs,ε,rfl,hI,hp,eH,_,s⟩
 refine zk 6 rfl (zC rfl (uB Tryz.underlying50) (rfl) (zk 2 rfl (zc rfl (lZ I s) ?_)))
 rintro v h' ⟨rfl,rfl⟩
 refine zC rfl (uB Tryz.underlying54) (rfl) (zk 7 rfl (zc rfl (lZ I s) ?_))
 rintro v h' ⟨rfl,rfl⟩
 have s:=s.ae [1]
 refine zc rfl (IW I (by decide) (fun x hx=>by cases hx) s) ?_
 rintro v h ⟨rfl,rr,s⟩
 have s:=s.ae [1,0]
 have J:=hp.len
 have hc0:dP (List.replicate 400 0) 0=0:=BR
 generalize List.replicate 400 0=Z at hp J hc0
 refine zk 10 rfl (zc rfl (I3 (j:=0) (dn:=5) (i:=0) hT (by decide) hI (by decide) (by omega) (by decide) ⟨by simp,fun x hx=>by rw[List.mem_singleton.1 hx];exact⟨gR 1048576,gR 1048576,gR 1048576⟩⟩ rfl (by decide) (by decide) (by decide) (by simp[oB,kM,qd,ic];omega) (by decide) hp (by decide) (by decide) rfl (by decide) s) ?_)
 rintro v h ⟨c',cost,ai,rfl,Dc,_,_,Dn,s⟩
 have hv:dP (mF Z 0 ((dP Z 0+5)%18446744073709551616)) 0=5:=by rw[Ey J (by decide) (iY _ (by decide)),aC rfl,hc0]
 refine zk 5 rfl (zc rfl (I2 (z:=0) I (by decide) Dn.ei Dc (by decide) s) ?_)
 rintro v h ⟨u6,_,_,rfl,s⟩
 rw[aC (by decide),show(0:Int).toNat=0 from rfl,hv]
 exact zk 9 rfl (zB rfl dh (rfl) (zk 2 rfl (zB rfl dh (rfl) (zk 3 rfl (zB rfl dh (rfl) (zk 3 rfl (zB rfl dh (rfl) (zk 3 rfl (zB rfl dh (rfl) (zk 3 rfl (WP.ret ⟨aa,_,rfl,rfl,s.drop.drop.drop⟩)))))))))))
end
section
variable {told:cC} {p m:Nat}
theorem S_ (s:Sat h (gM m a nx u []::S)): ∃mid clock,Sat h (pt m (.cells 4 [.ptr a 0,u,.map mid,.int .u64 (nx:Int)] false)::pt mid (.map [] clock)::S):=by
 obtain⟨av,s⟩:=fc.1 s
 have s:=s.ae [1]
 obtain⟨mid,l,clock,rfl,hb,_,s⟩:=fG.1 s
 obtain⟨qa,qb,q1,q2,I⟩:=s.at (k:=1) rfl
 have J:l=[]:=List.map_eq_nil_iff.1 (nE I)
 subst J
 have s:Sat h (pt mid (.map [] clock)::_):=s
 have s:=s.ae [2]
 exact⟨mid,clock,s.del 3 |>.del 2⟩
theorem Ta (s:Sat h (pt m (.cells 4 [.ptr a 0,u,.map mid,.int .u64 (nx:Int)] false)::pt mid (.map [] clock)::S)): Sat h (gM m a nx u []::S):=by
 have s:Sat h (lS .u64 mid [] clock::_):=s.ae [1]
 have s1:Sat h (eW (fun v (r:Nat)=>.pu (v=.ptr r 0)) [] []::_):=s.gh (φ:=True) aa
 have s:=(fG (κ:=.u64) (f:=fun v (r:Nat)=>.pu (v=.ptr r 0)) (m:=[])).2 ⟨mid,[],clock,rfl,aa,oP,s1.ae [1]⟩
 have s2:Sat h (kL []::_):=s.gh (φ:=True) aa
 have s:=s2.ae [2,1,0]
 exact fc.2 ⟨_,s⟩
theorem Qi (hT:W told)(hB:B≤900)(hI:TxI N B M ba ck mk rs ε)(Dm:ε.1.bu=[])(lI:1≤ba)(h0:0<szB rs)(fu:szB rs+128≤M)(s:Sat h (gM m a nx u []::SA a p q r .aZ data aE ε::S)):
  Call ⟨Tryz.prog,told⟩ 77 [.ptr m 0] h fun v h'=>v=.int .i64 0∧∃ai rc J jz,(∀m,pgA ai m=pgA ε m)∧(dA.len rc)≤128∧TxI N (B+1) M (ba+szB rs) (ba+szB rs) (eC (ba+szB rs) (ba+szB rs)) [rc] ai ∧
   Sat h' (gM m a nx u []::SA a p q r .aZ J jz ai::S):=by
 have I:=hI.ei
 have hNm:=I.many
 have eH:=I.el.size
 have acQ:=I.bu
 obtain⟨mid,clock,s⟩:=S_ s
 have gm:=s.row (k:=1) rfl
 refine Call.of_wp (hT.free _ rfl) Tryz.func77 rfl rfl (zK 13 rfl (zY s 0 my pQ rfl (au.any rfl rfl rfl (OpR.range rfl rfl (show rangeV Tryz.prog h 142 (.map mid)=some (.ptr h.next 0,h.new (.iter mid clock clock [])) by simp only[rangeV,rT,gm])) ?_)))
 rintro v h' ⟨rfl,rfl⟩
 have s:=s.new (.iter mid clock clock [])
 generalize h.next=it at s ⊢
 generalize h.new (.iter mid clock clock [])=h1 at s ⊢
 refine zv (WP.block (WP.loop (zg rfl (au.any rfl rfl rfl (OpR.Ub rfl rfl (FJ (s.row (k:=0) rfl) (s.row (k:=2) rfl))) ?_))))
 rintro v h' ⟨rfl,rfl⟩
 refine zk 4 rfl (WP.exit (zw ?_))
 have s0:=s
 refine WP.drawn [some (0,2),some (0,2),some (0,2),some (0,2),some (0,2),af,af,af,af,af,af,af] rfl (by kernel_rfl) (by kernel_rfl) ?_
 have s:=s.mV
 refine zM rfl (zN rfl (zF rfl (lC _ _) (zL rfl (s.ld (k:=2) rfl lB rfl) (zM rfl (zM rfl (zN rfl (zF rfl (Ay _ _) (zL rfl (s.ld (k:=2) rfl cS rfl) (ax.any rfl rfl rfl rfl (OpR.call rfl rfl rfl rfl (oh (z:=8) (n:=nx) hT s (by decide) (by simp))) ?_)))))))))
 intro bv h s
 have s1:=s
 rw[dY] at s
 have s:=bg.1 (s.ae [4])
 have s:Sat h (c7 a p q r .aZ data aE::cL r p q ε.1::bx q p ε.2.1::aJ p ε.2.2::_):=s
 refine ax.any rfl rfl rfl rfl (OpR.call rfl rfl rfl rfl (Vm (lo:=0) hT s (aY _ _) I.ok.ok (by decide) (by omega) (fun n hn=>wf_i64 (I.ec.tU n hn).1 (by have:=(I.ec.tU n hn).2;omega)) I.el.log (by omega))) ?_
 rintro v h ⟨e,ai,J,jz,hr,rfl,s⟩
 obtain⟨rfl,rfl,rfl,fS,rc,tO,Dn⟩:=hI.H8 Dm I.ok.ok.lg.forced (by omega) lI h0 (by rw[cq];decide) fu hr
 have s:Sat h (SA a p q r .aZ (le 8 nx) (ba+szB rs) ai::_):=bg.2 s
 have s2:=s
 refine zA rfl ?_
 refine ax.nil ⟨⟨fun _ _=>.inr ⟨rfl,⟨_,aS rfl⟩,aB _ rfl⟩,fun _ _=>.inr ⟨rfl,⟨_,iL rfl⟩,aB _ rfl⟩,fun _ _=>.inr ⟨rfl,⟨_,g8 rfl (lC _ _)⟩,aB _ rfl⟩,dJ (.inr ⟨rfl,⟨_,aH rfl (s0.ld (k:=1) rfl lB rfl)⟩,aB _ rfl⟩) (.inr ⟨rfl,⟨_,aH rfl (s1.ld (k:=2) rfl lB rfl)⟩,aB _ rfl⟩),fun _ _=>.inr ⟨rfl,⟨_,aS rfl⟩,aB _ rfl⟩,aa,aa,aa,aa,aa,aa,aa,aa⟩,?_⟩
 refine WP.ret ⟨aa,_,rfl,?_⟩
 have s:=s.ae [3,3]
 have s:=Ta s
 exact⟨rfl,ai,rc,_,_,fS,tO,Dn,(s.del 3 |>.del 2)⟩
end
theorem BS {y:Operand}{k:Int}{m:Nat}(hm:m<65536): binV P h .and t x y (.int .i64 k) (.int .i64 (m:Int))=some (.int .i64 ((Nat.land ((k%(2^(IntKind.i64).bits:Int)).toNat) m:Nat):Int)):=by
 have I:(((m:Nat):Int)%(2^(IntKind.i64).bits:Int)).toNat=m:=by simp only[IntKind.bits];omega
 simp only[binV,ikBeq,ah,intV,bitsV,I]
 have hle:Nat.land ((k%(2^(IntKind.i64).bits:Int)).toNat) m≤m:=DB
 rw[wrap_i64 (n:=Nat.land ((k%(2^(IntKind.i64).bits:Int)).toNat) m) (by omega)]
section
variable {cell:List Nat} {v1:Nat→Nat}
theorem Tb {l:List (Nat×Nat)}{f:Nat→Nat}(hc:cell.length=400)(hl:∀x∈l,x.1<50∧x.2<18446744073709551616)(J:∀j,j<50→dP cell j=(addS l j+f j)%18446744073709551616): ∀j,j<50→dP (offC cell l.reverse) j=f j%18446744073709551616:=by
 intro j I
 obtain⟨h1,h2⟩:=VT (l:=l.reverse) hc (fun x hx=>hl x (List.mem_reverse.1 hx)) (fun j I=>by rw[J j I];exact iY _ (by decide)) j I
 rw[S1,J j I] at h2
 omega
end
section
variable {told:cC} {K p:Nat}
theorem M7 (hT:W2 told)(I:EI N B ε)(hB:B≤900)(s:Sat h (SA a p q r .aZ data aE ε::S)):
  Call ⟨Tryz.prog,told⟩ 32 [.ptr a 0] h fun v h'=>v=.int .i64 0∧Sat h' (SA a p q r .aZ data aE (iB ε).2::S):=by
 have uV:=I.bV
 have TU:=qR (ε:=ε)
 have hNm:=I.many
 obtain⟨q1,q2⟩:=I.aF
 have s:=bg.1 s
 obtain⟨w1,w2,w3⟩:=I.clean
 obtain⟨v1,v2,v3⟩:=I.writeAll
 have J:∀n∈ε.1.aF.map (·.1),(Lit.int .i64 n).wf=true:=fun n hn=>wf_i64 (q1 n hn).1 (by have:=(q1 n hn).2;omega)
 refine(R9 hT s I.ok.ok (by omega) (by omega) J v2.ok.ok.dk (fun e he=>by rw[v2.ec.dk.aM];exact v2.ec.dk.keys _ (vk he))).mono ?_
 rintro v h ⟨rfl,s⟩
 rw[w1]
 exact⟨rfl,bg.2 s⟩
end
section
variable {cell:List Nat}
theorem JW {m:List Fm}: gq m≤m.length:=by
 unfold gq
 have:=List.count_le_length (a:=true) (l:=m.map (·.changed))
 rwa [eL] at this
theorem TxI.small (h:TxI N B M ba ck mk rs ε)(hw:ε.2.2.waiting=[])(hs:ba+szB rs≤1048600): TxI N 1 M ba ck mk rs ε:=by
 have I:=h.lr.base
 have J:ε.2.1.b.length=szB rs:=by rw[h.lr.b,j4]
 have hm:=h.ei.ok.ok.pl.many
 have hc:=JW (m:=ε.1.ag)
 refine⟨⟨h.ei.ok,h.ei.ec,⟨h.ei.el.log,h.ei.el.cert,by omega⟩,?_⟩,h.lr,h.rm,h.ft⟩
 show ε.2.2.waiting.length+gq ε.1.ag≤_
 rw[hw,cr];omega
theorem TxI.clean (h:TxI N B M ba ck mk rs ε)(hs:ba+szB rs≤1048600): TxI N 1 M ba ck mk rs (iB ε).2∧(iB ε).2.1.bu=[]:=by
 obtain⟨w1,w2,w3⟩:=h.ei.clean
 obtain⟨v1,v2,v3⟩:=h.ei.writeAll
 have I:LR ba ck mk rs (writeAllF (aX ε.1.aF) ε).2.2:=(u_ ((qS ba ck mk rs).xh N) h.ei.ec (zH ε) h.lr).1
 have hr:(writeAllF (aX ε.1.aF) ε).2.2.2.log.length=ε.2.2.log.length∧(writeAllF (aX ε.1.aF) ε).2.2.2.room=ε.2.2.room:=(u_ ((lX ε.2.2.log.length ε.2.2.room).xh N) h.ei.ec (zH ε) ⟨rfl,rfl⟩).1
 have e:=FT.clean h.ft h.ei.ec v2.ec.dk.alive v2.ec.dk.aU
 have J:=hr.2.trans h.rm
 generalize (writeAllF (aX ε.1.aF) ε).2=x at e I J
 have hd:(iB ε).2.1.bu=[]:=by rw[e]
 refine⟨TxI.small (B:=B) ⟨w2,?_,by rw[e];exact J,fun n rec hn=>by rw[hd] at hn;cases hn⟩ (by rw[e];rfl) hs,hd⟩
 rw[e]
 exact⟨I.base,I.b,I.bh,I.check,I.log,I.alive,I.aU,I.mark,I.qN,I.tail,fun w hw=>(by cases hw),I.rs⟩
theorem gL.aak {P:Int→List Nat}(h:gL N n k cell P)(e:∀m,0≤m→P' m=P m): gL N n k cell P':=by
 obtain⟨R,J,I,h2⟩:=h.hd
 exact⟨⟨R,J,I.roots (e 1 (by decide)) (by rw[e 0 (by decide)];exact I.head) I.rl,h2⟩,h.k2,h.kN,by rw[e k (by omega)];exact h.pg,h.len⟩
end
def sumE (e:Nat): Nat→Nat
 |0=>0
 |i+1=>sumE e i+(if i%3≠0∧i%4=1 then i*(e+1) else 0)
theorem ED {e:Nat}(he:e≤3): ∀ {i:Nat},i≤227→sumE e i≤1000*i:=by
 intro i
 induction i with
 |zero=>intro _;exact aQ _
 |succ i I =>
  intro hi
  have J:=I (by omega)
  have h2:i*(e+1)≤226*4:=nh (by omega) (by omega)
  simp only[sumE]
  split<;>omega
structure tZ (e i B ba ck:Nat)(mk:List Nat)(rs:List dA)(ε:bq)(cell:List Nat): Prop where
 tx:TxI 32 B 40000 ba ck mk rs ε
 ct:gL 32 4 2 cell (pgA ε)
 Dp:1≤ba
 bb:B≤5+18*(i%4)
 sz:szB rs≤3200+4520*(i%4)
 pos:1≤szB rs
 I4:ba+szB rs≤3300+2280*i+2240*((i+2)/3)+128*(i/4)
 val:∀j,j<50→dP cell j<18446744073709551616
 v1:dP cell 1=sumE e i
structure wm (i q B ba ck:Nat)(mk:List Nat)(rs:List dA)(ε:bq)(cell cell0:List Nat)(A:pH)(B0 z0:Nat): Prop where
 tx:TxI 32 B 40000 ba ck mk rs ε
 ct:gL 32 4 2 cell (pgA ε)
 bb:B=B0+2*q
 sz:szB rs≤z0+560*q
 pos:1≤szB rs
 val:∀j,j<50→dP cell j=(addS (List.replicate q (i%4,i)) j+dP cell0 j)%18446744073709551616
 t:xy 2 ba rs A (List.replicate q (i%4,i))
section
variable {e B0:Nat} {cell:List Nat} {c:List cO}
theorem tZ.lt (h:tZ e i B ba ck mk rs ε cell)(hi:i≤227): ba+szB rs≤700000:=by
 have:=h.I4
 omega
theorem tZ.start (h:TxI 32 5 40000 1 0 [] rs ε)(I:gL 32 4 2 (List.replicate 400 0) (pgA ε))(J:szB rs≤3200)(h2:1≤szB rs): tZ e 0 5 1 0 [] rs ε (List.replicate 400 0) :=
 ⟨h,I,aQ _,by decide,J,h2,by omega,fun j hj=>by rw[BR];decide,BR⟩
theorem tZ.begin (h:tZ e i B ba ck mk rs ε cell): wm i 0 B ba ck mk rs ε cell cell ⟨0,0,0,[],[],[]⟩ B (szB rs) :=
 ⟨h.tx,h.ct,rfl,aQ _,h.pos,fun j I=>by rw[nf];simp[addS];have:=h.val j I;simpa[addS] using this,xy.new h.Dp⟩
theorem wm.abD (h:wm i q B ba ck mk rs ε cell cell0 A B0 z0)(hq:q≤4): tY [(id,rr,A)]∧oB [(id,rr,A)]≤12048:=by
 have I:=h.t.sum
 have J:=h.t.dn
 have h3:A.pg.length≤1:=by rcases h.t.pg with e|e<;>rw[e]<;>simp
 rw[fD] at I J
 refine⟨⟨by simp,fun x hx => ?_⟩,?_⟩
 ·rw[List.mem_singleton.1 hx]
  exact⟨by show ic A.dn≤_;omega,by show A.dn.length≤_;omega,by show A.pg.length≤_;omega⟩
 ·simp only[oB,kM,dQ,vA,vy,List.foldr_nil,qd]
  split<;>omega
theorem wm.add (h:wm i q B ba ck mk rs ε cell cell0 A B0 z0)(I:1≤ba)(hi:i≤227)(hc:cost≤1656)
 (ht:TxI 32 (B+2) 40000 ba ck mk (rs++[⟨1,id,A.fg,0,i%4::le 8 i,c⟩]) ai)(hp:gL 32 4 2 (mF cell (i%4) ((dP cell (i%4)+i)%18446744073709551616)) (pgA ai))(hlen:(dA.mk 1 id A.fg 0 (i%4::le 8 i) c).len≤560):
  wm i (q+1) (B+2) ba ck mk (rs++[⟨1,id,A.fg,0,i%4::le 8 i,c⟩]) ai (mF cell (i%4) ((dP cell (i%4)+i)%18446744073709551616)) cell0 (A.more (ba+szB rs) cost [((2:Nat):Int)]) B0 z0:=by
 have h1:=h.bb
 have h2:=h.sz
 have h3:=h.pos
 have J:List.replicate (q+1) (i%4,i)=List.replicate q (i%4,i)++[(i%4,i)]:=List.replicate_succ'
 refine⟨ht,hp,by omega,by rw[gJ,ko];omega,by rw[gJ];omega,fun j hj => ?_,by rw[J];exact h.t.more I (by omega) (by omega) hc⟩
 rw[Ey h.ct.len (by omega) (iY _ (by decide)),J,IY]
 have hv:=h.val j hj
 simp only[addS]
 by_cases e:j=i%4
 ·subst e;rw[aC rfl,aC rfl,hv];omega
 ·rw[aj e,aj (jL e),hv];omega
theorem Tc {x y:Nat}: addS (List.replicate q (x,y)) j=if x=j then q*y else 0:=by
 induction q with
 |zero=>simp[addS]
 |succ q I=>rw[zV];simp only[addS,I];split<;>simp[Nat.succ_mul,Ad]
structure FL (e i B ba ck:Nat)(mk:List Nat)(rs:List dA)(ε:bq)(cell:List Nat): Prop where
 tx:TxI 32 B 40000 ba ck mk rs ε
 ct:gL 32 4 2 cell (pgA ε)
 Dp:1≤ba
 bb:B≤23+18*(i%4)
 sz:szB rs≤7720+4520*(i%4)
 pos:1≤szB rs
 I4:ba+szB rs≤3300+2280*(i+1)+2240*((i+3)/3)+128*(i/4)
 val:∀j,j<50→dP cell j<18446744073709551616
 v1:dP cell 1=sumE e (i+1)
theorem wm.Y6 {rS:List Nat}(I:tZ e i B0 ba ck rS FF SB cell0)(h:wm i (e+1) B ba ck mk rs ε cell cell0 A B0 (szB FF))(he:e≤3)(hi:i<227)(h3:i%3≠0)
 (hI:TxI 32 (B+2) 40000 ba ck mk (rs++f_) ai)(hp:∀m,pgA ai m=pgA ε m)(hs:szB f_≤40): FL e i (B+2) ba ck mk (rs++f_) ai cell:=by
 have a1:=I.bb
 have a2:=I.sz
 have a3:=I.I4
 have b1:=h.bb
 have b2:=h.sz
 have b3:=h.pos
 have MP:=ED he (i:=i) (by omega)
 have hm:i*(e+1)≤226*4:=nh (by omega) (by omega)
 refine⟨hI,h.ct.MQ hp,I.Dp,by omega,by rw[gJ];omega,by rw[gJ];omega,by rw[gJ];omega,fun j hj=>by rw[h.val j hj];exact iY _ (by decide),?_⟩
 rw[h.val 1 (by decide),Tc,I.v1]
 simp only[sumE]
 by_cases J:i%4=1
 ·rw[aC J,aC ⟨h3,J⟩,qu (e+1) i];omega
 ·rw[aj J,aj (fun q=>J q.2)];omega
theorem wm.abort {rS:List Nat}(I:tZ e i B0 ba ck rS FF SB cell0)(h:wm i (e+1) B ba ck mk rs ε cell cell0 A B0 (szB FF))(he:e≤3)(hi:i<227)(h3:i%3=0)
 (hI:TxI 32 (B+2*(e+1)+2) 40000 ba ck mk (rs++f_) ai)(hp:gL 32 4 2 (offC cell (List.replicate (e+1) (i%4,i)).reverse) (pgA ai))(hs:szB f_≤560*(e+1)+40): FL e i (B+2*(e+1)+2) ba ck mk (rs++f_) ai (offC cell (List.replicate (e+1) (i%4,i)).reverse):=by
 have a1:=I.bb
 have a2:=I.sz
 have a3:=I.I4
 have b1:=h.bb
 have b2:=h.sz
 have b3:=h.pos
 have hv:=Tb (f:=dP cell0) h.ct.len h.t.ok h.val
 have hv:∀j,j<50→dP (offC cell (List.replicate (e+1) (i%4,i)).reverse) j=dP cell0 j:=fun j J=>by rw[hv j J,nf (I.val j J)]
 refine⟨hI,hp,I.Dp,by omega,by rw[gJ];omega,by rw[gJ];omega,by rw[gJ];omega,fun j J=>by rw[hv j J];exact I.val j J,?_⟩
 rw[hv 1 (by decide),I.v1]
 simp only[sumE]
 rw[aj (fun q=>q.1 h3),mj]
theorem FL.next (h:FL e i B ba ck mk rs ε cell)(I:i%4≠3): tZ e (i+1) B ba ck mk rs ε cell:=by
 have J:=h.bb
 have a2:=h.sz
 have a3:=h.I4
 exact⟨h.tx,h.ct,h.Dp,by omega,by omega,h.pos,by omega,h.val,h.v1⟩
theorem FL.H8 {mk':List Nat}(h:FL e i B ba ck mk rs ε cell)(h4:i%4=3)(I:TxI 32 2 40000 (ba+szB rs) (ba+szB rs) mk' [rc] ai)(J:∀m,0≤m→pgA ai m=pgA ε m)(hr:rc.len≤128): tZ e (i+1) 2 (ba+szB rs) (ba+szB rs) mk' [rc] ai cell:=by
 have a2:=h.sz
 have a3:=h.I4
 have:=h.Dp
 have hl:=Bi rc
 exact⟨I,h.ct.aak J,by omega,by omega,by rw[ko];omega,by rw[ko];omega,by rw[ko];omega,h.val,h.v1⟩
end
structure WL (told:cC): Prop where
 x:WX told
 w2:W2 told
theorem xz (hi:i<9223372036854775808){y:Operand}: binV P h .and t x y (.int .i64 (i:Int)) (.int .i64 3)=some (.int .i64 ((i%4:Nat):Int)):=by
 have I:=BS (P:=P) (h:=h) (t:=t) (x:=x) (y:=y) (k:=(i:Int)) (m:=3) (by decide)
 have J:((i:Int)%(2^(IntKind.i64).bits:Int)).toNat=i:=by simp only[IntKind.bits];omega
 have h3:Nat.land i 3=i%4:=Nat.and_two_pow_sub_one_eq_mod i 2
 rw[J,h3] at I
 exact I
abbrev Qj (n0 n1:Int)(c e i rd:Nat): List (Nat×V):=[(0,.int .i64 n0),(1,.int .i64 n1),(7,.ptr c 0),(8,.int .i64 (sumE e i:Int)),(9,.int .i64 (rd:Int)),(10,.int .i64 (i:Int))]
section
variable {told:cC} {p m e rd B0:Nat} {cell:List Nat} {n0 n1:Int}
theorem Td (hT:WK told)(hB:B≤900)(hI:TxI N B M ba ck mk rs ε)(I:ε.1.bu=[])(lI:1≤ba)(h0:0<szB rs)(fu:szB rs+256≤M)(hM:M≤16777216)(s:Sat h (gM m a nx u []::SA a p q r .aZ data aE ε::S)):
  Call ⟨Tryz.prog,told⟩ 33 [.ptr m 0] h fun v h'=>v=.int .i64 0∧∃ai rc J jz,(∀m,pgA ai m=pgA ε m)∧(dA.len rc)≤128∧TxI N (B+1) M (ba+szB rs) (ba+szB rs) (eC (ba+szB rs) (ba+szB rs)) [rc] ai ∧
   Sat h' (gM m a nx u []::SA a p q r .aZ J jz ai::S):=by
 have hW:=hT.w
 have hb:ε.2.1.b.length=szB rs:=by rw[hI.lr.b,j4]
 have A0:=hI.rm
 have eH:=hI.ei.el.size
 have s0:=s
 obtain⟨av,s⟩:=fc.1 s
 refine Call.of_wp (hW.free _ rfl) Tryz.func33 rfl rfl (zK 9 rfl (zY s 0 lC lB rfl (zc rfl (IE (μ:=ε.2.1) (δ:=ε.2.2) hW (by omega) (by omega) ((bg.1 (s0.ae [1])).ae [0,1,1])) ?_)))
 rintro v h' ⟨rfl,rfl⟩
 rw[hb,A0]
 refine zm rfl (zc rfl (K8 (L:=[]) hT ⟨by decide,fun x hx=>by cases hx⟩ s0) ?_)
 rintro v h ⟨rfl,s⟩
 have hk:oB []=256:=rfl
 rw[hk]
 refine zC rfl aT (by simp;omega) ?_
 refine zk 6 rfl (zc rfl (Qi hW hB hI I lI h0 (by omega) s) ?_)
 rintro v h ⟨rfl,q⟩
 exact zk 2 rfl (WP.ret ⟨aa,_,rfl,rfl,q⟩)
theorem Qk (I:W told)(s:Sat h (gM m a nx u []::S)): Call ⟨Tryz.prog,told⟩ 31 [.ptr m 0] h fun v h'=>v=.ptr a 0∧h'=h:=by
 obtain⟨av,s⟩:=fc.1 s
 exact Call.of_wp (I.free _ rfl) Tryz.func31 rfl rfl (zK 8 rfl (zY s 0 lC lB rfl (zk 2 rfl (WP.ret ⟨aa,_,rfl,rfl,rfl⟩))))
noncomputable def lgA : Code:=cm [1,1,1,1,1,1,1,1,0,1,0,0,1,0,0,1,1,0,1,0,0] ((Tryz.f5.body).getD .skip)
theorem V0 (hT:WX told)(hand:∀ {P:Program} {h:H} {t:TypeId} {x y:Operand},binV P h .and t x y (.int .i64 n1) (.int .i64 3)=some (.int .i64 (e:Int)))(he:e≤3)(hi:i≤226)(J:1≤ba)(acR:ba+z0≤700000)(AZ:z0≤16760)(hB0:B0≤59):
  ∀(j k:Nat) (h:H) (E:List (Nat×V)) (B:Nat) (rs:List dA) (ε:bq) (cell:List Nat) (A:pH) (Q:Ex→List (Nat×V)→H→Prop),k+j=e+1→wm i k B ba ck mk rs ε cell cell0 A B0 z0 →
  Sat h (pt c (.cells 2 [.ptr m 0,.int .i64 ((4:Nat):Int)] false)::gM m a (i+2) (jA c) [(i+1,rr,A)]::SA a p q r .aZ data aE ε::S)→Has E ((11,.int .u64 ((i+1:Nat):Int))::(13,.int .i64 (k:Int))::Qj n0 n1 c e i rd) →
  (∀E' h' B' f_ ai Gt A',wm i (e+1) B' ba ck mk f_ ai Gt cell0 A' B0 z0→Has E' ((11,.int .u64 ((i+1:Nat):Int))::Qj n0 n1 c e i rd) →
   Sat h' (pt c (.cells 2 [.ptr m 0,.int .i64 ((4:Nat):Int)] false)::gM m a (i+2) (jA c) [(i+1,rr,A')]::SA a p q r .aZ data aE ai::S)→Q (.exit 2) E' h')→WP ⟨Tryz.prog,told⟩ 108 (.loop lgA) E h Q:=by
 intro j
 induction j with
 |zero =>
  intro k h E B rs ε cell A Q hk I s hE hq
  have hk:k=e+1:=hk
  subst hk
  refine WP.loop (WP.has hE (zK 5 rfl (zb rfl hand (zC rfl yB (by simp;omega) ?_))))
  exact zk 2 rfl (WP.exit (hq _ _ _ _ _ _ _ I ⟨rfl,rfl,rfl,rfl,rfl,rfl,rfl,aa⟩ s))
 |succ j ih =>
  intro k h E B rs ε cell A Q hk I s hE hq
  obtain⟨jD,T1⟩:=I.abD (id:=i+1) (rr:=rr) (by omega)
  have b1:=I.bb
  have b2:=I.sz
  have b3:=I.t.lt
  have b4:=I.t.eq
  have b5:=I.t.dn
  rw[fD] at b5
  have i4:i%4<4:=iY _ (by decide)
  refine WP.loop (WP.has hE (zK 5 rfl (zb rfl hand (zB rfl yB (by simp;omega) ?_))))
  refine zk 4 rfl (WP.block (zK 5 rfl (zb rfl (xz (by omega)) ?_)))
  refine zm rfl (zc rfl (I3 (j:=0) (id:=i+1) (i:=i%4) (dn:=i) (d:=(i:Int)) hT (by omega) I.tx J (by omega) (by decide) jD rfl (by omega) (by omega) (by omega) (by omega) (by decide) I.ct i4 (by decide) (by rw[wrap_u64 (by omega)]) (by omega) s) ?_)
  rintro v h ⟨c',cost,ai,rfl,Dc,hlen,aal,Dn,s⟩
  refine zh rfl (aq rfl rfl aA) (rfl) (zv (zj rfl (WP.skip (zr rfl (zm rfl (zb rfl (by exact aW (az (by omega) (by omega))) ?_))))))
  refine za rfl (zv ?_)
  have Qh:=I.add J (by omega) aal Dn Dc hlen
  exact ih (k+1) _ _ _ _ _ _ _ Q (by omega) Qh s ⟨rfl,rfl,rfl,rfl,rfl,rfl,rfl,rfl,aa⟩ hq
noncomputable def lgV : Code:=cm [1,1,1,1,1,1,1,1,0,1,0,0,1,0,0,1,1,1,0] ((Tryz.f5.body).getD .skip)
theorem V1 (hT:WX told){rS:List Nat}(hand:∀ {P:Program} {h:H} {t:TypeId} {x y:Operand},binV P h .and t x y (.int .i64 n1) (.int .i64 3)=some (.int .i64 (e:Int)))(he:e≤3)(hi:i≤226)
 (h0:tZ e i B0 ba ck rS FF SB cell0)(J:wm i (e+1) B ba ck mk rs ε cell cell0 A B0 (szB FF))(s:Sat h (pt c (.cells 2 [.ptr m 0,.int .i64 ((4:Nat):Int)] false)::gM m a (i+2) (jA c) [(i+1,rr,A)]::SA a p q r .aZ data aE ε::S))(hE:Has E ((11,.int .u64 ((i+1:Nat):Int))::Qj n0 n1 c e i rd))
 (hq:∀E' h' B' f_ ai Gt,FL e i B' ba ck mk f_ ai Gt→Has E' [(0,.int .i64 n0),(1,.int .i64 n1),(7,.ptr c 0),(8,.int .i64 (sumE e (i+1):Int)),(9,.int .i64 (rd:Int)),(10,.int .i64 (i:Int))] →
   Sat h' (pt c (.cells 2 [.ptr m 0,.int .i64 ((4:Nat):Int)] false)::gM m a (i+2) (jA c) []::SA a p q r .aZ data aE ai::S)→Q .normal E' h'): WP ⟨Tryz.prog,told⟩ 108 lgV E h Q:=by
 have hW:=hT.w
 have b1:=J.bb
 have b2:=J.sz
 have b3:=J.t.lt
 have b4:=J.t.eq
 have b5:=J.t.dn
 have a1:=h0.bb
 have a2:=h0.sz
 have a3:=h0.lt (by omega)
 have xx:=h0.Dp
 have MP:=ED he (i:=i) (by omega)
 have hm:i*(e+1)≤226*4:=nh (by omega) (by omega)
 rw[fD] at b5
 have tO:(List.replicate (e+1) (i%4,i)).reverse.length=e+1:=by rw[List.length_reverse,fD]
 by_cases h3:i%3=0
 ·have kH:sumE e (i+1)=sumE e i:=by simp only[sumE];rw[aj (fun q=>q.1 h3),mj]
  rw[kH] at hq
  refine WP.has hE (zK 3 rfl (zb rfl (Gr (b:=3) (by decide) (by omega)) ?_))
  refine zB rfl dh (by simp;omega) ?_
  refine zk 5 rfl (zc rfl (lZ hW s) ?_)
  rintro v h' ⟨rfl,rfl⟩
  refine zm rfl ?_
  have s:=s.ae [1,1]
  dsimp only[bringA,getA,aK] at s
  refine zc rfl (SW (i:=0) hT.wo.wt xx J.tx (by decide) (show i+1<2097152 by omega) rfl J.t.ch J.ct (by rw[tO];omega) (by rw[tO];omega) (by rw[tO];omega) (show A.fg≤ba+szB rs by omega) (show A.kV≤ba+szB rs by omega) (show A.dn.length≤1000 by omega) J.t.pos s) ?_
  rintro v h ⟨rfl,iC,oJ,abE,I,uK,s⟩
  rw[tO] at I uK
  refine zh rfl (aq rfl rfl aA) (rfl) (zv (zj rfl (WP.skip ?_)))
  exact hq _ _ _ _ _ _ (J.abort h0 he (by omega) h3 uK abE I) ⟨rfl,rfl,rfl,rfl,rfl,rfl,aa⟩ (s.ae [2])
 ·skip
  refine WP.has hE (zK 3 rfl (zb rfl (Gr (b:=3) (by decide) (by omega)) ?_))
  refine zC rfl dh (by simp;omega) ?_
  refine zk 6 rfl (zc rfl (lZ hW s) ?_)
  rintro v h' ⟨rfl,rfl⟩
  refine zm rfl ?_
  have s:=s.ae [1,1]
  dsimp only[bringA,getA,aK] at s
  refine zc rfl (Qa (i:=0) hT.wo.wt (by omega) J.tx (by omega) (by decide) (show i+1<2097152 by omega) rfl (show A.fg<2097152 by omega) (by omega) s) ?_
  rintro v h ⟨rfl,iC,oJ,SE,I,uK,s⟩
  have hL:=J.Y6 h0 he (by omega) h3 uK SE I
  refine zC rfl aA (rfl) (zk 6 rfl (zb rfl (xz (by omega)) ?_))
  by_cases h4:i%4=1
  ·have Qb:sumE e (i+1)=sumE e i+i*(e+1):=by simp only[sumE];rw[aC ⟨h3,h4⟩]
   rw[Qb] at hq
   refine zB rfl dh (by simp;omega) ?_
   refine zk 6 rfl (zb rfl hand (zo rfl (aq (r:=.int .i64 ((e+1:Nat):Int)) rfl rfl (by rw[show((e+1:Nat):Int)=1+(e:Int) by omega];exact aW (az (by omega) (by omega)))) ?_))
   refine zo rfl (aq (r:=.int .i64 ((i*(e+1):Nat):Int)) rfl rfl (by rw[show((i*(e+1):Nat):Int)=(i:Int)*((e+1:Nat):Int) by push_cast;rfl];exact iE (by rw[←Int.natCast_mul];exact az (by omega) (by omega)))) ?_
   refine zo rfl (aq (r:=.int .i64 ((sumE e i+i*(e+1):Nat):Int)) rfl rfl (by rw[show((sumE e i+i*(e+1):Nat):Int)=(sumE e i:Int)+((i*(e+1):Nat):Int) by omega];exact aW (az (by omega) (by omega)))) ?_
   refine za rfl (zv ?_)
   exact hq _ _ _ _ _ _ hL ⟨rfl,rfl,rfl,rfl,rfl,rfl,aa⟩ (s.ae [2])
  ·have Qb:sumE e (i+1)=sumE e i:=by simp only[sumE];rw[aj (fun q=>h4 q.2),mj]
   rw[Qb] at hq
   refine zC rfl dh (by simp;omega) ?_
   refine zv (zj rfl (WP.skip ?_))
   exact hq _ _ _ _ _ _ hL ⟨rfl,rfl,rfl,rfl,rfl,rfl,aa⟩ (s.ae [2])
noncomputable def lgT : Code:=cm [1,1,1,1,1,1,1,1,0,1,0,0,1,0,0,1,1,1,1] ((Tryz.f5.body).getD .skip)
theorem Te (hT:WL told)(hi:i≤226)(J:FL e i B ba ck mk rs ε cell)(s:Sat h (pt c (.cells 2 [.ptr m 0,.int .i64 ((4:Nat):Int)] false)::gM m a (i+2) (jA c) []::SA a p q r .aZ data aE ε::S)){z:Nat}(hE:Has E [(0,.int .i64 n0),(1,.int .i64 n1),(7,.ptr c 0),(8,.int .i64 (z:Int)),(9,.int .i64 (rd:Int)),(10,.int .i64 (i:Int))])
 (hq:∀E' h' B' Ql Qm mk' f_ ai I jz,tZ e (i+1) B' Ql Qm mk' f_ ai cell→Has E' [(0,.int .i64 n0),(1,.int .i64 n1),(7,.ptr c 0),(8,.int .i64 (z:Int)),(9,.int .i64 (rd:Int)),(10,.int .i64 (i:Int))] →
   Sat h' (pt c (.cells 2 [.ptr m 0,.int .i64 ((4:Nat):Int)] false)::gM m a (i+2) (jA c) []::SA a p q r .aZ I jz ai::S)→Q .normal E' h'): WP ⟨Tryz.prog,told⟩ 108 lgT E h Q:=by
 have hW:=hT.x.w
 have a1:=J.bb
 have a2:=J.sz
 have a3:=J.I4
 have a4:=J.pos
 have a5:=J.Dp
 have i4:i%4<4:=iY _ (by decide)
 by_cases h4:i%4=3
 ·obtain⟨hC,hd⟩:=J.tx.clean (by omega)
  obtain⟨_,_,abF⟩:=J.tx.ei.clean
  refine WP.has hE (zK 3 rfl (zb rfl (xz (by omega)) ?_))
  refine zB rfl dh (by simp;omega) ?_
  refine zk 2 rfl (zc rfl (lZ hW s) ?_)
  rintro v h' ⟨rfl,rfl⟩
  have s:=s.ae [1]
  dsimp only[bringA,getA,aK] at s
  refine zc rfl (Qk hW s) ?_
  rintro v h' ⟨rfl,rfl⟩
  refine zc rfl (M7 hT.w2 J.tx.ei (by omega) (s.ae [2])) ?_
  rintro v h ⟨rfl,s⟩
  refine zC rfl aA (rfl) (zk 2 rfl ?_)
  have s:=s.ae [2]
  dsimp only[aK,bringA,getA] at s
  refine zc rfl (lZ hW s) ?_
  rintro v h' ⟨rfl,rfl⟩
  have s:=s.ae [2,1]
  dsimp only[bringA,getA,aK] at s
  refine zc rfl (Td hT.x.wo.wt.wk (by decide) hC hd a5 a4 (by omega) (by decide) s) ?_
  rintro v h ⟨rfl,ai,rc,I,jz,fS,tO,Dn,s⟩
  refine zh rfl (aq rfl rfl aA) (rfl) (zk 2 rfl (zv (zj rfl (WP.skip ?_))))
  have hL:=J.H8 h4 Dn (fun m hm=>by rw[fS,abF m hm]) tO
  exact hq _ _ _ _ _ _ _ _ _ _ hL ⟨rfl,rfl,rfl,rfl,rfl,rfl,aa⟩ (s.ae [2])
 ·skip
  refine WP.has hE (zK 3 rfl (zb rfl (xz (by omega)) ?_))
  refine zC rfl dh (by simp;omega) ?_
  refine zk 13 rfl (zv (zj rfl (WP.skip ?_)))
  exact hq _ _ _ _ _ _ _ _ _ _ (J.next h4) ⟨rfl,rfl,rfl,rfl,rfl,rfl,aa⟩ s
noncomputable def lgL : Code:=cm [1,1,1,1,1,1,1,1,0,1,0,0] ((Tryz.f5.body).getD .skip)
theorem V2 (hT:WL told)(hand:∀ {P:Program} {h:H} {t:TypeId} {x y:Operand},binV P h .and t x y (.int .i64 n1) (.int .i64 3)=some (.int .i64 (e:Int)))(he:e≤3)(kB:rd≤227):
  ∀(j i:Nat) (h:H) (E:List (Nat×V)) (B ba ck:Nat) (mk:List Nat) (rs:List dA) (ε:bq) (cell data:List Nat) (aE:Nat) (S:List aP) (Q:Ex→List (Nat×V)→H→Prop),i+j=rd→tZ e i B ba ck mk rs ε cell →
  Sat h (pt c (.cells 2 [.ptr m 0,.int .i64 ((4:Nat):Int)] false)::gM m a (i+1) (jA c) []::SA a p q r .aZ data aE ε::S)→Has E (Qj n0 n1 c e i rd) →
  (∀E' h' B' Ql Qm mk' f_ ai I J jz,tZ e rd B' Ql Qm mk' f_ ai I→Has E' (Qj n0 n1 c e rd rd) →
   Sat h' (pt c (.cells 2 [.ptr m 0,.int .i64 ((4:Nat):Int)] false)::gM m a (rd+1) (jA c) []::SA a p q r .aZ J jz ai::S)→Q (.exit 0) E' h')→WP ⟨Tryz.prog,told⟩ 108 (.loop lgL) E h Q:=by
 have hW:=hT.x.w
 intro j
 induction j with
 |zero =>
  intro i h E B ba ck mk rs ε cell data aE S Q hi hI s hE hq
  have hi:i=rd:=hi
  subst hi
  refine WP.loop (WP.has hE (zK 5 rfl (zC rfl aT (by simp) ?_)))
  exact zk 2 rfl (WP.exit (hq _ _ _ _ _ _ _ _ _ _ _ hI ⟨rfl,rfl,rfl,rfl,rfl,rfl,aa⟩ s))
 |succ j ih =>
  intro i h E B ba ck mk rs ε cell data aE S Q hi hI s hE hq
  have a1:=hI.bb
  have a2:=hI.sz
  have a3:=hI.lt (by omega)
  have i4:i%4<4:=iY _ (by decide)
  refine WP.loop (WP.has hE (zK 5 rfl (zB rfl aT (by simp;omega) ?_)))
  refine zk 4 rfl (WP.block (zK 3 rfl (zc rfl (lZ hW s) ?_)))
  rintro v h' ⟨rfl,rfl⟩
  have s:=s.ae [1]
  dsimp only[bringA,getA,aK] at s
  refine zc rfl (IW hW (by omega) (fun x hx=>by cases hx) s) ?_
  rintro v h ⟨rfl,rr,s⟩
  have s:=s.ae [1,0,0]
  dsimp only[List.nil_append,bringA,getA,aK] at s
  refine zk 10 rfl (zC rfl aA (rfl) (zk 8 rfl (WP.block (V0 (rd:=rd) hT.x hand he (by omega) hI.Dp a3 (by omega) (by omega) (e+1) 0 _ _ _ _ _ _ _ _ (by omega) hI.begin s ⟨rfl,rfl,rfl,rfl,rfl,rfl,rfl,rfl,aa⟩ fun E' h' B' f_ ai I A' Dn eS s' => ?_))))
  have s:=s'
  refine zw (V1 hT.x hand he (by omega) hI Dn s eS fun E' h' B' f_ ai I hL eS s' => ?_)
  have s:=s'
  refine Te hT (by omega) hL s eS fun E' h' B' Ql Qm mk' f_ ai J jz Qh eS s' => ?_
  have s:=s'
  refine WP.has eS (zK 2 rfl (zo rfl (aq (r:=.int .i64 ((i+1:Nat):Int)) rfl rfl (by rw[show((i+1:Nat):Int)=(i:Int)+1 by omega];exact aW (az (by omega) (by omega)))) ?_))
  refine za rfl (zv ?_)
  exact ih (i+1) _ _ _ _ _ _ _ _ _ _ _ _ Q (by omega) Qh s ⟨rfl,rfl,rfl,rfl,rfl,rfl,aa⟩ hq
theorem V3 (hT:WL told)(s:Sat h S): Call ⟨Tryz.prog,told⟩ 5 [.int .i64 n0,.int .i64 n1] h fun v h'=>v=.bool true:=by
 have hW:=hT.x.w
 obtain⟨e,he,hand⟩:∃e:Nat,e≤3∧∀ {P:Program} {h:H} {t:TypeId} {x y:Operand},binV P h .and t x y (.int .i64 n1) (.int .i64 3)=some (.int .i64 (e:Int)):=⟨_,DB,fun {P h t x y}=>BS (m:=3) (by decide)⟩
 obtain⟨f,hf,I⟩:∃e:Nat,e≤127∧∀ {P:Program} {h:H} {t:TypeId} {x y:Operand},binV P h .and t x y (.int .i64 n0) (.int .i64 127)=some (.int .i64 (e:Int)):=⟨_,DB,fun {P h t x y}=>BS (m:=127) (by decide)⟩
 refine Call.of_wp (hW.free _ rfl) Tryz.func5 rfl rfl (zK 7 rfl (zc rfl (M6 hT.x s) ?_))
 rintro v h ⟨rfl,s⟩
 refine zo rfl (dM rfl rfl) (zk 5 rfl (zc rfl (Kv (n:=32) (m:=40000) hW s) ?_))
 rintro v h (⟨AX,_⟩|⟨_,_,_,_,p,rfl,s⟩)
 ·exact absurd ⟨by decide,by decide,by decide,by decide⟩ AX
 refine zk 10 rfl (zC rfl aA (rfl) (zk 6 rfl (zc rfl (FK (M:=40000) (n:=4) hT.x (by decide) (by decide) (by decide) (by decide) s) ?_)))
 rintro v h ⟨c,m,a,q,r,rs,ε,rfl,hI,hp,eH,J,s⟩
 refine zk 6 rfl (zC rfl (uB Tryz.underlying50) (rfl) (zk 10 rfl (zb rfl I (zo rfl (aq (r:=.int .i64 ((100+f:Nat):Int)) rfl rfl (by rw[show((100+f:Nat):Int)=100+(f:Int) by omega];exact aW (az (by omega) (by omega)))) ?_))))
 refine zk 7 rfl (WP.block (V2 (n0:=n0) (rd:=100+f) hT hand he (by omega) (100+f) 0 _ _ _ _ _ _ _ _ _ _ _ _ _ (by omega) (tZ.start hI hp eH J) s ⟨rfl,rfl,rfl,rfl,rfl,rfl,aa⟩ fun E' h' B' Ql Qm mk' f_ ai Gt ri jz hL eS s' => ?_))
 have s:=s'
 have b1:=hL.bb
 have i4:(100+f)%4<4:=iY _ (by decide)
 have MP:=ED he (i:=100+f) (by omega)
 refine WP.has eS (zK 3 rfl (zc rfl (I2 (z:=1) hW (by omega) hL.tx.ei hL.ct (by decide) s) ?_))
 rintro v h ⟨u6,_,_,rfl,s⟩
 rw[aC (by decide),show(1:Int).toNat=1 from rfl,hL.v1,wrap_i64 (by omega)]
 refine zk 9 rfl (zB rfl dh (rfl) (zk 3 rfl (zB rfl dh (by simp) ?_)))
 exact zk 3 rfl (WP.ret ⟨aa,_,rfl,rfl⟩)
end
end Go.Proofs.YtiojppeahfoiaaaGreat.Am
