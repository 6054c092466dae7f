/- TxOrders: a part of its proof; conditions: its statement's. -/
import Derived.Test.YtiojppeahfoiaaaGreatJ06
import Derived.Test.YtiojppeahfoiaaaGreatJ07
import Derived.Test.YtiojppeahfoiaaaGreatJ04
import Derived.Test.YtiojppeahfoiaaaGreatJ05
import Derived.Test.YtiojppeahfoiaaaGreatJ02
import Derived.RangeFuncLeaves
set_option linter.defProp false
namespace Go.Proofs.YtiojppeahfoiaaaGreat.Am
open Go
def jM:=@Tryz.underlying147
def mS:=@Tryz.underlying48
def sy:=@Tryz.underlying142
def uW:=@Tryz.underlying2
def B4:=@Tryz.func76
def B5:=@Tryz.underlying145
def GW:=@Tryz.underlying146
def GX:=@Tryz.func136
def GY:=@Tryz.func159
def GZ:=@Tryz.func26
def G0:=@Tryz.func80
def G1:=@Tryz.func208
variable {X Y:aE} {C:dR} {c':Ctx} {δ:Dk} {ε ah:bA} {pg:bA→Int→List Nat} {Q:Ex→List (Nat×V)→H→Prop} {fn:Func} {h h' σ:H} {d e x0 x1 x2:Int} {μ:Lg} {da db:List (Int×Int×Int×Int)} {now:List (Int×List Nat)} {l1 l2:List (Nat×Nat)} {E:List (Nat×V)} {S:List aE} {U:List Bool} {aV:List cr} {ks:List Int} {data l pre rest fK R seen mk mix:List Nat} {args cs Rt:List V} {n tx pv nx a b q g r aH c i j N k B dn id M f it cR clock zU c0 aB ba ck rr B6 jj r1 r2:Nat} {o:Oper} {x:Operand} {P:Program} {α:Type} {t:TypeId} {y dt av rv uv u dv cv wt z fv kv mv xP bv ka kb wv nn:V} {w':World}
theorem th {m:Nat}(hle:n≤m){r:V×H}(I:toldParsed CB n args h=some r): toldParsed CB m args h=some r:=by
 unfold toldParsed at I ⊢
 have mono:=dm (C:=CB) hle
 split at I
 ·rename_i x
  split at I
  ·rename_i J h₁
   simp only[mono _ _ _ h₁]
   cases Se:Nat.blt 4 J.aj with
   |false=>rw[Se] at I;cases I
   |true =>
    rw[Se,ai] at I
    rw[ai]
    split at I
    ·rename_i J9 MY
     simp only[mono _ _ _ MY]
     split at I
     ·rename_i Wg Bg
      simp only[mono _ _ _ Bg]
      exact I
     ·cases I
    ·cases I
  ·cases I
 ·cases I
section
variable {v:V}
noncomputable def Zk : Code:=c6 [0] ((Tryz.f191.body).getD .skip)
noncomputable def Zl : Code:=c6 [1,1,0] ((Tryz.f191.body).getD .skip)
theorem Wh (s:Sat h S)(hE:Has E [(0,v)])
 (hq:∀E' h' I J,Has E' [(0,v),(2,.ptr I 0),(3,.ptr J 0)]→Sat h' (pt J (.cells 1 [.bool false] false)::pt I (.cells 6 (c5 0 0 0 0 .aO .aO) false)::S)→Q .normal E' h'): WP CB 9 Zk E h Q:=by
 refine WP.has hE (zr rfl ?_)
 refine aq.bG s rfl rfl rfl (bM oh) (fun I h s => ?_)
 refine aq.bG s rfl rfl rfl (bM zt4) (fun J h s => ?_)
 exact zv (hq _ _ _ _ ⟨rfl,rfl,rfl,aa⟩ s)
theorem Wi {kd:Nat}(hg:dg kd aV=true)(hk:kd<256)(hr:vK tx pv nx data aV)(hX:cq X (cz v (cI kd tx pv nx data aV))){I J:Nat}(s:Sat h (pt J (.cells 1 [.bool false] false)::pt I (.cells 6 (c5 0 0 0 0 .aO .aO) false)::X::S))
 (hE:Has E [(0,v),(2,.ptr I 0),(3,.ptr J 0)])
 (hq:∀E' h' dt ch cs,Has E' [(2,.ptr I 0),(3,.ptr J 0)]→Sat h' (pt J (.cells 1 [.bool true] false)::pt I (.cells 6 (c5 kd tx pv nx dt ch) false)::X::aW dt data::.arr 4 ch cs::cG cs aV::S)→Q .normal E' h'): WP CB 9 Zl E h Q:=by
 obtain⟨pi,po,pc,rfl⟩:=gL (s.aD (k:=2) rfl hX) (by simp only[cI,bP,bq];omega)
 refine WP.has hE (zK 2 rfl (zo rfl (b_ rfl (by rw[XL];rfl)) ?_))
 refine aq.bG s rfl rfl rfl (dc rfl rfl) ?_
 intro p1 h s
 dsimp only[V.cells] at s
 refine zc rfl (TN W.base hg hk hr ⟨_,hX,s.ae [0,2]⟩) ?_
 rintro r h ⟨dt,ch,cs,rfl,s⟩
 have ji:=(s.buf (k:=1) rfl).view.cells
 have mP:=s.iU (j:=2) rfl
 refine zS rfl (s.fh (j:=5) rfl eD rfl (kq ji.2 mP.2.1)) ?_
 rintro h s
 refine zS rfl (by exact s.dL (k:=4) rfl vZ rfl (by decide) rfl rfl) (fun h s => ?_)
 exact zv (hq _ _ _ _ _ ⟨rfl,rfl,aa⟩ (s.ae [4,4,0,0,0,0]))
noncomputable def Zm : Code:=c6 [1] ((Tryz.f220.body).getD .skip)
theorem Wj {x:V}(I:Has E [(0,x),(1,y),(2,.ig),(5,.ig)])(J:∀E',Q .normal E' h): WP CB 16 Zm E h Q:=by
 refine WP.has I (zK 3 rfl (zo rfl (Py (r:=.aI [.int .i64 0,.bool false]) rfl (by simp only[assertV,Tryz.underlying34,Z0])) ?_))
 refine zk 14 rfl (zo rfl (ak (r:=.bool false) rfl rfl (by simp only[binV,Tryz.underlying20];rfl)) ?_)
 refine zv (zj rfl (WP.skip ?_))
 exact J _
theorem Lp {kd:Nat}(hg:dg kd aV=true)(hk:kd<256)(hr:vK tx pv nx data aV)(s:Sat h (X::S))(hX:cq X (cz v (cI kd tx pv nx data aV))):
  ∃n r,toldParsed CB n [v] h=some r∧∃dt ch cs,r.1=.aI [.agg (c5 kd tx pv nx dt ch),.bool true]∧Sat r.2 (X::aW dt data::.arr 4 ch cs::cG cs aV::S):=by
 obtain⟨N1,Wk,I,h1,E1,a1,k1,rfl,J,p3,Oh,s1⟩:=Wh (Q:=fun ex E' h'=>ex=.normal∧∃J p3,Has E' [(0,v),(2,.ptr J 0),(3,.ptr p3 0)]∧Sat h' (pt p3 (.cells 1 [.bool false] false)::pt J (.cells 6 (c5 0 0 0 0 .aO .aO) false)::X::S)) (v:=v) (E:=argE [v] 0) s ⟨rfl,aa⟩ (fun E' h' J p3 hE s=>⟨rfl,J,p3,hE,s⟩) _ (qZ [v])
 have v2:I.v 2=.ptr J 0:=by simp only[Env.v,k1 _ _ Oh.2.1]
 have v3:I.v 3=.ptr p3 0:=by simp only[Env.v,k1 _ _ Oh.2.2.1]
 have k1':=k1.set 4 (.fn (.func 220) [] [I.v 2,I.v 3])
 obtain⟨N2,qv,AH,h2,E2,a2,k2,rfl,dt,ch,cs,R_,s2⟩:=Wi (Q:=fun ex E' h'=>ex=.normal∧∃dt ch cs,Has E' [(2,.ptr J 0),(3,.ptr p3 0)]∧Sat h' (pt p3 (.cells 1 [.bool true] false)::pt J (.cells 6 (c5 kd tx pv nx dt ch) false)::X::aW dt data::.arr 4 ch cs::cG cs aV::S)) hg hk hr hX s1 (E:=(4,.fn (.func 220) [] [I.v 2,I.v 3])::E1) ⟨Oh.1,Oh.2.1,Oh.2.2.1,aa⟩ (fun E' h' dt ch cs hE s=>⟨rfl,dt,ch,cs,hE,s⟩) _ k1'
 have k3:=((qZ [V.ptr J 0,V.ptr p3 0]).set 5 .ig).set 2 .ig
 obtain⟨N3,ex3,abN,h3,E3,a3,k3',rfl,rfl⟩:=Wj (h:=h2) (x:=.ptr J 0) (y:=.ptr p3 0) (Q:=fun ex E' h'=>ex=.normal∧h'=h2) (E:=(2,.ig)::(5,.ig)::argE [.ptr J 0,.ptr p3 0] 0) ⟨rfl,rfl,rfl,rfl,aa⟩ (fun E'=>⟨rfl,rfl⟩) _ k3
 have r1:mapO (resV Tryz.prog ⟨AH,9,h3⟩) Tryz.f191.results.toList=some [.agg (c5 kd tx pv nx dt ch),.bool true]:=by
  refine ux (s:=⟨AH,9,h3⟩) k2 ?_
  have e1:resE Tryz.prog E2 h3 (.cell 2 104)=some (.agg (c5 kd tx pv nx dt ch)):=by
   simp only[resE,R_.1]
   exact s2.cy (k:=1) rfl iS eD
  have e2:resE Tryz.prog E2 h3 (.cell 3 4)=some (.bool true):=by
   simp only[resE,R_.2.1]
   exact s2.ld (k:=0) rfl nF rfl
  show mapO (resE Tryz.prog E2 h3) [.cell 2 104,.cell 3 4]=_
  simp only[mapO,e1,e2]
 refine⟨max N1 (max N2 N3),(.aI [.agg (c5 kd tx pv nx dt ch),.bool true],h3),?_,dt,ch,cs,rfl,(s2.del 0).del 0⟩
 have b1:=dm (C:=CB) (show N1≤max N1 (max N2 N3) by omega) _ _ _ a1
 have b2:=dm (C:=CB) (show N2≤max N1 (max N2 N3) by omega) _ _ _ a2
 have b3:=dm (C:=CB) (show N3≤max N1 (max N2 N3) by omega) _ _ _ a3
 simp only[toldParsed]
 rw[show Lm=Zk from rfl,b1]
 simp only[v2,v3] at b2 ⊢
 rw[show Nat.blt 4 9=true from rfl,ai,show Ln=Zl from rfl,b2]
 dsimp only
 rw[show EW=Zm from rfl,b3]
 dsimp only
 rw[r1]
def Lq (args:List V)(h:H)(r:V×H): Prop:=∃n,toldParsed CB n args h=some r
structure WR (told:cE): Prop where
 w:W told
 pr:told 191=some (iN Tryz.prog 191 Lq)
theorem Oi {told:cE}(hT:WR told){kd:Nat}(hg:dg kd aV=true)(hk:kd<256)(J:vK tx pv nx data aV)(s:Sat h (X::S))(hX:cq X (cz v (cI kd tx pv nx data aV))):
  Call ⟨Tryz.prog,told⟩ 191 [v] h fun r h'=>∃dt ch cs,r=.aI [.agg (c5 kd tx pv nx dt ch),.bool true]∧Sat h' (X::aW dt data::.arr 4 ch cs::cG cs aV::S):=by
 obtain⟨n,r,e,hP⟩:=Lp hg hk J s hX
 obtain⟨r',h1,m,h2⟩:=qc (P:=Tryz.prog) (f:=191) (jb:=Lq) (args:=[v]) (r:=r) ⟨n,e⟩ (fun c w J hw=>EB (C:=CB) rfl jK iI e J hw)
 have e1:=th (show n≤max n m by omega) e
 have I:=th (show m≤max n m by omega) h2
 rw[e1] at I
 injection I with I
 subst I
 exact⟨r.1,r.2,gD.told hT.pr GR rfl h1,hP⟩
end
theorem AJ {x y z:List Nat}(I:x.length=a)(J:a+y.length=b): ((x++(y++z)).take b).drop a=y:=by
 subst I;subst J
 rw[←cX,Iz (by simp),fS (by simp),yc rfl]
theorem X9 (n:Nat)(b:List Nat): b.length<4294967296→qJ n b<4294967296→leN (le 4 b.length)=b.length∧leN (le 4 (qJ n b))=qJ n b:=by
 intro I J
 rw[xH,xH]
 exact⟨oQ (by simpa using I),oQ (by simpa using J)⟩
section
variable {told:cE} {v:V}
theorem QO (hT:WR told){kd:Nat}{bd:List Nat}(hg:dg kd aV=true)(hk:kd<256)(hr:vK tx pv nx data aV)(zG:bd=cI kd tx pv nx data aV)
 (xo:bd.length≤1048576)(ha:pre.length=a)(J:l=pre++(jU n bd++rest))(Nw:l.length≤1073741824)(s:Sat h (X::S))(I:cq X (cz v l)):
  Call ⟨Tryz.prog,told⟩ 125 [v,.int .i64 (a:Int),.int .u64 (n:Int)] h fun r h'=>∃dt ch cs,r=.aI [.agg (c5 kd tx pv nx dt ch),.int .i64 ((a+8+bd.length:Nat):Int),.int .i64 0]∧Sat h' (X::aW dt data::.arr 4 ch cs::cG cs aV::S):=by
 have hv:=s.aD (k:=0) rfl I
 have cA:∀x∈bd,x<256:=fun x hx=>hv.1 x (by rw[J,jU];simp[hx])
 have aap:=FY (aB:=n) cA
 obtain⟨q1,q2⟩:=X9 n bd (by omega) aap
 have hlen:l.length=a+8+bd.length+rest.length:=by rw[J];simp only[bP,kK];omega
 have m1:(l.take (a+4)).drop a=le 4 bd.length:=by
  rw[J,jU,cX,cX]
  exact AJ ha (by rw[cF])
 have m2:(l.take (a+8)).drop (a+4)=le 4 (qJ n bd):=by
  rw[J,jU,cX,cX,←cX pre]
  exact AJ (by rw[bP,cF,ha]) (by rw[cF])
 have m3:(l.take (a+8+bd.length)).drop (a+8)=bd:=by
  rw[J,jU,cX,cX,←cX pre,←cX (pre++_)]
  exact AJ (by rw[bP,bP,cF,cF,ha]) rfl
 have hW:=hT.w
 have JL:=bh (P:=Tryz.prog) (h:=h) aM hv
 refine Call.of_wp (hW.free _ rfl) Tryz.func125 rfl rfl (zg rfl ?_)
 refine aq.bG s rfl rfl rfl (bM oh) (fun p6 h s => ?_)
 refine zk 7 rfl (zC rfl aJ (by simp) ?_)
 refine zk 3 rfl (zo rfl (aQ rfl rfl rfl (bh aM (s.aD (k:=1) rfl I))) (zC rfl fI (by simp;omega) ?_))
 refine zk 8 rfl (zo rfl (aQ rfl rfl rfl (bh aM (s.aD (k:=1) rfl I))) (zm rfl (zb rfl (by exact jP (ax (by omega) (by omega))) ?_)))
 refine zC rfl aJ (by simp;omega) ?_
 refine zk 8 rfl (zb rfl (by exact aR (ax (by omega) (by omega))) ?_)
 refine zo rfl (cf (p:=some (.int .i64 (a:Int))) (q:=some (.int .i64 ((a:Int)+4))) (m:=none) (p':=some a) (q':=some (a+4)) (m':=none) rfl rfl rfl rfl (by rw[cn (by omega)];rfl) (by rw[cn (by omega)];congr 2<;>omega) rfl (cH (s.aD (k:=1) rfl I) (a:=a) (b:=a+4) (by omega) (by omega)).1) ?_
 refine zc rfl (nO hW s (k:=1) rfl (jh I (a:=a) (b:=a+4) (by omega) (by omega)) (by rw[m1,cF];decide)) ?_
 rintro r h' ⟨rfl,rfl⟩
 rw[m1,q1]
 refine zk 6 rfl (zC rfl fI (by simp;omega) ?_)
 refine zk 2 rfl (zo rfl (bJ rfl (by exact gC bN bz (ax (by omega) (by omega)))) ?_)
 refine zm rfl (zo rfl (aQ rfl rfl rfl (bh aM (s.aD (k:=1) rfl I))) (zm rfl (zb rfl (by exact jP (ax (by omega) (by omega))) ?_)))
 refine zb rfl (by exact jP (ax (by omega) (by omega))) ?_
 refine zC rfl fI (by simp;omega) ?_
 refine zk 7 rfl (zb rfl (by exact aR (ax (by omega) (by omega))) ?_)
 refine zm rfl (zo rfl (bJ rfl (by exact gC bN bz (ax (by omega) (by omega)))) ?_)
 refine zb rfl (by exact aR (ax (by omega) (by omega))) ?_
 refine zk 6 rfl (zb rfl (by exact aR (ax (by omega) (by omega))) ?_)
 refine zm rfl (zo rfl (cf (p:=some (.int .i64 ((a:Int)+8))) (q:=some (.int .i64 ((a:Int)+8+(bd.length:Int)))) (m:=none) (p':=some (a+8)) (q':=some (a+8+bd.length)) (m':=none) rfl rfl rfl rfl (by rw[cn (by omega)];congr 2<;>omega) (by rw[cn (by omega)];congr 2<;>omega) rfl (cH (s.aD (k:=1) rfl I) (a:=a+8) (b:=a+8+bd.length) (by omega) (by omega)).1) ?_)
 refine zk 7 rfl (zb rfl (by exact aR (ax (by omega) (by omega))) ?_)
 refine zm rfl (zb rfl (by exact aR (ax (by omega) (by omega))) ?_)
 refine zo rfl (cf (p:=some (.int .i64 ((a:Int)+4))) (q:=some (.int .i64 ((a:Int)+8))) (m:=none) (p':=some (a+4)) (q':=some (a+8)) (m':=none) rfl rfl rfl rfl (by rw[cn (by omega)];congr 2<;>omega) (by rw[cn (by omega)];congr 2<;>omega) rfl (cH (s.aD (k:=1) rfl I) (a:=a+4) (b:=a+8) (by omega) (by omega)).1) ?_
 refine zc rfl (nO hW s (k:=1) rfl (jh I (a:=a+4) (b:=a+8) (by omega) (by omega)) (by rw[m2,cF];decide)) ?_
 rintro r h' ⟨rfl,rfl⟩
 rw[m2,q2]
 refine zo rfl (bJ rfl (by exact gC bN Tryz.underlying285 (SX (by omega) (by omega)))) ?_
 refine zk 2 rfl (zc rfl (D1 hW s (k:=1) rfl (jh I (a:=a+8) (b:=a+8+bd.length) (by omega) (by omega)) (by rw[m3];omega)) ?_)
 rintro r h ⟨rfl,s⟩
 rw[m3]
 refine zC rfl aA (by simp) ?_
 refine zk 6 rfl ?_
 have hX':cq X (cz (slR v (a+8) (a+8+bd.length)) (cI kd tx pv nx data aV)):=by
  have:=jh I (a:=a+8) (b:=a+8+bd.length) (by omega) (by omega)
  rw[m3] at this
  rw[←zG]
  exact this
 refine zc rfl (Oi hT hg hk hr (s.ae [1]) hX') ?_
 rintro r h ⟨dt,ch,cs,rfl,s⟩
 have ji:=(s.buf (k:=1) rfl).view.cells
 have mP:=s.iU (j:=2) rfl
 have gB:[V.int .i64 (kd:Int),V.int .u64 (tx:Int),V.int .u64 (pv:Int),V.int .u64 (nx:Int),dt,ch].all storable=true:=kq ji.2 mP.2.1
 refine zk 3 rfl (zS rfl (s.fh (j:=4) rfl eD rfl gB) ?_)
 rintro h s
 refine zk 6 rfl (zh rfl (dB rfl rfl) (rfl) (zk 5 rfl (zl rfl (s.cy (k:=4) rfl iS eD) (zm rfl (zS rfl (s.fh (j:=4) rfl eD rfl gB) ?_)))))
 rintro h s
 refine zk 3 rfl ?_
 refine WP.ret ⟨aa,_,ET rfl (s.cy (k:=4) rfl iS eD) rfl rfl,?_⟩
 exact⟨dt,ch,cs,rfl,s.del 4⟩
end
section
variable {told:cE} {v:V} {p:Nat}
theorem Oj (hT:WR told){kd:Nat}{bd:List Nat}(hg:dg kd aV=true)(hk:kd<256)(hr:vK tx pv nx data aV)(zG:bd=cI kd tx pv nx data aV)
 (xo:bd.length≤1048576)(ha:pre.length=a)(hl:μ.b=pre++(jU n bd++rest))(hn:n=μ.base+a)(hh:μ.hasB n=true)(I:μ.Ok)(s:Sat h (bQ q p μ::S)):
  Call ⟨Tryz.prog,told⟩ 66 [.ptr q 0,.int .u64 (n:Int)] h fun r h'=>∃dt ch cs,r=.aI [.agg (c5 kd tx pv nx dt ch),.int .u64 ((n+8+bd.length:Nat):Int),.int .i64 0]∧Sat h' (bQ q p μ::aW dt data::.arr 4 ch cs::cG cs aV::S):=by
 have hW:=hT.w
 have hlen:μ.b.length=a+8+bd.length+rest.length:=by rw[hl];simp only[bP,kK];omega
 have ej:=I.size
 have hb:=I.len
 refine Call.of_wp (hW.free _ rfl) Gj rfl rfl (zg rfl ?_)
 refine aq.bG s rfl rfl rfl (bM oh) (fun p4 h s => ?_)
 dsimp only[V.cells,List.length_cons,List.length_nil,Nat.reduceAdd] at s
 refine zk 4 rfl (WP.block (zK 4 rfl ?_))
 have s:=s.ae [1]
 dsimp only[bringA,getA,aC] at s
 refine zc rfl (uO hW s I.size) ?_
 rintro v h' ⟨rfl,rfl⟩
 refine zC rfl c4 (by simp;omega) ?_
 refine zk 7 rfl (zc rfl (Je (n:=n) hW s I (by omega)) ?_)
 rintro v h' ⟨rfl,rfl⟩
 rw[hh]
 refine zo rfl (dB rfl rfl) (za rfl (zv (zj rfl (WP.skip (zw ?_)))))
 obtain⟨bv,sv,s⟩:=fB.1 s
 have s0:=s
 have wE:=eN (s.buf (k:=1) rfl).view
 have J:((n:Int)-(μ.base:Int))=(a:Int):=by omega
 refine WP.drawn [af,af,af,af,af,af,af,af,af,af,af,af,af,af,af,some (1,2),some (1,2),af,af,af] rfl (by kernel_rfl) (by kernel_rfl) ?_
 refine zM rfl (zN rfl (zF rfl (jy _ _) (zL rfl (s.ld (k:=0) rfl bX rfl) (zM rfl (zM rfl (zN rfl (zF rfl (nJ _ _) (zL rfl (s.ld (k:=0) rfl dD rfl) (zO rfl (ak (r:=.int .u64 (a:Int)) rfl rfl (by rw[←J];exact jP (eV (by omega) (by omega)))) ?_)))))))))
 refine az.op rfl rfl rfl (by simp only[isEff,bz]) (bJ rfl (by exact gC bN bz (ax (by omega) (by omega)))) ?_
 refine zM rfl (az.any rfl rfl rfl rfl (OpR.call rfl rfl rfl rfl (QO (n:=n) (a:=a) hT hg hk hr zG xo ha hl (by omega) (s.ae [1]) (aU _ _))) ?_)
 rintro r h ⟨dt,ch,cs,rfl,s⟩
 have ji:=(s.buf (k:=1) rfl).view.cells
 have mP:=s.iU (j:=2) rfl
 have rS:=eN (s.buf (k:=1) rfl).view
 have gB:[V.int .i64 (kd:Int),V.int .u64 (tx:Int),V.int .u64 (pv:Int),V.int .u64 (nx:Int),dt,ch].all storable=true:=kq ji.2 mP.2.1
 have s1:=s
 refine zM rfl (zO rfl (dV rfl rfl) (zO rfl (dV rfl rfl) (zO rfl (dV rfl rfl) (az.iR rfl rfl rfl (OpR.uC rfl rfl rfl (s.fh (j:=6) rfl eD rfl gB)) ?_))))
 rintro v h ⟨rfl,s⟩
 refine zA rfl (zA rfl ?_)
 refine az.nil ⟨⟨aa,aa,aa,aa,aa,aa,aa,aa,aa,aa,aa,aa,aa,aa,aa,fun _ _=>.inr ⟨rfl,⟨_,dV rfl rfl⟩,aN _ rfl⟩,fun _ _=>.inr ⟨rfl,⟨_,dV rfl rfl⟩,aN _ rfl⟩,aa,aa,aa,aa⟩,?_⟩
 refine zK 4 rfl (zC rfl aA (rfl) (zk 4 rfl ?_))
 have hrb:(V.agg [V.int .i64 (kd:Int),V.int .u64 (tx:Int),V.int .u64 (pv:Int),V.int .u64 (nx:Int),dt,ch]).beq (V.agg [V.int .i64 (kd:Int),V.int .u64 (tx:Int),V.int .u64 (pv:Int),V.int .u64 (nx:Int),dt,ch])=true:=Js rS mP.2.2
 have s0:=s
 refine WP.drawn [none,some (0,2),some (0,2),some (0,2),some (0,2),some (0,2),some (0,2),some (0,2),af,af,af] rfl (by kernel_rfl) (by kernel_rfl) ?_
 refine zL rfl (s.cy (k:=6) rfl iS eD) (zM rfl (zN rfl (zF rfl (nJ _ _) (zL rfl (s.ld (k:=4) rfl dD rfl) (zM rfl (az.op rfl rfl rfl (by simp only[isEff,bN]) (bJ rfl (by exact gC bz bN (eV (by omega) (by omega)))) ?_))))))
 refine zO rfl (ak rfl rfl (by exact aR (eV (by omega) (by omega)))) ?_
 refine az.iR rfl rfl rfl (OpR.uC rfl rfl rfl (s.fh (j:=6) rfl eD rfl gB)) ?_
 rintro v h ⟨rfl,s⟩
 dsimp only[R5,aC,bringA,c5,setA] at s
 refine zA rfl (zA rfl ?_)
 refine az.nil ⟨⟨aa,fun _ _=>.inr ⟨rfl,⟨_,bf rfl⟩,aN _ rfl⟩,fun _ _=>.inr ⟨rfl,⟨_,lF rfl⟩,aN _ rfl⟩,fun _ _=>.inr ⟨rfl,⟨_,jr rfl (nJ _ _)⟩,aN _ rfl⟩,dW (.inr ⟨rfl,⟨_,aP rfl (s0.ld (k:=4) rfl dD rfl)⟩,aN _ rfl⟩) (.inr ⟨rfl,⟨_,aP rfl (s.ld (k:=4) rfl dD rfl)⟩,aN _ rfl⟩),fun _ _=>.inr ⟨rfl,⟨_,bf rfl⟩,aN _ rfl⟩,fun _ _=>.inr ⟨rfl,⟨_,bJ rfl (by exact gC bz bN (eV (by omega) (by omega)))⟩,aN _ rfl⟩,fun _ _=>.inr ⟨rfl,⟨_,ak rfl rfl (by exact aR (eV (by omega) (by omega)))⟩,aN _ rfl⟩,aa,aa,aa,aa⟩,?_⟩
 refine WP.ret ⟨aa,_,ET rfl (s.cy (k:=6) rfl iS eD) rfl rfl,?_⟩
 refine⟨dt,ch,cs,?_,fB.2 ⟨bv,sv,(s.ae [4,0,3,0,0,0]).del 6⟩⟩
 rw[show((μ.base:Int)+((a+8+bd.length:Nat):Int))=((n+8+bd.length:Nat):Int) by omega]
 rfl
end
def partsL : List cr→Nat
 |[]=>0
 |c::l=>(if c.whole=true then 0 else c.b.length+12)+partsL l
theorem B7 {a b:List cr}: partsL (a++b)=partsL a+partsL b:=by
 induction a<;>grind[partsL]
theorem aaq {y:Operand}(I:b≤a)(J:a<18446744073709551616): binV P h .sub t x y (.int .u64 (a:Int)) (.int .u64 (b:Int))=some (.int .u64 ((a-b:Nat):Int)):=by
 rw[show((a-b:Nat):Int)=(a:Int)-(b:Int) by omega]
 exact jP (eV (by omega) (by omega))
section
variable {told:cE} {p:Nat} {op:V}
theorem QS (J:W told)(hb:μ.base+μ.b.length≤1099511627776)(hr:δ.room≤16777216)(s:Sat h (c8 a p q r op data aH::bQ q p μ::bw p δ::S)):
  Call ⟨Tryz.prog,told⟩ 75 [.ptr a 0] h fun v h'=>v=.int .i64 ((δ.room:Int)-(μ.b.length:Int))∧h'=h:=by
 obtain⟨dv,s⟩:=cg.1 s
 refine Call.of_wp (J.free _ rfl) Tryz.func75 rfl rfl (zK 5 rfl ?_)
 have I:=s
 refine WP.drawn [af,af,af,af,af,some (0,2),some (0,2),some (0,2),some (0,2),none,some (0,3),some (0,3),some (0,3),some (0,3),af,af,af,af,af] rfl (by kernel_rfl) (by kernel_rfl) ?_
 refine zM rfl (zN rfl (zF rfl (uF _ _) (zL rfl (s.ld (k:=0) rfl rT rfl) (az.any rfl rfl rfl rfl (OpR.call rfl rfl rfl rfl (PO J (s.ae [3]))) ?_))))
 rintro v h' ⟨rfl,rfl⟩
 rw[show δ.R1=δ.room from rfl]
 refine zM rfl (zN rfl (zF rfl (nI _ _) (zL rfl (s.ld (k:=0) rfl qn rfl) (az.any rfl rfl rfl rfl (OpR.call rfl rfl rfl rfl (uO J (s.ae [2]) hb)) ?_))))
 rintro v h' ⟨rfl,rfl⟩
 refine zM rfl (zN rfl (zF rfl (nI _ _) (zL rfl (s.ld (k:=0) rfl qn rfl) (az.any rfl rfl rfl rfl (OpR.call rfl rfl rfl rfl (xq J (s.ae [2]))) ?_))))
 rintro v h' ⟨rfl,rfl⟩
 refine zO rfl (ak (r:=.int .u64 ((μ.b.length:Nat):Int)) rfl rfl (by rw[show((μ.base:Int)+(μ.b.length:Int))=((μ.base+μ.b.length:Nat):Int) by omega,aaq (by omega) (by omega),xV])) ?_
 refine az.op rfl rfl rfl (by simp only[isEff,bz]) (bJ (r:=.int .i64 ((μ.b.length:Nat):Int)) rfl (gC bN bz (ax (by omega) (by omega)))) ?_
 refine zO rfl (ak (r:=.int .i64 ((δ.room:Int)-(μ.b.length:Int))) rfl rfl (jP (ax (by omega) (by omega)))) ?_
 refine zA rfl ?_
 refine az.nil ⟨⟨aa,aa,aa,aa,aa,fun _ _=>.inr ⟨rfl,⟨_,bf rfl⟩,aN _ rfl⟩,fun _ _=>.inr ⟨rfl,⟨_,lF rfl⟩,aN _ rfl⟩,fun _ _=>.inr ⟨rfl,⟨_,jr rfl (nI _ _)⟩,aN _ rfl⟩,dW (.inr ⟨rfl,⟨_,aP rfl (I.ld (k:=0) rfl qn rfl)⟩,aN _ rfl⟩) (.inr ⟨rfl,⟨_,aP rfl (I.ld (k:=0) rfl qn rfl)⟩,aN _ rfl⟩),aa,fun _ _=>.inr ⟨rfl,⟨_,bf rfl⟩,aN _ rfl⟩,fun _ _=>.inr ⟨rfl,⟨_,lF rfl⟩,aN _ rfl⟩,fun _ _=>.inr ⟨rfl,⟨_,jr rfl (nI _ _)⟩,aN _ rfl⟩,rQ (.inr ⟨rfl,⟨_,aP rfl (I.ld (k:=0) rfl qn rfl)⟩,aN _ rfl⟩) (.inr ⟨rfl,⟨_,aP rfl (I.ld (k:=0) rfl qn rfl)⟩,aN _ rfl⟩) (.inr ⟨rfl,⟨_,aP rfl (I.ld (k:=0) rfl qn rfl)⟩,aN _ rfl⟩),aa,aa,aa,aa,aa,aa⟩,?_⟩
 refine WP.ret ⟨aa,_,rfl,?_⟩
 exact⟨rfl,rfl⟩
noncomputable def gcL : Code:=c6 [1,1,0,1,0,0] ((Tryz.f91.body).getD .skip)
theorem Ol {t3:V}{c:List cr}(hc:c.length≤33554432)(hb:∀x∈c,x.b.length≤512): ∀(j i:Nat) (h:H) (E:List (Nat×V)) (Q:Ex→List (Nat×V)→H→Prop),i+j=c.length→Sat h (.arr 4 av cs::cG cs c::S) →
  Has E [(3,t3),(5,.int .i64 (partsL (c.take i):Int)),(20,av),(21,.int .i64 (c.length:Int)),(22,.int .i64 (i:Int))] →
  (∀E' h',Has E' [(3,t3),(5,.int .i64 (partsL c:Int))]→Sat h' (.arr 4 av cs::cG cs c::S)→Q (.exit 0) E' h') →
  WP ⟨Tryz.prog,told⟩ 45 (.loop gcL) E h Q:=by
 have hp:∀i,partsL (c.take i)≤524*i:=by
  intro i
  induction i with
  |zero=>simp[partsL]
  |succ i ih =>
   by_cases hi:i<c.length
   ·rw[tL hi,B7]
    have:=hb _ (tY hi)
    simp only[partsL]
    split<;>omega
   ·rw[fS (by omega)] at ih ⊢;omega
 intro j
 induction j with
 |zero =>
  intro i h E Q hi s hE hq
  obtain rfl:i=c.length:=by omega
  rw[List.take_length] at hE
  refine WP.loop (WP.has hE (zg rfl (zC rfl aJ (by simp) ?_)))
  exact zk 3 rfl (WP.exit (hq _ _ ⟨rfl,rfl,aa⟩ s))
 |succ j ih =>
  intro i h E Q hi s hE hq
  obtain⟨x,hx⟩:∃x,c[i]?=some x:=⟨_,bp (by omega)⟩
  have hxb:=hb x (bI hx)
  have hpi:=hp i
  obtain⟨id,off,u,e1,e2,u1,u2,u3,s⟩:=F9 s hx
  have gB:[V.int .i64 x.aY,V.int .i64 x.pos,V.bool x.whole,u].all storable=true:=by simp only[jv,j7,u2];rfl
  have I:partsL (c.take (i+1))=partsL (c.take i)+if x.whole=true then 0 else x.b.length+12:=by
   have J:i<c.length:=by omega
   rw[tL J,B7]
   have:c[i]=x:=by rw[bp J] at hx;exact cx hx
   simp[partsL,this]
  refine WP.loop (WP.has hE (zg rfl (zB rfl aJ (by simp;omega) ?_)))
  refine zk 5 rfl (WP.block (zg rfl (zo rfl (cu (r:=.ptr id off) rfl rfl e1) (zl rfl e2 ?_))))
  refine aq.bG s rfl rfl rfl (bM mo) (fun p8 h s => ?_)
  dsimp only[V.cells,List.length_cons,List.length_nil,Nat.reduceAdd] at s
  refine zS rfl (s.fh (j:=0) rfl oo rfl gB) ?_
  intro h s
  dsimp only[setA] at s
  refine zk 3 rfl (zY s 0 yO nF rfl ?_)
  have Fc:x.whole=true∨x.whole=false:=by cases x.whole<;>simp
  rcases Fc with hw|hw
  ·rw[aF hw] at I
   refine zh rfl (dB rfl rfl) (by rw[hw];rfl) ?_
   refine zv (zj rfl (WP.skip (zr rfl (zb rfl (by exact aR (ax (by omega) (by omega))) ?_))))
   refine zm rfl (zv ?_)
   refine ih (i+1) _ _ Q (by omega) ((s.ae [2,2]).del 3 |>.del 2) ⟨rfl,?_,rfl,rfl,rfl,aa⟩ hq
   exact iA (fun z:Nat=>some (V.int .i64 (z:Int))) I.symm
  ·rw[ay (by rw[hw];decide)] at I
   refine zt rfl (dB rfl rfl) (by rw[hw];rfl) ?_
   refine zk 4 rfl (zY s 0 nM bX rfl (zo rfl (aQ rfl rfl rfl (bh aM (s.aD (k:=1) rfl (eC _ _)))) (zo rfl (ak (r:=.int .i64 ((x.b.length+12:Nat):Int)) rfl rfl (by rw[show((x.b.length+12:Nat):Int)=(x.b.length:Int)+12 by omega];exact aR (ax (by omega) (by omega)))) ?_)))
   refine zo rfl (ak (r:=.int .i64 ((partsL (c.take (i+1)):Nat):Int)) rfl rfl (by rw[I,show((partsL (c.take i)+(x.b.length+12):Nat):Int)=(partsL (c.take i):Int)+((x.b.length+12:Nat):Int) by omega];exact aR (ax (by omega) (by omega)))) ?_
   refine za rfl (zv (zr rfl (zb rfl (by exact aR (ax (by omega) (by omega))) ?_)))
   refine zm rfl (zv ?_)
   exact ih (i+1) _ _ Q (by omega) ((s.ae [2,2]).del 3 |>.del 2) ⟨rfl,rfl,rfl,rfl,rfl,aa⟩ hq
theorem QT (hT:W told){kd:Int}(ku:gR ε)(hw:bY ε≤268435456)(I:∀e∈now,e.2.length=512)(hm:now.length≤65536)(hk:∀n∈now.map (·.1),0≤n∧n<65536)(oK:tx<18446744073709551616)(qw:pv<18446744073709551616)(qx:nx<18446744073709551616)(hd:data.length≤35184372088832)
 (s:Sat h (dN g a now false::c8 a p q r op fK aH::dM r p q ε.1::bQ q p ε.2.1::bw p ε.2.2::X::S))(hX:cq X (cz dt data)):
  Call ⟨Tryz.prog,told⟩ 91 [.ptr g 0,.agg (c5 kd tx pv nx dt .aO)] h fun v h'=>∃e c ah,iE now (c9 now) ε e c ah ∧
   ((e≠0∧v=.aI [.int .i64 0,.int .i64 0,.int .i64 e])∨(e=0∧dg kd c=false∧v=.aI [.int .i64 0,.int .i64 (partsL c:Int),.int .i64 1])∨(e=0∧1048576<(cI kd tx pv nx data c).length∧v=.aI [.int .i64 0,.int .i64 (partsL c:Int),.int .i64 2]) ∨
    (e=0∧v=.aI [.int .i64 ((8+(cI kd tx pv nx data c).length:Nat):Int),.int .i64 (partsL c:Int),.int .i64 0])) ∧
   Sat h' (dN g a now false::c8 a p q r op fK aH::dM r p q ah.1::bQ q p ah.2.1::bw p ah.2.2::X::S):=by
 have kB:∀n∈now.map (·.1),(Lit.int .i64 n).wf=true:=fun n hn=>by
  have:=hk n hn
  exact wf_i64 (by omega) (by omega)
 have ji:=s.aD (k:=5) rfl hX
 have gB:=kq (kd:=kd) (tx:=tx) (pv:=pv) (nx:=nx) (dt:=dt) (ch:=.aO) ji.cells.2 rfl
 refine Call.of_wp (hT.free _ rfl) Tryz.func91 rfl rfl (zg rfl (aq.bG s rfl rfl rfl (dc rfl gB) ?_))
 intro p3 h s
 refine zk 8 rfl (zc rfl (BT hT (s.ae [1,1,1,1,1]) ku hw I hm kB) ?_)
 rintro v h ⟨e,c,ah,hc,B8⟩
 have J:=hc.fit I fun n hn=>hk n ((e_ _).mem_iff.1 hn)
 rcases B8 with⟨he,rfl,s⟩|⟨rfl,iZ,av,cs,rfl,s⟩
 ·skip
  refine zk 3 rfl (zf rfl (iC _ _) (zS rfl (s.dL (k:=5) rfl yA rfl (show 0+5<6 by decide) rfl rfl) ?_))
  intro h s
  refine zk 5 rfl (zB rfl aA (by simp;exact he) ?_)
  exact zk 9 rfl (WP.ret ⟨aa,_,rfl,e,c,ah,hc,.inl ⟨he,rfl⟩,(s.ae [0,0,0,0,0,1]).del 6⟩)
 ·have sZ:=s.iU (j:=0) rfl
  refine zk 3 rfl (zf rfl (iC _ _) (zS rfl (s.dL (k:=7) rfl yA rfl (show 0+5<6 by decide) sZ.1 sZ.2.1) ?_))
  intro h s
  refine zk 5 rfl (zC rfl aA (rfl) ?_)
  have s0:=s
  refine zk 6 rfl (zY s 7 iC og rfl ?_)
  obtain⟨qa,qb,q1,q2,q3⟩:=s.at (k:=1) rfl
  have X_:=lS q3
  refine zo rfl (aQ rfl rfl rfl (s.gF (n:=c.length) (j:=0) rfl X_ (by decide) gG)) ?_
  refine zk 2 rfl (WP.block ?_)
  refine Ol iZ (fun x hx => ?_) c.length 0 _ _ _ (by omega) s ⟨rfl,rfl,rfl,rfl,rfl,aa⟩ fun E' h' hE s' => ?_
  ·exact(J x hx).2
  have s:=s'
  refine WP.has hE (zg rfl (zl rfl (s.cy (k:=7) rfl iS eD) (zc rfl (D2 hT (s.ae [8,0,0]) hX (Jr iZ J oK qw qx hd)) ?_)))
  rintro v h (⟨hg,rfl,s⟩|⟨hg,hb,rfl,s⟩|⟨hg,hb,u,rfl,s⟩)
  ·skip
   exact zk 9 rfl (zo rfl (aQ rfl rfl rfl (rX rfl aM)) (zk 6 rfl (WP.ret ⟨aa,_,rfl,0,c,ah,hc,.inr (.inl ⟨rfl,hg,rfl⟩),((s.ae [3,3,3,3,3,0]).del 8 |>.del 7 |>.del 6)⟩)))
  ·skip
   exact zk 9 rfl (zo rfl (aQ rfl rfl rfl (rX rfl aM)) (zk 6 rfl (WP.ret ⟨aa,_,rfl,0,c,ah,hc,.inr (.inr (.inl ⟨rfl,hb,rfl⟩)),((s.ae [3,3,3,3,3,0]).del 8 |>.del 7 |>.del 6)⟩)))
  ·skip
   exact zk 9 rfl (zo rfl (aQ rfl rfl rfl (bh aM (s.aD (k:=0) rfl (aU _ _)))) (zk 6 rfl (WP.ret ⟨aa,_,rfl,0,c,ah,hc,.inr (.inr (.inr ⟨rfl,by rw[kK]⟩)),((s.ae [4,4,4,4,4,1]).del 9 |>.del 8 |>.del 7 |>.del 6)⟩)))
end
def dw (cell:List Nat)(i:Nat): Nat:=leN ((cell.drop (8*i)).take 8)
def kA (cell:List Nat)(i n:Nat): List Nat:=bx cell (8*i) (le 8 n)
theorem vM {cell:List Nat}(h:cell.length=400)(hi:i<50): (kA cell i n).length=400:=by
 rw[kA,cQ (by rw[cF];omega),h]
theorem TP {cell:List Nat}(I:∀b∈cell,b<256): dw cell i<18446744073709551616:=by
 have h:=BG ((cell.drop (8*i)).take 8) fun b J=>I b (l7 (kX J))
 have h2:((cell.drop (8*i)).take 8).length≤8:=by simp;omega
 have h3:=oO (n:=256) (by decide) h2
 exact gj h h3
theorem yX {cell:List Nat}(h:cell.length=400)(hi:i<50)(J:n<18446744073709551616): dw (kA cell i n) j=if j=i then n else dw cell j:=by
 have e:∀(l:List Nat) (k:Nat),dw l k=cU l (8*k) 8:=fun l k=>by
  rw[dw,cU,qO,xV]
 rw[e,e,kA]
 by_cases I:j=i
 ·subst I;rw[aF rfl];exact uU (by omega) (by omega)
 ·rw[ay I];exact yU (by rw[cF];omega) (by rw[cF];omega)
theorem B9 {y:Operand}(I:0<b)(hw:a<9223372036854775808): binV P h .rem t x y (.int .i64 (a:Int)) (.int .i64 (b:Int))=some (.int .i64 ((a%b:Nat):Int)):=by
 simp only[binV,ikBeq,ai,intV]
 have:intBeq (b:Int) 0=false:=by rw[mq];simp;omega
 have J:a%b≤a:=Nat.mod_le a b
 grind[ax]
theorem Om : IntKind.wrap .u64 (n:Int)=((n%18446744073709551616:Nat):Int):=by
 rfl
theorem Wl {y:Operand}: binV P h .add t x y (.int .u64 (a:Int)) (.int .u64 (b:Int))=some (.int .u64 (((a+b)%18446744073709551616:Nat):Int)):=by
 simp only[binV,ikBeq,ai,intV]
 rw[show(a:Int)+(b:Int)=((a+b:Nat):Int) by omega,Om]
structure fN (N n k:Nat)(cell:List Nat)(P:Int→List Nat): Prop where
 hd:∃R M,jm N R M P∧cU R 0 4=k
 k2:2≤k
 kN:k<N
 pg:dx (P k) 205 0 n [cell]
 len:cell.length=400
theorem fN.sA {cell:List Nat}{P P':Int→List Nat}(h:fN N n k cell P)(e:∀m,P' m=P m): fN N n k cell P':=by
 rw[show P'=P from funext e];exact h
theorem fN.put {cell I J:List Nat}(h:fN N n k cell (pgG now ε))(hs:Sm N ε ah)(hb:dx J 205 0 n [I])(hl:I.length=400): fN N n k I (pgG (cN (k:Int) J now) ah):=by
 obtain⟨R,M,h1,h2⟩:=h.hd
 have hk:=h.k2
 have e:∀m:Int,m≠k→pgG (cN (k:Int) J now) ah m=pgG now ε m:=fun m hm=>by rw[gz,ay (jx hm),BZ hs]
 exact⟨⟨R,M,h1.roots (e 1 (by omega)) (by rw[e 0 (by omega)];exact h1.head) h1.rl,h2⟩,hk,h.kN,by rw[gz,aF rfl];exact hb,hl⟩
section
variable {told:cE} {p:Nat} {op:V} {cell:List Nat} {A:bA→aE}
theorem G2 (hT:W told)(hR:BW told N B rv A pg)(ku:EI N B ε)(hp:fN N n k cell (pg ε))(hi:i<50)(s:Sat h (A ε::S)):
  Call ⟨Tryz.prog,told⟩ 74 [.ptr c 0,rv,.int .i64 (i:Int)] h fun v h'=>∃w u ah,v=.aI [.int .i64 (k:Int),w,u,.int .i64 0]∧EI N B ah∧Sm N ε ah∧Sat h' (aW u cell::aW w (pg ε k)::A ah::S):=by
 obtain⟨R,M,hs,hk⟩:=hp.hd
 obtain⟨ex,oJ⟩:=hs.head
 have Zn:=hp.kN
 obtain⟨ty,u,f,rfl,hm,iY⟩:=id hR.iface
 have e:i/50=0:=by omega
 refine Call.of_wp (hT.free _ rfl) Tryz.func74 rfl rfl (zK 12 rfl (zo rfl (ak (r:=.int .i64 ((i/50:Nat):Int)) rfl rfl (EU (b:=50) (by decide) (by omega))) ?_))
 rw[e]
 refine zc rfl (JD (i:=0) hT hR ku (by omega) oJ hs.rl (by decide) (by decide) s) ?_
 rintro v h ⟨lE,rfl,I,J,s⟩
 rw[aF (by decide),show 4*(0:Int).toNat=0 from rfl,hk]
 refine zk 9 rfl (zC rfl aA (rfl) (zk 8 rfl (aq.any rfl rfl rfl (OpR.invoke rfl rfl rfl hm rfl (iY (n:=(k:Int)) I (by omega) (by omega) s)) ?_)))
 rintro v h ⟨w,oH,rfl,sr,oL,s⟩
 rw[hR.same J] at s
 refine zk 9 rfl (zC rfl aA (rfl) (zk 6 rfl (zc rfl (GC (i:=0) hT s (aU _ _) hp.pg rfl) ?_)))
 rintro v h ⟨z,rfl,s⟩
 exact zk 17 rfl (WP.ret ⟨aa,_,rfl,w,z,oH,rfl,sr,J.trans oL,s⟩)
theorem G3 (hT:W told)(hB:B≤2000)(ku:EI N B ε)(hw:NW N now)(hp:fN N n k cell (pgG now ε))(hi:i<50)(hd:IntKind.wrap .u64 d=(dn:Int))(lV:dn<18446744073709551616)(s:Sat h (GA g a p q r data aH now ε::S)):
  Call ⟨Tryz.prog,told⟩ 70 [.ptr c 0,.ptr g 0,.int .i64 (i:Int),.int .i64 d] h fun v h'=>∃ah b',v=.int .i64 0∧EI N B ah∧Sm N ε ah∧NW N (cN (k:Int) b' now) ∧
   dx b' 205 0 n [kA cell i ((dw cell i+dn)%18446744073709551616)]∧Sat h' (GA g a p q r data aH (cN (k:Int) b' now) ah::S):=by
 have Zn:=hp.kN
 have iZ:=hp.len
 refine Call.of_wp (hT.free _ rfl) Tryz.func70 rfl rfl (zK 8 rfl (zo rfl (pI rfl (mki_of pZ rfl)) (zm rfl (zc rfl (G2 hT (V1 hT hB hw) ku hp hi s) ?_))))
 rintro v h ⟨w,u,lE,rfl,mC,fX,s⟩
 have gd:pgG now lE=pgG now ε:=BZ fX
 have I:=(s.buf (k:=0) rfl).view
 have Ya:=I.1
 have hcn:=TP (cell:=cell) (i:=i) Ya
 have Gn:=cH I (a:=8*i) (b:=8*i+8) (by omega) (by omega)
 have JL:(cell.take (8*i+8)).drop (8*i)=(cell.drop (8*i)).take 8:=by rw[qO,xV]
 have cA:(dw cell i+dn)%18446744073709551616<18446744073709551616:=jw _ (by decide)
 have Wm:∀ {P:Program} {h:H} {t:TypeId} {x y:Operand},binV P h .add t x y (.int .u64 (dw cell i:Int)) (.int .u64 (dn:Int))=some (.int .u64 (((dw cell i+dn)%18446744073709551616:Nat):Int)):=Wl
 generalize (dw cell i+dn)%18446744073709551616=z at cA Wm ⊢
 have aar:i%50=i:=oQ hi
 refine zk 14 rfl (zC rfl aA (rfl) (zk 6 rfl (zo rfl (ak (r:=.int .i64 (i:Int)) rfl rfl ((B9 (b:=50) (by decide) (by omega)).trans (by rw[aar]))) ?_)))
 refine zo rfl (ak (r:=.int .i64 ((8*i:Nat):Int)) rfl rfl (by rw[show((8*i:Nat):Int)=(i:Int)*8 by omega];exact ik (ax (by omega) (by omega)))) ?_
 refine zk 3 rfl ?_
 have sH:=eN I
 have BJ:=eN Gn.2.1
 have wG:∀h,convV Tryz.prog h 2 32 (.int .i64 d)=some (.int .u64 (dn:Int),h):=fun h=>by simp only[convV,uW,bN,hd]
 have s0:=s
 refine WP.drawn [some (0,3),some (0,3),some (0,3),some (0,3),some (0,3),af,af,af,af,af,af,some (0,2),some (0,2),af,af,af] rfl (by kernel_rfl) (by kernel_rfl) ?_
 refine zM rfl (zM rfl (zM rfl (zO rfl (ak (r:=.int .i64 ((8*i+8:Nat):Int)) rfl rfl (by rw[show((8*i+8:Nat):Int)=((8*i:Nat):Int)+8 by omega];exact aR (ax (by omega) (by omega)))) ?_)))
 refine zO rfl (cf (p:=some (.int .i64 ((8*i:Nat):Int))) (q:=some (.int .i64 ((8*i+8:Nat):Int))) (m:=none) (p':=some (8*i)) (q':=some (8*i+8)) (m':=none) rfl rfl rfl rfl (by rw[cn (by omega),b8]) (by rw[cn (by omega),b8]) rfl (cH (s.buf (k:=0) rfl).view (by omega) (by omega)).1) ?_
 refine zM rfl (zM rfl (zM rfl (zO rfl (ak (r:=.int .i64 ((8*i+8:Nat):Int)) rfl rfl (by rw[show((8*i+8:Nat):Int)=((8*i:Nat):Int)+8 by omega];exact aR (ax (by omega) (by omega)))) ?_)))
 refine zO rfl (cf (p:=some (.int .i64 ((8*i:Nat):Int))) (q:=some (.int .i64 ((8*i+8:Nat):Int))) (m:=none) (p':=some (8*i)) (q':=some (8*i+8)) (m':=none) rfl rfl rfl rfl (by rw[cn (by omega),b8]) (by rw[cn (by omega),b8]) rfl (cH I (by omega) (by omega)).1) ?_
 refine az.any rfl rfl rfl rfl (OpR.call rfl rfl rfl rfl (nO hT s (k:=0) rfl (jh (aU _ _) (a:=8*i) (b:=8*i+8) (by omega) (by omega)) (by rw[JL];simp;omega))) ?_
 rintro r h' ⟨rfl,rfl⟩
 rw[JL,show leN ((cell.drop (8*i)).take 8)=dw cell i from rfl]
 refine zM rfl (az.op rfl rfl rfl (by simp only[isEff,bN]) (bJ (r:=.int .u64 (dn:Int)) rfl (wG _)) ?_)
 refine zO rfl (ak (r:=.int .u64 (z:Int)) rfl rfl Wm) ?_
 have s:=s.rW
 refine az.any rfl rfl rfl rfl (OpR.call rfl rfl rfl rfl (uM (z:=8) (n:=z) hT s (by decide) (by simp))) ?_
 intro v h s
 rw[d_] at s
 have s:=s.ae [1,0]
 have s1:=s
 refine az.any rfl rfl rfl rfl (OpR.KK (p:=8*i) (q:=8*i+8) rfl s (aU _ _) rfl rfl rfl rfl (by omega) (by omega) (by rw[cF];omega)) ?_
 intro _ h s
 rw[fS (by rw[cF];omega)] at s
 have s:Sat h (aW u (kA cell i z)::_):=s
 refine az.nil ⟨⟨fun _ _=>.inr ⟨rfl,⟨_,bf rfl⟩,sH⟩,fun _ _=>.inr ⟨rfl,⟨_,bf rfl⟩,aN _ rfl⟩,fun _ _=>.inr ⟨rfl,⟨_,bf rfl⟩,aN _ rfl⟩,fun _ _=>.inr ⟨rfl,⟨_,ak (r:=.int .i64 ((8*i+8:Nat):Int)) rfl rfl (by rw[show((8*i+8:Nat):Int)=((8*i:Nat):Int)+8 by omega];exact aR (ax (by omega) (by omega)))⟩,aN _ rfl⟩,rQ (.inr ⟨rfl,⟨_,cf (p:=some (.int .i64 ((8*i:Nat):Int))) (q:=some (.int .i64 ((8*i+8:Nat):Int))) (m:=none) (p':=some (8*i)) (q':=some (8*i+8)) (m':=none) rfl rfl rfl rfl (by rw[cn (by omega),b8]) (by rw[cn (by omega),b8]) rfl (cH (s0.buf (k:=0) rfl).view (by omega) (by omega)).1⟩,BJ⟩) (.inr ⟨rfl,⟨_,cf (p:=some (.int .i64 ((8*i:Nat):Int))) (q:=some (.int .i64 ((8*i+8:Nat):Int))) (m:=none) (p':=some (8*i)) (q':=some (8*i+8)) (m':=none) rfl rfl rfl rfl (by rw[cn (by omega),b8]) (by rw[cn (by omega),b8]) rfl (cH (s0.buf (k:=0) rfl).view (by omega) (by omega)).1⟩,BJ⟩) (.inr ⟨rfl,⟨_,cf (p:=some (.int .i64 ((8*i:Nat):Int))) (q:=some (.int .i64 ((8*i+8:Nat):Int))) (m:=none) (p':=some (8*i)) (q':=some (8*i+8)) (m':=none) rfl rfl rfl rfl (by rw[cn (by omega),b8]) (by rw[cn (by omega),b8]) rfl (cH (s1.buf (k:=0) rfl).view (by omega) (by omega)).1⟩,BJ⟩),aa,aa,aa,aa,aa,aa,fun _ _=>.inr ⟨rfl,⟨_,bf rfl⟩,aN _ rfl⟩,fun _ _=>.inr ⟨rfl,⟨_,bJ (r:=.int .u64 (dn:Int)) rfl (wG _)⟩,aN _ rfl⟩,aa,aa,aa,aa⟩,?_⟩
 have s:=s.ae [2,0,1]
 have G4:dx (pgG now ε k) 205 0 n [cell]:=hp.pg
 refine zK 5 rfl (zc rfl (yV (i:=0) (c:=cell) hT s (aU _ _) (aU _ _) G4 rfl (by rw[vM iZ hi,iZ])) ?_)
 rintro v h ⟨w3,b',rfl,J,s⟩
 have J:dx b' 205 0 n [kA cell i z]:=J
 refine zk 9 rfl (zC rfl aA (rfl) (zk 8 rfl (zc rfl (B1 (i:=k) hT hB mC hw Zn (s.ae [3,0]) (aU _ _) J) ?_)))
 rintro v h ⟨vI,rfl,qy,lX,nU,s⟩
 exact zk 2 rfl (WP.ret ⟨aa,_,rfl,vI,b',rfl,qy,fX.trans lX,nU,J,(((s.del 4).del 3).del 2).del 1⟩)
theorem QU (hT:W told)(hB:B≤2000)(I:EI N B ε)(hp:fN N n k cell (pgA ε))(hn:n≤50){m:Nat}{i:Int}(s:Sat h (SA a p q r op data aH ε::pt c (.cells 2 [.ptr m 0,.int .i64 (n:Int)] false)::pt m (.cells 4 [.ptr a 0,uv,av,.int .u64 (nx:Int)] false)::S)):
  Call ⟨Tryz.prog,told⟩ 29 [.ptr c 0,.int .i64 i] h fun v h'=>∃ah,EI N B ah∧Sm N ε ah∧v=(if 0≤i∧i<n then .aI [.int .i64 (IntKind.wrap .i64 (dw cell i.toNat:Nat)),.int .i64 0] else .aI [.int .i64 0,.int .i64 1]) ∧
   Sat h' (SA a p q r op data aH ah::pt c (.cells 2 [.ptr m 0,.int .i64 (n:Int)] false)::pt m (.cells 4 [.ptr a 0,uv,av,.int .u64 (nx:Int)] false)::S):=by
 have iZ:=hp.len
 refine Call.of_wp (hT.free _ rfl) Tryz.func29 rfl rfl (zK 9 rfl ?_)
 by_cases h0:i<0
 ·skip
  refine zB rfl aJ (by simp;exact h0) ?_
  exact zk 15 rfl (WP.ret ⟨aa,_,rfl,ε,I,Sm.refl N ε,by rw[ay (by omega)],s⟩)
 ·obtain⟨j,rfl⟩:∃j:Nat,i=j:=⟨i.toNat,by omega⟩
  refine zC rfl aJ (by simp<;>omega) ?_
  refine zk 4 rfl (zY s 1 uG ep rfl ?_)
  by_cases h1:n≤j
  ·skip
   refine zB rfl jQ (by simp;omega) ?_
   exact zk 8 rfl (WP.ret ⟨aa,_,rfl,ε,I,Sm.refl N ε,by rw[ay (by omega)],s⟩)
  ·have J:j%50=j:=oQ (by omega)
   have wG:∀h,convV Tryz.prog h 32 2 (.int .u64 (dw cell j:Nat))=some (.int .i64 (IntKind.wrap .i64 (dw cell j:Nat)),h):=fun h=>by simp only[convV,uW,bN]
   refine zC rfl jQ (by simp;omega) ?_
   refine zk 9 rfl (zY s 1 oX lR rfl (zn rfl (zY s 2 oY m6 rfl (zo rfl (pI rfl (mki_of BQ rfl)) (zm rfl (zc rfl (G2 hT (Le hT hB) I hp (by omega) s) ?_))))))
   rintro v h ⟨w,u,lE,rfl,mC,fX,s⟩
   have DY:=(s.buf (k:=0) rfl).view
   have Gn:=cH DY (a:=8*j) (b:=8*j+8) (by omega) (by omega)
   have JL:(cell.take (8*j+8)).drop (8*j)=(cell.drop (8*j)).take 8:=by rw[qO,xV]
   refine zk 14 rfl (zC rfl aA (rfl) (zk 6 rfl (zo rfl (ak (r:=.int .i64 (j:Int)) rfl rfl ((B9 (b:=50) (by decide) (by omega)).trans (by rw[J]))) ?_)))
   refine zo rfl (ak (r:=.int .i64 ((8*j:Nat):Int)) rfl rfl (by rw[show((8*j:Nat):Int)=(j:Int)*8 by omega];exact ik (ax (by omega) (by omega)))) ?_
   refine zk 7 rfl (zo rfl (ak (r:=.int .i64 ((8*j+8:Nat):Int)) rfl rfl (by rw[show((8*j+8:Nat):Int)=((8*j:Nat):Int)+8 by omega];exact aR (ax (by omega) (by omega)))) ?_)
   refine zo rfl (cf (p:=some (.int .i64 ((8*j:Nat):Int))) (q:=some (.int .i64 ((8*j+8:Nat):Int))) (m:=none) (p':=some (8*j)) (q':=some (8*j+8)) (m':=none) rfl rfl rfl rfl (by rw[cn (by omega),b8]) (by rw[cn (by omega),b8]) rfl Gn.1) ?_
   refine zc rfl (nO hT s (k:=0) rfl (jh (aU _ _) (a:=8*j) (b:=8*j+8) (by omega) (by omega)) (by rw[JL];simp;omega)) ?_
   rintro r h' ⟨rfl,rfl⟩
   rw[JL,show leN ((cell.drop (8*j)).take 8)=dw cell j from rfl]
   exact zo rfl (bJ (r:=.int .i64 (IntKind.wrap .i64 (dw cell j:Nat))) rfl (wG _)) (zk 3 rfl (WP.ret ⟨aa,_,rfl,lE,mC,fX,by rw[aF (by omega),b8],((s.del 1).del 0)⟩))
end
def G5 (l:List Nat): List V:=l.map fun(n:Nat)=>V.int .u64 (n:Int)
structure mT where
 fst:Nat
 dF:Nat
 jj:Nat
 Eb:List Nat
 dn:List (Nat×Nat)
 pg:List Int
variable {A A1 A2:mT}
def kT (l:List (Nat×Nat)): List V:=l.flatMap fun d=>[.int .u64 (d.1:Int),.int .i64 (d.2:Int)]
theorem jz (l:List (Nat×Nat)): (kT l).length=l.length*2:=by
 induction l with
 |nil=>rfl
 |cons d l I=>rw[kT,nj,bP];show 2+(kT l).length=_;rw[I,bq];omega
theorem Di : ∀ {l:List (Nat×Nat)} {i:Nat} {d:Nat×Nat},l[i]?=some d→((kT l).drop (i*2)).take 2=[.int .u64 (d.1:Int),.int .i64 (d.2:Int)]:=by
 intro l
 induction l with
 |nil=>intro i d h;simp at h
 |cons x l I =>
  intro i d h
  cases i with
  |zero=>simp at h;subst h;rfl
  |succ i =>
   have:=I (i:=i) (by simpa using h)
   rw[show(i+1)*2=i*2+2 by omega]
   exact this
theorem TQ {a b:List (Nat×Nat)}: kT (a++b)=kT a++kT b:=by simp[kT]
def kH (id f l n:Nat)(mv dv pv:V): List V:=[.int .u64 (id:Int),.int .u64 (f:Int),.int .u64 (l:Int),.int .u64 (n:Int),mv,dv,pv]
def tJ (pv:V)(l:List Int): aE:=pn (fun v (_:Unit)=>.pu (v=.agg [])) pv (l.map fun n=>(n,()))
def oE (r id:Nat)(A:mT): aE:=xs fun mv:V=>xs fun dv:V=>xs fun pv:V=>star [pt r (.cells 7 (kH id A.fst A.dF A.jj mv dv pv) false),.arr 1 mv (G5 A.Eb),.arr 2 dv (kT A.dn),tJ pv A.pg]
abbrev sB := List (Nat×Nat×mT)
variable {L:sB}
def j3 : sB→aE
 |[]=>.pu True
 |e::L=>star [oE e.2.1 e.1 e.2.2,j3 L]
def gV (m a nx:Nat)(u:V)(L:sB): aE:=xs fun av:V=>star [pt m (.cells 4 [.ptr a 0,u,av,.int .u64 (nx:Int)] false),js .u64 (fun v (r:Nat)=>.pu (v=.ptr r 0)) av (L.map fun e=>((e.1:Int),e.2.1)),j3 L]
section
variable {m:Nat} {x:Nat×Nat×mT}
theorem jW : Sat h (oE r id A::S)↔∃mv dv pv,Sat h (pt r (.cells 7 (kH id A.fst A.dF A.jj mv dv pv) false)::.arr 1 mv (G5 A.Eb)::.arr 2 dv (kT A.dn)::tJ pv A.pg::S):=by
 simp[oE,gT,aZ]
theorem fL : Sat h (gV m a nx u L::S)↔∃av,Sat h (pt m (.cells 4 [.ptr a 0,u,av,.int .u64 (nx:Int)] false)::js .u64 (fun v (r:Nat)=>.pu (v=.ptr r 0)) av (L.map fun e=>((e.1:Int),e.2.1))::j3 L::S):=by
 simp[gV,gT,aZ]
theorem qL : Sat h (j3 (x::L)::S)↔Sat h (oE x.2.1 x.1 x.2.2::j3 L::S):=aZ
theorem jk : ∀ {L:sB} {i:Nat},L[i]?=some x→∀ {S:List aE},Sat h (j3 L::S)↔Sat h (oE x.2.1 x.1 x.2.2::j3 (L.eraseIdx i)::S):=by
 intro L
 induction L with
 |nil=>intro i h;simp at h
 |cons y L J =>
  intro i I S
  cases i with
  |zero=>simp at I;subst I;exact qL
  |succ i =>
   have I:L[i]?=some x:=by simpa using I
   rw[qL,List.eraseIdx_cons_succ]
   constructor
   ·intro s
    exact((qL (x:=y)).2 ((((J I).1 (s.ae [1])).ae [2,1]))).ae [1]
   ·intro s
    exact((J I).2 (((qL (x:=y)).1 (s.ae [1])).ae [2,1])).ae [1]
theorem QV (s:Sat h (oE r id A::j3 L::S)): Sat h (j3 (L++[(id,r,A)])::S):=by
 have I:(L++[(id,r,A)])[L.length]?=some (id,r,A):=by simp
 refine(jk I).2 ?_
 rw[List.eraseIdx_append_of_length_le (aS _)]
 simpa using s
theorem QW {x':Nat×Nat×mT}(I:L[i]?=some x): Sat h (oE x'.2.1 x'.1 x'.2.2::j3 (L.eraseIdx i)::S)↔Sat h (j3 (L.set i x')::S):=by
 have hi:=(List.getElem?_eq_some_iff.1 I).1
 have J:(L.set i x')[i]?=some x':=by simp[hi]
 rw[jk J,List.eraseIdx_set_eq]
end
theorem Sat.G6 {v:V}{e:TypeId}(s:Sat h (.arr k v cs::S))(hi:i*k+k≤cs.length)(J:1≤k)(hu:P.underlying t=some (.slice e))(I:bj P e=some k)(ha:isAggT P e=some true):
  ∃id off,indexAddrV P t v (.int .i64 (i:Int))=some (.ptr id off)∧loadV P h e (.ptr id off)=some (.agg ((cs.drop (i*k)).take k)):=by
 obtain⟨id,n,cap,N,rest,rfl,hl,hN,s1,_⟩:=s.I9 (fun q=>by rw[q] at hi;simp at hi;omega)
 refine⟨id,i*k,?_,?_⟩
 ·simp only[indexAddrV,hu,I,b8]
  have:i<n:=by
   have h4:i*k+k=(i+1)*k:=by rw[nr,yj]
   rw[h4,hl] at hi
   exact Co (Cg hi J)
  rw[show(decide ((0:Int)≤(i:Int))&&decide ((i:Int)<(n:Int)))=true by simp;omega,ai]
  simp
 ·rw[RW ha I (s1.row (k:=0) rfl) (by rw[bP];exact hN.symm) (by omega)]
  rw[List.drop_append_of_le_length (by omega),Iz (by rw[List.length_drop];omega)]
def gh (l:List (Nat×Nat)): Nat:=(l.map (·.2)).foldr (· + ·) 0
theorem AK {a b:List (Nat×Nat)}: gh (a++b)=gh a+gh b:=by
 induction a<;>grind[gh]
theorem On : ∀ {l:List (Nat×Nat)} {i:Nat} {d:Nat×Nat},l[i]?=some d→gh (l.take (i+1))=gh (l.take i)+d.2:=by
 intro l i d h
 have hi:=(List.getElem?_eq_some_iff.1 h)
 rw[tL hi.1,AK,hi.2];simp[gh]
def mZ (dn:List (Nat×Nat))(k:Nat): Nat:=128+gh dn+(if dn=[] then 0 else 560*(k+8))
structure Grow (h h':H)(k:Nat): Prop where
 next:h'.next=h.next+k
 get:∀i,i<h.next→T.get h'.tr i=T.get h.tr i
theorem Grow.trans {I:H}(a:Grow h h' i)(b:Grow h' I j): Grow h I (i+j) :=
 ⟨by rw[b.next,a.next];omega,fun k J=>by rw[b.get k (by rw[a.next];omega),a.get k J]⟩
section
variable {told:cE} {m:Nat}
noncomputable def coL : Code:=c6 [1,1,0,1,0,0] ((Tryz.f143.body).getD .skip)
theorem Lr {dn:List (Nat×Nat)}(hs:gh dn≤1099511627776)(hl:dn.length≤1048576){t0:V}: ∀(j i:Nat) (h:H) (E:List (Nat×V)) (Q:Ex→List (Nat×V)→H→Prop),i+j=dn.length→Sat h (.arr 2 dv (kT dn)::S) →
  Has E [(0,t0),(3,.int .i64 ((128+gh (dn.take i):Nat):Int)),(9,dv),(10,.int .i64 (dn.length:Int)),(11,.int .i64 (i:Int))] →
  (∀E' h',Grow h h' j→Has E' [(0,t0),(3,.int .i64 ((128+gh dn:Nat):Int))]→Sat h' (.arr 2 dv (kT dn)::S)→Q (.exit 0) E' h') →
  WP ⟨Tryz.prog,told⟩ 36 (.loop coL) E h Q:=by
 intro j
 induction j with
 |zero =>
  intro i h E Q hi s I J
  obtain rfl:i=dn.length:=by omega
  rw[List.take_length] at I
  refine WP.loop (WP.has I (zg rfl (zC rfl aJ (by simp) ?_)))
  exact zk 3 rfl (WP.exit (J _ _ ⟨rfl,fun _ _=>rfl⟩ ⟨rfl,rfl,aa⟩ s))
 |succ j ih =>
  intro i h E Q hi s I J
  obtain⟨d,hd⟩:∃d,dn[i]?=some d:=⟨_,bp (by omega)⟩
  have gB:=On hd
  have hle:gh (dn.take (i+1))≤gh dn:=by
   conv=>rhs;rw[←List.take_append_drop (i+1) dn,AK]
   omega
  obtain⟨B_,off,e1,e2⟩:=s.G6 (P:=Tryz.prog) (i:=i) (k:=2) (by rw[jz];omega) (by decide) jM qG EO
  rw[Di hd] at e2
  refine WP.loop (WP.has I (zg rfl (zB rfl aJ (by simp;omega) ?_)))
  refine zk 5 rfl (WP.block (zg rfl (zo rfl (cu (r:=.ptr B_ off) rfl rfl e1) (zl rfl e2 (zo rfl (bM Bt) ?_)))))
  have s1:=s.new (.cells 2 [.int .u64 0,.int .i64 0] false)
  have e3:=XY (P:=Tryz.prog) (t:=185) (l:=[.int .u64 (d.1:Int),.int .i64 (d.2:Int)]) (s1.row (k:=0) rfl) qG rfl rfl rfl
  have s2:=s1.put (o':=.cells 2 [.int .u64 (d.1:Int),.int .i64 (d.2:Int)] false) (k:=0) rfl
  dsimp only[setA] at s2
  have hg:Grow h ((h.new (.cells 2 [.int .u64 0,.int .i64 0] false)).put h.next (some (.cells 2 [.int .u64 (d.1:Int),.int .i64 (d.2:Int)] false))) 1:=⟨rfl,fun i hi=>by rw[dS,ay (by omega),fG,ay (by omega)]⟩
  refine aq.YG rfl rfl (CU rfl rfl e3) ?_
  have s:=s2
  refine zk 3 rfl (zY s 0 S4 ep rfl (zo rfl (ak (r:=.int .i64 ((128+gh (dn.take (i+1)):Nat):Int)) rfl rfl (by rw[show((128+gh (dn.take (i+1)):Nat):Int)=((128+gh (dn.take i):Nat):Int)+(d.2:Int) by omega];exact aR (ax (by omega) (by omega)))) ?_))
  refine za rfl (zv (zr rfl (zb rfl (by exact aR (ax (by omega) (by omega))) ?_)))
  refine zm rfl (zv ?_)
  exact ih (i+1) _ _ Q (by omega) s.drop ⟨rfl,rfl,rfl,rfl,rfl,aa⟩ fun E' h' Wn eF s'=>J E' h' (by have:=hg.trans Wn;rw[yh 1 j] at this;exact this) eF s'
theorem QX (hs:gh A.dn≤1099511627776)(hd:A.dn.length≤1048576)(hp:A.pg.length≤1048576)(hT:W told)(s:Sat h (oE r id A::S)): Call ⟨Tryz.prog,told⟩ 143 [.ptr r 0] h fun v h'=>v=.int .i64 (mZ A.dn A.pg.length:Int)∧Grow h h' A.dn.length∧Sat h' (oE r id A::S):=by
 obtain⟨mv,dv,pv,s⟩:=jW.1 s
 have s:=s.ae [2]
 refine Call.of_wp (hT.free _ rfl) Tryz.func143 rfl rfl (zK 13 rfl (zY s 1 o5 Br rfl (zo rfl (aQ rfl rfl rfl (s.gF (n:=A.dn.length) (j:=0) rfl (jz _) (by decide) jM)) ?_)))
 refine zk 2 rfl (WP.block (Lr hs hd A.dn.length 0 _ _ _ (by omega) s ⟨rfl,rfl,rfl,rfl,rfl,aa⟩ fun E' h' hg J s' => ?_))
 have s:=s'
 refine WP.has J (zK 5 rfl (zY s 1 o5 Br rfl (zo rfl (aQ rfl rfl rfl (s.gF (n:=A.dn.length) (j:=0) rfl (jz _) (by decide) jM)) ?_)))
 have fin:∀ {h:H},Sat h (.arr 2 dv (kT A.dn)::pt r (.cells 7 (kH id A.fst A.dF A.jj mv dv pv) false)::.arr 1 mv (G5 A.Eb)::tJ pv A.pg::S)→Sat h (oE r id A::S):=fun s=>jW.2 ⟨mv,dv,pv,s.ae [1,1,0]⟩
 by_cases I:A.dn=[]
 ·skip
  refine zC rfl fI (by simp[I]) ?_
  exact zk 8 rfl (WP.ret ⟨aa,_,rfl,by rw[mZ,aF I];rfl,hg,fin s⟩)
 ·have h1:0<A.dn.length:=List.length_pos_iff.2 I
  refine zB rfl fI (by simp;omega) ?_
  refine zk 6 rfl (zY s 1 C2 KC rfl (zo rfl (aQ rfl rfl rfl ((FM (s.ae [3]) GW).trans (by rw[fE]))) ?_))
  refine zo rfl (ak (r:=.int .i64 ((A.pg.length+8:Nat):Int)) rfl rfl (by rw[show((A.pg.length+8:Nat):Int)=(A.pg.length:Int)+8 by omega];exact aR (ax (by omega) (by omega)))) ?_
  refine zo rfl (ak (r:=.int .i64 ((560*(A.pg.length+8):Nat):Int)) rfl rfl (by rw[show((560*(A.pg.length+8):Nat):Int)=560*((A.pg.length+8:Nat):Int) by omega];exact ik (ax (by omega) (by omega)))) ?_
  refine zo rfl (ak (r:=.int .i64 (mZ A.dn A.pg.length:Int)) rfl rfl (by rw[mZ,ay I,show((128+gh A.dn+560*(A.pg.length+8):Nat):Int)=((128+gh A.dn:Nat):Int)+((560*(A.pg.length+8):Nat):Int) by omega];exact aR (ax (by omega) (by omega)))) ?_
  exact zk 7 rfl (WP.ret ⟨aa,_,rfl,rfl,hg,fin s⟩)
end
theorem TR {v:V}(a:rR (T.get h.tr) k v cs): ∃n,cs.length=n*k∧srcV h k v=some (cs,n):=by
 rcases a.2 with⟨rfl,rfl⟩|⟨id,n,cap,N,rest,rfl,J,I,e2,_,e4⟩
 ·exact⟨0,by simp,rfl⟩
 ·refine⟨n,I,?_⟩
  simp only[srcV]
  rw[w_ J (by grind) (by omega),←I,gX,nk rfl]
  rfl
def Ls : List V→Nat
 |_::.int _ k::l=>k.toNat+Ls l
 |_=>0
theorem TS : ∀l:List (Nat×Nat),Ls (kT l)=gh l:=by
 intro l
 induction l with
 |nil=>rfl
 |cons d l I =>
  show(d.2:Int).toNat+Ls (kT l)=_
  rw[I];simp[gh]
noncomputable def costR (h:H)(u:V): Option (Nat×Nat):=match u with
 |.ptr r 0=>match T.get h.tr r with
  |some (.cells 7 [_,_,_,_,_,dv,.map pid] false)=>match srcV h 2 dv,T.get h.tr pid with
   |some (cs,n),some (.map es _)=>some (128+Ls cs+(if n=0 then 0 else 560*(es.length+8)),n)
   |_,_=>none
  |_=>none
 |_=>none
noncomputable def wC (h:H)(e:Int×V×Nat): Nat:=((costR h e.2.1).getD (0,0)).1
noncomputable def wK (h:H)(e:Int×V×Nat): Nat:=((costR h e.2.1).getD (0,0)).2
def sumF (f:Int×V×Nat→Nat): dP→Nat
 |[]=>0
 |e::l=>f e+sumF f l
def lI (f:Int×V×Nat→Nat)(seen:List Nat): dP→Nat
 |[]=>0
 |e::l=>cond (inL seen e.2.2) 0 (f e)+lI f seen l
theorem Ec {f:Int×V×Nat→Nat}: ∀ {l:dP},lI f [] l=sumF f l:=by
 intro l
 induction l<;>grind[lI,sumF,inL]
theorem Oo {f:Int×V×Nat→Nat}: ∀ {l:dP},(∀e∈l,inL seen e.2.2=true)→lI f seen l=0:=by
 intro l
 induction l<;>grind[lI]
theorem It {f:Int×V×Nat→Nat}: ∀ {l:dP},(∀e∈l,e.2.2≠b)→lI f (seen++[b]) l=lI f seen l:=by
 intro l
 induction l<;>grind[lI,ry,eO]
theorem Ca {f:Int×V×Nat→Nat}: ∀ {l:dP} {b:Nat} {e:Int×V×Nat},iD c b l→e∈l→inL seen e.2.2=false→lI f (seen++[e.2.2]) l+f e=lI f seen l:=by
 intro l
 induction l with
 |nil=>intro b e _ he;cases he
 |cons y l ih =>
  intro b e I he hs
  rcases List.mem_cons.1 he with rfl|he
  ·simp only[lI,ry,hs,eW,Bool.or_true,ai,aK]
   rw[It fun e' J=>by have:=Aw I.2.2 e' J;omega]
   omega
  ·have:=Aw I.2.2 e he
   simp only[lI,ry,eO (show e.2.2≠y.2.2 by omega),Bool.or_false]
   have:=ih I.2.2 he hs
   omega
def yY (args:List V)(h:H)(r:V×H): Prop:=∃m cs cR es clock,args=[.ptr m 0]∧T.get h.tr m=some (.cells 4 cs false)∧nth cs 2=some (.map cR)∧T.get h.tr cR=some (.map (es.map (i_ .u64)) clock) ∧
 r=(.int .i64 ((256+sumF (wC h) es:Nat):Int),⟨h.next+1+sumF (wK h) es,h.tr⟩)
def jN (x:Nat×Nat×mT): Nat:=mZ x.2.2.dn x.2.2.pg.length
def oF (L:sB): Nat:=256+(L.map jN).foldr (· + ·) 0
def sC (L:sB): Prop:=L.length≤1048576∧∀x∈L,gh x.2.2.dn≤1048576∧x.2.2.dn.length≤1048576∧x.2.2.pg.length≤1048576
section
variable {m:Nat}
theorem G7 (s:Sat h (oE r id A::S)): costR h (.ptr r 0)=some (mZ A.dn A.pg.length,A.dn.length):=by
 obtain⟨mv,dv,pv,s⟩:=jW.1 s
 have g1:=s.row (k:=0) rfl
 obtain⟨n,hn,I⟩:=TR (s.PF (j:=2) rfl (FK _ _ _))
 obtain⟨pid,es,c,rfl,hb,nZ,s1⟩:=pX.1 (s.ae [3])
 have g2:=s1.row (k:=0) rfl
 obtain⟨qa,qb,q1,q2,q3⟩:=s1.at (k:=1) rfl
 have hk:=iA List.length (vr q3)
 rw[jz] at hn
 have J:n=A.dn.length:=by omega
 subst J
 simp only[fE] at hk
 simp only[costR,g1,kH,I,g2,TS,fE,hk,mZ]
 cases A.dn<;>simp
noncomputable def keA : Code:=c6 [0] ((Tryz.f76.body).getD .skip)
noncomputable def keB : Code:=c6 [1,0] ((Tryz.f76.body).getD .skip)
noncomputable def keC : Code:=c6 [1,1,0,0] ((Tryz.f76.body).getD .skip)
noncomputable def Wo : Code:=c6 [1,1,0,1,0,0,0] ((Tryz.f76.body).getD .skip)
noncomputable def Zo : Code:=c6 [1,1,0,1,0,0,1,1,0] ((Tryz.f76.body).getD .skip)
noncomputable def keE : Code:=c6 [1,1,1] ((Tryz.f76.body).getD .skip)
theorem QY : Tryz.f76.body=some (.seq keA (.seq keB (.seq (.seq keC (.block 0 (.loop (.seq Wo (.seq (.cond (.tmp 12) .skip (.exit 0)) (.block 1 Zo)))))) keE))):=rfl
theorem TT : ∃id I J,Wo=.region id #[I,J] false∧I.guard=none∧J.guard=none∧I.op=.next (.tmp 10) false∧I.dst=some 11∧J.op=.extract (.tmp 11) 0∧J.dst=some 12:=⟨_,_,_,rfl,rfl,rfl,rfl,rfl,rfl,rfl⟩
def Zp (h₀:H)(it cR clock:Nat)(es:dP)(L:sB)(S:List aE)(j:Nat)(E:List (Nat×V))(h:H): Prop :=
 ∃seen k c,Has E [(3,.int .i64 ((256+c:Nat):Int)),(10,.ptr it 0)]∧j=(leftV seen (es.map (i_ .u64))).length∧c+lI (wC h₀) seen es=sumF (wC h₀) es∧Grow h₀ h (1+k)∧k+lI (wK h₀) seen es=sumF (wK h₀) es ∧
  Sat h (pt it (.iter cR clock clock seen)::lB .u64 cR es clock::j3 L::S)
theorem Oq {h₀:H}{es:dP}(BM:h₀.next≤it)(hb:iD clock 0 es)(hs:sumF (wC h₀) es≤4611686018427387904)(g_:∀x∈L,gh x.2.2.dn≤1048576∧x.2.2.dn.length≤1048576∧x.2.2.pg.length≤1048576)
 (he:∀e∈es,∃(i:Nat) (x:Nat×Nat×mT),L[i]?=some x∧e.2.1=.ptr x.2.1 0∧costR h₀ e.2.1=some (jN x,x.2.2.dn.length))(h0:Zp h₀ it cR clock es L S j E h):
  WPO CB 20 (.loop (.seq Wo (.seq (.cond (.tmp 12) .skip (.exit 0)) (.block 1 Zo)))) E h fun ex E' h'=>ex=.exit 0∧Has E' [(3,.int .i64 ((256+sumF (wC h₀) es:Nat):Int))]∧Grow h₀ h' (1+sumF (wK h₀) es):=by
 refine WPO.loop (Zp h₀ it cR clock es L S) ?_ h0
 rintro j E h ⟨seen,k,c,hE,rfl,hc,hg,hk,s⟩
 have g1:=s.row (k:=0) rfl
 have g2:=s.row (k:=1) rfl
 obtain⟨id,LN,JX,q0,q1,q2,q3,q4,q5,q6⟩:=TT
 refine WPO.seq ?_
 rw[q0]
 have hL:=next_at g1 (aS _) g2 hb
 refine WPO.next jK iI q1 q2 q3 q4 q5 rfl q6 rfl rfl (r:=it) ?_ hL fun q hq => ?_
 ·exact hE.2.1
 ·rcases Qf g1 (aS _) g2 hb hL q hq with⟨rfl,oU⟩|⟨e,I,Zq,cA,rfl⟩
  ·rw[Oo oU] at hc hk
   refine⟨.bool false,[],rfl,?_⟩
   refine WPO.seq (WPO.cond (t:=false) rfl ?_)
   refine WPO.of jK iI (WP.exit ?_)
   refine⟨rfl,⟨?_,aa⟩,?_⟩
   ·rw[←hc];exact hE.1
   ·rw[←hk];exact hg
  ·obtain⟨i,x,hx,hex,Zr⟩:=he e I
   have Zs:=g_ x (bI hx)
   have sN:wC h₀ e=jN x:=by rw[wC,Zr];rfl
   have sx:wK h₀ e=x.2.2.dn.length:=by rw[wK,Zr];rfl
   have dL:=Ca (f:=wC h₀) hb I Zq
   have RV:=Ca (f:=wK h₀) hb I Zq
   rw[sN] at dL
   rw[sx] at RV
   refine⟨.bool true,_,rfl,?_⟩
   refine WPO.seq (WPO.cond (t:=true) rfl ?_)
   refine WPO.of jK iI (WP.skip ?_)
   refine WPO.block (WPO.of jK iI ?_)
   have s:=s.put (o':=.iter cR clock clock (seen++[e.2.2])) (k:=0) rfl
   have hg:Grow h₀ (h.put it (some (.iter cR clock clock (seen++[e.2.2])))) (1+k):=⟨hg.next,fun i hi=>by rw[dS,ay (by omega)];exact hg.get i hi⟩
   generalize h.put it (some (.iter cR clock clock (seen++[e.2.2])))=h' at s hg
   dsimp only[setA] at s
   have g1:=s.row (k:=0) rfl
   have g2:=s.row (k:=1) rfl
   have J:=Qe g1 g2 hb I
   rw[hex] at J
   have s:=(jk hx).1 (s.ae [2])
   dsimp only[bringA,getA,aC] at s
   refine WP.has (F:=[(3,.int .i64 ((256+c:Nat):Int)),(10,.ptr it 0),(12,.bool true)]) ⟨hE.1,hE.2.1,rfl,aa⟩ (zg rfl (aq.any rfl rfl rfl (OpR.entry rfl rfl J) ?_))
   rintro v h ⟨rfl,rfl⟩
   refine zk 6 rfl (zc rfl (QX (by omega) Zs.2.1 Zs.2.2 W.base s) ?_)
   rintro v h' ⟨rfl,Wn,s⟩
   rw[show mZ x.2.2.dn x.2.2.pg.length=jN x from rfl]
   have s:=((jk hx).2 s).ae [1,1,0]
   dsimp only[bringA,getA,aC] at s
   refine zo rfl (ak (r:=.int .i64 ((256+(c+jN x):Nat):Int)) rfl rfl (by rw[show((256+(c+jN x):Nat):Int)=((256+c:Nat):Int)+(jN x:Int) by omega];exact aR (ax (by omega) (by omega)))) ?_
   refine za rfl (zv ?_)
   exact⟨_,cA,seen++[e.2.2],k+x.2.2.dn.length,c+jN x,⟨rfl,rfl,aa⟩,rfl,by omega,by rw[←nm];exact hg.trans Wn,by omega,s⟩
theorem G8 {X:List aE}(hn:L.length≤1048576): ∀ {L:sB} {es:dP} {a b:PM},(f_ (fun v (r:Nat)=>.pu (v=.ptr r 0)) es (L.map fun e=>((e.1:Int),e.2.1))).p a b→(∀(i:Nat) (x:Nat×Nat×mT),L[i]?=some x→costR h (.ptr x.2.1 0)=some (jN x,x.2.2.dn.length)) →
  sumF (wC h) es=(L.map jN).foldr (· + ·) 0∧sumF (wK h) es=(L.map fun x=>x.2.2.dn.length).foldr (· + ·) 0∧∀e∈es,∃(i:Nat) (x:Nat×Nat×mT),L[i]?=some x∧e.2.1=.ptr x.2.1 0∧costR h e.2.1=some (jN x,x.2.2.dn.length):=by
 intro L
 induction L with
 |nil=>intro es a b q _;cases es with
  |nil=>exact⟨rfl,rfl,fun e he=>by cases he⟩
  |cons e es=>exact q.elim
 |cons y L ih =>
  intro es a b q hc
  cases es with
  |nil=>exact q.elim
  |cons e es =>
   obtain⟨⟨_,J⟩,q3⟩:=q
   have J:e.2.1=.ptr y.2.1 0:=J
   obtain⟨k1,k2,k3⟩:=ih q3 fun i x hx=>hc (i+1) x (by simpa using hx)
   have h0:=hc 0 y rfl
   refine⟨?_,?_,fun e' I => ?_⟩
   ·simp only[sumF,wC,J,h0,ey,tZ];rw[←k1];rfl
   ·simp only[sumF,wK,J,h0,ey,tZ];rw[←k2];rfl
   ·rcases List.mem_cons.1 I with rfl|I
    ·exact⟨0,y,rfl,J,by rw[J];exact h0⟩
    ·obtain⟨i,x,g1,g2⟩:=k3 e' I
     exact⟨i+1,x,by simpa using g1,g2⟩
theorem Ot (I:sC L)(s:Sat h (gV m a nx u L::S)):
  ∃r,yY [.ptr m 0] h r∧∀(c:Ctx) (w:World),Rel c h w→(∀x∈[V.ptr m 0],wf c x)→eE Tryz.prog 76 [.ptr m 0] c w r.1 r.2:=by
 obtain⟨av,s⟩:=fL.1 s
 obtain⟨cR,es,clock,rfl,hb,nZ,s⟩:=fR.1 (s.ae [1])
 dsimp only[bringA,getA,aC] at s
 have gm:=s.row (k:=0) rfl
 have gp:=s.row (k:=2) rfl
 obtain⟨qa,qb,q1,q2,q3⟩:=s.at (k:=1) rfl
 have A4:∀(i:Nat) (x:Nat×Nat×mT),L[i]?=some x→costR h (.ptr x.2.1 0)=some (jN x,x.2.2.dn.length):=fun i x J=>G7 ((jk J).1 (s.ae [3]))
 obtain⟨w1,w2,w3⟩:=G8 (X:=S) I.1 q3 A4
 have zG:sumF (wC h) es≤4611686018427387904:=by
  rw[w1]
  have key:∀l:List Nat,(∀z∈l,z≤1048576000)→l.foldr (· + ·) 0≤1048576000*l.length:=by
   intro l
   induction l with
   |nil=>intro _;simp
   |cons z l ih=>intro hz;have:=ih fun w hw=>hz w (dh _ hw);have:=hz z dJ;simp only[tZ,bq];omega
  have:=key (L.map jN) fun z hz=>by
   obtain⟨x,J,rfl⟩:=List.mem_map.1 hz
   obtain⟨k1,k2,k3⟩:=I.2 x J
   unfold jN mZ
   split<;>omega
  have:=I.1
  rw[fE] at *
  omega
 refine⟨(.int .i64 ((256+sumF (wC h) es:Nat):Int),⟨h.next+1+sumF (wK h) es,h.tr⟩),⟨m,_,cR,es,clock,rfl,gp,rfl,gm,rfl⟩,fun c w hr ha => ?_⟩
 refine eE.VO (C:=CB) (args:=[.ptr m 0]) B4 QY (show 1≤Tryz.f76.ntmps by decide) ?_ hr ha
 refine WPO.seq (WPO.of jK iI ?_)
 refine zr rfl (za rfl (zv ?_))
 refine WPO.seq (WPO.of jK iI ?_)
 refine zr rfl (za rfl (zv ?_))
 refine WPO.seq (WPO.seq (WPO.of jK iI ?_))
 refine zK 3 rfl (zY s 2 mh pL rfl (aq.any rfl rfl rfl (OpR.range rfl rfl (show rangeV Tryz.prog h 142 (.map cR)=some (.ptr h.next 0,h.new (.iter cR clock clock [])) by simp only[rangeV,sy,gm])) ?_))
 rintro v h' ⟨rfl,rfl⟩
 refine zv ?_
 have s7:=(s.new (.iter cR clock clock [])).ae [0,0,2]
 refine WPO.block ((Oq (h₀:=h) (es:=es) (L:=L) (aS _) hb zG (fun x J=>I.2 x J) w3 ⟨[],0,0,⟨rfl,rfl,aa⟩,rfl,by rw[Ec,fF],⟨rfl,fun i hi=>by rw[fG,ay (by omega)]⟩,by rw[Ec,fF],s7⟩).mono ?_)
 rintro ex E' h' ⟨rfl,eF,hg⟩
 refine WPO.of jK iI (WP.has eF (zK 5 rfl (WP.ret ?_)))
 refine⟨aa,ql rfl,by rw[hg.next];show h.next+1+_=_;omega,fun id o ho => ?_⟩
 have cA:id<h.next:=s.wf id o ho
 rw[hg.get id cA];exact ho
end
theorem Sat.Ou {v:V}{e:TypeId}(s:Sat h S)(hj:getA S j=some (kz k v cs))(hi:i*k+k≤cs.length)(hk:1≤k)(hu:P.underlying t=some (.slice e))(I:bj P e=some k)(ha:isAggT P e=some true):
  ∃id off,indexAddrV P t v (.int .i64 (i:Int))=some (.ptr id off)∧loadV P h e (.ptr id off)=some (.agg ((cs.drop (i*k)).take k))∧∀m c t',((cs.drop (i*k)).take k)[m]?=some c→isAggT P t'=some false→loadV P h t' (.ptr id (off+m))=some c:=by
 rcases s.rowAt hj with⟨_,rfl⟩|⟨id,len,cap,rfl,hl,hg⟩
 ·simp at hi;omega
 ·refine⟨id,i*k,?_,RW ha I hg rfl hi,fun m c t' J ht=>RK ht hg ?_⟩
  ·simp only[indexAddrV,hu,I,b8]
   have:i<len:=by
    have h4:i*k+k=(i+1)*k:=by rw[nr,yj]
    rw[h4,hl] at hi
    exact Co (Cg hi hk)
   rw[show(decide ((0:Int)≤(i:Int))&&decide ((i:Int)<(len:Int)))=true by simp;omega,ai]
   simp
  ·rw[tU] at J
   split at J
   ·rw[Cm] at J;rw[gu];exact J
   ·cases J
structure dG where
 kd:Nat
 tx:Nat
 pv:Nat
 nx:Nat
 data:List Nat
 aV:List cr
variable {fC nV rs eL:List dG}
def dG.bd (r:dG): List Nat:=cI r.kd r.tx r.pv r.nx r.data r.aV
def dG.len (r:dG): Nat:=8+r.bd.length
structure dG.Ok (r:dG): Prop where
 good:dg r.kd r.aV=true
 rd:vK r.tx r.pv r.nx r.data r.aV
 len:r.bd.length≤1048576
theorem dG.Ok.kd {r:dG}(h:r.Ok): r.kd<256:=by
 have:=h.good
 simp[dg] at this
 omega
def logB : Nat→List dG→List Nat
 |_,[]=>[]
 |n,r::l=>jU n r.bd++logB (n+r.len) l
def sD : Nat→List dG→List Nat
 |_,[]=>[]
 |a,r::l=>a::sD (a+r.len) l
def Wp (base aH:Nat)(rs:List dG): Lg:={ base:=base,b:=logB base rs,bU:=sD 0 rs,forced:=(logB base rs).length,check:=aH }
theorem Ov (n:Nat)(b:List Nat): (jU n b).length=8+b.length:=by rw[kK]
abbrev Pgs := List (Int×List Nat)
structure Wq where
 bu:Pgs
 abO:List (Int×Nat)
variable {ρ:Wq}
def szB : List dG→Nat
 |[]=>0
 |r::l=>r.len+szB l
theorem sE : ∀ {rs:List dG} {n:Nat},(logB n rs).length=szB rs:=by
 intro rs
 induction rs with
 |nil=>intro n;rfl
 |cons r rs I=>intro n;simp only[logB,szB,bP,Ov,I];rfl
theorem iF {x y:List dG}: szB (x++y)=szB x+szB y:=by
 induction x with
 |nil=>simp[szB]
 |cons r x I=>simp only[gW,szB,I];omega
theorem G9 {y:List dG}: ∀ {x:List dG} {n:Nat},logB n (x++y)=logB n x++logB (n+szB x) y:=by
 intro x
 induction x with
 |nil=>intro n;simp[logB,szB]
 |cons r x I=>intro n;simp only[gW,logB,szB,I,cX,nm]
theorem G_ {y:List dG}: ∀ {x:List dG} {a:Nat},sD a (x++y)=sD a x++sD (a+szB x) y:=by
 intro x
 induction x with
 |nil=>intro a;simp[sD,szB]
 |cons r x I=>intro a;simp only[gW,sD,szB,I,nm]
theorem QZ {base:Nat}{r:dG}: (Wp base aH (fC++r::nV)).hasB (base+szB fC)=true:=by
 rw[Lg.hasB,List.any_eq_true]
 refine⟨szB fC,?_,by simp[Wp]⟩
 show szB fC∈sD 0 (fC++r::nV)
 rw[G_,fF]
 exact List.mem_append.2 (.inr dJ)
structure LR (B0 aH:Nat)(mk:List Nat)(rs:List dG)(x:LD): Prop where
 base:x.1.base=B0
 b:x.1.b=logB B0 rs
 bU:x.1.bU=sD 0 rs
 check:x.1.check=aH
 log:x.2.log=logB B0 rs
 alive:x.2.dead=false
 bH:x.2.bH<0
 mark:x.2.mark=mk
 r6:x.2.r6=none
 tail:x.2.tail=[]
 wait:∀w∈x.2.waiting,w.1<x.2.bu.length∧w.2.length=512
 rs:∀r∈rs,r.Ok
theorem uX (base aH:Nat)(mk:List Nat)(rs:List dG): kx (LR base aH mk rs):=by
 refine⟨fun x n h => ?_,fun x n b h => ?_⟩
 ·unfold bF
  split
  ·exact h
  ·have e:x.2.fM=(0,{ x.2 with eA:=x.2.log.length }):=by
    rw[Dk.fM,ay (by rw[h.alive];decide),ay (by have:=h.bH;omega),uR h.bH]
   rw[e,ay (by simp)]
   exact⟨h.base,h.b,h.bU,h.check,h.log,h.alive,h.bH,h.mark,h.r6,h.tail,h.wait,h.rs⟩
 ·unfold Dk.cV
  rw[ay (by rw[h.alive];decide)]
  split
  ·exact h
  ·rename_i I
   rw[ay (by have:=h.bH;omega)]
   refine⟨h.base,h.b,h.bU,h.check,h.log,h.alive,?_,h.mark,h.r6,h.tail,fun w hw => ?_,h.rs⟩
   ·show x.2.gQ.bH<0
    rw[uR h.bH];exact h.bH
   ·rcases List.mem_append.1 hw with hw|hw
    ·exact h.wait w hw
    ·rw[List.mem_singleton.1 hw]
     have I:=Classical.not_not.1 I
     exact⟨by show n.toNat<x.2.bu.length;omega,I.2.2⟩
theorem vN : 1≤(digits k n).length:=Ll k n
theorem Lt {kd:Int}: data.length≤(cI kd tx pv nx data aV).length∧aV.length≤(cI kd tx pv nx data aV).length:=by
 have:=GQ aV
 simp only[cI,bP,bq,cD]
 omega
def FT : VP:=fun C d _=>∀n rec,lookL n d=some (rec,true)→∃b,C n b
section
theorem FT.Dd (N:Nat): m_ N FT:=by
 refine⟨fun ε i f he hf h0 hc h => ?_⟩
 have hfo:=(he.back i f hf).resolve_left (by omega)
 have hs:(outF ε i).2.1=ε.1∨(outF ε i).2.1={ ε.1 with ag:=ε.1.ag.set i { f with changed:=false },cm:=cN f.aY (nQ ε.1 f.aY,false) ε.1.cm }:=by grind[outF]
 show FT (uT (outF ε i).2.1) (outF ε i).2.1.cm (outF ε i).2.2
 rcases hs with e|e
 ·rw[e];exact h
 ·rw[e]
  intro n rec I
  have I:lookL n (cN f.aY (nQ ε.1 f.aY,false) ε.1.cm)=some (rec,true):=I
  rw[jH] at I
  by_cases J:f.aY=n
  ·rw[aF J] at I;injection I with I;injection I with _ I;cases I
  ·rw[ay J] at I
   obtain⟨b,j,y,hy,k1,k0,k2,k3⟩:=h n rec I
   refine⟨b,j,y,?_,k1,k0,k2,k3⟩
   show(ε.1.ag.set i _)[j]?=some y
   grind
theorem FT.put (h:vw FT ε)(he:EC N ε){n:Int}{f:Fm}{b:List Nat}(hl:lookL n ε.1.bD=some (i:Int))(hf:ε.1.ag[i]?=some f)(h0:0≤n): vw FT (AB ε.1 n i f b aB,ε.2):=by
 have hi:=(List.getElem?_eq_some_iff.1 hf).1
 have I:f.aY=n:=by
  obtain⟨_,j,x,vS,hx,Gw⟩:=he.lC n i hl<;>grind
 intro m rec hm
 have hm:lookL m (cN n (kr ε.1 n aB,true) ε.1.cm)=some (rec,true):=hm
 rw[jH] at hm
 by_cases J:n=m
 ·subst J
  exact⟨cS b aB,i,{ f with b:=cS b aB,changed:=true,pins:=0 },by exact jt hi,I,h0,rfl,rfl⟩
 ·rw[ay J] at hm
  obtain⟨c,j,y,hy,k1,k0,k2,k3⟩:=h m rec hm
  refine⟨c,j,y,?_,k1,k0,k2,k3⟩
  show(ε.1.ag.set i _)[j]?=some y
  grind
theorem PtR.ft {l:List Int}(I:PtR now aB l ε e ah): EC N ε→gR ε→NW N now→(∀n∈l,0≤n∧n<N)→vw FT ε→vw FT ah:=by
 induction I with
 |nil ε=>intro _ _ _ _ hv;exact hv
 |jb n l ε e b ah I he =>
  intro h h3 hn hl
  have:=hl n dJ
  exact absurd ((I.ec h).2.2.1 this.1 this.2).1 he
 |bad n l ε b0 b ah I hb he =>
  intro h h3 hn hl
  exact absurd ((I.put (b:=b) (aB:=aB) h3).2.2 (hn.look hb).1) he
 |put n l ε b0 b ah e kG I hb he ht ih =>
  intro h h3 hn hl hv
  have J:=hl n dJ
  obtain⟨k1,k2,k3,k4⟩:=I.ec h
  obtain⟨i,f,p1,p2,p3,p4,p5⟩:=I.at h3.pins
  have hg:=hn.look hb
  have e1:=vC (aB:=aB) p1 p2 p3 hg.1
  obtain⟨q1,q2⟩:=k1.put (aB:=aB) p1 p2 hg.1 hg.2 J.1 J.2
  have NI:=(I.put (b:=b) (aB:=aB) h3).1
  have F6:vw FT ah:=(FT.Dd N).jb I h hv
  have sU:=FT.put (b:=b) (aB:=aB) F6 k1 p1 p2 J.1
  rw[e1] at ih NI
  exact ih q1 NI hn (fun m hm=>hl m (dh _ hm)) sU
end
theorem Dj (h:n<2097152): (digits 9 n).length≤3:=by
 grind[digits]
theorem xQ {L:Nat}{cs:List cr}{kd:Int}(hr:iE now (c9 now) ε e cs ah)(I:NW N now)(hL:now.length≤L)(hN:N≤16384)(ht:tx<2097152)(hp:pv<2097152)(hx:nx<2097152)(hd:data.length≤9):
  (cI kd tx pv nx data cs).length≤520*L+32:=by
 have h1:=Dj ht
 have h2:=Dj hp
 have h3:=Dj hx
 have h4:=JI (n:=data.length) (by omega)
 have h5:=z_ cs.length
 have h6:=hr.V7 I fun n hm=>by have:=I.keys n (jJ.1 hm);omega
 have J:(c9 now).length≤L:=by
  rw[c9,(e_ _).length_eq,fE];exact hL
 have J:=Cj 520 J
 simp only[cI,bP,bq,cD]
 omega
theorem LR.aas {base kd:Nat}{x:LD}{c:List cr}(h:LR base aH mk rs x)(hk:1≤kd)(hg:dg kd c=true)(ht:tx<2097152)(qw:pv<2097152)(qx:nx<2097152)
 (ha:(bg x kd tx pv nx data c).1.2=0): (bg x kd tx pv nx data c).1.1=base+szB rs∧dG.Ok ⟨kd,tx,pv,nx,data,c⟩∧LR base aH mk (rs++[⟨kd,tx,pv,nx,data,c⟩]) (bg x kd tx pv nx data c).2:=by
 rcases g9 x kd tx pv nx data c with⟨e,he,_,hq⟩|⟨_,hf,_⟩|⟨_,hb,hd,eR,hf,hq⟩
 ·grind
 ·grind
 ·rw[uR h.bH] at hq
  have uY:=Lt (kd:=kd) (tx:=tx) (pv:=pv) (nx:=nx) (data:=data) (aV:=c)
  have hr:(dG.mk kd tx pv nx data c).Ok:=⟨hg,⟨by show tx<_;omega,by show pv<_;omega,by show nx<_;omega,by grind,by grind⟩,hb⟩
  have hl:(logB base rs).length=szB rs:=sE
  have hn:eB x.1 kd tx pv nx data c=jU (base+szB rs) (dG.mk kd tx pv nx data c).bd:=by rw[eB,h.base,h.b,hl];rfl
  have J:logB base (rs++[dG.mk kd tx pv nx data c])=logB base rs++eB x.1 kd tx pv nx data c:=by grind[G9,logB]
  have hof:sD 0 (rs++[dG.mk kd tx pv nx data c])=sD 0 rs++[szB rs]:=by rw[G_,fF];rfl
  refine⟨by rw[hq];rw[h.base,h.b,hl],hr,?_⟩
  rw[hq]
  refine⟨h.base,?_,?_,h.check,?_,h.alive,h.bH,h.mark,h.r6,h.tail,h.wait,fun r I => ?_⟩
  ·show x.1.b++_=_;rw[h.b,J]
  ·show x.1.bU++[x.1.b.length]=_;rw[h.bU,h.b,hl,hof]
  ·grind[log]
  ·rcases List.mem_append.1 I with I|I
   ·exact h.rs r I
   ·rw[List.mem_singleton.1 I];exact hr
theorem Dl {x:LD}{kd:Int}{c:List cr}: (bg x kd tx pv nx data c).2.2.room=x.2.room:=by
 rcases g9 x kd tx pv nx data c with⟨e,_,_,I⟩|⟨_,_,I⟩|⟨_,_,_,_,_,I⟩<;>rw[I]<;>rfl
structure TxI (N B M ba ck:Nat)(mk:List Nat)(rs:List dG)(ε:bA): Prop where
 ei:EI N B ε
 lr:LR ba ck mk rs ε.2
 rm:ε.2.2.room=M
 ft:vw FT ε
theorem TxI.len (h:TxI N B M ba ck mk rs ε): ε.2.2.log.length=szB rs:=by
 rw[h.lr.log,sE]
theorem TxI.sm (h:TxI N B M ba ck mk rs ε)(hi:EI N B ah)(hs:Sm N ε ah): TxI N B M ba ck mk rs ah :=
 ⟨hi,hs.2.1 _ ((uX ba ck mk rs).Dd N) h.lr,by rw[((wg.sm (K:=ε.2.2.log.length) ⟨aS _,rfl⟩ hs).2)];exact h.rm,hs.2.1 _ (FT.Dd N) h.ft⟩
theorem TxI.done {L kd:Nat}{cl:Bool}(h:TxI N B M ba ck mk rs ε)(hr:qf ε now kd tx pv nx data 0 aB e cl ah)(hB:B≤1000)(hw:NW N now)(hL:now.length≤L)(Zt:L≤1000)(hN:N≤1024)
 (h1:1≤kd)(h2:kd≤7)(oK:tx<2097152)(qw:pv<2097152)(qx:nx<2097152)(hd:data.length≤9)(hf:szB rs+520*L+40≤M):
  cl=true∧e=0∧aB=ba+szB rs∧(∀m,pgA ah m=match lookL m now with|some b=>cS b aB|none=>pgA ε m)∧∃c,(dG.mk kd tx pv nx data c).len≤520*L+40∧TxI N (B+2) M ba ck mk (rs++[⟨kd,tx,pv,nx,data,c⟩]) ah:=by
 have qF:∀n∈c9 now,0≤n∧n<N:=fun n hq=>hw.keys n (jJ.1 hq)
 have Lh:=h.ei.done hB hw (by omega) (by omega) hr
 have VV:=h.len
 have IF:=h.rm
 have eR:∀ {c:List cr} {ah:bA} {e:Int},iE now (c9 now) ε e c ah→dg kd c=true:=fun I=>by
  refine AD ⟨by omega,by omega⟩ (I.fit (fun x hx=>fW (hw.good x hx).1) fun n hq => ?_)<;>grind
 cases hr with
 |arg hh=>omega
 |dead _ _ _ hd=>have:=h.lr.alive;grind
 |mO e c ah _ _ _ _ I Gm=>exact absurd (I.ec h.ei.ec h.ei.ok qF).2.2 Gm
 |app c J _ _ _ _ I Gm =>
  have xo:=xQ (kd:=kd) (tx:=tx) (pv:=pv) (nx:=nx) (data:=data) I hw hL (by omega) oK qw qx hd
  have hP:=(lY ε.2.2.log.length ε.2.2.room).ch I ⟨rfl,rfl⟩
  have hg:=eR I
  have uN:=(uX ba ck mk rs).ch I h.lr
  have ha:=uN.alive
  have V8:=uN.bH
  grind[g9,eB,kK]
 |put c J e vI _ _ _ _ I ha hp =>
  rcases Lh with⟨iZ,_⟩|⟨_,he,hi,gd⟩
  ·grind
  ·have xo:=xQ (kd:=kd) (tx:=tx) (pv:=pv) (nx:=nx) (data:=data) I hw hL (by omega) oK qw qx hd
   have hP:=(lY ε.2.2.log.length ε.2.2.room).ch I ⟨rfl,rfl⟩
   obtain⟨k1,k2,k3⟩:=((uX ba ck mk rs).ch I h.lr).aas h1 (eR I) oK qw qx ha
   rw[he,aF rfl] at gd
   have MC:(bg J.2 kd tx pv nx data c).2.2.room=J.2.2.room:=Dl
   have hr3:=((lY (bg J.2 kd tx pv nx data c).2.2.log.length (bg J.2 kd tx pv nx data c).2.2.room).pt hp ⟨rfl,rfl⟩).2
   obtain⟨c1,_,_⟩:=I.ec h.ei.ec h.ei.ok qF
   obtain⟨hA,_⟩:=(EI.app (kd:=kd) (tx:=tx) (pv:=pv) (nx:=nx) (data:=data) (c:=c) (show EI N B J from⟨I.kS h.ei.ok,c1,I.el h.ei.el,b9 I.bY h.ei.bY⟩) hB (eR I))
   have V6:vw FT J:=(FT.Dd N).ch I h.ei.ec h.ei.ok h.ft
   have hft:vw FT (J.1,(bg J.2 kd tx pv nx data c).2):=V6
   refine⟨rfl,he,by rw[he,aF rfl,k1],by rw[he,aF rfl];exact gd,c,?_,hi,(uX ba ck mk _).pt hp k3,by rw[hr3,MC,hP.2];exact IF,hp.ft hA.ec hA.ok hw qF hft⟩
   show 8+(cI kd tx pv nx data c).length≤_
   omega
structure WK (told:cE): Prop where
 w:W told
 kp:told 76=some (iN Tryz.prog 76 yY)
theorem He (I:L[i]?=some (id,rr,A)): ((L.map fun e=>((e.1:Int),e.2.1)).map (·.1)).Nodup→lookL (id:Int) (L.map fun e=>((e.1:Int),e.2.1))=some rr:=by
 induction L generalizing i with
 |nil=>simp at I
 |cons y L ih =>
  intro J
  simp only[ey,Cx] at J
  simp only[ey,lookL]
  cases i with
  |zero=>simp at I;subst I;rw[aF rfl]
  |succ i =>
   have I:L[i]?=some (id,rr,A):=by simpa using I
   have hm:(id:Int)∈(L.map fun e=>((e.1:Int),e.2.1)).map (·.1):=by
    rw[List.map_map];exact List.mem_map.2 ⟨_,bI I,rfl⟩
   rw[ay (fun e=>J.1 (by rw[e];exact hm))]
   exact ih I J.2
theorem Sat.later (s:Sat h S)(I:h.next≤n): Sat ⟨n,h.tr⟩ S:=⟨fun id o J=>gj (s.wf id o J) I,s.ok⟩
theorem EI.mO {c:List cr}(h:EI N B ε)(hw:NW N now)(I:iE now (c9 now) ε e c ah): EI N B ah∧Sm N ε ah∧e=0:=by
 obtain⟨k1,k2,J⟩:=I.ec h.ec h.ok fun n hn=>hw.keys n (jJ.1 hn)
 exact⟨⟨I.kS h.ok,k1,I.el h.el,b9 I.bY h.bY⟩,⟨k2,fun P hP hv=>hP.ch I h.ec h.ok hv,I.bY⟩,J⟩
theorem Q0 {A':mT}(I:L[i]?=some (id,rr,A)): ((L.set i (id,rr,A')).map fun e=>((e.1:Int),e.2.1))=L.map fun e=>((e.1:Int),e.2.1):=by
 apply qN
 intro j
 rw[ni,ni,Cq]
 by_cases h:i=j
 ·subst h
  have hi:=(List.getElem?_eq_some_iff.1 I).1
  rw[aF rfl,aF hi,I];rfl
 ·rw[ay h]
def tK (l:List Int)(k:Int): List Int:=if k∈l then l else l++[k]
def mT.more (A:mT)(aB cost:Nat)(ks:List Int): mT:=⟨if A.fst=0 then aB else A.fst,aB,aB,A.Eb,A.dn++[(aB,cost)],ks.foldl tK A.pg⟩
theorem Ow {k:Int}: ∀ {l:List Int},cN k () (l.map fun n=>(n,()))=(tK l k).map fun n=>(n,()):=by
 intro l
 induction l with
 |nil=>rfl
 |cons x l J =>
  simp only[ey,cN]
  by_cases h:x=k
  ·subst h;simp[tK]
  ·rw[ay h,J]
   unfold tK
   by_cases I:k∈l
   ·rw[aF I,aF (dh _ I)];rfl
   ·rw[ay I,ay (by rw[gY];rintro(q|q);exact h q.symm;exact I q)];rfl
theorem TU : ∃i,Tryz.prog.info? 185=some i∧i.size=2∧i.bytes≤4096 :=
 ⟨_,(show Tryz.prog.info? 185=some ((Tryz.prog.info? 185).getD default) by kernel_rfl),by kernel_rfl,of_decide_eq_true (by kernel_rfl)⟩
theorem Lu {kd:Int}(hd:View h dv l): buildV Tryz.prog 104 [(0,.int .i64 kd),(1,.int .u64 (tx:Int)),(2,.int .u64 (pv:Int)),(4,dv)]=some (.agg (c5 kd tx pv 0 dv .aO)):=by
 rcases hd.2 with⟨rfl|⟨I,rfl⟩,_⟩|⟨id,off,cap,n,cs,st,rfl,_⟩
 ·rw[sS];rfl
 ·rw[sS];rfl
 ·rw[sS];rfl
section
variable {told:cE} {p m kd:Nat}
theorem TV (hT:WK told)(J:sC L)(s:Sat h (gV m a nx u L::S)): Call ⟨Tryz.prog,told⟩ 76 [.ptr m 0] h fun v h'=>v=.int .i64 (oF L:Int)∧Sat h' (gV m a nx u L::S):=by
 obtain⟨r,h1,h2⟩:=Ot J s
 obtain⟨r,h3,h4⟩:=qc h1 h2
 refine⟨r.1,r.2,gD.told hT.kp B4 rfl h3,?_⟩
 clear h1 h2 h3
 obtain⟨m',cs,abP,es',abd,e1,g1,g2,g3,rfl⟩:=h4
 injection e1 with e1 _
 injection e1 with e1 _
 subst e1
 obtain⟨av,s1⟩:=fL.1 s
 obtain⟨cR,es,clock,rfl,hb,nZ,s1⟩:=fR.1 (s1.ae [1])
 have e2:=Gg (s1.row (k:=2) rfl) g1
 injection e2 with _ e2 _
 subst e2
 have g2:=cx g2
 injection g2 with g2
 subst g2
 have e3:=Gg (s1.row (k:=0) rfl) g3
 injection e3 with e3 e4
 have aat:∀ {l I:dP},l.map (i_ .u64)=I.map (i_ .u64)→l=I:=by
  intro l
  induction l with
  |nil=>intro I h;cases I with
   |nil=>rfl
   |cons _ _=>cases h
  |cons y l ih =>
   intro I h
   cases I with
   |nil=>cases h
   |cons z I =>
    simp only[ey,List.cons.injEq] at h
    obtain⟨k1,k2⟩:=h
    obtain⟨y1,y2⟩:=y
    obtain⟨z1,z2⟩:=z
    simp only[i_,br,V.int.injEq,true_and] at k1
    rw[ih k2,k1.1,k1.2]
 have e3:=aat e3
 subst e3
 obtain⟨qa,qb,q1,q2,q3⟩:=s1.at (k:=1) rfl
 have A4:∀(i:Nat) (x:Nat×Nat×mT),L[i]?=some x→costR h (.ptr x.2.1 0)=some (jN x,x.2.2.dn.length):=fun i x hx=>G7 ((jk hx).1 (s1.ae [3]))
 obtain⟨w1,_,_⟩:=G8 (X:=S) J.1 q3 A4
 refine⟨by rw[w1];rfl,?_⟩
 exact s.later (by show h.next≤h.next+1+_;omega)
theorem tj (hT:W told)(hB:B≤900)(h:TxI N B M ba ck mk rs ε)(mD:ba+szB rs≤1000000000)(hw:NW N now){l:Nat}(hL:now.length≤l)(J:l≤1000)(hN:N≤1024)(h1:1≤kd)(h2:kd≤7)(oK:tx<2097152)(qw:pv<2097152)(qx:B6<2097152)(hd:data.length≤9)(hf:szB rs+520*l+40≤M)
 {h:H}(s:Sat h (GA g a p q r fK aH now ε::X::S))(hX:cq X (cz dt data)):
  Call ⟨Tryz.prog,told⟩ 50 [.ptr g 0,.agg (c5 (kd:Int) tx pv B6 dt .aO)] h fun v h'=>∃c ah aB,aB=ba+szB rs∧v=.aI [.int .u64 (aB:Int),.int .i64 0]∧(∀m,pgA ah m=match lookL m now with|some b=>cS b aB|none=>pgA ε m) ∧
   (dG.mk kd tx pv B6 data c).len≤520*l+40∧TxI N (B+2) M ba ck mk (rs++[⟨kd,tx,pv,B6,data,c⟩]) ah∧Sat h' (dN g a now true::SA a p q r .a_ fK aH ah::X::S):=by
 rename_i I
 have vD:=I.ei.bY
 have ej:ε.2.1.base+ε.2.1.b.length≤B*1048600:=I.ei.el.size
 have s:=aZ.1 s
 have s:Sat h (dN g a now false::c8 a p q r (.ptr g 0) fK aH::dM r p q ε.1::bQ q p ε.2.1::bw p ε.2.2::X::S):=s
 have s:=s.ot (k:=4)
 refine(Jt (oD:=0) (kd:=(kd:Int)) (tx:=tx) (pv:=pv) (nx:=B6) (data:=data) hT (s.ae [1,1,1,1,1,1,0]) hX rfl I.ei.ok (by omega) (fun e he=>fW (hw.good e he).1) (by have:=hw.len;omega) (fun n hn=>by have:=hw.keys n hn;omega) (by omega) (by omega) (by omega) (by omega) I.ei.el.log (by omega)).mono ?_
 rintro v h ⟨aB,e,cl,ah,hr,rfl,s⟩
 obtain⟨rfl,rfl,rfl,gd,c,hlen,hi⟩:=I.done hr (by omega) hw hL J hN h1 h2 oK qw qx hd hf
 have s:Sat h (SA a p q r .a_ fK aH ah::dN g a now true::X::S):=aZ.2 (s.ae [1,1,1,1,0,0])
 exact⟨c,ah,_,rfl,rfl,gd,hlen,hi,s.ae [1]⟩
noncomputable def mnL : Code:=c6 [1,1,1,1,1,1,1,1,1,1,1,1,1,1,1,1,1,0,1,0,0] ((Tryz.f41.body).getD .skip)
theorem Q1 (hT:W told){pv:V}(hk:ks.length≤1000){l:Nat}: ∀(j i:Nat) (pg:List Int) (h:H) (E:List (Nat×V)) (Q:Ex→List (Nat×V)→H→Prop),i+j=ks.length →
  Sat h (pt rr (.cells 7 (kH id f l n mv dv pv) false)::tJ pv pg::.arr 1 kv (dO ks)::S)→Has E [(9,.ptr rr 0),(135,kv),(136,.int .i64 (ks.length:Int)),(137,.int .i64 (i:Int))] →
  (∀E' h',Sat h' (pt rr (.cells 7 (kH id f l n mv dv pv) false)::tJ pv ((ks.drop i).foldl tK pg)::.arr 1 kv (dO ks)::S)→Q (.exit 2) E' h') →
  WP ⟨Tryz.prog,told⟩ 148 (.loop mnL) E h Q:=by
 intro j
 induction j with
 |zero =>
  intro i pg h E Q hi s hE I
  rw[List.drop_of_length_le (by omega)] at I
  refine WP.loop (WP.has hE (zg rfl (zC rfl aJ (by simp;omega) ?_)))
  exact zk 3 rfl (WP.exit (I _ _ s))
 |succ j ih =>
  intro i pg h E Q hi s hE I
  obtain⟨k,J⟩:∃k,ks[i]?=some k:=⟨_,bp (by omega)⟩
  have Oe:ks.drop i=k::ks.drop (i+1):=by
   obtain⟨h1,h2⟩:=List.getElem?_eq_some_iff.1 J
   rw[qM h1,h2]
  rw[Oe,List.foldl_cons] at I
  obtain⟨B_,off,e1,e2⟩:=k_ (P:=Tryz.prog) s (k:=2) (i:=i) (c:=.int .i64 k) rfl (by rw[dO,ni,J];rfl) gU nE
  refine WP.loop (WP.has hE (zg rfl (zB rfl aJ (by simp;omega) ?_)))
  refine zk 5 rfl (WP.block (zg rfl (zo rfl (cu (r:=.ptr B_ off) rfl rfl e1) (zl rfl (e2 _ ep) (zk 5 rfl (zY s 0 C2 KC rfl (zm rfl (zo rfl (b_ rfl (by rw[XB];rfl)) ?_))))))))
  refine aq.iR rfl rfl (OpR.mapUpdate rfl rfl rfl rfl (kJ (n:=k) (f:=fun v (_:Unit)=>.pu (v=.agg [])) (x:=()) (fun _ _=>aX.pu _) ((s.ae [1]).fH rfl) GW bz)) ?_
  intro _ h s
  rw[Ow] at s
  have s:Sat h (tJ pv (tK pg k)::_):=s
  have s:=s.ae [1,0]
  dsimp only[kH,aC,bringA,getA] at s
  refine zv (zr rfl (zb rfl (by exact aR (ax (by omega) (by omega))) ?_))
  refine zm rfl (zv ?_)
  exact ih (i+1) _ _ _ Q (by omega) s ⟨rfl,rfl,rfl,rfl,aa⟩ I
noncomputable def mnU : Code:=c6 [1,1,1,1,1,1,1,1,1,1,1,1,1,1,1] ((Tryz.f41.body).getD .skip)
theorem Ox (hT:W told){pv:V}(hk:ks.length≤1000){f0 cost:Nat}(lV:A.dn.length≤1000)(s:Sat h (pt rr (.cells 7 (kH id f0 A.dF A.jj mv dv pv) false)::.arr 1 mv (G5 A.Eb)::.arr 2 dv (kT A.dn)::tJ pv A.pg::.arr 1 kv (dO ks)::S))(hE:Has E [(9,.ptr rr 0),(19,.int .i64 (cost:Int)),(20,kv),(21,.int .u64 (aB:Int))])
 (hq:∀E' h',look E' 8=some (.int .i64 0)→Sat h' (oE rr id ⟨f0,aB,aB,A.Eb,A.dn++[(aB,cost)],ks.foldl tK A.pg⟩::.arr 1 kv (dO ks)::S)→Q .ret E' h'): WP ⟨Tryz.prog,told⟩ 148 mnU E h Q:=by
 obtain⟨i1,J,kE,xm⟩:=TU
 refine WP.has hE (zK 7 rfl (zf rfl (rq _ _) (zS rfl (s.dL (k:=0) rfl od rfl (show 0+2<7 by decide) rfl rfl) ?_)))
 intro h s
 refine zn rfl (zf rfl (oZ _ _) (zS rfl (s.dL (k:=0) rfl od rfl (show 0+3<7 by decide) rfl rfl) ?_))
 intro h s
 refine zk 6 rfl (zY s 0 o5 Br rfl (zk 2 rfl (zo rfl (b_ (r:=.agg [.int .u64 (aB:Int),.int .i64 (cost:Int)]) rfl (by rw[XC];rfl)) ?_)))
 obtain⟨xv,h1,e1,s1⟩:=k9 (P:=Tryz.prog) (k:=2) (x:=.agg [.int .u64 (aB:Int),.int .i64 (cost:Int)]) s jM Bt qG rfl (by decide) (by decide) rfl rfl
 obtain⟨w,h2,e2,s2⟩:=iV (s1.ae [3,0]) jM J Bt kE xm rfl (by decide) (by rw[jz];simp[V.cells];omega)
 refine aq.any rfl rfl rfl (OpR.of (R:=fun v h'=>v=xv∧h'=h1) (ob rfl e1) ⟨rfl,rfl⟩) ?_
 rintro xv h1 ⟨rfl,rfl⟩
 refine aq.any rfl rfl rfl (OpR.of (R:=fun v h'=>v=w∧h'=h2) (pJ rfl rfl e2) ⟨rfl,rfl⟩) ?_
 rintro w h2 ⟨rfl,rfl⟩
 have s:=s2.del 1
 have I:=s.iU (j:=0) rfl
 refine zn rfl (zf rfl (o5 _ _) (zS rfl (s.dL (k:=1) rfl RQ rfl (show 0+5<7 by decide) I.1 I.2.1) ?_))
 intro h s
 have s:Sat h (.arr 2 w (kT A.dn++[.int .u64 (aB:Int),.int .i64 (cost:Int)])::pt rr (.cells 7 (kH id f0 aB aB mv w pv) false)::_):=s
 have s:=s.ae [1,2,2,0,0]
 refine zk 5 rfl (zo rfl (aQ rfl rfl rfl (s.gF (n:=ks.length) (j:=2) rfl (by rw[dO,fE,iz]) (by decide) gU)) ?_)
 refine zk 2 rfl (WP.block (Q1 hT hk ks.length 0 _ _ _ _ (by omega) s ⟨rfl,rfl,rfl,rfl,aa⟩ fun E' h' s' => ?_))
 have s:=s'
 rw[gX] at s
 refine WP.has (F:=[]) aa (zK 4 rfl (WP.ret (hq _ _ rfl ?_)))
 have s:=s.ae [0,3,2,0,0]
 exact jW.2 ⟨mv,w,pv,by rw[TQ];exact s⟩
noncomputable def mnF : Code:=c6 [1,1,1,1,1,1,1,0,1,0,0] ((Tryz.f41.body).getD .skip)
noncomputable def mnT : Code:=c6 [1,1,1,1,1,1,1,1,1] ((Tryz.f41.body).getD .skip)
theorem Q2 : ∀c:List cr,partsL c≤3*(c.flatMap iH).length:=by
 intro c
 induction c with
 |nil=>simp[partsL]
 |cons x c I =>
  have J:=vN (k:=9) (n:=x.aY.toNat)
  have h2:=vN (k:=9) (n:=x.pos.toNat)
  have h3:=vN (k:=9) (n:=x.b.length)
  simp only[partsL,nj,bP,iH,bq,cD]
  split<;>omega
theorem Q3 (hT:W told){pv v0 v2 v10 v11 I:V}{pg:List Int}(hk:ks.length≤1000){l:Nat}: ∀(j i fr:Nat) (h:H) (E:List (Nat×V)) (Q:Ex→List (Nat×V)→H→Prop),i+j=ks.length→fr≤i →
  Sat h (pt rr (.cells 7 (kH id f l n mv dv pv) false)::tJ pv pg::.arr 1 kv (dO ks)::S)→Has E [(0,v0),(2,v2),(9,.ptr rr 0),(10,v10),(11,v11),(12,I),(14,.int .i64 (fr:Int)),(50,kv),(51,.int .i64 (ks.length:Int)),(52,.int .i64 (i:Int))] →
  (∀E' h' J,J≤ks.length→Has E' [(0,v0),(2,v2),(9,.ptr rr 0),(10,v10),(11,v11),(12,I),(14,.int .i64 (J:Int))]→Sat h' (pt rr (.cells 7 (kH id f l n mv dv pv) false)::tJ pv pg::.arr 1 kv (dO ks)::S)→Q (.exit 0) E' h') →
  WP ⟨Tryz.prog,told⟩ 148 (.loop mnF) E h Q:=by
 intro j
 induction j with
 |zero =>
  intro i fr h E Q hi Ds s hE hq
  refine WP.loop (WP.has hE (zg rfl (zC rfl aJ (by simp;omega) ?_)))
  exact zk 3 rfl (WP.exit (hq _ _ fr (by omega) ⟨rfl,rfl,rfl,rfl,rfl,rfl,rfl,aa⟩ s))
 |succ j ih =>
  intro i fr h E Q hi Ds s hE hq
  obtain⟨k,vR⟩:∃k,ks[i]?=some k:=⟨_,bp (by omega)⟩
  obtain⟨B_,off,e1,e2⟩:=k_ (P:=Tryz.prog) s (k:=2) (i:=i) (c:=.int .i64 k) rfl (by rw[dO,ni,vR];rfl) gU nE
  obtain⟨bb,hl⟩:∃bb,dK Tryz.prog h 146 pv (.int .i64 k) true=some (.aI [.agg [],.bool bb]):=by
   rcases jI (n:=k) (fun _ _=>aX.pu _) (s.ae [1]) GW bz RR with⟨_,g2,_⟩|⟨uu,y,_,g2,_,s'⟩
   ·exact⟨_,g2⟩
   ·obtain⟨eu,_⟩:=mL.1 s'
    exact⟨_,by rw[g2,eu]⟩
  refine WP.loop (WP.has hE (zg rfl (zB rfl aJ (by simp;omega) ?_)))
  refine zk 5 rfl (WP.block (zg rfl (zo rfl (cu (r:=.ptr B_ off) rfl rfl e1) (zl rfl (e2 _ ep) (zk 6 rfl (zY s 0 C2 KC rfl (zm rfl (zo rfl (gx rfl rfl hl) (zk 3 rfl ?_)))))))))
  refine aq.bG s rfl rfl rfl (bM RR) (fun p17 h s => ?_)
  dsimp only[V.cells,List.length_nil,kH] at s
  refine zS rfl (s.fh (j:=0) rfl XA rfl rfl) ?_
  intro h s
  dsimp only[setA] at s
  refine zk 5 rfl (zo rfl (dB rfl rfl) (zv ?_))
  cases bb with
  |true =>
   refine zj rfl (WP.skip (zr rfl (zb rfl (by exact aR (ax (by omega) (by omega))) ?_)))
   refine zm rfl (zv ?_)
   exact ih (i+1) fr _ _ Q (by omega) (by omega) s.drop ⟨rfl,rfl,rfl,rfl,rfl,rfl,rfl,rfl,rfl,rfl,aa⟩ hq
  |false =>
   refine zK 3 rfl (zo rfl (ak (r:=.int .i64 ((fr+1:Nat):Int)) rfl rfl (by rw[show((fr+1:Nat):Int)=(fr:Int)+1 by omega];exact aR (ax (by omega) (by omega)))) ?_)
   refine za rfl (zv (zr rfl (zb rfl (by exact aR (ax (by omega) (by omega))) ?_)))
   refine zm rfl (zv ?_)
   exact ih (i+1) (fr+1) _ _ Q (by omega) (by omega) s.drop ⟨rfl,rfl,rfl,rfl,rfl,rfl,rfl,rfl,rfl,rfl,aa⟩ hq
theorem TW (hT:WK told)(hB:B≤900)(hI:TxI N B M ba ck mk rs ε)(AL:1≤ba)(mD:ba+szB rs≤1000000)(hN:N≤1024)(g_:sC L)(hx:L[i]?=some (id,rr,A)){k:Nat}{b:List Nat}(I:now=[((k:Int),b)])(hw:NW N now)(je:id<2097152)(qp:A.dF<2097152)(hd:data.length≤9)(lV:A.dn.length≤1000)
 (sI:szB rs+7300+oF L≤M)(hM:M≤16777216){sz pl fr w:Nat}(ej:sz≤560)(Rx:pl≤1560)(Ds:fr≤9)(s:Sat h (gV m a nx u L::GA g a p q r fK aH now ε::X::pt w (.cells 6 (c5 (1:Nat) id A.dF 0 dt .aO) false)::S))(hX:cq X (cz dt data))
 {E:List (Nat×V)}{Q:Ex→List (Nat×V)→H→Prop}(hE:Has E [(0,.ptr m 0),(2,.ptr g 0),(9,.ptr rr 0),(10,.ptr w 0),(11,.int .i64 (sz:Int)),(12,.int .i64 (pl:Int)),(14,.int .i64 (fr:Int))])
 (hq:∀E' h' c ah aB,look E' 8=some (.int .i64 0)→aB=ba+szB rs→(∀m,pgA ah m=match lookL m now with|some b=>cS b aB|none=>pgA ε m)→(dG.mk 1 id A.dF 0 data c).len≤560→TxI N (B+2) M ba ck mk (rs++[⟨1,id,A.dF,0,data,c⟩]) ah →
   Sat h' (gV m a nx u (L.set i (id,rr,A.more aB (pl+96) [(k:Int)]))::dN g a now true::SA a p q r .a_ fK aH ah::X::S)→Q .ret E' h'): WP ⟨Tryz.prog,told⟩ 148 mnT E h Q:=by
 have hW:=hT.w
 have qF:∀n∈now.map (·.1),(Lit.int .i64 n).wf=true:=fun n hn=>by have:=hw.keys n hn;exact wf_i64 (by omega) (by omega)
 have hb:ε.2.1.b.length=szB rs:=by rw[hI.lr.b,sE]
 have DJ:=hI.lr.base
 have IF:=hI.rm
 obtain⟨av,s⟩:=fL.1 s
 refine WP.has hE (zK 3 rfl (zo rfl (ak (r:=.int .i64 ((pl+96:Nat):Int)) rfl rfl (by rw[show((pl+96:Nat):Int)=(pl:Int)+96 by omega];exact aR (ax (by omega) (by omega)))) ?_))
 refine zk 7 rfl (zY s 0 oY m6 rfl ?_)
 have s0:Sat h (gV m a nx u L::GA g a p q r fK aH now ε::X::pt w (.cells 6 (c5 (1:Nat) id A.dF 0 dt .aO) false)::S):=fL.2 ⟨av,s⟩
 refine zc rfl (QS (μ:=ε.2.1) (δ:=ε.2.2) hW (by omega) (by omega) ((aZ.1 (s0.ae [1])).ae [1,2,2])) ?_
 rintro v h' ⟨rfl,rfl⟩
 rw[hb,IF]
 refine zk 2 rfl (zo rfl (ak (r:=.int .i64 ((sz+(pl+96):Nat):Int)) rfl rfl (by rw[show((sz+(pl+96):Nat):Int)=(sz:Int)+((pl+96:Nat):Int) by omega];exact aR (ax (by omega) (by omega)))) ?_)
 refine zm rfl (zo rfl (ak (r:=.int .i64 ((560*fr:Nat):Int)) rfl rfl (by rw[show((560*fr:Nat):Int)=560*(fr:Int) by omega];exact ik (ax (by omega) (by omega)))) ?_)
 refine zo rfl (ak (r:=.int .i64 ((sz+(pl+96)+560*fr:Nat):Int)) rfl rfl (by rw[show((sz+(pl+96)+560*fr:Nat):Int)=((sz+(pl+96):Nat):Int)+((560*fr:Nat):Int) by omega];exact aR (ax (by omega) (by omega)))) ?_
 refine zm rfl (zc rfl (TV hT g_ s0) ?_)
 rintro v h ⟨rfl,s⟩
 refine zo rfl (ak (r:=.int .i64 ((sz+(pl+96)+560*fr+oF L:Nat):Int)) rfl rfl (by rw[show((sz+(pl+96)+560*fr+oF L:Nat):Int)=((sz+(pl+96)+560*fr:Nat):Int)+(oF L:Int) by omega];exact aR (ax (by omega) (by omega)))) ?_
 refine zC rfl aJ (by simp;omega) ?_
 refine zk 6 rfl ?_
 have s:=aZ.1 (s.ae [1])
 have s:Sat h (dN g a now false::_):=s
 refine zc rfl (xE hW s (by rw[I];simp) qF) ?_
 rintro kv h s
 have Nx:c9 now=[(k:Int)]:=by rw[I];rfl
 rw[Nx] at s
 refine zk 5 rfl (zl rfl (s.cy (k:=8) rfl iS eD) ?_)
 have s:=s.ae [1,1,1,1,1]
 have s:Sat h (GA g a p q r fK aH now ε::_):=aZ.2 s
 have s:=s.ae [0,2]
 refine zc rfl (tj (kd:=1) (l:=1) hW hB hI (by omega) hw (by rw[I];simp) (by decide) hN (by decide) (by decide) je qp (by decide) hd (by omega) s hX) ?_
 rintro v h ⟨c,ah,aB,Hf,rfl,gd,hlen,jd,s⟩
 refine zk 10 rfl (zC rfl aA (rfl) ?_)
 obtain⟨nR,s⟩:=fL.1 (s.ae [4])
 have s:=(jk hx).1 (s.ae [2])
 obtain⟨mv,dv,pv,s⟩:=jW.1 s
 have s:=s.ae [0,0,0,0,6]
 refine zk 8 rfl (zY s 0 I5 dD rfl ?_)
 have hlen:(dG.mk 1 id A.dF 0 data c).len≤560:=by omega
 have fin:∀ {f0:Nat} {E':List (Nat×V)} {h:H},f0=(if A.fst=0 then aB else A.fst)→look E' 8=some (.int .i64 0)→Sat h (oE rr id ⟨f0,aB,aB,A.Eb,A.dn++[(aB,pl+96)],[(k:Int)].foldl tK A.pg⟩::.arr 1 kv (dO [(k:Int)])::j3 (L.eraseIdx i)::pt m (.cells 4 [.ptr a 0,u,nR,.int .u64 (nx:Int)] false)::js .u64 (fun v (r:Nat)=>.pu (v=.ptr r 0)) nR (L.map fun e=>((e.1:Int),e.2.1))::dN g a now true::SA a p q r .a_ fK aH ah::X::pt w (.cells 6 (c5 (1:Nat) id A.dF 0 dt .aO) false)::S)→Q .ret E' h:=by
  intro f0 E' h Sf J s
  subst Sf
  refine hq E' h c ah aB J Hf gd hlen jd ?_
  have s:=s.ae [0,1]
  have s:Sat h (j3 (L.set i (id,rr,A.more aB (pl+96) [(k:Int)]))::_):=(QW (x':=(id,rr,A.more aB (pl+96) [(k:Int)])) hx).1 s
  have s:=s.ae [2,2,0,1,1,1]
  rw[←Q0 (A':=A.more aB (pl+96) [(k:Int)]) hx] at s
  exact((fL.2 ⟨nR,s⟩).del 5).del 4
 by_cases hf:A.fst=0
 ·skip
  refine zB rfl c4 (by simp[hf]) ?_
  refine zk 6 rfl (zf rfl (I5 _ _) (zS rfl (s.dL (k:=0) rfl od rfl (show 0+1<7 by decide) rfl rfl) ?_))
  intro h s
  refine zv (Ox (f0:=aB) (A:=A) hW (ks:=[(k:Int)]) (by simp) lV s ⟨rfl,rfl,rfl,rfl,aa⟩ fun E' h' J s' => ?_)
  exact fin (by rw[aF hf]) J s'
 ·skip
  refine zC rfl c4 (by simp;omega) ?_
  refine zk 3 rfl (Ox (f0:=A.fst) (A:=A) hW (ks:=[(k:Int)]) (by simp) lV s ⟨rfl,rfl,rfl,rfl,aa⟩ fun E' h' J s' => ?_)
  exact fin (by rw[ay hf]) J s'
theorem Q4 (hT:WK told)(hB:B≤900)(hI:TxI N B M ba ck mk rs ε)(AL:1≤ba)(mD:ba+szB rs≤1000000)(hN:N≤1024)(g_:sC L)(hx:L[i]?=some (id,rr,A)){b:List Nat}(I:now=[((k:Int),b)])(hw:NW N now)(je:id<2097152)(qp:A.dF<2097152)(hd:data.length≤9)(lV:A.dn.length≤1000)
 (sI:szB rs+7300+oF L≤M)(hM:M≤16777216)(s:Sat h (gV m a nx u L::GA g a p q r fK aH now ε::X::S))(hX:cq X (cz dt data)):
  Call ⟨Tryz.prog,told⟩ 41 [.ptr m 0,.int .u64 (id:Int),.ptr g 0,dt] h fun v h'=>∃c cost ah aB,aB=ba+szB rs∧v=.int .i64 0∧(∀m,pgA ah m=match lookL m now with|some b=>cS b aB|none=>pgA ε m)∧(dG.mk 1 id A.dF 0 data c).len≤560∧cost≤1656 ∧
   TxI N (B+2) M ba ck mk (rs++[⟨1,id,A.dF,0,data,c⟩]) ah∧Sat h' (gV m a nx u (L.set i (id,rr,A.more aB cost [(k:Int)]))::dN g a now true::SA a p q r .a_ fK aH ah::X::S):=by
 have hW:=hT.w
 have ji:=s.aD (k:=2) rfl hX
 have gB:(V.agg (c5 (1:Nat) id A.dF 0 dt .aO)).cells.all storable=true:=kq ji.cells.2 rfl
 obtain⟨av,s⟩:=fL.1 s
 have s:=s.ae [1]
 obtain⟨cR,es,clock,e0,hb,nZ,_⟩:=fR.1 s
 have Jz:=He hx nZ
 obtain⟨uu,y,hy,_,gA,s⟩:∃uu y,lookL (id:Int) (L.map fun e=>((e.1:Int),e.2.1))=some y∧dK Tryz.prog h 142 av (.int .u64 (id:Int)) true=some (.aI [uu,.bool true])∧dK Tryz.prog h 142 av (.int .u64 (id:Int)) false=some uu∧Sat h (.pu (uu=.ptr y 0)::js .u64 (fun v (r:Nat)=>.pu (v=.ptr r 0)) av (L.map fun e=>((e.1:Int),e.2.1))::_):=by
  rcases jI (n:=(id:Int)) (fun _ _=>aX.pu _) s sy bN RP with⟨g1,_⟩|⟨uu,y,g1,g2,g3,s'⟩
  ·rw[Jz] at g1;cases g1
  ·exact⟨uu,y,g1,g2,g3,s'⟩
 obtain⟨eu,s'⟩:=mL.1 s
 subst eu
 rw[Jz] at hy
 obtain rfl:=cx hy
 have s:=s'
 have s:=(jk hx).1 (s.ae [2])
 obtain⟨mv,dv,pv,s⟩:=jW.1 s
 -- [act's row, marks, done, pages, others, map, manager's row, group .., X]
 refine Call.of_wp (hW.free _ rfl) Tryz.func41 rfl rfl (zK 8 rfl (zY s 6 mh pL rfl (zm rfl (zo rfl (gx rfl rfl gA) (zk 6 rfl (zC rfl (sY B5) (rfl) (zk 8 rfl (zY s 0 rq dD rfl (zm rfl (zo rfl (b_ (r:=.agg (c5 (1:Nat) id A.dF 0 dt .aO)) rfl (Lu ji)) ?_))))))))))
 refine aq.bG s rfl rfl rfl (bM oh) (fun M9 h s => ?_)
 refine zS rfl (s.fh (j:=0) rfl eD rfl gB) ?_
 intro h s
 refine zk 4 rfl (zl rfl (s.cy (k:=0) rfl iS eD) ?_)
 have s:=aZ.1 (s.ae [8])
 have s:Sat h (dN g a now false::c8 a p q r (.ptr g 0) fK aH::dM r p q ε.1::bQ q p ε.2.1::bw p ε.2.2::_):=s
 have J:∀n∈now.map (·.1),0≤n∧n<65536:=fun n hn=>by have:=hw.keys n hn;omega
 have vD:=hI.ei.bY
 refine zc rfl (QT (kd:=(1:Nat)) (nx:=0) hW hI.ei.ok (by omega) (fun e he=>fW (hw.good e he).1) (by rw[I];simp) J (by omega) (by omega) (by omega) (by omega) (s.ae [0,0,0,0,0,8]) hX) ?_
 rintro v h ⟨e,c,lE,hc,B8,s⟩
 obtain⟨mB,fX,zI⟩:=hI.ei.mO hw hc
 have hnl:(c9 now).length=1:=by rw[I];rfl
 have xo:=xQ (kd:=((1:Nat):Int)) (tx:=id) (pv:=A.dF) (nx:=0) (data:=data) (L:=1) hc hw (by rw[I];simp) (by omega) je qp (by decide) hd
 have Rx:=Q2 c
 have hfw:=hc.V7 hw fun n hm=>by have:=hw.keys n (jJ.1 hm);omega
 rw[hnl] at hfw
 have Yb:dg ((1:Nat):Int) c=true:=AD ⟨by decide,by decide⟩ (hc.fit (fun x hx=>fW (hw.good x hx).1) fun n hq=>by have:=J n (jJ.1 hq);omega)
 have oG:TxI N B M ba ck mk rs lE:=hI.sm mB fX
 have Ws:∀m,pgA lE m=pgA ε m:=fX.1
 obtain⟨sz,ej,rfl⟩:∃sz:Nat,sz≤560∧v=.aI [.int .i64 (sz:Int),.int .i64 (partsL c:Int),.int .i64 0]:=by
  rcases B8 with⟨h1,_⟩|⟨_,h1,_⟩|⟨_,h1,_⟩|⟨_,h1⟩
  ·exact absurd zI h1
  ·rw[Yb] at h1;cases h1
  ·omega
  ·exact⟨_,by omega,h1⟩
 generalize partsL c=pl at *
 refine zk 12 rfl (zC rfl aA (rfl) (zk 11 rfl (zc rfl (xE hW s (by rw[I];simp) (fun n hn=>by have:=J n hn;exact wf_i64 (by omega) (by omega))) ?_)))
 rintro kv h s
 have Nx:c9 now=[(k:Int)]:=by rw[I];rfl
 rw[Nx] at s
 refine zo rfl (aQ rfl rfl rfl (s.gF (n:=1) (j:=0) rfl (by simp[dO]) (by decide) gU)) ?_
 refine zk 2 rfl (WP.block ?_)
 have s:=s.ae [8,10,0]
 refine Q3 (ks:=[(k:Int)]) (l:=A.dF) (n:=A.jj) hW (by simp) 1 0 0 _ _ _ rfl (aS _) s ⟨rfl,rfl,rfl,rfl,rfl,rfl,rfl,rfl,rfl,rfl,aa⟩ fun E' h' fr Ds eF s' => ?_
 have s:=s'
 have Ds:fr≤1:=Ds
 refine WP.has eF ?_
 have fin:∀ {h:H},Sat h (pt rr (.cells 7 (kH id A.fst A.dF A.jj mv dv pv) false)::tJ pv A.pg::.arr 1 kv (dO [(k:Int)])::dN g a now false::c8 a p q r (.ptr g 0) fK aH::dM r p q lE.1::bQ q p lE.2.1::bw p lE.2.2::X::pt M9 (.cells 6 (c5 (1:Nat) id A.dF 0 dt .aO) false)::.arr 1 mv (G5 A.Eb)::.arr 2 dv (kT A.dn)::j3 (L.eraseIdx i)::js .u64 (fun v (r:Nat)=>.pu (v=.ptr r 0)) av (L.map fun e=>((e.1:Int),e.2.1))::pt m (.cells 4 [.ptr a 0,u,av,.int .u64 (nx:Int)] false)::S) →
   Sat h (gV m a nx u L::GA g a p q r fK aH now lE::X::pt M9 (.cells 6 (c5 (1:Nat) id A.dF 0 dt .aO) false)::S):=by
  intro h s
  have s:=s.ae [0,9,9,0]
  have s:=jW.2 ⟨mv,dv,pv,s⟩
  have s:=s.ae [0,8]
  have s:=(jk hx).2 s
  have s:=s.ae [10,9,0]
  have s:=fL.2 ⟨av,s⟩
  have s:=s.ae [2,2,2,2,2]
  have s:Sat h (GA g a p q r fK aH now lE::_):=aZ.2 s
  exact((s.ae [1,0,1,1]).del 4)
 have tail:=fun {fr h E Q} (Ds:fr≤9) s hE hq=>TW (h:=h) (fr:=fr) (E:=E) (Q:=Q) hT hB oG AL mD hN g_ hx I hw je qp hd lV sI hM ej (show pl≤1560 by omega) Ds (fin s) hX hE hq
 refine zK 5 rfl (zY s 0 o5 Br rfl (zo rfl (aQ rfl rfl rfl (s.gF (n:=A.dn.length) (j:=11) rfl (jz _) (by decide) jM)) ?_))
 by_cases RX:A.dn=[]
 ·skip
  refine zB rfl c4 (by simp[RX]) ?_
  refine zk 4 rfl (zo rfl (ak (r:=.int .i64 ((fr+8:Nat):Int)) rfl rfl (by rw[show((fr+8:Nat):Int)=(fr:Int)+8 by omega];exact aR (ax (by omega) (by omega)))) ?_)
  exact zk 2 rfl (tail (by omega) s ⟨rfl,rfl,rfl,rfl,rfl,rfl,rfl,aa⟩ fun E' h' c ah aB eF Hf gd hlen jd s'=>⟨aa,_,ql eF,c,pl+96,ah,aB,Hf,rfl,fun m=>by rw[gd m,Ws m],hlen,by omega,jd,s'⟩)
 ·have h1:0<A.dn.length:=List.length_pos_iff.2 RX
  refine zC rfl c4 (by simp;omega) ?_
  exact zk 3 rfl (tail (by omega) s ⟨rfl,rfl,rfl,rfl,rfl,rfl,rfl,aa⟩ fun E' h' c ah aB eF Hf gd hlen jd s'=>⟨aa,_,ql eF,c,pl+96,ah,aB,Hf,rfl,fun m=>by rw[gd m,Ws m],hlen,by omega,jd,s'⟩)
end
abbrev Sg := List V→H→V×H→Prop
noncomputable def toldP (l:List (Nat×Sg))(base:Nat→Option (List V→H→Option (V×H)))(f:Nat): Option (List V→H→Option (V×H)) :=
 match l with
 |[]=>base f
 |x::l=>cond (Nat.beq f x.1) (some (iN Tryz.prog x.1 x.2)) (toldP l base f)
theorem JM {l:List (Nat×Sg)}(h:∀x∈l,inL FZ x.1=true∧x.1≠217∧x.1≠106): W (toldP l mY):=by
 induction l with
 |nil=>exact W.base
 |cons x l I =>
  have I:=I fun y hy=>h y (dh _ hy)
  obtain⟨h1,h2,h3⟩:=h x dJ
  refine⟨fun f J => ?_,?_,?_⟩
  ·have:f≠x.1:=fun e=>by subst e;rw[h1] at J;cases J
   simp only[toldP,eO this,aK];exact I.free f J
  ·simp only[toldP,eO (jx h2),aK];exact I.more
  ·simp only[toldP,eO (jx h3),aK];exact I.sorted
theorem Hg {l : List (Nat × Sg)} (h : ∀ x ∈ l, ∃ fn, Tryz.prog.funcs[x.1]? = some fn ∧ fn.body.isSome = true ∧ (fn.name == "runtime.NumGoroutine") = false) : dA ⟨Tryz.prog, toldP l mY⟩ := by
 induction l with
 | nil => exact iI
 | cons x l J =>
  have J := J fun y hy => h y (dh _ hy)
  intro f g I
  simp only [toldP] at I
  by_cases h1 : f = x.1
  ·subst h1
   rw [qi rfl, ai] at I
   simp only [au] at I
   subst I
   exact Nr (h x dJ)
  ·rw [eO h1, aK] at I
   exact J f g I
def Lv (C:dR)(f:FuncId)(args:List V)(h:H)(r:V×H): Prop:=∃I,∀N,I≤N→toldDefer C N f args h=some r
theorem Call.Wt {told:cE}{f:FuncId}{R:V→H→Prop}(hP:C.P=Tryz.prog)(hC:dA C)(ht:told f=some (iN Tryz.prog f (Lv C f)))(hf:Tryz.prog.funcs[f]?=some fn)(hb:fn.body.isSome=true)
 (hd:∃v I,(∃J,∀N,J≤N→toldDefer C N f args h=some (v,I))∧R v I): Call ⟨Tryz.prog,told⟩ f args h R:=by
 obtain⟨v,I,⟨J,h0⟩,hR⟩:=hd
 obtain⟨r,e1,N1,h1⟩:=qc (P:=Tryz.prog) (f:=f) (jb:=Lv C f) (args:=args) (h:=h) (r:=(v,I)) ⟨J,h0⟩ (fun c w n4 hw=>hP ▸ wV (C:=C) (hP ▸ jK) hC (h0 J (aS _)) n4 hw)
 have:r=(v,I):=by
  have a:=h0 (max J N1) (by omega)
  have b:=h1 (max J N1) (by omega)
  rw[a] at b
  exact(cx b).symm
 subst this
 exact⟨v,I,gD.told ht hf hb e1,hR⟩
section
variable {told:cE} {p m kd:Nat}
theorem Oy (hB:B≤900)(hI:TxI N B M ba ck mk rs ε)(mD:ba+szB rs≤1000000000)(hN:N≤1024)(h1:1≤kd)(I:kd≤7)(oK:tx<2097152)(qw:pv<2097152)(hf:szB rs+40≤M)
 (s:Sat h (pt m (.cells 4 [.ptr a 0,u,av,.int .u64 (nx:Int)] false)::SA a p q r .a_ fK aH ε::S)):
  ∃v I,(∃N0,∀n,N0≤n→toldDefer CB n 136 [.ptr m 0,.agg (c5 (kd:Int) tx pv 0 .aO .aO)] h=some (v,I))∧∃c ah,v=.aI [.int .u64 ((ba+szB rs:Nat):Int),.int .i64 0]∧(∀m,pgA ah m=pgA ε m) ∧
   (dG.mk kd tx pv 0 [] c).len≤40∧TxI N (B+2) M ba ck mk (rs++[⟨kd,tx,pv,0,[],c⟩]) ah∧Sat I (pt m (.cells 4 [.ptr a 0,u,av,.int .u64 (nx:Int)] false)::SA a p q r .a_ fK aH ah::S):=by
 have J:=W.base
 refine toldDefer_do (C:=CB) GX rfl rfl (of_decide_eq_true (by kernel_rfl)) ?_
 refine WPd.seq (WPd.of_wp rfl (zr rfl (aq.bG s rfl rfl rfl (dc rfl rfl) ?_)))
 intro p3 h s
 dsimp only[Nat.reduceAdd,c5,V.cells,List.length_cons,List.length_nil] at s
 refine zk 2 rfl (zv (WPd.seq (WPd.of_wp rfl (zr rfl (zk 2 rfl (zf rfl (oY _ _) (zl rfl (by exact s.ld (k:=1) rfl m6 rfl) ?_)))))))
 have s:=aZ.1 (s.ae [2])
 dsimp only[aC,bringA,List.cons_append,List.nil_append] at s
 refine zc rfl (qd J s) ?_
 rintro v h ⟨g,rfl,s⟩
 have s:Sat h (GA g a p q r fK aH [] ε::_):=aZ.2 s
 have s:=s.rW.ae [1]
 dsimp only[bringA,getA,aC] at s
 refine zk 5 rfl (zv (WPd.seq (WPd.seq (WPd.of_wp rfl (zr rfl (zm rfl (zh rfl (ak rfl rfl aA) (rfl) (zv (WPd.of_wp rfl (zj rfl (WP.skip (WPd.seq (WPd.defer rfl rfl rfl rfl rfl rfl rfl rfl rfl rfl rfl rfl (WPd.seq (WPd.of_wp rfl (zr rfl (zm rfl (zl rfl (by exact s.cy (k:=2) rfl iS eD) ?_))))))))))))))))))
 refine zc rfl (tj (kd:=kd) (l:=0) J hB hI mD (NW.nil N) (aS _) (by decide) hN h1 I oK qw (by decide) (by decide) (by omega) s (aU _ _)) ?_
 rintro v h ⟨c,ah,aB,rfl,rfl,gd,hlen,jd,s⟩
 refine zk 4 rfl (zv (WPd.of_wp rfl (WP.ret ?_)))
 have s:=aZ.1 (s.ae [1])
 have s:=s.ae [4,0]
 obtain⟨v2,I,uB,rfl,s⟩:=oC J s
 have s:=s.ae [1,1,1,1]
 have s:Sat I (SA a p q r .a_ fK aH ah::_):=aZ.2 s
 have lV:mY 59=none:=J.free _ rfl
 exact⟨aa,I,_,mR (C:=CB) lV uP rfl rfl uB,K5 rfl rfl,c,ah,rfl,fun m=>gd m,by omega,jd,(((s.ae [4,0]).del 4).del 3).del 2⟩
theorem Hh (hT:WR told){y:dG}{x:LD}(I:LR ba ck mk (fC++y::nV) x)(BK:x.1.Ok)(s:Sat h (bQ q p x.1::S)):
  Call ⟨Tryz.prog,told⟩ 66 [.ptr q 0,.int .u64 ((ba+szB fC:Nat):Int)] h fun v h'=>∃dt ch cs,v=.aI [.agg (c5 y.kd y.tx y.pv y.nx dt ch),.int .u64 ((ba+szB fC+y.len:Nat):Int),.int .i64 0] ∧
   Sat h' (bQ q p x.1::aW dt y.data::.arr 4 ch cs::cG cs y.aV::S):=by
 have J:=I.rs y (by simp)
 refine(Oj (n:=ba+szB fC) (a:=szB fC) (pre:=logB ba fC) (rest:=logB (ba+szB fC+y.len) nV) hT J.good J.kd J.rd rfl J.len sE ?_ (by rw[I.base]) ?_ BK s).mono fun v h' hx => ?_
 ·rw[I.b,G9,logB]
  rfl
 ·have:=QZ (base:=ba) (aH:=ck) (fC:=fC) (nV:=nV) (r:=y)
  have e1:=I.base
  have e2:=I.b
  have e3:=I.bU
  obtain⟨μ,δ⟩:=x
  obtain⟨b1,b2,b3,b4,b5⟩:=μ
  simp only at e1 e2 e3
  subst e1 e2 e3
  exact this
 ·have e:ba+szB fC+y.len=ba+szB fC+8+(cI y.kd y.tx y.pv y.nx y.data y.aV).length:=by rw[dG.len,dG.bd];omega
  rw[e]
  exact hx
end
def pF (d:Nat): Nat:=(18446744073709551616-d)%18446744073709551616
theorem TX (d:Nat): pF d<18446744073709551616:=jw _ (by decide)
theorem Q5 {d:Nat}(hd:d<18446744073709551616): IntKind.wrap .u64 (IntKind.wrap .i64 (-(IntKind.wrap .i64 (d:Int))))=(pF d:Int):=by
 have J:∀n:Int,IntKind.wrap .u64 n=n%18446744073709551616:=fun n=>rfl
 have I:∀n:Int,IntKind.wrap .i64 n=if n%18446744073709551616≥9223372036854775808 then n%18446744073709551616-18446744073709551616 else n%18446744073709551616:=fun n=>by
  show(if (true&&decide (n%18446744073709551616≥9223372036854775808))=true then _ else _)=_
  simp
  rfl
 have e3:∀n:Int,IntKind.wrap .i64 n%18446744073709551616=n%18446744073709551616:=fun n=>by rw[I];split<;>omega
 rw[J,e3]
 have:(-(IntKind.wrap .i64 (d:Int)))%18446744073709551616=(-(d:Int))%18446744073709551616:=by rw[I];split<;>omega
 rw[this,pF]
 omega
section
variable {told:cE} {p m Zu kd:Nat} {cell:List Nat}
theorem Oz (hT:W told)(hB:B≤2000)(ku:EI N B ε)(hw:NW N now)(hp:fN N n k cell (pgG now ε))(hi:i<50)(lV:dn<18446744073709551616)(s:Sat h (X::GA g a p q r data aH now ε::S))(hX:cq X (cz dv (i::le 8 dn))):
  Call ⟨Tryz.prog,told⟩ 282 [.agg [.ptr c 0],.ptr g 0,dv] h fun v h'=>∃ah b',v=.int .i64 0∧EI N B ah∧Sm N ε ah∧NW N (cN (k:Int) b' now) ∧
   dx b' 205 0 n [kA cell i ((dw cell i+pF dn)%18446744073709551616)]∧Sat h' (GA g a p q r data aH (cN (k:Int) b' now) ah::X::S):=by
 have hlen:(i::le 8 dn).length=9:=by rw[bq,cF]
 have J:=s.aD (k:=0) rfl hX
 have abo:=J.1
 refine Call.of_wp (hT.free _ rfl) Tryz.func282 rfl rfl (zg rfl (aq.bG s rfl rfl rfl (dc rfl rfl) ?_))
 intro p3 h s
 have J:=s.aD (k:=1) rfl hX
 refine zk 6 rfl (zo rfl (aQ rfl rfl rfl (bh aM J)) (zC rfl aA (by rw[hlen];rfl) ?_))
 obtain⟨NT,I,e1,e2⟩:=er (i:=0) J rfl
 have jY:=gE J (a:=1) (by omega)
 have sH:=eN J
 have s0:=s
 refine zk 4 rfl (WP.drawn [some (0,2),some (0,2),some (0,2),some (0,2),some (0,2),some (0,2),some (0,2),af,af,af,af,af,af,af] rfl (by kernel_rfl) (by kernel_rfl) ?_)
 refine zF rfl (I6 _ _) (zL rfl (s.ld (k:=0) rfl PB rfl) (zM rfl (zM rfl (zO rfl (cu (r:=.ptr NT I) rfl rfl e1) (zL rfl e2 (az.op rfl rfl rfl (by simp only[isEff,bz]) (bJ (r:=.int .i64 (i:Int)) rfl (gC Tryz.underlying5 bz (ax (by omega) (by omega)))) ?_))))))
 refine zM rfl (zO rfl (cf (p:=some (.int .i64 1)) (q:=none) (m:=none) (p':=some 1) (q':=none) (m':=none) rfl rfl rfl rfl rfl rfl rfl jY.1) (az.any rfl rfl rfl rfl (OpR.call rfl rfl rfl rfl (nO hT s (k:=1) rfl (uI hX (a:=1) (by omega)) (by simp[cF]))) ?_))
 rintro v h' ⟨rfl,rfl⟩
 rw[List.drop_one,List.tail_cons,xH,show dn%256^8=dn from oQ lV]
 refine az.op rfl rfl rfl (by simp only[isEff,uW]) (bJ rfl (cvW bN uW)) ?_
 refine zO rfl (dB (r:=.int .i64 (IntKind.wrap .i64 (-(IntKind.wrap .i64 (dn:Int))))) rfl (by simp[unV])) ?_
 have s:=s.ae [2]
 refine az.any rfl rfl rfl rfl (OpR.call rfl rfl rfl rfl (G3 (dn:=pF dn) hT hB ku hw hp hi (Q5 lV) (TX dn) s)) ?_
 rintro v h ⟨ah,b',rfl,h1,h2,h3,h4,s⟩
 refine zA rfl ?_
 refine az.nil ⟨⟨fun _ _=>.inr ⟨rfl,⟨_,jr rfl (I6 _ _)⟩,aN _ rfl⟩,dW (.inr ⟨rfl,⟨_,aP rfl (s0.ld (k:=0) rfl PB rfl)⟩,aN _ rfl⟩) (.inr ⟨rfl,⟨_,aP rfl (s0.ld (k:=0) rfl PB rfl)⟩,aN _ rfl⟩),fun _ _=>.inr ⟨rfl,⟨_,bf rfl⟩,aN _ rfl⟩,fun _ _=>.inr ⟨rfl,⟨_,bf rfl⟩,sH⟩,fun _ _=>.inr ⟨rfl,⟨_,cu (r:=.ptr NT I) rfl rfl e1⟩,aN _ rfl⟩,dW (.inr ⟨rfl,⟨_,aP rfl e2⟩,aN _ rfl⟩) (.inr ⟨rfl,⟨_,aP rfl e2⟩,aN _ rfl⟩),fun _ _=>.inr ⟨rfl,⟨_,bJ (r:=.int .i64 (i:Int)) rfl (gC Tryz.underlying5 bz (ax (by omega) (by omega)))⟩,aN _ rfl⟩,aa,aa,aa,aa,aa,aa,aa,aa⟩,?_⟩
 refine WP.ret ⟨aa,_,rfl,?_⟩
 exact⟨ah,b',rfl,h1,h2,h3,h4,(s.ae [0,1]).del 2⟩
theorem fN.done (hw:NW N now)(hd:∀m,pgA ah m=match lookL m now with|some b=>cS b aB|none=>pgA ε m)(I:fN N n k cell (pgG now ε)): fN N n k cell (pgA ah):=by
 obtain⟨R,M,J,h2⟩:=I.hd
 exact⟨⟨R,M,J.done hw hd,h2⟩,I.k2,I.kN,I.pg.done hw hd,I.len⟩
theorem OA : methV Tryz.prog 161 "Undo" = some 282 := by kernel_rfl
def iJ (c:Nat): V:=.iface 161 (.agg [.ptr c 0])
theorem Q6 {b0 w b2 b3 f l nt to:Nat}{dt ch mv dv pv av:V}(hB:B≤900)(hI:TxI N B M ba ck mk rs ε)(mD:ba+szB rs≤1000000000)(hN:N≤1024)(je:id<2097152)(hl:l<2097152)(Sc:to<2097152)(hf:szB rs+560≤M)
 (hp:fN N n k cell (pgA ε))(hi:i<50)(lV:dn<18446744073709551616)
 (s:Sat h (pt b0 (.cells 1 [.ptr m 0] false)::pt w (.cells 6 (c5 kd tx Zu B6 dt ch) false)::pt b2 (.cells 1 [.ptr rr 0] false)::pt b3 (.cells 1 [.int .u64 (to:Int)] false)::pt m (.cells 4 [.ptr a 0,iJ c,av,.int .u64 (nx:Int)] false)::pt rr (.cells 7 (kH id f l nt mv dv pv) false)::SA a p q r .a_ data aH ε::X::S))(hX:cq X (cz dt (i::le 8 dn))):
  ∃v I,(∃N0,∀n,N0≤n→toldDefer CB n 159 [.ptr b0 0,.ptr w 0,.ptr b2 0,.ptr b3 0] h=some (v,I))∧∃c' ah,v=.int .i64 0∧fN N n k (kA cell i ((dw cell i+pF dn)%18446744073709551616)) (pgA ah) ∧
   (dG.mk 2 id l to [] c').len≤560∧TxI N (B+2) M ba ck mk (rs++[⟨2,id,l,to,[],c'⟩]) ah ∧
   Sat I (pt b0 (.cells 1 [.ptr m 0] false)::pt w (.cells 6 (c5 kd tx Zu B6 dt ch) false)::pt b2 (.cells 1 [.ptr rr 0] false)::pt b3 (.cells 1 [.int .u64 (to:Int)] false)::pt m (.cells 4 [.ptr a 0,iJ c,av,.int .u64 (nx:Int)] false)::pt rr (.cells 7 (kH id f (ba+szB rs) to mv dv pv) false)::SA a p q r .a_ data aH ah::X::S):=by
 have J:=W.base
 have iZ:=hp.len
 refine toldDefer_do (C:=CB) GY rfl rfl (of_decide_eq_true (by kernel_rfl)) ?_
 refine WPd.seq (WPd.of_wp rfl (zr rfl (za rfl (zv (WPd.seq (WPd.of_wp rfl (zr rfl (zl rfl (by exact s.ld (k:=0) rfl lR rfl) ?_))))))))
 refine zn rfl (zY s 4 oY m6 rfl ?_)
 have s:=aZ.1 (s.ae [6])
 dsimp only[c5,kH,aC,bringA,List.cons_append,List.nil_append] at s
 refine zc rfl (qd J s) ?_
 rintro v h ⟨g,rfl,s⟩
 have s:Sat h (GA g a p q r data aH [] ε::_):=aZ.2 s
 have s:=s.ae [1,1,1,1,1,1,1]
 dsimp only[bringA,getA,aC] at s
 refine zk 5 rfl (zv (WPd.seq (WPd.seq (WPd.of_wp rfl (zr rfl (zm rfl (zh rfl (ak rfl rfl aA) (rfl) (zv (WPd.of_wp rfl (zj rfl (WP.skip (WPd.seq (WPd.defer rfl rfl rfl rfl rfl rfl rfl rfl rfl rfl rfl rfl (WPd.seq (WPd.seq (WPd.of_wp rfl (WP.drawn [af,af,af,af,af,af,af,af,af] rfl (by kernel_rfl) (by kernel_rfl) ?_)))))))))))))))))
 refine zL rfl (s.ld (k:=0) rfl lR rfl) (zN rfl (zF rfl (S2 _ _) (zL rfl (s.ld (k:=4) rfl Xs rfl) (zM rfl (zF rfl (yB _ _) (zL rfl (s.ld (k:=1) rfl bX rfl) ?_))))))
 have oJ:fN N n k cell (pgG [] ε):=hp.sA fun _=>rfl
 refine az.any rfl rfl rfl rfl (OpR.invoke rfl rfl rfl OA rfl (Oz J (by omega) hI.ei (NW.nil N) oJ hi lV (s.ae [6,6]) hX)) ?_
 rintro v h ⟨lE,b',rfl,mC,fX,sN,oI,s⟩
 have oG:=hI.sm mC fX
 have xM:=oJ.put fX oI (vM iZ hi)
 dsimp only[aC,bringA] at s
 refine zA rfl ?_
 refine az.nil ⟨⟨aa,aa,aa,aa,aa,aa,aa,aa,aa,aa⟩,?_⟩
 refine WPd.seq (WPd.of_wp rfl (zr rfl (zm rfl (zh rfl (ak rfl rfl aA) (rfl) (zv (WPd.of_wp rfl (zj rfl (WP.skip (WPd.seq (WPd.of_wp rfl (WP.drawn [af,af,af,af,af,af,af,af,af,af,af,af,af,af,af,af,af] rfl (by kernel_rfl) (by kernel_rfl) ?_)))))))))))
 refine zM rfl (zL rfl (s.ld (k:=4) rfl mj rfl) (zN rfl (zF rfl (yF _ _) (zL rfl (s.ld (k:=7) rfl dD rfl) (zL rfl (s.ld (k:=4) rfl mj rfl) (zN rfl (zF rfl (rq _ _) (zL rfl (s.ld (k:=7) rfl dD rfl) (zL rfl (s.ld (k:=5) rfl dD rfl) (zO rfl (b_ (r:=.agg (c5 (2:Nat) id l to .aO .aO)) rfl (by rw[sS];rfl)) ?_))))))))))
 have s:=s.rW.ae [1]
 dsimp only[bringA,getA,aC] at s
 refine az.any rfl rfl rfl rfl (OpR.call rfl rfl rfl rfl (tj (kd:=2) (l:=1) J hB oG mD sN (by simp[cN]) (by decide) hN (by decide) (by decide) je hl Sc (by decide) (by omega) s (aU _ _))) ?_
 rintro v h ⟨c',ah,aB,rfl,rfl,gd,hlen,jd,s⟩
 refine zM rfl (zO rfl (dV rfl rfl) (zO rfl (dV rfl rfl) (zA rfl (zA rfl ?_))))
 refine az.nil ⟨⟨aa,aa,aa,aa,aa,aa,aa,aa,aa,aa,aa,aa,aa,aa,aa,aa,aa,aa⟩,?_⟩
 refine WPd.seq (WPd.seq (WPd.of_wp rfl (zr rfl (zm rfl (zh rfl (ak rfl rfl aA) (rfl) (zv (WPd.of_wp rfl (zj rfl (WP.skip (WPd.seq (WPd.of_wp rfl (zr rfl (zl rfl (by exact s.ld (k:=6) rfl mj rfl) ?_)))))))))))))
 refine zy s 6 mj rfl (zm rfl (zy s 7 dD rfl (zn rfl (zf rfl (rq _ _) (zS rfl (s.dL (k:=9) rfl od rfl (show 0+2<7 by decide) rfl rfl) ?_)))))
 intro h s
 dsimp only[Nat.reduceAdd,List.set,setA] at s
 refine zn rfl (zf rfl (oZ _ _) (zS rfl (s.dL (k:=9) rfl od rfl (show 0+3<7 by decide) rfl rfl) ?_))
 intro h s
 dsimp only[Nat.reduceAdd,List.set,setA] at s
 refine zv (WPd.seq (WPd.of_wp rfl (zr rfl (za rfl (zv (WPd.of_wp rfl (WP.ret ?_)))))))
 have s:=aZ.1 (s.ae [1])
 have s:=s.ae [4,0]
 obtain⟨v2,I,uB,rfl,s⟩:=oC J s
 have s:=s.ae [1,1,1,1]
 have s:Sat I (SA a p q r .a_ data aH ah::_):=aZ.2 s
 have Hi:mY 59=none:=J.free _ rfl
 have s:=s.ae [4,4,4,4,4,4,0,2]
 exact⟨aa,I,_,mR (C:=CB) Hi uP rfl rfl uB,ql rfl,c',ah,rfl,xM.done sN gd,by omega,jd,((s.del 9).del 8)⟩
end
def slZ : V→V
 |.sl id _ _ cap=>.sl id 0 0 cap
 |v=>v
theorem Wu {v:V}(a:rR (T.get h.tr) k v cs): (slZ v).cells=[slZ v]∧storable (slZ v)=true:=by
 rcases a.2 with⟨rfl,_⟩|⟨id,n,cap,N,rest,rfl,_⟩<;>exact⟨rfl,rfl⟩
theorem Ed {e:TypeId}{v:V}(a:rR (T.get h.tr) k v cs)(hk:1≤k)(J:1≤cs.length)(hu:P.underlying t=some (.slice e))(I:bj P e=some k):
  sliceV P h' t v (some 0) none none=some v∧sliceV P h' t v none (some 0) none=some (slZ v):=by
 rcases a.2 with⟨rfl,rfl⟩|⟨id,n,cap,N,rest,rfl,hg,e1,e2,_,e4⟩
 ·simp at J
 ·have hn:1≤n:=by
   rcases tT n with h0|h0
   ·subst h0;omega
   ·exact h0
  cases cap with
  |exact c =>
   simp only[sliceV,hu,I,ya,gq,slZ]
   grind[aG]
  |rest q alt =>
   obtain⟨rfl,rfl,rfl,_⟩:=e4
   have h2:Nat.ble 1 q=true:=by rw[aG];exact hk
   have h3:Nat.blt 0 n=true:=by rw[Nat.blt_eq];exact hn
   have h4:Nat.ble 0 n=true:=by rw[aG];omega
   constructor
   ·simp[sliceV,hu,I,h2,h4,Nat.ble_self_eq_true]
   ·simp[sliceV,hu,I,h2,h4,slZ]
    rfl
theorem OB {e:TypeId}{v:V}(s:Sat h (.arr k v cs::S))(I:cs≠[])(hu:P.underlying t=some (.slice e))(hz:zeroT P e=some z)(hk:z.cells.length=k)(J:1≤k):
  ∃h',clearV P h t v=some h'∧Sat h' S:=by
 obtain⟨id,n,cap,N,rest,rfl,h1,h2,s,_⟩:=s.I9 I
 have hn:1≤n:=by
  rcases tT n with h0|h0
  ·subst h0;rw[uc] at h1;exact absurd (List.length_eq_zero_iff.1 h1) I
  ·exact h0
 have g:=s.row (k:=0) rfl
 have hl:(repeatL z.cells n).length=cs.length:=by rw[pM,hk,h1,qS]
 have e0:(Nat.ble 1 z.cells.length&&Nat.ble 1 n)=true:=by rw[hk,bC,aG,aG];exact⟨J,hn⟩
 have e1:Nat.ble (0+(repeatL z.cells n).length) N=true:=by rw[aG,hl];omega
 refine⟨_,?_,(s.put (o':=.cells N (cond (Nat.beq 0 0&&Nat.beq (repeatL z.cells n).length N) (repeatL z.cells n) ((cs++rest).take 0++(repeatL z.cells n++(cs++rest).drop (0+(repeatL z.cells n).length)))) false) (k:=0) rfl).drop⟩
 ·simp only[clearV,hu,hz,e0,ai,wrN,show h.tr.get id=_ from g,e1]
theorem OpR.clear {S':List aE}{cl:Go.Call}{m:V}(I:o.op=.call cl)(J:cl.callee=.builtin .clear)(hty:cl.argTypes = #[t])(ha:lookArgs E cl.args.toList=some [m])
 (ho:∃h₁,clearV C.P h t m=some h₁∧Sat h₁ S'): OpR C E h o fun _ h₁=>Sat h₁ S':=by
 obtain⟨h₁,e1,e2⟩:=ho
 refine OpR.builtin I J ha ⟨.aI [],h₁,?_,e2⟩<;>grind[builtinV]
section
variable {told:cE} {to:Nat} {dn:List (Nat×Nat)}
theorem Hj (I:W told){l:Nat}(s:Sat h (pt b (.cells 1 [.int .u64 (to:Int)] false)::S)): Call ⟨Tryz.prog,told⟩ 139 [.agg [.int .u64 (l:Int),.int .i64 (c:Int)],.ptr b 0] h fun v h'=>v=.bool (decide (l>to))∧Sat h' (pt b (.cells 1 [.int .u64 (to:Int)] false)::S):=by
 refine Call.of_wp (I.free _ rfl) Tryz.func139 rfl rfl (zg rfl (aq.bG s rfl rfl rfl (dc rfl rfl) ?_))
 intro J h s
 refine zk 4 rfl (zY s 0 S3 dD rfl (zy s 1 dD rfl (zo rfl (ak (r:=.bool (decide (l>to))) rfl rfl (fI.trans (by rw[show decide ((l:Int)>(to:Int))=decide (l>to) from by simp]))) ?_)))
 exact zk 2 rfl (WP.ret ⟨aa,_,rfl,rfl,s.drop⟩)
theorem TY (hT:W told)(hl:dn.length≤1000)(J:∀d∈dn,to<d.1)(s:Sat h (.arr 2 dv (kT dn)::pt b (.cells 1 [.int .u64 (to:Int)] false)::S)):
  Call ⟨Tryz.prog,told⟩ 199 [dv,.fn (.func 139) [] [.ptr b 0]] h fun v h'=>v=.int .i64 (if dn=[] then -1 else 0)∧Sat h' (.arr 2 dv (kT dn)::pt b (.cells 1 [.int .u64 (to:Int)] false)::S):=by
 refine Call.of_wp (hT.free _ rfl) Tryz.func199 rfl rfl (zK 8 rfl (zo rfl (aQ rfl rfl rfl (s.gF (n:=dn.length) (j:=0) rfl (jz _) (by decide) jM)) ?_))
 refine zk 2 rfl (WP.block (WP.loop (zg rfl ?_)))
 cases I:dn with
 |nil =>
  refine zC rfl aJ (by simp) ?_
  refine zk 3 rfl (WP.exit (zK 4 rfl (WP.ret ⟨aa,_,rfl,?_⟩)))
  subst I
  exact⟨rfl,s⟩
 |cons d l =>
  refine zB rfl aJ (by simp) ?_
  obtain⟨B_,off,e1,e2⟩:=s.G6 (P:=Tryz.prog) (i:=0) (k:=2) (by rw[jz,I,bq];omega) (by decide) jM qG EO
  rw[I,Di (i:=0) (d:=d) rfl] at e2
  refine zk 5 rfl (WP.block (zK 10 rfl (zo rfl (cu (r:=.ptr B_ off) rfl rfl e1) (zl rfl e2 (zc rfl (Hj hT (s.ae [1])) ?_)))))
  rintro v h ⟨hv,s⟩
  rw[ew (J d (by rw[I];exact dJ))] at hv
  subst hv
  exact zk 7 rfl (WP.ret ⟨aa,_,rfl,rfl,by rw[←I];exact s.ae [1]⟩)
noncomputable def dfL : Code:=c6 [1,1,1,0,1,0,0] ((Tryz.f138.body).getD .skip)
theorem OC (hT:W told)(hl:dn.length≤1000)(I:∀d∈dn,to<d.1)(hf:fv=.fn (.func 139) [] [.ptr b 0]): ∀(j i:Nat) (h:H) (E:List (Nat×V)) (Q:Ex→List (Nat×V)→H→Prop),i+j=dn.length →
  Sat h (.arr 2 dv (kT dn)::pt b (.cells 1 [.int .u64 (to:Int)] false)::S)→Has E [(0,dv),(1,fv),(5,.int .i64 0),(6,.int .i64 (i:Int))] →
  (∀E' h',Has E' [(0,dv),(5,.int .i64 0)]→Sat h' (.arr 2 dv (kT dn)::pt b (.cells 1 [.int .u64 (to:Int)] false)::S)→Q (.exit 0) E' h') →
  WP ⟨Tryz.prog,told⟩ 42 (.loop dfL) E h Q:=by
 subst hf
 intro j
 induction j with
 |zero =>
  intro i h E Q hi s J hq
  refine WP.loop (WP.has J (zK 5 rfl (zo rfl (aQ rfl rfl rfl (s.gF (n:=dn.length) (j:=0) rfl (jz _) (by decide) jM)) ?_)))
  refine zC rfl aJ (by simp;omega) ?_
  exact zk 2 rfl (WP.exit (hq _ _ ⟨rfl,rfl,aa⟩ s))
 |succ j ih =>
  intro i h E Q hi s J hq
  obtain⟨d,hd⟩:∃d,dn[i]?=some d:=⟨_,bp (by omega)⟩
  obtain⟨B_,off,e1,e2⟩:=s.G6 (P:=Tryz.prog) (i:=i) (k:=2) (by rw[jz];omega) (by decide) jM qG EO
  rw[Di hd] at e2
  refine WP.loop (WP.has J (zK 5 rfl (zo rfl (aQ rfl rfl rfl (s.gF (n:=dn.length) (j:=0) rfl (jz _) (by decide) jM)) ?_)))
  refine zB rfl aJ (by simp;omega) ?_
  refine zk 4 rfl (WP.block (zK 4 rfl (zo rfl (cu (r:=.ptr B_ off) rfl rfl e1) (zl rfl e2 ?_))))
  refine aq.bG s rfl rfl rfl (bM Bt) (fun p7 h s => ?_)
  dsimp only[V.cells,List.length_cons,List.length_nil,Nat.reduceAdd] at s
  refine zS rfl (s.fh (j:=0) rfl qG rfl rfl) ?_
  intro h s
  dsimp only[setA] at s
  refine zk 4 rfl (zl rfl (s.cy (k:=0) rfl EO qG) (zc rfl (Hj hT (l:=d.1) (c:=d.2) (s.ae [2])) ?_))
  rintro v h ⟨hv,s⟩
  rw[ew (I d (bI hd))] at hv
  subst hv
  refine zo rfl (dB rfl rfl) (zv (zj rfl (WP.skip (zr rfl (zm rfl (zo rfl (ak (r:=.int .i64 ((i+1:Nat):Int)) rfl rfl (by rw[show((i+1:Nat):Int)=(i:Int)+1 by omega];exact aR (ax (by omega) (by omega)))) ?_))))))
  refine za rfl (zv ?_)
  exact ih (i+1) _ _ Q (by omega) ((s.ae [2,0]).del 2) ⟨rfl,rfl,rfl,rfl,aa⟩ hq
theorem TZ (hT:W told)(hl:dn.length≤1000)(J:∀d∈dn,to<d.1)(s:Sat h (.arr 2 dv (kT dn)::pt b (.cells 1 [.int .u64 (to:Int)] false)::S)):
  Call ⟨Tryz.prog,told⟩ 138 [dv,.fn (.func 139) [] [.ptr b 0]] h fun v h'=>v.cells=[v]∧storable v=true∧Sat h' (pt b (.cells 1 [.int .u64 (to:Int)] false)::S):=by
 have Zv:=s.iU (j:=0) rfl
 refine Call.of_wp (hT.free _ rfl) Tryz.func138 rfl rfl (zK 8 rfl (zc rfl (TY hT hl J s) ?_))
 rintro v h ⟨rfl,s⟩
 by_cases h0:dn=[]
 ·rw[aF h0]
  refine zk 6 rfl (zB rfl c4 (by simp) ?_)
  exact zk 7 rfl (WP.ret ⟨aa,_,rfl,Zv.1,Zv.2.1,s.drop⟩)
 ·rw[ay h0]
  have h1:1≤dn.length:=List.length_pos_iff.2 h0
  refine zk 6 rfl (zC rfl c4 (by simp) ?_)
  refine zk 7 rfl (zb rfl (by exact aR (ax (by omega) (by omega))) ?_)
  refine zk 2 rfl (WP.block (OC hT hl J rfl (dn.length-1) 1 _ _ _ (by omega) s ⟨rfl,rfl,rfl,rfl,aa⟩ fun E' h' eF s' => ?_))
  have s:=s'
  refine WP.has eF ?_
  have I:1≤(kT dn).length:=by rw[jz];omega
  have am:=s.PF (j:=0) rfl (FK _ _ _)
  have ez:=Wu am
  refine zK 4 rfl (zo rfl (cf (p:=some (.int .i64 0)) (q:=none) (m:=none) (p':=some 0) (q':=none) (m':=none) rfl rfl rfl rfl rfl rfl rfl (Ed (P:=Tryz.prog) am (by decide) I jM qG).1) ?_)
  refine aq.iR rfl rfl (OpR.clear rfl rfl rfl rfl (OB s (fun e=>by rw[e] at I;simp at I) jM Bt rfl (by decide))) ?_
  intro _ h s
  refine zk 5 rfl (zo rfl (cf (p:=none) (q:=some (.int .i64 0)) (m:=none) (p':=none) (q':=some 0) (m':=none) rfl rfl rfl rfl rfl rfl rfl (Ed (P:=Tryz.prog) am (by decide) I jM qG).2) ?_)
  exact zk 2 rfl (WP.ret ⟨aa,_,rfl,ez.1,ez.2,s⟩)
end
structure WT (told:cE): Prop where
 wr:WR told
 wk:WK told
 rc:told 136=some (iN Tryz.prog 136 (tI 136))
 und:told 159=some (iN Tryz.prog 159 (tI 159))
section
variable {told:cE} {p m l:Nat} {cell:List Nat} {cs:List cr}
theorem Ab (J:W told){g:FuncId}{first cap:List V}{R:V→H→Prop}(he:e≠7)(hc:Call ⟨Tryz.prog,told⟩ g (first++cap) h R)(hR:∀v h',R v h'→v=.int .i64 e):
  Call ⟨Tryz.prog,told⟩ 137 [.ptr m 0,.fn (.func g) first cap] h R:=by
 refine Call.of_wp (J.free _ rfl) Tryz.func137 rfl rfl (zK 7 rfl (zc rfl (hc) ?_))
 rintro v h' I
 have hr:=I
 obtain rfl:=hR _ _ I
 refine zk 6 rfl (zB rfl aA (by simp;exact he) ?_)
 exact zk 7 rfl (WP.ret ⟨aa,_,rfl,hr⟩)
theorem T0 (hT:WT told)(hB:B≤900)(hI:TxI N B M ba ck mk rs ε)(AL:1≤ba)(mD:ba+szB rs≤1000000)(hN:N≤1024)(je:id<2097152)(hl:l<2097152)(hf:szB rs+560≤M)(hp:fN N n k cell (pgA ε))(hi:i<50)(lV:dn<18446744073709551616)
 (J:rs=fC++⟨1,tx,pv,0,i::le 8 dn,cs⟩::nV)(qw:pv<ba+szB fC)
 (s:Sat h (pt m (.cells 4 [.ptr a 0,iJ c,av,.int .u64 (nx:Int)] false)::pt rr (.cells 7 (kH id f l (ba+szB fC) mv dv xP) false)::SA a p q r .a_ data aH ε::S)):
  Call ⟨Tryz.prog,told⟩ 87 [.ptr m 0,.ptr rr 0] h fun v h'=>v=.int .i64 0∧∃c' ah,fN N n k (kA cell i ((dw cell i+pF dn)%18446744073709551616)) (pgA ah) ∧
   (dG.mk 2 id l pv [] c').len≤560∧TxI N (B+2) M ba ck mk (rs++[⟨2,id,l,pv,[],c'⟩]) ah ∧
   Sat h' (pt m (.cells 4 [.ptr a 0,iJ c,av,.int .u64 (nx:Int)] false)::pt rr (.cells 7 (kH id f (ba+szB rs) pv mv dv xP) false)::SA a p q r .a_ data aH ah::S):=by
 have hW:=hT.wr.w
 have ej:szB fC≤szB rs:=by rw[J,iF];omega
 have BK:ε.2.1.Ok:=hI.ei.ok.ok.lg
 refine Call.of_wp (hW.free _ rfl) Tryz.func87 rfl rfl (zg rfl (aq.bG s rfl rfl rfl (dc rfl rfl) ?_))
 intro p2 h s
 dsimp only[V.cells,List.length_cons,List.length_nil,Nat.reduceAdd,kH] at s
 refine aq.bG s rfl rfl rfl (dc rfl rfl) ?_
 intro p3 h s
 dsimp only[Nat.reduceAdd,V.cells,List.length_cons,List.length_nil] at s
 have s:=aZ.1 (s.ae [4])
 dsimp only[aC,bringA,List.cons_append,List.nil_append] at s
 refine za rfl (zv (zw ?_))
 have s0:=s
 refine WP.drawn [af,af,af,af,af,some (0,2),some (0,2),some (0,2),some (0,2),none,some (2,2),some (2,2),some (2,3),some (2,3),af,af,af,af] rfl (by kernel_rfl) (by kernel_rfl) ?_
 refine zL rfl (by exact s.ld (k:=5) rfl lR rfl) ?_
 refine zN rfl (zF rfl (oY _ _) (zL rfl (by exact s.ld (k:=6) rfl m6 rfl) ?_))
 refine az.any rfl rfl rfl rfl (OpR.call rfl rfl rfl rfl (yS hW s)) ?_
 rintro v h' ⟨rfl,rfl⟩
 refine zL rfl (by exact s.ld (k:=4) rfl mj rfl) ?_
 refine zN rfl (zF rfl (oZ _ _) (zL rfl (by exact s.ld (k:=7) rfl dD rfl) ?_))
 refine az.any rfl rfl rfl rfl (OpR.call rfl rfl rfl rfl (Hh hT.wr (fC:=fC) (nV:=nV) (y:=⟨1,tx,pv,0,i::le 8 dn,cs⟩) (by rw[←J];exact hI.lr) BK (s.ae [2]))) ?_
 rintro v h ⟨dt,ch,cs',rfl,s⟩
 dsimp only at s
 have ji:=(s.buf (k:=1) rfl).view.cells
 have mP:=s.iU (j:=2) rfl
 have Zw:∀(k:IntKind) (z:Int),V.beq (.int k z) (.int k z)=true:=fun k z=>aN _ rfl
 have I:V.beq (.agg (c5 (1:Nat) tx pv 0 dt ch)) (.agg (c5 (1:Nat) tx pv 0 dt ch))=true:=by
  show V.beqL (c5 (1:Nat) tx pv 0 dt ch) (c5 (1:Nat) tx pv 0 dt ch)=true
  unfold c5
  simp only[V.beqL,Zw,eN (s.buf (k:=1) rfl).view,mP.2.2,ai]
 have aau:∀ {z w:Int},V.beq (.aI [.agg (c5 (1:Nat) tx pv 0 dt ch),.int .u64 z,.int .i64 w]) (.aI [.agg (c5 (1:Nat) tx pv 0 dt ch),.int .u64 z,.int .i64 w])=true:=by
  intro z w
  show V.beqL _ _=true
  simp only[V.beqL,I,Zw,ai]
 have gB:(V.agg (c5 (1:Nat) tx pv 0 dt ch)).cells.all storable=true:=kq ji.2 mP.2.1
 dsimp only[aC,bringA] at s
 refine zM rfl (zO rfl (dV rfl rfl) (zO rfl (dV rfl rfl) (zO rfl (dV rfl rfl) (az.any rfl rfl rfl rfl (OpR.bG s (bM oh)) ?_))))
 rintro v h ⟨p5,rfl,s⟩
 dsimp only[V.cells,List.length_cons,List.length_nil,Nat.reduceAdd] at s
 refine az.iR rfl rfl rfl (OpR.uC rfl rfl rfl (s.fh (j:=0) rfl eD rfl gB)) ?_
 rintro w h ⟨rfl,s⟩
 dsimp only[c5,setA] at s
 refine zA rfl (zA rfl ?_)
 refine az.nil ⟨⟨aa,aa,aa,aa,aa,dW (.inr ⟨rfl,⟨_,aP rfl (by exact s0.ld (k:=4) rfl mj rfl)⟩,aN _ rfl⟩) (.inr ⟨rfl,⟨_,aP rfl (by exact s0.ld (k:=4) rfl mj rfl)⟩,aN _ rfl⟩),fun _ _=>.inr ⟨rfl,⟨_,lF rfl⟩,aN _ rfl⟩,fun _ _=>.inr ⟨rfl,⟨_,jr rfl (oZ _ _)⟩,aN _ rfl⟩,dW (.inr ⟨rfl,⟨_,aP rfl (by exact s0.ld (k:=7) rfl dD rfl)⟩,aN _ rfl⟩) (.inr ⟨rfl,⟨_,aP rfl (by exact s0.ld (k:=7) rfl dD rfl)⟩,aN _ rfl⟩),aa,fun _ _=>.inr ⟨rfl,⟨_,bf rfl⟩,aau⟩,fun _ _=>.inr ⟨rfl,⟨_,dV rfl rfl⟩,I⟩,fun _ _=>.inr ⟨rfl,⟨_,dV rfl rfl⟩,aN _ rfl⟩,fun _ _=>.inr ⟨rfl,⟨_,dV rfl rfl⟩,aN _ rfl⟩,aa,aa,aa,aa,aa⟩,?_⟩
 have s:=s.ae [9,0,7,7,7]
 dsimp only[bringA,getA,aC] at s
 refine zw (zg rfl (zm rfl (aq.lG rfl rfl rfl (ak rfl rfl aA) (rfl) (zv (zj rfl (WP.skip (zg rfl (zf rfl (CX _ _) (zl rfl (by exact s.ld (k:=1) rfl dD rfl) ?_)))))))))
 refine aq.bG s rfl rfl rfl (bM ZY) ?_
 intro p8 h s
 dsimp only[V.cells,List.length_cons,List.length_nil,Nat.reduceAdd] at s
 refine aq.uC rfl rfl rfl rfl rfl (by exact s.dL (k:=0) rfl od rfl (by decide) rfl rfl) (fun h s => ?_)
 dsimp only[List.set,setA] at s
 refine zv (zw (zg rfl (zf rfl (nG _ _) (zl rfl (by exact s.ld (k:=2) rfl ep rfl) ?_))))
 refine aq.lG rfl rfl rfl (ak rfl rfl c4) (rfl) (zv (zj rfl (WP.skip (zw (zw ?_)))))
 have s0:=s
 refine WP.drawn [af,af,af,af,af,af] rfl (by kernel_rfl) (by kernel_rfl) ?_
 refine zL rfl (by exact s.ld (k:=0) rfl dD rfl) ?_
 refine zL rfl (by exact s.ld (k:=3) rfl mj rfl) ?_
 refine zN rfl (zF rfl (oZ _ _) (zL rfl (by exact s.ld (k:=5) rfl dD rfl) ?_))
 refine az.lG rfl rfl rfl rfl (ak rfl rfl jQ) (by simp;omega) ?_
 refine az.nil ⟨⟨aa,aa,aa,aa,aa,aa,aa⟩,?_⟩
 refine zj rfl (WP.skip (zw (zg rfl (zf rfl (nG _ _) (zl rfl (by exact s.ld (k:=2) rfl ep rfl) ?_)))))
 refine aq.lG rfl rfl rfl (ak rfl rfl c4) (rfl) (zm rfl (zf rfl (yB _ _) (zl rfl (by exact s.ld (k:=2) rfl bX rfl) ?_)))
 refine zo rfl (aQ rfl rfl rfl (bh aM (s.aD (k:=7) rfl (aU _ _)))) (aq.lG rfl rfl rfl (ak rfl rfl c4) (by rw[bq,cF];rfl) ?_)
 refine zp rfl (zv (zj rfl (WP.skip (zg rfl (zl rfl (by exact s.ld (k:=1) rfl lR rfl) ?_)))))
 refine zo rfl (vn rfl rfl) ?_
 have s:=s.ae [10,10,6,9]
 dsimp only[bringA,getA,aC] at s
 have s:Sat h (SA a p q r .a_ data aH ε::_):=aZ.2 s
 have s:=s.ae [2,2,2,1,1,1,0,0]
 dsimp only[bringA,getA,aC] at s
 refine aq.call rfl rfl rfl rfl rfl rfl rfl (Ab (e:=0) hW (by decide) (Call.defer hT.und GY rfl (Q6 hB hI (by omega) hN je hl (show pv<2097152 by omega) hf hp hi lV s (aU _ _))) (fun v h' hv=>hv.choose_spec.choose_spec.1)) ?_
 rintro v h ⟨c',ah,rfl,uV,hlen,jd,s⟩
 refine za rfl (zv ?_)
 refine WP.ret ⟨aa,_,rfl,?_⟩
 exact⟨rfl,c',ah,uV,hlen,jd,((s.ae [4,4,4]).del 9 |>.del 8 |>.del 7 |>.del 6 |>.del 5 |>.del 4 |>.del 3)⟩
end
inductive qq (ba:Nat)(rs:List dG): Nat→List (Nat×Nat)→Prop where
 |nil:qq ba rs 0 []
 |cons {fC nV:List dG} {tx pv i dn:Nat} {cs:List cr} {l:List (Nat×Nat)} (h:rs=fC++⟨1,tx,pv,0,i::le 8 dn,cs⟩::nV) (hp:pv<ba+szB fC) (hi:i<50) (hd:dn<18446744073709551616) (hl:qq ba rs pv l):qq ba rs (ba+szB fC) ((i,dn)::l)
theorem qq.more {l:List (Nat×Nat)}(h:qq ba rs aB l): qq ba (rs++eL) aB l:=by
 induction h with
 |nil=>exact .nil
 |cons h I hi hd hl J=>exact .cons (by rw[h,cX];rfl) I hi hd J
def offC (cell:List Nat): List (Nat×Nat)→List Nat
 |[]=>cell
 |x::l=>offC (kA cell x.1 ((dw cell x.1+pF x.2)%18446744073709551616)) l
theorem lq (r:dG): szB [r]=r.len:=by simp[szB]
section
variable {told:cE} {p m:Nat}
noncomputable def bkL : Code:=c6 [1,0,0,0] ((Tryz.f73.body).getD .skip)
theorem OD (hT:WT told)(AL:1≤ba)(hN:N≤1024)(je:id<2097152){l:List (Nat×Nat)}: ∀(jj dF B:Nat) (rs:List dG) (ε:bA) (cell:List Nat) (h:H) (E:List (Nat×V)) (Q:Ex→List (Nat×V)→H→Prop),qq ba rs jj l→fN N n k cell (pgA ε)→TxI N B M ba ck mk rs ε→B+2*l.length≤900 →
  ba+szB rs+560*l.length≤1000000→szB rs+560*l.length≤M→dF≤ba+szB rs→jj≤ba+szB rs →
  Sat h (pt b (.cells 1 [.int .u64 0] false)::pt m (.cells 4 [.ptr a 0,iJ c,av,.int .u64 (nx:Int)] false)::pt rr (.cells 7 (kH id f dF jj mv dv xP) false)::SA a p q r .a_ data aH ε::S) →
  Has E [(0,.ptr m 0),(1,.ptr rr 0),(5,.ptr b 0)] →
  (∀E' h' eL ah I,fN N n k (offC cell l) (pgA ah)→szB eL≤560*l.length→TxI N (B+2*l.length) M ba ck mk (rs++eL) ah→I≤ba+szB (rs++eL)→(I=0↔dF=0∧l=[])→Has E' [(0,.ptr m 0),(1,.ptr rr 0),(5,.ptr b 0)] →
   Sat h' (pt b (.cells 1 [.int .u64 0] false)::pt m (.cells 4 [.ptr a 0,iJ c,av,.int .u64 (nx:Int)] false)::pt rr (.cells 7 (kH id f I 0 mv dv xP) false)::SA a p q r .a_ data aH ah::S)→Q (.exit 0) E' h') →
  WP ⟨Tryz.prog,told⟩ 29 (.loop bkL) E h Q:=by
 have hW:=hT.wr.w
 induction l with
 |nil =>
  intro jj dF B rs ε cell h E Q hc hp hI hB mD hM J Hl s hE hq
  cases hc
  have s0:=s
  refine WP.loop (WP.has hE (zK 2 rfl (WP.drawn [af,af,af,af,af,af] rfl (by kernel_rfl) (by kernel_rfl) ?_)))
  refine zM rfl (zN rfl (zF rfl (oZ _ _) (zL rfl (s.ld (k:=2) rfl dD rfl) (zL rfl (s.ld (k:=0) rfl dD rfl) (az.lG rfl rfl rfl rfl (ak rfl rfl fI) (by simp) ?_)))))
  refine az.nil ⟨⟨aa,aa,aa,aa,aa,aa,aa⟩,?_⟩
  exact zj rfl (WP.exit (hq _ _ [] ε dF hp (by decide) (by rw[iw];exact hI) (by rw[iw];exact J) (by simp) ⟨rfl,rfl,rfl,aa⟩ s))
 |cons x l ih =>
  intro jj dF B rs ε cell h E Q hc hp hI hB mD hM J Hl s hE hq
  cases hc with
  |@cons fC nV tx pv i dn cs _ h1 h2 h3 h4 h5 =>
  have s0:=s
  simp only[bq] at hB mD hM
  have k1:B≤900:=by omega
  have k2:ba+szB rs≤1000000:=by omega
  have k3:dF<2097152:=by omega
  have k5:560≤560*(l.length+1):=Nat.le_mul_of_pos_right _ (Nat.succ_pos _)
  have k4:szB rs+560≤M:=b9 (tS k5 _) hM
  refine WP.loop (WP.has hE (zK 2 rfl (WP.drawn [af,af,af,af,af,af] rfl (by kernel_rfl) (by kernel_rfl) ?_)))
  refine zM rfl (zN rfl (zF rfl (oZ _ _) (zL rfl (s.ld (k:=2) rfl dD rfl) (zL rfl (s.ld (k:=0) rfl dD rfl) (az.w6 rfl rfl rfl rfl (ak rfl rfl fI) (by simp;omega) ?_)))))
  refine az.nil ⟨⟨aa,aa,aa,aa,aa,aa,aa⟩,?_⟩
  refine zK 2 rfl (WP.block (zK 4 rfl (zc rfl (T0 hT k1 hI AL k2 hN je k3 k4 hp h3 h4 h1 h2 (s.ae [1,1,1])) ?_)))
  rintro v h ⟨rfl,c',ah,uV,hlen,jd,s⟩
  have ej:szB (rs++[⟨2,id,dF,pv,[],c'⟩])=szB rs+(dG.mk 2 id dF pv [] c').len:=by rw[iF,lq]
  refine za rfl (zv (zg rfl (zm rfl (zh rfl (ak rfl rfl aA) (rfl) (zv (zj rfl (WP.skip ?_)))))))
  exact ih pv (ba+szB rs) (B+2) (rs++[⟨2,id,dF,pv,[],c'⟩]) ah _ _ _ Q h5.more uV jd (by omega) (by omega) (by omega) (by omega) (by omega) (s.ae [3]) ⟨rfl,rfl,rfl,aa⟩ fun E' h' eL ah I g1 g2 g3 g4 g5 g6 g7 =>
   hq E' h' ([⟨2,id,dF,pv,[],c'⟩]++eL) ah I g1 (by rw[iF];simp only[bq];rw[lq];omega) (by rw[←cX,bq,show B+2*(l.length+1)=B+2+2*l.length by omega];exact g3)
    (by rw[←cX];exact g4) (by rw[g5];constructor<;>simp;omega) g6 g7
end
theorem Ee : ∀ {L:sB} {i:Nat},L[i]?=some (id,rr,A)→((L.map fun e=>((e.1:Int),e.2.1)).map (·.1)).Nodup→ko (id:Int) (L.map fun e=>((e.1:Int),e.2.1))=(L.eraseIdx i).map fun e=>((e.1:Int),e.2.1):=by
 intro L
 induction L with
 |nil=>intro i h;simp at h
 |cons y L J =>
  intro i h I
  simp only[ey,Cx] at I
  cases i with
  |zero=>simp at h;subst h;simp[ko]
  |succ i =>
   have h:L[i]?=some (id,rr,A):=by simpa using h
   have hm:(id:Int)∈(L.map fun e=>((e.1:Int),e.2.1)).map (·.1):=by
    rw[List.map_map];exact List.mem_map.2 ⟨_,bI h,rfl⟩
   simp only[ey,ko,List.eraseIdx_cons_succ]
   rw[ay (fun e=>I.1 (by rw[e];exact hm)),J h I.2]
section
variable {told:cE} {p m l:Nat} {cell:List Nat}
theorem TxI.force {x:Nat}(I:TxI N B M ba ck mk rs ε): (bF ε.2 x).1=0∧TxI N B M ba ck mk rs (ε.1,(bF ε.2 x).2)∧∀m,pgA (ε.1,(bF ε.2 x).2) m=pgA ε m:=by
 obtain⟨J,h2,h3⟩:=I.ei.force (n:=x)
 exact⟨J,⟨h2,(uX ba ck mk rs).force _ _ I.lr,by have:=((lY ε.2.2.log.length ε.2.2.room).force ε.2 x ⟨rfl,rfl⟩).2;rw[this];exact I.rm,I.ft⟩,h3⟩
theorem Lw (J:W told){x:Nat}{op:V}(I:TxI N B M ba ck mk rs ε)(s:Sat h (SA a p q r op data aH ε::S)):
  Call ⟨Tryz.prog,told⟩ 42 [.ptr a 0,.int .u64 (x:Int)] h fun v h'=>v=.int .i64 0∧∃ah,TxI N B M ba ck mk rs ah∧(∀m,pgA ah m=pgA ε m)∧Sat h' (SA a p q r op data aH ah::S):=by
 have s:=aZ.1 s
 have s:Sat h (c8 a p q r op data aH::dM r p q ε.1::bQ q p ε.2.1::bw p ε.2.2::S):=s
 have V8:=I.lr.bH
 obtain⟨h1,h2,h3⟩:=I.force (x:=x)
 refine(NC J (n:=x) (s.ae [0,1,1]) I.ei.ok.ok.lg (by omega)).mono ?_
 rintro v h ⟨rfl,s⟩
 have s:Sat h (SA a p q r op data aH (ε.1,(bF ε.2 x).2)::S):=aZ.2 (s.ae [0,2,0,0])
 exact⟨by rw[show(ε.2.1,ε.2.2)=ε.2 from rfl,h1],_,h2,h3,s⟩
theorem T1 (hT:WT told)(J:1≤ba)(hN:N≤1024)(je:id<2097152){dn l:List (Nat×Nat)}{dF:Nat}(hc:qq ba rs jj l)(hp:fN N n k cell (pgA ε))(hI:TxI N B M ba ck mk rs ε)(hB:B+2*l.length≤900)
 (mD:ba+szB rs+560*l.length≤1000000)(hM:szB rs+560*l.length≤M)(qp:dF≤ba+szB rs)(Hl:jj≤ba+szB rs)(v7:dn.length≤1000)(Wv:∀d∈dn,0<d.1)
 (s:Sat h (pt m (.cells 4 [.ptr a 0,iJ c,av,.int .u64 (nx:Int)] false)::pt rr (.cells 7 (kH id f dF jj mv dv xP) false)::SA a p q r .a_ data aH ε::.arr 2 dv (kT dn)::S)):
  Call ⟨Tryz.prog,told⟩ 73 [.ptr m 0,.ptr rr 0,.int .u64 0] h fun v h'=>v=.int .i64 0∧∃eL ah I dv',fN N n k (offC cell l) (pgA ah)∧szB eL≤560*l.length∧TxI N (B+2*l.length) M ba ck mk (rs++eL) ah∧I≤ba+szB (rs++eL)∧(I=0↔dF=0∧l=[]) ∧
   Sat h' (pt m (.cells 4 [.ptr a 0,iJ c,av,.int .u64 (nx:Int)] false)::pt rr (.cells 7 (kH id f I 0 mv dv' xP) false)::SA a p q r .a_ data aH ah::S):=by
 have hW:=hT.wr.w
 refine Call.of_wp (hW.free _ rfl) Tryz.func73 rfl rfl (zg rfl (aq.bG s rfl rfl rfl (dc rfl rfl) ?_))
 intro b h s
 refine zk 3 rfl (WP.block (OD hT J hN je jj dF B rs ε cell _ _ _ hc hp hI hB mD hM qp Hl s ⟨rfl,rfl,rfl,aa⟩ fun E' h' eL ah I g1 g2 g3 g4 g5 eF s' => ?_))
 have s:=s'
 refine WP.has eF (zK 5 rfl (zY s 2 o5 Br rfl (zo rfl (vn rfl rfl) ?_)))
 have s:=s.ae [4,0]
 refine zc rfl (TZ (to:=0) hW v7 Wv s) ?_
 rintro v h ⟨F6,sU,s⟩
 refine zn rfl (zf rfl (o5 _ _) (zS rfl (s.dL (k:=2) rfl RQ rfl (show 0+5<7 by decide) F6 sU) ?_))
 intro h s
 exact zk 5 rfl (WP.ret ⟨aa,_,rfl,rfl,eL,ah,I,v,g1,g2,g3,g4,g5,s.drop⟩)
theorem Q7 (hT:WT told)(hB:B≤900)(hI:TxI N B M ba ck mk rs ε)(mD:ba+szB rs≤1000000)(hN:N≤1024)(je:id<2097152)(hl:l<2097152)(hf:szB rs+40≤M){kd b0 b1 b2:Nat}(vR:3≤kd)(DW:kd≤4)
 (s:Sat h (pt b0 (.cells 1 [.ptr m 0] false)::pt b1 (.cells 1 [.int .i64 (kd:Int)] false)::pt b2 (.cells 1 [.ptr rr 0] false)::pt m (.cells 4 [.ptr a 0,u,av,.int .u64 (nx:Int)] false)::pt rr (.cells 7 (kH id f l jj mv dv xP) false)::SA a p q r .a_ data aH ε::S)):
  Call ⟨Tryz.prog,told⟩ 135 [.ptr b0 0,.ptr b1 0,.ptr b2 0] h fun v h'=>v=.int .i64 0∧∃c' ah,(∀m,pgA ah m=pgA ε m)∧(dG.mk kd id l 0 [] c').len≤40∧TxI N (B+2) M ba ck mk (rs++[⟨kd,id,l,0,[],c'⟩]) ah ∧
   Sat h' (pt b0 (.cells 1 [.ptr m 0] false)::pt b1 (.cells 1 [.int .i64 (kd:Int)] false)::pt b2 (.cells 1 [.ptr rr 0] false)::pt m (.cells 4 [.ptr a 0,u,av,.int .u64 (nx:Int)] false)::pt rr (.cells 7 (kH id f l jj mv dv xP) false)::SA a p q r .a_ data aH ah::S):=by
 have hW:=hT.wr.w
 refine Call.of_wp (hW.free _ rfl) Tryz.func135 rfl rfl (zK 5 rfl (WP.drawn [af,af,af,af,af,af,af,af,af,af,af,af,af,af,af,af,af] rfl (by kernel_rfl) (by kernel_rfl) ?_))
 refine zL rfl (s.ld (k:=0) rfl lR rfl) (zL rfl (s.ld (k:=1) rfl ep rfl) (zL rfl (s.ld (k:=2) rfl mj rfl) (zN rfl (zF rfl (yF _ _) (zL rfl (s.ld (k:=4) rfl dD rfl) (zL rfl (s.ld (k:=2) rfl mj rfl) (zN rfl (zF rfl (rq _ _) (zL rfl (s.ld (k:=4) rfl dD rfl) (zO rfl (b_ (r:=.agg (c5 (kd:Int) id l 0 .aO .aO)) rfl (by rw[sS];rfl)) ?_))))))))))
 have s:=s.ae [3,4]
 refine az.any rfl rfl rfl rfl (OpR.call rfl rfl rfl rfl (Call.defer hT.rc GX rfl (Oy hB hI (by omega) hN (show 1≤kd by omega) (by omega) je hl hf s))) ?_
 rintro v h ⟨c',ah,rfl,I,hlen,J,s⟩
 refine zM rfl (zO rfl (dV rfl rfl) (zO rfl (dV rfl rfl) (zA rfl (zA rfl ?_))))
 refine az.nil ⟨⟨aa,aa,aa,aa,aa,aa,aa,aa,aa,aa,aa,aa,aa,aa,aa,aa,aa,aa⟩,?_⟩
 have s:=s.ae [2,2,2,0,1,0]
 refine zK 4 rfl (zB rfl c4 (rfl) (zm rfl (zy s 1 ep rfl ?_)))
 by_cases hk:kd=3
 ·skip
  refine zB rfl c4 (by simp[hk]) ?_
  refine zk 4 rfl (zy s 0 lR rfl (zn rfl (zY s 3 oY m6 rfl (zm rfl (zc rfl (Lw hW (x:=ba+szB rs) J (s.ae [5])) ?_)))))
  rintro v h ⟨rfl,oH,kE,Ho,s⟩
  exact zk 7 rfl (WP.ret ⟨aa,_,rfl,rfl,c',oH,fun m=>by rw[Ho,I],hlen,kE,s.ae [1,1,1,1,1,0]⟩)
 ·skip
  refine zC rfl c4 (by simp;omega) ?_
  exact zk 9 rfl (WP.ret ⟨aa,_,rfl,rfl,c',ah,I,hlen,J,s⟩)
theorem JN (hT:WT told)(hB:B≤900)(I:TxI N B M ba ck mk rs ε)(J:ba+szB rs≤1000000)(hN:N≤1024)(je:id<2097152)(hl:l<2097152)(hf:szB rs+40≤M){kd:Nat}(vR:3≤kd)(DW:kd≤4){F:V→Nat→aE}{m0:List (Int×Nat)}
 (s:Sat h (pt m (.cells 4 [.ptr a 0,u,av,.int .u64 (nx:Int)] false)::pt rr (.cells 7 (kH id f l jj mv dv xP) false)::js .u64 F av m0::SA a p q r .a_ data aH ε::S)):
  Call ⟨Tryz.prog,told⟩ 72 [.ptr m 0,.ptr rr 0,.int .i64 (kd:Int)] h fun v h'=>v=.int .i64 0∧∃eL ah,(∀m,pgA ah m=pgA ε m)∧szB eL≤40∧TxI N (B+2) M ba ck mk (rs++eL) ah ∧
   Sat h' (pt m (.cells 4 [.ptr a 0,u,av,.int .u64 (nx:Int)] false)::js .u64 F av (ko (id:Int) m0)::SA a p q r .a_ data aH ah::S):=by
 have hW:=hT.wr.w
 refine Call.of_wp (hW.free _ rfl) Tryz.func72 rfl rfl (zg rfl (aq.bG s rfl rfl rfl (dc rfl rfl) ?_))
 intro b0 h s
 refine aq.bG s rfl rfl rfl (dc rfl rfl) ?_
 intro b2 h s
 refine aq.bG s rfl rfl rfl (dc rfl rfl) ?_
 intro b1 h s
 have s:=s.ae [2,0,0]
 refine zk 5 rfl (zy s 2 mj rfl (zn rfl (zY s 4 rq dD rfl ?_)))
 by_cases vX:l=0
 ·skip
  refine zB rfl c4 (by simp[vX]) ?_
  refine zk 3 rfl (WP.drawn [af,af,af,af,af,af,af,af,af] rfl (by kernel_rfl) (by kernel_rfl) ?_)
  refine zL rfl (s.ld (k:=0) rfl lR rfl) (zN rfl (zF rfl (mh _ _) (zL rfl (s.ld (k:=3) rfl pL rfl) (zL rfl (s.ld (k:=2) rfl mj rfl) (zN rfl (zF rfl (yF _ _) (zL rfl (s.ld (k:=4) rfl dD rfl) (az.iR rfl rfl rfl (OpR.delete rfl rfl rfl rfl (Ap (n:=(id:Int)) (s.ae [5]) sy bN)) ?_))))))))
  intro _ h s
  refine az.nil ⟨⟨aa,aa,aa,aa,aa,aa,aa,aa,aa,aa⟩,?_⟩
  exact zK 4 rfl (WP.ret ⟨aa,_,rfl,rfl,[],ε,fun _=>rfl,by decide,by rw[iw];exact⟨I.ei.more (by omega),I.lr,I.rm,I.ft⟩,((s.ae [4,0,4]).del 6 |>.del 5 |>.del 4 |>.del 3)⟩)
 ·skip
  refine zC rfl c4 (by simp;omega) ?_
  refine zk 5 rfl (zo rfl (vn rfl rfl) (zk 5 rfl (zy s 0 lR rfl (zm rfl ?_))))
  have s:=s.ae [0,0,0,0,0,1]
  refine zc rfl (Ab (e:=0) hW (by decide) (Q7 hT hB I J hN je hl hf vR DW s) (fun v h' hv=>hv.1)) ?_
  rintro v h ⟨rfl,c',ah,gd,hlen,jd,s⟩
  refine zk 5 rfl (zC rfl aA (rfl) (zk 4 rfl ?_))
  have s:=s.ae [6]
  refine WP.drawn [af,af,af,af,af,af,af,af,af] rfl (by kernel_rfl) (by kernel_rfl) ?_
  refine zL rfl (s.ld (k:=1) rfl lR rfl) (zN rfl (zF rfl (mh _ _) (zL rfl (s.ld (k:=4) rfl pL rfl) (zL rfl (s.ld (k:=3) rfl mj rfl) (zN rfl (zF rfl (yF _ _) (zL rfl (s.ld (k:=5) rfl dD rfl) (az.iR rfl rfl rfl (OpR.delete rfl rfl rfl rfl (Ap (n:=(id:Int)) s sy bN)) ?_))))))))
  intro _ h s
  refine az.nil ⟨⟨aa,aa,aa,aa,aa,aa,aa,aa,aa,aa⟩,?_⟩
  exact zK 4 rfl (WP.ret ⟨aa,_,rfl,rfl,_,ah,gd,by rw[lq];exact hlen,jd,((s.ae [4,0,4]).del 6 |>.del 5 |>.del 4 |>.del 3)⟩)
end
theorem Q8 {k:Int}{x:α}: ∀ {l:List (Int×α)},(∀e∈l,e.1≠k)→cN k x l=l++[(k,x)]:=by
 intro l
 induction l with
 |nil=>intro _;rfl
 |cons y l I =>
  intro h
  simp only[cN]
  rw[ay (h y dJ),I fun e he=>h e (dh _ he)];rfl
section
variable {told:cE} {p m:Nat} {cell:List Nat}
theorem xR (hx:L[i]?=some (id,rr,A))(s:Sat h (js .u64 (fun v (r:Nat)=>.pu (v=.ptr r 0)) av (L.map fun e=>((e.1:Int),e.2.1))::S)):
  dK Tryz.prog h 142 av (.int .u64 (id:Int)) false=some (.ptr rr 0)∧((L.map fun e=>((e.1:Int),e.2.1)).map (·.1)).Nodup:=by
 obtain⟨cR,es,clock,e0,hb,I,_⟩:=fR.1 s
 have J:=He hx I
 rcases jI (n:=(id:Int)) (fun _ _=>aX.pu _) s sy bN RP with⟨g1,_⟩|⟨uu,y,g1,g2,g3,s'⟩
 ·rw[J] at g1;cases g1
 ·obtain⟨eu,_⟩:=mL.1 s'
  rw[J] at g1
  obtain rfl:=cx g1
  exact⟨by rw[g3,eu],I⟩
theorem AM (hT:W told)(qx:nx≤1000000)(J:∀x∈L,x.1<nx)(s:Sat h (gV m a nx u L::S)):
  Call ⟨Tryz.prog,told⟩ 25 [.ptr m 0] h fun v h'=>v=.aI [.int .u64 (nx:Int),.int .i64 0]∧∃rr,Sat h' (gV m a (nx+1) u (L++[(nx,rr,⟨0,0,0,[],[],[]⟩)])::S):=by
 obtain⟨av,s⟩:=fL.1 s
 refine Call.of_wp (hT.free _ rfl) Tryz.func25 rfl rfl (zK 9 rfl (zY s 0 C1 dD rfl (zk 6 rfl (zY s 0 C1 dD rfl (zo rfl (ak (r:=.int .u64 ((nx+1:Nat):Int)) rfl rfl (by rw[show((nx+1:Nat):Int)=(nx:Int)+1 by omega];exact aR (eV (by omega) (by omega)))) ?_)))))
 refine zn rfl (zf rfl (C1 _ _) ?_)
 refine zS rfl (by exact s.dL (k:=0) rfl od rfl (by decide) rfl rfl) (fun h s => ?_)
 refine zk 5 rfl (zY s 0 mh pL rfl (zk 2 rfl ?_))
 refine aq.w8 s rfl rfl rfl rfl (fun p22 h s => ?_)
 refine zo rfl (b_ rfl (by rw[Xu];rfl)) ?_
 refine aq.bG s rfl rfl rfl (dc rfl rfl) (fun I h s => ?_)
 refine aq.iR rfl rfl (OpR.mapUpdate rfl rfl rfl rfl (kJ (n:=(nx:Int)) (f:=fun v (r:Nat)=>.pu (v=.ptr r 0)) (x:=I) (fun _ _=>aX.pu _) ((s.ae [3]).fH rfl) sy bN)) ?_
 intro _ h s
 rw[Q8 fun e he=>by
  obtain⟨x,hx,rfl⟩:=List.mem_map.1 he
  have:=J x hx
  show(x.1:Int)≠nx
  omega] at s
 have s:=pq (f:=fun v (_:Unit)=>.pu (v=.agg [])) (s.ae [2])
 have s:=(s.ot (k:=2)).ot (k:=1)
 have s:=s.ae [4,0,0,0]
 have s:Sat h (oE I nx ⟨0,0,0,[],[],[]⟩::_):=jW.2 ⟨.aO,.aO,.map p22,s⟩
 have s:=QV (s.ae [0,2])
 have s:=s.ae [2,1,0]
 refine zk 7 rfl (WP.ret ⟨aa,_,rfl,?_⟩)
 refine⟨rfl,I,fL.2 ⟨av,?_⟩⟩
 rw[List.map_append]
 exact s
theorem tq (hT:WT told)(hB:B≤900)(hI:TxI N B M ba ck mk rs ε)(I:ba+szB rs≤1000000)(hN:N≤1024)(J:id<2097152)(hx:L[i]?=some (id,rr,A))(hl:A.dF<2097152)(hf:szB rs+40≤M)
 (s:Sat h (gV m a nx u L::SA a p q r .a_ data aH ε::S)):
  Call ⟨Tryz.prog,told⟩ 27 [.ptr m 0,.int .u64 (id:Int)] h fun v h'=>v=.int .i64 0∧∃eL ah,(∀m,pgA ah m=pgA ε m)∧szB eL≤40∧TxI N (B+2) M ba ck mk (rs++eL) ah ∧
   Sat h' (gV m a nx u (L.eraseIdx i)::SA a p q r .a_ data aH ah::S):=by
 have hW:=hT.wr.w
 obtain⟨av,s⟩:=fL.1 s
 obtain⟨gA,nZ⟩:=xR hx (s.ae [1])
 refine Call.of_wp (hW.free _ rfl) Tryz.func27 rfl rfl (zK 8 rfl (zY s 0 mh pL rfl (zm rfl (zo rfl (gx rfl rfl gA) (zk 6 rfl (zC rfl (sY B5) (rfl) (zk 7 rfl ?_)))))))
 have s:=(jk hx).1 (s.ae [2])
 obtain⟨mv,dv,pv,s⟩:=jW.1 s
 have s:=s.ae [5,0,4,4]
 refine zc rfl (JN (kd:=3) hT hB hI I hN J hl hf (by decide) (by decide) s) ?_
 rintro v h ⟨rfl,eL,ah,gd,ej,jd,s⟩
 refine zk 2 rfl (WP.ret ⟨aa,_,rfl,?_⟩)
 refine⟨rfl,eL,ah,gd,ej,jd,?_⟩
 rw[Ee hx nZ] at s
 have s:=s.ae [0,0,4]
 exact((fL.2 ⟨av,s⟩).del 4 |>.del 3 |>.del 2)
theorem vO (hT:WT told)(I:1≤ba)(hI:TxI N B M ba ck mk rs ε)(hN:N≤1024)(J:id<2097152)(hx:L[i]?=some (id,rr,A)){l:List (Nat×Nat)}(hc:qq ba rs A.jj l)(hp:fN N n k cell (pgA ε))(hB:B+2*l.length≤890)
 (mD:ba+szB rs+560*l.length≤1000000)(hM:szB rs+560*l.length+40≤M)(qp:A.dF≤ba+szB rs)(Hl:A.jj≤ba+szB rs)(v7:A.dn.length≤1000)(Wv:∀d∈A.dn,0<d.1)
 (s:Sat h (gV m a nx (iJ c) L::SA a p q r .a_ data aH ε::S)):
  Call ⟨Tryz.prog,told⟩ 28 [.ptr m 0,.int .u64 (id:Int)] h fun v h'=>v=.int .i64 0∧∃eL ah,fN N n k (offC cell l) (pgA ah)∧szB eL≤560*l.length+40∧TxI N (B+2*l.length+2) M ba ck mk (rs++eL) ah ∧
   Sat h' (gV m a nx (iJ c) (L.eraseIdx i)::SA a p q r .a_ data aH ah::S):=by
 have hW:=hT.wr.w
 obtain⟨av,s⟩:=fL.1 s
 obtain⟨gA,nZ⟩:=xR hx (s.ae [1])
 refine Call.of_wp (hW.free _ rfl) Tryz.func28 rfl rfl (zK 8 rfl (zY s 0 mh pL rfl (zm rfl (zo rfl (gx rfl rfl gA) (zk 6 rfl (zC rfl (sY B5) (rfl) (zk 8 rfl ?_)))))))
 have s:=(jk hx).1 (s.ae [2])
 obtain⟨mv,dv,pv,s⟩:=jW.1 s
 have s:=s.ae [5,0,5,1]
 have hM':szB rs+560*l.length≤M:=by omega
 refine zc rfl (T1 hT I hN J hc hp hI (by omega) mD hM' qp Hl v7 Wv s) ?_
 rintro v h ⟨rfl,fC,lE,aav,dv1,xM,aaw,oG,uN,_,s⟩
 have Lx:szB (rs++fC)=szB rs+szB fC:=iF
 refine zk 5 rfl (zC rfl aA (rfl) (zk 7 rfl ?_))
 have s:=s.ae [0,0,4,0]
 refine zc rfl (JN (kd:=4) hT (by omega) oG (by omega) hN J (show aav<2097152 by omega) (by omega) (by decide) (by decide) s) ?_
 rintro v h ⟨rfl,eL,ah,gd,ej,jd,s⟩
 refine zk 2 rfl (WP.ret ⟨aa,_,rfl,?_⟩)
 refine⟨rfl,fC++eL,ah,xM.sA gd,by rw[iF];omega,by rw[←cX];exact jd,?_⟩
 rw[Ee hx nZ] at s
 have s:=s.ae [0,0,3]
 exact((fL.2 ⟨av,s⟩).del 3 |>.del 2)
end
noncomputable def EX : Nat→Option (List V→H→Option (V×H)):=toldP [(76,yY)] mY
noncomputable abbrev CK : dR:=⟨Tryz.prog,EX⟩
theorem Q9 : dA CK:=Hg fun x I=>by
 rw[List.mem_singleton.1 I]
 exact⟨_,B4,rfl,by decide⟩
theorem Hp : WK EX:=by
 refine⟨JM fun x I => ?_,?_⟩
 ·rw[List.mem_singleton.1 I]
  exact⟨by decide,by decide,by decide⟩
 ·simp only[EX,toldP,qi rfl,ai]
section
variable {p m:Nat} {cell:List Nat}
theorem Ww (hB:B≤900)(hI:TxI N B M ba ck mk rs ε)(AL:1≤ba)(mD:ba+szB rs≤1000000)(hN:N≤1024)(g_:sC L)(hx:L[j]?=some (id,rr,A))(je:id<2097152)(qp:A.dF<2097152)(v7:A.dn.length≤1000)
 (I:szB rs+7300+oF L≤M)(hM:M≤16777216)(hp:fN N n k cell (pgA ε))(hi:i<n)(hn:n≤50)(hd:IntKind.wrap .u64 d=(dn:Int))(lV:dn<18446744073709551616)
 (s:Sat h (pt c (.cells 2 [.ptr m 0,.int .i64 (n:Int)] false)::gV m a nx u L::SA a p q r .a_ data aH ε::S)):
  ∃v h2,(∃N0,∀n,N0≤n→toldDefer CK n 26 [.ptr c 0,.int .u64 (id:Int),.int .i64 (i:Int),.int .i64 d] h=some (v,h2))∧∃c' cost ah,v=.int .i64 0∧fN N n k (kA cell i ((dw cell i+dn)%18446744073709551616)) (pgA ah) ∧
   (dG.mk 1 id A.dF 0 (i::le 8 dn) c').len≤560∧cost≤1656∧TxI N (B+2) M ba ck mk (rs++[⟨1,id,A.dF,0,i::le 8 dn,c'⟩]) ah ∧
   Sat h2 (pt c (.cells 2 [.ptr m 0,.int .i64 (n:Int)] false)::gV m a nx u (L.set j (id,rr,A.more (ba+szB rs) cost [(k:Int)]))::SA a p q r .a_ data aH ah::S):=by
 have hT:=Hp.w
 have iZ:=hp.len
 obtain⟨av,s⟩:=fL.1 (s.ae [1])
 dsimp only[aC,bringA] at s
 obtain⟨gA,_⟩:=xR hx (s.ae [1])
 refine toldDefer_do (C:=CK) GZ rfl rfl (of_decide_eq_true (by kernel_rfl)) ?_
 refine WPd.seq (WPd.of_wp rfl (zr rfl (za rfl (zv (WPd.seq (WPd.of_wp rfl (WP.block (zg rfl (zk 2 rfl (zf rfl (oX _ _) (zl rfl (by exact s.ld (k:=3) rfl lR rfl) ?_)))))))))))
 refine zn rfl (zY s 0 mh pL rfl (zm rfl (zo rfl (gx rfl rfl gA) (zC rfl (sY B5) (rfl) (zk 6 rfl (zC rfl aJ (by simp) ?_))))))
 refine zk 4 rfl (zY s 3 uG ep rfl (zC rfl jQ (by simp;omega) ?_))
 refine zk 2 rfl (zv (zj rfl (WP.skip (WPd.seq (WPd.of_wp rfl (zr rfl (zk 2 rfl (zf rfl (oX _ _) (zl rfl (by exact s.ld (k:=3) rfl lR rfl) ?_)))))))))
 refine zn rfl (zY s 0 oY m6 rfl ?_)
 have s:=aZ.1 (s.ae [4])
 dsimp only[aC,bringA,List.cons_append,List.nil_append] at s
 refine zc rfl (qd hT s) ?_
 rintro v h ⟨g,rfl,s⟩
 have s:Sat h (GA g a p q r data aH [] ε::_):=aZ.2 s
 refine zk 5 rfl (zv (WPd.seq (WPd.seq (WPd.of_wp rfl (zr rfl (zm rfl (zh rfl (ak rfl rfl aA) (rfl) (zv (WPd.of_wp rfl (zj rfl (WP.skip (WPd.seq (WPd.defer rfl rfl rfl rfl rfl rfl rfl rfl rfl rfl rfl rfl (WPd.seq (WPd.seq (WPd.of_wp rfl (zr rfl (zk 4 rfl ?_))))))))))))))))))
 have oJ:fN N n k cell (pgG [] ε):=hp.sA fun _=>rfl
 refine zc rfl (G3 hT (by omega) hI.ei (NW.nil N) oJ (by omega) hd lV s) ?_
 rintro v h ⟨lE,b',rfl,mC,fX,sN,oI,s⟩
 have oG:=hI.sm mC fX
 have xM:=oJ.put fX oI (vM iZ (by omega))
 refine za rfl (zv (WPd.seq (WPd.of_wp rfl (zr rfl (zm rfl (zh rfl (ak rfl rfl aA) (rfl) ?_))))))
 have wG:∀h,convV Tryz.prog h 2 32 (.int .i64 d)=some (.int .u64 (dn:Int),h):=fun h=>by simp only[convV,uW,bN,hd]
 have s0:=s
 refine zv (WPd.of_wp rfl (zj rfl (WP.skip (WPd.seq (WPd.of_wp rfl (WP.drawn [some (0,3),some (0,3),some (0,3),some (0,3),some (0,3),some (0,3),af,af,af,some (0,2),some (0,2),af,af,af] rfl (by kernel_rfl) (by kernel_rfl) ?_))))))
 refine zM rfl (zN rfl (zF rfl (oX _ _) (zL rfl (s.ld (k:=4) rfl lR rfl) (zM rfl (zM rfl (zM rfl (az.op rfl rfl rfl (by simp only[isEff,Tryz.underlying5]) (bJ rfl (by exact gC bz Tryz.underlying5 (uD (by omega) (by omega)))) ?_)))))))
 refine az.any rfl rfl rfl rfl (OpR.ER (n:=i) rfl s rfl rfl rfl (by omega)) ?_
 intro bv h s
 have s1:=s
 refine zM rfl (az.op rfl rfl rfl (by simp only[isEff,bN]) (bJ (r:=.int .u64 (dn:Int)) rfl (wG _)) ?_)
 refine az.any rfl rfl rfl rfl (OpR.call rfl rfl rfl rfl (uM (z:=8) (n:=dn) hT s (by decide) (by simp))) ?_
 intro bv h s
 have s2:=s
 have s:=s.ae [2,2,2]
 have s:=fL.2 ⟨av,s⟩
 have s:=s.ae [0,1,0]
 refine az.any rfl rfl rfl rfl (OpR.call rfl rfl rfl rfl (Q4 Hp (by omega) oG AL mD hN g_ hx rfl sN je qp (show([i]++le 8 dn).length≤9 by simp[cF]) v7 I hM s (aU _ _))) ?_
 rintro v h ⟨c',cost,ah,aB,rfl,rfl,gd,hlen,J,jd,s⟩
 refine zA rfl ?_
 refine az.nil ⟨⟨fun _ _=>.inr ⟨rfl,⟨_,bf rfl⟩,aN _ rfl⟩,fun _ _=>.inr ⟨rfl,⟨_,lF rfl⟩,aN _ rfl⟩,fun _ _=>.inr ⟨rfl,⟨_,jr rfl (oX _ _)⟩,aN _ rfl⟩,rQ (.inr ⟨rfl,⟨_,aP rfl (s0.ld (k:=4) rfl lR rfl)⟩,aN _ rfl⟩) (.inr ⟨rfl,⟨_,aP rfl (s1.ld (k:=5) rfl lR rfl)⟩,aN _ rfl⟩) (.inr ⟨rfl,⟨_,aP rfl (s2.ld (k:=5) rfl lR rfl)⟩,aN _ rfl⟩),fun _ _=>.inr ⟨rfl,⟨_,bf rfl⟩,aN _ rfl⟩,fun _ _=>.inr ⟨rfl,⟨_,bf rfl⟩,aN _ rfl⟩,aa,aa,aa,fun _ _=>.inr ⟨rfl,⟨_,bf rfl⟩,aN _ rfl⟩,fun _ _=>.inr ⟨rfl,⟨_,bJ (r:=.int .u64 (dn:Int)) rfl (wG _)⟩,aN _ rfl⟩,aa,aa,aa,aa⟩,?_⟩
 refine WPd.of_wp rfl (WP.ret ?_)
 have s:=aZ.1 (s.ae [2])
 have s:=s.ae [5,0]
 obtain⟨v2,h2,uB,rfl,s⟩:=oC hT s
 have s:=s.ae [1,1,1,1]
 have s:Sat h2 (SA a p q r .a_ data aH ah::_):=aZ.2 s
 have Hi:EX 59=none:=hT.free _ rfl
 exact⟨aa,h2,_,mR (C:=CK) Hi uP rfl rfl uB,ql rfl,c',cost,ah,rfl,xM.done sN gd,hlen,J,jd,((s.ae [4,2,0]).del 4 |>.del 3)⟩
end
section
variable {p:Nat}
theorem Q_ (hB:B≤800)(hI:TxI N B M ba ck mk rs ε)(mD:ba+szB rs≤1000000)(hN:4≤N)(hN2:N≤1000)(hs:jm N (List.replicate 64 0) xN (pgA ε))(BF:1≤n)(hn:n≤50)(hf:szB rs+2120≤M)
 (s:Sat h (pt c (.cells 2 [.a_,.int .i64 (n:Int)] false)::SA a p q r .a_ data aH ε::S)):
  ∃v h2,(∃N0,∀n,N0≤n→toldDefer CB n 80 [.ptr c 0,.ptr a 0] h=some (v,h2))∧∃c' ah,v=.int .i64 0∧fN N n 2 (List.replicate 400 0) (pgA ah) ∧
   (dG.mk 1 0 0 0 [] c').len≤2120∧TxI N (B+2) M ba ck mk (rs++[⟨1,0,0,0,[],c'⟩]) ah∧Sat h2 (pt c (.cells 2 [.a_,.int .i64 (n:Int)] false)::SA a p q r .a_ data aH ah::S):=by
 have J:=W.base
 have R6:(List.replicate 64 0).length=64:=gi
 obtain⟨ex,oJ⟩:=hs.head
 have Ra:(List.replicate 400 0).length=400:=gi
 have xB:(cU (List.replicate 64 0) (4*(0:Int).toNat) 4:Nat)=0:=by decide +kernel
 have Wx:cU (xO (List.replicate 64 0) 0 2) 0 4=2:=by decide +kernel
 have GK:∀j,bt xN j=decide (j<2):=fun j=>Oc
 refine toldDefer_do (C:=CB) G0 rfl rfl (of_decide_eq_true (by kernel_rfl)) ?_
 generalize List.replicate 64 0=R at hs R6 oJ xB Wx
 generalize xN=M0 at hs GK
 generalize hZ:List.replicate 400 0=Z at Ra
 have s:=s.ae [1]
 dsimp only[bringA,getA,aC] at s
 refine WPd.seq (WPd.of_wp rfl (zr rfl (za rfl (zv (WPd.seq (WPd.of_wp rfl (zr rfl (zm rfl (zo rfl (pI rfl (mki_of BQ rfl)) (zc rfl (JD (i:=0) J (Le J (by omega)) hI.ei (by omega) oJ R6 (by decide) (by decide) s) ?_))))))))))
 rintro v h ⟨lE,rfl,mC,fX,s⟩
 rw[aF (by decide),xB]
 have oG:=hI.sm mC fX
 refine zk 5 rfl (zv (WPd.seq (WPd.seq (WPd.of_wp rfl (zr rfl (zm rfl (zh rfl (ak rfl rfl aA) (rfl) (zv (WPd.of_wp rfl (zj rfl (WP.skip (WPd.seq (WPd.seq (WPd.of_wp rfl (zr rfl (zm rfl (zh rfl (ak rfl rfl aA) (rfl) (zv (WPd.of_wp rfl (zj rfl (WP.skip (WPd.seq (WPd.of_wp rfl (zr rfl (zm rfl ?_)))))))))))))))))))))))))
 have s:=aZ.1 s
 dsimp only[List.cons_append,List.nil_append] at s
 refine zc rfl (qd J s) ?_
 rintro v h ⟨g,rfl,s⟩
 have s:Sat h (GA g a p q r data aH [] lE::_):=aZ.2 s
 refine zk 5 rfl (zv (WPd.seq (WPd.seq (WPd.of_wp rfl (zr rfl (zm rfl (zh rfl (ak rfl rfl aA) (rfl) (zv (WPd.of_wp rfl (zj rfl (WP.skip (WPd.seq (WPd.defer rfl rfl rfl rfl rfl rfl rfl rfl rfl rfl rfl rfl (WPd.seq (WPd.seq (WPd.of_wp rfl (zr rfl (za rfl (zv (WPd.of_wp rfl (WP.block (WP.loop (zw (zg rfl (zm rfl (zb rfl (by exact ik (ax (by omega) (by omega))) ?_))))))))))))))))))))))))))
 refine zk 2 rfl (zY s 1 uG ep rfl (zB rfl aJ (by simp;omega) ?_))
 refine zv (zi rfl (WP.skip (zw (WP.block (zg rfl (zm rfl ?_))))))
 have hsG:jm N R M0 (pgG [] lE):=by rw[show pgG [] lE=pgA ε from funext fun m=>fX.1 m];exact hs
 refine zc rfl (N6 (lo:=2) J (by omega) mC (NW.nil N) hsG (by omega) (by rw[GK];decide) (fun j hj=>by rw[GK];exact ew hj) s) ?_
 rintro v h ⟨oH,I,rfl,sr,oL,sx,v8,Jq,_,_,_,s⟩
 refine zk 10 rfl (zC rfl aA (rfl) (zk 5 rfl (zc rfl (GB (kd:=205) J s (by decide)) ?_)))
 rintro v h ⟨u1,b1,rfl,wE,s⟩
 refine zk 11 rfl (zY s 2 uG ep rfl (zc rfl (Jy (lk:=0) (ex:=n) J s (aU _ _) wE (by decide) (by omega)) ?_))
 rintro v h ⟨u2,b2,rfl,Fe,s⟩
 refine zk 8 rfl (aq.any rfl rfl rfl (OpR.Bx rfl s rfl rfl rfl rfl (by decide)) ?_)
 intro bv0 h s
 rw[hZ] at s
 have s:=s.ae [1,0]
 dsimp only[bringA,getA,aC] at s
 have eR:26+4*(([]:List (List Nat)).length+1)+(tot []+Z.length)≤512:=by rw[Ra];decide
 refine zc rfl (JA (cs:=[]) (c:=Z) J s (aU _ _) (aU _ _) Fe eR) ?_
 rintro v h ⟨u3,b3,rfl,UF,s⟩
 refine zk 11 rfl ?_
 have s:=s.ae [4,0]
 dsimp only[bringA,getA,aC] at s
 refine zc rfl (B1 (i:=2) J (by omega) sr sx (by omega) s (aU _ _) UF) ?_
 rintro v h ⟨vI,rfl,qy,lX,nU,s⟩
 have e3:∀m:Int,m≠2→pgG (cN ((2:Nat):Int) b3 I) vI m=pgG I oH m:=fun m hm=>by rw[gz,ay (show ¬ ((2:Nat):Int)=m by omega),BZ lX]
 have hp3:jm N R (BY M0 2) (pgG (cN ((2:Nat):Int) b3 I) vI):=Jq.roots (e3 1 (by decide)) (by rw[e3 0 (by decide)];exact Jq.head) Jq.rl
 refine zk 5 rfl (zC rfl aA (rfl) (zk 8 rfl (zc rfl (Lj (i:=0) (z:=2) J (by omega) qy nU hp3 s) ?_)))
 rintro v h ⟨QH,Rb,Wa,hs4,JO,hn4,s,B8⟩
 rcases B8 with⟨Dv,_⟩|⟨_,_,_,_,rfl,hp4,ho4⟩
 ·exact absurd ⟨by decide,by decide,by decide,by omega⟩ Dv
 have OE:=oG.sm Wa ((oL.trans lX).trans hs4)
 have aax:pgG Rb QH 2=b3:=by rw[ho4 2 (by decide),gz,aF (show((2:Nat):Int)=2 from rfl)]
 have hl4:Rb.length≤4:=by
  have:=su (i:=((2:Nat):Int)) (b:=b3) (now:=I)
  have v8:I.length≤2:=v8
  omega
 have Wy:fN N n 2 Z (pgG Rb QH):=⟨⟨_,_,hp4,Wx⟩,by decide,by omega,by rw[show((2:Nat):Int)=2 from rfl,aax];exact UF,Ra⟩
 refine za rfl (zv (zg rfl (zm rfl (zh rfl (ak rfl rfl aA) (rfl) (zv (zj rfl (WP.skip (zr rfl (zm rfl (zb rfl (by exact aR (ax (by omega) (by omega))) ?_))))))))))
 refine zk 2 rfl (WP.loop (zK 4 rfl (zb rfl (by exact ik (ax (by omega) (by omega))) ?_)))
 refine zk 2 rfl (zY s 5 uG ep rfl (zC rfl aJ (by simp;omega) ?_))
 refine zk 2 rfl (WP.exit (WPd.seq (WPd.of_wp rfl (zK 2 rfl (zo rfl (b_ rfl (B2 (kd:=1))) ?_)))))
 have s:=s.rW.ae [1]
 dsimp only[bringA,getA,aC] at s
 refine zc rfl (tj (kd:=1) (l:=4) J (by omega) OE (by omega) JO hl4 (by omega) (by omega) (by decide) (by decide) (by decide) (by decide) (by decide) (by decide) (by omega) s (aU _ _)) ?_
 rintro v h ⟨c',ah,aB,rfl,rfl,gd,hlen,jd,s⟩
 refine zk 4 rfl (zv (WPd.seq (WPd.of_wp rfl (zr rfl (zk 2 rfl (zv (WPd.of_wp rfl (WP.ret ?_))))))))
 have s:=aZ.1 (s.ae [1])
 have s:=s.ae [4,0]
 obtain⟨v2,h2,uB,rfl,s⟩:=oC J s
 have s:=s.ae [1,1,1,1]
 have s:Sat h2 (SA a p q r .a_ data aH ah::_):=aZ.2 s
 have Hi:mY 59=none:=J.free _ rfl
 have s:=s.ae [7,0]
 exact⟨aa,h2,_,mR (C:=CB) Hi uP rfl rfl uB,ql rfl,c',ah,rfl,Wy.done JO gd,hlen,jd,(s.del 7 |>.del 6 |>.del 5 |>.del 4 |>.del 3 |>.del 2)⟩
end
def addS : List (Nat×Nat)→Nat→Nat
 |[],_=>0
 |x::l,j=>(if x.1=j then x.2 else 0)+addS l j
theorem AN {a b:List (Nat×Nat)}: addS (a++b) j=addS a j+addS b j:=by
 induction a<;>grind[addS]
theorem Rc : ∀ {l:List (Nat×Nat)},addS l.reverse j=addS l j:=by
 intro l
 induction l with
 |nil=>rfl
 |cons x l I=>rw[List.reverse_cons,AN,I];simp only[addS];omega
theorem T2 {l:List (Nat×Nat)}: ∀ {cell:List Nat},cell.length=400→(∀x∈l,x.1<50∧x.2<18446744073709551616)→(∀j,j<50→dw cell j<18446744073709551616) →
  ∀j,j<50→dw (offC cell l) j<18446744073709551616∧(dw (offC cell l) j+addS l j)%18446744073709551616=dw cell j%18446744073709551616:=by
 induction l with
 |nil=>intro cell h1 h2 h3 j hj;exact⟨h3 j hj,rfl⟩
 |cons x l I =>
  intro cell h1 h2 h3 j hj
  obtain⟨DI,hx2⟩:=h2 x dJ
  have hz:(dw cell x.1+pF x.2)%18446744073709551616<18446744073709551616:=jw _ (by decide)
  have hc:∀j,dw (kA cell x.1 ((dw cell x.1+pF x.2)%18446744073709551616)) j=if j=x.1 then(dw cell x.1+pF x.2)%18446744073709551616 else dw cell j:=fun j=>yX h1 DI hz
  have I:=I (cell:=kA cell x.1 ((dw cell x.1+pF x.2)%18446744073709551616)) (vM h1 DI) (fun y hy=>h2 y (dh _ hy)) (fun j hj=>by rw[hc];split;exact hz;exact h3 j hj) j hj
  rw[hc] at I
  simp only[offC,addS]
  refine⟨I.1,?_⟩
  by_cases J:j=x.1
  ·subst J
   rw[aF rfl] at I ⊢
   unfold pF at I ⊢
   omega
  ·rw[ay J] at I
   rw[ay (jx J)]
   omega
structure kM (k ba:Nat)(rs:List dG)(A:mT)(l:List (Nat×Nat)): Prop where
 eq:A.dF=A.jj
 lt:A.jj<ba+szB rs
 dn:A.dn.length=l.length
 sum:gh A.dn≤1656*l.length
 pg:A.pg=[]∨A.pg=[(k:Int)]
 pos:∀d∈A.dn,0<d.1
 ch:qq ba rs A.jj l.reverse
 ok:∀x∈l,x.1<50∧x.2<18446744073709551616
theorem T3 (r:dG): 1≤r.len:=by show 1≤8+_;omega
theorem kM.other {l:List (Nat×Nat)}(h:kM k ba rs A l)(eL:List dG): kM k ba (rs++eL) A l :=
 ⟨h.eq,by have:=h.lt;rw[iF];omega,h.dn,h.sum,h.pg,h.pos,h.ch.more,h.ok⟩
theorem kM.more {cost:Nat}{l:List (Nat×Nat)}{c:List cr}(h:kM k ba rs A l)(mD:1≤ba)(hi:i<50)(hd:dn<18446744073709551616)(hc:cost≤1656):
  kM k ba (rs++[⟨1,id,A.dF,0,i::le 8 dn,c⟩]) (A.more (ba+szB rs) cost [(k:Int)]) (l++[(i,dn)]):=by
 have hl:=h.lt
 have hp:=T3 ⟨1,id,A.dF,0,i::le 8 dn,c⟩
 refine⟨rfl,?_,?_,?_,?_,?_,?_,?_⟩
 ·show ba+szB rs<_;rw[iF,lq];omega
 ·show(A.dn++[_]).length=_;rw[bP,bP,h.dn];rfl
 ·show gh (A.dn++[_])≤_
  have:=h.sum
  rw[AK,bP];simp only[gh,ey,ud,tZ,List.foldr_nil,bq,cD]
  simp only[gh] at this
  omega
 ·right
  show tK A.pg (k:Int)=_
  rcases h.pg with e|e<;>rw[e]<;>simp[tK]
 ·intro d I
  rcases List.mem_append.1 I with I|I
  ·exact h.pos d I
  ·rw[List.mem_singleton.1 I];show 0<ba+szB rs;omega
 ·rw[List.reverse_append]
  refine qq.cons (fC:=rs) (nV:=[]) rfl (by rw[h.eq];exact hl) hi hd ?_
  rw[h.eq];exact h.ch.more
 ·intro x J
  rcases List.mem_append.1 J with J|J
  ·exact h.ok x J
  ·rw[List.mem_singleton.1 J];exact⟨hi,hd⟩
theorem kM.new (I:1≤ba): kM k ba rs ⟨0,0,0,[],[],[]⟩ [] :=
 ⟨rfl,by show 0<ba+szB rs;omega,rfl,by decide,.inl rfl,fun d hd=>(by cases hd),qq.nil,fun x J=>(by cases J)⟩
theorem kM.cost {l:List (Nat×Nat)}(h:kM k ba rs A l)(J:l.length≤15): mZ A.dn A.pg.length≤30008∧gh A.dn≤24840∧A.dn.length≤15∧A.pg.length≤1:=by
 have h1:=h.sum
 have h2:=h.dn
 have I:A.pg.length≤1:=by rcases h.pg with e|e<;>rw[e]<;>simp
 refine⟨?_,by omega,by omega,I⟩
 unfold mZ
 split<;>omega
structure mE (n k:Nat)(l1 l2:List (Nat×Nat))(A1 A2:mT)(B:Nat)(rs:List dG)(ε:bA)(cell:List Nat): Prop where
 tx:TxI 32 B 262144 1 0 [] rs ε
 ct:fN 32 n k cell (pgA ε)
 bb:B≤10+2*(l1.length+l2.length)
 sz:szB rs≤40000+560*(l1.length+l2.length)
 val:∀j,j<50→dw cell j=(addS l1 j+addS l2 j)%18446744073709551616
 t1:kM k 1 rs A1 l1
 t2:kM k 1 rs A2 l2
theorem mE.Wz {cell:List Nat}(h:mE n k l1 l2 A1 A2 B rs ε cell)(J:l1.length≤15)(h2:l2.length≤15): sC [(1,r1,A1),(2,r2,A2)]∧oF [(1,r1,A1),(2,r2,A2)]≤60272:=by
 have c1:=h.t1.cost J
 have c2:=h.t2.cost h2
 refine⟨⟨by simp,fun x I => ?_⟩,?_⟩
 ·simp only[gY,iu,j8] at I
  rcases I with rfl|rfl
  ·exact⟨by show gh A1.dn≤_;omega,by show A1.dn.length≤_;omega,by show A1.pg.length≤_;omega⟩
  ·exact⟨by show gh A2.dn≤_;omega,by show A2.dn.length≤_;omega,by show A2.pg.length≤_;omega⟩
 ·simp only[oF,jN,ey,ud,tZ,List.foldr_nil]
  omega
theorem mE.aay {cost:Nat}{cell:List Nat}{c:List cr}(h:mE n k l1 l2 A1 A2 B rs ε cell)(hi:i<50)(hd:dn<18446744073709551616)(J:cost≤1656)
 (ht:TxI 32 (B+2) 262144 1 0 [] (rs++[⟨1,id,A1.dF,0,i::le 8 dn,c⟩]) ah)(hp:fN 32 n k (kA cell i ((dw cell i+dn)%18446744073709551616)) (pgA ah))(hlen:(dG.mk 1 id A1.dF 0 (i::le 8 dn) c).len≤560):
  mE n k (l1++[(i,dn)]) l2 (A1.more (1+szB rs) cost [(k:Int)]) A2 (B+2) (rs++[⟨1,id,A1.dF,0,i::le 8 dn,c⟩]) ah (kA cell i ((dw cell i+dn)%18446744073709551616)):=by
 have h1:=h.bb
 have h2:=h.sz
 refine⟨ht,hp,by rw[bP,tQ];omega,by rw[iF,lq,bP,tQ];omega,fun j hj => ?_,h.t1.more (by decide) hi hd J,h.t2.other _⟩
 rw[yX h.ct.len hi (jw _ (by decide)),AN]
 have I:=h.val j hj
 simp only[addS]
 by_cases e:j=i
 ·subst e;rw[aF rfl,aF rfl,I];omega
 ·rw[ay e,ay (jx e),I];omega
theorem mE.aaz {cost:Nat}{cell:List Nat}{c:List cr}(h:mE n k l1 l2 A1 A2 B rs ε cell)(hi:i<50)(hd:dn<18446744073709551616)(J:cost≤1656)
 (ht:TxI 32 (B+2) 262144 1 0 [] (rs++[⟨1,id,A2.dF,0,i::le 8 dn,c⟩]) ah)(hp:fN 32 n k (kA cell i ((dw cell i+dn)%18446744073709551616)) (pgA ah))(hlen:(dG.mk 1 id A2.dF 0 (i::le 8 dn) c).len≤560):
  mE n k l1 (l2++[(i,dn)]) A1 (A2.more (1+szB rs) cost [(k:Int)]) (B+2) (rs++[⟨1,id,A2.dF,0,i::le 8 dn,c⟩]) ah (kA cell i ((dw cell i+dn)%18446744073709551616)):=by
 have h1:=h.bb
 have h2:=h.sz
 refine⟨ht,hp,by rw[bP,tQ];omega,by rw[iF,lq,bP,tQ];omega,fun j hj => ?_,h.t1.other _,h.t2.more (by decide) hi hd J⟩
 rw[yX h.ct.len hi (jw _ (by decide)),AN]
 have I:=h.val j hj
 simp only[addS]
 by_cases e:j=i
 ·subst e;rw[aF rfl,aF rfl,I];omega
 ·rw[ay e,ay (jx e),I];omega
end Go.Proofs.YtiojppeahfoiaaaGreat.Am
namespace Go.Proofs.YtiojppeahfoiaaaGreat.Am
open Go Go.RowKit
variable {L:sB} {X Y:aE} {C:dR} {c':Ctx} {δ:Dk} {ε ah:bA} {pg:bA→Int→List Nat} {Q:Ex→List (Nat×V)→H→Prop} {fn:Func} {h h' σ:H} {d e x0 x1 x2:Int} {μ:Lg} {da db:List (Int×Int×Int×Int)} {now:List (Int×List Nat)} {l1 l2:List (Nat×Nat)} {E:List (Nat×V)} {S:List aE} {U:List Bool} {aV:List cr} {ks:List Int} {data l pre rest fK R seen mk mix:List Nat} {fC nV rs eL:List dG} {args cs Rt:List V} {n tx pv nx a b q g r aH c i j N k B dn id M f it cR clock zU c0 aB ba ck rr B6 jj r1 r2:Nat} {o:Oper} {x:Operand} {P:Program} {ρ:Wq} {A A1 A2:mT} {α:Type} {t:TypeId} {y dt av rv uv u dv cv wt z fv kv mv xP bv ka kb wv nn:V} {w':World}
def rangeParts : Code→Option (Code×Code×Nat×Operand×Array Tmp×Code×Code×Code)
 |.seq a (.seq (.seq b (.block id (.rangeFunc x ps tu bd))) t)=>some (a,b,id,x,ps,tu,bd,t)
 |_=>none
noncomputable def toldRange (C:dR)(n:Nat)(f:FuncId)(args:List V)(h:H): Option (V×H):=match C.P.funcs[f]? with
 |none=>none
 |some fn=>match fn.body with
  |none=>none
  |some code=>cond (Nat.blt fn.ntmps args.length) none (match rangeParts code with
   |none=>none
   |some (a,b,_,x,ps,tu,bd,t)=>match ev C n a ⟨bindArgs args 0 .lf,fn.ntmps,h⟩ with
    |some (.normal,O6)=>match ev C n b O6 with
     |some (.normal,I)=>match evO I.env x with
      |some (.fn (.func g) [] cap)=>match callF C (ev C n) g (.AP I.h.next::cap) (I.h.new (.loop false I.aj I.env ps.toList tu bd)) with
       |some (_,J)=>match T.get J.tr I.h.next with
        |some (.loop false _ _ _ _ _)=>match ev C n t ⟨I.env,I.aj,J.put I.h.next none⟩ with
         |some (.normal,s)|some (.ret,s)=>match mapO (resV C.P s) fn.results.toList with
          |some [v]=>some (v,s.h)
          |some vs=>some (.aI vs,s.h)
          |none=>none
         |_=>none
        |some .Cz=>match mapO (resV C.P ⟨I.env,I.aj,J.put I.h.next none⟩) fn.results.toList with
         |some [v]=>some (v,J.put I.h.next none)
         |some vs=>some (.aI vs,J.put I.h.next none)
         |none=>none
        |_=>none
       |none=>none
      |_=>none
     |_=>none
    |_=>none)
section
variable {c:Ctx} {w:World}
theorem Rel.other {o:Go.Obj}(h:Rel c σ w)(hb:∀id,id<c.N→(c.ρ id).1≠b): Rel c σ (w.putObj b o):=by
 have get:∀i,(w.putObj b o).heap[i]?=if b=i∧b<w.heap.size then some o else w.heap[i]?:=fun i=>by
  simp only[World.putObj,xT]
  by_cases J:b=i
  ·subst J
   by_cases I:b<w.heap.size
   ·simp[I]
   ·simp[I,Array.getElem?_eq_none (tW I)]
  ·simp[J]
 have same:∀id,id<c.N→(w.putObj b o).heap[(c.ρ id).1]?=w.heap[(c.ρ id).1]?:=fun id hi=>by
  rw[get]
  simp[jx (hb id hi)]
 have rows:∀id,id<c.N→rowSize (w.putObj b o) (c.ρ id).1=rowSize w (c.ρ id).1:=fun id hi=>by unfold rowSize;rw[same id hi]
 exact⟨h.next,h.live,fun id hi=>by simpa[World.putObj] using h.jX id hi,fun id hi=>by rw[rows id hi];exact h.zz id hi,h.inj,
  fun id o ho=>(h.obj id o ho).later (Ext.refl c) (h.live id o ho) (same id (h.live id o ho)),h.one,h.fx⟩
theorem Rel.endLoop {o:Obj}{r abQ:Loop}(h:Rel c σ w)(hg:σ.tr.get id=some o)(ho:∀n cs,o≠.cells n cs true)(hb:w.heap[(c.ρ id).1]?=some (.loop abQ)):
  Rel c (σ.put id none) (w.putObj (c.ρ id).1 (.loop r))∧bT c w c (w.putObj (c.ρ id).1 (.loop r)):=by
 have cA:(c.ρ id).1<w.heap.size:=(Array.getElem?_eq_some_iff.1 hb).1
 have get:∀i,(w.putObj (c.ρ id).1 (.loop r)).heap[i]?=if (c.ρ id).1=i then some (.loop r) else w.heap[i]?:=fun i=>by
  simp only[World.putObj,xT,cA,b7]
 have rows:∀i,rowSize (w.putObj (c.ρ id).1 (.loop r)) i=rowSize w i:=fun i=>by
  unfold rowSize
  rw[get]
  by_cases hi:(c.ρ id).1=i
  ·subst hi;simp[hb]
  ·simp[hi]
 have I:=h.kill id
 have hX:=h.CC hg ho
 refine⟨⟨I.next,I.live,fun j hj=>by simpa[World.putObj] using I.jX j hj,fun j hj=>by rw[rows];exact I.zz j hj,I.inj,fun j o hj => ?_,I.one,I.fx⟩,
  ⟨Ext.refl c,by simp[World.putObj],fun b _=>rows b,fun b _ hn => ?_,fun j h1 h2=>by omega,rfl,rfl⟩⟩
 ·refine(I.obj j o hj).later (Ext.refl c) (I.live j o hj) ?_
  have J:=hj
  rw[dS] at J
  by_cases zP:j=id
  ·simp[zP] at J
  ·simp[zP] at J
   have nY:(c.ρ id).1≠(c.ρ j).1:=fun he=>zP (h.Ag J hg he.symm hX)
   rw[get]
   simp[nY]
 ·rw[get]
  have:(c.ρ id).1≠b:=fun he=>by have:=hn id (h.live id _ hg) he;rw[hX] at this;cases this
  simp[this]
theorem bT.JP (h:bT c w c' w')(I:b<w.heap.size)(J:∀id,id<c.N→(c.ρ id).1≠b): (∀id,id<c'.N→(c'.ρ id).1≠b)∧w'.heap[b]?=w.heap[b]?:=by
 refine⟨fun id hi he => ?_,h.iO b I fun id hi he=>absurd he (J id hi)⟩
 by_cases h1:id<c.N
 ·rw[h.ext.ρ id h1] at he;exact J id h1 he
 ·rcases h.fresh id (by omega) hi with h2|⟨j,hj,h2,_⟩
  ·omega
  ·exact J j hj (by rw[h2,he])
theorem bT.WA {o:Go.Obj}(h:bT c w c' w')(J:w.heap.size≤b): bT c w c' (w'.putObj b o):=by
 have get:∀i,i<w.heap.size→(w'.putObj b o).heap[i]?=w'.heap[i]?:=fun i hi=>World.putObj_heap_other (by omega)
 exact⟨h.ext,by simpa[World.putObj] using h.size,fun i hi=>by rw[←h.rows i hi];unfold rowSize;rw[get i hi],fun i hi I=>by rw[get i hi];exact h.iO i hi I,h.fresh,h.sys⟩
end
section
variable {c:Ctx} {w:World}
theorem cO.defers {env:Env}{a:Act}(h:cO c env n a)(ds:List Deferred): cO c env n { a with defers:=ds }:=⟨h.size,h.val,h.pR⟩
theorem Hq (hm:C.P.follows .mixedOrders=true)(hT:dA C){f:FuncId}{v:V}{cJ:H}(hr:toldRange C n f args σ=some (v,cJ))(h:Rel c σ w)(hw:∀x∈args,wf c x):
  eE C.P f args c w v cJ:=by
 have hS:=(wQ (C:=C) hm hT n).1
 unfold toldRange at hr
 split at hr
 ·cases hr
 ·rename_i fn hf
  split at hr
  ·cases hr
  ·rename_i code hb
   cases hq:Nat.blt fn.ntmps args.length with
   |true=>rw[hq] at hr;cases hr
   |false =>
    rw[hq,aK] at hr
    have hle:args.length≤fn.ntmps:=by
     rcases qR fn.ntmps args.length with h'|h'
     ·rw[fT.2 h'] at hq;cases hq
     ·exact h'
    have rJ:=ij (c:=c) hle hw
    split at hr
    ·cases hr
    ·rename_i pa pb pid px WB tu WC pt uY
     have Yc:code=.seq pa (.seq (.seq pb (.block pid (.rangeFunc px WB tu WC))) pt):=by
      unfold rangeParts at uY
      split at uY
      ·simp only[au,br] at uY
       obtain⟨rfl,rfl,rfl,rfl,rfl,rfl,rfl,rfl⟩:=uY
       rfl
      ·cases uY
     split at hr
     ·rename_i O6 Rz
      split at hr
      ·rename_i J L4
       split at hr
       ·rename_i g cap hx
        split at hr
        ·rename_i y Bg Kq
         ·-- whatever the loop was left by
          have tail:∀o s,T.get Bg.tr J.h.next=some o→(∀n cs,o≠.cells n cs true) →
            (∀(AI:Ctx) (Lo:World),u6 AI Lo J.h.next o→∃rr:Loop,Lo.heap[(AI.ρ J.h.next).1]?=some (.loop rr)∧rr.state≠.busy∧((rr.pending=none∧∃ex,ev C n pt ⟨J.env,J.aj,Bg.put J.h.next none⟩=some (ex,s)∧(ex=.normal∨ex=.ret))∨(rr.pending=some .ret∧s=⟨J.env,J.aj,Bg.put J.h.next none⟩))) →
            (match mapO (resV C.P s) fn.results.toList with
             |some [v]=>some (v,s.h)
             |some vs=>some (.aI vs,s.h)
             |none=>none)=some (v,cJ)→eE C.P f args c w v cJ:=by
           intro o s Ef abe Au uq
           unfold eE
           refine(callsIn_wide (n:=0)).1 (callsIn_of_wp_marks (F:=Fence.wide) hf hb aa ?_ rfl)
           rw[Yc]
           refine wpIn_seq (wpIn_mono (hS pa _ .normal O6 Rz none c _ w h rJ) ?_)
           rintro e y7 pS ⟨rfl,L5,c₁,Fi,rK,lJ⟩
           refine wpIn_seq (wpIn_seq (wpIn_mono (hS pb _ .normal J L4 none c₁ y7 pS Fi rK) ?_))
           rintro e Es I ⟨rfl,UC,c₂,Fj,A3,Dx⟩
           have WD:Es.defers=[]:=by rw[UC,L5]
           obtain⟨Wk,qv⟩:=uj A3 hx
           have CG:∀z∈cap,wf c₂ z:=by
            have:fe c₂ []∧fe c₂ cap:=by simpa[wf] using qv
            exact gv.1 this.2
           have hN:J.h.next=c₂.N:=Fj.next
           -- the two blocks of the loop
           obtain⟨rA,fh⟩:=Fj.below (w':=I.alloc (.deferred (some []))) ((Below.refl _ I).alloc (aS _) _)
           have hDA:(I.alloc (.deferred (some []))).heap[I.heap.size]?=some (.deferred (some [])):=World.alloc_heap_new I _
           have aaA:∀id,id<c₂.N→(c₂.ρ id).1≠I.heap.size:=fun id hi he=>absurd (Fj.jX id hi) (by omega)
           refine wpIn_block (wpIn_rangeFunc (fun Zx _ => ?_))
           obtain⟨O,hO⟩:∃O:Go.Obj,O=.loop { state:=.ready,pending:=none,fn:=Zx,tmps:=Es.tmps,params:=WB,assign:=tu,body:=WC,defers:=I.heap.size }:=⟨_,rfl⟩
           have aaB:(I.alloc (.deferred (some []))).heap.size=I.heap.size+1:=World.size_alloc _ _
           have Ur:objSize O=0:=by rw[hO];rfl
           have eG:=Ah rA 0 (objSize O)
           obtain⟨rB,Zy⟩:=rA.new (.loop false J.aj J.env WB.toList tu WC) O 0 rfl (by
            refine⟨Zx,Es.tmps,I.heap.size,?_,A3.size,fun t => ?_,fun t=>(bL eG _ (A3.pR t)).2⟩
            ·rw[bn,hO]
             exact World.alloc_heap_new _ _
            ·rw[A3.val t,(bL eG _ (A3.pR t)).1])
           obtain⟨cB,WE⟩:∃cB,cB=c₂.grow (I.alloc (.deferred (some []))).heap.size 0 (objSize O):=⟨_,rfl⟩
           rw[←WE] at rB Zy eG
           have WG:cB.ρ c₂.N=(I.heap.size+1,0):=by rw[WE,bn,aaB]
           have hNB:cB.N=c₂.N+1:=by rw[WE];rfl
           obtain⟨kc,ken⟩:=callF_ok hS.wide hT Kq rB (by
            intro z hz
            rcases List.mem_cons.1 hz with rfl|hz
            ·simp only[wf];omega
            ·exact(bL eG _ (CG z hz)).2)
           refine⟨I.heap.size+1,[{ target:=.collected I.heap.size,args := #[] }],(I.alloc (.deferred (some []))).alloc O,{ target:=.fn (.func g) (cap.map (conc c₂)).toArray,args := #[.func (.yield (I.heap.size+1)) #[] #[]] },(I.alloc (.deferred (some []))).alloc O,g,
            #[.func (.yield (I.heap.size+1)) #[] #[]]++(cap.map (conc c₂)).toArray,(I.alloc (.deferred (some []))).alloc O,?_,?_,fun _ _=>trivial,?_,?_,?_⟩
           ·rw[hO];exact run_enterLoop_outer _ _ _ _ _
           ·have mG:Es.eval px=.func (.func g) #[] (cap.map (conc c₂)).toArray:=by rw[Wk];simp[conc,eP]
            simp only[resolve,rangeCall,mG]
            simp[go_sem,Act.eval]
           ·simp[invoke,go_sem,ken]
           ·intro hd;exact absurd hd (by decide)
           ·have yw:((V.AP J.h.next::cap).map (conc cB)).toArray = #[.func (.yield (I.heap.size+1)) #[] #[]]++(cap.map (conc c₂)).toArray:=by
             apply Array.ext'
             simp only[ey,conc,hN,WG,(j_ eG CG).1]
             simp
            unfold eE at kc
            rw[yw] at kc
            refine Fg (r:=none) (Calls.mono kc ?_)
            rintro e Lo ⟨AI,rfl,_,TO,WH⟩
            rw[hN] at Ef
            have abR:c₂.N<AI.N:=TO.live _ _ Ef
            have abf:AI.ρ c₂.N=(I.heap.size+1,0):=by rw[WH.ext.ρ c₂.N (by omega),WG]
            rw[hN] at Au
            obtain⟨rr,OF,hnb,hpd⟩:=Au AI Lo (TO.obj c₂.N _ Ef)
            obtain⟨Yd,WI⟩:=TO.endLoop (r:={ rr with state:=.exhausted }) Ef abe OF
            rw[abf] at OF Yd WI
            refine⟨rr.pending,_,run_endLoop OF hnb,?_⟩
            obtain⟨OG,WJ⟩:∃OG,OG=Lo.putObj (I.heap.size+1) (.loop { rr with state:=.exhausted }):=⟨_,rfl⟩
            rw[←WJ] at Yd WI
            -- all of it so far, pas one step
            have Sh:bT c₂ I AI OG:=((fh.trans Zy).trans WH).trans WI
            -- the block for the rounds' deferred calls
            have nB:∀id,id<cB.N→(cB.ρ id).1≠I.heap.size:=fun id hi=>by
             by_cases h1:id<c₂.N
             ·rw[eG.ρ id h1];exact aaA id h1
             ·have:id=c₂.N:=by omega
              rw[this,WG];simp
            have Zz:((I.alloc (.deferred (some []))).alloc O).heap[I.heap.size]?=some (.deferred (some [])):=by
             rw[fQ,ay (by omega)];exact hDA
            have aaC:I.heap.size<((I.alloc (.deferred (some []))).alloc O).heap.size:=(Array.getElem?_eq_some_iff.1 Zz).1
            obtain⟨abS,abT⟩:=WH.JP aaC nB
            have abg:Lo.heap[I.heap.size]?=some (.deferred (some [])):=abT.trans Zz
            have ZA:OG.heap[I.heap.size]?=some (.deferred (some [])):=by rw[WJ];exact(World.putObj_heap_other (by omega)).trans abg
            have X8:cO AI J.env J.aj { Es with defers:=[{ target:=.collected I.heap.size,args := #[] }]++Es.defers }:=(A3.ext Sh.ext).defers _
            have fin:∀(Lz:Ctx) (Re:Act) (LA:World),Rel Lz s.h LA→cO Lz s.env s.aj Re→bT AI OG Lz LA→Re.defers=[{ target:=.collected I.heap.size,args := #[] }] →
              LeavesInM Fence.wide 0 C.P fn Re.tmps (fun e w'=>∃c',e=.returned (conc c' v)∧wf c' v∧Rel c' cJ w'∧bT c w c' w') Re.defers .returning LA:=by
             intro Lz Re LA aaD aaE Si aaF
             have aaG:I.heap.size<OG.heap.size:=(Array.getElem?_eq_some_iff.1 ZA).1
             obtain⟨abU,abV⟩:=Si.JP aaG abS
             have abh:LA.heap[I.heap.size]?=some (.deferred (some [])):=abV.trans ZA
             have aaH:Rel Lz s.h (LA.putObj I.heap.size (.deferred none)):=aaD.other abU
             have Gc:bT c w Lz (LA.putObj I.heap.size (.deferred none)):=(((lJ.trans Dx).trans Sh).trans Si).WA (b9 lJ.size Dx.size)
             rw[aaF]
             refine⟨by simp,.inl ⟨I.heap.size,_,rfl,run_takeDeferred abh,?_⟩⟩
             cases A5:mapO (resV C.P s) fn.results.toList with
             |none=>simp[A5] at uq
             |some vs =>
              obtain⟨q1,q2⟩:=me aaH aaE A5
              refine⟨_,q1,Lz,?_⟩
              rw[A5] at uq
              split at uq
              ·rename_i v0 zI
               simp only[au] at zI
               subst zI
               simp only[au,br] at uq
               obtain⟨rfl,rfl⟩:=uq
               exact⟨by simp,q2 v0 (by simp),aaH,Gc⟩
              ·rename_i vs' nY zI
               simp only[au] at zI
               subst zI
               simp only[au,br] at uq
               obtain⟨rfl,rfl⟩:=uq
               refine⟨?_,by simp only[wf,gv];exact q2,aaH,Gc⟩
               rw[dif_neg]
               ·simp[conc,eP]
               ·intro ej
                simp only[List.size_toArray,fE] at ej
                obtain⟨v0,rfl⟩:=List.length_eq_one_iff.1 ej
                exact nY v0 rfl
              ·cases uq
            rw[←WJ]
            rcases hpd with⟨hp,ex,gB,hex⟩|⟨hp,hs⟩
            ·rw[hp]
             refine wpIn_mono (hS pt _ ex s gB none AI _ OG Yd X8) ?_
             rintro e Re LA ⟨rfl,abi,Lz,aaD,aaE,Si⟩
             have:=fin Lz Re LA aaD aaE Si (by rw[abi,WD];rfl)
             rcases hex with rfl|rfl
             ·exact this
             ·exact this
            ·rw[hp]
             subst hs
             exact wpIn_ret (fin AI _ OG Yd X8 (bT.refl _ _) (by rw[WD];rfl))
          split at hr
          ·rename_i ab0 ab1 ab2 ab3 ab4 Ef
           have one:∀ex s,ev C n pt ⟨J.env,J.aj,Bg.put J.h.next none⟩=some (ex,s)→(ex=.normal∨ex=.ret)→_→eE C.P f args c w v cJ:=fun ex s gB hex uq=>tail _ s Ef (by simp) (fun AI Lo ho=>by
            obtain⟨ab5,abp,ab7,OF,_⟩:=ho
            exact⟨_,OF,by simp,.inl ⟨rfl,ex,gB,hex⟩⟩) uq
           split at hr
           ·rename_i s gB
            exact one .normal s gB (.inl rfl) hr
           ·rename_i s gB
            exact one .ret s gB (.inr rfl) hr
           ·cases hr
          ·rename_i Ef
           exact tail _ ⟨J.env,J.aj,Bg.put J.h.next none⟩ Ef (by simp) (fun AI Lo ⟨rr,b1,b2,b3⟩=>⟨rr,b1,by simp[b2],.inr ⟨b3,rfl⟩⟩) hr
          ·cases hr
        ·cases hr
       ·cases hr
      ·cases hr
     ·cases hr
end
end Go.Proofs.YtiojppeahfoiaaaGreat.Am
namespace Go.Proofs.YtiojppeahfoiaaaGreat.Am
open Go
variable {L:sB} {X Y:aE} {C:dR} {c':Ctx} {δ:Dk} {ε ah:bA} {pg:bA→Int→List Nat} {Q:Ex→List (Nat×V)→H→Prop} {fn:Func} {h h' σ:H} {d e x0 x1 x2:Int} {μ:Lg} {da db:List (Int×Int×Int×Int)} {now:List (Int×List Nat)} {l1 l2:List (Nat×Nat)} {E:List (Nat×V)} {S:List aE} {U:List Bool} {aV:List cr} {ks:List Int} {data l pre rest fK R seen mk mix:List Nat} {fC nV rs eL:List dG} {args cs Rt:List V} {n tx pv nx a b q g r aH c i j N k B dn id M f it cR clock zU c0 aB ba ck rr B6 jj r1 r2:Nat} {o:Oper} {x:Operand} {P:Program} {ρ:Wq} {A A1 A2:mT} {α:Type} {t:TypeId} {y dt av rv uv u dv cv wt z fv kv mv xP bv ka kb wv nn:V} {w':World}
def qg (i:Nat)(c:Code): Code:=match rangeParts c with
 |some (a,b,_,_,_,tu,bd,t)=>match i with
  |0=>a
  |1=>b
  |2=>tu
  |3=>bd
  |_=>t
 |none=>.skip
section
theorem Hr {f:FuncId}{code a b t tu bd:Code}{kD:Nat}{ps:Array Tmp}{R:V→H→Prop}(hf:C.P.funcs[f]?=some fn)(hb:fn.body=some code)(hl:Nat.blt fn.ntmps args.length=false)(hp:rangeParts code=some (a,b,kD,x,ps,tu,bd,t))
 (hw:WP C fn.ntmps a (argE args 0) h fun ex E1 h1=>ex=.normal∧WP C fn.ntmps b E1 h1 fun ex E2 h2=>ex=.normal∧∃cap,aT E2 x=some (.fn (.func g) [] cap)∧∀env,gS env E2→∃u h3,gD C g (.AP h2.next::cap) (h2.new (.loop false fn.ntmps env ps.toList tu bd)) u h3 ∧
   ((T.get h3.tr h2.next=some (.loop false fn.ntmps env ps.toList tu bd)∧WP C fn.ntmps t E2 (h3.put h2.next none) fun ex E4 h4=>(match ex with|.exit _=>False|_=>True)∧∃v,resLE C.P E4 h4 fn.results.toList=some v∧R v h4) ∨
    (T.get h3.tr h2.next=some .Cz∧∃v,resLE C.P E2 (h3.put h2.next none) fn.results.toList=some v∧R v (h3.put h2.next none)))):
  ∃v h2,(∃N0,∀N,N0≤N→toldRange C N f args h=some (v,h2))∧R v h2:=by
 obtain⟨N1,Wk,aaI,h1,E1,a1,a2,rfl,sx⟩:=hw _ (qZ args)
 obtain⟨N2,qv,AH,h2,E2,b1,b2,rfl,cap,b4,nU⟩:=sx aaI a2
 obtain⟨u,h3,⟨N3,c1⟩,JO⟩:=nU AH b2
 have res:∀ {E4:List (Nat×V)} {Ht:Env} {h4:H} {v:V},gS Ht E4→resLE C.P E4 h4 fn.results.toList=some v→∃vs,mapO (resV C.P ⟨Ht,fn.ntmps,h4⟩) fn.results.toList=some vs∧(match vs with|[w]=>some w|vs=>some (.aI vs))=some v:=fun {E4 Ht h4 v} d2 I=>by
  unfold resLE at I
  cases hm:mapO (resE C.P E4 h4) fn.results.toList with
  |none=>rw[hm] at I;cases I
  |some vs =>
   rw[hm] at I
   refine⟨vs,ux (P:=C.P) (s:=⟨Ht,fn.ntmps,h4⟩) d2 hm,?_⟩
   match vs,I with
   |[],I=>exact I
   |[_],I=>exact I
   |_::_::_,I=>exact I
 rcases JO with⟨c2,JO⟩|⟨c2,v,I,hR⟩
 ·obtain⟨N4,ex4,Ht,h4,E4,d1,d2,hx,v,I,hR⟩:=JO AH b2
  refine⟨v,h4,⟨max (max N1 N2) (max N3 N4),fun N hN => ?_⟩,hR⟩
  have m1:=dm (C:=C) (show N1≤N by omega) _ _ _ a1
  have m2:=dm (C:=C) (show N2≤N by omega) _ _ _ b1
  have m3:=n_ (dm (C:=C) (show N3≤N by omega)) c1
  have m4:=dm (C:=C) (show N4≤N by omega) _ _ _ d1
  obtain⟨vs,e3,J⟩:=res d2 I
  unfold toldRange
  simp only[hf,hb,hl,aK,hp,m1,m2,bE b2 b4,m3,c2,m4]
  cases ex4 with
  |exit i=>exact hx.elim
  |normal =>
   simp only[e3]
   match vs,J with
   |[],J=>simp only[au] at J;rw[←J]
   |[_],J=>simp only[au] at J;rw[←J]
   |_::_::_,J=>simp only[au] at J;rw[←J]
  |ret =>
   simp only[e3]
   match vs,J with
   |[],J=>simp only[au] at J;rw[←J]
   |[_],J=>simp only[au] at J;rw[←J]
   |_::_::_,J=>simp only[au] at J;rw[←J]
 ·refine⟨v,_,⟨max (max N1 N2) N3,fun N hN => ?_⟩,hR⟩
  have m1:=dm (C:=C) (show N1≤N by omega) _ _ _ a1
  have m2:=dm (C:=C) (show N2≤N by omega) _ _ _ b1
  have m3:=n_ (dm (C:=C) (show N3≤N by omega)) c1
  obtain⟨vs,e3,J⟩:=res b2 I
  unfold toldRange
  simp only[hf,hb,hl,aK,hp,m1,m2,bE b2 b4,m3,c2,e3]
  match vs,J with
  |[],J=>simp only[au] at J;rw[←J]
  |[_],J=>simp only[au] at J;rw[←J]
  |_::_::_,J=>simp only[au] at J;rw[←J]
end
def LB (f:FuncId)(args:List V)(h:H)(r:V×H): Prop:=∃I,∀N,I≤N→toldRange CB N f args h=some r
theorem Call.range {told:cE}{f:FuncId}{R:V→H→Prop}(ht:told f=some (iN Tryz.prog f (LB f)))(hf:Tryz.prog.funcs[f]?=some fn)(hb:fn.body.isSome=true)
 (hd:∃v I,(∃J,∀N,J≤N→toldRange CB N f args h=some (v,I))∧R v I): Call ⟨Tryz.prog,told⟩ f args h R:=by
 obtain⟨v,I,⟨J,h0⟩,hR⟩:=hd
 obtain⟨r,e1,N1,h1⟩:=qc (P:=Tryz.prog) (f:=f) (jb:=LB f) (args:=args) (h:=h) (r:=(v,I)) ⟨J,h0⟩ (fun c w n4 hw=>Hq (C:=CB) jK iI (h0 J (aS _)) n4 hw)
 have:r=(v,I):=by
  have a:=h0 (max J N1) (by omega)
  have b:=h1 (max J N1) (by omega)
  rw[a] at b
  exact(cx b).symm
 subst this
 exact⟨v,I,gD.told ht hf hb e1,hR⟩
structure WO (told:cE): Prop where
 wt:WT told
 sq:told 208=some (iN Tryz.prog 208 (LB 208))
theorem OpR.Ye {v r:V}{h₁:H}(I:o.op=.next x false)(J:aT E x=some v)(hf:nextV h v=some (r,h₁)): OpR C E h o fun w h'=>w=r∧h'=h₁ :=
 ⟨r,h₁,⟨rfl,rfl⟩,fun env hE=>⟨0,by simp only[evOp,I,bE hE J,hf];rfl⟩⟩
theorem OH (I:h.tr.get it=some (.iter cR clock clock []))(J:h.tr.get cR=some (.map [] clock)): nextV h (.ptr it 0)=some (.aI [.bool false],h):=by
 have hb:Nat.ble clock clock=true:=by rw[aG];exact aS _
 simp[nextV,nextAll,I,J,leftV,pP,hb]
section
variable {told:cE} {p m:Nat} {op:V}
theorem Rf (I:W told)(s:Sat h (pt b (.cells 1 [.map cR] false)::pt cR (.map [] clock)::S)):
  Call ⟨Tryz.prog,told⟩ 156 [y,.ptr b 0] h fun v h'=>v=.aI []∧Sat h' (pt b (.cells 1 [.map cR] false)::pt cR (.map [] clock)::S):=by
 have J:=s.row (k:=1) rfl
 refine Call.of_wp (I.free _ rfl) Tryz.func156 rfl rfl (zg rfl (zy s 0 pL rfl (aq.any rfl rfl rfl (OpR.range rfl rfl (show rangeV Tryz.prog h 142 (.map cR)=some (.ptr h.next 0,h.new (.iter cR clock clock [])) by simp only[rangeV,sy,J])) ?_)))
 rintro v h' ⟨rfl,rfl⟩
 have s:=s.new (.iter cR clock clock [])
 generalize h.next=it at s ⊢
 generalize h.new (.iter cR clock clock [])=h1 at s ⊢
 refine zv (WP.block (WP.loop (zg rfl (aq.any rfl rfl rfl (OpR.Ye rfl rfl (OH (s.row (k:=0) rfl) (s.row (k:=2) rfl))) ?_))))
 rintro v h' ⟨rfl,rfl⟩
 exact zk 4 rfl (WP.exit ⟨aa,_,rfl,rfl,s.drop⟩)
noncomputable def asA : Code:=qg 0 ((Tryz.f208.body).getD .skip)
noncomputable def asB : Code:=qg 1 ((Tryz.f208.body).getD .skip)
noncomputable def ZB : Code:=qg 2 ((Tryz.f208.body).getD .skip)
noncomputable def ZC : Code:=qg 3 ((Tryz.f208.body).getD .skip)
noncomputable def asT : Code:=qg 4 ((Tryz.f208.body).getD .skip)
theorem T4 (s:Sat h (pt b (.cells 1 [.map cR] false)::pt cR (.map [] clock)::S)):
  ∃v J,(∃N0,∀n,N0≤n→toldRange CB n 208 [.aO,.fn (.func 156) [] [.ptr b 0]] h=some (v,J))∧v=.aO∧Sat J (pt b (.cells 1 [.map cR] false)::pt cR (.map [] clock)::S):=by
 have hT:=W.base
 refine Hr (C:=CB) (a:=asA) (b:=asB) (t:=asT) (tu:=ZB) (bd:=ZC) (kD:=0) (g:=156) (x:=.tmp 6) (ps := #[7]) G1 rfl rfl (by kernel_rfl) ?_
 refine zr rfl (aq.bG s rfl rfl rfl (dc rfl rfl) ?_)
 intro p2 h s
 dsimp only[V.cells,List.length_cons,List.length_nil,Nat.reduceAdd] at s
 refine za rfl (zv ?_)
 refine⟨rfl,?_⟩
 refine zr rfl (zm rfl (zv ?_))
 refine⟨rfl,_,rfl,fun env rJ => ?_⟩
 have s:=s.new (.loop false 13 env [7] ZB ZC)
 have s:=s.ae [2,2]
 obtain⟨u,h3,I,rfl,s⟩:=Rf (y:=.AP h.next) hT s
 have s:=s.ae [2]
 refine⟨_,h3,I,.inl ⟨s.row (k:=0) rfl,?_⟩⟩
 have s:=s.kill
 generalize h3.put h.next none=h at s ⊢
 exact zg rfl (zy s 2 ZZ rfl (zk 2 rfl (WP.ret ⟨aa,_,ql rfl,rfl,s.del 2⟩)))
theorem Rg (I:W told): Call ⟨Tryz.prog,told⟩ 234 [.int .u64 0] h fun v h'=>v=.int .i64 0∧h'=h:=by
 refine Call.of_wp (I.free _ rfl) Tryz.func234 rfl rfl (zK 8 rfl (zC rfl jQ (by decide) ?_))
 refine zk 7 rfl (zC rfl jQ (by decide) ?_)
 refine zk 7 rfl (zC rfl jQ (by decide) ?_)
 refine zk 7 rfl (zo rfl (bJ rfl (by exact gC bN Tryz.underlying5 (uD (by omega) (by omega)))) ?_)
 refine zo rfl (wX rfl rfl (r:=.int .u8 0) (by simp only[indexV,uK];rfl)) ?_
 refine zo rfl (bJ rfl (by exact gC Tryz.underlying5 bz (ax (by omega) (by omega)))) ?_
 refine zb rfl (by exact aR (ax (by omega) (by omega))) ?_
 exact zk 2 rfl (WP.ret ⟨aa,_,rfl,rfl,rfl⟩)
theorem T5 (I:W told): Call ⟨Tryz.prog,told⟩ 210 [.int .u64 0] h fun v h'=>v=.int .i64 0∧h'=h:=by
 refine Call.of_wp (I.free _ rfl) Tryz.func210 rfl rfl (zK 10 rfl (zc rfl (Rg I) ?_))
 rintro v h' ⟨rfl,rfl⟩
 exact zk 2 rfl (WP.ret ⟨aa,_,rfl,rfl,rfl⟩)
theorem OI (I:W told): Call ⟨Tryz.prog,told⟩ 224 [.aO,.int .i64 0,.int .i64 0] h fun v h'=>v=.aI []∧h'=h:=by
 refine Call.of_wp (I.free _ rfl) Tryz.func224 rfl rfl (zK 3 rfl (zb rfl (by exact aR (ax (by omega) (by omega))) ?_))
 refine zk 2 rfl (WP.block (WP.loop (zK 5 rfl (zC rfl aJ (by simp) ?_))))
 exact zk 2 rfl (WP.exit ⟨aa,_,rfl,rfl,rfl⟩)
theorem T6 (I:W told){l:V}: Call ⟨Tryz.prog,told⟩ 209 [.aO,.int .i64 0,.int .i64 0,l] h fun v h'=>v=.aI []∧h'=h:=by
 refine Call.of_wp (I.free _ rfl) Tryz.func209 rfl rfl (zK 8 rfl (WP.block (WP.loop (WP.block (zK 4 rfl (zb rfl (by exact jP (ax (by omega) (by omega))) ?_))))))
 refine zk 6 rfl (zB rfl CV (by simp) ?_)
 refine zk 7 rfl (zc rfl (OI I) ?_)
 rintro v h' ⟨rfl,rfl⟩
 exact zv (WP.ret ⟨aa,_,rfl,rfl,rfl⟩)
theorem OJ (I:W told): Call ⟨Tryz.prog,told⟩ 155 [.aO] h fun v h'=>v=.aI []∧h'=h:=by
 refine Call.of_wp (I.free _ rfl) Tryz.func155 rfl rfl (zK 3 rfl (zo rfl (aQ rfl rfl rfl (rX rfl Tryz.underlying33)) (zk 6 rfl (zo rfl (bJ (r:=.int .u64 0) rfl (gC bz Tryz.underlying308 rfl)) (zc rfl (T5 I) ?_)))))
 rintro v h' ⟨rfl,rfl⟩
 refine zc rfl (T6 I) ?_
 rintro v h' ⟨rfl,rfl⟩
 exact zv ⟨aa,_,rfl,rfl,rfl⟩
theorem Rh (I:WO told)(s:Sat h (pt b (.cells 1 [.map cR] false)::pt cR (.map [] clock)::S)):
  Call ⟨Tryz.prog,told⟩ 154 [.fn (.func 156) [] [.ptr b 0]] h fun v h'=>v=.aO∧Sat h' (pt b (.cells 1 [.map cR] false)::pt cR (.map [] clock)::S):=by
 refine Call.of_wp (I.wt.wr.w.free _ rfl) Tryz.func154 rfl rfl (zK 7 rfl (zc rfl (Call.range I.sq G1 rfl (T4 s)) ?_))
 rintro v h ⟨rfl,s⟩
 exact zk 2 rfl (WP.ret ⟨aa,_,rfl,rfl,s⟩)
theorem LC (I:WO told)(s:Sat h (pt b (.cells 1 [.map cR] false)::pt cR (.map [] clock)::S)):
  Call ⟨Tryz.prog,told⟩ 82 [.fn (.func 156) [] [.ptr b 0]] h fun v h'=>v=.aO∧Sat h' (pt b (.cells 1 [.map cR] false)::pt cR (.map [] clock)::S):=by
 refine Call.of_wp (I.wt.wr.w.free _ rfl) Tryz.func82 rfl rfl (zK 7 rfl (zc rfl (Rh I s) ?_))
 rintro v h ⟨rfl,s⟩
 refine zk 5 rfl (zc rfl (OJ I.wt.wr.w) ?_)
 rintro v h' ⟨rfl,rfl⟩
 exact zk 6 rfl (WP.ret ⟨aa,_,rfl,rfl,s⟩)
end
section
variable {told:cE} {p m:Nat} {op ch:V} {kd:Int}
theorem T7 (J:W told)(I:(c5 kd 0 pv nx dt ch).all storable=true)(s:Sat h S): Call ⟨Tryz.prog,told⟩ 81 [y,.agg (c5 kd 0 pv nx dt ch),z] h fun v h'=>v=.aI []∧Sat h' S:=by
 refine Call.of_wp (J.free _ rfl) Tryz.func81 rfl rfl (zg rfl (aq.bG s rfl rfl rfl (dc rfl I) ?_))
 intro p4 h s
 exact zk 4 rfl (zY s 0 CW dD rfl (zB rfl c4 (rfl) (zk 7 rfl (WP.ret ⟨aa,_,rfl,rfl,s.drop⟩))))
noncomputable def toL : Code:=c6 [1,1,1,0,1,0,0] ((Tryz.f36.body).getD .skip)
theorem LF (hT:WO told)(hl:LR ba ck mk rs ε.2)(BK:ε.2.1.Ok)(h0:∀y∈rs,y.tx=0): ∀(R2 J:List dG) (h:H) (E:List (Nat×V)) (Q:Ex→List (Nat×V)→H→Prop),rs=J++R2→Sat h (c8 a p q r op data aH::bQ q p ε.2.1::S) →
  Has E [(0,.ptr a 0),(6,.ptr m 0),(9,.int .u64 ((ba+szB J:Nat):Int))]→(∀E' h',Has E' [(0,.ptr a 0),(6,.ptr m 0)]→Sat h' (c8 a p q r op data aH::bQ q p ε.2.1::S)→Q (.exit 0) E' h')→WP ⟨Tryz.prog,told⟩ 105 (.loop toL) E h Q:=by
 have hW:=hT.wt.wr.w
 intro R2
 induction R2 with
 |nil =>
  intro J h E Q I s hE hq
  rw[iw] at I
  subst I
  have Au:((ba+szB rs:Nat):Int)=(ε.2.1.base:Int)+(ε.2.1.b.length:Int):=by rw[hl.base,hl.b,sE];omega
  refine WP.loop (WP.has hE (WP.block (zK 3 rfl (zc rfl (yS hW s) ?_))))
  rintro v h' ⟨rfl,rfl⟩
  rw[Au]
  refine zm rfl (zc rfl (D6 hW (s.ae [1]) BK) ?_)
  rintro v h ⟨rfl,s⟩
  refine zk 4 rfl ?_
  refine aq.bG s rfl rfl rfl (bM oh) (fun M9 h s => ?_)
  dsimp only[V.cells,List.length_cons,List.length_nil,Nat.reduceAdd,aC,bringA] at s
  refine zS rfl (s.fh (j:=0) rfl eD rfl rfl) (fun h s => ?_)
  dsimp only[c5,setA] at s
  exact zk 7 rfl (zB rfl aA (rfl) (zk 2 rfl (WP.exit (hq _ _ ⟨rfl,rfl,aa⟩ ((s.ae [2,1]).del 2)))))
 |cons y R2 ih =>
  intro J h E Q I s hE hq
  have hy:y.tx=0:=h0 y (by rw[I];simp)
  refine WP.loop (WP.has hE (WP.block (zK 3 rfl (zc rfl (yS hW s) ?_))))
  rintro v h' ⟨rfl,rfl⟩
  refine zm rfl (zc rfl (Hh hT.wt.wr (fC:=J) (nV:=R2) (y:=y) (by rw[←I];exact hl) BK (s.ae [1])) ?_)
  rintro v h ⟨dt,ch,cs',rfl,s⟩
  rw[hy]
  have gB:(V.agg (c5 (y.kd:Int) 0 y.pv y.nx dt ch)).cells.all storable=true:=kq (s.buf (k:=1) rfl).view.cells.2 (s.iU (j:=2) rfl).2.1
  refine zk 4 rfl ?_
  refine aq.bG s rfl rfl rfl (bM oh) (fun M9 h s => ?_)
  dsimp only[V.cells,List.length_cons,List.length_nil,Nat.reduceAdd,aC,bringA] at s
  refine zS rfl (s.fh (j:=0) rfl eD rfl gB) ?_
  intro h s
  dsimp only[c5,setA] at s
  refine zk 7 rfl (zC rfl aA (rfl) (zk 6 rfl (zl rfl (s.cy (k:=0) rfl iS eD) (zm rfl (zc rfl (T7 hW (kd:=(y.kd:Int)) (pv:=y.pv) (nx:=y.nx) (dt:=dt) (ch:=ch) gB s) ?_)))))
  rintro v h ⟨rfl,s⟩
  refine zv (zr rfl (zk 2 rfl (zv ?_)))
  exact ih (J++[y]) _ _ Q (by rw[I,cX];rfl) (((s.ae [5,1]).del 5 |>.del 4 |>.del 3 |>.del 2)) ⟨rfl,rfl,by rw[iF,lq,←nm];rfl,aa⟩ hq
theorem Ri (I:W told)(s:Sat h S): Call ⟨Tryz.prog,told⟩ 83 [.map cR] h fun v h'=>∃b,v=.fn (.func 156) [] [.ptr b 0]∧Sat h' (pt b (.cells 1 [.map cR] false)::S):=by
 refine Call.of_wp (I.free _ rfl) Tryz.func83 rfl rfl (zg rfl (aq.bG s rfl rfl rfl (dc rfl rfl) ?_))
 intro b h s
 exact zk 4 rfl (zo rfl (vn rfl rfl) (zk 2 rfl (WP.ret ⟨aa,_,rfl,b,rfl,s⟩)))
theorem Rj (I:W told): Call ⟨Tryz.prog,told⟩ 85 [.aO] h fun v h'=>v=.int .i64 0∧h'=h:=by
 exact Call.of_wp (I.free _ rfl) Tryz.func85 rfl rfl (zK 7 rfl (zo rfl (aQ rfl rfl rfl (rX rfl Tryz.underlying164)) (zk 2 rfl (WP.ret ⟨aa,_,rfl,rfl,rfl⟩))))
theorem Rk (hT:WO told)(hl:LR ba ck mk rs ε.2)(BK:ε.2.1.Ok)(h0:∀y∈rs,y.tx=0)(s:Sat h (SA a p q r .a_ [] 0 ε::S)):
  Call ⟨Tryz.prog,told⟩ 36 [.ptr a 0,iJ c] h fun v h'=>∃m,v=.aI [.ptr m 0,.int .i64 0]∧Sat h' (gV m a 1 (iJ c) []::SA a p q r .a_ [] 0 ε::S):=by
 have I:=hT.wt.wr.w
 refine Call.of_wp (I.free _ rfl) Tryz.func36 rfl rfl (zg rfl (za rfl (za rfl (zv (zg rfl (zm rfl (zm rfl ?_)))))))
 refine aq.w8 s rfl rfl rfl rfl (fun J h s => ?_)
 refine zo rfl (b_ (r:=.agg [.ptr a 0,iJ c,.map J,.int .u64 ((1:Nat):Int)]) rfl (by rw[Xt];rfl)) ?_
 refine aq.bG s rfl rfl rfl (dc rfl rfl) ?_
 intro m h s
 dsimp only[V.cells,List.length_cons,List.length_nil,Nat.reduceAdd] at s
 have s:=aZ.1 (s.ae [2])
 dsimp only[aC,bringA,List.cons_append,List.nil_append] at s
 refine za rfl (zv (zw (zg rfl (zm rfl (aq.call rfl rfl rfl rfl rfl rfl rfl (K8 I s (by decide)) ?_)))))
 rintro v h ⟨w,rfl,s⟩
 refine zm rfl (ze rfl (ze rfl (za rfl (za rfl (zv (zg rfl (zm rfl (zo rfl (aQ rfl rfl rfl (by exact bh aM (s.aD (k:=0) rfl (aU _ _)))) ?_))))))))
 refine aq.lG rfl rfl rfl (ak rfl rfl c4) (by simp) ?_
 refine zv (zj rfl (WP.skip (zw (zg rfl (zm rfl ?_)))))
 have s:=s.ae [1]
 dsimp only[bringA,getA,aC] at s
 refine aq.call rfl rfl rfl rfl rfl rfl rfl (yS I s) ?_
 rintro v h' ⟨rfl,rfl⟩
 refine aq.call rfl rfl rfl rfl rfl rfl rfl (xq I (s.ae [3])) ?_
 rintro v h' ⟨rfl,rfl⟩
 rw[hl.base]
 refine za rfl (zv (WP.block ?_))
 have s:=s.ae [0,2]
 dsimp only[bringA,getA,aC] at s
 refine LF hT hl BK h0 rs [] _ _ _ rfl s ⟨rfl,rfl,by rw[szB,nq];rfl,aa⟩ fun E' h' eF s' => ?_
 have s:=s'
 refine WP.has eF (zg rfl ?_)
 refine aq.bG s rfl rfl rfl (bM Xx) (fun p13 h s => ?_)
 dsimp only[V.cells,List.length_cons,List.length_nil,Nat.reduceAdd] at s
 refine zv (zw (zg rfl (zm rfl (zn rfl (zf rfl (mh _ _) (zl rfl (by exact s.ld (k:=6) rfl pL rfl) ?_))))))
 have s:=s.ae [6,6]
 dsimp only[bringA,getA,aC] at s
 refine aq.call rfl rfl rfl rfl rfl rfl rfl (Ri I s) ?_
 rintro v h ⟨b,rfl,s⟩
 have s:=s.ae [0,1]
 dsimp only[bringA,getA,aC] at s
 refine aq.call rfl rfl rfl rfl rfl rfl rfl (LC hT s) ?_
 rintro v h ⟨rfl,s⟩
 have s:=s.ae [2]
 dsimp only[bringA,getA,aC] at s
 refine zo rfl (aQ rfl rfl rfl (by exact rX rfl Tryz.underlying33)) ?_
 refine zm rfl (zv (WP.block (WP.loop (zg rfl (aq.lG rfl rfl rfl (ak rfl rfl aJ) (by decide) ?_)))))
 refine zv (zw (zj rfl (WP.exit (zw (WP.block (WP.loop (zw (zg rfl (zl rfl (by exact s.ld (k:=3) rfl Xw rfl) ?_)))))))))
 refine aq.call rfl rfl rfl rfl rfl rfl rfl (Rj I) ?_
 rintro v h' ⟨rfl,rfl⟩
 refine aq.lG rfl rfl rfl (ak rfl rfl fI) (by decide) ?_
 refine zv (zj rfl (WP.exit (zg rfl (zm rfl (za rfl (za rfl (zv ?_)))))))
 refine WP.ret ⟨aa,_,rfl,?_⟩
 have s:=s.ae [4,6,4,5]
 dsimp only[bringA,getA,aC] at s
 have s:Sat _ (SA a p q r .a_ [] 0 ε::_):=aZ.2 s
 have s:=s.ae [3]
 dsimp only[bringA,getA,aC] at s
 have s:=FN (κ:=.u64) (f:=fun v (r:Nat)=>.pu (v=.ptr r 0)) s
 have s:Sat _ (j3 []::_):=(s.fH (φ:=True) aa)
 have s:=s.ae [3,1,0]
 dsimp only[bringA,getA,aC] at s
 have s:Sat _ (gV m a 1 (iJ c) []::_):=fL.2 ⟨.map J,s⟩
 exact⟨m,rfl,(s.del 4 |>.del 3 |>.del 2)⟩
end
structure WX (told:cE): Prop where
 wo:WO told
 fmt:told 79=some (iN Tryz.prog 79 (tI 79))
 mkd:told 80=some (iN Tryz.prog 80 (tI 80))
 add:told 26=some (iN Tryz.prog 26 (Lv CK 26))
theorem WX.w {told:cE}(h:WX told): W told:=h.wo.wt.wr.w
theorem LR.fresh {m:Nat}: LR 1 0 [] [] (Am.fresh n m f).2 :=
 ⟨rfl,rfl,rfl,rfl,rfl,rfl,(show(-1:Int)<0 by decide),rfl,rfl,rfl,fun w hw=>(by cases hw),fun r I=>(by cases I)⟩
section
variable {told:cE} {p:Nat}
theorem T8 (hw:NW N now)(h:∀i:Int,2≤i→lookL i now=none): now.length≤2:=by
 have:=D9 2 _ hw.nodup fun n I=>by
  have:=hw.keys n I
  refine⟨this.1,Int.not_le.1 fun J => ?_⟩
  have h3:=h n J
  grind[ou]
 rwa [fE] at this
theorem Rl (hT:WX told)(hM1:40000≤M)(hM2:M≤262144)(BF:1≤n)(hn:n≤50)(s:Sat h (bw p (Dk.fresh 32 M)::S)):
  Call ⟨Tryz.prog,told⟩ 34 [.ptr p 0,.int .i64 16,.int .i64 (n:Int)] h fun v h'=>∃c m a q r rs ε,v=.aI [.ptr c 0,.int .i64 0]∧TxI 32 5 M 1 0 [] rs ε∧fN 32 n 2 (List.replicate 400 0) (pgA ε)∧szB rs≤3200∧1≤szB rs ∧
   Sat h' (pt c (.cells 2 [.ptr m 0,.int .i64 (n:Int)] false)::gV m a 1 (iJ c) []::SA a p q r .a_ [] 0 ε::S):=by
 have hW:=hT.w
 have aaJ:bW (List.replicate 512 0)=false:=by decide +kernel
 have hz:(pgA (fresh 32 M 16) 0).length=512:=by rw[Ea];exact gi
 have hg:bW (pgA (fresh 32 M 16) 0)=false:=by rw[Ea];exact aaJ
 refine Call.of_wp (hW.free _ rfl) Tryz.func34 rfl rfl (zK 9 rfl (zC rfl aJ (by simp;omega) ?_))
 refine zk 2 rfl (zC rfl fI (by simp;omega) ?_)
 refine zk 8 rfl (zc rfl (Ij (n:=16) hW s (by decide) (by decide) rfl rfl rfl rfl) ?_)
 rintro v h ⟨a,q,r,rfl,s⟩
 have s:Sat h (SA a p q r .a_ [] 0 (fresh 32 M 16)::S):=aZ.2 s
 have J:EI 32 1 (fresh 32 M 16):=EI.fresh (by decide) (by omega) (by decide) (by decide)
 have vX:LR 1 0 [] [] (fresh 32 M 16).2:=LR.fresh
 have vW:(fresh 32 M 16).2.2.room=M:=rfl
 have Sf:vw FT (fresh 32 M 16):=fun n rec h=>by cases h
 generalize fresh 32 M 16=ε0 at s J vX vW hz hg Sf
 have hI0:TxI 32 1 M 1 0 [] [] ε0:=⟨J,vX,vW,Sf⟩
 refine zk 10 rfl (zC rfl aA (rfl) (zk 6 rfl (zo rfl (pI rfl (mki_of BQ rfl)) (zc rfl (wj hW (Le hW (by decide)) J (by decide) hz hg s) ?_))))
 rintro v h ⟨lE,rfl,mC,fX,s⟩
 have I:=hI0.sm mC fX
 refine zk 10 rfl (zB rfl c4 (rfl) (zk 2 rfl (zo rfl (dB rfl rfl) (zk 5 rfl (zc rfl (Call.defer hT.fmt Gk rfl (Od (K:=0) (M:=M) (by decide) I.ei (by decide) (by decide) (by rw[fX.1];exact hz) (by rw[fX.1];exact hg) ⟨Nat.le_of_eq (by rw[I.len];rfl),I.rm⟩ (by omega) s)) ?_)))))
 rintro v h ⟨rfl,oH,sr,Gz,_,s,vI,now,aB,qy,lX,nU,aaK,Oe⟩
 have hI3:=I.sm qy lX
 obtain⟨_,_,_,_,c1,Yf,qh⟩:=hI3.done (L:=2) (kd:=1) Oe (by decide) nU (T8 nU aaK) (by decide) (by decide) (by decide) (by decide) (by decide) (by decide) (by decide) (by decide) (by simp only[szB];omega)
 refine zk 6 rfl (zC rfl aA (rfl) (zk 6 rfl (zo rfl (b_ (r:=.agg [.a_,.int .i64 (n:Int)]) rfl (by rw[Xr];rfl)) ?_)))
 refine aq.bG s rfl rfl rfl (dc rfl rfl) ?_
 intro c h s
 have aaw:szB ([]++[(⟨1,0,0,0,[],c1⟩:dG)])≤1080:=by rw[d_,lq];exact Yf
 refine zk 7 rfl (zc rfl (Call.defer hT.mkd G0 rfl (Q_ (by decide) qh (by omega) (by decide) (by decide) Gz BF hn (by omega) s)) ?_)
 rintro v h ⟨c2,QH,rfl,Wy,BO,OE,s⟩
 refine zk 5 rfl (zC rfl aA (rfl) (zk 9 rfl (zo rfl (b_ (r:=.agg [.ptr c 0]) rfl (by rw[Xv];rfl)) ?_)))
 refine zo rfl (pI rfl (mki_of Tryz.underlying161 rfl)) ?_
 have s:=s.ae [1]
 have oK:∀y∈[]++[(⟨1,0,0,0,[],c1⟩:dG)]++[⟨1,0,0,0,[],c2⟩],y.tx=0:=by
  intro y hy
  simp only[d_,gW,gY,iu,j8] at hy
  rcases hy with rfl|rfl<;>rfl
 refine zc rfl (Rk (c:=c) hT.wo OE.lr OE.ei.ok.ok.lg oK s) ?_
 rintro v h ⟨m,rfl,s⟩
 refine zk 4 rfl (zf rfl (oX _ _) (zS rfl (s.dL (k:=2) rfl Z2 rfl (show 0+0<2 by decide) rfl rfl) ?_))
 intro h s
 exact zk 5 rfl (zC rfl aA (rfl) (zk 9 rfl (WP.ret ⟨aa,_,rfl,c,m,a,q,r,_,QH,rfl,OE,Wy,by rw[iF,lq];have:(dG.mk 1 0 0 0 [] c2).len≤2120:=BO;omega,by rw[iF,lq];have:1≤(dG.mk 1 0 0 0 [] c2).len:=(by show 1≤8+_;omega);omega,s.ae [2,0,0]⟩)))
end
section
variable {told:cE} {p m:Nat} {cell:List Nat}
theorem Cb (J:W told)(s:Sat h S): Call ⟨Tryz.prog,told⟩ 23 [] h fun v h'=>∃p,v=.ptr p 0∧Sat h' (bw p (Dk.fresh 32 262144)::S):=by
 refine Call.of_wp (J.free _ rfl) Tryz.func23 rfl rfl (zK 6 rfl (zc rfl (Th (n:=32) (m:=262144) J s) ?_))
 rintro v h (⟨I,_⟩|⟨_,_,_,_,p,rfl,s⟩)
 ·exact absurd ⟨by decide,by decide,by decide,by decide⟩ I
 exact zk 10 rfl (zC rfl aA (rfl) (zk 8 rfl (WP.ret ⟨aa,_,rfl,p,rfl,s⟩)))
theorem Eg (hT:WX told)(I:40000≤M)(J:M≤262144)(BF:1≤n)(hn:n≤50)(s:Sat h (bw p (Dk.fresh 32 M)::S)):
  Call ⟨Tryz.prog,told⟩ 22 [.ptr p 0,.int .i64 16,.int .i64 (n:Int)] h fun v h'=>∃c m a q r rs ε,v=.ptr c 0∧TxI 32 5 M 1 0 [] rs ε∧fN 32 n 2 (List.replicate 400 0) (pgA ε)∧szB rs≤3200∧1≤szB rs ∧
   Sat h' (pt c (.cells 2 [.ptr m 0,.int .i64 (n:Int)] false)::gV m a 1 (iJ c) []::SA a p q r .a_ [] 0 ε::S):=by
 refine Call.of_wp (hT.w.free _ rfl) Tryz.func22 rfl rfl (zK 8 rfl (zC rfl (sY Tryz.underlying25) (rfl) (zk 8 rfl (zc rfl (Rl hT I J BF hn s) ?_))))
 rintro v h ⟨c,m,a,q,r,rs,ε,rfl,h1,h2,h3,h4,s⟩
 exact zk 10 rfl (zC rfl aA (rfl) (zk 8 rfl (WP.ret ⟨aa,_,rfl,c,m,a,q,r,rs,ε,rfl,h1,h2,h3,h4,s⟩)))
theorem ga (I:W told)(s:Sat h (pt c (.cells 2 [.ptr m 0,.int .i64 (n:Int)] false)::S)): Call ⟨Tryz.prog,told⟩ 24 [.ptr c 0] h fun v h'=>v=.ptr m 0∧h'=h:=by
 exact Call.of_wp (I.free _ rfl) Tryz.func24 rfl rfl (zK 8 rfl (zY s 0 oX lR rfl (zk 2 rfl (WP.ret ⟨aa,_,rfl,rfl,rfl⟩))))
theorem nf (J:W told)(hB:B≤2000)(I:EI 32 B ε)(hp:fN 32 n k cell (pgA ε))(hn:n≤50){z:Int}(s:Sat h (pt c (.cells 2 [.ptr m 0,.int .i64 (n:Int)] false)::gV m a nx u L::SA a p q r .a_ data aH ε::S)):
  Call ⟨Tryz.prog,told⟩ 29 [.ptr c 0,.int .i64 z] h fun v h'=>∃ah,EI 32 B ah∧Sm 32 ε ah∧v=(if 0≤z∧z<n then .aI [.int .i64 (IntKind.wrap .i64 (dw cell z.toNat:Nat)),.int .i64 0] else .aI [.int .i64 0,.int .i64 1]) ∧
   Sat h' (pt c (.cells 2 [.ptr m 0,.int .i64 (n:Int)] false)::gV m a nx u L::SA a p q r .a_ data aH ah::S):=by
 obtain⟨av,s⟩:=fL.1 (s.ae [1])
 refine(QU J hB I hp hn (m:=m) (nx:=nx) (uv:=u) (av:=av) (i:=z) (s.ae [4,3,0])).mono ?_
 rintro v h ⟨ah,h1,h2,h3,s⟩
 have s:=s.ae [2,2,2]
 have s:Sat h (gV m a nx u L::_):=fL.2 ⟨av,s⟩
 exact⟨ah,h1,h2,h3,s.ae [2,0,0]⟩
theorem AO (hT:WX told)(hB:B≤900)(hI:TxI N B M ba ck mk rs ε)(J:1≤ba)(mD:ba+szB rs≤1000000)(hN:N≤1024)(g_:sC L)(hx:L[j]?=some (id,rr,A))(je:id<2097152)(qp:A.dF<2097152)(v7:A.dn.length≤1000)
 (I:szB rs+7300+oF L≤M)(hM:M≤16777216)(hp:fN N n k cell (pgA ε))(hi:i<n)(hn:n≤50)(hd:IntKind.wrap .u64 d=(dn:Int))(lV:dn<18446744073709551616)
 (s:Sat h (pt c (.cells 2 [.ptr m 0,.int .i64 (n:Int)] false)::gV m a nx u L::SA a p q r .a_ data aH ε::S)):
  Call ⟨Tryz.prog,told⟩ 26 [.ptr c 0,.int .u64 (id:Int),.int .i64 (i:Int),.int .i64 d] h fun v h2=>∃c' cost ah,v=.int .i64 0∧fN N n k (kA cell i ((dw cell i+dn)%18446744073709551616)) (pgA ah) ∧
   (dG.mk 1 id A.dF 0 (i::le 8 dn) c').len≤560∧cost≤1656∧TxI N (B+2) M ba ck mk (rs++[⟨1,id,A.dF,0,i::le 8 dn,c'⟩]) ah ∧
   Sat h2 (pt c (.cells 2 [.ptr m 0,.int .i64 (n:Int)] false)::gV m a nx u (L.set j (id,rr,A.more (ba+szB rs) cost [(k:Int)]))::SA a p q r .a_ data aH ah::S) :=
 Call.Wt (C:=CK) rfl Q9 hT.add GZ rfl (Ww hB hI J mD hN g_ hx je qp v7 I hM hp hi hn hd lV s)
theorem Hu : dw (List.replicate 400 0) i=0:=by
 have:∀l:List Nat,(∀x∈l,x=0)→leN l=0:=by
  intro l
  induction l with
  |nil=>intro _;rfl
  |cons x l J=>intro I;simp only[leN,I x dJ,J fun y hy=>I y (dh _ hy)]
 exact this _ fun x I=>tP (l7 (kX I))
theorem LG (hT:WX told)(s:Sat h S): Call ⟨Tryz.prog,told⟩ 21 [] h fun v h'=>v=.bool true∧Sat h' S:=by
 have I:=hT.w
 refine Call.of_wp (I.free _ rfl) Tryz.func21 rfl rfl (zK 6 rfl (zc rfl (Cb I s) ?_))
 rintro v h ⟨p,rfl,s⟩
 refine zc rfl (Eg (n:=2) hT (by decide) (by decide) (by decide) (by decide) s) ?_
 rintro v h ⟨c,m,a,q,r,rs,ε,rfl,hI,hp,ej,_,s⟩
 refine zk 6 rfl (zC rfl (sY Tryz.underlying50) (rfl) (zk 2 rfl (zc rfl (ga I s) ?_)))
 rintro v h' ⟨rfl,rfl⟩
 refine zC rfl (sY Tryz.underlying54) (rfl) (zk 7 rfl (zc rfl (ga I s) ?_))
 rintro v h' ⟨rfl,rfl⟩
 have s:=s.ae [1]
 refine zc rfl (AM I (by decide) (fun x hx=>by cases hx) s) ?_
 rintro v h ⟨rfl,rr,s⟩
 have s:=s.ae [1,0]
 have J:=hp.len
 have OK:dw (List.replicate 400 0) 0=0:=Hu
 generalize List.replicate 400 0=Z at hp J OK
 refine zk 10 rfl (zc rfl (AO (j:=0) (dn:=5) (i:=0) hT (by decide) hI (by decide) (by omega) (by decide) ⟨by simp,fun x hx=>by rw[List.mem_singleton.1 hx];exact⟨eX 1048576,eX 1048576,eX 1048576⟩⟩ rfl (by decide) (by decide) (by decide) (by simp[oF,jN,mZ,gh];omega) (by decide) hp (by decide) (by decide) rfl (by decide) s) ?_)
 rintro v h ⟨c',cost,ah,rfl,uV,_,_,OL,s⟩
 have hv:dw (kA Z 0 ((dw Z 0+5)%18446744073709551616)) 0=5:=by rw[yX J (by decide) (jw _ (by decide)),aF rfl,OK]
 refine zk 5 rfl (zc rfl (nf (z:=0) I (by decide) OL.ei uV (by decide) s) ?_)
 rintro v h ⟨oH,_,_,rfl,s⟩
 rw[aF (by decide),show(0:Int).toNat=0 from rfl,hv]
 exact zk 9 rfl (zB rfl c4 (rfl) (zk 2 rfl (zB rfl c4 (rfl) (zk 3 rfl (zB rfl c4 (rfl) (zk 3 rfl (zB rfl c4 (rfl) (zk 3 rfl (zB rfl c4 (rfl) (zk 3 rfl (WP.ret ⟨aa,_,rfl,rfl,s.drop.drop.drop⟩)))))))))))
end
theorem Hv {y:Operand}{k:Int}{m:Nat}(hm:m<65536): binV P h .and t x y (.int .i64 k) (.int .i64 (m:Int))=some (.int .i64 ((Nat.land ((k%(2^(IntKind.i64).bits:Int)).toNat) m:Nat):Int)):=by
 have I:(((m:Nat):Int)%(2^(IntKind.i64).bits:Int)).toNat=m:=by simp only[IntKind.bits];omega
 simp only[binV,ikBeq,ai,intV,bitsV,I]
 have hle:Nat.land ((k%(2^(IntKind.i64).bits:Int)).toNat) m≤m:=Cs
 rw[wrap_i64 (n:=Nat.land ((k%(2^(IntKind.i64).bits:Int)).toNat) m) (by omega)]
def iW (L:List (Int×Int×Int×Int)): List V:=L.flatMap fun d=>[.int .i64 d.1,.int .i64 d.2.1,.int .i64 d.2.2.1,.int .i64 d.2.2.2]
theorem kO : ∀(L:List (Int×Int×Int×Int)),(iW L).length=L.length*4:=by
 intro L
 induction L with
 |nil=>rfl
 |cons d L I=>rw[iW,nj,bP];show 4+(iW L).length=_;rw[I,bq];omega
theorem Hw : ∀ {L:List (Int×Int×Int×Int)} {i:Nat} {d:Int×Int×Int×Int},L[i]?=some d→((iW L).drop (i*4)).take 4=[.int .i64 d.1,.int .i64 d.2.1,.int .i64 d.2.2.1,.int .i64 d.2.2.2]:=by
 intro L
 induction L with
 |nil=>intro i d h;simp at h
 |cons x L I =>
  intro i d h
  cases i with
  |zero=>simp at h;subst h;rfl
  |succ i =>
   have:=I (i:=i) (by simpa using h)
   rw[show(i+1)*4=i*4+4 by omega]
   exact this
def Cc (I:Int): Nat:=Nat.land ((I%(2^(IntKind.i64).bits:Int)).toNat) 3%3
def Ac (D:Int): Nat:=(D%18446744073709551616).toNat
theorem Cd (I:Int): Cc I<3:=jw _ (by decide)
theorem Ce (D:Int): Ac D<18446744073709551616:=by unfold Ac;omega
theorem OM (D:Int): IntKind.wrap .u64 D=(Ac D:Int):=by
 show D%18446744073709551616=_
 unfold Ac;omega
def fq (da:List (Int×Int×Int×Int)): List (Nat×Nat):=(da.take 15).map fun d=>(Cc d.2.2.1,Ac d.2.2.2)
theorem lu (da:List (Int×Int×Int×Int)): (fq da).length=min da.length 15:=by
 rw[fq,fE,j6,Nat.min_comm]
theorem JQ (hi:i<(fq da).length): ∃d,da[i]?=some d∧(fq da)[i]?=some (Cc d.2.2.1,Ac d.2.2.2):=by
 rw[lu] at hi
 have I:da[i]?=some (da[i]'(by omega)):=bp _
 refine⟨_,I,?_⟩
 rw[fq,ni,tU,aF (by omega),I];rfl
theorem Eh {l:List α}{x:α}(h:l[i]?=some x): l.take (i+1)=l.take i++[x]:=by
 have hi:=List.getElem?_eq_some_iff.1 h
 rw[tL hi.1,hi.2]
abbrev Ad (av bv mv ka kb wv rd:V)(c i k:Nat)(nn:V): List (Nat×V):=[(0,av),(1,bv),(2,mv),(3,ka),(4,kb),(11,wv),(12,rd),(13,.ptr c 0),(14,.int .u64 ((1:Nat):Int)),(16,.int .u64 ((2:Nat):Int)),(18,.int .i64 (i:Int)),(19,.int .i64 (k:Int)),(20,nn)]
section
variable {told:cE} {p m:Nat} {rd:V} {cell:List Nat}
noncomputable def ZD : Code:=c6 [1,1,1,0,1,0,0,1,0,0,1,1,1,1,1,1,0,1,0,0,1,0,0,1,1] ((Tryz.f4.body).getD .skip)
theorem Dm (hT:WX told)(JR:da.length≤1048576)(I:mE 3 2 ((fq da).take i) ((fq db).take k) A1 A2 B rs ε cell)(hi:i<(fq da).length)(hk:k≤(fq db).length)
 (s:Sat h (kz 4 av (iW da)::pt c (.cells 2 [.ptr m 0,.int .i64 ((3:Nat):Int)] false)::gV m a 3 (iJ c) [(1,r1,A1),(2,r2,A2)]::SA a p q r .a_ [] 0 ε::S))
 (hE:Has E ((21,.bool true)::Ad av bv mv ka kb wv rd c i k nn))
 (hq:∀E' h' Ei B' eL ah J,mE 3 2 ((fq da).take (i+1)) ((fq db).take k) Ei A2 B' eL ah J→Has E' (Ad av bv mv ka kb wv rd c (i+1) k nn) →
   Sat h' (kz 4 av (iW da)::pt c (.cells 2 [.ptr m 0,.int .i64 ((3:Nat):Int)] false)::gV m a 3 (iJ c) [(1,r1,Ei),(2,r2,A2)]::SA a p q r .a_ [] 0 ah::S)→Q .normal E' h'): WP ⟨Tryz.prog,told⟩ 195 ZD E h Q:=by
 have hW:=hT.w
 obtain⟨d,hd,v7⟩:=JQ hi
 have hdi:=(List.getElem?_eq_some_iff.1 hd).1
 have mz:=Hw hd
 obtain⟨id,off,g1,_,g3⟩:=s.Ou (P:=Tryz.prog) (i:=i) (j:=0) rfl (by rw[kO];omega) (by decide) mS Vp Vq
 rw[mz] at g3
 have e1:=lu da
 have e2:=lu db
 have uN:((fq da).take i).length≤15:=by rw[j6];omega
 have gA:((fq db).take k).length≤15:=by rw[j6];omega
 obtain⟨g_,hkp⟩:=I.Wz (r1:=r1) (r2:=r2) uN gA
 have ej:=I.sz
 have RY:=I.bb
 have cA:=I.t1.lt
 have aaL:=I.t1.eq
 have AZ:=I.t1.cost uN
 have Yg:Nat.land ((d.2.2.1%(2^(IntKind.i64).bits:Int)).toNat) 3≤3:=Cs
 refine WP.has hE (zK 7 rfl (WP.drawn [af,af,af,af,af,af,af,af,af,af,af,af,af,af,af,af] rfl (by kernel_rfl) (by kernel_rfl) ?_))
 refine zM rfl (zM rfl (zM rfl (zM rfl (zO rfl (cu (r:=.ptr id off) rfl rfl g1) (zF rfl (MM _ _) (zL rfl (g3 2 _ _ rfl ep) (zO rfl (ak (r:=.int .i64 (Nat.land ((d.2.2.1%(2^(IntKind.i64).bits:Int)).toNat) 3:Nat)) rfl rfl (Hv (m:=3) (by decide))) ?_)))))))
 refine zO rfl (ak (r:=.int .i64 (Cc d.2.2.1:Int)) rfl rfl (B9 (b:=3) (by decide) (by omega))) ?_
 refine zM rfl (zM rfl (zO rfl (cu (r:=.ptr id off) rfl rfl g1) (zF rfl (MN _ _) (zL rfl (g3 3 _ _ rfl ML) (az.any rfl rfl rfl rfl (OpR.call rfl rfl rfl rfl (AO (j:=0) (id:=1) (i:=Cc d.2.2.1) (dn:=Ac d.2.2.2) hT (by omega) I.tx (by decide) (by omega) (by decide) g_ rfl (by decide) (by omega) (by omega) (by omega) (by decide) I.ct (Cd _) (by decide) (OM _) (Ce _) (s.ae [1,1,1]))) ?_)))))
 rintro v h ⟨c',cost,ah,rfl,uV,hlen,LH,OL,s⟩
 refine az.lG rfl rfl rfl rfl (ak rfl rfl c4) (rfl) ?_
 refine az.nil ⟨⟨aa,aa,aa,aa,aa,aa,aa,aa,aa,aa,aa,aa,aa,aa,aa,aa,aa⟩,?_⟩
 have qh:=I.aay (i:=Cc d.2.2.1) (dn:=Ac d.2.2.2) (Nat.lt_trans (Cd _) (by decide)) (Ce _) LH OL uV hlen
 rw[←Eh v7] at qh
 refine zK 4 rfl (zo rfl (ak (r:=.int .i64 ((i+1:Nat):Int)) rfl rfl (by rw[show((i+1:Nat):Int)=(i:Int)+1 by omega];exact aR (ax (by omega) (by omega)))) ?_)
 refine za rfl (zv ?_)
 exact hq _ _ _ _ _ _ _ qh ⟨rfl,rfl,rfl,rfl,rfl,rfl,rfl,rfl,rfl,rfl,rfl,rfl,rfl,aa⟩ (s.ae [3])
theorem Dn (hT:WX told)(rS:db.length≤1048576)(I:mE 3 2 ((fq da).take i) ((fq db).take k) A1 A2 B rs ε cell)(hi:i≤(fq da).length)(hk:k<(fq db).length)
 (s:Sat h (kz 4 bv (iW db)::pt c (.cells 2 [.ptr m 0,.int .i64 ((3:Nat):Int)] false)::gV m a 3 (iJ c) [(1,r1,A1),(2,r2,A2)]::SA a p q r .a_ [] 0 ε::S))
 (hE:Has E ((21,.bool false)::Ad av bv mv ka kb wv rd c i k nn))
 (hq:∀E' h' Ej B' eL ah J,mE 3 2 ((fq da).take i) ((fq db).take (k+1)) A1 Ej B' eL ah J→Has E' (Ad av bv mv ka kb wv rd c i (k+1) nn) →
   Sat h' (kz 4 bv (iW db)::pt c (.cells 2 [.ptr m 0,.int .i64 ((3:Nat):Int)] false)::gV m a 3 (iJ c) [(1,r1,A1),(2,r2,Ej)]::SA a p q r .a_ [] 0 ah::S)→Q .normal E' h'): WP ⟨Tryz.prog,told⟩ 195 ZD E h Q:=by
 have hW:=hT.w
 obtain⟨d,hd,v7⟩:=JQ hk
 have hdi:=(List.getElem?_eq_some_iff.1 hd).1
 have mz:=Hw hd
 obtain⟨id,off,g1,_,g3⟩:=s.Ou (P:=Tryz.prog) (i:=k) (j:=0) rfl (by rw[kO];omega) (by decide) mS Vp Vq
 rw[mz] at g3
 have e1:=lu da
 have e2:=lu db
 have uN:((fq da).take i).length≤15:=by rw[j6];omega
 have gA:((fq db).take k).length≤15:=by rw[j6];omega
 obtain⟨g_,hkp⟩:=I.Wz (r1:=r1) (r2:=r2) uN gA
 have ej:=I.sz
 have RY:=I.bb
 have cA:=I.t2.lt
 have aaL:=I.t2.eq
 have AZ:=I.t2.cost gA
 have Yg:Nat.land ((d.2.2.1%(2^(IntKind.i64).bits:Int)).toNat) 3≤3:=Cs
 refine WP.has hE (zK 7 rfl (WP.drawn [af,af,af,af,af,af,af,af,af,af,af,af,af,af,af,af] rfl (by kernel_rfl) (by kernel_rfl) ?_))
 refine zM rfl (zM rfl (zM rfl (zM rfl (zO rfl (cu (r:=.ptr id off) rfl rfl g1) (zF rfl (MM _ _) (zL rfl (g3 2 _ _ rfl ep) (zO rfl (ak (r:=.int .i64 (Nat.land ((d.2.2.1%(2^(IntKind.i64).bits:Int)).toNat) 3:Nat)) rfl rfl (Hv (m:=3) (by decide))) ?_)))))))
 refine zO rfl (ak (r:=.int .i64 (Cc d.2.2.1:Int)) rfl rfl (B9 (b:=3) (by decide) (by omega))) ?_
 refine zM rfl (zM rfl (zO rfl (cu (r:=.ptr id off) rfl rfl g1) (zF rfl (MN _ _) (zL rfl (g3 3 _ _ rfl ML) (az.any rfl rfl rfl rfl (OpR.call rfl rfl rfl rfl (AO (j:=1) (id:=2) (i:=Cc d.2.2.1) (dn:=Ac d.2.2.2) hT (by omega) I.tx (by decide) (by omega) (by decide) g_ rfl (by decide) (by omega) (by omega) (by omega) (by decide) I.ct (Cd _) (by decide) (OM _) (Ce _) (s.ae [1,1,1]))) ?_)))))
 rintro v h ⟨c',cost,ah,rfl,uV,hlen,LH,OL,s⟩
 refine az.lG rfl rfl rfl rfl (ak rfl rfl c4) (rfl) ?_
 refine az.nil ⟨⟨aa,aa,aa,aa,aa,aa,aa,aa,aa,aa,aa,aa,aa,aa,aa,aa,aa⟩,?_⟩
 have qh:=I.aaz (i:=Cc d.2.2.1) (dn:=Ac d.2.2.2) (Nat.lt_trans (Cd _) (by decide)) (Ce _) LH OL uV hlen
 rw[←Eh v7] at qh
 refine zK 4 rfl (zo rfl (ak (r:=.int .i64 ((k+1:Nat):Int)) rfl rfl (by rw[show((k+1:Nat):Int)=(k:Int)+1 by omega];exact aR (ax (by omega) (by omega)))) ?_)
 refine za rfl (zv ?_)
 exact hq _ _ _ _ _ _ _ qh ⟨rfl,rfl,rfl,rfl,rfl,rfl,rfl,rfl,rfl,rfl,rfl,rfl,rfl,aa⟩ (s.ae [3])
end
section
variable {told:cE} {m p:Nat} {rd:Nat}
theorem Sj {ts:Array TypeId}: builtinV P h .min ts [.int .i64 (da.length:Int),.int .i64 15]=some (.int .i64 ((fq da).length:Int),h):=by
 rw[Z4,lu,show min (da.length:Int) 15=((min da.length 15:Nat):Int) by omega]
theorem T9 {y:Operand}{a b:Int}: ∃z,binV P h .and t x y (.int .u8 a) (.int .u8 b)=some (.int .u8 z):=by
 simp only[binV,ikBeq,ai,intV,bitsV]
 exact⟨_,rfl⟩
noncomputable def orL : Code:=c6 [1,1,1,0,1,0,0,1,0,0,1,1,1,1,1,1,0,1,0,0] ((Tryz.f4.body).getD .skip)
theorem Rm (hT:WX told)(JR:da.length≤1048576)(rS:db.length≤1048576)(AS:mix.length≤1048576): ∀(j i k:Nat) (A1 A2:mT) (B:Nat) (rs:List dG) (ε:bA) (cell:List Nat) (h:H) (E:List (Nat×V)) (Q:Ex→List (Nat×V)→H→Prop),(fq da).length-i+((fq db).length-k)=j→i≤(fq da).length→k≤(fq db).length →
  mE 3 2 ((fq da).take i) ((fq db).take k) A1 A2 B rs ε cell →
  Sat h (kz 4 av (iW da)::kz 4 bv (iW db)::.cL mv mix::pt c (.cells 2 [.ptr m 0,.int .i64 ((3:Nat):Int)] false)::gV m a 3 (iJ c) [(1,r1,A1),(2,r2,A2)]::SA a p q r .a_ [] 0 ε::S) →
  Has E (Ad av bv mv ka kb wv (.int .i64 (rd:Int)) c i k (.int .i64 ((i+k:Nat):Int))) →
  (∀E' h' A1 A2 B rs ε cell i' k' nn,mE 3 2 (fq da) (fq db) A1 A2 B rs ε cell→Has E' (Ad av bv mv ka kb wv (.int .i64 (rd:Int)) c i' k' nn) →
   Sat h' (kz 4 av (iW da)::kz 4 bv (iW db)::.cL mv mix::pt c (.cells 2 [.ptr m 0,.int .i64 ((3:Nat):Int)] false)::gV m a 3 (iJ c) [(1,r1,A1),(2,r2,A2)]::SA a p q r .a_ [] 0 ε::S)→Q (.exit 2) E' h') →
  WP ⟨Tryz.prog,told⟩ 195 (.loop orL) E h Q:=by
 have hW:=hT.w
 have rV:∀ {h:H} {ts:Array TypeId},builtinV Tryz.prog h .min ts [.int .i64 (da.length:Int),.int .i64 15]=some (.int .i64 ((fq da).length:Int),h):=Sj
 have sM:∀ {h:H} {ts:Array TypeId},builtinV Tryz.prog h .min ts [.int .i64 (db.length:Int),.int .i64 15]=some (.int .i64 ((fq db).length:Int),h):=Sj
 have el1:=lu da
 have el2:=lu db
 intro j
 induction j with
 |zero =>
  intro i k A1 A2 B rs ε cell h E Q hj hi hk hI s hE hq
  rw[fS (show(fq da).length≤i by omega),fS (show(fq db).length≤k by omega)] at hI
  refine WP.loop (WP.has hE (zK 5 rfl (zo rfl (aQ rfl rfl rfl (s.sn (n:=da.length) (j:=0) rfl (kO _) (by decide) mS)) ?_)))
  refine zo rfl (Ao (r:=.int .i64 ((fq da).length:Int)) rfl rfl rV) (zC rfl aJ (by simp;omega) ?_)
  refine zk 3 rfl (zo rfl (aQ rfl rfl rfl (s.sn (n:=db.length) (j:=1) rfl (kO _) (by decide) mS)) ?_)
  refine zo rfl (Ao (r:=.int .i64 ((fq db).length:Int)) rfl rfl sM) (zC rfl aJ (by simp;omega) ?_)
  exact zk 3 rfl (WP.exit (hq _ _ A1 A2 B rs ε cell i k _ hI ⟨rfl,rfl,rfl,rfl,rfl,rfl,rfl,rfl,rfl,rfl,rfl,rfl,rfl,aa⟩ s))
 |succ j ih =>
  intro i k A1 A2 B rs ε cell h E Q hj hi hk hI s hE hq
  refine WP.loop (WP.has hE (zK 5 rfl (zo rfl (aQ rfl rfl rfl (s.sn (n:=da.length) (j:=0) rfl (kO _) (by decide) mS)) ?_)))
  refine zo rfl (Ao (r:=.int .i64 ((fq da).length:Int)) rfl rfl rV) ?_
  by_cases c1:i<(fq da).length
  ·skip
   refine zB rfl aJ (by simp;omega) ?_
   refine zk 11 rfl (WP.block (zK 4 rfl (zo rfl (aQ rfl rfl rfl (s.sn (n:=da.length) (j:=0) rfl (kO _) (by decide) mS)) ?_)))
   refine zo rfl (Ao (r:=.int .i64 ((fq da).length:Int)) rfl rfl rV) (zB rfl aJ (by simp;omega) ?_)
   refine zk 9 rfl (zo rfl (aQ rfl rfl rfl (s.sn (n:=db.length) (j:=1) rfl (kO _) (by decide) mS)) ?_)
   refine zo rfl (Ao (r:=.int .i64 ((fq db).length:Int)) rfl rfl sM) ?_
   by_cases c2:k<(fq db).length
   ·skip
    refine zB rfl aJ (by simp;omega) ?_
    refine zk 5 rfl ?_
    refine zd rfl (ak rfl rfl c4) ?_ ?_
    ·intro F_
     refine zk 18 rfl ?_
     have s:=s.ae [0,2,2,2]
     dsimp only[bringA,getA,aC] at s
     refine Dm (bv:=bv) (mv:=mv) (ka:=ka) (kb:=kb) (wv:=wv) (rd:=.int .i64 (rd:Int)) (nn:=.int .i64 ((i+k:Nat):Int)) hT JR hI c1 hk s ⟨rfl,rfl,rfl,rfl,rfl,rfl,rfl,rfl,rfl,rfl,rfl,rfl,rfl,rfl,aa⟩ fun E' h' Ei B' eL ah I J eF s' => ?_
     have s:=s'
     refine WP.has eF (zK 2 rfl (zo rfl (ak (r:=.int .i64 ((i+1+k:Nat):Int)) rfl rfl (by rw[show((i+1+k:Nat):Int)=((i+k:Nat):Int)+1 by omega];exact aR (ax (by omega) (by omega)))) ?_))
     refine za rfl (zv ?_)
     exact ih (i+1) k Ei A2 B' eL ah I _ _ Q (by omega) (by omega) hk J (s.ae [0,3,3,0,0,0]) ⟨rfl,rfl,rfl,rfl,rfl,rfl,rfl,rfl,rfl,rfl,rfl,rfl,rfl,aa⟩ hq
    ·intro F_
     have WL:=(s.aD (k:=2) rfl (eC _ _))
     refine zk 2 rfl (zo rfl (aQ rfl rfl rfl (bh aM WL)) ?_)
     by_cases c3:0<mix.length
     ·skip
      refine zB rfl fI (by simp;omega) ?_
      obtain⟨z,hz⟩:∃z,mix[(i+k)%mix.length]?=some z:=⟨_,bp (jw _ c3)⟩
      obtain⟨id,off,g1,g2⟩:=er WL hz
      refine zk 4 rfl (zo rfl (aQ rfl rfl rfl (bh aM WL)) (zo rfl (ak (r:=.int .i64 (((i+k)%mix.length:Nat):Int)) rfl rfl (B9 c3 (by omega))) ?_))
      refine zo rfl (cu (r:=.ptr id off) rfl rfl g1) (zl rfl g2 ?_)
      obtain⟨z1,rH⟩:=T9 (P:=Tryz.prog) (h:=h) (t:=5) (x:=.tmp 87) (y:=.const (.int .u8 1)) (a:=(z:Int)) (b:=1)
      refine zo rfl (ak (r:=.int .u8 z1) rfl rfl rH) ?_
      refine zd rfl (ak rfl rfl c4) ?_ ?_
      ·intro jl
       refine zk 4 rfl ?_
       have s:=s.ae [0,2,2,2]
       dsimp only[bringA,getA,aC] at s
       refine Dm (bv:=bv) (mv:=mv) (ka:=ka) (kb:=kb) (wv:=wv) (rd:=.int .i64 (rd:Int)) (nn:=.int .i64 ((i+k:Nat):Int)) hT JR hI c1 hk s ⟨rfl,rfl,rfl,rfl,rfl,rfl,rfl,rfl,rfl,rfl,rfl,rfl,rfl,rfl,aa⟩ fun E' h' Ei B' eL ah I J eF s' => ?_
       have s:=s'
       refine WP.has eF (zK 2 rfl (zo rfl (ak (r:=.int .i64 ((i+1+k:Nat):Int)) rfl rfl (by rw[show((i+1+k:Nat):Int)=((i+k:Nat):Int)+1 by omega];exact aR (ax (by omega) (by omega)))) ?_))
       refine za rfl (zv ?_)
       exact ih (i+1) k Ei A2 B' eL ah I _ _ Q (by omega) (by omega) hk J (s.ae [0,3,3,0,0,0]) ⟨rfl,rfl,rfl,rfl,rfl,rfl,rfl,rfl,rfl,rfl,rfl,rfl,rfl,aa⟩ hq
      ·intro jl
       refine zk 4 rfl ?_
       have s:=s.ae [1,2,2,2]
       dsimp only[bringA,getA,aC] at s
       refine Dn (av:=av) (mv:=mv) (ka:=ka) (kb:=kb) (wv:=wv) (rd:=.int .i64 (rd:Int)) (nn:=.int .i64 ((i+k:Nat):Int)) hT rS hI hi c2 s ⟨rfl,rfl,rfl,rfl,rfl,rfl,rfl,rfl,rfl,rfl,rfl,rfl,rfl,rfl,aa⟩ fun E' h' Ej B' eL ah I J eF s' => ?_
       have s:=s'
       refine WP.has eF (zK 2 rfl (zo rfl (ak (r:=.int .i64 ((i+(k+1):Nat):Int)) rfl rfl (by rw[show((i+(k+1):Nat):Int)=((i+k:Nat):Int)+1 by omega];exact aR (ax (by omega) (by omega)))) ?_))
       refine za rfl (zv ?_)
       exact ih i (k+1) A1 Ej B' eL ah I _ _ Q (by omega) hi (by omega) J (s.ae [4,0,3,0,0,0]) ⟨rfl,rfl,rfl,rfl,rfl,rfl,rfl,rfl,rfl,rfl,rfl,rfl,rfl,aa⟩ hq
     ·skip
      refine zC rfl fI (decide_eq_false (by omega)) ?_
      refine zk 14 rfl ?_
      have s:=s.ae [1,2,2,2]
      dsimp only[bringA,getA,aC] at s
      refine Dn (av:=av) (mv:=mv) (ka:=ka) (kb:=kb) (wv:=wv) (rd:=.int .i64 (rd:Int)) (nn:=.int .i64 ((i+k:Nat):Int)) hT rS hI hi c2 s ⟨rfl,rfl,rfl,rfl,rfl,rfl,rfl,rfl,rfl,rfl,rfl,rfl,rfl,rfl,aa⟩ fun E' h' Ej B' eL ah I J eF s' => ?_
      have s:=s'
      refine WP.has eF (zK 2 rfl (zo rfl (ak (r:=.int .i64 ((i+(k+1):Nat):Int)) rfl rfl (by rw[show((i+(k+1):Nat):Int)=((i+k:Nat):Int)+1 by omega];exact aR (ax (by omega) (by omega)))) ?_))
      refine za rfl (zv ?_)
      exact ih i (k+1) A1 Ej B' eL ah I _ _ Q (by omega) hi (by omega) J (s.ae [4,0,3,0,0,0]) ⟨rfl,rfl,rfl,rfl,rfl,rfl,rfl,rfl,rfl,rfl,rfl,rfl,rfl,aa⟩ hq
   ·skip
    refine zC rfl aJ (by simp;omega) ?_
    refine zk 4 rfl ?_
    have s:=s.ae [0,2,2,2]
    dsimp only[bringA,getA,aC] at s
    refine Dm (bv:=bv) (mv:=mv) (ka:=ka) (kb:=kb) (wv:=wv) (rd:=.int .i64 (rd:Int)) (nn:=.int .i64 ((i+k:Nat):Int)) hT JR hI c1 hk s ⟨rfl,rfl,rfl,rfl,rfl,rfl,rfl,rfl,rfl,rfl,rfl,rfl,rfl,rfl,aa⟩ fun E' h' Ei B' eL ah I J eF s' => ?_
    have s:=s'
    refine WP.has eF (zK 2 rfl (zo rfl (ak (r:=.int .i64 ((i+1+k:Nat):Int)) rfl rfl (by rw[show((i+1+k:Nat):Int)=((i+k:Nat):Int)+1 by omega];exact aR (ax (by omega) (by omega)))) ?_))
    refine za rfl (zv ?_)
    exact ih (i+1) k Ei A2 B' eL ah I _ _ Q (by omega) (by omega) hk J (s.ae [0,3,3,0,0,0]) ⟨rfl,rfl,rfl,rfl,rfl,rfl,rfl,rfl,rfl,rfl,rfl,rfl,rfl,aa⟩ hq
  ·skip
   refine zC rfl aJ (by simp;omega) ?_
   have c2:k<(fq db).length:=by omega
   refine zk 3 rfl (zo rfl (aQ rfl rfl rfl (s.sn (n:=db.length) (j:=1) rfl (kO _) (by decide) mS)) ?_)
   refine zo rfl (Ao (r:=.int .i64 ((fq db).length:Int)) rfl rfl sM) (zB rfl aJ (by simp;omega) ?_)
   refine zk 5 rfl (WP.block (zK 4 rfl (zo rfl (aQ rfl rfl rfl (s.sn (n:=da.length) (j:=0) rfl (kO _) (by decide) mS)) ?_)))
   refine zo rfl (Ao (r:=.int .i64 ((fq da).length:Int)) rfl rfl rV) (zC rfl aJ (by simp;omega) ?_)
   refine zk 16 rfl ?_
   have s:=s.ae [1,2,2,2]
   dsimp only[bringA,getA,aC] at s
   refine Dn (av:=av) (mv:=mv) (ka:=ka) (kb:=kb) (wv:=wv) (rd:=.int .i64 (rd:Int)) (nn:=.int .i64 ((i+k:Nat):Int)) hT rS hI hi c2 s ⟨rfl,rfl,rfl,rfl,rfl,rfl,rfl,rfl,rfl,rfl,rfl,rfl,rfl,rfl,aa⟩ fun E' h' Ej B' eL ah I J eF s' => ?_
   have s:=s'
   refine WP.has eF (zK 2 rfl (zo rfl (ak (r:=.int .i64 ((i+(k+1):Nat):Int)) rfl rfl (by rw[show((i+(k+1):Nat):Int)=((i+k:Nat):Int)+1 by omega];exact aR (ax (by omega) (by omega)))) ?_))
   refine za rfl (zv ?_)
   exact ih i (k+1) A1 Ej B' eL ah I _ _ Q (by omega) hi (by omega) J (s.ae [4,0,3,0,0,0]) ⟨rfl,rfl,rfl,rfl,rfl,rfl,rfl,rfl,rfl,rfl,rfl,rfl,rfl,aa⟩ hq
end
structure Ae (n k:Nat)(v1:Nat→Nat)(l2:List (Nat×Nat))(A2:mT)(B:Nat)(rs:List dG)(ε:bA)(cell:List Nat): Prop where
 tx:TxI 32 B 262144 1 0 [] rs ε
 ct:fN 32 n k cell (pgA ε)
 bb:B≤102
 sz:szB rs≤65240
 val:∀j,j<50→dw cell j=(v1 j+addS l2 j)%18446744073709551616
 t2:kM k 1 rs A2 l2
section
variable {cell:List Nat} {v1:Nat→Nat}
theorem Hx {l:List (Nat×Nat)}{f:Nat→Nat}(hc:cell.length=400)(hl:∀x∈l,x.1<50∧x.2<18446744073709551616)(J:∀j,j<50→dw cell j=(addS l j+f j)%18446744073709551616): ∀j,j<50→dw (offC cell l.reverse) j=f j%18446744073709551616:=by
 intro j I
 obtain⟨h1,h2⟩:=T2 (l:=l.reverse) hc (fun x hx=>hl x (List.mem_reverse.1 hx)) (fun j I=>by rw[J j I];exact jw _ (by decide)) j I
 rw[Rc,J j I] at h2
 omega
theorem mE.JS (h:mE n k l1 l2 A1 A2 B rs ε cell)(I:TxI 32 (B+2) 262144 1 0 [] (rs++eL) ah)(J:∀m,pgA ah m=pgA ε m)(hs:szB eL≤40)(h1:l1.length≤15)(h2:l2.length≤15): Ae n k (addS l1) l2 A2 (B+2) (rs++eL) ah cell:=by
 have:=h.bb
 have:=h.sz
 exact⟨I,h.ct.sA J,by omega,by rw[iF];omega,h.val,h.t2.other _⟩
theorem mE.ON (h:mE n k l1 l2 A1 A2 B rs ε cell)(I:TxI 32 (B+2*l1.length+2) 262144 1 0 [] (rs++eL) ah)(J:fN 32 n k (offC cell l1.reverse) (pgA ah))(hs:szB eL≤560*l1.length+40)(h1:l1.length≤15)(h2:l2.length≤15): Ae n k (fun _=>0) l2 A2 (B+2*l1.length+2) (rs++eL) ah (offC cell l1.reverse):=by
 have:=h.bb
 have:=h.sz
 exact⟨I,J,by omega,by rw[iF];omega,fun j hj=>by rw[Hx h.ct.len h.t1.ok h.val j hj];simp,h.t2.other _⟩
theorem Ae.JT (h:Ae n k v1 l2 A2 B rs ε cell)(I:∀m,pgA ah m=pgA ε m): fN 32 n k cell (pgA ah)∧∀j,j<50→dw cell j=(v1 j+addS l2 j)%18446744073709551616:=⟨h.ct.sA I,h.val⟩
theorem Ae.OO (h:Ae n k v1 l2 A2 B rs ε cell)(I:fN 32 n k (offC cell l2.reverse) (pgA ah)): fN 32 n k (offC cell l2.reverse) (pgA ah)∧∀j,j<50→dw (offC cell l2.reverse) j=(v1 j+0)%18446744073709551616 :=
 ⟨I,Hx (f:=v1) h.ct.len h.t2.ok fun j J=>by rw[h.val j J,yh]⟩
def Sk (iO:Bool)(l:List (Nat×Nat))(j:Nat): Nat:=cond iO (addS l j) 0
end
section
variable {told:cE} {m p:Nat} {rd:V} {cell:List Nat} {ka kb:Bool}
noncomputable def aaM : Code:=c6 [1,1,1,0,1,0,0,1,0,0,1,1,1,1,1,1,1,0] ((Tryz.f4.body).getD .skip)
theorem T_ (hT:WX told)(hI:mE 3 2 l1 l2 A1 A2 B rs ε cell)(h1:l1.length≤15)(h2:l2.length≤15)
 (s:Sat h (pt c (.cells 2 [.ptr m 0,.int .i64 ((3:Nat):Int)] false)::gV m a 3 (iJ c) [(1,r1,A1),(2,r2,A2)]::SA a p q r .a_ [] 0 ε::S))
 (hE:Has E (Ad av bv mv (.bool ka) (.bool kb) wv rd c i k nn))
 (hq:∀E' h' Sl ah,EI 32 900 ah→fN 32 3 2 Sl (pgA ah)→(∀j,j<50→dw Sl j=(Sk ka l1 j+Sk kb l2 j)%18446744073709551616)→Has E' (Ad av bv mv (.bool ka) (.bool kb) wv rd c i k nn) →
   Sat h' (pt c (.cells 2 [.ptr m 0,.int .i64 ((3:Nat):Int)] false)::gV m a 3 (iJ c) []::SA a p q r .a_ [] 0 ah::S)→Q .normal E' h'): WP ⟨Tryz.prog,told⟩ 195 aaM E h Q:=by
 have hW:=hT.w
 have b1:=hI.bb
 have b2:=hI.sz
 have b3:=hI.t1.lt
 have b4:=hI.t1.eq
 have b5:=hI.t1.cost h1
 cases ka with
 |true =>
  cases kb with
  |true =>
   refine WP.has hE (zK 5 rfl (zc rfl (ga hW s) ?_))
   rintro v h' ⟨rfl,rfl⟩
   refine zm rfl ?_
   have s:=s.ae [1,1]
   dsimp only[bringA,getA,aC] at s
   refine zc rfl (tq (i:=0) hT.wo.wt (by omega) hI.tx (by omega) (by decide) (by decide) rfl (show A1.dF<2097152 by omega) (by omega) s) ?_
   rintro v h ⟨rfl,fC,lE,G4,J,oG,s⟩
   have I:Ae 3 2 (addS l1) l2 A2 (B+2) (rs++fC) lE cell:=hI.JS oG G4 J h1 h2
   refine zC rfl aA (rfl) (zk 3 rfl (zo rfl (dB rfl rfl) (zk 9 rfl ?_)))
   have q1:=I.bb
   have q2:=I.sz
   have q3:=I.t2.lt
   have q4:=I.t2.eq
   have q5:=I.t2.cost h2
   refine zk 3 rfl ?_
   have s:=s.ae [2]
   dsimp only[bringA,getA,aC] at s
   refine zc rfl (ga hW s) ?_
   rintro v h' ⟨rfl,rfl⟩
   refine zm rfl ?_
   have s:=s.ae [1,1]
   dsimp only[bringA,getA,aC] at s
   refine zc rfl (tq (i:=0) hT.wo.wt (by omega) I.tx (by omega) (by decide) (by decide) rfl (show A2.dF<2097152 by omega) (by omega) s) ?_
   rintro v h ⟨rfl,nV,oH,Ho,Lx,qh,s⟩
   obtain⟨rH,zW⟩:=I.JT Ho
   refine zh rfl (ak rfl rfl aA) (rfl) (zk 4 rfl (zo rfl (dB rfl rfl) (zk 8 rfl (zv (zj rfl (WP.skip ?_))))))
   exact hq _ _ _ oH (qh.ei.more (show _≤900 by omega)) rH zW ⟨rfl,rfl,rfl,rfl,rfl,rfl,rfl,rfl,rfl,rfl,rfl,rfl,rfl,aa⟩ (s.ae [2])
  |false =>
   refine WP.has hE (zK 5 rfl (zc rfl (ga hW s) ?_))
   rintro v h' ⟨rfl,rfl⟩
   refine zm rfl ?_
   have s:=s.ae [1,1]
   dsimp only[bringA,getA,aC] at s
   refine zc rfl (tq (i:=0) hT.wo.wt (by omega) hI.tx (by omega) (by decide) (by decide) rfl (show A1.dF<2097152 by omega) (by omega) s) ?_
   rintro v h ⟨rfl,fC,lE,G4,J,oG,s⟩
   have I:Ae 3 2 (addS l1) l2 A2 (B+2) (rs++fC) lE cell:=hI.JS oG G4 J h1 h2
   refine zC rfl aA (rfl) (zk 3 rfl (zo rfl (dB rfl rfl) (zk 9 rfl ?_)))
   have q1:=I.bb
   have q2:=I.sz
   have q3:=I.t2.lt
   have q4:=I.t2.eq
   have q5:=I.t2.cost h2
   refine zk 11 rfl (zo rfl (dB rfl rfl) (zk 2 rfl ?_))
   have s:=s.ae [2]
   dsimp only[bringA,getA,aC] at s
   refine zc rfl (ga hW s) ?_
   rintro v h' ⟨rfl,rfl⟩
   refine zm rfl ?_
   have s:=s.ae [1,1]
   dsimp only[bringA,getA,aC] at s
   refine zc rfl (vO (i:=0) hT.wo.wt (by decide) I.tx (by decide) (by decide) rfl I.t2.ch I.ct (by rw[gI];omega) (by rw[gI];omega) (by rw[gI];omega) (show A2.dF≤1+szB (rs++fC) by omega) (show A2.jj≤1+szB (rs++fC) by omega) (show A2.dn.length≤1000 by omega) I.t2.pos s) ?_
   rintro v h ⟨rfl,nV,oH,Rn,Lx,qh,s⟩
   obtain⟨rH,zW⟩:=I.OO Rn
   rw[gI] at qh
   refine zh rfl (ak rfl rfl aA) (rfl) (zk 2 rfl (zv (zj rfl (WP.skip ?_))))
   exact hq _ _ _ oH (qh.ei.more (show _≤900 by omega)) rH zW ⟨rfl,rfl,rfl,rfl,rfl,rfl,rfl,rfl,rfl,rfl,rfl,rfl,rfl,aa⟩ (s.ae [2])
 |false =>
  cases kb with
  |true =>
   refine WP.has hE (zK 12 rfl (zo rfl (dB rfl rfl) (zk 2 rfl (zc rfl (ga hW s) ?_))))
   rintro v h' ⟨rfl,rfl⟩
   refine zm rfl ?_
   have s:=s.ae [1,1]
   dsimp only[bringA,getA,aC] at s
   refine zc rfl (vO (i:=0) hT.wo.wt (by decide) hI.tx (by decide) (by decide) rfl hI.t1.ch hI.ct (by rw[gI];omega) (by rw[gI];omega) (by rw[gI];omega) (show A1.dF≤1+szB rs by omega) (show A1.jj≤1+szB rs by omega) (show A1.dn.length≤1000 by omega) hI.t1.pos s) ?_
   rintro v h ⟨rfl,fC,lE,Ro,J,oG,s⟩
   rw[gI] at J oG
   have I:Ae 3 2 (fun _=>0) l2 A2 (B+2*l1.length+2) (rs++fC) lE (offC cell l1.reverse):=hI.ON oG Ro J h1 h2
   refine zC rfl aA (rfl) (zk 3 rfl ?_)
   have q1:=I.bb
   have q2:=I.sz
   have q3:=I.t2.lt
   have q4:=I.t2.eq
   have q5:=I.t2.cost h2
   refine zk 3 rfl ?_
   have s:=s.ae [2]
   dsimp only[bringA,getA,aC] at s
   refine zc rfl (ga hW s) ?_
   rintro v h' ⟨rfl,rfl⟩
   refine zm rfl ?_
   have s:=s.ae [1,1]
   dsimp only[bringA,getA,aC] at s
   refine zc rfl (tq (i:=0) hT.wo.wt (by omega) I.tx (by omega) (by decide) (by decide) rfl (show A2.dF<2097152 by omega) (by omega) s) ?_
   rintro v h ⟨rfl,nV,oH,Ho,Lx,qh,s⟩
   obtain⟨rH,zW⟩:=I.JT Ho
   refine zh rfl (ak rfl rfl aA) (rfl) (zk 4 rfl (zo rfl (dB rfl rfl) (zk 8 rfl (zv (zj rfl (WP.skip ?_))))))
   exact hq _ _ _ oH (qh.ei.more (show _≤900 by omega)) rH zW ⟨rfl,rfl,rfl,rfl,rfl,rfl,rfl,rfl,rfl,rfl,rfl,rfl,rfl,aa⟩ (s.ae [2])
  |false =>
   refine WP.has hE (zK 12 rfl (zo rfl (dB rfl rfl) (zk 2 rfl (zc rfl (ga hW s) ?_))))
   rintro v h' ⟨rfl,rfl⟩
   refine zm rfl ?_
   have s:=s.ae [1,1]
   dsimp only[bringA,getA,aC] at s
   refine zc rfl (vO (i:=0) hT.wo.wt (by decide) hI.tx (by decide) (by decide) rfl hI.t1.ch hI.ct (by rw[gI];omega) (by rw[gI];omega) (by rw[gI];omega) (show A1.dF≤1+szB rs by omega) (show A1.jj≤1+szB rs by omega) (show A1.dn.length≤1000 by omega) hI.t1.pos s) ?_
   rintro v h ⟨rfl,fC,lE,Ro,J,oG,s⟩
   rw[gI] at J oG
   have I:Ae 3 2 (fun _=>0) l2 A2 (B+2*l1.length+2) (rs++fC) lE (offC cell l1.reverse):=hI.ON oG Ro J h1 h2
   refine zC rfl aA (rfl) (zk 3 rfl ?_)
   have q1:=I.bb
   have q2:=I.sz
   have q3:=I.t2.lt
   have q4:=I.t2.eq
   have q5:=I.t2.cost h2
   refine zk 11 rfl (zo rfl (dB rfl rfl) (zk 2 rfl ?_))
   have s:=s.ae [2]
   dsimp only[bringA,getA,aC] at s
   refine zc rfl (ga hW s) ?_
   rintro v h' ⟨rfl,rfl⟩
   refine zm rfl ?_
   have s:=s.ae [1,1]
   dsimp only[bringA,getA,aC] at s
   refine zc rfl (vO (i:=0) hT.wo.wt (by decide) I.tx (by decide) (by decide) rfl I.t2.ch I.ct (by rw[gI];omega) (by rw[gI];omega) (by rw[gI];omega) (show A2.dF≤1+szB (rs++fC) by omega) (show A2.jj≤1+szB (rs++fC) by omega) (show A2.dn.length≤1000 by omega) I.t2.pos s) ?_
   rintro v h ⟨rfl,nV,oH,Rn,Lx,qh,s⟩
   obtain⟨rH,zW⟩:=I.OO Rn
   rw[gI] at qh
   refine zh rfl (ak rfl rfl aA) (rfl) (zk 2 rfl (zv (zj rfl (WP.skip ?_))))
   exact hq _ _ _ oH (qh.ei.more (show _≤900 by omega)) rH zW ⟨rfl,rfl,rfl,rfl,rfl,rfl,rfl,rfl,rfl,rfl,rfl,rfl,rfl,aa⟩ (s.ae [2])
end
section
variable {told:cE} {m p w:Nat} {cell:List Nat}
def ng (cell:List Nat)(j:Nat): Int:=IntKind.wrap .i64 (dw cell j:Nat)
noncomputable def orV : Code:=c6 [1,1,1,0,1,0,0,1,0,0,1,1,1,1,1,1,1,1,1,0,0] ((Tryz.f4.body).getD .skip)
theorem Rp (hT:WX told){rd:Nat}(iY:rd=0∨rd=1)(hx:rd=1→x0=ng cell 0∧x1=ng cell 1∧x2=ng cell 2)(J:EI 32 900 ε)(hp:fN 32 3 2 cell (pgA ε))
 (s:Sat h (pt c (.cells 2 [.ptr m 0,.int .i64 ((3:Nat):Int)] false)::gV m a 3 (iJ c) []::SA a p q r .a_ [] 0 ε::pt w (.cells 3 [.int .i64 x0,.int .i64 x1,.int .i64 x2] false)::S))
 (hE:Has E ((22,.int .i64 0)::Ad av bv mv ka kb (.ptr w 0) (.int .i64 (rd:Int)) c i k nn))
 (hq:∀E' h',Has E' (Ad av bv mv ka kb (.ptr w 0) (.int .i64 (rd:Int)) c i k nn)→Sat h' (pt w (.cells 3 [.int .i64 (ng cell 0),.int .i64 (ng cell 1),.int .i64 (ng cell 2)] false)::S)→Q (.exit 4) E' h'): WP ⟨Tryz.prog,told⟩ 195 (.loop orV) E h Q:=by
 have hW:=hT.w
 rcases iY with rfl|rfl
 ·clear hx
  refine WP.loop (WP.has hE (zK 4 rfl (zB rfl aJ (by decide) ?_)))
  refine zk 4 rfl (WP.block (zK 4 rfl (zc rfl (nf (z:=0) hW (by decide) J hp (by decide) s) ?_)))
  rintro v h ⟨ah,I,nC,rfl,s⟩
  have J:=I
  have hp:=hp.sA nC.1
  rw[aF (by decide),show(0:Int).toNat=0 from rfl]
  refine zk 10 rfl (zC rfl aA (rfl) (zk 2 rfl (zC rfl c4 (rfl) (zk 14 rfl (zo rfl (cu rfl rfl ((vo _ _ _ _).trans rfl)) (zS rfl (s.dL (k:=3) rfl IY rfl (show 0+0<3 by decide) rfl rfl) ?_))))))
  intro h s
  dsimp only[setA] at s
  refine zv (zr rfl (zm rfl (zo rfl (ak (r:=.int .i64 1) rfl rfl (by kernel_rfl)) ?_)))
  refine za rfl (zv (WP.loop (zw (zg rfl (zm rfl (zt rfl (ak rfl rfl aJ) (by decide) ?_))))))
  refine zv (zi rfl (WP.skip (zw (WP.block (zg rfl (zk 2 rfl (zc rfl (nf (z:=1) hW (by decide) J hp (by decide) s) ?_)))))))
  rintro v h ⟨ah,I,nC,rfl,s⟩
  have J:=I
  have hp:=hp.sA nC.1
  rw[aF (by decide),show(1:Int).toNat=1 from rfl]
  refine zk 10 rfl (zC rfl aA (rfl) (zk 2 rfl (zC rfl c4 (rfl) (zk 14 rfl (zo rfl (cu rfl rfl ((vo _ _ _ _).trans rfl)) (zS rfl (s.dL (k:=3) rfl IY rfl (show 0+1<3 by decide) rfl rfl) ?_))))))
  intro h s
  dsimp only[setA] at s
  refine zv (zr rfl (zm rfl (zo rfl (ak (r:=.int .i64 2) rfl rfl (by kernel_rfl)) ?_)))
  refine zk 2 rfl (WP.loop (zK 4 rfl (zB rfl aJ (by decide) ?_)))
  refine zk 4 rfl (WP.block (zK 4 rfl (zc rfl (nf (z:=2) hW (by decide) J hp (by decide) s) ?_)))
  rintro v h ⟨ah,I,nC,rfl,s⟩
  have J:=I
  have hp:=hp.sA nC.1
  rw[aF (by decide),show(2:Int).toNat=2 from rfl]
  refine zk 10 rfl (zC rfl aA (rfl) (zk 2 rfl (zC rfl c4 (rfl) (zk 14 rfl (zo rfl (cu rfl rfl ((vo _ _ _ _).trans rfl)) (zS rfl (s.dL (k:=3) rfl IY rfl (show 0+2<3 by decide) rfl rfl) ?_))))))
  intro h s
  dsimp only[setA] at s
  refine zv (zr rfl (zm rfl (zo rfl (ak (r:=.int .i64 3) rfl rfl (by kernel_rfl)) ?_)))
  refine za rfl (zv (WP.loop (zw (zg rfl (zm rfl (zh rfl (ak rfl rfl aJ) (by decide) ?_))))))
  exact zk 2 rfl (WP.exit (hq _ _ ⟨rfl,rfl,rfl,rfl,rfl,rfl,rfl,rfl,rfl,rfl,rfl,rfl,rfl,aa⟩ s.drop.drop.drop))
 ·have hx:=hx rfl
  refine WP.loop (WP.has hE (zK 4 rfl (zB rfl aJ (by decide) ?_)))
  refine zk 4 rfl (WP.block (zK 4 rfl (zc rfl (nf (z:=0) hW (by decide) J hp (by decide) s) ?_)))
  rintro v h ⟨ah,I,nC,rfl,s⟩
  have J:=I
  have hp:=hp.sA nC.1
  rw[aF (by decide),show(0:Int).toNat=0 from rfl]
  refine zk 10 rfl (zC rfl aA (rfl) (zk 2 rfl (zB rfl c4 (rfl) (zk 3 rfl (zo rfl (cu rfl rfl ((vo _ _ _ _).trans rfl)) (zy s 3 ML rfl (zC rfl aA (by simp[hx.1,ng]) ?_)))))))
  refine zk 8 rfl (zo rfl (cu rfl rfl ((vo _ _ _ _).trans rfl)) (zS rfl (s.dL (k:=3) rfl IY rfl (show 0+0<3 by decide) rfl rfl) ?_))
  intro h s
  dsimp only[setA] at s
  refine zv (zr rfl (zm rfl (zo rfl (ak (r:=.int .i64 1) rfl rfl (by kernel_rfl)) ?_)))
  refine za rfl (zv (WP.loop (zw (zg rfl (zm rfl (zt rfl (ak rfl rfl aJ) (by decide) ?_))))))
  refine zv (zi rfl (WP.skip (zw (WP.block (zg rfl (zk 2 rfl (zc rfl (nf (z:=1) hW (by decide) J hp (by decide) s) ?_)))))))
  rintro v h ⟨ah,I,nC,rfl,s⟩
  have J:=I
  have hp:=hp.sA nC.1
  rw[aF (by decide),show(1:Int).toNat=1 from rfl]
  refine zk 10 rfl (zC rfl aA (rfl) (zk 2 rfl (zB rfl c4 (rfl) (zk 3 rfl (zo rfl (cu rfl rfl ((vo _ _ _ _).trans rfl)) (zy s 3 ML rfl (zC rfl aA (by simp[hx.2.1,ng]) ?_)))))))
  refine zk 8 rfl (zo rfl (cu rfl rfl ((vo _ _ _ _).trans rfl)) (zS rfl (s.dL (k:=3) rfl IY rfl (show 0+1<3 by decide) rfl rfl) ?_))
  intro h s
  dsimp only[setA] at s
  refine zv (zr rfl (zm rfl (zo rfl (ak (r:=.int .i64 2) rfl rfl (by kernel_rfl)) ?_)))
  refine zk 2 rfl (WP.loop (zK 4 rfl (zB rfl aJ (by decide) ?_)))
  refine zk 4 rfl (WP.block (zK 4 rfl (zc rfl (nf (z:=2) hW (by decide) J hp (by decide) s) ?_)))
  rintro v h ⟨ah,I,nC,rfl,s⟩
  have J:=I
  have hp:=hp.sA nC.1
  rw[aF (by decide),show(2:Int).toNat=2 from rfl]
  refine zk 10 rfl (zC rfl aA (rfl) (zk 2 rfl (zB rfl c4 (rfl) (zk 3 rfl (zo rfl (cu rfl rfl ((vo _ _ _ _).trans rfl)) (zy s 3 ML rfl (zC rfl aA (by simp[hx.2.2,ng]) ?_)))))))
  refine zk 8 rfl (zo rfl (cu rfl rfl ((vo _ _ _ _).trans rfl)) (zS rfl (s.dL (k:=3) rfl IY rfl (show 0+2<3 by decide) rfl rfl) ?_))
  intro h s
  dsimp only[setA] at s
  refine zv (zr rfl (zm rfl (zo rfl (ak (r:=.int .i64 3) rfl rfl (by kernel_rfl)) ?_)))
  refine za rfl (zv (WP.loop (zw (zg rfl (zm rfl (zh rfl (ak rfl rfl aJ) (by decide) ?_))))))
  exact zk 2 rfl (WP.exit (hq _ _ ⟨rfl,rfl,rfl,rfl,rfl,rfl,rfl,rfl,rfl,rfl,rfl,rfl,rfl,aa⟩ s.drop.drop.drop))
end
section
variable {told:cE} {w:Nat} {ka kb:Bool}
def vP (ka kb:Bool)(da db:List (Int×Int×Int×Int))(j:Nat): Int:=IntKind.wrap .i64 (((Sk ka (fq da) j+Sk kb (fq db) j)%18446744073709551616:Nat):Int)
theorem mE.start (I:TxI 32 5 262144 1 0 [] rs ε)(J:fN 32 n 2 (List.replicate 400 0) (pgA ε))(hs:szB rs≤40000): mE n 2 (l1.take 0) (l2.take 0) ⟨0,0,0,[],[],[]⟩ ⟨0,0,0,[],[],[]⟩ 5 rs ε (List.replicate 400 0):=by
 rw[qP,qP]
 exact⟨I,J,by decide,by simpa using hs,fun j hj=>by rw[Hu];rfl,kM.new (by decide),kM.new (by decide)⟩
noncomputable def orR : Code:=c6 [1,1,1,0,1,0,0,1,0] ((Tryz.f4.body).getD .skip)
theorem Ek (hT:WX told)(JR:da.length≤1048576)(rS:db.length≤1048576)(AS:mix.length≤1048576){rd:Nat}(iY:rd=0∨rd=1)(hx:rd=1→x0=vP ka kb da db 0∧x1=vP ka kb da db 1∧x2=vP ka kb da db 2)
 (s:Sat h (kz 4 av (iW da)::kz 4 bv (iW db)::.cL mv mix::pt w (.cells 3 [.int .i64 x0,.int .i64 x1,.int .i64 x2] false)::S))
 (hE:Has E [(0,av),(1,bv),(2,mv),(3,.bool ka),(4,.bool kb),(11,.ptr w 0),(12,.int .i64 (rd:Int))])
 (hq:∀E' h',Has E' [(0,av),(1,bv),(2,mv),(3,.bool ka),(4,.bool kb),(11,.ptr w 0),(12,.int .i64 (rd:Int))] →
   Sat h' (kz 4 av (iW da)::kz 4 bv (iW db)::.cL mv mix::pt w (.cells 3 [.int .i64 (vP ka kb da db 0),.int .i64 (vP ka kb da db 1),.int .i64 (vP ka kb da db 2)] false)::S)→Q .normal E' h'): WP ⟨Tryz.prog,told⟩ 195 orR E h Q:=by
 have hW:=hT.w
 have e1:=lu da
 have e2:=lu db
 refine WP.has hE (WP.block (zg rfl (zc rfl (Cb hW s) ?_)))
 rintro v h ⟨p,rfl,s⟩
 refine zc rfl (Eg (n:=3) hT (by decide) (by decide) (by decide) (by decide) s) ?_
 rintro v h ⟨c,m,a,q,r,rs,ε,rfl,hI,hp,ej,_,s⟩
 refine zk 6 rfl (zC rfl (sY Tryz.underlying50) (rfl) (zk 6 rfl (zc rfl (ga hW s) ?_)))
 rintro v h' ⟨rfl,rfl⟩
 have s:=s.ae [1]
 refine zc rfl (AM hW (by decide) (fun x hx=>by cases hx) s) ?_
 rintro v h ⟨rfl,r1,s⟩
 have s:=s.ae [1]
 refine zk 9 rfl (zc rfl (ga hW s) ?_)
 rintro v h' ⟨rfl,rfl⟩
 have s:=s.ae [1]
 refine zc rfl (AM hW (by decide) (fun x hx=>by rw[List.mem_singleton.1 hx];exact(by decide:1<2)) s) ?_
 rintro v h ⟨rfl,r2,s⟩
 have s:=s.ae [3,3,3,1,0,0]
 have hO:=mE.start (l1:=fq da) (l2:=fq db) hI hp (b9 ej (by decide))
 refine zk 19 rfl (WP.block (Rm (ka:=.bool ka) (kb:=.bool kb) (wv:=.ptr w 0) (rd:=rd) hT JR rS AS _ 0 0 _ _ _ _ _ _ _ _ _ rfl (eX _) (eX _) hO s ⟨rfl,rfl,rfl,rfl,rfl,rfl,rfl,rfl,rfl,rfl,rfl,rfl,rfl,aa⟩ fun E' h' A1 A2 B eL ah cell i' k' nn hO' I s' => ?_))
 have s:=s'
 have s:=s.ae [3,3,3]
 refine zw (T_ (ka:=ka) (kb:=kb) (wv:=.ptr w 0) hT hO' (by omega) (by omega) s I fun E' h' J ah D5 uV hv I s' => ?_)
 have s:=s'
 have t0:ng J 0=vP ka kb da db 0:=by rw[ng,hv 0 (by decide)];rfl
 have t1:ng J 1=vP ka kb da db 1:=by rw[ng,hv 1 (by decide)];rfl
 have t2:ng J 2=vP ka kb da db 2:=by rw[ng,hv 2 (by decide)];rfl
 have s:=s.ae [0,0,0,3]
 refine WP.has I (zK 4 rfl (WP.block (Rp hT iY (fun hr=>by rw[t0,t1,t2];exact hx hr) D5 uV s ⟨rfl,rfl,rfl,rfl,rfl,rfl,rfl,rfl,rfl,rfl,rfl,rfl,rfl,rfl,aa⟩ fun E' h' I s' => ?_)))
 have s:=s'
 rw[t0,t1,t2] at s
 exact hq _ _ ⟨I.1,I.2.1,I.2.2.1,I.2.2.2.1,I.2.2.2.2.1,I.2.2.2.2.2.1,I.2.2.2.2.2.2.1,aa⟩ (s.ae [1,1,1])
theorem OP (hT:WX told)(J:da.length≤1048576)(rS:db.length≤1048576)(AS:mix.length≤1048576)(s:Sat h (kz 4 av (iW da)::kz 4 bv (iW db)::.cL mv mix::S)):
  Call ⟨Tryz.prog,told⟩ 4 [av,bv,mv,.bool ka,.bool kb] h fun v h'=>v=.bool true:=by
 have hW:=hT.w
 refine Call.of_wp (hW.free _ rfl) Tryz.func4 rfl rfl (zK 7 rfl (zc rfl (LG hT s) ?_))
 rintro v h ⟨rfl,s⟩
 refine zo rfl (dB rfl rfl) (zk 5 rfl (aq.bG s rfl rfl rfl (bM Z1) ?_))
 intro w h s
 dsimp only[V.cells,List.length_cons,List.length_nil,Nat.reduceAdd] at s
 have s:Sat h (pt w (.cells 3 [.int .i64 0,.int .i64 0,.int .i64 0] false)::_):=s
 refine zk 6 rfl (WP.block (WP.loop (zK 4 rfl (zB rfl aJ (by decide) ?_))))
 refine zk 4 rfl (Ek (ka:=ka) (kb:=kb) (rd:=0) hT J rS AS (.inl rfl) (fun e=>by cases e) (s.ae [1,1,1]) ⟨rfl,rfl,rfl,rfl,rfl,rfl,rfl,aa⟩ fun E' h' I s' => ?_)
 have s:=s'
 refine WP.has I (zK 2 rfl (zo rfl (ak (r:=.int .i64 ((1:Nat):Int)) rfl rfl (by kernel_rfl)) ?_))
 refine za rfl (zv (WP.loop (zw (zg rfl (zm rfl (zt rfl (ak rfl rfl aJ) (by decide) ?_))))))
 refine zv (zi rfl (WP.skip (zw (Ek (ka:=ka) (kb:=kb) (rd:=1) hT J rS AS (.inr rfl) (fun _=>⟨rfl,rfl,rfl⟩) s ⟨rfl,rfl,rfl,rfl,rfl,rfl,rfl,aa⟩ fun E' h' I s'=>(WP.has I (zr rfl (zm rfl (zo rfl (ak (r:=.int .i64 2) rfl rfl (by kernel_rfl)) ?_))))))))
 refine zk 2 rfl (WP.loop (zK 4 rfl (zC rfl aJ (by decide) ?_)))
 exact zk 2 rfl (WP.exit (zK 4 rfl (WP.ret ⟨aa,_,rfl,rfl⟩)))
end
end Go.Proofs.YtiojppeahfoiaaaGreat.Am
