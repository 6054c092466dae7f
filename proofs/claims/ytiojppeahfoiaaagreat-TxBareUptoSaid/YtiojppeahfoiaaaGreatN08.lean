/- TxBare: a part of its proof; conditions: its statement's. -/
import Derived.Test.YtiojppeahfoiaaaGreatN06
import Derived.Test.YtiojppeahfoiaaaGreatN07
import Derived.Test.YtiojppeahfoiaaaGreatN04
import Derived.Test.YtiojppeahfoiaaaGreatN05
set_option linter.defProp false
namespace Go.Proofs.YtiojppeahfoiaaaGreat.Am
open Go
def lq:=@Tryz.underlying147
def mT:=@Tryz.underlying142
def En:=@Tryz.underlying2
def Eo:=@Tryz.func76
def JP:=@Tryz.underlying146
variable {X Y:aI} {C:ep} {δ vS:Dk} {ε aj:bA} {Q:Ex→List (Nat×V)→H→Prop} {cl:Go.Call} {h h':H} {pg e:Int} {σ B0:Int→List Nat} {g:Int→Option Nat} {mB:Int→Prop} {μ:Lg} {now:List (Int×List Nat)} {E:List (Nat×V)} {S:List aI} {U:List Bool} {data b l rest R seen mk er:List Nat} {cs Rt ds:List V} {n tx pv nx a q r aH c i j N k B id i0 M p5 f nk c0 wv aF ba F K ck:Nat} {o:Oper} {x y:Operand} {P:Program} {α:Type} {t:TypeId} {dt av rv uv dv wt cv z:V}
theorem vE {m:Nat}(hle:n≤m){args:List V}{r:V×H}(I:toldParsed CB n args h=some r): toldParsed CB m args h=some r:=by
 unfold toldParsed at I ⊢
 have mono:=dO (C:=CB) hle
 split at I
 ·rename_i x
  split at I
  ·rename_i J h₁
   simp only[mono _ _ _ h₁]
   cases We:Nat.blt 4 J.ax with
   |false=>rw[We] at I;cases I
   |true =>
    rw[We,ah] at I
    rw[ah]
    split at I
    ·rename_i Nn Qf
     simp only[mono _ _ _ Qf]
     split at I
     ·rename_i aaj Dy
      simp only[mono _ _ _ Dy]
      exact I
     ·cases I
    ·cases I
  ·cases I
 ·cases I
section
variable {v:V}
noncomputable def prH : Code:=cU [0] ((Tryz.f191.body).getD .skip)
noncomputable def prM : Code:=cU [1,1,0] ((Tryz.f191.body).getD .skip)
theorem aak (s:Sat h S)(J:Has E [(0,v)])
 (hq:∀E' h' p2 I,Has E' [(0,v),(2,.ptr p2 0),(3,.ptr I 0)]→Sat h' (pt I (.cells 1 [.bool false] false)::pt p2 (.cells 6 (dx 0 0 0 0 .aY .aY) false)::S)→Q .normal E' h'): WP CB 9 prH E h Q:=by
 refine WP.has J (zr rfl ?_)
 refine au.bD s rfl rfl rfl (bI jC) (fun p2 h s => ?_)
 refine au.bD s rfl rfl rfl (bI zt4) (fun I h s => ?_)
 exact zv (hq _ _ _ _ ⟨rfl,rfl,rfl,aa⟩ s)
theorem aal {kd:Nat}{aR:List bZ}(hg:dV kd aR=true)(hk:kd<256)(hr:yw tx pv nx data aR)(hX:cN X (cP v (c_ kd tx pv nx data aR))){p2 I:Nat}(s:Sat h (pt I (.cells 1 [.bool false] false)::pt p2 (.cells 6 (dx 0 0 0 0 .aY .aY) false)::X::S))
 (hE:Has E [(0,v),(2,.ptr p2 0),(3,.ptr I 0)])
 (hq:∀E' h' dt ch cs,Has E' [(2,.ptr p2 0),(3,.ptr I 0)]→Sat h' (pt I (.cells 1 [.bool true] false)::pt p2 (.cells 6 (dx kd tx pv nx dt ch) false)::X::aZ dt data::.arr 4 ch cs::c9 cs aR::S)→Q .normal E' h'): WP CB 9 prM E h Q:=by
 obtain⟨pi,po,pc,rfl⟩:=iD (s.aG (k:=2) rfl hX) (by simp only[c_,b7,bz];omega)
 refine WP.has hE (zK 2 rfl (zo rfl (cj rfl (by rw[abp];rfl)) ?_))
 refine au.bD s rfl rfl rfl (dB rfl rfl) ?_
 intro p1 h s
 dsimp only[V.cells] at s
 refine zc rfl (XW W.base hg hk hr ⟨_,hX,s.ae [0,2]⟩) ?_
 rintro r h ⟨dt,ch,cs,rfl,s⟩
 have J:=(s.buf (k:=1) rfl).view.cells
 have jx:=s.iz (j:=2) rfl
 refine zS rfl (s.eS (j:=5) rfl dD rfl (jc J.2 jx.2.1)) ?_
 rintro h s
 refine zS rfl (by exact s.dK (k:=4) rfl yR rfl (by decide) rfl rfl) (fun h s => ?_)
 exact zv (hq _ _ _ _ _ ⟨rfl,rfl,aa⟩ (s.ae [4,4,0,0,0,0]))
noncomputable def qrR : Code:=cU [1] ((Tryz.f220.body).getD .skip)
theorem aam {x y:V}(I:Has E [(0,x),(1,y),(2,.gO),(5,.gO)])(J:∀E',Q .normal E' h): WP CB 16 qrR E h Q:=by
 refine WP.has I (zK 3 rfl (zo rfl (Tb (r:=.aQ [.int .i64 0,.bool false]) rfl (by simp only[assertV,Tryz.underlying34,acF])) ?_))
 refine zk 14 rfl (zo rfl (ay (r:=.bool false) rfl rfl (by simp only[binV,Tryz.underlying20];rfl)) ?_)
 refine zv (zj rfl (WP.skip ?_))
 exact J _
theorem Ow {kd:Nat}{aR:List bZ}(hg:dV kd aR=true)(hk:kd<256)(hr:yw tx pv nx data aR)(s:Sat h (X::S))(hX:cN X (cP v (c_ kd tx pv nx data aR))):
  ∃n r,toldParsed CB n [v] h=some r∧∃dt ch cs,r.1=.aQ [.agg (dx kd tx pv nx dt ch),.bool true]∧Sat r.2 (X::aZ dt data::.arr 4 ch cs::c9 cs aR::S):=by
 obtain⟨N1,Wf,I,h1,E1,a1,k1,rfl,p2,J,Ro,s1⟩:=aak (Q:=fun ex E' h'=>ex=.normal∧∃p2 J,Has E' [(0,v),(2,.ptr p2 0),(3,.ptr J 0)]∧Sat h' (pt J (.cells 1 [.bool false] false)::pt p2 (.cells 6 (dx 0 0 0 0 .aY .aY) false)::X::S)) (v:=v) (E:=argE [v] 0) s ⟨rfl,aa⟩ (fun E' h' p2 J hE s=>⟨rfl,p2,J,hE,s⟩) _ (tV [v])
 have v2:I.v 2=.ptr p2 0:=by simp only[Env.v,k1 _ _ Ro.2.1]
 have v3:I.v 3=.ptr J 0:=by simp only[Env.v,k1 _ _ Ro.2.2.1]
 have k1':=k1.set 4 (.fn (.func 220) [] [I.v 2,I.v 3])
 obtain⟨N2,su,AJ,h2,E2,a2,k2,rfl,dt,ch,cs,MQ,s2⟩:=aal (Q:=fun ex E' h'=>ex=.normal∧∃dt ch cs,Has E' [(2,.ptr p2 0),(3,.ptr J 0)]∧Sat h' (pt J (.cells 1 [.bool true] false)::pt p2 (.cells 6 (dx kd tx pv nx dt ch) false)::X::aZ dt data::.arr 4 ch cs::c9 cs aR::S)) hg hk hr hX s1 (E:=(4,.fn (.func 220) [] [I.v 2,I.v 3])::E1) ⟨Ro.1,Ro.2.1,Ro.2.2.1,aa⟩ (fun E' h' dt ch cs hE s=>⟨rfl,dt,ch,cs,hE,s⟩) _ k1'
 have k3:=((tV [V.ptr p2 0,V.ptr J 0]).set 5 .gO).set 2 .gO
 obtain⟨N3,ex3,aeH,h3,E3,a3,k3',rfl,rfl⟩:=aam (h:=h2) (x:=.ptr p2 0) (y:=.ptr J 0) (Q:=fun ex E' h'=>ex=.normal∧h'=h2) (E:=(2,.gO)::(5,.gO)::argE [.ptr p2 0,.ptr J 0] 0) ⟨rfl,rfl,rfl,rfl,aa⟩ (fun E'=>⟨rfl,rfl⟩) _ k3
 have r1:mapO (resV Tryz.prog ⟨AJ,9,h3⟩) Tryz.f191.results.toList=some [.agg (dx kd tx pv nx dt ch),.bool true]:=by
  refine wR (s:=⟨AJ,9,h3⟩) k2 ?_
  have e1:resE Tryz.prog E2 h3 (.cell 2 104)=some (.agg (dx kd tx pv nx dt ch)):=by
   simp only[resE,MQ.1]
   exact s2.cV (k:=1) rfl iJ dD
  have e2:resE Tryz.prog E2 h3 (.cell 3 4)=some (.bool true):=by
   simp only[resE,MQ.2.1]
   exact s2.ld (k:=0) rfl kV rfl
  show mapO (resE Tryz.prog E2 h3) [.cell 2 104,.cell 3 4]=_
  simp only[mapO,e1,e2]
 refine⟨max N1 (max N2 N3),(.aQ [.agg (dx kd tx pv nx dt ch),.bool true],h3),?_,dt,ch,cs,rfl,(s2.del 0).del 0⟩
 have b1:=dO (C:=CB) (show N1≤max N1 (max N2 N3) by omega) _ _ _ a1
 have b2:=dO (C:=CB) (show N2≤max N1 (max N2 N3) by omega) _ _ _ a2
 have b3:=dO (C:=CB) (show N3≤max N1 (max N2 N3) by omega) _ _ _ a3
 simp only[toldParsed]
 rw[show Ot=prH from rfl,b1]
 simp only[v2,v3] at b2 ⊢
 rw[show Nat.blt 4 9=true from rfl,ah,show Ou=prM from rfl,b2]
 dsimp only
 rw[show HV=qrR from rfl,b3]
 dsimp only
 rw[r1]
def HW (args:List V)(h:H)(r:V×H): Prop:=∃n,toldParsed CB n args h=some r
structure WR (told:cJ): Prop where
 w:W told
 pr:told 191=some (iQ Tryz.prog 191 HW)
theorem Rp {told:cJ}(hT:WR told){kd:Nat}{aR:List bZ}(hg:dV kd aR=true)(hk:kd<256)(J:yw tx pv nx data aR)(s:Sat h (X::S))(hX:cN X (cP v (c_ kd tx pv nx data aR))):
  Call ⟨Tryz.prog,told⟩ 191 [v] h fun r h'=>∃dt ch cs,r=.aQ [.agg (dx kd tx pv nx dt ch),.bool true]∧Sat h' (X::aZ dt data::.arr 4 ch cs::c9 cs aR::S):=by
 obtain⟨n,r,e,hP⟩:=Ow hg hk J s hX
 obtain⟨r',h1,m,h2⟩:=qj (P:=Tryz.prog) (f:=191) (jF:=HW) (args:=[v]) (r:=r) ⟨n,e⟩ (fun c w J hw=>HB (C:=CB) rfl fT eB e J hw)
 have e1:=vE (show n≤max n m by omega) e
 have I:=vE (show m≤max n m by omega) h2
 rw[e1] at I
 injection I with I
 subst I
 exact⟨r.1,r.2,gJ.told hT.pr JL rfl h1,hP⟩
end
theorem C0 {x y z:List Nat}{b:Nat}(I:x.length=a)(J:a+y.length=b): ((x++(y++z)).take b).drop a=y:=by
 subst I;subst J
 rw[←cT,vW (by simp),gB (by simp),wu rfl]
theorem abN (n:Nat)(b:List Nat): b.length<4294967296→tC n b<4294967296→leN (le 4 b.length)=b.length∧leN (le 4 (tC n b))=tC n b:=by
 intro I J
 rw[sG,sG]
 exact⟨nX (by simpa using I),nX (by simpa using J)⟩
section
variable {told:cJ} {v:V}
set_option maxHeartbeats 1000000 in
theorem JQ (hT:WR told){kd:Nat}{aR:List bZ}{pre bd:List Nat}(hg:dV kd aR=true)(hk:kd<256)(hr:yw tx pv nx data aR)(B7:bd=c_ kd tx pv nx data aR)
 (w_:bd.length≤1048576)(ha:pre.length=a)(J:l=pre++(iA n bd++rest))(Cn:l.length≤1073741824)(s:Sat h (X::S))(I:cN X (cP v l)):
  Call ⟨Tryz.prog,told⟩ 125 [v,.int .i64 (a:Int),.int .u64 (n:Int)] h fun r h'=>∃dt ch cs,r=.aQ [.agg (dx kd tx pv nx dt ch),.int .i64 ((a+8+bd.length:Nat):Int),.int .i64 0]∧Sat h' (X::aZ dt data::.arr 4 ch cs::c9 cs aR::S):=by
 have hv:=s.aG (k:=0) rfl I
 have cH:∀x∈bd,x<256:=fun x hx=>hv.1 x (by rw[J,iA];simp[hx])
 have ac9:=IU (aF:=n) cH
 obtain⟨q1,q2⟩:=abN n bd (by omega) ac9
 have hlen:l.length=a+8+bd.length+rest.length:=by rw[J];simp only[b7,mJ];omega
 have m1:(l.take (a+4)).drop a=le 4 bd.length:=by
  rw[J,iA,cT,cT]
  exact C0 ha (by rw[cO])
 have m2:(l.take (a+8)).drop (a+4)=le 4 (tC n bd):=by
  rw[J,iA,cT,cT,←cT pre]
  exact C0 (by rw[b7,cO,ha]) (by rw[cO])
 have m3:(l.take (a+8+bd.length)).drop (a+8)=bd:=by
  rw[J,iA,cT,cT,←cT pre,←cT (pre++_)]
  exact C0 (by rw[b7,b7,cO,cO,ha]) rfl
 have hW:=hT.w
 have JR:=aW (P:=Tryz.prog) (h:=h) aJ hv
 refine Call.of_wp (hW.free _ rfl) Tryz.func125 rfl rfl (zg rfl ?_)
 refine au.bD s rfl rfl rfl (bI jC) (fun p6 h s => ?_)
 refine zk 7 rfl (zC rfl aT (by simp) ?_)
 refine zk 3 rfl (zo rfl (aP rfl rfl rfl (aW aJ (s.aG (k:=1) rfl I))) (zC rfl fN (by simp;omega) ?_))
 refine zk 8 rfl (zo rfl (aP rfl rfl rfl (aW aJ (s.aG (k:=1) rfl I))) (zm rfl (zb rfl (by exact jI (aA (by omega) (by omega))) ?_)))
 refine zC rfl aT (by simp;omega) ?_
 refine zk 8 rfl (zb rfl (by exact bf (aA (by omega) (by omega))) ?_)
 refine zo rfl (bU (p:=some (.int .i64 (a:Int))) (q:=some (.int .i64 ((a:Int)+4))) (m:=none) (p':=some a) (q':=some (a+4)) (m':=none) rfl rfl rfl rfl (by rw[cW (by omega)];rfl) (by rw[cW (by omega)];congr 2<;>omega) rfl (dc (s.aG (k:=1) rfl I) (a:=a) (b:=a+4) (by omega) (by omega)).1) ?_
 refine zc rfl (mz hW s (k:=1) rfl (jJ I (a:=a) (b:=a+4) (by omega) (by omega)) (by rw[m1,cO];decide)) ?_
 rintro r h' ⟨rfl,rfl⟩
 rw[m1,q1]
 refine zk 6 rfl (zC rfl fN (by simp;omega) ?_)
 refine zk 2 rfl (zo rfl (bT rfl (by exact gL bR br (aA (by omega) (by omega)))) ?_)
 refine zm rfl (zo rfl (aP rfl rfl rfl (aW aJ (s.aG (k:=1) rfl I))) (zm rfl (zb rfl (by exact jI (aA (by omega) (by omega))) ?_)))
 refine zb rfl (by exact jI (aA (by omega) (by omega))) ?_
 refine zC rfl fN (by simp;omega) ?_
 refine zk 7 rfl (zb rfl (by exact bf (aA (by omega) (by omega))) ?_)
 refine zm rfl (zo rfl (bT rfl (by exact gL bR br (aA (by omega) (by omega)))) ?_)
 refine zb rfl (by exact bf (aA (by omega) (by omega))) ?_
 refine zk 6 rfl (zb rfl (by exact bf (aA (by omega) (by omega))) ?_)
 refine zm rfl (zo rfl (bU (p:=some (.int .i64 ((a:Int)+8))) (q:=some (.int .i64 ((a:Int)+8+(bd.length:Int)))) (m:=none) (p':=some (a+8)) (q':=some (a+8+bd.length)) (m':=none) rfl rfl rfl rfl (by rw[cW (by omega)];congr 2<;>omega) (by rw[cW (by omega)];congr 2<;>omega) rfl (dc (s.aG (k:=1) rfl I) (a:=a+8) (b:=a+8+bd.length) (by omega) (by omega)).1) ?_)
 refine zk 7 rfl (zb rfl (by exact bf (aA (by omega) (by omega))) ?_)
 refine zm rfl (zb rfl (by exact bf (aA (by omega) (by omega))) ?_)
 refine zo rfl (bU (p:=some (.int .i64 ((a:Int)+4))) (q:=some (.int .i64 ((a:Int)+8))) (m:=none) (p':=some (a+4)) (q':=some (a+8)) (m':=none) rfl rfl rfl rfl (by rw[cW (by omega)];congr 2<;>omega) (by rw[cW (by omega)];congr 2<;>omega) rfl (dc (s.aG (k:=1) rfl I) (a:=a+4) (b:=a+8) (by omega) (by omega)).1) ?_
 refine zc rfl (mz hW s (k:=1) rfl (jJ I (a:=a+4) (b:=a+8) (by omega) (by omega)) (by rw[m2,cO];decide)) ?_
 rintro r h' ⟨rfl,rfl⟩
 rw[m2,q2]
 refine zo rfl (bT rfl (by exact gL bR Tryz.underlying285 (Xb (by omega) (by omega)))) ?_
 refine zk 2 rfl (zc rfl (GL hW s (k:=1) rfl (jJ I (a:=a+8) (b:=a+8+bd.length) (by omega) (by omega)) (by rw[m3];omega)) ?_)
 rintro r h ⟨rfl,s⟩
 rw[m3]
 refine zC rfl aD (by simp) ?_
 refine zk 6 rfl ?_
 have hX':cN X (cP (slR v (a+8) (a+8+bd.length)) (c_ kd tx pv nx data aR)):=by
  have:=jJ I (a:=a+8) (b:=a+8+bd.length) (by omega) (by omega)
  rw[m3] at this
  rw[←B7]
  exact this
 refine zc rfl (Rp hT hg hk hr (s.ae [1]) hX') ?_
 rintro r h ⟨dt,ch,cs,rfl,s⟩
 have iP:=(s.buf (k:=1) rfl).view.cells
 have jx:=s.iz (j:=2) rfl
 have fo:[V.int .i64 (kd:Int),V.int .u64 (tx:Int),V.int .u64 (pv:Int),V.int .u64 (nx:Int),dt,ch].all storable=true:=jc iP.2 jx.2.1
 refine zk 3 rfl (zS rfl (s.eS (j:=4) rfl dD rfl fo) ?_)
 rintro h s
 refine zk 6 rfl (zh rfl (eU rfl rfl) (rfl) (zk 5 rfl (zl rfl (s.cV (k:=4) rfl iJ dD) (zm rfl (zS rfl (s.eS (j:=4) rfl dD rfl fo) ?_)))))
 rintro h s
 refine zk 3 rfl ?_
 refine WP.ret ⟨aa,_,ym rfl (s.cV (k:=4) rfl iJ dD) rfl rfl,?_⟩
 exact⟨dt,ch,cs,rfl,s.del 4⟩
end
section
variable {told:cJ} {v:V} {p:Nat}
theorem G0 (hT:WR told){kd:Nat}{aR:List bZ}{pre bd:List Nat}(hg:dV kd aR=true)(hk:kd<256)(hr:yw tx pv nx data aR)(B7:bd=c_ kd tx pv nx data aR)
 (w_:bd.length≤1048576)(ha:pre.length=a)(hl:μ.b=pre++(iA n bd++rest))(hn:n=μ.base+a)(hh:μ.hasB n=true)(I:μ.Ok)(s:Sat h (bS q p μ::S)):
  Call ⟨Tryz.prog,told⟩ 66 [.ptr q 0,.int .u64 (n:Int)] h fun r h'=>∃dt ch cs,r=.aQ [.agg (dx kd tx pv nx dt ch),.int .u64 ((n+8+bd.length:Nat):Int),.int .i64 0]∧Sat h' (bS q p μ::aZ dt data::.arr 4 ch cs::c9 cs aR::S):=by
 have hW:=hT.w
 have hlen:μ.b.length=a+8+bd.length+rest.length:=by rw[hl];simp only[b7,mJ];omega
 have eL:=I.size
 have hb:=I.len
 refine Call.of_wp (hW.free _ rfl) Jf rfl rfl (zg rfl ?_)
 refine au.bD s rfl rfl rfl (bI jC) (fun p4 h s => ?_)
 dsimp only[V.cells,List.length_cons,List.length_nil,Nat.reduceAdd] at s
 refine zk 4 rfl (WP.block (zK 4 rfl ?_))
 have s:=s.ae [1]
 dsimp only[bringA,getA,aE] at s
 refine zc rfl (ue hW s I.size) ?_
 rintro v h' ⟨rfl,rfl⟩
 refine zC rfl dm (by simp;omega) ?_
 refine zk 7 rfl (zc rfl (Mg (n:=n) hW s I (by omega)) ?_)
 rintro v h' ⟨rfl,rfl⟩
 rw[hh]
 refine zo rfl (eU rfl rfl) (za rfl (zv (zj rfl (WP.skip (zw ?_)))))
 obtain⟨bv,sv,s⟩:=fW.1 s
 have s0:=s
 have sj:=cX (s.buf (k:=1) rfl).view
 have J:((n:Int)-(μ.base:Int))=(a:Int):=by omega
 refine WP.drawn [af,af,af,af,af,af,af,af,af,af,af,af,af,af,af,some (1,2),some (1,2),af,af,af] rfl (by kernel_rfl) (by kernel_rfl) ?_
 refine zM rfl (zN rfl (zF rfl (e_ _ _) (zL rfl (s.ld (k:=0) rfl bJ rfl) (zM rfl (zM rfl (zN rfl (zF rfl (mq _ _) (zL rfl (s.ld (k:=0) rfl dL rfl) (zO rfl (ay (r:=.int .u64 (a:Int)) rfl rfl (by rw[←J];exact jI (eP (by omega) (by omega)))) ?_)))))))))
 refine az.op rfl rfl rfl (by simp only[isEff,br]) (bT rfl (by exact gL bR br (aA (by omega) (by omega)))) ?_
 refine zM rfl (az.any rfl rfl rfl rfl (OpR.call rfl rfl rfl rfl (JQ (n:=n) (a:=a) hT hg hk hr B7 w_ ha hl (by omega) (s.ae [1]) (aN _ _))) ?_)
 rintro r h ⟨dt,ch,cs,rfl,s⟩
 have iP:=(s.buf (k:=1) rfl).view.cells
 have jx:=s.iz (j:=2) rfl
 have Gv:=cX (s.buf (k:=1) rfl).view
 have fo:[V.int .i64 (kd:Int),V.int .u64 (tx:Int),V.int .u64 (pv:Int),V.int .u64 (nx:Int),dt,ch].all storable=true:=jc iP.2 jx.2.1
 have s1:=s
 refine zM rfl (zO rfl (bY rfl rfl) (zO rfl (bY rfl rfl) (zO rfl (bY rfl rfl) (az.gh rfl rfl rfl (OpR.fM rfl rfl rfl (s.eS (j:=6) rfl dD rfl fo)) ?_))))
 rintro v h ⟨rfl,s⟩
 refine zA rfl (zA rfl ?_)
 refine az.nil ⟨⟨aa,aa,aa,aa,aa,aa,aa,aa,aa,aa,aa,aa,aa,aa,aa,fun _ _=>.inr ⟨rfl,⟨_,bY rfl rfl⟩,aS _ rfl⟩,fun _ _=>.inr ⟨rfl,⟨_,bY rfl rfl⟩,aS _ rfl⟩,aa,aa,aa,aa⟩,?_⟩
 refine zK 4 rfl (zC rfl aD (rfl) (zk 4 rfl ?_))
 have Jq:(V.agg [V.int .i64 (kd:Int),V.int .u64 (tx:Int),V.int .u64 (pv:Int),V.int .u64 (nx:Int),dt,ch]).beq (V.agg [V.int .i64 (kd:Int),V.int .u64 (tx:Int),V.int .u64 (pv:Int),V.int .u64 (nx:Int),dt,ch])=true:=BK Gv jx.2.2
 have s0:=s
 refine WP.drawn [none,some (0,2),some (0,2),some (0,2),some (0,2),some (0,2),some (0,2),some (0,2),af,af,af] rfl (by kernel_rfl) (by kernel_rfl) ?_
 refine zL rfl (s.cV (k:=6) rfl iJ dD) (zM rfl (zN rfl (zF rfl (mq _ _) (zL rfl (s.ld (k:=4) rfl dL rfl) (zM rfl (az.op rfl rfl rfl (by simp only[isEff,bR]) (bT rfl (by exact gL br bR (eP (by omega) (by omega)))) ?_))))))
 refine zO rfl (ay rfl rfl (by exact bf (eP (by omega) (by omega)))) ?_
 refine az.gh rfl rfl rfl (OpR.fM rfl rfl rfl (s.eS (j:=6) rfl dD rfl fo)) ?_
 rintro v h ⟨rfl,s⟩
 dsimp only[Ao,aE,bringA,dx,setA] at s
 refine zA rfl (zA rfl ?_)
 refine az.nil ⟨⟨aa,fun _ _=>.inr ⟨rfl,⟨_,bn rfl⟩,aS _ rfl⟩,fun _ _=>.inr ⟨rfl,⟨_,kT rfl⟩,aS _ rfl⟩,fun _ _=>.inr ⟨rfl,⟨_,jH rfl (mq _ _)⟩,aS _ rfl⟩,dZ (.inr ⟨rfl,⟨_,o_load rfl (s0.ld (k:=4) rfl dL rfl)⟩,aS _ rfl⟩) (.inr ⟨rfl,⟨_,o_load rfl (s.ld (k:=4) rfl dL rfl)⟩,aS _ rfl⟩),fun _ _=>.inr ⟨rfl,⟨_,bn rfl⟩,aS _ rfl⟩,fun _ _=>.inr ⟨rfl,⟨_,bT rfl (by exact gL br bR (eP (by omega) (by omega)))⟩,aS _ rfl⟩,fun _ _=>.inr ⟨rfl,⟨_,ay rfl rfl (by exact bf (eP (by omega) (by omega)))⟩,aS _ rfl⟩,aa,aa,aa,aa⟩,?_⟩
 refine WP.ret ⟨aa,_,ym rfl (s.cV (k:=6) rfl iJ dD) rfl rfl,?_⟩
 refine⟨dt,ch,cs,?_,fW.2 ⟨bv,sv,(s.ae [4,0,3,0,0,0]).del 6⟩⟩
 rw[show((μ.base:Int)+((a+8+bd.length:Nat):Int))=((n+8+bd.length:Nat):Int) by omega]
 rfl
end
def partsL : List bZ→Nat
 |[]=>0
 |c::l=>(if c.whole=true then 0 else c.b.length+12)+partsL l
theorem Ep {a b:List bZ}: partsL (a++b)=partsL a+partsL b:=by
 induction a<;>grind[partsL]
theorem ac_ {b:Nat}(I:b≤a)(J:a<18446744073709551616): binV P h .sub t x y (.int .u64 (a:Int)) (.int .u64 (b:Int))=some (.int .u64 ((a-b:Nat):Int)):=by
 rw[show((a-b:Nat):Int)=(a:Int)-(b:Int) by omega]
 exact jI (eP (by omega) (by omega))
section
variable {told:cJ} {g p:Nat} {op:V} {fI:List Nat}
theorem Ue (J:W told)(hb:μ.base+μ.b.length≤1099511627776)(hr:δ.room≤16777216)(s:Sat h (dA a p q r op data aH::bS q p μ::aO p δ::S)):
  Call ⟨Tryz.prog,told⟩ 75 [.ptr a 0] h fun v h'=>v=.int .i64 ((δ.room:Int)-(μ.b.length:Int))∧h'=h:=by
 obtain⟨dv,s⟩:=cm.1 s
 refine Call.of_wp (J.free _ rfl) Tryz.func75 rfl rfl (zK 5 rfl ?_)
 have I:=s
 refine WP.drawn [af,af,af,af,af,some (0,2),some (0,2),some (0,2),some (0,2),none,some (0,3),some (0,3),some (0,3),some (0,3),af,af,af,af,af] rfl (by kernel_rfl) (by kernel_rfl) ?_
 refine zM rfl (zN rfl (zF rfl (pU _ _) (zL rfl (s.ld (k:=0) rfl qv rfl) (az.any rfl rfl rfl rfl (OpR.call rfl rfl rfl rfl (Tn J (s.ae [3]))) ?_))))
 rintro v h' ⟨rfl,rfl⟩
 rw[show δ.VZ=δ.room from rfl]
 refine zM rfl (zN rfl (zF rfl (m8 _ _) (zL rfl (s.ld (k:=0) rfl qw rfl) (az.any rfl rfl rfl rfl (OpR.call rfl rfl rfl rfl (ue J (s.ae [2]) hb)) ?_))))
 rintro v h' ⟨rfl,rfl⟩
 refine zM rfl (zN rfl (zF rfl (m8 _ _) (zL rfl (s.ld (k:=0) rfl qw rfl) (az.any rfl rfl rfl rfl (OpR.call rfl rfl rfl rfl (sC J (s.ae [2]))) ?_))))
 rintro v h' ⟨rfl,rfl⟩
 refine zO rfl (ay (r:=.int .u64 ((μ.b.length:Nat):Int)) rfl rfl (by rw[show((μ.base:Int)+(μ.b.length:Int))=((μ.base+μ.b.length:Nat):Int) by omega,ac_ (by omega) (by omega),A3])) ?_
 refine az.op rfl rfl rfl (by simp only[isEff,br]) (bT (r:=.int .i64 ((μ.b.length:Nat):Int)) rfl (gL bR br (aA (by omega) (by omega)))) ?_
 refine zO rfl (ay (r:=.int .i64 ((δ.room:Int)-(μ.b.length:Int))) rfl rfl (jI (aA (by omega) (by omega)))) ?_
 refine zA rfl ?_
 refine az.nil ⟨⟨aa,aa,aa,aa,aa,fun _ _=>.inr ⟨rfl,⟨_,bn rfl⟩,aS _ rfl⟩,fun _ _=>.inr ⟨rfl,⟨_,kT rfl⟩,aS _ rfl⟩,fun _ _=>.inr ⟨rfl,⟨_,jH rfl (m8 _ _)⟩,aS _ rfl⟩,dZ (.inr ⟨rfl,⟨_,o_load rfl (I.ld (k:=0) rfl qw rfl)⟩,aS _ rfl⟩) (.inr ⟨rfl,⟨_,o_load rfl (I.ld (k:=0) rfl qw rfl)⟩,aS _ rfl⟩),aa,fun _ _=>.inr ⟨rfl,⟨_,bn rfl⟩,aS _ rfl⟩,fun _ _=>.inr ⟨rfl,⟨_,kT rfl⟩,aS _ rfl⟩,fun _ _=>.inr ⟨rfl,⟨_,jH rfl (m8 _ _)⟩,aS _ rfl⟩,sA (.inr ⟨rfl,⟨_,o_load rfl (I.ld (k:=0) rfl qw rfl)⟩,aS _ rfl⟩) (.inr ⟨rfl,⟨_,o_load rfl (I.ld (k:=0) rfl qw rfl)⟩,aS _ rfl⟩) (.inr ⟨rfl,⟨_,o_load rfl (I.ld (k:=0) rfl qw rfl)⟩,aS _ rfl⟩),aa,aa,aa,aa,aa,aa⟩,?_⟩
 refine WP.ret ⟨aa,_,rfl,?_⟩
 exact⟨rfl,rfl⟩
noncomputable def gcL : Code:=cU [1,1,0,1,0,0] ((Tryz.f91.body).getD .skip)
theorem Rq {t3:V}{c:List bZ}(hc:c.length≤33554432)(hb:∀x∈c,x.b.length≤512): ∀(j i:Nat) (h:H) (E:List (Nat×V)) (Q:Ex→List (Nat×V)→H→Prop),i+j=c.length→Sat h (.arr 4 av cs::c9 cs c::S) →
  Has E [(3,t3),(5,.int .i64 (partsL (c.take i):Int)),(20,av),(21,.int .i64 (c.length:Int)),(22,.int .i64 (i:Int))] →
  (∀E' h',Has E' [(3,t3),(5,.int .i64 (partsL c:Int))]→Sat h' (.arr 4 av cs::c9 cs c::S)→Q (.exit 0) E' h') →
  WP ⟨Tryz.prog,told⟩ 45 (.loop gcL) E h Q:=by
 have hp:∀i,partsL (c.take i)≤524*i:=by
  intro i
  induction i with
  |zero=>simp[partsL]
  |succ i ih =>
   by_cases hi:i<c.length
   ·rw[AZ hi,Ep]
    have:=hb _ (wq hi)
    simp only[partsL]
    split<;>omega
   ·rw[gB (by omega)] at ih ⊢;omega
 intro j
 induction j with
 |zero =>
  intro i h E Q hi s hE hq
  obtain rfl:i=c.length:=by omega
  rw[List.take_length] at hE
  refine WP.loop (WP.has hE (zg rfl (zC rfl aT (by simp) ?_)))
  exact zk 3 rfl (WP.exit (hq _ _ ⟨rfl,rfl,aa⟩ s))
 |succ j ih =>
  intro i h E Q hi s hE hq
  obtain⟨x,hx⟩:∃x,c[i]?=some x:=⟨_,bw (by omega)⟩
  have hxb:=hb x (bK hx)
  have hpi:=hp i
  obtain⟨id,off,u,e1,e2,u1,u2,u3,s⟩:=DX s hx
  have fo:[V.int .i64 x.aK,V.int .i64 x.pos,V.bool x.whole,u].all storable=true:=by simp only[iU,jd,u2];rfl
  have I:partsL (c.take (i+1))=partsL (c.take i)+if x.whole=true then 0 else x.b.length+12:=by
   have J:i<c.length:=by omega
   rw[AZ J,Ep]
   have:c[i]=x:=by rw[bw J] at hx;exact cg hx
   simp[partsL,this]
  refine WP.loop (WP.has hE (zg rfl (zB rfl aT (by simp;omega) ?_)))
  refine zk 5 rfl (WP.block (zg rfl (zo rfl (c8 (r:=.ptr id off) rfl rfl e1) (zl rfl e2 ?_))))
  refine au.bD s rfl rfl rfl (bI nj) (fun p8 h s => ?_)
  dsimp only[V.cells,List.length_cons,List.length_nil,Nat.reduceAdd] at s
  refine zS rfl (s.eS (j:=0) rfl og rfl fo) ?_
  intro h s
  dsimp only[setA] at s
  refine zk 3 rfl (zY s 0 uc kV rfl ?_)
  have B3:x.whole=true∨x.whole=false:=by cases x.whole<;>simp
  rcases B3 with hw|hw
  ·rw[aC hw] at I
   refine zh rfl (eU rfl rfl) (by rw[hw];rfl) ?_
   refine zv (zj rfl (WP.skip (zr rfl (zb rfl (by exact bf (aA (by omega) (by omega))) ?_))))
   refine zm rfl (zv ?_)
   refine ih (i+1) _ _ Q (by omega) ((s.ae [2,2]).del 3 |>.del 2) ⟨rfl,?_,rfl,rfl,rfl,aa⟩ hq
   exact iW (fun z:Nat=>some (V.int .i64 (z:Int))) I.symm
  ·rw[ak (by rw[hw];decide)] at I
   refine zt rfl (eU rfl rfl) (by rw[hw];rfl) ?_
   refine zk 4 rfl (zY s 0 mw bJ rfl (zo rfl (aP rfl rfl rfl (aW aJ (s.aG (k:=1) rfl (dy _ _)))) (zo rfl (ay (r:=.int .i64 ((x.b.length+12:Nat):Int)) rfl rfl (by rw[show((x.b.length+12:Nat):Int)=(x.b.length:Int)+12 by omega];exact bf (aA (by omega) (by omega)))) ?_)))
   refine zo rfl (ay (r:=.int .i64 ((partsL (c.take (i+1)):Nat):Int)) rfl rfl (by rw[I,show((partsL (c.take i)+(x.b.length+12):Nat):Int)=(partsL (c.take i):Int)+((x.b.length+12:Nat):Int) by omega];exact bf (aA (by omega) (by omega)))) ?_
   refine za rfl (zv (zr rfl (zb rfl (by exact bf (aA (by omega) (by omega))) ?_)))
   refine zm rfl (zv ?_)
   exact ih (i+1) _ _ Q (by omega) ((s.ae [2,2]).del 3 |>.del 2) ⟨rfl,rfl,rfl,rfl,rfl,aa⟩ hq
theorem Uf (hT:W told){kd:Int}(mS:iL ε)(hw:b6 ε≤268435456)(I:∀e∈now,e.2.length=512)(hm:now.length≤65536)(hk:∀n∈now.map (·.1),0≤n∧n<65536)(qR:tx<18446744073709551616)(qS:pv<18446744073709551616)(qB:nx<18446744073709551616)(hd:data.length≤35184372088832)
 (s:Sat h (eW g a now false::dA a p q r op fI aH::eo r p q ε.1::bS q p ε.2.1::aO p ε.2.2::X::S))(hX:cN X (cP dt data)):
  Call ⟨Tryz.prog,told⟩ 91 [.ptr g 0,.agg (dx kd tx pv nx dt .aY)] h fun v h'=>∃e c aj,iw now (bP now) ε e c aj ∧
   ((e≠0∧v=.aQ [.int .i64 0,.int .i64 0,.int .i64 e])∨(e=0∧dV kd c=false∧v=.aQ [.int .i64 0,.int .i64 (partsL c:Int),.int .i64 1])∨(e=0∧1048576<(c_ kd tx pv nx data c).length∧v=.aQ [.int .i64 0,.int .i64 (partsL c:Int),.int .i64 2]) ∨
    (e=0∧v=.aQ [.int .i64 ((8+(c_ kd tx pv nx data c).length:Nat):Int),.int .i64 (partsL c:Int),.int .i64 0])) ∧
   Sat h' (eW g a now false::dA a p q r op fI aH::eo r p q aj.1::bS q p aj.2.1::aO p aj.2.2::X::S):=by
 have mD:∀n∈now.map (·.1),(Lit.int .i64 n).wf=true:=fun n hn=>by
  have:=hk n hn
  exact wf_i64 (by omega) (by omega)
 have iP:=s.aG (k:=5) rfl hX
 have fo:=jc (kd:=kd) (tx:=tx) (pv:=pv) (nx:=nx) (dt:=dt) (ch:=.aY) iP.cells.2 rfl
 refine Call.of_wp (hT.free _ rfl) Tryz.func91 rfl rfl (zg rfl (au.bD s rfl rfl rfl (dB rfl fo) ?_))
 intro p3 h s
 refine zk 8 rfl (zc rfl (Ea hT (s.ae [1,1,1,1,1]) mS hw I hm mD) ?_)
 rintro v h ⟨e,c,aj,hc,Er⟩
 have J:=hc.fit I fun n hn=>hk n ((eR _).mem_iff.1 hn)
 rcases Er with⟨he,rfl,s⟩|⟨rfl,jO,av,cs,rfl,s⟩
 ·skip
  refine zk 3 rfl (zf rfl (ji _ _) (zS rfl (s.dK (k:=5) rfl Bt rfl (show 0+5<6 by decide) rfl rfl) ?_))
  intro h s
  refine zk 5 rfl (zB rfl aD (by simp;exact he) ?_)
  exact zk 9 rfl (WP.ret ⟨aa,_,rfl,e,c,aj,hc,.inl ⟨he,rfl⟩,(s.ae [0,0,0,0,0,1]).del 6⟩)
 ·have yV:=s.iz (j:=0) rfl
  refine zk 3 rfl (zf rfl (ji _ _) (zS rfl (s.dK (k:=7) rfl Bt rfl (show 0+5<6 by decide) yV.1 yV.2.1) ?_))
  intro h s
  refine zk 5 rfl (zC rfl aD (rfl) ?_)
  have s0:=s
  refine zk 6 rfl (zY s 7 ji o5 rfl ?_)
  obtain⟨qa,qb,q1,q2,q3⟩:=s.at (k:=1) rfl
  have abO:=nI q3
  refine zo rfl (aP rfl rfl rfl (s.fR (n:=c.length) (j:=0) rfl abO (by decide) iF)) ?_
  refine zk 2 rfl (WP.block ?_)
  refine Rq jO (fun x hx => ?_) c.length 0 _ _ _ (by omega) s ⟨rfl,rfl,rfl,rfl,rfl,aa⟩ fun E' h' hE s' => ?_
  ·exact(J x hx).2
  have s:=s'
  refine WP.has hE (zg rfl (zl rfl (s.cV (k:=7) rfl iJ dD) (zc rfl (GM hT (s.ae [8,0,0]) hX (My jO J qR qS qB hd)) ?_)))
  rintro v h (⟨hg,rfl,s⟩|⟨hg,hb,rfl,s⟩|⟨hg,hb,u,rfl,s⟩)
  ·skip
   exact zk 9 rfl (zo rfl (aP rfl rfl rfl (o_ rfl aJ)) (zk 6 rfl (WP.ret ⟨aa,_,rfl,0,c,aj,hc,.inr (.inl ⟨rfl,hg,rfl⟩),((s.ae [3,3,3,3,3,0]).del 8 |>.del 7 |>.del 6)⟩)))
  ·skip
   exact zk 9 rfl (zo rfl (aP rfl rfl rfl (o_ rfl aJ)) (zk 6 rfl (WP.ret ⟨aa,_,rfl,0,c,aj,hc,.inr (.inr (.inl ⟨rfl,hb,rfl⟩)),((s.ae [3,3,3,3,3,0]).del 8 |>.del 7 |>.del 6)⟩)))
  ·skip
   exact zk 9 rfl (zo rfl (aP rfl rfl rfl (aW aJ (s.aG (k:=0) rfl (aN _ _)))) (zk 6 rfl (WP.ret ⟨aa,_,rfl,0,c,aj,hc,.inr (.inr (.inr ⟨rfl,by rw[mJ]⟩)),((s.ae [4,4,4,4,4,1]).del 9 |>.del 8 |>.del 7 |>.del 6)⟩)))
end
def kj (cell:List Nat)(i:Nat): Nat:=leN ((cell.drop (8*i)).take 8)
def vT (cell:List Nat)(i n:Nat): List Nat:=a_ cell (8*i) (le 8 n)
theorem JS {cell:List Nat}(h:cell.length=400)(hi:i<50): (vT cell i n).length=400:=by
 rw[vT,cI (by rw[cO];omega),h]
theorem XY {cell:List Nat}(I:∀b∈cell,b<256): kj cell i<18446744073709551616:=by
 have h:=Al ((cell.drop (8*i)).take 8) fun b J=>I b (nW (kE J))
 have h2:((cell.drop (8*i)).take 8).length≤8:=by simp;omega
 have h3:=qW (n:=256) (by decide) h2
 exact gQ h h3
theorem XZ {cell:List Nat}(h:cell.length=400)(hi:i<50)(J:n<18446744073709551616): kj (vT cell i n) j=if j=i then n else kj cell j:=by
 have e:∀(l:List Nat) (k:Nat),kj l k=dF l (8*k) 8:=fun l k=>by
  rw[kj,dF,tL,A3]
 rw[e,e,vT]
 by_cases I:j=i
 ·subst I;rw[aC rfl];exact xm (by omega) (by omega)
 ·rw[ak I];exact BM (by rw[cO];omega) (by rw[cO];omega)
theorem Wg {b:Nat}(I:0<b)(hw:a<9223372036854775808): binV P h .rem t x y (.int .i64 (a:Int)) (.int .i64 (b:Int))=some (.int .i64 ((a%b:Nat):Int)):=by
 simp only[binV,ikBeq,ah,intV]
 have:intBeq (b:Int) 0=false:=by rw[kW];simp;omega
 have J:a%b≤a:=Nat.mod_le a b
 grind[aA]
theorem Rr : IntKind.wrap .u64 (n:Int)=((n%18446744073709551616:Nat):Int):=by
 rfl
theorem aan {b:Nat}: binV P h .add t x y (.int .u64 (a:Int)) (.int .u64 (b:Int))=some (.int .u64 (((a+b)%18446744073709551616:Nat):Int)):=by
 simp only[binV,ikBeq,ah,intV]
 rw[show(a:Int)+(b:Int)=((a+b:Nat):Int) by omega,Rr]
structure oC (N n k:Nat)(cell:List Nat)(P:Int→List Nat): Prop where
 hd:∃R M,kB N R M P∧dF R 0 4=k
 k2:2≤k
 kN:k<N
 pg:eD (P k) 205 0 n [cell]
 len:cell.length=400
theorem oC.ada {cell:List Nat}{P I:Int→List Nat}(h:oC N n k cell P)(e:∀m,I m=P m): oC N n k cell I:=by
 rw[show I=P from funext e];exact h
theorem oC.put {cell I J:List Nat}(h:oC N n k cell (pgG now ε))(hs:Sm N ε aj)(hb:eD J 205 0 n [I])(hl:I.length=400): oC N n k I (pgG (b8 (k:Int) J now) aj):=by
 obtain⟨R,M,h1,h2⟩:=h.hd
 have hk:=h.k2
 have e:∀m:Int,m≠k→pgG (b8 (k:Int) J now) aj m=pgG now ε m:=fun m hm=>by rw[iG,ak (l9 hm),Ek hs]
 exact⟨⟨R,M,h1.roots (e 1 (by omega)) (by rw[e 0 (by omega)];exact h1.head) h1.rl,h2⟩,hk,h.kN,by rw[iG,aC rfl];exact hb,hl⟩
section
variable {told:cJ} {g p:Nat} {op:V} {cell:List Nat} {A:bA→aI} {pg:bA→Int→List Nat}
theorem JT (hT:W told)(hR:Eh told N B rv A pg)(mS:EI N B ε)(hp:oC N n k cell (pg ε))(hi:i<50)(s:Sat h (A ε::S)):
  Call ⟨Tryz.prog,told⟩ 74 [.ptr c 0,rv,.int .i64 (i:Int)] h fun v h'=>∃w u aj,v=.aQ [.int .i64 (k:Int),w,u,.int .i64 0]∧EI N B aj∧Sm N ε aj∧Sat h' (aZ u cell::aZ w (pg ε k)::A aj::S):=by
 obtain⟨R,M,hs,hk⟩:=hp.hd
 obtain⟨ex,uw⟩:=hs.head
 have hkN:=hp.kN
 obtain⟨ty,u,f,rfl,hm,lQ⟩:=id hR.iface
 have e:i/50=0:=by omega
 refine Call.of_wp (hT.free _ rfl) Tryz.func74 rfl rfl (zK 12 rfl (zo rfl (ay (r:=.int .i64 ((i/50:Nat):Int)) rfl rfl (HT (b:=50) (by decide) (by omega))) ?_))
 rw[e]
 refine zc rfl (MJ (i:=0) hT hR mS (by omega) uw hs.rl (by decide) (by decide) s) ?_
 rintro v h ⟨qP,rfl,I,J,s⟩
 rw[aC (by decide),show 4*(0:Int).toNat=0 from rfl,hk]
 refine zk 9 rfl (zC rfl aD (rfl) (zk 8 rfl (au.any rfl rfl rfl (OpR.invoke rfl rfl rfl hm rfl (lQ (n:=(k:Int)) I (by omega) (by omega) s)) ?_)))
 rintro v h ⟨w,ki,rfl,uX,qU,s⟩
 rw[hR.same J] at s
 refine zk 9 rfl (zC rfl aD (rfl) (zk 6 rfl (zc rfl (Jx (i:=0) hT s (aN _ _) hp.pg rfl) ?_)))
 rintro v h ⟨z,rfl,s⟩
 exact zk 17 rfl (WP.ret ⟨aa,_,rfl,w,z,ki,rfl,uX,J.trans qU,s⟩)
set_option maxHeartbeats 1000000 in
theorem Ug (hT:W told)(hB:B≤2000)(mS:EI N B ε)(hw:NW N now)(hp:oC N n k cell (pgG now ε))(hi:i<50){d:Int}{dn:Nat}(hd:IntKind.wrap .u64 d=(dn:Int))(sX:dn<18446744073709551616)(s:Sat h (GA g a p q r data aH now ε::S)):
  Call ⟨Tryz.prog,told⟩ 70 [.ptr c 0,.ptr g 0,.int .i64 (i:Int),.int .i64 d] h fun v h'=>∃aj b',v=.int .i64 0∧EI N B aj∧Sm N ε aj∧NW N (b8 (k:Int) b' now) ∧
   eD b' 205 0 n [vT cell i ((kj cell i+dn)%18446744073709551616)]∧Sat h' (GA g a p q r data aH (b8 (k:Int) b' now) aj::S):=by
 have hkN:=hp.kN
 have jO:=hp.len
 refine Call.of_wp (hT.free _ rfl) Tryz.func70 rfl rfl (zK 8 rfl (zo rfl (rU rfl (mki_of qG rfl)) (zm rfl (zc rfl (JT hT (aad hT hB hw) mS hp hi s) ?_))))
 rintro v h ⟨w,u,qP,rfl,oB,g_,s⟩
 have gP:pgG now qP=pgG now ε:=Ek g_
 have I:=(s.buf (k:=0) rfl).view
 have abP:=I.1
 have hcn:=XY (cell:=cell) (i:=i) abP
 have Jk:=dc I (a:=8*i) (b:=8*i+8) (by omega) (by omega)
 have JR:(cell.take (8*i+8)).drop (8*i)=(cell.drop (8*i)).take 8:=by rw[tL,A3]
 have cH:(kj cell i+dn)%18446744073709551616<18446744073709551616:=tQ _ (by decide)
 have aao:∀ {P:Program} {h:H} {t:TypeId} {x y:Operand},binV P h .add t x y (.int .u64 (kj cell i:Int)) (.int .u64 (dn:Int))=some (.int .u64 (((kj cell i+dn)%18446744073709551616:Nat):Int)):=aan
 generalize (kj cell i+dn)%18446744073709551616=z at cH aao ⊢
 have adb:i%50=i:=nX hi
 refine zk 14 rfl (zC rfl aD (rfl) (zk 6 rfl (zo rfl (ay (r:=.int .i64 (i:Int)) rfl rfl ((Wg (b:=50) (by decide) (by omega)).trans (by rw[adb]))) ?_)))
 refine zo rfl (ay (r:=.int .i64 ((8*i:Nat):Int)) rfl rfl (by rw[show((8*i:Nat):Int)=(i:Int)*8 by omega];exact jf (aA (by omega) (by omega)))) ?_
 refine zk 3 rfl ?_
 have wH:=cX I
 have uM:=cX Jk.2.1
 have wL:∀h,convV Tryz.prog h 2 32 (.int .i64 d)=some (.int .u64 (dn:Int),h):=fun h=>by simp only[convV,En,bR,hd]
 have s0:=s
 refine WP.drawn [some (0,3),some (0,3),some (0,3),some (0,3),some (0,3),af,af,af,af,af,af,some (0,2),some (0,2),af,af,af] rfl (by kernel_rfl) (by kernel_rfl) ?_
 refine zM rfl (zM rfl (zM rfl (zO rfl (ay (r:=.int .i64 ((8*i+8:Nat):Int)) rfl rfl (by rw[show((8*i+8:Nat):Int)=((8*i:Nat):Int)+8 by omega];exact bf (aA (by omega) (by omega)))) ?_)))
 refine zO rfl (bU (p:=some (.int .i64 ((8*i:Nat):Int))) (q:=some (.int .i64 ((8*i+8:Nat):Int))) (m:=none) (p':=some (8*i)) (q':=some (8*i+8)) (m':=none) rfl rfl rfl rfl (by rw[cW (by omega),cL]) (by rw[cW (by omega),cL]) rfl (dc (s.buf (k:=0) rfl).view (by omega) (by omega)).1) ?_
 refine zM rfl (zM rfl (zM rfl (zO rfl (ay (r:=.int .i64 ((8*i+8:Nat):Int)) rfl rfl (by rw[show((8*i+8:Nat):Int)=((8*i:Nat):Int)+8 by omega];exact bf (aA (by omega) (by omega)))) ?_)))
 refine zO rfl (bU (p:=some (.int .i64 ((8*i:Nat):Int))) (q:=some (.int .i64 ((8*i+8:Nat):Int))) (m:=none) (p':=some (8*i)) (q':=some (8*i+8)) (m':=none) rfl rfl rfl rfl (by rw[cW (by omega),cL]) (by rw[cW (by omega),cL]) rfl (dc I (by omega) (by omega)).1) ?_
 refine az.any rfl rfl rfl rfl (OpR.call rfl rfl rfl rfl (mz hT s (k:=0) rfl (jJ (aN _ _) (a:=8*i) (b:=8*i+8) (by omega) (by omega)) (by rw[JR];simp;omega))) ?_
 rintro r h' ⟨rfl,rfl⟩
 rw[JR,show leN ((cell.drop (8*i)).take 8)=kj cell i from rfl]
 refine zM rfl (az.op rfl rfl rfl (by simp only[isEff,bR]) (bT (r:=.int .u64 (dn:Int)) rfl (wL _)) ?_)
 refine zO rfl (ay (r:=.int .u64 (z:Int)) rfl rfl aao) ?_
 have s:=s.uE
 refine az.any rfl rfl rfl rfl (OpR.call rfl rfl rfl rfl (xb (z:=8) (n:=z) hT s (by decide) (by simp))) ?_
 intro v h s
 rw[dU] at s
 have s:=s.ae [1,0]
 have s1:=s
 refine az.any rfl rfl rfl rfl (OpR.NS (p:=8*i) (q:=8*i+8) rfl s (aN _ _) rfl rfl rfl rfl (by omega) (by omega) (by rw[cO];omega)) ?_
 intro _ h s
 rw[gB (by rw[cO];omega)] at s
 have s:Sat h (aZ u (vT cell i z)::_):=s
 refine az.nil ⟨⟨fun _ _=>.inr ⟨rfl,⟨_,bn rfl⟩,wH⟩,fun _ _=>.inr ⟨rfl,⟨_,bn rfl⟩,aS _ rfl⟩,fun _ _=>.inr ⟨rfl,⟨_,bn rfl⟩,aS _ rfl⟩,fun _ _=>.inr ⟨rfl,⟨_,ay (r:=.int .i64 ((8*i+8:Nat):Int)) rfl rfl (by rw[show((8*i+8:Nat):Int)=((8*i:Nat):Int)+8 by omega];exact bf (aA (by omega) (by omega)))⟩,aS _ rfl⟩,sA (.inr ⟨rfl,⟨_,bU (p:=some (.int .i64 ((8*i:Nat):Int))) (q:=some (.int .i64 ((8*i+8:Nat):Int))) (m:=none) (p':=some (8*i)) (q':=some (8*i+8)) (m':=none) rfl rfl rfl rfl (by rw[cW (by omega),cL]) (by rw[cW (by omega),cL]) rfl (dc (s0.buf (k:=0) rfl).view (by omega) (by omega)).1⟩,uM⟩) (.inr ⟨rfl,⟨_,bU (p:=some (.int .i64 ((8*i:Nat):Int))) (q:=some (.int .i64 ((8*i+8:Nat):Int))) (m:=none) (p':=some (8*i)) (q':=some (8*i+8)) (m':=none) rfl rfl rfl rfl (by rw[cW (by omega),cL]) (by rw[cW (by omega),cL]) rfl (dc (s0.buf (k:=0) rfl).view (by omega) (by omega)).1⟩,uM⟩) (.inr ⟨rfl,⟨_,bU (p:=some (.int .i64 ((8*i:Nat):Int))) (q:=some (.int .i64 ((8*i+8:Nat):Int))) (m:=none) (p':=some (8*i)) (q':=some (8*i+8)) (m':=none) rfl rfl rfl rfl (by rw[cW (by omega),cL]) (by rw[cW (by omega),cL]) rfl (dc (s1.buf (k:=0) rfl).view (by omega) (by omega)).1⟩,uM⟩),aa,aa,aa,aa,aa,aa,fun _ _=>.inr ⟨rfl,⟨_,bn rfl⟩,aS _ rfl⟩,fun _ _=>.inr ⟨rfl,⟨_,bT (r:=.int .u64 (dn:Int)) rfl (wL _)⟩,aS _ rfl⟩,aa,aa,aa,aa⟩,?_⟩
 have s:=s.ae [2,0,1]
 have ade:eD (pgG now ε k) 205 0 n [cell]:=hp.pg
 refine zK 5 rfl (zc rfl (BN (i:=0) (c:=cell) hT s (aN _ _) (aN _ _) ade rfl (by rw[JS jO hi,jO])) ?_)
 rintro v h ⟨w3,b',rfl,J,s⟩
 have J:eD b' 205 0 n [vT cell i z]:=J
 refine zk 9 rfl (zC rfl aD (rfl) (zk 8 rfl (zc rfl (BO (i:=k) hT hB oB hw hkN (s.ae [3,0]) (aN _ _) J) ?_)))
 rintro v h ⟨uZ,rfl,sY,nQ,qn,s⟩
 exact zk 2 rfl (WP.ret ⟨aa,_,rfl,uZ,b',rfl,sY,g_.trans nQ,qn,J,(((s.del 4).del 3).del 2).del 1⟩)
theorem Uh (hT:W told)(hB:B≤2000)(I:EI N B ε)(hp:oC N n k cell (pgA ε))(hn:n≤50){m:Nat}{i:Int}(s:Sat h (SA a p q r op data aH ε::pt c (.cells 2 [.ptr m 0,.int .i64 (n:Int)] false)::pt m (.cells 4 [.ptr a 0,uv,av,.int .u64 (nx:Int)] false)::S)):
  Call ⟨Tryz.prog,told⟩ 29 [.ptr c 0,.int .i64 i] h fun v h'=>∃aj,EI N B aj∧Sm N ε aj∧v=(if 0≤i∧i<n then .aQ [.int .i64 (IntKind.wrap .i64 (kj cell i.toNat:Nat)),.int .i64 0] else .aQ [.int .i64 0,.int .i64 1]) ∧
   Sat h' (SA a p q r op data aH aj::pt c (.cells 2 [.ptr m 0,.int .i64 (n:Int)] false)::pt m (.cells 4 [.ptr a 0,uv,av,.int .u64 (nx:Int)] false)::S):=by
 have jO:=hp.len
 refine Call.of_wp (hT.free _ rfl) Tryz.func29 rfl rfl (zK 9 rfl ?_)
 by_cases h0:i<0
 ·skip
  refine zB rfl aT (by simp;exact h0) ?_
  exact zk 15 rfl (WP.ret ⟨aa,_,rfl,ε,I,Sm.refl N ε,by rw[ak (by omega)],s⟩)
 ·obtain⟨j,rfl⟩:∃j:Nat,i=j:=⟨i.toNat,by omega⟩
  refine zC rfl aT (by simp<;>omega) ?_
  refine zk 4 rfl (zY s 1 wY dJ rfl ?_)
  by_cases h1:n≤j
  ·skip
   refine zB rfl jg (by simp;omega) ?_
   exact zk 8 rfl (WP.ret ⟨aa,_,rfl,ε,I,Sm.refl N ε,by rw[ak (by omega)],s⟩)
  ·have J:j%50=j:=nX (by omega)
   have wL:∀h,convV Tryz.prog h 32 2 (.int .u64 (kj cell j:Nat))=some (.int .i64 (IntKind.wrap .i64 (kj cell j:Nat)),h):=fun h=>by simp only[convV,En,bR]
   refine zC rfl jg (by simp;omega) ?_
   refine zk 9 rfl (zY s 1 rz ry rfl (zn rfl (zY s 2 rC o9 rfl (zo rfl (rU rfl (mki_of uQ rfl)) (zm rfl (zc rfl (JT hT (Oj hT hB) I hp (by omega) s) ?_))))))
   rintro v h ⟨w,u,qP,rfl,oB,g_,s⟩
   have yT:=(s.buf (k:=0) rfl).view
   have Jk:=dc yT (a:=8*j) (b:=8*j+8) (by omega) (by omega)
   have JR:(cell.take (8*j+8)).drop (8*j)=(cell.drop (8*j)).take 8:=by rw[tL,A3]
   refine zk 14 rfl (zC rfl aD (rfl) (zk 6 rfl (zo rfl (ay (r:=.int .i64 (j:Int)) rfl rfl ((Wg (b:=50) (by decide) (by omega)).trans (by rw[J]))) ?_)))
   refine zo rfl (ay (r:=.int .i64 ((8*j:Nat):Int)) rfl rfl (by rw[show((8*j:Nat):Int)=(j:Int)*8 by omega];exact jf (aA (by omega) (by omega)))) ?_
   refine zk 7 rfl (zo rfl (ay (r:=.int .i64 ((8*j+8:Nat):Int)) rfl rfl (by rw[show((8*j+8:Nat):Int)=((8*j:Nat):Int)+8 by omega];exact bf (aA (by omega) (by omega)))) ?_)
   refine zo rfl (bU (p:=some (.int .i64 ((8*j:Nat):Int))) (q:=some (.int .i64 ((8*j+8:Nat):Int))) (m:=none) (p':=some (8*j)) (q':=some (8*j+8)) (m':=none) rfl rfl rfl rfl (by rw[cW (by omega),cL]) (by rw[cW (by omega),cL]) rfl Jk.1) ?_
   refine zc rfl (mz hT s (k:=0) rfl (jJ (aN _ _) (a:=8*j) (b:=8*j+8) (by omega) (by omega)) (by rw[JR];simp;omega)) ?_
   rintro r h' ⟨rfl,rfl⟩
   rw[JR,show leN ((cell.drop (8*j)).take 8)=kj cell j from rfl]
   exact zo rfl (bT (r:=.int .i64 (IntKind.wrap .i64 (kj cell j:Nat))) rfl (wL _)) (zk 3 rfl (WP.ret ⟨aa,_,rfl,qP,oB,g_,by rw[aC (by omega),cL],((s.del 1).del 0)⟩))
end
def JU (l:List Nat): List V:=l.map fun(n:Nat)=>V.int .u64 (n:Int)
structure mU where
 fst:Nat
 jl:Nat
 qK:Nat
 G1:List Nat
 dn:List (Nat×Nat)
 pg:List Int
variable {A:mU}
def mV (l:List (Nat×Nat)): List V:=l.flatMap fun d=>[.int .u64 (d.1:Int),.int .i64 (d.2:Int)]
theorem kK (l:List (Nat×Nat)): (mV l).length=l.length*2:=by
 induction l with
 |nil=>rfl
 |cons d l I=>rw[mV,pM,b7];show 2+(mV l).length=_;rw[I,bz];omega
theorem FY : ∀ {l:List (Nat×Nat)} {i:Nat} {d:Nat×Nat},l[i]?=some d→((mV l).drop (i*2)).take 2=[.int .u64 (d.1:Int),.int .i64 (d.2:Int)]:=by
 intro l
 induction l with
 |nil=>intro i d h;simp at h
 |cons x l I =>
  intro i d h
  cases i with
  |zero=>simp at h;subst h;rfl
  |succ i =>
   have:=I (i:=i) (by simpa using h)
   rw[show(i+1)*2=i*2+2 by omega]
   exact this
theorem X0 {a b:List (Nat×Nat)}: mV (a++b)=mV a++mV b:=by simp[mV]
def oD (id f l n:Nat)(mv dv pv:V): List V:=[.int .u64 (id:Int),.int .u64 (f:Int),.int .u64 (l:Int),.int .u64 (n:Int),mv,dv,pv]
def vU (pv:V)(l:List Int): aI:=ng (fun v (_:Unit)=>.pu (v=.agg [])) pv (l.map fun n=>(n,()))
def pH (r id:Nat)(A:mU): aI:=xs fun mv:V=>xs fun dv:V=>xs fun pv:V=>star [pt r (.cells 7 (oD id A.fst A.jl A.qK mv dv pv) false),.arr 1 mv (JU A.G1),.arr 2 dv (mV A.dn),vU pv A.pg]
abbrev mL := List (Nat×Nat×mU)
variable {L:mL}
def jX : mL→aI
 |[]=>.pu True
 |e::L=>star [pH e.2.1 e.1 e.2.2,jX L]
def fP (m a nx:Nat)(u:V)(L:mL): aI:=xs fun av:V=>star [pt m (.cells 4 [.ptr a 0,u,av,.int .u64 (nx:Int)] false),jv .u64 (fun v (r:Nat)=>.pu (v=.ptr r 0)) av (L.map fun e=>((e.1:Int),e.2.1)),jX L]
section
variable {m:Nat} {u:V} {x:Nat×Nat×mU}
theorem kn : Sat h (pH r id A::S)↔∃mv dv pv,Sat h (pt r (.cells 7 (oD id A.fst A.jl A.qK mv dv pv) false)::.arr 1 mv (JU A.G1)::.arr 2 dv (mV A.dn)::vU pv A.pg::S):=by
 simp[pH,gK,aM]
theorem dI : Sat h (fP m a nx u L::S)↔∃av,Sat h (pt m (.cells 4 [.ptr a 0,u,av,.int .u64 (nx:Int)] false)::jv .u64 (fun v (r:Nat)=>.pu (v=.ptr r 0)) av (L.map fun e=>((e.1:Int),e.2.1))::jX L::S):=by
 simp[fP,gK,aM]
theorem tF : Sat h (jX (x::L)::S)↔Sat h (pH x.2.1 x.1 x.2.2::jX L::S):=aM
theorem ko : ∀ {L:mL} {i:Nat},L[i]?=some x→∀ {S:List aI},Sat h (jX L::S)↔Sat h (pH x.2.1 x.1 x.2.2::jX (L.eraseIdx i)::S):=by
 intro L
 induction L with
 |nil=>intro i h;simp at h
 |cons y L J =>
  intro i I S
  cases i with
  |zero=>simp at I;subst I;exact tF
  |succ i =>
   have I:L[i]?=some x:=by simpa using I
   rw[tF,List.eraseIdx_cons_succ]
   constructor
   ·intro s
    exact((tF (x:=y)).2 ((((J I).1 (s.ae [1])).ae [2,1]))).ae [1]
   ·intro s
    exact((J I).2 (((tF (x:=y)).1 (s.ae [1])).ae [2,1])).ae [1]
theorem JV (s:Sat h (pH r id A::jX L::S)): Sat h (jX (L++[(id,r,A)])::S):=by
 have I:(L++[(id,r,A)])[L.length]?=some (id,r,A):=by simp
 refine(ko I).2 ?_
 rw[List.eraseIdx_append_of_length_le (aV _)]
 simpa using s
theorem Ui {x':Nat×Nat×mU}(I:L[i]?=some x): Sat h (pH x'.2.1 x'.1 x'.2.2::jX (L.eraseIdx i)::S)↔Sat h (jX (L.set i x')::S):=by
 have hi:=(List.getElem?_eq_some_iff.1 I).1
 have J:(L.set i x')[i]?=some x':=by simp[hi]
 rw[ko J,List.eraseIdx_set_eq]
end
theorem JW {k:Int}{m:Nat}(hm:m<65536): ∃r:Nat,r≤m∧∀ {P:Program} {h:H} {t:TypeId} {x y:Operand},binV P h .and t x y (.int .i64 k) (.int .i64 (m:Int))=some (.int .i64 (r:Int)):=by
 refine⟨Nat.land ((k%(2^(IntKind.i64).bits:Int)).toNat) m,Nat.and_le_right,fun {P h t x y} => ?_⟩
 have I:(((m:Nat):Int)%(2^(IntKind.i64).bits:Int)).toNat=m:=by simp only[IntKind.bits];omega
 simp only[binV,ikBeq,ah,intV,bitsV,I]
 have hle:Nat.land ((k%(2^(IntKind.i64).bits:Int)).toNat) m≤m:=Nat.and_le_right
 rw[wrap_i64 (n:=Nat.land ((k%(2^(IntKind.i64).bits:Int)).toNat) m) (by omega)]
def Rs (i:Nat): List Nat:=(List.range (i-2)).map (· + 2)
theorem Uj : (nP k).length=512:=by
 unfold nP
 rw[cI (by rw[cO,dg,eY];decide),dg,eY]
theorem Sat.JX {v:V}{e:TypeId}(s:Sat h (.arr k v cs::S))(hi:i*k+k≤cs.length)(J:1≤k)(hu:P.underlying t=some (.slice e))(I:bB P e=some k)(ha:isAggT P e=some true):
  ∃id off,indexAddrV P t v (.int .i64 (i:Int))=some (.ptr id off)∧loadV P h e (.ptr id off)=some (.agg ((cs.drop (i*k)).take k)):=by
 obtain⟨id,n,cap,N,rest,rfl,hl,hN,s1,_⟩:=s.L8 (fun q=>by rw[q] at hi;simp at hi;omega)
 refine⟨id,i*k,?_,?_⟩
 ·simp only[indexAddrV,hu,I,cL]
  have:i<n:=by
   have h4:i*k+k=(i+1)*k:=by rw[pN,Bf]
   rw[h4,hl] at hi
   exact EW (EK hi J)
  rw[show(decide ((0:Int)≤(i:Int))&&decide ((i:Int)<(n:Int)))=true by simp;omega,ah]
  simp
 ·rw[VU ha I (s1.row (k:=0) rfl) (by rw[b7];exact hN.symm) (by omega)]
  rw[List.drop_append_of_le_length (by omega),vW (by rw[EZ];omega)]
def jL (l:List (Nat×Nat)): Nat:=(l.map (·.2)).foldr (· + ·) 0
theorem JY {a b:List (Nat×Nat)}: jL (a++b)=jL a+jL b:=by
 induction a<;>grind[jL]
theorem Ru : ∀ {l:List (Nat×Nat)} {i:Nat} {d:Nat×Nat},l[i]?=some d→jL (l.take (i+1))=jL (l.take i)+d.2:=by
 intro l i d h
 have hi:=(List.getElem?_eq_some_iff.1 h)
 rw[AZ hi.1,JY,hi.2];simp[jL]
def qL (dn:List (Nat×Nat))(k:Nat): Nat:=128+jL dn+(if dn=[] then 0 else 560*(k+8))
structure Grow (h h':H)(k:Nat): Prop where
 next:h'.next=h.next+k
 get:∀i,i<h.next→T.get h'.tr i=T.get h.tr i
theorem Grow.trans {I:H}(a:Grow h h' i)(b:Grow h' I j): Grow h I (i+j) :=
 ⟨by rw[b.next,a.next];omega,fun k J=>by rw[b.get k (by rw[a.next];omega),a.get k J]⟩
section
variable {told:cJ} {m:Nat} {u:V}
noncomputable def coL : Code:=cU [1,1,0,1,0,0] ((Tryz.f143.body).getD .skip)
theorem Ox {dn:List (Nat×Nat)}(hs:jL dn≤1099511627776)(hl:dn.length≤1048576){t0:V}: ∀(j i:Nat) (h:H) (E:List (Nat×V)) (Q:Ex→List (Nat×V)→H→Prop),i+j=dn.length→Sat h (.arr 2 dv (mV dn)::S) →
  Has E [(0,t0),(3,.int .i64 ((128+jL (dn.take i):Nat):Int)),(9,dv),(10,.int .i64 (dn.length:Int)),(11,.int .i64 (i:Int))] →
  (∀E' h',Grow h h' j→Has E' [(0,t0),(3,.int .i64 ((128+jL dn:Nat):Int))]→Sat h' (.arr 2 dv (mV dn)::S)→Q (.exit 0) E' h') →
  WP ⟨Tryz.prog,told⟩ 36 (.loop coL) E h Q:=by
 intro j
 induction j with
 |zero =>
  intro i h E Q hi s I J
  obtain rfl:i=dn.length:=by omega
  rw[List.take_length] at I
  refine WP.loop (WP.has I (zg rfl (zC rfl aT (by simp) ?_)))
  exact zk 3 rfl (WP.exit (J _ _ ⟨rfl,fun _ _=>rfl⟩ ⟨rfl,rfl,aa⟩ s))
 |succ j ih =>
  intro i h E Q hi s I J
  obtain⟨d,hd⟩:∃d,dn[i]?=some d:=⟨_,bw (by omega)⟩
  have fo:=Ru hd
  have hle:jL (dn.take (i+1))≤jL dn:=by
   conv=>rhs;rw[←EP (i+1) dn,JY]
   omega
  obtain⟨AN,off,e1,e2⟩:=s.JX (P:=Tryz.prog) (i:=i) (k:=2) (by rw[kK];omega) (by decide) lq tw HO
  rw[FY hd] at e2
  refine WP.loop (WP.has I (zg rfl (zB rfl aT (by simp;omega) ?_)))
  refine zk 5 rfl (WP.block (zg rfl (zo rfl (c8 (r:=.ptr AN off) rfl rfl e1) (zl rfl e2 (zo rfl (bI DM) ?_)))))
  have s1:=s.new (.cells 2 [.int .u64 0,.int .i64 0] false)
  have e3:=abC (P:=Tryz.prog) (t:=185) (l:=[.int .u64 (d.1:Int),.int .i64 (d.2:Int)]) (s1.row (k:=0) rfl) tw rfl rfl rfl
  have s2:=s1.put (o':=.cells 2 [.int .u64 (d.1:Int),.int .i64 (d.2:Int)] false) (k:=0) rfl
  dsimp only[setA] at s2
  have hg:Grow h ((h.new (.cells 2 [.int .u64 0,.int .i64 0] false)).put h.next (some (.cells 2 [.int .u64 (d.1:Int),.int .i64 (d.2:Int)] false))) 1:=⟨rfl,fun i hi=>by rw[dN,ak (by omega),gT,ak (by omega)]⟩
  refine au.Vq rfl rfl (wW rfl rfl e3) ?_
  have s:=s2
  refine zk 3 rfl (zY s 0 Xd dJ rfl (zo rfl (ay (r:=.int .i64 ((128+jL (dn.take (i+1)):Nat):Int)) rfl rfl (by rw[show((128+jL (dn.take (i+1)):Nat):Int)=((128+jL (dn.take i):Nat):Int)+(d.2:Int) by omega];exact bf (aA (by omega) (by omega)))) ?_))
  refine za rfl (zv (zr rfl (zb rfl (by exact bf (aA (by omega) (by omega))) ?_)))
  refine zm rfl (zv ?_)
  exact ih (i+1) _ _ Q (by omega) s.drop ⟨rfl,rfl,rfl,rfl,rfl,aa⟩ fun E' h' hg' fE s'=>J E' h' (by have:=hg.trans hg';rw[Nat.add_comm 1 j] at this;exact this) fE s'
theorem Uk (hs:jL A.dn≤1099511627776)(hd:A.dn.length≤1048576)(hp:A.pg.length≤1048576)(hT:W told)(s:Sat h (pH r id A::S)): Call ⟨Tryz.prog,told⟩ 143 [.ptr r 0] h fun v h'=>v=.int .i64 (qL A.dn A.pg.length:Int)∧Grow h h' A.dn.length∧Sat h' (pH r id A::S):=by
 obtain⟨mv,dv,pv,s⟩:=kn.1 s
 have s:=s.ae [2]
 refine Call.of_wp (hT.free _ rfl) Tryz.func143 rfl rfl (zK 13 rfl (zY s 1 rE DL rfl (zo rfl (aP rfl rfl rfl (s.fR (n:=A.dn.length) (j:=0) rfl (kK _) (by decide) lq)) ?_)))
 refine zk 2 rfl (WP.block (Ox hs hd A.dn.length 0 _ _ _ (by omega) s ⟨rfl,rfl,rfl,rfl,rfl,aa⟩ fun E' h' hg J s' => ?_))
 have s:=s'
 refine WP.has J (zK 5 rfl (zY s 1 rE DL rfl (zo rfl (aP rfl rfl rfl (s.fR (n:=A.dn.length) (j:=0) rfl (kK _) (by decide) lq)) ?_)))
 have fin:∀ {h:H},Sat h (.arr 2 dv (mV A.dn)::pt r (.cells 7 (oD id A.fst A.jl A.qK mv dv pv) false)::.arr 1 mv (JU A.G1)::vU pv A.pg::S)→Sat h (pH r id A::S):=fun s=>kn.2 ⟨mv,dv,pv,s.ae [1,1,0]⟩
 by_cases I:A.dn=[]
 ·skip
  refine zC rfl fN (by simp[I]) ?_
  exact zk 8 rfl (WP.ret ⟨aa,_,rfl,by rw[qL,aC I];rfl,hg,fin s⟩)
 ·have h1:0<A.dn.length:=List.length_pos_iff.2 I
  refine zB rfl fN (by simp;omega) ?_
  refine zk 6 rfl (zY s 1 FC NN rfl (zo rfl (aP rfl rfl rfl ((CJ (s.ae [3]) JP).trans (by rw[gD]))) ?_))
  refine zo rfl (ay (r:=.int .i64 ((A.pg.length+8:Nat):Int)) rfl rfl (by rw[show((A.pg.length+8:Nat):Int)=(A.pg.length:Int)+8 by omega];exact bf (aA (by omega) (by omega)))) ?_
  refine zo rfl (ay (r:=.int .i64 ((560*(A.pg.length+8):Nat):Int)) rfl rfl (by rw[show((560*(A.pg.length+8):Nat):Int)=560*((A.pg.length+8:Nat):Int) by omega];exact jf (aA (by omega) (by omega)))) ?_
  refine zo rfl (ay (r:=.int .i64 (qL A.dn A.pg.length:Int)) rfl rfl (by rw[qL,ak I,show((128+jL A.dn+560*(A.pg.length+8):Nat):Int)=((128+jL A.dn:Nat):Int)+((560*(A.pg.length+8):Nat):Int) by omega];exact bf (aA (by omega) (by omega)))) ?_
  exact zk 7 rfl (WP.ret ⟨aa,_,rfl,rfl,hg,fin s⟩)
end
theorem X1 {v:V}(a:uB (T.get h.tr) k v cs): ∃n,cs.length=n*k∧srcV h k v=some (cs,n):=by
 rcases a.2 with⟨rfl,rfl⟩|⟨id,n,cap,N,rest,rfl,J,I,e2,_,e4⟩
 ·exact⟨0,by simp,rfl⟩
 ·refine⟨n,I,?_⟩
  simp only[srcV]
  rw[Ae J (by grind) (by omega),←I,gS,mZ rfl]
  rfl
def Oy : List V→Nat
 |_::.int _ k::l=>k.toNat+Oy l
 |_=>0
theorem X2 : ∀l:List (Nat×Nat),Oy (mV l)=jL l:=by
 intro l
 induction l with
 |nil=>rfl
 |cons d l I =>
  show(d.2:Int).toNat+Oy (mV l)=_
  rw[I];simp[jL]
noncomputable def costR (h:H)(u:V): Option (Nat×Nat):=match u with
 |.ptr r 0=>match T.get h.tr r with
  |some (.cells 7 [_,_,_,_,_,dv,.map pid] false)=>match srcV h 2 dv,T.get h.tr pid with
   |some (cs,n),some (.map es _)=>some (128+Oy cs+(if n=0 then 0 else 560*(es.length+8)),n)
   |_,_=>none
  |_=>none
 |_=>none
noncomputable def wC (h:H)(e:Int×V×Nat): Nat:=((costR h e.2.1).getD (0,0)).1
noncomputable def wK (h:H)(e:Int×V×Nat): Nat:=((costR h e.2.1).getD (0,0)).2
def sumF (f:Int×V×Nat→Nat): cx→Nat
 |[]=>0
 |e::l=>f e+sumF f l
def nt (f:Int×V×Nat→Nat)(seen:List Nat): cx→Nat
 |[]=>0
 |e::l=>cond (inL seen e.2.2) 0 (f e)+nt f seen l
theorem G2 {f:Int×V×Nat→Nat}: ∀ {l:cx},nt f [] l=sumF f l:=by
 intro l
 induction l<;>grind[nt,sumF,inL]
theorem Rv {f:Int×V×Nat→Nat}: ∀ {l:cx},(∀e∈l,inL seen e.2.2=true)→nt f seen l=0:=by
 intro l
 induction l<;>grind[nt]
theorem Ll {f:Int×V×Nat→Nat}{b:Nat}: ∀ {l:cx},(∀e∈l,e.2.2≠b)→nt f (seen++[b]) l=nt f seen l:=by
 intro l
 induction l<;>grind[nt,oo,fF]
theorem Es {f:Int×V×Nat→Nat}: ∀ {l:cx} {b:Nat} {e:Int×V×Nat},fV c b l→e∈l→inL seen e.2.2=false→nt f (seen++[e.2.2]) l+f e=nt f seen l:=by
 intro l
 induction l with
 |nil=>intro b e _ he;cases he
 |cons y l ih =>
  intro b e I he hs
  rcases List.mem_cons.1 he with rfl|he
  ·simp only[nt,oo,hs,fJ,Bool.or_true,ah,aX]
   rw[Ll fun e' J=>by have:=uP I.2.2 e' J;omega]
   omega
  ·have:=uP I.2.2 e he
   simp only[nt,oo,fF (show e.2.2≠y.2.2 by omega),Bool.or_false]
   have:=ih I.2.2 he hs
   omega
def BQ (args:List V)(h:H)(r:V×H): Prop:=∃m cs bk es clock,args=[.ptr m 0]∧T.get h.tr m=some (.cells 4 cs false)∧nth cs 2=some (.map bk)∧T.get h.tr bk=some (.map (es.map (ja .u64)) clock) ∧
 r=(.int .i64 ((256+sumF (wC h) es:Nat):Int),⟨h.next+1+sumF (wK h) es,h.tr⟩)
def lu (x:Nat×Nat×mU): Nat:=qL x.2.2.dn x.2.2.pg.length
def r6 (L:mL): Nat:=256+(L.map lu).foldr (· + ·) 0
def xn (L:mL): Prop:=L.length≤1048576∧∀x∈L,jL x.2.2.dn≤1048576∧x.2.2.dn.length≤1048576∧x.2.2.pg.length≤1048576
section
variable {m:Nat} {u:V}
theorem JZ (s:Sat h (pH r id A::S)): costR h (.ptr r 0)=some (qL A.dn A.pg.length,A.dn.length):=by
 obtain⟨mv,dv,pv,s⟩:=kn.1 s
 have g1:=s.row (k:=0) rfl
 obtain⟨n,hn,I⟩:=X1 (s.Tg (j:=2) rfl (II _ _ _))
 obtain⟨pid,es,c,rfl,hb,ju,s1⟩:=jZ.1 (s.ae [3])
 have g2:=s1.row (k:=0) rfl
 obtain⟨qa,qb,q1,q2,q3⟩:=s1.at (k:=1) rfl
 have hk:=iW List.length (tA q3)
 rw[kK] at hn
 have J:n=A.dn.length:=by omega
 subst J
 simp only[gD] at hk
 simp only[costR,g1,oD,I,g2,X2,gD,hk,qL]
 cases A.dn<;>simp
noncomputable def keA : Code:=cU [0] ((Tryz.f76.body).getD .skip)
noncomputable def keB : Code:=cU [1,0] ((Tryz.f76.body).getD .skip)
noncomputable def keC : Code:=cU [1,1,0,0] ((Tryz.f76.body).getD .skip)
noncomputable def keN : Code:=cU [1,1,0,1,0,0,0] ((Tryz.f76.body).getD .skip)
noncomputable def keD : Code:=cU [1,1,0,1,0,0,1,1,0] ((Tryz.f76.body).getD .skip)
noncomputable def keE : Code:=cU [1,1,1] ((Tryz.f76.body).getD .skip)
theorem Ul : Tryz.f76.body=some (.seq keA (.seq keB (.seq (.seq keC (.block 0 (.loop (.seq keN (.seq (.cond (.tmp 12) .skip (.exit 0)) (.block 1 keD)))))) keE))):=rfl
theorem X3 : ∃id I J,keN=.region id #[I,J] false∧I.guard=none∧J.guard=none∧I.op=.next (.tmp 10) false∧I.dst=some 11∧J.op=.extract (.tmp 11) 0∧J.dst=some 12:=⟨_,_,_,rfl,rfl,rfl,rfl,rfl,rfl,rfl⟩
def keJ (h₀:H)(it bk clock:Nat)(es:cx)(L:mL)(S:List aI)(j:Nat)(E:List (Nat×V))(h:H): Prop :=
 ∃seen k c,Has E [(3,.int .i64 ((256+c:Nat):Int)),(10,.ptr it 0)]∧j=(leftV seen (es.map (ja .u64))).length∧c+nt (wC h₀) seen es=sumF (wC h₀) es∧Grow h₀ h (1+k)∧k+nt (wK h₀) seen es=sumF (wK h₀) es ∧
  Sat h (pt it (.iter bk clock clock seen)::nf .u64 bk es clock::jX L::S)
theorem Rw {h₀:H}{it bk clock:Nat}{es:cx}(D3:h₀.next≤it)(hb:fV clock 0 es)(hs:sumF (wC h₀) es≤4611686018427387904)(iO:∀x∈L,jL x.2.2.dn≤1048576∧x.2.2.dn.length≤1048576∧x.2.2.pg.length≤1048576)
 (he:∀e∈es,∃(i:Nat) (x:Nat×Nat×mU),L[i]?=some x∧e.2.1=.ptr x.2.1 0∧costR h₀ e.2.1=some (lu x,x.2.2.dn.length))(h0:keJ h₀ it bk clock es L S j E h):
  WPO CB 20 (.loop (.seq keN (.seq (.cond (.tmp 12) .skip (.exit 0)) (.block 1 keD)))) E h fun ex E' h'=>ex=.exit 0∧Has E' [(3,.int .i64 ((256+sumF (wC h₀) es:Nat):Int))]∧Grow h₀ h' (1+sumF (wK h₀) es):=by
 refine WPO.loop (keJ h₀ it bk clock es L S) ?_ h0
 rintro j E h ⟨seen,k,c,hE,rfl,hc,hg,hk,s⟩
 have g1:=s.row (k:=0) rfl
 have g2:=s.row (k:=1) rfl
 obtain⟨id,Na,KB,q0,q1,q2,q3,q4,q5,q6⟩:=X3
 refine WPO.seq ?_
 rw[q0]
 have hL:=next_at g1 (aV _) g2 hb
 refine WPO.next fT eB q1 q2 q3 q4 q5 rfl q6 rfl rfl (r:=it) ?_ hL fun q hq => ?_
 ·exact hE.2.1
 ·rcases Jd g1 (aV _) g2 hb hL q hq with⟨rfl,rq⟩|⟨e,I,V4,cH,rfl⟩
  ·rw[Rv rq] at hc hk
   refine⟨.bool false,[],rfl,?_⟩
   refine WPO.seq (WPO.cond (t:=false) rfl ?_)
   refine WPO.of fT eB (WP.exit ?_)
   refine⟨rfl,⟨?_,aa⟩,?_⟩
   ·rw[←hc];exact hE.1
   ·rw[←hk];exact hg
  ·obtain⟨i,x,hx,hex,hcx⟩:=he e I
   have hx3:=iO x (bK hx)
   have wO:wC h₀ e=lu x:=by rw[wC,hcx];rfl
   have uY:wK h₀ e=x.2.2.dn.length:=by rw[wK,hcx];rfl
   have dK:=Es (f:=wC h₀) hb I V4
   have P_:=Es (f:=wK h₀) hb I V4
   rw[wO] at dK
   rw[uY] at P_
   refine⟨.bool true,_,rfl,?_⟩
   refine WPO.seq (WPO.cond (t:=true) rfl ?_)
   refine WPO.of fT eB (WP.skip ?_)
   refine WPO.block (WPO.of fT eB ?_)
   have s:=s.put (o':=.iter bk clock clock (seen++[e.2.2])) (k:=0) rfl
   have hg:Grow h₀ (h.put it (some (.iter bk clock clock (seen++[e.2.2])))) (1+k):=⟨hg.next,fun i hi=>by rw[dN,ak (by omega)];exact hg.get i hi⟩
   generalize h.put it (some (.iter bk clock clock (seen++[e.2.2])))=h' at s hg
   dsimp only[setA] at s
   have g1:=s.row (k:=0) rfl
   have g2:=s.row (k:=1) rfl
   have J:=Jc g1 g2 hb I
   rw[hex] at J
   have s:=(ko hx).1 (s.ae [2])
   dsimp only[bringA,getA,aE] at s
   refine WP.has (F:=[(3,.int .i64 ((256+c:Nat):Int)),(10,.ptr it 0),(12,.bool true)]) ⟨hE.1,hE.2.1,rfl,aa⟩ (zg rfl (au.any rfl rfl rfl (OpR.entry rfl rfl J) ?_))
   rintro v h ⟨rfl,rfl⟩
   refine zk 6 rfl (zc rfl (Uk (by omega) hx3.2.1 hx3.2.2 W.base s) ?_)
   rintro v h' ⟨rfl,hg',s⟩
   rw[show qL x.2.2.dn x.2.2.pg.length=lu x from rfl]
   have s:=((ko hx).2 s).ae [1,1,0]
   dsimp only[bringA,getA,aE] at s
   refine zo rfl (ay (r:=.int .i64 ((256+(c+lu x):Nat):Int)) rfl rfl (by rw[show((256+(c+lu x):Nat):Int)=((256+c:Nat):Int)+(lu x:Int) by omega];exact bf (aA (by omega) (by omega)))) ?_
   refine za rfl (zv ?_)
   exact⟨_,cH,seen++[e.2.2],k+x.2.2.dn.length,c+lu x,⟨rfl,rfl,aa⟩,rfl,by omega,by rw[←j6];exact hg.trans hg',by omega,s⟩
theorem J0 {X:List aI}(hn:L.length≤1048576): ∀ {L:mL} {es:cx} {a b:PM},(fC (fun v (r:Nat)=>.pu (v=.ptr r 0)) es (L.map fun e=>((e.1:Int),e.2.1))).p a b→(∀(i:Nat) (x:Nat×Nat×mU),L[i]?=some x→costR h (.ptr x.2.1 0)=some (lu x,x.2.2.dn.length)) →
  sumF (wC h) es=(L.map lu).foldr (· + ·) 0∧sumF (wK h) es=(L.map fun x=>x.2.2.dn.length).foldr (· + ·) 0∧∀e∈es,∃(i:Nat) (x:Nat×Nat×mU),L[i]?=some x∧e.2.1=.ptr x.2.1 0∧costR h e.2.1=some (lu x,x.2.2.dn.length):=by
 intro L
 induction L with
 |nil=>intro es a b q _;cases es with
  |nil=>exact⟨rfl,rfl,fun e he=>by cases he⟩
  |cons e es=>exact q.elim
 |cons y L ih =>
  intro es a b q hc
  cases es with
  |nil=>exact q.elim
  |cons e es =>
   obtain⟨⟨_,q2⟩,q3⟩:=q
   have q2:e.2.1=.ptr y.2.1 0:=q2
   obtain⟨k1,k2,k3⟩:=ih q3 fun i x hx=>hc (i+1) x (by simpa using hx)
   have J:=hc 0 y rfl
   refine⟨?_,?_,fun e' I => ?_⟩
   ·simp only[sumF,wC,q2,J,fu,E9];rw[←k1];rfl
   ·simp only[sumF,wK,q2,J,fu,E9];rw[←k2];rfl
   ·rcases List.mem_cons.1 I with rfl|I
    ·exact⟨0,y,rfl,q2,by rw[q2];exact J⟩
    ·obtain⟨i,x,g1,g2⟩:=k3 e' I
     exact⟨i+1,x,by simpa using g1,g2⟩
theorem Rx (I:xn L)(s:Sat h (fP m a nx u L::S)):
  ∃r,BQ [.ptr m 0] h r∧∀(c:Ctx) (w:World),Rel c h w→(∀x∈[V.ptr m 0],wf c x)→fe Tryz.prog 76 [.ptr m 0] c w r.1 r.2:=by
 obtain⟨av,s⟩:=dI.1 s
 obtain⟨bk,es,clock,rfl,hb,ju,s⟩:=eT.1 (s.ae [1])
 dsimp only[bringA,getA,aE] at s
 have gm:=s.row (k:=0) rfl
 have gp:=s.row (k:=2) rfl
 obtain⟨qa,qb,q1,q2,q3⟩:=s.at (k:=1) rfl
 have ur:∀(i:Nat) (x:Nat×Nat×mU),L[i]?=some x→costR h (.ptr x.2.1 0)=some (lu x,x.2.2.dn.length):=fun i x J=>JZ ((ko J).1 (s.ae [3]))
 obtain⟨w1,w2,w3⟩:=J0 (X:=S) I.1 q3 ur
 have B7:sumF (wC h) es≤4611686018427387904:=by
  rw[w1]
  have key:∀l:List Nat,(∀z∈l,z≤1048576000)→l.foldr (· + ·) 0≤1048576000*l.length:=by
   intro l
   induction l with
   |nil=>intro _;simp
   |cons z l ih=>intro hz;have:=ih fun w hw=>hz w (bW _ hw);have:=hz z bX;simp only[E9,bz];omega
  have:=key (L.map lu) fun z hz=>by
   obtain⟨x,J,rfl⟩:=List.mem_map.1 hz
   obtain⟨k1,k2,k3⟩:=I.2 x J
   unfold lu qL
   split<;>omega
  have:=I.1
  rw[gD] at *
  omega
 refine⟨(.int .i64 ((256+sumF (wC h) es:Nat):Int),⟨h.next+1+sumF (wK h) es,h.tr⟩),⟨m,_,bk,es,clock,rfl,gp,rfl,gm,rfl⟩,fun c w hr ha => ?_⟩
 refine fe.D6 (C:=CB) (args:=[.ptr m 0]) Eo Ul (show 1≤Tryz.f76.ntmps by decide) ?_ hr ha
 refine WPO.seq (WPO.of fT eB ?_)
 refine zr rfl (za rfl (zv ?_))
 refine WPO.seq (WPO.of fT eB ?_)
 refine zr rfl (za rfl (zv ?_))
 refine WPO.seq (WPO.seq (WPO.of fT eB ?_))
 refine zK 3 rfl (zY s 2 iZ kr rfl (au.any rfl rfl rfl (OpR.range rfl rfl (show rangeV Tryz.prog h 142 (.map bk)=some (.ptr h.next 0,h.new (.iter bk clock clock [])) by simp only[rangeV,mT,gm])) ?_))
 rintro v h' ⟨rfl,rfl⟩
 refine zv ?_
 have s7:=(s.new (.iter bk clock clock [])).ae [0,0,2]
 refine WPO.block ((Rw (h₀:=h) (es:=es) (L:=L) (aV _) hb B7 (fun x J=>I.2 x J) w3 ⟨[],0,0,⟨rfl,rfl,aa⟩,rfl,by rw[G2,fy],⟨rfl,fun i hi=>by rw[gT,ak (by omega)]⟩,by rw[G2,fy],s7⟩).mono ?_)
 rintro ex E' h' ⟨rfl,fE,hg⟩
 refine WPO.of fT eB (WP.has fE (zK 5 rfl (WP.ret ?_)))
 refine⟨aa,nG rfl,by rw[hg.next];show h.next+1+_=_;omega,fun id o ho => ?_⟩
 have cH:id<h.next:=s.wf id o ho
 rw[hg.get id cH];exact ho
end
structure W5 (told:cJ): Prop where
 w:W2 told
 pr:told 191=some (iQ Tryz.prog 191 HW)
theorem W5.wr {told:cJ}(h:W5 told): WR told:=⟨h.w.w,h.pr⟩
theorem Sat.aap {v:V}{e:TypeId}(s:Sat h S)(hj:getA S j=some (vP k v cs))(hi:i*k+k≤cs.length)(hk:1≤k)(hu:P.underlying t=some (.slice e))(I:bB P e=some k)(ha:isAggT P e=some true):
  ∃id off,indexAddrV P t v (.int .i64 (i:Int))=some (.ptr id off)∧loadV P h e (.ptr id off)=some (.agg ((cs.drop (i*k)).take k))∧∀m c t',((cs.drop (i*k)).take k)[m]?=some c→isAggT P t'=some false→loadV P h t' (.ptr id (off+m))=some c:=by
 rcases s.rowAt hj with⟨_,rfl⟩|⟨id,len,cap,rfl,hl,hg⟩
 ·simp at hi;omega
 ·refine⟨id,i*k,?_,VU ha I hg rfl hi,fun m c t' J ht=>Vx ht hg ?_⟩
  ·simp only[indexAddrV,hu,I,cL]
   have:i<len:=by
    have h4:i*k+k=(i+1)*k:=by rw[pN,Bf]
    rw[h4,hl] at hi
    exact EW (EK hi hk)
   rw[show(decide ((0:Int)≤(i:Int))&&decide ((i:Int)<(len:Int)))=true by simp;omega,ah]
   simp
  ·rw[wj] at J
   split at J
   ·rw[EU] at J;rw[gH];exact J
   ·cases J
theorem abQ {m:List Wr}{x:Wr}{j1:Nat}(s:Sat h (uH cs m::S))(h1:getA (uH cs m::S) j1=some (.arr 2 wt cs))(J:m[i]?=some x):
  ∃id off u,indexAddrV Tryz.prog 107 wt (.int .i64 (i:Int))=some (.ptr id off)∧loadV Tryz.prog h 128 (.ptr id off)=some (.agg [.int .i64 (x.1:Int),u])∧u≠.aY∧Sat h (.cD u x.2::uH cs m::S):=by
 obtain⟨a,b,q1,q2,q3⟩:=s.at (k:=0) rfl
 have hl:=BG q3
 have LS:=(List.getElem?_eq_some_iff.1 J).1
 have key:∀ {m:List Wr} {cs:List V} {i:Nat} {x:Wr} {a b:PM},(uH cs m).p a b→m[i]?=some x→∃u,(cs.drop (i*2)).take 2=[.int .i64 (x.1:Int),u]∧u≠.aY∧(aI.cD u x.2).p a b:=by
  intro m
  induction m with
  |nil=>simp
  |cons y m ih =>
   intro cs i x a b h J
   rcases cs with _|⟨p,_|⟨v,cs⟩⟩<;>first|exact h.elim|skip
   obtain⟨⟨⟨e1,e2⟩,e3⟩,e4⟩:=h
   cases i with
   |zero=>grind
   |succ i =>
    grind
 obtain⟨u,e1,e2,e3⟩:=key q3 J
 obtain⟨id,off,g1,I⟩:=Qb (P:=Tryz.prog) (i:=i) s h1 (by omega) (by decide) Ai DJ
 have I:=I VH
 rw[e1] at I
 refine⟨id,off,u,g1,I,e2,?_⟩
 have s1:=(s.dup (bg.wr _ _)).iu (B:=.cD u x.2) fun a b h=>by
  grind
 exact s1
def layW (c:List Nat): Nat→List Wr→List (Option (List Nat))→List (Option (List Nat))
 |_,[],P=>P
 |i,w::l,P=>layW c (i+1) l (if c.getD i 0%2=0 then P.set w.1 (some w.2) else P)
def tornP (c:List Nat)(k:Nat)(P:List (Option (List Nat))): Option Wr→List (Option (List Nat))
 |none=>P
 |some w=>P.set w.1 (some (a_ (a_ (List.replicate 512 0) 0 ((P.getD w.1 none).getD [])) 0 (w.2.take (c.getD k 0/2%5*128))))
def kq (δ:Dk)(c:List Nat): Nat:=(c.getD 0 0+256*c.getD 1 0)%((δ.log.drop δ.bu++δ.tail).length+1)
def sH (δ:Dk)(c:List Nat): List Nat:=δ.log.take δ.bu++(δ.log.drop δ.bu++δ.tail).take (kq δ c)
def eN (δ:Dk)(c:List Nat): Dk :=
 { room:=δ.room,aq:=tornP c δ.waiting.length (layW c 0 δ.waiting δ.aq) δ.eV,waiting:=[],now:=[],log:=sH δ c,bu:=(sH δ c).length,mark:=δ.mark,aU := -1,dead:=false,eV:=none,tail:=[] }
theorem adf (hn:n<256): binV P h .and t x y (.int .i64 (n:Int)) (.int .i64 1)=some (.int .i64 ((n%2:Nat):Int)):=by
 have I:((n:Int)%(2^(IntKind.i64).bits:Int)).toNat=n:=by grind[IntKind.bits]
 have J:((1:Int)%(2^(IntKind.i64).bits:Int)).toNat=1:=by rfl
 simp only[binV,ikBeq,ah,intV,bitsV,I,J]
 rw[show Nat.land n 1=n%2 from Nat.and_one_is_mod n,wrap_i64 (by omega)]
section
variable {told:cJ} {v w:V} {c:List Nat} {p:Nat}
theorem vF (hT:W told)(s:Sat h S)(hk:getA S k=some X)(hX:cN X (cP v c)): Call ⟨Tryz.prog,told⟩ 61 [v,.int .i64 (i:Int)] h fun r h'=>r=.int .i64 ((c.getD i 0:Nat):Int)∧h'=h:=by
 have I:=s.aG hk hX
 refine Call.of_wp (hT.free _ rfl) Tryz.func61 rfl rfl (zK 9 rfl (zo rfl (aP rfl rfl rfl (aW Tryz.underlying125 I)) ?_))
 by_cases hi:i<c.length
 ·skip
  have J:c[i]?=some (c[i]'hi):=bw _
  have hg:c.getD i 0=c[i]'hi:=by grind
  rw[hg]
  generalize (c[i]'hi)=b at J
  have zE:b<256:=I.1 b (bK J)
  obtain⟨id,off,e1,e2⟩:=fg I J
  have e3:indexAddrV Tryz.prog 125 v (.int .i64 (i:Int))=some (.ptr id off):=by
   rw[←e1]
   simp only[indexAddrV,Tryz.underlying125,aJ]
  refine zB rfl aT (by grind) ?_
  refine zk 6 rfl (zo rfl (c8 (r:=.ptr id off) rfl rfl e3) (zl rfl e2 (zo rfl (bT rfl (by exact gL Tryz.underlying5 br (aA (by omega) (by omega)))) ?_)))
  exact zk 2 rfl (WP.ret ⟨aa,_,rfl,rfl,rfl⟩)
 ·skip
  have hg:c.getD i 0=0:=by grind
  rw[hg]
  refine zC rfl aT (by grind) ?_
  exact zk 7 rfl (WP.ret ⟨aa,_,rfl,rfl,rfl⟩)
noncomputable def crL : Code:=cU [1,1,1,1,0,1,0,0] ((Tryz.f18.body).getD .skip)
theorem Oz (hT:W told){pv:V}{qc:List V}{W:List Wr}(wJ:qc.length=12)(I2:nth qc 1=some (.sl nk 0 N (.exact N)))(hW:∀w∈W,w.1<N)(hn:W.length≤268435456)(hX:cN X (cP cv c))(hN:N≤65536): ∀(j i:Nat) (I:List V) (P:List (Option (List Nat))) (h:H) (E:List (Nat×V)) (Q:Ex→List (Nat×V)→H→Prop),
  i+j=W.length→I.length=N→P.length=N→Sat h (uH cs W::pt q (.cells 12 qc false)::pt nk (.cells N I false)::each kY I P::.arr 2 wt cs::X::S) →
  Has E [(0,pv),(5,cv),(6,.ptr q 0),(36,wt),(37,.int .i64 W.length),(38,.int .i64 i)] →
  (∀E' h' I P',Has E' [(0,pv),(5,cv),(6,.ptr q 0)]→P'=layW c i (W.drop i) P→I.length=N→P'.length=N→Sat h' (uH cs W::pt q (.cells 12 qc false)::pt nk (.cells N I false)::each kY I P'::.arr 2 wt cs::X::S)→Q (.exit 0) E' h') →
  WP ⟨Tryz.prog,told⟩ 172 (.loop crL) E h Q:=by
 intro j
 induction j with
 |zero =>
  intro i I P h E Q hi hl hp s hE hq
  refine WP.loop (WP.has hE (zg rfl (zC rfl aT (by grind) ?_)))
  exact zk 3 rfl (WP.exit (hq _ _ _ _ ⟨rfl,rfl,rfl,aa⟩ (by rw[v7 (by omega)];rfl) hl hp s))
 |succ j ih =>
  intro i I P h E Q hi hl hp s hE hq
  have hx:W[i]?=some (W[i]'(by omega)):=bw _
  generalize (W[i]'(by omega))=x at hx
  have hxn:=hW x (bK hx)
  have J:W.drop i=x::W.drop (i+1):=by
   grind[List.drop_eq_getElem_cons]
  obtain⟨id,off,u,g1,g2,hu,s1⟩:=abQ s (j1:=4) rfl hx
  have Wh:=s1.aG (k:=0) rfl (dy _ _)
  have hus:=Wh.cells
  have yT:=cX Wh
  have s:=s1.ae [2,2,2,0,0,0,0]
  dsimp only[bringA,getA,aE] at s
  refine WP.loop (WP.has hE (zg rfl (zB rfl aT (by grind) ?_)))
  refine zk 5 rfl (WP.block (zK 3 rfl (zo rfl (c8 (r:=.ptr id off) rfl rfl g1) (zl rfl g2 ?_))))
  refine au.bD s rfl rfl rfl (bI HM) (fun p8 h s => ?_)
  dsimp only[V.cells,List.length_cons,List.length_nil,Nat.reduceAdd] at s
  refine za rfl (zS rfl (s.eS (j:=0) rfl DJ rfl (by simp only[iU,jd,hus.2];rfl)) ?_)
  rintro h s
  dsimp only[setA] at s
  refine zk 5 rfl (zc rfl (vF hT s (k:=7) rfl hX) ?_)
  rintro r h' ⟨rfl,rfl⟩
  have cH:c.getD i 0<256:=by
   rw[nU]
   cases hc:c[i]? with
   |none=>decide
   |some b=>exact(s.aG (k:=7) rfl hX).1 b (bK hc)
  refine zb rfl (adf cH) ?_
  by_cases ni:c.getD i 0%2=0
  ·skip
   have Wi:indexAddrV Tryz.prog 106 (.sl nk 0 N (.exact N)) (.int .i64 (x.1:Int))=some (.ptr nk x.1):=by
    simp only[indexAddrV,gz,gY]
    grind
   refine zB rfl dm (by grind) ?_
   refine zk 2 rfl ?_
   have s0:=s
   refine WP.drawn [af,af,af,af,af,af,af,af,af,af] rfl (by kernel_rfl) (by kernel_rfl) ?_
   refine zM rfl (zN rfl (zF rfl (m7 _ _) (zL rfl (s.ld (k:=1) rfl rW I2) (zF rfl (FA _ _) (zL rfl (s.ld (k:=0) rfl dJ rfl) (zF rfl (FB _ _) (zL rfl (s.ld (k:=0) rfl bJ rfl) (zO rfl (c8 (r:=.ptr nk x.1) rfl rfl Wi) (az.gh rfl rfl rfl (OpR.fM rfl rfl rfl (s.dK (k:=2) rfl gY hl hxn hus.1 hus.2)) ?_)))))))))
   rintro v h ⟨rfl,s⟩
   dsimp only[setA] at s
   refine az.nil ⟨⟨aa,aa,aa,aa,aa,aa,aa,aa,aa,aa,aa⟩,?_⟩
   refine zr rfl (zb rfl (by exact bf (aA (by omega) (by omega))) ?_)
   refine zm rfl (zv ?_)
   have s3:Sat _ (each kY I P::.cD u x.2::_):=s.ae [3,3]
   have s4:=s3.two (C:=each kY (I.set x.1 u) (P.set x.1 (some x.2))) (bg.each bg.kY _ _) (bg.cD _ _) fun a b q1 q2=>CO q1 ⟨hu,q2⟩
   dsimp only[bringA,getA,aE] at s4
   refine ih (i+1) _ (P.set x.1 (some x.2)) _ _ Q (by omega) (by grind) (by grind) ((s4.ae [4,2,2,0,1,1]).del 6) ⟨rfl,rfl,rfl,rfl,rfl,rfl,aa⟩ (fun E' h' I P' fE hP h1 h2 s'=>hq E' h' I P' fE ?_ h1 h2 s')
   rw[hP,J,layW,aC ni]
  ·skip
   refine zC rfl dm (by grind) ?_
   refine zv (zj rfl (WP.skip (zr rfl (zb rfl (by exact bf (aA (by omega) (by omega))) ?_))))
   refine zm rfl (zv ?_)
   refine ih (i+1) _ P _ _ Q (by omega) hl hp (((s.ae [5,1,1,1,2,2]).del 6).del 6) ⟨rfl,rfl,rfl,rfl,rfl,rfl,aa⟩ (fun E' h' I P' fE hP h1 h2 s'=>hq E' h' I P' fE ?_ h1 h2 s')
   rw[hP,J,layW,ak ni]
theorem Lm (s:Sat h (pt i (.cells n cs false)::pt j (.cells n ds false)::S))(I:cs.length=n)(hd:ds.length=n):
  ∃h',copyV Tryz.prog h 106 (.sl i 0 n (.exact n)) (.sl j 0 n (.exact n))=some (.int .i64 (n:Int),h')∧Sat h' (pt i (.cells n ds false)::pt j (.cells n ds false)::S):=by
 refine⟨h.put i (some (.cells n ds false)),?_,s.put (k:=0) rfl⟩
 have r1:=s.row (k:=0) rfl
 have r2:=s.row (k:=1) rfl
 simp only[copyV,gz,gY,rdN,wrN,r1,r2,iV]
 grind[aL]
theorem OpR.X4 (hP:C.P=Tryz.prog)(s:Sat h (pt i (.cells n cs false)::pt j (.cells n ds false)::S))(I:cs.length=n)(J:ds.length=n)(Gh:o.op=.call cl)(hc:cl.callee=.builtin .copy)
 (ZH:cl.argTypes = #[106,106])(ha:lookArgs E cl.args.toList=some [.sl i 0 n (.exact n),.sl j 0 n (.exact n)]): OpR C E h o fun _ h₁=>Sat h₁ (pt i (.cells n ds false)::pt j (.cells n ds false)::S):=by
 obtain⟨h₁,e1,e2⟩:=Lm s I J
 refine OpR.builtin Gh hc ha ⟨.int .i64 (n:Int),h₁,?_,e2⟩
 simp only[builtinV,hP,ZH,e1]
theorem adg {b:Nat}(I:0<b)(hw:a<9223372036854775808): binV P h .quo t x y (.int .i64 (a:Int)) (.int .i64 (b:Int))=some (.int .i64 ((a/b:Nat):Int)):=by
 simp only[binV,ikBeq,ah,intV]
 have:intBeq (b:Int) 0=false:=by rw[kW];simp;omega
 have J:a/b≤a:=Nat.div_le_self a b
 grind[aA]
theorem Um (I:jB h v l)(J:1≤l.length): slR v 0 l.length=v:=by
 rcases I.2 with⟨_,rfl⟩|⟨id,cs,c,rfl,_,hc⟩|⟨id,rfl,_,_⟩<;>grind[slR]
theorem OA {m:List Nat}(s:Sat h (aZ v l::X::S))(hX:cN X (cP w m))(hl:1≤l.length)(hm:a+m.length≤l.length):
  ∃(n:Nat) (h':H),copyV Tryz.prog h 23 (slR v a l.length) w=some (.int .i64 (n:Int),h')∧Sat h' (aZ v (a_ l a m)::X::S):=by
 by_cases hz:m=[]
 ·subst hz
  have hv:=s.aG (k:=1) rfl hX
  have J:=(s.buf (k:=0) rfl).1
  rw[show a_ l a []=l by simp[a_]]
  obtain⟨id,c,cap,rest,rfl,s1,hc,hf⟩:=s.fU hl
  have hd:∃o' c',slR (.sl id 0 l.length cap) a l.length=.sl id o' (l.length-a) c'∧o'≤l.length:=by
   cases cap with
   |exact c=>exact⟨_,_,rfl,by grind⟩
   |rest e alt=>exact⟨_,_,rfl,by omega⟩
  obtain⟨o',c',hd,ho⟩:=hd
  rw[hd]
  rcases hv.2 with⟨rfl|⟨a,rfl⟩,_⟩|⟨nk,I,IF,n2,Gx,P_,rfl,_⟩
  ·grind[copyV,Tryz.underlying23,eA]
  ·grind[copyV,Tryz.underlying23,eA]
  ·have hr:rdN h nk I 0=some []:=hv.rdN.2
   have V1:Nat.min 0 (l.length-a)=0:=Nat.zero_min _
   refine⟨0,h.put id (some (.cells c (ofBytes l++rest) false)),?_,hf _ _ rfl J (s1.put (k:=0) rfl)⟩
   simp only[copyV,aJ,eA,cG,V1,qZ,hr,wrN,s1.row (k:=0) rfl]
   grind[aL,fF,List.take_append_drop]
 ·have h1:1≤m.length:=by
   grind
  obtain⟨h',e1,e2⟩:=CI s hX (a:=a) (b:=l.length) (by omega) (by omega) h1<;>grind[List.take_of_length_le]
theorem OpR.Ry {m:List Nat}{d:V}(hP:C.P=Tryz.prog)(s:Sat h (aZ v l::X::S))(hX:cN X (cP w m))(hl:1≤l.length)(hm:a+m.length≤l.length)
 (I:o.op=.call cl)(hc:cl.callee=.builtin .copy)(J:cl.argTypes = #[23,23])(ha:lookArgs E cl.args.toList=some [d,w])(hd:d=slR v a l.length): OpR C E h o fun _ h₁=>Sat h₁ (aZ v (a_ l a m)::X::S):=by
 subst hd
 obtain⟨n,h₁,e1,e2⟩:=OA s hX hl hm
 refine OpR.builtin I hc ha ⟨.int .i64 (n:Int),h₁,?_,e2⟩
 simp only[builtinV,hP,J,e1]
theorem OpR.Wj {m:List Nat}(hP:C.P=Tryz.prog)(s:Sat h (aZ v l::X::S))(hX:cN X (cP w m))(hl:1≤l.length)(hm:m.length≤l.length)
 (I:o.op=.call cl)(hc:cl.callee=.builtin .copy)(J:cl.argTypes = #[23,23])(ha:lookArgs E cl.args.toList=some [v,w]): OpR C E h o fun _ h₁=>Sat h₁ (aZ v (a_ l 0 m)::X::S) :=
 OpR.Ry hP s hX hl (by omega) I hc J ha (Um (s.buf (k:=0) rfl) hl).symm
theorem aaq {o:Option (List Nat)}: cN (kY v o) (cP v (o.getD [])):=by
 cases o with
 |none=>exact fun m r h=>.inl ⟨by simp,.inl ⟨.inl h,rfl⟩⟩
 |some b=>exact fun m r h=>.inr h.2
noncomputable def crT : Code:=cU [1,1,1,1,1,0,1,0] ((Tryz.f18.body).getD .skip)
set_option maxHeartbeats 1000000 in
theorem OB (hT:W told){w:Wr}(s:Sat h (aO q vS::aO p δ::X::S))(hX:cN X (cP cv c))(hn:δ.waiting.length≤268435456)(ht:δ.eV=some w)(hw:w.1<vS.aq.length)(uY:w.2.length=512)(hN:vS.aq.length≤65536)
 (gP:∀(i:Nat) (b:List Nat),vS.aq[i]?=some (some b)→b.length=512)(hE:Has E [(0,.ptr p 0),(5,cv),(6,.ptr q 0)])
 (hq:∀E' h',Has E' [(0,.ptr p 0),(5,cv),(6,.ptr q 0)]→Sat h' (aO q { vS with aq:=tornP c δ.waiting.length vS.aq (some w) }::aO p δ::X::S)→Q .normal E' h'): WP ⟨Tryz.prog,told⟩ 172 crT E h Q:=by
 obtain⟨pg,wt,nw,lg,mk,tn,tl,ops,s⟩:=bE.1 (s.ae [1])
 rw[ht] at s
 obtain⟨tid,s⟩:=gK.1 (s.ae [6])
 obtain⟨u,s⟩:=gK.1 s
 have s:=aM.1 s
 dsimp only[List.cons_append,List.nil_append] at s
 obtain⟨rfl,s⟩:=ej.1 s
 obtain⟨pg2,wt2,nw2,lg2,mk2,tn2,tl2,aar,s⟩:=bE.1 (s.ae [9])
 obtain⟨nk,I,rfl,s⟩:=gA.1 (s.ae [1])
 obtain⟨wcs,s⟩:=mF.1 (s.ae [13])
 have s:=s.ae [4,12,10,2,2,8,0]
 have hlw:wcs.length=δ.waiting.length*2:=by
  obtain⟨a,b,q1,q2,q3⟩:=s.at (k:=7) rfl
  exact BG q3
 have hb:c.getD δ.waiting.length 0<256:=by
  rw[nU]
  cases hc:c[δ.waiting.length]? with
  |none=>decide
  |some b=>exact(s.aG (k:=19) rfl hX).1 b (bK hc)
 have gE:I.length=vS.aq.length:=by
  obtain⟨a,b,q1,q2,q3⟩:=s.at (k:=4) rfl
  exact rK q3
 have uK:I[w.1]?=some (I[w.1]'(by omega)):=bw _
 have Gm:vS.aq[w.1]?=some (vS.aq[w.1]'hw):=bw _
 generalize (I[w.1]'(by omega))=v1 at uK
 generalize hxx:(vS.aq[w.1]'hw)=x at Gm
 have vp:vS.aq.getD w.1 none=x:=by grind
 have hxl:(x.getD []).length≤512:=by
  cases x<;>grind
 refine WP.has hE (zK 5 rfl (zY s 1 tX DI rfl (zo rfl (aP rfl rfl rfl (s.fR (n:=δ.waiting.length) (j:=6) rfl hlw (by decide) Ai)) ?_)))
 refine zc rfl (vF hT (i:=δ.waiting.length) s (k:=19) rfl hX) ?_
 rintro r h' ⟨rfl,rfl⟩
 refine zb rfl (adg (a:=c.getD δ.waiting.length 0) (b:=2) (by decide) (by omega)) ?_
 refine zb rfl (I8 (a:=c.getD δ.waiting.length 0/2) (b:=5) (by decide)) ?_
 refine zo rfl (ay (r:=.int .i64 ((c.getD δ.waiting.length 0/2%5*128:Nat):Int)) rfl rfl (by simp only[binV,ikBeq,ah,intV];rw[show((c.getD δ.waiting.length 0/2%5:Nat):Int)*128=((c.getD δ.waiting.length 0/2%5*128:Nat):Int) by rfl,wrap_i64 (by omega)])) ?_
 refine zk 4 rfl (au.any rfl rfl rfl (OpR.nm (c:=512) rfl s rfl rfl rfl rfl (by decide)) ?_)
 intro z h s
 refine zk 3 rfl ?_
 have s1:=((s.ae [5]).dup (bg.each bg.kY _ _)).iu (B:=kY v1 x) fun a b q=>CN q uK Gm
 have s:=s1.ae [2,0,1,1,1,1]
 have ju:nth I w.1=some v1:=by rw[gH];exact uK
 have Wi:indexAddrV Tryz.prog 106 (.sl nk 0 vS.aq.length (.exact vS.aq.length)) (.int .i64 (w.1:Int))=some (.ptr nk w.1):=by
  simp only[indexAddrV,gz,gY]
  grind
 have s0:=s
 refine WP.drawn [af,af,af,af,af,af,af,af,af,af,af,af,af,af,af] rfl (by kernel_rfl) (by kernel_rfl) ?_
 refine zM rfl (zM rfl (zN rfl (zF rfl (m7 _ _) (zL rfl (s.ld (k:=2) rfl rW rfl) (zM rfl (zN rfl (zF rfl (uD _ _) (zL rfl (s.ld (k:=3) rfl HL rfl) (zN rfl (zF rfl (FA _ _) (zL rfl (s.ld (k:=4) rfl dJ rfl) (zO rfl (c8 (r:=.ptr nk w.1) rfl rfl Wi) (zL rfl (s.ld (k:=5) rfl bJ ju) (az.any rfl rfl rfl rfl (OpR.Wj rfl s aaq (by grind) (by grind) rfl rfl rfl rfl) ?_))))))))))))))
 intro r h s
 refine az.nil ⟨⟨aa,aa,aa,aa,aa,aa,aa,aa,aa,aa,aa,aa,aa,aa,aa,aa⟩,?_⟩
 have hl3:(a_ (List.replicate 512 0) 0 (x.getD [])).length=512:=by grind[cI]
 have Wh:=s.aG (k:=7) rfl (dy _ _)
 have J:c.getD δ.waiting.length 0/2%5*128≤w.2.length:=by omega
 refine zK 5 rfl (zY s 3 uD HL rfl (zn rfl (zY s 4 FB bJ rfl (zm rfl (zo rfl (bU (p:=none) (q:=some (.int .i64 ((c.getD δ.waiting.length 0/2%5*128:Nat):Int))) (m:=none) (p':=none) (q':=some (c.getD δ.waiting.length 0/2%5*128)) (m':=none) rfl rfl rfl rfl rfl (by rfl) rfl (iy Wh (b:=c.getD δ.waiting.length 0/2%5*128) J).1) ?_)))))
 refine au.any rfl rfl rfl (OpR.Wj rfl (s.ae [0,6]) (xS (dy _ _) (b:=c.getD δ.waiting.length 0/2%5*128) J) (by omega) (by grind) rfl rfl rfl rfl) ?_
 intro r h s
 have s:=s.gu
 have Vj:=s.aG (k:=0) rfl (dy _ _)
 have hl4:(a_ (a_ (List.replicate 512 0) 0 (x.getD [])) 0 (w.2.take (c.getD δ.waiting.length 0/2%5*128))).length=512:=by grind[cI]
 refine zv (WP.drawn [af,af,af,af,af,af,af,af,af,af,af,af,af,af] rfl (by kernel_rfl) (by kernel_rfl) ?_)
 refine zM rfl (zN rfl (zF rfl (m7 _ _) (zL rfl (s.ld (k:=3) rfl rW rfl) (zM rfl (zN rfl (zF rfl (uD _ _) (zL rfl (s.ld (k:=4) rfl HL rfl) (zN rfl (zF rfl (FA _ _) (zL rfl (s.ld (k:=5) rfl dJ rfl) (zM rfl (zO rfl (c8 (r:=.ptr nk w.1) rfl rfl Wi) (az.gh rfl rfl rfl (OpR.fM rfl rfl rfl (s.dK (k:=6) rfl gY gE hw Vj.cells.1 Vj.cells.2)) ?_)))))))))))))
 rintro r h ⟨rfl,s⟩
 refine az.nil ⟨⟨aa,aa,aa,aa,aa,aa,aa,aa,aa,aa,aa,aa,aa,aa,aa⟩,?_⟩
 have zD:z≠.aY:=fun e=>by
  grind[iD]
 have t1:=(s.ae [7,0]).two (C:=each kY (I.set w.1 z) (tornP c δ.waiting.length vS.aq (some w))) (bg.each bg.kY _ _) (bg.cD _ _) fun a b q1 q2=>by
  rw[tornP,vp]
  exact CO q1 ⟨zD,q2⟩
 dsimp only[w9,aE,bringA,getA,setA] at t1
 have C_:(tornP c δ.waiting.length vS.aq (some w)).length=vS.aq.length:=by rw[tornP,dg]
 have t2:=gA.2 ⟨nk,I.set w.1 z,rfl,by rw[C_];exact t1.ae [6,0]⟩
 rw[C_] at t2
 dsimp only[aE,bringA] at t2
 have t3:=bE (δ:={ vS with aq:=tornP c δ.waiting.length vS.aq (some w) }).2 ⟨_,_,_,_,_,_,_,_,t2.ae [3,0,6,6,6,6,6,6]⟩
 dsimp only[aE,bringA] at t3
 have t4:=mF.2 ⟨_,t3.ae [5,5]⟩
 dsimp only[aE,bringA] at t4
 have t5:Sat h (BI (.ptr tid 0) (some w)::_):=gK.2 ⟨tid,gK.2 ⟨u,aM.2 (ej.2 ⟨rfl,t4.ae [5,2]⟩)⟩⟩
 dsimp only[aE] at t5
 have t6:=bE.2 ⟨_,_,_,_,_,_,_,_,by rw[ht];exact(t5.del 3).ae [3,3,1,2,2,2,0,1,0,0]⟩
 dsimp only[aE,bringA,getA] at t6
 exact hq _ _ ⟨rfl,rfl,rfl,aa⟩ (t6.ae [1])
end
section
variable {told:cJ} {v w:V} {c:List Nat} {p:Nat}
noncomputable def crE : Code:=cU [1,1,1,1,1,1] ((Tryz.f18.body).getD .skip)
set_option maxHeartbeats 1000000 in
theorem G3 (J:W told)(s:Sat h (aO q vS::aO p δ::X::S))(hX:cN X (cP cv c))(oU:δ.Ok)(Wk:δ.tail.length≤16777216)(AL:δ.mark.length≤64)(hE:Has E [(0,.ptr p 0),(5,cv),(6,.ptr q 0)])
 (hq:∀E' h',look E' 4=some (.ptr q 0)→Sat h' (aO q { vS with log:=sH δ c,bu:=(sH δ c).length,mark:=δ.mark }::aO p δ::X::S)→Q .ret E' h'): WP ⟨Tryz.prog,told⟩ 172 crE E h Q:=by
 have hlen:=oU.len
 have aeI:=oU.bu
 obtain⟨pg,wt,nw,lg,mk,tn,tl,ops,s⟩:=bE.1 (s.ae [1])
 have htv:=cX (s.aG (k:=7) rfl (dy _ _))
 refine WP.has hE (zw ?_)
 have s0:=s
 refine WP.drawn [af,af,af,af,af,af,af,af,af,af,some (0,2),some (0,2),some (0,2),some (0,2),none,none] rfl (by kernel_rfl) (by kernel_rfl) ?_
 refine zM rfl (zN rfl (zF rfl (j7 _ _) (zL rfl (by exact s.ld (k:=0) rfl bJ rfl) ?_)))
 refine zM rfl (zN rfl (zF rfl (tY _ _) (zL rfl (by exact s.ld (k:=0) rfl dJ rfl) ?_)))
 refine zO rfl (bU (p:=some (.int .i64 (δ.bu:Int))) (q:=none) (m:=none) (p':=some δ.bu) (q':=none) (m':=none) rfl rfl rfl rfl (by simp[iK,bndV]) rfl rfl (ff (s.buf (k:=4) rfl).view (a:=δ.bu) (by omega)).1) ?_
 refine az.any rfl rfl rfl rfl (OpR.call rfl rfl rfl rfl (jo J (s.ae [4]) (rH (aN _ _) (a:=δ.bu) (by omega)) (by grind))) ?_
 intro u h s
 dsimp only[w9,aE,bringA] at s
 have s1:=s
 refine zM rfl (zN rfl (zF rfl (CH _ _) (zL rfl (by exact s.ld (k:=2) rfl bJ rfl) ?_)))
 refine az.any rfl rfl rfl rfl (OpR.rJ rfl (s.ae [0,7]) (dy _ _) rfl rfl rfl rfl (by grind)) ?_
 intro r h s
 dsimp only[aE,bringA] at s
 have s2:=s
 refine zA rfl ?_
 refine az.nil ⟨⟨aa,aa,aa,aa,aa,aa,aa,aa,aa,aa,fun _ _=>.inr ⟨rfl,⟨_,bn rfl⟩,aS _ rfl⟩,fun _ _=>.inr ⟨rfl,⟨_,kT rfl⟩,aS _ rfl⟩,fun _ _=>.inr ⟨rfl,⟨_,jH rfl (CH _ _)⟩,aS _ rfl⟩,dZ (.inr ⟨rfl,⟨_,o_load rfl (by exact s0.ld (k:=0) rfl bJ rfl)⟩,htv⟩) (.inr ⟨rfl,⟨_,o_load rfl (by exact s1.ld (k:=2) rfl bJ rfl)⟩,htv⟩),aa,aa,aa⟩,?_⟩
 have DZ:(δ.log.drop δ.bu++δ.tail).length=δ.log.length-δ.bu+δ.tail.length:=by simp
 have I:=(s.buf (k:=0) rfl).view
 refine zg rfl (zm rfl (au.call rfl rfl rfl rfl rfl rfl rfl (vF J (i:=0) s (k:=10) rfl hX) ?_))
 rintro v h' ⟨rfl,rfl⟩
 refine zm rfl (au.call rfl rfl rfl rfl rfl rfl rfl (vF J (i:=1) s (k:=10) rfl hX) ?_)
 rintro v h' ⟨rfl,rfl⟩
 have hb:∀i,c.getD i 0<256:=fun i=>by
  rw[nU]
  cases hc:c[i]? with
  |none=>decide
  |some b=>exact(s.aG (k:=10) rfl hX).1 b (bK hc)
 have wH:=hb 0
 have sj:=hb 1
 refine zb rfl (by exact jf (aA (by omega) (by omega))) ?_
 refine zb rfl (by exact bf (aA (by omega) (by omega))) ?_
 refine zm rfl (zo rfl (aP rfl rfl rfl (aW aJ I)) (zb rfl (by exact bf (aA (by omega) (by omega))) ?_))
 refine zb rfl (I8 (a:=c.getD 0 0+256*c.getD 1 0) (b:=(δ.log.drop δ.bu++δ.tail).length+1) (by omega)) ?_
 refine za rfl (zv (zw ?_))
 have hk:kq δ c≤(δ.log.drop δ.bu++δ.tail).length:=Nat.le_of_lt_succ (tQ _ (by omega))
 obtain⟨pg2,wt2,nw2,lg2,mk2,tn2,tl2,aar,s⟩:=bE.1 (s.ae [9])
 have s:=s.ae [0,10,3,8,6,3,9]
 dsimp only[w9,aE,bringA,getA] at s
 have s0:=s
 have Jq:=cX I
 have uM:=cX (iy I (b:=kq δ c) hk).2.1
 refine WP.drawn [some (0,3),af,af,af,af,af,af,af,af,af,af,some (0,2),some (0,2),some (0,2),af,af,af,af] rfl (by kernel_rfl) (by kernel_rfl) ?_
 refine zM rfl (zM rfl (zN rfl (zF rfl (j7 _ _) (zL rfl (by exact s.ld (k:=1) rfl bJ rfl) ?_))))
 refine zM rfl (zN rfl (zF rfl (tY _ _) (zL rfl (by exact s.ld (k:=1) rfl dJ rfl) ?_)))
 refine zO rfl (bU (p:=none) (q:=some (.int .i64 (δ.bu:Int))) (m:=none) (p':=none) (q':=some δ.bu) (m':=none) rfl rfl rfl rfl rfl (by simp[iK,bndV]) rfl (iy (s.buf (k:=3) rfl).view (b:=δ.bu) (by omega)).1) ?_
 refine az.any rfl rfl rfl rfl (OpR.call rfl rfl rfl rfl (jo J (s.ae [3]) (xS (aN _ _) (b:=δ.bu) (by omega)) (by grind))) ?_
 intro u h s
 dsimp only[aE,bringA] at s
 have s1:=s
 refine zM rfl (zM rfl (zO rfl (bU (p:=none) (q:=some (.int .i64 (kq δ c:Int))) (m:=none) (p':=none) (q':=some (kq δ c)) (m':=none) rfl rfl rfl rfl rfl (by simp[iK,bndV]) rfl (by exact(iy (s.buf (k:=5) rfl).view (b:=kq δ c) hk).1)) ?_))
 refine az.any rfl rfl rfl rfl (OpR.rJ rfl (s.ae [0,4]) (xS (aN _ _) (b:=kq δ c) hk) rfl rfl rfl rfl (by grind)) ?_
 intro w h s
 dsimp only[aE,bringA] at s
 have s2:=s
 have hv:=(s.buf (k:=0) rfl).view.cells
 refine zN rfl (zF rfl (j7 _ _) (az.gh rfl rfl rfl (OpR.fM rfl rfl rfl (s.dK (k:=3) rfl gY rfl (by decide) hv.1 hv.2)) ?_))
 rintro v h ⟨rfl,s⟩
 dsimp only[Nat.reduceAdd,List.set,setA] at s
 refine az.nil ⟨⟨fun _ _=>.inr ⟨rfl,⟨_,bn rfl⟩,aS _ rfl⟩,aa,aa,aa,aa,aa,aa,aa,aa,aa,aa,fun _ _=>.inr ⟨rfl,⟨_,bn rfl⟩,Jq⟩,fun _ _=>.inr ⟨rfl,⟨_,bn rfl⟩,aS _ rfl⟩,dZ (.inr ⟨rfl,⟨_,bU (p:=none) (q:=some (.int .i64 (kq δ c:Int))) (m:=none) (p':=none) (q':=some (kq δ c)) (m':=none) rfl rfl rfl rfl rfl (by simp[iK,bndV]) rfl (by exact(iy (s0.buf (k:=4) rfl).view (b:=kq δ c) hk).1)⟩,uM⟩) (.inr ⟨rfl,⟨_,bU (p:=none) (q:=some (.int .i64 (kq δ c:Int))) (m:=none) (p':=none) (q':=some (kq δ c)) (m':=none) rfl rfl rfl rfl rfl (by simp[iK,bndV]) rfl (by exact(iy (s1.buf (k:=5) rfl).view (b:=kq δ c) hk).1)⟩,uM⟩),aa,aa,aa,aa,aa⟩,?_⟩
 refine zg rfl (zm rfl (zm rfl (zn rfl (zf rfl (j7 _ _) (zl rfl (by exact s.ld (k:=3) rfl bJ rfl) ?_)))))
 refine zo rfl (aP rfl rfl rfl (by exact aW aJ (s.aG (k:=0) rfl (aN _ _)))) ?_
 refine zn rfl (zf rfl (tY _ _) ?_)
 refine au.fM rfl rfl rfl rfl rfl (by exact s.dK (k:=3) rfl lR rfl (by decide) rfl rfl) (fun h s => ?_)
 dsimp only[Nat.reduceAdd,List.set,setA] at s
 refine zv (zg rfl (zm rfl (zm rfl (zn rfl (zf rfl (Fy _ _) (zl rfl (by exact s.ld (k:=4) rfl bJ rfl) ?_))))))
 refine au.call rfl rfl rfl rfl rfl rfl rfl (jo J (s.ae [7]) (dy _ _) (by omega)) ?_
 intro m h s
 have s:=s.gu
 dsimp only[aE,bringA] at s
 have hv:=(s.aG (k:=0) rfl (dy _ _)).cells
 refine zn rfl (zf rfl (Fy _ _) (au.fM rfl rfl rfl rfl rfl (s.dK (k:=5) rfl gY rfl (by decide) hv.1 hv.2) ?_))
 intro h s
 dsimp only[Nat.reduceAdd,List.set,setA] at s
 refine zv (zg rfl (zm rfl (za rfl (zv (WP.ret ?_)))))
 have s:=(((s.del 8).del 7).del 3).ae [4,5,5,5,2,0,3,3,2,3,3,3,1,0,1,0,0]
 dsimp only[aE,bringA,getA] at s
 have s:=bE.2 ⟨_,_,_,_,_,_,_,_,(bE (δ:={ vS with log:=sH δ c,bu:=(sH δ c).length,mark:=δ.mark }).2 ⟨_,_,_,_,_,_,_,_,s⟩).ae [1,1,1,1,1,1,1,1,0]⟩
 exact hq _ _ rfl (s.ae [1])
theorem FZ : ∀ {l:List Wr} {i:Nat} {P:List (Option (List Nat))},(layW c i l P).length=P.length:=by
 intro l
 induction l<;>grind[layW]
theorem MS : ∀ {l:List Wr} {i:Nat} {P:List (Option (List Nat))},(∀w∈l,w.2.length=512)→(∀(j:Nat) (b:List Nat),P[j]?=some (some b)→b.length=512)→∀(j:Nat) (b:List Nat),(layW c i l P)[j]?=some (some b)→b.length=512:=by
 intro l
 induction l with
 |nil=>intro i P _ h;exact h
 |cons w l I =>
  intro i P J h
  refine I (fun x hx=>J x (bW _ hx)) ?_<;>grind
structure Dk.Cr (δ:Dk): Prop where
 ok:δ.Ok
 wait:∀w∈δ.waiting,w.1<δ.aq.length∧w.2.length=512
 many:δ.waiting.length≤268435456
 eV:∀w,δ.eV=some w→w.1<δ.aq.length∧w.2.length=512
 tail:δ.log.length+δ.tail.length≤16777216
 mark:δ.mark.length≤64
theorem Un (hT:W told)(s:Sat h (aO p δ::X::S))(hX:cN X (cP cv c))(hc:δ.Cr):
  Call ⟨Tryz.prog,told⟩ 18 [.ptr p 0,cv] h fun v h'=>∃q,v=.ptr q 0∧Sat h' (aO q (eN δ c)::aO p δ::X::S):=by
 obtain⟨J,hW,hn,ht,Wk,AL⟩:=hc
 have Wk:δ.tail.length≤16777216:=by omega
 obtain⟨pg,wt,nw,lg,mk,tn,tl,ops,s⟩:=bE.1 s
 obtain⟨id,cs,rfl,s⟩:=gA.1 (s.ae [1])
 have DW:=J.many
 have oA:cs.length=δ.aq.length:=by
  obtain⟨a,b,q1,q2,q3⟩:=s.at (k:=1) rfl
  exact rK q3
 refine Call.of_wp (hT.free _ rfl) Tryz.func18 rfl rfl (zg rfl (za rfl (zv (zg rfl (zm rfl (za rfl (zv (zw ?_))))))))
 have s:=s.ae [2]
 dsimp only[bringA,getA,aE] at s
 have s0:=s
 refine WP.drawn [af,af,af,af,af,af,af,af,af,af,af] rfl (by kernel_rfl) (by kernel_rfl) ?_
 refine zM rfl (zN rfl (zF rfl (m7 _ _) (zL rfl (by exact s.ld (k:=0) rfl rW rfl) ?_)))
 refine zO rfl (aP rfl rfl rfl (IB gz)) (zM rfl (zN rfl (zF rfl (Fx _ _) (zL rfl (by exact s.ld (k:=0) rfl dJ rfl) ?_))))
 refine az.any rfl rfl rfl rfl (OpR.call rfl rfl rfl rfl (IX (n:=δ.aq.length) (m:=δ.room) hT s (by omega))) ?_
 rintro v h ⟨q,rfl,s⟩
 refine zA rfl ?_
 refine az.nil ⟨⟨aa,aa,aa,aa,aa,aa,aa,aa,aa,aa,aa,aa⟩,?_⟩
 obtain⟨pg2,wt2,nw2,lg2,mk2,tn2,tl2,aar,s⟩:=bE.1 s
 obtain⟨nk,Gx,e2,s⟩:=gA.1 (s.ae [1])
 dsimp only[bringA,getA,aE,Dk.fresh] at s e2
 rw[eY] at s e2
 subst e2
 have gE:Gx.length=δ.aq.length:=by
  obtain⟨a,b,q1,q2,q3⟩:=s.at (k:=1) rfl<;>grind[rK,List.length_replicate]
 obtain⟨wcs,s⟩:=mF.1 (s.ae [12])
 dsimp only[bringA,getA,aE] at s
 have hlw:wcs.length=δ.waiting.length*2:=by
  obtain⟨a,b,q1,q2,q3⟩:=s.at (k:=1) rfl
  exact BG q3
 have s:=s.ae [4,10,2,9]
 dsimp only[bringA,getA,aE] at s
 refine zw ?_
 have s0:=s
 refine WP.drawn [af,af,af,af,af,af,af,af,af] rfl (by kernel_rfl) (by kernel_rfl) ?_
 refine zM rfl (zN rfl (zF rfl (m7 _ _) (zL rfl (by exact s.ld (k:=0) rfl rW rfl) ?_)))
 refine zM rfl (zN rfl (zF rfl (m7 _ _) (zL rfl (by exact s.ld (k:=1) rfl rW rfl) ?_)))
 refine az.any rfl rfl rfl rfl (OpR.X4 rfl (s.ae [2,2]) gE oA rfl rfl rfl rfl) ?_
 intro r h s
 dsimp only[w9,aE,bringA] at s
 refine az.nil ⟨⟨aa,aa,aa,aa,aa,aa,aa,aa,aa,aa⟩,?_⟩
 refine zw (zg rfl (zm rfl (zn rfl (zf rfl (tX _ _) (zl rfl (by exact s.ld (k:=3) rfl DI rfl) ?_)))))
 refine zo rfl (aP rfl rfl rfl (s.fR (n:=δ.waiting.length) (j:=4) rfl hlw (by decide) Ai)) ?_
 refine zm rfl (zv (WP.block ?_))
 have s:=((s.ae [13]).dup (bg.each bg.kY _ _)).ae [7,4,2,0,3,15]
 dsimp only[aE,bringA,getA] at s
 refine Oz hT rfl rfl (fun w hw=>(hW w hw).1) hn hX DW δ.waiting.length 0 cs δ.aq h _ _ (fy _) oA rfl s ⟨rfl,rfl,rfl,rfl,rfl,rfl,aa⟩ (fun E h Gx P hE hP h1 h2 s => ?_)
 rw[gS] at hP
 subst hP
 refine WP.has hE ?_
 have t1:=gA.2 ⟨nk,Gx,rfl,by rw[h2];exact s.ae [2,2]⟩
 rw[h2] at t1
 dsimp only[aE,bringA] at t1
 have t2:=bE (δ:={ Dk.fresh δ.aq.length δ.room with aq:=layW c 0 δ.waiting δ.aq }).2 ⟨_,_,_,_,_,_,_,_,t1.ae [2,0,7,7,7,7,7,7]⟩
 dsimp only[aE,bringA] at t2
 have t3:=gA.2 ⟨id,cs,rfl,t2.ae [5,4]⟩
 dsimp only[aE,bringA] at t3
 have t4:=(mF.2 ⟨_,t3.ae [3,2]⟩).del 5
 dsimp only[aE,bringA] at t4
 have s:Sat h (aO q { Dk.fresh δ.aq.length δ.room with aq:=layW c 0 δ.waiting δ.aq }::aO p δ::X::S):=(bE.2 ⟨_,_,_,_,_,_,_,_,t4.ae [4,1,0,2,2,2,2,2,0,0]⟩).ae [1]
 have sk:=s
 obtain⟨pg3,wt3,nw3,lg3,mk3,tn3,tl3,aeJ,s⟩:=bE.1 (s.ae [1])
 dsimp only[w9,aE,bringA] at s
 have hr:∀E' h',look E' 4=some (.ptr q 0)→Sat h' (aO q (eN δ c)::aO p δ::X::S)→∃v,resLE Tryz.prog E' h' [.tmp 4]=some v∧∃q,v=.ptr q 0∧Sat h' (aO q (eN δ c)::aO p δ::X::S):=fun E' h' e s'=>⟨_,nG e,q,rfl,s'⟩
 refine zw (zg rfl (zm rfl (zn rfl (zf rfl (uD _ _) (zl rfl (by exact s.ld (k:=0) rfl HL rfl) ?_)))))
 cases I:δ.eV with
 |none =>
  rw[I] at s
  obtain⟨rfl,_⟩:=ej.1 (s.ae [6])
  refine au.kU rfl rfl rfl (ay rfl rfl (V5 Tryz.underlying109)) (rfl) (zv (zj rfl (WP.skip ?_)))
  refine G3 hT sk hX J Wk AL ⟨rfl,rfl,rfl,aa⟩ (fun E' h' e s'=>⟨aa,hr E' h' e ?_⟩)
  rw[eN,I]
  exact s'
 |some w =>
  rw[I] at s
  obtain⟨tid,s⟩:=gK.1 (s.ae [6])
  obtain⟨u,s⟩:=gK.1 s
  obtain⟨rfl,_⟩:=ej.1 (aM.1 s)
  refine au.vl rfl rfl rfl (ay rfl rfl (abD Tryz.underlying109)) (rfl) (zv (zi rfl ?_))
  refine OB (w:=w) hT sk hX hn I (by grind) (ht w I).2 (by grind) (MS (fun w hw=>(hW w hw).2) J.aq) ⟨rfl,rfl,rfl,aa⟩ (fun E h hE s => ?_)
  refine G3 hT s hX J Wk AL hE (fun E' h' e s'=>⟨aa,hr E' h' e ?_⟩)
  rw[eN,I]
  exact s'
end
structure bV where
 kd:Nat
 tx:Nat
 pv:Nat
 nx:Nat
 data:List Nat
 aR:List bZ
variable {u rs cy ey r1 r2:List bV}
def bV.bd (r:bV): List Nat:=c_ r.kd r.tx r.pv r.nx r.data r.aR
def bV.len (r:bV): Nat:=8+r.bd.length
structure bV.Ok (r:bV): Prop where
 good:dV r.kd r.aR=true
 rd:yw r.tx r.pv r.nx r.data r.aR
 len:r.bd.length≤1048576
theorem bV.Ok.kd {r:bV}(h:r.Ok): r.kd<256:=by
 have:=h.good
 simp[dV] at this
 omega
def logB : Nat→List bV→List Nat
 |_,[]=>[]
 |n,r::l=>iA n r.bd++logB (n+r.len) l
def lN : Nat→List bV→List Nat
 |_,[]=>[]
 |a,r::l=>a::lN (a+r.len) l
def rP (j:List Nat): Prop:=j.length<8∨j.length-8<leN (j.take 4)
theorem Uo {x y:List Nat}{b:Nat}(I:x.length=a): ((x++y).take (a+b)).drop a=y.take b:=by
 grind
section
variable {told:cJ} {v:V}
theorem OC (hT:W told){pre j:List Nat}(hj:rP j)(ha:pre.length=a)(J:l=pre++j)(Cn:l.length≤1073741824)(s:Sat h (X::S))(I:cN X (cP v l)):
  Call ⟨Tryz.prog,told⟩ 125 [v,.int .i64 (a:Int),.int .u64 (n:Int)] h fun r h'=>r=.aQ [.agg (dx 0 0 0 0 .aY .aY),.int .i64 0,.int .i64 4]∧Sat h' (X::S):=by
 have hlen:l.length=a+j.length:=by rw[J,b7,ha]
 have JR:=aW (P:=Tryz.prog) (h:=h) aJ (s.aG (k:=0) rfl I)
 have m1:(l.take (a+4)).drop a=j.take 4:=by rw[J];exact Uo ha
 refine Call.of_wp (hT.free _ rfl) Tryz.func125 rfl rfl (zg rfl ?_)
 refine au.bD s rfl rfl rfl (bI jC) (fun p6 h s => ?_)
 refine zk 7 rfl (zC rfl aT (by simp) ?_)
 refine zk 3 rfl (zo rfl (aP rfl rfl rfl (aW aJ (s.aG (k:=1) rfl I))) (zC rfl fN (by simp;omega) ?_))
 refine zk 8 rfl (zo rfl (aP rfl rfl rfl (aW aJ (s.aG (k:=1) rfl I))) (zm rfl (zb rfl (by exact jI (aA (by omega) (by omega))) ?_)))
 by_cases h8:j.length<8
 ·skip
  refine zB rfl aT (by simp;omega) ?_
  refine zk 4 rfl (zo rfl (cj rfl (by rw[rV];rfl)) ?_)
  refine zS rfl (s.eS (j:=0) rfl dD rfl rfl) (fun h s => ?_)
  refine zk 3 rfl ?_
  refine WP.ret ⟨aa,_,ym rfl (s.cV (k:=0) rfl iJ dD) rfl rfl,?_⟩
  exact⟨rfl,s.drop⟩
 have eL:j.length-8<leN (j.take 4):=by rcases hj with h|h;exact absurd h h8;exact h
 have J1:leN (j.take 4)<4294967296:=by
  have:=Al (j.take 4) (fun b hb=>(s.aG (k:=1) rfl I).1 b (by rw[J];exact List.mem_append.2 (.inr (kE hb))))
  rwa [gR,Ba (by omega)] at this
 refine zC rfl aT (by simp;omega) ?_
 refine zk 8 rfl (zb rfl (by exact bf (aA (by omega) (by omega))) ?_)
 refine zo rfl (bU (p:=some (.int .i64 (a:Int))) (q:=some (.int .i64 ((a:Int)+4))) (m:=none) (p':=some a) (q':=some (a+4)) (m':=none) rfl rfl rfl rfl (by rw[cW (by omega)];rfl) (by rw[cW (by omega)];congr 2<;>omega) rfl (dc (s.aG (k:=1) rfl I) (a:=a) (b:=a+4) (by omega) (by omega)).1) ?_
 refine zc rfl (mz hT s (k:=1) rfl (jJ I (a:=a) (b:=a+4) (by omega) (by omega)) (by rw[m1,gR];omega)) ?_
 rintro r h' ⟨rfl,rfl⟩
 rw[m1]
 refine zk 6 rfl ?_
 by_cases N_:1048576<leN (j.take 4)
 ·skip
  refine zB rfl fN (by simp;omega) ?_
  refine zk 14 rfl (zo rfl (cj rfl (by rw[rV];rfl)) ?_)
  refine zS rfl (s.eS (j:=0) rfl dD rfl rfl) (fun h s => ?_)
  refine zk 3 rfl ?_
  refine WP.ret ⟨aa,_,ym rfl (s.cV (k:=0) rfl iJ dD) rfl rfl,?_⟩
  exact⟨rfl,s.drop⟩
 refine zC rfl fN (by simp;omega) ?_
 refine zk 2 rfl (zo rfl (bT rfl (by exact gL bR br (aA (by omega) (by omega)))) ?_)
 refine zm rfl (zo rfl (aP rfl rfl rfl (aW aJ (s.aG (k:=1) rfl I))) (zm rfl (zb rfl (by exact jI (aA (by omega) (by omega))) ?_)))
 refine zb rfl (by exact jI (aA (by omega) (by omega))) ?_
 refine zB rfl fN (by simp;omega) ?_
 refine zk 5 rfl (zo rfl (cj rfl (by rw[rV];rfl)) ?_)
 refine zS rfl (s.eS (j:=0) rfl dD rfl rfl) (fun h s => ?_)
 refine zk 3 rfl ?_
 refine WP.ret ⟨aa,_,ym rfl (s.cV (k:=0) rfl iJ dD) rfl rfl,?_⟩
 exact⟨rfl,s.drop⟩
end
def Dk.qM (δ:Dk)(n:Nat): Int×Dk :=
 if δ.dead=true then(9,δ) else if ¬n≤δ.log.length then(1,δ) else if δ.aU=0 then(9,δ.die) else(0,{ δ.dh with log:=δ.log.take n,bu:=n })
def Dk.dQ (δ:Dk)(n:Nat): Int×Dk:=if n<δ.log.length then δ.qM n else(0,δ)
def Dk.c7 (δ:Dk)(n:Nat): Int×Dk :=
 if (δ.dQ n).1≠0 then δ.dQ n else if (δ.dQ n).2.bu<n then(δ.dQ n).2.cF else(0,(δ.dQ n).2)
def gZ (base aH:Nat)(rs:List bV): Lg:={ base:=base,b:=logB base rs,cE:=lN 0 rs,forced:=(logB base rs).length,check:=aH }
theorem sI (n:Nat)(b:List Nat): (iA n b).length=8+b.length:=by rw[mJ]
theorem Ln {v:V}(I:c<1073741824)(he:makeSliceV Tryz.prog h 23 (.int .i64 0) (.int .i64 (c:Int))=some (v,h')): v=.sl h.next 0 0 (.exact c):=by
 obtain⟨i,hi,i1,i2⟩:=wV
 simp only[makeSliceV,aJ,hi,o7,i1,i2,V.cells,bz,cG,cL,iV] at he
 rw[show(decide ((0:Int)≤0)&&decide ((0:Int)≤(c:Int))&&decide ((c:Int)<1073741824)&&Nat.ble 1 4096&&Nat.beq (0+1) 1&&Nat.ble 1 1)=true by simp;omega,ah] at he
 exact(congrArg Prod.fst (cg he)).symm
theorem J2 {x v:V}{m:List Nat}(J:View h x m)(I:n+m.length≤c)(he:appendV Tryz.prog h #[23,23] (.sl id 0 n (.exact c)) x=some (v,h')): v=.sl id 0 (n+m.length) (.exact c):=by
 obtain⟨i,hi,i1,i2⟩:=wV
 unfold appendV at he
 simp only[aJ,hi,o7,i1,i2,V.cells,bz,cG,Dz J] at he
 rw[show(Nat.ble 1 1&&Nat.ble 1 4096&&Nat.beq (0+1) 1)=true from rfl,ah] at he
 cases hm:Nat.beq m.length 0 with
 |true =>
  rw[hm,ah] at he
  rw[beq_iff.1 hm];exact(congrArg Prod.fst (cg he)).symm
 |false =>
  rw[hm,aX,aL.2 I,ah] at he
  split at he
  ·exact(congrArg Prod.fst (cg he)).symm
  ·cases he
theorem Rz (hn:n≤l.length): cN (aZ (.sl id 0 l.length (.exact c)) l) (aZ (.sl id 0 n (.exact c)) (l.take n)):=by
 intro m r ⟨h1,h2⟩
 have hl:(l.take n).length=n:=by rw[gR];omega
 refine⟨fun b hb=>h1 b (kE hb),.inr (.inl ?_)⟩
 rcases h2 with⟨e,_⟩|⟨J,cs,c',e,hg,hc⟩|⟨J,e,_⟩
 ·cases e
 ·injection e with e1 _ _ I
  injection I with I
  subst e1;subst I
  refine⟨_,ofBytes (l.drop n)++cs,_,by rw[hl],?_,?_⟩
  ·rw[←cT,←rT,EP];exact hg
  ·rw[b7,dR,EZ,hl];omega
 ·injection e with _ _ _ I;cases I
section
variable {told:cJ} {p:Nat}
theorem Lo (hT:W told){x:V}(s:Sat h (X::S))(J:cN X (cP x l))(hl:l.length<1073741824):
  Call ⟨Tryz.prog,told⟩ 62 [x] h fun v h'=>∃id,v=.sl id 0 l.length (.exact l.length)∧Sat h' (aZ v l::X::S):=by
 refine Call.of_wp (hT.free _ rfl) Tryz.func62 rfl rfl (zK 7 rfl (zo rfl (aP rfl rfl rfl (aW aJ (s.aG (k:=0) rfl J))) ?_))
 obtain⟨v1,h1,e1,s1⟩:=Gw s hl
 have xj:=Ln hl e1
 subst xj
 refine au.any rfl rfl rfl (OpR.of (R:=fun v h'=>v=.sl h.next 0 0 (.exact l.length)∧h'=h1) (tu rfl rfl e1) ⟨rfl,rfl⟩) ?_
 rintro v h' ⟨rfl,rfl⟩
 refine zm rfl ?_
 obtain⟨v2,h2,e2,s2⟩:=DP s1 J (by simp;omega)
 have I:=J2 (s1.aG (k:=1) rfl J) (by omega) e2
 rw[fy] at I
 subst I
 refine au.any rfl rfl rfl (OpR.of (R:=fun v h'=>v=.sl h.next 0 l.length (.exact l.length)∧h'=h2) (mI rfl rfl e2) ⟨rfl,rfl⟩) ?_
 rintro v h' ⟨rfl,rfl⟩
 exact zk 2 rfl (WP.ret ⟨aa,_,rfl,_,rfl,s2⟩)
theorem OD (I:W told)(s:Sat h (aO p δ::S))(hd:δ.dead=false)(J:δ.log.length<1073741824): Call ⟨Tryz.prog,told⟩ 124 [.ptr p 0] h fun v h' =>
  ∃id,v=.aQ [.sl id 0 δ.log.length (.exact δ.log.length),.int .i64 0]∧Sat h' (aZ (.sl id 0 δ.log.length (.exact δ.log.length)) δ.log::aO p δ::S):=by
 obtain⟨pg,wt,nw,lg,mk,tn,tl,ops,s⟩:=bE.1 s
 refine Call.of_wp (I.free _ rfl) Tryz.func124 rfl rfl (zK 10 rfl (zf rfl (j8 _ _) (zh rfl ((o_load rfl (s.ld (k:=0) rfl kV rfl))) (hd) (zk 7 rfl (zY s 0 j7 bJ rfl (zc rfl (Lo I (s.ae [4]) (aN _ _) J) ?_))))))
 rintro v h ⟨id,rfl,s⟩
 exact zk 3 rfl (WP.ret ⟨aa,_,rfl,id,rfl,(bE.2 ⟨pg,wt,nw,lg,mk,tn,tl,ops,s.ae [2,2,2,2,1,1,1,1,0]⟩).ae [1]⟩)
end
section
variable {told:cJ} {v b pv:V} {j:List Nat} {p base:Nat}
theorem adh {m:Nat}: slR (.sl id 0 m (.exact c)) 0 n=.sl id 0 n (.exact c):=by
 simp only[slR,qZ,l8,l7]
 cases Nat.beq c 0<;>rfl
theorem Dk.Ok.dQ (h:δ.Ok): (δ.dQ n).2.Ok:=by
 have J:=h.len
 unfold Dk.dQ Dk.qM
 split
 ·split
  ·exact h
  ·split
   ·exact h
   ·split
    ·exact h.die
    ·have I:=h.dh
     exact⟨I.aU,by show(δ.log.take n).length≤_;rw[gR];omega,I.room,I.now,I.aq,by show n≤(δ.log.take n).length;rw[gR];omega,I.many⟩
 ·exact h
theorem Dk.Ok.c7 (h:δ.Ok): (δ.c7 n).2.Ok:=by
 unfold Dk.c7
 split
 ·exact h.dQ
 ·split
  ·exact h.dQ.cF
  ·exact h.dQ
theorem aas (hT:W told)(s:Sat h (aO p δ::S))(I:δ.Ok): Call ⟨Tryz.prog,told⟩ 126 [.ptr p 0,.int .i64 (n:Int)] h fun v h'=>v=.int .i64 (δ.qM n).1∧Sat h' (aO p (δ.qM n).2::S):=by
 have hl:=I.len
 refine(To hT s I.aU (by omega)).mono fun v h' hr => ?_
 unfold Dk.qM
 rcases hr with⟨hd,rfl,s⟩|⟨hd,h1,rfl,s⟩|⟨hd,h1,h2,J,rfl,s⟩|⟨hd,h1,h2,J,rfl,s⟩
 ·rw[aC hd];exact⟨rfl,s⟩
 ·rw[ak (by rw[hd];decide),aC (by omega)];exact⟨rfl,s⟩
 ·rw[ak (by rw[hd];decide),ak (by omega),aC J];exact⟨rfl,s⟩
 ·rw[ak (by rw[hd];decide),ak (by omega),ak J];exact⟨rfl,s⟩
theorem Up (hT:WR told){r:bV}{pre:List Nat}(I:r.Ok)(ha:pre.length=a)(hl:l=pre++(iA n r.bd++rest))(J:l.length≤1073741824)(s:Sat h (X::S))(hX:cN X (cP v l)):
  Call ⟨Tryz.prog,told⟩ 125 [v,.int .i64 (a:Int),.int .u64 (n:Int)] h fun x h'=>∃dt ch cs,x=.aQ [.agg (dx r.kd r.tx r.pv r.nx dt ch),.int .i64 ((a+r.len:Nat):Int),.int .i64 0]∧Sat h' (X::aZ dt r.data::.arr 4 ch cs::c9 cs r.aR::S):=by
 refine(JQ hT I.good I.kd I.rd rfl I.len ha hl J s hX).mono fun x h' hx => ?_
 have e:a+r.len=a+8+(c_ r.kd r.tx r.pv r.nx r.data r.aR).length:=by rw[bV.len,bV.bd];omega
 rw[e]
 exact hx
theorem MT {kd n:Int}{pv:Nat}{ch:V}(hd:dt.beq dt=true)(I:ch.beq ch=true): (V.aQ [.agg (dx kd tx pv nx dt ch),.int .i64 n,.int .i64 e]).beq (V.aQ [.agg (dx kd tx pv nx dt ch),.int .i64 n,.int .i64 e])=true:=by
 simp only[V.beq,V.beqL,dx,hd,I,lF,d_,iT,ah]
noncomputable def woL : Code:=cU [1,1,1,1,1,1,1,0,0,0] ((Tryz.f63.body).getD .skip)
set_option maxHeartbeats 1000000 in
theorem OE (hT:WR told)(Cn:l.length≤16777216)(xN:base+l.length≤1099511627776)(hj:rP j): ∀(rs:List bV) (a:Nat) (pre st:List Nat) (J:V) (h:H) (E:List (Nat×V)) (Q:Ex→List (Nat×V)→H→Prop),
  (∀r∈rs,r.Ok)→l=pre++(logB (base+a) rs++j)→pre.length=a→st.length≤a→Sat h (pt q (.cells 6 (Ao p base b J 0 aH) false)::aZ b l::.arr 1 J (jW st)::S) →
  Has E [(0,pv),(6,.ptr q 0),(7,.int .i64 (a:Int))] →
  (∀E' h' I,Has E' [(0,pv),(6,.ptr q 0),(7,.int .i64 ((a+(logB (base+a) rs).length:Nat):Int))]→Sat h' (pt q (.cells 6 (Ao p base b I 0 aH) false)::aZ b l::.arr 1 I (jW (st++lN a rs))::S)→Q (.exit 1) E' h') →
  WP ⟨Tryz.prog,told⟩ 134 (.loop woL) E h Q:=by
 have hW:=hT.w
 intro rs
 induction rs with
 |nil =>
  intro a pre st J h E Q _ hl ha _ s hE hq
  have hq:∀E' h',Has E' [(0,pv),(6,.ptr q 0),(7,.int .i64 (a:Int))]→Sat h' (pt q (.cells 6 (Ao p base b J 0 aH) false)::aZ b l::.arr 1 J (jW st)::S)→Q (.exit 1) E' h':=fun E' h' h1 h2=>hq E' h' J h1 (by rw[lN,eZ];exact h2)
  have hlen:l.length=a+j.length:=by rw[hl,logB,dU,b7,ha]
  refine WP.loop (WP.has hE (zK 6 rfl (zY s 0 e_ bJ rfl (zo rfl (aP rfl rfl rfl (aW aJ (s.aG (k:=1) rfl (aN _ _)))) ?_))))
  by_cases hz:j.length=0
  ·skip
   refine zC rfl aT (by simp;omega) ?_
   exact zk 2 rfl (WP.exit (hq _ _ ⟨rfl,rfl,rfl,aa⟩ s))
  ·skip
   refine zB rfl aT (by simp;omega) ?_
   refine zk 3 rfl (WP.block (zw ?_))
   have s0:=s
   have VW:=cX (s.buf (k:=1) rfl).view
   refine WP.drawn [af,af,af,af,af,af,af,af,af,af,af,af,af,some (1,2),some (1,2),some (1,3),some (1,3),af,af,af,af] rfl (by kernel_rfl) (by kernel_rfl) ?_
   refine zM rfl (zN rfl (zF rfl (e_ _ _) (zL rfl (s.ld (k:=0) rfl bJ rfl) (zM rfl (zM rfl (zN rfl (zF rfl (mq _ _) (zL rfl (s.ld (k:=0) rfl dL rfl) (zM rfl (az.op rfl rfl rfl (by simp only[isEff,bR]) (bT rfl (by exact gL br bR (eP (by omega) (by omega)))) ?_))))))))))
   refine zO rfl (ay rfl rfl (by exact bf (eP (by omega) (by omega)))) ?_
   refine az.any rfl rfl rfl rfl (OpR.call rfl rfl rfl rfl (OC (n:=base+a) (a:=a) hW hj ha hl (by omega) (s.ae [1]) (aN _ _))) ?_
   rintro x h ⟨rfl,s⟩
   dsimp only[Ao,aE,bringA] at s
   have s1:=s
   have htb:=MT (kd:=0) (tx:=0) (pv:=0) (nx:=0) (dt:=.aY) (ch:=.aY) (n:=0) (e:=4) rfl rfl
   have Jq:=BK (kd:=0) (tx:=0) (pv:=0) (nx:=0) (dt:=.aY) (ch:=.aY) rfl rfl
   refine zM rfl (zO rfl (bY rfl rfl) (zO rfl (bY rfl rfl) (zO rfl (bY rfl rfl) (az.any rfl rfl rfl rfl (OpR.bD s (bI jC)) ?_))))
   rintro v h ⟨p8,rfl,s⟩
   dsimp only[V.cells,List.length_cons,List.length_nil,Nat.reduceAdd] at s
   have s2:=s
   refine az.gh rfl rfl rfl (OpR.fM rfl rfl rfl (s.eS (j:=0) rfl dD rfl rfl)) ?_
   rintro v h ⟨rfl,s⟩
   dsimp only[setA] at s
   refine zA rfl (zA rfl ?_)
   refine az.nil ⟨⟨aa,aa,aa,aa,aa,aa,aa,aa,aa,aa,aa,aa,aa,fun _ _=>.inr ⟨rfl,⟨_,bn rfl⟩,htb⟩,fun _ _=>.inr ⟨rfl,⟨_,bY rfl rfl⟩,Jq⟩,fun _ _=>.inr ⟨rfl,⟨_,bY rfl rfl⟩,aS _ rfl⟩,fun _ _=>.inr ⟨rfl,⟨_,bY rfl rfl⟩,aS _ rfl⟩,aa,aa,aa,aa,aa⟩,?_⟩
   exact zK 4 rfl (zB rfl aD (rfl) (zk 2 rfl (WP.exit (hq _ _ ⟨rfl,rfl,rfl,aa⟩ ((s.del 0).ae [1,0,0])))))
 |cons r rs ih =>
  intro a pre st J h E Q oz hl ha fo s hE hq
  have hr:=oz r bX
  have DZ:(iA (base+a) r.bd).length=r.len:=by rw[sI];rfl
  have hlen:l.length=a+(r.len+((logB (base+a+r.len) rs).length+j.length)):=by rw[hl,logB];simp only[b7,ha,DZ];omega
  have hr8:8≤r.len:=by rw[bV.len];omega
  refine WP.loop (WP.has hE (zK 6 rfl (zY s 0 e_ bJ rfl (zo rfl (aP rfl rfl rfl (aW aJ (s.aG (k:=1) rfl (aN _ _)))) (zB rfl aT (by simp;omega) ?_)))))
  refine zk 3 rfl (WP.block (zw ?_))
  have s0:=s
  have VW:=cX (s.buf (k:=1) rfl).view
  refine WP.drawn [af,af,af,af,af,af,af,af,af,af,af,af,af,some (1,2),some (1,2),some (1,3),some (1,3),af,af,af,af] rfl (by kernel_rfl) (by kernel_rfl) ?_
  refine zM rfl (zN rfl (zF rfl (e_ _ _) (zL rfl (s.ld (k:=0) rfl bJ rfl) (zM rfl (zM rfl (zN rfl (zF rfl (mq _ _) (zL rfl (s.ld (k:=0) rfl dL rfl) (zM rfl (az.op rfl rfl rfl (by simp only[isEff,bR]) (bT rfl (by exact gL br bR (eP (by omega) (by omega)))) ?_))))))))))
  refine zO rfl (ay rfl rfl (by exact bf (eP (by omega) (by omega)))) ?_
  refine az.any rfl rfl rfl rfl (OpR.call rfl rfl rfl rfl (Up (r:=r) (n:=base+a) (a:=a) (rest:=logB (base+a+r.len) rs++j) hT hr ha (by rw[hl,logB,cT]) (by omega) (s.ae [1]) (aN _ _))) ?_
  rintro x h ⟨dt,ch,cs,rfl,s⟩
  dsimp only[Ao,aE,bringA] at s
  have iP:=(s.buf (k:=1) rfl).view.cells
  have jx:=s.iz (j:=2) rfl
  have Gv:=cX (s.buf (k:=1) rfl).view
  have fo:[V.int .i64 (r.kd:Int),V.int .u64 (r.tx:Int),V.int .u64 (r.pv:Int),V.int .u64 (r.nx:Int),dt,ch].all storable=true:=jc iP.2 jx.2.1
  have htb:=MT (kd:=r.kd) (tx:=r.tx) (pv:=r.pv) (nx:=r.nx) (n:=((a+r.len:Nat):Int)) (e:=0) Gv jx.2.2
  have Jq:=BK (kd:=r.kd) (tx:=r.tx) (pv:=r.pv) (nx:=r.nx) Gv jx.2.2
  have s1:=s
  refine zM rfl (zO rfl (bY rfl rfl) (zO rfl (bY rfl rfl) (zO rfl (bY rfl rfl) (az.any rfl rfl rfl rfl (OpR.bD s (bI jC)) ?_))))
  rintro v h ⟨p8,rfl,s⟩
  dsimp only[V.cells,List.length_cons,List.length_nil,Nat.reduceAdd] at s
  have s2:=s
  refine az.gh rfl rfl rfl (OpR.fM rfl rfl rfl (s.eS (j:=0) rfl dD rfl fo)) ?_
  rintro v h ⟨rfl,s⟩
  dsimp only[setA] at s
  refine zA rfl (zA rfl ?_)
  refine az.nil ⟨⟨aa,aa,aa,aa,aa,aa,aa,aa,aa,aa,aa,aa,aa,fun _ _=>.inr ⟨rfl,⟨_,bn rfl⟩,htb⟩,fun _ _=>.inr ⟨rfl,⟨_,bY rfl rfl⟩,Jq⟩,fun _ _=>.inr ⟨rfl,⟨_,bY rfl rfl⟩,aS _ rfl⟩,fun _ _=>.inr ⟨rfl,⟨_,bY rfl rfl⟩,aS _ rfl⟩,aa,aa,aa,aa,aa⟩,?_⟩
  refine zK 4 rfl (zC rfl aD (rfl) ?_)
  have s:=((((s.ae [5,5,1]).del 3).del 3).del 3).del 3
  dsimp only[bringA,getA,aE] at s
  refine zk 7 rfl (zY s 0 od vm rfl (zm rfl ?_))
  obtain⟨i1,kA,jE,qg⟩:=I4
  obtain⟨iv,h1,e1,s1⟩:=kI (P:=Tryz.prog) (k:=1) (x:=.int .i64 (a:Int)) s gW P7 lR rfl (by decide) (by decide) rfl rfl
  dsimp only[V.cells] at s1
  refine au.any rfl rfl rfl (OpR.of (R:=fun v h'=>v=iv∧h'=h1) (oF rfl e1) ⟨rfl,rfl⟩) ?_
  rintro v h' ⟨rfl,rfl⟩
  obtain⟨I,h2,e2,s2⟩:=gU (s1.ae [2,0]) gW kA P7 jE (by omega) rfl (by decide) (by simp only[vr,bz,cG];omega)
  dsimp only[aE,bringA] at s2
  refine au.any rfl rfl rfl (OpR.of (R:=fun v h'=>v=I∧h'=h2) (mI rfl rfl e2) ⟨rfl,rfl⟩) ?_
  rintro v h' ⟨rfl,rfl⟩
  have hv:=s2.iz (j:=0) rfl
  refine zk 2 rfl (zf rfl (od _ _) (zS rfl (s2.dK (k:=2) rfl VF rfl (by decide) hv.1 hv.2.1) ?_))
  intro h s
  dsimp only[Nat.reduceAdd,List.set,setA] at s
  refine za rfl (zv ?_)
  have s:=(s.ae [2,2,0]).del 3
  refine ih (a+r.len) (pre++iA (base+a) r.bd) (st++[a]) _ _ _ Q (fun x hx=>oz x (bW _ hx)) (by rw[hl,logB];simp only[cT,j6]) (by rw[b7,ha,DZ]) (by simp;omega) (by rw[show jW (st++[a])=jW st++[.int .i64 (a:Int)] by simp[jW]];exact s) ⟨rfl,rfl,rfl,aa⟩ (fun E' h' I fE s' => ?_)
  refine hq E' h' I ?_ ?_
  ·rw[logB,b7,DZ,←j6,j6 base]
   exact fE
  ·rw[lN,List.append_cons]
   exact s'
noncomputable def woE : Code:=cU [1,1,1,1,1,1,1,1,1] ((Tryz.f63.body).getD .skip)
theorem Et (hT:W told){st:List Nat}{sv:V}(s:Sat h (pt q (.cells 6 (Ao p base b sv 0 aH) false)::aZ b l::.arr 1 sv (jW st)::aO p δ::S))(hf:δ.aU<4294967296)(hE:Has E [(0,.ptr p 0),(6,.ptr q 0)]){y:Int×Dk}(J:y=if δ.bu<l.length then δ.cF else(0,δ))
 (h1:∀E' h',y.1≠0→look E' 2=some .bq→look E' 3=some (.int .i64 y.1)→Sat h' (aO p y.2::S)→Q .ret E' h')
 (h2:∀E' h',y.1=0→look E' 2=some (.ptr q 0)→look E' 3=some (.int .i64 0)→Sat h' (bS q p { base:=base,b:=l,cE:=st,forced:=l.length,check:=aH }::aO p y.2::S)→Q .ret E' h'):
  WP ⟨Tryz.prog,told⟩ 134 woE E h Q:=by
 refine WP.has hE (zK 2 rfl ?_)
 have s0:=s
 have I:=cX (s.buf (k:=1) rfl).view
 refine WP.drawn [none,none,some (0,2),some (0,2),some (0,2),some (0,2),some (0,2),none] rfl (by kernel_rfl) (by kernel_rfl) ?_
 refine zM rfl (az.any rfl rfl rfl rfl (OpR.call rfl rfl rfl rfl (Ch hT (s.ae [3]))) ?_)
 rintro v h' ⟨rfl,rfl⟩
 refine zM rfl (zN rfl (zF rfl (e_ _ _) (zL rfl (s.ld (k:=0) rfl bJ rfl) (zO rfl (aP rfl rfl rfl (aW aJ (s.aG (k:=1) rfl (aN _ _)))) ?_))))
 by_cases hc:δ.bu<l.length
 ·skip
  rw[aC hc] at J
  refine az.vl rfl rfl rfl rfl (ay rfl rfl aT) (by rw[show δ.xX=δ.bu from rfl];simp;omega) ?_
  refine az.nil ⟨⟨aa,aa,fun _ _=>.inr ⟨rfl,⟨_,bn rfl⟩,aS _ rfl⟩,fun _ _=>.inr ⟨rfl,⟨_,kT rfl⟩,aS _ rfl⟩,fun _ _=>.inr ⟨rfl,⟨_,jH rfl (e_ _ _)⟩,aS _ rfl⟩,dZ (.inr ⟨rfl,⟨_,o_load rfl (s0.ld (k:=0) rfl bJ rfl)⟩,I⟩) (.inr ⟨rfl,⟨_,o_load rfl (s.ld (k:=0) rfl bJ rfl)⟩,I⟩),dZ (.inr ⟨rfl,⟨_,aP rfl rfl rfl (aW aJ (s0.aG (k:=1) rfl (aN _ _)))⟩,aS _ rfl⟩) (.inr ⟨rfl,⟨_,aP rfl rfl rfl (aW aJ (s.aG (k:=1) rfl (aN _ _)))⟩,aS _ rfl⟩),aa,aa⟩,?_⟩
  refine zK 4 rfl (zc rfl (Xt hT (s.ae [3]) hf) ?_)
  rintro v h ⟨rfl,s⟩
  rw[←J] at s
  rw[←J]
  by_cases h0:y.1=0
  ·skip
   rw[h0]
   refine zk 5 rfl (zC rfl aD (rfl) (zk 8 rfl (zY s 1 e_ bJ rfl (zo rfl (aP rfl rfl rfl (aW aJ (s.aG (k:=2) rfl (aN _ _)))) (zn rfl (zf rfl (wX _ _) ?_))))))
   refine zS rfl (by exact s.dK (k:=1) rfl lR rfl (by decide) rfl rfl) (fun h s => ?_)
   exact zk 7 rfl (WP.ret (h2 _ _ h0 rfl rfl (fW.2 ⟨_,_,s.ae [1,1,1,0]⟩)))
  ·skip
   refine zk 5 rfl (zB rfl aD (by simpa using h0) ?_)
   exact zk 8 rfl (WP.ret (h1 _ _ h0 rfl rfl (((s.del 3).del 2).del 1)))
 ·skip
  rw[ak hc] at J
  subst J
  refine az.kU rfl rfl rfl rfl (ay rfl rfl aT) (by rw[show δ.xX=δ.bu from rfl];simp;omega) ?_
  refine az.nil ⟨⟨aa,aa,fun _ _=>.inr ⟨rfl,⟨_,bn rfl⟩,aS _ rfl⟩,fun _ _=>.inr ⟨rfl,⟨_,kT rfl⟩,aS _ rfl⟩,fun _ _=>.inr ⟨rfl,⟨_,jH rfl (e_ _ _)⟩,aS _ rfl⟩,dZ (.inr ⟨rfl,⟨_,o_load rfl (s0.ld (k:=0) rfl bJ rfl)⟩,I⟩) (.inr ⟨rfl,⟨_,o_load rfl (s.ld (k:=0) rfl bJ rfl)⟩,I⟩),dZ (.inr ⟨rfl,⟨_,aP rfl rfl rfl (aW aJ (s0.aG (k:=1) rfl (aN _ _)))⟩,aS _ rfl⟩) (.inr ⟨rfl,⟨_,aP rfl rfl rfl (aW aJ (s.aG (k:=1) rfl (aN _ _)))⟩,aS _ rfl⟩),aa,aa⟩,?_⟩
  refine zK 7 rfl (zY s 0 e_ bJ rfl (zo rfl (aP rfl rfl rfl (aW aJ (s.aG (k:=1) rfl (aN _ _)))) (zn rfl (zf rfl (wX _ _) ?_))))
  refine zS rfl (by exact s.dK (k:=0) rfl lR rfl (by decide) rfl rfl) (fun h s => ?_)
  exact zk 7 rfl (WP.ret (h2 _ _ rfl rfl rfl (fW.2 ⟨_,_,s⟩)))
noncomputable def woR : Code:=cU [1,1,1,1,1,1] ((Tryz.f63.body).getD .skip)
theorem G4 (hT:WR told){kz:Nat}(hb:b=.sl kz 0 δ.log.length (.exact δ.log.length))(s:Sat h (pt q (.cells 6 (Ao p base b .aY 0 aH) false)::aZ b δ.log::aO p δ::S))(oU:δ.Ok)(xN:base+δ.log.length≤1099511627776)
 (I:δ.log=logB base rs++j)(oz:∀r∈rs,r.Ok)(hj:rP j)(hE:Has E [(0,.ptr p 0),(6,.ptr q 0)])
 (h1:∀E' h',(δ.c7 (logB base rs).length).1≠0→look E' 2=some .bq→look E' 3=some (.int .i64 (δ.c7 (logB base rs).length).1)→Sat h' (aO p (δ.c7 (logB base rs).length).2::S)→Q .ret E' h')
 (h2:∀E' h',(δ.c7 (logB base rs).length).1=0→look E' 2=some (.ptr q 0)→look E' 3=some (.int .i64 0)→Sat h' (bS q p (gZ base aH rs)::aO p (δ.c7 (logB base rs).length).2::S)→Q .ret E' h'):
  WP ⟨Tryz.prog,told⟩ 134 woR E h Q:=by
 have hW:=hT.w
 have Cn:=oU.len
 have hlen:δ.log.length=(logB base rs).length+j.length:=by rw[I,b7]
 subst hb
 have Rh:δ.log.take (logB base rs).length=logB base rs:=by rw[I,mZ rfl]
 generalize ho:δ.c7 (logB base rs).length=y at h1 h2
 unfold Dk.c7 at ho
 refine WP.has hE (zK 5 rfl (WP.block ?_))
 refine OE (pv:=.ptr p 0) hT Cn xN hj rs 0 [] [] .aY h _ _ oz (by rw[dU];exact I) rfl (by simp) ((s.ae [0,0]).kg.ae [1,1,0]) ⟨rfl,rfl,rfl,aa⟩ (fun E h sv hE s => ?_)
 rw[l8,fy] at hE
 rw[dU] at s
 refine WP.has hE (zK 6 rfl (zY s 0 e_ bJ rfl (zo rfl (aP rfl rfl rfl (p_ rfl aJ)) ?_)))
 have J:(δ.dQ (logB base rs).length)=if (logB base rs).length<δ.log.length then δ.qM (logB base rs).length else(0,δ):=rfl
 by_cases cH:(logB base rs).length<δ.log.length
 ·skip
  rw[aC cH] at J
  refine zB rfl aT (by simp;omega) ?_
  refine zk 7 rfl (zc rfl (aas (n:=(logB base rs).length) hW (s.ae [3]) oU) ?_)
  rintro v h ⟨rfl,s⟩
  rw[←J] at s
  rw[←J]
  by_cases h0:(δ.dQ (logB base rs).length).1=0
  ·skip
   rw[ak (not_not_intro h0)] at ho
   rw[h0]
   refine zk 5 rfl (zC rfl aD (rfl) ?_)
   have kx:=(iy (s.buf (k:=2) rfl).view (b:=(logB base rs).length) (by omega)).1
   rw[adh] at kx
   refine zk 7 rfl (zY s 1 e_ bJ rfl (zm rfl (zo rfl (bU (p:=none) (q:=some (.int .i64 ((logB base rs).length:Int))) (m:=none) (p':=none) (q':=some (logB base rs).length) (m':=none) rfl rfl rfl rfl rfl (by simp[iK,bndV]) rfl kx) ?_)))
   refine zn rfl (zf rfl (e_ _ _) (zS rfl (s.dK (k:=1) rfl gY rfl (by decide) rfl rfl) ?_))
   intro h s
   have s:=(s.ae [2]).iu (Rz (n:=(logB base rs).length) (by omega))
   rw[Rh] at s
   exact zv (Et (l:=logB base rs) hW (s.ae [2,0,1,0]) oU.dQ.aU ⟨rfl,rfl,aa⟩ ho.symm h1 h2)
  ·skip
   rw[aC h0] at ho
   rw[ho] at h0 s
   rw[ho]
   refine zk 5 rfl (zB rfl aD (by simpa using h0) ?_)
   exact zk 8 rfl (WP.ret (h1 _ _ h0 rfl rfl (((s.del 3).del 2).del 1)))
 ·skip
  rw[ak cH] at J
  rw[J,ak (by simp)] at ho
  refine zC rfl aT (by simp;omega) ?_
  refine zk 3 rfl ?_
  have e:δ.log=logB base rs:=by
   rw[gB (by omega)] at Rh
   exact Rh
  exact Et (l:=logB base rs) hW (by rw[e] at s;exact s) oU.aU ⟨rfl,rfl,aa⟩ ho.symm h1 h2
def RA (mark:List Nat)(base aH:Nat): Prop:=(mark=[]∧base=1∧aH=0)∨mark=le 8 base++le 8 aH
theorem Uq (hT:WR told)(s:Sat h (aO p δ::S))(oU:δ.Ok)(hd:δ.dead=false)(hm:RA δ.mark base aH)(I:base+δ.log.length≤1099511627776)(OF:aH<18446744073709551616)
 (J:δ.log=logB base rs++j)(oz:∀r∈rs,r.Ok)(hj:rP j):
  Call ⟨Tryz.prog,told⟩ 63 [.ptr p 0] h fun v h'=>((δ.c7 (logB base rs).length).1≠0∧v=.aQ [.bq,.int .i64 (δ.c7 (logB base rs).length).1]∧Sat h' (aO p (δ.c7 (logB base rs).length).2::S)) ∨
   ((δ.c7 (logB base rs).length).1=0∧∃q,v=.aQ [.ptr q 0,.int .i64 0]∧Sat h' (bS q p (gZ base aH rs)::aO p (δ.c7 (logB base rs).length).2::S)):=by
 have hW:=hT.w
 have Cn:=oU.len
 have Ms:δ.mark.length≤64:=by rcases hm with⟨hm,_⟩|hm<;>rw[hm]<;>simp[cO]
 refine Call.of_wp (hW.free _ rfl) Tryz.func63 rfl rfl (zK 8 rfl (zc rfl (DV hW s Ms) ?_))
 rintro v h (⟨Vv,_,_⟩|⟨_,b0,rfl,s⟩)
 ·rw[hd] at Vv;cases Vv
 refine zk 10 rfl (zC rfl aD (rfl) (zk 6 rfl (zo rfl (cj rfl (by rw[VG];rfl)) ?_)))
 refine au.bD s rfl rfl rfl (dB rfl rfl) (fun p23 h s => ?_)
 dsimp only[V.cells,List.take,List.length_cons,List.length_nil,Nat.reduceAdd,List.drop,List.cons_append,List.nil_append] at s
 refine zk 7 rfl ?_
 have s:=s.ae [2,0,0]
 dsimp only[bringA,getA,aE] at s
 refine zc rfl (OD hW s hd (by omega)) ?_
 rintro v h ⟨kz,rfl,s⟩
 refine zk 4 rfl (zf rfl (e_ _ _) (zS rfl (s.dK (k:=2) rfl gY rfl (by decide) rfl rfl) ?_))
 intro h s
 dsimp only[Nat.reduceAdd,List.set,setA] at s
 refine zk 5 rfl (zC rfl aD (rfl) (zk 7 rfl (zo rfl (aP rfl rfl rfl (aW aJ (s.aG (k:=3) rfl (aN _ _)))) (zv (WP.block (zg rfl ?_))))))
 rcases hm with⟨hm,rfl,rfl⟩|hm
 ·skip
  refine zB rfl dm (by rw[hm];rfl) ?_
  refine za rfl (zv (zi rfl (WP.skip ?_)))
  exact G4 hT rfl ((s.ae [2,0,0]).del 3) oU I J oz hj ⟨rfl,rfl,aa⟩ (fun E' h' h0 e1 e2 s'=>⟨aa,_,sU e1 e2,.inl ⟨h0,rfl,s'⟩⟩) (fun E' h' h0 e1 e2 s'=>⟨aa,_,sU e1 e2,.inr ⟨h0,_,rfl,s'⟩⟩)
 ·skip
  have h16:δ.mark.length=16:=by rw[hm];simp[cO]
  refine zC rfl dm (by rw[h16];rfl) ?_
  refine zk 5 rfl (zB rfl dm (by rw[h16];rfl) ?_)
  refine zk 3 rfl ?_
  have w1:δ.mark.take 8=le 8 base:=by rw[hm,mZ (by rw[cO])]
  have w2:δ.mark.drop 8=le 8 aH:=by rw[hm,wu (by rw[cO])]
  have hbv:=cX (s.buf (k:=3) rfl).view
  have s0:=s
  refine WP.drawn [some (0,3),some (0,4),af,af,af,some (0,2),some (0,2),af,af,af,af,af,af,af] rfl (by kernel_rfl) (by kernel_rfl) ?_
  refine zM rfl (zM rfl (zM rfl (zO rfl (bU (p:=none) (q:=some (.int .i64 8)) (m:=none) (p':=none) (q':=some 8) (m':=none) rfl rfl rfl rfl rfl rfl rfl (iy (s.buf (k:=3) rfl).view (b:=8) (by omega)).1) ?_)))
  refine az.any rfl rfl rfl rfl (OpR.call rfl rfl rfl rfl (mz hW s (k:=3) rfl (xS (aN _ _) (b:=8) (by omega)) (by rw[w1,cO];decide))) ?_
  rintro v h' ⟨rfl,rfl⟩
  rw[w1,sG,nX (by omega)]
  refine zM rfl (zO rfl (bU (p:=some (.int .i64 8)) (q:=none) (m:=none) (p':=some 8) (q':=none) (m':=none) rfl rfl rfl rfl rfl rfl rfl (ff (s.buf (k:=3) rfl).view (a:=8) (by omega)).1) ?_)
  refine az.any rfl rfl rfl rfl (OpR.call rfl rfl rfl rfl (mz hW s (k:=3) rfl (rH (aN _ _) (a:=8) (by omega)) (by rw[w2,cO];decide))) ?_
  rintro v h' ⟨rfl,rfl⟩
  rw[w2,sG,nX (by omega)]
  refine zN rfl (zF rfl (mq _ _) (az.gh rfl rfl rfl (OpR.fM rfl rfl rfl (s.dK (k:=2) rfl kD rfl (by decide) rfl rfl)) ?_))
  rintro v h ⟨rfl,s⟩
  have s2:=s
  refine zN rfl (zF rfl (L2 _ _) (az.gh rfl rfl rfl (OpR.fM rfl rfl rfl (s.dK (k:=2) rfl kD rfl (by decide) rfl rfl)) ?_))
  rintro v h ⟨rfl,s⟩
  have uM:=cX (ff (s0.buf (k:=3) rfl).view (a:=8) (by omega)).2.1
  refine az.nil ⟨⟨fun _ _=>.inr ⟨rfl,⟨_,bn rfl⟩,aS _ rfl⟩,fun _ _=>.inr ⟨rfl,⟨_,bn rfl⟩,aS _ rfl⟩,aa,aa,aa,fun _ _=>.inr ⟨rfl,⟨_,bn rfl⟩,hbv⟩,dZ (.inr ⟨rfl,⟨_,bU (p:=some (.int .i64 8)) (q:=none) (m:=none) (p':=some 8) (q':=none) (m':=none) rfl rfl rfl rfl rfl rfl rfl (ff (s0.buf (k:=3) rfl).view (a:=8) (by omega)).1⟩,uM⟩) (.inr ⟨rfl,⟨_,bU (p:=some (.int .i64 8)) (q:=none) (m:=none) (p':=some 8) (q':=none) (m':=none) rfl rfl rfl rfl rfl rfl rfl (ff (s0.buf (k:=3) rfl).view (a:=8) (by omega)).1⟩,uM⟩),aa,aa,aa,aa,aa,aa,aa,aa⟩,?_⟩
  exact G4 hT rfl ((s.ae [2,0,0]).del 3) oU I J oz hj ⟨rfl,rfl,aa⟩ (fun E' h' h0 e1 e2 s'=>⟨aa,_,sU e1 e2,.inl ⟨h0,rfl,s'⟩⟩) (fun E' h' h0 e1 e2 s'=>⟨aa,_,sU e1 e2,.inr ⟨h0,_,rfl,s'⟩⟩)
end
def bornE (n:Int)(c:Nat): cx→Nat
 |[]=>c
 |e::l=>if e.1=n then e.2.2 else bornE n c l
def pI (n:Int)(z:V)(c:Nat): cx→cx
 |[]=>[(n,z,c)]
 |e::l=>if e.1=n then e::l else e::pI n z c l
theorem Ur {n:Int}: ∀ {l:cx} {b:Nat},b≤c→fV c b l→b≤bornE n c l:=by
 intro l
 induction l with
 |nil=>intro b h _;exact h
 |cons e l J =>
  intro b h I
  simp only[bornE]
  by_cases he:e.1=n
  ·rw[aC he];exact I.1
  ·rw[ak he]
   have:=J (b:=e.2.2+1) I.2.1 I.2.2
   have:=I.1
   omega
theorem X5 {n:Int}: ∀ {l:cx},lookE n l=none→pI n z c l=l++[(n,z,c)]∧bornE n c l=c:=by
 intro l
 induction l<;>grind[lookE,pI,bornE]
theorem X6 {n:Int}{u:V}: ∀ {l:cx},lookE n l=some u→pI n z c l=l:=by
 intro l
 induction l<;>grind[lookE,pI]
theorem RB {n:Int}: ∀ {l:cx} {i j:Nat} {u:V},idxE n l i=some (j,u)→i≤j∧nth (l.map qQ) (j-i)=some (.int .i64 n,u,bornE n c l):=by
 intro l
 induction l<;>grind[idxE,bornE,ja,gH]
theorem X7 {n:Int}{v:V}: ∀ {l:cx} {b i:Nat},b≤c→fV c b l→∃j,findBorn ((pI n z c l).map qQ) (bornE n c l:Int) i=some (i+j)∧setNth ((pI n z c l).map qQ) j (fun e=>(e.1,v,e.2.2))=(jU n v c l).map qQ:=by
 intro l
 induction l with
 |nil =>
  intro b i h _
  refine⟨0,?_,rfl⟩<;>grind[pI,bornE,ja,findBorn,lF]
 |cons e l J =>
  intro b i h I
  by_cases he:e.1=n
  ·refine⟨0,?_,?_⟩
   ·grind[pI,bornE,ja,findBorn,lF]
   ·simp only[pI,jU,aC he,fu]
    rfl
  ·obtain⟨j,g1,g2⟩:=J (b:=e.2.2+1) (i:=i+1) I.2.1 I.2.2
   have hge:=Ur (n:=n) (b:=e.2.2+1) I.2.1 I.2.2
   refine⟨j+1,?_,?_⟩
   ·grind[pI,bornE,findBorn,ja,kW]
   grind[pI,jU,setNth,Nat.beq]
section
variable {v:V} {kt et:TypeId} {k:IntKind} {l:cx} {n:Int}
theorem RC : ∀ {S:List aI} {j:Nat} {A:aI},getA S j=some A→setA S j A=S:=by
 intro S
 induction S with
 |nil=>intro j A h;cases h
 |cons B S I =>
  intro j A h
  cases j<;>grind[getA,setA]
theorem Sat.entry (s:Sat h S)(hj:getA S j=some (nH id l c))(hu:P.underlying t=some (.map kt et))(hk:P.underlying kt=some (.int k))(hz:zeroT P et=some z):
  ∃w h',mapEntryV P h t (.map id) (.int .i64 n)=some (.aQ [w,.int .i64 (bornE n c l:Int)],h')∧Sat h' (setA S j (nH id (pI n z c l) (clkE n c l))):=by
 have hg:=s.row hj
 simp only[mapEntryV,hu,hk,hz,hg,keyBeq,d_,ah,ud]
 have I:=qd (n:=n) l 0
 cases J:idxE n l 0 with
 |none =>
  rw[J] at I
  have I:lookE n l=none:=I.symm
  refine⟨z,h.put id (some (.map ((pI n z c l).map qQ) (clkE n c l))),?_,s.put hj⟩<;>grind[ja,clkE,X5]
 |some q =>
  obtain⟨i,u⟩:=q
  rw[J] at I
  have I:lookE n l=some u:=I.symm
  have hb:=(RB (c:=c) J).2
  rw[l7] at hb
  refine⟨u,h,?_,?_⟩
  ·grind
  ·grind[X6,clkE,RC]
theorem Sat.entryStore (s:Sat h S)(I:getA S j=some (nH id (pI n z c l) (clkE n c l)))(J:fV c 0 l):
  ∃h',entryStoreV h (.map id) (.int .i64 (bornE n c l:Int)) v=some h'∧Sat h' (setA S j (nH id (jU n v c l) (clkE n c l))):=by
 have hg:=s.row I
 obtain⟨i,g1,g2⟩:=X7 (n:=n) (z:=z) (v:=v) (i:=0) (ew c) J
 refine⟨h.put id (some (.map ((jU n v c l).map qQ) (clkE n c l))),?_,s.put I⟩<;>grind[entryStoreV]
end
theorem OpR.mapEntry {a b v:V}{h₁:H}(I:o.op=.mapEntry t x y)(J:bj E x=some a)(hy:bj E y=some b)
 (ho:mapEntryV C.P h t a b=some (v,h₁)): OpR C E h o fun w h'=>w=v∧h'=h₁ :=
 ⟨v,h₁,⟨rfl,rfl⟩,fun env hE=>⟨0,by grind[evOp,bM]⟩⟩
theorem OpR.entryStore {z:Operand}{a b v:V}{S':List aI}(I:o.op=.entryStore t x y z)(hx:bj E x=some a)(hy:bj E y=some b)(hz:bj E z=some v)
 (ho:∃h₁,entryStoreV h a b v=some h₁∧Sat h₁ S'): OpR C E h o fun _ h₁=>Sat h₁ S':=by
 obtain⟨h₁,e1,J⟩:=ho
 exact⟨cq,h₁,J,fun env hE=>⟨0,by grind[evOp,bM,sZ]⟩⟩
abbrev J3 := List (Int×List Nat)
def bufsA : cx→J3→aI
 |[],[]=>.pu True
 |e::l,x::m=>star [.pu (e.1=x.1),aZ e.2.1 x.2,bufsA l m]
 |_,_=>.pu False
def qN (n:Int): cx→J3→aI
 |[],[]=>.pu True
 |e::l,x::m=>if e.1=n then star [.pu (e.1=x.1),bufsA l m] else star [.pu (e.1=x.1),aZ e.2.1 x.2,qN n l m]
 |_,_=>.pu False
section
variable {n:Int} {u:V} {x:List Nat}
theorem RD : ∀ {l:cx} {m:J3} {S:List aI},lookE n l=none→Sat h (bufsA l m::S)→lookL n m=none∧Sat h (qN n l m::S):=by
 intro l
 induction l with
 |nil=>intro m S _ s;cases m with
  |nil=>exact⟨rfl,s⟩
  |cons x m=>exact(ej.1 s).1.elim
 |cons e l J=>intro m S I s;cases m with
  |nil=>exact(ej.1 s).1.elim
  |cons x m =>
   obtain⟨hk,s⟩:=ej.1 (aM.1 s)
   simp only[lookE] at I
   by_cases he:e.1=n
   ·grind
   ·rw[ak he] at I
    obtain⟨g1,g2⟩:=J (S:=aZ e.2.1 x.2::S) I (s.ae [1])
    refine⟨?_,?_⟩
    ·grind[lookL]
    ·simp only[qN,ak he]
     exact aM.2 (ej.2 ⟨hk,g2.ae [1]⟩)
theorem RE : ∀ {l:cx} {m:J3} {S:List aI},lookE n l=some u→Sat h (bufsA l m::S)→∃x,lookL n m=some x∧Sat h (aZ u x::qN n l m::S):=by
 intro l
 induction l with
 |nil=>intro m S I s;cases I
 |cons e l ih=>intro m S I s;cases m with
  |nil=>exact(ej.1 s).1.elim
  |cons x m =>
   obtain⟨J,s⟩:=ej.1 (aM.1 s)
   simp only[lookE] at I
   by_cases he:e.1=n
   ·rw[aC he] at I
    injection I with I
    subst I
    refine⟨x.2,by grind[lookL],?_⟩
    simp only[qN,aC he]
    have s2:Sat h (star [.pu (e.1=x.1),bufsA l m]::aZ e.2.1 x.2::S):=aM.2 (ej.2 ⟨J,s.ae [1]⟩)
    exact s2.ae [1]
   ·rw[ak he] at I
    obtain⟨y,g1,g2⟩:=ih (S:=aZ e.2.1 x.2::S) I (s.ae [1])
    refine⟨y,by grind[lookL],?_⟩
    simp only[qN,ak he]
    have s2:Sat h (star [.pu (e.1=x.1),aZ e.2.1 x.2,qN n l m]::aZ u y::S):=aM.2 (ej.2 ⟨J,g2.ae [2,1]⟩)
    exact s2.ae [1]
theorem Us : ∀ {l:cx} {m:J3} {S:List aI},Sat h (aZ u x::qN n l m::S)→Sat h (bufsA (jU n u c l) (b8 n x m)::S):=by
 intro l
 induction l with
 |nil=>intro m S s;cases m with
  |nil=>exact aM.2 (ej.2 ⟨rfl,s⟩)
  |cons y m=>exact(ej.1 s.drop).1.elim
 |cons e l J=>intro m S s;cases m with
  |nil=>exact(ej.1 s.drop).1.elim
  |cons y m =>
   by_cases he:e.1=n
   ·simp only[qN,aC he] at s
    obtain⟨I,s⟩:=ej.1 (aM.1 (s.ae [1]))
    simp only[jU,b8,←I,aC he]
    exact aM.2 (ej.2 ⟨he,(s.ae [1,0])⟩)
   ·simp only[qN,ak he] at s
    obtain⟨I,s⟩:=ej.1 (aM.1 (s.ae [1]))
    simp only[jU,b8,←I,ak he]
    have s2:=J (S:=aZ e.2.1 y.2::S) (s.ae [2,1])
    exact aM.2 (ej.2 ⟨I,s2.ae [1]⟩)
theorem Lp : ∀ {l:cx} {m:J3} {S:List aI},Sat h (bufsA l m::S)→Sat h (fC (fun v b=>.cD v b) l m::S):=by
 intro l
 induction l with
 |nil=>intro m S s;cases m with
  |nil=>exact s
  |cons x m=>exact(ej.1 s).1.elim
 |cons e l I=>intro m S s;cases m with
  |nil=>exact(ej.1 s).1.elim
  |cons x m =>
   obtain⟨J,s⟩:=ej.1 (aM.1 s)
   have s2:=I (S:=Cc e.2.1 x.2::S) (s.gu.ae [1])
   have s3:=(s2.ae [1]).two (C:=fC (fun v b=>.cD v b) (e::l) (x::m)) (bg.cD _ _) (bg.IJ (fun _ _=>bg.cD _ _) _ _) fun a b h1 h2=>⟨⟨J,h1⟩,h2⟩
   exact s3
end
structure iH where
 aq:J3
 oH:List (Int×Nat)
variable {ρ:iH}
def chgF (n:Nat)(c:bZ)(ρ:iH): iH :=
 if c.whole=true then { aq:=b8 c.aK c.b ρ.aq,oH:=b8 c.aK n ρ.oH } else
 match lookL c.aK ρ.aq with
 |none=>ρ
 |some b=>{ aq:=b8 c.aK (a_ b c.pos.toNat c.b) ρ.aq,oH:=b8 c.aK n ρ.oH }
abbrev C1 (v:V)(n:Nat): aI:=.pu (v=.int .u64 (n:Int))
def yy (x:Nat)(ρ:iH): aI:=xs fun i:Nat=>xs fun l:cx=>xs fun k:Nat=>xs fun j:Nat=>xs fun m:cx=>xs fun g:Nat =>
 star [.pu (fV k 0 l∧(ρ.aq.map (·.1)).Nodup∧fV g 0 m∧(ρ.oH.map (·.1)).Nodup),pt x (.cells 2 [.map i,.map j] false),nH i l k,bufsA l ρ.aq,nH j m g,fC C1 m ρ.oH]
theorem Cv (l:List Nat): a_ l 0 l=l:=by simp[a_]
section
variable {told:cJ} {u v:V} {x:Nat} {c:bZ}
theorem u5 : Sat h (yy x ρ::S)↔∃i l k j m g,(fV k 0 l∧(ρ.aq.map (·.1)).Nodup∧fV g 0 m∧(ρ.oH.map (·.1)).Nodup) ∧
  Sat h (pt x (.cells 2 [.map i,.map j] false)::nH i l k::bufsA l ρ.aq::nH j m g::fC C1 m ρ.oH::S):=by
 simp only[yy,gK,aM,iS,dU,ej]
noncomputable def chR : Code:=cU [1,1,1] ((Tryz.f130.body).getD .skip)
theorem yz (hT:W told){g:Nat}{l m:cx}(hb:b.length=512)(hc:c.Ok)(J:fV k 0 l)(h2:(ρ.aq.map (·.1)).Nodup)(h3:fV g 0 m)(h4:(ρ.oH.map (·.1)).Nodup)
 (s:Sat h (aZ v b::.cD u c.b::pt x (.cells 2 [.map i,.map j] false)::nH i l k::qN c.aK l ρ.aq::nH j m g::fC C1 m ρ.oH::pt p5 (.cells 4 [.int .i64 c.aK,.int .i64 c.pos,.bool c.whole,u] false)::S))(hE:Has E [(0,.ptr x 0),(1,.int .u64 (n:Int)),(5,.ptr p5 0),(6,v)])
 (hq:∀E' h',Sat h' (yy x { aq:=b8 c.aK (a_ b c.pos.toNat c.b) ρ.aq,oH:=b8 c.aK n ρ.oH }::.cD u c.b::S)→Q .normal E' h'): WP ⟨Tryz.prog,told⟩ 52 chR E h Q:=by
 obtain⟨c1,c2,c3,c4,c5,c6⟩:=hc
 obtain⟨a,ha⟩:∃a:Nat,c.pos=a:=⟨c.pos.toNat,by omega⟩
 refine WP.has hE (zw ?_)
 have s0:=s
 have I:=cX (s.buf (k:=0) rfl).view
 have yT:=cX (s.aG (k:=1) rfl (dy _ _))
 rw[ha] at s
 have sl:=(ff (s.buf (k:=0) rfl).view (a:=a) (by omega)).1
 refine WP.drawn [af,af,af,af,af,af,af] rfl (by kernel_rfl) (by kernel_rfl) ?_
 refine zM rfl (zF rfl (pZ _ _) (zL rfl (s.ld (k:=7) rfl dJ rfl) (zO rfl (bU (p:=some (.int .i64 (a:Int))) (q:=none) (m:=none) (p':=some a) (q':=none) (m':=none) rfl rfl rfl rfl (by simp[iK,bndV]) rfl rfl sl) ?_)))
 refine zF rfl (mw _ _) (zL rfl (s.ld (k:=7) rfl bJ rfl) (az.any rfl rfl rfl rfl (OpR.Ry rfl s (dy _ _) (by omega) (by omega) rfl rfl rfl rfl rfl) ?_))
 intro r h s
 refine az.nil ⟨⟨aa,aa,aa,aa,aa,aa,aa,aa⟩,?_⟩
 have s0:=s
 refine WP.drawn [af,af,af,af,af,af,af,af,af,af,some (0,3),some (0,3),some (0,2),some (0,4),af,af,af,af,af,af] rfl (by kernel_rfl) (by kernel_rfl) ?_
 refine zM rfl (zN rfl (zF rfl (pY _ _) (zL rfl (s.ld (k:=2) rfl jD rfl) (zF rfl (oh _ _) (zL rfl (s.ld (k:=7) rfl dJ rfl) (zM rfl (zN rfl (zF rfl (L6 _ _) (zL rfl (s.ld (k:=2) rfl VQ rfl) (zF rfl (oh _ _) (zL rfl (s.ld (k:=7) rfl dJ rfl) (zM rfl (zM rfl ?_)))))))))))))
 obtain⟨w1,hh1,e1,s1⟩:=s.entry (j:=3) (n:=c.aK) rfl kX br o8
 refine az.any rfl rfl rfl rfl (OpR.mapEntry rfl rfl rfl e1) ?_
 rintro r1 oQ ⟨rfl,rfl⟩
 refine zO rfl (bY rfl rfl) (az.gh rfl rfl rfl (OpR.entryStore rfl rfl rfl rfl (s1.entryStore (j:=3) (v:=v) rfl J)) ?_)
 intro r2 V3 s2
 obtain⟨w3,hh3,e3,s3⟩:=s2.entry (j:=5) (n:=c.aK) rfl Tryz.underlying232 br Ab
 refine az.any rfl rfl rfl rfl (OpR.mapEntry rfl rfl rfl e3) ?_
 rintro r3 hr3 ⟨rfl,rfl⟩
 refine zO rfl (bY rfl rfl) (az.gh rfl rfl rfl (OpR.entryStore rfl rfl rfl rfl (s3.entryStore (j:=5) (v:=.int .u64 (n:Int)) rfl h3)) ?_)
 intro r4 hh4 s
 refine az.nil ⟨⟨aa,aa,aa,aa,aa,aa,aa,aa,aa,aa,fun _ _=>.inr ⟨rfl,⟨_,jH rfl (oh _ _)⟩,aS _ rfl⟩,sA (.inr ⟨rfl,⟨_,o_load rfl (s0.ld (k:=7) rfl dJ rfl)⟩,aS _ rfl⟩) (.inr ⟨rfl,⟨_,o_load rfl (s1.ld (k:=7) rfl dJ rfl)⟩,aS _ rfl⟩) (.inr ⟨rfl,⟨_,o_load rfl (s2.ld (k:=7) rfl dJ rfl)⟩,aS _ rfl⟩),fun _ _=>.inr ⟨rfl,⟨_,bn rfl⟩,I⟩,fun _ _=>.inr ⟨rfl,⟨_,bn rfl⟩,aS _ rfl⟩,aa,aa,aa,aa,aa,aa,aa⟩,?_⟩
 have s:=Us (c:=k) (s.ae [0,3])
 have s:=(s.ae [5]).iu (B:=fC C1 (jU c.aK (.int .u64 (n:Int)) g m) (b8 c.aK n ρ.oH)) fun a b h=>GD (f:=C1) (x:=n) (show V.int .u64 (n:Int)=_ from rfl) h
 refine hq _ _ ?_
 have e:c.pos.toNat=a:=by omega
 rw[e]
 have s:=s.del 6
 exact(u5.2 ⟨i,_,_,j,_,_,⟨Af rfl (ew _) J,iN h2,Af rfl (ew _) h3,iN h4⟩,s.ae [3,3,1,2,0]⟩)
theorem RF (J:W told)(hρ:∀e∈ρ.aq,e.2.length=512)(hc:c.Ok)(s:Sat h (yy x ρ::.cD u c.b::S)):
  Call ⟨Tryz.prog,told⟩ 130 [.ptr x 0,.int .u64 (n:Int),.agg [.int .i64 c.aK,.int .i64 c.pos,.bool c.whole,u]] h fun v h'=>v=.aQ []∧Sat h' (yy x (chgF n c ρ)::.cD u c.b::S):=by
 obtain⟨i,l,k,j,m,g,⟨h1,h2,h3,h4⟩,s⟩:=u5.1 s
 have hu:=(s.aG (k:=5) rfl (dy _ _)).cells
 have yT:=cX (s.aG (k:=5) rfl (dy _ _))
 refine Call.of_wp (J.free _ rfl) Tryz.func130 rfl rfl (zg rfl (au.bD s rfl rfl rfl (dB rfl (by simp only[V.cells,iU,jd,hu.2];rfl)) ?_))
 intro p5 h s
 dsimp only[V.cells] at s
 dsimp only[List.length_cons,List.length_nil,Nat.reduceAdd] at s
 refine zk 2 rfl ?_
 have e2:=s.VX (n:=c.aK) (j:=2) rfl kX br o8
 have I:c.whole=true→c.pos=0∧c.b.length=512:=hc.2.2.2.2.2
 have jO:c.b.length≤512:=by have:=hc.2.2.1;have:=hc.2.2.2.2.1;omega
 have s0:=s
 rcases hle:lookE c.aK l with _|u0
 ·skip
  rw[hle] at e2
  obtain⟨Rs,s⟩:=RD hle (s.ae [3])
  have hX:=s
  have s:=s0
  refine WP.drawn [af,af,af,af,af,af,af,af,af,af,af,af] rfl (by kernel_rfl) (by kernel_rfl) ?_
  refine zM rfl (zN rfl (zF rfl (pY _ _) (zL rfl (s.ld (k:=1) rfl jD rfl) (zF rfl (oh _ _) (zL rfl (s.ld (k:=0) rfl dJ rfl) (zO rfl (fQ rfl rfl e2) (zM rfl (zO rfl (bY rfl rfl) (zO rfl (bY rfl rfl) (zA rfl (zA rfl ?_)))))))))))
  refine az.nil ⟨⟨aa,aa,aa,aa,aa,aa,aa,aa,aa,aa,aa,aa,aa⟩,?_⟩
  refine zw (WP.block (zg rfl (zf rfl (uc _ _) ?_)))
  by_cases hw:c.whole=true
  ·skip
   refine zt rfl (o_load rfl (s.ld (k:=0) rfl kV rfl)) (hw) (zk 4 rfl (zY s 0 mw bJ rfl (zc rfl (kZ J (hX.ae [6]) (dy _ _) (by omega)) ?_)))
   intro v h s
   dsimp only[aE,bringA] at s
   refine za rfl (zv ?_)
   refine yz (n:=n) J (I hw).2 hc h1 h2 h3 h4 (s.ae [0,0,2,2,0,1,1,0]) ⟨rfl,rfl,rfl,rfl,aa⟩ (fun E' h' s' => ?_)
   have e:a_ c.b c.pos.toNat c.b=c.b:=by rw[(I hw).1];exact Cv _
   rw[e] at s'
   refine⟨aa,_,rfl,rfl,?_⟩
   rw[chgF,aC hw]
   exact s'
  ·skip
   refine zh rfl (o_load rfl (s.ld (k:=0) rfl kV rfl)) (by simpa using hw) ?_
   refine zk 6 rfl (zo rfl (eU rfl rfl) (zk 3 rfl (WP.ret ⟨aa,_,rfl,?_⟩)))
   have e:chgF n c ρ=ρ:=by rw[chgF,ak hw,Rs]
   rw[e]
   exact⟨rfl,(u5.2 ⟨i,l,k,j,m,g,⟨h1,h2,h3,h4⟩,s.drop⟩)⟩
 ·skip
  rw[hle] at e2
  obtain⟨y,Rs,s⟩:=RE hle (s.ae [3])
  have hX:=s
  have s:=s0
  have aeK:=cX (hX.buf (k:=0) rfl).view
  have hy:y.length=512:=hρ _ (hG Rs)
  refine WP.drawn [af,af,af,af,af,af,af,af,af,af,af,af] rfl (by kernel_rfl) (by kernel_rfl) ?_
  refine zM rfl (zN rfl (zF rfl (pY _ _) (zL rfl (s.ld (k:=1) rfl jD rfl) (zF rfl (oh _ _) (zL rfl (s.ld (k:=0) rfl dJ rfl) (zO rfl (fQ rfl rfl e2) (zM rfl (zO rfl (bY rfl rfl) (zO rfl (bY rfl rfl) (zA rfl (zA rfl ?_)))))))))))
  refine az.nil ⟨⟨aa,aa,aa,aa,aa,aa,aa,aa,aa,aa,aa,aa,aa⟩,?_⟩
  refine zw (WP.block (zg rfl (zf rfl (uc _ _) ?_)))
  by_cases hw:c.whole=true
  ·skip
   refine zt rfl (o_load rfl (s.ld (k:=0) rfl kV rfl)) (hw) (zk 4 rfl (zY s 0 mw bJ rfl (zc rfl (kZ J ((hX.drop).ae [6]) (dy _ _) (by omega)) ?_)))
   intro v h s
   dsimp only[aE,bringA] at s
   refine za rfl (zv ?_)
   refine yz (n:=n) J (I hw).2 hc h1 h2 h3 h4 (s.ae [0,0,2,2,0,1,1,0]) ⟨rfl,rfl,rfl,rfl,aa⟩ (fun E' h' s' => ?_)
   have e:a_ c.b c.pos.toNat c.b=c.b:=by rw[(I hw).1];exact Cv _
   rw[e] at s'
   refine⟨aa,_,rfl,rfl,?_⟩
   rw[chgF,aC hw]
   exact s'
  ·skip
   refine zh rfl (o_load rfl (s.ld (k:=0) rfl kV rfl)) (by simpa using hw) ?_
   refine za rfl (zv (zj rfl (zg rfl (zm rfl (zo rfl (eU rfl rfl) (za rfl (zv (zj rfl (WP.skip ?_)))))))))
   refine yz (n:=n) J hy hc h1 h2 h3 h4 (hX.ae [0,6,2,2,0,1,1,0]) ⟨rfl,rfl,rfl,rfl,aa⟩ (fun E' h' s' => ?_)
   refine⟨aa,_,rfl,rfl,?_⟩
   rw[chgF,ak hw,Rs]
   exact s'
end
def szB : List bV→Nat
 |[]=>0
 |r::l=>r.len+szB l
theorem fZ : ∀ {rs:List bV} {n:Nat},(logB n rs).length=szB rs:=by
 intro rs
 induction rs with
 |nil=>intro n;rfl
 |cons r rs I=>intro n;simp only[logB,szB,b7,sI,I];rfl
theorem iI {x y:List bV}: szB (x++y)=szB x+szB y:=by
 induction x with
 |nil=>simp[szB]
 |cons r x I=>simp only[iS,szB,I];omega
theorem u6 {y:List bV}: ∀ {x:List bV} {n:Nat},logB n (x++y)=logB n x++logB (n+szB x) y:=by
 intro x
 induction x with
 |nil=>intro n;simp[logB,szB]
 |cons r x I=>intro n;simp only[iS,logB,szB,I,cT,j6]
theorem J4 {y:List bV}: ∀ {x:List bV} {a:Nat},lN a (x++y)=lN a x++lN (a+szB x) y:=by
 intro x
 induction x with
 |nil=>intro a;simp[lN,szB]
 |cons r x I=>intro a;simp only[iS,lN,szB,I,j6]
theorem G5 : ∀ {rs:List bV} {a:Nat},(lN a rs).Pairwise (· < ·)∧∀s∈lN a rs,a≤s∧s<a+szB rs:=by
 intro rs
 induction rs with
 |nil=>intro a;exact⟨List.Pairwise.nil,by simp[lN]⟩
 |cons r rs J =>
  intro a
  obtain⟨h1,I⟩:=J (a:=a+r.len)
  have h8:8≤r.len:=by rw[bV.len];omega
  simp only[lN,szB,tI,jz]
  refine⟨⟨fun s hs=>by have:=I s hs;omega,h1⟩,?_⟩
  rintro s (rfl|hs)
  ·omega
  ·have:=I s hs;omega
theorem Ut : ∀ {rs:List bV} {a:Nat},(lN a rs).length=rs.length:=by
 intro rs
 induction rs with
 |nil=>intro a;rfl
 |cons r rs I=>intro a;simp only[lN,bz,I]
theorem abR : ∀ {rs:List bV},rs.length*8≤szB rs:=by
 intro rs
 induction rs with
 |nil=>simp
 |cons r rs I=>have:8≤r.len:=(by rw[bV.len];omega);simp only[szB,bz];omega
theorem MU {base:Nat}(I:base+szB rs≤1099511627776)(J:szB rs≤16777216)(h3:aH≤1099511627776): (gZ base aH rs).Ok:=by
 have h4:=abR (rs:=rs)
 refine⟨?_,?_,?_,(G5 (a:=0)).1,?_,?_,h3⟩
 ·show base+(logB base rs).length≤_;rw[fZ];exact I
 ·show(lN 0 rs).length≤_;rw[Ut];omega
 ·intro s hs
  have:=(G5 (a:=0) (rs:=rs)).2 s hs
  show s<(logB base rs).length
  rw[fZ];omega
 ·exact aV _
 ·show(logB base rs).length≤_;rw[fZ];exact J
theorem J5 {base:Nat}{r:bV}: (gZ base aH (cy++r::ey)).hasB (base+szB cy)=true:=by
 rw[Lg.hasB,List.any_eq_true]
 refine⟨szB cy,?_,by simp[gZ]⟩
 show szB cy∈lN 0 (cy++r::ey)
 rw[J4,fy]
 exact List.mem_append.2 (.inr bX)
def Eu (n:Nat)(aR:List bZ)(ρ:iH): iH:=aR.foldl (fun ρ c=>chgF n c ρ) ρ
def redoL : Nat→List bV→iH→iH
 |_,[],ρ=>ρ
 |n,r::l,ρ=>redoL (n+r.len) l (Eu n r.aR ρ)
theorem G6 {n:Int}{a:α}: ∀ {l:List (Int×α)} {e:Int×α},e∈b8 n a l→e=(n,a)∨e∈l:=Ef
structure iH.Ok (ρ:iH): Prop where
 len:∀e∈ρ.aq,e.2.length=512
 low:∀k∈ρ.aq.map (·.1),(0:Int)≤k∧k<65536
 dup:(ρ.aq.map (·.1)).Nodup
theorem MV {c:bZ}(h:ρ.Ok)(I:c.Ok): (chgF n c ρ).Ok:=by
 have hcw:c.whole=true→c.pos=0∧c.b.length=512:=I.2.2.2.2.2
 have key:∀b:List Nat,b.length=512→∀L,(iH.mk (b8 c.aK b ρ.aq) L).Ok:=fun b hb L=>by
  refine⟨fun e he => ?_,fun k hk => ?_,iN h.dup⟩
  ·rcases G6 he with rfl|he
   ·exact hb
   ·exact h.len e he
  ·rcases pn.1 hk with rfl|hk
   ·exact⟨I.1,I.2.1⟩
   ·exact h.low k hk
 unfold chgF
 split
 ·rename_i hw
  exact key _ (hcw hw).2 _
 ·split
  ·exact h
  ·rename_i b hb
   have J:=h.len _ (hG hb)
   simp only at J
   have:=I.2.2.1
   have:=I.2.2.2.2.1
   refine key _ ?_ _
   rw[cI (by omega),J]
theorem J6 : ∀ {aR:List bZ} {ρ:iH},ρ.Ok→(∀c∈aR,c.Ok)→(Eu n aR ρ).Ok:=by
 intro aR
 induction aR with
 |nil=>intro ρ h _;exact h
 |cons c aR J=>intro ρ h I;exact J (MV h (I c bX)) (fun x hx=>I x (bW _ hx))
theorem bV.Ok.aR {r:bV}(h:r.Ok): ∀c∈r.aR,c.Ok:=by
 have:=h.good
 simp only[dV,bH,tK,ie] at this
 exact this.2
theorem C2 : ∀ {rs:List bV} {n:Nat} {ρ:iH},ρ.Ok→(∀r∈rs,r.Ok)→(redoL n rs ρ).Ok:=by
 intro rs
 induction rs with
 |nil=>intro n ρ h _;exact h
 |cons r rs J=>intro n ρ h I;exact J (J6 h (I r bX).aR) (fun x hx=>I x (bW _ hx))
def ov (ρ:iH)(k:Int): Nat:=(lookL k ρ.oH).getD 0
def againW (ρ:iH): List Int→Dk→Int×Dk
 |[],δ=>(0,δ)
 |k::l,δ =>
  match lookL k ρ.aq with
  |some b=>if cf b=true∧k<δ.aq.length then(if (δ.bL k (cz b (ov ρ k))).1≠0 then δ.bL k (cz b (ov ρ k)) else againW ρ l (δ.bL k (cz b (ov ρ k))).2) else againW ρ l δ
  |none=>againW ρ l δ
def mC (ρ:iH)(δ:Dk): Int×Dk :=
 if (againW ρ (bP ρ.aq) δ).1≠0 then againW ρ (bP ρ.aq) δ else if ρ.aq=[] then(0,(againW ρ (bP ρ.aq) δ).2) else(againW ρ (bP ρ.aq) δ).2.iR
section
variable {told:cJ} {ch fv v op:V} {p x base:Nat}
noncomputable def agI : Code:=cU [1,1,1,0,1,0,0,0,1,1,0,1,0,0] ((Tryz.f69.body).getD .skip)
theorem RG (hT:W told){aR:List bZ}(ox:∀c∈aR,c.Ok){nv:V}: ∀(j i:Nat) (ρ:iH) (h:H) (E:List (Nat×V)) (Q:Ex→List (Nat×V)→H→Prop),i+j=aR.length→aR.length<4294967296→ρ.Ok →
  Sat h (yy x ρ::.arr 4 ch cs::c9 cs aR::S) →
  Has E [(0,av),(5,.ptr x 0),(6,.fn (.func 130) [.ptr x 0] []),(7,.int .u64 (n:Int)),(9,nv),(38,ch),(39,.int .i64 aR.length),(40,.int .i64 i)] →
  (∀E' h',Has E' [(0,av),(5,.ptr x 0),(6,.fn (.func 130) [.ptr x 0] []),(9,nv)]→Sat h' (yy x (Eu n (aR.drop i) ρ)::.arr 4 ch cs::c9 cs aR::S)→Q (.exit 2) E' h') →
  WP ⟨Tryz.prog,told⟩ 110 (.loop agI) E h Q:=by
 intro j
 induction j with
 |zero =>
  intro i ρ h E Q hi hl I s hE hq
  refine WP.loop (WP.has hE (zg rfl (zC rfl aT (by simp;omega) ?_)))
  exact zk 3 rfl (WP.exit (hq _ _ ⟨rfl,rfl,rfl,rfl,aa⟩ (by rw[v7 (by omega)];exact s)))
 |succ j ih =>
  intro i ρ h E Q hi hl I s hE hq
  have hc:aR[i]?=some (aR[i]'(by omega)):=bw _
  generalize (aR[i]'(by omega))=c at hc
  have GK:=ox c (bK hc)
  have J:aR.drop i=c::aR.drop (i+1):=by
   obtain⟨h1,rfl⟩:=List.getElem?_eq_some_iff.1 hc
   exact pJ h1
  obtain⟨id,off,u,e1,e2,u1,u2,u3,s⟩:=DX (s.ae [1,1]) hc
  dsimp only[aE,bringA] at s
  refine WP.loop (WP.has hE (zg rfl (zB rfl aT (by simp;omega) ?_)))
  refine zk 5 rfl (WP.block (zg rfl (zo rfl (c8 (r:=.ptr id off) rfl rfl e1) (zl rfl e2 ?_))))
  refine au.bD s rfl rfl rfl (bI nj) (fun ZU h s => ?_)
  dsimp only[V.cells,List.length_cons,List.length_nil,Nat.reduceAdd] at s
  refine zS rfl (s.eS (j:=0) rfl og rfl (by simp only[iU,jd,u2];rfl)) ?_
  rintro h s
  dsimp only[setA] at s
  refine zk 4 rfl (zl rfl (s.cV (k:=0) rfl HQ og) (zc rfl (RF (n:=n) hT I.len GK (s.ae [4,1])) ?_))
  rintro v h ⟨rfl,s⟩
  dsimp only[aE,bringA] at s
  refine zv (zr rfl (zb rfl (by exact bf (aA (by omega) (by omega))) ?_))
  refine zm rfl (zv ?_)
  have s:=(s.ae [0,2,2]).del 3
  have s:=s.del 3
  refine ih (i+1) (chgF n c ρ) _ _ Q (by omega) hl (MV I GK) s ⟨rfl,rfl,rfl,rfl,rfl,rfl,rfl,rfl,aa⟩ (fun E' h' fE s'=>hq E' h' fE ?_)
  rw[J]
  exact s'
theorem J7 (hT:WR told){r:bV}(J:(gZ base aH (cy++r::ey)).Ok)(I:r.Ok)(s:Sat h (bS q p (gZ base aH (cy++r::ey))::S)):
  Call ⟨Tryz.prog,told⟩ 66 [.ptr q 0,.int .u64 ((base+szB cy:Nat):Int)] h fun v h'=>∃dt ch cs,v=.aQ [.agg (dx r.kd r.tx r.pv r.nx dt ch),.int .u64 ((base+szB cy+r.len:Nat):Int),.int .i64 0] ∧
   Sat h' (bS q p (gZ base aH (cy++r::ey))::aZ dt r.data::.arr 4 ch cs::c9 cs r.aR::S):=by
 refine(G0 (n:=base+szB cy) (a:=szB cy) (pre:=logB base cy) (rest:=logB (base+szB cy+r.len) ey) hT I.good I.kd I.rd rfl I.len fZ ?_ rfl J5 J s).mono fun v h' hx => ?_
 ·show logB base (cy++r::ey)=_
  rw[u6,logB]
  rfl
 ·have e:base+szB cy+r.len=base+szB cy+8+(c_ r.kd r.tx r.pv r.nx r.data r.aR).length:=by rw[bV.len,bV.bd];omega
  rw[e]
  exact hx
noncomputable def agO : Code:=cU [1,1,1,0,1,0,0] ((Tryz.f69.body).getD .skip)
theorem OG (hT:WR told)(oz:∀r∈rs,r.Ok)(I:(gZ base aH rs).Ok): ∀(ey cy:List bV) (ρ:iH) (h:H) (E:List (Nat×V)) (Q:Ex→List (Nat×V)→H→Prop),rs=cy++ey→ρ.Ok →
  Sat h (yy x ρ::pt a (.cells 6 (sE a p q r op dv wv) false)::bS q p (gZ base aH rs)::S) →
  Has E [(0,.ptr a 0),(5,.ptr x 0),(6,.fn (.func 130) [.ptr x 0] []),(7,.int .u64 ((base+szB cy:Nat):Int))] →
  (∀E' h',Has E' [(0,.ptr a 0),(5,.ptr x 0)]→Sat h' (yy x (redoL (base+szB cy) ey ρ)::pt a (.cells 6 (sE a p q r op dv wv) false)::bS q p (gZ base aH rs)::S)→Q (.exit 0) E' h') →
  WP ⟨Tryz.prog,told⟩ 110 (.loop agO) E h Q:=by
 have hW:=hT.w
 intro ey
 induction ey with
 |nil =>
  intro cy ρ h E Q he J s hE hq
  refine WP.loop (WP.has hE ?_)
  have s:=s.ae [1,1,0]
  dsimp only[sE,bringA,getA,aE] at s
  have eL:=I.size
  have hn:base+szB cy=(gZ base aH rs).base+(gZ base aH rs).b.length:=by
   show _=base+(logB base rs).length
   rw[fZ,he,eZ]
  refine WP.block (zK 4 rfl (zY s 0 m8 qw rfl (zm rfl (zc rfl (Eb (n:=base+szB cy) hW (s.ae [1]) I (by omega) (.inl hn)) ?_))))
  rintro v h ⟨e,yM,rfl,s⟩
  refine zk 4 rfl ?_
  refine au.bD s rfl rfl rfl (bI jC) (fun p8 h s => ?_)
  dsimp only[V.cells,List.length_cons,List.length_nil,Nat.reduceAdd,aE,bringA] at s
  refine zS rfl (s.eS (j:=0) rfl dD rfl rfl) (fun h s => ?_)
  dsimp only[setA] at s
  refine zk 7 rfl (zB rfl aD (by simp;exact yM) ?_)
  exact zk 2 rfl (WP.exit (hq _ _ ⟨rfl,rfl,aa⟩ ((s.drop).ae [2,1,0])))
 |cons y ey ih =>
  intro cy ρ h E Q he J s hE hq
  subst he
  have hy:=oz y (by simp)
  refine WP.loop (WP.has hE ?_)
  have s:=s.ae [1,1,0]
  dsimp only[sE,bringA,getA,aE] at s
  refine WP.block (zK 4 rfl (zY s 0 m8 qw rfl (zm rfl (zc rfl (J7 (cy:=cy) (ey:=ey) (r:=y) hT I hy (s.ae [1])) ?_))))
  rintro v h ⟨dt,ch,cs,rfl,s⟩
  dsimp only[aE,bringA] at s
  have iP:=(s.buf (k:=1) rfl).view.cells
  have jx:=s.iz (j:=2) rfl
  have fo:[V.int .i64 (y.kd:Int),V.int .u64 (y.tx:Int),V.int .u64 (y.pv:Int),V.int .u64 (y.nx:Int),dt,ch].all storable=true:=jc iP.2 jx.2.1
  refine zk 4 rfl ?_
  refine au.bD s rfl rfl rfl (bI jC) (fun p8 h s => ?_)
  dsimp only[V.cells,List.length_cons,List.length_nil,Nat.reduceAdd] at s
  refine zS rfl (s.eS (j:=0) rfl dD rfl fo) ?_
  rintro h s
  dsimp only[setA] at s
  refine zk 7 rfl (zC rfl aD (rfl) (zk 6 rfl (zY s 0 ji o5 rfl (zo rfl (aP rfl rfl rfl (s.xg (j1:=3) (j2:=4) rfl rfl iF)) (zk 2 rfl (WP.block ?_))))))
  have s:=s.ae [6,3,3,3,1]
  dsimp only[bringA,getA,aE] at s
  refine RG (n:=base+szB cy) hW hy.aR y.aR.length 0 ρ h _ _ (by omega) (by have:=hy.rd.many;omega) J s ⟨rfl,rfl,rfl,rfl,rfl,rfl,rfl,rfl,aa⟩ (fun E h hE s => ?_)
  rw[gS] at s
  refine WP.has hE (zr rfl (zk 2 rfl (zv ?_)))
  have s:=(((s.del 6).del 5).ae [0,2,2]).del 3
  have s:=s.del 3
  refine ih (cy++[y]) (Eu (base+szB cy) y.aR ρ) _ _ Q (by simp) (J6 J hy.aR) s ⟨rfl,rfl,rfl,?_,aa⟩ (fun E' h' fE s'=>hq E' h' fE ?_)
  ·rw[iI]
   show some (V.int .u64 ((base+szB cy+y.len:Nat):Int))=_
   rw[show base+(szB cy+szB [y])=base+szB cy+y.len by simp only[szB];omega]
  ·rw[redoL,show base+szB cy+y.len=base+szB (cy++[y]) by rw[iI];simp only[szB];omega]
   exact s'
structure oI (δ:Dk)(m:Nat): Prop where
 ok:δ.Ok
 wait:δ.waiting.length+m≤268435456
 now:∀e∈δ.now,0≤e.1∧e.1<δ.aq.length
theorem oI.less {m:Nat}(h:oI δ (m+1)): oI δ m:=⟨h.ok,by have:=h.wait;omega,h.now⟩
theorem oI.write {m:Nat}{k:Int}(h:oI δ (m+1))(h0:0≤k)(h1:k<δ.aq.length): oI (δ.bL k b).2 m∧(δ.bL k b).2.aq=δ.aq:=by
 have hw:=h.wait
 have I:=h.ok.bL (n:=k) (b:=b)
 unfold Dk.bL at I ⊢
 split at I
 ·rename_i hd
  rw[aC hd]
  exact⟨⟨I,by simp only;omega,h.now⟩,rfl⟩
 ·rename_i hd
  rw[ak hd]
  split at I
  ·rename_i J
   rw[aC J]
   exact⟨⟨I,by simp only;omega,h.now⟩,rfl⟩
  ·rename_i J
   rw[ak J]
   split at I
   ·rename_i h3
    rw[aC h3]
    exact⟨⟨I,by show δ.waiting.length+m≤_;omega,h.now⟩,rfl⟩
   ·rename_i h3
    rw[ak h3]
    refine⟨⟨I,?_,fun e he => ?_⟩,rfl⟩
    ·show(δ.waiting++[(k.toNat,b)]).length+m≤_
     simp only[b7,bz,cG];omega
    ·rcases G6 he with rfl|he
     ·exact⟨h0,h1⟩
     ·exact h.now e he
noncomputable def agS : Code:=cU [1,1,1,1,0,1,0,0] ((Tryz.f69.body).getD .skip)
set_option maxHeartbeats 1000000 in
theorem Lq (hT:W told){ks:List Int}{kv:V}{j0:Nat}(Mv:ks.length≤65536)(CQ:∀k∈ks,0≤k)(D_:∀k∈ks,(lookL k ρ.aq).isSome=true)(hlen:∀e∈ρ.aq,e.2.length=512): ∀(j i:Nat) (δ:Dk) (h:H) (E:List (Nat×V)) (Q:Ex→List (Nat×V)→H→Prop),i+j=ks.length→oI δ j →
  Sat h (pt x (.cells 2 [.map i0,.map j0] false)::ng (fun v b=>.cD v b) (.map i0) ρ.aq::ng C1 (.map j0) ρ.oH::.arr 1 kv (dY ks)::pt a (.cells 6 (sE a p q r op dv wv) false)::aO p δ::S) →
  Has E [(0,.ptr a 0),(5,.ptr x 0),(55,kv),(56,.int .i64 ks.length),(57,.int .i64 i)] →
  (∀E' h',(againW ρ (ks.drop i) δ).1≠0→look E' 4=some (.int .i64 (againW ρ (ks.drop i) δ).1)→Sat h' (pt a (.cells 6 (sE a p q r op dv wv) false)::aO p (againW ρ (ks.drop i) δ).2::S)→Q .ret E' h') →
  (∀E' h',(againW ρ (ks.drop i) δ).1=0→oI (againW ρ (ks.drop i) δ).2 0→Has E' [(0,.ptr a 0),(5,.ptr x 0)]→Sat h' (pt x (.cells 2 [.map i0,.map j0] false)::ng (fun v b=>.cD v b) (.map i0) ρ.aq::pt a (.cells 6 (sE a p q r op dv wv) false)::aO p (againW ρ (ks.drop i) δ).2::S)→Q (.exit 4) E' h') →
  WP ⟨Tryz.prog,told⟩ 110 (.loop agS) E h Q:=by
 intro j
 induction j with
 |zero =>
  intro i δ h E Q hi I s hE J h2
  rw[v7 (by omega)] at J h2
  refine WP.loop (WP.has hE (zg rfl (zC rfl aT (by simp;omega) ?_)))
  exact zk 3 rfl (WP.exit (h2 _ _ rfl I ⟨rfl,rfl,aa⟩ ((s.ae [0,0,2,2]).del 5 |>.del 4)))
 |succ j ih =>
  intro i δ h E Q hi I s hE J h2
  have hn:ks[i]?=some (ks[i]'(by omega)):=bw _
  generalize (ks[i]'(by omega))=k at hn
  have hkm:=bK hn
  have hk0:=CQ k hkm
  have qA:ks.drop i=k::ks.drop (i+1):=by
   obtain⟨J,rfl⟩:=List.getElem?_eq_some_iff.1 hn
   exact pJ J
  obtain⟨b,hb⟩:=Option.isSome_iff_exists.1 (D_ k hkm)
  have w_:b.length=512:=hlen _ (hG hb)
  rw[qA,againW,hb] at J h2
  simp only at J h2
  have hc:(dY ks)[i]?=some (.int .i64 k):=by simp[dY,hn]
  obtain⟨id,off,e1,e2⟩:=kJ s (k:=3) rfl hc gW lR
  refine WP.loop (WP.has hE (zg rfl (zB rfl aT (by simp;omega) ?_)))
  refine zk 5 rfl (WP.block (zg rfl (zo rfl (c8 (r:=.ptr id off) rfl rfl e1) (zl rfl (e2 _ dJ) (zk 3 rfl ?_)))))
  rcases iE (n:=k) (fun _ _=>bg.cD _ _) (s.ae [1]) kX br o8 with⟨hl,_⟩|⟨u,b',hl,_,f2,s⟩
  ·rw[hb] at hl;cases hl
  rw[hb] at hl
  injection hl with hl
  subst hl
  dsimp only[sE,aE,bringA] at s
  obtain⟨f4,s⟩:dX Tryz.prog h 232 (.map j0) (.int .i64 k) false=some (.int .u64 (ov ρ k:Int))∧Sat h (ng C1 (.map j0) ρ.oH::.cD u b::ng (fun v b=>.cD v b) (.map i0) ρ.aq::pt x (.cells 2 [.map i0,.map j0] false)::.arr 1 kv (dY ks)::pt a (.cells 6 (sE a p q r op dv wv) false)::aO p δ::S):=by
   have s:=s.ae [3,0,0,0]
   rcases iE (n:=k) (fun _ _=>bg.pu _) s Tryz.underlying232 br Ab with⟨hl,_,f⟩|⟨w,y,hl,_,f,s⟩
   ·exact⟨by rw[f,ov,hl];rfl,s⟩
   ·obtain⟨rfl,s2⟩:=ej.1 s
    exact⟨by rw[f,ov,hl];rfl,s2⟩
  have s:=s.ae [3,4,1]
  dsimp only[sE,bringA,getA,aE] at s
  have yT:=cX (s.aG (k:=2) rfl (dy _ _))
  refine WP.drawn [af,af,af,af,af,af,af,af,af,af,af,af,af,af,af,af,af,af] rfl (by kernel_rfl) (by kernel_rfl) ?_
  refine zM rfl (zN rfl (zF rfl (pY _ _) (zL rfl (s.ld (k:=0) rfl jD rfl) (zM rfl (zO rfl (fQ rfl rfl f2) (zM rfl (zN rfl (zF rfl (L6 _ _) (zL rfl (s.ld (k:=0) rfl VQ rfl) (zM rfl (zO rfl (fQ rfl rfl f4) (az.any rfl rfl rfl rfl (OpR.call rfl rfl rfl rfl (Me (n:=ov ρ k) hT (s.ae [2]) (dy _ _) (by omega))) ?_))))))))))))
  rintro v h (⟨hg,u2,rfl,s⟩|⟨hg,rfl,s⟩)
  ·skip
   dsimp only[aE,bringA] at s
   refine zM rfl (zO rfl (bY rfl rfl) (zO rfl (bY rfl rfl) (zA rfl (zA rfl ?_))))
   refine az.nil ⟨⟨aa,aa,aa,aa,aa,aa,aa,aa,aa,aa,aa,aa,aa,aa,aa,aa,aa,aa,aa⟩,?_⟩
   refine zK 4 rfl (zC rfl aD (rfl) (zk 4 rfl (zY s 3 pU qv rfl (zc rfl (xW hT (s.ae [7])) ?_))))
   rintro v h' ⟨rfl,rfl⟩
   by_cases hp:k<δ.aq.length
   ·skip
    rw[aC ⟨hg,hp⟩] at J h2
    have kx:=(nL (n:=ov ρ k) w_).2.1
    have Q8:=I.wait
    have hw:=I.write (k:=k) (b:=cz b (ov ρ k)) hk0 hp
    refine zC rfl jg (by simp;omega) ?_
    refine zk 8 rfl (zY s 3 pU qv rfl (zk 2 rfl (zc rfl (Mj hT (s.ae [7,0]) (aN _ _) (by omega) I.ok.aU (by omega)) ?_)))
    rintro v h ⟨rfl,s⟩
    dsimp only[aE,bringA] at s
    by_cases h0:(δ.bL k (cz b (ov ρ k))).1=0
    ·rw[ak (not_not_intro h0)] at J h2
     rw[h0]
     refine za rfl (zv (zg rfl (zm rfl (zh rfl (ay rfl rfl aD) (rfl) (zv (zj rfl (WP.skip (zr rfl (zb rfl (by exact bf (aA (by omega) (by omega))) ?_)))))))))
     refine zm rfl (zv ?_)
     have s:=(s.ae [3,5,4,4,3,0]).del 6
     have s:=s.del 6
     dsimp only[bringA,getA,aE] at s
     exact ih (i+1) _ _ _ Q (by omega) hw.1 s ⟨rfl,rfl,rfl,rfl,rfl,aa⟩ J h2
    ·skip
     rw[aC h0] at J h2
     refine zk 5 rfl (zB rfl aD (by simpa using h0) ?_)
     refine zk 7 rfl (WP.ret ?_)
     have s:=(s.ae [4,0]).del 2
     exact J _ _ h0 rfl ((((s.del 2).del 2).del 2).del 2 |>.del 2)
   ·skip
    rw[ak (fun q=>hp q.2)] at J h2
    refine zB rfl jg (by simp;omega) ?_
    refine zk 3 rfl (WP.exit (zr rfl (zb rfl (by exact bf (aA (by omega) (by omega))) ?_)))
    refine zm rfl (zv ?_)
    have s:=(s.ae [2,4,3,3,2,2]).del 6
    have s:=s.del 6
    dsimp only[bringA,getA,aE] at s
    exact ih (i+1) _ _ _ Q (by omega) I.less s ⟨rfl,rfl,rfl,rfl,rfl,aa⟩ J h2
  ·skip
   rw[ak (fun q=>by rw[hg] at q;cases q.1)] at J h2
   dsimp only[aE,bringA] at s
   refine zM rfl (zO rfl (bY rfl rfl) (zO rfl (bY rfl rfl) (zA rfl (zA rfl ?_))))
   refine az.nil ⟨⟨aa,aa,aa,aa,aa,aa,aa,aa,aa,aa,aa,aa,aa,aa,aa,aa,aa,aa,aa⟩,?_⟩
   refine zK 4 rfl (zB rfl aD (rfl) (zk 11 rfl (WP.exit (zr rfl (zb rfl (by exact bf (aA (by omega) (by omega))) ?_)))))
   refine zm rfl (zv ?_)
   have s:=(s.ae [1,3,2,2,1,1]).del 6
   exact ih (i+1) _ _ _ Q (by omega) I.less s ⟨rfl,rfl,rfl,rfl,rfl,aa⟩ J h2
end
def iH.none : iH:=⟨[],[]⟩
theorem BR : iH.none.Ok:=⟨fun e h=>(by cases h),fun k h=>(by cases h),lZ⟩
theorem iH.Ok.Ra (h:ρ.Ok): ρ.aq.length≤65536:=by
 have:=AD 65536 _ h.dup (fun n I=>by have:=h.low n I;omega)
 simpa using this
theorem J8 {m:List (Int×α)}: (bP m).length=m.length:=by rw[bP,(eR _).length_eq,gD]
theorem C3 {m:List (Int×α)}{k:Int}: k∈bP m↔k∈m.map (·.1):=(eR _).mem_iff
section
variable {told:cJ} {op:V} {p base:Nat}
theorem Uu (hT:W5 told)(he:rs=cy++ey)(oz:∀r∈rs,r.Ok)(qO:(gZ base aH rs).Ok)(J:oI δ 65536)(s:Sat h (dA a p q r op data c0::bS q p (gZ base aH rs)::aO p δ::S)):
  Call ⟨Tryz.prog,told⟩ 69 [.ptr a 0,.int .u64 ((base+szB cy:Nat):Int)] h fun v h' =>
   v=.int .i64 (mC (redoL (base+szB cy) ey iH.none) δ).1∧Sat h' (dA a p q r op data c0::bS q p (gZ base aH rs)::aO p (mC (redoL (base+szB cy) ey iH.none) δ).2::S):=by
 have hW:=hT.w.w
 have I:(redoL (base+szB cy) ey iH.none).Ok:=C2 BR (fun r hr=>oz r (by rw[he];exact List.mem_append.2 (.inr hr)))
 obtain⟨dv,s⟩:=cm.1 s
 refine Call.of_wp (hW.free _ rfl) Tryz.func69 rfl rfl (zK 6 rfl ?_)
 refine au.sQ s rfl rfl rfl rfl (fun p18 h s => ?_)
 refine au.sQ s rfl rfl rfl rfl (fun p19 h s => ?_)
 refine zo rfl (cj rfl (by rw[VR];rfl)) ?_
 refine au.bD s rfl rfl rfl (dB rfl rfl) (fun ZW h s => ?_)
 refine zk 5 rfl (zo rfl (xQ rfl rfl) (zk 8 rfl (WP.block ?_)))
 have s:=(s.fB (φ:=True) aa).fB (φ:=True) aa
 have s:=u5 (ρ:=iH.none).2 ⟨_,[],0,_,[],0,⟨aa,lZ,aa,lZ⟩,s.ae [2,3,0,1,0]⟩
 refine OG hT.wr oz qO ey cy iH.none h _ _ he BR (s.ae [0,0,1]) ⟨rfl,rfl,rfl,rfl,aa⟩ (fun E h hE s => ?_)
 generalize hρ:redoL (base+szB cy) ey iH.none=ρ at I s
 refine WP.has hE ?_
 obtain⟨i,l,k,j,m,g,⟨h1,h2,h3,h4⟩,s⟩:=u5.1 s
 have s:=Lp (s.ae [2])
 have s:=jZ.2 ⟨i,l,k,rfl,h1,h2,s.ae [2,0]⟩
 have s:=jZ.2 ⟨j,m,g,rfl,h3,h4,s.ae [2,2]⟩
 have s:=s.ae [2,1,0]
 have adi:=I.Ra
 refine zK 5 rfl (zY s 0 pY jD rfl (zc rfl (yh hW s) ?_))
 rintro v h ⟨kb,rfl,s⟩
 refine zc rfl (vt hW (s.ae [0,1]) (by decide) (by omega) (fun n hn=>wf_i64 (by have:=I.low n hn;omega) (by have:=I.low n hn;omega))) ?_
 intro kv h s
 refine zo rfl (aP rfl rfl rfl (s.fR (n:=(bP ρ.aq).length) (j:=0) rfl (by simp[dY]) (by decide) gW)) ?_
 refine zk 2 rfl (WP.block ?_)
 have s:=(s.ae [3,2,2,0,1,3]).del 6
 refine Lq hW (ks:=bP ρ.aq) (by rw[J8];exact adi) (fun k hk=>(I.low k (C3.1 hk)).1) (fun k hk=>by
  cases hl:lookL k ρ.aq with
  |none=>exact absurd (C3.1 hk) (jV.1 hl)
  |some b=>rfl) I.len (bP ρ.aq).length 0 δ h _ _ (by omega) (by rw[J8];exact⟨J.ok,by have:=J.wait;omega,J.now⟩) s ⟨rfl,rfl,rfl,rfl,rfl,aa⟩ (fun E' h' e1 e2 s' => ?_) (fun E h e1 e2 hE s => ?_)
 ·rw[gS] at e1 e2 s'
  have e:mC ρ δ=againW ρ (bP ρ.aq) δ:=by rw[mC,aC e1]
  rw[e]
  exact⟨aa,_,nG e2,rfl,(cm.2 ⟨dv,s'.ae [0,2]⟩).ae [0,1,0]⟩
 ·rw[gS] at e1 e2 s
  refine WP.has hE (zK 5 rfl (zY s 0 pY jD rfl (zo rfl (aP rfl rfl rfl (CJ (s.ae [1]) kX)) ?_)))
  by_cases hz:ρ.aq=[]
  ·skip
   have e:mC ρ δ=(0,(againW ρ (bP ρ.aq) δ).2):=by rw[mC,ak (not_not_intro e1),aC hz]
   rw[e]
   refine zB rfl dm (by rw[hz];rfl) ?_
   exact zk 6 rfl (WP.ret ⟨aa,_,rfl,rfl,(cm.2 ⟨dv,((s.drop.drop).ae [0,2])⟩).ae [0,1,0]⟩)
  ·skip
   have e:mC ρ δ=(againW ρ (bP ρ.aq) δ).2.iR:=by rw[mC,ak (not_not_intro e1),ak hz]
   rw[e]
   refine zC rfl dm (by have:ρ.aq.length≠0:=fun h=>hz (nT h);simp;omega) ?_
   refine zk 7 rfl (zY s 2 pU qv rfl (zc rfl (XC hT.w (s.ae [3]) e2.ok e2.now) ?_))
   rintro v h ⟨rfl,s⟩
   dsimp only[sE,V.cells,List.take,List.length_cons,List.length_nil,Nat.reduceAdd,List.drop,List.cons_append,List.nil_append,aE,bringA,getA] at s
   exact zk 2 rfl (WP.ret ⟨aa,_,rfl,rfl,(cm.2 ⟨dv,(((s.ae [3,4,3,0]).del 4).del 4)⟩).ae [0,0,0]⟩)
end
def Uv (base aH:Nat)(rs:List bV)(data:List Nat)(cy ey:List bV): Prop :=
 rs=cy++ey∧((aH=0∧data=[]∧cy=[])∨∃A rc B,rs=A++rc::B∧aH=base+szB A∧aH≠0∧rc.kd=8∧8≤rc.data.length∧data=rc.data.drop 8∧max base (leN (rc.data.take 8))=base+szB cy)
def eC (δ:Dk)(base:Nat)(rs cy ey:List bV): Int×Dk :=
 if (δ.c7 (szB rs)).1≠0 then δ.c7 (szB rs) else mC (redoL (base+szB cy) ey iH.none) (δ.c7 (szB rs)).2
theorem Lr : (δ.dQ n).2.waiting=δ.waiting∧(δ.dQ n).2.now=δ.now∧(δ.dQ n).2.aq=δ.aq:=by
 unfold Dk.dQ Dk.qM
 split
 ·split
  ·exact⟨rfl,rfl,rfl⟩
  ·split
   ·exact⟨rfl,rfl,rfl⟩
   ·split<;>exact⟨rfl,rfl,rfl⟩
 ·exact⟨rfl,rfl,rfl⟩
theorem Ls : δ.cF.2.waiting=δ.waiting∧δ.cF.2.now=δ.now∧δ.cF.2.aq=δ.aq:=by
 unfold Dk.cF
 split
 ·exact⟨rfl,rfl,rfl⟩
 ·split<;>exact⟨rfl,rfl,rfl⟩
theorem Ev : (δ.c7 n).2.waiting=δ.waiting∧(δ.c7 n).2.now=δ.now∧(δ.c7 n).2.aq=δ.aq:=by
 unfold Dk.c7
 have h:=Lr (δ:=δ) (n:=n)
 split
 ·exact h
 ·split
  ·have I:=Ls (δ:=(δ.dQ n).2)
   exact⟨I.1.trans h.1,I.2.1.trans h.2.1,I.2.2.trans h.2.2⟩
  ·exact h
theorem oI.c7 {m:Nat}(h:oI δ m): oI (δ.c7 n).2 m:=by
 obtain⟨I,J,h3⟩:=Ev (δ:=δ) (n:=n)
 exact⟨h.ok.c7,by rw[I];exact h.wait,by rw[J,h3];exact h.now⟩
section
variable {told:cJ} {j:List Nat} {p base:Nat}
noncomputable def soE : Code:=cU [1,1,1,1,1,1,1,1,1] ((Tryz.f19.body).getD .skip)
theorem G7 (hT:W5 told)(he:rs=cy++ey)(J:∀r∈rs,r.Ok)(qO:(gZ base aH rs).Ok)(oU:oI δ 65536)
 (s:Sat h (dA a p q r .bq data c0::eo r p q (Pl.fresh n)::bS q p (gZ base aH rs)::aO p δ::S))(hE:Has E [(9,.ptr a 0),(10,.int .u64 ((base+szB cy:Nat):Int))]){y:Int×Dk}(hy:mC (redoL (base+szB cy) ey iH.none) δ=y)
 (h1:∀E' h',y.1≠0→look E' 4=some .bq→look E' 5=some (.int .i64 y.1)→Sat h' (aO p y.2::S)→Q .ret E' h')
 (h2:∀E' h',y.1=0→look E' 4=some (.ptr a 0)→look E' 5=some (.int .i64 0)→Sat h' (dA a p q r .bq data c0::eo r p q (Pl.fresh n)::bS q p (gZ base aH rs)::aO p y.2::S)→Q .ret E' h'): WP ⟨Tryz.prog,told⟩ 95 soE E h Q:=by
 refine WP.has hE (zK 5 rfl (zc rfl (Uu hT he J qO oU (s.ae [0,1,1])) ?_))
 rintro v h ⟨rfl,s⟩
 rw[hy] at s
 rw[hy]
 by_cases I:y.1=0
 ·skip
  rw[I]
  exact zk 5 rfl (zC rfl aD (rfl) (zk 9 rfl (WP.ret (h2 _ _ I rfl rfl (s.ae [0,2,0,0])))))
 ·skip
  refine zk 5 rfl (zB rfl aD (by simpa using I) ?_)
  exact zk 8 rfl (WP.ret (h1 _ _ I rfl rfl (((s.ae [2]).del 1 |>.del 1).del 1)))
theorem Uw {ts:Array TypeId}{k:IntKind}{a b:Int}: builtinV P h .max ts [.int k a,.int k b]=some (.int k (max a b),h):=by
 simp only[builtinV,foldV,maxV,d_,ah,lY]
 by_cases I:a<b
 ·simp only[I,decide_true,ah]
  rw[show max a b=b by omega]
 ·simp only[I,decide_false,aX]
  rw[show max a b=a by omega]
set_option maxHeartbeats 1000000 in
theorem Ux (hT:W5 told)(Cl:1≤n)(GZ:n≤1024)(s:Sat h (aO p δ::S))(oU:oI δ 65536)(hd:δ.dead=false)(hm:RA δ.mark base aH)(xN:base+δ.log.length≤1099511627776)(OF:aH≤1099511627776)
 (CV:δ.log=logB base rs++j)(J:∀r∈rs,r.Ok)(hj:rP j)(Wl:Uv base aH rs data cy ey):
  Call ⟨Tryz.prog,told⟩ 19 [.ptr p 0,.int .i64 (n:Int)] h fun v h' =>
   ((eC δ base rs cy ey).1≠0∧v=.aQ [.bq,.int .i64 (eC δ base rs cy ey).1]∧Sat h' (aO p (eC δ base rs cy ey).2::S)) ∨
   ((eC δ base rs cy ey).1=0∧∃a q r,v=.aQ [.ptr a 0,.int .i64 0]∧Sat h' (dA a p q r .bq data aH::eo r p q (Pl.fresh n)::bS q p (gZ base aH rs)::aO p (eC δ base rs cy ey).2::S)):=by
 have hW:=hT.w.w
 have hlen:=oU.ok.len
 have gE:δ.log.length=szB rs+j.length:=by rw[CV,b7,fZ]
 have qO:(gZ base aH rs).Ok:=MU (by omega) (by omega) OF
 obtain⟨aat,Wl⟩:=Wl
 generalize hy:eC δ base rs cy ey=y
 unfold eC at hy
 refine Call.of_wp (hW.free _ rfl) Tryz.func19 rfl rfl (zK 9 rfl (zC rfl aT (by simp<;>omega) ?_))
 refine zk 2 rfl (zC rfl fN (by simp<;>omega) ?_)
 refine zk 7 rfl (zc rfl (Uq hT.wr s oU.ok hd hm xN (by omega) CV J hj) ?_)
 rw[fZ]
 rintro v h (⟨I,rfl,s⟩|⟨I,q,rfl,s⟩)
 ·skip
  rw[aC I] at hy
  rw[hy] at I s
  rw[hy]
  refine zk 10 rfl (zB rfl aD (by simpa using I) ?_)
  exact zk 8 rfl (WP.ret ⟨aa,_,rfl,.inl ⟨I,rfl,s⟩⟩)
 rw[ak (not_not_intro I)] at hy
 refine zk 10 rfl (zC rfl aD (rfl) (zk 8 rfl (zc rfl (Mt (p:=p) (q:=q) (n:=n) hW s) ?_)))
 rintro v h (⟨hn,_,_⟩|⟨_,_,r,rfl,s⟩)
 ·omega
 rw[cL] at s
 refine zk 10 rfl (zC rfl aD (rfl) (zk 8 rfl (zo rfl (cj rfl (by rw[VE];rfl)) ?_)))
 refine au.bD s rfl rfl rfl (dB rfl rfl) (fun p44 h s => ?_)
 refine zk 5 rfl (zc rfl (sC hW (s.ae [2])) ?_)
 rintro v h' ⟨rfl,rfl⟩
 refine zk 6 rfl (zc rfl (Ci hW (s.ae [2])) ?_)
 rintro v h' ⟨rfl,rfl⟩
 rcases Wl with⟨rfl,rfl,rfl⟩|⟨A,rc,B,hA,hcA,MW,V_,h8,rfl,fo⟩
 ·skip
  refine zk 5 rfl (zC rfl aD (rfl) (zk 3 rfl ?_))
  have s1:=cm.2 ⟨.aY,(s.rX).ae [1,0]⟩
  exact G7 hT aat J qO oU.c7 s1 ⟨rfl,rfl,aa⟩ hy (fun E' h' I e1 e2 s'=>⟨aa,_,sU e1 e2,.inl ⟨I,rfl,s'⟩⟩) (fun E' h' I e1 e2 s'=>⟨aa,_,sU e1 e2,.inr ⟨I,_,_,_,rfl,s'⟩⟩)
 ·skip
  subst hA
  subst hcA
  have mP:¬(((gZ base (base+szB A) (A++rc::B)).check:Nat):Int)=0:=by show ¬((base+szB A:Nat):Int)=0;omega
  refine zk 5 rfl (zB rfl aD (by simpa using mP) ?_)
  refine zk 6 rfl (zc rfl (J7 (cy:=A) (ey:=B) (r:=rc) hT.wr qO (J rc (by simp)) (s.ae [2])) ?_)
  rintro v h ⟨dt,ch,cs,rfl,s⟩
  have iP:=(s.buf (k:=1) rfl).view.cells
  have jx:=s.iz (j:=2) rfl
  have adj:[V.int .i64 (rc.kd:Int),V.int .u64 (rc.tx:Int),V.int .u64 (rc.pv:Int),V.int .u64 (rc.nx:Int),dt,ch].all storable=true:=jc iP.2 jx.2.1
  refine zk 4 rfl ?_
  refine au.bD s rfl rfl rfl (bI jC) (fun ZU h s => ?_)
  refine zS rfl (s.eS (j:=0) rfl dD rfl adj) ?_
  rintro h s
  refine zk 6 rfl (zB rfl dm (rfl) (zm rfl (zY s 0 jh dJ rfl (zB rfl dm (by rw[V_];rfl) ?_))))
  refine zk 2 rfl (zY s 0 tW bJ rfl (zo rfl (aP rfl rfl rfl (aW aJ (s.aG (k:=2) rfl (aN _ _)))) (zB rfl jg (by simp;omega) ?_)))
  refine zk 7 rfl (zY s 0 tW bJ rfl (zo rfl (bU (p:=some (.int .i64 8)) (q:=none) (m:=none) (p':=some 8) (q':=none) (m':=none) rfl rfl rfl rfl rfl rfl rfl (ff (s.buf (k:=2) rfl).view (a:=8) h8).1) (zc rfl (kZ hW (s.ae [2]) (rH (aN _ _) (a:=8) h8) (by have:=(J rc (by simp)).rd.data;simp;omega)) ?_)))
  intro u h s
  have s:=s.gu
  dsimp only[V.cells,List.length_cons,List.length_nil,Nat.reduceAdd,List.take,List.drop,List.cons_append,List.nil_append,aE,bringA,setA] at s
  have hu:=(s.aG (k:=0) rfl (dy _ _)).cells
  refine zk 2 rfl (zf rfl (L0 _ _) (zS rfl (s.dK (k:=6) rfl gY rfl (by decide) hu.1 hu.2) ?_))
  intro h s
  refine zn rfl (zf rfl (Fz _ _) ?_)
  refine zS rfl (by exact s.dK (k:=6) rfl kD rfl (by decide) rfl rfl) (fun h s => ?_)
  refine zk 3 rfl (zY s 2 tW bJ rfl (zo rfl (bU (p:=none) (q:=some (.int .i64 8)) (m:=none) (p':=none) (q':=some 8) (m':=none) rfl rfl rfl rfl rfl rfl rfl (iy (s.buf (k:=1) rfl).view (b:=8) h8).1) (zc rfl (mz hW s (k:=1) rfl (xS (aN _ _) (b:=8) h8) (by rw[gR];omega)) ?_)))
  rintro v h' ⟨rfl,rfl⟩
  refine zo rfl (Ti (r:=.int .u64 ((base+szB cy:Nat):Int)) rfl rfl (Uw.trans (by rw[show max (((gZ base (base+szB A) (A++rc::B)).base:Nat):Int) ((leN (rc.data.take 8):Nat):Int)=((base+szB cy:Nat):Int) by rw[←fo];show max (base:Int) _=_;omega]))) ?_
  refine zk 2 rfl ?_
  have s:=(cm.2 ⟨u,(s.ae [6,0])⟩).ae [0,5,2,4]
  have s:=(((s.del 4).del 4).del 4).del 4
  exact G7 hT aat J qO oU.c7 s ⟨rfl,rfl,aa⟩ hy (fun E' h' I e1 e2 s'=>⟨aa,_,sU e1 e2,.inl ⟨I,rfl,s'⟩⟩) (fun E' h' I e1 e2 s'=>⟨aa,_,sU e1 e2,.inr ⟨I,_,_,_,rfl,s'⟩⟩)
end
structure LR (B0 aH:Nat)(mk:List Nat)(rs:List bV)(x:LD): Prop where
 base:x.1.base=B0
 b:x.1.b=logB B0 rs
 cE:x.1.cE=lN 0 rs
 check:x.1.check=aH
 log:x.2.log=logB B0 rs
 alive:x.2.dead=false
 aU:x.2.aU<0
 mark:x.2.mark=mk
 eV:x.2.eV=none
 tail:x.2.tail=[]
 wait:∀w∈x.2.waiting,w.1<x.2.aq.length∧w.2.length=512
 rs:∀r∈rs,r.Ok
theorem m_ (base aH:Nat)(mk:List Nat)(rs:List bV): lM (LR base aH mk rs):=by
 refine⟨fun x n h => ?_,fun x n b h => ?_⟩
 ·unfold bx
  split
  ·exact h
  ·have e:x.2.cF=(0,{ x.2 with bu:=x.2.log.length }):=by
    rw[Dk.cF,ak (by rw[h.alive];decide),ak (by have:=h.aU;omega),jQ h.aU]
   rw[e,ak (by simp)]
   exact⟨h.base,h.b,h.cE,h.check,h.log,h.alive,h.aU,h.mark,h.eV,h.tail,h.wait,h.rs⟩
 ·unfold Dk.bL
  rw[ak (by rw[h.alive];decide)]
  split
  ·exact h
  ·rename_i I
   rw[ak (by have:=h.aU;omega)]
   refine⟨h.base,h.b,h.cE,h.check,h.log,h.alive,?_,h.mark,h.eV,h.tail,fun w hw => ?_,h.rs⟩
   ·show x.2.dh.aU<0
    rw[jQ h.aU];exact h.aU
   ·rcases List.mem_append.1 hw with hw|hw
    ·exact h.wait w hw
    ·rw[List.mem_singleton.1 hw]
     have I:=Classical.not_not.1 I
     exact⟨by show n.toNat<x.2.aq.length;omega,I.2.2⟩
theorem yA : 1≤(digits k n).length:=Oq k n
theorem Ew {kd:Int}{aR:List bZ}: data.length≤(c_ kd tx pv nx data aR).length∧aR.length≤(c_ kd tx pv nx data aR).length:=by
 have:=JK aR
 simp only[c_,b7,bz,cG]
 omega
def FT : VP:=fun C d _=>∀n rec,lookL n d=some (rec,true)→∃b,C n b
section
theorem FT.rO (N:Nat): nN N FT:=by
 refine⟨fun ε i f he hf h0 hc h => ?_⟩
 have Mh:=(he.back i f hf).resolve_left (by omega)
 have hs:(outF ε i).2.1=ε.1∨(outF ε i).2.1={ ε.1 with ai:=ε.1.ai.set i { f with changed:=false },bO:=b8 f.aK (j9 ε.1 f.aK,false) ε.1.bO }:=by grind[outF]
 show FT (mG (outF ε i).2.1) (outF ε i).2.1.bO (outF ε i).2.2
 rcases hs with e|e
 ·rw[e];exact h
 ·rw[e]
  intro n rec I
  have I:lookL n (b8 f.aK (j9 ε.1 f.aK,false) ε.1.bO)=some (rec,true):=I
  rw[fH] at I
  by_cases J:f.aK=n
  ·rw[aC J] at I;injection I with I;injection I with _ I;cases I
  ·rw[ak J] at I
   obtain⟨b,j,y,hy,k1,k0,k2,k3⟩:=h n rec I
   refine⟨b,j,y,?_,k1,k0,k2,k3⟩
   show(ε.1.ai.set i _)[j]?=some y
   grind
theorem FT.put (h:vw FT ε)(he:EC N ε){n:Int}{f:Fm}(hl:lookL n ε.1.bQ=some (i:Int))(hf:ε.1.ai[i]?=some f)(h0:0≤n): vw FT (uV ε.1 n i f b aF,ε.2):=by
 have hi:=(List.getElem?_eq_some_iff.1 hf).1
 have I:f.aK=n:=by
  obtain⟨_,j,x,si,hx,GX⟩:=he.mA n i hl<;>grind
 intro m rec hm
 have hm:lookL m (b8 n (fS ε.1 n aF,true) ε.1.bO)=some (rec,true):=hm
 rw[fH] at hm
 by_cases J:n=m
 ·subst J
  exact⟨cz b aF,i,{ f with b:=cz b aF,changed:=true,pins:=0 },by exact j4 hi,I,h0,rfl,rfl⟩
 ·rw[ak J] at hm
  obtain⟨c,j,y,hy,k1,k0,k2,k3⟩:=h m rec hm
  refine⟨c,j,y,?_,k1,k0,k2,k3⟩
  show(ε.1.ai.set i _)[j]?=some y
  grind
theorem PtR.ft {l:List Int}(I:PtR now aF l ε e aj): EC N ε→iL ε→NW N now→(∀n∈l,0≤n∧n<N)→vw FT ε→vw FT aj:=by
 induction I with
 |nil ε=>intro _ _ _ _ hv;exact hv
 |jF n l ε e b aj I he =>
  intro h h3 hn hl
  have:=hl n bX
  exact absurd ((I.ec h).2.2.1 this.1 this.2).1 he
 |bad n l ε b0 b aj I hb he =>
  intro h h3 hn hl
  exact absurd ((I.put (b:=b) (aF:=aF) h3).2.2 (hn.look hb).1) he
 |put n l ε b0 b aj e k_ I hb he ht ih =>
  intro h h3 hn hl hv
  have J:=hl n bX
  obtain⟨k1,k2,k3,k4⟩:=I.ec h
  obtain⟨i,f,p1,p2,p3,p4,p5⟩:=I.at h3.pins
  have hg:=hn.look hb
  have e1:=tE (aF:=aF) p1 p2 p3 hg.1
  obtain⟨q1,q2⟩:=k1.put (aF:=aF) p1 p2 hg.1 hg.2 J.1 J.2
  have GY:=(I.put (b:=b) (aF:=aF) h3).1
  have uK:vw FT aj:=(FT.rO N).jF I h hv
  have qy:=FT.put (b:=b) (aF:=aF) uK k1 p1 p2 J.1
  rw[e1] at ih GY
  exact ih q1 GY hn (fun m hm=>hl m (bW _ hm)) qy
end
theorem X8 : ∀(rs:List bV) (n K:Nat),(∀r∈rs,r.Ok)→∃cy ey j,rs=cy++ey∧(logB n rs).take K=logB n cy++j∧rP j:=by
 intro rs
 induction rs with
 |nil=>intro n K _;exact⟨[],[],[],rfl,by simp[logB],.inl (by decide)⟩
 |cons r rs ih =>
  intro n K I
  have hr:=I r bX
  by_cases hK:r.len≤K
  ·obtain⟨cy,ey,j,h1,h2,h3⟩:=ih (n+r.len) (K-r.len) (fun x hx=>I x (bW _ hx))
   refine⟨r::cy,ey,j,by rw[h1];rfl,?_,h3⟩
   have J:(iA n r.bd).length=r.len:=by rw[sI];rfl
   rw[logB,List.take_append,gB (by omega),J,h2,logB,cT]
  ·refine⟨[],r::rs,(iA n r.bd).take K,rfl,?_,?_⟩
   ·have J:(iA n r.bd).length=r.len:=by rw[sI];rfl
    show List.take K (iA n r.bd++logB (n+r.len) rs)=[]++_
    rw[vW (by omega),dU]
   ·by_cases h8:K<8
    ·exact .inl (by rw[gR];omega)
    ·right
     have J:(iA n r.bd).length=r.len:=by rw[sI];rfl
     have h4:((iA n r.bd).take K).take 4=le 4 r.bd.length:=by
      rw[List.take_take,Ba (by omega),iA,cT,vW (by rw[cO];omega),gB (by rw[cO];omega)]
     have hb:=hr.len
     have hlen:r.len=8+r.bd.length:=rfl
     rw[h4,sG,gR,nX (by simp;omega)]
     omega
structure Lv (δ:Dk): Prop where
 alive:δ.dead=false
 aU:δ.aU<0
theorem Lv.dQ (h:Lv δ): (δ.dQ n).1=0∧Lv (δ.dQ n).2:=by
 unfold Dk.dQ
 split
 ·rename_i I
  unfold Dk.qM
  rw[ak (by rw[h.alive];decide),ak (by omega),ak (by have:=h.aU;omega),jQ h.aU]
  exact⟨rfl,h.alive,h.aU⟩
 ·exact⟨rfl,h⟩
theorem Lv.cF (h:Lv δ): δ.cF.1=0∧Lv δ.cF.2:=by
 unfold Dk.cF
 rw[ak (by rw[h.alive];decide),ak (by have:=h.aU;omega),jQ h.aU]
 exact⟨rfl,h.alive,h.aU⟩
theorem Lv.c7 (h:Lv δ): (δ.c7 n).1=0∧Lv (δ.c7 n).2:=by
 obtain⟨J,I⟩:=h.dQ (n:=n)
 unfold Dk.c7
 rw[ak (not_not_intro J)]
 split
 ·exact I.cF
 ·exact⟨rfl,I⟩
theorem Lv.bL {n:Int}(h:Lv δ)(I:0≤n)(J:n<δ.aq.length)(hb:b.length=512): (δ.bL n b).1=0∧Lv (δ.bL n b).2:=by
 unfold Dk.bL
 rw[ak (by rw[h.alive];decide),ak (not_not_intro ⟨I,J,hb⟩),ak (by have:=h.aU;omega)]
 refine⟨rfl,h.alive,?_⟩
 show δ.dh.aU<0
 rw[jQ h.aU];exact h.aU
theorem Lv.again (J:ρ.Ok): ∀ {l:List Int} {δ:Dk},(∀k∈l,0≤k)→Lv δ→(againW ρ l δ).1=0∧Lv (againW ρ l δ).2:=by
 intro l
 induction l with
 |nil=>intro δ _ h;exact⟨rfl,h⟩
 |cons k l ih =>
  intro δ hl h
  have I:∀k∈l,0≤k:=fun x hx=>hl x (bW _ hx)
  rw[againW]
  cases hq:lookL k ρ.aq with
  |none=>exact ih I h
  |some b =>
   simp only
   split
   ·rename_i hg
    have hb:b.length=512:=J.len _ (hG hq)
    obtain⟨w1,w2⟩:=h.bL (n:=k) (b:=cz b (ov ρ k)) (hl k bX) hg.2 (nL hb).2.1
    rw[ak (not_not_intro w1)]
    exact ih I w2
   ·exact ih I h
theorem Lv.iR (h:Lv δ): δ.iR.1=0∧Lv δ.iR.2:=by
 rw[Dk.iR,ak (by rw[h.alive];decide),ak (by have:=h.aU;omega),jQ h.aU]
 exact⟨rfl,h.alive,h.aU⟩
theorem Lv.eC {base:Nat}(h:Lv δ)(J:∀r∈ey,r.Ok): (eC δ base rs cy ey).1=0∧Lv (eC δ base rs cy ey).2:=by
 have I:(redoL (base+szB cy) ey iH.none).Ok:=C2 BR J
 obtain⟨o1,o2⟩:=h.c7 (n:=szB rs)
 unfold Am.eC mC
 rw[ak (not_not_intro o1)]
 obtain⟨a1,a2⟩:=Lv.again I (l:=bP (redoL (base+szB cy) ey iH.none).aq) (fun k hk=>(I.low k (C3.1 hk)).1) o2
 rw[ak (not_not_intro a1)]
 split
 ·exact⟨rfl,a2⟩
 ·exact a2.iR
theorem LR.cr {base:Nat}{x:LD}(h:LR base aH mk rs x)(I:x.2.Ok)(hw:x.2.waiting.length≤268435456)(hm:mk.length≤64): x.2.Cr :=
 ⟨I,h.wait,hw,(fun w J=>by rw[h.eV] at J;cases J),(by rw[h.tail];have:=I.len;simpa using this),(by rw[h.mark];exact hm)⟩
theorem Uy {c:List Nat}: Lv (eN δ c):=⟨rfl,by show(-1:Int)<0;decide⟩
theorem MX {P:List (Option (List Nat))}{x:List Nat}(h:∀(j:Nat) (b:List Nat),P[j]?=some (some b)→b.length=512)(J:x.length=512): ∀(j:Nat) (b:List Nat),(P.set i (some x))[j]?=some (some b)→b.length=512:=fun j b I=>by
 rw[tJ] at I
 split at I
 ·split at I
  ·injection I with I;injection I with I;rw[←I];exact J
  ·cases I
 ·exact h j b I
theorem Uz {c:List Nat}(h:δ.Cr): oI (eN δ c) 65536∧(eN δ c).aq.length=δ.aq.length:=by
 have hl:=h.ok.len
 have hr:=h.ok.room
 have hc:=h.ok.bu
 have hlen:(eN δ c).aq.length=δ.aq.length:=by
  show(tornP c _ _ δ.eV).length=_
  cases δ.eV with
  |none=>exact FZ
  |some w=>rw[tornP,dg,FZ]
 have J:=MS (c:=c) (i:=0) (fun w hw=>(h.wait w hw).2) h.ok.aq
 have Js:∀(j:Nat) (b:List Nat),(eN δ c).aq[j]?=some (some b)→b.length=512:=by
  show ∀(j:Nat) (b:List Nat),(tornP c _ _ δ.eV)[j]?=some (some b)→b.length=512
  cases ht:δ.eV with
  |none=>exact J
  |some w =>
   have hw:=(h.eV w ht).2
   refine MX J ?_
   have I:((layW c 0 δ.waiting δ.aq).getD w.1 none).getD []=[]∨(((layW c 0 δ.waiting δ.aq).getD w.1 none).getD []).length=512:=by
    rw[nU]
    cases hq:(layW c 0 δ.waiting δ.aq)[w.1]? with
    |none=>exact .inl rfl
    |some o =>
     cases o with
     |none=>exact .inl rfl
     |some b=>exact .inr (J _ _ hq)
   have h2:(a_ (List.replicate 512 0) 0 (((layW c 0 δ.waiting δ.aq).getD w.1 none).getD [])).length=512:=by
    rw[cI (by rw[eY];rcases I with I|I<;>rw[I]<;>decide),eY]
   rw[cI (by rw[h2,gR];omega),h2]
 refine⟨⟨⟨by show(-1:Int)<_;decide,?_,hr,fun e he=>(by cases he),Js,aV _,by rw[hlen];exact h.ok.many⟩,by show 0+65536≤_;decide,fun e he=>(by cases he)⟩,hlen⟩
 show(sH δ c).length≤_
 have ht:=h.tail
 rw[sH,b7,gR,gR,b7,EZ]
 omega
def jM (c:bZ)(σ:Int→List Nat): Int→List Nat:=fun n=>if n=c.aK then(if c.whole=true then c.b else a_ (σ n) c.pos.toNat c.b) else σ n
def jb (cs:List bZ)(σ:Int→List Nat): Int→List Nat:=cs.foldl (fun σ c=>jM c σ) σ
def fM (rs:List bV)(σ:Int→List Nat): Int→List Nat:=rs.foldl (fun σ r=>jb r.aR σ) σ
theorem xo {x y:List bV}: fM (x++y) σ=fM y (fM x σ):=by grind[fM]
theorem J9 {x y:List bZ}: jb (x++y) σ=jb y (jb x σ):=by grind[jb]
def AO (cs:List bZ)(n:Int): Prop:=∃c∈cs,c.aK=n∧c.whole=true
def sJ (rs:List bV)(n:Int): Prop:=∃r∈rs,AO r.aR n
structure vG (ρ:iH)(σ:Int→List Nat)(W:Int→Prop): Prop where
 some:∀n b,lookL n ρ.aq=some b→b=σ n∧W n
 none:∀n,lookL n ρ.aq=none→¬W n
theorem vG.nq {W:Int→Prop}(h:vG ρ σ W)(k:Nat)(c:bZ): vG (chgF k c ρ) (jM c σ) (fun n=>W n∨(c.aK=n∧c.whole=true)):=by
 unfold chgF
 by_cases hw:c.whole=true
 ·rw[aC hw]
  refine⟨fun n b I => ?_,fun n I => ?_⟩
  ·rw[fH] at I
   by_cases J:c.aK=n
   ·grind[jM]
   ·rw[ak J] at I
    have:=h.some n b I
    grind[jM]
  ·rw[fH] at I
   by_cases J:c.aK=n
   ·grind
   ·rw[ak J] at I
    rintro(q|q)
    ·exact h.none n I q
    ·omega
 ·rw[ak hw]
  cases hl:lookL c.aK ρ.aq with
  |none =>
   refine⟨fun n b I => ?_,fun n I => ?_⟩
   ·have:=h.some n b I
    grind[jM]
   ·rintro(q|q)
    ·exact h.none n I q
    ·grind
  |some x =>
   have hx:=h.some _ x hl
   refine⟨fun n b I => ?_,fun n I => ?_⟩
   ·rw[fH] at I
    by_cases J:c.aK=n
    ·grind[jM]
    ·rw[ak J] at I
     have:=h.some n b I
     grind[jM]
   ·rw[fH] at I
    by_cases J:c.aK=n
    ·grind
    ·rw[ak J] at I
     rintro(q|q)
     ·exact h.none n I q
     ·omega
theorem vG.iff {W J:Int→Prop}(h:vG ρ σ W)(hw:∀n,W n↔J n): vG ρ σ J:=⟨fun n b I=>⟨(h.some n b I).1,(hw n).1 (h.some n b I).2⟩,fun n I q=>h.none n I ((hw n).2 q)⟩
theorem vG.aR : ∀ {cs:List bZ} {ρ:iH} {σ:Int→List Nat} {W:Int→Prop},vG ρ σ W→vG (Eu k cs ρ) (jb cs σ) (fun n=>W n∨AO cs n):=by
 intro cs
 induction cs with
 |nil=>intro ρ σ W h;exact h.iff fun n=>⟨.inl,fun q=>q.elim id fun⟨c,I,_⟩=>(by cases I)⟩
 |cons c cs J =>
  intro ρ σ W h
  refine(J (h.nq k c)).iff fun n => ?_
  constructor
  ·rintro((q|q)|⟨c',I,q⟩)
   ·grind
   ·exact .inr ⟨c,bX,q⟩
   ·exact .inr ⟨c',bW _ I,q⟩
  ·rintro(q|⟨c',I,q⟩)
   ·grind
   ·rcases List.mem_cons.1 I with rfl|I
    ·grind
    ·exact .inr ⟨c',I,q⟩
theorem vG.OH : ∀ {rs:List bV} {k:Nat} {ρ:iH} {σ:Int→List Nat} {W:Int→Prop},vG ρ σ W→vG (redoL k rs ρ) (fM rs σ) (fun n=>W n∨sJ rs n):=by
 intro rs
 induction rs with
 |nil=>intro k ρ σ W h;exact h.iff fun n=>⟨.inl,fun q=>q.elim id fun⟨r,I,_⟩=>(by cases I)⟩
 |cons r rs ih =>
  intro k ρ σ W h
  refine(ih (h.aR (k:=k))).iff fun n => ?_
  constructor
  ·rintro((q|q)|⟨J,I,q⟩)
   ·grind
   ·exact .inr ⟨r,bX,q⟩
   ·exact .inr ⟨J,bW _ I,q⟩
  ·rintro(q|⟨J,I,q⟩)
   ·grind
   ·rcases List.mem_cons.1 I with rfl|I
    ·grind
    ·exact .inr ⟨J,I,q⟩
theorem X9 (rs:List bV)(k:Nat)(σ:Int→List Nat): vG (redoL k rs iH.none) (fM rs σ) (sJ rs) :=
 (vG.OH (ρ:=iH.none) (W:=fun _=>False) ⟨fun n b I=>(by cases I),fun n _ q=>q⟩).iff fun n=>⟨fun q=>q.elim False.elim id,.inr⟩
def lz (a b:List Nat): Prop:=a.length=512∧b.length=512∧a.drop 12=b.drop 12
theorem lz.symm {a:List Nat}(h:lz a b): lz b a:=⟨h.2.1,h.1,h.2.2.symm⟩
theorem lz.trans {a c:List Nat}(h:lz a b)(g:lz b c): lz a c:=⟨h.1,g.2.1,h.2.2.trans g.2.2⟩
theorem lz.refl {a:List Nat}(h:a.length=512): lz a a:=⟨h,h,rfl⟩
theorem C4 (h:b.length=512): lz (cz b n) b:=⟨(nL h).2.1,h,(nL h).1⟩
theorem lz.good {a:List Nat}(h:lz a b): cf a=cf b:=Ed (h.1.trans h.2.1.symm) h.2.2
theorem aau {now:List Nat}{l:List bZ}(hr:uT pg er now i l): ∀ {σ:Int→List Nat},now.length=512→(σ pg).length=512→12≤i→(∀j,12≤j→j<i→(σ pg)[j]?=now[j]?)→(∀j,i≤j→(σ pg)[j]?=er[j]?) →
  (jb l σ pg).length=512∧(∀j,12≤j→(jb l σ pg)[j]?=now[j]?)∧∀n,n≠pg→jb l σ n=σ n:=by
 induction hr with
 |done i h =>
  intro σ hn hs h12 I hhi
  refine⟨hs,fun j hj => ?_,fun _ _=>rfl⟩
  by_cases yP:j<i
  ·exact I j hj yP
  ·show(σ pg)[j]?=_
   grind
 |skip i l h he hr ih =>
  grind
 |take i e l h1 h2 _ _ hr ih =>
  intro σ hn hs h12 I hhi
  have hg:∀j,(a_ (σ pg) i ((now.take e).drop i))[j]?=if i≤j∧j<e then now[j]? else(σ pg)[j]?:=fun j=>by
   grind[yn]
  have hc:jM ⟨pg,i,false,(now.take e).drop i⟩ σ pg=a_ (σ pg) i ((now.take e).drop i):=by grind[jM]
  obtain⟨k1,k2,k3⟩:=ih (σ:=jM ⟨pg,i,false,(now.take e).drop i⟩ σ) hn (by grind) (by omega) (fun j hj hje=>by
   grind) (fun j hj=>by grind)
  refine⟨k1,k2,fun n J => ?_⟩
  have:=k3 n J
  rw[show jb (⟨pg,i,false,(now.take e).drop i⟩::l) σ=jb l (jM ⟨pg,i,false,(now.take e).drop i⟩ σ) from rfl,this,jM,ak J]
theorem MY {a:List Nat}(I:a.length=512)(J:b.length=512)(h:∀j,12≤j→a[j]?=b[j]?): lz a b :=
 ⟨I,J,qY fun i=>by grind⟩
theorem aav {now:List Nat}{c:List bZ}(I:GQ pg er now c)(J:now.length=512)(hs:lz (σ pg) er): lz (jb c σ pg) now∧∀n,n≠pg→jb c σ n=σ n:=by
 obtain⟨l,hl,rfl⟩:=I
 have hd:∀j,12≤j→(σ pg)[j]?=er[j]?:=fun j hj=>by
  have:=iW (fun l:List Nat=>l[j-12]?) hs.2.2
  grind
 obtain⟨k1,k2,k3⟩:=aau hl J hs.1 (aV _) (fun j h1 h2=>by omega) hd
 by_cases hz:l=[]
 ·simp_all[jb,jM,a_,MY]
 ·grind[MY]
def imgOf (δ:Dk)(n:Int): List Nat:=match δ.aq[n.toNat]? with
 |some (some b)=>b
 |_=>List.replicate 512 0
def yB (δ:Dk)(n:Int)(w:List Nat): Prop:=w=imgOf δ n∨∃wr∈δ.waiting,((wr.1:Nat):Int)=n∧w=wr.2
def MZ (δ:Dk)(n:Int): Prop:=0≤n∧n<(δ.aq.length:Int)
def u7 (r:bV)(n:Int): Prop:=∃c∈r.aR,c.aK=n
structure RI (ba:Nat)(mB:Int→Prop)(B0:Int→List Nat)(rs:List bV)(g:Int→Option Nat)(C:Int→List Nat→Prop)(d:List (Int×(Nat×Bool)))(x:LD): Prop where
 base:x.1.base=ba
 b:x.1.b=logB ba rs
 log:x.2.log=logB ba rs
 alive:x.2.dead=false
 aU:x.2.aU<0
 forced:∃u v,rs=u++v∧x.1.forced=szB u
 cert:x.1.forced≤x.2.bu
 oJ:∀n w t t',MZ x.2 n→rs=t++t'→x.1.forced≤szB t→(∀rec,g n=some rec→ba+szB t≤rec)→yB x.2 n w→lz (fM t B0 n) w
 bO:∀n rec,g n=some rec→∃t r t',rs=t++r::t'∧rec=ba+szB t∧AO r.aR n
 clean:∀n,g n=none→∀wr∈x.2.waiting,((wr.1:Nat):Int)≠n
 RH:∀n b,C n b→∃rec t r t',lookL n d=some (rec,true)∧rs=t++r::t'∧dF b 4 8=ba+szB t∧rec≤ba+szB t∧(¬mB n→∀t1 r1 t2,rs=t1++r1::t2→u7 r1 n→szB t1≤szB t)
 flag:∀n rec,lookL n d=some (rec,false)→rec<ba+x.1.forced∧(¬mB n→∀t r t',rs=t++r::t'→u7 r n→szB t<x.1.forced)
 ft:∀n rec,lookL n d=some (rec,true)→∃b,C n b
 now:∀n b,lookL n x.2.now=some b→∃wr∈x.2.waiting,((wr.1:Nat):Int)=n∧wr.2=b
 J_:∀n rec fl,lookL n d=some (rec,fl)→g n=some rec
 RJ:∀n rec,g n=some rec→mB n∨∃fl,lookL n d=some (rec,fl)
 ck:∀n w,0≤n→yB x.2 n w→gM w=0
 Wm:∀n,mB n→lookL n d=none→∃t r,rs=t++[r]∧g n=some (ba+szB t)
theorem UA {n:Int}(I:δ.dead=false)(J:δ.aU<0)(h0:0≤n)(h1:n<δ.aq.length)(hb:b.length=512): δ.bL n b=(0,{ δ with waiting:=δ.waiting++[(n.toNat,b)],now:=b8 n b δ.now,aU:=δ.aU }):=by
 grind[Dk.bL,Dk.wr,jQ]
theorem xp {v:List bV}: szB u≤szB (u++v):=by rw[iI];omega
theorem Cw (r:bV): 8≤r.len:=by simp only[bV.len];omega
theorem BS {t t':List bV}{r:bV}: szB t<szB (t++r::t'):=by
 grind[Cw,iI,szB]
section
variable {C:Int→List Nat→Prop} {d:List (Int×(Nat×Bool))} {x:LD}
theorem RI.len (h:RI ba mB B0 rs g C d x): x.1.b.length=szB rs:=by rw[h.b,fZ]
theorem RI.le (h:RI ba mB B0 rs g C d x): x.1.forced≤szB rs:=by
 obtain⟨u,v,hu,I⟩:=h.forced
 rw[I,hu];exact xp
theorem RI.all (h:RI ba mB B0 rs g C d x): RI ba mB B0 rs g C d ({ x.1 with forced:=x.1.b.length },{ x.2 with bu:=x.2.log.length }):=by
 have J:=h.len
 have hle:x.1.forced≤x.1.b.length:=by rw[J];exact h.le
 refine⟨h.base,h.b,h.log,h.alive,h.aU,⟨rs,[],by simp,J⟩,by rw[h.b,h.log];exact aV _,
  fun n w t t' h0 ht I hr hc=>h.oJ n w t t' h0 ht (cM hle I) hr hc,h.bO,h.clean,h.RH,fun n rec hn=>⟨gQ (h.flag n rec hn).1 (we hle _),fun hp t r t' e q=>gQ ((h.flag n rec hn).2 hp t r t' e q) hle⟩,h.ft,h.now,h.J_,h.RJ,h.ck,h.Wm⟩
theorem RI.force (h:RI ba mB B0 rs g C d x)(n:Nat)(J:n<ba+szB rs): ∃x',bx x n=(0,x')∧RI ba mB B0 rs g C d x'∧n<ba+x'.1.forced∧x'.2.waiting=x.2.waiting∧x'.2.aq=x.2.aq∧x'.2.now=x.2.now:=by
 unfold bx
 by_cases I:n<x.1.base+x.1.forced
 ·rw[aC I];exact⟨x,rfl,h,by rw[←h.base];exact I,rfl,rfl,rfl⟩
 ·have e:x.2.cF=(0,{ x.2 with bu:=x.2.log.length }):=by
   rw[Dk.cF,ak (by rw[h.alive];decide),ak (by have:=h.aU;omega),jQ h.aU]
  rw[ak I,e,ak (by simp)]
  exact⟨_,rfl,h.all,by rw[h.len];exact J,rfl,rfl,rfl⟩
theorem RI.Ey (h:RI ba mB B0 rs g C d x): ∃x',bx x (ba+szB rs)=(0,x')∧RI ba mB B0 rs g C d x'∧x'.1.forced=szB rs∧x'.2.waiting=x.2.waiting∧x'.2.aq=x.2.aq∧x'.2.now=x.2.now:=by
 have e:x.2.cF=(0,{ x.2 with bu:=x.2.log.length }):=by
  rw[Dk.cF,ak (by rw[h.alive];decide),ak (by have:=h.aU;omega),jQ h.aU]
 unfold bx
 rw[ak (by rw[h.base];have:=h.le;omega),e,ak (by simp)]
 exact⟨_,rfl,h.all,h.len,rfl,rfl,rfl⟩
theorem RI.rO (N:Nat): nN N (RI ba mB B0 rs g):=by
 refine⟨fun ε i f he hf h0 hc h => ?_⟩
 obtain⟨rec,t0,r0,t0',g1,g2,g3,g4,g5⟩:=h.RH f.aK f.b ⟨i,f,hf,rfl,h0,hc,rfl⟩
 have Mh:=(he.back i f hf).resolve_left (by omega)
 have hg:=Mh.nq hc
 obtain⟨x',mQ,h',cH,w1,w2,w3⟩:=h.force (dF f.b 4 8) (by grind[BS])
 have I:=UA (δ:=x'.2) (n:=f.aK) (b:=f.b) h'.alive h'.aU h0 (by rw[w2,he.dk.aq];exact Mh.lt) (fb hg)
 have e:outF ε i=(0,({ ε.1 with ai:=ε.1.ai.set i { f with changed:=false },bO:=b8 f.aK (j9 ε.1 f.aK,false) ε.1.bO },(x'.1,{ x'.2 with waiting:=x'.2.waiting++[(f.aK.toNat,f.b)],now:=b8 f.aK f.b x'.2.now,aU:=x'.2.aU }))):=by
  grind[outF]
 have JE:j9 ε.1 f.aK=rec:=by simp only[j9,g1]
 have hC:∀n b,mG { ε.1 with ai:=ε.1.ai.set i { f with changed:=false },bO:=b8 f.aK (j9 ε.1 f.aK,false) ε.1.bO } n b→mG ε.1 n b∧n≠f.aK:=by
  rintro n b ⟨j,y,hy,k1,k0,k2,k3⟩
  rcases ql hf hy with⟨rfl,rfl⟩|⟨si,hy⟩
  ·cases k2
  ·refine⟨⟨j,y,hy,k1,k0,k2,k3⟩,fun J=>si ?_⟩
   have h1:=((he.back j y hy).resolve_left (by omega)).here
   rw[k1,J,Mh.here] at h1
   have:=cg h1
   omega
 have hC2:∀n b,mG ε.1 n b→n≠f.aK→mG { ε.1 with ai:=ε.1.ai.set i { f with changed:=false },bO:=b8 f.aK (j9 ε.1 f.aK,false) ε.1.bO } n b:=by
  rintro n b ⟨j,y,hy,k1,k0,k2,k3⟩ J
  refine⟨j,y,?_,k1,k0,k2,k3⟩<;>grind
 have hd:∀m,lookL m (b8 f.aK (rec,false) ε.1.bO)=if f.aK=m then some (rec,false) else lookL m ε.1.bO:=fun m=>fH _
 show RI ba mB B0 rs g (mG (outF ε i).2.1) (outF ε i).2.1.bO (outF ε i).2.2
 rw[e]
 simp only[JE] at hC hC2 ⊢
 have Vw:g f.aK=some rec:=h.J_ _ _ _ g1
 refine⟨h'.base,h'.b,h'.log,h'.alive,h'.aU,h'.forced,h'.cert,fun n w t t' yK ht Cx hr pS => ?_,h'.bO,fun n J wr I => ?_,fun n b hb => ?_,fun n C5 J => ?_,fun n C5 J => ?_,fun n b hb => ?_,fun n C5 fl J => ?_,fun n C5 J => ?_,fun n w yK pS => ?_,fun n hp J => ?_⟩
 ·by_cases J:f.aK=n
  ·grind
  ·have adk:yB x'.2 n w:=by
    rcases pS with hq|⟨wr,I,q1,q2⟩
    ·exact .inl hq
    ·rcases List.mem_append.1 I with I|I
     ·exact .inr ⟨wr,I,q1,q2⟩
     grind
   exact h'.oJ n w t t' yK ht Cx hr adk
 ·rcases List.mem_append.1 I with I|I
  ·exact h'.clean n J wr I
  grind
 ·obtain⟨k1,k2⟩:=hC n b hb
  obtain⟨r',t,r,t',m1,m2⟩:=h.RH n b k1
  exact⟨r',t,r,t',by grind,m2⟩
 ·rw[hd] at J
  by_cases hq:f.aK=n
  ·grind
  ·rw[ak hq] at J
   exact h'.flag n C5 J
 ·rw[hd] at J
  by_cases hq:f.aK=n
  ·grind
  ·rw[ak hq] at J
   obtain⟨b,hb⟩:=h.ft n C5 J<;>grind
 ·rw[fH] at hb
  by_cases hq:f.aK=n
  ·rw[aC hq] at hb
   injection hb with hb
   exact⟨(f.aK.toNat,f.b),List.mem_append.2 (.inr bX),by omega,hb⟩
  ·rw[ak hq] at hb
   obtain⟨wr,k1,k2⟩:=h'.now n b hb<;>grind
 ·rw[hd] at J
  by_cases hq:f.aK=n
  ·grind
  ·rw[ak hq] at J
   exact h.J_ n C5 fl J
 ·rcases h.RJ n C5 J with q|⟨fl,q⟩<;>grind
 ·rcases pS with hq|⟨wr,I,q1,q2⟩
  ·exact h'.ck n w yK (.inl hq)
  ·rcases List.mem_append.1 I with I|I
   ·exact h'.ck n w yK (.inr ⟨wr,I,q1,q2⟩)
   ·rw[q2,List.mem_singleton.1 I];exact Mh.aH
 ·rw[hd] at J
  by_cases hq:f.aK=n
  ·grind
  ·rw[ak hq] at J
   exact h.Wm n hp J
theorem RI.app (h:RI ba (fun _=>False) B0 rs g C d x){r:bV}(hw:∀n,g n=none→u7 r n→AO r.aR n)(m1:μ.base=x.1.base)(m2:μ.b=logB ba (rs++[r]))(m3:μ.forced=x.1.forced)
 (e1:δ.log=logB ba (rs++[r]))(e2:δ.dead=x.2.dead)(e3:δ.aU=x.2.aU)(e4:δ.bu=x.2.bu)(e5:δ.waiting=x.2.waiting)(e6:δ.aq=x.2.aq)(e7:δ.now=x.2.now){p:Int→Prop}[DecidablePred p](hp:∀n,p n↔u7 r n):
  RI ba p B0 (rs++[r]) (fun n=>match g n with|some rec=>some rec|none=>if p n then some (ba+szB rs) else none) C d (μ,δ):=by
 have I:∀n w,yB δ n w→yB x.2 n w:=fun n w hc=>by
  grind[yB,imgOf]
 have Wn:∀ {n rec},g n=some rec→(match g n with|some rec=>some rec|none=>if p n then some (ba+szB rs) else none)=some rec:=fun J=>by rw[J]
 have abS:∀ {n},(match g n with|some rec=>some rec|none=>if p n then some (ba+szB rs) else none)=none→g n=none∧¬p n:=fun {n} J=>by
  grind
 have Wo:∀ {n rec},(match g n with|some rec=>some rec|none=>if p n then some (ba+szB rs) else none)=some rec→g n=some rec∨(g n=none∧p n∧rec=ba+szB rs):=fun {n rec} J=>by
  grind
 have abT:∀ {n t r1 t'},rs++[r]=t++r1::t'→u7 r1 n→¬p n→∃RK,rs=t++r1::RK:=fun {n t r1 t'} ht hc J=>by
  rcases v8 t' with rfl|⟨RK,z,rfl⟩<;>grind[List.append_inj']
 refine⟨m1.trans h.base,m2,e1,e2.trans h.alive,by rw[e3];exact h.aU,?_,by rw[m3,e4];exact h.cert,fun n w t t' h0 ht Cx hr hc => ?_,fun n rec J => ?_,fun n J => ?_,fun n b hb => ?_,fun n rec J => ?_,h.ft,fun n b hb => ?_,fun n rec fl J => ?_,fun n rec J => ?_,fun n w h0 hc=>h.ck n w h0 (I n w hc),fun n Ka J=>⟨rs,r,rfl,?_⟩⟩
 ·obtain⟨u,v,hu,hf⟩:=h.forced<;>grind
 ·have Cx:x.1.forced≤szB t:=by grind
  rcases v8 t' with rfl|⟨RK,z,rfl⟩
  ·-- all of it
   rw[eZ] at ht
   subst ht
   have hg:g n=none∧¬p n:=by
    cases hq:g n with
    |some rec =>
     obtain⟨a,b,c,k1,k2,_⟩:=h.bO n rec hq<;>grind[BS]
    |none =>
     grind[BS]
   have hs:fM (rs++[r]) B0 n=fM rs B0 n:=by
    rw[xo]
    have:∀(l:List bZ) (σ:Int→List Nat),(∀c∈l,c.aK≠n)→jb l σ n=σ n:=by
     intro l
     induction l with
     |nil=>intro σ _;rfl
     |cons c l ih =>
      intro σ hl
      show jb l (jM c σ) n=σ n
      grind[jM]
    exact this _ _ fun c hc q=>hg.2 ((hp n).2 ⟨c,hc,q⟩)
   rw[hs]
   exact h.oJ n w rs [] (by rw[MZ,←e6];exact h0) (by simp) h.le (fun rec q=>by grind) (I n w hc)
  ·have V8:rs++[r]=(t++RK)++[z]:=by grind
   have ht3:=(List.append_inj' V8 rfl).1
   exact h.oJ n w t RK (by rw[MZ,←e6];exact h0) ht3 Cx (fun rec q=>hr rec (Wn q)) (I n w hc)
 ·rcases Wo J with hq|⟨hq,Ka,rfl⟩
  ·obtain⟨a,b,c,k1,k2,k3⟩:=h.bO n rec hq<;>grind
  ·grind
 ·rw[e5]
  exact h.clean n (abS J).1
 ·obtain⟨rec,t,r1,t',k1,k2,k3,k4,k5⟩:=h.RH n b hb
  refine⟨rec,t,r1,t'++[r],k1,by grind,k3,k4,fun Ka t1 r2 t2 e q => ?_⟩
  obtain⟨t3,e3⟩:=abT e q Ka
  exact k5 (fun q=>q) t1 r2 t3 e3 q
 ·obtain⟨k1,k2⟩:=h.flag n rec J<;>grind
 ·obtain⟨wr,k1,k2⟩:=h.now n b (by grind)
  exact⟨wr,by grind,k2⟩
 ·exact Wn (h.J_ n rec fl J)
 ·rcases Wo J with hq|⟨hq,Ka,rfl⟩
  ·rcases h.RJ n rec hq with q|q
   ·grind
   ·grind
  ·grind
 ·cases hq:g n with
  |none=>grind
  |some rec =>
   rcases h.RJ n rec hq with q|⟨fl,q⟩
   ·grind
   ·grind
end
theorem UB (I:b.length=512)(J:n<18446744073709551616): dF (cz b n) 4 8=n:=by
 have h3:=(nL (n:=n) I).2.2.1
 have e1:dF (cz b n) 4 8=leN (((cz b n).drop 4).take 8):=by rfl
 grind[oG,le,a_,cO,sG]
section
theorem oW {p:Int→Prop}: vw (RI ba p B0 rs g) ε↔RI ba p B0 rs g (mG ε.1) ε.1.bO ε.2:=Iff.rfl
theorem RI.put (h:vw (RI ba mB B0 rs g) ε)(he:EC N ε){n:Int}{f:Fm}(hl:lookL n ε.1.bQ=some (i:Int))(hf:ε.1.ai[i]?=some f)(hb:b.length=512)(h0:0≤n)(hp:mB n)
 (J:∃t r,rs=t++[r]∧aF=ba+szB t)(cH:aF<18446744073709551616): vw (RI ba (fun m=>mB m∧m≠n) B0 rs g) (uV ε.1 n i f b aF,ε.2):=by
 have hi:=(List.getElem?_eq_some_iff.1 hf).1
 obtain⟨t0,r0,e0,e1⟩:=J
 have gP:f.aK=n:=by
  obtain⟨_,j,x,si,hx,GX⟩:=he.mA n i hl<;>grind
 have hd:∀m,lookL m (b8 n (fS ε.1 n aF,true) ε.1.bO)=if n=m then some (fS ε.1 n aF,true) else lookL m ε.1.bO:=fun m=>fH _
 have hg:g n=some (fS ε.1 n aF)∧fS ε.1 n aF≤aF:=by
  cases I:lookL n ε.1.bO with
  |some x =>
   obtain⟨rec,fl⟩:=x
   have:=h.J_ n rec fl I
   have e:fS ε.1 n aF=rec:=by simp only[fS,I]
   rw[e]
   refine⟨this,?_⟩
   obtain⟨a,c,a',k1,k2,_⟩:=h.bO n rec this
   rw[k2,e1]
   have:szB a≤szB t0:=by
    rcases v8 a' with rfl|⟨yO,z,rfl⟩<;>grind[List.append_inj',xp]
   omega
  |none =>
   have e:fS ε.1 n aF=aF:=by simp only[fS,I]
   obtain⟨t,r,k1,k2⟩:=h.Wm n hp I<;>grind[List.append_inj']
 have hC:∀m c,mG (uV ε.1 n i f b aF) m c→(m=n∧c=cz b aF)∨(m≠n∧mG ε.1 m c):=by
  rintro m c ⟨j,y,hy,k1,k0,k2,k3⟩
  rcases ql hf hy with⟨rfl,rfl⟩|⟨si,hy⟩
  ·grind
  ·refine .inr ⟨fun hmn=>si ?_,j,y,hy,k1,k0,k2,k3⟩
   have h1:=((he.back j y hy).resolve_left (by omega)).here
   grind
 have hC2:mG (uV ε.1 n i f b aF) n (cz b aF):=⟨i,{ f with b:=cz b aF,changed:=true,pins:=0 },by exact j4 hi,gP,h0,rfl,rfl⟩
 have hC3:∀m c,m≠n→mG ε.1 m c→mG (uV ε.1 n i f b aF) m c:=by
  rintro m c hm ⟨j,y,hy,k1,k0,k2,k3⟩
  refine⟨j,y,?_,k1,k0,k2,k3⟩
  show(ε.1.ai.set i _)[j]?=some y
  grind
 have Ka:∀ {m},m≠n→¬(mB m∧m≠n)→¬mB m:=fun hm I ku=>I ⟨ku,hm⟩
 refine⟨h.base,h.b,h.log,h.alive,h.aU,h.forced,h.cert,h.oJ,h.bO,h.clean,fun m c hc => ?_,fun m rec hm => ?_,fun m rec hm => ?_,h.now,fun m rec fl hm => ?_,fun m rec hm => ?_,h.ck,fun m hm I => ?_⟩
 ·rcases hC m c hc with⟨rfl,rfl⟩|⟨hm,hc⟩
  ·refine⟨fS ε.1 m aF,t0,r0,[],?_,e0,?_,?_,fun _ t1 r1 t2 q _ => ?_⟩
   ·show lookL m (b8 m _ _)=_;rw[hd,aC rfl]
   ·rw[UB hb cH,e1]
   ·omega
   ·rcases v8 t2 with rfl|⟨t3,z,rfl⟩<;>grind[List.append_inj',xp]
  ·obtain⟨rec,t,r,t',k1,k2,k3,k4,k5⟩:=h.RH m c hc
   exact⟨rec,t,r,t',by show lookL m (b8 n _ _)=_;rw[hd,ak (fun q=>hm q.symm)];exact k1,k2,k3,k4,fun q=>k5 (Ka hm q)⟩
 ·have hm:lookL m (b8 n (fS ε.1 n aF,true) ε.1.bO)=some (rec,false):=hm
  rw[hd] at hm
  by_cases I:n=m
  ·grind
  ·rw[ak I] at hm
   obtain⟨k1,k2⟩:=h.flag m rec hm
   exact⟨k1,fun q=>k2 (Ka (fun q=>I q.symm) q)⟩
 ·have hm:lookL m (b8 n (fS ε.1 n aF,true) ε.1.bO)=some (rec,true):=hm
  rw[hd] at hm
  by_cases I:n=m
  ·grind
  ·rw[ak I] at hm
   obtain⟨c,hc⟩:=h.ft m rec hm
   exact⟨c,hC3 m c (fun q=>I q.symm) hc⟩
 ·have hm:lookL m (b8 n (fS ε.1 n aF,true) ε.1.bO)=some (rec,fl):=hm
  rw[hd] at hm
  by_cases I:n=m
  ·grind
  ·rw[ak I] at hm
   exact h.J_ m rec fl hm
 ·by_cases I:n=m
  ·subst I
   rw[hg.1] at hm
   exact .inr ⟨true,by show lookL n (b8 n _ _)=_;rw[hd,aC rfl,cg hm]⟩
  ·rcases h.RJ m rec hm with q|⟨fl,q⟩
   ·grind
   ·exact .inr ⟨fl,by show lookL m (b8 n _ _)=_;rw[hd,ak I];exact q⟩
 ·have I:lookL m (b8 n (fS ε.1 n aF,true) ε.1.bO)=none:=I
  rw[hd,ak (fun q=>hm.2 q.symm)] at I
  exact h.Wm m hm.1 I
theorem PtR.ri {l:List Int}(J:PtR now aF l ε e aj): ∀ {p:Int→Prop},EC N ε→iL ε→NW N now→(∀n∈l,0≤n∧n<N)→l.Nodup→(∀n∈l,p n)→(∃t r,rs=t++[r]∧aF=ba+szB t)→aF<18446744073709551616 →
  vw (RI ba p B0 rs g) ε→vw (RI ba (fun m=>p m∧m∉l) B0 rs g) aj:=by
 induction J with
 |nil ε =>
  simp
 |jF n l ε e b aj J he =>
  intro p h h3 hn hl
  have:=hl n bX
  exact absurd ((J.ec h).2.2.1 this.1 this.2).1 he
 |bad n l ε b0 b aj J hb he =>
  intro p h h3 hn hl
  exact absurd ((J.put (b:=b) (aF:=aF) h3).2.2 (hn.look hb).1) he
 |put n l ε b0 b aj e k_ J hb he ht ih =>
  intro p h h3 hn hl ju hp I cH hv
  have oQ:=hl n bX
  obtain⟨k1,k2,k3,k4⟩:=J.ec h
  obtain⟨i,f,p1,p2,p3,p4,p5⟩:=J.at h3.pins
  have hg:=hn.look hb
  have e1:=tE (aF:=aF) p1 p2 p3 hg.1
  obtain⟨q1,q2⟩:=k1.put (aF:=aF) p1 p2 hg.1 hg.2 oQ.1 oQ.2
  have GY:=(J.put (b:=b) (aF:=aF) h3).1
  have uK:vw (RI ba p B0 rs g) aj:=(RI.rO N).jF J h hv
  have qy:=RI.put uK k1 p1 p2 (fb hg.1) oQ.1 (hp n bX) I cH
  rw[e1] at ih GY
  obtain⟨d1,d2⟩:=List.nodup_cons.1 ju
  have:=ih q1 GY hn (fun m hm=>hl m (bW _ hm)) d2 (p:=fun m=>p m∧m≠n) (fun m hm=>⟨hp m (bW _ hm),fun q=>d1 (by grind)⟩) I cH qy
  have e:(fun m=>(p m∧m≠n)∧m∉l)=(fun m=>p m∧m∉n::l):=funext fun m=>propext ⟨fun q=>⟨q.1.1,by grind⟩,fun q=>by
   grind⟩
  rw[←e];exact this
end
theorem RL {n:Int}: ∀ {l:List bZ} {σ:Int→List Nat},(∀c∈l,c.aK≠n)→jb l σ n=σ n:=by
 intro l
 induction l with
 |nil=>intro σ _;rfl
 |cons c l I =>
  intro σ J
  show jb l (jM c σ) n=σ n
  grind[jM]
theorem UC {n:Int}: ∀ {l:List bV} {σ:Int→List Nat},(∀r∈l,¬u7 r n)→fM l σ n=σ n:=by
 intro l
 induction l with
 |nil=>intro σ _;rfl
 |cons r l J =>
  intro σ I
  show fM l (jb r.aR σ) n=σ n
  rw[J fun r hr=>I r (bW _ hr),RL fun c hc q=>I r bX ⟨c,hc,q⟩]
theorem UD {now:List Nat}{l:List bZ}(I:uT pg er now i l): ∀c∈l,c.aK=pg:=by
 induction I<;>grind
theorem Kb {now:List Nat}{c:List bZ}(I:GQ pg er now c): (∀x∈c,x.aK=pg)∧c≠[]:=by
 obtain⟨l,J,rfl⟩:=I<;>grind[UD]
theorem aaw {now:List Nat}{l:List bZ}(I:uT pg er now i l)(J:∀x∈now,x<256): ∀c∈l,∀x∈c.b,x<256:=by
 induction I<;>grind
theorem aax {now:List Nat}{c:List bZ}(I:GQ pg er now c)(J:∀x∈now,x<256): ∀x∈c,∀y∈x.b,y<256:=by
 obtain⟨l,hl,rfl⟩:=I
 by_cases hz:l=[]
 ·grind
 ·rw[ak hz]
  exact aaw hl J
theorem iw.lt {l:List Int}{cs:List bZ}(hr:iw now l ε e cs aj)(hn:NW N now): ∀c∈cs,∀x∈c.b,x<256:=by
 induction hr with
 |nil ε=>simp
 |err n l ε e b aj hr he=>simp
 |part n l ε er b aj c e cs J hr hb iP hc jO ht ih =>
  intro x I
  rcases List.mem_append.1 I with I|I
  ·exact aax hc (hn.look hb).2 x I
  ·grind
 |whole n l ε er b aj e cs J hr hb iP ht ih =>
  intro x I
  rcases List.mem_cons.1 I with rfl|I
  ·exact(hn.look hb).2
  ·grind
structure Kc (rs:List bV)(B0:Int→List Nat): Prop where
 lt0:∀n,∀x∈B0 n,x<256
 lt:∀r∈rs,∀c∈r.aR,∀x∈c.b,x<256
 gd:∀t t' n,rs=t++t'→(∃r∈t,u7 r n)→cf (fM t B0 n)=true
theorem X_ : ∀ {cs:List bZ} {σ:Int→List Nat},(∀c∈cs,∀x∈c.b,x<256)→(∀n,∀x∈σ n,x<256)→∀n,∀x∈jb cs σ n,x<256:=by
 intro cs
 induction cs with
 |nil=>intro σ _ h;exact h
 |cons c cs J =>
  intro σ I h
  refine J (σ:=jM c σ) (fun x hx=>I x (bW _ hx)) fun n => ?_
  rw[jM]
  split
  ·split
   ·grind
   ·exact Ad (h n) (I c bX)
  ·grind
theorem aay : ∀ {rs:List bV} {σ:Int→List Nat},(∀r∈rs,∀c∈r.aR,∀x∈c.b,x<256)→(∀n,∀x∈σ n,x<256)→∀n,∀x∈fM rs σ n,x<256:=by
 intro rs
 induction rs with
 |nil=>intro σ _ h;exact h
 |cons r rs J=>intro σ I h;exact J (σ:=jb r.aR σ) (fun x hx=>I x (bW _ hx)) (X_ (I r bX) h)
theorem Kc.app {r:bV}(h:Kc rs B0)(h1:∀c∈r.aR,∀x∈c.b,x<256)(h2:∀n,u7 r n→cf (fM (rs++[r]) B0 n)=true): Kc (rs++[r]) B0:=by
 refine⟨h.lt0,fun x I => ?_,fun t t' n ht hc => ?_⟩
 ·rcases List.mem_append.1 I with I|I
  ·exact h.lt x I
  grind
 ·rcases v8 t' with rfl|⟨J,z,rfl⟩
  ·rw[eZ] at ht
   subst ht
   by_cases hq:u7 r n
   ·grind
   ·obtain⟨x,I,hx2⟩:=hc
    rcases List.mem_append.1 I with I|I
    ·rw[xo]
     have:fM [r] (fM rs B0) n=fM rs B0 n:=UC fun y hy=>by grind
     rw[this]
     exact h.gd rs [] n (by simp) ⟨x,I,hx2⟩
    grind
  ·have V8:rs++[r]=(t++J)++[z]:=by grind
   exact h.gd t J n (List.append_inj' V8 rfl).1 hc
def StP (N:Nat)(rs:List bV)(B0:Int→List Nat)(ε:bA): Prop:=∀n,0≤n→n<(N:Int)→lz (fM rs B0 n) (pgA ε n)
abbrev Ez : Int→Prop:=fun _=>False
section
theorem iw.st {l:List Int}{cs:List bZ}(J:iw now l ε e cs aj): ∀ {σ:Int→List Nat},EC N ε→iL ε→NW N now→l.Nodup→(∀n∈l,0≤n∧n<N)→vw (RI ba Ez B0 rs g) ε→(∀n∈l,lz (σ n) (pgA ε n)) →
  (∀n∈l,∀b,lookL n now=some b→lz (jb cs σ n) b)∧(∀n,n∉l→jb cs σ n=σ n)∧(∀n,(∃c∈cs,c.aK=n)↔n∈l)∧∀n∈l,g n=none→AO cs n:=by
 induction J with
 |nil ε=>intro σ _ _ _ _ _ _ _;exact⟨fun n I=>(by cases I),fun _ _=>rfl,fun n=>⟨fun⟨c,hc,_⟩=>(by cases hc),fun I=>(by cases I)⟩,fun n I=>(by cases I)⟩
 |err n l ε e b aj J he =>
  intro σ h h3 I hd hl
  have:=hl n bX
  exact absurd ((J.ec h h3.pins).2.2.1 this.1 this.2).1 he
 |part n l ε er b aj c e cs k_ J hb iP hc jO ht ih =>
  intro σ h h3 I hd hl hv SE
  obtain⟨d1,d2⟩:=List.nodup_cons.1 hd
  have oQ:=hl n bX
  obtain⟨k1,k2,k3,_⟩:=J.ec h h3.pins
  have Cg:vw (RI ba Ez B0 rs g) aj:=(RI.rO N).rd J h hv
  obtain⟨q1,q2⟩:=aav hc (fb (I.look hb).1) (σ:=σ) (by grind)
  obtain⟨p1,p2⟩:=Kb hc
  obtain⟨i1,i2,i3,i4⟩:=ih (σ:=jb c σ) k1 (J.lS h3) I d2 (fun m hm=>hl m (bW _ hm)) Cg (fun m hm=>by
   grind)
  refine⟨fun m hm b' pQ => ?_,fun m hm => ?_,fun m => ?_,fun m hm hg => ?_⟩
  ·rw[J9]
   grind
  ·simp_all[J9]
  ·constructor
   ·grind
   ·intro hm
    rcases List.mem_cons.1 hm with rfl|hm
    ·obtain⟨x,hx⟩:=List.exists_mem_of_ne_nil _ p2<;>grind
    grind
  ·rcases List.mem_cons.1 hm with rfl|hm
   ·cases hq:lookL m aj.1.bO with
    |none=>grind
    |some y =>
     obtain⟨rec,fl⟩:=y
     have:=(oW.1 Cg).J_ m rec fl hq
     rw[hg] at this
     cases this
   ·obtain⟨x,hx,e⟩:=i4 m hm hg
    exact⟨x,List.mem_append.2 (.inr hx),e⟩
 |whole n l ε er b aj e cs k_ J hb iP ht ih =>
  intro σ h h3 I hd hl hv SE
  obtain⟨d1,d2⟩:=List.nodup_cons.1 hd
  obtain⟨k1,k2,k3,_⟩:=J.ec h h3.pins
  have Cg:vw (RI ba Ez B0 rs g) aj:=(RI.rO N).rd J h hv
  have q2:∀m,m≠n→jM ⟨n,0,true,b⟩ σ m=σ m:=fun m hm=>by rw[jM,ak hm]
  have q1:jM ⟨n,0,true,b⟩ σ n=b:=by grind[jM]
  obtain⟨i1,i2,i3,i4⟩:=ih (σ:=jM ⟨n,0,true,b⟩ σ) k1 (J.lS h3) I d2 (fun m hm=>hl m (bW _ hm)) Cg (fun m hm=>by
   grind)
  refine⟨fun m hm b' pQ => ?_,fun m hm => ?_,fun m => ?_,fun m hm hg => ?_⟩
  ·show lz (jb cs (jM _ σ) m) b'
   rcases List.mem_cons.1 hm with rfl|hm
   ·rw[hb] at pQ
    rw[←cg pQ,i2 m d1,q1];exact lz.refl (fb (I.look hb).1)
   ·grind
  ·simp_all[jb]
  ·grind[List.mem_cons_self]
  ·rcases List.mem_cons.1 hm with rfl|hm
   ·exact⟨_,bX,rfl,rfl⟩
   ·obtain⟨x,hx,e⟩:=i4 m hm hg
    exact⟨x,bW _ hx,e⟩
end
structure RS (N ba aH:Nat)(mk:List Nat)(rs:List bV)(B0:Int→List Nat)(g:Int→Option Nat)(ε:bA): Prop where
 lr:LR ba aH mk rs ε.2
 ri:vw (RI ba Ez B0 rs g) ε
 st:StP N rs B0 ε
 gd:Kc rs B0
theorem RS.pre (h:RS N ba aH mk rs B0 g ε)(I:∀P:VP,nN N P→vw P ε→vw P aj)(J:∀m,pgA aj m=pgA ε m): RS N ba aH mk rs B0 g aj :=
 ⟨I _ ((m_ ba aH mk rs).rO N) h.lr,I _ (RI.rO N) h.ri,fun n a b=>by rw[J];exact h.st n a b,h.gd⟩
theorem EA {a b v:List bV}(h:a++b=u++v)(hs:szB a≤szB u): ∃w,u=a++w∧b=w++v:=by
 rcases List.append_eq_append_iff.1 h with⟨w,I,J⟩|⟨w,I,J⟩
 ·grind
 ·cases w<;>grind[BS]
structure Wp (ba aH:Nat)(data:List Nat)(rs r1:List bV)(F:Nat)(g:Int→Option Nat): Prop where
 low:∀n rec,g n=some rec→ba+szB r1≤rec
 pt:(aH=0∧data=[]∧r1=[])∨∃A1 rc B,rs=(r1++A1)++rc::B∧aH=ba+szB (r1++A1)∧aH≠0∧rc.kd=8∧8≤rc.data.length∧data=rc.data.drop 8∧max ba (leN (rc.data.take 8))=ba+szB r1∧szB (r1++A1)+rc.len≤F
section
theorem Wp.at (h:Wp ba aH data rs r1 F g){v:List bV}(hu:rs=u++v)(hF:F≤szB u): ∃r2,Uv ba aH u data r1 r2:=by
 rcases h.pt with⟨k1,k2,I⟩|⟨A1,rc,B,k1,k2,I,J,k5,k6,k7,k8⟩
 ·exact⟨u,by grind,.inl ⟨k1,k2,I⟩⟩
 ·obtain⟨w,hw,_⟩:=EA (a:=(r1++A1)++[rc]) (b:=B) (u:=u) (v:=v) (by grind) (by grind[iI,szB])
  exact⟨A1++rc::w,by grind,.inr ⟨r1++A1,rc,w,by grind,k2,I,J,k5,k6,k7⟩⟩
end
structure C6 (ba:Nat)(B0:Int→List Nat)(u v r1 r2:List bV)(δ:Dk): Prop where
 split:u=r1++r2
 rs:∀r∈u++v,r.Ok
 log:∃j,δ.log++δ.tail=logB ba (u++v)++j∧rP j
 cert:szB u≤δ.bu
 len:δ.bu≤δ.log.length
 gd:Kc (u++v) B0
 oJ:∀n w t t',MZ δ n→v=t++t'→¬sJ (r2++t) n→yB δ n w→lz (fM (u++t) B0 n) w∧gM w=0
 eV:∀w,δ.eV=some w→sJ r2 w.1
theorem RS.cr (h:RS N ba aH mk rs B0 g ε)(hc:Wp ba aH data rs r1 ε.2.1.forced g)(iO:ε.2.2.Ok):
  ∃u v r2,rs=u++v∧ε.2.1.forced=szB u∧Uv ba aH u data r1 r2∧C6 ba B0 u v r1 r2 ε.2.2:=by
 have hv:=oW.1 h.ri
 obtain⟨u,v,hu,hf⟩:=hv.forced
 obtain⟨r2,J⟩:=hc.at hu (by omega)
 refine⟨u,v,r2,hu,hf,J,J.1,by rw[←hu];exact h.lr.rs,⟨[],by rw[h.lr.tail,h.lr.log,hu],.inl (by decide)⟩,by rw[←hf];exact hv.cert,iO.bu,by rw[←hu];exact h.gd,fun n w t t' h0 ht hw pS => ?_,fun w hq=>by rw[h.lr.eV] at hq;cases hq⟩
 refine⟨hv.oJ n w (u++t) t' h0 (by grind) (by rw[hf];exact xp) (fun rec I => ?_) pS,hv.ck n w h0.1 pS⟩
 refine EM fun cH => ?_
 obtain⟨a,r,b,k1,k2,k3⟩:=hv.bO n rec I
 have CQ:=hc.low n rec I
 have eL:szB a<szB (u++t):=by omega
 obtain⟨w1,e1,e2⟩:=EA (a:=a) (b:=r::b) (u:=u++t) (v:=t') (by grind) (Nat.le_of_lt eL)
 cases w1 with
 |nil=>grind
 |cons y w1 =>
  injection e2 with e2 e3
  subst e2
  obtain⟨w2,e4,e5⟩:=EA (a:=r1) (b:=r2++t) (u:=a) (v:=r::w1) (by rw[←e1,J.1,cT]) (by omega)
  exact hw ⟨r,by grind,k3⟩
def imgL (P:List (Option (List Nat)))(n:Int): List Nat:=match P[n.toNat]? with
 |some (some b)=>b
 |_=>List.replicate 512 0
theorem Ke {P:List (Option (List Nat))}{n:Int}(I:0≤n): imgL (P.set k (some b)) n=imgL P n∨(((k:Nat):Int)=n∧imgL (P.set k (some b)) n=b):=by
 grind[imgL]
theorem UE {c:List Nat}{n:Int}(I:0≤n): ∀ {W:List Wr} {i:Nat} {P:List (Option (List Nat))},imgL (layW c i W P) n=imgL P n∨∃wr∈W,((wr.1:Nat):Int)=n∧imgL (layW c i W P) n=wr.2:=by
 intro W
 induction W<;>grind[layW,Ke]
theorem RM {c:List Nat}{n:Int}(I:0≤n){P:List (Option (List Nat))}{o:Option Wr}: imgL (tornP c k P o) n=imgL P n∨∃w,o=some w∧((w.1:Nat):Int)=n:=by
 cases o<;>grind[tornP,Ke]
theorem RN {j:List Nat}(h:rP j): rP (j.take k):=by
 by_cases J:k<8
 ·left;rw[gR];omega
 ·rcases h with h|h
  ·left;rw[gR];omega
  ·by_cases I:(j.take k).length<8
   ·exact .inl I
   ·right
    grind
theorem UF {j:List Nat}(I:∀r∈rs,r.Ok)(hj:rP j): ∃cy ey J,rs=cy++ey∧(logB n rs++j).take K=logB n cy++J∧rP J:=by
 by_cases hK:K≤(logB n rs).length
 ·rw[vW hK]
  exact X8 rs n K I
 ·refine⟨rs,[],j.take (K-(logB n rs).length),by simp,?_,RN hj⟩<;>grind[List.take_append,List.take_of_length_le]
theorem OI {a b t:List Nat}(h:c≤a.length): a.take c++(a.drop c++t).take K=(a++t).take (c+K):=by
 grind
section
variable {v:List bV}
theorem C6.abU (h:C6 ba B0 u v r1 r2 δ)(c:List Nat): ∃t t',v=t++t'∧C6 ba B0 (u++t) [] r1 (r2++t) (eN δ c):=by
 obtain⟨j,hl,hj⟩:=h.log
 have CV:(eN δ c).log=(δ.log++δ.tail).take (δ.bu+kq δ c):=OI (b:=[]) h.len
 have hlu:(logB ba u).length=szB u:=fZ
 have hcu:=h.cert
 obtain⟨t,t',j',e1,e2,e3⟩:=UF (rs:=v) (n:=ba+szB u) (K:=δ.bu+kq δ c-szB u) (j:=j) (fun r hr=>h.rs r (List.mem_append.2 (.inr hr))) hj
 have aeh:(eN δ c).log=logB ba (u++t)++j':=by
  rw[CV,hl,u6,cT,List.take_append,gB (by omega),hlu,e2,u6,cT]
 refine⟨t,t',e1,by rw[h.split,cT],fun r hr => ?_,⟨j',by grind[eN],e3⟩,?_,aV _,?_,fun n w a b h0 oL hw I => ?_,fun w hq=>(by cases hq)⟩
 ·refine h.rs r ?_<;>grind
 ·grind[eN,fZ]
 ·refine⟨h.gd.lt0,fun r hr => ?_,fun a b n oL jx=>h.gd.gd a (b++t') n ?_ jx⟩
  ·refine h.gd.lt r ?_<;>grind
  grind
 ·have hlen:(eN δ c).aq.length=δ.aq.length:=by
   show(tornP c _ _ δ.eV).length=_
   cases δ.eV<;>grind[FZ,tornP]
  have D_:MZ δ n:=⟨h0.1,by rw[←hlen];exact h0.2⟩
  have h0:=h0.1
  obtain⟨rfl,rfl⟩:=List.append_eq_nil_iff.1 oL.symm
  rw[eZ] at hw ⊢
  have J:w=imgL (tornP c δ.waiting.length (layW c 0 δ.waiting δ.aq) δ.eV) n:=by
   rcases I with I|⟨wr,vn,_⟩
   ·exact I
   ·cases vn
  have abV:yB δ n w:=by
   rcases RM (c:=c) (k:=δ.waiting.length) h0 (P:=layW c 0 δ.waiting δ.aq) (o:=δ.eV) with q|⟨wt,q1,q2⟩
   ·rw[q] at J
    rcases UE (c:=c) h0 (W:=δ.waiting) (i:=0) (P:=δ.aq) with q|⟨wr,k1,k2,k3⟩
    ·exact .inl (J.trans q)
    ·exact .inr ⟨wr,k1,k2,J.trans k3⟩
   ·exfalso
    obtain⟨r,hr,hc⟩:=h.eV wt q1
    rw[q2] at hc
    exact hw ⟨r,List.mem_append.2 (.inl hr),hc⟩
  exact h.oJ n w t t' D_ e1 hw abV
end
structure OpD (ba:Nat)(B0:Int→List Nat)(u r1 r2:List bV)(N:Nat)(δ:Dk): Prop where
 cr:C6 ba B0 u [] r1 r2 δ
 tail:δ.tail=[]
 aq:δ.aq.length=N
 keys:∀k:Int,k∈δ.now.map (·.1)→0≤k∧k<N
 nodup:(δ.now.map (·.1)).Nodup
 nw:∀n b,lookL n δ.now=some b→sJ r2 n
section
theorem OpD.die (h:OpD ba B0 u r1 r2 N δ): OpD ba B0 u r1 r2 N δ.die :=
 ⟨⟨h.cr.split,h.cr.rs,h.cr.log,h.cr.cert,h.cr.len,h.cr.gd,h.cr.oJ,h.cr.eV⟩,h.tail,h.aq,h.keys,h.nodup,h.nw⟩
theorem OpD.dh (h:OpD ba B0 u r1 r2 N δ): OpD ba B0 u r1 r2 N δ.dh :=
 ⟨⟨h.cr.split,h.cr.rs,h.cr.log,h.cr.cert,h.cr.len,h.cr.gd,h.cr.oJ,h.cr.eV⟩,h.tail,h.aq,h.keys,h.nodup,h.nw⟩
theorem OpD.aaz (h:OpD ba B0 u r1 r2 N δ): ∃j,δ.log=logB ba u++j∧rP j:=by
 obtain⟨j,I,J⟩:=h.cr.log
 rw[h.tail,eZ,eZ] at I
 exact⟨j,I,J⟩
theorem OpD.dQ (h:OpD ba B0 u r1 r2 N δ): OpD ba B0 u r1 r2 N (δ.dQ (szB u)).2∧((δ.dQ (szB u)).1=0→(δ.dQ (szB u)).2.log=logB ba u):=by
 obtain⟨j,I,J⟩:=h.aaz
 have hl:(logB ba u).length=szB u:=fZ
 unfold Dk.dQ
 split
 ·unfold Dk.qM
  split
  ·grind
  ·rw[ak (by omega)]
   split
   ·exact⟨h.die,fun q=>(by cases q)⟩
   ·have e:δ.log.take (szB u)=logB ba u:=by grind
    refine⟨⟨⟨h.cr.split,h.cr.rs,⟨[],?_,.inl (by decide)⟩,aV _,?_,h.cr.gd,h.cr.oJ,h.cr.eV⟩,h.tail,h.aq,h.keys,h.nodup,h.nw⟩,fun _=>e⟩
    ·show δ.log.take (szB u)++δ.tail=_
     rw[e,h.tail,eZ,eZ,eZ]
    grind
 ·simp_all
theorem OpD.cF (h:OpD ba B0 u r1 r2 N δ): OpD ba B0 u r1 r2 N δ.cF.2:=by
 unfold Dk.cF
 split
 ·exact h
 ·split
  ·exact h.die
  ·have:=h.cr.len
   have:=h.cr.cert
   exact⟨⟨h.cr.split,h.cr.rs,h.cr.log,by grind,aV _,h.cr.gd,h.cr.oJ,h.cr.eV⟩,h.tail,h.aq,h.keys,h.nodup,h.nw⟩
theorem OpD.c7 (h:OpD ba B0 u r1 r2 N δ): OpD ba B0 u r1 r2 N (δ.c7 (szB u)).2∧((δ.c7 (szB u)).1=0→(δ.c7 (szB u)).2.log=logB ba u):=by
 obtain⟨t1,t2⟩:=h.dQ
 unfold Dk.c7
 split
 ·grind
 ·rename_i I
  have t2:=t2 (Classical.not_not.1 I)
  split
  ·refine⟨t1.cF,fun _ => ?_⟩
   have:(δ.dQ (szB u)).2.cF.2.log=(δ.dQ (szB u)).2.log:=by
    unfold Dk.cF
    split
    ·rfl
    ·split<;>rfl
   rw[this,t2]
  ·grind
theorem OpD.bL (h:OpD ba B0 u r1 r2 N δ){k:Int}(hk:sJ r2 k): OpD ba B0 u r1 r2 N (δ.bL k b).2∧((δ.bL k b).1=0→0≤k∧k<N∧∀n,lookL n (δ.bL k b).2.now=if k=n then some b else lookL n δ.now):=by
 unfold Dk.bL
 split
 ·grind
 ·split
  ·grind
  ·rename_i hr
   have hr:=Classical.not_not.1 hr
   have hN:=h.aq
   split
   ·refine⟨⟨⟨h.cr.split,h.cr.rs,h.cr.log,h.cr.cert,h.cr.len,h.cr.gd,h.cr.oJ,fun w hw => ?_⟩,h.tail,h.aq,h.keys,h.nodup,h.nw⟩,fun q=>(by cases q)⟩<;>grind
   ·refine⟨⟨⟨h.cr.split,h.cr.rs,h.cr.log,h.cr.cert,h.cr.len,h.cr.gd,fun n w t t' h0 ht hw pS => ?_,h.cr.eV⟩,h.tail,h.aq,fun x hx => ?_,iN h.nodup,fun n c J => ?_⟩,fun _=>⟨hr.1,by omega,fun n=>fH _⟩⟩
    ·refine h.cr.oJ n w t t' h0 ht hw ?_
     rcases pS with hq|⟨wr,I,q1,q2⟩
     ·exact .inl hq
     ·rcases List.mem_append.1 I with I|I
      ·exact .inr ⟨wr,I,q1,q2⟩
      ·exfalso
       obtain⟨r,oQ,LU⟩:=hk
       exact hw ⟨r,List.mem_append.2 (.inl oQ),by grind⟩
    ·rcases pn.1 hx with rfl|hx
     ·omega
     ·exact h.keys x hx
    ·have J:lookL n (b8 k b δ.now)=some c:=J
     rw[fH] at J
     by_cases hq:k=n
     ·grind
     ·rw[ak hq] at J;exact h.nw n c J
theorem OpD.img (h:OpD ba B0 u r1 r2 N δ){n:Int}(I:0≤n): imgOf δ.sync n=match lookL n δ.now with|some b=>b|none=>imgOf δ n:=by
 rw[imgOf,show δ.sync.aq=laidP δ.now δ.aq from rfl,laidP_get h.aq h.nodup h.keys I]
 cases J:lookL n δ.now with
 |some b=>rfl
 |none=>rfl
theorem OpD.iR (h:OpD ba B0 u r1 r2 N δ): OpD ba B0 u r1 r2 N δ.iR.2:=by
 unfold Dk.iR
 split
 ·exact h
 ·split
  ·exact h.die
  ·refine⟨⟨h.cr.split,h.cr.rs,h.cr.log,h.cr.cert,h.cr.len,h.cr.gd,fun n w t t' I ht hw J => ?_,h.cr.eV⟩,h.tail,?_,fun k hk=>(by cases hk),lZ,fun n b hb=>(by cases hb)⟩
   ·have D_:MZ δ n:=⟨I.1,by have:=I.2;rw[show δ.dh.sync.aq=laidP δ.now δ.aq from rfl,vu] at this;exact this⟩
    have I:=I.1
    refine h.cr.oJ n w t t' D_ ht hw (.inl ?_)
    have hq:w=imgOf δ.dh.sync n:=by
     rcases J with hq|⟨wr,vn,_⟩
     ·exact hq
     ·cases vn
    rw[hq,h.dh.img I]
    cases hl:lookL n δ.dh.now with
    |none=>rfl
    |some b =>
     obtain⟨r,oQ,LU⟩:=h.nw n b hl
     exact absurd ⟨r,List.mem_append.2 (.inl oQ),LU⟩ hw
   ·show(laidP δ.now δ.aq).length=N
    rw[vu];exact h.aq
theorem OpD.again : ∀ {l:List Int} {δ:Dk},l.Nodup→(∀k∈l,∀b,lookL k ρ.aq=some b→sJ r2 k)→OpD ba B0 u r1 r2 N δ→OpD ba B0 u r1 r2 N (againW ρ l δ).2 ∧
  ((againW ρ l δ).1=0→(∀n,n∈l→∀b,lookL n ρ.aq=some b→cf b=true→n<N→lookL n (againW ρ l δ).2.now=some (cz b (ov ρ n)))∧(∀n,n∉l→lookL n (againW ρ l δ).2.now=lookL n δ.now)):=by
 intro l
 induction l with
 |nil=>intro δ _ _ h;exact⟨h,fun _=>⟨fun n J=>(by cases J),fun _ _=>rfl⟩⟩
 |cons k l ih =>
  intro δ ju I h
  have yN:∀x∈l,∀b,lookL x ρ.aq=some b→sJ r2 x:=fun x hx=>I x (bW _ hx)
  rw[againW]
  cases hq:lookL k ρ.aq with
  |none =>
   grind
  |some b =>
   simp only
   have hN:=h.aq
   split
   ·obtain⟨w1,w2⟩:=h.bL (k:=k) (b:=cz b (ov ρ k)) (I k bX b hq)
    split
    ·grind
    ·grind
   grind
theorem OpD.eC (h:OpD ba B0 u r1 r2 N δ)(hn:δ.now=[])(hw:δ.waiting=[]): OpD ba B0 u r1 r2 N (eC δ ba u r1 r2).2∧((eC δ ba u r1 r2).1=0 →
  (eC δ ba u r1 r2).2.log=logB ba u∧(eC δ ba u r1 r2).2.now=[]∧(eC δ ba u r1 r2).2.waiting=[] ∧
  ∀n,0≤n→n<(N:Int)→lz (fM u B0 n) (imgOf (eC δ ba u r1 r2).2 n)∧gM (imgOf (eC δ ba u r1 r2).2 n)=0):=by
 have I:=X9 r2 (ba+szB r1) (fM r1 B0)
 have hS:fM r2 (fM r1 B0)=fM u B0:=by rw[h.cr.split,xo]
 rw[hS] at I
 have F0:∀r∈r2,r.Ok:=fun r hr=>h.cr.rs r (by rw[eZ,h.cr.split];exact List.mem_append.2 (.inr hr))
 have iO:(redoL (ba+szB r1) r2 iH.none).Ok:=C2 BR F0
 obtain⟨o1,o2⟩:=h.c7
 obtain⟨f1,f2,f3⟩:=Ev (δ:=δ) (n:=szB u)
 unfold Am.eC
 split
 ·grind
 ·rename_i h0
  have o2:=o2 (Classical.not_not.1 h0)
  generalize hρ:redoL (ba+szB r1) r2 iH.none=ρ at I iO ⊢
  have ju:(bP ρ.aq).Nodup:=(eR _).nodup_iff.2 iO.dup
  obtain⟨a1,a2⟩:=o1.again (ρ:=ρ) ju (fun k _ b hb=>(I.some k b hb).2)
  have abW:∀ {l:List Int} {δ:Dk},(againW ρ l δ).2.log=δ.log:=by
   intro l
   induction l with
   |nil=>intro δ;rfl
   |cons k l ih =>
    intro δ
    have L7:∀b,(δ.bL k b).2.log=δ.log:=fun b=>by
     unfold Dk.bL
     split
     ·rfl
     ·split
      ·rfl
      ·split<;>rfl
    grind[againW]
  have fin:∀J,OpD ba B0 u r1 r2 N J→(againW ρ (bP ρ.aq) (δ.c7 (szB u)).2).1=0→(∀n,0≤n→imgOf J n=match lookL n (againW ρ (bP ρ.aq) (δ.c7 (szB u)).2).2.now with|some b=>b|none=>imgOf (againW ρ (bP ρ.aq) (δ.c7 (szB u)).2).2 n) →
    ∀n,0≤n→n<(N:Int)→lz (fM u B0 n) (imgOf J n)∧gM (imgOf J n)=0:=fun J h1 hz hi n yK vo=>by
   obtain⟨b1,b2⟩:=a2 hz
   rw[hi n yK]
   cases hl:lookL n ρ.aq with
   |some b =>
    obtain⟨e1,e2⟩:=I.some n b hl
    obtain⟨r,oQ,c,zH,yL,_⟩:=e2
    have hg:cf b=true:=by
     rw[e1]
     exact h.cr.gd.gd u [] n (by simp) ⟨r,by rw[h.cr.split];exact List.mem_append.2 (.inr oQ),c,zH,yL⟩
    have hb:∀x∈b,x<256:=by
     rw[e1]
     exact aay (fun r hr=>h.cr.gd.lt r (by grind)) h.cr.gd.lt0 n
    have zJ:n∈bP ρ.aq:=h_.2 ((hG hl) |> tH (f:=(·.1)))
    rw[b1 n zJ b hl hg vo]
    simp only
    rw[←e1]
    exact⟨(C4 (fb hg)).symm,(GV hg hb).1⟩
   |none =>
    have hnw:=I.none n hl
    have sR:lookL n (againW ρ (bP ρ.aq) (δ.c7 (szB u)).2).2.now=none:=by
     cases hq:lookL n (againW ρ (bP ρ.aq) (δ.c7 (szB u)).2).2.now with
     |none=>rfl
     |some b=>exact absurd (a1.nw n b hq) hnw
    rw[sR]
    have:=a1.cr.oJ n _ [] [] ⟨yK,by rw[a1.aq];exact vo⟩ rfl (by grind) (.inl rfl)
    grind
  unfold mC
  split
  ·grind
  ·rename_i hz
   have hz:=Classical.not_not.1 hz
   split
   ·rename_i hp
    have ek:bP ρ.aq=[]:=by rw[hp];rfl
    grind[againW,lookL]
   ·refine⟨a1.iR,fun hs => ?_⟩
    have es:(againW ρ (bP ρ.aq) (δ.c7 (szB u)).2).2.iR=(0,(againW ρ (bP ρ.aq) (δ.c7 (szB u)).2).2.dh.sync):=by
     grind[Dk.iR]
    have hsy:=a1.iR
    rw[es] at hsy ⊢
    refine⟨by show(againW ρ (bP ρ.aq) (δ.c7 (szB u)).2).2.log=_;rw[abW,o2],rfl,rfl,fin _ hsy hz fun n yK => ?_⟩
    rw[a1.dh.img yK]
    rfl
end
theorem OJ {R:Dk→Prop}(I:∀δ k b,R δ→R (δ.bL k b).2): ∀ {l:List Int} {δ:Dk},R δ→R (againW ρ l δ).2:=by
 intro l
 induction l<;>grind[againW]
theorem AP {R:Dk→Prop}(I:∀δ n,R δ→R (δ.c7 n).2)(J:∀δ k b,R δ→R (δ.bL k b).2)(h3:∀δ,R δ→R δ.iR.2)(h:R δ): R (eC δ ba u r1 r2).2:=by
 unfold eC mC
 split
 ·grind
 ·have:=OJ (ρ:=redoL (ba+szB r1) r2 iH.none) (l:=bP (redoL (ba+szB r1) r2 iH.none).aq) J (I δ (szB u) h)
  split
  ·omega
  ·grind
theorem Dk.Ok.syn (h:δ.Ok): δ.iR.2.Ok:=by
 unfold Dk.iR
 split
 ·exact h
 ·split
  ·exact h.die
  ·have I:=h.dh
   refine⟨I.aU,I.len,I.room,fun e he=>(by cases he),fun i b hb => ?_,I.bu,by show(laidP δ.now δ.aq).length≤_;rw[vu];exact I.many⟩
   have key:∀ {l:List (Int×List Nat)} {m:List (Option (List Nat))},(∀e∈l,e.2.length=512)→(∀(i:Nat) (b:List Nat),m[i]?=some (some b)→b.length=512)→∀(i:Nat) (b:List Nat),(laidP l m)[i]?=some (some b)→b.length=512:=by
    intro l
    induction l with
    |nil=>intro m _ hm;exact hm
    |cons e l ih =>
     intro m J hm
     exact ih (fun x hx=>J x (bW _ hx)) (MX hm (J e bX))
   exact key h.now h.aq i b hb
theorem G8 : (δ.c7 n).2.eV=δ.eV∧(δ.c7 n).2.mark=δ.mark:=by
 have I:(δ.dQ n).2.eV=δ.eV∧(δ.dQ n).2.mark=δ.mark:=by
  unfold Dk.dQ Dk.qM
  split
  ·split
   ·simp
   ·split
    ·simp
    ·split<;>exact⟨rfl,rfl⟩
  ·simp
 unfold Dk.c7
 split
 ·exact I
 ·split
  ·unfold Dk.cF
   split
   ·exact I
   ·split<;>exact I
  ·exact I
theorem RO : (eC δ ba u r1 r2).2.mark=δ.mark:=by
 refine AP (R:=fun x=>x.mark=δ.mark) (fun x n h=>G8.2.trans h) (fun x k b h => ?_) (fun x h => ?_) rfl
 ·unfold Dk.bL
  split
  ·exact h
  ·split
   ·exact h
   ·split<;>exact h
 ·unfold Dk.iR
  split
  ·exact h
  ·split<;>exact h
theorem UG (h:δ.Ok): (eC δ ba u r1 r2).2.Ok :=
 AP (R:=Dk.Ok) (fun _ _ h=>h.c7) (fun _ _ _ h=>h.bL) (fun _ h=>h.syn) h
theorem RP (J:δ.aU<0)(ht:δ.eV=none): (eC δ ba u r1 r2).2.eV=none:=by
 have I:∀ {x:Dk} {n:Nat},x.aU<0→(x.c7 n).2.aU<0:=fun {x n} h=>by
  grind[Dk.dQ,Dk.qM,jQ,Dk.c7,Dk.cF]
 refine(AP (R:=fun x=>x.aU<0∧x.eV=none) (fun x n h=>⟨I h.1,G8.1.trans h.2⟩) (fun x k b h => ?_) (fun x h => ?_) ⟨J,ht⟩).2
 ·unfold Dk.bL
  split
  ·exact h
  ·split
   ·exact h
   ·rw[ak (by omega)]
    exact⟨by show x.dh.aU<0;rw[jQ h.1];exact h.1,h.2⟩
 ·unfold Dk.iR
  split
  ·exact h
  ·rw[ak (by omega)]
   exact⟨by rw[jQ h.1];exact h.1,h.2⟩
theorem M1 {n:Int}(I:δ.now=[]): δ.at n=imgOf δ n:=by
 rw[Dk.at,I];rfl
theorem OpD.eng (h:OpD ba B0 u r1 r2 N δ)(hn:δ.now=[])(hw:δ.waiting=[])(ht:δ.eV=none)(hl:Lv δ)(iO:δ.Ok)(hf:1≤f)(GZ:f≤1024)(hB1:1≤B)(hB:B≤1000)(eL:ba+szB u≤B*1048600)(OF:aH≤1099511627776):
  (Am.eC δ ba u r1 r2).1=0∧EI N B (Pl.fresh f,(gZ ba aH u,(Am.eC δ ba u r1 r2).2))∧RS N ba aH δ.mark u B0 (fun _=>none) (Pl.fresh f,(gZ ba aH u,(Am.eC δ ba u r1 r2).2)):=by
 have F0:∀r∈r2,r.Ok:=fun r hr=>h.cr.rs r (by rw[eZ,h.cr.split];exact List.mem_append.2 (.inr hr))
 obtain⟨v1,v2⟩:=hl.eC (base:=ba) (rs:=u) (cy:=r1) F0
 obtain⟨o1,o2⟩:=h.eC hn hw
 obtain⟨p1,p2,p3,p4⟩:=o2 v1
 have q1:=UG (ba:=ba) (u:=u) (r1:=r1) (r2:=r2) iO
 have q2:=RO (ba:=ba) (u:=u) (r1:=r1) (r2:=r2) (δ:=δ)
 have q3:=RP (ba:=ba) (u:=u) (r1:=r1) (r2:=r2) hl.aU ht
 refine⟨v1,?_⟩
 generalize (Am.eC δ ba u r1 r2).2=ya at *
 have F:=EI.fresh (n:=N) (m:=0) (f:=f) (by have:=q1.many;rw[o1.aq] at this;exact this) (by decide) hf GZ
 have hlen:(logB ba u).length=szB u:=fZ
 have adl:szB u≤16777216:=by have:=q1.len;rw[p1,hlen] at this;exact this
 have aei:szB u≤ya.bu:=o1.cr.cert
 have hC:∀n b,¬mG (Pl.fresh f) n b:=fun n b ⟨i,x,hx,_,_,k2,_⟩=>by rw[qJ hx] at k2;cases k2
 have uW:gq (Pl.fresh f).ai≤1*65536:=by
  have:=F.b6
  grind[Am.b6,Am.fresh]
 have gP:∀n,pgA (Pl.fresh f,(gZ ba aH u,ya)) n=imgOf ya n:=fun n=>by exact M1 p2
 constructor
 ·refine⟨⟨⟨F.ok.ok.pl,MU (by omega) adl OF,q1⟩,F.ok.pins,F.ok.full⟩,⟨⟨v2.alive,v2.aU,o1.aq,fun k hk => ?_,?_,fun n h0 h1 => ?_⟩,F.ec.nodup,F.ec.mA,fun i x hx=>.inl ?_,F.ec.AB,F.ec.GW⟩,⟨p1.symm,?_,?_⟩,?_⟩
  ·grind
  ·grind
  ·grind[M1]
  ·rw[qJ hx];decide
  ·show(logB ba u).length≤ya.bu;omega
  ·show ba+(logB ba u).length≤_;omega
  ·show ya.waiting.length+gq (Pl.fresh f).ai≤_
   grind
 ·refine⟨⟨rfl,rfl,rfl,rfl,p1,v2.alive,v2.aU,q2,q3,o1.tail,fun w hw=>(by grind),fun r hr=>h.cr.rs r (by grind)⟩,?_,fun n h0 h1 => ?_,?_⟩
  ·refine⟨rfl,rfl,p1,v2.alive,v2.aU,⟨u,[],by simp,hlen⟩,by show(logB ba u).length≤ya.bu;omega,fun n w t t' h0 hu Cx hr I => ?_,fun n rec q=>(by cases q),fun n _ wr vn=>(by grind),fun n b hb=>absurd hb (hC n b),fun n rec q=>(by cases q),fun n rec q=>(by cases q),fun n b hb=>(by rw[p2] at hb;cases hb),fun n rec fl q=>(by cases q),fun n rec q=>(by cases q),fun n w h0 I => ?_,fun n q=>q.elim⟩
   ·have Cx:(logB ba u).length≤szB t:=Cx
    obtain⟨w',e1,e2⟩:=EA (a:=u) (b:=[]) (u:=t) (v:=t') (by grind) (by omega)
    obtain⟨e3,_⟩:=List.append_eq_nil_iff.1 e2.symm
    rw[e3,eZ] at e1
    subst e1
    have J:w=imgOf ya n:=by
     rcases I with I|⟨wr,vn,_⟩
     ·exact I
     ·grind
    rw[J]
    exact(p4 n h0.1 (by have:=h0.2;rw[o1.aq] at this;exact this)).1
   ·have J:w=imgOf ya n:=by
     rcases I with I|⟨wr,vn,_⟩
     ·exact I
     ·grind
    rw[J]
    by_cases hN:n<(N:Int)
    ·grind
    ·have:imgOf ya n=List.replicate 512 0:=by
      have C_:=o1.aq
      grind[imgOf]
     rw[this];exact yt
  ·grind
  ·have:=h.cr.gd
   grind
theorem RQ (M:Nat): lM fun x=>x.2.room=M:=by
 refine⟨fun x n h => ?_,fun x n b h => ?_⟩
 ·unfold bx Dk.cF
  split
  ·exact h
  ·split
   ·exact h
   ·split
    ·exact h
    ·split<;>first|exact h|exact h
 ·unfold Dk.bL
  split
  ·exact h
  ·split
   ·exact h
   ·split<;>exact h
theorem RS.fresh {m:Nat}: RS n 1 0 [] [] (fun _=>List.replicate 512 0) (fun _=>none) (Am.fresh n m f):=by
 have hi:∀k,imgOf (Dk.fresh n m) k=List.replicate 512 0:=fun k=>by exact CW k
 have hC:∀n b,¬mG (Pl.fresh f) n b:=fun n b ⟨i,x,hx,_,_,k2,_⟩=>by rw[qJ hx] at k2;cases k2
 have hc:∀k w,yB (Dk.fresh n m) k w→w=List.replicate 512 0:=fun k w h=>by
  rcases h with h|⟨wr,I,_⟩
  ·grind
  ·cases I
 refine⟨⟨rfl,rfl,rfl,rfl,rfl,rfl,by show(-1:Int)<0;decide,rfl,rfl,rfl,fun w hw=>(by cases hw),fun r hr=>(by cases hr)⟩,?_,fun k _ _=>by rw[vC];exact lz.refl eY,⟨fun k x hx=>by grind,fun r hr=>(by cases hr),fun t t' k ht ⟨r,hr,_⟩ => ?_⟩⟩
 ·refine⟨rfl,rfl,rfl,rfl,by show(-1:Int)<0;decide,⟨[],[],rfl,rfl⟩,aV _,fun k w t t' h0 ht Cx hr J => ?_,fun k rec q=>(by cases q),fun k _ wr I=>(by cases I),fun k b hb=>absurd hb (hC k b),fun k rec q=>(by cases q),fun k rec q=>(by cases q),fun k b hb=>(by cases hb),fun k rec fl q=>(by cases q),fun k rec q=>(by cases q),fun k w h0 J => ?_,fun k q=>q.elim⟩
  ·obtain⟨rfl,_⟩:=List.append_eq_nil_iff.1 ht.symm
   rw[hc k w J]
   exact lz.refl eY
  ·rw[hc k w J];exact yt
 ·grind[List.append_eq_nil_iff]
abbrev nm : Int→List Nat:=fun _=>List.replicate 512 0
structure G9 (N M B:Nat)(rs:List bV)(ε:bA): Prop where
 ei:EI N B ε
 ex:∃g,RS N 1 0 [] rs nm g ε
 pt:b6 ε≤szB rs
 rm:ε.2.2.room=M
 sz:szB rs≤M
 mb:M≤B*65536
 b9:1≤B∧B≤900
theorem iw.dh {l:List Int}{cs:List bZ}(I:iw now l ε e cs aj): e=0→l.length≤cs.length:=by
 induction I<;>grind[List.length_pos_iff,Kb]
def OK (rs:List bV)(ε:bA): Prop:=ε.2.1.forced=szB rs
theorem G9.Ey (h:G9 N M B rs ε): (bx ε.2 (1+szB rs)).1=0∧G9 N M B rs (ε.1,(bx ε.2 (1+szB rs)).2)∧OK rs (ε.1,(bx ε.2 (1+szB rs)).2)∧∀m,pgA (ε.1,(bx ε.2 (1+szB rs)).2) m=pgA ε m:=by
 obtain⟨f1,f2,f3⟩:=h.ei.force (n:=1+szB rs)
 obtain⟨g,hg⟩:=h.ex
 obtain⟨x',I,Cg,cH,w1,w2,w3⟩:=(oW.1 hg.ri).Ey
 have J:=(m_ 1 0 [] rs).force ε.2 (1+szB rs) hg.lr
 rw[I] at f2 f3 J ⊢
 refine⟨rfl,⟨f2,⟨g,J,oW.2 Cg,fun n a b=>by rw[f3];exact hg.st n a b,hg.gd⟩,?_,?_,h.sz,h.mb,h.b9⟩,cH,f3⟩
 ·have:b6 (ε.1,x')=b6 ε:=by unfold b6;rw[w1]
  rw[this];exact h.pt
 ·have:=(RQ M).force ε.2 (1+szB rs) h.rm
  rw[I] at this;exact this
theorem G9.cr (h:G9 N M B rs ε): ε.2.2.Cr:=by
 obtain⟨g,J⟩:=h.ex
 have I:=h.ei.b6
 have Q8:=pz (ε:=ε)
 have hb9:=h.b9
 exact J.lr.cr h.ei.ok.ok.dk (by omega) (by decide)
structure UH (N B f:Nat)(c:List Nat)(F:Nat)(rs:List bV)(δ:Dk)(u:List bV)(j:List Nat): Prop where
 pre:∃w,rs=u++w
 all:F≤szB u
 ag:oI (eN δ c) 65536
 mark:(eN δ c).mark=[]
 log:(eN δ c).log=logB 1 u++j
 SS:rP j
 ok:∀r∈u,r.Ok
 len:1+(eN δ c).log.length≤1099511627776
 Dh:(eC (eN δ c) 1 u [] u).1=0
 ei:EI N B (Pl.fresh f,(gZ 1 0 u,(eC (eN δ c) 1 u [] u).2))
 pg:∀n,0≤n→n<(N:Int)→lz (fM u nm n) (pgA (Pl.fresh f,(gZ 1 0 u,(eC (eN δ c) 1 u [] u).2)) n)
 lr:LR 1 0 [] u (gZ 1 0 u,(eC (eN δ c) 1 u [] u).2)
theorem C6.AQ {v:List bV}(h:C6 1 nm u v [] r2 δ)(hu:rs=u++v)(hF:F≤szB u)(ur:δ.Cr)(J:δ.mark=[])(gP:δ.aq.length=N)(eL:1+szB rs≤B*1048600)(hB:1≤B∧B≤900)(c:List Nat)(hf:1≤f)(GZ:f≤1024): ∃u j,UH N B f c F rs δ u j:=by
 obtain⟨I,C_⟩:=Uz (c:=c) ur
 have e2:r2=u:=by have:=h.split;simpa using this.symm
 subst e2
 obtain⟨t,t',qy,adm⟩:=h.abU c
 have Gh:OpD 1 nm (r2++t) [] (r2++t) N (eN δ c):=⟨adm,rfl,by omega,fun k hk=>(by cases hk),lZ,fun n b hb=>(by cases hb)⟩
 obtain⟨j,e1,e2⟩:=Gh.aaz
 have hlen:(eN δ c).log.length≤16777216:=I.ok.len
 have hlu:szB (r2++t)≤szB rs:=by grind[xp]
 obtain⟨o1,o2,o3⟩:=Gh.eng (aH:=0) (B:=B) (f:=f) rfl rfl rfl Uy I.ok hf GZ hB.1 (by omega) (by omega) (by decide)
 exact⟨r2++t,j,⟨t',by grind⟩,cM hF xp,I,J,e1,e2,o3.lr.rs,by omega,o1,o2,fun n h0 h1=>o3.st n h0 h1,by have:=o3.lr;rw[show(eN δ c).mark=[] from J] at this;exact this⟩
theorem adn (h:∀n rec,g n=some rec→1≤rec): Wp 1 0 [] rs [] F g:=⟨fun n rec I=>by
 grind[szB],.inl ⟨rfl,rfl,rfl⟩⟩
theorem G9.AQ (h:G9 N M B rs ε)(c:List Nat)(hf:1≤f)(I:f≤1024): ∃u j,UH N B f c ε.2.1.forced rs ε.2.2 u j:=by
 obtain⟨g,J⟩:=h.ex
 obtain⟨u,v,r2,hu,M3,Wl,ur⟩:=J.cr (adn fun n rec hn=>by
  obtain⟨t,_,_,_,e,_⟩:=(oW.1 J.ri).bO n rec hn
  omega) h.ei.ok.ok.dk
 exact ur.AQ hu (Nat.le_of_eq M3) h.cr J.lr.mark h.ei.ec.dk.aq (by have:=h.sz;have:=h.mb;have:=h.b9;omega) h.b9 c hf I
theorem F1 (h:n<2097152): (digits 9 n).length≤3:=by
 grind[digits]
theorem AR {L:Nat}{cs:List bZ}{kd:Int}(hr:iw now (bP now) ε e cs aj)(I:NW N now)(hL:now.length≤L)(hN:N≤16384)(ht:tx<2097152)(hp:pv<2097152)(hx:nx<2097152)(hd:data.length≤9):
  (c_ kd tx pv nx data cs).length≤520*L+32:=by
 have h1:=F1 ht
 have h2:=F1 hp
 have h3:=F1 hx
 have h4:=MO (n:=data.length) (by omega)
 have h5:=Cq cs.length
 have h6:=hr.Ra I fun n hm=>by have:=I.keys n (h_.1 hm);omega
 have J:(bP now).length≤L:=by
  rw[bP,(eR _).length_eq,gD];exact hL
 have J:=ES 520 J
 simp only[c_,b7,bz,cG]
 omega
theorem LR.aaA {base kd:Nat}{x:LD}{c:List bZ}(h:LR base aH mk rs x)(hk:1≤kd)(hg:dV kd c=true)(ht:tx<2097152)(qS:pv<2097152)(qB:nx<2097152)
 (ha:(bp x kd tx pv nx data c).1.2=0): (bp x kd tx pv nx data c).1.1=base+szB rs∧bV.Ok ⟨kd,tx,pv,nx,data,c⟩∧LR base aH mk (rs++[⟨kd,tx,pv,nx,data,c⟩]) (bp x kd tx pv nx data c).2:=by
 rcases jk x kd tx pv nx data c with⟨e,he,_,hq⟩|⟨_,hf,_⟩|⟨_,hb,hd,fG,hf,hq⟩
 ·grind
 ·grind
 ·rw[jQ h.aU] at hq
  have xq:=Ew (kd:=kd) (tx:=tx) (pv:=pv) (nx:=nx) (data:=data) (aR:=c)
  have hr:(bV.mk kd tx pv nx data c).Ok:=⟨hg,⟨by show tx<_;omega,by show pv<_;omega,by show nx<_;omega,by grind,by grind⟩,hb⟩
  have hl:(logB base rs).length=szB rs:=fZ
  have hn:fO x.1 kd tx pv nx data c=iA (base+szB rs) (bV.mk kd tx pv nx data c).bd:=by rw[fO,h.base,h.b,hl];rfl
  have J:logB base (rs++[bV.mk kd tx pv nx data c])=logB base rs++fO x.1 kd tx pv nx data c:=by grind[u6,logB]
  have hof:lN 0 (rs++[bV.mk kd tx pv nx data c])=lN 0 rs++[szB rs]:=by rw[J4,fy];rfl
  refine⟨by rw[hq];rw[h.base,h.b,hl],hr,?_⟩
  rw[hq]
  refine⟨h.base,?_,?_,h.check,?_,h.alive,h.aU,h.mark,h.eV,h.tail,h.wait,fun r I => ?_⟩
  ·show x.1.b++_=_;rw[h.b,J]
  ·show x.1.cE++[x.1.b.length]=_;rw[h.cE,h.b,hl,hof]
  ·grind[log]
  ·rcases List.mem_append.1 I with I|I
   ·exact h.rs r I
   ·rw[List.mem_singleton.1 I];exact hr
theorem F2 {x:LD}{kd:Int}{c:List bZ}: (bp x kd tx pv nx data c).2.2.room=x.2.room:=by
 rcases jk x kd tx pv nx data c with⟨e,_,_,I⟩|⟨_,_,I⟩|⟨_,_,_,_,_,I⟩<;>rw[I]<;>rfl
section
theorem put_riT {kd:Nat}{c:List bZ}{I:bA}(hc:iw now (bP now) ε 0 c I)(ha:(bp I.2 kd tx pv nx data c).1.2=0)(hp:PtR now (bp I.2 kd tx pv nx data c).1.1 (bP now) (I.1,(bp I.2 kd tx pv nx data c).2) e aj)
 (h:EI N B ε)(hB:B≤1000)(hn:NW N now)(hl:LR ba aH mk rs ε.2)(h1:1≤kd)(h2:kd≤7)(ht:tx<2097152)(qS:pv<2097152)(qB:nx<2097152)(abX:∀m,pgA aj m=match lookL m now with|some b=>cz b aF|none=>pgA ε m)
 (hv:vw (RI ba Ez B0 rs g) ε)(fo:StP N rs B0 ε)(vp:Kc rs B0): ∃g':Int→Option Nat,vw (RI ba Ez B0 (rs++[⟨kd,tx,pv,nx,data,c⟩]) g') aj∧StP N (rs++[⟨kd,tx,pv,nx,data,c⟩]) B0 aj∧Kc (rs++[⟨kd,tx,pv,nx,data,c⟩]) B0:=by
 have J:∀n∈bP now,0≤n∧n<N:=fun n hq=>hn.keys n (h_.1 hq)
 have hN:=h.many
 have fG:∀ {c:List bZ} {aj:bA} {e:Int},iw now (bP now) ε e c aj→dV kd c=true:=fun hc=>by
  refine yj ⟨by omega,by omega⟩ (hc.fit (fun x hx=>fb (hn.good x hx).1) fun n hq => ?_)<;>grind
 have ju:(bP now).Nodup:=(eR _).nodup_iff.2 hn.nodup
 obtain⟨c1,c2,c3⟩:=hc.ec h.ec h.ok J
 have hi:EI N B I:=⟨hc.lS h.ok,c1,hc.el h.el,cM hc.b6 h.b6⟩
 have oA:=(m_ ba aH mk rs).ch hc hl
 obtain⟨k8,k1,k9⟩:=oA.aaA h1 (fG hc) ht qS qB ha
 obtain⟨r,yI⟩:∃r:bV,r=⟨kd,tx,pv,nx,data,c⟩:=⟨_,rfl⟩
 have I5:r.aR=c:=by rw[yI]
 rw[←yI] at k1 k9
 obtain⟨a1,a2,a3⟩:=hi.app (kd:=kd) (tx:=tx) (pv:=pv) (nx:=nx) (data:=data) (c:=c) (by omega) (fG hc)
 have a3:=a3.resolve_right (by omega)
 obtain⟨_,a4⟩:=a3
 have uK:vw (RI ba Ez B0 rs g) I:=(RI.rO N).ch hc h.ec h.ok hv
 obtain⟨s1,s2,s3,s4⟩:=hc.st (σ:=fM rs B0) h.ec h.ok hn ju J hv (fun n hm=>by have:=J n hm;exact fo n this.1 this.2)
 have eL:=hi.el.size
 have sj:=oA.b
 have u9:=oA.base
 have cH:ba+szB rs<18446744073709551616:=by
  grind
 have jx:∀n,n∈bP now↔u7 r n:=fun n=>by rw[u7,I5];exact(s3 n).symm
 have qy:=RI.app (oW.1 uK) (r:=r) (fun n hg hq=>by rw[I5];exact s4 n ((jx n).2 hq) hg) (μ:=(bp I.2 kd tx pv nx data c).2.1) (δ:=(bp I.2 kd tx pv nx data c).2.2)
  (by rw[k9.base,u9]) k9.b (by rw[a4];rfl) k9.log (by rw[a4]) (by rw[a4]) (by rw[a4]) (by rw[a4]) (by rw[a4]) (by rw[a4]) jx
 have Rm:vw (RI ba (fun n=>n∈bP now) B0 (rs++[r]) (fun n=>match g n with|some rec=>some rec|none=>if n∈bP now then some (ba+szB rs) else none)) (I.1,(bp I.2 kd tx pv nx data c).2):=qy
 have hv4:=hp.ri a1.ec a1.ok hn J ju (fun n hm=>hm) ⟨rs,r,rfl,k8⟩ (by omega) Rm
 have e0:(fun m:Int=>m∈bP now∧m∉bP now)=Ez:=funext fun m=>propext ⟨fun q=>q.2 q.1,fun q=>q.elim⟩
 rw[e0] at hv4
 rw[←yI]
 refine⟨_,hv4,fun n h0 vo => ?_,vp.app (by rw[I5];exact hc.lt hn) (fun n hq => ?_)⟩
 ·rw[abX n,xo]
  show lz (jb r.aR (fM rs B0) n) _
  rw[I5]
  cases hq:lookL n now with
  |some b =>
   have hm:n∈bP now:=h_.2 ((hG hq) |> tH (f:=(·.1)))
   exact(s1 n hm b hq).trans (C4 (fb (hn.look hq).1)).symm
  |none =>
   have hm:n∉bP now:=fun q=>jV.1 hq (h_.1 q)
   rw[s2 n hm]
   exact fo n h0 vo
 ·have hm:=(jx n).2 hq
  cases hb:lookL n now with
  |none=>grind[h_,jV]
  |some b =>
   rw[xo]
   show cf (jb r.aR (fM rs B0) n)=true
   rw[I5]
   rw[(s1 n hm b hb).good];exact(hn.look hb).1
end
theorem G_ {m:Nat}: b6 (Am.fresh n m f)≤szB []:=by
 have e:gq (Pl.fresh f).ai=0:=by
  rw[gq,List.count_eq_zero]
  intro J
  obtain⟨x,hx,I⟩:=List.mem_map.1 J
  rw[tG hx] at I
  cases I
 show([]:List Wr).length+gq (Pl.fresh f).ai≤_
 rw[e];exact ew _
structure ic (N B M ba ck:Nat)(mk:List Nat)(rs:List bV)(ε:bA): Prop where
 ei:EI N B ε
 lr:LR ba ck mk rs ε.2
 rm:ε.2.2.room=M
 ft:vw FT ε
 ex:ba=1→ck=0→mk=[]→∃g,RS N 1 0 [] rs nm g ε∧b6 ε≤szB rs
theorem ic.len (h:ic N B M ba ck mk rs ε): ε.2.2.log.length=szB rs:=by
 rw[h.lr.log,fZ]
theorem ic.sm (h:ic N B M ba ck mk rs ε)(hi:EI N B aj)(hs:Sm N ε aj): ic N B M ba ck mk rs aj :=
 ⟨hi,hs.2.1 _ ((m_ ba ck mk rs).rO N) h.lr,by rw[((Cs.sm (K:=ε.2.2.log.length) ⟨aV _,rfl⟩ hs).2)];exact h.rm,hs.2.1 _ (FT.rO N) h.ft,fun I J e3=>by
  obtain⟨g,hg,hp⟩:=h.ex I J e3
  exact⟨g,hg.pre hs.2.1 hs.1,cM hs.2.2 hp⟩⟩
theorem ic.done {L kd:Nat}{cl:Bool}(h:ic N B M ba ck mk rs ε)(hr:DnR ε now kd tx pv nx data 0 aF e cl aj)(hB:B≤1000)(hw:NW N now)(hL:now.length≤L)(hL2:L≤1000)(hN:N≤1024)
 (h1:1≤kd)(h2:kd≤7)(qR:tx<2097152)(qS:pv<2097152)(qB:nx<2097152)(hd:data.length≤9)(hf:szB rs+520*L+40≤M):
  cl=true∧e=0∧aF=ba+szB rs∧(∀m,pgA aj m=match lookL m now with|some b=>cz b aF|none=>pgA ε m)∧∃c,(bV.mk kd tx pv nx data c).len≤520*L+40∧ic N (B+2) M ba ck mk (rs++[⟨kd,tx,pv,nx,data,c⟩]) aj:=by
 have J:∀n∈bP now,0≤n∧n<N:=fun n hq=>hw.keys n (h_.1 hq)
 have Ol:=h.ei.done (by omega) hw (by omega) (by omega) hr
 have CV:=h.len
 have LF:=h.rm
 have fG:∀ {c:List bZ} {aj:bA} {e:Int},iw now (bP now) ε e c aj→dV kd c=true:=fun I=>by
  refine yj ⟨by omega,by omega⟩ (I.fit (fun x hx=>fb (hw.good x hx).1) fun n hq => ?_)<;>grind
 cases hr with
 |arg hh=>omega
 |dead _ _ _ hd=>have:=h.lr.alive;grind
 |nq e c aj _ _ _ _ I Jj=>exact absurd (I.ec h.ei.ec h.ei.ok J).2.2 Jj
 |app c ki _ _ _ _ I Jj =>
  have w_:=AR (kd:=kd) (tx:=tx) (pv:=pv) (nx:=nx) (data:=data) I hw hL (by omega) qR qS qB hd
  have hP:=(nR ε.2.2.log.length ε.2.2.room).ch I ⟨rfl,rfl⟩
  have hg:=fG I
  have oA:=(m_ ba ck mk rs).ch I h.lr
  have ha:=oA.alive
  have Wa:=oA.aU
  grind[jk,fO,mJ]
 |put c ki e uZ _ _ _ _ I ha hp =>
  rcases Ol with⟨jO,_⟩|⟨_,he,hi,gP⟩
  ·grind
  ·have w_:=AR (kd:=kd) (tx:=tx) (pv:=pv) (nx:=nx) (data:=data) I hw hL (by omega) qR qS qB hd
   have hP:=(nR ε.2.2.log.length ε.2.2.room).ch I ⟨rfl,rfl⟩
   obtain⟨k1,k2,k3⟩:=((m_ ba ck mk rs).ch I h.lr).aaA h1 (fG I) qR qS qB ha
   rw[he,aC rfl] at gP
   have LU:(bp ki.2 kd tx pv nx data c).2.2.room=ki.2.2.room:=F2
   have hr3:=((nR (bp ki.2 kd tx pv nx data c).2.2.log.length (bp ki.2 kd tx pv nx data c).2.2.room).pt hp ⟨rfl,rfl⟩).2
   obtain⟨c1,_,_⟩:=I.ec h.ei.ec h.ei.ok J
   obtain⟨hA,_⟩:=(EI.app (kd:=kd) (tx:=tx) (pv:=pv) (nx:=nx) (data:=data) (c:=c) (show EI N B ki from⟨I.lS h.ei.ok,c1,I.el h.ei.el,cM I.b6 h.ei.b6⟩) (by omega) (fG I))
   have GZ:vw FT ki:=(FT.rO N).ch I h.ei.ec h.ei.ok h.ft
   have Cx:vw FT (ki.1,(bp ki.2 kd tx pv nx data c).2):=GZ
   refine⟨rfl,he,by rw[he,aC rfl,k1],by rw[he,aC rfl];exact gP,c,?_,hi,(m_ ba ck mk _).pt hp k3,by rw[hr3,LU,hP.2];exact LF,hp.ft hA.ec hA.ok hw J Cx,fun e1 e2 e3 => ?_⟩
   ·show 8+(c_ kd tx pv nx data c).length≤_
    omega
   ·subst e1 e2 e3
    obtain⟨g,hg,Vu⟩:=h.ex rfl rfl rfl
    obtain⟨g',r1,r2,r3⟩:=put_riT I ha hp h.ei hB hw hg.lr h1 h2 qR qS qB gP hg.ri hg.st hg.gd
    refine⟨g',⟨(m_ 1 0 [] _).pt hp k3,r1,r2,r3⟩,?_⟩
    have c0:=hp.b6 hA.ok
    have c1:=I.dh rfl
    have c2:=(Ew (kd:=kd) (tx:=tx) (pv:=pv) (nx:=nx) (data:=data) (aR:=c)).2
    have c3:Am.b6 (ki.1,(bp ki.2 kd tx pv nx data c).2)=Am.b6 ki:=by grind[Am.b6]
    have c4:=I.b6
    have c5:szB (rs++[⟨kd,tx,pv,nx,data,c⟩])=szB rs+(8+(c_ kd tx pv nx data c).length):=by rw[iI];simp[szB,bV.len,bV.bd]
    omega
end Go.Proofs.YtiojppeahfoiaaaGreat.Am
