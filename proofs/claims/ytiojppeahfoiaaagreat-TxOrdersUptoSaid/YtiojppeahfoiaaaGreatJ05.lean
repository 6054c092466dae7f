/- TxOrders: a part of its proof; conditions: its statement's. -/
import Derived.Test.YtiojppeahfoiaaaGreatJ04
import Derived.Test.YtiojppeahfoiaaaGreatJ02
set_option linter.defProp false
namespace Go.Proofs.YtiojppeahfoiaaaGreat.Am
open Go
def uP:=@Tryz.func59
def BQ:=@Tryz.underlying26
def Gj:=@Tryz.func66
def Gk:=@Tryz.func79
variable {X Y:aE} {C:dR} {code:Code} {δ K4:Dk} {ε ah:bA} {A:bA→aE} {pg:bA→Int→List Nat} {lv dd:bA→Prop} {es:dP} {Q:Ex→List (Nat×V)→H→Prop} {f:Fm} {fn:Func} {cl:Go.Call} {h:H} {e:Int} {P':Int→List Nat} {μ:Lg} {d:List (Int×(Nat×Bool))} {now cT:List (Int×List Nat)} {cs:List (List Nat)} {E:List (Nat×V)} {S:List aE} {U:List Bool} {ks:List Int} {b l data eH c R fK c' M L:List Nat} {args Rt:List V} {n r k q cM a g aH i id aB z tx pv nx N j K B link extra lo off lk qv acc:Nat} {π bO:Pl} {P:Program} {α:Type} {t te t':TypeId} {x wh di u kv dt rv y uv:V}
inductive si (ε:bA)(now:List (Int×List Nat))(bS:Bool)(n:Int)(b:List Nat): Int→List (Int×List Nat)→bA→Prop where
 |may (e:Int) (c:List Nat) (ah:bA) (hr:GRd ε now bS n e c ah) (he:e≠0):si ε now bS n b e now ah
 |bad (c:List Nat) (ah:bA) (hr:GRd ε now bS n 0 c ah) (hg:bW b=false):si ε now bS n b 4 now ah
 |done (c:List Nat) (ah:bA) (hr:GRd ε now bS n 0 c ah) (hg:bW b=true):si ε now bS n b 0 (cN n b now) ah
theorem si.kS {bS:Bool}{n:Int}(I:si ε now bS n b e cT ah)(h:gR ε): gR ah:=by
 cases I with
 |may e c ah I he=>exact I.kS h
 |bad c ah I J=>exact I.kS h
 |done c ah I J=>exact I.kS h
section
variable {told:cE} {p:Nat} {op v:V} {m:List Fm} {bS:Bool}
theorem VQ (hT:W told){n:Int}(s:Sat h (dN g a now bS::c8 a p q r op data aH::dM r p q π::bQ q p μ::bw p δ::S))(J:gR (π,μ,δ))(hw:δ.waiting.length≤268435456)(I:∀e∈now,e.2.length=512):
  Call ⟨Tryz.prog,told⟩ 89 [.iface 78 (.ptr g 0),.int .i64 n] h fun v h'=>∃(e:Int) (b:List Nat) (ε:bA),GRd (π,μ,δ) now bS n e b ε∧v=.int .i64 e ∧
   Sat h' (dN g a now bS::c8 a p q r op data aH::dM r p q ε.1::bQ q p ε.2.1::bw p ε.2.2::S):=by
 refine Call.of_wp (hT.free _ rfl) Tryz.func89 rfl rfl (zK 8 rfl (aq.any rfl rfl rfl (OpR.invoke rfl rfl rfl Dc rfl (Gi (n:=n) hT s J hw I)) ?_))
 rintro v h ⟨e,b,ε,hr,(⟨he,rfl,s⟩|⟨rfl,u,rfl,s⟩)⟩
 ·refine aq.op rfl rfl rfl (bf rfl) ?_
  exact zk 10 rfl (WP.ret ⟨aa,_,rfl,e,b,ε,hr,rfl,s⟩)
 ·skip
  exact zk 11 rfl (WP.ret ⟨aa,_,rfl,0,b,ε,hr,rfl,s.drop⟩)
theorem Ns (hT:W told){n:Int}(s:Sat h (dN g a now bS::c8 a p q r op data aH::dM r p q π::bQ q p μ::bw p δ::X::S))(hX:cq X (cz x b))(hb:b.length<9223372036854775808)(ku:gR (π,μ,δ))(hw:δ.waiting.length≤268435456)(J:∀e∈now,e.2.length=512):
  Call ⟨Tryz.prog,told⟩ 40 [.ptr g 0,.int .i64 n,x] h fun v h'=>∃(e:Int) (cT:List (Int×List Nat)) (ε:bA),si (π,μ,δ) now bS n b e cT ε∧v=.int .i64 e ∧
   Sat h' (dN g a cT bS::c8 a p q r op data aH::dM r p q ε.1::bQ q p ε.2.1::bw p ε.2.2::X::S):=by
 refine Call.of_wp (hT.free _ rfl) Tryz.func40 rfl rfl (zK 8 rfl (zo rfl (pI rfl (mki_of pZ rfl)) (zm rfl (zc rfl (VQ (n:=n) hT s ku hw J) ?_))))
 rintro v h ⟨e,c,ε,hr,rfl,s⟩
 refine zk 5 rfl ?_
 by_cases he:e=0
 ·skip
  subst he
  refine zC rfl aA (rfl) (zk 7 rfl (zc rfl (Jc hT (s.ae [5]) hX hb) ?_))
  rintro v h ⟨rfl,s⟩
  refine zo rfl (dB rfl rfl) (zv ?_)
  by_cases I:bW b=true
  ·skip
   refine WP.RN rfl (by rw[I];rfl) ?_
   have Z_:=fW I
   obtain⟨nv,s⟩:=dQ.1 (s.ae [1])
   have s:=s.ae [2,0,0]
   obtain⟨uQ,rfl⟩:=FO s (j:=2) rfl
   refine zK 2 rfl ?_
   have s0:=s
   refine WP.drawn [some (0,2),some (0,2),some (0,2),some (0,2),some (0,2),af,af,af] rfl (by kernel_rfl) (by kernel_rfl) ?_
   refine zM rfl (zN rfl (zF rfl (o6 _ _) (zL rfl (s.ld (k:=1) rfl mW rfl) (zM rfl (zM rfl (az.any rfl rfl rfl rfl (OpR.call rfl rfl rfl rfl (ow hT s hX (by omega))) ?_))))))
   intro u h s
   obtain⟨kD,_,cap,_,rfl,_⟩:=s.eZ (by omega)
   have s:=s.gP
   have s1:=s
   refine az.iR rfl rfl rfl (OpR.mapUpdate rfl rfl rfl rfl (kJ (f:=fun v b=>aE.cL v b) (x:=b) (fun _ _=>aX.cL _ _) (s.ae [0,2]) pY bz)) ?_
   intro w h s
   refine az.nil ⟨⟨fun _ _=>.inr ⟨rfl,⟨_,bf rfl⟩,aN _ rfl⟩,fun _ _=>.inr ⟨rfl,⟨_,lF rfl⟩,aN _ rfl⟩,fun _ _=>.inr ⟨rfl,⟨_,jr rfl (o6 _ _)⟩,aN _ rfl⟩,dW (.inr ⟨rfl,⟨_,aP rfl (s0.ld (k:=1) rfl mW rfl)⟩,aN _ rfl⟩) (.inr ⟨rfl,⟨_,aP rfl (s1.ld (k:=2) rfl mW rfl)⟩,aN _ rfl⟩),fun _ _=>.inr ⟨rfl,⟨_,bf rfl⟩,aN _ rfl⟩,aa,aa,aa,aa⟩,?_⟩
   exact zK 4 rfl (WP.ret ⟨aa,_,rfl,0,_,ε,.done c ε hr I,rfl,dQ.2 ⟨.map uQ,s.ae [2,0,1,1,1,1,0]⟩⟩)
  ·have I:bW b=false:=by simpa using I
   refine WP.Kw rfl (by rw[I];rfl) ?_
   exact zK 4 rfl (WP.ret ⟨aa,_,rfl,4,_,ε,.bad c ε hr I,rfl,s.ae [1,1,1,1,1,0]⟩)
 ·skip
  refine zB rfl aA (by simp;exact he) ?_
  exact zk 7 rfl (WP.ret ⟨aa,_,rfl,e,_,ε,.may e c ε hr he,rfl,s⟩)
theorem Nt (I:W told)(s:Sat h (dN g a now bS::c8 a p q r (.ptr g 0) data aH::S)): Call ⟨Tryz.prog,told⟩ 105 [.ptr g 0] h fun v h'=>v=.aI []∧Sat h' (dN g a now true::c8 a p q r .a_ data aH::S):=by
 obtain⟨J,s⟩:=dQ.1 s
 obtain⟨dv,s⟩:=cg.1 (s.ae [2])
 refine Call.of_wp (I.free _ rfl) Tryz.func105 rfl rfl (zK 4 rfl (zf rfl (yG _ _) ?_))
 refine zS rfl (by exact s.dL (k:=2) rfl vZ rfl (by decide) rfl rfl) (fun h s => ?_)
 refine zk 5 rfl (zY s 2 nK m6 rfl (zn rfl (zY s 0 rj Kx rfl (zm rfl (zB rfl (X1 pZ Xy (by decide) (s.row (k:=2) rfl) (s.row (k:=2) rfl) (by decide) (by decide)) (eW g) ?_)))))
 refine zk 5 rfl (zY s 2 nK m6 rfl (zn rfl (zf rfl (rj _ _) ?_)))
 refine zS rfl (by exact s.dL (k:=0) rfl Vr rfl (by decide) rfl rfl) (fun h s => ?_)
 refine zv ?_
 have s:=dQ.2 ⟨J,(cg.2 ⟨dv,s⟩).ae [1,1]⟩
 exact⟨aa,_,rfl,rfl,s⟩
theorem Ih (I:W told)(s:Sat h (dN g a now bS::c8 a p q r .a_ data aH::S)): Call ⟨Tryz.prog,told⟩ 105 [.ptr g 0] h fun v h'=>v=.aI []∧Sat h' (dN g a now true::c8 a p q r .a_ data aH::S):=by
 obtain⟨J,s⟩:=dQ.1 s
 obtain⟨dv,s⟩:=cg.1 (s.ae [2])
 dsimp only[bringA,getA,aC] at s
 refine Call.of_wp (I.free _ rfl) Tryz.func105 rfl rfl (zK 4 rfl (zf rfl (yG _ _) ?_))
 refine zS rfl (by exact s.dL (k:=2) rfl vZ rfl (by decide) rfl rfl) (fun h s => ?_)
 dsimp only[Jn,Nat.reduceAdd,List.set,setA] at s
 refine zv (zg rfl (zk 2 rfl (zf rfl (nK _ _) (zl rfl (by exact s.ld (k:=2) rfl m6 rfl) ?_))))
 refine zn rfl (zf rfl (rj _ _) (zl rfl (by exact s.ld (k:=0) rfl Kx rfl) ?_))
 refine zm rfl (zh rfl (ak rfl rfl (X0 pZ)) (rfl) (zv (zj rfl (WP.skip ?_))))
 have s:=dQ.2 ⟨J,(cg.2 ⟨dv,s⟩).ae [1,1]⟩
 exact⟨aa,_,rfl,rfl,s⟩
theorem oC (I:W told)(s:Sat h (dN g a now bS::c8 a p q r .a_ data aH::S)): Call ⟨Tryz.prog,told⟩ 59 [.ptr g 0] h fun v h'=>v=.aI []∧Sat h' (dN g a now true::c8 a p q r .a_ data aH::S):=by
 refine Call.of_wp (I.free _ rfl) uP rfl rfl (zK 2 rfl (zc rfl (Ih I s) ?_))
 rintro v h ⟨rfl,s⟩
 exact zv ⟨aa,_,rfl,rfl,s⟩
end
inductive we (aY:Int)(eH now:List Nat): Nat→List cr→Prop where
 |done (i:Nat) (h:now.length≤i):we aY eH now i []
 |skip (i:Nat) (l:List cr) (h:i<now.length) (he:eH[i]?=now[i]?) (hr:we aY eH now (i+1) l):we aY eH now i l
 |take (i e:Nat) (l:List cr) (h1:i<e) (h2:e≤now.length) (h3:eH[i]?≠now[i]?) (h4:∀k,e≤k→k<e+8→eH[k]?=now[k]?) (hr:we aY eH now e l):we aY eH now i (⟨aY,i,false,(now.take e).drop i⟩::l)
def Nu (aY:Int)(eH now:List Nat)(c:List cr): Prop:=∃l,we aY eH now 12 l∧c=if l=[] then[⟨aY,0,false,[]⟩] else l
theorem sj : ∃i,Tryz.prog.info? 237=some i∧i.size=4∧i.bytes=48 :=
 ⟨_,(show Tryz.prog.info? 237=some ((Tryz.prog.info? 237).getD default) by kernel_rfl),by kernel_rfl,by kernel_rfl⟩
section
variable {told:cE} {p:Nat} {op v:V} {now:List Nat}
noncomputable def rgO : Code:=c6 [1,1,0,1,0,0] ((Tryz.f173.body).getD .skip)
noncomputable def rgI : Code:=c6 [1,1,0,1,0,0,1,0,1,1,0,1,0,0] ((Tryz.f173.body).getD .skip)
theorem Qh {pg:Int}{I:Nat}{t7:V}{k1 k2:Nat}(s:Sat h S)(vR:getA S k1=some X)(hX:cq X (cz u eH))(DW:getA S k2=some Y)(hY:cq Y (cz v now))(uN:eH.length=512)(gA:now.length=512): ∀(j i e:Nat) (E:List (Nat×V)) (Q:Ex→List (Nat×V)→H→Prop),i+j=512→I<e→e≤i→(∀k,e≤k→k<i→eH[k]?=now[k]?) →
  Has E [(0,.int .i64 pg),(1,u),(2,v),(7,t7),(8,.int .i64 (I:Int)),(9,.int .i64 (e:Int)),(10,.int .i64 (i:Int))] →
  (∀J E',I<J→J≤512→(∀k,J≤k→k<J+8→eH[k]?=now[k]?)→Has E' [(0,.int .i64 pg),(1,u),(2,v),(7,t7),(8,.int .i64 (I:Int)),(9,.int .i64 (J:Int))]→Q (.exit 2) E' h) →
  WP ⟨Tryz.prog,told⟩ 71 (.loop rgI) E h Q:=by
 have hv:=s.aD DW hY
 have hu:=s.aD vR hX
 have hlen:lenV Tryz.prog h 23 v=some (.int .i64 now.length):=bh aM hv
 intro j
 induction j with
 |zero =>
  intro i e E Q hi h1 h2 hg hE hq
  refine WP.loop (WP.has hE (zK 5 rfl (zo rfl (aQ rfl rfl rfl hlen) (zC rfl aJ (by grind) ?_))))
  refine zk 8 rfl (WP.exit ?_)
  refine hq e _ h1 (by omega) (fun k k1 _ => ?_) ⟨rfl,rfl,rfl,rfl,rfl,rfl,aa⟩
  by_cases hk:k<i
  ·grind
  ·grind
 |succ j ih =>
  intro i e E Q hi h1 h2 hg hE hq
  have hb:now[i]?=some (now[i]'(by omega)):=bp _
  generalize (now[i]'(by omega))=b at hb
  have hc:eH[i]?=some (eH[i]'(by omega)):=bp _
  generalize (eH[i]'(by omega))=c at hc
  obtain⟨id,off,e1,e2⟩:=er hv hb
  obtain⟨A0,off',e3,e4⟩:=er hu hc
  refine WP.loop (WP.has hE (zK 5 rfl (zo rfl (aQ rfl rfl rfl hlen) (zB rfl aJ (by grind) ?_))))
  refine zk 3 rfl (zb rfl (by exact aR (ax (by omega) (by omega))) ?_)
  by_cases hd:i<e+8
  ·skip
   refine zB rfl aJ (by grind) ?_
   refine zk 5 rfl (WP.block (zw ?_))
   have s0:=s
   refine WP.drawn [af,af,af,af,af,af,af,af,af] rfl (by kernel_rfl) (by kernel_rfl) ?_
   refine zM rfl (zM rfl (zO rfl (cu (r:=.ptr A0 off') rfl rfl e3) (zL rfl e4 (zM rfl (zM rfl (zO rfl (cu (r:=.ptr id off) rfl rfl e1) (zL rfl e2 ?_)))))))
   by_cases hbc:c=b
   ·skip
    refine az.lG rfl rfl rfl rfl (ak rfl rfl aA) (by grind) ?_
    refine az.nil ⟨⟨aa,aa,aa,aa,aa,aa,aa,aa,aa,aa⟩,?_⟩
    refine zj rfl (WP.skip (zr rfl (zm rfl (zb rfl (by exact aR (ax (by omega) (by omega))) ?_))))
    refine za rfl (zv ?_)
    exact ih (i+1) e _ Q (by omega) h1 (by omega) (fun k k1 k2=>(by
     grind)) ⟨rfl,rfl,rfl,rfl,rfl,rfl,rfl,aa⟩ hq
   ·skip
    refine az.w6 rfl rfl rfl rfl (ak rfl rfl aA) (by grind) ?_
    refine az.nil ⟨⟨aa,aa,aa,aa,aa,aa,aa,aa,aa,aa⟩,?_⟩
    refine zK 3 rfl (zb rfl (by exact aR (ax (by omega) (by omega))) ?_)
    refine za rfl (zv (zr rfl (zm rfl (zb rfl (by exact aR (ax (by omega) (by omega))) ?_))))
    refine za rfl (zv ?_)
    exact ih (i+1) (i+1) _ Q (by omega) (by omega) (by omega) (fun k k1 k2=>absurd k2 (by omega)) ⟨rfl,rfl,rfl,rfl,rfl,rfl,rfl,aa⟩ hq
  ·skip
   refine zC rfl aJ (by grind) ?_
   exact zk 3 rfl (WP.exit (hq e _ h1 (by omega) (fun k k1 k2=>hg k k1 (by omega)) ⟨rfl,rfl,rfl,rfl,rfl,rfl,aa⟩))
theorem Qi (hT:W told){pg:Int}(hX:cq X (cz u eH))(hY:cq Y (cz v now))(uN:eH.length=512)(gA:now.length=512): ∀(j i:Nat) (acc:List cr) (av:V) (cs:List V) (h:H) (E:List (Nat×V)) (Q:Ex→List (Nat×V)→H→Prop),512≤i+j→i≤512→acc.length≤i →
  Sat h (.arr 4 av cs::cG cs acc::X::Y::S)→(∀l,we pg eH now i l→we pg eH now 12 (acc++l)) →
  Has E [(0,.int .i64 pg),(1,u),(2,v),(7,av),(8,.int .i64 (i:Int))] →
  (∀nR cs' l E' h',we pg eH now 12 l→l.length≤512→Sat h' (.arr 4 nR cs'::cG cs' l::X::Y::S)→Has E' [(0,.int .i64 pg),(7,nR)]→Q (.exit 0) E' h') →
  WP ⟨Tryz.prog,told⟩ 71 (.loop rgO) E h Q:=by
 intro j
 induction j with
 |zero =>
  intro i acc av cs h E Q hj hi VR s I hE hq
  have hlen:lenV Tryz.prog h 23 v=some (.int .i64 now.length):=bh aM (s.aD (k:=3) rfl hY)
  refine WP.loop (WP.has hE (zK 5 rfl (zo rfl (aQ rfl rfl rfl hlen) (zC rfl aJ (by grind) ?_))))
  refine zk 2 rfl (WP.exit ?_)
  have:=I [] (.done _ (by omega))
  rw[iw] at this
  exact hq av cs acc _ _ this (by omega) s ⟨rfl,rfl,aa⟩
 |succ j ih =>
  intro i acc av cs h E Q hj hi VR s I hE hq
  have hv:=s.aD (k:=3) rfl hY
  have hu:=s.aD (k:=2) rfl hX
  have hlen:lenV Tryz.prog h 23 v=some (.int .i64 now.length):=bh aM hv
  by_cases cA:i<512
  ·have hb:now[i]?=some (now[i]'(by omega)):=bp _
   generalize (now[i]'(by omega))=b at hb
   have hc:eH[i]?=some (eH[i]'(by omega)):=bp _
   generalize (eH[i]'(by omega))=c at hc
   obtain⟨id,off,e1,e2⟩:=er hv hb
   obtain⟨A0,off',e3,e4⟩:=er hu hc
   refine WP.loop (WP.has hE (zK 5 rfl (zo rfl (aQ rfl rfl rfl hlen) (zB rfl aJ (by grind) ?_))))
   refine zk 3 rfl (WP.block (zK 2 rfl ?_))
   have s0:=s
   refine WP.drawn [af,af,af,af,af,af,af,af,af] rfl (by kernel_rfl) (by kernel_rfl) ?_
   refine zM rfl (zM rfl (zO rfl (cu (r:=.ptr A0 off') rfl rfl e3) (zL rfl e4 (zM rfl (zM rfl (zO rfl (cu (r:=.ptr id off) rfl rfl e1) (zL rfl e2 ?_)))))))
   by_cases hbc:c=b
   ·skip
    refine az.w6 rfl rfl rfl rfl (ak rfl rfl c4) (by grind) ?_
    refine az.nil ⟨⟨aa,aa,aa,aa,aa,aa,aa,aa,aa,aa⟩,?_⟩
    refine zK 4 rfl (zb rfl (by exact aR (ax (by omega) (by omega))) ?_)
    exact zk 2 rfl (WP.exit (ih (i+1) acc av cs h _ Q (by omega) (by omega) (by omega) s (fun l hl=>I l (.skip i l (by omega) (by grind) hl)) ⟨rfl,rfl,rfl,rfl,rfl,aa⟩ hq))
   ·skip
    refine az.lG rfl rfl rfl rfl (ak rfl rfl c4) (by grind) ?_
    refine az.nil ⟨⟨aa,aa,aa,aa,aa,aa,aa,aa,aa,aa⟩,?_⟩
    refine zK 5 rfl (zb rfl (by exact aR (ax (by omega) (by omega))) ?_)
    refine zk 8 rfl (WP.block ?_)
    refine Qh s (k1:=2) (k2:=3) rfl hX rfl hY uN gA (512-(i+1)) (i+1) (i+1) _ _ (by omega) (Cr i) (aS _) (fun k k1 k2=>absurd k2 (by omega)) ⟨rfl,rfl,rfl,rfl,rfl,rfl,rfl,aa⟩ (fun e' E' Y3 Gm he3 eF => ?_)
    refine WP.has eF ?_
    have Gn:=cH hv (a:=i) (b:=e') (by omega) (by omega)
    refine zK 8 rfl (zo rfl (cf (p:=some (.int .i64 (i:Int))) (q:=some (.int .i64 (e':Int))) (m:=none) (p':=some i) (q':=some e') (m':=none) rfl rfl rfl rfl (by rfl) (by rfl) rfl Gn.1) ?_)
    refine zc rfl (ow hT (s.ae [3]) (jh hY (a:=i) (b:=e') (by omega) (by omega)) (by grind)) ?_
    intro w h s
    dsimp only[bringA,getA,aC] at s
    obtain⟨wid,_,J,_,rfl,_⟩:=s.eZ (by grind)
    have s:=s.gP
    generalize DJ:(now.take e').drop i=bs at s
    refine zo rfl (b_ rfl (by rw[KE];rfl)) ?_
    obtain⟨rv,h1,xC,s1⟩:=k9 (P:=Tryz.prog) (k:=4) (x:=.agg [.int .i64 pg,.int .i64 (i:Int),.bool false,.sl wid 0 bs.length J]) s gG mo oo rfl (by decide) (by decide) rfl rfl
    dsimp only[V.cells] at s1
    refine aq.any rfl rfl rfl (OpR.of (R:=fun v h'=>v=rv∧h'=h1) (ob rfl xC) ⟨rfl,rfl⟩) ?_
    rintro v' h' ⟨rfl,rfl⟩
    obtain⟨i1,mB,kE,xm⟩:=sj
    have iZ:cs.length=acc.length*4:=by
     obtain⟨a,b,q1,q2,q3⟩:=s1.at (k:=4) rfl
     exact lS q3
    obtain⟨nR,h2,p_,s2⟩:=iV (s1.ae [3,0]) gG mB mo kE (by omega) rfl (by decide) (by grind)
    dsimp only[bringA,getA,aC] at s2
    refine aq.any rfl rfl rfl (OpR.of (R:=fun v h'=>v=nR∧h'=h2) (pJ rfl rfl p_) ⟨rfl,rfl⟩) ?_
    rintro v' h' ⟨rfl,rfl⟩
    refine za rfl (zv (zr rfl (zk 2 rfl (zv ?_))))
    have s3:Sat _ (cG cs acc::.cL (.sl wid 0 bs.length J) bs::_):=s2.ae [4,2]
    have s4:=s3.two (C:=cG (cs++[.int .i64 pg,.int .i64 (i:Int),.bool false,.sl wid 0 bs.length J]) (acc++[⟨pg,i,false,bs⟩])) (aX.mO _ _) (aX.cL _ _) fun a b q1 q2=>vx q1 ⟨⟨⟨rfl,rfl,rfl⟩,q2⟩,aa⟩
    have s5:=(s4.ae [1,0,2,1]).del 4
    dsimp only[bringA,getA,aC] at s5
    refine ih e' (acc++[⟨pg,(i:Int),false,bs⟩]) _ _ _ _ Q (by omega) Gm (by grind) s5 (fun l hl => ?_) ⟨rfl,rfl,rfl,rfl,rfl,aa⟩ hq
    have:=I _ (.take i e' l Y3 (by omega) (fun hx=>by grind) he3 hl)
    rw[DJ] at this
    rwa [cX]
  ·have hi5:i=512:=by omega
   refine WP.loop (WP.has hE (zK 5 rfl (zo rfl (aQ rfl rfl rfl hlen) (zC rfl aJ (by simp<;>omega) ?_))))
   refine zk 2 rfl (WP.exit ?_)
   have:=I [] (.done _ (by omega))
   rw[iw] at this
   exact hq av cs acc _ _ this (by omega) s ⟨rfl,rfl,aa⟩
theorem Nv (hT:W told){pg:Int}(s:Sat h (X::Y::S))(hX:cq X (cz u eH))(hY:cq Y (cz v now))(I:eH.length=512)(J:now.length=512):
  Call ⟨Tryz.prog,told⟩ 173 [.int .i64 pg,u,v] h fun w h'=>∃cs l,Nu pg eH now l∧l.length≤512∧Sat h' (.arr 4 w cs::cG cs l::X::Y::S):=by
 refine Call.of_wp (hT.free _ rfl) Tryz.func173 rfl rfl (zK 13 rfl (WP.block ?_))
 refine Qi hT (pg:=pg) hX hY I J 500 12 [] .aO [] _ _ _ (by omega) (by omega) (by simp) ((s.fH aa).ot) (fun l hl=>hl) ⟨rfl,rfl,rfl,rfl,rfl,aa⟩ (fun nR cs' l E' h' hr Nw s' eF => ?_)
 have s:=s'
 have hlen:=s.xu (j1:=0) (j2:=1) rfl rfl gG
 have sZ:=s.iU (j:=0) rfl
 refine WP.has eF (zK 4 rfl (zo rfl (aQ rfl rfl rfl hlen) ?_))
 by_cases wI:l=[]
 ·skip
  refine zB rfl c4 (by grind) ?_
  refine zk 5 rfl (zo rfl (b_ rfl (by rw[KE];rfl)) ?_)
  obtain⟨rv,h1,xC,s1⟩:=k9 (P:=Tryz.prog) (k:=4) (x:=.agg [.int .i64 pg,.int .i64 0,.bool false,.aO]) s gG mo oo rfl (by decide) (by decide) rfl rfl
  dsimp only[V.cells] at s1
  refine aq.any rfl rfl rfl (OpR.of (R:=fun v h'=>v=rv∧h'=h1) (ob rfl xC) ⟨rfl,rfl⟩) ?_
  rintro v' h' ⟨rfl,rfl⟩
  refine zk 2 rfl (WP.ret ⟨aa,_,rfl,?_⟩)
  refine⟨[.int .i64 pg,.int .i64 0,.bool false,.aO],[⟨pg,0,false,[]⟩],⟨l,hr,by grind⟩,by simp,?_⟩
  have s2:=(s1.del 2).del 1
  have s3:Sat _ (.cL .aO []::.arr 4 v' _::X::Y::S):=s2.qH
  have s4:=s3.gO (B:=cG [.int .i64 pg,.int .i64 0,.bool false,.aO] [⟨pg,0,false,[]⟩]) fun a b q=>⟨⟨⟨rfl,rfl,rfl⟩,q⟩,aa⟩
  exact s4.ae [1,0]
 ·skip
  refine zC rfl c4 (by simp_all) ?_
  exact zk 8 rfl (WP.ret ⟨aa,_,rfl,_,l,⟨l,hr,by grind⟩,Nw,s⟩)
end
def gN (m:List Fm): Nat:=(m.map (·.changed)).count true
theorem lp {g:Fm}: ∀ {m:List Fm} {i:Nat},m[i]?=some f→gN (m.set i g)+f.changed.toNat=gN m+g.changed.toNat:=by
 intro m
 induction m with
 |nil=>simp
 |cons x m I =>
  intro i h
  cases i<;>grind[gN]
theorem BR {g:Fm}(I:g.changed=false): ∀ {m:List Fm} {i:Nat},gN (m.set i g)≤gN m:=by
 intro m i
 cases h:m[i]? with
 |none =>
  grind[List.set_eq_of_length_le]
 |some f =>
  have:=lp (g:=g) h
  grind
def bY (ε:bA): Nat:=ε.2.2.waiting.length+gN ε.1.ag
theorem sk : ε.2.2.waiting.length≤bY ε:=Nat.le_add_right _ _
theorem fb.count (I:fb π bO): gN bO.ag=gN π.ag:=by
 have:bO.ag.map (·.changed)=π.ag.map (·.changed):=by
  refine qN fun i => ?_
  rw[ni,ni]
  cases h:π.ag[i]? with
  |none =>
   have J:π.ag.length≤i:=by grind
   have:bO.ag[i]?=none:=by simp[I.len,J]
   rw[this]
  |some f =>
   obtain⟨t,ht⟩:=I.get i f h
   rw[ht];rfl
 simp only[gN,this]
theorem Gp {n:Int}(h:(δ.cV n b).1≠0): (δ.cV n b).2.waiting=δ.waiting:=by
 unfold Dk.cV at h ⊢
 split
 ·rfl
 ·rename_i I
  split
  ·rfl
  ·rename_i J
   split
   ·rfl
   grind
theorem Qj : bY (outF ε i).2≤bY ε:=by
 grind[outF,bY,r9,Gp,Ic,lp]
theorem xD : gN (cW π i f).ag≤gN π.ag:=BR rfl
theorem fc.bY {n:Int}(J:fc ε n e b ah): Am.bY ah≤Am.bY ε:=by
 have qo:∀ {bO:Pl},fb ε.1 bO→∀i,Am.bY (outF (bO,ε.2) i).2≤Am.bY ε:=fun {bO} I i=>by
  have:=Qj (ε:=(bO,ε.2)) (i:=i)
  refine b9 this ?_
  simp only[Am.bY,I.count]
  exact aS _
 cases J with
 |arg _=>simp
 |BM i f h1 h2 hl hf =>
  grind[lp,Am.bY]
 |out bO i f h1 h2 hl I hf hh he=>grind
 |read bO i f h1 h2 hl I hf hh he J=>exact b9 (tS xD _) (qo I i)
 |bad bO i f h1 h2 hl I hf hh he J hc=>exact b9 (tS xD _) (qo I i)
 |load bO i f h1 h2 hl I hf hh he J hc=>exact b9 (tS (b9 (BR rfl) xD) _) (qo I i)
theorem BS {n:Int}: gN (unpinF π n).2.ag=gN π.ag:=by
 grind[unpinF,lp]
theorem lH.bY {n:Int}(I:lH ε n e b ah): Am.bY ah≤Am.bY ε:=by
 cases I with
 |dead _=>simp
 |jb e b ah hd I he=>exact I.bY
 |vz b ah hd I he=>have:=I.bY;grind[Am.bY,BS]
 |read b ah hd I he=>have:=I.bY;grind[Am.bY,BS]
theorem GRd.bY {bS:Bool}{n:Int}(I:GRd ε now bS n e b ah): Am.bY ah≤Am.bY ε:=by
 cases I with
 |arg _=>simp
 |bS _ _ _=>simp
 |own _ _ _ _ _=>simp
 |read e b ah J h2 h3 hl I=>exact I.bY
theorem si.bY {bS:Bool}{n:Int}(I:si ε now bS n b e cT ah): Am.bY ah≤Am.bY ε:=by
 cases I with
 |may e c ah I he=>exact I.bY
 |bad c ah I J=>exact I.bY
 |done c ah I J=>exact I.bY
inductive iE (now:List (Int×List Nat)): List Int→bA→Int→List cr→bA→Prop where
 |nil (ε:bA):iE now [] ε 0 [] ε
 |err (n:Int) (l:List Int) (ε:bA) (e:Int) (b:List Nat) (ah:bA) (hr:lH ε n e b ah) (he:e≠0):iE now (n::l) ε e [] ah
 |part (n:Int) (l:List Int) (ε:bA) (eH b:List Nat) (ah:bA) (c:List cr) (e:Int) (cs:List cr) (kG:bA) (hr:lH ε n 0 eH ah) (hb:lookL n now=some b) (hd:(lookL n ah.1.cm).isSome=true) (hc:Nu n eH b c) (hl:c.length≤512) (ht:iE now l ah e cs kG):iE now (n::l) ε e (c++cs) kG
 |whole (n:Int) (l:List Int) (ε:bA) (eH b:List Nat) (ah:bA) (e:Int) (cs:List cr) (kG:bA) (hr:lH ε n 0 eH ah) (hb:lookL n now=some b) (hd:(lookL n ah.1.cm).isSome=false) (ht:iE now l ah e cs kG):iE now (n::l) ε e (⟨n,0,true,b⟩::cs) kG
theorem iE.kS {l:List Int}{cs:List cr}(I:iE now l ε e cs ah)(h:gR ε): gR ah:=by
 induction I with
 |nil ε=>exact h
 |err n l ε e b ah I he=>exact I.kS h
 |part n l ε eH b ah c e cs J I hb hd hc hl ht ih=>exact ih (I.kS h)
 |whole n l ε eH b ah e cs J I hb hd ht ih=>exact ih (I.kS h)
theorem iE.bY {l:List Int}{cs:List cr}(I:iE now l ε e cs ah): Am.bY ah≤Am.bY ε:=by
 induction I with
 |nil ε=>simp
 |err n l ε e b ah I he=>exact I.bY
 |part n l ε eH b ah c e cs J I hb hd hc hl ht ih=>exact b9 ih I.bY
 |whole n l ε eH b ah e cs J I hb hd ht ih=>exact b9 ih I.bY
theorem K5 {b:Nat}{v w:V}(I:look E a=some v)(J:look E b=some w): resLE P E h [.tmp a,.tmp b]=some (.aI [v,w]):=by grind[resLE,mapO,resE]
section
variable {told:cE} {p:Nat} {op v:V} {bS:Bool}
theorem AA (I:W told)(s:Sat h S): Call ⟨Tryz.prog,told⟩ 107 [.map id] h fun v h'=>∃b,v=.fn (.func 177) [] [.ptr b 0]∧Sat h' (pt b (.cells 1 [.map id] false)::S):=by
 refine Call.of_wp (I.free _ rfl) Tryz.func107 rfl rfl (zg rfl ?_)
 refine aq.bG s rfl rfl rfl (dc rfl rfl) (fun p1 h s => ?_)
 exact zk 4 rfl (zo rfl (vn rfl rfl) (zk 2 rfl (WP.ret ⟨aa,_,rfl,_,rfl,s⟩)))
theorem xE (I:W told)(s:Sat h (dN g a now bS::S))(hm:now.length≤1048576)(hk:∀n∈now.map (·.1),(Lit.int .i64 n).wf=true):
  Call ⟨Tryz.prog,told⟩ 92 [.ptr g 0] h fun v h'=>Sat h' (.arr 1 v (dO (c9 now))::dN g a now bS::S):=by
 obtain⟨nv,s⟩:=dQ.1 s
 obtain⟨J,rfl⟩:=FO s (j:=1) rfl
 refine Call.of_wp (I.free _ rfl) Tryz.func92 rfl rfl (zK 8 rfl (zY s 0 o6 mW rfl (zc rfl (AA I s) ?_)))
 rintro v h ⟨b,rfl,s⟩
 refine zc rfl (xz I (s.ae [0,1]) (by decide) hm hk) ?_
 intro kv h s
 exact zk 2 rfl (WP.ret ⟨aa,_,rfl,(dQ.2 ⟨.map J,(s.ae [3,2,0]).del 3⟩).ae [1]⟩)
noncomputable def cgL : Code:=c6 [1,1,0,1,0,0] ((Tryz.f103.body).getD .skip)
theorem Gq (hT:W told)(Nx:ks.length≤65536)(VS:∀n∈ks,(lookL n now).isSome=true)(tF:∀e∈now,e.2.length=512): ∀(j i:Nat) (acc:List cr) (av:V) (cs:List V) (ε:bA) (h:H) (E:List (Nat×V)) (Q:Ex→List (Nat×V)→H→Prop),i+j=ks.length →
  gR ε→bY ε≤268435456→acc.length≤512*i →
  Sat h (.arr 4 av cs::cG cs acc::dN g a now bS::c8 a p q r op data aH::dM r p q ε.1::bQ q p ε.2.1::bw p ε.2.2::.arr 1 kv (dO ks)::S) →
  Has E [(0,.ptr g 0),(4,av),(13,kv),(14,.int .i64 ks.length),(15,.int .i64 i)] →
  (∀e c ah E' h',iE now (ks.drop i) ε e c ah→e≠0→look E' 2=some .aO→look E' 3=some (.int .i64 e)→Sat h' (dN g a now bS::c8 a p q r op data aH::dM r p q ah.1::bQ q p ah.2.1::bw p ah.2.2::S)→Q .ret E' h') →
  (∀c ah E' h' nR cs',iE now (ks.drop i) ε 0 c ah→acc.length+c.length≤512*ks.length→Has E' [(4,nR)]→Sat h' (.arr 4 nR cs'::cG cs' (acc++c)::dN g a now bS::c8 a p q r op data aH::dM r p q ah.1::bQ q p ah.2.1::bw p ah.2.2::S)→Q (.exit 0) E' h') →
  WP ⟨Tryz.prog,told⟩ 65 (.loop cgL) E h Q:=by
 intro j
 induction j with
 |zero =>
  intro i acc av cs ε h E Q hj ku hw VR s hE hr hx
  refine WP.loop (WP.has hE (zg rfl (zC rfl aJ (by grind) ?_)))
  refine zk 3 rfl (WP.exit ?_)
  rw[kV (by omega)] at hx
  have s1:=s.del 7
  dsimp only[aC] at s1
  refine hx [] ε _ _ av cs (.nil ε) (by grind) ⟨rfl,aa⟩ ?_
  rw[iw]
  exact s1
 |succ j ih =>
  intro i acc av cs ε h E Q hj ku hw VR s hE hr hx
  have hn:ks[i]?=some (ks[i]'(by omega)):=bp _
  have CL:ks[i]'(by omega)∈ks:=tY _
  have qK:ks.drop i=ks[i]'(by omega)::ks.drop (i+1):=qM (by omega)
  generalize (ks[i]'(by omega))=n at hn CL qK
  have hc:(dO ks)[i]?=some (.int .i64 n):=by simp[dO,hn]
  obtain⟨b,hb⟩:=Option.isSome_iff_exists.1 (VS n CL)
  have ES:=tF _ (kF hb)
  simp only at ES
  rw[qK] at hr hx
  obtain⟨id,off,e1,e2⟩:=k_ (P:=Tryz.prog) s (k:=7) rfl hc gU nE
  refine WP.loop (WP.has hE (zg rfl (zB rfl aJ (by grind) ?_)))
  refine zk 5 rfl (WP.block (zg rfl (zo rfl (cu (r:=.ptr id off) rfl rfl e1) (zl rfl (e2 _ ep) ?_))))
  obtain⟨nv,s⟩:=dQ.1 (s.ae [2])
  dsimp only[bringA,getA,aC] at s
  refine zk 6 rfl (zY s 0 nK m6 rfl (zm rfl (zc rfl (Ay (n:=n) hT (s.ae [4,4,4,4]) ku.ok ku.pins (b9 sk hw)) ?_)))
  rintro v h ⟨e,w,ah,J,(⟨he,rfl,s⟩|⟨rfl,u,rfl,s⟩)⟩
  ·dsimp only[bringA,getA,aC] at s
   refine zk 10 rfl (zB rfl aA (by grind) ?_)
   refine zk 8 rfl (WP.ret (hr e [] ah _ _ (.err n _ ε e w ah J he) he rfl rfl ?_))
   have s:=dQ.2 ⟨nv,s.ae [4,4]⟩
   dsimp only[bringA,getA,aC] at s
   exact((s.del 7).del 6).del 5
  ·dsimp only[bringA,getA,aC] at s
   have D5:=J.kS ku
   have rP:=b9 J.bY hw
   have hlen:=J.len ku
   refine zk 10 rfl (zC rfl aA (rfl) ?_)
   have s:=s.gP
   have s:=s.ae [5,5,1,1,1,1,1,1,1,0]
   dsimp only[bringA,getA,aC] at s
   rcases jI (n:=n) (fun _ _=>aX.cL _ _) (s.ae [1]) pY bz qm with⟨g1,g2,_⟩|⟨nw,b',g1,_,g2,s2⟩
   ·grind
   rw[hb] at g1
   have:=cx g1
   subst this
   refine zk 7 rfl (zY s 0 o6 mW rfl (zm rfl (zo rfl (gx rfl rfl g2) ?_)))
   obtain⟨dv,s⟩:=cg.1 (s2.ae [3])
   dsimp only[bringA,getA,aC] at s
   have s:=s.ae [4]
   dsimp only[bringA,getA,aC] at s
   refine zk 6 rfl (zY s 0 nK m6 rfl (zn rfl (zY s 1 ri yE rfl (zm rfl (zc rfl (VM (n:=n) hT (s.ae [5])) ?_)))))
   rintro v h ⟨rfl,s⟩
   dsimp only[bringA,getA,aC] at s
   refine zk 10 rfl ?_
   cases hd:(lookL n ah.1.cm).isSome with
   |true =>
    refine zK 6 rfl (zc rfl (Nv hT (u:=u) (v:=nw) (pg:=n) (s.ae [11,4]) (eC _ _) (eC _ _) hlen ES) ?_)
    rintro rv h ⟨VT,c,hc,iZ,s⟩
    dsimp only[bringA,getA,aC] at s
    obtain⟨i1,mB,kE,xm⟩:=sj
    have Qk:cs.length=acc.length*4:=by
     obtain⟨a,b,q1,q2,q3⟩:=s.at (k:=12) rfl
     exact lS q3
    have abF:VT.length=c.length*4:=by
     obtain⟨a,b,q1,q2,q3⟩:=s.at (k:=1) rfl
     exact lS q3
    obtain⟨nR,h2,p_,s2⟩:=iV (s.ae [11,0]) gG mB mo kE (by omega) rfl (by decide) (by omega)
    dsimp only[bringA,getA,aC] at s2
    refine aq.any rfl rfl rfl (OpR.of (R:=fun v h'=>v=nR∧h'=h2) (pJ rfl rfl p_) ⟨rfl,rfl⟩) ?_
    rintro v' h' ⟨rfl,rfl⟩
    refine za rfl (zv (zr rfl (zb rfl (by exact aR (ax (by omega) (by omega))) ?_)))
    refine zm rfl (zv ?_)
    have s3:Sat _ (cG cs acc::cG VT c::_):=s2.ae [12,2]
    have s4:=s3.two (C:=cG (cs++VT) (acc++c)) (aX.mO _ _) (aX.mO _ _) fun a b q1 q2=>vx q1 q2
    dsimp only[bringA,getA,aC] at s4
    have s5:=cg.2 ⟨dv,s4.ae [7,7]⟩
    dsimp only[bringA,getA,aC] at s5
    have s6:=dQ.2 ⟨nv,s5.ae [7,7]⟩
    dsimp only[bringA,getA,aC] at s6
    have s7:=(((s6.ae [3,2,0,0,3,3,3,3]).del 10).del 9).del 8
    dsimp only[bringA,getA,aC] at s7
    refine ih (i+1) (acc++c) _ _ ah _ _ Q (by omega) D5 rP (by grind) s7 ⟨rfl,rfl,rfl,rfl,rfl,aa⟩ (fun e c' I E' h' ht he l2 l3 s' => ?_) (fun c' I E' h' Ql Qm ht hl eF s' => ?_)
    ·exact hr e _ I E' h' (.part n _ ε w b ah c e c' I J hb hd hc iZ ht) he l2 l3 s'
    ·refine hx (c++c') I E' h' Ql Qm (.part n _ ε w b ah c 0 c' I J hb hd hc iZ ht) (by grind) eF ?_<;>grind
   |false =>
    refine zK 5 rfl (zc rfl (ow hT (s.ae [4]) (eC _ _) (by omega)) ?_)
    intro cw h s
    dsimp only[bringA,getA,aC] at s
    obtain⟨wid,_,Qn,_,rfl,_⟩:=s.eZ (by omega)
    have s:=s.gP
    refine zo rfl (b_ rfl (by rw[KE];rfl)) ?_
    obtain⟨rv,h1,xC,s1⟩:=k9 (P:=Tryz.prog) (k:=4) (x:=.agg [.int .i64 n,.int .i64 0,.bool true,.sl wid 0 b.length Qn]) s gG mo oo rfl (by decide) (by decide) rfl rfl
    dsimp only[V.cells] at s1
    refine aq.any rfl rfl rfl (OpR.of (R:=fun v h'=>v=rv∧h'=h1) (ob rfl xC) ⟨rfl,rfl⟩) ?_
    rintro v' h' ⟨rfl,rfl⟩
    obtain⟨i1,mB,kE,xm⟩:=sj
    have Qk:cs.length=acc.length*4:=by
     obtain⟨a,b,q1,q2,q3⟩:=s1.at (k:=11) rfl
     exact lS q3
    obtain⟨nR,h2,p_,s2⟩:=iV (s1.ae [10,0]) gG mB mo kE (by omega) rfl (by decide) (by grind)
    dsimp only[bringA,getA,aC] at s2
    refine aq.any rfl rfl rfl (OpR.of (R:=fun v h'=>v=nR∧h'=h2) (pJ rfl rfl p_) ⟨rfl,rfl⟩) ?_
    rintro v' h' ⟨rfl,rfl⟩
    refine za rfl (zv (zr rfl (zb rfl (by exact aR (ax (by omega) (by omega))) ?_)))
    refine zm rfl (zv ?_)
    have s3:Sat _ (cG cs acc::.cL (.sl wid 0 b.length Qn) b::_):=s2.ae [11,2]
    have s4:=s3.two (C:=cG (cs++[.int .i64 n,.int .i64 0,.bool true,.sl wid 0 b.length Qn]) (acc++[⟨n,0,true,b⟩])) (aX.mO _ _) (aX.cL _ _) fun a b q1 q2=>vx q1 ⟨⟨⟨rfl,rfl,rfl⟩,q2⟩,aa⟩
    have s5:=cg.2 ⟨dv,s4.ae [6,6]⟩
    have s6:=dQ.2 ⟨nv,s5.ae [6,6]⟩
    have s7:=(((s6.ae [3,2,0,0,2,2,2,2]).del 10).del 9).del 8
    dsimp only[bringA,getA,aC] at s7
    refine ih (i+1) (acc++[⟨n,0,true,b⟩]) _ _ ah _ _ Q (by omega) D5 rP (by grind) s7 ⟨rfl,rfl,rfl,rfl,rfl,aa⟩ (fun e c' I E' h' ht he l2 l3 s' => ?_) (fun c' I E' h' Ql Qm ht hl eF s' => ?_)
    ·exact hr e _ I E' h' (.whole n _ ε w b ah e c' I J hb hd ht) he l2 l3 s'
    ·refine hx (⟨n,0,true,b⟩::c') I E' h' Ql Qm (.whole n _ ε w b ah 0 c' I J hb hd ht) (by grind) eF ?_<;>grind
theorem BT (J:W told)(s:Sat h (dN g a now bS::c8 a p q r op data aH::dM r p q ε.1::bQ q p ε.2.1::bw p ε.2.2::S))(ku:gR ε)(hw:bY ε≤268435456)(I:∀e∈now,e.2.length=512)(hm:now.length≤65536)(hk:∀n∈now.map (·.1),(Lit.int .i64 n).wf=true):
  Call ⟨Tryz.prog,told⟩ 103 [.ptr g 0] h fun v h'=>∃e c ah,iE now (c9 now) ε e c ah ∧
   ((e≠0∧v=.aI [.aO,.int .i64 e]∧Sat h' (dN g a now bS::c8 a p q r op data aH::dM r p q ah.1::bQ q p ah.2.1::bw p ah.2.2::S)) ∨
    (e=0∧c.length≤33554432∧∃av cs,v=.aI [av,.int .i64 0]∧Sat h' (.arr 4 av cs::cG cs c::dN g a now bS::c8 a p q r op data aH::dM r p q ah.1::bQ q p ah.2.1::bw p ah.2.2::S))):=by
 have hl:(c9 now).length=now.length:=by rw[c9,(e_ _).length_eq,fE]
 refine Call.of_wp (J.free _ rfl) Tryz.func103 rfl rfl (zK 13 rfl (zc rfl (xE J s (by omega) hk) ?_))
 intro kv h s
 refine zo rfl (aQ rfl rfl rfl (s.gF (n:=(c9 now).length) (j:=0) rfl (by simp[dO]) (by decide) gU)) ?_
 refine zk 2 rfl (WP.block ?_)
 have s1:=(((s.fH aa).ot (k:=4)).gO fun a b q=>q).ae [0,0,1,1,1,1,1,0]
 refine Gq J (ks:=c9 now) (now:=now) (by omega) (fun n hn => ?_) I (c9 now).length 0 [] .aO [] ε _ _ _ (by omega) ku hw (by simp) s1 ⟨rfl,rfl,rfl,rfl,rfl,aa⟩ (fun e c ah E' h' hr he l2 l3 s' => ?_) (fun c ah E' h' av cs hr iZ eF s' => ?_)
 ·have:n∈now.map (·.1):=(e_ _).mem_iff.1 hn
  cases hq:lookL n now<;>grind[ou]
 ·exact⟨aa,_,K5 l2 l3,e,c,ah,hr,.inl ⟨he,rfl,s'⟩⟩
 ·have s:=s'
  exact WP.has eF (zK 6 rfl (WP.ret ⟨aa,_,rfl,0,c,ah,hr,.inr ⟨rfl,by omega,_,_,rfl,s⟩⟩))
end
theorem xF (I:bW b=true): (cS b n).length=512:=by
 have J:=vu (n:=n) (fW I)
 rw[cS,cQ (by rw[cF];omega),J]
def ie (π:Pl)(n:Int)(b:List Nat)(aB:Nat): Int×Pl :=
 (if (jV π n b aB).1=0 then(unpinF (jV π n b aB).2 n).1 else(jV π n b aB).1,(unpinF (jV π n b aB).2 n).2)
def AB (π:Pl)(n:Int)(i:Nat)(f:Fm)(b:List Nat)(aB:Nat): Pl :=
 { π with ag:=π.ag.set i { f with b:=cS b aB,changed:=true,pins:=0 },cm:=cN n (kr π n aB,true) π.cm }
theorem vC {n:Int}(J:lookL n π.bD=some (i:Int))(I:π.ag[i]?=some f)(hp:f.pins=1)(hg:bW b=true): ie π n b aB=(0,AB π n i f b aB):=by
 have h1:=(sg J I hp).1
 have hi:=(List.getElem?_eq_some_iff.1 I).1
 have e1:jV π n b aB=(0,{ π with ag:=π.ag.set i { f with b:=cS b aB,changed:=true },cm:=cN n (kr π n aB,true) π.cm }):=by
  simp only[jV,h1,I,hg,Bool.true_eq_false,eM]
 have e2:=(sg (π:={ π with ag:=π.ag.set i { f with b:=cS b aB,changed:=true },cm:=cN n (kr π n aB,true) π.cm }) (n:=n) (f:={ f with b:=cS b aB,changed:=true }) J (jt hi) hp).2
 simp only[ie,e1,e2,b7,List.set_set]
 rfl
theorem Ny {n:Int}(J:lookL n π.bD=some (i:Int))(I:π.ag[i]?=some f)(hp:f.pins=1)(hg:bW b=false): ie π n b aB=(4,{ π with ag:=π.ag.set i { f with pins:=0 } }):=by
 have h1:=(sg J I hp).1
 have e1:jV π n b aB=(4,π):=by simp only[jV,h1,I,hg,b7]
 have e2:=(sg J I hp).2
 simp only[ie,e1,e2]
 rfl
theorem Tx {n:Int}(h:π.Ok): (jV π n b aB).2.Ok:=by
 unfold jV
 split
 ·exact h
 ·split
  ·exact h
  ·rename_i f J
   have hm:=bI J
   split
   ·exact h
   ·rename_i I
    have I:bW b=true:=by simpa using I
    exact h.set h.bD (by simp only[xF I];omega) (h.pins f hm)
theorem fc.put {n:Int}{b0:List Nat}(hr:fc ε n 0 b0 ah)(h:gR ε): gR ((ie ah.1 n b aB).2,ah.2)∧Am.bY ((ie ah.1 n b aB).2,ah.2)≤Am.bY ε+1∧(bW b=true→(ie ah.1 n b aB).1=0):=by
 have I:=hr.ok h.ok h.pins
 have J:=(hr.full h.ok.dk h.full).1
 obtain⟨i,f,h1,h2,h3,h4,h5⟩:=hr.at h.pins
 have hm:=bI h2
 have vD:=hr.bY
 cases hg:bW b with
 |true =>
  rw[vC h1 h2 h3 hg]
  refine⟨⟨⟨I.pl.set I.pl.bD (by simp only[xF hg];omega) (by simp),I.lg,I.dk⟩,h5 _ rfl,J.set h2 rfl fun _=>xF hg⟩,?_,fun _=>rfl⟩
  have h6:=lp (g:={ f with b:=cS b aB,changed:=true,pins:=0 }) h2
  simp only[Bool.toNat_true] at h6
  simp only[Am.bY,AB] at vD ⊢
  omega
 |false =>
  rw[Ny h1 h2 h3 hg]
  refine⟨⟨⟨I.pl.set I.pl.bD (I.pl.len f hm) (by simp),I.lg,I.dk⟩,h5 _ rfl,J.set h2 rfl fun hl=>hl⟩,?_,fun h=>by cases h⟩
  have h6:=lp (g:={ f with pins:=0 }) h2
  simp only[Am.bY] at vD h6 ⊢
  omega
inductive PtR (now:List (Int×List Nat))(aB:Nat): List Int→bA→Int→bA→Prop where
 |nil (ε:bA):PtR now aB [] ε 0 ε
 |jb (n:Int) (l:List Int) (ε:bA) (e:Int) (b:List Nat) (ah:bA) (hr:fc ε n e b ah) (he:e≠0):PtR now aB (n::l) ε e ah
 |bad (n:Int) (l:List Int) (ε:bA) (b0 b:List Nat) (ah:bA) (hr:fc ε n 0 b0 ah) (hb:lookL n now=some b) (he:(ie ah.1 n b aB).1≠0):PtR now aB (n::l) ε (ie ah.1 n b aB).1 ((ie ah.1 n b aB).2,ah.2)
 |put (n:Int) (l:List Int) (ε:bA) (b0 b:List Nat) (ah:bA) (e:Int) (kG:bA) (hr:fc ε n 0 b0 ah) (hb:lookL n now=some b) (he:(ie ah.1 n b aB).1=0) (ht:PtR now aB l ((ie ah.1 n b aB).2,ah.2) e kG):PtR now aB (n::l) ε e kG
theorem PtR.kS {l:List Int}(I:PtR now aB l ε e ah)(h:gR ε): gR ah:=by
 induction I with
 |nil ε=>exact h
 |jb n l ε e b ah I he=>exact⟨I.ok h.ok h.pins,I.Jo he h.pins,(I.full h.ok.dk h.full).1⟩
 |bad n l ε b0 b ah I hb he=>exact(I.put h).1
 |put n l ε b0 b ah e J I hb he ht ih=>exact ih (I.put h).1
theorem PtR.bY {l:List Int}(I:PtR now aB l ε e ah)(h:gR ε): Am.bY ah≤Am.bY ε+l.length:=by
 induction I with
 |nil ε=>exact aS _
 |jb n l ε e b ah I he=>have:=I.bY;omega
 |bad n l ε b0 b ah I hb he=>have:=(I.put (b:=b) (aB:=aB) h).2.1;simp only[bq];omega
 |put n l ε b0 b ah e J I hb he ht ih=>have h1:=ih (I.put h).1;have:=(I.put (b:=b) (aB:=aB) h).2.1;simp only[bq];omega
theorem X2 {c:Nat}{n:Int}{kt et:TypeId}{k:IntKind}{z:V}(J:T.get h.tr id=some (.map (es.map MS) c))(he:lookE n es=some u)(hu:Tryz.prog.underlying t=some (.map kt et))(hk:Tryz.prog.underlying kt=some (.int k))(hz:zeroT Tryz.prog et=some z):
  dK Tryz.prog h t (.map id) (.int .i64 n) false=some u:=by
 have hi:=pW (n:=n) es 0
 simp only[dK,lookupV,hu,hk,hz,J,keyBeq,dI,ai,uJ]
 cases I:idxE n es 0 with
 |none=>rw[I] at hi;rw[he] at hi;cases hi
 |some q=>rw[I] at hi;rw[he] at hi;obtain⟨j,w⟩:=q;have:=cx hi;simp only at this;subst this;rfl
section
variable {told:cE} {p:Nat} {op v:V} {bS:Bool}
noncomputable def dnL : Code:=c6 [1,1,1,1,1,1,1,1,0,1,0,0] ((Tryz.f50.body).getD .skip)
theorem Nz (hT:W told){dv:V}{uQ c:Nat}(Nx:ks.length≤65536)(VS:∀n∈ks,(lookL n now).isSome=true)(tF:∀e∈now,e.2.length=512): ∀(j i:Nat) (ε:bA) (h:H) (E:List (Nat×V)) (Q:Ex→List (Nat×V)→H→Prop),i+j=ks.length →
  gR ε→bY ε+j≤268435456 →
  Sat h (pt g (.cells 3 [.ptr a 0,.map uQ,.bool bS] false)::FL uQ es c::f_ (fun v b=>.cL v b) es now::pt a (.cells 6 (Jn a p q r op dv aH) false)::dM r p q ε.1::bQ q p ε.2.1::bw p ε.2.2::.arr 1 kv (dO ks)::S) →
  Has E [(0,.ptr g 0),(6,.ptr a 0),(8,.int .u64 (aB:Int)),(73,kv),(74,.int .i64 ks.length),(75,.int .i64 i)] →
  (∀e ah E' h',PtR now aB (ks.drop i) ε e ah→e≠0→look E' 4=some (.int .u64 0)→look E' 5=some (.int .i64 e)→Sat h' (pt g (.cells 3 [.ptr a 0,.map uQ,.bool bS] false)::FL uQ es c::f_ (fun v b=>.cL v b) es now::pt a (.cells 6 (Jn a p q r op dv aH) false)::dM r p q ah.1::bQ q p ah.2.1::bw p ah.2.2::S)→Q .ret E' h') →
  (∀ah E' h',PtR now aB (ks.drop i) ε 0 ah→Has E' [(8,.int .u64 (aB:Int))]→Sat h' (pt g (.cells 3 [.ptr a 0,.map uQ,.bool bS] false)::FL uQ es c::f_ (fun v b=>.cL v b) es now::pt a (.cells 6 (Jn a p q r op dv aH) false)::dM r p q ah.1::bQ q p ah.2.1::bw p ah.2.2::S)→Q (.exit 1) E' h') →
  WP ⟨Tryz.prog,told⟩ 118 (.loop dnL) E h Q:=by
 intro j
 induction j with
 |zero =>
  intro i ε h E Q hj I hw s hE hr hx
  refine WP.loop (WP.has hE (zg rfl (zC rfl aJ (by simp<;>omega) ?_)))
  refine zk 3 rfl (WP.exit ?_)
  rw[kV (by omega)] at hx
  exact hx ε _ _ (.nil ε) ⟨rfl,aa⟩ (s.del 7)
 |succ j ih =>
  intro i ε h E Q hj I hw s hE hr hx
  have hn:ks[i]?=some (ks[i]'(by omega)):=bp _
  have CL:ks[i]'(by omega)∈ks:=tY _
  have qK:ks.drop i=ks[i]'(by omega)::ks.drop (i+1):=qM (by omega)
  generalize (ks[i]'(by omega))=n at hn CL qK
  have hc:(dO ks)[i]?=some (.int .i64 n):=by simp[dO,hn]
  obtain⟨b,hb⟩:=Option.isSome_iff_exists.1 (VS n CL)
  have ES:=tF _ (kF hb)
  simp only at ES
  rw[qK] at hr hx
  obtain⟨id,off,e1,e2⟩:=k_ (P:=Tryz.prog) s (k:=7) rfl hc gU nE
  refine WP.loop (WP.has hE (zg rfl (zB rfl aJ (by simp<;>omega) ?_)))
  refine zk 5 rfl (WP.block (zg rfl (zo rfl (cu (r:=.ptr id off) rfl rfl e1) (zl rfl (e2 _ ep) (zk 7 rfl (zY s 3 ri yE rfl (zm rfl (zc rfl (Nj (n:=n) hT (s.ae [4,4,4]) I.ok.pl I.pins I.ok.lg I.ok.dk (by have:=sk (ε:=ε);omega)) ?_))))))))
  rintro v h ⟨e,b0,ah,Gr,(⟨he,rfl,s⟩|⟨rfl,u0,rfl,s⟩)⟩
  ·dsimp only[bringA,getA,aC] at s
   refine zk 9 rfl (zB rfl aA (by simp;exact he) ?_)
   exact zk 8 rfl (WP.ret (hr e ah _ _ (.jb n _ ε e b0 ah Gr he) he rfl rfl ((s.ae [3,3,3,3,0,0,0]).del 7)))
  ·dsimp only[bringA,getA,aC] at s
   have s:=s.drop
   have Qo:=Gr.put (b:=b) (aB:=aB) I
   have g_:=Gr.ok I.ok I.pins
   refine zk 9 rfl (zC rfl aA (rfl) (zk 4 rfl ?_))
   have s1:Sat h (f_ (fun v b=>.cL v b) es now::_):=s.ae [5]
   obtain⟨_,_,_,_,q3⟩:=s1.at (k:=0) rfl
   rcases qI (n:=n) q3 with⟨_,q4⟩|⟨u,b',g1,g2,_⟩
   ·rw[hb] at q4;cases q4
   rw[hb] at g2
   have:=cx g2
   subst this
   have s2:=(s1.dup (aX.PK (fun _ _=>aX.cL _ _) _ _)).gO (B:=.cL u b) fun a' b' h'=>by
    rcases qI (n:=n) h' with⟨_,q4⟩|⟨u',YC,Y4,Y5,g3'⟩
    ·rw[hb] at q4;cases q4
    ·rw[g1] at Y4;rw[hb] at Y5
     have h5:=cx Y4
     have h6:=cx Y5
     subst h5;subst h6
     exact g3'
   dsimp only[bringA,getA,aC] at s2
   obtain⟨uid,abG,abH,rfl⟩:=gL (s2.aD (k:=0) rfl (eC _ _)) (by omega)
   have s:=s2.ae [2,0]
   dsimp only[bringA,getA,aC] at s
   have s0:=s
   refine WP.drawn [af,af,af,af,af,af,af,af,af,af,af,af,af,af] rfl (by kernel_rfl) (by kernel_rfl) ?_
   refine zM rfl (zN rfl (zF rfl (ri _ _) (zL rfl (s.ld (k:=7) rfl yE rfl) (zM rfl (zM rfl (zN rfl (zF rfl (o6 _ _) (zL rfl (s.ld (k:=5) rfl mW rfl) (zM rfl (zO rfl (gx rfl rfl (X2 (s.row (k:=6) rfl) g1 pY bz qm)) (zM rfl (az.any rfl rfl rfl rfl (OpR.call rfl rfl rfl rfl (Tr (n:=n) (aB:=aB) (b:=b) hT s (eC _ _) g_.pl (by omega))) ?_))))))))))))
   rintro v h ⟨rfl,s⟩
   refine zA rfl ?_
   refine az.nil ⟨⟨aa,aa,aa,aa,aa,aa,aa,aa,aa,aa,aa,aa,aa,aa,aa⟩,?_⟩
   refine zK 5 rfl (zY s 7 ri yE rfl (zm rfl (zc rfl (Gd (n:=n) hT s (Tx g_.pl)) ?_)))
   rintro v h ⟨rfl,s⟩
   refine zk 5 rfl ?_
   by_cases hg:(jV ah.1 n b aB).1=0
   ·have Jp:(ie ah.1 n b aB).1=(unpinF (jV ah.1 n b aB).2 n).1:=by simp only[ie,hg,b7]
    have Jq:(ie ah.1 n b aB).2=(unpinF (jV ah.1 n b aB).2 n).2:=rfl
    rw[←Jp,←Jq] at *
    refine zB rfl c4 (by simp;exact hg) ?_
    refine zk 9 rfl ?_
    by_cases he:(ie ah.1 n b aB).1=0
    ·skip
     refine zC rfl aA (by simp;exact he) ?_
     refine zv (zj rfl (WP.skip (zr rfl (zb rfl (by exact aR (ax (by omega) (by omega))) ?_))))
     refine zm rfl (zv ?_)
     have s9:=(s.ae [5,5,2,4,0,1,1,1]).del 8
     refine ih (i+1) ((ie ah.1 n b aB).2,ah.2) _ _ Q (by omega) Qo.1 (by have h9:bY ((ie ah.1 n b aB).2,ah.2)≤bY ε+1:=Qo.2.1;omega) s9 ⟨rfl,rfl,rfl,rfl,rfl,rfl,aa⟩ (fun e J E' h' ht IK l4 l5 s' => ?_) (fun J E' h' ht eF s' => ?_)
     ·exact hr e J E' h' (.put n _ ε b0 b ah e J Gr hb he ht) IK l4 l5 s'
     ·exact hx J E' h' (.put n _ ε b0 b ah 0 J Gr hb he ht) eF s'
    ·skip
     refine zB rfl aA (by simp;exact he) ?_
     exact zk 8 rfl (WP.ret (hr _ _ _ _ (.bad n _ ε b0 b ah Gr hb he) he rfl rfl (((s.ae [5,5,2,4,0,1,1,1]).del 8).del 7)))
   ·have Jp:(ie ah.1 n b aB).1=(jV ah.1 n b aB).1:=by simp only[ie,hg,eM]
    have Jq:(ie ah.1 n b aB).2=(unpinF (jV ah.1 n b aB).2 n).2:=rfl
    rw[←Jp] at hg
    refine zC rfl c4 (by simp;rw[←Jp];exact hg) ?_
    refine zk 6 rfl (zB rfl aA (by simp;rw[←Jp];exact hg) ?_)
    refine zk 8 rfl (WP.ret (hr _ _ _ _ (.bad n _ ε b0 b ah Gr hb hg) hg rfl (by rw[Jp];rfl) ?_))
    exact((s.ae [5,5,2,4,0,1,1,1]).del 8).del 7
end
theorem we.fit {pg:Int}{now:List Nat}{l:List cr}(J:we pg eH now i l)(hn:now.length=512)(h0:0≤pg)(h1:pg<65536): ∀c∈l,c.Ok∧c.b.length≤512:=by
 induction J with
 |done i h=>intro c I;cases I
 |skip i l h he J ih=>exact ih
 |take i e l h2 h3 _ _ J ih =>
  intro c I
  rcases List.mem_cons.1 I with rfl|I
  ·have hl:((now.take e).drop i).length=e-i:=by simp;omega
   refine⟨⟨h0,h1,by simp,by simp only;omega,by simp only[hl];omega,by simp⟩,by simp only[hl];omega⟩
  ·exact ih c I
theorem Nu.fit {pg:Int}{now:List Nat}{l:List cr}(hr:Nu pg eH now l)(hn:now.length=512)(I:0≤pg)(J:pg<65536): ∀c∈l,c.Ok∧c.b.length≤512:=by
 obtain⟨m,h2,rfl⟩:=hr
 split
 ·intro c hc
  rw[List.mem_singleton.1 hc]
  exact⟨⟨I,J,by simp,by simp,by simp,by simp⟩,by simp⟩
 ·exact h2.fit hn I J
theorem iE.fit {l:List Int}{cs:List cr}(hr:iE now l ε e cs ah)(J:∀x∈now,x.2.length=512)(hl:∀n∈l,0≤n∧n<65536): ∀c∈cs,c.Ok∧c.b.length≤512:=by
 induction hr with
 |nil ε=>intro c hc;cases hc
 |err n l ε e b ah hr he=>intro c hc;cases hc
 |part n l ε eH b ah c e cs kG hr hb hd hc iZ ht ih =>
  intro x I
  have hn:=hl n dJ
  rcases List.mem_append.1 I with I|I
  ·exact hc.fit (J _ (kF hb)) hn.1 hn.2 x I
  ·exact ih (fun m hm=>hl m (dh _ hm)) x I
 |whole n l ε eH b ah e cs kG hr hb hd ht ih =>
  intro x I
  have hn:=hl n dJ
  have hb:=J _ (kF hb)
  rcases List.mem_cons.1 I with rfl|I
  ·exact⟨⟨hn.1,hn.2,by simp,by simp,by simp only at hb ⊢;omega,fun _=>⟨rfl,hb⟩⟩,by simp only at hb ⊢;omega⟩
  ·exact ih (fun m hm=>hl m (dh _ hm)) x I
theorem s8 : ∀(f n:Nat),(digits f n).length≤f+1:=by
 intro f
 induction f with
 |zero=>intro n;simp[digits]
 |succ f I =>
  intro n
  unfold digits
  split
  ·simp
  ·have:=I (n/128)
   simp only[bq]
   omega
theorem VU {c:cr}(I:c.b.length≤512): (iH c).length≤543:=by
 have J:=s8 9 c.aY.toNat
 have h2:=s8 9 c.pos.toNat
 have h3:=s8 9 c.b.length
 simp only[iH,bP,bq,cD]
 omega
theorem Ty : ∀ {l:List cr},(∀c∈l,c.b.length≤512)→(l.flatMap iH).length≤543*l.length:=by
 intro l
 induction l with
 |nil=>intro _;simp
 |cons c l I =>
  intro h
  have h1:=VU (h c dJ)
  have h2:=I fun x J=>h x (dh _ J)
  simp only[nj,bP,bq]
  omega
theorem Jr {l:List cr}(hl:l.length≤33554432)(h:∀c∈l,c.Ok∧c.b.length≤512)(J:tx<18446744073709551616)(qw:pv<18446744073709551616)(qx:nx<18446744073709551616)(hd:data.length≤35184372088832): BH tx pv nx data l:=by
 have h2:=Ty fun c I=>(h c I).2
 refine⟨⟨by omega,fun c I=>by have:=(h c I).2;omega,fun c I => ?_⟩,J,qw,qx,by omega⟩
 have:=(h c I).1
 simp only[cr.Ok] at this
 omega
theorem AD {l:List cr}{kd:Int}(I:1≤kd∧kd≤9)(h:∀c∈l,c.Ok∧c.b.length≤512): dg kd l=true:=by
 simp only[dg,bC,gn,tX]
 exact⟨I,fun c J=>(h c J).1⟩
inductive qf (ε:bA)(now:List (Int×List Nat))(kd:Int)(tx pv nx:Nat)(data:List Nat)(oD:Nat): Nat→Int→Bool→bA→Prop where
 |arg (h:¬(1≤kd∧kd≤7)∨0<oD):qf ε now kd tx pv nx data oD 0 1 false ε
 |dead (h1:1≤kd) (h2:kd≤7) (h3:oD=0) (h:ε.2.2.dead=true):qf ε now kd tx pv nx data oD 0 9 false ε
 |mO (e:Int) (c:List cr) (ah:bA) (h1:1≤kd) (h2:kd≤7) (h3:oD=0) (h:ε.2.2.dead=false) (hc:iE now (c9 now) ε e c ah) (he:e≠0):qf ε now kd tx pv nx data oD 0 e false ah
 |app (c:List cr) (ah:bA) (h1:1≤kd) (h2:kd≤7) (h3:oD=0) (h:ε.2.2.dead=false) (hc:iE now (c9 now) ε 0 c ah) (he:(bg ah.2 kd tx pv nx data c).1.2≠0):qf ε now kd tx pv nx data oD 0 (bg ah.2 kd tx pv nx data c).1.2 false (ah.1,(bg ah.2 kd tx pv nx data c).2)
 |put (c:List cr) (ah:bA) (e:Int) (kG:bA) (h1:1≤kd) (h2:kd≤7) (h3:oD=0) (h:ε.2.2.dead=false) (hc:iE now (c9 now) ε 0 c ah) (ha:(bg ah.2 kd tx pv nx data c).1.2=0) (hp:PtR now (bg ah.2 kd tx pv nx data c).1.1 (c9 now) (ah.1,(bg ah.2 kd tx pv nx data c).2) e kG) :
   qf ε now kd tx pv nx data oD (if e=0 then(bg ah.2 kd tx pv nx data c).1.1 else 0) e true kG
structure s_ (ε ah:bA): Prop where
 base:ah.2.1.base=ε.2.1.base
 b:ah.2.1.b=ε.2.1.b
 bU:ah.2.1.bU=ε.2.1.bU
 check:ah.2.1.check=ε.2.1.check
 log:ah.2.2.log=ε.2.2.log
 room:ah.2.2.room=ε.2.2.room
 bu:ah.2.2.bu=ε.2.2.bu
theorem s_.refl (ε:bA): s_ ε ε:=⟨rfl,rfl,rfl,rfl,rfl,rfl,rfl⟩
theorem s_.trans {a b c:bA}(x:s_ a b)(y:s_ b c): s_ a c :=
 ⟨y.base.trans x.base,y.b.trans x.b,y.bU.trans x.bU,y.check.trans x.check,y.log.trans x.log,y.room.trans x.room,y.bu.trans x.bu⟩
theorem my : δ.fM.2.log=δ.log∧δ.fM.2.room=δ.room∧δ.fM.2.bu=δ.bu:=by
 unfold Dk.fM
 split
 ·simp
 ·split<;>exact⟨rfl,rfl,rfl⟩
theorem vE {n:Int}: (δ.cV n b).2.log=δ.log∧(δ.cV n b).2.room=δ.room∧(δ.cV n b).2.bu=δ.bu:=by
 unfold Dk.cV
 split
 ·simp
 ·split
  ·simp
  ·split<;>exact⟨rfl,rfl,rfl⟩
theorem Gs {x:LD}: s_ (π,x) (π,(bF x n).2):=by
 unfold bF
 split
 ·exact s_.refl _
 ·split
  ·exact⟨rfl,rfl,rfl,rfl,my.1,my.2.1,my.2.2⟩
  ·exact⟨rfl,rfl,rfl,rfl,my.1,my.2.1,my.2.2⟩
theorem s_.to (h:s_ ε ah): s_ ε (π,ah.2):=⟨h.base,h.b,h.bU,h.check,h.log,h.room,h.bu⟩
structure kx (R:LD→Prop): Prop where
 force:∀(x:LD) (n:Nat),R x→R (bF x n).2
 write:∀(x:LD) (n:Int) (b:List Nat),R x→R (x.1,(x.2.cV n b).2)
section
variable {R:LD→Prop} {n:Int} {bS:Bool} {l:List Int} {cs:List cr}
theorem kx.out (h:kx R)(I:R ε.2): R (outF ε i).2.2:=by
 unfold outF
 split
 ·exact I
 ·split
  ·exact I
  ·split
   ·exact I
   ·split
    ·exact h.force _ _ I
    ·split
     ·exact h.write _ _ _ (h.force _ _ I)
     ·exact h.write _ _ _ (h.force _ _ I)
theorem kx.jb (h:kx R)(I:fc ε n e b ah)(J:R ε.2): R ah.2:=by
 cases I<;>grind[out]
theorem kx.rd (h:kx R)(I:lH ε n e b ah)(J:R ε.2): R ah.2:=by
 cases I<;>grind[jb]
theorem kx.xG (h:kx R)(J:GRd ε now bS n e b ah)(I:R ε.2): R ah.2:=by
 cases J with
 |arg hn=>exact I
 |bS _ _ _=>exact I
 |own b h1 h2 _ hl=>exact I
 |read e b ah h1 h2 _ hl J=>exact h.rd J I
theorem kx.NA (h:kx R)(I:si ε now bS n b e cT ah)(J:R ε.2): R ah.2:=by
 cases I with
 |may e c ah I he=>exact h.xG I J
 |bad c ah I hg=>exact h.xG I J
 |done c ah I hg=>exact h.xG I J
theorem kx.ch (h:kx R)(I:iE now l ε e cs ah): R ε.2→R ah.2:=by
 induction I with
 |nil ε=>simp
 |err n l ε e b ah I he=>exact h.rd I
 |part n l ε eH b ah c e cs J I hb hd hc iZ ht ih=>exact fun hx=>ih (h.rd I hx)
 |whole n l ε eH b ah e cs J I hb hd ht ih=>exact fun hx=>ih (h.rd I hx)
theorem kx.pt (h:kx R)(I:PtR now aB l ε e ah): R ε.2→R ah.2:=by
 induction I<;>grind[jb]
theorem NB (ε:bA): kx fun y=>s_ ε (ε.1,y) :=
 ⟨fun _ _ h=>h.trans Gs,fun _ _ _ h=>h.trans ⟨rfl,rfl,rfl,rfl,vE.1,vE.2.1,vE.2.2⟩⟩
theorem iE.same (I:iE now l ε e cs ah): s_ ε ah:=((NB ε).ch I (s_.refl ε)).to
end
theorem Qp {m:Nat}: ∀ {l:List Nat},l.Pairwise (· < ·)→(∀s∈l,s<m)→l.length≤m:=by
 intro l I J
 have key:∀(l:List Nat) (k:Nat),l.Pairwise (· < ·)→(∀s∈l,k≤s∧s<m)→k+l.length≤m∨l=[]:=by
  intro l
  induction l with
  |nil=>simp
  |cons x l ih =>
   intro k I J
   simp only[tV] at I
   have hx:=J x dJ
   rcases ih (x+1) I.2 (fun s hs=>⟨I.1 s hs,(J s (dh _ hs)).2⟩) with h|rfl<;>grind
 rcases key l 0 I (fun s hs=>⟨eX _,J s hs⟩) with h|rfl
 ·omega
 ·simp
theorem g9 (x:LD)(kd:Int)(tx pv nx:Nat)(data:List Nat)(c:List cr):
  (∃e:Int,e≠0∧((e=1∧dg kd c=false)∨(e=2∧1048576<(cI kd tx pv nx data c).length)∨(e=9∧x.2.dead=true)∨(e=7∧x.2.room<x.2.log.length+(eB x.1 kd tx pv nx data c).length))∧bg x kd tx pv nx data c=((0,e),x)) ∨
  (x.2.dead=false∧x.2.bH=0∧bg x kd tx pv nx data c=((0,9),(x.1,{ x.2.die with tail:=eB x.1 kd tx pv nx data c }))) ∨
  (dg kd c=true∧(cI kd tx pv nx data c).length≤1048576∧x.2.dead=false∧x.2.log.length+(eB x.1 kd tx pv nx data c).length≤x.2.room∧x.2.bH≠0 ∧
   bg x kd tx pv nx data c=((x.1.base+x.1.b.length,0),(x.1.app (eB x.1 kd tx pv nx data c),{ x.2.gQ with log:=x.2.log++eB x.1 kd tx pv nx data c }))):=by
 by_cases I:dg kd c=false
 ·grind[bg]
 ·by_cases J:1048576<(cI kd tx pv nx data c).length
  ·grind[bg]
  ·by_cases hd:x.2.dead=true
   ·grind[Dk.pz,bg]
   grind[Dk.pz,bg]
theorem z8 {x:LD}{kd:Int}{c:List cr}(J:x.1.Ok)(I:x.2.Ok)(hs:x.1.b=x.2.log)(hz:x.1.base+x.1.b.length+1048584≤1099511627776):
  (bg x kd tx pv nx data c).2.1.Ok∧(bg x kd tx pv nx data c).2.2.Ok∧(bg x kd tx pv nx data c).2.1.b=(bg x kd tx pv nx data c).2.2.log∧(bg x kd tx pv nx data c).2.1.base=x.1.base∧(bg x kd tx pv nx data c).2.1.b.length≤x.1.b.length+1048584 ∧
  (bg x kd tx pv nx data c).2.2.waiting=x.2.waiting∧(bg x kd tx pv nx data c).1.1<1099511627776:=by
 have hlen:(eB x.1 kd tx pv nx data c).length=8+(cI kd tx pv nx data c).length:=kK _ _
 rcases g9 x kd tx pv nx data c with⟨e,_,_,h⟩|⟨hd,hf,h⟩|⟨hg,hb,hd,eR,hf,h⟩
 ·grind
 ·rw[h];exact⟨J,⟨I.bH,I.len,I.room,I.now,I.bu,I.eA,I.many⟩,hs,rfl,Nat.le_add_right _ _,rfl,by simp⟩
 ·rw[h]
  generalize eB x.1 kd tx pv nx data c=rc at hlen eR
  have aa9:=I.room
  have jY:x.1.b.length=x.2.log.length:=by rw[hs]
  have hl:(x.1.b++rc).length=x.1.b.length+rc.length:=bP
  have gA:(x.2.log++rc).length=x.2.log.length+rc.length:=bP
  refine⟨⟨?_,?_,?_,?_,?_,?_,J.check⟩,⟨I.gQ.bH,?_,I.room,I.now,I.bu,?_,I.many⟩,?_,rfl,?_,rfl,?_⟩
  ·show x.1.base+(x.1.b++rc).length≤_;omega
  ·have h1:=Qp J.C9 J.low
   show(x.1.bU++[x.1.b.length]).length≤_
   grind
  ·intro s hm
   show s<(x.1.b++rc).length
   rcases List.mem_append.1 (show s∈x.1.bU++[x.1.b.length] from hm) with hm|hm
   ·have:=J.low s hm;omega
   ·grind
  ·show(x.1.bU++[x.1.b.length]).Pairwise (·< ·)
   rw[List.pairwise_append]
   refine⟨J.C9,List.pairwise_singleton _ _,fun a ha b hb => ?_⟩
   rw[List.mem_singleton.1 hb]
   exact J.low a ha
  ·have:=J.forced
   show x.1.forced≤(x.1.b++rc).length;omega
  ·show(x.1.b++rc).length≤_;omega
  ·grind
  ·have:=I.eA
   show x.2.eA≤(x.2.log++rc).length;omega
  ·show x.1.b++rc=x.2.log++rc;rw[hs]
  ·show(x.1.b++rc).length≤_;omega
  ·grind
theorem wf_i64 {n:Int}(I:0≤n)(J:n<4294967296): (Lit.int .i64 n).wf=true:=by
 simp only[Lit.wf,bC,gn]
 have e1:IntKind.min .i64 = -9223372036854775808:=rfl
 have e2:IntKind.max .i64=9223372036854775807:=rfl
 omega
theorem Js {kd:Int}{ch:V}(hd:dt.beq dt=true)(I:ch.beq ch=true): (V.agg (c5 kd tx pv nx dt ch)).beq (V.agg (c5 kd tx pv nx dt ch))=true:=by
 simp only[c5,V.beq,V.beqL,hd,I,dI,mq,decide_true,iy,ai]
section
variable {told:cE} {p:Nat} {op v:V} {bS:Bool}
theorem Jt (hT:W told){kd:Int}{oD:Nat}{ch:V}{Y6:List V}(s:Sat h (dN g a now false::c8 a p q r (.ptr g 0) fK aH::dM r p q ε.1::bQ q p ε.2.1::bw p ε.2.2::X::.arr 4 ch Y6::S))(hX:cq X (cz dt data))(MR:Y6.length=oD*4)(ku:gR ε)(hw:bY ε+65536≤268435456)
 (tF:∀e∈now,e.2.length=512)(hm:now.length≤65536)(hk:∀n∈now.map (·.1),0≤n∧n<65536)(oK:tx<18446744073709551616)(qw:pv<18446744073709551616)(qx:nx<18446744073709551616)(hd:data.length≤35184372088832)(VV:ε.2.1.b=ε.2.2.log)(hz:ε.2.1.base+ε.2.1.b.length+1048584≤1099511627776):
  Call ⟨Tryz.prog,told⟩ 50 [.ptr g 0,.agg (c5 kd tx pv nx dt ch)] h fun v h'=>∃aB e cl ah,qf ε now kd tx pv nx data oD aB e cl ah∧v=.aI [.int .u64 (aB:Int),.int .i64 e] ∧
   Sat h' (dN g a now cl::c8 a p q r (cond cl .a_ (.ptr g 0)) fK aH::dM r p q ah.1::bQ q p ah.2.1::bw p ah.2.2::X::S):=by
 have kB:∀n∈now.map (·.1),(Lit.int .i64 n).wf=true:=fun n hn=>by
  have:=hk n hn
  exact wf_i64 (by omega) (by omega)
 have mP:=s.iU (j:=6) rfl
 have ji:=s.aD (k:=5) rfl hX
 have gB:=kq (kd:=kd) (tx:=tx) (pv:=pv) (nx:=nx) ji.cells.2 mP.2.1
 have hlen:=s.gF (n:=oD) (j:=6) rfl MR (by decide) gG
 have s0:=s
 obtain⟨nv,s⟩:=dQ.1 s
 refine Call.of_wp (hT.free _ rfl) Tryz.func50 rfl rfl (zg rfl (aq.bG s rfl rfl rfl (dc rfl gB) ?_))
 intro p1 h s
 dsimp only[V.cells] at s
 have s:Sat h (pt p1 (.cells 6 (c5 kd tx pv nx dt ch) false)::_):=s
 have hlen:=s.gF (n:=oD) (j:=8) rfl MR (by decide) gG
 refine zk 7 rfl (zY s 1 nK m6 rfl (zk 3 rfl (WP.block (zK 4 rfl (zf rfl (yG _ _) (zh rfl (aP rfl (s.ld (k:=1) rfl nF rfl)) (rfl) (zk 5 rfl (zY s 0 nG ep rfl ?_))))))))
 have fin:∀e:Int,Sat h (dN g a now false::c8 a p q r (.ptr g 0) fK aH::dM r p q ε.1::bQ q p ε.2.1::bw p ε.2.2::X::S):=fun e=>((dQ.2 ⟨nv,s.ae [1,1]⟩).del 7).del 1
 refine zd rfl (ak rfl rfl aJ) ?_ ?_
 ·intro hq
  have hq:kd<1:=by simpa using hq
  exact zk 19 rfl (WP.ret ⟨aa,_,rfl,0,1,false,ε,.arg (.inl (by omega)),rfl,fin 0⟩)
 ·intro hq
  have hq:1≤kd:=by simp at hq;omega
  refine zm rfl (zY s 0 nG ep rfl ?_)
  refine zd rfl (ak rfl rfl fI) ?_ ?_
  ·intro J
   have J:7<kd:=by simpa using J
   exact zk 15 rfl (WP.ret ⟨aa,_,rfl,0,1,false,ε,.arg (.inl (by omega)),rfl,fin 0⟩)
  ·intro J
   have J:kd≤7:=by simp at J;omega
   refine zk 2 rfl (zY s 0 iC og rfl (zo rfl (aQ rfl rfl rfl hlen) ?_))
   refine zd rfl (ak rfl rfl fI) ?_ ?_
   ·intro I
    have I:0<oD:=by simp at I;omega
    exact zk 9 rfl (WP.ret ⟨aa,_,rfl,0,1,false,ε,.arg (.inr I),rfl,fin 0⟩)
   ·intro I
    have I:oD=0:=by simp at I;omega
    obtain⟨dv,s⟩:=cg.1 (s.ae [3])
    dsimp only[bringA,getA,aC] at s
    refine zk 8 rfl (zY s 0 uF rT rfl (zc rfl (F3 hT (s.ae [7])) ?_))
    rintro v h ⟨rfl,rfl⟩
    refine zk 2 rfl ?_
    cases Fb:ε.2.2.dead with
    |true =>
     refine zK 6 rfl (WP.ret ⟨aa,_,rfl,?_⟩)
     have s9:=dQ.2 ⟨nv,(cg.2 ⟨dv,s⟩).ae [2,2]⟩
     dsimp only[bringA,getA,aC] at s9
     exact⟨0,9,false,ε,.dead hq J I Fb,rfl,(s9.del 7).del 2⟩
    |false =>
     refine zj rfl (WP.skip (zg rfl (za rfl (zv (zw (zg rfl (zm rfl ?_)))))))
     have s9:=dQ.2 ⟨nv,(cg.2 ⟨dv,s⟩).ae [2,2]⟩
     dsimp only[bringA,getA,aC] at s9
     have s:=s9.ae [0,0,1,1,1]
     dsimp only[bringA,getA,aC] at s
     refine zc rfl (BT hT s ku (by omega) tF hm kB) ?_
     rintro v h ⟨e,c,ah,hc,(⟨he,rfl,s⟩|⟨rfl,iZ,av,cs,rfl,s⟩)⟩
     ·refine aq.op rfl rfl rfl (bf rfl) ?_
      refine zk 2 rfl (zf rfl (iC _ _) ?_)
      refine zS rfl (by exact s.dL (k:=5) rfl yA rfl (by decide) rfl rfl) (fun h s => ?_)
      dsimp only[c5,Nat.reduceAdd,List.set,setA] at s
      refine zk 5 rfl (zB rfl aA (by simp;exact he) ?_)
      exact zk 8 rfl (WP.ret ⟨aa,_,rfl,0,e,false,ah,.mO e c ah hq J I Fb hc he,rfl,(s.del 7).del 5⟩)
     ·have sZ:=s.iU (j:=0) rfl
      have Gt:=hc.kS ku
      have hcp:=hc.bY
      have BI:=hc.same
      have VW:=z8 (x:=ah.2) (kd:=kd) (tx:=tx) (pv:=pv) (nx:=nx) (data:=data) (c:=c) Gt.ok.lg Gt.ok.dk (by rw[BI.b,BI.log];exact VV) (by rw[BI.base,BI.b];exact hz)
      have eR:=hc.fit tF fun n hn=>hk n ((e_ _).mem_iff.1 hn)
      refine zk 3 rfl (zf rfl (iC _ _) (zS rfl (s.dL (k:=7) rfl yA rfl (show 0+5<6 by decide) sZ.1 sZ.2.1) ?_))
      intro h s
      dsimp only[c5,Nat.reduceAdd,List.set,setA] at s
      refine zk 5 rfl (zC rfl aA (rfl) ?_)
      obtain⟨dv,s⟩:=cg.1 (s.ae [3])
      dsimp only[bringA,getA,aC] at s
      have s:=s.ae [6,6,7,2,2,0,3]
      dsimp only[bringA,getA,aC] at s
      refine zv (zj rfl (WP.skip (zw ?_)))
      have s0:=s
      have aah:=eN ji
      have hrb:=Js (kd:=kd) (tx:=tx) (pv:=pv) (nx:=nx) aah sZ.2.2
      refine WP.drawn [af,af,af,af,af,af,af,af,af,af,af] rfl (by kernel_rfl) (by kernel_rfl) ?_
      refine zM rfl (zN rfl (zF rfl (nI _ _) (zL rfl (s.ld (k:=5) rfl qn rfl) (zL rfl (s.cy (k:=6) rfl iS eD) (az.any rfl rfl rfl rfl (OpR.call rfl rfl rfl rfl (PZ (kd:=kd) (tx:=tx) (pv:=pv) (nx:=nx) hT s hX (Jr iZ eR oK qw qx hd) Gt.ok.lg Gt.ok.dk)) ?_)))))
      rintro v h ⟨rfl,s⟩
      refine zM rfl (zO rfl (dV rfl rfl) (zO rfl (dV rfl rfl) (zA rfl (zA rfl ?_))))
      refine az.nil ⟨⟨aa,aa,aa,aa,aa,aa,aa,aa,aa,aa,aa,aa⟩,?_⟩
      refine zK 4 rfl ?_
      have s9:=cg.2 ⟨dv,s.ae [5,6]⟩
      have s:=((((s9.ae [7,0,6,0,0,0]).del 9).del 8).del 7).del 6
      by_cases he:(bg ah.2 kd tx pv nx data c).1.2=0
      ·skip
       refine zC rfl aA (by simp;exact he) ?_
       refine zk 6 rfl (zc rfl (Nt hT s) ?_)
       rintro v h ⟨rfl,s⟩
       obtain⟨nv,s⟩:=dQ.1 s
       obtain⟨uQ,rfl⟩:=FO s (j:=1) rfl
       refine zk 6 rfl (zY s 0 o6 mW rfl (zc rfl (AA hT s) ?_))
       rintro v h ⟨kb,rfl,s⟩
       refine zc rfl (xz hT (s.ae [0,1]) (by decide) (by omega) kB) ?_
       intro kv h s
       have hl:(c9 now).length=now.length:=by rw[c9,(e_ _).length_eq,fE]
       refine zo rfl (aQ rfl rfl rfl (s.gF (n:=(c9 now).length) (j:=0) rfl (by simp[dO]) (by decide) gU)) ?_
       refine zk 2 rfl (WP.block ?_)
       obtain⟨abI,es,clock,Qq,hb,nZ,s⟩:=pX.1 (s.ae [2])
       injection Qq with Qq
       subst Qq
       obtain⟨dv,s⟩:=cg.1 (s.ae [5])
       have s:=s.ae [6,2,2,0,3,3,3,1]
       refine Nz (op:=.a_) (dv:=dv) hT (ks:=c9 now) (now:=now) (aB:=(bg ah.2 kd tx pv nx data c).1.1) (by omega) (fun n hn => ?_) tF (c9 now).length 0 (ah.1,(bg ah.2 kd tx pv nx data c).2) _ _ _ (by omega) ?_ ?_ s ⟨rfl,rfl,rfl,rfl,rfl,rfl,aa⟩ (fun e kG E' h' hp IK l4 l5 s' => ?_) (fun kG E' h' hp eF s' => ?_)
       ·have:n∈now.map (·.1):=(e_ _).mem_iff.1 hn
        cases hq:lookL n now with
        |some _=>rfl
        |none=>exact absurd this (ou.1 hq)
       ·exact⟨⟨Gt.ok.pl,VW.1,VW.2.1⟩,Gt.pins,Gt.full⟩
       ·have e1:bY (ah.1,(bg ah.2 kd tx pv nx data c).2)=bY ah:=by simp only[bY,VW.2.2.2.2.2.1]
        rw[e1,hl];omega
       ·rw[gX] at hp
        have e4:look E' 4=some (.int .u64 ((0:Nat):Int)):=l4
        refine⟨aa,_,K5 e4 l5,0,e,true,kG,?_,rfl,?_⟩
        ·have:=qf.put (data:=data) c ah e kG hq J I Fb hc he hp
         rwa [ay IK] at this
        ·have s3:=cg.2 ⟨dv,s'.ae [3,6]⟩
         have s4:=pX.2 ⟨uQ,es,clock,rfl,hb,nZ,s3.ae [2,2]⟩
         exact dQ.2 ⟨.map uQ,(s4.ae [2,0,0,0,0,0,1]).del 7⟩
       ·rw[gX] at hp
        have s:=s'
        refine WP.has eF (zK 6 rfl (WP.ret ⟨aa,_,rfl,?_⟩))
        refine⟨_,0,true,kG,?_,rfl,?_⟩
        ·have:=qf.put (data:=data) c ah 0 kG hq J I Fb hc he hp
         exact this
        ·have s3:=cg.2 ⟨dv,s.ae [3,6]⟩
         have s4:=pX.2 ⟨uQ,es,clock,rfl,hb,nZ,s3.ae [2,2]⟩
         dsimp only[bringA,getA,aC] at s4
         exact dQ.2 ⟨.map uQ,(s4.ae [2,0,0,0,0,0,1]).del 7⟩
      ·skip
       refine zB rfl aA (by simp;exact he) ?_
       exact zk 8 rfl (WP.ret ⟨aa,_,rfl,0,_,false,_,.app c ah hq J I Fb hc he,rfl,s⟩)
end
def Lg.fresh : Lg:={ base:=1,b:=[],bU:=[],forced:=0,check:=0 }
theorem ET {b c t:Nat}{p v w:V}(I:look E a=some p)(hd:loadV P h t p=some v)(J:look E b=some w)(h3:look E c=some x): resLE P E h [.cell a t,.tmp b,.tmp c]=some (.aI [v,w,x]):=by
 simp only[resLE,mapO,resE,I,hd,J,h3]
section
variable {told:cE} {p:Nat} {op v:V} {bS:Bool}
theorem Ii (hT:W told)(s:Sat h (bw p δ::S))(hd:δ.dead=false)(hm:δ.mark=[])(hl:δ.log=[])(hc:δ.eA=0):
  Call ⟨Tryz.prog,told⟩ 63 [.ptr p 0] h fun v h'=>∃q,v=.aI [.ptr q 0,.int .i64 0]∧Sat h' (bQ q p Lg.fresh::bw p δ::S):=by
 refine Call.of_wp (hT.free _ rfl) Tryz.func63 rfl rfl (zK 8 rfl (zc rfl (KR hT s (by rw[hm];decide)) ?_))
 rintro v h (⟨I,_,_⟩|⟨_,b0,rfl,s⟩)
 ·rw[hd] at I;cases I
 rw[hm] at s
 refine zk 10 rfl (zC rfl aA (rfl) (zk 6 rfl (zo rfl (b_ rfl (by rw[Xo];rfl)) ?_)))
 refine aq.bG s rfl rfl rfl (dc rfl rfl) (fun p23 h s => ?_)
 dsimp only[V.cells,List.take,List.length_cons,List.length_nil,Nat.reduceAdd,List.drop,List.cons_append,List.nil_append] at s
 refine zk 7 rfl ?_
 have s:=s.ae [2,0,0]
 dsimp only[bringA,getA,aC] at s
 refine zc rfl (Tf hT s (by rw[hl];decide)) ?_
 rintro v h (⟨I,_,_⟩|⟨_,b1,rfl,s⟩)
 ·rw[hd] at I;cases I
 rw[hl] at s
 have hv:=(s.buf (k:=0) rfl).view.cells
 refine zk 4 rfl (zf rfl (jy _ _) (zS rfl (s.dL (k:=2) rfl jR rfl (by decide) hv.1 hv.2) ?_))
 intro h s
 dsimp only[Nat.reduceAdd,List.set,setA] at s
 refine za rfl (zv (zg rfl (zm rfl (zh rfl (ak rfl rfl aA) (rfl) (zv (zj rfl (WP.skip (zw (zg rfl (zm rfl (zo rfl (aQ rfl rfl rfl (by exact bh aM (s.aD (k:=3) rfl (aU _ _)))) ?_)))))))))))
 refine zv (WP.block (zg rfl (zt rfl (ak rfl rfl c4) (rfl) (za rfl (zv (zi rfl (WP.skip (zg rfl (za rfl (zv (zw (WP.block (WP.loop (zw (zg rfl (zk 3 rfl (zf rfl (jy _ _) (zl rfl (by exact s.ld (k:=2) rfl bX rfl) ?_))))))))))))))))))
 refine zo rfl (aQ rfl rfl rfl (bh aM (s.aD (k:=0) rfl (aU _ _)))) (zC rfl aJ (rfl) (zk 2 rfl (WP.exit (zK 6 rfl (zY s 2 jy bX rfl (zo rfl (aQ rfl rfl rfl (bh aM (s.aD (k:=0) rfl (aU _ _)))) (zC rfl aJ (rfl) (zk 5 rfl ?_))))))))
 have s0:=s
 have J:=eN (s.buf (k:=0) rfl).view
 refine WP.drawn [none,none,some (0,2),some (0,2),some (0,2),some (0,2),some (0,2),none] rfl (by kernel_rfl) (by kernel_rfl) ?_
 refine zM rfl (az.any rfl rfl rfl rfl (OpR.call rfl rfl rfl rfl (HX hT (s.ae [1]))) ?_)
 rintro v h' ⟨rfl,rfl⟩
 refine zM rfl (zN rfl (zF rfl (jy _ _) (zL rfl (s.ld (k:=2) rfl bX rfl) (zO rfl (aQ rfl rfl rfl (bh aM (s.aD (k:=0) rfl (aU _ _)))) (az.lG rfl rfl rfl rfl (ak rfl rfl aJ) (by rw[show δ.F2=0 from hc];rfl) ?_)))))
 refine az.nil ⟨⟨aa,aa,fun _ _=>.inr ⟨rfl,⟨_,bf rfl⟩,aN _ rfl⟩,fun _ _=>.inr ⟨rfl,⟨_,lF rfl⟩,aN _ rfl⟩,fun _ _=>.inr ⟨rfl,⟨_,jr rfl (jy _ _)⟩,aN _ rfl⟩,dW (.inr ⟨rfl,⟨_,aP rfl (s0.ld (k:=2) rfl bX rfl)⟩,J⟩) (.inr ⟨rfl,⟨_,aP rfl (s.ld (k:=2) rfl bX rfl)⟩,J⟩),dW (.inr ⟨rfl,⟨_,aQ rfl rfl rfl (bh aM (s0.aD (k:=0) rfl (aU _ _)))⟩,aN _ rfl⟩) (.inr ⟨rfl,⟨_,aQ rfl rfl rfl (bh aM (s.aD (k:=0) rfl (aU _ _)))⟩,aN _ rfl⟩),aa,aa⟩,?_⟩
 refine zK 7 rfl (zY s 2 jy bX rfl (zo rfl (aQ rfl rfl rfl (bh aM (s.aD (k:=0) rfl (aU _ _)))) (zn rfl (zf rfl (C0 _ _) ?_))))
 refine zS rfl (by exact s.dL (k:=2) rfl nE rfl (by decide) rfl rfl) (fun h s => ?_)
 refine zk 7 rfl (WP.ret ⟨aa,_,rfl,?_⟩)
 have s1:=(s.del 3).ot (k:=1)
 refine⟨_,rfl,fB.2 ⟨b1,.aO,?_⟩⟩
 exact s1.ae [3,1,0]
theorem D6 (J:W told)(s:Sat h (bQ q p μ::S))(I:μ.Ok): Call ⟨Tryz.prog,told⟩ 66 [.ptr q 0,.int .u64 ((μ.base:Int)+(μ.b.length:Int))] h fun v h'=>v=.aI [.agg (c5 0 0 0 0 .aO .aO),.int .u64 0,.int .i64 17]∧Sat h' (bQ q p μ::S):=by
 refine Call.of_wp (J.free _ rfl) Gj rfl rfl (zg rfl ?_)
 refine aq.bG s rfl rfl rfl (bM oh) (fun p4 h s => ?_)
 refine zk 4 rfl (WP.block (zK 4 rfl ?_))
 have s:=s.ae [1]
 refine zc rfl (uO J s I.size) ?_
 rintro v h' ⟨rfl,rfl⟩
 refine zB rfl c4 (by simp) ?_
 refine zk 5 rfl (zo rfl (b_ rfl (by rw[sS];rfl)) ?_)
 refine zS rfl (s.fh (j:=1) rfl eD rfl rfl) (fun h s => ?_)
 refine zk 3 rfl ?_
 refine WP.ret ⟨aa,_,ET rfl (s.cy (k:=1) rfl iS eD) rfl rfl,?_⟩
 exact⟨rfl,s.del 1⟩
theorem Qr (J:W told)(s:Sat h (bQ q p μ::S))(I:μ.Ok)(hn:n<18446744073709551616)(nY:n≠μ.base+μ.b.length)(Dv:μ.hasB n=false): Call ⟨Tryz.prog,told⟩ 66 [.ptr q 0,.int .u64 (n:Int)] h fun v h'=>v=.aI [.agg (c5 0 0 0 0 .aO .aO),.int .u64 0,.int .i64 1]∧Sat h' (bQ q p μ::S):=by
 refine Call.of_wp (J.free _ rfl) Gj rfl rfl (zg rfl ?_)
 refine aq.bG s rfl rfl rfl (bM oh) (fun p4 h s => ?_)
 refine zk 4 rfl (WP.block (zK 4 rfl ?_))
 have s:=s.ae [1]
 refine zc rfl (uO J s I.size) ?_
 rintro v h' ⟨rfl,rfl⟩
 refine zC rfl c4 (by simp;omega) ?_
 refine zk 7 rfl (zc rfl (Je (n:=n) J s I hn) ?_)
 rintro v h' ⟨rfl,rfl⟩
 refine zo rfl (dB rfl rfl) (zk 2 rfl (WP.Kw rfl (by rw[Dv];rfl) ?_))
 refine zg rfl (zo rfl (b_ rfl (by rw[sS];rfl)) ?_)
 refine zS rfl (s.fh (j:=1) rfl eD rfl rfl) (fun h s => ?_)
 refine zk 3 rfl ?_
 refine WP.ret ⟨aa,_,ET rfl (s.cy (k:=1) rfl iS eD) rfl rfl,?_⟩
 exact⟨rfl,s.del 1⟩
theorem K6 (hT:W told)(s:Sat h (bQ q p μ::S))(J:μ.Ok)(hn:n<18446744073709551616)(I:n=μ.base+μ.b.length∨μ.hasB n=false): Call ⟨Tryz.prog,told⟩ 66 [.ptr q 0,.int .u64 (n:Int)] h fun v h'=>∃e:Int,e≠0∧v=.aI [.agg (c5 0 0 0 0 .aO .aO),.int .u64 0,.int .i64 e]∧Sat h' (bQ q p μ::S):=by
 by_cases he:n=μ.base+μ.b.length
 ·have:=D6 hT s J
  rw[show((μ.base:Int)+(μ.b.length:Int))=((n:Nat):Int) by omega] at this
  exact this.mono fun v h' ⟨h1,h2⟩=>⟨17,by decide,h1,h2⟩
 ·rcases I with I|I
  ·exact absurd I he
  ·exact(Qr hT s J hn he I).mono fun v h' ⟨h1,h2⟩=>⟨1,by decide,h1,h2⟩
end
section
variable {told:cE} {p:Nat} {op v:V} {bS:Bool}
theorem K7 (I:W told)(s:Sat h (c8 a p q r op data aH::bQ q p μ::S))(J:μ.Ok)(hn:n<18446744073709551616)(Dv:n=μ.base+μ.b.length∨μ.hasB n=false):
  Call ⟨Tryz.prog,told⟩ 69 [.ptr a 0,.int .u64 (n:Int)] h fun v h'=>v=.int .i64 0∧Sat h' (c8 a p q r op data aH::bQ q p μ::S):=by
 obtain⟨dv,s⟩:=cg.1 s
 refine Call.of_wp (I.free _ rfl) Tryz.func69 rfl rfl (zK 6 rfl ?_)
 refine aq.w8 s rfl rfl rfl rfl (fun p18 h s => ?_)
 refine aq.w8 s rfl rfl rfl rfl (fun p19 h s => ?_)
 refine zo rfl (b_ rfl (by rw[XI];rfl)) ?_
 refine aq.bG s rfl rfl rfl (dc rfl rfl) (fun Y2 h s => ?_)
 refine zk 5 rfl (zo rfl (vn rfl rfl) (zk 8 rfl (WP.block (WP.loop (WP.block (zK 4 rfl (zY s 3 nI qn rfl (zm rfl ?_))))))))
 have s1:=s.ae [5]
 refine zc rfl (K6 (n:=n) I s1 J hn Dv) ?_
 rintro v h ⟨e,he,rfl,s⟩
 refine zk 4 rfl ?_
 refine aq.bG s rfl rfl rfl (bM oh) (fun p8 h s => ?_)
 refine zS rfl (s.fh (j:=0) rfl eD rfl rfl) (fun h s => ?_)
 refine zk 7 rfl (zB rfl aA (by simp;exact he) ?_)
 have s:=pq (f:=fun v (b:List Nat)=>.cL v b) (s.ae [4])
 refine zk 2 rfl (WP.exit (zK 5 rfl (zY s 3 I8 mW rfl (zc rfl (AA I s) ?_))))
 rintro v h ⟨kb,rfl,s⟩
 refine zc rfl (xz I s (by decide) (by decide) (by simp)) ?_
 intro kv h s
 refine zo rfl (aQ rfl rfl rfl (s.gF (n:=0) (j:=0) rfl rfl (by decide) gU)) ?_
 exact zk 2 rfl (WP.block (WP.loop (zg rfl (zC rfl aJ (rfl) (zk 3 rfl (WP.exit (zK 5 rfl (zY s 5 I8 mW rfl (zo rfl (aQ rfl rfl rfl (FM (s.ae [2]) pY)) (zB rfl c4 (rfl) (zk 6 rfl (WP.ret ⟨aa,_,rfl,rfl,((((((cg.2 ⟨dv,s.ae [7,7,4]⟩).del 7).del 6).del 5).del 4).del 3).del 2⟩))))))))))))
theorem Lg.Gu : Lg.fresh.Ok:=⟨by decide,by decide,by simp[Lg.fresh],List.Pairwise.nil,by decide,by decide,by decide⟩
theorem Ij (I:W told)(s:Sat h (bw p δ::S))(h1:1≤n)(h2:n≤1024)(hd:δ.dead=false)(hm:δ.mark=[])(J:δ.log=[])(hc:δ.eA=0):
  Call ⟨Tryz.prog,told⟩ 19 [.ptr p 0,.int .i64 (n:Int)] h fun v h'=>∃a q r,v=.aI [.ptr a 0,.int .i64 0]∧Sat h' (c8 a p q r .a_ [] 0::dM r p q (Pl.fresh n)::bQ q p Lg.fresh::bw p δ::S):=by
 refine Call.of_wp (I.free _ rfl) Tryz.func19 rfl rfl (zK 9 rfl (zC rfl aJ (by simp<;>omega) ?_))
 refine zk 2 rfl (zC rfl fI (by simp<;>omega) ?_)
 refine zk 7 rfl (zc rfl (Ii I s hd hm J hc) ?_)
 rintro v h ⟨q,rfl,s⟩
 refine zk 10 rfl (zC rfl aA (rfl) (zk 8 rfl (zc rfl (Tt (p:=p) (q:=q) (n:=n) I s) ?_)))
 rintro v h (⟨hn,_,_⟩|⟨_,_,r,rfl,s⟩)
 ·omega
 rw[b8] at s
 refine zk 10 rfl (zC rfl aA (rfl) (zk 8 rfl (zo rfl (b_ rfl (by rw[Xm];rfl)) ?_)))
 refine aq.bG s rfl rfl rfl (dc rfl rfl) (fun p44 h s => ?_)
 refine zk 5 rfl (zc rfl (xq I (s.ae [2])) ?_)
 rintro v h' ⟨rfl,rfl⟩
 refine zk 6 rfl (zc rfl (HZ I (s.ae [2])) ?_)
 rintro v h' ⟨rfl,rfl⟩
 refine zk 5 rfl (zC rfl aA (rfl) (zk 8 rfl ?_))
 have s1:=cg.2 ⟨.aO,(s.qH).ae [1,0]⟩
 refine zc rfl (K7 (n:=1) I (s1.ae [0,1]) Lg.Gu (by decide) (.inl rfl)) ?_
 rintro v h ⟨rfl,s⟩
 exact zk 5 rfl (zC rfl aA (rfl) (zk 9 rfl (WP.ret ⟨aa,_,rfl,_,q,r,rfl,s.ae [0,1,0]⟩)))
end
section
variable {told:cE} {p:Nat} {op v:V} {bS:Bool}
theorem yS (I:W told)(s:Sat h (c8 a p q r op data aH::S)): Call ⟨Tryz.prog,told⟩ 15 [.ptr a 0] h fun v h'=>v=.ptr q 0∧h'=h:=by
 obtain⟨dv,s⟩:=cg.1 s
 exact Call.of_wp (I.free _ rfl) Tryz.func15 rfl rfl (zK 8 rfl (zY s 0 nI qn rfl (zk 2 rfl (WP.ret ⟨aa,_,rfl,rfl,rfl⟩))))
theorem Qs (I:W told)(s:Sat h (c8 a p q r op data aH::S)): Call ⟨Tryz.prog,told⟩ 145 [.ptr a 0] h fun v h'=>v=.ptr p 0∧h'=h:=by
 obtain⟨dv,s⟩:=cg.1 s
 exact Call.of_wp (I.free _ rfl) Tryz.func145 rfl rfl (zK 8 rfl (zY s 0 uF rT rfl (zk 2 rfl (WP.ret ⟨aa,_,rfl,rfl,rfl⟩))))
theorem NC (J:W told)(s:Sat h (c8 a p q r op data aH::bQ q p μ::bw p δ::S))(I:μ.Ok)(hf:δ.bH<4294967296):
  Call ⟨Tryz.prog,told⟩ 42 [.ptr a 0,.int .u64 (n:Int)] h fun v h'=>v=.int .i64 (bF (μ,δ) n).1∧Sat h' (c8 a p q r op data aH::bQ q p (bF (μ,δ) n).2.1::bw p (bF (μ,δ) n).2.2::S):=by
 obtain⟨dv,s⟩:=cg.1 s
 refine Call.of_wp (J.free _ rfl) Tryz.func42 rfl rfl (zK 8 rfl (zY s 0 nI qn rfl (zm rfl (zc rfl (Jg (n:=n) J (s.ae [2,2]) I hf) ?_))))
 rintro v h ⟨rfl,s⟩
 exact zk 2 rfl (WP.ret ⟨aa,_,rfl,rfl,cg.2 ⟨dv,s.ae [2,2]⟩⟩)
end
section
variable {told:cE} {p:Nat} {op v:V} {bS:Bool}
theorem K8 (I:W told)(s:Sat h (c8 a p q r op data aH::S))(J:data.length<1073741824): Call ⟨Tryz.prog,told⟩ 54 [.ptr a 0] h fun v h'=>∃w,v=.aI [w,.int .u64 (aH:Int)]∧Sat h' (aW w data::c8 a p q r op data aH::S):=by
 obtain⟨dv,s⟩:=cg.1 s
 refine Call.of_wp (I.free _ rfl) Tryz.func54 rfl rfl (zK 6 rfl ?_)
 have s:=s.ae [1]
 have s0:=s
 refine WP.drawn [af,af,af,af,af,some (0,2),some (0,2),some (0,2),some (0,2),none,none] rfl (by kernel_rfl) (by kernel_rfl) ?_
 refine zM rfl (zN rfl (zF rfl (SZ _ _) (zL rfl (s.ld (k:=1) rfl bX rfl) (az.any rfl rfl rfl rfl (OpR.call rfl rfl rfl rfl (ow I s (eC _ _) J)) ?_))))
 intro w h s
 refine zM rfl (zN rfl (zF rfl (I3 _ _) (zL rfl (s.ld (k:=2) rfl dD rfl) (zA rfl (zA rfl ?_)))))
 refine az.nil ⟨⟨aa,aa,aa,aa,aa,fun _ _=>.inr ⟨rfl,⟨_,bf rfl⟩,aN _ rfl⟩,fun _ _=>.inr ⟨rfl,⟨_,lF rfl⟩,aN _ rfl⟩,fun _ _=>.inr ⟨rfl,⟨_,jr rfl (I3 _ _)⟩,aN _ rfl⟩,dW (.inr ⟨rfl,⟨_,aP rfl (s0.ld (k:=1) rfl dD rfl)⟩,aN _ rfl⟩) (.inr ⟨rfl,⟨_,aP rfl (s.ld (k:=2) rfl dD rfl)⟩,aN _ rfl⟩),aa,aa,aa⟩,?_⟩
 refine WP.ret ⟨aa,_,rfl,?_⟩
 exact⟨w,rfl,(cg.2 ⟨dv,s.ae [2,1]⟩).ae [1]⟩
end
theorem K9 : ∀ {l:List Nat},(∀b∈l,b<256)→bytesOf (ofBytes l)=some l:=by
 intro l
 induction l with
 |nil=>intro _;rfl
 |cons b l J =>
  intro h
  have I:=J fun x hx=>h x (dh _ hx)
  have h2:=h b dJ
  rw[ofBytes] at I
  simp only[ofBytes,ey,bytesOf,I,au,List.cons.injEq,and_true]
  omega
theorem Y7 {v:V}(I:View h v l): convV Tryz.prog h 23 9 v=some (.str l,h):=by
 obtain⟨J,(⟨rfl|⟨ea,rfl⟩,rfl⟩|⟨id,off,cap,n,cs,st,rfl,hg,hl,ho,hc,_⟩)⟩:=I
 ·simp only[convV,aM,uK,Tryz.underlying5]
 ·simp only[convV,aM,uK,Tryz.underlying5]
 ·have e:rdN h id off l.length=some (ofBytes l):=by rw[w_ hg hl ho,hc]
  simp only[convV,aM,uK,Tryz.underlying5,e,K9 J]
def R8 (l:List Nat): List Nat:=if l.length≠512∨l=List.replicate 512 0 then[] else l.drop 12
structure DK (δ K4:Dk): Prop where
 dead:K4.dead=δ.dead
 bH:K4.bH=δ.bH
 bu:K4.bu=δ.bu
 now:K4.now=δ.now
theorem DK.refl (δ:Dk): DK δ δ:=⟨rfl,rfl,rfl,rfl⟩
theorem DK.at (h:DK δ K4)(n:Int): K4.at n=δ.at n:=by rw[Dk.at,Dk.at,h.now,h.bu]
structure DA (N:Nat)(δ:Dk): Prop where
 alive:δ.dead=false
 bH:δ.bH<0
 bu:δ.bu.length=N
 keys:∀k:Int,k∈δ.now.map (·.1)→0≤k∧k<N
 nodup:(δ.now.map (·.1)).Nodup
 good:∀n:Int,0≤n→n<N→gH (δ.at n)=0
theorem DA.of (h:DA N δ)(k:DK δ K4): DA N K4 :=
 ⟨k.dead.trans h.alive,by rw[k.bH];exact h.bH,by rw[k.bu];exact h.bu,by rw[k.now];exact h.keys,by rw[k.now];exact h.nodup,fun n a b=>by rw[k.at];exact h.good n a b⟩
theorem uR (h:δ.bH<0): δ.gQ=δ:=by
 have:(if 0<δ.bH then δ.bH-1 else δ.bH)=δ.bH:=ay (by omega)
 rw[Dk.gQ,this]
theorem Qt (h:DA N δ): δ.fM=(0,{ δ with eA:=δ.log.length }):=by
 rw[Dk.fM,ay (by rw[h.alive];decide),ay (by have:=h.bH;omega),uR h.bH]
theorem D7 {x:LD}(h:DA N x.2): (bF x n).1=0∧DK x.2 (bF x n).2.2:=by
 unfold bF
 split
 ·exact⟨rfl,DK.refl _⟩
 ·rw[Qt h,ay (by simp)]
  exact⟨rfl,rfl,rfl,rfl,rfl⟩
theorem Qu {n:Int}(h:DA N δ)(h0:0≤n)(h1:n<N)(hb:b.length=512)(hc:gH b=0):
  (δ.cV n b).1=0∧DA N (δ.cV n b).2∧∀m,(δ.cV n b).2.at m=if n=m then b else δ.at m:=by
 have e:δ.cV n b=(0,δ.wr n b):=by
  rw[Dk.cV,ay (by rw[h.alive];decide),ay (not_not_intro ⟨h0,by rw[h.bu];exact h1,hb⟩),ay (by have:=h.bH;omega)]
 have tF:(δ.wr n b).now=cN n b δ.now:=rfl
 have gd:(δ.wr n b).bu=δ.bu:=rfl
 have I:∀m,(δ.wr n b).at m=if n=m then b else δ.at m:=fun m=>by
  grind[Dk.at,jH]
 have J:(δ.wr n b).bH=δ.bH:=by
  show δ.gQ.bH=δ.bH
  rw[uR h.bH]
 rw[e]
 refine⟨rfl,⟨h.alive,by rw[J];exact h.bH,h.bu,fun x hx => ?_,?_,fun m a c => ?_⟩,I⟩
 ·rcases r5.1 hx with rfl|hx
  ·omega
  ·exact h.keys x hx
 ·exact kI h.nodup
 ·rw[I]
  by_cases hm:n=m
  ·grind
  ·rw[ay hm];exact h.good m a c
theorem Ik {m:List Nat}{b:Nat}(J:a+m.length≤l.length)(h2:a+m.length≤b): (bx l a m).drop b=l.drop b:=by
 have I:(l.take a).length=a:=by grind
 rw[bx,←cX,yb,kV (by grind),d_,List.drop_drop,bP,I]
 congr 1;omega
theorem BU {m:List Nat}(h:a+m.length≤l.length): (bx l a m)[i]?=if a≤i∧i<a+m.length then m[i-a]? else l[i]?:=by
 grind[bx]
theorem vF {m:List Nat}(I:l.drop 12=m.drop 12)(J:12≤a): cU l a z=cU m a z:=by
 have e:∀l:List Nat,(l.take (a+z)).drop a=((l.drop 12).drop (a-12)).take z:=fun l=>by
  simp_all[qO]
 rw[cU,cU,e,e,I]
theorem Il {m:List Nat}(I:l.drop 12=m.drop 12){low:Nat}: ∀(n i:Nat) (t:List Bool),cellsL l low n i t=cellsL m low n i t:=by
 intro n
 induction n<;>grind[cZ,vF,h_,cellsL]
theorem K_ {m:List Nat}(J:l.length=m.length)(I:l.drop 12=m.drop 12): bW l=bW m:=by
 have e1:jS l=jS m:=vF I (by omega)
 have e2:g8 l=g8 m:=vF I (by omega)
 have e3:l.getD 13 0=m.getD 13 0:=by
  have:∀l:List Nat,l[13]?=(l.drop 12)[1]?:=fun l=>by simp
  grind
 grind[bW,Il]
theorem xH : ∀(k n:Nat),leN (le k n)=n%256^k:=by
 intro k
 induction k<;>grind[le,leN,Nat.mod_mul]
theorem D8 (J:b.length=512): (cS b n).drop 12=b.drop 12∧(cS b n).length=512∧(cS b n).drop 4=(m8 b n).drop 4∧cU (cS b n) 0 4=BE 0 ((m8 b n).drop 4)%4294967296:=by
 have h1:=vu (n:=n) J
 have h2:(cS b n).length=512:=by grind[cS,cQ,cF]
 have I:(cS b n).drop 4=(m8 b n).drop 4:=by rfl
 have h4:(m8 b n).drop 12=b.drop 12:=by grind[m8,Ik,cF]
 refine⟨?_,h2,I,?_⟩
 ·have:=iA (List.drop 8) I
  grind[List.drop_drop]
 ·have e:(cS b n).take 4=le 4 (BE 0 ((m8 b n).drop 4)):=by
   rfl
  grind[cU,xH]
theorem Tz (I:∀x∈b,x<256): ∀x∈m8 b n,x<256:=DR I (KN _ _)
theorem ND (I:bW b=true)(hb:∀x∈b,x<256): gH (cS b n)=0∧bW (cS b n)=true∧R8 (cS b n)=b.drop 12:=by
 have J:=fW I
 obtain⟨h1,h2,h3,h4⟩:=D8 (n:=n) J
 have FI:bW (cS b n)=true:=by grind[K_]
 have hz:bW (List.replicate 512 0)=false:=by decide +kernel
 grind[Ar,Tz,gH,R8]
def pgA (ε:bA)(n:Int): List Nat:=match lookL n ε.1.bD with
 |some i=>match ε.1.ag[i.toNat]? with
  |some f=>f.b
  |none=>ε.2.2.at n
 |none=>ε.2.2.at n
structure Qv (N:Nat)(δ:Dk)(bD:List (Int×Int))(i:Nat)(f:Fm): Prop where
 lt:f.aY<N
 here:lookL f.aY bD=some (i:Int)
 aH:gH f.b=0
 same:f.changed=false→f.b=δ.at f.aY
 mO:f.changed=true→bW f.b=true
structure EC (N:Nat)(ε:bA): Prop where
 dk:DA N ε.2.2
 nodup:(ε.1.bD.map (·.1)).Nodup
 lC:∀(n i:Int),lookL n ε.1.bD=some i→0≤n∧∃(j:Nat) (f:Fm),i=j∧ε.1.ag[j]?=some f∧f.aY=n
 back:∀(i:Nat) (f:Fm),ε.1.ag[i]?=some f→f.aY<0∨Qv N ε.2.2 ε.1.bD i f
 AE:∀k:Int,k∈ε.1.cm.map (·.1)→0≤k∧k<N
 Gv:(ε.1.cm.map (·.1)).Nodup
theorem m9 {n:Int}(h:lookL n ε.1.bD=some (j:Int))(I:ε.1.ag[j]?=some f): pgA ε n=f.b:=by
 grind[pgA]
theorem lU {n:Int}(h:lookL n ε.1.bD=none): pgA ε n=ε.2.2.at n:=by simp only[pgA,h]
theorem EC.cases (h:EC N ε)(n:Int): (∃(j:Nat) (f:Fm),lookL n ε.1.bD=some (j:Int)∧ε.1.ag[j]?=some f∧f.aY=n∧0≤n∧Qv N ε.2.2 ε.1.bD j f∧pgA ε n=f.b)∨(lookL n ε.1.bD=none∧pgA ε n=ε.2.2.at n):=by
 cases J:lookL n ε.1.bD with
 |none=>grind[lU]
 |some i =>
  obtain⟨h0,j,f,rfl,I,hp⟩:=h.lC n i J
  refine .inl ⟨j,f,rfl,I,hp,h0,?_,m9 J I⟩
  rcases h.back j f I with h1|h1
  ·omega
  ·exact h1
theorem tc {m:List Fm}{g x:Fm}(I:m[i]?=some f)(J:(m.set i g)[j]?=some x): (i=j∧x=g)∨(i≠j∧m[j]?=some x):=by
 grind
theorem EC.set {g:Fm}{y:Lg}(h:EC N ε)(hf:ε.1.ag[i]?=some f)(hp:g.aY=f.aY)(P0:DA N δ)
 (hg:g.aY<0∨Qv N δ ε.1.bD i g)(ho:∀(j:Nat) (x:Fm),i≠j→ε.1.ag[j]?=some x→0≤x.aY→δ.at x.aY=ε.2.2.at x.aY)(hd:∀k:Int,k∈d.map (·.1)→0≤k∧k<N)(lV:(d.map (·.1)).Nodup):
  EC N ({ ε.1 with ag:=ε.1.ag.set i g,cm:=d },(y,δ)):=by
 refine⟨P0,h.nodup,fun n k hk => ?_,fun j x J => ?_,hd,lV⟩
 ·obtain⟨h0,j,x,rfl,J,Gw⟩:=h.lC n k hk<;>grind
 ·rcases tc hf J with⟨rfl,rfl⟩|⟨vS,J⟩
  ·exact hg
  ·rcases h.back j x J with I|I
   ·omega
   ·by_cases h2:x.aY<0
    ·omega
    ·refine .inr ⟨I.lt,I.here,I.aH,fun hc => ?_,I.mO⟩
     rw[ho j x vS J (by omega)];exact I.same hc
theorem Ju {g:Fm}{x:LD}(I:ε.1.ag[i]?=some f)(J:g.b=f.b){n:Int}(hx:lookL n ε.1.bD=none→x.2.at n=ε.2.2.at n)(hy:∀j:Int,lookL n ε.1.bD=some j→∃f',ε.1.ag[j.toNat]?=some f'):
  pgA ({ ε.1 with ag:=ε.1.ag.set i g,cm:=d },x) n=pgA ε n:=by
 unfold pgA
 grind
theorem EC.there (h:EC N ε){n:Int}: ∀j:Int,lookL n ε.1.bD=some j→∃f',ε.1.ag[j.toNat]?=some f':=fun j I=>by
 obtain⟨_,k,f,rfl,J,_⟩:=h.lC n j I<;>grind
theorem EC.out (h:EC N ε)(I:ε.1.ag[i]?=some f):
  (outF ε i).1=0∧EC N (outF ε i).2∧(∀n,pgA (outF ε i).2 n=pgA ε n)∧(outF ε i).2.1.bD=ε.1.bD∧∃g,(outF ε i).2.1.ag[i]?=some g∧g.aY=f.aY∧(0≤g.aY→g.changed=false):=by
 have hi:=(List.getElem?_eq_some_iff.1 I).1
 unfold outF
 rw[I]
 simp only
 by_cases hc:f.aY<0∨f.changed=false
 ·grind
 ·rw[ay hc]
  have J:0≤f.aY:=by omega
  have zE:f.changed=true:=by grind
  have ho:=(h.back i f I).resolve_left (by omega)
  have hg:=ho.mO zE
  rw[ay (by grind)]
  obtain⟨e1,k1⟩:=D7 (x:=ε.2) (n:=cU f.b 4 8) h.dk
  rw[ay (by omega)]
  obtain⟨e2,k2,k3⟩:=Qu (h.dk.of k1) J ho.lt (fW hg) ho.aH
  rw[ay (by omega)]
  have xB:∀m,f.aY≠m→((bF ε.2 (cU f.b 4 8)).2.2.cV f.aY f.b).2.at m=ε.2.2.at m:=fun m hm=>by rw[k3,ay hm,k1.at]
  refine⟨rfl,h.set I rfl k2 (.inr ⟨ho.lt,ho.here,ho.aH,fun _ => ?_,fun hq=>(by cases hq)⟩) (fun j x vS hx h0=>xB _ fun NF => ?_) (fun k hk => ?_) (kI h.Gv),fun n => ?_,rfl,_,jt hi,rfl,fun _=>rfl⟩
  ·grind
  ·rcases h.back j x hx with h1|h1
   ·omega
   ·have:=h1.here
    rw[←NF,ho.here] at this
    grind
  ·rcases r5.1 hk with rfl|hk
   ·exact⟨J,ho.lt⟩
   ·exact h.AE k hk
  ·exact Ju I (by rfl) (fun hn=>xB n fun e=>by rw[←e,ho.here] at hn;cases hn) h.there
theorem fb.back (I:fb π bO){x:Fm}(J:bO.ag[i]?=some x): ∃f t,π.ag[i]?=some f∧x={ f with eS:=t }:=by
 have hi:=(List.getElem?_eq_some_iff.1 J).1
 rw[I.len] at hi
 have hf:π.ag[i]?=some (π.ag[i]'hi):=bp _
 obtain⟨t,ht⟩:=I.get i _ hf<;>grind
theorem EC.qo (h:EC N ε)(I:fb ε.1 bO): EC N (bO,ε.2)∧∀n,pgA (bO,ε.2) n=pgA ε n:=by
 refine⟨⟨h.dk,by rw[I.bD];exact h.nodup,fun n i hi => ?_,fun i x hx => ?_,by rw[I.cm];exact h.AE,by rw[I.cm];exact h.Gv⟩,fun n => ?_⟩
 ·rw[I.bD] at hi
  obtain⟨h0,j,f,rfl,hf,hp⟩:=h.lC n i hi
  obtain⟨t,ht⟩:=I.get j f hf
  exact⟨h0,j,_,rfl,ht,hp⟩
 ·obtain⟨f,t,hf,rfl⟩:=I.back hx
  rcases h.back i f hf with J|J
  ·grind
  ·exact .inr ⟨J.lt,by rw[I.bD];exact J.here,J.aH,J.same,J.mO⟩
 ·unfold pgA
  simp only[I.bD]
  cases hl:lookL n ε.1.bD with
  |none=>rfl
  |some i =>
   obtain⟨h0,j,f,rfl,hf,hp⟩:=h.lC n i hl
   obtain⟨t,ht⟩:=I.get j f hf<;>grind
theorem EC.cW {g:Fm}(h:EC N ε)(hg:ε.1.ag[i]?=some g)(hp:g.aY=f.aY)(hc:0≤g.aY→g.changed=false): EC N (cW ε.1 i f,ε.2)∧(∀n,pgA (cW ε.1 i f,ε.2) n=pgA ε n) ∧
  (cW ε.1 i f).ag[i]?=some dX∧∀n,lookL n ε.1.bD=none→lookL n (cW ε.1 i f).bD=none:=by
 have hi:=(List.getElem?_eq_some_iff.1 hg).1
 have J:(ε.1.ag.set i dX)[i]?=some dX:=jt hi
 have NG:∀n,lookL n (Am.cW ε.1 i f).bD=if 0≤f.aY∧f.aY=n then none else lookL n ε.1.bD:=fun n=>by
  rw[Am.cW]
  by_cases I:f.aY<0
  ·grind
  ·rw[ay I,DV h.nodup]
   simp_all
 refine⟨⟨h.dk,?_,fun n k hk => ?_,fun j x hx => ?_,h.AE,h.Gv⟩,fun n => ?_,J,fun n hn => ?_⟩
 ·rw[Am.cW]
  by_cases I:f.aY<0
  ·rw[aF I];exact h.nodup
  ·rw[ay I];exact vq h.nodup
 ·rw[NG] at hk
  split at hk
  ·cases hk
  ·obtain⟨I,j,x,rfl,hx,Gw⟩:=h.lC n k hk
   refine⟨I,j,x,rfl,?_,Gw⟩
   show(ε.1.ag.set i dX)[j]?=some x
   grind
 ·rcases tc hg hx with⟨rfl,rfl⟩|⟨vS,hx⟩
  ·exact .inl (by decide)
  ·rcases h.back j x hx with h1|h1
   ·omega
   ·by_cases hx0:x.aY<0
    ·omega
    refine .inr ⟨h1.lt,?_,h1.aH,h1.same,h1.mO⟩
    rw[NG,ay]
    ·exact h1.here
    ·rintro⟨I,NF⟩
     rcases h.back i g hg with h2|h2
     ·omega
     ·have e:=h2.here
      rw[hp,NF,h1.here] at e
      grind
 ·rcases h.cases n with⟨j,x,hl,hx,Gw,I,ho,e⟩|⟨hl,e⟩
  ·rw[e]
   by_cases NF:f.aY=n
   ·have vS:i=j:=by
     rcases h.back i g hg with h2|h2
     ·omega
     ·have e:=h2.here
      grind
    subst vS
    rw[hg] at hx
    have:=cx hx
    subst this
    rw[lU (by grind)]
    rw[ho.same (hc (by omega)),hp,NF]
   ·refine m9 (j:=j) (by grind) ?_
    show(ε.1.ag.set i dX)[j]?=some x
    grind
  grind[lU]
 ·grind
theorem EC.ir {e:Fm}{n:Int}(h:EC N ε)(he:ε.1.ag[i]?=some e)(hp:e.aY<0)(hl:lookL n ε.1.bD=none)(h0:0≤n)(h1:n<N): EC N (ir ε.1 i n (ε.2.2.at n),ε.2)∧∀m,pgA (ir ε.1 i n (ε.2.2.at n),ε.2) m=pgA ε m:=by
 have hi:=(List.getElem?_eq_some_iff.1 he).1
 have I:(ε.1.ag.set i ⟨n,ε.2.2.at n,1,true,false⟩)[i]?=some ⟨n,ε.2.2.at n,1,true,false⟩:=jt hi
 have NG:∀m,lookL m (Am.ir ε.1 i n (ε.2.2.at n)).bD=if n=m then some (i:Int) else lookL m ε.1.bD:=fun m=>jH _
 refine⟨⟨h.dk,kI h.nodup,fun m k hk => ?_,fun j x hx => ?_,h.AE,h.Gv⟩,fun m => ?_⟩
 ·rw[NG] at hk
  split at hk
  ·rename_i J
   have:=cx hk
   subst this
   subst J
   exact⟨h0,i,_,rfl,I,rfl⟩
  ·obtain⟨h0,j,x,rfl,hx,Gw⟩:=h.lC m k hk
   refine⟨h0,j,x,rfl,?_,Gw⟩
   show(ε.1.ag.set i _)[j]?=some x
   grind
 ·rcases tc he hx with⟨rfl,rfl⟩|⟨vS,hx⟩
  ·exact .inr ⟨h1,by grind,h.dk.good n h0 h1,fun _=>rfl,fun hq=>(by cases hq)⟩
  ·rcases h.back j x hx with h2|h2
   ·omega
   ·refine .inr ⟨h2.lt,?_,h2.aH,h2.same,h2.mO⟩
    rw[NG,ay]
    ·exact h2.here
    ·rintro rfl
     rw[h2.here] at hl;cases hl
 ·by_cases J:n=m
  ·subst J
   rw[m9 (j:=i) (by grind) I,lU hl]
  ·rcases h.cases m with⟨j,x,gA,hx,Gw,_,ho,e2⟩|⟨gA,e2⟩
   ·rw[e2]
    refine m9 (j:=j) (by grind) ?_
    show(ε.1.ag.set i _)[j]?=some x
    grind
   grind[lU]
theorem EC.frame {g:Fm}(h:EC N ε)(hf:ε.1.ag[i]?=some f)(J:g.aY=f.aY)(hb:g.b=f.b)(hc:g.changed=f.changed): EC N ({ ε.1 with ag:=ε.1.ag.set i g },ε.2)∧∀n,pgA ({ ε.1 with ag:=ε.1.ag.set i g },ε.2) n=pgA ε n:=by
 refine⟨h.set (y:=ε.2.1) (δ:=ε.2.2) hf J h.dk ?_ (fun _ _ _ _ _=>rfl) h.AE h.Gv,fun n=>Ju hf hb (fun _=>rfl) h.there⟩
 rcases h.back i f hf with I|I
 ·omega
 ·exact .inr ⟨by rw[J];exact I.lt,by rw[J];exact I.here,by rw[hb];exact I.aH,by rw[J,hb,hc];exact I.same,by rw[hb,hc];exact I.mO⟩
theorem fc.ec {n:Int}(hr:fc ε n e b ah)(h:EC N ε): EC N ah∧(∀m,pgA ah m=pgA ε m)∧(0≤n→n<N→e=0∧b=pgA ε n)∧(¬(0≤n∧n<N)→e=1∧ah=ε):=by
 have gd:=h.dk.bu
 cases hr with
 |arg I=>grind
 |BM i f h1 J hl hf =>
  obtain⟨k1,k2⟩:=h.frame (g:={ f with eS:=true,pins:=f.pins+1 }) hf rfl rfl rfl<;>grind[m9]
 |out bO i f h1 J hl I hf hh he=>exact absurd ((h.qo I).1.out hf).1 he
 |read bO i f h1 J hl I hf hh he hr =>
  obtain⟨k1,k2,k3,k4,g,k5,k6,k7⟩:=(h.qo I).1.out hf
  refine absurd ?_ hr
  rw[gd] at J
  rw[Dk.pN,ay (by rw[k2.dk.alive];decide),ay (by rw[k2.dk.bu];exact not_not_intro ⟨h1,J⟩)]
 |bad bO i f h1 J hl I hf hh he hr hc =>
  obtain⟨k1,k2,k3,k4,g,k5,k6,k7⟩:=(h.qo I).1.out hf
  rw[gd] at J
  exact absurd (k2.dk.good n h1 J) hc
 |load bO i f h1 J hl I hf hh he hr hc =>
  obtain⟨n1,n2⟩:=h.qo I
  obtain⟨k1,k2,k3,k4,g,k5,k6,k7⟩:=n1.out hf
  rw[gd] at J
  obtain⟨f1,f2,f3,f4⟩:=k2.cW k5 k6 k7
  have gA:lookL n (outF (bO,ε.2) i).2.1.bD=none:=by rw[k4];rw[I.bD];exact hl
  obtain⟨l1,l2⟩:=f1.ir f3 (by decide) (f4 n gA) h1 J
  exact⟨l1,fun m=>by grind,fun _ _=>⟨rfl,by grind[lU]⟩,fun I=>absurd ⟨h1,J⟩ I⟩
theorem NH {x:LD}{n:Int}(h:EC N (π,x)): EC N ((unpinF π n).2,x)∧∀m,pgA ((unpinF π n).2,x) m=pgA (π,x) m:=by
 unfold unpinF
 split
 ·grind
 ·split
  ·grind
  ·rename_i i hi f I
   exact h.frame (g:={ f with pins:=f.pins-1 }) I rfl rfl rfl
theorem lH.ec {n:Int}(I:lH ε n e b ah)(h:EC N ε)(J:∀f∈ε.1.ag,f.pins=0): EC N ah∧(∀m,pgA ah m=pgA ε m)∧(0≤n→n<N→e=0∧b=pgA ε n)∧(¬(0≤n∧n<N)→e=1∧ah=ε):=by
 cases I with
 |dead hd=>rw[h.dk.alive] at hd;cases hd
 |jb e b ah hd I he =>
  obtain⟨k1,k2,k3,k4⟩:=I.ec h<;>grind
 |vz b ah hd I he=>exact absurd (I.Az J).1 he
 |read b ah hd I he =>
  obtain⟨k1,k2,k3,k4⟩:=I.ec h<;>grind[NH]
theorem GRd.ec {n:Int}(I:GRd ε now false n e b ah)(h:EC N ε)(J:∀f∈ε.1.ag,f.pins=0): EC N ah∧(∀m,pgA ah m=pgA ε m) ∧
  (0≤n→n<N→e=0∧b=(match lookL n now with|some b=>b|none=>pgA ε n))∧(¬(0≤n∧n<N)→e=1):=by
 have gd:=h.dk.bu
 cases I with
 |arg hn=>grind
 |bS _ _ ho=>cases ho
 |own b h1 h2 _ hl=>grind
 |read e b ah h1 h2 _ hl I =>
  obtain⟨k1,k2,k3,k4⟩:=I.ec h J<;>grind
theorem D9 : ∀(N:Nat) (l:List Int),l.Nodup→(∀n∈l,0≤n∧n<N)→l.length≤N:=by
 intro N
 induction N with
 |zero =>
  intro l _ h
  cases l<;>grind[List.mem_cons_self]
 |succ N I =>
  intro l hd h
  have J:=I (l.erase (N:Int)) (hd.erase _) fun n hn=>by
   grind
  grind
structure NW (N:Nat)(now:List (Int×List Nat)): Prop where
 good:∀e∈now,bW e.2=true∧∀x∈e.2,x<256
 keys:∀k:Int,k∈now.map (·.1)→0≤k∧k<N
 nodup:(now.map (·.1)).Nodup
theorem NW.nil (N:Nat): NW N []:=⟨fun e h=>(by cases h),fun k h=>(by cases h),t_⟩
theorem La {n:Int}{a:α}: ∀ {l:List (Int×α)} {e:Int×α},e∈cN n a l→e=(n,a)∨e∈l:=by
 intro l
 induction l<;>grind[cN]
theorem NW.put {n:Int}(h:NW N now)(J:0≤n)(h1:n<N)(hg:bW b=true)(hb:∀x∈b,x<256): NW N (cN n b now):=by
 refine⟨fun e he => ?_,fun k I => ?_,kI h.nodup⟩
 ·rcases La he with rfl|he
  ·grind
  ·exact h.good e he
 ·rcases r5.1 I with rfl|I
  ·omega
  ·exact h.keys k I
theorem NW.len (h:NW N now): now.length≤N:=by
 have:=D9 N _ h.nodup h.keys
 rwa [fE] at this
theorem NW.look (h:NW N now){n:Int}(I:lookL n now=some b): bW b=true∧∀x∈b,x<256:=h.good _ (kF I)
theorem si.ec {n:Int}(I:si ε now false n b e cT ah)(h:EC N ε)(J:∀f∈ε.1.ag,f.pins=0): EC N ah∧(∀m,pgA ah m=pgA ε m) ∧
  (¬(0≤n∧n<N)→e=1∧cT=now)∧(0≤n→n<N→bW b=false→e=4∧cT=now)∧(0≤n→n<N→bW b=true→e=0∧cT=cN n b now):=by
 cases I with
 |may e c ah I he =>
  obtain⟨k1,k2,k3,k4⟩:=I.ec h J<;>grind
 |bad c ah I hg =>
  obtain⟨k1,k2,k3,k4⟩:=I.ec h J<;>grind
 |done c ah I hg =>
  obtain⟨k1,k2,k3,k4⟩:=I.ec h J<;>grind
theorem iE.ec {l:List Int}{cs:List cr}(I:iE now l ε e cs ah): EC N ε→gR ε→(∀n∈l,0≤n∧n<N)→EC N ah∧(∀m,pgA ah m=pgA ε m)∧e=0:=by
 induction I with
 |nil ε=>grind
 |err n l ε e b ah I he =>
  intro h J hl
  obtain⟨k1,k2,k3,k4⟩:=I.ec h J.pins<;>grind
 |part n l ε eH b ah c e cs kG I hb hd hc iZ ht ih =>
  intro h J hl
  obtain⟨k1,k2,k3,k4⟩:=I.ec h J.pins
  obtain⟨i1,i2,i3⟩:=ih k1 (I.kS J) fun m hm=>hl m (dh _ hm)<;>grind
 |whole n l ε eH b ah e cs kG I hb hd ht ih =>
  intro h J hl
  obtain⟨k1,k2,k3,k4⟩:=I.ec h J.pins
  obtain⟨i1,i2,i3⟩:=ih k1 (I.kS J) fun m hm=>hl m (dh _ hm)<;>grind
theorem EC.log {x:LD}(h:EC N ε)(k:DK ε.2.2 x.2): EC N (ε.1,x)∧∀m,pgA (ε.1,x) m=pgA ε m:=by
 refine⟨⟨h.dk.of k,h.nodup,h.lC,fun i f J => ?_,h.AE,h.Gv⟩,fun m => ?_⟩
 ·rcases h.back i f J with I|I
  ·omega
  ·exact .inr ⟨I.lt,I.here,I.aH,fun hc=>by rw[k.at];exact I.same hc,I.mO⟩
 ·unfold pgA
  simp only[k.at]
theorem EC.put {n:Int}(h:EC N ε)(hl:lookL n ε.1.bD=some (i:Int))(I:ε.1.ag[i]?=some f)(hg:bW b=true)(hb:∀x∈b,x<256)(h0:0≤n)(h1:n<N):
  EC N (AB ε.1 n i f b aB,ε.2)∧∀m,pgA (AB ε.1 n i f b aB,ε.2) m=if m=n then cS b aB else pgA ε m:=by
 obtain⟨s1,s2,s3⟩:=ND (n:=aB) hg hb
 have hi:=(List.getElem?_eq_some_iff.1 I).1
 have hp:f.aY=n:=by
  obtain⟨_,j,x,vS,hx,J⟩:=h.lC n i hl<;>grind
 have ho:=(h.back i f I).resolve_left (by omega)
 refine⟨h.set (y:=ε.2.1) (δ:=ε.2.2) I rfl h.dk (.inr ⟨ho.lt,ho.here,s1,fun hq=>(by cases hq),fun _=>s2⟩) (fun _ _ _ _ _=>rfl) (fun k hk => ?_) (kI h.Gv),fun m => ?_⟩
 ·rcases r5.1 hk with rfl|hk
  ·omega
  ·exact h.AE k hk
 ·by_cases hm:m=n
  ·subst hm
   rw[aF rfl]
   exact m9 (ε:=(AB ε.1 m i f b aB,ε.2)) hl (jt hi)
  ·rcases h.cases m with⟨j,x,gA,hx,J,_,_,e2⟩|⟨gA,e2⟩<;>grind[m9,AB,lU]
theorem PtR.ec {l:List Int}(I:PtR now aB l ε e ah): EC N ε→gR ε→NW N now→(∀n∈l,0≤n∧n<N)→EC N ah∧e=0 ∧
  ∀m,pgA ah m=if m∈l then(match lookL m now with|some b=>cS b aB|none=>pgA ε m) else pgA ε m:=by
 induction I with
 |nil ε=>grind
 |jb n l ε e b ah I he =>
  intro h J hn hl
  have:=hl n dJ
  exact absurd ((I.ec h).2.2.1 this.1 this.2).1 he
 |bad n l ε b0 b ah I hb he =>
  intro h J hn hl
  exact absurd ((I.put (b:=b) (aB:=aB) J).2.2 (hn.look hb).1) he
 |put n l ε b0 b ah e kG I hb he ht ih =>
  intro h J hn hl
  have Bh:=hl n dJ
  obtain⟨k1,k2,k3,k4⟩:=I.ec h
  obtain⟨i,f,p1,p2,p3,p4,p5⟩:=I.at J.pins
  have hg:=hn.look hb
  have e1:=vC (aB:=aB) p1 p2 p3 hg.1
  obtain⟨q1,q2⟩:=k1.put (aB:=aB) p1 p2 hg.1 hg.2 Bh.1 Bh.2
  have NI:=(I.put (b:=b) (aB:=aB) J).1
  rw[e1] at ih NI
  obtain⟨i1,i2,i3⟩:=ih q1 NI hn fun m hm=>hl m (dh _ hm)
  refine⟨i1,i2,fun m => ?_⟩
  rw[i3,q2]
  by_cases hm:m=n
  ·grind
  ·grind
structure EL (K:Nat)(x:LD): Prop where
 log:x.1.b=x.2.log
 cert:x.1.forced≤x.2.eA
 size:x.1.base+x.1.b.length≤K
theorem EL.force {x:LD}(h:EL K x): EL K (bF x n).2:=by
 unfold bF Dk.fM
 split
 ·exact h
 ·by_cases hd:x.2.dead=true
  ·grind
  ·rw[ay hd]
   by_cases I:x.2.bH=0
   ·rw[aF I,aF (show(9:Int)≠0 by decide)];exact⟨h.log,h.cert,h.size⟩
   ·rw[ay I,ay (show ¬(0:Int)≠0 by decide)];exact⟨h.log,by rw[h.log];exact aS _,h.size⟩
theorem EL.write {x:LD}{n:Int}(h:EL K x): EL K (x.1,(x.2.cV n b).2):=by
 unfold Dk.cV
 split
 ·exact h
 ·split
  ·exact h
  ·split<;>exact⟨h.log,h.cert,h.size⟩
theorem uS (K:Nat): kx (EL K):=⟨fun _ _ h=>h.force,fun _ _ _ h=>h.write⟩
theorem lH.el {n:Int}(I:lH ε n e b ah)(h:EL K ε.2): EL K ah.2:=(uS K).rd I h
theorem GRd.el {bS:Bool}{n:Int}(I:GRd ε now bS n e b ah)(h:EL K ε.2): EL K ah.2:=(uS K).xG I h
theorem si.el {bS:Bool}{n:Int}(I:si ε now bS n b e cT ah)(h:EL K ε.2): EL K ah.2:=(uS K).NA I h
theorem iE.el {l:List Int}{cs:List cr}(I:iE now l ε e cs ah)(h:EL K ε.2): EL K ah.2:=(uS K).ch I h
theorem PtR.el {l:List Int}(I:PtR now aB l ε e ah)(h:EL K ε.2): EL K ah.2:=(uS K).pt I h
structure EI (N B:Nat)(ε:bA): Prop where
 ok:gR ε
 ec:EC N ε
 el:EL (B*1048600) ε.2
 bY:bY ε≤B*65536
theorem EI.more (h:EI N B ε){I:Nat}(J:B≤I): EI N I ε :=
 ⟨h.ok,h.ec,⟨h.el.log,h.el.cert,b9 h.el.size (oN _ J)⟩,b9 h.bY (oN _ J)⟩
theorem EI.rd {n:Int}(h:EI N B ε)(I:lH ε n e b ah): EI N B ah :=
 ⟨I.kS h.ok,(I.ec h.ec h.ok.pins).1,I.el h.el,b9 I.bY h.bY⟩
theorem EI.xG {n:Int}(h:EI N B ε)(I:GRd ε now false n e b ah): EI N B ah :=
 ⟨I.kS h.ok,(I.ec h.ec h.ok.pins).1,I.el h.el,b9 I.bY h.bY⟩
theorem EI.NA {n:Int}(h:EI N B ε)(I:si ε now false n b e cT ah): EI N B ah :=
 ⟨I.kS h.ok,(I.ec h.ec h.ok.pins).1,I.el h.el,b9 I.bY h.bY⟩
theorem EI.many (h:EI N B ε): N≤65536:=by
 have:=h.ok.ok.dk.many
 rwa [h.ec.dk.bu] at this
theorem EI.force (h:EI N B ε): (bF ε.2 n).1=0∧EI N B (ε.1,(bF ε.2 n).2)∧∀m,pgA (ε.1,(bF ε.2 n).2) m=pgA ε m:=by
 obtain⟨f1,f2⟩:=D7 (n:=n) h.ec.dk
 obtain⟨l1,l2⟩:=h.ec.log f2
 refine⟨f1,⟨⟨⟨h.ok.ok.pl,zZ h.ok.ok.lg,oz h.ok.ok.dk⟩,h.ok.pins,h.ok.full⟩,l1,h.el.force,?_⟩,l2⟩
 have:=h.bY
 grind[Am.bY,r9]
theorem EI.app {kd:Int}{c:List cr}(h:EI N B ε)(hB:B≤1000)(hg:dg kd c=true):
  EI N (B+1) (ε.1,(bg ε.2 kd tx pv nx data c).2)∧(∀m,pgA (ε.1,(bg ε.2 kd tx pv nx data c).2) m=pgA ε m) ∧
  (((bg ε.2 kd tx pv nx data c).1.2=0∧bg ε.2 kd tx pv nx data c=((ε.2.1.base+ε.2.1.b.length,0),(ε.2.1.app (eB ε.2.1 kd tx pv nx data c),{ ε.2.2 with log:=ε.2.2.log++eB ε.2.1 kd tx pv nx data c }))) ∨
   (bg ε.2 kd tx pv nx data c).1.2=7∨((bg ε.2 kd tx pv nx data c).1.2=2∧1048576<(cI kd tx pv nx data c).length)):=by
 have hs:=h.el.size
 have J:=z8 (kd:=kd) (tx:=tx) (pv:=pv) (nx:=nx) (data:=data) (c:=c) h.ok.ok.lg h.ok.ok.dk h.el.log (by omega)
 have vD:Am.bY (ε.1,(bg ε.2 kd tx pv nx data c).2)≤(B+1)*65536:=by
  have e:Am.bY (ε.1,(bg ε.2 kd tx pv nx data c).2)=Am.bY ε:=by grind[Am.bY]
  rw[e]
  exact b9 h.bY (oN _ (qT B))
 have ej:(bg ε.2 kd tx pv nx data c).2.1.base+(bg ε.2 kd tx pv nx data c).2.1.b.length≤(B+1)*1048600:=by
  omega
 have main:∀(hk:DK ε.2.2 (bg ε.2 kd tx pv nx data c).2.2) (hc:(bg ε.2 kd tx pv nx data c).2.1.forced≤(bg ε.2 kd tx pv nx data c).2.2.eA),EI N (B+1) (ε.1,(bg ε.2 kd tx pv nx data c).2)∧∀m,pgA (ε.1,(bg ε.2 kd tx pv nx data c).2) m=pgA ε m:=fun hk hc=>by
  obtain⟨l1,l2⟩:=h.ec.log hk
  exact⟨⟨⟨⟨h.ok.ok.pl,J.1,J.2.1⟩,h.ok.pins,h.ok.full⟩,l1,⟨J.2.2.1,hc,ej⟩,vD⟩,l2⟩
 rcases g9 ε.2 kd tx pv nx data c with⟨e,he,hc,I⟩|⟨hd,hf,I⟩|⟨_,_,hd,eR,hf,I⟩
 ·obtain⟨m1,m2⟩:=main (by rw[I];exact DK.refl _) (by rw[I];exact h.el.cert)
  refine⟨m1,m2,.inr ?_⟩
  rw[I]
  rcases hc with⟨_,hb⟩|⟨rfl,hb⟩|⟨_,hb⟩|⟨rfl,hb⟩
  ·grind
  ·grind
  ·rw[h.ec.dk.alive] at hb;cases hb
  ·simp
 ·have:=h.ec.dk.bH;omega
 ·rw[uR h.ec.dk.bH] at I
  obtain⟨m1,m2⟩:=main (by rw[I];exact⟨rfl,rfl,rfl,rfl⟩) (by rw[I];exact h.el.cert)
  exact⟨m1,m2,.inl ⟨by rw[I],I⟩⟩
theorem EI.done {kd:Int}{cl:Bool}(h:EI N B ε)(hB:B≤1000)(hn:NW N now)(h1:1≤kd)(h2:kd≤7)(hr:qf ε now kd tx pv nx data 0 aB e cl ah):
  (cl=false∧(e=7∨e=2)∧EI N (B+2) ah∧∀m,pgA ah m=pgA ε m) ∨
  (cl=true∧e=0∧EI N (B+2) ah∧∀m,pgA ah m=match lookL m now with|some b=>cS b aB|none=>pgA ε m):=by
 have I:∀n∈c9 now,0≤n∧n<N:=fun n hq=>hn.keys n (jJ.1 hq)
 have hN:=h.many
 have eR:∀ {c:List cr} {ah:bA} {e:Int},iE now (c9 now) ε e c ah→dg kd c=true:=fun J=>by
  refine AD ⟨h1,by omega⟩ (J.fit (fun x hx=>fW (hn.good x hx).1) fun n hq => ?_)<;>grind
 cases hr with
 |arg hq=>omega
 |dead _ _ _ hd=>rw[h.ec.dk.alive] at hd;cases hd
 |mO e c ah _ _ _ hd J he=>exact absurd (J.ec h.ec h.ok I).2.2 he
 |app c ah _ _ _ hd J he =>
  obtain⟨c1,c2,c3⟩:=J.ec h.ec h.ok I
  have hi:EI N B ah:=⟨J.kS h.ok,c1,J.el h.el,b9 J.bY h.bY⟩
  obtain⟨a1,a2,a3⟩:=hi.app (kd:=kd) (tx:=tx) (pv:=pv) (nx:=nx) (data:=data) (c:=c) hB (eR J)
  refine .inl ⟨rfl,?_,a1.more (by omega),fun m=>by grind⟩<;>grind
 |put c ah e kG _ _ _ hd J ha hp =>
  obtain⟨c1,c2,c3⟩:=J.ec h.ec h.ok I
  have hi:EI N B ah:=⟨J.kS h.ok,c1,J.el h.el,b9 J.bY h.bY⟩
  obtain⟨a1,a2,a3⟩:=hi.app (kd:=kd) (tx:=tx) (pv:=pv) (nx:=nx) (data:=data) (c:=c) hB (eR J)
  obtain⟨p1,p2,p3⟩:=hp.ec a1.ec a1.ok hn I
  have hl:(c9 now).length≤N:=by
   have:=hn.len
   rw[c9,(e_ _).length_eq,fE];exact this
  have hpt:=hp.bY a1.ok
  have oJ:=a1.bY
  refine .inr ⟨rfl,p2,⟨hp.kS a1.ok,p1,?_,by omega⟩,fun m => ?_⟩
  ·have:=hp.el a1.el
   exact⟨this.log,this.cert,b9 this.size (oN _ (by omega))⟩
  ·grind[jJ,ou]
theorem z_ (n:Nat): (digits 9 n).length≤10:=s8 9 n
def uT (π:Pl)(n:Int)(b:List Nat): Prop:=∃(i:Nat) (f:Fm),π.ag[i]?=some f∧f.aY=n∧0≤n∧f.changed=true∧f.b=b
abbrev VP := (Int→List Nat→Prop)→List (Int×(Nat×Bool))→LD→Prop
abbrev vw (P:VP)(ε:bA): Prop:=P (uT ε.1) ε.1.cm ε.2
theorem Qw (hn:fb π bO): uT bO=uT π:=by
 funext n b
 refine propext ⟨fun⟨i,x,hx,I,J,h2,h3⟩ => ?_,fun⟨i,f,hf,I,J,h2,h3⟩ => ?_⟩
 ·obtain⟨f,t,hf,rfl⟩:=hn.back hx
  exact⟨i,f,hf,I,J,h2,h3⟩
 ·obtain⟨t,ht⟩:=hn.get i f hf
  exact⟨i,_,ht,I,J,h2,h3⟩
theorem yT {g:Fm}(J:π.ag[i]?=some f)(hs:∀n b,(f.aY=n∧0≤n∧f.changed=true∧f.b=b)↔(g.aY=n∧0≤n∧g.changed=true∧g.b=b)){w:List (Int×Int)}{hd:Nat}: uT ⟨π.ag.set i g,w,d,hd⟩=uT π:=by
 have hi:=(List.getElem?_eq_some_iff.1 J).1
 funext n b
 refine propext ⟨fun⟨j,x,I,h⟩ => ?_,fun⟨j,x,I,h⟩ => ?_⟩
 ·rcases tc J I with⟨rfl,rfl⟩|⟨_,I⟩
  ·exact⟨i,f,J,(hs n b).2 h⟩
  ·exact⟨j,x,I,h⟩
 ·by_cases hj:i=j
  ·subst hj
   rw[J] at I
   have:=cx I
   subst this
   exact⟨i,g,jt hi,(hs n b).1 h⟩
  ·exact⟨j,x,by grind,h⟩
theorem NJ {g:Fm}(J:π.ag[i]?=some g)(hc:0≤g.aY→g.changed=false): uT (cW π i f)=uT π :=
 yT J fun n b=>⟨(fun⟨h1,h0,I,_⟩=>by grind),fun⟨_,_,I,_⟩=>(by cases I)⟩
theorem Lb {e:Fm}{n:Int}(he:π.ag[i]?=some e)(J:e.aY<0): uT (ir π i n b)=uT π :=
 yT he fun m c=>⟨fun⟨h1,h0,_⟩=>by omega,fun⟨_,_,I,_⟩=>(by cases I)⟩
structure m_ (N:Nat)(P:VP): Prop where
 one:∀(ε:bA) (i:Nat) (f:Fm),EC N ε→ε.1.ag[i]?=some f→0≤f.aY→f.changed=true→vw P ε→vw P (outF ε i).2
theorem kx.Dd {R:LD→Prop}(h:kx R)(N:Nat): m_ N (fun _ _ x=>R x):=⟨fun _ _ _ _ _ _ _ I=>h.out I⟩
section
variable {P:VP} {n:Int} {l:List Int} {cs:List cr}
theorem m_.out (h:m_ N P)(he:EC N ε)(I:ε.1.ag[i]?=some f)(J:vw P ε): vw P (outF ε i).2:=by
 by_cases hc:f.aY<0∨f.changed=false
 ·grind[outF]
 ·exact h.one ε i f he I (by omega) (by grind) J
theorem m_.jb (h:m_ N P)(hr:fc ε n e b ah)(he:EC N ε)(hv:vw P ε): vw P ah:=by
 cases hr with
 |arg I=>exact hv
 |BM i f h1 J hl hf =>
  grind[yT]
 |out bO i f h1 J hl I hf hh hq=>exact absurd ((he.qo I).1.out hf).1 hq
 |read bO i f h1 J hl I hf hh hq hr =>
  obtain⟨k1,k2,k3,k4,g,k5,k6,k7⟩:=(he.qo I).1.out hf
  refine absurd ?_ hr
  rw[he.dk.bu] at J
  rw[Dk.pN,ay (by rw[k2.dk.alive];decide),ay (by rw[k2.dk.bu];exact not_not_intro ⟨h1,J⟩)]
 |bad bO i f h1 J hl I hf hh hq hr hc =>
  obtain⟨k1,k2,k3,k4,g,k5,k6,k7⟩:=(he.qo I).1.out hf
  rw[he.dk.bu] at J
  exact absurd (k2.dk.good n h1 J) hc
 |load bO i f h1 J hl I hf hh hq hr hc =>
  obtain⟨n1,n2⟩:=he.qo I
  have F6:vw P (bO,ε.2):=by show P (uT bO) bO.cm ε.2;rw[Qw I,I.cm];exact hv
  have sU:=h.out (ε:=(bO,ε.2)) n1 hf F6
  grind[NJ,cW,outF,dX,ir,Lb]
theorem NK : uT (unpinF π n).2=uT π∧(unpinF π n).2.cm=π.cm:=by
 grind[unpinF,yT]
theorem m_.rd (h:m_ N P)(I:lH ε n e b ah)(he:EC N ε)(J:vw P ε): vw P ah:=by
 cases I<;>grind[jb,NK]
theorem m_.xG (h:m_ N P)(I:GRd ε now false n e b ah)(he:EC N ε)(J:vw P ε): vw P ah:=by
 cases I with
 |arg hn=>exact J
 |bS _ _ ho=>cases ho
 |own b h1 h2 _ hl=>exact J
 |read e b ah h1 h2 _ hl I=>exact h.rd I he J
theorem m_.NA (h:m_ N P)(I:si ε now false n b e cT ah)(he:EC N ε)(J:vw P ε): vw P ah:=by
 cases I with
 |may e c ah I _=>exact h.xG I he J
 |bad c ah I hg=>exact h.xG I he J
 |done c ah I hg=>exact h.xG I he J
theorem m_.ch (h:m_ N P)(I:iE now l ε e cs ah): EC N ε→gR ε→vw P ε→vw P ah:=by
 induction I with
 |nil ε=>simp
 |err n l ε e b ah I _=>exact fun he _ J=>h.rd I he J
 |part n l ε eH b ah c e cs kG I hb hd hc iZ ht ih=>exact fun he h3 J=>ih (I.ec he h3.pins).1 (I.kS h3) (h.rd I he J)
 |whole n l ε eH b ah e cs kG I hb hd ht ih=>exact fun he h3 J=>ih (I.ec he h3.pins).1 (I.kS h3) (h.rd I he J)
end
def kz (k:Nat)(v:V)(cs:List V): aE:=.xs fun o:Option (Nat×Nat×Nat)=>match o with
 |none=>.pu ((v=.aO∨∃a,v=.sle a)∧cs=[])
 |some (id,len,cap)=>.an (.ro id (.cells cs.length cs true)) (.pu (v=.sl id 0 len (.exact cap)∧cs.length=len*k))
section
variable {v:V} {cs:List V}
theorem Sat.rowAt (s:Sat h S)(J:getA S j=some (kz k v cs)): ((v=.aO∨∃a,v=.sle a)∧cs=[])∨∃id len cap,v=.sl id 0 len (.exact cap)∧cs.length=len*k∧T.get h.tr id=some (.cells cs.length cs true):=by
 obtain⟨m,r,h1,h2,o,I⟩:=s.at J
 cases o with
 |none=>exact .inl I
 |some x=>exact .inr ⟨x.1,x.2.1,x.2.2,I.2.1,I.2.2,h2 _ _ I.1⟩
theorem Sat.sn {e:TypeId}(s:Sat h S)(J:getA S j=some (kz k v cs))(I:cs.length=n*k)(hk:1≤k)(hu:P.underlying t=some (.slice e)): lenV P h t v=some (.int .i64 n):=by
 rcases s.rowAt J with⟨hv,rfl⟩|⟨id,len,cap,rfl,hl,_⟩
 ·have:n=0:=by
   cases n with
   |zero=>rfl
   |succ n=>simp only[cD,nr,yj] at I;omega
  subst this
  rcases hv with rfl|⟨a,rfl⟩
  ·exact IX hu
  ·simp only[lenV,hu];rfl
 ·have:n=len:=by
   rw[hl] at I
   exact(IB (by omega) I).symm
  subst this
  exact MK hu
end
def tot : List (List Nat)→Nat
 |[]=>0
 |c::l=>c.length+tot l
theorem De {a b:List (List Nat)}: tot (a++b)=tot a+tot b:=by
 induction a<;>grind[tot]
theorem lW : ∀ {cs:List (List Nat)} {i:Nat} {c:List Nat},cs[i]?=some c→tot (cs.take (i+1))=tot (cs.take i)+c.length:=by
 intro cs
 induction cs<;>grind[tot]
theorem Gx (h:i≤j): tot (cs.take i)≤tot (cs.take j):=by
 grind[List.take_append_drop,De]
theorem mQ : tot (cs.take i)≤tot cs:=by
 grind[De,List.take_append_drop]
theorem TA : ∀ {cs:List (List Nat)} {i:Nat} {c c':List Nat},cs[i]?=some c→c'.length=c.length→∀k,tot ((cs.set i c').take k)=tot (cs.take k):=by
 intro cs
 induction cs with
 |nil=>simp
 |cons x cs I =>
  intro i c c' h J k
  cases i with
  |zero =>
   simp at h;subst h
   cases k<;>grind[tot]
  |succ i=>cases k<;>grind[tot]
theorem jL {m:List Nat}(h:a+m.length≤l.length)(hi:i<a∨a+m.length≤i): (bx l a m)[i]?=l[i]?:=by
 grind[BU]
theorem xI {m:List Nat}(h:a+m.length≤l.length)(hi:i<m.length): (bx l a m)[a+i]?=m[i]?:=by
 grind[BU]
theorem nc {m:List Nat}(h:∀i,a≤i→i<a+z→l[i]?=m[i]?): cU l a z=cU m a z:=by
 unfold cU
 congr 1
 apply qN
 simp_all[tU]
theorem yU {m:List Nat}{b:Nat}(h:a+m.length≤l.length)(I:b+z≤a∨a+m.length≤b): cU (bx l a m) b z=cU l b z :=
 by grind[nc,jL]
theorem uU (h:a+z≤l.length)(I:n<256^z): cU (bx l a (le z n)) a z=n:=by
 have e:((bx l a (le z n)).take (a+z)).drop a=le z n:=by
  apply qN
  simp only[Cm,tU]
  grind[xI,cF]
 grind[cU,xH,Nat.mod_eq_of_lt]
theorem nT {m:List Nat}(h:l[i]?=m[i]?): l.getD i 0=m.getD i 0:=by grind
structure dx (b:List Nat)(k link extra:Nat)(cs:List (List Nat)): Prop where
 len:b.length=512
 NL:b.getD 13 0=0
 kind:b.getD 12 0=k
 link:cU b 18 4=link
 extra:cU b 22 4=extra
 gQ:jS b=cs.length
 low:g8 b+tot cs=512
 fits:26+4*cs.length+tot cs≤512
 slot:∀i c,cs[i]?=some c→cZ b i+tot (cs.take (i+1))=512∧h_ b i=c.length∧∀j,j<c.length→b[cZ b i+j]?=c[j]?
theorem Qx : ∀(z k:Nat) (t:List Bool),k+z≤t.length→(∀j,k≤j→j<k+z→t.getD j false=false)→∃t',markL z k t=some t'∧t'.length=t.length∧∀j,(j<k∨k+z≤j)→t'.getD j false=t.getD j false:=by
 intro z
 induction z with
 |zero=>intro k t _ _;exact⟨t,rfl,rfl,fun _ _=>rfl⟩
 |succ z I =>
  intro k t J h2
  have hs:∀j,j≠k→(t.set k true).getD j false=t.getD j false:=fun j hj=>by
   grind
  obtain⟨t',e1,e2,e3⟩:=I (k+1) (t.set k true) (by grind) (fun j a b=>by grind)<;>grind[markL]
section
theorem dx.cells (h:dx b k link extra cs): ∀(n i:Nat) (t:List Bool),i+n=cs.length→t.length=512→(∀j,j+tot (cs.take i)<512→t.getD j false=false)→cellsL b (g8 b) n i t=true:=by
 intro n
 induction n with
 |zero=>intro i t _ _ _;rfl
 |succ n J =>
  intro i t hi ht hf
  have I:cs[i]?=some (cs[i]'(by omega)):=bp _
  generalize (cs[i]'(by omega))=c at I
  obtain⟨s1,s2,s3⟩:=h.slot i c I
  have h1:=lW I
  have h2:=mQ (cs:=cs) (i:=i+1)
  have h3:=h.low
  obtain⟨t',e1,e2,e3⟩:=Qx c.length (cZ b i) t (by omega) (fun j _ _=>hf j (by omega))
  rw[cellsL,s2,ay (by omega),e1]
  exact J (i+1) t' (by omega) (by omega) (fun j hj=>by grind)
theorem dx.good (h:dx b k link extra cs): bW b=true:=by
 have I:=h.low
 have J:=h.fits
 rw[bW,ew h.len,ew h.NL,ew (by rw[h.gQ];omega),h.cells _ _ _ (by rw[h.gQ];omega) gi fun j hj => ?_]
 ·rfl
 grind
theorem dx.tail (h:dx b k link extra cs){I:List Nat}(hl:I.length=512)(ht:I.drop 12=b.drop 12): dx I k link extra cs:=by
 have hg:∀i,12≤i→I[i]?=b[i]?:=fun i hi=>by
  have:=iA (fun l:List Nat=>l[i-12]?) ht
  grind
 have J:∀a z,12≤a→cU I a z=cU b a z:=fun a z q=>vF ht q
 refine⟨hl,?_,?_,?_,?_,?_,?_,h.fits,fun i c hc => ?_⟩
 ·rw[nT (hg 13 (by decide))];exact h.NL
 ·rw[nT (hg 12 (by decide))];exact h.kind
 ·rw[J _ _ (by decide)];exact h.link
 ·rw[J _ _ (by decide)];exact h.extra
 ·rw[jS,J _ _ (by decide)];exact h.gQ
 ·rw[g8,J _ _ (by decide)];exact h.low
 ·obtain⟨s1,s2,s3⟩:=h.slot i c hc
  have e1:cZ I i=cZ b i:=J _ _ (by omega)
  have e2:h_ I i=h_ b i:=J _ _ (by omega)
  have eR:=h.fits
  grind[mQ]
def tG (k:Nat): List Nat:=bx ((List.replicate 512 0).set 12 k) 16 (le 2 512)
theorem dx.new : dx (tG k) k 0 0 []:=by
 have hle:∀n,(le 2 n).length=2:=fun n=>cF 2 n
 have I:∀i,i<16∨18≤i→(tG k)[i]?=((List.replicate 512 0).set 12 k)[i]?:=fun i hi=>jL (by grind) (by grind)
 have hz:∀i,i≠12→((List.replicate 512 0).set 12 k)[i]?=(List.replicate 512 0)[i]?:=fun i hi=>oP (by omega)
 have J:∀a z,a+z≤512→(18≤a∨(13≤a∧a+z≤16))→cU (tG k) a z=cU (List.replicate 512 0) a z:=fun a z h1 h2=>nc fun i h3 h4=>by grind
 refine⟨by grind[tG,cQ],?_,?_,?_,?_,?_,?_,by decide,fun i c hc=>(by grind)⟩
 ·rfl
 ·rfl
 ·rfl
 ·rfl
 ·rfl
 ·rfl
def tH (b:List Nat)(x y:Nat): List Nat:=bx (bx b 18 (le 4 x)) 22 (le 4 y)
theorem dx.set (h:dx b k link extra cs){x y:Nat}(hx:x<4294967296)(hy:y<4294967296): dx (tH b x y) k x y cs:=by
 have hlen:=h.len
 have hle:∀n,(le 4 n).length=4:=fun n=>cF 4 n
 have l1:(bx b 18 (le 4 x)).length=512:=by grind[cQ]
 have l2:(tH b x y).length=512:=by grind[tH,cQ]
 have I:∀i,i<18∨26≤i→(tH b x y)[i]?=b[i]?:=fun i hi=>by
  grind[tH,jL]
 have J:∀a z,a+z≤18∨26≤a→cU (tH b x y) a z=cU b a z:=fun a z h2=>nc fun i h3 h4=>I i (by omega)
 refine⟨l2,?_,?_,?_,?_,?_,?_,h.fits,fun i c hc => ?_⟩
 ·rw[nT (I 13 (by decide))];exact h.NL
 ·rw[nT (I 12 (by decide))];exact h.kind
 ·grind[tH,yU,uU]
 ·grind[tH,uU]
 ·rw[jS,J _ _ (by decide)];exact h.gQ
 ·rw[g8,J _ _ (by decide)];exact h.low
 ·obtain⟨s1,s2,s3⟩:=h.slot i c hc
  have e1:cZ (tH b x y) i=cZ b i:=J _ _ (by omega)
  have e2:h_ (tH b x y) i=h_ b i:=J _ _ (by omega)
  have eR:=h.fits
  grind[mQ]
def xJ (b:List Nat)(i f z:Nat): List Nat:=bx (bx b (26+4*i) (le 2 f)) (26+4*i+2) (le 2 z)
section
variable {f:Nat}
theorem Jv (I:b.length=512)(hi:30+4*i≤512): (xJ b i f z).length=512:=by
 grind[cF,xJ,cQ]
theorem Jw (I:b.length=512)(hi:30+4*i≤512)(J:j<26+4*i∨30+4*i≤j): (xJ b i f z)[j]?=b[j]?:=by
 grind[cF,xJ,jL,cQ]
theorem NM (I:b.length=512)(hi:30+4*i≤512)(J:f<65536)(hz:z<65536): cZ (xJ b i f z) i=f∧h_ (xJ b i f z) i=z:=by
 grind[cF,cQ,cZ,xJ,yU,uU,h_]
end
def vG (b:List Nat)(n lo:Nat)(c:List Nat): List Nat:=xJ (bx (bx (bx b 14 (le 2 (n+1))) lo c) 16 (le 2 lo)) n lo c.length
theorem dx.ins (h:dx b k link extra cs)(hf:26+4*(cs.length+1)+(tot cs+c.length)≤512)(tf:lo+(tot cs+c.length)=512): dx (vG b cs.length lo c) k link extra (cs++[c]):=by
 have hlen:=h.len
 have hle:∀n,(le 2 n).length=2:=fun n=>cF 2 n
 have l1:(bx b 14 (le 2 (cs.length+1))).length=512:=by grind[cQ]
 have l2:(bx (bx b 14 (le 2 (cs.length+1))) lo c).length=512:=by rw[cQ (by omega),l1]
 have l3:(bx (bx (bx b 14 (le 2 (cs.length+1))) lo c) 16 (le 2 lo)).length=512:=by grind[cQ]
 have l4:(vG b cs.length lo c).length=512:=Jv l3 (by omega)
 have o3:∀i,i<16∨18≤i→(bx (bx (bx b 14 (le 2 (cs.length+1))) lo c) 16 (le 2 lo))[i]?=(bx (bx b 14 (le 2 (cs.length+1))) lo c)[i]?:=fun i hi=>jL (by grind) (by grind)
 have o4:∀i,i<26+4*cs.length∨30+4*cs.length≤i→(vG b cs.length lo c)[i]?=(bx (bx (bx b 14 (le 2 (cs.length+1))) lo c) 16 (le 2 lo))[i]?:=fun i hi=>Jw l3 (by omega) hi
 -- what is neither count, low, the slot nor the cell
 have I:∀i,(i<14∨18≤i)→(i<26+4*cs.length∨30+4*cs.length≤i)→(i<lo∨lo+c.length≤i)→(vG b cs.length lo c)[i]?=b[i]?:=fun i h1 h2 h3=>by
  grind[jL]
 have xB:∀a z,(a+z≤14∨18≤a)→a+z≤26+4*cs.length→cU (vG b cs.length lo c) a z=cU b a z:=fun a z h1 h2=>nc fun i h3 h4=>I i (by omega) (by omega) (by omega)
 have jY:cZ (vG b cs.length lo c) cs.length=lo∧h_ (vG b cs.length lo c) cs.length=c.length:=NM l3 (by omega) (by omega) (by omega)
 have VX:tot (cs++[c])=tot cs+c.length:=by rw[De];simp[tot]
 refine⟨l4,?_,?_,?_,?_,?_,?_,by grind,fun i x J => ?_⟩
 ·rw[nT (I 13 (by omega) (by omega) (by omega))];exact h.NL
 ·rw[nT (I 12 (by omega) (by omega) (by omega))];exact h.kind
 ·rw[xB _ _ (by omega) (by omega)];exact h.link
 ·rw[xB _ _ (by omega) (by omega)];exact h.extra
 ·have e:cU (vG b cs.length lo c) 14 2=cU (bx b 14 (le 2 (cs.length+1))) 14 2:=nc fun i h1 h2=>by
   grind[jL]
  grind[jS,uU]
 ·have e:cU (vG b cs.length lo c) 16 2=cU (bx (bx (bx b 14 (le 2 (cs.length+1))) lo c) 16 (le 2 lo)) 16 2:=nc fun i h1 h2=>o4 i (by omega)
  grind[g8,uU]
 ·by_cases hi:i<cs.length
  ·rw[xU hi] at J
   obtain⟨s1,s2,s3⟩:=h.slot i x J<;>grind[cZ,h_,mQ]
  ·have kE:i=cs.length:=by
    grind
   subst kE
   rw[tN (aS _),yg] at J
   have J:c=x:=cx J
   subst J
   rw[jY.1,jY.2,fS (by simp),VX]
   exact⟨tf,rfl,fun j hj=>by grind[xI]⟩
def vH (b:List Nat)(i f:Nat)(c:List Nat): List Nat:=xJ (bx b f c) i f c.length
theorem dx.rep (h:dx b k link extra cs)(hc:cs[i]?=some c)(hl:c'.length=c.length): dx (vH b i (cZ b i) c') k link extra (cs.set i c'):=by
 obtain⟨s1,s2,s3⟩:=h.slot i c hc
 have hlen:=h.len
 have hi:=(List.getElem?_eq_some_iff.1 hc).1
 have KU:=h.low
 have eR:=h.fits
 have Ji:=mQ (cs:=cs) (i:=i+1)
 have NN:=lW hc
 have l1:(bx b (cZ b i) c').length=512:=by grind[cQ]
 have l2:(vH b i (cZ b i) c').length=512:=Jv l1 (by omega)
 have o2:∀j,j<26+4*i∨30+4*i≤j→(vH b i (cZ b i) c')[j]?=(bx b (cZ b i) c')[j]?:=fun j hj=>Jw l1 (by omega) hj
 have I:∀j,(j<26+4*i∨30+4*i≤j)→(j<cZ b i∨cZ b i+c.length≤j)→(vH b i (cZ b i) c')[j]?=b[j]?:=fun j h1 h2=>by grind[jL]
 have J:∀a z,(a+z≤26+4*i∨30+4*i≤a)→a+z≤26+4*cs.length→cU (vH b i (cZ b i) c') a z=cU b a z:=fun a z h1 h2=>nc fun j h3 h4=>I j (by omega) (by omega)
 have jY:cZ (vH b i (cZ b i) c') i=cZ b i∧h_ (vH b i (cZ b i) c') i=c'.length:=NM l1 (by omega) (by omega) (by omega)
 have sL:∀k,tot ((cs.set i c').take k)=tot (cs.take k):=TA hc hl
 have VX:tot (cs.set i c')=tot cs:=by
  have:=sL cs.length
  grind[List.length_set]
 refine⟨l2,?_,?_,?_,?_,?_,?_,by grind,fun j x hx => ?_⟩
 ·rw[nT (I 13 (by omega) (by omega))];exact h.NL
 ·rw[nT (I 12 (by omega) (by omega))];exact h.kind
 ·rw[J _ _ (by omega) (by omega)];exact h.link
 ·rw[J _ _ (by omega) (by omega)];exact h.extra
 ·rw[jS,J _ _ (by omega) (by omega),cY];exact h.gQ
 ·grind[g8]
 ·rw[sL]
  by_cases zP:i=j
  ·subst zP
   rw[jt hi] at hx
   have hx:c'=x:=cx hx
   subst hx
   rw[jY.1,jY.2]
   exact⟨s1,rfl,fun q hq=>by rw[o2 _ (by omega),xI (by omega) hq]⟩
  ·rw[oP zP] at hx
   obtain⟨r1,r2,r3⟩:=h.slot j x hx
   have hj:=(List.getElem?_eq_some_iff.1 hx).1
   have e1:cZ (vH b i (cZ b i) c') j=cZ b j:=J _ _ (by omega) (by omega)
   have e2:h_ (vH b i (cZ b i) c') j=h_ b j:=J _ _ (by omega) (by omega)
   have ht2:=lW hx
   have htj:=mQ (cs:=cs) (i:=j+1)
   rw[e1,e2]
   refine⟨r1,r2,fun q hq => ?_⟩
   rw[I _ (by omega) ?_]
   ·grind
   ·rcases Nat.lt_or_gt_of_ne zP with q1|q1
    ·have:=Gx (cs:=cs) (i:=i+1) (j:=j) (by omega);omega
    ·have:=Gx (cs:=cs) (i:=j+1) (j:=i) (by omega);omega
theorem dx.cell (h:dx b k link extra cs)(I:cs[i]?=some c): (b.drop (cZ b i)).take c.length=c:=by
 obtain⟨s1,s2,J⟩:=h.slot i c I
 apply qN
 grind
end
section
variable {v w:V} {m:List Nat}
theorem Gy {b:Nat}{cap:Cap}(rF:a≤b)(hb:b≤n): ∃off I,slR (.sl id 0 n cap) a b=.sl id off (b-a) I∧off≤n:=by
 cases cap with
 |exact c =>
  simp only[slR]
  by_cases J:c=a
  ·rw[qi J,ai];exact⟨0,_,rfl,eX _⟩
  ·rw[eO J,aK];exact⟨0+a*1,_,rfl,by omega⟩
 |rest e alt=>exact⟨0+a*1,_,rfl,by omega⟩
theorem Jx {cs:List V}(I:T.get h.tr id=some (.cells n cs false))(ho:off≤n)(hl:cs.length=n): wrN h id off []=some (h.put id (some (.cells n cs false))):=by
 simp only[wrN,I,cD]
 rw[aG.2 (by omega),ai]
 congr 3
 cases J:(Nat.beq off 0&&Nat.beq 0 n) with
 |true =>
  simp only[bC,beq_iff] at J
  rw[ai]
  rw[oM (by omega:cs.length=0)]
 |false=>rw[aK,d_,nq,List.take_append_drop]
theorem NO (s:Sat h (aW v l::X::S))(hX:cq X (cz w m)){b:Nat}(rF:a≤b)(hb:b≤l.length)(hl:1≤l.length):
  ∃h',copyV Tryz.prog h 23 (slR v a b) w=some (.int .i64 (min m.length (b-a):Nat),h')∧Sat h' (aW v (bx l a (m.take (b-a)))::X::S):=by
 by_cases h1:a<b∧1≤m.length
 ·exact FH s hX h1.1 hb h1.2
 ·have hm:min m.length (b-a)=0:=by omega
  have ht:m.take (b-a)=[]:=oM (by rw[j6];omega)
  have Gz:bx l a (m.take (b-a))=l:=by rw[ht,bx];simp
  have hw:=(s.aD (k:=1) rfl hX).2
  have hv:=(s.buf (k:=0) rfl).view
  obtain⟨id,c,cap,rest,rfl,s1,hc,hf⟩:=s.eZ hl
  obtain⟨off,J5,e1,e2⟩:=Gy (id:=id) (cap:=cap) rF hb
  rw[e1,Gz,hm]
  have hg:=s1.row (k:=0) rfl
  have FJ:=Jx (off:=off) hg (by omega) (by rw[bP,c_];exact hc)
  have J:Sat (h.put id (some (.cells c (ofBytes l++rest) false))) (aW (.sl id 0 l.length cap) l::X::S):=hf _ _ rfl hv.1 (s1.put (k:=0) rfl)
  rcases hw with⟨rfl|⟨x,rfl⟩,_⟩|⟨zU,I,KJ,n2,Vt,RV,rfl,FI,q1,q2,q3,q4⟩
  ·exact⟨h,by simp only[copyV,aM,dY];rfl,s⟩
  ·exact⟨h,by simp only[copyV,aM,dY];rfl,s⟩
  ·refine⟨_,?_,J⟩
   have hr:rdN h zU I 0=some []:=by
    simp only[rdN,FI,nq]
    rw[aG.2 (by omega),ai]
    cases hq:(Nat.beq I 0&&Nat.beq 0 n2) with
    |true =>
     simp only[bC,beq_iff] at hq
     rw[ai,oM (by omega:Vt.length=0)]
    |false=>rw[aK,qP]
   simp only[copyV,aM,dY]
   rw[show Nat.min m.length (b-a)=0 from hm,uc,hr]
   simp only
   rw[FJ]
theorem NP (s:Sat h (aW v l::S)){b:Nat}(ha:a≤l.length)(hb:b≤l.length)(hl:1≤l.length):
  ∃h',copyV Tryz.prog h 23 (slR v a a) (slR v b b)=some (.int .i64 0,h')∧Sat h' (aW v l::S):=by
 have hv:=(s.buf (k:=0) rfl).view
 obtain⟨id,c,cap,rest,rfl,s1,hc,hf⟩:=s.eZ hl
 obtain⟨off,J5,e1,e2⟩:=Gy (id:=id) (cap:=cap) (aS _) ha
 obtain⟨I,KJ,e3,e4⟩:=Gy (id:=id) (cap:=cap) (aS _) hb
 rw[e1,e3]
 have hg:=s1.row (k:=0) rfl
 have hle:(ofBytes l++rest).length=c:=by rw[bP,c_];exact hc
 have J:=Jx (off:=off) hg (by omega) hle
 refine⟨_,?_,hf _ _ rfl hv.1 (s1.put (k:=0) rfl)⟩
 have hr:rdN h id I 0=some []:=by
  simp only[rdN,hg,nq]
  rw[aG.2 (by omega),ai]
  cases hq:(Nat.beq I 0&&Nat.beq 0 c) with
  |true =>
   simp only[bC,beq_iff] at hq
   rw[ai,oM (by omega:(ofBytes l++rest).length=0)]
  |false=>rw[aK,qP]
 simp only[copyV,aM,dY,yg]
 rw[show Nat.min 0 0=0 from rfl,uc,hr]
 simp only
 rw[J]
 rfl
end
section
variable {o:Oper} {v:V} {m:List Nat}
theorem OpR.R9 {b:Nat}(hP:C.P=Tryz.prog)(s:Sat h (aW v l::X::S))(hX:cq X (cz u m))(I:o.op=.call cl)(hc:cl.callee=.builtin .copy)(J:cl.argTypes = #[23,23])(ha:lookArgs E cl.args.toList=some [slR v a b,u])
 (rF:a≤b)(hb:b≤l.length)(hl:1≤l.length): OpR C E h o fun _ h₁=>Sat h₁ (aW v (bx l a (m.take (b-a)))::X::S):=by
 obtain⟨h₁,e1,e2⟩:=NO s hX rF hb hl
 refine OpR.builtin I hc ha ⟨.int .i64 (min m.length (b-a):Nat),h₁,?_,e2⟩
 simp only[builtinV,hP,J,e1]
theorem OpR.X3 {b:Nat}(hP:C.P=Tryz.prog)(s:Sat h (aW v l::S))(I:o.op=.call cl)(hc:cl.callee=.builtin .copy)(J:cl.argTypes = #[23,23])(hx:lookArgs E cl.args.toList=some [slR v a a,slR v b b])
 (ha:a≤l.length)(hb:b≤l.length)(hl:1≤l.length): OpR C E h o fun _ h₁=>Sat h₁ (aW v l::S):=by
 obtain⟨h₁,e1,e2⟩:=NP s ha hb hl
 refine OpR.builtin I hc hx ⟨.int .i64 0,h₁,?_,e2⟩
 simp only[builtinV,hP,J,e1]
end
section
variable {told:cE} {v:V} {kd:Nat}
theorem BV (I:W told){f:Nat}(s:Sat h (aW v b::S))(hl:b.length=512)(hi:30+4*i≤512)(hf:f<65536)(hz:z<65536):
  Call ⟨Tryz.prog,told⟩ 194 [.agg [v],.int .i64 (i:Int),.int .i64 (f:Int),.int .i64 (z:Int)] h fun r h'=>r=.aI []∧Sat h' (aW v (xJ b i f z)::S):=by
 have hle:∀n,(le 2 n).length=2:=fun n=>cF 2 n
 have l1:(bx b (26+4*i) (le 2 f)).length=512:=by rw[cQ (by rw[hle];omega),hl]
 obtain⟨kD,_,cap,_,rfl,_⟩:=s.eZ (by omega)
 have J:(26:Int)+4*(i:Int)=((26+4*i:Nat):Int):=by omega
 have e2:(26:Int)+4*(i:Int)+2=((26+4*i+2:Nat):Int):=by omega
 refine Call.of_wp (I.free _ rfl) Tryz.func194 rfl rfl (zg rfl ?_)
 refine aq.bG s rfl rfl rfl (dc rfl rfl) (fun p4 h s => ?_)
 refine zk 4 rfl (zb rfl (by exact ik (ax (by omega) (by omega))) ?_)
 refine zb rfl (by exact aR (ax (by omega) (by omega))) ?_
 refine zk 4 rfl (zl rfl (s.cy (k:=0) rfl bV bB) (zk 2 rfl (zo rfl (bJ rfl (by exact gC bz bN (eV (by omega) (by omega)))) ?_)))
 rw[J]
 refine zc rfl (ox (a:=26+4*i) (z:=2) (n:=f) I (s.ae [1]) (by decide) (by decide) (by omega) (by omega)) ?_
 rintro r h ⟨rfl,s⟩
 have s:=s.ae [1,0]
 refine zk 2 rfl (zl rfl (s.cy (k:=0) rfl bV bB) (zm rfl (zo rfl (ak (r:=.int .i64 ((26+4*i+2:Nat):Int)) rfl rfl (by rw[←e2,←J];exact aR (ax (by omega) (by omega)))) ?_)))
 refine zm rfl (zo rfl (bJ rfl (by exact gC bz bN (eV (by omega) (by omega)))) ?_)
 refine zc rfl (ox (a:=26+4*i+2) (z:=2) (n:=z) I (s.ae [1]) (by decide) (by decide) (by omega) (by omega)) ?_
 rintro r h ⟨rfl,s⟩
 exact zv ⟨aa,_,rfl,rfl,s.del 1⟩
theorem Df (hT:W told)(s:Sat h S)(hk:getA S k=some X)(hX:cq X (cz v b))(J:dx b kd link extra cs)(hc:cs[i]?=some c):
  Call ⟨Tryz.prog,told⟩ 202 [.agg [v],.int .i64 (i:Int)] h fun r h'=>∃f,r=slR3 v f (f+c.length) (f+c.length)∧cq X (cz r c)∧Sat h' S:=by
 have hv:=s.aD hk hX
 have hl:=J.len
 have hi:=(List.getElem?_eq_some_iff.1 hc).1
 have eR:=J.fits
 have KU:=J.low
 obtain⟨s1,s2,s3⟩:=J.slot i c hc
 have Ji:=mQ (cs:=cs) (i:=i+1)
 have NN:=lW hc
 have I:=J.cell hc
 generalize hf:cZ b i=f at s1 s3 I
 obtain⟨pi,po,pc,rfl⟩:=gL hv (by omega)
 refine Call.of_wp (hT.free _ rfl) Tryz.func202 rfl rfl (zg rfl ?_)
 refine aq.bG s rfl rfl rfl (dc rfl rfl) (fun p2 h s => ?_)
 refine zk 4 rfl (zl rfl (s.cy (k:=0) rfl bV bB) (zm rfl (zc rfl (yR hT s (k8 hk) hX hl (by omega)) ?_)))
 rintro r h' ⟨rfl,s⟩
 rw[hf,s2]
 refine zk 8 rfl (zY s 0 fV bX rfl (zk 3 rfl (zb rfl (by exact aR (ax (by omega) (by omega))) ?_)))
 refine zk 2 rfl (zb rfl (by exact aR (ax (by omega) (by omega))) ?_)
 have e1:(f:Int)+(c.length:Int)=((f+c.length:Nat):Int):=by omega
 have jY:=zV (s.aD (k8 hk) hX) (a:=f) (b:=f+c.length) (c:=f+c.length) (by omega) (aS _) (by omega) (by omega)
 rw[e1]
 refine zo rfl (cf (p:=some (.int .i64 (f:Int))) (q:=some (.int .i64 ((f+c.length:Nat):Int))) (m:=some (.int .i64 ((f+c.length:Nat):Int))) (p':=some f) (q':=some (f+c.length)) (m':=some (f+c.length)) rfl rfl rfl rfl (by rw[cn (by omega)];rfl) (by rw[cn (by omega)];rfl) (by rw[cn (by omega)];rfl) jY) ?_
 refine zk 2 rfl (WP.ret ⟨aa,_,rfl,?_⟩)
 refine⟨f,rfl,?_,s.drop⟩
 have:=DU hX (a:=f) (b:=f+c.length) (c:=f+c.length) (by omega) (aS _) (by omega) (by omega)
 rw[qO,show f+c.length-f=c.length by omega,I] at this
 exact this
theorem TB (J:W told)(s:Sat h S)(hk:getA S k=some X)(hX:cq X (cz v b))(I:dx b kd link extra cs):
  Call ⟨Tryz.prog,told⟩ 196 [.agg [v]] h fun r h'=>r=.int .i64 (486-(4*(cs.length:Int)+(tot cs:Int)))∧Sat h' S:=by
 have hv:=s.aD hk hX
 have hl:=I.len
 have eR:=I.fits
 have KU:=I.low
 obtain⟨pi,po,pc,rfl⟩:=gL hv (by omega)
 refine Call.of_wp (J.free _ rfl) Tryz.func196 rfl rfl (zg rfl ?_)
 refine aq.bG s rfl rfl rfl (dc rfl rfl) (fun p1 h s => ?_)
 refine zk 3 rfl ?_
 have s0:=s
 refine WP.drawn [none,none,some (1,2),some (0,2),af,af,af,af] rfl (by kernel_rfl) (by kernel_rfl) ?_
 refine zL rfl (s.cy (k:=0) rfl bV bB) (az.any rfl rfl rfl rfl (OpR.call rfl rfl rfl rfl (F5 J s (k8 hk) hX hl)) ?_)
 rintro r h' ⟨rfl,s⟩
 have s1:=s
 refine zO rfl (ak rfl rfl (by exact jP (ax (by omega) (by omega)))) ?_
 refine zL rfl (s.cy (k:=0) rfl bV bB) (az.any rfl rfl rfl rfl (OpR.call rfl rfl rfl rfl (jT J s (k8 hk) hX hl)) ?_)
 rintro r h' ⟨rfl,s⟩
 rw[I.gQ]
 refine zO rfl (ak rfl rfl (by exact ik (ax (by omega) (by omega)))) ?_
 refine zO rfl (ak rfl rfl (by exact jP (ax (by omega) (by omega)))) ?_
 refine zA rfl ?_
 refine az.nil ⟨⟨aa,aa,fun _ _=>.inr ⟨rfl,⟨_,ak rfl rfl (by exact jP (ax (by omega) (by omega)))⟩,aN _ rfl⟩,dW (.inr ⟨rfl,⟨_,aP rfl (s0.cy (k:=0) rfl bV bB)⟩,aN _ rfl⟩) (.inr ⟨rfl,⟨_,aP rfl (s1.cy (k:=0) rfl bV bB)⟩,aN _ rfl⟩),aa,aa,aa,aa,aa⟩,?_⟩
 refine WP.ret ⟨aa,_,rfl,?_⟩
 exact⟨iA (V.int .i64) (by omega),s.drop⟩
noncomputable def pfL : Code:=c6 [1,1,0,1,0,0] ((Tryz.f195.body).getD .skip)
theorem Lc (hT:W told){p1:Nat}(hX:cq X (cz x b))(DI:x.cells=[x])(J:dx b kd link extra cs): ∀(m i:Nat) (h:H) (E:List (Nat×V)) (Q:Ex→List (Nat×V)→H→Prop),i+m=cs.length →
  Sat h (pt p1 (.cells 1 [x] false)::X::S)→Has E [(1,.ptr p1 0),(3,.int .i64 (486-(4*(cs.length:Int)+(tot (cs.take i):Int)))),(12,.int .i64 (cs.length:Int)),(13,.int .i64 (i:Int))] →
  (∀E' h',Has E' [(3,.int .i64 (486-(4*(cs.length:Int)+(tot cs:Int))))]→Sat h' (pt p1 (.cells 1 [x] false)::X::S)→Q (.exit 0) E' h')→WP ⟨Tryz.prog,told⟩ 27 (.loop pfL) E h Q:=by
 have hl:=J.len
 have eR:=J.fits
 intro m
 induction m with
 |zero =>
  intro i h E Q hi s hE hq
  refine WP.loop (WP.has hE (zg rfl (zC rfl aJ (by simp<;>omega) ?_)))
  refine zk 3 rfl (WP.exit ?_)
  refine hq _ _ ⟨?_,aa⟩ s
  rw[show cs.take i=cs from fS (by omega)]
  rfl
 |succ m ih =>
  intro i h E Q hi s hE hq
  have I:cs[i]?=some (cs[i]'(by omega)):=bp _
  generalize (cs[i]'(by omega))=c at I
  obtain⟨s1,s2,s3⟩:=J.slot i c I
  have Ji:=mQ (cs:=cs) (i:=i+1)
  have NN:=lW I
  refine WP.loop (WP.has hE (zg rfl (zB rfl aJ (by simp<;>omega) ?_)))
  refine zk 5 rfl (WP.block (zK 7 rfl (zl rfl (s.cy (k:=0) rfl bV bB) (zm rfl (zc rfl (yR hT (i:=i) s (k:=1) rfl hX hl (by omega)) ?_)))))
  rintro r h' ⟨rfl,s⟩
  rw[s2]
  refine zk 9 rfl (zb rfl (by exact jP (ax (by omega) (by omega))) ?_)
  refine za rfl (zv (zr rfl (zb rfl (by exact aR (ax (by omega) (by omega))) ?_)))
  refine zm rfl (zv ?_)
  refine ih (i+1) _ _ Q (by omega) s ⟨rfl,?_,rfl,rfl,aa⟩ hq
  exact iA (fun z=>some (V.int .i64 z)) (by omega)
theorem Qy (J:W told)(s:Sat h (X::S))(hX:cq X (cz v b))(I:dx b kd link extra cs):
  Call ⟨Tryz.prog,told⟩ 195 [.agg [v]] h fun r h'=>r=.int .i64 (486-(4*(cs.length:Int)+(tot cs:Int)))∧Sat h' (X::S):=by
 have hv:=s.aD (k:=0) rfl hX
 have hl:=I.len
 have eR:=I.fits
 obtain⟨pi,po,pc,rfl⟩:=gL hv (by omega)
 refine Call.of_wp (J.free _ rfl) Tryz.func195 rfl rfl (zg rfl ?_)
 refine aq.bG s rfl rfl rfl (dc rfl rfl) (fun p1 h s => ?_)
 refine zk 4 rfl (zl rfl (s.cy (k:=0) rfl bV bB) (zc rfl (jT J s (k:=1) rfl hX hl) ?_))
 rintro r h' ⟨rfl,s⟩
 rw[I.gQ]
 refine zb rfl (by exact ik (ax (by omega) (by omega))) ?_
 refine zb rfl (by exact jP (ax (by omega) (by omega))) ?_
 refine zk 5 rfl (zl rfl (s.cy (k:=0) rfl bV bB) (zc rfl (jT J s (k:=1) rfl hX hl) ?_))
 rintro r h' ⟨rfl,s⟩
 rw[I.gQ]
 refine zk 2 rfl (WP.block ?_)
 refine Lc J hX rfl I cs.length 0 _ _ _ (by omega) s ⟨rfl,?_,rfl,rfl,aa⟩ (fun E' h' hE s' => ?_)
 ·exact iA (fun z=>some (V.int .i64 z)) (by have:tot (cs.take 0)=0:=rfl;omega)
 have s:=s'
 exact WP.has hE (zK 5 rfl (WP.ret ⟨aa,_,rfl,rfl,s.del 0⟩))
theorem Qz (I:W told)(s:Sat h (aW v b::X::S))(J:cq X (cz x c))(hl:b.length=512)(hi:30+4*i≤512)(tf:g8 b=lo+c.length)(abJ:lo+c.length≤512):
  Call ⟨Tryz.prog,told⟩ 198 [.agg [v],.int .i64 (i:Int),x] h fun r h'=>r=.aI []∧Sat h' (aW v (xJ (bx (bx b lo c) 16 (le 2 lo)) i lo c.length)::X::S):=by
 have hle:∀n,(le 2 n).length=2:=fun n=>cF 2 n
 have l1:(bx b lo c).length=512:=by rw[cQ (by omega),hl]
 have l2:(bx (bx b lo c) 16 (le 2 lo)).length=512:=by rw[cQ (by rw[hle];omega),l1]
 obtain⟨kD,_,cap,_,rfl,_⟩:=s.eZ (by omega)
 have hxv:=s.aD (k:=1) rfl J
 have hx:=hxv.cells
 refine Call.of_wp (I.free _ rfl) Tryz.func198 rfl rfl (zg rfl ?_)
 refine aq.bG s rfl rfl rfl (dc rfl rfl) (fun p3 h s => ?_)
 refine zk 3 rfl (zl rfl (s.cy (k:=0) rfl bV bB) (zc rfl (F5 I s (k:=1) rfl (aU _ _) hl) ?_))
 rintro r h' ⟨rfl,s⟩
 rw[tf]
 refine zm rfl (zo rfl (aQ rfl rfl rfl (bh aM (s.aD (k:=2) rfl J))) (zo rfl (ak (r:=.int .i64 (lo:Int)) rfl rfl (by rw[show((lo:Nat):Int)=((lo+c.length:Nat):Int)-(c.length:Int) by omega];exact jP (ax (by omega) (by omega)))) ?_))
 refine zk 4 rfl (zY s 0 fV bX rfl (zm rfl ?_))
 have jY:=gE (s.aD (k:=1) rfl (aU _ _)) (a:=lo) (by omega)
 refine zo rfl (cf (p:=some (.int .i64 (lo:Int))) (q:=none) (m:=none) (p':=some lo) (q':=none) (m':=none) rfl rfl rfl rfl (by rw[cn (by omega)];rfl) rfl rfl jY.1) ?_
 refine zm rfl (aq.any rfl rfl rfl (OpR.R9 rfl (s.ae [1,1]) J rfl rfl rfl rfl (by omega) (aS _) (by omega)) ?_)
 intro r h s
 rw[fS (by omega)] at s
 have s:=s.ae [2,0,0]
 refine zk 3 rfl (zl rfl (s.cy (k:=0) rfl bV bB) (zm rfl (zo rfl (bJ rfl (by exact gC bz bN (eV (by omega) (by omega)))) ?_)))
 refine zc rfl (ox (a:=16) (z:=2) (n:=lo) I (s.ae [1]) (by decide) (by decide) (by omega) (by omega)) ?_
 rintro r h ⟨rfl,s⟩
 have s:=s.ae [1,0,0]
 refine zk 2 rfl (zl rfl (s.cy (k:=0) rfl bV bB) (zk 3 rfl (zo rfl (aQ rfl rfl rfl (bh aM (s.aD (k:=2) rfl J))) (zc rfl (BV (i:=i) (f:=lo) (z:=c.length) I (s.ae [1]) l2 hi (by omega) (by omega)) ?_))))
 rintro r h ⟨rfl,s⟩
 exact zv ⟨aa,_,rfl,rfl,s.del 1⟩
end
section
variable {told:cE} {v:V} {kd:Nat}
theorem D_ (J:W told)(s:Sat h S)(Y8:kd≤255):
  Call ⟨Tryz.prog,told⟩ 39 [.int .i64 (kd:Int)] h fun r h'=>∃u,r=.aI [u,.int .i64 0]∧Sat h' (aW u (tG kd)::S):=by
 refine Call.of_wp (J.free _ rfl) Tryz.func39 rfl rfl (zK 9 rfl (zC rfl aJ (by simp) ?_))
 refine zk 2 rfl (zC rfl fI (by simp;omega) ?_)
 refine zk 6 rfl (aq.any rfl rfl rfl (OpR.Bx rfl s rfl rfl rfl rfl (by decide)) ?_)
 intro u h s
 have hl:(List.replicate 512 0).length=512:=gi
 have hn:tG kd=bx ((List.replicate 512 0).set 12 kd) 16 (le 2 512):=rfl
 generalize List.replicate 512 0=l at hl hn s
 obtain⟨kD,_,cap,_,rfl,_⟩:=s.eZ (by omega)
 refine zo rfl (b_ rfl (by rw[yH];rfl)) ?_
 refine aq.bG s rfl rfl rfl (bM iT) (fun p4 h s => ?_)
 refine zS rfl (s.fh (j:=0) rfl bB rfl rfl) (fun h s => ?_)
 refine zk 3 rfl (zY s 0 fV bX rfl (zm rfl (zo rfl (bJ rfl (by exact gC bz Tryz.underlying5 (uD (by omega) (by omega)))) ?_)))
 have s:=s.ae [1,0]
 obtain⟨zU,I,e3,h2,e4,s2⟩:=mM s (i:=12) (b:=kd) (by omega) (by omega)
 have gA:(l.set 12 kd).length=512:=by rw[cY,hl]
 refine zo rfl (cu (r:=.ptr zU I) rfl rfl e3) (zS rfl (⟨h2,e4,s2⟩) ?_)
 rintro h s
 have s:=s.ae [1,0]
 refine zk 3 rfl (zl rfl (s.cy (k:=0) rfl bV bB) (zc rfl (ox (a:=16) (z:=2) (n:=512) J (s.ae [1]) (by decide) (by decide) (by omega) (by omega)) ?_))
 rintro r h ⟨rfl,s⟩
 have s:=s.ae [1,0]
 refine zk 3 rfl (zY s 0 fV bX rfl (zk 3 rfl (WP.ret ⟨aa,_,rfl,?_⟩)))
 refine⟨_,rfl,?_⟩
 rw[hn]
 exact s.drop
theorem GB (J:W told)(s:Sat h S)(I:kd≤255):
  Call ⟨Tryz.prog,told⟩ 39 [.int .i64 (kd:Int)] h fun r h'=>∃u b,r=.aI [u,.int .i64 0]∧dx b kd 0 0 []∧Sat h' (aW u b::S) :=
 (D_ J s I).mono fun r h' ⟨u,e,s⟩=>⟨u,_,e,dx.new (k:=kd),s⟩
theorem Jy (I:W told){ex:Nat}(s:Sat h (X::S))(hX:cq X (cz v b))(J:dx b kd link extra cs)(Jz:lk<4294967296)(hex:ex<4294967296):
  Call ⟨Tryz.prog,told⟩ 151 [v,.int .i64 (lk:Int),.int .i64 (ex:Int)] h fun r h'=>∃u b',r=.aI [u,.int .i64 0]∧dx b' kd lk ex cs∧Sat h' (aW u b'::X::S):=by
 have hl:=J.len
 have hle:∀n,(le 4 n).length=4:=fun n=>cF 4 n
 have l1:(bx b 18 (le 4 lk)).length=512:=by rw[cQ (by rw[hle];omega),hl]
 refine Call.of_wp (I.free _ rfl) Tryz.func151 rfl rfl (zK 8 rfl (zc rfl (sV I s hX (by omega)) ?_))
 rintro r h' (⟨hg,u,rfl,s⟩|⟨hg,rfl,s⟩)
 ·obtain⟨kD,_,cap,_,rfl,_⟩:=s.eZ (by omega)
  refine zk 3 rfl ?_
  refine aq.bG s rfl rfl rfl (bM iT) (fun p8 h s => ?_)
  dsimp only[V.cells,List.length_cons,List.length_nil,Nat.reduceAdd] at s
  refine zS rfl (s.fh (j:=0) rfl bB rfl rfl) (fun h s => ?_)
  dsimp only[setA] at s
  refine zk 3 rfl (WP.block (zK 3 rfl (zC rfl aA (rfl) (zk 6 rfl (zC rfl aJ (by simp) ?_)))))
  refine zk 2 rfl (zC rfl fI (by simp;omega) ?_)
  refine zk 3 rfl (zC rfl aJ (by simp) ?_)
  refine zk 3 rfl (zC rfl fI (by simp;omega) ?_)
  refine zk 2 rfl (zv (zj rfl (WP.skip (zg rfl (zl rfl (by exact s.cy (k:=0) rfl bV bB) ?_)))))
  refine zm rfl (zo rfl (bJ rfl (by exact gC bz bN (eV (by omega) (by omega)))) ?_)
  refine zc rfl (ox (a:=18) (z:=4) (n:=lk) I (s.ae [1]) (by decide) (by decide) (by omega) (by omega)) ?_
  rintro r h' ⟨rfl,s⟩
  have s:=s.ae [1,0]
  refine zk 3 rfl (zl rfl (s.cy (k:=0) rfl bV bB) (zm rfl (zo rfl (bJ rfl (by exact gC bz bN (eV (by omega) (by omega)))) ?_)))
  refine zc rfl (ox (a:=22) (z:=4) (n:=ex) I (s.ae [1]) (by decide) (by decide) (by omega) (by omega)) ?_
  rintro r h' ⟨rfl,s⟩
  have s:=s.ae [1,0]
  exact zk 3 rfl (zY s 0 fV bX rfl (zk 3 rfl (WP.ret ⟨aa,_,rfl,_,_,rfl,J.set Jz hex,s.drop⟩)))
 ·rw[J.good] at hg;cases hg
theorem xK (J:W told)(s:Sat h (X::S))(I:cq X (cz v l))(hl:l.length<1073741824):
  Call ⟨Tryz.prog,told⟩ 201 [v] h fun r h'=>Sat h' (aW r l::X::S):=by
 have hv:=s.aD (k:=0) rfl I
 refine Call.of_wp (J.free _ rfl) Tryz.func201 rfl rfl (zK 7 rfl (zo rfl (aQ rfl rfl rfl (bh aM (s.aD (k:=0) rfl I))) (aq.any rfl rfl rfl (OpR.rZ rfl s rfl rfl rfl rfl (by omega)) ?_)))
 intro u h s
 refine zm rfl (aq.any rfl rfl rfl (OpR.rY rfl s I rfl rfl rfl rfl (by simp;omega)) ?_)
 intro u2 h s
 rw[d_] at s
 exact zk 2 rfl (WP.ret ⟨aa,_,rfl,s⟩)
theorem GC (I:W told)(s:Sat h (X::S))(hX:cq X (cz v b))(J:dx b kd link extra cs)(hc:cs[i]?=some c):
  Call ⟨Tryz.prog,told⟩ 141 [v,.int .i64 (i:Int)] h fun r h'=>∃u,r=.aI [u,.int .i64 0]∧Sat h' (aW u c::X::S):=by
 have hl:=J.len
 have hv:=s.aD (k:=0) rfl hX
 have hi:=(List.getElem?_eq_some_iff.1 hc).1
 have eR:=J.fits
 have Ji:=mQ (cs:=cs) (i:=i+1)
 have NN:=lW hc
 obtain⟨pi,po,pc,rfl⟩:=gL hv (by omega)
 refine Call.of_wp (I.free _ rfl) Tryz.func141 rfl rfl (zK 8 rfl (zc rfl (r8 I s hX (by omega)) ?_))
 rintro r h' ⟨s,(⟨hg,rfl⟩|⟨hg,rfl⟩)⟩
 ·refine aq.op rfl rfl rfl (bf rfl) ?_
  refine zk 2 rfl ?_
  refine aq.bG s rfl rfl rfl (bM iT) (fun p6 h s => ?_)
  dsimp only[V.cells,List.length_cons,List.length_nil,Nat.reduceAdd] at s
  refine zS rfl (s.fh (j:=0) rfl bB rfl rfl) (fun h s => ?_)
  dsimp only[setA] at s
  refine zk 3 rfl (WP.block (zK 3 rfl (zC rfl aA (rfl) (zk 6 rfl (zC rfl aJ (by simp) ?_)))))
  refine zk 2 rfl (zl rfl (s.cy (k:=0) rfl bV bB) (zc rfl (jT I s (k:=1) rfl hX hl) ?_))
  rintro r h' ⟨rfl,s⟩
  rw[J.gQ]
  refine zC rfl jQ (by simp;omega) ?_
  refine zk 2 rfl (zv (zj rfl (WP.skip (zg rfl (zl rfl (by exact s.cy (k:=0) rfl bV bB) ?_)))))
  refine zm rfl (zc rfl (Df (i:=i) I s (k:=1) rfl hX J hc) ?_)
  rintro r h' ⟨f,rfl,hr,s⟩
  refine zc rfl (xK I (s.ae [1]) hr (by omega)) ?_
  intro u h s
  exact zk 3 rfl (WP.ret ⟨aa,_,rfl,_,rfl,s.del 2⟩)
 ·rw[J.good] at hg;cases hg
end
theorem QA : ∃i,Tryz.prog.info? 23=some i∧i.size=1∧i.bytes=24 :=
 ⟨_,(show Tryz.prog.info? 23=some ((Tryz.prog.info? 23).getD default) by kernel_rfl),by kernel_rfl,by kernel_rfl⟩
section
variable {told:cE} {v:V} {kd:Nat}
theorem JA (I:W told)(s:Sat h (X::Y::S))(hX:cq X (cz v b))(hY:cq Y (cz x c))(hp:dx b kd link extra cs)(hf:26+4*(cs.length+1)+(tot cs+c.length)≤512):
  Call ⟨Tryz.prog,told⟩ 152 [v,.int .i64 (cs.length:Int),x] h fun r h'=>∃u b',r=.aI [u,.int .i64 0]∧dx b' kd link extra (cs++[c])∧Sat h' (aW u b'::X::Y::S):=by
 have hl:=hp.len
 have KU:=hp.low
 have hle:∀n,(le 2 n).length=2:=fun n=>cF 2 n
 generalize hn:cs.length=n at hf
 have J:=hp.gQ
 have tf:∃lo,lo+(tot cs+c.length)=512:=⟨512-(tot cs+c.length),by omega⟩
 obtain⟨lo,tf⟩:=tf
 have l1:(bx b 14 (le 2 (n+1))).length=512:=by grind[cQ]
 have gA:g8 (bx b 14 (le 2 (n+1)))=lo+c.length:=by
  grind[g8,yU]
 refine Call.of_wp (I.free _ rfl) Tryz.func152 rfl rfl (zK 8 rfl (zc rfl (sV I s hX (by omega)) ?_))
 rintro r h' (⟨hg,u,rfl,s⟩|⟨hg,rfl,s⟩)
 ·obtain⟨kD,_,cap,_,rfl,_⟩:=s.eZ (by omega)
  refine zk 3 rfl ?_
  refine aq.bG s rfl rfl rfl (bM iT) (fun p8 h s => ?_)
  dsimp only[V.cells,List.length_cons,List.length_nil,Nat.reduceAdd] at s
  refine zS rfl (s.fh (j:=0) rfl bB rfl rfl) (fun h s => ?_)
  dsimp only[setA] at s
  refine zk 3 rfl (WP.block (zK 3 rfl (zC rfl aA (rfl) (zk 6 rfl (zC rfl aJ (by simp) ?_)))))
  refine zk 2 rfl (zl rfl (s.cy (k:=0) rfl bV bB) (zc rfl (jT I s (k:=1) rfl (aU _ _) hl) ?_))
  rintro r h' ⟨rfl,s⟩
  rw[J,hn]
  refine zC rfl fI (by simp) ?_
  refine zk 6 rfl (zl rfl (s.cy (k:=0) rfl bV bB) (zc rfl (Qy I (s.ae [1]) (aU _ _) hp) ?_))
  rintro r h' ⟨rfl,s⟩
  have s:=s.ae [1,0]
  dsimp only[aC,bringA,getA] at s
  rw[hn]
  refine zm rfl (zo rfl (aQ rfl rfl rfl (bh aM (s.aD (k:=3) rfl hY))) (zb rfl (by exact aR (ax (by omega) (by omega))) ?_))
  refine zC rfl aJ (by grind) ?_
  refine za rfl (zv (zj rfl (WP.skip (zw (zg rfl (zl rfl (by exact s.cy (k:=0) rfl bV bB) ?_))))))
  refine zc rfl (TB I s (k:=1) rfl (aU _ _) hp) ?_
  rintro r h' ⟨rfl,s⟩
  rw[hn]
  refine zm rfl (zo rfl (aQ rfl rfl rfl (bh aM (s.aD (k:=3) rfl hY))) (zb rfl (by exact aR (ax (by omega) (by omega))) ?_))
  refine zC rfl aJ (by grind) ?_
  refine zv (zj rfl (WP.skip (zg rfl (zl rfl (by exact s.cy (k:=0) rfl bV bB) ?_))))
  refine zc rfl (jT I s (k:=1) rfl (aU _ _) hl) ?_
  rintro r h' ⟨rfl,s⟩
  rw[J,hn]
  refine zk 3 rfl ?_
  have q1:((26:Int)+4*((n:Int)+1)).toNat=30+4*n:=by omega
  have q2:((26:Int)+4*(n:Int)).toNat=26+4*n:=by omega
  have s0:=s
  refine WP.drawn [af,af,af,af,af,af,af,af,af,af,af,af,af,af,af,af,af,af,af,af,af] rfl (by kernel_rfl) (by kernel_rfl) ?_
  refine zF rfl (fV _ _) (zL rfl (s.ld (k:=0) rfl bX rfl) (zM rfl (zO rfl (ak rfl rfl (by exact aR (ax (by omega) (by omega)))) ?_)))
  refine zO rfl (ak rfl rfl (by exact ik (ax (by omega) (by omega)))) ?_
  refine zO rfl (ak rfl rfl (by exact aR (ax (by omega) (by omega)))) ?_
  refine zM rfl (zO rfl (ak rfl rfl (by exact aR (ax (by omega) (by omega)))) ?_)
  refine zO rfl (ak rfl rfl (by exact ik (ax (by omega) (by omega)))) ?_
  refine zO rfl (ak rfl rfl (by exact aR (ax (by omega) (by omega)))) ?_
  refine zO rfl (cf (p:=some (.int .i64 (26+4*((n:Int)+1)))) (q:=some (.int .i64 (26+4*((n:Int)+1)))) (m:=none) (p':=some (30+4*n)) (q':=some (30+4*n)) (m':=none) rfl rfl rfl rfl (by rw[cn (by omega),q1]) (by rw[cn (by omega),q1]) rfl (cH (s.buf (k:=1) rfl).view (aS _) (by omega)).1) ?_
  refine zF rfl (fV _ _) (zL rfl (s.ld (k:=0) rfl bX rfl) (zM rfl (zO rfl (ak rfl rfl (by exact ik (ax (by omega) (by omega)))) ?_)))
  refine zO rfl (ak rfl rfl (by exact aR (ax (by omega) (by omega)))) ?_
  refine zM rfl (zO rfl (ak rfl rfl (by exact ik (ax (by omega) (by omega)))) ?_)
  refine zO rfl (ak rfl rfl (by exact aR (ax (by omega) (by omega)))) ?_
  refine zO rfl (cf (p:=some (.int .i64 (26+4*(n:Int)))) (q:=some (.int .i64 (26+4*(n:Int)))) (m:=none) (p':=some (26+4*n)) (q':=some (26+4*n)) (m':=none) rfl rfl rfl rfl (by rfl) (by rfl) rfl (cH (s.buf (k:=1) rfl).view (aS _) (by omega)).1) ?_
  refine az.any rfl rfl rfl rfl (OpR.X3 rfl (s.ae [1]) rfl rfl rfl rfl (by omega) (by omega) (by omega)) ?_
  intro r h s
  have s:=s.ae [1,0]
  refine az.nil ⟨⟨aa,aa,aa,aa,aa,aa,aa,aa,aa,aa,aa,aa,aa,aa,aa,aa,aa,aa,aa,aa,aa,aa⟩,?_⟩
  refine zg rfl (zl rfl (s.cy (k:=0) rfl bV bB) (zm rfl (zb rfl (by exact aR (ax (by omega) (by omega))) ?_)))
  refine zo rfl (bJ rfl (by exact gC bz bN (eV (by omega) (by omega)))) ?_
  have en:(n:Int)+1=((n+1:Nat):Int):=by omega
  rw[en]
  refine zc rfl (ox (a:=14) (z:=2) (n:=n+1) I (s.ae [1]) (by decide) (by decide) (by omega) (by omega)) ?_
  rintro r h ⟨rfl,s⟩
  have s:=s.ae [1,0]
  refine zk 3 rfl (zl rfl (s.cy (k:=0) rfl bV bB) (zk 2 rfl (zc rfl (Qz (i:=n) (lo:=lo) I (s.ae [1,2]) hY l1 (by omega) gA (by omega)) ?_)))
  rintro r h ⟨rfl,s⟩
  have s:=s.ae [2,0,1,0]
  refine zk 3 rfl (zY s 0 fV bX rfl (zk 3 rfl (WP.ret ⟨aa,_,rfl,?_⟩)))
  subst hn
  exact⟨_,_,rfl,hp.ins hf tf,s.drop⟩
 ·rw[hp.good] at hg;cases hg
theorem yV (hT:W told)(s:Sat h (X::Y::S))(hX:cq X (cz v b))(hY:cq Y (cz x c'))(J:dx b kd link extra cs)(hc:cs[i]?=some c)(NQ:c'.length=c.length):
  Call ⟨Tryz.prog,told⟩ 134 [v,.int .i64 (i:Int),x] h fun r h'=>∃u b',r=.aI [u,.int .i64 0]∧dx b' kd link extra (cs.set i c')∧Sat h' (aW u b'::X::Y::S):=by
 have hl:=J.len
 have eR:=J.fits
 have hi:=(List.getElem?_eq_some_iff.1 hc).1
 have NN:=lW hc
 have I:=J.rep hc NQ
 obtain⟨s1,s2,s3⟩:=J.slot i c hc
 generalize hf:cZ b i=f at s1 s3 I
 have l1:(bx b f c').length=512:=by rw[cQ (by omega),hl]
 refine Call.of_wp (hT.free _ rfl) Tryz.func134 rfl rfl (zK 8 rfl (zc rfl (sV hT s hX (by omega)) ?_))
 rintro r h' (⟨hg,u,rfl,s⟩|⟨hg,rfl,s⟩)
 ·obtain⟨kD,_,cap,_,rfl,_⟩:=s.eZ (by omega)
  refine zk 3 rfl ?_
  refine aq.bG s rfl rfl rfl (bM iT) (fun p8 h s => ?_)
  dsimp only[V.cells,List.length_cons,List.length_nil,Nat.reduceAdd] at s
  refine zS rfl (s.fh (j:=0) rfl bB rfl rfl) (fun h s => ?_)
  dsimp only[setA] at s
  refine zk 3 rfl (WP.block (zK 3 rfl (zC rfl aA (rfl) (zk 6 rfl (zC rfl aJ (by simp) ?_)))))
  refine zk 2 rfl (zl rfl (s.cy (k:=0) rfl bV bB) (zc rfl (jT hT s (k:=1) rfl (aU _ _) hl) ?_))
  rintro r h' ⟨rfl,s⟩
  rw[J.gQ]
  refine zC rfl jQ (by grind) ?_
  refine zk 2 rfl (zv (zj rfl (WP.skip (zg rfl (zl rfl (by exact s.cy (k:=0) rfl bV bB) ?_)))))
  refine zm rfl (zc rfl (yR (i:=i) hT s (k:=1) rfl (aU _ _) hl (by omega)) ?_)
  rintro r h' ⟨rfl,s⟩
  rw[hf,s2]
  refine zk 10 rfl (zo rfl (aQ rfl rfl rfl (bh aM (s.aD (k:=3) rfl hY))) (zm rfl (zB rfl CV (by grind) ?_)))
  refine zk 4 rfl (zY s 0 fV bX rfl (zm rfl ?_))
  have jY:=gE (s.aD (k:=1) rfl (aU _ _)) (a:=f) (by omega)
  refine zo rfl (cf (p:=some (.int .i64 (f:Int))) (q:=none) (m:=none) (p':=some f) (q':=none) (m':=none) rfl rfl rfl rfl (by rfl) rfl rfl jY.1) ?_
  refine zm rfl (aq.any rfl rfl rfl (OpR.R9 rfl (s.ae [1,2]) hY rfl rfl rfl rfl (by omega) (aS _) (by omega)) ?_)
  intro r h s
  rw[fS (by omega)] at s
  have s:=s.ae [2,0,1,0]
  refine zk 3 rfl (zl rfl (s.cy (k:=0) rfl bV bB) (zk 3 rfl (zo rfl (aQ rfl rfl rfl (bh aM (s.aD (k:=3) rfl hY))) (zc rfl (BV (i:=i) (f:=f) (z:=c'.length) hT (s.ae [1]) l1 (by omega) (by omega) (by omega)) ?_))))
  rintro r h ⟨rfl,s⟩
  have s:=s.ae [1,0]
  exact zk 3 rfl (zY s 0 fV bX rfl (zk 3 rfl (WP.ret ⟨aa,_,rfl,_,_,rfl,I,s.drop⟩)))
 ·rw[J.good] at hg;cases hg
theorem Ld (I:W told){c0 c1:List Nat}(s:Sat h (X::S))(hX:cq X (cz v b))(J:dx b kd link extra [c0,c1]):
  Call ⟨Tryz.prog,told⟩ 203 [v] h fun r h'=>∃w u0 u1,r=.aI [w,.int .i64 0]∧Sat h' (.arr 1 w [u0,u1]::aW u0 c0::aW u1 c1::X::S):=by
 have hl:=J.len
 have hv:=s.aD (k:=0) rfl hX
 have eR:=J.fits
 simp only[tot,bq,cD] at eR
 obtain⟨pi,po,pc,rfl⟩:=gL hv (by omega)
 obtain⟨i1,mB,kE,xm⟩:=QA
 refine Call.of_wp (I.free _ rfl) Tryz.func203 rfl rfl (zK 8 rfl (zc rfl (r8 I s hX (by omega)) ?_))
 rintro r h' ⟨s,(⟨hg,rfl⟩|⟨hg,rfl⟩)⟩
 ·refine aq.op rfl rfl rfl (bf rfl) ?_
  refine zk 2 rfl ?_
  refine aq.bG s rfl rfl rfl (bM iT) (fun p4 h s => ?_)
  dsimp only[V.cells,List.length_cons,List.length_nil,Nat.reduceAdd] at s
  refine zS rfl (s.fh (j:=0) rfl bB rfl rfl) (fun h s => ?_)
  dsimp only[setA] at s
  refine zk 6 rfl (zC rfl aA (rfl) (zk 5 rfl (zl rfl (s.cy (k:=0) rfl bV bB) (zc rfl (jT I s (k:=1) rfl hX hl) ?_))))
  rintro r h' ⟨rfl,s⟩
  rw[show jS b=2 from J.gQ]
  obtain⟨wv,h1,e3,s1⟩:=DS (P:=Tryz.prog) s gy mB qm kE (by omega) rfl (by decide) (by decide) (n:=0) (c:=2) (by decide) (by decide)
  refine aq.any rfl rfl rfl (OpR.of (R:=fun v h'=>v=wv∧h'=h1) (yy rfl rfl e3) ⟨rfl,rfl⟩) ?_
  rintro w0 h ⟨rfl,rfl⟩
  have s:Sat h (.arr 1 w0 []::_):=s1
  have s:=s.ae [1,1,0]
  dsimp only[bringA,getA,aC] at s
  refine zk 5 rfl (zl rfl (s.cy (k:=0) rfl bV bB) (zc rfl (jT I s (k:=1) rfl hX hl) ?_))
  rintro r h' ⟨rfl,s⟩
  rw[show jS b=2 from J.gQ]
  refine zk 2 rfl (WP.block (WP.loop (zg rfl (zB rfl aJ (by decide) ?_))))
  refine zk 5 rfl (WP.block (zK 7 rfl (zl rfl (s.cy (k:=0) rfl bV bB) (zm rfl (zc rfl (Df (i:=0) (c:=c0) I s (k:=1) rfl hX J rfl) ?_)))))
  rintro r h' ⟨f,rfl,hr,s⟩
  refine zc rfl (xK I (s.ae [1]) hr (by omega)) ?_
  intro u0 h s
  have hu0:=(s.buf (k:=0) rfl).view.cells
  have s:=s.ae [3]
  dsimp only[aC,bringA,getA] at s
  obtain⟨iv,h1,xC,s1⟩:=k9 (P:=Tryz.prog) (k:=1) (x:=u0) s gy qm jR rfl (by decide) (by decide) (by grind) (by grind)
  rw[hu0.1] at s1
  refine aq.any rfl rfl rfl (OpR.of (R:=fun v h'=>v=iv∧h'=h1) (ob rfl xC) ⟨rfl,rfl⟩) ?_
  rintro v' h' ⟨rfl,rfl⟩
  obtain⟨av,h2,p_,s2⟩:=iV (s1.ae [1,0]) gy mB qm kE (by omega) rfl (by decide) (by simp)
  dsimp only[List.nil_append,aC,bringA] at s2
  refine aq.any rfl rfl rfl (OpR.of (R:=fun v h'=>v=av∧h'=h2) (pJ rfl rfl p_) ⟨rfl,rfl⟩) ?_
  rintro v' h ⟨rfl,rfl⟩
  have s:=(s2.del 1).ae [3,2,0,0]
  dsimp only[aC,bringA,getA] at s
  refine za rfl (zv (zr rfl (zb rfl (by exact aR (ax (by omega) (by omega))) ?_)))
  refine zm rfl (zv (WP.loop (zg rfl (zt rfl (ak rfl rfl aJ) (by decide) ?_))))
  refine zk 5 rfl (WP.block (zK 7 rfl (zl rfl (s.cy (k:=0) rfl bV bB) (zm rfl (zc rfl (Df (i:=1) (c:=c1) I s (k:=1) rfl hX J rfl) ?_)))))
  rintro r h' ⟨f1,rfl,Bh,s⟩
  refine zc rfl (xK I (s.ae [1]) Bh (by omega)) ?_
  intro u1 h s
  have hu1:=(s.buf (k:=0) rfl).view.cells
  have s:=s.ae [3]
  dsimp only[aC,bringA,getA] at s
  obtain⟨iv1,h1,xC,s1⟩:=k9 (P:=Tryz.prog) (k:=1) (x:=u1) s gy qm jR rfl (by decide) (by decide) (by grind) (by grind)
  rw[hu1.1] at s1
  refine aq.any rfl rfl rfl (OpR.of (R:=fun v h'=>v=iv1∧h'=h1) (ob rfl xC) ⟨rfl,rfl⟩) ?_
  rintro v' h' ⟨rfl,rfl⟩
  obtain⟨av1,h2,p_,s2⟩:=iV (s1.ae [1,0]) gy mB qm kE (by omega) rfl (by decide) (by simp)
  dsimp only[List.cons_append,List.nil_append,aC,bringA] at s2
  refine aq.any rfl rfl rfl (OpR.of (R:=fun v h'=>v=av1∧h'=h2) (pJ rfl rfl p_) ⟨rfl,rfl⟩) ?_
  rintro v' h ⟨rfl,rfl⟩
  have s:=(s2.del 1).ae [3,2,0,1,0]
  dsimp only[aC,bringA,getA] at s
  refine za rfl (zv (zr rfl (zb rfl (by exact aR (ax (by omega) (by omega))) ?_)))
  refine zm rfl (zv (WP.loop (zg rfl (zh rfl (ak rfl rfl aJ) (by decide) ?_))))
  exact zk 3 rfl (WP.exit (zK 6 rfl (WP.ret ⟨aa,_,rfl,_,_,_,rfl,(s.ae [2,2,2,1]).del 4⟩)))
 ·rw[J.good] at hg;cases hg
end
def Sm (N:Nat)(ε ah:bA): Prop:=(∀m,pgA ah m=pgA ε m)∧(∀P:VP,m_ N P→vw P ε→vw P ah)∧bY ah≤bY ε
theorem Sm.refl (N:Nat)(ε:bA): Sm N ε ε:=⟨fun _=>rfl,fun _ _ h=>h,aS _⟩
theorem Sm.trans {a b c:bA}(h:Sm N a b)(g:Sm N b c): Sm N a c:=⟨fun m=>(g.1 m).trans (h.1 m),fun P I J=>g.2.1 P I (h.2.1 P I J),b9 g.2.2 h.2.2⟩
structure BW (told : cE) (N B : Nat) (rv : V) (A : bA → aE) (pg : bA → Int → List Nat) : Prop where
 iface : ∃ ty u f, rv = .iface ty u ∧ methV Tryz.prog ty "Read" = some f ∧ ∀ {h : H} {S : List aE} {ε : bA} {n : Int}, EI N B ε → 0 ≤ n → n < N → Sat h (A ε :: S) →
  Call ⟨Tryz.prog, told⟩ f [u, .int .i64 n] h fun v h' => ∃ w ah, v = .aI [w, .int .i64 0] ∧ EI N B ah ∧ Sm N ε ah ∧ Sat h' (aW w (pg ε n) :: A ah :: S)
 same : ∀ {ε ah : bA}, Sm N ε ah → ∀ m, pg ah m = pg ε m
structure JB (told : cE) (N : Nat) (lv dd : bA → Prop) (sm : bA → bA → Prop) (rv : V) (A : bA → aE) (pg : bA → Int → List Nat) : Prop where
 iface : ∃ ty u f, rv = .iface ty u ∧ methV Tryz.prog ty "Read" = some f ∧ ∀ {h : H} {S : List aE} {ε : bA} {n : Int}, lv ε → 0 ≤ n → n < N → Sat h (A ε :: S) →
  Call ⟨Tryz.prog, told⟩ f [u, .int .i64 n] h fun v h' => (∃ ah, v = .aI [.aO, .int .i64 9] ∧ dd ah ∧ Sat h' (A ah :: S)) ∨ ∃ w ah, v = .aI [w, .int .i64 0] ∧ lv ah ∧ sm ε ah ∧ Sat h' (aW w (pg ε n) :: A ah :: S)
 same : ∀ {ε ah : bA}, sm ε ah → ∀ m, pg ah m = pg ε m
 tr : ∀ {a b c : bA}, sm a b → sm b c → sm a c
abbrev Y9 : bA→Prop:=fun _=>False
theorem BW.m {told:cE}(I:BW told N B rv A pg): JB told N (EI N B) Y9 (Sm N) rv A pg:=by
 obtain⟨ty,u,f,e,hm,J⟩:=I.iface
 exact⟨⟨ty,u,f,e,hm,fun a b c s=>(J a b c s).mono fun _ _ k=>.inr k⟩,I.same,Sm.trans⟩
section
variable {v c:V} {cs:List V}
theorem Sat.xL (s:Sat h S)(J:getA S k=some (.arr 1 v cs))(hi:cs[i]?=some c)(hu:P.underlying t=some (.slice te))(I:bj P te=some 1)(e:indexAddrV P t v (.int .i64 (i:Int))=some (.ptr id off))(ha:isAggT P t'=some false): loadV P h t' (.ptr id off)=some c:=by
 grind[k_]
theorem TC {s d:TypeId}{x:Operand}{r:V}{h₁:H}(I:aT E x=some v)(J:convV P h s d v=none)(h2:convB P h s d v=some (r,h₁)): opE P E h (.convert s d x)=some (r,h₁):=by
 grind[opE,iB]
end
def eU : List Nat:=[109,117,110,105,109,101,110,116]
theorem QB : buildSliceV Tryz.prog h 23 8 [(0,.int .u8 109),(1,.int .u8 117),(2,.int .u8 110),(3,.int .u8 105),(4,.int .u8 109),(5,.int .u8 101),(6,.int .u8 110),(7,.int .u8 116)]=some (.sl h.next 0 8 (.exact 8),newRow h (ofBytes eU)):=by
 simp only[buildSliceV,aM,dY,rO,V.cells]
 rfl
theorem EU {x y:Operand}{b:Nat}(I:0<b)(hw:a<9223372036854775808): binV P h .quo t x y (.int .i64 (a:Int)) (.int .i64 (b:Int))=some (.int .i64 ((a/b:Nat):Int)):=by
 simp only[binV,ikBeq,ai,intV]
 have:intBeq (b:Int) 0=false:=by rw[mq];simp;omega
 have J:a/b≤a:=Nat.div_le_self a b
 grind[ax]
section
variable {told:cE} {v:V} {kd:Nat} {sm:bA→bA→Prop}
theorem GD (J:W told)(s:Sat h S): Call ⟨Tryz.prog,told⟩ 148 [] h fun r h'=>Sat h' (.cL r eU::S):=by
 refine Call.of_wp (J.free _ rfl) Tryz.func148 rfl rfl (zK 6 rfl (aq.any rfl rfl rfl (OpR.of (R:=fun v h'=>v=.sl h.next 0 8 (.exact 8)∧h'=newRow h (ofBytes eU)) (ob rfl QB) ⟨rfl,rfl⟩) ?_))
 rintro v I ⟨rfl,rfl⟩
 have s1:Sat (newRow h (ofBytes eU)) (pt h.next (.cells 8 (ofBytes eU) false)::S):=s.new _
 generalize newRow h (ofBytes eU)=I at s1
 generalize h.next=id at s1
 have hg:=s1.row (k:=0) rfl
 have e1:convB Tryz.prog I 23 23 (.sl id 0 8 (.exact 8))=some (.sl id 0 8 (.exact 8),I.put id (some (.cells 8 (ofBytes eU) true))):=by
  simp only[convB,aM,Tryz.underlying5,hg]
  rfl
 have e0:convV Tryz.prog I 23 23 (.sl id 0 8 (.exact 8))=none:=by
  simp only[convV,aM]
 have s2:Sat (I.put id (some (.cells 8 (ofBytes eU) true))) (pt id (.cells 8 (ofBytes eU) true)::S):=s1.put (k:=0) rfl
 have s3:Sat (I.put id (some (.cells 8 (ofBytes eU) true))) (.cL (.sl id 0 8 (.exact 8)) eU::S):=s2.freeze.gO (B:=.cL (.sl id 0 8 (.exact 8)) eU) fun m r hm=>⟨by decide,.inr ⟨id,0,.exact 8,8,_,true,rfl,hm,rfl,by decide,rfl,by decide⟩⟩
 refine aq.any rfl rfl rfl (OpR.of (R:=fun v h'=>v=.sl id 0 8 (.exact 8)∧h'=I.put id (some (.cells 8 (ofBytes eU) true))) (TC rfl e0 e1) ⟨rfl,rfl⟩) ?_
 rintro v h2 ⟨rfl,rfl⟩
 exact zk 2 rfl (WP.ret ⟨aa,_,rfl,s3⟩)
theorem NR (J:W told)(hx:View h x l)(hy:View h y c): Call ⟨Tryz.prog,told⟩ 204 [x,y] h fun r h'=>r=.bool (decide (l=c))∧h'=h:=by
 refine Call.of_wp (J.free _ rfl) Tryz.func204 rfl rfl (zK 7 rfl (zo rfl (bJ rfl (Y7 hx)) (zm rfl (zo rfl (bJ rfl (Y7 hy)) ?_))))
 by_cases I:l=c
 ·skip
  exact zB rfl RO (decide_eq_true I) (zk 2 rfl (WP.ret ⟨aa,_,rfl,by rw[ew I],rfl⟩))
 ·skip
  exact zC rfl RO (decide_eq_false I) (zk 2 rfl (WP.ret ⟨aa,_,rfl,by rw[fg I],rfl⟩))
theorem NS (I:W told)(J:1≤n)(h2:n≤3000): Call ⟨Tryz.prog,told⟩ 146 [.int .i64 (n:Int)] h fun r h'=>r=.int .i64 2∧h'=h:=by
 have e:(n+2999)/3000=1:=by omega
 refine Call.of_wp (I.free _ rfl) Tryz.func146 rfl rfl (zK 7 rfl (zb rfl (by exact aR (ax (by omega) (by omega))) ?_))
 refine zb rfl (by exact jP (ax (by omega) (by omega))) ?_
 refine zo rfl (ak (r:=.int .i64 (((n+2999)/3000:Nat):Int)) rfl rfl (by rw[show(n:Int)+3000-1=((n+2999:Nat):Int) by omega];exact EU (by decide) (by omega))) ?_
 rw[e]
 refine zb rfl (by exact aR (ax (by omega) (by omega))) ?_
 exact zk 2 rfl (WP.ret ⟨aa,_,rfl,rfl,rfl⟩)
theorem TD (hT:W told)(hR:JB told N lv dd sm rv A pg)(ku:lv ε)(hN:1≤N)(hp:dx (pg ε 0) 201 n extra [eU,R])(BX:R.length=64)(s:Sat h (A ε::S)):
  Call ⟨Tryz.prog,told⟩ 144 [rv] h fun v h'=>(∃ah,v=.aI [.aO,.int .i64 0,.bool false,.int .i64 9]∧Sat h' (A ah::S)∧dd ah)∨∃u ah,v=.aI [u,.int .i64 (n:Int),.bool true,.int .i64 0]∧lv ah∧sm ε ah∧Sat h' (aW u R::A ah::S):=by
 obtain⟨ty,u,f,rfl,hm,iY⟩:=hR.iface
 refine Call.of_wp (hT.free _ rfl) Tryz.func144 rfl rfl (zK 10 rfl (aq.any rfl rfl rfl (OpR.invoke rfl rfl rfl hm rfl (iY ku (by decide) (by omega) s)) ?_))
 rintro v h (⟨ah,rfl,hd,s⟩|⟨u,ah,rfl,D5,hs,s⟩)
 ·skip
  refine zk 10 rfl (zB rfl aA (by decide) ?_)
  exact zk 10 rfl (WP.ret ⟨aa,_,rfl,.inl ⟨ah,rfl,s,hd⟩⟩)
 refine zk 10 rfl (zC rfl aA (rfl) (zk 6 rfl (zc rfl (Ld hT s (aU _ _) hp) ?_)))
 rintro v h ⟨w,u0,u1,rfl,s⟩
 obtain⟨NT,I,g1,g2⟩:=k_ (P:=Tryz.prog) s (k:=0) (i:=0) (c:=u0) rfl rfl gy jR
 obtain⟨Y_,J,g3,g4⟩:=k_ (P:=Tryz.prog) s (k:=0) (i:=1) (c:=u1) rfl rfl gy jR
 have hbw:=(s.iU (j:=0) rfl).2.2
 have sH:=eN (s.buf (k:=1) rfl).view
 refine zk 8 rfl ?_
 have s0:=s
 refine WP.drawn [af,af,af,af,af,af,af,af,some (0,2),some (0,2),some (0,2),af,af,af,af,af,af,af,af,af,af,af] rfl (by kernel_rfl) (by kernel_rfl) ?_
 refine zM rfl (az.lG rfl rfl rfl rfl (ak rfl rfl aA) (by decide) ?_)
 refine zM rfl (zM rfl (zO rfl (aQ rfl rfl rfl (s.gF (n:=2) (j:=0) rfl rfl (by decide) gy)) ?_))
 refine az.lG rfl rfl rfl rfl (ak rfl rfl aA) (by decide) ?_
 refine zO rfl (q_ rfl rfl) (zM rfl (zM rfl (zO rfl (cu (r:=.ptr NT I) rfl rfl g1) (zL rfl (s.xL (k:=0) (i:=0) rfl rfl gy jR g1 bX) (az.any rfl rfl rfl rfl (OpR.call rfl rfl rfl rfl (GD hT s)) ?_)))))
 intro mv h s
 have s:=s.ae [1,1,1,1,1,0]
 have s1:=s
 refine az.any rfl rfl rfl rfl (OpR.call rfl rfl rfl rfl (NR hT (s.buf (k:=1) rfl).view (s.aD (k:=5) rfl (eC _ _)))) ?_
 rintro r h' ⟨rfl,rfl⟩
 rw[show decide (eU=eU)=true from ew rfl]
 refine zO rfl (dB rfl rfl) (zO rfl (q_ rfl rfl) (zM rfl (zM rfl (zO rfl (cu (r:=.ptr Y_ J) rfl rfl g3) (zL rfl (s.xL (k:=0) (i:=1) rfl rfl gy jR g3 bX) (zO rfl (aQ rfl rfl rfl (bh aM (s.aD (k:=2) rfl (aU _ _)))) ?_))))))
 rw[BX]
 refine az.lG rfl rfl rfl rfl (ak rfl rfl aA) (by decide) ?_
 refine zO rfl (q_ rfl rfl) ?_
 refine az.nil ⟨⟨aa,aa,aa,aa,aa,aa,aa,aa,fun _ _=>.inr ⟨rfl,⟨_,bf rfl⟩,hbw⟩,fun _ _=>.inr ⟨rfl,⟨_,cu (r:=.ptr NT I) rfl rfl g1⟩,aN _ rfl⟩,dW (.inr ⟨rfl,⟨_,aP rfl (s0.xL (k:=0) (i:=0) rfl rfl gy jR g1 bX)⟩,sH⟩) (.inr ⟨rfl,⟨_,aP rfl (s1.xL (k:=0) (i:=0) rfl rfl gy jR g1 bX)⟩,sH⟩),aa,aa,aa,aa,aa,aa,aa,aa,aa,aa,aa,aa⟩,?_⟩
 refine zK 5 rfl ?_
 have vX:=hp.len
 refine zc rfl (Jd hT (s.ae [3]) (aU _ _) (by omega)) ?_
 rintro v h ⟨s,(⟨hg,rfl⟩|⟨hg,rfl⟩)⟩
 ·rw[show(pg ε 0).getD 12 0=201 from hp.kind,show cU (pg ε 0) 18 4=n from hp.link]
  have s:=s.ae [1,1,1,1,0]
  refine zk 16 rfl (zC rfl aA (by decide) ?_)
  exact zk 6 rfl (zo rfl (cu (r:=.ptr Y_ J) rfl rfl g3) (zl rfl (s.xL (k:=0) (i:=1) rfl rfl gy jR g3 bX) (zk 6 rfl (WP.ret ⟨aa,_,rfl,.inr ⟨_,ah,rfl,D5,hs,(((((s.ae [2,2]).del 5).del 4).del 3).del 2)⟩⟩))))
 ·rw[hp.good] at hg;cases hg
theorem GF (hT:W told)(hR:JB told N lv dd sm rv A pg)(J:lv ε)(hN:1≤N)(hp:dx (pg ε 0) 201 n extra [eU,R])(BX:R.length=64)(s:Sat h (A ε::S)):
  Call ⟨Tryz.prog,told⟩ 200 [rv] h fun v h'=>(∃ah,v=.aI [.aO,.int .i64 0,.int .i64 9]∧Sat h' (A ah::S)∧dd ah)∨∃u ah,v=.aI [u,.int .i64 (n:Int),.int .i64 0]∧lv ah∧sm ε ah∧Sat h' (aW u R::A ah::S):=by
 refine Call.of_wp (hT.free _ rfl) Tryz.func200 rfl rfl (zK 9 rfl (zc rfl (TD hT hR J hN hp BX s) ?_))
 rintro v h (⟨ah,rfl,s,hd⟩|⟨u,ah,rfl,I,hs,s⟩)
 ·skip
  refine zk 11 rfl (WP.block (zK 3 rfl (zB rfl aA (by decide) ?_)))
  exact zk 10 rfl (WP.ret ⟨aa,_,rfl,.inl ⟨ah,rfl,s,hd⟩⟩)
 refine zk 9 rfl (zv (zw (WP.block (zg rfl (zm rfl (zh rfl (ak rfl rfl aA) (rfl) (za rfl (zv (zj rfl (zg rfl (zm rfl (zo rfl (dB rfl rfl) (za rfl (zv (zj rfl (WP.skip (zg rfl (zk 5 rfl (zv ?_)))))))))))))))))))
 refine WP.ret ⟨aa,_,rfl,?_⟩
 exact .inr ⟨u,ah,rfl,I,hs,s⟩
theorem TE (hT:W told)(hR:BW told N B rv A pg)(I:EI N B ε)(hN:1≤N)(hp:dx (pg ε 0) 201 n extra [eU,R])(J:R.length=64)(s:Sat h (A ε::S)):
  Call ⟨Tryz.prog,told⟩ 200 [rv] h fun v h'=>∃u ah,v=.aI [u,.int .i64 (n:Int),.int .i64 0]∧EI N B ah∧Sm N ε ah∧Sat h' (aW u R::A ah::S) :=
 (GF hT hR.m I hN hp J s).mono fun _ _ k=>k.resolve_left fun⟨_,_,_,q⟩=>q
theorem JC (hT:W told)(hR:JB told N lv dd sm rv A pg)(J:lv ε)(hN:2≤N)(hp:dx (pg ε 1) kd link extra [M])(hM:M.length=375)(s:Sat h (A ε::S)):
  Call ⟨Tryz.prog,told⟩ 222 [rv,.int .i64 0] h fun v h'=>(∃ah,v=.aI [.aO,.aO,.int .i64 9]∧Sat h' (A ah::S)∧dd ah)∨∃w u ah,v=.aI [w,u,.int .i64 0]∧lv ah∧sm ε ah∧Sat h' (aW u M::aW w (pg ε 1)::A ah::S):=by
 obtain⟨ty,u,f,rfl,hm,iY⟩:=hR.iface
 refine Call.of_wp (hT.free _ rfl) Tryz.func222 rfl rfl (zK 11 rfl (zb rfl (by exact aR (ax (by omega) (by omega))) ?_))
 refine aq.any rfl rfl rfl (OpR.invoke rfl rfl rfl hm rfl (iY (n:=1) J (by decide) (by omega) s)) ?_
 rintro v h (⟨ah,rfl,hd,s⟩|⟨w,ah,rfl,I,hs,s⟩)
 ·skip
  refine zk 9 rfl (zB rfl aA (by decide) ?_)
  exact zk 9 rfl (WP.ret ⟨aa,_,rfl,.inl ⟨ah,rfl,s,hd⟩⟩)
 refine zk 9 rfl (zC rfl aA (rfl) (zk 6 rfl (zc rfl (GC (i:=0) hT s (aU _ _) hp rfl) ?_)))
 rintro v h ⟨u,rfl,s⟩
 refine zk 10 rfl (zC rfl aA (rfl) (zk 2 rfl (zo rfl (aQ rfl rfl rfl (bh aM (s.aD (k:=0) rfl (aU _ _)))) ?_)))
 rw[hM]
 refine zC rfl aA (by decide) ?_
 exact zk 12 rfl (WP.ret ⟨aa,_,rfl,.inr ⟨w,u,ah,rfl,I,hs,s⟩⟩)
theorem JD (J:W told)(hR:BW told N B rv A pg)(ku:EI N B ε)(hN:1≤N)(hp:dx (pg ε 0) 201 n extra [eU,R])(BX:R.length=64){i:Int}(Za : -1≤i)(mB:i≤16)(s:Sat h (A ε::S)):
  Call ⟨Tryz.prog,told⟩ 140 [rv,.int .i64 i] h fun v h'=>∃ah,v=(if 0≤i∧i<16 then .aI [.int .i64 (cU R (4*i.toNat) 4:Nat),.int .i64 0] else .aI [.int .i64 0,.int .i64 1])∧EI N B ah∧Sm N ε ah∧Sat h' (A ah::S):=by
 refine Call.of_wp (J.free _ rfl) Tryz.func140 rfl rfl (zK 8 rfl (zc rfl (TE J hR ku hN hp BX s) ?_))
 rintro v h ⟨u,ah,rfl,I,hs,s⟩
 refine zk 9 rfl (WP.block (zK 3 rfl (zC rfl aA (rfl) (zk 6 rfl ?_))))
 by_cases h0:i<0
 ·skip
  refine zB rfl aJ (by grind) ?_
  exact zk 12 rfl (WP.ret ⟨aa,_,rfl,ah,by grind,I,hs,s.drop⟩)
 ·skip
  refine zC rfl aJ (by grind) ?_
  refine zk 2 rfl ?_
  by_cases h1:16≤i
  ·skip
   refine zB rfl jQ (by grind) ?_
   exact zk 9 rfl (WP.ret ⟨aa,_,rfl,ah,by grind,I,hs,s.drop⟩)
  ·skip
   refine zC rfl jQ (by grind) ?_
   refine zk 2 rfl (zv (zj rfl (WP.skip (zg rfl (zk 2 rfl (zb rfl (by exact ik (ax (by omega) (by omega))) ?_))))))
   refine zm rfl (zb rfl (by exact aR (ax (by omega) (by omega))) ?_)
   refine zb rfl (by exact ik (ax (by omega) (by omega))) ?_
   obtain⟨k,rfl⟩:∃k:Nat,i=k:=⟨i.toNat,by omega⟩
   have hv:=(s.buf (k:=0) rfl).view
   have q1:(4*(k:Int)).toNat=4*k:=by omega
   have q2:(4*((k:Int)+1)).toNat=4*k+4:=by omega
   refine zo rfl (cf (p:=some (.int .i64 (4*(k:Int)))) (q:=some (.int .i64 (4*((k:Int)+1)))) (m:=none) (p':=some (4*k)) (q':=some (4*k+4)) (m':=none) rfl rfl rfl rfl (by rfl) (by rfl) rfl (cH hv (by omega) (by omega)).1) ?_
   refine zc rfl (nO J s (k:=0) rfl (jh (aU _ _) (a:=4*k) (b:=4*k+4) (by omega) (by omega)) (by grind)) ?_
   rintro v h' ⟨rfl,rfl⟩
   have cA:=xn (a:=4*k) (z:=4) hv.1
   have ea:leN ((R.take (4*k+4)).drop (4*k))=cU R (4*k) 4:=rfl
   rw[ea]
   refine zo rfl (bJ rfl (by exact gC bN bz (ax (by omega) (by omega)))) ?_
   exact zk 3 rfl (WP.ret ⟨aa,_,rfl,ah,by grind,I,hs,s.drop⟩)
end
def bt (M:List Nat)(i:Nat): Bool:=(M.getD (i/8) 0).testBit (i%8)
def BY (M:List Nat)(i:Nat): List Nat:=M.set (i/8) (Nat.lor (M.getD (i/8) 0) (2^(i%8)))
def NU (M:List Nat)(i:Nat): List Nat:=M.set (i/8) (Nat.land (M.getD (i/8) 0) (255-2^(i%8)))
theorem GG {b:Nat}(hi:i<M.length): (M.set i b).getD j 0=if i=j then b else M.getD j 0:=by
 grind
theorem X4 (hi:i/8<M.length): bt (BY M i) j=if j=i then true else bt M j:=by
 unfold bt BY
 rw[GG hi]
 by_cases h:i/8=j/8
 ·rw[aF h,show Nat.lor (M.getD (i/8) 0) (2^(i%8))=(M.getD (i/8) 0) ||| (2^(i%8)) from rfl,Nat.testBit_or,Nat.testBit_two_pow,h]
  grind
 ·grind
theorem X5 (hi:i/8<M.length): bt (NU M i) j=if j=i then false else bt M j:=by
 unfold bt NU
 rw[GG hi]
 by_cases h:i/8=j/8
 ·have e:255-2^(i%8)=2^8-(2^(i%8)+1):=by omega
  have I:2^(i%8)<2^8:=tR (by decide) (by omega)
  rw[aF h,show Nat.land (M.getD (i/8) 0) (255-2^(i%8))=(M.getD (i/8) 0) &&& (255-2^(i%8)) from rfl,Nat.testBit_and,e,Nat.testBit_two_pow_sub_succ I,Nat.testBit_two_pow,h]
  grind
 ·grind
theorem JE : (BY M i).length=M.length:=cY
theorem JF : (NU M i).length=M.length:=cY
theorem NV (I:a<256)(J:k<8): Nat.lor a (2^k)<256:=Nat.or_lt_two_pow (n:=8) I (tR (by decide) J)
theorem JG {c:Nat}(I:a<256): Nat.land a c<256:=Nat.lt_of_le_of_lt Nat.and_le_left I
def lD (x:Nat): Nat:=((List.range 8).filter fun i => !x.testBit i).headD 8
theorem TF : ∀x,x<255→lD x<8∧x.testBit (lD x)=false∧∀j,j<lD x→x.testBit j=true:=by
 have:∀x,x<255→(decide (lD x<8)&&(!x.testBit (lD x)&&(List.range (lD x)).all fun j=>x.testBit j))=true:=by decide +kernel
 grind
theorem aai : ∀x,x<256→(∀j,j<8→x.testBit j=true)→x=255:=by
 have:∀x,x<256→((List.range 8).all fun j=>x.testBit j)=true→x=255:=by decide +kernel
 grind
theorem EV (I:j<8): bt M (8*k+j)=(M.getD k 0).testBit j:=by
 grind[bt]
section
variable {x y:Operand} {b:Nat}
theorem VY (I:k<8): binV P h .shl t x y (.int .u8 1) (.int .i64 (k:Int))=some (.int .u8 ((2^k:Nat):Int)):=by
 have J:2^k<256:=tR (a:=2) (n:=8) (by decide) I
 simp only[binV,shiftV,IntKind.bits,b8]
 grind[uD]
theorem Dg {op:BinOp}{f:Nat→Nat→Nat}(I:a<256)(J:b<256)(hf:f a b<256)(he:bitsV op .u8 (a:Int) (b:Int)=some (.int .u8 (IntKind.u8.wrap (f ((a:Int)%(2^(IntKind.u8).bits:Int)).toNat ((b:Int)%(2^(IntKind.u8).bits:Int)).toNat:Nat)))):
  bitsV op .u8 (a:Int) (b:Int)=some (.int .u8 ((f a b:Nat):Int)):=by
 grind[IntKind.bits,uD]
theorem X6 (I:a<256)(J:k<8): binV P h .or t x y (.int .u8 (a:Int)) (.int .u8 ((2^k:Nat):Int))=some (.int .u8 ((Nat.lor a (2^k):Nat):Int)):=by
 simp only[binV,ikBeq,ai,intV]
 exact Dg (f:=Nat.lor) I (tR (a:=2) (n:=8) (by decide) J) (NV I J) rfl
theorem NX (I:a<256)(J:b<256): binV P h .andNot t x y (.int .u8 (a:Int)) (.int .u8 (b:Int))=some (.int .u8 ((Nat.land a (255-b):Nat):Int)):=by
 simp only[binV,ikBeq,ai,intV]
 exact Dg (f:=fun a b=>Nat.land a (255-b)) I J (JG I) rfl
theorem NY (I:a<256): unV .xor (.int .u8 (a:Int))=some (.int .u8 ((255-a:Nat):Int)):=by
 have:∀a,a<256→Nat.xor 255 a=255-a:=by decide +kernel
 have e:bitsV .xor .u8 ((255:Nat):Int) (a:Int)=some (.int .u8 ((Nat.xor 255 a:Nat):Int)):=Dg (f:=Nat.xor) (by decide) I (by grind) rfl
 rw[this a I] at e
 exact e
theorem VZ {f:Nat→Nat}(hu:P.underlying t=some .string)(I:∀x,x<256→nth L x=some (f x))(J:a<256): indexV P t (.str L) (.int .u8 (a:Int))=some (.int .u8 ((f a:Nat):Int)):=by
 simp_all[indexV]
end
section
variable {told:cE} {v:V} {kd:Nat}
theorem NZ (I:W told)(J:a<256): Call ⟨Tryz.prog,told⟩ 223 [.int .u8 ((255-a:Nat):Int)] h fun r h'=>r=.int .i64 (lD a:Nat)∧h'=h:=by
 have hle:∀a,a<256→lD a≤8:=by decide +kernel
 have hle:=hle a J
 have he:lD (255-(255-a))=lD a:=by rw[show 255-(255-a)=a by omega]
 refine Call.of_wp (I.free _ rfl) Tryz.func223 rfl rfl (zK 7 rfl (zo rfl (wX rfl rfl (VZ (f:=fun x=>lD (255-x)) uK (by decide +kernel) (by omega))) ?_))
 rw[he]
 refine zo rfl (bJ rfl (by exact gC Tryz.underlying5 bz (ax (by omega) (by omega)))) ?_
 exact zk 2 rfl (WP.ret ⟨aa,_,rfl,rfl,rfl⟩)
noncomputable def lwL : Code:=c6 [1,1,1,0,1,0,0,1,1,0,0,1,1,1,1,0,0] ((Tryz.f205.body).getD .skip)
theorem QC (hT:W told)(hv:View h u M)(hM:M.length=375)(hn:n≤3000)(tf:lo<n)(h0:bt M lo=false)(h1:∀j,j<lo→bt M j=true): ∀(m k:Nat) (E:List (Nat×V)) (Q:Ex→List (Nat×V)→H→Prop),k+m=lo/8 →
  Has E [(5,.int .i64 (n:Int)),(7,.int .i64 0),(39,u),(40,.int .i64 375),(41,.int .i64 (k:Int))] →
  (∀E',look E' 2=some (.int .i64 (lo:Int))→look E' 3=some (.int .i64 0)→Q .ret E' h)→WP ⟨Tryz.prog,told⟩ 65 (.loop lwL) E h Q:=by
 intro m
 induction m with
 |zero =>
  intro k E Q hk hE hq
  have J:M[k]?=some (M[k]'(by omega)):=bp _
  have I:M.getD k 0=M[k]'(by omega):=by rw[tO,J];rfl
  generalize (M[k]'(by omega))=x at J I
  have hx:x<256:=hv.1 x (bI J)
  obtain⟨id,off,e1,e2⟩:=er hv J
  have DI:x≠255:=fun e=>by
   have:=EV (M:=M) (k:=k) (j:=lo%8) (by omega)
   rw[show 8*k+lo%8=lo by omega,h0,I,e] at this
   have q:∀j,j<8→(255:Nat).testBit j=true:=by decide
   rw[q _ (by omega)] at this;cases this
  obtain⟨w1,w2,w3⟩:=TF x (by omega)
  have hl:8*k+lD x=lo:=by
   have a1:=EV (M:=M) (k:=k) (j:=lD x) w1
   rw[I,w2] at a1
   rcases qR (8*k+lD x) lo with q|q
   ·rw[h1 _ q] at a1;cases a1
   ·by_cases q2:lo%8<lD x
    ·have:=w3 _ q2
     have a2:=EV (M:=M) (k:=k) (j:=lo%8) (by omega)
     rw[show 8*k+lo%8=lo by omega,h0,I,this] at a2;cases a2
    ·omega
  refine WP.loop (WP.has hE (zg rfl (zB rfl aJ (by simp;omega) ?_)))
  refine zk 5 rfl (WP.block (zK 3 rfl (zo rfl (cu (r:=.ptr id off) rfl rfl e1) (zl rfl e2 (zk 6 rfl (zb rfl (by exact ik (ax (by omega) (by omega))) ?_))))))
  refine zm rfl (zb rfl (by exact ik (ax (by omega) (by omega))) ?_)
  refine zb rfl (by exact aR (ax (by omega) (by omega))) ?_
  refine zm rfl (zo rfl (dB rfl (NY hx)) (zc rfl (NZ hT hx) ?_))
  rintro v h' ⟨rfl,rfl⟩
  refine zo rfl (ak (r:=.int .i64 (lo:Int)) rfl rfl (by rw[←hl,show(((8*k+lD x:Nat):Int))=(3000*0+8*(k:Int))+(lD x:Int) by omega];exact aR (ax (by omega) (by omega)))) ?_
  refine zk 5 rfl (zB rfl aA (by simp;omega) ?_)
  refine zk 3 rfl (zB rfl aJ (by simp;omega) ?_)
  exact zk 9 rfl (WP.ret (hq _ rfl rfl))
 |succ m ih =>
  intro k E Q hk hE hq
  have J:M[k]?=some (M[k]'(by omega)):=bp _
  have I:M.getD k 0=M[k]'(by omega):=by rw[tO,J];rfl
  generalize (M[k]'(by omega))=x at J I
  have hx:x<256:=hv.1 x (bI J)
  obtain⟨id,off,e1,e2⟩:=er hv J
  have DI:x=255:=aai x hx fun j hj=>by rw[←I,←EV hj];exact h1 _ (by omega)
  have Zb:∀a,a<256→lD a≤8:=by decide +kernel
  have Zb:=Zb x hx
  refine WP.loop (WP.has hE (zg rfl (zB rfl aJ (by simp;omega) ?_)))
  refine zk 5 rfl (WP.block (zK 3 rfl (zo rfl (cu (r:=.ptr id off) rfl rfl e1) (zl rfl e2 (zk 6 rfl (zb rfl (by exact ik (ax (by omega) (by omega))) ?_))))))
  refine zm rfl (zb rfl (by exact ik (ax (by omega) (by omega))) ?_)
  refine zb rfl (by exact aR (ax (by omega) (by omega))) ?_
  refine zm rfl (zo rfl (dB rfl (NY hx)) (zc rfl (NZ hT hx) ?_))
  rintro v h' ⟨rfl,rfl⟩
  refine zb rfl (by exact aR (ax (by omega) (by omega))) ?_
  refine zk 5 rfl (zC rfl aA (by simp;omega) ?_)
  refine zk 5 rfl (zv (zj rfl (WP.skip (zr rfl (zb rfl (by exact aR (ax (by omega) (by omega))) ?_)))))
  refine zm rfl (zv ?_)
  exact ih (k+1) _ Q (by omega) ⟨rfl,rfl,rfl,rfl,rfl,aa⟩ hq
end
section
variable {x y:Operand}
theorem QD (I:n<3000): binV P h .quo t x y (.int .i64 (n:Int)) (.int .i64 3000)=some (.int .i64 0):=by
 have:=EU (P:=P) (h:=h) (t:=t) (x:=x) (y:=y) (a:=n) (b:=3000) (by decide) (by omega)
 rw[show n/3000=0 by omega] at this;exact this
theorem V0 (I:n<3000): binV P h .rem t x y (.int .i64 (n:Int)) (.int .i64 3000)=some (.int .i64 (n:Int)):=by
 have:=P4 (P:=P) (h:=h) (t:=t) (x:=x) (y:=y) (a:=n) (b:=3000) (by decide)
 rw[show n%3000=n by omega] at this;exact this
end
section
variable {told:cE} {v:V} {kd:Nat} {sm:bA→bA→Prop}
structure jm (n:Nat)(R M:List Nat)(p:Int→List Nat): Prop where
 head:∃ex,dx (p 0) 201 n ex [eU,R]
 rl:R.length=64
 marks:∃kd lk ex,dx (p 1) kd lk ex [M]
 ml:M.length=375
 n1:2≤n
 n2:n≤2999
 own:∀j,j<2→bt M j=true
 hi:∀j,n≤j→bt M j=false
theorem QE (hT:W told)(hR:JB told N lv dd sm rv A pg)(ku:lv ε)(hN:2≤N)(hp:jm n R M (pg ε))(tf:lo<n)(h0:bt M lo=false)(h1:∀j,j<lo→bt M j=true)(s:Sat h (A ε::S)):
  Call ⟨Tryz.prog,told⟩ 205 [rv] h fun v h'=>(∃ah,v=.aI [.int .i64 0,.int .i64 9]∧Sat h' (A ah::S)∧dd ah)∨∃ah,v=.aI [.int .i64 (lo:Int),.int .i64 0]∧lv ah∧sm ε ah∧Sat h' (A ah::S):=by
 obtain⟨ex,oJ⟩:=hp.head
 obtain⟨kd,lk,qv,I⟩:=hp.marks
 have hM:=hp.ml
 have v8:=hp.n2
 refine Call.of_wp (hT.free _ rfl) Tryz.func205 rfl rfl (zK 8 rfl (zc rfl (GF hT hR ku (by omega) oJ hp.rl s) ?_))
 rintro v h (⟨J,rfl,s,hd⟩|⟨u,J,rfl,mC,fX,s⟩)
 ·skip
  refine zk 12 rfl (zB rfl aA (by decide) ?_)
  exact zk 8 rfl (WP.ret ⟨aa,_,rfl,.inl ⟨J,rfl,s,hd⟩⟩)
 refine zk 12 rfl (zC rfl aA (rfl) (zk 7 rfl (zc rfl (NS hT (by omega) (by omega)) ?_)))
 rintro v h' ⟨rfl,rfl⟩
 refine zb rfl (by exact jP (ax (by omega) (by omega))) ?_
 refine zk 2 rfl (WP.block (WP.loop (zg rfl (zB rfl aJ (by decide) ?_))))
 have I:dx (pg J 1) kd lk qv [M]:=by rw[hR.same fX];exact I
 refine zk 5 rfl (WP.block (zK 9 rfl (zc rfl (JC hT hR mC hN I hM (s.ae [1])) ?_)))
 rintro v h (⟨oH,rfl,s,hd⟩|⟨w2,u2,oH,rfl,sr,oL,s⟩)
 ·skip
  refine zk 12 rfl (zB rfl aA (by decide) ?_)
  exact zk 8 rfl (WP.ret ⟨aa,_,rfl,.inl ⟨oH,rfl,s.del 1,hd⟩⟩)
 refine zk 12 rfl (zC rfl aA (rfl) (zk 6 rfl (zo rfl (aQ rfl rfl rfl (bh aM (s.aD (k:=0) rfl (aU _ _)))) ?_)))
 rw[hM]
 refine zk 2 rfl (WP.block ?_)
 refine QC hT (s.buf (k:=0) rfl).view hM (by omega) tf h0 h1 (lo/8) 0 _ _ (by omega) ⟨rfl,rfl,rfl,rfl,rfl,aa⟩ (fun E' l2 l3=>⟨aa,_,K5 l2 l3,.inr ⟨oH,rfl,sr,hR.tr fX oL,?_⟩⟩)
 exact((s.ae [2]).del 3 |>.del 2).del 1
end
def SA (a p q r:Nat)(op:V)(data:List Nat)(aH:Nat)(ε:bA): aE:=star [c8 a p q r op data aH,dM r p q ε.1,bQ q p ε.2.1,bw p ε.2.2]
def GA (g a p q r:Nat)(data:List Nat)(aH:Nat)(now:List (Int×List Nat))(ε:bA): aE:=star [dN g a now false,c8 a p q r (.ptr g 0) data aH,dM r p q ε.1,bQ q p ε.2.1,bw p ε.2.2]
def pgG (now:List (Int×List Nat))(ε:bA)(n:Int): List Nat:=match lookL n now with
 |some b=>b
 |none=>pgA ε n
theorem BZ (h:Sm N ε ah): pgG now ah=pgG now ε:=by
 funext n
 unfold pgG
 rw[h.1]
theorem gz {i n:Int}: pgG (cN i b now) ε n=if i=n then b else pgG now ε n:=by
 grind[pgG,jH]
section
variable {told:cE} {p:Nat} {v op:V} {kd:Nat} {sm:bA→bA→Prop}
theorem Le (hT:W told)(hB:B≤2000): BW told N B (.iface 26 (.ptr a 0)) (SA a p q r op data aH) pgA:=by
 refine⟨⟨_,_,_,rfl,Tw,fun {h S ε n} I h0 h1 s => ?_⟩,fun hs=>hs.1⟩
 have vD:=I.bY
 have Zc:=sk (ε:=ε)
 have s:=aZ.1 s
 refine(Ay hT (n:=n) s I.ok.ok I.ok.pins (by omega)).mono ?_
 rintro v h ⟨e,b,ah,J,hs⟩
 obtain⟨k1,k2,k3,k4⟩:=J.ec I.ec I.ok.pins
 obtain⟨rfl,rfl⟩:=k3 h0 h1
 rcases hs with⟨he,_⟩|⟨_,u,rfl,s⟩
 ·omega
 ·have s2:Sat h (SA a p q r op data aH ah::aW u (pgA ε n)::S):=aZ.2 (s.ae [1,1,1,1,0])
  exact⟨u,ah,rfl,I.rd J,⟨k2,fun P hP hv=>hP.rd J I.ec hv,J.bY⟩,s2.ae [1]⟩
theorem V1 (hT:W told)(hB:B≤2000)(hw:NW N now): BW told N B (.iface 78 (.ptr g 0)) (GA g a p q r data aH now) (pgG now):=by
 refine⟨⟨_,_,_,rfl,Dc,fun {h S ε n} I h0 h1 s => ?_⟩,fun hs m=>by rw[BZ hs]⟩
 have vD:=I.bY
 have Zc:=sk (ε:=ε)
 have s:=aZ.1 s
 refine(Gi hT (n:=n) s I.ok (by omega) (fun e he=>fW (hw.good e he).1)).mono ?_
 rintro v h ⟨e,b,ah,J,hs⟩
 obtain⟨k1,k2,k3,k4⟩:=J.ec I.ec I.ok.pins
 obtain⟨rfl,hb⟩:=k3 h0 h1
 have hb:b=pgG now ε n:=hb
 subst hb
 rcases hs with⟨he,_⟩|⟨_,u,rfl,s⟩
 ·omega
 ·have s2:Sat h (GA g a p q r data aH now ah::aW u (pgG now ε n)::S):=aZ.2 (s.ae [1,1,1,1,1,0])
  exact⟨u,ah,rfl,I.xG J,⟨k2,fun P hP hv=>hP.xG J I.ec hv,J.bY⟩,s2.ae [1]⟩
theorem B1 (hT:W told)(hB:B≤2000)(I:EI N B ε)(hw:NW N now)(hi:i<N)(s:Sat h (GA g a p q r data aH now ε::X::S))(hX:cq X (cz x b))(hp:dx b kd link extra cs):
  Call ⟨Tryz.prog,told⟩ 40 [.ptr g 0,.int .i64 (i:Int),x] h fun v h'=>∃ah,v=.int .i64 0∧EI N B ah∧Sm N ε ah∧NW N (cN (i:Int) b now)∧Sat h' (GA g a p q r data aH (cN (i:Int) b now) ah::X::S):=by
 have vD:=I.bY
 have Zc:=sk (ε:=ε)
 have hlen:=hp.len
 have hb:=(s.aD (k:=1) rfl hX).1
 have s:=aZ.1 s
 refine(Ns hT (n:=(i:Int)) s hX (by omega) I.ok (by omega) (fun e he=>fW (hw.good e he).1)).mono ?_
 rintro v h ⟨e,cT,ah,J,rfl,s⟩
 obtain⟨k1,k2,k3,k4,k5⟩:=J.ec I.ec I.ok.pins
 obtain⟨rfl,rfl⟩:=k5 (by omega) (by omega) hp.good
 exact⟨ah,rfl,I.NA J,⟨k2,fun P hP hv=>hP.NA J I.ec hv,J.bY⟩,hw.put (by omega) (by omega) hp.good hb,aZ.2 s⟩
structure Mo (told:cE)(N:Nat)(lv dd:bA→Prop)(sm:bA→bA→Prop): Prop where
 rf:∀a:bA,sm a a
 tr:∀ {a b c:bA},sm a b→sm b c→sm a c
 pg:∀ {a b:bA},sm a b→∀m,pgA b m=pgA a m
 gr:∀ {g a p q r aH:Nat} {data:List Nat} {now:List (Int×List Nat)},NW N now→JB told N lv dd sm (.iface 78 (.ptr g 0)) (GA g a p q r data aH now) (pgG now)
 gw:∀ {h:H} {S:List aE} {X:aE} {g a p q r aH i kd link extra:Nat} {data b:List Nat} {now:List (Int×List Nat)} {x:V} {cs:List (List Nat)} {ε:bA},lv ε→NW N now→i<N→Sat h (GA g a p q r data aH now ε::X::S)→cq X (cz x b)→dx b kd link extra cs →
  Call ⟨Tryz.prog,told⟩ 40 [.ptr g 0,.int .i64 (i:Int),x] h fun v h'=>(∃ah,v=.int .i64 9∧Sat h' (GA g a p q r data aH now ah::X::S)∧dd ah)∨∃ah,v=.int .i64 0∧lv ah∧sm ε ah∧NW N (cN (i:Int) b now)∧Sat h' (GA g a p q r data aH (cN (i:Int) b now) ah::X::S)
 dr:∀ {h:H} {S:List aE} {g a p q r aH:Nat} {data:List Nat} {now:List (Int×List Nat)} {ε:bA} {n:Int},dd ε→NW N now→Sat h (GA g a p q r data aH now ε::S) →
  Call ⟨Tryz.prog,told⟩ 207 [.ptr g 0,.int .i64 n] h fun v h'=>∃(w:V) (e:Int) (ah:bA),v=.aI [w,.int .i64 e]∧dd ah∧Sat h' (GA g a p q r data aH now ah::S)
theorem Mo.live (J:W told)(hB:B≤2000): Mo told N (EI N B) Y9 (Sm N) :=
 ⟨Sm.refl N,Sm.trans,fun h=>h.1,fun hw=>(V1 J hB hw).m,fun I hw hi s hX hp=>(B1 J hB I hw hi s hX hp).mono fun _ _ k=>.inr k,fun hd=>hd.elim⟩
theorem Mo.pgG (I:Mo told N lv dd sm)(h:sm ε ah): Am.pgG now ah=Am.pgG now ε:=by
 funext n
 unfold Am.pgG
 rw[I.pg h]
def V2 (N g a p q r:Nat)(data:List Nat)(aH:Nat)(dd:bA→Prop)(S:List aE)(h:H): Prop:=∃(ε:bA) (now:List (Int×List Nat)),NW N now∧Sat h (GA g a p q r data aH now ε::S)∧dd ε
theorem jm.put {P:Int→List Nat}(h:jm N R M P){I:List Nat}(J:P' 0=P 0)(h1:∃kd lk ex,dx (P' 1) kd lk ex [I])(hl:I.length=375)(ho:∀j,j<2→bt I j=true)(hh:∀j,N≤j→bt I j=false): jm N R I P' :=
 ⟨by rw[J];exact h.head,h.rl,h1,hl,h.n1,h.n2,ho,hh⟩
theorem su {i:Int}: ∀ {now:List (Int×List Nat)},(cN i b now).length≤now.length+1:=by
 intro now
 induction now<;>grind[cN]
theorem V3 (hT:W told)(hM:Mo told N lv dd sm)(ku:lv ε)(hw:NW N now)(hp:jm N R M (pgG now ε))(hi:i<N)(kE:2≤i){bl:Bool}(s:Sat h (GA g a p q r data aH now ε::S)):
  Call ⟨Tryz.prog,told⟩ 206 [.ptr g 0,.int .i64 (i:Int),.bool bl] h fun v h'=>(v=.int .i64 9∧V2 N g a p q r data aH dd S h')∨∃ah cT,v=.int .i64 0∧lv ah∧sm ε ah∧NW N cT∧cT.length≤now.length+1∧jm N R (if bl then BY M i else NU M i) (pgG cT ah)∧(∀m,m≠1→pgG cT ah m=pgG now ε m) ∧
   Sat h' (GA g a p q r data aH cT ah::S):=by
 obtain⟨kd,lk,qv,xM⟩:=hp.marks
 have V4:=hp.ml
 have v8:=hp.n2
 have Zd:i/8<M.length:=by omega
 have hb:M[i/8]?=some (M[i/8]'(by omega)):=bp _
 have zX:M.getD (i/8) 0=M[i/8]'(by omega):=by grind
 generalize (M[i/8]'(by omega))=z at hb zX
 -- what is so behind it
 have fin:∀ {ah:bA} {b':List Nat} {M':List Nat},sm ε ah→dx b' kd lk qv [M']→M'.length=375→(∀j,bt M' j=if j=i then bl else bt M j)→jm N R M' (pgG (cN 1 b' now) ah)∧(∀m,m≠1→pgG (cN 1 b' now) ah m=pgG now ε m):=fun {ah b' M'} hs I hl JH =>
  ⟨hp.put (by rw[gz,ay (by decide),hM.pgG hs]) ⟨_,_,_,by rw[gz,aF rfl];exact I⟩ hl (fun j hj=>by rw[JH,ay (by omega)];exact hp.own j hj) (fun j hj=>by rw[JH,ay (by omega)];exact hp.hi j hj),
   fun m hm=>by rw[gz,ay (by omega),hM.pgG hs]⟩
 refine Call.of_wp (hT.free _ rfl) Tryz.func206 rfl rfl (zK 7 rfl (zo rfl (pI rfl (mki_of pZ rfl)) (zm rfl (zo rfl (ak (r:=.int .i64 0) rfl rfl (QD (by omega))) ?_))))
 refine zc rfl (JC hT (hM.gr hw) ku (by omega) xM V4 s) ?_
 rintro v h (⟨oH,rfl,s,hd⟩|⟨w2,u2,oH,rfl,sr,oL,s⟩)
 ·skip
  refine zk 12 rfl (zB rfl aA (by decide) ?_)
  exact zk 7 rfl (WP.ret ⟨aa,_,rfl,.inl ⟨rfl,oH,now,hw,s,hd⟩⟩)
 have hv:=(s.buf (k:=0) rfl).view
 have hz:z<256:=hv.1 z (bI hb)
 have h2k:2^(i%8)<256:=tR (a:=2) (n:=8) (by decide) (by omega)
 obtain⟨id,off,e1,e2⟩:=er hv hb
 refine zk 12 rfl (zC rfl aA (rfl) (zk 6 rfl (zb rfl (V0 (by omega)) ?_)))
 refine zb rfl (P4 (a:=i) (b:=8) (by decide)) ?_
 refine zb rfl (VY (k:=i%8) (by omega)) ?_
 refine zk 6 rfl (zb rfl (V0 (by omega)) ?_)
 refine zb rfl (EU (a:=i) (b:=8) (by decide) (by omega)) ?_
 refine zk 6 rfl ?_
 cases bl with
 |true =>
  obtain⟨N5,GH,e3,h4,e4,s2⟩:=mM s (i:=i/8) (b:=Nat.lor z (2^(i%8))) (by omega) (NV hz (by omega))
  have ee:V.ptr id off=V.ptr N5 GH:=by grind
  rw[←ee] at e4
  refine zK 4 rfl (zo rfl (cu (r:=.ptr id off) rfl rfl e1) (zl rfl e2 (zm rfl (zb rfl (X6 hz (by omega)) ?_))))
  refine zo rfl (cu (r:=.ptr id off) rfl rfl e1) (zS rfl (⟨h4,e4,s2⟩) ?_)
  rintro h s
  rw[←zX] at s
  have s:Sat h (aW u2 (BY M i)::_):=s
  refine zk 6 rfl (zc rfl (yV (i:=0) (c:=M) hT (s.ae [1,0]) (aU _ _) (aU _ _) xM rfl JE) ?_)
  rintro v h ⟨w3,b',rfl,I,s⟩
  refine zk 9 rfl (zC rfl aA (rfl) (zk 7 rfl (zo rfl (ak (r:=.int .i64 0) rfl rfl (QD (by omega))) ?_)))
  refine zb rfl (by exact aR (ax (by omega) (by omega))) ?_
  refine zm rfl (zc rfl (hM.gw (i:=1) sr hw (by omega) (s.ae [3,0]) (aU _ _) I) ?_)
  rintro v h (⟨J,rfl,s,hd⟩|⟨J,rfl,qy,lX,nU,s⟩)
  ·skip
   exact zk 2 rfl (WP.ret ⟨aa,_,rfl,.inl ⟨rfl,J,now,hw,((s.ae [0]).del 3 |>.del 2).del 1,hd⟩⟩)
  refine zk 2 rfl (WP.ret ⟨aa,_,rfl,?_⟩)
  obtain⟨f1,f2⟩:=fin (hM.tr oL lX) I (by rw[JE];exact V4) (fun j=>X4 Zd)
  exact .inr ⟨J,_,rfl,qy,hM.tr oL lX,nU,su,f1,f2,((s.ae [0]).del 3 |>.del 2).del 1⟩
 |false =>
  obtain⟨N5,GH,e3,h4,e4,s2⟩:=mM s (i:=i/8) (b:=Nat.land z (255-2^(i%8))) (by omega) (JG hz)
  have ee:V.ptr id off=V.ptr N5 GH:=by grind
  rw[←ee] at e4
  refine zK 4 rfl (zo rfl (cu (r:=.ptr id off) rfl rfl e1) (zl rfl e2 (zm rfl (zb rfl (NX hz h2k) (zo rfl (cu (r:=.ptr id off) rfl rfl e1) (zS rfl (⟨h4,e4,s2⟩) ?_))))))
  rintro h s
  rw[←zX] at s
  have s:Sat h (aW u2 (NU M i)::_):=s
  refine zk 6 rfl (zc rfl (yV (i:=0) (c:=M) hT (s.ae [1,0]) (aU _ _) (aU _ _) xM rfl JF) ?_)
  rintro v h ⟨w3,b',rfl,I,s⟩
  refine zk 9 rfl (zC rfl aA (rfl) (zk 7 rfl (zo rfl (ak (r:=.int .i64 0) rfl rfl (QD (by omega))) ?_)))
  refine zb rfl (by exact aR (ax (by omega) (by omega))) ?_
  refine zm rfl (zc rfl (hM.gw (i:=1) sr hw (by omega) (s.ae [3,0]) (aU _ _) I) ?_)
  rintro v h (⟨J,rfl,s,hd⟩|⟨J,rfl,qy,lX,nU,s⟩)
  ·skip
   exact zk 2 rfl (WP.ret ⟨aa,_,rfl,.inl ⟨rfl,J,now,hw,((s.ae [0]).del 3 |>.del 2).del 1,hd⟩⟩)
  refine zk 2 rfl (WP.ret ⟨aa,_,rfl,?_⟩)
  obtain⟨f1,f2⟩:=fin (hM.tr oL lX) I (by rw[JF];exact V4) (fun j=>X5 Zd)
  exact .inr ⟨J,_,rfl,qy,hM.tr oL lX,nU,su,f1,f2,((s.ae [0]).del 3 |>.del 2).del 1⟩
theorem TG (hT:W told)(J:Mo told N lv dd sm)(ku:lv ε)(hw:NW N now)(hp:jm N R M (pgG now ε))(tf:lo<N)(h0:bt M lo=false)(h1:∀j,j<lo→bt M j=true)(s:Sat h (GA g a p q r data aH now ε::S)):
  Call ⟨Tryz.prog,told⟩ 150 [.ptr g 0] h fun v h'=>(v=.aI [.int .i64 0,.int .i64 9]∧V2 N g a p q r data aH dd S h')∨∃ah cT,v=.aI [.int .i64 (lo:Int),.int .i64 0]∧lv ah∧sm ε ah∧NW N cT∧cT.length≤now.length+2∧jm N R (BY M lo) (pgG cT ah)∧(∀m,m≠1→m≠(lo:Int)→pgG cT ah m=pgG now ε m)∧dx (pgG cT ah lo) 0 0 0 []∧pgG cT ah lo=tG 0 ∧
   Sat h' (GA g a p q r data aH cT ah::S):=by
 have BF:=hp.n1
 have h2:2≤lo:=by
  rcases qR lo 2 with hq|hq
  ·rw[hp.own lo hq] at h0;cases h0
  ·exact hq
 refine Call.of_wp (hT.free _ rfl) Tryz.func150 rfl rfl (zK 8 rfl (zo rfl (pI rfl (mki_of pZ rfl)) (zc rfl (QE hT (J.gr hw) ku (by omega) hp tf h0 h1 s) ?_)))
 rintro v h (⟨lE,rfl,s,hd⟩|⟨lE,rfl,mC,fX,s⟩)
 ·skip
  refine zk 7 rfl (WP.block (zK 3 rfl (zB rfl aA (by decide) ?_)))
  exact zk 9 rfl (WP.ret ⟨aa,_,rfl,.inl ⟨rfl,lE,now,hw,s,hd⟩⟩)
 have xM:jm N R M (pgG now lE):=by rw[J.pgG fX];exact hp
 refine zk 7 rfl (WP.block (zK 3 rfl (zC rfl aA (rfl) (zk 6 rfl (zC rfl aJ (by simp) ?_)))))
 refine za rfl (zv (zj rfl (WP.skip (zw (zg rfl (zk 2 rfl (zc rfl (V3 (bl:=true) hT J mC hw xM tf h2 s) ?_)))))))
 rintro v h (⟨rfl,hd⟩|⟨oH,V5,rfl,sr,oL,sx,gA,I,D3,s⟩)
 ·skip
  refine zk 5 rfl (zB rfl aA (by decide) ?_)
  exact zk 8 rfl (WP.ret ⟨aa,_,rfl,.inl ⟨rfl,hd⟩⟩)
 refine za rfl (zv (zg rfl (zm rfl (zh rfl (ak rfl rfl aA) (rfl) (zv (zj rfl (WP.skip (zg rfl (zc rfl (D_ (kd:=0) hT s (by decide)) ?_)))))))))
 rintro v h ⟨u,rfl,s⟩
 have oI:dx (tG 0) 0 0 0 []:=dx.new (k:=0)
 generalize hbn:tG 0=b' at s oI
 refine zk 12 rfl (zc rfl (J.gw (i:=lo) sr sx tf (s.ae [1,0]) (aU _ _) oI) ?_)
 rintro v h (⟨vI,rfl,s,hd⟩|⟨vI,rfl,qy,lX,nU,s⟩)
 ·skip
  refine zk 5 rfl (zB rfl aA (by decide) ?_)
  exact zk 8 rfl (WP.ret ⟨aa,_,rfl,.inl ⟨rfl,vI,V5,sx,s.del 1,hd⟩⟩)
 refine zk 5 rfl (zC rfl aA (rfl) (zk 9 rfl (WP.ret ⟨aa,_,rfl,?_⟩)))
 have I:jm N R (BY M lo) (pgG V5 oH):=I
 refine .inr ⟨vI,_,rfl,qy,J.tr (J.tr fX oL) lX,nU,b9 su (by omega),I.put (by rw[gz,ay (by omega),J.pgG lX]) ?_ I.ml I.own I.hi,fun m rV sM=>by rw[gz,ay (by omega),J.pgG lX,D3 m rV,J.pgG fX],by grind[gz],by rw[gz,aF rfl],s.del 1⟩
 rw[gz,ay (by omega),J.pgG lX]
 exact I.marks
theorem N6 (hT:W told)(hB:B≤2000)(I:EI N B ε)(hw:NW N now)(hp:jm N R M (pgG now ε))(J:lo<N)(h0:bt M lo=false)(h1:∀j,j<lo→bt M j=true)(s:Sat h (GA g a p q r data aH now ε::S)):
  Call ⟨Tryz.prog,told⟩ 150 [.ptr g 0] h fun v h'=>∃ah cT,v=.aI [.int .i64 (lo:Int),.int .i64 0]∧EI N B ah∧Sm N ε ah∧NW N cT∧cT.length≤now.length+2∧jm N R (BY M lo) (pgG cT ah)∧(∀m,m≠1→m≠(lo:Int)→pgG cT ah m=pgG now ε m)∧dx (pgG cT ah lo) 0 0 0 []∧pgG cT ah lo=tG 0 ∧
   Sat h' (GA g a p q r data aH cT ah::S) :=
 (TG hT (Mo.live hT hB) I hw hp J h0 h1 s).mono fun _ _ k=>k.resolve_left fun⟨_,_,_,_,_,q⟩=>q
end
theorem Lf : gH (List.replicate 512 0)=0:=by rw[gH,aF rfl]
def fresh (n m f:Nat): bA:=(Pl.fresh f,(Lg.fresh,Dk.fresh n m))
theorem GI {m:Nat}(k:Int): (Dk.fresh n m).at k=List.replicate 512 0:=by
 rw[Dk.at,show lookL k (Dk.fresh n m).now=none from rfl]
 simp only[Dk.fresh]
 cases I:(List.replicate n (none:Option (List Nat)))[k.toNat]? with
 |none=>rfl
 |some o =>
  have:=tP (bI I)
  subst this
  rfl
theorem Ea {m f:Nat}(k:Int): pgA (fresh n m f) k=List.replicate 512 0:=by
 rw[lU (by rfl)]
 exact GI k
theorem GJ {f:Nat}{x:Fm}(h:(Pl.fresh f).ag[i]?=some x): x=dX:=tP (bI h)
theorem EI.fresh {m f:Nat}(hn:n≤65536)(hm:m≤16777216)(hf:1≤f)(V6:f≤1024): EI n 1 (fresh n m f):=by
 have J:∀x∈(Pl.fresh f).ag,x=dX:=fun x I=>tP I
 have hlen:(Pl.fresh f).ag.length=f:=gi
 refine⟨⟨⟨⟨(show 0<(Pl.fresh f).ag.length by rw[hlen];omega),(show(Pl.fresh f).ag.length≤1024 by rw[hlen];exact V6),fun e he=>(by cases he),fun x I=>by rw[J x I];decide,fun x I=>by rw[J x I];decide⟩,Lg.Gu,?_⟩,fun x I=>by rw[J x I];rfl,⟨t_,fun k i hk=>(by cases hk)⟩⟩,⟨?_,t_,fun k i hk=>(by cases hk),fun i x I=>.inl (by rw[GJ I];decide),fun k hk=>(by cases hk),t_⟩,⟨rfl,aS _,(show(1:Nat)+0≤1*1048600 by decide)⟩,?_⟩
 ·exact⟨(show(-1:Int)<4294967296 by decide),eX _,hm,fun e he=>(by cases he),fun i b hb=>(by have h1:some b=none:=tP (bI hb);cases h1),aS _,(show(List.replicate n (none:Option (List Nat))).length≤65536 by rw[gi];exact hn)⟩
 ·exact⟨rfl,(show(-1:Int)<0 by decide),gi,fun k hk=>(by cases hk),t_,fun k h0 h1=>by show gH ((Dk.fresh n m).at k)=0;rw[GI];exact Lf⟩
 ·have e:gN (Pl.fresh f).ag=0:=by
   rw[gN,List.count_eq_zero]
   intro hh
   obtain⟨x,I,hc⟩:=List.mem_map.1 hh
   rw[J x I] at hc
   cases hc
  show([]:List Wr).length+gN (Pl.fresh f).ag≤_
  rw[e];decide
theorem JI (h:n<128): (digits 9 n).length=1:=by
 grind[digits]
theorem JJ (h:n<16384): (digits 9 n).length≤2:=by
 grind[digits]
theorem AF {c:cr}(I:c.aY.toNat<16384)(J:c.pos.toNat<16384)(h3:c.b.length<16384): (iH c).length≤7+c.b.length:=by
 grind[JJ,iH]
theorem TH {pg:Int}{now:List Nat}{l:List cr}(I:we pg eH now i l)(hn:now.length=512)(hp:pg.toNat<16384): ∀j,(∀k,i≤k→k<j→eH[k]?=now[k]?)→j≤520→(l.flatMap iH).length≤520-max i j:=by
 induction I with
 |done i h=>simp
 |skip i l h he I ih =>
  grind
 |take i e l h1 h2 h3 h4 I ih =>
  intro j hj hj2
  have zP:j≤i:=tW fun J=>h3 (hj i (aS _) J)
  have h5:=ih (e+8) h4 (by omega)
  have hl:((now.take e).drop i).length=e-i:=by grind
  have h6:=AF (c:=⟨pg,i,false,(now.take e).drop i⟩) hp (by grind) (by grind)
  rw[nj,bP]
  simp only[hl] at h6
  omega
theorem TI {pg:Int}{now:List Nat}{c:List cr}(I:Nu pg eH now c)(J:now.length=512)(hp:pg.toNat<16384): (c.flatMap iH).length≤520:=by
 obtain⟨l,hl,rfl⟩:=I
 have:=TH hl J hp 0 (fun k _ h=>absurd h (by omega)) (by omega)
 grind[AF]
theorem iE.V7 {l:List Int}{cs:List cr}(J:iE now l ε e cs ah)(hn:NW N now): (∀n∈l,n.toNat<16384)→(cs.flatMap iH).length≤520*l.length:=by
 induction J with
 |nil ε=>simp
 |err n l ε e b ah J he=>simp
 |part n l ε eH b ah c e cs I J hb ji hc iZ ht ih =>
  intro hl
  have h1:=TI hc (fW (hn.look hb).1) (hl n dJ)
  grind
 |whole n l ε eH b ah e cs I J hb ji ht ih =>
  have oI:=fW (hn.look hb).1
  grind[AF]
theorem AG {L:Nat}{cs:List cr}{kd:Int}(hr:iE now (c9 now) ε e cs ah)(I:NW N now)(hL:now.length≤L)(hN:N≤16384)(ht:tx<16384): (cI kd tx 0 0 [] cs).length≤520*L+20:=by
 have h2:=JJ ht
 have h4:=JI (n:=([]:List Nat).length) (by decide)
 have h5:=z_ cs.length
 have h6:=hr.V7 I fun n hm=>by have:=I.keys n (jJ.1 hm);omega
 have J:(c9 now).length≤L:=by
  rw[c9,(e_ _).length_eq,fE];exact hL
 have J:=Cj 520 J
 simp only[cI,bP,bq,cD] at h4 ⊢
 omega
theorem lY (K M:Nat): kx fun x=>x.2.log.length=K∧x.2.room=M:=by
 refine⟨fun x n h => ?_,fun x n b h => ?_⟩
 ·unfold bF Dk.fM
  split
  ·exact h
  ·split
   ·exact h
   ·split
    ·exact h
    ·split<;>first|exact h|exact h
 ·unfold Dk.cV
  split
  ·exact h
  ·split
   ·exact h
   ·split<;>exact h
def wg (K M:Nat)(ε:bA): Prop:=ε.2.2.log.length≤K∧ε.2.2.room=M
theorem wg.sm {M:Nat}(h:wg K M ε)(hs:Sm N ε ah): wg K M ah:=by
 have:=hs.2.1 _ ((lY ε.2.2.log.length ε.2.2.room).Dd N) ⟨rfl,rfl⟩
 exact⟨by rw[this.1];exact h.1,by rw[this.2];exact h.2⟩
theorem qf.fits {M L kd:Nat}{cl:Bool}(hr:qf ε now kd tx 0 0 [] 0 aB e cl ah)(ku:EI N B ε)(hB:B≤1000)(hw:NW N now)(hL:now.length≤L)(hN:N≤1024)(h1:1≤kd)(h2:kd≤7)(oK:tx<16384)(hd:wg K M ε)(hf:K+520*L+28≤M):
  cl=true∧e=0∧wg (K+520*L+28) M ah:=by
 have qF:∀n∈c9 now,0≤n∧n<N:=fun n hq=>hw.keys n (jJ.1 hq)
 obtain⟨hK,hM⟩:=hd
 have Lh:=ku.done hB hw (by omega) (by omega) hr
 cases hr with
 |arg hh=>omega
 |dead _ _ _ hd=>omega
 |mO e c ah _ _ _ _ J Gm=>exact absurd (J.ec ku.ec ku.ok qF).2.2 Gm
 |app c I _ _ _ _ J Gm =>
  have xo:=AG (kd:=kd) J hw hL (by omega) oK
  have abK:=AG (kd:=kd) J hw hw.len (by omega) oK
  have hP:=(lY ε.2.2.log.length ε.2.2.room).ch J ⟨rfl,rfl⟩
  grind[g9,eB,kK]
 |put c I e vI _ _ _ _ J ha hp =>
  rcases Lh with⟨iZ,_⟩|⟨_,he,_⟩
  ·grind
  ·refine⟨rfl,he,?_⟩
   have xo:=AG (kd:=kd) J hw hL (by omega) oK
   have hP:=(lY ε.2.2.log.length ε.2.2.room).ch J ⟨rfl,rfl⟩
   rcases g9 I.2 kd tx 0 0 [] c with⟨e,he,zE,hq⟩|⟨_,V8,hq⟩|⟨_,hb,Fb,eR,V8,hq⟩
   ·grind
   ·grind
   ·rw[hq] at hp
    have jl:=(lY (ε.2.2.log.length+(eB I.2.1 kd tx 0 0 [] c).length) ε.2.2.room).pt hp ⟨by grind,hP.2⟩
    have h3:(eB I.2.1 kd tx 0 0 [] c).length≤520*L+28:=by rw[eB,kK];omega
    exact⟨by omega,by omega⟩
def sdep : Code→Nat
 |.seq a b=>1+max (sdep a) (sdep b)
 |_=>1
def WPd (C:dR)(aj:Nat)(code:Code)(E:List (Nat×V))(h:H)(d:pV)(Q:Ex→List (Nat×V)→H→pV→Prop): Prop :=
 ∀env,gS env E→∃N0 ex I h' E' J,(∀N m,N0≤N→sdep code≤m→evTop C N m code ⟨env,aj,h⟩ d=some (ex,⟨I,aj,h'⟩,J))∧gS I E'∧Q ex E' h' J
section
variable {aj:Nat} {d:pV} {Q:Ex→List (Nat×V)→H→pV→Prop}
def noDef : List Oper→Bool
 |[]=>true
 |o::l=>(match o.op with
  |.defer _=>false
  |_=>true)&&noDef l
def noDefC : Code→Bool
 |.seq a b=>noDefC a&&noDefC b
 |.region _ ops false=>noDef ops.toList
 |_=>true
theorem N7 {self:Self}{L:List Oper}: ∀ {l:List Oper} {s s':St},noDef l=true→evOps C self L l s=some s'→evOpsD C self L l s d=some (s',d):=by
 intro l
 induction l<;>grind[evOps,noDef,evOpsD]
theorem evTop_of : ∀ {code:Code} {n:Nat} {s:St} {ex:Ex} {s':St} {d:pV},noDefC code=true→ev C n code s=some (ex,s')→∀N m,n≤N→sdep code≤m→evTop C N m code s d=some (ex,s',d):=by
 have leaf:∀ {code:Code} {n:Nat} {s:St} {ex:Ex} {s':St} {d:pV} {N m:Nat},(∀m,evTop C N (m+1) code s d=match ev C N code s with
   |some (ex,s')=>some (ex,s',d)
   |none=>none)→ev C n code s=some (ex,s')→n≤N→1≤m→evTop C N m code s d=some (ex,s',d):=fun {code n s ex s' d N m} he I J hm=>by
  obtain⟨k,rfl⟩:∃k,m=k+1:=⟨m-1,by omega⟩
  rw[he,dm J _ _ _ I]
 intro code
 induction code with
 |seq a b iha ihb =>
  intro n s ex s' d hn I N m J hm
  simp only[noDefC,bC] at hn
  simp only[sdep] at hm
  obtain⟨k,rfl⟩:∃k,m=k+1:=⟨m-1,by omega⟩
  cases n with
  |zero=>cases I
  |succ n =>
   rw[gZ] at I
   simp only[evStep] at I
   cases ha:ev C n a s with
   |none=>grind
   |some r =>
    obtain⟨e1,s1⟩:=r
    have h1:=iha (d:=d) hn.1 ha N k (by omega) (by omega)
    simp only[evTop,h1]
    rw[ha] at I
    cases e1 with
    |normal=>exact ihb hn.2 I N k (by omega) (by omega)
    |exit i=>grind
    |ret=>grind
 |region id ops draw =>
  intro n s ex s' d hn I N m J hm
  cases draw with
  |true=>exact leaf (fun m=>rfl) I J hm
  |false =>
   obtain⟨k,rfl⟩:∃k,m=k+1:=⟨m-1,by have:1≤m:=hm;omega⟩
   cases n with
   |zero=>cases I
   |succ n =>
    rw[gZ] at I
    simp only[evStep,aK] at I
    cases ho:evOps C (ev C n) ops.toList ops.toList s with
    |none=>grind
    |some s1 =>
     rw[ho] at I
     obtain⟨rfl,rfl⟩:=I
     have h2:=oa (dm (C:=C) (show n≤N by omega)) _ _ _ ho
     simp only[evTop,N7 (d:=d) hn h2]
 |_=>intro n s ex s' d hn I N m J hm;exact leaf (fun m=>rfl) I J hm
theorem WPd.of_wp (J:noDefC code=true)(hw:WP C aj code E h fun ex E' h'=>Q ex E' h' d): WPd C aj code E h d Q:=by
 intro env hE
 obtain⟨N,ex,I,h',E',h1,h2,h3⟩:=hw env hE
 exact⟨N,ex,I,h',E',d,fun M m hM hm=>evTop_of J h1 M m hM hm,h2,h3⟩
theorem WPd.seq {a b:Code}(hw:WPd C aj a E h d fun ex E' h' J=>match ex with
  |.normal=>WPd C aj b E' h' J Q
  |ex=>Q ex E' h' J): WPd C aj (.seq a b) E h d Q:=by
 intro env hE
 obtain⟨N,ex,I,h',E',J,h1,h2,h3⟩:=hw env hE
 have one:∀M m,N≤M→sdep (.seq a b)≤m+1→evTop C M m a ⟨env,aj,h⟩ d=some (ex,⟨I,aj,h'⟩,J):=fun M m hM hm=>h1 M m hM (by simp only[sdep] at hm;omega)
 have out:(match ex with|.normal=>False|_=>True)→Q ex E' h' J→∃N0 ex I h' E' J,(∀N m,N0≤N→sdep (.seq a b)≤m→evTop C N m (.seq a b) ⟨env,aj,h⟩ d=some (ex,⟨I,aj,h'⟩,J))∧gS I E'∧Q ex E' h' J:=fun hx hq=>by
  refine⟨N,ex,I,h',E',J,fun M m hM hm => ?_,h2,hq⟩
  obtain⟨k,rfl⟩:∃k,m=k+1:=⟨m-1,by simp only[sdep] at hm;omega⟩<;>grind[evTop]
 cases ex with
 |normal =>
  obtain⟨K,qv,AH,Fv,E2,d2,g1,g2,g3⟩:=h3 I h2
  refine⟨max N K,qv,AH,Fv,E2,d2,fun M m hM hm => ?_,g2,g3⟩
  obtain⟨k,rfl⟩:∃k,m=k+1:=⟨m-1,by simp only[sdep] at hm;omega⟩<;>grind[sdep,evTop]
 |exit i=>simp_all
 |ret=>simp_all
theorem WPd.defer {ops:Array Oper}{I J:Oper}{x1 y:Operand}{v:V}{first cap:List V}(hL:ops.toList=[I,J])(g1:I.guard=none)(d1:I.dst=some k)(p1:I.op=.move x1)(hk:Nat.blt k aj=true)(hx:aT E x1=some v)
 (g2:J.guard=none)(d2:J.dst=none)(p2:J.op=.defer cl)(hc:cl.callee=.value y)(hy:aT ((k,v)::E) y=some (.fn (.func g) first cap))(ha:lookArgs ((k,v)::E) cl.args.toList=some args)
 (hq:Q .normal ((k,v)::E) h ((g,first++args,cap)::d)): WPd C aj (.region id ops false) E h d Q:=by
 intro env hE
 have R_:gS (env.set k (some v)) ((k,v)::E):=hE.set _ _
 refine⟨0,.normal,env.set k (some v),h,(k,v)::E,(g,first++args,cap)::d,fun M m _ hm => ?_,R_,hq⟩
 obtain⟨j,rfl⟩:∃j,m=j+1:=⟨m-1,by have:1≤m:=hm;omega⟩
 have e1:evOpsD C (ev C M) [I,J] [I,J] ⟨env,aj,h⟩ d=some (⟨env.set k (some v),aj,h⟩,(g,first++args,cap)::d):=by
  have sN:wantedV [I,J] env I=true:=by simp[wantedV,g1]
  have Y3:evOp C (ev C M) env h I=some (v,h):=by simp only[evOp,p1,bE hE hx];rfl
  have Qo:St.put ⟨env,aj,h⟩ I.dst v h=some ⟨env.set k (some v),aj,h⟩:=by grind[St.put]
  rw[evOpsD]
  grind[evOpsD,kZ,bE]
 simp only[evTop,hL,e1]
theorem toldDefer_do {f:FuncId}{R:V→H→Prop}(hf:C.P.funcs[f]?=some fn)(hb:fn.body=some code)(hl:Nat.blt fn.ntmps args.length=false)(hdp:sdep code≤1000)
 (hw:WPd C fn.ntmps code (argE args 0) h [] fun ex E' h' d'=>(match ex with|.exit _=>False|_=>True)∧∃I v,(∃N0,∀N,N0≤N→runDefs C N d' h'=some I)∧resLE C.P E' I fn.results.toList=some v∧R v I):
  ∃v I,(∃N0,∀N,N0≤N→toldDefer C N f args h=some (v,I))∧R v I:=by
 obtain⟨N0,ex,J,h',E',d',h1,I,hx,h3,v,⟨N1,hr⟩,Al,hR⟩:=hw _ (qZ args)
 refine⟨v,h3,⟨max N0 N1,fun N hN => ?_⟩,hR⟩
 have e1:=h1 N 1000 (by omega) hdp
 have e3:resOf C.P ⟨J,fn.ntmps,h3⟩ fn.results.toList=some v:=by
  unfold resLE at Al
  cases hm:mapO (resE C.P E' h3) fn.results.toList with
  |none=>grind
  |some vs =>
   have DF:=ux (P:=C.P) (s:=⟨J,fn.ntmps,h3⟩) I hm
   grind[resOf]
 unfold toldDefer
 simp only[hf,hb,hl,aK,e1]
 cases ex with
 |exit i=>grind
 |normal=>grind
 |ret=>grind
theorem mR {g:FuncId}{v:V}{J:H}(ht:C.told g=none)(hf:C.P.funcs[g]?=some fn)(hb:fn.body=some code)(hq:quietParts code=none)(hc:gD C g args h v J): ∃I,∀N,I≤N→runDefs C N [(g,args,[])] h=some J:=by
 obtain⟨I,h0⟩:=hc
 refine⟨I,fun N hN => ?_⟩
 have e:=n_ (dm (C:=C) hN) h0
 grind[runDefs,defCall]
end
def tI (f:FuncId)(args:List V)(h:H)(r:V×H): Prop:=∃I,∀N,I≤N→toldDefer CB N f args h=some r
theorem Call.defer {told:cE}{f:FuncId}{R:V→H→Prop}(ht:told f=some (iN Tryz.prog f (tI f)))(hf:Tryz.prog.funcs[f]?=some fn)(hb:fn.body.isSome=true)
 (hd:∃v I,(∃J,∀N,J≤N→toldDefer CB N f args h=some (v,I))∧R v I): Call ⟨Tryz.prog,told⟩ f args h R:=by
 obtain⟨v,I,⟨J,h0⟩,hR⟩:=hd
 obtain⟨r,e1,N1,h1⟩:=qc (P:=Tryz.prog) (f:=f) (jb:=tI f) (args:=args) (h:=h) (r:=(v,I)) ⟨J,h0⟩ (fun c w n4 hw=>wV (C:=CB) jK iI (h0 J (aS _)) n4 hw)
 have:r=(v,I):=by
  have a:=h0 (max J N1) (by omega)
  grind
 subst this
 exact⟨v,I,gD.told ht hf hb e1,hR⟩
section
theorem TJ (s:Sat h S){e:TypeId}{z:V}(hu:P.underlying t=some (.slice e))(hz:zeroT P e=some z)(hk:bj P e=some 1)(hl:z.cells.length=1)(hx:x.cells=[x])(hy:y.cells=[y])(I:storable x=true)(J:storable y=true):
  ∃v h',buildSliceV P h t 2 [(0,x),(1,y)]=some (v,h')∧Sat h' (.arr 1 v [x,y]::S):=by
 refine⟨.sl h.next 0 2 (.exact 2),newRow h [x,y],?_,?_⟩
 ·obtain⟨z0,AX⟩:∃z0,z.cells=[z0]:=by
   match hq:z.cells with
   |[]=>rw[hq] at hl;cases hl
   |[z0]=>exact⟨z0,rfl⟩
   |_::_::_=>rw[hq] at hl;simp at hl
  simp only[buildSliceV,hu,hk,hz,AX]
  rw[show(Nat.beq [z0].length 1&&Nat.ble (2*1) 65536&&Nat.ble 1 1)=true by rfl,ai]
  have e1:repeatL [z0] 2=[z0,z0]:=by simp[repeatL]
  simp only[fillV,e1,hx,hy,bq,cD]
  show cond ([x,y].all storable) (some (V.sl h.next 0 2 (Cap.exact 2),newRow h [x,y])) none=_
  simp only[jv,j7,I,J]
  rfl
 ·refine(s.new _).gO fun m r hm=>⟨by simp[I,J],.inr ⟨h.next,2,.exact 2,2,[],rfl,?_,rfl,rfl,rfl,rfl,aS _⟩⟩
  have hm:m h.next=some (.cells 2 [x,y] false):=hm
  rw[hm];rfl
theorem TK {S:Prop}: cq (pu S) (cz .aO []):=fun _ _ _=>.inl ⟨fun _ h=>(by cases h),.inl ⟨.inl rfl,rfl⟩⟩
end
theorem B2 {kd:Nat}: buildV Tryz.prog 104 [(0,.int .i64 (kd:Int))]=some (.agg (c5 (kd:Int) 0 0 0 .aO .aO)):=by rw[sS];rfl
section
variable {told:cE} {M p:Nat} {v op cv:V} {us:List V} {kd:Nat}
theorem dx.done (hw:NW N now)(hd:∀m,pgA ah m=match lookL m now with|some b=>cS b aB|none=>pgA ε m){i:Int}(I:dx (pgG now ε i) kd link extra cs): dx (pgA ah i) kd link extra cs:=by
 rw[hd]
 unfold pgG at I
 cases J:lookL i now with
 |none=>rw[J] at I;exact I
 |some b =>
  rw[J] at I
  obtain⟨k1,k2,_⟩:=D8 (n:=aB) I.len
  exact I.tail k2 k1
theorem jm.done {M:List Nat}(hw:NW N now)(hd:∀m,pgA ah m=match lookL m now with|some b=>cS b aB|none=>pgA ε m)(I:jm n R M (pgG now ε)): jm n R M (pgA ah):=by
 obtain⟨ex,J⟩:=I.head
 obtain⟨kd,lk,qv,h1⟩:=I.marks
 exact⟨⟨ex,J.done hw hd⟩,I.rl,⟨kd,lk,qv,h1.done hw hd⟩,I.ml,I.n1,I.n2,I.own,I.hi⟩
theorem N8 (hT:W told)(g_:gR ε)(I:bY ε+65536≤268435456)(J:ε.2.1.b=ε.2.2.log)(ej:ε.2.1.base+ε.2.1.b.length+1048584≤1099511627776)(hNm:N≤65536)(hw:NW N now)(s:Sat h (GA g a p q r data aH now ε::S)):
  Call ⟨Tryz.prog,told⟩ 50 [.ptr g 0,.agg (c5 (kd:Int) 0 0 0 .aO .aO)] h fun v h'=>∃(aB:Nat) (e:Int) (cl:Bool) (ah:bA),qf ε now kd 0 0 0 [] 0 aB e cl ah∧v=.aI [.int .u64 (aB:Int),.int .i64 e] ∧
   Sat h' (dN g a now cl::SA a p q r (cond cl .a_ (.ptr g 0)) data aH ah::S):=by
 have s:=aZ.1 s
 have s:Sat h (dN g a now false::c8 a p q r (.ptr g 0) data aH::dM r p q ε.1::bQ q p ε.2.1::bw p ε.2.2::S):=s
 have s:=(s.fH (φ:=True) aa).ot (k:=4)
 refine(Jt (oD:=0) (data:=[]) hT (s.ae [2,2,2,2,2,1,0]) TK rfl g_ I (fun e he=>fW (hw.good e he).1) (by have:=hw.len;omega) (fun n hn=>by have:=hw.keys n hn;omega) (by decide) (by decide) (by decide) (eX _) J ej).mono ?_
 rintro v h ⟨aB,e,cl,ah,hr,rfl,s⟩
 have s:Sat h (dN g a now cl::c8 a p q r (cond cl .a_ (.ptr g 0)) data aH::dM r p q ah.1::bQ q p ah.2.1::bw p ah.2.2::pu True::S):=s
 have s2:Sat h (SA a p q r (cond cl .a_ (.ptr g 0)) data aH ah::dN g a now cl::pu True::S):=aZ.2 (s.ae [1,1,1,1,0])
 exact⟨aB,e,cl,ah,hr,rfl,(s2.ae [1]).del 2⟩
theorem N9 (hT:W told)(hB:B≤900)(I:EI N B ε)(hw:NW N now)(s:Sat h (GA g a p q r data aH now ε::S)):
  Call ⟨Tryz.prog,told⟩ 50 [.ptr g 0,.agg (c5 (kd:Int) 0 0 0 .aO .aO)] h fun v h'=>∃(aB:Nat) (e:Int) (cl:Bool) (ah:bA),qf ε now kd 0 0 0 [] 0 aB e cl ah∧v=.aI [.int .u64 (aB:Int),.int .i64 e] ∧
   Sat h' (dN g a now cl::SA a p q r (cond cl .a_ (.ptr g 0)) data aH ah::S):=by
 have J:=I.bY
 have ej:=I.el.size
 exact N8 hT I.ok (by omega) I.el.log (by omega) I.many hw s
theorem N_ (hT:W told)(hB:B≤900)(I:EI N B ε)(hw:NW N now){L:Nat}(hL:now.length≤L)(hN:N≤1024)(h1:1≤kd)(h2:kd≤7)(hd:wg K M ε)(hf:K+520*L+28≤M)(s:Sat h (GA g a p q r data aH now ε::S)):
  Call ⟨Tryz.prog,told⟩ 50 [.ptr g 0,.agg (c5 (kd:Int) 0 0 0 .aO .aO)] h fun v h'=>∃(aB:Nat) (ah:bA),v=.aI [.int .u64 (aB:Int),.int .i64 0]∧EI N (B+2) ah∧(∀m,pgA ah m=match lookL m now with|some b=>cS b aB|none=>pgA ε m)∧wg (K+520*L+28) M ah ∧
   Sat h' (dN g a now true::SA a p q r .a_ data aH ah::S)∧qf ε now kd 0 0 0 [] 0 aB 0 true ah:=by
 refine(N9 hT hB I hw s).mono ?_
 rintro v h ⟨aB,e,cl,ah,hr,rfl,s⟩
 obtain⟨rfl,rfl,J⟩:=hr.fits I (by omega) hw hL hN h1 h2 (by decide) hd hf
 rcases I.done (by omega) hw (by omega) (by omega) hr with⟨iZ,_⟩|⟨_,_,D5,gd⟩
 ·cases iZ
 ·exact⟨aB,ah,rfl,D5,gd,J,s,hr⟩
theorem QF (J:W told)(hB:B≤900)(I:EI N B ε)(hw:NW N now)(hN:N≤1024)(h1:1≤kd)(h2:kd≤7)(hd:wg K M ε)(hf:K+520*N+28≤M)(s:Sat h (GA g a p q r data aH now ε::S)):
  Call ⟨Tryz.prog,told⟩ 50 [.ptr g 0,.agg (c5 (kd:Int) 0 0 0 .aO .aO)] h fun v h'=>∃(aB:Nat) (ah:bA),v=.aI [.int .u64 (aB:Int),.int .i64 0]∧EI N (B+2) ah∧(∀m,pgA ah m=match lookL m now with|some b=>cS b aB|none=>pgA ε m)∧wg (K+520*N+28) M ah ∧
   Sat h' (dN g a now true::SA a p q r .a_ data aH ah::S)∧qf ε now kd 0 0 0 [] 0 aB 0 true ah:=N_ J hB I hw hw.len hN h1 h2 hd hf s
noncomputable def mdL : Code:=c6 [1,1,1,0,1,0,0] ((Tryz.f147.body).getD .skip)
theorem Oa (hT:W told)(eR:26+4*cs.length+tot cs≤512)(hul:us.length=cs.length): ∀(m i:Nat) (v:V) (b:List Nat) (h:H) (E:List (Nat×V)) (Q:Ex→List (Nat×V)→H→Prop),i+m=cs.length→dx b kd link extra (cs.take i) →
  Sat h (aW v b::each (fun v c=>.cL v c) us cs::.arr 1 cv us::S)→Has E [(7,v),(22,cv),(23,.int .i64 (cs.length:Int)),(24,.int .i64 (i:Int))] →
  (∀v' b' E' h',dx b' kd link extra cs→Has E' [(7,v')]→Sat h' (aW v' b'::each (fun v c=>.cL v c) us cs::.arr 1 cv us::S)→Q (.exit 0) E' h')→WP ⟨Tryz.prog,told⟩ 38 (.loop mdL) E h Q:=by
 intro m
 induction m with
 |zero =>
  intro i v b h E Q hi hp s hE hq
  refine WP.loop (WP.has hE (zg rfl (zC rfl aJ (by simp;omega) ?_)))
  exact zk 3 rfl (WP.exit (hq v b _ _ (by rw[show cs.take i=cs from fS (by omega)] at hp;exact hp) ⟨rfl,aa⟩ s))
 |succ m ih =>
  intro i v b h E Q hi hp s hE hq
  have I:cs[i]?=some (cs[i]'(by omega)):=bp _
  generalize (cs[i]'(by omega))=c at I
  obtain⟨u,hu,s⟩:=Ta (fun _ _=>aX.cL _ _) (s.ae [1]) I
  dsimp only[aC,bringA] at s
  obtain⟨id,off,e1,e2⟩:=k_ (P:=Tryz.prog) s (k:=3) (i:=i) (c:=u) rfl hu gy jR
  have NN:=lW I
  have Ji:=mQ (cs:=cs) (i:=i+1)
  have hlen:(cs.take i).length=i:=by rw[j6];omega
  have htk:cs.take (i+1)=cs.take i++[c]:=by rw[Cp,I];rfl
  refine WP.loop (WP.has hE (zg rfl (zB rfl aJ (by simp;omega) ?_)))
  refine zk 5 rfl (WP.block (zK 3 rfl (zo rfl (cu (r:=.ptr id off) rfl rfl e1) (zl rfl (e2 _ bX) (zk 7 rfl ?_)))))
  have J:=JA (told:=told) hT (s.ae [2,0]) (aU _ _) (eC _ _) hp (by rw[hlen];omega)
  rw[hlen] at J
  refine zc rfl (J) ?_
  rintro r h ⟨u',b',rfl,oI,s⟩
  rw[←htk] at oI
  refine zk 4 rfl (zv (zr rfl (zb rfl (by exact aR (ax (by omega) (by omega))) ?_)))
  refine zm rfl (zv ?_)
  exact ih (i+1) u' b' _ _ Q (by omega) oI (((s.ae [0,2,2]).del 4).del 3) ⟨rfl,rfl,rfl,rfl,aa⟩ hq
theorem JK (hT:W told)(Y8:kd≤255)(Jz:lk<4294967296)(I:26+4*cs.length+tot cs≤512)(J:us.length=cs.length)(s:Sat h (each (fun v c=>.cL v c) us cs::.arr 1 cv us::S)):
  Call ⟨Tryz.prog,told⟩ 147 [.int .i64 (kd:Int),.int .i64 (lk:Int),cv] h fun r h'=>∃b',dx b' kd lk 0 cs∧Sat h' (aW r b'::S):=by
 refine Call.of_wp (hT.free _ rfl) Tryz.func147 rfl rfl (zK 7 rfl (zc rfl (GB (kd:=kd) hT s Y8) ?_))
 rintro r h ⟨u,b,rfl,hb,s⟩
 refine zk 10 rfl (zc rfl (Jy (lk:=lk) (ex:=0) hT s (aU _ _) hb Jz (by decide)) ?_)
 rintro r h ⟨u2,b2,rfl,Fe,s⟩
 refine zk 9 rfl (zo rfl (aQ rfl rfl rfl (s.gF (n:=cs.length) (j:=3) rfl (by rw[J,iz]) (by decide) gy)) ?_)
 refine zk 2 rfl (WP.block ?_)
 refine Oa hT I J cs.length 0 u2 b2 _ _ _ (by omega) Fe (s.ae [0,1,1]) ⟨rfl,rfl,rfl,rfl,aa⟩ (fun v' b' E' h' uV hE s' => ?_)
 have s:=s'
 exact WP.has hE (zK 5 rfl (WP.ret ⟨aa,_,rfl,b',uV,((s.del 3).del 2).del 1⟩))
theorem Li (J:W told)(s:Sat h (X::S))(hX:cq X (cz v b))(hl:b.length=512)(hg:bW b=false): Call ⟨Tryz.prog,told⟩ 203 [v] h fun r h'=>r=.aI [.aO,.int .i64 4]∧Sat h' (X::S):=by
 refine Call.of_wp (J.free _ rfl) Tryz.func203 rfl rfl (zK 8 rfl (zc rfl (r8 J s hX (by omega)) ?_))
 rintro r h' ⟨s,(⟨I,rfl⟩|⟨_,rfl⟩)⟩
 ·rw[hg] at I;cases I
 refine zk 3 rfl ?_
 refine aq.bG s rfl rfl rfl (bM iT) (fun p4 h s => ?_)
 refine zS rfl (s.fh (j:=0) rfl bB rfl rfl) (fun h s => ?_)
 refine zk 6 rfl (zB rfl aA (by decide) ?_)
 exact zk 8 rfl (WP.ret ⟨aa,_,rfl,rfl,s.drop⟩)
theorem Ob (hT:W told)(hR:BW told N B rv A pg)(J:EI N B ε)(hN:1≤N)(hl:(pg ε 0).length=512)(hg:bW (pg ε 0)=false)(s:Sat h (A ε::S)):
  Call ⟨Tryz.prog,told⟩ 144 [rv] h fun v h'=>∃ah,v=.aI [.aO,.int .i64 0,.bool false,.int .i64 0]∧EI N B ah∧Sm N ε ah∧Sat h' (A ah::S):=by
 obtain⟨ty,u,f,rfl,hm,iY⟩:=hR.iface
 refine Call.of_wp (hT.free _ rfl) Tryz.func144 rfl rfl (zK 10 rfl (aq.any rfl rfl rfl (OpR.invoke rfl rfl rfl hm rfl (iY J (by decide) (by omega) s)) ?_))
 rintro v h ⟨u,ah,rfl,I,hs,s⟩
 refine zk 10 rfl (zC rfl aA (rfl) (zk 6 rfl (zc rfl (Li hT s (aU _ _) hl hg) ?_)))
 rintro v h ⟨rfl,s⟩
 refine zk 8 rfl (WP.drawn [af,af,af,af,af,af,af,af,some (0,2),some (0,2),some (0,2),af,af,af,af,af,af,af,af,af,af,af] rfl (by kernel_rfl) (by kernel_rfl) ?_)
 refine zM rfl (az.w6 rfl rfl rfl rfl (ak rfl rfl aA) (by decide) ?_)
 refine zM rfl (az.no (e:=false) rfl rfl rfl rfl (az.no (e:=false) rfl rfl rfl rfl (az.no (e:=false) rfl rfl rfl rfl (zO rfl (oV rfl rfl) (zM rfl (az.no (e:=false) rfl rfl rfl rfl (az.no (e:=false) rfl rfl rfl rfl (az.no (e:=false) rfl rfl rfl rfl (az.no (e:=true) rfl rfl rfl rfl (az.no (e:=true) rfl rfl rfl rfl (az.no (e:=false) rfl rfl rfl rfl (zO rfl (oV rfl rfl) (zM rfl (az.no (e:=false) rfl rfl rfl rfl (az.no (e:=false) rfl rfl rfl rfl (az.no (e:=false) rfl rfl rfl rfl (az.no (e:=false) rfl rfl rfl rfl (az.no (e:=false) rfl rfl rfl rfl (zO rfl (oV rfl rfl) ?_)))))))))))))))))))
 refine az.nil ⟨⟨aa,aa,aa,aa,aa,aa,aa,aa,fun _ _=>.inl rfl,fun _ _=>.inl rfl,fun _ _=>.inl rfl,aa,aa,aa,aa,aa,aa,aa,aa,aa,aa,aa,aa⟩,?_⟩
 exact zK 8 rfl (WP.ret ⟨aa,_,rfl,ah,rfl,I,hs,s.drop⟩)
theorem wj (hT:W told)(hR:BW told N B rv A pg)(J:EI N B ε)(hN:1≤N)(hl:(pg ε 0).length=512)(hg:bW (pg ε 0)=false)(s:Sat h (A ε::S)):
  Call ⟨Tryz.prog,told⟩ 78 [rv] h fun v h'=>∃ah,v=.aI [.bool false,.int .i64 0]∧EI N B ah∧Sm N ε ah∧Sat h' (A ah::S):=by
 refine Call.of_wp (hT.free _ rfl) Tryz.func78 rfl rfl (zK 8 rfl (zc rfl (Ob hT hR J hN hl hg s) ?_))
 rintro v h ⟨ah,rfl,I,hs,s⟩
 exact zk 17 rfl (WP.ret ⟨aa,_,rfl,ah,rfl,I,hs,s⟩)
end
def xN : List Nat:=((List.replicate 375 0).set 0 1).set 0 3
theorem Oc : bt xN j=decide (j<2):=by
 unfold bt xN
 by_cases h:j/8=0
 ·have e:(((List.replicate 375 0).set 0 1).set 0 3).getD (j/8) 0=3:=by rw[h];decide +kernel
  have k:∀i,i<8→(3:Nat).testBit i=decide (i<2):=by decide
  rw[e,k _ (by omega)]
  by_cases I:j<2
  ·rw[ew I,ew (by omega)]
  ·rw[fg I,fg (by omega)]
 ·have e:(((List.replicate 375 0).set 0 1).set 0 3).getD (j/8) 0=0:=by
   rw[tO,oP (by omega),oP (by omega),List.getElem?_replicate]
   split<;>rfl
  rw[e,Nat.zero_testBit,fg (by omega)]
def GDn (N B kd:Nat)(ε ah:bA): Prop:=∃(I:bA) (now:List (Int×List Nat)) (aB:Nat),EI N B I∧Sm N ε I∧NW N now∧(∀i:Int,2≤i→lookL i now=none)∧qf I now kd 0 0 0 [] 0 aB 0 true ah
section
variable {told:cE} {M p:Nat}
theorem Od (hB:B≤800)(ku:EI N B ε)(hN:4≤N)(hN2:N≤1000)(hz:(pgA ε 0).length=512)(hg:bW (pgA ε 0)=false)(hd:wg K M ε)(hf:K+520*N+28≤M)(s:Sat h (SA a p q r .a_ data aH ε::S)):
  ∃v h2,(∃N0,∀n,N0≤n→toldDefer CB n 79 [.ptr a 0] h=some (v,h2))∧(v=.int .i64 0∧∃ah,EI N (B+2) ah∧jm N (List.replicate 64 0) xN (pgA ah)∧wg (K+520*N+28) M ah∧Sat h2 (SA a p q r .a_ data aH ah::S)∧GDn N B 1 ε ah):=by
 have I:=W.base
 refine toldDefer_do (C:=CB) Gk rfl rfl (of_decide_eq_true (by kernel_rfl)) ?_
 refine WPd.seq (WPd.of_wp rfl (zr rfl (za rfl (zv (WPd.seq (WPd.of_wp rfl (zr rfl (zm rfl (zo rfl (pI rfl (mki_of BQ rfl)) (zc rfl (wj I (Le I (by omega)) ku (by omega) hz hg s) ?_))))))))))
 rintro v h ⟨lE,rfl,mC,fX,s⟩
 have hd:=hd.sm fX
 have s:Sat h (c8 a p q r .a_ data aH::dM r p q lE.1::bQ q p lE.2.1::bw p lE.2.2::S):=aZ.1 s
 refine zk 5 rfl (zv (WPd.seq (WPd.of_wp rfl (WP.block (zg rfl (zm rfl (zh rfl (ak rfl rfl aA) (rfl) (za rfl (zv (zj rfl (zg rfl (zk 2 rfl (zv (zj rfl (WP.skip (WPd.seq (WPd.of_wp rfl (zr rfl (zm rfl (zc rfl (Qs I s) ?_))))))))))))))))))))
 rintro v h' ⟨rfl,rfl⟩
 refine zc rfl (As I (s.ae [3])) ?_
 rintro v h' ⟨rfl,rfl⟩
 rw[mC.ec.dk.bu]
 refine za rfl (zv (WPd.seq (WPd.of_wp rfl (zr rfl (zm rfl (zc rfl (NS I (n:=N) (by omega) (by omega)) ?_))))))
 rintro v h' ⟨rfl,rfl⟩
 refine za rfl (zv (WPd.seq (WPd.of_wp rfl (zr rfl (zm rfl (zc rfl (qd I s) ?_))))))
 rintro v h ⟨g,rfl,s⟩
 refine zk 5 rfl (zv (WPd.seq (WPd.seq (WPd.of_wp rfl (zr rfl (zm rfl (zh rfl (ak rfl rfl aA) (rfl) (zv (WPd.of_wp rfl (zj rfl (WP.skip (WPd.seq (WPd.defer rfl rfl rfl rfl rfl rfl rfl rfl rfl rfl rfl rfl (WPd.seq (WPd.seq (WPd.of_wp rfl (zr rfl (zk 2 rfl (zb rfl (by exact aR (ax (by omega) (by omega))) ?_)))))))))))))))))))
 refine zC rfl aJ (by simp;omega) ?_
 have s:Sat h (GA g a p q r data aH [] lE::S):=aZ.2 s
 refine zv (WPd.of_wp rfl (zj rfl (WP.skip (WPd.seq (WPd.seq (WPd.of_wp rfl (WP.drawn [some (0,5),some (0,4),af,af,af,af,af,af] rfl (by kernel_rfl) (by kernel_rfl) ?_)))))))
 refine zM rfl (zM rfl (az.any rfl rfl rfl rfl (OpR.call rfl rfl rfl rfl (GD I s)) ?_))
 intro mv h s
 refine az.any rfl rfl rfl rfl (OpR.Bx rfl s rfl rfl rfl rfl (by decide)) ?_
 intro Ze h s
 have s:=s.gP
 have V9:(List.replicate 64 0).length=64:=gi
 have hm:=(s.aD (k:=1) rfl (eC _ _)).cells
 have Zf:=(s.aD (k:=0) rfl (eC _ _)).cells
 obtain⟨cv,h1,e1,s1⟩:=TJ (P:=Tryz.prog) (x:=mv) (y:=Ze) s gy qm jR rfl hm.1 Zf.1 hm.2 Zf.2
 refine az.any rfl rfl rfl rfl (OpR.of (R:=fun v h'=>v=cv∧h'=h1) (ob rfl e1) ⟨rfl,rfl⟩) ?_
 rintro cv h ⟨rfl,rfl⟩
 have s:=(s1.ae [2,1]).two (C:=each (fun v c=>.cL v c) [mv,Ze] [eU,List.replicate 64 0]) (aX.cL _ _) (aX.cL _ _) fun a b q1 q2=>⟨q1,q2,aa⟩
 generalize hR:List.replicate 64 0=R at s V9
 refine az.any rfl rfl rfl rfl (OpR.call rfl rfl rfl rfl (JK (kd:=201) (lk:=N) I (by decide) (by omega) (by simp only[tot,eU,bq,cD,V9];decide) rfl s)) ?_
 rintro u h ⟨b0,sH,s⟩
 refine az.any rfl rfl rfl rfl (OpR.call rfl rfl rfl rfl (B1 (i:=0) I (by omega) mC (NW.nil N) (by omega) (s.ae [1,0]) (aU _ _) sH)) ?_
 rintro v h ⟨oH,rfl,sr,oL,sx,s⟩
 have hd:=hd.sm oL
 refine zA rfl ?_
 refine az.nil ⟨⟨fun _ _=>.inr ⟨rfl,⟨_,bf rfl⟩,aN _ rfl⟩,fun _ _=>.inr ⟨rfl,⟨_,bf rfl⟩,aN _ rfl⟩,aa,aa,aa,aa,aa,aa,aa⟩,?_⟩
 refine WPd.seq (WPd.of_wp rfl (zr rfl (zm rfl (zh rfl (ak rfl rfl aA) (rfl) (zv (WPd.of_wp rfl (zj rfl (WP.skip (WPd.seq (WPd.seq (WPd.of_wp rfl (zr rfl (za rfl (zv (WPd.of_wp rfl (WP.block (WP.loop (zw (zg rfl (zk 2 rfl (zt rfl (ak rfl rfl aJ) (by decide) ?_)))))))))))))))))))))
 refine zv (zi rfl (WP.skip (zw (WP.block (zg rfl (aq.any rfl rfl rfl (OpR.Bx rfl s rfl rfl rfl rfl (by decide)) ?_))))))
 intro mk h s
 have J:(List.replicate 375 0).length=375:=gi
 have AX:(List.replicate 375 0)[0]?=some 0:=by decide +kernel
 have R7:xN.length=375:=by unfold xN;rw[cY,cY,J]
 have GK:xN=((List.replicate 375 0).set 0 1).set 0 3:=rfl
 have JH:∀j,bt xN j=decide (j<2):=fun j=>Oc
 generalize xN=M0 at R7 GK JH ⊢
 generalize List.replicate 375 0=Z at s J AX GK
 obtain⟨id,off,e2,e3⟩:=er (s.buf (k:=0) rfl).view AX
 obtain⟨N5,GH,e4,h4,e5,s2⟩:=mM s (i:=0) (b:=1) (by omega) (by decide)
 have ee:V.ptr id off=V.ptr N5 GH:=by rw[e2] at e4;exact cx e4
 rw[←ee] at e5
 refine zk 8 rfl (WP.block (WP.loop (zg rfl (zB rfl aJ (by decide) ?_))))
 refine zk 5 rfl (WP.block (zK 8 rfl (zo rfl (ak (r:=.int .i64 0) rfl rfl (by kernel_rfl)) ?_)))
 refine zm rfl (zb rfl (by exact jP (ax (by omega) (by omega))) ?_)
 refine zB rfl c4 (by decide) ?_
 refine zk 2 rfl (WP.drawn [af,af,af,af,af,af,af,af,af,af,af,af] rfl (by kernel_rfl) (by kernel_rfl) ?_)
 refine zM rfl (zM rfl (zO rfl (ak (r:=.int .i64 0) rfl rfl (by kernel_rfl)) ?_))
 refine zO rfl (ak (r:=.int .i64 0) rfl rfl (by kernel_rfl)) ?_
 refine zO rfl (cu (r:=.ptr id off) rfl rfl e2) (zL rfl e3 (zM rfl (zO rfl (ak (r:=.int .i64 0) rfl rfl (by kernel_rfl)) ?_)))
 refine zO rfl (ak (r:=.int .u8 1) rfl rfl (by kernel_rfl)) ?_
 refine zO rfl (ak (r:=.int .u8 1) rfl rfl (by kernel_rfl)) ?_
 refine zO rfl (cu (r:=.ptr id off) rfl rfl e2) (az.iR rfl rfl rfl (OpR.uC rfl rfl rfl (⟨h4,e5,s2⟩)) ?_)
 rintro w h ⟨rfl,s⟩
 refine az.nil ⟨⟨aa,aa,aa,aa,aa,aa,aa,aa,aa,aa,aa,aa,aa⟩,?_⟩
 have rH:(Z.set 0 1)[0]?=some 1:=jt (by omega)
 have uN:(Z.set 0 1).length=375:=by rw[cY,J]
 obtain⟨V_,QG,e6,e7⟩:=er (s.buf (k:=0) rfl).view rH
 obtain⟨id6,aaj,e8,h7,e9,s3⟩:=mM s (i:=0) (b:=3) (by omega) (by decide)
 have ee:V.ptr V_ QG=V.ptr id6 aaj:=by rw[e6] at e8;exact cx e8
 rw[←ee] at e9
 refine zr rfl (zb rfl (by exact aR (ax (by omega) (by omega))) ?_)
 refine zm rfl (zv (WP.loop (zg rfl (zt rfl (ak rfl rfl aJ) (by decide) ?_))))
 refine zk 5 rfl (WP.block (zK 8 rfl (zo rfl (ak (r:=.int .i64 0) rfl rfl (by kernel_rfl)) ?_)))
 refine zm rfl (zb rfl (by exact jP (ax (by omega) (by omega))) ?_)
 refine zB rfl c4 (by decide) ?_
 refine zk 2 rfl (WP.drawn [af,af,af,af,af,af,af,af,af,af,af,af] rfl (by kernel_rfl) (by kernel_rfl) ?_)
 refine zM rfl (zM rfl (zO rfl (ak (r:=.int .i64 1) rfl rfl (by kernel_rfl)) ?_))
 refine zO rfl (ak (r:=.int .i64 0) rfl rfl (by kernel_rfl)) ?_
 refine zO rfl (cu (r:=.ptr V_ QG) rfl rfl e6) (zL rfl e7 (zM rfl (zO rfl (ak (r:=.int .i64 1) rfl rfl (by kernel_rfl)) ?_)))
 refine zO rfl (ak (r:=.int .u8 2) rfl rfl (by kernel_rfl)) ?_
 refine zO rfl (ak (r:=.int .u8 3) rfl rfl (by kernel_rfl)) ?_
 refine zO rfl (cu (r:=.ptr V_ QG) rfl rfl e6) (az.iR rfl rfl rfl (OpR.uC rfl rfl rfl (⟨h7,e9,s3⟩)) ?_)
 rintro w h ⟨rfl,s⟩
 refine az.nil ⟨⟨aa,aa,aa,aa,aa,aa,aa,aa,aa,aa,aa,aa,aa⟩,?_⟩
 rw[←GK] at s
 refine zr rfl (zb rfl (by exact aR (ax (by omega) (by omega))) ?_)
 refine zm rfl (zv (WP.loop (zg rfl (zh rfl (ak rfl rfl aJ) (by decide) ?_))))
 refine zk 3 rfl (WP.exit (zK 5 rfl ?_))
 have s:=s.gP
 have Sa:=(s.aD (k:=0) rfl (eC _ _)).cells
 obtain⟨Zg,h8,Vn,s4⟩:=k9 (P:=Tryz.prog) (k:=1) (x:=mk) s gy qm jR rfl (by decide) (by decide) (by rw[Sa.1];rfl) (by rw[Sa.1];simp only[jv,j7,Sa.2];rfl)
 rw[Sa.1] at s4
 refine aq.any rfl rfl rfl (OpR.of (R:=fun v h'=>v=Zg∧h'=h8) (ob rfl Vn) ⟨rfl,rfl⟩) ?_
 rintro Zg h ⟨rfl,rfl⟩
 have s:=(s4.ae [1]).gO (B:=each (fun v c=>.cL v c) [mk] [M0]) fun a b q=>⟨q,aa⟩
 dsimp only[aC,bringA] at s
 refine zc rfl (JK (kd:=202) (lk:=0) I (by decide) (by decide) (by simp only[tot,bq,cD,R7];decide) rfl s) ?_
 rintro u h ⟨b1,wE,s⟩
 refine zc rfl (B1 (i:=1) I (by omega) sr sx (by omega) (s.ae [1,0]) (aU _ _) wE) ?_
 rintro v h ⟨vI,rfl,qy,lX,nU,s⟩
 dsimp only[aC,bringA] at s
 have hd:=hd.sm lX
 refine za rfl (zv (zg rfl (zm rfl (zh rfl (ak rfl rfl aA) (rfl) (zv (zj rfl (WP.skip (zr rfl (zm rfl (zb rfl (by exact aR (ax (by omega) (by omega))) ?_))))))))))
 refine zk 2 rfl (WP.loop (zK 5 rfl (zC rfl aJ (by decide) ?_)))
 refine zk 2 rfl (WP.exit (WPd.seq (WPd.of_wp rfl (zK 2 rfl (zo rfl (b_ rfl (B2 (kd:=1))) (zc rfl (QF (kd:=1) I (by omega) qy nU (by omega) (by decide) (by decide) hd hf s) ?_))))))
 rintro v h ⟨aB,QH,rfl,Wa,gd,hd4,s,Oe⟩
 have Gz:jm N R M0 (pgG (cN ((1:Nat):Int) b1 (cN ((0:Nat):Int) b0 [])) vI):=by
  refine⟨⟨0,?_⟩,V9,⟨202,0,0,?_⟩,R7,by omega,by omega,fun j hj=>by rw[JH,ew hj],fun j hj=>by rw[JH,fg (by omega)]⟩
  ·rw[gz,ay (by decide),gz,aF (by decide)];exact sH
  ·rw[gz,aF (by decide)];exact wE
 refine zk 4 rfl (zv (WPd.seq (WPd.of_wp rfl (zr rfl (zk 2 rfl (zv (WPd.of_wp rfl (WP.ret ?_))))))))
 have s:=s.ae [1]
 have s:=aZ.1 s
 have s:=s.ae [4]
 obtain⟨v2,h2,uB,rfl,s⟩:=oC I s
 have s:=s.ae [1,1,1,1]
 have s:Sat h2 (SA a p q r .a_ data aH QH::_):=aZ.2 s
 have lV:mY 59=none:=I.free _ rfl
 exact⟨aa,h2,_,mR (C:=CB) lV uP rfl rfl uB,ql rfl,rfl,QH,Wa,Gz.done nU gd,hd4,((s.del 3).del 2).del 1,vI,_,aB,qy,(fX.trans oL).trans lX,nU,fun i hi=>by rw[jH,ay (by omega),jH,ay (by omega)];rfl,Oe⟩
end
def xO (R:List Nat)(i p:Nat): List Nat:=bx R (4*i) (le 4 p)
theorem GL {p:Nat}(I:R.length=64)(hi:i<16): (xO R i p).length=64:=by
 rw[xO,cQ (by rw[cF];omega),I]
theorem jm.roots {P:Int→List Nat}(h:jm N R M P){I:List Nat}(J:P' 1=P 1)(h0:∃ex,dx (P' 0) 201 N ex [eU,I])(hl:I.length=64): jm N I M P' :=
 ⟨h0,hl,by rw[J];exact h.marks,h.ml,h.n1,h.n2,h.own,h.hi⟩
theorem Ez (I:n<18446744073709551616): convV Tryz.prog h 3 32 (.int .i64 (n:Int))=some (.int .u64 (n:Int),h):=by
 simp only[convV,bz,bN,wrap_u64 I]
section
variable {told:cE} {p:Nat} {v:V} {sm:bA→bA→Prop}
theorem aak (J:Mo told N lv dd sm)(I:lv ε)(hw:NW N now){n:Int}(h0:0≤n)(h1:n<N)(s:Sat h (GA g a p q r data aH now ε::S)):
  Call ⟨Tryz.prog,told⟩ 207 [.ptr g 0,.int .i64 n] h fun v h'=>(∃ah,v=.aI [.aO,.int .i64 9]∧dd ah∧Sat h' (GA g a p q r data aH now ah::S))∨∃w ah,v=.aI [w,.int .i64 0]∧lv ah∧sm ε ah∧Sat h' (aW w (pgG now ε n)::GA g a p q r data aH now ah::S):=by
 obtain⟨ty,u,f,e,hm,hr⟩:=(J.gr (g:=g) (a:=a) (p:=p) (q:=q) (r:=r) (data:=data) (aH:=aH) hw).iface
 injection e with e1 e2
 subst e1
 subst e2
 rw[Dc] at hm
 obtain rfl:=cx hm
 exact hr I h0 h1 s
theorem Of (hT:W told)(hM:Mo told N lv dd sm)(ku:lv ε)(hw:NW N now)(hp:jm N R M (pgG now ε)){i z:Int}(s:Sat h (GA g a p q r data aH now ε::S)):
  Call ⟨Tryz.prog,told⟩ 153 [.ptr g 0,.int .i64 i,.int .i64 z] h fun v h'=>(v=.int .i64 9∧V2 N g a p q r data aH dd S h')∨∃ah cT,lv ah∧sm ε ah∧NW N cT∧cT.length≤now.length+1∧Sat h' (GA g a p q r data aH cT ah::S) ∧
   ((¬(0≤i∧i<16∧0≤z∧z<N)∧v=.int .i64 1∧cT=now)∨(0≤i∧i<16∧0≤z∧z<N∧v=.int .i64 0∧jm N (xO R i.toNat z.toNat) M (pgG cT ah)∧∀m,m≠0→pgG cT ah m=pgG now ε m)):=by
 obtain⟨ex,oJ⟩:=hp.head
 have BF:=hp.n1
 have v8:=hp.n2
 have BX:=hp.rl
 refine Call.of_wp (hT.free _ rfl) Tryz.func153 rfl rfl (zK 7 rfl (zo rfl (pI rfl (mki_of pZ rfl)) (zc rfl (GF hT (hM.gr hw) ku (by omega) oJ hp.rl s) ?_)))
 rintro v h (⟨I,rfl,s,hd⟩|⟨u,I,rfl,mC,fX,s⟩)
 ·skip
  refine zk 9 rfl (WP.block (zK 3 rfl (zB rfl aA (by decide) ?_)))
  exact zk 8 rfl (WP.ret ⟨aa,_,rfl,.inl ⟨rfl,I,now,hw,s,hd⟩⟩)
 have gd:pgG now I=pgG now ε:=hM.pgG fX
 have bad:∀ {h':H},¬(0≤i∧i<16∧0≤z∧z<N)→Sat h' (aW u R::GA g a p q r data aH now I::S)→∃ah cT,lv ah∧sm ε ah∧NW N cT∧cT.length≤now.length+1∧Sat h' (GA g a p q r data aH cT ah::S) ∧
   ((¬(0≤i∧i<16∧0≤z∧z<N)∧V.int .i64 1=.int .i64 1∧cT=now)∨(0≤i∧i<16∧0≤z∧z<N∧V.int .i64 1=.int .i64 0∧jm N (xO R i.toNat z.toNat) M (pgG cT ah)∧∀m,m≠0→pgG cT ah m=pgG now ε m)) :=
  fun Dv s=>⟨I,now,mC,fX,hw,qT _,s.drop,.inl ⟨Dv,rfl,rfl⟩⟩
 refine zk 9 rfl (WP.block (zK 3 rfl (zC rfl aA (rfl) (zk 6 rfl ?_))))
 by_cases h1:i<0
 ·skip
  refine zB rfl aJ (by simp;omega) ?_
  exact zk 20 rfl (WP.ret ⟨aa,_,rfl,.inr (bad (by omega) s)⟩)
 ·skip
  refine zC rfl aJ (by simp;omega) ?_
  refine zk 2 rfl ?_
  by_cases h2:16≤i
  ·skip
   refine zB rfl jQ (by simp;omega) ?_
   exact zk 17 rfl (WP.ret ⟨aa,_,rfl,.inr (bad (by omega) s)⟩)
  ·skip
   refine zC rfl jQ (by simp;omega) ?_
   refine zk 3 rfl ?_
   by_cases h3:z<0
   ·skip
    refine zB rfl aJ (by simp;omega) ?_
    exact zk 13 rfl (WP.ret ⟨aa,_,rfl,.inr (bad (by omega) s)⟩)
   ·skip
    refine zC rfl aJ (by simp;omega) ?_
    refine zk 4 rfl ?_
    by_cases h4:(N:Int)≤z
    ·skip
     refine zB rfl jQ (by simp;omega) ?_
     exact zk 8 rfl (WP.ret ⟨aa,_,rfl,.inr (bad (by omega) s)⟩)
    ·obtain⟨k,rfl⟩:∃k:Nat,i=k:=⟨i.toNat,by omega⟩
     obtain⟨w,rfl⟩:∃w:Nat,z=w:=⟨z.toNat,by omega⟩
     have Zh:4*(k:Int)=((4*k:Nat):Int):=by omega
     have Wb:4*((k:Int)+1)=((4*k+4:Nat):Int):=by omega
     refine zC rfl jQ (by simp;omega) ?_
     refine zk 2 rfl (zv (zj rfl (WP.skip (zw ?_))))
     have DY:=eN (s.buf (k:=0) rfl).view
     have Gn:=cH (s.buf (k:=0) rfl).view (a:=4*k) (b:=4*k+4) (by omega) (by omega)
     have BJ:=eN Gn.2.1
     have s0:=s
     refine WP.drawn [some (0,2),some (0,2),some (0,2),some (0,2),some (0,2),some (0,2),some (0,2),af,af,af,af] rfl (by kernel_rfl) (by kernel_rfl) ?_
     refine zM rfl (zM rfl (zO rfl (ak (r:=.int .i64 ((4*k:Nat):Int)) rfl rfl (by rw[←Zh];exact ik (ax (by omega) (by omega)))) ?_))
     refine zM rfl (zO rfl (ak (r:=.int .i64 ((k:Int)+1)) rfl rfl (aR (ax (by omega) (by omega)))) ?_)
     refine zO rfl (ak (r:=.int .i64 ((4*k+4:Nat):Int)) rfl rfl (by rw[←Wb];exact ik (ax (by omega) (by omega)))) ?_
     refine zO rfl (cf (p:=some (.int .i64 ((4*k:Nat):Int))) (q:=some (.int .i64 ((4*k+4:Nat):Int))) (m:=none) (p':=some (4*k)) (q':=some (4*k+4)) (m':=none) rfl rfl rfl rfl (by rw[cn (by omega),b8]) (by rw[cn (by omega),b8]) rfl (cH (s.buf (k:=0) rfl).view (a:=4*k) (b:=4*k+4) (by omega) (by omega)).1) ?_
     refine zM rfl (az.op rfl rfl rfl (by simp only[isEff,bN]) (bJ rfl (Ez (by omega))) ?_)
     have s:=s.rW
     refine az.any rfl rfl rfl rfl (OpR.call rfl rfl rfl rfl (uM (z:=4) (n:=w) hT s (by decide) (by simp))) ?_
     intro v h s
     rw[d_] at s
     have s:=s.ae [1,0]
     have s1:=s
     refine az.any rfl rfl rfl rfl (OpR.KK (p:=4*k) (q:=4*k+4) rfl s (aU _ _) rfl rfl rfl rfl (by omega) (by omega) (by rw[cF];omega)) ?_
     intro _ h s
     rw[fS (by rw[cF];omega)] at s
     have s:Sat h (aW u (xO R k w)::_):=s
     refine az.nil ⟨⟨fun _ _=>.inr ⟨rfl,⟨_,bf rfl⟩,DY⟩,fun _ _=>.inr ⟨rfl,⟨_,bf rfl⟩,aN _ rfl⟩,fun _ _=>.inr ⟨rfl,⟨_,ak (r:=.int .i64 ((4*k:Nat):Int)) rfl rfl (by rw[←Zh];exact ik (ax (by omega) (by omega)))⟩,aN _ rfl⟩,fun _ _=>.inr ⟨rfl,⟨_,bf rfl⟩,aN _ rfl⟩,fun _ _=>.inr ⟨rfl,⟨_,ak (r:=.int .i64 ((k:Int)+1)) rfl rfl (aR (ax (by omega) (by omega)))⟩,aN _ rfl⟩,fun _ _=>.inr ⟨rfl,⟨_,ak (r:=.int .i64 ((4*k+4:Nat):Int)) rfl rfl (by rw[←Wb];exact ik (ax (by omega) (by omega)))⟩,aN _ rfl⟩,dW (.inr ⟨rfl,⟨_,cf (p:=some (.int .i64 ((4*k:Nat):Int))) (q:=some (.int .i64 ((4*k+4:Nat):Int))) (m:=none) (p':=some (4*k)) (q':=some (4*k+4)) (m':=none) rfl rfl rfl rfl (by rw[cn (by omega),b8]) (by rw[cn (by omega),b8]) rfl (cH (s0.buf (k:=0) rfl).view (a:=4*k) (b:=4*k+4) (by omega) (by omega)).1⟩,BJ⟩) (.inr ⟨rfl,⟨_,cf (p:=some (.int .i64 ((4*k:Nat):Int))) (q:=some (.int .i64 ((4*k+4:Nat):Int))) (m:=none) (p':=some (4*k)) (q':=some (4*k+4)) (m':=none) rfl rfl rfl rfl (by rw[cn (by omega),b8]) (by rw[cn (by omega),b8]) rfl (cH (s1.buf (k:=0) rfl).view (a:=4*k) (b:=4*k+4) (by omega) (by omega)).1⟩,BJ⟩),aa,aa,aa,aa,aa⟩,?_⟩
     have s:=s.ae [2,0]
     refine zK 3 rfl (zc rfl (aak (n:=0) hM mC hw (by decide) (by omega) s) ?_)
     rintro v h (⟨oH,rfl,hd,s⟩|⟨w2,oH,rfl,sr,oL,s⟩)
     ·skip
      refine zk 10 rfl (zB rfl aA (by decide) ?_)
      exact zk 7 rfl (WP.ret ⟨aa,_,rfl,.inl ⟨rfl,oH,now,hw,(s.del 2).del 1,hd⟩⟩)
     have aal:dx (pgG now I 0) 201 N ex [eU,R]:=by rw[gd];exact oJ
     have s:=s.ae [0,1]
     refine zk 10 rfl (zC rfl aA (rfl) (zk 8 rfl (zc rfl (yV (i:=1) (c:=R) hT s (aU _ _) (aU _ _) aal rfl (by rw[GL BX (by omega),BX])) ?_)))
     rintro v h ⟨w3,b',rfl,J,s⟩
     have J:dx b' 201 N ex [eU,xO R k w]:=J
     refine zk 9 rfl (zC rfl aA (rfl) (zk 7 rfl (zc rfl (hM.gw (i:=0) sr hw (by omega) (s.ae [3,0]) (aU _ _) J) ?_)))
     rintro v h (⟨vI,rfl,s,hd⟩|⟨vI,rfl,qy,lX,nU,s⟩)
     ·skip
      exact zk 2 rfl (WP.ret ⟨aa,_,rfl,.inl ⟨rfl,vI,now,hw,(((s.del 4).del 3).del 2).del 1,hd⟩⟩)
     refine zk 2 rfl (WP.ret ⟨aa,_,rfl,?_⟩)
     have Wc:∀m:Int,m≠0→pgG (cN (0:Nat) b' now) vI m=pgG now ε m:=fun m hm=>by rw[gz,ay (by omega),hM.pgG lX,hM.pgG oL,gd]
     refine .inr ⟨vI,_,qy,hM.tr (hM.tr fX oL) lX,nU,su,?_,.inr ⟨by omega,by omega,by omega,by omega,rfl,?_,Wc⟩⟩
     ·exact(((s.del 4).del 3).del 2).del 1
     ·rw[b8,b8]
      exact hp.roots (Wc 1 (by decide)) ⟨ex,by rw[gz,aF (show((0:Nat):Int)=0 from rfl)];exact J⟩ (GL BX (by omega))
theorem Lj (J:W told)(hB:B≤2000)(I:EI N B ε)(hw:NW N now)(hp:jm N R M (pgG now ε)){i z:Int}(s:Sat h (GA g a p q r data aH now ε::S)):
  Call ⟨Tryz.prog,told⟩ 153 [.ptr g 0,.int .i64 i,.int .i64 z] h fun v h'=>∃ah cT,EI N B ah∧Sm N ε ah∧NW N cT∧cT.length≤now.length+1∧Sat h' (GA g a p q r data aH cT ah::S) ∧
   ((¬(0≤i∧i<16∧0≤z∧z<N)∧v=.int .i64 1∧cT=now)∨(0≤i∧i<16∧0≤z∧z<N∧v=.int .i64 0∧jm N (xO R i.toNat z.toNat) M (pgG cT ah)∧∀m,m≠0→pgG cT ah m=pgG now ε m)) :=
 (Of J (Mo.live J hB) I hw hp s).mono fun _ _ k=>k.resolve_left fun⟨_,_,_,_,_,q⟩=>q
end
theorem Im : ∀(k n:Nat),n<128^(k+1)→digits (k+1) n=digits k n:=by
 intro k
 induction k with
 |zero=>intro n I;rw[iq (by simpa using I),iq (by simpa using I)]
 |succ k J =>
  intro n I
  by_cases h:n<128
  ·rw[iq h,iq h]
  ·have hd:n/128<128^(k+1):=by
    rw[Nat.div_lt_iff_lt_mul (by omega)]
    rw[ue] at I
    exact I
   rw[digits,ay h,J _ hd,digits,ay h]
set_option maxRecDepth 10000 in
theorem Wd (h:n<256): Nat.land n 127=n%128:=by
 have:∀m:Fin 256,Nat.land m.1 127=m.1%128:=by decide
 exact this ⟨n,h⟩
theorem Io (h:n<256): intV .and .u8 (n:Int) 127=some (.int .u8 ((n%128:Nat):Int)):=by
 have I:((n:Int)%(2^(IntKind.u8).bits:Int)).toNat=n:=by simp only[IntKind.bits];omega
 have J:((127:Int)%(2^(IntKind.u8).bits:Int)).toNat=127:=by simp[IntKind.bits]
 simp only[intV,bitsV,I,J,Wd h,wrap_u8]
 congr 2
 omega
theorem Ip (I:n<18446744073709551616): convV Tryz.prog h 5 32 (.int .u8 (n:Int))=some (.int .u64 (n:Int),h):=by
 simp only[convV,Tryz.underlying5,bN,wrap_u64 I]
theorem Iq (I:n<9223372036854775808): convV Tryz.prog h 5 3 (.int .u8 (n:Int))=some (.int .i64 (n:Int),h):=by
 simp only[convV,Tryz.underlying5,bz,wrap_i64 I]
theorem GM (I:n<9223372036854775808): convV Tryz.prog h 32 3 (.int .u64 (n:Int))=some (.int .i64 (n:Int),h):=by
 simp only[convV,bN,bz,wrap_i64 I]
theorem GN (i:Nat): (128:Nat)^i=2^(7*i):=by rw[Nat.pow_mul]
theorem aam {d:Nat}(hd:d<128)(hi:i≤8): shiftV .shl .u64 (d:Int) ((7*i:Nat):Int)=some (.int .u64 ((d*128^i:Nat):Int)):=by
 have J:(128:Nat)^i≤128^8:=oO (by omega) hi
 have I:d*128^i<18446744073709551616:=by
  have:d*128^i≤127*128^8:=qQ (by omega) J
  omega
 simp only[shiftV,IntKind.bits,b8]
 rw[show min (7*i) 64=7*i by omega,show decide (((7*i:Nat):Int)<0)=false by simp;omega,aK]
 have:(d:Int)*2^(7*i)=((d*128^i:Nat):Int):=by rw[GN];push_cast;rfl
 simp only[this,wrap_u64 I]
theorem TL {d:Nat}(I:a<128^i)(hd:d<128)(hi:i≤8): intV .or .u64 (a:Int) ((d*128^i:Nat):Int)=some (.int .u64 ((a+d*128^i:Nat):Int)):=by
 have J:(128:Nat)^i≤128^8:=oO (by omega) hi
 have hm:d*128^i≤127*128^8:=qQ (by omega) J
 have h1:((a:Int)%(2^(IntKind.u64).bits:Int)).toNat=a:=by simp only[IntKind.bits];omega
 have h2:((d*128^i:Nat):Int)%(2^(IntKind.u64).bits:Int)=((d*128^i:Nat):Int):=by simp only[IntKind.bits];omega
 have h3:Nat.lor a (d*128^i)=a+d*128^i:=by
  have e:d*128^i=2^(7*i)*d:=by rw[←GN,qS]
  have:=IA (i:=7*i) (b:=a) (by rw[←GN];exact I) d
  rw[←e] at this
  rw[yh a,this]
  exact Nat.or_comm _ _
 simp only[intV,bitsV,h1,h2,b8,h3]
 rw[wrap_u64 (by omega)]
section
variable {told:cE} {c:Nat} {v w:V} {m:List Nat}
theorem kL (I:W told): Call ⟨Tryz.prog,told⟩ 251 [.bool true] h fun v h'=>v=.aI []∧h'=h:=by
 refine Call.of_wp (I.free _ rfl) Tryz.func251 rfl rfl (zg rfl (zm rfl (zh rfl (dB rfl rfl) (rfl) (zv (zj rfl (WP.skip ?_))))))
 exact⟨aa,_,rfl,rfl,rfl⟩
theorem QI (hT:W told){x:Nat}(s:Sat h (pt c (.cells 1 [v] false)::X::S))(hX:cq X (cz v (x::l))):
  Call ⟨Tryz.prog,told⟩ 247 [.ptr c 0] h fun r h'=>r=.int .u8 (x:Int)∧∃u,cq X (cz u l)∧Sat h' (pt c (.cells 1 [u] false)::X::S):=by
 have J:=s.aD (k:=1) rfl hX
 obtain⟨id,off,e1,e2⟩:=er J (i:=0) (b:=x) rfl
 have I:=gE J (a:=1) (by simp)
 have hu:=I.2.1.cells
 refine Call.of_wp (hT.free _ rfl) Tryz.func247 rfl rfl (zK 8 rfl (zY s 0 kn bX rfl (zo rfl (aQ rfl rfl rfl (bh aM J)) (zB rfl fI (by simp) ?_))))
 refine zc rfl (kL hT) ?_
 rintro r h' ⟨rfl,rfl⟩
 refine zk 5 rfl (zY s 0 kn bX rfl (zo rfl (cu (r:=.ptr id off) rfl rfl e1) (zl rfl e2 (zk 7 rfl (zY s 0 kn bX rfl (zo rfl (cf (p:=some (.int .i64 1)) (q:=none) (m:=none) (p':=some 1) (q':=none) (m':=none) rfl rfl rfl rfl rfl rfl rfl I.1) (zn rfl (zf rfl (kn _ _) (zS rfl (s.dL (k:=0) rfl jR rfl (by decide) hu.1 hu.2) ?_)))))))))
 rintro h s
 exact zk 6 rfl (WP.ret ⟨aa,_,rfl,rfl,_,uI hX (by simp),s⟩)
def Cu (h:H)(c:Nat)(X:aE)(S:List aE)(l:List Nat): Prop:=∃v,cq X (cz v l)∧Sat h (pt c (.cells 1 [v] false)::X::S)
theorem Dh (I:W told){x:Nat}(J:Cu h c X S (x::l)): Call ⟨Tryz.prog,told⟩ 247 [.ptr c 0] h fun r h'=>r=.int .u8 (x:Int)∧Cu h' c X S l:=by
 obtain⟨v,hX,s⟩:=J
 exact(QI I s hX).mono fun r h' ⟨e,u,hU,s'⟩=>⟨e,u,hU,s'⟩
noncomputable def We : Code:=c6 [1,1,0,0] ((Tryz.f248.body).getD .skip)
noncomputable def Sb : Code:=unblk (leftC We)
noncomputable def nbC : Code:=b6 (b6 (b6 Sb))
theorem Aa (hT:W told){x:Nat}(hx:x<256)(hi:i≤8)(ha:acc<128^i)
 (hc:Cu h c X S (x::l))(h0:look E 0=some (.ptr c 0))(h2:look E 2=some (.int .u64 (acc:Int)))(I:look E 3=some (.int .i64 (i:Int)))
 (hq:∀E' h',look E' 0=some (.ptr c 0)→look E' 2=some (.int .u64 ((acc+x%128*128^i:Nat):Int))→look E' 3=some (.int .i64 (i:Int))→look E' 4=some (.int .u8 (x:Int))→Cu h' c X S l→WP ⟨Tryz.prog,told⟩ 38 nbC E' h' Q):
  WP ⟨Tryz.prog,told⟩ 38 Sb E h Q:=by
 refine WP.seq (WP.region rfl ?_)
 refine zo rfl (bf h0) ?_
 refine zc rfl (Dh hT hc) (fun v h₁ ⟨e1,c1⟩ => ?_)
 subst e1
 refine aq.op rfl rfl rfl (dZ rfl) (aq.nil ?_)
 refine WP.seq (WP.region rfl ?_)
 refine zo rfl (bf I) (zo rfl (ak (v:=.int .i64 (i:Int)) (u:=.int .i64 9) (r:=.bool true) rfl rfl (by simp only[binV,ikBeq,ai,intV];congr 2<;>simp<;>omega)) ?_)
 refine zk 8 rfl ?_
 refine zc rfl (kL hT) (fun v J ⟨e2,p_⟩=>aq.nil ?_)
 subst e2;subst p_
 refine WP.seq (WP.region rfl ?_)
 refine zo rfl (bf h2) (zm rfl (zo rfl (ak (v:=.int .u8 (x:Int)) (u:=.int .u8 127) rfl rfl (by simp only[binV,ikBeq,ai];exact Io hx)) ?_))
 refine zo rfl (bJ (v:=.int .u8 ((x%128:Nat):Int)) rfl (Ip (by omega))) ?_
 refine zo rfl (bf I) ?_
 refine aq.op rfl rfl rfl (ak (v:=.int .i64 7) (u:=.int .i64 (i:Int)) (r:=.int .i64 ((7*i:Nat):Int)) rfl rfl (by
  simp only[binV,ikBeq,ai,intV]
  rw[show(7:Int)*(i:Int)=((7*i:Nat):Int) by push_cast;rfl,wrap_i64 (by omega)])) ?_
 refine zo rfl (ak (v:=.int .u64 ((x%128:Nat):Int)) (u:=.int .i64 ((7*i:Nat):Int)) rfl rfl (by simp only[binV];exact aam (by omega) hi)) ?_
 refine zo rfl (ak (v:=.int .u64 (acc:Int)) rfl rfl (by simp only[binV,ikBeq,ai];exact TL ha (by omega) hi)) ?_
 refine aq.op rfl rfl rfl (dZ rfl) (aq.nil ?_)
 exact hq _ _ h0 rfl I rfl c1
set_option maxRecDepth 4000 in
theorem B3 (hT:W told){m:Nat}(hi:i≤8)(hm:m<128)(hz:i=0∨0<m)(ha:acc<128^i)
 (hc:Cu h c X S (m::l))(h0:look E 0=some (.ptr c 0))(h2:look E 2=some (.int .u64 (acc:Int)))(h3:look E 3=some (.int .i64 (i:Int)))
 (hq:∀E' h',look E' 2=some (.int .u64 ((acc+m*128^i:Nat):Int))→Cu h' c X S l→Q .ret E' h'): WP ⟨Tryz.prog,told⟩ 38 (.loop We) E h Q:=by
 refine WP.loop (WP.seq (WP.block ?_))
 refine Aa hT (x:=m) (by omega) hi ha hc h0 h2 h3 (fun E1 h₁ q0 q2 q3 q4 c1 => ?_)
 rw[oQ hm] at q2
 refine WP.seq (WP.region rfl ?_)
 refine zo rfl (bf q4) ?_
 refine aq.op rfl rfl rfl (ak (v:=.int .u8 (m:Int)) (u:=.int .u8 128) (r:=.bool true) rfl rfl (by simp only[binV,ikBeq,ai,intV];congr 2<;>simp<;>omega)) (aq.nil ?_)
 refine WP.cond (t:=true) rfl (WP.seq (WP.region rfl ?_))
 refine zo rfl (bf q4) ?_
 by_cases Dt:0<m
 ·refine aq.op rfl rfl rfl (ak (v:=.int .u8 (m:Int)) (u:=.int .u8 0) (r:=.bool true) rfl rfl (by simp only[binV,ikBeq,ai,intV];congr 2<;>simp<;>omega)) ?_
  refine zk 4 rfl ?_
  refine zc rfl (kL hT) (fun v I ⟨e2,J⟩=>aq.nil ?_)
  subst e2;subst J
  refine WP.seq (WP.region rfl ?_)
  exact zo rfl (bf q2) (aq.op rfl rfl rfl (dZ rfl) (aq.nil (WP.ret (hq _ _ rfl c1))))
 ·have Za:i=0:=by omega
  have aan:m=0:=by omega
  subst Za;subst aan
  refine zo rfl (ak (v:=.int .u8 0) (u:=.int .u8 0) (r:=.bool false) rfl rfl rfl) (zm rfl (zo rfl (bf q3) (zo rfl (ak (v:=.int .i64 0) (u:=.int .i64 0) (r:=.bool true) rfl rfl rfl) (zp rfl ?_))))
  refine zc rfl (kL hT) (fun v I ⟨e2,J⟩=>aq.nil ?_)
  subst e2;subst J
  refine WP.seq (WP.region rfl ?_)
  exact zo rfl (bf q2) (aq.op rfl rfl rfl (dZ rfl) (aq.nil (WP.ret (hq _ _ rfl c1))))
set_option maxRecDepth 4000 in
theorem Ir (hT:W told): ∀(k m i acc:Nat) (h:H) (E:List (Nat×V)) (Q:Ex→List (Nat×V)→H→Prop),i+k≤8→m<128^(k+1)→(i=0∨0<m)→acc<128^i →
  Cu h c X S (digits k m++l)→look E 0=some (.ptr c 0)→look E 2=some (.int .u64 (acc:Int))→look E 3=some (.int .i64 (i:Int)) →
  (∀E' h',look E' 2=some (.int .u64 ((acc+m*128^i:Nat):Int))→Cu h' c X S l→Q .ret E' h')→WP ⟨Tryz.prog,told⟩ 38 (.loop We) E h Q:=by
 intro k
 induction k with
 |zero =>
  intro m i acc h E Q hi hm hz ha hc h0 h2 h3 hq
  have I:m<128:=by simpa using hm
  rw[iq I] at hc
  exact B3 hT (by omega) I hz ha hc h0 h2 h3 hq
 |succ k ih =>
  intro m i acc h E Q hi hm hz ha hc h0 h2 h3 hq
  by_cases I:m<128
  ·rw[iq I] at hc
   exact B3 hT (by omega) I hz ha hc h0 h2 h3 hq
  ·have hd:m/128<128^(k+1):=by
    rw[Nat.div_lt_iff_lt_mul (by omega)]
    rw[ue] at hm
    exact hm
   rw[digits,ay I] at hc
   refine WP.loop (WP.seq (WP.block ?_))
   refine Aa hT (x:=m%128+128) (by omega) (by omega) ha hc h0 h2 h3 (fun E1 h₁ q0 q2 q3 q4 c1 => ?_)
   refine WP.seq (WP.region rfl ?_)
   refine zo rfl (bf q4) ?_
   refine aq.op rfl rfl rfl (ak (v:=.int .u8 ((m%128+128:Nat):Int)) (u:=.int .u8 128) (r:=.bool false) rfl rfl (by simp only[binV,ikBeq,ai,intV];congr 2<;>simp<;>omega)) (aq.nil ?_)
   refine WP.cond (t:=false) rfl (WP.skip ?_)
   refine zr rfl (zo rfl (bf q3) (zo rfl (ak (v:=.int .i64 (i:Int)) (u:=.int .i64 1) (r:=.int .i64 ((i+1:Nat):Int)) rfl rfl (by exact aR (ax (by omega) (by omega)))) ?_))
   refine aq.op rfl rfl rfl (dZ rfl) (aq.nil ?_)
   have e1:(m%128+128)%128=m%128:=by omega
   rw[e1] at q2
   have J:128^(i+1)=128^i*128:=ue 128 i
   refine ih (m/128) (i+1) (acc+m%128*128^i) h₁ _ Q (by omega) hd (.inr (by omega)) ?_ c1 q0 q2 rfl (fun E' h' p1 p3=>hq E' h' ?_ p3)
   ·have:m%128*128^i≤127*128^i:=oN _ (by omega)
    rw[J];omega
   ·rw[p1]
    have:acc+m%128*128^i+m/128*128^(i+1)=acc+m*128^i:=by
     rw[J,qS (128^i) 128,←Nat.mul_assoc,nm,←nr]
     congr 2
     omega
    rw[this]
theorem tg (I:W told)(J:n<9223372036854775808)(hc:Cu h c X S (digits 9 n++l)):
  Call ⟨Tryz.prog,told⟩ 248 [.ptr c 0] h fun v h'=>v=.int .u64 (n:Int)∧Cu h' c X S l:=by
 rw[Im 8 n (by simpa using J)] at hc
 refine Call.of_wp (I.free _ rfl) Tryz.func248 rfl rfl (zK 8 rfl (WP.block ?_))
 refine Ir I 8 n 0 0 h _ _ (by omega) (by simpa using J) (.inl rfl) (by simp) hc rfl rfl rfl (fun E' h' q1 q2=>⟨aa,_,?_,rfl,q2⟩)
 have:0+n*128^0=n:=by simp
 rw[this] at q1
 show resLE _ E' h' [.tmp 2]=_
 simp only[resLE,mapO,resE,q1]
theorem vJ (I:W told)(hn:n≤1048576)(J:Cu h c X S (digits 9 n++l)):
  Call ⟨Tryz.prog,told⟩ 250 [.ptr c 0] h fun v h'=>v=.int .i64 (n:Int)∧Cu h' c X S l:=by
 refine Call.of_wp (I.free _ rfl) Tryz.func250 rfl rfl (zK 7 rfl (zc rfl (tg I (by omega) J) ?_))
 rintro v h' ⟨rfl,J⟩
 refine zk 5 rfl (zB rfl CV (by simp;omega) ?_)
 refine zc rfl (kL I) ?_
 rintro v h' ⟨rfl,rfl⟩
 refine zk 4 rfl (zo rfl (bJ rfl (GM (by omega))) ?_)
 exact zk 2 rfl (WP.ret ⟨aa,_,rfl,rfl,J⟩)
theorem GO (hT:W told)(hm:m.length≤1048576)(hc:Cu h c X S (digits 9 m.length++m++l)):
  Call ⟨Tryz.prog,told⟩ 249 [.ptr c 0] h fun v h'=>Cu h' c X (aW v m::S) l:=by
 rw[cX] at hc
 refine Call.of_wp (hT.free _ rfl) Tryz.func249 rfl rfl (zK 7 rfl (zc rfl (vJ hT hm hc) ?_))
 rintro v h ⟨rfl,v,I,s⟩
 have hv:=s.aD (k:=1) rfl I
 have J:=eN hv
 refine zk 7 rfl (zY s 0 kn bX rfl (zo rfl (aQ rfl rfl rfl (bh aM hv)) (zB rfl CV (by simp<;>omega) ?_)))
 refine zc rfl (kL hT) ?_
 rintro r h' ⟨rfl,rfl⟩
 refine zk 2 rfl ?_
 have s0:=s
 have Sc:=rU hv (b:=m.length) (by simp)
 have DJ:=eN Sc.2.1
 refine WP.drawn [none,none,some (0,2),some (0,2),some (0,2),some (0,2),some (0,2),some (0,2),none,none] rfl (by kernel_rfl) (by kernel_rfl) ?_
 refine zM rfl (az.any rfl rfl rfl rfl (OpR.rZ rfl s rfl rfl rfl rfl (by omega)) ?_)
 intro v2 h s
 have s:=s.ae [1,1,0]
 have sU:=eN (s.buf (k:=2) rfl).view
 have s1:=s
 have Sc:=rU (s.aD (k:=1) rfl I) (b:=m.length) (by simp)
 refine zM rfl (zN rfl (zF rfl (kn _ _) (zL rfl (s.ld (k:=0) rfl bX rfl) (zM rfl (zO rfl (cf (p:=none) (q:=some (.int .i64 (m.length:Int))) (m:=none) (p':=none) (q':=some m.length) (m':=none) rfl rfl rfl rfl rfl (by rw[cn (by omega)];rfl) rfl (rU (s.aD (k:=1) rfl I) (b:=m.length) (by simp)).1) ?_)))))
 refine az.any rfl rfl rfl rfl (OpR.rY rfl (s.ae [2,1]) (XP I (b:=m.length) (by simp)) rfl rfl rfl rfl (by rw[nk rfl];simp only[cD];omega)) ?_
 intro v3 h s
 have s:=s.ae [2,1,0]
 rw[nk rfl] at s
 have Wf:=eN (s.buf (k:=2) rfl).view
 refine zA rfl ?_
 refine az.nil ⟨⟨aa,aa,fun _ _=>.inr ⟨rfl,⟨_,bf rfl⟩,aN _ rfl⟩,fun _ _=>.inr ⟨rfl,⟨_,lF rfl⟩,aN _ rfl⟩,fun _ _=>.inr ⟨rfl,⟨_,jr rfl (kn _ _)⟩,aN _ rfl⟩,dW (.inr ⟨rfl,⟨_,aP rfl (s0.ld (k:=0) rfl bX rfl)⟩,J⟩) (.inr ⟨rfl,⟨_,aP rfl (s1.ld (k:=0) rfl bX rfl)⟩,J⟩),fun _ _=>.inr ⟨rfl,⟨_,bf rfl⟩,aN _ rfl⟩,dW (.inr ⟨rfl,⟨_,cf (p:=none) (q:=some (.int .i64 (m.length:Int))) (m:=none) (p':=none) (q':=some m.length) (m':=none) rfl rfl rfl rfl rfl (by rw[cn (by omega)];rfl) rfl (rU (s0.aD (k:=1) rfl I) (b:=m.length) (by simp)).1⟩,DJ⟩) (.inr ⟨rfl,⟨_,cf (p:=none) (q:=some (.int .i64 (m.length:Int))) (m:=none) (p':=none) (q':=some m.length) (m':=none) rfl rfl rfl rfl rfl (by rw[cn (by omega)];rfl) rfl (rU (s1.aD (k:=1) rfl I) (b:=m.length) (by simp)).1⟩,DJ⟩),aa,aa,aa⟩,?_⟩
 have jY:=gE (s.aD (k:=1) rfl I) (a:=m.length) (by simp)
 have hu:=jY.2.1.cells
 refine zK 5 rfl (zY s 0 kn bX rfl (zm rfl (zo rfl (cf (p:=some (.int .i64 (m.length:Int))) (q:=none) (m:=none) (p':=some m.length) (q':=none) (m':=none) rfl rfl rfl rfl (by rw[cn (by omega)];rfl) rfl rfl jY.1) ?_)))
 refine zn rfl (zf rfl (kn _ _) (zS rfl (s.dL (k:=0) rfl jR rfl (by decide) hu.1 hu.2) ?_))
 rintro h s
 refine zk 6 rfl (WP.ret ⟨aa,_,rfl,?_⟩)
 have hr:=uI I (a:=m.length) (by simp)
 rw[yc rfl] at hr
 exact⟨_,hr,s⟩
end
end Go.Proofs.YtiojppeahfoiaaaGreat.Am
