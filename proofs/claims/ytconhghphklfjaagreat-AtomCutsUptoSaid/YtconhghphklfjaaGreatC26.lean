/- AtomCuts: a part of its proof; conditions: its statement's. -/
import Derived.Test.YtconhghphklfjaaGreatC25
namespace Go.Proofs.YtconhghphklfjaaGreat.Am
open Go
inductive uO (ε:aM)(now:List (Int×List Nat))(b_:Bool)(n:Int)(b:List Nat): Int→List (Int×List Nat)→aM→Prop where
 | may (e:Int) (c:List Nat) (ε':aM) (hr:oB ε now b_ n e c ε') (he:e≠0):uO ε now b_ n b e now ε'
 | bad (c:List Nat) (ε':aM) (hr:oB ε now b_ n 0 c ε') (hg:bU b=false):uO ε now b_ n b 4 now ε'
 | done (c:List Nat) (ε':aM) (hr:oB ε now b_ n 0 c ε') (hg:bU b=true):uO ε now b_ n b 0 (cM n b now) ε'
theorem uO.kQ {ε ε':aM}{now gP:List (Int×List Nat)}{b_:Bool}{n e:Int}{b:List Nat}(I:uO ε now b_ n b e gP ε')(h:hG ε): hG ε':=by
 cases I with
 | may e c ε' I he=>exact I.kQ h
 | bad c ε' I J=>exact I.kQ h
 | done c ε' I J=>exact I.kQ h
section
variable {told:dH} {h:H} {S:List ax} {X:ax} {r k q p bX a g aC:Nat} {op v x wh di:V} {l b data:List Nat} {π:Pl} {m:List Fm} {μ:Lg} {δ:Dk} {now:List (Int×List Nat)} {b_:Bool}
theorem Wd (U:W told){n:Int}(s:Sat h (gO g a now b_::cu a p q r op data aC::b8 r p q π::bf q p μ::aD p δ::S))(J:hG (π,μ,δ))(hw:δ.waiting.length≤268435456)(I:∀e∈now,e.2.length=512):
  Call ⟨Tryz.prog,told⟩ 42 [.iface 27 (.ptr g 0),.int .i64 n] h fun v h'=>∃(e:Int) (b:List Nat) (ε:aM),oB (π,μ,δ) now b_ n e b ε∧v=.int .i64 e ∧
   Sat h' (gO g a now b_::cu a p q r op data aC::b8 r p q ε.1::bf q p ε.2.1::aD p ε.2.2::S):=by
 refine Call.of_wp (U.free _ rfl) Tryz.func42 rfl rfl (zK 8 rfl (aB.any rfl rfl rfl (OpR.invoke rfl rfl rfl Ks rfl (HK (n:=n) U s J hw I)) ?_))
 rintro v h ⟨e,b,ε,hr,(⟨he,rfl,s⟩ | ⟨rfl,u,rfl,s⟩)⟩
 ·refine aB.op rfl rfl rfl (bk rfl) ?_
  exact zk 10 rfl (WP.ret ⟨aa,_,rfl,e,b,ε,hr,rfl,s⟩)
 ·skip
  exact zk 11 rfl (WP.ret ⟨aa,_,rfl,0,b,ε,hr,rfl,s.drop⟩)
theorem Oi (U:W told){n:Int}(s:Sat h (gO g a now b_::cu a p q r op data aC::b8 r p q π::bf q p μ::aD p δ::X::S))(hX:cT X (cU x b))(hb:b.length<9223372036854775808)(oc:hG (π,μ,δ))(hw:δ.waiting.length≤268435456)(J:∀e∈now,e.2.length=512):
  Call ⟨Tryz.prog,told⟩ 14 [.ptr g 0,.int .i64 n,x] h fun v h'=>∃(e:Int) (gP:List (Int×List Nat)) (ε:aM),uO (π,μ,δ) now b_ n b e gP ε∧v=.int .i64 e ∧
   Sat h' (gO g a gP b_::cu a p q r op data aC::b8 r p q ε.1::bf q p ε.2.1::aD p ε.2.2::X::S):=by
 refine Call.of_wp (U.free _ rfl) Tryz.func14 rfl rfl (zK 8 rfl (zo rfl (Lk rfl (GU uL rfl)) (zm rfl (zc rfl (Wd (n:=n) U s oc hw J) ?_))))
 rintro v h ⟨e,c,ε,hr,rfl,s⟩
 refine zk 5 rfl ?_
 by_cases he:e=0
 ·skip
  subst he
  refine zh rfl (ah rfl rfl aX) (rfl) (zk 7 rfl (zc rfl (Kh U (s.ae [5]) hX hb) ?_))
  rintro v h ⟨rfl,s⟩
  refine zo rfl (dX rfl rfl) (zv ?_)
  by_cases I:bU b=true
  ·skip
   refine WP.RY rfl (by rw [I]; rfl) ?_
   have aap:=fA I
   obtain ⟨nv,s⟩:=fC.1 (s.ae [1])
   have s:=s.ae [2,0,0]
   obtain ⟨wC,rfl⟩:=yT s (j:=2) rfl
   refine zK 2 rfl ?_
   have s0:=s
   refine WP.drawn [some (0,2),some (0,2),some (0,2),some (0,2),some (0,2),ai,ai,ai] rfl (by kernel_rfl) (by kernel_rfl) ?_
   refine zM rfl (zN rfl (zF rfl (uA _ _) (zL rfl (s.ld (k:=1) rfl l_ rfl) (zM rfl (zM rfl (aA.any rfl rfl rfl rfl (OpR.call rfl rfl rfl rfl (j6 U s hX (by omega))) ?_))))))
   intro u h s
   obtain ⟨yb,_,cap,_,rfl,_⟩:=s.kB (by omega)
   have s:=s.fJ
   have s1:=s
   refine aA.g8 rfl rfl rfl (OpR.mapUpdate rfl rfl rfl rfl (oN (f:=fun v b=>ax.cm v b) (x:=b) (fun _ _=>aE.cm _ _) (s.ae [0,2]) lu bF)) ?_
   intro w h s
   refine aA.nil ⟨⟨fun _ _=>.inr ⟨rfl,⟨_,bk rfl⟩,aW _ rfl⟩,fun _ _=>.inr ⟨rfl,⟨_,j5 rfl⟩,aW _ rfl⟩,fun _ _=>.inr ⟨rfl,⟨_,jE rfl (uA _ _)⟩,aW _ rfl⟩,dO (.inr ⟨rfl,⟨_,aV rfl (s0.ld (k:=1) rfl l_ rfl)⟩,aW _ rfl⟩) (.inr ⟨rfl,⟨_,aV rfl (s1.ld (k:=2) rfl l_ rfl)⟩,aW _ rfl⟩),fun _ _=>.inr ⟨rfl,⟨_,bk rfl⟩,aW _ rfl⟩,aa,aa,aa,aa⟩,?_⟩
   exact zK 4 rfl (WP.ret ⟨aa,_,rfl,0,_,ε,.done c ε hr I,rfl,fC.2 ⟨.map wC,s.ae [2,0,1,1,1,1,0]⟩⟩)
  ·have I:bU b=false:=by simpa using I
   refine WP.Lo rfl (by rw [I]; rfl) ?_
   exact zK 4 rfl (WP.ret ⟨aa,_,rfl,4,_,ε,.bad c ε hr I,rfl,s.ae [1,1,1,1,1,0]⟩)
 ·skip
  refine zt rfl (ah rfl rfl aX) (by simp; exact he) ?_
  exact zk 7 rfl (WP.ret ⟨aa,_,rfl,e,_,ε,.may e c ε hr he,rfl,s⟩)
theorem Fq (I:W told)(s:Sat h (gO g a now b_::cu a p q r (.ptr g 0) data aC::S)): Call ⟨Tryz.prog,told⟩ 49 [.ptr g 0] h fun v h'=>v=.bD []∧Sat h' (gO g a now true::cu a p q r .cF data aC::S):=by
 obtain ⟨nv,s⟩:=fC.1 s
 obtain ⟨dv,s⟩:=bM.1 (s.ae [2])
 refine Call.of_wp (I.free _ rfl) Tryz.func49 rfl rfl (zK 4 rfl (zf rfl (G0 _ _) ?_))
 refine zS rfl (by exact s.dQ (k:=2) rfl x_ rfl (by decide) rfl rfl) (fun h s => ?_)
 refine zk 5 rfl (zf rfl (uz _ _) (zl rfl (s.ld (k:=2) rfl BF rfl) (zn rfl (zf rfl (uy _ _) (zl rfl (s.ld (k:=0) rfl GV rfl) (zm rfl (zt rfl (ah rfl rfl (X2 uL aae (by decide) (s.row (k:=2) rfl) (s.row (k:=2) rfl) (by decide) (by decide))) (dh g) ?_)))))))
 refine zk 5 rfl (zf rfl (uz _ _) (zl rfl (s.ld (k:=2) rfl BF rfl) (zn rfl (zf rfl (uy _ _) ?_))))
 refine zS rfl (by exact s.dQ (k:=0) rfl VH rfl (by decide) rfl rfl) (fun h s => ?_)
 refine zv ?_
 have s:=fC.2 ⟨nv,(bM.2 ⟨dv,s⟩).ae [1,1]⟩
 exact ⟨aa,_,rfl,rfl,s⟩
theorem HL (I:W told)(s:Sat h (gO g a now b_::cu a p q r (.ptr g 0) data aC::S)): Call ⟨Tryz.prog,told⟩ 27 [.ptr g 0] h fun v h'=>v=.bD []∧Sat h' (gO g a now true::cu a p q r .cF data aC::S):=by
 refine Call.of_wp (I.free _ rfl) Tryz.func27 rfl rfl (zK 2 rfl (zc rfl (Fq I s) ?_))
 rintro v h ⟨rfl,s⟩
 exact zv ⟨aa,_,rfl,rfl,s⟩
end
inductive uP (aO:Int)(cR now:List Nat): Nat→List cj→Prop where
 | done (i:Nat) (h:now.length≤i):uP aO cR now i []
 | skip (i:Nat) (l:List cj) (h:i<now.length) (he:cR[i]?=now[i]?) (hr:uP aO cR now (i+1) l):uP aO cR now i l
 | take (i e:Nat) (l:List cj) (h1:i<e) (h2:e≤now.length) (h3:cR[i]?≠now[i]?) (h4:∀k,e≤k→k<e+8→cR[k]?=now[k]?) (hr:uP aO cR now e l):uP aO cR now i (⟨aO,i,false,(now.take e).drop i⟩::l)
def Fs (aO:Int)(cR now:List Nat)(c:List cj): Prop:=∃l,uP aO cR now 12 l∧c=if l=[] then [⟨aO,0,false,[]⟩] else l
theorem uQ : ∃i,Tryz.prog.info? 54=some i∧i.size=4∧i.bytes=48 :=
 ⟨_,(show Tryz.prog.info? 54=some ((Tryz.prog.info? 54).getD default) by kernel_rfl),by kernel_rfl,by kernel_rfl⟩
section
variable {told:dH} {h:H} {S:List ax} {X Y:ax} {r k q p bX a g aC:Nat} {op v x u wh di:V} {l b cR now:List Nat}
noncomputable def rgO : Code:=cK [1,1,0,1,0,0] ((Tryz.f87.body).getD .skip)
noncomputable def rgI : Code:=cK [1,1,0,1,0,0,1,0,1,1,0,1,0,0] ((Tryz.f87.body).getD .skip)
theorem QL {pg:Int}{I:Nat}{t7:V}{k1 k2:Nat}(s:Sat h S)(AZ:getA S k1=some X)(hX:cT X (cU u cR))(NF:getA S k2=some Y)(hY:cT Y (cU v now))(wz:cR.length=512)(lI:now.length=512): ∀(j i e:Nat) (E:List (Nat×V)) (Q:Ex→List (Nat×V)→H→Prop),i+j=512→I<e→e≤i→(∀k,e≤k→k<i→cR[k]?=now[k]?) →
  Has E [(0,.int .i64 pg),(1,u),(2,v),(7,t7),(8,.int .i64 (I:Int)),(9,.int .i64 (e:Int)),(10,.int .i64 (i:Int))] →
  (∀J E',I<J→J≤512→(∀k,J≤k→k<J+8→cR[k]?=now[k]?)→Has E' [(0,.int .i64 pg),(1,u),(2,v),(7,t7),(8,.int .i64 (I:Int)),(9,.int .i64 (J:Int))]→Q (.exit 2) E' h) →
  WP ⟨Tryz.prog,told⟩ 71 (.loop rgI) E h Q:=by
 have hv:=s.aG NF hY
 have hu:=s.aG AZ hX
 have hlen:lenV Tryz.prog h 32 v=some (.int .i64 now.length):=bg aS hv
 intro j
 induction j with
 | zero =>
  intro i e E Q hi h1 h2 hg hE U
  refine WP.loop (WP.has hE (zK 5 rfl (zo rfl (a_ rfl rfl rfl hlen) (zh rfl (ah rfl rfl bu) (by simp <;> omega) ?_))))
  refine zk 8 rfl (WP.exit ?_)
  refine U e _ h1 (by omega) (fun k k1 _ => ?_) ⟨rfl,rfl,rfl,rfl,rfl,rfl,aa⟩
  by_cases hk:k<i
  ·exact hg k k1 hk
  ·rw [oW (by omega),oW (by omega)]
 | succ j ih =>
  intro i e E Q hi h1 h2 hg hE U
  have hb:now[i]?=some (now[i]'(by omega)):=bh _
  generalize (now[i]'(by omega))=b at hb
  have hc:cR[i]?=some (cR[i]'(by omega)):=bh _
  generalize (cR[i]'(by omega))=c at hc
  obtain ⟨id,off,e1,e2⟩:=ie hv hb
  obtain ⟨A5,off',e3,e4⟩:=ie hu hc
  refine WP.loop (WP.has hE (zK 5 rfl (zo rfl (a_ rfl rfl rfl hlen) (zt rfl (ah rfl rfl bu) (by simp <;> omega) ?_))))
  refine zk 3 rfl (zb rfl (by exact bQ (aU (by omega) (by omega))) ?_)
  by_cases hd:i<e+8
  ·skip
   refine zt rfl (ah rfl rfl bu) (by simp <;> omega) ?_
   refine zk 5 rfl (WP.block (zw ?_))
   have s0:=s
   refine WP.drawn [ai,ai,ai,ai,ai,ai,ai,ai,ai] rfl (by kernel_rfl) (by kernel_rfl) ?_
   refine zM rfl (zM rfl (zO rfl (dY (r:=.ptr A5 off') rfl rfl e3) (zL rfl e4 (zM rfl (zM rfl (zO rfl (dY (r:=.ptr id off) rfl rfl e1) (zL rfl e2 ?_)))))))
   by_cases Kt:c=b
   ·skip
    refine aA.nr rfl rfl rfl rfl (ah rfl rfl aX) (by simp; exact_mod_cast Kt) ?_
    refine aA.nil ⟨⟨aa,aa,aa,aa,aa,aa,aa,aa,aa,aa⟩,?_⟩
    refine zj rfl (WP.skip (zr rfl (zm rfl (zb rfl (by exact bQ (aU (by omega) (by omega))) ?_))))
    refine za rfl (zv ?_)
    exact ih (i+1) e _ Q (by omega) h1 (by omega) (fun k k1 k2=>(by
     rcases qX k i with h | h
     ·exact hg k k1 h
     ·rw [show k=i by omega,hb,hc,Kt])) ⟨rfl,rfl,rfl,rfl,rfl,rfl,rfl,aa⟩ U
   ·skip
    refine aA.qn rfl rfl rfl rfl (ah rfl rfl aX) (by simp; omega) ?_
    refine aA.nil ⟨⟨aa,aa,aa,aa,aa,aa,aa,aa,aa,aa⟩,?_⟩
    refine zK 3 rfl (zb rfl (by exact bQ (aU (by omega) (by omega))) ?_)
    refine za rfl (zv (zr rfl (zm rfl (zb rfl (by exact bQ (aU (by omega) (by omega))) ?_))))
    refine za rfl (zv ?_)
    exact ih (i+1) (i+1) _ Q (by omega) (by omega) (by omega) (fun k k1 k2=>absurd k2 (by omega)) ⟨rfl,rfl,rfl,rfl,rfl,rfl,rfl,aa⟩ U
  ·skip
   refine zh rfl (ah rfl rfl bu) (by simp <;> omega) ?_
   exact zk 3 rfl (WP.exit (U e _ h1 (by omega) (fun k k1 k2=>hg k k1 (by omega)) ⟨rfl,rfl,rfl,rfl,rfl,rfl,aa⟩))
theorem QM (hT:W told){pg:Int}(hX:cT X (cU u cR))(hY:cT Y (cU v now))(wz:cR.length=512)(lI:now.length=512): ∀(j i:Nat) (acc:List cj) (av:V) (cs:List V) (h:H) (E:List (Nat×V)) (Q:Ex→List (Nat×V)→H→Prop),512≤i+j→i≤512→acc.length≤i →
  Sat h (.arr 4 av cs::cV cs acc::X::Y::S)→(∀l,uP pg cR now i l→uP pg cR now 12 (acc++l)) →
  Has E [(0,.int .i64 pg),(1,u),(2,v),(7,av),(8,.int .i64 (i:Int))] →
  (∀U cs' l E' h',uP pg cR now 12 l→l.length≤512→Sat h' (.arr 4 U cs'::cV cs' l::X::Y::S)→Has E' [(0,.int .i64 pg),(7,U)]→Q (.exit 0) E' h') →
  WP ⟨Tryz.prog,told⟩ 71 (.loop rgO) E h Q:=by
 intro j
 induction j with
 | zero =>
  intro i acc av cs h E Q hj hi We s I hE hq
  have hlen:lenV Tryz.prog h 32 v=some (.int .i64 now.length):=bg aS (s.aG (k:=3) rfl hY)
  refine WP.loop (WP.has hE (zK 5 rfl (zo rfl (a_ rfl rfl rfl hlen) (zh rfl (ah rfl rfl bu) (by simp <;> omega) ?_))))
  refine zk 2 rfl (WP.exit ?_)
  have:=I [] (.done _ (by omega))
  rw [bR] at this
  exact hq av cs acc _ _ this (by omega) s ⟨rfl,rfl,aa⟩
 | succ j ih =>
  intro i acc av cs h E Q hj hi We s I hE hq
  have hv:=s.aG (k:=3) rfl hY
  have hu:=s.aG (k:=2) rfl hX
  have hlen:lenV Tryz.prog h 32 v=some (.int .i64 now.length):=bg aS hv
  by_cases bS:i<512
  ·have hb:now[i]?=some (now[i]'(by omega)):=bh _
   generalize (now[i]'(by omega))=b at hb
   have hc:cR[i]?=some (cR[i]'(by omega)):=bh _
   generalize (cR[i]'(by omega))=c at hc
   obtain ⟨id,off,e1,e2⟩:=ie hv hb
   obtain ⟨A5,off',e3,e4⟩:=ie hu hc
   refine WP.loop (WP.has hE (zK 5 rfl (zo rfl (a_ rfl rfl rfl hlen) (zt rfl (ah rfl rfl bu) (by simp <;> omega) ?_))))
   refine zk 3 rfl (WP.block (zK 2 rfl ?_))
   have s0:=s
   refine WP.drawn [ai,ai,ai,ai,ai,ai,ai,ai,ai] rfl (by kernel_rfl) (by kernel_rfl) ?_
   refine zM rfl (zM rfl (zO rfl (dY (r:=.ptr A5 off') rfl rfl e3) (zL rfl e4 (zM rfl (zM rfl (zO rfl (dY (r:=.ptr id off) rfl rfl e1) (zL rfl e2 ?_)))))))
   by_cases Kt:c=b
   ·skip
    refine aA.qn rfl rfl rfl rfl (ah rfl rfl cI) (by simp; exact_mod_cast Kt) ?_
    refine aA.nil ⟨⟨aa,aa,aa,aa,aa,aa,aa,aa,aa,aa⟩,?_⟩
    refine zK 4 rfl (zb rfl (by exact bQ (aU (by omega) (by omega))) ?_)
    exact zk 2 rfl (WP.exit (ih (i+1) acc av cs h _ Q (by omega) (by omega) (by omega) s (fun l hl=>I l (.skip i l (by omega) (by rw [hb,hc,Kt]) hl)) ⟨rfl,rfl,rfl,rfl,rfl,aa⟩ hq))
   ·skip
    refine aA.nr rfl rfl rfl rfl (ah rfl rfl cI) (by simp; omega) ?_
    refine aA.nil ⟨⟨aa,aa,aa,aa,aa,aa,aa,aa,aa,aa⟩,?_⟩
    refine zK 5 rfl (zb rfl (by exact bQ (aU (by omega) (by omega))) ?_)
    refine zk 8 rfl (WP.block ?_)
    refine QL s (k1:=2) (k2:=3) rfl hX rfl hY wz lI (512-(i+1)) (i+1) (i+1) _ _ (by omega) (DS i) (aK _) (fun k k1 k2=>absurd k2 (by omega)) ⟨rfl,rfl,rfl,rfl,rfl,rfl,rfl,aa⟩ (fun e' E' he1 SA HM gu => ?_)
    refine WP.has gu ?_
    have hsv:=iI hv (a:=i) (b:=e') (by omega) (by omega)
    refine zK 8 rfl (zo rfl (cD (p:=some (.int .i64 (i:Int))) (q:=some (.int .i64 (e':Int))) (m:=none) (p':=some i) (q':=some e') (m':=none) rfl rfl rfl rfl (by rw [fK (by omega)]; rfl) (by rw [fK (by omega)]; rfl) rfl hsv.1) ?_)
    refine zc rfl (j6 hT (s.ae [3]) (mF hY (a:=i) (b:=e') (by omega) (by omega)) (by simp; omega)) ?_
    intro w h s
    dsimp only [bringA,getA,aT] at s
    obtain ⟨wid,_,J,_,rfl,_⟩:=s.kB (by simp; omega)
    have s:=s.fJ
    generalize GK:(now.take e').drop i=bs at s
    refine zo rfl (c7 rfl (by rw [P5]; rfl)) ?_
    obtain ⟨rv,h1,zy,s1⟩:=nR (P:=Tryz.prog) (k:=4) (x:=.agg [.int .i64 pg,.int .i64 (i:Int),.bool false,.sl wid 0 bs.length J]) s iM ry sD rfl (by decide) (by decide) rfl rfl
    dsimp only [V.cells] at s1
    refine aB.any rfl rfl rfl (OpR.of (R:=fun v h'=>v=rv∧h'=h1) (oJ rfl zy) ⟨rfl,rfl⟩) ?_
    rintro v' h' ⟨rfl,rfl⟩
    obtain ⟨i1,lN,jX,sN⟩:=uQ
    have jY:cs.length=acc.length*4:=by
     obtain ⟨a,b,q1,q2,q3⟩:=s1.at (k:=4) rfl
     exact oO q3
    obtain ⟨U,h2,uJ,s2⟩:=jx (s1.ae [3,0]) iM lN ry jX (by omega) rfl (by decide) (by simp only [bj,bY]; omega)
    dsimp only [bringA,getA,aT] at s2
    refine aB.any rfl rfl rfl (OpR.of (R:=fun v h'=>v=U∧h'=h2) (oE rfl rfl uJ) ⟨rfl,rfl⟩) ?_
    rintro v' h' ⟨rfl,rfl⟩
    refine za rfl (zv (zr rfl (zk 2 rfl (zv ?_))))
    have s3:Sat _ (cV cs acc::.cm (.sl wid 0 bs.length J) bs::_):=s2.ae [4,2]
    have s4:=s3.two (C:=cV (cs++[.int .i64 pg,.int .i64 (i:Int),.bool false,.sl wid 0 bs.length J]) (acc++[⟨pg,i,false,bs⟩])) (aE.mB _ _) (aE.cm _ _) fun a b q1 q2=>xp q1 ⟨⟨⟨rfl,rfl,rfl⟩,q2⟩,aa⟩
    have s5:=(s4.ae [1,0,2,1]).del 4
    dsimp only [bringA,getA,aT] at s5
    refine ih e' (acc++[⟨pg,(i:Int),false,bs⟩]) _ _ _ _ Q (by omega) SA (by simp; omega) s5 (fun l hl => ?_) ⟨rfl,rfl,rfl,rfl,rfl,aa⟩ hq
    have:=I _ (.take i e' l he1 (by omega) (fun hx=>by rw [hb,hc] at hx; exact Kt (bw hx)) HM hl)
    rw [GK] at this
    rwa [bN]
  ·have hi5:i=512:=by omega
   refine WP.loop (WP.has hE (zK 5 rfl (zo rfl (a_ rfl rfl rfl hlen) (zh rfl (ah rfl rfl bu) (by simp <;> omega) ?_))))
   refine zk 2 rfl (WP.exit ?_)
   have:=I [] (.done _ (by omega))
   rw [bR] at this
   exact hq av cs acc _ _ this (by omega) s ⟨rfl,rfl,aa⟩
theorem Oj (hT:W told){pg:Int}(s:Sat h (X::Y::S))(hX:cT X (cU u cR))(hY:cT Y (cU v now))(J:cR.length=512)(U:now.length=512):
  Call ⟨Tryz.prog,told⟩ 87 [.int .i64 pg,u,v] h fun w h'=>∃cs l,Fs pg cR now l∧l.length≤512∧Sat h' (.arr 4 w cs::cV cs l::X::Y::S):=by
 refine Call.of_wp (hT.free _ rfl) Tryz.func87 rfl rfl (zK 13 rfl (WP.block ?_))
 refine QM hT (pg:=pg) hX hY J U 500 12 [] .bz [] _ _ _ (by omega) (by omega) (by simp) ((s.gD aa).qq) (fun l hl=>hl) ⟨rfl,rfl,rfl,rfl,rfl,aa⟩ (fun Ko cs' l E' h' hr C7 s' gu => ?_)
 have s:=s'
 have hlen:=s.wA (j1:=0) (j2:=1) rfl rfl iM
 have C8:=s.kJ (j:=0) rfl
 refine WP.has gu (zK 4 rfl (zo rfl (a_ rfl rfl rfl hlen) ?_))
 by_cases I:l=[]
 ·skip
  refine zt rfl (ah rfl rfl cI) (by subst I; rfl) ?_
  refine zk 5 rfl (zo rfl (c7 rfl (by rw [P5]; rfl)) ?_)
  obtain ⟨rv,h1,zy,s1⟩:=nR (P:=Tryz.prog) (k:=4) (x:=.agg [.int .i64 pg,.int .i64 0,.bool false,.bz]) s iM ry sD rfl (by decide) (by decide) rfl rfl
  dsimp only [V.cells] at s1
  refine aB.any rfl rfl rfl (OpR.of (R:=fun v h'=>v=rv∧h'=h1) (oJ rfl zy) ⟨rfl,rfl⟩) ?_
  rintro v' h' ⟨rfl,rfl⟩
  refine zk 2 rfl (WP.ret ⟨aa,_,rfl,?_⟩)
  refine ⟨[.int .i64 pg,.int .i64 0,.bool false,.bz],[⟨pg,0,false,[]⟩],⟨l,hr,by rw [aj I]⟩,by simp,?_⟩
  have s2:=(s1.del 2).del 1
  have s3:Sat _ (.cm .bz []::.arr 4 v' _::X::Y::S):=s2.rR
  have s4:=s3.fP (B:=cV [.int .i64 pg,.int .i64 0,.bool false,.bz] [⟨pg,0,false,[]⟩]) fun a b q=>⟨⟨⟨rfl,rfl,rfl⟩,q⟩,aa⟩
  exact s4.ae [1,0]
 ·skip
  refine zh rfl (ah rfl rfl cI) (by cases l with | nil=>exact absurd rfl I | cons _ _=>simp; omega) ?_
  exact zk 8 rfl (WP.ret ⟨aa,_,rfl,_,l,⟨l,hr,by rw [af I]⟩,C7,s⟩)
end
def gK (m:List Fm): Nat:=(m.map (·.changed)).count true
theorem m6 {f g:Fm}: ∀ {m:List Fm} {i:Nat},m[i]?=some f→gK (m.set i g)+f.changed.toNat=gK m+g.changed.toNat:=by
 intro m
 induction m with
 | nil=>intro i h; simp at h
 | cons x m I =>
  intro i h
  cases i with
  | zero =>
   simp at h
   subst h
   simp only [gK,List.set_cons_zero,bJ,List.count_cons]
   cases x.changed <;> cases g.changed <;> simp
  | succ i =>
   rw [kn] at h
   have:=I h
   simp only [gK,List.set_cons_succ,bJ,List.count_cons] at this ⊢
   omega
theorem C9 {g:Fm}(I:g.changed=false): ∀ {m:List Fm} {i:Nat},gK (m.set i g)≤gK m:=by
 intro m i
 cases h:m[i]? with
 | none =>
  have:m.length≤i:=by simpa using h
  rw [List.set_eq_of_length_le this]
  exact aK _
 | some f =>
  have:=m6 (g:=g) h
  rw [I] at this
  simp only [Bool.toNat_false] at this
  omega
def ct (ε:aM): Nat:=ε.2.2.waiting.length+gK ε.1.ak
theorem mL {ε:aM}: ε.2.2.waiting.length≤ct ε:=tG _ _
theorem fX.count {π I:Pl}(J:fX π I): gK I.ak=gK π.ak:=by
 have:I.ak.map (·.changed)=π.ak.map (·.changed):=by
  refine Ac fun i => ?_
  rw [oZ,oZ]
  cases h:π.ak[i]? with
  | none =>
   have U:π.ak.length≤i:=by simpa using h
   have:I.ak[i]?=none:=by simp [J.len,U]
   rw [this]
  | some f =>
   obtain ⟨t,ht⟩:=J.get i f h
   rw [ht]; rfl
 simp only [gK,this]
theorem HN {δ:Dk}{n:Int}{b:List Nat}(h:(δ.bI n b).1≠0): (δ.bI n b).2.waiting=δ.waiting:=by
 unfold Dk.bI at h ⊢
 split
 ·rfl
 ·rename_i I
  rw [af I] at h
  split
  ·rfl
  ·rename_i J
   rw [af J] at h
   split
   ·rfl
   ·rename_i U
    rw [af U] at h
    exact absurd rfl h
theorem HO {ε:aM}{i:Nat}: ct (outF ε i).2≤ct ε:=by
 unfold outF
 split
 ·exact aK _
 ·rename_i f J
  split
  ·exact aK _
  ·rename_i I
   have I:f.changed=true:=by cases h:f.changed <;> simp [h] at I ⊢
   split
   ·exact aK _
   ·split
    ·simp only [ct,kL]; exact aK _
    ·split
     ·rename_i hw
      simp only [ct,HN hw,kL]; exact aK _
     ·have U:=Bl (δ:=(bC ε.2 (eR f.b 4 8)).2.2) (n:=f.aO) (b:=f.b)
      rw [kL] at U
      have h2:=m6 (g:={ f with changed:=false }) J
      simp only [I,Bool.toNat_true,Bool.toNat_false] at h2
      simp only [ct]
      omega
theorem zG {π:Pl}{i:Nat}{f:Fm}: gK (dz π i f).ak≤gK π.ak:=C9 rfl
theorem fY.ct {ε ε':aM}{n e:Int}{b:List Nat}(hr:fY ε n e b ε'): Am.ct ε'≤Am.ct ε:=by
 have rE:∀ {I:Pl},fX ε.1 I→∀i,Am.ct (outF (I,ε.2) i).2≤Am.ct ε:=fun {I} J i=>by
  have:=HO (ε:=(I,ε.2)) (i:=i)
  refine cL this ?_
  simp only [Am.ct,J.count]
  exact aK _
 cases hr with
 | arg _=>exact aK _
 | Bj i f h1 U hl hf =>
  have U:=m6 (g:={ f with ff:=true,pins:=f.pins+1 }) hf
  simp only [Am.ct] at U ⊢
  omega
 | out I i f h1 U hl J hf hh he=>exact rE J i
 | read I i f h1 U hl J hf hh he hr=>exact cL (vK zG _) (rE J i)
 | bad I i f h1 U hl J hf hh he hr hc=>exact cL (vK zG _) (rE J i)
 | load I i f h1 U hl J hf hh he hr hc=>exact cL (vK (cL (C9 rfl) zG) _) (rE J i)
theorem C_ {π:Pl}{n:Int}: gK (unpinF π n).2.ak=gK π.ak:=by
 unfold unpinF
 split
 ·rfl
 ·split
  ·rfl
  ·rename_i i hi f I
   have J:=m6 (g:={ f with pins:=f.pins-1 }) I
   simp only at J ⊢
   omega
theorem mD.ct {ε ε':aM}{n e:Int}{b:List Nat}(I:mD ε n e b ε'): Am.ct ε'≤Am.ct ε:=by
 cases I with
 | dead _=>exact aK _
 | iZ e b ε' J I he=>exact I.ct
 | tq b ε' J I he=>have:=I.ct; simp only [Am.ct,C_] at this ⊢; exact this
 | read b ε' J I he=>have:=I.ct; simp only [Am.ct,C_] at this ⊢; exact this
theorem oB.ct {ε ε':aM}{now:List (Int×List Nat)}{b_:Bool}{n e:Int}{b:List Nat}(I:oB ε now b_ n e b ε'): Am.ct ε'≤Am.ct ε:=by
 cases I with
 | arg _=>exact aK _
 | b_ _ _ _=>exact aK _
 | own _ _ _ _ _=>exact aK _
 | read e b ε' J U h3 hl I=>exact I.ct
theorem uO.ct {ε ε':aM}{now gP:List (Int×List Nat)}{b_:Bool}{n e:Int}{b:List Nat}(I:uO ε now b_ n b e gP ε'): Am.ct ε'≤Am.ct ε:=by
 cases I with
 | may e c ε' I he=>exact I.ct
 | bad c ε' I J=>exact I.ct
 | done c ε' I J=>exact I.ct
inductive jr (now:List (Int×List Nat)): List Int→aM→Int→List cj→aM→Prop where
 | nil (ε:aM):jr now [] ε 0 [] ε
 | err (n:Int) (l:List Int) (ε:aM) (e:Int) (b:List Nat) (ε':aM) (hr:mD ε n e b ε') (he:e≠0):jr now (n::l) ε e [] ε'
 | part (n:Int) (l:List Int) (ε:aM) (cR b:List Nat) (ε':aM) (c:List cj) (e:Int) (cs:List cj) (pV:aM) (hr:mD ε n 0 cR ε') (hb:lookL n now=some b) (hd:(lookL n ε'.1.aN).isSome=true) (hc:Fs n cR b c) (hl:c.length≤512) (ht:jr now l ε' e cs pV):jr now (n::l) ε e (c++cs) pV
 | whole (n:Int) (l:List Int) (ε:aM) (cR b:List Nat) (ε':aM) (e:Int) (cs:List cj) (pV:aM) (hr:mD ε n 0 cR ε') (hb:lookL n now=some b) (hd:(lookL n ε'.1.aN).isSome=false) (ht:jr now l ε' e cs pV):jr now (n::l) ε e (⟨n,0,true,b⟩::cs) pV
theorem jr.kQ {now:List (Int×List Nat)}{l:List Int}{ε ε':aM}{e:Int}{cs:List cj}(I:jr now l ε e cs ε')(h:hG ε): hG ε':=by
 induction I with
 | nil ε=>exact h
 | err n l ε e b ε' I he=>exact I.kQ h
 | part n l ε cR b ε' c e cs J I hb hd hc hl ht U=>exact U (I.kQ h)
 | whole n l ε cR b ε' e cs J I hb hd ht U=>exact U (I.kQ h)
theorem jr.ct {now:List (Int×List Nat)}{l:List Int}{ε ε':aM}{e:Int}{cs:List cj}(I:jr now l ε e cs ε'): Am.ct ε'≤Am.ct ε:=by
 induction I with
 | nil ε=>exact aK _
 | err n l ε e b ε' I he=>exact I.ct
 | part n l ε cR b ε' c e cs J I hb hd hc hl ht U=>exact cL U I.ct
 | whole n l ε cR b ε' e cs J I hb hd ht U=>exact cL U I.ct
theorem vC {P:Program}{E:List (Nat×V)}{h:H}{a b:Nat}{v w:V}(I:look E a=some v)(J:look E b=some w): ju P E h [.tmp a,.tmp b]=some (.bD [v,w]):=by simp only [ju,mapO,resE,I,J]
section
variable {told:dH} {h:H} {S:List ax} {X Y:ax} {r k q p bX a g aC:Nat} {op v x u wh di:V} {l b cR data:List Nat} {now:List (Int×List Nat)} {b_:Bool} {ε:aM}
theorem xx (I:W told){id:Nat}(s:Sat h S): Call ⟨Tryz.prog,told⟩ 51 [.map id] h fun v h'=>∃b,v=.fn (.func 92) [] [.ptr b 0]∧Sat h' (pt b (.cells 1 [.map id] false)::S):=by
 refine Call.of_wp (I.free _ rfl) Tryz.func51 rfl rfl (zg rfl ?_)
 refine aB.cQ s rfl rfl rfl (gC rfl rfl) (fun J h s => ?_)
 exact zk 4 rfl (zo rfl (AA rfl rfl) (zk 2 rfl (WP.ret ⟨aa,_,rfl,_,rfl,s⟩)))
theorem Ol (I:W told)(s:Sat h (gO g a now b_::S))(hm:now.length≤1048576)(U:∀n∈now.map (·.1),(Lit.int .i64 n).wf=true):
  Call ⟨Tryz.prog,told⟩ 85 [.ptr g 0] h fun v h'=>Sat h' (.arr 1 v (eN (aJ now))::gO g a now b_::S):=by
 obtain ⟨nv,s⟩:=fC.1 s
 obtain ⟨J,rfl⟩:=yT s (j:=1) rfl
 refine Call.of_wp (I.free _ rfl) Tryz.func85 rfl rfl (zK 8 rfl (zf rfl (uA _ _) (zl rfl (s.ld (k:=0) rfl l_ rfl) (zc rfl (xx I s) ?_))))
 rintro v h ⟨b,rfl,s⟩
 refine zc rfl (pU I (s.ae [0,1]) (by decide) hm U) ?_
 intro kv h s
 exact zk 2 rfl (WP.ret ⟨aa,_,rfl,(fC.2 ⟨.map J,(s.ae [3,2,0]).del 3⟩).ae [1]⟩)
noncomputable def cgL : Code:=cK [1,1,0,1,0,0] ((Tryz.f47.body).getD .skip)
theorem HP (hT:W told){ks:List Int}{kv:V}(N_:ks.length≤65536)(vh:∀n∈ks,(lookL n now).isSome=true)(mK:∀e∈now,e.2.length=512): ∀(j i:Nat) (acc:List cj) (av:V) (cs:List V) (ε:aM) (h:H) (E:List (Nat×V)) (Q:Ex→List (Nat×V)→H→Prop),i+j=ks.length →
  hG ε→ct ε≤268435456→acc.length≤512*i →
  Sat h (.arr 4 av cs::cV cs acc::gO g a now b_::cu a p q r op data aC::b8 r p q ε.1::bf q p ε.2.1::aD p ε.2.2::.arr 1 kv (eN ks)::S) →
  Has E [(0,.ptr g 0),(4,av),(13,kv),(14,.int .i64 ks.length),(15,.int .i64 i)] →
  (∀e c ε' E' h',jr now (ks.drop i) ε e c ε'→e≠0→look E' 2=some .bz→look E' 3=some (.int .i64 e)→Sat h' (gO g a now b_::cu a p q r op data aC::b8 r p q ε'.1::bf q p ε'.2.1::aD p ε'.2.2::S)→Q .ret E' h') →
  (∀c ε' E' h' U cs',jr now (ks.drop i) ε 0 c ε'→acc.length+c.length≤512*ks.length→Has E' [(4,U)]→Sat h' (.arr 4 U cs'::cV cs' (acc++c)::gO g a now b_::cu a p q r op data aC::b8 r p q ε'.1::bf q p ε'.2.1::aD p ε'.2.2::S)→Q (.exit 0) E' h') →
  WP ⟨Tryz.prog,told⟩ 65 (.loop cgL) E h Q:=by
 intro j
 induction j with
 | zero =>
  intro i acc av cs ε h E Q hj oc hw We s hE hr hx
  refine WP.loop (WP.has hE (zg rfl (zh rfl (ah rfl rfl bu) (by simp <;> omega) ?_)))
  refine zk 3 rfl (WP.exit ?_)
  rw [iu (by omega)] at hx
  have s1:=s.del 7
  dsimp only [aT] at s1
  refine hx [] ε _ _ av cs (.nil ε) (by simp; omega) ⟨rfl,aa⟩ ?_
  rw [bR]
  exact s1
 | succ j ih =>
  intro i acc av cs ε h E Q hj oc hw We s hE hr hx
  have hn:ks[i]?=some (ks[i]'(by omega)):=bh _
  have wT:ks[i]'(by omega)∈ks:=o8 _
  have j8:ks.drop i=ks[i]'(by omega)::ks.drop (i+1):=kR (by omega)
  generalize (ks[i]'(by omega))=n at hn wT j8
  have hc:(eN ks)[i]?=some (.int .i64 n):=by simp [eN,hn]
  obtain ⟨b,hb⟩:=Option.isSome_iff_exists.1 (vh n wT)
  have F9:=mK _ (fh hb)
  simp only at F9
  rw [j8] at hr hx
  obtain ⟨id,off,e1,e2⟩:=kV (P:=Tryz.prog) s (k:=7) rfl hc eC jG
  refine WP.loop (WP.has hE (zg rfl (zt rfl (ah rfl rfl bu) (by simp <;> omega) ?_)))
  refine zk 5 rfl (WP.block (zg rfl (zo rfl (dY (r:=.ptr id off) rfl rfl e1) (zl rfl (e2 _ dr) ?_))))
  obtain ⟨nv,s⟩:=fC.1 (s.ae [2])
  dsimp only [bringA,getA,aT] at s
  refine zk 6 rfl (zf rfl (uz _ _) (zl rfl (s.ld (k:=0) rfl BF rfl) (zm rfl (zc rfl (BP (n:=n) hT (s.ae [4,4,4,4]) oc.ok oc.pins (cL mL hw)) ?_))))
  rintro v h ⟨e,w,ε',J,(⟨he,rfl,s⟩ | ⟨rfl,u,rfl,s⟩)⟩
  ·dsimp only [bringA,getA,aT] at s
   refine zk 10 rfl (zt rfl (ah rfl rfl aX) (by simp; exact he) ?_)
   refine zk 8 rfl (WP.ret (hr e [] ε' _ _ (.err n _ ε e w ε' J he) he rfl rfl ?_))
   have s:=fC.2 ⟨nv,s.ae [4,4]⟩
   dsimp only [bringA,getA,aT] at s
   exact ((s.del 7).del 6).del 5
  ·dsimp only [bringA,getA,aT] at s
   have HQ:=J.kQ oc
   have qI:=cL J.ct hw
   have hlen:=J.len oc
   refine zk 10 rfl (zh rfl (ah rfl rfl aX) (rfl) ?_)
   have s:=s.fJ
   have s:=s.ae [5,5,1,1,1,1,1,1,1,0]
   dsimp only [bringA,getA,aT] at s
   rcases mw (n:=n) (fun _ _=>aE.cm _ _) (s.ae [1]) lu bF yK with ⟨g1,g2,_⟩ | ⟨nw,b',g1,_,g2,s2⟩
   ·rw [hb] at g1; cases g1
   rw [hb] at g1
   have:=bw g1
   subst this
   refine zk 7 rfl (zf rfl (uA _ _) (zl rfl (s.ld (k:=0) rfl l_ rfl) (zm rfl (zo rfl (gM rfl rfl g2) ?_))))
   obtain ⟨dv,s⟩:=bM.1 (s2.ae [3])
   dsimp only [bringA,getA,aT] at s
   have s:=s.ae [4]
   dsimp only [bringA,getA,aT] at s
   refine zk 6 rfl (zf rfl (uz _ _) (zl rfl (s.ld (k:=0) rfl BF rfl) (zn rfl (zf rfl (ox _ _) (zl rfl (s.ld (k:=1) rfl vz rfl) (zm rfl (zc rfl (V3 (n:=n) hT (s.ae [5])) ?_)))))))
   rintro v h ⟨rfl,s⟩
   dsimp only [bringA,getA,aT] at s
   refine zk 10 rfl ?_
   cases hd:(lookL n ε'.1.aN).isSome with
   | true =>
    refine zK 6 rfl (zc rfl (Oj hT (u:=u) (v:=nw) (pg:=n) (s.ae [11,4]) (cJ _ _) (cJ _ _) hlen F9) ?_)
    rintro rv h ⟨Wf,c,hc,jY,s⟩
    dsimp only [bringA,getA,aT] at s
    obtain ⟨i1,lN,jX,sN⟩:=uQ
    have QN:cs.length=acc.length*4:=by
     obtain ⟨a,b,q1,q2,q3⟩:=s.at (k:=12) rfl
     exact oO q3
    have abO:Wf.length=c.length*4:=by
     obtain ⟨a,b,q1,q2,q3⟩:=s.at (k:=1) rfl
     exact oO q3
    obtain ⟨U,h2,uJ,s2⟩:=jx (s.ae [11,0]) iM lN ry jX (by omega) rfl (by decide) (by omega)
    dsimp only [bringA,getA,aT] at s2
    refine aB.any rfl rfl rfl (OpR.of (R:=fun v h'=>v=U∧h'=h2) (oE rfl rfl uJ) ⟨rfl,rfl⟩) ?_
    rintro v' h' ⟨rfl,rfl⟩
    refine za rfl (zv (zr rfl (zb rfl (by exact bQ (aU (by omega) (by omega))) ?_)))
    refine zm rfl (zv ?_)
    have s3:Sat _ (cV cs acc::cV Wf c::_):=s2.ae [12,2]
    have s4:=s3.two (C:=cV (cs++Wf) (acc++c)) (aE.mB _ _) (aE.mB _ _) fun a b q1 q2=>xp q1 q2
    dsimp only [bringA,getA,aT] at s4
    have s5:=bM.2 ⟨dv,s4.ae [7,7]⟩
    dsimp only [bringA,getA,aT] at s5
    have s6:=fC.2 ⟨nv,s5.ae [7,7]⟩
    dsimp only [bringA,getA,aT] at s6
    have s7:=(((s6.ae [3,2,0,0,3,3,3,3]).del 10).del 9).del 8
    dsimp only [bringA,getA,aT] at s7
    refine ih (i+1) (acc++c) _ _ ε' _ _ Q (by omega) HQ qI (by simp; omega) s7 ⟨rfl,rfl,rfl,rfl,rfl,aa⟩ (fun e c' I E' h' ht he l2 l3 s' => ?_) (fun c' I E' h' QO yl ht hl gu s' => ?_)
    ·exact hr e _ I E' h' (.part n _ ε w b ε' c e c' I J hb hd hc jY ht) he l2 l3 s'
    ·refine hx (c++c') I E' h' QO yl (.part n _ ε w b ε' c 0 c' I J hb hd hc jY ht) (by simp at hl ⊢; omega) gu ?_
     rw [←bN]
     exact s'
   | false =>
    refine zK 5 rfl (zc rfl (j6 hT (s.ae [4]) (cJ _ _) (by omega)) ?_)
    intro cw h s
    dsimp only [bringA,getA,aT] at s
    obtain ⟨wid,_,QS,_,rfl,_⟩:=s.kB (by omega)
    have s:=s.fJ
    refine zo rfl (c7 rfl (by rw [P5]; rfl)) ?_
    obtain ⟨rv,h1,zy,s1⟩:=nR (P:=Tryz.prog) (k:=4) (x:=.agg [.int .i64 n,.int .i64 0,.bool true,.sl wid 0 b.length QS]) s iM ry sD rfl (by decide) (by decide) rfl rfl
    dsimp only [V.cells] at s1
    refine aB.any rfl rfl rfl (OpR.of (R:=fun v h'=>v=rv∧h'=h1) (oJ rfl zy) ⟨rfl,rfl⟩) ?_
    rintro v' h' ⟨rfl,rfl⟩
    obtain ⟨i1,lN,jX,sN⟩:=uQ
    have QN:cs.length=acc.length*4:=by
     obtain ⟨a,b,q1,q2,q3⟩:=s1.at (k:=11) rfl
     exact oO q3
    obtain ⟨U,h2,uJ,s2⟩:=jx (s1.ae [10,0]) iM lN ry jX (by omega) rfl (by decide) (by simp only [bj,bY]; omega)
    dsimp only [bringA,getA,aT] at s2
    refine aB.any rfl rfl rfl (OpR.of (R:=fun v h'=>v=U∧h'=h2) (oE rfl rfl uJ) ⟨rfl,rfl⟩) ?_
    rintro v' h' ⟨rfl,rfl⟩
    refine za rfl (zv (zr rfl (zb rfl (by exact bQ (aU (by omega) (by omega))) ?_)))
    refine zm rfl (zv ?_)
    have s3:Sat _ (cV cs acc::.cm (.sl wid 0 b.length QS) b::_):=s2.ae [11,2]
    have s4:=s3.two (C:=cV (cs++[.int .i64 n,.int .i64 0,.bool true,.sl wid 0 b.length QS]) (acc++[⟨n,0,true,b⟩])) (aE.mB _ _) (aE.cm _ _) fun a b q1 q2=>xp q1 ⟨⟨⟨rfl,rfl,rfl⟩,q2⟩,aa⟩
    have s5:=bM.2 ⟨dv,s4.ae [6,6]⟩
    have s6:=fC.2 ⟨nv,s5.ae [6,6]⟩
    have s7:=(((s6.ae [3,2,0,0,2,2,2,2]).del 10).del 9).del 8
    dsimp only [bringA,getA,aT] at s7
    refine ih (i+1) (acc++[⟨n,0,true,b⟩]) _ _ ε' _ _ Q (by omega) HQ qI (by simp; omega) s7 ⟨rfl,rfl,rfl,rfl,rfl,aa⟩ (fun e c' I E' h' ht he l2 l3 s' => ?_) (fun c' I E' h' QO yl ht hl gu s' => ?_)
    ·exact hr e _ I E' h' (.whole n _ ε w b ε' e c' I J hb hd ht) he l2 l3 s'
    ·refine hx (⟨n,0,true,b⟩::c') I E' h' QO yl (.whole n _ ε w b ε' 0 c' I J hb hd ht) (by simp at hl ⊢; omega) gu ?_
     rw [bN] at s'
     exact s'
theorem LX (U:W told)(s:Sat h (gO g a now b_::cu a p q r op data aC::b8 r p q ε.1::bf q p ε.2.1::aD p ε.2.2::S))(oc:hG ε)(hw:ct ε≤268435456)(I:∀e∈now,e.2.length=512)(hm:now.length≤65536)(hk:∀n∈now.map (·.1),(Lit.int .i64 n).wf=true):
  Call ⟨Tryz.prog,told⟩ 47 [.ptr g 0] h fun v h'=>∃e c ε',jr now (aJ now) ε e c ε' ∧
   ((e≠0∧v=.bD [.bz,.int .i64 e]∧Sat h' (gO g a now b_::cu a p q r op data aC::b8 r p q ε'.1::bf q p ε'.2.1::aD p ε'.2.2::S)) ∨
    (e=0∧c.length≤33554432∧∃av cs,v=.bD [av,.int .i64 0]∧Sat h' (.arr 4 av cs::cV cs c::gO g a now b_::cu a p q r op data aC::b8 r p q ε'.1::bf q p ε'.2.1::aD p ε'.2.2::S))):=by
 have hl:(aJ now).length=now.length:=by rw [aJ,(eB _).length_eq,en]
 refine Call.of_wp (U.free _ rfl) Tryz.func47 rfl rfl (zK 13 rfl (zc rfl (Ol U s (by omega) hk) ?_))
 intro kv h s
 refine zo rfl (a_ rfl rfl rfl (s.iK (n:=(aJ now).length) (j:=0) rfl (by simp [eN]) (by decide) eC)) ?_
 refine zk 2 rfl (WP.block ?_)
 have s1:=(((s.gD aa).qq (k:=4)).fP fun a b q=>q).ae [0,0,1,1,1,1,1,0]
 refine HP U (ks:=aJ now) (now:=now) (by omega) (fun n hn => ?_) I (aJ now).length 0 [] .bz [] ε _ _ _ (by omega) oc hw (by simp) s1 ⟨rfl,rfl,rfl,rfl,rfl,aa⟩ (fun e c ε' E' h' J he l2 l3 s' => ?_) (fun c ε' E' h' av cs J jY gu s' => ?_)
 ·have:n∈now.map (·.1):=(eB _).mem_iff.1 hn
  cases hq:lookL n now with
  | some _=>rfl
  | none=>exact absurd this (f_.1 hq)
 ·rw [dS] at J
  exact ⟨aa,_,vC l2 l3,e,c,ε',J,.inl ⟨he,rfl,s'⟩⟩
 ·rw [dS] at J
  have s:=s'
  exact WP.has gu (zK 6 rfl (WP.ret ⟨aa,_,rfl,0,c,ε',J,.inr ⟨rfl,by simp at jY; omega,_,_,rfl,s⟩⟩))
end
end Go.Proofs.YtconhghphklfjaaGreat.Am
