/- AtomTorn: a part of its proof; conditions: its statement's. -/
import Derived.Test.YtconhghphklfjaaGreatT25
namespace Go.Proofs.YtconhghphklfjaaGreat.Am
open Go
inductive uT (ε:aO)(now:List (Int×List Nat))(b9:Bool)(n:Int)(b:List Nat): Int→List (Int×List Nat)→aO→Prop where
 | may (e:Int) (c:List Nat) (ε':aO) (hr:oQ ε now b9 n e c ε') (he:e≠0):uT ε now b9 n b e now ε'
 | bad (c:List Nat) (ε':aO) (hr:oQ ε now b9 n 0 c ε') (hg:bT b=false):uT ε now b9 n b 4 now ε'
 | done (c:List Nat) (ε':aO) (hr:oQ ε now b9 n 0 c ε') (hg:bT b=true):uT ε now b9 n b 0 (cN n b now) ε'
theorem uT.lp {ε ε':aO}{now gX:List (Int×List Nat)}{b9:Bool}{n e:Int}{b:List Nat}(I:uT ε now b9 n b e gX ε')(h:gW ε): gW ε':=by
 cases I with
 | may e c ε' I he=>exact I.lp h
 | bad c ε' I J=>exact I.lp h
 | done c ε' I J=>exact I.lp h
section
variable {told:dM} {h:H} {S:List ax} {X:ax} {r k q p bW a g aC:Nat} {op v x wh di:V} {l b data:List Nat} {π:Pl} {m:List Fm} {μ:Lg} {δ:Dk} {now:List (Int×List Nat)} {b9:Bool}
theorem WI (U:W told){n:Int}(s:Sat h (gV g a now b9::cC a p q r op data aC::cj r p q π::bh q p μ::aG p δ::S))(J:gW (π,μ,δ))(hw:δ.waiting.length≤268435456)(I:∀e∈now,e.2.length=512):
  Call ⟨Tryz.prog,told⟩ 42 [.iface 27 (.ptr g 0),.int .i64 n] h fun v h'=>∃(e:Int) (b:List Nat) (ε:aO),oQ (π,μ,δ) now b9 n e b ε∧v=.int .i64 e ∧
   Sat h' (gV g a now b9::cC a p q r op data aC::cj r p q ε.1::bh q p ε.2.1::aG p ε.2.2::S):=by
 refine Call.of_wp (U.free _ rfl) Tryz.func42 rfl rfl (zK 8 rfl (aB.any rfl rfl rfl (OpR.invoke rfl rfl rfl KH rfl (HZ (n:=n) U s J hw I)) ?_))
 rintro v h ⟨e,b,ε,hr,(⟨he,rfl,s⟩ | ⟨rfl,u,rfl,s⟩)⟩
 ·refine aB.op rfl rfl rfl (bn rfl) ?_
  exact zk 10 rfl (WP.ret ⟨aa,_,rfl,e,b,ε,hr,rfl,s⟩)
 ·skip
  exact zk 11 rfl (WP.ret ⟨aa,_,rfl,0,b,ε,hr,rfl,s.drop⟩)
theorem OJ (U:W told){n:Int}(s:Sat h (gV g a now b9::cC a p q r op data aC::cj r p q π::bh q p μ::aG p δ::X::S))(hX:cU X (cY x b))(hb:b.length<9223372036854775808)(nt:gW (π,μ,δ))(hw:δ.waiting.length≤268435456)(J:∀e∈now,e.2.length=512):
  Call ⟨Tryz.prog,told⟩ 14 [.ptr g 0,.int .i64 n,x] h fun v h'=>∃(e:Int) (gX:List (Int×List Nat)) (ε:aO),uT (π,μ,δ) now b9 n b e gX ε∧v=.int .i64 e ∧
   Sat h' (gV g a gX b9::cC a p q r op data aC::cj r p q ε.1::bh q p ε.2.1::aG p ε.2.2::X::S):=by
 refine Call.of_wp (U.free _ rfl) Tryz.func14 rfl rfl (zK 8 rfl (zo rfl (LH rfl (He uQ rfl)) (zm rfl (zc rfl (WI (n:=n) U s nt hw J) ?_))))
 rintro v h ⟨e,c,ε,hr,rfl,s⟩
 refine zk 5 rfl ?_
 by_cases he:e=0
 ·skip
  subst he
  refine zh rfl (ah rfl rfl aV) (rfl) (zk 7 rfl (zc rfl (Ku U (s.ae [5]) hX hb) ?_))
  rintro v h ⟨rfl,s⟩
  refine zo rfl (dS rfl rfl) (zv ?_)
  by_cases I:bT b=true
  ·skip
   refine WP.Sn rfl (by rw [I]; rfl) ?_
   have aaO:=fy I
   obtain ⟨nv,s⟩:=fI.1 (s.ae [1])
   have s:=s.ae [2,0,0]
   obtain ⟨wO,rfl⟩:=zQ s (j:=2) rfl
   refine zK 2 rfl ?_
   have s0:=s
   refine WP.drawn [some (0,2),some (0,2),some (0,2),some (0,2),some (0,2),ai,ai,ai] rfl (by kernel_rfl) (by kernel_rfl) ?_
   refine zM rfl (zN rfl (zF rfl (uF _ _) (zL rfl (s.ld (k:=1) rfl mB rfl) (zM rfl (zM rfl (aA.any rfl rfl rfl rfl (OpR.call rfl rfl rfl rfl (kr U s hX (by omega))) ?_))))))
   intro u h s
   obtain ⟨yx,_,cap,_,rfl,_⟩:=s.kM (by omega)
   have s:=s.fN
   have s1:=s
   refine aA.h_ rfl rfl rfl (OpR.mapUpdate rfl rfl rfl rfl (oZ (f:=fun v b=>ax.ct v b) (x:=b) (fun _ _=>aH.ct _ _) (s.ae [0,2]) lN bG)) ?_
   intro w h s
   refine aA.nil ⟨⟨fun _ _=>.inr ⟨rfl,⟨_,bn rfl⟩,aX _ rfl⟩,fun _ _=>.inr ⟨rfl,⟨_,kq rfl⟩,aX _ rfl⟩,fun _ _=>.inr ⟨rfl,⟨_,jI rfl (uF _ _)⟩,aX _ rfl⟩,dX (.inr ⟨rfl,⟨_,aW rfl (s0.ld (k:=1) rfl mB rfl)⟩,aX _ rfl⟩) (.inr ⟨rfl,⟨_,aW rfl (s1.ld (k:=2) rfl mB rfl)⟩,aX _ rfl⟩),fun _ _=>.inr ⟨rfl,⟨_,bn rfl⟩,aX _ rfl⟩,aa,aa,aa,aa⟩,?_⟩
   exact zK 4 rfl (WP.ret ⟨aa,_,rfl,0,_,ε,.done c ε hr I,rfl,fI.2 ⟨.map wO,s.ae [2,0,1,1,1,1,0]⟩⟩)
  ·have I:bT b=false:=by simpa using I
   refine WP.LL rfl (by rw [I]; rfl) ?_
   exact zK 4 rfl (WP.ret ⟨aa,_,rfl,4,_,ε,.bad c ε hr I,rfl,s.ae [1,1,1,1,1,0]⟩)
 ·skip
  refine zt rfl (ah rfl rfl aV) (by simp; exact he) ?_
  exact zk 7 rfl (WP.ret ⟨aa,_,rfl,e,_,ε,.may e c ε hr he,rfl,s⟩)
theorem FH (I:W told)(s:Sat h (gV g a now b9::cC a p q r (.ptr g 0) data aC::S)): Call ⟨Tryz.prog,told⟩ 49 [.ptr g 0] h fun v h'=>v=.bE []∧Sat h' (gV g a now true::cC a p q r .cK data aC::S):=by
 obtain ⟨nv,s⟩:=fI.1 s
 obtain ⟨dv,s⟩:=bL.1 (s.ae [2])
 refine Call.of_wp (I.free _ rfl) Tryz.func49 rfl rfl (zK 4 rfl (zf rfl (Hj _ _) ?_))
 refine zS rfl (by exact s.ee (k:=2) rfl yq rfl (by decide) rfl rfl) (fun h s => ?_)
 refine zk 5 rfl (zf rfl (uE _ _) (zl rfl (s.ld (k:=2) rfl BY rfl) (zn rfl (zf rfl (uD _ _) (zl rfl (s.ld (k:=0) rfl Hf rfl) (zm rfl (zt rfl (ah rfl rfl (YG uQ aaC (by decide) (s.row (k:=2) rfl) (s.row (k:=2) rfl) (by decide) (by decide))) (dx g) ?_)))))))
 refine zk 5 rfl (zf rfl (uE _ _) (zl rfl (s.ld (k:=2) rfl BY rfl) (zn rfl (zf rfl (uD _ _) ?_))))
 refine zS rfl (by exact s.ee (k:=0) rfl Wb rfl (by decide) rfl rfl) (fun h s => ?_)
 refine zv ?_
 have s:=fI.2 ⟨nv,(bL.2 ⟨dv,s⟩).ae [1,1]⟩
 exact ⟨aa,_,rfl,rfl,s⟩
theorem H6 (I:W told)(s:Sat h (gV g a now b9::cC a p q r (.ptr g 0) data aC::S)): Call ⟨Tryz.prog,told⟩ 27 [.ptr g 0] h fun v h'=>v=.bE []∧Sat h' (gV g a now true::cC a p q r .cK data aC::S):=by
 refine Call.of_wp (I.free _ rfl) Tryz.func27 rfl rfl (zK 2 rfl (zc rfl (FH I s) ?_))
 rintro v h ⟨rfl,s⟩
 exact zv ⟨aa,_,rfl,rfl,s⟩
end
inductive uU (aM:Int)(cV now:List Nat): Nat→List cn→Prop where
 | done (i:Nat) (h:now.length≤i):uU aM cV now i []
 | skip (i:Nat) (l:List cn) (h:i<now.length) (he:cV[i]?=now[i]?) (hr:uU aM cV now (i+1) l):uU aM cV now i l
 | take (i e:Nat) (l:List cn) (h1:i<e) (h2:e≤now.length) (h3:cV[i]?≠now[i]?) (h4:∀k,e≤k→k<e+8→cV[k]?=now[k]?) (hr:uU aM cV now e l):uU aM cV now i (⟨aM,i,false,(now.take e).drop i⟩::l)
def FI (aM:Int)(cV now:List Nat)(c:List cn): Prop:=∃l,uU aM cV now 12 l∧c=if l=[] then [⟨aM,0,false,[]⟩] else l
theorem uV : ∃i,Tryz.prog.info? 54=some i∧i.size=4∧i.bytes=48 :=
 ⟨_,(show Tryz.prog.info? 54=some ((Tryz.prog.info? 54).getD default) by kernel_rfl),by kernel_rfl,by kernel_rfl⟩
section
variable {told:dM} {h:H} {S:List ax} {X Y:ax} {r k q p bW a g aC:Nat} {op v x u wh di:V} {l b cV now:List Nat}
noncomputable def rgO : Code:=cM [1,1,0,1,0,0] ((Tryz.f87.body).getD .skip)
noncomputable def rgI : Code:=cM [1,1,0,1,0,0,1,0,1,1,0,1,0,0] ((Tryz.f87.body).getD .skip)
theorem Q8 {pg:Int}{I:Nat}{t7:V}{k1 k2:Nat}(s:Sat h S)(yM:getA S k1=some X)(hX:cU X (cY u cV))(Kr:getA S k2=some Y)(hY:cU Y (cY v now))(wL:cV.length=512)(kx:now.length=512): ∀(j i e:Nat) (E:List (Nat×V)) (Q:Ex→List (Nat×V)→H→Prop),i+j=512→I<e→e≤i→(∀k,e≤k→k<i→cV[k]?=now[k]?) →
  Has E [(0,.int .i64 pg),(1,u),(2,v),(7,t7),(8,.int .i64 (I:Int)),(9,.int .i64 (e:Int)),(10,.int .i64 (i:Int))] →
  (∀J E',I<J→J≤512→(∀k,J≤k→k<J+8→cV[k]?=now[k]?)→Has E' [(0,.int .i64 pg),(1,u),(2,v),(7,t7),(8,.int .i64 (I:Int)),(9,.int .i64 (J:Int))]→Q (.exit 2) E' h) →
  WP ⟨Tryz.prog,told⟩ 71 (.loop rgI) E h Q:=by
 have hv:=s.aL Kr hY
 have hu:=s.aL yM hX
 have hlen:lenV Tryz.prog h 32 v=some (.int .i64 now.length):=bj aS hv
 intro j
 induction j with
 | zero =>
  intro i e E Q hi h1 h2 hg hE U
  refine WP.loop (WP.has hE (zK 5 rfl (zo rfl (bf rfl rfl rfl hlen) (zh rfl (ah rfl rfl bB) (by simp <;> omega) ?_))))
  refine zk 8 rfl (WP.exit ?_)
  refine U e _ h1 (by omega) (fun k k1 _ => ?_) ⟨rfl,rfl,rfl,rfl,rfl,rfl,aa⟩
  by_cases hk:k<i
  ·exact hg k k1 hk
  ·rw [pE (by omega),pE (by omega)]
 | succ j ih =>
  intro i e E Q hi h1 h2 hg hE U
  have hb:now[i]?=some (now[i]'(by omega)):=bg _
  generalize (now[i]'(by omega))=b at hb
  have hc:cV[i]?=some (cV[i]'(by omega)):=bg _
  generalize (cV[i]'(by omega))=c at hc
  obtain ⟨id,off,e1,e2⟩:=iq hv hb
  obtain ⟨Bu,off',e3,e4⟩:=iq hu hc
  refine WP.loop (WP.has hE (zK 5 rfl (zo rfl (bf rfl rfl rfl hlen) (zt rfl (ah rfl rfl bB) (by simp <;> omega) ?_))))
  refine zk 3 rfl (zb rfl (by exact bU (aY (by omega) (by omega))) ?_)
  by_cases hd:i<e+8
  ·skip
   refine zt rfl (ah rfl rfl bB) (by simp <;> omega) ?_
   refine zk 5 rfl (WP.block (zw ?_))
   have s0:=s
   refine WP.drawn [ai,ai,ai,ai,ai,ai,ai,ai,ai] rfl (by kernel_rfl) (by kernel_rfl) ?_
   refine zM rfl (zM rfl (zO rfl (ej (r:=.ptr Bu off') rfl rfl e3) (zL rfl e4 (zM rfl (zM rfl (zO rfl (ej (r:=.ptr id off) rfl rfl e1) (zL rfl e2 ?_)))))))
   by_cases KI:c=b
   ·skip
    refine aA.nD rfl rfl rfl rfl (ah rfl rfl aV) (by simp; exact_mod_cast KI) ?_
    refine aA.nil ⟨⟨aa,aa,aa,aa,aa,aa,aa,aa,aa,aa⟩,?_⟩
    refine zj rfl (WP.skip (zr rfl (zm rfl (zb rfl (by exact bU (aY (by omega) (by omega))) ?_))))
    refine za rfl (zv ?_)
    exact ih (i+1) e _ Q (by omega) h1 (by omega) (fun k k1 k2=>(by
     rcases rC k i with h | h
     ·exact hg k k1 h
     ·rw [show k=i by omega,hb,hc,KI])) ⟨rfl,rfl,rfl,rfl,rfl,rfl,rfl,aa⟩ U
   ·skip
    refine aA.qx rfl rfl rfl rfl (ah rfl rfl aV) (by simp; omega) ?_
    refine aA.nil ⟨⟨aa,aa,aa,aa,aa,aa,aa,aa,aa,aa⟩,?_⟩
    refine zK 3 rfl (zb rfl (by exact bU (aY (by omega) (by omega))) ?_)
    refine za rfl (zv (zr rfl (zm rfl (zb rfl (by exact bU (aY (by omega) (by omega))) ?_))))
    refine za rfl (zv ?_)
    exact ih (i+1) (i+1) _ Q (by omega) (by omega) (by omega) (fun k k1 k2=>absurd k2 (by omega)) ⟨rfl,rfl,rfl,rfl,rfl,rfl,rfl,aa⟩ U
  ·skip
   refine zh rfl (ah rfl rfl bB) (by simp <;> omega) ?_
   exact zk 3 rfl (WP.exit (U e _ h1 (by omega) (fun k k1 k2=>hg k k1 (by omega)) ⟨rfl,rfl,rfl,rfl,rfl,rfl,aa⟩))
theorem Q9 (hT:W told){pg:Int}(hX:cU X (cY u cV))(hY:cU Y (cY v now))(wL:cV.length=512)(kx:now.length=512): ∀(j i:Nat) (acc:List cn) (av:V) (cs:List V) (h:H) (E:List (Nat×V)) (Q:Ex→List (Nat×V)→H→Prop),512≤i+j→i≤512→acc.length≤i →
  Sat h (.arr 4 av cs::cZ cs acc::X::Y::S)→(∀l,uU pg cV now i l→uU pg cV now 12 (acc++l)) →
  Has E [(0,.int .i64 pg),(1,u),(2,v),(7,av),(8,.int .i64 (i:Int))] →
  (∀U cs' l E' h',uU pg cV now 12 l→l.length≤512→Sat h' (.arr 4 U cs'::cZ cs' l::X::Y::S)→Has E' [(0,.int .i64 pg),(7,U)]→Q (.exit 0) E' h') →
  WP ⟨Tryz.prog,told⟩ 71 (.loop rgO) E h Q:=by
 intro j
 induction j with
 | zero =>
  intro i acc av cs h E Q hj hi WJ s I hE hq
  have hlen:lenV Tryz.prog h 32 v=some (.int .i64 now.length):=bj aS (s.aL (k:=3) rfl hY)
  refine WP.loop (WP.has hE (zK 5 rfl (zo rfl (bf rfl rfl rfl hlen) (zh rfl (ah rfl rfl bB) (by simp <;> omega) ?_))))
  refine zk 2 rfl (WP.exit ?_)
  have:=I [] (.done _ (by omega))
  rw [bF] at this
  exact hq av cs acc _ _ this (by omega) s ⟨rfl,rfl,aa⟩
 | succ j ih =>
  intro i acc av cs h E Q hj hi WJ s I hE hq
  have hv:=s.aL (k:=3) rfl hY
  have hu:=s.aL (k:=2) rfl hX
  have hlen:lenV Tryz.prog h 32 v=some (.int .i64 now.length):=bj aS hv
  by_cases bV:i<512
  ·have hb:now[i]?=some (now[i]'(by omega)):=bg _
   generalize (now[i]'(by omega))=b at hb
   have hc:cV[i]?=some (cV[i]'(by omega)):=bg _
   generalize (cV[i]'(by omega))=c at hc
   obtain ⟨id,off,e1,e2⟩:=iq hv hb
   obtain ⟨Bu,off',e3,e4⟩:=iq hu hc
   refine WP.loop (WP.has hE (zK 5 rfl (zo rfl (bf rfl rfl rfl hlen) (zt rfl (ah rfl rfl bB) (by simp <;> omega) ?_))))
   refine zk 3 rfl (WP.block (zK 2 rfl ?_))
   have s0:=s
   refine WP.drawn [ai,ai,ai,ai,ai,ai,ai,ai,ai] rfl (by kernel_rfl) (by kernel_rfl) ?_
   refine zM rfl (zM rfl (zO rfl (ej (r:=.ptr Bu off') rfl rfl e3) (zL rfl e4 (zM rfl (zM rfl (zO rfl (ej (r:=.ptr id off) rfl rfl e1) (zL rfl e2 ?_)))))))
   by_cases KI:c=b
   ·skip
    refine aA.qx rfl rfl rfl rfl (ah rfl rfl cB) (by simp; exact_mod_cast KI) ?_
    refine aA.nil ⟨⟨aa,aa,aa,aa,aa,aa,aa,aa,aa,aa⟩,?_⟩
    refine zK 4 rfl (zb rfl (by exact bU (aY (by omega) (by omega))) ?_)
    exact zk 2 rfl (WP.exit (ih (i+1) acc av cs h _ Q (by omega) (by omega) (by omega) s (fun l hl=>I l (.skip i l (by omega) (by rw [hb,hc,KI]) hl)) ⟨rfl,rfl,rfl,rfl,rfl,aa⟩ hq))
   ·skip
    refine aA.nD rfl rfl rfl rfl (ah rfl rfl cB) (by simp; omega) ?_
    refine aA.nil ⟨⟨aa,aa,aa,aa,aa,aa,aa,aa,aa,aa⟩,?_⟩
    refine zK 5 rfl (zb rfl (by exact bU (aY (by omega) (by omega))) ?_)
    refine zk 8 rfl (WP.block ?_)
    refine Q8 s (k1:=2) (k2:=3) rfl hX rfl hY wL kx (512-(i+1)) (i+1) (i+1) _ _ (by omega) (D6 i) (aI _) (fun k k1 k2=>absurd k2 (by omega)) ⟨rfl,rfl,rfl,rfl,rfl,rfl,rfl,aa⟩ (fun e' E' H7 he2 H8 iH => ?_)
    refine WP.has iH ?_
    have hsv:=iN hv (a:=i) (b:=e') (by omega) (by omega)
    refine zK 8 rfl (zo rfl (cF (p:=some (.int .i64 (i:Int))) (q:=some (.int .i64 (e':Int))) (m:=none) (p':=some i) (q':=some e') (m':=none) rfl rfl rfl rfl (by rw [fO (by omega)]; rfl) (by rw [fO (by omega)]; rfl) rfl hsv.1) ?_)
    refine zc rfl (kr hT (s.ae [3]) (mQ hY (a:=i) (b:=e') (by omega) (by omega)) (by simp; omega)) ?_
    intro w h s
    dsimp only [bringA,getA,aU] at s
    obtain ⟨wid,_,J,_,rfl,_⟩:=s.kM (by simp; omega)
    have s:=s.fN
    generalize G1:(now.take e').drop i=bs at s
    refine zo rfl (c8 rfl (by rw [Qp]; rfl)) ?_
    obtain ⟨rv,h1,Ae,s1⟩:=oc (P:=Tryz.prog) (k:=4) (x:=.agg [.int .i64 pg,.int .i64 (i:Int),.bool false,.sl wid 0 bs.length J]) s iR rJ sM rfl (by decide) (by decide) rfl rfl
    dsimp only [V.cells] at s1
    refine aB.any rfl rfl rfl (OpR.of (R:=fun v h'=>v=rv∧h'=h1) (qu rfl Ae) ⟨rfl,rfl⟩) ?_
    rintro v' h' ⟨rfl,rfl⟩
    obtain ⟨i1,lZ,kf,sR⟩:=uV
    have kg:cs.length=acc.length*4:=by
     obtain ⟨a,b,q1,q2,q3⟩:=s1.at (k:=4) rfl
     exact o9 q3
    obtain ⟨U,h2,uO,s2⟩:=jB (s1.ae [3,0]) iR lZ rJ kf (by omega) rfl (by decide) (by simp only [bl,bY]; omega)
    dsimp only [bringA,getA,aU] at s2
    refine aB.any rfl rfl rfl (OpR.of (R:=fun v h'=>v=U∧h'=h2) (oT rfl rfl uO) ⟨rfl,rfl⟩) ?_
    rintro v' h' ⟨rfl,rfl⟩
    refine za rfl (zv (zr rfl (zk 2 rfl (zv ?_))))
    have s3:Sat _ (cZ cs acc::.ct (.sl wid 0 bs.length J) bs::_):=s2.ae [4,2]
    have s4:=s3.two (C:=cZ (cs++[.int .i64 pg,.int .i64 (i:Int),.bool false,.sl wid 0 bs.length J]) (acc++[⟨pg,i,false,bs⟩])) (aH.mD _ _) (aH.ct _ _) fun a b q1 q2=>xI q1 ⟨⟨⟨rfl,rfl,rfl⟩,q2⟩,aa⟩
    have s5:=(s4.ae [1,0,2,1]).del 4
    dsimp only [bringA,getA,aU] at s5
    refine ih e' (acc++[⟨pg,(i:Int),false,bs⟩]) _ _ _ _ Q (by omega) he2 (by simp; omega) s5 (fun l hl => ?_) ⟨rfl,rfl,rfl,rfl,rfl,aa⟩ hq
    have:=I _ (.take i e' l H7 (by omega) (fun hx=>by rw [hb,hc] at hx; exact KI (bx hx)) H8 hl)
    rw [G1] at this
    rwa [bH]
  ·have hi5:i=512:=by omega
   refine WP.loop (WP.has hE (zK 5 rfl (zo rfl (bf rfl rfl rfl hlen) (zh rfl (ah rfl rfl bB) (by simp <;> omega) ?_))))
   refine zk 2 rfl (WP.exit ?_)
   have:=I [] (.done _ (by omega))
   rw [bF] at this
   exact hq av cs acc _ _ this (by omega) s ⟨rfl,rfl,aa⟩
theorem OK (hT:W told){pg:Int}(s:Sat h (X::Y::S))(hX:cU X (cY u cV))(hY:cU Y (cY v now))(J:cV.length=512)(U:now.length=512):
  Call ⟨Tryz.prog,told⟩ 87 [.int .i64 pg,u,v] h fun w h'=>∃cs l,FI pg cV now l∧l.length≤512∧Sat h' (.arr 4 w cs::cZ cs l::X::Y::S):=by
 refine Call.of_wp (hT.free _ rfl) Tryz.func87 rfl rfl (zK 13 rfl (WP.block ?_))
 refine Q9 hT (pg:=pg) hX hY J U 500 12 [] .bz [] _ _ _ (by omega) (by omega) (by simp) ((s.gB aa).qC) (fun l hl=>hl) ⟨rfl,rfl,rfl,rfl,rfl,aa⟩ (fun KD cs' l E' h' hr FJ s' iH => ?_)
 have s:=s'
 have hlen:=s.wM (j1:=0) (j2:=1) rfl rfl iR
 have Dp:=s.kU (j:=0) rfl
 refine WP.has iH (zK 4 rfl (zo rfl (bf rfl rfl rfl hlen) ?_))
 by_cases I:l=[]
 ·skip
  refine zt rfl (ah rfl rfl cB) (by subst I; rfl) ?_
  refine zk 5 rfl (zo rfl (c8 rfl (by rw [Qp]; rfl)) ?_)
  obtain ⟨rv,h1,Ae,s1⟩:=oc (P:=Tryz.prog) (k:=4) (x:=.agg [.int .i64 pg,.int .i64 0,.bool false,.bz]) s iR rJ sM rfl (by decide) (by decide) rfl rfl
  dsimp only [V.cells] at s1
  refine aB.any rfl rfl rfl (OpR.of (R:=fun v h'=>v=rv∧h'=h1) (qu rfl Ae) ⟨rfl,rfl⟩) ?_
  rintro v' h' ⟨rfl,rfl⟩
  refine zk 2 rfl (WP.ret ⟨aa,_,rfl,?_⟩)
  refine ⟨[.int .i64 pg,.int .i64 0,.bool false,.bz],[⟨pg,0,false,[]⟩],⟨l,hr,by rw [aj I]⟩,by simp,?_⟩
  have s2:=(s1.del 2).del 1
  have s3:Sat _ (.ct .bz []::.arr 4 v' _::X::Y::S):=s2.r7
  have s4:=s3.fY (B:=cZ [.int .i64 pg,.int .i64 0,.bool false,.bz] [⟨pg,0,false,[]⟩]) fun a b q=>⟨⟨⟨rfl,rfl,rfl⟩,q⟩,aa⟩
  exact s4.ae [1,0]
 ·skip
  refine zh rfl (ah rfl rfl cB) (by cases l with | nil=>exact absurd rfl I | cons _ _=>simp; omega) ?_
  exact zk 8 rfl (WP.ret ⟨aa,_,rfl,_,l,⟨l,hr,by rw [af I]⟩,FJ,s⟩)
end
def gS (m:List Fm): Nat:=(m.map (·.changed)).count true
theorem nf {f g:Fm}: ∀ {m:List Fm} {i:Nat},m[i]?=some f→gS (m.set i g)+f.changed.toNat=gS m+g.changed.toNat:=by
 intro m
 induction m with
 | nil=>intro i h; simp at h
 | cons x m I =>
  intro i h
  cases i with
  | zero =>
   simp at h
   subst h
   simp only [gS,List.set_cons_zero,bI,List.count_cons]
   cases x.changed <;> cases g.changed <;> simp
  | succ i =>
   rw [kF] at h
   have:=I h
   simp only [gS,List.set_cons_succ,bI,List.count_cons] at this ⊢
   omega
theorem Dq {g:Fm}(I:g.changed=false): ∀ {m:List Fm} {i:Nat},gS (m.set i g)≤gS m:=by
 intro m i
 cases h:m[i]? with
 | none =>
  have:m.length≤i:=by simpa using h
  rw [List.set_eq_of_length_le this]
  exact aI _
 | some f =>
  have:=nf (g:=g) h
  rw [I] at this
  simp only [Bool.toNat_false] at this
  omega
def cm (ε:aO): Nat:=ε.2.2.waiting.length+gS ε.1.ak
theorem lX {ε:aO}: ε.2.2.waiting.length≤cm ε:=tH _ _
theorem gj.count {π I:Pl}(J:gj π I): gS I.ak=gS π.ak:=by
 have:I.ak.map (·.changed)=π.ak.map (·.changed):=by
  refine AF fun i => ?_
  rw [pH,pH]
  cases h:π.ak[i]? with
  | none =>
   have U:π.ak.length≤i:=by simpa using h
   have:I.ak[i]?=none:=by simp [J.len,U]
   rw [this]
  | some f =>
   obtain ⟨t,ht⟩:=J.get i f h
   rw [ht]; rfl
 simp only [gS,this]
theorem H9 {δ:Dk}{n:Int}{b:List Nat}(h:(δ.bk n b).1≠0): (δ.bk n b).2.waiting=δ.waiting:=by
 unfold Dk.bk at h ⊢
 split
 ·rfl
 ·rename_i I
  rw [af I] at h
  split
  ·rfl
  ·rename_i J
   rw [af J] at h
   split
   ·rfl
   ·rename_i U
    rw [af U] at h
    exact absurd rfl h
theorem H_ {ε:aO}{i:Nat}: cm (outF ε i).2≤cm ε:=by
 unfold outF
 split
 ·exact aI _
 ·rename_i f J
  split
  ·exact aI _
  ·rename_i I
   have I:f.changed=true:=by cases h:f.changed <;> simp [h] at I ⊢
   split
   ·exact aI _
   ·split
    ·simp only [cm,kX]; exact aI _
    ·split
     ·rename_i hw
      simp only [cm,H9 hw,kX]; exact aI _
     ·have U:=BH (δ:=(aT ε.2 (dY f.b 4 8)).2.2) (n:=f.aM) (b:=f.b)
      rw [kX] at U
      have h2:=nf (g:={ f with changed:=false }) J
      simp only [I,Bool.toNat_true,Bool.toNat_false] at h2
      simp only [cm]
      omega
theorem Aj {π:Pl}{i:Nat}{f:Fm}: gS (dH π i f).ak≤gS π.ak:=Dq rfl
theorem gn.cm {ε ε':aO}{n e:Int}{b:List Nat}(hr:gn ε n e b ε'): Am.cm ε'≤Am.cm ε:=by
 have rQ:∀ {I:Pl},gj ε.1 I→∀i,Am.cm (outF (I,ε.2) i).2≤Am.cm ε:=fun {I} J i=>by
  have:=H_ (ε:=(I,ε.2)) (i:=i)
  refine cy this ?_
  simp only [Am.cm,J.count]
  exact aI _
 cases hr with
 | arg _=>exact aI _
 | BF i f h1 U hl hf =>
  have U:=nf (g:={ f with fA:=true,pins:=f.pins+1 }) hf
  simp only [Am.cm] at U ⊢
  omega
 | out I i f h1 U hl J hf hh he=>exact rQ J i
 | read I i f h1 U hl J hf hh he hr=>exact cy (vT Aj _) (rQ J i)
 | bad I i f h1 U hl J hf hh he hr hc=>exact cy (vT Aj _) (rQ J i)
 | load I i f h1 U hl J hf hh he hr hc=>exact cy (vT (cy (Dq rfl) Aj) _) (rQ J i)
theorem Dr {π:Pl}{n:Int}: gS (unpinF π n).2.ak=gS π.ak:=by
 unfold unpinF
 split
 ·rfl
 ·split
  ·rfl
  ·rename_i i hi f I
   have J:=nf (g:={ f with pins:=f.pins-1 }) I
   simp only at J ⊢
   omega
theorem mP.cm {ε ε':aO}{n e:Int}{b:List Nat}(I:mP ε n e b ε'): Am.cm ε'≤Am.cm ε:=by
 cases I with
 | dead _=>exact aI _
 | jf e b ε' J I he=>exact I.cm
 | tw b ε' J I he=>have:=I.cm; simp only [Am.cm,Dr] at this ⊢; exact this
 | read b ε' J I he=>have:=I.cm; simp only [Am.cm,Dr] at this ⊢; exact this
theorem oQ.cm {ε ε':aO}{now:List (Int×List Nat)}{b9:Bool}{n e:Int}{b:List Nat}(I:oQ ε now b9 n e b ε'): Am.cm ε'≤Am.cm ε:=by
 cases I with
 | arg _=>exact aI _
 | b9 _ _ _=>exact aI _
 | own _ _ _ _ _=>exact aI _
 | read e b ε' J U h3 hl I=>exact I.cm
theorem uT.cm {ε ε':aO}{now gX:List (Int×List Nat)}{b9:Bool}{n e:Int}{b:List Nat}(I:uT ε now b9 n b e gX ε'): Am.cm ε'≤Am.cm ε:=by
 cases I with
 | may e c ε' I he=>exact I.cm
 | bad c ε' I J=>exact I.cm
 | done c ε' I J=>exact I.cm
inductive jx (now:List (Int×List Nat)): List Int→aO→Int→List cn→aO→Prop where
 | nil (ε:aO):jx now [] ε 0 [] ε
 | err (n:Int) (l:List Int) (ε:aO) (e:Int) (b:List Nat) (ε':aO) (hr:mP ε n e b ε') (he:e≠0):jx now (n::l) ε e [] ε'
 | part (n:Int) (l:List Int) (ε:aO) (cV b:List Nat) (ε':aO) (c:List cn) (e:Int) (cs:List cn) (qg:aO) (hr:mP ε n 0 cV ε') (hb:lookL n now=some b) (hd:(lookL n ε'.1.aN).isSome=true) (hc:FI n cV b c) (hl:c.length≤512) (ht:jx now l ε' e cs qg):jx now (n::l) ε e (c++cs) qg
 | whole (n:Int) (l:List Int) (ε:aO) (cV b:List Nat) (ε':aO) (e:Int) (cs:List cn) (qg:aO) (hr:mP ε n 0 cV ε') (hb:lookL n now=some b) (hd:(lookL n ε'.1.aN).isSome=false) (ht:jx now l ε' e cs qg):jx now (n::l) ε e (⟨n,0,true,b⟩::cs) qg
theorem jx.lp {now:List (Int×List Nat)}{l:List Int}{ε ε':aO}{e:Int}{cs:List cn}(I:jx now l ε e cs ε')(h:gW ε): gW ε':=by
 induction I with
 | nil ε=>exact h
 | err n l ε e b ε' I he=>exact I.lp h
 | part n l ε cV b ε' c e cs J I hb hd hc hl ht U=>exact U (I.lp h)
 | whole n l ε cV b ε' e cs J I hb hd ht U=>exact U (I.lp h)
theorem jx.cm {now:List (Int×List Nat)}{l:List Int}{ε ε':aO}{e:Int}{cs:List cn}(I:jx now l ε e cs ε'): Am.cm ε'≤Am.cm ε:=by
 induction I with
 | nil ε=>exact aI _
 | err n l ε e b ε' I he=>exact I.cm
 | part n l ε cV b ε' c e cs J I hb hd hc hl ht U=>exact cy U I.cm
 | whole n l ε cV b ε' e cs J I hb hd ht U=>exact cy U I.cm
theorem vJ {P:Program}{E:List (Nat×V)}{h:H}{a b:Nat}{v w:V}(I:look E a=some v)(J:look E b=some w): jz P E h [.tmp a,.tmp b]=some (.bE [v,w]):=by simp only [jz,mapO,resE,I,J]
section
variable {told:dM} {h:H} {S:List ax} {X Y:ax} {r k q p bW a g aC:Nat} {op v x u wh di:V} {l b cV data:List Nat} {now:List (Int×List Nat)} {b9:Bool} {ε:aO}
theorem xM (I:W told){id:Nat}(s:Sat h S): Call ⟨Tryz.prog,told⟩ 51 [.map id] h fun v h'=>∃b,v=.fn (.func 92) [] [.ptr b 0]∧Sat h' (pt b (.cells 1 [.map id] false)::S):=by
 refine Call.of_wp (I.free _ rfl) Tryz.func51 rfl rfl (zg rfl ?_)
 refine aB.cT s rfl rfl rfl (gL rfl rfl) (fun J h s => ?_)
 exact zk 4 rfl (zo rfl (A2 rfl rfl) (zk 2 rfl (WP.ret ⟨aa,_,rfl,_,rfl,s⟩)))
theorem OL (I:W told)(s:Sat h (gV g a now b9::S))(hm:now.length≤1048576)(U:∀n∈now.map (·.1),(Lit.int .i64 n).wf=true):
  Call ⟨Tryz.prog,told⟩ 85 [.ptr g 0] h fun v h'=>Sat h' (.arr 1 v (eT (aF now))::gV g a now b9::S):=by
 obtain ⟨nv,s⟩:=fI.1 s
 obtain ⟨J,rfl⟩:=zQ s (j:=1) rfl
 refine Call.of_wp (I.free _ rfl) Tryz.func85 rfl rfl (zK 8 rfl (zf rfl (uF _ _) (zl rfl (s.ld (k:=0) rfl mB rfl) (zc rfl (xM I s) ?_))))
 rintro v h ⟨b,rfl,s⟩
 refine zc rfl (qf I (s.ae [0,1]) (by decide) hm U) ?_
 intro kv h s
 exact zk 2 rfl (WP.ret ⟨aa,_,rfl,(fI.2 ⟨.map J,(s.ae [3,2,0]).del 3⟩).ae [1]⟩)
noncomputable def cgL : Code:=cM [1,1,0,1,0,0] ((Tryz.f47.body).getD .skip)
theorem Ia (hT:W told){ks:List Int}{kv:V}(OA:ks.length≤65536)(sU:∀n∈ks,(lookL n now).isSome=true)(nM:∀e∈now,e.2.length=512): ∀(j i:Nat) (acc:List cn) (av:V) (cs:List V) (ε:aO) (h:H) (E:List (Nat×V)) (Q:Ex→List (Nat×V)→H→Prop),i+j=ks.length →
  gW ε→cm ε≤268435456→acc.length≤512*i →
  Sat h (.arr 4 av cs::cZ cs acc::gV g a now b9::cC a p q r op data aC::cj r p q ε.1::bh q p ε.2.1::aG p ε.2.2::.arr 1 kv (eT ks)::S) →
  Has E [(0,.ptr g 0),(4,av),(13,kv),(14,.int .i64 ks.length),(15,.int .i64 i)] →
  (∀e c ε' E' h',jx now (ks.drop i) ε e c ε'→e≠0→look E' 2=some .bz→look E' 3=some (.int .i64 e)→Sat h' (gV g a now b9::cC a p q r op data aC::cj r p q ε'.1::bh q p ε'.2.1::aG p ε'.2.2::S)→Q .ret E' h') →
  (∀c ε' E' h' U cs',jx now (ks.drop i) ε 0 c ε'→acc.length+c.length≤512*ks.length→Has E' [(4,U)]→Sat h' (.arr 4 U cs'::cZ cs' (acc++c)::gV g a now b9::cC a p q r op data aC::cj r p q ε'.1::bh q p ε'.2.1::aG p ε'.2.2::S)→Q (.exit 0) E' h') →
  WP ⟨Tryz.prog,told⟩ 65 (.loop cgL) E h Q:=by
 intro j
 induction j with
 | zero =>
  intro i acc av cs ε h E Q hj nt hw WJ s hE hr hx
  refine WP.loop (WP.has hE (zg rfl (zh rfl (ah rfl rfl bB) (by simp <;> omega) ?_)))
  refine zk 3 rfl (WP.exit ?_)
  rw [iB (by omega)] at hx
  have s1:=s.del 7
  dsimp only [aU] at s1
  refine hx [] ε _ _ av cs (.nil ε) (by simp; omega) ⟨rfl,aa⟩ ?_
  rw [bF]
  exact s1
 | succ j ih =>
  intro i acc av cs ε h E Q hj nt hw WJ s hE hr hx
  have hn:ks[i]?=some (ks[i]'(by omega)):=bg _
  have xh:ks[i]'(by omega)∈ks:=pI _
  have jD:ks.drop i=ks[i]'(by omega)::ks.drop (i+1):=lq (by omega)
  generalize (ks[i]'(by omega))=n at hn xh jD
  have hc:(eT ks)[i]?=some (.int .i64 n):=by simp [eT,hn]
  obtain ⟨b,hb⟩:=Option.isSome_iff_exists.1 (sU n xh)
  have Gq:=nM _ (fC hb)
  simp only at Gq
  rw [jD] at hr hx
  obtain ⟨id,off,e1,e2⟩:=lC (P:=Tryz.prog) s (k:=7) rfl hc eH jK
  refine WP.loop (WP.has hE (zg rfl (zt rfl (ah rfl rfl bB) (by simp <;> omega) ?_)))
  refine zk 5 rfl (WP.block (zg rfl (zo rfl (ej (r:=.ptr id off) rfl rfl e1) (zl rfl (e2 _ dA) ?_))))
  obtain ⟨nv,s⟩:=fI.1 (s.ae [2])
  dsimp only [bringA,getA,aU] at s
  refine zk 6 rfl (zf rfl (uE _ _) (zl rfl (s.ld (k:=0) rfl BY rfl) (zm rfl (zc rfl (Ca (n:=n) hT (s.ae [4,4,4,4]) nt.ok nt.pins (cy lX hw)) ?_))))
  rintro v h ⟨e,w,ε',J,(⟨he,rfl,s⟩ | ⟨rfl,u,rfl,s⟩)⟩
  ·dsimp only [bringA,getA,aU] at s
   refine zk 10 rfl (zt rfl (ah rfl rfl aV) (by simp; exact he) ?_)
   refine zk 8 rfl (WP.ret (hr e [] ε' _ _ (.err n _ ε e w ε' J he) he rfl rfl ?_))
   have s:=fI.2 ⟨nv,s.ae [4,4]⟩
   dsimp only [bringA,getA,aU] at s
   exact ((s.del 7).del 6).del 5
  ·dsimp only [bringA,getA,aU] at s
   have ZV:=J.lp nt
   have qT:=cy J.cm hw
   have hlen:=J.len nt
   refine zk 10 rfl (zh rfl (ah rfl rfl aV) (rfl) ?_)
   have s:=s.fN
   have s:=s.ae [5,5,1,1,1,1,1,1,1,0]
   dsimp only [bringA,getA,aU] at s
   rcases mL (n:=n) (fun _ _=>aH.ct _ _) (s.ae [1]) lN bG zC with ⟨g1,g2,_⟩ | ⟨nw,b',g1,_,g2,s2⟩
   ·rw [hb] at g1; cases g1
   rw [hb] at g1
   have:=bx g1
   subst this
   refine zk 7 rfl (zf rfl (uF _ _) (zl rfl (s.ld (k:=0) rfl mB rfl) (zm rfl (zo rfl (gT rfl rfl g2) ?_))))
   obtain ⟨dv,s⟩:=bL.1 (s2.ae [3])
   dsimp only [bringA,getA,aU] at s
   have s:=s.ae [4]
   dsimp only [bringA,getA,aU] at s
   refine zk 6 rfl (zf rfl (uE _ _) (zl rfl (s.ld (k:=0) rfl BY rfl) (zn rfl (zf rfl (oN _ _) (zl rfl (s.ld (k:=1) rfl vF rfl) (zm rfl (zc rfl (Ww (n:=n) hT (s.ae [5])) ?_)))))))
   rintro v h ⟨rfl,s⟩
   dsimp only [bringA,getA,aU] at s
   refine zk 10 rfl ?_
   cases hd:(lookL n ε'.1.aN).isSome with
   | true =>
    refine zK 6 rfl (zc rfl (OK hT (u:=u) (v:=nw) (pg:=n) (s.ae [11,4]) (cJ _ _) (cJ _ _) hlen Gq) ?_)
    rintro rv h ⟨WK,c,hc,kg,s⟩
    dsimp only [bringA,getA,aU] at s
    obtain ⟨i1,lZ,kf,sR⟩:=uV
    have Q_:cs.length=acc.length*4:=by
     obtain ⟨a,b,q1,q2,q3⟩:=s.at (k:=12) rfl
     exact o9 q3
    have aco:WK.length=c.length*4:=by
     obtain ⟨a,b,q1,q2,q3⟩:=s.at (k:=1) rfl
     exact o9 q3
    obtain ⟨U,h2,uO,s2⟩:=jB (s.ae [11,0]) iR lZ rJ kf (by omega) rfl (by decide) (by omega)
    dsimp only [bringA,getA,aU] at s2
    refine aB.any rfl rfl rfl (OpR.of (R:=fun v h'=>v=U∧h'=h2) (oT rfl rfl uO) ⟨rfl,rfl⟩) ?_
    rintro v' h' ⟨rfl,rfl⟩
    refine za rfl (zv (zr rfl (zb rfl (by exact bU (aY (by omega) (by omega))) ?_)))
    refine zm rfl (zv ?_)
    have s3:Sat _ (cZ cs acc::cZ WK c::_):=s2.ae [12,2]
    have s4:=s3.two (C:=cZ (cs++WK) (acc++c)) (aH.mD _ _) (aH.mD _ _) fun a b q1 q2=>xI q1 q2
    dsimp only [bringA,getA,aU] at s4
    have s5:=bL.2 ⟨dv,s4.ae [7,7]⟩
    dsimp only [bringA,getA,aU] at s5
    have s6:=fI.2 ⟨nv,s5.ae [7,7]⟩
    dsimp only [bringA,getA,aU] at s6
    have s7:=(((s6.ae [3,2,0,0,3,3,3,3]).del 10).del 9).del 8
    dsimp only [bringA,getA,aU] at s7
    refine ih (i+1) (acc++c) _ _ ε' _ _ Q (by omega) ZV qT (by simp; omega) s7 ⟨rfl,rfl,rfl,rfl,rfl,aa⟩ (fun e c' I E' h' ht he l2 l3 s' => ?_) (fun c' I E' h' Ra yG ht hl iH s' => ?_)
    ·exact hr e _ I E' h' (.part n _ ε w b ε' c e c' I J hb hd hc kg ht) he l2 l3 s'
    ·refine hx (c++c') I E' h' Ra yG (.part n _ ε w b ε' c 0 c' I J hb hd hc kg ht) (by simp at hl ⊢; omega) iH ?_
     rw [←bH]
     exact s'
   | false =>
    refine zK 5 rfl (zc rfl (kr hT (s.ae [4]) (cJ _ _) (by omega)) ?_)
    intro cw h s
    dsimp only [bringA,getA,aU] at s
    obtain ⟨wid,_,Rb,_,rfl,_⟩:=s.kM (by omega)
    have s:=s.fN
    refine zo rfl (c8 rfl (by rw [Qp]; rfl)) ?_
    obtain ⟨rv,h1,Ae,s1⟩:=oc (P:=Tryz.prog) (k:=4) (x:=.agg [.int .i64 n,.int .i64 0,.bool true,.sl wid 0 b.length Rb]) s iR rJ sM rfl (by decide) (by decide) rfl rfl
    dsimp only [V.cells] at s1
    refine aB.any rfl rfl rfl (OpR.of (R:=fun v h'=>v=rv∧h'=h1) (qu rfl Ae) ⟨rfl,rfl⟩) ?_
    rintro v' h' ⟨rfl,rfl⟩
    obtain ⟨i1,lZ,kf,sR⟩:=uV
    have Q_:cs.length=acc.length*4:=by
     obtain ⟨a,b,q1,q2,q3⟩:=s1.at (k:=11) rfl
     exact o9 q3
    obtain ⟨U,h2,uO,s2⟩:=jB (s1.ae [10,0]) iR lZ rJ kf (by omega) rfl (by decide) (by simp only [bl,bY]; omega)
    dsimp only [bringA,getA,aU] at s2
    refine aB.any rfl rfl rfl (OpR.of (R:=fun v h'=>v=U∧h'=h2) (oT rfl rfl uO) ⟨rfl,rfl⟩) ?_
    rintro v' h' ⟨rfl,rfl⟩
    refine za rfl (zv (zr rfl (zb rfl (by exact bU (aY (by omega) (by omega))) ?_)))
    refine zm rfl (zv ?_)
    have s3:Sat _ (cZ cs acc::.ct (.sl wid 0 b.length Rb) b::_):=s2.ae [11,2]
    have s4:=s3.two (C:=cZ (cs++[.int .i64 n,.int .i64 0,.bool true,.sl wid 0 b.length Rb]) (acc++[⟨n,0,true,b⟩])) (aH.mD _ _) (aH.ct _ _) fun a b q1 q2=>xI q1 ⟨⟨⟨rfl,rfl,rfl⟩,q2⟩,aa⟩
    have s5:=bL.2 ⟨dv,s4.ae [6,6]⟩
    have s6:=fI.2 ⟨nv,s5.ae [6,6]⟩
    have s7:=(((s6.ae [3,2,0,0,2,2,2,2]).del 10).del 9).del 8
    dsimp only [bringA,getA,aU] at s7
    refine ih (i+1) (acc++[⟨n,0,true,b⟩]) _ _ ε' _ _ Q (by omega) ZV qT (by simp; omega) s7 ⟨rfl,rfl,rfl,rfl,rfl,aa⟩ (fun e c' I E' h' ht he l2 l3 s' => ?_) (fun c' I E' h' Ra yG ht hl iH s' => ?_)
    ·exact hr e _ I E' h' (.whole n _ ε w b ε' e c' I J hb hd ht) he l2 l3 s'
    ·refine hx (⟨n,0,true,b⟩::c') I E' h' Ra yG (.whole n _ ε w b ε' 0 c' I J hb hd ht) (by simp at hl ⊢; omega) iH ?_
     rw [bH] at s'
     exact s'
theorem Mi (U:W told)(s:Sat h (gV g a now b9::cC a p q r op data aC::cj r p q ε.1::bh q p ε.2.1::aG p ε.2.2::S))(nt:gW ε)(hw:cm ε≤268435456)(I:∀e∈now,e.2.length=512)(hm:now.length≤65536)(hk:∀n∈now.map (·.1),(Lit.int .i64 n).wf=true):
  Call ⟨Tryz.prog,told⟩ 47 [.ptr g 0] h fun v h'=>∃e c ε',jx now (aF now) ε e c ε' ∧
   ((e≠0∧v=.bE [.bz,.int .i64 e]∧Sat h' (gV g a now b9::cC a p q r op data aC::cj r p q ε'.1::bh q p ε'.2.1::aG p ε'.2.2::S)) ∨
    (e=0∧c.length≤33554432∧∃av cs,v=.bE [av,.int .i64 0]∧Sat h' (.arr 4 av cs::cZ cs c::gV g a now b9::cC a p q r op data aC::cj r p q ε'.1::bh q p ε'.2.1::aG p ε'.2.2::S))):=by
 have hl:(aF now).length=now.length:=by rw [aF,(eG _).length_eq,eu]
 refine Call.of_wp (U.free _ rfl) Tryz.func47 rfl rfl (zK 13 rfl (zc rfl (OL U s (by omega) hk) ?_))
 intro kv h s
 refine zo rfl (bf rfl rfl rfl (s.iP (n:=(aF now).length) (j:=0) rfl (by simp [eT]) (by decide) eH)) ?_
 refine zk 2 rfl (WP.block ?_)
 have s1:=(((s.gB aa).qC (k:=4)).fY fun a b q=>q).ae [0,0,1,1,1,1,1,0]
 refine Ia U (ks:=aF now) (now:=now) (by omega) (fun n hn => ?_) I (aF now).length 0 [] .bz [] ε _ _ _ (by omega) nt hw (by simp) s1 ⟨rfl,rfl,rfl,rfl,rfl,aa⟩ (fun e c ε' E' h' J he l2 l3 s' => ?_) (fun c ε' E' h' av cs J kg iH s' => ?_)
 ·have:n∈now.map (·.1):=(eG _).mem_iff.1 hn
  cases hq:lookL n now with
  | some _=>rfl
  | none=>exact absurd this (fD.1 hq)
 ·rw [d_] at J
  exact ⟨aa,_,vJ l2 l3,e,c,ε',J,.inl ⟨he,rfl,s'⟩⟩
 ·rw [d_] at J
  have s:=s'
  exact WP.has iH (zK 6 rfl (WP.ret ⟨aa,_,rfl,0,c,ε',J,.inr ⟨rfl,by simp at kg; omega,_,_,rfl,s⟩⟩))
end
end Go.Proofs.YtconhghphklfjaaGreat.Am
