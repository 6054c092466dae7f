/- AtomSame: a part of its proof; conditions: its statement's. -/
import Derived.Test.YtconhghphklfjaaGreatS25
namespace Go.Proofs.YtconhghphklfjaaGreat.Am
open Go
inductive uv (ε:aM)(now:List (Int×List Nat))(b_:Bool)(n:Int)(b:List Nat): Int→List (Int×List Nat)→aM→Prop where
 | may (e:Int) (c:List Nat) (ε':aM) (hr:ow ε now b_ n e c ε') (he:e≠0):uv ε now b_ n b e now ε'
 | bad (c:List Nat) (ε':aM) (hr:ow ε now b_ n 0 c ε') (hg:bU b=false):uv ε now b_ n b 4 now ε'
 | done (c:List Nat) (ε':aM) (hr:ow ε now b_ n 0 c ε') (hg:bU b=true):uv ε now b_ n b 0 (cK n b now) ε'
theorem uv.kJ {ε ε':aM}{now gL:List (Int×List Nat)}{b_:Bool}{n e:Int}{b:List Nat}(I:uv ε now b_ n b e gL ε')(h:gZ ε): gZ ε':=by
 cases I with
 | may e c ε' I he=>exact I.kJ h
 | bad c ε' I J=>exact I.kJ h
 | done c ε' I J=>exact I.kJ h
section
variable {told:dF} {h:H} {S:List ax} {X:ax} {r k q p bV a g aD:Nat} {op v x wh di:V} {l b data:List Nat} {π:Pl} {m:List Fm} {μ:Lg} {δ:Dk} {now:List (Int×List Nat)} {b_:Bool}
theorem VH (U:W told){n:Int}(s:Sat h (gK g a now b_::cx a p q r op data aD::bZ r p q π::bf q p μ::aC p δ::S))(J:gZ (π,μ,δ))(hw:δ.waiting.length≤268435456)(I:∀e∈now,e.2.length=512):
  Call ⟨Tryz.prog,told⟩ 42 [.iface 27 (.ptr g 0),.int .i64 n] h fun v h'=>∃(e:Int) (b:List Nat) (ε:aM),ow (π,μ,δ) now b_ n e b ε∧v=.int .i64 e ∧
   Sat h' (gK g a now b_::cx a p q r op data aD::bZ r p q ε.1::bf q p ε.2.1::aC p ε.2.2::S):=by
 refine Call.of_wp (U.free _ rfl) Tryz.func42 rfl rfl (zK 8 rfl (aB.any rfl rfl rfl (OpR.invoke rfl rfl rfl Ka rfl (Hp (n:=n) U s J hw I)) ?_))
 rintro v h ⟨e,b,ε,hr,(⟨he,rfl,s⟩ | ⟨rfl,u,rfl,s⟩)⟩
 ·refine aB.op rfl rfl rfl (bk rfl) ?_
  exact zk 10 rfl (WP.ret ⟨aa,_,rfl,e,b,ε,hr,rfl,s⟩)
 ·skip
  exact zk 11 rfl (WP.ret ⟨aa,_,rfl,0,b,ε,hr,rfl,s.drop⟩)
theorem NV (U:W told){n:Int}(s:Sat h (gK g a now b_::cx a p q r op data aD::bZ r p q π::bf q p μ::aC p δ::X::S))(hX:cR X (cV x b))(hb:b.length<9223372036854775808)(rf:gZ (π,μ,δ))(hw:δ.waiting.length≤268435456)(J:∀e∈now,e.2.length=512):
  Call ⟨Tryz.prog,told⟩ 14 [.ptr g 0,.int .i64 n,x] h fun v h'=>∃(e:Int) (gL:List (Int×List Nat)) (ε:aM),uv (π,μ,δ) now b_ n b e gL ε∧v=.int .i64 e ∧
   Sat h' (gK g a gL b_::cx a p q r op data aD::bZ r p q ε.1::bf q p ε.2.1::aC p ε.2.2::X::S):=by
 refine Call.of_wp (U.free _ rfl) Tryz.func14 rfl rfl (zK 8 rfl (zo rfl (K7 rfl (GB uq rfl)) (zm rfl (zc rfl (VH (n:=n) U s rf hw J) ?_))))
 rintro v h ⟨e,c,ε,hr,rfl,s⟩
 refine zk 5 rfl ?_
 by_cases he:e=0
 ·skip
  subst he
  refine zh rfl (ag rfl rfl aX) (rfl) (zk 7 rfl (zc rfl (JZ U (s.ae [5]) hX hb) ?_))
  rintro v h ⟨rfl,s⟩
  refine zo rfl (dA rfl rfl) (zv ?_)
  by_cases I:bU b=true
  ·skip
   refine WP.Rv rfl (by rw [I]; rfl) ?_
   have ZM:=fq I
   obtain ⟨nv,s⟩:=fy.1 (s.ae [1])
   have s:=s.ae [2,0,0]
   obtain ⟨vY,rfl⟩:=yE s (j:=2) rfl
   refine zK 2 rfl ?_
   have s0:=s
   refine WP.drawn [some (0,2),some (0,2),some (0,2),some (0,2),some (0,2),ai,ai,ai] rfl (by kernel_rfl) (by kernel_rfl) ?_
   refine zM rfl (zN rfl (zF rfl (t_ _ _) (zL rfl (s.ld (k:=1) rfl l_ rfl) (zM rfl (zM rfl (aA.any rfl rfl rfl rfl (OpR.call rfl rfl rfl rfl (j4 U s hX (by omega))) ?_))))))
   intro u h s
   obtain ⟨xP,_,cap,_,rfl,_⟩:=s.ku (by omega)
   have s:=s.fF
   have s1:=s
   refine aA.gV rfl rfl rfl (OpR.mapUpdate rfl rfl rfl rfl (oI (f:=fun v b=>ax.ct v b) (x:=b) (fun _ _=>aE.ct _ _) (s.ae [0,2]) kZ bE)) ?_
   intro w h s
   refine aA.nil ⟨⟨fun _ _=>.inr ⟨rfl,⟨_,bk rfl⟩,aW _ rfl⟩,fun _ _=>.inr ⟨rfl,⟨_,jZ rfl⟩,aW _ rfl⟩,fun _ _=>.inr ⟨rfl,⟨_,jv rfl (t_ _ _)⟩,aW _ rfl⟩,dP (.inr ⟨rfl,⟨_,aV rfl (s0.ld (k:=1) rfl l_ rfl)⟩,aW _ rfl⟩) (.inr ⟨rfl,⟨_,aV rfl (s1.ld (k:=2) rfl l_ rfl)⟩,aW _ rfl⟩),fun _ _=>.inr ⟨rfl,⟨_,bk rfl⟩,aW _ rfl⟩,aa,aa,aa,aa⟩,?_⟩
   exact zK 4 rfl (WP.ret ⟨aa,_,rfl,0,_,ε,.done c ε hr I,rfl,fy.2 ⟨.map vY,s.ae [2,0,1,1,1,1,0]⟩⟩)
  ·have I:bU b=false:=by simpa using I
   refine WP.La rfl (by rw [I]; rfl) ?_
   exact zK 4 rfl (WP.ret ⟨aa,_,rfl,4,_,ε,.bad c ε hr I,rfl,s.ae [1,1,1,1,1,0]⟩)
 ·skip
  refine zt rfl (ag rfl rfl aX) (by simp; exact he) ?_
  exact zk 7 rfl (WP.ret ⟨aa,_,rfl,e,_,ε,.may e c ε hr he,rfl,s⟩)
theorem E0 (I:W told)(s:Sat h (gK g a now b_::cx a p q r (.ptr g 0) data aD::S)): Call ⟨Tryz.prog,told⟩ 49 [.ptr g 0] h fun v h'=>v=.bD []∧Sat h' (gK g a now true::cx a p q r .cD data aD::S):=by
 obtain ⟨nv,s⟩:=fy.1 s
 obtain ⟨dv,s⟩:=bM.1 (s.ae [2])
 refine Call.of_wp (I.free _ rfl) Tryz.func49 rfl rfl (zK 4 rfl (zf rfl (GH _ _) ?_))
 refine zS rfl (by exact s.dZ (k:=2) rfl xN rfl (by decide) rfl rfl) (fun h s => ?_)
 refine zk 5 rfl (zf rfl (tZ _ _) (zl rfl (s.ld (k:=2) rfl Bn rfl) (zn rfl (zf rfl (tY _ _) (zl rfl (s.ld (k:=0) rfl GC rfl) (zm rfl (zt rfl (ag rfl rfl (Xo uq ZA (by decide) (s.row (k:=2) rfl) (s.row (k:=2) rfl) (by decide) (by decide))) (dc g) ?_)))))))
 refine zk 5 rfl (zf rfl (tZ _ _) (zl rfl (s.ld (k:=2) rfl Bn rfl) (zn rfl (zf rfl (tY _ _) ?_))))
 refine zS rfl (by exact s.dZ (k:=0) rfl Vb rfl (by decide) rfl rfl) (fun h s => ?_)
 refine zv ?_
 have s:=fy.2 ⟨nv,(bM.2 ⟨dv,s⟩).ae [1,1]⟩
 exact ⟨aa,_,rfl,rfl,s⟩
theorem Hq (I:W told)(s:Sat h (gK g a now b_::cx a p q r (.ptr g 0) data aD::S)): Call ⟨Tryz.prog,told⟩ 27 [.ptr g 0] h fun v h'=>v=.bD []∧Sat h' (gK g a now true::cx a p q r .cD data aD::S):=by
 refine Call.of_wp (I.free _ rfl) Tryz.func27 rfl rfl (zK 2 rfl (zc rfl (E0 I s) ?_))
 rintro v h ⟨rfl,s⟩
 exact zv ⟨aa,_,rfl,rfl,s⟩
end
inductive uw (aK:Int)(cP now:List Nat): Nat→List cm→Prop where
 | done (i:Nat) (h:now.length≤i):uw aK cP now i []
 | skip (i:Nat) (l:List cm) (h:i<now.length) (he:cP[i]?=now[i]?) (hr:uw aK cP now (i+1) l):uw aK cP now i l
 | take (i e:Nat) (l:List cm) (h1:i<e) (h2:e≤now.length) (h3:cP[i]?≠now[i]?) (h4:∀k,e≤k→k<e+8→cP[k]?=now[k]?) (hr:uw aK cP now e l):uw aK cP now i (⟨aK,i,false,(now.take e).drop i⟩::l)
def E4 (aK:Int)(cP now:List Nat)(c:List cm): Prop:=∃l,uw aK cP now 12 l∧c=if l=[] then [⟨aK,0,false,[]⟩] else l
theorem ux : ∃i,Tryz.prog.info? 54=some i∧i.size=4∧i.bytes=48 :=
 ⟨_,(show Tryz.prog.info? 54=some ((Tryz.prog.info? 54).getD default) by kernel_rfl),by kernel_rfl,by kernel_rfl⟩
section
variable {told:dF} {h:H} {S:List ax} {X Y:ax} {r k q p bV a g aD:Nat} {op v x u wh di:V} {l b cP now:List Nat}
noncomputable def rgO : Code:=cJ [1,1,0,1,0,0] ((Tryz.f87.body).getD .skip)
noncomputable def rgI : Code:=cJ [1,1,0,1,0,0,1,0,1,1,0,1,0,0] ((Tryz.f87.body).getD .skip)
theorem Qk {pg:Int}{I:Nat}{t7:V}{k1 k2:Nat}(s:Sat h S)(AN:getA S k1=some X)(hX:cR X (cV u cP))(Nk:getA S k2=some Y)(hY:cR Y (cV v now))(vV:cP.length=512)(lH:now.length=512): ∀(j i e:Nat) (E:List (Nat×V)) (Q:Ex→List (Nat×V)→H→Prop),i+j=512→I<e→e≤i→(∀k,e≤k→k<i→cP[k]?=now[k]?) →
  Has E [(0,.int .i64 pg),(1,u),(2,v),(7,t7),(8,.int .i64 (I:Int)),(9,.int .i64 (e:Int)),(10,.int .i64 (i:Int))] →
  (∀J E',I<J→J≤512→(∀k,J≤k→k<J+8→cP[k]?=now[k]?)→Has E' [(0,.int .i64 pg),(1,u),(2,v),(7,t7),(8,.int .i64 (I:Int)),(9,.int .i64 (J:Int))]→Q (.exit 2) E' h) →
  WP ⟨Tryz.prog,told⟩ 71 (.loop rgI) E h Q:=by
 have hv:=s.aG Nk hY
 have hu:=s.aG AN hX
 have hlen:lenV Tryz.prog h 32 v=some (.int .i64 now.length):=bh aS hv
 intro j
 induction j with
 | zero =>
  intro i e E Q hi h1 h2 hg hE U
  refine WP.loop (WP.has hE (zK 5 rfl (zo rfl (a_ rfl rfl rfl hlen) (zh rfl (ag rfl rfl bx) (by simp <;> omega) ?_))))
  refine zk 8 rfl (WP.exit ?_)
  refine U e _ h1 (by omega) (fun k k1 _ => ?_) ⟨rfl,rfl,rfl,rfl,rfl,rfl,aa⟩
  by_cases hk:k<i
  ·exact hg k k1 hk
  ·rw [oS (by omega),oS (by omega)]
 | succ j ih =>
  intro i e E Q hi h1 h2 hg hE U
  have hb:now[i]?=some (now[i]'(by omega)):=bg _
  generalize (now[i]'(by omega))=b at hb
  have hc:cP[i]?=some (cP[i]'(by omega)):=bg _
  generalize (cP[i]'(by omega))=c at hc
  obtain ⟨id,off,e1,e2⟩:=g_ hv hb
  obtain ⟨AS,off',e3,e4⟩:=g_ hu hc
  refine WP.loop (WP.has hE (zK 5 rfl (zo rfl (a_ rfl rfl rfl hlen) (zt rfl (ag rfl rfl bx) (by simp <;> omega) ?_))))
  refine zk 3 rfl (zb rfl (by exact bO (aT (by omega) (by omega))) ?_)
  by_cases hd:i<e+8
  ·skip
   refine zt rfl (ag rfl rfl bx) (by simp <;> omega) ?_
   refine zk 5 rfl (WP.block (zw ?_))
   have s0:=s
   refine WP.drawn [ai,ai,ai,ai,ai,ai,ai,ai,ai] rfl (by kernel_rfl) (by kernel_rfl) ?_
   refine zM rfl (zM rfl (zO rfl (dG (r:=.ptr AS off') rfl rfl e3) (zL rfl e4 (zM rfl (zM rfl (zO rfl (dG (r:=.ptr id off) rfl rfl e1) (zL rfl e2 ?_)))))))
   by_cases Kb:c=b
   ·skip
    refine aA.nh rfl rfl rfl rfl (ag rfl rfl aX) (by simp; exact_mod_cast Kb) ?_
    refine aA.nil ⟨⟨aa,aa,aa,aa,aa,aa,aa,aa,aa,aa⟩,?_⟩
    refine zj rfl (WP.skip (zr rfl (zm rfl (zb rfl (by exact bO (aT (by omega) (by omega))) ?_))))
    refine za rfl (zv ?_)
    exact ih (i+1) e _ Q (by omega) h1 (by omega) (fun k k1 k2=>(by
     rcases qN k i with h | h
     ·exact hg k k1 h
     ·rw [show k=i by omega,hb,hc,Kb])) ⟨rfl,rfl,rfl,rfl,rfl,rfl,rfl,aa⟩ U
   ·skip
    refine aA.qb rfl rfl rfl rfl (ag rfl rfl aX) (by simp; omega) ?_
    refine aA.nil ⟨⟨aa,aa,aa,aa,aa,aa,aa,aa,aa,aa⟩,?_⟩
    refine zK 3 rfl (zb rfl (by exact bO (aT (by omega) (by omega))) ?_)
    refine za rfl (zv (zr rfl (zm rfl (zb rfl (by exact bO (aT (by omega) (by omega))) ?_))))
    refine za rfl (zv ?_)
    exact ih (i+1) (i+1) _ Q (by omega) (by omega) (by omega) (fun k k1 k2=>absurd k2 (by omega)) ⟨rfl,rfl,rfl,rfl,rfl,rfl,rfl,aa⟩ U
  ·skip
   refine zh rfl (ag rfl rfl bx) (by simp <;> omega) ?_
   exact zk 3 rfl (WP.exit (U e _ h1 (by omega) (fun k k1 k2=>hg k k1 (by omega)) ⟨rfl,rfl,rfl,rfl,rfl,rfl,aa⟩))
theorem Ql (hT:W told){pg:Int}(hX:cR X (cV u cP))(hY:cR Y (cV v now))(vV:cP.length=512)(lH:now.length=512): ∀(j i:Nat) (acc:List cm) (av:V) (cs:List V) (h:H) (E:List (Nat×V)) (Q:Ex→List (Nat×V)→H→Prop),512≤i+j→i≤512→acc.length≤i →
  Sat h (.arr 4 av cs::cT cs acc::X::Y::S)→(∀l,uw pg cP now i l→uw pg cP now 12 (acc++l)) →
  Has E [(0,.int .i64 pg),(1,u),(2,v),(7,av),(8,.int .i64 (i:Int))] →
  (∀U cs' l E' h',uw pg cP now 12 l→l.length≤512→Sat h' (.arr 4 U cs'::cT cs' l::X::Y::S)→Has E' [(0,.int .i64 pg),(7,U)]→Q (.exit 0) E' h') →
  WP ⟨Tryz.prog,told⟩ 71 (.loop rgO) E h Q:=by
 intro j
 induction j with
 | zero =>
  intro i acc av cs h E Q hj hi VI s I hE hq
  have hlen:lenV Tryz.prog h 32 v=some (.int .i64 now.length):=bh aS (s.aG (k:=3) rfl hY)
  refine WP.loop (WP.has hE (zK 5 rfl (zo rfl (a_ rfl rfl rfl hlen) (zh rfl (ag rfl rfl bx) (by simp <;> omega) ?_))))
  refine zk 2 rfl (WP.exit ?_)
  have:=I [] (.done _ (by omega))
  rw [bT] at this
  exact hq av cs acc _ _ this (by omega) s ⟨rfl,rfl,aa⟩
 | succ j ih =>
  intro i acc av cs h E Q hj hi VI s I hE hq
  have hv:=s.aG (k:=3) rfl hY
  have hu:=s.aG (k:=2) rfl hX
  have hlen:lenV Tryz.prog h 32 v=some (.int .i64 now.length):=bh aS hv
  by_cases bX:i<512
  ·have hb:now[i]?=some (now[i]'(by omega)):=bg _
   generalize (now[i]'(by omega))=b at hb
   have hc:cP[i]?=some (cP[i]'(by omega)):=bg _
   generalize (cP[i]'(by omega))=c at hc
   obtain ⟨id,off,e1,e2⟩:=g_ hv hb
   obtain ⟨AS,off',e3,e4⟩:=g_ hu hc
   refine WP.loop (WP.has hE (zK 5 rfl (zo rfl (a_ rfl rfl rfl hlen) (zt rfl (ag rfl rfl bx) (by simp <;> omega) ?_))))
   refine zk 3 rfl (WP.block (zK 2 rfl ?_))
   have s0:=s
   refine WP.drawn [ai,ai,ai,ai,ai,ai,ai,ai,ai] rfl (by kernel_rfl) (by kernel_rfl) ?_
   refine zM rfl (zM rfl (zO rfl (dG (r:=.ptr AS off') rfl rfl e3) (zL rfl e4 (zM rfl (zM rfl (zO rfl (dG (r:=.ptr id off) rfl rfl e1) (zL rfl e2 ?_)))))))
   by_cases Kb:c=b
   ·skip
    refine aA.qb rfl rfl rfl rfl (ag rfl rfl bR) (by simp; exact_mod_cast Kb) ?_
    refine aA.nil ⟨⟨aa,aa,aa,aa,aa,aa,aa,aa,aa,aa⟩,?_⟩
    refine zK 4 rfl (zb rfl (by exact bO (aT (by omega) (by omega))) ?_)
    exact zk 2 rfl (WP.exit (ih (i+1) acc av cs h _ Q (by omega) (by omega) (by omega) s (fun l hl=>I l (.skip i l (by omega) (by rw [hb,hc,Kb]) hl)) ⟨rfl,rfl,rfl,rfl,rfl,aa⟩ hq))
   ·skip
    refine aA.nh rfl rfl rfl rfl (ag rfl rfl bR) (by simp; omega) ?_
    refine aA.nil ⟨⟨aa,aa,aa,aa,aa,aa,aa,aa,aa,aa⟩,?_⟩
    refine zK 5 rfl (zb rfl (by exact bO (aT (by omega) (by omega))) ?_)
    refine zk 8 rfl (WP.block ?_)
    refine Qk s (k1:=2) (k2:=3) rfl hX rfl hY vV lH (512-(i+1)) (i+1) (i+1) _ _ (by omega) (Ds i) (aL _) (fun k k1 k2=>absurd k2 (by omega)) ⟨rfl,rfl,rfl,rfl,rfl,rfl,rfl,aa⟩ (fun e' E' he1 R5 Hr gq => ?_)
    refine WP.has gq ?_
    have hsv:=iF hv (a:=i) (b:=e') (by omega) (by omega)
    refine zK 8 rfl (zo rfl (cC (p:=some (.int .i64 (i:Int))) (q:=some (.int .i64 (e':Int))) (m:=none) (p':=some i) (q':=some e') (m':=none) rfl rfl rfl rfl (by rw [fG (by omega)]; rfl) (by rw [fG (by omega)]; rfl) rfl hsv.1) ?_)
    refine zc rfl (j4 hT (s.ae [3]) (mE hY (a:=i) (b:=e') (by omega) (by omega)) (by simp; omega)) ?_
    intro w h s
    dsimp only [bringA,getA,aU] at s
    obtain ⟨wid,_,J,_,rfl,_⟩:=s.ku (by simp; omega)
    have s:=s.fF
    generalize Gr:(now.take e').drop i=bs at s
    refine zo rfl (cX rfl (by rw [Pz]; rfl)) ?_
    obtain ⟨rv,h1,yT,s1⟩:=nN (P:=Tryz.prog) (k:=4) (x:=.agg [.int .i64 pg,.int .i64 (i:Int),.bool false,.sl wid 0 bs.length J]) s iJ qV r9 rfl (by decide) (by decide) rfl rfl
    dsimp only [V.cells] at s1
    refine aB.any rfl rfl rfl (OpR.of (R:=fun v h'=>v=rv∧h'=h1) (p_ rfl yT) ⟨rfl,rfl⟩) ?_
    rintro v' h' ⟨rfl,rfl⟩
    obtain ⟨i1,lp,jL,sn⟩:=ux
    have lK:cs.length=acc.length*4:=by
     obtain ⟨a,b,q1,q2,q3⟩:=s1.at (k:=4) rfl
     exact oJ q3
    obtain ⟨U,h2,um,s2⟩:=jo (s1.ae [3,0]) iJ lp qV jL (by omega) rfl (by decide) (by simp only [bj,bY]; omega)
    dsimp only [bringA,getA,aU] at s2
    refine aB.any rfl rfl rfl (OpR.of (R:=fun v h'=>v=U∧h'=h2) (oB rfl rfl um) ⟨rfl,rfl⟩) ?_
    rintro v' h' ⟨rfl,rfl⟩
    refine za rfl (zv (zr rfl (zk 2 rfl (zv ?_))))
    have s3:Sat _ (cT cs acc::.ct (.sl wid 0 bs.length J) bs::_):=s2.ae [4,2]
    have s4:=s3.two (C:=cT (cs++[.int .i64 pg,.int .i64 (i:Int),.bool false,.sl wid 0 bs.length J]) (acc++[⟨pg,i,false,bs⟩])) (aE.mB _ _) (aE.ct _ _) fun a b q1 q2=>w5 q1 ⟨⟨⟨rfl,rfl,rfl⟩,q2⟩,aa⟩
    have s5:=(s4.ae [1,0,2,1]).del 4
    dsimp only [bringA,getA,aU] at s5
    refine ih e' (acc++[⟨pg,(i:Int),false,bs⟩]) _ _ _ _ Q (by omega) R5 (by simp; omega) s5 (fun l hl => ?_) ⟨rfl,rfl,rfl,rfl,rfl,aa⟩ hq
    have:=I _ (.take i e' l he1 (by omega) (fun hx=>by rw [hb,hc] at hx; exact Kb (bt hx)) Hr hl)
    rw [Gr] at this
    rwa [bP]
  ·have hi5:i=512:=by omega
   refine WP.loop (WP.has hE (zK 5 rfl (zo rfl (a_ rfl rfl rfl hlen) (zh rfl (ag rfl rfl bx) (by simp <;> omega) ?_))))
   refine zk 2 rfl (WP.exit ?_)
   have:=I [] (.done _ (by omega))
   rw [bT] at this
   exact hq av cs acc _ _ this (by omega) s ⟨rfl,rfl,aa⟩
theorem NY (hT:W told){pg:Int}(s:Sat h (X::Y::S))(hX:cR X (cV u cP))(hY:cR Y (cV v now))(J:cP.length=512)(U:now.length=512):
  Call ⟨Tryz.prog,told⟩ 87 [.int .i64 pg,u,v] h fun w h'=>∃cs l,E4 pg cP now l∧l.length≤512∧Sat h' (.arr 4 w cs::cT cs l::X::Y::S):=by
 refine Call.of_wp (hT.free _ rfl) Tryz.func87 rfl rfl (zK 13 rfl (WP.block ?_))
 refine Ql hT (pg:=pg) hX hY J U 500 12 [] .bA [] _ _ _ (by omega) (by omega) (by simp) ((s.gx aa).qg) (fun l hl=>hl) ⟨rfl,rfl,rfl,rfl,rfl,aa⟩ (fun J7 cs' l E' h' hr E5 s' gq => ?_)
 have s:=s'
 have hlen:=s.vW (j1:=0) (j2:=1) rfl rfl iJ
 have CK:=s.kF (j:=0) rfl
 refine WP.has gq (zK 4 rfl (zo rfl (a_ rfl rfl rfl hlen) ?_))
 by_cases I:l=[]
 ·skip
  refine zt rfl (ag rfl rfl bR) (by subst I; rfl) ?_
  refine zk 5 rfl (zo rfl (cX rfl (by rw [Pz]; rfl)) ?_)
  obtain ⟨rv,h1,yT,s1⟩:=nN (P:=Tryz.prog) (k:=4) (x:=.agg [.int .i64 pg,.int .i64 0,.bool false,.bA]) s iJ qV r9 rfl (by decide) (by decide) rfl rfl
  dsimp only [V.cells] at s1
  refine aB.any rfl rfl rfl (OpR.of (R:=fun v h'=>v=rv∧h'=h1) (p_ rfl yT) ⟨rfl,rfl⟩) ?_
  rintro v' h' ⟨rfl,rfl⟩
  refine zk 2 rfl (WP.ret ⟨aa,_,rfl,?_⟩)
  refine ⟨[.int .i64 pg,.int .i64 0,.bool false,.bA],[⟨pg,0,false,[]⟩],⟨l,hr,by rw [aj I]⟩,by simp,?_⟩
  have s2:=(s1.del 2).del 1
  have s3:Sat _ (.ct .bA []::.arr 4 v' _::X::Y::S):=s2.rG
  have s4:=s3.ga (B:=cT [.int .i64 pg,.int .i64 0,.bool false,.bA] [⟨pg,0,false,[]⟩]) fun a b q=>⟨⟨⟨rfl,rfl,rfl⟩,q⟩,aa⟩
  exact s4.ae [1,0]
 ·skip
  refine zh rfl (ag rfl rfl bR) (by cases l with | nil=>exact absurd rfl I | cons _ _=>simp; omega) ?_
  exact zk 8 rfl (WP.ret ⟨aa,_,rfl,_,l,⟨l,hr,by rw [af I]⟩,E5,s⟩)
end
def gF (m:List Fm): Nat:=(m.map (·.changed)).count true
theorem mX {f g:Fm}: ∀ {m:List Fm} {i:Nat},m[i]?=some f→gF (m.set i g)+f.changed.toNat=gF m+g.changed.toNat:=by
 intro m
 induction m with
 | nil=>intro i h; simp at h
 | cons x m I =>
  intro i h
  cases i with
  | zero =>
   simp at h
   subst h
   simp only [gF,List.set_cons_zero,bH,List.count_cons]
   cases x.changed <;> cases g.changed <;> simp
  | succ i =>
   rw [kg] at h
   have:=I h
   simp only [gF,List.set_cons_succ,bH,List.count_cons] at this ⊢
   omega
theorem CM {g:Fm}(I:g.changed=false): ∀ {m:List Fm} {i:Nat},gF (m.set i g)≤gF m:=by
 intro m i
 cases h:m[i]? with
 | none =>
  have:m.length≤i:=by simpa using h
  rw [List.set_eq_of_length_le this]
  exact aL _
 | some f =>
  have:=mX (g:=g) h
  rw [I] at this
  simp only [Bool.toNat_false] at this
  omega
def cu (ε:aM): Nat:=ε.2.2.waiting.length+gF ε.1.ak
theorem mH {ε:aM}: ε.2.2.waiting.length≤cu ε:=sR _ _
theorem fR.count {π I:Pl}(J:fR π I): gF I.ak=gF π.ak:=by
 have:I.ak.map (·.changed)=π.ak.map (·.changed):=by
  refine zR fun i => ?_
  rw [oV,oV]
  cases h:π.ak[i]? with
  | none =>
   have U:π.ak.length≤i:=by simpa using h
   have:I.ak[i]?=none:=by simp [J.len,U]
   rw [this]
  | some f =>
   obtain ⟨t,ht⟩:=J.get i f h
   rw [ht]; rfl
 simp only [gF,this]
theorem Ht {δ:Dk}{n:Int}{b:List Nat}(h:(δ.bJ n b).1≠0): (δ.bJ n b).2.waiting=δ.waiting:=by
 unfold Dk.bJ at h ⊢
 split
 ·rfl
 ·rename_i I
  rw [af I] at h
  split
  ·rfl
  ·rename_i J
   rw [af J] at h
   split
   ·rfl
   ·rename_i U
    rw [af U] at h
    exact absurd rfl h
theorem Hu {ε:aM}{i:Nat}: cu (outF ε i).2≤cu ε:=by
 unfold outF
 split
 ·exact aL _
 ·rename_i f J
  split
  ·exact aL _
  ·rename_i I
   have I:f.changed=true:=by cases h:f.changed <;> simp [h] at I ⊢
   split
   ·exact aL _
   ·split
    ·simp only [cu,kH]; exact aL _
    ·split
     ·rename_i hw
      simp only [cu,Ht hw,kH]; exact aL _
     ·have U:=A8 (δ:=(bB ε.2 (eM f.b 4 8)).2.2) (n:=f.aK) (b:=f.b)
      rw [kH] at U
      have h2:=mX (g:={ f with changed:=false }) J
      simp only [I,Bool.toNat_true,Bool.toNat_false] at h2
      simp only [cu]
      omega
theorem yY {π:Pl}{i:Nat}{f:Fm}: gF (dy π i f).ak≤gF π.ak:=CM rfl
theorem fS.cu {ε ε':aM}{n e:Int}{b:List Nat}(hr:fS ε n e b ε'): Am.cu ε'≤Am.cu ε:=by
 have rj:∀ {I:Pl},fR ε.1 I→∀i,Am.cu (outF (I,ε.2) i).2≤Am.cu ε:=fun {I} J i=>by
  have:=Hu (ε:=(I,ε.2)) (i:=i)
  refine cI this ?_
  simp only [Am.cu,J.count]
  exact aL _
 cases hr with
 | arg _=>exact aL _
 | A6 i f h1 U hl hf =>
  have U:=mX (g:={ f with e_:=true,pins:=f.pins+1 }) hf
  simp only [Am.cu] at U ⊢
  omega
 | out I i f h1 U hl J hf hh he=>exact rj J i
 | read I i f h1 U hl J hf hh he hr=>exact cI (vn yY _) (rj J i)
 | bad I i f h1 U hl J hf hh he hr hc=>exact cI (vn yY _) (rj J i)
 | load I i f h1 U hl J hf hh he hr hc=>exact cI (vn (cI (CM rfl) yY) _) (rj J i)
theorem CN {π:Pl}{n:Int}: gF (unpinF π n).2.ak=gF π.ak:=by
 unfold unpinF
 split
 ·rfl
 ·split
  ·rfl
  ·rename_i i hi f I
   have J:=mX (g:={ f with pins:=f.pins-1 }) I
   simp only at J ⊢
   omega
theorem mD.cu {ε ε':aM}{n e:Int}{b:List Nat}(I:mD ε n e b ε'): Am.cu ε'≤Am.cu ε:=by
 cases I with
 | dead _=>exact aL _
 | iU e b ε' J I he=>exact I.cu
 | sJ b ε' J I he=>have:=I.cu; simp only [Am.cu,CN] at this ⊢; exact this
 | read b ε' J I he=>have:=I.cu; simp only [Am.cu,CN] at this ⊢; exact this
theorem ow.cu {ε ε':aM}{now:List (Int×List Nat)}{b_:Bool}{n e:Int}{b:List Nat}(I:ow ε now b_ n e b ε'): Am.cu ε'≤Am.cu ε:=by
 cases I with
 | arg _=>exact aL _
 | b_ _ _ _=>exact aL _
 | own _ _ _ _ _=>exact aL _
 | read e b ε' J U h3 hl I=>exact I.cu
theorem uv.cu {ε ε':aM}{now gL:List (Int×List Nat)}{b_:Bool}{n e:Int}{b:List Nat}(I:uv ε now b_ n b e gL ε'): Am.cu ε'≤Am.cu ε:=by
 cases I with
 | may e c ε' I he=>exact I.cu
 | bad c ε' I J=>exact I.cu
 | done c ε' I J=>exact I.cu
inductive jh (now:List (Int×List Nat)): List Int→aM→Int→List cm→aM→Prop where
 | nil (ε:aM):jh now [] ε 0 [] ε
 | err (n:Int) (l:List Int) (ε:aM) (e:Int) (b:List Nat) (ε':aM) (hr:mD ε n e b ε') (he:e≠0):jh now (n::l) ε e [] ε'
 | part (n:Int) (l:List Int) (ε:aM) (cP b:List Nat) (ε':aM) (c:List cm) (e:Int) (cs:List cm) (ox:aM) (hr:mD ε n 0 cP ε') (hb:lookL n now=some b) (hd:(lookL n ε'.1.aQ).isSome=true) (hc:E4 n cP b c) (hl:c.length≤512) (ht:jh now l ε' e cs ox):jh now (n::l) ε e (c++cs) ox
 | whole (n:Int) (l:List Int) (ε:aM) (cP b:List Nat) (ε':aM) (e:Int) (cs:List cm) (ox:aM) (hr:mD ε n 0 cP ε') (hb:lookL n now=some b) (hd:(lookL n ε'.1.aQ).isSome=false) (ht:jh now l ε' e cs ox):jh now (n::l) ε e (⟨n,0,true,b⟩::cs) ox
theorem jh.kJ {now:List (Int×List Nat)}{l:List Int}{ε ε':aM}{e:Int}{cs:List cm}(I:jh now l ε e cs ε')(h:gZ ε): gZ ε':=by
 induction I with
 | nil ε=>exact h
 | err n l ε e b ε' I he=>exact I.kJ h
 | part n l ε cP b ε' c e cs J I hb hd hc hl ht U=>exact U (I.kJ h)
 | whole n l ε cP b ε' e cs J I hb hd ht U=>exact U (I.kJ h)
theorem jh.cu {now:List (Int×List Nat)}{l:List Int}{ε ε':aM}{e:Int}{cs:List cm}(I:jh now l ε e cs ε'): Am.cu ε'≤Am.cu ε:=by
 induction I with
 | nil ε=>exact aL _
 | err n l ε e b ε' I he=>exact I.cu
 | part n l ε cP b ε' c e cs J I hb hd hc hl ht U=>exact cI U I.cu
 | whole n l ε cP b ε' e cs J I hb hd ht U=>exact cI U I.cu
theorem ve {P:Program}{E:List (Nat×V)}{h:H}{a b:Nat}{v w:V}(I:look E a=some v)(J:look E b=some w): jl P E h [.tmp a,.tmp b]=some (.bD [v,w]):=by simp only [jl,mapO,resE,I,J]
section
variable {told:dF} {h:H} {S:List ax} {X Y:ax} {r k q p bV a g aD:Nat} {op v x u wh di:V} {l b cP data:List Nat} {now:List (Int×List Nat)} {b_:Bool} {ε:aM}
theorem w_ (I:W told){id:Nat}(s:Sat h S): Call ⟨Tryz.prog,told⟩ 51 [.map id] h fun v h'=>∃b,v=.fn (.func 92) [] [.ptr b 0]∧Sat h' (pt b (.cells 1 [.map id] false)::S):=by
 refine Call.of_wp (I.free _ rfl) Tryz.func51 rfl rfl (zg rfl ?_)
 refine aB.cO s rfl rfl rfl (gw rfl rfl) (fun J h s => ?_)
 exact zk 4 rfl (zo rfl (Al rfl rfl) (zk 2 rfl (WP.ret ⟨aa,_,rfl,_,rfl,s⟩)))
theorem NZ (I:W told)(s:Sat h (gK g a now b_::S))(hm:now.length≤1048576)(U:∀n∈now.map (·.1),(Lit.int .i64 n).wf=true):
  Call ⟨Tryz.prog,told⟩ 85 [.ptr g 0] h fun v h'=>Sat h' (.arr 1 v (eG (aJ now))::gK g a now b_::S):=by
 obtain ⟨nv,s⟩:=fy.1 s
 obtain ⟨J,rfl⟩:=yE s (j:=1) rfl
 refine Call.of_wp (I.free _ rfl) Tryz.func85 rfl rfl (zK 8 rfl (zf rfl (t_ _ _) (zl rfl (s.ld (k:=0) rfl l_ rfl) (zc rfl (w_ I s) ?_))))
 rintro v h ⟨b,rfl,s⟩
 refine zc rfl (pP I (s.ae [0,1]) (by decide) hm U) ?_
 intro kv h s
 exact zk 2 rfl (WP.ret ⟨aa,_,rfl,(fy.2 ⟨.map J,(s.ae [3,2,0]).del 3⟩).ae [1]⟩)
noncomputable def cgL : Code:=cJ [1,1,0,1,0,0] ((Tryz.f47.body).getD .skip)
theorem Hv (hT:W told){ks:List Int}{kv:V}(NM:ks.length≤65536)(uR:∀n∈ks,(lookL n now).isSome=true)(nu:∀e∈now,e.2.length=512): ∀(j i:Nat) (acc:List cm) (av:V) (cs:List V) (ε:aM) (h:H) (E:List (Nat×V)) (Q:Ex→List (Nat×V)→H→Prop),i+j=ks.length →
  gZ ε→cu ε≤268435456→acc.length≤512*i →
  Sat h (.arr 4 av cs::cT cs acc::gK g a now b_::cx a p q r op data aD::bZ r p q ε.1::bf q p ε.2.1::aC p ε.2.2::.arr 1 kv (eG ks)::S) →
  Has E [(0,.ptr g 0),(4,av),(13,kv),(14,.int .i64 ks.length),(15,.int .i64 i)] →
  (∀e c ε' E' h',jh now (ks.drop i) ε e c ε'→e≠0→look E' 2=some .bA→look E' 3=some (.int .i64 e)→Sat h' (gK g a now b_::cx a p q r op data aD::bZ r p q ε'.1::bf q p ε'.2.1::aC p ε'.2.2::S)→Q .ret E' h') →
  (∀c ε' E' h' U cs',jh now (ks.drop i) ε 0 c ε'→acc.length+c.length≤512*ks.length→Has E' [(4,U)]→Sat h' (.arr 4 U cs'::cT cs' (acc++c)::gK g a now b_::cx a p q r op data aD::bZ r p q ε'.1::bf q p ε'.2.1::aC p ε'.2.2::S)→Q (.exit 0) E' h') →
  WP ⟨Tryz.prog,told⟩ 65 (.loop cgL) E h Q:=by
 intro j
 induction j with
 | zero =>
  intro i acc av cs ε h E Q hj rf hw VI s hE hr hx
  refine WP.loop (WP.has hE (zg rfl (zh rfl (ag rfl rfl bx) (by simp <;> omega) ?_)))
  refine zk 3 rfl (WP.exit ?_)
  rw [ig (by omega)] at hx
  have s1:=s.del 7
  dsimp only [aU] at s1
  refine hx [] ε _ _ av cs (.nil ε) (by simp; omega) ⟨rfl,aa⟩ ?_
  rw [bT]
  exact s1
 | succ j ih =>
  intro i acc av cs ε h E Q hj rf hw VI s hE hr hx
  have hn:ks[i]?=some (ks[i]'(by omega)):=bg _
  have wD:ks[i]'(by omega)∈ks:=oW _
  have lQ:ks.drop i=ks[i]'(by omega)::ks.drop (i+1):=kM (by omega)
  generalize (ks[i]'(by omega))=n at hn wD lQ
  have hc:(eG ks)[i]?=some (.int .i64 n):=by simp [eG,hn]
  obtain ⟨b,hb⟩:=Option.isSome_iff_exists.1 (uR n wD)
  have FP:=nu _ (fe hb)
  simp only at FP
  rw [lQ] at hr hx
  obtain ⟨id,off,e1,e2⟩:=kR (P:=Tryz.prog) s (k:=7) rfl hc eu jK
  refine WP.loop (WP.has hE (zg rfl (zt rfl (ag rfl rfl bx) (by simp <;> omega) ?_)))
  refine zk 5 rfl (WP.block (zg rfl (zo rfl (dG (r:=.ptr id off) rfl rfl e1) (zl rfl (e2 _ c7) ?_))))
  obtain ⟨nv,s⟩:=fy.1 (s.ae [2])
  dsimp only [bringA,getA,aU] at s
  refine zk 6 rfl (zf rfl (tZ _ _) (zl rfl (s.ld (k:=0) rfl Bn rfl) (zm rfl (zc rfl (By (n:=n) hT (s.ae [4,4,4,4]) rf.ok rf.pins (cI mH hw)) ?_))))
  rintro v h ⟨e,w,ε',J,(⟨he,rfl,s⟩ | ⟨rfl,u,rfl,s⟩)⟩
  ·dsimp only [bringA,getA,aU] at s
   refine zk 10 rfl (zt rfl (ag rfl rfl aX) (by simp; exact he) ?_)
   refine zk 8 rfl (WP.ret (hr e [] ε' _ _ (.err n _ ε e w ε' J he) he rfl rfl ?_))
   have s:=fy.2 ⟨nv,s.ae [4,4]⟩
   dsimp only [bringA,getA,aU] at s
   exact ((s.del 7).del 6).del 5
  ·dsimp only [bringA,getA,aU] at s
   have YC:=J.kJ rf
   have qy:=cI J.cu hw
   have hlen:=J.len rf
   refine zk 10 rfl (zh rfl (ag rfl rfl aX) (rfl) ?_)
   have s:=s.fF
   have s:=s.ae [5,5,1,1,1,1,1,1,1,0]
   dsimp only [bringA,getA,aU] at s
   rcases my (n:=n) (fun _ _=>aE.ct _ _) (s.ae [1]) kZ bE yw with ⟨g1,g2,_⟩ | ⟨nw,b',g1,_,g2,s2⟩
   ·rw [hb] at g1; cases g1
   rw [hb] at g1
   have:=bt g1
   subst this
   refine zk 7 rfl (zf rfl (t_ _ _) (zl rfl (s.ld (k:=0) rfl l_ rfl) (zm rfl (zo rfl (gG rfl rfl g2) ?_))))
   obtain ⟨dv,s⟩:=bM.1 (s2.ae [3])
   dsimp only [bringA,getA,aU] at s
   have s:=s.ae [4]
   dsimp only [bringA,getA,aU] at s
   refine zk 6 rfl (zf rfl (tZ _ _) (zl rfl (s.ld (k:=0) rfl Bn rfl) (zn rfl (zf rfl (oo _ _) (zl rfl (s.ld (k:=1) rfl u_ rfl) (zm rfl (zc rfl (Vw (n:=n) hT (s.ae [5])) ?_)))))))
   rintro v h ⟨rfl,s⟩
   dsimp only [bringA,getA,aU] at s
   refine zk 10 rfl ?_
   cases hd:(lookL n ε'.1.aQ).isSome with
   | true =>
    refine zK 6 rfl (zc rfl (NY hT (u:=u) (v:=nw) (pg:=n) (s.ae [11,4]) (cL _ _) (cL _ _) hlen FP) ?_)
    rintro rv h ⟨VJ,c,hc,lK,s⟩
    dsimp only [bringA,getA,aU] at s
    obtain ⟨i1,lp,jL,sn⟩:=ux
    have Qm:cs.length=acc.length*4:=by
     obtain ⟨a,b,q1,q2,q3⟩:=s.at (k:=12) rfl
     exact oJ q3
    have aa7:VJ.length=c.length*4:=by
     obtain ⟨a,b,q1,q2,q3⟩:=s.at (k:=1) rfl
     exact oJ q3
    obtain ⟨U,h2,um,s2⟩:=jo (s.ae [11,0]) iJ lp qV jL (by omega) rfl (by decide) (by omega)
    dsimp only [bringA,getA,aU] at s2
    refine aB.any rfl rfl rfl (OpR.of (R:=fun v h'=>v=U∧h'=h2) (oB rfl rfl um) ⟨rfl,rfl⟩) ?_
    rintro v' h' ⟨rfl,rfl⟩
    refine za rfl (zv (zr rfl (zb rfl (by exact bO (aT (by omega) (by omega))) ?_)))
    refine zm rfl (zv ?_)
    have s3:Sat _ (cT cs acc::cT VJ c::_):=s2.ae [12,2]
    have s4:=s3.two (C:=cT (cs++VJ) (acc++c)) (aE.mB _ _) (aE.mB _ _) fun a b q1 q2=>w5 q1 q2
    dsimp only [bringA,getA,aU] at s4
    have s5:=bM.2 ⟨dv,s4.ae [7,7]⟩
    dsimp only [bringA,getA,aU] at s5
    have s6:=fy.2 ⟨nv,s5.ae [7,7]⟩
    dsimp only [bringA,getA,aU] at s6
    have s7:=(((s6.ae [3,2,0,0,3,3,3,3]).del 10).del 9).del 8
    dsimp only [bringA,getA,aU] at s7
    refine ih (i+1) (acc++c) _ _ ε' _ _ Q (by omega) YC qy (by simp; omega) s7 ⟨rfl,rfl,rfl,rfl,rfl,aa⟩ (fun e c' I E' h' ht he l2 l3 s' => ?_) (fun c' I E' h' Qn xU ht hl gq s' => ?_)
    ·exact hr e _ I E' h' (.part n _ ε w b ε' c e c' I J hb hd hc lK ht) he l2 l3 s'
    ·refine hx (c++c') I E' h' Qn xU (.part n _ ε w b ε' c 0 c' I J hb hd hc lK ht) (by simp at hl ⊢; omega) gq ?_
     rw [←bP]
     exact s'
   | false =>
    refine zK 5 rfl (zc rfl (j4 hT (s.ae [4]) (cL _ _) (by omega)) ?_)
    intro cw h s
    dsimp only [bringA,getA,aU] at s
    obtain ⟨wid,_,Qo,_,rfl,_⟩:=s.ku (by omega)
    have s:=s.fF
    refine zo rfl (cX rfl (by rw [Pz]; rfl)) ?_
    obtain ⟨rv,h1,yT,s1⟩:=nN (P:=Tryz.prog) (k:=4) (x:=.agg [.int .i64 n,.int .i64 0,.bool true,.sl wid 0 b.length Qo]) s iJ qV r9 rfl (by decide) (by decide) rfl rfl
    dsimp only [V.cells] at s1
    refine aB.any rfl rfl rfl (OpR.of (R:=fun v h'=>v=rv∧h'=h1) (p_ rfl yT) ⟨rfl,rfl⟩) ?_
    rintro v' h' ⟨rfl,rfl⟩
    obtain ⟨i1,lp,jL,sn⟩:=ux
    have Qm:cs.length=acc.length*4:=by
     obtain ⟨a,b,q1,q2,q3⟩:=s1.at (k:=11) rfl
     exact oJ q3
    obtain ⟨U,h2,um,s2⟩:=jo (s1.ae [10,0]) iJ lp qV jL (by omega) rfl (by decide) (by simp only [bj,bY]; omega)
    dsimp only [bringA,getA,aU] at s2
    refine aB.any rfl rfl rfl (OpR.of (R:=fun v h'=>v=U∧h'=h2) (oB rfl rfl um) ⟨rfl,rfl⟩) ?_
    rintro v' h' ⟨rfl,rfl⟩
    refine za rfl (zv (zr rfl (zb rfl (by exact bO (aT (by omega) (by omega))) ?_)))
    refine zm rfl (zv ?_)
    have s3:Sat _ (cT cs acc::.ct (.sl wid 0 b.length Qo) b::_):=s2.ae [11,2]
    have s4:=s3.two (C:=cT (cs++[.int .i64 n,.int .i64 0,.bool true,.sl wid 0 b.length Qo]) (acc++[⟨n,0,true,b⟩])) (aE.mB _ _) (aE.ct _ _) fun a b q1 q2=>w5 q1 ⟨⟨⟨rfl,rfl,rfl⟩,q2⟩,aa⟩
    have s5:=bM.2 ⟨dv,s4.ae [6,6]⟩
    have s6:=fy.2 ⟨nv,s5.ae [6,6]⟩
    have s7:=(((s6.ae [3,2,0,0,2,2,2,2]).del 10).del 9).del 8
    dsimp only [bringA,getA,aU] at s7
    refine ih (i+1) (acc++[⟨n,0,true,b⟩]) _ _ ε' _ _ Q (by omega) YC qy (by simp; omega) s7 ⟨rfl,rfl,rfl,rfl,rfl,aa⟩ (fun e c' I E' h' ht he l2 l3 s' => ?_) (fun c' I E' h' Qn xU ht hl gq s' => ?_)
    ·exact hr e _ I E' h' (.whole n _ ε w b ε' e c' I J hb hd ht) he l2 l3 s'
    ·refine hx (⟨n,0,true,b⟩::c') I E' h' Qn xU (.whole n _ ε w b ε' 0 c' I J hb hd ht) (by simp at hl ⊢; omega) gq ?_
     rw [bP] at s'
     exact s'
theorem LH (U:W told)(s:Sat h (gK g a now b_::cx a p q r op data aD::bZ r p q ε.1::bf q p ε.2.1::aC p ε.2.2::S))(rf:gZ ε)(hw:cu ε≤268435456)(I:∀e∈now,e.2.length=512)(hm:now.length≤65536)(hk:∀n∈now.map (·.1),(Lit.int .i64 n).wf=true):
  Call ⟨Tryz.prog,told⟩ 47 [.ptr g 0] h fun v h'=>∃e c ε',jh now (aJ now) ε e c ε' ∧
   ((e≠0∧v=.bD [.bA,.int .i64 e]∧Sat h' (gK g a now b_::cx a p q r op data aD::bZ r p q ε'.1::bf q p ε'.2.1::aC p ε'.2.2::S)) ∨
    (e=0∧c.length≤33554432∧∃av cs,v=.bD [av,.int .i64 0]∧Sat h' (.arr 4 av cs::cT cs c::gK g a now b_::cx a p q r op data aD::bZ r p q ε'.1::bf q p ε'.2.1::aC p ε'.2.2::S))):=by
 have hl:(aJ now).length=now.length:=by rw [aJ,(er _).length_eq,d_]
 refine Call.of_wp (U.free _ rfl) Tryz.func47 rfl rfl (zK 13 rfl (zc rfl (NZ U s (by omega) hk) ?_))
 intro kv h s
 refine zo rfl (a_ rfl rfl rfl (s.iH (n:=(aJ now).length) (j:=0) rfl (by simp [eG]) (by decide) eu)) ?_
 refine zk 2 rfl (WP.block ?_)
 have s1:=(((s.gx aa).qg (k:=4)).ga fun a b q=>q).ae [0,0,1,1,1,1,1,0]
 refine Hv U (ks:=aJ now) (now:=now) (by omega) (fun n hn => ?_) I (aJ now).length 0 [] .bA [] ε _ _ _ (by omega) rf hw (by simp) s1 ⟨rfl,rfl,rfl,rfl,rfl,aa⟩ (fun e c ε' E' h' J he l2 l3 s' => ?_) (fun c ε' E' h' av cs J lK gq s' => ?_)
 ·have:n∈now.map (·.1):=(er _).mem_iff.1 hn
  cases hq:lookL n now with
  | some _=>rfl
  | none=>exact absurd this (fU.1 hq)
 ·rw [dS] at J
  exact ⟨aa,_,ve l2 l3,e,c,ε',J,.inl ⟨he,rfl,s'⟩⟩
 ·rw [dS] at J
  have s:=s'
  exact WP.has gq (zK 6 rfl (WP.ret ⟨aa,_,rfl,0,c,ε',J,.inr ⟨rfl,by simp at lK; omega,_,_,rfl,s⟩⟩))
end
end Go.Proofs.YtconhghphklfjaaGreat.Am
