/- SpacePlays: a part of its proof; conditions: its statement's. -/
import Derived.Test.YtefepnnfphdkpaaGreatE25
set_option linter.defProp false
namespace Go.Proofs.YtefepnnfphdkpaaGreat.Am
open Go
def F8:=@Tryz.func33
inductive tv (ε:aE)(now:List (Int×List Nat))(bX:Bool)(n:Int)(b:List Nat): Int→List (Int×List Nat)→aE→Prop where
 | may (e:Int) (c:List Nat) (ε':aE) (hr:oG ε now bX n e c ε') (he:e≠0):tv ε now bX n b e now ε'
 | bad (c:List Nat) (ε':aE) (hr:oG ε now bX n 0 c ε') (hg:cj b=false):tv ε now bX n b 4 now ε'
 | done (c:List Nat) (ε':aE) (hr:oG ε now bX n 0 c ε') (hg:cj b=true):tv ε now bX n b 0 (dO n b now) ε'
theorem tv.l9 {ε ε':aE}{now bS:List (Int×List Nat)}{bX:Bool}{n e:Int}{b:List Nat}(I:tv ε now bX n b e bS ε')(h:iR ε): iR ε':=by
 cases I with
 | may e c ε' I he=>exact I.l9 h
 | bad c ε' I J=>exact I.l9 h
 | done c ε' I J=>exact I.l9 h
section
variable {told:cZ} {h:H} {S:List au} {X:au} {r k q p bR a g aO:Nat} {op v x wh di:V} {l b data:List Nat} {π:Pl} {m:List Fm} {μ:Lg} {δ:Dk} {now:List (Int×List Nat)} {bX:Bool}
theorem UH (hT:W told){n:Int}(s:Sat h (fh g a now bX::dx a p q r op data aO::cK r p q π::bx q p μ::aL p δ::S))(J:iR (π,μ,δ))(hw:δ.waiting.length≤268435456)(I:∀e∈now,e.2.length=512):
  Call ⟨Tryz.prog,told⟩ 106 [.iface 26 (.ptr g 0),.int .i64 n] h fun v h'=>∃(e:Int) (b:List Nat) (ε:aE),oG (π,μ,δ) now bX n e b ε∧v=.int .i64 e ∧
   Sat h' (fh g a now bX::dx a p q r op data aO::cK r p q ε.1::bx q p ε.2.1::aL p ε.2.2::S):=by
 refine Call.of_wp (hT.free _ rfl) Tryz.func106 rfl rfl (zK 8 rfl (az.any rfl rfl rfl (OpR.invoke rfl rfl rfl Dd rfl (F7 (n:=n) hT s J hw I)) ?_))
 rintro v h ⟨e,b,ε,hr,(⟨he,rfl,s⟩ | ⟨rfl,u,rfl,s⟩)⟩
 ·refine az.op rfl rfl rfl (bF rfl) ?_
  exact zk 10 rfl (WP.ret ⟨aa,_,rfl,e,b,ε,hr,rfl,s⟩)
 ·skip
  exact zk 11 rfl (WP.ret ⟨aa,_,rfl,0,b,ε,hr,rfl,s.drop⟩)
theorem Mr (hT:W told){n:Int}(s:Sat h (fh g a now bX::dx a p q r op data aO::cK r p q π::bx q p μ::aL p δ::X::S))(hX:c8 X (c9 x b))(hb:b.length<9223372036854775808)(fF:iR (π,μ,δ))(hw:δ.waiting.length≤268435456)(J:∀e∈now,e.2.length=512):
  Call ⟨Tryz.prog,told⟩ 49 [.ptr g 0,.int .i64 n,x] h fun v h'=>∃(e:Int) (bS:List (Int×List Nat)) (ε:aE),tv (π,μ,δ) now bX n b e bS ε∧v=.int .i64 e ∧
   Sat h' (fh g a bS bX::dx a p q r op data aO::cK r p q ε.1::bx q p ε.2.1::aL p ε.2.2::X::S):=by
 refine Call.of_wp (hT.free _ rfl) Tryz.func49 rfl rfl (zK 8 rfl (zo rfl (nj rfl (lC jZ rfl)) (zm rfl (zc rfl (UH (n:=n) hT s fF hw J) ?_))))
 rintro v h ⟨e,c,ε,hr,rfl,s⟩
 refine zk 5 rfl ?_
 by_cases he:e=0
 ·skip
  subst he
  refine zh rfl (af rfl rfl aG) (rfl) (zk 7 rfl (zc rfl (IC hT (s.ae [5]) hX hb) ?_))
  rintro v h ⟨rfl,s⟩
  refine zo rfl (cX rfl rfl) (zv ?_)
  by_cases I:cj b=true
  ·skip
   refine WP.Qf rfl (by rw [I]; rfl) ?_
   have Yt:=iQ I
   obtain ⟨nv,s⟩:=dV.1 (s.ae [1])
   have s:=s.ae [2,0,0]
   obtain ⟨vy,rfl⟩:=xJ s (j:=2) rfl
   refine zK 2 rfl ?_
   have s0:=s
   refine WP.drawn [some (0,2),some (0,2),some (0,2),some (0,2),some (0,2),ai,ai,ai] rfl (by kernel_rfl) (by kernel_rfl) ?_
   refine zM rfl (zN rfl (zF rfl (pU _ _) (zL rfl (s.ld (k:=1) rfl mI rfl) (zM rfl (zM rfl (aA.any rfl rfl rfl rfl (OpR.call rfl rfl rfl rfl (oW hT s hX (by omega))) ?_))))))
   intro u h s
   obtain ⟨sZ,_,cap,_,rfl,_⟩:=s.fB (by omega)
   have s:=s.gu
   have s1:=s
   refine aA.j6 rfl rfl rfl (OpR.mapUpdate rfl rfl rfl rfl (nQ (f:=fun v b=>au.c5 v b) (x:=b) (fun _ _=>aX.c5 _ _) (s.ae [0,2]) nK bI)) ?_
   intro w h s
   refine aA.nil ⟨⟨fun _ _=>.inr ⟨rfl,⟨_,bF rfl⟩,aS _ rfl⟩,fun _ _=>.inr ⟨rfl,⟨_,ni rfl⟩,aS _ rfl⟩,fun _ _=>.inr ⟨rfl,⟨_,jS rfl (pU _ _)⟩,aS _ rfl⟩,dB (.inr ⟨rfl,⟨_,aR rfl (s0.ld (k:=1) rfl mI rfl)⟩,aS _ rfl⟩) (.inr ⟨rfl,⟨_,aR rfl (s1.ld (k:=2) rfl mI rfl)⟩,aS _ rfl⟩),fun _ _=>.inr ⟨rfl,⟨_,bF rfl⟩,aS _ rfl⟩,aa,aa,aa,aa⟩,?_⟩
   exact zK 4 rfl (WP.ret ⟨aa,_,rfl,0,_,ε,.done c ε hr I,rfl,dV.2 ⟨.map vy,s.ae [2,0,1,1,1,1,0]⟩⟩)
  ·have I:cj b=false:=by simpa using I
   refine WP.JG rfl (by rw [I]; rfl) ?_
   exact zK 4 rfl (WP.ret ⟨aa,_,rfl,4,_,ε,.bad c ε hr I,rfl,s.ae [1,1,1,1,1,0]⟩)
 ·skip
  refine zt rfl (af rfl rfl aG) (by simp; exact he) ?_
  exact zk 7 rfl (WP.ret ⟨aa,_,rfl,e,_,ε,.may e c ε hr he,rfl,s⟩)
theorem DW (I:W told)(s:Sat h (fh g a now bX::dx a p q r (.ptr g 0) data aO::S)): Call ⟨Tryz.prog,told⟩ 60 [.ptr g 0] h fun v h'=>v=.aY []∧Sat h' (fh g a now true::dx a p q r .b7 data aO::S):=by
 obtain ⟨J,s⟩:=dV.1 s
 obtain ⟨dv,s⟩:=b5.1 (s.ae [2])
 refine Call.of_wp (I.free _ rfl) Tryz.func60 rfl rfl (zK 4 rfl (zf rfl (zC _ _) ?_))
 refine zS rfl (by exact s.gO (k:=2) rfl oS rfl (by decide) rfl rfl) (fun h s => ?_)
 refine zk 5 rfl (zf rfl (ou _ _) (zl rfl (s.ld (k:=2) rfl xF rfl) (zn rfl (zf rfl (ow _ _) (zl rfl (s.ld (k:=0) rfl CO rfl) (zm rfl (zt rfl (af rfl rfl (We jZ VG (by decide) (s.row (k:=2) rfl) (s.row (k:=2) rfl) (by decide) (by decide))) (cN g) ?_)))))))
 refine zk 5 rfl (zf rfl (ou _ _) (zl rfl (s.ld (k:=2) rfl xF rfl) (zn rfl (zf rfl (ow _ _) ?_))))
 refine zS rfl (by exact s.gO (k:=0) rfl T4 rfl (by decide) rfl rfl) (fun h s => ?_)
 refine zv ?_
 have s:=dV.2 ⟨J,(b5.2 ⟨dv,s⟩).ae [1,1]⟩
 exact ⟨aa,_,rfl,rfl,s⟩
theorem OX (I:W told)(s:Sat h (fh g a now bX::dx a p q r (.ptr g 0) data aO::S)): Call ⟨Tryz.prog,told⟩ 33 [.ptr g 0] h fun v h'=>v=.aY []∧Sat h' (fh g a now true::dx a p q r .b7 data aO::S):=by
 refine Call.of_wp (I.free _ rfl) F8 rfl rfl (zK 2 rfl (zc rfl (DW I s) ?_))
 rintro v h ⟨rfl,s⟩
 exact zv ⟨aa,_,rfl,rfl,s⟩
theorem HE (I:W told)(s:Sat h (fh g a now bX::dx a p q r .b7 data aO::S)): Call ⟨Tryz.prog,told⟩ 60 [.ptr g 0] h fun v h'=>v=.aY []∧Sat h' (fh g a now true::dx a p q r .b7 data aO::S):=by
 obtain ⟨J,s⟩:=dV.1 s
 obtain ⟨dv,s⟩:=b5.1 (s.ae [2])
 dsimp only [bringA,getA,bf] at s
 refine Call.of_wp (I.free _ rfl) Tryz.func60 rfl rfl (zK 4 rfl (zf rfl (zC _ _) ?_))
 refine zS rfl (by exact s.gO (k:=2) rfl oS rfl (by decide) rfl rfl) (fun h s => ?_)
 dsimp only [BX,Nat.reduceAdd,List.set,setA] at s
 refine zv (zg rfl (zk 2 rfl (zf rfl (ou _ _) (zl rfl (by exact s.ld (k:=2) rfl xF rfl) ?_))))
 refine zn rfl (zf rfl (ow _ _) (zl rfl (by exact s.ld (k:=0) rfl CO rfl) ?_))
 refine zm rfl (zh rfl (af rfl rfl (Wd jZ)) (rfl) (zv (zj rfl (WP.skip ?_))))
 have s:=dV.2 ⟨J,(b5.2 ⟨dv,s⟩).ae [1,1]⟩
 exact ⟨aa,_,rfl,rfl,s⟩
theorem Ke (I:W told)(s:Sat h (fh g a now bX::dx a p q r .b7 data aO::S)): Call ⟨Tryz.prog,told⟩ 33 [.ptr g 0] h fun v h'=>v=.aY []∧Sat h' (fh g a now true::dx a p q r .b7 data aO::S):=by
 refine Call.of_wp (I.free _ rfl) F8 rfl rfl (zK 2 rfl (zc rfl (HE I s) ?_))
 rintro v h ⟨rfl,s⟩
 exact zv ⟨aa,_,rfl,rfl,s⟩
end
inductive wR (bn:Int)(dD now:List Nat): Nat→List dG→Prop where
 | done (i:Nat) (h:now.length≤i):wR bn dD now i []
 | skip (i:Nat) (l:List dG) (h:i<now.length) (he:dD[i]?=now[i]?) (hr:wR bn dD now (i+1) l):wR bn dD now i l
 | take (i e:Nat) (l:List dG) (h1:i<e) (h2:e≤now.length) (h3:dD[i]?≠now[i]?) (h4:∀k,e≤k→k<e+8→dD[k]?=now[k]?) (hr:wR bn dD now e l):wR bn dD now i (⟨bn,i,false,(now.take e).drop i⟩::l)
def Ms (bn:Int)(dD now:List Nat)(c:List dG): Prop:=∃l,wR bn dD now 12 l∧c=if l=[] then [⟨bn,0,false,[]⟩] else l
theorem AV : ∃i,Tryz.prog.info? 180=some i∧i.size=4∧i.bytes=48 :=
 ⟨_,(show Tryz.prog.info? 180=some ((Tryz.prog.info? 180).getD default) by kernel_rfl),by kernel_rfl,by kernel_rfl⟩
section
variable {told:cZ} {h:H} {S:List au} {X Y:au} {r k q p bR a g aO:Nat} {op v x u wh di:V} {l b dD now:List Nat}
noncomputable def rgO : Code:=cV [1,1,0,1,0,0] ((Tryz.f115.body).getD .skip)
noncomputable def rgI : Code:=cV [1,1,0,1,0,0,1,0,1,1,0,1,0,0] ((Tryz.f115.body).getD .skip)
theorem OY {pg:Int}{I:Nat}{t7:V}{k1 k2:Nat}(s:Sat h S)(Ag:getA S k1=some X)(hX:c8 X (c9 u dD))(Av:getA S k2=some Y)(hY:c8 Y (c9 v now))(DP:dD.length=512)(jQ:now.length=512): ∀(j i e:Nat) (E:List (Nat×V)) (Q:Ex→List (Nat×V)→H→Prop),i+j=512→I<e→e≤i→(∀k,e≤k→k<i→dD[k]?=now[k]?) →
  Has E [(0,.int .i64 pg),(1,u),(2,v),(7,t7),(8,.int .i64 (I:Int)),(9,.int .i64 (e:Int)),(10,.int .i64 (i:Int))] →
  (∀J E',I<J→J≤512→(∀k,J≤k→k<J+8→dD[k]?=now[k]?)→Has E' [(0,.int .i64 pg),(1,u),(2,v),(7,t7),(8,.int .i64 (I:Int)),(9,.int .i64 (J:Int))]→Q (.exit 2) E' h) →
  WP ⟨Tryz.prog,told⟩ 71 (.loop rgI) E h Q:=by
 have hv:=s.aU Av hY
 have hu:=s.aU Ag hX
 have hlen:lenV Tryz.prog h 28 v=some (.int .i64 now.length):=bO aV hv
 intro j
 induction j with
 | zero =>
  intro i e E Q hi h1 h2 hg hE hq
  refine WP.loop (WP.has hE (zK 5 rfl (zo rfl (aT rfl rfl rfl hlen) (zh rfl (af rfl rfl aK) (by simp <;> omega) ?_))))
  refine zk 8 rfl (WP.exit ?_)
  refine hq e _ h1 (by omega) (fun k k1 _ => ?_) ⟨rfl,rfl,rfl,rfl,rfl,rfl,aa⟩
  by_cases hk:k<i
  ·exact hg k k1 hk
  ·rw [uE (by omega),uE (by omega)]
 | succ j ih =>
  intro i e E Q hi h1 h2 hg hE hq
  have hb:now[i]?=some (now[i]'(by omega)):=aN _
  generalize (now[i]'(by omega))=b at hb
  have hc:dD[i]?=some (dD[i]'(by omega)):=aN _
  generalize (dD[i]'(by omega))=c at hc
  obtain ⟨id,off,e1,e2⟩:=dR hv hb
  obtain ⟨xm,off',e3,e4⟩:=dR hu hc
  refine WP.loop (WP.has hE (zK 5 rfl (zo rfl (aT rfl rfl rfl hlen) (zt rfl (af rfl rfl aK) (by simp <;> omega) ?_))))
  refine zk 3 rfl (zb rfl (by exact bg (aB (by omega) (by omega))) ?_)
  by_cases hd:i<e+8
  ·skip
   refine zt rfl (af rfl rfl aK) (by simp <;> omega) ?_
   refine zk 5 rfl (WP.block (zw ?_))
   have s0:=s
   refine WP.drawn [ai,ai,ai,ai,ai,ai,ai,ai,ai] rfl (by kernel_rfl) (by kernel_rfl) ?_
   refine zM rfl (zM rfl (zO rfl (cn (r:=.ptr xm off') rfl rfl e3) (zL rfl e4 (zM rfl (zM rfl (zO rfl (cn (r:=.ptr id off) rfl rfl e1) (zL rfl e2 ?_)))))))
   by_cases IL:c=b
   ·skip
    refine aA.lK rfl rfl rfl rfl (af rfl rfl aG) (by simp; exact_mod_cast IL) ?_
    refine aA.nil ⟨⟨aa,aa,aa,aa,aa,aa,aa,aa,aa,aa⟩,?_⟩
    refine zj rfl (WP.skip (zr rfl (zm rfl (zb rfl (by exact bg (aB (by omega) (by omega))) ?_))))
    refine za rfl (zv ?_)
    exact ih (i+1) e _ Q (by omega) h1 (by omega) (fun k k1 k2=>(by
     rcases j8 k i with h | h
     ·exact hg k k1 h
     ·rw [show k=i by omega,hb,hc,IL])) ⟨rfl,rfl,rfl,rfl,rfl,rfl,rfl,aa⟩ hq
   ·skip
    refine aA.qV rfl rfl rfl rfl (af rfl rfl aG) (by simp; omega) ?_
    refine aA.nil ⟨⟨aa,aa,aa,aa,aa,aa,aa,aa,aa,aa⟩,?_⟩
    refine zK 3 rfl (zb rfl (by exact bg (aB (by omega) (by omega))) ?_)
    refine za rfl (zv (zr rfl (zm rfl (zb rfl (by exact bg (aB (by omega) (by omega))) ?_))))
    refine za rfl (zv ?_)
    exact ih (i+1) (i+1) _ Q (by omega) (by omega) (by omega) (fun k k1 k2=>absurd k2 (by omega)) ⟨rfl,rfl,rfl,rfl,rfl,rfl,rfl,aa⟩ hq
  ·skip
   refine zh rfl (af rfl rfl aK) (by simp <;> omega) ?_
   exact zk 3 rfl (WP.exit (hq e _ h1 (by omega) (fun k k1 k2=>hg k k1 (by omega)) ⟨rfl,rfl,rfl,rfl,rfl,rfl,aa⟩))
theorem OZ (hT:W told){pg:Int}(hX:c8 X (c9 u dD))(hY:c8 Y (c9 v now))(DP:dD.length=512)(jQ:now.length=512): ∀(j i:Nat) (acc:List dG) (av:V) (cs:List V) (h:H) (E:List (Nat×V)) (Q:Ex→List (Nat×V)→H→Prop),512≤i+j→i≤512→acc.length≤i →
  Sat h (.arr 4 av cs::dN cs acc::X::Y::S)→(∀l,wR pg dD now i l→wR pg dD now 12 (acc++l)) →
  Has E [(0,.int .i64 pg),(1,u),(2,v),(7,av),(8,.int .i64 (i:Int))] →
  (∀qW cs' l E' h',wR pg dD now 12 l→l.length≤512→Sat h' (.arr 4 qW cs'::dN cs' l::X::Y::S)→Has E' [(0,.int .i64 pg),(7,qW)]→Q (.exit 0) E' h') →
  WP ⟨Tryz.prog,told⟩ 71 (.loop rgO) E h Q:=by
 intro j
 induction j with
 | zero =>
  intro i acc av cs h E Q hj hi UI s I hE hq
  have hlen:lenV Tryz.prog h 28 v=some (.int .i64 now.length):=bO aV (s.aU (k:=3) rfl hY)
  refine WP.loop (WP.has hE (zK 5 rfl (zo rfl (aT rfl rfl rfl hlen) (zh rfl (af rfl rfl aK) (by simp <;> omega) ?_))))
  refine zk 2 rfl (WP.exit ?_)
  have:=I [] (.done _ (by omega))
  rw [gz] at this
  exact hq av cs acc _ _ this (by omega) s ⟨rfl,rfl,aa⟩
 | succ j ih =>
  intro i acc av cs h E Q hj hi UI s I hE hq
  have hv:=s.aU (k:=3) rfl hY
  have hu:=s.aU (k:=2) rfl hX
  have hlen:lenV Tryz.prog h 28 v=some (.int .i64 now.length):=bO aV hv
  by_cases bC:i<512
  ·have hb:now[i]?=some (now[i]'(by omega)):=aN _
   generalize (now[i]'(by omega))=b at hb
   have hc:dD[i]?=some (dD[i]'(by omega)):=aN _
   generalize (dD[i]'(by omega))=c at hc
   obtain ⟨id,off,e1,e2⟩:=dR hv hb
   obtain ⟨xm,off',e3,e4⟩:=dR hu hc
   refine WP.loop (WP.has hE (zK 5 rfl (zo rfl (aT rfl rfl rfl hlen) (zt rfl (af rfl rfl aK) (by simp <;> omega) ?_))))
   refine zk 3 rfl (WP.block (zK 2 rfl ?_))
   have s0:=s
   refine WP.drawn [ai,ai,ai,ai,ai,ai,ai,ai,ai] rfl (by kernel_rfl) (by kernel_rfl) ?_
   refine zM rfl (zM rfl (zO rfl (cn (r:=.ptr xm off') rfl rfl e3) (zL rfl e4 (zM rfl (zM rfl (zO rfl (cn (r:=.ptr id off) rfl rfl e1) (zL rfl e2 ?_)))))))
   by_cases IL:c=b
   ·skip
    refine aA.qV rfl rfl rfl rfl (af rfl rfl dh) (by simp; exact_mod_cast IL) ?_
    refine aA.nil ⟨⟨aa,aa,aa,aa,aa,aa,aa,aa,aa,aa⟩,?_⟩
    refine zK 4 rfl (zb rfl (by exact bg (aB (by omega) (by omega))) ?_)
    exact zk 2 rfl (WP.exit (ih (i+1) acc av cs h _ Q (by omega) (by omega) (by omega) s (fun l hl=>I l (.skip i l (by omega) (by rw [hb,hc,IL]) hl)) ⟨rfl,rfl,rfl,rfl,rfl,aa⟩ hq))
   ·skip
    refine aA.lK rfl rfl rfl rfl (af rfl rfl dh) (by simp; omega) ?_
    refine aA.nil ⟨⟨aa,aa,aa,aa,aa,aa,aa,aa,aa,aa⟩,?_⟩
    refine zK 5 rfl (zb rfl (by exact bg (aB (by omega) (by omega))) ?_)
    refine zk 8 rfl (WP.block ?_)
    refine OY s (k1:=2) (k2:=3) rfl hX rfl hY DP jQ (512-(i+1)) (i+1) (i+1) _ _ (by omega) (yO i) (aD _) (fun k k1 k2=>absurd k2 (by omega)) ⟨rfl,rfl,rfl,rfl,rfl,rfl,rfl,aa⟩ (fun e' E' UJ vz F9 jl => ?_)
    refine WP.has jl ?_
    have UK:=fW hv (a:=i) (b:=e') (by omega) (by omega)
    refine zK 8 rfl (zo rfl (c_ (p:=some (.int .i64 (i:Int))) (q:=some (.int .i64 (e':Int))) (m:=none) (p':=some i) (q':=some e') (m':=none) rfl rfl rfl rfl (by rw [dU (by omega)]; rfl) (by rw [dU (by omega)]; rfl) rfl UK.1) ?_)
    refine zc rfl (oW hT (s.ae [3]) (vY hY (a:=i) (b:=e') (by omega) (by omega)) (by simp; omega)) ?_
    intro w h s
    dsimp only [bringA,getA,bf] at s
    obtain ⟨wid,_,J,_,rfl,_⟩:=s.fB (by simp; omega)
    have s:=s.gu
    generalize Qa:(now.take e').drop i=bs at s
    refine zo rfl (dA rfl (by rw [JN]; rfl)) ?_
    obtain ⟨rv,h1,tj,s1⟩:=lE (P:=Tryz.prog) (k:=4) (x:=.agg [.int .i64 pg,.int .i64 (i:Int),.bool false,.sl wid 0 bs.length J]) s jW tT zP rfl (by decide) (by decide) rfl rfl
    dsimp only [V.cells] at s1
    refine az.any rfl rfl rfl (OpR.of (R:=fun v h'=>v=rv∧h'=h1) (mD rfl tj) ⟨rfl,rfl⟩) ?_
    rintro v' h' ⟨rfl,rfl⟩
    obtain ⟨i1,jk,iE,tY⟩:=AV
    have kQ:cs.length=acc.length*4:=by
     obtain ⟨a,b,q1,q2,q3⟩:=s1.at (k:=4) rfl
     exact qb q3
    obtain ⟨qW,h2,qF,s2⟩:=g_ (s1.ae [3,0]) jW jk tT iE (by omega) rfl (by decide) (by simp only [aH,bM]; omega)
    dsimp only [bringA,getA,bf] at s2
    refine az.any rfl rfl rfl (OpR.of (R:=fun v h'=>v=qW∧h'=h2) (mH rfl rfl qF) ⟨rfl,rfl⟩) ?_
    rintro v' h' ⟨rfl,rfl⟩
    refine za rfl (zv (zr rfl (zk 2 rfl (zv ?_))))
    have s3:Sat _ (dN cs acc::.c5 (.sl wid 0 bs.length J) bs::_):=s2.ae [4,2]
    have s4:=s3.two (C:=dN (cs++[.int .i64 pg,.int .i64 (i:Int),.bool false,.sl wid 0 bs.length J]) (acc++[⟨pg,i,false,bs⟩])) (aX.pq _ _) (aX.c5 _ _) fun a b q1 q2=>AO q1 ⟨⟨⟨rfl,rfl,rfl⟩,q2⟩,aa⟩
    have s5:=(s4.ae [1,0,2,1]).del 4
    dsimp only [bringA,getA,bf] at s5
    refine ih e' (acc++[⟨pg,(i:Int),false,bs⟩]) _ _ _ _ Q (by omega) vz (by simp; omega) s5 (fun l hl => ?_) ⟨rfl,rfl,rfl,rfl,rfl,aa⟩ hq
    have:=I _ (.take i e' l UJ (by omega) (fun hx=>by rw [hb,hc] at hx; exact IL (bB hx)) F9 hl)
    rw [Qa] at this
    rwa [gS]
  ·have hi5:i=512:=by omega
   refine WP.loop (WP.has hE (zK 5 rfl (zo rfl (aT rfl rfl rfl hlen) (zh rfl (af rfl rfl aK) (by simp <;> omega) ?_))))
   refine zk 2 rfl (WP.exit ?_)
   have:=I [] (.done _ (by omega))
   rw [gz] at this
   exact hq av cs acc _ _ this (by omega) s ⟨rfl,rfl,aa⟩
theorem Mt (hT:W told){pg:Int}(s:Sat h (X::Y::S))(hX:c8 X (c9 u dD))(hY:c8 Y (c9 v now))(J:dD.length=512)(jQ:now.length=512):
  Call ⟨Tryz.prog,told⟩ 115 [.int .i64 pg,u,v] h fun w h'=>∃cs l,Ms pg dD now l∧l.length≤512∧Sat h' (.arr 4 w cs::dN cs l::X::Y::S):=by
 refine Call.of_wp (hT.free _ rfl) Tryz.func115 rfl rfl (zK 13 rfl (WP.block ?_))
 refine OZ hT (pg:=pg) hX hY J jQ 500 12 [] .bu [] _ _ _ (by omega) (by omega) (by simp) ((s.gr aa).nI) (fun l hl=>hl) ⟨rfl,rfl,rfl,rfl,rfl,aa⟩ (fun qW cs' l E' h' hr Xt s' jl => ?_)
 have s:=s'
 have hlen:=s.xS (j1:=0) (j2:=1) rfl rfl jW
 have QG:=s.lD (j:=0) rfl
 refine WP.has jl (zK 4 rfl (zo rfl (aT rfl rfl rfl hlen) ?_))
 by_cases I:l=[]
 ·skip
  refine zt rfl (af rfl rfl dh) (by subst I; rfl) ?_
  refine zk 5 rfl (zo rfl (dA rfl (by rw [JN]; rfl)) ?_)
  obtain ⟨rv,h1,tj,s1⟩:=lE (P:=Tryz.prog) (k:=4) (x:=.agg [.int .i64 pg,.int .i64 0,.bool false,.bu]) s jW tT zP rfl (by decide) (by decide) rfl rfl
  dsimp only [V.cells] at s1
  refine az.any rfl rfl rfl (OpR.of (R:=fun v h'=>v=rv∧h'=h1) (mD rfl tj) ⟨rfl,rfl⟩) ?_
  rintro v' h' ⟨rfl,rfl⟩
  refine zk 2 rfl (WP.ret ⟨aa,_,rfl,?_⟩)
  refine ⟨[.int .i64 pg,.int .i64 0,.bool false,.bu],[⟨pg,0,false,[]⟩],⟨l,hr,by rw [aq I]⟩,by simp,?_⟩
  have s2:=(s1.del 2).del 1
  have s3:Sat _ (.c5 .bu []::.arr 4 v' _::X::Y::S):=s2.tV
  have s4:=s3.iU (B:=dN [.int .i64 pg,.int .i64 0,.bool false,.bu] [⟨pg,0,false,[]⟩]) fun a b q=>⟨⟨⟨rfl,rfl,rfl⟩,q⟩,aa⟩
  exact s4.ae [1,0]
 ·skip
  refine zh rfl (af rfl rfl dh) (by cases l with | nil=>exact absurd rfl I | cons _ _=>simp; omega) ?_
  exact zk 8 rfl (WP.ret ⟨aa,_,rfl,_,l,⟨l,hr,by rw [ah I]⟩,Xt,s⟩)
end
def g9 (m:List Fm): Nat:=(m.map (·.changed)).count true
theorem mz {f g:Fm}: ∀ {m:List Fm} {i:Nat},m[i]?=some f→g9 (m.set i g)+f.changed.toNat=g9 m+g.changed.toNat:=by
 intro m
 induction m with
 | nil=>intro i h; simp at h
 | cons x m I =>
  intro i h
  cases i with
  | zero =>
   simp at h
   subst h
   simp only [g9,List.set_cons_zero,bQ,List.count_cons]
   cases x.changed <;> cases g.changed <;> simp
  | succ i =>
   rw [kW] at h
   have:=I h
   simp only [g9,yK,bQ,List.count_cons] at this ⊢
   omega
theorem BY {g:Fm}(I:g.changed=false): ∀ {m:List Fm} {i:Nat},g9 (m.set i g)≤g9 m:=by
 intro m i
 cases h:m[i]? with
 | none =>
  have:m.length≤i:=by simpa using h
  rw [List.set_eq_of_length_le this]
  exact aD _
 | some f =>
  have:=mz (g:=g) h
  rw [I] at this
  simp only [Bool.toNat_false] at this
  omega
def cr (ε:aE): Nat:=ε.2.2.waiting.length+g9 ε.1.aj
theorem qf {ε:aE}: ε.2.2.waiting.length≤cr ε:=rN _ _
theorem fD.count {π I:Pl}(J:fD π I): g9 I.aj=g9 π.aj:=by
 have:I.aj.map (·.changed)=π.aj.map (·.changed):=by
  refine rK fun i => ?_
  rw [m8,m8]
  cases h:π.aj[i]? with
  | none =>
   have h1:π.aj.length≤i:=by simpa using h
   have:I.aj[i]?=none:=by simp [J.len,h1]
   rw [this]
  | some f =>
   obtain ⟨t,ht⟩:=J.get i f h
   rw [ht]; rfl
 simp only [g9,this]
theorem F_ {δ:Dk}{n:Int}{b:List Nat}(h:(δ.dc n b).1≠0): (δ.dc n b).2.waiting=δ.waiting:=by
 unfold Dk.dc at h ⊢
 split
 ·rfl
 ·rename_i I
  rw [ah I] at h
  split
  ·rfl
  ·rename_i J
   rw [ah J] at h
   split
   ·rfl
   ·rename_i h3
    rw [ah h3] at h
    exact absurd rfl h
theorem Ga {ε:aE}{i:Nat}: cr (outF ε i).2≤cr ε:=by
 unfold outF
 split
 ·exact aD _
 ·rename_i f J
  split
  ·exact aD _
  ·rename_i I
   have I:f.changed=true:=by cases h:f.changed <;> simp [h] at I ⊢
   split
   ·exact aD _
   ·split
    ·simp only [cr,jX]; exact aD _
    ·split
     ·rename_i hw
      simp only [cr,F_ hw,jX]; exact aD _
     ·have h1:=Az (δ:=(bH ε.2 (cT f.b 4 8)).2.2) (n:=f.bn) (b:=f.b)
      rw [jX] at h1
      have h2:=mz (g:={ f with changed:=false }) J
      simp only [I,Bool.toNat_true,Bool.toNat_false] at h2
      simp only [cr]
      omega
theorem yh {π:Pl}{i:Nat}{f:Fm}: g9 (cW π i f).aj≤g9 π.aj:=BY rfl
theorem fE.cr {ε ε':aE}{n e:Int}{b:List Nat}(hr:fE ε n e b ε'): Am.cr ε'≤Am.cr ε:=by
 have qg:∀ {I:Pl},fD ε.1 I→∀i,Am.cr (outF (I,ε.2) i).2≤Am.cr ε:=fun {I} J i=>by
  have:=Ga (ε:=(I,ε.2)) (i:=i)
  refine cu this ?_
  simp only [Am.cr,J.count]
  exact aD _
 cases hr with
 | arg _=>exact aD _
 | Ay i f h1 h2 hl hf =>
  have h2:=mz (g:={ f with eC:=true,pins:=f.pins+1 }) hf
  simp only [Am.cr] at h2 ⊢
  omega
 | out I i f h1 h2 hl J hf hh he=>exact qg J i
 | read I i f h1 h2 hl J hf hh he hr=>exact cu (yJ yh _) (qg J i)
 | bad I i f h1 h2 hl J hf hh he hr hc=>exact cu (yJ yh _) (qg J i)
 | load I i f h1 h2 hl J hf hh he hr hc=>exact cu (yJ (cu (BY rfl) yh) _) (qg J i)
theorem BZ {π:Pl}{n:Int}: g9 (unpinF π n).2.aj=g9 π.aj:=by
 unfold unpinF
 split
 ·rfl
 ·split
  ·rfl
  ·rename_i i hi f I
   have J:=mz (g:={ f with pins:=f.pins-1 }) I
   simp only at J ⊢
   omega
theorem mJ.cr {ε ε':aE}{n e:Int}{b:List Nat}(I:mJ ε n e b ε'): Am.cr ε'≤Am.cr ε:=by
 cases I with
 | dead _=>exact aD _
 | iV e b ε' J I he=>exact I.cr
 | rD b ε' J I he=>have:=I.cr; simp only [Am.cr,BZ] at this ⊢; exact this
 | read b ε' J I he=>have:=I.cr; simp only [Am.cr,BZ] at this ⊢; exact this
theorem oG.cr {ε ε':aE}{now:List (Int×List Nat)}{bX:Bool}{n e:Int}{b:List Nat}(I:oG ε now bX n e b ε'): Am.cr ε'≤Am.cr ε:=by
 cases I with
 | arg _=>exact aD _
 | bX _ _ _=>exact aD _
 | own _ _ _ _ _=>exact aD _
 | read e b ε' J h2 h3 hl I=>exact I.cr
theorem tv.cr {ε ε':aE}{now bS:List (Int×List Nat)}{bX:Bool}{n e:Int}{b:List Nat}(I:tv ε now bX n b e bS ε'): Am.cr ε'≤Am.cr ε:=by
 cases I with
 | may e c ε' I he=>exact I.cr
 | bad c ε' I J=>exact I.cr
 | done c ε' I J=>exact I.cr
inductive kG (now:List (Int×List Nat)): List Int→aE→Int→List dG→aE→Prop where
 | nil (ε:aE):kG now [] ε 0 [] ε
 | err (n:Int) (l:List Int) (ε:aE) (e:Int) (b:List Nat) (ε':aE) (hr:mJ ε n e b ε') (he:e≠0):kG now (n::l) ε e [] ε'
 | part (n:Int) (l:List Int) (ε:aE) (dD b:List Nat) (ε':aE) (c:List dG) (e:Int) (cs:List dG) (lN:aE) (hr:mJ ε n 0 dD ε') (hb:lookL n now=some b) (hd:(lookL n ε'.1.br).isSome=true) (hc:Ms n dD b c) (hl:c.length≤512) (ht:kG now l ε' e cs lN):kG now (n::l) ε e (c++cs) lN
 | whole (n:Int) (l:List Int) (ε:aE) (dD b:List Nat) (ε':aE) (e:Int) (cs:List dG) (lN:aE) (hr:mJ ε n 0 dD ε') (hb:lookL n now=some b) (hd:(lookL n ε'.1.br).isSome=false) (ht:kG now l ε' e cs lN):kG now (n::l) ε e (⟨n,0,true,b⟩::cs) lN
theorem kG.l9 {now:List (Int×List Nat)}{l:List Int}{ε ε':aE}{e:Int}{cs:List dG}(I:kG now l ε e cs ε')(h:iR ε): iR ε':=by
 induction I with
 | nil ε=>exact h
 | err n l ε e b ε' I he=>exact I.l9 h
 | part n l ε dD b ε' c e cs J I hb hd hc hl ht ih=>exact ih (I.l9 h)
 | whole n l ε dD b ε' e cs J I hb hd ht ih=>exact ih (I.l9 h)
theorem kG.cr {now:List (Int×List Nat)}{l:List Int}{ε ε':aE}{e:Int}{cs:List dG}(I:kG now l ε e cs ε'): Am.cr ε'≤Am.cr ε:=by
 induction I with
 | nil ε=>exact aD _
 | err n l ε e b ε' I he=>exact I.cr
 | part n l ε dD b ε' c e cs J I hb hd hc hl ht ih=>exact cu ih I.cr
 | whole n l ε dD b ε' e cs J I hb hd ht ih=>exact cu ih I.cr
theorem O0 {P:Program}{E:List (Nat×V)}{h:H}{a b:Nat}{v w:V}(I:look E a=some v)(J:look E b=some w): jA P E h [.tmp a,.tmp b]=some (.aY [v,w]):=by simp only [jA,mapO,resE,I,J]
section
variable {told:cZ} {h:H} {S:List au} {X Y:au} {r k q p bR a g aO:Nat} {op v x u wh di:V} {l b dD data:List Nat} {now:List (Int×List Nat)} {bX:Bool} {ε:aE}
theorem AW (I:W told){id:Nat}(s:Sat h S): Call ⟨Tryz.prog,told⟩ 62 [.map id] h fun v h'=>∃b,v=.fn (.func 120) [] [.ptr b 0]∧Sat h' (pt b (.cells 1 [.map id] false)::S):=by
 refine Call.of_wp (I.free _ rfl) Tryz.func62 rfl rfl (zg rfl ?_)
 refine az.cz s rfl rfl rfl (fc rfl rfl) (fun J h s => ?_)
 exact zk 4 rfl (zo rfl (Et rfl rfl) (zk 2 rfl (WP.ret ⟨aa,_,rfl,_,rfl,s⟩)))
theorem Mu (I:W told)(s:Sat h (fh g a now bX::S))(hm:now.length≤1048576)(hk:∀n∈now.map (·.1),(Lit.int .i64 n).wf=true):
  Call ⟨Tryz.prog,told⟩ 112 [.ptr g 0] h fun v h'=>Sat h' (.arr 1 v (eT (bw now))::fh g a now bX::S):=by
 obtain ⟨nv,s⟩:=dV.1 s
 obtain ⟨J,rfl⟩:=xJ s (j:=1) rfl
 refine Call.of_wp (I.free _ rfl) Tryz.func112 rfl rfl (zK 8 rfl (zf rfl (pU _ _) (zl rfl (s.ld (k:=0) rfl mI rfl) (zc rfl (AW I s) ?_))))
 rintro v h ⟨b,rfl,s⟩
 refine zc rfl (qH I (s.ae [0,1]) (by decide) hm hk) ?_
 intro kv h s
 exact zk 2 rfl (WP.ret ⟨aa,_,rfl,(dV.2 ⟨.map J,(s.ae [3,2,0]).del 3⟩).ae [1]⟩)
noncomputable def cgL : Code:=cV [1,1,0,1,0,0] ((Tryz.f58.body).getD .skip)
theorem Gb (hT:W told){ks:List Int}{kv:V}(QD:ks.length≤65536)(Mv:∀n∈ks,(lookL n now).isSome=true)(wo:∀e∈now,e.2.length=512): ∀(j i:Nat) (acc:List dG) (av:V) (cs:List V) (ε:aE) (h:H) (E:List (Nat×V)) (Q:Ex→List (Nat×V)→H→Prop),i+j=ks.length →
  iR ε→cr ε≤268435456→acc.length≤512*i →
  Sat h (.arr 4 av cs::dN cs acc::fh g a now bX::dx a p q r op data aO::cK r p q ε.1::bx q p ε.2.1::aL p ε.2.2::.arr 1 kv (eT ks)::S) →
  Has E [(0,.ptr g 0),(4,av),(13,kv),(14,.int .i64 ks.length),(15,.int .i64 i)] →
  (∀e c ε' E' h',kG now (ks.drop i) ε e c ε'→e≠0→look E' 2=some .bu→look E' 3=some (.int .i64 e)→Sat h' (fh g a now bX::dx a p q r op data aO::cK r p q ε'.1::bx q p ε'.2.1::aL p ε'.2.2::S)→Q .ret E' h') →
  (∀c ε' E' h' qW cs',kG now (ks.drop i) ε 0 c ε'→acc.length+c.length≤512*ks.length→Has E' [(4,qW)]→Sat h' (.arr 4 qW cs'::dN cs' (acc++c)::fh g a now bX::dx a p q r op data aO::cK r p q ε'.1::bx q p ε'.2.1::aL p ε'.2.2::S)→Q (.exit 0) E' h') →
  WP ⟨Tryz.prog,told⟩ 65 (.loop cgL) E h Q:=by
 intro j
 induction j with
 | zero =>
  intro i acc av cs ε h E Q hj fF hw UI s hE hr hx
  refine WP.loop (WP.has hE (zg rfl (zh rfl (af rfl rfl aK) (by simp <;> omega) ?_)))
  refine zk 3 rfl (WP.exit ?_)
  rw [gR (by omega)] at hx
  have s1:=s.del 7
  dsimp only [bf] at s1
  refine hx [] ε _ _ av cs (.nil ε) (by simp; omega) ⟨rfl,aa⟩ ?_
  rw [gz]
  exact s1
 | succ j ih =>
  intro i acc av cs ε h E Q hj fF hw UI s hE hr hx
  have hn:ks[i]?=some (ks[i]'(by omega)):=aN _
  have AF:ks[i]'(by omega)∈ks:=pJ _
  have oY:ks.drop i=ks[i]'(by omega)::ks.drop (i+1):=rG (by omega)
  generalize (ks[i]'(by omega))=n at hn AF oY
  have hc:(eT ks)[i]?=some (.int .i64 n):=by simp [eT,hn]
  obtain ⟨b,hb⟩:=Option.isSome_iff_exists.1 (Mv n AF)
  have ED:=wo _ (kE hb)
  simp only at ED
  rw [oY] at hr hx
  obtain ⟨id,off,e1,e2⟩:=fY (P:=Tryz.prog) s (k:=7) rfl hc cM kA
  refine WP.loop (WP.has hE (zg rfl (zt rfl (af rfl rfl aK) (by simp <;> omega) ?_)))
  refine zk 5 rfl (WP.block (zg rfl (zo rfl (cn (r:=.ptr id off) rfl rfl e1) (zl rfl (e2 _ cA) ?_))))
  obtain ⟨nv,s⟩:=dV.1 (s.ae [2])
  dsimp only [bringA,getA,bf] at s
  refine zk 6 rfl (zf rfl (ou _ _) (zl rfl (s.ld (k:=0) rfl xF rfl) (zm rfl (zc rfl (AT (n:=n) hT (s.ae [4,4,4,4]) fF.ok fF.pins (cu qf hw)) ?_))))
  rintro v h ⟨e,w,ε',J,(⟨he,rfl,s⟩ | ⟨rfl,u,rfl,s⟩)⟩
  ·dsimp only [bringA,getA,bf] at s
   refine zk 10 rfl (zt rfl (af rfl rfl aG) (by simp; exact he) ?_)
   refine zk 8 rfl (WP.ret (hr e [] ε' _ _ (.err n _ ε e w ε' J he) he rfl rfl ?_))
   have s:=dV.2 ⟨nv,s.ae [4,4]⟩
   dsimp only [bringA,getA,bf] at s
   exact ((s.del 7).del 6).del 5
  ·dsimp only [bringA,getA,bf] at s
   have IM:=J.l9 fF
   have sR:=cu J.cr hw
   have hlen:=J.len fF
   refine zk 10 rfl (zh rfl (af rfl rfl aG) (rfl) ?_)
   have s:=s.gu
   have s:=s.ae [5,5,1,1,1,1,1,1,1,0]
   dsimp only [bringA,getA,bf] at s
   rcases oB (n:=n) (fun _ _=>aX.c5 _ _) (s.ae [1]) nK bI qR with ⟨g1,g2,_⟩ | ⟨nw,b',g1,_,g2,s2⟩
   ·rw [hb] at g1; cases g1
   rw [hb] at g1
   have:=bB g1
   subst this
   refine zk 7 rfl (zf rfl (pU _ _) (zl rfl (s.ld (k:=0) rfl mI rfl) (zm rfl (zo rfl (iD rfl rfl g2) ?_))))
   obtain ⟨dv,s⟩:=b5.1 (s2.ae [3])
   dsimp only [bringA,getA,bf] at s
   have s:=s.ae [4]
   dsimp only [bringA,getA,bf] at s
   refine zk 6 rfl (zf rfl (ou _ _) (zl rfl (s.ld (k:=0) rfl xF rfl) (zn rfl (zf rfl (nk _ _) (zl rfl (s.ld (k:=1) rfl rz rfl) (zm rfl (zc rfl (Uy (n:=n) hT (s.ae [5])) ?_)))))))
   rintro v h ⟨rfl,s⟩
   dsimp only [bringA,getA,bf] at s
   refine zk 10 rfl ?_
   cases hd:(lookL n ε'.1.br).isSome with
   | true =>
    refine zK 6 rfl (zc rfl (Mt hT (u:=u) (v:=nw) (pg:=n) (s.ae [11,4]) (fe _ _) (fe _ _) hlen ED) ?_)
    rintro rv h ⟨UL,c,hc,kQ,s⟩
    dsimp only [bringA,getA,bf] at s
    obtain ⟨i1,jk,iE,tY⟩:=AV
    have YA:cs.length=acc.length*4:=by
     obtain ⟨a,b,q1,q2,q3⟩:=s.at (k:=12) rfl
     exact qb q3
    have aax:UL.length=c.length*4:=by
     obtain ⟨a,b,q1,q2,q3⟩:=s.at (k:=1) rfl
     exact qb q3
    obtain ⟨qW,h2,qF,s2⟩:=g_ (s.ae [11,0]) jW jk tT iE (by omega) rfl (by decide) (by omega)
    dsimp only [bringA,getA,bf] at s2
    refine az.any rfl rfl rfl (OpR.of (R:=fun v h'=>v=qW∧h'=h2) (mH rfl rfl qF) ⟨rfl,rfl⟩) ?_
    rintro v' h' ⟨rfl,rfl⟩
    refine za rfl (zv (zr rfl (zb rfl (by exact bg (aB (by omega) (by omega))) ?_)))
    refine zm rfl (zv ?_)
    have s3:Sat _ (dN cs acc::dN UL c::_):=s2.ae [12,2]
    have s4:=s3.two (C:=dN (cs++UL) (acc++c)) (aX.pq _ _) (aX.pq _ _) fun a b q1 q2=>AO q1 q2
    dsimp only [bringA,getA,bf] at s4
    have s5:=b5.2 ⟨dv,s4.ae [7,7]⟩
    dsimp only [bringA,getA,bf] at s5
    have s6:=dV.2 ⟨nv,s5.ae [7,7]⟩
    dsimp only [bringA,getA,bf] at s6
    have s7:=(((s6.ae [3,2,0,0,3,3,3,3]).del 10).del 9).del 8
    dsimp only [bringA,getA,bf] at s7
    refine ih (i+1) (acc++c) _ _ ε' _ _ Q (by omega) IM sR (by simp; omega) s7 ⟨rfl,rfl,rfl,rfl,rfl,aa⟩ (fun e c' I E' h' ht he l2 l3 s' => ?_) (fun c' I E' h' O1 w8 ht hl jl s' => ?_)
    ·exact hr e _ I E' h' (.part n _ ε w b ε' c e c' I J hb hd hc kQ ht) he l2 l3 s'
    ·refine hx (c++c') I E' h' O1 w8 (.part n _ ε w b ε' c 0 c' I J hb hd hc kQ ht) (by simp at hl ⊢; omega) jl ?_
     rw [←gS]
     exact s'
   | false =>
    refine zK 5 rfl (zc rfl (oW hT (s.ae [4]) (fe _ _) (by omega)) ?_)
    intro cw h s
    dsimp only [bringA,getA,bf] at s
    obtain ⟨wid,_,O2,_,rfl,_⟩:=s.fB (by omega)
    have s:=s.gu
    refine zo rfl (dA rfl (by rw [JN]; rfl)) ?_
    obtain ⟨rv,h1,tj,s1⟩:=lE (P:=Tryz.prog) (k:=4) (x:=.agg [.int .i64 n,.int .i64 0,.bool true,.sl wid 0 b.length O2]) s jW tT zP rfl (by decide) (by decide) rfl rfl
    dsimp only [V.cells] at s1
    refine az.any rfl rfl rfl (OpR.of (R:=fun v h'=>v=rv∧h'=h1) (mD rfl tj) ⟨rfl,rfl⟩) ?_
    rintro v' h' ⟨rfl,rfl⟩
    obtain ⟨i1,jk,iE,tY⟩:=AV
    have YA:cs.length=acc.length*4:=by
     obtain ⟨a,b,q1,q2,q3⟩:=s1.at (k:=11) rfl
     exact qb q3
    obtain ⟨qW,h2,qF,s2⟩:=g_ (s1.ae [10,0]) jW jk tT iE (by omega) rfl (by decide) (by simp only [aH,bM]; omega)
    dsimp only [bringA,getA,bf] at s2
    refine az.any rfl rfl rfl (OpR.of (R:=fun v h'=>v=qW∧h'=h2) (mH rfl rfl qF) ⟨rfl,rfl⟩) ?_
    rintro v' h' ⟨rfl,rfl⟩
    refine za rfl (zv (zr rfl (zb rfl (by exact bg (aB (by omega) (by omega))) ?_)))
    refine zm rfl (zv ?_)
    have s3:Sat _ (dN cs acc::.c5 (.sl wid 0 b.length O2) b::_):=s2.ae [11,2]
    have s4:=s3.two (C:=dN (cs++[.int .i64 n,.int .i64 0,.bool true,.sl wid 0 b.length O2]) (acc++[⟨n,0,true,b⟩])) (aX.pq _ _) (aX.c5 _ _) fun a b q1 q2=>AO q1 ⟨⟨⟨rfl,rfl,rfl⟩,q2⟩,aa⟩
    have s5:=b5.2 ⟨dv,s4.ae [6,6]⟩
    have s6:=dV.2 ⟨nv,s5.ae [6,6]⟩
    have s7:=(((s6.ae [3,2,0,0,2,2,2,2]).del 10).del 9).del 8
    dsimp only [bringA,getA,bf] at s7
    refine ih (i+1) (acc++[⟨n,0,true,b⟩]) _ _ ε' _ _ Q (by omega) IM sR (by simp; omega) s7 ⟨rfl,rfl,rfl,rfl,rfl,aa⟩ (fun e c' I E' h' ht he l2 l3 s' => ?_) (fun c' I E' h' O1 w8 ht hl jl s' => ?_)
    ·exact hr e _ I E' h' (.whole n _ ε w b ε' e c' I J hb hd ht) he l2 l3 s'
    ·refine hx (⟨n,0,true,b⟩::c') I E' h' O1 w8 (.whole n _ ε w b ε' 0 c' I J hb hd ht) (by simp at hl ⊢; omega) jl ?_
     rw [gS] at s'
     exact s'
theorem Kf (hT:W told)(s:Sat h (fh g a now bX::dx a p q r op data aO::cK r p q ε.1::bx q p ε.2.1::aL p ε.2.2::S))(fF:iR ε)(hw:cr ε≤268435456)(I:∀e∈now,e.2.length=512)(hm:now.length≤65536)(hk:∀n∈now.map (·.1),(Lit.int .i64 n).wf=true):
  Call ⟨Tryz.prog,told⟩ 58 [.ptr g 0] h fun v h'=>∃e c ε',kG now (bw now) ε e c ε' ∧
   ((e≠0∧v=.aY [.bu,.int .i64 e]∧Sat h' (fh g a now bX::dx a p q r op data aO::cK r p q ε'.1::bx q p ε'.2.1::aL p ε'.2.2::S)) ∨
    (e=0∧c.length≤33554432∧∃av cs,v=.aY [av,.int .i64 0]∧Sat h' (.arr 4 av cs::dN cs c::fh g a now bX::dx a p q r op data aO::cK r p q ε'.1::bx q p ε'.2.1::aL p ε'.2.2::S))):=by
 have hl:(bw now).length=now.length:=by rw [bw,(e_ _).length_eq,dF]
 refine Call.of_wp (hT.free _ rfl) Tryz.func58 rfl rfl (zK 13 rfl (zc rfl (Mu hT s (by omega) hk) ?_))
 intro kv h s
 refine zo rfl (aT rfl rfl rfl (s.eY (n:=(bw now).length) (j:=0) rfl (by simp [eT]) (by decide) cM)) ?_
 refine zk 2 rfl (WP.block ?_)
 have s1:=(((s.gr aa).nI (k:=4)).iU fun a b q=>q).ae [0,0,1,1,1,1,1,0]
 refine Gb hT (ks:=bw now) (now:=now) (by omega) (fun n hn => ?_) I (bw now).length 0 [] .bu [] ε _ _ _ (by omega) fF hw (by simp) s1 ⟨rfl,rfl,rfl,rfl,rfl,aa⟩ (fun e c ε' E' h' J he l2 l3 s' => ?_) (fun c ε' E' h' av cs J kQ jl s' => ?_)
 ·have:n∈now.map (·.1):=(e_ _).mem_iff.1 hn
  cases hq:lookL n now with
  | some _=>rfl
  | none=>exact absurd this (kC.1 hq)
 ·rw [eP] at J
  exact ⟨aa,_,O0 l2 l3,e,c,ε',J,.inl ⟨he,rfl,s'⟩⟩
 ·rw [eP] at J
  have s:=s'
  exact WP.has jl (zK 6 rfl (WP.ret ⟨aa,_,rfl,0,c,ε',J,.inr ⟨rfl,by simp at kQ; omega,_,_,rfl,s⟩⟩))
end
end Go.Proofs.YtefepnnfphdkpaaGreat.Am
