/- AtomSame: a part of its proof; conditions: its statement's. -/
import Derived.Test.YtconhghphklfjaaGreatS23
import Derived.Test.YtconhghphklfjaaGreatS11
set_option linter.defProp false
namespace Go.Proofs.YtconhghphklfjaaGreat.Am
open Go
def yQ:=@Tryz.underlying127
def yR:=@Tryz.func75
structure oL (ε:aM): Prop where
 pl:ε.1.Ok
 lg:ε.2.1.Ok
 dk:ε.2.2.Ok
theorem P8 {ε:aM}{i:Nat}(h:ε.1.Ok): (outF ε i).2.1.Ok:=by
 unfold outF
 split
 ·exact h
 ·rename_i f J
  have hm:=bq J
  split
  ·exact h
  ·split
   ·exact h
   ·split
    ·exact h
    ·split
     ·exact h
     ·refine ⟨by simp only [dn]; exact h.hand,by simp only [dn]; exact h.many,fun e he=>by simp only [dn]; exact h.aH e he,fun g I => ?_,fun g I => ?_⟩
      ·rcases oR I with I | rfl
       ·exact h.len g I
       ·exact h.len f hm
      ·rcases oR I with I | rfl
       ·exact h.pins g I
       ·exact h.pins f hm
theorem q_ {ε:aM}{i:Nat}(h:oL ε): oL (outF ε i).2:=⟨P8 h.pl,P0 h.lg,Bv h.dk⟩
theorem A8 {δ:Dk}{n:Int}{b:List Nat}: (δ.bJ n b).2.waiting.length≤δ.waiting.length+1:=by
 unfold Dk.bJ
 split
 ·exact nI _
 ·split
  ·exact nI _
  ·split
   ·exact nI _
   ·exact Nat.le_of_eq (by simp [Dk.wr])
theorem NL {ε:aM}{i:Nat}: (outF ε i).2.2.2.waiting.length≤ε.2.2.waiting.length+1:=by
 unfold outF
 split
 ·exact nI _
 ·rename_i f J
  split
  ·exact nI _
  ·split
   ·exact nI _
   ·split
    ·exact Nat.le_succ_of_le (Nat.le_of_eq (by rw [kH]))
    ·have I:=A8 (δ:=(bB ε.2 (eM f.b 4 8)).2.2) (n:=f.aK) (b:=f.b)
     rw [kH] at I
     split <;> exact I
theorem I0 {ε:aM}{n:Int}(h:oL ε): oL (ee ε n).2:=by
 unfold ee
 split
 ·exact h
 ·exact q_ h
theorem G7 {ε:aM}{n:Int}: (ee ε n).2.2.2.waiting.length≤ε.2.2.waiting.length+1:=by
 unfold ee
 split
 ·exact nI _
 ·exact NL
def writeAllF : List Int→aM→Int×aM
 | [],ε=>(0,ε)
 | n::l,ε=>if (ee ε n).1≠0 then ee ε n else writeAllF l (ee ε n).2
section
variable {told:dF} {h:H} {S:List ax} {X:ax} {r k q p bV:Nat} {v x wh di:V} {l b:List Nat} {π:Pl} {m:List Fm} {μ:Lg} {δ:Dk}
noncomputable def waL : Code:=cJ [1,0,1,0,0] ((Tryz.f38.body).getD .skip)
theorem Fy (hT:W told){ks:List Int}{kv:V}(NM:ks.length≤1048576): ∀(j i:Nat) (ε:aM) (h:H) (E:List (Nat×V)) (Q:Ex→List (Nat×V)→H→Prop),i+j=ks.length→oL ε→ε.2.2.waiting.length+j≤268435456 →
  Sat h (bZ r p q ε.1::bf q p ε.2.1::aC p ε.2.2::.arr 1 kv (eG ks)::S)→Has E [(0,.ptr r 0),(11,kv),(12,.int .i64 ks.length),(13,.int .i64 i)] →
  ((writeAllF (ks.drop i) ε).1≠0→∀E' h',look E' 2=some (.int .i64 (writeAllF (ks.drop i) ε).1)→Sat h' (bZ r p q (writeAllF (ks.drop i) ε).2.1::bf q p (writeAllF (ks.drop i) ε).2.2.1::aC p (writeAllF (ks.drop i) ε).2.2.2::S)→Q .ret E' h') →
  ((writeAllF (ks.drop i) ε).1=0→∀E' h',Sat h' (bZ r p q (writeAllF (ks.drop i) ε).2.1::bf q p (writeAllF (ks.drop i) ε).2.2.1::aC p (writeAllF (ks.drop i) ε).2.2.2::S)→Q (.exit 0) E' h') →
  WP ⟨Tryz.prog,told⟩ 24 (.loop waL) E h Q:=by
 intro j
 induction j with
 | zero =>
  intro i ε h E Q hi I hw s hE J U
  refine WP.loop (WP.has hE (zg rfl (zh rfl (ag rfl rfl bx) (by simp <;> omega) ?_)))
  refine zk 3 rfl (WP.exit ?_)
  rw [ig (by omega)] at U
  exact U rfl _ _ (s.del 3)
 | succ j ih =>
  intro i ε h E Q hi I hw s hE J U
  have hn:ks[i]?=some (ks[i]'(by omega)):=bg _
  generalize (ks[i]'(by omega))=n at hn
  have hc:(eG ks)[i]?=some (.int .i64 n):=by simp [eG,hn]
  have lQ:ks.drop i=n::ks.drop (i+1):=by
   obtain ⟨h1,rfl⟩:=List.getElem?_eq_some_iff.1 hn
   exact kM h1
  rw [lQ] at J U
  obtain ⟨id,off,e1,e2⟩:=kR (P:=Tryz.prog) s (k:=3) rfl hc eu jK
  have ZR:=I0 (n:=n) I
  have J6:=G7 (ε:=ε) (n:=n)
  refine WP.loop (WP.has hE (zg rfl (zt rfl (ag rfl rfl bx) (by simp <;> omega) ?_)))
  refine zk 5 rfl (WP.block (zg rfl (zo rfl (dG (r:=.ptr id off) rfl rfl e1) (zl rfl (e2 _ c7) (zk 6 rfl (zc rfl (NH (n:=n) hT s I.pl I.lg I.dk (by omega)) ?_))))))
  rintro v h ⟨rfl,s⟩
  simp only [writeAllF] at J U
  refine zk 5 rfl ?_
  by_cases he:(ee ε n).1=0
  ·skip
   refine zh rfl (ag rfl rfl aX) (by simp; exact he) ?_
   refine zv (zj rfl (WP.skip (zr rfl (zb rfl (by exact bO (aT (by omega) (by omega))) ?_))))
   refine zm rfl (zv ?_)
   rw [af (by simpa using he)] at J U
   exact ih (i+1) (ee ε n).2 h _ Q (by omega) ZR (by omega) s ⟨rfl,rfl,rfl,rfl,aa⟩ J U
  ·skip
   refine zt rfl (ag rfl rfl aX) (by simp; exact he) ?_
   refine zk 7 rfl (WP.ret ?_)
   rw [aj he] at J
   exact J he _ _ rfl (s.del 3)
theorem A9 (I:W told)(s:Sat h (bZ r p q π::bf q p μ::aC p δ::S))(J:oL (π,μ,δ))(hw:δ.waiting.length+π.aH.length≤268435456)(hm:π.aH.length≤1048576)(hk:∀n∈π.aH.map (·.1),(Lit.int .i64 n).wf=true):
  Call ⟨Tryz.prog,told⟩ 38 [.ptr r 0] h fun v h'=>v=.int .i64 (writeAllF (aJ π.aH) (π,μ,δ)).1 ∧
   Sat h' (bZ r p q (writeAllF (aJ π.aH) (π,μ,δ)).2.1::bf q p (writeAllF (aJ π.aH) (π,μ,δ)).2.2.1::aC p (writeAllF (aJ π.aH) (π,μ,δ)).2.2.2::S):=by
 obtain ⟨bV,wh,di,s⟩:=c9.1 s
 obtain ⟨wid,rfl⟩:=yE s (j:=2) rfl
 have hl:(aJ π.aH).length=π.aH.length:=by rw [aJ,(er _).length_eq,d_]
 refine Call.of_wp (I.free _ rfl) Tryz.func38 rfl rfl (zK 9 rfl (zf rfl (qW _ _) (zl rfl (s.ld (k:=0) rfl wL rfl) (zc rfl (P5 I s) ?_))))
 rintro v h ⟨b,rfl,s⟩
 refine zc rfl (pP I (s.ae [0,2]) (by decide) hm hk) ?_
 intro kv h s
 refine zo rfl (a_ rfl rfl rfl (s.iH (n:=(aJ π.aH).length) (j:=0) rfl (by simp [eG]) (by decide) eu)) ?_
 refine zk 2 rfl (WP.block ?_)
 have s:=c9.2 ⟨bV,.map wid,di,s.ae [3,3,2,2]⟩
 have s:=(s.del 2).ae [0,1,1,0]
 refine Fy I (ks:=aJ π.aH) (by omega) (aJ π.aH).length 0 (π,μ,δ) _ _ _ (by omega) J (by simp only; omega) s ⟨rfl,rfl,rfl,rfl,aa⟩ (fun he E' h' U s' => ?_) (fun he E' h' s' => ?_)
 ·rw [dS] at U s'
  exact ⟨aa,_,oF U,rfl,s'⟩
 ·rw [dS] at he s'
  rw [he]
  exact WP.has (F:=[]) aa (zK 4 rfl (WP.ret ⟨aa,_,rfl,rfl,s'⟩))
end
def dirtC (π:Pl): List Int→List V
 | []=>[]
 | n::l=>.int .i64 n::.int .u64 (dW π n 0:Nat)::dirtC π l
theorem yS (π:Pl): ∀l:List Int,(dirtC π l).length=l.length*2:=by
 intro l
 induction l with
 | nil=>rfl
 | cons n l I=>simp only [dirtC,bj,I]; omega
theorem NN (π:Pl): ∀l m:List Int,dirtC π (l++m)=dirtC π l++dirtC π m:=by
 intro l m
 induction l with
 | nil=>rfl
 | cons n l I=>simp only [fg,dirtC,I]
theorem EX : ∃i,Tryz.prog.info? 130=some i∧i.size=2∧i.bytes=16 :=
 ⟨_,(show Tryz.prog.info? 130=some ((Tryz.prog.info? 130).getD default) by kernel_rfl),by kernel_rfl,by kernel_rfl⟩
section
variable {told:dF} {h:H} {S:List ax} {X:ax} {r k q p bV:Nat} {v x wh di:V} {l b:List Nat} {π:Pl} {m:List Fm} {μ:Lg} {δ:Dk}
noncomputable def diL : Code:=cJ [1,1,0,1,0,0] ((Tryz.f66.body).getD .skip)
theorem LA (hT:W told){ks:List Int}{kv:V}(NM:ks.length≤1048576): ∀(j i:Nat) (U:V) (h:H) (E:List (Nat×V)) (Q:Ex→List (Nat×V)→H→Prop),i+j=ks.length →
  Sat h (.arr 2 U (dirtC π (ks.take i))::bZ r p q π::.arr 1 kv (eG ks)::S)→Has E [(0,.ptr r 0),(3,U),(17,kv),(18,.int .i64 ks.length),(19,.int .i64 i)] →
  (∀I E' h',look E' 3=some I→Sat h' (.arr 2 I (dirtC π ks)::bZ r p q π::S)→Q (.exit 0) E' h') →
  WP ⟨Tryz.prog,told⟩ 37 (.loop diL) E h Q:=by
 intro j
 induction j with
 | zero =>
  intro i U h E Q hi s hE hx
  refine WP.loop (WP.has hE (zg rfl (zh rfl (ag rfl rfl bx) (by simp <;> omega) ?_)))
  refine zk 3 rfl (WP.exit ?_)
  rw [fI (by omega)] at s
  exact hx _ _ _ rfl (s.del 2)
 | succ j ih =>
  intro i U h E Q hi s hE hx
  have hn:ks[i]?=some (ks[i]'(by omega)):=bg _
  generalize (ks[i]'(by omega))=n at hn
  have hc:(eG ks)[i]?=some (.int .i64 n):=by simp [eG,hn]
  have J:ks.take (i+1)=ks.take i++[n]:=by rw [zT,hn]; rfl
  obtain ⟨id,off,e1,e2⟩:=kR (P:=Tryz.prog) s (k:=2) rfl hc eu jK
  refine WP.loop (WP.has hE (zg rfl (zt rfl (ag rfl rfl bx) (by simp <;> omega) ?_)))
  refine zk 5 rfl (WP.block (zg rfl (zo rfl (dG (r:=.ptr id off) rfl rfl e1) (zl rfl (e2 _ c7) ?_))))
  obtain ⟨bV,wh,di,s⟩:=c9.1 (s.ae [1])
  dsimp only [bringA,getA,aU] at s
  refine zk 7 rfl (zf rfl (mW _ _) (zl rfl (s.ld (k:=0) rfl rF rfl) (zm rfl ?_)))
  have hlk:eY Tryz.prog h 138 di (.int .i64 n) false=some (.agg [.int .u64 (dW π n 0:Nat),.bool (match lookL n π.aQ with | some x=>x.2 | none=>false)]):=by
   rcases D7 (n:=n) (s.ae [3]) with ⟨g1,_,g2⟩ | ⟨x,g1,_,g2⟩
   ·rw [g2]; simp only [dW,g1]; rfl
   ·rw [g2]; simp only [dW,g1]
  refine zo rfl (gG rfl rfl hlk) (zo rfl (Rw rfl (Rx (JT _) rfl)) (zo rfl (cX rfl (by rw [WS]; rfl)) ?_))
  obtain ⟨rv,h1,yT,s1⟩:=nN (P:=Tryz.prog) (x:=.agg [.int .i64 n,.int .u64 (dW π n 0:Nat)]) s yQ FL Ld rfl (by decide) (by decide) rfl rfl
  dsimp only [V.cells] at s1
  refine aB.any rfl rfl rfl (OpR.of (R:=fun v h'=>v=rv∧h'=h1) (p_ rfl yT) ⟨rfl,rfl⟩) ?_
  rintro v h' ⟨rfl,rfl⟩
  obtain ⟨i1,lp,jL,sn⟩:=EX
  have fc:(ks.take i).length≤1048576:=by simp; omega
  obtain ⟨I,h2,um,s2⟩:=jo (s1.ae [5,0]) yQ lp FL jL (by omega) rfl (by decide) (by simp only [yS,bj,bY]; omega)
  dsimp only [bringA,getA,aU] at s2
  refine aB.any rfl rfl rfl (OpR.of (R:=fun v h'=>v=I∧h'=h2) (oB rfl rfl um) ⟨rfl,rfl⟩) ?_
  rintro v h' ⟨rfl,rfl⟩
  refine za rfl (zv (zr rfl (zb rfl (by exact bO (aT (by omega) (by omega))) ?_)))
  refine zm rfl (zv ?_)
  have s3:=c9.2 ⟨bV,wh,di,s2.ae [2,2,2,2]⟩
  have s4:=(s3.del 2).ae [1,0,0]
  refine ih (i+1) _ _ _ _ (by omega) ?_ ⟨rfl,rfl,rfl,rfl,rfl,aa⟩ hx
  rw [J,NN]
  exact s4
theorem P9 (I:W told)(s:Sat h (bZ r p q π::S))(hm:π.aQ.length≤1048576)(hk:∀n∈π.aQ.map (·.1),(Lit.int .i64 n).wf=true):
  Call ⟨Tryz.prog,told⟩ 66 [.ptr r 0] h fun v h'=>Sat h' (.arr 2 v (dirtC π (aJ π.aQ))::bZ r p q π::S):=by
 obtain ⟨bV,wh,di,s⟩:=c9.1 s
 obtain ⟨J,rfl⟩:=yE s (j:=3) rfl
 have hl:(aJ π.aQ).length=π.aQ.length:=by rw [aJ,(er _).length_eq,d_]
 refine Call.of_wp (I.free _ rfl) Tryz.func66 rfl rfl (zK 8 rfl (zf rfl (mW _ _) (zl rfl (s.ld (k:=0) rfl rF rfl) (zo rfl (a_ rfl rfl rfl (Bp (s.ae [3]) qh)) ?_))))
 obtain ⟨i1,U,jL,sn⟩:=EX
 obtain ⟨av,h1,e1,s1⟩:=rP (P:=Tryz.prog) s yQ U FL jL (by omega) rfl (by decide) (by decide) (n:=0) (c:=π.aQ.length) (by omega) (by omega)
 dsimp only [repeatL] at s1
 refine aB.any rfl rfl rfl (OpR.of (R:=fun v h'=>v=av∧h'=h1) (pZ rfl rfl e1) ⟨rfl,rfl⟩) ?_
 rintro v h' ⟨rfl,rfl⟩
 have s:=s1
 refine zk 7 rfl (zf rfl (mW _ _) (zl rfl (s.ld (k:=1) rfl rF rfl) (zc rfl (P6 I s) ?_)))
 rintro v h ⟨b,rfl,s⟩
 refine zc rfl (pP I (s.ae [0,4]) (by decide) hm hk) ?_
 intro kv h s
 refine zo rfl (a_ rfl rfl rfl (s.iH (n:=(aJ π.aQ).length) (j:=0) rfl (by simp [eG]) (by decide) eu)) ?_
 refine zk 2 rfl (WP.block ?_)
 have s:=c9.2 ⟨bV,wh,.map J,s.ae [4,4,4,2]⟩
 have s:=(s.del 2).ae [2,0,0]
 refine LA I (π:=π) (ks:=aJ π.aQ) (by omega) (aJ π.aQ).length 0 _ _ _ _ (by omega) s ⟨rfl,rfl,rfl,rfl,rfl,aa⟩ (fun J7 E' h' h2 s' => ?_)
 exact WP.has (F:=[(3,J7)]) ⟨h2,aa⟩ (zK 5 rfl (WP.ret ⟨aa,_,rfl,s'⟩))
end
def G8 (ay:Nat)(Q:Ex→List (Nat×V)→H→Prop)(c:Ctx)(a:Act)(w:World)(e:Exit)(U:Act)(w':World): Prop :=
 ∃ex I h' E',e=exOf ex∧kD I E'∧Q ex E' h'∧U.defers=a.defers∧∃J,Rel J h' w'∧eZ J I ay U∧dD c w J w'
def ew (C:dw)(ay:Nat)(code:Code)(E:List (Nat×V))(h:H)(Q:Ex→List (Nat×V)→H→Prop): Prop :=
 ∀(c:Ctx) (a:Act) (w:World) (env:Env),kD env E→Rel c h w→eZ c env ay a→code.wpIn (Fr none) 0 C.P (G8 ay Q c a w) a w
section
variable {C:dw} {ay:Nat} {E:List (Nat×V)} {h:H} {Q Q':Ex→List (Nat×V)→H→Prop} {a b:Code}
theorem G8.trans {c c₁:Ctx}{A I a':Act}{w J w':World}{e:Exit}(hd:I.defers=A.defers)(hs:dD c w c₁ J)(ho:G8 ay Q c₁ I J e a' w'): G8 ay Q c A w e a' w':=by
 obtain ⟨ex,U,h',E',h1,h2,h3,h4,c',h5,h6,h7⟩:=ho
 exact ⟨ex,U,h',E',h1,h2,h3,h4.trans hd,c',h5,h6,hs.trans h7⟩
theorem ew.of (hm:C.P.follows .mixedOrders=true)(J:gT C)(hw:WP C ay a E h Q): ew C ay a E h Q:=by
 intro c A w env U hr he
 obtain ⟨N,ex,I,h',E',h1,h2,h3⟩:=hw env U
 refine wpIn_mono ((Gn hm J N).1 _ _ _ _ h1 none c A w hr he) ?_
 rintro e a' w' ⟨rfl,h4,c',h5,h6,h7⟩
 exact ⟨ex,I,h',E',rfl,h2,h3,h4,c',h5,h6,h7⟩
theorem ew.mono (hw:ew C ay a E h Q)(J:∀ex E' h',Q ex E' h'→Q' ex E' h'): ew C ay a E h Q':=by
 intro c A w env U hr he
 refine wpIn_mono (hw c A w env U hr he) ?_
 rintro e a' w' ⟨ex,I,h',E',h1,h2,h3,h4⟩
 exact ⟨ex,I,h',E',h1,h2,J _ _ _ h3,h4⟩
theorem ew.seq (hw:ew C ay a E h fun ex E' h'=>match ex with
  | .normal=>ew C ay b E' h' Q
  | ex=>Q ex E' h'): ew C ay (.seq a b) E h Q:=by
 intro c A w env hE hr he
 refine wpIn_seq (wpIn_mono (hw c A w env hE hr he) ?_)
 rintro e J U ⟨ex,I,h',E',rfl,h2,h3,h4,c₁,h5,h6,h7⟩
 cases ex with
 | normal=>exact wpIn_mono (h3 c₁ J U I h2 h5 h6) fun e a' w' ho=>ho.trans h4 h7
 | exit i=>exact ⟨_,I,h',E',rfl,h2,h3,h4,c₁,h5,h6,h7⟩
 | ret=>exact ⟨_,I,h',E',rfl,h2,h3,h4,c₁,h5,h6,h7⟩
theorem ew.cond {x:Operand}{t:Bool}(J:lookO E x=some (.bool t))(hw:ew C ay (_root_.cond t a b) E h Q): ew C ay (.cond x a b) E h Q:=by
 intro c A w env I U he
 obtain ⟨e1,_⟩:=F0 he (bN I J)
 refine wpIn_cond (t:=t) (by rw [e1]; rfl) ?_
 have:=hw c A w env I U he
 cases t <;> simpa using this
theorem ew.block {i:Nat}(hw:ew C ay b E h fun ex E' h'=>match ex with
  | .exit j=>_root_.cond (Nat.beq j i) (Q .normal E' h') (Q (.exit j) E' h')
  | ex=>Q ex E' h'): ew C ay (.block i b) E h Q:=by
 intro c A w env hE hr he
 refine wpIn_block (wpIn_mono (hw c A w env hE hr he) ?_)
 rintro e My Ge ⟨ex,I,h',E',rfl,U,J,h4,c₁,h5,h6,h7⟩
 cases ex with
 | normal=>simp only [exOf,Exit.inBlock]; exact ⟨.normal,I,h',E',rfl,U,J,h4,c₁,h5,h6,h7⟩
 | exit j =>
  by_cases hj:j=i
  ·simp only [gR hj,ah] at J
   simp only [exOf,Exit.inBlock,hj,bQ]
   exact ⟨.normal,I,h',E',rfl,U,J,h4,c₁,h5,h6,h7⟩
  ·simp only [cN hj,az] at J
   simp only [exOf,Exit.inBlock,hj,bK]
   exact ⟨.exit j,I,h',E',rfl,U,J,h4,c₁,h5,h6,h7⟩
 | ret=>simp only [exOf,Exit.inBlock]; exact ⟨.ret,I,h',E',rfl,U,J,h4,c₁,h5,h6,h7⟩
theorem ew.loop (J:Nat→List (Nat×V)→H→Prop)(hJ:∀j E h,J j E h→ew C ay b E h fun ex E' h'=>match ex with
  | .normal=>∃i,i<j∧J i E' h'
  | ex=>Q ex E' h'){j:Nat}(h0:J j E h): ew C ay (.loop b) E h Q:=by
 have key:∀m j E h,j<m→J j E h→∀(c:Ctx) (A:Act) (w:World) (env:Env) (R:Exit→Act→World→Prop),kD env E→Rel c h w→eZ c env ay A →
   (∀e a' w',G8 ay Q c A w e a' w'→R e a' w')→Code.roundsIn (Fr none) 0 C.P b R m A w:=by
  intro m
  induction m with
  | zero=>intro j E h hj; omega
  | succ m ih =>
   intro j E h hj hJj c A w env R hE hr he hR
   rw [roundsIn_succ]
   refine wpIn_mono (hJ j E h hJj c A w env hE hr he) ?_
   rintro e U Ge ⟨ex,I,h',E',rfl,h2,h3,h4,c₁,h5,h6,h7⟩
   cases ex with
   | normal =>
    obtain ⟨i,hi,h3⟩:=h3
    exact ih i E' h' (by omega) h3 c₁ U Ge I R h2 h5 h6 fun e a' w' ho=>hR _ _ _ (ho.trans h4 h7)
   | exit i=>exact hR _ _ _ ⟨_,I,h',E',rfl,h2,h3,h4,c₁,h5,h6,h7⟩
   | ret=>exact hR _ _ _ ⟨_,I,h',E',rfl,h2,h3,h4,c₁,h5,h6,h7⟩
 intro c A w env hE hr he
 exact wpIn_loop_rounds (j+1) (key (j+1) j E h (by omega) h0 c A w env _ hE hr he fun _ _ _ ho=>ho)
theorem NO {α β:Type}{f:α→Option (List β)}{p:β→Prop}: ∀ {L:List α},(∀q∈L,∃s,f q=some [s]∧p s)→∃R,flatM f L=some R∧∀s∈R,p s:=by
 intro L
 induction L with
 | nil=>intro _; exact ⟨[],rfl,fun s hs=>by cases hs⟩
 | cons q L U =>
  intro J
  obtain ⟨R,h1,h2⟩:=U fun q I=>J q (bl _ I)
  obtain ⟨s,e1,e2⟩:=J q bp
  refine ⟨s::R,?_,fun s' hs => ?_⟩
  ·simp only [flatM,e1,h1,fg,cU]
  ·rcases List.mem_cons.1 hs with rfl | hs
   ·exact e2
   ·exact h2 s' hs
theorem ew.next {id:Nat}{I J:Oper}{x y:Operand}{r U P_:Nat}{L:List (V×H)}(hm:C.P.follows .mixedOrders=true)(hT:gT C)(aa3:I.guard=none)(ZS:J.guard=none)(ZT:I.op=.next x false)(aa4:I.dst=some U)
 (Vy:J.op=.extract y 0)(hy:y=.tmp U)(aa5:J.dst=some P_)(T4:Nat.blt U ay=true)(WA:Nat.blt P_ ay=true)(hx:lookO E x=some (.ptr r 0))(hL:nextAll h r=some L)
 (hq:∀q∈L,∃t l,q.1=.bD (t::l)∧Q .normal ((P_,t)::(U,q.1)::E) q.2): ew C ay (.region id #[I,J] false) E h Q:=by
 intro c A w env hE hr he
 subst hy
 have hS:=(Gn (C:=C) hm hT 0).1
 refine wpIn_region ?_
 rw [List.range_eq_range',←Dh]
 have mM:∃R,opsAll C (ev C 0) (#[I,J]:Array Oper).toList (#[I,J]:Array Oper).toList ⟨env,ay,h⟩=some R∧∀s∈R,∃E',kD s.env E'∧s.ay=ay∧Q .normal E' s.h:=by
  have e1:∀KR:Env,wantedV [I,J] KR I=true:=fun KR=>by simp only [wantedV,aa3]
  have e2:∀KR:Env,wantedV [I,J] KR J=true:=fun KR=>by simp only [wantedV,ZS]
  have lY:=bN hE hx
  simp only [opsAll,e1,e2,ah,opAll,ZT,lY,dc,hL]
  refine NO fun q tP => ?_
  obtain ⟨t,l,k1,k2⟩:=hq q tP
  refine ⟨⟨(env.set U (some q.1)).set P_ (some t),ay,q.2⟩,?_,_,(hE.set U q.1).set P_ t,rfl,k2⟩
  have hg:evO (T.set env U (some (V.bD (t::l)))) (.tmp U)=some (.bD (t::l)):=by simp only [evO,Env.v,aZ,bQ]
  simp only [St.put,aa4,T4,ah,Vy,evOp,k1,hg,nth,dc,bu,aa5,WA,flatM,bT]
 obtain ⟨R,mM,h2⟩:=mM
 refine MU hS hT _ 0 ⟨env,ay,h⟩ R c A w (fun j=>by rw [dU,jF]) mM hr he ?_
 intro s' Ev c' a' w' r1 r2 r3 r4
 obtain ⟨E',e1,e2,e3⟩:=h2 s' Ev
 exact ⟨.normal,s'.env,s'.h,E',rfl,e1,e3,r4,c',r1,by rw [e2] at r2; exact r2,r3⟩
theorem fO.CG {f:FuncId}{fn:Func}{code:Code}{args:List V}{v:V}{U:H}(hf:C.P.funcs[f]?=some fn)(hb:fn.body=some code)(hn:args.length≤fn.ntmps)
 (hw:ew C fn.ntmps code (argE args 0) h fun ex E' h'=>(match ex with | .exit _=>False | _=>True)∧jl C.P E' h' fn.results.toList=some v∧U.next=h'.next∧∀id o,T.get U.tr id=some o→T.get h'.tr id=some o)
 {c:Ctx}{w:World}(hr:Rel c h w)(ha:∀x∈args,wf c x): fO C.P f args c w v U:=by
 have Bh:=pW (c:=c) hn ha
 have Uo:=hw c _ w _ (Aj args) hr Bh
 unfold fO
 refine calls_of_wp hf hb (wpIn_wide.1 (wpIn_mono Uo ?_))
 rintro e a' w' ⟨ex,Vz,h',E',rfl,gq,⟨hx,I,EU,hle⟩,hd,c',r1,r2,r3⟩
 have fin:a'.defers=[]∧∃x,(results fn a'.tmps).run C.P w'=.ok x w'∧∃pX,Ending.returned x=.returned (conc pX v)∧wf pX v∧Rel pX U w'∧dD c w pX w':=by
  refine ⟨hd,?_⟩
  unfold jl at I
  cases MF:mapO (resE C.P E' h') fn.results.toList with
  | none=>simp [MF] at I
  | some vs =>
   rw [MF] at I
   have Nf:=DN (P:=C.P) (s:=⟨Vz,fn.ntmps,h'⟩) gq MF
   obtain ⟨t1,t2⟩:=sA (s:=⟨Vz,fn.ntmps,h'⟩) r1 r2 Nf
   refine ⟨_,t1,c',?_⟩
   have J:=r1.WJ EU hle
   match vs,I with
   | [],I =>
    simp at I
    subst I
    refine ⟨?_,by simp [wf,fN],J,r3⟩
    simp [conc,concL]
   | [x],I =>
    simp at I
    subst I
    exact ⟨by simp,t2 _ (by simp),J,r3⟩
   | x::y::l,I =>
    simp at I
    subst I
    refine ⟨?_,by simp only [wf,iQ]; exact t2,J,r3⟩
    rw [dif_neg (by simp)]
    simp [conc,h_,concL]
 cases ex with
 | normal=>simpa [bodyPost,exOf] using fin
 | exit i=>exact hx.elim
 | ret=>simpa [bodyPost,exOf] using fin
end
end Go.Proofs.YtconhghphklfjaaGreat.Am
namespace Go.Proofs.YtconhghphklfjaaGreat.Am
open Go
theorem mh (l:List Nat)(b x:Nat): inL (l++[b]) x=(inL l x||Nat.beq b x):=by
 induction l with
 | nil=>simp only [cU,inL,sY]; cases Nat.beq b x <;> rfl
 | cons y l I=>simp only [fg,inL,I]; cases Nat.beq y x <;> simp
theorem EY {seen:List Nat}: ∀ {l:List (V×V×Nat)} {e:V×V×Nat},e∈leftV seen l→e∈l∧inL seen e.2.2=false:=by
 intro l
 induction l with
 | nil=>intro e h; cases h
 | cons y l I =>
  intro e h
  simp only [leftV] at h
  cases J:inL seen y.2.2 with
  | true=>rw [J,ah] at h; exact ⟨bl _ (I h).1,(I h).2⟩
  | false =>
   rw [J,az] at h
   rcases List.mem_cons.1 h with rfl | h
   ·exact ⟨bp,J⟩
   ·exact ⟨bl _ (I h).1,(I h).2⟩
theorem NP {seen:List Nat}: ∀ {l:List (V×V×Nat)},leftV seen l=[]→∀e∈l,inL seen e.2.2=true:=by
 intro l
 induction l with
 | nil=>intro _ e he; cases he
 | cons y l J =>
  intro h e he
  simp only [leftV] at h
  cases I:inL seen y.2.2 with
  | false=>rw [I,az] at h; cases h
  | true =>
   rw [I,ah] at h
   rcases List.mem_cons.1 he with rfl | he
   ·exact I
   ·exact J h e he
theorem G9 {seen:List Nat}{b:Nat}: ∀ {l:List (V×V×Nat)},(leftV (seen++[b]) l).length≤(leftV seen l).length:=by
 intro l
 induction l with
 | nil=>exact aL _
 | cons y l I =>
  simp only [leftV,mh]
  cases inL seen y.2.2 <;> cases Nat.beq b y.2.2 <;> simp <;> omega
theorem Qa {seen:List Nat}: ∀ {l:List (V×V×Nat)} {e:V×V×Nat},e∈leftV seen l→(leftV (seen++[e.2.2]) l).length<(leftV seen l).length:=by
 intro l
 induction l with
 | nil=>intro e h; cases h
 | cons y l J =>
  intro e h
  simp only [leftV] at h
  cases I:inL seen y.2.2 with
  | true =>
   rw [I,ah] at h
   simp only [leftV,mh,I,Bool.true_or,ah]
   exact J h
  | false =>
   rw [I,az] at h
   simp only [leftV,mh,I,sY,az]
   rcases List.mem_cons.1 h with rfl | h
   ·rw [dc,ah]
    have:=G9 (seen:=seen) (b:=e.2.2) (l:=l)
    simp; omega
   ·cases Nat.beq e.2.2 y.2.2
    ·simp only [az,bj]; have:=J h; omega
    ·simp only [ah,bj]; have:=G9 (seen:=seen) (b:=e.2.2) (l:=l); omega
theorem NQ {c:Nat}: ∀ {l:bW} {b:Nat},eS c b l→tH c (l.map ei)=true:=by
 intro l
 induction l with
 | nil=>intro b _; rfl
 | cons e l I =>
  intro b h
  simp only [bH,ei,tH]
  rw [iP.2 h.2.1,ah]
  exact I h.2.2
theorem I1 {c:Nat}: ∀ {l:bW} {b:Nat},eS c b l→bornRise b (l.map ei)=true:=by
 intro l
 induction l with
 | nil=>intro b _; rfl
 | cons e l I =>
  intro b h
  simp only [bH,ei,bornRise]
  rw [aO.2 h.1,ah]
  exact I h.2.2
theorem oM {c:Nat}: ∀ {l:bW} {b:Nat},eS c b l→∀e∈l,b≤e.2.2:=by
 intro l
 induction l with
 | nil=>intro b _ e he; cases he
 | cons y l I =>
  intro b h e he
  rcases List.mem_cons.1 he with rfl | he
  ·exact h.1
  ·have:=I h.2.2 e he; have:=h.1; omega
theorem qm {c:Nat}: ∀ {l:bW} {b:Nat} {e:Int×V×Nat},eS c b l→e∈l→tf e.2.2 (l.map ei)=some (ei e):=by
 intro l
 induction l with
 | nil=>intro b e _ he; cases he
 | cons y l I =>
  intro b e h he
  simp only [bH,tf]
  rcases List.mem_cons.1 he with rfl | he
  ·show cond (Nat.beq e.2.2 e.2.2) _ _=_
   rw [dc,ah]
  ·have:=oM h.2.2 e he
   show cond (Nat.beq y.2.2 e.2.2) _ _=_
   rw [cN (by omega),az]
   exact I h.2.2 he
theorem NR : ∀(l:List Nat) (b:Nat),lastN (l++[b])=some b:=by
 intro l b
 induction l with
 | nil=>rfl
 | cons x l I =>
  cases l with
  | nil=>rfl
  | cons y l=>simpa [lastN] using I
section
variable {h:H} {r mid since clock b:Nat} {seen:List Nat} {es:bW}
theorem G_ {e:Int×V×Nat}(J:T.get h.tr r=some (.iter mid since clock (seen++[e.2.2])))(hm:T.get h.tr mid=some (.map (es.map ei) clock))(I:eS clock 0 es)(he:e∈es):
  vD h (.ptr r 0)=some (.bD [.int .i64 e.1,e.2.1]):=by
 simp only [vD,dc,ah,J,hm,I1 I,iq,NR,qm I he]
 rfl
theorem next_at (I:T.get h.tr r=some (.iter mid since clock seen))(hs:since≤clock)(hm:T.get h.tr mid=some (.map (es.map ei) clock))(J:eS since 0 es):
  nextAll h r=some (match leftV seen (es.map ei) with
   | []=>[(.bD [.bool false],h)]
   | l=>l.map fun e=>(.bD [.bool true,e.1,e.2.1],h.put r (some (.iter mid since clock (seen++[e.2.2]))))):=by
 simp only [nextAll,I,hm,NQ J,aO.2 hs,iq,ah]
 cases leftV seen (es.map ei) <;> rfl
theorem He {L:List (V×H)}(hg:T.get h.tr r=some (.iter mid since clock seen))(hs:since≤clock)(hm:T.get h.tr mid=some (.map (es.map ei) clock))(hb:eS since 0 es)(hL:nextAll h r=some L):
  ∀q∈L,(q=(.bD [.bool false],h)∧∀e∈es,inL seen e.2.2=true) ∨
   ∃e∈es,inL seen e.2.2=false∧(leftV (seen++[e.2.2]) (es.map ei)).length<(leftV seen (es.map ei)).length∧q=(.bD [.bool true,.int .i64 e.1,e.2.1],h.put r (some (.iter mid since clock (seen++[e.2.2])))):=by
 rw [next_at hg hs hm hb] at hL
 simp only [au] at hL
 subst hL
 intro q U
 cases J:leftV seen (es.map ei) with
 | nil =>
  rw [J] at U
  refine .inl ⟨List.mem_singleton.1 U,fun e he => ?_⟩
  exact NP J (ei e) (iX he)
 | cons y l =>
  rw [J] at U
  obtain ⟨e',I,rfl⟩:=List.mem_map.1 U
  rw [←J] at I
  obtain ⟨h1,h2⟩:=EY I
  obtain ⟨e,he,rfl⟩:=List.mem_map.1 h1
  have h3:=Qa I
  rw [J] at h3
  exact .inr ⟨e,he,h2,h3,rfl⟩
end
open Classical in
noncomputable def nq (P:Program)(f:FuncId)(iU:List V→H→V×H→Prop)(args:List V)(h:H): Option (V×H) :=
 if I:∃r,iU args h r∧∀(c:Ctx) (w:World),Rel c h w→(∀x∈args,wf c x)→fO P f args c w r.1 r.2 then some I.choose else none
theorem yU {P : Program} {f : FuncId} {iU : List V → H → V × H → Prop} (J : ∃ fn, P.funcs[f]? = some fn ∧ fn.body.isSome = true ∧ (fn.name == "runtime.NumGoroutine") = false) : DG P f (nq P f iU) := by
 refine .inl ⟨J, fun args σ v U I c w h hw => ?_⟩
 unfold nq at I
 split at I
 ·rename_i hx
  have := hx.choose_spec.2 c w h hw
  injection I with I
  rw [I] at this
  exact this
 ·cases I
theorem yV {P:Program}{f:FuncId}{iU:List V→H→V×H→Prop}{args:List V}{h:H}{r:V×H}(J:iU args h r)(U:∀(c:Ctx) (w:World),Rel c h w→(∀x∈args,wf c x)→fO P f args c w r.1 r.2):
  ∃r,nq P f iU args h=some r∧iU args h r:=by
 have I:∃r,iU args h r∧∀(c:Ctx) (w:World),Rel c h w→(∀x∈args,wf c x)→fO P f args c w r.1 r.2:=⟨r,J,U⟩
 refine ⟨I.choose,?_,I.choose_spec.1⟩
 unfold nq
 rw [dif_pos I]
noncomputable def CH (f:Nat): Option (List V→H→Option (V×H)) :=
 cond (Nat.beq f 50) (some (toldSorted Au)) (cond (Nat.beq f 119) (some toldMore) none)
noncomputable abbrev CB : dw:=⟨Tryz.prog,CH⟩
theorem gY : Tryz.prog.follows .mixedOrders=true:=by kernel_rfl
theorem fu : gT CB:=by
 intro f g I
 simp only [CB,CH] at I ⊢
 by_cases h1:f=50
 ·subst h1
  rw [gR rfl,ah] at I
  simp only [au] at I
  subst I
  exact .inl ⟨⟨_,Tryz.func50,rfl,by decide⟩,fun args σ v J U c w h _=>Fw bE Nj U h⟩
 ·rw [cN h1,az] at I
  by_cases h2:f=119
  ·subst h2
   rw [gR rfl,ah] at I
   simp only [au] at I
   subst I
   exact .inl ⟨⟨_,B4,rfl,by decide⟩,fun args σ v J U c w h hw=>IN (C:=CB) rfl gY U h hw⟩
  ·rw [cN h2,az] at I
   cases I
theorem W.base : W CH:=by
 refine ⟨fun f I => ?_,rfl,rfl⟩
 have J:f≠50:=fun e=>by subst e; revert I; decide
 have U:f≠119:=fun e=>by subst e; revert I; decide
 simp only [CH,cN J,cN U,az]
theorem gU.det {C:dw}{f:FuncId}{args:List V}{h:H}{v v':V}{h₁ I:H}(a:gU C f args h v h₁)(b:gU C f args h v' I): v=v'∧h₁=I:=by
 obtain ⟨N,U⟩:=a
 obtain ⟨M,hM⟩:=b
 have e1:=sC (fZ (oZ N M)) U
 have J:=sC (fZ (oX N M)) hM
 rw [e1] at J
 simp only [au,aN] at J
 exact J
section
variable {P:Program} {h:H} {S:List ax} {k id off n:Nat} {cs:List V} {st:Bool} {v:V} {t:TypeId}
theorem Sat.VA (s:Sat h S)(U:getA S k=some (pt id (.cells n cs false)))(hs:bF P t=some 1)(hl:cs.length=n)(ho:off<n)(hv:v.cells=[v])(I:storable v=true):
  gP P h t (.ptr id off) v=some (h.put id (some (.cells n (cs.set off v) false))):=by
 simp only [gP,hs,hv,bj,bY,iZ,jH,I,Bool.and_true]
 rw [show Nat.beq (0+1) 1=true from rfl,ah]
 simp only [wrN,s.row U,bj,bY]
 rw [aO.2 (show off+(0+1)≤n by omega),ah]
 congr 3
 rw [Ju,aj (by omega)]
 cases J:(Nat.beq off 0&&Nat.beq (0+1) n) with
 | true =>
  simp only [aY,beq_iff] at J
  obtain ⟨rfl,hn⟩:=J
  rw [ah]
  have:cs.drop (0+1)=[]:=ig (by omega)
  simp [this]
 | false=>rw [az]; rfl
end
theorem OpR.entry {C:dw}{E:List (Nat×V)}{h:H}{o:Oper}{x:Operand}{v r:V}(I:o.op=.entry x)(J:lookO E x=some v)(U:vD h v=some r): OpR C E h o fun w h'=>w=r∧h'=h :=
 ⟨r,h,⟨rfl,rfl⟩,fun env hE=>⟨0,by simp only [evOp,I,bN hE J,U,bu]⟩⟩
theorem OpR.range {C:dw}{E:List (Nat×V)}{h:H}{o:Oper}{x:Operand}{t:TypeId}{v r:V}{h₁:H}(I:o.op=.range t x)(J:lookO E x=some v)(U:rangeV C.P h t v=some (r,h₁)): OpR C E h o fun w h'=>w=r∧h'=h₁ :=
 ⟨r,h₁,⟨rfl,rfl⟩,fun env hE=>⟨0,by simp only [evOp,I,bN hE J,U]⟩⟩
def doneRow (seen:List Nat): bW→List V→List V
 | [],row=>row
 | e::l,row=>doneRow seen l (cond (inL seen e.2.2) (row.set e.1.toNat e.2.1) row)
def nr : bW→List V→List V
 | [],row=>row
 | e::l,row=>nr l (row.set e.1.toNat e.2.1)
theorem I2 {seen:List Nat}: ∀ {l:bW} {row:List V},(∀e∈l,inL seen e.2.2=true)→doneRow seen l row=nr l row:=by
 intro l
 induction l with
 | nil=>intro row _; rfl
 | cons e l J =>
  intro row h
  simp only [doneRow,nr,h e bp,ah]
  exact J fun U I=>h U (bl _ I)
theorem I3 : ∀ {l:bW} {row:List V},doneRow [] l row=row:=by
 intro l
 induction l with
 | nil=>intro row; rfl
 | cons e l I=>intro row; simp only [doneRow,inL,az]; exact I
theorem I4 {seen:List Nat}: ∀ {l:bW} {row:List V},(doneRow seen l row).length=row.length:=by
 intro l
 induction l with
 | nil=>intro row; rfl
 | cons e l I=>intro row; simp only [doneRow]; rw [I]; cases inL seen e.2.2 <;> simp
theorem I5 {seen:List Nat}{i:Nat}{v:V}: ∀ {l:bW} {row:List V},(∀e∈l,e.1.toNat≠i)→doneRow seen l (row.set i v)=(doneRow seen l row).set i v:=by
 intro l
 induction l with
 | nil=>intro row _; rfl
 | cons e l U =>
  intro row h
  simp only [doneRow]
  have h1:=h e bp
  cases inL seen e.2.2 with
  | true=>rw [ah,ah,List.set_comm _ _ (jb h1)]; exact U fun J I=>h J (bl _ I)
  | false=>exact U fun J I=>h J (bl _ I)
theorem Fz {seen:List Nat}{b:Nat}: ∀ {l:bW} {row:List V},(∀e∈l,e.2.2≠b)→doneRow (seen++[b]) l row=doneRow seen l row:=by
 intro l
 induction l with
 | nil=>intro row _; rfl
 | cons e l J =>
  intro row h
  simp only [doneRow,mh,cN (jb (h e bp)),qK]
  exact J fun U I=>h U (bl _ I)
theorem Hf {seen:List Nat}{c:Nat}: ∀ {l:bW} {b:Nat} {row:List V} {e:Int×V×Nat},eS c b l→(l.map fun e=>e.1.toNat).Nodup→e∈l→inL seen e.2.2=false →
  doneRow (seen++[e.2.2]) l row=(doneRow seen l row).set e.1.toNat e.2.1:=by
 intro l
 induction l with
 | nil=>intro b row e _ _ he; cases he
 | cons y l ih =>
  intro b row e J U he hs
  simp only [bH,lU] at U
  rcases List.mem_cons.1 he with rfl | he
  ·simp only [doneRow,mh,hs,dc,Bool.or_true,ah,az]
   rw [Fz fun e' I=>by have:=oM J.2.2 e' I; omega]
   exact I5 fun e' I hq=>U.1 (hq ▸ iX (f:=fun e:Int×V×Nat=>e.1.toNat) I)
  ·have:=oM J.2.2 e he
   simp only [doneRow,mh,cN (show e.2.2≠y.2.2 by omega),qK]
   exact ih J.2.2 U.2 he hs
def laidP : List (Int×List Nat)→List (Option (List Nat))→List (Option (List Nat))
 | [],m=>m
 | e::l,m=>laidP l (m.set e.1.toNat (some e.2))
theorem nt : ∀ {l:List (Int×List Nat)} {m:List (Option (List Nat))},(laidP l m).length=m.length:=by
 intro l
 induction l with
 | nil=>intro row; rfl
 | cons e l I=>intro row; simp only [laidP]; rw [I]; simp
theorem I6 {a b:PM}: ∀ {es:bW} {m:List (Int×List Nat)} {row:List V} {pg:List (Option (List Nat))},(en (fun v x=>.ct v x) es m).p a b→(∀e∈m,e.2≠[])→(each k_ row pg).p a b→(each k_ (nr es row) (laidP m pg)).p a b:=by
 intro es
 induction es with
 | nil=>intro m row pg h _ hr; cases m with
  | nil=>exact hr
  | cons x m=>exact h.elim
 | cons e es ih=>intro m row pg h I hr; cases m with
  | nil=>exact h.elim
  | cons x m =>
   obtain ⟨⟨h1,h2⟩,h3⟩:=h
   simp only [nr,laidP]
   have hk:e.1=x.1:=h1
   refine ih h3 (fun e he=>I e (bl _ he)) ?_
   rw [hk]
   refine Br hr ⟨?_,h2⟩
   rintro hv
   have J:g9 b e.2.1 x.2:=h2
   rw [hv] at J
   rcases J.2 with ⟨_,U⟩ | U
   ·exact I x bp U
   ·obtain ⟨_,_,_,_,_,_,U,_⟩:=U
    cases U
def Dk.sync (δ:Dk): Dk:={ δ with aq:=laidP δ.now δ.aq,waiting:=[],now:=[] }
section
variable {told:dF} {h:H} {S:List ax} {X:ax} {r k q p bV:Nat} {v x wh di:V} {l b:List Nat} {π:Pl} {m:List Fm} {μ:Lg} {δ:Dk}
noncomputable def CI (h:H)(p:Nat)(cs:List V)(I N:Nat)(row:List V)(mid:Nat)(es:bW)(clock:Nat): H :=
 ((((h.new (.iter mid clock clock [])).put I (some (.cells N (nr es row) false))).put p (some (.cells 12 (cs.set 2 .bA) false))).put mid (some (.map [] clock))).put h.next none
def D9 (args:List V)(h:H)(r:V×H): Prop:=∃p cs,args=[.ptr p 0]∧T.get h.tr p=some (.cells 12 cs false) ∧
 ((nth cs 9=some (.bool true)∧r=(.int .i64 9,h))∨(nth cs 9=some (.bool false)∧∃v1 I,gU CB 118 [.ptr p 0] h v1 I ∧
  ((v1=.bool false∧r=(.int .i64 9,I))∨(v1=.bool true∧∃cs J N row mid es clock,T.get I.tr p=some (.cells 12 cs false)∧nth cs 1=some (.sl J 0 N (.exact N))∧nth cs 3=some (.map mid) ∧
   T.get I.tr J=some (.cells N row false)∧T.get I.tr mid=some (.map (es.map ei) clock)∧r=(.int .i64 0,CI I p cs J N row mid es clock)))))
structure D_ (h h':H)(X:List Nat): Prop where
 next:h'.next=h.next
 get:∀i,i∉X→T.get h'.tr i=T.get h.tr i
theorem D_.put {h h':H}{X:List Nat}(s:D_ h h' X){i:Nat}{o:Option Obj}(hi:i∈X): D_ h (h'.put i o) X :=
 ⟨s.next,fun j I=>by rw [b9,af (fun (e:j=i)=>I (e ▸ hi))]; exact s.get j I⟩
theorem yW {α:Type}{f:V→α→ax}{a b:PM}: ∀ {l:bW} {m:List (Int×α)},(en f l m).p a b→∀e∈l,∃x,(e.1,x)∈m∧(f e.2.1 x).p a b:=by
 intro l
 induction l with
 | nil=>intro m _ e he; cases he
 | cons y l I=>intro m h e he; cases m with
  | nil=>exact h.elim
  | cons x m =>
   obtain ⟨⟨J,U⟩,h3⟩:=h
   rcases List.mem_cons.1 he with rfl | he
   ·exact ⟨x.2,by rw [show e.1=x.1 from J]; exact bp,U⟩
   ·obtain ⟨z,k1,k2⟩:=I h3 e he
    exact ⟨z,bl _ k1,k2⟩
noncomputable def syA : Code:=cJ [0] ((Tryz.f75.body).getD .skip)
noncomputable def syB : Code:=cJ [1,0] ((Tryz.f75.body).getD .skip)
noncomputable def syC : Code:=cJ [1,1,0,0] ((Tryz.f75.body).getD .skip)
noncomputable def VB : Code:=cJ [1,1,0,1,0,0,0] ((Tryz.f75.body).getD .skip)
noncomputable def Yw : Code:=cJ [1,1,0,1,0,0,1,1,0] ((Tryz.f75.body).getD .skip)
noncomputable def syE : Code:=cJ [1,1,1] ((Tryz.f75.body).getD .skip)
theorem Bw : Tryz.f75.body=some (.seq syA (.seq syB (.seq (.seq syC (.block 0 (.loop (.seq VB (.seq (.cond (.tmp 20) .skip (.exit 0)) (.block 1 Yw)))))) syE))):=rfl
theorem Ti : ∃id I J,VB=.region id #[I,J] false∧I.guard=none∧J.guard=none∧I.op=.next (.tmp 18) false∧I.dst=some 19∧J.op=.extract (.tmp 19) 0∧J.dst=some 20:=⟨_,_,_,rfl,rfl,rfl,rfl,rfl,rfl,rfl⟩
def Yx (h₀:H)(p it I N mid clock:Nat)(cs row:List V)(es:bW)(S:List ax)(j:Nat)(E:List (Nat×V))(h:H): Prop :=
 ∃seen,Has E [(0,.ptr p 0),(18,.ptr it 0)]∧j=(leftV seen (es.map ei)).length∧D_ h₀ h [it,I] ∧
  Sat h (pt it (.iter mid clock clock seen)::pt p (.cells 12 cs false)::pt I (.cells N (doneRow seen es row) false)::fo mid es clock::S)
theorem NS {h₀:H}{it I N mid clock:Nat}{cs row:List V}{es:bW}(xH:nth cs 1=some (.sl I 0 N (.exact N)))(hl:row.length=N)(U:eS clock 0 es)(hn:(es.map fun e=>e.1.toNat).Nodup)
 (hk:∀e∈es,0≤e.1∧e.1<N)(hv:∀e∈es,e.2.1.cells=[e.2.1]∧storable e.2.1=true){j:Nat}{E:List (Nat×V)}(h0:Yx h₀ p it I N mid clock cs row es S j E h):
  ew CB 38 (.loop (.seq VB (.seq (.cond (.tmp 20) .skip (.exit 0)) (.block 1 Yw)))) E h fun ex E' h'=>ex=.exit 0∧Has E' [(0,.ptr p 0)]∧D_ h₀ h' [it,I] ∧
   ∃seen,Sat h' (pt it (.iter mid clock clock seen)::pt p (.cells 12 cs false)::pt I (.cells N (nr es row) false)::fo mid es clock::S):=by
 refine ew.loop (Yx h₀ p it I N mid clock cs row es S) ?_ h0
 rintro j E h ⟨seen,hE,rfl,hs,s⟩
 have g1:=s.row (k:=0) rfl
 have g2:=s.row (k:=3) rfl
 obtain ⟨id,OZ,Su,q0,q1,q2,q3,q4,q5,q6⟩:=Ti
 refine ew.seq ?_
 rw [q0]
 have hL:=next_at g1 (aL _) g2 U
 refine ew.next gY fu q1 q2 q3 q4 q5 rfl q6 rfl rfl (r:=it) ?_ hL fun q hq => ?_
 ·exact hE.2.1
 ·rcases He g1 (aL _) g2 U hL q hq with ⟨rfl,J⟩ | ⟨e,he,R2,bX,rfl⟩
  ·refine ⟨.bool false,[],rfl,?_⟩
   refine ew.seq (ew.cond (t:=false) rfl ?_)
   refine ew.of gY fu (WP.exit ?_)
   refine ⟨rfl,⟨hE.1,aa⟩,hs,seen,?_⟩
   rw [←I2 J]
   exact s
  ·refine ⟨.bool true,_,rfl,?_⟩
   refine ew.seq (ew.cond (t:=true) rfl ?_)
   refine ew.of gY fu (WP.skip ?_)
   refine ew.block (ew.of gY fu ?_)
   have s:=s.put (o':=.iter mid clock clock (seen++[e.2.2])) (k:=0) rfl
   have hs:=hs.put (i:=it) (o:=some (.iter mid clock clock (seen++[e.2.2]))) bp
   generalize h.put it (some (.iter mid clock clock (seen++[e.2.2])))=h' at s hs
   have g1:=s.row (k:=0) rfl
   have g2:=s.row (k:=3) rfl
   refine WP.has (F:=[(0,.ptr p 0),(18,.ptr it 0),(20,.bool true)]) ⟨hE.1,hE.2.1,rfl,aa⟩ (zg rfl (aB.any rfl rfl rfl (OpR.entry rfl rfl (G_ g1 g2 U he)) ?_))
   rintro v h ⟨rfl,rfl⟩
   refine zk 8 rfl (zf rfl (mV _ _) (zl rfl (s.ld (k:=1) rfl rE xH) (zk 2 rfl ?_)))
   obtain ⟨k1,k2⟩:=hk e he
   refine zo rfl (dG (r:=.ptr I e.1.toNat) rfl rfl (by rw [RC,show (decide (0≤e.1)&&decide (e.1<(N:Int)))=true by simp; omega,ah]; simp)) ?_
   have e1:=s.VA (P:=Tryz.prog) (k:=2) (t:=32) (off:=e.1.toNat) rfl jy (by rw [I4]; exact hl) (by omega) (hv e he).1 (hv e he).2
   have s1:=s.put (o':=.cells N ((doneRow seen es row).set e.1.toNat e.2.1) false) (k:=2) rfl
   refine aB.Rq rfl rfl (vM rfl rfl e1) (zv ?_)
   refine ⟨_,bX,seen++[e.2.2],⟨rfl,rfl,aa⟩,rfl,hs.put (by simp),?_⟩
   rw [Hf U hn he R2]
   exact s1
theorem Qb {h₁ h':H}{p I N mid clock:Nat}{cs row:List V}{es:bW}(hs:D_ (h₁.new (.iter mid clock clock [])) h' [h₁.next,I])(hi:T.get h'.tr I=some (.cells N (nr es row) false))(hp:p≠I)(hm:mid≠I):
  (CI h₁ p cs I N row mid es clock).next=((h'.put p (some (.cells 12 (cs.set 2 .bA) false))).put mid (some (.map [] clock))).next ∧
  ∀id o,T.get (CI h₁ p cs I N row mid es clock).tr id=some o→T.get ((h'.put p (some (.cells 12 (cs.set 2 .bA) false))).put mid (some (.map [] clock))).tr id=some o:=by
 refine ⟨hs.next.symm,fun id o ho => ?_⟩
 unfold CI at ho
 rw [b9] at ho
 by_cases U:id=h₁.next
 ·rw [aj U] at ho; cases ho
 ·rw [af U,b9] at ho
  rw [b9]
  by_cases h2:id=mid
  ·rw [aj h2] at ho ⊢; exact ho
  ·rw [af h2,b9] at ho
   rw [af h2,b9]
   by_cases h3:id=p
   ·rw [aj h3] at ho ⊢; exact ho
   ·rw [af h3,b9] at ho
    rw [af h3]
    by_cases J:id=I
    ·rw [aj J] at ho; rw [J,hi]; exact ho
    ·rw [af J] at ho
     rw [hs.get id (by simp [U,J])]
     exact ho
theorem Qc {P:Program}{mid c:Nat}{es:List (V×V×Nat)}{t kt et:TypeId}(I:T.get h.tr mid=some (.map es c))(hu:P.underlying t=some (.map kt et)):
  ∃v h₁,builtinV P h .clear #[t] [.map mid]=some (v,h₁)∧(fun (_:V) (h₁:H)=>h₁=h.put mid (some (.map [] c))) v h₁ :=
 ⟨cy,_,by simp only [builtinV,clearV,hu,I]; rfl,rfl⟩
theorem NT (s:Sat h (aC p δ::S))(sI:δ.Ok)(hk:∀e∈δ.now,0≤e.1∧e.1<δ.aq.length):
  ∃r,D9 [.ptr p 0] h r∧∀(c:Ctx) (w:World),Rel c h w→(∀x∈[V.ptr p 0],wf c x)→fO Tryz.prog 75 [.ptr p 0] c w r.1 r.2:=by
 obtain ⟨pg,wt,nw,lg,mk,tn,tl,ops,s1⟩:=br.1 s
 have gp:=s1.row (k:=0) rfl
 cases hd:δ.dead with
 | true =>
  refine ⟨(.int .i64 9,h),⟨p,_,rfl,gp,.inl ⟨by rw [hd]; rfl,rfl⟩⟩,fun c w hr ha => ?_⟩
  refine fO.CG (C:=CB) (args:=[.ptr p 0]) yR Bw (show 1≤Tryz.f75.ntmps by decide) ?_ hr ha
  refine ew.seq (ew.of gY fu ?_)
  have s:=s1
  refine zr rfl (za rfl (zv ?_))
  refine ew.seq (ew.of gY fu ?_)
  exact zK 4 rfl (zf rfl (je _ _) (zt rfl (aV rfl (s.ld (k:=0) rfl jV rfl)) (hd) (zk 11 rfl (WP.ret ⟨aa,oF rfl,rfl,fun _ _ h=>h⟩))))
 | false =>
  obtain ⟨v1,J,B3,hR⟩:=mA W.base s sI.aI
  have I:Call CB 118 [.ptr p 0] h (fun v' h'=>v'=v1∧h'=J):=⟨v1,J,B3,rfl,rfl⟩
  rcases hR with ⟨h0,rfl,s2⟩ | ⟨h0,rfl,s2⟩
  ·refine ⟨(.int .i64 9,J),⟨p,_,rfl,gp,.inr ⟨by rw [hd]; rfl,_,J,B3,.inl ⟨rfl,rfl⟩⟩⟩,fun c w hr ha => ?_⟩
   refine fO.CG (C:=CB) (args:=[.ptr p 0]) yR Bw (show 1≤Tryz.f75.ntmps by decide) ?_ hr ha
   refine ew.seq (ew.of gY fu ?_)
   have s:=s1
   refine zr rfl (za rfl (zv ?_))
   refine ew.seq (ew.of gY fu ?_)
   refine zK 4 rfl (zf rfl (je _ _) (zh rfl (aV rfl (s.ld (k:=0) rfl jV rfl)) (hd) (zk 2 rfl (zc rfl (I) ?_))))
   rintro v h ⟨rfl,rfl⟩
   exact zo rfl (dA rfl rfl) (zk 7 rfl (WP.ret ⟨aa,oF rfl,rfl,fun _ _ h=>h⟩))
  ·obtain ⟨pg,wt,nw,lg,mk,tn,tl,ops,s3⟩:=br.1 s2
   obtain ⟨im,row,rfl,s4⟩:=fV.1 (s3.ae [1])
   obtain ⟨mid,es,clock,rfl,hb,hn,s5⟩:=ep.1 (s4.ae [4])
   dsimp only [bringA,getA,aU] at s5
   have s6:=s5.ae [4,2,0,0,0,0]
   dsimp only [bringA,getA,aU] at s6
   have gp1:=s6.row (k:=0) rfl
   have gi:=s6.row (k:=1) rfl
   have gm:=s6.row (k:=2) rfl
   obtain ⟨a,b,_,_,q3⟩:=s6.at (k:=3) rfl
   obtain ⟨a',b',_,_,q4⟩:=s6.at (k:=4) rfl
   have tU:row.length=δ.c_.aq.length:=uf q4
   have O5:=sE q3
   have VC:∀e∈es,0≤e.1∧e.1<(δ.c_.aq.length:Int):=fun e he=>by
    obtain ⟨x,k1,_⟩:=yW q3 e he
    exact hk _ k1
   have gn:∀e∈es,e.2.1.cells=[e.2.1]∧storable e.2.1=true:=fun e he=>by
    obtain ⟨x,_,k2⟩:=yW q3 e he
    have k3:g9 b e.2.1 x:=k2
    rcases k3.2 with ⟨k4 | ⟨_,k4⟩,_⟩ | ⟨_,_,_,_,_,_,k4,_⟩
    ·rw [k4]; exact ⟨rfl,rfl⟩
    ·rw [k4]; exact ⟨rfl,rfl⟩
    ·rw [k4]; exact ⟨rfl,rfl⟩
   have m5:(es.map fun e=>e.1.toNat).Nodup:=by
    have J:(es.map (·.1)).Nodup:=by rw [O5]; exact hn
    rw [List.nodup_iff_pairwise_ne,List.pairwise_map] at J ⊢
    refine (List.pairwise_iff_forall_sublist.2 fun {x y} VD => ?_)
    have h2:=(List.pairwise_iff_forall_sublist.1 J) VD
    have hx:=(VC x (VD.subset bp)).1
    have hy:=(VC y (VD.subset (bl _ bp))).1
    omega
   refine ⟨(.int .i64 0,CI J p _ im δ.c_.aq.length row mid es clock),⟨p,_,rfl,gp,.inr ⟨by rw [hd]; rfl,_,J,B3,.inr ⟨rfl,_,im,_,row,mid,es,clock,gp1,rfl,rfl,gi,gm,rfl⟩⟩⟩,fun c w hr ha => ?_⟩
   refine fO.CG (C:=CB) (args:=[.ptr p 0]) yR Bw (show 1≤Tryz.f75.ntmps by decide) ?_ hr ha
   refine ew.seq (ew.of gY fu ?_)
   have s:=s1
   refine zr rfl (za rfl (zv ?_))
   refine ew.seq (ew.of gY fu ?_)
   refine zK 4 rfl (zf rfl (je _ _) (zh rfl (aV rfl (s.ld (k:=0) rfl jV rfl)) (hd) (zk 2 rfl (zc rfl (I) ?_))))
   rintro v h ⟨rfl,rfl⟩
   refine zo rfl (dA rfl rfl) (zp rfl (zv (zj rfl (WP.skip ?_))))
   refine ew.seq (ew.seq (ew.of gY fu ?_))
   have s:=s6
   refine zK 3 rfl (zf rfl (Ao _ _) (zl rfl (s.ld (k:=0) rfl l_ rfl) (aB.any rfl rfl rfl (OpR.range rfl rfl (show rangeV Tryz.prog h 86 (.map mid)=some (.ptr h.next 0,h.new (.iter mid clock clock [])) by simp only [rangeV,kZ,gm])) ?_)))
   rintro v h' ⟨rfl,rfl⟩
   refine zv ?_
   have s7:=s.new (.iter mid clock clock [])
   refine ew.block ((NS (row:=row) (es:=es) (S:=_) rfl tU hb m5 VC gn ⟨[],⟨rfl,rfl,aa⟩,rfl,⟨rfl,fun _ _=>rfl⟩,by rw [I3]; exact s7⟩).mono ?_)
   rintro ex E' h' ⟨rfl,gq,hs,seen,s⟩
   refine ew.of gY fu (WP.has gq ?_)
   have e1:=s.VA (P:=Tryz.prog) (k:=1) (t:=120) (off:=2) (v:=.bA) rfl RD rfl (by decide) rfl rfl
   have s8:=s.put (o':=.cells 12 (List.set (uN δ.c_.room (.sl im 0 δ.c_.aq.length (.exact δ.c_.aq.length)) wt (.map mid) lg δ.c_.aR mk δ.c_.aI ops δ.c_.dead tn tl) 2 .bA) false) (k:=1) rfl
   have fY:p≠im:=(s.ae [1,1]).ne
   have Hg:mid≠im:=(s.ae [3,2]).ne
   have gi:=s.row (k:=2) rfl
   have U:=Qb (p:=p) (cs:=(uN δ.c_.room (.sl im 0 δ.c_.aq.length (.exact δ.c_.aq.length)) wt (.map mid) lg δ.c_.aR mk δ.c_.aI ops δ.c_.dead tn tl)) hs gi fY Hg
   refine zK 4 rfl (zf rfl (tA _ _) (aB.Rq rfl rfl (vM rfl rfl e1) ?_))
   have s:=s8
   have gm8:=s.row (k:=3) rfl
   refine zk 5 rfl (zf rfl (Ao _ _) (zl rfl (s.ld (k:=1) rfl l_ rfl) (aB.gV rfl rfl (OpR.builtin rfl rfl rfl (Qc gm8 kZ)) ?_)))
   rintro v h'' rfl
   exact zk 5 rfl (WP.ret ⟨aa,oF rfl,U.1,U.2⟩)
end
end Go.Proofs.YtconhghphklfjaaGreat.Am
