/- AtomCuts: a part of its proof; conditions: its statement's. -/
import Derived.Test.YtconhghphklfjaaGreatC23
import Derived.Test.YtconhghphklfjaaGreatC11
set_option linter.defProp false
namespace Go.Proofs.YtconhghphklfjaaGreat.Am
open Go
def y9:=@Tryz.underlying127
def y_:=@Tryz.func75
structure oP (ε:aM): Prop where
 pl:ε.1.Ok
 lg:ε.2.1.Ok
 dk:ε.2.2.Ok
theorem Qy {ε:aM}{i:Nat}(h:ε.1.Ok): (outF ε i).2.1.Ok:=by
 unfold outF
 split
 ·exact h
 ·rename_i f J
  have hm:=br J
  split
  ·exact h
  ·split
   ·exact h
   ·split
    ·exact h
    ·split
     ·exact h
     ·refine ⟨by simp only [dw]; exact h.hand,by simp only [dw]; exact h.many,fun e he=>by simp only [dw]; exact h.aH e he,fun g I => ?_,fun g I => ?_⟩
      ·rcases oV I with I | rfl
       ·exact h.len g I
       ·exact h.len f hm
      ·rcases oV I with I | rfl
       ·exact h.pins g I
       ·exact h.pins f hm
theorem rD {ε:aM}{i:Nat}(h:oP ε): oP (outF ε i).2:=⟨Qy h.pl,Qs h.lg,BM h.dk⟩
theorem Bl {δ:Dk}{n:Int}{b:List Nat}: (δ.bI n b).2.waiting.length≤δ.waiting.length+1:=by
 unfold Dk.bI
 split
 ·exact mY _
 ·split
  ·exact mY _
  ·split
   ·exact mY _
   ·exact Nat.le_of_eq (by simp [Dk.wr])
theorem N9 {ε:aM}{i:Nat}: (outF ε i).2.2.2.waiting.length≤ε.2.2.waiting.length+1:=by
 unfold outF
 split
 ·exact mY _
 ·rename_i f J
  split
  ·exact mY _
  ·split
   ·exact mY _
   ·split
    ·exact Nat.le_succ_of_le (Nat.le_of_eq (by rw [kL]))
    ·have I:=Bl (δ:=(bC ε.2 (eR f.b 4 8)).2.2) (n:=f.aO) (b:=f.b)
     rw [kL] at I
     split <;> exact I
theorem Jg {ε:aM}{n:Int}(h:oP ε): oP (eo ε n).2:=by
 unfold eo
 split
 ·exact h
 ·exact rD h
theorem Hx {ε:aM}{n:Int}: (eo ε n).2.2.2.waiting.length≤ε.2.2.waiting.length+1:=by
 unfold eo
 split
 ·exact mY _
 ·exact N9
def writeAllF : List Int→aM→Int×aM
 | [],ε=>(0,ε)
 | n::l,ε=>if (eo ε n).1≠0 then eo ε n else writeAllF l (eo ε n).2
section
variable {told:dH} {h:H} {S:List ax} {X:ax} {r k q p bX:Nat} {v x wh di:V} {l b:List Nat} {π:Pl} {m:List Fm} {μ:Lg} {δ:Dk}
noncomputable def waL : Code:=cK [1,0,1,0,0] ((Tryz.f38.body).getD .skip)
theorem FR (hT:W told){ks:List Int}{kv:V}(N_:ks.length≤1048576): ∀(j i:Nat) (ε:aM) (h:H) (E:List (Nat×V)) (Q:Ex→List (Nat×V)→H→Prop),i+j=ks.length→oP ε→ε.2.2.waiting.length+j≤268435456 →
  Sat h (b8 r p q ε.1::bf q p ε.2.1::aD p ε.2.2::.arr 1 kv (eN ks)::S)→Has E [(0,.ptr r 0),(11,kv),(12,.int .i64 ks.length),(13,.int .i64 i)] →
  ((writeAllF (ks.drop i) ε).1≠0→∀E' h',look E' 2=some (.int .i64 (writeAllF (ks.drop i) ε).1)→Sat h' (b8 r p q (writeAllF (ks.drop i) ε).2.1::bf q p (writeAllF (ks.drop i) ε).2.2.1::aD p (writeAllF (ks.drop i) ε).2.2.2::S)→Q .ret E' h') →
  ((writeAllF (ks.drop i) ε).1=0→∀E' h',Sat h' (b8 r p q (writeAllF (ks.drop i) ε).2.1::bf q p (writeAllF (ks.drop i) ε).2.2.1::aD p (writeAllF (ks.drop i) ε).2.2.2::S)→Q (.exit 0) E' h') →
  WP ⟨Tryz.prog,told⟩ 24 (.loop waL) E h Q:=by
 intro j
 induction j with
 | zero =>
  intro i ε h E Q hi I hw s hE J U
  refine WP.loop (WP.has hE (zg rfl (zh rfl (ah rfl rfl bu) (by simp <;> omega) ?_)))
  refine zk 3 rfl (WP.exit ?_)
  rw [iu (by omega)] at U
  exact U rfl _ _ (s.del 3)
 | succ j ih =>
  intro i ε h E Q hi I hw s hE J U
  have hn:ks[i]?=some (ks[i]'(by omega)):=bh _
  generalize (ks[i]'(by omega))=n at hn
  have hc:(eN ks)[i]?=some (.int .i64 n):=by simp [eN,hn]
  have j8:ks.drop i=n::ks.drop (i+1):=by
   obtain ⟨h1,rfl⟩:=List.getElem?_eq_some_iff.1 hn
   exact kR h1
  rw [j8] at J U
  obtain ⟨id,off,e1,e2⟩:=kV (P:=Tryz.prog) s (k:=3) rfl hc eC jG
  have aau:=Jg (n:=n) I
  have Hy:=Hx (ε:=ε) (n:=n)
  refine WP.loop (WP.has hE (zg rfl (zt rfl (ah rfl rfl bu) (by simp <;> omega) ?_)))
  refine zk 5 rfl (WP.block (zg rfl (zo rfl (dY (r:=.ptr id off) rfl rfl e1) (zl rfl (e2 _ dr) (zk 6 rfl (zc rfl (N5 (n:=n) hT s I.pl I.lg I.dk (by omega)) ?_))))))
  rintro v h ⟨rfl,s⟩
  simp only [writeAllF] at J U
  refine zk 5 rfl ?_
  by_cases he:(eo ε n).1=0
  ·skip
   refine zh rfl (ah rfl rfl aX) (by simp; exact he) ?_
   refine zv (zj rfl (WP.skip (zr rfl (zb rfl (by exact bQ (aU (by omega) (by omega))) ?_))))
   refine zm rfl (zv ?_)
   rw [af (by simpa using he)] at J U
   exact ih (i+1) (eo ε n).2 h _ Q (by omega) aau (by omega) s ⟨rfl,rfl,rfl,rfl,aa⟩ J U
  ·skip
   refine zt rfl (ah rfl rfl aX) (by simp; exact he) ?_
   refine zk 7 rfl (WP.ret ?_)
   rw [aj he] at J
   exact J he _ _ rfl (s.del 3)
theorem Bn (I:W told)(s:Sat h (b8 r p q π::bf q p μ::aD p δ::S))(J:oP (π,μ,δ))(hw:δ.waiting.length+π.aH.length≤268435456)(hm:π.aH.length≤1048576)(hk:∀n∈π.aH.map (·.1),(Lit.int .i64 n).wf=true):
  Call ⟨Tryz.prog,told⟩ 38 [.ptr r 0] h fun v h'=>v=.int .i64 (writeAllF (aJ π.aH) (π,μ,δ)).1 ∧
   Sat h' (b8 r p q (writeAllF (aJ π.aH) (π,μ,δ)).2.1::bf q p (writeAllF (aJ π.aH) (π,μ,δ)).2.2.1::aD p (writeAllF (aJ π.aH) (π,μ,δ)).2.2.2::S):=by
 obtain ⟨bX,wh,di,s⟩:=dg.1 s
 obtain ⟨wid,rfl⟩:=yT s (j:=2) rfl
 have hl:(aJ π.aH).length=π.aH.length:=by rw [aJ,(eB _).length_eq,en]
 refine Call.of_wp (I.free _ rfl) Tryz.func38 rfl rfl (zK 9 rfl (zf rfl (rz _ _) (zl rfl (s.ld (k:=0) rfl w6 rfl) (zc rfl (Qv I s) ?_))))
 rintro v h ⟨b,rfl,s⟩
 refine zc rfl (pU I (s.ae [0,2]) (by decide) hm hk) ?_
 intro kv h s
 refine zo rfl (a_ rfl rfl rfl (s.iK (n:=(aJ π.aH).length) (j:=0) rfl (by simp [eN]) (by decide) eC)) ?_
 refine zk 2 rfl (WP.block ?_)
 have s:=dg.2 ⟨bX,.map wid,di,s.ae [3,3,2,2]⟩
 have s:=(s.del 2).ae [0,1,1,0]
 refine FR I (ks:=aJ π.aH) (by omega) (aJ π.aH).length 0 (π,μ,δ) _ _ _ (by omega) J (by simp only; omega) s ⟨rfl,rfl,rfl,rfl,aa⟩ (fun he E' h' U s' => ?_) (fun he E' h' s' => ?_)
 ·rw [dS] at U s'
  exact ⟨aa,_,oK U,rfl,s'⟩
 ·rw [dS] at he s'
  rw [he]
  exact WP.has (F:=[]) aa (zK 4 rfl (WP.ret ⟨aa,_,rfl,rfl,s'⟩))
end
def dirtC (π:Pl): List Int→List V
 | []=>[]
 | n::l=>.int .i64 n::.int .u64 (dW π n 0:Nat)::dirtC π l
theorem zu (π:Pl): ∀l:List Int,(dirtC π l).length=l.length*2:=by
 intro l
 induction l with
 | nil=>rfl
 | cons n l I=>simp only [dirtC,bj,I]; omega
theorem Oa (π:Pl): ∀l m:List Int,dirtC π (l++m)=dirtC π l++dirtC π m:=by
 intro l m
 induction l with
 | nil=>rfl
 | cons n l I=>simp only [fq,dirtC,I]
theorem Fl : ∃i,Tryz.prog.info? 130=some i∧i.size=2∧i.bytes=16 :=
 ⟨_,(show Tryz.prog.info? 130=some ((Tryz.prog.info? 130).getD default) by kernel_rfl),by kernel_rfl,by kernel_rfl⟩
section
variable {told:dH} {h:H} {S:List ax} {X:ax} {r k q p bX:Nat} {v x wh di:V} {l b:List Nat} {π:Pl} {m:List Fm} {μ:Lg} {δ:Dk}
noncomputable def diL : Code:=cK [1,1,0,1,0,0] ((Tryz.f66.body).getD .skip)
theorem LQ (hT:W told){ks:List Int}{kv:V}(N_:ks.length≤1048576): ∀(j i:Nat) (U:V) (h:H) (E:List (Nat×V)) (Q:Ex→List (Nat×V)→H→Prop),i+j=ks.length →
  Sat h (.arr 2 U (dirtC π (ks.take i))::b8 r p q π::.arr 1 kv (eN ks)::S)→Has E [(0,.ptr r 0),(3,U),(17,kv),(18,.int .i64 ks.length),(19,.int .i64 i)] →
  (∀I E' h',look E' 3=some I→Sat h' (.arr 2 I (dirtC π ks)::b8 r p q π::S)→Q (.exit 0) E' h') →
  WP ⟨Tryz.prog,told⟩ 37 (.loop diL) E h Q:=by
 intro j
 induction j with
 | zero =>
  intro i U h E Q hi s hE hx
  refine WP.loop (WP.has hE (zg rfl (zh rfl (ah rfl rfl bu) (by simp <;> omega) ?_)))
  refine zk 3 rfl (WP.exit ?_)
  rw [fL (by omega)] at s
  exact hx _ _ _ rfl (s.del 2)
 | succ j ih =>
  intro i U h E Q hi s hE hx
  have hn:ks[i]?=some (ks[i]'(by omega)):=bh _
  generalize (ks[i]'(by omega))=n at hn
  have hc:(eN ks)[i]?=some (.int .i64 n):=by simp [eN,hn]
  have J:ks.take (i+1)=ks.take i++[n]:=by rw [Ad,hn]; rfl
  obtain ⟨id,off,e1,e2⟩:=kV (P:=Tryz.prog) s (k:=2) rfl hc eC jG
  refine WP.loop (WP.has hE (zg rfl (zt rfl (ah rfl rfl bu) (by simp <;> omega) ?_)))
  refine zk 5 rfl (WP.block (zg rfl (zo rfl (dY (r:=.ptr id off) rfl rfl e1) (zl rfl (e2 _ dr) ?_))))
  obtain ⟨bX,wh,di,s⟩:=dg.1 (s.ae [1])
  dsimp only [bringA,getA,aT] at s
  refine zk 7 rfl (zf rfl (m5 _ _) (zl rfl (s.ld (k:=0) rfl rQ rfl) (zm rfl ?_)))
  have hlk:fc Tryz.prog h 138 di (.int .i64 n) false=some (.agg [.int .u64 (dW π n 0:Nat),.bool (match lookL n π.aN with | some x=>x.2 | none=>false)]):=by
   rcases Eu (n:=n) (s.ae [3]) with ⟨g1,_,g2⟩ | ⟨x,g1,_,g2⟩
   ·rw [g2]; simp only [dW,g1]; rfl
   ·rw [g2]; simp only [dW,g1]
  refine zo rfl (gM rfl rfl hlk) (zo rfl (RZ rfl (R1 (J_ _) rfl)) (zo rfl (c7 rfl (by rw [Xz]; rfl)) ?_))
  obtain ⟨rv,h1,zy,s1⟩:=nR (P:=Tryz.prog) (x:=.agg [.int .i64 n,.int .u64 (dW π n 0:Nat)]) s y9 F5 Ls rfl (by decide) (by decide) rfl rfl
  dsimp only [V.cells] at s1
  refine aB.any rfl rfl rfl (OpR.of (R:=fun v h'=>v=rv∧h'=h1) (oJ rfl zy) ⟨rfl,rfl⟩) ?_
  rintro v h' ⟨rfl,rfl⟩
  obtain ⟨i1,lN,jX,sN⟩:=Fl
  have eO:(ks.take i).length≤1048576:=by simp; omega
  obtain ⟨I,h2,uJ,s2⟩:=jx (s1.ae [5,0]) y9 lN F5 jX (by omega) rfl (by decide) (by simp only [zu,bj,bY]; omega)
  dsimp only [bringA,getA,aT] at s2
  refine aB.any rfl rfl rfl (OpR.of (R:=fun v h'=>v=I∧h'=h2) (oE rfl rfl uJ) ⟨rfl,rfl⟩) ?_
  rintro v h' ⟨rfl,rfl⟩
  refine za rfl (zv (zr rfl (zb rfl (by exact bQ (aU (by omega) (by omega))) ?_)))
  refine zm rfl (zv ?_)
  have s3:=dg.2 ⟨bX,wh,di,s2.ae [2,2,2,2]⟩
  have s4:=(s3.del 2).ae [1,0,0]
  refine ih (i+1) _ _ _ _ (by omega) ?_ ⟨rfl,rfl,rfl,rfl,rfl,aa⟩ hx
  rw [J,Oa]
  exact s4
theorem Qz (I:W told)(s:Sat h (b8 r p q π::S))(hm:π.aN.length≤1048576)(hk:∀n∈π.aN.map (·.1),(Lit.int .i64 n).wf=true):
  Call ⟨Tryz.prog,told⟩ 66 [.ptr r 0] h fun v h'=>Sat h' (.arr 2 v (dirtC π (aJ π.aN))::b8 r p q π::S):=by
 obtain ⟨bX,wh,di,s⟩:=dg.1 s
 obtain ⟨J,rfl⟩:=yT s (j:=3) rfl
 have hl:(aJ π.aN).length=π.aN.length:=by rw [aJ,(eB _).length_eq,en]
 refine Call.of_wp (I.free _ rfl) Tryz.func66 rfl rfl (zK 8 rfl (zf rfl (m5 _ _) (zl rfl (s.ld (k:=0) rfl rQ rfl) (zo rfl (a_ rfl rfl rfl (BH (s.ae [3]) qt)) ?_))))
 obtain ⟨i1,U,jX,sN⟩:=Fl
 obtain ⟨av,h1,e1,s1⟩:=vb (P:=Tryz.prog) s y9 U F5 jX (by omega) rfl (by decide) (by decide) (n:=0) (c:=π.aN.length) (by omega) (by omega)
 dsimp only [repeatL] at s1
 refine aB.any rfl rfl rfl (OpR.of (R:=fun v h'=>v=av∧h'=h1) (rO rfl rfl e1) ⟨rfl,rfl⟩) ?_
 rintro v h' ⟨rfl,rfl⟩
 have s:=s1
 refine zk 7 rfl (zf rfl (m5 _ _) (zl rfl (s.ld (k:=1) rfl rQ rfl) (zc rfl (Qw I s) ?_)))
 rintro v h ⟨b,rfl,s⟩
 refine zc rfl (pU I (s.ae [0,4]) (by decide) hm hk) ?_
 intro kv h s
 refine zo rfl (a_ rfl rfl rfl (s.iK (n:=(aJ π.aN).length) (j:=0) rfl (by simp [eN]) (by decide) eC)) ?_
 refine zk 2 rfl (WP.block ?_)
 have s:=dg.2 ⟨bX,wh,.map J,s.ae [4,4,4,2]⟩
 have s:=(s.del 2).ae [2,0,0]
 refine LQ I (π:=π) (ks:=aJ π.aN) (by omega) (aJ π.aN).length 0 _ _ _ _ (by omega) s ⟨rfl,rfl,rfl,rfl,rfl,aa⟩ (fun Ko E' h' h2 s' => ?_)
 exact WP.has (F:=[(3,Ko)]) ⟨h2,aa⟩ (zK 5 rfl (WP.ret ⟨aa,_,rfl,s'⟩))
end
def Hz (ay:Nat)(Q:Ex→List (Nat×V)→H→Prop)(c:Ctx)(a:Act)(w:World)(e:Exit)(U:Act)(w':World): Prop :=
 ∃ex I h' E',e=exOf ex∧kH I E'∧Q ex E' h'∧U.defers=a.defers∧∃J,Rel J h' w'∧fe J I ay U∧dG c w J w'
def eD (C:dx)(ay:Nat)(code:Code)(E:List (Nat×V))(h:H)(Q:Ex→List (Nat×V)→H→Prop): Prop :=
 ∀(c:Ctx) (a:Act) (w:World) (env:Env),kH env E→Rel c h w→fe c env ay a→code.wpIn (Fr none) 0 C.P (Hz ay Q c a w) a w
section
variable {C:dx} {ay:Nat} {E:List (Nat×V)} {h:H} {Q Q':Ex→List (Nat×V)→H→Prop} {a b:Code}
theorem Hz.trans {c c₁:Ctx}{A I a':Act}{w J w':World}{e:Exit}(hd:I.defers=A.defers)(hs:dG c w c₁ J)(ho:Hz ay Q c₁ I J e a' w'): Hz ay Q c A w e a' w':=by
 obtain ⟨ex,U,h',E',h1,h2,h3,h4,c',h5,h6,h7⟩:=ho
 exact ⟨ex,U,h',E',h1,h2,h3,h4.trans hd,c',h5,h6,hs.trans h7⟩
theorem eD.of (hm:C.P.follows .mixedOrders=true)(J:gZ C)(hw:WP C ay a E h Q): eD C ay a E h Q:=by
 intro c A w env U hr he
 obtain ⟨N,ex,I,h',E',h1,h2,h3⟩:=hw env U
 refine wpIn_mono ((GH hm J N).1 _ _ _ _ h1 none c A w hr he) ?_
 rintro e a' w' ⟨rfl,h4,c',h5,h6,h7⟩
 exact ⟨ex,I,h',E',rfl,h2,h3,h4,c',h5,h6,h7⟩
theorem eD.mono (hw:eD C ay a E h Q)(J:∀ex E' h',Q ex E' h'→Q' ex E' h'): eD C ay a E h Q':=by
 intro c A w env U hr he
 refine wpIn_mono (hw c A w env U hr he) ?_
 rintro e a' w' ⟨ex,I,h',E',h1,h2,h3,h4⟩
 exact ⟨ex,I,h',E',h1,h2,J _ _ _ h3,h4⟩
theorem eD.seq (hw:eD C ay a E h fun ex E' h'=>match ex with
  | .normal=>eD C ay b E' h' Q
  | ex=>Q ex E' h'): eD C ay (.seq a b) E h Q:=by
 intro c A w env hE hr he
 refine wpIn_seq (wpIn_mono (hw c A w env hE hr he) ?_)
 rintro e J U ⟨ex,I,h',E',rfl,h2,h3,h4,c₁,h5,h6,h7⟩
 cases ex with
 | normal=>exact wpIn_mono (h3 c₁ J U I h2 h5 h6) fun e a' w' ho=>ho.trans h4 h7
 | exit i=>exact ⟨_,I,h',E',rfl,h2,h3,h4,c₁,h5,h6,h7⟩
 | ret=>exact ⟨_,I,h',E',rfl,h2,h3,h4,c₁,h5,h6,h7⟩
theorem eD.cond {x:Operand}{t:Bool}(J:lookO E x=some (.bool t))(hw:eD C ay (_root_.cond t a b) E h Q): eD C ay (.cond x a b) E h Q:=by
 intro c A w env I U he
 obtain ⟨e1,_⟩:=Gh he (bO I J)
 refine wpIn_cond (t:=t) (by rw [e1]; rfl) ?_
 have:=hw c A w env I U he
 cases t <;> simpa using this
theorem eD.block {i:Nat}(hw:eD C ay b E h fun ex E' h'=>match ex with
  | .exit j=>_root_.cond (Nat.beq j i) (Q .normal E' h') (Q (.exit j) E' h')
  | ex=>Q ex E' h'): eD C ay (.block i b) E h Q:=by
 intro c A w env hE hr he
 refine wpIn_block (wpIn_mono (hw c A w env hE hr he) ?_)
 rintro e MR Gy ⟨ex,I,h',E',rfl,U,J,h4,c₁,h5,h6,h7⟩
 cases ex with
 | normal=>simp only [exOf,Exit.inBlock]; exact ⟨.normal,I,h',E',rfl,U,J,h4,c₁,h5,h6,h7⟩
 | exit j =>
  by_cases hj:j=i
  ·simp only [gX hj,ag] at J
   simp only [exOf,Exit.inBlock,hj,bP]
   exact ⟨.normal,I,h',E',rfl,U,J,h4,c₁,h5,h6,h7⟩
  ·simp only [cS hj,az] at J
   simp only [exOf,Exit.inBlock,hj,bK]
   exact ⟨.exit j,I,h',E',rfl,U,J,h4,c₁,h5,h6,h7⟩
 | ret=>simp only [exOf,Exit.inBlock]; exact ⟨.ret,I,h',E',rfl,U,J,h4,c₁,h5,h6,h7⟩
theorem eD.loop (J:Nat→List (Nat×V)→H→Prop)(hJ:∀j E h,J j E h→eD C ay b E h fun ex E' h'=>match ex with
  | .normal=>∃i,i<j∧J i E' h'
  | ex=>Q ex E' h'){j:Nat}(h0:J j E h): eD C ay (.loop b) E h Q:=by
 have key:∀m j E h,j<m→J j E h→∀(c:Ctx) (A:Act) (w:World) (env:Env) (R:Exit→Act→World→Prop),kH env E→Rel c h w→fe c env ay A →
   (∀e a' w',Hz ay Q c A w e a' w'→R e a' w')→Code.roundsIn (Fr none) 0 C.P b R m A w:=by
  intro m
  induction m with
  | zero=>intro j E h hj; omega
  | succ m ih =>
   intro j E h hj hJj c A w env R hE hr he hR
   rw [roundsIn_succ]
   refine wpIn_mono (hJ j E h hJj c A w env hE hr he) ?_
   rintro e U Gy ⟨ex,I,h',E',rfl,h2,h3,h4,c₁,h5,h6,h7⟩
   cases ex with
   | normal =>
    obtain ⟨i,hi,h3⟩:=h3
    exact ih i E' h' (by omega) h3 c₁ U Gy I R h2 h5 h6 fun e a' w' ho=>hR _ _ _ (ho.trans h4 h7)
   | exit i=>exact hR _ _ _ ⟨_,I,h',E',rfl,h2,h3,h4,c₁,h5,h6,h7⟩
   | ret=>exact hR _ _ _ ⟨_,I,h',E',rfl,h2,h3,h4,c₁,h5,h6,h7⟩
 intro c A w env hE hr he
 exact wpIn_loop_rounds (j+1) (key (j+1) j E h (by omega) h0 c A w env _ hE hr he fun _ _ _ ho=>ho)
theorem Ob {α β:Type}{f:α→Option (List β)}{p:β→Prop}: ∀ {L:List α},(∀q∈L,∃s,f q=some [s]∧p s)→∃R,flatM f L=some R∧∀s∈R,p s:=by
 intro L
 induction L with
 | nil=>intro _; exact ⟨[],rfl,fun s hs=>by cases hs⟩
 | cons q L U =>
  intro J
  obtain ⟨R,h1,h2⟩:=U fun q I=>J q (bl _ I)
  obtain ⟨s,e1,e2⟩:=J q bn
  refine ⟨s::R,?_,fun s' hs => ?_⟩
  ·simp only [flatM,e1,h1,fq,cW]
  ·rcases List.mem_cons.1 hs with rfl | hs
   ·exact e2
   ·exact h2 s' hs
theorem eD.next {id:Nat}{I J:Oper}{x y:Operand}{r U QA:Nat}{L:List (V×H)}(hm:C.P.follows .mixedOrders=true)(hT:gZ C)(abK:I.guard=none)(aav:J.guard=none)(aaw:I.op=.next x false)(abL:I.dst=some U)
 (V5:J.op=.extract y 0)(hy:y=.tmp U)(abM:J.dst=some QA)(UA:Nat.blt U ay=true)(Xk:Nat.blt QA ay=true)(hx:lookO E x=some (.ptr r 0))(hL:nextAll h r=some L)
 (hq:∀q∈L,∃t l,q.1=.bD (t::l)∧Q .normal ((QA,t)::(U,q.1)::E) q.2): eD C ay (.region id #[I,J] false) E h Q:=by
 intro c A w env hE hr he
 subst hy
 have hS:=(GH (C:=C) hm hT 0).1
 refine wpIn_region ?_
 rw [List.range_eq_range',←DI]
 have mP:∃R,opsAll C (ev C 0) (#[I,J]:Array Oper).toList (#[I,J]:Array Oper).toList ⟨env,ay,h⟩=some R∧∀s∈R,∃E',kH s.env E'∧s.ay=ay∧Q .normal E' s.h:=by
  have e1:∀K4:Env,wantedV [I,J] K4 I=true:=fun K4=>by simp only [wantedV,abK]
  have e2:∀K4:Env,wantedV [I,J] K4 J=true:=fun K4=>by simp only [wantedV,aav]
  have kP:=bO hE hx
  simp only [opsAll,e1,e2,ag,opAll,aaw,kP,dh,hL]
  refine Ob fun q uo => ?_
  obtain ⟨t,l,k1,k2⟩:=hq q uo
  refine ⟨⟨(env.set U (some q.1)).set QA (some t),ay,q.2⟩,?_,_,(hE.set U q.1).set QA t,rfl,k2⟩
  have hg:evO (T.set env U (some (V.bD (t::l)))) (.tmp U)=some (.bD (t::l)):=by simp only [evO,Env.v,aZ,bP]
  simp only [St.put,abL,UA,ag,V5,evOp,k1,hg,nth,dh,bx,abM,Xk,flatM,bR]
 obtain ⟨R,mP,h2⟩:=mP
 refine Nf hS hT _ 0 ⟨env,ay,h⟩ R c A w (fun j=>by rw [dU,jN]) mP hr he ?_
 intro s' EV c' a' w' r1 r2 r3 r4
 obtain ⟨E',e1,e2,e3⟩:=h2 s' EV
 exact ⟨.normal,s'.env,s'.h,E',rfl,e1,e3,r4,c',r1,by rw [e2] at r2; exact r2,r3⟩
theorem fT.C3 {f:FuncId}{fn:Func}{code:Code}{args:List V}{v:V}{U:H}(hf:C.P.funcs[f]?=some fn)(hb:fn.body=some code)(hn:args.length≤fn.ntmps)
 (hw:eD C fn.ntmps code (argE args 0) h fun ex E' h'=>(match ex with | .exit _=>False | _=>True)∧ju C.P E' h' fn.results.toList=some v∧U.next=h'.next∧∀id o,T.get U.tr id=some o→T.get h'.tr id=some o)
 {c:Ctx}{w:World}(hr:Rel c h w)(ha:∀x∈args,wf c x): fT C.P f args c w v U:=by
 have BB:=qh (c:=c) hn ha
 have UT:=hw c _ w _ (Az args) hr BB
 unfold fT
 refine calls_of_wp hf hb (wpIn_wide.1 (wpIn_mono UT ?_))
 rintro e a' w' ⟨ex,V6,h',E',rfl,gu,⟨hx,I,Fi,hle⟩,hd,c',r1,r2,r3⟩
 have fin:a'.defers=[]∧∃x,(results fn a'.tmps).run C.P w'=.ok x w'∧∃qj,Ending.returned x=.returned (conc qj v)∧wf qj v∧Rel qj U w'∧dG c w qj w':=by
  refine ⟨hd,?_⟩
  unfold ju at I
  cases MZ:mapO (resE C.P E' h') fn.results.toList with
  | none=>simp [MZ] at I
  | some vs =>
   rw [MZ] at I
   have Nz:=Ea (P:=C.P) (s:=⟨V6,fn.ntmps,h'⟩) gu MZ
   obtain ⟨t1,t2⟩:=sW (s:=⟨V6,fn.ntmps,h'⟩) r1 r2 Nz
   refine ⟨_,t1,c',?_⟩
   have J:=r1.Xs Fi hle
   match vs,I with
   | [],I =>
    simp at I
    subst I
    refine ⟨?_,by simp [wf,fS],J,r3⟩
    simp [conc,concL]
   | [x],I =>
    simp at I
    subst I
    exact ⟨by simp,t2 _ (by simp),J,r3⟩
   | x::y::l,I =>
    simp at I
    subst I
    refine ⟨?_,by simp only [wf,iU]; exact t2,J,r3⟩
    rw [dif_neg (by simp)]
    simp [conc,ij,concL]
 cases ex with
 | normal=>simpa [bodyPost,exOf] using fin
 | exit i=>exact hx.elim
 | ret=>simpa [bodyPost,exOf] using fin
end
end Go.Proofs.YtconhghphklfjaaGreat.Am
namespace Go.Proofs.YtconhghphklfjaaGreat.Am
open Go
theorem mg (l:List Nat)(b x:Nat): inL (l++[b]) x=(inL l x||Nat.beq b x):=by
 induction l with
 | nil=>simp only [cW,inL,tL]; cases Nat.beq b x <;> rfl
 | cons y l I=>simp only [fq,inL,I]; cases Nat.beq y x <;> simp
theorem Fo {seen:List Nat}: ∀ {l:List (V×V×Nat)} {e:V×V×Nat},e∈leftV seen l→e∈l∧inL seen e.2.2=false:=by
 intro l
 induction l with
 | nil=>intro e h; cases h
 | cons y l I =>
  intro e h
  simp only [leftV] at h
  cases J:inL seen y.2.2 with
  | true=>rw [J,ag] at h; exact ⟨bl _ (I h).1,(I h).2⟩
  | false =>
   rw [J,az] at h
   rcases List.mem_cons.1 h with rfl | h
   ·exact ⟨bn,J⟩
   ·exact ⟨bl _ (I h).1,(I h).2⟩
theorem Oc {seen:List Nat}: ∀ {l:List (V×V×Nat)},leftV seen l=[]→∀e∈l,inL seen e.2.2=true:=by
 intro l
 induction l with
 | nil=>intro _ e he; cases he
 | cons y l J =>
  intro h e he
  simp only [leftV] at h
  cases I:inL seen y.2.2 with
  | false=>rw [I,az] at h; cases h
  | true =>
   rw [I,ag] at h
   rcases List.mem_cons.1 he with rfl | he
   ·exact I
   ·exact J h e he
theorem HA {seen:List Nat}{b:Nat}: ∀ {l:List (V×V×Nat)},(leftV (seen++[b]) l).length≤(leftV seen l).length:=by
 intro l
 induction l with
 | nil=>exact aK _
 | cons y l I =>
  simp only [leftV,mg]
  cases inL seen y.2.2 <;> cases Nat.beq b y.2.2 <;> simp <;> omega
theorem QB {seen:List Nat}: ∀ {l:List (V×V×Nat)} {e:V×V×Nat},e∈leftV seen l→(leftV (seen++[e.2.2]) l).length<(leftV seen l).length:=by
 intro l
 induction l with
 | nil=>intro e h; cases h
 | cons y l J =>
  intro e h
  simp only [leftV] at h
  cases I:inL seen y.2.2 with
  | true =>
   rw [I,ag] at h
   simp only [leftV,mg,I,Bool.true_or,ag]
   exact J h
  | false =>
   rw [I,az] at h
   simp only [leftV,mg,I,tL,az]
   rcases List.mem_cons.1 h with rfl | h
   ·rw [dh,ag]
    have:=HA (seen:=seen) (b:=e.2.2) (l:=l)
    simp; omega
   ·cases Nat.beq e.2.2 y.2.2
    ·simp only [az,bj]; have:=J h; omega
    ·simp only [ag,bj]; have:=HA (seen:=seen) (b:=e.2.2) (l:=l); omega
theorem Od {c:Nat}: ∀ {l:bZ} {b:Nat},eX c b l→ud c (l.map ep)=true:=by
 intro l
 induction l with
 | nil=>intro b _; rfl
 | cons e l I =>
  intro b h
  simp only [bJ,ep,ud]
  rw [iT.2 h.2.1,ag]
  exact I h.2.2
theorem Jh {c:Nat}: ∀ {l:bZ} {b:Nat},eX c b l→bornRise b (l.map ep)=true:=by
 intro l
 induction l with
 | nil=>intro b _; rfl
 | cons e l I =>
  intro b h
  simp only [bJ,ep,bornRise]
  rw [aQ.2 h.1,ag]
  exact I h.2.2
theorem oQ {c:Nat}: ∀ {l:bZ} {b:Nat},eX c b l→∀e∈l,b≤e.2.2:=by
 intro l
 induction l with
 | nil=>intro b _ e he; cases he
 | cons y l I =>
  intro b h e he
  rcases List.mem_cons.1 he with rfl | he
  ·exact h.1
  ·have:=I h.2.2 e he; have:=h.1; omega
theorem qx {c:Nat}: ∀ {l:bZ} {b:Nat} {e:Int×V×Nat},eX c b l→e∈l→tQ e.2.2 (l.map ep)=some (ep e):=by
 intro l
 induction l with
 | nil=>intro b e _ he; cases he
 | cons y l I =>
  intro b e h he
  simp only [bJ,tQ]
  rcases List.mem_cons.1 he with rfl | he
  ·show cond (Nat.beq e.2.2 e.2.2) _ _=_
   rw [dh,ag]
  ·have:=oQ h.2.2 e he
   show cond (Nat.beq y.2.2 e.2.2) _ _=_
   rw [cS (by omega),az]
   exact I h.2.2 he
theorem Oe : ∀(l:List Nat) (b:Nat),lastN (l++[b])=some b:=by
 intro l b
 induction l with
 | nil=>rfl
 | cons x l I =>
  cases l with
  | nil=>rfl
  | cons y l=>simpa [lastN] using I
section
variable {h:H} {r mid since clock b:Nat} {seen:List Nat} {es:bZ}
theorem HB {e:Int×V×Nat}(J:T.get h.tr r=some (.iter mid since clock (seen++[e.2.2])))(hm:T.get h.tr mid=some (.map (es.map ep) clock))(I:eX clock 0 es)(he:e∈es):
  vV h (.ptr r 0)=some (.bD [.int .i64 e.1,e.2.1]):=by
 simp only [vV,dh,ag,J,hm,Jh I,iy,Oe,qx I he]
 rfl
theorem next_at (I:T.get h.tr r=some (.iter mid since clock seen))(hs:since≤clock)(hm:T.get h.tr mid=some (.map (es.map ep) clock))(J:eX since 0 es):
  nextAll h r=some (match leftV seen (es.map ep) with
   | []=>[(.bD [.bool false],h)]
   | l=>l.map fun e=>(.bD [.bool true,e.1,e.2.1],h.put r (some (.iter mid since clock (seen++[e.2.2]))))):=by
 simp only [nextAll,I,hm,Od J,aQ.2 hs,iy,ag]
 cases leftV seen (es.map ep) <;> rfl
theorem HC {L:List (V×H)}(hg:T.get h.tr r=some (.iter mid since clock seen))(hs:since≤clock)(hm:T.get h.tr mid=some (.map (es.map ep) clock))(hb:eX since 0 es)(hL:nextAll h r=some L):
  ∀q∈L,(q=(.bD [.bool false],h)∧∀e∈es,inL seen e.2.2=true) ∨
   ∃e∈es,inL seen e.2.2=false∧(leftV (seen++[e.2.2]) (es.map ep)).length<(leftV seen (es.map ep)).length∧q=(.bD [.bool true,.int .i64 e.1,e.2.1],h.put r (some (.iter mid since clock (seen++[e.2.2])))):=by
 rw [next_at hg hs hm hb] at hL
 simp only [au] at hL
 subst hL
 intro q U
 cases J:leftV seen (es.map ep) with
 | nil =>
  rw [J] at U
  refine .inl ⟨List.mem_singleton.1 U,fun e he => ?_⟩
  exact Oc J (ep e) (jd he)
 | cons y l =>
  rw [J] at U
  obtain ⟨e',I,rfl⟩:=List.mem_map.1 U
  rw [←J] at I
  obtain ⟨h1,h2⟩:=Fo I
  obtain ⟨e,he,rfl⟩:=List.mem_map.1 h1
  have h3:=QB I
  rw [J] at h3
  exact .inr ⟨e,he,h2,h3,rfl⟩
end
open Classical in
noncomputable def nA (P:Program)(f:FuncId)(iZ:List V→H→V×H→Prop)(args:List V)(h:H): Option (V×H) :=
 if I:∃r,iZ args h r∧∀(c:Ctx) (w:World),Rel c h w→(∀x∈args,wf c x)→fT P f args c w r.1 r.2 then some I.choose else none
theorem zB {P : Program} {f : FuncId} {iZ : List V → H → V × H → Prop} (J : ∃ fn, P.funcs[f]? = some fn ∧ fn.body.isSome = true ∧ (fn.name == "runtime.NumGoroutine") = false) : D6 P f (nA P f iZ) := by
 refine .inl ⟨J, fun args σ v U I c w h hw => ?_⟩
 unfold nA at I
 split at I
 ·rename_i hx
  have := hx.choose_spec.2 c w h hw
  injection I with I
  rw [I] at this
  exact this
 ·cases I
theorem zC {P:Program}{f:FuncId}{iZ:List V→H→V×H→Prop}{args:List V}{h:H}{r:V×H}(J:iZ args h r)(U:∀(c:Ctx) (w:World),Rel c h w→(∀x∈args,wf c x)→fT P f args c w r.1 r.2):
  ∃r,nA P f iZ args h=some r∧iZ args h r:=by
 have I:∃r,iZ args h r∧∀(c:Ctx) (w:World),Rel c h w→(∀x∈args,wf c x)→fT P f args c w r.1 r.2:=⟨r,J,U⟩
 refine ⟨I.choose,?_,I.choose_spec.1⟩
 unfold nA
 rw [dif_pos I]
noncomputable def C4 (f:Nat): Option (List V→H→Option (V×H)) :=
 cond (Nat.beq f 50) (some (toldSorted AI)) (cond (Nat.beq f 119) (some toldMore) none)
noncomputable abbrev CB : dx:=⟨Tryz.prog,C4⟩
theorem g_ : Tryz.prog.follows .mixedOrders=true:=by kernel_rfl
theorem fB : gZ CB:=by
 intro f g I
 simp only [CB,C4] at I ⊢
 by_cases h1:f=50
 ·subst h1
  rw [gX rfl,ag] at I
  simp only [au] at I
  subst I
  exact .inl ⟨⟨_,Tryz.func50,rfl,by decide⟩,fun args σ v J U c w h _=>FP bF ND U h⟩
 ·rw [cS h1,az] at I
  by_cases h2:f=119
  ·subst h2
   rw [gX rfl,ag] at I
   simp only [au] at I
   subst I
   exact .inl ⟨⟨_,Cs,rfl,by decide⟩,fun args σ v J U c w h hw=>I6 (C:=CB) rfl g_ U h hw⟩
  ·rw [cS h2,az] at I
   cases I
theorem W.base : W C4:=by
 refine ⟨fun f I => ?_,rfl,rfl⟩
 have J:f≠50:=fun e=>by subst e; revert I; decide
 have U:f≠119:=fun e=>by subst e; revert I; decide
 simp only [C4,cS J,cS U,az]
theorem g6.det {C:dx}{f:FuncId}{args:List V}{h:H}{v v':V}{h₁ I:H}(a:g6 C f args h v h₁)(b:g6 C f args h v' I): v=v'∧h₁=I:=by
 obtain ⟨N,U⟩:=a
 obtain ⟨M,hM⟩:=b
 have e1:=sY (gq (pn N M)) U
 have J:=sY (gq (o9 N M)) hM
 rw [e1] at J
 simp only [au,aP] at J
 exact J
section
variable {P:Program} {h:H} {S:List ax} {k id off n:Nat} {cs:List V} {st:Bool} {v:V} {t:TypeId}
theorem Sat.V7 (s:Sat h S)(U:getA S k=some (pt id (.cells n cs false)))(hs:bG P t=some 1)(hl:cs.length=n)(ho:off<n)(hv:v.cells=[v])(I:storable v=true):
  gV P h t (.ptr id off) v=some (h.put id (some (.cells n (cs.set off v) false))):=by
 simp only [gV,hs,hv,bj,bY,iR,jg,I,Bool.and_true]
 rw [show Nat.beq (0+1) 1=true from rfl,ag]
 simp only [wrN,s.row U,bj,bY]
 rw [aQ.2 (show off+(0+1)≤n by omega),ag]
 congr 3
 rw [JK,aj (by omega)]
 cases J:(Nat.beq off 0&&Nat.beq (0+1) n) with
 | true =>
  simp only [aY,beq_iff] at J
  obtain ⟨rfl,hn⟩:=J
  rw [ag]
  have:cs.drop (0+1)=[]:=iu (by omega)
  simp [this]
 | false=>rw [az]; rfl
end
theorem OpR.entry {C:dx}{E:List (Nat×V)}{h:H}{o:Oper}{x:Operand}{v r:V}(I:o.op=.entry x)(J:lookO E x=some v)(U:vV h v=some r): OpR C E h o fun w h'=>w=r∧h'=h :=
 ⟨r,h,⟨rfl,rfl⟩,fun env hE=>⟨0,by simp only [evOp,I,bO hE J,U,bx]⟩⟩
theorem OpR.range {C:dx}{E:List (Nat×V)}{h:H}{o:Oper}{x:Operand}{t:TypeId}{v r:V}{h₁:H}(I:o.op=.range t x)(J:lookO E x=some v)(U:rangeV C.P h t v=some (r,h₁)): OpR C E h o fun w h'=>w=r∧h'=h₁ :=
 ⟨r,h₁,⟨rfl,rfl⟩,fun env hE=>⟨0,by simp only [evOp,I,bO hE J,U]⟩⟩
def doneRow (seen:List Nat): bZ→List V→List V
 | [],row=>row
 | e::l,row=>doneRow seen l (cond (inL seen e.2.2) (row.set e.1.toNat e.2.1) row)
def nB : bZ→List V→List V
 | [],row=>row
 | e::l,row=>nB l (row.set e.1.toNat e.2.1)
theorem Ji {seen:List Nat}: ∀ {l:bZ} {row:List V},(∀e∈l,inL seen e.2.2=true)→doneRow seen l row=nB l row:=by
 intro l
 induction l with
 | nil=>intro row _; rfl
 | cons e l J =>
  intro row h
  simp only [doneRow,nB,h e bn,ag]
  exact J fun U I=>h U (bl _ I)
theorem Jj : ∀ {l:bZ} {row:List V},doneRow [] l row=row:=by
 intro l
 induction l with
 | nil=>intro row; rfl
 | cons e l I=>intro row; simp only [doneRow,inL,az]; exact I
theorem Jk {seen:List Nat}: ∀ {l:bZ} {row:List V},(doneRow seen l row).length=row.length:=by
 intro l
 induction l with
 | nil=>intro row; rfl
 | cons e l I=>intro row; simp only [doneRow]; rw [I]; cases inL seen e.2.2 <;> simp
theorem Jl {seen:List Nat}{i:Nat}{v:V}: ∀ {l:bZ} {row:List V},(∀e∈l,e.1.toNat≠i)→doneRow seen l (row.set i v)=(doneRow seen l row).set i v:=by
 intro l
 induction l with
 | nil=>intro row _; rfl
 | cons e l U =>
  intro row h
  simp only [doneRow]
  have h1:=h e bn
  cases inL seen e.2.2 with
  | true=>rw [ag,ag,List.set_comm _ _ (ji h1)]; exact U fun J I=>h J (bl _ I)
  | false=>exact U fun J I=>h J (bl _ I)
theorem FT {seen:List Nat}{b:Nat}: ∀ {l:bZ} {row:List V},(∀e∈l,e.2.2≠b)→doneRow (seen++[b]) l row=doneRow seen l row:=by
 intro l
 induction l with
 | nil=>intro row _; rfl
 | cons e l J =>
  intro row h
  simp only [doneRow,mg,cS (ji (h e bn)),qU]
  exact J fun U I=>h U (bl _ I)
theorem HD {seen:List Nat}{c:Nat}: ∀ {l:bZ} {b:Nat} {row:List V} {e:Int×V×Nat},eX c b l→(l.map fun e=>e.1.toNat).Nodup→e∈l→inL seen e.2.2=false →
  doneRow (seen++[e.2.2]) l row=(doneRow seen l row).set e.1.toNat e.2.1:=by
 intro l
 induction l with
 | nil=>intro b row e _ _ he; cases he
 | cons y l ih =>
  intro b row e J U he hs
  simp only [bJ,lW] at U
  rcases List.mem_cons.1 he with rfl | he
  ·simp only [doneRow,mg,hs,dh,Bool.or_true,ag,az]
   rw [FT fun e' I=>by have:=oQ J.2.2 e' I; omega]
   exact Jl fun e' I hq=>U.1 (hq ▸ jd (f:=fun e:Int×V×Nat=>e.1.toNat) I)
  ·have:=oQ J.2.2 e he
   simp only [doneRow,mg,cS (show e.2.2≠y.2.2 by omega),qU]
   exact ih J.2.2 U.2 he hs
def laidP : List (Int×List Nat)→List (Option (List Nat))→List (Option (List Nat))
 | [],m=>m
 | e::l,m=>laidP l (m.set e.1.toNat (some e.2))
theorem nC : ∀ {l:List (Int×List Nat)} {m:List (Option (List Nat))},(laidP l m).length=m.length:=by
 intro l
 induction l with
 | nil=>intro row; rfl
 | cons e l I=>intro row; simp only [laidP]; rw [I]; simp
theorem Jm {a b:PM}: ∀ {es:bZ} {m:List (Int×List Nat)} {row:List V} {pg:List (Option (List Nat))},(eu (fun v x=>.cm v x) es m).p a b→(∀e∈m,e.2≠[])→(each lz row pg).p a b→(each lz (nB es row) (laidP m pg)).p a b:=by
 intro es
 induction es with
 | nil=>intro m row pg h _ hr; cases m with
  | nil=>exact hr
  | cons x m=>exact h.elim
 | cons e es ih=>intro m row pg h I hr; cases m with
  | nil=>exact h.elim
  | cons x m =>
   obtain ⟨⟨h1,h2⟩,h3⟩:=h
   simp only [nB,laidP]
   have hk:e.1=x.1:=h1
   refine ih h3 (fun e he=>I e (bl _ he)) ?_
   rw [hk]
   refine BJ hr ⟨?_,h2⟩
   rintro hv
   have J:ic b e.2.1 x.2:=h2
   rw [hv] at J
   rcases J.2 with ⟨_,U⟩ | U
   ·exact I x bn U
   ·obtain ⟨_,_,_,_,_,_,U,_⟩:=U
    cases U
def Dk.sync (δ:Dk): Dk:={ δ with aq:=laidP δ.now δ.aq,waiting:=[],now:=[] }
section
variable {told:dH} {h:H} {S:List ax} {X:ax} {r k q p bX:Nat} {v x wh di:V} {l b:List Nat} {π:Pl} {m:List Fm} {μ:Lg} {δ:Dk}
noncomputable def C5 (h:H)(p:Nat)(cs:List V)(I N:Nat)(row:List V)(mid:Nat)(es:bZ)(clock:Nat): H :=
 ((((h.new (.iter mid clock clock [])).put I (some (.cells N (nB es row) false))).put p (some (.cells 12 (cs.set 2 .bz) false))).put mid (some (.map [] clock))).put h.next none
def Ew (args:List V)(h:H)(r:V×H): Prop:=∃p cs,args=[.ptr p 0]∧T.get h.tr p=some (.cells 12 cs false) ∧
 ((nth cs 9=some (.bool true)∧r=(.int .i64 9,h))∨(nth cs 9=some (.bool false)∧∃v1 I,g6 CB 118 [.ptr p 0] h v1 I ∧
  ((v1=.bool false∧r=(.int .i64 9,I))∨(v1=.bool true∧∃cs J N row mid es clock,T.get I.tr p=some (.cells 12 cs false)∧nth cs 1=some (.sl J 0 N (.exact N))∧nth cs 3=some (.map mid) ∧
   T.get I.tr J=some (.cells N row false)∧T.get I.tr mid=some (.map (es.map ep) clock)∧r=(.int .i64 0,C5 I p cs J N row mid es clock)))))
structure Ey (h h':H)(X:List Nat): Prop where
 next:h'.next=h.next
 get:∀i,i∉X→T.get h'.tr i=T.get h.tr i
theorem Ey.put {h h':H}{X:List Nat}(s:Ey h h' X){i:Nat}{o:Option Obj}(hi:i∈X): Ey h (h'.put i o) X :=
 ⟨s.next,fun j I=>by rw [b9,af (fun (e:j=i)=>I (e ▸ hi))]; exact s.get j I⟩
theorem zD {α:Type}{f:V→α→ax}{a b:PM}: ∀ {l:bZ} {m:List (Int×α)},(eu f l m).p a b→∀e∈l,∃x,(e.1,x)∈m∧(f e.2.1 x).p a b:=by
 intro l
 induction l with
 | nil=>intro m _ e he; cases he
 | cons y l I=>intro m h e he; cases m with
  | nil=>exact h.elim
  | cons x m =>
   obtain ⟨⟨J,U⟩,h3⟩:=h
   rcases List.mem_cons.1 he with rfl | he
   ·exact ⟨x.2,by rw [show e.1=x.1 from J]; exact bn,U⟩
   ·obtain ⟨z,k1,k2⟩:=I h3 e he
    exact ⟨z,bl _ k1,k2⟩
noncomputable def syA : Code:=cK [0] ((Tryz.f75.body).getD .skip)
noncomputable def syB : Code:=cK [1,0] ((Tryz.f75.body).getD .skip)
noncomputable def syC : Code:=cK [1,1,0,0] ((Tryz.f75.body).getD .skip)
noncomputable def V8 : Code:=cK [1,1,0,1,0,0,0] ((Tryz.f75.body).getD .skip)
noncomputable def Zb : Code:=cK [1,1,0,1,0,0,1,1,0] ((Tryz.f75.body).getD .skip)
noncomputable def syE : Code:=cK [1,1,1] ((Tryz.f75.body).getD .skip)
theorem BN : Tryz.f75.body=some (.seq syA (.seq syB (.seq (.seq syC (.block 0 (.loop (.seq V8 (.seq (.cond (.tmp 20) .skip (.exit 0)) (.block 1 Zb)))))) syE))):=rfl
theorem TO : ∃id I J,V8=.region id #[I,J] false∧I.guard=none∧J.guard=none∧I.op=.next (.tmp 18) false∧I.dst=some 19∧J.op=.extract (.tmp 19) 0∧J.dst=some 20:=⟨_,_,_,rfl,rfl,rfl,rfl,rfl,rfl,rfl⟩
def Zc (h₀:H)(p it I N mid clock:Nat)(cs row:List V)(es:bZ)(S:List ax)(j:Nat)(E:List (Nat×V))(h:H): Prop :=
 ∃seen,Has E [(0,.ptr p 0),(18,.ptr it 0)]∧j=(leftV seen (es.map ep)).length∧Ey h₀ h [it,I] ∧
  Sat h (pt it (.iter mid clock clock seen)::pt p (.cells 12 cs false)::pt I (.cells N (doneRow seen es row) false)::fy mid es clock::S)
theorem Of {h₀:H}{it I N mid clock:Nat}{cs row:List V}{es:bZ}(xU:nth cs 1=some (.sl I 0 N (.exact N)))(hl:row.length=N)(U:eX clock 0 es)(hn:(es.map fun e=>e.1.toNat).Nodup)
 (hk:∀e∈es,0≤e.1∧e.1<N)(hv:∀e∈es,e.2.1.cells=[e.2.1]∧storable e.2.1=true){j:Nat}{E:List (Nat×V)}(h0:Zc h₀ p it I N mid clock cs row es S j E h):
  eD CB 38 (.loop (.seq V8 (.seq (.cond (.tmp 20) .skip (.exit 0)) (.block 1 Zb)))) E h fun ex E' h'=>ex=.exit 0∧Has E' [(0,.ptr p 0)]∧Ey h₀ h' [it,I] ∧
   ∃seen,Sat h' (pt it (.iter mid clock clock seen)::pt p (.cells 12 cs false)::pt I (.cells N (nB es row) false)::fy mid es clock::S):=by
 refine eD.loop (Zc h₀ p it I N mid clock cs row es S) ?_ h0
 rintro j E h ⟨seen,hE,rfl,hs,s⟩
 have g1:=s.row (k:=0) rfl
 have g2:=s.row (k:=3) rfl
 obtain ⟨id,Pp,S1,q0,q1,q2,q3,q4,q5,q6⟩:=TO
 refine eD.seq ?_
 rw [q0]
 have hL:=next_at g1 (aK _) g2 U
 refine eD.next g_ fB q1 q2 q3 q4 q5 rfl q6 rfl rfl (r:=it) ?_ hL fun q hq => ?_
 ·exact hE.2.1
 ·rcases HC g1 (aK _) g2 U hL q hq with ⟨rfl,J⟩ | ⟨e,he,Sy,bS,rfl⟩
  ·refine ⟨.bool false,[],rfl,?_⟩
   refine eD.seq (eD.cond (t:=false) rfl ?_)
   refine eD.of g_ fB (WP.exit ?_)
   refine ⟨rfl,⟨hE.1,aa⟩,hs,seen,?_⟩
   rw [←Ji J]
   exact s
  ·refine ⟨.bool true,_,rfl,?_⟩
   refine eD.seq (eD.cond (t:=true) rfl ?_)
   refine eD.of g_ fB (WP.skip ?_)
   refine eD.block (eD.of g_ fB ?_)
   have s:=s.put (o':=.iter mid clock clock (seen++[e.2.2])) (k:=0) rfl
   have hs:=hs.put (i:=it) (o:=some (.iter mid clock clock (seen++[e.2.2]))) bn
   generalize h.put it (some (.iter mid clock clock (seen++[e.2.2])))=h' at s hs
   have g1:=s.row (k:=0) rfl
   have g2:=s.row (k:=3) rfl
   refine WP.has (F:=[(0,.ptr p 0),(18,.ptr it 0),(20,.bool true)]) ⟨hE.1,hE.2.1,rfl,aa⟩ (zg rfl (aB.any rfl rfl rfl (OpR.entry rfl rfl (HB g1 g2 U he)) ?_))
   rintro v h ⟨rfl,rfl⟩
   refine zk 8 rfl (zf rfl (m4 _ _) (zl rfl (s.ld (k:=1) rfl rP xU) (zk 2 rfl ?_)))
   obtain ⟨k1,k2⟩:=hk e he
   refine zo rfl (dY (r:=.ptr I e.1.toNat) rfl rfl (by rw [R5,show (decide (0≤e.1)&&decide (e.1<(N:Int)))=true by simp; omega,ag]; simp)) ?_
   have e1:=s.V7 (P:=Tryz.prog) (k:=2) (t:=32) (off:=e.1.toNat) rfl jl (by rw [Jk]; exact hl) (by omega) (hv e he).1 (hv e he).2
   have s1:=s.put (o':=.cells N ((doneRow seen es row).set e.1.toNat e.2.1) false) (k:=2) rfl
   refine aB.RT rfl rfl (wg rfl rfl e1) (zv ?_)
   refine ⟨_,bS,seen++[e.2.2],⟨rfl,rfl,aa⟩,rfl,hs.put (by simp),?_⟩
   rw [HD U hn he Sy]
   exact s1
theorem QC {h₁ h':H}{p I N mid clock:Nat}{cs row:List V}{es:bZ}(hs:Ey (h₁.new (.iter mid clock clock [])) h' [h₁.next,I])(hi:T.get h'.tr I=some (.cells N (nB es row) false))(hp:p≠I)(hm:mid≠I):
  (C5 h₁ p cs I N row mid es clock).next=((h'.put p (some (.cells 12 (cs.set 2 .bz) false))).put mid (some (.map [] clock))).next ∧
  ∀id o,T.get (C5 h₁ p cs I N row mid es clock).tr id=some o→T.get ((h'.put p (some (.cells 12 (cs.set 2 .bz) false))).put mid (some (.map [] clock))).tr id=some o:=by
 refine ⟨hs.next.symm,fun id o ho => ?_⟩
 unfold C5 at ho
 rw [b9] at ho
 by_cases U:id=h₁.next
 ·rw [aj U] at ho; cases ho
 ·rw [af U,b9] at ho
  rw [b9]
  by_cases h2:id=mid
  ·rw [aj h2] at ho ⊢; exact ho
  ·rw [af h2,b9] at ho
   rw [af h2,b9]
   by_cases h3:id=p
   ·rw [aj h3] at ho ⊢; exact ho
   ·rw [af h3,b9] at ho
    rw [af h3]
    by_cases J:id=I
    ·rw [aj J] at ho; rw [J,hi]; exact ho
    ·rw [af J] at ho
     rw [hs.get id (by simp [U,J])]
     exact ho
theorem QD {P:Program}{mid c:Nat}{es:List (V×V×Nat)}{t kt et:TypeId}(I:T.get h.tr mid=some (.map es c))(hu:P.underlying t=some (.map kt et)):
  ∃v h₁,builtinV P h .clear #[t] [.map mid]=some (v,h₁)∧(fun (_:V) (h₁:H)=>h₁=h.put mid (some (.map [] c))) v h₁ :=
 ⟨cx,_,by simp only [builtinV,clearV,hu,I]; rfl,rfl⟩
theorem Og (s:Sat h (aD p δ::S))(tj:δ.Ok)(hk:∀e∈δ.now,0≤e.1∧e.1<δ.aq.length):
  ∃r,Ew [.ptr p 0] h r∧∀(c:Ctx) (w:World),Rel c h w→(∀x∈[V.ptr p 0],wf c x)→fT Tryz.prog 75 [.ptr p 0] c w r.1 r.2:=by
 obtain ⟨pg,wt,nw,lg,mk,tn,tl,ops,s1⟩:=bt.1 s
 have gp:=s1.row (k:=0) rfl
 cases hd:δ.dead with
 | true =>
  refine ⟨(.int .i64 9,h),⟨p,_,rfl,gp,.inl ⟨by rw [hd]; rfl,rfl⟩⟩,fun c w hr ha => ?_⟩
  refine fT.C3 (C:=CB) (args:=[.ptr p 0]) y_ BN (show 1≤Tryz.f75.ntmps by decide) ?_ hr ha
  refine eD.seq (eD.of g_ fB ?_)
  have s:=s1
  refine zr rfl (za rfl (zv ?_))
  refine eD.seq (eD.of g_ fB ?_)
  exact zK 4 rfl (zf rfl (jo _ _) (zt rfl (aV rfl (s.ld (k:=0) rfl jW rfl)) (hd) (zk 11 rfl (WP.ret ⟨aa,oK rfl,rfl,fun _ _ h=>h⟩))))
 | false =>
  obtain ⟨v1,J,Cq,hR⟩:=mz W.base s tj.aF
  have I:Call CB 118 [.ptr p 0] h (fun v' h'=>v'=v1∧h'=J):=⟨v1,J,Cq,rfl,rfl⟩
  rcases hR with ⟨h0,rfl,s2⟩ | ⟨h0,rfl,s2⟩
  ·refine ⟨(.int .i64 9,J),⟨p,_,rfl,gp,.inr ⟨by rw [hd]; rfl,_,J,Cq,.inl ⟨rfl,rfl⟩⟩⟩,fun c w hr ha => ?_⟩
   refine fT.C3 (C:=CB) (args:=[.ptr p 0]) y_ BN (show 1≤Tryz.f75.ntmps by decide) ?_ hr ha
   refine eD.seq (eD.of g_ fB ?_)
   have s:=s1
   refine zr rfl (za rfl (zv ?_))
   refine eD.seq (eD.of g_ fB ?_)
   refine zK 4 rfl (zf rfl (jo _ _) (zh rfl (aV rfl (s.ld (k:=0) rfl jW rfl)) (hd) (zk 2 rfl (zc rfl (I) ?_))))
   rintro v h ⟨rfl,rfl⟩
   exact zo rfl (dX rfl rfl) (zk 7 rfl (WP.ret ⟨aa,oK rfl,rfl,fun _ _ h=>h⟩))
  ·obtain ⟨pg,wt,nw,lg,mk,tn,tl,ops,s3⟩:=bt.1 s2
   obtain ⟨im,row,rfl,s4⟩:=ga.1 (s3.ae [1])
   obtain ⟨mid,es,clock,rfl,hb,hn,s5⟩:=eA.1 (s4.ae [4])
   dsimp only [bringA,getA,aT] at s5
   have s6:=s5.ae [4,2,0,0,0,0]
   dsimp only [bringA,getA,aT] at s6
   have gp1:=s6.row (k:=0) rfl
   have gi:=s6.row (k:=1) rfl
   have gm:=s6.row (k:=2) rfl
   obtain ⟨a,b,_,_,q3⟩:=s6.at (k:=3) rfl
   obtain ⟨a',b',_,_,q4⟩:=s6.at (k:=4) rfl
   have rj:row.length=δ.c_.aq.length:=uF q4
   have Pv:=tc q3
   have V9:∀e∈es,0≤e.1∧e.1<(δ.c_.aq.length:Int):=fun e he=>by
    obtain ⟨x,k1,_⟩:=zD q3 e he
    exact hk _ k1
   have fW:∀e∈es,e.2.1.cells=[e.2.1]∧storable e.2.1=true:=fun e he=>by
    obtain ⟨x,_,k2⟩:=zD q3 e he
    have k3:ic b e.2.1 x:=k2
    rcases k3.2 with ⟨k4 | ⟨_,k4⟩,_⟩ | ⟨_,_,_,_,_,_,k4,_⟩
    ·rw [k4]; exact ⟨rfl,rfl⟩
    ·rw [k4]; exact ⟨rfl,rfl⟩
    ·rw [k4]; exact ⟨rfl,rfl⟩
   have nc:(es.map fun e=>e.1.toNat).Nodup:=by
    have J:(es.map (·.1)).Nodup:=by rw [Pv]; exact hn
    rw [List.nodup_iff_pairwise_ne,List.pairwise_map] at J ⊢
    refine (List.pairwise_iff_forall_sublist.2 fun {x y} V_ => ?_)
    have h2:=(List.pairwise_iff_forall_sublist.1 J) V_
    have hx:=(V9 x (V_.subset bn)).1
    have hy:=(V9 y (V_.subset (bl _ bn))).1
    omega
   refine ⟨(.int .i64 0,C5 J p _ im δ.c_.aq.length row mid es clock),⟨p,_,rfl,gp,.inr ⟨by rw [hd]; rfl,_,J,Cq,.inr ⟨rfl,_,im,_,row,mid,es,clock,gp1,rfl,rfl,gi,gm,rfl⟩⟩⟩,fun c w hr ha => ?_⟩
   refine fT.C3 (C:=CB) (args:=[.ptr p 0]) y_ BN (show 1≤Tryz.f75.ntmps by decide) ?_ hr ha
   refine eD.seq (eD.of g_ fB ?_)
   have s:=s1
   refine zr rfl (za rfl (zv ?_))
   refine eD.seq (eD.of g_ fB ?_)
   refine zK 4 rfl (zf rfl (jo _ _) (zh rfl (aV rfl (s.ld (k:=0) rfl jW rfl)) (hd) (zk 2 rfl (zc rfl (I) ?_))))
   rintro v h ⟨rfl,rfl⟩
   refine zo rfl (dX rfl rfl) (zp rfl (zv (zj rfl (WP.skip ?_))))
   refine eD.seq (eD.seq (eD.of g_ fB ?_))
   have s:=s6
   refine zK 3 rfl (zf rfl (AD _ _) (zl rfl (s.ld (k:=0) rfl l_ rfl) (aB.any rfl rfl rfl (OpR.range rfl rfl (show rangeV Tryz.prog h 86 (.map mid)=some (.ptr h.next 0,h.new (.iter mid clock clock [])) by simp only [rangeV,lu,gm])) ?_)))
   rintro v h' ⟨rfl,rfl⟩
   refine zv ?_
   have s7:=s.new (.iter mid clock clock [])
   refine eD.block ((Of (row:=row) (es:=es) (S:=_) rfl rj hb nc V9 fW ⟨[],⟨rfl,rfl,aa⟩,rfl,⟨rfl,fun _ _=>rfl⟩,by rw [Jj]; exact s7⟩).mono ?_)
   rintro ex E' h' ⟨rfl,gu,hs,seen,s⟩
   refine eD.of g_ fB (WP.has gu ?_)
   have e1:=s.V7 (P:=Tryz.prog) (k:=1) (t:=120) (off:=2) (v:=.bz) rfl R6 rfl (by decide) rfl rfl
   have s8:=s.put (o':=.cells 12 (List.set (ve δ.c_.room (.sl im 0 δ.c_.aq.length (.exact δ.c_.aq.length)) wt (.map mid) lg δ.c_.aL mk δ.c_.aF ops δ.c_.dead tn tl) 2 .bz) false) (k:=1) rfl
   have gn:p≠im:=(s.ae [1,1]).ne
   have HE:mid≠im:=(s.ae [3,2]).ne
   have gi:=s.row (k:=2) rfl
   have U:=QC (p:=p) (cs:=(ve δ.c_.room (.sl im 0 δ.c_.aq.length (.exact δ.c_.aq.length)) wt (.map mid) lg δ.c_.aL mk δ.c_.aF ops δ.c_.dead tn tl)) hs gi gn HE
   refine zK 4 rfl (zf rfl (tY _ _) (aB.RT rfl rfl (wg rfl rfl e1) ?_))
   have s:=s8
   have gm8:=s.row (k:=3) rfl
   refine zk 5 rfl (zf rfl (AD _ _) (zl rfl (s.ld (k:=1) rfl l_ rfl) (aB.g8 rfl rfl (OpR.builtin rfl rfl rfl (QD gm8 lu)) ?_)))
   rintro v h'' rfl
   exact zk 5 rfl (WP.ret ⟨aa,oK rfl,U.1,U.2⟩)
end
end Go.Proofs.YtconhghphklfjaaGreat.Am
