/- SpacePlays: a part of its proof; conditions: its statement's. -/
import Derived.Test.YtefepnnfphdkpaaGreatE23
import Derived.Test.YtefepnnfphdkpaaGreatE11
set_option linter.defProp false
namespace Go.Proofs.YtefepnnfphdkpaaGreat.Am
open Go
def xY:=@Tryz.underlying156
def xZ:=@Tryz.func139
structure nT (ε:aE): Prop where
 pl:ε.1.Ok
 lg:ε.2.1.Ok
 dk:ε.2.2.Ok
theorem OJ {ε:aE}{i:Nat}(h:ε.1.Ok): (outF ε i).2.1.Ok:=by
 unfold outF
 split
 ·exact h
 ·rename_i f J
  have hm:=a_ J
  split
  ·exact h
  ·split
   ·exact h
   ·split
    ·exact h
    ·split
     ·exact h
     ·refine ⟨by simp only [bJ]; exact h.hand,by simp only [bJ]; exact h.many,fun e he=>by simp only [bJ]; exact h.aI e he,fun g I => ?_,fun g I => ?_⟩
      ·rcases kV I with I | rfl
       ·exact h.len g I
       ·exact h.len f hm
      ·rcases kV I with I | rfl
       ·exact h.pins g I
       ·exact h.pins f hm
theorem qd {ε:aE}{i:Nat}(h:nT ε): nT (outF ε i).2:=⟨OJ h.pl,OD h.lg,AP h.dk⟩
theorem Az {δ:Dk}{n:Int}{b:List Nat}: (δ.dc n b).2.waiting.length≤δ.waiting.length+1:=by
 unfold Dk.dc
 split
 ·exact jh _
 ·split
  ·exact jh _
  ·split
   ·exact jh _
   ·exact Nat.le_of_eq (by simp [Dk.wr])
theorem Mi {ε:aE}{i:Nat}: (outF ε i).2.2.2.waiting.length≤ε.2.2.waiting.length+1:=by
 unfold outF
 split
 ·exact jh _
 ·rename_i f J
  split
  ·exact jh _
  ·split
   ·exact jh _
   ·split
    ·exact Nat.le_succ_of_le (Nat.le_of_eq (by rw [jX]))
    ·have I:=Az (δ:=(bH ε.2 (cT f.b 4 8)).2.2) (n:=f.bn) (b:=f.b)
     rw [jX] at I
     split <;> exact I
theorem Hv {ε:aE}{n:Int}(h:nT ε): nT (dS ε n).2:=by
 unfold dS
 split
 ·exact h
 ·exact qd h
theorem FX {ε:aE}{n:Int}: (dS ε n).2.2.2.waiting.length≤ε.2.2.waiting.length+1:=by
 unfold dS
 split
 ·exact jh _
 ·exact Mi
def writeAllF : List Int→aE→Int×aE
 | [],ε=>(0,ε)
 | n::l,ε=>if (dS ε n).1≠0 then dS ε n else writeAllF l (dS ε n).2
section
variable {told:cZ} {h:H} {S:List au} {X:au} {r k q p bR:Nat} {v x wh di:V} {l b:List Nat} {π:Pl} {m:List Fm} {μ:Lg} {δ:Dk}
noncomputable def waL : Code:=cV [1,0,1,0,0] ((Tryz.f92.body).getD .skip)
theorem Ek (hT:W told){ks:List Int}{kv:V}(QD:ks.length≤1048576): ∀(j i:Nat) (ε:aE) (h:H) (E:List (Nat×V)) (Q:Ex→List (Nat×V)→H→Prop),i+j=ks.length→nT ε→ε.2.2.waiting.length+j≤268435456 →
  Sat h (cK r p q ε.1::bx q p ε.2.1::aL p ε.2.2::.arr 1 kv (eT ks)::S)→Has E [(0,.ptr r 0),(11,kv),(12,.int .i64 ks.length),(13,.int .i64 i)] →
  ((writeAllF (ks.drop i) ε).1≠0→∀E' h',look E' 2=some (.int .i64 (writeAllF (ks.drop i) ε).1)→Sat h' (cK r p q (writeAllF (ks.drop i) ε).2.1::bx q p (writeAllF (ks.drop i) ε).2.2.1::aL p (writeAllF (ks.drop i) ε).2.2.2::S)→Q .ret E' h') →
  ((writeAllF (ks.drop i) ε).1=0→∀E' h',Sat h' (cK r p q (writeAllF (ks.drop i) ε).2.1::bx q p (writeAllF (ks.drop i) ε).2.2.1::aL p (writeAllF (ks.drop i) ε).2.2.2::S)→Q (.exit 0) E' h') →
  WP ⟨Tryz.prog,told⟩ 24 (.loop waL) E h Q:=by
 intro j
 induction j with
 | zero =>
  intro i ε h E Q hi I hw s hE J hx
  refine WP.loop (WP.has hE (zg rfl (zh rfl (af rfl rfl aK) (by simp <;> omega) ?_)))
  refine zk 3 rfl (WP.exit ?_)
  rw [gR (by omega)] at hx
  exact hx rfl _ _ (s.del 3)
 | succ j ih =>
  intro i ε h E Q hi I hw s hE J hx
  have hn:ks[i]?=some (ks[i]'(by omega)):=aN _
  generalize (ks[i]'(by omega))=n at hn
  have hc:(eT ks)[i]?=some (.int .i64 n):=by simp [eT,hn]
  have oY:ks.drop i=n::ks.drop (i+1):=by
   obtain ⟨h1,rfl⟩:=List.getElem?_eq_some_iff.1 hn
   exact rG h1
  rw [oY] at J hx
  obtain ⟨id,off,e1,e2⟩:=fY (P:=Tryz.prog) s (k:=3) rfl hc cM kA
  have Yy:=Hv (n:=n) I
  have QE:=FX (ε:=ε) (n:=n)
  refine WP.loop (WP.has hE (zg rfl (zt rfl (af rfl rfl aK) (by simp <;> omega) ?_)))
  refine zk 5 rfl (WP.block (zg rfl (zo rfl (cn (r:=.ptr id off) rfl rfl e1) (zl rfl (e2 _ cA) (zk 6 rfl (zc rfl (Me (n:=n) hT s I.pl I.lg I.dk (by omega)) ?_))))))
  rintro v h ⟨rfl,s⟩
  simp only [writeAllF] at J hx
  refine zk 5 rfl ?_
  by_cases he:(dS ε n).1=0
  ·skip
   refine zh rfl (af rfl rfl aG) (by simp; exact he) ?_
   refine zv (zj rfl (WP.skip (zr rfl (zb rfl (by exact bg (aB (by omega) (by omega))) ?_))))
   refine zm rfl (zv ?_)
   rw [ah (by simpa using he)] at J hx
   exact ih (i+1) (dS ε n).2 h _ Q (by omega) Yy (by omega) s ⟨rfl,rfl,rfl,rfl,aa⟩ J hx
  ·skip
   refine zt rfl (af rfl rfl aG) (by simp; exact he) ?_
   refine zk 7 rfl (WP.ret ?_)
   rw [aq he] at J
   exact J he _ _ rfl (s.del 3)
theorem Hw (I:W told)(s:Sat h (cK r p q π::bx q p μ::aL p δ::S))(J:nT (π,μ,δ))(hw:δ.waiting.length+π.aI.length≤268435456)(hm:π.aI.length≤1048576)(hk:∀n∈π.aI.map (·.1),(Lit.int .i64 n).wf=true):
  Call ⟨Tryz.prog,told⟩ 92 [.ptr r 0] h fun v h'=>v=.int .i64 (writeAllF (bw π.aI) (π,μ,δ)).1 ∧
   Sat h' (cK r p q (writeAllF (bw π.aI) (π,μ,δ)).2.1::bx q p (writeAllF (bw π.aI) (π,μ,δ)).2.2.1::aL p (writeAllF (bw π.aI) (π,μ,δ)).2.2.2::S):=by
 obtain ⟨bR,wh,di,s⟩:=cL.1 s
 obtain ⟨wid,rfl⟩:=xJ s (j:=2) rfl
 have hl:(bw π.aI).length=π.aI.length:=by rw [bw,(e_ _).length_eq,dF]
 refine Call.of_wp (I.free _ rfl) Tryz.func92 rfl rfl (zK 9 rfl (zf rfl (pX _ _) (zl rfl (s.ld (k:=0) rfl vW rfl) (zc rfl (OG I s) ?_))))
 rintro v h ⟨b,rfl,s⟩
 refine zc rfl (qH I (s.ae [0,2]) (by decide) hm hk) ?_
 intro kv h s
 refine zo rfl (aT rfl rfl rfl (s.eY (n:=(bw π.aI).length) (j:=0) rfl (by simp [eT]) (by decide) cM)) ?_
 refine zk 2 rfl (WP.block ?_)
 have s:=cL.2 ⟨bR,.map wid,di,s.ae [3,3,2,2]⟩
 have s:=(s.del 2).ae [0,1,1,0]
 refine Ek I (ks:=bw π.aI) (by omega) (bw π.aI).length 0 (π,μ,δ) _ _ _ (by omega) J (by simp only; omega) s ⟨rfl,rfl,rfl,rfl,aa⟩ (fun he E' h' h2 s' => ?_) (fun he E' h' s' => ?_)
 ·rw [eP] at h2 s'
  exact ⟨aa,_,qQ h2,rfl,s'⟩
 ·rw [eP] at he s'
  rw [he]
  exact WP.has (F:=[]) aa (zK 4 rfl (WP.ret ⟨aa,_,rfl,rfl,s'⟩))
end
def dirtC (π:Pl): List Int→List V
 | []=>[]
 | n::l=>.int .i64 n::.int .u64 (gI π n 0:Nat)::dirtC π l
theorem x_ (π:Pl): ∀l:List Int,(dirtC π l).length=l.length*2:=by
 intro l
 induction l with
 | nil=>rfl
 | cons n l I=>simp only [dirtC,aH,I]; omega
theorem Mj (π:Pl): ∀l m:List Int,dirtC π (l++m)=dirtC π l++dirtC π m:=by
 intro l m
 induction l with
 | nil=>rfl
 | cons n l I=>simp only [gy,dirtC,I]
theorem DS : ∃i,Tryz.prog.info? 159=some i∧i.size=2∧i.bytes=16 :=
 ⟨_,(show Tryz.prog.info? 159=some ((Tryz.prog.info? 159).getD default) by kernel_rfl),by kernel_rfl,by kernel_rfl⟩
section
variable {told:cZ} {h:H} {S:List au} {X:au} {r k q p bR:Nat} {v x wh di:V} {l b:List Nat} {π:Pl} {m:List Fm} {μ:Lg} {δ:Dk}
noncomputable def diL : Code:=cV [1,1,0,1,0,0] ((Tryz.f94.body).getD .skip)
theorem J8 (hT:W told){ks:List Int}{kv:V}(QD:ks.length≤1048576): ∀(j i:Nat) (av:V) (h:H) (E:List (Nat×V)) (Q:Ex→List (Nat×V)→H→Prop),i+j=ks.length →
  Sat h (.arr 2 av (dirtC π (ks.take i))::cK r p q π::.arr 1 kv (eT ks)::S)→Has E [(0,.ptr r 0),(3,av),(17,kv),(18,.int .i64 ks.length),(19,.int .i64 i)] →
  (∀I E' h',look E' 3=some I→Sat h' (.arr 2 I (dirtC π ks)::cK r p q π::S)→Q (.exit 0) E' h') →
  WP ⟨Tryz.prog,told⟩ 37 (.loop diL) E h Q:=by
 intro j
 induction j with
 | zero =>
  intro i av h E Q hi s hE hx
  refine WP.loop (WP.has hE (zg rfl (zh rfl (af rfl rfl aK) (by simp <;> omega) ?_)))
  refine zk 3 rfl (WP.exit ?_)
  rw [fq (by omega)] at s
  exact hx _ _ _ rfl (s.del 2)
 | succ j ih =>
  intro i av h E Q hi s hE hx
  have hn:ks[i]?=some (ks[i]'(by omega)):=aN _
  generalize (ks[i]'(by omega))=n at hn
  have hc:(eT ks)[i]?=some (.int .i64 n):=by simp [eT,hn]
  have J:ks.take (i+1)=ks.take i++[n]:=by rw [yL,hn]; rfl
  obtain ⟨id,off,e1,e2⟩:=fY (P:=Tryz.prog) s (k:=2) rfl hc cM kA
  refine WP.loop (WP.has hE (zg rfl (zt rfl (af rfl rfl aK) (by simp <;> omega) ?_)))
  refine zk 5 rfl (WP.block (zg rfl (zo rfl (cn (r:=.ptr id off) rfl rfl e1) (zl rfl (e2 _ cA) ?_))))
  obtain ⟨bR,wh,di,s⟩:=cL.1 (s.ae [1])
  dsimp only [bringA,getA,bf] at s
  refine zk 7 rfl (zf rfl (my _ _) (zl rfl (s.ld (k:=0) rfl qo rfl) (zm rfl ?_)))
  have Mk:eB Tryz.prog h 187 di (.int .i64 n) false=some (.agg [.int .u64 (gI π n 0:Nat),.bool (match lookL n π.br with | some x=>x.2 | none=>false)]):=by
   rcases C9 (n:=n) (s.ae [3]) with ⟨g1,_,g2⟩ | ⟨x,g1,_,g2⟩
   ·rw [g2]; simp only [gI,g1]; rfl
   ·rw [g2]; simp only [gI,g1]
  refine zo rfl (iD rfl rfl Mk) (zo rfl (Qg rfl (Qh (Iu _) rfl)) (zo rfl (dA rfl (by rw [VQ]; rfl)) ?_))
  obtain ⟨rv,h1,tj,s1⟩:=lE (P:=Tryz.prog) (x:=.agg [.int .i64 n,.int .u64 (gI π n 0:Nat)]) s xY Ey JM rfl (by decide) (by decide) rfl rfl
  dsimp only [V.cells] at s1
  refine az.any rfl rfl rfl (OpR.of (R:=fun v h'=>v=rv∧h'=h1) (mD rfl tj) ⟨rfl,rfl⟩) ?_
  rintro v h' ⟨rfl,rfl⟩
  obtain ⟨i1,jk,iE,tY⟩:=DS
  have fC:(ks.take i).length≤1048576:=by simp; omega
  obtain ⟨I,h2,qF,s2⟩:=g_ (s1.ae [5,0]) xY jk Ey iE (by omega) rfl (by decide) (by simp only [x_,aH,bM]; omega)
  dsimp only [bringA,getA,bf] at s2
  refine az.any rfl rfl rfl (OpR.of (R:=fun v h'=>v=I∧h'=h2) (mH rfl rfl qF) ⟨rfl,rfl⟩) ?_
  rintro v h' ⟨rfl,rfl⟩
  refine za rfl (zv (zr rfl (zb rfl (by exact bg (aB (by omega) (by omega))) ?_)))
  refine zm rfl (zv ?_)
  have s3:=cL.2 ⟨bR,wh,di,s2.ae [2,2,2,2]⟩
  have s4:=(s3.del 2).ae [1,0,0]
  refine ih (i+1) _ _ _ _ (by omega) ?_ ⟨rfl,rfl,rfl,rfl,rfl,aa⟩ hx
  rw [J,Mj]
  exact s4
theorem OK (I:W told)(s:Sat h (cK r p q π::S))(hm:π.br.length≤1048576)(hk:∀n∈π.br.map (·.1),(Lit.int .i64 n).wf=true):
  Call ⟨Tryz.prog,told⟩ 94 [.ptr r 0] h fun v h'=>Sat h' (.arr 2 v (dirtC π (bw π.br))::cK r p q π::S):=by
 obtain ⟨bR,wh,di,s⟩:=cL.1 s
 obtain ⟨J,rfl⟩:=xJ s (j:=3) rfl
 have hl:(bw π.br).length=π.br.length:=by rw [bw,(e_ _).length_eq,dF]
 refine Call.of_wp (I.free _ rfl) Tryz.func94 rfl rfl (zK 8 rfl (zf rfl (my _ _) (zl rfl (s.ld (k:=0) rfl qo rfl) (zo rfl (aT rfl rfl rfl (FA (s.ae [3]) oV)) ?_))))
 obtain ⟨i1,jk,iE,tY⟩:=DS
 obtain ⟨av,h1,e1,s1⟩:=qy (P:=Tryz.prog) s xY jk Ey iE (by omega) rfl (by decide) (by decide) (n:=0) (c:=π.br.length) (by omega) (by omega)
 dsimp only [repeatL] at s1
 refine az.any rfl rfl rfl (OpR.of (R:=fun v h'=>v=av∧h'=h1) (ry rfl rfl e1) ⟨rfl,rfl⟩) ?_
 rintro v h' ⟨rfl,rfl⟩
 have s:=s1
 refine zk 7 rfl (zf rfl (my _ _) (zl rfl (s.ld (k:=1) rfl qo rfl) (zc rfl (OH I s) ?_)))
 rintro v h ⟨b,rfl,s⟩
 refine zc rfl (qH I (s.ae [0,4]) (by decide) hm hk) ?_
 intro kv h s
 refine zo rfl (aT rfl rfl rfl (s.eY (n:=(bw π.br).length) (j:=0) rfl (by simp [eT]) (by decide) cM)) ?_
 refine zk 2 rfl (WP.block ?_)
 have s:=cL.2 ⟨bR,wh,.map J,s.ae [4,4,4,2]⟩
 have s:=(s.del 2).ae [2,0,0]
 refine J8 I (π:=π) (ks:=bw π.br) (by omega) (bw π.br).length 0 _ _ _ _ (by omega) s ⟨rfl,rfl,rfl,rfl,rfl,aa⟩ (fun qW E' h' h2 s' => ?_)
 exact WP.has (F:=[(3,qW)]) ⟨h2,aa⟩ (zK 5 rfl (WP.ret ⟨aa,_,rfl,s'⟩))
end
def FY (ax:Nat)(Q:Ex→List (Nat×V)→H→Prop)(c:Ctx)(a:Act)(w:World)(e:Exit)(J:Act)(w':World): Prop :=
 ∃ex I h' E',e=exOf ex∧ja I E'∧Q ex E' h'∧J.defers=a.defers∧∃c',Rel c' h' w'∧dy c' I ax J∧cF c w c' w'
def dJ (C:cB)(ax:Nat)(code:Code)(E:List (Nat×V))(h:H)(Q:Ex→List (Nat×V)→H→Prop): Prop :=
 ∀(c:Ctx) (a:Act) (w:World) (env:Env),ja env E→Rel c h w→dy c env ax a→code.wpIn (Fr none) 0 C.P (FY ax Q c a w) a w
section
variable {C:cB} {ax:Nat} {E:List (Nat×V)} {h:H} {Q Q':Ex→List (Nat×V)→H→Prop} {a b:Code}
theorem FY.trans {c c₁:Ctx}{A I a':Act}{w J w':World}{e:Exit}(hd:I.defers=A.defers)(hs:cF c w c₁ J)(ho:FY ax Q c₁ I J e a' w'): FY ax Q c A w e a' w':=by
 obtain ⟨ex,AQ,h',E',h1,h2,h3,h4,c',h5,h6,h7⟩:=ho
 exact ⟨ex,AQ,h',E',h1,h2,h3,h4.trans hd,c',h5,h6,hs.trans h7⟩
theorem dJ.of (hm:C.P.follows .mixedOrders=true)(J:fo C)(hw:WP C ax a E h Q): dJ C ax a E h Q:=by
 intro c A w env hE hr he
 obtain ⟨N,ex,I,h',E',h1,h2,h3⟩:=hw env hE
 refine wpIn_mono ((Bj hm J N).1 _ _ _ _ h1 none c A w hr he) ?_
 rintro e a' w' ⟨rfl,h4,c',h5,h6,h7⟩
 exact ⟨ex,I,h',E',rfl,h2,h3,h4,c',h5,h6,h7⟩
theorem dJ.mono (hw:dJ C ax a E h Q)(J:∀ex E' h',Q ex E' h'→Q' ex E' h'): dJ C ax a E h Q':=by
 intro c A w env hE hr he
 refine wpIn_mono (hw c A w env hE hr he) ?_
 rintro e a' w' ⟨ex,I,h',E',h1,h2,h3,h4⟩
 exact ⟨ex,I,h',E',h1,h2,J _ _ _ h3,h4⟩
theorem dJ.seq (hw:dJ C ax a E h fun ex E' h'=>match ex with
  | .normal=>dJ C ax b E' h' Q
  | ex=>Q ex E' h'): dJ C ax (.seq a b) E h Q:=by
 intro c A w env hE hr he
 refine wpIn_seq (wpIn_mono (hw c A w env hE hr he) ?_)
 rintro e J ur ⟨ex,I,h',E',rfl,h2,h3,h4,c₁,h5,h6,h7⟩
 cases ex with
 | normal=>exact wpIn_mono (h3 c₁ J ur I h2 h5 h6) fun e a' w' ho=>ho.trans h4 h7
 | exit i=>exact ⟨_,I,h',E',rfl,h2,h3,h4,c₁,h5,h6,h7⟩
 | ret=>exact ⟨_,I,h',E',rfl,h2,h3,h4,c₁,h5,h6,h7⟩
theorem dJ.cond {x:Operand}{t:Bool}(J:lookO E x=some (.bool t))(hw:dJ C ax (_root_.cond t a b) E h Q): dJ C ax (.cond x a b) E h Q:=by
 intro c A w env I hr he
 obtain ⟨e1,_⟩:=w6 he (bN I J)
 refine wpIn_cond (t:=t) (by rw [e1]; rfl) ?_
 have:=hw c A w env I hr he
 cases t <;> simpa using this
theorem dJ.block {i:Nat}(hw:dJ C ax b E h fun ex E' h'=>match ex with
  | .exit j=>_root_.cond (Nat.beq j i) (Q .normal E' h') (Q (.exit j) E' h')
  | ex=>Q ex E' h'): dJ C ax (.block i b) E h Q:=by
 intro c A w env hE hr he
 refine wpIn_block (wpIn_mono (hw c A w env hE hr he) ?_)
 rintro e Ef ur ⟨ex,I,h',E',rfl,h2,J,h4,c₁,h5,h6,h7⟩
 cases ex with
 | normal=>simp only [exOf,Exit.inBlock]; exact ⟨.normal,I,h',E',rfl,h2,J,h4,c₁,h5,h6,h7⟩
 | exit j =>
  by_cases hj:j=i
  ·simp only [iA hj,ag] at J
   simp only [exOf,Exit.inBlock,hj,bE]
   exact ⟨.normal,I,h',E',rfl,h2,J,h4,c₁,h5,h6,h7⟩
  ·simp only [cH hj,ay] at J
   simp only [exOf,Exit.inBlock,hj,bG]
   exact ⟨.exit j,I,h',E',rfl,h2,J,h4,c₁,h5,h6,h7⟩
 | ret=>simp only [exOf,Exit.inBlock]; exact ⟨.ret,I,h',E',rfl,h2,J,h4,c₁,h5,h6,h7⟩
theorem dJ.loop (J:Nat→List (Nat×V)→H→Prop)(hJ:∀j E h,J j E h→dJ C ax b E h fun ex E' h'=>match ex with
  | .normal=>∃i,i<j∧J i E' h'
  | ex=>Q ex E' h'){j:Nat}(h0:J j E h): dJ C ax (.loop b) E h Q:=by
 have key:∀m j E h,j<m→J j E h→∀(c:Ctx) (A:Act) (w:World) (env:Env) (R:Exit→Act→World→Prop),ja env E→Rel c h w→dy c env ax A →
   (∀e a' w',FY ax Q c A w e a' w'→R e a' w')→Code.roundsIn (Fr none) 0 C.P b R m A w:=by
  intro m
  induction m with
  | zero=>intro j E h hj; omega
  | succ m ih =>
   intro j E h hj hJj c A w env R hE hr he hR
   rw [roundsIn_succ]
   refine wpIn_mono (hJ j E h hJj c A w env hE hr he) ?_
   rintro e Ef ur ⟨ex,I,h',E',rfl,h2,h3,h4,c₁,h5,h6,h7⟩
   cases ex with
   | normal =>
    obtain ⟨i,hi,h3⟩:=h3
    exact ih i E' h' (by omega) h3 c₁ Ef ur I R h2 h5 h6 fun e a' w' ho=>hR _ _ _ (ho.trans h4 h7)
   | exit i=>exact hR _ _ _ ⟨_,I,h',E',rfl,h2,h3,h4,c₁,h5,h6,h7⟩
   | ret=>exact hR _ _ _ ⟨_,I,h',E',rfl,h2,h3,h4,c₁,h5,h6,h7⟩
 intro c A w env hE hr he
 exact wpIn_loop_rounds (j+1) (key (j+1) j E h (by omega) h0 c A w env _ hE hr he fun _ _ _ ho=>ho)
theorem Ml {α β:Type}{f:α→Option (List β)}{p:β→Prop}: ∀ {L:List α},(∀q∈L,∃s,f q=some [s]∧p s)→∃R,flatM f L=some R∧∀s∈R,p s:=by
 intro L
 induction L with
 | nil=>intro _; exact ⟨[],rfl,fun s hs=>by cases hs⟩
 | cons q L ih =>
  intro J
  obtain ⟨R,h1,h2⟩:=ih fun q I=>J q (b6 _ I)
  obtain ⟨s,e1,e2⟩:=J q ct
  refine ⟨s::R,?_,fun s' hs => ?_⟩
  ·simp only [flatM,e1,h1,gy,dn]
  ·rcases List.mem_cons.1 hs with rfl | hs
   ·exact e2
   ·exact h2 s' hs
theorem dJ.next {id:Nat}{I J:Oper}{x y:Operand}{r tG Da:Nat}{L:List (V×H)}(hm:C.P.follows .mixedOrders=true)(hT:fo C)(aaq:I.guard=none)(aar:J.guard=none)(aas:I.op=.next x false)(aat:I.dst=some tG)
 (aau:J.op=.extract y 0)(hy:y=.tmp tG)(aav:J.dst=some Da)(SY:Nat.blt tG ax=true)(Vv:Nat.blt Da ax=true)(hx:lookO E x=some (.ptr r 0))(hL:nextAll h r=some L)
 (hq:∀q∈L,∃t l,q.1=.aY (t::l)∧Q .normal ((Da,t)::(tG,q.1)::E) q.2): dJ C ax (.region id #[I,J] false) E h Q:=by
 intro c A w env hE hr he
 subst hy
 have hS:=(Bj (C:=C) hm hT 0).1
 refine wpIn_region ?_
 rw [Cc,←yI]
 have kx:∃R,opsAll C (ev C 0) (#[I,J]:Array Oper).toList (#[I,J]:Array Oper).toList ⟨env,ax,h⟩=some R∧∀s∈R,∃E',ja s.env E'∧s.ax=ax∧Q .normal E' s.h:=by
  have e1:∀Jj:Env,wantedV [I,J] Jj I=true:=fun Jj=>by simp only [wantedV,aaq]
  have e2:∀Jj:Env,wantedV [I,J] Jj J=true:=fun Jj=>by simp only [wantedV,aar]
  have js:=bN hE hx
  simp only [opsAll,e1,e2,ag,opAll,aas,js,cN,hL]
  refine Ml fun q nC => ?_
  obtain ⟨t,l,k1,k2⟩:=hq q nC
  refine ⟨⟨(env.set tG (some q.1)).set Da (some t),ax,q.2⟩,?_,_,(hE.set tG q.1).set Da t,rfl,k2⟩
  have hg:evO (T.set env tG (some (V.aY (t::l)))) (.tmp tG)=some (.aY (t::l)):=by simp only [evO,Env.v,aP,bE]
  simp only [St.put,aat,SY,ag,aau,evOp,k1,hg,nth,cN,aQ,aav,Vv,flatM,gz]
 obtain ⟨R,kx,h2⟩:=kx
 refine Lm hS hT _ 0 ⟨env,ax,h⟩ R c A w (fun j=>by rw [dY,iG]) kx hr he ?_
 intro s' DB c' a' w' r1 r2 r3 r4
 obtain ⟨E',e1,e2,e3⟩:=h2 s' DB
 exact ⟨.normal,s'.env,s'.h,E',rfl,e1,e3,r4,c',r1,by rw [e2] at r2; exact r2,r3⟩
theorem fI.BV {f:FuncId}{fn:Func}{code:Code}{args:List V}{v:V}{eL:H}(hf:C.P.funcs[f]?=some fn)(hb:fn.body=some code)(hn:args.length≤fn.ntmps)
 (hw:dJ C fn.ntmps code (argE args 0) h fun ex E' h'=>(match ex with | .exit _=>False | _=>True)∧jA C.P E' h' fn.results.toList=some v∧eL.next=h'.next∧∀id o,T.get eL.tr id=some o→T.get h'.tr id=some o)
 {c:Ctx}{w:World}(hr:Rel c h w)(ha:∀x∈args,wf c x): fI C.P f args c w v eL:=by
 have sJ:=mR (c:=c) hn ha
 have KY:=hw c _ w _ (CI args) hr sJ
 unfold fI
 refine calls_of_wp hf hb (wpIn_wide.1 (wpIn_mono KY ?_))
 rintro e a' w' ⟨ex,AQ,h',E',rfl,jl,⟨hx,I,DR,hle⟩,hd,c',r1,r2,r3⟩
 have fin:a'.defers=[]∧∃x,(results fn a'.tmps).run C.P w'=.ok x w'∧∃lZ,Ending.returned x=.returned (conc lZ v)∧wf lZ v∧Rel lZ eL w'∧cF c w lZ w':=by
  refine ⟨hd,?_⟩
  unfold jA at I
  cases K7:mapO (resE C.P E' h') fn.results.toList with
  | none=>simp [K7] at I
  | some vs =>
   rw [K7] at I
   have wN:=CH (P:=C.P) (s:=⟨AQ,fn.ntmps,h'⟩) jl K7
   obtain ⟨t1,t2⟩:=vN (s:=⟨AQ,fn.ntmps,h'⟩) r1 r2 wN
   refine ⟨_,t1,c',?_⟩
   have J:=r1.VC DR hle
   match vs,I with
   | [],I =>
    simp at I
    subst I
    refine ⟨?_,by simp [wf,eW],J,r3⟩
    simp [conc,concL]
   | [x],I =>
    simp at I
    subst I
    exact ⟨by simp,t2 _ (by simp),J,r3⟩
   | x::y::l,I =>
    simp at I
    subst I
    refine ⟨?_,by simp only [wf,fR]; exact t2,J,r3⟩
    rw [dif_neg (by simp)]
    simp [conc,fL,concL]
 cases ex with
 | normal=>simpa [bodyPost,exOf] using fin
 | exit i=>exact hx.elim
 | ret=>simpa [bodyPost,exOf] using fin
end
end Go.Proofs.YtefepnnfphdkpaaGreat.Am
namespace Go.Proofs.YtefepnnfphdkpaaGreat.Am
open Go
theorem lF (l:List Nat)(b x:Nat): inL (l++[b]) x=(inL l x||Nat.beq b x):=by
 induction l with
 | nil=>simp only [dn,inL,rR]; cases Nat.beq b x <;> rfl
 | cons y l I=>simp only [gy,inL,I]; cases Nat.beq y x <;> simp
theorem DT {seen:List Nat}: ∀ {l:List (V×V×Nat)} {e:V×V×Nat},e∈leftV seen l→e∈l∧inL seen e.2.2=false:=by
 intro l
 induction l with
 | nil=>intro e h; cases h
 | cons y l I =>
  intro e h
  simp only [leftV] at h
  cases J:inL seen y.2.2 with
  | true=>rw [J,ag] at h; exact ⟨b6 _ (I h).1,(I h).2⟩
  | false =>
   rw [J,ay] at h
   rcases List.mem_cons.1 h with rfl | h
   ·exact ⟨ct,J⟩
   ·exact ⟨b6 _ (I h).1,(I h).2⟩
theorem Mm {seen:List Nat}: ∀ {l:List (V×V×Nat)},leftV seen l=[]→∀e∈l,inL seen e.2.2=true:=by
 intro l
 induction l with
 | nil=>intro _ e he; cases he
 | cons y l J =>
  intro h e he
  simp only [leftV] at h
  cases I:inL seen y.2.2 with
  | false=>rw [I,ay] at h; cases h
  | true =>
   rw [I,ag] at h
   rcases List.mem_cons.1 he with rfl | he
   ·exact I
   ·exact J h e he
theorem FZ {seen:List Nat}{b:Nat}: ∀ {l:List (V×V×Nat)},(leftV (seen++[b]) l).length≤(leftV seen l).length:=by
 intro l
 induction l with
 | nil=>exact aD _
 | cons y l I =>
  simp only [leftV,lF]
  cases inL seen y.2.2 <;> cases Nat.beq b y.2.2 <;> simp <;> omega
theorem OL {seen:List Nat}: ∀ {l:List (V×V×Nat)} {e:V×V×Nat},e∈leftV seen l→(leftV (seen++[e.2.2]) l).length<(leftV seen l).length:=by
 intro l
 induction l with
 | nil=>intro e h; cases h
 | cons y l J =>
  intro e h
  simp only [leftV] at h
  cases I:inL seen y.2.2 with
  | true =>
   rw [I,ag] at h
   simp only [leftV,lF,I,Bool.true_or,ag]
   exact J h
  | false =>
   rw [I,ay] at h
   simp only [leftV,lF,I,rR,ay]
   rcases List.mem_cons.1 h with rfl | h
   ·rw [cN,ag]
    have:=FZ (seen:=seen) (b:=e.2.2) (l:=l)
    simp; omega
   ·cases Nat.beq e.2.2 y.2.2
    ·simp only [ay,aH]; have:=J h; omega
    ·simp only [ag,aH]; have:=FZ (seen:=seen) (b:=e.2.2) (l:=l); omega
theorem Mn {c:Nat}: ∀ {l:cE} {b:Nat},gv c b l→sx c (l.map eG)=true:=by
 intro l
 induction l with
 | nil=>intro b _; rfl
 | cons e l I =>
  intro b h
  simp only [bQ,eG,sx]
  rw [gB.2 h.2.1,ag]
  exact I h.2.2
theorem Hx {c:Nat}: ∀ {l:cE} {b:Nat},gv c b l→bornRise b (l.map eG)=true:=by
 intro l
 induction l with
 | nil=>intro b _; rfl
 | cons e l I =>
  intro b h
  simp only [bQ,eG,bornRise]
  rw [aF.2 h.1,ag]
  exact I h.2.2
theorem nU {c:Nat}: ∀ {l:cE} {b:Nat},gv c b l→∀e∈l,b≤e.2.2:=by
 intro l
 induction l with
 | nil=>intro b _ e he; cases he
 | cons y l I =>
  intro b h e he
  rcases List.mem_cons.1 he with rfl | he
  ·exact h.1
  ·have:=I h.2.2 e he; have:=h.1; omega
theorem o6 {c:Nat}: ∀ {l:cE} {b:Nat} {e:Int×V×Nat},gv c b l→e∈l→rX e.2.2 (l.map eG)=some (eG e):=by
 intro l
 induction l with
 | nil=>intro b e _ he; cases he
 | cons y l I =>
  intro b e h he
  simp only [bQ,rX]
  rcases List.mem_cons.1 he with rfl | he
  ·show cond (Nat.beq e.2.2 e.2.2) _ _=_
   rw [cN,ag]
  ·have:=nU h.2.2 e he
   show cond (Nat.beq y.2.2 e.2.2) _ _=_
   rw [cH (by omega),ay]
   exact I h.2.2 he
theorem Mo : ∀(l:List Nat) (b:Nat),lastN (l++[b])=some b:=by
 intro l b
 induction l with
 | nil=>rfl
 | cons x l I =>
  cases l with
  | nil=>rfl
  | cons y l=>simpa [lastN] using I
section
variable {h:H} {r mid since clock b:Nat} {seen:List Nat} {es:cE}
theorem F0 {e:Int×V×Nat}(J:T.get h.tr r=some (.iter mid since clock (seen++[e.2.2])))(hm:T.get h.tr mid=some (.map (es.map eG) clock))(I:gv clock 0 es)(he:e∈es):
  sy h (.ptr r 0)=some (.aY [.int .i64 e.1,e.2.1]):=by
 simp only [sy,cN,ag,J,hm,Hx I,gA,Mo,o6 I he]
 rfl
theorem next_at (I:T.get h.tr r=some (.iter mid since clock seen))(hs:since≤clock)(hm:T.get h.tr mid=some (.map (es.map eG) clock))(J:gv since 0 es):
  nextAll h r=some (match leftV seen (es.map eG) with
   | []=>[(.aY [.bool false],h)]
   | l=>l.map fun e=>(.aY [.bool true,e.1,e.2.1],h.put r (some (.iter mid since clock (seen++[e.2.2]))))):=by
 simp only [nextAll,I,hm,Mn J,aF.2 hs,gA,ag]
 cases leftV seen (es.map eG) <;> rfl
theorem F1 {L:List (V×H)}(hg:T.get h.tr r=some (.iter mid since clock seen))(hs:since≤clock)(hm:T.get h.tr mid=some (.map (es.map eG) clock))(hb:gv since 0 es)(hL:nextAll h r=some L):
  ∀q∈L,(q=(.aY [.bool false],h)∧∀e∈es,inL seen e.2.2=true) ∨
   ∃e∈es,inL seen e.2.2=false∧(leftV (seen++[e.2.2]) (es.map eG)).length<(leftV seen (es.map eG)).length∧q=(.aY [.bool true,.int .i64 e.1,e.2.1],h.put r (some (.iter mid since clock (seen++[e.2.2])))):=by
 rw [next_at hg hs hm hb] at hL
 simp only [ak] at hL
 subst hL
 intro q hq
 cases J:leftV seen (es.map eG) with
 | nil =>
  rw [J] at hq
  refine .inl ⟨List.mem_singleton.1 hq,fun e he => ?_⟩
  exact Mm J (eG e) (m7 he)
 | cons y l =>
  rw [J] at hq
  obtain ⟨e',I,rfl⟩:=List.mem_map.1 hq
  rw [←J] at I
  obtain ⟨h1,h2⟩:=DT I
  obtain ⟨e,he,rfl⟩:=List.mem_map.1 h1
  have h3:=OL I
  rw [J] at h3
  exact .inr ⟨e,he,h2,h3,rfl⟩
end
open Classical in
noncomputable def l8 (P:Program)(f:FuncId)(iV:List V→H→V×H→Prop)(args:List V)(h:H): Option (V×H) :=
 if I:∃r,iV args h r∧∀(c:Ctx) (w:World),Rel c h w→(∀x∈args,wf c x)→fI P f args c w r.1 r.2 then some I.choose else none
theorem ya {P : Program} {f : FuncId} {iV : List V → H → V × H → Prop} (J : ∃ fn, P.funcs[f]? = some fn ∧ fn.body.isSome = true ∧ (fn.name == "runtime.NumGoroutine") = false) : H7 P f (l8 P f iV) := by
 refine .inl ⟨J, fun args σ v eL I c w h hw => ?_⟩
 unfold l8 at I
 split at I
 ·rename_i hx
  have := hx.choose_spec.2 c w h hw
  injection I with I
  rw [I] at this
  exact this
 ·cases I
theorem yb {P:Program}{f:FuncId}{iV:List V→H→V×H→Prop}{args:List V}{h:H}{r:V×H}(J:iV args h r)(h2:∀(c:Ctx) (w:World),Rel c h w→(∀x∈args,wf c x)→fI P f args c w r.1 r.2):
  ∃r,l8 P f iV args h=some r∧iV args h r:=by
 have I:∃r,iV args h r∧∀(c:Ctx) (w:World),Rel c h w→(∀x∈args,wf c x)→fI P f args c w r.1 r.2:=⟨r,J,h2⟩
 refine ⟨I.choose,?_,I.choose_spec.1⟩
 unfold l8
 rw [dif_pos I]
noncomputable def zX (f:Nat): Option (List V→H→Option (V×H)) :=
 cond (Nat.beq f 61) (some (toldSorted zT)) (cond (Nat.beq f 178) (some toldMore) none)
noncomputable abbrev CB : cB:=⟨Tryz.prog,zX⟩
theorem g8 : Tryz.prog.follows .mixedOrders=true:=by kernel_rfl
theorem fg : fo CB:=by
 intro f g I
 simp only [CB,zX] at I ⊢
 by_cases h1:f=61
 ·subst h1
  rw [iA rfl,ag] at I
  simp only [ak] at I
  subst I
  exact .inl ⟨⟨_,Tryz.func61,rfl,by decide⟩,fun args σ v J hr c w h _=>Ei bI LQ hr h⟩
 ·rw [cH h1,ay] at I
  by_cases h2:f=178
  ·subst h2
   rw [iA rfl,ag] at I
   simp only [ak] at I
   subst I
   exact .inl ⟨⟨_,Bn,rfl,by decide⟩,fun args σ v J hr c w h hw=>He (C:=CB) rfl g8 hr h hw⟩
  ·rw [cH h2,ay] at I
   cases I
theorem W.base : W zX:=by
 refine ⟨fun f I => ?_,rfl,rfl⟩
 have J:f≠61:=fun e=>by subst e; revert I; decide
 have h2:f≠178:=fun e=>by subst e; revert I; decide
 simp only [zX,cH J,cH h2,ay]
theorem gF.det {C:cB}{f:FuncId}{args:List V}{h:H}{v v':V}{h₁ I:H}(a:gF C f args h v h₁)(b:gF C f args h v' I): v=v'∧h₁=I:=by
 obtain ⟨N,hN⟩:=a
 obtain ⟨M,hM⟩:=b
 have e1:=oP (fT (oa N M)) hN
 have J:=oP (fT (n_ N M)) hM
 rw [e1] at J
 simp only [ak,aC] at J
 exact J
section
variable {P:Program} {h:H} {S:List au} {k id off n:Nat} {cs:List V} {st:Bool} {v:V} {t:TypeId}
theorem Sat.Uz (s:Sat h S)(hk:getA S k=some (pt id (.cells n cs false)))(hs:bq P t=some 1)(hl:cs.length=n)(ho:off<n)(hv:v.cells=[v])(I:storable v=true):
  fK P h t (.ptr id off) v=some (h.put id (some (.cells n (cs.set off v) false))):=by
 simp only [fK,hs,hv,aH,bM,gU,k_,I,Bool.and_true]
 rw [show Nat.beq (0+1) 1=true from rfl,ag]
 simp only [wrN,s.row hk,aH,bM]
 rw [aF.2 (show off+(0+1)≤n by omega),ag]
 congr 3
 rw [HO,aq (by omega)]
 cases J:(Nat.beq off 0&&Nat.beq (0+1) n) with
 | true =>
  simp only [aJ,beq_iff] at J
  obtain ⟨rfl,hn⟩:=J
  rw [ag]
  have:cs.drop (0+1)=[]:=gR (by omega)
  simp [this]
 | false=>rw [ay]; rfl
end
theorem OpR.entry {C:cB}{E:List (Nat×V)}{h:H}{o:Oper}{x:Operand}{v r:V}(I:o.op=.entry x)(J:lookO E x=some v)(hf:sy h v=some r): OpR C E h o fun w h'=>w=r∧h'=h :=
 ⟨r,h,⟨rfl,rfl⟩,fun env hE=>⟨0,by simp only [evOp,I,bN hE J,hf,aQ]⟩⟩
theorem OpR.range {C:cB}{E:List (Nat×V)}{h:H}{o:Oper}{x:Operand}{t:TypeId}{v r:V}{h₁:H}(I:o.op=.range t x)(J:lookO E x=some v)(hf:rangeV C.P h t v=some (r,h₁)): OpR C E h o fun w h'=>w=r∧h'=h₁ :=
 ⟨r,h₁,⟨rfl,rfl⟩,fun env hE=>⟨0,by simp only [evOp,I,bN hE J,hf]⟩⟩
def doneRow (seen:List Nat): cE→List V→List V
 | [],row=>row
 | e::l,row=>doneRow seen l (cond (inL seen e.2.2) (row.set e.1.toNat e.2.1) row)
def mX : cE→List V→List V
 | [],row=>row
 | e::l,row=>mX l (row.set e.1.toNat e.2.1)
theorem Hy {seen:List Nat}: ∀ {l:cE} {row:List V},(∀e∈l,inL seen e.2.2=true)→doneRow seen l row=mX l row:=by
 intro l
 induction l with
 | nil=>intro row _; rfl
 | cons e l J =>
  intro row h
  simp only [doneRow,mX,h e ct,ag]
  exact J fun e' I=>h e' (b6 _ I)
theorem Hz : ∀ {l:cE} {row:List V},doneRow [] l row=row:=by
 intro l
 induction l with
 | nil=>intro row; rfl
 | cons e l I=>intro row; simp only [doneRow,inL,ay]; exact I
theorem HA {seen:List Nat}: ∀ {l:cE} {row:List V},(doneRow seen l row).length=row.length:=by
 intro l
 induction l with
 | nil=>intro row; rfl
 | cons e l I=>intro row; simp only [doneRow]; rw [I]; cases inL seen e.2.2 <;> simp
theorem HB {seen:List Nat}{i:Nat}{v:V}: ∀ {l:cE} {row:List V},(∀e∈l,e.1.toNat≠i)→doneRow seen l (row.set i v)=(doneRow seen l row).set i v:=by
 intro l
 induction l with
 | nil=>intro row _; rfl
 | cons e l ih =>
  intro row h
  simp only [doneRow]
  have h1:=h e ct
  cases inL seen e.2.2 with
  | true=>rw [ag,ag,List.set_comm _ _ (iM h1)]; exact ih fun J I=>h J (b6 _ I)
  | false=>exact ih fun J I=>h J (b6 _ I)
theorem El {seen:List Nat}{b:Nat}: ∀ {l:cE} {row:List V},(∀e∈l,e.2.2≠b)→doneRow (seen++[b]) l row=doneRow seen l row:=by
 intro l
 induction l with
 | nil=>intro row _; rfl
 | cons e l J =>
  intro row h
  simp only [doneRow,lF,cH (iM (h e ct)),od]
  exact J fun e' I=>h e' (b6 _ I)
theorem F2 {seen:List Nat}{c:Nat}: ∀ {l:cE} {b:Nat} {row:List V} {e:Int×V×Nat},gv c b l→(l.map fun e=>e.1.toNat).Nodup→e∈l→inL seen e.2.2=false →
  doneRow (seen++[e.2.2]) l row=(doneRow seen l row).set e.1.toNat e.2.1:=by
 intro l
 induction l with
 | nil=>intro b row e _ _ he; cases he
 | cons y l ih =>
  intro b row e J hn he hs
  simp only [bQ,k8] at hn
  rcases List.mem_cons.1 he with rfl | he
  ·simp only [doneRow,lF,hs,cN,Bool.or_true,ag,ay]
   rw [El fun e' I=>by have:=nU J.2.2 e' I; omega]
   exact HB fun e' I hq=>hn.1 (hq ▸ m7 (f:=fun e:Int×V×Nat=>e.1.toNat) I)
  ·have:=nU J.2.2 e he
   simp only [doneRow,lF,cH (show e.2.2≠y.2.2 by omega),od]
   exact ih J.2.2 hn.2 he hs
def laidP : List (Int×List Nat)→List (Option (List Nat))→List (Option (List Nat))
 | [],m=>m
 | e::l,m=>laidP l (m.set e.1.toNat (some e.2))
theorem yc : ∀ {l:List (Int×List Nat)} {m:List (Option (List Nat))},(laidP l m).length=m.length:=by
 intro l
 induction l with
 | nil=>intro row; rfl
 | cons e l I=>intro row; simp only [laidP]; rw [I]; simp
theorem HC {a b:PM}: ∀ {es:cE} {m:List (Int×List Nat)} {row:List V} {pg:List (Option (List Nat))},(eM (fun v x=>.c5 v x) es m).p a b→(∀e∈m,e.2≠[])→(each pn row pg).p a b→(each pn (mX es row) (laidP m pg)).p a b:=by
 intro es
 induction es with
 | nil=>intro m row pg h _ hr; cases m with
  | nil=>exact hr
  | cons x m=>exact h.elim
 | cons e es ih=>intro m row pg h I hr; cases m with
  | nil=>exact h.elim
  | cons x m =>
   obtain ⟨⟨h1,h2⟩,h3⟩:=h
   simp only [mX,laidP]
   have hk:e.1=x.1:=h1
   refine ih h3 (fun e he=>I e (b6 _ he)) ?_
   rw [hk]
   refine Om hr ⟨?_,h2⟩
   rintro hv
   have J:gM b e.2.1 x.2:=h2
   rw [hv] at J
   rcases J.2 with ⟨_,h4⟩ | h4
   ·exact I x ct h4
   ·obtain ⟨_,_,_,_,_,_,h4,_⟩:=h4
    cases h4
def Dk.sync (δ:Dk): Dk:={ δ with aM:=laidP δ.now δ.aM,waiting:=[],now:=[] }
section
variable {told:cZ} {h:H} {S:List au} {X:au} {r k q p bR:Nat} {v x wh di:V} {l b:List Nat} {π:Pl} {m:List Fm} {μ:Lg} {δ:Dk}
noncomputable def BW (h:H)(p:Nat)(cs:List V)(I N:Nat)(row:List V)(mid:Nat)(es:cE)(clock:Nat): H :=
 ((((h.new (.iter mid clock clock [])).put I (some (.cells N (mX es row) false))).put p (some (.cells 12 (cs.set 2 .bu) false))).put mid (some (.map [] clock))).put h.next none
def Db (args:List V)(h:H)(r:V×H): Prop:=∃p cs,args=[.ptr p 0]∧T.get h.tr p=some (.cells 12 cs false) ∧
 ((nth cs 9=some (.bool true)∧r=(.int .i64 9,h))∨(nth cs 9=some (.bool false)∧∃v1 I,gF CB 164 [.ptr p 0] h v1 I ∧
  ((v1=.bool false∧r=(.int .i64 9,I))∨(v1=.bool true∧∃cs J N row mid es clock,T.get I.tr p=some (.cells 12 cs false)∧nth cs 1=some (.sl J 0 N (.exact N))∧nth cs 3=some (.map mid) ∧
   T.get I.tr J=some (.cells N row false)∧T.get I.tr mid=some (.map (es.map eG) clock)∧r=(.int .i64 0,BW I p cs J N row mid es clock)))))
structure Dc (h h':H)(X:List Nat): Prop where
 next:h'.next=h.next
 get:∀i,i∉X→T.get h'.tr i=T.get h.tr i
theorem Dc.put {h h':H}{X:List Nat}(s:Dc h h' X){i:Nat}{o:Option Obj}(hi:i∈X): Dc h (h'.put i o) X :=
 ⟨s.next,fun j I=>by rw [bV,ah (fun (e:j=i)=>I (e ▸ hi))]; exact s.get j I⟩
theorem yf {α:Type}{f:V→α→au}{a b:PM}: ∀ {l:cE} {m:List (Int×α)},(eM f l m).p a b→∀e∈l,∃x,(e.1,x)∈m∧(f e.2.1 x).p a b:=by
 intro l
 induction l with
 | nil=>intro m _ e he; cases he
 | cons y l I=>intro m h e he; cases m with
  | nil=>exact h.elim
  | cons x m =>
   obtain ⟨⟨J,h2⟩,h3⟩:=h
   rcases List.mem_cons.1 he with rfl | he
   ·exact ⟨x.2,by rw [show e.1=x.1 from J]; exact ct,h2⟩
   ·obtain ⟨z,k1,k2⟩:=I h3 e he
    exact ⟨z,b6 _ k1,k2⟩
noncomputable def syA : Code:=cV [0] ((Tryz.f139.body).getD .skip)
noncomputable def syB : Code:=cV [1,0] ((Tryz.f139.body).getD .skip)
noncomputable def syC : Code:=cV [1,1,0,0] ((Tryz.f139.body).getD .skip)
noncomputable def UA : Code:=cV [1,1,0,1,0,0,0] ((Tryz.f139.body).getD .skip)
noncomputable def Xn : Code:=cV [1,1,0,1,0,0,1,1,0] ((Tryz.f139.body).getD .skip)
noncomputable def syE : Code:=cV [1,1,1] ((Tryz.f139.body).getD .skip)
theorem AR : Tryz.f139.body=some (.seq syA (.seq syB (.seq (.seq syC (.block 0 (.loop (.seq UA (.seq (.cond (.tmp 20) .skip (.exit 0)) (.block 1 Xn)))))) syE))):=rfl
theorem RY : ∃id I J,UA=.region id #[I,J] false∧I.guard=none∧J.guard=none∧I.op=.next (.tmp 18) false∧I.dst=some 19∧J.op=.extract (.tmp 19) 0∧J.dst=some 20:=⟨_,_,_,rfl,rfl,rfl,rfl,rfl,rfl,rfl⟩
def Xo (h₀:H)(p it I N mid clock:Nat)(cs row:List V)(es:cE)(S:List au)(j:Nat)(E:List (Nat×V))(h:H): Prop :=
 ∃seen,Has E [(0,.ptr p 0),(18,.ptr it 0)]∧j=(leftV seen (es.map eG)).length∧Dc h₀ h [it,I] ∧
  Sat h (pt it (.iter mid clock clock seen)::pt p (.cells 12 cs false)::pt I (.cells N (doneRow seen es row) false)::gQ mid es clock::S)
theorem Mp {h₀:H}{it I N mid clock:Nat}{cs row:List V}{es:cE}(Bb:nth cs 1=some (.sl I 0 N (.exact N)))(hl:row.length=N)(hb:gv clock 0 es)(hn:(es.map fun e=>e.1.toNat).Nodup)
 (hk:∀e∈es,0≤e.1∧e.1<N)(hv:∀e∈es,e.2.1.cells=[e.2.1]∧storable e.2.1=true){j:Nat}{E:List (Nat×V)}(h0:Xo h₀ p it I N mid clock cs row es S j E h):
  dJ CB 38 (.loop (.seq UA (.seq (.cond (.tmp 20) .skip (.exit 0)) (.block 1 Xn)))) E h fun ex E' h'=>ex=.exit 0∧Has E' [(0,.ptr p 0)]∧Dc h₀ h' [it,I] ∧
   ∃seen,Sat h' (pt it (.iter mid clock clock seen)::pt p (.cells 12 cs false)::pt I (.cells N (mX es row) false)::gQ mid es clock::S):=by
 refine dJ.loop (Xo h₀ p it I N mid clock cs row es S) ?_ h0
 rintro j E h ⟨seen,hE,rfl,hs,s⟩
 have g1:=s.row (k:=0) rfl
 have g2:=s.row (k:=3) rfl
 obtain ⟨id,Q1,Nu,q0,q1,q2,q3,q4,q5,q6⟩:=RY
 refine dJ.seq ?_
 rw [q0]
 have hL:=next_at g1 (aD _) g2 hb
 refine dJ.next g8 fg q1 q2 q3 q4 q5 rfl q6 rfl rfl (r:=it) ?_ hL fun q hq => ?_
 ·exact hE.2.1
 ·rcases F1 g1 (aD _) g2 hb hL q hq with ⟨rfl,J⟩ | ⟨e,he,QF,bC,rfl⟩
  ·refine ⟨.bool false,[],rfl,?_⟩
   refine dJ.seq (dJ.cond (t:=false) rfl ?_)
   refine dJ.of g8 fg (WP.exit ?_)
   refine ⟨rfl,⟨hE.1,aa⟩,hs,seen,?_⟩
   rw [←Hy J]
   exact s
  ·refine ⟨.bool true,_,rfl,?_⟩
   refine dJ.seq (dJ.cond (t:=true) rfl ?_)
   refine dJ.of g8 fg (WP.skip ?_)
   refine dJ.block (dJ.of g8 fg ?_)
   have s:=s.put (o':=.iter mid clock clock (seen++[e.2.2])) (k:=0) rfl
   have hs:=hs.put (i:=it) (o:=some (.iter mid clock clock (seen++[e.2.2]))) ct
   generalize h.put it (some (.iter mid clock clock (seen++[e.2.2])))=h' at s hs
   have g1:=s.row (k:=0) rfl
   have g2:=s.row (k:=3) rfl
   refine WP.has (F:=[(0,.ptr p 0),(18,.ptr it 0),(20,.bool true)]) ⟨hE.1,hE.2.1,rfl,aa⟩ (zg rfl (az.any rfl rfl rfl (OpR.entry rfl rfl (F0 g1 g2 hb he)) ?_))
   rintro v h ⟨rfl,rfl⟩
   refine zk 8 rfl (zf rfl (zD _ _) (zl rfl (s.ld (k:=1) rfl Ew Bb) (zk 2 rfl ?_)))
   obtain ⟨k1,k2⟩:=hk e he
   refine zo rfl (cn (r:=.ptr I e.1.toNat) rfl rfl (by rw [Qj,show (decide (0≤e.1)&&decide (e.1<(N:Int)))=true by simp; omega,ag]; simp)) ?_
   have e1:=s.Uz (P:=Tryz.prog) (k:=2) (t:=28) (off:=e.1.toNat) rfl jT (by rw [HA]; exact hl) (by omega) (hv e he).1 (hv e he).2
   have s1:=s.put (o':=.cells N ((doneRow seen es row).set e.1.toNat e.2.1) false) (k:=2) rfl
   refine az.P9 rfl rfl (vk rfl rfl e1) (zv ?_)
   refine ⟨_,bC,seen++[e.2.2],⟨rfl,rfl,aa⟩,rfl,hs.put (by simp),?_⟩
   rw [F2 hb hn he QF]
   exact s1
theorem OM {h₁ h':H}{p I N mid clock:Nat}{cs row:List V}{es:cE}(hs:Dc (h₁.new (.iter mid clock clock [])) h' [h₁.next,I])(hi:T.get h'.tr I=some (.cells N (mX es row) false))(hp:p≠I)(hm:mid≠I):
  (BW h₁ p cs I N row mid es clock).next=((h'.put p (some (.cells 12 (cs.set 2 .bu) false))).put mid (some (.map [] clock))).next ∧
  ∀id o,T.get (BW h₁ p cs I N row mid es clock).tr id=some o→T.get ((h'.put p (some (.cells 12 (cs.set 2 .bu) false))).put mid (some (.map [] clock))).tr id=some o:=by
 refine ⟨hs.next.symm,fun id o ho => ?_⟩
 unfold BW at ho
 rw [bV] at ho
 by_cases h1:id=h₁.next
 ·rw [aq h1] at ho; cases ho
 ·rw [ah h1,bV] at ho
  rw [bV]
  by_cases h2:id=mid
  ·rw [aq h2] at ho ⊢; exact ho
  ·rw [ah h2,bV] at ho
   rw [ah h2,bV]
   by_cases h3:id=p
   ·rw [aq h3] at ho ⊢; exact ho
   ·rw [ah h3,bV] at ho
    rw [ah h3]
    by_cases J:id=I
    ·rw [aq J] at ho; rw [J,hi]; exact ho
    ·rw [ah J] at ho
     rw [hs.get id (by simp [h1,J])]
     exact ho
theorem ON {P:Program}{mid c:Nat}{es:List (V×V×Nat)}{t kt et:TypeId}(I:T.get h.tr mid=some (.map es c))(hu:P.underlying t=some (.map kt et)):
  ∃v h₁,builtinV P h .clear #[t] [.map mid]=some (v,h₁)∧(fun (_:V) (h₁:H)=>h₁=h.put mid (some (.map [] c))) v h₁ :=
 ⟨bK,_,by simp only [builtinV,clearV,hu,I]; rfl,rfl⟩
theorem Mq (s:Sat h (aL p δ::S))(tg:δ.Ok)(hk:∀e∈δ.now,0≤e.1∧e.1<δ.aM.length):
  ∃r,Db [.ptr p 0] h r∧∀(c:Ctx) (w:World),Rel c h w→(∀x∈[V.ptr p 0],wf c x)→fI Tryz.prog 139 [.ptr p 0] c w r.1 r.2:=by
 obtain ⟨pg,wt,nw,lg,mk,tn,tl,ops,s1⟩:=bW.1 s
 have gp:=s1.row (k:=0) rfl
 cases hd:δ.dead with
 | true =>
  refine ⟨(.int .i64 9,h),⟨p,_,rfl,gp,.inl ⟨by rw [hd]; rfl,rfl⟩⟩,fun c w hr ha => ?_⟩
  refine fI.BV (C:=CB) (args:=[.ptr p 0]) xZ AR (show 1≤Tryz.f139.ntmps by decide) ?_ hr ha
  refine dJ.seq (dJ.of g8 fg ?_)
  have s:=s1
  refine zr rfl (za rfl (zv ?_))
  refine dJ.seq (dJ.of g8 fg ?_)
  exact zK 4 rfl (zf rfl (jK _ _) (zt rfl (aR rfl (s.ld (k:=0) rfl kB rfl)) (hd) (zk 11 rfl (WP.ret ⟨aa,qQ rfl,rfl,fun _ _ h=>h⟩))))
 | false =>
  obtain ⟨v1,J,xu,hR⟩:=mV W.base s tg.bj
  have I:Call CB 164 [.ptr p 0] h (fun v' h'=>v'=v1∧h'=J):=⟨v1,J,xu,rfl,rfl⟩
  rcases hR with ⟨h0,rfl,s2⟩ | ⟨h0,rfl,s2⟩
  ·refine ⟨(.int .i64 9,J),⟨p,_,rfl,gp,.inr ⟨by rw [hd]; rfl,_,J,xu,.inl ⟨rfl,rfl⟩⟩⟩,fun c w hr ha => ?_⟩
   refine fI.BV (C:=CB) (args:=[.ptr p 0]) xZ AR (show 1≤Tryz.f139.ntmps by decide) ?_ hr ha
   refine dJ.seq (dJ.of g8 fg ?_)
   have s:=s1
   refine zr rfl (za rfl (zv ?_))
   refine dJ.seq (dJ.of g8 fg ?_)
   refine zK 4 rfl (zf rfl (jK _ _) (zh rfl (aR rfl (s.ld (k:=0) rfl kB rfl)) (hd) (zk 2 rfl (zc rfl (I) ?_))))
   rintro v h ⟨rfl,rfl⟩
   exact zo rfl (cX rfl rfl) (zk 7 rfl (WP.ret ⟨aa,qQ rfl,rfl,fun _ _ h=>h⟩))
  ·obtain ⟨pg,wt,nw,lg,mk,tn,tl,ops,s3⟩:=bW.1 s2
   obtain ⟨im,row,rfl,s4⟩:=kD.1 (s3.ae [1])
   obtain ⟨mid,es,clock,rfl,hb,hn,s5⟩:=ej.1 (s4.ae [4])
   dsimp only [bringA,getA,bf] at s5
   have s6:=s5.ae [4,2,0,0,0,0]
   dsimp only [bringA,getA,bf] at s6
   have gp1:=s6.row (k:=0) rfl
   have gi:=s6.row (k:=1) rfl
   have gm:=s6.row (k:=2) rfl
   obtain ⟨a,b,_,_,q3⟩:=s6.at (k:=3) rfl
   obtain ⟨a',b',_,_,q4⟩:=s6.at (k:=4) rfl
   have pR:row.length=δ.c6.aM.length:=AL q4
   have NA:=rA q3
   have UB:∀e∈es,0≤e.1∧e.1<(δ.c6.aM.length:Int):=fun e he=>by
    obtain ⟨x,k1,_⟩:=yf q3 e he
    exact hk _ k1
   have gq:∀e∈es,e.2.1.cells=[e.2.1]∧storable e.2.1=true:=fun e he=>by
    obtain ⟨x,_,k2⟩:=yf q3 e he
    have k3:gM b e.2.1 x:=k2
    rcases k3.2 with ⟨k4 | ⟨_,k4⟩,_⟩ | ⟨_,_,_,_,_,_,k4,_⟩
    ·rw [k4]; exact ⟨rfl,rfl⟩
    ·rw [k4]; exact ⟨rfl,rfl⟩
    ·rw [k4]; exact ⟨rfl,rfl⟩
   have vb:(es.map fun e=>e.1.toNat).Nodup:=by
    have J:(es.map (·.1)).Nodup:=by rw [NA]; exact hn
    rw [List.nodup_iff_pairwise_ne,List.pairwise_map] at J ⊢
    refine (List.pairwise_iff_forall_sublist.2 fun {x y} UC => ?_)
    have h2:=(List.pairwise_iff_forall_sublist.1 J) UC
    have hx:=(UB x (UC.subset ct)).1
    have hy:=(UB y (UC.subset (b6 _ ct))).1
    omega
   refine ⟨(.int .i64 0,BW J p _ im δ.c6.aM.length row mid es clock),⟨p,_,rfl,gp,.inr ⟨by rw [hd]; rfl,_,J,xu,.inr ⟨rfl,_,im,_,row,mid,es,clock,gp1,rfl,rfl,gi,gm,rfl⟩⟩⟩,fun c w hr ha => ?_⟩
   refine fI.BV (C:=CB) (args:=[.ptr p 0]) xZ AR (show 1≤Tryz.f139.ntmps by decide) ?_ hr ha
   refine dJ.seq (dJ.of g8 fg ?_)
   have s:=s1
   refine zr rfl (za rfl (zv ?_))
   refine dJ.seq (dJ.of g8 fg ?_)
   refine zK 4 rfl (zf rfl (jK _ _) (zh rfl (aR rfl (s.ld (k:=0) rfl kB rfl)) (hd) (zk 2 rfl (zc rfl (I) ?_))))
   rintro v h ⟨rfl,rfl⟩
   refine zo rfl (cX rfl rfl) (zp rfl (zv (zj rfl (WP.skip ?_))))
   refine dJ.seq (dJ.seq (dJ.of g8 fg ?_))
   have s:=s6
   refine zK 3 rfl (zf rfl (zG _ _) (zl rfl (s.ld (k:=0) rfl mI rfl) (az.any rfl rfl rfl (OpR.range rfl rfl (show rangeV Tryz.prog h 109 (.map mid)=some (.ptr h.next 0,h.new (.iter mid clock clock [])) by simp only [rangeV,nK,gm])) ?_)))
   rintro v h' ⟨rfl,rfl⟩
   refine zv ?_
   have s7:=s.new (.iter mid clock clock [])
   refine dJ.block ((Mp (row:=row) (es:=es) (S:=_) rfl pR hb vb UB gq ⟨[],⟨rfl,rfl,aa⟩,rfl,⟨rfl,fun _ _=>rfl⟩,by rw [Hz]; exact s7⟩).mono ?_)
   rintro ex E' h' ⟨rfl,jl,hs,seen,s⟩
   refine dJ.of g8 fg (WP.has jl ?_)
   have e1:=s.Uz (P:=Tryz.prog) (k:=1) (t:=146) (off:=2) (v:=.bu) rfl Qk rfl (by decide) rfl rfl
   have s8:=s.put (o':=.cells 12 (List.set (BK δ.c6.room (.sl im 0 δ.c6.aM.length (.exact δ.c6.aM.length)) wt (.map mid) lg δ.c6.bT mk δ.c6.bj ops δ.c6.dead tn tl) 2 .bu) false) (k:=1) rfl
   have dz:p≠im:=(s.ae [1,1]).ne
   have F3:mid≠im:=(s.ae [3,2]).ne
   have gi:=s.row (k:=2) rfl
   have UD:=OM (p:=p) (cs:=(BK δ.c6.room (.sl im 0 δ.c6.aM.length (.exact δ.c6.aM.length)) wt (.map mid) lg δ.c6.bT mk δ.c6.bj ops δ.c6.dead tn tl)) hs gi dz F3
   refine zK 4 rfl (zf rfl (zE _ _) (az.P9 rfl rfl (vk rfl rfl e1) ?_))
   have s:=s8
   have gm8:=s.row (k:=3) rfl
   refine zk 5 rfl (zf rfl (zG _ _) (zl rfl (s.ld (k:=1) rfl mI rfl) (az.j6 rfl rfl (OpR.builtin rfl rfl rfl (ON gm8 nK)) ?_)))
   rintro v h'' rfl
   exact zk 5 rfl (WP.ret ⟨aa,qQ rfl,UD.1,UD.2⟩)
end
end Go.Proofs.YtefepnnfphdkpaaGreat.Am
