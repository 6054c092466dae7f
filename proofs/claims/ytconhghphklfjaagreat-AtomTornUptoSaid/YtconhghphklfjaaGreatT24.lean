/- AtomTorn: a part of its proof; conditions: its statement's. -/
import Derived.Test.YtconhghphklfjaaGreatT23
import Derived.Test.YtconhghphklfjaaGreatT11
set_option linter.defProp false
namespace Go.Proofs.YtconhghphklfjaaGreat.Am
open Go
def Ab:=@Tryz.underlying127
def Ac:=@Tryz.func75
structure oB (ε:aO): Prop where
 pl:ε.1.Ok
 lg:ε.2.1.Ok
 dk:ε.2.2.Ok
theorem QV {ε:aO}{i:Nat}(h:ε.1.Ok): (outF ε i).2.1.Ok:=by
 unfold outF
 split
 ·exact h
 ·rename_i f J
  have hm:=bw J
  split
  ·exact h
  ·split
   ·exact h
   ·split
    ·exact h
    ·split
     ·exact h
     ·refine ⟨by simp only [dD]; exact h.hand,by simp only [dD]; exact h.many,fun e he=>by simp only [dD]; exact h.aE e he,fun g I => ?_,fun g I => ?_⟩
      ·rcases pz I with I | rfl
       ·exact h.len g I
       ·exact h.len f hm
      ·rcases pz I with I | rfl
       ·exact h.pins g I
       ·exact h.pins f hm
theorem rP {ε:aO}{i:Nat}(h:oB ε): oB (outF ε i).2:=⟨QV h.pl,QM h.lg,B7 h.dk⟩
theorem BH {δ:Dk}{n:Int}{b:List Nat}: (δ.bk n b).2.waiting.length≤δ.waiting.length+1:=by
 unfold Dk.bk
 split
 ·exact nZ _
 ·split
  ·exact nZ _
  ·split
   ·exact nZ _
   ·exact Nat.le_of_eq (by simp [Dk.wr])
theorem Oz {ε:aO}{i:Nat}: (outF ε i).2.2.2.waiting.length≤ε.2.2.waiting.length+1:=by
 unfold outF
 split
 ·exact nZ _
 ·rename_i f J
  split
  ·exact nZ _
  ·split
   ·exact nZ _
   ·split
    ·exact Nat.le_succ_of_le (Nat.le_of_eq (by rw [kX]))
    ·have I:=BH (δ:=(aT ε.2 (dY f.b 4 8)).2.2) (n:=f.aM) (b:=f.b)
     rw [kX] at I
     split <;> exact I
theorem Js {ε:aO}{n:Int}(h:oB ε): oB (dJ ε n).2:=by
 unfold dJ
 split
 ·exact h
 ·exact rP h
theorem HO {ε:aO}{n:Int}: (dJ ε n).2.2.2.waiting.length≤ε.2.2.waiting.length+1:=by
 unfold dJ
 split
 ·exact nZ _
 ·exact Oz
def writeAllF : List Int→aO→Int×aO
 | [],ε=>(0,ε)
 | n::l,ε=>if (dJ ε n).1≠0 then dJ ε n else writeAllF l (dJ ε n).2
section
variable {told:dM} {h:H} {S:List ax} {X:ax} {r k q p bW:Nat} {v x wh di:V} {l b:List Nat} {π:Pl} {m:List Fm} {μ:Lg} {δ:Dk}
noncomputable def waL : Code:=cM [1,0,1,0,0] ((Tryz.f38.body).getD .skip)
theorem F8 (hT:W told){ks:List Int}{kv:V}(OA:ks.length≤1048576): ∀(j i:Nat) (ε:aO) (h:H) (E:List (Nat×V)) (Q:Ex→List (Nat×V)→H→Prop),i+j=ks.length→oB ε→ε.2.2.waiting.length+j≤268435456 →
  Sat h (cj r p q ε.1::bh q p ε.2.1::aG p ε.2.2::.arr 1 kv (eT ks)::S)→Has E [(0,.ptr r 0),(11,kv),(12,.int .i64 ks.length),(13,.int .i64 i)] →
  ((writeAllF (ks.drop i) ε).1≠0→∀E' h',look E' 2=some (.int .i64 (writeAllF (ks.drop i) ε).1)→Sat h' (cj r p q (writeAllF (ks.drop i) ε).2.1::bh q p (writeAllF (ks.drop i) ε).2.2.1::aG p (writeAllF (ks.drop i) ε).2.2.2::S)→Q .ret E' h') →
  ((writeAllF (ks.drop i) ε).1=0→∀E' h',Sat h' (cj r p q (writeAllF (ks.drop i) ε).2.1::bh q p (writeAllF (ks.drop i) ε).2.2.1::aG p (writeAllF (ks.drop i) ε).2.2.2::S)→Q (.exit 0) E' h') →
  WP ⟨Tryz.prog,told⟩ 24 (.loop waL) E h Q:=by
 intro j
 induction j with
 | zero =>
  intro i ε h E Q hi I hw s hE J U
  refine WP.loop (WP.has hE (zg rfl (zh rfl (ah rfl rfl bB) (by simp <;> omega) ?_)))
  refine zk 3 rfl (WP.exit ?_)
  rw [iB (by omega)] at U
  exact U rfl _ _ (s.del 3)
 | succ j ih =>
  intro i ε h E Q hi I hw s hE J U
  have hn:ks[i]?=some (ks[i]'(by omega)):=bg _
  generalize (ks[i]'(by omega))=n at hn
  have hc:(eT ks)[i]?=some (.int .i64 n):=by simp [eT,hn]
  have jD:ks.drop i=n::ks.drop (i+1):=by
   obtain ⟨h1,rfl⟩:=List.getElem?_eq_some_iff.1 hn
   exact lq h1
  rw [jD] at J U
  obtain ⟨id,off,e1,e2⟩:=lC (P:=Tryz.prog) s (k:=3) rfl hc eH jK
  have aaT:=Js (n:=n) I
  have KC:=HO (ε:=ε) (n:=n)
  refine WP.loop (WP.has hE (zg rfl (zt rfl (ah rfl rfl bB) (by simp <;> omega) ?_)))
  refine zk 5 rfl (WP.block (zg rfl (zo rfl (ej (r:=.ptr id off) rfl rfl e1) (zl rfl (e2 _ dA) (zk 6 rfl (zc rfl (Ou (n:=n) hT s I.pl I.lg I.dk (by omega)) ?_))))))
  rintro v h ⟨rfl,s⟩
  simp only [writeAllF] at J U
  refine zk 5 rfl ?_
  by_cases he:(dJ ε n).1=0
  ·skip
   refine zh rfl (ah rfl rfl aV) (by simp; exact he) ?_
   refine zv (zj rfl (WP.skip (zr rfl (zb rfl (by exact bU (aY (by omega) (by omega))) ?_))))
   refine zm rfl (zv ?_)
   rw [af (by simpa using he)] at J U
   exact ih (i+1) (dJ ε n).2 h _ Q (by omega) aaT (by omega) s ⟨rfl,rfl,rfl,rfl,aa⟩ J U
  ·skip
   refine zt rfl (ah rfl rfl aV) (by simp; exact he) ?_
   refine zk 7 rfl (WP.ret ?_)
   rw [aj he] at J
   exact J he _ _ rfl (s.del 3)
theorem vI (I:W told)(s:Sat h (cj r p q π::bh q p μ::aG p δ::S))(J:oB (π,μ,δ))(hw:δ.waiting.length+π.aE.length≤268435456)(hm:π.aE.length≤1048576)(hk:∀n∈π.aE.map (·.1),(Lit.int .i64 n).wf=true):
  Call ⟨Tryz.prog,told⟩ 38 [.ptr r 0] h fun v h'=>v=.int .i64 (writeAllF (aF π.aE) (π,μ,δ)).1 ∧
   Sat h' (cj r p q (writeAllF (aF π.aE) (π,μ,δ)).2.1::bh q p (writeAllF (aF π.aE) (π,μ,δ)).2.2.1::aG p (writeAllF (aF π.aE) (π,μ,δ)).2.2.2::S):=by
 obtain ⟨bW,wh,di,s⟩:=dn.1 s
 obtain ⟨wid,rfl⟩:=zQ s (j:=2) rfl
 have hl:(aF π.aE).length=π.aE.length:=by rw [aF,(eG _).length_eq,eu]
 refine Call.of_wp (I.free _ rfl) Tryz.func38 rfl rfl (zK 9 rfl (zf rfl (rK _ _) (zl rfl (s.ld (k:=0) rfl xu rfl) (zc rfl (QS I s) ?_))))
 rintro v h ⟨b,rfl,s⟩
 refine zc rfl (qf I (s.ae [0,2]) (by decide) hm hk) ?_
 intro kv h s
 refine zo rfl (bf rfl rfl rfl (s.iP (n:=(aF π.aE).length) (j:=0) rfl (by simp [eT]) (by decide) eH)) ?_
 refine zk 2 rfl (WP.block ?_)
 have s:=dn.2 ⟨bW,.map wid,di,s.ae [3,3,2,2]⟩
 have s:=(s.del 2).ae [0,1,1,0]
 refine F8 I (ks:=aF π.aE) (by omega) (aF π.aE).length 0 (π,μ,δ) _ _ _ (by omega) J (by simp only; omega) s ⟨rfl,rfl,rfl,rfl,aa⟩ (fun he E' h' U s' => ?_) (fun he E' h' s' => ?_)
 ·rw [d_] at U s'
  exact ⟨aa,_,qy U,rfl,s'⟩
 ·rw [d_] at he s'
  rw [he]
  exact WP.has (F:=[]) aa (zK 4 rfl (WP.ret ⟨aa,_,rfl,rfl,s'⟩))
end
def dirtC (π:Pl): List Int→List V
 | []=>[]
 | n::l=>.int .i64 n::.int .u64 (cL π n 0:Nat)::dirtC π l
theorem Ad (π:Pl): ∀l:List Int,(dirtC π l).length=l.length*2:=by
 intro l
 induction l with
 | nil=>rfl
 | cons n l I=>simp only [dirtC,bl,I]; omega
theorem OB (π:Pl): ∀l m:List Int,dirtC π (l++m)=dirtC π l++dirtC π m:=by
 intro l m
 induction l with
 | nil=>rfl
 | cons n l I=>simp only [fF,dirtC,I]
theorem FE : ∃i,Tryz.prog.info? 130=some i∧i.size=2∧i.bytes=16 :=
 ⟨_,(show Tryz.prog.info? 130=some ((Tryz.prog.info? 130).getD default) by kernel_rfl),by kernel_rfl,by kernel_rfl⟩
section
variable {told:dM} {h:H} {S:List ax} {X:ax} {r k q p bW:Nat} {v x wh di:V} {l b:List Nat} {π:Pl} {m:List Fm} {μ:Lg} {δ:Dk}
noncomputable def diL : Code:=cM [1,1,0,1,0,0] ((Tryz.f66.body).getD .skip)
theorem Mc (hT:W told){ks:List Int}{kv:V}(OA:ks.length≤1048576): ∀(j i:Nat) (U:V) (h:H) (E:List (Nat×V)) (Q:Ex→List (Nat×V)→H→Prop),i+j=ks.length →
  Sat h (.arr 2 U (dirtC π (ks.take i))::cj r p q π::.arr 1 kv (eT ks)::S)→Has E [(0,.ptr r 0),(3,U),(17,kv),(18,.int .i64 ks.length),(19,.int .i64 i)] →
  (∀I E' h',look E' 3=some I→Sat h' (.arr 2 I (dirtC π ks)::cj r p q π::S)→Q (.exit 0) E' h') →
  WP ⟨Tryz.prog,told⟩ 37 (.loop diL) E h Q:=by
 intro j
 induction j with
 | zero =>
  intro i U h E Q hi s hE hx
  refine WP.loop (WP.has hE (zg rfl (zh rfl (ah rfl rfl bB) (by simp <;> omega) ?_)))
  refine zk 3 rfl (WP.exit ?_)
  rw [fR (by omega)] at s
  exact hx _ _ _ rfl (s.del 2)
 | succ j ih =>
  intro i U h E Q hi s hE hx
  have hn:ks[i]?=some (ks[i]'(by omega)):=bg _
  generalize (ks[i]'(by omega))=n at hn
  have hc:(eT ks)[i]?=some (.int .i64 n):=by simp [eT,hn]
  have J:ks.take (i+1)=ks.take i++[n]:=by rw [AG,hn]; rfl
  obtain ⟨id,off,e1,e2⟩:=lC (P:=Tryz.prog) s (k:=2) rfl hc eH jK
  refine WP.loop (WP.has hE (zg rfl (zt rfl (ah rfl rfl bB) (by simp <;> omega) ?_)))
  refine zk 5 rfl (WP.block (zg rfl (zo rfl (ej (r:=.ptr id off) rfl rfl e1) (zl rfl (e2 _ dA) ?_))))
  obtain ⟨bW,wh,di,s⟩:=dn.1 (s.ae [1])
  dsimp only [bringA,getA,aU] at s
  refine zk 7 rfl (zf rfl (nc _ _) (zl rfl (s.ld (k:=0) rfl r6 rfl) (zm rfl ?_)))
  have hlk:fq Tryz.prog h 138 di (.int .i64 n) false=some (.agg [.int .u64 (cL π n 0:Nat),.bool (match lookL n π.aN with | some x=>x.2 | none=>false)]):=by
   rcases EK (n:=n) (s.ae [3]) with ⟨g1,_,g2⟩ | ⟨x,g1,_,g2⟩
   ·rw [g2]; simp only [cL,g1]; rfl
   ·rw [g2]; simp only [cL,g1]
  refine zo rfl (gT rfl rfl hlk) (zo rfl (Sq rfl (Sr (Km _) rfl)) (zo rfl (c8 rfl (by rw [Ye]; rfl)) ?_))
  obtain ⟨rv,h1,Ae,s1⟩:=oc (P:=Tryz.prog) (x:=.agg [.int .i64 n,.int .u64 (cL π n 0:Nat)]) s Ab Gk LP rfl (by decide) (by decide) rfl rfl
  dsimp only [V.cells] at s1
  refine aB.any rfl rfl rfl (OpR.of (R:=fun v h'=>v=rv∧h'=h1) (qu rfl Ae) ⟨rfl,rfl⟩) ?_
  rintro v h' ⟨rfl,rfl⟩
  obtain ⟨i1,lZ,kf,sR⟩:=FE
  have eX:(ks.take i).length≤1048576:=by simp; omega
  obtain ⟨I,h2,uO,s2⟩:=jB (s1.ae [5,0]) Ab lZ Gk kf (by omega) rfl (by decide) (by simp only [Ad,bl,bY]; omega)
  dsimp only [bringA,getA,aU] at s2
  refine aB.any rfl rfl rfl (OpR.of (R:=fun v h'=>v=I∧h'=h2) (oT rfl rfl uO) ⟨rfl,rfl⟩) ?_
  rintro v h' ⟨rfl,rfl⟩
  refine za rfl (zv (zr rfl (zb rfl (by exact bU (aY (by omega) (by omega))) ?_)))
  refine zm rfl (zv ?_)
  have s3:=dn.2 ⟨bW,wh,di,s2.ae [2,2,2,2]⟩
  have s4:=(s3.del 2).ae [1,0,0]
  refine ih (i+1) _ _ _ _ (by omega) ?_ ⟨rfl,rfl,rfl,rfl,rfl,aa⟩ hx
  rw [J,OB]
  exact s4
theorem QW (I:W told)(s:Sat h (cj r p q π::S))(hm:π.aN.length≤1048576)(hk:∀n∈π.aN.map (·.1),(Lit.int .i64 n).wf=true):
  Call ⟨Tryz.prog,told⟩ 66 [.ptr r 0] h fun v h'=>Sat h' (.arr 2 v (dirtC π (aF π.aN))::cj r p q π::S):=by
 obtain ⟨bW,wh,di,s⟩:=dn.1 s
 obtain ⟨J,rfl⟩:=zQ s (j:=3) rfl
 have hl:(aF π.aN).length=π.aN.length:=by rw [aF,(eG _).length_eq,eu]
 refine Call.of_wp (I.free _ rfl) Tryz.func66 rfl rfl (zK 8 rfl (zf rfl (nc _ _) (zl rfl (s.ld (k:=0) rfl r6 rfl) (zo rfl (bf rfl rfl rfl (B2 (s.ae [3]) qD)) ?_))))
 obtain ⟨i1,U,kf,sR⟩:=FE
 obtain ⟨av,h1,e1,s1⟩:=vk (P:=Tryz.prog) s Ab U Gk kf (by omega) rfl (by decide) (by decide) (n:=0) (c:=π.aN.length) (by omega) (by omega)
 dsimp only [repeatL] at s1
 refine aB.any rfl rfl rfl (OpR.of (R:=fun v h'=>v=av∧h'=h1) (rY rfl rfl e1) ⟨rfl,rfl⟩) ?_
 rintro v h' ⟨rfl,rfl⟩
 have s:=s1
 refine zk 7 rfl (zf rfl (nc _ _) (zl rfl (s.ld (k:=1) rfl r6 rfl) (zc rfl (QT I s) ?_)))
 rintro v h ⟨b,rfl,s⟩
 refine zc rfl (qf I (s.ae [0,4]) (by decide) hm hk) ?_
 intro kv h s
 refine zo rfl (bf rfl rfl rfl (s.iP (n:=(aF π.aN).length) (j:=0) rfl (by simp [eT]) (by decide) eH)) ?_
 refine zk 2 rfl (WP.block ?_)
 have s:=dn.2 ⟨bW,wh,.map J,s.ae [4,4,4,2]⟩
 have s:=(s.del 2).ae [2,0,0]
 refine Mc I (π:=π) (ks:=aF π.aN) (by omega) (aF π.aN).length 0 _ _ _ _ (by omega) s ⟨rfl,rfl,rfl,rfl,rfl,aa⟩ (fun KD E' h' h2 s' => ?_)
 exact WP.has (F:=[(3,KD)]) ⟨h2,aa⟩ (zK 5 rfl (WP.ret ⟨aa,_,rfl,s'⟩))
end
def HP (az:Nat)(Q:Ex→List (Nat×V)→H→Prop)(c:Ctx)(a:Act)(w:World)(e:Exit)(U:Act)(w':World): Prop :=
 ∃ex I h' E',e=exOf ex∧kS I E'∧Q ex E' h'∧U.defers=a.defers∧∃J,Rel J h' w'∧fu J I az U∧dL c w J w'
def eL (C:dF)(az:Nat)(code:Code)(E:List (Nat×V))(h:H)(Q:Ex→List (Nat×V)→H→Prop): Prop :=
 ∀(c:Ctx) (a:Act) (w:World) (env:Env),kS env E→Rel c h w→fu c env az a→code.wpIn (Fr none) 0 C.P (HP az Q c a w) a w
section
variable {C:dF} {az:Nat} {E:List (Nat×V)} {h:H} {Q Q':Ex→List (Nat×V)→H→Prop} {a b:Code}
theorem HP.trans {c c₁:Ctx}{A I a':Act}{w J w':World}{e:Exit}(hd:I.defers=A.defers)(hs:dL c w c₁ J)(ho:HP az Q c₁ I J e a' w'): HP az Q c A w e a' w':=by
 obtain ⟨ex,U,h',E',h1,h2,h3,h4,c',h5,h6,h7⟩:=ho
 exact ⟨ex,U,h',E',h1,h2,h3,h4.trans hd,c',h5,h6,hs.trans h7⟩
theorem eL.of (hm:C.P.follows .mixedOrders=true)(J:hG C)(hw:WP C az a E h Q): eL C az a E h Q:=by
 intro c A w env U hr he
 obtain ⟨N,ex,I,h',E',h1,h2,h3⟩:=hw env U
 refine wpIn_mono ((GY hm J N).1 _ _ _ _ h1 none c A w hr he) ?_
 rintro e a' w' ⟨rfl,h4,c',h5,h6,h7⟩
 exact ⟨ex,I,h',E',rfl,h2,h3,h4,c',h5,h6,h7⟩
theorem eL.mono (hw:eL C az a E h Q)(J:∀ex E' h',Q ex E' h'→Q' ex E' h'): eL C az a E h Q':=by
 intro c A w env U hr he
 refine wpIn_mono (hw c A w env U hr he) ?_
 rintro e a' w' ⟨ex,I,h',E',h1,h2,h3,h4⟩
 exact ⟨ex,I,h',E',h1,h2,J _ _ _ h3,h4⟩
theorem eL.seq (hw:eL C az a E h fun ex E' h'=>match ex with
  | .normal=>eL C az b E' h' Q
  | ex=>Q ex E' h'): eL C az (.seq a b) E h Q:=by
 intro c A w env hE hr he
 refine wpIn_seq (wpIn_mono (hw c A w env hE hr he) ?_)
 rintro e J U ⟨ex,I,h',E',rfl,h2,h3,h4,c₁,h5,h6,h7⟩
 cases ex with
 | normal=>exact wpIn_mono (h3 c₁ J U I h2 h5 h6) fun e a' w' ho=>ho.trans h4 h7
 | exit i=>exact ⟨_,I,h',E',rfl,h2,h3,h4,c₁,h5,h6,h7⟩
 | ret=>exact ⟨_,I,h',E',rfl,h2,h3,h4,c₁,h5,h6,h7⟩
theorem eL.cond {x:Operand}{t:Bool}(J:lookO E x=some (.bool t))(hw:eL C az (_root_.cond t a b) E h Q): eL C az (.cond x a b) E h Q:=by
 intro c A w env I U he
 obtain ⟨e1,_⟩:=Gy he (bP I J)
 refine wpIn_cond (t:=t) (by rw [e1]; rfl) ?_
 have:=hw c A w env I U he
 cases t <;> simpa using this
theorem eL.block {i:Nat}(hw:eL C az b E h fun ex E' h'=>match ex with
  | .exit j=>_root_.cond (Nat.beq j i) (Q .normal E' h') (Q (.exit j) E' h')
  | ex=>Q ex E' h'): eL C az (.block i b) E h Q:=by
 intro c A w env hE hr he
 refine wpIn_block (wpIn_mono (hw c A w env hE hr he) ?_)
 rintro e Nd GN ⟨ex,I,h',E',rfl,U,J,h4,c₁,h5,h6,h7⟩
 cases ex with
 | normal=>simp only [exOf,Exit.inBlock]; exact ⟨.normal,I,h',E',rfl,U,J,h4,c₁,h5,h6,h7⟩
 | exit j =>
  by_cases hj:j=i
  ·simp only [g9 hj,ag] at J
   simp only [exOf,Exit.inBlock,hj,bQ]
   exact ⟨.normal,I,h',E',rfl,U,J,h4,c₁,h5,h6,h7⟩
  ·simp only [cS hj,ay] at J
   simp only [exOf,Exit.inBlock,hj,bN]
   exact ⟨.exit j,I,h',E',rfl,U,J,h4,c₁,h5,h6,h7⟩
 | ret=>simp only [exOf,Exit.inBlock]; exact ⟨.ret,I,h',E',rfl,U,J,h4,c₁,h5,h6,h7⟩
theorem eL.loop (J:Nat→List (Nat×V)→H→Prop)(hJ:∀j E h,J j E h→eL C az b E h fun ex E' h'=>match ex with
  | .normal=>∃i,i<j∧J i E' h'
  | ex=>Q ex E' h'){j:Nat}(h0:J j E h): eL C az (.loop b) E h Q:=by
 have key:∀m j E h,j<m→J j E h→∀(c:Ctx) (A:Act) (w:World) (env:Env) (R:Exit→Act→World→Prop),kS env E→Rel c h w→fu c env az A →
   (∀e a' w',HP az Q c A w e a' w'→R e a' w')→Code.roundsIn (Fr none) 0 C.P b R m A w:=by
  intro m
  induction m with
  | zero=>intro j E h hj; omega
  | succ m ih =>
   intro j E h hj hJj c A w env R hE hr he hR
   rw [roundsIn_succ]
   refine wpIn_mono (hJ j E h hJj c A w env hE hr he) ?_
   rintro e U GN ⟨ex,I,h',E',rfl,h2,h3,h4,c₁,h5,h6,h7⟩
   cases ex with
   | normal =>
    obtain ⟨i,hi,h3⟩:=h3
    exact ih i E' h' (by omega) h3 c₁ U GN I R h2 h5 h6 fun e a' w' ho=>hR _ _ _ (ho.trans h4 h7)
   | exit i=>exact hR _ _ _ ⟨_,I,h',E',rfl,h2,h3,h4,c₁,h5,h6,h7⟩
   | ret=>exact hR _ _ _ ⟨_,I,h',E',rfl,h2,h3,h4,c₁,h5,h6,h7⟩
 intro c A w env hE hr he
 exact wpIn_loop_rounds (j+1) (key (j+1) j E h (by omega) h0 c A w env _ hE hr he fun _ _ _ ho=>ho)
theorem OC {α β:Type}{f:α→Option (List β)}{p:β→Prop}: ∀ {L:List α},(∀q∈L,∃s,f q=some [s]∧p s)→∃R,flatM f L=some R∧∀s∈R,p s:=by
 intro L
 induction L with
 | nil=>intro _; exact ⟨[],rfl,fun s hs=>by cases hs⟩
 | cons q L U =>
  intro J
  obtain ⟨R,h1,h2⟩:=U fun q I=>J q (bp _ I)
  obtain ⟨s,e1,e2⟩:=J q br
  refine ⟨s::R,?_,fun s' hs => ?_⟩
  ·simp only [flatM,e1,h1,fF,cW]
  ·rcases List.mem_cons.1 hs with rfl | hs
   ·exact e2
   ·exact h2 s' hs
theorem eL.next {id:Nat}{I J:Oper}{x y:Operand}{r U QX:Nat}{L:List (V×H)}(hm:C.P.follows .mixedOrders=true)(hT:hG C)(acj:I.guard=none)(aaU:J.guard=none)(aaV:I.op=.next x false)(ack:I.dst=some U)
 (Wy:J.op=.extract y 0)(hy:y=.tmp U)(acm:J.dst=some QX)(U5:Nat.blt U az=true)(X0:Nat.blt QX az=true)(hx:lookO E x=some (.ptr r 0))(hL:nextAll h r=some L)
 (hq:∀q∈L,∃t l,q.1=.bE (t::l)∧Q .normal ((QX,t)::(U,q.1)::E) q.2): eL C az (.region id #[I,J] false) E h Q:=by
 intro c A w env hE hr he
 subst hy
 have hS:=(GY (C:=C) hm hT 0).1
 refine wpIn_region ?_
 rw [List.range_eq_range',←DW]
 have mW:∃R,opsAll C (ev C 0) (#[I,J]:Array Oper).toList (#[I,J]:Array Oper).toList ⟨env,az,h⟩=some R∧∀s∈R,∃E',kS s.env E'∧s.az=az∧Q .normal E' s.h:=by
  have e1:∀Ln:Env,wantedV [I,J] Ln I=true:=fun Ln=>by simp only [wantedV,acj]
  have e2:∀Ln:Env,wantedV [I,J] Ln J=true:=fun Ln=>by simp only [wantedV,aaU]
  have ji:=bP hE hx
  simp only [opsAll,e1,e2,ag,opAll,aaV,ji,dx,hL]
  refine OC fun q uu => ?_
  obtain ⟨t,l,k1,k2⟩:=hq q uu
  refine ⟨⟨(env.set U (some q.1)).set QX (some t),az,q.2⟩,?_,_,(hE.set U q.1).set QX t,rfl,k2⟩
  have hg:evO (T.set env U (some (V.bE (t::l)))) (.tmp U)=some (.bE (t::l)):=by simp only [evO,Env.v,a_,bQ]
  simp only [St.put,ack,U5,ag,Wy,evOp,k1,hg,nth,dx,bA,acm,X0,flatM,bF]
 obtain ⟨R,mW,h2⟩:=mW
 refine NB hS hT _ 0 ⟨env,az,h⟩ R c A w (fun j=>by rw [dV,jV]) mW hr he ?_
 intro s' Ff c' a' w' r1 r2 r3 r4
 obtain ⟨E',e1,e2,e3⟩:=h2 s' Ff
 exact ⟨.normal,s'.env,s'.h,E',rfl,e1,e3,r4,c',r1,by rw [e2] at r2; exact r2,r3⟩
theorem fX.Dj {f:FuncId}{fn:Func}{code:Code}{args:List V}{v:V}{U:H}(hf:C.P.funcs[f]?=some fn)(hb:fn.body=some code)(hn:args.length≤fn.ntmps)
 (hw:eL C fn.ntmps code (argE args 0) h fun ex E' h'=>(match ex with | .exit _=>False | _=>True)∧jz C.P E' h' fn.results.toList=some v∧U.next=h'.next∧∀id o,T.get U.tr id=some o→T.get h'.tr id=some o)
 {c:Ctx}{w:World}(hr:Rel c h w)(ha:∀x∈args,wf c x): fX C.P f args c w v U:=by
 have BU:=qp (c:=c) hn ha
 have Vo:=hw c _ w _ (AZ args) hr BU
 unfold fX
 refine calls_of_wp hf hb (wpIn_wide.1 (wpIn_mono Vo ?_))
 rintro e a' w' ⟨ex,Wz,h',E',rfl,iH,⟨hx,I,FB,hle⟩,hd,c',r1,r2,r3⟩
 have fin:a'.defers=[]∧∃x,(results fn a'.tmps).run C.P w'=.ok x w'∧∃qq,Ending.returned x=.returned (conc qq v)∧wf qq v∧Rel qq U w'∧dL c w qq w':=by
  refine ⟨hd,?_⟩
  unfold jz at I
  cases Nl:mapO (resE C.P E' h') fn.results.toList with
  | none=>simp [Nl] at I
  | some vs =>
   rw [Nl] at I
   have NZ:=En (P:=C.P) (s:=⟨Wz,fn.ntmps,h'⟩) iH Nl
   obtain ⟨t1,t2⟩:=tc (s:=⟨Wz,fn.ntmps,h'⟩) r1 r2 NZ
   refine ⟨_,t1,c',?_⟩
   have J:=r1.X8 FB hle
   match vs,I with
   | [],I =>
    simp at I
    subst I
    refine ⟨?_,by simp [wf,fW],J,r3⟩
    simp [conc,concL]
   | [x],I =>
    simp at I
    subst I
    exact ⟨by simp,t2 _ (by simp),J,r3⟩
   | x::y::l,I =>
    simp at I
    subst I
    refine ⟨?_,by simp only [wf,ja]; exact t2,J,r3⟩
    rw [dif_neg (by simp)]
    simp [conc,iy,concL]
 cases ex with
 | normal=>simpa [bodyPost,exOf] using fin
 | exit i=>exact hx.elim
 | ret=>simpa [bodyPost,exOf] using fin
end
end Go.Proofs.YtconhghphklfjaaGreat.Am
namespace Go.Proofs.YtconhghphklfjaaGreat.Am
open Go
theorem mF (l:List Nat)(b x:Nat): inL (l++[b]) x=(inL l x||Nat.beq b x):=by
 induction l with
 | nil=>simp only [cW,inL,tM]; cases Nat.beq b x <;> rfl
 | cons y l I=>simp only [fF,inL,I]; cases Nat.beq y x <;> simp
theorem FF {seen:List Nat}: ∀ {l:List (V×V×Nat)} {e:V×V×Nat},e∈leftV seen l→e∈l∧inL seen e.2.2=false:=by
 intro l
 induction l with
 | nil=>intro e h; cases h
 | cons y l I =>
  intro e h
  simp only [leftV] at h
  cases J:inL seen y.2.2 with
  | true=>rw [J,ag] at h; exact ⟨bp _ (I h).1,(I h).2⟩
  | false =>
   rw [J,ay] at h
   rcases List.mem_cons.1 h with rfl | h
   ·exact ⟨br,J⟩
   ·exact ⟨bp _ (I h).1,(I h).2⟩
theorem OD {seen:List Nat}: ∀ {l:List (V×V×Nat)},leftV seen l=[]→∀e∈l,inL seen e.2.2=true:=by
 intro l
 induction l with
 | nil=>intro _ e he; cases he
 | cons y l J =>
  intro h e he
  simp only [leftV] at h
  cases I:inL seen y.2.2 with
  | false=>rw [I,ay] at h; cases h
  | true =>
   rw [I,ag] at h
   rcases List.mem_cons.1 he with rfl | he
   ·exact I
   ·exact J h e he
theorem HQ {seen:List Nat}{b:Nat}: ∀ {l:List (V×V×Nat)},(leftV (seen++[b]) l).length≤(leftV seen l).length:=by
 intro l
 induction l with
 | nil=>exact aI _
 | cons y l I =>
  simp only [leftV,mF]
  cases inL seen y.2.2 <;> cases Nat.beq b y.2.2 <;> simp <;> omega
theorem QY {seen:List Nat}: ∀ {l:List (V×V×Nat)} {e:V×V×Nat},e∈leftV seen l→(leftV (seen++[e.2.2]) l).length<(leftV seen l).length:=by
 intro l
 induction l with
 | nil=>intro e h; cases h
 | cons y l J =>
  intro e h
  simp only [leftV] at h
  cases I:inL seen y.2.2 with
  | true =>
   rw [I,ag] at h
   simp only [leftV,mF,I,Bool.true_or,ag]
   exact J h
  | false =>
   rw [I,ay] at h
   simp only [leftV,mF,I,tM,ay]
   rcases List.mem_cons.1 h with rfl | h
   ·rw [dx,ag]
    have:=HQ (seen:=seen) (b:=e.2.2) (l:=l)
    simp; omega
   ·cases Nat.beq e.2.2 y.2.2
    ·simp only [ay,bl]; have:=J h; omega
    ·simp only [ag,bl]; have:=HQ (seen:=seen) (b:=e.2.2) (l:=l); omega
theorem OE {c:Nat}: ∀ {l:bX} {b:Nat},fc c b l→uf c (l.map eB)=true:=by
 intro l
 induction l with
 | nil=>intro b _; rfl
 | cons e l I =>
  intro b h
  simp only [bI,eB,uf]
  rw [i_.2 h.2.1,ag]
  exact I h.2.2
theorem Jt {c:Nat}: ∀ {l:bX} {b:Nat},fc c b l→bornRise b (l.map eB)=true:=by
 intro l
 induction l with
 | nil=>intro b _; rfl
 | cons e l I =>
  intro b h
  simp only [bI,eB,bornRise]
  rw [aQ.2 h.1,ag]
  exact I h.2.2
theorem o_ {c:Nat}: ∀ {l:bX} {b:Nat},fc c b l→∀e∈l,b≤e.2.2:=by
 intro l
 induction l with
 | nil=>intro b _ e he; cases he
 | cons y l I =>
  intro b h e he
  rcases List.mem_cons.1 he with rfl | he
  ·exact h.1
  ·have:=I h.2.2 e he; have:=h.1; omega
theorem qI {c:Nat}: ∀ {l:bX} {b:Nat} {e:Int×V×Nat},fc c b l→e∈l→tR e.2.2 (l.map eB)=some (eB e):=by
 intro l
 induction l with
 | nil=>intro b e _ he; cases he
 | cons y l I =>
  intro b e h he
  simp only [bI,tR]
  rcases List.mem_cons.1 he with rfl | he
  ·show cond (Nat.beq e.2.2 e.2.2) _ _=_
   rw [dx,ag]
  ·have:=o_ h.2.2 e he
   show cond (Nat.beq y.2.2 e.2.2) _ _=_
   rw [cS (by omega),ay]
   exact I h.2.2 he
theorem OF : ∀(l:List Nat) (b:Nat),lastN (l++[b])=some b:=by
 intro l b
 induction l with
 | nil=>rfl
 | cons x l I =>
  cases l with
  | nil=>rfl
  | cons y l=>simpa [lastN] using I
section
variable {h:H} {r mid since clock b:Nat} {seen:List Nat} {es:bX}
theorem HR {e:Int×V×Nat}(J:T.get h.tr r=some (.iter mid since clock (seen++[e.2.2])))(hm:T.get h.tr mid=some (.map (es.map eB) clock))(I:fc clock 0 es)(he:e∈es):
  wj h (.ptr r 0)=some (.bE [.int .i64 e.1,e.2.1]):=by
 simp only [wj,dx,ag,J,hm,Jt I,iD,OF,qI I he]
 rfl
theorem next_at (I:T.get h.tr r=some (.iter mid since clock seen))(hs:since≤clock)(hm:T.get h.tr mid=some (.map (es.map eB) clock))(J:fc since 0 es):
  nextAll h r=some (match leftV seen (es.map eB) with
   | []=>[(.bE [.bool false],h)]
   | l=>l.map fun e=>(.bE [.bool true,e.1,e.2.1],h.put r (some (.iter mid since clock (seen++[e.2.2]))))):=by
 simp only [nextAll,I,hm,OE J,aQ.2 hs,iD,ag]
 cases leftV seen (es.map eB) <;> rfl
theorem HS {L:List (V×H)}(hg:T.get h.tr r=some (.iter mid since clock seen))(hs:since≤clock)(hm:T.get h.tr mid=some (.map (es.map eB) clock))(hb:fc since 0 es)(hL:nextAll h r=some L):
  ∀q∈L,(q=(.bE [.bool false],h)∧∀e∈es,inL seen e.2.2=true) ∨
   ∃e∈es,inL seen e.2.2=false∧(leftV (seen++[e.2.2]) (es.map eB)).length<(leftV seen (es.map eB)).length∧q=(.bE [.bool true,.int .i64 e.1,e.2.1],h.put r (some (.iter mid since clock (seen++[e.2.2])))):=by
 rw [next_at hg hs hm hb] at hL
 simp only [au] at hL
 subst hL
 intro q U
 cases J:leftV seen (es.map eB) with
 | nil =>
  rw [J] at U
  refine .inl ⟨List.mem_singleton.1 U,fun e he => ?_⟩
  exact OD J (eB e) (iV he)
 | cons y l =>
  rw [J] at U
  obtain ⟨e',I,rfl⟩:=List.mem_map.1 U
  rw [←J] at I
  obtain ⟨h1,h2⟩:=FF I
  obtain ⟨e,he,rfl⟩:=List.mem_map.1 h1
  have h3:=QY I
  rw [J] at h3
  exact .inr ⟨e,he,h2,h3,rfl⟩
end
open Classical in
noncomputable def nK (P:Program)(f:FuncId)(jf:List V→H→V×H→Prop)(args:List V)(h:H): Option (V×H) :=
 if I:∃r,jf args h r∧∀(c:Ctx) (w:World),Rel c h w→(∀x∈args,wf c x)→fX P f args c w r.1 r.2 then some I.choose else none
theorem Af {P : Program} {f : FuncId} {jf : List V → H → V × H → Prop} (J : ∃ fn, P.funcs[f]? = some fn ∧ fn.body.isSome = true ∧ (fn.name == "runtime.NumGoroutine") = false) : Ei P f (nK P f jf) := by
 refine .inl ⟨J, fun args σ v U I c w h hw => ?_⟩
 unfold nK at I
 split at I
 ·rename_i hx
  have := hx.choose_spec.2 c w h hw
  injection I with I
  rw [I] at this
  exact this
 ·cases I
theorem Ag {P:Program}{f:FuncId}{jf:List V→H→V×H→Prop}{args:List V}{h:H}{r:V×H}(J:jf args h r)(U:∀(c:Ctx) (w:World),Rel c h w→(∀x∈args,wf c x)→fX P f args c w r.1 r.2):
  ∃r,nK P f jf args h=some r∧jf args h r:=by
 have I:∃r,jf args h r∧∀(c:Ctx) (w:World),Rel c h w→(∀x∈args,wf c x)→fX P f args c w r.1 r.2:=⟨r,J,U⟩
 refine ⟨I.choose,?_,I.choose_spec.1⟩
 unfold nK
 rw [dif_pos I]
noncomputable def Dl (f:Nat): Option (List V→H→Option (V×H)) :=
 cond (Nat.beq f 50) (some (toldSorted A8)) (cond (Nat.beq f 119) (some toldMore) none)
noncomputable abbrev CB : dF:=⟨Tryz.prog,Dl⟩
theorem ic : Tryz.prog.follows .mixedOrders=true:=by kernel_rfl
theorem fH : hG CB:=by
 intro f g I
 simp only [CB,Dl] at I ⊢
 by_cases h1:f=50
 ·subst h1
  rw [g9 rfl,ag] at I
  simp only [au] at I
  subst I
  exact .inl ⟨⟨_,Tryz.func50,rfl,by decide⟩,fun args σ v J U c w h _=>F6 bG N6 U h⟩
 ·rw [cS h1,ay] at I
  by_cases h2:f=119
  ·subst h2
   rw [g9 rfl,ag] at I
   simp only [au] at I
   subst I
   exact .inl ⟨⟨_,CM,rfl,by decide⟩,fun args σ v J U c w h hw=>Jh (C:=CB) rfl ic U h hw⟩
  ·rw [cS h2,ay] at I
   cases I
theorem W.base : W Dl:=by
 refine ⟨fun f I => ?_,rfl,rfl⟩
 have J:f≠50:=fun e=>by subst e; revert I; decide
 have U:f≠119:=fun e=>by subst e; revert I; decide
 simp only [Dl,cS J,cS U,ay]
theorem hO.det {C:dF}{f:FuncId}{args:List V}{h:H}{v v':V}{h₁ I:H}(a:hO C f args h v h₁)(b:hO C f args h v' I): v=v'∧h₁=I:=by
 obtain ⟨N,U⟩:=a
 obtain ⟨M,hM⟩:=b
 have e1:=tf (gz (pL N M)) U
 have J:=tf (gz (pJ N M)) hM
 rw [e1] at J
 simp only [au,aP] at J
 exact J
section
variable {P:Program} {h:H} {S:List ax} {k id off n:Nat} {cs:List V} {st:Bool} {v:V} {t:TypeId}
theorem Sat.WA (s:Sat h S)(U:getA S k=some (pt id (.cells n cs false)))(hs:bJ P t=some 1)(hl:cs.length=n)(ho:off<n)(hv:v.cells=[v])(I:storable v=true):
  g6 P h t (.ptr id off) v=some (h.put id (some (.cells n (cs.set off v) false))):=by
 simp only [g6,hs,hv,bl,bY,jl,jY,I,Bool.and_true]
 rw [show Nat.beq (0+1) 1=true from rfl,ag]
 simp only [wrN,s.row U,bl,bY]
 rw [aQ.2 (show off+(0+1)≤n by omega),ag]
 congr 3
 rw [JW,aj (by omega)]
 cases J:(Nat.beq off 0&&Nat.beq (0+1) n) with
 | true =>
  simp only [aZ,beq_iff] at J
  obtain ⟨rfl,hn⟩:=J
  rw [ag]
  have:cs.drop (0+1)=[]:=iB (by omega)
  simp [this]
 | false=>rw [ay]; rfl
end
theorem OpR.entry {C:dF}{E:List (Nat×V)}{h:H}{o:Oper}{x:Operand}{v r:V}(I:o.op=.entry x)(J:lookO E x=some v)(U:wj h v=some r): OpR C E h o fun w h'=>w=r∧h'=h :=
 ⟨r,h,⟨rfl,rfl⟩,fun env hE=>⟨0,by simp only [evOp,I,bP hE J,U,bA]⟩⟩
theorem OpR.range {C:dF}{E:List (Nat×V)}{h:H}{o:Oper}{x:Operand}{t:TypeId}{v r:V}{h₁:H}(I:o.op=.range t x)(J:lookO E x=some v)(U:rangeV C.P h t v=some (r,h₁)): OpR C E h o fun w h'=>w=r∧h'=h₁ :=
 ⟨r,h₁,⟨rfl,rfl⟩,fun env hE=>⟨0,by simp only [evOp,I,bP hE J,U]⟩⟩
def doneRow (seen:List Nat): bX→List V→List V
 | [],row=>row
 | e::l,row=>doneRow seen l (cond (inL seen e.2.2) (row.set e.1.toNat e.2.1) row)
def nL : bX→List V→List V
 | [],row=>row
 | e::l,row=>nL l (row.set e.1.toNat e.2.1)
theorem Ju {seen:List Nat}: ∀ {l:bX} {row:List V},(∀e∈l,inL seen e.2.2=true)→doneRow seen l row=nL l row:=by
 intro l
 induction l with
 | nil=>intro row _; rfl
 | cons e l J =>
  intro row h
  simp only [doneRow,nL,h e br,ag]
  exact J fun U I=>h U (bp _ I)
theorem Jv : ∀ {l:bX} {row:List V},doneRow [] l row=row:=by
 intro l
 induction l with
 | nil=>intro row; rfl
 | cons e l I=>intro row; simp only [doneRow,inL,ay]; exact I
theorem Jw {seen:List Nat}: ∀ {l:bX} {row:List V},(doneRow seen l row).length=row.length:=by
 intro l
 induction l with
 | nil=>intro row; rfl
 | cons e l I=>intro row; simp only [doneRow]; rw [I]; cases inL seen e.2.2 <;> simp
theorem Jx {seen:List Nat}{i:Nat}{v:V}: ∀ {l:bX} {row:List V},(∀e∈l,e.1.toNat≠i)→doneRow seen l (row.set i v)=(doneRow seen l row).set i v:=by
 intro l
 induction l with
 | nil=>intro row _; rfl
 | cons e l U =>
  intro row h
  simp only [doneRow]
  have h1:=h e br
  cases inL seen e.2.2 with
  | true=>rw [ag,ag,List.set_comm _ _ (jo h1)]; exact U fun J I=>h J (bp _ I)
  | false=>exact U fun J I=>h J (bp _ I)
theorem F9 {seen:List Nat}{b:Nat}: ∀ {l:bX} {row:List V},(∀e∈l,e.2.2≠b)→doneRow (seen++[b]) l row=doneRow seen l row:=by
 intro l
 induction l with
 | nil=>intro row _; rfl
 | cons e l J =>
  intro row h
  simp only [doneRow,mF,cS (jo (h e br)),rz]
  exact J fun U I=>h U (bp _ I)
theorem HT {seen:List Nat}{c:Nat}: ∀ {l:bX} {b:Nat} {row:List V} {e:Int×V×Nat},fc c b l→(l.map fun e=>e.1.toNat).Nodup→e∈l→inL seen e.2.2=false →
  doneRow (seen++[e.2.2]) l row=(doneRow seen l row).set e.1.toNat e.2.1:=by
 intro l
 induction l with
 | nil=>intro b row e _ _ he; cases he
 | cons y l ih =>
  intro b row e J U he hs
  simp only [bI,mq] at U
  rcases List.mem_cons.1 he with rfl | he
  ·simp only [doneRow,mF,hs,dx,Bool.or_true,ag,ay]
   rw [F9 fun e' I=>by have:=o_ J.2.2 e' I; omega]
   exact Jx fun e' I hq=>U.1 (hq ▸ iV (f:=fun e:Int×V×Nat=>e.1.toNat) I)
  ·have:=o_ J.2.2 e he
   simp only [doneRow,mF,cS (show e.2.2≠y.2.2 by omega),rz]
   exact ih J.2.2 U.2 he hs
def laidP : List (Int×List Nat)→List (Option (List Nat))→List (Option (List Nat))
 | [],m=>m
 | e::l,m=>laidP l (m.set e.1.toNat (some e.2))
theorem mO : ∀ {l:List (Int×List Nat)} {m:List (Option (List Nat))},(laidP l m).length=m.length:=by
 intro l
 induction l with
 | nil=>intro row; rfl
 | cons e l I=>intro row; simp only [laidP]; rw [I]; simp
theorem Jy {a b:PM}: ∀ {es:bX} {m:List (Int×List Nat)} {row:List V} {pg:List (Option (List Nat))},(eD (fun v x=>.ct v x) es m).p a b→(∀e∈m,e.2≠[])→(each lP row pg).p a b→(each lP (nL es row) (laidP m pg)).p a b:=by
 intro es
 induction es with
 | nil=>intro m row pg h _ hr; cases m with
  | nil=>exact hr
  | cons x m=>exact h.elim
 | cons e es ih=>intro m row pg h I hr; cases m with
  | nil=>exact h.elim
  | cons x m =>
   obtain ⟨⟨h1,h2⟩,h3⟩:=h
   simp only [nL,laidP]
   have hk:e.1=x.1:=h1
   refine ih h3 (fun e he=>I e (bp _ he)) ?_
   rw [hk]
   refine B4 hr ⟨?_,h2⟩
   rintro hv
   have J:ik b e.2.1 x.2:=h2
   rw [hv] at J
   rcases J.2 with ⟨_,U⟩ | U
   ·exact I x br U
   ·obtain ⟨_,_,_,_,_,_,U,_⟩:=U
    cases U
def Dk.sync (δ:Dk): Dk:={ δ with aq:=laidP δ.now δ.aq,waiting:=[],now:=[] }
section
variable {told:dM} {h:H} {S:List ax} {X:ax} {r k q p bW:Nat} {v x wh di:V} {l b:List Nat} {π:Pl} {m:List Fm} {μ:Lg} {δ:Dk}
noncomputable def Dm (h:H)(p:Nat)(cs:List V)(I N:Nat)(row:List V)(mid:Nat)(es:bX)(clock:Nat): H :=
 ((((h.new (.iter mid clock clock [])).put I (some (.cells N (nL es row) false))).put p (some (.cells 12 (cs.set 2 .bz) false))).put mid (some (.map [] clock))).put h.next none
def EN (args:List V)(h:H)(r:V×H): Prop:=∃p cs,args=[.ptr p 0]∧T.get h.tr p=some (.cells 12 cs false) ∧
 ((nth cs 9=some (.bool true)∧r=(.int .i64 9,h))∨(nth cs 9=some (.bool false)∧∃v1 I,hO CB 118 [.ptr p 0] h v1 I ∧
  ((v1=.bool false∧r=(.int .i64 9,I))∨(v1=.bool true∧∃cs J N row mid es clock,T.get I.tr p=some (.cells 12 cs false)∧nth cs 1=some (.sl J 0 N (.exact N))∧nth cs 3=some (.map mid) ∧
   T.get I.tr J=some (.cells N row false)∧T.get I.tr mid=some (.map (es.map eB) clock)∧r=(.int .i64 0,Dm I p cs J N row mid es clock)))))
structure EO (h h':H)(X:List Nat): Prop where
 next:h'.next=h.next
 get:∀i,i∉X→T.get h'.tr i=T.get h.tr i
theorem EO.put {h h':H}{X:List Nat}(s:EO h h' X){i:Nat}{o:Option Obj}(hi:i∈X): EO h (h'.put i o) X :=
 ⟨s.next,fun j I=>by rw [b8,af (fun (e:j=i)=>I (e ▸ hi))]; exact s.get j I⟩
theorem Ah {α:Type}{f:V→α→ax}{a b:PM}: ∀ {l:bX} {m:List (Int×α)},(eD f l m).p a b→∀e∈l,∃x,(e.1,x)∈m∧(f e.2.1 x).p a b:=by
 intro l
 induction l with
 | nil=>intro m _ e he; cases he
 | cons y l I=>intro m h e he; cases m with
  | nil=>exact h.elim
  | cons x m =>
   obtain ⟨⟨J,U⟩,h3⟩:=h
   rcases List.mem_cons.1 he with rfl | he
   ·exact ⟨x.2,by rw [show e.1=x.1 from J]; exact br,U⟩
   ·obtain ⟨z,k1,k2⟩:=I h3 e he
    exact ⟨z,bp _ k1,k2⟩
noncomputable def syA : Code:=cM [0] ((Tryz.f75.body).getD .skip)
noncomputable def syB : Code:=cM [1,0] ((Tryz.f75.body).getD .skip)
noncomputable def syC : Code:=cM [1,1,0,0] ((Tryz.f75.body).getD .skip)
noncomputable def WB : Code:=cM [1,1,0,1,0,0,0] ((Tryz.f75.body).getD .skip)
noncomputable def ZP : Code:=cM [1,1,0,1,0,0,1,1,0] ((Tryz.f75.body).getD .skip)
noncomputable def syE : Code:=cM [1,1,1] ((Tryz.f75.body).getD .skip)
theorem B8 : Tryz.f75.body=some (.seq syA (.seq syB (.seq (.seq syC (.block 0 (.loop (.seq WB (.seq (.cond (.tmp 20) .skip (.exit 0)) (.block 1 ZP)))))) syE))):=rfl
theorem Uf : ∃id I J,WB=.region id #[I,J] false∧I.guard=none∧J.guard=none∧I.op=.next (.tmp 18) false∧I.dst=some 19∧J.op=.extract (.tmp 19) 0∧J.dst=some 20:=⟨_,_,_,rfl,rfl,rfl,rfl,rfl,rfl,rfl⟩
def ZQ (h₀:H)(p it I N mid clock:Nat)(cs row:List V)(es:bX)(S:List ax)(j:Nat)(E:List (Nat×V))(h:H): Prop :=
 ∃seen,Has E [(0,.ptr p 0),(18,.ptr it 0)]∧j=(leftV seen (es.map eB)).length∧EO h₀ h [it,I] ∧
  Sat h (pt it (.iter mid clock clock seen)::pt p (.cells 12 cs false)::pt I (.cells N (doneRow seen es row) false)::fG mid es clock::S)
theorem OG {h₀:H}{it I N mid clock:Nat}{cs row:List V}{es:bX}(yj:nth cs 1=some (.sl I 0 N (.exact N)))(hl:row.length=N)(U:fc clock 0 es)(hn:(es.map fun e=>e.1.toNat).Nodup)
 (hk:∀e∈es,0≤e.1∧e.1<N)(hv:∀e∈es,e.2.1.cells=[e.2.1]∧storable e.2.1=true){j:Nat}{E:List (Nat×V)}(h0:ZQ h₀ p it I N mid clock cs row es S j E h):
  eL CB 38 (.loop (.seq WB (.seq (.cond (.tmp 20) .skip (.exit 0)) (.block 1 ZP)))) E h fun ex E' h'=>ex=.exit 0∧Has E' [(0,.ptr p 0)]∧EO h₀ h' [it,I] ∧
   ∃seen,Sat h' (pt it (.iter mid clock clock seen)::pt p (.cells 12 cs false)::pt I (.cells N (nL es row) false)::fG mid es clock::S):=by
 refine eL.loop (ZQ h₀ p it I N mid clock cs row es S) ?_ h0
 rintro j E h ⟨seen,hE,rfl,hs,s⟩
 have g1:=s.row (k:=0) rfl
 have g2:=s.row (k:=3) rfl
 obtain ⟨id,PL,Tr,q0,q1,q2,q3,q4,q5,q6⟩:=Uf
 refine eL.seq ?_
 rw [q0]
 have hL:=next_at g1 (aI _) g2 U
 refine eL.next ic fH q1 q2 q3 q4 q5 rfl q6 rfl rfl (r:=it) ?_ hL fun q hq => ?_
 ·exact hE.2.1
 ·rcases HS g1 (aI _) g2 U hL q hq with ⟨rfl,J⟩ | ⟨e,he,SW,bV,rfl⟩
  ·refine ⟨.bool false,[],rfl,?_⟩
   refine eL.seq (eL.cond (t:=false) rfl ?_)
   refine eL.of ic fH (WP.exit ?_)
   refine ⟨rfl,⟨hE.1,aa⟩,hs,seen,?_⟩
   rw [←Ju J]
   exact s
  ·refine ⟨.bool true,_,rfl,?_⟩
   refine eL.seq (eL.cond (t:=true) rfl ?_)
   refine eL.of ic fH (WP.skip ?_)
   refine eL.block (eL.of ic fH ?_)
   have s:=s.put (o':=.iter mid clock clock (seen++[e.2.2])) (k:=0) rfl
   have hs:=hs.put (i:=it) (o:=some (.iter mid clock clock (seen++[e.2.2]))) br
   generalize h.put it (some (.iter mid clock clock (seen++[e.2.2])))=h' at s hs
   have g1:=s.row (k:=0) rfl
   have g2:=s.row (k:=3) rfl
   refine WP.has (F:=[(0,.ptr p 0),(18,.ptr it 0),(20,.bool true)]) ⟨hE.1,hE.2.1,rfl,aa⟩ (zg rfl (aB.any rfl rfl rfl (OpR.entry rfl rfl (HR g1 g2 U he)) ?_))
   rintro v h ⟨rfl,rfl⟩
   refine zk 8 rfl (zf rfl (m_ _ _) (zl rfl (s.ld (k:=1) rfl rZ yj) (zk 2 rfl ?_)))
   obtain ⟨k1,k2⟩:=hk e he
   refine zo rfl (ej (r:=.ptr I e.1.toNat) rfl rfl (by rw [Sw,show (decide (0≤e.1)&&decide (e.1<(N:Int)))=true by simp; omega,ag]; simp)) ?_
   have e1:=s.WA (P:=Tryz.prog) (k:=2) (t:=32) (off:=e.1.toNat) rfl jM (by rw [Jw]; exact hl) (by omega) (hv e he).1 (hv e he).2
   have s1:=s.put (o':=.cells N ((doneRow seen es row).set e.1.toNat e.2.1) false) (k:=2) rfl
   refine aB.Si rfl rfl (wD rfl rfl e1) (zv ?_)
   refine ⟨_,bV,seen++[e.2.2],⟨rfl,rfl,aa⟩,rfl,hs.put (by simp),?_⟩
   rw [HT U hn he SW]
   exact s1
theorem QZ {h₁ h':H}{p I N mid clock:Nat}{cs row:List V}{es:bX}(hs:EO (h₁.new (.iter mid clock clock [])) h' [h₁.next,I])(hi:T.get h'.tr I=some (.cells N (nL es row) false))(hp:p≠I)(hm:mid≠I):
  (Dm h₁ p cs I N row mid es clock).next=((h'.put p (some (.cells 12 (cs.set 2 .bz) false))).put mid (some (.map [] clock))).next ∧
  ∀id o,T.get (Dm h₁ p cs I N row mid es clock).tr id=some o→T.get ((h'.put p (some (.cells 12 (cs.set 2 .bz) false))).put mid (some (.map [] clock))).tr id=some o:=by
 refine ⟨hs.next.symm,fun id o ho => ?_⟩
 unfold Dm at ho
 rw [b8] at ho
 by_cases U:id=h₁.next
 ·rw [aj U] at ho; cases ho
 ·rw [af U,b8] at ho
  rw [b8]
  by_cases h2:id=mid
  ·rw [aj h2] at ho ⊢; exact ho
  ·rw [af h2,b8] at ho
   rw [af h2,b8]
   by_cases h3:id=p
   ·rw [aj h3] at ho ⊢; exact ho
   ·rw [af h3,b8] at ho
    rw [af h3]
    by_cases J:id=I
    ·rw [aj J] at ho; rw [J,hi]; exact ho
    ·rw [af J] at ho
     rw [hs.get id (by simp [U,J])]
     exact ho
theorem Q0 {P:Program}{mid c:Nat}{es:List (V×V×Nat)}{t kt et:TypeId}(I:T.get h.tr mid=some (.map es c))(hu:P.underlying t=some (.map kt et)):
  ∃v h₁,builtinV P h .clear #[t] [.map mid]=some (v,h₁)∧(fun (_:V) (h₁:H)=>h₁=h.put mid (some (.map [] c))) v h₁ :=
 ⟨cz,_,by simp only [builtinV,clearV,hu,I]; rfl,rfl⟩
theorem OH (s:Sat h (aG p δ::S))(tv:δ.Ok)(hk:∀e∈δ.now,0≤e.1∧e.1<δ.aq.length):
  ∃r,EN [.ptr p 0] h r∧∀(c:Ctx) (w:World),Rel c h w→(∀x∈[V.ptr p 0],wf c x)→fX Tryz.prog 75 [.ptr p 0] c w r.1 r.2:=by
 obtain ⟨pg,wt,nw,lg,mk,tn,tl,ops,s1⟩:=bt.1 s
 have gp:=s1.row (k:=0) rfl
 cases hd:δ.dead with
 | true =>
  refine ⟨(.int .i64 9,h),⟨p,_,rfl,gp,.inl ⟨by rw [hd]; rfl,rfl⟩⟩,fun c w hr ha => ?_⟩
  refine fX.Dj (C:=CB) (args:=[.ptr p 0]) Ac B8 (show 1≤Tryz.f75.ntmps by decide) ?_ hr ha
  refine eL.seq (eL.of ic fH ?_)
  have s:=s1
  refine zr rfl (za rfl (zv ?_))
  refine eL.seq (eL.of ic fH ?_)
  exact zK 4 rfl (zf rfl (jt _ _) (zt rfl (aW rfl (s.ld (k:=0) rfl ke rfl)) (hd) (zk 11 rfl (WP.ret ⟨aa,qy rfl,rfl,fun _ _ h=>h⟩))))
 | false =>
  obtain ⟨v1,J,CK,hR⟩:=mN W.base s tv.aD
  have I:Call CB 118 [.ptr p 0] h (fun v' h'=>v'=v1∧h'=J):=⟨v1,J,CK,rfl,rfl⟩
  rcases hR with ⟨h0,rfl,s2⟩ | ⟨h0,rfl,s2⟩
  ·refine ⟨(.int .i64 9,J),⟨p,_,rfl,gp,.inr ⟨by rw [hd]; rfl,_,J,CK,.inl ⟨rfl,rfl⟩⟩⟩,fun c w hr ha => ?_⟩
   refine fX.Dj (C:=CB) (args:=[.ptr p 0]) Ac B8 (show 1≤Tryz.f75.ntmps by decide) ?_ hr ha
   refine eL.seq (eL.of ic fH ?_)
   have s:=s1
   refine zr rfl (za rfl (zv ?_))
   refine eL.seq (eL.of ic fH ?_)
   refine zK 4 rfl (zf rfl (jt _ _) (zh rfl (aW rfl (s.ld (k:=0) rfl ke rfl)) (hd) (zk 2 rfl (zc rfl (I) ?_))))
   rintro v h ⟨rfl,rfl⟩
   exact zo rfl (dS rfl rfl) (zk 7 rfl (WP.ret ⟨aa,qy rfl,rfl,fun _ _ h=>h⟩))
  ·obtain ⟨pg,wt,nw,lg,mk,tn,tl,ops,s3⟩:=bt.1 s2
   obtain ⟨im,row,rfl,s4⟩:=gv.1 (s3.ae [1])
   obtain ⟨mid,es,clock,rfl,hb,hn,s5⟩:=eF.1 (s4.ae [4])
   dsimp only [bringA,getA,aU] at s5
   have s6:=s5.ae [4,2,0,0,0,0]
   dsimp only [bringA,getA,aU] at s6
   have gp1:=s6.row (k:=0) rfl
   have gi:=s6.row (k:=1) rfl
   have gm:=s6.row (k:=2) rfl
   obtain ⟨a,b,_,_,q3⟩:=s6.at (k:=3) rfl
   obtain ⟨a',b',_,_,q4⟩:=s6.at (k:=4) rfl
   have uz:row.length=δ.c9.aq.length:=uJ q4
   have PU:=th q3
   have WC:∀e∈es,0≤e.1∧e.1<(δ.c9.aq.length:Int):=fun e he=>by
    obtain ⟨x,k1,_⟩:=Ah q3 e he
    exact hk _ k1
   have gF:∀e∈es,e.2.1.cells=[e.2.1]∧storable e.2.1=true:=fun e he=>by
    obtain ⟨x,_,k2⟩:=Ah q3 e he
    have k3:ik b e.2.1 x:=k2
    rcases k3.2 with ⟨k4 | ⟨_,k4⟩,_⟩ | ⟨_,_,_,_,_,_,k4,_⟩
    ·rw [k4]; exact ⟨rfl,rfl⟩
    ·rw [k4]; exact ⟨rfl,rfl⟩
    ·rw [k4]; exact ⟨rfl,rfl⟩
   have nk:(es.map fun e=>e.1.toNat).Nodup:=by
    have J:(es.map (·.1)).Nodup:=by rw [PU]; exact hn
    rw [List.nodup_iff_pairwise_ne,List.pairwise_map] at J ⊢
    refine (List.pairwise_iff_forall_sublist.2 fun {x y} WD => ?_)
    have h2:=(List.pairwise_iff_forall_sublist.1 J) WD
    have hx:=(WC x (WD.subset br)).1
    have hy:=(WC y (WD.subset (bp _ br))).1
    omega
   refine ⟨(.int .i64 0,Dm J p _ im δ.c9.aq.length row mid es clock),⟨p,_,rfl,gp,.inr ⟨by rw [hd]; rfl,_,J,CK,.inr ⟨rfl,_,im,_,row,mid,es,clock,gp1,rfl,rfl,gi,gm,rfl⟩⟩⟩,fun c w hr ha => ?_⟩
   refine fX.Dj (C:=CB) (args:=[.ptr p 0]) Ac B8 (show 1≤Tryz.f75.ntmps by decide) ?_ hr ha
   refine eL.seq (eL.of ic fH ?_)
   have s:=s1
   refine zr rfl (za rfl (zv ?_))
   refine eL.seq (eL.of ic fH ?_)
   refine zK 4 rfl (zf rfl (jt _ _) (zh rfl (aW rfl (s.ld (k:=0) rfl ke rfl)) (hd) (zk 2 rfl (zc rfl (I) ?_))))
   rintro v h ⟨rfl,rfl⟩
   refine zo rfl (dS rfl rfl) (zp rfl (zv (zj rfl (WP.skip ?_))))
   refine eL.seq (eL.seq (eL.of ic fH ?_))
   have s:=s6
   refine zK 3 rfl (zf rfl (A4 _ _) (zl rfl (s.ld (k:=0) rfl mB rfl) (aB.any rfl rfl rfl (OpR.range rfl rfl (show rangeV Tryz.prog h 86 (.map mid)=some (.ptr h.next 0,h.new (.iter mid clock clock [])) by simp only [rangeV,lN,gm])) ?_)))
   rintro v h' ⟨rfl,rfl⟩
   refine zv ?_
   have s7:=s.new (.iter mid clock clock [])
   refine eL.block ((OG (row:=row) (es:=es) (S:=_) rfl uz hb nk WC gF ⟨[],⟨rfl,rfl,aa⟩,rfl,⟨rfl,fun _ _=>rfl⟩,by rw [Jv]; exact s7⟩).mono ?_)
   rintro ex E' h' ⟨rfl,iH,hs,seen,s⟩
   refine eL.of ic fH (WP.has iH ?_)
   have e1:=s.WA (P:=Tryz.prog) (k:=1) (t:=120) (off:=2) (v:=.bz) rfl Sx rfl (by decide) rfl rfl
   have s8:=s.put (o':=.cells 12 (List.set (vl δ.c9.room (.sl im 0 δ.c9.aq.length (.exact δ.c9.aq.length)) wt (.map mid) lg δ.c9.aJ mk δ.c9.aD ops δ.c9.dead tn tl) 2 .bz) false) (k:=1) rfl
   have gy:p≠im:=(s.ae [1,1]).ne
   have HU:mid≠im:=(s.ae [3,2]).ne
   have gi:=s.row (k:=2) rfl
   have U:=QZ (p:=p) (cs:=(vl δ.c9.room (.sl im 0 δ.c9.aq.length (.exact δ.c9.aq.length)) wt (.map mid) lg δ.c9.aJ mk δ.c9.aD ops δ.c9.dead tn tl)) hs gi gy HU
   refine zK 4 rfl (zf rfl (tZ _ _) (aB.Si rfl rfl (wD rfl rfl e1) ?_))
   have s:=s8
   have gm8:=s.row (k:=3) rfl
   refine zk 5 rfl (zf rfl (A4 _ _) (zl rfl (s.ld (k:=1) rfl mB rfl) (aB.h_ rfl rfl (OpR.builtin rfl rfl rfl (Q0 gm8 lN)) ?_)))
   rintro v h'' rfl
   exact zk 5 rfl (WP.ret ⟨aa,qy rfl,U.1,U.2⟩)
end
end Go.Proofs.YtconhghphklfjaaGreat.Am
