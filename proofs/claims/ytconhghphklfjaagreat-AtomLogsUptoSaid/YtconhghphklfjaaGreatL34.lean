/- After a crash the log has the records of the groups that are there and no others, with their numbers and data; the conditions are those of the given statement, for arguments that a machine can hold. Part 34 of 54. -/
import Derived.Test.YtconhghphklfjaaGreatL33
import Derived.Test.YtconhghphklfjaaGreatL13
namespace Go.Proofs.YtconhghphklfjaaGreat.Am
open Go
def vK : Fm:=⟨0,[],0,false,false⟩
def Pl.fresh (n:Nat): Pl:=⟨List.replicate n c7,[],[],0⟩
theorem Lz : ∃i,Tryz.prog.info? 167=some i∧i.size=5∧i.bytes=48 :=
 ⟨_,(show Tryz.prog.info? 167=some ((Tryz.prog.info? 167).getD default) by kernel_rfl),by kernel_rfl,by kernel_rfl⟩
theorem II {a b:PM}: ∀n:Nat,(nZ (repeatL [.int .i64 0,.aH,.int .i64 0,.bool false,.bool false] n) (List.replicate n vK)).p a b:=by
 intro n
 induction n with
 | zero=>trivial
 | succ n I=>exact ⟨⟨⟨rfl,rfl,rfl,rfl⟩,⟨(by intro b J; cases J),.inl ⟨.inl rfl,rfl⟩⟩⟩,I⟩
section
variable {told:Nat→Option (List V→H→Option (V×H))} {h:H} {S:List ah} {X:ah} {r k q p bw:Nat} {v x wh di:V} {l b:List Nat} {π:Pl} {m:List Fm} {μ:Lg} {δ:Dk}
noncomputable def TH : Code:=cn [1,1,1,0,1,0,0] ((Tryz.f59.body).getD .skip)
theorem Gt {n:Nat}(hn:n<4294967296): ∀(j i:Nat) (m:List Fm) (h:H) (E:List (Nat×V)) (Q:Ex→List (Nat×V)→H→Prop),i+j=n→m=List.replicate i c7++List.replicate j vK →
  Sat h (pt r (.cells 6 (lC p q bw n wh di 0) false)::cQ bw m::S)→Has E [(8,.ptr r 0),(28,.int .i64 n),(29,.int .i64 i)] →
  (∀E' h',Has E' [(8,.ptr r 0)]→Sat h' (pt r (.cells 6 (lC p q bw n wh di 0) false)::cQ bw (List.replicate n c7)::S)→Q (.exit 0) E' h')→WP ⟨Tryz.prog,told⟩ 41 (.loop TH) E h Q:=by
 intro j
 induction j with
 | zero =>
  intro i m h E Q hi hm s J U
  refine WP.loop (WP.has J (zg rfl (ae.aE rfl rfl rfl (af rfl rfl aX) (by simp <;> omega) ?_)))
  refine zv (zw (zj rfl (WP.exit (U _ _ ⟨rfl,trivial⟩ ?_))))
  rw [hm] at s
  have:i=n:=by omega
  subst this
  simpa using s
 | succ j ih =>
  intro i m h E Q hi hm s J U
  have Qx:m.length=n:=by rw [hm]; simp; omega
  have hf:m[i]?=some vK:=by rw [hm,List.getElem?_append_right (by simp)]; simp [List.replicate_succ]
  obtain ⟨pre,fv,post,I,hlen,s⟩:=fT (s.aa [1]) hf
  dsimp only [bringA,getA,ai] at s
  refine WP.loop (WP.has J (zg rfl (ae.aR rfl rfl rfl (af rfl rfl aX) (by simp <;> omega) ?_)))
  refine zv (zw (zi rfl (WP.skip (zw (WP.block (zg rfl (zm rfl (za rfl (zv (zr rfl (zm rfl (zn rfl (zf rfl (iF _ _) (zl rfl (by exact s.ld (k:=3) rfl lp rfl) ?_))))))))))))))
  refine zm rfl (zo rfl (cH rfl rfl (jt (i:=i) (by omega))) ?_)
  refine zf rfl (kD _ _) (ae.bn rfl rfl rfl rfl rfl (s.stM (k:=0) (j:=0) rfl jh I hlen (by simp [dr]) rfl rfl) ?_)
  intro h s
  dsimp only [setA] at s
  have e5:(dr vK fv).set 0 (.int .i64 (-1))=dr c7 fv:=rfl
  rw [e5] at s
  refine zv (zr rfl (zb rfl (by exact bl (aF (by omega) (by omega))) ?_))
  refine zm rfl (zv ?_)
  have s:=eo (i:=i) (f':=c7) s rfl hf I
  refine ih (i+1) (m.set i c7) h _ Q (by omega) ?_ (s.aa [1,0]) ⟨rfl,rfl,rfl,trivial⟩ U
  rw [hm,List.set_append_right _ _ (by simp),List.length_replicate,Nat.sub_self,List.replicate_succ,List.set_cons_zero,List.replicate_succ',List.append_assoc]
  rfl
theorem C0 (hT:W told){n:Int}(s:Sat h S): Call ⟨Tryz.prog,told⟩ 59 [.ptr p 0,.ptr q 0,.int .i64 n] h fun v h' =>
  (¬(1≤n∧n≤1024)∧v=.aW [.bI,.int .i64 1]∧Sat h' S)∨(1≤n∧n≤1024∧∃r,v=.aW [.ptr r 0,.int .i64 0]∧Sat h' (cB r p q (Pl.fresh n.toNat)::S)):=by
 refine Call.of_wp (hT.free _ rfl) Tryz.func59 rfl rfl (zg rfl (za rfl (za rfl (zv (zw (zg rfl (zm rfl ?_)))))))
 refine ae.dh rfl rfl rfl (af rfl rfl aX) ?_ ?_
 ·intro J
  have J:n<1:=by simpa using J
  refine zm rfl (zx rfl (zx rfl (zq rfl (zv (zi rfl (zg rfl (za rfl (za rfl (zv ?_)))))))))
  refine WP.ret ⟨trivial,_,rfl,?_⟩
  exact .inl ⟨fun q=>by omega,rfl,s⟩
 ·intro J
  have J:1≤n:=by simp at J; omega
  refine zm rfl (zm rfl ?_)
  refine ae.dh rfl rfl rfl (af rfl rfl dS) ?_ ?_
  ·intro I
   have I:1024<n:=by simpa using I
   refine zp rfl (zv (zi rfl (zg rfl (za rfl (za rfl (zv ?_))))))
   refine WP.ret ⟨trivial,_,rfl,?_⟩
   exact .inl ⟨fun q=>by omega,rfl,s⟩
  ·intro I
   have I:n≤1024:=by simp at I; omega
   obtain ⟨n,rfl⟩:∃k:Nat,n=k:=⟨n.toNat,by omega⟩
   refine zp rfl (zv (zj rfl (WP.skip (zg rfl (zm rfl (zm rfl (zm rfl ?_)))))))
   obtain ⟨i1,U,iI,pq⟩:=Lz
   obtain ⟨id,h1,e1,s1⟩:=rP (P:=Tryz.prog) s Tryz.underlying137 U O2 iI (by omega) rfl (by decide) (n:=n) (by omega)
   refine ae.any rfl rfl rfl (OpR.of (R:=fun v h'=>v=.sl id 0 n (.exact n)∧h'=h1) (ow rfl rfl e1) ⟨rfl,rfl⟩) ?_
   rintro v h ⟨rfl,rfl⟩
   have s:Sat h (cQ id (List.replicate n vK)::S):=gD.2 ⟨_,by rw [List.length_replicate]; exact ((s1.eu (φ:=True) trivial).dY fun a b _=>II n).aa [1]⟩
   refine ae.rH s rfl rfl rfl rfl (fun TI h s => ?_)
   refine ae.rH s rfl rfl rfl rfl (fun NF h s => ?_)
   refine zo rfl (bW rfl (by rw [OX]; rfl)) ?_
   refine ae.bO s rfl rfl rfl (ff rfl rfl) (fun Qy h s => ?_)
   dsimp only [V.cells,List.take,List.length_cons,List.length_nil,Nat.reduceAdd,List.drop,List.cons_append,List.nil_append] at s
   refine za rfl (zv (zw (zg rfl (zm rfl (zn rfl (zf rfl (iF _ _) (zl rfl (by exact s.ld (k:=0) rfl lp rfl) ?_)))))))
   refine zo rfl (aL rfl rfl rfl (by exact kF rfl Tryz.underlying137)) ?_
   refine zm rfl (zv (WP.block ?_))
   have s:=nT (f:=fun v (x:Nat×Bool)=>.pu (v=.agg [.int .u64 (x.1:Int),.bool x.2])) (s.aa [1])
   dsimp only [bringA,getA,ai] at s
   have s:=nT (f:=fun v (x:Int)=>.pu (v=.int .i64 x)) (s.aa [2])
   dsimp only [bringA,getA,ai] at s
   have s:=s.aa [2,2,0,0]
   dsimp only [bringA,getA,ai] at s
   refine Gt (n:=n) (by omega) n 0 _ _ _ _ (by omega) rfl s ⟨rfl,rfl,rfl,trivial⟩ (fun E' h' fu s' => ?_)
   refine WP.has fu (zg rfl (zm rfl (za rfl (za rfl (zv ?_)))))
   refine WP.ret ⟨trivial,_,rfl,?_⟩
   refine .inr ⟨J,I,_,rfl,(dD (π:=Pl.fresh n)).2 ⟨id,.map TI,.map NF,?_⟩⟩
   have e6:(Pl.fresh n).ag.length=n:=by simp [Pl.fresh]
   rw [e6]
   exact s'
end
end Go.Proofs.YtconhghphklfjaaGreat.Am
namespace Go.Proofs.YtconhghphklfjaaGreat.Am
open Go
theorem Gu {c:Nat}: ∀ {l:bJ} {b:Nat},dZ c b l→bornUp c b (l.map eB)=true:=by
 intro l
 induction l with
 | nil=>intro b _; rfl
 | cons e l I =>
  intro b h
  obtain ⟨J,U,h3⟩:=h
  simp only [List.map_cons,eB,bornUp]
  rw [show (Nat.ble b e.2.2&&Nat.blt e.2.2 c)=true by rw [Bool.and_eq_true,ay]; exact ⟨J,by rw [Nat.blt]; exact ay.2 U⟩,cond_true]
  exact I h3
theorem Ec : ∀ {l:bJ},(∀e∈l,(Lit.int .i64 e.1).wf=true)→keyInts (l.map eB)=some (l.map (·.1)):=by
 intro l
 induction l with
 | nil=>intro _; rfl
 | cons e l I =>
  intro h
  simp only [List.map_cons,eB,keyInts]
  rw [h e List.mem_cons_self,cond_true]
  have:=I (fun e he=>h e (List.mem_cons_of_mem _ he))
  rw [this]
theorem BO {x:Int}: ∀ {l:List Int},l.Pairwise (· < ·)→x∉l→(insI x l).Pairwise (· < ·):=by
 intro l
 induction l with
 | nil=>intro _ _; simp [insI]
 | cons y l ih =>
  intro h U
  simp only [List.pairwise_cons,List.mem_cons,not_or] at h U
  simp only [insI]
  by_cases J:x≤y
  ·rw [decide_eq_true J,cond_true]
   have:x<y:=by omega
   simp only [List.pairwise_cons,List.mem_cons]
   refine ⟨fun z I => ?_,h⟩
   rcases I with rfl | I
   ·exact this
   ·have:=h.1 z I; omega
  ·rw [decide_eq_false J,cond_false]
   simp only [List.pairwise_cons]
   refine ⟨fun z I => ?_,ih h.2 U.2⟩
   have:=(rR x l).mem_iff.1 I
   rcases List.mem_cons.1 this with rfl | I
   ·omega
   ·exact h.1 z I
theorem BP : ∀ {l:List Int},l.Nodup→(jc l).Pairwise (· < ·):=by
 intro l
 induction l with
 | nil=>intro _; exact List.Pairwise.nil
 | cons x l I =>
  intro h
  simp only [List.nodup_cons] at h
  exact BO (I h.2) (fun J=>h.1 ((en l).mem_iff.1 J))
theorem IJ : ∀ {l:List Int},l.Pairwise (· < ·)→my l=true:=by
 intro l
 induction l with
 | nil=>intro _; rfl
 | cons x l I =>
  intro h
  simp only [List.pairwise_cons] at h
  simp only [my,Bool.and_eq_true,List.all_eq_true,decide_eq_true_eq]
  exact ⟨h.1,I h.2⟩
section
variable {α:Type} {f:V→α→ah} {told:Nat→Option (List V→H→Option (V×H))} {h:H} {S:List ah} {mv:V} {m:List (Int×α)} {b g:Nat}
def ck (m:List (Int×α)): List Int:=jc (m.map (·.1))
theorem oz {m:List (Int×α)}{n:Int}: n∈ck m↔n∈m.map (·.1):=(en _).mem_iff
theorem IK (l:List Int): (dO l).all storable=true:=by simp [dO,storable]
theorem oA (hT:W told)(s:Sat h (pt b (.cells 1 [mv] false)::fE f mv m::S))(hg:pM sR g=true)(hm:m.length≤1048576)(hk:∀n∈m.map (·.1),(Lit.int .i64 n).wf=true):
  Call ⟨Tryz.prog,told⟩ 50 [.fn (.func g) [] [.ptr b 0]] h fun v h'=>Sat h' (.arr 1 v (dO (ck m))::pt b (.cells 1 [mv] false)::fE f mv m::S):=by
 obtain ⟨id,l,c,rfl,hb,hn,s1⟩:=c9.1 (s.aa [1])
 have s1:Sat h (ej id l c::cX f l m::pt b (.cells 1 [.map id] false)::S):=s1
 obtain ⟨q1,q2,q3,q4,q5⟩:=s1.at (k:=1) rfl
 have I:=qa q5
 have hlen:l.length=m.length:=by have:=congrArg List.length I; simpa using this
 have U:=s1.row (k:=0) rfl
 have RX:=s1.row (k:=2) rfl
 have iS:∀e∈l,(Lit.int .i64 e.1).wf=true:=fun e he=>hk e.1 (by rw [←I]; exact List.mem_map_of_mem he)
 have TJ:my (jc (l.map (·.1)))=true:=IJ (BP (by rw [I]; exact hn))
 have J:∃v h',toldSorted sR [.fn (.func g) [] [.ptr b 0]] h=some (v,h')∧Sat h' (.arr 1 v (dO (ck m))::pt b (.cells 1 [.map id] false)::fE f (.map id) m::S):=by
  simp only [toldSorted,RX,U,List.length_map,hg,Gu hb,Ec iS,TJ]
  rw [show (Nat.beq 1 1&&true&&true&&Nat.ble l.length 1048576)=true by rw [ay.2 (by omega)]; rfl,cond_true]
  simp only [cond_true]
  cases hl:l.map (·.1) with
  | nil =>
   refine ⟨_,_,rfl,?_⟩
   have:ck m=[]:=by rw [ck,←I,hl]; rfl
   rw [this]
   exact s.jZ
  | cons x xs =>
   refine ⟨_,_,rfl,?_⟩
   have e1:ck m=jc (x::xs):=by rw [ck,←I,hl]
   have e2:(jc (x::xs)).length=(x::xs).length:=(en _).length_eq
   have e3:(x::xs).length=l.length:=by rw [←hl,List.length_map]
   rw [e1,←e3]
   refine (s.new (.cells (dO (jc (x::xs))).length (dO (jc (x::xs))) false)).dY fun a r F1=>⟨IK _,.inr ⟨h.next,(x::xs).length,.rest 1 0,(dO (jc (x::xs))).length,[],rfl,?_,?_,by simp,rfl,rfl,rfl,rfl,by simp⟩⟩
   ·rw [List.append_nil]; exact F1
   ·simp only [dO,List.length_map,e2,Nat.mul_one]
 obtain ⟨v,h',e1,e2⟩:=J
 exact ⟨v,h',fb.told hT.sorted Tryz.func50 rfl e1,e2⟩
end
end Go.Proofs.YtconhghphklfjaaGreat.Am
namespace Go.Proofs.YtconhghphklfjaaGreat.Am
open Go
structure rY (ε:aM): Prop where
 pl:ε.1.Ok
 lg:ε.2.1.Ok
 dk:ε.2.2.Ok
theorem IL {ε:aM}{i:Nat}(h:ε.1.Ok): (outF ε i).2.1.Ok:=by
 unfold outF
 split
 ·exact h
 ·rename_i f J
  have hm:=List.mem_of_getElem? J
  split
  ·exact h
  ·split
   ·exact h
   ·split
    ·exact h
    ·split
     ·exact h
     ·refine ⟨by simp only [List.length_set]; exact h.hand,by simp only [List.length_set]; exact h.many,fun e he=>by simp only [List.length_set]; exact h.aZ e he,fun g I => ?_,fun g I => ?_⟩
      ·rcases List.mem_or_eq_of_mem_set I with I | rfl
       ·exact h.len g I
       ·exact h.len f hm
      ·rcases List.mem_or_eq_of_mem_set I with I | rfl
       ·exact h.pins g I
       ·exact h.pins f hm
theorem qi {ε:aM}{i:Nat}(h:rY ε): rY (outF ε i).2:=⟨IL h.pl,IG h.lg,ux h.dk⟩
theorem BQ {δ:Dk}{n:Int}{b:List Nat}: (δ.bF n b).2.waiting.length≤δ.waiting.length+1:=by
 unfold Dk.bF
 split
 ·exact Nat.le_succ _
 ·split
  ·exact Nat.le_succ _
  ·split
   ·exact Nat.le_succ _
   ·exact Nat.le_of_eq (by simp [Dk.wr])
section
variable {told:Nat→Option (List V→H→Option (V×H))} {h:H} {S:List ah} {X:ah} {r k q p bw:Nat} {v x wh di:V} {l b:List Nat} {π:Pl} {m:List Fm} {μ:Lg} {δ:Dk}
end
end Go.Proofs.YtconhghphklfjaaGreat.Am
namespace Go.Proofs.YtconhghphklfjaaGreat.Am
open Go
section
variable {told:Nat→Option (List V→H→Option (V×H))} {h:H} {S:List ah} {X:ah} {r k q p bw:Nat} {v x wh di:V} {l b:List Nat} {π:Pl} {m:List Fm} {μ:Lg} {δ:Dk}
end
end Go.Proofs.YtconhghphklfjaaGreat.Am
namespace Go.Proofs.YtconhghphklfjaaGreat.Am
open Go
def AA (ak:Nat)(Q:Ex→List (Nat×V)→H→Prop)(c:Ctx)(a:Act)(w:World)(e:Exit)(U:Act)(w':World): Prop :=
 ∃ex I h' E',e=exOf ex∧gN I E'∧Q ex E' h'∧U.defers=a.defers∧∃J,Rel J h' w'∧cW J I ak U∧cm c w J w'
def dJ (C:cf)(ak:Nat)(code:Code)(E:List (Nat×V))(h:H)(Q:Ex→List (Nat×V)→H→Prop): Prop :=
 ∀(c:Ctx) (a:Act) (w:World) (env:Env),gN env E→Rel c h w→cW c env ak a→code.wpIn (Fr none) 0 C.P (AA ak Q c a w) a w
section
variable {C:cf} {ak:Nat} {E:List (Nat×V)} {h:H} {Q Q':Ex→List (Nat×V)→H→Prop} {a b:Code}
theorem AA.trans {c c₁:Ctx}{A I a':Act}{w J w':World}{e:Exit}(hd:I.defers=A.defers)(hs:cm c w c₁ J)(ho:AA ak Q c₁ I J e a' w'): AA ak Q c A w e a' w':=by
 obtain ⟨ex,U,h',E',h1,h2,h3,h4,c',h5,h6,h7⟩:=ho
 exact ⟨ex,U,h',E',h1,h2,h3,h4.trans hd,c',h5,h6,hs.trans h7⟩
theorem dJ.of (hm:C.P.follows .mixedOrders=true)(J:eM C)(hw:WP C ak a E h Q): dJ C ak a E h Q:=by
 intro c A w env U hr he
 obtain ⟨N,ex,I,h',E',h1,h2,h3⟩:=hw env U
 refine wpIn_mono ((zK hm J N).1 _ _ _ _ h1 none c A w hr he) ?_
 rintro e a' w' ⟨rfl,h4,c',h5,h6,h7⟩
 exact ⟨ex,I,h',E',rfl,h2,h3,h4,c',h5,h6,h7⟩
theorem dJ.mono (hw:dJ C ak a E h Q)(U:∀ex J h',Q ex J h'→Q' ex J h'): dJ C ak a E h Q':=by
 intro c A w env hE hr he
 refine wpIn_mono (hw c A w env hE hr he) ?_
 rintro e a' w' ⟨ex,I,h',J,h1,h2,h3,h4⟩
 exact ⟨ex,I,h',J,h1,h2,U _ _ _ h3,h4⟩
theorem dJ.seq (hw:dJ C ak a E h fun ex J h'=>match ex with
  | .normal=>dJ C ak b J h' Q
  | ex=>Q ex J h'): dJ C ak (.seq a b) E h Q:=by
 intro c A w env hE hr he
 refine wpIn_seq (wpIn_mono (hw c A w env hE hr he) ?_)
 rintro e U wA ⟨ex,I,h',J,rfl,h2,h3,h4,c₁,h5,h6,h7⟩
 cases ex with
 | normal=>exact wpIn_mono (h3 c₁ U wA I h2 h5 h6) fun e a' w' ho=>ho.trans h4 h7
 | exit i=>exact ⟨_,I,h',J,rfl,h2,h3,h4,c₁,h5,h6,h7⟩
 | ret=>exact ⟨_,I,h',J,rfl,h2,h3,h4,c₁,h5,h6,h7⟩
theorem dJ.cond {x:Operand}{t:Bool}(J:lookO E x=some (.bool t))(hw:dJ C ak (_root_.cond t a b) E h Q): dJ C ak (.cond x a b) E h Q:=by
 intro c A w env I U he
 obtain ⟨e1,_⟩:=yZ he (bf I J)
 refine wpIn_cond (t:=t) (by rw [e1]; rfl) ?_
 have:=hw c A w env I U he
 cases t <;> simpa using this
theorem dJ.block {i:Nat}(hw:dJ C ak b E h fun ex J h'=>match ex with
  | .exit j=>_root_.cond (Nat.beq j i) (Q .normal J h') (Q (.exit j) J h')
  | ex=>Q ex J h'): dJ C ak (.block i b) E h Q:=by
 intro c A w env hE hr he
 refine wpIn_block (wpIn_mono (hw c A w env hE hr he) ?_)
 rintro e Bx wA ⟨ex,I,h',J,rfl,h2,U,h4,c₁,h5,h6,h7⟩
 cases ex with
 | normal=>simp only [exOf,Exit.inBlock]; exact ⟨.normal,I,h',J,rfl,h2,U,h4,c₁,h5,h6,h7⟩
 | exit j =>
  by_cases hj:j=i
  ·simp only [eH hj,cond_true] at U
   simp only [exOf,Exit.inBlock,hj,if_true]
   exact ⟨.normal,I,h',J,rfl,h2,U,h4,c₁,h5,h6,h7⟩
  ·simp only [bT hj,cond_false] at U
   simp only [exOf,Exit.inBlock,hj,if_false]
   exact ⟨.exit j,I,h',J,rfl,h2,U,h4,c₁,h5,h6,h7⟩
 | ret=>simp only [exOf,Exit.inBlock]; exact ⟨.ret,I,h',J,rfl,h2,U,h4,c₁,h5,h6,h7⟩
theorem dJ.loop (J:Nat→List (Nat×V)→H→Prop)(hJ:∀j E h,J j E h→dJ C ak b E h fun ex U h'=>match ex with
  | .normal=>∃i,i<j∧J i U h'
  | ex=>Q ex U h'){j:Nat}(h0:J j E h): dJ C ak (.loop b) E h Q:=by
 have key:∀m j E h,j<m→J j E h→∀(c:Ctx) (A:Act) (w:World) (env:Env) (R:Exit→Act→World→Prop),gN env E→Rel c h w→cW c env ak A →
   (∀e a' w',AA ak Q c A w e a' w'→R e a' w')→Code.roundsIn (Fr none) 0 C.P b R m A w:=by
  intro m
  induction m with
  | zero=>intro j E h hj; omega
  | succ m ih =>
   intro j E h hj TK c A w env R hE hr he hR
   rw [roundsIn_succ]
   refine wpIn_mono (hJ j E h TK c A w env hE hr he) ?_
   rintro e Bx wA ⟨ex,I,h',U,rfl,h2,h3,h4,c₁,h5,h6,h7⟩
   cases ex with
   | normal =>
    obtain ⟨i,hi,h3⟩:=h3
    exact ih i U h' (by omega) h3 c₁ Bx wA I R h2 h5 h6 fun e a' w' ho=>hR _ _ _ (ho.trans h4 h7)
   | exit i=>exact hR _ _ _ ⟨_,I,h',U,rfl,h2,h3,h4,c₁,h5,h6,h7⟩
   | ret=>exact hR _ _ _ ⟨_,I,h',U,rfl,h2,h3,h4,c₁,h5,h6,h7⟩
 intro c A w env hE hr he
 exact wpIn_loop_rounds (j+1) (key (j+1) j E h (by omega) h0 c A w env _ hE hr he fun _ _ _ ho=>ho)
theorem Gv {α β:Type}{f:α→Option (List β)}{p:β→Prop}: ∀ {L:List α},(∀q∈L,∃s,f q=some [s]∧p s)→∃R,flatM f L=some R∧∀s∈R,p s:=by
 intro L
 induction L with
 | nil=>intro _; exact ⟨[],rfl,fun s hs=>by cases hs⟩
 | cons q L U =>
  intro J
  obtain ⟨R,h1,h2⟩:=U fun q I=>J q (List.mem_cons_of_mem _ I)
  obtain ⟨s,e1,e2⟩:=J q List.mem_cons_self
  refine ⟨s::R,?_,fun s' hs => ?_⟩
  ·simp only [flatM,e1,h1,List.cons_append,List.nil_append]
  ·rcases List.mem_cons.1 hs with rfl | hs
   ·exact e2
   ·exact h2 s' hs
theorem dJ.next {id:Nat}{I J:Oper}{x y:Operand}{r U IM:Nat}{L:List (V×H)}(hm:C.P.follows .mixedOrders=true)(hT:eM C)(Vs:I.guard=none)(RY:J.guard=none)(RZ:I.op=.next x false)(Vt:I.dst=some U)
 (NG:J.op=.extract y 0)(hy:y=.tmp U)(Vu:J.dst=some IM)(L9:Nat.blt U ak=true)(OD:Nat.blt IM ak=true)(hx:lookO E x=some (.ptr r 0))(hL:nextAll h r=some L)
 (hq:∀q∈L,∃t l,q.1=.aW (t::l)∧Q .normal ((IM,t)::(U,q.1)::E) q.2): dJ C ak (.region id #[I,J] false) E h Q:=by
 intro c A w env hE hr he
 subst hy
 have hS:=(zK (C:=C) hm hT 0).1
 refine wpIn_region ?_
 rw [List.range_eq_range',←Array.length_toList]
 have iV:∃R,opsAll C (ev C 0) (#[I,J]:Array Oper).toList (#[I,J]:Array Oper).toList ⟨env,ak,h⟩=some R∧∀s∈R,∃E',gN s.env E'∧s.ak=ak∧Q .normal E' s.h:=by
  have e1:∀Dr:Env,wantedV [I,J] Dr I=true:=fun Dr=>by simp only [wantedV,Vs]
  have e2:∀Dr:Env,wantedV [I,J] Dr J=true:=fun Dr=>by simp only [wantedV,RY]
  have iT:=bf hE hx
  simp only [opsAll,e1,e2,cond_true,opAll,RZ,iT,Nat.beq_refl,hL]
  refine Gv fun q nI => ?_
  obtain ⟨t,l,k1,k2⟩:=hq q nI
  refine ⟨⟨(env.set U (some q.1)).set IM (some t),ak,q.2⟩,?_,_,(hE.set U q.1).set IM t,rfl,k2⟩
  have hg:evO (T.set env U (some (V.aW (t::l)))) (.tmp U)=some (.aW (t::l)):=by simp only [evO,Env.v,aC,if_true]
  simp only [St.put,Vt,L9,cond_true,NG,evOp,k1,hg,nth,Nat.beq_refl,aB,Vu,OD,flatM,List.append_nil]
 obtain ⟨R,iV,h2⟩:=iV
 refine FC hS hT _ 0 ⟨env,ak,h⟩ R c A w (fun j=>by rw [Nat.zero_add,Array.getElem?_toList]) iV hr he ?_
 intro s' xx c' a' w' r1 r2 r3 r4
 obtain ⟨E',e1,e2,e3⟩:=h2 s' xx
 exact ⟨.normal,s'.env,s'.h,E',rfl,e1,e3,r4,c',r1,by rw [e2] at r2; exact r2,r3⟩
theorem ei.AB {f:FuncId}{fn:Func}{code:Code}{args:List V}{v:V}{U:H}(hf:C.P.funcs[f]?=some fn)(hb:fn.body=some code)(hn:args.length≤fn.ntmps)
 (hw:dJ C fn.ntmps code (argE args 0) h fun ex E' h'=>(match ex with | .exit _=>False | _=>True)∧gw C.P E' h' fn.results.toList=some v∧U.next=h'.next∧∀id o,T.get U.tr id=some o→T.get h'.tr id=some o)
 {c:Ctx}{w:World}(hr:Rel c h w)(ha:∀x∈args,wf c x): ei C.P f args c w v U:=by
 have ud:=kU (c:=c) hn ha
 have Ms:=hw c _ w _ (sD args) hr ud
 unfold ei
 refine calls_of_wp hf hb (wpIn_wide.1 (wpIn_mono Ms ?_))
 rintro e a' w' ⟨ex,NH,h',E',rfl,fu,⟨hx,I,xR,hle⟩,hd,c',r1,r2,r3⟩
 have fin:a'.defers=[]∧∃x,(results fn a'.tmps).run C.P w'=.ok x w'∧∃kV,Ending.returned x=.returned (conc kV v)∧wf kV v∧Rel kV U w'∧cm c w kV w':=by
  refine ⟨hd,?_⟩
  unfold gw at I
  cases Fg:mapO (resE C.P E' h') fn.results.toList with
  | none=>simp [Fg] at I
  | some vs =>
   rw [Fg] at I
   have F1:=wH (P:=C.P) (s:=⟨NH,fn.ntmps,h'⟩) fu Fg
   obtain ⟨t1,t2⟩:=mU (s:=⟨NH,fn.ntmps,h'⟩) r1 r2 F1
   refine ⟨_,t1,c',?_⟩
   have J:=r1.OL xR hle
   match vs,I with
   | [],I =>
    simp at I
    subst I
    refine ⟨?_,by simp [wf,dH],J,r3⟩
    simp [conc,concL]
   | [x],I =>
    simp at I
    subst I
    exact ⟨by simp,t2 _ (by simp),J,r3⟩
   | x::y::l,I =>
    simp at I
    subst I
    refine ⟨?_,by simp only [wf,fB]; exact t2,J,r3⟩
    rw [dif_neg (by simp)]
    simp [conc,eU,concL]
 cases ex with
 | normal=>simpa [bodyPost,exOf] using fin
 | exit i=>exact hx.elim
 | ret=>simpa [bodyPost,exOf] using fin
end
end Go.Proofs.YtconhghphklfjaaGreat.Am
namespace Go.Proofs.YtconhghphklfjaaGreat.Am
open Go
theorem nt (l:List Nat)(b x:Nat): inL (l++[b]) x=(inL l x||Nat.beq b x):=by
 induction l with
 | nil=>simp only [List.nil_append,inL,Bool.false_or]; cases Nat.beq b x <;> rfl
 | cons y l I=>simp only [List.cons_append,inL,I]; cases Nat.beq y x <;> simp
theorem Gw {seen:List Nat}: ∀ {l:List (V×V×Nat)} {e:V×V×Nat},e∈leftV seen l→e∈l∧inL seen e.2.2=false:=by
 intro l
 induction l with
 | nil=>intro e h; cases h
 | cons y l I =>
  intro e h
  simp only [leftV] at h
  cases J:inL seen y.2.2 with
  | true=>rw [J,cond_true] at h; exact ⟨List.mem_cons_of_mem _ (I h).1,(I h).2⟩
  | false =>
   rw [J,cond_false] at h
   rcases List.mem_cons.1 h with rfl | h
   ·exact ⟨List.mem_cons_self,J⟩
   ·exact ⟨List.mem_cons_of_mem _ (I h).1,(I h).2⟩
theorem Gx {seen:List Nat}: ∀ {l:List (V×V×Nat)},leftV seen l=[]→∀e∈l,inL seen e.2.2=true:=by
 intro l
 induction l with
 | nil=>intro _ e he; cases he
 | cons y l J =>
  intro h e he
  simp only [leftV] at h
  cases I:inL seen y.2.2 with
  | false=>rw [I,cond_false] at h; cases h
  | true =>
   rw [I,cond_true] at h
   rcases List.mem_cons.1 he with rfl | he
   ·exact I
   ·exact J h e he
theorem AD {seen:List Nat}{b:Nat}: ∀ {l:List (V×V×Nat)},(leftV (seen++[b]) l).length≤(leftV seen l).length:=by
 intro l
 induction l with
 | nil=>exact Nat.le_refl _
 | cons y l I =>
  simp only [leftV,nt]
  cases inL seen y.2.2 <;> cases Nat.beq b y.2.2 <;> simp <;> omega
theorem IN {seen:List Nat}: ∀ {l:List (V×V×Nat)} {e:V×V×Nat},e∈leftV seen l→(leftV (seen++[e.2.2]) l).length<(leftV seen l).length:=by
 intro l
 induction l with
 | nil=>intro e h; cases h
 | cons y l J =>
  intro e h
  simp only [leftV] at h
  cases I:inL seen y.2.2 with
  | true =>
   rw [I,cond_true] at h
   simp only [leftV,nt,I,Bool.true_or,cond_true]
   exact J h
  | false =>
   rw [I,cond_false] at h
   simp only [leftV,nt,I,Bool.false_or,cond_false]
   rcases List.mem_cons.1 h with rfl | h
   ·rw [Nat.beq_refl,cond_true]
    have:=AD (seen:=seen) (b:=e.2.2) (l:=l)
    simp; omega
   ·cases Nat.beq e.2.2 y.2.2
    ·simp only [cond_false,List.length_cons]; have:=J h; omega
    ·simp only [cond_true,List.length_cons]; have:=AD (seen:=seen) (b:=e.2.2) (l:=l); omega
theorem Gy {c:Nat}: ∀ {l:bJ} {b:Nat},dZ c b l→ny c (l.map eB)=true:=by
 intro l
 induction l with
 | nil=>intro b _; rfl
 | cons e l I =>
  intro b h
  simp only [List.map_cons,eB,ny]
  rw [fA.2 h.2.1,cond_true]
  exact I h.2.2
theorem BR {c:Nat}: ∀ {l:bJ} {b:Nat},dZ c b l→bornRise b (l.map eB)=true:=by
 intro l
 induction l with
 | nil=>intro b _; rfl
 | cons e l I =>
  intro b h
  simp only [List.map_cons,eB,bornRise]
  rw [ay.2 h.1,cond_true]
  exact I h.2.2
theorem uy {c:Nat}: ∀ {l:bJ} {b:Nat},dZ c b l→∀e∈l,b≤e.2.2:=by
 intro l
 induction l with
 | nil=>intro b _ e he; cases he
 | cons y l I =>
  intro b h e he
  rcases List.mem_cons.1 he with rfl | he
  ·exact h.1
  ·have:=I h.2.2 e he; have:=h.1; omega
theorem Ed {c:Nat}: ∀ {l:bJ} {b:Nat} {e:Int×V×Nat},dZ c b l→e∈l→m6 e.2.2 (l.map eB)=some (eB e):=by
 intro l
 induction l with
 | nil=>intro b e _ he; cases he
 | cons y l I =>
  intro b e h he
  simp only [List.map_cons,m6]
  rcases List.mem_cons.1 he with rfl | he
  ·show cond (Nat.beq e.2.2 e.2.2) _ _=_
   rw [Nat.beq_refl,cond_true]
  ·have:=uy h.2.2 e he
   show cond (Nat.beq y.2.2 e.2.2) _ _=_
   rw [bT (by omega),cond_false]
   exact I h.2.2 he
theorem Gz : ∀(l:List Nat) (b:Nat),lastN (l++[b])=some b:=by
 intro l b
 induction l with
 | nil=>rfl
 | cons x l I =>
  cases l with
  | nil=>rfl
  | cons y l=>simpa [lastN] using I
section
variable {h:H} {r bR since clock b:Nat} {seen:List Nat} {es:bJ}
theorem IP {e:Int×V×Nat}(J:T.get h.tr r=some (.iter bR since clock (seen++[e.2.2])))(hm:T.get h.tr bR=some (.map (es.map eB) clock))(I:dZ clock 0 es)(he:e∈es):
  nA h (.ptr r 0)=some (.aW [.int .i64 e.1,e.2.1]):=by
 simp only [nA,Nat.beq_refl,cond_true,J,hm,BR I,Bool.and_self,Gz,Ed I he]
 rfl
theorem next_at (I:T.get h.tr r=some (.iter bR since clock seen))(hs:since≤clock)(hm:T.get h.tr bR=some (.map (es.map eB) clock))(J:dZ since 0 es):
  nextAll h r=some (match leftV seen (es.map eB) with
   | []=>[(.aW [.bool false],h)]
   | l=>l.map fun e=>(.aW [.bool true,e.1,e.2.1],h.put r (some (.iter bR since clock (seen++[e.2.2]))))):=by
 simp only [nextAll,I,hm,Gy J,ay.2 hs,Bool.and_self,cond_true]
 cases leftV seen (es.map eB) <;> rfl
theorem IQ {L:List (V×H)}(hg:T.get h.tr r=some (.iter bR since clock seen))(hs:since≤clock)(hm:T.get h.tr bR=some (.map (es.map eB) clock))(hb:dZ since 0 es)(hL:nextAll h r=some L):
  ∀q∈L,(q=(.aW [.bool false],h)∧∀e∈es,inL seen e.2.2=true) ∨
   ∃e∈es,inL seen e.2.2=false∧(leftV (seen++[e.2.2]) (es.map eB)).length<(leftV seen (es.map eB)).length∧q=(.aW [.bool true,.int .i64 e.1,e.2.1],h.put r (some (.iter bR since clock (seen++[e.2.2])))):=by
 rw [next_at hg hs hm hb] at hL
 simp only [Option.some.injEq] at hL
 subst hL
 intro q U
 cases J:leftV seen (es.map eB) with
 | nil =>
  rw [J] at U
  refine .inl ⟨List.mem_singleton.1 U,fun e he => ?_⟩
  exact Gx J (eB e) (List.mem_map_of_mem he)
 | cons y l =>
  rw [J] at U
  obtain ⟨e',I,rfl⟩:=List.mem_map.1 U
  rw [←J] at I
  obtain ⟨h1,h2⟩:=Gw I
  obtain ⟨e,he,rfl⟩:=List.mem_map.1 h1
  have h3:=IN I
  rw [J] at h3
  exact .inr ⟨e,he,h2,h3,rfl⟩
end
open Classical in
noncomputable def ju (P:Program)(f:FuncId)(gS:List V→H→V×H→Prop)(args:List V)(h:H): Option (V×H) :=
 if I:∃r,gS args h r∧∀(c:Ctx) (w:World),Rel c h w→(∀x∈args,wf c x)→ei P f args c w r.1 r.2 then some I.choose else none
theorem rZ {P : Program} {f : FuncId} {gS : List V → H → V × H → Prop} (J : ∃ fn, P.funcs[f]? = some fn ∧ fn.body.isSome = true ∧ (fn.name == "runtime.NumGoroutine") = false) : wz P f (ju P f gS) := by
 refine .inl ⟨J, fun args σ v U I c w h hw => ?_⟩
 unfold ju at I
 split at I
 ·rename_i hx
  have := hx.choose_spec.2 c w h hw
  injection I with I
  rw [I] at this
  exact this
 ·cases I
theorem xW {P:Program}{f:FuncId}{gS:List V→H→V×H→Prop}{args:List V}{h:H}{r:V×H}(J:gS args h r)(U:∀(c:Ctx) (w:World),Rel c h w→(∀x∈args,wf c x)→ei P f args c w r.1 r.2):
  ∃r,ju P f gS args h=some r∧gS args h r:=by
 have I:∃r,gS args h r∧∀(c:Ctx) (w:World),Rel c h w→(∀x∈args,wf c x)→ei P f args c w r.1 r.2:=⟨r,J,U⟩
 refine ⟨I.choose,?_,I.choose_spec.1⟩
 unfold ju
 rw [dif_pos I]
noncomputable def vL (f:Nat): Option (List V→H→Option (V×H)) :=
 cond (Nat.beq f 50) (some (toldSorted sR)) (cond (Nat.beq f 119) (some toldMore) none)
noncomputable abbrev CB : cf:=⟨Tryz.prog,vL⟩
theorem gq : Tryz.prog.follows .mixedOrders=true:=by kernel_rfl
theorem eX : eM CB:=by
 intro f g I
 simp only [CB,vL] at I ⊢
 by_cases h1:f=50
 ·subst h1
  rw [eH rfl,cond_true] at I
  simp only [Option.some.injEq] at I
  subst I
  exact .inl ⟨⟨_,Tryz.func50,rfl,by decide⟩,fun args σ v J U c w h _=>yA Tryz.underlying3 F7 U h⟩
 ·rw [bT h1,cond_false] at I
  by_cases h2:f=119
  ·subst h2
   rw [eH rfl,cond_true] at I
   simp only [Option.some.injEq] at I
   subst I
   exact .inl ⟨⟨_,Tryz.func119,rfl,by decide⟩,fun args σ v J U c w h hw=>BF (C:=CB) rfl gq U h hw⟩
  ·rw [bT h2,cond_false] at I
   cases I
theorem W.base : W vL:=by
 refine ⟨fun f I => ?_,rfl,rfl⟩
 have J:f≠50:=fun e=>by subst e; revert I; decide
 have U:f≠119:=fun e=>by subst e; revert I; decide
 simp only [vL,bT J,bT U,cond_false]
theorem fb.TL {C:cf}{f:FuncId}{args:List V}{h:H}{v v':V}{h₁ I:H}(a:fb C f args h v h₁)(b:fb C f args h v' I): v=v'∧h₁=I:=by
 obtain ⟨N,U⟩:=a
 obtain ⟨M,hM⟩:=b
 have e1:=mW (dW (Nat.le_max_left N M)) U
 have J:=mW (dW (Nat.le_max_right N M)) hM
 rw [e1] at J
 simp only [Option.some.injEq,Prod.mk.injEq] at J
 exact J
section
variable {P:Program} {h:H} {S:List ah} {k id off n:Nat} {cs:List V} {st:Bool} {v:V} {t:TypeId}
theorem Sat.NI (s:Sat h S)(U:getA S k=some (pt id (.cells n cs false)))(hs:aY P t=some 1)(hl:cs.length=n)(ho:off<n)(hv:v.cells=[v])(I:storable v=true):
  fl P h t (.ptr id off) v=some (h.put id (some (.cells n (cs.set off v) false))):=by
 simp only [fl,hs,hv,List.length_cons,List.length_nil,List.all_cons,List.all_nil,I,Bool.and_true]
 rw [show Nat.beq (0+1) 1=true from rfl,cond_true]
 simp only [wrN,s.row U,List.length_cons,List.length_nil]
 rw [ay.2 (show off+(0+1)≤n by omega),cond_true]
 congr 3
 rw [List.set_eq_take_append_cons_drop,if_pos (by omega)]
 cases J:(Nat.beq off 0&&Nat.beq (0+1) n) with
 | true =>
  simp only [Bool.and_eq_true,beq_iff] at J
  obtain ⟨rfl,hn⟩:=J
  rw [cond_true]
  have:cs.drop (0+1)=[]:=List.drop_eq_nil_of_le (by omega)
  simp [this]
 | false=>rw [cond_false]; rfl
end
theorem OpR.entry {C:cf}{E:List (Nat×V)}{h:H}{o:Oper}{x:Operand}{v r:V}(I:o.op=.entry x)(J:lookO E x=some v)(U:nA h v=some r): OpR C E h o fun w h'=>w=r∧h'=h :=
 ⟨r,h,⟨rfl,rfl⟩,fun env hE=>⟨0,by simp only [evOp,I,bf hE J,U,aB]⟩⟩
theorem OpR.range {C:cf}{E:List (Nat×V)}{h:H}{o:Oper}{x:Operand}{t:TypeId}{v r:V}{h₁:H}(I:o.op=.range t x)(J:lookO E x=some v)(U:rangeV C.P h t v=some (r,h₁)): OpR C E h o fun w h'=>w=r∧h'=h₁ :=
 ⟨r,h₁,⟨rfl,rfl⟩,fun env hE=>⟨0,by simp only [evOp,I,bf hE J,U]⟩⟩
end Go.Proofs.YtconhghphklfjaaGreat.Am
