/- SpaceRoots: a part of its proof; conditions: its statement's. -/
import Derived.Test.YtefepnnfphdkpaaGreatF23
import Derived.Test.YtefepnnfphdkpaaGreatF11
set_option linter.defProp false
namespace Go.Proofs.YtefepnnfphdkpaaGreat.Am
open Go
def zX:=@Tryz.func139
structure zY (ε:aI): Prop where
 pl:ε.1.Ok
 lg:ε.2.1.Ok
 dk:ε.2.2.Ok
theorem Rq {ε:aI}{i:Nat}(h:ε.1.Ok): (outF ε i).2.1.Ok:=by
 unfold outF
 split
 ·exact h
 ·rename_i f J
  have hm:=bC J
  split
  ·exact h
  ·split
   ·exact h
   ·split
    ·exact h
    ·split
     ·exact h
     ·refine ⟨by simp only [bW]; exact h.hand,by simp only [bW]; exact h.many,fun e he=>by simp only [bW]; exact h.bM e he,fun g I => ?_,fun g I => ?_⟩
      ·rcases lM I with I | rfl
       ·exact h.len g I
       ·exact h.len f hm
      ·rcases lM I with I | rfl
       ·exact h.pins g I
       ·exact h.pins f hm
theorem xG {ε:aI}{i:Nat}(h:zY ε): zY (outF ε i).2:=⟨Rq h.pl,Rl h.lg,B7 h.dk⟩
theorem JL {δ:Dk}{n:Int}{b:List Nat}: (δ.bK n b).2.waiting.length≤δ.waiting.length+1:=by
 unfold Dk.bK
 split
 ·exact qS _
 ·split
  ·exact qS _
  ·split
   ·exact qS _
   ·exact Nat.le_of_eq (by simp [Dk.wr])
section
variable {told:cQ} {h:H} {S:List au} {X:au} {r k q p ct:Nat} {v x wh di:V} {l b:List Nat} {π:Pl} {m:List Fm} {μ:Lg} {δ:Dk}
end
section
variable {told:cQ} {h:H} {S:List au} {X:au} {r k q p ct:Nat} {v x wh di:V} {l b:List Nat} {π:Pl} {m:List Fm} {μ:Lg} {δ:Dk}
end
def H_ (ay:Nat)(Q:Ex→List (Nat×V)→H→Prop)(c:Ctx)(a:Act)(w:World)(e:Exit)(J:Act)(w':World): Prop :=
 ∃ex I h' E',e=exOf ex∧jB I E'∧Q ex E' h'∧J.defers=a.defers∧∃c',Rel c' h' w'∧dQ c' I ay J∧cV c w c' w'
def fW (C:cL)(ay:Nat)(code:Code)(E:List (Nat×V))(h:H)(Q:Ex→List (Nat×V)→H→Prop): Prop :=
 ∀(c:Ctx) (a:Act) (w:World) (env:Env),jB env E→Rel c h w→dQ c env ay a→code.wpIn (Fr none) 0 C.P (H_ ay Q c a w) a w
section
variable {C:cL} {ay:Nat} {E:List (Nat×V)} {h:H} {Q Q':Ex→List (Nat×V)→H→Prop} {a b:Code}
theorem H_.trans {c c₁:Ctx}{A I a':Act}{w J w':World}{e:Exit}(hd:I.defers=A.defers)(hs:cV c w c₁ J)(ho:H_ ay Q c₁ I J e a' w'): H_ ay Q c A w e a' w':=by
 obtain ⟨ex,B8,h',E',h1,h2,h3,h4,c',h5,h6,h7⟩:=ho
 exact ⟨ex,B8,h',E',h1,h2,h3,h4.trans hd,c',h5,h6,hs.trans h7⟩
theorem fW.of (hm:C.P.follows .mixedOrders=true)(J:fy C)(hw:WP C ay a E h Q): fW C ay a E h Q:=by
 intro c A w env hE hr he
 obtain ⟨N,ex,I,h',E',h1,h2,h3⟩:=hw env hE
 refine wpIn_mono ((CK hm J N).1 _ _ _ _ h1 none c A w hr he) ?_
 rintro e a' w' ⟨rfl,h4,c',h5,h6,h7⟩
 exact ⟨ex,I,h',E',rfl,h2,h3,h4,c',h5,h6,h7⟩
theorem fW.mono (hw:fW C ay a E h Q)(J:∀ex E' h',Q ex E' h'→Q' ex E' h'): fW C ay a E h Q':=by
 intro c A w env hE hr he
 refine wpIn_mono (hw c A w env hE hr he) ?_
 rintro e a' w' ⟨ex,I,h',E',h1,h2,h3,h4⟩
 exact ⟨ex,I,h',E',h1,h2,J _ _ _ h3,h4⟩
theorem fW.seq (hw:fW C ay a E h fun ex E' h'=>match ex with
  | .normal=>fW C ay b E' h' Q
  | ex=>Q ex E' h'): fW C ay (.seq a b) E h Q:=by
 intro c A w env hE hr he
 refine wpIn_seq (wpIn_mono (hw c A w env hE hr he) ?_)
 rintro e J tX ⟨ex,I,h',E',rfl,h2,h3,h4,c₁,h5,h6,h7⟩
 cases ex with
 | normal=>exact wpIn_mono (h3 c₁ J tX I h2 h5 h6) fun e a' w' ho=>ho.trans h4 h7
 | exit i=>exact ⟨_,I,h',E',rfl,h2,h3,h4,c₁,h5,h6,h7⟩
 | ret=>exact ⟨_,I,h',E',rfl,h2,h3,h4,c₁,h5,h6,h7⟩
theorem fW.cond {x:Operand}{t:Bool}(J:lookO E x=some (.bool t))(hw:fW C ay (_root_.cond t a b) E h Q): fW C ay (.cond x a b) E h Q:=by
 intro c A w env I hr he
 obtain ⟨e1,_⟩:=yA he (bP I J)
 refine wpIn_cond (t:=t) (by rw [e1]; rfl) ?_
 have:=hw c A w env I hr he
 cases t <;> simpa using this
theorem fW.block {i:Nat}(hw:fW C ay b E h fun ex E' h'=>match ex with
  | .exit j=>_root_.cond (Nat.beq j i) (Q .normal E' h') (Q (.exit j) E' h')
  | ex=>Q ex E' h'): fW C ay (.block i b) E h Q:=by
 intro c A w env hE hr he
 refine wpIn_block (wpIn_mono (hw c A w env hE hr he) ?_)
 rintro e Gn tX ⟨ex,I,h',E',rfl,h2,J,h4,c₁,h5,h6,h7⟩
 cases ex with
 | normal=>simp only [exOf,Exit.inBlock]; exact ⟨.normal,I,h',E',rfl,h2,J,h4,c₁,h5,h6,h7⟩
 | exit j =>
  by_cases hj:j=i
  ·simp only [gP hj,ag] at J
   simp only [exOf,Exit.inBlock,hj,bO]
   exact ⟨.normal,I,h',E',rfl,h2,J,h4,c₁,h5,h6,h7⟩
  ·simp only [dc hj,az] at J
   simp only [exOf,Exit.inBlock,hj,bN]
   exact ⟨.exit j,I,h',E',rfl,h2,J,h4,c₁,h5,h6,h7⟩
 | ret=>simp only [exOf,Exit.inBlock]; exact ⟨.ret,I,h',E',rfl,h2,J,h4,c₁,h5,h6,h7⟩
theorem fW.loop (J:Nat→List (Nat×V)→H→Prop)(hJ:∀j E h,J j E h→fW C ay b E h fun ex E' h'=>match ex with
  | .normal=>∃i,i<j∧J i E' h'
  | ex=>Q ex E' h'){j:Nat}(h0:J j E h): fW C ay (.loop b) E h Q:=by
 have key:∀m j E h,j<m→J j E h→∀(c:Ctx) (A:Act) (w:World) (env:Env) (R:Exit→Act→World→Prop),jB env E→Rel c h w→dQ c env ay A →
   (∀e a' w',H_ ay Q c A w e a' w'→R e a' w')→Code.roundsIn (Fr none) 0 C.P b R m A w:=by
  intro m
  induction m with
  | zero=>intro j E h hj; omega
  | succ m ih =>
   intro j E h hj hJj c A w env R hE hr he hR
   rw [roundsIn_succ]
   refine wpIn_mono (hJ j E h hJj c A w env hE hr he) ?_
   rintro e Gn tX ⟨ex,I,h',E',rfl,h2,h3,h4,c₁,h5,h6,h7⟩
   cases ex with
   | normal =>
    obtain ⟨i,hi,h3⟩:=h3
    exact ih i E' h' (by omega) h3 c₁ Gn tX I R h2 h5 h6 fun e a' w' ho=>hR _ _ _ (ho.trans h4 h7)
   | exit i=>exact hR _ _ _ ⟨_,I,h',E',rfl,h2,h3,h4,c₁,h5,h6,h7⟩
   | ret=>exact hR _ _ _ ⟨_,I,h',E',rfl,h2,h3,h4,c₁,h5,h6,h7⟩
 intro c A w env hE hr he
 exact wpIn_loop_rounds (j+1) (key (j+1) j E h (by omega) h0 c A w env _ hE hr he fun _ _ _ ho=>ho)
theorem OX {α β:Type}{f:α→Option (List β)}{p:β→Prop}: ∀ {L:List α},(∀q∈L,∃s,f q=some [s]∧p s)→∃R,flatM f L=some R∧∀s∈R,p s:=by
 intro L
 induction L with
 | nil=>intro _; exact ⟨[],rfl,fun s hs=>by cases hs⟩
 | cons q L ih =>
  intro J
  obtain ⟨R,h1,h2⟩:=ih fun q I=>J q (bn _ I)
  obtain ⟨s,e1,e2⟩:=J q bu
  refine ⟨s::R,?_,fun s' hs => ?_⟩
  ·simp only [flatM,e1,h1,fg,cZ]
  ·rcases List.mem_cons.1 hs with rfl | hs
   ·exact e2
   ·exact h2 s' hs
theorem fW.next {id:Nat}{I J:Oper}{x y:Operand}{r sN B9:Nat}{L:List (V×H)}(hm:C.P.follows .mixedOrders=true)(hT:fy C)(aaS:I.guard=none)(aaT:J.guard=none)(aaU:I.op=.next x false)(ab6:I.dst=some sN)
 (Xc:J.op=.extract y 0)(hy:y=.tmp sN)(ab7:J.dst=some B9)(VA:Nat.blt sN ay=true)(Yh:Nat.blt B9 ay=true)(hx:lookO E x=some (.ptr r 0))(hL:nextAll h r=some L)
 (hq:∀q∈L,∃t l,q.1=.bj (t::l)∧Q .normal ((B9,t)::(sN,q.1)::E) q.2): fW C ay (.region id #[I,J] false) E h Q:=by
 intro c A w env hE hr he
 subst hy
 have hS:=(CK (C:=C) hm hT 0).1
 refine wpIn_region ?_
 rw [DY,←Aw]
 have jZ:∃R,opsAll C (ev C 0) (#[I,J]:Array Oper).toList (#[I,J]:Array Oper).toList ⟨env,ay,h⟩=some R∧∀s∈R,∃E',jB s.env E'∧s.ay=ay∧Q .normal E' s.h:=by
  have e1:∀xg:Env,wantedV [I,J] xg I=true:=fun xg=>by simp only [wantedV,aaS]
  have e2:∀xg:Env,wantedV [I,J] xg J=true:=fun xg=>by simp only [wantedV,aaT]
  have jA:=bP hE hx
  simp only [opsAll,e1,e2,ag,opAll,aaU,jA,dR,hL]
  refine OX fun q rR => ?_
  obtain ⟨t,l,k1,k2⟩:=hq q rR
  refine ⟨⟨(env.set sN (some q.1)).set B9 (some t),ay,q.2⟩,?_,_,(hE.set sN q.1).set B9 t,rfl,k2⟩
  have hg:evO (T.set env sN (some (V.bj (t::l)))) (.tmp sN)=some (.bj (t::l)):=by simp only [evO,Env.v,aX,bO]
  simp only [St.put,ab6,VA,ag,Xc,evOp,k1,hg,nth,dR,aY,ab7,Yh,flatM,bR]
 obtain ⟨R,jZ,h2⟩:=jZ
 refine NY hS hT _ 0 ⟨env,ay,h⟩ R c A w (fun j=>by rw [dH,jf]) jZ hr he ?_
 intro s' Fj c' a' w' r1 r2 r3 r4
 obtain ⟨E',e1,e2,e3⟩:=h2 s' Fj
 exact ⟨.normal,s'.env,s'.h,E',rfl,e1,e3,r4,c',r1,by rw [e2] at r2; exact r2,r3⟩
theorem gh.Ia {f:FuncId}{fn:Func}{code:Code}{args:List V}{v:V}{eS:H}(hf:C.P.funcs[f]?=some fn)(hb:fn.body=some code)(hn:args.length≤fn.ntmps)
 (hw:fW C fn.ntmps code (argE args 0) h fun ex E' h'=>(match ex with | .exit _=>False | _=>True)∧iI C.P E' h' fn.results.toList=some v∧eS.next=h'.next∧∀id o,T.get eS.tr id=some o→T.get h'.tr id=some o)
 {c:Ctx}{w:World}(hr:Rel c h w)(ha:∀x∈args,wf c x): gh C.P f args c w v eS:=by
 have tW:=kx (c:=c) hn ha
 have NA:=hw c _ w _ (wq args) hr tW
 unfold gh
 refine calls_of_wp hf hb (wpIn_wide.1 (wpIn_mono NA ?_))
 rintro e a' w' ⟨ex,B8,h',E',rfl,jd,⟨hx,I,KU,hle⟩,hd,c',r1,r2,r3⟩
 have fin:a'.defers=[]∧∃x,(results fn a'.tmps).run C.P w'=.ok x w'∧∃mM,Ending.returned x=.returned (conc mM v)∧wf mM v∧Rel mM eS w'∧cV c w mM w':=by
  refine ⟨hd,?_⟩
  unfold iI at I
  cases NJ:mapO (resE C.P E' h') fn.results.toList with
  | none=>simp [NJ] at I
  | some vs =>
   rw [NJ] at I
   have yo:=AO (P:=C.P) (s:=⟨B8,fn.ntmps,h'⟩) jd NJ
   obtain ⟨t1,t2⟩:=pW (s:=⟨B8,fn.ntmps,h'⟩) r1 r2 yo
   refine ⟨_,t1,c',?_⟩
   have J:=r1.Ys KU hle
   match vs,I with
   | [],I =>
    simp at I
    subst I
    refine ⟨?_,by simp [wf,fu],J,r3⟩
    simp [conc,concL]
   | [x],I =>
    simp at I
    subst I
    exact ⟨by simp,t2 _ (by simp),J,r3⟩
   | x::y::l,I =>
    simp at I
    subst I
    refine ⟨?_,by simp only [wf,gK]; exact t2,J,r3⟩
    rw [dif_neg (by simp)]
    simp [conc,gC,concL]
 cases ex with
 | normal=>simpa [bodyPost,exOf] using fin
 | exit i=>exact hx.elim
 | ret=>simpa [bodyPost,exOf] using fin
end
end Go.Proofs.YtefepnnfphdkpaaGreat.Am
namespace Go.Proofs.YtefepnnfphdkpaaGreat.Am
open Go
theorem tG (l:List Nat)(b x:Nat): inL (l++[b]) x=(inL l x||Nat.beq b x):=by
 induction l with
 | nil=>simp only [cZ,inL,vW]; cases Nat.beq b x <;> rfl
 | cons y l I=>simp only [fg,inL,I]; cases Nat.beq y x <;> simp
theorem OY {seen:List Nat}: ∀ {l:List (V×V×Nat)} {e:V×V×Nat},e∈leftV seen l→e∈l∧inL seen e.2.2=false:=by
 intro l
 induction l with
 | nil=>intro e h; cases h
 | cons y l I =>
  intro e h
  simp only [leftV] at h
  cases J:inL seen y.2.2 with
  | true=>rw [J,ag] at h; exact ⟨bn _ (I h).1,(I h).2⟩
  | false =>
   rw [J,az] at h
   rcases List.mem_cons.1 h with rfl | h
   ·exact ⟨bu,J⟩
   ·exact ⟨bn _ (I h).1,(I h).2⟩
theorem OZ {seen:List Nat}: ∀ {l:List (V×V×Nat)},leftV seen l=[]→∀e∈l,inL seen e.2.2=true:=by
 intro l
 induction l with
 | nil=>intro _ e he; cases he
 | cons y l J =>
  intro h e he
  simp only [leftV] at h
  cases I:inL seen y.2.2 with
  | false=>rw [I,az] at h; cases h
  | true =>
   rw [I,ag] at h
   rcases List.mem_cons.1 he with rfl | he
   ·exact I
   ·exact J h e he
theorem Ib {seen:List Nat}{b:Nat}: ∀ {l:List (V×V×Nat)},(leftV (seen++[b]) l).length≤(leftV seen l).length:=by
 intro l
 induction l with
 | nil=>exact aD _
 | cons y l I =>
  simp only [leftV,tG]
  cases inL seen y.2.2 <;> cases Nat.beq b y.2.2 <;> simp <;> omega
theorem Rr {seen:List Nat}: ∀ {l:List (V×V×Nat)} {e:V×V×Nat},e∈leftV seen l→(leftV (seen++[e.2.2]) l).length<(leftV seen l).length:=by
 intro l
 induction l with
 | nil=>intro e h; cases h
 | cons y l J =>
  intro e h
  simp only [leftV] at h
  cases I:inL seen y.2.2 with
  | true =>
   rw [I,ag] at h
   simp only [leftV,tG,I,Bool.true_or,ag]
   exact J h
  | false =>
   rw [I,az] at h
   simp only [leftV,tG,I,vW,az]
   rcases List.mem_cons.1 h with rfl | h
   ·rw [dR,ag]
    have:=Ib (seen:=seen) (b:=e.2.2) (l:=l)
    simp; omega
   ·cases Nat.beq e.2.2 y.2.2
    ·simp only [az,aS]; have:=J h; omega
    ·simp only [ag,aS]; have:=Ib (seen:=seen) (b:=e.2.2) (l:=l); omega
theorem O0 {c:Nat}: ∀ {l:cR} {b:Nat},gB c b l→tK c (l.map gO)=true:=by
 intro l
 induction l with
 | nil=>intro b _; rfl
 | cons e l I =>
  intro b h
  simp only [b6,gO,tK]
  rw [gJ.2 h.2.1,ag]
  exact I h.2.2
theorem JM {c:Nat}: ∀ {l:cR} {b:Nat},gB c b l→bornRise b (l.map gO)=true:=by
 intro l
 induction l with
 | nil=>intro b _; rfl
 | cons e l I =>
  intro b h
  simp only [b6,gO,bornRise]
  rw [aJ.2 h.1,ag]
  exact I h.2.2
theorem B_ {c:Nat}: ∀ {l:cR} {b:Nat},gB c b l→∀e∈l,b≤e.2.2:=by
 intro l
 induction l with
 | nil=>intro b _ e he; cases he
 | cons y l I =>
  intro b h e he
  rcases List.mem_cons.1 he with rfl | he
  ·exact h.1
  ·have:=I h.2.2 e he; have:=h.1; omega
theorem MB {c:Nat}: ∀ {l:cR} {b:Nat} {e:Int×V×Nat},gB c b l→e∈l→tg e.2.2 (l.map gO)=some (gO e):=by
 intro l
 induction l with
 | nil=>intro b e _ he; cases he
 | cons y l I =>
  intro b e h he
  simp only [b6,tg]
  rcases List.mem_cons.1 he with rfl | he
  ·show cond (Nat.beq e.2.2 e.2.2) _ _=_
   rw [dR,ag]
  ·have:=B_ h.2.2 e he
   show cond (Nat.beq y.2.2 e.2.2) _ _=_
   rw [dc (by omega),az]
   exact I h.2.2 he
theorem O1 : ∀(l:List Nat) (b:Nat),lastN (l++[b])=some b:=by
 intro l b
 induction l with
 | nil=>rfl
 | cons x l I =>
  cases l with
  | nil=>rfl
  | cons y l=>simpa [lastN] using I
section
variable {h:H} {r dh since clock b:Nat} {seen:List Nat} {es:cR}
theorem Rs {e:Int×V×Nat}(J:T.get h.tr r=some (.iter dh since clock (seen++[e.2.2])))(hm:T.get h.tr dh=some (.map (es.map gO) clock))(I:gB clock 0 es)(he:e∈es):
  tL h (.ptr r 0)=some (.bj [.int .i64 e.1,e.2.1]):=by
 simp only [tL,dR,ag,J,hm,JM I,iu,O1,MB I he]
 rfl
theorem next_at (I:T.get h.tr r=some (.iter dh since clock seen))(hs:since≤clock)(hm:T.get h.tr dh=some (.map (es.map gO) clock))(J:gB since 0 es):
  nextAll h r=some (match leftV seen (es.map gO) with
   | []=>[(.bj [.bool false],h)]
   | l=>l.map fun e=>(.bj [.bool true,e.1,e.2.1],h.put r (some (.iter dh since clock (seen++[e.2.2]))))):=by
 simp only [nextAll,I,hm,O0 J,aJ.2 hs,iu,ag]
 cases leftV seen (es.map gO) <;> rfl
theorem Ru {L:List (V×H)}(hg:T.get h.tr r=some (.iter dh since clock seen))(hs:since≤clock)(hm:T.get h.tr dh=some (.map (es.map gO) clock))(hb:gB since 0 es)(hL:nextAll h r=some L):
  ∀q∈L,(q=(.bj [.bool false],h)∧∀e∈es,inL seen e.2.2=true) ∨
   ∃e∈es,inL seen e.2.2=false∧(leftV (seen++[e.2.2]) (es.map gO)).length<(leftV seen (es.map gO)).length∧q=(.bj [.bool true,.int .i64 e.1,e.2.1],h.put r (some (.iter dh since clock (seen++[e.2.2])))):=by
 rw [next_at hg hs hm hb] at hL
 simp only [aq] at hL
 subst hL
 intro q hq
 cases J:leftV seen (es.map gO) with
 | nil =>
  rw [J] at hq
  refine .inl ⟨List.mem_singleton.1 hq,fun e he => ?_⟩
  exact OZ J (gO e) (sS he)
 | cons y l =>
  rw [J] at hq
  obtain ⟨e',I,rfl⟩:=List.mem_map.1 hq
  rw [←J] at I
  obtain ⟨h1,h2⟩:=OY I
  obtain ⟨e,he,rfl⟩:=List.mem_map.1 h1
  have h3:=Rr I
  rw [J] at h3
  exact .inr ⟨e,he,h2,h3,rfl⟩
end
open Classical in
noncomputable def kD (P:Program)(f:FuncId)(iP:List V→H→V×H→Prop)(args:List V)(h:H): Option (V×H) :=
 if I:∃r,iP args h r∧∀(c:Ctx) (w:World),Rel c h w→(∀x∈args,wf c x)→gh P f args c w r.1 r.2 then some I.choose else none
theorem vc {P : Program} {f : FuncId} {iP : List V → H → V × H → Prop} (J : ∃ fn, P.funcs[f]? = some fn ∧ fn.body.isSome = true ∧ (fn.name == "runtime.NumGoroutine") = false) : Ko P f (kD P f iP) := by
 refine .inl ⟨J, fun args σ v eS I c w h hw => ?_⟩
 unfold kD at I
 split at I
 ·rename_i hx
  have := hx.choose_spec.2 c w h hw
  injection I with I
  rw [I] at this
  exact this
 ·cases I
theorem zZ {P:Program}{f:FuncId}{iP:List V→H→V×H→Prop}{args:List V}{h:H}{r:V×H}(J:iP args h r)(h2:∀(c:Ctx) (w:World),Rel c h w→(∀x∈args,wf c x)→gh P f args c w r.1 r.2):
  ∃r,kD P f iP args h=some r∧iP args h r:=by
 have I:∃r,iP args h r∧∀(c:Ctx) (w:World),Rel c h w→(∀x∈args,wf c x)→gh P f args c w r.1 r.2:=⟨r,J,h2⟩
 refine ⟨I.choose,?_,I.choose_spec.1⟩
 unfold kD
 rw [dif_pos I]
noncomputable def A_ (f:Nat): Option (List V→H→Option (V×H)) :=
 cond (Nat.beq f 61) (some (toldSorted A4)) (cond (Nat.beq f 178) (some toldMore) none)
noncomputable abbrev CB : cL:=⟨Tryz.prog,A_⟩
theorem j3 : Tryz.prog.follows .mixedOrders=true:=by kernel_rfl
theorem ir : fy CB:=by
 intro f g I
 simp only [CB,A_] at I ⊢
 by_cases h1:f=61
 ·subst h1
  rw [gP rfl,ag] at I
  simp only [aq] at I
  subst I
  exact .inl ⟨⟨_,Tryz.func61,rfl,by decide⟩,fun args σ v J hr c w h _=>Gr bD OA hr h⟩
 ·rw [dc h1,az] at I
  by_cases h2:f=178
  ·subst h2
   rw [gP rfl,ag] at I
   simp only [aq] at I
   subst I
   exact .inl ⟨⟨_,CN,rfl,by decide⟩,fun args σ v J hr c w h hw=>JA (C:=CB) rfl j3 hr h hw⟩
  ·rw [dc h2,az] at I
   cases I
theorem W.base : W A_:=by
 refine ⟨fun f I => ?_,rfl,rfl⟩
 have J:f≠61:=fun e=>by subst e; revert I; decide
 have h2:f≠178:=fun e=>by subst e; revert I; decide
 simp only [A_,dc J,dc h2,az]
theorem hG.det {C:cL}{f:FuncId}{args:List V}{h:H}{v v':V}{h₁ I:H}(a:hG C f args h v h₁)(b:hG C f args h v' I): v=v'∧h₁=I:=by
 obtain ⟨N,hN⟩:=a
 obtain ⟨M,hM⟩:=b
 have e1:=pZ (fA (o5 N M)) hN
 have J:=pZ (fA (oZ N M)) hM
 rw [e1] at J
 simp only [aq,aF] at J
 exact J
section
variable {P:Program} {h:H} {S:List au} {k id off n:Nat} {cs:List V} {st:Bool} {v:V} {t:TypeId}
theorem Sat.Xd (s:Sat h S)(hk:getA S k=some (pt id (.cells n cs false)))(hs:bH P t=some 1)(hl:cs.length=n)(ho:off<n)(hv:v.cells=[v])(I:storable v=true):
  g9 P h t (.ptr id off) v=some (h.put id (some (.cells n (cs.set off v) false))):=by
 simp only [g9,hs,hv,aS,bT,fH,jh,I,Bool.and_true]
 rw [show Nat.beq (0+1) 1=true from rfl,ag]
 simp only [wrN,s.row hk,aS,bT]
 rw [aJ.2 (show off+(0+1)≤n by omega),ag]
 congr 3
 rw [Kg,aj (by omega)]
 cases J:(Nat.beq off 0&&Nat.beq (0+1) n) with
 | true =>
  simp only [aO,beq_iff] at J
  obtain ⟨rfl,hn⟩:=J
  rw [ag]
  have:cs.drop (0+1)=[]:=je (by omega)
  simp [this]
 | false=>rw [az]; rfl
end
theorem OpR.entry {C:cL}{E:List (Nat×V)}{h:H}{o:Oper}{x:Operand}{v r:V}(I:o.op=.entry x)(J:lookO E x=some v)(hf:tL h v=some r): OpR C E h o fun w h'=>w=r∧h'=h :=
 ⟨r,h,⟨rfl,rfl⟩,fun env hE=>⟨0,by simp only [evOp,I,bP hE J,hf,aY]⟩⟩
theorem OpR.range {C:cL}{E:List (Nat×V)}{h:H}{o:Oper}{x:Operand}{t:TypeId}{v r:V}{h₁:H}(I:o.op=.range t x)(J:lookO E x=some v)(hf:rangeV C.P h t v=some (r,h₁)): OpR C E h o fun w h'=>w=r∧h'=h₁ :=
 ⟨r,h₁,⟨rfl,rfl⟩,fun env hE=>⟨0,by simp only [evOp,I,bP hE J,hf]⟩⟩
def doneRow (seen:List Nat): cR→List V→List V
 | [],row=>row
 | e::l,row=>doneRow seen l (cond (inL seen e.2.2) (row.set e.1.toNat e.2.1) row)
def nI : cR→List V→List V
 | [],row=>row
 | e::l,row=>nI l (row.set e.1.toNat e.2.1)
theorem JN {seen:List Nat}: ∀ {l:cR} {row:List V},(∀e∈l,inL seen e.2.2=true)→doneRow seen l row=nI l row:=by
 intro l
 induction l with
 | nil=>intro row _; rfl
 | cons e l J =>
  intro row h
  simp only [doneRow,nI,h e bu,ag]
  exact J fun e' I=>h e' (bn _ I)
theorem JO : ∀ {l:cR} {row:List V},doneRow [] l row=row:=by
 intro l
 induction l with
 | nil=>intro row; rfl
 | cons e l I=>intro row; simp only [doneRow,inL,az]; exact I
theorem JP {seen:List Nat}: ∀ {l:cR} {row:List V},(doneRow seen l row).length=row.length:=by
 intro l
 induction l with
 | nil=>intro row; rfl
 | cons e l I=>intro row; simp only [doneRow]; rw [I]; cases inL seen e.2.2 <;> simp
theorem JQ {seen:List Nat}{i:Nat}{v:V}: ∀ {l:cR} {row:List V},(∀e∈l,e.1.toNat≠i)→doneRow seen l (row.set i v)=(doneRow seen l row).set i v:=by
 intro l
 induction l with
 | nil=>intro row _; rfl
 | cons e l ih =>
  intro row h
  simp only [doneRow]
  have h1:=h e bu
  cases inL seen e.2.2 with
  | true=>rw [ag,ag,List.set_comm _ _ (jO h1)]; exact ih fun J I=>h J (bn _ I)
  | false=>exact ih fun J I=>h J (bn _ I)
theorem Gt {seen:List Nat}{b:Nat}: ∀ {l:cR} {row:List V},(∀e∈l,e.2.2≠b)→doneRow (seen++[b]) l row=doneRow seen l row:=by
 intro l
 induction l with
 | nil=>intro row _; rfl
 | cons e l J =>
  intro row h
  simp only [doneRow,tG,dc (jO (h e bu)),Bool.or_false]
  exact J fun e' I=>h e' (bn _ I)
theorem Ic {seen:List Nat}{c:Nat}: ∀ {l:cR} {b:Nat} {row:List V} {e:Int×V×Nat},gB c b l→(l.map fun e=>e.1.toNat).Nodup→e∈l→inL seen e.2.2=false →
  doneRow (seen++[e.2.2]) l row=(doneRow seen l row).set e.1.toNat e.2.1:=by
 intro l
 induction l with
 | nil=>intro b row e _ _ he; cases he
 | cons y l ih =>
  intro b row e J hn he hs
  simp only [b6,nR] at hn
  rcases List.mem_cons.1 he with rfl | he
  ·simp only [doneRow,tG,hs,dR,Bool.or_true,ag,az]
   rw [Gt fun e' I=>by have:=B_ J.2.2 e' I; omega]
   exact JQ fun e' I hq=>hn.1 (hq ▸ sS (f:=fun e:Int×V×Nat=>e.1.toNat) I)
  ·have:=B_ J.2.2 e he
   simp only [doneRow,tG,dc (show e.2.2≠y.2.2 by omega),Bool.or_false]
   exact ih J.2.2 hn.2 he hs
def laidP : List (Int×List Nat)→List (Option (List Nat))→List (Option (List Nat))
 | [],m=>m
 | e::l,m=>laidP l (m.set e.1.toNat (some e.2))
theorem ve : ∀ {l:List (Int×List Nat)} {m:List (Option (List Nat))},(laidP l m).length=m.length:=by
 intro l
 induction l with
 | nil=>intro row; rfl
 | cons e l I=>intro row; simp only [laidP]; rw [I]; simp
theorem JR {a b:PM}: ∀ {es:cR} {m:List (Int×List Nat)} {row:List V} {pg:List (Option (List Nat))},(eW (fun v x=>.cx v x) es m).p a b→(∀e∈m,e.2≠[])→(each lq row pg).p a b→(each lq (nI es row) (laidP m pg)).p a b:=by
 intro es
 induction es with
 | nil=>intro m row pg h _ hr; cases m with
  | nil=>exact hr
  | cons x m=>exact h.elim
 | cons e es ih=>intro m row pg h I hr; cases m with
  | nil=>exact h.elim
  | cons x m =>
   obtain ⟨⟨h1,h2⟩,h3⟩:=h
   simp only [nI,laidP]
   have hk:e.1=x.1:=h1
   refine ih h3 (fun e he=>I e (bn _ he)) ?_
   rw [hk]
   refine B4 hr ⟨?_,h2⟩
   rintro hv
   have J:ie b e.2.1 x.2:=h2
   rw [hv] at J
   rcases J.2 with ⟨_,h4⟩ | h4
   ·exact I x bu h4
   ·obtain ⟨_,_,_,_,_,_,h4,_⟩:=h4
    cases h4
def Dk.sync (δ:Dk): Dk:={ δ with ax:=laidP δ.now δ.ax,waiting:=[],now:=[] }
section
variable {told:cQ} {h:H} {S:List au} {X:au} {r k q p ct:Nat} {v x wh di:V} {l b:List Nat} {π:Pl} {m:List Fm} {μ:Lg} {δ:Dk}
noncomputable def Dm (h:H)(p:Nat)(cs:List V)(I N:Nat)(row:List V)(dh:Nat)(es:cR)(clock:Nat): H :=
 ((((h.new (.iter dh clock clock [])).put I (some (.cells N (nI es row) false))).put p (some (.cells 12 (cs.set 2 .bw) false))).put dh (some (.map [] clock))).put h.next none
def EW (args:List V)(h:H)(r:V×H): Prop:=∃p cs,args=[.ptr p 0]∧T.get h.tr p=some (.cells 12 cs false) ∧
 ((nth cs 9=some (.bool true)∧r=(.int .i64 9,h))∨(nth cs 9=some (.bool false)∧∃v1 I,hG CB 164 [.ptr p 0] h v1 I ∧
  ((v1=.bool false∧r=(.int .i64 9,I))∨(v1=.bool true∧∃cs J N row dh es clock,T.get I.tr p=some (.cells 12 cs false)∧nth cs 1=some (.sl J 0 N (.exact N))∧nth cs 3=some (.map dh) ∧
   T.get I.tr J=some (.cells N row false)∧T.get I.tr dh=some (.map (es.map gO) clock)∧r=(.int .i64 0,Dm I p cs J N row dh es clock)))))
structure EX (h h':H)(X:List Nat): Prop where
 next:h'.next=h.next
 get:∀i,i∉X→T.get h'.tr i=T.get h.tr i
theorem EX.put {h h':H}{X:List Nat}(s:EX h h' X){i:Nat}{o:Option Obj}(hi:i∈X): EX h (h'.put i o) X :=
 ⟨s.next,fun j I=>by rw [cD,ah (fun (e:j=i)=>I (e ▸ hi))]; exact s.get j I⟩
theorem FL {α:Type}{f:V→α→au}{a b:PM}: ∀ {l:cR} {m:List (Int×α)},(eW f l m).p a b→∀e∈l,∃x,(e.1,x)∈m∧(f e.2.1 x).p a b:=by
 intro l
 induction l with
 | nil=>intro m _ e he; cases he
 | cons y l I=>intro m h e he; cases m with
  | nil=>exact h.elim
  | cons x m =>
   obtain ⟨⟨J,h2⟩,h3⟩:=h
   rcases List.mem_cons.1 he with rfl | he
   ·exact ⟨x.2,by rw [show e.1=x.1 from J]; exact bu,h2⟩
   ·obtain ⟨z,k1,k2⟩:=I h3 e he
    exact ⟨z,bn _ k1,k2⟩
noncomputable def syA : Code:=dB [0] ((Tryz.f139.body).getD .skip)
noncomputable def syB : Code:=dB [1,0] ((Tryz.f139.body).getD .skip)
noncomputable def syC : Code:=dB [1,1,0,0] ((Tryz.f139.body).getD .skip)
noncomputable def Xe : Code:=dB [1,1,0,1,0,0,0] ((Tryz.f139.body).getD .skip)
noncomputable def Z1 : Code:=dB [1,1,0,1,0,0,1,1,0] ((Tryz.f139.body).getD .skip)
noncomputable def syE : Code:=dB [1,1,1] ((Tryz.f139.body).getD .skip)
theorem Ca : Tryz.f139.body=some (.seq syA (.seq syB (.seq (.seq syC (.block 0 (.loop (.seq Xe (.seq (.cond (.tmp 20) .skip (.exit 0)) (.block 1 Z1)))))) syE))):=rfl
theorem UQ : ∃id I J,Xe=.region id #[I,J] false∧I.guard=none∧J.guard=none∧I.op=.next (.tmp 18) false∧I.dst=some 19∧J.op=.extract (.tmp 19) 0∧J.dst=some 20:=⟨_,_,_,rfl,rfl,rfl,rfl,rfl,rfl,rfl⟩
def Z2 (I:H)(p it J N dh clock:Nat)(cs row:List V)(es:cR)(S:List au)(j:Nat)(E:List (Nat×V))(h:H): Prop :=
 ∃seen,Has E [(0,.ptr p 0),(18,.ptr it 0)]∧j=(leftV seen (es.map gO)).length∧EX I h [it,J] ∧
  Sat h (pt it (.iter dh clock clock seen)::pt p (.cells 12 cs false)::pt J (.cells N (doneRow seen es row) false)::gE dh es clock::S)
theorem O2 {I:H}{it J N dh clock:Nat}{cs row:List V}{es:cR}(yI:nth cs 1=some (.sl J 0 N (.exact N)))(hl:row.length=N)(hb:gB clock 0 es)(hn:(es.map fun e=>e.1.toNat).Nodup)
 (hk:∀e∈es,0≤e.1∧e.1<N)(hv:∀e∈es,e.2.1.cells=[e.2.1]∧storable e.2.1=true){j:Nat}{E:List (Nat×V)}(h0:Z2 I p it J N dh clock cs row es S j E h):
  fW CB 38 (.loop (.seq Xe (.seq (.cond (.tmp 20) .skip (.exit 0)) (.block 1 Z1)))) E h fun ex E' h'=>ex=.exit 0∧Has E' [(0,.ptr p 0)]∧EX I h' [it,J] ∧
   ∃seen,Sat h' (pt it (.iter dh clock clock seen)::pt p (.cells 12 cs false)::pt J (.cells N (nI es row) false)::gE dh es clock::S):=by
 refine fW.loop (Z2 I p it J N dh clock cs row es S) ?_ h0
 rintro j E h ⟨seen,hE,rfl,hs,s⟩
 have g1:=s.row (k:=0) rfl
 have g2:=s.row (k:=3) rfl
 obtain ⟨id,Nj,Lx,q0,q1,q2,q3,q4,q5,q6⟩:=UQ
 refine fW.seq ?_
 rw [q0]
 have hL:=next_at g1 (aD _) g2 hb
 refine fW.next j3 ir q1 q2 q3 q4 q5 rfl q6 rfl rfl (r:=it) ?_ hL fun q hq => ?_
 ·exact hE.2.1
 ·rcases Ru g1 (aD _) g2 hb hL q hq with ⟨rfl,mE⟩ | ⟨e,he,hns,bF,rfl⟩
  ·refine ⟨.bool false,[],rfl,?_⟩
   refine fW.seq (fW.cond (t:=false) rfl ?_)
   refine fW.of j3 ir (WP.exit ?_)
   refine ⟨rfl,⟨hE.1,aa⟩,hs,seen,?_⟩
   rw [←JN mE]
   exact s
  ·refine ⟨.bool true,_,rfl,?_⟩
   refine fW.seq (fW.cond (t:=true) rfl ?_)
   refine fW.of j3 ir (WP.skip ?_)
   refine fW.block (fW.of j3 ir ?_)
   have s:=s.put (o':=.iter dh clock clock (seen++[e.2.2])) (k:=0) rfl
   have hs:=hs.put (i:=it) (o:=some (.iter dh clock clock (seen++[e.2.2]))) bu
   generalize h.put it (some (.iter dh clock clock (seen++[e.2.2])))=h' at s hs
   have g1:=s.row (k:=0) rfl
   have g2:=s.row (k:=3) rfl
   refine WP.has (F:=[(0,.ptr p 0),(18,.ptr it 0),(20,.bool true)]) ⟨hE.1,hE.2.1,rfl,aa⟩ (zg rfl (aA.any rfl rfl rfl (OpR.entry rfl rfl (Rs g1 g2 hb he)) ?_))
   rintro v h ⟨rfl,rfl⟩
   refine zk 8 rfl (zf rfl (m5 _ _) (zl rfl (s.ld (k:=1) rfl rH yI) (zk 2 rfl ?_)))
   obtain ⟨k1,k2⟩:=hk e he
   refine zo rfl (dr (r:=.ptr J e.1.toNat) rfl rfl (by rw [Tf,show (decide (0≤e.1)&&decide (e.1<(N:Int)))=true by simp; omega,ag]; simp)) ?_
   have e1:=s.Xd (P:=Tryz.prog) (k:=2) (t:=28) (off:=e.1.toNat) rfl gR (by rw [JP]; exact hl) (by omega) (hv e he).1 (hv e he).2
   have s1:=s.put (o':=.cells N ((doneRow seen es row).set e.1.toNat e.2.1) false) (k:=2) rfl
   refine aA.Wa rfl rfl (AQ rfl rfl e1) (zv ?_)
   refine ⟨_,bF,seen++[e.2.2],⟨rfl,rfl,aa⟩,rfl,hs.put (by simp),?_⟩
   rw [Ic hb hn he hns]
   exact s1
theorem Rv {h₁ h':H}{p I N dh clock:Nat}{cs row:List V}{es:cR}(hs:EX (h₁.new (.iter dh clock clock [])) h' [h₁.next,I])(hi:T.get h'.tr I=some (.cells N (nI es row) false))(hp:p≠I)(hm:dh≠I):
  (Dm h₁ p cs I N row dh es clock).next=((h'.put p (some (.cells 12 (cs.set 2 .bw) false))).put dh (some (.map [] clock))).next ∧
  ∀id o,T.get (Dm h₁ p cs I N row dh es clock).tr id=some o→T.get ((h'.put p (some (.cells 12 (cs.set 2 .bw) false))).put dh (some (.map [] clock))).tr id=some o:=by
 refine ⟨hs.next.symm,fun id o ho => ?_⟩
 unfold Dm at ho
 rw [cD] at ho
 by_cases h1:id=h₁.next
 ·rw [aj h1] at ho; cases ho
 ·rw [ah h1,cD] at ho
  rw [cD]
  by_cases h2:id=dh
  ·rw [aj h2] at ho ⊢; exact ho
  ·rw [ah h2,cD] at ho
   rw [ah h2,cD]
   by_cases h3:id=p
   ·rw [aj h3] at ho ⊢; exact ho
   ·rw [ah h3,cD] at ho
    rw [ah h3]
    by_cases J:id=I
    ·rw [aj J] at ho; rw [J,hi]; exact ho
    ·rw [ah J] at ho
     rw [hs.get id (by simp [h1,J])]
     exact ho
theorem Rw {P:Program}{dh c:Nat}{es:List (V×V×Nat)}{t kt et:TypeId}(I:T.get h.tr dh=some (.map es c))(hu:P.underlying t=some (.map kt et)):
  ∃v h₁,builtinV P h .clear #[t] [.map dh]=some (v,h₁)∧(fun (_:V) (h₁:H)=>h₁=h.put dh (some (.map [] c))) v h₁ :=
 ⟨bV,_,by simp only [builtinV,clearV,hu,I]; rfl,rfl⟩
theorem O3 (s:Sat h (aR p δ::S))(mg:δ.Ok)(hk:∀e∈δ.now,0≤e.1∧e.1<δ.ax.length):
  ∃r,EW [.ptr p 0] h r∧∀(c:Ctx) (w:World),Rel c h w→(∀x∈[V.ptr p 0],wf c x)→gh Tryz.prog 139 [.ptr p 0] c w r.1 r.2:=by
 obtain ⟨pg,wt,nw,lg,mk,tn,tl,ops,s1⟩:=bG.1 s
 have gp:=s1.row (k:=0) rfl
 cases hd:δ.dead with
 | true =>
  refine ⟨(.int .i64 9,h),⟨p,_,rfl,gp,.inl ⟨by rw [hd]; rfl,rfl⟩⟩,fun c w hr ha => ?_⟩
  refine gh.Ia (C:=CB) (args:=[.ptr p 0]) zX Ca (show 1≤Tryz.f139.ntmps by decide) ?_ hr ha
  refine fW.seq (fW.of j3 ir ?_)
  have s:=s1
  refine zr rfl (za rfl (zv ?_))
  refine fW.seq (fW.of j3 ir ?_)
  exact zK 4 rfl (zf rfl (ko _ _) (zt rfl (bh rfl (s.ld (k:=0) rfl kX rfl)) (hd) (zk 11 rfl (WP.ret ⟨aa,ue rfl,rfl,fun _ _ h=>h⟩))))
 | false =>
  obtain ⟨v1,J,yO,hR⟩:=pI W.base s mg.aP
  have I:Call CB 164 [.ptr p 0] h (fun v' h'=>v'=v1∧h'=J):=⟨v1,J,yO,rfl,rfl⟩
  rcases hR with ⟨h0,rfl,s2⟩ | ⟨h0,rfl,s2⟩
  ·refine ⟨(.int .i64 9,J),⟨p,_,rfl,gp,.inr ⟨by rw [hd]; rfl,_,J,yO,.inl ⟨rfl,rfl⟩⟩⟩,fun c w hr ha => ?_⟩
   refine gh.Ia (C:=CB) (args:=[.ptr p 0]) zX Ca (show 1≤Tryz.f139.ntmps by decide) ?_ hr ha
   refine fW.seq (fW.of j3 ir ?_)
   have s:=s1
   refine zr rfl (za rfl (zv ?_))
   refine fW.seq (fW.of j3 ir ?_)
   refine zK 4 rfl (zf rfl (ko _ _) (zh rfl (bh rfl (s.ld (k:=0) rfl kX rfl)) (hd) (zk 2 rfl (zc rfl (I) ?_))))
   rintro v h ⟨rfl,rfl⟩
   exact zo rfl (eD rfl rfl) (zk 7 rfl (WP.ret ⟨aa,ue rfl,rfl,fun _ _ h=>h⟩))
  ·obtain ⟨pg,wt,nw,lg,mk,tn,tl,ops,s3⟩:=bG.1 s2
   obtain ⟨im,row,rfl,s4⟩:=gq.1 (s3.ae [1])
   obtain ⟨dh,es,clock,rfl,hb,hn,s5⟩:=fb.1 (s4.ae [4])
   dsimp only [bringA,getA,aQ] at s5
   have s6:=s5.ae [4,2,0,0,0,0]
   dsimp only [bringA,getA,aQ] at s6
   have gp1:=s6.row (k:=0) rfl
   have gi:=s6.row (k:=1) rfl
   have gm:=s6.row (k:=2) rfl
   obtain ⟨a,b,_,_,q3⟩:=s6.at (k:=3) rfl
   obtain ⟨a',b',_,_,q4⟩:=s6.at (k:=4) rfl
   have xq:row.length=δ.c8.ax.length:=ry q4
   have Qs:=xy q3
   have Xf:∀e∈es,0≤e.1∧e.1<(δ.c8.ax.length:Int):=fun e he=>by
    obtain ⟨x,k1,_⟩:=FL q3 e he
    exact hk _ k1
   have fN:∀e∈es,e.2.1.cells=[e.2.1]∧storable e.2.1=true:=fun e he=>by
    obtain ⟨x,_,k2⟩:=FL q3 e he
    have k3:ie b e.2.1 x:=k2
    rcases k3.2 with ⟨k4 | ⟨_,k4⟩,_⟩ | ⟨_,_,_,_,_,_,k4,_⟩
    ·rw [k4]; exact ⟨rfl,rfl⟩
    ·rw [k4]; exact ⟨rfl,rfl⟩
    ·rw [k4]; exact ⟨rfl,rfl⟩
   have ni:(es.map fun e=>e.1.toNat).Nodup:=by
    have J:(es.map (·.1)).Nodup:=by rw [Qs]; exact hn
    rw [List.nodup_iff_pairwise_ne,List.pairwise_map] at J ⊢
    refine (List.pairwise_iff_forall_sublist.2 fun {x y} Xg => ?_)
    have h2:=(List.pairwise_iff_forall_sublist.1 J) Xg
    have hx:=(Xf x (Xg.subset bu)).1
    have hy:=(Xf y (Xg.subset (bn _ bu))).1
    omega
   refine ⟨(.int .i64 0,Dm J p _ im δ.c8.ax.length row dh es clock),⟨p,_,rfl,gp,.inr ⟨by rw [hd]; rfl,_,J,yO,.inr ⟨rfl,_,im,_,row,dh,es,clock,gp1,rfl,rfl,gi,gm,rfl⟩⟩⟩,fun c w hr ha => ?_⟩
   refine gh.Ia (C:=CB) (args:=[.ptr p 0]) zX Ca (show 1≤Tryz.f139.ntmps by decide) ?_ hr ha
   refine fW.seq (fW.of j3 ir ?_)
   have s:=s1
   refine zr rfl (za rfl (zv ?_))
   refine fW.seq (fW.of j3 ir ?_)
   refine zK 4 rfl (zf rfl (ko _ _) (zh rfl (bh rfl (s.ld (k:=0) rfl kX rfl)) (hd) (zk 2 rfl (zc rfl (I) ?_))))
   rintro v h ⟨rfl,rfl⟩
   refine zo rfl (eD rfl rfl) (zp rfl (zv (zj rfl (WP.skip ?_))))
   refine fW.seq (fW.seq (fW.of j3 ir ?_))
   have s:=s6
   refine zK 3 rfl (zf rfl (AU _ _) (zl rfl (s.ld (k:=0) rfl jS rfl) (aA.any rfl rfl rfl (OpR.range rfl rfl (show rangeV Tryz.prog h 109 (.map dh)=some (.ptr h.next 0,h.new (.iter dh clock clock [])) by simp only [rangeV,lp,gm])) ?_)))
   rintro v h' ⟨rfl,rfl⟩
   refine zv ?_
   have s7:=s.new (.iter dh clock clock [])
   refine fW.block ((O2 (row:=row) (es:=es) (S:=_) rfl xq hb ni Xf fN ⟨[],⟨rfl,rfl,aa⟩,rfl,⟨rfl,fun _ _=>rfl⟩,by rw [JO]; exact s7⟩).mono ?_)
   rintro ex E' h' ⟨rfl,jd,hs,seen,s⟩
   refine fW.of j3 ir (WP.has jd ?_)
   have e1:=s.Xd (P:=Tryz.prog) (k:=1) (t:=146) (off:=2) (v:=.bw) rfl Tg rfl (by decide) rfl rfl
   have s8:=s.put (o':=.cells 12 (List.set (wK δ.c8.room (.sl im 0 δ.c8.ax.length (.exact δ.c8.ax.length)) wt (.map dh) lg δ.c8.bp mk δ.c8.aP ops δ.c8.dead tn tl) 2 .bw) false) (k:=1) rfl
   have dS:p≠im:=(s.ae [1,1]).ne
   have Ie:dh≠im:=(s.ae [3,2]).ne
   have gi:=s.row (k:=2) rfl
   have Xh:=Rv (p:=p) (cs:=(wK δ.c8.room (.sl im 0 δ.c8.ax.length (.exact δ.c8.ax.length)) wt (.map dh) lg δ.c8.bp mk δ.c8.aP ops δ.c8.dead tn tl)) hs gi dS Ie
   refine zK 4 rfl (zf rfl (tC _ _) (aA.Wa rfl rfl (AQ rfl rfl e1) ?_))
   have s:=s8
   have gm8:=s.row (k:=3) rfl
   refine zk 5 rfl (zf rfl (AU _ _) (zl rfl (s.ld (k:=1) rfl jS rfl) (aA.i_ rfl rfl (OpR.builtin rfl rfl rfl (Rw gm8 lp)) ?_)))
   rintro v h'' rfl
   exact zk 5 rfl (WP.ret ⟨aa,ue rfl,Xh.1,Xh.2⟩)
end
end Go.Proofs.YtefepnnfphdkpaaGreat.Am
