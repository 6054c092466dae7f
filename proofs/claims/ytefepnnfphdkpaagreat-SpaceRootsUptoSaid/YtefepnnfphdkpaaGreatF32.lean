/- SpaceRoots: a part of its proof; conditions: its statement's. -/
import Derived.Test.YtefepnnfphdkpaaGreatF12
import Derived.Defers
import Derived.Recover
import Derived.Test.YtefepnnfphdkpaaGreatF31
namespace Go.Proofs.YtefepnnfphdkpaaGreat.Am
open Go
abbrev qA := List (Nat×List V×List V)
noncomputable def nm (P:Program)(s:St)(rs:List ResultVar): Option V:=match mapO (resV P s) rs with
 | some [v]=>some v
 | some vs=>some (.bj vs)
 | none=>none
noncomputable def evOpsD (C:cL)(self:Self)(L:List Oper): List Oper→St→qA→Option (St×qA)
 | [],s,d=>some (s,d)
 | o::rest,s,d=>match o.op with
  | .defer cl=>match o.guard,o.dst,cl.callee,evArgs s.env cl.args.toList with
   | none,none,.value x,some args=>match evO s.env x with
    | some (.fn (.func g) first cap)=>evOpsD C self L rest s ((g,first++args,cap)::d)
    | _=>none
   | _,_,_,_=>none
  | _=>cond (wantedV L s.env o)
   (match evOp C self s.env s.h o with
    | some (v,h)=>match s.put o.dst v h with
     | some s'=>evOpsD C self L rest s' d
     | none=>none
    | none=>none)
   (match s.put o.dst bV s.h with
    | some s'=>evOpsD C self L rest s' d
    | none=>none)
noncomputable def evTop (C:cL)(n:Nat): Nat→Code→St→qA→Option (Ex×St×qA)
 | 0,_,_,_=>none
 | m+1,c,s,d=>match c with
  | .seq a b=>match evTop C n m a s d with
   | some (.normal,s',I)=>evTop C n m b s' I
   | r=>r
  | .region _ ops false=>match evOpsD C (CO C n) ops.toList ops.toList s d with
   | some (s',I)=>some (.normal,s',I)
   | none=>none
  | c=>match CO C n c s with
   | some (ex,s')=>some (ex,s',d)
   | none=>none
def quietParts : Code→Option (Nat×Nat×Code)
 | .seq (.region _ ops false) rest=>match ops.toList with
  | [I,J]=>match I.op,I.guard,I.dst,J.op,J.guard,J.dst with
   | .call cl,none,some sN,.assign (.tmp t),none,some B9=>match cl.callee,cl.args.toList with
    | .builtin .recover,[]=>cond (Nat.beq t sN) (some (sN,B9,rest)) none
    | _,_=>none
   | _,_,_,_,_,_=>none
  | _=>none
 | _=>none
noncomputable def defCall (C : cL) (n : Nat) (g : Nat) (args : List V) (h : H) : Option H := match C.P.funcs[g]? with
 | none => none
 | some fn => match fn.body with
  | none => none
  | some code => match quietParts code with
   | some (I, J, rest) => cond (Nat.blt I fn.ntmps && Nat.blt J fn.ntmps && Nat.ble args.length fn.ntmps && !(fn.name == "runtime.NumGoroutine"))
    (match CO C n rest ⟨((bindArgs args 0 .lf).set I (some .jz)).set J (some .jz), fn.ntmps, h⟩ with
     | some (.normal, s) | some (.ret, s) => match nm C.P s fn.results.toList with
      | some _ => some s.h
      | none => none
     | _ => none) none
   | none => match callF C (CO C n) g args h with
    | some (_, h') => some h'
    | none => none
noncomputable def runDefs (C:cL)(n:Nat): qA→H→Option H
 | [],h=>some h
 | (g,args,cap)::d,h=>match C.told g with
  | some _=>none
  | none=>match defCall C n g (args++cap) h with
   | some h'=>runDefs C n d h'
   | none=>none
noncomputable def toldDefer (C:cL)(n f:Nat)(args:List V)(h:H): Option (V×H):=match C.P.funcs[f]? with
 | none=>none
 | some fn=>match fn.body with
  | none=>none
  | some c=>cond (Nat.blt fn.ntmps args.length) none (match evTop C n 1000 c ⟨bindArgs args 0 .lf,fn.ntmps,h⟩ [] with
   | some (.exit _,_,_)=>none
   | some (_,s,d)=>match runDefs C n d s.h with
    | some h'=>match nm C.P ⟨s.env,s.ay,h'⟩ fn.results.toList with
     | some v=>some (v,h')
     | none=>none
    | none=>none
   | none=>none)
section
variable {C:cL} {self:Self} {c:Ctx} {σ:H} {w:World}
theorem Cg {s:St}{a:Act}{P:Program}{fn:Func}{v:V}(h:Rel c s.h w)(he:dQ c s.env s.ay a)(I:nm P s fn.results.toList=some v):
  (results fn a.tmps).run P w=.ok (conc c v) w∧wf c v:=by
 unfold nm at I
 cases J:mapO (resV P s) fn.results.toList with
 | none=>simp [J] at I
 | some vs =>
  obtain ⟨q1,q2⟩:=pW h he J
  rw [J] at I
  rw [q1]
  rcases vs with _ | ⟨v0,_ | ⟨v1,vs⟩⟩
  ·simp only [aq] at I
   subst I
   exact ⟨by simp [conc,concL],by simp [wf,fu]⟩
  ·simp only [aq] at I
   subst I
   exact ⟨by simp,q2 v0 (by simp)⟩
  ·simp only [aq] at I
   subst I
   exact ⟨by simp [conc,gC],by simp only [wf,gK]; exact q2⟩
structure rL (c:Ctx)(d:qA)(ds:List Deferred): Prop where
 eq:ds=d.map fun x=>{ target:=.fn (.func x.1) (x.2.2.map (conc c)).toArray,args:=(x.2.1.map (conc c)).toArray }
 F3:∀x∈d,(∀v∈x.2.1,wf c v)∧∀v∈x.2.2,wf c v
theorem rL.ext {c':Ctx}{d:qA}{ds:List Deferred}(h:rL c d ds)(e:Ext c c'): rL c' d ds where
 eq:=by
  rw [h.eq]
  refine oX fun x I => ?_
  rw [(nr e (h.F3 x I).1).1,(nr e (h.F3 x I).2).1]
 F3:=fun x I=>⟨(nr e (h.F3 x I).1).2,(nr e (h.F3 x I).2).2⟩
theorem Py {env:Env}{n:Nat}{a:Act}(he:dQ c env n a): ∀(l:List Operand) (vs:List V),evArgs env l=some vs→l.map a.eval=vs.map (conc c)∧∀v∈vs,wf c v:=by
 intro l
 induction l with
 | nil=>intro vs h; simp [evArgs] at h; subst h; simp
 | cons x l ih =>
  intro vs h
  simp only [evArgs] at h
  cases I:evO env x with
  | none=>simp [I] at h
  | some v =>
   cases J:evArgs env l with
   | none=>simp [I,J] at h
   | some m =>
    simp [I,J] at h
    subst h
    obtain ⟨i1,i2⟩:=ih m J
    obtain ⟨e1,e2⟩:=yA he I
    refine ⟨by simp [e1,i1],fun y hy => ?_⟩
    rcases List.mem_cons.1 hy with rfl | hy
    ·exact e2
    ·exact i2 y hy
theorem Pz (hS:iW C.P self)(hT:fy C){ops:Array Oper}{Q:Exit→Act→World→Prop}: ∀(l:List Oper) (k:Nat) (s s':St) (d d':qA) (c:Ctx) (a:Act) (w:World),
  (∀j,l[j]?=ops[k+j]?)→evOpsD C self ops.toList l s d=some (s',d')→Rel c s.h w→dQ c s.env s.ay a→rL c d a.defers →
  (∀c' a' w',Rel c' s'.h w'→dQ c' s'.env s'.ay a'→cV c w c' w'→rL c' d' a'.defers→Q .normal a' w') →
  wpOpsIn (Fr none) 0 C.P ops Q (List.range' k l.length) a w:=by
 intro l
 induction l with
 | nil =>
  intro k s s' d d' c a w _ I h he hd hQ
  simp only [evOpsD,aq,aF] at I
  obtain ⟨rfl,rfl⟩:=I
  simp only [bT,D_,wpOpsIn]
  exact hQ c a w h he (cV.refl c w) hd
 | cons o l ih =>
  intro k s s' d d' c a w hl I h he hd hQ
  have h0:ops[k]?=some o:=by simpa using (hl 0).symm
  have rS:∀j,l[j]?=ops[k+1+j]?:=fun j=>by have:=hl (j+1); simpa [gx,tc 1 j] using this
  simp only [aS,Ay,wpOpsIn,h0]
  rw [xj he]
  have common:(cond (wantedV ops.toList s.env o)
    (match evOp C self s.env s.h o with
     | some (v,h)=>match s.put o.dst v h with
      | some s'=>evOpsD C self ops.toList l s' d
      | none=>none
     | none=>none)
    (match s.put o.dst bV s.h with
     | some s'=>evOpsD C self ops.toList l s' d
     | none=>none))=some (s',d') →
    (if wantedV ops.toList s.env o=true then o.wpIn (Fr none) 0 C.P a w (wpOpsIn (Fr none) 0 C.P ops Q (List.range' (k+1) l.length)) Q else (∀f,o.about C.P w a.eval=some f→(Fr none).fn f)∧wpOpsIn (Fr none) 0 C.P ops Q (List.range' (k+1) l.length) (a.put o.dst undef) w):=by
   intro I
   cases hw:wantedV ops.toList s.env o with
   | true =>
    rw [hw,ag] at I
    simp only [bO]
    cases ho:evOp C self s.env s.h o with
    | none=>simp [ho] at I
    | some r =>
     obtain ⟨v,eS⟩:=r
     simp only [ho] at I
     cases hp:s.put o.dst v eS with
     | none=>simp [hp] at I
     | some J =>
      simp only [hp] at I
      refine (wm hS hT h (he.G7 o) ho).wpIn (lV ho) ?_
      intro c' w' r1 r2 r3
      obtain ⟨p1,p2,p3⟩:=St.we (he.ext r2.ext) r3 hp
      refine ih (k+1) J s' d d' c' _ w' rS I (by rw [p2]; exact r1) p1 (by rw [put_defers]; exact hd.ext r2.ext) ?_
      intro mM rT tZ q1 q2 q3 q4
      exact hQ mM rT tZ q1 q2 (r2.trans q3) q4
   | false =>
    rw [hw,az] at I
    simp only [dY,bN]
    refine ⟨fun _ _=>trivial,?_⟩
    cases hp:s.put o.dst bV s.h with
    | none=>simp [hp] at I
    | some J =>
     simp only [hp] at I
     obtain ⟨p1,p2,p3⟩:=St.we he (show wf c bV by simp [bV,wf,fu]) hp
     rw [nV] at p1
     refine ih (k+1) J s' d d' c _ w rS I (by rw [p2]; exact h) p1 (by rw [put_defers]; exact hd) ?_
     intro mM rT tZ q1 q2 q3 q4
     exact hQ mM rT tZ q1 q2 q3 q4
  unfold evOpsD at I
  split at I
  ·rename_i cl iG
   split at I
   ·rename_i x args hg Qv Vd GL
    split at I
    ·rename_i g first cap ZZ
     have Y8:wantedV ops.toList s.env o=true:=by simp [wantedV,hg]
     simp only [Y8,bO]
     obtain ⟨e1,e2⟩:=Py he _ _ GL
     obtain ⟨f1,f2⟩:=yA he ZZ
     have fw:(∀x∈first,wf c x)∧(∀x∈cap,wf c x):=by
      have:fu c first∧fu c cap:=by simpa [wf] using f2
      exact ⟨gK.1 this.1,gK.1 this.2⟩
     have tT:(execOp a.eval o).run C.P w=.ok (.defer { target:=.fn (.func g) (cap.map (conc c)).toArray,args:=((first++args).map (conc c)).toArray }) w:=by
      have h1:cl.args.map a.eval=(args.map (conc c)).toArray:=by
       apply ji
       simpa using e1
      have h2:a.eval x=.func (.func g) (first.map (conc c)).toArray (cap.map (conc c)).toArray:=by rw [f1]; simp [conc,gC]
      simp [execOp,iG,resolve,Vd,h2,Deferred.ofValue,h1]
     refine ⟨fun _ _=>trivial,?_⟩
     rw [show (Fr none).round=none from rfl,Oper.semAt_none,tT]
     simp only [Oper.uponIn,Qv,Act.put]
     refine ih (k+1) s s' ((g,first++args,cap)::d) d' c _ w rS I h ⟨he.size,he.val,he.uS⟩ ⟨by simp [hd.eq],fun x hx => ?_⟩ ?_
     ·rcases List.mem_cons.1 hx with rfl | hx
      ·exact ⟨fun v hv=>by
        rcases List.mem_append.1 hv with hv | hv
        ·exact fw.1 v hv
        ·exact e2 v hv,fw.2⟩
      ·exact hd.F3 x hx
     ·intro mM rT tZ q1 q2 q3 q4
      exact hQ mM rT tZ q1 q2 q3 q4
    ·cases I
   ·cases I
  ·exact common I
theorem R5 (hm:C.P.follows .mixedOrders=true)(hT:fy C){n:Nat}: ∀(m:Nat) (code:Code) (s:St) (d:qA) (ex:Ex) (s':St) (d':qA),evTop C n m code s d=some (ex,s',d') →
  ∀(c:Ctx) (a:Act) (w:World),Rel c s.h w→dQ c s.env s.ay a→rL c d a.defers →
   code.wp C.P (fun e a' w'=>e=exOf ex∧∃c',Rel c' s'.h w'∧dQ c' s'.env s'.ay a'∧cV c w c' w'∧rL c' d' a'.defers) a w:=by
 have hS:=(xk (C:=C) hm hT n).1
 intro m
 induction m with
 | zero=>intro code s d ex s' d' h; simp [evTop] at h
 | succ m ih =>
  intro code s d ex s' d' I c a w h he hd
  have rest:(match ev C n code s with
    | some (ex,s')=>some (ex,s',d)
    | none=>none)=some (ex,s',d')→code.wp C.P (fun e a' w'=>e=exOf ex∧∃c',Rel c' s'.h w'∧dQ c' s'.env s'.ay a'∧cV c w c' w'∧rL c' d' a'.defers) a w:=by
   intro I
   cases jZ:ev C n code s with
   | none=>rw [jZ] at I; cases I
   | some r =>
    obtain ⟨CJ,J⟩:=r
    rw [jZ] at I
    simp only [aq,aF] at I
    obtain ⟨rfl,rfl,rfl⟩:=I
    refine Code.wp_mono ?_ (hS _ _ _ _ jZ c a w h he)
    rintro e a' w' ⟨rfl,q2,c',q3,q4,q5⟩
    exact ⟨rfl,c',q3,q4,q5,by rw [q2]; exact hd.ext q5.ext⟩
  unfold evTop at I
  rw [yP] at I
  split at I
  ·rename_i x y
   cases hx:evTop C n m x s d with
   | none=>rw [hx] at I; cases I
   | some r =>
    obtain ⟨CJ,J,sN⟩:=r
    rw [hx] at I
    refine wp_seq (Code.wp_mono ?_ (ih x s d CJ J sN hx c a w h he hd))
    rintro e Gn tX ⟨rfl,c₁,q3,q4,q5,q6⟩
    cases CJ with
    | normal =>
     refine Code.wp_mono ?_ (ih y J sN ex s' d' I c₁ Gn tX q3 q4 q6)
     rintro e Yk Yl ⟨rfl,c₂,p3,p4,p5,p6⟩
     exact ⟨rfl,c₂,p3,p4,q5.trans p5,p6⟩
    | exit i =>
     simp only [aq,aF] at I
     obtain ⟨rfl,rfl,rfl⟩:=I
     exact ⟨rfl,c₁,q3,q4,q5,q6⟩
    | ret =>
     simp only [aq,aF] at I
     obtain ⟨rfl,rfl,rfl⟩:=I
     exact ⟨rfl,c₁,q3,q4,q5,q6⟩
  ·rename_i id ops
   cases hx:evOpsD C (ev C n) ops.toList ops.toList s d with
   | none=>rw [hx] at I; cases I
   | some r =>
    obtain ⟨J,sN⟩:=r
    rw [hx] at I
    simp only [aq,aF] at I
    obtain ⟨rfl,rfl,rfl⟩:=I
    refine wpIn_wide.1 (show (Code.region id ops false).wpIn (Fr none) 0 C.P _ a w from wpIn_region ?_)
    rw [DY,←Aw]
    exact Pz (CK (C:=C) hm hT n).1 hT ops.toList 0 s J d sN c a w (fun j=>by rw [dH,jf]) hx h he hd fun c' a' w' r1 r2 r3 r4=>⟨rfl,c',r1,r2,r3,r4⟩
  ·exact rest I
theorem R6 (hm : C.P.follows .mixedOrders = true) (hT : fy C) {n g : Nat} {args : List V} {v : V} {I : H} (hg : C.told g = none) (J : callF C (ev C n) g args σ = some (v, I)) (h : Rel c σ w) (hw : ∀ x ∈ args, wf c x) :
  CallsD C.P g (args.map (conc c)).toArray .returning w (fun e u' w' => u' = .returning ∧ (∃ x, e = .returned x) ∧ ∃ c', Rel c' I w' ∧ cV c w c' w') ∧ ∀ (x : Array Value) (w : World), (callFunc g x).run C.P w = .ok (.enter g x) w := by
 have hS := (xk (C := C) hm hT n).1
 have hen := (tV hS hT J h hw).2
 refine ⟨?_, hen⟩
 unfold callF at J
 rw [hg] at J
 simp only at J
 cases hf : C.P.funcs[g]? with
 | none => simp [hf] at J
 | some fn =>
  simp only [hf] at J
  cases hb : fn.body with
  | none => simp [hb] at J
  | some code =>
   simp only [hb] at J
   cases hq : (fn.name == "runtime.NumGoroutine" || Nat.blt fn.ntmps args.length) with
   | true => simp [hq] at J
   | false =>
    simp only [hq, az] at J
    simp only [Bool.or_eq_false_iff] at hq
    have hle : args.length ≤ fn.ntmps := by
     rcases lR fn.ntmps args.length with h' | h'
     ·rw [gJ.2 h'] at hq; cases hq.2
     ·exact h'
    have tW := kx (c := c) hle hw
    have done : ∀ ex s, ev C n code ⟨bindArgs args 0 .lf, fn.ntmps, σ⟩ = some (ex, s) → (ex = .normal ∨ ex = .ret) →
      (match mapO (resV C.P s) fn.results.toList with
       | some [v] => some (v, s.h)
       | some vs => some (.bj vs, s.h)
       | none => none) = some (v, I) →
      CallsD C.P g (args.map (conc c)).toArray .returning w (fun e u' w' => u' = .returning ∧ (∃ x, e = .returned x) ∧ ∃ c', Rel c' I w' ∧ cV c w c' w') := by
     intro ex s hs hex PA
     have NA := hS code _ ex s hs c _ w h tW
     have E7 : nm C.P s fn.results.toList = some v ∧ s.h = I := by
      unfold nm
      cases Kp : mapO (resV C.P s) fn.results.toList with
      | none => rw [Kp] at PA; cases PA
      | some vs =>
       rw [Kp] at PA
       rcases vs with _ | ⟨v0, _ | ⟨v1, vs⟩⟩ <;> simp only [aq, aF] at PA ⊢ <;> exact PA
     have qa := callsD_of_wp (u := .returning) (R := fun e w' => (∃ x, e = .returned x) ∧ ∃ c', Rel c' I w' ∧ cV c w c' w') hf hb (Code.wp_mono (Q' := bodyPost C.P fn fun e w' => (∃ x, e = .returned x) ∧ ∃ c', Rel c' I w' ∧ cV c w c' w') ?_ NA)
     ·exact qa.mono fun e u' w' ⟨h1, h2⟩ => ⟨h1, h2⟩
     ·rintro e a' w' ⟨rfl, hd, c', r1, r2, r3⟩
      have uX : a'.defers = [] ∧ ∃ x, (results fn a'.tmps).run C.P w' = .ok x w' ∧ (∃ y, Ending.returned x = .returned y) ∧ ∃ c', Rel c' I w' ∧ cV c w c' w' :=
       ⟨hd, _, (Cg r1 r2 E7.1).1, ⟨_, rfl⟩, c', by rw [← E7.2]; exact r1, r3⟩
      rcases hex with rfl | rfl
      ·simpa [bodyPost, exOf] using uX
      ·simpa [bodyPost, exOf] using uX
    split at J
    ·rename_i s hs
     exact done .normal s hs (.inl rfl) J
    ·rename_i s hs
     exact done .ret s hs (.inr rfl) J
    ·simp at J
theorem Gu {P:Program}{o:Oper}{ρ:Operand→Value}{cl:Go.Call}(ho:o.op=.call cl)(J:cl.callee=.builtin .recover)(ha:cl.args.toList=[])(w:World): (execOp ρ o).run P w=.ok .recover w:=by
 have I:cl.args = #[]:=by apply ji; simpa using ha
 simp [execOp,ho,resolve,J,I,invoke,builtin]
theorem F4 (hm:C.P.follows .mixedOrders=true)(hT:fy C){n g sN B9:Nat}{fn:Func}{code rest:Code}{args:List V}{ex:Ex}{I:St}{v:V}(hf:C.P.funcs[g]?=some fn)(hb:fn.body=some code)
 (J:quietParts code=some (sN,B9,rest))(h1:sN<fn.ntmps)(h2:B9<fn.ntmps)(hle:args.length≤fn.ntmps)
 (OE:ev C n rest ⟨((bindArgs args 0 .lf).set sN (some .jz)).set B9 (some .jz),fn.ntmps,σ⟩=some (ex,I))(hex:ex=.normal∨ex=.ret)(E7:nm C.P I fn.results.toList=some v)
 (h:Rel c σ w)(hw:∀x∈args,wf c x):
  CallsD C.P g (args.map (conc c)).toArray .returning w (fun e u' w'=>u'=.returning∧(∃x,e=.returned x)∧∃c',Rel c' I.h w'∧cV c w c' w'):=by
 have hS:=(xk (C:=C) hm hT n).1
 unfold quietParts at J
 split at J
 ·rename_i id ops To
  split at J
  ·rename_i Nj Lx aa1
   split at J
   ·rename_i cl abO t abP q6 q2 q4 q9 q3 q5
    split at J
    ·rename_i q7 q8
     cases ht:Nat.beq t abO with
     | false=>rw [ht] at J; cases J
     | true =>
      rw [ht,ag] at J
      simp only [aq,aF] at J
      obtain ⟨rfl,rfl,rfl⟩:=J
      have:=beq_iff.1 ht
      subst this
      have Y9:ops = #[Nj,Lx]:=by apply ji; simpa using aa1
      subst Y9
      refine callsD_of_wpS hf hb fun c₀ cs hu=>(wpS_seq ?_)
      have VI:=kx (c:=c) hle hw
      generalize hA:({ tmps:=(args.map (conc c)).toArray++Array.replicate (fn.ntmps-(args.map (conc c)).toArray.size) undef,defers:=[] }:Act)=A at VI ⊢
      have XA:A.defers=[]:=by rw [←hA]
      have xg:=(VI.put (d:=t) (v:=.jz) h1 (by simp [wf])).put (d:=abP) (v:=.jz) h2 (by simp [wf])
      have tT:=hS _ _ _ _ OE c _ w h xg
      rw [show conc c .jz=.nilIface from by simp [conc]] at tT
      have R7:recoverD (c₀::cs)=none:=by simp [recoverD,hu]
      have h5:(A.put (some t) .nilIface).eval (.tmp t)=.nilIface:=by
       have:=(VI.put (d:=t) (v:=.jz) h1 (by simp [wf])).val t
       rw [show conc c .jz=.nilIface from by simp [conc]] at this
       rw [show Act.eval (A.put (some t) .nilIface) (.tmp t)=(A.put (some t) .nilIface).tmps.getD t undef from rfl,this]
       simp [Env.v,aX,conc]
      refine wpS_region ?_
      rw [show List.range (#[Nj,Lx]:Array Oper).size=[0,1] from rfl]
      simp only [wpOpsS,lN,mT,kK,Region.wanted,q2,q3,bO]
      rw [Gu q6 q7 q8]
      simp only [R7,q4]
      have aa2:(execOp (A.put (some t) .nilIface).eval Lx).run C.P w=.ok (.value .nilIface) w:=by simp [execOp,q9,h5]
      rw [aa2]
      simp only [Oper.upon,q5,Exit.thenS]
      refine wpS_of_wp (Code.wp_mono ?_ tT)
      rintro e a' w' ⟨rfl,dd,c',r1,e2,p1⟩
      have uX:a'.defers=[]∧∃u',c₀::cs={ c₀ with mode:=u' }::cs∧∃v,(results fn a'.tmps).run C.P w'=.ok v w'∧(u'=.returning∧(∃x,Ending.returned v=.returned x)∧∃c',Rel c' I.h w'∧cV c w c' w') :=
       ⟨dd.trans XA,.returning,by rw [←hu],_,(Cg r1 e2 E7).1,rfl,⟨_,rfl⟩,c',r1,p1⟩
      rcases hex with rfl | rfl
      ·exact uX
      ·exact uX
    ·cases J
   ·cases J
  ·cases J
 ·cases J
theorem MM (hm : C.P.follows .mixedOrders = true) (hT : fy C) {n g : Nat} {args : List V} {eS : H} (hg : C.told g = none) (I : defCall C n g args σ = some eS) (h : Rel c σ w) (hw : ∀ x ∈ args, wf c x) :
  CallsD C.P g (args.map (conc c)).toArray .returning w (fun e u' w' => u' = .returning ∧ (∃ x, e = .returned x) ∧ ∃ c', Rel c' eS w' ∧ cV c w c' w') ∧ ∀ (x : Array Value) (w : World), (callFunc g x).run C.P w = .ok (.enter g x) w := by
 unfold defCall at I
 rw [yP] at I
 cases hf : C.P.funcs[g]? with
 | none => simp [hf] at I
 | some fn =>
  simp only [hf] at I
  cases hb : fn.body with
  | none => simp [hb] at I
  | some code =>
   simp only [hb] at I
   split at I
   ·rename_i sN B9 rest hq
    cases hc : (Nat.blt sN fn.ntmps && Nat.blt B9 fn.ntmps && Nat.ble args.length fn.ntmps && !(fn.name == "runtime.NumGoroutine")) with
    | false => rw [hc] at I; cases I
    | true =>
     rw [hc, ag] at I
     simp only [aO, gJ, aJ, vS] at hc
     obtain ⟨⟨⟨c1, c2⟩, c3⟩, c4⟩ := hc
     refine ⟨?_, fun x w => by simp only [callFunc, Sem.run_bind, run_program, Result.andThen_ok, hf, c4, dY, bN, hb, Option.isNone_some, Sem.run_pure]⟩
     split at I
     ·rename_i s hs
      cases J : nm C.P s fn.results.toList with
      | none => rw [J] at I; cases I
      | some v =>
       rw [J] at I
       simp only [aq] at I
       subst I
       exact F4 hm hT hf hb hq c1 c2 c3 hs (.inl rfl) J h hw
     ·rename_i s hs
      cases J : nm C.P s fn.results.toList with
      | none => rw [J] at I; cases I
      | some v =>
       rw [J] at I
       simp only [aq] at I
       subst I
       exact F4 hm hT hf hb hq c1 c2 c3 hs (.inr rfl) J h hw
     ·cases I
   ·cases hc : callF C (ev C n) g args σ with
    | none => rw [hc] at I; cases I
    | some r =>
     obtain ⟨u, h₁⟩ := r
     rw [hc] at I
     simp only [aq] at I
     subst I
     exact R6 hm hT hg hc h hw
theorem PB (hm:C.P.follows .mixedOrders=true)(hT:fy C){n:Nat}{fn:Func}{s:St}{v:V}{h':H}{c₀:Ctx}{w₀:World}(E7:nm C.P ⟨s.env,s.ay,h'⟩ fn.results.toList=some v):
  ∀(d:qA) (h:H) (c:Ctx) (a:Act) (ds:List Deferred) (w:World),runDefs C n d h=some h'→Rel c h w→dQ c s.env s.ay a→rL c d ds→cV c₀ w₀ c w →
   Leaves C.P fn a.tmps (fun e w'=>∃c',e=.returned (conc c' v)∧wf c' v∧Rel c' h' w'∧cV c₀ w₀ c' w') ds .returning w:=by
 intro d
 induction d with
 | nil =>
  intro h c a ds w J I he hd hs
  simp only [runDefs,aq] at J
  subst J
  have:ds=[]:=by rw [hd.eq]; rfl
  subst this
  obtain ⟨q1,q2⟩:=Cg (s:=⟨s.env,s.ay,h⟩) I he E7
  exact ⟨_,q1,c,rfl,q2,I,hs⟩
 | cons x d ih =>
  intro h c a ds w J I he hd hs
  obtain ⟨g,args,cap⟩:=x
  simp only [runDefs] at J
  cases ht:C.told g with
  | some t=>rw [ht] at J; cases J
  | none =>
   rw [ht] at J
   simp only at J
   cases hc:defCall C n g (args++cap) h with
   | none=>rw [hc] at J; cases J
   | some h₁ =>
    rw [hc] at J
    simp only at J
    have jP:=hd.F3 (g,args,cap) (by simp)
    obtain ⟨k1,k2⟩:=MM hm hT ht hc I (fun x hx=>by
     rcases List.mem_append.1 hx with hx | hx
     ·exact jP.1 x hx
     ·exact jP.2 x hx)
    have hds:ds={ target:=.fn (.func g) (cap.map (conc c)).toArray,args:=(args.map (conc c)).toArray }::d.map fun x=>{ target:=.fn (.func x.1) (x.2.2.map (conc c)).toArray,args:=(x.2.1.map (conc c)).toArray }:=by rw [hd.eq]; rfl
    rw [hds]
    refine leaves_cons (f:=g) (args:=((args++cap).map (conc c)).toArray) (by simp) ?_ ?_
    ·simp only [invoke]
     rw [show (args.map (conc c)).toArray++(cap.map (conc c)).toArray=((args++cap).map (conc c)).toArray from by simp]
     exact k2 _ w
    ·refine k1.mono ?_
     rintro e u' tX ⟨rfl,⟨y,rfl⟩,c₁,r1,r2⟩
     have ym:rL c d (d.map fun x=>{ target:=.fn (.func x.1) (x.2.2.map (conc c)).toArray,args:=(x.2.1.map (conc c)).toArray }):=⟨rfl,fun z hz=>hd.F3 z (by simp [hz])⟩
     exact ih h₁ c₁ a _ tX J r1 (he.ext r2.ext) (ym.ext r2.ext) (hs.trans r2)
theorem IC (hm:C.P.follows .mixedOrders=true)(hT:fy C){n f:Nat}{args:List V}{v:V}{eS:H}(J:toldDefer C n f args σ=some (v,eS))(h:Rel c σ w)(hw:∀x∈args,wf c x):
  gh C.P f args c w v eS:=by
 unfold toldDefer at J
 cases hf:C.P.funcs[f]? with
 | none=>simp [hf] at J
 | some fn =>
  simp only [hf] at J
  cases hb:fn.body with
  | none=>simp [hb] at J
  | some code =>
   simp only [hb] at J
   cases hq:Nat.blt fn.ntmps args.length with
   | true=>rw [hq] at J; cases J
   | false =>
    rw [hq,az] at J
    have hle:args.length≤fn.ntmps:=by
     rcases lR fn.ntmps args.length with h' | h'
     ·rw [gJ.2 h'] at hq; cases hq
     ·exact h'
    have tW:=kx (c:=c) hle hw
    unfold gh
    refine calls_of_wp_defers hf hb ?_
    have done:∀ex s d,evTop C n 1000 code ⟨bindArgs args 0 .lf,fn.ntmps,σ⟩ []=some (ex,s,d)→(ex=.normal∨ex=.ret) →
      (match runDefs C n d s.h with
       | some h'=>match nm C.P ⟨s.env,s.ay,h'⟩ fn.results.toList with
        | some v=>some (v,h')
        | none=>none
       | none=>none)=some (v,eS) →
      code.wp C.P (bodyPostD C.P fn fun e w'=>∃c',e=.returned (conc c' v)∧wf c' v∧Rel c' eS w'∧cV c w c' w')
       { tmps:=(args.map (conc c)).toArray++Array.replicate (fn.ntmps-(args.map (conc c)).toArray.size) undef,defers:=[] } w:=by
     intro ex s d hs hex I
     refine Code.wp_mono ?_ (R5 hm hT 1000 code _ [] ex s d hs c _ w h tW ⟨rfl,fun x hx=>by cases hx⟩)
     rintro e a' w' ⟨rfl,c',r1,r2,r3,r4⟩
     cases jq:runDefs C n d s.h with
     | none=>rw [jq] at I; cases I
     | some h' =>
      rw [jq] at I
      simp only at I
      cases Hj:nm C.P ⟨s.env,s.ay,h'⟩ fn.results.toList with
      | none=>rw [Hj] at I; cases I
      | some v' =>
       rw [Hj] at I
       simp only [aq,aF] at I
       obtain ⟨rfl,rfl⟩:=I
       have hl:=PB hm hT Hj d s.h c' a' a'.defers w' jq r1 r2 r4 r3
       rcases hex with rfl | rfl
       ·simpa [bodyPostD,exOf] using hl
       ·simpa [bodyPostD,exOf] using hl
    split at J
    ·cases J
    ·rename_i ex s d dS hs
     refine done ex s d hs ?_ J
     cases ex with
     | normal=>exact .inl rfl
     | ret=>exact .inr rfl
     | exit i=>exact absurd rfl (dS i)
    ·cases J
end
def sdep : Code→Nat
 | .seq a b=>1+max (sdep a) (sdep b)
 | _=>1
def gG (C:cL)(ay:Nat)(code:Code)(E:List (Nat×V))(h:H)(d:qA)(Q:Ex→List (Nat×V)→H→qA→Prop): Prop :=
 ∀env,jB env E→∃N0 ex I h' E' J,(∀N m,N0≤N→sdep code≤m→evTop C N m code ⟨env,ay,h⟩ d=some (ex,⟨I,ay,h'⟩,J))∧jB I E'∧Q ex E' h' J
section
variable {C:cL} {ay:Nat} {E:List (Nat×V)} {h:H} {d:qA} {Q:Ex→List (Nat×V)→H→qA→Prop}
def noDef : List Oper→Bool
 | []=>true
 | o::l=>(match o.op with
  | .defer _=>false
  | _=>true)&&noDef l
def noDefC : Code→Bool
 | .seq a b=>noDefC a&&noDefC b
 | .region _ ops false=>noDef ops.toList
 | _=>true
theorem evOpsD_of {self:Self}{L:List Oper}{d:qA}: ∀ {l:List Oper} {s s':St},noDef l=true→evOps C self L l s=some s'→evOpsD C self L l s d=some (s',d):=by
 intro l
 induction l with
 | nil=>intro s s' _ h; simp only [evOps,aq] at h; subst h; rfl
 | cons o l ih =>
  intro s s' I h
  simp only [noDef,aO] at I
  have key:(cond (wantedV L s.env o) (match evOp C self s.env s.h o with
    | some (v,h)=>match s.put o.dst v h with
     | some s'=>evOpsD C self L l s' d
     | none=>none
    | none=>none) (match s.put o.dst bV s.h with
    | some s'=>evOpsD C self L l s' d
    | none=>none))=some (s',d):=by
   simp only [evOps] at h
   cases hw:wantedV L s.env o with
   | true =>
    rw [hw,ag] at h
    rw [ag]
    cases ho:evOp C self s.env s.h o with
    | none=>rw [ho] at h; cases h
    | some r =>
     obtain ⟨v,h1⟩:=r
     rw [ho] at h
     simp only at h ⊢
     cases J:s.put o.dst v h1 with
     | none=>rw [J] at h; cases h
     | some s1=>rw [J] at h; exact ih I.2 h
   | false =>
    rw [hw,az] at h
    rw [az]
    cases J:s.put o.dst bV s.h with
    | none=>rw [J] at h; cases h
    | some s1=>rw [J] at h; exact ih I.2 h
  unfold evOpsD
  split
  ·rename_i cl iG
   rw [iG] at I
   cases I.1
  ·exact key
theorem R8 : ∀ {code:Code} {n:Nat} {s:St} {ex:Ex} {s':St} {d:qA},noDefC code=true→ev C n code s=some (ex,s')→∀N m,n≤N→sdep code≤m→evTop C N m code s d=some (ex,s',d):=by
 have leaf:∀ {code:Code} {n:Nat} {s:St} {ex:Ex} {s':St} {d:qA} {N m:Nat},(∀m,evTop C N (m+1) code s d=match CO C N code s with
   | some (ex,s')=>some (ex,s',d)
   | none=>none)→ev C n code s=some (ex,s')→n≤N→1≤m→evTop C N m code s d=some (ex,s',d):=fun {code n s ex s' d N m} he I J hm=>by
  obtain ⟨k,rfl⟩:∃k,m=k+1:=⟨m-1,by omega⟩
  rw [he,yP,fA J _ _ _ I]
 intro code
 induction code with
 | seq a b iha ihb =>
  intro n s ex s' d hn I N m J hm
  simp only [noDefC,aO] at hn
  simp only [sdep] at hm
  obtain ⟨k,rfl⟩:∃k,m=k+1:=⟨m-1,by omega⟩
  cases n with
  | zero=>cases I
  | succ n =>
   rw [jj] at I
   simp only [evStep] at I
   cases ha:ev C n a s with
   | none=>rw [ha] at I; cases I
   | some r =>
    obtain ⟨e1,s1⟩:=r
    have h1:=iha (d:=d) hn.1 ha N k (by omega) (by omega)
    simp only [evTop,h1]
    rw [ha] at I
    cases e1 with
    | normal=>exact ihb hn.2 I N k (by omega) (by omega)
    | exit i=>simp only [aq,aF] at I; obtain ⟨rfl,rfl⟩:=I; rfl
    | ret=>simp only [aq,aF] at I; obtain ⟨rfl,rfl⟩:=I; rfl
 | region id ops draw =>
  intro n s ex s' d hn I N m J hm
  cases draw with
  | true=>exact leaf (fun m=>rfl) I J hm
  | false =>
   obtain ⟨k,rfl⟩:∃k,m=k+1:=⟨m-1,by have:1≤m:=hm; omega⟩
   cases n with
   | zero=>cases I
   | succ n =>
    rw [jj] at I
    simp only [evStep,az] at I
    cases ho:evOps C (ev C n) ops.toList ops.toList s with
    | none=>rw [ho] at I; cases I
    | some s1 =>
     rw [ho] at I
     simp only [aq,aF] at I
     obtain ⟨rfl,rfl⟩:=I
     have h2:=p_ (fA (C:=C) (show n≤N by omega)) _ _ _ ho
     simp only [evTop,yP,evOpsD_of (d:=d) hn h2]
 | _=>intro n s ex s' d hn I N m J hm; exact leaf (fun m=>rfl) I J hm
theorem gG.of_wp {code:Code}(J:noDefC code=true)(hw:WP C ay code E h fun ex E' h'=>Q ex E' h' d): gG C ay code E h d Q:=by
 intro env hE
 obtain ⟨N,ex,I,h',E',h1,h2,h3⟩:=hw env hE
 exact ⟨N,ex,I,h',E',d,fun M m hM hm=>R8 J h1 M m hM hm,h2,h3⟩
theorem gG.seq {a b:Code}(hw:gG C ay a E h d fun ex E' h' J=>match ex with
  | .normal=>gG C ay b E' h' J Q
  | ex=>Q ex E' h' J): gG C ay (.seq a b) E h d Q:=by
 intro env hE
 obtain ⟨N,ex,I,h',E',J,h1,h2,h3⟩:=hw env hE
 have one:∀M m,N≤M→sdep (.seq a b)≤m+1→evTop C M m a ⟨env,ay,h⟩ d=some (ex,⟨I,ay,h'⟩,J):=fun M m hM hm=>h1 M m hM (by simp only [sdep] at hm; omega)
 have out:(match ex with | .normal=>False | _=>True)→Q ex E' h' J→∃N0 ex I h' E' J,(∀N m,N0≤N→sdep (.seq a b)≤m→evTop C N m (.seq a b) ⟨env,ay,h⟩ d=some (ex,⟨I,ay,h'⟩,J))∧jB I E'∧Q ex E' h' J:=fun hx hq=>by
  refine ⟨N,ex,I,h',E',J,fun M m hM hm => ?_,h2,hq⟩
  obtain ⟨k,rfl⟩:∃k,m=k+1:=⟨m-1,by simp only [sdep] at hm; omega⟩
  simp only [evTop,one M k hM hm]
  cases ex with
  | normal=>exact hx.elim
  | exit i=>rfl
  | ret=>rfl
 cases ex with
 | normal =>
  obtain ⟨K,og,MN,N4,E2,d2,g1,g2,g3⟩:=h3 I h2
  refine ⟨max N K,og,MN,N4,E2,d2,fun M m hM hm => ?_,g2,g3⟩
  obtain ⟨k,rfl⟩:∃k,m=k+1:=⟨m-1,by simp only [sdep] at hm; omega⟩
  simp only [evTop,one M k (by omega) hm]
  exact g1 M k (by omega) (by simp only [sdep] at hm; omega)
 | exit i=>exact out aa h3
 | ret=>exact out aa h3
theorem gG.defer {id:Nat}{ops:Array Oper}{I J:Oper}{x1 y:Operand}{cl:Go.Call}{k g:Nat}{v:V}{first cap args:List V}(hL:ops.toList=[I,J])(g1:I.guard=none)(d1:I.dst=some k)(p1:I.op=.move x1)(hk:Nat.blt k ay=true)(hx:lookO E x1=some v)
 (g2:J.guard=none)(d2:J.dst=none)(p2:J.op=.defer cl)(hc:cl.callee=.value y)(hy:lookO ((k,v)::E) y=some (.fn (.func g) first cap))(ha:lookArgs ((k,v)::E) cl.args.toList=some args)
 (hq:Q .normal ((k,v)::E) h ((g,first++args,cap)::d)): gG C ay (.region id ops false) E h d Q:=by
 intro env hE
 have Lf:jB (env.set k (some v)) ((k,v)::E):=hE.set _ _
 refine ⟨0,.normal,env.set k (some v),h,(k,v)::E,(g,first++args,cap)::d,fun M m _ hm => ?_,Lf,hq⟩
 obtain ⟨j,rfl⟩:∃j,m=j+1:=⟨m-1,by have:1≤m:=hm; omega⟩
 have e1:evOpsD C (CO C M) [I,J] [I,J] ⟨env,ay,h⟩ d=some (⟨env.set k (some v),ay,h⟩,(g,first++args,cap)::d):=by
  have pY:wantedV [I,J] env I=true:=by simp [wantedV,g1]
  have Xl:evOp C (CO C M) env h I=some (v,h):=by simp only [evOp,p1,bP hE hx]; rfl
  have ME:St.put ⟨env,ay,h⟩ I.dst v h=some ⟨env.set k (some v),ay,h⟩:=by simp only [St.put,d1,hk,ag]
  rw [evOpsD]
  simp only [p1,pY,ag,Xl,ME]
  rw [evOpsD]
  simp only [p2,g2,d2,hc,mZ Lf ha,bP Lf hy,evOpsD]
 simp only [evTop,hL,e1]
theorem ID {f:FuncId}{fn:Func}{code:Code}{args:List V}{R:V→H→Prop}(hf:C.P.funcs[f]?=some fn)(hb:fn.body=some code)(hl:Nat.blt fn.ntmps args.length=false)(hdp:sdep code≤1000)
 (hw:gG C fn.ntmps code (argE args 0) h [] fun ex E' h' d'=>(match ex with | .exit _=>False | _=>True)∧∃J v,(∃N0,∀N,N0≤N→runDefs C N d' h'=some J)∧iI C.P E' J fn.results.toList=some v∧R v J):
  ∃v J,(∃N0,∀N,N0≤N→toldDefer C N f args h=some (v,J))∧R v J:=by
 obtain ⟨N0,ex,B8,h',E',d',h1,J,hx,h3,v,⟨N1,hr⟩,I,hR⟩:=hw _ (wq args)
 refine ⟨v,h3,⟨max N0 N1,fun N hN => ?_⟩,hR⟩
 have e1:=h1 N 1000 (by omega) hdp
 have e2:=hr N (by omega)
 have e3:nm C.P ⟨B8,fn.ntmps,h3⟩ fn.results.toList=some v:=by
  unfold iI at I
  cases hm:mapO (resE C.P E' h3) fn.results.toList with
  | none=>rw [hm] at I; cases I
  | some vs =>
   rw [hm] at I
   have yo:=AO (P:=C.P) (s:=⟨B8,fn.ntmps,h3⟩) J hm
   unfold nm
   rw [yo]
   exact I
 unfold toldDefer
 simp only [hf,hb,hl,az,e1]
 cases ex with
 | exit i=>exact hx.elim
 | normal=>simp only [e2,e3]
 | ret=>simp only [e2,e3]
theorem JY {g:FuncId}{fn:Func}{code:Code}{args:List V}{v:V}{J:H}(ht:C.told g=none)(hf:C.P.funcs[g]?=some fn)(hb:fn.body=some code)(hq:quietParts code=none)(hc:hG C g args h v J): ∃I,∀N,I≤N→runDefs C N [(g,args,[])] h=some J:=by
 obtain ⟨I,h0⟩:=hc
 refine ⟨I,fun N hN => ?_⟩
 have e:=pZ (fA (C:=C) hN) h0
 simp only [runDefs,ht,defCall,hf,hb,hq,bR,yP,e]
end
def IE (f:FuncId)(args:List V)(h:H)(r:V×H): Prop:=∃I,∀N,I≤N→toldDefer CB N f args h=some r
theorem Call.defer {told:cQ}{f:FuncId}{fn:Func}{args:List V}{h:H}{R:V→H→Prop}(ht:told f=some (kD Tryz.prog f (IE f)))(hf:Tryz.prog.funcs[f]?=some fn)(hb:fn.body.isSome=true)
 (hd:∃v I,(∃J,∀N,J≤N→toldDefer CB N f args h=some (v,I))∧R v I): Call ⟨Tryz.prog,told⟩ f args h R:=by
 obtain ⟨v,I,⟨J,h0⟩,hR⟩:=hd
 obtain ⟨r,e1,N1,h1⟩:=zZ (P:=Tryz.prog) (f:=f) (iP:=IE f) (args:=args) (h:=h) (r:=(v,I)) ⟨J,h0⟩ (fun c w vu hw=>IC (C:=CB) j3 ir (h0 J (aD _)) vu hw)
 have:r=(v,I):=by
  have a:=h0 (max J N1) (by omega)
  have b:=h1 (max J N1) (by omega)
  rw [a] at b
  exact (bk b).symm
 subst this
 exact ⟨v,I,hG.told ht hf hb e1,hR⟩
section
variable {P:Program} {h:H} {S:List au} {x y:V} {α:Type}
theorem Ve (s:Sat h S){t e:TypeId}{z:V}(hu:P.underlying t=some (.slice e))(hz:zeroT P e=some z)(hk:bH P e=some 1)(hl:z.cells.length=1)(hx:x.cells=[x])(hy:y.cells=[y])(I:storable x=true)(J:storable y=true):
  ∃v h',buildSliceV P h t 2 [(0,x),(1,y)]=some (v,h')∧Sat h' (.arr 1 v [x,y]::S):=by
 refine ⟨.sl h.next 0 2 (.exact 2),newRow h [x,y],?_,?_⟩
 ·obtain ⟨z0,sr⟩:∃z0,z.cells=[z0]:=by
   match hq:z.cells with
   | []=>rw [hq] at hl; cases hl
   | [z0]=>exact ⟨z0,rfl⟩
   | _::_::_=>rw [hq] at hl; simp at hl
  simp only [buildSliceV,hu,hk,hz,sr]
  rw [show (Nat.beq [z0].length 1&&Nat.ble (2*1) 65536&&Nat.ble 1 1)=true by rfl,ag]
  have e1:repeatL [z0] 2=[z0,z0]:=by simp [repeatL]
  simp only [fillV,e1,hx,hy,aS,bT]
  show cond ([x,y].all storable) (some (V.sl h.next 0 2 (Cap.exact 2),newRow h [x,y])) none=_
  simp only [fH,jh,I,J]
  rfl
 ·refine (s.new _).hO fun m r hm=>⟨by simp [I,J],.inr ⟨h.next,2,.exact 2,2,[],rfl,?_,rfl,rfl,rfl,rfl,aD _⟩⟩
  have hm:m h.next=some (.cells 2 [x,y] false):=hm
  rw [hm]; rfl
theorem Vf {f:V→α→au}{us:List V}{cs:List α}{i:Nat}{c:α}(J:∀v x,aW (f v x))(s:Sat h (each f us cs::S))(I:cs[i]?=some c): ∃u,us[i]?=some u∧Sat h (f u c::each f us cs::S):=by
 obtain ⟨a,b,q1,q2,q3⟩:=s.at (k:=0) rfl
 have hl:=ry q3
 have hi:=(List.getElem?_eq_some_iff.1 I).1
 have hu:us[i]?=some (us[i]'(by omega)):=bf _
 exact ⟨_,hu,(s.dup (aW.each J _ _)).hO fun a b h=>B3 h hu I⟩
theorem Vg {S:Prop}: cT (pu S) (cU .bw []):=fun _ _ _=>.inl ⟨fun _ h=>(by cases h),.inl ⟨.inl rfl,rfl⟩⟩
end
theorem DE {kd:Nat}: buildV Tryz.prog 48 [(0,.int .i64 (kd:Int))]=some (.agg (gT (kd:Int) 0 0 0 .bw .bw)):=by rw [Ez]; rfl
section
variable {told:cQ} {h:H} {S:List au} {X Y:au} {N B K M n g a p q r aH:Nat} {v x y rv op cv:V} {us:List V} {b l c R data:List Nat} {kd lk link extra aK:Nat} {cs:List (List Nat)} {ε ε':aI} {now:List (Int×List Nat)} {A:aI→au} {pg:aI→Int→List Nat}
theorem dX.done (hw:NW N now)(hd:∀m,pgA ε' m=match lookL m now with | some b=>cM b aK | none=>pgA ε m){i:Int}(I:dX (fR now ε i) kd link extra cs): dX (pgA ε' i) kd link extra cs:=by
 rw [hd]
 unfold fR at I
 cases J:lookL i now with
 | none=>rw [J] at I; exact I
 | some b =>
  rw [J] at I
  obtain ⟨k1,k2,_⟩:=nJ (n:=aK) I.len
  exact I.tail k2 k1
theorem iH.done {R M:List Nat}(hw:NW N now)(J:∀m,pgA ε' m=match lookL m now with | some b=>cM b aK | none=>pgA ε m)(I:iH n R M (fR now ε)): iH n R M (pgA ε'):=by
 obtain ⟨ex,h0⟩:=I.head
 obtain ⟨kd,lk,og,h1⟩:=I.marks
 exact ⟨⟨ex,h0.done hw J⟩,I.rl,⟨kd,lk,og,h1.done hw J⟩,I.ml,I.n1,I.n2,I.own,I.hi⟩
theorem F5 (hT:W told)(hB:B≤900)(I:EI N B ε)(hw:NW N now)(s:Sat h (GA g a p q r data aH now ε::S)):
  Call ⟨Tryz.prog,told⟩ 26 [.ptr g 0,.agg (gT (kd:Int) 0 0 0 .bw .bw)] h fun v h'=>∃(aK:Nat) (e:Int) (cl:Bool) (ε':aI),pM ε now kd 0 0 0 [] 0 aK e cl ε'∧v=.bj [.int .u64 (aK:Int),.int .i64 e] ∧
   Sat h' (fZ g a now cl::SA a p q r (cond cl .cu (.ptr g 0)) data aH ε'::S):=by
 have J:=I.cn
 have eZ:=I.el.size
 have hNm:=I.many
 have s:=bQ.1 s
 have s:Sat h (fZ g a now false::dV a p q r (.ptr g 0) data aH::eF r p q ε.1::b8 q p ε.2.1::aR p ε.2.2::S):=s
 have s:=(s.gA (φ:=True) aa).oF (k:=4)
 refine (U0 (qz:=0) (data:=[]) hT (s.ae [2,2,2,2,2,1,0]) Vg rfl I.ok (by omega) (fun e he=>eX (hw.good e he).1) (by have:=hw.len; omega) (fun n hn=>by have:=hw.keys n hn; omega) (by decide) (by decide) (by decide) (ew _) I.el.log (by omega)).mono ?_
 rintro v h ⟨aK,e,cl,ε',hr,rfl,s⟩
 have s:Sat h (fZ g a now cl::dV a p q r (cond cl .cu (.ptr g 0)) data aH::eF r p q ε'.1::b8 q p ε'.2.1::aR p ε'.2.2::pu True::S):=s
 have s2:Sat h (SA a p q r (cond cl .cu (.ptr g 0)) data aH ε'::fZ g a now cl::pu True::S):=bQ.2 (s.ae [1,1,1,1,0])
 exact ⟨aK,e,cl,ε',hr,rfl,(s2.ae [1]).del 2⟩
theorem PC (hT:W told)(hB:B≤900)(I:EI N B ε)(hw:NW N now){L:Nat}(hL:now.length≤L)(hN:N≤1024)(h1:1≤kd)(h2:kd≤7)(hd:vm K M ε)(hf:K+520*L+28≤M)(s:Sat h (GA g a p q r data aH now ε::S)):
  Call ⟨Tryz.prog,told⟩ 26 [.ptr g 0,.agg (gT (kd:Int) 0 0 0 .bw .bw)] h fun v h'=>∃(aK:Nat) (ε':aI),v=.bj [.int .u64 (aK:Int),.int .i64 0]∧EI N (B+2) ε'∧(∀m,pgA ε' m=match lookL m now with | some b=>cM b aK | none=>pgA ε m)∧vm (K+520*L+28) M ε' ∧
   Sat h' (fZ g a now true::SA a p q r .cu data aH ε'::S)∧pM ε now kd 0 0 0 [] 0 aK 0 true ε':=by
 refine (F5 hT hB I hw s).mono ?_
 rintro v h ⟨aK,e,cl,ε',hr,rfl,s⟩
 obtain ⟨rfl,rfl,J⟩:=hr.fits I (by omega) hw hL hN h1 h2 (by decide) hd hf
 rcases I.done (by omega) hw (by omega) (by omega) hr with ⟨iG,_⟩ | ⟨_,_,K5,kG⟩
 ·cases iG
 ·exact ⟨aK,ε',rfl,K5,kG,J,s,hr⟩
theorem R9 (J:W told)(hB:B≤900)(I:EI N B ε)(hw:NW N now)(hN:N≤1024)(h1:1≤kd)(h2:kd≤7)(hd:vm K M ε)(hf:K+520*N+28≤M)(s:Sat h (GA g a p q r data aH now ε::S)):
  Call ⟨Tryz.prog,told⟩ 26 [.ptr g 0,.agg (gT (kd:Int) 0 0 0 .bw .bw)] h fun v h'=>∃(aK:Nat) (ε':aI),v=.bj [.int .u64 (aK:Int),.int .i64 0]∧EI N (B+2) ε'∧(∀m,pgA ε' m=match lookL m now with | some b=>cM b aK | none=>pgA ε m)∧vm (K+520*N+28) M ε' ∧
   Sat h' (fZ g a now true::SA a p q r .cu data aH ε'::S)∧pM ε now kd 0 0 0 [] 0 aK 0 true ε':=PC J hB I hw hw.len hN h1 h2 hd hf s
noncomputable def mdL : Code:=dB [1,1,1,0,1,0,0] ((Tryz.f73.body).getD .skip)
theorem PD (hT:W told)(dZ:26+4*cs.length+tot cs≤512)(zW:us.length=cs.length): ∀(m i:Nat) (v:V) (b:List Nat) (h:H) (E:List (Nat×V)) (Q:Ex→List (Nat×V)→H→Prop),i+m=cs.length→dX b kd link extra (cs.take i) →
  Sat h (aZ v b::each (fun v c=>.cx v c) us cs::.arr 1 cv us::S)→Has E [(7,v),(22,cv),(23,.int .i64 (cs.length:Int)),(24,.int .i64 (i:Int))] →
  (∀v' b' E' h',dX b' kd link extra cs→Has E' [(7,v')]→Sat h' (aZ v' b'::each (fun v c=>.cx v c) us cs::.arr 1 cv us::S)→Q (.exit 0) E' h')→WP ⟨Tryz.prog,told⟩ 38 (.loop mdL) E h Q:=by
 intro m
 induction m with
 | zero =>
  intro i v b h E Q hi hp s hE hq
  refine WP.loop (WP.has hE (zg rfl (zh rfl (af rfl rfl aT) (by simp; omega) ?_)))
  exact zk 3 rfl (WP.exit (hq v b _ _ (by rw [show cs.take i=cs from dO (by omega)] at hp; exact hp) ⟨rfl,aa⟩ s))
 | succ m ih =>
  intro i v b h E Q hi hp s hE hq
  have I:cs[i]?=some (cs[i]'(by omega)):=bf _
  generalize (cs[i]'(by omega))=c at I
  obtain ⟨u,hu,s⟩:=Vf (fun _ _=>aW.cx _ _) (s.ae [1]) I
  dsimp only [aQ,bringA] at s
  obtain ⟨id,off,e1,e2⟩:=mc (P:=Tryz.prog) s (k:=3) (i:=i) (c:=u) rfl hu gn gR
  have Pj:=nK I
  have BH:=nL (cs:=cs) (i:=i+1)
  have hlen:(cs.take i).length=i:=by rw [dM]; omega
  have PE:cs.take (i+1)=cs.take i++[c]:=by rw [D8,I]; rfl
  refine WP.loop (WP.has hE (zg rfl (zt rfl (af rfl rfl aT) (by simp; omega) ?_)))
  refine zk 5 rfl (WP.block (zK 3 rfl (zo rfl (dr (r:=.ptr id off) rfl rfl e1) (zl rfl (e2 _ bJ) (zk 7 rfl ?_)))))
  have J:=U6 (told:=told) hT (s.ae [2,0]) (bg _ _) (dy _ _) hp (by rw [hlen]; omega)
  rw [hlen] at J
  refine zc rfl (J) ?_
  rintro r h ⟨u',b',rfl,pS,s⟩
  rw [←PE] at pS
  refine zk 4 rfl (zv (zr rfl (zb rfl (by exact br (aC (by omega) (by omega))) ?_)))
  refine zm rfl (zv ?_)
  exact ih (i+1) u' b' _ _ Q (by omega) pS (((s.ae [0,2,2]).del 4).del 3) ⟨rfl,rfl,rfl,rfl,aa⟩ hq
theorem Lh (hT:W told)(TG:kd≤255)(Xt:lk<4294967296)(I:26+4*cs.length+tot cs≤512)(J:us.length=cs.length)(s:Sat h (each (fun v c=>.cx v c) us cs::.arr 1 cv us::S)):
  Call ⟨Tryz.prog,told⟩ 73 [.int .i64 (kd:Int),.int .i64 (lk:Int),cv] h fun r h'=>∃b',dX b' kd lk 0 cs∧Sat h' (aZ r b'::S):=by
 refine Call.of_wp (hT.free _ rfl) Tryz.func73 rfl rfl (zK 7 rfl (zc rfl (RR (kd:=kd) hT s TG) ?_))
 rintro r h ⟨u,b,rfl,hb,s⟩
 refine zk 10 rfl (zc rfl (U5 (lk:=lk) (ex:=0) hT s (bg _ _) hb Xt (by decide)) ?_)
 rintro r h ⟨u2,b2,rfl,G5,s⟩
 refine zk 9 rfl (zo rfl (aU rfl rfl rfl (s.iB (n:=cs.length) (j:=3) rfl (by rw [J,c9]) (by decide) gn)) ?_)
 refine zk 2 rfl (WP.block ?_)
 refine PD hT I J cs.length 0 u2 b2 _ _ _ (by omega) G5 (s.ae [0,1,1]) ⟨rfl,rfl,rfl,rfl,aa⟩ (fun v' b' E' h' G8 hE s' => ?_)
 have s:=s'
 exact WP.has hE (zK 5 rfl (WP.ret ⟨aa,_,rfl,b',G8,((s.del 3).del 2).del 1⟩))
theorem MO (J:W told)(s:Sat h (X::S))(hX:cT X (cU v b))(hl:b.length=512)(hg:b7 b=false): Call ⟨Tryz.prog,told⟩ 140 [v] h fun r h'=>r=.bj [.bw,.int .i64 4]∧Sat h' (X::S):=by
 refine Call.of_wp (J.free _ rfl) Tryz.func140 rfl rfl (zK 8 rfl (zc rfl (uA J s hX (by omega)) ?_))
 rintro r h' ⟨s,(⟨I,rfl⟩ | ⟨_,rfl⟩)⟩
 ·rw [hg] at I; cases I
 refine zk 3 rfl ?_
 refine aA.b5 s rfl rfl rfl (bX j7) (fun p4 h s => ?_)
 refine zS rfl (s.eH (j:=0) rfl bL rfl rfl) (fun h s => ?_)
 refine zk 6 rfl (zt rfl (af rfl rfl aN) (by decide) ?_)
 exact zk 8 rfl (WP.ret ⟨aa,_,rfl,rfl,s.drop⟩)
theorem PF (hT:W told)(hR:uP told N B rv A pg)(J:EI N B ε)(hN:1≤N)(hl:(pg ε 0).length=512)(hg:b7 (pg ε 0)=false)(s:Sat h (A ε::S)):
  Call ⟨Tryz.prog,told⟩ 91 [rv] h fun v h'=>∃ε',v=.bj [.bw,.int .i64 0,.bool false,.int .i64 0]∧EI N B ε'∧Sm N ε ε'∧Sat h' (A ε'::S):=by
 obtain ⟨ty,u,f,rfl,hm,jq⟩:=hR.iface
 refine Call.of_wp (hT.free _ rfl) Tryz.func91 rfl rfl (zK 10 rfl (aA.any rfl rfl rfl (OpR.invoke rfl rfl rfl hm rfl (jq J (by decide) (by omega) s)) ?_))
 rintro v h ⟨u,ε',rfl,I,hs,s⟩
 refine zk 10 rfl (zh rfl (af rfl rfl aN) (rfl) (zk 6 rfl (zc rfl (MO hT s (bg _ _) hl hg) ?_)))
 rintro v h ⟨rfl,s⟩
 refine zk 8 rfl (WP.drawn [ai,ai,ai,ai,ai,ai,ai,ai,some (0,2),some (0,2),some (0,2),ai,ai,ai,ai,ai,ai,ai,ai,ai,ai,ai] rfl (by kernel_rfl) (by kernel_rfl) ?_)
 refine zM rfl (aB.y5 rfl rfl rfl rfl (af rfl rfl aN) (by decide) ?_)
 refine zM rfl (aB.no (e:=false) rfl rfl rfl rfl (aB.no (e:=false) rfl rfl rfl rfl (aB.no (e:=false) rfl rfl rfl rfl (zO rfl (qW rfl rfl) (zM rfl (aB.no (e:=false) rfl rfl rfl rfl (aB.no (e:=false) rfl rfl rfl rfl (aB.no (e:=false) rfl rfl rfl rfl (aB.no (e:=true) rfl rfl rfl rfl (aB.no (e:=true) rfl rfl rfl rfl (aB.no (e:=false) rfl rfl rfl rfl (zO rfl (qW rfl rfl) (zM rfl (aB.no (e:=false) rfl rfl rfl rfl (aB.no (e:=false) rfl rfl rfl rfl (aB.no (e:=false) rfl rfl rfl rfl (aB.no (e:=false) rfl rfl rfl rfl (aB.no (e:=false) rfl rfl rfl rfl (zO rfl (qW rfl rfl) ?_)))))))))))))))))))
 refine aB.nil ⟨⟨aa,aa,aa,aa,aa,aa,aa,aa,fun _ _=>.inl rfl,fun _ _=>.inl rfl,fun _ _=>.inl rfl,aa,aa,aa,aa,aa,aa,aa,aa,aa,aa,aa,aa⟩,?_⟩
 exact zK 8 rfl (WP.ret ⟨aa,_,rfl,ε',rfl,I,hs,s.drop⟩)
theorem yu (hT:W told)(hR:uP told N B rv A pg)(J:EI N B ε)(hN:1≤N)(hl:(pg ε 0).length=512)(hg:b7 (pg ε 0)=false)(s:Sat h (A ε::S)):
  Call ⟨Tryz.prog,told⟩ 37 [rv] h fun v h'=>∃ε',v=.bj [.bool false,.int .i64 0]∧EI N B ε'∧Sm N ε ε'∧Sat h' (A ε'::S):=by
 refine Call.of_wp (hT.free _ rfl) Tryz.func37 rfl rfl (zK 8 rfl (zc rfl (PF hT hR J hN hl hg s) ?_))
 rintro v h ⟨ε',rfl,I,hs,s⟩
 exact zk 17 rfl (WP.ret ⟨aa,_,rfl,ε',rfl,I,hs,s⟩)
end
end Go.Proofs.YtefepnnfphdkpaaGreat.Am
