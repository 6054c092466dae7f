/- SpacePlays: a part of its proof; conditions: its statement's. -/
import Derived.Test.YtefepnnfphdkpaaGreatE12
import Derived.Defers
import Derived.Recover
import Derived.Test.YtefepnnfphdkpaaGreatE33
namespace Go.Proofs.YtefepnnfphdkpaaGreat.Am
open Go
abbrev pG := List (Nat×List V×List V)
noncomputable def mK (P:Program)(s:St)(rs:List ResultVar): Option V:=match mapO (resV P s) rs with
 | some [v]=>some v
 | some I=>some (.aY I)
 | none=>none
noncomputable def evOpsD (C:cB)(self:Self)(L:List Oper): List Oper→St→pG→Option (St×pG)
 | [],s,d=>some (s,d)
 | o::rest,s,d=>match o.op with
  | .defer cl=>match o.guard,o.dst,cl.callee,evArgs s.env cl.args.toList with
   | none,none,.value x,some args=>match evO s.env x with
    | some (.fn (.func g) first cap)=>evOpsD C self L rest s ((g,first++args,cap)::d)
    | _=>none
   | _,_,_,_=>none
  | _=>cond (wantedV L s.env o)
   (match evOp C self s.env s.h o with
    | some (v,h)=>match s.put o.dst v h with
     | some s'=>evOpsD C self L rest s' d
     | none=>none
    | none=>none)
   (match s.put o.dst bK s.h with
    | some s'=>evOpsD C self L rest s' d
    | none=>none)
noncomputable def evTop (C:cB)(n:Nat): Nat→Code→St→pG→Option (Ex×St×pG)
 | 0,_,_,_=>none
 | m+1,c,s,d=>match c with
  | .seq a b=>match evTop C n m a s d with
   | some (.normal,s',I)=>evTop C n m b s' I
   | r=>r
  | .region _ ops false=>match evOpsD C (Bo C n) ops.toList ops.toList s d with
   | some (s',I)=>some (.normal,s',I)
   | none=>none
  | c=>match Bo C n c s with
   | some (ex,s')=>some (ex,s',d)
   | none=>none
def quietParts : Code→Option (Nat×Nat×Code)
 | .seq (.region _ ops false) rest=>match ops.toList with
  | [I,J]=>match I.op,I.guard,I.dst,J.op,J.guard,J.dst with
   | .call cl,none,some tG,.assign (.tmp t),none,some Da=>match cl.callee,cl.args.toList with
    | .builtin .recover,[]=>cond (Nat.beq t tG) (some (tG,Da,rest)) none
    | _,_=>none
   | _,_,_,_,_,_=>none
  | _=>none
 | _=>none
noncomputable def defCall (C : cB) (n : Nat) (g : Nat) (args : List V) (h : H) : Option H := match C.P.funcs[g]? with
 | none => none
 | some fn => match fn.body with
  | none => none
  | some code => match quietParts code with
   | some (I, J, rest) => cond (Nat.blt I fn.ntmps && Nat.blt J fn.ntmps && Nat.ble args.length fn.ntmps && !(fn.name == "runtime.NumGoroutine"))
    (match Bo C n rest ⟨((bindArgs args 0 .lf).set I (some .nu)).set J (some .nu), fn.ntmps, h⟩ with
     | some (.normal, s) | some (.ret, s) => match mK C.P s fn.results.toList with
      | some _ => some s.h
      | none => none
     | _ => none) none
   | none => match callF C (Bo C n) g args h with
    | some (_, h') => some h'
    | none => none
noncomputable def runDefs (C:cB)(n:Nat): pG→H→Option H
 | [],h=>some h
 | (g,args,cap)::d,h=>match C.told g with
  | some _=>none
  | none=>match defCall C n g (args++cap) h with
   | some h'=>runDefs C n d h'
   | none=>none
noncomputable def toldDefer (C:cB)(n f:Nat)(args:List V)(h:H): Option (V×H):=match C.P.funcs[f]? with
 | none=>none
 | some fn=>match fn.body with
  | none=>none
  | some c=>cond (Nat.blt fn.ntmps args.length) none (match evTop C n 1000 c ⟨bindArgs args 0 .lf,fn.ntmps,h⟩ [] with
   | some (.exit _,_,_)=>none
   | some (_,s,d)=>match runDefs C n d s.h with
    | some h'=>match mK C.P ⟨s.env,s.ax,h'⟩ fn.results.toList with
     | some v=>some (v,h')
     | none=>none
    | none=>none
   | none=>none)
section
variable {C:cB} {self:Self} {c:Ctx} {σ:H} {w:World}
theorem A0 {s:St}{a:Act}{P:Program}{fn:Func}{v:V}(h:Rel c s.h w)(he:dy c s.env s.ax a)(I:mK P s fn.results.toList=some v):
  (results fn a.tmps).run P w=.ok (conc c v) w∧wf c v:=by
 unfold mK at I
 cases J:mapO (resV P s) fn.results.toList with
 | none=>simp [J] at I
 | some vs =>
  obtain ⟨q1,q2⟩:=vN h he J
  rw [J] at I
  rw [q1]
  rcases vs with _ | ⟨v0,_ | ⟨v1,vs⟩⟩
  ·simp only [ak] at I
   subst I
   exact ⟨by simp [conc,concL],by simp [wf,eW]⟩
  ·simp only [ak] at I
   subst I
   exact ⟨by simp,q2 v0 (by simp)⟩
  ·simp only [ak] at I
   subst I
   exact ⟨by simp [conc,fL],by simp only [wf,fR]; exact q2⟩
structure qu (c:Ctx)(d:pG)(ds:List Deferred): Prop where
 eq:ds=d.map fun x=>{ target:=.fn (.func x.1) (x.2.2.map (conc c)).toArray,args:=(x.2.1.map (conc c)).toArray }
 D6:∀x∈d,(∀v∈x.2.1,wf c v)∧∀v∈x.2.2,wf c v
theorem qu.ext {c':Ctx}{d:pG}{ds:List Deferred}(h:qu c d ds)(e:Ext c c'): qu c' d ds where
 eq:=by
  rw [h.eq]
  refine nZ fun x I => ?_
  rw [(mM e (h.D6 x I).1).1,(mM e (h.D6 x I).2).1]
 D6:=fun x I=>⟨(mM e (h.D6 x I).1).2,(mM e (h.D6 x I).2).2⟩
theorem MZ {env:Env}{n:Nat}{a:Act}(he:dy c env n a): ∀(l:List Operand) (I:List V),evArgs env l=some I→l.map a.eval=I.map (conc c)∧∀v∈I,wf c v:=by
 intro l
 induction l with
 | nil=>intro I h; simp [evArgs] at h; subst h; simp
 | cons x l ih =>
  intro I h
  simp only [evArgs] at h
  cases J:evO env x with
  | none=>simp [J] at h
  | some v =>
   cases h2:evArgs env l with
   | none=>simp [J,h2] at h
   | some m =>
    simp [J,h2] at h
    subst h
    obtain ⟨i1,i2⟩:=ih m h2
    obtain ⟨e1,e2⟩:=w6 he J
    refine ⟨by simp [e1,i1],fun y hy => ?_⟩
    rcases List.mem_cons.1 hy with rfl | hy
    ·exact e2
    ·exact i2 y hy
theorem M3 (hS:ik C.P self)(hT:fo C){ops:Array Oper}{Q:Exit→Act→World→Prop}: ∀(l:List Oper) (k:Nat) (s s':St) (d d':pG) (c:Ctx) (a:Act) (w:World),
  (∀j,l[j]?=ops[k+j]?)→evOpsD C self ops.toList l s d=some (s',d')→Rel c s.h w→dy c s.env s.ax a→qu c d a.defers →
  (∀c' a' w',Rel c' s'.h w'→dy c' s'.env s'.ax a'→cF c w c' w'→qu c' d' a'.defers→Q .normal a' w') →
  wpOpsIn (Fr none) 0 C.P ops Q (List.range' k l.length) a w:=by
 intro l
 induction l with
 | nil =>
  intro k s s' d d' c a w _ I h he hd hQ
  simp only [evOpsD,ak,aC] at I
  obtain ⟨rfl,rfl⟩:=I
  simp only [bM,Cm,wpOpsIn]
  exact hQ c a w h he (cF.refl c w) hd
 | cons o l ih =>
  intro k s s' d d' c a w hl I h he hd hQ
  have h0:ops[k]?=some o:=by simpa using (hl 0).symm
  have vf:∀j,l[j]?=ops[k+1+j]?:=fun j=>by have:=hl (j+1); simpa [jf,uV 1 j] using this
  simp only [aH,yN,wpOpsIn,h0]
  rw [vQ he]
  have common:(cond (wantedV ops.toList s.env o)
    (match evOp C self s.env s.h o with
     | some (v,h)=>match s.put o.dst v h with
      | some s'=>evOpsD C self ops.toList l s' d
      | none=>none
     | none=>none)
    (match s.put o.dst bK s.h with
     | some s'=>evOpsD C self ops.toList l s' d
     | none=>none))=some (s',d') →
    (if wantedV ops.toList s.env o=true then o.wpIn (Fr none) 0 C.P a w (wpOpsIn (Fr none) 0 C.P ops Q (List.range' (k+1) l.length)) Q else (∀f,o.about C.P w a.eval=some f→(Fr none).fn f)∧wpOpsIn (Fr none) 0 C.P ops Q (List.range' (k+1) l.length) (a.put o.dst undef) w):=by
   intro I
   cases hw:wantedV ops.toList s.env o with
   | true =>
    rw [hw,ag] at I
    simp only [bE]
    cases ho:evOp C self s.env s.h o with
    | none=>simp [ho] at I
    | some r =>
     obtain ⟨v,eL⟩:=r
     simp only [ho] at I
     cases hp:s.put o.dst v eL with
     | none=>simp [hp] at I
     | some J =>
      simp only [hp] at I
      refine (ve hS hT h (he.EY o) ho).wpIn (lz ho) ?_
      intro c' w' r1 r2 r3
      obtain ⟨p1,p2,p3⟩:=St.u5 (he.ext r2.ext) r3 hp
      refine ih (k+1) J s' d d' c' _ w' vf I (by rw [p2]; exact r1) p1 (by rw [put_defers]; exact hd.ext r2.ext) ?_
      intro lZ sL sM q1 q2 q3 q4
      exact hQ lZ sL sM q1 q2 (r2.trans q3) q4
   | false =>
    rw [hw,ay] at I
    simp only [dW,bG]
    refine ⟨fun _ _=>trivial,?_⟩
    cases hp:s.put o.dst bK s.h with
    | none=>simp [hp] at I
    | some J =>
     simp only [hp] at I
     obtain ⟨p1,p2,p3⟩:=St.u5 he (show wf c bK by simp [bK,wf,eW]) hp
     rw [ng] at p1
     refine ih (k+1) J s' d d' c _ w vf I (by rw [p2]; exact h) p1 (by rw [put_defers]; exact hd) ?_
     intro lZ sL sM q1 q2 q3 q4
     exact hQ lZ sL sM q1 q2 q3 q4
  unfold evOpsD at I
  split at I
  ·rename_i cl kQ
   split at I
   ·rename_i x args hg ND SE EB
    split at I
    ·rename_i g first cap Xk
     have Wn:wantedV ops.toList s.env o=true:=by simp [wantedV,hg]
     simp only [Wn,bE]
     obtain ⟨e1,e2⟩:=MZ he _ _ EB
     obtain ⟨f1,f2⟩:=w6 he Xk
     have fw:(∀x∈first,wf c x)∧(∀x∈cap,wf c x):=by
      have:eW c first∧eW c cap:=by simpa [wf] using f2
      exact ⟨fR.1 this.1,fR.1 this.2⟩
     have xj:(execOp a.eval o).run C.P w=.ok (.defer { target:=.fn (.func g) (cap.map (conc c)).toArray,args:=((first++args).map (conc c)).toArray }) w:=by
      have h1:cl.args.map a.eval=(args.map (conc c)).toArray:=by
       apply iL
       simpa using e1
      have h2:a.eval x=.func (.func g) (first.map (conc c)).toArray (cap.map (conc c)).toArray:=by rw [f1]; simp [conc,fL]
      simp [execOp,kQ,resolve,SE,h2,Deferred.ofValue,h1]
     refine ⟨fun _ _=>trivial,?_⟩
     rw [show (Fr none).round=none from rfl,Oper.semAt_none,xj]
     simp only [Oper.uponIn,ND,Act.put]
     refine ih (k+1) s s' ((g,first++args,cap)::d) d' c _ w vf I h ⟨he.size,he.val,he.A2⟩ ⟨by simp [hd.eq],fun x hx => ?_⟩ ?_
     ·rcases List.mem_cons.1 hx with rfl | hx
      ·exact ⟨fun v hv=>by
        rcases List.mem_append.1 hv with hv | hv
        ·exact fw.1 v hv
        ·exact e2 v hv,fw.2⟩
      ·exact hd.D6 x hx
     ·intro lZ sL sM q1 q2 q3 q4
      exact hQ lZ sL sM q1 q2 q3 q4
    ·cases I
   ·cases I
  ·exact common I
theorem Pr (hm:C.P.follows .mixedOrders=true)(hT:fo C){n:Nat}: ∀(m:Nat) (code:Code) (s:St) (d:pG) (ex:Ex) (s':St) (d':pG),evTop C n m code s d=some (ex,s',d') →
  ∀(c:Ctx) (a:Act) (w:World),Rel c s.h w→dy c s.env s.ax a→qu c d a.defers →
   code.wp C.P (fun e a' w'=>e=exOf ex∧∃c',Rel c' s'.h w'∧dy c' s'.env s'.ax a'∧cF c w c' w'∧qu c' d' a'.defers) a w:=by
 have hS:=(Bk (C:=C) hm hT n).1
 intro m
 induction m with
 | zero=>intro code s d ex s' d' h; simp [evTop] at h
 | succ m ih =>
  intro code s d ex s' d' I c a w h he hd
  have rest:(match ev C n code s with
    | some (ex,s')=>some (ex,s',d)
    | none=>none)=some (ex,s',d')→code.wp C.P (fun e a' w'=>e=exOf ex∧∃c',Rel c' s'.h w'∧dy c' s'.env s'.ax a'∧cF c w c' w'∧qu c' d' a'.defers) a w:=by
   intro I
   cases kx:ev C n code s with
   | none=>rw [kx] at I; cases I
   | some r =>
    obtain ⟨Bi,J⟩:=r
    rw [kx] at I
    simp only [ak,aC] at I
    obtain ⟨rfl,rfl,rfl⟩:=I
    refine Code.wp_mono ?_ (hS _ _ _ _ kx c a w h he)
    rintro e a' w' ⟨rfl,q2,c',q3,q4,q5⟩
    exact ⟨rfl,c',q3,q4,q5,by rw [q2]; exact hd.ext q5.ext⟩
  unfold evTop at I
  rw [xw] at I
  split at I
  ·rename_i x y
   cases hx:evTop C n m x s d with
   | none=>rw [hx] at I; cases I
   | some r =>
    obtain ⟨Bi,J,tG⟩:=r
    rw [hx] at I
    refine wp_seq (Code.wp_mono ?_ (ih x s d Bi J tG hx c a w h he hd))
    rintro e Ef ur ⟨rfl,c₁,q3,q4,q5,q6⟩
    cases Bi with
    | normal =>
     refine Code.wp_mono ?_ (ih y J tG ex s' d' I c₁ Ef ur q3 q4 q6)
     rintro e X2 X3 ⟨rfl,c₂,p3,p4,p5,p6⟩
     exact ⟨rfl,c₂,p3,p4,q5.trans p5,p6⟩
    | exit i =>
     simp only [ak,aC] at I
     obtain ⟨rfl,rfl,rfl⟩:=I
     exact ⟨rfl,c₁,q3,q4,q5,q6⟩
    | ret =>
     simp only [ak,aC] at I
     obtain ⟨rfl,rfl,rfl⟩:=I
     exact ⟨rfl,c₁,q3,q4,q5,q6⟩
  ·rename_i id ops
   cases hx:evOpsD C (ev C n) ops.toList ops.toList s d with
   | none=>rw [hx] at I; cases I
   | some r =>
    obtain ⟨J,tG⟩:=r
    rw [hx] at I
    simp only [ak,aC] at I
    obtain ⟨rfl,rfl,rfl⟩:=I
    refine wpIn_wide.1 (show (Code.region id ops false).wpIn (Fr none) 0 C.P _ a w from wpIn_region ?_)
    rw [Cc,←yI]
    exact M3 (Bj (C:=C) hm hT n).1 hT ops.toList 0 s J d tG c a w (fun j=>by rw [dY,iG]) hx h he hd fun c' a' w' r1 r2 r3 r4=>⟨rfl,c',r1,r2,r3,r4⟩
  ·exact rest I
theorem Ps (hm : C.P.follows .mixedOrders = true) (hT : fo C) {n g : Nat} {args : List V} {v : V} {I : H} (hg : C.told g = none) (J : callF C (ev C n) g args σ = some (v, I)) (h : Rel c σ w) (hw : ∀ x ∈ args, wf c x) :
  CallsD C.P g (args.map (conc c)).toArray .returning w (fun e u' w' => u' = .returning ∧ (∃ x, e = .returned x) ∧ ∃ c', Rel c' I w' ∧ cF c w c' w') ∧ ∀ (x : Array Value) (w : World), (callFunc g x).run C.P w = .ok (.enter g x) w := by
 have hS := (Bk (C := C) hm hT n).1
 have hen := (sI hS hT J h hw).2
 refine ⟨?_, hen⟩
 unfold callF at J
 rw [hg] at J
 simp only at J
 cases hf : C.P.funcs[g]? with
 | none => simp [hf] at J
 | some fn =>
  simp only [hf] at J
  cases hb : fn.body with
  | none => simp [hb] at J
  | some code =>
   simp only [hb] at J
   cases hq : (fn.name == "runtime.NumGoroutine" || Nat.blt fn.ntmps args.length) with
   | true => simp [hq] at J
   | false =>
    simp only [hq, ay] at J
    simp only [Bool.or_eq_false_iff] at hq
    have hle : args.length ≤ fn.ntmps := by
     rcases j8 fn.ntmps args.length with h' | h'
     ·rw [gB.2 h'] at hq; cases hq.2
     ·exact h'
    have sJ := mR (c := c) hle hw
    have done : ∀ ex s, ev C n code ⟨bindArgs args 0 .lf, fn.ntmps, σ⟩ = some (ex, s) → (ex = .normal ∨ ex = .ret) →
      (match mapO (resV C.P s) fn.results.toList with
       | some [v] => some (v, s.h)
       | some vs => some (.aY vs, s.h)
       | none => none) = some (v, I) →
      CallsD C.P g (args.map (conc c)).toArray .returning w (fun e u' w' => u' = .returning ∧ (∃ x, e = .returned x) ∧ ∃ c', Rel c' I w' ∧ cF c w c' w') := by
     intro ex s hs hex M4
     have KY := hS code _ ex s hs c _ w h sJ
     have Dn : mK C.P s fn.results.toList = some v ∧ s.h = I := by
      unfold mK
      cases H8 : mapO (resV C.P s) fn.results.toList with
      | none => rw [H8] at M4; cases M4
      | some vs =>
       rw [H8] at M4
       rcases vs with _ | ⟨v0, _ | ⟨v1, vs⟩⟩ <;> simp only [ak, aC] at M4 ⊢ <;> exact M4
     have Iq := callsD_of_wp (u := .returning) (R := fun e w' => (∃ x, e = .returned x) ∧ ∃ c', Rel c' I w' ∧ cF c w c' w') hf hb (Code.wp_mono (Q' := bodyPost C.P fn fun e w' => (∃ x, e = .returned x) ∧ ∃ c', Rel c' I w' ∧ cF c w c' w') ?_ KY)
     ·exact Iq.mono fun e u' w' ⟨h1, h2⟩ => ⟨h1, h2⟩
     ·rintro e a' w' ⟨rfl, hd, c', r1, r2, r3⟩
      have tN : a'.defers = [] ∧ ∃ x, (results fn a'.tmps).run C.P w' = .ok x w' ∧ (∃ y, Ending.returned x = .returned y) ∧ ∃ c', Rel c' I w' ∧ cF c w c' w' :=
       ⟨hd, _, (A0 r1 r2 Dn.1).1, ⟨_, rfl⟩, c', by rw [← Dn.2]; exact r1, r3⟩
      rcases hex with rfl | rfl
      ·simpa [bodyPost, exOf] using tN
      ·simpa [bodyPost, exOf] using tN
    split at J
    ·rename_i s hs
     exact done .normal s hs (.inl rfl) J
    ·rename_i s hs
     exact done .ret s hs (.inr rfl) J
    ·simp at J
theorem Em {P:Program}{o:Oper}{ρ:Operand→Value}{cl:Go.Call}(ho:o.op=.call cl)(J:cl.callee=.builtin .recover)(ha:cl.args.toList=[])(w:World): (execOp ρ o).run P w=.ok .recover w:=by
 have I:cl.args = #[]:=by apply iL; simpa using ha
 simp [execOp,ho,resolve,J,I,invoke,builtin]
theorem D7 (hm:C.P.follows .mixedOrders=true)(hT:fo C){n g tG Da:Nat}{fn:Func}{code rest:Code}{args:List V}{ex:Ex}{I:St}{v:V}(hf:C.P.funcs[g]?=some fn)(hb:fn.body=some code)
 (J:quietParts code=some (tG,Da,rest))(h1:tG<fn.ntmps)(h2:Da<fn.ntmps)(hle:args.length≤fn.ntmps)
 (Z0:ev C n rest ⟨((bindArgs args 0 .lf).set tG (some .nu)).set Da (some .nu),fn.ntmps,σ⟩=some (ex,I))(hex:ex=.normal∨ex=.ret)(Dn:mK C.P I fn.results.toList=some v)
 (h:Rel c σ w)(hw:∀x∈args,wf c x):
  CallsD C.P g (args.map (conc c)).toArray .returning w (fun e u' w'=>u'=.returning∧(∃x,e=.returned x)∧∃c',Rel c' I.h w'∧cF c w c' w'):=by
 have hS:=(Bk (C:=C) hm hT n).1
 unfold quietParts at J
 split at J
 ·rename_i id ops Qn
  split at J
  ·rename_i Q1 Nu YL
   split at J
   ·rename_i cl aab t aac q6 q2 q4 q9 q3 q5
    split at J
    ·rename_i q7 q8
     cases ht:Nat.beq t aab with
     | false=>rw [ht] at J; cases J
     | true =>
      rw [ht,ag] at J
      simp only [ak,aC] at J
      obtain ⟨rfl,rfl,rfl⟩:=J
      have:=beq_iff.1 ht
      subst this
      have Wo:ops = #[Q1,Nu]:=by apply iL; simpa using YL
      subst Wo
      refine callsD_of_wpS hf hb fun c₀ cs hu=>(wpS_seq ?_)
      have S7:=mR (c:=c) hle hw
      generalize hA:({ tmps:=(args.map (conc c)).toArray++Array.replicate (fn.ntmps-(args.map (conc c)).toArray.size) undef,defers:=[] }:Act)=A at S7 ⊢
      have hAd:A.defers=[]:=by rw [←hA]
      have Jj:=(S7.put (d:=t) (v:=.nu) h1 (by simp [wf])).put (d:=aac) (v:=.nu) h2 (by simp [wf])
      have xj:=hS _ _ _ _ Z0 c _ w h Jj
      rw [show conc c .nu=.nilIface from by simp [conc]] at xj
      have YM:recoverD (c₀::cs)=none:=by simp [recoverD,hu]
      have h5:(A.put (some t) .nilIface).eval (.tmp t)=.nilIface:=by
       have:=(S7.put (d:=t) (v:=.nu) h1 (by simp [wf])).val t
       rw [show conc c .nu=.nilIface from by simp [conc]] at this
       rw [show Act.eval (A.put (some t) .nilIface) (.tmp t)=(A.put (some t) .nilIface).tmps.getD t undef from rfl,this]
       simp [Env.v,aP,conc]
      refine wpS_region ?_
      rw [show List.range (#[Q1,Nu]:Array Oper).size=[0,1] from rfl]
      simp only [wpOpsS,m6,nY,kW,Region.wanted,q2,q3,bE]
      rw [Em q6 q7 q8]
      simp only [YM,q4]
      have YN:(execOp (A.put (some t) .nilIface).eval Nu).run C.P w=.ok (.value .nilIface) w:=by simp [execOp,q9,h5]
      rw [YN]
      simp only [Oper.upon,q5,Exit.thenS]
      refine wpS_of_wp (Code.wp_mono ?_ xj)
      rintro e a' w' ⟨rfl,dd,c',r1,e2,p1⟩
      have tN:a'.defers=[]∧∃u',c₀::cs={ c₀ with mode:=u' }::cs∧∃v,(results fn a'.tmps).run C.P w'=.ok v w'∧(u'=.returning∧(∃x,Ending.returned v=.returned x)∧∃c',Rel c' I.h w'∧cF c w c' w') :=
       ⟨dd.trans hAd,.returning,by rw [←hu],_,(A0 r1 e2 Dn).1,rfl,⟨_,rfl⟩,c',r1,p1⟩
      rcases hex with rfl | rfl
      ·exact tN
      ·exact tN
    ·cases J
   ·cases J
  ·cases J
 ·cases J
theorem Kw (hm : C.P.follows .mixedOrders = true) (hT : fo C) {n g : Nat} {args : List V} {eL : H} (hg : C.told g = none) (I : defCall C n g args σ = some eL) (h : Rel c σ w) (hw : ∀ x ∈ args, wf c x) :
  CallsD C.P g (args.map (conc c)).toArray .returning w (fun e u' w' => u' = .returning ∧ (∃ x, e = .returned x) ∧ ∃ c', Rel c' eL w' ∧ cF c w c' w') ∧ ∀ (x : Array Value) (w : World), (callFunc g x).run C.P w = .ok (.enter g x) w := by
 unfold defCall at I
 rw [xw] at I
 cases hf : C.P.funcs[g]? with
 | none => simp [hf] at I
 | some fn =>
  simp only [hf] at I
  cases hb : fn.body with
  | none => simp [hb] at I
  | some code =>
   simp only [hb] at I
   split at I
   ·rename_i tG Da rest hq
    cases hc : (Nat.blt tG fn.ntmps && Nat.blt Da fn.ntmps && Nat.ble args.length fn.ntmps && !(fn.name == "runtime.NumGoroutine")) with
    | false => rw [hc] at I; cases I
    | true =>
     rw [hc, ag] at I
     simp only [aJ, gB, aF, uN] at hc
     obtain ⟨⟨⟨c1, c2⟩, c3⟩, c4⟩ := hc
     refine ⟨?_, fun x w => by simp only [callFunc, Sem.run_bind, run_program, Result.andThen_ok, hf, c4, dW, bG, hb, Option.isNone_some, Sem.run_pure]⟩
     split at I
     ·rename_i s hs
      cases J : mK C.P s fn.results.toList with
      | none => rw [J] at I; cases I
      | some v =>
       rw [J] at I
       simp only [ak] at I
       subst I
       exact D7 hm hT hf hb hq c1 c2 c3 hs (.inl rfl) J h hw
     ·rename_i s hs
      cases J : mK C.P s fn.results.toList with
      | none => rw [J] at I; cases I
      | some v =>
       rw [J] at I
       simp only [ak] at I
       subst I
       exact D7 hm hT hf hb hq c1 c2 c3 hs (.inr rfl) J h hw
     ·cases I
   ·cases hc : callF C (ev C n) g args σ with
    | none => rw [hc] at I; cases I
    | some r =>
     obtain ⟨u, h₁⟩ := r
     rw [hc] at I
     simp only [ak] at I
     subst I
     exact Ps hm hT hg hc h hw
theorem M5 (hm:C.P.follows .mixedOrders=true)(hT:fo C){n:Nat}{fn:Func}{s:St}{v:V}{h':H}{c₀:Ctx}{w₀:World}(Dn:mK C.P ⟨s.env,s.ax,h'⟩ fn.results.toList=some v):
  ∀(d:pG) (h:H) (c:Ctx) (a:Act) (ds:List Deferred) (w:World),runDefs C n d h=some h'→Rel c h w→dy c s.env s.ax a→qu c d ds→cF c₀ w₀ c w →
   Leaves C.P fn a.tmps (fun e w'=>∃c',e=.returned (conc c' v)∧wf c' v∧Rel c' h' w'∧cF c₀ w₀ c' w') ds .returning w:=by
 intro d
 induction d with
 | nil =>
  intro h c a ds w J I he hd hs
  simp only [runDefs,ak] at J
  subst J
  have:ds=[]:=by rw [hd.eq]; rfl
  subst this
  obtain ⟨q1,q2⟩:=A0 (s:=⟨s.env,s.ax,h⟩) I he Dn
  exact ⟨_,q1,c,rfl,q2,I,hs⟩
 | cons x d ih =>
  intro h c a ds w J I he hd hs
  obtain ⟨g,args,cap⟩:=x
  simp only [runDefs] at J
  cases ht:C.told g with
  | some t=>rw [ht] at J; cases J
  | none =>
   rw [ht] at J
   simp only at J
   cases hc:defCall C n g (args++cap) h with
   | none=>rw [hc] at J; cases J
   | some h₁ =>
    rw [hc] at J
    simp only at J
    have iS:=hd.D6 (g,args,cap) (by simp)
    obtain ⟨k1,k2⟩:=Kw hm hT ht hc I (fun x hx=>by
     rcases List.mem_append.1 hx with hx | hx
     ·exact iS.1 x hx
     ·exact iS.2 x hx)
    have hds:ds={ target:=.fn (.func g) (cap.map (conc c)).toArray,args:=(args.map (conc c)).toArray }::d.map fun x=>{ target:=.fn (.func x.1) (x.2.2.map (conc c)).toArray,args:=(x.2.1.map (conc c)).toArray }:=by rw [hd.eq]; rfl
    rw [hds]
    refine leaves_cons (f:=g) (args:=((args++cap).map (conc c)).toArray) (by simp) ?_ ?_
    ·simp only [invoke]
     rw [show (args.map (conc c)).toArray++(cap.map (conc c)).toArray=((args++cap).map (conc c)).toArray from by simp]
     exact k2 _ w
    ·refine k1.mono ?_
     rintro e u' ur ⟨rfl,⟨y,rfl⟩,c₁,r1,r2⟩
     have xp:qu c d (d.map fun x=>{ target:=.fn (.func x.1) (x.2.2.map (conc c)).toArray,args:=(x.2.1.map (conc c)).toArray }):=⟨rfl,fun z hz=>hd.D6 z (by simp [hz])⟩
     exact ih h₁ c₁ a _ ur J r1 (he.ext r2.ext) (xp.ext r2.ext) (hs.trans r2)
theorem GG (hm:C.P.follows .mixedOrders=true)(hT:fo C){n f:Nat}{args:List V}{v:V}{eL:H}(J:toldDefer C n f args σ=some (v,eL))(h:Rel c σ w)(hw:∀x∈args,wf c x):
  fI C.P f args c w v eL:=by
 unfold toldDefer at J
 cases hf:C.P.funcs[f]? with
 | none=>simp [hf] at J
 | some fn =>
  simp only [hf] at J
  cases hb:fn.body with
  | none=>simp [hb] at J
  | some code =>
   simp only [hb] at J
   cases hq:Nat.blt fn.ntmps args.length with
   | true=>rw [hq] at J; cases J
   | false =>
    rw [hq,ay] at J
    have hle:args.length≤fn.ntmps:=by
     rcases j8 fn.ntmps args.length with h' | h'
     ·rw [gB.2 h'] at hq; cases hq
     ·exact h'
    have sJ:=mR (c:=c) hle hw
    unfold fI
    refine calls_of_wp_defers hf hb ?_
    have done:∀ex s d,evTop C n 1000 code ⟨bindArgs args 0 .lf,fn.ntmps,σ⟩ []=some (ex,s,d)→(ex=.normal∨ex=.ret) →
      (match runDefs C n d s.h with
       | some h'=>match mK C.P ⟨s.env,s.ax,h'⟩ fn.results.toList with
        | some v=>some (v,h')
        | none=>none
       | none=>none)=some (v,eL) →
      code.wp C.P (bodyPostD C.P fn fun e w'=>∃c',e=.returned (conc c' v)∧wf c' v∧Rel c' eL w'∧cF c w c' w')
       { tmps:=(args.map (conc c)).toArray++Array.replicate (fn.ntmps-(args.map (conc c)).toArray.size) undef,defers:=[] } w:=by
     intro ex s d hs hex I
     refine Code.wp_mono ?_ (Pr hm hT 1000 code _ [] ex s d hs c _ w h sJ ⟨rfl,fun x hx=>by cases hx⟩)
     rintro e a' w' ⟨rfl,c',r1,r2,r3,r4⟩
     cases iT:runDefs C n d s.h with
     | none=>rw [iT] at I; cases I
     | some h' =>
      rw [iT] at I
      simp only at I
      cases Lj:mK C.P ⟨s.env,s.ax,h'⟩ fn.results.toList with
      | none=>rw [Lj] at I; cases I
      | some v' =>
       rw [Lj] at I
       simp only [ak,aC] at I
       obtain ⟨rfl,rfl⟩:=I
       have hl:=M5 hm hT Lj d s.h c' a' a'.defers w' iT r1 r2 r4 r3
       rcases hex with rfl | rfl
       ·simpa [bodyPostD,exOf] using hl
       ·simpa [bodyPostD,exOf] using hl
    split at J
    ·cases J
    ·rename_i ex s d dz hs
     refine done ex s d hs ?_ J
     cases ex with
     | normal=>exact .inl rfl
     | ret=>exact .inr rfl
     | exit i=>exact absurd rfl (dz i)
    ·cases J
end
def sdep : Code→Nat
 | .seq a b=>1+max (sdep a) (sdep b)
 | _=>1
def fP (C:cB)(ax:Nat)(code:Code)(E:List (Nat×V))(h:H)(d:pG)(Q:Ex→List (Nat×V)→H→pG→Prop): Prop :=
 ∀env,ja env E→∃N0 ex I h' E' J,(∀N m,N0≤N→sdep code≤m→evTop C N m code ⟨env,ax,h⟩ d=some (ex,⟨I,ax,h'⟩,J))∧ja I E'∧Q ex E' h' J
section
variable {C:cB} {ax:Nat} {E:List (Nat×V)} {h:H} {d:pG} {Q:Ex→List (Nat×V)→H→pG→Prop}
def noDef : List Oper→Bool
 | []=>true
 | o::l=>(match o.op with
  | .defer _=>false
  | _=>true)&&noDef l
def noDefC : Code→Bool
 | .seq a b=>noDefC a&&noDefC b
 | .region _ ops false=>noDef ops.toList
 | _=>true
theorem evOpsD_of {self:Self}{L:List Oper}{d:pG}: ∀ {l:List Oper} {s s':St},noDef l=true→evOps C self L l s=some s'→evOpsD C self L l s d=some (s',d):=by
 intro l
 induction l with
 | nil=>intro s s' _ h; simp only [evOps,ak] at h; subst h; rfl
 | cons o l ih =>
  intro s s' I h
  simp only [noDef,aJ] at I
  have key:(cond (wantedV L s.env o) (match evOp C self s.env s.h o with
    | some (v,h)=>match s.put o.dst v h with
     | some s'=>evOpsD C self L l s' d
     | none=>none
    | none=>none) (match s.put o.dst bK s.h with
    | some s'=>evOpsD C self L l s' d
    | none=>none))=some (s',d):=by
   simp only [evOps] at h
   cases hw:wantedV L s.env o with
   | true =>
    rw [hw,ag] at h
    rw [ag]
    cases ho:evOp C self s.env s.h o with
    | none=>rw [ho] at h; cases h
    | some r =>
     obtain ⟨v,h1⟩:=r
     rw [ho] at h
     simp only at h ⊢
     cases J:s.put o.dst v h1 with
     | none=>rw [J] at h; cases h
     | some s1=>rw [J] at h; exact ih I.2 h
   | false =>
    rw [hw,ay] at h
    rw [ay]
    cases J:s.put o.dst bK s.h with
    | none=>rw [J] at h; cases h
    | some s1=>rw [J] at h; exact ih I.2 h
  unfold evOpsD
  split
  ·rename_i cl kQ
   rw [kQ] at I
   cases I.1
  ·exact key
theorem Pt : ∀ {code:Code} {n:Nat} {s:St} {ex:Ex} {s':St} {d:pG},noDefC code=true→ev C n code s=some (ex,s')→∀N m,n≤N→sdep code≤m→evTop C N m code s d=some (ex,s',d):=by
 have leaf:∀ {code:Code} {n:Nat} {s:St} {ex:Ex} {s':St} {d:pG} {N m:Nat},(∀m,evTop C N (m+1) code s d=match Bo C N code s with
   | some (ex,s')=>some (ex,s',d)
   | none=>none)→ev C n code s=some (ex,s')→n≤N→1≤m→evTop C N m code s d=some (ex,s',d):=fun {code n s ex s' d N m} he I J hm=>by
  obtain ⟨k,rfl⟩:∃k,m=k+1:=⟨m-1,by omega⟩
  rw [he,xw,fT J _ _ _ I]
 intro code
 induction code with
 | seq a b iha ihb =>
  intro n s ex s' d hn I N m J hm
  simp only [noDefC,aJ] at hn
  simp only [sdep] at hm
  obtain ⟨k,rfl⟩:∃k,m=k+1:=⟨m-1,by omega⟩
  cases n with
  | zero=>cases I
  | succ n =>
   rw [iO] at I
   simp only [evStep] at I
   cases ha:ev C n a s with
   | none=>rw [ha] at I; cases I
   | some r =>
    obtain ⟨e1,s1⟩:=r
    have h1:=iha (d:=d) hn.1 ha N k (by omega) (by omega)
    simp only [evTop,h1]
    rw [ha] at I
    cases e1 with
    | normal=>exact ihb hn.2 I N k (by omega) (by omega)
    | exit i=>simp only [ak,aC] at I; obtain ⟨rfl,rfl⟩:=I; rfl
    | ret=>simp only [ak,aC] at I; obtain ⟨rfl,rfl⟩:=I; rfl
 | region id ops draw =>
  intro n s ex s' d hn I N m J hm
  cases draw with
  | true=>exact leaf (fun m=>rfl) I J hm
  | false =>
   obtain ⟨k,rfl⟩:∃k,m=k+1:=⟨m-1,by have:1≤m:=hm; omega⟩
   cases n with
   | zero=>cases I
   | succ n =>
    rw [iO] at I
    simp only [evStep,ay] at I
    cases ho:evOps C (ev C n) ops.toList ops.toList s with
    | none=>rw [ho] at I; cases I
    | some s1 =>
     rw [ho] at I
     simp only [ak,aC] at I
     obtain ⟨rfl,rfl⟩:=I
     have h2:=oQ (fT (C:=C) (show n≤N by omega)) _ _ _ ho
     simp only [evTop,xw,evOpsD_of (d:=d) hn h2]
 | _=>intro n s ex s' d hn I N m J hm; exact leaf (fun m=>rfl) I J hm
theorem fP.of_wp {code:Code}(J:noDefC code=true)(hw:WP C ax code E h fun ex E' h'=>Q ex E' h' d): fP C ax code E h d Q:=by
 intro env hE
 obtain ⟨N,ex,I,h',E',h1,h2,h3⟩:=hw env hE
 exact ⟨N,ex,I,h',E',d,fun M m hM hm=>Pt J h1 M m hM hm,h2,h3⟩
theorem fP.seq {a b:Code}(hw:fP C ax a E h d fun ex E' h' J=>match ex with
  | .normal=>fP C ax b E' h' J Q
  | ex=>Q ex E' h' J): fP C ax (.seq a b) E h d Q:=by
 intro env hE
 obtain ⟨N,ex,I,h',E',J,h1,h2,h3⟩:=hw env hE
 have one:∀M m,N≤M→sdep (.seq a b)≤m+1→evTop C M m a ⟨env,ax,h⟩ d=some (ex,⟨I,ax,h'⟩,J):=fun M m hM hm=>h1 M m hM (by simp only [sdep] at hm; omega)
 have out:(match ex with | .normal=>False | _=>True)→Q ex E' h' J→∃N0 ex I h' E' J,(∀N m,N0≤N→sdep (.seq a b)≤m→evTop C N m (.seq a b) ⟨env,ax,h⟩ d=some (ex,⟨I,ax,h'⟩,J))∧ja I E'∧Q ex E' h' J:=fun hx hq=>by
  refine ⟨N,ex,I,h',E',J,fun M m hM hm => ?_,h2,hq⟩
  obtain ⟨k,rfl⟩:∃k,m=k+1:=⟨m-1,by simp only [sdep] at hm; omega⟩
  simp only [evTop,one M k hM hm]
  cases ex with
  | normal=>exact hx.elim
  | exit i=>rfl
  | ret=>rfl
 cases ex with
 | normal =>
  obtain ⟨K,ny,YO,Fa,E2,d2,g1,g2,g3⟩:=h3 I h2
  refine ⟨max N K,ny,YO,Fa,E2,d2,fun M m hM hm => ?_,g2,g3⟩
  obtain ⟨k,rfl⟩:∃k,m=k+1:=⟨m-1,by simp only [sdep] at hm; omega⟩
  simp only [evTop,one M k (by omega) hm]
  exact g1 M k (by omega) (by simp only [sdep] at hm; omega)
 | exit i=>exact out aa h3
 | ret=>exact out aa h3
theorem fP.defer {id:Nat}{ops:Array Oper}{I J:Oper}{x1 y:Operand}{cl:Go.Call}{k g:Nat}{v:V}{first cap args:List V}(hL:ops.toList=[I,J])(g1:I.guard=none)(d1:I.dst=some k)(p1:I.op=.move x1)(hk:Nat.blt k ax=true)(hx:lookO E x1=some v)
 (g2:J.guard=none)(d2:J.dst=none)(p2:J.op=.defer cl)(hc:cl.callee=.value y)(hy:lookO ((k,v)::E) y=some (.fn (.func g) first cap))(ha:lookArgs ((k,v)::E) cl.args.toList=some args)
 (hq:Q .normal ((k,v)::E) h ((g,first++args,cap)::d)): fP C ax (.region id ops false) E h d Q:=by
 intro env hE
 have Vf:ja (env.set k (some v)) ((k,v)::E):=hE.set _ _
 refine ⟨0,.normal,env.set k (some v),h,(k,v)::E,(g,first++args,cap)::d,fun M m _ hm => ?_,Vf,hq⟩
 obtain ⟨j,rfl⟩:∃j,m=j+1:=⟨m-1,by have:1≤m:=hm; omega⟩
 have e1:evOpsD C (Bo C M) [I,J] [I,J] ⟨env,ax,h⟩ d=some (⟨env.set k (some v),ax,h⟩,(g,first++args,cap)::d):=by
  have oh:wantedV [I,J] env I=true:=by simp [wantedV,g1]
  have UJ:evOp C (Bo C M) env h I=some (v,h):=by simp only [evOp,p1,bN hE hx]; rfl
  have Kg:St.put ⟨env,ax,h⟩ I.dst v h=some ⟨env.set k (some v),ax,h⟩:=by simp only [St.put,d1,hk,ag]
  rw [evOpsD]
  simp only [p1,oh,ag,UJ,Kg]
  rw [evOpsD]
  simp only [p2,g2,d2,hc,mq Vf ha,bN Vf hy,evOpsD]
 simp only [evTop,hL,e1]
theorem GH {f:FuncId}{fn:Func}{code:Code}{args:List V}{R:V→H→Prop}(hf:C.P.funcs[f]?=some fn)(hb:fn.body=some code)(hl:Nat.blt fn.ntmps args.length=false)(hdp:sdep code≤1000)
 (hw:fP C fn.ntmps code (argE args 0) h [] fun ex E' h' d'=>(match ex with | .exit _=>False | _=>True)∧∃J v,(∃N0,∀N,N0≤N→runDefs C N d' h'=some J)∧jA C.P E' J fn.results.toList=some v∧R v J):
  ∃v J,(∃N0,∀N,N0≤N→toldDefer C N f args h=some (v,J))∧R v J:=by
 obtain ⟨N0,ex,AQ,h',E',d',h1,J,hx,h3,v,⟨N1,hr⟩,I,hR⟩:=hw _ (CI args)
 refine ⟨v,h3,⟨max N0 N1,fun N hN => ?_⟩,hR⟩
 have e1:=h1 N 1000 (by omega) hdp
 have e2:=hr N (by omega)
 have e3:mK C.P ⟨AQ,fn.ntmps,h3⟩ fn.results.toList=some v:=by
  unfold jA at I
  cases hm:mapO (resE C.P E' h3) fn.results.toList with
  | none=>rw [hm] at I; cases I
  | some vs =>
   rw [hm] at I
   have wN:=CH (P:=C.P) (s:=⟨AQ,fn.ntmps,h3⟩) J hm
   unfold mK
   rw [wN]
   exact I
 unfold toldDefer
 simp only [hf,hb,hl,ay,e1]
 cases ex with
 | exit i=>exact hx.elim
 | normal=>simp only [e2,e3]
 | ret=>simp only [e2,e3]
theorem HK {g:FuncId}{fn:Func}{code:Code}{args:List V}{v:V}{J:H}(ht:C.told g=none)(hf:C.P.funcs[g]?=some fn)(hb:fn.body=some code)(hq:quietParts code=none)(hc:gF C g args h v J): ∃I,∀N,I≤N→runDefs C N [(g,args,[])] h=some J:=by
 obtain ⟨I,h0⟩:=hc
 refine ⟨I,fun N hN => ?_⟩
 have e:=oP (fT (C:=C) hN) h0
 simp only [runDefs,ht,defCall,hf,hb,hq,gz,xw,e]
end
def GI (f:FuncId)(args:List V)(h:H)(r:V×H): Prop:=∃I,∀N,I≤N→toldDefer CB N f args h=some r
theorem Call.defer {told:cZ}{f:FuncId}{fn:Func}{args:List V}{h:H}{R:V→H→Prop}(ht:told f=some (l8 Tryz.prog f (GI f)))(hf:Tryz.prog.funcs[f]?=some fn)(hb:fn.body.isSome=true)
 (hd:∃v I,(∃J,∀N,J≤N→toldDefer CB N f args h=some (v,I))∧R v I): Call ⟨Tryz.prog,told⟩ f args h R:=by
 obtain ⟨v,I,⟨J,h0⟩,hR⟩:=hd
 obtain ⟨r,e1,N1,h1⟩:=yb (P:=Tryz.prog) (f:=f) (iV:=GI f) (args:=args) (h:=h) (r:=(v,I)) ⟨J,h0⟩ (fun c w uu hw=>GG (C:=CB) g8 fg (h0 J (aD _)) uu hw)
 have:r=(v,I):=by
  have a:=h0 (max J N1) (by omega)
  have b:=h1 (max J N1) (by omega)
  rw [a] at b
  exact (bB b).symm
 subst this
 exact ⟨v,I,gF.told ht hf hb e1,hR⟩
section
variable {P:Program} {h:H} {S:List au} {x y:V} {α:Type}
theorem SF (s:Sat h S){t e:TypeId}{z:V}(hu:P.underlying t=some (.slice e))(hz:zeroT P e=some z)(hk:bq P e=some 1)(hl:z.cells.length=1)(hx:x.cells=[x])(hy:y.cells=[y])(I:storable x=true)(J:storable y=true):
  ∃v h',buildSliceV P h t 2 [(0,x),(1,y)]=some (v,h')∧Sat h' (.arr 1 v [x,y]::S):=by
 refine ⟨.sl h.next 0 2 (.exact 2),newRow h [x,y],?_,?_⟩
 ·obtain ⟨z0,tJ⟩:∃z0,z.cells=[z0]:=by
   match hq:z.cells with
   | []=>rw [hq] at hl; cases hl
   | [z0]=>exact ⟨z0,rfl⟩
   | _::_::_=>rw [hq] at hl; simp at hl
  simp only [buildSliceV,hu,hk,hz,tJ]
  rw [show (Nat.beq [z0].length 1&&Nat.ble (2*1) 65536&&Nat.ble 1 1)=true by rfl,ag]
  have e1:repeatL [z0] 2=[z0,z0]:=by simp [repeatL]
  simp only [fillV,e1,hx,hy,aH,bM]
  show cond ([x,y].all storable) (some (V.sl h.next 0 2 (Cap.exact 2),newRow h [x,y])) none=_
  simp only [gU,k_,I,J]
  rfl
 ·refine (s.new _).iU fun m r hm=>⟨by simp [I,J],.inr ⟨h.next,2,.exact 2,2,[],rfl,?_,rfl,rfl,rfl,rfl,aD _⟩⟩
  have hm:m h.next=some (.cells 2 [x,y] false):=hm
  rw [hm]; rfl
theorem SG {f:V→α→au}{us:List V}{cs:List α}{i:Nat}{c:α}(J:∀v x,aX (f v x))(s:Sat h (each f us cs::S))(I:cs[i]?=some c): ∃u,us[i]?=some u∧Sat h (f u c::each f us cs::S):=by
 obtain ⟨a,b,q1,q2,q3⟩:=s.at (k:=0) rfl
 have hl:=AL q3
 have hi:=(List.getElem?_eq_some_iff.1 I).1
 have hu:us[i]?=some (us[i]'(by omega)):=aN _
 exact ⟨_,hu,(s.dup (aX.each J _ _)).iU fun a b h=>FF h hu I⟩
theorem I2 {S:Prop}: c8 (pu S) (c9 .bu []):=fun _ _ _=>.inl ⟨fun _ h=>(by cases h),.inl ⟨.inl rfl,rfl⟩⟩
end
theorem B9 {kd:Nat}: buildV Tryz.prog 48 [(0,.int .i64 (kd:Int))]=some (.agg (oD (kd:Int) 0 0 0 .bu .bu)):=by rw [JI]; rfl
section
variable {told:cZ} {h:H} {S:List au} {X Y:au} {N B K M n g a p q r aO:Nat} {v x y rv op cv:V} {us:List V} {b l c R data:List Nat} {kd lk link extra aW:Nat} {cs:List (List Nat)} {ε ε':aE} {now:List (Int×List Nat)} {A:aE→au} {pg:aE→Int→List Nat}
theorem dP.done (hw:NW N now)(hd:∀m,pgA ε' m=match lookL m now with | some b=>dw b aW | none=>pgA ε m){i:Int}(I:dP (dK now ε i) kd link extra cs): dP (pgA ε' i) kd link extra cs:=by
 rw [hd]
 unfold dK at I
 cases J:lookL i now with
 | none=>rw [J] at I; exact I
 | some b =>
  rw [J] at I
  obtain ⟨k1,k2,_⟩:=DZ (n:=aW) I.len
  exact I.tail k2 k1
theorem f_.done {R M:List Nat}(hw:NW N now)(J:∀m,pgA ε' m=match lookL m now with | some b=>dw b aW | none=>pgA ε m)(I:f_ n R M (dK now ε)): f_ n R M (pgA ε'):=by
 obtain ⟨ex,h0⟩:=I.head
 obtain ⟨kd,lk,ny,h1⟩:=I.marks
 exact ⟨⟨ex,h0.done hw J⟩,I.rl,⟨kd,lk,ny,h1.done hw J⟩,I.ml,I.n1,I.n2,I.own,I.hi⟩
theorem D8 (hT:W told)(hB:B≤900)(I:EI N B ε)(hw:NW N now){L:Nat}(hL:now.length≤L)(hN:N≤1024)(h1:1≤kd)(h2:kd≤7)(hd:ga K M ε)(hf:K+520*L+28≤M)(s:Sat h (GA g a p q r data aO now ε::S)):
  Call ⟨Tryz.prog,told⟩ 26 [.ptr g 0,.agg (oD (kd:Int) 0 0 0 .bu .bu)] h fun v h'=>∃(aW:Nat) (ε':aE),v=.aY [.int .u64 (aW:Int),.int .i64 0]∧EI N (B+2) ε'∧(∀m,pgA ε' m=match lookL m now with | some b=>dw b aW | none=>pgA ε m)∧ga (K+520*L+28) M ε' ∧
   Sat h' (fh g a now true::SA a p q r .b7 data aO ε'::S):=by
 have wq:=I.cr
 have fC:=I.el.size
 have XG:=I.many
 have s:=cq.1 s
 have s:Sat h (fh g a now false::dx a p q r (.ptr g 0) data aO::cK r p q ε.1::bx q p ε.2.1::aL p ε.2.2::S):=s
 have s:=(s.gr (φ:=True) aa).nI (k:=4)
 refine (Sd (pE:=0) (data:=[]) hT (s.ae [2,2,2,2,2,1,0]) I2 rfl I.ok (by omega) (fun e he=>iQ (hw.good e he).1) (by have:=hw.len; omega) (fun n hn=>by have:=hw.keys n hn; omega) (by decide) (by decide) (by decide) (gV _) I.el.log (by omega)).mono ?_
 rintro v h ⟨aW,e,cl,ε',hr,rfl,s⟩
 obtain ⟨rfl,rfl,J⟩:=hr.fits I (by omega) hw hL hN h1 h2 (by decide) hd hf
 rcases I.done (by omega) hw (by omega) (by omega) hr with ⟨kQ,_⟩ | ⟨_,_,IM,jY⟩
 ·cases kQ
 ·have s:Sat h (fh g a now true::dx a p q r .b7 data aO::cK r p q ε'.1::bx q p ε'.2.1::aL p ε'.2.2::pu True::S):=s
  have s2:Sat h (SA a p q r .b7 data aO ε'::fh g a now true::pu True::S):=cq.2 (s.ae [1,1,1,1,0])
  exact ⟨aW,ε',rfl,IM,jY,J,(s2.ae [1]).del 2⟩
theorem Pu (J:W told)(hB:B≤900)(I:EI N B ε)(hw:NW N now)(hN:N≤1024)(h1:1≤kd)(h2:kd≤7)(hd:ga K M ε)(hf:K+520*N+28≤M)(s:Sat h (GA g a p q r data aO now ε::S)):
  Call ⟨Tryz.prog,told⟩ 26 [.ptr g 0,.agg (oD (kd:Int) 0 0 0 .bu .bu)] h fun v h'=>∃(aW:Nat) (ε':aE),v=.aY [.int .u64 (aW:Int),.int .i64 0]∧EI N (B+2) ε'∧(∀m,pgA ε' m=match lookL m now with | some b=>dw b aW | none=>pgA ε m)∧ga (K+520*N+28) M ε' ∧
   Sat h' (fh g a now true::SA a p q r .b7 data aO ε'::S):=D8 J hB I hw hw.len hN h1 h2 hd hf s
noncomputable def mdL : Code:=cV [1,1,1,0,1,0,0] ((Tryz.f73.body).getD .skip)
theorem M6 (hT:W told)(fS:26+4*cs.length+tot cs≤512)(uc:us.length=cs.length): ∀(m i:Nat) (v:V) (b:List Nat) (h:H) (E:List (Nat×V)) (Q:Ex→List (Nat×V)→H→Prop),i+m=cs.length→dP b kd link extra (cs.take i) →
  Sat h (aZ v b::each (fun v c=>.c5 v c) us cs::.arr 1 cv us::S)→Has E [(7,v),(22,cv),(23,.int .i64 (cs.length:Int)),(24,.int .i64 (i:Int))] →
  (∀v' b' E' h',dP b' kd link extra cs→Has E' [(7,v')]→Sat h' (aZ v' b'::each (fun v c=>.c5 v c) us cs::.arr 1 cv us::S)→Q (.exit 0) E' h')→WP ⟨Tryz.prog,told⟩ 38 (.loop mdL) E h Q:=by
 intro m
 induction m with
 | zero =>
  intro i v b h E Q hi hp s hE hq
  refine WP.loop (WP.has hE (zg rfl (zh rfl (af rfl rfl aK) (by simp; omega) ?_)))
  exact zk 3 rfl (WP.exit (hq v b _ _ (by rw [show cs.take i=cs from fq (by omega)] at hp; exact hp) ⟨rfl,aa⟩ s))
 | succ m ih =>
  intro i v b h E Q hi hp s hE hq
  have I:cs[i]?=some (cs[i]'(by omega)):=aN _
  generalize (cs[i]'(by omega))=c at I
  obtain ⟨u,hu,s⟩:=SG (fun _ _=>aX.c5 _ _) (s.ae [1]) I
  dsimp only [bf,bringA] at s
  obtain ⟨id,off,e1,e2⟩:=fY (P:=Tryz.prog) s (k:=3) (i:=i) (c:=u) rfl hu gZ jT
  have ML:=m4 I
  have Ax:=m5 (cs:=cs) (i:=i+1)
  have hlen:(cs.take i).length=i:=by rw [kZ]; omega
  have UP:cs.take (i+1)=cs.take i++[c]:=by rw [yL,I]; rfl
  refine WP.loop (WP.has hE (zg rfl (zt rfl (af rfl rfl aK) (by simp; omega) ?_)))
  refine zk 5 rfl (WP.block (zK 3 rfl (zo rfl (cn (r:=.ptr id off) rfl rfl e1) (zl rfl (e2 _ cS) (zk 7 rfl ?_)))))
  have J:=Sv (told:=told) hT (s.ae [2,0]) (bz _ _) (fe _ _) hp (by rw [hlen]; omega)
  rw [hlen] at J
  refine zc rfl (J) ?_
  rintro r h ⟨u',b',rfl,oM,s⟩
  rw [←UP] at oM
  refine zk 4 rfl (zv (zr rfl (zb rfl (by exact bg (aB (by omega) (by omega))) ?_)))
  refine zm rfl (zv ?_)
  exact ih (i+1) u' b' _ _ Q (by omega) oM (((s.ae [0,2,2]).del 4).del 3) ⟨rfl,rfl,rfl,rfl,aa⟩ hq
theorem I3 (hT:W told)(XB:kd≤255)(Mk:lk<4294967296)(I:26+4*cs.length+tot cs≤512)(J:us.length=cs.length)(s:Sat h (each (fun v c=>.c5 v c) us cs::.arr 1 cv us::S)):
  Call ⟨Tryz.prog,told⟩ 73 [.int .i64 (kd:Int),.int .i64 (lk:Int),cv] h fun r h'=>∃b',dP b' kd lk 0 cs∧Sat h' (aZ r b'::S):=by
 refine Call.of_wp (hT.free _ rfl) Tryz.func73 rfl rfl (zK 7 rfl (zc rfl (Ph (kd:=kd) hT s XB) ?_))
 rintro r h ⟨u,b,rfl,hb,s⟩
 refine zk 10 rfl (zc rfl (Su (lk:=lk) (ex:=0) hT s (bz _ _) hb Mk (by decide)) ?_)
 rintro r h ⟨u2,b2,rfl,va,s⟩
 refine zk 9 rfl (zo rfl (aT rfl rfl rfl (s.eY (n:=cs.length) (j:=3) rfl (by rw [J,cx]) (by decide) gZ)) ?_)
 refine zk 2 rfl (WP.block ?_)
 refine M6 hT I J cs.length 0 u2 b2 _ _ _ (by omega) va (s.ae [0,1,1]) ⟨rfl,rfl,rfl,rfl,aa⟩ (fun v' b' E' h' EZ hE s' => ?_)
 have s:=s'
 exact WP.has hE (zK 5 rfl (WP.ret ⟨aa,_,rfl,b',EZ,((s.del 3).del 2).del 1⟩))
theorem Kx (J:W told)(s:Sat h (X::S))(hX:c8 X (c9 v b))(hl:b.length=512)(hg:cj b=false): Call ⟨Tryz.prog,told⟩ 140 [v] h fun r h'=>r=.aY [.bu,.int .i64 4]∧Sat h' (X::S):=by
 refine Call.of_wp (J.free _ rfl) Tryz.func140 rfl rfl (zK 8 rfl (zc rfl (td J s hX (by omega)) ?_))
 rintro r h' ⟨s,(⟨I,rfl⟩ | ⟨_,rfl⟩)⟩
 ·rw [hg] at I; cases I
 refine zk 3 rfl ?_
 refine az.cz s rfl rfl rfl (cy jC) (fun p4 h s => ?_)
 refine zS rfl (s.eZ (j:=0) rfl bA rfl rfl) (fun h s => ?_)
 refine zk 6 rfl (zt rfl (af rfl rfl aG) (by decide) ?_)
 exact zk 8 rfl (WP.ret ⟨aa,_,rfl,rfl,s.drop⟩)
theorem M7 (hT:W told)(hR:qN told N B rv A pg)(J:EI N B ε)(hN:1≤N)(hl:(pg ε 0).length=512)(hg:cj (pg ε 0)=false)(s:Sat h (A ε::S)):
  Call ⟨Tryz.prog,told⟩ 91 [rv] h fun v h'=>∃ε',v=.aY [.bu,.int .i64 0,.bool false,.int .i64 0]∧EI N B ε'∧Sm N ε ε'∧Sat h' (A ε'::S):=by
 obtain ⟨ty,u,f,rfl,hm,iT⟩:=hR.iface
 refine Call.of_wp (hT.free _ rfl) Tryz.func91 rfl rfl (zK 10 rfl (az.any rfl rfl rfl (OpR.invoke rfl rfl rfl hm rfl (iT J (by decide) (by omega) s)) ?_))
 rintro v h ⟨u,ε',rfl,I,hs,s⟩
 refine zk 10 rfl (zh rfl (af rfl rfl aG) (rfl) (zk 6 rfl (zc rfl (Kx hT s (bz _ _) hl hg) ?_)))
 rintro v h ⟨rfl,s⟩
 refine zk 8 rfl (WP.drawn [ai,ai,ai,ai,ai,ai,ai,ai,some (0,2),some (0,2),some (0,2),ai,ai,ai,ai,ai,ai,ai,ai,ai,ai,ai] rfl (by kernel_rfl) (by kernel_rfl) ?_)
 refine zM rfl (aA.qV rfl rfl rfl rfl (af rfl rfl aG) (by decide) ?_)
 refine zM rfl (aA.no (e:=false) rfl rfl rfl rfl (aA.no (e:=false) rfl rfl rfl rfl (aA.no (e:=false) rfl rfl rfl rfl (zO rfl (ir rfl rfl) (zM rfl (aA.no (e:=false) rfl rfl rfl rfl (aA.no (e:=false) rfl rfl rfl rfl (aA.no (e:=false) rfl rfl rfl rfl (aA.no (e:=true) rfl rfl rfl rfl (aA.no (e:=true) rfl rfl rfl rfl (aA.no (e:=false) rfl rfl rfl rfl (zO rfl (ir rfl rfl) (zM rfl (aA.no (e:=false) rfl rfl rfl rfl (aA.no (e:=false) rfl rfl rfl rfl (aA.no (e:=false) rfl rfl rfl rfl (aA.no (e:=false) rfl rfl rfl rfl (aA.no (e:=false) rfl rfl rfl rfl (zO rfl (ir rfl rfl) ?_)))))))))))))))))))
 refine aA.nil ⟨⟨aa,aa,aa,aa,aa,aa,aa,aa,fun _ _=>.inl rfl,fun _ _=>.inl rfl,fun _ _=>.inl rfl,aa,aa,aa,aa,aa,aa,aa,aa,aa,aa,aa,aa⟩,?_⟩
 exact zK 8 rfl (WP.ret ⟨aa,_,rfl,ε',rfl,I,hs,s.drop⟩)
theorem En (hT:W told)(hR:qN told N B rv A pg)(J:EI N B ε)(hN:1≤N)(hl:(pg ε 0).length=512)(hg:cj (pg ε 0)=false)(s:Sat h (A ε::S)):
  Call ⟨Tryz.prog,told⟩ 37 [rv] h fun v h'=>∃ε',v=.aY [.bool false,.int .i64 0]∧EI N B ε'∧Sm N ε ε'∧Sat h' (A ε'::S):=by
 refine Call.of_wp (hT.free _ rfl) Tryz.func37 rfl rfl (zK 8 rfl (zc rfl (M7 hT hR J hN hl hg s) ?_))
 rintro v h ⟨ε',rfl,I,hs,s⟩
 exact zk 17 rfl (WP.ret ⟨aa,_,rfl,ε',rfl,I,hs,s⟩)
end
end Go.Proofs.YtefepnnfphdkpaaGreat.Am
