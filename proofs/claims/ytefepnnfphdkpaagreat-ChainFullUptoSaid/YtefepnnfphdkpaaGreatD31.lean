/- ChainFull: a part of its proof; conditions: its statement's. -/
import Derived.Test.YtefepnnfphdkpaaGreatD12
import Derived.Defers
import Derived.Recover
import Derived.Test.YtefepnnfphdkpaaGreatD30
namespace Go.Proofs.YtefepnnfphdkpaaGreat.Am
open Go
abbrev nZ := List (Nat×List V×List V)
noncomputable def k_ (P:Program)(s:St)(rs:List ResultVar): Option V:=match mapO (resV P s) rs with
 | some [v]=>some v
 | some I=>some (.aX I)
 | none=>none
noncomputable def evOpsD (C:b9)(self:Self)(L:List Oper): List Oper→St→nZ→Option (St×nZ)
 | [],s,d=>some (s,d)
 | o::rest,s,d=>match o.op with
  | .defer cl=>match o.guard,o.dst,cl.callee,evArgs s.env cl.args.toList with
   | none,none,.value x,some args=>match evO s.env x with
    | some (.fn (.func g) first cap)=>evOpsD C self L rest s ((g,first++args,cap)::d)
    | _=>none
   | _,_,_,_=>none
  | _=>cond (wantedV L s.env o)
   (match evOp C self s.env s.h o with
    | some (v,h)=>match s.put o.dst v h with
     | some s'=>evOpsD C self L rest s' d
     | none=>none
    | none=>none)
   (match s.put o.dst bJ s.h with
    | some s'=>evOpsD C self L rest s' d
    | none=>none)
noncomputable def evTop (C:b9)(n:Nat): Nat→Code→St→nZ→Option (Ex×St×nZ)
 | 0,_,_,_=>none
 | m+1,c,s,d=>match c with
  | .seq a b=>match evTop C n m a s d with
   | some (.normal,s',I)=>evTop C n m b s' I
   | r=>r
  | .region _ ops false=>match evOpsD C (tD C n) ops.toList ops.toList s d with
   | some (s',I)=>some (.normal,s',I)
   | none=>none
  | c=>match tD C n c s with
   | some (ex,s')=>some (ex,s',d)
   | none=>none
def quietParts : Code→Option (Nat×Nat×Code)
 | .seq (.region _ ops false) rest=>match ops.toList with
  | [I,J]=>match I.op,I.guard,I.dst,J.op,J.guard,J.dst with
   | .call cl,none,some B3,.assign (.tmp t),none,some Nq=>match cl.callee,cl.args.toList with
    | .builtin .recover,[]=>cond (Nat.beq t B3) (some (B3,Nq,rest)) none
    | _,_=>none
   | _,_,_,_,_,_=>none
  | _=>none
 | _=>none
noncomputable def defCall (C : b9) (n : Nat) (g : Nat) (args : List V) (h : H) : Option H := match C.P.funcs[g]? with
 | none => none
 | some fn => match fn.body with
  | none => none
  | some code => match quietParts code with
   | some (I, J, rest) => cond (Nat.blt I fn.ntmps && Nat.blt J fn.ntmps && Nat.ble args.length fn.ntmps && !(fn.name == "runtime.NumGoroutine"))
    (match tD C n rest ⟨((bindArgs args 0 .lf).set I (some .mg)).set J (some .mg), fn.ntmps, h⟩ with
     | some (.normal, s) | some (.ret, s) => match k_ C.P s fn.results.toList with
      | some _ => some s.h
      | none => none
     | _ => none) none
   | none => match callF C (tD C n) g args h with
    | some (_, h') => some h'
    | none => none
noncomputable def runDefs (C:b9)(n:Nat): nZ→H→Option H
 | [],h=>some h
 | (g,args,cap)::d,h=>match C.told g with
  | some _=>none
  | none=>match defCall C n g (args++cap) h with
   | some h'=>runDefs C n d h'
   | none=>none
noncomputable def toldDefer (C:b9)(n f:Nat)(args:List V)(h:H): Option (V×H):=match C.P.funcs[f]? with
 | none=>none
 | some fn=>match fn.body with
  | none=>none
  | some c=>cond (Nat.blt fn.ntmps args.length) none (match evTop C n 1000 c ⟨bindArgs args 0 .lf,fn.ntmps,h⟩ [] with
   | some (.exit _,_,_)=>none
   | some (_,s,d)=>match runDefs C n d s.h with
    | some h'=>match k_ C.P ⟨s.env,s.au,h'⟩ fn.results.toList with
     | some v=>some (v,h')
     | none=>none
    | none=>none
   | none=>none)
section
variable {C:b9} {self:Self} {c:Ctx} {σ:H} {w:World}
theorem yV {s:St}{a:Act}{P:Program}{fn:Func}{v:V}(h:Rel c s.h w)(he:c7 c s.env s.au a)(I:k_ P s fn.results.toList=some v):
  (results fn a.tmps).run P w=.ok (conc c v) w∧wf c v:=by
 unfold k_ at I
 cases J:mapO (resV P s) fn.results.toList with
 | none=>simp [J] at I
 | some vs =>
  obtain ⟨q1,q2⟩:=ug h he J
  rw [J] at I
  rw [q1]
  rcases vs with _ | ⟨v0,_ | ⟨v1,vs⟩⟩
  ·simp only [aj] at I
   subst I
   exact ⟨by simp [conc,concL],by simp [wf,ej]⟩
  ·simp only [aj] at I
   subst I
   exact ⟨by simp,q2 v0 (by simp)⟩
  ·simp only [aj] at I
   subst I
   exact ⟨by simp [conc,eM],by simp only [wf,eU]; exact q2⟩
structure oO (c:Ctx)(d:nZ)(ds:List Deferred): Prop where
 eq:ds=d.map fun x=>{ target:=.fn (.func x.1) (x.2.2.map (conc c)).toArray,args:=(x.2.1.map (conc c)).toArray }
 CD:∀x∈d,(∀v∈x.2.1,wf c v)∧∀v∈x.2.2,wf c v
theorem oO.ext {c':Ctx}{d:nZ}{ds:List Deferred}(h:oO c d ds)(e:Ext c c'): oO c' d ds where
 eq:=by
  rw [h.eq]
  refine mS fun x I => ?_
  rw [(j8 e (h.CD x I).1).1,(j8 e (h.CD x I).2).1]
 CD:=fun x I=>⟨(j8 e (h.CD x I).1).2,(j8 e (h.CD x I).2).2⟩
theorem Ln {env:Env}{n:Nat}{a:Act}(he:c7 c env n a): ∀(l:List Operand) (I:List V),evArgs env l=some I→l.map a.eval=I.map (conc c)∧∀v∈I,wf c v:=by
 intro l
 induction l with
 | nil=>intro I h; simp [evArgs] at h; subst h; simp
 | cons x l ih =>
  intro I h
  simp only [evArgs] at h
  cases J:evO env x with
  | none=>simp [J] at h
  | some v =>
   cases h2:evArgs env l with
   | none=>simp [J,h2] at h
   | some m =>
    simp [J,h2] at h
    subst h
    obtain ⟨i1,i2⟩:=ih m h2
    obtain ⟨e1,e2⟩:=vc he J
    refine ⟨by simp [e1,i1],fun y hy => ?_⟩
    rcases List.mem_cons.1 hy with rfl | hy
    ·exact e2
    ·exact i2 y hy
theorem Lo (hS:iE C.P self)(hT:fA C){ops:Array Oper}{Q:Exit→Act→World→Prop}: ∀(l:List Oper) (k:Nat) (s s':St) (d d':nZ) (c:Ctx) (a:Act) (w:World),
  (∀j,l[j]?=ops[k+j]?)→evOpsD C self ops.toList l s d=some (s',d')→Rel c s.h w→c7 c s.env s.au a→oO c d a.defers →
  (∀c' a' w',Rel c' s'.h w'→c7 c' s'.env s'.au a'→b7 c w c' w'→oO c' d' a'.defers→Q .normal a' w') →
  wpOpsIn (Fr none) 0 C.P ops Q (List.range' k l.length) a w:=by
 intro l
 induction l with
 | nil =>
  intro k s s' d d' c a w _ I h he hd hQ
  simp only [evOpsD,aj,aC] at I
  obtain ⟨rfl,rfl⟩:=I
  simp only [bG,List.range'_zero,wpOpsIn]
  exact hQ c a w h he (b7.refl c w) hd
 | cons o l ih =>
  intro k s s' d d' c a w hl I h he hd hQ
  have h0:ops[k]?=some o:=by simpa using (hl 0).symm
  have zJ:∀j,l[j]?=ops[k+1+j]?:=fun j=>by have:=hl (j+1); simpa [iZ,wW 1 j] using this
  simp only [aN,A_,wpOpsIn,h0]
  rw [zI he]
  have common:(cond (wantedV ops.toList s.env o)
    (match evOp C self s.env s.h o with
     | some (v,h)=>match s.put o.dst v h with
      | some s'=>evOpsD C self ops.toList l s' d
      | none=>none
     | none=>none)
    (match s.put o.dst bJ s.h with
     | some s'=>evOpsD C self ops.toList l s' d
     | none=>none))=some (s',d') →
    (if wantedV ops.toList s.env o=true then o.wpIn (Fr none) 0 C.P a w (wpOpsIn (Fr none) 0 C.P ops Q (List.range' (k+1) l.length)) Q else (∀f,o.about C.P w a.eval=some f→(Fr none).fn f)∧wpOpsIn (Fr none) 0 C.P ops Q (List.range' (k+1) l.length) (a.put o.dst undef) w):=by
   intro I
   cases hw:wantedV ops.toList s.env o with
   | true =>
    rw [hw,af] at I
    simp only [bB]
    cases ho:evOp C self s.env s.h o with
    | none=>simp [ho] at I
    | some r =>
     obtain ⟨v,dU⟩:=r
     simp only [ho] at I
     cases hp:s.put o.dst v dU with
     | none=>simp [hp] at I
     | some J =>
      simp only [hp] at I
      refine (w_ hS hT h (he.Ge o) ho).wpIn (lD ho) ?_
      intro c' w' r1 r2 r3
      obtain ⟨p1,p2,p3⟩:=St.y7 (he.ext r2.ext) r3 hp
      refine ih (k+1) J s' d d' c' _ w' zJ I (by rw [p2]; exact r1) p1 (by rw [put_defers]; exact hd.ext r2.ext) ?_
      intro pM vt vu q1 q2 q3 q4
      exact hQ pM vt vu q1 q2 (r2.trans q3) q4
   | false =>
    rw [hw,ay] at I
    simp only [dV,bF]
    refine ⟨fun _ _=>trivial,?_⟩
    cases hp:s.put o.dst bJ s.h with
    | none=>simp [hp] at I
    | some J =>
     simp only [hp] at I
     obtain ⟨p1,p2,p3⟩:=St.y7 he (show wf c bJ by simp [bJ,wf,ej]) hp
     rw [nm] at p1
     refine ih (k+1) J s' d d' c _ w zJ I (by rw [p2]; exact h) p1 (by rw [put_defers]; exact hd) ?_
     intro pM vt vu q1 q2 q3 q4
     exact hQ pM vt vu q1 q2 q3 q4
  unfold evOpsD at I
  split at I
  ·rename_i cl ik
   split at I
   ·rename_i x args hg LW Qn xD
    split at I
    ·rename_i g first cap US
     have T9:wantedV ops.toList s.env o=true:=by simp [wantedV,hg]
     simp only [T9,bB]
     obtain ⟨e1,e2⟩:=Ln he _ _ xD
     obtain ⟨f1,f2⟩:=vc he US
     have fw:(∀x∈first,wf c x)∧(∀x∈cap,wf c x):=by
      have:ej c first∧ej c cap:=by simpa [wf] using f2
      exact ⟨eU.1 this.1,eU.1 this.2⟩
     have vl:(execOp a.eval o).run C.P w=.ok (.defer { target:=.fn (.func g) (cap.map (conc c)).toArray,args:=((first++args).map (conc c)).toArray }) w:=by
      have h1:cl.args.map a.eval=(args.map (conc c)).toArray:=by
       apply gN
       simpa using e1
      have h2:a.eval x=.func (.func g) (first.map (conc c)).toArray (cap.map (conc c)).toArray:=by rw [f1]; simp [conc,eM]
      simp [execOp,ik,resolve,Qn,h2,Deferred.ofValue,h1]
     refine ⟨fun _ _=>trivial,?_⟩
     rw [show (Fr none).round=none from rfl,Oper.semAt_none,vl]
     simp only [Oper.uponIn,LW,Act.put]
     refine ih (k+1) s s' ((g,first++args,cap)::d) d' c _ w zJ I h ⟨he.size,he.val,he.uM⟩ ⟨by simp [hd.eq],fun x hx => ?_⟩ ?_
     ·rcases List.mem_cons.1 hx with rfl | hx
      ·exact ⟨fun v hv=>by
        rcases List.mem_append.1 hv with hv | hv
        ·exact fw.1 v hv
        ·exact e2 v hv,fw.2⟩
      ·exact hd.CD x hx
     ·intro pM vt vu q1 q2 q3 q4
      exact hQ pM vt vu q1 q2 q3 q4
    ·cases I
   ·cases I
  ·exact common I
theorem Nr (hm:C.P.follows .mixedOrders=true)(hT:fA C){n:Nat}: ∀(m:Nat) (code:Code) (s:St) (d:nZ) (ex:Ex) (s':St) (d':nZ),evTop C n m code s d=some (ex,s',d') →
  ∀(c:Ctx) (a:Act) (w:World),Rel c s.h w→c7 c s.env s.au a→oO c d a.defers →
   code.wp C.P (fun e a' w'=>e=exOf ex∧∃c',Rel c' s'.h w'∧c7 c' s'.env s'.au a'∧b7 c w c' w'∧oO c' d' a'.defers) a w:=by
 have hS:=(zX (C:=C) hm hT n).1
 intro m
 induction m with
 | zero=>intro code s d ex s' d' h; simp [evTop] at h
 | succ m ih =>
  intro code s d ex s' d' I c a w h he hd
  have rest:(match ev C n code s with
    | some (ex,s')=>some (ex,s',d)
    | none=>none)=some (ex,s',d')→code.wp C.P (fun e a' w'=>e=exOf ex∧∃c',Rel c' s'.h w'∧c7 c' s'.env s'.au a'∧b7 c w c' w'∧oO c' d' a'.defers) a w:=by
   intro I
   cases ke:ev C n code s with
   | none=>rw [ke] at I; cases I
   | some r =>
    obtain ⟨zW,J⟩:=r
    rw [ke] at I
    simp only [aj,aC] at I
    obtain ⟨rfl,rfl,rfl⟩:=I
    refine Code.wp_mono ?_ (hS _ _ _ _ ke c a w h he)
    rintro e a' w' ⟨rfl,q2,c',q3,q4,q5⟩
    exact ⟨rfl,c',q3,q4,q5,by rw [q2]; exact hd.ext q5.ext⟩
  unfold evTop at I
  rw [qZ] at I
  split at I
  ·rename_i x y
   cases hx:evTop C n m x s d with
   | none=>rw [hx] at I; cases I
   | some r =>
    obtain ⟨zW,J,B3⟩:=r
    rw [hx] at I
    refine wp_seq (Code.wp_mono ?_ (ih x s d zW J B3 hx c a w h he hd))
    rintro e Dn u6 ⟨rfl,c₁,q3,q4,q5,q6⟩
    cases zW with
    | normal =>
     refine Code.wp_mono ?_ (ih y J B3 ex s' d' I c₁ Dn u6 q3 q4 q6)
     rintro e CS VD ⟨rfl,c₂,p3,p4,p5,p6⟩
     exact ⟨rfl,c₂,p3,p4,q5.trans p5,p6⟩
    | exit i =>
     simp only [aj,aC] at I
     obtain ⟨rfl,rfl,rfl⟩:=I
     exact ⟨rfl,c₁,q3,q4,q5,q6⟩
    | ret =>
     simp only [aj,aC] at I
     obtain ⟨rfl,rfl,rfl⟩:=I
     exact ⟨rfl,c₁,q3,q4,q5,q6⟩
  ·rename_i id ops
   cases hx:evOpsD C (ev C n) ops.toList ops.toList s d with
   | none=>rw [hx] at I; cases I
   | some r =>
    obtain ⟨J,B3⟩:=r
    rw [hx] at I
    simp only [aj,aC] at I
    obtain ⟨rfl,rfl,rfl⟩:=I
    refine wpIn_wide.1 (show (Code.region id ops false).wpIn (Fr none) 0 C.P _ a w from wpIn_region ?_)
    rw [List.range_eq_range',←A4]
    exact Lo (Dx (C:=C) hm hT n).1 hT ops.toList 0 s J d B3 c a w (fun j=>by rw [dA,iA]) hx h he hd fun c' a' w' r1 r2 r3 r4=>⟨rfl,c',r1,r2,r3,r4⟩
  ·exact rest I
theorem Ns (hm : C.P.follows .mixedOrders = true) (hT : fA C) {n g : Nat} {args : List V} {v : V} {I : H} (hg : C.told g = none) (J : callF C (ev C n) g args σ = some (v, I)) (h : Rel c σ w) (hw : ∀ x ∈ args, wf c x) :
  CallsD C.P g (args.map (conc c)).toArray .returning w (fun e u' w' => u' = .returning ∧ (∃ x, e = .returned x) ∧ ∃ c', Rel c' I w' ∧ b7 c w c' w') ∧ ∀ (x : Array Value) (w : World), (callFunc g x).run C.P w = .ok (.enter g x) w := by
 have hS := (zX (C := C) hm hT n).1
 have Yj := (ou hS hT J h hw).2
 refine ⟨?_, Yj⟩
 unfold callF at J
 rw [hg] at J
 simp only at J
 cases hf : C.P.funcs[g]? with
 | none => simp [hf] at J
 | some fn =>
  simp only [hf] at J
  cases hb : fn.body with
  | none => simp [hb] at J
  | some code =>
   simp only [hb] at J
   cases hq : (fn.name == "runtime.NumGoroutine" || Nat.blt fn.ntmps args.length) with
   | true => simp [hq] at J
   | false =>
    simp only [hq, ay] at J
    simp only [Bool.or_eq_false_iff] at hq
    have hle : args.length ≤ fn.ntmps := by
     rcases iD fn.ntmps args.length with h' | h'
     ·rw [fK.2 h'] at hq; cases hq.2
     ·exact h'
    have nu := lB (c := c) hle hw
    have done : ∀ ex s, ev C n code ⟨bindArgs args 0 .lf, fn.ntmps, σ⟩ = some (ex, s) → (ex = .normal ∨ ex = .ret) →
      (match mapO (resV C.P s) fn.results.toList with
       | some [v] => some (v, s.h)
       | some vs => some (.aX vs, s.h)
       | none => none) = some (v, I) →
      CallsD C.P g (args.map (conc c)).toArray .returning w (fun e u' w' => u' = .returning ∧ (∃ x, e = .returned x) ∧ ∃ c', Rel c' I w' ∧ b7 c w c' w') := by
     intro ex s hs hex Lp
     have QZ := hS code _ ex s hs c _ w h nu
     have B4 : k_ C.P s fn.results.toList = some v ∧ s.h = I := by
      unfold k_
      cases qW : mapO (resV C.P s) fn.results.toList with
      | none => rw [qW] at Lp; cases Lp
      | some vs =>
       rw [qW] at Lp
       rcases vs with _ | ⟨v0, _ | ⟨v1, vs⟩⟩ <;> simp only [aj, aC] at Lp ⊢ <;> exact Lp
     have Cf := callsD_of_wp (u := .returning) (R := fun e w' => (∃ x, e = .returned x) ∧ ∃ c', Rel c' I w' ∧ b7 c w c' w') hf hb (Code.wp_mono (Q' := bodyPost C.P fn fun e w' => (∃ x, e = .returned x) ∧ ∃ c', Rel c' I w' ∧ b7 c w c' w') ?_ QZ)
     ·exact Cf.mono fun e u' w' ⟨h1, h2⟩ => ⟨h1, h2⟩
     ·rintro e a' w' ⟨rfl, hd, c', r1, r2, r3⟩
      have rS : a'.defers = [] ∧ ∃ x, (results fn a'.tmps).run C.P w' = .ok x w' ∧ (∃ y, Ending.returned x = .returned y) ∧ ∃ c', Rel c' I w' ∧ b7 c w c' w' :=
       ⟨hd, _, (yV r1 r2 B4.1).1, ⟨_, rfl⟩, c', by rw [← B4.2]; exact r1, r3⟩
      rcases hex with rfl | rfl
      ·simpa [bodyPost, exOf] using rS
      ·simpa [bodyPost, exOf] using rS
    split at J
    ·rename_i s hs
     exact done .normal s hs (.inl rfl) J
    ·rename_i s hs
     exact done .ret s hs (.inr rfl) J
    ·simp at J
theorem CX {P:Program}{o:Oper}{ρ:Operand→Value}{cl:Go.Call}(ho:o.op=.call cl)(J:cl.callee=.builtin .recover)(ha:cl.args.toList=[])(w:World): (execOp ρ o).run P w=.ok .recover w:=by
 have I:cl.args = #[]:=by apply gN; simpa using ha
 simp [execOp,ho,resolve,J,I,invoke,builtin]
theorem CE (hm:C.P.follows .mixedOrders=true)(hT:fA C){n g B3 Nq:Nat}{fn:Func}{code rest:Code}{args:List V}{ex:Ex}{I:St}{v:V}(hf:C.P.funcs[g]?=some fn)(hb:fn.body=some code)
 (J:quietParts code=some (B3,Nq,rest))(h1:B3<fn.ntmps)(h2:Nq<fn.ntmps)(hle:args.length≤fn.ntmps)
 (TW:ev C n rest ⟨((bindArgs args 0 .lf).set B3 (some .mg)).set Nq (some .mg),fn.ntmps,σ⟩=some (ex,I))(hex:ex=.normal∨ex=.ret)(B4:k_ C.P I fn.results.toList=some v)
 (h:Rel c σ w)(hw:∀x∈args,wf c x):
  CallsD C.P g (args.map (conc c)).toArray .returning w (fun e u' w'=>u'=.returning∧(∃x,e=.returned x)∧∃c',Rel c' I.h w'∧b7 c w c' w'):=by
 have hS:=(zX (C:=C) hm hT n).1
 unfold quietParts at J
 split at J
 ·rename_i id ops Oj
  split at J
  ·rename_i Td QM Wl
   split at J
   ·rename_i cl Yk t Yl q6 q2 q4 q9 q3 q5
    split at J
    ·rename_i q7 q8
     cases ht:Nat.beq t Yk with
     | false=>rw [ht] at J; cases J
     | true =>
      rw [ht,af] at J
      simp only [aj,aC] at J
      obtain ⟨rfl,rfl,rfl⟩:=J
      have:=beq_iff.1 ht
      subst this
      have T_:ops = #[Td,QM]:=by apply gN; simpa using Wl
      subst T_
      refine callsD_of_wpS hf hb fun c₀ cs hu=>(wpS_seq ?_)
      have QJ:=lB (c:=c) hle hw
      generalize hA:({ tmps:=(args.map (conc c)).toArray++Array.replicate (fn.ntmps-(args.map (conc c)).toArray.size) undef,defers:=[] }:Act)=A at QJ ⊢
      have Ym:A.defers=[]:=by rw [←hA]
      have Q3:=(QJ.put (d:=t) (v:=.mg) h1 (by simp [wf])).put (d:=Yl) (v:=.mg) h2 (by simp [wf])
      have vl:=hS _ _ _ _ TW c _ w h Q3
      rw [show conc c .mg=.nilIface from by simp [conc]] at vl
      have Wm:recoverD (c₀::cs)=none:=by simp [recoverD,hu]
      have h5:(A.put (some t) .nilIface).eval (.tmp t)=.nilIface:=by
       have:=(QJ.put (d:=t) (v:=.mg) h1 (by simp [wf])).val t
       rw [show conc c .mg=.nilIface from by simp [conc]] at this
       rw [show Act.eval (A.put (some t) .nilIface) (.tmp t)=(A.put (some t) .nilIface).tmps.getD t undef from rfl,this]
       simp [Env.v,aK,conc]
      refine wpS_region ?_
      rw [show List.range (#[Td,QM]:Array Oper).size=[0,1] from rfl]
      simp only [wpOpsS,lU,mQ,j4,Region.wanted,q2,q3,bB]
      rw [CX q6 q7 q8]
      simp only [Wm,q4]
      have Wn:(execOp (A.put (some t) .nilIface).eval QM).run C.P w=.ok (.value .nilIface) w:=by simp [execOp,q9,h5]
      rw [Wn]
      simp only [Oper.upon,q5,Exit.thenS]
      refine wpS_of_wp (Code.wp_mono ?_ vl)
      rintro e a' w' ⟨rfl,dd,c',r1,e2,p1⟩
      have rS:a'.defers=[]∧∃u',c₀::cs={ c₀ with mode:=u' }::cs∧∃v,(results fn a'.tmps).run C.P w'=.ok v w'∧(u'=.returning∧(∃x,Ending.returned v=.returned x)∧∃c',Rel c' I.h w'∧b7 c w c' w') :=
       ⟨dd.trans Ym,.returning,by rw [←hu],_,(yV r1 e2 B4).1,rfl,⟨_,rfl⟩,c',r1,p1⟩
      rcases hex with rfl | rfl
      ·exact rS
      ·exact rS
    ·cases J
   ·cases J
  ·cases J
 ·cases J
theorem I4 (hm : C.P.follows .mixedOrders = true) (hT : fA C) {n g : Nat} {args : List V} {dU : H} (hg : C.told g = none) (I : defCall C n g args σ = some dU) (h : Rel c σ w) (hw : ∀ x ∈ args, wf c x) :
  CallsD C.P g (args.map (conc c)).toArray .returning w (fun e u' w' => u' = .returning ∧ (∃ x, e = .returned x) ∧ ∃ c', Rel c' dU w' ∧ b7 c w c' w') ∧ ∀ (x : Array Value) (w : World), (callFunc g x).run C.P w = .ok (.enter g x) w := by
 unfold defCall at I
 rw [qZ] at I
 cases hf : C.P.funcs[g]? with
 | none => simp [hf] at I
 | some fn =>
  simp only [hf] at I
  cases hb : fn.body with
  | none => simp [hb] at I
  | some code =>
   simp only [hb] at I
   split at I
   ·rename_i B3 Nq rest hq
    cases hc : (Nat.blt B3 fn.ntmps && Nat.blt Nq fn.ntmps && Nat.ble args.length fn.ntmps && !(fn.name == "runtime.NumGoroutine")) with
    | false => rw [hc] at I; cases I
    | true =>
     rw [hc, af] at I
     simp only [aH, fK, aE, sS] at hc
     obtain ⟨⟨⟨c1, c2⟩, c3⟩, c4⟩ := hc
     refine ⟨?_, fun x w => by simp only [callFunc, Sem.run_bind, run_program, Result.andThen_ok, hf, c4, dV, bF, hb, Option.isNone_some, Sem.run_pure]⟩
     split at I
     ·rename_i s hs
      cases J : k_ C.P s fn.results.toList with
      | none => rw [J] at I; cases I
      | some v =>
       rw [J] at I
       simp only [aj] at I
       subst I
       exact CE hm hT hf hb hq c1 c2 c3 hs (.inl rfl) J h hw
     ·rename_i s hs
      cases J : k_ C.P s fn.results.toList with
      | none => rw [J] at I; cases I
      | some v =>
       rw [J] at I
       simp only [aj] at I
       subst I
       exact CE hm hT hf hb hq c1 c2 c3 hs (.inr rfl) J h hw
     ·cases I
   ·cases hc : callF C (ev C n) g args σ with
    | none => rw [hc] at I; cases I
    | some r =>
     obtain ⟨u, h₁⟩ := r
     rw [hc] at I
     simp only [aj] at I
     subst I
     exact Ns hm hT hg hc h hw
theorem Lq (hm:C.P.follows .mixedOrders=true)(hT:fA C){n:Nat}{fn:Func}{s:St}{v:V}{h':H}{c₀:Ctx}{w₀:World}(B4:k_ C.P ⟨s.env,s.au,h'⟩ fn.results.toList=some v):
  ∀(d:nZ) (h:H) (c:Ctx) (a:Act) (ds:List Deferred) (w:World),runDefs C n d h=some h'→Rel c h w→c7 c s.env s.au a→oO c d ds→b7 c₀ w₀ c w →
   Leaves C.P fn a.tmps (fun e w'=>∃c',e=.returned (conc c' v)∧wf c' v∧Rel c' h' w'∧b7 c₀ w₀ c' w') ds .returning w:=by
 intro d
 induction d with
 | nil =>
  intro h c a ds w J I he hd hs
  simp only [runDefs,aj] at J
  subst J
  have:ds=[]:=by rw [hd.eq]; rfl
  subst this
  obtain ⟨q1,q2⟩:=yV (s:=⟨s.env,s.au,h⟩) I he B4
  exact ⟨_,q1,c,rfl,q2,I,hs⟩
 | cons x d ih =>
  intro h c a ds w J I he hd hs
  obtain ⟨g,args,cap⟩:=x
  simp only [runDefs] at J
  cases ht:C.told g with
  | some t=>rw [ht] at J; cases J
  | none =>
   rw [ht] at J
   simp only at J
   cases hc:defCall C n g (args++cap) h with
   | none=>rw [hc] at J; cases J
   | some h₁ =>
    rw [hc] at J
    simp only at J
    have hG:=hd.CD (g,args,cap) (by simp)
    obtain ⟨k1,k2⟩:=I4 hm hT ht hc I (fun x hx=>by
     rcases List.mem_append.1 hx with hx | hx
     ·exact hG.1 x hx
     ·exact hG.2 x hx)
    have Yn:ds={ target:=.fn (.func g) (cap.map (conc c)).toArray,args:=(args.map (conc c)).toArray }::d.map fun x=>{ target:=.fn (.func x.1) (x.2.2.map (conc c)).toArray,args:=(x.2.1.map (conc c)).toArray }:=by rw [hd.eq]; rfl
    rw [Yn]
    refine leaves_cons (f:=g) (args:=((args++cap).map (conc c)).toArray) (by simp) ?_ ?_
    ·simp only [invoke]
     rw [show (args.map (conc c)).toArray++(cap.map (conc c)).toArray=((args++cap).map (conc c)).toArray from by simp]
     exact k2 _ w
    ·refine k1.mono ?_
     rintro e u' u6 ⟨rfl,⟨y,rfl⟩,c₁,r1,r2⟩
     have NX:oO c d (d.map fun x=>{ target:=.fn (.func x.1) (x.2.2.map (conc c)).toArray,args:=(x.2.1.map (conc c)).toArray }):=⟨rfl,fun z hz=>hd.CD z (by simp [hz])⟩
     exact ih h₁ c₁ a _ u6 J r1 (he.ext r2.ext) (NX.ext r2.ext) (hs.trans r2)
theorem EO (hm:C.P.follows .mixedOrders=true)(hT:fA C){n f:Nat}{args:List V}{v:V}{dU:H}(J:toldDefer C n f args σ=some (v,dU))(h:Rel c σ w)(hw:∀x∈args,wf c x):
  gw C.P f args c w v dU:=by
 unfold toldDefer at J
 cases hf:C.P.funcs[f]? with
 | none=>simp [hf] at J
 | some fn =>
  simp only [hf] at J
  cases hb:fn.body with
  | none=>simp [hb] at J
  | some code =>
   simp only [hb] at J
   cases hq:Nat.blt fn.ntmps args.length with
   | true=>rw [hq] at J; cases J
   | false =>
    rw [hq,ay] at J
    have hle:args.length≤fn.ntmps:=by
     rcases iD fn.ntmps args.length with h' | h'
     ·rw [fK.2 h'] at hq; cases hq
     ·exact h'
    have nu:=lB (c:=c) hle hw
    unfold gw
    refine calls_of_wp_defers hf hb ?_
    have done:∀ex s d,evTop C n 1000 code ⟨bindArgs args 0 .lf,fn.ntmps,σ⟩ []=some (ex,s,d)→(ex=.normal∨ex=.ret) →
      (match runDefs C n d s.h with
       | some h'=>match k_ C.P ⟨s.env,s.au,h'⟩ fn.results.toList with
        | some v=>some (v,h')
        | none=>none
       | none=>none)=some (v,dU) →
      code.wp C.P (bodyPostD C.P fn fun e w'=>∃c',e=.returned (conc c' v)∧wf c' v∧Rel c' dU w'∧b7 c w c' w')
       { tmps:=(args.map (conc c)).toArray++Array.replicate (fn.ntmps-(args.map (conc c)).toArray.size) undef,defers:=[] } w:=by
     intro ex s d hs hex I
     refine Code.wp_mono ?_ (Nr hm hT 1000 code _ [] ex s d hs c _ w h nu ⟨rfl,fun x hx=>by cases hx⟩)
     rintro e a' w' ⟨rfl,c',r1,r2,r3,r4⟩
     cases fU:runDefs C n d s.h with
     | none=>rw [fU] at I; cases I
     | some h' =>
      rw [fU] at I
      simp only at I
      cases JR:k_ C.P ⟨s.env,s.au,h'⟩ fn.results.toList with
      | none=>rw [JR] at I; cases I
      | some v' =>
       rw [JR] at I
       simp only [aj,aC] at I
       obtain ⟨rfl,rfl⟩:=I
       have hl:=Lq hm hT JR d s.h c' a' a'.defers w' fU r1 r2 r4 r3
       rcases hex with rfl | rfl
       ·simpa [bodyPostD,exOf] using hl
       ·simpa [bodyPostD,exOf] using hl
    split at J
    ·cases J
    ·rename_i ex s d dw hs
     refine done ex s d hs ?_ J
     cases ex with
     | normal=>exact .inl rfl
     | ret=>exact .inr rfl
     | exit i=>exact absurd rfl (dw i)
    ·cases J
end
def sdep : Code→Nat
 | .seq a b=>1+max (sdep a) (sdep b)
 | _=>1
def fc (C:b9)(au:Nat)(code:Code)(E:List (Nat×V))(h:H)(d:nZ)(Q:Ex→List (Nat×V)→H→nZ→Prop): Prop :=
 ∀env,iq env E→∃N0 ex I h' E' J,(∀N m,N0≤N→sdep code≤m→evTop C N m code ⟨env,au,h⟩ d=some (ex,⟨I,au,h'⟩,J))∧iq I E'∧Q ex E' h' J
section
variable {C:b9} {au:Nat} {E:List (Nat×V)} {h:H} {d:nZ} {Q:Ex→List (Nat×V)→H→nZ→Prop}
def noDef : List Oper→Bool
 | []=>true
 | o::l=>(match o.op with
  | .defer _=>false
  | _=>true)&&noDef l
def noDefC : Code→Bool
 | .seq a b=>noDefC a&&noDefC b
 | .region _ ops false=>noDef ops.toList
 | _=>true
theorem evOpsD_of {self:Self}{L:List Oper}{d:nZ}: ∀ {l:List Oper} {s s':St},noDef l=true→evOps C self L l s=some s'→evOpsD C self L l s d=some (s',d):=by
 intro l
 induction l with
 | nil=>intro s s' _ h; simp only [evOps,aj] at h; subst h; rfl
 | cons o l ih =>
  intro s s' I h
  simp only [noDef,aH] at I
  have key:(cond (wantedV L s.env o) (match evOp C self s.env s.h o with
    | some (v,h)=>match s.put o.dst v h with
     | some s'=>evOpsD C self L l s' d
     | none=>none
    | none=>none) (match s.put o.dst bJ s.h with
    | some s'=>evOpsD C self L l s' d
    | none=>none))=some (s',d):=by
   simp only [evOps] at h
   cases hw:wantedV L s.env o with
   | true =>
    rw [hw,af] at h
    rw [af]
    cases ho:evOp C self s.env s.h o with
    | none=>rw [ho] at h; cases h
    | some r =>
     obtain ⟨v,h1⟩:=r
     rw [ho] at h
     simp only at h ⊢
     cases J:s.put o.dst v h1 with
     | none=>rw [J] at h; cases h
     | some s1=>rw [J] at h; exact ih I.2 h
   | false =>
    rw [hw,ay] at h
    rw [ay]
    cases J:s.put o.dst bJ s.h with
    | none=>rw [J] at h; cases h
    | some s1=>rw [J] at h; exact ih I.2 h
  unfold evOpsD
  split
  ·rename_i cl ik
   rw [ik] at I
   cases I.1
  ·exact key
theorem Nt : ∀ {code:Code} {n:Nat} {s:St} {ex:Ex} {s':St} {d:nZ},noDefC code=true→ev C n code s=some (ex,s')→∀N m,n≤N→sdep code≤m→evTop C N m code s d=some (ex,s',d):=by
 have leaf:∀ {code:Code} {n:Nat} {s:St} {ex:Ex} {s':St} {d:nZ} {N m:Nat},(∀m,evTop C N (m+1) code s d=match tD C N code s with
   | some (ex,s')=>some (ex,s',d)
   | none=>none)→ev C n code s=some (ex,s')→n≤N→1≤m→evTop C N m code s d=some (ex,s',d):=fun {code n s ex s' d N m} he I J hm=>by
  obtain ⟨k,rfl⟩:∃k,m=k+1:=⟨m-1,by omega⟩
  rw [he,qZ,dY J _ _ _ I]
 intro code
 induction code with
 | seq a b Yo Yp =>
  intro n s ex s' d hn I N m J hm
  simp only [noDefC,aH] at hn
  simp only [sdep] at hm
  obtain ⟨k,rfl⟩:∃k,m=k+1:=⟨m-1,by omega⟩
  cases n with
  | zero=>cases I
  | succ n =>
   rw [gP] at I
   simp only [evStep] at I
   cases ha:ev C n a s with
   | none=>rw [ha] at I; cases I
   | some r =>
    obtain ⟨e1,s1⟩:=r
    have h1:=Yo (d:=d) hn.1 ha N k (by omega) (by omega)
    simp only [evTop,h1]
    rw [ha] at I
    cases e1 with
    | normal=>exact Yp hn.2 I N k (by omega) (by omega)
    | exit i=>simp only [aj,aC] at I; obtain ⟨rfl,rfl⟩:=I; rfl
    | ret=>simp only [aj,aC] at I; obtain ⟨rfl,rfl⟩:=I; rfl
 | region id ops draw =>
  intro n s ex s' d hn I N m J hm
  cases draw with
  | true=>exact leaf (fun m=>rfl) I J hm
  | false =>
   obtain ⟨k,rfl⟩:∃k,m=k+1:=⟨m-1,by have:1≤m:=hm; omega⟩
   cases n with
   | zero=>cases I
   | succ n =>
    rw [gP] at I
    simp only [evStep,ay] at I
    cases ho:evOps C (ev C n) ops.toList ops.toList s with
    | none=>rw [ho] at I; cases I
    | some s1 =>
     rw [ho] at I
     simp only [aj,aC] at I
     obtain ⟨rfl,rfl⟩:=I
     have h2:=nA (dY (C:=C) (show n≤N by omega)) _ _ _ ho
     simp only [evTop,qZ,evOpsD_of (d:=d) hn h2]
 | _=>intro n s ex s' d hn I N m J hm; exact leaf (fun m=>rfl) I J hm
theorem fc.of_wp {code:Code}(J:noDefC code=true)(hw:WP C au code E h fun ex E' h'=>Q ex E' h' d): fc C au code E h d Q:=by
 intro env hE
 obtain ⟨N,ex,I,h',E',h1,h2,h3⟩:=hw env hE
 exact ⟨N,ex,I,h',E',d,fun M m hM hm=>Nt J h1 M m hM hm,h2,h3⟩
theorem fc.seq {a b:Code}(hw:fc C au a E h d fun ex E' h' J=>match ex with
  | .normal=>fc C au b E' h' J Q
  | ex=>Q ex E' h' J): fc C au (.seq a b) E h d Q:=by
 intro env hE
 obtain ⟨N,ex,I,h',E',J,h1,h2,h3⟩:=hw env hE
 have one:∀M m,N≤M→sdep (.seq a b)≤m+1→evTop C M m a ⟨env,au,h⟩ d=some (ex,⟨I,au,h'⟩,J):=fun M m hM hm=>h1 M m hM (by simp only [sdep] at hm; omega)
 have out:(match ex with | .normal=>False | _=>True)→Q ex E' h' J→∃N0 ex I h' E' J,(∀N m,N0≤N→sdep (.seq a b)≤m→evTop C N m (.seq a b) ⟨env,au,h⟩ d=some (ex,⟨I,au,h'⟩,J))∧iq I E'∧Q ex E' h' J:=fun hx hq=>by
  refine ⟨N,ex,I,h',E',J,fun M m hM hm => ?_,h2,hq⟩
  obtain ⟨k,rfl⟩:∃k,m=k+1:=⟨m-1,by simp only [sdep] at hm; omega⟩
  simp only [evTop,one M k hM hm]
  cases ex with
  | normal=>exact hx.elim
  | exit i=>rfl
  | ret=>rfl
 cases ex with
 | normal =>
  obtain ⟨K,kB,EP,JT,E2,d2,g1,g2,g3⟩:=h3 I h2
  refine ⟨max N K,kB,EP,JT,E2,d2,fun M m hM hm => ?_,g2,g3⟩
  obtain ⟨k,rfl⟩:∃k,m=k+1:=⟨m-1,by simp only [sdep] at hm; omega⟩
  simp only [evTop,one M k (by omega) hm]
  exact g1 M k (by omega) (by simp only [sdep] at hm; omega)
 | exit i=>exact out aa h3
 | ret=>exact out aa h3
theorem fc.defer {id:Nat}{ops:Array Oper}{I J:Oper}{x1 y:Operand}{cl:Go.Call}{k g:Nat}{v:V}{first cap args:List V}(hL:ops.toList=[I,J])(g1:I.guard=none)(d1:I.dst=some k)(p1:I.op=.move x1)(hk:Nat.blt k au=true)(hx:lookO E x1=some v)
 (g2:J.guard=none)(d2:J.dst=none)(p2:J.op=.defer cl)(hc:cl.callee=.value y)(hy:lookO ((k,v)::E) y=some (.fn (.func g) first cap))(ha:lookArgs ((k,v)::E) cl.args.toList=some args)
 (hq:Q .normal ((k,v)::E) h ((g,first++args,cap)::d)): fc C au (.region id ops false) E h d Q:=by
 intro env hE
 have Sy:iq (env.set k (some v)) ((k,v)::E):=hE.set _ _
 refine ⟨0,.normal,env.set k (some v),h,(k,v)::E,(g,first++args,cap)::d,fun M m _ hm => ?_,Sy,hq⟩
 obtain ⟨j,rfl⟩:∃j,m=j+1:=⟨m-1,by have:1≤m:=hm; omega⟩
 have e1:evOpsD C (tD C M) [I,J] [I,J] ⟨env,au,h⟩ d=some (⟨env.set k (some v),au,h⟩,(g,first++args,cap)::d):=by
  have Dp:wantedV [I,J] env I=true:=by simp [wantedV,g1]
  have Sl:evOp C (tD C M) env h I=some (v,h):=by simp only [evOp,p1,bH hE hx]; rfl
  have IN:St.put ⟨env,au,h⟩ I.dst v h=some ⟨env.set k (some v),au,h⟩:=by simp only [St.put,d1,hk,af]
  rw [evOpsD]
  simp only [p1,Dp,af,Sl,IN]
  rw [evOpsD]
  simp only [p2,g2,d2,hc,jP Sy ha,bH Sy hy,evOpsD]
 simp only [evTop,hL,e1]
theorem ER {f:FuncId}{fn:Func}{code:Code}{args:List V}{R:V→H→Prop}(hf:C.P.funcs[f]?=some fn)(hb:fn.body=some code)(hl:Nat.blt fn.ntmps args.length=false)(OJ:sdep code≤1000)
 (hw:fc C fn.ntmps code (argE args 0) h [] fun ex E' h' d'=>(match ex with | .exit _=>False | _=>True)∧∃J v,(∃N0,∀N,N0≤N→runDefs C N d' h'=some J)∧jZ C.P E' J fn.results.toList=some v∧R v J):
  ∃v J,(∃N0,∀N,N0≤N→toldDefer C N f args h=some (v,J))∧R v J:=by
 obtain ⟨N0,ex,Nu,h',E',d',h1,J,hx,h3,v,⟨N1,hr⟩,I,hR⟩:=hw _ (By args)
 refine ⟨v,h3,⟨max N0 N1,fun N hN => ?_⟩,hR⟩
 have e1:=h1 N 1000 (by omega) OJ
 have e2:=hr N (by omega)
 have e3:k_ C.P ⟨Nu,fn.ntmps,h3⟩ fn.results.toList=some v:=by
  unfold jZ at I
  cases hm:mapO (resE C.P E' h3) fn.results.toList with
  | none=>rw [hm] at I; cases I
  | some vs =>
   rw [hm] at I
   have ya:=Bx (P:=C.P) (s:=⟨Nu,fn.ntmps,h3⟩) J hm
   unfold k_
   rw [ya]
   exact I
 unfold toldDefer
 simp only [hf,hb,hl,ay,e1]
 cases ex with
 | exit i=>exact hx.elim
 | normal=>simp only [e2,e3]
 | ret=>simp only [e2,e3]
theorem FX {g:FuncId}{fn:Func}{code:Code}{args:List V}{v:V}{J:H}(ht:C.told g=none)(hf:C.P.funcs[g]?=some fn)(hb:fn.body=some code)(hq:quietParts code=none)(hc:iM C g args h v J): ∃I,∀N,I≤N→runDefs C N [(g,args,[])] h=some J:=by
 obtain ⟨I,h0⟩:=hc
 refine ⟨I,fun N hN => ?_⟩
 have e:=qa (dY (C:=C) hN) h0
 simp only [runDefs,ht,defCall,hf,hb,hq,ff,qZ,e]
end
def ES (f:FuncId)(args:List V)(h:H)(r:V×H): Prop:=∃I,∀N,I≤N→toldDefer CB N f args h=some r
theorem Call.defer {told:cz}{f:FuncId}{fn:Func}{args:List V}{h:H}{R:V→H→Prop}(ht:told f=some (lM Tryz.prog f (ES f)))(hf:Tryz.prog.funcs[f]?=some fn)(hb:fn.body.isSome=true)
 (hd:∃v I,(∃J,∀N,J≤N→toldDefer CB N f args h=some (v,I))∧R v I): Call ⟨Tryz.prog,told⟩ f args h R:=by
 obtain ⟨v,I,⟨J,h0⟩,hR⟩:=hd
 obtain ⟨r,e1,N1,h1⟩:=Ct (P:=Tryz.prog) (f:=f) (gU:=ES f) (args:=args) (h:=h) (r:=(v,I)) ⟨J,h0⟩ (fun c w pG hw=>EO (C:=CB) AI yJ (h0 J (aD _)) pG hw)
 have:r=(v,I):=by
  have a:=h0 (max J N1) (by omega)
  have b:=h1 (max J N1) (by omega)
  rw [a] at b
  exact (bE b).symm
 subst this
 exact ⟨v,I,iM.told ht hf hb e1,hR⟩
section
variable {P:Program} {h:H} {S:List aq} {x y:V} {α:Type}
theorem Qo (s:Sat h S){t e:TypeId}{z:V}(hu:P.underlying t=some (.slice e))(hz:zeroT P e=some z)(hk:bk P e=some 1)(hl:z.cells.length=1)(hx:x.cells=[x])(hy:y.cells=[y])(I:storable x=true)(J:storable y=true):
  ∃v h',buildSliceV P h t 2 [(0,x),(1,y)]=some (v,h')∧Sat h' (.arr 1 v [x,y]::S):=by
 refine ⟨.sl h.next 0 2 (.exact 2),newRow h [x,y],?_,?_⟩
 ·obtain ⟨z0,rO⟩:∃z0,z.cells=[z0]:=by
   match hq:z.cells with
   | []=>rw [hq] at hl; cases hl
   | [z0]=>exact ⟨z0,rfl⟩
   | _::_::_=>rw [hq] at hl; simp at hl
  simp only [buildSliceV,hu,hk,hz,rO]
  rw [show (Nat.beq [z0].length 1&&Nat.ble (2*1) 65536&&Nat.ble 1 1)=true by rfl,af]
  have e1:repeatL [z0] 2=[z0,z0]:=by simp [repeatL]
  simp only [fillV,e1,hx,hy,aN,bG]
  show cond ([x,y].all storable) (some (V.sl h.next 0 2 (Cap.exact 2),newRow h [x,y])) none=_
  simp only [iB,i_,I,J]
  rfl
 ·refine (s.new _).hU fun m r hm=>⟨by simp [I,J],.inr ⟨h.next,2,.exact 2,2,[],rfl,?_,rfl,rfl,rfl,rfl,aD _⟩⟩
  have hm:m h.next=some (.cells 2 [x,y] false):=hm
  rw [hm]; rfl
theorem Qp {f:V→α→aq}{us:List V}{cs:List α}{i:Nat}{c:α}(J:∀v x,aQ (f v x))(s:Sat h (each f us cs::S))(I:cs[i]?=some c): ∃u,us[i]?=some u∧Sat h (f u c::each f us cs::S):=by
 obtain ⟨a,b,q1,q2,q3⟩:=s.at (k:=0) rfl
 have hl:=DZ q3
 have hi:=(List.getElem?_eq_some_iff.1 I).1
 have hu:us[i]?=some (us[i]'(by omega)):=aM _
 exact ⟨_,hu,(s.dup (aQ.each J _ _)).hU fun a b h=>D1 h hu I⟩
theorem Qq {S:Prop}: cT (pu S) (cY .bn []):=fun _ _ _=>.inl ⟨fun _ h=>(by cases h),.inl ⟨.inl rfl,rfl⟩⟩
end
theorem uI {kd:Nat}: buildV Tryz.prog 48 [(0,.int .i64 (kd:Int))]=some (.agg (nL (kd:Int) 0 0 0 .bn .bn)):=by rw [Mp]; rfl
section
variable {told:cz} {h:H} {S:List aq} {X Y:aq} {N B K M n g a p q r bf:Nat} {v x y rv op cv:V} {us:List V} {b l c R data:List Nat} {kd lk link extra aP:Nat} {cs:List (List Nat)} {ε ε':aF} {now:List (Int×List Nat)} {A:aF→aq} {pg:aF→Int→List Nat}
theorem dF.done (hw:NW N now)(hd:∀m,pgA ε' m=match lookL m now with | some b=>cX b aP | none=>pgA ε m){i:Int}(I:dF (dh now ε i) kd link extra cs): dF (pgA ε' i) kd link extra cs:=by
 rw [hd]
 unfold dh at I
 cases J:lookL i now with
 | none=>rw [J] at I; exact I
 | some b =>
  rw [J] at I
  obtain ⟨k1,k2,_⟩:=Cy (n:=aP) I.len
  exact I.tail k2 k1
theorem eR.done {R M:List Nat}(hw:NW N now)(hd:∀m,pgA ε' m=match lookL m now with | some b=>cX b aP | none=>pgA ε m)(I:eR n R M (dh now ε)): eR n R M (pgA ε'):=by
 obtain ⟨ex,J⟩:=I.head
 obtain ⟨kd,lk,kB,h1⟩:=I.marks
 exact ⟨⟨ex,J.done hw hd⟩,I.rl,⟨kd,lk,kB,h1.done hw hd⟩,I.ml,I.n1,I.n2,I.own,I.hi⟩
theorem yW (hT:W told)(hB:B≤900)(I:EI N B ε)(hw:NW N now)(hN:N≤1024)(h1:1≤kd)(h2:kd≤7)(hd:sk K M ε)(hf:K+520*N+28≤M)(s:Sat h (GA g a p q r data bf now ε::S)):
  Call ⟨Tryz.prog,told⟩ 26 [.ptr g 0,.agg (nL (kd:Int) 0 0 0 .bn .bn)] h fun v h'=>∃(aP:Nat) (ε':aF),v=.aX [.int .u64 (aP:Int),.int .i64 0]∧EI N (B+2) ε'∧(∀m,pgA ε' m=match lookL m now with | some b=>cX b aP | none=>pgA ε m)∧sk (K+520*N+28) M ε' ∧
   Sat h' (fy g a now true::SA a p q r .cO data bf ε'::S):=by
 have wj:=I.cA
 have eA:=I.el.size
 have Z_:=I.many
 have s:=cR.1 s
 have s:Sat h (fy g a now false::dR a p q r (.ptr g 0) data bf::dQ r p q ε.1::cf q p ε.2.1::bz p ε.2.2::S):=s
 have s:=(s.gy (φ:=True) aa).mB (k:=4)
 refine (Qb (nX:=0) (data:=[]) hT (s.ae [2,2,2,2,2,1,0]) Qq rfl I.ok (by omega) (fun e he=>g9 (hw.good e he).1) (by have:=hw.len; omega) (fun n hn=>by have:=hw.keys n hn; omega) (by decide) (by decide) (by decide) (fh _) I.el.log (by omega)).mono ?_
 rintro v h ⟨aP,e,cl,ε',hr,rfl,s⟩
 obtain ⟨rfl,rfl,J⟩:=hr.fits I (by omega) hw hN h1 h2 (by decide) hd hf
 rcases I.done (by omega) hw (by omega) (by omega) hr with ⟨ik,_⟩ | ⟨_,_,pQ,nO⟩
 ·cases ik
 ·have s:Sat h (fy g a now true::dR a p q r .cO data bf::dQ r p q ε'.1::cf q p ε'.2.1::bz p ε'.2.2::pu True::S):=s
  have s2:Sat h (SA a p q r .cO data bf ε'::fy g a now true::pu True::S):=cR.2 (s.ae [1,1,1,1,0])
  exact ⟨aP,ε',rfl,pQ,nO,J,(s2.ae [1]).del 2⟩
noncomputable def Yq : Code:=eC [1,1,1,0,1,0,0] ((Tryz.f73.body).getD .skip)
theorem Lr (hT:W told)(eS:26+4*cs.length+tot cs≤512)(OB:us.length=cs.length): ∀(m i:Nat) (v:V) (b:List Nat) (h:H) (E:List (Nat×V)) (Q:Ex→List (Nat×V)→H→Prop),i+m=cs.length→dF b kd link extra (cs.take i) →
  Sat h (aU v b::each (fun v c=>.cy v c) us cs::.arr 1 cv us::S)→Has E [(7,v),(22,cv),(23,.int .i64 (cs.length:Int)),(24,.int .i64 (i:Int))] →
  (∀v' b' E' h',dF b' kd link extra cs→Has E' [(7,v')]→Sat h' (aU v' b'::each (fun v c=>.cy v c) us cs::.arr 1 cv us::S)→Q (.exit 0) E' h')→WP ⟨Tryz.prog,told⟩ 38 (.loop Yq) E h Q:=by
 intro m
 induction m with
 | zero =>
  intro i v b h E Q hi hp s hE hq
  refine WP.loop (WP.has hE (zg rfl (zh rfl (ag rfl rfl aR) (by simp; omega) ?_)))
  exact zk 3 rfl (WP.exit (hq v b _ _ (by rw [show cs.take i=cs from dG (by omega)] at hp; exact hp) ⟨rfl,aa⟩ s))
 | succ m ih =>
  intro i v b h E Q hi hp s hE hq
  have I:cs[i]?=some (cs[i]'(by omega)):=aM _
  generalize (cs[i]'(by omega))=c at I
  obtain ⟨u,hu,s⟩:=Qp (fun _ _=>aQ.cy _ _) (s.ae [1]) I
  dsimp only [aZ,bringA] at s
  obtain ⟨id,off,e1,e2⟩:=gQ (P:=Tryz.prog) s (k:=3) (i:=i) (c:=u) rfl hu gm kI
  have K7:=lQ I
  have yo:=lR (cs:=cs) (i:=i+1)
  have hlen:(cs.take i).length=i:=by rw [fe]; omega
  have Sz:cs.take (i+1)=cs.take i++[c]:=by rw [qp,I]; rfl
  refine WP.loop (WP.has hE (zg rfl (zt rfl (ag rfl rfl aR) (by simp; omega) ?_)))
  refine zk 5 rfl (WP.block (zK 3 rfl (zo rfl (cn (r:=.ptr id off) rfl rfl e1) (zl rfl (e2 _ bK) (zk 7 rfl ?_)))))
  have J:=G9 (told:=told) hT (s.ae [2,0]) (bj _ _) (c8 _ _) hp (by rw [hlen]; omega)
  rw [hlen] at J
  refine zc rfl (J) ?_
  rintro r h ⟨u',b',rfl,m5,s⟩
  rw [←Sz] at m5
  refine zk 4 rfl (zv (zr rfl (zb rfl (by exact bp (aA (by omega) (by omega))) ?_)))
  refine zm rfl (zv ?_)
  exact ih (i+1) u' b' _ _ Q (by omega) m5 (((s.ae [0,2,2]).del 4).del 3) ⟨rfl,rfl,rfl,rfl,aa⟩ hq
theorem Hl (hT:W told)(U0:kd≤255)(AP:lk<4294967296)(I:26+4*cs.length+tot cs≤512)(J:us.length=cs.length)(s:Sat h (each (fun v c=>.cy v c) us cs::.arr 1 cv us::S)):
  Call ⟨Tryz.prog,told⟩ 73 [.int .i64 (kd:Int),.int .i64 (lk:Int),cv] h fun r h'=>∃b',dF b' kd lk 0 cs∧Sat h' (aU r b'::S):=by
 refine Call.of_wp (hT.free _ rfl) Tryz.func73 rfl rfl (zK 7 rfl (zc rfl (yS (kd:=kd) hT s U0) ?_))
 rintro r h ⟨u,b,rfl,hb,s⟩
 refine zk 10 rfl (zc rfl (G8 (lk:=lk) (ex:=0) hT s (bj _ _) hb AP (by decide)) ?_)
 rintro r h ⟨u2,b2,rfl,rR,s⟩
 refine zk 9 rfl (zo rfl (aO rfl rfl rfl (s.dJ (n:=cs.length) (j:=3) rfl (by rw [J,cC]) (by decide) gm)) ?_)
 refine zk 2 rfl (WP.block ?_)
 refine Lr hT I J cs.length 0 u2 b2 _ _ _ (by omega) rR (s.ae [0,1,1]) ⟨rfl,rfl,rfl,rfl,aa⟩ (fun v' b' E' h' uQ hE s' => ?_)
 have s:=s'
 exact WP.has hE (zK 5 rfl (WP.ret ⟨aa,_,rfl,b',uQ,((s.del 3).del 2).del 1⟩))
theorem I5 (J:W told)(s:Sat h (X::S))(hX:cT X (cY v b))(hl:b.length=512)(hg:bV b=false): Call ⟨Tryz.prog,told⟩ 140 [v] h fun r h'=>r=.aX [.bn,.int .i64 4]∧Sat h' (X::S):=by
 refine Call.of_wp (J.free _ rfl) Tryz.func140 rfl rfl (zK 8 rfl (zc rfl (rC J s hX (by omega)) ?_))
 rintro r h' ⟨s,(⟨I,rfl⟩ | ⟨_,rfl⟩)⟩
 ·rw [hg] at I; cases I
 refine zk 3 rfl ?_
 refine az.cJ s rfl rfl rfl (cE iR) (fun p4 h s => ?_)
 refine zS rfl (s.iw (j:=0) rfl br rfl rfl) (fun h s => ?_)
 refine zk 6 rfl (zt rfl (ag rfl rfl aI) (by decide) ?_)
 exact zk 8 rfl (WP.ret ⟨aa,_,rfl,rfl,s.drop⟩)
theorem Ls (hT:W told)(hR:mo told N B rv A pg)(J:EI N B ε)(hN:1≤N)(hl:(pg ε 0).length=512)(hg:bV (pg ε 0)=false)(s:Sat h (A ε::S)):
  Call ⟨Tryz.prog,told⟩ 91 [rv] h fun v h'=>∃ε',v=.aX [.bn,.int .i64 0,.bool false,.int .i64 0]∧EI N B ε'∧Sm N ε ε'∧Sat h' (A ε'::S):=by
 obtain ⟨ty,u,f,rfl,hm,fU⟩:=hR.iface
 refine Call.of_wp (hT.free _ rfl) Tryz.func91 rfl rfl (zK 10 rfl (az.any rfl rfl rfl (OpR.invoke rfl rfl rfl hm rfl (fU J (by decide) (by omega) s)) ?_))
 rintro v h ⟨u,ε',rfl,I,hs,s⟩
 refine zk 10 rfl (zh rfl (ag rfl rfl aI) (rfl) (zk 6 rfl (zc rfl (I5 hT s (bj _ _) hl hg) ?_)))
 rintro v h ⟨rfl,s⟩
 refine zk 8 rfl (WP.drawn [ak,ak,ak,ak,ak,ak,ak,ak,some (0,2),some (0,2),some (0,2),ak,ak,ak,ak,ak,ak,ak,ak,ak,ak,ak] rfl (by kernel_rfl) (by kernel_rfl) ?_)
 refine zM rfl (aB.yc rfl rfl rfl rfl (ag rfl rfl aI) (by decide) ?_)
 refine zM rfl (aB.no (e:=false) rfl rfl rfl rfl (aB.no (e:=false) rfl rfl rfl rfl (aB.no (e:=false) rfl rfl rfl rfl (zO rfl (m8 rfl rfl) (zM rfl (aB.no (e:=false) rfl rfl rfl rfl (aB.no (e:=false) rfl rfl rfl rfl (aB.no (e:=false) rfl rfl rfl rfl (aB.no (e:=true) rfl rfl rfl rfl (aB.no (e:=true) rfl rfl rfl rfl (aB.no (e:=false) rfl rfl rfl rfl (zO rfl (m8 rfl rfl) (zM rfl (aB.no (e:=false) rfl rfl rfl rfl (aB.no (e:=false) rfl rfl rfl rfl (aB.no (e:=false) rfl rfl rfl rfl (aB.no (e:=false) rfl rfl rfl rfl (aB.no (e:=false) rfl rfl rfl rfl (zO rfl (m8 rfl rfl) ?_)))))))))))))))))))
 refine aB.nil ⟨⟨aa,aa,aa,aa,aa,aa,aa,aa,fun _ _=>.inl rfl,fun _ _=>.inl rfl,fun _ _=>.inl rfl,aa,aa,aa,aa,aa,aa,aa,aa,aa,aa,aa,aa⟩,?_⟩
 exact zK 8 rfl (WP.ret ⟨aa,_,rfl,ε',rfl,I,hs,s.drop⟩)
theorem CY (hT:W told)(hR:mo told N B rv A pg)(J:EI N B ε)(hN:1≤N)(hl:(pg ε 0).length=512)(hg:bV (pg ε 0)=false)(s:Sat h (A ε::S)):
  Call ⟨Tryz.prog,told⟩ 37 [rv] h fun v h'=>∃ε',v=.aX [.bool false,.int .i64 0]∧EI N B ε'∧Sm N ε ε'∧Sat h' (A ε'::S):=by
 refine Call.of_wp (hT.free _ rfl) Tryz.func37 rfl rfl (zK 8 rfl (zc rfl (Ls hT hR J hN hl hg s) ?_))
 rintro v h ⟨ε',rfl,I,hs,s⟩
 exact zk 17 rfl (WP.ret ⟨aa,_,rfl,ε',rfl,I,hs,s⟩)
end
end Go.Proofs.YtefepnnfphdkpaaGreat.Am
