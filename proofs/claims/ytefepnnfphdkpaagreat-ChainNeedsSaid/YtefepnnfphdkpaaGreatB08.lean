/- ChainNeeds: a part of its proof; conditions: its statement's. -/
import Derived.Test.YtefepnnfphdkpaaGreatB07
import Derived.RangeFuncIn
import Derived.RangeFuncRecord
import Derived.RangeFuncCalls
import Derived.OrdersIn
import Derived.LoopNIn
import Derived.Maps.RangeRun
import Derived.Lib.OthersKept
namespace Go.Proofs.YtefepnnfphdkpaaGreat.Am
open Go
def exOf : Ex→Exit
 | .normal=>.normal
 | .exit i=>.exit i
 | .ret=>.ret
def B9 (P:Program)(self:Self): Prop:=∀(code:Code) (s:St) (ex:Ex) (s':St),self code s=some (ex,s') →
 ∀(c:Ctx) (a:Act) (w:World),Rel c s.h w→cU c s.env s.au a →
  code.wp P (fun e I w'=>e=exOf ex∧I.defers=a.defers∧∃c',Rel c' s'.h w'∧cU c' s'.env s'.au I∧bU c w c' w') a w
def Fr (r:Option Nat): Fence:={ fn:=fun _=>True,depth:=none,alive:=false,round:=r }
theorem B_ {r:Option Nat}{n:Nat}{P:Program}{f:FuncId}{args:Array Value}{w:World}{R:Ending→World→Prop}(h:Calls P f args w R): CallsIn (Fr r) n P f args w R :=
 (callsIn_wide (n:=n)).2 h
def g9 (P:Program)(self:Self): Prop:=∀(code:Code) (s:St) (ex:Ex) (s':St),self code s=some (ex,s') →
 ∀(r:Option Nat) (c:Ctx) (a:Act) (w:World),Rel c s.h w→cU c s.env s.au a →
  code.wpIn (Fr r) 0 P (fun e I w'=>e=exOf ex∧I.defers=a.defers∧∃c',Rel c' s'.h w'∧cU c' s'.env s'.au I∧bU c w c' w') a w
theorem g9.wide {P:Program}{self:Self}(h:g9 P self): B9 P self:=fun code s ex s' hs c a w I he=>wpIn_wide.1 (h code s ex s' hs none c a w I he)
def fV (P:Program)(f:FuncId)(args:List V)(c:Ctx)(w:World)(v:V)(I:H): Prop :=
 Calls P f (args.map (conc c)).toArray w fun e w'=>∃c',e=.returned (conc c' v)∧wf c' v∧Rel c' I w'∧bU c w c' w'
def EA (P : Program) (f : Nat) (g : List V → H → Option (V × H)) : Prop :=
 ((∃ fn, P.funcs[f]? = some fn ∧ fn.body.isSome = true ∧ (fn.name == "runtime.NumGoroutine") = false) ∧
  ∀ (args : List V) (σ : H) (v : V) (I : H), g args σ = some (v, I) → ∀ (c : Ctx) (w : World), Rel c σ w → (∀ x ∈ args, wf c x) → fV P f args c w v I) ∨
 ((∃ fn, P.funcs[f]? = some fn ∧ fn.body.isSome = false) ∧
  ∀ (args : List V) (σ : H) (v : V) (I : H), g args σ = some (v, I) → ∀ (c : Ctx) (w : World), Rel c σ w → (∀ x ∈ args, wf c x) →
   ∃ c' w', (callFunc f (args.map (conc c)).toArray).run P w = .ok (.value (conc c' v)) w' ∧ Rel c' I w' ∧ bU c w c' w' ∧ wf c' v)
def eU (C:bX): Prop:=∀f g,C.told f=some g→EA C.P f g
section
variable {C:bX} {self:Self} {c:Ctx} {σ:H} {w:World}
theorem pU : ∀(l:List V) (k:Nat) (e:Env) (j:Nat),T.get (bindArgs l k e) j=if k≤j∧j<k+l.length then l[j-k]? else T.get e j:=by
 intro l
 induction l with
 | nil=>intro k e j; simp only [bindArgs,bF]; rw [ai (by omega)]
 | cons v l ih =>
  intro k e j
  simp only [bindArgs,ih,aQ,aJ]
  by_cases I:j=k
  ·subst I
   rw [ai (by omega),ax rfl,ax (by omega)]
   simp
  ·by_cases J:k+1≤j∧j<k+1+l.length
   ·rw [ax J,ax (by omega)]
    have:j-k=(j-(k+1))+1:=by omega
    rw [this]; simp
   ·rw [ai J,ai I,ai (by omega)]
theorem kE {args:List V}{n:Nat}(hle:args.length≤n)(hw:∀x∈args,wf c x):
  cU c (bindArgs args 0 .lf) n { tmps:=(args.map (conc c)).toArray++Array.replicate (n-(args.map (conc c)).toArray.size) undef,defers:=[] } where
 size:=by simp; omega
 val:=fun t=>by
  simp only [Env.v,pU,T.g_,gy,true_and,dB,jA]
  by_cases I:t<args.length
  ·rw [ax I]
   rw [aY I]
   simp [Array.getD,I]
   omega
  ·rw [ai I,mB]
   simp [Array.getD,Array.getElem_append,I]
 tj:=fun t=>by
  simp only [Env.v,pU,T.g_,gy,true_and,dB,jA]
  by_cases I:t<args.length
  ·rw [ax I,aY I]
   exact hw _ (rN I)
  ·rw [ai I]; simp [bE,wf,dS]
def resSem (tmps:Array Value): ResultVar→Sem Value
 | .tmp t=>pure (tmps.getD t undef)
 | .cell x t=>do loadVar t (← asAddr (tmps.getD x undef))
theorem FY (fn:Func)(tmps:Array Value): results fn tmps=(do
  let I ← fn.results.mapM (resSem tmps)
  pure (if h:I.size=1 then I[0] else .tuple I)):=by
 unfold results
 exact eS (fun f=>(Array.mapM f fn.results >>= fun I=>(pure (if h:I.size=1 then I[0] else .tuple I):Sem Value))) (funext fun r=>by cases r <;> rfl)
theorem MU {s:St}{a:Act}(h:Rel c s.h w)(he:cU c s.env s.au a){P:Program}{r:ResultVar}{v:V}(I:resV P s r=some v):
  (resSem a.tmps r).run P w=.ok (conc c v) w∧wf c v:=by
 cases r with
 | tmp t =>
  simp only [resV,aj] at I
  subst I
  exact ⟨by simp only [resSem,Sem.run_pure,he.val t],he.tj t⟩
 | cell x t =>
  simp only [resV] at I
  obtain ⟨J,h2⟩:=BY h I
  refine ⟨?_,h2⟩
  simp only [resSem]
  rw [he.val x]
  unfold loadV at I
  split at I
  ·rename_i id off hx
   rw [hx] at J ⊢
   simpa [Instr.loadAt,Instr.sureAddr,asAddr,conc] using J
  ·simp at I
theorem sJ {s:St}{a:Act}(h:Rel c s.h w)(he:cU c s.env s.au a){P:Program}{fn:Func}{I:List V}(hr:mapO (resV P s) fn.results.toList=some I):
  (results fn a.tmps).run P w=.ok (if h:(I.map (conc c)).toArray.size=1 then (I.map (conc c)).toArray[0] else .tuple (I.map (conc c)).toArray) w∧∀v∈I,wf c v:=by
 have key:∀(l:List ResultVar) (I:List V),mapO (resV P s) l=some I →
   (l.mapM (resSem a.tmps)).run P w=.ok (I.map (conc c)) w∧∀v∈I,wf c v:=by
  intro l
  induction l with
  | nil=>intro I h; simp [mapO] at h; subst h; simp
  | cons r l ih =>
   intro I J
   simp only [mapO] at J
   cases h1:resV P s r with
   | none=>simp [h1] at J
   | some v =>
    cases h2:mapO (resV P s) l with
    | none=>simp [h1,h2] at J
    | some m =>
     simp [h1,h2] at J
     subst J
     obtain ⟨r1,r2⟩:=MU h he h1
     obtain ⟨i1,i2⟩:=ih m h2
     refine ⟨?_,fun x hx => ?_⟩
     ·rw [List.mapM_cons,Sem.run_bind,r1]
      simp only [Result.andThen_ok,Sem.run_bind,i1,Sem.run_pure,b8]
     ·rcases List.mem_cons.1 hx with rfl | hx
      ·exact r2
      ·exact i2 x hx
 obtain ⟨k1,k2⟩:=key _ _ hr
 refine ⟨?_,k2⟩
 rw [FY,Et]
 simp only [Sem.run_bind,Sem.run_map,k1,Result.andThen_ok,Sem.run_pure]
theorem nr (hS : B9 C.P self) (hT : eU C) {f : FuncId} {args : List V} {v : V} {dH : H} (I : callF C self f args σ = some (v, dH)) (h : Rel c σ w) (hw : ∀ x ∈ args, wf c x) :
  fV C.P f args c w v dH ∧ ∀ (x : Array Value) (w : World), (callFunc f x).run C.P w = .ok (.enter f x) w := by
 unfold callF at I
 split at I
 ·rename_i g hg
  cases J : iU C.P f with
  | false => rw [J] at I; cases I
  | true =>
  rw [J, af] at I
  rcases hT f g hg with ⟨⟨fn, t1, t2, t3⟩, t4⟩ | ⟨⟨fn, t1, t2⟩, _⟩
  rotate_left
  ·unfold iU at J
   rw [t1] at J
   simp only at J
   rw [t2] at J
   cases J
  refine ⟨t4 args σ v dH I c w h hw, fun x w => ?_⟩
  have : fn.body.isNone = false := by
   cases hb : fn.body with
   | none => rw [hb] at t2; cases t2
   | some b => rfl
  simp only [callFunc, Sem.run_bind, run_program, Result.andThen_ok, t1, t3, dI, bC, this, Sem.run_pure]
 ·cases hf : C.P.funcs[f]? with
  | none => simp [hf] at I
  | some fn =>
   simp only [hf] at I
   cases hb : fn.body with
   | none => simp [hb] at I
   | some code =>
    simp only [hb] at I
    cases hq : (fn.name == "runtime.NumGoroutine" || Nat.blt fn.ntmps args.length) with
    | true => simp [hq] at I
    | false =>
     simp only [hq, ay] at I
     simp only [Bool.or_eq_false_iff] at hq
     have hle : args.length ≤ fn.ntmps := by
      rcases gZ fn.ntmps args.length with h' | h'
      ·rw [fe.2 h'] at hq; cases hq.2
      ·exact h'
     refine ⟨?_, fun x w => by simp only [callFunc, Sem.run_bind, run_program, Result.andThen_ok, hf, hq.1, dI, bC, hb, Option.isNone_some, Sem.run_pure]⟩
     have mI := kE (c := c) hle hw
     have done : ∀ ex s, self code ⟨bindArgs args 0 .lf, fn.ntmps, σ⟩ = some (ex, s) → (ex = .normal ∨ ex = .ret) →
       (match mapO (resV C.P s) fn.results.toList with
        | some [v] => some (v, s.h)
        | some vs => some (.aX vs, s.h)
        | none => none) = some (v, dH) → fV C.P f args c w v dH := by
      intro ex s hs hex hm
      have OA := hS code _ ex s hs c _ w h mI
      refine calls_of_wp hf hb (wp_mono OA ?_)
      rintro e a' w' ⟨rfl, hd, c', r1, r2, r3⟩
      have qD : a'.defers = [] ∧ ∃ x, (results fn a'.tmps).run C.P w' = .ok x w' ∧ ∃ oB, Ending.returned x = .returned (conc oB v) ∧ wf oB v ∧ Rel oB dH w' ∧ bU c w oB w' := by
       refine ⟨hd, ?_⟩
       cases pV : mapO (resV C.P s) fn.results.toList with
       | none => simp [pV] at hm
       | some vs =>
        obtain ⟨q1, q2⟩ := sJ r1 r2 pV
        refine ⟨_, q1, c', ?_⟩
        rw [pV] at hm
        rcases vs with _ | ⟨v0, _ | ⟨v1, vs⟩⟩
        ·simp only [aj, aA] at hm
         obtain ⟨rfl, rfl⟩ := hm
         exact ⟨by simp [conc, concL], by simp [wf, dS], r1, r3⟩
        ·simp only [aj, aA] at hm
         obtain ⟨rfl, rfl⟩ := hm
         exact ⟨by simp, q2 v0 (by simp), r1, r3⟩
        ·simp only [aj, aA] at hm
         obtain ⟨rfl, rfl⟩ := hm
         exact ⟨by simp [conc, eu], by simp only [wf, eF]; exact q2, r1, r3⟩
      rcases hex with rfl | rfl
      ·simpa [bodyPost, exOf] using qD
      ·simpa [bodyPost, exOf] using qD
     split at I
     ·rename_i s hs
      exact done .normal s hs (.inl rfl) I
     ·rename_i s hs
      exact done .ret s hs (.inr rfl) I
     ·simp at I
section ops
variable {env:Env} {a:Act} {K:Act→World→Prop} {Q:Exit→Act→World→Prop} {o:Oper}
def xL (c:Ctx)(env:Env)(a:Act)(o:Oper): Prop:=∀x∈o.op.operands,∀v,evO env x=some v→a.eval x=conc c v∧wf c v
theorem cU.EB {n:Nat}(he:cU c env n a)(o:Oper): xL c env a o:=fun _ _ _ h=>tQ he h
def ua (P:Program)(o:Oper)(a:Act)(c:Ctx)(w:World)(v:V)(I:H): Prop :=
 (∃c' w',((execOp a.eval o).run P w=.ok (.value (conc c' v)) w'∨((execOp a.eval o).run P w=.ok .skip w'∧conc c' v=undef))∧Rel c' I w'∧bU c w c' w'∧wf c' v) ∨
 (∃f args,(execOp a.eval o).run P w=.ok (.enter f args) w∧Calls P f args w fun e w'=>∃c',e=.returned (conc c' v)∧wf c' v∧Rel c' I w'∧bU c w c' w') ∨
 (∃l fn tmps assign body,(execOp a.eval o).run P w=.ok (.round l fn tmps assign body) w∧RoundIn (Fr none) 0 P l fn tmps assign body w fun e w'=>∃c',e=.returned (conc c' v)∧wf c' v∧Rel c' I w'∧bU c w c' w')
theorem dL {v:V}{I:H}{s:Sem Value}(he:(execOp a.eval o)=(do pure (.value (← s))))(J:fl C.P s c w v I): ua C.P o a c w v I:=by
 obtain ⟨w',c',h1,h2,h3,h4⟩:=J
 refine .inl ⟨c',w',.inl ?_,h3,h4,h2⟩
 rw [he]
 simp only [Sem.run_bind,h1,Result.andThen_ok,Sem.run_pure]
theorem vC {I:H}{s:Sem Unit}(he:(execOp a.eval o)=(do s; pure .skip))(J:J_ C.P s c w I): ua C.P o a c w bE I:=by
 obtain ⟨w',c',h1,h3,h4⟩:=J
 refine .inl ⟨c',w',.inr ⟨?_,mB c'⟩,h3,h4,by simp [bE,wf,dS]⟩
 rw [he]
 simp only [Sem.run_bind,h1,Result.andThen_ok,Sem.run_pure]
theorem ED {f:FuncId}{args:List V}{v:V}{I:H}(he:(execOp a.eval o).run C.P w=.ok (.enter f (args.map (conc c)).toArray) w)(J:fV C.P f args c w v I): ua C.P o a c w v I :=
 .inr (.inl ⟨f,_,he,J⟩)
theorem ua.wpIn {P:Program}{v:V}{dH:H}(h:ua P o a c w v dH)(rY:∀d,o.op≠.defer d){r:Option Nat}
 (hK:∀c' w',Rel c' dH w'→bU c w c' w'→wf c' v→K (a.put o.dst (conc c' v)) w'): o.wpIn (Fr r) 0 P a w K Q:=by
 refine ⟨fun _ _=>trivial,?_⟩
 rw [Oper.semAt_eq _ _ _ rY]
 rcases h with ⟨c',w',I,J,h3,h4⟩ | ⟨f,args,I,J⟩ | ⟨l,fn,tmps,assign,body,I,J⟩
 ·rcases I with I | ⟨I,h5⟩
  ·rw [I]; exact hK c' w' J h3 h4
  ·rw [I]; have:=hK c' w' J h3 h4; rw [h5] at this; exact this
 ·rw [I]
  refine ⟨fun hd=>(by cases hd),B_ (Calls.mono J ?_)⟩
  rintro e w' ⟨c',rfl,q1,q2,q3⟩
  exact hK c' w' q2 q3 q1
 ·rw [I]
  refine ⟨fun hd=>(by cases hd),RoundIn.mono J ?_⟩
  rintro e w' ⟨c',rfl,q1,q2,q3⟩
  exact hK c' w' q2 q3 q1
theorem FZ {b:Builtin}{ts:Array TypeId}{ty:TypeId}{cs:Array Bool}{args:List V}{v:V}{dH:H}(h:Rel c σ w)(I:builtinV C.P σ b ts args=some (v,dH))(hw:∀x∈args,wf c x):
  ∃s,builtin b ts ty cs (args.map (conc c)).toArray=(do pure (.value (← s)))∧fl C.P s c w v dH:=by
 unfold builtinV at I
 split at I
 ·rename_i x
  split at I
  ·rename_i t l kD
   cases J:lenV C.P σ t x with
   | none=>simp [J] at I
   | some u =>
    simp [J] at I
    obtain ⟨rfl,rfl⟩:=I
    have h0:ts[0]?=some t:=by rw [←gU,kD]; rfl
    exact ⟨_,rfl,fl.same h (MQ h J ts h0 ty)⟩
  ·simp at I
 ·rename_i s x
  exact ⟨_,rfl,DQ h I (hw s (by simp)) (hw x (by simp))⟩
 ·rename_i d s
  split at I
  ·rename_i t l kD
   have h0:ts[0]?=some t:=by rw [←gU,kD]; rfl
   exact ⟨_,rfl,HJ h h0 I (hw d (by simp)) (hw s (by simp))⟩
  ·simp at I
 ·rename_i x
  split at I
  ·rename_i t l kD
   have h0:ts[0]?=some t:=by rw [←gU,kD]; rfl
   cases J:clearV C.P σ t x with
   | none=>simp [J] at I
   | some u =>
    simp [J] at I
    obtain ⟨rfl,rfl⟩:=I
    obtain ⟨w',c',e1,e2,e3⟩:=FX (P:=C.P) (ty:=ty) h h0 J (hw x (by simp))
    exact ⟨_,rfl,w',c',by simpa [conc,concL] using e1,by simp [wf,dS],e2,e3⟩
  ·simp at I
 ·rename_i m k
  split at I
  ·rename_i t l kD
   have h0:ts[0]?=some t:=by rw [←gU,kD]; rfl
   cases J:l9 C.P σ t m k with
   | none=>simp [J] at I
   | some u =>
    simp [J] at I
    obtain ⟨rfl,rfl⟩:=I
    obtain ⟨w',c',e1,e2,e3⟩:=DP (P:=C.P) (ty:=ty) h J (hw k (by simp)) ts h0
    exact ⟨_,rfl,w',c',by simpa [conc,concL] using e1,by simp [wf,dS],e2,e3⟩
  ·simp at I
 ·rename_i x l
  cases J:foldV maxV x l with
  | none=>simp [J] at I
  | some u =>
   simp [J] at I
   obtain ⟨rfl,rfl⟩:=I
   obtain ⟨e1,e2⟩:=B6 (P:=C.P) (c:=c) (w:=w) maxV Builtin.max2 (fun x y v hv=>MR hv w) l x u J (hw x (by simp))
   refine ⟨_,rfl,fl.same h ⟨?_,e2⟩⟩
   simpa [Builtin.max_] using e1
 ·rename_i x l
  cases J:foldV wR x l with
  | none=>simp [J] at I
  | some u =>
   simp [J] at I
   obtain ⟨rfl,rfl⟩:=I
   obtain ⟨e1,e2⟩:=B6 (P:=C.P) (c:=c) (w:=w) wR Builtin.min2 (fun x y v hv=>MS hv w) l x u J (hw x (by simp))
   refine ⟨_,rfl,fl.same h ⟨?_,e2⟩⟩
   simpa [Builtin.min_] using e1
 ·simp at I
theorem Kc {t:TypeId}{name:String}{f:FuncId}(h:methV C.P t name=some f)(d:Nat)(v:Value)(w:World): (method (d+1) t v name).run C.P w=.ok (f,v) w:=by
 unfold methV at h
 generalize ht:C.P.underlying t=dt at h
 split at h
 ·rename_i e
  cases hi:C.P.info? t with
  | none=>simp [hi] at h
  | some i =>
   simp only [hi,bR] at h
   cases hm:i.methods.find? (fun m=>m.name == name) with
   | none=>simp [hm] at h
   | some m =>
    simp only [hm] at h
    split at h
    ·rename_i g J I
     simp only [aj] at h
     subst h
     simp [method,typeInfo,hi,hm,J,I,follow,receiverAt,run_underlying ht,Place.get]
    ·simp at h
 ·rename_i fs
  cases hi:C.P.info? t with
  | none=>simp [hi] at h
  | some i =>
   simp only [hi,bR] at h
   cases hm:i.methods.find? (fun m=>m.name == name) with
   | none=>simp [hm] at h
   | some m =>
    simp only [hm] at h
    split at h
    ·rename_i g J I
     simp only [aj] at h
     subst h
     simp [method,typeInfo,hi,hm,J,I,follow,receiverAt,run_underlying ht,Place.get]
    ·simp at h
 ·simp at h
theorem HK {n:Nat}: ∀(ps:List Nat) (args:List V) (e e':Env) (tmps:Array Value),bindPs n ps args e=some e'→tmps.size=n→(∀t,tmps.getD t undef=conc c (Env.v e t))→(∀t,wf c (Env.v e t))→(∀x∈args,wf c x) →
  args.length=ps.length∧cU c e' n { tmps:=(ps.zip (args.map (conc c))).foldl (fun tmps (t,a)=>tmps.setIfInBounds t a) tmps,defers:=[] }:=by
 intro ps
 induction ps with
 | nil =>
  intro args e e' tmps I hs hv hw ha
  cases args with
  | nil=>simp only [bindPs,aj] at I; subst I; exact ⟨rfl,hs,hv,hw⟩
  | cons _ _=>simp [bindPs] at I
 | cons p ps ih =>
  intro args e e' tmps I hs hv hw ha
  cases args with
  | nil=>simp [bindPs] at I
  | cons x args =>
   simp only [bindPs] at I
   cases hp:Nat.blt p n with
   | false=>rw [hp] at I; cases I
   | true =>
    rw [hp,af] at I
    have xM:=fe.1 hp
    obtain ⟨q1,q2⟩:=ih args (e.set p (some x)) e' (tmps.setIfInBounds p (conc c x)) I (by simp [hs]) (fun t=>by
     simp only [Env.v,aJ]
     by_cases J:t=p
     ·subst J
      rw [ax rfl]
      simp [jv,hs,xM]
     ·rw [ai J]
      have:=hv t
      simp only [Env.v] at this
      rw [←this]
      simp [jv,ve (iD J)]) (fun t=>by
     simp only [Env.v,aJ]
     by_cases J:t=p
     ·rw [ax J]; exact ha x cM
     ·rw [ai J]; exact hw t) (fun y hy=>ha y (cC _ hy))
    exact ⟨by simp [q1],q2⟩
theorem Ke (hS:g9 C.P self){id:Nat}{args:List V}{v:V}{dH:H}(I:roundV self id args σ=some (v,dH))(h:Rel c σ w)(hw:∀x∈args,wf c x):
  ∃l fn tmps assign body,(Instr.yield (c.ρ id).1 (args.map (conc c)).toArray).run C.P w=.ok (.round l fn tmps assign body) w ∧
   RoundIn (Fr none) 0 C.P l fn tmps assign body w fun e w'=>∃c',e=.returned (conc c' v)∧wf c' v∧Rel c' dH w'∧bU c w c' w':=by
 unfold roundV at I
 split at I
 ·rename_i au env ps as bd hg
  obtain ⟨fn,tmps,D,hb,er,Kf,jM⟩:=h.obj id _ hg
  split at I
  ·cases I
  ·rename_i e he
   obtain ⟨q1,q2⟩:=HK ps args env e tmps he er Kf jM hw
   split at I
   ·rename_i F0 OB
    split at I
    ·rename_i S3 S8 Oa Ob Oc J
     split at I
     ·rename_i Od OC
      split at I
      ·rename_i Ua Oe RI RJ RK RO
       simp only [aj,aA] at I
       obtain ⟨rfl,rfl⟩:=I
       have Uq:=run_yield (P:=C.P) (args:=(args.map (conc c)).toArray) hb (by simp [q1])
       refine ⟨_,_,_,_,_,Uq,roundIn_of_wpIn aa (wpIn_mono (hS as _ .normal F0 OB (some (c.ρ id).1) c _ w h (by simpa using q2)) ?_)⟩
       rintro ex Ca tL ⟨rfl,RP,c₁,OD,OE,j3⟩
       have tw:id<c.N:=h.live id _ hg
       have S9:id<c₁.N:=OD.live id _ J
       have Ur:c₁.ρ id=c.ρ id:=j3.ext.ρ id tw
       obtain ⟨WR,Wf,Xt,RQ,Us⟩:=OD.obj id _ J
       rw [←Ur]
       refine ⟨_,run_beginRound RQ rfl,?_⟩
       obtain ⟨Ut,S_⟩:=OD.Ev (qz:=true) J RQ Us
       refine wpIn_mono (hS bd _ .normal Od OC (some (c₁.ρ id).1) c₁ Ca _ Ut OE) ?_
       rintro ex BD Ta ⟨rfl,RR,c₂,MV,HL,HM⟩
       obtain ⟨WT,Wg,Xu,RS,Uu⟩:=MV.obj id _ RO
       have Uv:c₂.ρ id=c₁.ρ id:=HM.ext.ρ id S9
       obtain ⟨Uw,Tb⟩:=MV.Ev (qz:=false) RO RS Uu
       rw [←Uv]
       refine ⟨_,_,run_endRound none RS,c₂,by simp [conc],by simp [wf],Uw,(j3.trans S_).trans (HM.trans Tb)⟩
      ·cases I
     ·cases I
    ·cases I
   ·cases I
 ·cases I
theorem HN : ∀(l:List Nat) (k:Nat),inL l k=l.contains k:=by
 intro l
 induction l with
 | nil=>intro k; rfl
 | cons x l I =>
  intro k
  simp only [inL,I,List.contains_cons]
  by_cases h:x=k
  ·subst h; simp [gM rfl]
  ·have:¬ k=x:=fun e=>h e.symm
   simp [cO h,this]
theorem Kg (seen:List Nat): ∀(es:List (V×V×Nat)),(leftV seen es).map (bH c)=(es.map (bH c)).filter (fun e => !seen.toArray.contains e.born):=by
 intro es
 induction es with
 | nil=>rfl
 | cons e es I =>
  simp only [leftV,b8,List.filter_cons]
  rw [HN]
  have J:(bH c e).born=e.2.2:=rfl
  rw [J]
  have hc:seen.toArray.contains e.2.2=seen.contains e.2.2:=by simp
  rw [hc]
  cases seen.contains e.2.2 with
  | true=>simp [I]
  | false=>simp [I]
theorem HO {since:Nat}: ∀(es:List (V×V×Nat)),tO since es=true→∀e∈es,e.2.2<since:=by
 intro es
 induction es with
 | nil=>intro _ e he; cases he
 | cons x es J =>
  intro h e he
  simp only [tO] at h
  cases I:Nat.blt x.2.2 since with
  | false=>rw [I] at h; cases h
  | true =>
   rw [I,af] at h
   rcases List.mem_cons.1 he with rfl | he
   ·exact fe.1 I
   ·exact J h e he
theorem DR : ∀(es:List (V×V×Nat)) (b:Nat),bornRise b es=true→(∀e∈es,b≤e.2.2)∧(es.map (·.2.2)).Pairwise (· < ·):=by
 intro es
 induction es with
 | nil=>intro b _; exact ⟨fun e he=>(kW he).elim,List.Pairwise.nil⟩
 | cons x es J =>
  intro b h
  simp only [bornRise] at h
  cases I:Nat.ble b x.2.2 with
  | false=>rw [I] at h; cases h
  | true =>
   rw [I,af] at h
   have hb:=aE.1 I
   obtain ⟨i1,i2⟩:=J _ h
   refine ⟨fun e he => ?_,?_⟩
   ·rcases List.mem_cons.1 he with rfl | he
    ·exact hb
    ·have:=i1 e he; omega
   ·simp only [b8,nc]
    refine ⟨fun y hy => ?_,i2⟩
    obtain ⟨e,he,rfl⟩:=List.mem_map.1 hy
    have:=i1 e he
    omega
theorem Kh : ∀(l:List Nat) (b:Nat),lastN l=some b→∃i,l=i++[b]:=by
 intro l
 induction l with
 | nil=>intro b h; cases h
 | cons x l I =>
  intro b h
  cases l with
  | nil=>simp only [lastN,aj] at h; subst h; exact ⟨[],rfl⟩
  | cons y l =>
   obtain ⟨i,hi⟩:=I b h
   exact ⟨x::i,by rw [hi]; rfl⟩
theorem F1 {b:Nat}: ∀(es:List (V×V×Nat)) (e:V×V×Nat),vy b es=some e→e∈es∧e.2.2=b:=by
 intro es
 induction es with
 | nil=>intro e h; cases h
 | cons x es J =>
  intro e h
  simp only [vy] at h
  cases I:Nat.beq x.2.2 b with
  | true=>rw [I,af] at h; simp only [aj] at h; subst h; exact ⟨cM,beq_iff.1 I⟩
  | false =>
   rw [I,ay] at h
   obtain ⟨h1,h2⟩:=J e h
   exact ⟨cC _ h1,h2⟩
theorem F2 {P:Program}{t:TypeId}{x v:V}{J:H}(h:Rel c σ w)(I:rangeV P σ t x=some (v,J))(hx:wf c x): fl P (Instr.range t (conc c x)) c w v J:=by
 unfold rangeV at I
 generalize ht:P.underlying t=dt at I
 split at I
 ·rename_i kt et id
  split at I
  ·rename_i es clock hg
   simp only [aj,aA] at I
   obtain ⟨rfl,rfl⟩:=I
   obtain ⟨_,hb⟩:=h.obj id _ hg
   have tw:=h.live id _ hg
   have g:=h.new (.iter id clock clock []) (.mapIter (some (c.ρ id).1) clock #[] clock) 0 rfl ⟨by rw [ja]; omega,by rw [aN],by
    rw [aN,cn c _ _ _ tw]
    rw [eZ]; simp⟩
   refine ⟨_,_,?_,?_,g.1,g.2⟩
   ·simp only [Instr.range,Sem.run_bind,run_underlying ht,Result.andThen_ok,conc,ij hb (by simp),Sem.run_pure,run_newObj_alloc,h.next,aN]
   ·simp [wf,h.next,ja]
  ·cases I
 ·rename_i l
  simp only [aj,aA] at I
  obtain ⟨rfl,rfl⟩:=I
  have g:=h.new (.iE l 0) (.stringIter ⟨(l.map UInt8.ofNat).toArray⟩ 0) 0 rfl ⟨by simpa [wf] using hx,by rw [aN],by rw [aN,eZ]; simp⟩
  refine ⟨_,_,?_,?_,g.1,g.2⟩
  ·simp only [Instr.range,Sem.run_bind,run_underlying ht,Result.andThen_ok,conc,Sem.run_pure,run_newObj_alloc,h.next,aN]
  ·simp [wf,h.next,ja]
 ·cases I
theorem HP {P:Program}{x v:V}{dH:H}(h:Rel c σ w)(I:nextS σ x=some (v,dH))(ty:TypeId): fl P (Instr.next (conc c x) true ty) c w v dH:=by
 unfold nextS at I
 split at I
 ·rename_i r off
  cases hq:Nat.beq off 0 with
  | false=>rw [hq] at I; cases I
  | true =>
   rw [hq,af] at I
   have:=beq_iff.1 hq
   subst this
   split at I
   ·rename_i l pos hg
    obtain ⟨hl,hz,hb⟩:=h.obj r _ hg
    have HQ:conc c (.ptr r 0)=.pointer (some ⟨(c.ρ r).1,0,none⟩):=by simp [conc,hz]
    rw [HQ]
    rw [fh] at I
    split at I
    ·rename_i hn
     simp only [aj,aA] at I
     obtain ⟨rfl,rfl⟩:=I
     have hp:¬ pos<(⟨(l.map UInt8.ofNat).toArray⟩:ByteArray).size:=by
      have:=List.getElem?_eq_none_iff.1 hn
      simp [ByteArray.size]; omega
     exact ⟨w,c,by rw [Lib.run_next_end_at w _ _ _ ty hb hp]; simp [conc,concL],by simp [wf,dS],h,bU.refl c w⟩
    ·rename_i b hn
     cases J:Nat.blt b 128 with
     | false=>rw [J] at I; cases I
     | true =>
      rw [J,af] at I
      simp only [aj,aA] at I
      obtain ⟨rfl,rfl⟩:=I
      have HR:=fe.1 J
      obtain ⟨uc,he⟩:=List.getElem?_eq_some_iff.1 hn
      have hp:pos<(⟨(l.map UInt8.ofNat).toArray⟩:ByteArray).size:=by simpa [ByteArray.size] using uc
      have hv:((⟨(l.map UInt8.ofNat).toArray⟩:ByteArray)[pos]'hp).toNat=b:=by
       have:(⟨(l.map UInt8.ofNat).toArray⟩:ByteArray)[pos]'hp=UInt8.ofNat b:=by
        show ((l.map UInt8.ofNat).toArray)[pos]'(by simpa using uc)=_
        simp [he]
       rw [this,oV]
       omega
      obtain ⟨r1,s1⟩:=h.Ot (pos':=pos+1) hg
      refine ⟨_,c,?_,by simp [wf,dS],r1,s1⟩
      rw [Lib.run_next_ascii_at w _ _ _ ty hb hp (by rw [hv]; exact HR),hv]
      simp only [conc,concL]
      rfl
   ·cases I
 ·cases I
theorem DS {P:Program}{r:Nat}{L:List (V×H)}(h:Rel c σ w)(I:nextAll σ r=some L)(ty:TypeId):
  ∃q∈L,fl P (Instr.next (conc c (.ptr r 0)) false ty) c w q.1 q.2:=by
 unfold nextAll at I
 split at I
 ·rename_i iu since last seen hg
  split at I
  ·rename_i es clock hm
   obtain ⟨BZ,hz,hb⟩:=h.obj r _ hg
   obtain ⟨hw,OF⟩:=h.obj iu _ hm
   cases hq:(tO since es&&Nat.ble since last) with
   | false=>rw [hq] at I; cases I
   | true =>
    rw [hq,af] at I
    simp only [aG,aE] at hq
    have hold:=HO es hq.1
    have HQ:conc c (.ptr r 0)=.pointer (some ⟨(c.ρ r).1,0,none⟩):=by simp [conc,hz]
    rw [HQ]
    have hL:(leftOf (es.map (bH c)).toArray seen.toArray).toList=(leftV seen es).map (bH c):=by
     rw [Kg]
     simp [leftOf]
    rcases run_next_at (P:=P) w ty (c.ρ r).1 (c.ρ iu).1 since last seen.toArray (es.map (bH c)).toArray clock hb OF (fun x hx=>by
     simp only [kY] at hx
     obtain ⟨e,he,rfl⟩:=hx
     exact hold e he) hq.2 with ⟨h0,J⟩ | ⟨e,he,w1,wz,J⟩
    ·have Cb:leftV seen es=[]:=by
      have:((leftV seen es).map (bH c)).length=0:=by rw [←hL]; simpa using h0
      simpa using this
     rw [Cb] at I
     simp only [aj] at I
     subst I
     exact ⟨_,List.mem_singleton.2 rfl,w,c,by rw [J]; simp [conc,concL],by simp [wf,dS],h,bU.refl c w⟩
    ·rw [hL] at he
     obtain ⟨e0,wA,rfl⟩:=List.mem_map.1 he
     have QG:L=(leftV seen es).map fun e=>(.aX [.bool true,e.1,e.2.1],σ.put r (some (.iter iu since clock (seen++[e.2.2])))):=by
      cases hl:leftV seen es with
      | nil=>rw [hl] at wA; cases wA
      | cons y l=>rw [hl] at I; simp only [aj] at I; exact I.symm
     have wU:e0∈es:=by
      have:∀(es:List (V×V×Nat)),e0∈leftV seen es→e0∈es:=by
       intro es
       induction es with
       | nil=>intro h; cases h
       | cons y es ih =>
        intro h
        simp only [leftV] at h
        cases hy:inL seen y.2.2 with
        | true=>rw [hy,af] at h; exact cC _ (ih h)
        | false =>
         rw [hy,ay] at h
         rcases List.mem_cons.1 h with rfl | h
         ·exact cM
         ·exact cC _ (ih h)
      exact this es wA
     refine ⟨_,by rw [QG]; exact List.mem_map.2 ⟨e0,wA,rfl⟩,?_⟩
     have oo:Rel c σ w1∧bU c w c w1:=by
      rcases wz with rfl | rfl
      ·exact ⟨h,bU.refl c _⟩
      ·exact ⟨h.drew,bU.drew c w⟩
     obtain ⟨r1,s1⟩:=oo.1.setIter (last':=clock) (seen':=seen++[e0.2.2]) hg
     refine ⟨_,c,?_,by simp only [wf,dS,and_true,true_and]; exact hw e0 wU,r1,oo.2.trans s1⟩
     rw [J]
     have:(seen++[e0.2.2]).toArray=seen.toArray.push e0.2.2:=by simp
     simp only [conc,concL,bH,this]
     rfl
  ·cases I
 ·cases I
theorem HS {P:Program}{x v:V}{J:H}(h:Rel c σ w)(I:nextV σ x=some (v,J))(ty:TypeId): fl P (Instr.next (conc c x) false ty) c w v J:=by
 unfold nextV at I
 split at I
 ·rename_i r off
  cases hq:Nat.beq off 0 with
  | false=>rw [hq] at I; cases I
  | true =>
   rw [hq,af] at I
   have:=beq_iff.1 hq
   subst this
   split at I
   ·rename_i q hn
    simp only [aj] at I
    subst I
    obtain ⟨q',mF,hg⟩:=DS (P:=P) h hn ty
    rw [List.mem_singleton.1 mF] at hg
    exact hg
   ·cases I
 ·cases I
theorem HT {P:Program}{x v:V}(h:Rel c σ w)(I:xz σ x=some v): (Instr.entry (conc c x)).run P w=.ok (conc c v) w∧wf c v:=by
 unfold xz at I
 split at I
 ·rename_i r off
  cases hq:Nat.beq off 0 with
  | false=>rw [hq] at I; cases I
  | true =>
   rw [hq,af] at I
   have:=beq_iff.1 hq
   subst this
   split at I
   ·rename_i iu since last seen hg
    split at I
    ·rename_i es clock hm
     obtain ⟨BZ,hz,hb⟩:=h.obj r _ hg
     obtain ⟨hw,OF⟩:=h.obj iu _ hm
     cases J:(Nat.beq clock last&&bornRise 0 es) with
     | false=>rw [J] at I; cases I
     | true =>
      rw [J,af] at I
      simp only [aG,beq_iff] at J
      obtain ⟨rfl,QH⟩:=J
      split at I
      ·rename_i b AX
       split at I
       ·rename_i e he
        simp only [aj] at I
        subst I
        obtain ⟨i,rfl⟩:=Kh seen b AX
        obtain ⟨h1,rfl⟩:=F1 es e he
        have HQ:conc c (.ptr r 0)=.pointer (some ⟨(c.ρ r).1,0,none⟩):=by simp [conc,hz]
        rw [HQ]
        have l_:w.heap[(c.ρ r).1]?=some (.mapIter (some (c.ρ iu).1) since (i.toArray.push (bH c e).born) clock):=by
         rw [hb]; simp [bH]
        have rY:((es.map (bH c)).toArray.toList.map (·.born)).Nodup:=by
         have:=(DR es 0 QH).2
         have e1:(es.map (bH c)).toArray.toList.map (·.born)=es.map (·.2.2):=by simp [bH,rJ]
         rw [e1]
         exact this.imp fun {a b} mc=>by omega
        refine ⟨?_,by simp only [wf,dS,and_true]; exact hw e h1⟩
        rw [run_entry_at (P:=P) w (c.ρ r).1 (c.ρ iu).1 since i.toArray (es.map (bH c)).toArray clock (bH c e) l_ OF (by simpa using ⟨_,_,_,h1,rfl⟩) rY]
        simp [conc,concL,bH]
       ·cases I
      ·cases I
    ·cases I
   ·cases I
 ·cases I
theorem HU (hS:g9 C.P self)(hT:eU C){cl:Call}{v:V}{dH:H}(ho:o.op=.call cl)(h:Rel c σ w)(he:xL c env a o)(J:evCall C self env σ cl=some (v,dH)):
  ua C.P o a c w v dH:=by
 unfold evCall at J
 cases ha:evArgs env cl.args.toList with
 | none=>simp [ha] at J
 | some args =>
  simp only [ha] at J
  obtain ⟨g1,g2⟩:=tU (a:=a) (c:=c) _ _ (fun x hx=>he x (by simp only [ho,Op.operands,Call.operands,zP]; exact .inr (by simpa using hx))) ha
  have I:cl.args.map a.eval=(args.map (conc c)).toArray:=by
   apply gz
   simpa using g1
  split at J
  ·rename_i b hb
   obtain ⟨s,e1,e2⟩:=FZ (C:=C) (ty:=o.type) (cs:=cl.args.map fun | .const _=>true | _=>false) h J g2
   refine dL (s:=s) ?_ e2
   simp only [execOp,ho,resolve,hb,pure_bind,invoke,I]
   exact e1
  ·rename_i f hf
   cases hv:evO env f with
   | none=>simp [hv] at J
   | some fv =>
    simp only [hv] at J
    obtain ⟨f1,f2⟩:=he f (by simp [ho,Op.operands,Call.operands,hf]) _ hv
    unfold callV at J
    split at J
    ·rename_i k first captured
     have fw:(∀x∈first,wf c x)∧(∀x∈captured,wf c x):=by
      have:dS c first∧dS c captured:=by simpa [wf] using f2
      exact ⟨eF.1 this.1,eF.1 this.2⟩
     have ot:∀x∈first++(args++captured),wf c x:=by
      intro x hx
      rcases List.mem_append.1 hx with hx | hx
      ·exact fw.1 x hx
      ·rcases List.mem_append.1 hx with hx | hx
       ·exact g2 x hx
       ·exact fw.2 x hx
     cases ud:iU C.P k with
     | false =>
      rw [ud,ay] at J
      split at J
      ·rename_i g hg
       rcases hT k g hg with ⟨⟨fn,t1,t2,_⟩,_⟩ | ⟨_,t4⟩
       ·unfold iU at ud
        rw [t1] at ud
        simp only at ud
        rw [t2] at ud
        cases ud
       ·obtain ⟨c',w',u1,u2,u3,u4⟩:=t4 _ σ v dH J c w h ot
        refine .inl ⟨c',w',.inl ?_,u2,u3,u4⟩
        simp only [execOp,ho,resolve,hf,I,f1,conc,eu,Deferred.ofValue,pure_bind,invoke]
        rw [show (first.map (conc c)).toArray++(args.map (conc c)).toArray++(captured.map (conc c)).toArray=((first++(args++captured)).map (conc c)).toArray from by
         apply gz; simp]
        exact u1
      ·cases J
     | true =>
     rw [ud,af] at J
     obtain ⟨q1,q2⟩:=nr hS.wide hT J h ot
     refine ED ?_ q1
     simp only [execOp,ho,resolve,hf,I,f1,conc,eu,Deferred.ofValue,pure_bind,invoke]
     rw [show (first.map (conc c)).toArray++(args.map (conc c)).toArray++(captured.map (conc c)).toArray=((first++(args++captured)).map (conc c)).toArray from by
      apply gz; simp]
     exact q2 _ w
    ·rename_i id
     have f3:id<c.N:=by simpa [wf] using f2
     obtain ⟨l,fn,tmps,assign,bd,y1,y2⟩:=Ke hS J h g2
     refine .inr (.inr ⟨l,fn,tmps,assign,bd,?_,y2⟩)
     simp only [execOp,ho,resolve,hf,I,f1,conc,Deferred.ofValue,pure_bind,invoke]
     rw [show (#[]:Array Value)++(args.map (conc c)).toArray=(args.map (conc c)).toArray from by simp]
     exact y1
    ·simp at J
  ·rename_i r m hm
   split at J
   ·rename_i t x hv
    obtain ⟨f1,f2⟩:=he r (by simp [ho,Op.operands,Call.operands,hm]) _ hv
    cases OG:methV C.P t m with
    | none=>simp [OG] at J
    | some f =>
     simp only [OG] at J
     obtain ⟨q1,q2⟩:=nr hS.wide hT J h (by
      intro y hy
      rcases List.mem_cons.1 hy with rfl | hy
      ·simpa [wf] using f2
      ·exact g2 y hy)
     refine ED ?_ q1
     have HV:=Kc OG (C.P.types.size+99) (conc c x) w
     simp only [execOp,ho,resolve,hm,I,f1,conc,pure_bind,invoke]
     have h1:((#[Value.iface t (conc c x)]++(args.map (conc c)).toArray:Array Value))[0]?=some (.iface t (conc c x)):=by simp
     have h2:(#[Value.iface t (conc c x)]++(args.map (conc c)).toArray:Array Value).extract 1 (#[Value.iface t (conc c x)]++(args.map (conc c)).toArray:Array Value).size=(args.map (conc c)).toArray:=by
      apply gz; simp [eD]
     rw [h1,h2]
     simp only [callMethod,Sem.run_bind,run_program,Result.andThen_ok,Made.depth]
     rw [HV]
     simp only [Result.andThen_ok]
     rw [show (#[conc c x]++(args.map (conc c)).toArray:Array Value)=((x::args).map (conc c)).toArray from by apply gz; simp]
     exact q2 _ w
   ·simp at J
theorem c_ {x:Option V}{h:H}{r:V×H}(e:aK x h=some r): x=some r.1∧r.2=h:=by
 cases x with
 | none=>simp [aK] at e
 | some v=>simp [aK] at e; subst e; exact ⟨rfl,rfl⟩
theorem oL {x:Option H}{r:V×H}(e:k8 x=some r): x=some r.2∧r.1=bE:=by
 cases x with
 | none=>simp [k8] at e
 | some v=>simp [k8] at e; subst e; exact ⟨rfl,rfl⟩
theorem pW {v:V}(he:(execOp a.eval o).run C.P w=.ok (.value (conc c v)) w)(h:Rel c σ w)(I:wf c v): ua C.P o a c w v σ :=
 .inl ⟨c,w,.inl he,h,bU.refl c w,I⟩
theorem Af {x:Option Operand}{v:Option V}(he:∀y,x=some y→∀v,evO env y=some v→a.eval y=conc c v∧wf c v)(h:optV env x=some v): x.map a.eval=v.map (conc c):=by
 cases x with
 | none=>simp [optV] at h; subst h; rfl
 | some y =>
  simp only [optV] at h
  cases I:evO env y with
  | none=>simp [I] at h
  | some u =>
   simp [I] at h
   subst h
   simp [(he y rfl u I).1]
theorem vD (hS:g9 C.P self)(hT:eU C){v:V}{dH:H}(h:Rel c σ w)(he:xL c env a o)(I:evOp C self env σ o=some (v,dH)):
  ua C.P o a c w v dH:=by
 unfold evOp at I
 split at I
 case h_1 ho =>
  obtain ⟨J,e2⟩:=c_ I
  simp only at J e2; subst e2
  obtain ⟨f1,f2⟩:=he _ (by simp [ho,Op.operands]) _ J
  exact pW (by simp [execOp,ho,f1]) h f2
 case h_2 ho =>
  obtain ⟨J,e2⟩:=c_ I
  simp only at J e2; subst e2
  obtain ⟨f1,f2⟩:=he _ (by simp [ho,Op.operands]) _ J
  exact pW (by simp [execOp,ho,f1]) h f2
 case h_3 x y z ho =>
  split at I
  ·rename_i t hx
   obtain ⟨J,e2⟩:=c_ I
   simp only at J e2; subst e2
   obtain ⟨f1,f2⟩:=he _ (by cases t <;> simp [ho,Op.operands]) _ J
   obtain ⟨g1,_⟩:=he _ (by simp [ho,Op.operands]) _ hx
   refine pW ?_ h f2
   cases t <;> simp only [af,ay] at f1 <;> simp [execOp,ho,f1,g1,conc,asBool]
  ·simp at I
 case h_4 t ho =>
  split at I
  ·rename_i z hz
   simp only [aj,aA] at I
   obtain ⟨rfl,rfl⟩:=I
   exact dL (by simp [execOp,ho]) (HD h hz)
  ·simp at I
 case h_5 t x ho =>
  split at I
  ·rename_i u hu
   cases hs:u.cells.all storable with
   | false=>simp [hs] at I
   | true =>
    simp only [hs,af,aj,aA] at I
    obtain ⟨rfl,rfl⟩:=I
    obtain ⟨f1,f2⟩:=he _ (by simp [ho,Op.operands]) _ hu
    exact dL (by simp [execOp,ho,f1]) (MT (t:=t) h f2 hs)
  ·simp at I
 case h_6 t ps ho =>
  split at I
  ·rename_i l hl
   obtain ⟨J,e2⟩:=c_ I
   simp only at J e2; subst e2
   obtain ⟨f1,f2⟩:=xC (a:=a) (c:=c) _ _ (fun x hx=>he x.2 (by simp only [ho,Op.operands]; simp; exact ⟨x.1,by simpa using hx⟩)) hl
   have OH:(ps.map fun (i,x)=>(i,a.eval x))=(l.map fun x=>(x.1,conc c x.2)).toArray:=by
    apply gz
    simpa using f1
   exact dL (by simp only [execOp,ho]; rw [OH]) (fl.same h (Hw J f2 w))
  ·simp at I
 case h_7 t m ps ho =>
  split at I
  ·rename_i l hl
   obtain ⟨f1,f2⟩:=xC (a:=a) (c:=c) _ _ (fun x hx=>he x.2 (by simp only [ho,Op.operands]; simp; exact ⟨x.1,by simpa using hx⟩)) hl
   have OH:(ps.map fun (i,x)=>(i,a.eval x))=(l.map fun x=>(x.1,conc c x.2)).toArray:=by
    apply gz
    simpa using f1
   exact dL (by simp only [execOp,ho]; rw [OH]) (xG h I f2)
  ·simp at I
 case h_8 t x ho =>
  split at I
  ·rename_i u hu
   obtain ⟨J,e2⟩:=c_ I
   simp only at J e2; subst e2
   obtain ⟨f1,f2⟩:=he _ (by simp [ho,Op.operands]) _ hu
   exact dL (by simp only [execOp,ho,f1]) (fl.same h (BY h J))
  ·simp at I
 case h_9 t x y ho =>
  split at I
  ·rename_i p u hp hu
   obtain ⟨J,e2⟩:=oL I
   simp only at J e2; subst e2
   obtain ⟨f1,f2⟩:=he _ (by simp [ho,Op.operands]) _ hp
   obtain ⟨g1,g2⟩:=he _ (by simp [ho,Op.operands]) _ hu
   obtain ⟨w',s1,s2,s3⟩:=Hu h J g2
   exact vC (by simp only [execOp,ho,f1,g1]) ⟨w',c,s1,s2,s3⟩
  ·simp at I
 case h_10 x ho =>
  split at I
  ·rename_i i j hx
   simp only [aj,aA] at I
   obtain ⟨rfl,rfl⟩:=I
   obtain ⟨f1,f2⟩:=he _ (by simp [ho,Op.operands]) _ hx
   refine pW ?_ h f2
   simp only [conc] at f1
   simp [execOp,ho,f1,conc]
  ·simp at I
 case h_11 op t x y u ho =>
  split at I
  ·rename_i p q hp hq
   obtain ⟨J,e2⟩:=c_ I
   simp only at J e2; subst e2
   obtain ⟨f1,f2⟩:=he _ (by simp [ho,Op.operands]) _ hp
   obtain ⟨g1,g2⟩:=he _ (by simp [ho,Op.operands]) _ hq
   exact dL (by simp only [execOp,ho,f1,g1]) (fl.same h (MP h J f2 g2))
  ·simp at I
 case h_12 op t x ho =>
  split at I
  ·rename_i u hu
   obtain ⟨J,e2⟩:=c_ I
   simp only at J e2; subst e2
   obtain ⟨f1,f2⟩:=he _ (by simp [ho,Op.operands]) _ hu
   exact dL (by simp only [execOp,ho,f1]) (fl.same h (Ov J w))
  ·simp at I
 case h_13 s d x ho =>
  split at I
  ·rename_i u hu
   obtain ⟨f1,f2⟩:=he _ (by simp [ho,Op.operands]) _ hu
   split at I
   ·rename_i r hc
    obtain ⟨r1,r2⟩:=r
    simp only [aj,aA] at I
    obtain ⟨rfl,rfl⟩:=I
    obtain ⟨q1,q2,q3⟩:=J8 h hc f2
    subst q3
    exact dL (by simp only [execOp,ho,f1]) (fl.same h ⟨q1,q2⟩)
   ·exact dL (by simp only [execOp,ho,f1]) (HE h I f2)
  ·simp at I
 case h_14 d x ho =>
  split at I
  ·rename_i u hu
   obtain ⟨J,e2⟩:=c_ I
   simp only at J e2; subst e2
   obtain ⟨f1,f2⟩:=he _ (by simp [ho,Op.operands]) _ hu
   exact dL (by simp only [execOp,ho,f1]) (fl.same h (FP J f2 w))
  ·simp at I
 case h_15 t x ho =>
  split at I
  ·rename_i u hu
   obtain ⟨J,e2⟩:=c_ I
   simp only at J e2; subst e2
   obtain ⟨f1,f2⟩:=he _ (by simp [ho,Op.operands]) _ hu
   exact dL (by simp only [execOp,ho,f1]) (fl.same h (By J f2 w))
  ·simp at I
 case h_16 f x y ho =>
  split at I
  ·rename_i l m hl hm
   simp only [aj,aA] at I
   obtain ⟨rfl,rfl⟩:=I
   obtain ⟨f1,f2⟩:=tU (a:=a) (c:=c) _ _ (fun x hx=>he x (by simp only [ho,Op.operands,zP]; exact .inl (by simpa using hx))) hl
   obtain ⟨g1,g2⟩:=tU (a:=a) (c:=c) _ _ (fun x hx=>he x (by simp only [ho,Op.operands,zP]; exact .inr (by simpa using hx))) hm
   have h1:x.map a.eval=(l.map (conc c)).toArray:=by apply gz; simpa using f1
   have h2:y.map a.eval=(m.map (conc c)).toArray:=by apply gz; simpa using g1
   exact dL (s:=Instr.makeFunc f (l.map (conc c)).toArray (m.map (conc c)).toArray) (by simp only [execOp,ho,h1,h2]) (fl.same h ⟨by simp [Instr.makeFunc,conc,eu],by simp only [wf,eF]; exact ⟨f2,g2⟩⟩)
  ·simp at I
 case h_17 t r ho =>
  split at I
  ·simp only [aj,aA] at I
   obtain ⟨rfl,rfl⟩:=I
   exact dL (by simp only [execOp,ho,gj]) (DM h t)
  ·simp at I
 case h_18 t x y ho =>
  split at I
  ·rename_i p q hp hq
   obtain ⟨f1,f2⟩:=he _ (by simp [ho,Op.operands]) _ hp
   obtain ⟨g1,g2⟩:=he _ (by simp [ho,Op.operands]) _ hq
   exact dL (by simp only [execOp,ho,f1,g1]) (Ac h I)
  ·simp at I
 case h_19 t x lo hi mx ho =>
  split at I
  ·rename_i u x1 x2 x3 hu h1 h2 h3
   split at I
   ·rename_i b1 b2 b3 q1 q2 q3
    obtain ⟨J,e2⟩:=c_ I
    simp only at J e2; subst e2
    obtain ⟨f1,f2⟩:=he _ (by simp [ho,Op.operands]) _ hu
    have m1:=Af (c:=c) (a:=a) (fun y hy=>he y (by simp [ho,Op.operands,hy])) h1
    have m2:=Af (c:=c) (a:=a) (fun y hy=>he y (by simp [ho,Op.operands,hy])) h2
    have m3:=Af (c:=c) (a:=a) (fun y hy=>he y (by simp [ho,Op.operands,hy])) h3
    exact dL (by simp only [execOp,ho,f1,m1,m2,m3]) (fl.same h (HA h q1 q2 q3 J f2))
   ·simp at I
  ·simp at I
 case h_20 t x i ho =>
  split at I
  ·rename_i u hu
   obtain ⟨J,e2⟩:=c_ I
   simp only at J e2; subst e2
   obtain ⟨f1,f2⟩:=he _ (by simp [ho,Op.operands]) _ hu
   exact dL (by simp only [execOp,ho,f1]) (fl.same h (Bz J f2 w))
  ·simp at I
 case h_21 t x i ho =>
  split at I
  ·rename_i u hu
   obtain ⟨J,e2⟩:=c_ I
   simp only at J e2; subst e2
   obtain ⟨f1,f2⟩:=he _ (by simp [ho,Op.operands]) _ hu
   exact dL (by simp only [execOp,ho,f1]) (fl.same h (Hy J f2 w))
  ·simp at I
 case h_22 t x i ho =>
  split at I
  ·rename_i p q hp hq
   obtain ⟨J,e2⟩:=c_ I
   simp only at J e2; subst e2
   obtain ⟨f1,f2⟩:=he _ (by simp [ho,Op.operands]) _ hp
   obtain ⟨g1,g2⟩:=he _ (by simp [ho,Op.operands]) _ hq
   exact dL (by simp only [execOp,ho,f1,g1]) (fl.same h (BA J f2 w))
  ·simp at I
 case h_23 t x i ho =>
  split at I
  ·rename_i p q hp hq
   obtain ⟨J,e2⟩:=c_ I
   simp only at J e2; subst e2
   obtain ⟨f1,f2⟩:=he _ (by simp [ho,Op.operands]) _ hp
   obtain ⟨g1,g2⟩:=he _ (by simp [ho,Op.operands]) _ hq
   exact dL (by simp only [execOp,ho,f1,g1]) (fl.same h (Hz J f2 w))
  ·simp at I
 case h_24 t x k ok ho =>
  split at I
  ·rename_i p q hp hq
   obtain ⟨J,e2⟩:=c_ I
   simp only at J e2; subst e2
   obtain ⟨f1,f2⟩:=he _ (by simp [ho,Op.operands]) _ hp
   obtain ⟨g1,g2⟩:=he _ (by simp [ho,Op.operands]) _ hq
   exact dL (by simp only [execOp,ho,f1,g1]) (fl.same h (FR h J f2 g2))
  ·simp at I
 case h_25 t m k x ho =>
  split at I
  ·rename_i p q r hp hq B2
   obtain ⟨J,e2⟩:=oL I
   simp only at J e2; subst e2
   obtain ⟨f1,f2⟩:=he _ (by simp [ho,Op.operands]) _ hp
   obtain ⟨g1,g2⟩:=he _ (by simp [ho,Op.operands]) _ hq
   obtain ⟨i1,i2⟩:=he _ (by simp [ho,Op.operands]) _ B2
   exact vC (by simp only [execOp,ho,f1,g1,i1]) (rX h J g2 i2)
  ·simp at I
 case h_26 t m k x ho =>
  split at I
  ·rename_i p q r hp hq B2
   obtain ⟨J,e2⟩:=oL I
   simp only at J e2; subst e2
   obtain ⟨f1,f2⟩:=he _ (by simp [ho,Op.operands]) _ hp
   obtain ⟨g1,g2⟩:=he _ (by simp [ho,Op.operands]) _ hq
   obtain ⟨i1,i2⟩:=he _ (by simp [ho,Op.operands]) _ B2
   exact vC (by simp only [execOp,ho,f1,g1,i1]) (rX h J g2 i2)
  ·simp at I
 case h_27 t m k ho =>
  split at I
  ·rename_i p q hp hq
   obtain ⟨f1,f2⟩:=he _ (by simp [ho,Op.operands]) _ hp
   obtain ⟨g1,g2⟩:=he _ (by simp [ho,Op.operands]) _ hq
   exact dL (by simp only [execOp,ho,f1,g1]) (BB h I g2)
  ·simp at I
 case h_28 t m s x ho =>
  split at I
  ·rename_i p q r hp hq B2
   obtain ⟨J,e2⟩:=oL I
   simp only at J e2; subst e2
   obtain ⟨f1,f2⟩:=he _ (by simp [ho,Op.operands]) _ hp
   obtain ⟨g1,g2⟩:=he _ (by simp [ho,Op.operands]) _ hq
   obtain ⟨i1,i2⟩:=he _ (by simp [ho,Op.operands]) _ B2
   exact vC (by simp only [execOp,ho,f1,g1,i1]) (xK (t:=t) h J i2)
  ·simp at I
 case h_29 x xt t ok ho =>
  split at I
  ·rename_i u hu
   obtain ⟨J,e2⟩:=c_ I
   simp only at J e2; subst e2
   obtain ⟨f1,f2⟩:=he _ (by simp [ho,Op.operands]) _ hu
   exact dL (by simp only [execOp,ho,f1]) (fl.same h (FT (xt:=xt) J f2 w))
  ·simp at I
 case h_30 t i ho =>
  split at I
  ·rename_i l hl
   obtain ⟨J,e2⟩:=c_ I
   simp only [fh] at J e2; subst e2
   obtain ⟨f1,f2⟩:=he _ (by simp [ho,Op.operands]) _ hl
   have hv:wf c v:=by
    have:dS c l:=by simpa [wf] using f2
    exact eF.1 this v (bh J)
   refine pW ?_ h hv
   simp only [execOp,ho,f1,conc,eu,Instr.extract]
   simp [J]
  ·simp at I
 case h_31 cl ho=>exact HU hS hT ho h he I
 case h_32 t x ho =>
  split at I
  ·rename_i u hx
   obtain ⟨f1,f2⟩:=he x (by simp [ho,Op.operands]) _ hx
   exact dL (by simp only [execOp,ho,f1]) (F2 h I f2)
  ·simp at I
 case h_33 it str ho =>
  split at I
  ·rename_i u hx
   obtain ⟨f1,f2⟩:=he it (by simp [ho,Op.operands]) _ hx
   cases str with
   | true=>exact dL (s:=Instr.next (conc c u) true o.type) (by simp only [execOp,ho,f1]) (HP h I o.type)
   | false=>exact dL (s:=Instr.next (conc c u) false o.type) (by simp only [execOp,ho,f1]) (HS h I o.type)
  ·simp at I
 case h_34 it ho =>
  split at I
  ·rename_i u hx
   obtain ⟨f1,f2⟩:=he it (by simp [ho,Op.operands]) _ hx
   obtain ⟨J,e2⟩:=c_ I
   simp only at J e2
   subst e2
   exact dL (by simp only [execOp,ho,f1]) (fl.same h (HT h J))
  ·simp at I
 case h_35=>simp at I
theorem kF {r:V×H}(I:evOp C self env σ o=some r): ∀d,o.op≠.defer d:=by
 intro d J
 unfold evOp at I
 rw [J] at I
 cases I
theorem xN {ops:Array Oper}(he:∀j w d,o.guard=some (j,w)→(ops[j]?).bind (·.dst)=some d→a.tmps.getD d undef=conc c (env.v d)):
  Region.wanted o (yielded ops a.tmps)=wantedV ops.toList env o:=by
 unfold Region.wanted wantedV
 cases hg:o.guard with
 | none=>rfl
 | some jw =>
  obtain ⟨j,want⟩:=jw
  simp only [yielded,fh,gU]
  cases hd:(ops[j]?).bind (·.dst) with
  | none=>simp
  | some d =>
   have hv:=he j want d hg hd
   simp only [bR]
   by_cases I:d<a.tmps.size
   ·have J:a.tmps[d]?=some (conc c (env.v d)):=by
     rw [←hv]; simp [Array.getD,I]
    rw [J]
    generalize env.v d=x
    cases x with
    | bool b=>cases b <;> cases want <;> simp [conc]
    | sl i p q cap=>cases cap <;> simp [conc]
    | _=>simp [conc]
   ·have J:a.tmps[d]?=none:=Array.getElem?_eq_none (nf I)
    have h2:conc c (env.v d)=undef:=by rw [←hv]; simp [Array.getD,I]
    rw [J]
    generalize env.v d=x at h2
    cases x with
    | bool b=>simp [conc,undef] at h2
    | sl i p q cap=>cases cap <;> simp
    | _=>simp
theorem xO {n:Nat}(he:cU c env n a){ops:Array Oper}: Region.wanted o (yielded ops a.tmps)=wantedV ops.toList env o :=
 xN fun _ _ d _ _=>he.val d
end ops
theorem Ki (hS:g9 C.P self)(hT:eU C){r:Option Nat}{ops:Array Oper}{Q:Exit→Act→World→Prop}: ∀(l:List Oper) (k:Nat) (s s':St) (c:Ctx) (a:Act) (w:World),
  (∀j,l[j]?=ops[k+j]?)→evOps C self ops.toList l s=some s'→Rel c s.h w→cU c s.env s.au a →
  (∀c' a' w',Rel c' s'.h w'→cU c' s'.env s'.au a'→bU c w c' w'→a'.defers=a.defers→Q .normal a' w') →
  wpOpsIn (Fr r) 0 C.P ops Q (List.range' k l.length) a w:=by
 intro l
 induction l with
 | nil =>
  intro k s s' c a w _ I h he hQ
  simp only [evOps,aj] at I
  subst I
  simp only [bF,List.range'_zero,wpOpsIn]
  exact hQ c a w h he (bU.refl c w) rfl
 | cons o l ih =>
  intro k s s' c a w hl I h he hQ
  have h0:ops[k]?=some o:=by simpa using (hl 0).symm
  have xP:∀j,l[j]?=ops[k+1+j]?:=fun j=>by have:=hl (j+1); simpa [iA,vr 1 j] using this
  simp only [aQ,zJ,wpOpsIn,h0]
  rw [xO he]
  simp only [evOps] at I
  cases hw:wantedV ops.toList s.env o with
  | true =>
   rw [hw,af] at I
   simp only [bz]
   cases ho:evOp C self s.env s.h o with
   | none=>simp [ho] at I
   | some r =>
    obtain ⟨v,dH⟩:=r
    simp only [ho] at I
    cases hp:s.put o.dst v dH with
    | none=>simp [hp] at I
    | some J =>
     simp only [hp] at I
     refine (vD hS hT h (he.EB o) ho).wpIn (kF ho) ?_
     intro c' w' r1 r2 r3
     obtain ⟨p1,p2,p3⟩:=St.xB (he.ext r2.ext) r3 hp
     refine ih (k+1) J s' c' _ w' xP I (by rw [p2]; exact r1) p1 ?_
     intro oB ue uf q1 q2 q3 q4
     exact hQ oB ue uf q1 q2 (r2.trans q3) (by rw [q4]; cases o.dst <;> rfl)
  | false =>
   rw [hw,ay] at I
   simp only [dI,bC]
   refine ⟨fun _ _=>trivial,?_⟩
   cases hp:s.put o.dst bE s.h with
   | none=>simp [hp] at I
   | some J =>
    simp only [hp] at I
    obtain ⟨p1,p2,p3⟩:=St.xB he (show wf c bE by simp [bE,wf,dS]) hp
    rw [mB] at p1
    refine ih (k+1) J s' c _ w xP I (by rw [p2]; exact h) p1 ?_
    intro oB ue uf q1 q2 q3 q4
    exact hQ oB ue uf q1 q2 q3 (by rw [q4]; cases o.dst <;> rfl)
end
end Go.Proofs.YtefepnnfphdkpaaGreat.Am
