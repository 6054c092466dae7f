/- SpaceRoots: a part of its proof; conditions: its statement's. -/
import Derived.Test.YtefepnnfphdkpaaGreatF07
import Derived.RangeFuncIn
import Derived.RangeFuncRecord
import Derived.RangeFuncCalls
import Derived.OrdersIn
import Derived.LoopNIn
import Derived.Maps.RangeRun
import Derived.Lib.OthersKept
namespace Go.Proofs.YtefepnnfphdkpaaGreat.Am
open Go
def exOf : Ex→Exit
 | .normal=>.normal
 | .exit i=>.exit i
 | .ret=>.ret
def G6 (P:Program)(self:Self): Prop:=∀(code:Code) (s:St) (ex:Ex) (s':St),self code s=some (ex,s') →
 ∀(c:Ctx) (a:Act) (w:World),Rel c s.h w→dQ c s.env s.ay a →
  code.wp P (fun e I w'=>e=exOf ex∧I.defers=a.defers∧∃c',Rel c' s'.h w'∧dQ c' s'.env s'.ay I∧cV c w c' w') a w
def Fr (r:Option Nat): Fence:={ fn:=fun _=>True,depth:=none,alive:=false,round:=r }
theorem Qw {r:Option Nat}{n:Nat}{P:Program}{f:FuncId}{args:Array Value}{w:World}{R:Ending→World→Prop}(h:Calls P f args w R): CallsIn (Fr r) n P f args w R :=
 (callsIn_wide (n:=n)).2 h
def iW (P:Program)(self:Self): Prop:=∀(code:Code) (s:St) (ex:Ex) (s':St),self code s=some (ex,s') →
 ∀(r:Option Nat) (c:Ctx) (a:Act) (w:World),Rel c s.h w→dQ c s.env s.ay a →
  code.wpIn (Fr r) 0 P (fun e I w'=>e=exOf ex∧I.defers=a.defers∧∃c',Rel c' s'.h w'∧dQ c' s'.env s'.ay I∧cV c w c' w') a w
theorem iW.wide {P:Program}{self:Self}(h:iW P self): G6 P self:=fun code s ex s' hs c a w I he=>wpIn_wide.1 (h code s ex s' hs none c a w I he)
def gh (P:Program)(f:FuncId)(args:List V)(c:Ctx)(w:World)(v:V)(I:H): Prop :=
 Calls P f (args.map (conc c)).toArray w fun e w'=>∃c',e=.returned (conc c' v)∧wf c' v∧Rel c' I w'∧cV c w c' w'
def Ko (P : Program) (f : Nat) (g : List V → H → Option (V × H)) : Prop :=
 ((∃ fn, P.funcs[f]? = some fn ∧ fn.body.isSome = true ∧ (fn.name == "runtime.NumGoroutine") = false) ∧
  ∀ (args : List V) (σ : H) (v : V) (I : H), g args σ = some (v, I) → ∀ (c : Ctx) (w : World), Rel c σ w → (∀ x ∈ args, wf c x) → gh P f args c w v I) ∨
 ((∃ fn, P.funcs[f]? = some fn ∧ fn.body.isSome = false) ∧
  ∀ (args : List V) (σ : H) (v : V) (I : H), g args σ = some (v, I) → ∀ (c : Ctx) (w : World), Rel c σ w → (∀ x ∈ args, wf c x) →
   ∃ c' w', (callFunc f (args.map (conc c)).toArray).run P w = .ok (.value (conc c' v)) w' ∧ Rel c' I w' ∧ cV c w c' w' ∧ wf c' v)
def fy (C:cL): Prop:=∀f g,C.told f=some g→Ko C.P f g
section
variable {C:cL} {self:Self} {c:Ctx} {σ:H} {w:World}
theorem tU : ∀(l:List V) (k:Nat) (e:Env) (j:Nat),T.get (bindArgs l k e) j=if k≤j∧j<k+l.length then l[j-k]? else T.get e j:=by
 intro l
 induction l with
 | nil=>intro k e j; simp only [bindArgs,bT]; rw [ah (by omega)]
 | cons v l ih =>
  intro k e j
  simp only [bindArgs,ih,aS,aX]
  by_cases I:j=k
  ·subst I
   rw [ah (by omega),aj rfl,aj (by omega)]
   simp
  ·by_cases J:k+1≤j∧j<k+1+l.length
   ·rw [aj J,aj (by omega)]
    have:j-k=(j-(k+1))+1:=by omega
    rw [this]; simp
   ·rw [ah J,ah I,ah (by omega)]
theorem kx {args:List V}{n:Nat}(hle:args.length≤n)(hw:∀x∈args,wf c x):
  dQ c (bindArgs args 0 .lf) n { tmps:=(args.map (conc c)).toArray++Array.replicate (n-(args.map (conc c)).toArray.size) undef,defers:=[] } where
 size:=by simp; omega
 val:=fun t=>by
  simp only [Env.v,tU,T.jX,ew,true_and,dH,kf]
  by_cases I:t<args.length
  ·rw [aj I]
   rw [bf I]
   simp [Array.getD,I]
   omega
  ·rw [ah I,nV]
   simp [Array.getD,Array.getElem_append,I]
 uS:=fun t=>by
  simp only [Env.v,tU,T.jX,ew,true_and,dH,kf]
  by_cases I:t<args.length
  ·rw [aj I,bf I]
   exact hw _ (qJ I)
  ·rw [ah I]; simp [bV,wf,fu]
def resSem (tmps:Array Value): ResultVar→Sem Value
 | .tmp t=>pure (tmps.getD t undef)
 | .cell x t=>do loadVar t (← asAddr (tmps.getD x undef))
theorem LK (fn:Func)(tmps:Array Value): results fn tmps=(do
  let vs ← fn.results.mapM (resSem tmps)
  pure (if h:vs.size=1 then vs[0] else .tuple vs)):=by
 unfold results
 exact gy (fun f=>(Array.mapM f fn.results >>= fun vs=>(pure (if h:vs.size=1 then vs[0] else .tuple vs):Sem Value))) (funext fun r=>by cases r <;> rfl)
theorem T_ {s:St}{a:Act}(h:Rel c s.h w)(he:dQ c s.env s.ay a){P:Program}{r:ResultVar}{v:V}(I:resV P s r=some v):
  (resSem a.tmps r).run P w=.ok (conc c v) w∧wf c v:=by
 cases r with
 | tmp t =>
  simp only [resV,aq] at I
  subst I
  exact ⟨by simp only [resSem,Sem.run_pure,he.val t],he.uS t⟩
 | cell x t =>
  simp only [resV] at I
  obtain ⟨J,h2⟩:=GU h I
  refine ⟨?_,h2⟩
  simp only [resSem]
  rw [he.val x]
  unfold loadV at I
  split at I
  ·rename_i id off hx
   rw [hx] at J ⊢
   simpa [Instr.loadAt,Instr.sureAddr,asAddr,conc] using J
  ·simp at I
theorem pW {s:St}{a:Act}(h:Rel c s.h w)(he:dQ c s.env s.ay a){P:Program}{fn:Func}{vs:List V}(hr:mapO (resV P s) fn.results.toList=some vs):
  (results fn a.tmps).run P w=.ok (if h:(vs.map (conc c)).toArray.size=1 then (vs.map (conc c)).toArray[0] else .tuple (vs.map (conc c)).toArray) w∧∀v∈vs,wf c v:=by
 have key:∀(l:List ResultVar) (vs:List V),mapO (resV P s) l=some vs →
   (l.mapM (resSem a.tmps)).run P w=.ok (vs.map (conc c)) w∧∀v∈vs,wf c v:=by
  intro l
  induction l with
  | nil=>intro vs h; simp [mapO] at h; subst h; simp
  | cons r l ih =>
   intro vs I
   simp only [mapO] at I
   cases J:resV P s r with
   | none=>simp [J] at I
   | some v =>
    cases h2:mapO (resV P s) l with
    | none=>simp [J,h2] at I
    | some m =>
     simp [J,h2] at I
     subst I
     obtain ⟨r1,r2⟩:=T_ h he J
     obtain ⟨i1,i2⟩:=ih m h2
     refine ⟨?_,fun x hx => ?_⟩
     ·rw [List.mapM_cons,Sem.run_bind,r1]
      simp only [Result.andThen_ok,Sem.run_bind,i1,Sem.run_pure,b6]
     ·rcases List.mem_cons.1 hx with rfl | hx
      ·exact r2
      ·exact i2 x hx
 obtain ⟨k1,k2⟩:=key _ _ hr
 refine ⟨?_,k2⟩
 rw [LK,Kk]
 simp only [Sem.run_bind,Sem.run_map,k1,Result.andThen_ok,Sem.run_pure]
theorem tV (hS : G6 C.P self) (hT : fy C) {f : FuncId} {args : List V} {v : V} {eS : H} (I : callF C self f args σ = some (v, eS)) (h : Rel c σ w) (hw : ∀ x ∈ args, wf c x) :
  gh C.P f args c w v eS ∧ ∀ (x : Array Value) (w : World), (callFunc f x).run C.P w = .ok (.enter f x) w := by
 unfold callF at I
 split at I
 ·rename_i g hg
  cases J : kM C.P f with
  | false => rw [J] at I; cases I
  | true =>
  rw [J, ag] at I
  rcases hT f g hg with ⟨⟨fn, t1, t2, t3⟩, t4⟩ | ⟨⟨fn, t1, t2⟩, _⟩
  rotate_left
  ·unfold kM at J
   rw [t1] at J
   simp only at J
   rw [t2] at J
   cases J
  refine ⟨t4 args σ v eS I c w h hw, fun x w => ?_⟩
  have : fn.body.isNone = false := by
   cases hb : fn.body with
   | none => rw [hb] at t2; cases t2
   | some b => rfl
  simp only [callFunc, Sem.run_bind, run_program, Result.andThen_ok, t1, t3, dY, bN, this, Sem.run_pure]
 ·cases hf : C.P.funcs[f]? with
  | none => simp [hf] at I
  | some fn =>
   simp only [hf] at I
   cases hb : fn.body with
   | none => simp [hb] at I
   | some code =>
    simp only [hb] at I
    cases hq : (fn.name == "runtime.NumGoroutine" || Nat.blt fn.ntmps args.length) with
    | true => simp [hq] at I
    | false =>
     simp only [hq, az] at I
     simp only [Bool.or_eq_false_iff] at hq
     have hle : args.length ≤ fn.ntmps := by
      rcases lR fn.ntmps args.length with h' | h'
      ·rw [gJ.2 h'] at hq; cases hq.2
      ·exact h'
     refine ⟨?_, fun x w => by simp only [callFunc, Sem.run_bind, run_program, Result.andThen_ok, hf, hq.1, dY, bN, hb, Option.isNone_some, Sem.run_pure]⟩
     have tW := kx (c := c) hle hw
     have done : ∀ ex s, self code ⟨bindArgs args 0 .lf, fn.ntmps, σ⟩ = some (ex, s) → (ex = .normal ∨ ex = .ret) →
       (match mapO (resV C.P s) fn.results.toList with
        | some [v] => some (v, s.h)
        | some vs => some (.bj vs, s.h)
        | none => none) = some (v, eS) → gh C.P f args c w v eS := by
      intro ex s hs hex hm
      have NA := hS code _ ex s hs c _ w h tW
      refine calls_of_wp hf hb (wp_mono NA ?_)
      rintro e a' w' ⟨rfl, hd, c', r1, r2, r3⟩
      have uX : a'.defers = [] ∧ ∃ x, (results fn a'.tmps).run C.P w' = .ok x w' ∧ ∃ mM, Ending.returned x = .returned (conc mM v) ∧ wf mM v ∧ Rel mM eS w' ∧ cV c w mM w' := by
       refine ⟨hd, ?_⟩
       cases Kp : mapO (resV C.P s) fn.results.toList with
       | none => simp [Kp] at hm
       | some vs =>
        obtain ⟨q1, q2⟩ := pW r1 r2 Kp
        refine ⟨_, q1, c', ?_⟩
        rw [Kp] at hm
        rcases vs with _ | ⟨v0, _ | ⟨v1, vs⟩⟩
        ·simp only [aq, aF] at hm
         obtain ⟨rfl, rfl⟩ := hm
         exact ⟨by simp [conc, concL], by simp [wf, fu], r1, r3⟩
        ·simp only [aq, aF] at hm
         obtain ⟨rfl, rfl⟩ := hm
         exact ⟨by simp, q2 v0 (by simp), r1, r3⟩
        ·simp only [aq, aF] at hm
         obtain ⟨rfl, rfl⟩ := hm
         exact ⟨by simp [conc, gC], by simp only [wf, gK]; exact q2, r1, r3⟩
      rcases hex with rfl | rfl
      ·simpa [bodyPost, exOf] using uX
      ·simpa [bodyPost, exOf] using uX
     split at I
     ·rename_i s hs
      exact done .normal s hs (.inl rfl) I
     ·rename_i s hs
      exact done .ret s hs (.inr rfl) I
     ·simp at I
section ops
variable {env:Env} {a:Act} {K:Act→World→Prop} {Q:Exit→Act→World→Prop} {o:Oper}
def AJ (c:Ctx)(env:Env)(a:Act)(o:Oper): Prop:=∀x∈o.op.operands,∀v,evO env x=some v→a.eval x=conc c v∧wf c v
theorem dQ.G7 {n:Nat}(he:dQ c env n a)(o:Oper): AJ c env a o:=fun _ _ _ h=>yA he h
def xb (P:Program)(o:Oper)(a:Act)(c:Ctx)(w:World)(v:V)(I:H): Prop :=
 (∃c' w',((execOp a.eval o).run P w=.ok (.value (conc c' v)) w'∨((execOp a.eval o).run P w=.ok .skip w'∧conc c' v=undef))∧Rel c' I w'∧cV c w c' w'∧wf c' v) ∨
 (∃f args,(execOp a.eval o).run P w=.ok (.enter f args) w∧Calls P f args w fun e w'=>∃c',e=.returned (conc c' v)∧wf c' v∧Rel c' I w'∧cV c w c' w') ∨
 (∃l fn tmps assign body,(execOp a.eval o).run P w=.ok (.round l fn tmps assign body) w∧RoundIn (Fr none) 0 P l fn tmps assign body w fun e w'=>∃c',e=.returned (conc c' v)∧wf c' v∧Rel c' I w'∧cV c w c' w')
theorem e_ {v:V}{I:H}{s:Sem Value}(he:(execOp a.eval o)=(do pure (.value (← s))))(J:g_ C.P s c w v I): xb C.P o a c w v I:=by
 obtain ⟨w',c',h1,h2,h3,h4⟩:=J
 refine .inl ⟨c',w',.inl ?_,h3,h4,h2⟩
 rw [he]
 simp only [Sem.run_bind,h1,Result.andThen_ok,Sem.run_pure]
theorem AK {I:H}{s:Sem Unit}(he:(execOp a.eval o)=(do s; pure .skip))(J:Qt C.P s c w I): xb C.P o a c w bV I:=by
 obtain ⟨w',c',h1,h3,h4⟩:=J
 refine .inl ⟨c',w',.inr ⟨?_,nV c'⟩,h3,h4,by simp [bV,wf,fu]⟩
 rw [he]
 simp only [Sem.run_bind,h1,Result.andThen_ok,Sem.run_pure]
theorem Kq {f:FuncId}{args:List V}{v:V}{I:H}(he:(execOp a.eval o).run C.P w=.ok (.enter f (args.map (conc c)).toArray) w)(J:gh C.P f args c w v I): xb C.P o a c w v I :=
 .inr (.inl ⟨f,_,he,J⟩)
theorem xb.wpIn {P:Program}{v:V}{eS:H}(h:xb P o a c w v eS)(ni:∀d,o.op≠.defer d){r:Option Nat}
 (hK:∀c' w',Rel c' eS w'→cV c w c' w'→wf c' v→K (a.put o.dst (conc c' v)) w'): o.wpIn (Fr r) 0 P a w K Q:=by
 refine ⟨fun _ _=>trivial,?_⟩
 rw [Oper.semAt_eq _ _ _ ni]
 rcases h with ⟨c',w',I,J,h3,h4⟩ | ⟨f,args,I,J⟩ | ⟨l,fn,tmps,assign,body,I,J⟩
 ·rcases I with I | ⟨I,h5⟩
  ·rw [I]; exact hK c' w' J h3 h4
  ·rw [I]; have:=hK c' w' J h3 h4; rw [h5] at this; exact this
 ·rw [I]
  refine ⟨fun hd=>(by cases hd),Qw (Calls.mono J ?_)⟩
  rintro e w' ⟨c',rfl,q1,q2,q3⟩
  exact hK c' w' q2 q3 q1
 ·rw [I]
  refine ⟨fun hd=>(by cases hd),RoundIn.mono J ?_⟩
  rintro e w' ⟨c',rfl,q1,q2,q3⟩
  exact hK c' w' q2 q3 q1
theorem LL {b:Builtin}{ts:Array TypeId}{ty:TypeId}{cs:Array Bool}{args:List V}{v:V}{eS:H}(h:Rel c σ w)(I:builtinV C.P σ b ts args=some (v,eS))(hw:∀x∈args,wf c x):
  ∃s,builtin b ts ty cs (args.map (conc c)).toArray=(do pure (.value (← s)))∧g_ C.P s c w v eS:=by
 unfold builtinV at I
 split at I
 ·rename_i x
  split at I
  ·rename_i t l nA
   cases J:lenV C.P σ t x with
   | none=>simp [J] at I
   | some u =>
    simp [J] at I
    obtain ⟨rfl,rfl⟩:=I
    have h0:ts[0]?=some t:=by rw [←jf,nA]; rfl
    exact ⟨_,rfl,g_.same h (T6 h J ts h0 ty)⟩
  ·simp at I
 ·rename_i s x
  exact ⟨_,rfl,Jq h I (hw s (by simp)) (hw x (by simp))⟩
 ·rename_i d s
  split at I
  ·rename_i t l nA
   have h0:ts[0]?=some t:=by rw [←jf,nA]; rfl
   exact ⟨_,rfl,Nz h h0 I (hw d (by simp)) (hw s (by simp))⟩
  ·simp at I
 ·rename_i x
  split at I
  ·rename_i t l nA
   have h0:ts[0]?=some t:=by rw [←jf,nA]; rfl
   cases J:clearV C.P σ t x with
   | none=>simp [J] at I
   | some u =>
    simp [J] at I
    obtain ⟨rfl,rfl⟩:=I
    obtain ⟨w',c',e1,e2,e3⟩:=LJ (P:=C.P) (ty:=ty) h h0 J (hw x (by simp))
    exact ⟨_,rfl,w',c',by simpa [conc,concL] using e1,by simp [wf,fu],e2,e3⟩
  ·simp at I
 ·rename_i m k
  split at I
  ·rename_i t l nA
   have h0:ts[0]?=some t:=by rw [←jf,nA]; rfl
   cases J:o8 C.P σ t m k with
   | none=>simp [J] at I
   | some u =>
    simp [J] at I
    obtain ⟨rfl,rfl⟩:=I
    obtain ⟨w',c',e1,e2,e3⟩:=Jp (P:=C.P) (ty:=ty) h J (hw k (by simp)) ts h0
    exact ⟨_,rfl,w',c',by simpa [conc,concL] using e1,by simp [wf,fu],e2,e3⟩
  ·simp at I
 ·rename_i x l
  cases J:foldV maxV x l with
  | none=>simp [J] at I
  | some u =>
   simp [J] at I
   obtain ⟨rfl,rfl⟩:=I
   obtain ⟨e1,e2⟩:=G3 (P:=C.P) (c:=c) (w:=w) maxV Builtin.max2 (fun x y v hv=>T7 hv w) l x u J (hw x (by simp))
   refine ⟨_,rfl,g_.same h ⟨?_,e2⟩⟩
   simpa [Builtin.max_] using e1
 ·rename_i x l
  cases J:foldV BT x l with
  | none=>simp [J] at I
  | some u =>
   simp [J] at I
   obtain ⟨rfl,rfl⟩:=I
   obtain ⟨e1,e2⟩:=G3 (P:=C.P) (c:=c) (w:=w) BT Builtin.min2 (fun x y v hv=>T8 hv w) l x u J (hw x (by simp))
   refine ⟨_,rfl,g_.same h ⟨?_,e2⟩⟩
   simpa [Builtin.min_] using e1
 ·simp at I
theorem Qx {t:TypeId}{name:String}{f:FuncId}(h:methV C.P t name=some f)(d:Nat)(v:Value)(w:World): (method (d+1) t v name).run C.P w=.ok (f,v) w:=by
 unfold methV at h
 generalize ht:C.P.underlying t=dt at h
 split at h
 ·rename_i e
  cases hi:C.P.info? t with
  | none=>simp [hi] at h
  | some i =>
   simp only [hi,cI] at h
   cases hm:i.methods.find? (fun m=>m.name == name) with
   | none=>simp [hm] at h
   | some m =>
    simp only [hm] at h
    split at h
    ·rename_i g J I
     simp only [aq] at h
     subst h
     simp [method,typeInfo,hi,hm,J,I,follow,receiverAt,run_underlying ht,Place.get]
    ·simp at h
 ·rename_i fs
  cases hi:C.P.info? t with
  | none=>simp [hi] at h
  | some i =>
   simp only [hi,cI] at h
   cases hm:i.methods.find? (fun m=>m.name == name) with
   | none=>simp [hm] at h
   | some m =>
    simp only [hm] at h
    split at h
    ·rename_i g J I
     simp only [aq] at h
     subst h
     simp [method,typeInfo,hi,hm,J,I,follow,receiverAt,run_underlying ht,Place.get]
    ·simp at h
 ·simp at h
theorem NB {n:Nat}: ∀(ps:List Nat) (args:List V) (e e':Env) (tmps:Array Value),bindPs n ps args e=some e'→tmps.size=n→(∀t,tmps.getD t undef=conc c (Env.v e t))→(∀t,wf c (Env.v e t))→(∀x∈args,wf c x) →
  args.length=ps.length∧dQ c e' n { tmps:=(ps.zip (args.map (conc c))).foldl (fun tmps (t,a)=>tmps.setIfInBounds t a) tmps,defers:=[] }:=by
 intro ps
 induction ps with
 | nil =>
  intro args e e' tmps I hs hv hw ha
  cases args with
  | nil=>simp only [bindPs,aq] at I; subst I; exact ⟨rfl,hs,hv,hw⟩
  | cons _ _=>simp [bindPs] at I
 | cons p ps ih =>
  intro args e e' tmps I hs hv hw ha
  cases args with
  | nil=>simp [bindPs] at I
  | cons x args =>
   simp only [bindPs] at I
   cases hp:Nat.blt p n with
   | false=>rw [hp] at I; cases I
   | true =>
    rw [hp,ag] at I
    have G8:=gJ.1 hp
    obtain ⟨q1,q2⟩:=ih args (e.set p (some x)) e' (tmps.setIfInBounds p (conc c x)) I (by simp [hs]) (fun t=>by
     simp only [Env.v,aX]
     by_cases J:t=p
     ·subst J
      rw [aj rfl]
      simp [lK,hs,G8]
     ·rw [ah J]
      have:=hv t
      simp only [Env.v] at this
      rw [←this]
      simp [lK,Ar (jO J)]) (fun t=>by
     simp only [Env.v,aX]
     by_cases J:t=p
     ·rw [aj J]; exact ha x bu
     ·rw [ah J]; exact hw t) (fun y hy=>ha y (bn _ hy))
    exact ⟨by simp [q1],q2⟩
theorem Qy (hS:iW C.P self){id:Nat}{args:List V}{v:V}{eS:H}(I:roundV self id args σ=some (v,eS))(h:Rel c σ w)(hw:∀x∈args,wf c x):
  ∃l fn tmps assign body,(Instr.yield (c.ρ id).1 (args.map (conc c)).toArray).run C.P w=.ok (.round l fn tmps assign body) w ∧
   RoundIn (Fr none) 0 C.P l fn tmps assign body w fun e w'=>∃c',e=.returned (conc c' v)∧wf c' v∧Rel c' eS w'∧cV c w c' w':=by
 unfold roundV at I
 split at I
 ·rename_i ay env ps as bd hg
  obtain ⟨fn,tmps,D,hb,eZ,Qz,jP⟩:=h.obj id _ hg
  split at I
  ·cases I
  ·rename_i e he
   obtain ⟨q1,q2⟩:=NB ps args env e tmps he eZ Qz jP hw
   split at I
   ·rename_i VT abD
    split at I
    ·rename_i VA aae VB VC VD J
     split at I
     ·rename_i Lu abE
      split at I
      ·rename_i Yh VE Zr Zs Zt Zw
       simp only [aq,aF] at I
       obtain ⟨rfl,rfl⟩:=I
       have hyl:=run_yield (P:=C.P) (args:=(args.map (conc c)).toArray) hb (by simp [q1])
       refine ⟨_,_,_,_,_,hyl,roundIn_of_wpIn aa (wpIn_mono (hS as _ .normal VT abD (some (c.ρ id).1) c _ w h (by simpa using q2)) ?_)⟩
       rintro ex Gn tX ⟨rfl,Zx,c₁,VU,xg,nt⟩
       have yl:id<c.N:=h.live id _ hg
       have aaf:id<c₁.N:=VU.live id _ J
       have abF:c₁.ρ id=c.ρ id:=nt.ext.ρ id yl
       obtain ⟨acw,abW,acC,Zy,abG⟩:=VU.obj id _ J
       rw [←abF]
       refine ⟨_,run_beginRound Zy rfl,?_⟩
       obtain ⟨abH,aag⟩:=VU.Km (uU:=true) J Zy abG
       refine wpIn_mono (hS bd _ .normal Lu abE (some (c₁.ρ id).1) c₁ Gn _ abH xg) ?_
       rintro ex Yk Yl ⟨rfl,acy,c₂,Ym,Ua,Zz⟩
       obtain ⟨acz,abX,acD,ZA,abI⟩:=Ym.obj id _ Zw
       have abJ:c₂.ρ id=c₁.ρ id:=Zz.ext.ρ id aaf
       obtain ⟨abK,aah⟩:=Ym.Km (uU:=false) Zw ZA abI
       rw [←abJ]
       refine ⟨_,_,run_endRound none ZA,c₂,by simp [conc],by simp [wf],abK,(nt.trans aag).trans (Zz.trans aah)⟩
      ·cases I
     ·cases I
    ·cases I
   ·cases I
 ·cases I
theorem NC : ∀(l:List Nat) (k:Nat),inL l k=l.contains k:=by
 intro l
 induction l with
 | nil=>intro k; rfl
 | cons x l I =>
  intro k
  simp only [inL,I,List.contains_cons]
  by_cases h:x=k
  ·subst h; simp [gP rfl]
  ·have:¬ k=x:=fun e=>h e.symm
   simp [dc h,this]
theorem QA (seen:List Nat): ∀(es:List (V×V×Nat)),(leftV seen es).map (cj c)=(es.map (cj c)).filter (fun e => !seen.toArray.contains e.born):=by
 intro es
 induction es with
 | nil=>rfl
 | cons e es I =>
  simp only [leftV,b6,List.filter_cons]
  rw [NC]
  have J:(cj c e).born=e.2.2:=rfl
  rw [J]
  have hc:seen.toArray.contains e.2.2=seen.contains e.2.2:=by simp
  rw [hc]
  cases seen.contains e.2.2 with
  | true=>simp [I]
  | false=>simp [I]
theorem ND {since:Nat}: ∀(es:List (V×V×Nat)),tK since es=true→∀e∈es,e.2.2<since:=by
 intro es
 induction es with
 | nil=>intro _ e he; cases he
 | cons x es J =>
  intro h e he
  simp only [tK] at h
  cases I:Nat.blt x.2.2 since with
  | false=>rw [I] at h; cases h
  | true =>
   rw [I,ag] at h
   rcases List.mem_cons.1 he with rfl | he
   ·exact gJ.1 I
   ·exact J h e he
theorem Js : ∀(es:List (V×V×Nat)) (b:Nat),bornRise b es=true→(∀e∈es,b≤e.2.2)∧(es.map (·.2.2)).Pairwise (· < ·):=by
 intro es
 induction es with
 | nil=>intro b _; exact ⟨fun e he=>(lP he).elim,List.Pairwise.nil⟩
 | cons x es J =>
  intro b h
  simp only [bornRise] at h
  cases I:Nat.ble b x.2.2 with
  | false=>rw [I] at h; cases h
  | true =>
   rw [I,ag] at h
   have hb:=aJ.1 I
   obtain ⟨i1,i2⟩:=J _ h
   refine ⟨fun e he => ?_,?_⟩
   ·rcases List.mem_cons.1 he with rfl | he
    ·exact hb
    ·have:=i1 e he; omega
   ·simp only [b6,oY]
    refine ⟨fun y hy => ?_,i2⟩
    obtain ⟨e,he,rfl⟩:=List.mem_map.1 hy
    have:=i1 e he
    omega
theorem QB : ∀(l:List Nat) (b:Nat),lastN l=some b→∃i,l=i++[b]:=by
 intro l
 induction l with
 | nil=>intro b h; cases h
 | cons x l I =>
  intro b h
  cases l with
  | nil=>simp only [lastN,aq] at h; subst h; exact ⟨[],rfl⟩
  | cons y l =>
   obtain ⟨i,hi⟩:=I b h
   exact ⟨x::i,by rw [hi]; rfl⟩
theorem LM {b:Nat}: ∀(es:List (V×V×Nat)) (e:V×V×Nat),tg b es=some e→e∈es∧e.2.2=b:=by
 intro es
 induction es with
 | nil=>intro e h; cases h
 | cons x es J =>
  intro e h
  simp only [tg] at h
  cases I:Nat.beq x.2.2 b with
  | true=>rw [I,ag] at h; simp only [aq] at h; subst h; exact ⟨bu,beq_iff.1 I⟩
  | false =>
   rw [I,az] at h
   obtain ⟨h1,h2⟩:=J e h
   exact ⟨bn _ h1,h2⟩
theorem LN {P:Program}{t:TypeId}{x v:V}{J:H}(h:Rel c σ w)(I:rangeV P σ t x=some (v,J))(hx:wf c x): g_ P (Instr.range t (conc c x)) c w v J:=by
 unfold rangeV at I
 generalize ht:P.underlying t=dt at I
 split at I
 ·rename_i kt et id
  split at I
  ·rename_i es clock hg
   simp only [aq,aF] at I
   obtain ⟨rfl,rfl⟩:=I
   obtain ⟨_,hb⟩:=h.obj id _ hg
   have yl:=h.live id _ hg
   have g:=h.new (.iter id clock clock []) (.mapIter (some (c.ρ id).1) clock #[] clock) 0 rfl ⟨by rw [kS]; omega,by rw [bB],by
    rw [bB,dx c _ _ _ yl]
    rw [iA]; simp⟩
   refine ⟨_,_,?_,?_,g.1,g.2⟩
   ·simp only [Instr.range,Sem.run_bind,run_underlying ht,Result.andThen_ok,conc,j6 hb (by simp),Sem.run_pure,run_newObj_alloc,h.next,bB]
   ·simp [wf,h.next,kS]
  ·cases I
 ·rename_i l
  simp only [aq,aF] at I
  obtain ⟨rfl,rfl⟩:=I
  have g:=h.new (.kg l 0) (.stringIter ⟨(l.map UInt8.ofNat).toArray⟩ 0) 0 rfl ⟨by simpa [wf] using hx,by rw [bB],by rw [bB,iA]; simp⟩
  refine ⟨_,_,?_,?_,g.1,g.2⟩
  ·simp only [Instr.range,Sem.run_bind,run_underlying ht,Result.andThen_ok,conc,Sem.run_pure,run_newObj_alloc,h.next,bB]
  ·simp [wf,h.next,kS]
 ·cases I
theorem NF {P:Program}{x v:V}{eS:H}(h:Rel c σ w)(I:nextS σ x=some (v,eS))(ty:TypeId): g_ P (Instr.next (conc c x) true ty) c w v eS:=by
 unfold nextS at I
 split at I
 ·rename_i r off
  cases hq:Nat.beq off 0 with
  | false=>rw [hq] at I; cases I
  | true =>
   rw [hq,ag] at I
   have:=beq_iff.1 hq
   subst this
   split at I
   ·rename_i l pos hg
    obtain ⟨hl,hz,hb⟩:=h.obj r _ hg
    have Cz:conc c (.ptr r 0)=.pointer (some ⟨(c.ρ r).1,0,none⟩):=by simp [conc,hz]
    rw [Cz]
    rw [fF] at I
    split at I
    ·rename_i hn
     simp only [aq,aF] at I
     obtain ⟨rfl,rfl⟩:=I
     have hp:¬ pos<(⟨(l.map UInt8.ofNat).toArray⟩:ByteArray).size:=by
      have:=List.getElem?_eq_none_iff.1 hn
      simp [ByteArray.size]; omega
     exact ⟨w,c,by rw [Lib.run_next_end_at w _ _ _ ty hb hp]; simp [conc,concL],by simp [wf,fu],h,cV.refl c w⟩
    ·rename_i b hn
     cases J:Nat.blt b 128 with
     | false=>rw [J] at I; cases I
     | true =>
      rw [J,ag] at I
      simp only [aq,aF] at I
      obtain ⟨rfl,rfl⟩:=I
      have hb3:=gJ.1 J
      obtain ⟨pX,he⟩:=List.getElem?_eq_some_iff.1 hn
      have hp:pos<(⟨(l.map UInt8.ofNat).toArray⟩:ByteArray).size:=by simpa [ByteArray.size] using pX
      have hv:((⟨(l.map UInt8.ofNat).toArray⟩:ByteArray)[pos]'hp).toNat=b:=by
       have:(⟨(l.map UInt8.ofNat).toArray⟩:ByteArray)[pos]'hp=UInt8.ofNat b:=by
        show ((l.map UInt8.ofNat).toArray)[pos]'(by simpa using pX)=_
        simp [he]
       rw [this,sV]
       omega
      obtain ⟨r1,s1⟩:=h.VM (pos':=pos+1) hg
      refine ⟨_,c,?_,by simp [wf,fu],r1,s1⟩
      rw [Lib.run_next_ascii_at w _ _ _ ty hb hp (by rw [hv]; exact hb3),hv]
      simp only [conc,concL]
      rfl
   ·cases I
 ·cases I
theorem Bx {P:Program}{r:Nat}{L:List (V×H)}(h:Rel c σ w)(I:nextAll σ r=some L)(ty:TypeId):
  ∃q∈L,g_ P (Instr.next (conc c (.ptr r 0)) false ty) c w q.1 q.2:=by
 unfold nextAll at I
 split at I
 ·rename_i dh since last seen hg
  split at I
  ·rename_i es clock hm
   obtain ⟨GW,hz,hb⟩:=h.obj r _ hg
   obtain ⟨hw,VV⟩:=h.obj dh _ hm
   cases hq:(tK since es&&Nat.ble since last) with
   | false=>rw [hq] at I; cases I
   | true =>
    rw [hq,ag] at I
    simp only [aO,aJ] at hq
    have hold:=ND es hq.1
    have Cz:conc c (.ptr r 0)=.pointer (some ⟨(c.ρ r).1,0,none⟩):=by simp [conc,hz]
    rw [Cz]
    have hL:(leftOf (es.map (cj c)).toArray seen.toArray).toList=(leftV seen es).map (cj c):=by
     rw [QA]
     simp [leftOf]
    rcases run_next_at (P:=P) w ty (c.ρ r).1 (c.ρ dh).1 since last seen.toArray (es.map (cj c)).toArray clock hb VV (fun x hx=>by
     simp only [nT] at hx
     obtain ⟨e,he,rfl⟩:=hx
     exact hold e he) hq.2 with ⟨h0,J⟩ | ⟨e,he,w1,pY,J⟩
    ·have BV:leftV seen es=[]:=by
      have:((leftV seen es).map (cj c)).length=0:=by rw [←hL]; simpa using h0
      simpa using this
     rw [BV] at I
     simp only [aq] at I
     subst I
     exact ⟨_,List.mem_singleton.2 rfl,w,c,by rw [J]; simp [conc,concL],by simp [wf,fu],h,cV.refl c w⟩
    ·rw [hL] at he
     obtain ⟨e0,Kr,rfl⟩:=List.mem_map.1 he
     have LO:L=(leftV seen es).map fun e=>(.bj [.bool true,e.1,e.2.1],σ.put r (some (.iter dh since clock (seen++[e.2.2])))):=by
      cases hl:leftV seen es with
      | nil=>rw [hl] at Kr; cases Kr
      | cons y l=>rw [hl] at I; simp only [aq] at I; exact I.symm
     have xh:e0∈es:=by
      have:∀(es:List (V×V×Nat)),e0∈leftV seen es→e0∈es:=by
       intro es
       induction es with
       | nil=>intro h; cases h
       | cons y es ih =>
        intro h
        simp only [leftV] at h
        cases hy:inL seen y.2.2 with
        | true=>rw [hy,ag] at h; exact bn _ (ih h)
        | false =>
         rw [hy,az] at h
         rcases List.mem_cons.1 h with rfl | h
         ·exact bu
         ·exact bn _ (ih h)
      exact this es Kr
     refine ⟨_,by rw [LO]; exact List.mem_map.2 ⟨e0,Kr,rfl⟩,?_⟩
     have vu:Rel c σ w1∧cV c w c w1:=by
      rcases pY with rfl | rfl
      ·exact ⟨h,cV.refl c _⟩
      ·exact ⟨h.drew,cV.drew c w⟩
     obtain ⟨r1,s1⟩:=vu.1.setIter (last':=clock) (seen':=seen++[e0.2.2]) hg
     refine ⟨_,c,?_,by simp only [wf,fu,v7,true_and]; exact hw e0 xh,r1,vu.2.trans s1⟩
     rw [J]
     have:(seen++[e0.2.2]).toArray=seen.toArray.push e0.2.2:=by simp
     simp only [conc,concL,cj,this]
     rfl
  ·cases I
 ·cases I
theorem NG {P:Program}{x v:V}{J:H}(h:Rel c σ w)(I:nextV σ x=some (v,J))(ty:TypeId): g_ P (Instr.next (conc c x) false ty) c w v J:=by
 unfold nextV at I
 split at I
 ·rename_i r off
  cases hq:Nat.beq off 0 with
  | false=>rw [hq] at I; cases I
  | true =>
   rw [hq,ag] at I
   have:=beq_iff.1 hq
   subst this
   split at I
   ·rename_i q hn
    simp only [aq] at I
    subst I
    obtain ⟨q',rR,hg⟩:=Bx (P:=P) h hn ty
    rw [List.mem_singleton.1 rR] at hg
    exact hg
   ·cases I
 ·cases I
theorem NH {P:Program}{x v:V}(h:Rel c σ w)(I:tL σ x=some v): (Instr.entry (conc c x)).run P w=.ok (conc c v) w∧wf c v:=by
 unfold tL at I
 split at I
 ·rename_i r off
  cases hq:Nat.beq off 0 with
  | false=>rw [hq] at I; cases I
  | true =>
   rw [hq,ag] at I
   have:=beq_iff.1 hq
   subst this
   split at I
   ·rename_i dh since last seen hg
    split at I
    ·rename_i es clock hm
     obtain ⟨GW,hz,hb⟩:=h.obj r _ hg
     obtain ⟨hw,VV⟩:=h.obj dh _ hm
     cases J:(Nat.beq clock last&&bornRise 0 es) with
     | false=>rw [J] at I; cases I
     | true =>
      rw [J,ag] at I
      simp only [aO,beq_iff] at J
      obtain ⟨rfl,Yn⟩:=J
      split at I
      ·rename_i b G5
       split at I
       ·rename_i e he
        simp only [aq] at I
        subst I
        obtain ⟨i,rfl⟩:=QB seen b G5
        obtain ⟨h1,rfl⟩:=LM es e he
        have Cz:conc c (.ptr r 0)=.pointer (some ⟨(c.ρ r).1,0,none⟩):=by simp [conc,hz]
        rw [Cz]
        have pS:w.heap[(c.ρ r).1]?=some (.mapIter (some (c.ρ dh).1) since (i.toArray.push (cj c e).born) clock):=by
         rw [hb]; simp [cj]
        have ni:((es.map (cj c)).toArray.toList.map (·.born)).Nodup:=by
         have:=(Js es 0 Yn).2
         have e1:(es.map (cj c)).toArray.toList.map (·.born)=es.map (·.2.2):=by simp [cj,vR]
         rw [e1]
         exact this.imp fun {a b} mL=>by omega
        refine ⟨?_,by simp only [wf,fu,v7]; exact hw e h1⟩
        rw [run_entry_at (P:=P) w (c.ρ r).1 (c.ρ dh).1 since i.toArray (es.map (cj c)).toArray clock (cj c e) pS VV (by simpa using ⟨_,_,_,h1,rfl⟩) ni]
        simp [conc,concL,cj]
       ·cases I
      ·cases I
    ·cases I
   ·cases I
 ·cases I
theorem NI (hS:iW C.P self)(hT:fy C){cl:Call}{v:V}{eS:H}(ho:o.op=.call cl)(h:Rel c σ w)(he:AJ c env a o)(J:evCall C self env σ cl=some (v,eS)):
  xb C.P o a c w v eS:=by
 unfold evCall at J
 cases ha:evArgs env cl.args.toList with
 | none=>simp [ha] at J
 | some args =>
  simp only [ha] at J
  obtain ⟨g1,g2⟩:=yD (a:=a) (c:=c) _ _ (fun x hx=>he x (by simp only [ho,Op.operands,Call.operands,D9]; exact .inr (by simpa using hx))) ha
  have I:cl.args.map a.eval=(args.map (conc c)).toArray:=by
   apply ji
   simpa using g1
  split at J
  ·rename_i b hb
   obtain ⟨s,e1,e2⟩:=LL (C:=C) (ty:=o.type) (cs:=cl.args.map fun | .const _=>true | _=>false) h J g2
   refine e_ (s:=s) ?_ e2
   simp only [execOp,ho,resolve,hb,pure_bind,invoke,I]
   exact e1
  ·rename_i f hf
   cases hv:evO env f with
   | none=>simp [hv] at J
   | some fv =>
    simp only [hv] at J
    obtain ⟨f1,f2⟩:=he f (by simp [ho,Op.operands,Call.operands,hf]) _ hv
    unfold callV at J
    split at J
    ·rename_i k first captured
     have fw:(∀x∈first,wf c x)∧(∀x∈captured,wf c x):=by
      have:fu c first∧fu c captured:=by simpa [wf] using f2
      exact ⟨gK.1 this.1,gK.1 this.2⟩
     have mE:∀x∈first++(args++captured),wf c x:=by
      intro x hx
      rcases List.mem_append.1 hx with hx | hx
      ·exact fw.1 x hx
      ·rcases List.mem_append.1 hx with hx | hx
       ·exact g2 x hx
       ·exact fw.2 x hx
     cases yL:kM C.P k with
     | false =>
      rw [yL,az] at J
      split at J
      ·rename_i g hg
       rcases hT k g hg with ⟨⟨fn,t1,t2,_⟩,_⟩ | ⟨_,t4⟩
       ·unfold kM at yL
        rw [t1] at yL
        simp only at yL
        rw [t2] at yL
        cases yL
       ·obtain ⟨c',w',u1,u2,u3,u4⟩:=t4 _ σ v eS J c w h mE
        refine .inl ⟨c',w',.inl ?_,u2,u3,u4⟩
        simp only [execOp,ho,resolve,hf,I,f1,conc,gC,Deferred.ofValue,pure_bind,invoke]
        rw [show (first.map (conc c)).toArray++(args.map (conc c)).toArray++(captured.map (conc c)).toArray=((first++(args++captured)).map (conc c)).toArray from by
         apply ji; simp]
        exact u1
      ·cases J
     | true =>
     rw [yL,ag] at J
     obtain ⟨q1,q2⟩:=tV hS.wide hT J h mE
     refine Kq ?_ q1
     simp only [execOp,ho,resolve,hf,I,f1,conc,gC,Deferred.ofValue,pure_bind,invoke]
     rw [show (first.map (conc c)).toArray++(args.map (conc c)).toArray++(captured.map (conc c)).toArray=((first++(args++captured)).map (conc c)).toArray from by
      apply ji; simp]
     exact q2 _ w
    ·rename_i id
     have f3:id<c.N:=by simpa [wf] using f2
     obtain ⟨l,fn,tmps,assign,bd,y1,y2⟩:=Qy hS J h g2
     refine .inr (.inr ⟨l,fn,tmps,assign,bd,?_,y2⟩)
     simp only [execOp,ho,resolve,hf,I,f1,conc,Deferred.ofValue,pure_bind,invoke]
     rw [show (#[]:Array Value)++(args.map (conc c)).toArray=(args.map (conc c)).toArray from by simp]
     exact y1
    ·simp at J
  ·rename_i r m hm
   split at J
   ·rename_i t x hv
    obtain ⟨f1,f2⟩:=he r (by simp [ho,Op.operands,Call.operands,hm]) _ hv
    cases VW:methV C.P t m with
    | none=>simp [VW] at J
    | some f =>
     simp only [VW] at J
     obtain ⟨q1,q2⟩:=tV hS.wide hT J h (by
      intro y hy
      rcases List.mem_cons.1 hy with rfl | hy
      ·simpa [wf] using f2
      ·exact g2 y hy)
     refine Kq ?_ q1
     have NJ:=Qx VW (C.P.types.size+99) (conc c x) w
     simp only [execOp,ho,resolve,hm,I,f1,conc,pure_bind,invoke]
     have h1:((#[Value.iface t (conc c x)]++(args.map (conc c)).toArray:Array Value))[0]?=some (.iface t (conc c x)):=by simp
     have h2:(#[Value.iface t (conc c x)]++(args.map (conc c)).toArray:Array Value).extract 1 (#[Value.iface t (conc c x)]++(args.map (conc c)).toArray:Array Value).size=(args.map (conc c)).toArray:=by
      apply ji; simp [dO]
     rw [h1,h2]
     simp only [callMethod,Sem.run_bind,run_program,Result.andThen_ok,Made.depth]
     rw [NJ]
     simp only [Result.andThen_ok]
     rw [show (#[conc c x]++(args.map (conc c)).toArray:Array Value)=((x::args).map (conc c)).toArray from by apply ji; simp]
     exact q2 _ w
   ·simp at J
theorem ep {x:Option V}{h:H}{r:V×H}(e:aY x h=some r): x=some r.1∧r.2=h:=by
 cases x with
 | none=>simp [aY] at e
 | some v=>simp [aY] at e; subst e; exact ⟨rfl,rfl⟩
theorem sJ {x:Option H}{r:V×H}(e:nh x=some r): x=some r.2∧r.1=bV:=by
 cases x with
 | none=>simp [nh] at e
 | some v=>simp [nh] at e; subst e; exact ⟨rfl,rfl⟩
theorem tY {v:V}(he:(execOp a.eval o).run C.P w=.ok (.value (conc c v)) w)(h:Rel c σ w)(hv:wf c v): xb C.P o a c w v σ :=
 .inl ⟨c,w,.inl he,h,cV.refl c w,hv⟩
theorem Er {x:Option Operand}{v:Option V}(he:∀y,x=some y→∀v,evO env y=some v→a.eval y=conc c v∧wf c v)(h:optV env x=some v): x.map a.eval=v.map (conc c):=by
 cases x with
 | none=>simp [optV] at h; subst h; rfl
 | some y =>
  simp only [optV] at h
  cases I:evO env y with
  | none=>simp [I] at h
  | some u =>
   simp [I] at h
   subst h
   simp [(he y rfl u I).1]
theorem wm (hS:iW C.P self)(hT:fy C){v:V}{eS:H}(h:Rel c σ w)(he:AJ c env a o)(I:evOp C self env σ o=some (v,eS)):
  xb C.P o a c w v eS:=by
 unfold evOp at I
 split at I
 case h_1 ho =>
  obtain ⟨J,e2⟩:=ep I
  simp only at J e2; subst e2
  obtain ⟨f1,f2⟩:=he _ (by simp [ho,Op.operands]) _ J
  exact tY (by simp [execOp,ho,f1]) h f2
 case h_2 ho =>
  obtain ⟨J,e2⟩:=ep I
  simp only at J e2; subst e2
  obtain ⟨f1,f2⟩:=he _ (by simp [ho,Op.operands]) _ J
  exact tY (by simp [execOp,ho,f1]) h f2
 case h_3 x y z ho =>
  split at I
  ·rename_i t hx
   obtain ⟨J,e2⟩:=ep I
   simp only at J e2; subst e2
   obtain ⟨f1,f2⟩:=he _ (by cases t <;> simp [ho,Op.operands]) _ J
   obtain ⟨g1,_⟩:=he _ (by simp [ho,Op.operands]) _ hx
   refine tY ?_ h f2
   cases t <;> simp only [ag,az] at f1 <;> simp [execOp,ho,f1,g1,conc,asBool]
  ·simp at I
 case h_4 t ho =>
  split at I
  ·rename_i z hz
   simp only [aq,aF] at I
   obtain ⟨rfl,rfl⟩:=I
   exact e_ (by simp [execOp,ho]) (Ns h hz)
  ·simp at I
 case h_5 t x ho =>
  split at I
  ·rename_i u hu
   cases hs:u.cells.all storable with
   | false=>simp [hs] at I
   | true =>
    simp only [hs,ag,aq,aF] at I
    obtain ⟨rfl,rfl⟩:=I
    obtain ⟨f1,f2⟩:=he _ (by simp [ho,Op.operands]) _ hu
    exact e_ (by simp [execOp,ho,f1]) (T9 (t:=t) h f2 hs)
  ·simp at I
 case h_6 t ps ho =>
  split at I
  ·rename_i l hl
   obtain ⟨J,e2⟩:=ep I
   simp only at J e2; subst e2
   obtain ⟨f1,f2⟩:=wY (a:=a) (c:=c) _ _ (fun x hx=>he x.2 (by simp only [ho,Op.operands]; simp; exact ⟨x.1,by simpa using hx⟩)) hl
   have Ff:(ps.map fun (i,x)=>(i,a.eval x))=(l.map fun x=>(x.1,conc c x.2)).toArray:=by
    apply ji
    simpa using f1
   exact e_ (by simp only [execOp,ho]; rw [Ff]) (g_.same h (Nl J f2 w))
  ·simp at I
 case h_7 t m ps ho =>
  split at I
  ·rename_i l hl
   obtain ⟨f1,f2⟩:=wY (a:=a) (c:=c) _ _ (fun x hx=>he x.2 (by simp only [ho,Op.operands]; simp; exact ⟨x.1,by simpa using hx⟩)) hl
   have Ff:(ps.map fun (i,x)=>(i,a.eval x))=(l.map fun x=>(x.1,conc c x.2)).toArray:=by
    apply ji
    simpa using f1
   exact e_ (by simp only [execOp,ho]; rw [Ff]) (Cq h I f2)
  ·simp at I
 case h_8 t x ho =>
  split at I
  ·rename_i u hu
   obtain ⟨J,e2⟩:=ep I
   simp only at J e2; subst e2
   obtain ⟨f1,f2⟩:=he _ (by simp [ho,Op.operands]) _ hu
   exact e_ (by simp only [execOp,ho,f1]) (g_.same h (GU h J))
  ·simp at I
 case h_9 t x y ho =>
  split at I
  ·rename_i p u hp hu
   obtain ⟨J,e2⟩:=sJ I
   simp only at J e2; subst e2
   obtain ⟨f1,f2⟩:=he _ (by simp [ho,Op.operands]) _ hp
   obtain ⟨g1,g2⟩:=he _ (by simp [ho,Op.operands]) _ hu
   obtain ⟨w',s1,s2,s3⟩:=Ni h J g2
   exact AK (by simp only [execOp,ho,f1,g1]) ⟨w',c,s1,s2,s3⟩
  ·simp at I
 case h_10 x ho =>
  split at I
  ·rename_i i j hx
   simp only [aq,aF] at I
   obtain ⟨rfl,rfl⟩:=I
   obtain ⟨f1,f2⟩:=he _ (by simp [ho,Op.operands]) _ hx
   refine tY ?_ h f2
   simp only [conc] at f1
   simp [execOp,ho,f1,conc]
  ·simp at I
 case h_11 op t x y u ho =>
  split at I
  ·rename_i p q hp hq
   obtain ⟨J,e2⟩:=ep I
   simp only at J e2; subst e2
   obtain ⟨f1,f2⟩:=he _ (by simp [ho,Op.operands]) _ hp
   obtain ⟨g1,g2⟩:=he _ (by simp [ho,Op.operands]) _ hq
   exact e_ (by simp only [execOp,ho,f1,g1]) (g_.same h (T5 h J f2 g2))
  ·simp at I
 case h_12 op t x ho =>
  split at I
  ·rename_i u hu
   obtain ⟨J,e2⟩:=ep I
   simp only at J e2; subst e2
   obtain ⟨f1,f2⟩:=he _ (by simp [ho,Op.operands]) _ hu
   exact e_ (by simp only [execOp,ho,f1]) (g_.same h (VO J w))
  ·simp at I
 case h_13 s d x ho =>
  split at I
  ·rename_i u hu
   obtain ⟨f1,f2⟩:=he _ (by simp [ho,Op.operands]) _ hu
   split at I
   ·rename_i r hc
    obtain ⟨r1,r2⟩:=r
    simp only [aq,aF] at I
    obtain ⟨rfl,rfl⟩:=I
    obtain ⟨q1,q2,q3⟩:=Qq h hc f2
    subst q3
    exact e_ (by simp only [execOp,ho,f1]) (g_.same h ⟨q1,q2⟩)
   ·exact e_ (by simp only [execOp,ho,f1]) (Nt h I f2)
  ·simp at I
 case h_14 d x ho =>
  split at I
  ·rename_i u hu
   obtain ⟨J,e2⟩:=ep I
   simp only at J e2; subst e2
   obtain ⟨f1,f2⟩:=he _ (by simp [ho,Op.operands]) _ hu
   exact e_ (by simp only [execOp,ho,f1]) (g_.same h (LA J f2 w))
  ·simp at I
 case h_15 t x ho =>
  split at I
  ·rename_i u hu
   obtain ⟨J,e2⟩:=ep I
   simp only at J e2; subst e2
   obtain ⟨f1,f2⟩:=he _ (by simp [ho,Op.operands]) _ hu
   exact e_ (by simp only [execOp,ho,f1]) (g_.same h (Gh J f2 w))
  ·simp at I
 case h_16 f x y ho =>
  split at I
  ·rename_i l m hl hm
   simp only [aq,aF] at I
   obtain ⟨rfl,rfl⟩:=I
   obtain ⟨f1,f2⟩:=yD (a:=a) (c:=c) _ _ (fun x hx=>he x (by simp only [ho,Op.operands,D9]; exact .inl (by simpa using hx))) hl
   obtain ⟨g1,g2⟩:=yD (a:=a) (c:=c) _ _ (fun x hx=>he x (by simp only [ho,Op.operands,D9]; exact .inr (by simpa using hx))) hm
   have h1:x.map a.eval=(l.map (conc c)).toArray:=by apply ji; simpa using f1
   have h2:y.map a.eval=(m.map (conc c)).toArray:=by apply ji; simpa using g1
   exact e_ (s:=Instr.makeFunc f (l.map (conc c)).toArray (m.map (conc c)).toArray) (by simp only [execOp,ho,h1,h2]) (g_.same h ⟨by simp [Instr.makeFunc,conc,gC],by simp only [wf,gK]; exact ⟨f2,g2⟩⟩)
  ·simp at I
 case h_17 t r ho =>
  split at I
  ·simp only [aq,aF] at I
   obtain ⟨rfl,rfl⟩:=I
   exact e_ (by simp only [execOp,ho,iV]) (Jm h t)
  ·simp at I
 case h_18 t x y ho =>
  split at I
  ·rename_i p q hp hq
   obtain ⟨f1,f2⟩:=he _ (by simp [ho,Op.operands]) _ hp
   obtain ⟨g1,g2⟩:=he _ (by simp [ho,Op.operands]) _ hq
   exact e_ (by simp only [execOp,ho,f1,g1]) (En h I)
  ·simp at I
 case h_19 t x lo hi mx ho =>
  split at I
  ·rename_i u x1 x2 x3 hu h1 h2 h3
   split at I
   ·rename_i b1 b2 b3 q1 q2 q3
    obtain ⟨J,e2⟩:=ep I
    simp only at J e2; subst e2
    obtain ⟨f1,f2⟩:=he _ (by simp [ho,Op.operands]) _ hu
    have m1:=Er (c:=c) (a:=a) (fun y hy=>he y (by simp [ho,Op.operands,hy])) h1
    have m2:=Er (c:=c) (a:=a) (fun y hy=>he y (by simp [ho,Op.operands,hy])) h2
    have m3:=Er (c:=c) (a:=a) (fun y hy=>he y (by simp [ho,Op.operands,hy])) h3
    exact e_ (by simp only [execOp,ho,f1,m1,m2,m3]) (g_.same h (Np h q1 q2 q3 J f2))
   ·simp at I
  ·simp at I
 case h_20 t x i ho =>
  split at I
  ·rename_i u hu
   obtain ⟨J,e2⟩:=ep I
   simp only at J e2; subst e2
   obtain ⟨f1,f2⟩:=he _ (by simp [ho,Op.operands]) _ hu
   exact e_ (by simp only [execOp,ho,f1]) (g_.same h (Gi J f2 w))
  ·simp at I
 case h_21 t x i ho =>
  split at I
  ·rename_i u hu
   obtain ⟨J,e2⟩:=ep I
   simp only at J e2; subst e2
   obtain ⟨f1,f2⟩:=he _ (by simp [ho,Op.operands]) _ hu
   exact e_ (by simp only [execOp,ho,f1]) (g_.same h (Nn J f2 w))
  ·simp at I
 case h_22 t x i ho =>
  split at I
  ·rename_i p q hp hq
   obtain ⟨J,e2⟩:=ep I
   simp only at J e2; subst e2
   obtain ⟨f1,f2⟩:=he _ (by simp [ho,Op.operands]) _ hp
   obtain ⟨g1,g2⟩:=he _ (by simp [ho,Op.operands]) _ hq
   exact e_ (by simp only [execOp,ho,f1,g1]) (g_.same h (Gj J f2 w))
  ·simp at I
 case h_23 t x i ho =>
  split at I
  ·rename_i p q hp hq
   obtain ⟨J,e2⟩:=ep I
   simp only at J e2; subst e2
   obtain ⟨f1,f2⟩:=he _ (by simp [ho,Op.operands]) _ hp
   obtain ⟨g1,g2⟩:=he _ (by simp [ho,Op.operands]) _ hq
   exact e_ (by simp only [execOp,ho,f1,g1]) (g_.same h (No J f2 w))
  ·simp at I
 case h_24 t x k ok ho =>
  split at I
  ·rename_i p q hp hq
   obtain ⟨J,e2⟩:=ep I
   simp only at J e2; subst e2
   obtain ⟨f1,f2⟩:=he _ (by simp [ho,Op.operands]) _ hp
   obtain ⟨g1,g2⟩:=he _ (by simp [ho,Op.operands]) _ hq
   exact e_ (by simp only [execOp,ho,f1,g1]) (g_.same h (LC h J f2 g2))
  ·simp at I
 case h_25 t m k x ho =>
  split at I
  ·rename_i p q r hp hq GZ
   obtain ⟨J,e2⟩:=sJ I
   simp only at J e2; subst e2
   obtain ⟨f1,f2⟩:=he _ (by simp [ho,Op.operands]) _ hp
   obtain ⟨g1,g2⟩:=he _ (by simp [ho,Op.operands]) _ hq
   obtain ⟨i1,i2⟩:=he _ (by simp [ho,Op.operands]) _ GZ
   exact AK (by simp only [execOp,ho,f1,g1,i1]) (wk h J g2 i2)
  ·simp at I
 case h_26 t m k x ho =>
  split at I
  ·rename_i p q r hp hq GZ
   obtain ⟨J,e2⟩:=sJ I
   simp only at J e2; subst e2
   obtain ⟨f1,f2⟩:=he _ (by simp [ho,Op.operands]) _ hp
   obtain ⟨g1,g2⟩:=he _ (by simp [ho,Op.operands]) _ hq
   obtain ⟨i1,i2⟩:=he _ (by simp [ho,Op.operands]) _ GZ
   exact AK (by simp only [execOp,ho,f1,g1,i1]) (wk h J g2 i2)
  ·simp at I
 case h_27 t m k ho =>
  split at I
  ·rename_i p q hp hq
   obtain ⟨f1,f2⟩:=he _ (by simp [ho,Op.operands]) _ hp
   obtain ⟨g1,g2⟩:=he _ (by simp [ho,Op.operands]) _ hq
   exact e_ (by simp only [execOp,ho,f1,g1]) (Gk h I g2)
  ·simp at I
 case h_28 t m s x ho =>
  split at I
  ·rename_i p q r hp hq GZ
   obtain ⟨J,e2⟩:=sJ I
   simp only at J e2; subst e2
   obtain ⟨f1,f2⟩:=he _ (by simp [ho,Op.operands]) _ hp
   obtain ⟨g1,g2⟩:=he _ (by simp [ho,Op.operands]) _ hq
   obtain ⟨i1,i2⟩:=he _ (by simp [ho,Op.operands]) _ GZ
   exact AK (by simp only [execOp,ho,f1,g1,i1]) (Cx (t:=t) h J i2)
  ·simp at I
 case h_29 x xt t ok ho =>
  split at I
  ·rename_i u hu
   obtain ⟨J,e2⟩:=ep I
   simp only at J e2; subst e2
   obtain ⟨f1,f2⟩:=he _ (by simp [ho,Op.operands]) _ hu
   exact e_ (by simp only [execOp,ho,f1]) (g_.same h (LF (xt:=xt) J f2 w))
  ·simp at I
 case h_30 t i ho =>
  split at I
  ·rename_i l hl
   obtain ⟨J,e2⟩:=ep I
   simp only [fF] at J e2; subst e2
   obtain ⟨f1,f2⟩:=he _ (by simp [ho,Op.operands]) _ hl
   have hv:wf c v:=by
    have:fu c l:=by simpa [wf] using f2
    exact gK.1 this v (bC J)
   refine tY ?_ h hv
   simp only [execOp,ho,f1,conc,gC,Instr.extract]
   simp [J]
  ·simp at I
 case h_31 cl ho=>exact NI hS hT ho h he I
 case h_32 t x ho =>
  split at I
  ·rename_i u hx
   obtain ⟨f1,f2⟩:=he x (by simp [ho,Op.operands]) _ hx
   exact e_ (by simp only [execOp,ho,f1]) (LN h I f2)
  ·simp at I
 case h_33 it str ho =>
  split at I
  ·rename_i u hx
   obtain ⟨f1,f2⟩:=he it (by simp [ho,Op.operands]) _ hx
   cases str with
   | true=>exact e_ (s:=Instr.next (conc c u) true o.type) (by simp only [execOp,ho,f1]) (NF h I o.type)
   | false=>exact e_ (s:=Instr.next (conc c u) false o.type) (by simp only [execOp,ho,f1]) (NG h I o.type)
  ·simp at I
 case h_34 it ho =>
  split at I
  ·rename_i u hx
   obtain ⟨f1,f2⟩:=he it (by simp [ho,Op.operands]) _ hx
   obtain ⟨J,e2⟩:=ep I
   simp only at J e2
   subst e2
   exact e_ (by simp only [execOp,ho,f1]) (g_.same h (NH h J))
  ·simp at I
 case h_35=>simp at I
theorem lV {r:V×H}(I:evOp C self env σ o=some r): ∀d,o.op≠.defer d:=by
 intro d J
 unfold evOp at I
 rw [J] at I
 cases I
theorem CA {ops:Array Oper}(he:∀j w d,o.guard=some (j,w)→(ops[j]?).bind (·.dst)=some d→a.tmps.getD d undef=conc c (env.v d)):
  Region.wanted o (yielded ops a.tmps)=wantedV ops.toList env o:=by
 unfold Region.wanted wantedV
 cases hg:o.guard with
 | none=>rfl
 | some jw =>
  obtain ⟨j,want⟩:=jw
  simp only [yielded,fF,jf]
  cases hd:(ops[j]?).bind (·.dst) with
  | none=>simp
  | some d =>
   have hv:=he j want d hg hd
   simp only [cI]
   by_cases I:d<a.tmps.size
   ·have J:a.tmps[d]?=some (conc c (env.v d)):=by
     rw [←hv]; simp [Array.getD,I]
    rw [J]
    generalize env.v d=x
    cases x with
    | bool b=>cases b <;> cases want <;> simp [conc]
    | sl i p q cap=>cases cap <;> simp [conc]
    | _=>simp [conc]
   ·have J:a.tmps[d]?=none:=Array.getElem?_eq_none (sW I)
    have h2:conc c (env.v d)=undef:=by rw [←hv]; simp [Array.getD,I]
    rw [J]
    generalize env.v d=x at h2
    cases x with
    | bool b=>simp [conc,undef] at h2
    | sl i p q cap=>cases cap <;> simp
    | _=>simp
theorem xj {n:Nat}(he:dQ c env n a){ops:Array Oper}: Region.wanted o (yielded ops a.tmps)=wantedV ops.toList env o :=
 CA fun _ _ d _ _=>he.val d
end ops
theorem QC (hS:iW C.P self)(hT:fy C){r:Option Nat}{ops:Array Oper}{Q:Exit→Act→World→Prop}: ∀(l:List Oper) (k:Nat) (s s':St) (c:Ctx) (a:Act) (w:World),
  (∀j,l[j]?=ops[k+j]?)→evOps C self ops.toList l s=some s'→Rel c s.h w→dQ c s.env s.ay a →
  (∀c' a' w',Rel c' s'.h w'→dQ c' s'.env s'.ay a'→cV c w c' w'→a'.defers=a.defers→Q .normal a' w') →
  wpOpsIn (Fr r) 0 C.P ops Q (List.range' k l.length) a w:=by
 intro l
 induction l with
 | nil =>
  intro k s s' c a w _ I h he hQ
  simp only [evOps,aq] at I
  subst I
  simp only [bT,D_,wpOpsIn]
  exact hQ c a w h he (cV.refl c w) rfl
 | cons o l ih =>
  intro k s s' c a w hl I h he hQ
  have h0:ops[k]?=some o:=by simpa using (hl 0).symm
  have rS:∀j,l[j]?=ops[k+1+j]?:=fun j=>by have:=hl (j+1); simpa [gx,tc 1 j] using this
  simp only [aS,Ay,wpOpsIn,h0]
  rw [xj he]
  simp only [evOps] at I
  cases hw:wantedV ops.toList s.env o with
  | true =>
   rw [hw,ag] at I
   simp only [bO]
   cases ho:evOp C self s.env s.h o with
   | none=>simp [ho] at I
   | some r =>
    obtain ⟨v,eS⟩:=r
    simp only [ho] at I
    cases hp:s.put o.dst v eS with
    | none=>simp [hp] at I
    | some J =>
     simp only [hp] at I
     refine (wm hS hT h (he.G7 o) ho).wpIn (lV ho) ?_
     intro c' w' r1 r2 r3
     obtain ⟨p1,p2,p3⟩:=St.we (he.ext r2.ext) r3 hp
     refine ih (k+1) J s' c' _ w' rS I (by rw [p2]; exact r1) p1 ?_
     intro mM rT tZ q1 q2 q3 q4
     exact hQ mM rT tZ q1 q2 (r2.trans q3) (by rw [q4]; cases o.dst <;> rfl)
  | false =>
   rw [hw,az] at I
   simp only [dY,bN]
   refine ⟨fun _ _=>trivial,?_⟩
   cases hp:s.put o.dst bV s.h with
   | none=>simp [hp] at I
   | some J =>
    simp only [hp] at I
    obtain ⟨p1,p2,p3⟩:=St.we he (show wf c bV by simp [bV,wf,fu]) hp
    rw [nV] at p1
    refine ih (k+1) J s' c _ w rS I (by rw [p2]; exact h) p1 ?_
    intro mM rT tZ q1 q2 q3 q4
    exact hQ mM rT tZ q1 q2 q3 (by rw [q4]; cases o.dst <;> rfl)
end
end Go.Proofs.YtefepnnfphdkpaaGreat.Am
