/- AtomTorn: a part of its proof; conditions: its statement's. -/
import Derived.Test.YtconhghphklfjaaGreatT07
import Derived.RangeFuncIn
import Derived.RangeFuncRecord
import Derived.RangeFuncCalls
import Derived.OrdersIn
import Derived.LoopNIn
import Derived.Maps.RangeRun
import Derived.Lib.OthersKept
namespace Go.Proofs.YtconhghphklfjaaGreat.Am
open Go
def exOf : Ex→Exit
 | .normal=>.normal
 | .exit i=>.exit i
 | .ret=>.ret
def GM (P:Program)(self:Self): Prop:=∀(code:Code) (s:St) (ex:Ex) (s':St),self code s=some (ex,s') →
 ∀(c:Ctx) (a:Act) (w:World),Rel c s.h w→fu c s.env s.az a →
  code.wp P (fun e J w'=>e=exOf ex∧J.defers=a.defers∧∃I,Rel I s'.h w'∧fu I s'.env s'.az J∧dL c w I w') a w
def Fr (r:Option Nat): Fence:={ fn:=fun _=>True,depth:=none,alive:=false,round:=r }
theorem PX {r:Option Nat}{n:Nat}{P:Program}{f:FuncId}{args:Array Value}{w:World}{R:Ending→World→Prop}(h:Calls P f args w R): CallsIn (Fr r) n P f args w R :=
 (callsIn_wide (n:=n)).2 h
def jr (P:Program)(self:Self): Prop:=∀(code:Code) (s:St) (ex:Ex) (s':St),self code s=some (ex,s') →
 ∀(r:Option Nat) (c:Ctx) (a:Act) (w:World),Rel c s.h w→fu c s.env s.az a →
  code.wpIn (Fr r) 0 P (fun e J w'=>e=exOf ex∧J.defers=a.defers∧∃I,Rel I s'.h w'∧fu I s'.env s'.az J∧dL c w I w') a w
theorem jr.wide {P:Program}{self:Self}(h:jr P self): GM P self:=fun code s ex s' hs c a w I he=>wpIn_wide.1 (h code s ex s' hs none c a w I he)
def fX (P:Program)(f:FuncId)(args:List V)(c:Ctx)(w:World)(v:V)(J:H): Prop :=
 Calls P f (args.map (conc c)).toArray w fun e w'=>∃I,e=.returned (conc I v)∧wf I v∧Rel I J w'∧dL c w I w'
def Ei (P : Program) (f : Nat) (g : List V → H → Option (V × H)) : Prop :=
 ((∃ fn, P.funcs[f]? = some fn ∧ fn.body.isSome = true ∧ (fn.name == "runtime.NumGoroutine") = false) ∧
  ∀ (args : List V) (σ : H) (v : V) (I : H), g args σ = some (v, I) → ∀ (c : Ctx) (w : World), Rel c σ w → (∀ x ∈ args, wf c x) → fX P f args c w v I) ∨
 ((∃ fn, P.funcs[f]? = some fn ∧ fn.body.isSome = false) ∧
  ∀ (args : List V) (σ : H) (v : V) (I : H), g args σ = some (v, I) → ∀ (c : Ctx) (w : World), Rel c σ w → (∀ x ∈ args, wf c x) →
   ∃ J w', (callFunc f (args.map (conc c)).toArray).run P w = .ok (.value (conc J v)) w' ∧ Rel J I w' ∧ dL c w J w' ∧ wf J v)
def hG (C:dF): Prop:=∀f g,C.told f=some g→Ei C.P f g
section
variable {C:dF} {self:Self} {c:Ctx} {σ:H} {w:World}
theorem ur : ∀(l:List V) (k:Nat) (e:Env) (j:Nat),T.get (bindArgs l k e) j=if k≤j∧j<k+l.length then l[j-k]? else T.get e j:=by
 intro l
 induction l with
 | nil=>intro k e j; simp only [bindArgs,bY]; rw [af (by omega)]
 | cons v l U =>
  intro k e j
  simp only [bindArgs,U,bl,a_]
  by_cases I:j=k
  ·subst I
   rw [af (by omega),aj rfl,aj (by omega)]
   simp
  ·by_cases J:k+1≤j∧j<k+1+l.length
   ·rw [aj J,aj (by omega)]
    have:j-k=(j-(k+1))+1:=by omega
    rw [this]; simp
   ·rw [af J,af I,af (by omega)]
theorem qp {args:List V}{n:Nat}(hle:args.length≤n)(hw:∀x∈args,wf c x):
  fu c (bindArgs args 0 .lf) n { tmps:=(args.map (conc c)).toArray++Array.replicate (n-(args.map (conc c)).toArray.size) undef,defers:=[] } where
 size:=by simp; omega
 val:=fun t=>by
  simp only [Env.v,ur,T.j8,eM,true_and,dV,kH]
  by_cases I:t<args.length
  ·rw [aj I]
   rw [bg I]
   simp [Array.getD,I]
   omega
  ·rw [af I,ql]
   simp [Array.getD,Array.getElem_append,I]
 wo:=fun t=>by
  simp only [Env.v,ur,T.j8,eM,true_and,dV,kH]
  by_cases I:t<args.length
  ·rw [aj I,bg I]
   exact hw _ (pI I)
  ·rw [af I]; simp [cz,wf,fW]
def resSem (tmps:Array Value): ResultVar→Sem Value
 | .tmp t=>pure (tmps.getD t undef)
 | .cell x t=>do loadVar t (← asAddr (tmps.getD x undef))
theorem Ll (fn:Func)(tmps:Array Value): results fn tmps=(do
  let vs ← fn.results.mapM (resSem tmps)
  pure (if h:vs.size=1 then vs[0] else .tuple vs)):=by
 unfold results
 exact iZ (fun f=>(Array.mapM f fn.results >>= fun vs=>(pure (if h:vs.size=1 then vs[0] else .tuple vs):Sem Value))) (funext fun r=>by cases r <;> rfl)
theorem TB {s:St}{a:Act}(h:Rel c s.h w)(he:fu c s.env s.az a){P:Program}{r:ResultVar}{v:V}(I:resV P s r=some v):
  (resSem a.tmps r).run P w=.ok (conc c v) w∧wf c v:=by
 cases r with
 | tmp t =>
  simp only [resV,au] at I
  subst I
  exact ⟨by simp only [resSem,Sem.run_pure,he.val t],he.wo t⟩
 | cell x t =>
  simp only [resV] at I
  obtain ⟨J,U⟩:=Gz h I
  refine ⟨?_,U⟩
  simp only [resSem]
  rw [he.val x]
  unfold loadV at I
  split at I
  ·rename_i id off hx
   rw [hx] at J ⊢
   simpa [Instr.loadAt,Instr.sureAddr,asAddr,conc] using J
  ·simp at I
theorem tc {s:St}{a:Act}(h:Rel c s.h w)(he:fu c s.env s.az a){P:Program}{fn:Func}{vs:List V}(hr:mapO (resV P s) fn.results.toList=some vs):
  (results fn a.tmps).run P w=.ok (if h:(vs.map (conc c)).toArray.size=1 then (vs.map (conc c)).toArray[0] else .tuple (vs.map (conc c)).toArray) w∧∀v∈vs,wf c v:=by
 have key:∀(l:List ResultVar) (vs:List V),mapO (resV P s) l=some vs →
   (l.mapM (resSem a.tmps)).run P w=.ok (vs.map (conc c)) w∧∀v∈vs,wf c v:=by
  intro l
  induction l with
  | nil=>intro vs h; simp [mapO] at h; subst h; simp
  | cons r l ih =>
   intro vs I
   simp only [mapO] at I
   cases J:resV P s r with
   | none=>simp [J] at I
   | some v =>
    cases U:mapO (resV P s) l with
    | none=>simp [J,U] at I
    | some m =>
     simp [J,U] at I
     subst I
     obtain ⟨r1,r2⟩:=TB h he J
     obtain ⟨i1,i2⟩:=ih m U
     refine ⟨?_,fun x hx => ?_⟩
     ·rw [List.mapM_cons,Sem.run_bind,r1]
      simp only [Result.andThen_ok,Sem.run_bind,i1,Sem.run_pure,bI]
     ·rcases List.mem_cons.1 hx with rfl | hx
      ·exact r2
      ·exact i2 x hx
 obtain ⟨k1,k2⟩:=key _ _ hr
 refine ⟨?_,k2⟩
 rw [Ll,JZ]
 simp only [Sem.run_bind,Sem.run_map,k1,Result.andThen_ok,Sem.run_pure]
theorem w_ (hS : GM C.P self) (hT : hG C) {f : FuncId} {args : List V} {v : V} {U : H} (I : callF C self f args σ = some (v, U)) (h : Rel c σ w) (hw : ∀ x ∈ args, wf c x) :
  fX C.P f args c w v U ∧ ∀ (x : Array Value) (w : World), (callFunc f x).run C.P w = .ok (.enter f x) w := by
 unfold callF at I
 split at I
 ·rename_i g hg
  cases J : lu C.P f with
  | false => rw [J] at I; cases I
  | true =>
  rw [J, ag] at I
  rcases hT f g hg with ⟨⟨fn, t1, t2, t3⟩, t4⟩ | ⟨⟨fn, t1, t2⟩, _⟩
  rotate_left
  ·unfold lu at J
   rw [t1] at J
   simp only at J
   rw [t2] at J
   cases J
  refine ⟨t4 args σ v U I c w h hw, fun x w => ?_⟩
  have : fn.body.isNone = false := by
   cases hb : fn.body with
   | none => rw [hb] at t2; cases t2
   | some b => rfl
  simp only [callFunc, Sem.run_bind, run_program, Result.andThen_ok, t1, t3, eY, bN, this, Sem.run_pure]
 ·cases hf : C.P.funcs[f]? with
  | none => simp [hf] at I
  | some fn =>
   simp only [hf] at I
   cases hb : fn.body with
   | none => simp [hb] at I
   | some code =>
    simp only [hb] at I
    cases hq : (fn.name == "runtime.NumGoroutine" || Nat.blt fn.ntmps args.length) with
    | true => simp [hq] at I
    | false =>
     simp only [hq, ay] at I
     simp only [Bool.or_eq_false_iff] at hq
     have hle : args.length ≤ fn.ntmps := by
      rcases rC fn.ntmps args.length with h' | h'
      ·rw [i_.2 h'] at hq; cases hq.2
      ·exact h'
     refine ⟨?_, fun x w => by simp only [callFunc, Sem.run_bind, run_program, Result.andThen_ok, hf, hq.1, eY, bN, hb, Option.isNone_some, Sem.run_pure]⟩
     have BU := qp (c := c) hle hw
     have done : ∀ ex s, self code ⟨bindArgs args 0 .lf, fn.ntmps, σ⟩ = some (ex, s) → (ex = .normal ∨ ex = .ret) →
       (match mapO (resV C.P s) fn.results.toList with
        | some [v] => some (v, s.h)
        | some vs => some (.bE vs, s.h)
        | none => none) = some (v, U) → fX C.P f args c w v U := by
      intro ex s hs hex hm
      have Vo := hS code _ ex s hs c _ w h BU
      refine calls_of_wp hf hb (wp_mono Vo ?_)
      rintro e a' w' ⟨rfl, hd, c', r1, r2, r3⟩
      have R8 : a'.defers = [] ∧ ∃ x, (results fn a'.tmps).run C.P w' = .ok x w' ∧ ∃ qq, Ending.returned x = .returned (conc qq v) ∧ wf qq v ∧ Rel qq U w' ∧ dL c w qq w' := by
       refine ⟨hd, ?_⟩
       cases Vp : mapO (resV C.P s) fn.results.toList with
       | none => simp [Vp] at hm
       | some vs =>
        obtain ⟨q1, q2⟩ := tc r1 r2 Vp
        refine ⟨_, q1, c', ?_⟩
        rw [Vp] at hm
        rcases vs with _ | ⟨v0, _ | ⟨v1, vs⟩⟩
        ·simp only [au, aP] at hm
         obtain ⟨rfl, rfl⟩ := hm
         exact ⟨by simp [conc, concL], by simp [wf, fW], r1, r3⟩
        ·simp only [au, aP] at hm
         obtain ⟨rfl, rfl⟩ := hm
         exact ⟨by simp, q2 v0 (by simp), r1, r3⟩
        ·simp only [au, aP] at hm
         obtain ⟨rfl, rfl⟩ := hm
         exact ⟨by simp [conc, iy], by simp only [wf, ja]; exact q2, r1, r3⟩
      rcases hex with rfl | rfl
      ·simpa [bodyPost, exOf] using R8
      ·simpa [bodyPost, exOf] using R8
     split at I
     ·rename_i s hs
      exact done .normal s hs (.inl rfl) I
     ·rename_i s hs
      exact done .ret s hs (.inr rfl) I
     ·simp at I
section ops
variable {env:Env} {a:Act} {K:Act→World→Prop} {Q:Exit→Act→World→Prop} {o:Oper}
def AU (c:Ctx)(env:Env)(a:Act)(o:Oper): Prop:=∀x∈o.op.operands,∀v,evO env x=some v→a.eval x=conc c v∧wf c v
theorem fu.J5 {n:Nat}(he:fu c env n a)(o:Oper): AU c env a o:=fun _ _ _ h=>Gy he h
def xb (P:Program)(o:Oper)(a:Act)(c:Ctx)(w:World)(v:V)(J:H): Prop :=
 (∃I w',((execOp a.eval o).run P w=.ok (.value (conc I v)) w'∨((execOp a.eval o).run P w=.ok .skip w'∧conc I v=undef))∧Rel I J w'∧dL c w I w'∧wf I v) ∨
 (∃f args,(execOp a.eval o).run P w=.ok (.enter f args) w∧Calls P f args w fun e w'=>∃I,e=.returned (conc I v)∧wf I v∧Rel I J w'∧dL c w I w') ∨
 (∃l fn tmps assign body,(execOp a.eval o).run P w=.ok (.round l fn tmps assign body) w∧RoundIn (Fr none) 0 P l fn tmps assign body w fun e w'=>∃I,e=.returned (conc I v)∧wf I v∧Rel I J w'∧dL c w I w')
theorem fB {v:V}{I:H}{s:Sem Value}(he:(execOp a.eval o)=(do pure (.value (← s))))(J:g_ C.P s c w v I): xb C.P o a c w v I:=by
 obtain ⟨w',U,h1,h2,h3,h4⟩:=J
 refine .inl ⟨U,w',.inl ?_,h3,h4,h2⟩
 rw [he]
 simp only [Sem.run_bind,h1,Result.andThen_ok,Sem.run_pure]
theorem AV {I:H}{s:Sem Unit}(he:(execOp a.eval o)=(do s; pure .skip))(U:PV C.P s c w I): xb C.P o a c w cz I:=by
 obtain ⟨w',J,h1,h3,h4⟩:=U
 refine .inl ⟨J,w',.inr ⟨?_,ql J⟩,h3,h4,by simp [cz,wf,fW]⟩
 rw [he]
 simp only [Sem.run_bind,h1,Result.andThen_ok,Sem.run_pure]
theorem J6 {f:FuncId}{args:List V}{v:V}{I:H}(he:(execOp a.eval o).run C.P w=.ok (.enter f (args.map (conc c)).toArray) w)(J:fX C.P f args c w v I): xb C.P o a c w v I :=
 .inr (.inl ⟨f,_,he,J⟩)
theorem xb.wpIn {P:Program}{v:V}{iJ:H}(h:xb P o a c w v iJ)(nk:∀d,o.op≠.defer d){r:Option Nat}
 (hK:∀I w',Rel I iJ w'→dL c w I w'→wf I v→K (a.put o.dst (conc I v)) w'): o.wpIn (Fr r) 0 P a w K Q:=by
 refine ⟨fun _ _=>trivial,?_⟩
 rw [Oper.semAt_eq _ _ _ nk]
 rcases h with ⟨I,w',J,U,h3,h4⟩ | ⟨f,args,J,U⟩ | ⟨l,fn,tmps,assign,body,J,U⟩
 ·rcases J with J | ⟨J,h5⟩
  ·rw [J]; exact hK I w' U h3 h4
  ·rw [J]; have:=hK I w' U h3 h4; rw [h5] at this; exact this
 ·rw [J]
  refine ⟨fun hd=>(by cases hd),PX (Calls.mono U ?_)⟩
  rintro e w' ⟨I,rfl,q1,q2,q3⟩
  exact hK I w' q2 q3 q1
 ·rw [J]
  refine ⟨fun hd=>(by cases hd),RoundIn.mono U ?_⟩
  rintro e w' ⟨I,rfl,q1,q2,q3⟩
  exact hK I w' q2 q3 q1
theorem Lm {b:Builtin}{ts:Array TypeId}{ty:TypeId}{cs:Array Bool}{args:List V}{v:V}{iJ:H}(h:Rel c σ w)(I:builtinV C.P σ b ts args=some (v,iJ))(hw:∀x∈args,wf c x):
  ∃s,builtin b ts ty cs (args.map (conc c)).toArray=(do pure (.value (← s)))∧g_ C.P s c w v iJ:=by
 unfold builtinV at I
 split at I
 ·rename_i x
  split at I
  ·rename_i t l U
   cases J:lenV C.P σ t x with
   | none=>simp [J] at I
   | some u =>
    simp [J] at I
    obtain ⟨rfl,rfl⟩:=I
    have h0:ts[0]?=some t:=by rw [←jV,U]; rfl
    exact ⟨_,rfl,g_.same h (Tx h J ts h0 ty)⟩
  ·simp at I
 ·rename_i s x
  exact ⟨_,rfl,I9 h I (hw s (by simp)) (hw x (by simp))⟩
 ·rename_i d s
  split at I
  ·rename_i t l U
   have h0:ts[0]?=some t:=by rw [←jV,U]; rfl
   exact ⟨_,rfl,Nb h h0 I (hw d (by simp)) (hw s (by simp))⟩
  ·simp at I
 ·rename_i x
  split at I
  ·rename_i t l U
   have h0:ts[0]?=some t:=by rw [←jV,U]; rfl
   cases J:clearV C.P σ t x with
   | none=>simp [J] at I
   | some u =>
    simp [J] at I
    obtain ⟨rfl,rfl⟩:=I
    obtain ⟨w',c',e1,e2,e3⟩:=Lk (P:=C.P) (ty:=ty) h h0 J (hw x (by simp))
    exact ⟨_,rfl,w',c',by simpa [conc,concL] using e1,by simp [wf,fW],e2,e3⟩
  ·simp at I
 ·rename_i m k
  split at I
  ·rename_i t l U
   have h0:ts[0]?=some t:=by rw [←jV,U]; rfl
   cases J:m9 C.P σ t m k with
   | none=>simp [J] at I
   | some u =>
    simp [J] at I
    obtain ⟨rfl,rfl⟩:=I
    obtain ⟨w',c',e1,e2,e3⟩:=I8 (P:=C.P) (ty:=ty) h J (hw k (by simp)) ts h0
    exact ⟨_,rfl,w',c',by simpa [conc,concL] using e1,by simp [wf,fW],e2,e3⟩
  ·simp at I
 ·rename_i x l
  cases J:foldV maxV x l with
  | none=>simp [J] at I
  | some u =>
   simp [J] at I
   obtain ⟨rfl,rfl⟩:=I
   obtain ⟨e1,e2⟩:=GI (P:=C.P) (c:=c) (w:=w) maxV Builtin.max2 (fun x y v hv=>Ty hv w) l x u J (hw x (by simp))
   refine ⟨_,rfl,g_.same h ⟨?_,e2⟩⟩
   simpa [Builtin.max_] using e1
 ·rename_i x l
  cases J:foldV BT x l with
  | none=>simp [J] at I
  | some u =>
   simp [J] at I
   obtain ⟨rfl,rfl⟩:=I
   obtain ⟨e1,e2⟩:=GI (P:=C.P) (c:=c) (w:=w) BT Builtin.min2 (fun x y v hv=>Tz hv w) l x u J (hw x (by simp))
   refine ⟨_,rfl,g_.same h ⟨?_,e2⟩⟩
   simpa [Builtin.min_] using e1
 ·simp at I
theorem PY {t:TypeId}{name:String}{f:FuncId}(h:methV C.P t name=some f)(d:Nat)(v:Value)(w:World): (method (d+1) t v name).run C.P w=.ok (f,v) w:=by
 unfold methV at h
 generalize U:C.P.underlying t=dt at h
 split at h
 ·rename_i e
  cases hi:C.P.info? t with
  | none=>simp [hi] at h
  | some i =>
   simp only [hi,cE] at h
   cases hm:i.methods.find? (fun m=>m.name == name) with
   | none=>simp [hm] at h
   | some m =>
    simp only [hm] at h
    split at h
    ·rename_i g J I
     simp only [au] at h
     subst h
     simp [method,typeInfo,hi,hm,J,I,follow,receiverAt,run_underlying U,Place.get]
    ·simp at h
 ·rename_i fs
  cases hi:C.P.info? t with
  | none=>simp [hi] at h
  | some i =>
   simp only [hi,cE] at h
   cases hm:i.methods.find? (fun m=>m.name == name) with
   | none=>simp [hm] at h
   | some m =>
    simp only [hm] at h
    split at h
    ·rename_i g J I
     simp only [au] at h
     subst h
     simp [method,typeInfo,hi,hm,J,I,follow,receiverAt,run_underlying U,Place.get]
    ·simp at h
 ·simp at h
theorem Nc {n:Nat}: ∀(ps:List Nat) (args:List V) (e U:Env) (tmps:Array Value),bindPs n ps args e=some U→tmps.size=n→(∀t,tmps.getD t undef=conc c (Env.v e t))→(∀t,wf c (Env.v e t))→(∀x∈args,wf c x) →
  args.length=ps.length∧fu c U n { tmps:=(ps.zip (args.map (conc c))).foldl (fun tmps (t,a)=>tmps.setIfInBounds t a) tmps,defers:=[] }:=by
 intro ps
 induction ps with
 | nil =>
  intro args e U tmps I hs hv hw ha
  cases args with
  | nil=>simp only [bindPs,au] at I; subst I; exact ⟨rfl,hs,hv,hw⟩
  | cons _ _=>simp [bindPs] at I
 | cons p ps ih =>
  intro args e U tmps I hs hv hw ha
  cases args with
  | nil=>simp [bindPs] at I
  | cons x args =>
   simp only [bindPs] at I
   cases hp:Nat.blt p n with
   | false=>rw [hp] at I; cases I
   | true =>
    rw [hp,ag] at I
    have hp':=i_.1 hp
    obtain ⟨q1,q2⟩:=ih args (e.set p (some x)) U (tmps.setIfInBounds p (conc c x)) I (by simp [hs]) (fun t=>by
     simp only [Env.v,a_]
     by_cases J:t=p
     ·subst J
      rw [aj rfl]
      simp [mh,hs,hp']
     ·rw [af J]
      have:=hv t
      simp only [Env.v] at this
      rw [←this]
      simp [mh,AA (jo J)]) (fun t=>by
     simp only [Env.v,a_]
     by_cases J:t=p
     ·rw [aj J]; exact ha x br
     ·rw [af J]; exact hw t) (fun y hy=>ha y (bp _ hy))
    exact ⟨by simp [q1],q2⟩
theorem PZ (hS:jr C.P self){id:Nat}{args:List V}{v:V}{iJ:H}(I:roundV self id args σ=some (v,iJ))(h:Rel c σ w)(hw:∀x∈args,wf c x):
  ∃l fn tmps assign body,(Instr.yield (c.ρ id).1 (args.map (conc c)).toArray).run C.P w=.ok (.round l fn tmps assign body) w ∧
   RoundIn (Fr none) 0 C.P l fn tmps assign body w fun e w'=>∃c',e=.returned (conc c' v)∧wf c' v∧Rel c' iJ w'∧dL c w c' w':=by
 unfold roundV at I
 split at I
 ·rename_i az env ps as bd hg
  obtain ⟨fn,tmps,D,hb,eX,P0,mV⟩:=h.obj id _ hg
  split at I
  ·cases I
  ·rename_i e he
   obtain ⟨q1,q2⟩:=Nc ps args env e tmps he eX P0 mV hw
   split at I
   ·rename_i abH abI
    split at I
    ·rename_i U5 acd U6 U7 U8 J
     split at I
     ·rename_i K_ abJ
      split at I
      ·rename_i X0 ace Ze Zf Zg U
       simp only [au,aP] at I
       obtain ⟨rfl,rfl⟩:=I
       have hyl:=run_yield (P:=C.P) (args:=(args.map (conc c)).toArray) hb (by simp [q1])
       refine ⟨_,_,_,_,_,hyl,roundIn_of_wpIn aa (wpIn_mono (hS as _ .normal abH abI (some (c.ρ id).1) c _ w h (by simpa using q2)) ?_)⟩
       rintro ex Nd GN ⟨rfl,Zj,c₁,Vq,Ln,nu⟩
       have yh:id<c.N:=h.live id _ hg
       have aaf:id<c₁.N:=Vq.live id _ J
       have abK:c₁.ρ id=c.ρ id:=nu.ext.ρ id yh
       obtain ⟨acT,ab1,acY,Zk,abL⟩:=Vq.obj id _ J
       rw [←abK]
       refine ⟨_,run_beginRound Zk rfl,?_⟩
       obtain ⟨abM,aag⟩:=Vq.J1 (u_:=true) J Zk abL
       refine wpIn_mono (hS bd _ .normal K_ abJ (some (c₁.ρ id).1) c₁ Nd _ abM Ln) ?_
       rintro ex aah aai ⟨rfl,acU,c₂,X2,TC,Zl⟩
       obtain ⟨acV,ab2,acZ,Zm,abN⟩:=X2.obj id _ U
       have abO:c₂.ρ id=c₁.ρ id:=Zl.ext.ρ id aaf
       obtain ⟨abP,aaj⟩:=X2.J1 (u_:=false) U Zm abN
       rw [←abO]
       refine ⟨_,_,run_endRound none Zm,c₂,by simp [conc],by simp [wf],abP,(nu.trans aag).trans (Zl.trans aaj)⟩
      ·cases I
     ·cases I
    ·cases I
   ·cases I
 ·cases I
theorem Nf : ∀(l:List Nat) (k:Nat),inL l k=l.contains k:=by
 intro l
 induction l with
 | nil=>intro k; rfl
 | cons x l I =>
  intro k
  simp only [inL,I,List.contains_cons]
  by_cases h:x=k
  ·subst h; simp [g9 rfl]
  ·have:¬ k=x:=fun e=>h e.symm
   simp [cS h,this]
theorem P3 (seen:List Nat): ∀(es:List (V×V×Nat)),(leftV seen es).map (cq c)=(es.map (cq c)).filter (fun e => !seen.toArray.contains e.born):=by
 intro es
 induction es with
 | nil=>rfl
 | cons e es I =>
  simp only [leftV,bI,tG]
  rw [Nf]
  have J:(cq c e).born=e.2.2:=rfl
  rw [J]
  have U:seen.toArray.contains e.2.2=seen.contains e.2.2:=by simp
  rw [U]
  cases seen.contains e.2.2 with
  | true=>simp [I]
  | false=>simp [I]
theorem Ng {since:Nat}: ∀(es:List (V×V×Nat)),uf since es=true→∀e∈es,e.2.2<since:=by
 intro es
 induction es with
 | nil=>intro _ e he; cases he
 | cons x es J =>
  intro h e he
  simp only [uf] at h
  cases I:Nat.blt x.2.2 since with
  | false=>rw [I] at h; cases h
  | true =>
   rw [I,ag] at h
   rcases List.mem_cons.1 he with rfl | he
   ·exact i_.1 I
   ·exact J h e he
theorem Ja : ∀(es:List (V×V×Nat)) (b:Nat),bornRise b es=true→(∀e∈es,b≤e.2.2)∧(es.map (·.2.2)).Pairwise (· < ·):=by
 intro es
 induction es with
 | nil=>intro b _; exact ⟨fun e he=>(mo he).elim,List.Pairwise.nil⟩
 | cons x es J =>
  intro b h
  simp only [bornRise] at h
  cases I:Nat.ble b x.2.2 with
  | false=>rw [I] at h; cases h
  | true =>
   rw [I,ag] at h
   have U:=aQ.1 I
   obtain ⟨i1,i2⟩:=J _ h
   refine ⟨fun e he => ?_,?_⟩
   ·rcases List.mem_cons.1 he with rfl | he
    ·exact U
    ·have:=i1 e he; omega
   ·simp only [bI,pG]
    refine ⟨fun y hy => ?_,i2⟩
    obtain ⟨e,he,rfl⟩:=List.mem_map.1 hy
    have:=i1 e he
    omega
theorem P4 : ∀(l:List Nat) (b:Nat),lastN l=some b→∃i,l=i++[b]:=by
 intro l
 induction l with
 | nil=>intro b h; cases h
 | cons x l I =>
  intro b h
  cases l with
  | nil=>simp only [lastN,au] at h; subst h; exact ⟨[],rfl⟩
  | cons y l =>
   obtain ⟨i,hi⟩:=I b h
   exact ⟨x::i,by rw [hi]; rfl⟩
theorem Lo {b:Nat}: ∀(es:List (V×V×Nat)) (e:V×V×Nat),tR b es=some e→e∈es∧e.2.2=b:=by
 intro es
 induction es with
 | nil=>intro e h; cases h
 | cons x es J =>
  intro e h
  simp only [tR] at h
  cases I:Nat.beq x.2.2 b with
  | true=>rw [I,ag] at h; simp only [au] at h; subst h; exact ⟨br,beq_iff.1 I⟩
  | false =>
   rw [I,ay] at h
   obtain ⟨U,h2⟩:=J e h
   exact ⟨bp _ U,h2⟩
theorem Lp {P:Program}{t:TypeId}{x v:V}{J:H}(h:Rel c σ w)(I:rangeV P σ t x=some (v,J))(hx:wf c x): g_ P (Instr.range t (conc c x)) c w v J:=by
 unfold rangeV at I
 generalize ht:P.underlying t=dt at I
 split at I
 ·rename_i kt et id
  split at I
  ·rename_i es clock hg
   simp only [au,aP] at I
   obtain ⟨rfl,rfl⟩:=I
   obtain ⟨_,hb⟩:=h.obj id _ hg
   have U:=h.live id _ hg
   have g:=h.new (.iter id clock clock []) (.mapIter (some (c.ρ id).1) clock #[] clock) 0 rfl ⟨by rw [lG]; omega,by rw [bD],by
    rw [bD,dz c _ _ _ U]
    rw [iF]; simp⟩
   refine ⟨_,_,?_,?_,g.1,g.2⟩
   ·simp only [Instr.range,Sem.run_bind,run_underlying ht,Result.andThen_ok,conc,ko hb (by simp),Sem.run_pure,run_newObj_alloc,h.next,bD]
   ·simp [wf,h.next,lG]
  ·cases I
 ·rename_i l
  simp only [au,aP] at I
  obtain ⟨rfl,rfl⟩:=I
  have g:=h.new (.kI l 0) (.stringIter ⟨(l.map UInt8.ofNat).toArray⟩ 0) 0 rfl ⟨by simpa [wf] using hx,by rw [bD],by rw [bD,iF]; simp⟩
  refine ⟨_,_,?_,?_,g.1,g.2⟩
  ·simp only [Instr.range,Sem.run_bind,run_underlying ht,Result.andThen_ok,conc,Sem.run_pure,run_newObj_alloc,h.next,bD]
  ·simp [wf,h.next,lG]
 ·cases I
theorem Nh {P:Program}{x v:V}{U:H}(h:Rel c σ w)(I:nextS σ x=some (v,U))(ty:TypeId): g_ P (Instr.next (conc c x) true ty) c w v U:=by
 unfold nextS at I
 split at I
 ·rename_i r off
  cases hq:Nat.beq off 0 with
  | false=>rw [hq] at I; cases I
  | true =>
   rw [hq,ag] at I
   have:=beq_iff.1 hq
   subst this
   split at I
   ·rename_i l pos hg
    obtain ⟨hl,hz,hb⟩:=h.obj r _ hg
    have GO:conc c (.ptr r 0)=.pointer (some ⟨(c.ρ r).1,0,none⟩):=by simp [conc,hz]
    rw [GO]
    rw [fV] at I
    split at I
    ·rename_i hn
     simp only [au,aP] at I
     obtain ⟨rfl,rfl⟩:=I
     have hp:¬ pos<(⟨(l.map UInt8.ofNat).toArray⟩:ByteArray).size:=by
      have:=List.getElem?_eq_none_iff.1 hn
      simp [ByteArray.size]; omega
     exact ⟨w,c,by rw [Lib.run_next_end_at w _ _ _ ty hb hp]; simp [conc,concL],by simp [wf,fW],h,dL.refl c w⟩
    ·rename_i b hn
     cases J:Nat.blt b 128 with
     | false=>rw [J] at I; cases I
     | true =>
      rw [J,ag] at I
      simp only [au,aP] at I
      obtain ⟨rfl,rfl⟩:=I
      have hb3:=i_.1 J
      obtain ⟨R9,he⟩:=List.getElem?_eq_some_iff.1 hn
      have hp:pos<(⟨(l.map UInt8.ofNat).toArray⟩:ByteArray).size:=by simpa [ByteArray.size] using R9
      have hv:((⟨(l.map UInt8.ofNat).toArray⟩:ByteArray)[pos]'hp).toNat=b:=by
       have:(⟨(l.map UInt8.ofNat).toArray⟩:ByteArray)[pos]'hp=UInt8.ofNat b:=by
        show ((l.map UInt8.ofNat).toArray)[pos]'(by simpa using R9)=_
        simp [he]
       rw [this,tE]
       omega
      obtain ⟨r1,s1⟩:=h.Vf (pos':=pos+1) hg
      refine ⟨_,c,?_,by simp [wf,fW],r1,s1⟩
      rw [Lib.run_next_ascii_at w _ _ _ ty hb hp (by rw [hv]; exact hb3),hv]
      simp only [conc,concL]
      rfl
   ·cases I
 ·cases I
theorem Bv {P:Program}{r:Nat}{L:List (V×H)}(h:Rel c σ w)(I:nextAll σ r=some L)(ty:TypeId):
  ∃q∈L,g_ P (Instr.next (conc c (.ptr r 0)) false ty) c w q.1 q.2:=by
 unfold nextAll at I
 split at I
 ·rename_i mid since last seen hg
  split at I
  ·rename_i es clock hm
   obtain ⟨GB,hz,hb⟩:=h.obj r _ hg
   obtain ⟨hw,Vr⟩:=h.obj mid _ hm
   cases hq:(uf since es&&Nat.ble since last) with
   | false=>rw [hq] at I; cases I
   | true =>
    rw [hq,ag] at I
    simp only [aZ,aQ] at hq
    have hold:=Ng es hq.1
    have GO:conc c (.ptr r 0)=.pointer (some ⟨(c.ρ r).1,0,none⟩):=by simp [conc,hz]
    rw [GO]
    have hL:(leftOf (es.map (cq c)).toArray seen.toArray).toList=(leftV seen es).map (cq c):=by
     rw [P3]
     simp [leftOf]
    rcases run_next_at (P:=P) w ty (c.ρ r).1 (c.ρ mid).1 since last seen.toArray (es.map (cq c)).toArray clock hb Vr (fun x hx=>by
     simp only [nY] at hx
     obtain ⟨e,he,rfl⟩:=hx
     exact hold e he) hq.2 with ⟨h0,J⟩ | ⟨e,he,w1,yS,J⟩
    ·have xg:leftV seen es=[]:=by
      have:((leftV seen es).map (cq c)).length=0:=by rw [←hL]; simpa using h0
      simpa using this
     rw [xg] at I
     simp only [au] at I
     subst I
     exact ⟨_,List.mem_singleton.2 rfl,w,c,by rw [J]; simp [conc,concL],by simp [wf,fW],h,dL.refl c w⟩
    ·rw [hL] at he
     obtain ⟨e0,U,rfl⟩:=List.mem_map.1 he
     have Lq:L=(leftV seen es).map fun e=>(.bE [.bool true,e.1,e.2.1],σ.put r (some (.iter mid since clock (seen++[e.2.2])))):=by
      cases hl:leftV seen es with
      | nil=>rw [hl] at U; cases U
      | cons y l=>rw [hl] at I; simp only [au] at I; exact I.symm
     have xh:e0∈es:=by
      have:∀(es:List (V×V×Nat)),e0∈leftV seen es→e0∈es:=by
       intro es
       induction es with
       | nil=>intro h; cases h
       | cons y es ih =>
        intro h
        simp only [leftV] at h
        cases hy:inL seen y.2.2 with
        | true=>rw [hy,ag] at h; exact bp _ (ih h)
        | false =>
         rw [hy,ay] at h
         rcases List.mem_cons.1 h with rfl | h
         ·exact br
         ·exact bp _ (ih h)
      exact this es U
     refine ⟨_,by rw [Lq]; exact List.mem_map.2 ⟨e0,U,rfl⟩,?_⟩
     have yT:Rel c σ w1∧dL c w c w1:=by
      rcases yS with rfl | rfl
      ·exact ⟨h,dL.refl c _⟩
      ·exact ⟨h.drew,dL.drew c w⟩
     obtain ⟨r1,s1⟩:=yT.1.setIter (last':=clock) (seen':=seen++[e0.2.2]) hg
     refine ⟨_,c,?_,by simp only [wf,fW,tQ,true_and]; exact hw e0 xh,r1,yT.2.trans s1⟩
     rw [J]
     have:(seen++[e0.2.2]).toArray=seen.toArray.push e0.2.2:=by simp
     simp only [conc,concL,cq,this]
     rfl
  ·cases I
 ·cases I
theorem Ni {P:Program}{x v:V}{J:H}(h:Rel c σ w)(I:nextV σ x=some (v,J))(ty:TypeId): g_ P (Instr.next (conc c x) false ty) c w v J:=by
 unfold nextV at I
 split at I
 ·rename_i r off
  cases U:Nat.beq off 0 with
  | false=>rw [U] at I; cases I
  | true =>
   rw [U,ag] at I
   have:=beq_iff.1 U
   subst this
   split at I
   ·rename_i q hn
    simp only [au] at I
    subst I
    obtain ⟨q',uu,hg⟩:=Bv (P:=P) h hn ty
    rw [List.mem_singleton.1 uu] at hg
    exact hg
   ·cases I
 ·cases I
theorem Nj {P:Program}{x v:V}(h:Rel c σ w)(I:wj σ x=some v): (Instr.entry (conc c x)).run P w=.ok (conc c v) w∧wf c v:=by
 unfold wj at I
 split at I
 ·rename_i r off
  cases hq:Nat.beq off 0 with
  | false=>rw [hq] at I; cases I
  | true =>
   rw [hq,ag] at I
   have:=beq_iff.1 hq
   subst this
   split at I
   ·rename_i mid since last seen hg
    split at I
    ·rename_i es clock hm
     obtain ⟨GB,hz,hb⟩:=h.obj r _ hg
     obtain ⟨hw,Vr⟩:=h.obj mid _ hm
     cases J:(Nat.beq clock last&&bornRise 0 es) with
     | false=>rw [J] at I; cases I
     | true =>
      rw [J,ag] at I
      simp only [aZ,beq_iff] at J
      obtain ⟨rfl,U⟩:=J
      split at I
      ·rename_i b pR
       split at I
       ·rename_i e he
        simp only [au] at I
        subst I
        obtain ⟨i,rfl⟩:=P4 seen b pR
        obtain ⟨h1,rfl⟩:=Lo es e he
        have GO:conc c (.ptr r 0)=.pointer (some ⟨(c.ρ r).1,0,none⟩):=by simp [conc,hz]
        rw [GO]
        have u9:w.heap[(c.ρ r).1]?=some (.mapIter (some (c.ρ mid).1) since (i.toArray.push (cq c e).born) clock):=by
         rw [hb]; simp [cq]
        have nk:((es.map (cq c)).toArray.toList.map (·.born)).Nodup:=by
         have:=(Ja es 0 U).2
         have e1:(es.map (cq c)).toArray.toList.map (·.born)=es.map (·.2.2):=by simp [cq,vX]
         rw [e1]
         exact this.imp fun {a b} pQ=>by omega
        refine ⟨?_,by simp only [wf,fW,tQ]; exact hw e h1⟩
        rw [run_entry_at (P:=P) w (c.ρ r).1 (c.ρ mid).1 since i.toArray (es.map (cq c)).toArray clock (cq c e) u9 Vr (by simpa using ⟨_,_,_,h1,rfl⟩) nk]
        simp [conc,concL,cq]
       ·cases I
      ·cases I
    ·cases I
   ·cases I
 ·cases I
theorem Nk (hS:jr C.P self)(hT:hG C){cl:Call}{v:V}{iJ:H}(ho:o.op=.call cl)(h:Rel c σ w)(he:AU c env a o)(J:evCall C self env σ cl=some (v,iJ)):
  xb C.P o a c w v iJ:=by
 unfold evCall at J
 cases ha:evArgs env cl.args.toList with
 | none=>simp [ha] at J
 | some args =>
  simp only [ha] at J
  obtain ⟨g1,g2⟩:=yJ (a:=a) (c:=c) _ _ (fun x hx=>he x (by simp only [ho,Op.operands,Call.operands,D5]; exact .inr (by simpa using hx))) ha
  have I:cl.args.map a.eval=(args.map (conc c)).toArray:=by
   apply mw
   simpa using g1
  split at J
  ·rename_i b hb
   obtain ⟨s,e1,e2⟩:=Lm (C:=C) (ty:=o.type) (cs:=cl.args.map fun | .const _=>true | _=>false) h J g2
   refine fB (s:=s) ?_ e2
   simp only [execOp,ho,resolve,hb,pure_bind,invoke,I]
   exact e1
  ·rename_i f hf
   cases hv:evO env f with
   | none=>simp [hv] at J
   | some fv =>
    simp only [hv] at J
    obtain ⟨f1,f2⟩:=he f (by simp [ho,Op.operands,Call.operands,hf]) _ hv
    unfold callV at J
    split at J
    ·rename_i k first captured
     have fw:(∀x∈first,wf c x)∧(∀x∈captured,wf c x):=by
      have:fW c first∧fW c captured:=by simpa [wf] using f2
      exact ⟨ja.1 this.1,ja.1 this.2⟩
     have mz:∀x∈first++(args++captured),wf c x:=by
      intro x hx
      rcases List.mem_append.1 hx with hx | hx
      ·exact fw.1 x hx
      ·rcases List.mem_append.1 hx with hx | hx
       ·exact g2 x hx
       ·exact fw.2 x hx
     cases U:lu C.P k with
     | false =>
      rw [U,ay] at J
      split at J
      ·rename_i g hg
       rcases hT k g hg with ⟨⟨fn,t1,t2,_⟩,_⟩ | ⟨_,t4⟩
       ·unfold lu at U
        rw [t1] at U
        simp only at U
        rw [t2] at U
        cases U
       ·obtain ⟨c',w',u1,u2,u3,u4⟩:=t4 _ σ v iJ J c w h mz
        refine .inl ⟨c',w',.inl ?_,u2,u3,u4⟩
        simp only [execOp,ho,resolve,hf,I,f1,conc,iy,Deferred.ofValue,pure_bind,invoke]
        rw [show (first.map (conc c)).toArray++(args.map (conc c)).toArray++(captured.map (conc c)).toArray=((first++(args++captured)).map (conc c)).toArray from by
         apply mw; simp]
        exact u1
      ·cases J
     | true =>
     rw [U,ag] at J
     obtain ⟨q1,q2⟩:=w_ hS.wide hT J h mz
     refine J6 ?_ q1
     simp only [execOp,ho,resolve,hf,I,f1,conc,iy,Deferred.ofValue,pure_bind,invoke]
     rw [show (first.map (conc c)).toArray++(args.map (conc c)).toArray++(captured.map (conc c)).toArray=((first++(args++captured)).map (conc c)).toArray from by
      apply mw; simp]
     exact q2 _ w
    ·rename_i id
     have f3:id<c.N:=by simpa [wf] using f2
     obtain ⟨l,fn,tmps,assign,bd,y1,y2⟩:=PZ hS J h g2
     refine .inr (.inr ⟨l,fn,tmps,assign,bd,?_,y2⟩)
     simp only [execOp,ho,resolve,hf,I,f1,conc,Deferred.ofValue,pure_bind,invoke]
     rw [show (#[]:Array Value)++(args.map (conc c)).toArray=(args.map (conc c)).toArray from by simp]
     exact y1
    ·simp at J
  ·rename_i r m hm
   split at J
   ·rename_i t x hv
    obtain ⟨f1,f2⟩:=he r (by simp [ho,Op.operands,Call.operands,hm]) _ hv
    cases Vs:methV C.P t m with
    | none=>simp [Vs] at J
    | some f =>
     simp only [Vs] at J
     obtain ⟨q1,q2⟩:=w_ hS.wide hT J h (by
      intro y hy
      rcases List.mem_cons.1 hy with rfl | hy
      ·simpa [wf] using f2
      ·exact g2 y hy)
     refine J6 ?_ q1
     have Nl:=PY Vs (C.P.types.size+99) (conc c x) w
     simp only [execOp,ho,resolve,hm,I,f1,conc,pure_bind,invoke]
     have h1:((#[Value.iface t (conc c x)]++(args.map (conc c)).toArray:Array Value))[0]?=some (.iface t (conc c x)):=by simp
     have h2:(#[Value.iface t (conc c x)]++(args.map (conc c)).toArray:Array Value).extract 1 (#[Value.iface t (conc c x)]++(args.map (conc c)).toArray:Array Value).size=(args.map (conc c)).toArray:=by
      apply mw; simp [fR]
     rw [h1,h2]
     simp only [callMethod,Sem.run_bind,run_program,Result.andThen_ok,Made.depth]
     rw [Nl]
     simp only [Result.andThen_ok]
     rw [show (#[conc c x]++(args.map (conc c)).toArray:Array Value)=((x::args).map (conc c)).toArray from by apply mw; simp]
     exact q2 _ w
   ·simp at J
theorem eS {x:Option V}{h:H}{r:V×H}(e:bA x h=some r): x=some r.1∧r.2=h:=by
 cases x with
 | none=>simp [bA] at e
 | some v=>simp [bA] at e; subst e; exact ⟨rfl,rfl⟩
theorem td {x:Option H}{r:V×H}(e:rT x=some r): x=some r.2∧r.1=cz:=by
 cases x with
 | none=>simp [rT] at e
 | some v=>simp [rT] at e; subst e; exact ⟨rfl,rfl⟩
theorem uv {v:V}(he:(execOp a.eval o).run C.P w=.ok (.value (conc c v)) w)(h:Rel c σ w)(I:wf c v): xb C.P o a c w v σ :=
 .inl ⟨c,w,.inl he,h,dL.refl c w,I⟩
theorem Ej {x:Option Operand}{v:Option V}(he:∀y,x=some y→∀v,evO env y=some v→a.eval y=conc c v∧wf c v)(h:optV env x=some v): x.map a.eval=v.map (conc c):=by
 cases x with
 | none=>simp [optV] at h; subst h; rfl
 | some y =>
  simp only [optV] at h
  cases I:evO env y with
  | none=>simp [I] at h
  | some u =>
   simp [I] at h
   subst h
   simp [(he y rfl u I).1]
theorem AW (hS:jr C.P self)(hT:hG C){v:V}{iJ:H}(h:Rel c σ w)(he:AU c env a o)(I:evOp C self env σ o=some (v,iJ)):
  xb C.P o a c w v iJ:=by
 unfold evOp at I
 split at I
 case h_1 ho =>
  obtain ⟨J,U⟩:=eS I
  simp only at J U; subst U
  obtain ⟨f1,f2⟩:=he _ (by simp [ho,Op.operands]) _ J
  exact uv (by simp [execOp,ho,f1]) h f2
 case h_2 ho =>
  obtain ⟨J,U⟩:=eS I
  simp only at J U; subst U
  obtain ⟨f1,f2⟩:=he _ (by simp [ho,Op.operands]) _ J
  exact uv (by simp [execOp,ho,f1]) h f2
 case h_3 x y z ho =>
  split at I
  ·rename_i t hx
   obtain ⟨J,U⟩:=eS I
   simp only at J U; subst U
   obtain ⟨f1,f2⟩:=he _ (by cases t <;> simp [ho,Op.operands]) _ J
   obtain ⟨g1,_⟩:=he _ (by simp [ho,Op.operands]) _ hx
   refine uv ?_ h f2
   cases t <;> simp only [ag,ay] at f1 <;> simp [execOp,ho,f1,g1,conc,asBool]
  ·simp at I
 case h_4 t ho =>
  split at I
  ·rename_i z hz
   simp only [au,aP] at I
   obtain ⟨rfl,rfl⟩:=I
   exact fB (by simp [execOp,ho]) (M4 h hz)
  ·simp at I
 case h_5 t x ho =>
  split at I
  ·rename_i u hu
   cases hs:u.cells.all storable with
   | false=>simp [hs] at I
   | true =>
    simp only [hs,ag,au,aP] at I
    obtain ⟨rfl,rfl⟩:=I
    obtain ⟨f1,f2⟩:=he _ (by simp [ho,Op.operands]) _ hu
    exact fB (by simp [execOp,ho,f1]) (TA (t:=t) h f2 hs)
  ·simp at I
 case h_6 t ps ho =>
  split at I
  ·rename_i l hl
   obtain ⟨J,U⟩:=eS I
   simp only at J U; subst U
   obtain ⟨f1,f2⟩:=Cm (a:=a) (c:=c) _ _ (fun x hx=>he x.2 (by simp only [ho,Op.operands]; simp; exact ⟨x.1,by simpa using hx⟩)) hl
   have R_:(ps.map fun (i,x)=>(i,a.eval x))=(l.map fun x=>(x.1,conc c x.2)).toArray:=by
    apply mw
    simpa using f1
   exact fB (by simp only [execOp,ho]; rw [R_]) (g_.same h (MW J f2 w))
  ·simp at I
 case h_7 t m ps ho =>
  split at I
  ·rename_i l hl
   obtain ⟨f1,f2⟩:=Cm (a:=a) (c:=c) _ _ (fun x hx=>he x.2 (by simp only [ho,Op.operands]; simp; exact ⟨x.1,by simpa using hx⟩)) hl
   have R_:(ps.map fun (i,x)=>(i,a.eval x))=(l.map fun x=>(x.1,conc c x.2)).toArray:=by
    apply mw
    simpa using f1
   exact fB (by simp only [execOp,ho]; rw [R_]) (Cq h I f2)
  ·simp at I
 case h_8 t x ho =>
  split at I
  ·rename_i u hu
   obtain ⟨J,U⟩:=eS I
   simp only at J U; subst U
   obtain ⟨f1,f2⟩:=he _ (by simp [ho,Op.operands]) _ hu
   exact fB (by simp only [execOp,ho,f1]) (g_.same h (Gz h J))
  ·simp at I
 case h_9 t x y ho =>
  split at I
  ·rename_i p u hp hu
   obtain ⟨J,U⟩:=td I
   simp only at J U; subst U
   obtain ⟨f1,f2⟩:=he _ (by simp [ho,Op.operands]) _ hp
   obtain ⟨g1,g2⟩:=he _ (by simp [ho,Op.operands]) _ hu
   obtain ⟨w',s1,s2,s3⟩:=MU h J g2
   exact AV (by simp only [execOp,ho,f1,g1]) ⟨w',c,s1,s2,s3⟩
  ·simp at I
 case h_10 x ho =>
  split at I
  ·rename_i i j hx
   simp only [au,aP] at I
   obtain ⟨rfl,rfl⟩:=I
   obtain ⟨f1,f2⟩:=he _ (by simp [ho,Op.operands]) _ hx
   refine uv ?_ h f2
   simp only [conc] at f1
   simp [execOp,ho,f1,conc]
  ·simp at I
 case h_11 op t x y u ho =>
  split at I
  ·rename_i p q hp hq
   obtain ⟨J,U⟩:=eS I
   simp only at J U; subst U
   obtain ⟨f1,f2⟩:=he _ (by simp [ho,Op.operands]) _ hp
   obtain ⟨g1,g2⟩:=he _ (by simp [ho,Op.operands]) _ hq
   exact fB (by simp only [execOp,ho,f1,g1]) (g_.same h (Tw h J f2 g2))
  ·simp at I
 case h_12 op t x ho =>
  split at I
  ·rename_i u hu
   obtain ⟨J,U⟩:=eS I
   simp only at J U; subst U
   obtain ⟨f1,f2⟩:=he _ (by simp [ho,Op.operands]) _ hu
   exact fB (by simp only [execOp,ho,f1]) (g_.same h (Vh J w))
  ·simp at I
 case h_13 s d x ho =>
  split at I
  ·rename_i u hu
   obtain ⟨f1,f2⟩:=he _ (by simp [ho,Op.operands]) _ hu
   split at I
   ·rename_i r hc
    obtain ⟨r1,r2⟩:=r
    simp only [au,aP] at I
    obtain ⟨rfl,rfl⟩:=I
    obtain ⟨q1,q2,q3⟩:=PS h hc f2
    subst q3
    exact fB (by simp only [execOp,ho,f1]) (g_.same h ⟨q1,q2⟩)
   ·exact fB (by simp only [execOp,ho,f1]) (M5 h I f2)
  ·simp at I
 case h_14 d x ho =>
  split at I
  ·rename_i u hu
   obtain ⟨J,U⟩:=eS I
   simp only at J U; subst U
   obtain ⟨f1,f2⟩:=he _ (by simp [ho,Op.operands]) _ hu
   exact fB (by simp only [execOp,ho,f1]) (g_.same h (Lc J f2 w))
  ·simp at I
 case h_15 t x ho =>
  split at I
  ·rename_i u hu
   obtain ⟨J,U⟩:=eS I
   simp only at J U; subst U
   obtain ⟨f1,f2⟩:=he _ (by simp [ho,Op.operands]) _ hu
   exact fB (by simp only [execOp,ho,f1]) (g_.same h (F0 J f2 w))
  ·simp at I
 case h_16 f x y ho =>
  split at I
  ·rename_i l m hl hm
   simp only [au,aP] at I
   obtain ⟨rfl,rfl⟩:=I
   obtain ⟨f1,f2⟩:=yJ (a:=a) (c:=c) _ _ (fun x hx=>he x (by simp only [ho,Op.operands,D5]; exact .inl (by simpa using hx))) hl
   obtain ⟨g1,g2⟩:=yJ (a:=a) (c:=c) _ _ (fun x hx=>he x (by simp only [ho,Op.operands,D5]; exact .inr (by simpa using hx))) hm
   have h1:x.map a.eval=(l.map (conc c)).toArray:=by apply mw; simpa using f1
   have h2:y.map a.eval=(m.map (conc c)).toArray:=by apply mw; simpa using g1
   exact fB (s:=Instr.makeFunc f (l.map (conc c)).toArray (m.map (conc c)).toArray) (by simp only [execOp,ho,h1,h2]) (g_.same h ⟨by simp [Instr.makeFunc,conc,iy],by simp only [wf,ja]; exact ⟨f2,g2⟩⟩)
  ·simp at I
 case h_17 t r ho =>
  split at I
  ·simp only [au,aP] at I
   obtain ⟨rfl,rfl⟩:=I
   exact fB (by simp only [execOp,ho,iX]) (I5 h t)
  ·simp at I
 case h_18 t x y ho =>
  split at I
  ·rename_i p q hp hq
   obtain ⟨f1,f2⟩:=he _ (by simp [ho,Op.operands]) _ hp
   obtain ⟨g1,g2⟩:=he _ (by simp [ho,Op.operands]) _ hq
   exact fB (by simp only [execOp,ho,f1,g1]) (Ef h I)
  ·simp at I
 case h_19 t x lo hi mx ho =>
  split at I
  ·rename_i u x1 x2 x3 hu h1 h2 h3
   split at I
   ·rename_i b1 b2 b3 q1 q2 q3
    obtain ⟨J,U⟩:=eS I
    simp only at J U; subst U
    obtain ⟨f1,f2⟩:=he _ (by simp [ho,Op.operands]) _ hu
    have m1:=Ej (c:=c) (a:=a) (fun y hy=>he y (by simp [ho,Op.operands,hy])) h1
    have m2:=Ej (c:=c) (a:=a) (fun y hy=>he y (by simp [ho,Op.operands,hy])) h2
    have m3:=Ej (c:=c) (a:=a) (fun y hy=>he y (by simp [ho,Op.operands,hy])) h3
    exact fB (by simp only [execOp,ho,f1,m1,m2,m3]) (g_.same h (M0 h q1 q2 q3 J f2))
   ·simp at I
  ·simp at I
 case h_20 t x i ho =>
  split at I
  ·rename_i u hu
   obtain ⟨J,U⟩:=eS I
   simp only at J U; subst U
   obtain ⟨f1,f2⟩:=he _ (by simp [ho,Op.operands]) _ hu
   exact fB (by simp only [execOp,ho,f1]) (g_.same h (F1 J f2 w))
  ·simp at I
 case h_21 t x i ho =>
  split at I
  ·rename_i u hu
   obtain ⟨J,U⟩:=eS I
   simp only at J U; subst U
   obtain ⟨f1,f2⟩:=he _ (by simp [ho,Op.operands]) _ hu
   exact fB (by simp only [execOp,ho,f1]) (g_.same h (MY J f2 w))
  ·simp at I
 case h_22 t x i ho =>
  split at I
  ·rename_i p q hp hq
   obtain ⟨J,U⟩:=eS I
   simp only at J U; subst U
   obtain ⟨f1,f2⟩:=he _ (by simp [ho,Op.operands]) _ hp
   obtain ⟨g1,g2⟩:=he _ (by simp [ho,Op.operands]) _ hq
   exact fB (by simp only [execOp,ho,f1,g1]) (g_.same h (F2 J f2 w))
  ·simp at I
 case h_23 t x i ho =>
  split at I
  ·rename_i p q hp hq
   obtain ⟨J,U⟩:=eS I
   simp only at J U; subst U
   obtain ⟨f1,f2⟩:=he _ (by simp [ho,Op.operands]) _ hp
   obtain ⟨g1,g2⟩:=he _ (by simp [ho,Op.operands]) _ hq
   exact fB (by simp only [execOp,ho,f1,g1]) (g_.same h (MZ J f2 w))
  ·simp at I
 case h_24 t x k ok ho =>
  split at I
  ·rename_i p q hp hq
   obtain ⟨J,U⟩:=eS I
   simp only at J U; subst U
   obtain ⟨f1,f2⟩:=he _ (by simp [ho,Op.operands]) _ hp
   obtain ⟨g1,g2⟩:=he _ (by simp [ho,Op.operands]) _ hq
   exact fB (by simp only [execOp,ho,f1,g1]) (g_.same h (Le h J f2 g2))
  ·simp at I
 case h_25 t m k x ho =>
  split at I
  ·rename_i p q r hp hq yL
   obtain ⟨J,U⟩:=td I
   simp only at J U; subst U
   obtain ⟨f1,f2⟩:=he _ (by simp [ho,Op.operands]) _ hp
   obtain ⟨g1,g2⟩:=he _ (by simp [ho,Op.operands]) _ hq
   obtain ⟨i1,i2⟩:=he _ (by simp [ho,Op.operands]) _ yL
   exact AV (by simp only [execOp,ho,f1,g1,i1]) (wA h J g2 i2)
  ·simp at I
 case h_26 t m k x ho =>
  split at I
  ·rename_i p q r hp hq yL
   obtain ⟨J,U⟩:=td I
   simp only at J U; subst U
   obtain ⟨f1,f2⟩:=he _ (by simp [ho,Op.operands]) _ hp
   obtain ⟨g1,g2⟩:=he _ (by simp [ho,Op.operands]) _ hq
   obtain ⟨i1,i2⟩:=he _ (by simp [ho,Op.operands]) _ yL
   exact AV (by simp only [execOp,ho,f1,g1,i1]) (wA h J g2 i2)
  ·simp at I
 case h_27 t m k ho =>
  split at I
  ·rename_i p q hp hq
   obtain ⟨f1,f2⟩:=he _ (by simp [ho,Op.operands]) _ hp
   obtain ⟨g1,g2⟩:=he _ (by simp [ho,Op.operands]) _ hq
   exact fB (by simp only [execOp,ho,f1,g1]) (F3 h I g2)
  ·simp at I
 case h_28 t m s x ho =>
  split at I
  ·rename_i p q r hp hq yL
   obtain ⟨J,U⟩:=td I
   simp only at J U; subst U
   obtain ⟨f1,f2⟩:=he _ (by simp [ho,Op.operands]) _ hp
   obtain ⟨g1,g2⟩:=he _ (by simp [ho,Op.operands]) _ hq
   obtain ⟨i1,i2⟩:=he _ (by simp [ho,Op.operands]) _ yL
   exact AV (by simp only [execOp,ho,f1,g1,i1]) (Cv (t:=t) h J i2)
  ·simp at I
 case h_29 x xt t ok ho =>
  split at I
  ·rename_i u hu
   obtain ⟨J,U⟩:=eS I
   simp only at J U; subst U
   obtain ⟨f1,f2⟩:=he _ (by simp [ho,Op.operands]) _ hu
   exact fB (by simp only [execOp,ho,f1]) (g_.same h (Lf (xt:=xt) J f2 w))
  ·simp at I
 case h_30 t i ho =>
  split at I
  ·rename_i l hl
   obtain ⟨J,U⟩:=eS I
   simp only [fV] at J U; subst U
   obtain ⟨f1,f2⟩:=he _ (by simp [ho,Op.operands]) _ hl
   have hv:wf c v:=by
    have:fW c l:=by simpa [wf] using f2
    exact ja.1 this v (bw J)
   refine uv ?_ h hv
   simp only [execOp,ho,f1,conc,iy,Instr.extract]
   simp [J]
  ·simp at I
 case h_31 cl ho=>exact Nk hS hT ho h he I
 case h_32 t x ho =>
  split at I
  ·rename_i u hx
   obtain ⟨f1,f2⟩:=he x (by simp [ho,Op.operands]) _ hx
   exact fB (by simp only [execOp,ho,f1]) (Lp h I f2)
  ·simp at I
 case h_33 it str ho =>
  split at I
  ·rename_i u hx
   obtain ⟨f1,f2⟩:=he it (by simp [ho,Op.operands]) _ hx
   cases str with
   | true=>exact fB (s:=Instr.next (conc c u) true o.type) (by simp only [execOp,ho,f1]) (Nh h I o.type)
   | false=>exact fB (s:=Instr.next (conc c u) false o.type) (by simp only [execOp,ho,f1]) (Ni h I o.type)
  ·simp at I
 case h_34 it ho =>
  split at I
  ·rename_i u hx
   obtain ⟨f1,f2⟩:=he it (by simp [ho,Op.operands]) _ hx
   obtain ⟨J,U⟩:=eS I
   simp only at J U
   subst U
   exact fB (by simp only [execOp,ho,f1]) (g_.same h (Nj h J))
  ·simp at I
 case h_35=>simp at I
theorem nA {r:V×H}(I:evOp C self env σ o=some r): ∀d,o.op≠.defer d:=by
 intro d J
 unfold evOp at I
 rw [J] at I
 cases I
theorem Cw {ops:Array Oper}(he:∀j w d,o.guard=some (j,w)→(ops[j]?).bind (·.dst)=some d→a.tmps.getD d undef=conc c (env.v d)):
  Region.wanted o (yielded ops a.tmps)=wantedV ops.toList env o:=by
 unfold Region.wanted wantedV
 cases hg:o.guard with
 | none=>rfl
 | some jw =>
  obtain ⟨j,want⟩:=jw
  simp only [yielded,fV,jV]
  cases hd:(ops[j]?).bind (·.dst) with
  | none=>simp
  | some d =>
   have U:=he j want d hg hd
   simp only [cE]
   by_cases I:d<a.tmps.size
   ·have J:a.tmps[d]?=some (conc c (env.v d)):=by
     rw [←U]; simp [Array.getD,I]
    rw [J]
    generalize env.v d=x
    cases x with
    | bool b=>cases b <;> cases want <;> simp [conc]
    | sl i p q cap=>cases cap <;> simp [conc]
    | _=>simp [conc]
   ·have J:a.tmps[d]?=none:=Array.getElem?_eq_none (vZ I)
    have h2:conc c (env.v d)=undef:=by rw [←U]; simp [Array.getD,I]
    rw [J]
    generalize env.v d=x at h2
    cases x with
    | bool b=>simp [conc,undef] at h2
    | sl i p q cap=>cases cap <;> simp
    | _=>simp
theorem Cx {n:Nat}(he:fu c env n a){ops:Array Oper}: Region.wanted o (yielded ops a.tmps)=wantedV ops.toList env o :=
 Cw fun _ _ d _ _=>he.val d
end ops
theorem P5 (hS:jr C.P self)(hT:hG C){r:Option Nat}{ops:Array Oper}{Q:Exit→Act→World→Prop}: ∀(l:List Oper) (k:Nat) (s s':St) (c:Ctx) (a:Act) (w:World),
  (∀j,l[j]?=ops[k+j]?)→evOps C self ops.toList l s=some s'→Rel c s.h w→fu c s.env s.az a →
  (∀c' a' w',Rel c' s'.h w'→fu c' s'.env s'.az a'→dL c w c' w'→a'.defers=a.defers→Q .normal a' w') →
  wpOpsIn (Fr r) 0 C.P ops Q (List.range' k l.length) a w:=by
 intro l
 induction l with
 | nil =>
  intro k s s' c a w _ I h he hQ
  simp only [evOps,au] at I
  subst I
  simp only [bY,List.range'_zero,wpOpsIn]
  exact hQ c a w h he (dL.refl c w) rfl
 | cons o l ih =>
  intro k s s' c a w hl I h he hQ
  have h0:ops[k]?=some o:=by simpa using (hl 0).symm
  have yl:∀j,l[j]?=ops[k+1+j]?:=fun j=>by have:=hl (j+1); simpa [gK,tO 1 j] using this
  simp only [bl,D4,wpOpsIn,h0]
  rw [Cx he]
  simp only [evOps] at I
  cases hw:wantedV ops.toList s.env o with
  | true =>
   rw [hw,ag] at I
   simp only [bQ]
   cases ho:evOp C self s.env s.h o with
   | none=>simp [ho] at I
   | some r =>
    obtain ⟨v,iJ⟩:=r
    simp only [ho] at I
    cases U:s.put o.dst v iJ with
    | none=>simp [U] at I
    | some J =>
     simp only [U] at I
     refine (AW hS hT h (he.J5 o) ho).wpIn (nA ho) ?_
     intro c' w' r1 r2 r3
     obtain ⟨p1,p2,p3⟩:=St.Cl (he.ext r2.ext) r3 U
     refine ih (k+1) J s' c' _ w' yl I (by rw [p2]; exact r1) p1 ?_
     intro qq yU Cy q1 q2 q3 q4
     exact hQ qq yU Cy q1 q2 (r2.trans q3) (by rw [q4]; cases o.dst <;> rfl)
  | false =>
   rw [hw,ay] at I
   simp only [eY,bN]
   refine ⟨fun _ _=>trivial,?_⟩
   cases U:s.put o.dst cz s.h with
   | none=>simp [U] at I
   | some J =>
    simp only [U] at I
    obtain ⟨p1,p2,p3⟩:=St.Cl he (show wf c cz by simp [cz,wf,fW]) U
    rw [ql] at p1
    refine ih (k+1) J s' c _ w yl I (by rw [p2]; exact h) p1 ?_
    intro qq yU Cy q1 q2 q3 q4
    exact hQ qq yU Cy q1 q2 q3 (by rw [q4]; cases o.dst <;> rfl)
end
end Go.Proofs.YtconhghphklfjaaGreat.Am
