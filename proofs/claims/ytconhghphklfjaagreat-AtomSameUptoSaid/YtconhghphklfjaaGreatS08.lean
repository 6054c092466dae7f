/- AtomSame: a part of its proof; conditions: its statement's. -/
import Derived.Test.YtconhghphklfjaaGreatS07
import Derived.RangeFuncIn
import Derived.RangeFuncRecord
import Derived.RangeFuncCalls
import Derived.OrdersIn
import Derived.LoopNIn
import Derived.Maps.RangeRun
import Derived.Lib.OthersKept
namespace Go.Proofs.YtconhghphklfjaaGreat.Am
open Go
def exOf : Ex→Exit
 | .normal=>.normal
 | .exit i=>.exit i
 | .ret=>.ret
def Gd (P:Program)(self:Self): Prop:=∀(code:Code) (s:St) (ex:Ex) (s':St),self code s=some (ex,s') →
 ∀(c:Ctx) (a:Act) (w:World),Rel c s.h w→eZ c s.env s.ay a →
  code.wp P (fun e J w'=>e=exOf ex∧J.defers=a.defers∧∃I,Rel I s'.h w'∧eZ I s'.env s'.ay J∧dD c w I w') a w
def Fr (r:Option Nat): Fence:={ fn:=fun _=>True,depth:=none,alive:=false,round:=r }
theorem O8 {r:Option Nat}{n:Nat}{P:Program}{f:FuncId}{args:Array Value}{w:World}{R:Ending→World→Prop}(h:Calls P f args w R): CallsIn (Fr r) n P f args w R :=
 (callsIn_wide (n:=n)).2 h
def jc (P:Program)(self:Self): Prop:=∀(code:Code) (s:St) (ex:Ex) (s':St),self code s=some (ex,s') →
 ∀(r:Option Nat) (c:Ctx) (a:Act) (w:World),Rel c s.h w→eZ c s.env s.ay a →
  code.wpIn (Fr r) 0 P (fun e J w'=>e=exOf ex∧J.defers=a.defers∧∃I,Rel I s'.h w'∧eZ I s'.env s'.ay J∧dD c w I w') a w
theorem jc.wide {P:Program}{self:Self}(h:jc P self): Gd P self:=fun code s ex s' hs c a w I he=>wpIn_wide.1 (h code s ex s' hs none c a w I he)
def fO (P:Program)(f:FuncId)(args:List V)(c:Ctx)(w:World)(v:V)(J:H): Prop :=
 Calls P f (args.map (conc c)).toArray w fun e w'=>∃I,e=.returned (conc I v)∧wf I v∧Rel I J w'∧dD c w I w'
def DG (P : Program) (f : Nat) (g : List V → H → Option (V × H)) : Prop :=
 ((∃ fn, P.funcs[f]? = some fn ∧ fn.body.isSome = true ∧ (fn.name == "runtime.NumGoroutine") = false) ∧
  ∀ (args : List V) (σ : H) (v : V) (I : H), g args σ = some (v, I) → ∀ (c : Ctx) (w : World), Rel c σ w → (∀ x ∈ args, wf c x) → fO P f args c w v I) ∨
 ((∃ fn, P.funcs[f]? = some fn ∧ fn.body.isSome = false) ∧
  ∀ (args : List V) (σ : H) (v : V) (I : H), g args σ = some (v, I) → ∀ (c : Ctx) (w : World), Rel c σ w → (∀ x ∈ args, wf c x) →
   ∃ J w', (callFunc f (args.map (conc c)).toArray).run P w = .ok (.value (conc J v)) w' ∧ Rel J I w' ∧ dD c w J w' ∧ wf J v)
def gT (C:dw): Prop:=∀f g,C.told f=some g→DG C.P f g
section
variable {C:dw} {self:Self} {c:Ctx} {σ:H} {w:World}
theorem tO : ∀(l:List V) (k:Nat) (e:Env) (j:Nat),T.get (bindArgs l k e) j=if k≤j∧j<k+l.length then l[j-k]? else T.get e j:=by
 intro l
 induction l with
 | nil=>intro k e j; simp only [bindArgs,bY]; rw [af (by omega)]
 | cons v l U =>
  intro k e j
  simp only [bindArgs,U,bj,aZ]
  by_cases I:j=k
  ·subst I
   rw [af (by omega),aj rfl,aj (by omega)]
   simp
  ·by_cases J:k+1≤j∧j<k+1+l.length
   ·rw [aj J,aj (by omega)]
    have:j-k=(j-(k+1))+1:=by omega
    rw [this]; simp
   ·rw [af J,af I,af (by omega)]
theorem pW {args:List V}{n:Nat}(hle:args.length≤n)(hw:∀x∈args,wf c x):
  eZ c (bindArgs args 0 .lf) n { tmps:=(args.map (conc c)).toArray++Array.replicate (n-(args.map (conc c)).toArray.size) undef,defers:=[] } where
 size:=by simp; omega
 val:=fun t=>by
  simp only [Env.v,tO,T.jS,fh,true_and,dU,kj]
  by_cases I:t<args.length
  ·rw [aj I]
   rw [bg I]
   simp [Array.getD,I]
   omega
  ·rw [af I,pS]
   simp [Array.getD,Array.getElem_append,I]
 vG:=fun t=>by
  simp only [Env.v,tO,T.jS,fh,true_and,dU,kj]
  by_cases I:t<args.length
  ·rw [aj I,bg I]
   exact hw _ (oW I)
  ·rw [af I]; simp [cy,wf,fN]
def resSem (tmps:Array Value): ResultVar→Sem Value
 | .tmp t=>pure (tmps.getD t undef)
 | .cell x t=>do loadVar t (← asAddr (tmps.getD x undef))
theorem KP (fn:Func)(tmps:Array Value): results fn tmps=(do
  let vs ← fn.results.mapM (resSem tmps)
  pure (if h:vs.size=1 then vs[0] else .tuple vs)):=by
 unfold results
 exact ja (fun f=>(Array.mapM f fn.results >>= fun vs=>(pure (if h:vs.size=1 then vs[0] else .tuple vs):Sem Value))) (funext fun r=>by cases r <;> rfl)
theorem SE {s:St}{a:Act}(h:Rel c s.h w)(he:eZ c s.env s.ay a){P:Program}{r:ResultVar}{v:V}(I:resV P s r=some v):
  (resSem a.tmps r).run P w=.ok (conc c v) w∧wf c v:=by
 cases r with
 | tmp t =>
  simp only [resV,au] at I
  subst I
  exact ⟨by simp only [resSem,Sem.run_pure,he.val t],he.vG t⟩
 | cell x t =>
  simp only [resV] at I
  obtain ⟨J,U⟩:=F1 h I
  refine ⟨?_,U⟩
  simp only [resSem]
  rw [he.val x]
  unfold loadV at I
  split at I
  ·rename_i id off hx
   rw [hx] at J ⊢
   simpa [Instr.loadAt,Instr.sureAddr,asAddr,conc] using J
  ·simp at I
theorem sA {s:St}{a:Act}(h:Rel c s.h w)(he:eZ c s.env s.ay a){P:Program}{fn:Func}{vs:List V}(hr:mapO (resV P s) fn.results.toList=some vs):
  (results fn a.tmps).run P w=.ok (if h:(vs.map (conc c)).toArray.size=1 then (vs.map (conc c)).toArray[0] else .tuple (vs.map (conc c)).toArray) w∧∀v∈vs,wf c v:=by
 have key:∀(l:List ResultVar) (vs:List V),mapO (resV P s) l=some vs →
   (l.mapM (resSem a.tmps)).run P w=.ok (vs.map (conc c)) w∧∀v∈vs,wf c v:=by
  intro l
  induction l with
  | nil=>intro vs h; simp [mapO] at h; subst h; simp
  | cons r l ih =>
   intro vs I
   simp only [mapO] at I
   cases J:resV P s r with
   | none=>simp [J] at I
   | some v =>
    cases U:mapO (resV P s) l with
    | none=>simp [J,U] at I
    | some m =>
     simp [J,U] at I
     subst I
     obtain ⟨r1,r2⟩:=SE h he J
     obtain ⟨i1,i2⟩:=ih m U
     refine ⟨?_,fun x hx => ?_⟩
     ·rw [List.mapM_cons,Sem.run_bind,r1]
      simp only [Result.andThen_ok,Sem.run_bind,i1,Sem.run_pure,bH]
     ·rcases List.mem_cons.1 hx with rfl | hx
      ·exact r2
      ·exact i2 x hx
 obtain ⟨k1,k2⟩:=key _ _ hr
 refine ⟨?_,k2⟩
 rw [KP,Jx]
 simp only [Sem.run_bind,Sem.run_map,k1,Result.andThen_ok,Sem.run_pure]
theorem wA (hS : Gd C.P self) (hT : gT C) {f : FuncId} {args : List V} {v : V} {U : H} (I : callF C self f args σ = some (v, U)) (h : Rel c σ w) (hw : ∀ x ∈ args, wf c x) :
  fO C.P f args c w v U ∧ ∀ (x : Array Value) (w : World), (callFunc f x).run C.P w = .ok (.enter f x) w := by
 unfold callF at I
 split at I
 ·rename_i g hg
  cases J : kO C.P f with
  | false => rw [J] at I; cases I
  | true =>
  rw [J, ah] at I
  rcases hT f g hg with ⟨⟨fn, t1, t2, t3⟩, t4⟩ | ⟨⟨fn, t1, t2⟩, _⟩
  rotate_left
  ·unfold kO at J
   rw [t1] at J
   simp only at J
   rw [t2] at J
   cases J
  refine ⟨t4 args σ v U I c w h hw, fun x w => ?_⟩
  have : fn.body.isNone = false := by
   cases hb : fn.body with
   | none => rw [hb] at t2; cases t2
   | some b => rfl
  simp only [callFunc, Sem.run_bind, run_program, Result.andThen_ok, t1, t3, eN, bK, this, Sem.run_pure]
 ·cases hf : C.P.funcs[f]? with
  | none => simp [hf] at I
  | some fn =>
   simp only [hf] at I
   cases hb : fn.body with
   | none => simp [hb] at I
   | some code =>
    simp only [hb] at I
    cases hq : (fn.name == "runtime.NumGoroutine" || Nat.blt fn.ntmps args.length) with
    | true => simp [hq] at I
    | false =>
     simp only [hq, az] at I
     simp only [Bool.or_eq_false_iff] at hq
     have hle : args.length ≤ fn.ntmps := by
      rcases qN fn.ntmps args.length with h' | h'
      ·rw [iP.2 h'] at hq; cases hq.2
      ·exact h'
     refine ⟨?_, fun x w => by simp only [callFunc, Sem.run_bind, run_program, Result.andThen_ok, hf, hq.1, eN, bK, hb, Option.isNone_some, Sem.run_pure]⟩
     have Bh := pW (c := c) hle hw
     have done : ∀ ex s, self code ⟨bindArgs args 0 .lf, fn.ntmps, σ⟩ = some (ex, s) → (ex = .normal ∨ ex = .ret) →
       (match mapO (resV C.P s) fn.results.toList with
        | some [v] => some (v, s.h)
        | some vs => some (.bD vs, s.h)
        | none => none) = some (v, U) → fO C.P f args c w v U := by
      intro ex s hs hex hm
      have Uo := hS code _ ex s hs c _ w h Bh
      refine calls_of_wp hf hb (wp_mono Uo ?_)
      rintro e a' w' ⟨rfl, hd, c', r1, r2, r3⟩
      have Rf : a'.defers = [] ∧ ∃ x, (results fn a'.tmps).run C.P w' = .ok x w' ∧ ∃ pX, Ending.returned x = .returned (conc pX v) ∧ wf pX v ∧ Rel pX U w' ∧ dD c w pX w' := by
       refine ⟨hd, ?_⟩
       cases Up : mapO (resV C.P s) fn.results.toList with
       | none => simp [Up] at hm
       | some vs =>
        obtain ⟨q1, q2⟩ := sA r1 r2 Up
        refine ⟨_, q1, c', ?_⟩
        rw [Up] at hm
        rcases vs with _ | ⟨v0, _ | ⟨v1, vs⟩⟩
        ·simp only [au, aN] at hm
         obtain ⟨rfl, rfl⟩ := hm
         exact ⟨by simp [conc, concL], by simp [wf, fN], r1, r3⟩
        ·simp only [au, aN] at hm
         obtain ⟨rfl, rfl⟩ := hm
         exact ⟨by simp, q2 v0 (by simp), r1, r3⟩
        ·simp only [au, aN] at hm
         obtain ⟨rfl, rfl⟩ := hm
         exact ⟨by simp [conc, h_], by simp only [wf, iQ]; exact q2, r1, r3⟩
      rcases hex with rfl | rfl
      ·simpa [bodyPost, exOf] using Rf
      ·simpa [bodyPost, exOf] using Rf
     split at I
     ·rename_i s hs
      exact done .normal s hs (.inl rfl) I
     ·rename_i s hs
      exact done .ret s hs (.inr rfl) I
     ·simp at I
section ops
variable {env:Env} {a:Act} {K:Act→World→Prop} {Q:Exit→Act→World→Prop} {o:Oper}
def Af (c:Ctx)(env:Env)(a:Act)(o:Oper): Prop:=∀x∈o.op.operands,∀v,evO env x=some v→a.eval x=conc c v∧wf c v
theorem eZ.JC {n:Nat}(he:eZ c env n a)(o:Oper): Af c env a o:=fun _ _ _ h=>F0 he h
def wB (P:Program)(o:Oper)(a:Act)(c:Ctx)(w:World)(v:V)(J:H): Prop :=
 (∃I w',((execOp a.eval o).run P w=.ok (.value (conc I v)) w'∨((execOp a.eval o).run P w=.ok .skip w'∧conc I v=undef))∧Rel I J w'∧dD c w I w'∧wf I v) ∨
 (∃f args,(execOp a.eval o).run P w=.ok (.enter f args) w∧Calls P f args w fun e w'=>∃I,e=.returned (conc I v)∧wf I v∧Rel I J w'∧dD c w I w') ∨
 (∃l fn tmps assign body,(execOp a.eval o).run P w=.ok (.round l fn tmps assign body) w∧RoundIn (Fr none) 0 P l fn tmps assign body w fun e w'=>∃I,e=.returned (conc I v)∧wf I v∧Rel I J w'∧dD c w I w')
theorem fb {v:V}{I:H}{s:Sem Value}(he:(execOp a.eval o)=(do pure (.value (← s))))(J:gS C.P s c w v I): wB C.P o a c w v I:=by
 obtain ⟨w',U,h1,h2,h3,h4⟩:=J
 refine .inl ⟨U,w',.inl ?_,h3,h4,h2⟩
 rw [he]
 simp only [Sem.run_bind,h1,Result.andThen_ok,Sem.run_pure]
theorem Ag {I:H}{s:Sem Unit}(he:(execOp a.eval o)=(do s; pure .skip))(U:O6 C.P s c w I): wB C.P o a c w cy I:=by
 obtain ⟨w',J,h1,h3,h4⟩:=U
 refine .inl ⟨J,w',.inr ⟨?_,pS J⟩,h3,h4,by simp [cy,wf,fN]⟩
 rw [he]
 simp only [Sem.run_bind,h1,Result.andThen_ok,Sem.run_pure]
theorem JD {f:FuncId}{args:List V}{v:V}{I:H}(he:(execOp a.eval o).run C.P w=.ok (.enter f (args.map (conc c)).toArray) w)(J:fO C.P f args c w v I): wB C.P o a c w v I :=
 .inr (.inl ⟨f,_,he,J⟩)
theorem wB.wpIn {P:Program}{v:V}{iA:H}(h:wB P o a c w v iA)(m5:∀d,o.op≠.defer d){r:Option Nat}
 (hK:∀I w',Rel I iA w'→dD c w I w'→wf I v→K (a.put o.dst (conc I v)) w'): o.wpIn (Fr r) 0 P a w K Q:=by
 refine ⟨fun _ _=>trivial,?_⟩
 rw [Oper.semAt_eq _ _ _ m5]
 rcases h with ⟨I,w',J,U,h3,h4⟩ | ⟨f,args,J,U⟩ | ⟨l,fn,tmps,assign,body,J,U⟩
 ·rcases J with J | ⟨J,h5⟩
  ·rw [J]; exact hK I w' U h3 h4
  ·rw [J]; have:=hK I w' U h3 h4; rw [h5] at this; exact this
 ·rw [J]
  refine ⟨fun hd=>(by cases hd),O8 (Calls.mono U ?_)⟩
  rintro e w' ⟨I,rfl,q1,q2,q3⟩
  exact hK I w' q2 q3 q1
 ·rw [J]
  refine ⟨fun hd=>(by cases hd),RoundIn.mono U ?_⟩
  rintro e w' ⟨I,rfl,q1,q2,q3⟩
  exact hK I w' q2 q3 q1
theorem KQ {b:Builtin}{ts:Array TypeId}{ty:TypeId}{cs:Array Bool}{args:List V}{v:V}{iA:H}(h:Rel c σ w)(I:builtinV C.P σ b ts args=some (v,iA))(hw:∀x∈args,wf c x):
  ∃s,builtin b ts ty cs (args.map (conc c)).toArray=(do pure (.value (← s)))∧gS C.P s c w v iA:=by
 unfold builtinV at I
 split at I
 ·rename_i x
  split at I
  ·rename_i t l U
   cases J:lenV C.P σ t x with
   | none=>simp [J] at I
   | some u =>
    simp [J] at I
    obtain ⟨rfl,rfl⟩:=I
    have h0:ts[0]?=some t:=by rw [←jF,U]; rfl
    exact ⟨_,rfl,gS.same h (SA h J ts h0 ty)⟩
  ·simp at I
 ·rename_i s x
  exact ⟨_,rfl,ID h I (hw s (by simp)) (hw x (by simp))⟩
 ·rename_i d s
  split at I
  ·rename_i t l U
   have h0:ts[0]?=some t:=by rw [←jF,U]; rfl
   exact ⟨_,rfl,Mw h h0 I (hw d (by simp)) (hw s (by simp))⟩
  ·simp at I
 ·rename_i x
  split at I
  ·rename_i t l U
   have h0:ts[0]?=some t:=by rw [←jF,U]; rfl
   cases J:clearV C.P σ t x with
   | none=>simp [J] at I
   | some u =>
    simp [J] at I
    obtain ⟨rfl,rfl⟩:=I
    obtain ⟨w',c',e1,e2,e3⟩:=KO (P:=C.P) (ty:=ty) h h0 J (hw x (by simp))
    exact ⟨_,rfl,w',c',by simpa [conc,concL] using e1,by simp [wf,fN],e2,e3⟩
  ·simp at I
 ·rename_i m k
  split at I
  ·rename_i t l U
   have h0:ts[0]?=some t:=by rw [←jF,U]; rfl
   cases J:mU C.P σ t m k with
   | none=>simp [J] at I
   | some u =>
    simp [J] at I
    obtain ⟨rfl,rfl⟩:=I
    obtain ⟨w',c',e1,e2,e3⟩:=IC (P:=C.P) (ty:=ty) h J (hw k (by simp)) ts h0
    exact ⟨_,rfl,w',c',by simpa [conc,concL] using e1,by simp [wf,fN],e2,e3⟩
  ·simp at I
 ·rename_i x l
  cases J:foldV maxV x l with
  | none=>simp [J] at I
  | some u =>
   simp [J] at I
   obtain ⟨rfl,rfl⟩:=I
   obtain ⟨e1,e2⟩:=F_ (P:=C.P) (c:=c) (w:=w) maxV Builtin.max2 (fun x y v hv=>SB hv w) l x u J (hw x (by simp))
   refine ⟨_,rfl,gS.same h ⟨?_,e2⟩⟩
   simpa [Builtin.max_] using e1
 ·rename_i x l
  cases J:foldV Bg x l with
  | none=>simp [J] at I
  | some u =>
   simp [J] at I
   obtain ⟨rfl,rfl⟩:=I
   obtain ⟨e1,e2⟩:=F_ (P:=C.P) (c:=c) (w:=w) Bg Builtin.min2 (fun x y v hv=>SC hv w) l x u J (hw x (by simp))
   refine ⟨_,rfl,gS.same h ⟨?_,e2⟩⟩
   simpa [Builtin.min_] using e1
 ·simp at I
theorem O9 {t:TypeId}{name:String}{f:FuncId}(h:methV C.P t name=some f)(d:Nat)(v:Value)(w:World): (method (d+1) t v name).run C.P w=.ok (f,v) w:=by
 unfold methV at h
 generalize U:C.P.underlying t=dt at h
 split at h
 ·rename_i e
  cases hi:C.P.info? t with
  | none=>simp [hi] at h
  | some i =>
   simp only [hi,cB] at h
   cases hm:i.methods.find? (fun m=>m.name == name) with
   | none=>simp [hm] at h
   | some m =>
    simp only [hm] at h
    split at h
    ·rename_i g J I
     simp only [au] at h
     subst h
     simp [method,typeInfo,hi,hm,J,I,follow,receiverAt,run_underlying U,Place.get]
    ·simp at h
 ·rename_i fs
  cases hi:C.P.info? t with
  | none=>simp [hi] at h
  | some i =>
   simp only [hi,cB] at h
   cases hm:i.methods.find? (fun m=>m.name == name) with
   | none=>simp [hm] at h
   | some m =>
    simp only [hm] at h
    split at h
    ·rename_i g J I
     simp only [au] at h
     subst h
     simp [method,typeInfo,hi,hm,J,I,follow,receiverAt,run_underlying U,Place.get]
    ·simp at h
 ·simp at h
theorem Mx {n:Nat}: ∀(ps:List Nat) (args:List V) (e U:Env) (tmps:Array Value),bindPs n ps args e=some U→tmps.size=n→(∀t,tmps.getD t undef=conc c (Env.v e t))→(∀t,wf c (Env.v e t))→(∀x∈args,wf c x) →
  args.length=ps.length∧eZ c U n { tmps:=(ps.zip (args.map (conc c))).foldl (fun tmps (t,a)=>tmps.setIfInBounds t a) tmps,defers:=[] }:=by
 intro ps
 induction ps with
 | nil =>
  intro args e U tmps I hs hv hw ha
  cases args with
  | nil=>simp only [bindPs,au] at I; subst I; exact ⟨rfl,hs,hv,hw⟩
  | cons _ _=>simp [bindPs] at I
 | cons p ps ih =>
  intro args e U tmps I hs hv hw ha
  cases args with
  | nil=>simp [bindPs] at I
  | cons x args =>
   simp only [bindPs] at I
   cases hp:Nat.blt p n with
   | false=>rw [hp] at I; cases I
   | true =>
    rw [hp,ah] at I
    have XX:=iP.1 hp
    obtain ⟨q1,q2⟩:=ih args (e.set p (some x)) U (tmps.setIfInBounds p (conc c x)) I (by simp [hs]) (fun t=>by
     simp only [Env.v,aZ]
     by_cases J:t=p
     ·subst J
      rw [aj rfl]
      simp [lR,hs,XX]
     ·rw [af J]
      have:=hv t
      simp only [Env.v] at this
      rw [←this]
      simp [lR,zP (jb J)]) (fun t=>by
     simp only [Env.v,aZ]
     by_cases J:t=p
     ·rw [aj J]; exact ha x bp
     ·rw [af J]; exact hw t) (fun y hy=>ha y (bl _ hy))
    exact ⟨by simp [q1],q2⟩
theorem O_ (hS:jc C.P self){id:Nat}{args:List V}{v:V}{iA:H}(I:roundV self id args σ=some (v,iA))(h:Rel c σ w)(hw:∀x∈args,wf c x):
  ∃l fn tmps assign body,(Instr.yield (c.ρ id).1 (args.map (conc c)).toArray).run C.P w=.ok (.round l fn tmps assign body) w ∧
   RoundIn (Fr none) 0 C.P l fn tmps assign body w fun e w'=>∃c',e=.returned (conc c' v)∧wf c' v∧Rel c' iA w'∧dD c w c' w':=by
 unfold roundV at I
 split at I
 ·rename_i ay env ps as bd hg
  obtain ⟨fn,tmps,D,hb,fc,DH,mL⟩:=h.obj id _ hg
  split at I
  ·cases I
  ·rename_i e he
   obtain ⟨q1,q2⟩:=Mx ps args env e tmps he fc DH mL hw
   split at I
   ·rename_i aav aaw
    split at I
    ·rename_i T4 aaX T5 T6 T7 J
     split at I
     ·rename_i KE aax
      split at I
      ·rename_i WA aaY XS XT XU U
       simp only [au,aN] at I
       obtain ⟨rfl,rfl⟩:=I
       have hyl:=run_yield (P:=C.P) (args:=(args.map (conc c)).toArray) hb (by simp [q1])
       refine ⟨_,_,_,_,_,hyl,roundIn_of_wpIn aa (wpIn_mono (hS as _ .normal aav aaw (some (c.ρ id).1) c _ w h (by simpa using q2)) ?_)⟩
       rintro ex My Ge ⟨rfl,XY,c₁,Uq,KR,m9⟩
       have xG:id<c.N:=h.live id _ hg
       have Zg:id<c₁.N:=Uq.live id _ J
       have aay:c₁.ρ id=c.ρ id:=m9.ext.ρ id xG
       obtain ⟨abv,aaO,abA,XZ,aaz⟩:=Uq.obj id _ J
       rw [←aay]
       refine ⟨_,run_beginRound XZ rfl,?_⟩
       obtain ⟨aaA,Zh⟩:=Uq.Jz (uF:=true) J XZ aaz
       refine wpIn_mono (hS bd _ .normal KE aax (some (c₁.ρ id).1) c₁ My _ aaA KR) ?_
       rintro ex Zi Zj ⟨rfl,abw,c₂,WC,SF,X0⟩
       obtain ⟨abx,aaP,abB,X1,aaB⟩:=WC.obj id _ U
       have aaC:c₂.ρ id=c₁.ρ id:=X0.ext.ρ id Zg
       obtain ⟨aaD,Zk⟩:=WC.Jz (uF:=false) U X1 aaB
       rw [←aaC]
       refine ⟨_,_,run_endRound none X1,c₂,by simp [conc],by simp [wf],aaD,(m9.trans Zh).trans (X0.trans Zk)⟩
      ·cases I
     ·cases I
    ·cases I
   ·cases I
 ·cases I
theorem Mz : ∀(l:List Nat) (k:Nat),inL l k=l.contains k:=by
 intro l
 induction l with
 | nil=>intro k; rfl
 | cons x l I =>
  intro k
  simp only [inL,I,List.contains_cons]
  by_cases h:x=k
  ·subst h; simp [gR rfl]
  ·have:¬ k=x:=fun e=>h e.symm
   simp [cN h,this]
theorem Pa (seen:List Nat): ∀(es:List (V×V×Nat)),(leftV seen es).map (cn c)=(es.map (cn c)).filter (fun e => !seen.toArray.contains e.born):=by
 intro es
 induction es with
 | nil=>rfl
 | cons e es I =>
  simp only [leftV,bH,sP]
  rw [Mz]
  have J:(cn c e).born=e.2.2:=rfl
  rw [J]
  have U:seen.toArray.contains e.2.2=seen.contains e.2.2:=by simp
  rw [U]
  cases seen.contains e.2.2 with
  | true=>simp [I]
  | false=>simp [I]
theorem MA {since:Nat}: ∀(es:List (V×V×Nat)),tH since es=true→∀e∈es,e.2.2<since:=by
 intro es
 induction es with
 | nil=>intro _ e he; cases he
 | cons x es J =>
  intro h e he
  simp only [tH] at h
  cases I:Nat.blt x.2.2 since with
  | false=>rw [I] at h; cases h
  | true =>
   rw [I,ah] at h
   rcases List.mem_cons.1 he with rfl | he
   ·exact iP.1 I
   ·exact J h e he
theorem IF : ∀(es:List (V×V×Nat)) (b:Nat),bornRise b es=true→(∀e∈es,b≤e.2.2)∧(es.map (·.2.2)).Pairwise (· < ·):=by
 intro es
 induction es with
 | nil=>intro b _; exact ⟨fun e he=>(lT he).elim,List.Pairwise.nil⟩
 | cons x es J =>
  intro b h
  simp only [bornRise] at h
  cases I:Nat.ble b x.2.2 with
  | false=>rw [I] at h; cases h
  | true =>
   rw [I,ah] at h
   have U:=aO.1 I
   obtain ⟨i1,i2⟩:=J _ h
   refine ⟨fun e he => ?_,?_⟩
   ·rcases List.mem_cons.1 he with rfl | he
    ·exact U
    ·have:=i1 e he; omega
   ·simp only [bH,oU]
    refine ⟨fun y hy => ?_,i2⟩
    obtain ⟨e,he,rfl⟩:=List.mem_map.1 hy
    have:=i1 e he
    omega
theorem Pb : ∀(l:List Nat) (b:Nat),lastN l=some b→∃i,l=i++[b]:=by
 intro l
 induction l with
 | nil=>intro b h; cases h
 | cons x l I =>
  intro b h
  cases l with
  | nil=>simp only [lastN,au] at h; subst h; exact ⟨[],rfl⟩
  | cons y l =>
   obtain ⟨i,hi⟩:=I b h
   exact ⟨x::i,by rw [hi]; rfl⟩
theorem KS {b:Nat}: ∀(es:List (V×V×Nat)) (e:V×V×Nat),tf b es=some e→e∈es∧e.2.2=b:=by
 intro es
 induction es with
 | nil=>intro e h; cases h
 | cons x es J =>
  intro e h
  simp only [tf] at h
  cases I:Nat.beq x.2.2 b with
  | true=>rw [I,ah] at h; simp only [au] at h; subst h; exact ⟨bp,beq_iff.1 I⟩
  | false =>
   rw [I,az] at h
   obtain ⟨U,h2⟩:=J e h
   exact ⟨bl _ U,h2⟩
theorem KT {P:Program}{t:TypeId}{x v:V}{J:H}(h:Rel c σ w)(I:rangeV P σ t x=some (v,J))(hx:wf c x): gS P (Instr.range t (conc c x)) c w v J:=by
 unfold rangeV at I
 generalize ht:P.underlying t=dt at I
 split at I
 ·rename_i kt et id
  split at I
  ·rename_i es clock hg
   simp only [au,aN] at I
   obtain ⟨rfl,rfl⟩:=I
   obtain ⟨_,hb⟩:=h.obj id _ hg
   have U:=h.live id _ hg
   have g:=h.new (.iter id clock clock []) (.mapIter (some (c.ρ id).1) clock #[] clock) 0 rfl ⟨by rw [kU]; omega,by rw [bz],by
    rw [bz,dh c _ _ _ U]
    rw [iu]; simp⟩
   refine ⟨_,_,?_,?_,g.1,g.2⟩
   ·simp only [Instr.range,Sem.run_bind,run_underlying ht,Result.andThen_ok,conc,jY hb (by simp),Sem.run_pure,run_newObj_alloc,h.next,bz]
   ·simp [wf,h.next,kU]
  ·cases I
 ·rename_i l
  simp only [au,aN] at I
  obtain ⟨rfl,rfl⟩:=I
  have g:=h.new (.kn l 0) (.stringIter ⟨(l.map UInt8.ofNat).toArray⟩ 0) 0 rfl ⟨by simpa [wf] using hx,by rw [bz],by rw [bz,iu]; simp⟩
  refine ⟨_,_,?_,?_,g.1,g.2⟩
  ·simp only [Instr.range,Sem.run_bind,run_underlying ht,Result.andThen_ok,conc,Sem.run_pure,run_newObj_alloc,h.next,bz]
  ·simp [wf,h.next,kU]
 ·cases I
theorem MB {P:Program}{x v:V}{U:H}(h:Rel c σ w)(I:nextS σ x=some (v,U))(ty:TypeId): gS P (Instr.next (conc c x) true ty) c w v U:=by
 unfold nextS at I
 split at I
 ·rename_i r off
  cases hq:Nat.beq off 0 with
  | false=>rw [hq] at I; cases I
  | true =>
   rw [hq,ah] at I
   have:=beq_iff.1 hq
   subst this
   split at I
   ·rename_i l pos hg
    obtain ⟨hl,hz,hb⟩:=h.obj r _ hg
    have AT:conc c (.ptr r 0)=.pointer (some ⟨(c.ρ r).1,0,none⟩):=by simp [conc,hz]
    rw [AT]
    rw [fM] at I
    split at I
    ·rename_i hn
     simp only [au,aN] at I
     obtain ⟨rfl,rfl⟩:=I
     have hp:¬ pos<(⟨(l.map UInt8.ofNat).toArray⟩:ByteArray).size:=by
      have:=List.getElem?_eq_none_iff.1 hn
      simp [ByteArray.size]; omega
     exact ⟨w,c,by rw [Lib.run_next_end_at w _ _ _ ty hb hp]; simp [conc,concL],by simp [wf,fN],h,dD.refl c w⟩
    ·rename_i b hn
     cases J:Nat.blt b 128 with
     | false=>rw [J] at I; cases I
     | true =>
      rw [J,ah] at I
      simp only [au,aN] at I
      obtain ⟨rfl,rfl⟩:=I
      have hb3:=iP.1 J
      obtain ⟨Rg,he⟩:=List.getElem?_eq_some_iff.1 hn
      have hp:pos<(⟨(l.map UInt8.ofNat).toArray⟩:ByteArray).size:=by simpa [ByteArray.size] using Rg
      have hv:((⟨(l.map UInt8.ofNat).toArray⟩:ByteArray)[pos]'hp).toNat=b:=by
       have:(⟨(l.map UInt8.ofNat).toArray⟩:ByteArray)[pos]'hp=UInt8.ofNat b:=by
        show ((l.map UInt8.ofNat).toArray)[pos]'(by simpa using Rg)=_
        simp [he]
       rw [this,sN]
       omega
      obtain ⟨r1,s1⟩:=h.Ud (pos':=pos+1) hg
      refine ⟨_,c,?_,by simp [wf,fN],r1,s1⟩
      rw [Lib.run_next_ascii_at w _ _ _ ty hb hp (by rw [hv]; exact hb3),hv]
      simp only [conc,concL]
      rfl
   ·cases I
 ·cases I
theorem AU {P:Program}{r:Nat}{L:List (V×H)}(h:Rel c σ w)(I:nextAll σ r=some L)(ty:TypeId):
  ∃q∈L,gS P (Instr.next (conc c (.ptr r 0)) false ty) c w q.1 q.2:=by
 unfold nextAll at I
 split at I
 ·rename_i mid since last seen hg
  split at I
  ·rename_i es clock hm
   obtain ⟨F3,hz,hb⟩:=h.obj r _ hg
   obtain ⟨hw,Ur⟩:=h.obj mid _ hm
   cases hq:(tH since es&&Nat.ble since last) with
   | false=>rw [hq] at I; cases I
   | true =>
    rw [hq,ah] at I
    simp only [aY,aO] at hq
    have hold:=MA es hq.1
    have AT:conc c (.ptr r 0)=.pointer (some ⟨(c.ρ r).1,0,none⟩):=by simp [conc,hz]
    rw [AT]
    have hL:(leftOf (es.map (cn c)).toArray seen.toArray).toList=(leftV seen es).map (cn c):=by
     rw [Pa]
     simp [leftOf]
    rcases run_next_at (P:=P) w ty (c.ρ r).1 (c.ρ mid).1 since last seen.toArray (es.map (cn c)).toArray clock hb Ur (fun x hx=>by
     simp only [nH] at hx
     obtain ⟨e,he,rfl⟩:=hx
     exact hold e he) hq.2 with ⟨h0,J⟩ | ⟨e,he,w1,Rh,J⟩
    ·have wC:leftV seen es=[]:=by
      have:((leftV seen es).map (cn c)).length=0:=by rw [←hL]; simpa using h0
      simpa using this
     rw [wC] at I
     simp only [au] at I
     subst I
     exact ⟨_,List.mem_singleton.2 rfl,w,c,by rw [J]; simp [conc,concL],by simp [wf,fN],h,dD.refl c w⟩
    ·rw [hL] at he
     obtain ⟨e0,U,rfl⟩:=List.mem_map.1 he
     have KU:L=(leftV seen es).map fun e=>(.bD [.bool true,e.1,e.2.1],σ.put r (some (.iter mid since clock (seen++[e.2.2])))):=by
      cases hl:leftV seen es with
      | nil=>rw [hl] at U; cases U
      | cons y l=>rw [hl] at I; simp only [au] at I; exact I.symm
     have wD:e0∈es:=by
      have:∀(es:List (V×V×Nat)),e0∈leftV seen es→e0∈es:=by
       intro es
       induction es with
       | nil=>intro h; cases h
       | cons y es ih =>
        intro h
        simp only [leftV] at h
        cases hy:inL seen y.2.2 with
        | true=>rw [hy,ah] at h; exact bl _ (ih h)
        | false =>
         rw [hy,az] at h
         rcases List.mem_cons.1 h with rfl | h
         ·exact bp
         ·exact bl _ (ih h)
      exact this es U
     refine ⟨_,by rw [KU]; exact List.mem_map.2 ⟨e0,U,rfl⟩,?_⟩
     have yc:Rel c σ w1∧dD c w c w1:=by
      rcases Rh with rfl | rfl
      ·exact ⟨h,dD.refl c _⟩
      ·exact ⟨h.drew,dD.drew c w⟩
     obtain ⟨r1,s1⟩:=yc.1.setIter (last':=clock) (seen':=seen++[e0.2.2]) hg
     refine ⟨_,c,?_,by simp only [wf,fN,td,true_and]; exact hw e0 wD,r1,yc.2.trans s1⟩
     rw [J]
     have:(seen++[e0.2.2]).toArray=seen.toArray.push e0.2.2:=by simp
     simp only [conc,concL,cn,this]
     rfl
  ·cases I
 ·cases I
theorem MC {P:Program}{x v:V}{J:H}(h:Rel c σ w)(I:nextV σ x=some (v,J))(ty:TypeId): gS P (Instr.next (conc c x) false ty) c w v J:=by
 unfold nextV at I
 split at I
 ·rename_i r off
  cases U:Nat.beq off 0 with
  | false=>rw [U] at I; cases I
  | true =>
   rw [U,ah] at I
   have:=beq_iff.1 U
   subst this
   split at I
   ·rename_i q hn
    simp only [au] at I
    subst I
    obtain ⟨q',tP,hg⟩:=AU (P:=P) h hn ty
    rw [List.mem_singleton.1 tP] at hg
    exact hg
   ·cases I
 ·cases I
theorem MD {P:Program}{x v:V}(h:Rel c σ w)(I:vD σ x=some v): (Instr.entry (conc c x)).run P w=.ok (conc c v) w∧wf c v:=by
 unfold vD at I
 split at I
 ·rename_i r off
  cases hq:Nat.beq off 0 with
  | false=>rw [hq] at I; cases I
  | true =>
   rw [hq,ah] at I
   have:=beq_iff.1 hq
   subst this
   split at I
   ·rename_i mid since last seen hg
    split at I
    ·rename_i es clock hm
     obtain ⟨F3,hz,hb⟩:=h.obj r _ hg
     obtain ⟨hw,Ur⟩:=h.obj mid _ hm
     cases J:(Nat.beq clock last&&bornRise 0 es) with
     | false=>rw [J] at I; cases I
     | true =>
      rw [J,ah] at I
      simp only [aY,beq_iff] at J
      obtain ⟨rfl,U⟩:=J
      split at I
      ·rename_i b xF
       split at I
       ·rename_i e he
        simp only [au] at I
        subst I
        obtain ⟨i,rfl⟩:=Pb seen b xF
        obtain ⟨h1,rfl⟩:=KS es e he
        have AT:conc c (.ptr r 0)=.pointer (some ⟨(c.ρ r).1,0,none⟩):=by simp [conc,hz]
        rw [AT]
        have xA:w.heap[(c.ρ r).1]?=some (.mapIter (some (c.ρ mid).1) since (i.toArray.push (cn c e).born) clock):=by
         rw [hb]; simp [cn]
        have m5:((es.map (cn c)).toArray.toList.map (·.born)).Nodup:=by
         have:=(IF es 0 U).2
         have e1:(es.map (cn c)).toArray.toList.map (·.born)=es.map (·.2.2):=by simp [cn,vt]
         rw [e1]
         exact this.imp fun {a b} pq=>by omega
        refine ⟨?_,by simp only [wf,fN,td]; exact hw e h1⟩
        rw [run_entry_at (P:=P) w (c.ρ r).1 (c.ρ mid).1 since i.toArray (es.map (cn c)).toArray clock (cn c e) xA Ur (by simpa using ⟨_,_,_,h1,rfl⟩) m5]
        simp [conc,concL,cn]
       ·cases I
      ·cases I
    ·cases I
   ·cases I
 ·cases I
theorem ME (hS:jc C.P self)(hT:gT C){cl:Call}{v:V}{iA:H}(ho:o.op=.call cl)(h:Rel c σ w)(he:Af c env a o)(J:evCall C self env σ cl=some (v,iA)):
  wB C.P o a c w v iA:=by
 unfold evCall at J
 cases ha:evArgs env cl.args.toList with
 | none=>simp [ha] at J
 | some args =>
  simp only [ha] at J
  obtain ⟨g1,g2⟩:=xX (a:=a) (c:=c) _ _ (fun x hx=>he x (by simp only [ho,Op.operands,Call.operands,Dr]; exact .inr (by simpa using hx))) ha
  have I:cl.args.map a.eval=(args.map (conc c)).toArray:=by
   apply lW
   simpa using g1
  split at J
  ·rename_i b hb
   obtain ⟨s,e1,e2⟩:=KQ (C:=C) (ty:=o.type) (cs:=cl.args.map fun | .const _=>true | _=>false) h J g2
   refine fb (s:=s) ?_ e2
   simp only [execOp,ho,resolve,hb,pure_bind,invoke,I]
   exact e1
  ·rename_i f hf
   cases hv:evO env f with
   | none=>simp [hv] at J
   | some fv =>
    simp only [hv] at J
    obtain ⟨f1,f2⟩:=he f (by simp [ho,Op.operands,Call.operands,hf]) _ hv
    unfold callV at J
    split at J
    ·rename_i k first captured
     have fw:(∀x∈first,wf c x)∧(∀x∈captured,wf c x):=by
      have:fN c first∧fN c captured:=by simpa [wf] using f2
      exact ⟨iQ.1 this.1,iQ.1 this.2⟩
     have qR:∀x∈first++(args++captured),wf c x:=by
      intro x hx
      rcases List.mem_append.1 hx with hx | hx
      ·exact fw.1 x hx
      ·rcases List.mem_append.1 hx with hx | hx
       ·exact g2 x hx
       ·exact fw.2 x hx
     cases U:kO C.P k with
     | false =>
      rw [U,az] at J
      split at J
      ·rename_i g hg
       rcases hT k g hg with ⟨⟨fn,t1,t2,_⟩,_⟩ | ⟨_,t4⟩
       ·unfold kO at U
        rw [t1] at U
        simp only at U
        rw [t2] at U
        cases U
       ·obtain ⟨c',w',u1,u2,u3,u4⟩:=t4 _ σ v iA J c w h qR
        refine .inl ⟨c',w',.inl ?_,u2,u3,u4⟩
        simp only [execOp,ho,resolve,hf,I,f1,conc,h_,Deferred.ofValue,pure_bind,invoke]
        rw [show (first.map (conc c)).toArray++(args.map (conc c)).toArray++(captured.map (conc c)).toArray=((first++(args++captured)).map (conc c)).toArray from by
         apply lW; simp]
        exact u1
      ·cases J
     | true =>
     rw [U,ah] at J
     obtain ⟨q1,q2⟩:=wA hS.wide hT J h qR
     refine JD ?_ q1
     simp only [execOp,ho,resolve,hf,I,f1,conc,h_,Deferred.ofValue,pure_bind,invoke]
     rw [show (first.map (conc c)).toArray++(args.map (conc c)).toArray++(captured.map (conc c)).toArray=((first++(args++captured)).map (conc c)).toArray from by
      apply lW; simp]
     exact q2 _ w
    ·rename_i id
     have f3:id<c.N:=by simpa [wf] using f2
     obtain ⟨l,fn,tmps,assign,bd,y1,y2⟩:=O_ hS J h g2
     refine .inr (.inr ⟨l,fn,tmps,assign,bd,?_,y2⟩)
     simp only [execOp,ho,resolve,hf,I,f1,conc,Deferred.ofValue,pure_bind,invoke]
     rw [show (#[]:Array Value)++(args.map (conc c)).toArray=(args.map (conc c)).toArray from by simp]
     exact y1
    ·simp at J
  ·rename_i r m hm
   split at J
   ·rename_i t x hv
    obtain ⟨f1,f2⟩:=he r (by simp [ho,Op.operands,Call.operands,hm]) _ hv
    cases Us:methV C.P t m with
    | none=>simp [Us] at J
    | some f =>
     simp only [Us] at J
     obtain ⟨q1,q2⟩:=wA hS.wide hT J h (by
      intro y hy
      rcases List.mem_cons.1 hy with rfl | hy
      ·simpa [wf] using f2
      ·exact g2 y hy)
     refine JD ?_ q1
     have MF:=O9 Us (C.P.types.size+99) (conc c x) w
     simp only [execOp,ho,resolve,hm,I,f1,conc,pure_bind,invoke]
     have h1:((#[Value.iface t (conc c x)]++(args.map (conc c)).toArray:Array Value))[0]?=some (.iface t (conc c x)):=by simp
     have h2:(#[Value.iface t (conc c x)]++(args.map (conc c)).toArray:Array Value).extract 1 (#[Value.iface t (conc c x)]++(args.map (conc c)).toArray:Array Value).size=(args.map (conc c)).toArray:=by
      apply lW; simp [fI]
     rw [h1,h2]
     simp only [callMethod,Sem.run_bind,run_program,Result.andThen_ok,Made.depth]
     rw [MF]
     simp only [Result.andThen_ok]
     rw [show (#[conc c x]++(args.map (conc c)).toArray:Array Value)=((x::args).map (conc c)).toArray from by apply lW; simp]
     exact q2 _ w
   ·simp at J
theorem eF {x:Option V}{h:H}{r:V×H}(e:bu x h=some r): x=some r.1∧r.2=h:=by
 cases x with
 | none=>simp [bu] at e
 | some v=>simp [bu] at e; subst e; exact ⟨rfl,rfl⟩
theorem sB {x:Option H}{r:V×H}(e:ry x=some r): x=some r.2∧r.1=cy:=by
 cases x with
 | none=>simp [ry] at e
 | some v=>simp [ry] at e; subst e; exact ⟨rfl,rfl⟩
theorem tQ {v:V}(he:(execOp a.eval o).run C.P w=.ok (.value (conc c v)) w)(h:Rel c σ w)(I:wf c v): wB C.P o a c w v σ :=
 .inl ⟨c,w,.inl he,h,dD.refl c w,I⟩
theorem DI {x:Option Operand}{v:Option V}(he:∀y,x=some y→∀v,evO env y=some v→a.eval y=conc c v∧wf c v)(h:optV env x=some v): x.map a.eval=v.map (conc c):=by
 cases x with
 | none=>simp [optV] at h; subst h; rfl
 | some y =>
  simp only [optV] at h
  cases I:evO env y with
  | none=>simp [I] at h
  | some u =>
   simp [I] at h
   subst h
   simp [(he y rfl u I).1]
theorem Ah (hS:jc C.P self)(hT:gT C){v:V}{iA:H}(h:Rel c σ w)(he:Af c env a o)(I:evOp C self env σ o=some (v,iA)):
  wB C.P o a c w v iA:=by
 unfold evOp at I
 split at I
 case h_1 ho =>
  obtain ⟨J,U⟩:=eF I
  simp only at J U; subst U
  obtain ⟨f1,f2⟩:=he _ (by simp [ho,Op.operands]) _ J
  exact tQ (by simp [execOp,ho,f1]) h f2
 case h_2 ho =>
  obtain ⟨J,U⟩:=eF I
  simp only at J U; subst U
  obtain ⟨f1,f2⟩:=he _ (by simp [ho,Op.operands]) _ J
  exact tQ (by simp [execOp,ho,f1]) h f2
 case h_3 x y z ho =>
  split at I
  ·rename_i t hx
   obtain ⟨J,U⟩:=eF I
   simp only at J U; subst U
   obtain ⟨f1,f2⟩:=he _ (by cases t <;> simp [ho,Op.operands]) _ J
   obtain ⟨g1,_⟩:=he _ (by simp [ho,Op.operands]) _ hx
   refine tQ ?_ h f2
   cases t <;> simp only [ah,az] at f1 <;> simp [execOp,ho,f1,g1,conc,asBool]
  ·simp at I
 case h_4 t ho =>
  split at I
  ·rename_i z hz
   simp only [au,aN] at I
   obtain ⟨rfl,rfl⟩:=I
   exact fb (by simp [execOp,ho]) (Mq h hz)
  ·simp at I
 case h_5 t x ho =>
  split at I
  ·rename_i u hu
   cases hs:u.cells.all storable with
   | false=>simp [hs] at I
   | true =>
    simp only [hs,ah,au,aN] at I
    obtain ⟨rfl,rfl⟩:=I
    obtain ⟨f1,f2⟩:=he _ (by simp [ho,Op.operands]) _ hu
    exact fb (by simp [execOp,ho,f1]) (SD (t:=t) h f2 hs)
  ·simp at I
 case h_6 t ps ho =>
  split at I
  ·rename_i l hl
   obtain ⟨J,U⟩:=eF I
   simp only at J U; subst U
   obtain ⟨f1,f2⟩:=BI (a:=a) (c:=c) _ _ (fun x hx=>he x.2 (by simp only [ho,Op.operands]; simp; exact ⟨x.1,by simpa using hx⟩)) hl
   have Ut:(ps.map fun (i,x)=>(i,a.eval x))=(l.map fun x=>(x.1,conc c x.2)).toArray:=by
    apply lW
    simpa using f1
   exact fb (by simp only [execOp,ho]; rw [Ut]) (gS.same h (Mj J f2 w))
  ·simp at I
 case h_7 t m ps ho =>
  split at I
  ·rename_i l hl
   obtain ⟨f1,f2⟩:=BI (a:=a) (c:=c) _ _ (fun x hx=>he x.2 (by simp only [ho,Op.operands]; simp; exact ⟨x.1,by simpa using hx⟩)) hl
   have Ut:(ps.map fun (i,x)=>(i,a.eval x))=(l.map fun x=>(x.1,conc c x.2)).toArray:=by
    apply lW
    simpa using f1
   exact fb (by simp only [execOp,ho]; rw [Ut]) (BL h I f2)
  ·simp at I
 case h_8 t x ho =>
  split at I
  ·rename_i u hu
   obtain ⟨J,U⟩:=eF I
   simp only at J U; subst U
   obtain ⟨f1,f2⟩:=he _ (by simp [ho,Op.operands]) _ hu
   exact fb (by simp only [execOp,ho,f1]) (gS.same h (F1 h J))
  ·simp at I
 case h_9 t x y ho =>
  split at I
  ·rename_i p u hp hu
   obtain ⟨J,U⟩:=sB I
   simp only at J U; subst U
   obtain ⟨f1,f2⟩:=he _ (by simp [ho,Op.operands]) _ hp
   obtain ⟨g1,g2⟩:=he _ (by simp [ho,Op.operands]) _ hu
   obtain ⟨w',s1,s2,s3⟩:=Mh h J g2
   exact Ag (by simp only [execOp,ho,f1,g1]) ⟨w',c,s1,s2,s3⟩
  ·simp at I
 case h_10 x ho =>
  split at I
  ·rename_i i j hx
   simp only [au,aN] at I
   obtain ⟨rfl,rfl⟩:=I
   obtain ⟨f1,f2⟩:=he _ (by simp [ho,Op.operands]) _ hx
   refine tQ ?_ h f2
   simp only [conc] at f1
   simp [execOp,ho,f1,conc]
  ·simp at I
 case h_11 op t x y u ho =>
  split at I
  ·rename_i p q hp hq
   obtain ⟨J,U⟩:=eF I
   simp only at J U; subst U
   obtain ⟨f1,f2⟩:=he _ (by simp [ho,Op.operands]) _ hp
   obtain ⟨g1,g2⟩:=he _ (by simp [ho,Op.operands]) _ hq
   exact fb (by simp only [execOp,ho,f1,g1]) (gS.same h (Sz h J f2 g2))
  ·simp at I
 case h_12 op t x ho =>
  split at I
  ·rename_i u hu
   obtain ⟨J,U⟩:=eF I
   simp only at J U; subst U
   obtain ⟨f1,f2⟩:=he _ (by simp [ho,Op.operands]) _ hu
   exact fb (by simp only [execOp,ho,f1]) (gS.same h (Uf J w))
  ·simp at I
 case h_13 s d x ho =>
  split at I
  ·rename_i u hu
   obtain ⟨f1,f2⟩:=he _ (by simp [ho,Op.operands]) _ hu
   split at I
   ·rename_i r hc
    obtain ⟨r1,r2⟩:=r
    simp only [au,aN] at I
    obtain ⟨rfl,rfl⟩:=I
    obtain ⟨q1,q2,q3⟩:=O3 h hc f2
    subst q3
    exact fb (by simp only [execOp,ho,f1]) (gS.same h ⟨q1,q2⟩)
   ·exact fb (by simp only [execOp,ho,f1]) (Mr h I f2)
  ·simp at I
 case h_14 d x ho =>
  split at I
  ·rename_i u hu
   obtain ⟨J,U⟩:=eF I
   simp only at J U; subst U
   obtain ⟨f1,f2⟩:=he _ (by simp [ho,Op.operands]) _ hu
   exact fb (by simp only [execOp,ho,f1]) (gS.same h (KH J f2 w))
  ·simp at I
 case h_15 t x ho =>
  split at I
  ·rename_i u hu
   obtain ⟨J,U⟩:=eF I
   simp only at J U; subst U
   obtain ⟨f1,f2⟩:=he _ (by simp [ho,Op.operands]) _ hu
   exact fb (by simp only [execOp,ho,f1]) (gS.same h (Fp J f2 w))
  ·simp at I
 case h_16 f x y ho =>
  split at I
  ·rename_i l m hl hm
   simp only [au,aN] at I
   obtain ⟨rfl,rfl⟩:=I
   obtain ⟨f1,f2⟩:=xX (a:=a) (c:=c) _ _ (fun x hx=>he x (by simp only [ho,Op.operands,Dr]; exact .inl (by simpa using hx))) hl
   obtain ⟨g1,g2⟩:=xX (a:=a) (c:=c) _ _ (fun x hx=>he x (by simp only [ho,Op.operands,Dr]; exact .inr (by simpa using hx))) hm
   have h1:x.map a.eval=(l.map (conc c)).toArray:=by apply lW; simpa using f1
   have h2:y.map a.eval=(m.map (conc c)).toArray:=by apply lW; simpa using g1
   exact fb (s:=Instr.makeFunc f (l.map (conc c)).toArray (m.map (conc c)).toArray) (by simp only [execOp,ho,h1,h2]) (gS.same h ⟨by simp [Instr.makeFunc,conc,h_],by simp only [wf,iQ]; exact ⟨f2,g2⟩⟩)
  ·simp at I
 case h_17 t r ho =>
  split at I
  ·simp only [au,aN] at I
   obtain ⟨rfl,rfl⟩:=I
   exact fb (by simp only [execOp,ho,iN]) (Iz h t)
  ·simp at I
 case h_18 t x y ho =>
  split at I
  ·rename_i p q hp hq
   obtain ⟨f1,f2⟩:=he _ (by simp [ho,Op.operands]) _ hp
   obtain ⟨g1,g2⟩:=he _ (by simp [ho,Op.operands]) _ hq
   exact fb (by simp only [execOp,ho,f1,g1]) (DD h I)
  ·simp at I
 case h_19 t x lo hi mx ho =>
  split at I
  ·rename_i u x1 x2 x3 hu h1 h2 h3
   split at I
   ·rename_i b1 b2 b3 q1 q2 q3
    obtain ⟨J,U⟩:=eF I
    simp only at J U; subst U
    obtain ⟨f1,f2⟩:=he _ (by simp [ho,Op.operands]) _ hu
    have m1:=DI (c:=c) (a:=a) (fun y hy=>he y (by simp [ho,Op.operands,hy])) h1
    have m2:=DI (c:=c) (a:=a) (fun y hy=>he y (by simp [ho,Op.operands,hy])) h2
    have m3:=DI (c:=c) (a:=a) (fun y hy=>he y (by simp [ho,Op.operands,hy])) h3
    exact fb (by simp only [execOp,ho,f1,m1,m2,m3]) (gS.same h (Mn h q1 q2 q3 J f2))
   ·simp at I
  ·simp at I
 case h_20 t x i ho =>
  split at I
  ·rename_i u hu
   obtain ⟨J,U⟩:=eF I
   simp only at J U; subst U
   obtain ⟨f1,f2⟩:=he _ (by simp [ho,Op.operands]) _ hu
   exact fb (by simp only [execOp,ho,f1]) (gS.same h (Fq J f2 w))
  ·simp at I
 case h_21 t x i ho =>
  split at I
  ·rename_i u hu
   obtain ⟨J,U⟩:=eF I
   simp only at J U; subst U
   obtain ⟨f1,f2⟩:=he _ (by simp [ho,Op.operands]) _ hu
   exact fb (by simp only [execOp,ho,f1]) (gS.same h (Ml J f2 w))
  ·simp at I
 case h_22 t x i ho =>
  split at I
  ·rename_i p q hp hq
   obtain ⟨J,U⟩:=eF I
   simp only at J U; subst U
   obtain ⟨f1,f2⟩:=he _ (by simp [ho,Op.operands]) _ hp
   obtain ⟨g1,g2⟩:=he _ (by simp [ho,Op.operands]) _ hq
   exact fb (by simp only [execOp,ho,f1,g1]) (gS.same h (Fs J f2 w))
  ·simp at I
 case h_23 t x i ho =>
  split at I
  ·rename_i p q hp hq
   obtain ⟨J,U⟩:=eF I
   simp only at J U; subst U
   obtain ⟨f1,f2⟩:=he _ (by simp [ho,Op.operands]) _ hp
   obtain ⟨g1,g2⟩:=he _ (by simp [ho,Op.operands]) _ hq
   exact fb (by simp only [execOp,ho,f1,g1]) (gS.same h (Mm J f2 w))
  ·simp at I
 case h_24 t x k ok ho =>
  split at I
  ·rename_i p q hp hq
   obtain ⟨J,U⟩:=eF I
   simp only at J U; subst U
   obtain ⟨f1,f2⟩:=he _ (by simp [ho,Op.operands]) _ hp
   obtain ⟨g1,g2⟩:=he _ (by simp [ho,Op.operands]) _ hq
   exact fb (by simp only [execOp,ho,f1,g1]) (gS.same h (KJ h J f2 g2))
  ·simp at I
 case h_25 t m k x ho =>
  split at I
  ·rename_i p q r hp hq xZ
   obtain ⟨J,U⟩:=sB I
   simp only at J U; subst U
   obtain ⟨f1,f2⟩:=he _ (by simp [ho,Op.operands]) _ hp
   obtain ⟨g1,g2⟩:=he _ (by simp [ho,Op.operands]) _ hq
   obtain ⟨i1,i2⟩:=he _ (by simp [ho,Op.operands]) _ xZ
   exact Ag (by simp only [execOp,ho,f1,g1,i1]) (vJ h J g2 i2)
  ·simp at I
 case h_26 t m k x ho =>
  split at I
  ·rename_i p q r hp hq xZ
   obtain ⟨J,U⟩:=sB I
   simp only at J U; subst U
   obtain ⟨f1,f2⟩:=he _ (by simp [ho,Op.operands]) _ hp
   obtain ⟨g1,g2⟩:=he _ (by simp [ho,Op.operands]) _ hq
   obtain ⟨i1,i2⟩:=he _ (by simp [ho,Op.operands]) _ xZ
   exact Ag (by simp only [execOp,ho,f1,g1,i1]) (vJ h J g2 i2)
  ·simp at I
 case h_27 t m k ho =>
  split at I
  ·rename_i p q hp hq
   obtain ⟨f1,f2⟩:=he _ (by simp [ho,Op.operands]) _ hp
   obtain ⟨g1,g2⟩:=he _ (by simp [ho,Op.operands]) _ hq
   exact fb (by simp only [execOp,ho,f1,g1]) (Ft h I g2)
  ·simp at I
 case h_28 t m s x ho =>
  split at I
  ·rename_i p q r hp hq xZ
   obtain ⟨J,U⟩:=sB I
   simp only at J U; subst U
   obtain ⟨f1,f2⟩:=he _ (by simp [ho,Op.operands]) _ hp
   obtain ⟨g1,g2⟩:=he _ (by simp [ho,Op.operands]) _ hq
   obtain ⟨i1,i2⟩:=he _ (by simp [ho,Op.operands]) _ xZ
   exact Ag (by simp only [execOp,ho,f1,g1,i1]) (BO (t:=t) h J i2)
  ·simp at I
 case h_29 x xt t ok ho =>
  split at I
  ·rename_i u hu
   obtain ⟨J,U⟩:=eF I
   simp only at J U; subst U
   obtain ⟨f1,f2⟩:=he _ (by simp [ho,Op.operands]) _ hu
   exact fb (by simp only [execOp,ho,f1]) (gS.same h (KK (xt:=xt) J f2 w))
  ·simp at I
 case h_30 t i ho =>
  split at I
  ·rename_i l hl
   obtain ⟨J,U⟩:=eF I
   simp only [fM] at J U; subst U
   obtain ⟨f1,f2⟩:=he _ (by simp [ho,Op.operands]) _ hl
   have hv:wf c v:=by
    have:fN c l:=by simpa [wf] using f2
    exact iQ.1 this v (bq J)
   refine tQ ?_ h hv
   simp only [execOp,ho,f1,conc,h_,Instr.extract]
   simp [J]
  ·simp at I
 case h_31 cl ho=>exact ME hS hT ho h he I
 case h_32 t x ho =>
  split at I
  ·rename_i u hx
   obtain ⟨f1,f2⟩:=he x (by simp [ho,Op.operands]) _ hx
   exact fb (by simp only [execOp,ho,f1]) (KT h I f2)
  ·simp at I
 case h_33 it str ho =>
  split at I
  ·rename_i u hx
   obtain ⟨f1,f2⟩:=he it (by simp [ho,Op.operands]) _ hx
   cases str with
   | true=>exact fb (s:=Instr.next (conc c u) true o.type) (by simp only [execOp,ho,f1]) (MB h I o.type)
   | false=>exact fb (s:=Instr.next (conc c u) false o.type) (by simp only [execOp,ho,f1]) (MC h I o.type)
  ·simp at I
 case h_34 it ho =>
  split at I
  ·rename_i u hx
   obtain ⟨f1,f2⟩:=he it (by simp [ho,Op.operands]) _ hx
   obtain ⟨J,U⟩:=eF I
   simp only at J U
   subst U
   exact fb (by simp only [execOp,ho,f1]) (gS.same h (MD h J))
  ·simp at I
 case h_35=>simp at I
theorem nc {r:V×H}(I:evOp C self env σ o=some r): ∀d,o.op≠.defer d:=by
 intro d J
 unfold evOp at I
 rw [J] at I
 cases I
theorem BP {ops:Array Oper}(he:∀j w d,o.guard=some (j,w)→(ops[j]?).bind (·.dst)=some d→a.tmps.getD d undef=conc c (env.v d)):
  Region.wanted o (yielded ops a.tmps)=wantedV ops.toList env o:=by
 unfold Region.wanted wantedV
 cases hg:o.guard with
 | none=>rfl
 | some jw =>
  obtain ⟨j,want⟩:=jw
  simp only [yielded,fM,jF]
  cases hd:(ops[j]?).bind (·.dst) with
  | none=>simp
  | some d =>
   have U:=he j want d hg hd
   simp only [cB]
   by_cases I:d<a.tmps.size
   ·have J:a.tmps[d]?=some (conc c (env.v d)):=by
     rw [←U]; simp [Array.getD,I]
    rw [J]
    generalize env.v d=x
    cases x with
    | bool b=>cases b <;> cases want <;> simp [conc]
    | sl i p q cap=>cases cap <;> simp [conc]
    | _=>simp [conc]
   ·have J:a.tmps[d]?=none:=Array.getElem?_eq_none (vx I)
    have h2:conc c (env.v d)=undef:=by rw [←U]; simp [Array.getD,I]
    rw [J]
    generalize env.v d=x at h2
    cases x with
    | bool b=>simp [conc,undef] at h2
    | sl i p q cap=>cases cap <;> simp
    | _=>simp
theorem BQ {n:Nat}(he:eZ c env n a){ops:Array Oper}: Region.wanted o (yielded ops a.tmps)=wantedV ops.toList env o :=
 BP fun _ _ d _ _=>he.val d
end ops
theorem Pc (hS:jc C.P self)(hT:gT C){r:Option Nat}{ops:Array Oper}{Q:Exit→Act→World→Prop}: ∀(l:List Oper) (k:Nat) (s s':St) (c:Ctx) (a:Act) (w:World),
  (∀j,l[j]?=ops[k+j]?)→evOps C self ops.toList l s=some s'→Rel c s.h w→eZ c s.env s.ay a →
  (∀c' a' w',Rel c' s'.h w'→eZ c' s'.env s'.ay a'→dD c w c' w'→a'.defers=a.defers→Q .normal a' w') →
  wpOpsIn (Fr r) 0 C.P ops Q (List.range' k l.length) a w:=by
 intro l
 induction l with
 | nil =>
  intro k s s' c a w _ I h he hQ
  simp only [evOps,au] at I
  subst I
  simp only [bY,List.range'_zero,wpOpsIn]
  exact hQ c a w h he (dD.refl c w) rfl
 | cons o l ih =>
  intro k s s' c a w hl I h he hQ
  have h0:ops[k]?=some o:=by simpa using (hl 0).symm
  have xI:∀j,l[j]?=ops[k+1+j]?:=fun j=>by have:=hl (j+1); simpa [gv,s_ 1 j] using this
  simp only [bj,Dq,wpOpsIn,h0]
  rw [BQ he]
  simp only [evOps] at I
  cases hw:wantedV ops.toList s.env o with
  | true =>
   rw [hw,ah] at I
   simp only [bQ]
   cases ho:evOp C self s.env s.h o with
   | none=>simp [ho] at I
   | some r =>
    obtain ⟨v,iA⟩:=r
    simp only [ho] at I
    cases U:s.put o.dst v iA with
    | none=>simp [U] at I
    | some J =>
     simp only [U] at I
     refine (Ah hS hT h (he.JC o) ho).wpIn (nc ho) ?_
     intro c' w' r1 r2 r3
     obtain ⟨p1,p2,p3⟩:=St.BH (he.ext r2.ext) r3 U
     refine ih (k+1) J s' c' _ w' xI I (by rw [p2]; exact r1) p1 ?_
     intro pX yf BR q1 q2 q3 q4
     exact hQ pX yf BR q1 q2 (r2.trans q3) (by rw [q4]; cases o.dst <;> rfl)
  | false =>
   rw [hw,az] at I
   simp only [eN,bK]
   refine ⟨fun _ _=>trivial,?_⟩
   cases U:s.put o.dst cy s.h with
   | none=>simp [U] at I
   | some J =>
    simp only [U] at I
    obtain ⟨p1,p2,p3⟩:=St.BH he (show wf c cy by simp [cy,wf,fN]) U
    rw [pS] at p1
    refine ih (k+1) J s' c _ w xI I (by rw [p2]; exact h) p1 ?_
    intro pX yf BR q1 q2 q3 q4
    exact hQ pX yf BR q1 q2 q3 (by rw [q4]; cases o.dst <;> rfl)
end
end Go.Proofs.YtconhghphklfjaaGreat.Am
