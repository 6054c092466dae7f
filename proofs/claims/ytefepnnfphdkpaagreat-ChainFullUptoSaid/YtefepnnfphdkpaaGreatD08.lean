/- ChainFull: a part of its proof; conditions: its statement's. -/
import Derived.Test.YtefepnnfphdkpaaGreatD07
import Derived.RangeFuncIn
import Derived.RangeFuncRecord
import Derived.RangeFuncCalls
import Derived.OrdersIn
import Derived.LoopNIn
import Derived.Maps.RangeRun
import Derived.Lib.OthersKept
namespace Go.Proofs.YtefepnnfphdkpaaGreat.Am
open Go
def exOf : Ex→Exit
 | .normal=>.normal
 | .exit i=>.exit i
 | .ret=>.ret
def Dl (P:Program)(self:Self): Prop:=∀(code:Code) (s:St) (ex:Ex) (s':St),self code s=some (ex,s') →
 ∀(c:Ctx) (a:Act) (w:World),Rel c s.h w→c7 c s.env s.au a →
  code.wp P (fun e I w'=>e=exOf ex∧I.defers=a.defers∧∃c',Rel c' s'.h w'∧c7 c' s'.env s'.au I∧b7 c w c' w') a w
def Fr (r:Option Nat): Fence:={ fn:=fun _=>True,depth:=none,alive:=false,round:=r }
theorem Dm {r:Option Nat}{n:Nat}{P:Program}{f:FuncId}{args:Array Value}{w:World}{R:Ending→World→Prop}(h:Calls P f args w R): CallsIn (Fr r) n P f args w R :=
 (callsIn_wide (n:=n)).2 h
def iE (P:Program)(self:Self): Prop:=∀(code:Code) (s:St) (ex:Ex) (s':St),self code s=some (ex,s') →
 ∀(r:Option Nat) (c:Ctx) (a:Act) (w:World),Rel c s.h w→c7 c s.env s.au a →
  code.wpIn (Fr r) 0 P (fun e I w'=>e=exOf ex∧I.defers=a.defers∧∃c',Rel c' s'.h w'∧c7 c' s'.env s'.au I∧b7 c w c' w') a w
theorem iE.wide {P:Program}{self:Self}(h:iE P self): Dl P self:=fun code s ex s' hs c a w I he=>wpIn_wide.1 (h code s ex s' hs none c a w I he)
def gw (P:Program)(f:FuncId)(args:List V)(c:Ctx)(w:World)(v:V)(I:H): Prop :=
 Calls P f (args.map (conc c)).toArray w fun e w'=>∃c',e=.returned (conc c' v)∧wf c' v∧Rel c' I w'∧b7 c w c' w'
def Gd (P : Program) (f : Nat) (g : List V → H → Option (V × H)) : Prop :=
 ((∃ fn, P.funcs[f]? = some fn ∧ fn.body.isSome = true ∧ (fn.name == "runtime.NumGoroutine") = false) ∧
  ∀ (args : List V) (σ : H) (v : V) (I : H), g args σ = some (v, I) → ∀ (c : Ctx) (w : World), Rel c σ w → (∀ x ∈ args, wf c x) → gw P f args c w v I) ∨
 ((∃ fn, P.funcs[f]? = some fn ∧ fn.body.isSome = false) ∧
  ∀ (args : List V) (σ : H) (v : V) (I : H), g args σ = some (v, I) → ∀ (c : Ctx) (w : World), Rel c σ w → (∀ x ∈ args, wf c x) →
   ∃ c' w', (callFunc f (args.map (conc c)).toArray).run P w = .ok (.value (conc c' v)) w' ∧ Rel c' I w' ∧ b7 c w c' w' ∧ wf c' v)
def fA (C:b9): Prop:=∀f g,C.told f=some g→Gd C.P f g
section
variable {C:b9} {self:Self} {c:Ctx} {σ:H} {w:World}
theorem qV : ∀(l:List V) (k:Nat) (e:Env) (j:Nat),T.get (bindArgs l k e) j=if k≤j∧j<k+l.length then l[j-k]? else T.get e j:=by
 intro l
 induction l with
 | nil=>intro k e j; simp only [bindArgs,bG]; rw [ai (by omega)]
 | cons v l ih =>
  intro k e j
  simp only [bindArgs,ih,aN,aK]
  by_cases I:j=k
  ·subst I
   rw [ai (by omega),ax rfl,ax (by omega)]
   simp
  ·by_cases J:k+1≤j∧j<k+1+l.length
   ·rw [ax J,ax (by omega)]
    have:j-k=(j-(k+1))+1:=by omega
    rw [this]; simp
   ·rw [ai J,ai I,ai (by omega)]
theorem lB {args:List V}{n:Nat}(hle:args.length≤n)(hw:∀x∈args,wf c x):
  c7 c (bindArgs args 0 .lf) n { tmps:=(args.map (conc c)).toArray++Array.replicate (n-(args.map (conc c)).toArray.size) undef,defers:=[] } where
 size:=by simp; omega
 val:=fun t=>by
  simp only [Env.v,qV,T.iJ,fh,true_and,dA,j7]
  by_cases I:t<args.length
  ·rw [ax I]
   rw [aM I]
   simp [Array.getD,I]
   omega
  ·rw [ai I,nm]
   simp [Array.getD,Array.getElem_append,I]
 uM:=fun t=>by
  simp only [Env.v,qV,T.iJ,fh,true_and,dA,j7]
  by_cases I:t<args.length
  ·rw [ax I,aM I]
   exact hw _ (qq I)
  ·rw [ai I]; simp [bJ,wf,ej]
def resSem (tmps:Array Value): ResultVar→Sem Value
 | .tmp t=>pure (tmps.getD t undef)
 | .cell x t=>do loadVar t (← asAddr (tmps.getD x undef))
theorem HE (fn:Func)(tmps:Array Value): results fn tmps=(do
  let I ← fn.results.mapM (resSem tmps)
  pure (if h:I.size=1 then I[0] else .tuple I)):=by
 unfold results
 exact fo (fun f=>(Array.mapM f fn.results >>= fun I=>(pure (if h:I.size=1 then I[0] else .tuple I):Sem Value))) (funext fun r=>by cases r <;> rfl)
theorem O9 {s:St}{a:Act}(h:Rel c s.h w)(he:c7 c s.env s.au a){P:Program}{r:ResultVar}{v:V}(I:resV P s r=some v):
  (resSem a.tmps r).run P w=.ok (conc c v) w∧wf c v:=by
 cases r with
 | tmp t =>
  simp only [resV,aj] at I
  subst I
  exact ⟨by simp only [resSem,Sem.run_pure,he.val t],he.uM t⟩
 | cell x t =>
  simp only [resV] at I
  obtain ⟨J,h2⟩:=Db h I
  refine ⟨?_,h2⟩
  simp only [resSem]
  rw [he.val x]
  unfold loadV at I
  split at I
  ·rename_i id off hx
   rw [hx] at J ⊢
   simpa [Instr.loadAt,Instr.sureAddr,asAddr,conc] using J
  ·simp at I
theorem ug {s:St}{a:Act}(h:Rel c s.h w)(he:c7 c s.env s.au a){P:Program}{fn:Func}{I:List V}(hr:mapO (resV P s) fn.results.toList=some I):
  (results fn a.tmps).run P w=.ok (if h:(I.map (conc c)).toArray.size=1 then (I.map (conc c)).toArray[0] else .tuple (I.map (conc c)).toArray) w∧∀v∈I,wf c v:=by
 have key:∀(l:List ResultVar) (I:List V),mapO (resV P s) l=some I →
   (l.mapM (resSem a.tmps)).run P w=.ok (I.map (conc c)) w∧∀v∈I,wf c v:=by
  intro l
  induction l with
  | nil=>intro I h; simp [mapO] at h; subst h; simp
  | cons r l ih =>
   intro I J
   simp only [mapO] at J
   cases h1:resV P s r with
   | none=>simp [h1] at J
   | some v =>
    cases h2:mapO (resV P s) l with
    | none=>simp [h1,h2] at J
    | some m =>
     simp [h1,h2] at J
     subst J
     obtain ⟨r1,r2⟩:=O9 h he h1
     obtain ⟨i1,i2⟩:=ih m h2
     refine ⟨?_,fun x hx => ?_⟩
     ·rw [List.mapM_cons,Sem.run_bind,r1]
      simp only [Result.andThen_ok,Sem.run_bind,i1,Sem.run_pure,cu]
     ·rcases List.mem_cons.1 hx with rfl | hx
      ·exact r2
      ·exact i2 x hx
 obtain ⟨k1,k2⟩:=key _ _ hr
 refine ⟨?_,k2⟩
 rw [HE,F7]
 simp only [Sem.run_bind,Sem.run_map,k1,Result.andThen_ok,Sem.run_pure]
theorem ou (hS : Dl C.P self) (hT : fA C) {f : FuncId} {args : List V} {v : V} {dU : H} (I : callF C self f args σ = some (v, dU)) (h : Rel c σ w) (hw : ∀ x ∈ args, wf c x) :
  gw C.P f args c w v dU ∧ ∀ (x : Array Value) (w : World), (callFunc f x).run C.P w = .ok (.enter f x) w := by
 unfold callF at I
 split at I
 ·rename_i g hg
  cases J : jA C.P f with
  | false => rw [J] at I; cases I
  | true =>
  rw [J, af] at I
  rcases hT f g hg with ⟨⟨fn, t1, t2, t3⟩, t4⟩ | ⟨⟨fn, t1, t2⟩, _⟩
  rotate_left
  ·unfold jA at J
   rw [t1] at J
   simp only at J
   rw [t2] at J
   cases J
  refine ⟨t4 args σ v dU I c w h hw, fun x w => ?_⟩
  have : fn.body.isNone = false := by
   cases hb : fn.body with
   | none => rw [hb] at t2; cases t2
   | some b => rfl
  simp only [callFunc, Sem.run_bind, run_program, Result.andThen_ok, t1, t3, dV, bF, this, Sem.run_pure]
 ·cases hf : C.P.funcs[f]? with
  | none => simp [hf] at I
  | some fn =>
   simp only [hf] at I
   cases hb : fn.body with
   | none => simp [hb] at I
   | some code =>
    simp only [hb] at I
    cases hq : (fn.name == "runtime.NumGoroutine" || Nat.blt fn.ntmps args.length) with
    | true => simp [hq] at I
    | false =>
     simp only [hq, ay] at I
     simp only [Bool.or_eq_false_iff] at hq
     have hle : args.length ≤ fn.ntmps := by
      rcases iD fn.ntmps args.length with h' | h'
      ·rw [fK.2 h'] at hq; cases hq.2
      ·exact h'
     refine ⟨?_, fun x w => by simp only [callFunc, Sem.run_bind, run_program, Result.andThen_ok, hf, hq.1, dV, bF, hb, Option.isNone_some, Sem.run_pure]⟩
     have nu := lB (c := c) hle hw
     have done : ∀ ex s, self code ⟨bindArgs args 0 .lf, fn.ntmps, σ⟩ = some (ex, s) → (ex = .normal ∨ ex = .ret) →
       (match mapO (resV C.P s) fn.results.toList with
        | some [v] => some (v, s.h)
        | some vs => some (.aX vs, s.h)
        | none => none) = some (v, dU) → gw C.P f args c w v dU := by
      intro ex s hs hex hm
      have QZ := hS code _ ex s hs c _ w h nu
      refine calls_of_wp hf hb (wp_mono QZ ?_)
      rintro e a' w' ⟨rfl, hd, c', r1, r2, r3⟩
      have rS : a'.defers = [] ∧ ∃ x, (results fn a'.tmps).run C.P w' = .ok x w' ∧ ∃ pM, Ending.returned x = .returned (conc pM v) ∧ wf pM v ∧ Rel pM dU w' ∧ b7 c w pM w' := by
       refine ⟨hd, ?_⟩
       cases qW : mapO (resV C.P s) fn.results.toList with
       | none => simp [qW] at hm
       | some vs =>
        obtain ⟨q1, q2⟩ := ug r1 r2 qW
        refine ⟨_, q1, c', ?_⟩
        rw [qW] at hm
        rcases vs with _ | ⟨v0, _ | ⟨v1, vs⟩⟩
        ·simp only [aj, aC] at hm
         obtain ⟨rfl, rfl⟩ := hm
         exact ⟨by simp [conc, concL], by simp [wf, ej], r1, r3⟩
        ·simp only [aj, aC] at hm
         obtain ⟨rfl, rfl⟩ := hm
         exact ⟨by simp, q2 v0 (by simp), r1, r3⟩
        ·simp only [aj, aC] at hm
         obtain ⟨rfl, rfl⟩ := hm
         exact ⟨by simp [conc, eM], by simp only [wf, eU]; exact q2, r1, r3⟩
      rcases hex with rfl | rfl
      ·simpa [bodyPost, exOf] using rS
      ·simpa [bodyPost, exOf] using rS
     split at I
     ·rename_i s hs
      exact done .normal s hs (.inl rfl) I
     ·rename_i s hs
      exact done .ret s hs (.inr rfl) I
     ·simp at I
section ops
variable {env:Env} {a:Act} {K:Act→World→Prop} {Q:Exit→Act→World→Prop} {o:Oper}
def zG (c:Ctx)(env:Env)(a:Act)(o:Oper): Prop:=∀x∈o.op.operands,∀v,evO env x=some v→a.eval x=conc c v∧wf c v
theorem c7.Ge {n:Nat}(he:c7 c env n a)(o:Oper): zG c env a o:=fun _ _ _ h=>vc he h
def vq (P:Program)(o:Oper)(a:Act)(c:Ctx)(w:World)(v:V)(I:H): Prop :=
 (∃c' w',((execOp a.eval o).run P w=.ok (.value (conc c' v)) w'∨((execOp a.eval o).run P w=.ok .skip w'∧conc c' v=undef))∧Rel c' I w'∧b7 c w c' w'∧wf c' v) ∨
 (∃f args,(execOp a.eval o).run P w=.ok (.enter f args) w∧Calls P f args w fun e w'=>∃c',e=.returned (conc c' v)∧wf c' v∧Rel c' I w'∧b7 c w c' w') ∨
 (∃l fn tmps assign body,(execOp a.eval o).run P w=.ok (.round l fn tmps assign body) w∧RoundIn (Fr none) 0 P l fn tmps assign body w fun e w'=>∃c',e=.returned (conc c' v)∧wf c' v∧Rel c' I w'∧b7 c w c' w')
theorem dX {v:V}{I:H}{s:Sem Value}(he:(execOp a.eval o)=(do pure (.value (← s))))(J:fM C.P s c w v I): vq C.P o a c w v I:=by
 obtain ⟨w',c',h1,h2,h3,h4⟩:=J
 refine .inl ⟨c',w',.inl ?_,h3,h4,h2⟩
 rw [he]
 simp only [Sem.run_bind,h1,Result.andThen_ok,Sem.run_pure]
theorem w9 {I:H}{s:Sem Unit}(he:(execOp a.eval o)=(do s; pure .skip))(J:LU C.P s c w I): vq C.P o a c w bJ I:=by
 obtain ⟨w',c',h1,h3,h4⟩:=J
 refine .inl ⟨c',w',.inr ⟨?_,nm c'⟩,h3,h4,by simp [bJ,wf,ej]⟩
 rw [he]
 simp only [Sem.run_bind,h1,Result.andThen_ok,Sem.run_pure]
theorem Gf {f:FuncId}{args:List V}{v:V}{I:H}(he:(execOp a.eval o).run C.P w=.ok (.enter f (args.map (conc c)).toArray) w)(J:gw C.P f args c w v I): vq C.P o a c w v I :=
 .inr (.inl ⟨f,_,he,J⟩)
theorem vq.wpIn {P:Program}{v:V}{dU:H}(h:vq P o a c w v dU)(jU:∀d,o.op≠.defer d){r:Option Nat}
 (hK:∀c' w',Rel c' dU w'→b7 c w c' w'→wf c' v→K (a.put o.dst (conc c' v)) w'): o.wpIn (Fr r) 0 P a w K Q:=by
 refine ⟨fun _ _=>trivial,?_⟩
 rw [Oper.semAt_eq _ _ _ jU]
 rcases h with ⟨c',w',I,J,h3,h4⟩ | ⟨f,args,I,J⟩ | ⟨l,fn,tmps,assign,body,I,J⟩
 ·rcases I with I | ⟨I,h5⟩
  ·rw [I]; exact hK c' w' J h3 h4
  ·rw [I]; have:=hK c' w' J h3 h4; rw [h5] at this; exact this
 ·rw [I]
  refine ⟨fun hd=>(by cases hd),Dm (Calls.mono J ?_)⟩
  rintro e w' ⟨c',rfl,q1,q2,q3⟩
  exact hK c' w' q2 q3 q1
 ·rw [I]
  refine ⟨fun hd=>(by cases hd),RoundIn.mono J ?_⟩
  rintro e w' ⟨c',rfl,q1,q2,q3⟩
  exact hK c' w' q2 q3 q1
theorem HF {b:Builtin}{ts:Array TypeId}{ty:TypeId}{cs:Array Bool}{args:List V}{v:V}{dU:H}(h:Rel c σ w)(I:builtinV C.P σ b ts args=some (v,dU))(hw:∀x∈args,wf c x):
  ∃s,builtin b ts ty cs (args.map (conc c)).toArray=(do pure (.value (← s)))∧fM C.P s c w v dU:=by
 unfold builtinV at I
 split at I
 ·rename_i x
  split at I
  ·rename_i t l lu
   cases J:lenV C.P σ t x with
   | none=>simp [J] at I
   | some u =>
    simp [J] at I
    obtain ⟨rfl,rfl⟩:=I
    have h0:ts[0]?=some t:=by rw [←iA,lu]; rfl
    exact ⟨_,rfl,fM.same h (O5 h J ts h0 ty)⟩
  ·simp at I
 ·rename_i s x
  exact ⟨_,rfl,Fq h I (hw s (by simp)) (hw x (by simp))⟩
 ·rename_i d s
  split at I
  ·rename_i t l lu
   have h0:ts[0]?=some t:=by rw [←iA,lu]; rfl
   exact ⟨_,rfl,Jt h h0 I (hw d (by simp)) (hw s (by simp))⟩
  ·simp at I
 ·rename_i x
  split at I
  ·rename_i t l lu
   have h0:ts[0]?=some t:=by rw [←iA,lu]; rfl
   cases J:clearV C.P σ t x with
   | none=>simp [J] at I
   | some u =>
    simp [J] at I
    obtain ⟨rfl,rfl⟩:=I
    obtain ⟨w',c',e1,e2,e3⟩:=HD (P:=C.P) (ty:=ty) h h0 J (hw x (by simp))
    exact ⟨_,rfl,w',c',by simpa [conc,concL] using e1,by simp [wf,ej],e2,e3⟩
  ·simp at I
 ·rename_i m k
  split at I
  ·rename_i t l lu
   have h0:ts[0]?=some t:=by rw [←iA,lu]; rfl
   cases J:m0 C.P σ t m k with
   | none=>simp [J] at I
   | some u =>
    simp [J] at I
    obtain ⟨rfl,rfl⟩:=I
    obtain ⟨w',c',e1,e2,e3⟩:=Fp (P:=C.P) (ty:=ty) h J (hw k (by simp)) ts h0
    exact ⟨_,rfl,w',c',by simpa [conc,concL] using e1,by simp [wf,ej],e2,e3⟩
  ·simp at I
 ·rename_i x l
  cases J:foldV maxV x l with
  | none=>simp [J] at I
  | some u =>
   simp [J] at I
   obtain ⟨rfl,rfl⟩:=I
   obtain ⟨e1,e2⟩:=Di (P:=C.P) (c:=c) (w:=w) maxV Builtin.max2 (fun x y v hv=>O6 hv w) l x u J (hw x (by simp))
   refine ⟨_,rfl,fM.same h ⟨?_,e2⟩⟩
   simpa [Builtin.max_] using e1
 ·rename_i x l
  cases J:foldV yw x l with
  | none=>simp [J] at I
  | some u =>
   simp [J] at I
   obtain ⟨rfl,rfl⟩:=I
   obtain ⟨e1,e2⟩:=Di (P:=C.P) (c:=c) (w:=w) yw Builtin.min2 (fun x y v hv=>O7 hv w) l x u J (hw x (by simp))
   refine ⟨_,rfl,fM.same h ⟨?_,e2⟩⟩
   simpa [Builtin.min_] using e1
 ·simp at I
theorem LX {t:TypeId}{name:String}{f:FuncId}(h:methV C.P t name=some f)(d:Nat)(v:Value)(w:World): (method (d+1) t v name).run C.P w=.ok (f,v) w:=by
 unfold methV at h
 generalize ht:C.P.underlying t=dt at h
 split at h
 ·rename_i e
  cases hi:C.P.info? t with
  | none=>simp [hi] at h
  | some i =>
   simp only [hi,bW] at h
   cases hm:i.methods.find? (fun m=>m.name == name) with
   | none=>simp [hm] at h
   | some m =>
    simp only [hm] at h
    split at h
    ·rename_i g J I
     simp only [aj] at h
     subst h
     simp [method,typeInfo,hi,hm,J,I,follow,receiverAt,run_underlying ht,Place.get]
    ·simp at h
 ·rename_i fs
  cases hi:C.P.info? t with
  | none=>simp [hi] at h
  | some i =>
   simp only [hi,bW] at h
   cases hm:i.methods.find? (fun m=>m.name == name) with
   | none=>simp [hm] at h
   | some m =>
    simp only [hm] at h
    split at h
    ·rename_i g J I
     simp only [aj] at h
     subst h
     simp [method,typeInfo,hi,hm,J,I,follow,receiverAt,run_underlying ht,Place.get]
    ·simp at h
 ·simp at h
theorem Ju {n:Nat}: ∀(ps:List Nat) (args:List V) (e e':Env) (tmps:Array Value),bindPs n ps args e=some e'→tmps.size=n→(∀t,tmps.getD t undef=conc c (Env.v e t))→(∀t,wf c (Env.v e t))→(∀x∈args,wf c x) →
  args.length=ps.length∧c7 c e' n { tmps:=(ps.zip (args.map (conc c))).foldl (fun tmps (t,a)=>tmps.setIfInBounds t a) tmps,defers:=[] }:=by
 intro ps
 induction ps with
 | nil =>
  intro args e e' tmps I hs hv hw ha
  cases args with
  | nil=>simp only [bindPs,aj] at I; subst I; exact ⟨rfl,hs,hv,hw⟩
  | cons _ _=>simp [bindPs] at I
 | cons p ps ih =>
  intro args e e' tmps I hs hv hw ha
  cases args with
  | nil=>simp [bindPs] at I
  | cons x args =>
   simp only [bindPs] at I
   cases hp:Nat.blt p n with
   | false=>rw [hp] at I; cases I
   | true =>
    rw [hp,af] at I
    have uQ:=fK.1 hp
    obtain ⟨q1,q2⟩:=ih args (e.set p (some x)) e' (tmps.setIfInBounds p (conc c x)) I (by simp [hs]) (fun t=>by
     simp only [Env.v,aK]
     by_cases J:t=p
     ·subst J
      rw [ax rfl]
      simp [j3,hs,uQ]
     ·rw [ai J]
      have:=hv t
      simp only [Env.v] at this
      rw [←this]
      simp [j3,wI (ja J)]) (fun t=>by
     simp only [Env.v,aK]
     by_cases J:t=p
     ·rw [ax J]; exact ha x ct
     ·rw [ai J]; exact hw t) (fun y hy=>ha y (cr _ hy))
    exact ⟨by simp [q1],q2⟩
theorem LY (hS:iE C.P self){id:Nat}{args:List V}{v:V}{dU:H}(I:roundV self id args σ=some (v,dU))(h:Rel c σ w)(hw:∀x∈args,wf c x):
  ∃l fn tmps assign body,(Instr.yield (c.ρ id).1 (args.map (conc c)).toArray).run C.P w=.ok (.round l fn tmps assign body) w ∧
   RoundIn (Fr none) 0 C.P l fn tmps assign body w fun e w'=>∃c',e=.returned (conc c' v)∧wf c' v∧Rel c' dU w'∧b7 c w c' w':=by
 unfold roundV at I
 split at I
 ·rename_i au env ps as bd hg
  obtain ⟨fn,tmps,D,hb,eA,LZ,hG⟩:=h.obj id _ hg
  split at I
  ·cases I
  ·rename_i e he
   obtain ⟨q1,q2⟩:=Ju ps args env e tmps he eA LZ hG hw
   split at I
   ·rename_i HG Q0
    split at I
    ·rename_i Vv VA QA QB QC J
     split at I
     ·rename_i QD Q1
      split at I
      ·rename_i WT QE Uf Ug Uh Um
       simp only [aj,aC] at I
       obtain ⟨rfl,rfl⟩:=I
       have W_:=run_yield (P:=C.P) (args:=(args.map (conc c)).toArray) hb (by simp [q1])
       refine ⟨_,_,_,_,_,W_,roundIn_of_wpIn aa (wpIn_mono (hS as _ .normal HG Q0 (some (c.ρ id).1) c _ w h (by simpa using q2)) ?_)⟩
       rintro ex Dn u6 ⟨rfl,Un,c₁,Q2,Q3,kz⟩
       have uP:id<c.N:=h.live id _ hg
       have VB:id<c₁.N:=Q2.live id _ J
       have Xa:c₁.ρ id=c.ρ id:=kz.ext.ρ id uP
       obtain ⟨ZP,Zh,aad,Uo,Xb⟩:=Q2.obj id _ J
       rw [←Xa]
       refine ⟨_,run_beginRound Uo rfl,?_⟩
       obtain ⟨Xc,VC⟩:=Q2.F_ (rN:=true) J Uo Xb
       refine wpIn_mono (hS bd _ .normal QD Q1 (some (c₁.ρ id).1) c₁ Dn _ Xc Q3) ?_
       rintro ex CS VD ⟨rfl,Up,c₂,O_,Jv,Jw⟩
       obtain ⟨ZQ,Zi,aae,Uq,Xd⟩:=O_.obj id _ Um
       have Xe:c₂.ρ id=c₁.ρ id:=Jw.ext.ρ id VB
       obtain ⟨Xf,VE⟩:=O_.F_ (rN:=false) Um Uq Xd
       rw [←Xe]
       refine ⟨_,_,run_endRound none Uq,c₂,by simp [conc],by simp [wf],Xf,(kz.trans VC).trans (Jw.trans VE)⟩
      ·cases I
     ·cases I
    ·cases I
   ·cases I
 ·cases I
theorem Jx : ∀(l:List Nat) (k:Nat),inL l k=l.contains k:=by
 intro l
 induction l with
 | nil=>intro k; rfl
 | cons x l I =>
  intro k
  simp only [inL,I,List.contains_cons]
  by_cases h:x=k
  ·subst h; simp [gT rfl]
  ·have:¬ k=x:=fun e=>h e.symm
   simp [cV h,this]
theorem L0 (seen:List Nat): ∀(es:List (V×V×Nat)),(leftV seen es).map (bN c)=(es.map (bN c)).filter (fun e => !seen.toArray.contains e.born):=by
 intro es
 induction es with
 | nil=>rfl
 | cons e es I =>
  simp only [leftV,cu,List.filter_cons]
  rw [Jx]
  have J:(bN c e).born=e.2.2:=rfl
  rw [J]
  have hc:seen.toArray.contains e.2.2=seen.contains e.2.2:=by simp
  rw [hc]
  cases seen.contains e.2.2 with
  | true=>simp [I]
  | false=>simp [I]
theorem Jy {since:Nat}: ∀(es:List (V×V×Nat)),va since es=true→∀e∈es,e.2.2<since:=by
 intro es
 induction es with
 | nil=>intro _ e he; cases he
 | cons x es J =>
  intro h e he
  simp only [va] at h
  cases I:Nat.blt x.2.2 since with
  | false=>rw [I] at h; cases h
  | true =>
   rw [I,af] at h
   rcases List.mem_cons.1 he with rfl | he
   ·exact fK.1 I
   ·exact J h e he
theorem Fs : ∀(es:List (V×V×Nat)) (b:Nat),bornRise b es=true→(∀e∈es,b≤e.2.2)∧(es.map (·.2.2)).Pairwise (· < ·):=by
 intro es
 induction es with
 | nil=>intro b _; exact ⟨fun e he=>(lV he).elim,List.Pairwise.nil⟩
 | cons x es J =>
  intro b h
  simp only [bornRise] at h
  cases I:Nat.ble b x.2.2 with
  | false=>rw [I] at h; cases h
  | true =>
   rw [I,af] at h
   have hb:=aE.1 I
   obtain ⟨i1,i2⟩:=J _ h
   refine ⟨fun e he => ?_,?_⟩
   ·rcases List.mem_cons.1 he with rfl | he
    ·exact hb
    ·have:=i1 e he; omega
   ·simp only [cu,n_]
    refine ⟨fun y hy => ?_,i2⟩
    obtain ⟨e,he,rfl⟩:=List.mem_map.1 hy
    have:=i1 e he
    omega
theorem L1 : ∀(l:List Nat) (b:Nat),lastN l=some b→∃i,l=i++[b]:=by
 intro l
 induction l with
 | nil=>intro b h; cases h
 | cons x l I =>
  intro b h
  cases l with
  | nil=>simp only [lastN,aj] at h; subst h; exact ⟨[],rfl⟩
  | cons y l =>
   obtain ⟨i,hi⟩:=I b h
   exact ⟨x::i,by rw [hi]; rfl⟩
theorem HH {b:Nat}: ∀(es:List (V×V×Nat)) (e:V×V×Nat),wZ b es=some e→e∈es∧e.2.2=b:=by
 intro es
 induction es with
 | nil=>intro e h; cases h
 | cons x es J =>
  intro e h
  simp only [wZ] at h
  cases I:Nat.beq x.2.2 b with
  | true=>rw [I,af] at h; simp only [aj] at h; subst h; exact ⟨ct,beq_iff.1 I⟩
  | false =>
   rw [I,ay] at h
   obtain ⟨h1,h2⟩:=J e h
   exact ⟨cr _ h1,h2⟩
theorem HI {P:Program}{t:TypeId}{x v:V}{J:H}(h:Rel c σ w)(I:rangeV P σ t x=some (v,J))(hx:wf c x): fM P (Instr.range t (conc c x)) c w v J:=by
 unfold rangeV at I
 generalize ht:P.underlying t=dt at I
 split at I
 ·rename_i kt et id
  split at I
  ·rename_i es clock hg
   simp only [aj,aC] at I
   obtain ⟨rfl,rfl⟩:=I
   obtain ⟨_,hb⟩:=h.obj id _ hg
   have uP:=h.live id _ hg
   have g:=h.new (.iter id clock clock []) (.mapIter (some (c.ρ id).1) clock #[] clock) 0 rfl ⟨by rw [jG]; omega,by rw [aT],by
    rw [aT,cH c _ _ _ uP]
    rw [fE]; simp⟩
   refine ⟨_,_,?_,?_,g.1,g.2⟩
   ·simp only [Instr.range,Sem.run_bind,run_underlying ht,Result.andThen_ok,conc,iQ hb (by simp),Sem.run_pure,run_newObj_alloc,h.next,aT]
   ·simp [wf,h.next,jG]
  ·cases I
 ·rename_i l
  simp only [aj,aC] at I
  obtain ⟨rfl,rfl⟩:=I
  have g:=h.new (.jb l 0) (.stringIter ⟨(l.map UInt8.ofNat).toArray⟩ 0) 0 rfl ⟨by simpa [wf] using hx,by rw [aT],by rw [aT,fE]; simp⟩
  refine ⟨_,_,?_,?_,g.1,g.2⟩
  ·simp only [Instr.range,Sem.run_bind,run_underlying ht,Result.andThen_ok,conc,Sem.run_pure,run_newObj_alloc,h.next,aT]
  ·simp [wf,h.next,jG]
 ·cases I
theorem Jz {P:Program}{x v:V}{dU:H}(h:Rel c σ w)(I:nextS σ x=some (v,dU))(ty:TypeId): fM P (Instr.next (conc c x) true ty) c w v dU:=by
 unfold nextS at I
 split at I
 ·rename_i r off
  cases hq:Nat.beq off 0 with
  | false=>rw [hq] at I; cases I
  | true =>
   rw [hq,af] at I
   have:=beq_iff.1 hq
   subst this
   split at I
   ·rename_i l pos hg
    obtain ⟨hl,hz,hb⟩:=h.obj r _ hg
    have JA:conc c (.ptr r 0)=.pointer (some ⟨(c.ρ r).1,0,none⟩):=by simp [conc,hz]
    rw [JA]
    rw [eW] at I
    split at I
    ·rename_i hn
     simp only [aj,aC] at I
     obtain ⟨rfl,rfl⟩:=I
     have hp:¬ pos<(⟨(l.map UInt8.ofNat).toArray⟩:ByteArray).size:=by
      have:=List.getElem?_eq_none_iff.1 hn
      simp [ByteArray.size]; omega
     exact ⟨w,c,by rw [Lib.run_next_end_at w _ _ _ ty hb hp]; simp [conc,concL],by simp [wf,ej],h,b7.refl c w⟩
    ·rename_i b hn
     cases J:Nat.blt b 128 with
     | false=>rw [J] at I; cases I
     | true =>
      rw [J,af] at I
      simp only [aj,aC] at I
      obtain ⟨rfl,rfl⟩:=I
      have JB:=fK.1 J
      obtain ⟨ny,he⟩:=List.getElem?_eq_some_iff.1 hn
      have hp:pos<(⟨(l.map UInt8.ofNat).toArray⟩:ByteArray).size:=by simpa [ByteArray.size] using ny
      have hv:((⟨(l.map UInt8.ofNat).toArray⟩:ByteArray)[pos]'hp).toNat=b:=by
       have:(⟨(l.map UInt8.ofNat).toArray⟩:ByteArray)[pos]'hp=UInt8.ofNat b:=by
        show ((l.map UInt8.ofNat).toArray)[pos]'(by simpa using ny)=_
        simp [he]
       rw [this,qn]
       omega
      obtain ⟨r1,s1⟩:=h.QO (pos':=pos+1) hg
      refine ⟨_,c,?_,by simp [wf,ej],r1,s1⟩
      rw [Lib.run_next_ascii_at w _ _ _ ty hb hp (by rw [hv]; exact JB),hv]
      simp only [conc,concL]
      rfl
   ·cases I
 ·cases I
theorem Ft {P:Program}{r:Nat}{L:List (V×H)}(h:Rel c σ w)(I:nextAll σ r=some L)(ty:TypeId):
  ∃q∈L,fM P (Instr.next (conc c (.ptr r 0)) false ty) c w q.1 q.2:=by
 unfold nextAll at I
 split at I
 ·rename_i iU since last seen hg
  split at I
  ·rename_i es clock hm
   obtain ⟨Dc,hz,hb⟩:=h.obj r _ hg
   obtain ⟨hw,Q4⟩:=h.obj iU _ hm
   cases hq:(va since es&&Nat.ble since last) with
   | false=>rw [hq] at I; cases I
   | true =>
    rw [hq,af] at I
    simp only [aH,aE] at hq
    have hold:=Jy es hq.1
    have JA:conc c (.ptr r 0)=.pointer (some ⟨(c.ρ r).1,0,none⟩):=by simp [conc,hz]
    rw [JA]
    have hL:(leftOf (es.map (bN c)).toArray seen.toArray).toList=(leftV seen es).map (bN c):=by
     rw [L0]
     simp [leftOf]
    rcases run_next_at (P:=P) w ty (c.ρ r).1 (c.ρ iU).1 since last seen.toArray (es.map (bN c)).toArray clock hb Q4 (fun x hx=>by
     simp only [lW] at hx
     obtain ⟨e,he,rfl⟩:=hx
     exact hold e he) hq.2 with ⟨h0,J⟩ | ⟨e,he,w1,Dp,J⟩
    ·have yz:leftV seen es=[]:=by
      have:((leftV seen es).map (bN c)).length=0:=by rw [←hL]; simpa using h0
      simpa using this
     rw [yz] at I
     simp only [aj] at I
     subst I
     exact ⟨_,List.mem_singleton.2 rfl,w,c,by rw [J]; simp [conc,concL],by simp [wf,ej],h,b7.refl c w⟩
    ·rw [hL] at he
     obtain ⟨e0,xZ,rfl⟩:=List.mem_map.1 he
     have HJ:L=(leftV seen es).map fun e=>(.aX [.bool true,e.1,e.2.1],σ.put r (some (.iter iU since clock (seen++[e.2.2])))):=by
      cases hl:leftV seen es with
      | nil=>rw [hl] at xZ; cases xZ
      | cons y l=>rw [hl] at I; simp only [aj] at I; exact I.symm
     have sx:e0∈es:=by
      have:∀(es:List (V×V×Nat)),e0∈leftV seen es→e0∈es:=by
       intro es
       induction es with
       | nil=>intro h; cases h
       | cons y es ih =>
        intro h
        simp only [leftV] at h
        cases hy:inL seen y.2.2 with
        | true=>rw [hy,af] at h; exact cr _ (ih h)
        | false =>
         rw [hy,ay] at h
         rcases List.mem_cons.1 h with rfl | h
         ·exact ct
         ·exact cr _ (ih h)
      exact this es xZ
     refine ⟨_,by rw [HJ]; exact List.mem_map.2 ⟨e0,xZ,rfl⟩,?_⟩
     have pG:Rel c σ w1∧b7 c w c w1:=by
      rcases Dp with rfl | rfl
      ·exact ⟨h,b7.refl c _⟩
      ·exact ⟨h.drew,b7.drew c w⟩
     obtain ⟨r1,s1⟩:=pG.1.setIter (last':=clock) (seen':=seen++[e0.2.2]) hg
     refine ⟨_,c,?_,by simp only [wf,ej,and_true,true_and]; exact hw e0 sx,r1,pG.2.trans s1⟩
     rw [J]
     have:(seen++[e0.2.2]).toArray=seen.toArray.push e0.2.2:=by simp
     simp only [conc,concL,bN,this]
     rfl
  ·cases I
 ·cases I
theorem JC {P:Program}{x v:V}{J:H}(h:Rel c σ w)(I:nextV σ x=some (v,J))(ty:TypeId): fM P (Instr.next (conc c x) false ty) c w v J:=by
 unfold nextV at I
 split at I
 ·rename_i r off
  cases hq:Nat.beq off 0 with
  | false=>rw [hq] at I; cases I
  | true =>
   rw [hq,af] at I
   have:=beq_iff.1 hq
   subst this
   split at I
   ·rename_i q hn
    simp only [aj] at I
    subst I
    obtain ⟨q',mu,hg⟩:=Ft (P:=P) h hn ty
    rw [List.mem_singleton.1 mu] at hg
    exact hg
   ·cases I
 ·cases I
theorem JD {P:Program}{x v:V}(h:Rel c σ w)(I:y5 σ x=some v): (Instr.entry (conc c x)).run P w=.ok (conc c v) w∧wf c v:=by
 unfold y5 at I
 split at I
 ·rename_i r off
  cases hq:Nat.beq off 0 with
  | false=>rw [hq] at I; cases I
  | true =>
   rw [hq,af] at I
   have:=beq_iff.1 hq
   subst this
   split at I
   ·rename_i iU since last seen hg
    split at I
    ·rename_i es clock hm
     obtain ⟨Dc,hz,hb⟩:=h.obj r _ hg
     obtain ⟨hw,Q4⟩:=h.obj iU _ hm
     cases J:(Nat.beq clock last&&bornRise 0 es) with
     | false=>rw [J] at I; cases I
     | true =>
      rw [J,af] at I
      simp only [aH,beq_iff] at J
      obtain ⟨rfl,Tg⟩:=J
      split at I
      ·rename_i b rR
       split at I
       ·rename_i e he
        simp only [aj] at I
        subst I
        obtain ⟨i,rfl⟩:=L1 seen b rR
        obtain ⟨h1,rfl⟩:=HH es e he
        have JA:conc c (.ptr r 0)=.pointer (some ⟨(c.ρ r).1,0,none⟩):=by simp [conc,hz]
        rw [JA]
        have m5:w.heap[(c.ρ r).1]?=some (.mapIter (some (c.ρ iU).1) since (i.toArray.push (bN c e).born) clock):=by
         rw [hb]; simp [bN]
        have jU:((es.map (bN c)).toArray.toList.map (·.born)).Nodup:=by
         have:=(Fs es 0 Tg).2
         have e1:(es.map (bN c)).toArray.toList.map (·.born)=es.map (·.2.2):=by simp [bN,sR]
         rw [e1]
         exact this.imp fun {a b} mh=>by omega
        refine ⟨?_,by simp only [wf,ej,and_true]; exact hw e h1⟩
        rw [run_entry_at (P:=P) w (c.ρ r).1 (c.ρ iU).1 since i.toArray (es.map (bN c)).toArray clock (bN c e) m5 Q4 (by simpa using ⟨_,_,_,h1,rfl⟩) jU]
        simp [conc,concL,bN]
       ·cases I
      ·cases I
    ·cases I
   ·cases I
 ·cases I
theorem JE (hS:iE C.P self)(hT:fA C){cl:Call}{v:V}{dU:H}(ho:o.op=.call cl)(h:Rel c σ w)(he:zG c env a o)(J:evCall C self env σ cl=some (v,dU)):
  vq C.P o a c w v dU:=by
 unfold evCall at J
 cases ha:evArgs env cl.args.toList with
 | none=>simp [ha] at J
 | some args =>
  simp only [ha] at J
  obtain ⟨g1,g2⟩:=vh (a:=a) (c:=c) _ _ (fun x hx=>he x (by simp only [ho,Op.operands,Call.operands,Ba]; exact .inr (by simpa using hx))) ha
  have I:cl.args.map a.eval=(args.map (conc c)).toArray:=by
   apply gN
   simpa using g1
  split at J
  ·rename_i b hb
   obtain ⟨s,e1,e2⟩:=HF (C:=C) (ty:=o.type) (cs:=cl.args.map fun | .const _=>true | _=>false) h J g2
   refine dX (s:=s) ?_ e2
   simp only [execOp,ho,resolve,hb,pure_bind,invoke,I]
   exact e1
  ·rename_i f hf
   cases hv:evO env f with
   | none=>simp [hv] at J
   | some fv =>
    simp only [hv] at J
    obtain ⟨f1,f2⟩:=he f (by simp [ho,Op.operands,Call.operands,hf]) _ hv
    unfold callV at J
    split at J
    ·rename_i k first captured
     have fw:(∀x∈first,wf c x)∧(∀x∈captured,wf c x):=by
      have:ej c first∧ej c captured:=by simpa [wf] using f2
      exact ⟨eU.1 this.1,eU.1 this.2⟩
     have lC:∀x∈first++(args++captured),wf c x:=by
      intro x hx
      rcases List.mem_append.1 hx with hx | hx
      ·exact fw.1 x hx
      ·rcases List.mem_append.1 hx with hx | hx
       ·exact g2 x hx
       ·exact fw.2 x hx
     cases vr:jA C.P k with
     | false =>
      rw [vr,ay] at J
      split at J
      ·rename_i g hg
       rcases hT k g hg with ⟨⟨fn,t1,t2,_⟩,_⟩ | ⟨_,t4⟩
       ·unfold jA at vr
        rw [t1] at vr
        simp only at vr
        rw [t2] at vr
        cases vr
       ·obtain ⟨c',w',u1,u2,u3,u4⟩:=t4 _ σ v dU J c w h lC
        refine .inl ⟨c',w',.inl ?_,u2,u3,u4⟩
        simp only [execOp,ho,resolve,hf,I,f1,conc,eM,Deferred.ofValue,pure_bind,invoke]
        rw [show (first.map (conc c)).toArray++(args.map (conc c)).toArray++(captured.map (conc c)).toArray=((first++(args++captured)).map (conc c)).toArray from by
         apply gN; simp]
        exact u1
      ·cases J
     | true =>
     rw [vr,af] at J
     obtain ⟨q1,q2⟩:=ou hS.wide hT J h lC
     refine Gf ?_ q1
     simp only [execOp,ho,resolve,hf,I,f1,conc,eM,Deferred.ofValue,pure_bind,invoke]
     rw [show (first.map (conc c)).toArray++(args.map (conc c)).toArray++(captured.map (conc c)).toArray=((first++(args++captured)).map (conc c)).toArray from by
      apply gN; simp]
     exact q2 _ w
    ·rename_i id
     have f3:id<c.N:=by simpa [wf] using f2
     obtain ⟨l,fn,tmps,assign,bd,y1,y2⟩:=LY hS J h g2
     refine .inr (.inr ⟨l,fn,tmps,assign,bd,?_,y2⟩)
     simp only [execOp,ho,resolve,hf,I,f1,conc,Deferred.ofValue,pure_bind,invoke]
     rw [show (#[]:Array Value)++(args.map (conc c)).toArray=(args.map (conc c)).toArray from by simp]
     exact y1
    ·simp at J
  ·rename_i r m hm
   split at J
   ·rename_i t x hv
    obtain ⟨f1,f2⟩:=he r (by simp [ho,Op.operands,Call.operands,hm]) _ hv
    cases Q5:methV C.P t m with
    | none=>simp [Q5] at J
    | some f =>
     simp only [Q5] at J
     obtain ⟨q1,q2⟩:=ou hS.wide hT J h (by
      intro y hy
      rcases List.mem_cons.1 hy with rfl | hy
      ·simpa [wf] using f2
      ·exact g2 y hy)
     refine Gf ?_ q1
     have JF:=LX Q5 (C.P.types.size+99) (conc c x) w
     simp only [execOp,ho,resolve,hm,I,f1,conc,pure_bind,invoke]
     have h1:((#[Value.iface t (conc c x)]++(args.map (conc c)).toArray:Array Value))[0]?=some (.iface t (conc c x)):=by simp
     have h2:(#[Value.iface t (conc c x)]++(args.map (conc c)).toArray:Array Value).extract 1 (#[Value.iface t (conc c x)]++(args.map (conc c)).toArray:Array Value).size=(args.map (conc c)).toArray:=by
      apply gN; simp [dG]
     rw [h1,h2]
     simp only [callMethod,Sem.run_bind,run_program,Result.andThen_ok,Made.depth]
     rw [JF]
     simp only [Result.andThen_ok]
     rw [show (#[conc c x]++(args.map (conc c)).toArray:Array Value)=((x::args).map (conc c)).toArray from by apply gN; simp]
     exact q2 _ w
   ·simp at J
theorem dy {x:Option V}{h:H}{r:V×H}(e:aL x h=some r): x=some r.1∧r.2=h:=by
 cases x with
 | none=>simp [aL] at e
 | some v=>simp [aL] at e; subst e; exact ⟨rfl,rfl⟩
theorem p_ {x:Option H}{r:V×H}(e:lY x=some r): x=some r.2∧r.1=bJ:=by
 cases x with
 | none=>simp [lY] at e
 | some v=>simp [lY] at e; subst e; exact ⟨rfl,rfl⟩
theorem qX {v:V}(he:(execOp a.eval o).run C.P w=.ok (.value (conc c v)) w)(h:Rel c σ w)(hv:wf c v): vq C.P o a c w v σ :=
 .inl ⟨c,w,.inl he,h,b7.refl c w,hv⟩
theorem Bt {x:Option Operand}{v:Option V}(he:∀y,x=some y→∀v,evO env y=some v→a.eval y=conc c v∧wf c v)(h:optV env x=some v): x.map a.eval=v.map (conc c):=by
 cases x with
 | none=>simp [optV] at h; subst h; rfl
 | some y =>
  simp only [optV] at h
  cases I:evO env y with
  | none=>simp [I] at h
  | some u =>
   simp [I] at h
   subst h
   simp [(he y rfl u I).1]
theorem w_ (hS:iE C.P self)(hT:fA C){v:V}{dU:H}(h:Rel c σ w)(he:zG c env a o)(I:evOp C self env σ o=some (v,dU)):
  vq C.P o a c w v dU:=by
 unfold evOp at I
 split at I
 case h_1 ho =>
  obtain ⟨J,e2⟩:=dy I
  simp only at J e2; subst e2
  obtain ⟨f1,f2⟩:=he _ (by simp [ho,Op.operands]) _ J
  exact qX (by simp [execOp,ho,f1]) h f2
 case h_2 ho =>
  obtain ⟨J,e2⟩:=dy I
  simp only at J e2; subst e2
  obtain ⟨f1,f2⟩:=he _ (by simp [ho,Op.operands]) _ J
  exact qX (by simp [execOp,ho,f1]) h f2
 case h_3 x y z ho =>
  split at I
  ·rename_i t hx
   obtain ⟨J,e2⟩:=dy I
   simp only at J e2; subst e2
   obtain ⟨f1,f2⟩:=he _ (by cases t <;> simp [ho,Op.operands]) _ J
   obtain ⟨g1,_⟩:=he _ (by simp [ho,Op.operands]) _ hx
   refine qX ?_ h f2
   cases t <;> simp only [af,ay] at f1 <;> simp [execOp,ho,f1,g1,conc,asBool]
  ·simp at I
 case h_4 t ho =>
  split at I
  ·rename_i z hz
   simp only [aj,aC] at I
   obtain ⟨rfl,rfl⟩:=I
   exact dX (by simp [execOp,ho]) (Jo h hz)
  ·simp at I
 case h_5 t x ho =>
  split at I
  ·rename_i u hu
   cases hs:u.cells.all storable with
   | false=>simp [hs] at I
   | true =>
    simp only [hs,af,aj,aC] at I
    obtain ⟨rfl,rfl⟩:=I
    obtain ⟨f1,f2⟩:=he _ (by simp [ho,Op.operands]) _ hu
    exact dX (by simp [execOp,ho,f1]) (O8 (t:=t) h f2 hs)
  ·simp at I
 case h_6 t ps ho =>
  split at I
  ·rename_i l hl
   obtain ⟨J,e2⟩:=dy I
   simp only at J e2; subst e2
   obtain ⟨f1,f2⟩:=tZ (a:=a) (c:=c) _ _ (fun x hx=>he x.2 (by simp only [ho,Op.operands]; simp; exact ⟨x.1,by simpa using hx⟩)) hl
   have rT:(ps.map fun (i,x)=>(i,a.eval x))=(l.map fun x=>(x.1,conc c x.2)).toArray:=by
    apply gN
    simpa using f1
   exact dX (by simp only [execOp,ho]; rw [rT]) (fM.same h (Jh J f2 w))
  ·simp at I
 case h_7 t m ps ho =>
  split at I
  ·rename_i l hl
   obtain ⟨f1,f2⟩:=tZ (a:=a) (c:=c) _ _ (fun x hx=>he x.2 (by simp only [ho,Op.operands]; simp; exact ⟨x.1,by simpa using hx⟩)) hl
   have rT:(ps.map fun (i,x)=>(i,a.eval x))=(l.map fun x=>(x.1,conc c x.2)).toArray:=by
    apply gN
    simpa using f1
   exact dX (by simp only [execOp,ho]; rw [rT]) (zu h I f2)
  ·simp at I
 case h_8 t x ho =>
  split at I
  ·rename_i u hu
   obtain ⟨J,e2⟩:=dy I
   simp only at J e2; subst e2
   obtain ⟨f1,f2⟩:=he _ (by simp [ho,Op.operands]) _ hu
   exact dX (by simp only [execOp,ho,f1]) (fM.same h (Db h J))
  ·simp at I
 case h_9 t x y ho =>
  split at I
  ·rename_i p u hp hu
   obtain ⟨J,e2⟩:=p_ I
   simp only at J e2; subst e2
   obtain ⟨f1,f2⟩:=he _ (by simp [ho,Op.operands]) _ hp
   obtain ⟨g1,g2⟩:=he _ (by simp [ho,Op.operands]) _ hu
   obtain ⟨w',s1,s2,s3⟩:=Jf h J g2
   exact w9 (by simp only [execOp,ho,f1,g1]) ⟨w',c,s1,s2,s3⟩
  ·simp at I
 case h_10 x ho =>
  split at I
  ·rename_i i j hx
   simp only [aj,aC] at I
   obtain ⟨rfl,rfl⟩:=I
   obtain ⟨f1,f2⟩:=he _ (by simp [ho,Op.operands]) _ hx
   refine qX ?_ h f2
   simp only [conc] at f1
   simp [execOp,ho,f1,conc]
  ·simp at I
 case h_11 op t x y u ho =>
  split at I
  ·rename_i p q hp hq
   obtain ⟨J,e2⟩:=dy I
   simp only at J e2; subst e2
   obtain ⟨f1,f2⟩:=he _ (by simp [ho,Op.operands]) _ hp
   obtain ⟨g1,g2⟩:=he _ (by simp [ho,Op.operands]) _ hq
   exact dX (by simp only [execOp,ho,f1,g1]) (fM.same h (O4 h J f2 g2))
  ·simp at I
 case h_12 op t x ho =>
  split at I
  ·rename_i u hu
   obtain ⟨J,e2⟩:=dy I
   simp only at J e2; subst e2
   obtain ⟨f1,f2⟩:=he _ (by simp [ho,Op.operands]) _ hu
   exact dX (by simp only [execOp,ho,f1]) (fM.same h (QT J w))
  ·simp at I
 case h_13 s d x ho =>
  split at I
  ·rename_i u hu
   obtain ⟨f1,f2⟩:=he _ (by simp [ho,Op.operands]) _ hu
   split at I
   ·rename_i r hc
    obtain ⟨r1,r2⟩:=r
    simp only [aj,aC] at I
    obtain ⟨rfl,rfl⟩:=I
    obtain ⟨q1,q2,q3⟩:=LR h hc f2
    subst q3
    exact dX (by simp only [execOp,ho,f1]) (fM.same h ⟨q1,q2⟩)
   ·exact dX (by simp only [execOp,ho,f1]) (Jp h I f2)
  ·simp at I
 case h_14 d x ho =>
  split at I
  ·rename_i u hu
   obtain ⟨J,e2⟩:=dy I
   simp only at J e2; subst e2
   obtain ⟨f1,f2⟩:=he _ (by simp [ho,Op.operands]) _ hu
   exact dX (by simp only [execOp,ho,f1]) (fM.same h (Hw J f2 w))
  ·simp at I
 case h_15 t x ho =>
  split at I
  ·rename_i u hu
   obtain ⟨J,e2⟩:=dy I
   simp only at J e2; subst e2
   obtain ⟨f1,f2⟩:=he _ (by simp [ho,Op.operands]) _ hu
   exact dX (by simp only [execOp,ho,f1]) (fM.same h (CN J f2 w))
  ·simp at I
 case h_16 f x y ho =>
  split at I
  ·rename_i l m hl hm
   simp only [aj,aC] at I
   obtain ⟨rfl,rfl⟩:=I
   obtain ⟨f1,f2⟩:=vh (a:=a) (c:=c) _ _ (fun x hx=>he x (by simp only [ho,Op.operands,Ba]; exact .inl (by simpa using hx))) hl
   obtain ⟨g1,g2⟩:=vh (a:=a) (c:=c) _ _ (fun x hx=>he x (by simp only [ho,Op.operands,Ba]; exact .inr (by simpa using hx))) hm
   have h1:x.map a.eval=(l.map (conc c)).toArray:=by apply gN; simpa using f1
   have h2:y.map a.eval=(m.map (conc c)).toArray:=by apply gN; simpa using g1
   exact dX (s:=Instr.makeFunc f (l.map (conc c)).toArray (m.map (conc c)).toArray) (by simp only [execOp,ho,h1,h2]) (fM.same h ⟨by simp [Instr.makeFunc,conc,eM],by simp only [wf,eU]; exact ⟨f2,g2⟩⟩)
  ·simp at I
 case h_17 t r ho =>
  split at I
  ·simp only [aj,aC] at I
   obtain ⟨rfl,rfl⟩:=I
   exact dX (by simp only [execOp,ho,gJ]) (Fj h t)
  ·simp at I
 case h_18 t x y ho =>
  split at I
  ·rename_i p q hp hq
   obtain ⟨f1,f2⟩:=he _ (by simp [ho,Op.operands]) _ hp
   obtain ⟨g1,g2⟩:=he _ (by simp [ho,Op.operands]) _ hq
   exact dX (by simp only [execOp,ho,f1,g1]) (Bp h I)
  ·simp at I
 case h_19 t x lo hi mx ho =>
  split at I
  ·rename_i u x1 x2 x3 hu h1 h2 h3
   split at I
   ·rename_i b1 b2 b3 q1 q2 q3
    obtain ⟨J,e2⟩:=dy I
    simp only at J e2; subst e2
    obtain ⟨f1,f2⟩:=he _ (by simp [ho,Op.operands]) _ hu
    have m1:=Bt (c:=c) (a:=a) (fun y hy=>he y (by simp [ho,Op.operands,hy])) h1
    have m2:=Bt (c:=c) (a:=a) (fun y hy=>he y (by simp [ho,Op.operands,hy])) h2
    have m3:=Bt (c:=c) (a:=a) (fun y hy=>he y (by simp [ho,Op.operands,hy])) h3
    exact dX (by simp only [execOp,ho,f1,m1,m2,m3]) (fM.same h (Jl h q1 q2 q3 J f2))
   ·simp at I
  ·simp at I
 case h_20 t x i ho =>
  split at I
  ·rename_i u hu
   obtain ⟨J,e2⟩:=dy I
   simp only at J e2; subst e2
   obtain ⟨f1,f2⟩:=he _ (by simp [ho,Op.operands]) _ hu
   exact dX (by simp only [execOp,ho,f1]) (fM.same h (CO J f2 w))
  ·simp at I
 case h_21 t x i ho =>
  split at I
  ·rename_i u hu
   obtain ⟨J,e2⟩:=dy I
   simp only at J e2; subst e2
   obtain ⟨f1,f2⟩:=he _ (by simp [ho,Op.operands]) _ hu
   exact dX (by simp only [execOp,ho,f1]) (fM.same h (Jj J f2 w))
  ·simp at I
 case h_22 t x i ho =>
  split at I
  ·rename_i p q hp hq
   obtain ⟨J,e2⟩:=dy I
   simp only at J e2; subst e2
   obtain ⟨f1,f2⟩:=he _ (by simp [ho,Op.operands]) _ hp
   obtain ⟨g1,g2⟩:=he _ (by simp [ho,Op.operands]) _ hq
   exact dX (by simp only [execOp,ho,f1,g1]) (fM.same h (CP J f2 w))
  ·simp at I
 case h_23 t x i ho =>
  split at I
  ·rename_i p q hp hq
   obtain ⟨J,e2⟩:=dy I
   simp only at J e2; subst e2
   obtain ⟨f1,f2⟩:=he _ (by simp [ho,Op.operands]) _ hp
   obtain ⟨g1,g2⟩:=he _ (by simp [ho,Op.operands]) _ hq
   exact dX (by simp only [execOp,ho,f1,g1]) (fM.same h (Jk J f2 w))
  ·simp at I
 case h_24 t x k ok ho =>
  split at I
  ·rename_i p q hp hq
   obtain ⟨J,e2⟩:=dy I
   simp only at J e2; subst e2
   obtain ⟨f1,f2⟩:=he _ (by simp [ho,Op.operands]) _ hp
   obtain ⟨g1,g2⟩:=he _ (by simp [ho,Op.operands]) _ hq
   exact dX (by simp only [execOp,ho,f1,g1]) (fM.same h (Hy h J f2 g2))
  ·simp at I
 case h_25 t m k x ho =>
  split at I
  ·rename_i p q r hp hq De
   obtain ⟨J,e2⟩:=p_ I
   simp only at J e2; subst e2
   obtain ⟨f1,f2⟩:=he _ (by simp [ho,Op.operands]) _ hp
   obtain ⟨g1,g2⟩:=he _ (by simp [ho,Op.operands]) _ hq
   obtain ⟨i1,i2⟩:=he _ (by simp [ho,Op.operands]) _ De
   exact w9 (by simp only [execOp,ho,f1,g1,i1]) (tw h J g2 i2)
  ·simp at I
 case h_26 t m k x ho =>
  split at I
  ·rename_i p q r hp hq De
   obtain ⟨J,e2⟩:=p_ I
   simp only at J e2; subst e2
   obtain ⟨f1,f2⟩:=he _ (by simp [ho,Op.operands]) _ hp
   obtain ⟨g1,g2⟩:=he _ (by simp [ho,Op.operands]) _ hq
   obtain ⟨i1,i2⟩:=he _ (by simp [ho,Op.operands]) _ De
   exact w9 (by simp only [execOp,ho,f1,g1,i1]) (tw h J g2 i2)
  ·simp at I
 case h_27 t m k ho =>
  split at I
  ·rename_i p q hp hq
   obtain ⟨f1,f2⟩:=he _ (by simp [ho,Op.operands]) _ hp
   obtain ⟨g1,g2⟩:=he _ (by simp [ho,Op.operands]) _ hq
   exact dX (by simp only [execOp,ho,f1,g1]) (CQ h I g2)
  ·simp at I
 case h_28 t m s x ho =>
  split at I
  ·rename_i p q r hp hq De
   obtain ⟨J,e2⟩:=p_ I
   simp only at J e2; subst e2
   obtain ⟨f1,f2⟩:=he _ (by simp [ho,Op.operands]) _ hp
   obtain ⟨g1,g2⟩:=he _ (by simp [ho,Op.operands]) _ hq
   obtain ⟨i1,i2⟩:=he _ (by simp [ho,Op.operands]) _ De
   exact w9 (by simp only [execOp,ho,f1,g1,i1]) (zD (t:=t) h J i2)
  ·simp at I
 case h_29 x xt t ok ho =>
  split at I
  ·rename_i u hu
   obtain ⟨J,e2⟩:=dy I
   simp only at J e2; subst e2
   obtain ⟨f1,f2⟩:=he _ (by simp [ho,Op.operands]) _ hu
   exact dX (by simp only [execOp,ho,f1]) (fM.same h (Hz (xt:=xt) J f2 w))
  ·simp at I
 case h_30 t i ho =>
  split at I
  ·rename_i l hl
   obtain ⟨J,e2⟩:=dy I
   simp only [eW] at J e2; subst e2
   obtain ⟨f1,f2⟩:=he _ (by simp [ho,Op.operands]) _ hl
   have hv:wf c v:=by
    have:ej c l:=by simpa [wf] using f2
    exact eU.1 this v (aV J)
   refine qX ?_ h hv
   simp only [execOp,ho,f1,conc,eM,Instr.extract]
   simp [J]
  ·simp at I
 case h_31 cl ho=>exact JE hS hT ho h he I
 case h_32 t x ho =>
  split at I
  ·rename_i u hx
   obtain ⟨f1,f2⟩:=he x (by simp [ho,Op.operands]) _ hx
   exact dX (by simp only [execOp,ho,f1]) (HI h I f2)
  ·simp at I
 case h_33 it str ho =>
  split at I
  ·rename_i u hx
   obtain ⟨f1,f2⟩:=he it (by simp [ho,Op.operands]) _ hx
   cases str with
   | true=>exact dX (s:=Instr.next (conc c u) true o.type) (by simp only [execOp,ho,f1]) (Jz h I o.type)
   | false=>exact dX (s:=Instr.next (conc c u) false o.type) (by simp only [execOp,ho,f1]) (JC h I o.type)
  ·simp at I
 case h_34 it ho =>
  split at I
  ·rename_i u hx
   obtain ⟨f1,f2⟩:=he it (by simp [ho,Op.operands]) _ hx
   obtain ⟨J,e2⟩:=dy I
   simp only at J e2
   subst e2
   exact dX (by simp only [execOp,ho,f1]) (fM.same h (JD h J))
  ·simp at I
 case h_35=>simp at I
theorem lD {r:V×H}(I:evOp C self env σ o=some r): ∀d,o.op≠.defer d:=by
 intro d hd
 unfold evOp at I
 rw [hd] at I
 cases I
theorem zH {ops:Array Oper}(he:∀j w d,o.guard=some (j,w)→(ops[j]?).bind (·.dst)=some d→a.tmps.getD d undef=conc c (env.v d)):
  Region.wanted o (yielded ops a.tmps)=wantedV ops.toList env o:=by
 unfold Region.wanted wantedV
 cases hg:o.guard with
 | none=>rfl
 | some jw =>
  obtain ⟨j,want⟩:=jw
  simp only [yielded,eW,iA]
  cases hd:(ops[j]?).bind (·.dst) with
  | none=>simp
  | some d =>
   have hv:=he j want d hg hd
   simp only [bW]
   by_cases I:d<a.tmps.size
   ·have J:a.tmps[d]?=some (conc c (env.v d)):=by
     rw [←hv]; simp [Array.getD,I]
    rw [J]
    generalize env.v d=x
    cases x with
    | bool b=>cases b <;> cases want <;> simp [conc]
    | sl i p q cap=>cases cap <;> simp [conc]
    | _=>simp [conc]
   ·have J:a.tmps[d]?=none:=Array.getElem?_eq_none (oa I)
    have h2:conc c (env.v d)=undef:=by rw [←hv]; simp [Array.getD,I]
    rw [J]
    generalize env.v d=x at h2
    cases x with
    | bool b=>simp [conc,undef] at h2
    | sl i p q cap=>cases cap <;> simp
    | _=>simp
theorem zI {n:Nat}(he:c7 c env n a){ops:Array Oper}: Region.wanted o (yielded ops a.tmps)=wantedV ops.toList env o :=
 zH fun _ _ d _ _=>he.val d
end ops
theorem L2 (hS:iE C.P self)(hT:fA C){r:Option Nat}{ops:Array Oper}{Q:Exit→Act→World→Prop}: ∀(l:List Oper) (k:Nat) (s s':St) (c:Ctx) (a:Act) (w:World),
  (∀j,l[j]?=ops[k+j]?)→evOps C self ops.toList l s=some s'→Rel c s.h w→c7 c s.env s.au a →
  (∀c' a' w',Rel c' s'.h w'→c7 c' s'.env s'.au a'→b7 c w c' w'→a'.defers=a.defers→Q .normal a' w') →
  wpOpsIn (Fr r) 0 C.P ops Q (List.range' k l.length) a w:=by
 intro l
 induction l with
 | nil =>
  intro k s s' c a w _ I h he hQ
  simp only [evOps,aj] at I
  subst I
  simp only [bG,List.range'_zero,wpOpsIn]
  exact hQ c a w h he (b7.refl c w) rfl
 | cons o l ih =>
  intro k s s' c a w hl I h he hQ
  have h0:ops[k]?=some o:=by simpa using (hl 0).symm
  have zJ:∀j,l[j]?=ops[k+1+j]?:=fun j=>by have:=hl (j+1); simpa [iZ,wW 1 j] using this
  simp only [aN,A_,wpOpsIn,h0]
  rw [zI he]
  simp only [evOps] at I
  cases hw:wantedV ops.toList s.env o with
  | true =>
   rw [hw,af] at I
   simp only [bB]
   cases ho:evOp C self s.env s.h o with
   | none=>simp [ho] at I
   | some r =>
    obtain ⟨v,dU⟩:=r
    simp only [ho] at I
    cases hp:s.put o.dst v dU with
    | none=>simp [hp] at I
    | some J =>
     simp only [hp] at I
     refine (w_ hS hT h (he.Ge o) ho).wpIn (lD ho) ?_
     intro c' w' r1 r2 r3
     obtain ⟨p1,p2,p3⟩:=St.y7 (he.ext r2.ext) r3 hp
     refine ih (k+1) J s' c' _ w' zJ I (by rw [p2]; exact r1) p1 ?_
     intro pM vt vu q1 q2 q3 q4
     exact hQ pM vt vu q1 q2 (r2.trans q3) (by rw [q4]; cases o.dst <;> rfl)
  | false =>
   rw [hw,ay] at I
   simp only [dV,bF]
   refine ⟨fun _ _=>trivial,?_⟩
   cases hp:s.put o.dst bJ s.h with
   | none=>simp [hp] at I
   | some J =>
    simp only [hp] at I
    obtain ⟨p1,p2,p3⟩:=St.y7 he (show wf c bJ by simp [bJ,wf,ej]) hp
    rw [nm] at p1
    refine ih (k+1) J s' c _ w zJ I (by rw [p2]; exact h) p1 ?_
    intro pM vt vu q1 q2 q3 q4
    exact hQ pM vt vu q1 q2 q3 (by rw [q4]; cases o.dst <;> rfl)
end
end Go.Proofs.YtefepnnfphdkpaaGreat.Am
