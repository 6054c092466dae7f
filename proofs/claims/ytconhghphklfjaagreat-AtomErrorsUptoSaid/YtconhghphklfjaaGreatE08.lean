/- A group that is over or open, pages that are none and records that may not be are refused, and a record that was done is read back; the conditions are those of the given statement, for arguments that a machine can hold. Part 8 of 44. -/
import Derived.Test.YtconhghphklfjaaGreatE07
import Derived.RangeFuncIn
import Derived.RangeFuncRecord
import Derived.RangeFuncCalls
import Derived.OrdersIn
import Derived.LoopNIn
import Derived.Maps.RangeRun
import Derived.Lib.OthersKept
namespace Go.Proofs.YtconhghphklfjaaGreat.Am
open Go
def exOf : Ex → Exit
 | .normal => .normal
 | .exit i => .exit i
 | .ret => .ret
def SelfOk (P : Program) (self : Self) : Prop := ∀ (code : Code) (s : St) (ex : Ex) (s' : St), self code s = some (ex, s') →
 ∀ (c : Ctx) (a : Act) (w : World), Rel c s.h w → EnvOk c s.env s.ntm a →
  code.wp P (fun e a' w' => e = exOf ex ∧ a'.defers = a.defers ∧ ∃ c', Rel c' s'.h w' ∧ EnvOk c' s'.env s'.ntm a' ∧ Stp c w c' w') a w
def Fr (r : Option Nat) : Fence := { fn := fun _ => True, depth := none, alive := false, round := r }
theorem calls_fr {r : Option Nat} {n : Nat} {P : Program} {f : FuncId} {args : Array Value} {w : World} {R : Ending → World → Prop} (h : Calls P f args w R) : CallsIn (Fr r) n P f args w R :=
 (callsIn_wide (n := n)).2 h
def SelfOkR (P : Program) (self : Self) : Prop := ∀ (code : Code) (s : St) (ex : Ex) (s' : St), self code s = some (ex, s') →
 ∀ (r : Option Nat) (c : Ctx) (a : Act) (w : World), Rel c s.h w → EnvOk c s.env s.ntm a →
  code.wpIn (Fr r) 0 P (fun e a' w' => e = exOf ex ∧ a'.defers = a.defers ∧ ∃ c', Rel c' s'.h w' ∧ EnvOk c' s'.env s'.ntm a' ∧ Stp c w c' w') a w
theorem SelfOkR.wide {P : Program} {self : Self} (h : SelfOkR P self) : SelfOk P self := fun code s ex s' hs c a w hr he => wpIn_wide.1 (h code s ex s' hs none c a w hr he)
def CallOk (P : Program) (f : FuncId) (args : List V) (c : Ctx) (w : World) (v : V) (σ' : H) : Prop :=
 Calls P f (args.map (conc c)).toArray w fun e w' => ∃ c', e = .returned (conc c' v) ∧ wf c' v ∧ Rel c' σ' w' ∧ Stp c w c' w'
def ToldOne (P : Program) (f : Nat) (g : List V → H → Option (V × H)) : Prop :=
 ((∃ fn, P.funcs[f]? = some fn ∧ fn.body.isSome = true ∧ (fn.name == "runtime.NumGoroutine") = false) ∧
  ∀ (args : List V) (σ : H) (v : V) (σ' : H), g args σ = some (v, σ') → ∀ (c : Ctx) (w : World), Rel c σ w → (∀ x ∈ args, wf c x) → CallOk P f args c w v σ') ∨
 ((∃ fn, P.funcs[f]? = some fn ∧ fn.body.isSome = false) ∧
  ∀ (args : List V) (σ : H) (v : V) (σ' : H), g args σ = some (v, σ') → ∀ (c : Ctx) (w : World), Rel c σ w → (∀ x ∈ args, wf c x) →
   ∃ c' w', (callFunc f (args.map (conc c)).toArray).run P w = .ok (.value (conc c' v)) w' ∧ Rel c' σ' w' ∧ Stp c w c' w' ∧ wf c' v)
def ToldOk (C : Cfg) : Prop := ∀ f g, C.told f = some g → ToldOne C.P f g
section
variable {C : Cfg} {self : Self} {c : Ctx} {σ : H} {w : World}
theorem bindArgs_get : ∀ (l : List V) (k : Nat) (e : Env) (j : Nat), T.get (bindArgs l k e) j = if k ≤ j ∧ j < k + l.length then l[j - k]? else T.get e j := by
 intro l
 induction l with
 | nil => intro k e j; simp only [bindArgs, List.length_nil]; rw [if_neg (by omega)]
 | cons v l ih =>
  intro k e j
  simp only [bindArgs, ih, List.length_cons, get_set]
  by_cases h1 : j = k
  ·subst h1
   rw [if_neg (by omega), if_pos rfl, if_pos (by omega)]
   simp
  ·by_cases h2 : k + 1 ≤ j ∧ j < k + 1 + l.length
   ·rw [if_pos h2, if_pos (by omega)]
    have : j - k = (j - (k + 1)) + 1 := by omega
    rw [this]; simp
   ·rw [if_neg h2, if_neg h1, if_neg (by omega)]
theorem bindArgs_env {args : List V} {n : Nat} (hle : args.length ≤ n) (hw : ∀ x ∈ args, wf c x) :
  EnvOk c (bindArgs args 0 .lf) n { tmps := (args.map (conc c)).toArray ++ Array.replicate (n - (args.map (conc c)).toArray.size) undef, defers := [] } where
 size := by simp; omega
 val := fun t => by
  simp only [Env.v, bindArgs_get, T.get_lf, Nat.zero_le, true_and, Nat.zero_add, Nat.sub_zero]
  by_cases ht : t < args.length
  ·rw [if_pos ht]
   rw [List.getElem?_eq_getElem ht]
   simp [Array.getD, ht]
   omega
  ·rw [if_neg ht, conc_undef]
   simp [Array.getD, Array.getElem_append, ht]
 wfv := fun t => by
  simp only [Env.v, bindArgs_get, T.get_lf, Nat.zero_le, true_and, Nat.zero_add, Nat.sub_zero]
  by_cases ht : t < args.length
  ·rw [if_pos ht, List.getElem?_eq_getElem ht]
   exact hw _ (List.getElem_mem ht)
  ·rw [if_neg ht]; simp [undefV, wf, wfL]
def resSem (tmps : Array Value) : ResultVar → Sem Value
 | .tmp t => pure (tmps.getD t undef)
 | .cell x t => do loadVar t (← asAddr (tmps.getD x undef))
theorem results_eq (fn : Func) (tmps : Array Value) : results fn tmps = (do
  let vs ← fn.results.mapM (resSem tmps)
  pure (if h : vs.size = 1 then vs[0] else .tuple vs)) := by
 unfold results
 exact congrArg (fun f => (Array.mapM f fn.results >>= fun vs => (pure (if h : vs.size = 1 then vs[0] else .tuple vs) : Sem Value))) (funext fun r => by cases r <;> rfl)
theorem resV_ok {s : St} {a : Act} (h : Rel c s.h w) (he : EnvOk c s.env s.ntm a) {P : Program} {r : ResultVar} {v : V} (hr : resV P s r = some v) :
  (resSem a.tmps r).run P w = .ok (conc c v) w ∧ wf c v := by
 cases r with
 | tmp t =>
  simp only [resV, Option.some.injEq] at hr
  subst hr
  exact ⟨by simp only [resSem, Sem.run_pure, he.val t], he.wfv t⟩
 | cell x t =>
  simp only [resV] at hr
  obtain ⟨h1, h2⟩ := loadV_ok h hr
  refine ⟨?_, h2⟩
  simp only [resSem]
  rw [he.val x]
  unfold loadV at hr
  split at hr
  ·rename_i id off hx
   rw [hx] at h1 ⊢
   simpa [Instr.loadAt, Instr.sureAddr, asAddr, conc] using h1
  ·simp at hr
theorem results_ok {s : St} {a : Act} (h : Rel c s.h w) (he : EnvOk c s.env s.ntm a) {P : Program} {fn : Func} {vs : List V} (hr : mapO (resV P s) fn.results.toList = some vs) :
  (results fn a.tmps).run P w = .ok (if h : (vs.map (conc c)).toArray.size = 1 then (vs.map (conc c)).toArray[0] else .tuple (vs.map (conc c)).toArray) w ∧ ∀ v ∈ vs, wf c v := by
 have key : ∀ (l : List ResultVar) (vs : List V), mapO (resV P s) l = some vs →
   (l.mapM (resSem a.tmps)).run P w = .ok (vs.map (conc c)) w ∧ ∀ v ∈ vs, wf c v := by
  intro l
  induction l with
  | nil => intro vs h; simp [mapO] at h; subst h; simp
  | cons r l ih =>
   intro vs hvs
   simp only [mapO] at hvs
   cases h1 : resV P s r with
   | none => simp [h1] at hvs
   | some v =>
    cases h2 : mapO (resV P s) l with
    | none => simp [h1, h2] at hvs
    | some m =>
     simp [h1, h2] at hvs
     subst hvs
     obtain ⟨r1, r2⟩ := resV_ok h he h1
     obtain ⟨i1, i2⟩ := ih m h2
     refine ⟨?_, fun x hx => ?_⟩
     ·rw [List.mapM_cons, Sem.run_bind, r1]
      simp only [Result.andThen_ok, Sem.run_bind, i1, Sem.run_pure, List.map_cons]
     ·rcases List.mem_cons.1 hx with rfl | hx
      ·exact r2
      ·exact i2 x hx
 obtain ⟨k1, k2⟩ := key _ _ hr
 refine ⟨?_, k2⟩
 rw [results_eq, Array.mapM_eq_mapM_toList]
 simp only [Sem.run_bind, Sem.run_map, k1, Result.andThen_ok, Sem.run_pure]
theorem callF_ok (hS : SelfOk C.P self) (hT : ToldOk C) {f : FuncId} {args : List V} {v : V} {σ' : H} (hr : callF C self f args σ = some (v, σ')) (h : Rel c σ w) (hw : ∀ x ∈ args, wf c x) :
  CallOk C.P f args c w v σ' ∧ ∀ (x : Array Value) (w : World), (callFunc f x).run C.P w = .ok (.enter f x) w := by
 unfold callF at hr
 split at hr
 ·rename_i g hg
  cases hbd : hasBody C.P f with
  | false => rw [hbd] at hr; cases hr
  | true =>
  rw [hbd, cond_true] at hr
  rcases hT f g hg with ⟨⟨fn, t1, t2, t3⟩, t4⟩ | ⟨⟨fn, t1, t2⟩, _⟩
  rotate_left
  ·unfold hasBody at hbd
   rw [t1] at hbd
   simp only at hbd
   rw [t2] at hbd
   cases hbd
  refine ⟨t4 args σ v σ' hr c w h hw, fun x w => ?_⟩
  have : fn.body.isNone = false := by
   cases hb : fn.body with
   | none => rw [hb] at t2; cases t2
   | some b => rfl
  simp only [callFunc, Sem.run_bind, run_program, Result.andThen_ok, t1, t3, Bool.false_eq_true, if_false, this, Sem.run_pure]
 ·cases hf : C.P.funcs[f]? with
  | none => simp [hf] at hr
  | some fn =>
   simp only [hf] at hr
   cases hb : fn.body with
   | none => simp [hb] at hr
   | some code =>
    simp only [hb] at hr
    cases hq : (fn.name == "runtime.NumGoroutine" || Nat.blt fn.ntmps args.length) with
    | true => simp [hq] at hr
    | false =>
     simp only [hq, cond_false] at hr
     simp only [Bool.or_eq_false_iff] at hq
     have hle : args.length ≤ fn.ntmps := by
      rcases Nat.lt_or_ge fn.ntmps args.length with h' | h'
      ·rw [blt_iff.2 h'] at hq; cases hq.2
      ·exact h'
     refine ⟨?_, fun x w => by simp only [callFunc, Sem.run_bind, run_program, Result.andThen_ok, hf, hq.1, Bool.false_eq_true, if_false, hb, Option.isNone_some, Sem.run_pure]⟩
     have henv := bindArgs_env (c := c) hle hw
     have done : ∀ ex s, self code ⟨bindArgs args 0 .lf, fn.ntmps, σ⟩ = some (ex, s) → (ex = .normal ∨ ex = .ret) →
       (match mapO (resV C.P s) fn.results.toList with
        | some [v] => some (v, s.h)
        | some vs => some (.tup vs, s.h)
        | none => none) = some (v, σ') → CallOk C.P f args c w v σ' := by
      intro ex s hs hex hm
      have hwp := hS code _ ex s hs c _ w h henv
      refine calls_of_wp hf hb (wp_mono hwp ?_)
      rintro e a' w' ⟨rfl, hd, c', r1, r2, r3⟩
      have hpost : a'.defers = [] ∧ ∃ x, (results fn a'.tmps).run C.P w' = .ok x w' ∧ ∃ c'', Ending.returned x = .returned (conc c'' v) ∧ wf c'' v ∧ Rel c'' σ' w' ∧ Stp c w c'' w' := by
       refine ⟨hd, ?_⟩
       cases hmo : mapO (resV C.P s) fn.results.toList with
       | none => simp [hmo] at hm
       | some vs =>
        obtain ⟨q1, q2⟩ := results_ok r1 r2 hmo
        refine ⟨_, q1, c', ?_⟩
        rw [hmo] at hm
        rcases vs with _ | ⟨v0, _ | ⟨v1, vs⟩⟩
        ·simp only [Option.some.injEq, Prod.mk.injEq] at hm
         obtain ⟨rfl, rfl⟩ := hm
         exact ⟨by simp [conc, concL], by simp [wf, wfL], r1, r3⟩
        ·simp only [Option.some.injEq, Prod.mk.injEq] at hm
         obtain ⟨rfl, rfl⟩ := hm
         exact ⟨by simp, q2 v0 (by simp), r1, r3⟩
        ·simp only [Option.some.injEq, Prod.mk.injEq] at hm
         obtain ⟨rfl, rfl⟩ := hm
         exact ⟨by simp [conc, concL_eq], by simp only [wf, wfL_iff]; exact q2, r1, r3⟩
      rcases hex with rfl | rfl
      ·simpa [bodyPost, exOf] using hpost
      ·simpa [bodyPost, exOf] using hpost
     split at hr
     ·rename_i s hs
      exact done .normal s hs (.inl rfl) hr
     ·rename_i s hs
      exact done .ret s hs (.inr rfl) hr
     ·simp at hr
section ops
variable {env : Env} {a : Act} {K : Act → World → Prop} {Q : Exit → Act → World → Prop} {o : Oper}
def OpnOk (c : Ctx) (env : Env) (a : Act) (o : Oper) : Prop := ∀ x ∈ o.op.operands, ∀ v, evO env x = some v → a.eval x = conc c v ∧ wf c v
theorem EnvOk.opn {n : Nat} (he : EnvOk c env n a) (o : Oper) : OpnOk c env a o := fun _ _ _ h => evO_ok he h
def OpOk (P : Program) (o : Oper) (a : Act) (c : Ctx) (w : World) (v : V) (σ' : H) : Prop :=
 (∃ c' w', ((execOp a.eval o).run P w = .ok (.value (conc c' v)) w' ∨ ((execOp a.eval o).run P w = .ok .skip w' ∧ conc c' v = undef)) ∧ Rel c' σ' w' ∧ Stp c w c' w' ∧ wf c' v) ∨
 (∃ f args, (execOp a.eval o).run P w = .ok (.enter f args) w ∧ Calls P f args w fun e w' => ∃ c', e = .returned (conc c' v) ∧ wf c' v ∧ Rel c' σ' w' ∧ Stp c w c' w') ∨
 (∃ l fn tmps assign body, (execOp a.eval o).run P w = .ok (.round l fn tmps assign body) w ∧ RoundIn (Fr none) 0 P l fn tmps assign body w fun e w' => ∃ c', e = .returned (conc c' v) ∧ wf c' v ∧ Rel c' σ' w' ∧ Stp c w c' w')
theorem wp_got {v : V} {σ' : H} {s : Sem Value} (he : (execOp a.eval o) = (do pure (.value (← s)))) (hg : Got C.P s c w v σ') : OpOk C.P o a c w v σ' := by
 obtain ⟨w', c', h1, h2, h3, h4⟩ := hg
 refine .inl ⟨c', w', .inl ?_, h3, h4, h2⟩
 rw [he]
 simp only [Sem.run_bind, h1, Result.andThen_ok, Sem.run_pure]
theorem wp_gotU {σ' : H} {s : Sem Unit} (he : (execOp a.eval o) = (do s; pure .skip)) (hg : GotU C.P s c w σ') : OpOk C.P o a c w undefV σ' := by
 obtain ⟨w', c', h1, h3, h4⟩ := hg
 refine .inl ⟨c', w', .inr ⟨?_, conc_undef c'⟩, h3, h4, by simp [undefV, wf, wfL]⟩
 rw [he]
 simp only [Sem.run_bind, h1, Result.andThen_ok, Sem.run_pure]
theorem wp_call {f : FuncId} {args : List V} {v : V} {σ' : H} (he : (execOp a.eval o).run C.P w = .ok (.enter f (args.map (conc c)).toArray) w) (hg : CallOk C.P f args c w v σ') : OpOk C.P o a c w v σ' :=
 .inr (.inl ⟨f, _, he, hg⟩)
theorem OpOk.wpIn {P : Program} {v : V} {σ' : H} (h : OpOk P o a c w v σ') (hnd : ∀ d, o.op ≠ .defer d) {r : Option Nat}
  (hK : ∀ c' w', Rel c' σ' w' → Stp c w c' w' → wf c' v → K (a.put o.dst (conc c' v)) w') : o.wpIn (Fr r) 0 P a w K Q := by
 refine ⟨fun _ _ => trivial, ?_⟩
 rw [Oper.semAt_eq _ _ _ hnd]
 rcases h with ⟨c', w', h1, h2, h3, h4⟩ | ⟨f, args, h1, h2⟩ | ⟨l, fn, tmps, assign, body, h1, h2⟩
 ·rcases h1 with h1 | ⟨h1, h5⟩
  ·rw [h1]; exact hK c' w' h2 h3 h4
  ·rw [h1]; have := hK c' w' h2 h3 h4; rw [h5] at this; exact this
 ·rw [h1]
  refine ⟨fun hd => (by cases hd), calls_fr (Calls.mono h2 ?_)⟩
  rintro e w' ⟨c', rfl, q1, q2, q3⟩
  exact hK c' w' q2 q3 q1
 ·rw [h1]
  refine ⟨fun hd => (by cases hd), RoundIn.mono h2 ?_⟩
  rintro e w' ⟨c', rfl, q1, q2, q3⟩
  exact hK c' w' q2 q3 q1
theorem builtin_ok {b : Builtin} {ts : Array TypeId} {ty : TypeId} {cs : Array Bool} {args : List V} {v : V} {σ' : H} (h : Rel c σ w) (hr : builtinV C.P σ b ts args = some (v, σ')) (hw : ∀ x ∈ args, wf c x) :
  ∃ s, builtin b ts ty cs (args.map (conc c)).toArray = (do pure (.value (← s))) ∧ Got C.P s c w v σ' := by
 unfold builtinV at hr
 split at hr
 ·rename_i x
  split at hr
  ·rename_i t l hts
   cases hl : lenV C.P σ t x with
   | none => simp [hl] at hr
   | some u =>
    simp [hl] at hr
    obtain ⟨rfl, rfl⟩ := hr
    have h0 : ts[0]? = some t := by rw [← Array.getElem?_toList, hts]; rfl
    exact ⟨_, rfl, Got.same h (lenV_ok h hl ts h0 ty)⟩
  ·simp at hr
 ·rename_i s x
  exact ⟨_, rfl, appendV_got h hr (hw s (by simp)) (hw x (by simp))⟩
 ·rename_i d s
  split at hr
  ·rename_i t l hts
   have h0 : ts[0]? = some t := by rw [← Array.getElem?_toList, hts]; rfl
   exact ⟨_, rfl, copyV_got h h0 hr (hw d (by simp)) (hw s (by simp))⟩
  ·simp at hr
 ·rename_i x
  split at hr
  ·rename_i t l hts
   have h0 : ts[0]? = some t := by rw [← Array.getElem?_toList, hts]; rfl
   cases hl : clearV C.P σ t x with
   | none => simp [hl] at hr
   | some u =>
    simp [hl] at hr
    obtain ⟨rfl, rfl⟩ := hr
    obtain ⟨w', c', e1, e2, e3⟩ := clearV_got (P := C.P) (ty := ty) h h0 hl (hw x (by simp))
    exact ⟨_, rfl, w', c', by simpa [conc, concL] using e1, by simp [wf, wfL], e2, e3⟩
  ·simp at hr
 ·rename_i m k
  split at hr
  ·rename_i t l hts
   have h0 : ts[0]? = some t := by rw [← Array.getElem?_toList, hts]; rfl
   cases hl : deleteV C.P σ t m k with
   | none => simp [hl] at hr
   | some u =>
    simp [hl] at hr
    obtain ⟨rfl, rfl⟩ := hr
    obtain ⟨w', c', e1, e2, e3⟩ := deleteV_got (P := C.P) (ty := ty) h hl (hw k (by simp)) ts h0
    exact ⟨_, rfl, w', c', by simpa [conc, concL] using e1, by simp [wf, wfL], e2, e3⟩
  ·simp at hr
 ·rename_i x l
  cases hl : foldV maxV x l with
  | none => simp [hl] at hr
  | some u =>
   simp [hl] at hr
   obtain ⟨rfl, rfl⟩ := hr
   obtain ⟨e1, e2⟩ := foldV_ok (P := C.P) (c := c) (w := w) maxV Builtin.max2 (fun x y v hv => maxV_ok hv w) l x u hl (hw x (by simp))
   refine ⟨_, rfl, Got.same h ⟨?_, e2⟩⟩
   simpa [Builtin.max_] using e1
 ·rename_i x l
  cases hl : foldV minV x l with
  | none => simp [hl] at hr
  | some u =>
   simp [hl] at hr
   obtain ⟨rfl, rfl⟩ := hr
   obtain ⟨e1, e2⟩ := foldV_ok (P := C.P) (c := c) (w := w) minV Builtin.min2 (fun x y v hv => minV_ok hv w) l x u hl (hw x (by simp))
   refine ⟨_, rfl, Got.same h ⟨?_, e2⟩⟩
   simpa [Builtin.min_] using e1
 ·simp at hr
theorem methV_ok {t : TypeId} {name : String} {f : FuncId} (h : methV C.P t name = some f) (d : Nat) (v : Value) (w : World) : (method (d + 1) t v name).run C.P w = .ok (f, v) w := by
 unfold methV at h
 generalize ht : C.P.underlying t = dt at h
 split at h
 ·rename_i e
  cases hi : C.P.info? t with
  | none => simp [hi] at h
  | some i =>
   simp only [hi, Option.bind_some] at h
   cases hm : i.methods.find? (fun m => m.name == name) with
   | none => simp [hm] at h
   | some m =>
    simp only [hm] at h
    split at h
    ·rename_i g hp hfn
     simp only [Option.some.injEq] at h
     subst h
     simp [method, typeInfo, hi, hm, hp, hfn, follow, receiverAt, run_underlying ht, Place.get]
    ·simp at h
 ·rename_i fs
  cases hi : C.P.info? t with
  | none => simp [hi] at h
  | some i =>
   simp only [hi, Option.bind_some] at h
   cases hm : i.methods.find? (fun m => m.name == name) with
   | none => simp [hm] at h
   | some m =>
    simp only [hm] at h
    split at h
    ·rename_i g hp hfn
     simp only [Option.some.injEq] at h
     subst h
     simp [method, typeInfo, hi, hm, hp, hfn, follow, receiverAt, run_underlying ht, Place.get]
    ·simp at h
 ·simp at h
theorem bindPs_ok {n : Nat} : ∀ (ps : List Nat) (args : List V) (e e' : Env) (tmps : Array Value), bindPs n ps args e = some e' → tmps.size = n → (∀ t, tmps.getD t undef = conc c (Env.v e t)) → (∀ t, wf c (Env.v e t)) → (∀ x ∈ args, wf c x) →
  args.length = ps.length ∧ EnvOk c e' n { tmps := (ps.zip (args.map (conc c))).foldl (fun tmps (t, a) => tmps.setIfInBounds t a) tmps, defers := [] } := by
 intro ps
 induction ps with
 | nil =>
  intro args e e' tmps hr hs hv hw ha
  cases args with
  | nil => simp only [bindPs, Option.some.injEq] at hr; subst hr; exact ⟨rfl, hs, hv, hw⟩
  | cons _ _ => simp [bindPs] at hr
 | cons p ps ih =>
  intro args e e' tmps hr hs hv hw ha
  cases args with
  | nil => simp [bindPs] at hr
  | cons x args =>
   simp only [bindPs] at hr
   cases hp : Nat.blt p n with
   | false => rw [hp] at hr; cases hr
   | true =>
    rw [hp, cond_true] at hr
    have hp' := blt_iff.1 hp
    obtain ⟨q1, q2⟩ := ih args (e.set p (some x)) e' (tmps.setIfInBounds p (conc c x)) hr (by simp [hs]) (fun t => by
     simp only [Env.v, get_set]
     by_cases ht : t = p
     ·subst ht
      rw [if_pos rfl]
      simp [Array.getD_eq_getD_getElem?, hs, hp']
     ·rw [if_neg ht]
      have := hv t
      simp only [Env.v] at this
      rw [← this]
      simp [Array.getD_eq_getD_getElem?, Array.getElem?_setIfInBounds_ne (Ne.symm ht)]) (fun t => by
     simp only [Env.v, get_set]
     by_cases ht : t = p
     ·rw [if_pos ht]; exact ha x List.mem_cons_self
     ·rw [if_neg ht]; exact hw t) (fun y hy => ha y (List.mem_cons_of_mem _ hy))
    exact ⟨by simp [q1], q2⟩
theorem round_ok (hS : SelfOkR C.P self) {id : Nat} {args : List V} {v : V} {σ' : H} (hr : roundV self id args σ = some (v, σ')) (h : Rel c σ w) (hw : ∀ x ∈ args, wf c x) :
  ∃ l fn tmps assign body, (Instr.yield (c.ρ id).1 (args.map (conc c)).toArray).run C.P w = .ok (.round l fn tmps assign body) w ∧
   RoundIn (Fr none) 0 C.P l fn tmps assign body w fun e w' => ∃ c', e = .returned (conc c' v) ∧ wf c' v ∧ Rel c' σ' w' ∧ Stp c w c' w' := by
 unfold roundV at hr
 split at hr
 ·rename_i ntm env ps as bd hg
  obtain ⟨fn, tmps, D, hb, hsz, hval, hwf⟩ := h.obj id _ hg
  split at hr
  ·cases hr
  ·rename_i e he
   obtain ⟨q1, q2⟩ := bindPs_ok ps args env e tmps he hsz hval hwf hw
   split at hr
   ·rename_i s₁ hs₁
    split at hr
    ·rename_i n₁ env₁ ps₁ as₁ bd₁ hg₁
     split at hr
     ·rename_i s₂ hs₂
      split at hr
      ·rename_i n₂ env₂ ps₂ as₂ bd₂ hg₂
       simp only [Option.some.injEq, Prod.mk.injEq] at hr
       obtain ⟨rfl, rfl⟩ := hr
       have hyl := run_yield (P := C.P) (args := (args.map (conc c)).toArray) hb (by simp [q1])
       refine ⟨_, _, _, _, _, hyl, roundIn_of_wpIn trivial (wpIn_mono (hS as _ .normal s₁ hs₁ (some (c.ρ id).1) c _ w h (by simpa using q2)) ?_)⟩
       rintro ex a₁ w₁ ⟨rfl, hd₁, c₁, r₁, e₁, st₁⟩
       have hid : id < c.N := h.live id _ hg
       have hid₁ : id < c₁.N := r₁.live id _ hg₁
       have hρ₁ : c₁.ρ id = c.ρ id := st₁.ext.ρ id hid
       obtain ⟨fn₁, tmps₁, D₁, hb₁, hf₁⟩ := r₁.obj id _ hg₁
       rw [← hρ₁]
       refine ⟨_, run_beginRound hb₁ rfl, ?_⟩
       obtain ⟨r₁', st₁'⟩ := r₁.setLoop (busy' := true) hg₁ hb₁ hf₁
       refine wpIn_mono (hS bd _ .normal s₂ hs₂ (some (c₁.ρ id).1) c₁ a₁ _ r₁' e₁) ?_
       rintro ex a₂ w₂ ⟨rfl, hd₂, c₂, r₂, e₂, st₂⟩
       obtain ⟨fn₂, tmps₂, D₂, hb₂, hf₂⟩ := r₂.obj id _ hg₂
       have hρ₂ : c₂.ρ id = c₁.ρ id := st₂.ext.ρ id hid₁
       obtain ⟨r₂', st₂'⟩ := r₂.setLoop (busy' := false) hg₂ hb₂ hf₂
       rw [← hρ₂]
       refine ⟨_, _, run_endRound none hb₂, c₂, by simp [conc], by simp [wf], r₂', (st₁.trans st₁').trans (st₂.trans st₂')⟩
      ·cases hr
     ·cases hr
    ·cases hr
   ·cases hr
 ·cases hr
theorem inL_eq : ∀ (l : List Nat) (k : Nat), inL l k = l.contains k := by
 intro l
 induction l with
 | nil => intro k; rfl
 | cons x l ih =>
  intro k
  simp only [inL, ih, List.contains_cons]
  by_cases h : x = k
  ·subst h; simp [beqT rfl]
  ·have : ¬ k = x := fun e => h e.symm
   simp [beqF h, this]
theorem leftV_eq (seen : List Nat) : ∀ (es : List (V × V × Nat)), (leftV seen es).map (concE c) = (es.map (concE c)).filter (fun e => !seen.toArray.contains e.born) := by
 intro es
 induction es with
 | nil => rfl
 | cons e es ih =>
  simp only [leftV, List.map_cons, List.filter_cons]
  rw [inL_eq]
  have hb : (concE c e).born = e.2.2 := rfl
  rw [hb]
  have hc : seen.toArray.contains e.2.2 = seen.contains e.2.2 := by simp
  rw [hc]
  cases seen.contains e.2.2 with
  | true => simp [ih]
  | false => simp [ih]
theorem allOld_ok {since : Nat} : ∀ (es : List (V × V × Nat)), allOld since es = true → ∀ e ∈ es, e.2.2 < since := by
 intro es
 induction es with
 | nil => intro _ e he; cases he
 | cons x es ih =>
  intro h e he
  simp only [allOld] at h
  cases hq : Nat.blt x.2.2 since with
  | false => rw [hq] at h; cases h
  | true =>
   rw [hq, cond_true] at h
   rcases List.mem_cons.1 he with rfl | he
   ·exact blt_iff.1 hq
   ·exact ih h e he
theorem bornRise_ok : ∀ (es : List (V × V × Nat)) (b : Nat), bornRise b es = true → (∀ e ∈ es, b ≤ e.2.2) ∧ (es.map (·.2.2)).Pairwise (· < ·) := by
 intro es
 induction es with
 | nil => intro b _; exact ⟨fun e he => (List.not_mem_nil he).elim, List.Pairwise.nil⟩
 | cons x es ih =>
  intro b h
  simp only [bornRise] at h
  cases hq : Nat.ble b x.2.2 with
  | false => rw [hq] at h; cases h
  | true =>
   rw [hq, cond_true] at h
   have hb := ble_iff.1 hq
   obtain ⟨i1, i2⟩ := ih _ h
   refine ⟨fun e he => ?_, ?_⟩
   ·rcases List.mem_cons.1 he with rfl | he
    ·exact hb
    ·have := i1 e he; omega
   ·simp only [List.map_cons, List.pairwise_cons]
    refine ⟨fun y hy => ?_, i2⟩
    obtain ⟨e, he, rfl⟩ := List.mem_map.1 hy
    have := i1 e he
    omega
theorem lastN_ok : ∀ (l : List Nat) (b : Nat), lastN l = some b → ∃ i, l = i ++ [b] := by
 intro l
 induction l with
 | nil => intro b h; cases h
 | cons x l ih =>
  intro b h
  cases l with
  | nil => simp only [lastN, Option.some.injEq] at h; subst h; exact ⟨[], rfl⟩
  | cons y l =>
   obtain ⟨i, hi⟩ := ih b h
   exact ⟨x :: i, by rw [hi]; rfl⟩
theorem entryOf_ok {b : Nat} : ∀ (es : List (V × V × Nat)) (e : V × V × Nat), entryOf b es = some e → e ∈ es ∧ e.2.2 = b := by
 intro es
 induction es with
 | nil => intro e h; cases h
 | cons x es ih =>
  intro e h
  simp only [entryOf] at h
  cases hq : Nat.beq x.2.2 b with
  | true => rw [hq, cond_true] at h; simp only [Option.some.injEq] at h; subst h; exact ⟨List.mem_cons_self, beq_iff.1 hq⟩
  | false =>
   rw [hq, cond_false] at h
   obtain ⟨h1, h2⟩ := ih e h
   exact ⟨List.mem_cons_of_mem _ h1, h2⟩
theorem rangeV_got {P : Program} {t : TypeId} {x v : V} {σ' : H} (h : Rel c σ w) (hr : rangeV P σ t x = some (v, σ')) (hx : wf c x) : Got P (Instr.range t (conc c x)) c w v σ' := by
 unfold rangeV at hr
 generalize ht : P.underlying t = dt at hr
 split at hr
 ·rename_i kt et id
  split at hr
  ·rename_i es clock hg
   simp only [Option.some.injEq, Prod.mk.injEq] at hr
   obtain ⟨rfl, rfl⟩ := hr
   obtain ⟨_, hb⟩ := h.obj id _ hg
   have hid := h.live id _ hg
   have g := h.new (.iter id clock clock []) (.mapIter (some (c.ρ id).1) clock #[] clock) 0 rfl ⟨by rw [grow_N]; omega, by rw [grow_ρ_new], by
    rw [grow_ρ_new, grow_ρ_old c _ _ _ hid]
    rw [alloc_get]; simp⟩
   refine ⟨_, _, ?_, ?_, g.1, g.2⟩
   ·simp only [Instr.range, Sem.run_bind, run_underlying ht, Result.andThen_ok, conc, run_getObj hb (by simp), Sem.run_pure, run_newObj_alloc, h.next, grow_ρ_new]
   ·simp [wf, h.next, grow_N]
  ·cases hr
 ·rename_i l
  simp only [Option.some.injEq, Prod.mk.injEq] at hr
  obtain ⟨rfl, rfl⟩ := hr
  have g := h.new (.strIter l 0) (.stringIter ⟨(l.map UInt8.ofNat).toArray⟩ 0) 0 rfl ⟨by simpa [wf] using hx, by rw [grow_ρ_new], by rw [grow_ρ_new, alloc_get]; simp⟩
  refine ⟨_, _, ?_, ?_, g.1, g.2⟩
  ·simp only [Instr.range, Sem.run_bind, run_underlying ht, Result.andThen_ok, conc, Sem.run_pure, run_newObj_alloc, h.next, grow_ρ_new]
  ·simp [wf, h.next, grow_N]
 ·cases hr
theorem nextS_got {P : Program} {x v : V} {σ' : H} (h : Rel c σ w) (hr : nextS σ x = some (v, σ')) (ty : TypeId) : Got P (Instr.next (conc c x) true ty) c w v σ' := by
 unfold nextS at hr
 split at hr
 ·rename_i r off
  cases hq : Nat.beq off 0 with
  | false => rw [hq] at hr; cases hr
  | true =>
   rw [hq, cond_true] at hr
   have := beq_iff.1 hq
   subst this
   split at hr
   ·rename_i l pos hg
    obtain ⟨hl, hz, hb⟩ := h.obj r _ hg
    have hcr : conc c (.ptr r 0) = .pointer (some ⟨(c.ρ r).1, 0, none⟩) := by simp [conc, hz]
    rw [hcr]
    rw [nth_eq] at hr
    split at hr
    ·rename_i hn
     simp only [Option.some.injEq, Prod.mk.injEq] at hr
     obtain ⟨rfl, rfl⟩ := hr
     have hp : ¬ pos < (⟨(l.map UInt8.ofNat).toArray⟩ : ByteArray).size := by
      have := List.getElem?_eq_none_iff.1 hn
      simp [ByteArray.size]; omega
     exact ⟨w, c, by rw [Lib.run_next_end_at w _ _ _ ty hb hp]; simp [conc, concL], by simp [wf, wfL], h, Stp.refl c w⟩
    ·rename_i b hn
     cases hb2 : Nat.blt b 128 with
     | false => rw [hb2] at hr; cases hr
     | true =>
      rw [hb2, cond_true] at hr
      simp only [Option.some.injEq, Prod.mk.injEq] at hr
      obtain ⟨rfl, rfl⟩ := hr
      have hb3 := blt_iff.1 hb2
      obtain ⟨hp0, he⟩ := List.getElem?_eq_some_iff.1 hn
      have hp : pos < (⟨(l.map UInt8.ofNat).toArray⟩ : ByteArray).size := by simpa [ByteArray.size] using hp0
      have hv : ((⟨(l.map UInt8.ofNat).toArray⟩ : ByteArray)[pos]'hp).toNat = b := by
       have : (⟨(l.map UInt8.ofNat).toArray⟩ : ByteArray)[pos]'hp = UInt8.ofNat b := by
        show ((l.map UInt8.ofNat).toArray)[pos]'(by simpa using hp0) = _
        simp [he]
       rw [this, UInt8.toNat_ofNat']
       omega
      obtain ⟨r1, s1⟩ := h.setStr (pos' := pos + 1) hg
      refine ⟨_, c, ?_, by simp [wf, wfL], r1, s1⟩
      rw [Lib.run_next_ascii_at w _ _ _ ty hb hp (by rw [hv]; exact hb3), hv]
      simp only [conc, concL]
      rfl
   ·cases hr
 ·cases hr
theorem nextAll_got {P : Program} {r : Nat} {L : List (V × H)} (h : Rel c σ w) (hr : nextAll σ r = some L) (ty : TypeId) :
  ∃ q ∈ L, Got P (Instr.next (conc c (.ptr r 0)) false ty) c w q.1 q.2 := by
 unfold nextAll at hr
 split at hr
 ·rename_i mid since last seen hg
  split at hr
  ·rename_i es clock hm
   obtain ⟨hmid, hz, hb⟩ := h.obj r _ hg
   obtain ⟨hw, hmb⟩ := h.obj mid _ hm
   cases hq : (allOld since es && Nat.ble since last) with
   | false => rw [hq] at hr; cases hr
   | true =>
    rw [hq, cond_true] at hr
    simp only [Bool.and_eq_true, ble_iff] at hq
    have hold := allOld_ok es hq.1
    have hcr : conc c (.ptr r 0) = .pointer (some ⟨(c.ρ r).1, 0, none⟩) := by simp [conc, hz]
    rw [hcr]
    have hL : (leftOf (es.map (concE c)).toArray seen.toArray).toList = (leftV seen es).map (concE c) := by
     rw [leftV_eq]
     simp [leftOf]
    rcases run_next_at (P := P) w ty (c.ρ r).1 (c.ρ mid).1 since last seen.toArray (es.map (concE c)).toArray clock hb hmb (fun x hx => by
     simp only [List.mem_map] at hx
     obtain ⟨e, he, rfl⟩ := hx
     exact hold e he) hq.2 with ⟨h0, hrun⟩ | ⟨e, he, w1, hw1, hrun⟩
    ·have hnil : leftV seen es = [] := by
      have : ((leftV seen es).map (concE c)).length = 0 := by rw [← hL]; simpa using h0
      simpa using this
     rw [hnil] at hr
     simp only [Option.some.injEq] at hr
     subst hr
     exact ⟨_, List.mem_singleton.2 rfl, w, c, by rw [hrun]; simp [conc, concL], by simp [wf, wfL], h, Stp.refl c w⟩
    ·rw [hL] at he
     obtain ⟨e0, he0, rfl⟩ := List.mem_map.1 he
     have hcons : L = (leftV seen es).map fun e => (.tup [.bool true, e.1, e.2.1], σ.put r (some (.iter mid since clock (seen ++ [e.2.2])))) := by
      cases hl : leftV seen es with
      | nil => rw [hl] at he0; cases he0
      | cons y l => rw [hl] at hr; simp only [Option.some.injEq] at hr; exact hr.symm
     have hmem : e0 ∈ es := by
      have : ∀ (es : List (V × V × Nat)), e0 ∈ leftV seen es → e0 ∈ es := by
       intro es
       induction es with
       | nil => intro h; cases h
       | cons y es ih =>
        intro h
        simp only [leftV] at h
        cases hy : inL seen y.2.2 with
        | true => rw [hy, cond_true] at h; exact List.mem_cons_of_mem _ (ih h)
        | false =>
         rw [hy, cond_false] at h
         rcases List.mem_cons.1 h with rfl | h
         ·exact List.mem_cons_self
         ·exact List.mem_cons_of_mem _ (ih h)
      exact this es he0
     refine ⟨_, by rw [hcons]; exact List.mem_map.2 ⟨e0, he0, rfl⟩, ?_⟩
     have hrel : Rel c σ w1 ∧ Stp c w c w1 := by
      rcases hw1 with rfl | rfl
      ·exact ⟨h, Stp.refl c _⟩
      ·exact ⟨h.drew, Stp.drew c w⟩
     obtain ⟨r1, s1⟩ := hrel.1.setIter (last' := clock) (seen' := seen ++ [e0.2.2]) hg
     refine ⟨_, c, ?_, by simp only [wf, wfL, and_true, true_and]; exact hw e0 hmem, r1, hrel.2.trans s1⟩
     rw [hrun]
     have : (seen ++ [e0.2.2]).toArray = seen.toArray.push e0.2.2 := by simp
     simp only [conc, concL, concE, this]
     rfl
  ·cases hr
 ·cases hr
theorem nextV_got {P : Program} {x v : V} {σ' : H} (h : Rel c σ w) (hr : nextV σ x = some (v, σ')) (ty : TypeId) : Got P (Instr.next (conc c x) false ty) c w v σ' := by
 unfold nextV at hr
 split at hr
 ·rename_i r off
  cases hq : Nat.beq off 0 with
  | false => rw [hq] at hr; cases hr
  | true =>
   rw [hq, cond_true] at hr
   have := beq_iff.1 hq
   subst this
   split at hr
   ·rename_i q hn
    simp only [Option.some.injEq] at hr
    subst hr
    obtain ⟨q', hq', hg⟩ := nextAll_got (P := P) h hn ty
    rw [List.mem_singleton.1 hq'] at hg
    exact hg
   ·cases hr
 ·cases hr
theorem entryV_ok {P : Program} {x v : V} (h : Rel c σ w) (hr : entryV σ x = some v) : (Instr.entry (conc c x)).run P w = .ok (conc c v) w ∧ wf c v := by
 unfold entryV at hr
 split at hr
 ·rename_i r off
  cases hq : Nat.beq off 0 with
  | false => rw [hq] at hr; cases hr
  | true =>
   rw [hq, cond_true] at hr
   have := beq_iff.1 hq
   subst this
   split at hr
   ·rename_i mid since last seen hg
    split at hr
    ·rename_i es clock hm
     obtain ⟨hmid, hz, hb⟩ := h.obj r _ hg
     obtain ⟨hw, hmb⟩ := h.obj mid _ hm
     cases hq2 : (Nat.beq clock last && bornRise 0 es) with
     | false => rw [hq2] at hr; cases hr
     | true =>
      rw [hq2, cond_true] at hr
      simp only [Bool.and_eq_true, beq_iff] at hq2
      obtain ⟨rfl, hrise⟩ := hq2
      split at hr
      ·rename_i b hb2
       split at hr
       ·rename_i e he
        simp only [Option.some.injEq] at hr
        subst hr
        obtain ⟨i, rfl⟩ := lastN_ok seen b hb2
        obtain ⟨h1, rfl⟩ := entryOf_ok es e he
        have hcr : conc c (.ptr r 0) = .pointer (some ⟨(c.ρ r).1, 0, none⟩) := by simp [conc, hz]
        rw [hcr]
        have hb' : w.heap[(c.ρ r).1]? = some (.mapIter (some (c.ρ mid).1) since (i.toArray.push (concE c e).born) clock) := by
         rw [hb]; simp [concE]
        have hnd : ((es.map (concE c)).toArray.toList.map (·.born)).Nodup := by
         have := (bornRise_ok es 0 hrise).2
         have e1 : (es.map (concE c)).toArray.toList.map (·.born) = es.map (·.2.2) := by simp [concE, Function.comp_def]
         rw [e1]
         exact this.imp fun {a b} hab => by omega
        refine ⟨?_, by simp only [wf, wfL, and_true]; exact hw e h1⟩
        rw [run_entry_at (P := P) w (c.ρ r).1 (c.ρ mid).1 since i.toArray (es.map (concE c)).toArray clock (concE c e) hb' hmb (by simpa using ⟨_, _, _, h1, rfl⟩) hnd]
        simp [conc, concL, concE]
       ·cases hr
      ·cases hr
    ·cases hr
   ·cases hr
 ·cases hr
theorem evCall_ok (hS : SelfOkR C.P self) (hT : ToldOk C) {cl : Call} {v : V} {σ' : H} (ho : o.op = .call cl) (h : Rel c σ w) (he : OpnOk c env a o) (hr : evCall C self env σ cl = some (v, σ')) :
  OpOk C.P o a c w v σ' := by
 unfold evCall at hr
 cases ha : evArgs env cl.args.toList with
 | none => simp [ha] at hr
 | some args =>
  simp only [ha] at hr
  obtain ⟨g1, g2⟩ := evArgs_on (a := a) (c := c) _ _ (fun x hx => he x (by simp only [ho, Op.operands, Call.operands, Array.mem_append]; exact .inr (by simpa using hx))) ha
  have hargs : cl.args.map a.eval = (args.map (conc c)).toArray := by
   apply Array.ext'
   simpa using g1
  split at hr
  ·rename_i b hb
   obtain ⟨s, e1, e2⟩ := builtin_ok (C := C) (ty := o.type) (cs := cl.args.map fun | .const _ => true | _ => false) h hr g2
   refine wp_got (s := s) ?_ e2
   simp only [execOp, ho, resolve, hb, pure_bind, invoke, hargs]
   exact e1
  ·rename_i f hf
   cases hv : evO env f with
   | none => simp [hv] at hr
   | some fv =>
    simp only [hv] at hr
    obtain ⟨f1, f2⟩ := he f (by simp [ho, Op.operands, Call.operands, hf]) _ hv
    unfold callV at hr
    split at hr
    ·rename_i k first captured
     have fw : (∀ x ∈ first, wf c x) ∧ (∀ x ∈ captured, wf c x) := by
      have : wfL c first ∧ wfL c captured := by simpa [wf] using f2
      exact ⟨wfL_iff.1 this.1, wfL_iff.1 this.2⟩
     have hall : ∀ x ∈ first ++ (args ++ captured), wf c x := by
      intro x hx
      rcases List.mem_append.1 hx with hx | hx
      ·exact fw.1 x hx
      ·rcases List.mem_append.1 hx with hx | hx
       ·exact g2 x hx
       ·exact fw.2 x hx
     cases hbd : hasBody C.P k with
     | false =>
      rw [hbd, cond_false] at hr
      split at hr
      ·rename_i g hg
       rcases hT k g hg with ⟨⟨fn, t1, t2, _⟩, _⟩ | ⟨_, t4⟩
       ·unfold hasBody at hbd
        rw [t1] at hbd
        simp only at hbd
        rw [t2] at hbd
        cases hbd
       ·obtain ⟨c', w', u1, u2, u3, u4⟩ := t4 _ σ v σ' hr c w h hall
        refine .inl ⟨c', w', .inl ?_, u2, u3, u4⟩
        simp only [execOp, ho, resolve, hf, hargs, f1, conc, concL_eq, Deferred.ofValue, pure_bind, invoke]
        rw [show (first.map (conc c)).toArray ++ (args.map (conc c)).toArray ++ (captured.map (conc c)).toArray = ((first ++ (args ++ captured)).map (conc c)).toArray from by
         apply Array.ext'; simp]
        exact u1
      ·cases hr
     | true =>
     rw [hbd, cond_true] at hr
     obtain ⟨q1, q2⟩ := callF_ok hS.wide hT hr h hall
     refine wp_call ?_ q1
     simp only [execOp, ho, resolve, hf, hargs, f1, conc, concL_eq, Deferred.ofValue, pure_bind, invoke]
     rw [show (first.map (conc c)).toArray ++ (args.map (conc c)).toArray ++ (captured.map (conc c)).toArray = ((first ++ (args ++ captured)).map (conc c)).toArray from by
      apply Array.ext'; simp]
     exact q2 _ w
    ·rename_i id
     have f3 : id < c.N := by simpa [wf] using f2
     obtain ⟨l, fn, tmps, assign, bd, y1, y2⟩ := round_ok hS hr h g2
     refine .inr (.inr ⟨l, fn, tmps, assign, bd, ?_, y2⟩)
     simp only [execOp, ho, resolve, hf, hargs, f1, conc, Deferred.ofValue, pure_bind, invoke]
     rw [show (#[] : Array Value) ++ (args.map (conc c)).toArray = (args.map (conc c)).toArray from by simp]
     exact y1
    ·simp at hr
  ·rename_i r m hm
   split at hr
   ·rename_i t x hv
    obtain ⟨f1, f2⟩ := he r (by simp [ho, Op.operands, Call.operands, hm]) _ hv
    cases hme : methV C.P t m with
    | none => simp [hme] at hr
    | some f =>
     simp only [hme] at hr
     obtain ⟨q1, q2⟩ := callF_ok hS.wide hT hr h (by
      intro y hy
      rcases List.mem_cons.1 hy with rfl | hy
      ·simpa [wf] using f2
      ·exact g2 y hy)
     refine wp_call ?_ q1
     have hmm := methV_ok hme (C.P.types.size + 99) (conc c x) w
     simp only [execOp, ho, resolve, hm, hargs, f1, conc, pure_bind, invoke]
     have h1 : ((#[Value.iface t (conc c x)] ++ (args.map (conc c)).toArray : Array Value))[0]? = some (.iface t (conc c x)) := by simp
     have h2 : (#[Value.iface t (conc c x)] ++ (args.map (conc c)).toArray : Array Value).extract 1 (#[Value.iface t (conc c x)] ++ (args.map (conc c)).toArray : Array Value).size = (args.map (conc c)).toArray := by
      apply Array.ext'; simp [List.take_of_length_le]
     rw [h1, h2]
     simp only [callMethod, Sem.run_bind, run_program, Result.andThen_ok, Made.depth]
     rw [hmm]
     simp only [Result.andThen_ok]
     rw [show (#[conc c x] ++ (args.map (conc c)).toArray : Array Value) = ((x :: args).map (conc c)).toArray from by apply Array.ext'; simp]
     exact q2 _ w
   ·simp at hr
theorem pureV_some {x : Option V} {h : H} {r : V × H} (e : pureV x h = some r) : x = some r.1 ∧ r.2 = h := by
 cases x with
 | none => simp [pureV] at e
 | some v => simp [pureV] at e; subst e; exact ⟨rfl, rfl⟩
theorem unitV_some {x : Option H} {r : V × H} (e : unitV x = some r) : x = some r.2 ∧ r.1 = undefV := by
 cases x with
 | none => simp [unitV] at e
 | some v => simp [unitV] at e; subst e; exact ⟨rfl, rfl⟩
theorem wp_value {v : V} (he : (execOp a.eval o).run C.P w = .ok (.value (conc c v)) w) (h : Rel c σ w) (hv : wf c v) : OpOk C.P o a c w v σ :=
 .inl ⟨c, w, .inl he, h, Stp.refl c w, hv⟩
theorem optV_on {x : Option Operand} {v : Option V} (he : ∀ y, x = some y → ∀ v, evO env y = some v → a.eval y = conc c v ∧ wf c v) (h : optV env x = some v) : x.map a.eval = v.map (conc c) := by
 cases x with
 | none => simp [optV] at h; subst h; rfl
 | some y =>
  simp only [optV] at h
  cases hy : evO env y with
  | none => simp [hy] at h
  | some u =>
   simp [hy] at h
   subst h
   simp [(he y rfl u hy).1]
theorem evOp_ok (hS : SelfOkR C.P self) (hT : ToldOk C) {v : V} {σ' : H} (h : Rel c σ w) (he : OpnOk c env a o) (hr : evOp C self env σ o = some (v, σ')) :
  OpOk C.P o a c w v σ' := by
 unfold evOp at hr
 split at hr
 case h_1 ho =>
  obtain ⟨e1, e2⟩ := pureV_some hr
  simp only at e1 e2; subst e2
  obtain ⟨f1, f2⟩ := he _ (by simp [ho, Op.operands]) _ e1
  exact wp_value (by simp [execOp, ho, f1]) h f2
 case h_2 ho =>
  obtain ⟨e1, e2⟩ := pureV_some hr
  simp only at e1 e2; subst e2
  obtain ⟨f1, f2⟩ := he _ (by simp [ho, Op.operands]) _ e1
  exact wp_value (by simp [execOp, ho, f1]) h f2
 case h_3 x y z ho =>
  split at hr
  ·rename_i t hx
   obtain ⟨e1, e2⟩ := pureV_some hr
   simp only at e1 e2; subst e2
   obtain ⟨f1, f2⟩ := he _ (by cases t <;> simp [ho, Op.operands]) _ e1
   obtain ⟨g1, _⟩ := he _ (by simp [ho, Op.operands]) _ hx
   refine wp_value ?_ h f2
   cases t <;> simp only [cond_true, cond_false] at f1 <;> simp [execOp, ho, f1, g1, conc, asBool]
  ·simp at hr
 case h_4 t ho =>
  split at hr
  ·rename_i z hz
   simp only [Option.some.injEq, Prod.mk.injEq] at hr
   obtain ⟨rfl, rfl⟩ := hr
   exact wp_got (by simp [execOp, ho]) (alloc_got h hz)
  ·simp at hr
 case h_5 t x ho =>
  split at hr
  ·rename_i u hu
   cases hs : u.cells.all storable with
   | false => simp [hs] at hr
   | true =>
    simp only [hs, cond_true, Option.some.injEq, Prod.mk.injEq] at hr
    obtain ⟨rfl, rfl⟩ := hr
    obtain ⟨f1, f2⟩ := he _ (by simp [ho, Op.operands]) _ hu
    exact wp_got (by simp [execOp, ho, f1]) (box_got (t := t) h f2 hs)
  ·simp at hr
 case h_6 t ps ho =>
  split at hr
  ·rename_i l hl
   obtain ⟨e1, e2⟩ := pureV_some hr
   simp only at e1 e2; subst e2
   obtain ⟨f1, f2⟩ := evParts_on (a := a) (c := c) _ _ (fun x hx => he x.2 (by simp only [ho, Op.operands]; simp; exact ⟨x.1, by simpa using hx⟩)) hl
   have hps : (ps.map fun (i, x) => (i, a.eval x)) = (l.map fun x => (x.1, conc c x.2)).toArray := by
    apply Array.ext'
    simpa using f1
   exact wp_got (by simp only [execOp, ho]; rw [hps]) (Got.same h (buildV_ok e1 f2 w))
  ·simp at hr
 case h_7 t m ps ho =>
  split at hr
  ·rename_i l hl
   obtain ⟨f1, f2⟩ := evParts_on (a := a) (c := c) _ _ (fun x hx => he x.2 (by simp only [ho, Op.operands]; simp; exact ⟨x.1, by simpa using hx⟩)) hl
   have hps : (ps.map fun (i, x) => (i, a.eval x)) = (l.map fun x => (x.1, conc c x.2)).toArray := by
    apply Array.ext'
    simpa using f1
   exact wp_got (by simp only [execOp, ho]; rw [hps]) (buildSliceV_got h hr f2)
  ·simp at hr
 case h_8 t x ho =>
  split at hr
  ·rename_i u hu
   obtain ⟨e1, e2⟩ := pureV_some hr
   simp only at e1 e2; subst e2
   obtain ⟨f1, f2⟩ := he _ (by simp [ho, Op.operands]) _ hu
   exact wp_got (by simp only [execOp, ho, f1]) (Got.same h (loadV_ok h e1))
  ·simp at hr
 case h_9 t x y ho =>
  split at hr
  ·rename_i p u hp hu
   obtain ⟨e1, e2⟩ := unitV_some hr
   simp only at e1 e2; subst e2
   obtain ⟨f1, f2⟩ := he _ (by simp [ho, Op.operands]) _ hp
   obtain ⟨g1, g2⟩ := he _ (by simp [ho, Op.operands]) _ hu
   obtain ⟨w', s1, s2, s3⟩ := storeV_ok h e1 g2
   exact wp_gotU (by simp only [execOp, ho, f1, g1]) ⟨w', c, s1, s2, s3⟩
  ·simp at hr
 case h_10 x ho =>
  split at hr
  ·rename_i i j hx
   simp only [Option.some.injEq, Prod.mk.injEq] at hr
   obtain ⟨rfl, rfl⟩ := hr
   obtain ⟨f1, f2⟩ := he _ (by simp [ho, Op.operands]) _ hx
   refine wp_value ?_ h f2
   simp only [conc] at f1
   simp [execOp, ho, f1, conc]
  ·simp at hr
 case h_11 op t x y u ho =>
  split at hr
  ·rename_i p q hp hq
   obtain ⟨e1, e2⟩ := pureV_some hr
   simp only at e1 e2; subst e2
   obtain ⟨f1, f2⟩ := he _ (by simp [ho, Op.operands]) _ hp
   obtain ⟨g1, g2⟩ := he _ (by simp [ho, Op.operands]) _ hq
   exact wp_got (by simp only [execOp, ho, f1, g1]) (Got.same h (binV_ok h e1 f2 g2))
  ·simp at hr
 case h_12 op t x ho =>
  split at hr
  ·rename_i u hu
   obtain ⟨e1, e2⟩ := pureV_some hr
   simp only at e1 e2; subst e2
   obtain ⟨f1, f2⟩ := he _ (by simp [ho, Op.operands]) _ hu
   exact wp_got (by simp only [execOp, ho, f1]) (Got.same h (unV_ok e1 w))
  ·simp at hr
 case h_13 s d x ho =>
  split at hr
  ·rename_i u hu
   obtain ⟨f1, f2⟩ := he _ (by simp [ho, Op.operands]) _ hu
   split at hr
   ·rename_i r hc
    obtain ⟨r1, r2⟩ := r
    simp only [Option.some.injEq, Prod.mk.injEq] at hr
    obtain ⟨rfl, rfl⟩ := hr
    obtain ⟨q1, q2, q3⟩ := convV_ok h hc f2
    subst q3
    exact wp_got (by simp only [execOp, ho, f1]) (Got.same h ⟨q1, q2⟩)
   ·exact wp_got (by simp only [execOp, ho, f1]) (convB_got h hr f2)
  ·simp at hr
 case h_14 d x ho =>
  split at hr
  ·rename_i u hu
   obtain ⟨e1, e2⟩ := pureV_some hr
   simp only at e1 e2; subst e2
   obtain ⟨f1, f2⟩ := he _ (by simp [ho, Op.operands]) _ hu
   exact wp_got (by simp only [execOp, ho, f1]) (Got.same h (arrPtrV_ok e1 f2 w))
  ·simp at hr
 case h_15 t x ho =>
  split at hr
  ·rename_i u hu
   obtain ⟨e1, e2⟩ := pureV_some hr
   simp only at e1 e2; subst e2
   obtain ⟨f1, f2⟩ := he _ (by simp [ho, Op.operands]) _ hu
   exact wp_got (by simp only [execOp, ho, f1]) (Got.same h (makeIfaceV_ok e1 f2 w))
  ·simp at hr
 case h_16 f x y ho =>
  split at hr
  ·rename_i l m hl hm
   simp only [Option.some.injEq, Prod.mk.injEq] at hr
   obtain ⟨rfl, rfl⟩ := hr
   obtain ⟨f1, f2⟩ := evArgs_on (a := a) (c := c) _ _ (fun x hx => he x (by simp only [ho, Op.operands, Array.mem_append]; exact .inl (by simpa using hx))) hl
   obtain ⟨g1, g2⟩ := evArgs_on (a := a) (c := c) _ _ (fun x hx => he x (by simp only [ho, Op.operands, Array.mem_append]; exact .inr (by simpa using hx))) hm
   have h1 : x.map a.eval = (l.map (conc c)).toArray := by apply Array.ext'; simpa using f1
   have h2 : y.map a.eval = (m.map (conc c)).toArray := by apply Array.ext'; simpa using g1
   exact wp_got (s := Instr.makeFunc f (l.map (conc c)).toArray (m.map (conc c)).toArray) (by simp only [execOp, ho, h1, h2]) (Got.same h ⟨by simp [Instr.makeFunc, conc, concL_eq], by simp only [wf, wfL_iff]; exact ⟨f2, g2⟩⟩)
  ·simp at hr
 case h_17 t r ho =>
  split at hr
  ·simp only [Option.some.injEq, Prod.mk.injEq] at hr
   obtain ⟨rfl, rfl⟩ := hr
   exact wp_got (by simp only [execOp, ho, Option.map_none]) (makeMap_got h t)
  ·simp at hr
 case h_18 t x y ho =>
  split at hr
  ·rename_i p q hp hq
   obtain ⟨f1, f2⟩ := he _ (by simp [ho, Op.operands]) _ hp
   obtain ⟨g1, g2⟩ := he _ (by simp [ho, Op.operands]) _ hq
   exact wp_got (by simp only [execOp, ho, f1, g1]) (makeSliceV_got h hr)
  ·simp at hr
 case h_19 t x lo hi mx ho =>
  split at hr
  ·rename_i u x1 x2 x3 hu h1 h2 h3
   split at hr
   ·rename_i b1 b2 b3 q1 q2 q3
    obtain ⟨e1, e2⟩ := pureV_some hr
    simp only at e1 e2; subst e2
    obtain ⟨f1, f2⟩ := he _ (by simp [ho, Op.operands]) _ hu
    have m1 := optV_on (c := c) (a := a) (fun y hy => he y (by simp [ho, Op.operands, hy])) h1
    have m2 := optV_on (c := c) (a := a) (fun y hy => he y (by simp [ho, Op.operands, hy])) h2
    have m3 := optV_on (c := c) (a := a) (fun y hy => he y (by simp [ho, Op.operands, hy])) h3
    exact wp_got (by simp only [execOp, ho, f1, m1, m2, m3]) (Got.same h (sliceV_ok h q1 q2 q3 e1 f2))
   ·simp at hr
  ·simp at hr
 case h_20 t x i ho =>
  split at hr
  ·rename_i u hu
   obtain ⟨e1, e2⟩ := pureV_some hr
   simp only at e1 e2; subst e2
   obtain ⟨f1, f2⟩ := he _ (by simp [ho, Op.operands]) _ hu
   exact wp_got (by simp only [execOp, ho, f1]) (Got.same h (fieldAddrV_ok e1 f2 w))
  ·simp at hr
 case h_21 t x i ho =>
  split at hr
  ·rename_i u hu
   obtain ⟨e1, e2⟩ := pureV_some hr
   simp only at e1 e2; subst e2
   obtain ⟨f1, f2⟩ := he _ (by simp [ho, Op.operands]) _ hu
   exact wp_got (by simp only [execOp, ho, f1]) (Got.same h (fieldV_ok e1 f2 w))
  ·simp at hr
 case h_22 t x i ho =>
  split at hr
  ·rename_i p q hp hq
   obtain ⟨e1, e2⟩ := pureV_some hr
   simp only at e1 e2; subst e2
   obtain ⟨f1, f2⟩ := he _ (by simp [ho, Op.operands]) _ hp
   obtain ⟨g1, g2⟩ := he _ (by simp [ho, Op.operands]) _ hq
   exact wp_got (by simp only [execOp, ho, f1, g1]) (Got.same h (indexAddrV_ok e1 f2 w))
  ·simp at hr
 case h_23 t x i ho =>
  split at hr
  ·rename_i p q hp hq
   obtain ⟨e1, e2⟩ := pureV_some hr
   simp only at e1 e2; subst e2
   obtain ⟨f1, f2⟩ := he _ (by simp [ho, Op.operands]) _ hp
   obtain ⟨g1, g2⟩ := he _ (by simp [ho, Op.operands]) _ hq
   exact wp_got (by simp only [execOp, ho, f1, g1]) (Got.same h (indexV_ok e1 f2 w))
  ·simp at hr
 case h_24 t x k ok ho =>
  split at hr
  ·rename_i p q hp hq
   obtain ⟨e1, e2⟩ := pureV_some hr
   simp only at e1 e2; subst e2
   obtain ⟨f1, f2⟩ := he _ (by simp [ho, Op.operands]) _ hp
   obtain ⟨g1, g2⟩ := he _ (by simp [ho, Op.operands]) _ hq
   exact wp_got (by simp only [execOp, ho, f1, g1]) (Got.same h (lookupX_ok h e1 f2 g2))
  ·simp at hr
 case h_25 t m k x ho =>
  split at hr
  ·rename_i p q r hp hq hr'
   obtain ⟨e1, e2⟩ := unitV_some hr
   simp only at e1 e2; subst e2
   obtain ⟨f1, f2⟩ := he _ (by simp [ho, Op.operands]) _ hp
   obtain ⟨g1, g2⟩ := he _ (by simp [ho, Op.operands]) _ hq
   obtain ⟨i1, i2⟩ := he _ (by simp [ho, Op.operands]) _ hr'
   exact wp_gotU (by simp only [execOp, ho, f1, g1, i1]) (mapUpdateV_got h e1 g2 i2)
  ·simp at hr
 case h_26 t m k x ho =>
  split at hr
  ·rename_i p q r hp hq hr'
   obtain ⟨e1, e2⟩ := unitV_some hr
   simp only at e1 e2; subst e2
   obtain ⟨f1, f2⟩ := he _ (by simp [ho, Op.operands]) _ hp
   obtain ⟨g1, g2⟩ := he _ (by simp [ho, Op.operands]) _ hq
   obtain ⟨i1, i2⟩ := he _ (by simp [ho, Op.operands]) _ hr'
   exact wp_gotU (by simp only [execOp, ho, f1, g1, i1]) (mapUpdateV_got h e1 g2 i2)
  ·simp at hr
 case h_27 t m k ho =>
  split at hr
  ·rename_i p q hp hq
   obtain ⟨f1, f2⟩ := he _ (by simp [ho, Op.operands]) _ hp
   obtain ⟨g1, g2⟩ := he _ (by simp [ho, Op.operands]) _ hq
   exact wp_got (by simp only [execOp, ho, f1, g1]) (mapEntryV_got h hr g2)
  ·simp at hr
 case h_28 t m s x ho =>
  split at hr
  ·rename_i p q r hp hq hr'
   obtain ⟨e1, e2⟩ := unitV_some hr
   simp only at e1 e2; subst e2
   obtain ⟨f1, f2⟩ := he _ (by simp [ho, Op.operands]) _ hp
   obtain ⟨g1, g2⟩ := he _ (by simp [ho, Op.operands]) _ hq
   obtain ⟨i1, i2⟩ := he _ (by simp [ho, Op.operands]) _ hr'
   exact wp_gotU (by simp only [execOp, ho, f1, g1, i1]) (entryStoreV_got (t := t) h e1 i2)
  ·simp at hr
 case h_29 x xt t ok ho =>
  split at hr
  ·rename_i u hu
   obtain ⟨e1, e2⟩ := pureV_some hr
   simp only at e1 e2; subst e2
   obtain ⟨f1, f2⟩ := he _ (by simp [ho, Op.operands]) _ hu
   exact wp_got (by simp only [execOp, ho, f1]) (Got.same h (assertV_ok (xt := xt) e1 f2 w))
  ·simp at hr
 case h_30 t i ho =>
  split at hr
  ·rename_i l hl
   obtain ⟨e1, e2⟩ := pureV_some hr
   simp only [nth_eq] at e1 e2; subst e2
   obtain ⟨f1, f2⟩ := he _ (by simp [ho, Op.operands]) _ hl
   have hv : wf c v := by
    have : wfL c l := by simpa [wf] using f2
    exact wfL_iff.1 this v (List.mem_of_getElem? e1)
   refine wp_value ?_ h hv
   simp only [execOp, ho, f1, conc, concL_eq, Instr.extract]
   simp [e1]
  ·simp at hr
 case h_31 cl ho => exact evCall_ok hS hT ho h he hr
 case h_32 t x ho =>
  split at hr
  ·rename_i u hx
   obtain ⟨f1, f2⟩ := he x (by simp [ho, Op.operands]) _ hx
   exact wp_got (by simp only [execOp, ho, f1]) (rangeV_got h hr f2)
  ·simp at hr
 case h_33 it str ho =>
  split at hr
  ·rename_i u hx
   obtain ⟨f1, f2⟩ := he it (by simp [ho, Op.operands]) _ hx
   cases str with
   | true => exact wp_got (s := Instr.next (conc c u) true o.type) (by simp only [execOp, ho, f1]) (nextS_got h hr o.type)
   | false => exact wp_got (s := Instr.next (conc c u) false o.type) (by simp only [execOp, ho, f1]) (nextV_got h hr o.type)
  ·simp at hr
 case h_34 it ho =>
  split at hr
  ·rename_i u hx
   obtain ⟨f1, f2⟩ := he it (by simp [ho, Op.operands]) _ hx
   obtain ⟨e1, e2⟩ := pureV_some hr
   simp only at e1 e2
   subst e2
   exact wp_got (by simp only [execOp, ho, f1]) (Got.same h (entryV_ok h e1))
  ·simp at hr
 case h_35 => simp at hr
theorem evOp_nodefer {r : V × H} (hr : evOp C self env σ o = some r) : ∀ d, o.op ≠ .defer d := by
 intro d hd
 unfold evOp at hr
 rw [hd] at hr
 cases hr
theorem wantedV_on {ops : Array Oper} (he : ∀ j w d, o.guard = some (j, w) → (ops[j]?).bind (·.dst) = some d → a.tmps.getD d undef = conc c (env.v d)) :
  Region.wanted o (yielded ops a.tmps) = wantedV ops.toList env o := by
 unfold Region.wanted wantedV
 cases hg : o.guard with
 | none => rfl
 | some jw =>
  obtain ⟨j, want⟩ := jw
  simp only [yielded, nth_eq, Array.getElem?_toList]
  cases hd : (ops[j]?).bind (·.dst) with
  | none => simp
  | some d =>
   have hv := he j want d hg hd
   simp only [Option.bind_some]
   by_cases hlt : d < a.tmps.size
   ·have h1 : a.tmps[d]? = some (conc c (env.v d)) := by
     rw [← hv]; simp [Array.getD, hlt]
    rw [h1]
    generalize env.v d = x
    cases x with
    | bool b => cases b <;> cases want <;> simp [conc]
    | sl i p q cap => cases cap <;> simp [conc]
    | _ => simp [conc]
   ·have h1 : a.tmps[d]? = none := Array.getElem?_eq_none (Nat.le_of_not_lt hlt)
    have h2 : conc c (env.v d) = undef := by rw [← hv]; simp [Array.getD, hlt]
    rw [h1]
    generalize env.v d = x at h2
    cases x with
    | bool b => simp [conc, undef] at h2
    | sl i p q cap => cases cap <;> simp
    | _ => simp
theorem wantedV_ok {n : Nat} (he : EnvOk c env n a) {ops : Array Oper} : Region.wanted o (yielded ops a.tmps) = wantedV ops.toList env o :=
 wantedV_on fun _ _ d _ _ => he.val d
end ops
theorem evOps_ok (hS : SelfOkR C.P self) (hT : ToldOk C) {r : Option Nat} {ops : Array Oper} {Q : Exit → Act → World → Prop} : ∀ (l : List Oper) (k : Nat) (s s' : St) (c : Ctx) (a : Act) (w : World),
  (∀ j, l[j]? = ops[k + j]?) → evOps C self ops.toList l s = some s' → Rel c s.h w → EnvOk c s.env s.ntm a →
  (∀ c' a' w', Rel c' s'.h w' → EnvOk c' s'.env s'.ntm a' → Stp c w c' w' → a'.defers = a.defers → Q .normal a' w') →
  wpOpsIn (Fr r) 0 C.P ops Q (List.range' k l.length) a w := by
 intro l
 induction l with
 | nil =>
  intro k s s' c a w _ hr h he hQ
  simp only [evOps, Option.some.injEq] at hr
  subst hr
  simp only [List.length_nil, List.range'_zero, wpOpsIn]
  exact hQ c a w h he (Stp.refl c w) rfl
 | cons o l ih =>
  intro k s s' c a w hl hr h he hQ
  have h0 : ops[k]? = some o := by simpa using (hl 0).symm
  have hl' : ∀ j, l[j]? = ops[k + 1 + j]? := fun j => by have := hl (j + 1); simpa [Nat.add_assoc, Nat.add_comm 1 j] using this
  simp only [List.length_cons, List.range'_succ, wpOpsIn, h0]
  rw [wantedV_ok he]
  simp only [evOps] at hr
  cases hw : wantedV ops.toList s.env o with
  | true =>
   rw [hw, cond_true] at hr
   simp only [if_true]
   cases ho : evOp C self s.env s.h o with
   | none => simp [ho] at hr
   | some r =>
    obtain ⟨v, σ'⟩ := r
    simp only [ho] at hr
    cases hp : s.put o.dst v σ' with
    | none => simp [hp] at hr
    | some s₁ =>
     simp only [hp] at hr
     refine (evOp_ok hS hT h (he.opn o) ho).wpIn (evOp_nodefer ho) ?_
     intro c' w' r1 r2 r3
     obtain ⟨p1, p2, p3⟩ := St.put_ok (he.ext r2.ext) r3 hp
     refine ih (k + 1) s₁ s' c' _ w' hl' hr (by rw [p2]; exact r1) p1 ?_
     intro c'' a'' w'' q1 q2 q3 q4
     exact hQ c'' a'' w'' q1 q2 (r2.trans q3) (by rw [q4]; cases o.dst <;> rfl)
  | false =>
   rw [hw, cond_false] at hr
   simp only [Bool.false_eq_true, if_false]
   refine ⟨fun _ _ => trivial, ?_⟩
   cases hp : s.put o.dst undefV s.h with
   | none => simp [hp] at hr
   | some s₁ =>
    simp only [hp] at hr
    obtain ⟨p1, p2, p3⟩ := St.put_ok he (show wf c undefV by simp [undefV, wf, wfL]) hp
    rw [conc_undef] at p1
    refine ih (k + 1) s₁ s' c _ w hl' hr (by rw [p2]; exact h) p1 ?_
    intro c'' a'' w'' q1 q2 q3 q4
    exact hQ c'' a'' w'' q1 q2 q3 (by rw [q4]; cases o.dst <;> rfl)
end
end Go.Proofs.YtconhghphklfjaaGreat.Am
