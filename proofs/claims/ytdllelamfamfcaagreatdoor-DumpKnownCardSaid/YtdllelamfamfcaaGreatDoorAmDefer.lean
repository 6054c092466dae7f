/- The abstract machine: functions with deferred calls, where nothing is raised, told. -/
import Derived.Test.YtdllelamfamfcaaGreatDoorAmFast
import Derived.Defers
import Derived.Recover
namespace Go.Proofs.YtdllelamfamfcaaGreatDoor.Am
open Go

/-- Calls laid by, the youngest first. -/
abbrev Dfr := List (Nat × List V × List V)

noncomputable def resOf (P : Program) (s : St) (rs : List ResultVar) : Option V := match mapO (resV P s) rs with
  | some [v] => some v
  | some vs => some (.tup vs)
  | none => none

noncomputable def evOpsD (C : Cfg) (self : Self) (L : List Oper) : List Oper → St → Dfr → Option (St × Dfr)
  | [], s, d => some (s, d)
  | o :: rest, s, d => match o.op with
    | .defer cl => match o.guard, o.dst, cl.callee, evArgs s.env cl.args.toList with
      | none, none, .value x, some args => match evO s.env x with
        | some (.fn (.func g) first cap) => evOpsD C self L rest s ((g, first ++ args, cap) :: d)
        | _ => none
      | _, _, _, _ => none
    | _ => cond (wantedV L s.env o)
      (match evOp C self s.env s.h o with
        | some (v, h) => match s.put o.dst v h with
          | some s' => evOpsD C self L rest s' d
          | none => none
        | none => none)
      (match s.put o.dst undefV s.h with
        | some s' => evOpsD C self L rest s' d
        | none => none)

noncomputable def evTop (C : Cfg) (n : Nat) : Nat → Code → St → Dfr → Option (Ex × St × Dfr)
  | 0, _, _, _ => none
  | m + 1, c, s, d => match c with
    | .seq a b => match evTop C n m a s d with
      | some (.normal, s', d') => evTop C n m b s' d'
      | r => r
    | .region _ ops false => match evOpsD C (evF C n) ops.toList ops.toList s d with
      | some (s', d') => some (.normal, s', d')
      | none => none
    | c => match evF C n c s with
      | some (ex, s') => some (ex, s', d)
      | none => none

/-- A body that begins by asking what was raised. -/
def quietParts : Code → Option (Nat × Nat × Code)
  | .seq (.region _ ops false) rest => match ops.toList with
    | [o₁, o₂] => match o₁.op, o₁.guard, o₁.dst, o₂.op, o₂.guard, o₂.dst with
      | .call cl, none, some d₁, .assign (.tmp t), none, some d₂ => match cl.callee, cl.args.toList with
        | .builtin .recover, [] => cond (Nat.beq t d₁) (some (d₁, d₂, rest)) none
        | _, _ => none
      | _, _, _, _, _, _ => none
    | _ => none
  | _ => none

/-- A deferred call, where nothing is raised. -/
noncomputable def defCall (C : Cfg) (n : Nat) (g : Nat) (args : List V) (h : H) : Option H := match C.P.funcs[g]? with
  | none => none
  | some fn => match fn.body with
    | none => none
    | some code => match quietParts code with
      | some (d₁, d₂, rest) => cond (Nat.blt d₁ fn.ntmps && Nat.blt d₂ fn.ntmps && Nat.ble args.length fn.ntmps && !(fn.name == "runtime.NumGoroutine"))
        (match evF C n rest ⟨((bindArgs args 0 .lf).set d₁ (some .if0)).set d₂ (some .if0), fn.ntmps, h⟩ with
          | some (.normal, s) | some (.ret, s) => match resOf C.P s fn.results.toList with
            | some _ => some s.h
            | none => none
          | _ => none) none
      | none => match callF C (evF C n) g args h with
        | some (_, h') => some h'
        | none => none

noncomputable def runDefs (C : Cfg) (n : Nat) : Dfr → H → Option H
  | [], h => some h
  | (g, args, cap) :: d, h => match C.told g with
    | some _ => none
    | none => match defCall C n g (args ++ cap) h with
      | some h' => runDefs C n d h'
      | none => none

/-- A function with deferred calls. -/
noncomputable def toldDefer (C : Cfg) (n f : Nat) (args : List V) (h : H) : Option (V × H) := match C.P.funcs[f]? with
  | none => none
  | some fn => match fn.body with
    | none => none
    | some c => cond (Nat.blt fn.ntmps args.length) none (match evTop C n 1000 c ⟨bindArgs args 0 .lf, fn.ntmps, h⟩ [] with
      | some (.exit _, _, _) => none
      | some (_, s, d) => match runDefs C n d s.h with
        | some h' => match resOf C.P ⟨s.env, s.ntm, h'⟩ fn.results.toList with
          | some v => some (v, h')
          | none => none
        | none => none
      | none => none)

section
variable {C : Cfg} {self : Self} {c : Ctx} {σ : H} {w : World}

theorem resOf_ok {s : St} {a : Act} {P : Program} {fn : Func} {v : V} (h : Rel c s.h w) (he : EnvOk c s.env s.ntm a) (hr : resOf P s fn.results.toList = some v) :
    (results fn a.tmps).run P w = .ok (conc c v) w ∧ wf c v := by
  unfold resOf at hr
  cases hmo : mapO (resV P s) fn.results.toList with
  | none => simp [hmo] at hr
  | some vs =>
    obtain ⟨q1, q2⟩ := results_ok h he hmo
    rw [hmo] at hr
    rw [q1]
    rcases vs with _ | ⟨v0, _ | ⟨v1, vs⟩⟩
    · simp only [Option.some.injEq] at hr
      subst hr
      exact ⟨by simp [conc, concL], by simp [wf, wfL]⟩
    · simp only [Option.some.injEq] at hr
      subst hr
      exact ⟨by simp, q2 v0 (by simp)⟩
    · simp only [Option.some.injEq] at hr
      subst hr
      exact ⟨by simp [conc, concL_eq], by simp only [wf, wfL_iff]; exact q2⟩

structure DefOk (c : Ctx) (d : Dfr) (ds : List Deferred) : Prop where
  eq : ds = d.map fun x => { target := .fn (.func x.1) (x.2.2.map (conc c)).toArray, args := (x.2.1.map (conc c)).toArray }
  wfd : ∀ x ∈ d, (∀ v ∈ x.2.1, wf c v) ∧ ∀ v ∈ x.2.2, wf c v

theorem DefOk.ext {c' : Ctx} {d : Dfr} {ds : List Deferred} (h : DefOk c d ds) (e : Ext c c') : DefOk c' d ds where
  eq := by
    rw [h.eq]
    refine List.map_congr_left fun x hx => ?_
    rw [(map_conc_ext e (h.wfd x hx).1).1, (map_conc_ext e (h.wfd x hx).2).1]
  wfd := fun x hx => ⟨(map_conc_ext e (h.wfd x hx).1).2, (map_conc_ext e (h.wfd x hx).2).2⟩

theorem evArgs_ok {env : Env} {n : Nat} {a : Act} (he : EnvOk c env n a) : ∀ (l : List Operand) (vs : List V), evArgs env l = some vs → l.map a.eval = vs.map (conc c) ∧ ∀ v ∈ vs, wf c v := by
  intro l
  induction l with
  | nil => intro vs h; simp [evArgs] at h; subst h; simp
  | cons x l ih =>
    intro vs h
    simp only [evArgs] at h
    cases h1 : evO env x with
    | none => simp [h1] at h
    | some v =>
      cases h2 : evArgs env l with
      | none => simp [h1, h2] at h
      | some m =>
        simp [h1, h2] at h
        subst h
        obtain ⟨i1, i2⟩ := ih m h2
        obtain ⟨e1, e2⟩ := evO_ok he h1
        refine ⟨by simp [e1, i1], fun y hy => ?_⟩
        rcases List.mem_cons.1 hy with rfl | hy
        · exact e2
        · exact i2 y hy

theorem evOpsD_ok (hS : SelfOkR C.P self) (hT : ToldOk C) {ops : Array Oper} {Q : Exit → Act → World → Prop} : ∀ (l : List Oper) (k : Nat) (s s' : St) (d d' : Dfr) (c : Ctx) (a : Act) (w : World),
    (∀ j, l[j]? = ops[k + j]?) → evOpsD C self ops.toList l s d = some (s', d') → Rel c s.h w → EnvOk c s.env s.ntm a → DefOk c d a.defers →
    (∀ c' a' w', Rel c' s'.h w' → EnvOk c' s'.env s'.ntm a' → Stp c w c' w' → DefOk c' d' a'.defers → Q .normal a' w') →
    wpOpsIn (Fr none) 0 C.P ops Q (List.range' k l.length) a w := by
  intro l
  induction l with
  | nil =>
    intro k s s' d d' c a w _ hr h he hd hQ
    simp only [evOpsD, Option.some.injEq, Prod.mk.injEq] at hr
    obtain ⟨rfl, rfl⟩ := hr
    simp only [List.length_nil, List.range'_zero, wpOpsIn]
    exact hQ c a w h he (Stp.refl c w) hd
  | cons o l ih =>
    intro k s s' d d' c a w hl hr h he hd hQ
    have h0 : ops[k]? = some o := by simpa using (hl 0).symm
    have hl' : ∀ j, l[j]? = ops[k + 1 + j]? := fun j => by have := hl (j + 1); simpa [Nat.add_assoc, Nat.add_comm 1 j] using this
    simp only [List.length_cons, List.range'_succ, wpOpsIn, h0]
    rw [wantedV_ok he]
    have common : (cond (wantedV ops.toList s.env o)
        (match evOp C self s.env s.h o with
          | some (v, h) => match s.put o.dst v h with
            | some s' => evOpsD C self ops.toList l s' d
            | none => none
          | none => none)
        (match s.put o.dst undefV s.h with
          | some s' => evOpsD C self ops.toList l s' d
          | none => none)) = some (s', d') →
        (if wantedV ops.toList s.env o = true then o.wpIn (Fr none) 0 C.P a w (wpOpsIn (Fr none) 0 C.P ops Q (List.range' (k + 1) l.length)) Q else (∀ f, o.about C.P w a.eval = some f → (Fr none).fn f) ∧ wpOpsIn (Fr none) 0 C.P ops Q (List.range' (k + 1) l.length) (a.put o.dst undef) w) := by
      intro hr
      cases hw : wantedV ops.toList s.env o with
      | true =>
        rw [hw, cond_true] at hr
        simp only [if_true]
        cases ho : evOp C self s.env s.h o with
        | none => simp [ho] at hr
        | some r =>
          obtain ⟨v, σ'⟩ := r
          simp only [ho] at hr
          cases hp : s.put o.dst v σ' with
          | none => simp [hp] at hr
          | some s₁ =>
            simp only [hp] at hr
            refine (evOp_ok hS hT h (he.opn o) ho).wpIn (evOp_nodefer ho) ?_
            intro c' w' r1 r2 r3
            obtain ⟨p1, p2, p3⟩ := St.put_ok (he.ext r2.ext) r3 hp
            refine ih (k + 1) s₁ s' d d' c' _ w' hl' hr (by rw [p2]; exact r1) p1 (by rw [put_defers]; exact hd.ext r2.ext) ?_
            intro c'' a'' w'' q1 q2 q3 q4
            exact hQ c'' a'' w'' q1 q2 (r2.trans q3) q4
      | false =>
        rw [hw, cond_false] at hr
        simp only [Bool.false_eq_true, if_false]
        refine ⟨fun _ _ => trivial, ?_⟩
        cases hp : s.put o.dst undefV s.h with
        | none => simp [hp] at hr
        | some s₁ =>
          simp only [hp] at hr
          obtain ⟨p1, p2, p3⟩ := St.put_ok he (show wf c undefV by simp [undefV, wf, wfL]) hp
          rw [conc_undef] at p1
          refine ih (k + 1) s₁ s' d d' c _ w hl' hr (by rw [p2]; exact h) p1 (by rw [put_defers]; exact hd) ?_
          intro c'' a'' w'' q1 q2 q3 q4
          exact hQ c'' a'' w'' q1 q2 q3 q4
    unfold evOpsD at hr
    split at hr
    · rename_i cl hcl
      split at hr
      · rename_i x args hg hdst hcallee hargs
        split at hr
        · rename_i g first cap hfv
          have hwant : wantedV ops.toList s.env o = true := by simp [wantedV, hg]
          simp only [hwant, if_true]
          obtain ⟨e1, e2⟩ := evArgs_ok he _ _ hargs
          obtain ⟨f1, f2⟩ := evO_ok he hfv
          have fw : (∀ x ∈ first, wf c x) ∧ (∀ x ∈ cap, wf c x) := by
            have : wfL c first ∧ wfL c cap := by simpa [wf] using f2
            exact ⟨wfL_iff.1 this.1, wfL_iff.1 this.2⟩
          have hrun : (execOp a.eval o).run C.P w = .ok (.defer { target := .fn (.func g) (cap.map (conc c)).toArray, args := ((first ++ args).map (conc c)).toArray }) w := by
            have h1 : cl.args.map a.eval = (args.map (conc c)).toArray := by
              apply Array.ext'
              simpa using e1
            have h2 : a.eval x = .func (.func g) (first.map (conc c)).toArray (cap.map (conc c)).toArray := by rw [f1]; simp [conc, concL_eq]
            simp [execOp, hcl, resolve, hcallee, h2, Deferred.ofValue, h1]
          refine ⟨fun _ _ => trivial, ?_⟩
          rw [show (Fr none).round = none from rfl, Oper.semAt_none, hrun]
          simp only [Oper.uponIn, hdst, Act.put]
          refine ih (k + 1) s s' ((g, first ++ args, cap) :: d) d' c _ w hl' hr h ⟨he.size, he.val, he.wfv⟩ ⟨by simp [hd.eq], fun x hx => ?_⟩ ?_
          · rcases List.mem_cons.1 hx with rfl | hx
            · exact ⟨fun v hv => by
                rcases List.mem_append.1 hv with hv | hv
                · exact fw.1 v hv
                · exact e2 v hv, fw.2⟩
            · exact hd.wfd x hx
          · intro c'' a'' w'' q1 q2 q3 q4
            exact hQ c'' a'' w'' q1 q2 q3 q4
        · cases hr
      · cases hr
    · exact common hr

theorem evTop_ok (hm : C.P.follows .mixedOrders = true) (hT : ToldOk C) {n : Nat} : ∀ (m : Nat) (code : Code) (s : St) (d : Dfr) (ex : Ex) (s' : St) (d' : Dfr), evTop C n m code s d = some (ex, s', d') →
    ∀ (c : Ctx) (a : Act) (w : World), Rel c s.h w → EnvOk c s.env s.ntm a → DefOk c d a.defers →
      code.wp C.P (fun e a' w' => e = exOf ex ∧ ∃ c', Rel c' s'.h w' ∧ EnvOk c' s'.env s'.ntm a' ∧ Stp c w c' w' ∧ DefOk c' d' a'.defers) a w := by
  have hS := (ev_ok (C := C) hm hT n).1
  intro m
  induction m with
  | zero => intro code s d ex s' d' h; simp [evTop] at h
  | succ m ih =>
    intro code s d ex s' d' hr c a w h he hd
    have rest : (match ev C n code s with
        | some (ex, s') => some (ex, s', d)
        | none => none) = some (ex, s', d') → code.wp C.P (fun e a' w' => e = exOf ex ∧ ∃ c', Rel c' s'.h w' ∧ EnvOk c' s'.env s'.ntm a' ∧ Stp c w c' w' ∧ DefOk c' d' a'.defers) a w := by
      intro hr
      cases hev : ev C n code s with
      | none => rw [hev] at hr; cases hr
      | some r =>
        obtain ⟨ex₁, s₁⟩ := r
        rw [hev] at hr
        simp only [Option.some.injEq, Prod.mk.injEq] at hr
        obtain ⟨rfl, rfl, rfl⟩ := hr
        refine Code.wp_mono ?_ (hS _ _ _ _ hev c a w h he)
        rintro e a' w' ⟨rfl, q2, c', q3, q4, q5⟩
        exact ⟨rfl, c', q3, q4, q5, by rw [q2]; exact hd.ext q5.ext⟩
    unfold evTop at hr
    rw [evF_eq] at hr
    split at hr
    · rename_i x y
      cases hx : evTop C n m x s d with
      | none => rw [hx] at hr; cases hr
      | some r =>
        obtain ⟨ex₁, s₁, d₁⟩ := r
        rw [hx] at hr
        refine wp_seq (Code.wp_mono ?_ (ih x s d ex₁ s₁ d₁ hx c a w h he hd))
        rintro e a₁ w₁ ⟨rfl, c₁, q3, q4, q5, q6⟩
        cases ex₁ with
        | normal =>
          refine Code.wp_mono ?_ (ih y s₁ d₁ ex s' d' hr c₁ a₁ w₁ q3 q4 q6)
          rintro e a₂ w₂ ⟨rfl, c₂, p3, p4, p5, p6⟩
          exact ⟨rfl, c₂, p3, p4, q5.trans p5, p6⟩
        | exit i =>
          simp only [Option.some.injEq, Prod.mk.injEq] at hr
          obtain ⟨rfl, rfl, rfl⟩ := hr
          exact ⟨rfl, c₁, q3, q4, q5, q6⟩
        | ret =>
          simp only [Option.some.injEq, Prod.mk.injEq] at hr
          obtain ⟨rfl, rfl, rfl⟩ := hr
          exact ⟨rfl, c₁, q3, q4, q5, q6⟩
    · rename_i id ops
      cases hx : evOpsD C (ev C n) ops.toList ops.toList s d with
      | none => rw [hx] at hr; cases hr
      | some r =>
        obtain ⟨s₁, d₁⟩ := r
        rw [hx] at hr
        simp only [Option.some.injEq, Prod.mk.injEq] at hr
        obtain ⟨rfl, rfl, rfl⟩ := hr
        refine wpIn_wide.1 (show (Code.region id ops false).wpIn (Fr none) 0 C.P _ a w from wpIn_region ?_)
        rw [List.range_eq_range', ← Array.length_toList]
        exact evOpsD_ok (ev_okR (C := C) hm hT n).1 hT ops.toList 0 s s₁ d d₁ c a w (fun j => by rw [Nat.zero_add, Array.getElem?_toList]) hx h he hd fun c' a' w' r1 r2 r3 r4 => ⟨rfl, c', r1, r2, r3, r4⟩
    · exact rest hr

/-- A deferred call, where nothing is raised. -/
theorem callD_ok (hm : C.P.follows .mixedOrders = true) (hT : ToldOk C) {n g : Nat} {args : List V} {v : V} {σ' : H} (hg : C.told g = none) (hr : callF C (ev C n) g args σ = some (v, σ')) (h : Rel c σ w) (hw : ∀ x ∈ args, wf c x) :
    CallsD C.P g (args.map (conc c)).toArray .returning w (fun e u' w' => u' = .returning ∧ (∃ x, e = .returned x) ∧ ∃ c', Rel c' σ' w' ∧ Stp c w c' w') ∧ ∀ (x : Array Value) (w : World), (callFunc g x).run C.P w = .ok (.enter g x) w := by
  have hS := (ev_ok (C := C) hm hT n).1
  have hen := (callF_ok hS hT hr h hw).2
  refine ⟨?_, hen⟩
  unfold callF at hr
  rw [hg] at hr
  simp only at hr
  cases hf : C.P.funcs[g]? with
  | none => simp [hf] at hr
  | some fn =>
    simp only [hf] at hr
    cases hb : fn.body with
    | none => simp [hb] at hr
    | some code =>
      simp only [hb] at hr
      cases hq : (fn.name == "runtime.NumGoroutine" || Nat.blt fn.ntmps args.length) with
      | true => simp [hq] at hr
      | false =>
        simp only [hq, cond_false] at hr
        simp only [Bool.or_eq_false_iff] at hq
        have hle : args.length ≤ fn.ntmps := by
          rcases Nat.lt_or_ge fn.ntmps args.length with h' | h'
          · rw [blt_iff.2 h'] at hq; cases hq.2
          · exact h'
        have henv := bindArgs_env (c := c) hle hw
        have done : ∀ ex s, ev C n code ⟨bindArgs args 0 .lf, fn.ntmps, σ⟩ = some (ex, s) → (ex = .normal ∨ ex = .ret) →
            (match mapO (resV C.P s) fn.results.toList with
              | some [v] => some (v, s.h)
              | some vs => some (.tup vs, s.h)
              | none => none) = some (v, σ') →
            CallsD C.P g (args.map (conc c)).toArray .returning w (fun e u' w' => u' = .returning ∧ (∃ x, e = .returned x) ∧ ∃ c', Rel c' σ' w' ∧ Stp c w c' w') := by
          intro ex s hs hex hmr
          have hwp := hS code _ ex s hs c _ w h henv
          have hres : resOf C.P s fn.results.toList = some v ∧ s.h = σ' := by
            unfold resOf
            cases hmo : mapO (resV C.P s) fn.results.toList with
            | none => rw [hmo] at hmr; cases hmr
            | some vs =>
              rw [hmo] at hmr
              rcases vs with _ | ⟨v0, _ | ⟨v1, vs⟩⟩ <;> simp only [Option.some.injEq, Prod.mk.injEq] at hmr ⊢ <;> exact hmr
          have hcd := callsD_of_wp (u := .returning) (R := fun e w' => (∃ x, e = .returned x) ∧ ∃ c', Rel c' σ' w' ∧ Stp c w c' w') hf hb (Code.wp_mono (Q' := bodyPost C.P fn fun e w' => (∃ x, e = .returned x) ∧ ∃ c', Rel c' σ' w' ∧ Stp c w c' w') ?_ hwp)
          · exact hcd.mono fun e u' w' ⟨h1, h2⟩ => ⟨h1, h2⟩
          · rintro e a' w' ⟨rfl, hd, c', r1, r2, r3⟩
            have hpost : a'.defers = [] ∧ ∃ x, (results fn a'.tmps).run C.P w' = .ok x w' ∧ (∃ y, Ending.returned x = .returned y) ∧ ∃ c', Rel c' σ' w' ∧ Stp c w c' w' :=
              ⟨hd, _, (resOf_ok r1 r2 hres.1).1, ⟨_, rfl⟩, c', by rw [← hres.2]; exact r1, r3⟩
            rcases hex with rfl | rfl
            · simpa [bodyPost, exOf] using hpost
            · simpa [bodyPost, exOf] using hpost
        split at hr
        · rename_i s hs
          exact done .normal s hs (.inl rfl) hr
        · rename_i s hs
          exact done .ret s hs (.inr rfl) hr
        · simp at hr

theorem run_recoverOp {P : Program} {o : Oper} {ρ : Operand → Value} {cl : Call} (ho : o.op = .call cl) (hc : cl.callee = .builtin .recover) (ha : cl.args.toList = []) (w : World) : (execOp ρ o).run P w = .ok .recover w := by
  have ha' : cl.args = #[] := by apply Array.ext'; simpa using ha
  simp [execOp, ho, resolve, hc, ha', invoke, builtin]

theorem quietD_ok (hm : C.P.follows .mixedOrders = true) (hT : ToldOk C) {n g d₁ d₂ : Nat} {fn : Func} {code rest : Code} {args : List V} {ex : Ex} {s₃ : St} {v : V} (hf : C.P.funcs[g]? = some fn) (hb : fn.body = some code)
    (hq : quietParts code = some (d₁, d₂, rest)) (h1 : d₁ < fn.ntmps) (h2 : d₂ < fn.ntmps) (hle : args.length ≤ fn.ntmps)
    (h₃ : ev C n rest ⟨((bindArgs args 0 .lf).set d₁ (some .if0)).set d₂ (some .if0), fn.ntmps, σ⟩ = some (ex, s₃)) (hex : ex = .normal ∨ ex = .ret) (hres : resOf C.P s₃ fn.results.toList = some v)
    (h : Rel c σ w) (hw : ∀ x ∈ args, wf c x) :
    CallsD C.P g (args.map (conc c)).toArray .returning w (fun e u' w' => u' = .returning ∧ (∃ x, e = .returned x) ∧ ∃ c', Rel c' s₃.h w' ∧ Stp c w c' w') := by
  have hS := (ev_ok (C := C) hm hT n).1
  unfold quietParts at hq
  split at hq
  · rename_i id ops rest'
    split at hq
    · rename_i o₁ o₂ hops
      split at hq
      · rename_i cl d₁' t d₂' q6 q2 q4 q9 q3 q5
        split at hq
        · rename_i q7 q8
          cases ht : Nat.beq t d₁' with
          | false => rw [ht] at hq; cases hq
          | true =>
            rw [ht, cond_true] at hq
            simp only [Option.some.injEq, Prod.mk.injEq] at hq
            obtain ⟨rfl, rfl, rfl⟩ := hq
            have := beq_iff.1 ht
            subst this
            have hops' : ops = #[o₁, o₂] := by apply Array.ext'; simpa using hops
            subst hops'
            refine callsD_of_wpS hf hb fun c₀ cs hu => ?_
            refine wpS_seq ?_
            have e₀ := bindArgs_env (c := c) hle hw
            generalize hA : ({ tmps := (args.map (conc c)).toArray ++ Array.replicate (fn.ntmps - (args.map (conc c)).toArray.size) undef, defers := [] } : Act) = A at e₀ ⊢
            have hAd : A.defers = [] := by rw [← hA]
            have e₁ := (e₀.put (d := t) (v := .if0) h1 (by simp [wf])).put (d := d₂') (v := .if0) h2 (by simp [wf])
            have hrun := hS _ _ _ _ h₃ c _ w h e₁
            rw [show conc c .if0 = .nilIface from by simp [conc]] at hrun
            have hrec : recoverD (c₀ :: cs) = none := by simp [recoverD, hu]
            have h5 : (A.put (some t) .nilIface).eval (.tmp t) = .nilIface := by
              have := (e₀.put (d := t) (v := .if0) h1 (by simp [wf])).val t
              rw [show conc c .if0 = .nilIface from by simp [conc]] at this
              rw [show Act.eval (A.put (some t) .nilIface) (.tmp t) = (A.put (some t) .nilIface).tmps.getD t undef from rfl, this]
              simp [Env.v, get_set, conc]
            refine wpS_region ?_
            rw [show List.range (#[o₁, o₂] : Array Oper).size = [0, 1] from rfl]
            simp only [wpOpsS, List.getElem?_toArray, List.getElem?_cons_zero, List.getElem?_cons_succ, Region.wanted, q2, q3, if_true]
            rw [run_recoverOp q6 q7 q8]
            simp only [hrec, q4]
            have hasg : (execOp (A.put (some t) .nilIface).eval o₂).run C.P w = .ok (.value .nilIface) w := by simp [execOp, q9, h5]
            rw [hasg]
            simp only [Oper.upon, q5, Exit.thenS]
            refine wpS_of_wp (Code.wp_mono ?_ hrun)
            rintro e a' w' ⟨rfl, dd, c', r1, e2, p1⟩
            have hpost : a'.defers = [] ∧ ∃ u', c₀ :: cs = { c₀ with mode := u' } :: cs ∧ ∃ v, (results fn a'.tmps).run C.P w' = .ok v w' ∧ (u' = .returning ∧ (∃ x, Ending.returned v = .returned x) ∧ ∃ c', Rel c' s₃.h w' ∧ Stp c w c' w') :=
              ⟨dd.trans hAd, .returning, by rw [← hu], _, (resOf_ok r1 e2 hres).1, rfl, ⟨_, rfl⟩, c', r1, p1⟩
            rcases hex with rfl | rfl
            · exact hpost
            · exact hpost
        · cases hq
      · cases hq
    · cases hq
  · cases hq

theorem defCall_ok (hm : C.P.follows .mixedOrders = true) (hT : ToldOk C) {n g : Nat} {args : List V} {σ' : H} (hg : C.told g = none) (hr : defCall C n g args σ = some σ') (h : Rel c σ w) (hw : ∀ x ∈ args, wf c x) :
    CallsD C.P g (args.map (conc c)).toArray .returning w (fun e u' w' => u' = .returning ∧ (∃ x, e = .returned x) ∧ ∃ c', Rel c' σ' w' ∧ Stp c w c' w') ∧ ∀ (x : Array Value) (w : World), (callFunc g x).run C.P w = .ok (.enter g x) w := by
  unfold defCall at hr
  rw [evF_eq] at hr
  cases hf : C.P.funcs[g]? with
  | none => simp [hf] at hr
  | some fn =>
    simp only [hf] at hr
    cases hb : fn.body with
    | none => simp [hb] at hr
    | some code =>
      simp only [hb] at hr
      split at hr
      · rename_i d₁ d₂ rest hq
        cases hc : (Nat.blt d₁ fn.ntmps && Nat.blt d₂ fn.ntmps && Nat.ble args.length fn.ntmps && !(fn.name == "runtime.NumGoroutine")) with
        | false => rw [hc] at hr; cases hr
        | true =>
          rw [hc, cond_true] at hr
          simp only [Bool.and_eq_true, blt_iff, ble_iff, Bool.not_eq_true'] at hc
          obtain ⟨⟨⟨c1, c2⟩, c3⟩, c4⟩ := hc
          refine ⟨?_, fun x w => by simp only [callFunc, Sem.run_bind, run_program, Result.andThen_ok, hf, c4, Bool.false_eq_true, if_false, hb, Option.isNone_some, Sem.run_pure]⟩
          split at hr
          · rename_i s hs
            cases hro : resOf C.P s fn.results.toList with
            | none => rw [hro] at hr; cases hr
            | some v =>
              rw [hro] at hr
              simp only [Option.some.injEq] at hr
              subst hr
              exact quietD_ok hm hT hf hb hq c1 c2 c3 hs (.inl rfl) hro h hw
          · rename_i s hs
            cases hro : resOf C.P s fn.results.toList with
            | none => rw [hro] at hr; cases hr
            | some v =>
              rw [hro] at hr
              simp only [Option.some.injEq] at hr
              subst hr
              exact quietD_ok hm hT hf hb hq c1 c2 c3 hs (.inr rfl) hro h hw
          · cases hr
      · cases hc : callF C (ev C n) g args σ with
        | none => rw [hc] at hr; cases hr
        | some r =>
          obtain ⟨u, h₁⟩ := r
          rw [hc] at hr
          simp only [Option.some.injEq] at hr
          subst hr
          exact callD_ok hm hT hg hc h hw

theorem leaves_ok (hm : C.P.follows .mixedOrders = true) (hT : ToldOk C) {n : Nat} {fn : Func} {s : St} {v : V} {h' : H} {c₀ : Ctx} {w₀ : World} (hres : resOf C.P ⟨s.env, s.ntm, h'⟩ fn.results.toList = some v) :
    ∀ (d : Dfr) (h : H) (c : Ctx) (a : Act) (ds : List Deferred) (w : World), runDefs C n d h = some h' → Rel c h w → EnvOk c s.env s.ntm a → DefOk c d ds → Stp c₀ w₀ c w →
      Leaves C.P fn a.tmps (fun e w' => ∃ c', e = .returned (conc c' v) ∧ wf c' v ∧ Rel c' h' w' ∧ Stp c₀ w₀ c' w') ds .returning w := by
  intro d
  induction d with
  | nil =>
    intro h c a ds w hr hrel he hd hs
    simp only [runDefs, Option.some.injEq] at hr
    subst hr
    have : ds = [] := by rw [hd.eq]; rfl
    subst this
    obtain ⟨q1, q2⟩ := resOf_ok (s := ⟨s.env, s.ntm, h⟩) hrel he hres
    exact ⟨_, q1, c, rfl, q2, hrel, hs⟩
  | cons x d ih =>
    intro h c a ds w hr hrel he hd hs
    obtain ⟨g, args, cap⟩ := x
    simp only [runDefs] at hr
    cases ht : C.told g with
    | some t => rw [ht] at hr; cases hr
    | none =>
      rw [ht] at hr
      simp only at hr
      cases hc : defCall C n g (args ++ cap) h with
      | none => rw [hc] at hr; cases hr
      | some h₁ =>
        rw [hc] at hr
        simp only at hr
        have hwf := hd.wfd (g, args, cap) (by simp)
        obtain ⟨k1, k2⟩ := defCall_ok hm hT ht hc hrel (fun x hx => by
          rcases List.mem_append.1 hx with hx | hx
          · exact hwf.1 x hx
          · exact hwf.2 x hx)
        have hds : ds = { target := .fn (.func g) (cap.map (conc c)).toArray, args := (args.map (conc c)).toArray } :: d.map fun x => { target := .fn (.func x.1) (x.2.2.map (conc c)).toArray, args := (x.2.1.map (conc c)).toArray } := by rw [hd.eq]; rfl
        rw [hds]
        refine leaves_cons (f := g) (args := ((args ++ cap).map (conc c)).toArray) (by simp) ?_ ?_
        · simp only [invoke]
          rw [show (args.map (conc c)).toArray ++ (cap.map (conc c)).toArray = ((args ++ cap).map (conc c)).toArray from by simp]
          exact k2 _ w
        · refine k1.mono ?_
          rintro e u' w₁ ⟨rfl, ⟨y, rfl⟩, c₁, r1, r2⟩
          have hd' : DefOk c d (d.map fun x => { target := .fn (.func x.1) (x.2.2.map (conc c)).toArray, args := (x.2.1.map (conc c)).toArray }) := ⟨rfl, fun z hz => hd.wfd z (by simp [hz])⟩
          exact ih h₁ c₁ a _ w₁ hr r1 (he.ext r2.ext) (hd'.ext r2.ext) (hs.trans r2)

theorem toldDefer_ok (hm : C.P.follows .mixedOrders = true) (hT : ToldOk C) {n f : Nat} {args : List V} {v : V} {σ' : H} (hr : toldDefer C n f args σ = some (v, σ')) (h : Rel c σ w) (hw : ∀ x ∈ args, wf c x) :
    CallOk C.P f args c w v σ' := by
  unfold toldDefer at hr
  cases hf : C.P.funcs[f]? with
  | none => simp [hf] at hr
  | some fn =>
    simp only [hf] at hr
    cases hb : fn.body with
    | none => simp [hb] at hr
    | some code =>
      simp only [hb] at hr
      cases hq : Nat.blt fn.ntmps args.length with
      | true => rw [hq] at hr; cases hr
      | false =>
        rw [hq, cond_false] at hr
        have hle : args.length ≤ fn.ntmps := by
          rcases Nat.lt_or_ge fn.ntmps args.length with h' | h'
          · rw [blt_iff.2 h'] at hq; cases hq
          · exact h'
        have henv := bindArgs_env (c := c) hle hw
        unfold CallOk
        refine calls_of_wp_defers hf hb ?_
        have done : ∀ ex s d, evTop C n 1000 code ⟨bindArgs args 0 .lf, fn.ntmps, σ⟩ [] = some (ex, s, d) → (ex = .normal ∨ ex = .ret) →
            (match runDefs C n d s.h with
              | some h' => match resOf C.P ⟨s.env, s.ntm, h'⟩ fn.results.toList with
                | some v => some (v, h')
                | none => none
              | none => none) = some (v, σ') →
            code.wp C.P (bodyPostD C.P fn fun e w' => ∃ c', e = .returned (conc c' v) ∧ wf c' v ∧ Rel c' σ' w' ∧ Stp c w c' w')
              { tmps := (args.map (conc c)).toArray ++ Array.replicate (fn.ntmps - (args.map (conc c)).toArray.size) undef, defers := [] } w := by
          intro ex s d hs hex hm'
          refine Code.wp_mono ?_ (evTop_ok hm hT 1000 code _ [] ex s d hs c _ w h henv ⟨rfl, fun x hx => by cases hx⟩)
          rintro e a' w' ⟨rfl, c', r1, r2, r3, r4⟩
          cases hrd : runDefs C n d s.h with
          | none => rw [hrd] at hm'; cases hm'
          | some h' =>
            rw [hrd] at hm'
            simp only at hm'
            cases hro : resOf C.P ⟨s.env, s.ntm, h'⟩ fn.results.toList with
            | none => rw [hro] at hm'; cases hm'
            | some v' =>
              rw [hro] at hm'
              simp only [Option.some.injEq, Prod.mk.injEq] at hm'
              obtain ⟨rfl, rfl⟩ := hm'
              have hl := leaves_ok hm hT hro d s.h c' a' a'.defers w' hrd r1 r2 r4 r3
              rcases hex with rfl | rfl
              · simpa [bodyPostD, exOf] using hl
              · simpa [bodyPostD, exOf] using hl
        split at hr
        · cases hr
        · rename_i ex s d hne hs
          refine done ex s d hs ?_ hr
          cases ex with
          | normal => exact .inl rfl
          | ret => exact .inr rfl
          | exit i => exact absurd rfl (hne i)
        · cases hr
end

end Go.Proofs.YtdllelamfamfcaaGreatDoor.Am
