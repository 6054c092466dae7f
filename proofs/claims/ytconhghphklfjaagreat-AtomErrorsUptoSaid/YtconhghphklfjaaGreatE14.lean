/- A group that is over or open, pages that are none and records that may not be are refused, and a record that was done is read back; the conditions are those of the given statement, for arguments that a machine can hold. Part 14 of 44. -/
import Derived.Test.YtconhghphklfjaaGreatE13
namespace Go.Proofs.YtconhghphklfjaaGreat.Am
open Go
def look : List (Nat × V) → Nat → Option V
 | [], _ => none
 | x :: E, k => cond (Nat.beq x.1 k) (some x.2) (look E k)
def EOk (env : Env) (E : List (Nat × V)) : Prop := ∀ t v, look E t = some v → T.get env t = some v
theorem EOk.set {env : Env} {E : List (Nat × V)} (h : EOk env E) (d : Nat) (v : V) : EOk (env.set d (some v)) ((d, v) :: E) := by
 intro t u hl
 simp only [look] at hl
 rw [get_set]
 by_cases hd : d = t
 ·subst hd
  rw [beqT rfl, cond_true] at hl
  simpa using hl
 ·rw [beqF hd, cond_false] at hl
  rw [if_neg (fun e => hd e.symm)]
  exact h t u hl
theorem EOk.sub {env : Env} {E E' : List (Nat × V)} (h : EOk env E) (hs : ∀ t v, look E' t = some v → look E t = some v) : EOk env E' := fun t v hl => h t v (hs t v hl)
def lookO (E : List (Nat × V)) : Operand → Option V
 | .tmp t => look E t
 | .const c => ofValue c
 | .global _ => none
 | .func f => some (.fn (.func f) [] [])
theorem lookO_ok {env : Env} {E : List (Nat × V)} (h : EOk env E) {x : Operand} {v : V} (hx : lookO E x = some v) : evO env x = some v := by
 cases x with
 | tmp t => simp only [lookO] at hx; simp only [evO, Env.v, h t v hx]
 | const c => exact hx
 | global g => cases hx
 | func f => exact hx
def lookArgs (E : List (Nat × V)) : List Operand → Option (List V)
 | [] => some []
 | x :: l => match lookO E x with
  | none => none
  | some v => match lookArgs E l with
   | none => none
   | some m => some (v :: m)
theorem lookArgs_ok {env : Env} {E : List (Nat × V)} (h : EOk env E) : ∀ {l : List Operand} {m : List V}, lookArgs E l = some m → evArgs env l = some m := by
 intro l
 induction l with
 | nil => intro m hm; exact hm
 | cons x l ih =>
  intro m hm
  simp only [lookArgs] at hm
  cases hx : lookO E x with
  | none => simp [hx] at hm
  | some v =>
   cases hl : lookArgs E l with
   | none => simp [hx, hl] at hm
   | some k => simp only [hx, hl] at hm; simp only [evArgs, lookO_ok h hx, ih hl]; exact hm
def lookParts (E : List (Nat × V)) : List (Nat × Operand) → Option (List (Nat × V))
 | [] => some []
 | x :: l => match lookO E x.2 with
  | none => none
  | some v => match lookParts E l with
   | none => none
   | some m => some ((x.1, v) :: m)
theorem lookParts_ok {env : Env} {E : List (Nat × V)} (h : EOk env E) : ∀ {l : List (Nat × Operand)} {m : List (Nat × V)}, lookParts E l = some m → evParts env l = some m := by
 intro l
 induction l with
 | nil => intro m hm; exact hm
 | cons x l ih =>
  intro m hm
  obtain ⟨i, x⟩ := x
  simp only [lookParts] at hm
  cases hx : lookO E x with
  | none => simp [hx] at hm
  | some v =>
   cases hl : lookParts E l with
   | none => simp [hx, hl] at hm
   | some k => simp only [hx, hl] at hm; simp only [evParts, lookO_ok h hx, ih hl]; exact hm
def lookOpt (E : List (Nat × V)) : Option Operand → Option (Option V)
 | none => some none
 | some x => match lookO E x with
  | some v => some (some v)
  | none => none
theorem lookOpt_ok {env : Env} {E : List (Nat × V)} (h : EOk env E) {x : Option Operand} {v : Option V} (hx : lookOpt E x = some v) : optV env x = some v := by
 cases x with
 | none => exact hx
 | some x =>
  simp only [lookOpt] at hx
  cases hy : lookO E x with
  | none => simp [hy] at hx
  | some u => simp only [hy] at hx; simp only [optV, lookO_ok h hy]; exact hx
section
variable (P : Program)
def on1 (E : List (Nat × V)) (x : Operand) (g : V → Option (V × H)) : Option (V × H) := match lookO E x with
 | some v => g v
 | none => none
def on2 (E : List (Nat × V)) (x y : Operand) (g : V → V → Option (V × H)) : Option (V × H) := match lookO E x with
 | some v => match lookO E y with
  | some u => g v u
  | none => none
 | none => none
noncomputable def opE (E : List (Nat × V)) (h : H) (o : Op) : Option (V × H) := match o with
 | .move x | .assign x => on1 E x fun v => some (v, h)
 | .pick c a b => on1 E c fun v => match v with
  | .bool t => on1 E (cond t a b) fun v => some (v, h)
  | _ => none
 | .alloc t => match zeroT P t with
  | some z => some (.ptr h.next 0, newRow h z.cells)
  | none => none
 | .box _ x => on1 E x fun v => cond (v.cells.all storable) (some (.ptr h.next 0, newRow h v.cells)) none
 | .build t ps => match lookParts E ps.toList with
  | some l => pureV (buildV P t l) h
  | none => none
 | .buildSlice t n ps => match lookParts E ps.toList with
  | some l => buildSliceV P h t n l
  | none => none
 | .load t a => on1 E a fun v => pureV (loadV P h t v) h
 | .store t a x => on2 E a x fun p v => unitV (storeV P h t p v)
 | .nilCheck x => on1 E x fun v => match v with
  | .ptr a b => some (.ptr a b, h)
  | _ => none
 | .binOp op t x y _ => on2 E x y fun a b => pureV (binV P h op t x y a b) h
 | .unOp op _ x => on1 E x fun a => pureV (unV op a) h
 | .convert s d x => on1 E x fun a => match convV P h s d a with
   | some r => some r
   | none => convB P h s d a
 | .sliceToArrayPointer d x => on1 E x fun a => pureV (arrPtrV P d a) h
 | .makeInterface t x => on1 E x fun a => pureV (makeIfaceV P t a) h
 | .makeFunc f a b => match lookArgs E a.toList with
  | some x => match lookArgs E b.toList with
   | some y => some (.fn f x y, h)
   | none => none
  | none => none
 | .makeMap _ r => match r with
  | none => some (.map h.next, h.new (.map [] 0))
  | some _ => none
 | .makeSlice t l c => on2 E l c fun a b => makeSliceV P h t a b
 | .slice t x lo hi mx => on1 E x fun v => match lookOpt E lo with
  | some a => match lookOpt E hi with
   | some b => match lookOpt E mx with
    | some c => match optB a with
     | some a => match optB b with
      | some b => match optB c with
       | some c => pureV (sliceV P h t v a b c) h
       | none => none
      | none => none
     | none => none
    | none => none
   | none => none
  | none => none
 | .fieldAddr t x i => on1 E x fun v => pureV (fieldAddrV P t v i) h
 | .field t x i => on1 E x fun v => pureV (fieldV P t v i) h
 | .indexAddr t x i => on2 E x i fun v j => pureV (indexAddrV P t v j) h
 | .index t x i => on2 E x i fun v j => pureV (indexV P t v j) h
 | .lookup t x k ok => on2 E x k fun m j => pureV (lookupX P h t m j ok) h
 | .extract t i => on1 E t fun v => match v with
  | .tup l => pureV (nth l i) h
  | _ => none
 | .typeAssert x _ a ok => on1 E x fun v => pureV (assertV P v a ok) h
 | .call c => match c.callee with
  | .builtin b => match lookArgs E c.args.toList with
   | some args => builtinV P h b c.argTypes args
   | none => none
  | _ => none
 | _ => none
end
theorem on1_inv {E : List (Nat × V)} {x : Operand} {g : V → Option (V × H)} {r : V × H} (h : on1 E x g = some r) : ∃ v, lookO E x = some v ∧ g v = some r := by
 unfold on1 at h
 cases hx : lookO E x with
 | none => simp [hx] at h
 | some v => simp only [hx] at h; exact ⟨v, rfl, h⟩
theorem on2_inv {E : List (Nat × V)} {x y : Operand} {g : V → V → Option (V × H)} {r : V × H} (h : on2 E x y g = some r) : ∃ v u, lookO E x = some v ∧ lookO E y = some u ∧ g v u = some r := by
 unfold on2 at h
 cases hx : lookO E x with
 | none => simp [hx] at h
 | some v =>
  cases hy : lookO E y with
  | none => simp [hx, hy] at h
  | some u => simp only [hx, hy] at h; exact ⟨v, u, rfl, rfl, h⟩
set_option maxHeartbeats 1000000 in
theorem opE_ok {C : Cfg} {self : Self} {env : Env} {E : List (Nat × V)} {h : H} {o : Oper} {r : V × H} (hE : EOk env E) (hr : opE C.P E h o.op = some r) : evOp C self env h o = some r := by
 unfold opE at hr
 unfold evOp
 split at hr
 ·rename_i x hop; obtain ⟨v, h1, h2⟩ := on1_inv hr; simp only [hop, lookO_ok hE h1, pureV]; exact h2
 ·rename_i x hop; obtain ⟨v, h1, h2⟩ := on1_inv hr; simp only [hop, lookO_ok hE h1, pureV]; exact h2
 ·rename_i c a b hop
  obtain ⟨v, h1, h2⟩ := on1_inv hr
  split at h2
  ·rename_i t
   obtain ⟨u, h3, h4⟩ := on1_inv h2
   simp only [hop, lookO_ok hE h1, lookO_ok hE h3, pureV]; exact h4
  ·cases h2
 ·rename_i t hop; simp only [hop]; exact hr
 ·rename_i t x hop; obtain ⟨v, h1, h2⟩ := on1_inv hr; simp only [hop, lookO_ok hE h1]; exact h2
 ·rename_i t ps hop
  cases hp : lookParts E ps.toList with
  | none => simp [hp] at hr
  | some l => simp only [hp] at hr; simp only [hop, lookParts_ok hE hp]; exact hr
 ·rename_i t n ps hop
  cases hp : lookParts E ps.toList with
  | none => simp [hp] at hr
  | some l => simp only [hp] at hr; simp only [hop, lookParts_ok hE hp]; exact hr
 ·rename_i t a hop; obtain ⟨v, h1, h2⟩ := on1_inv hr; simp only [hop, lookO_ok hE h1]; exact h2
 ·rename_i t a x hop; obtain ⟨v, u, h1, h2, h3⟩ := on2_inv hr; simp only [hop, lookO_ok hE h1, lookO_ok hE h2]; exact h3
 ·rename_i x hop
  obtain ⟨v, h1, h2⟩ := on1_inv hr
  split at h2
  ·simp only [hop, lookO_ok hE h1]; exact h2
  ·cases h2
 ·rename_i op t x y u hop; obtain ⟨v, u, h1, h2, h3⟩ := on2_inv hr; simp only [hop, lookO_ok hE h1, lookO_ok hE h2]; exact h3
 ·rename_i op t x hop; obtain ⟨v, h1, h2⟩ := on1_inv hr; simp only [hop, lookO_ok hE h1]; exact h2
 ·rename_i s d x hop; obtain ⟨v, h1, h2⟩ := on1_inv hr; simp only [hop, lookO_ok hE h1]; exact h2
 ·rename_i d x hop; obtain ⟨v, h1, h2⟩ := on1_inv hr; simp only [hop, lookO_ok hE h1]; exact h2
 ·rename_i t x hop; obtain ⟨v, h1, h2⟩ := on1_inv hr; simp only [hop, lookO_ok hE h1]; exact h2
 ·rename_i f a b hop
  cases ha : lookArgs E a.toList with
  | none => simp [ha] at hr
  | some x =>
   cases hb : lookArgs E b.toList with
   | none => simp [ha, hb] at hr
   | some y => simp only [ha, hb] at hr; simp only [hop, lookArgs_ok hE ha, lookArgs_ok hE hb]; exact hr
 ·rename_i t r hop
  simp only [hop]
  exact hr
 ·rename_i t l c hop; obtain ⟨v, u, h1, h2, h3⟩ := on2_inv hr; simp only [hop, lookO_ok hE h1, lookO_ok hE h2]; exact h3
 ·rename_i t x lo hi mx hop
  obtain ⟨v, h1, h2⟩ := on1_inv hr
  cases ha : lookOpt E lo with
  | none => simp [ha] at h2
  | some a =>
   cases hb : lookOpt E hi with
   | none => simp [ha, hb] at h2
   | some b =>
    cases hc : lookOpt E mx with
    | none => simp [ha, hb, hc] at h2
    | some c =>
     simp only [ha, hb, hc] at h2
     simp only [hop, lookO_ok hE h1, lookOpt_ok hE ha, lookOpt_ok hE hb, lookOpt_ok hE hc]
     cases pa : optB a with
     | none => simp [pa] at h2
     | some a =>
      cases pb : optB b with
      | none => simp [pa, pb] at h2
      | some b =>
       cases pc : optB c with
       | none => simp [pa, pb, pc] at h2
       | some c => simp only [pa, pb, pc] at h2 ⊢; exact h2
 ·rename_i t x i hop; obtain ⟨v, h1, h2⟩ := on1_inv hr; simp only [hop, lookO_ok hE h1]; exact h2
 ·rename_i t x i hop; obtain ⟨v, h1, h2⟩ := on1_inv hr; simp only [hop, lookO_ok hE h1]; exact h2
 ·rename_i t x i hop; obtain ⟨v, u, h1, h2, h3⟩ := on2_inv hr; simp only [hop, lookO_ok hE h1, lookO_ok hE h2]; exact h3
 ·rename_i t x i hop; obtain ⟨v, u, h1, h2, h3⟩ := on2_inv hr; simp only [hop, lookO_ok hE h1, lookO_ok hE h2]; exact h3
 ·rename_i t x k ok hop; obtain ⟨v, u, h1, h2, h3⟩ := on2_inv hr; simp only [hop, lookO_ok hE h1, lookO_ok hE h2]; exact h3
 ·rename_i t i hop
  obtain ⟨v, h1, h2⟩ := on1_inv hr
  split at h2
  ·simp only [hop, lookO_ok hE h1]; exact h2
  ·cases h2
 ·rename_i x t a ok hop; obtain ⟨v, h1, h2⟩ := on1_inv hr; simp only [hop, lookO_ok hE h1]; exact h2
 ·rename_i cl hop
  split at hr
  ·rename_i b hc
   cases ha : lookArgs E cl.args.toList with
   | none => simp [ha] at hr
   | some args => simp only [ha] at hr; simp only [hop, evCall, hc, lookArgs_ok hE ha]; exact hr
  ·cases hr
 ·cases hr
def CallDo (C : Cfg) (f : FuncId) (args : List V) (h : H) (v : V) (h' : H) : Prop := ∃ N, callF C (ev C N) f args h = some (v, h')
def Call (C : Cfg) (f : FuncId) (args : List V) (h : H) (R : V → H → Prop) : Prop := ∃ v h', CallDo C f args h v h' ∧ R v h'
theorem Call.mono {C : Cfg} {f : FuncId} {args : List V} {h : H} {R R' : V → H → Prop} (hc : Call C f args h R) (hr : ∀ v h', R v h' → R' v h') : Call C f args h R' := by
 obtain ⟨v, h', h1, h2⟩ := hc
 exact ⟨v, h', h1, hr v h' h2⟩
theorem CallDo.told {C : Cfg} {f : FuncId} {fn : Func} {g : List V → H → Option (V × H)} {args : List V} {h : H} {v : V} {h' : H} (ht : C.told f = some g) (hf : C.P.funcs[f]? = some fn) (hb : fn.body.isSome = true) (hr : g args h = some (v, h')) : CallDo C f args h v h' := by
 refine ⟨0, ?_⟩
 unfold callF
 have : hasBody C.P f = true := by unfold hasBody; simp only [hf]; exact hb
 simp only [ht, this, cond_true]
 exact hr
theorem CallDo.body {C : Cfg} {f : FuncId} {args : List V} {h : H} {v : V} {h' : H} (hd : CallDo C f args h v h') : hasBody C.P f = true := by
 obtain ⟨N, hN⟩ := hd
 unfold callF at hN
 cases ht : C.told f with
 | some g =>
  simp only [ht] at hN
  cases hb : hasBody C.P f with
  | true => rfl
  | false => rw [hb] at hN; cases hN
 | none =>
  simp only [ht] at hN
  unfold hasBody
  cases hf : C.P.funcs[f]? with
  | none => simp [hf] at hN
  | some fn =>
   simp only [hf] at hN ⊢
   cases hb : fn.body with
   | none => simp [hb] at hN
   | some c => rfl
theorem ev_step (C : Cfg) (n : Nat) (c : Code) (s : St) : ev C (n + 1) c s = evStep C (ev C n) c s := rfl
def WP (C : Cfg) (ntm : Nat) (code : Code) (E : List (Nat × V)) (h : H) (Q : Ex → List (Nat × V) → H → Prop) : Prop :=
 ∀ env, EOk env E → ∃ N ex env' h' E', ev C N code ⟨env, ntm, h⟩ = some (ex, ⟨env', ntm, h'⟩) ∧ EOk env' E' ∧ Q ex E' h'
def WPs (C : Cfg) (ntm : Nat) (L l : List Oper) (E : List (Nat × V)) (h : H) (Q : List (Nat × V) → H → Prop) : Prop :=
 ∀ env, EOk env E → ∃ N env' h' E', evOps C (ev C N) L l ⟨env, ntm, h⟩ = some ⟨env', ntm, h'⟩ ∧ EOk env' E' ∧ Q E' h'
section
variable {C : Cfg} {ntm : Nat} {E : List (Nat × V)} {h : H} {Q : Ex → List (Nat × V) → H → Prop} {R : List (Nat × V) → H → Prop} {L l : List Oper}
theorem WP.sub {code : Code} {E₁ : List (Nat × V)} (hs : ∀ t v, look E₁ t = some v → look E t = some v) (hw : WP C ntm code E₁ h Q) : WP C ntm code E h Q := fun env hE => hw env (hE.sub hs)
theorem WP.skip (hq : Q .normal E h) : WP C ntm .skip E h Q := fun env hE => ⟨1, .normal, env, h, E, rfl, hE, hq⟩
theorem WP.ret (hq : Q .ret E h) : WP C ntm .ret E h Q := fun env hE => ⟨1, .ret, env, h, E, rfl, hE, hq⟩
theorem WP.exit {i : Nat} (hq : Q (.exit i) E h) : WP C ntm (.exit i) E h Q := fun env hE => ⟨1, .exit i, env, h, E, rfl, hE, hq⟩
theorem WP.region {id : Nat} {ops : Array Oper} (hl : ops.toList = l) (hw : WPs C ntm l l E h fun E' h' => Q .normal E' h') : WP C ntm (.region id ops false) E h Q := by
 intro env hE
 obtain ⟨N, env', h', E', h1, h2, h3⟩ := hw env hE
 refine ⟨N + 1, .normal, env', h', E', ?_, h2, h3⟩
 subst hl
 rw [ev_step]
 simp only [evStep, cond_false, h1]
theorem WP.seq {a b : Code} (hw : WP C ntm a E h fun ex E' h' => match ex with
  | .normal => WP C ntm b E' h' Q
  | ex => Q ex E' h') : WP C ntm (.seq a b) E h Q := by
 intro env hE
 obtain ⟨N, ex, env', h', E', h1, h2, h3⟩ := hw env hE
 cases ex with
 | normal =>
  obtain ⟨M, ex2, env2, h2', E2, g1, g2, g3⟩ := h3 env' h2
  refine ⟨Nat.max N M + 1, ex2, env2, h2', E2, ?_, g2, g3⟩
  rw [ev_step]
  simp only [evStep, ev_mono (Nat.le_max_left N M) _ _ _ h1]
  exact ev_mono (Nat.le_max_right N M) _ _ _ g1
 | exit i =>
  refine ⟨N + 1, .exit i, env', h', E', ?_, h2, h3⟩
  rw [ev_step]
  simp only [evStep, h1]
 | ret =>
  refine ⟨N + 1, .ret, env', h', E', ?_, h2, h3⟩
  rw [ev_step]
  simp only [evStep, h1]
theorem WP.cond {x : Operand} {a b : Code} {t : Bool} (hx : lookO E x = some (.bool t)) (hw : WP C ntm (_root_.cond t a b) E h Q) : WP C ntm (.cond x a b) E h Q := by
 intro env hE
 obtain ⟨N, ex, env', h', E', h1, h2, h3⟩ := hw env hE
 refine ⟨N + 1, ex, env', h', E', ?_, h2, h3⟩
 rw [ev_step]
 simp only [evStep, lookO_ok hE hx]
 exact h1
theorem WP.block {i : Nat} {b : Code} (hw : WP C ntm b E h fun ex E' h' => match ex with
  | .exit j => _root_.cond (Nat.beq j i) (Q .normal E' h') (Q (.exit j) E' h')
  | ex => Q ex E' h') : WP C ntm (.block i b) E h Q := by
 intro env hE
 obtain ⟨N, ex, env', h', E', h1, h2, h3⟩ := hw env hE
 cases ex with
 | exit j =>
  cases hj : Nat.beq j i with
  | true =>
   simp only [hj, cond_true] at h3
   refine ⟨N + 1, .normal, env', h', E', ?_, h2, h3⟩
   rw [ev_step]
   simp only [evStep, h1, hj, cond_true]
  | false =>
   simp only [hj, cond_false] at h3
   refine ⟨N + 1, .exit j, env', h', E', ?_, h2, h3⟩
   rw [ev_step]
   simp only [evStep, h1, hj, cond_false]
 | normal =>
  refine ⟨N + 1, .normal, env', h', E', ?_, h2, h3⟩
  rw [ev_step]
  simp only [evStep, h1]
 | ret =>
  refine ⟨N + 1, .ret, env', h', E', ?_, h2, h3⟩
  rw [ev_step]
  simp only [evStep, h1]
theorem WP.scope {b : Code} (hw : WP C ntm b E h Q) : WP C ntm (.scope b) E h Q := by
 intro env hE
 obtain ⟨N, ex, env', h', E', h1, h2, h3⟩ := hw env hE
 exact ⟨N + 1, ex, env', h', E', h1, h2, h3⟩
theorem WP.loop {b : Code} (hw : WP C ntm b E h fun ex E' h' => match ex with
  | .normal => WP C ntm (.loop b) E' h' Q
  | ex => Q ex E' h') : WP C ntm (.loop b) E h Q := by
 intro env hE
 obtain ⟨N, ex, env', h', E', h1, h2, h3⟩ := hw env hE
 cases ex with
 | normal =>
  obtain ⟨M, ex2, env2, h2', E2, g1, g2, g3⟩ := h3 env' h2
  refine ⟨Nat.max N M + 1, ex2, env2, h2', E2, ?_, g2, g3⟩
  rw [ev_step]
  simp only [evStep, ev_mono (Nat.le_max_left N M) _ _ _ h1]
  exact ev_mono (Nat.le_max_right N M) _ _ _ g1
 | exit i =>
  refine ⟨N + 1, .exit i, env', h', E', ?_, h2, h3⟩
  rw [ev_step]
  simp only [evStep, h1]
 | ret =>
  refine ⟨N + 1, .ret, env', h', E', ?_, h2, h3⟩
  rw [ev_step]
  simp only [evStep, h1]
theorem WPs.nil (hq : R E h) : WPs C ntm L [] E h R := fun env hE => ⟨0, env, h, E, rfl, hE, hq⟩
def wantE (L : List Oper) (E : List (Nat × V)) (g : Option (Nat × Bool)) : Option Bool := match g with
 | none => some true
 | some (j, want) => match (nth L j).bind (·.dst) with
  | some d => match look E d with
   | some (.bool b) => some (b == want)
   | some _ => some false
   | none => none
  | none => none
theorem wantE_ok {env : Env} {o : Oper} {b : Bool} (hE : EOk env E) (hw : wantE L E o.guard = some b) : wantedV L env o = b := by
 unfold wantE at hw
 unfold wantedV
 split at hw
 ·rename_i hg; simp only [hg]; simpa using hw
 ·rename_i j want hg
  simp only [hg]
  split at hw
  ·rename_i d hd
   simp only [hd]
   split at hw
   ·rename_i b' hl
    simp only [Env.v, hE d _ hl]
    simpa using hw
   ·rename_i v hne hl
    simp only [Env.v, hE d _ hl]
    cases v <;> first | simpa using hw | exact absurd rfl (hne _)
   ·cases hw
  ·cases hw
theorem WPs.op {o : Oper} {rest : List Oper} {d : Nat} {v : V} {h₁ : H} (hg : wantE L E o.guard = some true) (hd : o.dst = some d) (hn : Nat.blt d ntm = true) (ho : opE C.P E h o.op = some (v, h₁))
  (hw : WPs C ntm L rest ((d, v) :: E) h₁ R) : WPs C ntm L (o :: rest) E h R := by
 intro env hE
 obtain ⟨N, env', h', E', h1, h2, h3⟩ := hw (env.set d (some v)) (hE.set d v)
 refine ⟨N, env', h', E', ?_, h2, h3⟩
 simp only [evOps, wantE_ok hE hg, cond_true, opE_ok hE ho, St.put, hd, hn]
 exact h1
theorem WPs.op0 {o : Oper} {rest : List Oper} {v : V} {h₁ : H} (hg : wantE L E o.guard = some true) (hd : o.dst = none) (ho : opE C.P E h o.op = some (v, h₁))
  (hw : WPs C ntm L rest E h₁ R) : WPs C ntm L (o :: rest) E h R := by
 intro env hE
 obtain ⟨N, env', h', E', h1, h2, h3⟩ := hw env hE
 refine ⟨N, env', h', E', ?_, h2, h3⟩
 simp only [evOps, wantE_ok hE hg, cond_true, opE_ok hE ho, St.put, hd]
 exact h1
theorem WPs.no {o : Oper} {rest : List Oper} {d : Nat} (hg : wantE L E o.guard = some false) (hd : o.dst = some d) (hn : Nat.blt d ntm = true)
  (hw : WPs C ntm L rest ((d, undefV) :: E) h R) : WPs C ntm L (o :: rest) E h R := by
 intro env hE
 obtain ⟨N, env', h', E', h1, h2, h3⟩ := hw (env.set d (some undefV)) (hE.set d undefV)
 refine ⟨N, env', h', E', ?_, h2, h3⟩
 simp only [evOps, wantE_ok hE hg, cond_false, St.put, hd, hn, cond_true]
 exact h1
theorem callDo_op {o : Oper} {cl : Go.Call} {x : Operand} {k : FuncId} {first cap args : List V} {v : V} {h₁ : H} {env : Env} (hE : EOk env E) (hop : o.op = .call cl) (hc : cl.callee = .value x)
  (hx : lookO E x = some (.fn (.func k) first cap)) (ha : lookArgs E cl.args.toList = some args) (hcall : CallDo C k (first ++ (args ++ cap)) h v h₁) :
  ∃ N, evOp C (ev C N) env h o = some (v, h₁) := by
 have hb := hcall.body
 obtain ⟨N, hN⟩ := hcall
 refine ⟨N, ?_⟩
 simp only [evOp, hop, evCall, lookArgs_ok hE ha, hc, lookO_ok hE hx, callV, hb, cond_true]
 exact hN
theorem WPs.call {o : Oper} {rest : List Oper} {d : Nat} {cl : Go.Call} {x : Operand} {k : FuncId} {first cap args : List V} {R₁ : V → H → Prop} (hg : wantE L E o.guard = some true) (hd : o.dst = some d) (hn : Nat.blt d ntm = true)
  (hop : o.op = .call cl) (hc : cl.callee = .value x) (hx : lookO E x = some (.fn (.func k) first cap)) (ha : lookArgs E cl.args.toList = some args)
  (hcall : Call C k (first ++ (args ++ cap)) h R₁) (hw : ∀ v h₁, R₁ v h₁ → WPs C ntm L rest ((d, v) :: E) h₁ R) : WPs C ntm L (o :: rest) E h R := by
 intro env hE
 obtain ⟨v, h₁, hdo, hr⟩ := hcall
 obtain ⟨N, hN⟩ := callDo_op hE hop hc hx ha hdo
 obtain ⟨M, env', h', E', h1, h2, h3⟩ := hw v h₁ hr (env.set d (some v)) (hE.set d v)
 refine ⟨Nat.max N M, env', h', E', ?_, h2, h3⟩
 simp only [evOps, wantE_ok hE hg, cond_true, evOp_mono (ev_mono (Nat.le_max_left N M)) hN, St.put, hd, hn]
 exact evOps_mono (ev_mono (Nat.le_max_right N M)) _ _ _ h1
end
def Has (E : List (Nat × V)) : List (Nat × V) → Prop
 | [] => True
 | p :: F => look E p.1 = some p.2 ∧ Has E F
theorem Has.sub {E : List (Nat × V)} : ∀ {F : List (Nat × V)}, Has E F → ∀ t v, look F t = some v → look E t = some v := by
 intro F
 induction F with
 | nil => intro _ t v h; cases h
 | cons p F ih =>
  intro hF t v h
  simp only [look] at h
  by_cases hp : p.1 = t
  ·subst hp
   rw [beqT rfl, cond_true] at h
   rw [hF.1]; exact h
  ·rw [beqF hp, cond_false] at h
   exact ih hF.2 t v h
theorem WP.has {C : Cfg} {ntm : Nat} {code : Code} {E F : List (Nat × V)} {h : H} {Q : Ex → List (Nat × V) → H → Prop} (hF : Has E F) (hw : WP C ntm code F h Q) : WP C ntm code E h Q := WP.sub hF.sub hw
theorem evRes {P : Program} {s : St} {E : List (Nat × V)} (hE : EOk s.env E) {t : Nat} {v : V} (h : look E t = some v) : resV P s (.tmp t) = some v := by
 simp only [resV, Env.v, hE t v h]
noncomputable def resE (P : Program) (E : List (Nat × V)) (h : H) : ResultVar → Option V
 | .tmp t => look E t
 | .cell a t => match look E a with
  | some p => loadV P h t p
  | none => none
theorem resE_ok {P : Program} {E : List (Nat × V)} {s : St} (hE : EOk s.env E) {x : ResultVar} {v : V} (hx : resE P E s.h x = some v) : resV P s x = some v := by
 cases x with
 | tmp t => exact evRes hE hx
 | cell a t =>
  simp only [resE] at hx
  cases ha : look E a with
  | none => simp [ha] at hx
  | some p => simp only [ha] at hx; simp only [resV, Env.v, hE a p ha]; exact hx
noncomputable def resLE (P : Program) (E : List (Nat × V)) (h : H) (rs : List ResultVar) : Option V := match mapO (resE P E h) rs with
 | some [v] => some v
 | some vs => some (.tup vs)
 | none => none
theorem mapO_ok {P : Program} {E : List (Nat × V)} {s : St} (hE : EOk s.env E) : ∀ {rs : List ResultVar} {vs : List V}, mapO (resE P E s.h) rs = some vs → mapO (resV P s) rs = some vs := by
 intro rs
 induction rs with
 | nil => intro vs h; exact h
 | cons x rs ih =>
  intro vs h
  simp only [mapO] at h
  cases hx : resE P E s.h x with
  | none => simp [hx] at h
  | some v =>
   cases hl : mapO (resE P E s.h) rs with
   | none => simp [hx, hl] at h
   | some m => simp only [hx, hl] at h; simp only [mapO, resE_ok hE hx, ih hl]; exact h
def argE : List V → Nat → List (Nat × V)
 | [], _ => []
 | v :: l, k => (k, v) :: argE l (k + 1)
theorem look_argE : ∀ (l : List V) (k t : Nat), look (argE l k) t = if k ≤ t ∧ t < k + l.length then l[t - k]? else none := by
 intro l
 induction l with
 | nil => intro k t; simp [argE, look]
 | cons v l ih =>
  intro k t
  simp only [argE, look]
  by_cases h : k = t
  ·subst h; simp
  ·rw [beqF h, cond_false, ih]
   by_cases h1 : k + 1 ≤ t ∧ t < k + 1 + l.length
   ·rw [if_pos h1, if_pos (by simp; omega), show t - k = (t - (k + 1)) + 1 from by omega]; simp
   ·rw [if_neg h1]
    split
    ·simp at *; omega
    ·rfl
theorem argE_ok (l : List V) : EOk (bindArgs l 0 .lf) (argE l 0) := by
 intro t v h
 rw [look_argE] at h
 rw [bindArgs_get]
 split at h
 ·rename_i hk; rw [if_pos hk]; exact h
 ·cases h
theorem Call.of_wp {C : Cfg} {f : FuncId} {fn : Func} {code : Code} {args : List V} {h : H} {R : V → H → Prop} (ht : C.told f = none) (hf : C.P.funcs[f]? = some fn) (hb : fn.body = some code)
  (hq : (fn.name == "runtime.NumGoroutine" || Nat.blt fn.ntmps args.length) = false)
  (hw : WP C fn.ntmps code (argE args 0) h fun ex E' h' => (match ex with | .exit _ => False | _ => True) ∧ ∃ v, resLE C.P E' h' fn.results.toList = some v ∧ R v h') : Call C f args h R := by
 obtain ⟨N, ex, env', h', E', h1, h2, h3, v, h4, h5⟩ := hw _ (argE_ok args)
 refine ⟨v, h', ⟨N, ?_⟩, h5⟩
 unfold callF
 simp only [ht, hf, hb, hq, cond_false, h1]
 unfold resLE at h4
 cases hm : mapO (resE C.P E' h') fn.results.toList with
 | none => simp [hm] at h4
 | some vs =>
  rw [hm] at h4
  have hm' := mapO_ok (P := C.P) (s := ⟨env', fn.ntmps, h'⟩) h2 hm
  cases ex with
  | exit i => exact h3.elim
  | normal =>
   simp only [hm']
   match vs, h4 with
   | [], h4 => simpa using h4
   | [x], h4 => simpa using h4
   | x :: y :: l, h4 => simpa using h4
  | ret =>
   simp only [hm']
   match vs, h4 with
   | [], h4 => simpa using h4
   | [x], h4 => simpa using h4
   | x :: y :: l, h4 => simpa using h4
end Go.Proofs.YtconhghphklfjaaGreat.Am
