/- Whatever groups are done and dropped, written out and checkpointed between, each page is as the groups that were done made it; the conditions are those of the given statement, for arguments that a machine can hold. Part 35 of 49. -/
import Derived.Test.YtconhghphklfjaaGreatP13
import Derived.Test.YtconhghphklfjaaGreatP34
namespace Go.Proofs.YtconhghphklfjaaGreat.Am
open Go
def OutO (ntm : Nat) (Q : Ex → List (Nat × V) → H → Prop) (c : Ctx) (a : Act) (w : World) (e : Exit) (a' : Act) (w' : World) : Prop :=
 ∃ ex env' h' E', e = exOf ex ∧ EOk env' E' ∧ Q ex E' h' ∧ a'.defers = a.defers ∧ ∃ c', Rel c' h' w' ∧ EnvOk c' env' ntm a' ∧ Stp c w c' w'
def WPO (C : Cfg) (ntm : Nat) (code : Code) (E : List (Nat × V)) (h : H) (Q : Ex → List (Nat × V) → H → Prop) : Prop :=
 ∀ (c : Ctx) (a : Act) (w : World) (env : Env), EOk env E → Rel c h w → EnvOk c env ntm a → code.wpIn (Fr none) 0 C.P (OutO ntm Q c a w) a w
section
variable {C : Cfg} {ntm : Nat} {E : List (Nat × V)} {h : H} {Q Q' : Ex → List (Nat × V) → H → Prop} {a b : Code}
theorem OutO.trans {c c₁ : Ctx} {A A₁ a' : Act} {w w₁ w' : World} {e : Exit} (hd : A₁.defers = A.defers) (hs : Stp c w c₁ w₁) (ho : OutO ntm Q c₁ A₁ w₁ e a' w') : OutO ntm Q c A w e a' w' := by
 obtain ⟨ex, env', h', E', h1, h2, h3, h4, c', h5, h6, h7⟩ := ho
 exact ⟨ex, env', h', E', h1, h2, h3, h4.trans hd, c', h5, h6, hs.trans h7⟩
theorem WPO.of (hm : C.P.follows .mixedOrders = true) (hT : ToldOk C) (hw : WP C ntm a E h Q) : WPO C ntm a E h Q := by
 intro c A w env hE hr he
 obtain ⟨N, ex, env', h', E', h1, h2, h3⟩ := hw env hE
 refine wpIn_mono ((ev_okR hm hT N).1 _ _ _ _ h1 none c A w hr he) ?_
 rintro e a' w' ⟨rfl, h4, c', h5, h6, h7⟩
 exact ⟨ex, env', h', E', rfl, h2, h3, h4, c', h5, h6, h7⟩
theorem WPO.mono (hw : WPO C ntm a E h Q) (hq : ∀ ex E' h', Q ex E' h' → Q' ex E' h') : WPO C ntm a E h Q' := by
 intro c A w env hE hr he
 refine wpIn_mono (hw c A w env hE hr he) ?_
 rintro e a' w' ⟨ex, env', h', E', h1, h2, h3, h4⟩
 exact ⟨ex, env', h', E', h1, h2, hq _ _ _ h3, h4⟩
theorem WPO.seq (hw : WPO C ntm a E h fun ex E' h' => match ex with
  | .normal => WPO C ntm b E' h' Q
  | ex => Q ex E' h') : WPO C ntm (.seq a b) E h Q := by
 intro c A w env hE hr he
 refine wpIn_seq (wpIn_mono (hw c A w env hE hr he) ?_)
 rintro e a₁ w₁ ⟨ex, env', h', E', rfl, h2, h3, h4, c₁, h5, h6, h7⟩
 cases ex with
 | normal => exact wpIn_mono (h3 c₁ a₁ w₁ env' h2 h5 h6) fun e a' w' ho => ho.trans h4 h7
 | exit i => exact ⟨_, env', h', E', rfl, h2, h3, h4, c₁, h5, h6, h7⟩
 | ret => exact ⟨_, env', h', E', rfl, h2, h3, h4, c₁, h5, h6, h7⟩
theorem WPO.cond {x : Operand} {t : Bool} (hx : lookO E x = some (.bool t)) (hw : WPO C ntm (_root_.cond t a b) E h Q) : WPO C ntm (.cond x a b) E h Q := by
 intro c A w env hE hr he
 obtain ⟨e1, _⟩ := evO_ok he (lookO_ok hE hx)
 refine wpIn_cond (t := t) (by rw [e1]; rfl) ?_
 have := hw c A w env hE hr he
 cases t <;> simpa using this
theorem WPO.block {i : Nat} (hw : WPO C ntm b E h fun ex E' h' => match ex with
  | .exit j => _root_.cond (Nat.beq j i) (Q .normal E' h') (Q (.exit j) E' h')
  | ex => Q ex E' h') : WPO C ntm (.block i b) E h Q := by
 intro c A w env hE hr he
 refine wpIn_block (wpIn_mono (hw c A w env hE hr he) ?_)
 rintro e a₁ w₁ ⟨ex, env', h', E', rfl, h2, h3, h4, c₁, h5, h6, h7⟩
 cases ex with
 | normal => simp only [exOf, Exit.inBlock]; exact ⟨.normal, env', h', E', rfl, h2, h3, h4, c₁, h5, h6, h7⟩
 | exit j =>
  by_cases hj : j = i
  ·simp only [beqT hj, cond_true] at h3
   simp only [exOf, Exit.inBlock, hj, if_true]
   exact ⟨.normal, env', h', E', rfl, h2, h3, h4, c₁, h5, h6, h7⟩
  ·simp only [beqF hj, cond_false] at h3
   simp only [exOf, Exit.inBlock, hj, if_false]
   exact ⟨.exit j, env', h', E', rfl, h2, h3, h4, c₁, h5, h6, h7⟩
 | ret => simp only [exOf, Exit.inBlock]; exact ⟨.ret, env', h', E', rfl, h2, h3, h4, c₁, h5, h6, h7⟩
theorem WPO.loop (J : Nat → List (Nat × V) → H → Prop) (hJ : ∀ j E h, J j E h → WPO C ntm b E h fun ex E' h' => match ex with
  | .normal => ∃ i, i < j ∧ J i E' h'
  | ex => Q ex E' h') {j : Nat} (h0 : J j E h) : WPO C ntm (.loop b) E h Q := by
 have key : ∀ m j E h, j < m → J j E h → ∀ (c : Ctx) (A : Act) (w : World) (env : Env) (R : Exit → Act → World → Prop), EOk env E → Rel c h w → EnvOk c env ntm A →
   (∀ e a' w', OutO ntm Q c A w e a' w' → R e a' w') → Code.roundsIn (Fr none) 0 C.P b R m A w := by
  intro m
  induction m with
  | zero => intro j E h hj; omega
  | succ m ih =>
   intro j E h hj hJj c A w env R hE hr he hR
   rw [roundsIn_succ]
   refine wpIn_mono (hJ j E h hJj c A w env hE hr he) ?_
   rintro e a₁ w₁ ⟨ex, env', h', E', rfl, h2, h3, h4, c₁, h5, h6, h7⟩
   cases ex with
   | normal =>
    obtain ⟨i, hi, h3⟩ := h3
    exact ih i E' h' (by omega) h3 c₁ a₁ w₁ env' R h2 h5 h6 fun e a' w' ho => hR _ _ _ (ho.trans h4 h7)
   | exit i => exact hR _ _ _ ⟨_, env', h', E', rfl, h2, h3, h4, c₁, h5, h6, h7⟩
   | ret => exact hR _ _ _ ⟨_, env', h', E', rfl, h2, h3, h4, c₁, h5, h6, h7⟩
 intro c A w env hE hr he
 exact wpIn_loop_rounds (j + 1) (key (j + 1) j E h (by omega) h0 c A w env _ hE hr he fun _ _ _ ho => ho)
theorem flatM_all {α β : Type} {f : α → Option (List β)} {p : β → Prop} : ∀ {L : List α}, (∀ q ∈ L, ∃ s, f q = some [s] ∧ p s) → ∃ R, flatM f L = some R ∧ ∀ s ∈ R, p s := by
 intro L
 induction L with
 | nil => intro _; exact ⟨[], rfl, fun s hs => by cases hs⟩
 | cons q L ih =>
  intro hq
  obtain ⟨R, h1, h2⟩ := ih fun q hq' => hq q (List.mem_cons_of_mem _ hq')
  obtain ⟨s, e1, e2⟩ := hq q List.mem_cons_self
  refine ⟨s :: R, ?_, fun s' hs => ?_⟩
  ·simp only [flatM, e1, h1, List.cons_append, List.nil_append]
  ·rcases List.mem_cons.1 hs with rfl | hs
   ·exact e2
   ·exact h2 s' hs
theorem WPO.next {id : Nat} {o₁ o₂ : Oper} {x y : Operand} {r d₁ d₂ : Nat} {L : List (V × H)} (hm : C.P.follows .mixedOrders = true) (hT : ToldOk C) (g₁ : o₁.guard = none) (g₂ : o₂.guard = none) (p₁ : o₁.op = .next x false) (q₁ : o₁.dst = some d₁)
  (p₂ : o₂.op = .extract y 0) (hy : y = .tmp d₁) (q₂ : o₂.dst = some d₂) (n₁ : Nat.blt d₁ ntm = true) (n₂ : Nat.blt d₂ ntm = true) (hx : lookO E x = some (.ptr r 0)) (hL : nextAll h r = some L)
  (hq : ∀ q ∈ L, ∃ t l, q.1 = .tup (t :: l) ∧ Q .normal ((d₂, t) :: (d₁, q.1) :: E) q.2) : WPO C ntm (.region id #[o₁, o₂] false) E h Q := by
 intro c A w env hE hr he
 subst hy
 have hS := (ev_okR (C := C) hm hT 0).1
 refine wpIn_region ?_
 rw [List.range_eq_range', ← Array.length_toList]
 have hev : ∃ R, opsAll C (ev C 0) (#[o₁, o₂] : Array Oper).toList (#[o₁, o₂] : Array Oper).toList ⟨env, ntm, h⟩ = some R ∧ ∀ s ∈ R, ∃ E', EOk s.env E' ∧ s.ntm = ntm ∧ Q .normal E' s.h := by
  have e1 : ∀ e₁ : Env, wantedV [o₁, o₂] e₁ o₁ = true := fun e₁ => by simp only [wantedV, g₁]
  have e2 : ∀ e₁ : Env, wantedV [o₁, o₂] e₁ o₂ = true := fun e₁ => by simp only [wantedV, g₂]
  have hx' := lookO_ok hE hx
  simp only [opsAll, e1, e2, cond_true, opAll, p₁, hx', Nat.beq_refl, hL]
  refine flatM_all fun q hq' => ?_
  obtain ⟨t, l, k1, k2⟩ := hq q hq'
  refine ⟨⟨(env.set d₁ (some q.1)).set d₂ (some t), ntm, q.2⟩, ?_, _, (hE.set d₁ q.1).set d₂ t, rfl, k2⟩
  have hg : evO (T.set env d₁ (some (V.tup (t :: l)))) (.tmp d₁) = some (.tup (t :: l)) := by simp only [evO, Env.v, get_set, if_true]
  simp only [St.put, q₁, n₁, cond_true, p₂, evOp, k1, hg, nth, Nat.beq_refl, pureV, q₂, n₂, flatM, List.append_nil]
 obtain ⟨R, hev, h2⟩ := hev
 refine opsAll_ok hS hT _ 0 ⟨env, ntm, h⟩ R c A w (fun j => by rw [Nat.zero_add, Array.getElem?_toList]) hev hr he ?_
 intro s' hs' c' a' w' r1 r2 r3 r4
 obtain ⟨E', e1, e2, e3⟩ := h2 s' hs'
 exact ⟨.normal, s'.env, s'.h, E', rfl, e1, e3, r4, c', r1, by rw [e2] at r2; exact r2, r3⟩
theorem CallOk.of_wpo {f : FuncId} {fn : Func} {code : Code} {args : List V} {v : V} {σ' : H} (hf : C.P.funcs[f]? = some fn) (hb : fn.body = some code) (hn : args.length ≤ fn.ntmps)
  (hw : WPO C fn.ntmps code (argE args 0) h fun ex E' h' => (match ex with | .exit _ => False | _ => True) ∧ resLE C.P E' h' fn.results.toList = some v ∧ σ'.next = h'.next ∧ ∀ id o, T.get σ'.tr id = some o → T.get h'.tr id = some o)
  {c : Ctx} {w : World} (hr : Rel c h w) (ha : ∀ x ∈ args, wf c x) : CallOk C.P f args c w v σ' := by
 have henv := bindArgs_env (c := c) hn ha
 have hwp := hw c _ w _ (argE_ok args) hr henv
 unfold CallOk
 refine calls_of_wp hf hb (wpIn_wide.1 (wpIn_mono hwp ?_))
 rintro e a' w' ⟨ex, env', h', E', rfl, hE', ⟨hx, hres, hnx, hle⟩, hd, c', r1, r2, r3⟩
 have fin : a'.defers = [] ∧ ∃ x, (results fn a'.tmps).run C.P w' = .ok x w' ∧ ∃ c'', Ending.returned x = .returned (conc c'' v) ∧ wf c'' v ∧ Rel c'' σ' w' ∧ Stp c w c'' w' := by
  refine ⟨hd, ?_⟩
  unfold resLE at hres
  cases hmm : mapO (resE C.P E' h') fn.results.toList with
  | none => simp [hmm] at hres
  | some vs =>
   rw [hmm] at hres
   have hm' := mapO_ok (P := C.P) (s := ⟨env', fn.ntmps, h'⟩) hE' hmm
   obtain ⟨t1, t2⟩ := results_ok (s := ⟨env', fn.ntmps, h'⟩) r1 r2 hm'
   refine ⟨_, t1, c', ?_⟩
   have hrel := r1.lessH hnx hle
   match vs, hres with
   | [], hres =>
    simp at hres
    subst hres
    refine ⟨?_, by simp [wf, wfL], hrel, r3⟩
    simp [conc, concL]
   | [x], hres =>
    simp at hres
    subst hres
    exact ⟨by simp, t2 _ (by simp), hrel, r3⟩
   | x :: y :: l, hres =>
    simp at hres
    subst hres
    refine ⟨?_, by simp only [wf, wfL_iff]; exact t2, hrel, r3⟩
    rw [dif_neg (by simp)]
    simp [conc, concL_eq, concL]
 cases ex with
 | normal => simpa [bodyPost, exOf] using fin
 | exit i => exact hx.elim
 | ret => simpa [bodyPost, exOf] using fin
end
end Go.Proofs.YtconhghphklfjaaGreat.Am
namespace Go.Proofs.YtconhghphklfjaaGreat.Am
open Go
theorem inL_app (l : List Nat) (b x : Nat) : inL (l ++ [b]) x = (inL l x || Nat.beq b x) := by
 induction l with
 | nil => simp only [List.nil_append, inL, Bool.false_or]; cases Nat.beq b x <;> rfl
 | cons y l ih => simp only [List.cons_append, inL, ih]; cases Nat.beq y x <;> simp
theorem leftV_mem {seen : List Nat} : ∀ {l : List (V × V × Nat)} {e : V × V × Nat}, e ∈ leftV seen l → e ∈ l ∧ inL seen e.2.2 = false := by
 intro l
 induction l with
 | nil => intro e h; cases h
 | cons y l ih =>
  intro e h
  simp only [leftV] at h
  cases hy : inL seen y.2.2 with
  | true => rw [hy, cond_true] at h; exact ⟨List.mem_cons_of_mem _ (ih h).1, (ih h).2⟩
  | false =>
   rw [hy, cond_false] at h
   rcases List.mem_cons.1 h with rfl | h
   ·exact ⟨List.mem_cons_self, hy⟩
   ·exact ⟨List.mem_cons_of_mem _ (ih h).1, (ih h).2⟩
theorem leftV_nil {seen : List Nat} : ∀ {l : List (V × V × Nat)}, leftV seen l = [] → ∀ e ∈ l, inL seen e.2.2 = true := by
 intro l
 induction l with
 | nil => intro _ e he; cases he
 | cons y l ih =>
  intro h e he
  simp only [leftV] at h
  cases hy : inL seen y.2.2 with
  | false => rw [hy, cond_false] at h; cases h
  | true =>
   rw [hy, cond_true] at h
   rcases List.mem_cons.1 he with rfl | he
   ·exact hy
   ·exact ih h e he
theorem leftV_le {seen : List Nat} {b : Nat} : ∀ {l : List (V × V × Nat)}, (leftV (seen ++ [b]) l).length ≤ (leftV seen l).length := by
 intro l
 induction l with
 | nil => exact Nat.le_refl _
 | cons y l ih =>
  simp only [leftV, inL_app]
  cases inL seen y.2.2 <;> cases Nat.beq b y.2.2 <;> simp <;> omega
theorem leftV_lt {seen : List Nat} : ∀ {l : List (V × V × Nat)} {e : V × V × Nat}, e ∈ leftV seen l → (leftV (seen ++ [e.2.2]) l).length < (leftV seen l).length := by
 intro l
 induction l with
 | nil => intro e h; cases h
 | cons y l ih =>
  intro e h
  simp only [leftV] at h
  cases hy : inL seen y.2.2 with
  | true =>
   rw [hy, cond_true] at h
   simp only [leftV, inL_app, hy, Bool.true_or, cond_true]
   exact ih h
  | false =>
   rw [hy, cond_false] at h
   simp only [leftV, inL_app, hy, Bool.false_or, cond_false]
   rcases List.mem_cons.1 h with rfl | h
   ·rw [Nat.beq_refl, cond_true]
    have := leftV_le (seen := seen) (b := e.2.2) (l := l)
    simp; omega
   ·cases Nat.beq e.2.2 y.2.2
    ·simp only [cond_false, List.length_cons]; have := ih h; omega
    ·simp only [cond_true, List.length_cons]; have := leftV_le (seen := seen) (b := e.2.2) (l := l); omega
theorem allOld_of {c : Nat} : ∀ {l : Ents} {b : Nat}, bornR c b l → allOld c (l.map mkE) = true := by
 intro l
 induction l with
 | nil => intro b _; rfl
 | cons e l ih =>
  intro b h
  simp only [List.map_cons, mkE, allOld]
  rw [blt_iff.2 h.2.1, cond_true]
  exact ih h.2.2
theorem bornRise_of {c : Nat} : ∀ {l : Ents} {b : Nat}, bornR c b l → bornRise b (l.map mkE) = true := by
 intro l
 induction l with
 | nil => intro b _; rfl
 | cons e l ih =>
  intro b h
  simp only [List.map_cons, mkE, bornRise]
  rw [ble_iff.2 h.1, cond_true]
  exact ih h.2.2
theorem bornR_ge {c : Nat} : ∀ {l : Ents} {b : Nat}, bornR c b l → ∀ e ∈ l, b ≤ e.2.2 := by
 intro l
 induction l with
 | nil => intro b _ e he; cases he
 | cons y l ih =>
  intro b h e he
  rcases List.mem_cons.1 he with rfl | he
  ·exact h.1
  ·have := ih h.2.2 e he; have := h.1; omega
theorem entryOf_of {c : Nat} : ∀ {l : Ents} {b : Nat} {e : Int × V × Nat}, bornR c b l → e ∈ l → entryOf e.2.2 (l.map mkE) = some (mkE e) := by
 intro l
 induction l with
 | nil => intro b e _ he; cases he
 | cons y l ih =>
  intro b e h he
  simp only [List.map_cons, entryOf]
  rcases List.mem_cons.1 he with rfl | he
  ·show cond (Nat.beq e.2.2 e.2.2) _ _ = _
   rw [Nat.beq_refl, cond_true]
  ·have := bornR_ge h.2.2 e he
   show cond (Nat.beq y.2.2 e.2.2) _ _ = _
   rw [beqF (by omega), cond_false]
   exact ih h.2.2 he
theorem lastN_app : ∀ (l : List Nat) (b : Nat), lastN (l ++ [b]) = some b := by
 intro l b
 induction l with
 | nil => rfl
 | cons x l ih =>
  cases l with
  | nil => rfl
  | cons y l => simpa [lastN] using ih
section
variable {h : H} {r mid since clock b : Nat} {seen : List Nat} {es : Ents}
theorem entry_at {e : Int × V × Nat} (hg : T.get h.tr r = some (.iter mid since clock (seen ++ [e.2.2]))) (hm : T.get h.tr mid = some (.map (es.map mkE) clock)) (hb : bornR clock 0 es) (he : e ∈ es) :
  entryV h (.ptr r 0) = some (.tup [.int .i64 e.1, e.2.1]) := by
 simp only [entryV, Nat.beq_refl, cond_true, hg, hm, bornRise_of hb, Bool.and_self, lastN_app, entryOf_of hb he]
 rfl
theorem next_at (hg : T.get h.tr r = some (.iter mid since clock seen)) (hs : since ≤ clock) (hm : T.get h.tr mid = some (.map (es.map mkE) clock)) (hb : bornR since 0 es) :
  nextAll h r = some (match leftV seen (es.map mkE) with
   | [] => [(.tup [.bool false], h)]
   | l => l.map fun e => (.tup [.bool true, e.1, e.2.1], h.put r (some (.iter mid since clock (seen ++ [e.2.2]))))) := by
 simp only [nextAll, hg, hm, allOld_of hb, ble_iff.2 hs, Bool.and_self, cond_true]
 cases leftV seen (es.map mkE) <;> rfl
theorem next_all {L : List (V × H)} (hg : T.get h.tr r = some (.iter mid since clock seen)) (hs : since ≤ clock) (hm : T.get h.tr mid = some (.map (es.map mkE) clock)) (hb : bornR since 0 es) (hL : nextAll h r = some L) :
  ∀ q ∈ L, (q = (.tup [.bool false], h) ∧ ∀ e ∈ es, inL seen e.2.2 = true) ∨
   ∃ e ∈ es, inL seen e.2.2 = false ∧ (leftV (seen ++ [e.2.2]) (es.map mkE)).length < (leftV seen (es.map mkE)).length ∧ q = (.tup [.bool true, .int .i64 e.1, e.2.1], h.put r (some (.iter mid since clock (seen ++ [e.2.2])))) := by
 rw [next_at hg hs hm hb] at hL
 simp only [Option.some.injEq] at hL
 subst hL
 intro q hq
 cases hl : leftV seen (es.map mkE) with
 | nil =>
  rw [hl] at hq
  refine .inl ⟨List.mem_singleton.1 hq, fun e he => ?_⟩
  exact leftV_nil hl (mkE e) (List.mem_map_of_mem he)
 | cons y l =>
  rw [hl] at hq
  obtain ⟨e', he', rfl⟩ := List.mem_map.1 hq
  rw [← hl] at he'
  obtain ⟨h1, h2⟩ := leftV_mem he'
  obtain ⟨e, he, rfl⟩ := List.mem_map.1 h1
  have h3 := leftV_lt he'
  rw [hl] at h3
  exact .inr ⟨e, he, h2, h3, rfl⟩
end
open Classical in
noncomputable def toldIf (P : Program) (f : FuncId) (pin : List V → H → V × H → Prop) (args : List V) (h : H) : Option (V × H) :=
 if hx : ∃ r, pin args h r ∧ ∀ (c : Ctx) (w : World), Rel c h w → (∀ x ∈ args, wf c x) → CallOk P f args c w r.1 r.2 then some hx.choose else none
theorem toldIf_ok {P : Program} {f : FuncId} {pin : List V → H → V × H → Prop} (hf : ∃ fn, P.funcs[f]? = some fn ∧ fn.body.isSome = true ∧ (fn.name == "runtime.NumGoroutine") = false) : ToldOne P f (toldIf P f pin) := by
 refine .inl ⟨hf, fun args σ v σ' hr c w h hw => ?_⟩
 unfold toldIf at hr
 split at hr
 ·rename_i hx
  have := hx.choose_spec.2 c w h hw
  injection hr with hr
  rw [hr] at this
  exact this
 ·cases hr
theorem toldIf_do {P : Program} {f : FuncId} {pin : List V → H → V × H → Prop} {args : List V} {h : H} {r : V × H} (h1 : pin args h r) (h2 : ∀ (c : Ctx) (w : World), Rel c h w → (∀ x ∈ args, wf c x) → CallOk P f args c w r.1 r.2) :
  ∃ r, toldIf P f pin args h = some r ∧ pin args h r := by
 have hx : ∃ r, pin args h r ∧ ∀ (c : Ctx) (w : World), Rel c h w → (∀ x ∈ args, wf c x) → CallOk P f args c w r.1 r.2 := ⟨r, h1, h2⟩
 refine ⟨hx.choose, ?_, hx.choose_spec.1⟩
 unfold toldIf
 rw [dif_pos hx]
noncomputable def toldB (f : Nat) : Option (List V → H → Option (V × H)) :=
 cond (Nat.beq f 50) (some (toldSorted iters)) (cond (Nat.beq f 119) (some toldMore) none)
noncomputable abbrev CB : Cfg := ⟨Tryz.prog, toldB⟩
theorem mixedB : Tryz.prog.follows .mixedOrders = true := by kernel_rfl
theorem toldB_ok : ToldOk CB := by
 intro f g hg
 simp only [CB, toldB] at hg ⊢
 by_cases h1 : f = 50
 ·subst h1
  rw [beqT rfl, cond_true] at hg
  simp only [Option.some.injEq] at hg
  subst hg
  exact .inl ⟨⟨_, Tryz.func50, rfl, by decide⟩, fun args σ v σ' hr c w h _ => toldSorted_ok Tryz.underlying3 sortsKeys hr h⟩
 ·rw [beqF h1, cond_false] at hg
  by_cases h2 : f = 119
  ·subst h2
   rw [beqT rfl, cond_true] at hg
   simp only [Option.some.injEq] at hg
   subst hg
   exact .inl ⟨⟨_, Tryz.func119, rfl, by decide⟩, fun args σ v σ' hr c w h hw => toldMore_ok (C := CB) rfl mixedB hr h hw⟩
  ·rw [beqF h2, cond_false] at hg
   cases hg
theorem W.base : W toldB := by
 refine ⟨fun f hf => ?_, rfl, rfl⟩
 have h1 : f ≠ 50 := fun e => by subst e; revert hf; decide
 have h2 : f ≠ 119 := fun e => by subst e; revert hf; decide
 simp only [toldB, beqF h1, beqF h2, cond_false]
theorem CallDo.det {C : Cfg} {f : FuncId} {args : List V} {h : H} {v v' : V} {h₁ h₁' : H} (a : CallDo C f args h v h₁) (b : CallDo C f args h v' h₁') : v = v' ∧ h₁ = h₁' := by
 obtain ⟨N, hN⟩ := a
 obtain ⟨M, hM⟩ := b
 have e1 := callF_mono (ev_mono (Nat.le_max_left N M)) hN
 have e2 := callF_mono (ev_mono (Nat.le_max_right N M)) hM
 rw [e1] at e2
 simp only [Option.some.injEq, Prod.mk.injEq] at e2
 exact e2
section
variable {P : Program} {h : H} {S : List Assn} {k id off n : Nat} {cs : List V} {st : Bool} {v : V} {t : TypeId}
theorem Sat.st1' (s : Sat h S) (hk : getA S k = some (pt id (.cells n cs false))) (hs : sizeT P t = some 1) (hl : cs.length = n) (ho : off < n) (hv : v.cells = [v]) (hst : storable v = true) :
  storeV P h t (.ptr id off) v = some (h.put id (some (.cells n (cs.set off v) false))) := by
 simp only [storeV, hs, hv, List.length_cons, List.length_nil, List.all_cons, List.all_nil, hst, Bool.and_true]
 rw [show Nat.beq (0 + 1) 1 = true from rfl, cond_true]
 simp only [wrN, s.row hk, List.length_cons, List.length_nil]
 rw [ble_iff.2 (show off + (0 + 1) ≤ n by omega), cond_true]
 congr 3
 rw [List.set_eq_take_append_cons_drop, if_pos (by omega)]
 cases hc : (Nat.beq off 0 && Nat.beq (0 + 1) n) with
 | true =>
  simp only [Bool.and_eq_true, beq_iff] at hc
  obtain ⟨rfl, hn⟩ := hc
  rw [cond_true]
  have : cs.drop (0 + 1) = [] := List.drop_eq_nil_of_le (by omega)
  simp [this]
 | false => rw [cond_false]; rfl
end
theorem OpR.entry {C : Cfg} {E : List (Nat × V)} {h : H} {o : Oper} {x : Operand} {v r : V} (hop : o.op = .entry x) (hx : lookO E x = some v) (hf : entryV h v = some r) : OpR C E h o fun w h' => w = r ∧ h' = h :=
 ⟨r, h, ⟨rfl, rfl⟩, fun env hE => ⟨0, by simp only [evOp, hop, lookO_ok hE hx, hf, pureV]⟩⟩
theorem OpR.range {C : Cfg} {E : List (Nat × V)} {h : H} {o : Oper} {x : Operand} {t : TypeId} {v r : V} {h₁ : H} (hop : o.op = .range t x) (hx : lookO E x = some v) (hf : rangeV C.P h t v = some (r, h₁)) : OpR C E h o fun w h' => w = r ∧ h' = h₁ :=
 ⟨r, h₁, ⟨rfl, rfl⟩, fun env hE => ⟨0, by simp only [evOp, hop, lookO_ok hE hx, hf]⟩⟩
end Go.Proofs.YtconhghphklfjaaGreat.Am
namespace Go.Proofs.YtconhghphklfjaaGreat.Am
open Go
def doneRow (seen : List Nat) : Ents → List V → List V
 | [], row => row
 | e :: l, row => doneRow seen l (cond (inL seen e.2.2) (row.set e.1.toNat e.2.1) row)
def allRow : Ents → List V → List V
 | [], row => row
 | e :: l, row => allRow l (row.set e.1.toNat e.2.1)
theorem doneRow_all {seen : List Nat} : ∀ {l : Ents} {row : List V}, (∀ e ∈ l, inL seen e.2.2 = true) → doneRow seen l row = allRow l row := by
 intro l
 induction l with
 | nil => intro row _; rfl
 | cons e l ih =>
  intro row h
  simp only [doneRow, allRow, h e List.mem_cons_self, cond_true]
  exact ih fun e' he' => h e' (List.mem_cons_of_mem _ he')
theorem doneRow_nil : ∀ {l : Ents} {row : List V}, doneRow [] l row = row := by
 intro l
 induction l with
 | nil => intro row; rfl
 | cons e l ih => intro row; simp only [doneRow, inL, cond_false]; exact ih
theorem doneRow_len {seen : List Nat} : ∀ {l : Ents} {row : List V}, (doneRow seen l row).length = row.length := by
 intro l
 induction l with
 | nil => intro row; rfl
 | cons e l ih => intro row; simp only [doneRow]; rw [ih]; cases inL seen e.2.2 <;> simp
theorem doneRow_set {seen : List Nat} {i : Nat} {v : V} : ∀ {l : Ents} {row : List V}, (∀ e ∈ l, e.1.toNat ≠ i) → doneRow seen l (row.set i v) = (doneRow seen l row).set i v := by
 intro l
 induction l with
 | nil => intro row _; rfl
 | cons e l ih =>
  intro row h
  simp only [doneRow]
  have h1 := h e List.mem_cons_self
  cases inL seen e.2.2 with
  | true => rw [cond_true, cond_true, List.set_comm _ _ (Ne.symm h1)]; exact ih fun e' he' => h e' (List.mem_cons_of_mem _ he')
  | false => exact ih fun e' he' => h e' (List.mem_cons_of_mem _ he')
theorem doneRow_other {seen : List Nat} {b : Nat} : ∀ {l : Ents} {row : List V}, (∀ e ∈ l, e.2.2 ≠ b) → doneRow (seen ++ [b]) l row = doneRow seen l row := by
 intro l
 induction l with
 | nil => intro row _; rfl
 | cons e l ih =>
  intro row h
  simp only [doneRow, inL_app, beqF (Ne.symm (h e List.mem_cons_self)), Bool.or_false]
  exact ih fun e' he' => h e' (List.mem_cons_of_mem _ he')
theorem doneRow_step {seen : List Nat} {c : Nat} : ∀ {l : Ents} {b : Nat} {row : List V} {e : Int × V × Nat}, bornR c b l → (l.map fun e => e.1.toNat).Nodup → e ∈ l → inL seen e.2.2 = false →
  doneRow (seen ++ [e.2.2]) l row = (doneRow seen l row).set e.1.toNat e.2.1 := by
 intro l
 induction l with
 | nil => intro b row e _ _ he; cases he
 | cons y l ih =>
  intro b row e hb hn he hs
  simp only [List.map_cons, List.nodup_cons] at hn
  rcases List.mem_cons.1 he with rfl | he
  ·simp only [doneRow, inL_app, hs, Nat.beq_refl, Bool.or_true, cond_true, cond_false]
   rw [doneRow_other fun e' he' => by have := bornR_ge hb.2.2 e' he'; omega]
   exact doneRow_set fun e' he' hq => hn.1 (hq ▸ List.mem_map_of_mem (f := fun e : Int × V × Nat => e.1.toNat) he')
  ·have := bornR_ge hb.2.2 e he
   simp only [doneRow, inL_app, beqF (show e.2.2 ≠ y.2.2 by omega), Bool.or_false]
   exact ih hb.2.2 hn.2 he hs
def laidP : List (Int × List Nat) → List (Option (List Nat)) → List (Option (List Nat))
 | [], m => m
 | e :: l, m => laidP l (m.set e.1.toNat (some e.2))
theorem laidP_len : ∀ {l : List (Int × List Nat)} {m : List (Option (List Nat))}, (laidP l m).length = m.length := by
 intro l
 induction l with
 | nil => intro row; rfl
 | cons e l ih => intro row; simp only [laidP]; rw [ih]; simp
theorem allRow_each {a b : PM} : ∀ {es : Ents} {m : List (Int × List Nat)} {row : List V} {pg : List (Option (List Nat))}, (entsR (fun v x => .rob v x) es m).p a b → (∀ e ∈ m, e.2 ≠ []) → (each roO row pg).p a b → (each roO (allRow es row) (laidP m pg)).p a b := by
 intro es
 induction es with
 | nil => intro m row pg h _ hr; cases m with
  | nil => exact hr
  | cons x m => exact h.elim
 | cons e es ih => intro m row pg h hne hr; cases m with
  | nil => exact h.elim
  | cons x m =>
   obtain ⟨⟨h1, h2⟩, h3⟩ := h
   simp only [allRow, laidP]
   have hk : e.1 = x.1 := h1
   refine ih h3 (fun e he => hne e (List.mem_cons_of_mem _ he)) ?_
   rw [hk]
   refine each_set hr ⟨?_, h2⟩
   rintro hv
   have h2' : ViewM b e.2.1 x.2 := h2
   rw [hv] at h2'
   rcases h2'.2 with ⟨_, h4⟩ | h4
   ·exact hne x List.mem_cons_self h4
   ·obtain ⟨_, _, _, _, _, _, h4, _⟩ := h4
    cases h4
def Dk.sync (δ : Dk) : Dk := { δ with pages := laidP δ.now δ.pages, waiting := [], now := [] }
section
variable {told : Nat → Option (List V → H → Option (V × H))} {h : H} {S : List Assn} {X : Assn} {r k q p fid : Nat} {v x wh di : V} {l b : List Nat} {π : Pl} {m : List Fm} {μ : Lg} {δ : Dk}
noncomputable def syncH (h : H) (p : Nat) (cs : List V) (im N : Nat) (row : List V) (mid : Nat) (es : Ents) (clock : Nat) : H :=
 ((((h.new (.iter mid clock clock [])).put im (some (.cells N (allRow es row) false))).put p (some (.cells 12 (cs.set 2 .sl0) false))).put mid (some (.map [] clock))).put h.next none
def pinSync (args : List V) (h : H) (r : V × H) : Prop := ∃ p cs, args = [.ptr p 0] ∧ T.get h.tr p = some (.cells 12 cs false) ∧
 ((nth cs 9 = some (.bool true) ∧ r = (.int .i64 9, h)) ∨ (nth cs 9 = some (.bool false) ∧ ∃ v1 h1, CallDo CB 118 [.ptr p 0] h v1 h1 ∧
  ((v1 = .bool false ∧ r = (.int .i64 9, h1)) ∨ (v1 = .bool true ∧ ∃ cs im N row mid es clock, T.get h1.tr p = some (.cells 12 cs false) ∧ nth cs 1 = some (.sl im 0 N (.exact N)) ∧ nth cs 3 = some (.map mid) ∧
   T.get h1.tr im = some (.cells N row false) ∧ T.get h1.tr mid = some (.map (es.map mkE) clock) ∧ r = (.int .i64 0, syncH h1 p cs im N row mid es clock)))))
structure Same (h h' : H) (X : List Nat) : Prop where
 next : h'.next = h.next
 get : ∀ i, i ∉ X → T.get h'.tr i = T.get h.tr i
theorem Same.put {h h' : H} {X : List Nat} (s : Same h h' X) {i : Nat} {o : Option Obj} (hi : i ∈ X) : Same h (h'.put i o) X :=
 ⟨s.next, fun j hj => by rw [get_put, if_neg (fun (e : j = i) => hj (e ▸ hi))]; exact s.get j hj⟩
theorem entsR_mem {α : Type} {f : V → α → Assn} {a b : PM} : ∀ {l : Ents} {m : List (Int × α)}, (entsR f l m).p a b → ∀ e ∈ l, ∃ x, (e.1, x) ∈ m ∧ (f e.2.1 x).p a b := by
 intro l
 induction l with
 | nil => intro m _ e he; cases he
 | cons y l ih => intro m h e he; cases m with
  | nil => exact h.elim
  | cons x m =>
   obtain ⟨⟨h1, h2⟩, h3⟩ := h
   rcases List.mem_cons.1 he with rfl | he
   ·exact ⟨x.2, by rw [show e.1 = x.1 from h1]; exact List.mem_cons_self, h2⟩
   ·obtain ⟨z, k1, k2⟩ := ih h3 e he
    exact ⟨z, List.mem_cons_of_mem _ k1, k2⟩
noncomputable def syA : Code := pathC [0] ((Tryz.f75.body).getD .skip)
noncomputable def syB : Code := pathC [1, 0] ((Tryz.f75.body).getD .skip)
noncomputable def syC : Code := pathC [1, 1, 0, 0] ((Tryz.f75.body).getD .skip)
noncomputable def syN : Code := pathC [1, 1, 0, 1, 0, 0, 0] ((Tryz.f75.body).getD .skip)
noncomputable def syD : Code := pathC [1, 1, 0, 1, 0, 0, 1, 1, 0] ((Tryz.f75.body).getD .skip)
noncomputable def syE : Code := pathC [1, 1, 1] ((Tryz.f75.body).getD .skip)
theorem sy_shape : Tryz.f75.body = some (.seq syA (.seq syB (.seq (.seq syC (.block 0 (.loop (.seq syN (.seq (.cond (.tmp 20) .skip (.exit 0)) (.block 1 syD)))))) syE))) := rfl
theorem sy_next : ∃ id o₁ o₂, syN = .region id #[o₁, o₂] false ∧ o₁.guard = none ∧ o₂.guard = none ∧ o₁.op = .next (.tmp 18) false ∧ o₁.dst = some 19 ∧ o₂.op = .extract (.tmp 19) 0 ∧ o₂.dst = some 20 := ⟨_, _, _, rfl, rfl, rfl, rfl, rfl, rfl, rfl⟩
def syJ (h₀ : H) (p it im N mid clock : Nat) (cs row : List V) (es : Ents) (S : List Assn) (j : Nat) (E : List (Nat × V)) (h : H) : Prop :=
 ∃ seen, Has E [(0, .ptr p 0), (18, .ptr it 0)] ∧ j = (leftV seen (es.map mkE)).length ∧ Same h₀ h [it, im] ∧
  Sat h (pt it (.iter mid clock clock seen) :: pt p (.cells 12 cs false) :: pt im (.cells N (doneRow seen es row) false) :: mapI mid es clock :: S)
theorem sync_loop {h₀ : H} {it im N mid clock : Nat} {cs row : List V} {es : Ents} (hc1 : nth cs 1 = some (.sl im 0 N (.exact N))) (hl : row.length = N) (hb : bornR clock 0 es) (hn : (es.map fun e => e.1.toNat).Nodup)
  (hk : ∀ e ∈ es, 0 ≤ e.1 ∧ e.1 < N) (hv : ∀ e ∈ es, e.2.1.cells = [e.2.1] ∧ storable e.2.1 = true) {j : Nat} {E : List (Nat × V)} (h0 : syJ h₀ p it im N mid clock cs row es S j E h) :
  WPO CB 38 (.loop (.seq syN (.seq (.cond (.tmp 20) .skip (.exit 0)) (.block 1 syD)))) E h fun ex E' h' => ex = .exit 0 ∧ Has E' [(0, .ptr p 0)] ∧ Same h₀ h' [it, im] ∧
   ∃ seen, Sat h' (pt it (.iter mid clock clock seen) :: pt p (.cells 12 cs false) :: pt im (.cells N (allRow es row) false) :: mapI mid es clock :: S) := by
 refine WPO.loop (syJ h₀ p it im N mid clock cs row es S) ?_ h0
 rintro j E h ⟨seen, hE, rfl, hs, s⟩
 have g1 := s.row (k := 0) rfl
 have g2 := s.row (k := 3) rfl
 obtain ⟨id, o₁, o₂, q0, q1, q2, q3, q4, q5, q6⟩ := sy_next
 refine WPO.seq ?_
 rw [q0]
 have hL := next_at g1 (Nat.le_refl _) g2 hb
 refine WPO.next mixedB toldB_ok q1 q2 q3 q4 q5 rfl q6 rfl rfl (r := it) ?_ hL fun q hq => ?_
 ·exact hE.2.1
 ·rcases next_all g1 (Nat.le_refl _) g2 hb hL q hq with ⟨rfl, hall⟩ | ⟨e, he, hns, hlt, rfl⟩
  ·refine ⟨.bool false, [], rfl, ?_⟩
   refine WPO.seq (WPO.cond (t := false) rfl ?_)
   refine WPO.of mixedB toldB_ok (WP.exit ?_)
   refine ⟨rfl, ⟨hE.1, trivial⟩, hs, seen, ?_⟩
   rw [← doneRow_all hall]
   exact s
  ·refine ⟨.bool true, _, rfl, ?_⟩
   refine WPO.seq (WPO.cond (t := true) rfl ?_)
   refine WPO.of mixedB toldB_ok (WP.skip ?_)
   refine WPO.block (WPO.of mixedB toldB_ok ?_)
   have s := s.put (o' := .iter mid clock clock (seen ++ [e.2.2])) (k := 0) rfl
   have hs := hs.put (i := it) (o := some (.iter mid clock clock (seen ++ [e.2.2]))) List.mem_cons_self
   generalize h.put it (some (.iter mid clock clock (seen ++ [e.2.2]))) = h' at s hs
   dsimp only [setA] at s
   have g1 := s.row (k := 0) rfl
   have g2 := s.row (k := 3) rfl
   refine WP.has (F := [(0, .ptr p 0), (18, .ptr it 0), (20, .bool true)]) ⟨hE.1, hE.2.1, rfl, trivial⟩ (zg rfl (WPs.any rfl rfl rfl (OpR.entry rfl rfl (entry_at g1 g2 hb he)) ?_))
   rintro v h ⟨rfl, rfl⟩
   refine ze rfl (ze rfl (za rfl (za rfl (zv (zr rfl (zm rfl (zn rfl (zf rfl (fa123_1 _ _) (zl rfl (s.ld (k := 1) rfl ag119 hc1) (zm rfl (zm rfl ?_)))))))))))
   obtain ⟨k1, k2⟩ := hk e he
   refine zo rfl (o_ia (r := .ptr im e.1.toNat) rfl rfl (by rw [ia119, show (decide (0 ≤ e.1) && decide (e.1 < (N : Int))) = true by simp; omega, cond_true]; simp)) ?_
   have e1 := s.st1' (P := Tryz.prog) (k := 2) (t := 32) (off := e.1.toNat) rfl sz32 (by rw [doneRow_len]; exact hl) (by omega) (hv e he).1 (hv e he).2
   have s1 := s.put (o' := .cells N ((doneRow seen es row).set e.1.toNat e.2.1) false) (k := 2) rfl
   dsimp only [setA] at s1
   refine WPs.op0 rfl rfl (o_store rfl rfl e1) (zv ?_)
   refine ⟨_, hlt, seen ++ [e.2.2], ⟨rfl, rfl, trivial⟩, rfl, hs.put (by simp), ?_⟩
   rw [doneRow_step hb hn he hns]
   exact s1
theorem syncH_le {h₁ h' : H} {p im N mid clock : Nat} {cs row : List V} {es : Ents} (hs : Same (h₁.new (.iter mid clock clock [])) h' [h₁.next, im]) (hi : T.get h'.tr im = some (.cells N (allRow es row) false)) (hp : p ≠ im) (hm : mid ≠ im) :
  (syncH h₁ p cs im N row mid es clock).next = ((h'.put p (some (.cells 12 (cs.set 2 .sl0) false))).put mid (some (.map [] clock))).next ∧
  ∀ id o, T.get (syncH h₁ p cs im N row mid es clock).tr id = some o → T.get ((h'.put p (some (.cells 12 (cs.set 2 .sl0) false))).put mid (some (.map [] clock))).tr id = some o := by
 refine ⟨hs.next.symm, fun id o ho => ?_⟩
 unfold syncH at ho
 rw [get_put] at ho
 by_cases h1 : id = h₁.next
 ·rw [if_pos h1] at ho; cases ho
 ·rw [if_neg h1, get_put] at ho
  rw [get_put]
  by_cases h2 : id = mid
  ·rw [if_pos h2] at ho ⊢; exact ho
  ·rw [if_neg h2, get_put] at ho
   rw [if_neg h2, get_put]
   by_cases h3 : id = p
   ·rw [if_pos h3] at ho ⊢; exact ho
   ·rw [if_neg h3, get_put] at ho
    rw [if_neg h3]
    by_cases h4 : id = im
    ·rw [if_pos h4] at ho; rw [h4, hi]; exact ho
    ·rw [if_neg h4] at ho
     rw [hs.get id (by simp [h1, h4])]
     exact ho
theorem clear_at {P : Program} {mid c : Nat} {es : List (V × V × Nat)} {t kt et : TypeId} (hg : T.get h.tr mid = some (.map es c)) (hu : P.underlying t = some (.map kt et)) :
  ∃ v h₁, builtinV P h .clear #[t] [.map mid] = some (v, h₁) ∧ (fun (_ : V) (h₁ : H) => h₁ = h.put mid (some (.map [] c))) v h₁ :=
 ⟨undefV, _, by simp only [builtinV, clearV, hu, hg]; rfl, rfl⟩
theorem sync_told (s : Sat h (isDk p δ :: S)) (hδ : δ.Ok) (hk : ∀ e ∈ δ.now, 0 ≤ e.1 ∧ e.1 < δ.pages.length) :
  ∃ r, pinSync [.ptr p 0] h r ∧ ∀ (c : Ctx) (w : World), Rel c h w → (∀ x ∈ [V.ptr p 0], wf c x) → CallOk Tryz.prog 75 [.ptr p 0] c w r.1 r.2 := by
 obtain ⟨pg, wt, nw, lg, mk, tn, tl, ops, s1⟩ := isDk_iff.1 s
 have gp := s1.row (k := 0) rfl
 cases hd : δ.dead with
 | true =>
  refine ⟨(.int .i64 9, h), ⟨p, _, rfl, gp, .inl ⟨by rw [hd]; rfl, rfl⟩⟩, fun c w hr ha => ?_⟩
  refine CallOk.of_wpo (C := CB) (args := [.ptr p 0]) Tryz.func75 sy_shape (show 1 ≤ Tryz.f75.ntmps by decide) ?_ hr ha
  refine WPO.seq (WPO.of mixedB toldB_ok ?_)
  have s := s1
  refine zr rfl (za rfl (zv ?_))
  refine WPO.seq (WPO.of mixedB toldB_ok ?_)
  refine zg rfl (zm rfl (zn rfl (zf rfl (fa123_9 _ _) (WPs.opT rfl rfl rfl (o_load rfl (by exact s.ld (k := 0) rfl ag4 rfl)) (hd) ?_))))
  refine zm rfl (zx rfl (zx rfl (zx rfl (zq rfl (zv (zi rfl (zg rfl (za rfl (zv (WP.ret ?_))))))))))
  exact ⟨trivial, res1 rfl, rfl, fun _ _ h => h⟩
 | false =>
  obtain ⟨v1, h1, hdo, hR⟩ := counts_ct W.base s hδ.fuse
  have hcall : Call CB 118 [.ptr p 0] h (fun v' h' => v' = v1 ∧ h' = h1) := ⟨v1, h1, hdo, rfl, rfl⟩
  rcases hR with ⟨h0, rfl, s2⟩ | ⟨h0, rfl, s2⟩
  ·refine ⟨(.int .i64 9, h1), ⟨p, _, rfl, gp, .inr ⟨by rw [hd]; rfl, _, h1, hdo, .inl ⟨rfl, rfl⟩⟩⟩, fun c w hr ha => ?_⟩
   refine CallOk.of_wpo (C := CB) (args := [.ptr p 0]) Tryz.func75 sy_shape (show 1 ≤ Tryz.f75.ntmps by decide) ?_ hr ha
   refine WPO.seq (WPO.of mixedB toldB_ok ?_)
   have s := s1
   refine zr rfl (za rfl (zv ?_))
   refine WPO.seq (WPO.of mixedB toldB_ok ?_)
   refine zg rfl (zm rfl (zn rfl (zf rfl (fa123_9 _ _) (WPs.opF rfl rfl rfl (o_load rfl (by exact s.ld (k := 0) rfl ag4 rfl)) (hd) ?_))))
   refine zm rfl (zm rfl (WPs.call rfl rfl rfl rfl rfl rfl rfl (hcall) ?_))
   rintro v h ⟨rfl, rfl⟩
   refine zo rfl (o_un rfl rfl) (zp rfl (zv (zi rfl (zg rfl (za rfl (zv (WP.ret ?_)))))))
   exact ⟨trivial, res1 rfl, rfl, fun _ _ h => h⟩
  ·obtain ⟨pg, wt, nw, lg, mk, tn, tl, ops, s3⟩ := isDk_iff.1 s2
   obtain ⟨im, row, rfl, s4⟩ := pagesA_iff.1 (s3.bringS [1])
   obtain ⟨mid, es, clock, rfl, hb, hn, s5⟩ := mapV_open.1 (s4.bringS [4])
   dsimp only [bringA, getA, delA] at s5
   have s6 := s5.bringS [4, 2, 0, 0, 0, 0]
   dsimp only [bringA, getA, delA] at s6
   have gp1 := s6.row (k := 0) rfl
   have gi := s6.row (k := 1) rfl
   have gm := s6.row (k := 2) rfl
   obtain ⟨a, b, _, _, q3⟩ := s6.at (k := 3) rfl
   obtain ⟨a', b', _, _, q4⟩ := s6.at (k := 4) rfl
   have hrow : row.length = δ.cnt.pages.length := each_len q4
   have hkey := entsR_keys q3
   have hkr : ∀ e ∈ es, 0 ≤ e.1 ∧ e.1 < (δ.cnt.pages.length : Int) := fun e he => by
    obtain ⟨x, k1, _⟩ := entsR_mem q3 e he
    exact hk _ k1
   have hst : ∀ e ∈ es, e.2.1.cells = [e.2.1] ∧ storable e.2.1 = true := fun e he => by
    obtain ⟨x, _, k2⟩ := entsR_mem q3 e he
    have k3 : ViewM b e.2.1 x := k2
    rcases k3.2 with ⟨k4 | ⟨_, k4⟩, _⟩ | ⟨_, _, _, _, _, _, k4, _⟩
    ·rw [k4]; exact ⟨rfl, rfl⟩
    ·rw [k4]; exact ⟨rfl, rfl⟩
    ·rw [k4]; exact ⟨rfl, rfl⟩
   have hnd : (es.map fun e => e.1.toNat).Nodup := by
    have h1 : (es.map (·.1)).Nodup := by rw [hkey]; exact hn
    rw [List.nodup_iff_pairwise_ne, List.pairwise_map] at h1 ⊢
    refine (List.pairwise_iff_forall_sublist.2 fun {x y} hxy => ?_)
    have h2 := (List.pairwise_iff_forall_sublist.1 h1) hxy
    have hx := (hkr x (hxy.subset List.mem_cons_self)).1
    have hy := (hkr y (hxy.subset (List.mem_cons_of_mem _ List.mem_cons_self))).1
    omega
   refine ⟨(.int .i64 0, syncH h1 p _ im δ.cnt.pages.length row mid es clock), ⟨p, _, rfl, gp, .inr ⟨by rw [hd]; rfl, _, h1, hdo, .inr ⟨rfl, _, im, _, row, mid, es, clock, gp1, rfl, rfl, gi, gm, rfl⟩⟩⟩, fun c w hr ha => ?_⟩
   refine CallOk.of_wpo (C := CB) (args := [.ptr p 0]) Tryz.func75 sy_shape (show 1 ≤ Tryz.f75.ntmps by decide) ?_ hr ha
   refine WPO.seq (WPO.of mixedB toldB_ok ?_)
   have s := s1
   refine zr rfl (za rfl (zv ?_))
   refine WPO.seq (WPO.of mixedB toldB_ok ?_)
   refine zg rfl (zm rfl (zn rfl (zf rfl (fa123_9 _ _) (WPs.opF rfl rfl rfl (o_load rfl (by exact s.ld (k := 0) rfl ag4 rfl)) (hd) ?_))))
   refine zm rfl (zm rfl (WPs.call rfl rfl rfl rfl rfl rfl rfl (hcall) ?_))
   rintro v h ⟨rfl, rfl⟩
   refine zo rfl (o_un rfl rfl) (zp rfl (zv (zj rfl (WP.skip ?_))))
   refine WPO.seq (WPO.seq (WPO.of mixedB toldB_ok ?_))
   have s := s6
   refine zr rfl (zm rfl (zn rfl (zf rfl (fa123_3 _ _) (zl rfl (by exact s.ld (k := 0) rfl ag86 rfl) ?_))))
   refine WPs.any rfl rfl rfl (OpR.range rfl rfl (show rangeV Tryz.prog h 86 (.map mid) = some (.ptr h.next 0, h.new (.iter mid clock clock [])) by simp only [rangeV, Tryz.underlying86, gm])) ?_
   rintro v h' ⟨rfl, rfl⟩
   refine zv ?_
   have s7 := s.new (.iter mid clock clock [])
   refine WPO.block ((sync_loop (row := row) (es := es) (S := _) rfl hrow hb hnd hkr hst ⟨[], ⟨rfl, rfl, trivial⟩, rfl, ⟨rfl, fun _ _ => rfl⟩, by rw [doneRow_nil]; exact s7⟩).mono ?_)
   rintro ex E' h' ⟨rfl, hE', hs, seen, s⟩
   refine WPO.of mixedB toldB_ok (WP.has hE' ?_)
   have e1 := s.st1' (P := Tryz.prog) (k := 1) (t := 120) (off := 2) (v := .sl0) rfl sz120 rfl (by decide) rfl rfl
   have s8 := s.put (o' := .cells 12 (List.set (dkC δ.cnt.room (.sl im 0 δ.cnt.pages.length (.exact δ.cnt.pages.length)) wt (.map mid) lg δ.cnt.certain mk δ.cnt.fuse ops δ.cnt.dead tn tl) 2 .sl0) false) (k := 1) rfl
   have hne : p ≠ im := (s.bringS [1, 1]).ne
   have hnm : mid ≠ im := (s.bringS [3, 2]).ne
   have gi := s.row (k := 2) rfl
   have hfin := syncH_le (p := p) (cs := (dkC δ.cnt.room (.sl im 0 δ.cnt.pages.length (.exact δ.cnt.pages.length)) wt (.map mid) lg δ.cnt.certain mk δ.cnt.fuse ops δ.cnt.dead tn tl)) hs gi hne hnm
   dsimp only [setA] at s8
   refine zg rfl (zm rfl (zn rfl (zf rfl (fa123_2 _ _) (WPs.op0 rfl rfl (o_store rfl rfl e1) ?_))))
   have s := s8
   have gm8 := s.row (k := 3) rfl
   refine zv (zg rfl (zm rfl (zn rfl (zf rfl (fa123_3 _ _) (zl rfl (by exact s.ld (k := 1) rfl ag86 rfl) ?_)))))
   refine WPs.any0 rfl rfl (OpR.builtin rfl rfl rfl (clear_at gm8 Tryz.underlying86)) ?_
   rintro v h'' rfl
   refine zv (zg rfl (za rfl (zv (WP.ret ?_))))
   exact ⟨trivial, res1 rfl, hfin.1, hfin.2⟩
end
end Go.Proofs.YtconhghphklfjaaGreat.Am
