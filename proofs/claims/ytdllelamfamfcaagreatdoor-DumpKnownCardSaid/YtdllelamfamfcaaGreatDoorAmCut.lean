/- The abstract machine: a run that may be cut anywhere within a frame; and calls whose answer at one place is known. -/
import Derived.Test.YtdllelamfamfcaaGreatDoorAmSeg
import Derived.Test.YtdllelamfamfcaaGreatDoorAmAny
namespace Go.Proofs.YtdllelamfamfcaaGreatDoor.Am
open Go

/-- What is left of a frame's work: codes and loops (by their places in the body), ends of blocks. -/
inductive K where
  | c (p : List Nat)
  | e (id : Nat)
  | g (p : List Nat)

inductive Out where
  | go (ks : List K) (s : St)
  | fin (ex : Ex) (s : St)

def innK (c : Code) : Code := match c with
  | .block _ b => b
  | .loop b => b
  | .scope b => b
  | c => c
def thenK (c : Code) : Code := match c with
  | .cond _ a _ => a
  | c => c
def elseK (c : Code) : Code := match c with
  | .cond _ _ b => b
  | c => c
def turnK (d : Nat) (c : Code) : Code := match d with
  | 0 => Code.leftK c
  | 1 => Code.rightK c
  | 2 => innK c
  | 3 => thenK c
  | _ => elseK c
def codeAt : Code → List Nat → Code
  | c, [] => c
  | c, d :: p => codeAt (turnK d c) p
theorem codeAt_snoc (d : Nat) : ∀ (p : List Nat) (c : Code), codeAt c (p ++ [d]) = turnK d (codeAt c p) := by
  intro p
  induction p with
  | nil => intro c; rfl
  | cons x p ih => intro c; exact ih (turnK x c)

def popK (i : Nat) (s : St) : List K → Out
  | [] => .fin (.exit i) s
  | .e j :: ks => cond (Nat.beq i j) (.go ks s) (popK i s ks)
  | .c _ :: ks => popK i s ks
  | .g _ :: ks => popK i s ks

section
variable (C : Cfg) (n : Nat) (body : Code)

noncomputable def codeStep (code : Code) (p : List Nat) (ks : List K) (s : St) : Option Out := match code with
  | .skip => some (.go ks s)
  | .seq _ _ => some (.go (.c (p ++ [0]) :: .c (p ++ [1]) :: ks) s)
  | .block id _ => some (.go (.c (p ++ [2]) :: .e id :: ks) s)
  | .loop _ => some (.go (.g (p ++ [2]) :: ks) s)
  | .cond x _ _ => match evO s.env x with
    | some (.bool t) => some (.go (.c (p ++ [cond t 3 4]) :: ks) s)
    | _ => none
  | .exit i => some (popK i s ks)
  | .ret => some (.fin .ret s)
  | .region id ops draw => match evF C n (.region id ops draw) s with
    | some (.normal, s') => some (.go ks s')
    | _ => none
  | _ => none

noncomputable def stepK (ks : List K) (s : St) : Option Out := match ks with
  | [] => some (.fin .normal s)
  | .e _ :: ks => some (.go ks s)
  | .g p :: ks => some (.go (.c p :: .g p :: ks) s)
  | .c p :: ks => codeStep C n (codeAt body p) p ks s

noncomputable def runK (k : Nat) : List K → St → Option Out := Nat.rec (motive := fun _ => List K → St → Option Out) (fun ks s => some (.go ks s))
  (fun _ ih ks s => match stepK C n body ks s with
    | some (.go ks' s') => ih ks' s'
    | r => r) k

noncomputable def gcS (l : List Nat) (s : St) : St := ⟨s.env, s.ntm, gc l s.h⟩
noncomputable def gcO (l : List Nat) : Option Out → Option Out
  | some (.go ks s) => some (.go ks (gcS l s))
  | some (.fin ex s) => some (.fin ex (gcS l s))
  | none => none
end

/-- A state that tells less. -/
def Less (s' s : St) : Prop := s'.env = s.env ∧ s'.ntm = s.ntm ∧ Sub s'.h s.h
theorem Less.refl (s : St) : Less s s := ⟨rfl, rfl, rfl, fun _ _ h => h⟩
theorem Less.trans {a b c : St} (h : Less a b) (g : Less b c) : Less a c :=
  ⟨h.1.trans g.1, h.2.1.trans g.2.1, h.2.2.1.trans g.2.2.1, fun id o ho => g.2.2.2 id o (h.2.2.2 id o ho)⟩
theorem gcS_less (l : List Nat) (s : St) : Less (gcS l s) s := ⟨rfl, rfl, gc_sub l s.h⟩

/-- A loop whose round begins. -/
def SegL (P : Program) (b : Code) (s : St) (ex : Ex) (s' : St) : Prop := ∀ (c : Ctx) (a : Act) (w : World), Rel c s.h w → EnvOk c s.env s.ntm a → ∀ (fr : Frame) (k : List Item) (cs : List Frame),
    ∃ e a' w', (e = exOf ex ∧ a'.defers = a.defers ∧ ∃ c', Rel c' s'.h w' ∧ EnvOk c' s'.env s'.ntm a' ∧ Stp c w c' w') ∧
      Arrives P (lone (fr.at a (.code b :: .inLoop b :: k)) cs w) fr k cs e a' w'

section
variable {P : Program}

theorem SegOk.less {x : Code} {s s₁ s₂ t : St} {ex : Ex} (h : SegOk P x s ex s₁) (h1 : Less s₂ s₁) (h0 : Less s t) : SegOk P x t ex s₂ := by
  intro c a w hr he
  obtain ⟨e1, e2, e3⟩ := h0
  refine Code.wp_mono ?_ (h c a w (hr.sub e3) (by rw [e1, e2]; exact he))
  rintro e a' w' ⟨q1, q2, c', q3, q4, q5⟩
  obtain ⟨f1, f2, f3⟩ := h1
  exact ⟨q1, q2, c', q3.sub f3, by rw [f1, f2]; exact q4, q5⟩

theorem SegL.less {x : Code} {s s₁ t : St} {ex : Ex} (h : SegL P x s ex s₁) (h0 : Less s t) : SegL P x t ex s₁ := by
  intro c a w hr he
  obtain ⟨e1, e2, e3⟩ := h0
  exact h c a w (hr.sub e3) (by rw [e1, e2]; exact he)

theorem SegOk.seq_out {x y : Code} {s s₁ : St} {ex : Ex} (hx : SegOk P x s ex s₁) (hn : ex ≠ .normal) : SegOk P (.seq x y) s ex s₁ := by
  intro c a w h he
  refine wp_seq (Code.wp_mono ?_ (hx c a w h he))
  rintro e a₁ w₁ ⟨rfl, q2, c₁, q3, q4, q5⟩
  cases ex with
  | normal => exact absurd rfl hn
  | exit i => exact ⟨rfl, q2, c₁, q3, q4, q5⟩
  | ret => exact ⟨rfl, q2, c₁, q3, q4, q5⟩

theorem SegOk.cond {x : Operand} {y z : Code} {t : Bool} {s s₁ : St} {ex : Ex} (hx : evO s.env x = some (.bool t)) (h : SegOk P (cond t y z) s ex s₁) : SegOk P (.cond x y z) s ex s₁ := by
  intro c a w hr he
  obtain ⟨e1, _⟩ := evO_ok he hx
  refine wp_cond (t := t) (by rw [e1]; rfl) ?_
  have := h c a w hr he
  cases t <;> simpa using this

/-- What a block makes of its body's end. -/
def exBlock (id : Nat) : Ex → Ex
  | .exit i => cond (Nat.beq i id) .normal (.exit i)
  | ex => ex

theorem SegOk.block {id : Nat} {b : Code} {s s₁ : St} {ex : Ex} (hb : SegOk P b s ex s₁) : SegOk P (.block id b) s (exBlock id ex) s₁ := by
  intro c a w h he
  refine wp_block (Code.wp_mono ?_ (hb c a w h he))
  rintro e a₁ w₁ ⟨rfl, q2, c₁, q3, q4, q5⟩
  cases ex with
  | normal => simp only [exOf, Exit.inBlock]; exact ⟨rfl, q2, c₁, q3, q4, q5⟩
  | exit i =>
    by_cases hi : i = id
    · simp only [exOf, Exit.inBlock, hi, if_true]
      exact ⟨by simp [exBlock, beqT rfl], q2, c₁, q3, q4, q5⟩
    · simp only [exOf, Exit.inBlock, hi, if_false]
      exact ⟨by simp [exBlock, beqF hi], q2, c₁, q3, q4, q5⟩
  | ret => simp only [exOf, Exit.inBlock]; exact ⟨rfl, q2, c₁, q3, q4, q5⟩

theorem SegL.round {b : Code} {s s₁ s₂ : St} {ex : Ex} (hb : SegOk P b s .normal s₁) (hl : SegL P b s₁ ex s₂) : SegL P b s ex s₂ := by
  intro c a w h he fr k cs
  obtain ⟨e, a₁, w₁, ⟨q1, q2, c₁, q3, q4, q5⟩, harr⟩ := hb c a w h he fr (.inLoop b :: k) cs
  subst q1
  obtain ⟨e₂, a₂, w₂, ⟨p1, p2, c₂, p3, p4, p5⟩, harr₂⟩ := hl c₁ a₁ w₁ q3 q4 fr k cs
  exact ⟨e₂, a₂, w₂, ⟨p1, by rw [p2, q2], c₂, p3, p4, q5.trans p5⟩, .of_steps (Steps.trans harr (.one step_inLoop)) harr₂⟩

theorem SegL.out {b : Code} {s s₁ : St} {ex : Ex} (hb : SegOk P b s ex s₁) (hn : ex ≠ .normal) : SegL P b s ex s₁ := by
  intro c a w h he fr k cs
  obtain ⟨e, a₁, w₁, ⟨q1, q2, c₁, q3, q4, q5⟩, harr⟩ := hb c a w h he fr (.inLoop b :: k) cs
  subst q1
  cases ex with
  | normal => exact absurd rfl hn
  | exit i => exact ⟨_, a₁, w₁, ⟨rfl, q2, c₁, q3, q4, q5⟩, .pass (x := .inLoop b) rfl (fun _ _ => .inl (by simp [exOf])) harr⟩
  | ret => exact ⟨_, a₁, w₁, ⟨rfl, q2, c₁, q3, q4, q5⟩, .pass (x := .inLoop b) rfl (fun _ _ => .inl (by simp [exOf])) harr⟩

theorem SegOk.loop {b : Code} {s s₁ : St} {ex : Ex} (hl : SegL P b s ex s₁) : SegOk P (.loop b) s ex s₁ := by
  intro c a w h he fr k cs
  obtain ⟨e, a', w', q, harr⟩ := hl c a w h he fr k cs
  exact ⟨e, a', w', q, .of_steps (.one step_loop) harr⟩

/-- The rest of a frame's work, entered by an end. -/
def LOkE (P : Program) (body : Code) : List K → Ex → St → Ex → St → Prop
  | [], ex₁, s₁, ex, s' => ex = ex₁ ∧ Less s' s₁
  | .c p :: ks, .normal, s₁, ex, s' => ∃ ex₂ s₂, SegOk P (codeAt body p) s₁ ex₂ s₂ ∧ LOkE P body ks ex₂ s₂ ex s'
  | .c _ :: ks, .exit i, s₁, ex, s' => LOkE P body ks (.exit i) s₁ ex s'
  | .c _ :: ks, .ret, s₁, ex, s' => LOkE P body ks .ret s₁ ex s'
  | .e j :: ks, ex₁, s₁, ex, s' => LOkE P body ks (exBlock j ex₁) s₁ ex s'
  | .g p :: ks, .normal, s₁, ex, s' => ∃ ex₂ s₂, SegL P (codeAt body p) s₁ ex₂ s₂ ∧ LOkE P body ks ex₂ s₂ ex s'
  | .g _ :: ks, .exit i, s₁, ex, s' => LOkE P body ks (.exit i) s₁ ex s'
  | .g _ :: ks, .ret, s₁, ex, s' => LOkE P body ks .ret s₁ ex s'

theorem LOkE.ret {body : Code} : ∀ (ks : List K) {s s' : St}, Less s' s → LOkE P body ks .ret s .ret s' := by
  intro ks
  induction ks with
  | nil => intro s s' h; exact ⟨rfl, h⟩
  | cons x ks ih => intro s s' h; cases x <;> exact ih h

theorem LOkE.pop {body : Code} {i : Nat} : ∀ (ks : List K) {s s' : St} {ex : Ex}, (∀ ks' s₁, popK i s ks = .go ks' s₁ → LOkE P body ks' .normal s₁ ex s') →
    (∀ ex₁ s₁, popK i s ks = .fin ex₁ s₁ → ex = ex₁ ∧ Less s' s₁) → LOkE P body ks (.exit i) s ex s' := by
  intro ks
  induction ks with
  | nil => intro s s' ex _ h; exact h _ _ rfl
  | cons x ks ih =>
    intro s s' ex h g
    cases x with
    | c p => exact ih h g
    | g p => exact ih h g
    | e j =>
      by_cases hj : i = j
      · subst hj
        have := h ks s (by simp [popK, beqT rfl])
        simpa [LOkE, exBlock, beqT rfl] using this
      · have hb := beqF hj
        have : LOkE P body ks (.exit i) s ex s' := ih (fun ks' s₁ hq => h ks' s₁ (by simpa [popK, hb] using hq)) (fun ex₁ s₁ hq => g ex₁ s₁ (by simpa [popK, hb] using hq))
        simpa [LOkE, exBlock, hb] using this

theorem LOkE.less {body : Code} : ∀ (ks : List K) {ex₁ ex : Ex} {s t s' : St}, LOkE P body ks ex₁ s ex s' → Less s t → LOkE P body ks ex₁ t ex s' := by
  intro ks
  induction ks with
  | nil => intro ex₁ ex s t s' h g; exact ⟨h.1, h.2.trans g⟩
  | cons x ks ih =>
    intro ex₁ ex s t s' h g
    cases x with
    | c p => cases ex₁ with
      | normal => obtain ⟨ex₂, s₂, h1, h2⟩ := h; exact ⟨ex₂, s₂, h1.less (Less.refl _) g, h2⟩
      | exit i => exact ih (ex₁ := .exit i) h g
      | ret => exact ih (ex₁ := .ret) h g
    | e j => exact ih (ex₁ := exBlock j ex₁) h g
    | g p => cases ex₁ with
      | normal => obtain ⟨ex₂, s₂, h1, h2⟩ := h; exact ⟨ex₂, s₂, h1.less g, h2⟩
      | exit i => exact ih (ex₁ := .exit i) h g
      | ret => exact ih (ex₁ := .ret) h g
end

section
variable {C : Cfg} {n : Nat} {body : Code}

/-- A step of the run is right. -/
theorem codeStep_go (hm : C.P.follows .mixedOrders = true) (hT : ToldOk C) {p : List Nat} {ks ks' : List K} {s s₁ : St} (h : codeStep C n (codeAt body p) p ks s = some (.go ks' s₁)) {ex : Ex} {s' : St}
    (hl : LOkE C.P body ks' .normal s₁ ex s') : LOkE C.P body (.c p :: ks) .normal s ex s' := by
  have leaf : ∀ {x : Code} {ex₂ : Ex} {s₂ : St}, ev C 1 x s = some (ex₂, s₂) → SegOk C.P x s ex₂ s₂ := fun hq c a w hr he => (ev_ok hm hT 1).1 _ s _ _ hq c a w hr he
  cases hcode : codeAt body p with
  | skip =>
    rw [hcode] at h
    simp only [codeStep, Option.some.injEq, Out.go.injEq] at h
    obtain ⟨rfl, rfl⟩ := h
    exact ⟨.normal, s, by rw [hcode]; exact leaf rfl, hl⟩
  | seq x y =>
    rw [hcode] at h
    simp only [codeStep, Option.some.injEq, Out.go.injEq] at h
    obtain ⟨rfl, rfl⟩ := h
    obtain ⟨ex₁, s₁, h1, h2⟩ := hl
    rw [codeAt_snoc, hcode] at h1
    cases ex₁ with
    | normal =>
      obtain ⟨ex₂, s₂, h3, h4⟩ := h2
      rw [codeAt_snoc, hcode] at h3
      exact ⟨ex₂, s₂, by rw [hcode]; exact SegOk.seq h1 h3, h4⟩
    | exit i => exact ⟨.exit i, s₁, by rw [hcode]; exact SegOk.seq_out h1 (by simp), h2⟩
    | ret => exact ⟨.ret, s₁, by rw [hcode]; exact SegOk.seq_out h1 (by simp), h2⟩
  | block id b =>
    rw [hcode] at h
    simp only [codeStep, Option.some.injEq, Out.go.injEq] at h
    obtain ⟨rfl, rfl⟩ := h
    obtain ⟨ex₁, s₁, h1, h2⟩ := hl
    rw [codeAt_snoc, hcode] at h1
    exact ⟨exBlock id ex₁, s₁, by rw [hcode]; exact SegOk.block h1, h2⟩
  | loop b =>
    rw [hcode] at h
    simp only [codeStep, Option.some.injEq, Out.go.injEq] at h
    obtain ⟨rfl, rfl⟩ := h
    obtain ⟨ex₁, s₁, h1, h2⟩ := hl
    rw [codeAt_snoc, hcode] at h1
    exact ⟨ex₁, s₁, by rw [hcode]; exact SegOk.loop h1, h2⟩
  | cond x y z =>
    rw [hcode] at h
    simp only [codeStep] at h
    split at h
    · rename_i t hx
      simp only [Option.some.injEq, Out.go.injEq] at h
      obtain ⟨rfl, rfl⟩ := h
      obtain ⟨ex₁, s₁, h1, h2⟩ := hl
      rw [codeAt_snoc, hcode] at h1
      refine ⟨ex₁, s₁, by rw [hcode]; exact SegOk.cond hx (by cases t <;> exact h1), h2⟩
    · cases h
  | exit i =>
    rw [hcode] at h
    simp only [codeStep, Option.some.injEq] at h
    refine ⟨.exit i, s, by rw [hcode]; exact leaf rfl, LOkE.pop ks (fun ks₂ s₂ hq => ?_) (fun ex₂ s₂ hq => ?_)⟩
    · rw [hq] at h
      cases h
      exact hl
    · rw [hq] at h
      cases h
  | ret => rw [hcode] at h; simp [codeStep] at h
  | region id ops draw =>
    rw [hcode] at h
    simp only [codeStep] at h
    split at h
    · rename_i s₂ hq
      simp only [Option.some.injEq, Out.go.injEq] at h
      obtain ⟨rfl, rfl⟩ := h
      rw [evF_eq] at hq
      exact ⟨.normal, s₂, by rw [hcode]; exact fun c a w hr he => (ev_ok hm hT n).1 _ s _ _ hq c a w hr he, hl⟩
    · cases h
  | _ => rw [hcode] at h; simp [codeStep] at h

theorem codeStep_fin (hm : C.P.follows .mixedOrders = true) (hT : ToldOk C) {p : List Nat} {ks : List K} {s s₁ s' : St} {ex : Ex} (h : codeStep C n (codeAt body p) p ks s = some (.fin ex s₁))
    (hl : Less s' s₁) : LOkE C.P body (.c p :: ks) .normal s ex s' := by
  have leaf : ∀ {x : Code} {ex₂ : Ex} {s₂ : St}, ev C 1 x s = some (ex₂, s₂) → SegOk C.P x s ex₂ s₂ := fun hq c a w hr he => (ev_ok hm hT 1).1 _ s _ _ hq c a w hr he
  cases hcode : codeAt body p with
  | exit i =>
    rw [hcode] at h
    simp only [codeStep, Option.some.injEq] at h
    refine ⟨.exit i, s, by rw [hcode]; exact leaf rfl, LOkE.pop ks (fun ks₂ s₂ hq => ?_) (fun ex₂ s₂ hq => ?_)⟩
    · rw [hq] at h
      cases h
    · rw [hq] at h
      cases h
      exact ⟨rfl, hl⟩
  | ret =>
    rw [hcode] at h
    simp only [codeStep, Option.some.injEq, Out.fin.injEq] at h
    obtain ⟨rfl, rfl⟩ := h
    exact ⟨.ret, s, by rw [hcode]; exact leaf rfl, LOkE.ret ks hl⟩
  | cond x y z =>
    rw [hcode] at h
    simp only [codeStep] at h
    split at h <;> simp at h
  | region id ops draw =>
    rw [hcode] at h
    simp only [codeStep] at h
    split at h <;> simp at h
  | _ => rw [hcode] at h; simp [codeStep] at h

theorem stepK_go (hm : C.P.follows .mixedOrders = true) (hT : ToldOk C) {ks ks' : List K} {s s₁ : St} (h : stepK C n body ks s = some (.go ks' s₁)) {ex : Ex} {s' : St}
    (hl : LOkE C.P body ks' .normal s₁ ex s') : LOkE C.P body ks .normal s ex s' := by
  cases ks with
  | nil => simp [stepK] at h
  | cons x ks =>
    cases x with
    | c p => exact codeStep_go hm hT h hl
    | e j =>
      simp only [stepK, Option.some.injEq, Out.go.injEq] at h
      obtain ⟨rfl, rfl⟩ := h
      exact hl
    | g p =>
      simp only [stepK, Option.some.injEq, Out.go.injEq] at h
      obtain ⟨rfl, rfl⟩ := h
      obtain ⟨ex₁, s₁, h1, h2⟩ := hl
      cases ex₁ with
      | normal =>
        obtain ⟨ex₂, s₂, h3, h4⟩ := h2
        exact ⟨ex₂, s₂, SegL.round h1 h3, h4⟩
      | exit i => exact ⟨.exit i, s₁, SegL.out h1 (by simp), h2⟩
      | ret => exact ⟨.ret, s₁, SegL.out h1 (by simp), h2⟩

theorem stepK_fin (hm : C.P.follows .mixedOrders = true) (hT : ToldOk C) {ks : List K} {s s₁ s' : St} {ex : Ex} (h : stepK C n body ks s = some (.fin ex s₁)) (hl : Less s' s₁) :
    LOkE C.P body ks .normal s ex s' := by
  cases ks with
  | nil =>
    simp only [stepK, Option.some.injEq, Out.fin.injEq] at h
    obtain ⟨rfl, rfl⟩ := h
    exact ⟨rfl, hl⟩
  | cons x ks =>
    cases x with
    | c p => exact codeStep_fin hm hT h hl
    | e j => simp [stepK] at h
    | g p => simp [stepK] at h

theorem runK_go (hm : C.P.follows .mixedOrders = true) (hT : ToldOk C) {ex : Ex} {s' : St} : ∀ (k : Nat) {ks ks' : List K} {s s₁ : St}, runK C n body k ks s = some (.go ks' s₁) →
    LOkE C.P body ks' .normal s₁ ex s' → LOkE C.P body ks .normal s ex s' := by
  intro k
  induction k with
  | zero =>
    intro ks ks' s s₁ h hl
    have h' : some (Out.go ks s) = some (.go ks' s₁) := h
    simp only [Option.some.injEq, Out.go.injEq] at h'
    obtain ⟨rfl, rfl⟩ := h'
    exact hl
  | succ k ih =>
    intro ks ks' s s₁ h hl
    have h' : (match stepK C n body ks s with
      | some (.go ks' s') => runK C n body k ks' s'
      | r => r) = some (.go ks' s₁) := h
    split at h'
    · rename_i ks₂ s₂ hq
      exact stepK_go hm hT hq (ih h' hl)
    · rename_i hq
      rw [h'] at hq
      exact absurd rfl (hq _ _)

theorem runK_fin (hm : C.P.follows .mixedOrders = true) (hT : ToldOk C) {ex : Ex} {s₁ s' : St} : ∀ (k : Nat) {ks : List K} {s : St}, runK C n body k ks s = some (.fin ex s₁) → Less s' s₁ →
    LOkE C.P body ks .normal s ex s' := by
  intro k
  induction k with
  | zero => intro ks s h hl; cases h
  | succ k ih =>
    intro ks s h hl
    have h' : (match stepK C n body ks s with
      | some (.go ks' s') => runK C n body k ks' s'
      | r => r) = some (.fin ex s₁) := h
    split at h'
    · rename_i ks₂ s₂ hq
      exact stepK_go hm hT hq (ih h' hl)
    · exact stepK_fin hm hT h' hl

theorem cutGo (hm : C.P.follows .mixedOrders = true) (hT : ToldOk C) {l : List Nat} {k : Nat} {ks ks' : List K} {s s₁ : St} (h : gcO l (runK C n body k ks s) = some (.go ks' s₁)) {ex : Ex} {s' : St}
    (hl : LOkE C.P body ks' .normal s₁ ex s') : LOkE C.P body ks .normal s ex s' := by
  cases hq : runK C n body k ks s with
  | none => rw [hq] at h; cases h
  | some o =>
    rw [hq] at h
    cases o with
    | fin ex s₂ => cases h
    | go ks₂ s₂ =>
      simp only [gcO, Option.some.injEq, Out.go.injEq] at h
      obtain ⟨rfl, rfl⟩ := h
      exact runK_go hm hT k hq (LOkE.less ks₂ hl (gcS_less l s₂))

theorem cutFin (hm : C.P.follows .mixedOrders = true) (hT : ToldOk C) {l : List Nat} {k : Nat} {ks : List K} {s s' : St} {ex : Ex} (h : gcO l (runK C n body k ks s) = some (.fin ex s')) :
    LOkE C.P body ks .normal s ex s' := by
  cases hq : runK C n body k ks s with
  | none => rw [hq] at h; cases h
  | some o =>
    rw [hq] at h
    cases o with
    | go ks₂ s₂ => cases h
    | fin ex₂ s₂ =>
      simp only [gcO, Option.some.injEq, Out.fin.injEq] at h
      obtain ⟨rfl, rfl⟩ := h
      exact runK_fin hm hT k hq (gcS_less l s₂)

theorem LOkE.seg {P : Program} {s s' : St} {ex : Ex} (h : LOkE P body [.c []] .normal s ex s') : SegOk P body s ex s' := by
  obtain ⟨ex₁, s₁, h1, h2, h3⟩ := h
  subst h2
  exact h1.less h3 (Less.refl s)
end

/- A call whose answer is known where the arguments and the heap are these. -/
noncomputable def atAns (n : Nat) (C : Cfg) (f : FuncId) (args₀ : List V) (h₀ : H) (v : V) (h' : H) (args : List V) (h : H) : Option (V × H) :=
  cond (V.beqL args₀ args && Nat.beq h₀.next h.next && leT h₀.tr h.tr) (some (v, h')) (callF C (evF C n) f args h)

/-- A call whose answer at one place is known. -/
noncomputable def withAt (C : Cfg) (n : Nat) (f : FuncId) (args₀ : List V) (h₀ : H) (v : V) (h' : H) : Cfg :=
  ⟨C.P, fun g => cond (Nat.beq g f) (some (atAns n C f args₀ h₀ v h')) (C.told g)⟩

def AnsOk (P : Program) (f : FuncId) (args₀ : List V) (h₀ : H) (v : V) (h' : H) : Prop := ∀ (c : Ctx) (w : World), Rel c h₀ w → (∀ x ∈ args₀, wf c x) → CallOk P f args₀ c w v h'

theorem withAt_ok {C : Cfg} (hm : C.P.follows .mixedOrders = true) (hT : ToldOk C) {n : Nat} {f : FuncId} {args₀ : List V} {h₀ : H} {v : V} {h' : H} (ha : AnsOk C.P f args₀ h₀ v h')
    (hf : ∃ fn, C.P.funcs[f]? = some fn ∧ fn.body.isSome = true ∧ (fn.name == "runtime.NumGoroutine") = false) : ToldOk (withAt C n f args₀ h₀ v h') := by
  intro g t hg
  simp only [withAt] at hg ⊢
  by_cases h1 : g = f
  · subst h1
    rw [beqT rfl, cond_true] at hg
    simp only [Option.some.injEq] at hg
    subst hg
    refine .inl ⟨hf, fun args σ v₁ σ' hr c w h hw => ?_⟩
    unfold atAns at hr
    cases hq : (V.beqL args₀ args && Nat.beq h₀.next σ.next && leT h₀.tr σ.tr) with
    | true =>
      rw [hq, cond_true] at hr
      simp only [Option.some.injEq, Prod.mk.injEq] at hr
      obtain ⟨rfl, rfl⟩ := hr
      simp only [Bool.and_eq_true, beq_iff] at hq
      have := vBeqL_ok _ _ hq.1.1
      subst this
      exact ha c w (h.sub ⟨hq.1.2, leT_ok _ _ hq.2⟩) hw
    | false =>
      rw [hq, cond_false, evF_eq] at hr
      exact run_ok hm hT (n := n) hr h hw
  · rw [beqF h1, cond_false] at hg
    exact hT g t hg

theorem ans_of_seg {C : Cfg} (hT : ToldOk C) {f : FuncId} {fn : Func} {body : Code} {args₀ : List V} {h₀ h' : H} {v : V} {ex : Ex} {s' : St} (hf : C.P.funcs[f]? = some fn) (hb : fn.body = some body) (ht : C.told f = none)
    (hs : SegOk C.P body ⟨bindArgs args₀ 0 .lf, fn.ntmps, h₀⟩ ex s') (hr : callF C (fun _ _ => some (ex, s')) f args₀ h₀ = some (v, h')) : AnsOk C.P f args₀ h₀ v h' :=
  fun _ _ h hw => SegOk.call hT hf hb ht hs hr h hw

theorem law_cut {f : FuncId} {fn : Func} {code : Code} {args : List V} {ex : Ex} {s' : St} {σ' : H} (hf : Tryz.prog.funcs[f]? = some fn) (hb : fn.body = some code) (ht : told₂ f = none)
    (hs : SegOk Tryz.prog code ⟨bindArgs args 0 .lf, fn.ntmps, ⟨0, .lf⟩⟩ ex s') (hr : callF C₂ (fun _ _ => some (ex, s')) f args ⟨0, .lf⟩ = some (.bool true, σ'))
    (hw : ∀ x ∈ args, wf ⟨fun _ => (0, 0), fun _ => 0, 0⟩ x) (w : World) :
    Calls Tryz.prog f (args.map (conc ⟨fun _ => (0, 0), fun _ => 0, 0⟩)).toArray w fun e w' => e = .returned (.bool true) ∧ w.keptBut w' (fun _ => False) := by
  have := SegOk.call (C := C₂) told₂_ok hf hb ht hs hr (Rel.empty w) hw
  unfold CallOk at this
  refine Calls.mono this ?_
  rintro e w' ⟨c', rfl, _, _, hs⟩
  exact ⟨by simp [conc], kept_of_stp hs⟩

end Go.Proofs.YtdllelamfamfcaaGreatDoor.Am
