/- The abstract machine: the evaluator is right. -/
import Derived.Test.YtdllelamfamfcaaGreatDoorAmDrawD
import Derived.Scope
namespace Go.Proofs.YtdllelamfamfcaaGreatDoor.Am
open Go

section
variable {P : Program} {b : Frame} {a : Act} {k : List Item} {cs : List Frame} {w : World}
theorem stepR_scope {c : Code} : step P (lone (b.atR a (.code (.scope c) :: k)) cs w) = .next (lone (b.atR a (.code c :: .inScope c :: k)) cs w) :=
  step_lone_go (by simp [stepG, stepG.exec, Frame.atR])
theorem stepR_inScope {c : Code} : step P (lone (b.atR a (.inScope c :: k)) cs w) = .next (lone (b.atR a k) cs w) :=
  step_lone_go (by simp [stepG, stepG.exec, Frame.atR])
end

theorem wpIn_scope {P : Program} {r : Option Nat} {c : Code} {Q : Exit → Act → World → Prop} {a : Act} {w : World} (h : c.wpIn (Fr r) 0 P (Exit.noGoto Q) a w) : (Code.scope c).wpIn (Fr r) 0 P Q a w := by
  intro b k cs hro hb hr
  obtain ⟨e, a₁, w₁, hq, harr⟩ := h b (.inScope c :: k) cs hro hb hr
  cases e with
  | normal => exact ⟨.normal, a₁, w₁, hq, .of_steps (.one (fenced_calm hb hr rfl) stepR_scope) (StepsIn.trans harr (.one (fenced_calm hb hr rfl) stepR_inScope))⟩
  | exit id => exact ⟨.exit id, a₁, w₁, hq, .of_steps (.one (fenced_calm hb hr rfl) stepR_scope) ⟨fun k' hk => harr.1 k' (by simpa [exitTo] using hk), fun hr hk => harr.2 hr (by simpa [exitTo] using hk)⟩⟩
  | goto l => exact hq.elim
  | ret => exact ⟨_, a₁, w₁, hq, .of_steps (.one (fenced_calm hb hr rfl) stepR_scope) harr⟩
  | panic ch => exact ⟨_, a₁, w₁, hq, .of_steps (.one (fenced_calm hb hr rfl) stepR_scope) harr⟩
  | outgrown => exact ⟨_, a₁, w₁, hq, .of_steps (.one (fenced_calm hb hr rfl) stepR_scope) harr⟩

/-- A loop whose round begins. -/
def LoopOk (P : Program) (self : Self) (m : Nat) : Prop := ∀ (b : Code) (s : St) (ex : Ex) (s' : St), self (.loop b) s = some (ex, s') →
  ∀ (r : Option Nat) (c : Ctx) (a : Act) (w : World) (Q : Exit → Act → World → Prop), Rel c s.h w → EnvOk c s.env s.ntm a →
    (∀ e a' w', (e = exOf ex ∧ a'.defers = a.defers ∧ ∃ c', Rel c' s'.h w' ∧ EnvOk c' s'.env s'.ntm a' ∧ Stp c w c' w') → Q e a' w') → Code.roundsIn (Fr r) 0 P b Q m a w

section
variable {C : Cfg} {self : Self}

theorem evStep_loop {m : Nat} (hS : SelfOkR C.P self) (hL : LoopOk C.P self m) : LoopOk C.P (evStep C self) (m + 1) := by
  intro b s ex s' hr r c a w Q h he hQ
  rw [roundsIn_succ]
  unfold evStep at hr
  simp only at hr
  cases hb : self b s with
  | none => rw [hb] at hr; simp at hr
  | some q =>
    obtain ⟨ex₁, s₁⟩ := q
    rw [hb] at hr
    refine wpIn_mono (hS b s ex₁ s₁ hb r c a w h he) ?_
    rintro e a₁ w₁ ⟨rfl, q2, c₁, q3, q4, q5⟩
    cases ex₁ with
    | normal =>
      simp only at hr
      refine hL b s₁ ex s' hr r c₁ a₁ w₁ Q q3 q4 ?_
      rintro e₂ a₂ w₂ ⟨p1, p2, c₂, p3, p4, p5⟩
      exact hQ _ _ _ ⟨p1, by rw [p2, q2], c₂, p3, p4, q5.trans p5⟩
    | exit i =>
      simp only [Option.some.injEq, Prod.mk.injEq] at hr
      obtain ⟨rfl, rfl⟩ := hr
      exact hQ _ _ _ ⟨rfl, q2, c₁, q3, q4, q5⟩
    | ret =>
      simp only [Option.some.injEq, Prod.mk.injEq] at hr
      obtain ⟨rfl, rfl⟩ := hr
      exact hQ _ _ _ ⟨rfl, q2, c₁, q3, q4, q5⟩

theorem evStep_ok {m : Nat} (hm : C.P.follows .mixedOrders = true) (hT : ToldOk C) (hS : SelfOkR C.P self) (hL : LoopOk C.P self m) : SelfOkR C.P (evStep C self) := by
  intro code s ex s' hr r c a w h he
  have same : ∀ {ex : Ex} {s' : St}, (Ex.normal, s) = (ex, s') → exOf ex = .normal ∧ s' = s := fun e => by cases e; exact ⟨rfl, rfl⟩
  cases code with
  | skip =>
    simp only [evStep, Option.some.injEq, Prod.mk.injEq] at hr
    obtain ⟨rfl, rfl⟩ := hr
    exact wpIn_skip ⟨rfl, rfl, c, h, he, Stp.refl c w⟩
  | label l =>
    simp only [evStep, Option.some.injEq, Prod.mk.injEq] at hr
    obtain ⟨rfl, rfl⟩ := hr
    exact wpIn_label ⟨rfl, rfl, c, h, he, Stp.refl c w⟩
  | region id ops draw =>
    unfold evStep at hr
    simp only at hr
    cases draw with
    | true =>
      rw [cond_true] at hr
      cases hd : evDraw C self ops.toList s with
      | none => simp [hd] at hr
      | some s₁ =>
        simp only [hd, Option.some.injEq, Prod.mk.injEq] at hr
        obtain ⟨rfl, rfl⟩ := hr
        exact evDraw_ok hS hT hm hd h he fun c' a' w' r1 r2 r3 r4 => ⟨rfl, r4, c', r1, r2, r3⟩
    | false =>
      rw [cond_false] at hr
      cases hd : evOps C self ops.toList ops.toList s with
      | none => simp [hd] at hr
      | some s₁ =>
        simp only [hd, Option.some.injEq, Prod.mk.injEq] at hr
        obtain ⟨rfl, rfl⟩ := hr
        refine wpIn_region ?_
        rw [List.range_eq_range', ← Array.length_toList]
        exact evOps_ok hS hT ops.toList 0 s s₁ c a w (fun j => by rw [Nat.zero_add, Array.getElem?_toList]) hd h he fun c' a' w' r1 r2 r3 r4 => ⟨rfl, r4, c', r1, r2, r3⟩
  | seq x y =>
    unfold evStep at hr
    simp only at hr
    cases hx : self x s with
    | none => rw [hx] at hr; simp at hr
    | some r =>
      obtain ⟨ex₁, s₁⟩ := r
      rw [hx] at hr
      refine wpIn_seq (wpIn_mono (hS x s ex₁ s₁ hx r c a w h he) ?_)
      rintro e a₁ w₁ ⟨rfl, q2, c₁, q3, q4, q5⟩
      cases ex₁ with
      | normal =>
        simp only at hr
        refine wpIn_mono (hS y s₁ ex s' hr r c₁ a₁ w₁ q3 q4) ?_
        rintro e a₂ w₂ ⟨rfl, p2, c₂, p3, p4, p5⟩
        exact ⟨rfl, by rw [p2, q2], c₂, p3, p4, q5.trans p5⟩
      | exit i =>
        simp only [Option.some.injEq, Prod.mk.injEq] at hr
        obtain ⟨rfl, rfl⟩ := hr
        exact ⟨rfl, q2, c₁, q3, q4, q5⟩
      | ret =>
        simp only [Option.some.injEq, Prod.mk.injEq] at hr
        obtain ⟨rfl, rfl⟩ := hr
        exact ⟨rfl, q2, c₁, q3, q4, q5⟩
  | cond x y z =>
    unfold evStep at hr
    simp only at hr
    split at hr
    · rename_i t hx
      obtain ⟨e1, _⟩ := evO_ok he hx
      refine wpIn_cond (t := t) (by rw [e1]; rfl) ?_
      have := hS (cond t y z) s ex s' hr r c a w h he
      cases t <;> simpa using this
    · cases hr
  | block id b =>
    unfold evStep at hr
    simp only at hr
    cases hb : self b s with
    | none => rw [hb] at hr; simp at hr
    | some r =>
      obtain ⟨ex₁, s₁⟩ := r
      rw [hb] at hr
      refine wpIn_block (wpIn_mono (hS b s ex₁ s₁ hb r c a w h he) ?_)
      rintro e a₁ w₁ ⟨rfl, q2, c₁, q3, q4, q5⟩
      cases ex₁ with
      | normal =>
        simp only [Option.some.injEq, Prod.mk.injEq] at hr
        obtain ⟨rfl, rfl⟩ := hr
        simp only [exOf, Exit.inBlock]
        exact ⟨trivial, q2, c₁, q3, q4, q5⟩
      | exit i =>
        simp only at hr
        by_cases hi : i = id
        · rw [beqT hi, cond_true] at hr
          simp only [Option.some.injEq, Prod.mk.injEq] at hr
          obtain ⟨rfl, rfl⟩ := hr
          simp only [exOf, Exit.inBlock, hi, if_true]
          exact ⟨trivial, q2, c₁, q3, q4, q5⟩
        · rw [beqF hi, cond_false] at hr
          simp only [Option.some.injEq, Prod.mk.injEq] at hr
          obtain ⟨rfl, rfl⟩ := hr
          simp only [exOf, Exit.inBlock, hi, if_false]
          exact ⟨trivial, q2, c₁, q3, q4, q5⟩
      | ret =>
        simp only [Option.some.injEq, Prod.mk.injEq] at hr
        obtain ⟨rfl, rfl⟩ := hr
        simp only [exOf, Exit.inBlock]
        exact ⟨trivial, q2, c₁, q3, q4, q5⟩
  | loop b =>
    exact wpIn_loop_rounds (m + 1) (evStep_loop hS hL b s ex s' hr r c a w _ h he (fun _ _ _ hq => hq))
  | exit id =>
    simp only [evStep, Option.some.injEq, Prod.mk.injEq] at hr
    obtain ⟨rfl, rfl⟩ := hr
    exact wpIn_exit ⟨rfl, rfl, c, h, he, Stp.refl c w⟩
  | scope b =>
    unfold evStep at hr
    simp only at hr
    refine wpIn_scope (wpIn_mono (hS b s ex s' hr r c a w h he) ?_)
    rintro e a₁ w₁ ⟨rfl, q2, c₁, q3, q4, q5⟩
    cases ex <;> exact ⟨rfl, q2, c₁, q3, q4, q5⟩
  | ret =>
    simp only [evStep, Option.some.injEq, Prod.mk.injEq] at hr
    obtain ⟨rfl, rfl⟩ := hr
    exact wpIn_ret ⟨rfl, rfl, c, h, he, Stp.refl c w⟩
  | _ => simp [evStep] at hr

theorem ev_okR (hm : C.P.follows .mixedOrders = true) (hT : ToldOk C) : ∀ n, SelfOkR C.P (ev C n) ∧ LoopOk C.P (ev C n) n := by
  intro n
  induction n with
  | zero => exact ⟨fun _ _ _ _ h => by simp [ev] at h, fun _ _ _ _ h => by simp [ev] at h⟩
  | succ n ih => exact ⟨evStep_ok hm hT ih.1 ih.2, evStep_loop ih.1 ih.2⟩

theorem ev_ok (hm : C.P.follows .mixedOrders = true) (hT : ToldOk C) (n : Nat) : SelfOk C.P (ev C n) ∧ True := ⟨(ev_okR hm hT n).1.wide, trivial⟩

/-- What the evaluator tells of a call holds. -/
theorem run_ok (hm : C.P.follows .mixedOrders = true) (hT : ToldOk C) {n : Nat} {f : FuncId} {args : List V} {h : H} {v : V} {h' : H} (hr : run C n f args h = some (v, h')) {c : Ctx} {w : World}
    (hrel : Rel c h w) (hw : ∀ x ∈ args, wf c x) : CallOk C.P f args c w v h' :=
  (callF_ok (ev_ok hm hT n).1 hT hr hrel hw).1

/-- The empty heap describes every world. -/
theorem Rel.empty (w : World) : Rel ⟨fun _ => (0, 0), fun _ => 0, 0⟩ ⟨0, .lf⟩ w :=
  ⟨rfl, fun id o h => by simp [T.get_lf] at h, fun id h => absurd h (Nat.not_lt_zero _), fun id h => absurd h (Nat.not_lt_zero _), fun i j o o' h => by simp [T.get_lf] at h, fun id o h => by simp [T.get_lf] at h, fun id cs st h => by simp [T.get_lf] at h⟩
end

end Go.Proofs.YtdllelamfamfcaaGreatDoor.Am
