/- The abstract machine: the evaluator is right. -/
import Derived.Test.YtdllelamfamfcaaGreatAmDrawD
import Derived.Scope
namespace Go.Proofs.YtdllelamfamfcaaGreat.Am
open Go

/-- A loop whose round begins. -/
def LoopOk (P : Program) (self : Self) : Prop := ∀ (b : Code) (s : St) (ex : Ex) (s' : St), self (.loop b) s = some (ex, s') →
  ∀ (c : Ctx) (a : Act) (w : World), Rel c s.h w → EnvOk c s.env s.ntm a → ∀ (fr : Frame) (k : List Item) (cs : List Frame),
    ∃ e a' w', (e = exOf ex ∧ a'.defers = a.defers ∧ ∃ c', Rel c' s'.h w' ∧ EnvOk c' s'.env s'.ntm a' ∧ Stp c w c' w') ∧
      Arrives P (lone (fr.at a (.code b :: .inLoop b :: k)) cs w) fr k cs e a' w'

section
variable {C : Cfg} {self : Self}

theorem evStep_loop (hS : SelfOk C.P self) (hL : LoopOk C.P self) {b : Code} {s : St} {ex : Ex} {s' : St} (hr : evStep C self (.loop b) s = some (ex, s'))
    {c : Ctx} {a : Act} {w : World} (h : Rel c s.h w) (he : EnvOk c s.env s.ntm a) (fr : Frame) (k : List Item) (cs : List Frame) :
    ∃ e a' w', (e = exOf ex ∧ a'.defers = a.defers ∧ ∃ c', Rel c' s'.h w' ∧ EnvOk c' s'.env s'.ntm a' ∧ Stp c w c' w') ∧
      Arrives C.P (lone (fr.at a (.code b :: .inLoop b :: k)) cs w) fr k cs e a' w' := by
  unfold evStep at hr
  simp only at hr
  cases hb : self b s with
  | none => rw [hb] at hr; simp at hr
  | some r =>
    obtain ⟨ex₁, s₁⟩ := r
    rw [hb] at hr
    obtain ⟨e, a₁, w₁, ⟨q1, q2, c₁, q3, q4, q5⟩, harr⟩ := hS b s ex₁ s₁ hb c a w h he fr (.inLoop b :: k) cs
    cases ex₁ with
    | normal =>
      simp only at hr
      subst q1
      obtain ⟨e₂, a₂, w₂, ⟨p1, p2, c₂, p3, p4, p5⟩, harr₂⟩ := hL b s₁ ex s' hr c₁ a₁ w₁ q3 q4 fr k cs
      exact ⟨e₂, a₂, w₂, ⟨p1, by rw [p2, q2], c₂, p3, p4, q5.trans p5⟩, .of_steps (Steps.trans harr (.one step_inLoop)) harr₂⟩
    | exit i =>
      simp only [Option.some.injEq, Prod.mk.injEq] at hr
      obtain ⟨rfl, rfl⟩ := hr
      subst q1
      exact ⟨_, a₁, w₁, ⟨rfl, q2, c₁, q3, q4, q5⟩, .pass (x := .inLoop b) rfl (fun _ _ => .inl (by simp [exOf])) harr⟩
    | ret =>
      simp only [Option.some.injEq, Prod.mk.injEq] at hr
      obtain ⟨rfl, rfl⟩ := hr
      subst q1
      exact ⟨_, a₁, w₁, ⟨rfl, q2, c₁, q3, q4, q5⟩, .pass (x := .inLoop b) rfl (fun _ _ => .inl (by simp [exOf])) harr⟩

theorem evStep_ok (hm : C.P.follows .mixedOrders = true) (hT : ToldOk C) (hS : SelfOk C.P self) (hL : LoopOk C.P self) : SelfOk C.P (evStep C self) := by
  intro code s ex s' hr c a w h he
  have same : ∀ {ex : Ex} {s' : St}, (Ex.normal, s) = (ex, s') → exOf ex = .normal ∧ s' = s := fun e => by cases e; exact ⟨rfl, rfl⟩
  cases code with
  | skip =>
    simp only [evStep, Option.some.injEq, Prod.mk.injEq] at hr
    obtain ⟨rfl, rfl⟩ := hr
    exact wp_skip ⟨rfl, rfl, c, h, he, Stp.refl c w⟩
  | label l =>
    simp only [evStep, Option.some.injEq, Prod.mk.injEq] at hr
    obtain ⟨rfl, rfl⟩ := hr
    exact wp_label ⟨rfl, rfl, c, h, he, Stp.refl c w⟩
  | region id ops draw =>
    unfold evStep at hr
    simp only at hr
    cases draw with
    | true =>
      rw [cond_true] at hr
      cases hd : evDraw C self ops.toList s with
      | none => simp [hd] at hr
      | some s₁ =>
        simp only [hd, Option.some.injEq, Prod.mk.injEq] at hr
        obtain ⟨rfl, rfl⟩ := hr
        exact evDraw_ok hS hT hm hd h he fun c' a' w' r1 r2 r3 r4 => ⟨rfl, r4, c', r1, r2, r3⟩
    | false =>
      rw [cond_false] at hr
      cases hd : evOps C self ops.toList ops.toList s with
      | none => simp [hd] at hr
      | some s₁ =>
        simp only [hd, Option.some.injEq, Prod.mk.injEq] at hr
        obtain ⟨rfl, rfl⟩ := hr
        refine wp_region ?_
        rw [List.range_eq_range', ← Array.length_toList]
        exact evOps_ok hS hT ops.toList 0 s s₁ c a w (fun j => by rw [Nat.zero_add, Array.getElem?_toList]) hd h he fun c' a' w' r1 r2 r3 r4 => ⟨rfl, r4, c', r1, r2, r3⟩
  | seq x y =>
    unfold evStep at hr
    simp only at hr
    cases hx : self x s with
    | none => rw [hx] at hr; simp at hr
    | some r =>
      obtain ⟨ex₁, s₁⟩ := r
      rw [hx] at hr
      refine wp_seq (Code.wp_mono ?_ (hS x s ex₁ s₁ hx c a w h he))
      rintro e a₁ w₁ ⟨rfl, q2, c₁, q3, q4, q5⟩
      cases ex₁ with
      | normal =>
        simp only at hr
        refine Code.wp_mono ?_ (hS y s₁ ex s' hr c₁ a₁ w₁ q3 q4)
        rintro e a₂ w₂ ⟨rfl, p2, c₂, p3, p4, p5⟩
        exact ⟨rfl, by rw [p2, q2], c₂, p3, p4, q5.trans p5⟩
      | exit i =>
        simp only [Option.some.injEq, Prod.mk.injEq] at hr
        obtain ⟨rfl, rfl⟩ := hr
        exact ⟨rfl, q2, c₁, q3, q4, q5⟩
      | ret =>
        simp only [Option.some.injEq, Prod.mk.injEq] at hr
        obtain ⟨rfl, rfl⟩ := hr
        exact ⟨rfl, q2, c₁, q3, q4, q5⟩
  | cond x y z =>
    unfold evStep at hr
    simp only at hr
    split at hr
    · rename_i t hx
      obtain ⟨e1, _⟩ := evO_ok he hx
      refine wp_cond (t := t) (by rw [e1]; rfl) ?_
      have := hS (cond t y z) s ex s' hr c a w h he
      cases t <;> simpa using this
    · cases hr
  | block id b =>
    unfold evStep at hr
    simp only at hr
    cases hb : self b s with
    | none => rw [hb] at hr; simp at hr
    | some r =>
      obtain ⟨ex₁, s₁⟩ := r
      rw [hb] at hr
      refine wp_block (Code.wp_mono ?_ (hS b s ex₁ s₁ hb c a w h he))
      rintro e a₁ w₁ ⟨rfl, q2, c₁, q3, q4, q5⟩
      cases ex₁ with
      | normal =>
        simp only [Option.some.injEq, Prod.mk.injEq] at hr
        obtain ⟨rfl, rfl⟩ := hr
        simp only [exOf, Exit.inBlock]
        exact ⟨trivial, q2, c₁, q3, q4, q5⟩
      | exit i =>
        simp only at hr
        by_cases hi : i = id
        · rw [beqT hi, cond_true] at hr
          simp only [Option.some.injEq, Prod.mk.injEq] at hr
          obtain ⟨rfl, rfl⟩ := hr
          simp only [exOf, Exit.inBlock, hi, if_true]
          exact ⟨trivial, q2, c₁, q3, q4, q5⟩
        · rw [beqF hi, cond_false] at hr
          simp only [Option.some.injEq, Prod.mk.injEq] at hr
          obtain ⟨rfl, rfl⟩ := hr
          simp only [exOf, Exit.inBlock, hi, if_false]
          exact ⟨trivial, q2, c₁, q3, q4, q5⟩
      | ret =>
        simp only [Option.some.injEq, Prod.mk.injEq] at hr
        obtain ⟨rfl, rfl⟩ := hr
        simp only [exOf, Exit.inBlock]
        exact ⟨trivial, q2, c₁, q3, q4, q5⟩
  | loop b =>
    intro fr k cs
    obtain ⟨e, a', w', q, harr⟩ := evStep_loop hS hL hr h he fr k cs
    exact ⟨e, a', w', q, .of_steps (.one step_loop) harr⟩
  | exit id =>
    simp only [evStep, Option.some.injEq, Prod.mk.injEq] at hr
    obtain ⟨rfl, rfl⟩ := hr
    exact wp_exit ⟨rfl, rfl, c, h, he, Stp.refl c w⟩
  | scope b =>
    unfold evStep at hr
    simp only at hr
    refine wp_scope_straight (Code.wp_mono ?_ (hS b s ex s' hr c a w h he))
    rintro e a₁ w₁ ⟨rfl, q2, c₁, q3, q4, q5⟩
    cases ex <;> exact ⟨rfl, q2, c₁, q3, q4, q5⟩
  | ret =>
    simp only [evStep, Option.some.injEq, Prod.mk.injEq] at hr
    obtain ⟨rfl, rfl⟩ := hr
    exact wp_ret ⟨rfl, rfl, c, h, he, Stp.refl c w⟩
  | _ => simp [evStep] at hr

theorem ev_ok (hm : C.P.follows .mixedOrders = true) (hT : ToldOk C) : ∀ n, SelfOk C.P (ev C n) ∧ LoopOk C.P (ev C n) := by
  intro n
  induction n with
  | zero => exact ⟨fun _ _ _ _ h => by simp [ev] at h, fun _ _ _ _ h => by simp [ev] at h⟩
  | succ n ih =>
    exact ⟨evStep_ok hm hT ih.1 ih.2, fun b s ex s' hr c a w h he fr k cs => evStep_loop ih.1 ih.2 hr h he fr k cs⟩

/-- What the evaluator tells of a call holds. -/
theorem run_ok (hm : C.P.follows .mixedOrders = true) (hT : ToldOk C) {n : Nat} {f : FuncId} {args : List V} {h : H} {v : V} {h' : H} (hr : run C n f args h = some (v, h')) {c : Ctx} {w : World}
    (hrel : Rel c h w) (hw : ∀ x ∈ args, wf c x) : CallOk C.P f args c w v h' :=
  (callF_ok (ev_ok hm hT n).1 hT hr hrel hw).1

/-- The empty heap describes every world. -/
theorem Rel.empty (w : World) : Rel ⟨fun _ => (0, 0), fun _ => 0, 0⟩ ⟨0, .lf⟩ w :=
  ⟨rfl, fun id o h => by simp [T.get_lf] at h, fun id h => absurd h (Nat.not_lt_zero _), fun id h => absurd h (Nat.not_lt_zero _), fun i j o o' h => by simp [T.get_lf] at h, fun id o h => by simp [T.get_lf] at h, fun id cs st h => by simp [T.get_lf] at h⟩
end

end Go.Proofs.YtdllelamfamfcaaGreat.Am
