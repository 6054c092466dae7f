/- The abstract machine: a law without arguments that comes true under the evaluator. -/
import Derived.Test.YtconhghphklfjaaGreatAmKeys
import Derived.Test.YtconhghphklfjaaGreatAmMore
import Derived.ProofKit
namespace Go.Proofs.YtconhghphklfjaaGreat.Am
open Go

/-- The functions that are told of themselves. -/
def told₀ (f : Nat) : Option (List V → H → Option (V × H)) :=
  cond (Nat.beq f 50) (some (toldSorted iters)) (cond (Nat.beq f 119) (some toldMore) none)

noncomputable def C₀ : Cfg := ⟨Tryz.prog, told₀⟩

noncomputable def told₁ (f : Nat) : Option (List V → H → Option (V × H)) :=
  cond (Nat.beq f 101) (some (toldParsed C₀ 100000)) (told₀ f)

noncomputable def C₁ : Cfg := ⟨Tryz.prog, told₁⟩

theorem mixed : Tryz.prog.follows .mixedOrders = true := by kernel_rfl

theorem told₀_ok : ToldOk C₀ := by
  intro f g hg
  simp only [C₀, told₀] at hg ⊢
  by_cases h1 : f = 50
  · subst h1
    rw [beqT rfl, cond_true] at hg
    simp only [Option.some.injEq] at hg
    subst hg
    exact ⟨⟨_, Tryz.func50, rfl, by decide⟩, fun args σ v σ' hr c w h _ => toldSorted_ok Tryz.underlying3 sortsKeys hr h⟩
  · rw [beqF h1, cond_false] at hg
    by_cases h2 : f = 119
    · subst h2
      rw [beqT rfl, cond_true] at hg
      simp only [Option.some.injEq] at hg
      subst hg
      exact ⟨⟨_, Tryz.func119, rfl, by decide⟩, fun args σ v σ' hr c w h hw => toldMore_ok (C := C₀) rfl mixed hr h hw⟩
    · rw [beqF h2, cond_false] at hg
      cases hg

theorem told₁_ok : ToldOk C₁ := by
  intro f g hg
  simp only [C₁, told₁] at hg ⊢
  by_cases h1 : f = 101
  · subst h1
    rw [beqT rfl, cond_true] at hg
    simp only [Option.some.injEq] at hg
    subst hg
    exact ⟨⟨_, Tryz.func101, rfl, by decide⟩, fun args σ v σ' hr c w h hw => toldParsed_ok (C := C₀) rfl mixed told₀_ok hr h hw⟩
  · rw [beqF h1, cond_false] at hg
    exact told₀_ok f g hg

/-- Nothing that lay before has turned. -/
theorem kept_of_stp {w w' : World} {c' : Ctx} (h : Stp ⟨fun _ => (0, 0), fun _ => 0, 0⟩ w c' w') : w.keptBut w' (fun _ => False) := by
  refine ⟨h.sys.1, h.sys.2, fun i hi => ?_⟩
  have : w'.heap[i]? = w.heap[i]? := h.keep i hi (fun id hid => absurd hid (Nat.not_lt_zero _))
  rw [this]
  split <;> simp_all

theorem law_walk {n f : Nat} (hr : isTrue (run C₁ n f [] ⟨0, .lf⟩) = true) (w : World) :
    Calls Tryz.prog f #[] w fun e w' => e = .returned (.bool true) ∧ w.keptBut w' (fun _ => False) := by
  have hm : C₁.P.follows .mixedOrders = true := mixed
  cases h : run C₁ n f [] ⟨0, .lf⟩ with
  | none => rw [h] at hr; cases hr
  | some r =>
    obtain ⟨v, h'⟩ := r
    rw [h] at hr
    have hv : v = .bool true := by
      unfold isTrue at hr
      split at hr
      · rename_i he; simp only [Option.some.injEq, Prod.mk.injEq] at he; exact he.1
      · cases hr
    subst hv
    have := run_ok (C := C₁) hm told₁_ok h (Rel.empty w) (fun x hx => by cases hx)
    unfold CallOk at this
    refine Calls.mono this ?_
    rintro e w' ⟨c', rfl, _, _, hs⟩
    exact ⟨by simp [conc], kept_of_stp hs⟩

end Go.Proofs.YtconhghphklfjaaGreat.Am
