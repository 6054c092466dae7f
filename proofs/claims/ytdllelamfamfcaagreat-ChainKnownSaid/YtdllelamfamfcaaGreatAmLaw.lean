/- The abstract machine: a law without arguments that comes true under the evaluator. -/
import Derived.Test.YtdllelamfamfcaaGreatAmKeys
import Derived.Test.YtdllelamfamfcaaGreatAmWord
import Derived.Test.YtdllelamfamfcaaGreatAmDefer
import Derived.Test.YtdllelamfamfcaaGreatAmGood
import Derived.Test.YtdllelamfamfcaaGreatAmRanges
import Derived.Test.YtdllelamfamfcaaGreatAmRange
import Derived.Test.YtdllelamfamfcaaGreatAmCmp
import Derived.ProofKit
namespace Go.Proofs.YtdllelamfamfcaaGreat.Am
open Go

/-- One more, where the program has it. -/
noncomputable def toldX (f : Nat) : Option (List V → H → Option (V × H)) :=
  cond (Nat.beq f 141) (some toldCmp) none

/-- The functions that are told of themselves. -/
noncomputable def told₀ (f : Nat) : Option (List V → H → Option (V × H)) :=
  cond (Nat.beq f 114) (some (toldSorted iters)) (cond (Nat.beq f 244) (some toldMore) (cond (Nat.beq f 71) (some toldWord) (toldX f)))

noncomputable def C₀ : Cfg := ⟨Tryz.prog, told₀⟩

/-- Functions of which loops are told. -/
noncomputable def toldG (f : Nat) : Option (List V → H → Option (V × H)) :=
  cond (Nat.beq f 108) (some (toldSk C₀ 100000 5000 skGood 108)) (cond (Nat.beq f 181) (some (toldSk C₀ 100000 5000 skRanges 181)) (told₀ f))

noncomputable def CG : Cfg := ⟨Tryz.prog, toldG⟩

/-- A function with a range over a function. -/
noncomputable def toldH (f : Nat) : Option (List V → H → Option (V × H)) :=
  cond (Nat.beq f 66) (some (toldRange CG 100000 66)) (toldG f)

noncomputable def CH : Cfg := ⟨Tryz.prog, toldH⟩

noncomputable def told₁ (f : Nat) : Option (List V → H → Option (V × H)) :=
  cond (Nat.beq f 233) (some (toldParsed CG 100000)) (toldH f)

noncomputable def C₁ : Cfg := ⟨Tryz.prog, told₁⟩

theorem mixed : Tryz.prog.follows .mixedOrders = true := by kernel_rfl

theorem told₀_ok : ToldOk C₀ := by
  intro f g hg
  simp only [C₀, told₀] at hg ⊢
  by_cases h1 : f = 114
  · subst h1
    rw [beqT rfl, cond_true] at hg
    simp only [Option.some.injEq] at hg
    subst hg
    exact ⟨⟨_, Tryz.func114, rfl, by decide⟩, fun args σ v σ' hr c w h _ => toldSorted_ok Tryz.underlying3 sortsKeys hr h⟩
  · rw [beqF h1, cond_false] at hg
    by_cases h2 : f = 244
    · subst h2
      rw [beqT rfl, cond_true] at hg
      simp only [Option.some.injEq] at hg
      subst hg
      exact ⟨⟨_, Tryz.func244, rfl, by decide⟩, fun args σ v σ' hr c w h hw => toldMore_ok (C := C₀) rfl mixed hr h hw⟩
    · rw [beqF h2, cond_false] at hg
      by_cases h3 : f = 71
      · subst h3
        rw [beqT rfl, cond_true] at hg
        simp only [Option.some.injEq] at hg
        subst hg
        exact ⟨⟨_, Tryz.func71, rfl, by decide⟩, fun args σ v σ' hr c w h hw => toldWord_ok (C := C₀) rfl mixed hr h hw⟩
      · rw [beqF h3, cond_false] at hg
        unfold toldX at hg
        by_cases h4 : f = 141
        · subst h4
          rw [beqT rfl, cond_true] at hg
          simp only [Option.some.injEq] at hg
          subst hg
          exact ⟨⟨_, Tryz.func141, rfl, by decide⟩, fun args σ v σ' hr c w h hw => toldCmp_ok (C := C₀) rfl hr h hw⟩
        · rw [beqF h4, cond_false] at hg
          cases hg

theorem toldG_ok : ToldOk CG := by
  intro f g hg
  simp only [CG, toldG] at hg ⊢
  by_cases h1 : f = 108
  · subst h1
    rw [beqT rfl, cond_true] at hg
    simp only [Option.some.injEq] at hg
    subst hg
    refine ⟨⟨_, Tryz.func108, rfl, by decide⟩, fun args σ v σ' hr c w h hw => toldSk_ok (C := C₀) mixed told₀_ok (by kernel_rfl) (fun fn c hf hb => ?_) hr h hw⟩
    rw [show C₀.P.funcs[108]? = some Tryz.f108 from Tryz.func108] at hf
    simp only [Option.some.injEq] at hf
    subst hf
    rw [show Tryz.f108.body = some gBody from rfl] at hb
    simp only [Option.some.injEq] at hb
    subst hb
    exact skGood_ok
  · rw [beqF h1, cond_false] at hg
    by_cases h2 : f = 181
    · subst h2
      rw [beqT rfl, cond_true] at hg
      simp only [Option.some.injEq] at hg
      subst hg
      refine ⟨⟨_, Tryz.func181, rfl, by decide⟩, fun args σ v σ' hr c w h hw => toldSk_ok (C := C₀) mixed told₀_ok (by kernel_rfl) (fun fn c hf hb => ?_) hr h hw⟩
      rw [show C₀.P.funcs[181]? = some Tryz.f181 from Tryz.func181] at hf
      simp only [Option.some.injEq] at hf
      subst hf
      rw [show Tryz.f181.body = some aBody from rfl] at hb
      simp only [Option.some.injEq] at hb
      subst hb
      exact skRanges_ok
    · rw [beqF h2, cond_false] at hg
      exact told₀_ok f g hg

theorem toldH_ok : ToldOk CH := by
  intro f g hg
  simp only [CH, toldH] at hg ⊢
  by_cases h1 : f = 66
  · subst h1
    rw [beqT rfl, cond_true] at hg
    simp only [Option.some.injEq] at hg
    subst hg
    exact ⟨⟨_, Tryz.func66, rfl, by decide⟩, fun args σ v σ' hr c w h hw => toldRange_ok (C := CG) mixed toldG_ok hr h hw⟩
  · rw [beqF h1, cond_false] at hg
    exact toldG_ok f g hg

theorem told₁_ok : ToldOk C₁ := by
  intro f g hg
  simp only [C₁, told₁] at hg ⊢
  by_cases h1 : f = 233
  · subst h1
    rw [beqT rfl, cond_true] at hg
    simp only [Option.some.injEq] at hg
    subst hg
    exact ⟨⟨_, Tryz.func233, rfl, by decide⟩, fun args σ v σ' hr c w h hw => toldParsed_ok (C := CG) rfl mixed toldG_ok hr h hw⟩
  · rw [beqF h1, cond_false] at hg
    exact toldH_ok f g hg

noncomputable def told₂ (f : Nat) : Option (List V → H → Option (V × H)) :=
  cond (Nat.beq f 16) (some (toldDefer C₁ 100000 16)) (told₁ f)

noncomputable def C₂ : Cfg := ⟨Tryz.prog, told₂⟩

theorem told₂_ok : ToldOk C₂ := by
  intro f g hg
  simp only [C₂, told₂] at hg ⊢
  by_cases h1 : f = 16
  · subst h1
    rw [beqT rfl, cond_true] at hg
    simp only [Option.some.injEq] at hg
    subst hg
    exact ⟨⟨_, Tryz.func16, rfl, by decide⟩, fun args σ v σ' hr c w h hw => toldDefer_ok (C := C₁) mixed told₁_ok hr h hw⟩
  · rw [beqF h1, cond_false] at hg
    exact told₁_ok f g hg

/-- Nothing that lay before has turned. -/
theorem kept_of_stp {w w' : World} {c' : Ctx} (h : Stp ⟨fun _ => (0, 0), fun _ => 0, 0⟩ w c' w') : w.keptBut w' (fun _ => False) := by
  refine ⟨h.sys.1, h.sys.2, fun i hi => ?_⟩
  have : w'.heap[i]? = w.heap[i]? := h.keep i hi (fun id hid => absurd hid (Nat.not_lt_zero _))
  rw [this]
  split <;> simp_all

theorem law_walk {n f : Nat} (hr : isTrue (runF C₂ n f [] ⟨0, .lf⟩) = true) (w : World) :
    Calls Tryz.prog f #[] w fun e w' => e = .returned (.bool true) ∧ w.keptBut w' (fun _ => False) := by
  have hm : C₂.P.follows .mixedOrders = true := mixed
  rw [runF_eq] at hr
  cases h : run C₂ n f [] ⟨0, .lf⟩ with
  | none => rw [h] at hr; cases hr
  | some r =>
    obtain ⟨v, h'⟩ := r
    rw [h] at hr
    have hv : v = .bool true := by
      unfold isTrue at hr
      split at hr
      · rename_i he; simp only [Option.some.injEq, Prod.mk.injEq] at he; exact he.1
      · cases hr
    subst hv
    have := run_ok (C := C₂) hm told₂_ok h (Rel.empty w) (fun x hx => by cases hx)
    unfold CallOk at this
    refine Calls.mono this ?_
    rintro e w' ⟨c', rfl, _, _, hs⟩
    exact ⟨by simp [conc], kept_of_stp hs⟩

end Go.Proofs.YtdllelamfamfcaaGreat.Am
