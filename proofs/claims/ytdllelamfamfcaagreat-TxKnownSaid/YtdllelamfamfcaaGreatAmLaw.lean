/- The abstract machine: a law without arguments that comes true under the evaluator. -/
import Derived.Test.YtdllelamfamfcaaGreatAmKeys
import Derived.Test.YtdllelamfamfcaaGreatAmWord
import Derived.Test.YtdllelamfamfcaaGreatAmDefer
import Derived.Test.YtdllelamfamfcaaGreatAmGood
import Derived.Test.YtdllelamfamfcaaGreatAmRanges
import Derived.Test.YtdllelamfamfcaaGreatAmRange
import Derived.Test.YtdllelamfamfcaaGreatAmAny
import Derived.Test.YtdllelamfamfcaaGreatAmCmp
import Derived.ProofKit
namespace Go.Proofs.YtdllelamfamfcaaGreat.Am
open Go

/-- One more, where the program has it. -/
noncomputable def toldX (f : Nat) : Option (List V → H → Option (V × H)) :=
  cond (Nat.beq f 141) (some toldCmp) none

/-- The functions that are told of themselves. -/
noncomputable def told₀ (f : Nat) : Option (List V → H → Option (V × H)) :=
  cond (Nat.beq f 114) (some (toldSorted iters)) (cond (Nat.beq f 244) (some toldMore) (cond (Nat.beq f 71) (some toldWord) (toldX f)))

noncomputable def C₀ : Cfg := ⟨Tryz.prog, told₀⟩

/-- Functions of which loops are told. -/
noncomputable def toldG (f : Nat) : Option (List V → H → Option (V × H)) :=
  cond (Nat.beq f 108) (some (toldSk C₀ 100000 5000 skGood 108)) (cond (Nat.beq f 181) (some (toldSk C₀ 100000 5000 skRanges 181)) (told₀ f))

noncomputable def CG : Cfg := ⟨Tryz.prog, toldG⟩

/-- Some functions, all told in one way. -/
noncomputable def toldList (fs : List Nat) (t : Nat → List V → H → Option (V × H)) (rest : Nat → Option (List V → H → Option (V × H))) (f : Nat) : Option (List V → H → Option (V × H)) :=
  cond (inL fs f) (some (t f)) (rest f)

def isFn (P : Program) (f : Nat) : Bool := match P.funcs[f]? with
  | some fn => fn.body.isSome && !(fn.name == "runtime.NumGoroutine")
  | none => false

theorem toldList_ok {P : Program} {fs : List Nat} {t : Nat → List V → H → Option (V × H)} {rest : Nat → Option (List V → H → Option (V × H))} (hT : ToldOk ⟨P, rest⟩) (hf : fs.all (isFn P) = true)
    (ht : ∀ f, ∀ (args : List V) (σ : H) (v : V) (σ' : H), t f args σ = some (v, σ') → ∀ (c : Ctx) (w : World), Rel c σ w → (∀ x ∈ args, wf c x) → CallOk P f args c w v σ') : ToldOk ⟨P, toldList fs t rest⟩ := by
  intro f g hg
  simp only [toldList] at hg ⊢
  cases hi : inL fs f with
  | false => rw [hi, cond_false] at hg; exact hT f g hg
  | true =>
    rw [hi, cond_true] at hg
    simp only [Option.some.injEq] at hg
    subst hg
    refine ⟨?_, ht f⟩
    have hm : f ∈ fs := by rw [inL_eq] at hi; simpa using hi
    have := List.all_eq_true.1 hf f hm
    unfold isFn at this
    split at this
    · rename_i fn hfn
      simp only [Bool.and_eq_true, Bool.not_eq_true'] at this
      exact ⟨fn, hfn, this.1, this.2⟩
    · cases this

/-- Functions with a range over a function. -/
def rangeFs : List Nat := [
  66,
  240,
  100000000]
/-- Functions that walk over maps. -/
def walkFs : List Nat := [
  161,
  206,
  100000000]
/-- Functions that defer. -/
def deferFs : List Nat := [
  16,
  166,
  103,
  212,
  100000000]
def deferFs2 : List Nat := [
  43,
  100000000]

noncomputable def toldR : Nat → Option (List V → H → Option (V × H)) := toldList (rangeFs.dropLast) (fun f => toldRange CG 100000 f) toldG
noncomputable def CR : Cfg := ⟨Tryz.prog, toldR⟩

noncomputable def toldH : Nat → Option (List V → H → Option (V × H)) := toldList (walkFs.dropLast) (fun f => toldAny CR 100000 1000 f) toldR
noncomputable def CH : Cfg := ⟨Tryz.prog, toldH⟩

noncomputable def told₁ (f : Nat) : Option (List V → H → Option (V × H)) :=
  cond (Nat.beq f 233) (some (toldParsed CG 100000)) (toldH f)

noncomputable def C₁ : Cfg := ⟨Tryz.prog, told₁⟩

theorem mixed : Tryz.prog.follows .mixedOrders = true := by kernel_rfl

theorem told₀_ok : ToldOk C₀ := by
  intro f g hg
  simp only [C₀, told₀] at hg ⊢
  by_cases h1 : f = 114
  · subst h1
    rw [beqT rfl, cond_true] at hg
    simp only [Option.some.injEq] at hg
    subst hg
    exact ⟨⟨_, Tryz.func114, rfl, by decide⟩, fun args σ v σ' hr c w h _ => toldSorted_ok Tryz.underlying3 sortsKeys hr h⟩
  · rw [beqF h1, cond_false] at hg
    by_cases h2 : f = 244
    · subst h2
      rw [beqT rfl, cond_true] at hg
      simp only [Option.some.injEq] at hg
      subst hg
      exact ⟨⟨_, Tryz.func244, rfl, by decide⟩, fun args σ v σ' hr c w h hw => toldMore_ok (C := C₀) rfl mixed hr h hw⟩
    · rw [beqF h2, cond_false] at hg
      by_cases h3 : f = 71
      · subst h3
        rw [beqT rfl, cond_true] at hg
        simp only [Option.some.injEq] at hg
        subst hg
        exact ⟨⟨_, Tryz.func71, rfl, by decide⟩, fun args σ v σ' hr c w h hw => toldWord_ok (C := C₀) rfl mixed hr h hw⟩
      · rw [beqF h3, cond_false] at hg
        unfold toldX at hg
        by_cases h4 : f = 141
        · subst h4
          rw [beqT rfl, cond_true] at hg
          simp only [Option.some.injEq] at hg
          subst hg
          exact ⟨⟨_, Tryz.func141, rfl, by decide⟩, fun args σ v σ' hr c w h hw => toldCmp_ok (C := C₀) rfl hr h hw⟩
        · rw [beqF h4, cond_false] at hg
          cases hg

theorem toldG_ok : ToldOk CG := by
  intro f g hg
  simp only [CG, toldG] at hg ⊢
  by_cases h1 : f = 108
  · subst h1
    rw [beqT rfl, cond_true] at hg
    simp only [Option.some.injEq] at hg
    subst hg
    refine ⟨⟨_, Tryz.func108, rfl, by decide⟩, fun args σ v σ' hr c w h hw => toldSk_ok (C := C₀) mixed told₀_ok (by kernel_rfl) (fun fn c hf hb => ?_) hr h hw⟩
    rw [show C₀.P.funcs[108]? = some Tryz.f108 from Tryz.func108] at hf
    simp only [Option.some.injEq] at hf
    subst hf
    rw [show Tryz.f108.body = some gBody from rfl] at hb
    simp only [Option.some.injEq] at hb
    subst hb
    exact skGood_ok
  · rw [beqF h1, cond_false] at hg
    by_cases h2 : f = 181
    · subst h2
      rw [beqT rfl, cond_true] at hg
      simp only [Option.some.injEq] at hg
      subst hg
      refine ⟨⟨_, Tryz.func181, rfl, by decide⟩, fun args σ v σ' hr c w h hw => toldSk_ok (C := C₀) mixed told₀_ok (by kernel_rfl) (fun fn c hf hb => ?_) hr h hw⟩
      rw [show C₀.P.funcs[181]? = some Tryz.f181 from Tryz.func181] at hf
      simp only [Option.some.injEq] at hf
      subst hf
      rw [show Tryz.f181.body = some aBody from rfl] at hb
      simp only [Option.some.injEq] at hb
      subst hb
      exact skRanges_ok
    · rw [beqF h2, cond_false] at hg
      exact told₀_ok f g hg

theorem toldR_ok : ToldOk CR :=
  toldList_ok (rest := toldG) toldG_ok (by kernel_rfl) fun f args σ v σ' hr c w h hw => toldRange_ok (C := CG) mixed toldG_ok hr h hw

theorem toldH_ok : ToldOk CH :=
  toldList_ok (rest := toldR) toldR_ok (by kernel_rfl) fun f args σ v σ' hr c w h hw => toldAny_ok (C := CR) mixed toldR_ok hr h hw

theorem told₁_ok : ToldOk C₁ := by
  intro f g hg
  simp only [C₁, told₁] at hg ⊢
  by_cases h1 : f = 233
  · subst h1
    rw [beqT rfl, cond_true] at hg
    simp only [Option.some.injEq] at hg
    subst hg
    exact ⟨⟨_, Tryz.func233, rfl, by decide⟩, fun args σ v σ' hr c w h hw => toldParsed_ok (C := CG) rfl mixed toldG_ok hr h hw⟩
  · rw [beqF h1, cond_false] at hg
    exact toldH_ok f g hg

noncomputable def toldD : Nat → Option (List V → H → Option (V × H)) := toldList (deferFs.dropLast) (fun f => toldDefer C₁ 100000 f) told₁
noncomputable def CD : Cfg := ⟨Tryz.prog, toldD⟩
theorem toldD_ok : ToldOk CD :=
  toldList_ok (rest := told₁) told₁_ok (by kernel_rfl) fun f args σ v σ' hr c w h hw => toldDefer_ok (C := C₁) mixed told₁_ok hr h hw

noncomputable def told₂ : Nat → Option (List V → H → Option (V × H)) := toldList (deferFs2.dropLast) (fun f => toldDefer CD 100000 f) toldD
noncomputable def C₂ : Cfg := ⟨Tryz.prog, told₂⟩
theorem told₂_ok : ToldOk C₂ :=
  toldList_ok (rest := toldD) toldD_ok (by kernel_rfl) fun f args σ v σ' hr c w h hw => toldDefer_ok (C := CD) mixed toldD_ok hr h hw

/-- Nothing that lay before has turned. -/
theorem kept_of_stp {w w' : World} {c' : Ctx} (h : Stp ⟨fun _ => (0, 0), fun _ => 0, 0⟩ w c' w') : w.keptBut w' (fun _ => False) := by
  refine ⟨h.sys.1, h.sys.2, fun i hi => ?_⟩
  have : w'.heap[i]? = w.heap[i]? := h.keep i hi (fun id hid => absurd hid (Nat.not_lt_zero _))
  rw [this]
  split <;> simp_all

theorem law_walk {n f : Nat} (hr : isTrue (runF C₂ n f [] ⟨0, .lf⟩) = true) (w : World) :
    Calls Tryz.prog f #[] w fun e w' => e = .returned (.bool true) ∧ w.keptBut w' (fun _ => False) := by
  have hm : C₂.P.follows .mixedOrders = true := mixed
  rw [runF_eq] at hr
  cases h : run C₂ n f [] ⟨0, .lf⟩ with
  | none => rw [h] at hr; cases hr
  | some r =>
    obtain ⟨v, h'⟩ := r
    rw [h] at hr
    have hv : v = .bool true := by
      unfold isTrue at hr
      split at hr
      · rename_i he; simp only [Option.some.injEq, Prod.mk.injEq] at he; exact he.1
      · cases hr
    subst hv
    have := run_ok (C := C₂) hm told₂_ok h (Rel.empty w) (fun x hx => by cases hx)
    unfold CallOk at this
    refine Calls.mono this ?_
    rintro e w' ⟨c', rfl, _, _, hs⟩
    exact ⟨by simp [conc], kept_of_stp hs⟩

end Go.Proofs.YtdllelamfamfcaaGreat.Am
