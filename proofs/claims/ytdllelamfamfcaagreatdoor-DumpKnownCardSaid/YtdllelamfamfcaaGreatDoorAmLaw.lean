/- The abstract machine: a law without arguments that comes true under the evaluator. The Door's layers. -/
import Derived.Test.YtdllelamfamfcaaGreatDoorAmExt
import Derived.Test.YtdllelamfamfcaaGreatDoorAmDefer
import Derived.Test.YtdllelamfamfcaaGreatDoorAmAny
import Derived.Test.YtdllelamfamfcaaGreatDoorAmSk
import Derived.ProofKit
namespace Go.Proofs.YtdllelamfamfcaaGreatDoor.Am
open Go

/-- The functions that are told of themselves. -/
noncomputable def told₀ (f : Nat) : Option (List V → H → Option (V × H)) :=
  cond (Nat.beq f 34) (some toldMore) (cond (Nat.beq f 85) (some toldCmpS) (cond (Nat.beq f 70) (some toldCmp) (cond (Nat.beq f 151) (some toldBits) (cond (Nat.beq f 153) (some toldFrom) none))))

noncomputable def C₀ : Cfg := ⟨Tryz.prog, told₀⟩

/-- Some functions, all told in one way. -/
noncomputable def toldList (fs : List Nat) (t : Nat → List V → H → Option (V × H)) (rest : Nat → Option (List V → H → Option (V × H))) (f : Nat) : Option (List V → H → Option (V × H)) :=
  cond (inL fs f) (some (t f)) (rest f)

def isFn (P : Program) (f : Nat) : Bool := match P.funcs[f]? with
  | some fn => fn.body.isSome && !(fn.name == "runtime.NumGoroutine")
  | none => false

theorem toldList_ok {P : Program} {fs : List Nat} {t : Nat → List V → H → Option (V × H)} {rest : Nat → Option (List V → H → Option (V × H))} (hT : ToldOk ⟨P, rest⟩) (hf : fs.all (isFn P) = true)
    (ht : ∀ f, ∀ (args : List V) (σ : H) (v : V) (σ' : H), t f args σ = some (v, σ') → ∀ (c : Ctx) (w : World), Rel c σ w → (∀ x ∈ args, wf c x) → CallOk P f args c w v σ') : ToldOk ⟨P, toldList fs t rest⟩ := by
  intro f g hg
  simp only [toldList] at hg ⊢
  cases hi : inL fs f with
  | false => rw [hi, cond_false] at hg; exact hT f g hg
  | true =>
    rw [hi, cond_true] at hg
    simp only [Option.some.injEq] at hg
    subst hg
    refine .inl ⟨?_, ht f⟩
    have hm : f ∈ fs := by rw [inL_eq] at hi; simpa using hi
    have := List.all_eq_true.1 hf f hm
    unfold isFn at this
    split at this
    · rename_i fn hfn
      simp only [Bool.and_eq_true, Bool.not_eq_true'] at this
      exact ⟨fn, hfn, this.1, this.2⟩
    · cases this

/-- Functions that defer. -/
def deferFs : List Nat := [156, 100000000]
def deferFs2 : List Nat := [37, 74, 100000000]

theorem mixed : Tryz.prog.follows .mixedOrders = true := by kernel_rfl

theorem told₀_ok : ToldOk C₀ := by
  intro f g hg
  simp only [C₀, told₀] at hg ⊢
  by_cases h1 : f = 34
  · subst h1
    rw [beqT rfl, cond_true] at hg
    simp only [Option.some.injEq] at hg
    subst hg
    exact .inl ⟨⟨_, Tryz.func34, rfl, by decide⟩, fun args σ v σ' hr c w h hw => toldMore_ok (C := C₀) rfl mixed hr h hw⟩
  rw [beqF h1, cond_false] at hg
  by_cases h2 : f = 85
  · subst h2
    rw [beqT rfl, cond_true] at hg
    simp only [Option.some.injEq] at hg
    subst hg
    exact ext_one Tryz.func85 (by kernel_rfl) (by kernel_rfl) (by kernel_rfl) (e := Extern.BytealgCompare.compare) (by kernel_rfl) toldCmpS_ok
  rw [beqF h2, cond_false] at hg
  by_cases h3 : f = 70
  · subst h3
    rw [beqT rfl, cond_true] at hg
    simp only [Option.some.injEq] at hg
    subst hg
    exact ext_one Tryz.func70 (by kernel_rfl) (by kernel_rfl) (by kernel_rfl) (e := Extern.BytealgCompare.compare) (by kernel_rfl) toldCmpB_ok
  rw [beqF h3, cond_false] at hg
  by_cases h4 : f = 151
  · subst h4
    rw [beqT rfl, cond_true] at hg
    simp only [Option.some.injEq] at hg
    subst hg
    exact ext_one Tryz.func151 (by kernel_rfl) (by kernel_rfl) (by kernel_rfl) (e := Extern.MathFloatBits.float64bits) (by kernel_rfl) toldBits_ok
  rw [beqF h4, cond_false] at hg
  by_cases h5 : f = 153
  · subst h5
    rw [beqT rfl, cond_true] at hg
    simp only [Option.some.injEq] at hg
    subst hg
    exact ext_one Tryz.func153 (by kernel_rfl) (by kernel_rfl) (by kernel_rfl) (e := Extern.MathFloatBits.float64frombits) (by kernel_rfl) toldFrom_ok
  rw [beqF h5, cond_false] at hg
  cases hg

noncomputable def toldD : Nat → Option (List V → H → Option (V × H)) := toldList (deferFs.dropLast) (fun f => toldDefer C₀ 100000 f) told₀
noncomputable def CD : Cfg := ⟨Tryz.prog, toldD⟩
theorem toldD_ok : ToldOk CD :=
  toldList_ok (rest := told₀) told₀_ok (by kernel_rfl) fun f args σ v σ' hr c w h hw => toldDefer_ok (C := C₀) mixed told₀_ok hr h hw

noncomputable def told₂ : Nat → Option (List V → H → Option (V × H)) := toldList (deferFs2.dropLast) (fun f => toldDefer CD 100000 f) toldD
noncomputable def C₂ : Cfg := ⟨Tryz.prog, told₂⟩
theorem told₂_ok : ToldOk C₂ :=
  toldList_ok (rest := toldD) toldD_ok (by kernel_rfl) fun f args σ v σ' hr c w h hw => toldDefer_ok (C := CD) mixed toldD_ok hr h hw

/-- Nothing that lay before has turned. -/
theorem kept_of_stp {w w' : World} {c' : Ctx} (h : Stp ⟨fun _ => (0, 0), fun _ => 0, 0⟩ w c' w') : w.keptBut w' (fun _ => False) := by
  refine ⟨h.sys.1, h.sys.2, fun i hi => ?_⟩
  have : w'.heap[i]? = w.heap[i]? := h.keep i hi (fun id hid => absurd hid (Nat.not_lt_zero _))
  rw [this]
  split <;> simp_all

theorem law_walk {n f : Nat} (hr : isTrue (runF C₂ n f [] ⟨0, .lf⟩) = true) (w : World) :
    Calls Tryz.prog f #[] w fun e w' => e = .returned (.bool true) ∧ w.keptBut w' (fun _ => False) := by
  have hm : C₂.P.follows .mixedOrders = true := mixed
  rw [runF_eq] at hr
  cases h : run C₂ n f [] ⟨0, .lf⟩ with
  | none => rw [h] at hr; cases hr
  | some r =>
    obtain ⟨v, h'⟩ := r
    rw [h] at hr
    have hv : v = .bool true := by
      unfold isTrue at hr
      split at hr
      · rename_i he; simp only [Option.some.injEq, Prod.mk.injEq] at he; exact he.1
      · cases hr
    subst hv
    have := run_ok (C := C₂) hm told₂_ok h (Rel.empty w) (fun x hx => by cases hx)
    unfold CallOk at this
    refine Calls.mono this ?_
    rintro e w' ⟨c', rfl, _, _, hs⟩
    exact ⟨by simp [conc], kept_of_stp hs⟩

end Go.Proofs.YtdllelamfamfcaaGreatDoor.Am
