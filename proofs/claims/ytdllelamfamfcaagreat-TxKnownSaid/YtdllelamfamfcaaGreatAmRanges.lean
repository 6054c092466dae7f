/- The abstract machine: the equal bytes in atom.ranges, told. -/
import Derived.Test.YtdllelamfamfcaaGreatAmWord
import Derived.Test.YtdllelamfamfcaaGreatAmSk
namespace Go.Proofs.YtdllelamfamfcaaGreat.Am
open Go

/- A region of open order that turns no memory goes as in the text. -/
theorem effAt_cons {C : Cfg} {o : Oper} {l : List Oper} {k : Nat} (h : effAt C (o :: l) k = []) : isEff C o.op = false ∧ effAt C l (k + 1) = [] := by
  simp only [effAt] at h
  cases ho : isEff C o.op with
  | true => rw [ho] at h; cases h
  | false => rw [ho] at h; exact ⟨rfl, h⟩

theorem trace_pure {C : Cfg} {self : Self} {L : List Oper} {hs : List H} : ∀ (l : List Oper) (k : Nat) (s z : St), effAt C l k = [] → evOps C self L l s = some z →
    ∃ tr, trace C self L l s hs = some (tr, hs, z) ∧ tr.length = l.length := by
  intro l
  induction l with
  | nil => intro k s z _ hz; simp only [evOps, Option.some.injEq] at hz; subst hz; exact ⟨[], rfl, rfl⟩
  | cons o l ih =>
    intro k s z he hz
    obtain ⟨ho, he'⟩ := effAt_cons he
    simp only [evOps] at hz
    simp only [trace, ho, cond_false]
    cases hw : wantedV L s.env o with
    | true =>
      simp only [hw, cond_true] at hz ⊢
      cases hv : evOp C self s.env s.h o with
      | none => simp [hv] at hz
      | some q =>
        obtain ⟨v, h⟩ := q
        simp only [hv] at hz ⊢
        cases hp : s.put o.dst v h with
        | none => simp [hp] at hz
        | some s' =>
          simp only [hp] at hz ⊢
          obtain ⟨tr, htr, hl⟩ := ih (k + 1) s' z he' hz
          rw [htr]
          exact ⟨_, rfl, by simp [hl]⟩
    | false =>
      simp only [hw, cond_false] at hz ⊢
      cases hp : s.put o.dst undefV s.h with
      | none => simp [hp] at hz
      | some s' =>
        simp only [hp] at hz ⊢
        obtain ⟨tr, htr, hl⟩ := ih (k + 1) s' z he' hz
        rw [htr]
        exact ⟨_, rfl, by simp [hl]⟩

theorem stay_pure {C : Cfg} {self : Self} {L : List Oper} {aa : List Nat} {hs : List H} : ∀ (l : List Oper) (tr : List (Env × V)) (i k : Nat), effAt C l k = [] → tr.length = l.length →
    stayOk C self L aa [] hs l tr i = true := by
  intro l
  induction l with
  | nil => intro tr i k _ hl; cases tr with
    | nil => rfl
    | cons _ _ => simp at hl
  | cons o l ih =>
    intro tr i k he hl
    obtain ⟨ho, he'⟩ := effAt_cons he
    cases tr with
    | nil => simp at hl
    | cons x tr =>
      simp only [stayOk, ho, cond_false, loGap, loOf, hiOf, Nat.beq_refl, Bool.and_self, cond_true]
      exact ih tr (i + 1) (k + 1) he' (by simpa using hl)

theorem evDraw_pure {C : Cfg} {self : Self} {L : List Oper} {s z : St} (hst : staticOk C L = true) (he : effAt C L 0 = []) (hz : evOps C self L L s = some z) : evDraw C self L s = some z := by
  obtain ⟨tr, htr, hl⟩ := trace_pure (hs := [s.h]) L 0 s z he hz
  simp only [evDraw, hst, cond_true, htr, he, stay_pure L tr 0 0 he hl]

/- The nesting: R0 ; (R1 ; ((R2 ; B0[L[outer]]) ; ..)); outer = (R3 ; if) ; B1[(R4 drawn ; if{(R5 ; x1)|skip}) ; ..] -/
noncomputable def aBody : Code := (Tryz.f181.body).getD .skip
noncomputable def aOuter : Code := unloop (unblk (rightC (leftC (rightC (rightC aBody)))))
noncomputable def aR3 : Code := leftC (leftC aOuter)
noncomputable def aStep : Code := unblk (rightC aOuter)
noncomputable def aR4 : Code := leftC (leftC aStep)
noncomputable def aIf : Code := rightC (leftC aStep)
noncomputable def aTake : Code := match aIf with
  | .cond _ a _ => a
  | c => c
noncomputable def aR5 : Code := leftC aTake
theorem aOuter_eq : aOuter = .seq (.seq aR3 (.cond (.tmp 14) .skip (.exit 0))) (.block 1 aStep) := rfl
theorem aStep_eq : aStep = .seq (.seq aR4 (.cond (.tmp 23) (.seq aR5 (.exit 1)) .skip)) (rightC aStep) := rfl

noncomputable def aOps : List Oper := match aR4 with
  | .region _ ops _ => ops.toList
  | _ => []
theorem aR4_eq : ∃ id ops, aR4 = .region id ops true ∧ ops.toList = aOps := ⟨_, _, rfl, rfl⟩

def aLook (i len : Nat) (x : V) : List (Nat × V) := [(11, .int .i64 i), (12, x), (13, .int .i64 len), (14, .bool true)]
def aCmp (i id₁ o₁ id₂ o₂ a : Nat) (x y : V) : List (Nat × V) :=
  [(15, y), (16, .int .i64 i), (17, .ptr id₁ (o₁ + i)), (18, .int .u8 a), (19, x), (20, .int .i64 i), (21, .ptr id₂ (o₂ + i)), (22, .int .u8 a), (23, .bool true)]
def aNext (i : Nat) : List (Nat × V) := [(24, .int .i64 i), (25, .int .i64 ((i + 1 : Nat) : Int)), (8, .int .i64 ((i + 1 : Nat) : Int))]
def aRound (i len id₁ o₁ id₂ o₂ a : Nat) (x y : V) : List (Nat × V) :=
  [(11, .int .i64 i), (12, x), (13, .int .i64 len), (14, .bool true), (15, y), (16, .int .i64 i), (17, .ptr id₁ (o₁ + i)), (18, .int .u8 a), (19, x), (20, .int .i64 i), (21, .ptr id₂ (o₂ + i)), (22, .int .u8 a), (23, .bool true),
   (24, .int .i64 i), (25, .int .i64 ((i + 1 : Nat) : Int)), (8, .int .i64 ((i + 1 : Nat) : Int))]
theorem aRound_eq (e : Env) (i len id₁ o₁ id₂ o₂ a : Nat) (x y : V) : setL e (aRound i len id₁ o₁ id₂ o₂ a x y) = setL (setL (setL e (aLook i len x)) (aCmp i id₁ o₁ id₂ o₂ a x y)) (aNext i) := rfl

noncomputable def sameU8 (x y : V) : Bool := match x, y with
  | .int .u8 (.ofNat a), .int .u8 (.ofNat b) => Nat.beq a b
  | _, _ => false
theorem sameU8_iff {x y : V} (h : sameU8 x y = true) : ∃ a : Nat, x = .int .u8 a ∧ y = .int .u8 a := by
  unfold sameU8 at h
  split at h
  · rename_i a b
    have : a = b := beq_iff.1 h
    subst this
    exact ⟨a, rfl, rfl⟩
  · cases h

/-- How many cells are the same byte, from the first on, and at most so many. -/
noncomputable def eqRun (l : List V) : List V → Nat → Nat := List.rec (motive := fun _ => List V → Nat → Nat) (fun _ _ => 0)
  (fun x _ ih m k => List.rec (motive := fun _ => Nat) 0 (fun y m' _ => cond (Nat.beq k 0) 0 (cond (sameU8 x y) (Nat.succ (ih m' (Nat.pred k))) 0)) m) l

theorem eqRun_ok : ∀ (l m : List V) (k j : Nat), j < eqRun l m k → j < k ∧ ∃ a : Nat, l[j]? = some (.int .u8 a) ∧ m[j]? = some (.int .u8 a) := by
  intro l
  induction l with
  | nil => intro m k j h; exact absurd h (Nat.not_lt_zero j)
  | cons x l ih =>
    intro m k j h
    cases m with
    | nil => exact absurd h (Nat.not_lt_zero j)
    | cons y m =>
      have h' : j < cond (Nat.beq k 0) 0 (cond (sameU8 x y) (Nat.succ (eqRun l m (Nat.pred k))) 0) := h
      cases k with
      | zero => exact absurd h' (Nat.not_lt_zero j)
      | succ k =>
        have h2 : j < cond (sameU8 x y) (Nat.succ (eqRun l m k)) 0 := h'
        cases hs : sameU8 x y with
        | false => rw [hs] at h2; exact absurd h2 (Nat.not_lt_zero j)
        | true =>
          rw [hs, cond_true] at h2
          obtain ⟨a, rfl, rfl⟩ := sameU8_iff hs
          cases j with
          | zero => exact ⟨Nat.succ_pos k, a, rfl, rfl⟩
          | succ j =>
            obtain ⟨h3, b, h4, h5⟩ := ih m k j (Nat.lt_of_succ_lt_succ h2)
            exact ⟨Nat.succ_lt_succ h3, b, by simpa using h4, by simpa using h5⟩

noncomputable def skipAt (env : Env) (h : H) (i len id₁ o₁ id₂ o₂ : Nat) (x y : V) (cs : List V) (m : Nat) : Option St :=
  Nat.rec (motive := fun _ => Option St) none (fun m _ => match nth cs (o₁ + (i + m)) with
    | some (.int .u8 (.ofNat a)) => some ⟨setL env (aRound (i + m) len id₁ o₁ id₂ o₂ a x y), 71, h⟩
    | _ => none) m

noncomputable def skipRanges (s : St) : Option St := match T.get s.env 8, T.get s.env 1, T.get s.env 2 with
  | some (.int .i64 (.ofNat i)), some (.sl id₁ o₁ l₁ c₁), some (.sl id₂ o₂ l₂ c₂) =>
    cond (Nat.beq s.ntm 71 && Nat.ble l₂ 1048576) (match T.get s.h.tr id₁, T.get s.h.tr id₂ with
      | some (.cells _ cs₁ _), some (.cells _ cs₂ _) => skipAt s.env s.h i l₂ id₁ o₁ id₂ o₂ (.sl id₂ o₂ l₂ c₂) (.sl id₁ o₁ l₁ c₁) cs₁ (eqRun (cs₁.drop (o₁ + i)) (cs₂.drop (o₂ + i)) (Nat.min (l₁ - i) (l₂ - i)))
      | _, _ => none) none
  | _, _, _ => none

section
variable {told : Nat → Option (List V → H → Option (V × H))} (n : Nat) (env : Env) (h : H)

theorem a3_run {i id o len : Nat} {c : Cap} (hi : i < len) (h8 : T.get env 8 = some (.int .i64 i)) (h2 : T.get env 2 = some (.sl id o len c)) :
    ev ⟨Tryz.prog, told⟩ (n + 1) aR3 ⟨env, 71, h⟩ = some (.normal, ⟨setL env (aLook i len (.sl id o len c)), 71, h⟩) := by
  simp only [aR3, aOuter, aBody, Tryz.f181, Option.getD_some, leftC, rightC, unblk, unloop, ev_succ, evStep, cond_false]
  rw [evOps_cons rfl rfl rfl]
  simp only [evOp, evO, Env.v, h8, pureV, Option.bind_some]
  rw [evOps_cons rfl rfl rfl]
  have g2 : T.get (env.set 11 (some (.int .i64 i))) 2 = some (.sl id o len c) := by simp [get_set, h2]
  simp only [evOp, evO, Env.v, g2, pureV, Option.bind_some]
  rw [evOps_cons rfl rfl rfl]
  have hl : lenV Tryz.prog h 38 (.sl id o len c) = some (.int .i64 len) := by simp [lenV, Tryz.underlying38]
  simp only [evOp, evCall, evArgs, evO, Env.v, get_set, if_true, builtinV, hl, Option.map_some, Option.bind_some]
  rw [evOps_cons rfl rfl rfl]
  have g11 : T.get (((env.set 11 (some (.int .i64 i))).set 12 (some (.sl id o len c))).set 13 (some (.int .i64 len))) 11 = some (.int .i64 i) := by simp [get_set]
  have g13 : T.get (((env.set 11 (some (.int .i64 i))).set 12 (some (.sl id o len c))).set 13 (some (.int .i64 len))) 13 = some (.int .i64 len) := by simp [get_set]
  have hd : decide ((i : Int) < (len : Int)) = true := by simp; exact hi
  simp only [evOp, evO, Env.v, g11, g13, binV, ikBeq, cond_true, intV, hd, pureV, Option.bind_some, evOps, aLook, setL]

theorem addr_byte {id o len i : Nat} {c : Cap} (hi : i < len) : indexAddrV Tryz.prog 38 (.sl id o len c) (.int .i64 i) = some (.ptr id (o + i)) := by
  have d1 : decide ((0 : Int) ≤ (i : Int)) = true := by simp
  have d2 : decide ((i : Int) < (len : Int)) = true := by simp; exact hi
  simp only [indexAddrV, Tryz.underlying38, sizeT_u8, d1, d2, Bool.and_self, cond_true, Int.toNat_natCast, Nat.mul_one]

theorem a4_run {i id₁ o₁ l₁ id₂ o₂ l₂ a : Nat} {c₁ c₂ : Cap} (hi₁ : i < l₁) (hi₂ : i < l₂) (h8 : T.get env 8 = some (.int .i64 i)) (h1 : T.get env 1 = some (.sl id₁ o₁ l₁ c₁)) (h2 : T.get env 2 = some (.sl id₂ o₂ l₂ c₂))
    (hb₁ : rd1 h id₁ (o₁ + i) = some (.int .u8 a)) (hb₂ : rd1 h id₂ (o₂ + i) = some (.int .u8 a)) :
    ev ⟨Tryz.prog, told⟩ (n + 1) aR4 ⟨env, 71, h⟩ = some (.normal, ⟨setL env (aCmp i id₁ o₁ id₂ o₂ a (.sl id₂ o₂ l₂ c₂) (.sl id₁ o₁ l₁ c₁)), 71, h⟩) := by
  have hz : ∀ self, evOps ⟨Tryz.prog, told⟩ self aOps aOps ⟨env, 71, h⟩ = some ⟨setL env (aCmp i id₁ o₁ id₂ o₂ a (.sl id₂ o₂ l₂ c₂) (.sl id₁ o₁ l₁ c₁)), 71, h⟩ := by
    intro self
    simp only [aOps, aR4, aStep, aOuter, aBody, Tryz.f181, Option.getD_some, leftC, rightC, unblk, unloop]
    rw [evOps_cons rfl rfl rfl]
    simp only [evOp, evO, Env.v, h1, pureV, Option.bind_some]
    rw [evOps_cons rfl rfl rfl]
    have g8 : T.get (env.set 15 (some (.sl id₁ o₁ l₁ c₁))) 8 = some (.int .i64 i) := by simp [get_set, h8]
    simp only [evOp, evO, Env.v, g8, pureV, Option.bind_some]
    rw [evOps_cons rfl rfl rfl]
    have g15 : T.get ((env.set 15 (some (.sl id₁ o₁ l₁ c₁))).set 16 (some (.int .i64 i))) 15 = some (.sl id₁ o₁ l₁ c₁) := by simp [get_set]
    have g16 : T.get ((env.set 15 (some (.sl id₁ o₁ l₁ c₁))).set 16 (some (.int .i64 i))) 16 = some (.int .i64 i) := by simp [get_set]
    simp only [evOp, evO, Env.v, g15, g16, addr_byte hi₁, pureV, Option.bind_some]
    rw [evOps_cons rfl rfl rfl]
    simp only [evOp, evO, Env.v, get_set, if_true, loadV, aggT_u8, hb₁, pureV, Option.bind_some]
    rw [evOps_cons rfl rfl rfl]
    have g2 : T.get ((((env.set 15 (some (.sl id₁ o₁ l₁ c₁))).set 16 (some (.int .i64 i))).set 17 (some (.ptr id₁ (o₁ + i)))).set 18 (some (.int .u8 a))) 2 = some (.sl id₂ o₂ l₂ c₂) := by simp [get_set, h2]
    simp only [evOp, evO, Env.v, g2, pureV, Option.bind_some]
    rw [evOps_cons rfl rfl rfl]
    have g8 : T.get (((((env.set 15 (some (.sl id₁ o₁ l₁ c₁))).set 16 (some (.int .i64 i))).set 17 (some (.ptr id₁ (o₁ + i)))).set 18 (some (.int .u8 a))).set 19 (some (.sl id₂ o₂ l₂ c₂))) 8 = some (.int .i64 i) := by simp [get_set, h8]
    simp only [evOp, evO, Env.v, g8, pureV, Option.bind_some]
    rw [evOps_cons rfl rfl rfl]
    have g19 : T.get ((((((env.set 15 (some (.sl id₁ o₁ l₁ c₁))).set 16 (some (.int .i64 i))).set 17 (some (.ptr id₁ (o₁ + i)))).set 18 (some (.int .u8 a))).set 19 (some (.sl id₂ o₂ l₂ c₂))).set 20 (some (.int .i64 i))) 19 = some (.sl id₂ o₂ l₂ c₂) := by simp [get_set]
    have g20 : T.get ((((((env.set 15 (some (.sl id₁ o₁ l₁ c₁))).set 16 (some (.int .i64 i))).set 17 (some (.ptr id₁ (o₁ + i)))).set 18 (some (.int .u8 a))).set 19 (some (.sl id₂ o₂ l₂ c₂))).set 20 (some (.int .i64 i))) 20 = some (.int .i64 i) := by simp [get_set]
    simp only [evOp, evO, Env.v, g19, g20, addr_byte hi₂, pureV, Option.bind_some]
    rw [evOps_cons rfl rfl rfl]
    simp only [evOp, evO, Env.v, get_set, if_true, loadV, aggT_u8, hb₂, pureV, Option.bind_some]
    rw [evOps_cons rfl rfl rfl]
    have g18 : T.get ((((((((env.set 15 (some (.sl id₁ o₁ l₁ c₁))).set 16 (some (.int .i64 i))).set 17 (some (.ptr id₁ (o₁ + i)))).set 18 (some (.int .u8 a))).set 19 (some (.sl id₂ o₂ l₂ c₂))).set 20 (some (.int .i64 i))).set 21 (some (.ptr id₂ (o₂ + i)))).set 22 (some (.int .u8 a))) 18 = some (.int .u8 a) := by simp [get_set]
    have g22 : T.get ((((((((env.set 15 (some (.sl id₁ o₁ l₁ c₁))).set 16 (some (.int .i64 i))).set 17 (some (.ptr id₁ (o₁ + i)))).set 18 (some (.int .u8 a))).set 19 (some (.sl id₂ o₂ l₂ c₂))).set 20 (some (.int .i64 i))).set 21 (some (.ptr id₂ (o₂ + i)))).set 22 (some (.int .u8 a))) 22 = some (.int .u8 a) := by simp [get_set]
    have hb : intBeq (a : Int) (a : Int) = true := Nat.beq_refl a
    simp only [evOp, evO, Env.v, g18, g22, binV, ikBeq, cond_true, intV, hb, pureV, Option.bind_some, evOps, aCmp, setL]
  obtain ⟨id, ops, hc, ho⟩ := aR4_eq
  have hst : staticOk ⟨Tryz.prog, told⟩ aOps = true := by kernel_rfl
  have he : effAt ⟨Tryz.prog, told⟩ aOps 0 = [] := by kernel_rfl
  rw [hc, ev_succ]
  simp only [evStep, cond_true, ho]
  rw [evDraw_pure hst he (hz _)]

theorem a5_run {i : Nat} (hi : i < 9223372036854775807) (h8 : T.get env 8 = some (.int .i64 i)) :
    ev ⟨Tryz.prog, told⟩ (n + 1) aR5 ⟨env, 71, h⟩ = some (.normal, ⟨setL env (aNext i), 71, h⟩) := by
  simp only [aR5, aTake, aIf, aStep, aOuter, aBody, Tryz.f181, Option.getD_some, leftC, rightC, unblk, unloop, ev_succ, evStep, cond_false]
  rw [evOps_cons rfl rfl rfl]
  simp only [evOp, evO, Env.v, h8, pureV, Option.bind_some]
  rw [evOps_cons rfl rfl rfl]
  have g24 : T.get (env.set 24 (some (.int .i64 i))) 24 = some (.int .i64 i) := by simp [get_set]
  simp only [evOp, evO, Env.v, g24, ofValue, ofScalar, binV, ikBeq, cond_true, intV_add1 hi, pureV, Option.bind_some]
  rw [evOps_cons rfl rfl rfl]
  simp only [evOp, evO, Env.v, get_set, if_true, pureV, Option.bind_some, evOps, aNext, setL]

theorem a_round {i id₁ o₁ l₁ id₂ o₂ l₂ a : Nat} {c₁ c₂ : Cap} (hi₁ : i < l₁) (hi₂ : i < l₂) (hl : l₂ ≤ 1048576) (h8 : T.get env 8 = some (.int .i64 i)) (h1 : T.get env 1 = some (.sl id₁ o₁ l₁ c₁)) (h2 : T.get env 2 = some (.sl id₂ o₂ l₂ c₂))
    (hb₁ : rd1 h id₁ (o₁ + i) = some (.int .u8 a)) (hb₂ : rd1 h id₂ (o₂ + i) = some (.int .u8 a)) :
    ev ⟨Tryz.prog, told⟩ (n + 10) aOuter ⟨env, 71, h⟩ = some (.normal, ⟨setL env (aRound i l₂ id₁ o₁ id₂ o₂ a (.sl id₂ o₂ l₂ c₂) (.sl id₁ o₁ l₁ c₁)), 71, h⟩) := by
  have q3 := a3_run (told := told) (n + 7) env h hi₂ h8 h2
  have q4 := a4_run (told := told) (c₁ := c₁) (c₂ := c₂) (n + 5) (setL env (aLook i l₂ (.sl id₂ o₂ l₂ c₂))) h hi₁ hi₂ (by simp [aLook, setL, get_set, h8]) (by simp [aLook, setL, get_set, h1]) (by simp [aLook, setL, get_set, h2]) hb₁ hb₂
  have q5 := a5_run (told := told) (n + 3) (setL (setL env (aLook i l₂ (.sl id₂ o₂ l₂ c₂))) (aCmp i id₁ o₁ id₂ o₂ a (.sl id₂ o₂ l₂ c₂) (.sl id₁ o₁ l₁ c₁))) h (show i < 9223372036854775807 by omega) (by simp [aLook, aCmp, setL, get_set, h8])
  rw [aOuter_eq, ev_seq (s' := ⟨setL env (aLook i l₂ (.sl id₂ o₂ l₂ c₂)), 71, h⟩) (by
    rw [ev_seq q3, ev_cond (t := true) (by simp [evO, Env.v, aLook, setL, get_set])]; rfl), aRound_eq]
  refine ev_block_exit ?_
  rw [aStep_eq]
  refine ev_seq_exit ?_
  rw [ev_seq q4, ev_cond (t := true) (by simp [evO, Env.v, aCmp, setL, get_set]), cond_true, ev_seq q5]
  rfl

theorem a_loop {id₁ o₁ l₁ id₂ o₂ l₂ : Nat} {c₁ c₂ : Cap} (hl : l₂ ≤ 1048576) {r : Ex × St} : ∀ (m i n : Nat) (env : Env) (a : Nat), i + m < l₁ → i + m < l₂ →
    T.get env 8 = some (.int .i64 i) → T.get env 1 = some (.sl id₁ o₁ l₁ c₁) → T.get env 2 = some (.sl id₂ o₂ l₂ c₂) →
    (∀ j, j < m + 1 → ∃ b : Nat, rd1 h id₁ (o₁ + (i + j)) = some (.int .u8 b) ∧ rd1 h id₂ (o₂ + (i + j)) = some (.int .u8 b)) → rd1 h id₁ (o₁ + (i + m)) = some (.int .u8 a) →
    ev ⟨Tryz.prog, told⟩ n (.loop aOuter) ⟨setL env (aRound (i + m) l₂ id₁ o₁ id₂ o₂ a (.sl id₂ o₂ l₂ c₂) (.sl id₁ o₁ l₁ c₁)), 71, h⟩ = some r →
    ev ⟨Tryz.prog, told⟩ (n + 10 + (m + 1)) (.loop aOuter) ⟨env, 71, h⟩ = some r := by
  intro m
  induction m with
  | zero =>
    intro i n env a hi₁ hi₂ h8 h1 h2 hb ha hr
    obtain ⟨b, hb1, hb2⟩ := hb 0 (by omega)
    rw [Nat.add_zero] at hb1 hb2 ha hr
    rw [hb1] at ha
    have hba : b = a := by
      simp only [Option.some.injEq, V.int.injEq, true_and] at ha
      exact Int.ofNat.inj ha
    subst hba
    rw [show n + 10 + (0 + 1) = (n + 10) + 1 from by omega, ev_loop (a_round (told := told) n env h (by omega) (by omega) hl h8 h1 h2 hb1 hb2)]
    exact ev_mono (by omega) _ _ _ hr
  | succ m ih =>
    intro i n env a hi₁ hi₂ h8 h1 h2 hb ha hr
    obtain ⟨b, hb1, hb2⟩ := hb 0 (by omega)
    rw [Nat.add_zero] at hb1 hb2
    have q := a_round (told := told) (c₁ := c₁) (c₂ := c₂) (n + (m + 1)) env h (show i < l₁ by omega) (show i < l₂ by omega) hl h8 h1 h2 hb1 hb2
    rw [show n + 10 + (m + 1 + 1) = (n + (m + 1) + 10) + 1 from by omega, ev_loop q, show n + (m + 1) + 10 = n + 10 + (m + 1) from by omega]
    refine ih (i + 1) n _ a (by omega) (by omega) (by simp [aRound, setL, get_set]) (by simp [aRound, setL, get_set, h1]) (by simp [aRound, setL, get_set, h2]) (fun j hj => ?_) (by rw [show i + 1 + m = i + (m + 1) from by omega]; exact ha) ?_
    · obtain ⟨d, hd⟩ := hb (j + 1) (by omega)
      rw [show i + (j + 1) = i + 1 + j from by omega] at hd
      exact ⟨d, hd⟩
    · rw [setL_setL (aRound i l₂ id₁ o₁ id₂ o₂ b (.sl id₂ o₂ l₂ c₂) (.sl id₁ o₁ l₁ c₁)) (aRound (i + 1 + m) l₂ id₁ o₁ id₂ o₂ a (.sl id₂ o₂ l₂ c₂) (.sl id₁ o₁ l₁ c₁)) env rfl (by simp [aRound]), show i + 1 + m = i + (m + 1) from by omega]
      exact hr
end

theorem skipRanges_ok {told : Nat → Option (List V → H → Option (V × H))} {s s' : St} (hp : skipRanges s = some s') {N : Nat} {r : Ex × St} (hr : ev ⟨Tryz.prog, told⟩ N (.loop aOuter) s' = some r) :
    ∃ M, ev ⟨Tryz.prog, told⟩ M (.loop aOuter) s = some r := by
  obtain ⟨env, ntm, h⟩ := s
  unfold skipRanges at hp
  simp only at hp
  split at hp
  · rename_i i id₁ o₁ l₁ c₁ id₂ o₂ l₂ c₂ h8 h1 h2
    cases hc : (Nat.beq ntm 71 && Nat.ble l₂ 1048576) with
    | false => rw [hc] at hp; cases hp
    | true =>
      rw [hc, cond_true] at hp
      simp only [Bool.and_eq_true, beq_iff, ble_iff] at hc
      obtain ⟨rfl, hl⟩ := hc
      split at hp
      · rename_i n₁ cs₁ st₁ n₂ cs₂ st₂ hM₁ hM₂
        have hq := eqRun_ok (cs₁.drop (o₁ + i)) (cs₂.drop (o₂ + i)) (Nat.min (l₁ - i) (l₂ - i))
        generalize eqRun (cs₁.drop (o₁ + i)) (cs₂.drop (o₂ + i)) (Nat.min (l₁ - i) (l₂ - i)) = e at hp hq
        cases e with
        | zero => cases hp
        | succ m =>
          have hp' : (match nth cs₁ (o₁ + (i + m)) with
            | some (.int .u8 (.ofNat a)) => some (⟨setL env (aRound (i + m) l₂ id₁ o₁ id₂ o₂ a (.sl id₂ o₂ l₂ c₂) (.sl id₁ o₁ l₁ c₁)), 71, h⟩ : St)
            | _ => none) = some s' := hp
          split at hp'
          · rename_i a ha
            simp only [Option.some.injEq] at hp'
            subst hp'
            have hmin := (hq m (Nat.lt_succ_self m)).1
            have hm1 : m < l₁ - i := Nat.lt_of_lt_of_le hmin (Nat.min_le_left _ _)
            have hm2 : m < l₂ - i := Nat.lt_of_lt_of_le hmin (Nat.min_le_right _ _)
            refine ⟨N + 10 + (m + 1), a_loop h hl m i N env a (by omega) (by omega) h8 h1 h2 (fun j hj => ?_) (by simp only [rd1, hM₁]; exact ha) hr⟩
            obtain ⟨_, b, hb1, hb2⟩ := hq j hj
            refine ⟨b, ?_, ?_⟩
            · simp only [rd1, hM₁, nth_eq]
              rw [List.getElem?_drop] at hb1
              rw [show o₁ + (i + j) = o₁ + i + j from by omega]
              exact hb1
            · simp only [rd1, hM₂, nth_eq]
              rw [List.getElem?_drop] at hb2
              rw [show o₂ + (i + j) = o₂ + i + j from by omega]
              exact hb2
          · cases hp'
      · cases hp
  · cases hp

/-- The shape of atom.ranges. -/
noncomputable def skRanges : Sk := .seq .leaf (.seq .leaf (.seq (.seq .leaf (.block (.loopS skipRanges .leaf))) .leaf))

theorem skRanges_ok {told : Nat → Option (List V → H → Option (V × H))} : SkOk ⟨Tryz.prog, told⟩ skRanges aBody := by
  refine ⟨trivial, trivial, ⟨trivial, ?_⟩, trivial⟩
  intro i b hb
  rw [show Code.blkK (Code.rightK (Code.leftK (Code.rightK (Code.rightK aBody)))) = some (0, .loop aOuter) from rfl] at hb
  simp only [Option.some.injEq, Prod.mk.injEq] at hb
  obtain ⟨_, rfl⟩ := hb
  intro b hb
  simp only [Code.loopK, Option.some.injEq] at hb
  subst hb
  exact ⟨trivial, fun s s' hp N r hr => skipRanges_ok hp hr⟩

end Go.Proofs.YtdllelamfamfcaaGreat.Am
