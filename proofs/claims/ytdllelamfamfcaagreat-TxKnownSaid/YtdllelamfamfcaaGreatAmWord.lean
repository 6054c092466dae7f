/- The abstract machine: the number of bytes, told. -/
import Derived.Test.YtdllelamfamfcaaGreatAmMore
namespace Go.Proofs.YtdllelamfamfcaaGreat.Am
open Go

def wordGo : Nat → Int → List V → Option Int
  | _, n, [] => some n
  | i, n, .int .u8 b :: l => match shiftV .shl .u64 (IntKind.wrap .u64 b) (IntKind.wrap .i64 (8 * (i : Int))) with
    | some (.int .u64 s) => match bitsV .or .u64 n s with
      | some (.int .u64 m) => wordGo (i + 1) m l
      | _ => none
    | _ => none
  | _, _, _ => none

noncomputable def toldWord : List V → H → Option (V × H)
  | [.sl id off len _], h => cond (Nat.ble len 1048576) (match rdN h id off len with
    | some cs => match wordGo 0 0 cs with
      | some n => some (.int .u64 n, h)
      | none => none
    | none => none) none
  | _, _ => none

noncomputable def wBody : Code := (Tryz.f71.body).getD .skip
noncomputable def wLoop : Code := unloop (unblk (rightC (leftC (rightC (rightC wBody)))))
noncomputable def wR3 : Code := leftC wLoop
noncomputable def wRest : Code := rightC (rightC wLoop)
noncomputable def wR4 : Code := leftC (unblk (leftC wRest))
noncomputable def wR5 : Code := rightC (unblk (leftC wRest))
noncomputable def wR6 : Code := rightC wRest
noncomputable def wR0 : Code := leftC wBody
noncomputable def wR1 : Code := leftC (rightC wBody)
noncomputable def wR2 : Code := leftC (leftC (rightC (rightC wBody)))
noncomputable def wEnd : Code := rightC (rightC (rightC wBody))
theorem wBody_eq : wBody = .seq wR0 (.seq wR1 (.seq (.seq wR2 (.block 0 (.loop wLoop))) wEnd)) := rfl
theorem wLoop_eq : wLoop = .seq wR3 (.seq (.cond (.tmp 9) .skip (.exit 0)) wRest) := rfl
theorem wRest_eq : wRest = .seq (.block 1 (.seq wR4 wR5)) wR6 := rfl

section
variable {told : Nat → Option (List V → H → Option (V × H))} (n : Nat) (env : Env) (h : H)

theorem w3_run {i len : Nat} (h8 : T.get env 8 = some (.int .i64 i)) (h7 : T.get env 7 = some (.int .i64 len)) :
    ev ⟨Tryz.prog, told⟩ (n + 1) wR3 ⟨env, 22, h⟩ = some (.normal, ⟨env.set 9 (some (.bool (decide ((i : Int) < (len : Int))))), 22, h⟩) := by
  simp only [wR3, wLoop, wBody, Tryz.f71, Option.getD_some, leftC, rightC, unblk, unloop, ev_succ, evStep, cond_false]
  rw [evOps_cons rfl rfl rfl]
  simp only [evOp, evO, Env.v, h7, h8, binV, ikBeq, cond_true, intV, pureV, Option.bind_some, evOps]

theorem w4_run {i id off len : Nat} {b : Int} {cap : Cap} (hi : i < len) (h8 : T.get env 8 = some (.int .i64 i)) (h6 : T.get env 6 = some (.sl id off len cap)) (hb : rd1 h id (off + i) = some (.int .u8 b)) :
    ∃ e', ev ⟨Tryz.prog, told⟩ (n + 1) wR4 ⟨env, 22, h⟩ = some (.normal, ⟨e', 22, h⟩) ∧ T.get e' 5 = some (.int .u8 b) ∧ T.get e' 4 = some (.int .i64 i) ∧ ∀ t, t ≠ 4 → t ≠ 5 → t ≠ 10 → t ≠ 11 → t ≠ 12 → T.get e' t = T.get env t := by
  refine ⟨((((env.set 10 (some (.int .i64 i))).set 11 (some (.ptr id (off + i)))).set 12 (some (.int .u8 b))).set 4 (some (.int .i64 i))).set 5 (some (.int .u8 b)), ?_, by simp [get_set], by simp [get_set], fun t h1 h2 h3 h4 h5 => by simp [get_set, h1, h2, h3, h4, h5]⟩
  simp only [wR4, wRest, wLoop, wBody, Tryz.f71, Option.getD_some, leftC, rightC, unblk, unloop, ev_succ, evStep, cond_false]
  rw [evOps_cons rfl rfl rfl]
  simp only [evOp, evO, Env.v, h8, pureV, Option.bind_some]
  rw [evOps_cons rfl rfl rfl]
  have d1 : decide ((0 : Int) ≤ (i : Int)) = true := by simp
  have d2 : decide ((i : Int) < (len : Int)) = true := by simp; exact hi
  have g6 : T.get (env.set 10 (some (.int .i64 i))) 6 = some (.sl id off len cap) := by simp [get_set, h6]
  have g8 : T.get (env.set 10 (some (.int .i64 i))) 8 = some (.int .i64 i) := by simp [get_set, h8]
  simp only [evOp, evO, Env.v, g6, g8, indexAddrV, Tryz.underlying38, sizeT_u8, d1, d2, Bool.and_self, cond_true, Int.toNat_natCast, Nat.mul_one, pureV, Option.bind_some]
  rw [evOps_cons rfl rfl rfl]
  simp only [evOp, evO, Env.v, get_set, if_true, loadV, aggT_u8, hb, pureV, Option.bind_some]
  rw [evOps_cons rfl rfl rfl]
  have g10 : T.get (((env.set 10 (some (.int .i64 i))).set 11 (some (.ptr id (off + i)))).set 12 (some (.int .u8 b))) 10 = some (.int .i64 i) := by simp [get_set]
  simp only [evOp, evO, Env.v, g10, pureV, Option.bind_some]
  rw [evOps_cons rfl rfl rfl]
  have g12 : T.get ((((env.set 10 (some (.int .i64 i))).set 11 (some (.ptr id (off + i)))).set 12 (some (.int .u8 b))).set 4 (some (.int .i64 i))) 12 = some (.int .u8 b) := by simp [get_set]
  simp only [evOp, evO, Env.v, g12, pureV, Option.bind_some, evOps]

theorem w6_run {i : Nat} (hi : i < 9223372036854775807) (h8 : T.get env 8 = some (.int .i64 i)) :
    ∃ e', ev ⟨Tryz.prog, told⟩ (n + 1) wR6 ⟨env, 22, h⟩ = some (.normal, ⟨e', 22, h⟩) ∧ T.get e' 8 = some (.int .i64 ((i + 1 : Nat) : Int)) ∧ ∀ t, t ≠ 8 → t ≠ 20 → T.get e' t = T.get env t := by
  refine ⟨(env.set 20 (some (.int .i64 ((i + 1 : Nat) : Int)))).set 8 (some (.int .i64 ((i + 1 : Nat) : Int))), ?_, by simp [get_set], fun t h1 h2 => by simp [get_set, h1, h2]⟩
  simp only [wR6, wRest, wLoop, wBody, Tryz.f71, Option.getD_some, leftC, rightC, unblk, unloop, ev_succ, evStep, cond_false]
  rw [evOps_cons rfl rfl rfl]
  simp only [evOp, evO, Env.v, h8, ofValue, ofScalar, binV, ikBeq, cond_true, intV_add1 hi, pureV, Option.bind_some]
  rw [evOps_cons rfl rfl rfl]
  simp only [evOp, evO, Env.v, get_set, if_true, pureV, Option.bind_some, evOps]

theorem w5_run {i : Nat} {b a sv m : Int} (h3 : T.get env 3 = some (.int .u64 a)) (h4 : T.get env 4 = some (.int .i64 i)) (h5 : T.get env 5 = some (.int .u8 b))
    (hs : shiftV .shl .u64 (IntKind.wrap .u64 b) (IntKind.wrap .i64 (8 * (i : Int))) = some (.int .u64 sv)) (hm : bitsV .or .u64 a sv = some (.int .u64 m)) :
    ∃ e', ev ⟨Tryz.prog, told⟩ (n + 1) wR5 ⟨env, 22, h⟩ = some (.normal, ⟨e', 22, h⟩) ∧ T.get e' 3 = some (.int .u64 m) ∧ ∀ t, t < 13 → t ≠ 3 → T.get e' t = T.get env t := by
  refine ⟨(((((((env.set 13 (some (.int .u64 a))).set 14 (some (.int .u8 b))).set 15 (some (.int .u64 (IntKind.wrap .u64 b)))).set 16 (some (.int .i64 i))).set 17 (some (.int .i64 (IntKind.wrap .i64 (8 * (i : Int)))))).set 18 (some (.int .u64 sv))).set 19 (some (.int .u64 m))).set 3 (some (.int .u64 m)), ?_, by simp [get_set], fun t h1 h2 => ?_⟩
  · simp only [wR5, wRest, wLoop, wBody, Tryz.f71, Option.getD_some, leftC, rightC, unblk, unloop, ev_succ, evStep, cond_false]
    rw [evOps_cons rfl rfl rfl]
    simp only [evOp, evO, Env.v, h3, pureV, Option.bind_some]
    rw [evOps_cons rfl rfl rfl]
    have g5 : T.get (env.set 13 (some (.int .u64 a))) 5 = some (.int .u8 b) := by simp [get_set, h5]
    simp only [evOp, evO, Env.v, g5, pureV, Option.bind_some]
    rw [evOps_cons rfl rfl rfl]
    simp only [evOp, evO, Env.v, get_set, if_true, convV, Tryz.underlying5, Tryz.underlying67, Option.bind_some]
    rw [evOps_cons rfl rfl rfl]
    have g4 : T.get (((env.set 13 (some (.int .u64 a))).set 14 (some (.int .u8 b))).set 15 (some (.int .u64 (IntKind.wrap .u64 b)))) 4 = some (.int .i64 i) := by simp [get_set, h4]
    simp only [evOp, evO, Env.v, g4, pureV, Option.bind_some]
    rw [evOps_cons rfl rfl rfl]
    simp only [evOp, evO, Env.v, get_set, if_true, ofValue, ofScalar, binV, ikBeq, cond_true, intV, pureV, Option.bind_some]
    rw [evOps_cons rfl rfl rfl]
    have g15 : T.get (((((env.set 13 (some (.int .u64 a))).set 14 (some (.int .u8 b))).set 15 (some (.int .u64 (IntKind.wrap .u64 b)))).set 16 (some (.int .i64 i))).set 17 (some (.int .i64 (IntKind.wrap .i64 (8 * (i : Int)))))) 15 = some (.int .u64 (IntKind.wrap .u64 b)) := by simp [get_set]
    have g17 : T.get (((((env.set 13 (some (.int .u64 a))).set 14 (some (.int .u8 b))).set 15 (some (.int .u64 (IntKind.wrap .u64 b)))).set 16 (some (.int .i64 i))).set 17 (some (.int .i64 (IntKind.wrap .i64 (8 * (i : Int)))))) 17 = some (.int .i64 (IntKind.wrap .i64 (8 * (i : Int)))) := by simp [get_set]
    simp only [evOp, evO, Env.v, g15, g17, binV, hs, pureV, Option.bind_some]
    rw [evOps_cons rfl rfl rfl]
    have g13 : T.get ((((((env.set 13 (some (.int .u64 a))).set 14 (some (.int .u8 b))).set 15 (some (.int .u64 (IntKind.wrap .u64 b)))).set 16 (some (.int .i64 i))).set 17 (some (.int .i64 (IntKind.wrap .i64 (8 * (i : Int)))))).set 18 (some (.int .u64 sv))) 13 = some (.int .u64 a) := by simp [get_set]
    have g18 : T.get ((((((env.set 13 (some (.int .u64 a))).set 14 (some (.int .u8 b))).set 15 (some (.int .u64 (IntKind.wrap .u64 b)))).set 16 (some (.int .i64 i))).set 17 (some (.int .i64 (IntKind.wrap .i64 (8 * (i : Int)))))).set 18 (some (.int .u64 sv))) 18 = some (.int .u64 sv) := by simp [get_set]
    simp only [evOp, evO, Env.v, g13, g18, binV, ikBeq, cond_true, intV, hm, pureV, Option.bind_some]
    rw [evOps_cons rfl rfl rfl]
    simp only [evOp, evO, Env.v, get_set, if_true, pureV, Option.bind_some, evOps]
  · have a1 : t ≠ 13 := by omega
    have a2 : t ≠ 14 := by omega
    have a3 : t ≠ 15 := by omega
    have a4 : t ≠ 16 := by omega
    have a5 : t ≠ 17 := by omega
    have a6 : t ≠ 18 := by omega
    have a7 : t ≠ 19 := by omega
    simp [get_set, h2, a1, a2, a3, a4, a5, a6, a7]

theorem word_loop {id off len : Nat} {cap : Cap} (hlen : len < 9223372036854775807) : ∀ (l : List V) (i n : Nat) (env : Env) (a r : Int), i + l.length = len →
    (∀ (j : Nat) (v : V), l[j]? = some v → rd1 h id (off + (i + j)) = some v) → wordGo i a l = some r → T.get env 3 = some (.int .u64 a) → T.get env 8 = some (.int .i64 i) → T.get env 6 = some (.sl id off len cap) → T.get env 7 = some (.int .i64 len) →
    ∃ e', ev ⟨Tryz.prog, told⟩ (n + 12 + l.length) (.loop wLoop) ⟨env, 22, h⟩ = some (.exit 0, ⟨e', 22, h⟩) ∧ T.get e' 3 = some (.int .u64 r) := by
  intro l
  induction l with
  | nil =>
    intro i n env a r hi _ hgo h3 h8 h6 h7
    have q3 := w3_run (told := told) (n + 9) env h h8 h7
    have hd : decide ((i : Int) < (len : Int)) = false := by simp at hi ⊢; omega
    rw [hd] at q3
    simp only [wordGo, Option.some.injEq] at hgo
    subst hgo
    refine ⟨env.set 9 (some (.bool false)), ?_, by simp [get_set, h3]⟩
    refine ev_loop_exit ?_
    rw [wLoop_eq, ev_seq q3]
    exact ev_seq_exit (by rw [ev_cond (t := false) (by simp [evO, Env.v, get_set])]; rfl)
  | cons v l ih =>
    intro i n env a r hi hrd hgo h3 h8 h6 h7
    simp only [List.length_cons] at hi
    have hv : ∃ b : Int, v = .int .u8 b := by
      cases v <;> try (simp [wordGo] at hgo; done)
      rename_i k b
      cases k <;> first
        | exact ⟨b, rfl⟩
        | (simp [wordGo] at hgo; done)
    obtain ⟨b, rfl⟩ := hv
    · simp only [wordGo] at hgo
      split at hgo
      · rename_i sv hs
        split at hgo
        · rename_i m hm
          have q3 := w3_run (told := told) (n + l.length + 10) env h h8 h7
          have hd : decide ((i : Int) < (len : Int)) = true := by simp; omega
          rw [hd] at q3
          have hr := hrd 0 _ rfl
          rw [Nat.add_zero] at hr
          obtain ⟨e4, q4, q4a, q4b, q4c⟩ := w4_run (told := told) (cap := cap) (n + l.length + 6) (env.set 9 (some (.bool true))) h (show i < len by omega) (by simp [get_set, h8]) (by simp [get_set, h6]) hr
          obtain ⟨e5, q5, q5a, q5b⟩ := w5_run (told := told) (n + l.length + 6) e4 h (by rw [q4c 3 (by omega) (by omega) (by omega) (by omega) (by omega)]; simp [get_set, h3]) q4b q4a hs hm
          obtain ⟨e6, q6, q6a, q6b⟩ := w6_run (told := told) (n + l.length + 8) e5 h (show i < 9223372036854775807 by omega) (by rw [q5b 8 (by omega) (by omega), q4c 8 (by omega) (by omega) (by omega) (by omega) (by omega)]; simp [get_set, h8])
          have keep : ∀ t, t < 8 → t ≠ 3 → t ≠ 4 → t ≠ 5 → T.get e6 t = T.get env t := fun t h1 h2 h3 h4 => by
            rw [q6b t (by omega) (by omega), q5b t (by omega) h2, q4c t h3 h4 (by omega) (by omega) (by omega)]
            have : t ≠ 9 := by omega
            simp [get_set, this]
          obtain ⟨e7, q7, q7a⟩ := ih (i + 1) n e6 m r (by omega) (fun j u hj => by
            have := hrd (j + 1) u (by simpa using hj)
            rwa [show i + (j + 1) = i + 1 + j from by omega] at this) hgo (by rw [q6b 3 (by omega) (by omega)]; exact q5a) q6a (by rw [keep 6 (by omega) (by omega) (by omega) (by omega)]; exact h6) (by rw [keep 7 (by omega) (by omega) (by omega) (by omega)]; exact h7)
          refine ⟨e7, ?_, q7a⟩
          have hround : ev ⟨Tryz.prog, told⟩ (n + l.length + 12) wLoop ⟨env, 22, h⟩ = some (.normal, ⟨e6, 22, h⟩) := by
            rw [wLoop_eq, ev_seq q3, ev_seq (s' := ⟨env.set 9 (some (.bool true)), 22, h⟩) (by rw [ev_cond (t := true) (by simp [evO, Env.v, get_set])]; rfl), wRest_eq,
              ev_seq (ev_block (by rw [ev_seq q4]; exact q5)), q6]
          rw [List.length_cons, show n + 12 + (l.length + 1) = (n + l.length + 12) + 1 from by omega, ev_loop hround, show n + l.length + 12 = n + 12 + l.length from by omega]
          exact q7
        · cases hgo
      · cases hgo

theorem w0_run : ev ⟨Tryz.prog, told⟩ (n + 1) wR0 ⟨env, 22, h⟩ = some (.normal, ⟨env.set 2 (some (.int .u64 0)), 22, h⟩) := by
  simp only [wR0, wBody, Tryz.f71, Option.getD_some, leftC, ev_succ, evStep, cond_false]
  rw [evOps_cons rfl rfl rfl]
  simp only [evOp, evO, ofValue, ofScalar, pureV, Option.bind_some, evOps]

theorem w1_run : ev ⟨Tryz.prog, told⟩ (n + 1) wR1 ⟨env, 22, h⟩ = some (.normal, ⟨env.set 3 (some (.int .u64 0)), 22, h⟩) := by
  simp only [wR1, wBody, Tryz.f71, Option.getD_some, leftC, rightC, ev_succ, evStep, cond_false]
  rw [evOps_cons rfl rfl rfl]
  simp only [evOp, evO, ofValue, ofScalar, pureV, Option.bind_some, evOps]

theorem w2_run {x : V} {len : Nat} (h0 : T.get env 0 = some x) (hl : lenV Tryz.prog h 38 x = some (.int .i64 len)) :
    ∃ e', ev ⟨Tryz.prog, told⟩ (n + 1) wR2 ⟨env, 22, h⟩ = some (.normal, ⟨e', 22, h⟩) ∧ T.get e' 6 = some x ∧ T.get e' 7 = some (.int .i64 len) ∧ T.get e' 8 = some (.int .i64 ((0 : Nat) : Int)) ∧ T.get e' 3 = T.get env 3 := by
  refine ⟨((env.set 6 (some x)).set 7 (some (.int .i64 len))).set 8 (some (.int .i64 0)), ?_, by simp [get_set], by simp [get_set], by simp [get_set], by simp [get_set]⟩
  simp only [wR2, wBody, Tryz.f71, Option.getD_some, leftC, rightC, ev_succ, evStep, cond_false]
  rw [evOps_cons rfl rfl rfl]
  simp only [evOp, evO, Env.v, h0, pureV, Option.bind_some]
  rw [evOps_cons rfl rfl rfl]
  simp only [evOp, evCall, evArgs, evO, Env.v, get_set, if_true, builtinV, hl, Option.map_some, Option.bind_some]
  rw [evOps_cons rfl rfl rfl]
  simp only [evOp, evO, ofValue, ofScalar, pureV, Option.bind_some, evOps]

theorem wEnd_run {r : Int} (h3 : T.get env 3 = some (.int .u64 r)) :
    ∃ e', ev ⟨Tryz.prog, told⟩ (n + 2) wEnd ⟨env, 22, h⟩ = some (.ret, ⟨e', 22, h⟩) ∧ T.get e' 2 = some (.int .u64 r) := by
  refine ⟨(env.set 21 (some (.int .u64 r))).set 2 (some (.int .u64 r)), ?_, by simp [get_set]⟩
  simp only [wEnd, wBody, Tryz.f71, Option.getD_some, rightC, ev_succ, evStep, cond_false]
  rw [evOps_cons rfl rfl rfl]
  simp only [evOp, evO, Env.v, h3, pureV, Option.bind_some]
  rw [evOps_cons rfl rfl rfl]
  simp only [evOp, evO, Env.v, get_set, if_true, pureV, Option.bind_some, evOps]
end

theorem word_run {σ : H} {id off len : Nat} {cap : Cap} {l : List V} {r : Int} (hlen : len = l.length) (hmax : len < 9223372036854775807) (hgo : wordGo 0 0 l = some r)
    (hrd : ∀ (j : Nat) (v : V), l[j]? = some v → rd1 σ id (off + (0 + j)) = some v) :
    run ⟨Tryz.prog, fun _ => none⟩ (l.length + 20) 71 [.sl id off len cap] σ = some (.int .u64 r, σ) := by
  have hl : lenV Tryz.prog σ 38 (.sl id off len cap) = some (.int .i64 len) := by simp [lenV, Tryz.underlying38]
  have q0 := w0_run (told := fun _ => none) (l.length + 18) (bindArgs [.sl id off len cap] 0 .lf) σ
  have q1 := w1_run (told := fun _ => none) (l.length + 17) ((bindArgs [.sl id off len cap] 0 .lf).set 2 (some (.int .u64 0))) σ
  obtain ⟨e2, q2, q2a, q2b, q2c, q2d⟩ := w2_run (told := fun _ => none) (l.length + 15) (((bindArgs [.sl id off len cap] 0 .lf).set 2 (some (.int .u64 0))).set 3 (some (.int .u64 0))) σ (x := .sl id off len cap) (by simp [get_set, bindArgs]) hl
  obtain ⟨e3, q3, q3a⟩ := word_loop (told := fun _ => none) σ hmax l 0 3 e2 0 r (by omega) hrd hgo (by rw [q2d]; simp [get_set]) q2c q2a q2b
  obtain ⟨e4, q4, q4a⟩ := wEnd_run (told := fun _ => none) (l.length + 15) e3 σ q3a
  have hbody : ev ⟨Tryz.prog, fun _ => none⟩ (l.length + 20) wBody ⟨bindArgs [.sl id off len cap] 0 .lf, 22, σ⟩ = some (.ret, ⟨e4, 22, σ⟩) := by
    rw [wBody_eq, ev_seq q0, ev_seq q1, ev_seq (s' := ⟨e3, 22, σ⟩) (by
      rw [ev_seq q2]
      rw [show 3 + 12 + l.length = l.length + 15 from by omega] at q3
      exact ev_block_exit q3), q4]
  unfold run callF
  simp only [Tryz.func71]
  rw [show Tryz.f71.body = some wBody from rfl]
  rw [show (Tryz.f71.name == "runtime.NumGoroutine" || Nat.blt Tryz.f71.ntmps [V.sl id off len cap].length) = false from rfl]
  simp only [cond_false]
  rw [show Tryz.f71.ntmps = 22 from rfl, hbody]
  simp only
  rw [show Tryz.f71.results = #[.tmp 2] from rfl]
  simp only [mapO, resV, Env.v, q4a]

section
variable {C : Cfg} {c : Ctx} {σ : H} {w : World}

theorem toldWord_ok (hP : C.P = Tryz.prog) (hm : C.P.follows .mixedOrders = true) {args : List V} {v : V} {σ' : H} (hr : toldWord args σ = some (v, σ')) (h : Rel c σ w) (hw : ∀ x ∈ args, wf c x) :
    CallOk C.P 71 args c w v σ' := by
  rw [hP] at hm ⊢
  have hT : ToldOk ⟨Tryz.prog, fun _ => none⟩ := fun f g hg => by cases hg
  unfold toldWord at hr
  split at hr
  · rename_i id off len cap
    cases hd : Nat.ble len 1048576 with
    | false => rw [hd] at hr; cases hr
    | true =>
      rw [hd, cond_true] at hr
      have hmax := ble_iff.1 hd
      cases hrd : rdN σ id off len with
      | none => simp [hrd] at hr
      | some cs =>
        simp only [hrd] at hr
        cases hgo : wordGo 0 0 cs with
        | none => simp [hgo] at hr
        | some r =>
          simp only [hgo, Option.some.injEq, Prod.mk.injEq] at hr
          obtain ⟨rfl, rfl⟩ := hr
          obtain ⟨d1, d2⟩ := rdN_len h hrd
          refine run_ok (C := ⟨Tryz.prog, fun _ => none⟩) hm hT (word_run d1.symm (by omega) hgo (fun j u hj => ?_)) h hw
          rw [Nat.zero_add, d2 j (by rw [← d1]; exact (List.getElem?_eq_some_iff.1 hj).1)]
          exact hj
  · cases hr
end

end Go.Proofs.YtdllelamfamfcaaGreat.Am
