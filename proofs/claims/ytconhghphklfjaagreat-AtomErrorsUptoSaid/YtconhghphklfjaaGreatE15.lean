/- A group that is over or open, pages that are none and records that may not be are refused, and a record that was done is read back; the conditions are those of the given statement, for arguments that a machine can hold. Part 15 of 44. -/
import Derived.Test.YtconhghphklfjaaGreatE13
import Derived.Test.YtconhghphklfjaaGreatProg
import Derived.KernelRfl
namespace Go.Proofs.YtconhghphklfjaaGreat.Am
open Go
def crcStep : Nat → Nat → Nat
 | r, 0 => r
 | r, k + 1 => crcStep (cond (Nat.beq (r % 2) 1) (Nat.xor (r / 2) 3988292384) (r / 2)) k
def crcL : Nat → List Nat → Nat
 | r, [] => r
 | r, b :: l => crcL (crcStep (Nat.xor r b) 8) l
def bytesIn : List V → Option (List Nat)
 | [] => some []
 | .int .u8 n :: l => cond (decide (0 ≤ n) && decide (n < 256)) (match bytesIn l with
  | some m => some (n.toNat :: m)
  | none => none) none
 | _ => none
def moreOf (s : Int) (l : List Nat) : V := .int .u32 ((Nat.xor (crcL (Nat.xor s.toNat 4294967295) l) 4294967295 : Nat) : Int)
noncomputable def toldMore : List V → H → Option (V × H)
 | [.int .u32 s, .sl id off len _], h => cond (decide (0 ≤ s) && decide (s < 4294967296) && Nat.ble len 4611686018427387904) (match rdN h id off len with
  | some cs => match bytesIn cs with
   | some l => some (moreOf s l, h)
   | none => none
  | none => none) none
 | [.int .u32 s, .sl0], h => cond (decide (0 ≤ s) && decide (s < 4294967296)) (some (moreOf s [], h)) none
 | [.int .u32 s, .sle _], h => cond (decide (0 ≤ s) && decide (s < 4294967296)) (some (moreOf s [], h)) none
 | _, _ => none
theorem wrap_u32 {n : Nat} (h : n < 4294967296) : IntKind.wrap .u32 (n : Int) = (n : Int) := by
 simp only [IntKind.wrap, IntKind.bits, IntKind.signed, Bool.false_and, Bool.false_eq_true, if_false]
 omega
theorem toNat_u32 {n : Nat} (h : n < 4294967296) : ((n : Int) % (2 ^ (IntKind.u32).bits : Int)).toNat = n := by
 simp only [IntKind.bits]
 omega
theorem xor_lt {a b : Nat} (ha : a < 4294967296) (hb : b < 4294967296) : Nat.xor a b < 4294967296 := Nat.xor_lt_two_pow (n := 32) ha hb
theorem intV_xor {a b : Nat} (ha : a < 4294967296) (hb : b < 4294967296) : intV .xor .u32 (a : Int) (b : Int) = some (.int .u32 ((Nat.xor a b : Nat) : Int)) := by
 simp only [intV, bitsV]
 rw [toNat_u32 ha, toNat_u32 hb, wrap_u32 (xor_lt ha hb)]
theorem intV_and1 {a : Nat} (ha : a < 4294967296) : intV .and .u32 (a : Int) 1 = some (.int .u32 ((a % 2 : Nat) : Int)) := by
 have h1 : ((1 : Int) % (2 ^ (IntKind.u32).bits : Int)).toNat = 1 := by simp [IntKind.bits]
 simp only [intV, bitsV]
 rw [toNat_u32 ha, h1]
 have : Nat.land a 1 = a % 2 := Nat.and_one_is_mod a
 rw [this, wrap_u32 (by omega)]
theorem shiftV_one {a : Nat} : shiftV .shr .u32 (a : Int) 1 = some (.int .u32 ((a / 2 : Nat) : Int)) := by
 simp only [shiftV, IntKind.bits]
 have : (Int.toNat 1) = 1 := rfl
 simp [this, Int.fdiv_eq_ediv_of_nonneg]
theorem rdN_len {c : Ctx} {σ : H} {w : World} {id off k : Nat} {vs : List V} (h : Rel c σ w) (hr : rdN σ id off k = some vs) : vs.length = k ∧ ∀ j, j < k → rd1 σ id (off + j) = vs[j]? := by
 unfold rdN at hr
 split at hr
 ·rename_i n cs st hg
  have hn : n = cs.length := (h.obj id _ hg).1
  cases hq : Nat.ble (off + k) n with
  | false => rw [hq] at hr; cases hr
  | true =>
   rw [hq, cond_true] at hr
   have hle := ble_iff.1 hq
   simp only [Option.some.injEq] at hr
   cases hz : (Nat.beq off 0 && Nat.beq k n) with
   | true =>
    rw [hz, cond_true] at hr
    simp only [Bool.and_eq_true, beq_iff] at hz
    subst hr
    refine ⟨by omega, fun j _ => ?_⟩
    unfold rd1
    rw [hg]
    simp only [nth_eq, hz.1, Nat.zero_add]
   | false =>
    rw [hz, cond_false] at hr
    subst hr
    refine ⟨by simp; omega, fun j hj => ?_⟩
    unfold rd1
    rw [hg]
    simp only [nth_eq]
    rw [List.getElem?_take, if_pos hj, List.getElem?_drop]
 ·cases hr
def unblk : Code → Code
 | .block _ c => c
 | c => c
def unloop : Code → Code
 | .loop c => c
 | c => c
noncomputable def mBody : Code := (Tryz.f119.body).getD .skip
noncomputable def mOuter : Code := unloop (unblk (rightC (leftC (rightC (rightC mBody)))))
noncomputable def mByte : Code := unblk (leftC (rightC (rightC mOuter)))
noncomputable def mInner : Code := unloop (unblk (rightC (rightC (rightC mByte))))
theorem ev_succ (C : Cfg) (n : Nat) (c : Code) (s : St) : ev C (n + 1) c s = evStep C (ev C n) c s := rfl
theorem wrap_i64 {n : Nat} (h : n < 9223372036854775808) : IntKind.wrap .i64 (n : Int) = (n : Int) := by
 have h1 : ((n : Int) % (2 ^ (IntKind.i64).bits : Int)) = (n : Int) := by simp only [IntKind.bits]; omega
 have h2 : ¬ ((n : Int) ≥ (2 ^ ((IntKind.i64).bits - 1) : Int)) := by simp only [IntKind.bits]; omega
 simp only [IntKind.wrap, h1, h2, decide_false, Bool.and_false, Bool.false_eq_true, if_false]
theorem intV_add1 {n : Nat} (h : n < 9223372036854775807) : intV .add .i64 (n : Int) 1 = some (.int .i64 ((n + 1 : Nat) : Int)) := by
 have : ((n : Int) + 1) = ((n + 1 : Nat) : Int) := by omega
 simp only [intV, this, wrap_i64 (show n + 1 < 9223372036854775808 by omega)]
section
variable {C : Cfg} {self : Self}
theorem evOps_cons {L rest : List Oper} {o : Oper} {d : Nat} {env : Env} {n : Nat} {h : H} (hg : o.guard = none) (hd : o.dst = some d) (hlt : Nat.blt d n = true) :
  evOps C self L (o :: rest) ⟨env, n, h⟩ = (evOp C self env h o).bind fun r => evOps C self L rest ⟨env.set d (some r.1), n, r.2⟩ := by
 simp only [evOps, wantedV, hg, cond_true]
 cases evOp C self env h o with
 | none => rfl
 | some r => simp only [St.put, hd, hlt, cond_true, Option.bind_some]
end
noncomputable def mR7 : Code := leftC mInner
noncomputable def mTail : Code := rightC (rightC mInner)
noncomputable def mR8 : Code := leftC (unblk (leftC mTail))
noncomputable def mIf : Code := rightC (unblk (leftC mTail))
noncomputable def mR11 : Code := rightC mTail
section
variable {C : Cfg} (n : Nat) (env : Env) (h : H)
theorem r7_run {j : Nat} (h20 : T.get env 20 = some (.int .i64 j)) : ev C (n + 1) mR7 ⟨env, 34, h⟩ = some (.normal, ⟨env.set 21 (some (.bool (decide ((j : Int) < 8)))), 34, h⟩) := by
 simp only [mR7, mInner, mByte, mOuter, mBody, Tryz.f119, Option.getD_some, leftC, rightC, unblk, unloop, ev_succ, evStep, cond_false]
 rw [evOps_cons rfl rfl rfl]
 simp only [evOp, evO, Env.v, h20, ofValue, ofScalar, binV, ikBeq, cond_true, intV, pureV, Option.bind_some, evOps]
theorem r8_run {x : Nat} (hx : x < 4294967296) (h5 : T.get env 5 = some (.int .u32 x)) :
  ∃ e', ev C (n + 1) mR8 ⟨env, 34, h⟩ = some (.normal, ⟨e', 34, h⟩) ∧ T.get e' 24 = some (.bool (Nat.beq (x % 2) 1)) ∧ ∀ t, t ≠ 22 → t ≠ 23 → t ≠ 24 → T.get e' t = T.get env t := by
 refine ⟨((env.set 22 (some (.int .u32 x))).set 23 (some (.int .u32 ((x % 2 : Nat) : Int)))).set 24 (some (.bool (Nat.beq (x % 2) 1))), ?_, by simp [get_set], fun t h1 h2 h3 => by simp [get_set, h1, h2, h3]⟩
 simp only [mR8, mTail, mInner, mByte, mOuter, mBody, Tryz.f119, Option.getD_some, leftC, rightC, unblk, unloop, ev_succ, evStep, cond_false]
 rw [evOps_cons rfl rfl rfl]
 simp only [evOp, evO, Env.v, h5, pureV, Option.bind_some]
 rw [evOps_cons rfl rfl rfl]
 simp only [evOp, evO, Env.v, get_set, if_true, ofValue, ofScalar, binV, ikBeq, cond_true, intV_and1 hx, pureV, Option.bind_some]
 rw [evOps_cons rfl rfl rfl]
 simp only [evOp, evO, Env.v, get_set, if_true, ofValue, ofScalar, binV, ikBeq, cond_true, intV, pureV, Option.bind_some, evOps]
 rfl
theorem crc_lt {x : Nat} (hx : x < 4294967296) : Nat.xor (x / 2) 3988292384 < 4294967296 := xor_lt (by omega) (by omega)
theorem if_run {x : Nat} {b : Bool} (hx : x < 4294967296) (h5 : T.get env 5 = some (.int .u32 x)) (h24 : T.get env 24 = some (.bool b)) :
  ∃ e', ev C (n + 2) mIf ⟨env, 34, h⟩ = some (.normal, ⟨e', 34, h⟩) ∧ T.get e' 5 = some (.int .u32 ((cond b (Nat.xor (x / 2) 3988292384) (x / 2) : Nat) : Int)) ∧ ∀ t, t < 25 → t ≠ 5 → T.get e' t = T.get env t := by
 simp only [mIf, mTail, mInner, mByte, mOuter, mBody, Tryz.f119, Option.getD_some, leftC, rightC, unblk, unloop, ev_succ, evStep, evO, Env.v, h24]
 cases b with
 | true =>
  refine ⟨(((env.set 25 (some (.int .u32 x))).set 26 (some (.int .u32 ((x / 2 : Nat) : Int)))).set 27 (some (.int .u32 ((Nat.xor (x / 2) 3988292384 : Nat) : Int)))).set 5 (some (.int .u32 ((Nat.xor (x / 2) 3988292384 : Nat) : Int))), ?_, by simp [get_set], fun t h1 h2 => ?_⟩
  ·simp only [cond_true, cond_false]
   rw [evOps_cons rfl rfl rfl]
   simp only [evOp, evO, Env.v, h5, pureV, Option.bind_some]
   rw [evOps_cons rfl rfl rfl]
   simp only [evOp, evO, Env.v, get_set, if_true, ofValue, ofScalar, binV, shiftV_one, pureV, Option.bind_some]
   rw [evOps_cons rfl rfl rfl]
   have := intV_xor (a := x / 2) (b := 3988292384) (by omega) (by omega)
   rw [show ((3988292384 : Nat) : Int) = 3988292384 from rfl] at this
   simp only [evOp, evO, Env.v, get_set, if_true, ofValue, ofScalar, binV, ikBeq, cond_true, this, pureV, Option.bind_some]
   rw [evOps_cons rfl rfl rfl]
   simp only [evOp, evO, Env.v, get_set, if_true, pureV, Option.bind_some, evOps]
  ·have a1 : t ≠ 25 := by omega
   have a2 : t ≠ 26 := by omega
   have a3 : t ≠ 27 := by omega
   simp [get_set, h2, a1, a2, a3]
 | false =>
  refine ⟨((env.set 28 (some (.int .u32 x))).set 29 (some (.int .u32 ((x / 2 : Nat) : Int)))).set 5 (some (.int .u32 ((x / 2 : Nat) : Int))), ?_, by simp [get_set], fun t h1 h2 => ?_⟩
  ·simp only [cond_false]
   rw [evOps_cons rfl rfl rfl]
   simp only [evOp, evO, Env.v, h5, pureV, Option.bind_some]
   rw [evOps_cons rfl rfl rfl]
   simp only [evOp, evO, Env.v, get_set, if_true, ofValue, ofScalar, binV, shiftV_one, pureV, Option.bind_some]
   rw [evOps_cons rfl rfl rfl]
   simp only [evOp, evO, Env.v, get_set, if_true, pureV, Option.bind_some, evOps]
  ·have a1 : t ≠ 28 := by omega
   have a2 : t ≠ 29 := by omega
   simp [get_set, h2, a1, a2]
theorem r11_run {j : Nat} (hj : j < 8) (h20 : T.get env 20 = some (.int .i64 j)) :
  ∃ e', ev C (n + 1) mR11 ⟨env, 34, h⟩ = some (.normal, ⟨e', 34, h⟩) ∧ T.get e' 20 = some (.int .i64 ((j + 1 : Nat) : Int)) ∧ ∀ t, t ≠ 20 → t ≠ 30 → T.get e' t = T.get env t := by
 refine ⟨(env.set 30 (some (.int .i64 ((j + 1 : Nat) : Int)))).set 20 (some (.int .i64 ((j + 1 : Nat) : Int))), ?_, by simp [get_set], fun t h1 h2 => by simp [get_set, h1, h2]⟩
 simp only [mR11, mTail, mInner, mByte, mOuter, mBody, Tryz.f119, Option.getD_some, leftC, rightC, unblk, unloop, ev_succ, evStep, cond_false]
 rw [evOps_cons rfl rfl rfl]
 simp only [evOp, evO, Env.v, h20, ofValue, ofScalar, binV, ikBeq, cond_true, intV_add1 (show j < 9223372036854775807 by omega), pureV, Option.bind_some]
 rw [evOps_cons rfl rfl rfl]
 simp only [evOp, evO, Env.v, get_set, if_true, pureV, Option.bind_some, evOps]
section
variable {n : Nat} {s s' : St}
theorem ev_seq {a b : Code} (ha : ev C n a s = some (.normal, s')) : ev C (n + 1) (.seq a b) s = ev C n b s' := by rw [ev_succ]; simp only [evStep, ha]
theorem ev_seq_exit {a b : Code} {i : Nat} (ha : ev C n a s = some (.exit i, s')) : ev C (n + 1) (.seq a b) s = some (.exit i, s') := by rw [ev_succ]; simp only [evStep, ha]
theorem ev_cond {x : Operand} {a b : Code} {t : Bool} (hx : evO s.env x = some (.bool t)) : ev C (n + 1) (.cond x a b) s = ev C n (cond t a b) s := by rw [ev_succ]; simp only [evStep, hx]
theorem ev_block {i : Nat} {c : Code} (h : ev C n c s = some (.normal, s')) : ev C (n + 1) (.block i c) s = some (.normal, s') := by rw [ev_succ]; simp only [evStep, h]
theorem ev_block_exit {i : Nat} {c : Code} (h : ev C n c s = some (.exit i, s')) : ev C (n + 1) (.block i c) s = some (.normal, s') := by rw [ev_succ]; simp only [evStep, h, Nat.beq_refl, cond_true]
theorem ev_loop {b : Code} (h : ev C n b s = some (.normal, s')) : ev C (n + 1) (.loop b) s = ev C n (.loop b) s' := by rw [ev_succ]; simp only [evStep, h]
theorem ev_loop_exit {b : Code} {i : Nat} (h : ev C n b s = some (.exit i, s')) : ev C (n + 1) (.loop b) s = some (.exit i, s') := by rw [ev_succ]; simp only [evStep, h]
end
theorem mInner_eq : mInner = .seq mR7 (.seq (.cond (.tmp 21) .skip (.exit 2)) mTail) := rfl
theorem mTail_eq : mTail = .seq (.block 3 (.seq mR8 mIf)) mR11 := rfl
theorem inner_step {x j : Nat} (hx : x < 4294967296) (hj : j < 8) (h5 : T.get env 5 = some (.int .u32 x)) (h20 : T.get env 20 = some (.int .i64 j)) :
  ∃ e', ev C (n + 9) mInner ⟨env, 34, h⟩ = some (.normal, ⟨e', 34, h⟩) ∧ T.get e' 5 = some (.int .u32 ((crcStep x 1 : Nat) : Int)) ∧ T.get e' 20 = some (.int .i64 ((j + 1 : Nat) : Int)) ∧
   ∀ t, t < 20 → t ≠ 5 → T.get e' t = T.get env t := by
 have hlt : decide ((j : Int) < 8) = true := by simp; omega
 have q7 := r7_run (C := C) (n + 7) env h h20
 rw [hlt] at q7
 have g5 : T.get (env.set 21 (some (.bool true))) 5 = some (.int .u32 x) := by simp [get_set, h5]
 obtain ⟨e8, q8, q8a, q8b⟩ := r8_run (C := C) (n + 3) (env.set 21 (some (.bool true))) h hx g5
 have g5' : T.get e8 5 = some (.int .u32 x) := by rw [q8b 5 (by omega) (by omega) (by omega), g5]
 obtain ⟨e9, q9, q9a, q9b⟩ := if_run (C := C) (n + 2) e8 h hx g5' q8a
 have g20 : T.get e9 20 = some (.int .i64 j) := by
  rw [q9b 20 (by omega) (by omega), q8b 20 (by omega) (by omega) (by omega)]
  simp [get_set, h20]
 obtain ⟨e11, q11, q11a, q11b⟩ := r11_run (C := C) (n + 5) e9 h hj g20
 refine ⟨e11, ?_, ?_, q11a, fun t h1 h2 => ?_⟩
 ·rw [mInner_eq, ev_seq q7, ev_seq (s' := ⟨env.set 21 (some (.bool true)), 34, h⟩) (by rw [ev_cond (t := true) (by simp [evO, Env.v, get_set])]; rfl), mTail_eq,
   ev_seq (ev_block (by rw [ev_seq q8]; exact q9)), q11]
 ·rw [q11b 5 (by omega) (by omega), q9a]
  simp only [crcStep]
 ·rw [q11b t (by omega) (by omega), q9b t (by omega) h2, q8b t (by omega) (by omega) (by omega)]
  have : t ≠ 21 := by omega
  simp [get_set, this]
theorem inner_loop : ∀ (k n : Nat) (env : Env) (x : Nat), k ≤ 8 → x < 4294967296 → T.get env 5 = some (.int .u32 x) → T.get env 20 = some (.int .i64 ((8 - k : Nat) : Int)) →
  ∃ e', ev C (n + 10 + k) (.loop mInner) ⟨env, 34, h⟩ = some (.exit 2, ⟨e', 34, h⟩) ∧ T.get e' 5 = some (.int .u32 ((crcStep x k : Nat) : Int)) ∧ ∀ t, t < 20 → t ≠ 5 → T.get e' t = T.get env t := by
 intro k
 induction k with
 | zero =>
  intro n env x _ hx h5 h20
  have q7 := r7_run (C := C) (n + 7) env h h20
  refine ⟨env.set 21 (some (.bool false)), ?_, by simp [get_set, h5, crcStep], fun t h1 h2 => ?_⟩
  ·rw [Nat.add_zero]
   refine ev_loop_exit ?_
   rw [mInner_eq, ev_seq q7]
   exact ev_seq_exit (by rw [ev_cond (t := false) (by simp [evO, Env.v, get_set])]; rfl)
  ·have : t ≠ 21 := by omega
   simp [get_set, this]
 | succ k ih =>
  intro n env x hk hx h5 h20
  obtain ⟨e1, q1, q2, q3, q4⟩ := inner_step (C := C) (n + 1 + k) env h hx (show 8 - (k + 1) < 8 by omega) h5 h20
  have h8 : 8 - (k + 1) + 1 = 8 - k := by omega
  rw [h8] at q3
  have hx1 : crcStep x 1 < 4294967296 := by
   simp only [crcStep]
   cases Nat.beq (x % 2) 1 with
   | true => exact crc_lt hx
   | false => simp only [cond_false]; omega
  obtain ⟨e2, p1, p2, p3⟩ := ih n e1 (crcStep x 1) (by omega) hx1 q2 q3
  refine ⟨e2, ?_, ?_, fun t h1 h2 => by rw [p3 t h1 h2, q4 t h1 h2]⟩
  ·rw [show n + 10 + (k + 1) = (n + 1 + k + 9) + 1 from by omega, ev_loop q1, show n + 1 + k + 9 = n + 10 + k from by omega]
   exact p1
  ·rw [p2]; simp only [crcStep]
end
noncomputable def mR3 : Code := leftC mOuter
noncomputable def mRest : Code := rightC (rightC mOuter)
noncomputable def mR12 : Code := rightC mRest
noncomputable def mR4 : Code := leftC mByte
noncomputable def mR5 : Code := leftC (rightC mByte)
noncomputable def mR6 : Code := leftC (rightC (rightC mByte))
theorem mByte_eq : mByte = .seq mR4 (.seq mR5 (.seq mR6 (.block 2 (.loop mInner)))) := rfl
theorem mOuter_eq : mOuter = .seq mR3 (.seq (.cond (.tmp 13) .skip (.exit 0)) mRest) := rfl
theorem mRest_eq : mRest = .seq (.block 1 mByte) mR12 := rfl
theorem sizeT_u8 : sizeT Tryz.prog 5 = some 1 := by kernel_rfl
theorem aggT_u8 : isAggT Tryz.prog 5 = some false := by kernel_rfl
section
variable {told : Nat → Option (List V → H → Option (V × H))} (n : Nat) (env : Env) (h : H)
theorem r3_run {i len : Nat} (h12 : T.get env 12 = some (.int .i64 i)) (h11 : T.get env 11 = some (.int .i64 len)) :
  ev ⟨Tryz.prog, told⟩ (n + 1) mR3 ⟨env, 34, h⟩ = some (.normal, ⟨env.set 13 (some (.bool (decide ((i : Int) < (len : Int))))), 34, h⟩) := by
 simp only [mR3, mOuter, mBody, Tryz.f119, Option.getD_some, leftC, rightC, unblk, unloop, ev_succ, evStep, cond_false]
 rw [evOps_cons rfl rfl rfl]
 simp only [evOp, evO, Env.v, h11, h12, binV, ikBeq, cond_true, intV, pureV, Option.bind_some, evOps]
theorem r4_run {i id off len b : Nat} {cap : Cap} (hi : i < len) (h12 : T.get env 12 = some (.int .i64 i)) (h10 : T.get env 10 = some (.sl id off len cap)) (hb : rd1 h id (off + i) = some (.int .u8 b)) :
  ∃ e', ev ⟨Tryz.prog, told⟩ (n + 1) mR4 ⟨env, 34, h⟩ = some (.normal, ⟨e', 34, h⟩) ∧ T.get e' 7 = some (.int .u8 b) ∧ ∀ t, t ≠ 7 → t ≠ 14 → t ≠ 15 → T.get e' t = T.get env t := by
 refine ⟨((env.set 14 (some (.ptr id (off + i)))).set 15 (some (.int .u8 b))).set 7 (some (.int .u8 b)), ?_, by simp [get_set], fun t h1 h2 h3 => by simp [get_set, h1, h2, h3]⟩
 simp only [mR4, mByte, mOuter, mBody, Tryz.f119, Option.getD_some, leftC, rightC, unblk, unloop, ev_succ, evStep, cond_false]
 rw [evOps_cons rfl rfl rfl]
 have d1 : decide ((0 : Int) ≤ (i : Int)) = true := by simp
 have d2 : decide ((i : Int) < (len : Int)) = true := by simp; exact hi
 simp only [evOp, evO, Env.v, h10, h12, indexAddrV, Tryz.underlying32, sizeT_u8, d1, d2, Bool.and_self, cond_true, Int.toNat_natCast, Nat.mul_one, pureV, Option.bind_some]
 rw [evOps_cons rfl rfl rfl]
 simp only [evOp, evO, Env.v, get_set, if_true, loadV, aggT_u8, hb, pureV, Option.bind_some]
 rw [evOps_cons rfl rfl rfl]
 simp only [evOp, evO, Env.v, get_set, if_true, pureV, Option.bind_some, evOps]
theorem r5_run {x b : Nat} (hx : x < 4294967296) (hb : b < 256) (h5 : T.get env 5 = some (.int .u32 x)) (h7 : T.get env 7 = some (.int .u8 b)) :
  ∃ e', ev ⟨Tryz.prog, told⟩ (n + 1) mR5 ⟨env, 34, h⟩ = some (.normal, ⟨e', 34, h⟩) ∧ T.get e' 5 = some (.int .u32 ((Nat.xor x b : Nat) : Int)) ∧ ∀ t, t < 16 → t ≠ 5 → T.get e' t = T.get env t := by
 refine ⟨((((env.set 16 (some (.int .u32 x))).set 17 (some (.int .u8 b))).set 18 (some (.int .u32 b))).set 19 (some (.int .u32 ((Nat.xor x b : Nat) : Int)))).set 5 (some (.int .u32 ((Nat.xor x b : Nat) : Int))), ?_, by simp [get_set], fun t h1 h2 => ?_⟩
 ·simp only [mR5, mByte, mOuter, mBody, Tryz.f119, Option.getD_some, leftC, rightC, unblk, unloop, ev_succ, evStep, cond_false]
  rw [evOps_cons rfl rfl rfl]
  simp only [evOp, evO, Env.v, h5, pureV, Option.bind_some]
  rw [evOps_cons rfl rfl rfl]
  have g7 : T.get (env.set 16 (some (.int .u32 x))) 7 = some (.int .u8 b) := by simp [get_set, h7]
  simp only [evOp, evO, Env.v, g7, pureV, Option.bind_some]
  rw [evOps_cons rfl rfl rfl]
  simp only [evOp, evO, Env.v, get_set, if_true, convV, Tryz.underlying5, Tryz.underlying155, wrap_u32 (show b < 4294967296 by omega), Option.bind_some]
  rw [evOps_cons rfl rfl rfl]
  have g16 : T.get (((env.set 16 (some (.int .u32 x))).set 17 (some (.int .u8 b))).set 18 (some (.int .u32 b))) 16 = some (.int .u32 x) := by simp [get_set]
  have g18 : T.get (((env.set 16 (some (.int .u32 x))).set 17 (some (.int .u8 b))).set 18 (some (.int .u32 b))) 18 = some (.int .u32 b) := by simp [get_set]
  simp only [evOp, evO, Env.v, g16, g18, binV, ikBeq, cond_true, intV_xor hx (show b < 4294967296 by omega), pureV, Option.bind_some]
  rw [evOps_cons rfl rfl rfl]
  simp only [evOp, evO, Env.v, get_set, if_true, pureV, Option.bind_some, evOps]
 ·have a1 : t ≠ 16 := by omega
  have a2 : t ≠ 17 := by omega
  have a3 : t ≠ 18 := by omega
  have a4 : t ≠ 19 := by omega
  simp [get_set, h2, a1, a2, a3, a4]
theorem r6_run : ev ⟨Tryz.prog, told⟩ (n + 1) mR6 ⟨env, 34, h⟩ = some (.normal, ⟨env.set 20 (some (.int .i64 0)), 34, h⟩) := by
 simp only [mR6, mByte, mOuter, mBody, Tryz.f119, Option.getD_some, leftC, rightC, unblk, unloop, ev_succ, evStep, cond_false]
 rw [evOps_cons rfl rfl rfl]
 simp only [evOp, evO, ofValue, ofScalar, pureV, Option.bind_some, evOps]
theorem r12_run {i : Nat} (hi : i < 9223372036854775807) (h12 : T.get env 12 = some (.int .i64 i)) :
  ∃ e', ev ⟨Tryz.prog, told⟩ (n + 1) mR12 ⟨env, 34, h⟩ = some (.normal, ⟨e', 34, h⟩) ∧ T.get e' 12 = some (.int .i64 ((i + 1 : Nat) : Int)) ∧ ∀ t, t ≠ 12 → t ≠ 31 → T.get e' t = T.get env t := by
 refine ⟨(env.set 31 (some (.int .i64 ((i + 1 : Nat) : Int)))).set 12 (some (.int .i64 ((i + 1 : Nat) : Int))), ?_, by simp [get_set], fun t h1 h2 => by simp [get_set, h1, h2]⟩
 simp only [mR12, mRest, mOuter, mBody, Tryz.f119, Option.getD_some, leftC, rightC, unblk, unloop, ev_succ, evStep, cond_false]
 rw [evOps_cons rfl rfl rfl]
 simp only [evOp, evO, Env.v, h12, ofValue, ofScalar, binV, ikBeq, cond_true, intV_add1 hi, pureV, Option.bind_some]
 rw [evOps_cons rfl rfl rfl]
 simp only [evOp, evO, Env.v, get_set, if_true, pureV, Option.bind_some, evOps]
theorem crcStep_lt : ∀ (k x : Nat), x < 4294967296 → crcStep x k < 4294967296 := by
 intro k
 induction k with
 | zero => intro x hx; exact hx
 | succ k ih =>
  intro x hx
  simp only [crcStep]
  refine ih _ ?_
  cases Nat.beq (x % 2) 1 with
  | true => exact crc_lt hx
  | false => simp only [cond_false]; omega
theorem byte_run {x i id off len b : Nat} {cap : Cap} (hx : x < 4294967296) (hb : b < 256) (hi : i < len) (h5 : T.get env 5 = some (.int .u32 x)) (h12 : T.get env 12 = some (.int .i64 i)) (h10 : T.get env 10 = some (.sl id off len cap))
  (hr : rd1 h id (off + i) = some (.int .u8 b)) :
  ∃ e', ev ⟨Tryz.prog, told⟩ (n + 22) mByte ⟨env, 34, h⟩ = some (.normal, ⟨e', 34, h⟩) ∧ T.get e' 5 = some (.int .u32 ((crcStep (Nat.xor x b) 8 : Nat) : Int)) ∧ ∀ t, t = 10 ∨ t = 11 ∨ t = 12 → T.get e' t = T.get env t := by
 obtain ⟨e4, q4, q4a, q4b⟩ := r4_run (told := told) (n + 20) env h hi h12 h10 hr
 obtain ⟨e5, q5, q5a, q5b⟩ := r5_run (told := told) (n + 19) e4 h hx hb (by rw [q4b 5 (by omega) (by omega) (by omega)]; exact h5) q4a
 have q6 := r6_run (told := told) (n + 18) e5 h
 obtain ⟨e2, q2, q2a, q2b⟩ := inner_loop (C := ⟨Tryz.prog, told⟩) h 8 n (e5.set 20 (some (.int .i64 0))) (Nat.xor x b) (by omega) (xor_lt hx (by omega)) (by simp [get_set, q5a]) (by simp [get_set])
 refine ⟨e2, ?_, q2a, fun t ht => ?_⟩
 ·rw [mByte_eq, ev_seq q4, ev_seq q5, ev_seq q6]
  exact ev_block_exit q2
 ·rw [q2b t (by omega) (by omega)]
  have : t ≠ 20 := by omega
  simp only [get_set, this, if_false]
  rw [q5b t (by omega) (by omega), q4b t (by omega) (by omega) (by omega)]
theorem outer_loop {id off len : Nat} {cap : Cap} (hlen : len < 9223372036854775807) : ∀ (l : List Nat) (i n : Nat) (env : Env) (x : Nat), i + l.length = len → x < 4294967296 → (∀ b ∈ l, b < 256) →
  (∀ j b : Nat, l[j]? = some b → rd1 h id (off + (i + j)) = some (.int .u8 (b : Int))) → T.get env 5 = some (.int .u32 x) → T.get env 12 = some (.int .i64 i) → T.get env 10 = some (.sl id off len cap) → T.get env 11 = some (.int .i64 len) →
  ∃ e', ev ⟨Tryz.prog, told⟩ (n + 30 + l.length) (.loop mOuter) ⟨env, 34, h⟩ = some (.exit 0, ⟨e', 34, h⟩) ∧ T.get e' 5 = some (.int .u32 ((crcL x l : Nat) : Int)) := by
 intro l
 induction l with
 | nil =>
  intro i n env x hi hx _ _ h5 h12 h10 h11
  have q3 := r3_run (told := told) (n + 27) env h h12 h11
  have hd : decide ((i : Int) < (len : Int)) = false := by simp at hi ⊢; omega
  rw [hd] at q3
  refine ⟨env.set 13 (some (.bool false)), ?_, by simp [get_set, h5, crcL]⟩
  refine ev_loop_exit ?_
  rw [mOuter_eq, ev_seq q3]
  exact ev_seq_exit (by rw [ev_cond (t := false) (by simp [evO, Env.v, get_set])]; rfl)
 | cons b l ih =>
  intro i n env x hi hx hbs hrd h5 h12 h10 h11
  simp only [List.length_cons] at hi
  have q3 := r3_run (told := told) (n + l.length + 28) env h h12 h11
  have hd : decide ((i : Int) < (len : Int)) = true := by simp; omega
  rw [hd] at q3
  have hb : b < 256 := hbs b (by simp)
  have hr := hrd 0 b (by simp)
  rw [Nat.add_zero] at hr
  obtain ⟨e1, q1, q1a, q1b⟩ := byte_run (told := told) (cap := cap) (n + l.length + 4) (env.set 13 (some (.bool true))) h hx hb (show i < len by omega) (by simp [get_set, h5]) (by simp [get_set, h12]) (by simp [get_set, h10]) hr
  obtain ⟨e2, q2, q2a, q2b⟩ := r12_run (told := told) (n + l.length + 26) e1 h (show i < 9223372036854775807 by omega) (by rw [q1b 12 (by omega)]; simp [get_set, h12])
  have hx' : crcStep (Nat.xor x b) 8 < 4294967296 := crcStep_lt 8 _ (xor_lt hx (by omega))
  obtain ⟨e3, q3', q3a⟩ := ih (i + 1) n e2 (crcStep (Nat.xor x b) 8) (by omega) hx' (fun c hc => hbs c (by simp [hc])) (fun j c hj => by
   have := hrd (j + 1) c (by simpa using hj)
   rwa [show i + (j + 1) = i + 1 + j from by omega] at this) (by rw [q2b 5 (by omega) (by omega)]; exact q1a) q2a (by rw [q2b 10 (by omega) (by omega), q1b 10 (by omega)]; simp [get_set, h10]) (by rw [q2b 11 (by omega) (by omega), q1b 11 (by omega)]; simp [get_set, h11])
  refine ⟨e3, ?_, by rw [q3a]; simp only [crcL]⟩
  have hround : ev ⟨Tryz.prog, told⟩ (n + l.length + 30) mOuter ⟨env, 34, h⟩ = some (.normal, ⟨e2, 34, h⟩) := by
   rw [mOuter_eq, ev_seq q3, ev_seq (s' := ⟨env.set 13 (some (.bool true)), 34, h⟩) (by rw [ev_cond (t := true) (by simp [evO, Env.v, get_set])]; rfl), mRest_eq,
    ev_seq (ev_block q1), q2]
  rw [List.length_cons, show n + 30 + (l.length + 1) = (n + l.length + 30) + 1 from by omega, ev_loop hround, show n + l.length + 30 = n + 30 + l.length from by omega]
  exact q3'
noncomputable def mR0 : Code := leftC mBody
noncomputable def mR1 : Code := leftC (rightC mBody)
noncomputable def mR2 : Code := leftC (leftC (rightC (rightC mBody)))
noncomputable def mEnd : Code := rightC (rightC (rightC mBody))
theorem mBody_eq : mBody = .seq mR0 (.seq mR1 (.seq (.seq mR2 (.block 0 (.loop mOuter))) mEnd)) := rfl
theorem r0_run : ev ⟨Tryz.prog, told⟩ (n + 1) mR0 ⟨env, 34, h⟩ = some (.normal, ⟨env.set 4 (some (.int .u32 0)), 34, h⟩) := by
 simp only [mR0, mBody, Tryz.f119, Option.getD_some, leftC, ev_succ, evStep, cond_false]
 rw [evOps_cons rfl rfl rfl]
 simp only [evOp, evO, ofValue, ofScalar, pureV, Option.bind_some, evOps]
theorem r1_run {x : Nat} (hx : x < 4294967296) (h0 : T.get env 0 = some (.int .u32 x)) :
  ∃ e', ev ⟨Tryz.prog, told⟩ (n + 1) mR1 ⟨env, 34, h⟩ = some (.normal, ⟨e', 34, h⟩) ∧ T.get e' 5 = some (.int .u32 ((Nat.xor x 4294967295 : Nat) : Int)) ∧ ∀ t, t ≠ 5 → t ≠ 8 → t ≠ 9 → T.get e' t = T.get env t := by
 refine ⟨((env.set 8 (some (.int .u32 x))).set 9 (some (.int .u32 ((Nat.xor x 4294967295 : Nat) : Int)))).set 5 (some (.int .u32 ((Nat.xor x 4294967295 : Nat) : Int))), ?_, by simp [get_set], fun t h1 h2 h3 => by simp [get_set, h1, h2, h3]⟩
 simp only [mR1, mBody, Tryz.f119, Option.getD_some, leftC, rightC, ev_succ, evStep, cond_false]
 rw [evOps_cons rfl rfl rfl]
 simp only [evOp, evO, Env.v, h0, pureV, Option.bind_some]
 rw [evOps_cons rfl rfl rfl]
 have := intV_xor (a := x) (b := 4294967295) hx (by omega)
 rw [show ((4294967295 : Nat) : Int) = 4294967295 from rfl] at this
 simp only [evOp, evO, Env.v, get_set, if_true, ofValue, ofScalar, binV, ikBeq, cond_true, this, pureV, Option.bind_some]
 rw [evOps_cons rfl rfl rfl]
 simp only [evOp, evO, Env.v, get_set, if_true, pureV, Option.bind_some, evOps]
theorem r2_run {x : V} {len : Nat} (h1 : T.get env 1 = some x) (hl : lenV Tryz.prog h 32 x = some (.int .i64 len)) :
  ∃ e', ev ⟨Tryz.prog, told⟩ (n + 1) mR2 ⟨env, 34, h⟩ = some (.normal, ⟨e', 34, h⟩) ∧ T.get e' 10 = some x ∧ T.get e' 11 = some (.int .i64 len) ∧ T.get e' 12 = some (.int .i64 ((0 : Nat) : Int)) ∧ T.get e' 5 = T.get env 5 := by
 refine ⟨((env.set 10 (some x)).set 11 (some (.int .i64 len))).set 12 (some (.int .i64 0)), ?_, by simp [get_set], by simp [get_set], by simp [get_set], by simp [get_set]⟩
 simp only [mR2, mBody, Tryz.f119, Option.getD_some, leftC, rightC, ev_succ, evStep, cond_false]
 rw [evOps_cons rfl rfl rfl]
 simp only [evOp, evO, Env.v, h1, pureV, Option.bind_some]
 rw [evOps_cons rfl rfl rfl]
 simp only [evOp, evCall, evArgs, evO, Env.v, get_set, if_true, builtinV, hl, Option.map_some, Option.bind_some]
 rw [evOps_cons rfl rfl rfl]
 simp only [evOp, evO, ofValue, ofScalar, pureV, Option.bind_some, evOps]
theorem end_run {x : Nat} (hx : x < 4294967296) (h5 : T.get env 5 = some (.int .u32 x)) :
  ∃ e', ev ⟨Tryz.prog, told⟩ (n + 2) mEnd ⟨env, 34, h⟩ = some (.ret, ⟨e', 34, h⟩) ∧ T.get e' 4 = some (.int .u32 ((Nat.xor x 4294967295 : Nat) : Int)) := by
 refine ⟨((env.set 32 (some (.int .u32 x))).set 33 (some (.int .u32 ((Nat.xor x 4294967295 : Nat) : Int)))).set 4 (some (.int .u32 ((Nat.xor x 4294967295 : Nat) : Int))), ?_, by simp [get_set]⟩
 simp only [mEnd, mBody, Tryz.f119, Option.getD_some, rightC, ev_succ, evStep, cond_false]
 rw [evOps_cons rfl rfl rfl]
 simp only [evOp, evO, Env.v, h5, pureV, Option.bind_some]
 rw [evOps_cons rfl rfl rfl]
 have := intV_xor (a := x) (b := 4294967295) hx (by omega)
 rw [show ((4294967295 : Nat) : Int) = 4294967295 from rfl] at this
 simp only [evOp, evO, Env.v, get_set, if_true, ofValue, ofScalar, binV, ikBeq, cond_true, this, pureV, Option.bind_some]
 rw [evOps_cons rfl rfl rfl]
 simp only [evOp, evO, Env.v, get_set, if_true, pureV, Option.bind_some, evOps]
end
theorem bytesIn_ok : ∀ (cs : List V) (l : List Nat), bytesIn cs = some l → cs = l.map (fun (b : Nat) => V.int .u8 (b : Int)) ∧ ∀ b ∈ l, b < 256 := by
 intro cs
 induction cs with
 | nil => intro l h; simp [bytesIn] at h; subst h; simp
 | cons v cs ih =>
  intro l h
  unfold bytesIn at h
  split at h
  ·rename_i he; cases he
  ·rename_i n l' he
   simp only [List.cons.injEq] at he
   obtain ⟨rfl, rfl⟩ := he
   cases hd : (decide (0 ≤ n) && decide (n < 256)) with
   | false => rw [hd] at h; cases h
   | true =>
    rw [hd, cond_true] at h
    simp only [Bool.and_eq_true, decide_eq_true_eq] at hd
    cases hm : bytesIn cs with
    | none => simp [hm] at h
    | some m =>
     simp [hm] at h
     subst h
     obtain ⟨i1, i2⟩ := ih m hm
     refine ⟨?_, fun b hb => ?_⟩
     ·simp only [List.map_cons, ← i1]
      congr 2
      omega
     ·rcases List.mem_cons.1 hb with rfl | hb
      ·omega
      ·exact i2 b hb
  ·cases h
theorem crcL_lt : ∀ (l : List Nat) (x : Nat), x < 4294967296 → (∀ b ∈ l, b < 256) → crcL x l < 4294967296 := by
 intro l
 induction l with
 | nil => intro x hx _; exact hx
 | cons b l ih =>
  intro x hx hb
  have h1 := hb b (by simp)
  exact ih _ (crcStep_lt 8 _ (xor_lt hx (by omega))) (fun c hc => hb c (by simp [hc]))
theorem more_run {σ : H} {s : Int} {x : V} {l : List Nat} {len : Nat} (hs0 : 0 ≤ s) (hs1 : s < 4294967296) (hl : lenV Tryz.prog σ 32 x = some (.int .i64 len)) (hlen : len = l.length) (hmax : len < 9223372036854775807)
  (hb : ∀ b ∈ l, b < 256) (hx : l = [] ∨ ∃ id off cap, x = .sl id off len cap ∧ ∀ j b : Nat, l[j]? = some b → rd1 σ id (off + (0 + j)) = some (.int .u8 (b : Int))) :
  run ⟨Tryz.prog, fun _ => none⟩ (l.length + 40) 119 [.int .u32 s, x] σ = some (moreOf s l, σ) := by
 obtain ⟨u, rfl⟩ : ∃ u : Nat, s = (u : Int) := ⟨s.toNat, by omega⟩
 have hu : u < 4294967296 := by omega
 have q0 := r0_run (told := fun _ => none) (l.length + 38) (bindArgs [.int .u32 u, x] 0 .lf) σ
 obtain ⟨e1, q1, q1a, q1b⟩ := r1_run (told := fun _ => none) (l.length + 37) ((bindArgs [.int .u32 u, x] 0 .lf).set 4 (some (.int .u32 0))) σ hu (by simp [get_set, bindArgs])
 obtain ⟨e2, q2, q2a, q2b, q2c, q2d⟩ := r2_run (told := fun _ => none) (l.length + 35) e1 σ (x := x) (by rw [q1b 1 (by omega) (by omega) (by omega)]; simp [get_set, bindArgs]) hl
 have hxor : Nat.xor u 4294967295 < 4294967296 := xor_lt hu (by omega)
 have hloop : ∃ e', ev ⟨Tryz.prog, fun _ => none⟩ (5 + 30 + l.length) (.loop mOuter) ⟨e2, 34, σ⟩ = some (.exit 0, ⟨e', 34, σ⟩) ∧ T.get e' 5 = some (.int .u32 ((crcL (Nat.xor u 4294967295) l : Nat) : Int)) := by
  rcases hx with rfl | ⟨id, off, cap, rfl, hrd⟩
  ·have q3 := r3_run (told := fun _ => none) 32 e2 σ q2c q2b
   have hd : decide ((((0 : Nat) : Int)) < (len : Int)) = false := by subst hlen; rfl
   rw [hd] at q3
   refine ⟨e2.set 13 (some (.bool false)), ?_, by simp [get_set, q2d, q1a, crcL]⟩
   refine ev_loop_exit ?_
   rw [mOuter_eq, ev_seq q3]
   exact ev_seq_exit (by rw [ev_cond (t := false) (by simp [evO, Env.v, get_set])]; rfl)
  ·exact outer_loop σ hmax l 0 5 e2 _ (by omega) hxor hb hrd (by rw [q2d]; exact q1a) q2c q2a q2b
 obtain ⟨e3, q3, q3a⟩ := hloop
 obtain ⟨e4, q4, q4a⟩ := end_run (told := fun _ => none) (l.length + 35) e3 σ (crcL_lt l _ hxor hb) q3a
 have hbody : ev ⟨Tryz.prog, fun _ => none⟩ (l.length + 40) mBody ⟨bindArgs [.int .u32 u, x] 0 .lf, 34, σ⟩ = some (.ret, ⟨e4, 34, σ⟩) := by
  rw [mBody_eq, ev_seq q0, ev_seq q1, ev_seq (s' := ⟨e3, 34, σ⟩) (by
   rw [ev_seq q2]
   rw [show 5 + 30 + l.length = l.length + 35 from by omega] at q3
   exact ev_block_exit q3), q4]
 unfold run callF
 simp only [Tryz.func119]
 rw [show Tryz.f119.body = some mBody from rfl]
 rw [show (Tryz.f119.name == "runtime.NumGoroutine" || Nat.blt Tryz.f119.ntmps [V.int .u32 (u : Int), x].length) = false from rfl]
 simp only [cond_false]
 rw [show Tryz.f119.ntmps = 34 from rfl, hbody]
 simp only
 rw [show Tryz.f119.results = #[.tmp 4] from rfl]
 simp only [mapO, resV, Env.v, q4a, moreOf, Int.toNat_natCast]
section
variable {C : Cfg} {c : Ctx} {σ : H} {w : World}
theorem toldMore_ok (hP : C.P = Tryz.prog) (hm : C.P.follows .mixedOrders = true) {args : List V} {v : V} {σ' : H} (hr : toldMore args σ = some (v, σ')) (h : Rel c σ w) (hw : ∀ x ∈ args, wf c x) :
  CallOk C.P 119 args c w v σ' := by
 rw [hP] at hm ⊢
 have hT : ToldOk ⟨Tryz.prog, fun _ => none⟩ := fun f g hg => by cases hg
 unfold toldMore at hr
 split at hr
 ·rename_i s id off len cap
  cases hd' : (decide (0 ≤ s) && decide (s < 4294967296) && Nat.ble len 4611686018427387904) with
  | false => rw [hd'] at hr; cases hr
  | true =>
   rw [hd', cond_true] at hr
   simp only [Bool.and_eq_true, decide_eq_true_eq, ble_iff] at hd'
   obtain ⟨hd, hmax⟩ := hd'
   cases hrd : rdN σ id off len with
   | none => simp [hrd] at hr
   | some cs =>
    simp only [hrd] at hr
    cases hb : bytesIn cs with
    | none => simp [hb] at hr
    | some l =>
     simp only [hb, Option.some.injEq, Prod.mk.injEq] at hr
     obtain ⟨rfl, rfl⟩ := hr
     obtain ⟨b1, b2⟩ := bytesIn_ok cs l hb
     obtain ⟨d1, d2⟩ := rdN_len h hrd
     have hl : len = l.length := by rw [← d1, b1]; simp
     refine run_ok (C := ⟨Tryz.prog, fun _ => none⟩) hm hT (more_run hd.1 hd.2 (len := len) (by simp [lenV, Tryz.underlying32]) hl (by omega) b2 (.inr ⟨id, off, cap, rfl, fun j b hj => ?_⟩)) h hw
     ·rw [Nat.zero_add, d2 j (by rw [hl]; exact (List.getElem?_eq_some_iff.1 hj).1), b1]
      simp [hj]
 ·rename_i s
  cases hd : (decide (0 ≤ s) && decide (s < 4294967296)) with
  | false => rw [hd] at hr; cases hr
  | true =>
   rw [hd, cond_true] at hr
   simp only [Bool.and_eq_true, decide_eq_true_eq] at hd
   simp only [Option.some.injEq, Prod.mk.injEq] at hr
   obtain ⟨rfl, rfl⟩ := hr
   exact run_ok (C := ⟨Tryz.prog, fun _ => none⟩) hm hT (more_run hd.1 hd.2 (len := 0) (l := []) (by simp [lenV, Tryz.underlying32]) rfl (by omega) (by simp) (.inl rfl)) h hw
 ·rename_i s _
  cases hd : (decide (0 ≤ s) && decide (s < 4294967296)) with
  | false => rw [hd] at hr; cases hr
  | true =>
   rw [hd, cond_true] at hr
   simp only [Bool.and_eq_true, decide_eq_true_eq] at hd
   simp only [Option.some.injEq, Prod.mk.injEq] at hr
   obtain ⟨rfl, rfl⟩ := hr
   exact run_ok (C := ⟨Tryz.prog, fun _ => none⟩) hm hT (more_run hd.1 hd.2 (len := 0) (l := []) (by simp [lenV, Tryz.underlying32]) rfl (by omega) (by simp) (.inl rfl)) h hw
 ·cases hr
end
end Go.Proofs.YtconhghphklfjaaGreat.Am
