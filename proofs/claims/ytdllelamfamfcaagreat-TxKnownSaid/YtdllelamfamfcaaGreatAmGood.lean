/- The abstract machine: the marks of page.Good, told. -/
import Derived.Test.YtdllelamfamfcaaGreatAmWord
import Derived.Test.YtdllelamfamfcaaGreatAmSk
namespace Go.Proofs.YtdllelamfamfcaaGreat.Am
open Go

/- The nesting: R0 ; ((R1 ; if) ; (R3 ; (R4 drawn ; ((R5 ; if) ; (R7 ; ((R8 ; B0[L[outer]]) ; (R21 ; ret)))))));
   outer = R9 ; (if ; (B1[slot] ; R20)); slot = R10 ; (R11 ; ((R12 ; if) ; (R14 ; B2[L[inner]]))); inner = (R15 ; if) ; (B3[(R17 ; if) ; R19] ; R16). -/
noncomputable def gBody : Code := (Tryz.f108.body).getD .skip
noncomputable def gT1 : Code := rightC (rightC gBody)
noncomputable def gT2 : Code := rightC (rightC (rightC gT1))
noncomputable def gT3 : Code := rightC gT2
noncomputable def gOuter : Code := unloop (unblk (rightC (leftC gT3)))
noncomputable def gSlot : Code := unblk (leftC (rightC (rightC gOuter)))
noncomputable def gInner : Code := unloop (unblk (rightC (rightC (rightC (rightC gSlot)))))
noncomputable def gR15 : Code := leftC (leftC gInner)
noncomputable def gMark : Code := unblk (leftC (rightC gInner))
noncomputable def gR17 : Code := leftC (leftC gMark)
noncomputable def gR19 : Code := rightC gMark
noncomputable def gR16 : Code := rightC (rightC gInner)
theorem gInner_eq : gInner = .seq (.seq gR15 (.cond (.tmp 59) .skip (.exit 2))) (.seq (.block 3 gMark) gR16) := rfl
theorem gMark_eq : gMark = .seq (.seq gR17 (rightC (leftC gMark))) gR19 := rfl
theorem gIf_eq : ∃ a, rightC (leftC gMark) = .cond (.tmp 64) a .skip := ⟨_, rfl⟩

def gEnd (k a b : Nat) (t : Bool) : List (Nat × V) := [(55, .int .i64 k), (56, .int .i64 a), (57, .int .i64 b), (58, .int .i64 ((a + b : Nat) : Int)), (59, .bool t)]
def gLook (k M : Nat) : List (Nat × V) := [(62, .int .i64 k), (63, .ptr M k), (64, .bool false)]
def gPut (k M : Nat) : List (Nat × V) := [(65, .int .i64 k), (66, .ptr M k)]
def gNext (k : Nat) : List (Nat × V) := [(60, .int .i64 k), (61, .int .i64 ((k + 1 : Nat) : Int)), (10, .int .i64 ((k + 1 : Nat) : Int))]
def gRound (k a b M : Nat) : List (Nat × V) := [(55, .int .i64 k), (56, .int .i64 a), (57, .int .i64 b), (58, .int .i64 ((a + b : Nat) : Int)), (59, .bool true), (62, .int .i64 k), (63, .ptr M k), (64, .bool false), (65, .int .i64 k), (66, .ptr M k), (60, .int .i64 k), (61, .int .i64 ((k + 1 : Nat) : Int)), (10, .int .i64 ((k + 1 : Nat) : Int))]

theorem gRound_eq (e : Env) (k a b M : Nat) : setL e (gRound k a b M) = setL (setL (setL (setL e (gEnd k a b true)) (gLook k M)) (gPut k M)) (gNext k) := rfl

def isF : V → Bool
  | .bool b => !b
  | _ => false

noncomputable def falses (l : List V) : Nat → Bool := List.rec (motive := fun _ => Nat → Bool) (fun m => Nat.beq m 0) (fun v _ ih m => cond (Nat.beq m 0) true (cond (isF v) (ih (Nat.pred m)) false)) l

theorem falses_iff : ∀ (l : List V) (m : Nat), falses l m = true → ∃ post, l = List.replicate m (.bool false) ++ post := by
  intro l
  induction l with
  | nil =>
    intro m h
    have : m = 0 := Nat.eq_of_beq_eq_true h
    subst this
    exact ⟨[], rfl⟩
  | cons v l ih =>
    intro m h
    cases m with
    | zero => exact ⟨v :: l, rfl⟩
    | succ m =>
      have h' : cond (isF v) (falses l m) false = true := h
      cases hv : isF v with
      | false => rw [hv] at h'; cases h'
      | true =>
        rw [hv, cond_true] at h'
        obtain ⟨post, rfl⟩ := ih m h'
        cases v <;> simp [isF] at hv
        subst hv
        exact ⟨post, rfl⟩

noncomputable def hotGood (s : St) : Option (Ex × St) := match T.get s.env 10, T.get s.env 8, T.get s.env 9, T.get s.env 6 with
  | some (.int .i64 (.ofNat k)), some (.int .i64 (.ofNat a)), some (.int .i64 (.ofNat b)), some (.ptr M off) =>
    cond (Nat.beq off 0 && Nat.beq s.ntm 68 && Nat.ble (a + b) 512)
      (cond (Nat.ble (a + b) k) (some (.exit 2, ⟨setL s.env (gEnd k a b false), 68, s.h⟩))
        (match T.get s.h.tr M with
          | some (.cells n cs st) => cond (Nat.beq n 512 && falses (cs.drop k) (a + b - k))
            (some (.exit 2, ⟨setL (setL s.env (gRound (a + b - 1) a b M)) (gEnd (a + b) a b false), 68, s.h.put M (some (.cells n (cs.take k ++ (List.replicate (a + b - k) (.bool true) ++ cs.drop (a + b))) st))⟩)) none
          | _ => none)) none
  | _, _, _, _ => none

theorem sizeT_bool : sizeT Tryz.prog 4 = some 1 := by kernel_rfl
theorem aggT_bool : isAggT Tryz.prog 4 = some false := by kernel_rfl

theorem intV_add {x y : Nat} (h : x + y < 9223372036854775808) : intV .add .i64 (x : Int) (y : Int) = some (.int .i64 ((x + y : Nat) : Int)) := by
  have : ((x : Int) + (y : Int)) = ((x + y : Nat) : Int) := by omega
  simp only [intV, this, wrap_i64 h]

section
variable {told : Nat → Option (List V → H → Option (V × H))} (n : Nat) (env : Env) (h : H)

theorem evOps_none {C : Cfg} {self : Self} {L rest : List Oper} {o : Oper} {env : Env} {n : Nat} {h : H} (hg : o.guard = none) (hd : o.dst = none) :
    evOps C self L (o :: rest) ⟨env, n, h⟩ = (evOp C self env h o).bind fun r => evOps C self L rest ⟨env, n, r.2⟩ := by
  simp only [evOps, wantedV, hg, cond_true]
  cases evOp C self env h o with
  | none => rfl
  | some r => obtain ⟨v, h'⟩ := r; simp [St.put, hd]

theorem g15_run {k a b : Nat} (hab : a + b < 9223372036854775808) (h10 : T.get env 10 = some (.int .i64 k)) (h8 : T.get env 8 = some (.int .i64 a)) (h9 : T.get env 9 = some (.int .i64 b)) :
    ev ⟨Tryz.prog, told⟩ (n + 1) gR15 ⟨env, 68, h⟩ = some (.normal, ⟨setL env (gEnd k a b (decide ((k : Int) < ((a + b : Nat) : Int)))), 68, h⟩) := by
  simp only [gR15, gInner, gSlot, gOuter, gT3, gT2, gT1, gBody, Tryz.f108, Option.getD_some, leftC, rightC, unblk, unloop, ev_succ, evStep, cond_false]
  rw [evOps_cons rfl rfl rfl]
  simp only [evOp, evO, Env.v, h10, pureV, Option.bind_some]
  rw [evOps_cons rfl rfl rfl]
  have g8 : T.get (env.set 55 (some (.int .i64 k))) 8 = some (.int .i64 a) := by simp [get_set, h8]
  simp only [evOp, evO, Env.v, g8, pureV, Option.bind_some]
  rw [evOps_cons rfl rfl rfl]
  have g9 : T.get ((env.set 55 (some (.int .i64 k))).set 56 (some (.int .i64 a))) 9 = some (.int .i64 b) := by simp [get_set, h9]
  simp only [evOp, evO, Env.v, g9, pureV, Option.bind_some]
  rw [evOps_cons rfl rfl rfl]
  have g56 : T.get (((env.set 55 (some (.int .i64 k))).set 56 (some (.int .i64 a))).set 57 (some (.int .i64 b))) 56 = some (.int .i64 a) := by simp [get_set]
  have g57 : T.get (((env.set 55 (some (.int .i64 k))).set 56 (some (.int .i64 a))).set 57 (some (.int .i64 b))) 57 = some (.int .i64 b) := by simp [get_set]
  simp only [evOp, evO, Env.v, g56, g57, binV, ikBeq, cond_true, intV_add hab, pureV, Option.bind_some]
  rw [evOps_cons rfl rfl rfl]
  have g55 : T.get ((((env.set 55 (some (.int .i64 k))).set 56 (some (.int .i64 a))).set 57 (some (.int .i64 b))).set 58 (some (.int .i64 ((a + b : Nat) : Int)))) 55 = some (.int .i64 k) := by simp [get_set]
  have g58 : T.get ((((env.set 55 (some (.int .i64 k))).set 56 (some (.int .i64 a))).set 57 (some (.int .i64 b))).set 58 (some (.int .i64 ((a + b : Nat) : Int)))) 58 = some (.int .i64 ((a + b : Nat) : Int)) := by simp [get_set]
  simp only [evOp, evO, Env.v, g55, g58, binV, ikBeq, cond_true, intV, pureV, Option.bind_some, evOps, gEnd, setL]

theorem arr_bool : Tryz.prog.underlying 255 = some (.array 512 4) := by kernel_rfl

theorem addr_mark {k M : Nat} (hk : k < 512) : indexAddrV Tryz.prog 255 (.ptr M 0) (.int .i64 k) = some (.ptr M k) := by
  have d1 : decide ((0 : Int) ≤ (k : Int)) = true := by simp
  have d2 : decide ((k : Int) < ((512 : Nat) : Int)) = true := by simp; omega
  simp only [indexAddrV, arr_bool, sizeT_bool, d1, d2, Bool.and_self, cond_true, Int.toNat_natCast, Nat.mul_one, Nat.zero_add]

theorem g17_run {k M : Nat} (hk : k < 512) (h10 : T.get env 10 = some (.int .i64 k)) (h6 : T.get env 6 = some (.ptr M 0)) (hb : rd1 h M k = some (.bool false)) :
    ev ⟨Tryz.prog, told⟩ (n + 1) gR17 ⟨env, 68, h⟩ = some (.normal, ⟨setL env (gLook k M), 68, h⟩) := by
  simp only [gR17, gMark, gInner, gSlot, gOuter, gT3, gT2, gT1, gBody, Tryz.f108, Option.getD_some, leftC, rightC, unblk, unloop, ev_succ, evStep, cond_false]
  rw [evOps_cons rfl rfl rfl]
  simp only [evOp, evO, Env.v, h10, pureV, Option.bind_some]
  rw [evOps_cons rfl rfl rfl]
  have g6 : T.get (env.set 62 (some (.int .i64 k))) 6 = some (.ptr M 0) := by simp [get_set, h6]
  have g62 : T.get (env.set 62 (some (.int .i64 k))) 62 = some (.int .i64 k) := by simp [get_set]
  simp only [evOp, evO, Env.v, g6, g62, addr_mark hk, pureV, Option.bind_some]
  rw [evOps_cons rfl rfl rfl]
  have g63 : T.get ((env.set 62 (some (.int .i64 k))).set 63 (some (.ptr M k))) 63 = some (.ptr M k) := by simp [get_set]
  simp only [evOp, evO, Env.v, g63, loadV, aggT_bool, hb, pureV, Option.bind_some, evOps, gLook, setL]

theorem g19_run {k M : Nat} {cs : List V} {st : Bool} (hk : k < 512) (h10 : T.get env 10 = some (.int .i64 k)) (h6 : T.get env 6 = some (.ptr M 0)) (hM : T.get h.tr M = some (.cells 512 cs st)) :
    ev ⟨Tryz.prog, told⟩ (n + 1) gR19 ⟨env, 68, h⟩ = some (.normal, ⟨setL env (gPut k M), 68, h.put M (some (.cells 512 (cs.take k ++ ([.bool true] ++ cs.drop (k + 1))) st))⟩) := by
  simp only [gR19, gMark, gInner, gSlot, gOuter, gT3, gT2, gT1, gBody, Tryz.f108, Option.getD_some, leftC, rightC, unblk, unloop, ev_succ, evStep, cond_false]
  rw [evOps_cons rfl rfl rfl]
  simp only [evOp, evO, Env.v, h10, pureV, Option.bind_some]
  rw [evOps_cons rfl rfl rfl]
  have g6 : T.get (env.set 65 (some (.int .i64 k))) 6 = some (.ptr M 0) := by simp [get_set, h6]
  have g65 : T.get (env.set 65 (some (.int .i64 k))) 65 = some (.int .i64 k) := by simp [get_set]
  simp only [evOp, evO, Env.v, g6, g65, addr_mark hk, pureV, Option.bind_some]
  rw [evOps_none rfl rfl]
  have g66 : T.get ((env.set 65 (some (.int .i64 k))).set 66 (some (.ptr M k))) 66 = some (.ptr M k) := by simp [get_set]
  have hs : storeV Tryz.prog h 4 (.ptr M k) (.bool true) = some (h.put M (some (.cells 512 (cs.take k ++ ([.bool true] ++ cs.drop (k + 1))) st))) := by
    have b1 : Nat.ble (k + 1) 512 = true := ble_iff.2 (by omega)
    simp only [storeV, sizeT_bool, V.cells, List.length_cons, List.length_nil, Nat.zero_add, List.all_cons, List.all_nil, storable, Bool.and_true, Nat.beq_refl, cond_true, wrN, hM, b1, show Nat.beq 1 512 = false from rfl, Bool.and_false, cond_false]
  simp only [evOp, evO, Env.v, g66, ofValue, ofScalar, hs, unitV, Option.bind_some, evOps, gPut, setL]

theorem g16_run {k : Nat} (hk : k < 9223372036854775807) (h10 : T.get env 10 = some (.int .i64 k)) :
    ev ⟨Tryz.prog, told⟩ (n + 1) gR16 ⟨env, 68, h⟩ = some (.normal, ⟨setL env (gNext k), 68, h⟩) := by
  simp only [gR16, gInner, gSlot, gOuter, gT3, gT2, gT1, gBody, Tryz.f108, Option.getD_some, leftC, rightC, unblk, unloop, ev_succ, evStep, cond_false]
  rw [evOps_cons rfl rfl rfl]
  simp only [evOp, evO, Env.v, h10, pureV, Option.bind_some]
  rw [evOps_cons rfl rfl rfl]
  have g60 : T.get (env.set 60 (some (.int .i64 k))) 60 = some (.int .i64 k) := by simp [get_set]
  simp only [evOp, evO, Env.v, g60, ofValue, ofScalar, binV, ikBeq, cond_true, intV_add1 hk, pureV, Option.bind_some]
  rw [evOps_cons rfl rfl rfl]
  simp only [evOp, evO, Env.v, get_set, if_true, pureV, Option.bind_some, evOps, gNext, setL]

theorem g_exit {k a b : Nat} (hab : a + b ≤ 512) (h10 : T.get env 10 = some (.int .i64 k)) (h8 : T.get env 8 = some (.int .i64 a)) (h9 : T.get env 9 = some (.int .i64 b)) (hk : a + b ≤ k) :
    ev ⟨Tryz.prog, told⟩ (n + 6) (.loop gInner) ⟨env, 68, h⟩ = some (.exit 2, ⟨setL env (gEnd k a b false), 68, h⟩) := by
  have q := g15_run (told := told) (n + 2) env h (show a + b < 9223372036854775808 by omega) h10 h8 h9
  have hd : decide ((k : Int) < ((a + b : Nat) : Int)) = false := by simp; omega
  rw [hd] at q
  refine ev_loop_exit ?_
  rw [gInner_eq]
  refine ev_seq_exit ?_
  rw [ev_seq q, ev_cond (t := false) (by simp [evO, Env.v, gEnd, setL, get_set])]
  rfl

theorem g_round {k a b M : Nat} {pre post : List V} {st : Bool} (hab : a + b ≤ 512) (h10 : T.get env 10 = some (.int .i64 k)) (h8 : T.get env 8 = some (.int .i64 a)) (h9 : T.get env 9 = some (.int .i64 b))
    (h6 : T.get env 6 = some (.ptr M 0)) (hk : k < a + b) (hM : T.get h.tr M = some (.cells 512 (pre ++ (.bool false :: post)) st)) (hp : pre.length = k) :
    ev ⟨Tryz.prog, told⟩ (n + 12) gInner ⟨env, 68, h⟩ = some (.normal, ⟨setL env (gRound k a b M), 68, h.put M (some (.cells 512 (pre ++ (.bool true :: post)) st))⟩) := by
  have q := g15_run (told := told) (n + 9) env h (show a + b < 9223372036854775808 by omega) h10 h8 h9
  have hd : decide ((k : Int) < ((a + b : Nat) : Int)) = true := by simp; omega
  rw [hd] at q
  have hr : rd1 h M k = some (.bool false) := by
    simp only [rd1, hM, nth_eq]
    rw [← hp]
    simp
  have q17 := g17_run (told := told) (n + 6) (setL env (gEnd k a b true)) h (show k < 512 by omega) (by simp [gEnd, setL, get_set, h10]) (by simp [gEnd, setL, get_set, h6]) hr
  have q19 := g19_run (told := told) (n + 7) (setL (setL env (gEnd k a b true)) (gLook k M)) h (show k < 512 by omega) (by simp [gEnd, gLook, setL, get_set, h10]) (by simp [gEnd, gLook, setL, get_set, h6]) hM
  have hl : (pre ++ (V.bool false :: post)).take k ++ ([V.bool true] ++ (pre ++ (V.bool false :: post)).drop (k + 1)) = pre ++ (.bool true :: post) := by
    subst hp
    rw [List.take_left, List.drop_append, List.drop_eq_nil_of_le (by omega), show pre.length + 1 - pre.length = 1 from by omega]
    rfl
  rw [hl] at q19
  have q16 := g16_run (told := told) (n + 9) (setL (setL (setL env (gEnd k a b true)) (gLook k M)) (gPut k M)) (h.put M (some (.cells 512 (pre ++ (.bool true :: post)) st))) (show k < 9223372036854775807 by omega) (by simp [gEnd, gLook, gPut, setL, get_set, h10])
  obtain ⟨cx, hcx⟩ := gIf_eq
  rw [gInner_eq, ev_seq (s' := ⟨setL env (gEnd k a b true), 68, h⟩) (by
    rw [ev_seq q, ev_cond (t := true) (by simp [evO, Env.v, gEnd, setL, get_set])]; rfl)]
  rw [ev_seq (ev_block (by
    rw [gMark_eq, ev_seq (s' := ⟨setL (setL env (gEnd k a b true)) (gLook k M), 68, h⟩) (by
      rw [ev_seq q17, hcx, ev_cond (t := false) (by simp [evO, Env.v, gLook, setL, get_set])]; rfl)]
    exact q19)), q16, gRound_eq]

theorem put_put (h : H) (M : Nat) (x y : Option Obj) : (h.put M x).put M y = h.put M y := by
  simp only [H.put, set_set]

theorem g_loop {a b M : Nat} {st : Bool} (hab : a + b ≤ 512) : ∀ (m n k : Nat) (env : Env) (h : H) (pre post : List V), k + (m + 1) = a + b →
    T.get env 10 = some (.int .i64 k) → T.get env 8 = some (.int .i64 a) → T.get env 9 = some (.int .i64 b) → T.get env 6 = some (.ptr M 0) →
    T.get h.tr M = some (.cells 512 (pre ++ (List.replicate (m + 1) (.bool false) ++ post)) st) → pre.length = k →
    ev ⟨Tryz.prog, told⟩ (n + 14 + m) (.loop gInner) ⟨env, 68, h⟩ = some (.exit 2, ⟨setL (setL env (gRound (a + b - 1) a b M)) (gEnd (a + b) a b false), 68, h.put M (some (.cells 512 (pre ++ (List.replicate (m + 1) (.bool true) ++ post)) st))⟩) := by
  intro m
  induction m with
  | zero =>
    intro n k env h pre post hk h10 h8 h9 h6 hM hp
    have q := g_round (told := told) (n + 1) env h hab h10 h8 h9 h6 (by omega) (post := post) (by rw [hM]; rfl) hp
    rw [Nat.add_zero, show n + 14 = (n + 1 + 12) + 1 from by omega, ev_loop q]
    have k1 : k = a + b - 1 := by omega
    subst k1
    have q2 := g_exit (told := told) (n + 7) (setL env (gRound (a + b - 1) a b M)) (h.put M (some (.cells 512 (pre ++ (.bool true :: post)) st))) (k := a + b - 1 + 1) hab (by simp [gRound, setL, get_set]) (by simp [gRound, setL, get_set, h8]) (by simp [gRound, setL, get_set, h9]) (by omega)
    rw [show n + 1 + 12 = n + 7 + 6 from by omega, q2, show a + b - 1 + 1 = a + b from by omega]
    rfl
  | succ m ih =>
    intro n k env h pre post hk h10 h8 h9 h6 hM hp
    have q := g_round (told := told) (n + m + 2) env h hab h10 h8 h9 h6 (by omega) (post := List.replicate (m + 1) (.bool false) ++ post) (by rw [hM]; rfl) hp
    rw [show n + 14 + (m + 1) = (n + m + 2 + 12) + 1 from by omega, ev_loop q]
    have q2 := ih n (k + 1) (setL env (gRound k a b M)) (h.put M (some (.cells 512 (pre ++ (.bool true :: (List.replicate (m + 1) (.bool false) ++ post))) st))) (pre ++ [.bool true]) post (by omega) (by simp [gRound, setL, get_set])
      (by simp [gRound, setL, get_set, h8]) (by simp [gRound, setL, get_set, h9]) (by simp [gRound, setL, get_set, h6]) (by simp [H.put, get_set]) (by simp [hp])
    rw [show n + m + 2 + 12 = n + 14 + m from by omega, q2, put_put, setL_setL (gRound k a b M) (gRound (a + b - 1) a b M) env rfl (by simp [gRound])]
    simp [List.replicate_succ]
end

theorem hotGood_ok {told : Nat → Option (List V → H → Option (V × H))} {s : St} {r : Ex × St} (hr : hotGood s = some r) : ∃ N, ev ⟨Tryz.prog, told⟩ N (.loop gInner) s = some r := by
  obtain ⟨env, ntm, h⟩ := s
  unfold hotGood at hr
  simp only at hr
  split at hr
  · rename_i k a b M off h10 h8 h9 h6
    cases hc : (Nat.beq off 0 && Nat.beq ntm 68 && Nat.ble (a + b) 512) with
    | false => rw [hc] at hr; cases hr
    | true =>
      rw [hc, cond_true] at hr
      simp only [Bool.and_eq_true, beq_iff, ble_iff] at hc
      obtain ⟨⟨rfl, rfl⟩, hab⟩ := hc
      cases hd : Nat.ble (a + b) k with
      | true =>
        rw [hd, cond_true] at hr
        simp only [Option.some.injEq] at hr
        subst hr
        exact ⟨0 + 6, g_exit 0 env h hab h10 h8 h9 (ble_iff.1 hd)⟩
      | false =>
        rw [hd, cond_false] at hr
        have hk : k < a + b := by
          refine Nat.lt_of_not_le fun q => ?_
          rw [ble_iff.2 q] at hd
          cases hd
        split at hr
        · rename_i n cs st hM
          cases he : (Nat.beq n 512 && falses (cs.drop k) (a + b - k)) with
          | false => rw [he] at hr; cases hr
          | true =>
            rw [he, cond_true] at hr
            simp only [Option.some.injEq] at hr
            subst hr
            simp only [Bool.and_eq_true, beq_iff] at he
            obtain ⟨rfl, hf⟩ := he
            obtain ⟨post, hpost⟩ := falses_iff _ _ hf
            obtain ⟨m, hm⟩ : ∃ m, a + b - k = m + 1 := ⟨a + b - k - 1, by omega⟩
            rw [hm] at hpost ⊢
            have hlen : k ≤ cs.length := by
              refine Nat.le_of_not_lt fun q => ?_
              rw [List.drop_eq_nil_of_le (by omega)] at hpost
              simp [List.replicate_succ] at hpost
            have htk : (cs.take k).length = k := by rw [List.length_take]; omega
            have hcs : cs = cs.take k ++ (List.replicate (m + 1) (.bool false) ++ post) := by rw [← hpost, List.take_append_drop]
            have hdr : cs.drop (a + b) = post := by
              rw [show a + b = (m + 1) + k from by omega, Nat.add_comm (m + 1) k, ← List.drop_drop, hpost, List.drop_append]
              simp
            rw [hdr]
            have hM' : T.get h.tr M = some (.cells 512 (cs.take k ++ (List.replicate (m + 1) (.bool false) ++ post)) st) := by rw [hM, ← hcs]
            exact ⟨0 + 14 + m, g_loop hab m 0 k env h (cs.take k) post (by omega) h10 h8 h9 h6 hM' htk⟩
        · cases hr
  · cases hr

/-- The shape of page.Good. -/
noncomputable def skGood : Sk := .seq .leaf (.seq .leaf (.seq .leaf (.seq .leaf (.seq .leaf (.seq .leaf (.seq (.seq .leaf (.block (.loop (.seq .leaf (.seq .leaf (.seq (.block (.seq .leaf (.seq .leaf (.seq .leaf (.seq .leaf (.block (.hot hotGood))))))) .leaf)))))) .leaf))))))

theorem skGood_ok {told : Nat → Option (List V → H → Option (V × H))} : SkOk ⟨Tryz.prog, told⟩ skGood gBody := by
  refine ⟨trivial, trivial, trivial, trivial, trivial, trivial, ⟨trivial, ?_⟩, trivial⟩
  intro i b hb
  rw [show Code.blkK (Code.rightK (Code.leftK (Code.rightK (Code.rightK (Code.rightK (Code.rightK (Code.rightK (Code.rightK gBody)))))))) = some (0, .loop gOuter) from rfl] at hb
  simp only [Option.some.injEq, Prod.mk.injEq] at hb
  obtain ⟨_, rfl⟩ := hb
  intro b hb
  simp only [Code.loopK, Option.some.injEq] at hb
  subst hb
  refine ⟨trivial, trivial, ?_, trivial⟩
  intro i b hb
  rw [show Code.blkK (Code.leftK (Code.rightK (Code.rightK gOuter))) = some (1, gSlot) from rfl] at hb
  simp only [Option.some.injEq, Prod.mk.injEq] at hb
  obtain ⟨_, rfl⟩ := hb
  refine ⟨trivial, trivial, trivial, trivial, ?_⟩
  intro i b hb
  rw [show Code.blkK (Code.rightK (Code.rightK (Code.rightK (Code.rightK gSlot)))) = some (2, .loop gInner) from rfl] at hb
  simp only [Option.some.injEq, Prod.mk.injEq] at hb
  obtain ⟨_, rfl⟩ := hb
  intro s r hr
  exact hotGood_ok hr

end Go.Proofs.YtdllelamfamfcaaGreat.Am
