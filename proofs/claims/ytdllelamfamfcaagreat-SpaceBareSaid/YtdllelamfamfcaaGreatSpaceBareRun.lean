/- The run of 'munimentlaw10.SpaceBare': its argument's last three bits decide; the eight runs, joined. -/
import Derived.Test.YtdllelamfamfcaaGreatSpaceBareRunA
import Derived.Test.YtdllelamfamfcaaGreatSpaceBareRun0
import Derived.Test.YtdllelamfamfcaaGreatSpaceBareRun1
import Derived.Test.YtdllelamfamfcaaGreatSpaceBareRun2
import Derived.Test.YtdllelamfamfcaaGreatSpaceBareRun3
import Derived.Test.YtdllelamfamfcaaGreatSpaceBareRun4
import Derived.Test.YtdllelamfamfcaaGreatSpaceBareRun5
import Derived.Test.YtdllelamfamfcaaGreatSpaceBareRun6
import Derived.Test.YtdllelamfamfcaaGreatSpaceBareRun7
namespace Go.Proofs.YtdllelamfamfcaaGreat.SpaceBareRun
open Go Go.Proofs.YtdllelamfamfcaaGreat.Am

theorem bits_and7 (a : Int) : ∃ k : Nat, k < 8 ∧ bitsV .and .i64 a 7 = some (.int .i64 (k : Int)) := by
  refine ⟨Nat.land (a % (2 ^ (IntKind.i64).bits : Int)).toNat 7, ?_, ?_⟩
  · exact Nat.lt_of_le_of_lt (Nat.and_le_right (n := (a % (2 ^ (IntKind.i64).bits : Int)).toNat) (m := 7)) (by decide)
  · have h7 : ((7 : Int) % (2 ^ (IntKind.i64).bits : Int)).toNat = 7 := by decide
    have hlt : Nat.land (a % (2 ^ (IntKind.i64).bits : Int)).toNat 7 < 9223372036854775808 :=
      Nat.lt_of_le_of_lt (Nat.and_le_right (n := (a % (2 ^ (IntKind.i64).bits : Int)).toNat) (m := 7)) (by decide)
    simp only [bitsV, h7, wrap_i64 hlt]

theorem one_add {k : Nat} (hk : k < 8) : intV .add .i64 1 (k : Int) = some (.int .i64 ((1 + k : Nat) : Int)) := by
  have : ((1 : Int) + (k : Int)) = ((1 + k : Nat) : Int) := by omega
  simp only [intV, this, wrap_i64 (show 1 + k < 9223372036854775808 by omega)]

theorem mark (a : Int) {k : Nat} (hk : k < 8) (hb : bitsV .and .i64 a 7 = some (.int .i64 (k : Int))) :
    ev C₂ 1 (codeAt A.Abody [1, 1, 0]) (A.AEnd a) = some (.normal, ⟨((((A.AEnd a).env.set 20 (some (.int .i64 a))).set 21 (some (.int .i64 (k : Int)))).set 22 (some (.int .i64 ((1 + k : Nat) : Int)))).set 3 (some (.int .i64 ((1 + k : Nat) : Int))), 151, A.AEndh⟩) := by
  have h0 : T.get (A.AEnd a).env 0 = some (.int .i64 a) := rfl
  show ev C₂ (0 + 1) _ ⟨(A.AEnd a).env, 151, A.AEndh⟩ = _
  generalize (A.AEnd a).env = env at h0
  simp only [codeAt, turnK, Code.leftK, Code.rightK, A.Abody, Tryz.f5, Option.getD_some, ev_succ, evStep, cond_false]
  rw [evOps_cons rfl rfl rfl]
  simp only [evOp, evO, Env.v, h0, pureV, Option.bind_some]
  rw [evOps_cons rfl rfl rfl]
  have g20 : T.get (env.set 20 (some (.int .i64 a))) 20 = some (.int .i64 a) := by simp [get_set]
  simp only [evOp, evO, Env.v, g20, ofValue, ofScalar, binV, ikBeq, cond_true, intV, hb, pureV, Option.bind_some]
  rw [evOps_cons rfl rfl rfl]
  have g21 : T.get ((env.set 20 (some (.int .i64 a))).set 21 (some (.int .i64 (k : Int)))) 21 = some (.int .i64 (k : Int)) := by simp [get_set]
  simp only [evOp, evO, Env.v, g21, ofValue, ofScalar, binV, ikBeq, cond_true, one_add hk, pureV, Option.bind_some]
  rw [evOps_cons rfl rfl rfl]
  have g22 : T.get (((env.set 20 (some (.int .i64 a))).set 21 (some (.int .i64 (k : Int)))).set 22 (some (.int .i64 ((1 + k : Nat) : Int)))) 22 = some (.int .i64 ((1 + k : Nat) : Int)) := by simp [get_set]
  simp only [evOp, evO, Env.v, g22, pureV, Option.bind_some, evOps]

/-- The whole run, where the marked region leads to a state from which all goes well. -/
theorem whole (a : Int) {s s' : Am.St} (hm : ev C₂ 1 (codeAt A.Abody [1, 1, 0]) (A.AEnd a) = some (.normal, s)) (h : LOkE Tryz.prog A.Abody [.c [1, 1, 1]] .normal s .ret s')
    {σ' : H} (hr : callF C₂ (fun _ _ => some (.ret, s')) 5 [.int .i64 a] ⟨0, .lf⟩ = some (.bool true, σ')) (w : World) :
    Calls Tryz.prog 5 #[.int .i64 a] w fun e w' => e = .returned (.bool true) ∧ w.keptBut w' (fun _ => False) := by
  have h1 : LOkE Tryz.prog A.Abody [.c [1, 1, 0], .c [1, 1, 1]] .normal (A.AEnd a) .ret s' :=
    ⟨.normal, s, fun c act w hr he => (ev_ok (C := C₂) mixed told₂_ok 1).1 _ _ _ _ hm c act w hr he, h⟩
  have h2 := LOkE.seg (A.At1o a h1)
  have := law_cut (args := [.int .i64 a]) Tryz.func5 (code := A.Abody) rfl (by kernel_rfl) h2 hr (fun x hx => by
    simp only [List.mem_cons, List.not_mem_nil, or_false] at hx
    subst hx
    simp only [wf]) w
  simpa [conc] using this

theorem walk (a : Int) (w : World) : Calls Tryz.prog 5 #[.int .i64 a] w fun e w' => e = .returned (.bool true) ∧ w.keptBut w' (fun _ => False) := by
  obtain ⟨k, hk, hb⟩ := bits_and7 a
  have hm := mark a hk hb
  match k, hk, hm with
  | 0, _, hm => exact whole a (hm.trans rfl) (K0.B0all a) (σ' := K0.B0Endh) (by kernel_rfl) w
  | 1, _, hm => exact whole a (hm.trans rfl) (K1.B1all a) (σ' := K1.B1Endh) (by kernel_rfl) w
  | 2, _, hm => exact whole a (hm.trans rfl) (K2.B2all a) (σ' := K2.B2Endh) (by kernel_rfl) w
  | 3, _, hm => exact whole a (hm.trans rfl) (K3.B3all a) (σ' := K3.B3Endh) (by kernel_rfl) w
  | 4, _, hm => exact whole a (hm.trans rfl) (K4.B4all a) (σ' := K4.B4Endh) (by kernel_rfl) w
  | 5, _, hm => exact whole a (hm.trans rfl) (K5.B5all a) (σ' := K5.B5Endh) (by kernel_rfl) w
  | 6, _, hm => exact whole a (hm.trans rfl) (K6.B6all a) (σ' := K6.B6Endh) (by kernel_rfl) w
  | 7, _, hm => exact whole a (hm.trans rfl) (K7.B7all a) (σ' := K7.B7Endh) (by kernel_rfl) w

end Go.Proofs.YtdllelamfamfcaaGreat.SpaceBareRun
