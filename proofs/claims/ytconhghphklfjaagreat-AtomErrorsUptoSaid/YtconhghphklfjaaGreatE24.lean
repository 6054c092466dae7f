/- A group that is over or open, pages that are none and records that may not be are refused, and a record that was done is read back; the conditions are those of the given statement, for arguments that a machine can hold. Part 24 of 44. -/
import Derived.Test.YtconhghphklfjaaGreatE22
import Derived.Test.YtconhghphklfjaaGreatE23
import Derived.Test.YtconhghphklfjaaGreatE16
import Derived.Test.YtconhghphklfjaaGreatE19
import Derived.Test.YtconhghphklfjaaGreatE21
namespace Go.Proofs.YtconhghphklfjaaGreat.Am
open Go Go.Maps Go.Sort Go.Shelf Go.RowKit
theorem sorts (m : Nat) : AnyZI.SortsIn Tryz.prog Tryz.sorted50_ren Fence.wide m :=
 ⟨fun blk off cap ss W hH hblk hsz => callsIn_wide.2 (AnyM.slices_Sort_int Tryz.sort91 blk off cap ss W hH hblk hsz),
  fun p cap W => callsIn_wide.2 (AnyM.slices_Sort_int_none Tryz.sort91 p cap W)⟩
theorem sortsAt {g : Nat} (eg : ∀ args w, (callFunc g args).run Tryz.prog w = .ok (.enter g args) w) {Bm : Nat} {D0 : DataW Unit} {w : World} (hmax : Maps.size D0 ≤ maxLen) (hbytes : Maps.size D0 * 8 ≤ 140737488355328)
  (hseq : SeqGives Fence.wide 2 Tryz.prog g #[.pointer (some ⟨Bm, 0, none⟩)] encZ (fun ss => ss.Perm (intKeys D0)) (Maps.size D0) w) :
  Calls Tryz.prog 50 #[.func (.func g) #[] #[.pointer (some ⟨Bm, 0, none⟩)]] w fun e w' => ∃ (v : Value) (ss : List Int), e = .returned v ∧ ss.Perm (intKeys D0) ∧
   w'.ownsRow w.heap.size 3 1 v ss.length ((ss.mergeSort (fun x y => decide (x ≤ y))).map encZ) ∧ (v = .slice none 0 0 ↔ ss = []) ∧ Below w.heap.size w w' :=
 (callsIn_wide (n := 5)).1 (AnyZI.sorted_in Tryz.sorted50 Fence.wide 5 trivial trivial trivial trivial rfl (by omega) (sorts _) (enters_of Tryz.func91 (by kernel_rfl) rfl) g _ trivial eg _ _ hmax hbytes _ hseq)
def iters : List Nat := [92, 117, 133]
theorem sortsKeys : SortsKeys Tryz.prog 50 3 iters := by
 intro g hg Bm b nn D0 w hB hm hown hmax hbytes
 simp only [iters, List.mem_cons, List.not_mem_nil, or_false] at hg
 rcases hg with rfl | rfl | rfl
 ·exact sortsAt (enters_of Tryz.func92 (by kernel_rfl) rfl) hmax hbytes (AnyZI.keys_gives (ρ := Tryz.keys51_ren) { Tryz.keys51 with } Fence.wide _ trivial rfl (by omega) Bm b nn D0 w hB hm hown)
 ·exact sortsAt (enters_of Tryz.func117 (by kernel_rfl) rfl) hmax hbytes (AnyZI.keys_gives (ρ := Tryz.keys73_ren) { Tryz.keys73 with } Fence.wide _ trivial rfl (by omega) Bm b nn D0 w hB hm hown)
 ·exact sortsAt (enters_of Tryz.func133 (by kernel_rfl) rfl) hmax hbytes (AnyZI.keys_gives (ρ := Tryz.keys109_ren) { Tryz.keys109 with } Fence.wide _ trivial rfl (by omega) Bm b nn D0 w hB hm hown)
end Go.Proofs.YtconhghphklfjaaGreat.Am
namespace Go.Proofs.YtconhghphklfjaaGreat.Am
open Go
def walkedFs : List Nat := [67, 135, 136, 121, 120, 84, 100, 88]
structure Std (told : Nat → Option (List V → H → Option (V × H))) : Prop where
 free : ∀ f, inL walkedFs f = true → told f = none
 more : told 119 = some toldMore
theorem wrap_u64 {n : Nat} (h : n < 18446744073709551616) : IntKind.wrap .u64 (n : Int) = (n : Int) := by
 simp only [IntKind.wrap, IntKind.bits, IntKind.signed, Bool.false_and, Bool.false_eq_true, if_false]
 omega
theorem wrap_u8 (n : Nat) : IntKind.wrap .u8 (n : Int) = ((n % 256 : Nat) : Int) := by
 simp only [IntKind.wrap, IntKind.bits, IntKind.signed, Bool.false_and, Bool.false_eq_true, if_false]
 omega
def digits : Nat → Nat → List Nat
 | 0, n => [n % 128]
 | k + 1, n => if n < 128 then [n] else (n % 128 + 128) :: digits k (n / 128)
set_option maxRecDepth 10000 in
theorem or128 {n : Nat} (h : n < 256) : Nat.lor n 128 = n % 128 + 128 := by
 have : ∀ m : Fin 256, Nat.lor m.1 128 = m.1 % 128 + 128 := by decide
 exact this ⟨n, h⟩
theorem intV_or128 {n : Nat} (h : n < 256) : intV .or .u8 (n : Int) 128 = some (.int .u8 ((n % 128 + 128 : Nat) : Int)) := by
 have h1 : ((n : Int) % (2 ^ (IntKind.u8).bits : Int)).toNat = n := by simp only [IntKind.bits]; omega
 have h2 : ((128 : Int) % (2 ^ (IntKind.u8).bits : Int)).toNat = 128 := by simp [IntKind.bits]
 simp only [intV, bitsV, h1, h2, or128 h, wrap_u8]
 congr 2
 omega
theorem shr7 {n : Nat} : shiftV .shr .u64 (n : Int) 7 = some (.int .u64 ((n / 128 : Nat) : Int)) := by
 simp only [shiftV, IntKind.bits]
 have : (Int.toNat 7) = 7 := rfl
 simp [this, Int.fdiv_eq_ediv_of_nonneg]
section
variable {told : Nat → Option (List V → H → Option (V × H))}
noncomputable def vtX : Code := unloop (unblk (leftC (rightC ((Tryz.f135.body).getD .skip))))
theorem conv_u64_u8 {h : H} {n : Nat} : convV Tryz.prog h 35 5 (.int .u64 (n : Int)) = some (.int .u8 ((n % 256 : Nat) : Int), h) := by
 simp only [convV, Tryz.underlying35, Tryz.underlying5, wrap_u8]
theorem digits_small {k n : Nat} (h : n < 128) : digits k n = [n] := by
 cases k with
 | zero => simp [digits, Nat.mod_eq_of_lt h]
 | succ k => simp [digits, h]
theorem varint_end {Q : Ex → List (Nat × V) → H → Prop} {E : List (Nat × V)} {h : H} {n : Nat} (hn : n < 128) (h1 : look E 1 = some (.int .u64 (n : Int)))
  (hq : Q (.exit 0) ((6, .bool false) :: (5, .int .u64 (n : Int)) :: E) h) : WP ⟨Tryz.prog, told⟩ 20 (.loop vtX) E h Q := by
 refine WP.loop (WP.seq (WP.seq (WP.region rfl ?_)))
 refine zo rfl (o_move h1) (zo rfl (o_bin (v := .int .u64 (n : Int)) (u := .int .u64 128) (r := .bool false) rfl rfl (by simp only [binV, ikBeq, cond_true, intV]; congr 2; simp; omega)) ?_)
 exact WPs.nil (WP.cond (t := false) rfl (WP.exit hq))
theorem varint_loop : ∀ (k n : Nat) (l : List Nat) (s : V) (h : H) (E : List (Nat × V)) (Q : Ex → List (Nat × V) → H → Prop), HWf h → Buf h s l → n < 128 ^ (k + 1) → k ≤ 9 → l.length + k + 1 ≤ 140737488355328 →
  look E 0 = some s → look E 1 = some (.int .u64 (n : Int)) →
  (∀ E' h' s' l' (m : Nat), look E' 0 = some s' → look E' 1 = some (.int .u64 (m : Int)) → m < 128 → l' ++ [m] = l ++ digits k n → Buf h' s' l' → Keep (2 * k) (rowIds s) h h' → (∀ i ∈ rowIds s', i ∈ rowIds s ∨ h.next ≤ i) → Q (.exit 0) E' h') →
  WP ⟨Tryz.prog, told⟩ 20 (.loop vtX) E h Q := by
 intro k
 induction k with
 | zero =>
  intro n l s h E Q hw hs hn _ _ h0 h1 hq
  have hn' : n < 128 := by simpa using hn
  exact varint_end hn' h1 (hq _ h s l n h0 h1 hn' (by rw [digits_small hn']) hs (Keep.refl hw _) (fun i hi => .inl hi))
 | succ k ih =>
  intro n l s h E Q hw hs hn hk hl h0 h1 hq
  by_cases hn' : n < 128
  ·exact varint_end hn' h1 (hq _ h s l n h0 h1 hn' (by rw [digits_small hn']) hs ((Keep.refl hw _).mono (Nat.zero_le _) (fun _ h => h)) (fun i hi => .inl hi))
  ·have hd : n / 128 < 128 ^ (k + 1) := by
    rw [Nat.div_lt_iff_lt_mul (by omega)]
    rw [Nat.pow_succ] at hn
    exact hn
   refine WP.loop (WP.seq (WP.seq (WP.region rfl ?_)))
   refine zo rfl (o_move h1) (zo rfl (o_bin (v := .int .u64 (n : Int)) (u := .int .u64 128) (r := .bool true) rfl rfl (by simp only [binV, ikBeq, cond_true, intV]; congr 2; simp; omega)) ?_)
   refine WPs.nil (WP.cond (t := true) rfl (WP.skip ?_))
   refine WP.block (WP.seq (WP.region rfl ?_))
   refine zo rfl (o_move h0) (zo rfl (o_move h1) (zo rfl (o_conv (v := .int .u64 (n : Int)) rfl conv_u64_u8) (zo rfl (o_bin (v := .int .u8 ((n % 256 : Nat) : Int)) (u := .int .u8 128) (r := .int .u8 ((n % 256 % 128 + 128 : Nat) : Int)) rfl rfl (by simp only [binV, ikBeq, cond_true]; exact intV_or128 (by omega))) ?_)))
   refine WPs.byte1 (b := n % 256 % 128 + 128) rfl hw rfl rfl rfl rfl rfl rfl (by omega) (fun v h₁ b1 k1 f1 => ?_)
   have hs1 : Buf h₁ s l := hs.keep hw k1 (fun i _ => List.not_mem_nil)
   refine WPs.app (s := s) (x := v) rfl k1.wf rfl rfl rfl rfl rfl rfl rfl hs1 b1.view (by simp; omega) (fun v2 h₂ b2 k2 f2 => ?_)
   have hk2 : Keep 2 (rowIds s) h h₂ := (k1.mono (Nat.le_refl _) (fun i hi => by simp at hi)).trans k2 (fun i hi => .inl hi)
   refine za rfl ?_
   refine WPs.nil (WP.region rfl ?_)
   refine zo rfl (o_move h1) (zo rfl (o_bin (v := .int .u64 (n : Int)) (u := .int .u64 7) (r := .int .u64 ((n / 128 : Nat) : Int)) rfl rfl (by simp only [binV]; exact shr7)) ?_)
   refine za rfl (zv ?_)
   refine ih (n / 128) (l ++ [n % 256 % 128 + 128]) v2 h₂ _ Q hk2.wf b2 hd (by omega) (by simp; omega) rfl rfl (fun E' h' s' l' m q1 q2 q3 q4 q5 q6 q7 => ?_)
   refine hq E' h' s' l' m q1 q2 q3 ?_ q5 ?_ (fun i hi => ?_)
   ·rw [q4]
    simp only [digits, if_neg hn', List.append_assoc, List.singleton_append]
    congr 2
    omega
   ·exact (hk2.trans q6 (fun i hi => (f2 i hi).imp_right (fun h => Nat.le_trans k1.le h))).mono (by omega) (fun i hi => hi)
   ·rcases q7 i hi with h3 | h3
    ·exact (f2 i h3).imp_right (fun h => Nat.le_trans k1.le h)
    ·exact .inr (Nat.le_trans hk2.le h3)
theorem varint_do (hT : Std told) {h : H} {s : V} {l : List Nat} {n k : Nat} (hw : HWf h) (hs : Buf h s l) (hn : n < 128 ^ (k + 1)) (hk : k ≤ 9) (hl : l.length + k + 1 ≤ 140737488355328) :
  Call ⟨Tryz.prog, told⟩ 135 [s, .int .u64 (n : Int)] h fun v h' => Buf h' v (l ++ digits k n) ∧ Keep (2 * k + 2) (rowIds s) h h' ∧ ∀ i ∈ rowIds v, i ∈ rowIds s ∨ h.next ≤ i := by
 refine Call.of_wp (hT.free _ rfl) Tryz.func135 rfl rfl ?_
 refine WP.seq (WP.region rfl (WPs.op rfl rfl rfl (o_assign rfl) (WPs.nil ?_)))
 refine WP.seq (WP.block ?_)
 refine varint_loop k n l s h _ _ hw hs hn hk hl rfl rfl (fun E' h' s' l' m q1 q2 q3 q4 q5 q6 q7 => ?_)
 have hl' : l'.length = l.length + (digits k n).length - 1 := by
  have := congrArg List.length q4
  simp at this
  omega
 have hdl : ∀ (k n : Nat), (digits k n).length ≤ k + 1 := by
  intro k
  induction k with
  | zero => intro n; simp [digits]
  | succ k ih =>
   intro n
   unfold digits
   split
   ·simp
   ·simp only [List.length_cons]; have := ih (n / 128); omega
 have hdl' := hdl k n
 refine WP.seq (WP.region rfl ?_)
 refine zo rfl (o_move q1) (zo rfl (o_move q2) (zo rfl (o_conv (v := .int .u64 (m : Int)) rfl conv_u64_u8) ?_))
 refine WPs.byte1 (b := m % 256) rfl q6.wf rfl rfl rfl rfl rfl rfl (by omega) (fun v h₁ b1 k1 f1 => ?_)
 have hs1 : Buf h₁ s' l' := q5.keep q6.wf k1 (fun i _ => List.not_mem_nil)
 refine WPs.app (s := s') (x := v) rfl k1.wf rfl rfl rfl rfl rfl rfl rfl hs1 b1.view (by simp; omega) (fun v2 h₂ b2 k2 f2 => ?_)
 refine za rfl ?_
 refine WPs.nil (WP.ret ?_)
 refine ⟨trivial, v2, rfl, ?_, ?_, fun i hi => ?_⟩
 ·rw [Nat.mod_eq_of_lt (by omega), q4] at b2; exact b2
 ·refine ((q6.trans k1 (fun i hi => by simp at hi)).trans k2 (fun i hi => ?_)).mono (by omega) (fun i hi => hi)
  rcases q7 i hi with h3 | h3
  ·exact .inl h3
  ·exact .inr h3
 ·rcases f2 i hi with h3 | h3
  ·exact q7 i h3
  ·exact .inr (by have := q6.le; have := k1.le; omega)
theorem conv_i64_u64 {h : H} {n : Nat} (hn : n < 18446744073709551616) : convV Tryz.prog h 3 35 (.int .i64 (n : Int)) = some (.int .u64 (n : Int), h) := by
 simp only [convV, Tryz.underlying3, Tryz.underlying35, wrap_u64 hn]
theorem digits_len : ∀ (k n : Nat), (digits k n).length ≤ k + 1 := by
 intro k
 induction k with
 | zero => intro n; simp [digits]
 | succ k ih =>
  intro n
  unfold digits
  split
  ·simp
  ·simp only [List.length_cons]; have := ih (n / 128); omega
theorem text_do (hT : Std told) {h : H} {s x : V} {l m : List Nat} {k : Nat} (hw : HWf h) (hs : Buf h s l) (hx : View h x m) (hd : ∀ i ∈ rowIds x, i ∉ rowIds s) (hn : m.length < 128 ^ (k + 1)) (hk : k ≤ 9) (hl : l.length + k + 1 + m.length ≤ 140737488355328) :
  Call ⟨Tryz.prog, told⟩ 136 [s, x] h fun v h' => Buf h' v (l ++ digits k m.length ++ m) ∧ Keep (2 * k + 3) (rowIds s) h h' ∧ ∀ i ∈ rowIds v, i ∈ rowIds s ∨ h.next ≤ i := by
 refine Call.of_wp (hT.free _ rfl) Tryz.func136 rfl rfl ?_
 refine WP.seq (WP.region rfl (WPs.op rfl rfl rfl (o_assign rfl) (WPs.nil ?_)))
 refine WP.seq (WP.region rfl ?_)
 refine zm rfl (zm rfl (zo rfl (o_len (v := x) rfl rfl rfl hx.len) (zo rfl (o_conv (v := .int .i64 (m.length : Int)) rfl (conv_i64_u64 (by omega))) ?_)))
 refine WPs.call rfl rfl rfl rfl rfl rfl rfl (varint_do hT (k := k) hw hs hn hk (by omega)) (fun v h₁ ⟨b1, k1, f1⟩ => ?_)
 refine zm rfl ?_
 have hdl := digits_len k m.length
 refine WPs.app (s := v) (x := x) rfl k1.wf rfl rfl rfl rfl rfl rfl rfl b1 (hx.keep hw k1 hd) (by simp; omega) (fun v2 h₂ b2 k2 f2 => ?_)
 refine WPs.op rfl rfl rfl (o_assign rfl) (WPs.nil (WP.ret ?_))
 refine ⟨trivial, v2, rfl, b2, (k1.trans k2 f1).mono (by omega) (fun i hi => hi), fun i hi => ?_⟩
 rcases f2 i hi with h3 | h3
 ·exact f1 i h3
 ·exact .inr (Nat.le_trans k1.le h3)
def le : Nat → Nat → List Nat
 | 0, _ => []
 | k + 1, n => (n % 256) :: le k (n / 256)
theorem le_len : ∀ (k n : Nat), (le k n).length = k := by
 intro k
 induction k with
 | zero => intro n; rfl
 | succ k ih => intro n; simp [le, ih]
theorem le_lt : ∀ (k n : Nat), ∀ b ∈ le k n, b < 256 := by
 intro k
 induction k with
 | zero => intro n b hb; cases hb
 | succ k ih =>
  intro n b hb
  rcases List.mem_cons.1 hb with rfl | hb
  ·omega
  ·exact ih _ b hb
noncomputable def lyX : Code := unloop (unblk (rightC (leftC (rightC ((Tryz.f67.body).getD .skip)))))
theorem shr8 {n i : Nat} (hi : i ≤ 8) : shiftV .shr .u64 (n : Int) ((8 * i : Nat) : Int) = some (.int .u64 ((n / 256 ^ i : Nat) : Int)) := by
 simp only [shiftV, IntKind.bits, Int.toNat_natCast]
 rw [show min (8 * i) 64 = 8 * i by omega, show decide (((8 * i : Nat) : Int) < 0) = false by simp; omega, cond_false]
 congr 2
 rw [Int.fdiv_eq_ediv_of_nonneg _ (Int.pow_nonneg (by omega))]
 rw [show (256 : Nat) ^ i = 2 ^ (8 * i) by rw [Nat.pow_mul]]
 push_cast
 rfl
theorem lay_loop {n size : Nat} (hsz : size ≤ 8) : ∀ (j i : Nat) (l : List Nat) (s : V) (h : H) (E : List (Nat × V)) (Q : Ex → List (Nat × V) → H → Prop), HWf h → Buf h s l → i + j = size → l.length + j ≤ 140737488355328 →
  look E 0 = some s → look E 2 = some (.int .u64 (n : Int)) → look E 8 = some (.int .i64 (size : Int)) → look E 9 = some (.int .i64 (i : Int)) →
  (∀ E' h' s', look E' 0 = some s' → Buf h' s' (l ++ le j (n / 256 ^ i)) → Keep (2 * j) (rowIds s) h h' → (∀ i ∈ rowIds s', i ∈ rowIds s ∨ h.next ≤ i) → Q (.exit 0) E' h') →
  WP ⟨Tryz.prog, told⟩ 22 (.loop lyX) E h Q := by
 intro j
 induction j with
 | zero =>
  intro i l s h E Q hw hs hi _ h0 h2 h8 h9 hq
  refine WP.loop (WP.seq (WP.region rfl ?_))
  refine zo rfl (o_bin (v := .int .i64 (i : Int)) (u := .int .i64 (size : Int)) (r := .bool false) h9 h8 (by simp only [binV, ikBeq, cond_true, intV]; congr 2; simp; omega)) ?_
  refine WPs.nil (WP.seq (WP.cond (t := false) rfl (WP.exit ?_)))
  exact hq _ h s h0 (by simpa [le] using hs) (Keep.refl hw _) (fun i hi => .inl hi)
 | succ j ih =>
  intro i l s h E Q hw hs hi hl h0 h2 h8 h9 hq
  refine WP.loop (WP.seq (WP.region rfl ?_))
  refine zo rfl (o_bin (v := .int .i64 (i : Int)) (u := .int .i64 (size : Int)) (r := .bool true) h9 h8 (by simp only [binV, ikBeq, cond_true, intV]; congr 2; simp; omega)) ?_
  refine WPs.nil (WP.seq (WP.cond (t := true) rfl (WP.skip ?_)))
  refine WP.seq (WP.block (WP.seq (WP.region rfl ?_)))
  refine zo rfl (o_move h9) ?_
  refine WPs.op rfl rfl rfl (o_assign rfl) (WPs.nil (WP.region rfl ?_))
  refine zo rfl (o_move h0) (zo rfl (o_move h2) (zm rfl ?_))
  refine WPs.op rfl rfl rfl (o_bin (v := .int .i64 8) (u := .int .i64 (i : Int)) (r := .int .i64 ((8 * i : Nat) : Int)) rfl rfl (by
   simp only [binV, ikBeq, cond_true, intV]
   rw [show (8 : Int) * (i : Int) = ((8 * i : Nat) : Int) by push_cast; rfl, wrap_i64 (by omega)])) ?_
  refine zo rfl (o_bin (v := .int .u64 (n : Int)) (u := .int .i64 ((8 * i : Nat) : Int)) (r := .int .u64 ((n / 256 ^ i : Nat) : Int)) rfl rfl (by simp only [binV]; exact shr8 (by omega))) ?_
  refine zo rfl (o_conv (v := .int .u64 ((n / 256 ^ i : Nat) : Int)) rfl conv_u64_u8) ?_
  refine WPs.byte1 (b := n / 256 ^ i % 256) rfl hw rfl rfl rfl rfl rfl rfl (by omega) (fun v h₁ b1 k1 f1 => ?_)
  have hs1 : Buf h₁ s l := hs.keep hw k1 (fun i _ => List.not_mem_nil)
  refine WPs.app (s := s) (x := v) rfl k1.wf rfl rfl rfl rfl rfl rfl rfl hs1 b1.view (by simp; omega) (fun v2 h₂ b2 k2 f2 => ?_)
  have hk2 : Keep 2 (rowIds s) h h₂ := (k1.mono (Nat.le_refl _) (fun i hi => by simp at hi)).trans k2 (fun i hi => .inl hi)
  refine WPs.op rfl rfl rfl (o_assign rfl) (WPs.nil (WP.region rfl ?_))
  refine zo rfl (o_bin (v := .int .i64 (i : Int)) (u := .int .i64 1) h9 rfl (by simp only [binV, ikBeq, cond_true]; exact intV_add1 (by omega))) ?_
  refine WPs.op rfl rfl rfl (o_move rfl) (WPs.nil ?_)
  refine ih (i + 1) (l ++ [n / 256 ^ i % 256]) v2 h₂ _ Q hk2.wf b2 (by omega) (by simp; omega) rfl h2 h8 rfl (fun E' h' s' q1 q2 q3 q4 => ?_)
  refine hq E' h' s' q1 ?_ ?_ (fun i hi => ?_)
  ·have e1 : n / 256 ^ (i + 1) = n / 256 ^ i / 256 := by rw [Nat.pow_succ, Nat.div_div_eq_div_mul]
   rw [e1] at q2
   simpa [le] using q2
  ·exact (hk2.trans q3 (fun i hi => (f2 i hi).imp_right (fun h => Nat.le_trans k1.le h))).mono (by omega) (fun i hi => hi)
  ·rcases q4 i hi with h3 | h3
   ·exact (f2 i h3).imp_right (fun h => Nat.le_trans k1.le h)
   ·exact .inr (Nat.le_trans hk2.le h3)
theorem lay_do (hT : Std told) {h : H} {s : V} {l : List Nat} {n size : Nat} (hw : HWf h) (hs : Buf h s l) (hsz : size ≤ 8) (hl : l.length + size ≤ 140737488355328) :
  Call ⟨Tryz.prog, told⟩ 67 [s, .int .i64 (size : Int), .int .u64 (n : Int)] h fun v h' => Buf h' v (l ++ le size n) ∧ Keep (2 * size) (rowIds s) h h' ∧ ∀ i ∈ rowIds v, i ∈ rowIds s ∨ h.next ≤ i := by
 refine Call.of_wp (hT.free _ rfl) Tryz.func67 rfl rfl ?_
 refine WP.seq (WP.region rfl (WPs.op rfl rfl rfl (o_assign rfl) (WPs.nil ?_)))
 refine WP.seq (WP.seq (WP.region rfl ?_))
 refine zm rfl ?_
 refine WPs.op rfl rfl rfl (o_move rfl) (WPs.nil (WP.block ?_))
 refine lay_loop hsz size 0 l s h _ _ hw hs (by omega) hl rfl rfl rfl rfl (fun E' h' s' q1 q2 q3 q4 => ?_)
 refine WP.seq (WP.region rfl ?_)
 refine zo rfl (o_move q1) ?_
 refine WPs.op rfl rfl rfl (o_assign rfl) (WPs.nil (WP.ret ?_))
 exact ⟨trivial, s', rfl, by simpa using q2, q3, q4⟩
theorem bytesIn_of : ∀ (l : List Nat), (∀ b ∈ l, b < 256) → bytesIn (ofBytes l) = some l := by
 intro l
 induction l with
 | nil => intro _; rfl
 | cons b l ih =>
  intro h
  have hb := h b List.mem_cons_self
  have := ih (fun c hc => h c (List.mem_cons_of_mem _ hc))
  show bytesIn (.int .u8 (b : Int) :: ofBytes l) = _
  simp only [bytesIn, this]
  rw [show (decide ((0 : Int) ≤ (b : Int)) && decide ((b : Int) < 256)) = true by simp; omega]
  rfl
def crcM (s : Nat) (l : List Nat) : Nat := Nat.xor (crcL (Nat.xor s 4294967295) l) 4294967295
theorem crcM_lt {s : Nat} {l : List Nat} (hs : s < 4294967296) (hl : ∀ b ∈ l, b < 256) : crcM s l < 4294967296 := xor_lt (crcL_lt l _ (xor_lt hs (by omega)) hl) (by omega)
theorem more_do (hT : Std told) {h : H} {x : V} {l : List Nat} {s : Nat} (hx : View h x l) (hl : l.length ≤ 4611686018427387904) (hs : s < 4294967296) :
  CallDo ⟨Tryz.prog, told⟩ 119 [.int .u32 (s : Int), x] h (.int .u32 (crcM s l : Nat)) h := by
 refine CallDo.told hT.more Tryz.func119 rfl ?_
 have hx' := hx
 obtain ⟨hb, hx'⟩ := hx'
 rcases hx' with ⟨rfl | ⟨ea, rfl⟩, rfl⟩ | ⟨id, off, cap, n, cs, st, rfl, hg, h1, h2, h3, h4⟩
 ·simp only [toldMore]
  rw [show (decide ((0 : Int) ≤ (s : Int)) && decide ((s : Int) < 4294967296)) = true by simp; omega]
  rfl
 ·simp only [toldMore]
  rw [show (decide ((0 : Int) ≤ (s : Int)) && decide ((s : Int) < 4294967296)) = true by simp; omega]
  rfl
 ·simp only [toldMore]
  rw [show (decide ((0 : Int) ≤ (s : Int)) && decide ((s : Int) < 4294967296) && Nat.ble l.length 4611686018427387904) = true by simp [ble_iff]; omega, cond_true, (View.rdN hx).2]
  simp only [bytesIn_of l hb]
  rfl
theorem of_do (hT : Std told) {h : H} {x : V} {l : List Nat} (hx : View h x l) (hl : l.length ≤ 4611686018427387904) :
  Call ⟨Tryz.prog, told⟩ 84 [x] h fun v h' => v = .int .u32 (crcM 0 l : Nat) ∧ h' = h := by
 refine Call.of_wp (hT.free _ rfl) Tryz.func84 rfl rfl ?_
 refine WP.seq (WP.region rfl (WPs.op rfl rfl rfl (o_assign rfl) (WPs.nil ?_)))
 refine WP.seq (WP.region rfl ?_)
 refine zm rfl ?_
 refine WPs.call (R₁ := fun v h' => v = .int .u32 (crcM 0 l : Nat) ∧ h' = h) rfl rfl rfl rfl rfl rfl rfl ⟨_, _, more_do (s := 0) hT hx hl (by omega), rfl, rfl⟩ (fun v h₁ ⟨e1, e2⟩ => ?_)
 subst e1; subst e2
 exact WPs.op rfl rfl rfl (o_assign rfl) (WPs.nil (WP.ret ⟨trivial, _, rfl, rfl, rfl⟩))
def sumAt (lsn : Nat) (l : List Nat) : Nat := crcM (crcM 0 (le 8 lsn)) l
theorem sumAt_lt {lsn : Nat} {l : List Nat} (hl : ∀ b ∈ l, b < 256) : sumAt lsn l < 4294967296 := crcM_lt (crcM_lt (by omega) (le_lt 8 lsn)) hl
theorem summed_do (hT : Std told) {h : H} {x : V} {l : List Nat} {lsn : Nat} (hw : HWf h) (hx : View h x l) (hl : l.length ≤ 4611686018427387904) :
  Call ⟨Tryz.prog, told⟩ 100 [.int .u64 (lsn : Int), x] h fun v h' => v = .int .u32 (sumAt lsn l : Nat) ∧ Keep 16 [] h h' := by
 refine Call.of_wp (hT.free _ rfl) Tryz.func100 rfl rfl ?_
 refine WP.seq (WP.region rfl (WPs.op rfl rfl rfl (o_assign rfl) (WPs.nil ?_)))
 refine WP.seq (WP.region rfl ?_)
 refine zm rfl ?_
 refine WPs.call rfl rfl rfl rfl rfl rfl rfl (lay_do (size := 8) (s := .sl0) (l := []) (n := lsn) hT hw ⟨by simp, .inl ⟨rfl, rfl⟩⟩ (by omega) (by simp)) (fun v h₁ ⟨b1, k1, f1⟩ => ?_)
 rw [List.nil_append] at b1
 refine WPs.call rfl rfl rfl rfl rfl rfl rfl (of_do hT b1.view (by rw [le_len]; omega)) (fun v2 h₂ ⟨e1, e2⟩ => ?_)
 subst e1; subst e2
 refine zm rfl ?_
 refine WPs.call (R₁ := fun v h' => v = .int .u32 (sumAt lsn l : Nat) ∧ h' = h₂) rfl rfl rfl rfl rfl rfl rfl
  ⟨_, _, more_do (s := crcM 0 (le 8 lsn)) hT (hx.keep hw k1 (fun i _ hi => by simp [rowIds] at hi)) hl (crcM_lt (by omega) (le_lt 8 lsn)), rfl, rfl⟩ (fun v3 h₃ ⟨e3, e4⟩ => ?_)
 subst e3; subst e4
 exact WPs.op rfl rfl rfl (o_assign rfl) (WPs.nil (WP.ret ⟨trivial, _, rfl, rfl, k1.mono (Nat.le_refl _) (fun i hi => by simp [rowIds] at hi)⟩))
end
end Go.Proofs.YtconhghphklfjaaGreat.Am
namespace Go.Proofs.YtconhghphklfjaaGreat.Am
open Go
def toldFs : List Nat := [11, 119, 50, 101, 75, 76]
structure W (told : Nat → Option (List V → H → Option (V × H))) : Prop where
 free : ∀ f, inL toldFs f = false → told f = none
 more : told 119 = some toldMore
 sorted : told 50 = some (toldSorted iters)
theorem W.std {told : Nat → Option (List V → H → Option (V × H))} (hT : W told) : Std told := by
 refine ⟨fun f hf => hT.free f ?_, hT.more⟩
 have : ∀ f ∈ walkedFs, inL toldFs f = false := by decide
 exact this f (by rw [inL_eq] at hf; simpa using hf)
def roO (v : V) : Option (List Nat) → Assn
 | none => .pu (v = .sl0)
 | some b => .an (.pu (v ≠ .sl0)) (.rob v b)
theorem Pers.roO (v : V) (o : Option (List Nat)) : Pers (Am.roO v o) := by
 cases o with
 | none => exact Pers.pu _
 | some b => exact Pers.an (Pers.pu _) (Pers.rob _ _)
def each {α : Type} (f : V → α → Assn) : List V → List α → Assn
 | [], [] => .pu True
 | v :: l, x :: m => .an (f v x) (each f l m)
 | _, _ => .pu False
theorem Pers.each {α : Type} {f : V → α → Assn} (hf : ∀ v x, Pers (f v x)) : ∀ (l : List V) (m : List α), Pers (Am.each f l m) := by
 intro l
 induction l with
 | nil => intro m; cases m <;> exact Pers.pu _
 | cons v l ih => intro m; cases m with
  | nil => exact Pers.pu _
  | cons x m => exact Pers.an (hf _ _) (ih m)
section
variable {α : Type} {f : V → α → Assn} {a b : PM}
theorem each_len : ∀ {l : List V} {m : List α}, (each f l m).p a b → l.length = m.length := by
 intro l
 induction l with
 | nil => intro m h; cases m with
  | nil => rfl
  | cons x m => exact h.elim
 | cons v l ih => intro m h; cases m with
  | nil => exact h.elim
  | cons x m => simp only [List.length_cons, ih h.2]
theorem each_get : ∀ {l : List V} {m : List α} {i : Nat} {v : V} {x : α}, (each f l m).p a b → l[i]? = some v → m[i]? = some x → (f v x).p a b := by
 intro l
 induction l with
 | nil => intro m i v x h hv; simp at hv
 | cons u l ih => intro m i v x h hv hx; cases m with
  | nil => exact h.elim
  | cons y m =>
   cases i with
   | zero => simp at hv hx; subst hv; subst hx; exact h.1
   | succ i => simp at hv hx; exact ih h.2 hv hx
end
abbrev Wr := Nat × List Nat
structure Dk where
 room : Nat
 pages : List (Option (List Nat))
 waiting : List Wr
 now : List (Int × List Nat)
 log : List Nat
 certain : Nat
 mark : List Nat
 fuse : Int
 dead : Bool
 torn : Option Wr
 tail : List Nat
def dkC (room : Nat) (pg wt nw lg : V) (ct : Nat) (mk : V) (fu ops : Int) (dead : Bool) (tn tl : V) : List V :=
 [.int .i64 (room : Int), pg, wt, nw, lg, .int .i64 (ct : Int), mk, .int .i64 fu, .int .i64 ops, .bool dead, tn, tl]
def wrA : List V → List Wr → Assn
 | [], [] => .pu True
 | p :: v :: l, x :: m => .an (.an (.pu (p = .int .i64 (x.1 : Int) ∧ v ≠ .sl0)) (.rob v x.2)) (wrA l m)
 | _, _ => .pu False
theorem Pers.wr : ∀ (m : List Wr) (l : List V), Pers (wrA l m) := by
 intro m
 induction m with
 | nil => intro l; cases l with
  | nil => exact Pers.pu _
  | cons v l => cases l <;> exact Pers.pu _
 | cons x m ih => intro l; cases l with
  | nil => exact Pers.pu _
  | cons v l => cases l with
   | nil => exact Pers.pu _
   | cons u l => exact Pers.an (Pers.an (Pers.pu _) (Pers.rob _ _)) (ih l)
theorem wrA_app {a b : PM} : ∀ {m : List Wr} {l : List V} {x : Wr} {v : V}, (wrA l m).p a b → v ≠ .sl0 → (Assn.rob v x.2).p a b → (wrA (l ++ [.int .i64 (x.1 : Int), v]) (m ++ [x])).p a b := by
 intro m
 induction m with
 | nil => intro l x v h hn hv; cases l with
  | nil => exact ⟨⟨⟨rfl, hn⟩, hv⟩, trivial⟩
  | cons u l => cases l <;> exact h.elim
 | cons y m ih => intro l x v h hn hv; cases l with
  | nil => exact h.elim
  | cons u l => cases l with
   | nil => exact h.elim
   | cons w l => exact ⟨h.1, ih h.2 hn hv⟩
theorem wrA_len {a b : PM} : ∀ {m : List Wr} {l : List V}, (wrA l m).p a b → l.length = m.length * 2 := by
 intro m
 induction m with
 | nil => intro l h; cases l with
  | nil => rfl
  | cons u l => cases l <;> exact h.elim
 | cons y m ih => intro l h; cases l with
  | nil => exact h.elim
  | cons u l => cases l with
   | nil => exact h.elim
   | cons w l => have := ih h.2; simp only [List.length_cons]; omega
def pagesA (v : V) (m : List (Option (List Nat))) : Assn := xs fun id : Nat => xs fun cs : List V => star [.pu (v = .sl id 0 m.length (.exact m.length)), pt id (.cells m.length cs false), each roO cs m]
def waitA (v : V) (m : List Wr) : Assn := xs fun cs : List V => star [.arr 2 v cs, wrA cs m]
def tornA (v : V) : Option Wr → Assn
 | none => .pu (v = .ptr0)
 | some x => xs fun id : Nat => xs fun u : V => star [.pu (v = .ptr id 0), pt id (.cells 2 [.int .i64 (x.1 : Int), u] false), .rob u x.2]
def isDk (p : Nat) (δ : Dk) : Assn := xs fun pg : V => xs fun wt : V => xs fun nw : V => xs fun lg : V => xs fun mk : V => xs fun tn : V => xs fun tl : V => xs fun ops : Int =>
 star [pt p (.cells 12 (dkC δ.room pg wt nw lg δ.certain mk δ.fuse ops δ.dead tn tl) false), pagesA pg δ.pages, waitA wt δ.waiting, mapV (fun v b => .rob v b) nw δ.now, bufA lg δ.log, roB mk δ.mark, tornA tn δ.torn, roB tl δ.tail]
section
variable {h : H} {S : List Assn} {p : Nat} {δ : Dk}
theorem isDk_iff : Sat h (isDk p δ :: S) ↔ ∃ pg wt nw lg mk tn tl ops, Sat h (pt p (.cells 12 (dkC δ.room pg wt nw lg δ.certain mk δ.fuse ops δ.dead tn tl) false) :: pagesA pg δ.pages :: waitA wt δ.waiting :: mapV (fun v b => .rob v b) nw δ.now :: bufA lg δ.log :: roB mk δ.mark :: tornA tn δ.torn :: roB tl δ.tail :: S) := by
 simp only [isDk, Sat_xs, Sat_star, List.cons_append, List.nil_append]
theorem pagesA_iff {v : V} {m : List (Option (List Nat))} : Sat h (pagesA v m :: S) ↔ ∃ id cs, v = .sl id 0 m.length (.exact m.length) ∧ Sat h (pt id (.cells m.length cs false) :: each roO cs m :: S) := by
 simp only [pagesA, Sat_xs, Sat_star, List.cons_append, List.nil_append, Sat_pu]
theorem waitA_iff {v : V} {m : List Wr} : Sat h (waitA v m :: S) ↔ ∃ cs, Sat h (.arr 2 v cs :: wrA cs m :: S) := by
 simp only [waitA, Sat_xs, Sat_star, List.cons_append, List.nil_append]
end
section
variable {told : Nat → Option (List V → H → Option (V × H))} {h : H} {S : List Assn} {X : Assn} {v : V} {l : List Nat}
def crc (s : Nat) (l : List Nat) : Nat := Nat.xor (crcL (Nat.xor s 4294967295) l) 4294967295
theorem crc_lt32 {s : Nat} {l : List Nat} (hs : s < 4294967296) (hl : ∀ b ∈ l, b < 256) : crc s l < 4294967296 := xor_lt (crcL_lt _ _ (xor_lt hs (by omega)) hl) (by omega)
theorem more_ct (hT : W told) {k s : Nat} (sa : Sat h S) (hk : getA S k = some X) (hX : Ent X (rdB v l)) (hs : s < 4294967296) (hl : l.length ≤ 4611686018427387904) :
  Call ⟨Tryz.prog, told⟩ 119 [.int .u32 (s : Int), v] h fun r h' => r = .int .u32 (crc s l : Nat) ∧ h' = h := by
 have hv := sa.viewX hk hX
 refine ⟨_, _, CallDo.told hT.more Tryz.func119 rfl ?_, rfl, rfl⟩
 have hmo : moreOf (s : Int) l = .int .u32 (crc s l : Nat) := by simp only [moreOf, crc, Int.toNat_natCast]
 have hv' := hv
 rcases hv'.2 with ⟨rfl | ⟨ea, rfl⟩, rfl⟩ | ⟨id, off, cap, n, cs, st, rfl, _⟩
 ·simp only [toldMore]
  rw [show (decide ((0 : Int) ≤ (s : Int)) && decide ((s : Int) < 4294967296)) = true by simp; omega, cond_true, hmo]
 ·simp only [toldMore]
  rw [show (decide ((0 : Int) ≤ (s : Int)) && decide ((s : Int) < 4294967296)) = true by simp; omega, cond_true, hmo]
 ·simp only [toldMore]
  rw [show (decide ((0 : Int) ≤ (s : Int)) && decide ((s : Int) < 4294967296) && Nat.ble l.length 4611686018427387904) = true by rw [ble_iff.2 hl]; simp; omega, cond_true, hv.rdN.2]
  simp only
  have : ∀ l : List Nat, (∀ b ∈ l, b < 256) → bytesIn (ofBytes l) = some l := by
   intro l
   induction l with
   | nil => intro _; rfl
   | cons b l ih =>
    intro hb
    have h1 := ih (fun x hx => hb x (List.mem_cons_of_mem _ hx))
    simp only [ofBytes, List.map_cons] at h1 ⊢
    simp only [bytesIn, h1]
    have hb0 := hb b List.mem_cons_self
    rw [show (decide (0 ≤ (b : Int)) && decide ((b : Int) < 256)) = true by simp; omega, cond_true]
    rfl
  rw [this l hv.1]
  simp only [hmo]
end
end Go.Proofs.YtconhghphklfjaaGreat.Am
