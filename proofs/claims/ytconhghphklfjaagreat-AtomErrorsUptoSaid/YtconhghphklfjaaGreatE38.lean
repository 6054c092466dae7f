/- A group that is over or open, pages that are none and records that may not be are refused, and a record that was done is read back; the conditions are those of the given statement, for arguments that a machine can hold. Part 38 of 44. -/
import Derived.Test.YtconhghphklfjaaGreatE37
namespace Go.Proofs.YtconhghphklfjaaGreat.Am
open Go
section
variable {told : Nat → Option (List V → H → Option (V × H))} {h : H} {S : List Assn} {X Y : Assn} {r k q p fid a g chk : Nat} {op v x u wh di : V} {l b was data data0 : List Nat} {now : List (Int × List Nat)} {over : Bool} {ε : Eng} {μ : Lg} {δ : Dk}
theorem sLog_ct (hT : W told) (s : Sat h (isSt a p q r op data chk :: S)) : Call ⟨Tryz.prog, told⟩ 19 [.ptr a 0] h fun v h' => v = .ptr q 0 ∧ h' = h := by
 obtain ⟨dv, s⟩ := isSt_iff.1 s
 refine Call.of_wp (hT.free _ rfl) Tryz.func19 rfl rfl (zg rfl (za rfl (zv (zg rfl (zm rfl (zn rfl (zf rfl (fa85_1 _ _) (zl rfl (by exact s.ld (k := 0) rfl ag44 rfl) ?_))))))))
 refine za rfl (zv ?_)
 refine WP.ret ⟨trivial, _, rfl, ?_⟩
 exact ⟨rfl, rfl⟩
theorem clean_held (hT : W told) (s : Sat h (isSt a p q r (.ptr g 0) data chk :: S)) : Call ⟨Tryz.prog, told⟩ 26 [.ptr a 0] h fun v h' => v = .int .i64 18 ∧ Sat h' (isSt a p q r (.ptr g 0) data chk :: S) := by
 have s0 := s
 obtain ⟨dv, s⟩ := isSt_iff.1 s
 refine Call.of_wp (hT.free _ rfl) Tryz.func26 rfl rfl (zg rfl (za rfl (zv (zw (WP.block (zg rfl (zm rfl (zn rfl (zf rfl (fa85_3 _ _) (zl rfl (by exact s.ld (k := 0) rfl ag27 rfl) ?_))))))))))
 refine WPs.opT rfl rfl rfl (o_bin rfl rfl (neqP0 Tryz.underlying27)) (rfl) (za rfl (zv (zi rfl (zg rfl (za rfl (zv ?_))))))
 refine WP.ret ⟨trivial, _, rfl, ?_⟩
 exact ⟨rfl, s0⟩
theorem check_held (hT : W told) {lo y : V} (s : Sat h (isSt a p q r (.ptr g 0) data chk :: S)) : Call ⟨Tryz.prog, told⟩ 25 [.ptr a 0, lo, y] h fun v h' => v = .int .i64 18 ∧ Sat h' (isSt a p q r (.ptr g 0) data chk :: S) := by
 have s0 := s
 obtain ⟨dv, s⟩ := isSt_iff.1 s
 refine Call.of_wp (hT.free _ rfl) Tryz.func25 rfl rfl (zg rfl (za rfl (zv (zw (WP.block (zg rfl (zm rfl (zn rfl (zf rfl (fa85_3 _ _) (zl rfl (by exact s.ld (k := 0) rfl ag27 rfl) ?_))))))))))
 refine WPs.opT rfl rfl rfl (o_bin rfl rfl (neqP0 Tryz.underlying27)) (rfl) (za rfl (zv (zi rfl (zg rfl (za rfl (zv ?_))))))
 refine WP.ret ⟨trivial, _, rfl, ?_⟩
 exact ⟨rfl, s0⟩
end
end Go.Proofs.YtconhghphklfjaaGreat.Am
namespace Go.Proofs.YtconhghphklfjaaGreat.Am
open Go
section
variable {told : Nat → Option (List V → H → Option (V × H))} {h : H} {S : List Assn} {X Y : Assn} {r k q p fid a g chk : Nat} {op v x u wh di : V} {l b was data data0 : List Nat} {now : List (Int × List Nat)} {over : Bool} {ε : Eng} {μ : Lg} {δ : Dk}
theorem lawOpen_ct (hT : W told) {n m f : Nat} (s : Sat h S) (h1 : 1 ≤ n) (h2 : n ≤ 65536) (h3 : m ≤ 16777216) (h4 : 1 ≤ f) (h5 : f ≤ 1024) :
  Call ⟨Tryz.prog, told⟩ 12 [.int .i64 (n : Int), .int .i64 (m : Int), .int .i64 (f : Int)] h fun v h' => ∃ p a q r, v = .tup [.ptr p 0, .ptr a 0] ∧
   Sat h' (isSt a p q r .ptr0 [] 0 :: isPl r p q (Pl.fresh f) :: isLg q p Lg.fresh :: isDk p (Dk.fresh n m) :: S) := by
 refine Call.of_wp (hT.free _ rfl) Tryz.func12 rfl rfl (zg rfl (za rfl (za rfl (zv (zg rfl (zm rfl (zm rfl (WPs.call rfl rfl rfl rfl rfl rfl rfl (dNew_ct (n := (n : Int)) (m := (m : Int)) hT s) ?_))))))))
 rintro v h (⟨hn, _, _⟩ | ⟨_, _, _, _, p, rfl, s⟩)
 ·omega
 rw [Int.toNat_natCast, Int.toNat_natCast] at s
 refine zm rfl (ze rfl (ze rfl (za rfl (za rfl (zv (zw (zg rfl (zm rfl (WPs.opF rfl rfl rfl (o_bin rfl rfl bNeq) (rfl) (zm rfl (zm rfl (WPs.opF rfl rfl rfl (o_bin rfl rfl (eqlP0 Tryz.underlying23)) (rfl) (zp rfl (zv (zj rfl (WP.skip (zg rfl (zm rfl (zm rfl (WPs.call rfl rfl rfl rfl rfl rfl rfl (sOpen_fresh (n := f) hT s h4 h5 rfl rfl rfl rfl) ?_))))))))))))))))))))
 rintro v h ⟨a, q, r, rfl, s⟩
 refine zm rfl (ze rfl (ze rfl (za rfl (za rfl (zv (zw (zg rfl (zm rfl (WPs.opF rfl rfl rfl (o_bin rfl rfl bNeq) (rfl) (zm rfl (zm rfl (WPs.opF rfl rfl rfl (o_bin rfl rfl (eqlP0 Tryz.underlying24)) (rfl) (zp rfl (zv (zj rfl (WP.skip (zg rfl (zm rfl (zm rfl (za rfl (za rfl (zv ?_))))))))))))))))))))))
 refine WP.ret ⟨trivial, _, rfl, ?_⟩
 exact ⟨p, a, q, r, rfl, s⟩
end
end Go.Proofs.YtconhghphklfjaaGreat.Am
namespace Go.Proofs.YtconhghphklfjaaGreat.Am
open Go
section
variable {P : Program} {h : H} {S : List Assn} {k : Nat}
end
section
variable {told : Nat → Option (List V → H → Option (V × H))} {h : H} {S : List Assn} {X Y : Assn} {r k q p fid a g chk : Nat} {op v x u wh di : V} {l b was data data0 : List Nat} {μ : Lg} {δ : Dk}
end
end Go.Proofs.YtconhghphklfjaaGreat.Am
namespace Go.Proofs.YtconhghphklfjaaGreat.Am
open Go
section
variable {told : Nat → Option (List V → H → Option (V × H))} {h : H} {S : List Assn} {X Y : Assn} {r k q p fid a g chk : Nat} {op v x u wh di : V} {l b was data data0 : List Nat} {μ : Lg} {δ : Dk}
end
end Go.Proofs.YtconhghphklfjaaGreat.Am
namespace Go.Proofs.YtconhghphklfjaaGreat.Am
open Go
section
variable {told : Nat → Option (List V → H → Option (V × H))} {h : H} {S : List Assn} {X Y : Assn} {r k q p fid a g chk : Nat} {op v x u wh di : V} {l b was data data0 : List Nat} {μ : Lg} {δ : Dk}
end
end Go.Proofs.YtconhghphklfjaaGreat.Am
namespace Go.Proofs.YtconhghphklfjaaGreat.Am
open Go
section
variable {told : Nat → Option (List V → H → Option (V × H))} {h : H} {S : List Assn} {X Y : Assn} {r k q p fid a g chk : Nat} {op v x u wh di : V} {l b was data data0 : List Nat} {μ : Lg} {δ : Dk}
end
end Go.Proofs.YtconhghphklfjaaGreat.Am
namespace Go.Proofs.YtconhghphklfjaaGreat.Am
open Go
section
variable {told : Nat → Option (List V → H → Option (V × H))} {h : H} {S : List Assn} {X Y : Assn} {r k q p fid a g chk : Nat} {op v x u wh di : V} {l b was data data0 : List Nat} {now : List (Int × List Nat)} {over : Bool} {ε : Eng} {μ : Lg} {δ : Dk} {π : Pl}
end
end Go.Proofs.YtconhghphklfjaaGreat.Am
namespace Go.Proofs.YtconhghphklfjaaGreat.Am
open Go
section
variable {told : Nat → Option (List V → H → Option (V × H))} {h : H} {S : List Assn} {X Y : Assn} {r k q p fid a g chk : Nat} {op v x u wh di : V} {l b was data data0 : List Nat} {ε : Eng}
end
end Go.Proofs.YtconhghphklfjaaGreat.Am
namespace Go.Proofs.YtconhghphklfjaaGreat.Am
open Go
section
variable {told : Nat → Option (List V → H → Option (V × H))} {h : H} {S : List Assn} {X : Assn} {k : Nat} {v : V} {l : List Nat}
end
end Go.Proofs.YtconhghphklfjaaGreat.Am
namespace Go.Proofs.YtconhghphklfjaaGreat.Am
open Go
theorem bytesOf_of : ∀ {l : List Nat}, (∀ b ∈ l, b < 256) → bytesOf (ofBytes l) = some l := by
 intro l
 induction l with
 | nil => intro _; rfl
 | cons b l ih =>
  intro h
  have h1 := ih fun x hx => h x (List.mem_cons_of_mem _ hx)
  have h2 := h b List.mem_cons_self
  rw [ofBytes] at h1
  simp only [ofBytes, List.map_cons, bytesOf, h1, Option.some.injEq, List.cons.injEq, and_true]
  omega
theorem cvS {h : H} {v : V} {l : List Nat} (hv : View h v l) : convV Tryz.prog h 32 9 v = some (.str l, h) := by
 obtain ⟨hb, (⟨rfl | ⟨ea, rfl⟩, rfl⟩ | ⟨id, off, cap, n, cs, st, rfl, hg, hl, ho, hc, _⟩)⟩ := hv
 ·simp only [convV, Tryz.underlying32, Tryz.underlying9, Tryz.underlying5]
 ·simp only [convV, Tryz.underlying32, Tryz.underlying9, Tryz.underlying5]
 ·have e : rdN h id off l.length = some (ofBytes l) := by rw [rdN_of hg hl ho, hc]
  simp only [convV, Tryz.underlying32, Tryz.underlying9, Tryz.underlying5, e, bytesOf_of hb]
def bodyF (l : List Nat) : List Nat := if l.length ≠ 512 ∨ l = List.replicate 512 0 then [] else l.drop 12
section
variable {told : Nat → Option (List V → H → Option (V × H))} {h : H} {S : List Assn} {X : Assn} {r k q p a g chk : Nat} {op v x : V} {l data : List Nat} {now : List (Int × List Nat)} {over : Bool} {ε : Eng}
end
end Go.Proofs.YtconhghphklfjaaGreat.Am
namespace Go.Proofs.YtconhghphklfjaaGreat.Am
open Go
theorem digits_more : ∀ (k n : Nat), n < 128 ^ (k + 1) → digits (k + 1) n = digits k n := by
 intro k
 induction k with
 | zero => intro n hn; rw [digits_small (by simpa using hn), digits_small (by simpa using hn)]
 | succ k ih =>
  intro n hn
  by_cases h : n < 128
  ·rw [digits_small h, digits_small h]
  ·have hd : n / 128 < 128 ^ (k + 1) := by
    rw [Nat.div_lt_iff_lt_mul (by omega)]
    rw [Nat.pow_succ] at hn
    exact hn
   rw [digits, if_neg h, ih _ hd, digits, if_neg h]
set_option maxRecDepth 10000 in
theorem and127 {n : Nat} (h : n < 256) : Nat.land n 127 = n % 128 := by
 have : ∀ m : Fin 256, Nat.land m.1 127 = m.1 % 128 := by decide
 exact this ⟨n, h⟩
theorem intV_and127 {n : Nat} (h : n < 256) : intV .and .u8 (n : Int) 127 = some (.int .u8 ((n % 128 : Nat) : Int)) := by
 have h1 : ((n : Int) % (2 ^ (IntKind.u8).bits : Int)).toNat = n := by simp only [IntKind.bits]; omega
 have h2 : ((127 : Int) % (2 ^ (IntKind.u8).bits : Int)).toNat = 127 := by simp [IntKind.bits]
 simp only [intV, bitsV, h1, h2, and127 h, wrap_u8]
 congr 2
 omega
theorem conv_u8_u64 {h : H} {n : Nat} (hn : n < 18446744073709551616) : convV Tryz.prog h 5 35 (.int .u8 (n : Int)) = some (.int .u64 (n : Int), h) := by
 simp only [convV, Tryz.underlying5, Tryz.underlying35, wrap_u64 hn]
theorem conv_u8_i64 {h : H} {n : Nat} (hn : n < 9223372036854775808) : convV Tryz.prog h 5 3 (.int .u8 (n : Int)) = some (.int .i64 (n : Int), h) := by
 simp only [convV, Tryz.underlying5, Tryz.underlying3, wrap_i64 hn]
theorem conv_u64_i64 {h : H} {n : Nat} (hn : n < 9223372036854775808) : convV Tryz.prog h 35 3 (.int .u64 (n : Int)) = some (.int .i64 (n : Int), h) := by
 simp only [convV, Tryz.underlying35, Tryz.underlying3, wrap_i64 hn]
theorem pow128 (i : Nat) : (128 : Nat) ^ i = 2 ^ (7 * i) := by rw [Nat.pow_mul]
theorem shl7 {d i : Nat} (hd : d < 128) (hi : i ≤ 8) : shiftV .shl .u64 (d : Int) ((7 * i : Nat) : Int) = some (.int .u64 ((d * 128 ^ i : Nat) : Int)) := by
 have hp : (128 : Nat) ^ i ≤ 128 ^ 8 := Nat.pow_le_pow_right (by omega) hi
 have hlt : d * 128 ^ i < 18446744073709551616 := by
  have : d * 128 ^ i ≤ 127 * 128 ^ 8 := Nat.mul_le_mul (by omega) hp
  omega
 simp only [shiftV, IntKind.bits, Int.toNat_natCast]
 rw [show min (7 * i) 64 = 7 * i by omega, show decide (((7 * i : Nat) : Int) < 0) = false by simp; omega, cond_false]
 have : (d : Int) * 2 ^ (7 * i) = ((d * 128 ^ i : Nat) : Int) := by rw [pow128]; push_cast; rfl
 simp only [this, wrap_u64 hlt]
theorem or_high {a d i : Nat} (ha : a < 128 ^ i) (hd : d < 128) (hi : i ≤ 8) : intV .or .u64 (a : Int) ((d * 128 ^ i : Nat) : Int) = some (.int .u64 ((a + d * 128 ^ i : Nat) : Int)) := by
 have hp : (128 : Nat) ^ i ≤ 128 ^ 8 := Nat.pow_le_pow_right (by omega) hi
 have hm : d * 128 ^ i ≤ 127 * 128 ^ 8 := Nat.mul_le_mul (by omega) hp
 have h1 : ((a : Int) % (2 ^ (IntKind.u64).bits : Int)).toNat = a := by simp only [IntKind.bits]; omega
 have h2 : ((d * 128 ^ i : Nat) : Int) % (2 ^ (IntKind.u64).bits : Int) = ((d * 128 ^ i : Nat) : Int) := by simp only [IntKind.bits]; omega
 have h3 : Nat.lor a (d * 128 ^ i) = a + d * 128 ^ i := by
  have e : d * 128 ^ i = 2 ^ (7 * i) * d := by rw [← pow128, Nat.mul_comm]
  have := Nat.two_pow_add_eq_or_of_lt (i := 7 * i) (b := a) (by rw [← pow128]; exact ha) d
  rw [← e] at this
  rw [Nat.add_comm a, this]
  exact Nat.or_comm _ _
 simp only [intV, bitsV, h1, h2, Int.toNat_natCast, h3]
 rw [wrap_u64 (by omega)]
section
variable {told : Nat → Option (List V → H → Option (V × H))} {h : H} {S : List Assn} {X : Assn} {c : Nat} {v w : V} {l m : List Nat}
theorem must_ct (hT : W told) : Call ⟨Tryz.prog, told⟩ 153 [.bool true] h fun v h' => v = .tup [] ∧ h' = h := by
 refine Call.of_wp (hT.free _ rfl) Tryz.func153 rfl rfl (zg rfl (zm rfl (WPs.opF rfl rfl rfl (o_un rfl rfl) (rfl) (zv (zj rfl (WP.skip ?_))))))
 exact ⟨trivial, _, rfl, rfl, rfl⟩
theorem cbyte_ct (hT : W told) {x : Nat} (s : Sat h (pt c (.cells 1 [v] false) :: X :: S)) (hX : Ent X (rdB v (x :: l))) :
  Call ⟨Tryz.prog, told⟩ 149 [.ptr c 0] h fun r h' => r = .int .u8 (x : Int) ∧ ∃ u, Ent X (rdB u l) ∧ Sat h' (pt c (.cells 1 [u] false) :: X :: S) := by
 have hv := s.viewX (k := 1) rfl hX
 obtain ⟨id, off, e1, e2⟩ := index_view hv (i := 0) (b := x) rfl
 have hsl := slice_from hv (a := 1) (by simp)
 have hu := hsl.2.1.cells
 refine Call.of_wp (hT.free _ rfl) Tryz.func149 rfl rfl (zg rfl (za rfl (zv (zg rfl (zm rfl (zn rfl (zf rfl (fa202_0 _ _) (zl rfl (by exact s.ld (k := 0) rfl ag32 rfl) ?_))))))))
 refine zo rfl (o_len rfl rfl rfl (len_view Tryz.underlying32 hv)) (WPs.opT rfl rfl rfl (o_bin rfl rfl bGtr) (by simp) ?_)
 refine WPs.call rfl rfl rfl rfl rfl rfl rfl (must_ct hT) ?_
 rintro r h' ⟨rfl, rfl⟩
 refine zv (zg rfl (zm rfl (zn rfl (zf rfl (fa202_0 _ _) (zl rfl (by exact s.ld (k := 0) rfl ag32 rfl) ?_)))))
 refine zo rfl (o_ia (r := .ptr id off) rfl rfl e1) (zl rfl e2 (za rfl (zv (zg rfl (zm rfl (zm rfl (zn rfl (zf rfl (fa202_0 _ _) (zl rfl (by exact s.ld (k := 0) rfl ag32 rfl) ?_)))))))))
 refine zo rfl (o_slice (p := some (.int .i64 1)) (q := none) (m := none) (p' := some 1) (q' := none) (m' := none) rfl rfl rfl rfl rfl rfl rfl hsl.1) (zn rfl (zf rfl (fa202_0 _ _) (WPs.stS rfl rfl rfl rfl rfl (s.st1 (k := 0) rfl sz32 rfl (by decide) hu.1 hu.2) ?_)))
 rintro h s
 dsimp only [Nat.reduceAdd, List.length_cons, List.set, setA] at s
 refine zv (zg rfl (zm rfl (za rfl (zv ?_))))
 refine WP.ret ⟨trivial, _, rfl, ?_⟩
 exact ⟨rfl, _, rd_from hX (by simp), s⟩
def Cu (h : H) (c : Nat) (X : Assn) (S : List Assn) (l : List Nat) : Prop := ∃ v, Ent X (rdB v l) ∧ Sat h (pt c (.cells 1 [v] false) :: X :: S)
theorem byte_ct (hT : W told) {x : Nat} (hc : Cu h c X S (x :: l)) : Call ⟨Tryz.prog, told⟩ 149 [.ptr c 0] h fun r h' => r = .int .u8 (x : Int) ∧ Cu h' c X S l := by
 obtain ⟨v, hX, s⟩ := hc
 exact (cbyte_ct hT s hX).mono fun r h' ⟨e, u, hU, s'⟩ => ⟨e, u, hU, s'⟩
noncomputable def nbX : Code := pathC [1, 1, 0, 0] ((Tryz.f150.body).getD .skip)
noncomputable def nbBlk : Code := unblk (leftC nbX)
noncomputable def nbC : Code := rightC (rightC (rightC nbBlk))
theorem number_head (hT : W told) {x i acc : Nat} {E : List (Nat × V)} {Q : Ex → List (Nat × V) → H → Prop} (hx : x < 256) (hi : i ≤ 8) (ha : acc < 128 ^ i)
  (hc : Cu h c X S (x :: l)) (h0 : look E 0 = some (.ptr c 0)) (h2 : look E 2 = some (.int .u64 (acc : Int))) (h3 : look E 3 = some (.int .i64 (i : Int)))
  (hq : ∀ E' h', look E' 0 = some (.ptr c 0) → look E' 2 = some (.int .u64 ((acc + x % 128 * 128 ^ i : Nat) : Int)) → look E' 3 = some (.int .i64 (i : Int)) → look E' 4 = some (.int .u8 (x : Int)) → Cu h' c X S l → WP ⟨Tryz.prog, told⟩ 38 nbC E' h' Q) :
  WP ⟨Tryz.prog, told⟩ 38 nbBlk E h Q := by
 refine WP.seq (WP.region rfl ?_)
 refine zo rfl (o_move h0) ?_
 refine WPs.call rfl rfl rfl rfl rfl rfl rfl (byte_ct hT hc) (fun v h₁ ⟨e1, c1⟩ => ?_)
 subst e1
 refine WPs.op rfl rfl rfl (o_assign rfl) (WPs.nil ?_)
 refine WP.seq (WP.region rfl ?_)
 refine zo rfl (o_move h3) (zo rfl (o_bin (v := .int .i64 (i : Int)) (u := .int .i64 9) (r := .bool true) rfl rfl (by simp only [binV, ikBeq, cond_true, intV]; congr 2 <;> simp <;> omega)) ?_)
 refine zm rfl (zx rfl (zx rfl (zx rfl (zx rfl (zx rfl (zx rfl (zq rfl ?_)))))))
 refine WPs.call rfl rfl rfl rfl rfl rfl rfl (must_ct hT) (fun v h₁' ⟨e2, e2'⟩ => WPs.nil ?_)
 subst e2; subst e2'
 refine WP.seq (WP.region rfl ?_)
 refine zo rfl (o_move h2) (zm rfl (zo rfl (o_bin (v := .int .u8 (x : Int)) (u := .int .u8 127) rfl rfl (by simp only [binV, ikBeq, cond_true]; exact intV_and127 hx)) ?_))
 refine zo rfl (o_conv (v := .int .u8 ((x % 128 : Nat) : Int)) rfl (conv_u8_u64 (by omega))) ?_
 refine zo rfl (o_move h3) ?_
 refine WPs.op rfl rfl rfl (o_bin (v := .int .i64 7) (u := .int .i64 (i : Int)) (r := .int .i64 ((7 * i : Nat) : Int)) rfl rfl (by
  simp only [binV, ikBeq, cond_true, intV]
  rw [show (7 : Int) * (i : Int) = ((7 * i : Nat) : Int) by push_cast; rfl, wrap_i64 (by omega)])) ?_
 refine zo rfl (o_bin (v := .int .u64 ((x % 128 : Nat) : Int)) (u := .int .i64 ((7 * i : Nat) : Int)) rfl rfl (by simp only [binV]; exact shl7 (by omega) hi)) ?_
 refine zo rfl (o_bin (v := .int .u64 (acc : Int)) rfl rfl (by simp only [binV, ikBeq, cond_true]; exact or_high ha (by omega) hi)) ?_
 refine WPs.op rfl rfl rfl (o_assign rfl) (WPs.nil ?_)
 exact hq _ _ h0 rfl h3 rfl c1
set_option maxRecDepth 4000 in
theorem number_end (hT : W told) {m i acc : Nat} {E : List (Nat × V)} {Q : Ex → List (Nat × V) → H → Prop} (hi : i ≤ 8) (hm : m < 128) (hz : i = 0 ∨ 0 < m) (ha : acc < 128 ^ i)
  (hc : Cu h c X S (m :: l)) (h0 : look E 0 = some (.ptr c 0)) (h2 : look E 2 = some (.int .u64 (acc : Int))) (h3 : look E 3 = some (.int .i64 (i : Int)))
  (hq : ∀ E' h', look E' 2 = some (.int .u64 ((acc + m * 128 ^ i : Nat) : Int)) → Cu h' c X S l → Q .ret E' h') : WP ⟨Tryz.prog, told⟩ 38 (.loop nbX) E h Q := by
 refine WP.loop (WP.seq (WP.block ?_))
 refine number_head hT (x := m) (by omega) hi ha hc h0 h2 h3 (fun E1 h₁ q0 q2 q3 q4 c1 => ?_)
 rw [Nat.mod_eq_of_lt hm] at q2
 refine WP.seq (WP.region rfl ?_)
 refine zo rfl (o_move q4) ?_
 refine WPs.op rfl rfl rfl (o_bin (v := .int .u8 (m : Int)) (u := .int .u8 128) (r := .bool true) rfl rfl (by simp only [binV, ikBeq, cond_true, intV]; congr 2 <;> simp <;> omega)) (WPs.nil ?_)
 refine WP.cond (t := true) rfl (WP.seq (WP.region rfl ?_))
 refine zo rfl (o_move q4) ?_
 by_cases hm0 : 0 < m
 ·refine WPs.op rfl rfl rfl (o_bin (v := .int .u8 (m : Int)) (u := .int .u8 0) (r := .bool true) rfl rfl (by simp only [binV, ikBeq, cond_true, intV]; congr 2 <;> simp <;> omega)) ?_
  refine zm rfl (zx rfl (zx rfl (zq rfl ?_)))
  refine WPs.call rfl rfl rfl rfl rfl rfl rfl (must_ct hT) (fun v h₁' ⟨e2, e2'⟩ => WPs.nil ?_)
  subst e2; subst e2'
  refine WP.seq (WP.region rfl ?_)
  refine zo rfl (o_move q2) ?_
  exact WPs.op rfl rfl rfl (o_assign rfl) (WPs.nil (WP.ret (hq _ _ rfl c1)))
 ·have hi0 : i = 0 := by omega
  have hm00 : m = 0 := by omega
  subst hi0; subst hm00
  refine zo rfl (o_bin (v := .int .u8 0) (u := .int .u8 0) (r := .bool false) rfl rfl rfl) (zm rfl (zo rfl (o_move q3) (zo rfl (o_bin (v := .int .i64 0) (u := .int .i64 0) (r := .bool true) rfl rfl rfl) (zp rfl ?_))))
  refine WPs.call rfl rfl rfl rfl rfl rfl rfl (must_ct hT) (fun v h₁' ⟨e2, e2'⟩ => WPs.nil ?_)
  subst e2; subst e2'
  refine WP.seq (WP.region rfl ?_)
  refine zo rfl (o_move q2) ?_
  exact WPs.op rfl rfl rfl (o_assign rfl) (WPs.nil (WP.ret (hq _ _ rfl c1)))
set_option maxRecDepth 4000 in
theorem number_loop (hT : W told) : ∀ (k m i acc : Nat) (h : H) (E : List (Nat × V)) (Q : Ex → List (Nat × V) → H → Prop), i + k ≤ 8 → m < 128 ^ (k + 1) → (i = 0 ∨ 0 < m) → acc < 128 ^ i →
  Cu h c X S (digits k m ++ l) → look E 0 = some (.ptr c 0) → look E 2 = some (.int .u64 (acc : Int)) → look E 3 = some (.int .i64 (i : Int)) →
  (∀ E' h', look E' 2 = some (.int .u64 ((acc + m * 128 ^ i : Nat) : Int)) → Cu h' c X S l → Q .ret E' h') → WP ⟨Tryz.prog, told⟩ 38 (.loop nbX) E h Q := by
 intro k
 induction k with
 | zero =>
  intro m i acc h E Q hi hm hz ha hc h0 h2 h3 hq
  have hm' : m < 128 := by simpa using hm
  rw [digits_small hm'] at hc
  exact number_end hT (by omega) hm' hz ha hc h0 h2 h3 hq
 | succ k ih =>
  intro m i acc h E Q hi hm hz ha hc h0 h2 h3 hq
  by_cases hm' : m < 128
  ·rw [digits_small hm'] at hc
   exact number_end hT (by omega) hm' hz ha hc h0 h2 h3 hq
  ·have hd : m / 128 < 128 ^ (k + 1) := by
    rw [Nat.div_lt_iff_lt_mul (by omega)]
    rw [Nat.pow_succ] at hm
    exact hm
   rw [digits, if_neg hm'] at hc
   refine WP.loop (WP.seq (WP.block ?_))
   refine number_head hT (x := m % 128 + 128) (by omega) (by omega) ha hc h0 h2 h3 (fun E1 h₁ q0 q2 q3 q4 c1 => ?_)
   refine WP.seq (WP.region rfl ?_)
   refine zo rfl (o_move q4) ?_
   refine WPs.op rfl rfl rfl (o_bin (v := .int .u8 ((m % 128 + 128 : Nat) : Int)) (u := .int .u8 128) (r := .bool false) rfl rfl (by simp only [binV, ikBeq, cond_true, intV]; congr 2 <;> simp <;> omega)) (WPs.nil ?_)
   refine WP.cond (t := false) rfl (WP.skip ?_)
   refine zr rfl (zo rfl (o_move q3) (zo rfl (o_bin (v := .int .i64 (i : Int)) (u := .int .i64 1) (r := .int .i64 ((i + 1 : Nat) : Int)) rfl rfl (by exact bAdd (wrapS (by omega) (by omega)))) ?_))
   refine WPs.op rfl rfl rfl (o_assign rfl) (WPs.nil ?_)
   have e1 : (m % 128 + 128) % 128 = m % 128 := by omega
   rw [e1] at q2
   have hpow : 128 ^ (i + 1) = 128 ^ i * 128 := Nat.pow_succ 128 i
   refine ih (m / 128) (i + 1) (acc + m % 128 * 128 ^ i) h₁ _ Q (by omega) hd (.inr (by omega)) ?_ c1 q0 q2 rfl (fun E' h' p1 p3 => hq E' h' ?_ p3)
   ·have : m % 128 * 128 ^ i ≤ 127 * 128 ^ i := Nat.mul_le_mul_right _ (by omega)
    rw [hpow]; omega
   ·rw [p1]
    have : acc + m % 128 * 128 ^ i + m / 128 * 128 ^ (i + 1) = acc + m * 128 ^ i := by
     rw [hpow, Nat.mul_comm (128 ^ i) 128, ← Nat.mul_assoc, Nat.add_assoc, ← Nat.add_mul]
     congr 2
     omega
    rw [this]
theorem number_ct (hT : W told) {n : Nat} (hn : n < 9223372036854775808) (hc : Cu h c X S (digits 9 n ++ l)) :
  Call ⟨Tryz.prog, told⟩ 150 [.ptr c 0] h fun v h' => v = .int .u64 (n : Int) ∧ Cu h' c X S l := by
 rw [digits_more 8 n (by simpa using hn)] at hc
 refine Call.of_wp (hT.free _ rfl) Tryz.func150 rfl rfl (zg rfl (za rfl (zv (zg rfl (za rfl (zv (WP.block ?_)))))))
 refine number_loop hT 8 n 0 0 h _ _ (by omega) (by simpa using hn) (.inl rfl) (by simp) hc rfl rfl rfl (fun E' h' q1 q2 => ⟨trivial, _, ?_, rfl, q2⟩)
 have : 0 + n * 128 ^ 0 = n := by simp
 rw [this] at q1
 show resLE _ E' h' [.tmp 2] = _
 simp only [resLE, mapO, resE, q1]
theorem small_ct (hT : W told) {n : Nat} (hn : n ≤ 1048576) (hc : Cu h c X S (digits 9 n ++ l)) :
  Call ⟨Tryz.prog, told⟩ 152 [.ptr c 0] h fun v h' => v = .int .i64 (n : Int) ∧ Cu h' c X S l := by
 refine Call.of_wp (hT.free _ rfl) Tryz.func152 rfl rfl (zg rfl (za rfl (zv (zg rfl (zm rfl (WPs.call rfl rfl rfl rfl rfl rfl rfl (number_ct hT (by omega) hc) ?_))))))
 rintro v h' ⟨rfl, hc⟩
 refine za rfl (zv (zg rfl (zm rfl (WPs.opT rfl rfl rfl (o_bin rfl rfl bLeq) (by simp; omega) ?_))))
 refine WPs.call rfl rfl rfl rfl rfl rfl rfl (must_ct hT) ?_
 rintro v h' ⟨rfl, rfl⟩
 refine zv (zg rfl (zm rfl (zo rfl (o_conv rfl (conv_u64_i64 (by omega))) ?_)))
 refine za rfl (zv ?_)
 refine WP.ret ⟨trivial, _, rfl, ?_⟩
 exact ⟨rfl, hc⟩
theorem ctext_ct (hT : W told) (hm : m.length ≤ 1048576) (hc : Cu h c X S (digits 9 m.length ++ m ++ l)) :
  Call ⟨Tryz.prog, told⟩ 151 [.ptr c 0] h fun v h' => Cu h' c X (bufA v m :: S) l := by
 rw [List.append_assoc] at hc
 refine Call.of_wp (hT.free _ rfl) Tryz.func151 rfl rfl (zg rfl (za rfl (zv (zg rfl (zm rfl (WPs.call rfl rfl rfl rfl rfl rfl rfl (small_ct hT hm hc) ?_))))))
 rintro v h ⟨rfl, v, hX, s⟩
 have hv := s.viewX (k := 1) rfl hX
 have hbq := beqView hv
 refine za rfl (zv (zg rfl (zm rfl (zm rfl (zn rfl (zf rfl (fa202_0 _ _) (zl rfl (by exact s.ld (k := 0) rfl ag32 rfl) ?_)))))))
 refine zo rfl (o_len rfl rfl rfl (len_view Tryz.underlying32 hv)) (WPs.opT rfl rfl rfl (o_bin rfl rfl bLeq) (by simp <;> omega) ?_)
 refine WPs.call rfl rfl rfl rfl rfl rfl rfl (must_ct hT) ?_
 rintro r h' ⟨rfl, rfl⟩
 refine zv (zw ?_)
 have s0 := s
 have hto := slice_to hv (b := m.length) (by simp)
 have hbs := beqView hto.2.1
 refine WP.drawn [none, none, some (0, 2), some (0, 2), some (0, 2), some (0, 2), some (0, 2), some (0, 2), none, none] rfl (by kernel_rfl) (by kernel_rfl) ?_
 refine zM rfl (WPt.any rfl rfl rfl rfl (OpR.make0S rfl s rfl rfl rfl rfl (by omega)) ?_)
 intro v2 h s
 have s := s.bringS [1, 1, 0]
 dsimp only [bringA, getA, delA] at s
 have hv2 := beqView (s.buf (k := 2) rfl).view
 have s1 := s
 have hto := slice_to (s.viewX (k := 1) rfl hX) (b := m.length) (by simp)
 refine zM rfl (zN rfl (zF rfl (fa202_0 _ _) (zL rfl (by exact s.ld (k := 0) rfl ag32 rfl) ?_)))
 refine zM rfl (zO rfl (o_slice (p := none) (q := some (.int .i64 (m.length : Int))) (m := none) (p' := none) (q' := some m.length) (m' := none) rfl rfl rfl rfl rfl (by rw [bnd_ok (by omega)]; rfl) rfl (slice_to (s.viewX (k := 1) rfl hX) (b := m.length) (by simp)).1) ?_)
 refine WPt.any rfl rfl rfl rfl (OpR.appB rfl (s.bringS [2, 1]) (rd_to hX (b := m.length) (by simp)) rfl rfl rfl rfl (by rw [List.take_left' rfl]; simp only [List.length_nil]; omega)) ?_
 intro v3 h s
 have s := s.bringS [2, 1, 0]
 dsimp only [List.nil_append, delA, bringA, getA] at s
 rw [List.take_left' rfl] at s
 have hv3 := beqView (s.buf (k := 2) rfl).view
 refine zA rfl ?_
 refine WPt.nil ⟨⟨trivial, trivial, fun _ _ => .inr ⟨rfl, ⟨_, o_move rfl⟩, beqV _ rfl⟩, fun _ _ => .inr ⟨rfl, ⟨_, o_nil rfl⟩, beqV _ rfl⟩, fun _ _ => .inr ⟨rfl, ⟨_, o_fa rfl (fa202_0 _ _)⟩, beqV _ rfl⟩, heaps2 (.inr ⟨rfl, ⟨_, o_load rfl (by exact s0.ld (k := 0) rfl ag32 rfl)⟩, hbq⟩) (.inr ⟨rfl, ⟨_, o_load rfl (by exact s1.ld (k := 0) rfl ag32 rfl)⟩, hbq⟩), fun _ _ => .inr ⟨rfl, ⟨_, o_move rfl⟩, beqV _ rfl⟩, heaps2 (.inr ⟨rfl, ⟨_, o_slice (p := none) (q := some (.int .i64 (m.length : Int))) (m := none) (p' := none) (q' := some m.length) (m' := none) rfl rfl rfl rfl rfl (by rw [bnd_ok (by omega)]; rfl) rfl (slice_to (s0.viewX (k := 1) rfl hX) (b := m.length) (by simp)).1⟩, hbs⟩) (.inr ⟨rfl, ⟨_, o_slice (p := none) (q := some (.int .i64 (m.length : Int))) (m := none) (p' := none) (q' := some m.length) (m' := none) rfl rfl rfl rfl rfl (by rw [bnd_ok (by omega)]; rfl) rfl (slice_to (s1.viewX (k := 1) rfl hX) (b := m.length) (by simp)).1⟩, hbs⟩), trivial, trivial, trivial⟩, ?_⟩
 have hsl := slice_from (s.viewX (k := 1) rfl hX) (a := m.length) (by simp)
 have hu := hsl.2.1.cells
 refine zg rfl (zm rfl (zm rfl (zn rfl (zf rfl (fa202_0 _ _) (zl rfl (by exact s.ld (k := 0) rfl ag32 rfl) ?_)))))
 refine zm rfl (zo rfl (o_slice (p := some (.int .i64 (m.length : Int))) (q := none) (m := none) (p' := some m.length) (q' := none) (m' := none) rfl rfl rfl rfl (by rw [bnd_ok (by omega)]; rfl) rfl rfl hsl.1) ?_)
 refine zn rfl (zf rfl (fa202_0 _ _) (WPs.stS rfl rfl rfl rfl rfl (s.st1 (k := 0) rfl sz32 rfl (by decide) hu.1 hu.2) ?_))
 rintro h s
 dsimp only [Nat.reduceAdd, List.set, setA] at s
 refine zv (zg rfl (zm rfl (za rfl (zv ?_))))
 refine WP.ret ⟨trivial, _, rfl, ?_⟩
 have hr := rd_from hX (a := m.length) (by simp)
 rw [List.drop_left' rfl] at hr
 exact ⟨_, hr, s⟩
end
end Go.Proofs.YtconhghphklfjaaGreat.Am
