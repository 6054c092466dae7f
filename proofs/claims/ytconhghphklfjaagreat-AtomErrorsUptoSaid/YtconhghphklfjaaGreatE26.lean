/- A group that is over or open, pages that are none and records that may not be are refused, and a record that was done is read back; the conditions are those of the given statement, for arguments that a machine can hold. Part 26 of 44. -/
import Derived.Test.YtconhghphklfjaaGreatE25
namespace Go.Proofs.YtconhghphklfjaaGreat.Am
open Go
def leN : List Nat → Nat
 | [] => 0
 | b :: l => b + 256 * leN l
theorem leN_snoc : ∀ (l : List Nat) (b : Nat), leN (l ++ [b]) = leN l + b * 256 ^ l.length := by
 intro l
 induction l with
 | nil => intro b; simp [leN]
 | cons x l ih => intro b; simp only [List.cons_append, leN, ih, List.length_cons, Nat.pow_succ, Nat.mul_add]; rw [← Nat.add_assoc, Nat.mul_comm (256 ^ l.length) 256, ← Nat.mul_assoc b, Nat.mul_comm b 256, Nat.mul_assoc 256 b]
theorem leN_lt : ∀ (l : List Nat), (∀ b ∈ l, b < 256) → leN l < 256 ^ l.length := by
 intro l
 induction l with
 | nil => intro _; simp [leN]
 | cons x l ih =>
  intro h
  have h1 := ih (fun b hb => h b (List.mem_cons_of_mem _ hb))
  have h2 := h x List.mem_cons_self
  simp only [leN, List.length_cons, Nat.pow_succ]
  omega
theorem pow256 (i : Nat) : (256 : Nat) ^ i = 2 ^ (8 * i) := by rw [Nat.pow_mul]
theorem shl8 {P : Program} {h : H} {t : TypeId} {x y : Operand} {d i : Nat} (hd : d < 256) (hi : i ≤ 7) : binV P h .shl t x y (.int .u64 (d : Int)) (.int .i64 (8 * (i : Int))) = some (.int .u64 ((d * 256 ^ i : Nat) : Int)) := by
 have hp : (256 : Nat) ^ i ≤ 256 ^ 7 := Nat.pow_le_pow_right (by omega) hi
 have hlt : d * 256 ^ i < 18446744073709551616 := by
  have : d * 256 ^ i ≤ 255 * 256 ^ 7 := Nat.mul_le_mul (by omega) hp
  omega
 simp only [binV, shiftV, IntKind.bits]
 have e : (8 * (i : Int)).toNat = 8 * i := by omega
 rw [e, show min (8 * i) 64 = 8 * i by omega, show decide (8 * (i : Int) < 0) = false by simp; omega, cond_false]
 have : (d : Int) * 2 ^ (8 * i) = ((d * 256 ^ i : Nat) : Int) := by rw [pow256]; push_cast; rfl
 simp only [this, wrap_u64 hlt]
theorem or8 {P : Program} {h : H} {t : TypeId} {x y : Operand} {a d i : Nat} (ha : a < 256 ^ i) (hd : d < 256) (hi : i ≤ 7) : binV P h .or t x y (.int .u64 (a : Int)) (.int .u64 ((d * 256 ^ i : Nat) : Int)) = some (.int .u64 ((a + d * 256 ^ i : Nat) : Int)) := by
 have hp : (256 : Nat) ^ i ≤ 256 ^ 7 := Nat.pow_le_pow_right (by omega) hi
 have hm : d * 256 ^ i ≤ 255 * 256 ^ 7 := Nat.mul_le_mul (by omega) hp
 have h1 : ((a : Int) % (2 ^ (IntKind.u64).bits : Int)).toNat = a := by simp only [IntKind.bits]; omega
 have h2 : (((d * 256 ^ i : Nat) : Int) % (2 ^ (IntKind.u64).bits : Int)).toNat = d * 256 ^ i := by simp only [IntKind.bits]; omega
 have h3 : Nat.lor a (d * 256 ^ i) = a + d * 256 ^ i := by
  have e : d * 256 ^ i = 2 ^ (8 * i) * d := by rw [← pow256, Nat.mul_comm]
  have := Nat.two_pow_add_eq_or_of_lt (i := 8 * i) (b := a) (by rw [← pow256]; exact ha) d
  rw [← e] at this
  rw [Nat.add_comm a, this]
  exact Nat.or_comm _ _
 simp only [binV, ikBeq, cond_true, intV, bitsV, h1, h2, h3]
 rw [wrap_u64 (by omega)]
section
variable {told : Nat → Option (List V → H → Option (V × H))} {h : H} {S : List Assn} {X : Assn} {k : Nat} {v : V} {l : List Nat}
noncomputable def wdL : Code := pathC [1, 1, 0, 1, 0, 0] ((Tryz.f61.body).getD .skip)
theorem word_loop (hv : View h v l) (hl : l.length ≤ 8) : ∀ (j i : Nat) (E : List (Nat × V)) (Q : Ex → List (Nat × V) → H → Prop), i + j = l.length →
  Has E [(3, .int .u64 (leN (l.take i))), (6, v), (7, .int .i64 l.length), (8, .int .i64 i)] → (∀ E', look E' 3 = some (.int .u64 (leN l)) → Q (.exit 0) E' h) → WP ⟨Tryz.prog, told⟩ 22 (.loop wdL) E h Q := by
 intro j
 induction j with
 | zero =>
  intro i E Q hi hE hq
  refine WP.loop (WP.has hE (zg rfl (WPs.opF rfl rfl rfl (o_bin rfl rfl bLss) (by simp; omega) ?_)))
  refine zv (zw (zj rfl (WP.exit (hq _ ?_))))
  rw [List.take_of_length_le (by omega)]
  rfl
 | succ j ih =>
  intro i E Q hi hE hq
  have hb : l[i]? = some (l[i]'(by omega)) := List.getElem?_eq_getElem _
  generalize hbe : (l[i]'(by omega)) = b at hb
  have hb2 : b < 256 := hv.1 b (List.mem_of_getElem? hb)
  obtain ⟨id, off, e1, e2⟩ := index_view hv hb
  have ht : l.take (i + 1) = l.take i ++ [b] := by rw [List.take_add_one, hb]; rfl
  have hlt : leN (l.take i) < 256 ^ i := by
   have := leN_lt (l.take i) (fun x hx => hv.1 x (List.mem_of_mem_take hx))
   rwa [List.length_take, Nat.min_eq_left (by omega)] at this
  refine WP.loop (WP.has hE (zg rfl (WPs.opT rfl rfl rfl (o_bin rfl rfl bLss) (by simp; omega) ?_)))
  refine zv (zw (zi rfl (WP.skip (zw (WP.block (zg rfl (zm rfl (zo rfl (o_ia (r := .ptr id off) rfl rfl e1) (zl rfl e2 (za rfl (za rfl (zv (zr rfl (zm rfl (zm rfl (zo rfl (o_conv rfl (by exact cvI Tryz.underlying5 Tryz.underlying35 (wrapU (by omega) (by omega)))) ?_))))))))))))))))
  refine zm rfl (zb rfl (by exact bMul (wrapS (by omega) (by omega))) ?_)
  refine zb rfl (shl8 hb2 (by omega)) ?_
  refine zb rfl (or8 hlt hb2 (by omega)) ?_
  refine za rfl (zv (zr rfl (zb rfl (by exact bAdd (wrapS (by omega) (by omega))) ?_)))
  refine zm rfl (zv ?_)
  refine ih (i + 1) _ _ (by omega) ?_ hq
  rw [ht, leN_snoc, List.length_take, Nat.min_eq_left (by omega)]
  exact ⟨rfl, rfl, rfl, rfl, trivial⟩
theorem word_ct (hT : W told) (s : Sat h S) (hk : getA S k = some X) (hX : Ent X (rdB v l)) (hl : l.length ≤ 8) : Call ⟨Tryz.prog, told⟩ 61 [v] h fun r h' => r = .int .u64 (leN l) ∧ h' = h := by
 have hv := s.viewX hk hX
 refine Call.of_wp (hT.free _ rfl) Tryz.func61 rfl rfl (zg rfl (za rfl (zv (zg rfl (za rfl (zv (zw (zg rfl (zm rfl (zo rfl (o_len rfl rfl rfl (len_view Tryz.underlying32 hv)) (zm rfl (zv (WP.block ?_)))))))))))))
 refine word_loop hv hl l.length 0 _ _ (by omega) ⟨rfl, rfl, rfl, rfl, trivial⟩ (fun E' hE' => ?_)
 refine WP.has (F := [(3, .int .u64 (leN l))]) ⟨hE', trivial⟩ (zg rfl (zm rfl (za rfl (zv ?_))))
 refine WP.ret ⟨trivial, _, rfl, ?_⟩
 exact ⟨rfl, rfl⟩
theorem of_ct (hT : W told) (s : Sat h S) (hk : getA S k = some X) (hX : Ent X (rdB v l)) (hl : l.length ≤ 4611686018427387904) : Call ⟨Tryz.prog, told⟩ 84 [v] h fun r h' => r = .int .u32 (crc 0 l : Nat) ∧ h' = h := by
 refine Call.of_wp (hT.free _ rfl) Tryz.func84 rfl rfl (zg rfl (za rfl (zv (zg rfl (zm rfl (WPs.call rfl rfl rfl rfl rfl rfl rfl (more_ct (s := 0) hT s hk hX (by decide) hl) ?_))))))
 rintro v h' ⟨rfl, rfl⟩
 refine za rfl (zv ?_)
 refine WP.ret ⟨trivial, _, rfl, ?_⟩
 exact ⟨rfl, rfl⟩
def atL (l : List Nat) (a z : Nat) : Nat := leN ((l.take (a + z)).drop a)
theorem get_ct (hT : W told) {a z : Int} (s : Sat h S) (hk : getA S k = some X) (hX : Ent X (rdB v l)) (ha : 0 ≤ a) (hz : 1 ≤ z) (hz2 : z ≤ 7) (hl : a + z ≤ l.length) (hl2 : l.length ≤ 65536) :
  Call ⟨Tryz.prog, told⟩ 83 [.agg [v], .int .i64 a, .int .i64 z] h fun r h' => r = .int .i64 (atL l a.toNat z.toNat) ∧ Sat h' S := by
 have hv := s.viewX hk hX
 obtain ⟨pi, po, pc, rfl⟩ := view_sl hv (by omega)
 refine Call.of_wp (hT.free _ rfl) Tryz.func83 rfl rfl (zg rfl ?_)
 refine WPs.newS s rfl rfl rfl (o_box rfl rfl) (fun p3 h s => ?_)
 dsimp only [V.cells, List.length_cons, List.length_nil, Nat.reduceAdd] at s
 refine za rfl (zv (zg rfl (zf rfl (fa146_0 _ _) (zl rfl (by exact s.ld (k := 0) rfl ag32 rfl) ?_))))
 refine zm rfl (zm rfl (zm rfl (zb rfl (by exact bAdd (wrapS (by omega) (by omega))) ?_)))
 refine zm rfl (zm rfl (zb rfl (by exact bAdd (wrapS (by omega) (by omega))) ?_))
 have hsl := slice3_view (s.viewX (getA_up hk) hX) (a := a.toNat) (b := (a + z).toNat) (c := (a + z).toNat) (by omega) (by omega) (by omega) (by omega)
 refine zo rfl (o_slice (p := some (.int .i64 a)) (q := some (.int .i64 (a + z))) (m := some (.int .i64 (a + z))) rfl rfl rfl rfl (bnd_ok ha) (bnd_ok (by omega)) (bnd_ok (by omega)) hsl) ?_
 have hlen : ((l.take (a + z).toNat).drop a.toNat).length = z.toNat := by simp; omega
 refine WPs.call rfl rfl rfl rfl rfl rfl rfl (word_ct hT s (getA_up hk) (rd_slice3 hX (a := a.toNat) (b := (a + z).toNat) (c := (a + z).toNat) (by omega) (by omega) (by omega) (by omega)) (by omega)) ?_
 rintro r h' ⟨rfl, rfl⟩
 have hlt := leN_lt ((l.take (a + z).toNat).drop a.toNat) (fun x hx => hv.1 x (List.mem_of_mem_take (List.mem_of_mem_drop hx)))
 have hp : 256 ^ z.toNat ≤ 256 ^ 7 := Nat.pow_le_pow_right (by omega) (by omega)
 rw [hlen] at hlt
 have e : (a + z).toNat = a.toNat + z.toNat := by omega
 rw [e] at hlt ⊢
 refine zo rfl (o_conv rfl (by exact cvI Tryz.underlying35 Tryz.underlying3 (wrapS (by omega) (by omega)))) ?_
 refine za rfl (zv ?_)
 refine WP.ret ⟨trivial, _, rfl, ?_⟩
 exact ⟨rfl, s.drop⟩
theorem atL_lt {a z : Nat} (hl : ∀ b ∈ l, b < 256) : atL l a z < 256 ^ z := by
 have := leN_lt ((l.take (a + z)).drop a) (fun x hx => hl x (List.mem_of_mem_take (List.mem_of_mem_drop hx)))
 have h2 : ((l.take (a + z)).drop a).length ≤ z := by simp; omega
 exact Nat.lt_of_lt_of_le this (Nat.pow_le_pow_right (by omega) h2)
def cntL (l : List Nat) : Nat := atL l 14 2
def lowL (l : List Nat) : Nat := atL l 16 2
def slotF (l : List Nat) (i : Nat) : Nat := atL l (26 + 4 * i) 2
def slotZ (l : List Nat) (i : Nat) : Nat := atL l (26 + 4 * i + 2) 2
theorem count_ct (hT : W told) (s : Sat h S) (hk : getA S k = some X) (hX : Ent X (rdB v l)) (hl : l.length = 512) :
  Call ⟨Tryz.prog, told⟩ 78 [.agg [v]] h fun r h' => r = .int .i64 (cntL l) ∧ Sat h' S := by
 have hv := s.viewX hk hX
 obtain ⟨pi, po, pc, rfl⟩ := view_sl hv (by omega)
 refine Call.of_wp (hT.free _ rfl) Tryz.func78 rfl rfl (zg rfl ?_)
 refine WPs.newS s rfl rfl rfl (o_box rfl rfl) (fun p1 h s => ?_)
 dsimp only [V.cells, List.length_cons, List.length_nil, Nat.reduceAdd] at s
 refine za rfl (zv (zg rfl (zl rfl (by exact s.ldA (k := 0) rfl ag146 sz146) ?_)))
 refine WPs.call rfl rfl rfl rfl rfl rfl rfl (get_ct hT s (getA_up hk) hX (by decide) (by decide) (by decide) (by omega) (by omega)) ?_
 rintro r h' ⟨rfl, s⟩
 refine za rfl (zv ?_)
 refine WP.ret ⟨trivial, _, rfl, ?_⟩
 exact ⟨rfl, s.drop⟩
theorem low_ct (hT : W told) (s : Sat h S) (hk : getA S k = some X) (hX : Ent X (rdB v l)) (hl : l.length = 512) :
  Call ⟨Tryz.prog, told⟩ 79 [.agg [v]] h fun r h' => r = .int .i64 (lowL l) ∧ Sat h' S := by
 have hv := s.viewX hk hX
 obtain ⟨pi, po, pc, rfl⟩ := view_sl hv (by omega)
 refine Call.of_wp (hT.free _ rfl) Tryz.func79 rfl rfl (zg rfl ?_)
 refine WPs.newS s rfl rfl rfl (o_box rfl rfl) (fun p1 h s => ?_)
 dsimp only [V.cells, List.length_cons, List.length_nil, Nat.reduceAdd] at s
 refine za rfl (zv (zg rfl (zl rfl (by exact s.ldA (k := 0) rfl ag146 sz146) ?_)))
 refine WPs.call rfl rfl rfl rfl rfl rfl rfl (get_ct hT s (getA_up hk) hX (by decide) (by decide) (by decide) (by omega) (by omega)) ?_
 rintro r h' ⟨rfl, s⟩
 refine za rfl (zv ?_)
 refine WP.ret ⟨trivial, _, rfl, ?_⟩
 exact ⟨rfl, s.drop⟩
end
end Go.Proofs.YtconhghphklfjaaGreat.Am
namespace Go.Proofs.YtconhghphklfjaaGreat.Am
open Go
def bsV (t : List Bool) : List V := t.map V.bool
theorem bsV_set (t : List Bool) (k : Nat) (b : Bool) : (bsV t).set k (.bool b) = bsV (t.set k b) := by simp [bsV, List.map_set]
theorem bsV_nth {t : List Bool} {k : Nat} (hk : k < t.length) : nth (bsV t) k = some (.bool (t.getD k false)) := by
 rw [nth_eq]; simp [bsV, List.getElem?_eq_getElem hk]
theorem zt_bools : zeroT Tryz.prog 147 = some (.agg (bsV (List.replicate 512 false))) := by kernel_rfl
def markL : Nat → Nat → List Bool → Option (List Bool)
 | 0, _, t => some t
 | n + 1, k, t => if t.getD k false then none else markL n (k + 1) (t.set k true)
def cellsL (l : List Nat) (low : Nat) : Nat → Nat → List Bool → Bool
 | 0, _, _ => true
 | n + 1, i, t => if slotF l i < low ∨ 512 < slotF l i + slotZ l i then false else match markL (slotZ l i) (slotF l i) t with
  | none => false
  | some t' => cellsL l low n (i + 1) t'
def goodL (l : List Nat) : Bool := decide (l.length = 512) && (decide (l.getD 13 0 = 0) && (decide (26 + 4 * cntL l ≤ lowL l ∧ lowL l ≤ 512) && cellsL l (lowL l) (cntL l) 0 (List.replicate 512 false)))
theorem markL_len : ∀ (n k : Nat) (t t' : List Bool), markL n k t = some t' → t'.length = t.length := by
 intro n
 induction n with
 | zero => intro k t t' h; simp only [markL] at h; injection h with h; subst h; rfl
 | succ n ih =>
  intro k t t' h
  simp only [markL] at h
  split at h
  ·cases h
  ·have := ih _ _ _ h; simpa using this
section
variable {told : Nat → Option (List V → H → Option (V × H))} {h : H} {S : List Assn} {X : Assn} {k : Nat} {v : V} {l : List Nat}
theorem slot_ct (hT : W told) {i : Nat} (s : Sat h S) (hk : getA S k = some X) (hX : Ent X (rdB v l)) (hl : l.length = 512) (hi : 30 + 4 * i ≤ 512) :
  Call ⟨Tryz.prog, told⟩ 80 [.agg [v], .int .i64 (i : Int)] h fun r h' => r = .tup [.int .i64 (slotF l i), .int .i64 (slotZ l i)] ∧ Sat h' S := by
 have hv := s.viewX hk hX
 obtain ⟨pi, po, pc, rfl⟩ := view_sl hv (by omega)
 have e1 : (26 + 4 * (i : Int)).toNat = 26 + 4 * i := by omega
 have e2 : (26 + 4 * (i : Int) + 2).toNat = 26 + 4 * i + 2 := by omega
 refine Call.of_wp (hT.free _ rfl) Tryz.func80 rfl rfl (zg rfl ?_)
 refine WPs.newS s rfl rfl rfl (o_box rfl rfl) (fun p2 h s => ?_)
 dsimp only [V.cells, List.length_cons, List.length_nil, Nat.reduceAdd] at s
 refine za rfl (za rfl (zv (zg rfl (zm rfl (zb rfl (by exact bMul (wrapS (by omega) (by omega))) ?_)))))
 refine zb rfl (by exact bAdd (wrapS (by omega) (by omega))) ?_
 refine za rfl (zv (zw ?_))
 have s0 := s
 refine WP.drawn [none, none, none, some (0, 2), some (0, 2), some (0, 2), none, none, none] rfl (by kernel_rfl) (by kernel_rfl) ?_
 refine zL rfl (by exact s.ldA (k := 0) rfl ag146 sz146) ?_
 refine zM rfl (WPt.any rfl rfl rfl rfl (OpR.call rfl rfl rfl rfl (get_ct hT s (getA_up hk) hX (by omega) (by decide) (by decide) (by omega) (by omega))) ?_)
 rintro r h' ⟨rfl, s⟩
 rw [e1]
 have s1 := s
 refine zL rfl (by exact s.ldA (k := 0) rfl ag146 sz146) ?_
 refine zM rfl (zO rfl (o_bin rfl rfl (by exact bAdd (wrapS (by omega) (by omega)))) ?_)
 refine WPt.any rfl rfl rfl rfl (OpR.call rfl rfl rfl rfl (get_ct hT s (getA_up hk) hX (by omega) (by decide) (by decide) (by omega) (by omega))) ?_
 rintro r h' ⟨rfl, s⟩
 rw [e2]
 refine zA rfl (zA rfl ?_)
 refine WPt.nil ⟨⟨trivial, trivial, trivial, heaps2 (.inr ⟨rfl, ⟨_, o_load rfl (by exact s0.ldA (k := 0) rfl ag146 sz146)⟩, beqV _ rfl⟩) (.inr ⟨rfl, ⟨_, o_load rfl (by exact s1.ldA (k := 0) rfl ag146 sz146)⟩, beqV _ rfl⟩), fun _ _ => .inr ⟨rfl, ⟨_, o_move rfl⟩, beqV _ rfl⟩, fun _ _ => .inr ⟨rfl, ⟨_, o_bin rfl rfl (by exact bAdd (wrapS (by omega) (by omega)))⟩, beqV _ rfl⟩, trivial, trivial, trivial, trivial⟩, ?_⟩
 refine WP.ret ⟨trivial, _, rfl, ?_⟩
 exact ⟨rfl, s.drop⟩
noncomputable def gdO : Code := pathC [1, 1, 1, 1, 1, 1, 0, 1, 0, 0] ((Tryz.f43.body).getD .skip)
noncomputable def gdI : Code := pathC [1, 1, 1, 1, 1, 1, 0, 1, 0, 0, 1, 1, 0, 0, 1, 1, 1, 1, 0, 0] ((Tryz.f43.body).getD .skip)
theorem good_inner {p6 a z : Nat} {v3 v4 v5 v35 v36 : V} (haz : a + z ≤ 512) : ∀ (m q : Nat) (t : List Bool) (h : H) (E : List (Nat × V)) (Q : Ex → List (Nat × V) → H → Prop), q + m = a + z → t.length = 512 →
  Sat h (pt p6 (.cells 512 (bsV t) false) :: S) → Has E [(3, v3), (4, v4), (5, v5), (6, .ptr p6 0), (8, .int .i64 (a : Int)), (9, .int .i64 (z : Int)), (10, .int .i64 (q : Int)), (35, v35), (36, v36)] →
  (markL m q t = none → ∀ E' h', look E' 2 = some (.bool false) → Sat h' S → Q .ret E' h') →
  (∀ t' E' h', markL m q t = some t' → Has E' [(3, v3), (4, v4), (5, v5), (6, .ptr p6 0), (35, v35), (36, v36)] → Sat h' (pt p6 (.cells 512 (bsV t') false) :: S) → Q (.exit 2) E' h') →
  WP ⟨Tryz.prog, told⟩ 68 (.loop gdI) E h Q := by
 intro m
 induction m with
 | zero =>
  intro q t h E Q hq ht s hE hr hx
  refine WP.loop (WP.has hE (zw (zg rfl (zm rfl (zm rfl (zm rfl (zb rfl (by exact bAdd (wrapS (by omega) (by omega))) ?_)))))))
  refine WPs.opF rfl rfl rfl (o_bin rfl rfl bLss) (by simp; omega) ?_
  refine zv (zj rfl (WP.exit ?_))
  exact hx t _ _ rfl ⟨rfl, rfl, rfl, rfl, rfl, rfl, trivial⟩ s
 | succ m ih =>
  intro q t h E Q hq ht s hE hr hx
  have hqt : q < t.length := by omega
  refine WP.loop (WP.has hE (zw (zg rfl (zm rfl (zm rfl (zm rfl (zb rfl (by exact bAdd (wrapS (by omega) (by omega))) ?_)))))))
  refine WPs.opT rfl rfl rfl (o_bin rfl rfl bLss) (by simp; omega) ?_
  refine zv (zi rfl (WP.skip (zw (WP.block (zw (zg rfl (zm rfl (zo rfl (o_ia (r := .ptr p6 q) rfl rfl (by rw [ia147, show (decide ((0 : Int) ≤ (q : Int)) && decide ((q : Int) < ((512 : Nat) : Int))) = true by simp; omega, cond_true]; simp)) ?_))))))))
  cases hm : t.getD q false with
  | true =>
   refine WPs.opT rfl rfl rfl (o_load rfl (s.ld (k := 0) rfl ag4 (bsV_nth hqt))) (hm) (zv (zi rfl (zg rfl (za rfl (zv (WP.ret ?_))))))
   refine hr ?_ _ _ rfl s.drop
   rw [markL, if_pos hm]
  | false =>
   refine WPs.opF rfl rfl rfl (o_load rfl (s.ld (k := 0) rfl ag4 (bsV_nth hqt))) (hm) (zv (zj rfl (WP.skip (zr rfl (zm rfl (zo rfl (o_ia (r := .ptr p6 q) rfl rfl (by rw [ia147, show (decide ((0 : Int) ≤ (q : Int)) && decide ((q : Int) < ((512 : Nat) : Int))) = true by simp; omega, cond_true]; simp)) ?_))))))
   refine WPs.stS rfl rfl rfl rfl rfl (s.st1 (k := 0) rfl sz4 (by simp [bsV, ht]) (by omega) rfl rfl) ?_
   intro h s
   dsimp only [setA] at s
   rw [bsV_set] at s
   refine zv (zr rfl (zm rfl (zb rfl (by exact bAdd (wrapS (by omega) (by omega))) ?_)))
   refine za rfl (zv ?_)
   have e : markL (m + 1) q t = markL m (q + 1) (t.set q true) := by rw [markL, if_neg (by rw [hm]; decide)]
   rw [e] at hr hx
   exact ih (q + 1) (t.set q true) h _ Q (by omega) (by simp [ht]) s ⟨rfl, rfl, rfl, rfl, rfl, rfl, rfl, rfl, rfl, trivial⟩ hr hx
theorem good_outer (hT : W told) {p6 p3 : Nat} {n low : Nat} {x : V} (hX : Ent X (rdB x l)) (hl : l.length = 512) (hlt : ∀ b ∈ l, b < 256) (hx1 : x.cells = [x]) (hx2 : storable x = true) (hn : n = cntL l) (hlow : 26 + 4 * n ≤ low) (hlow2 : low ≤ 512) : ∀ (m i : Nat) (t : List Bool) (h : H) (E : List (Nat × V)) (Q : Ex → List (Nat × V) → H → Prop), i + m = n → t.length = 512 →
  Sat h (pt p6 (.cells 512 (bsV t) false) :: pt p3 (.cells 1 [x] false) :: X :: S) → Has E [(3, .ptr p3 0), (4, .int .i64 (n : Int)), (5, .int .i64 (low : Int)), (6, .ptr p6 0), (35, .int .i64 (n : Int)), (36, .int .i64 (i : Int))] →
  (cellsL l low m i t = false → ∀ E' h', look E' 2 = some (.bool false) → Sat h' (X :: S) → Q .ret E' h') →
  (cellsL l low m i t = true → ∀ E' h', Sat h' (X :: S) → Q (.exit 0) E' h') →
  WP ⟨Tryz.prog, told⟩ 68 (.loop gdO) E h Q := by
 intro m
 induction m with
 | zero =>
  intro i t h E Q hi ht s hE hr hx
  refine WP.loop (WP.has hE (zg rfl (WPs.opF rfl rfl rfl (o_bin rfl rfl bLss) (by simp; omega) ?_)))
  refine zv (zw (zj rfl (WP.exit ?_)))
  exact hx rfl _ _ s.drop.drop
 | succ m ih =>
  intro i t h E Q hi ht s hE hr hx
  have hf := atL_lt (l := l) (a := 26 + 4 * i) (z := 2) hlt
  have hz := atL_lt (l := l) (a := 26 + 4 * i + 2) (z := 2) hlt
  have ef : slotF l i = atL l (26 + 4 * i) 2 := rfl
  have ez : slotZ l i = atL l (26 + 4 * i + 2) 2 := rfl
  refine WP.loop (WP.has hE (zg rfl (WPs.opT rfl rfl rfl (o_bin rfl rfl bLss) (by simp; omega) ?_)))
  refine zv (zw (zi rfl (WP.skip (zw (WP.block (zg rfl (zm rfl (za rfl (zv (zg rfl (zl rfl (by exact s.ldA (k := 1) rfl ag146 sz146) ?_)))))))))))
  refine zm rfl (WPs.call rfl rfl rfl rfl rfl rfl rfl (slot_ct (i := i) hT s (k := 2) rfl hX hl (by omega)) ?_)
  rintro r h' ⟨rfl, s⟩
  refine zm rfl (ze rfl (ze rfl (za rfl (za rfl (zv (zw (zg rfl (zm rfl (zm rfl ?_)))))))))
  refine WPs.opB rfl rfl rfl (o_bin rfl rfl bLss) ?_ ?_
  ·intro hq
   have hq : slotF l i < low := by simp at hq; omega
   refine zm rfl (zx rfl (zx rfl (zx rfl (zx rfl (zq rfl (zv (zi rfl (zg rfl (za rfl (zv (WP.ret ?_)))))))))))
   refine hr ?_ _ _ rfl s.drop.drop
   rw [cellsL, if_pos (.inl hq)]
  ·intro hq
   have hq : low ≤ slotF l i := by simp at hq; omega
   refine zm rfl (zm rfl (zm rfl (zb rfl (by exact bAdd (wrapS (by omega) (by omega))) ?_)))
   refine WPs.opB rfl rfl rfl (o_bin rfl rfl bGtr) ?_ ?_
   ·intro hq2
    have hq2 : 512 < slotF l i + slotZ l i := by simp at hq2; omega
    refine zp rfl (zv (zi rfl (zg rfl (za rfl (zv (WP.ret ?_))))))
    refine hr ?_ _ _ rfl s.drop.drop
    rw [cellsL, if_pos (.inr hq2)]
   ·intro hq2
    have hq2 : slotF l i + slotZ l i ≤ 512 := by simp at hq2; omega
    refine zp rfl (zv (zj rfl (WP.skip (zg rfl (zm rfl (za rfl (zv (WP.block ?_))))))))
    have e : cellsL l low (m + 1) i t = (match markL (slotZ l i) (slotF l i) t with | none => false | some t' => cellsL l low m (i + 1) t') := by rw [cellsL, if_neg (by omega)]
    rw [e] at hr hx
    refine good_inner hq2 (slotZ l i) (slotF l i) t _ _ _ rfl ht s ⟨rfl, rfl, rfl, rfl, rfl, rfl, rfl, rfl, rfl, trivial⟩ (fun hm E' h' h2 s' => ?_) (fun t' E' h' hm hE' s' => ?_)
    ·rw [hm] at hr
     exact hr rfl _ _ h2 s'.drop
    ·rw [hm] at hr hx
     refine WP.has hE' (zr rfl (zb rfl (by exact bAdd (wrapS (by omega) (by omega))) ?_))
     refine zm rfl (zv ?_)
     exact ih (i + 1) t' h' _ Q (by omega) (by rw [markL_len _ _ _ _ hm, ht]) s' ⟨rfl, rfl, rfl, rfl, rfl, rfl, trivial⟩ hr hx
theorem good_ct (hT : W told) (s : Sat h (X :: S)) (hX : Ent X (rdB v l)) (hl2 : l.length < 9223372036854775808) :
  Call ⟨Tryz.prog, told⟩ 43 [v] h fun r h' => r = .bool (goodL l) ∧ Sat h' (X :: S) := by
 have hv := s.viewX (k := 0) rfl hX
 refine Call.of_wp (hT.free _ rfl) Tryz.func43 rfl rfl (zg rfl (za rfl (zv (zw (zg rfl (zm rfl (zo rfl (o_len rfl rfl rfl (by exact len_view Tryz.underlying32 (s.viewX (k := 0) rfl hX))) ?_)))))))
 refine WPs.opB rfl rfl rfl (o_bin rfl rfl bNeq) ?_ ?_
 ·intro hq
  have hq : l.length ≠ 512 := by simp at hq; omega
  refine zm rfl (zx rfl (zx rfl (zx rfl (zx rfl (zq rfl (zv (zi rfl (zg rfl (za rfl (zv ?_))))))))))
  refine WP.ret ⟨trivial, _, rfl, ?_⟩
  exact ⟨by rw [goodL, decide_eq_false hq, Bool.false_and], s⟩
 ·intro hq
  have hq : l.length = 512 := by simp at hq; omega
  have hb : l[13]? = some (l[13]'(by omega)) := List.getElem?_eq_getElem _
  generalize hbe : (l[13]'(by omega)) = b at hb
  have hgd : l.getD 13 0 = b := by rw [List.getD_eq_getElem?_getD, hb]; rfl
  obtain ⟨id, off, e1, e2⟩ := index_view hv hb
  refine zm rfl (zm rfl (zo rfl (o_ia (r := .ptr id off) rfl rfl e1) (zl rfl e2 ?_)))
  refine WPs.opB rfl rfl rfl (o_bin rfl rfl bNeq) ?_ ?_
  ·intro hq2
   have hq2 : b ≠ 0 := by simp at hq2; omega
   refine zp rfl (zv (zi rfl (zg rfl (za rfl (zv ?_)))))
   refine WP.ret ⟨trivial, _, rfl, ?_⟩
   exact ⟨by rw [goodL, decide_eq_true hq, hgd, decide_eq_false hq2, Bool.false_and, Bool.and_false], s⟩
  ·intro hq2
   have hq2 : b = 0 := by simp at hq2; omega
   obtain ⟨pi, po, pc, rfl⟩ := view_sl hv (by omega)
   refine zp rfl (zv (zj rfl (WP.skip (zg rfl (zm rfl (zo rfl (o_build rfl (by rw [bv146]; rfl)) ?_))))))
   refine WPs.newS s rfl rfl rfl (o_alloc zt146) (fun p3 h s => ?_)
   dsimp only [V.cells, List.length_cons, List.length_nil, Nat.reduceAdd] at s
   refine WPs.stS rfl rfl rfl rfl rfl (by exact s.stA (j := 0) rfl sz146 rfl rfl) (fun h s => ?_)
   dsimp only [V.cells, List.take, List.length_cons, List.length_nil, Nat.reduceAdd, List.drop, List.cons_append, List.nil_append, setA] at s
   refine zv (zw ?_)
   have s0 := s
   refine WP.drawn [none, none, some (0, 2), none, none, none] rfl (by kernel_rfl) (by kernel_rfl) ?_
   refine zL rfl (by exact s.ldA (k := 0) rfl ag146 sz146) ?_
   refine WPt.any rfl rfl rfl rfl (OpR.call rfl rfl rfl rfl (count_ct hT s (k := 1) rfl hX hq)) ?_
   rintro r h' ⟨rfl, s⟩
   have s1 := s
   refine zL rfl (by exact s.ldA (k := 0) rfl ag146 sz146) ?_
   refine WPt.any rfl rfl rfl rfl (OpR.call rfl rfl rfl rfl (low_ct hT s (k := 1) rfl hX hq)) ?_
   rintro r h' ⟨rfl, s⟩
   refine zA rfl (zA rfl ?_)
   refine WPt.nil ⟨⟨trivial, trivial, heaps2 (.inr ⟨rfl, ⟨_, o_load rfl (by exact s0.ldA (k := 0) rfl ag146 sz146)⟩, beqV _ rfl⟩) (.inr ⟨rfl, ⟨_, o_load rfl (by exact s1.ldA (k := 0) rfl ag146 sz146)⟩, beqV _ rfl⟩), trivial, trivial, trivial, trivial⟩, ?_⟩
   have hc1 := atL_lt (l := l) (a := 14) (z := 2) hv.1
   have hc2 := atL_lt (l := l) (a := 16) (z := 2) hv.1
   have ec : cntL l = atL l 14 2 := rfl
   have el : lowL l = atL l 16 2 := rfl
   refine zw (zg rfl (zm rfl (zb rfl (by exact bMul (wrapS (by omega) (by omega))) ?_)))
   refine zb rfl (by exact bAdd (wrapS (by omega) (by omega))) ?_
   refine zm rfl ?_
   refine WPs.opB rfl rfl rfl (o_bin rfl rfl bGtr) ?_ ?_
   ·intro hq3
    have hq3 : lowL l < 26 + 4 * cntL l := by simp at hq3; omega
    refine zm rfl (zx rfl (zx rfl (zq rfl (zv (zi rfl (zg rfl (za rfl (zv ?_))))))))
    refine WP.ret ⟨trivial, _, rfl, ?_⟩
    exact ⟨by rw [goodL, decide_eq_true hq, hgd, decide_eq_true hq2, decide_eq_false (by omega : ¬(26 + 4 * cntL l ≤ lowL l ∧ lowL l ≤ 512))]; rfl, s.drop⟩
   ·intro hq3
    have hq3 : 26 + 4 * cntL l ≤ lowL l := by simp at hq3; omega
    refine zm rfl (zm rfl ?_)
    refine WPs.opB rfl rfl rfl (o_bin rfl rfl bGtr) ?_ ?_
    ·intro hq4
     have hq4 : 512 < lowL l := by simp at hq4; omega
     refine zp rfl (zv (zi rfl (zg rfl (za rfl (zv ?_)))))
     refine WP.ret ⟨trivial, _, rfl, ?_⟩
     exact ⟨by rw [goodL, decide_eq_true hq, hgd, decide_eq_true hq2, decide_eq_false (by omega : ¬(26 + 4 * cntL l ≤ lowL l ∧ lowL l ≤ 512))]; rfl, s.drop⟩
    ·intro hq4
     have hq4 : lowL l ≤ 512 := by simp at hq4; omega
     refine zp rfl (zv (zj rfl (WP.skip (zg rfl (WPs.newS s rfl rfl rfl (o_alloc zt_bools) ?_)))))
     intro p6 h s
     have hbl : (bsV (List.replicate 512 false)).length = 512 := by rw [bsV, List.length_map, List.length_replicate]
     dsimp only [V.cells] at s
     rw [hbl] at s
     refine zv (zw (zg rfl (zm rfl (zm rfl (zv (WP.block ?_))))))
     have hg : goodL l = cellsL l (lowL l) (cntL l) 0 (List.replicate 512 false) := by
      rw [goodL, decide_eq_true hq, hgd, decide_eq_true hq2, decide_eq_true (⟨hq3, hq4⟩ : 26 + 4 * cntL l ≤ lowL l ∧ lowL l ≤ 512)]; rfl
     refine good_outer hT hX hq hv.1 rfl rfl rfl hq3 hq4 (cntL l) 0 (List.replicate 512 false) _ _ _ (by omega) List.length_replicate s ⟨rfl, rfl, rfl, rfl, rfl, rfl, trivial⟩ (fun hc E' h' h2 s' => ?_) (fun hc E' h' s' => ?_)
     ·rw [hg, hc]
      exact ⟨trivial, _, res1 h2, rfl, s'⟩
     ·rw [hg, hc]
      refine WP.has (F := []) trivial (zg rfl (za rfl (zv ?_)))
      refine WP.ret ⟨trivial, _, rfl, ?_⟩
      exact ⟨rfl, s'⟩
end
end Go.Proofs.YtconhghphklfjaaGreat.Am
