/- A group that is over or open, pages that are none and records that may not be are refused, and a record that was done is read back; the conditions are those of the given statement, for arguments that a machine can hold. Part 28 of 44. -/
import Derived.Test.YtconhghphklfjaaGreatE27
namespace Go.Proofs.YtconhghphklfjaaGreat.Am
open Go
structure Lg where
 base : Nat
 b : List Nat
 starts : List Nat
 forced : Nat
 check : Nat
def intsL (l : List Nat) : List V := l.map fun (n : Nat) => V.int .i64 (n : Int)
theorem intsL_len (l : List Nat) : (intsL l).length = l.length := by simp [intsL]
def lgC (p base : Nat) (bv sv : V) (forced check : Nat) : List V := [.ptr p 0, .int .u64 (base : Int), bv, sv, .int .i64 (forced : Int), .int .u64 (check : Int)]
def isLg (q p : Nat) (μ : Lg) : Assn := xs fun bv : V => xs fun sv : V => star [pt q (.cells 6 (lgC p μ.base bv sv μ.forced μ.check) false), bufA bv μ.b, .arr 1 sv (intsL μ.starts)]
structure Lg.Ok (μ : Lg) : Prop where
 size : μ.base + μ.b.length ≤ 1099511627776
 many : μ.starts.length ≤ 16777216
 low : ∀ s ∈ μ.starts, s < μ.b.length
 rise : μ.starts.Pairwise (· < ·)
 forced : μ.forced ≤ μ.b.length
 len : μ.b.length ≤ 16777216
 check : μ.check ≤ 1099511627776
theorem bHalf {P : Program} {h : H} {t : TypeId} {x y : Operand} {a b : Nat} (hab : a + b < 4611686018427387904) : binV P h .quo t x y (.int .i64 ((a : Int) + (b : Int))) (.int .i64 2) = some (.int .i64 (((a + b) / 2 : Nat) : Int)) := by
 simp only [binV, ikBeq, cond_true, intV]
 rw [show intBeq 2 0 = false from rfl, cond_false, Int.tdiv_eq_ediv_of_nonneg (by omega), wrapS (by omega) (by omega)]
 congr 2
section
variable {told : Nat → Option (List V → H → Option (V × H))} {h : H} {S : List Assn} {X : Assn} {k q p : Nat} {v : V} {l : List Nat} {μ : Lg}
theorem isLg_iff : Sat h (isLg q p μ :: S) ↔ ∃ bv sv, Sat h (pt q (.cells 6 (lgC p μ.base bv sv μ.forced μ.check) false) :: bufA bv μ.b :: .arr 1 sv (intsL μ.starts) :: S) := by
 simp only [isLg, Sat_xs, Sat_star, List.cons_append, List.nil_append]
theorem arr1_at {P : Program} {t e : TypeId} {cs : List V} {i : Nat} {c : V} (s : Sat h S) (hk : getA S k = some (.arr 1 v cs)) (hi : cs[i]? = some c) (hu : P.underlying t = some (.slice e)) (hse : sizeT P e = some 1) :
  ∃ id off, indexAddrV P t v (.int .i64 (i : Int)) = some (.ptr id off) ∧ ∀ t', isAggT P t' = some false → loadV P h t' (.ptr id off) = some c := by
 have hil : i < cs.length := (List.getElem?_eq_some_iff.1 hi).1
 obtain ⟨m, r, h1, h2, h3⟩ := s.at hk
 rcases h3.2 with ⟨_, rfl⟩ | ⟨id, n, cap, N, rest, rfl, hg, e1, e2, _⟩
 ·simp at hi
 ·refine ⟨id, i, ?_, fun t' ht => ld1 ht (h1 _ _ hg) ?_⟩
  ·simp only [indexAddrV, hu, hse, Int.toNat_natCast]
   rw [show (decide ((0 : Int) ≤ (i : Int)) && decide ((i : Int) < (n : Int))) = true by simp; omega, cond_true]
   simp
  ·rw [nth_eq, List.getElem?_append_left hil, hi]
theorem lFirst_ct (hT : W told) (s : Sat h (isLg q p μ :: S)) : Call ⟨Tryz.prog, told⟩ 30 [.ptr q 0] h fun v h' => v = .int .u64 (μ.base : Int) ∧ h' = h := by
 obtain ⟨bv, sv, s⟩ := isLg_iff.1 s
 refine Call.of_wp (hT.free _ rfl) Tryz.func30 rfl rfl (zg rfl (za rfl (zv (zg rfl (zm rfl (zn rfl (zf rfl (fa111_1 _ _) (zl rfl (by exact s.ld (k := 0) rfl ag35 rfl) ?_))))))))
 refine za rfl (zv ?_)
 refine WP.ret ⟨trivial, _, rfl, ?_⟩
 exact ⟨rfl, rfl⟩
theorem lChecked_ct (hT : W told) (s : Sat h (isLg q p μ :: S)) : Call ⟨Tryz.prog, told⟩ 60 [.ptr q 0] h fun v h' => v = .int .u64 (μ.check : Int) ∧ h' = h := by
 obtain ⟨bv, sv, s⟩ := isLg_iff.1 s
 refine Call.of_wp (hT.free _ rfl) Tryz.func60 rfl rfl (zg rfl (za rfl (zv (zg rfl (zm rfl (zn rfl (zf rfl (fa111_5 _ _) (zl rfl (by exact s.ld (k := 0) rfl ag35 rfl) ?_))))))))
 refine za rfl (zv ?_)
 refine WP.ret ⟨trivial, _, rfl, ?_⟩
 exact ⟨rfl, rfl⟩
theorem lEnd_ct (hT : W told) (s : Sat h (isLg q p μ :: S)) (hb : μ.base + μ.b.length ≤ 1099511627776) : Call ⟨Tryz.prog, told⟩ 31 [.ptr q 0] h fun v h' => v = .int .u64 ((μ.base : Int) + (μ.b.length : Int)) ∧ h' = h := by
 obtain ⟨bv, sv, s⟩ := isLg_iff.1 s
 refine Call.of_wp (hT.free _ rfl) Tryz.func31 rfl rfl (zg rfl (za rfl (zv (zw (WP.drawn [none, none, none, none, none, none, none, none, none, none, none, none] rfl (by kernel_rfl) (by kernel_rfl) ?_)))))
 refine zM rfl (zN rfl (zF rfl (fa111_1 _ _) (zL rfl (by exact s.ld (k := 0) rfl ag35 rfl) ?_)))
 refine zM rfl (zN rfl (zF rfl (fa111_2 _ _) (zL rfl (by exact s.ld (k := 0) rfl ag32 rfl) ?_)))
 refine zO rfl (o_len rfl rfl rfl (by exact len_view Tryz.underlying32 (s.viewX (k := 1) rfl (rd_buf _ _)))) ?_
 refine WPt.op rfl rfl rfl (by simp only [isEff, Tryz.underlying35]) (o_conv rfl (by exact cvI Tryz.underlying3 Tryz.underlying35 (wrapU (by omega) (by omega)))) ?_
 refine zO rfl (o_bin rfl rfl (by exact bAdd (wrapU (by omega) (by omega)))) ?_
 refine zA rfl ?_
 refine WPt.nil ⟨⟨trivial, trivial, trivial, trivial, trivial, trivial, trivial, trivial, trivial, trivial, trivial, trivial, trivial⟩, ?_⟩
 refine WP.ret ⟨trivial, _, rfl, ?_⟩
 exact ⟨rfl, rfl⟩
theorem lForced_ct (hT : W told) (s : Sat h (isLg q p μ :: S)) (hb : μ.base + μ.b.length ≤ 1099511627776) (hf : μ.forced ≤ μ.b.length) : Call ⟨Tryz.prog, told⟩ 34 [.ptr q 0] h fun v h' => v = .int .u64 ((μ.base : Int) + (μ.forced : Int)) ∧ h' = h := by
 obtain ⟨bv, sv, s⟩ := isLg_iff.1 s
 refine Call.of_wp (hT.free _ rfl) Tryz.func34 rfl rfl (zg rfl (za rfl (zv (zw (WP.drawn [none, none, none, none, none, none, none, none, none, none, none] rfl (by kernel_rfl) (by kernel_rfl) ?_)))))
 refine zM rfl (zN rfl (zF rfl (fa111_1 _ _) (zL rfl (by exact s.ld (k := 0) rfl ag35 rfl) ?_)))
 refine zM rfl (zN rfl (zF rfl (fa111_4 _ _) (zL rfl (by exact s.ld (k := 0) rfl ag3 rfl) ?_)))
 refine WPt.op rfl rfl rfl (by simp only [isEff, Tryz.underlying35]) (o_conv rfl (by exact cvI Tryz.underlying3 Tryz.underlying35 (wrapU (by omega) (by omega)))) ?_
 refine zO rfl (o_bin rfl rfl (by exact bAdd (wrapU (by omega) (by omega)))) ?_
 refine zA rfl ?_
 refine WPt.nil ⟨⟨trivial, trivial, trivial, trivial, trivial, trivial, trivial, trivial, trivial, trivial, trivial, trivial⟩, ?_⟩
 refine WP.ret ⟨trivial, _, rfl, ?_⟩
 exact ⟨rfl, rfl⟩
def Split (μ : Lg) (n i : Nat) : Prop := i ≤ μ.starts.length ∧ (∀ (j s : Nat), j < i → μ.starts[j]? = some s → μ.base + s < n) ∧ (∀ (j s : Nat), i ≤ j → μ.starts[j]? = some s → n ≤ μ.base + s)
theorem rise_lt {l : List Nat} (hr : l.Pairwise (· < ·)) {i j a b : Nat} (hij : i < j) (ha : l[i]? = some a) (hb : l[j]? = some b) : a < b := by
 obtain ⟨h1, rfl⟩ := List.getElem?_eq_some_iff.1 ha
 obtain ⟨h2, rfl⟩ := List.getElem?_eq_some_iff.1 hb
 exact List.pairwise_iff_getElem.1 hr _ _ h1 h2 hij
noncomputable def lfL : Code := pathC [1, 1, 0, 0, 0] ((Tryz.f99.body).getD .skip)
theorem find_loop {bv sv : V} {n : Nat} (hn : n < 18446744073709551616) (hμ : μ.Ok) (s : Sat h (pt q (.cells 6 (lgC p μ.base bv sv μ.forced μ.check) false) :: bufA bv μ.b :: .arr 1 sv (intsL μ.starts) :: S)) : ∀ (fuel lo hi : Nat) (E : List (Nat × V)) (Q : Ex → List (Nat × V) → H → Prop), hi - lo ≤ fuel → lo ≤ hi → hi ≤ μ.starts.length →
  (∀ (j s : Nat), j < lo → μ.starts[j]? = some s → μ.base + s < n) → (∀ (j s : Nat), hi ≤ j → μ.starts[j]? = some s → n ≤ μ.base + s) →
  Has E [(0, .ptr q 0), (1, .int .u64 (n : Int)), (5, .int .i64 (lo : Int)), (6, .int .i64 (hi : Int))] → (∀ E' i, Split μ n i → look E' 5 = some (.int .i64 (i : Int)) → Q (.exit 0) E' h) → WP ⟨Tryz.prog, told⟩ 39 (.loop lfL) E h Q := by
 have hmany := hμ.many
 have hsize := hμ.size
 intro fuel
 induction fuel with
 | zero =>
  intro lo hi E Q hf h1 h2 h3 h4 hE hq
  refine WP.loop (WP.has hE (zw (zg rfl (zm rfl (zm rfl (WPs.opF rfl rfl rfl (o_bin rfl rfl bLss) (by simp; omega) ?_))))))
  refine zv (zj rfl (WP.exit ?_))
  have e : lo = hi := by omega
  exact hq _ lo ⟨by omega, h3, by rw [e]; exact h4⟩ rfl
 | succ fuel ih =>
  intro lo hi E Q hf h1 h2 h3 h4 hE hq
  by_cases hlt : lo < hi
  ·skip
   refine WP.loop (WP.has hE (zw (zg rfl (zm rfl (zm rfl (WPs.opT rfl rfl rfl (o_bin rfl rfl bLss) (by simp; omega) ?_))))))
   refine zv (zi rfl (WP.skip (WP.block (zg rfl (zm rfl (zm rfl (zb rfl (by exact bAdd (wrapS (by omega) (by omega))) ?_)))))))
   refine zb rfl (bHalf (by omega)) ?_
   refine za rfl (zv (zw ?_))
   generalize hm : (lo + hi) / 2 = m
   have hm1 : lo ≤ m := by omega
   have hm2 : m < hi := by omega
   obtain ⟨st, hst⟩ : ∃ st, μ.starts[m]? = some st := ⟨_, List.getElem?_eq_getElem (by omega)⟩
   have hst2 := hμ.low st (List.mem_of_getElem? hst)
   have hlen := hμ.len
   have hc : (intsL μ.starts)[m]? = some (.int .i64 (st : Int)) := by simp [intsL, hst]
   obtain ⟨id, off, e1, e2⟩ := arr1_at (P := Tryz.prog) s (k := 2) rfl hc Tryz.underlying98 sz3
   refine WP.drawn [none, none, none, none, none, none, none, none, none, none, none, none, none, none, none] rfl (by kernel_rfl) (by kernel_rfl) ?_
   refine zM rfl (zN rfl (zF rfl (fa111_1 _ _) (zL rfl (by exact s.ld (k := 0) rfl ag35 rfl) ?_)))
   refine zM rfl (zN rfl (zF rfl (fa111_3 _ _) (zL rfl (by exact s.ld (k := 0) rfl ag98 rfl) ?_)))
   refine zM rfl (zO rfl (o_ia (r := .ptr id off) rfl rfl e1) (zL rfl (e2 _ ag3) (WPt.op rfl rfl rfl (by simp only [isEff, Tryz.underlying35]) (o_conv rfl (by exact cvI Tryz.underlying3 Tryz.underlying35 (wrapU (by omega) (by omega)))) ?_)))
   refine zO rfl (o_bin rfl rfl (by exact bAdd (wrapU (by omega) (by omega)))) ?_
   refine zM rfl ?_
   by_cases hc2 : μ.base + st < n
   ·skip
    refine WPt.opT rfl rfl rfl rfl (o_bin rfl rfl bLss) (by simp; omega) ?_
    refine WPt.nil ⟨⟨trivial, trivial, trivial, trivial, trivial, trivial, trivial, trivial, trivial, trivial, trivial, trivial, trivial, trivial, trivial, trivial⟩, ?_⟩
    refine zi rfl (zr rfl (zm rfl (zb rfl (by exact bAdd (wrapS (by omega) (by omega))) ?_)))
    refine za rfl (zv ?_)
    refine ih (m + 1) hi _ Q (by omega) (by omega) h2 (fun j s hj hs => ?_) h4 ⟨rfl, rfl, rfl, rfl, trivial⟩ hq
    by_cases hjm : j = m
    ·subst hjm; rw [hst] at hs; injection hs with hs; omega
    ·have := rise_lt hμ.rise (show j < m by omega) hs hst; omega
   ·skip
    refine WPt.opF rfl rfl rfl rfl (o_bin rfl rfl bLss) (by simp; omega) ?_
    refine WPt.nil ⟨⟨trivial, trivial, trivial, trivial, trivial, trivial, trivial, trivial, trivial, trivial, trivial, trivial, trivial, trivial, trivial, trivial⟩, ?_⟩
    refine zj rfl (zr rfl (zm rfl (za rfl (zv ?_))))
    refine ih lo m _ Q (by omega) hm1 (by omega) h3 (fun j s hj hs => ?_) ⟨rfl, rfl, rfl, rfl, trivial⟩ hq
    by_cases hjm : j = m
    ·subst hjm; rw [hst] at hs; injection hs with hs; omega
    ·have := rise_lt hμ.rise (show m < j by omega) hst hs; omega
  ·skip
   refine WP.loop (WP.has hE (zw (zg rfl (zm rfl (zm rfl (WPs.opF rfl rfl rfl (o_bin rfl rfl bLss) (by simp; omega) ?_))))))
   refine zv (zj rfl (WP.exit ?_))
   have e : lo = hi := by omega
   exact hq _ lo ⟨by omega, h3, by rw [e]; exact h4⟩ rfl
theorem find_ct (hT : W told) {n : Nat} (s : Sat h (isLg q p μ :: S)) (hμ : μ.Ok) (hn : n < 18446744073709551616) : Call ⟨Tryz.prog, told⟩ 99 [.ptr q 0, .int .u64 (n : Int)] h fun v h' => h' = h ∧ ∃ i, Split μ n i ∧ v = .int .i64 (i : Int) := by
 obtain ⟨bv, sv, s⟩ := isLg_iff.1 s
 refine Call.of_wp (hT.free _ rfl) Tryz.func99 rfl rfl (zg rfl (za rfl (zv (zw (WP.drawn [none, none, none, none, none, none, none] rfl (by kernel_rfl) (by kernel_rfl) ?_)))))
 refine zM rfl (zN rfl (zF rfl (fa111_3 _ _) (zL rfl (by exact s.ld (k := 0) rfl ag98 rfl) ?_)))
 refine zO rfl (o_len rfl rfl rfl (s.arrLen (n := μ.starts.length) (j := 2) rfl (by rw [intsL_len, Nat.mul_one]) (by decide) Tryz.underlying98)) ?_
 refine zA rfl (zA rfl ?_)
 refine WPt.nil ⟨⟨trivial, trivial, trivial, trivial, trivial, trivial, trivial, trivial⟩, ?_⟩
 refine zw (WP.block ?_)
 refine find_loop hn hμ s μ.starts.length 0 μ.starts.length _ _ (by omega) (by omega) (by omega) (fun j s hj _ => by omega) (fun j s hj hs => ?_) ⟨rfl, rfl, rfl, rfl, trivial⟩ (fun E' i hi hE' => ?_)
 ·rw [List.getElem?_eq_none (by omega)] at hs; cases hs
 ·skip
  refine WP.has (F := [(5, .int .i64 (i : Int))]) ⟨hE', trivial⟩ (zg rfl (zm rfl (za rfl (zv ?_))))
  refine WP.ret ⟨trivial, _, rfl, ?_⟩
  exact ⟨rfl, i, hi, rfl⟩
def Lg.hasB (μ : Lg) (n : Nat) : Bool := μ.starts.any fun s => decide (μ.base + s = n)
theorem Split.has {n i : Nat} (hs : Split μ n i) (hr : μ.starts.Pairwise (· < ·)) : μ.hasB n = true ↔ ∃ s, μ.starts[i]? = some s ∧ μ.base + s = n := by
 rw [Lg.hasB, List.any_eq_true]
 constructor
 ·rintro ⟨s, h1, h2⟩
  have h2 : μ.base + s = n := by simpa using h2
  obtain ⟨j, hj⟩ := List.getElem?_of_mem h1
  have hij : i ≤ j := by
   rcases Nat.lt_or_ge j i with h | h
   ·have := hs.2.1 j s h hj; omega
   ·exact h
  by_cases he : i = j
  ·subst he; exact ⟨s, hj, h2⟩
  ·have hjl := (List.getElem?_eq_some_iff.1 hj).1
   have hi : μ.starts[i]? = some (μ.starts[i]'(by omega)) := List.getElem?_eq_getElem _
   have h3 := hs.2.2 i _ (Nat.le_refl _) hi
   have h4 := rise_lt hr (show i < j by omega) hi hj
   omega
 ·rintro ⟨s, h1, h2⟩
  exact ⟨s, List.mem_of_getElem? h1, by simpa using h2⟩
theorem starts_at {i st : Nat} (hst : μ.starts[i]? = some st) : (intsL μ.starts)[i]? = some (.int .i64 (st : Int)) := by simp [intsL, hst]
theorem lHas_ct (hT : W told) {n : Nat} (s : Sat h (isLg q p μ :: S)) (hμ : μ.Ok) (hn : n < 18446744073709551616) : Call ⟨Tryz.prog, told⟩ 56 [.ptr q 0, .int .u64 (n : Int)] h fun v h' => h' = h ∧ v = .bool (μ.hasB n) := by
 have s0 := s
 obtain ⟨bv, sv, s⟩ := isLg_iff.1 s
 have hmany := hμ.many
 have hsize := hμ.size
 refine Call.of_wp (hT.free _ rfl) Tryz.func56 rfl rfl (zg rfl (za rfl (zv (zg rfl (zm rfl (zm rfl (WPs.call rfl rfl rfl rfl rfl rfl rfl (find_ct hT s0 hμ hn) ?_)))))))
 rintro v h' ⟨rfl, i, hi, rfl⟩
 have hh := hi.has hμ.rise
 refine za rfl (zv (zw (WP.drawn [none, none, none, none, none, none, none, none, none, none, none, none, none, none, none, none, none, none, none, none, none, none, none, none, none] rfl (by kernel_rfl) (by kernel_rfl) ?_)))
 refine zM rfl (zM rfl (zN rfl (zF rfl (fa111_3 _ _) (zL rfl (by exact s.ld (k := 0) rfl ag98 rfl) ?_))))
 refine zO rfl (o_len rfl rfl rfl (s.arrLen (n := μ.starts.length) (j := 2) rfl (by rw [intsL_len, Nat.mul_one]) (by decide) Tryz.underlying98)) ?_
 by_cases hil : i < μ.starts.length
 ·skip
  refine WPt.opT rfl rfl rfl rfl (o_bin rfl rfl bLss) (by simp; omega) ?_
  obtain ⟨st, hst⟩ : ∃ st, μ.starts[i]? = some st := ⟨_, List.getElem?_eq_getElem hil⟩
  have hst2 := hμ.low st (List.mem_of_getElem? hst)
  obtain ⟨id, off, e1, e2⟩ := arr1_at (P := Tryz.prog) s (k := 2) rfl (starts_at hst) Tryz.underlying98 sz3
  refine zM rfl (zM rfl (zN rfl (zF rfl (fa111_1 _ _) (zL rfl (by exact s.ld (k := 0) rfl ag35 rfl) ?_))))
  refine zM rfl (zN rfl (zF rfl (fa111_3 _ _) (zL rfl (by exact s.ld (k := 0) rfl ag98 rfl) ?_)))
  refine zM rfl (zO rfl (o_ia (r := .ptr id off) rfl rfl e1) (zL rfl (e2 _ ag3) (WPt.op rfl rfl rfl (by simp only [isEff, Tryz.underlying35]) (o_conv rfl (by exact cvI Tryz.underlying3 Tryz.underlying35 (wrapU (by omega) (by omega)))) ?_)))
  refine zO rfl (o_bin rfl rfl (by exact bAdd (wrapU (by omega) (by omega)))) ?_
  refine zM rfl ?_
  by_cases he : μ.base + st = n
  ·skip
   refine WPt.opT rfl rfl rfl rfl (o_bin rfl rfl bEql) (by simp; omega) ?_
   refine zO rfl (o_pickT rfl rfl) (zA rfl ?_)
   refine WPt.nil ⟨⟨trivial, trivial, trivial, trivial, trivial, trivial, trivial, trivial, trivial, trivial, trivial, trivial, trivial, trivial, trivial, trivial, trivial, trivial, trivial, trivial, trivial, trivial, trivial, trivial, trivial, trivial⟩, ?_⟩
   refine WP.ret ⟨trivial, _, rfl, ?_⟩
   exact ⟨rfl, by rw [hh.2 ⟨st, hst, he⟩]⟩
  ·skip
   refine WPt.opF rfl rfl rfl rfl (o_bin rfl rfl bEql) (by simp; omega) ?_
   refine zO rfl (o_pickT rfl rfl) (zA rfl ?_)
   refine WPt.nil ⟨⟨trivial, trivial, trivial, trivial, trivial, trivial, trivial, trivial, trivial, trivial, trivial, trivial, trivial, trivial, trivial, trivial, trivial, trivial, trivial, trivial, trivial, trivial, trivial, trivial, trivial, trivial⟩, ?_⟩
   refine WP.ret ⟨trivial, _, rfl, ?_⟩
   refine ⟨rfl, ?_⟩
   cases hb : μ.hasB n with
   | false => rfl
   | true =>
    obtain ⟨s', h1, h2⟩ := hh.1 hb
    rw [hst] at h1; have := Option.some.inj h1; omega
 ·skip
  refine WPt.opF rfl rfl rfl rfl (o_bin rfl rfl bLss) (by simp; omega) ?_
  refine zM rfl (WPt.no (e := false) rfl rfl rfl rfl (WPt.no (e := false) rfl rfl rfl rfl (WPt.no (e := false) rfl rfl rfl rfl (WPt.no (e := false) rfl rfl rfl rfl (WPt.no (e := false) rfl rfl rfl rfl (WPt.no (e := false) rfl rfl rfl rfl (WPt.no (e := false) rfl rfl rfl rfl (WPt.no (e := false) rfl rfl rfl rfl (WPt.no (e := false) rfl rfl rfl rfl (WPt.no (e := false) rfl rfl rfl rfl (WPt.no (e := false) rfl rfl rfl rfl (WPt.no (e := false) rfl rfl rfl (by simp only [isEff, Tryz.underlying35]) ?_))))))))))))
  refine WPt.no (e := false) rfl rfl rfl rfl (WPt.no (e := false) rfl rfl rfl rfl (WPt.no (e := false) rfl rfl rfl rfl (zO rfl (o_pickF rfl rfl) (zA rfl ?_))))
  refine WPt.nil ⟨⟨trivial, trivial, trivial, trivial, trivial, trivial, trivial, trivial, trivial, trivial, trivial, trivial, trivial, trivial, trivial, trivial, trivial, trivial, trivial, trivial, trivial, trivial, trivial, trivial, trivial, trivial⟩, ?_⟩
  refine WP.ret ⟨trivial, _, rfl, ?_⟩
  refine ⟨rfl, ?_⟩
  cases hb : μ.hasB n with
  | false => rfl
  | true =>
   obtain ⟨s', h1, h2⟩ := hh.1 hb
   have := (List.getElem?_eq_some_iff.1 h1).1
   omega
theorem lForce_ct (hT : W told) {n : Nat} {δ : Dk} (s : Sat h (isLg q p μ :: isDk p δ :: S)) (hμ : μ.Ok) (hf : δ.fuse < 4294967296) : Call ⟨Tryz.prog, told⟩ 68 [.ptr q 0, .int .u64 (n : Int)] h fun v h' =>
  (n < μ.base + μ.forced ∧ v = .int .i64 0 ∧ Sat h' (isLg q p μ :: isDk p δ :: S)) ∨
  (μ.base + μ.forced ≤ n ∧ δ.dead = true ∧ v = .int .i64 9 ∧ Sat h' (isLg q p μ :: isDk p δ :: S)) ∨
  (μ.base + μ.forced ≤ n ∧ δ.dead = false ∧ δ.fuse = 0 ∧ v = .int .i64 9 ∧ Sat h' (isLg q p μ :: isDk p δ.die :: S)) ∨
  (μ.base + μ.forced ≤ n ∧ δ.dead = false ∧ δ.fuse ≠ 0 ∧ v = .int .i64 0 ∧ Sat h' (isLg q p { μ with forced := μ.b.length } :: isDk p { δ.cnt with certain := δ.log.length } :: S)) := by
 have hsize := hμ.size
 have hfo := hμ.forced
 have s0 := s
 obtain ⟨bv, sv, s⟩ := isLg_iff.1 s
 refine Call.of_wp (hT.free _ rfl) Tryz.func68 rfl rfl (zg rfl (za rfl (zv (zw (zg rfl (zm rfl (zm rfl (WPs.call rfl rfl rfl rfl rfl rfl rfl (lForced_ct hT s0 hμ.size hμ.forced) ?_))))))))
 rintro v h' ⟨rfl, rfl⟩
 by_cases hlt : n < μ.base + μ.forced
 ·skip
  refine WPs.opT rfl rfl rfl (o_bin rfl rfl bLss) (by simp; omega) ?_
  refine zv (zi rfl (zg rfl (za rfl (zv ?_))))
  refine WP.ret ⟨trivial, _, rfl, ?_⟩
  exact .inl ⟨hlt, rfl, s0⟩
 ·have hle : μ.base + μ.forced ≤ n := by omega
  refine WPs.opF rfl rfl rfl (o_bin rfl rfl bLss) (by simp; omega) ?_
  refine zv (zj rfl (WP.skip (zw (zg rfl (zm rfl (zn rfl (zf rfl (fa111_0 _ _) (zl rfl (by exact s.ld (k := 0) rfl ag23 rfl) ?_))))))))
  refine WPs.call rfl rfl rfl rfl rfl rfl rfl (dForce_ct hT (s0.bringS [1]) hf) ?_
  rintro v h (⟨hd, rfl, s⟩ | ⟨hd, h0, rfl, s⟩ | ⟨hd, h0, rfl, s⟩)
  ·refine WPs.op rfl rfl rfl (o_assign rfl) ?_
   refine zv (zg rfl (zm rfl (WPs.opT rfl rfl rfl (o_bin rfl rfl bNeq) (rfl) (zv (zi rfl (zg rfl (zm rfl (za rfl (zv ?_)))))))))
   refine WP.ret ⟨trivial, _, rfl, ?_⟩
   exact .inr (.inl ⟨hle, hd, rfl, s.bringS [1]⟩)
  ·skip
   refine za rfl (zv (zg rfl (zm rfl (WPs.opT rfl rfl rfl (o_bin rfl rfl bNeq) (rfl) (zv (zi rfl (zg rfl (zm rfl (za rfl (zv ?_))))))))))
   refine WP.ret ⟨trivial, _, rfl, ?_⟩
   exact .inr (.inr (.inl ⟨hle, hd, h0, rfl, s.bringS [1]⟩))
  ·skip
   obtain ⟨bv, sv, s⟩ := isLg_iff.1 (s.bringS [1])
   dsimp only [lgC, delA, bringA] at s
   refine za rfl (zv (zg rfl (zm rfl (WPs.opF rfl rfl rfl (o_bin rfl rfl bNeq) (rfl) (zv (zj rfl (WP.skip (zg rfl (zm rfl (zm rfl (zn rfl (zf rfl (fa111_2 _ _) (zl rfl (by exact s.ld (k := 0) rfl ag32 rfl) ?_)))))))))))))
   refine zo rfl (o_len rfl rfl rfl (by exact len_view Tryz.underlying32 (s.viewX (k := 1) rfl (rd_buf _ _)))) ?_
   refine zn rfl (zf rfl (fa111_4 _ _) ?_)
   refine WPs.stS rfl rfl rfl rfl rfl (by exact s.st1 (k := 0) rfl sz3 rfl (by decide) rfl rfl) (fun h s => ?_)
   dsimp only [Nat.reduceAdd, List.set, setA] at s
   refine zv (zg rfl (za rfl (zv ?_)))
   refine WP.ret ⟨trivial, _, rfl, ?_⟩
   exact .inr (.inr (.inr ⟨hle, hd, h0, rfl, isLg_iff.2 ⟨bv, sv, s⟩⟩))
end
end Go.Proofs.YtconhghphklfjaaGreat.Am
namespace Go.Proofs.YtconhghphklfjaaGreat.Am
open Go
structure Chg where
 page : Int
 pos : Int
 whole : Bool
 b : List Nat
def Chg.Ok (c : Chg) : Prop := 0 ≤ c.page ∧ c.page < 65536 ∧ 0 ≤ c.pos ∧ c.pos ≤ 512 ∧ (c.b.length : Int) ≤ 512 - c.pos ∧ (c.whole = true → c.pos = 0 ∧ c.b.length = 512)
instance (c : Chg) : Decidable c.Ok := by unfold Chg.Ok; infer_instance
def goodR (kind : Int) (chs : List Chg) : Bool := decide (1 ≤ kind ∧ kind ≤ 9) && chs.all fun c => decide c.Ok
def rcC (kd : Int) (tx pv nx : Nat) (dt ch : V) : List V := [.int .i64 kd, .int .u64 (tx : Int), .int .u64 (pv : Int), .int .u64 (nx : Int), dt, ch]
theorem rcC_st {kd : Int} {tx pv nx : Nat} {dt ch : V} (hd : storable dt = true) (hc : storable ch = true) : (rcC kd tx pv nx dt ch).all storable = true := by
 simp only [rcC, List.all_cons, List.all_nil, hd, hc]
 rfl
def chgA : List V → List Chg → Assn
 | [], [] => .pu True
 | p :: a :: w :: v :: l, x :: m => .an (.an (.pu (p = .int .i64 x.page ∧ a = .int .i64 x.pos ∧ w = .bool x.whole)) (.rob v x.b)) (chgA l m)
 | _, _ => .pu False
theorem Pers.chg : ∀ (m : List Chg) (l : List V), Pers (chgA l m) := by
 intro m
 induction m with
 | nil => intro l; rcases l with _ | ⟨a, _ | ⟨b, _ | ⟨c, _ | ⟨d, l⟩⟩⟩⟩ <;> exact Pers.pu _
 | cons x m ih => intro l; rcases l with _ | ⟨a, _ | ⟨b, _ | ⟨c, _ | ⟨d, l⟩⟩⟩⟩ <;> first | exact Pers.pu _ | exact Pers.an (Pers.an (Pers.pu _) (Pers.rob _ _)) (ih l)
theorem chgA_len {a b : PM} : ∀ {m : List Chg} {l : List V}, (chgA l m).p a b → l.length = m.length * 4 := by
 intro m
 induction m with
 | nil => intro l h; rcases l with _ | ⟨x, _ | ⟨y, _ | ⟨z, _ | ⟨d, l⟩⟩⟩⟩ <;> first | rfl | exact h.elim
 | cons x m ih =>
  intro l h
  rcases l with _ | ⟨x, _ | ⟨y, _ | ⟨z, _ | ⟨d, l⟩⟩⟩⟩ <;> first | exact h.elim | skip
  have := ih h.2
  simp only [List.length_cons]
  omega
theorem chgA_app {a b : PM} : ∀ {m m' : List Chg} {l l' : List V}, (chgA l m).p a b → (chgA l' m').p a b → (chgA (l ++ l') (m ++ m')).p a b := by
 intro m
 induction m with
 | nil => intro m' l l' h h'; rcases l with _ | ⟨x, _ | ⟨y, _ | ⟨z, _ | ⟨d, l⟩⟩⟩⟩ <;> first | exact h' | exact h.elim
 | cons x m ih =>
  intro m' l l' h h'
  rcases l with _ | ⟨x, _ | ⟨y, _ | ⟨z, _ | ⟨d, l⟩⟩⟩⟩ <;> first | exact h.elim | exact ⟨h.1, ih h.2 h'⟩
theorem chgA_get {a b : PM} : ∀ {m : List Chg} {l : List V} {i : Nat} {c : Chg}, (chgA l m).p a b → m[i]? = some c → ∃ u, (l.drop (i * 4)).take 4 = [.int .i64 c.page, .int .i64 c.pos, .bool c.whole, u] ∧ (Assn.rob u c.b).p a b := by
 intro m
 induction m with
 | nil => intro l i c h hc; simp at hc
 | cons x m ih =>
  intro l i c h hc
  rcases l with _ | ⟨p, _ | ⟨q, _ | ⟨w, _ | ⟨v, l⟩⟩⟩⟩ <;> first | exact h.elim | skip
  obtain ⟨⟨⟨h1, h2, h3⟩, h4⟩, h5⟩ := h
  cases i with
  | zero => simp at hc; subst hc; exact ⟨v, by rw [h1, h2, h3]; rfl, h4⟩
  | succ i =>
   simp at hc
   obtain ⟨u, e1, e2⟩ := ih h5 hc
   refine ⟨u, ?_, e2⟩
   rw [← e1, show (i + 1) * 4 = i * 4 + 4 by omega]
   rfl
section
variable {told : Nat → Option (List V → H → Option (V × H))} {h : H} {S : List Assn} {X : Assn} {k q p : Nat} {v : V} {l : List Nat}
theorem chg_at {ch : V} {cs : List V} {m : List Chg} {i : Nat} {c : Chg} (s : Sat h (.arr 4 ch cs :: chgA cs m :: S)) (hc : m[i]? = some c) :
  ∃ id off u, indexAddrV Tryz.prog 38 ch (.int .i64 (i : Int)) = some (.ptr id off) ∧ loadV Tryz.prog h 54 (.ptr id off) = some (.agg [.int .i64 c.page, .int .i64 c.pos, .bool c.whole, u]) ∧
   u.cells = [u] ∧ storable u = true ∧ u.beq u = true ∧ Sat h (.rob u c.b :: .arr 4 ch cs :: chgA cs m :: S) := by
 obtain ⟨a, b, q1, q2, q3⟩ := s.at (k := 1) rfl
 have hil := (List.getElem?_eq_some_iff.1 hc).1
 have hl := chgA_len q3
 obtain ⟨u, e1, e2⟩ := chgA_get q3 hc
 obtain ⟨id, off, g1, g2⟩ := arr_at (P := Tryz.prog) (i := i) s (j := 0) rfl (by omega) (by decide) Tryz.underlying38 sz54
 have g2 := g2 ag54
 rw [e1] at g2
 have s2 : Sat h (chgA cs m :: .arr 4 ch cs :: S) := s.bringS [1]
 have s3 := (s2.dup (Pers.chg _ _)).ent (B := .rob u c.b) fun a b h => by
  obtain ⟨u', e1', e2'⟩ := chgA_get h hc
  rw [e1] at e1'
  injection e1' with _ e1'
  injection e1' with _ e1'
  injection e1' with _ e1'
  injection e1' with e1' _
  subst e1'
  exact e2'
 have hu := (s3.viewX (k := 0) rfl (rd_ro _ _))
 exact ⟨id, off, u, g1, g2, hu.cells.1, hu.cells.2, beqView hu, s3.bringS [0, 1, 0]⟩
theorem chg_len {ch : V} {cs : List V} {m : List Chg} {j1 j2 : Nat} {P : Program} {t e : TypeId} (s : Sat h S) (h1 : getA S j1 = some (.arr 4 ch cs)) (h2 : getA S j2 = some (chgA cs m)) (hu : P.underlying t = some (.slice e)) : lenV P h t ch = some (.int .i64 m.length) := by
 obtain ⟨a, b, q1, q2, q3⟩ := s.at h2
 exact s.arrLen h1 (chgA_len q3) (by decide) hu
theorem Sat.chgLen {ch : V} {cs : List V} {m : List Chg} {j1 j2 : Nat} {P : Program} {t e : TypeId} (s : Sat h S) (h1 : getA S j1 = some (.arr 4 ch cs)) (h2 : getA S j2 = some (chgA cs m)) (hu : P.underlying t = some (.slice e)) : lenV P h t ch = some (.int .i64 m.length) := chg_len s h1 h2 hu
noncomputable def gwL : Code := pathC [1, 1, 0, 1, 0, 0] ((Tryz.f120.body).getD .skip)
theorem wgood_loop {p1 : Nat} {ch : V} {cs : List V} {m : List Chg} : ∀ (j i : Nat) (h : H) (E : List (Nat × V)) (Q : Ex → List (Nat × V) → H → Prop), i + j = m.length → m.length < 4294967296 → (∀ c ∈ m, c.b.length < 9223372036854775808) →
  (∀ c ∈ m, -4294967296 ≤ c.pos ∧ c.pos ≤ 4294967296) → Sat h (.arr 4 ch cs :: chgA cs m :: S) → Has E [(1, .ptr p1 0), (14, ch), (15, .int .i64 m.length), (16, .int .i64 i)] →
  ((m.drop i).all (fun c => decide c.Ok) = false → ∀ E' h', look E' 2 = some (.bool false) → Sat h' (.arr 4 ch cs :: chgA cs m :: S) → Q .ret E' h') →
  ((m.drop i).all (fun c => decide c.Ok) = true → ∀ E' h', Sat h' (.arr 4 ch cs :: chgA cs m :: S) → Q (.exit 0) E' h') → WP ⟨Tryz.prog, told⟩ 61 (.loop gwL) E h Q := by
 intro j
 induction j with
 | zero =>
  intro i h E Q hi hm hb hpos s hE hr hx
  refine WP.loop (WP.has hE (zg rfl (WPs.opF rfl rfl rfl (o_bin rfl rfl bLss) (by simp; omega) ?_)))
  refine zv (zw (zj rfl (WP.exit ?_)))
  exact hx (by rw [List.drop_eq_nil_of_le (by omega)]; rfl) _ _ s
 | succ j ih =>
  intro i h E Q hi hm hb hpos s hE hr hx
  have hc : m[i]? = some (m[i]'(by omega)) := List.getElem?_eq_getElem _
  generalize (m[i]'(by omega)) = c at hc
  have hcm := List.mem_of_getElem? hc
  have hcb := hb c hcm
  have hcp := hpos c hcm
  have hdrop : m.drop i = c :: m.drop (i + 1) := by
   have := List.getElem?_eq_some_iff.1 hc
   obtain ⟨h1, rfl⟩ := this
   exact List.drop_eq_getElem_cons h1
  rw [hdrop, List.all_cons] at hr hx
  obtain ⟨id, off, u, e1, e2, u1, u2, u3, s⟩ := chg_at s hc
  refine WP.loop (WP.has hE (zg rfl (WPs.opT rfl rfl rfl (o_bin rfl rfl bLss) (by simp; omega) ?_)))
  refine zv (zw (zi rfl (WP.skip (zw (WP.block (zg rfl (zo rfl (o_ia (r := .ptr id off) rfl rfl e1) (zl rfl e2 ?_))))))))
  refine WPs.newS s rfl rfl rfl (o_alloc zt54) (fun p4 h s => ?_)
  dsimp only [V.cells, List.length_cons, List.length_nil, Nat.reduceAdd] at s
  refine WPs.stS rfl rfl rfl rfl rfl (s.stA (j := 0) rfl sz54 rfl (by simp only [List.all_cons, List.all_nil, u2]; rfl)) ?_
  intro h s
  dsimp only [setA] at s
  refine zv (zw (zg rfl (zf rfl (fa54_0 _ _) (zl rfl (by exact s.ld (k := 0) rfl ag3 rfl) ?_))))
  refine WPs.opB rfl rfl rfl (o_bin rfl rfl bLss) ?_ ?_
  ·intro hq0
   have hq0 : c.page < 0 := by simp at hq0; omega
   refine zm rfl (zx rfl (zx rfl (zx rfl (zq rfl (zm rfl (zx rfl (zx rfl (zx rfl (zq rfl (zm rfl (zx rfl (zx rfl (zx rfl (zq rfl (zm rfl (zx rfl (zx rfl (zx rfl (zx rfl (zx rfl (zx rfl (zx rfl (zq rfl (zv ?_))))))))))))))))))))))))
   refine zi rfl (zg rfl (za rfl (zv (WP.ret ?_))))
   exact hr (by rw [decide_eq_false (fun q : c.Ok => by have := q.1; omega), Bool.false_and]) _ _ rfl s.drop.drop
  ·intro hq0
   have hq0 : ¬ (c.page < 0) := by simp at hq0; omega
   refine zm rfl (zf rfl (fa54_0 _ _) (zl rfl (by exact s.ld (k := 0) rfl ag3 rfl) ?_))
   refine WPs.opB rfl rfl rfl (o_bin rfl rfl bGeq) ?_ ?_
   ·intro hq1
    have hq1 : 65536 ≤ c.page := by simp at hq1; omega
    refine zp rfl (zm rfl (zx rfl (zx rfl (zx rfl (zq rfl (zm rfl (zx rfl (zx rfl (zx rfl (zq rfl (zm rfl (zx rfl (zx rfl (zx rfl (zx rfl (zx rfl (zx rfl (zx rfl (zq rfl (zv (zi rfl (zg rfl (za rfl ?_)))))))))))))))))))))))
    refine zv (WP.ret ?_)
    exact hr (by rw [decide_eq_false (fun q : c.Ok => by have := q.2.1; omega), Bool.false_and]) _ _ rfl s.drop.drop
   ·intro hq1
    have hq1 : ¬ (65536 ≤ c.page) := by simp at hq1; omega
    refine zp rfl (zm rfl (zf rfl (fa54_1 _ _) (zl rfl (by exact s.ld (k := 0) rfl ag3 rfl) ?_)))
    refine WPs.opB rfl rfl rfl (o_bin rfl rfl bLss) ?_ ?_
    ·intro hq2
     have hq2 : c.pos < 0 := by simp at hq2; omega
     refine zp rfl (zm rfl (zx rfl (zx rfl (zx rfl (zq rfl (zm rfl (zx rfl (zx rfl (zx rfl (zx rfl (zx rfl (zx rfl (zx rfl (zq rfl (zv (zi rfl (zg rfl (za rfl (zv (WP.ret ?_))))))))))))))))))))
     exact hr (by rw [decide_eq_false (fun q : c.Ok => by have := q.2.2.1; omega), Bool.false_and]) _ _ rfl s.drop.drop
    ·intro hq2
     have hq2 : ¬ (c.pos < 0) := by simp at hq2; omega
     refine zp rfl (zm rfl (zf rfl (fa54_1 _ _) (zl rfl (by exact s.ld (k := 0) rfl ag3 rfl) ?_)))
     refine WPs.opB rfl rfl rfl (o_bin rfl rfl bGtr) ?_ ?_
     ·intro hq3
      have hq3 : 512 < c.pos := by simp at hq3; omega
      refine zp rfl (zm rfl (zx rfl (zx rfl (zx rfl (zx rfl (zx rfl (zx rfl (zx rfl (zq rfl (zv (zi rfl (zg rfl (za rfl (zv (WP.ret ?_)))))))))))))))
      exact hr (by rw [decide_eq_false (fun q : c.Ok => by have := q.2.2.2.1; omega), Bool.false_and]) _ _ rfl s.drop.drop
     ·intro hq3
      have hq3 : ¬ (512 < c.pos) := by simp at hq3; omega
      refine zp rfl (zm rfl (zf rfl (fa54_3 _ _) (zl rfl (by exact s.ld (k := 0) rfl ag32 rfl) ?_)))
      refine zo rfl (o_len rfl rfl rfl (by exact len_view Tryz.underlying32 (s.viewX (k := 1) rfl (rd_ro _ _)))) ?_
      refine zf rfl (fa54_1 _ _) (zl rfl (by exact s.ld (k := 0) rfl ag3 rfl) ?_)
      refine zb rfl (by exact bSub (wrapS (by omega) (by omega))) ?_
      refine WPs.opB rfl rfl rfl (o_bin rfl rfl bGtr) ?_ ?_
      ·intro hq4
       have hq4 : 512 - c.pos < (c.b.length : Int) := by simp at hq4; omega
       refine zp rfl (zv (zi rfl (zg rfl (za rfl (zv (WP.ret ?_))))))
       exact hr (by rw [decide_eq_false (fun q : c.Ok => by have := q.2.2.2.2.1; omega), Bool.false_and]) _ _ rfl s.drop.drop
      ·intro hq4
       have hq4 : ¬ (512 - c.pos < (c.b.length : Int)) := by simp at hq4; omega
       refine zp rfl (zv (zj rfl (WP.skip (zg rfl (zf rfl (fa54_2 _ _) ?_)))))
       have hstep : ∀ (h : H) (E : List (Nat × V)), c.Ok → Sat h (.arr 4 ch cs :: chgA cs m :: S) → Has E [(1, .ptr p1 0), (14, ch), (15, .int .i64 m.length), (16, .int .i64 ((i : Int) + 1))] → WP ⟨Tryz.prog, told⟩ 61 (.loop gwL) E h Q := by
        intro h E hok s hE
        rw [decide_eq_true hok, Bool.true_and] at hr hx
        exact ih (i + 1) h E Q (by omega) hm hb hpos s hE hr hx
       have hwc : c.whole = false ∨ c.whole = true := by cases c.whole <;> simp
       rcases hwc with hw | hw
       ·skip
        refine WPs.opF rfl rfl rfl (o_load rfl (by exact s.ld (k := 0) rfl ag4 rfl)) (hw) ?_
        refine zm rfl (zx rfl (zx rfl (zx rfl (zx rfl (zx rfl (zx rfl (zx rfl (zx rfl (zx rfl (zp rfl (zv (zj rfl (WP.skip (zr rfl (zb rfl (by exact bAdd (wrapS (by omega) (by omega))) ?_)))))))))))))))
        refine zm rfl (zv ?_)
        refine hstep _ _ ?_ ?_ ?_
        ·exact ⟨by omega, by omega, by omega, by omega, by omega, fun e => by rw [hw] at e; cases e⟩
        ·exact s.drop.drop
        ·exact ⟨rfl, rfl, rfl, rfl, trivial⟩
       ·skip
        refine WPs.opT rfl rfl rfl (o_load rfl (by exact s.ld (k := 0) rfl ag4 rfl)) (hw) ?_
        refine zm rfl (zf rfl (fa54_1 _ _) (zl rfl (by exact s.ld (k := 0) rfl ag3 rfl) ?_))
        refine WPs.opB rfl rfl rfl (o_bin rfl rfl bNeq) ?_ ?_
        ·intro hp
         have hp : c.pos ≠ 0 := by simp at hp; omega
         refine zm rfl (zx rfl (zx rfl (zx rfl (zx rfl (zq rfl (zq rfl (zv (zi rfl (zg rfl (za rfl (zv (WP.ret ?_))))))))))))
         exact hr (by rw [decide_eq_false (fun q : c.Ok => hp (q.2.2.2.2.2 hw).1), Bool.false_and]) _ _ rfl s.drop.drop
        ·intro hp
         have hp : c.pos = 0 := by simp at hp; omega
         refine zm rfl (zf rfl (fa54_3 _ _) (zl rfl (by exact s.ld (k := 0) rfl ag32 rfl) ?_))
         refine zo rfl (o_len rfl rfl rfl (by exact len_view Tryz.underlying32 (s.viewX (k := 1) rfl (rd_ro _ _)))) ?_
         refine WPs.opB rfl rfl rfl (o_bin rfl rfl bNeq) ?_ ?_
         ·intro hp2
          have hp2 : c.b.length ≠ 512 := by simp at hp2; omega
          refine zp rfl (zq rfl (zv (zi rfl (zg rfl (za rfl (zv (WP.ret ?_)))))))
          exact hr (by rw [decide_eq_false (fun q : c.Ok => hp2 (q.2.2.2.2.2 hw).2), Bool.false_and]) _ _ rfl s.drop.drop
         ·intro hp2
          have hp2 : c.b.length = 512 := by simp at hp2; omega
          refine zp rfl (zq rfl (zv (zj rfl (WP.skip (zr rfl (zb rfl (by exact bAdd (wrapS (by omega) (by omega))) ?_))))))
          refine zm rfl (zv ?_)
          refine hstep _ _ ?_ ?_ ?_
          ·exact ⟨by omega, by omega, by omega, by omega, by omega, fun _ => ⟨hp, hp2⟩⟩
          ·exact s.drop.drop
          ·exact ⟨rfl, rfl, rfl, rfl, trivial⟩
def chsFit (m : List Chg) : Prop := m.length < 4294967296 ∧ (∀ c ∈ m, c.b.length < 4294967296) ∧ (∀ c ∈ m, -4294967296 ≤ c.pos ∧ c.pos ≤ 4294967296)
theorem wgood_ct (hT : W told) {kd : Int} {tx pv nx : Nat} {dt ch : V} {cs : List V} {m : List Chg} (s : Sat h (.arr 4 ch cs :: chgA cs m :: S)) (hd : storable dt = true) (hm : chsFit m) :
  Call ⟨Tryz.prog, told⟩ 120 [.agg (rcC kd tx pv nx dt ch)] h fun r h' => r = .bool (goodR kd m) ∧ Sat h' (.arr 4 ch cs :: chgA cs m :: S) := by
 have hch := s.arrV (j := 0) rfl
 have hst := rcC_st (kd := kd) (tx := tx) (pv := pv) (nx := nx) hd hch.2.1
 refine Call.of_wp (hT.free _ rfl) Tryz.func120 rfl rfl (zg rfl (WPs.newS s rfl rfl rfl (o_box rfl hst) ?_))
 intro p1 h s
 dsimp only [V.cells] at s
 refine za rfl (zv (zw (zg rfl (zf rfl (fa40_0 _ _) (zl rfl (by exact s.ld (k := 0) rfl ag3 rfl) ?_)))))
 refine WPs.opB rfl rfl rfl (o_bin rfl rfl bLss) ?_ ?_
 ·intro hq
  have hq : kd < 1 := by simpa using hq
  refine zm rfl (zx rfl (zx rfl (zx rfl (zq rfl (zv (zi rfl (zg rfl (za rfl (zv ?_)))))))))
  refine WP.ret ⟨trivial, _, rfl, ?_⟩
  exact ⟨by rw [goodR, decide_eq_false (by omega), Bool.false_and], s.drop⟩
 ·intro hq
  have hq : 1 ≤ kd := by simpa using hq
  refine zm rfl (zf rfl (fa40_0 _ _) (zl rfl (by exact s.ld (k := 0) rfl ag3 rfl) ?_))
  refine WPs.opB rfl rfl rfl (o_bin rfl rfl bGtr) ?_ ?_
  ·intro hq2
   have hq2 : 9 < kd := by simpa using hq2
   refine zp rfl (zv (zi rfl (zg rfl (za rfl (zv ?_)))))
   refine WP.ret ⟨trivial, _, rfl, ?_⟩
   exact ⟨by rw [goodR, decide_eq_false (by omega), Bool.false_and], s.drop⟩
  ·intro hq2
   have hq2 : kd ≤ 9 := by simpa using hq2
   refine zp rfl (zv (zj rfl (WP.skip (zw (zg rfl (zf rfl (fa40_5 _ _) (zl rfl (by exact s.ld (k := 0) rfl ag38 rfl) ?_)))))))
   refine zo rfl (o_len rfl rfl rfl (chg_len s (j1 := 1) (j2 := 2) rfl rfl Tryz.underlying38)) (zm rfl (zv (WP.block ?_)))
   have hg : goodR kd m = m.all (fun c => decide c.Ok) := by rw [goodR, decide_eq_true ⟨hq, hq2⟩, Bool.true_and]
   refine wgood_loop m.length 0 _ _ _ (by omega) hm.1 (fun c hc => by have := hm.2.1 c hc; omega) hm.2.2 s.drop ⟨rfl, rfl, rfl, rfl, trivial⟩ (fun hf E' h' h2 s' => ?_) (fun hf E' h' s' => ?_)
   ·rw [hg]
    rw [List.drop_zero] at hf
    rw [hf]
    exact ⟨trivial, _, res1 h2, rfl, s'⟩
   ·rw [hg]
    rw [List.drop_zero] at hf
    rw [hf]
    refine WP.has (F := []) trivial (zg rfl (za rfl (zv ?_)))
    refine WP.ret ⟨trivial, _, rfl, ?_⟩
    exact ⟨rfl, s'⟩
end
end Go.Proofs.YtconhghphklfjaaGreat.Am
