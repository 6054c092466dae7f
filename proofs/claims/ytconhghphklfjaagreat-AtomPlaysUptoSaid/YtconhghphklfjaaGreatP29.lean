/- Whatever groups are done and dropped, written out and checkpointed between, each page is as the groups that were done made it; the conditions are those of the given statement, for arguments that a machine can hold. Part 29 of 49. -/
import Derived.Test.YtconhghphklfjaaGreatP28
namespace Go.Proofs.YtconhghphklfjaaGreat.Am
open Go
structure Lg where
 base : Nat
 b : List Nat
 starts : List Nat
 forced : Nat
 check : Nat
def intsL (l : List Nat) : List V := l.map fun (n : Nat) => V.int .i64 (n : Int)
theorem intsL_len (l : List Nat) : (intsL l).length = l.length := by simp [intsL]
def lgC (p base : Nat) (bv sv : V) (forced check : Nat) : List V := [.ptr p 0, .int .u64 (base : Int), bv, sv, .int .i64 (forced : Int), .int .u64 (check : Int)]
def isLg (q p : Nat) (μ : Lg) : Assn := xs fun bv : V => xs fun sv : V => star [pt q (.cells 6 (lgC p μ.base bv sv μ.forced μ.check) false), bufA bv μ.b, .arr 1 sv (intsL μ.starts)]
structure Lg.Ok (μ : Lg) : Prop where
 size : μ.base + μ.b.length ≤ 1099511627776
 many : μ.starts.length ≤ 16777216
 low : ∀ s ∈ μ.starts, s < μ.b.length
 rise : μ.starts.Pairwise (· < ·)
 forced : μ.forced ≤ μ.b.length
 len : μ.b.length ≤ 16777216
 check : μ.check ≤ 1099511627776
theorem bHalf {P : Program} {h : H} {t : TypeId} {x y : Operand} {a b : Nat} (hab : a + b < 4611686018427387904) : binV P h .quo t x y (.int .i64 ((a : Int) + (b : Int))) (.int .i64 2) = some (.int .i64 (((a + b) / 2 : Nat) : Int)) := by
 simp only [binV, ikBeq, cond_true, intV]
 rw [show intBeq 2 0 = false from rfl, cond_false, Int.tdiv_eq_ediv_of_nonneg (by omega), wrapS (by omega) (by omega)]
 congr 2
section
variable {told : Nat → Option (List V → H → Option (V × H))} {h : H} {S : List Assn} {X : Assn} {k q p : Nat} {v : V} {l : List Nat} {μ : Lg}
theorem isLg_iff : Sat h (isLg q p μ :: S) ↔ ∃ bv sv, Sat h (pt q (.cells 6 (lgC p μ.base bv sv μ.forced μ.check) false) :: bufA bv μ.b :: .arr 1 sv (intsL μ.starts) :: S) := by
 simp only [isLg, Sat_xs, Sat_star, List.cons_append, List.nil_append]
theorem arr1_at {P : Program} {t e : TypeId} {cs : List V} {i : Nat} {c : V} (s : Sat h S) (hk : getA S k = some (.arr 1 v cs)) (hi : cs[i]? = some c) (hu : P.underlying t = some (.slice e)) (hse : sizeT P e = some 1) :
  ∃ id off, indexAddrV P t v (.int .i64 (i : Int)) = some (.ptr id off) ∧ ∀ t', isAggT P t' = some false → loadV P h t' (.ptr id off) = some c := by
 have hil : i < cs.length := (List.getElem?_eq_some_iff.1 hi).1
 obtain ⟨m, r, h1, h2, h3⟩ := s.at hk
 rcases h3.2 with ⟨_, rfl⟩ | ⟨id, n, cap, N, rest, rfl, hg, e1, e2, _⟩
 ·simp at hi
 ·refine ⟨id, i, ?_, fun t' ht => ld1 ht (h1 _ _ hg) ?_⟩
  ·simp only [indexAddrV, hu, hse, Int.toNat_natCast]
   rw [show (decide ((0 : Int) ≤ (i : Int)) && decide ((i : Int) < (n : Int))) = true by simp; omega, cond_true]
   simp
  ·rw [nth_eq, List.getElem?_append_left hil, hi]
theorem lFirst_ct (hT : W told) (s : Sat h (isLg q p μ :: S)) : Call ⟨Tryz.prog, told⟩ 30 [.ptr q 0] h fun v h' => v = .int .u64 (μ.base : Int) ∧ h' = h := by
 obtain ⟨bv, sv, s⟩ := isLg_iff.1 s
 refine Call.of_wp (hT.free _ rfl) Tryz.func30 rfl rfl (zg rfl (za rfl (zv (zg rfl (zm rfl (zn rfl (zf rfl (fa111_1 _ _) (zl rfl (by exact s.ld (k := 0) rfl ag35 rfl) ?_))))))))
 refine za rfl (zv ?_)
 refine WP.ret ⟨trivial, _, rfl, ?_⟩
 exact ⟨rfl, rfl⟩
theorem lChecked_ct (hT : W told) (s : Sat h (isLg q p μ :: S)) : Call ⟨Tryz.prog, told⟩ 60 [.ptr q 0] h fun v h' => v = .int .u64 (μ.check : Int) ∧ h' = h := by
 obtain ⟨bv, sv, s⟩ := isLg_iff.1 s
 refine Call.of_wp (hT.free _ rfl) Tryz.func60 rfl rfl (zg rfl (za rfl (zv (zg rfl (zm rfl (zn rfl (zf rfl (fa111_5 _ _) (zl rfl (by exact s.ld (k := 0) rfl ag35 rfl) ?_))))))))
 refine za rfl (zv ?_)
 refine WP.ret ⟨trivial, _, rfl, ?_⟩
 exact ⟨rfl, rfl⟩
theorem lEnd_ct (hT : W told) (s : Sat h (isLg q p μ :: S)) (hb : μ.base + μ.b.length ≤ 1099511627776) : Call ⟨Tryz.prog, told⟩ 31 [.ptr q 0] h fun v h' => v = .int .u64 ((μ.base : Int) + (μ.b.length : Int)) ∧ h' = h := by
 obtain ⟨bv, sv, s⟩ := isLg_iff.1 s
 refine Call.of_wp (hT.free _ rfl) Tryz.func31 rfl rfl (zg rfl (za rfl (zv (zw (WP.drawn [none, none, none, none, none, none, none, none, none, none, none, none] rfl (by kernel_rfl) (by kernel_rfl) ?_)))))
 refine zM rfl (zN rfl (zF rfl (fa111_1 _ _) (zL rfl (by exact s.ld (k := 0) rfl ag35 rfl) ?_)))
 refine zM rfl (zN rfl (zF rfl (fa111_2 _ _) (zL rfl (by exact s.ld (k := 0) rfl ag32 rfl) ?_)))
 refine zO rfl (o_len rfl rfl rfl (by exact len_view Tryz.underlying32 (s.viewX (k := 1) rfl (rd_buf _ _)))) ?_
 refine WPt.op rfl rfl rfl (by simp only [isEff, Tryz.underlying35]) (o_conv rfl (by exact cvI Tryz.underlying3 Tryz.underlying35 (wrapU (by omega) (by omega)))) ?_
 refine zO rfl (o_bin rfl rfl (by exact bAdd (wrapU (by omega) (by omega)))) ?_
 refine zA rfl ?_
 refine WPt.nil ⟨⟨trivial, trivial, trivial, trivial, trivial, trivial, trivial, trivial, trivial, trivial, trivial, trivial, trivial⟩, ?_⟩
 refine WP.ret ⟨trivial, _, rfl, ?_⟩
 exact ⟨rfl, rfl⟩
theorem lForced_ct (hT : W told) (s : Sat h (isLg q p μ :: S)) (hb : μ.base + μ.b.length ≤ 1099511627776) (hf : μ.forced ≤ μ.b.length) : Call ⟨Tryz.prog, told⟩ 34 [.ptr q 0] h fun v h' => v = .int .u64 ((μ.base : Int) + (μ.forced : Int)) ∧ h' = h := by
 obtain ⟨bv, sv, s⟩ := isLg_iff.1 s
 refine Call.of_wp (hT.free _ rfl) Tryz.func34 rfl rfl (zg rfl (za rfl (zv (zw (WP.drawn [none, none, none, none, none, none, none, none, none, none, none] rfl (by kernel_rfl) (by kernel_rfl) ?_)))))
 refine zM rfl (zN rfl (zF rfl (fa111_1 _ _) (zL rfl (by exact s.ld (k := 0) rfl ag35 rfl) ?_)))
 refine zM rfl (zN rfl (zF rfl (fa111_4 _ _) (zL rfl (by exact s.ld (k := 0) rfl ag3 rfl) ?_)))
 refine WPt.op rfl rfl rfl (by simp only [isEff, Tryz.underlying35]) (o_conv rfl (by exact cvI Tryz.underlying3 Tryz.underlying35 (wrapU (by omega) (by omega)))) ?_
 refine zO rfl (o_bin rfl rfl (by exact bAdd (wrapU (by omega) (by omega)))) ?_
 refine zA rfl ?_
 refine WPt.nil ⟨⟨trivial, trivial, trivial, trivial, trivial, trivial, trivial, trivial, trivial, trivial, trivial, trivial⟩, ?_⟩
 refine WP.ret ⟨trivial, _, rfl, ?_⟩
 exact ⟨rfl, rfl⟩
def Split (μ : Lg) (n i : Nat) : Prop := i ≤ μ.starts.length ∧ (∀ (j s : Nat), j < i → μ.starts[j]? = some s → μ.base + s < n) ∧ (∀ (j s : Nat), i ≤ j → μ.starts[j]? = some s → n ≤ μ.base + s)
theorem rise_lt {l : List Nat} (hr : l.Pairwise (· < ·)) {i j a b : Nat} (hij : i < j) (ha : l[i]? = some a) (hb : l[j]? = some b) : a < b := by
 obtain ⟨h1, rfl⟩ := List.getElem?_eq_some_iff.1 ha
 obtain ⟨h2, rfl⟩ := List.getElem?_eq_some_iff.1 hb
 exact List.pairwise_iff_getElem.1 hr _ _ h1 h2 hij
noncomputable def lfL : Code := pathC [1, 1, 0, 0, 0] ((Tryz.f99.body).getD .skip)
theorem find_loop {bv sv : V} {n : Nat} (hn : n < 18446744073709551616) (hμ : μ.Ok) (s : Sat h (pt q (.cells 6 (lgC p μ.base bv sv μ.forced μ.check) false) :: bufA bv μ.b :: .arr 1 sv (intsL μ.starts) :: S)) : ∀ (fuel lo hi : Nat) (E : List (Nat × V)) (Q : Ex → List (Nat × V) → H → Prop), hi - lo ≤ fuel → lo ≤ hi → hi ≤ μ.starts.length →
  (∀ (j s : Nat), j < lo → μ.starts[j]? = some s → μ.base + s < n) → (∀ (j s : Nat), hi ≤ j → μ.starts[j]? = some s → n ≤ μ.base + s) →
  Has E [(0, .ptr q 0), (1, .int .u64 (n : Int)), (5, .int .i64 (lo : Int)), (6, .int .i64 (hi : Int))] → (∀ E' i, Split μ n i → look E' 5 = some (.int .i64 (i : Int)) → Q (.exit 0) E' h) → WP ⟨Tryz.prog, told⟩ 39 (.loop lfL) E h Q := by
 have hmany := hμ.many
 have hsize := hμ.size
 intro fuel
 induction fuel with
 | zero =>
  intro lo hi E Q hf h1 h2 h3 h4 hE hq
  refine WP.loop (WP.has hE (zw (zg rfl (zm rfl (zm rfl (WPs.opF rfl rfl rfl (o_bin rfl rfl bLss) (by simp; omega) ?_))))))
  refine zv (zj rfl (WP.exit ?_))
  have e : lo = hi := by omega
  exact hq _ lo ⟨by omega, h3, by rw [e]; exact h4⟩ rfl
 | succ fuel ih =>
  intro lo hi E Q hf h1 h2 h3 h4 hE hq
  by_cases hlt : lo < hi
  ·skip
   refine WP.loop (WP.has hE (zw (zg rfl (zm rfl (zm rfl (WPs.opT rfl rfl rfl (o_bin rfl rfl bLss) (by simp; omega) ?_))))))
   refine zv (zi rfl (WP.skip (WP.block (zg rfl (zm rfl (zm rfl (zb rfl (by exact bAdd (wrapS (by omega) (by omega))) ?_)))))))
   refine zb rfl (bHalf (by omega)) ?_
   refine za rfl (zv (zw ?_))
   generalize hm : (lo + hi) / 2 = m
   have hm1 : lo ≤ m := by omega
   have hm2 : m < hi := by omega
   obtain ⟨st, hst⟩ : ∃ st, μ.starts[m]? = some st := ⟨_, List.getElem?_eq_getElem (by omega)⟩
   have hst2 := hμ.low st (List.mem_of_getElem? hst)
   have hlen := hμ.len
   have hc : (intsL μ.starts)[m]? = some (.int .i64 (st : Int)) := by simp [intsL, hst]
   obtain ⟨id, off, e1, e2⟩ := arr1_at (P := Tryz.prog) s (k := 2) rfl hc Tryz.underlying98 sz3
   refine WP.drawn [none, none, none, none, none, none, none, none, none, none, none, none, none, none, none] rfl (by kernel_rfl) (by kernel_rfl) ?_
   refine zM rfl (zN rfl (zF rfl (fa111_1 _ _) (zL rfl (by exact s.ld (k := 0) rfl ag35 rfl) ?_)))
   refine zM rfl (zN rfl (zF rfl (fa111_3 _ _) (zL rfl (by exact s.ld (k := 0) rfl ag98 rfl) ?_)))
   refine zM rfl (zO rfl (o_ia (r := .ptr id off) rfl rfl e1) (zL rfl (e2 _ ag3) (WPt.op rfl rfl rfl (by simp only [isEff, Tryz.underlying35]) (o_conv rfl (by exact cvI Tryz.underlying3 Tryz.underlying35 (wrapU (by omega) (by omega)))) ?_)))
   refine zO rfl (o_bin rfl rfl (by exact bAdd (wrapU (by omega) (by omega)))) ?_
   refine zM rfl ?_
   by_cases hc2 : μ.base + st < n
   ·skip
    refine WPt.opT rfl rfl rfl rfl (o_bin rfl rfl bLss) (by simp; omega) ?_
    refine WPt.nil ⟨⟨trivial, trivial, trivial, trivial, trivial, trivial, trivial, trivial, trivial, trivial, trivial, trivial, trivial, trivial, trivial, trivial⟩, ?_⟩
    refine zi rfl (zr rfl (zm rfl (zb rfl (by exact bAdd (wrapS (by omega) (by omega))) ?_)))
    refine za rfl (zv ?_)
    refine ih (m + 1) hi _ Q (by omega) (by omega) h2 (fun j s hj hs => ?_) h4 ⟨rfl, rfl, rfl, rfl, trivial⟩ hq
    by_cases hjm : j = m
    ·subst hjm; rw [hst] at hs; injection hs with hs; omega
    ·have := rise_lt hμ.rise (show j < m by omega) hs hst; omega
   ·skip
    refine WPt.opF rfl rfl rfl rfl (o_bin rfl rfl bLss) (by simp; omega) ?_
    refine WPt.nil ⟨⟨trivial, trivial, trivial, trivial, trivial, trivial, trivial, trivial, trivial, trivial, trivial, trivial, trivial, trivial, trivial, trivial⟩, ?_⟩
    refine zj rfl (zr rfl (zm rfl (za rfl (zv ?_))))
    refine ih lo m _ Q (by omega) hm1 (by omega) h3 (fun j s hj hs => ?_) ⟨rfl, rfl, rfl, rfl, trivial⟩ hq
    by_cases hjm : j = m
    ·subst hjm; rw [hst] at hs; injection hs with hs; omega
    ·have := rise_lt hμ.rise (show m < j by omega) hst hs; omega
  ·skip
   refine WP.loop (WP.has hE (zw (zg rfl (zm rfl (zm rfl (WPs.opF rfl rfl rfl (o_bin rfl rfl bLss) (by simp; omega) ?_))))))
   refine zv (zj rfl (WP.exit ?_))
   have e : lo = hi := by omega
   exact hq _ lo ⟨by omega, h3, by rw [e]; exact h4⟩ rfl
theorem find_ct (hT : W told) {n : Nat} (s : Sat h (isLg q p μ :: S)) (hμ : μ.Ok) (hn : n < 18446744073709551616) : Call ⟨Tryz.prog, told⟩ 99 [.ptr q 0, .int .u64 (n : Int)] h fun v h' => h' = h ∧ ∃ i, Split μ n i ∧ v = .int .i64 (i : Int) := by
 obtain ⟨bv, sv, s⟩ := isLg_iff.1 s
 refine Call.of_wp (hT.free _ rfl) Tryz.func99 rfl rfl (zg rfl (za rfl (zv (zw (WP.drawn [none, none, none, none, none, none, none] rfl (by kernel_rfl) (by kernel_rfl) ?_)))))
 refine zM rfl (zN rfl (zF rfl (fa111_3 _ _) (zL rfl (by exact s.ld (k := 0) rfl ag98 rfl) ?_)))
 refine zO rfl (o_len rfl rfl rfl (s.arrLen (n := μ.starts.length) (j := 2) rfl (by rw [intsL_len, Nat.mul_one]) (by decide) Tryz.underlying98)) ?_
 refine zA rfl (zA rfl ?_)
 refine WPt.nil ⟨⟨trivial, trivial, trivial, trivial, trivial, trivial, trivial, trivial⟩, ?_⟩
 refine zw (WP.block ?_)
 refine find_loop hn hμ s μ.starts.length 0 μ.starts.length _ _ (by omega) (by omega) (by omega) (fun j s hj _ => by omega) (fun j s hj hs => ?_) ⟨rfl, rfl, rfl, rfl, trivial⟩ (fun E' i hi hE' => ?_)
 ·rw [List.getElem?_eq_none (by omega)] at hs; cases hs
 ·skip
  refine WP.has (F := [(5, .int .i64 (i : Int))]) ⟨hE', trivial⟩ (zg rfl (zm rfl (za rfl (zv ?_))))
  refine WP.ret ⟨trivial, _, rfl, ?_⟩
  exact ⟨rfl, i, hi, rfl⟩
def Lg.hasB (μ : Lg) (n : Nat) : Bool := μ.starts.any fun s => decide (μ.base + s = n)
theorem Split.has {n i : Nat} (hs : Split μ n i) (hr : μ.starts.Pairwise (· < ·)) : μ.hasB n = true ↔ ∃ s, μ.starts[i]? = some s ∧ μ.base + s = n := by
 rw [Lg.hasB, List.any_eq_true]
 constructor
 ·rintro ⟨s, h1, h2⟩
  have h2 : μ.base + s = n := by simpa using h2
  obtain ⟨j, hj⟩ := List.getElem?_of_mem h1
  have hij : i ≤ j := by
   rcases Nat.lt_or_ge j i with h | h
   ·have := hs.2.1 j s h hj; omega
   ·exact h
  by_cases he : i = j
  ·subst he; exact ⟨s, hj, h2⟩
  ·have hjl := (List.getElem?_eq_some_iff.1 hj).1
   have hi : μ.starts[i]? = some (μ.starts[i]'(by omega)) := List.getElem?_eq_getElem _
   have h3 := hs.2.2 i _ (Nat.le_refl _) hi
   have h4 := rise_lt hr (show i < j by omega) hi hj
   omega
 ·rintro ⟨s, h1, h2⟩
  exact ⟨s, List.mem_of_getElem? h1, by simpa using h2⟩
theorem starts_at {i st : Nat} (hst : μ.starts[i]? = some st) : (intsL μ.starts)[i]? = some (.int .i64 (st : Int)) := by simp [intsL, hst]
theorem lHas_ct (hT : W told) {n : Nat} (s : Sat h (isLg q p μ :: S)) (hμ : μ.Ok) (hn : n < 18446744073709551616) : Call ⟨Tryz.prog, told⟩ 56 [.ptr q 0, .int .u64 (n : Int)] h fun v h' => h' = h ∧ v = .bool (μ.hasB n) := by
 have s0 := s
 obtain ⟨bv, sv, s⟩ := isLg_iff.1 s
 have hmany := hμ.many
 have hsize := hμ.size
 refine Call.of_wp (hT.free _ rfl) Tryz.func56 rfl rfl (zg rfl (za rfl (zv (zg rfl (zm rfl (zm rfl (WPs.call rfl rfl rfl rfl rfl rfl rfl (find_ct hT s0 hμ hn) ?_)))))))
 rintro v h' ⟨rfl, i, hi, rfl⟩
 have hh := hi.has hμ.rise
 refine za rfl (zv (zw (WP.drawn [none, none, none, none, none, none, none, none, none, none, none, none, none, none, none, none, none, none, none, none, none, none, none, none, none] rfl (by kernel_rfl) (by kernel_rfl) ?_)))
 refine zM rfl (zM rfl (zN rfl (zF rfl (fa111_3 _ _) (zL rfl (by exact s.ld (k := 0) rfl ag98 rfl) ?_))))
 refine zO rfl (o_len rfl rfl rfl (s.arrLen (n := μ.starts.length) (j := 2) rfl (by rw [intsL_len, Nat.mul_one]) (by decide) Tryz.underlying98)) ?_
 by_cases hil : i < μ.starts.length
 ·skip
  refine WPt.opT rfl rfl rfl rfl (o_bin rfl rfl bLss) (by simp; omega) ?_
  obtain ⟨st, hst⟩ : ∃ st, μ.starts[i]? = some st := ⟨_, List.getElem?_eq_getElem hil⟩
  have hst2 := hμ.low st (List.mem_of_getElem? hst)
  obtain ⟨id, off, e1, e2⟩ := arr1_at (P := Tryz.prog) s (k := 2) rfl (starts_at hst) Tryz.underlying98 sz3
  refine zM rfl (zM rfl (zN rfl (zF rfl (fa111_1 _ _) (zL rfl (by exact s.ld (k := 0) rfl ag35 rfl) ?_))))
  refine zM rfl (zN rfl (zF rfl (fa111_3 _ _) (zL rfl (by exact s.ld (k := 0) rfl ag98 rfl) ?_)))
  refine zM rfl (zO rfl (o_ia (r := .ptr id off) rfl rfl e1) (zL rfl (e2 _ ag3) (WPt.op rfl rfl rfl (by simp only [isEff, Tryz.underlying35]) (o_conv rfl (by exact cvI Tryz.underlying3 Tryz.underlying35 (wrapU (by omega) (by omega)))) ?_)))
  refine zO rfl (o_bin rfl rfl (by exact bAdd (wrapU (by omega) (by omega)))) ?_
  refine zM rfl ?_
  by_cases he : μ.base + st = n
  ·skip
   refine WPt.opT rfl rfl rfl rfl (o_bin rfl rfl bEql) (by simp; omega) ?_
   refine zO rfl (o_pickT rfl rfl) (zA rfl ?_)
   refine WPt.nil ⟨⟨trivial, trivial, trivial, trivial, trivial, trivial, trivial, trivial, trivial, trivial, trivial, trivial, trivial, trivial, trivial, trivial, trivial, trivial, trivial, trivial, trivial, trivial, trivial, trivial, trivial, trivial⟩, ?_⟩
   refine WP.ret ⟨trivial, _, rfl, ?_⟩
   exact ⟨rfl, by rw [hh.2 ⟨st, hst, he⟩]⟩
  ·skip
   refine WPt.opF rfl rfl rfl rfl (o_bin rfl rfl bEql) (by simp; omega) ?_
   refine zO rfl (o_pickT rfl rfl) (zA rfl ?_)
   refine WPt.nil ⟨⟨trivial, trivial, trivial, trivial, trivial, trivial, trivial, trivial, trivial, trivial, trivial, trivial, trivial, trivial, trivial, trivial, trivial, trivial, trivial, trivial, trivial, trivial, trivial, trivial, trivial, trivial⟩, ?_⟩
   refine WP.ret ⟨trivial, _, rfl, ?_⟩
   refine ⟨rfl, ?_⟩
   cases hb : μ.hasB n with
   | false => rfl
   | true =>
    obtain ⟨s', h1, h2⟩ := hh.1 hb
    rw [hst] at h1; have := Option.some.inj h1; omega
 ·skip
  refine WPt.opF rfl rfl rfl rfl (o_bin rfl rfl bLss) (by simp; omega) ?_
  refine zM rfl (WPt.no (e := false) rfl rfl rfl rfl (WPt.no (e := false) rfl rfl rfl rfl (WPt.no (e := false) rfl rfl rfl rfl (WPt.no (e := false) rfl rfl rfl rfl (WPt.no (e := false) rfl rfl rfl rfl (WPt.no (e := false) rfl rfl rfl rfl (WPt.no (e := false) rfl rfl rfl rfl (WPt.no (e := false) rfl rfl rfl rfl (WPt.no (e := false) rfl rfl rfl rfl (WPt.no (e := false) rfl rfl rfl rfl (WPt.no (e := false) rfl rfl rfl rfl (WPt.no (e := false) rfl rfl rfl (by simp only [isEff, Tryz.underlying35]) ?_))))))))))))
  refine WPt.no (e := false) rfl rfl rfl rfl (WPt.no (e := false) rfl rfl rfl rfl (WPt.no (e := false) rfl rfl rfl rfl (zO rfl (o_pickF rfl rfl) (zA rfl ?_))))
  refine WPt.nil ⟨⟨trivial, trivial, trivial, trivial, trivial, trivial, trivial, trivial, trivial, trivial, trivial, trivial, trivial, trivial, trivial, trivial, trivial, trivial, trivial, trivial, trivial, trivial, trivial, trivial, trivial, trivial⟩, ?_⟩
  refine WP.ret ⟨trivial, _, rfl, ?_⟩
  refine ⟨rfl, ?_⟩
  cases hb : μ.hasB n with
  | false => rfl
  | true =>
   obtain ⟨s', h1, h2⟩ := hh.1 hb
   have := (List.getElem?_eq_some_iff.1 h1).1
   omega
theorem lBelow_ct (hT : W told) {n : Nat} (s : Sat h (isLg q p μ :: S)) (hμ : μ.Ok) (hn : n < 18446744073709551616) : Call ⟨Tryz.prog, told⟩ 70 [.ptr q 0, .int .u64 (n : Int)] h fun v h' => h' = h ∧ ∃ r : Nat, v = .int .u64 (r : Int) ∧
  ((r = μ.base + μ.b.length ∧ μ.base + μ.b.length ≤ n) ∨ (μ.hasB r = true ∧ r ≤ n) ∨ r = μ.base) := by
 have s0 := s
 obtain ⟨bv, sv, s⟩ := isLg_iff.1 s
 have hmany := hμ.many
 have hsize := hμ.size
 refine Call.of_wp (hT.free _ rfl) Tryz.func70 rfl rfl (zg rfl (za rfl (zv (zg rfl (zm rfl (zm rfl (WPs.call rfl rfl rfl rfl rfl rfl rfl (find_ct hT s0 hμ hn) ?_)))))))
 rintro v h' ⟨rfl, i, hi, rfl⟩
 have hh := hi.has hμ.rise
 refine za rfl (zv (zw (WP.block (zg rfl (zm rfl (zm rfl (WPs.call rfl rfl rfl rfl rfl rfl rfl (lEnd_ct hT s0 hμ.size) ?_)))))))
 rintro v h' ⟨rfl, rfl⟩
 by_cases hend : μ.base + μ.b.length ≤ n
 ·skip
  refine WPs.opT rfl rfl rfl (o_bin rfl rfl bGeq) (by simp; omega) ?_
  refine za rfl (zv (zi rfl (zg rfl (zm rfl (WPs.call rfl rfl rfl rfl rfl rfl rfl (lEnd_ct hT s0 hμ.size) ?_)))))
  rintro v h' ⟨rfl, rfl⟩
  refine za rfl (zv ?_)
  refine WP.ret ⟨trivial, _, rfl, ?_⟩
  exact ⟨rfl, μ.base + μ.b.length, rfl, .inl ⟨rfl, hend⟩⟩
 ·skip
  refine WPs.opF rfl rfl rfl (o_bin rfl rfl bGeq) (by simp; omega) ?_
  refine za rfl (zv (zj rfl (zw (WP.drawn [none, none, none, none, none, none, none, none, none, none, none, none, none, none, none, none, none, none, none, none, none, none, none, none, none] rfl (by kernel_rfl) (by kernel_rfl) ?_))))
  refine zM rfl (zM rfl (zN rfl (zF rfl (fa111_3 _ _) (zL rfl (by exact s.ld (k := 0) rfl ag98 rfl) ?_))))
  refine zO rfl (o_len rfl rfl rfl (s.arrLen (n := μ.starts.length) (j := 2) rfl (by rw [intsL_len, Nat.mul_one]) (by decide) Tryz.underlying98)) ?_
  by_cases hil : i < μ.starts.length
  ·skip
   refine WPt.opT rfl rfl rfl rfl (o_bin rfl rfl bLss) (by simp; omega) ?_
   obtain ⟨st, hst⟩ : ∃ st, μ.starts[i]? = some st := ⟨_, List.getElem?_eq_getElem hil⟩
   have hst2 := hμ.low st (List.mem_of_getElem? hst)
   obtain ⟨id, off, e1, e2⟩ := arr1_at (P := Tryz.prog) s (k := 2) rfl (starts_at hst) Tryz.underlying98 sz3
   refine zM rfl (zM rfl (zN rfl (zF rfl (fa111_1 _ _) (zL rfl (by exact s.ld (k := 0) rfl ag35 rfl) ?_))))
   refine zM rfl (zN rfl (zF rfl (fa111_3 _ _) (zL rfl (by exact s.ld (k := 0) rfl ag98 rfl) ?_)))
   refine zM rfl (zO rfl (o_ia (r := .ptr id off) rfl rfl e1) (zL rfl (e2 _ ag3) (WPt.op rfl rfl rfl (by simp only [isEff, Tryz.underlying35]) (o_conv rfl (by exact cvI Tryz.underlying3 Tryz.underlying35 (wrapU (by omega) (by omega)))) ?_)))
   refine zO rfl (o_bin rfl rfl (by exact bAdd (wrapU (by omega) (by omega)))) ?_
   refine zM rfl ?_
   by_cases he : μ.base + st = n
   ·skip
    refine WPt.opT rfl rfl rfl rfl (o_bin rfl rfl bEql) (by simp; omega) ?_
    refine zO rfl (o_pickT rfl rfl) (zA rfl ?_)
    refine WPt.nil ⟨⟨trivial, trivial, trivial, trivial, trivial, trivial, trivial, trivial, trivial, trivial, trivial, trivial, trivial, trivial, trivial, trivial, trivial, trivial, trivial, trivial, trivial, trivial, trivial, trivial, trivial, trivial⟩, ?_⟩
    refine zi rfl (zg rfl (zm rfl (za rfl (zv ?_))))
    refine WP.ret ⟨trivial, _, rfl, ?_⟩
    exact ⟨rfl, n, rfl, .inr (.inl ⟨hh.2 ⟨st, hst, he⟩, Nat.le_refl _⟩)⟩
   ·skip
    refine WPt.opF rfl rfl rfl rfl (o_bin rfl rfl bEql) (by simp; omega) ?_
    refine zO rfl (o_pickT rfl rfl) (zA rfl ?_)
    refine WPt.nil ⟨⟨trivial, trivial, trivial, trivial, trivial, trivial, trivial, trivial, trivial, trivial, trivial, trivial, trivial, trivial, trivial, trivial, trivial, trivial, trivial, trivial, trivial, trivial, trivial, trivial, trivial, trivial⟩, ?_⟩
    refine zj rfl (zg rfl (zm rfl ?_))
    by_cases hi0 : i = 0
    ·skip
     refine WPs.opT rfl rfl rfl (o_bin rfl rfl bEql) (by simp; omega) ?_
     refine za rfl (zv (zi rfl (zg rfl (zm rfl (zn rfl (zf rfl (fa111_1 _ _) (zl rfl (by exact s.ld (k := 0) rfl ag35 rfl) ?_)))))))
     refine za rfl (zv ?_)
     refine WP.ret ⟨trivial, _, rfl, ?_⟩
     exact ⟨rfl, μ.base, rfl, .inr (.inr rfl)⟩
    ·skip
     refine WPs.opF rfl rfl rfl (o_bin rfl rfl bEql) (by simp; omega) ?_
     refine za rfl (zv (zj rfl (WP.skip (zw ?_))))
     obtain ⟨s2, hs2⟩ : ∃ st, μ.starts[i - 1]? = some st := ⟨_, List.getElem?_eq_getElem (by omega)⟩
     have hs3 := hμ.low s2 (List.mem_of_getElem? hs2)
     obtain ⟨id, off, e1, e2⟩ := arr1_at (P := Tryz.prog) s (k := 2) rfl (starts_at hs2) Tryz.underlying98 sz3
     rw [show ((i - 1 : Nat) : Int) = (i : Int) - 1 by omega] at e1
     refine WP.drawn [none, none, none, none, none, none, none, none, none, none, none, none, none, none, none] rfl (by kernel_rfl) (by kernel_rfl) ?_
     refine zM rfl (zN rfl (zF rfl (fa111_1 _ _) (zL rfl (by exact s.ld (k := 0) rfl ag35 rfl) ?_)))
     refine zM rfl (zN rfl (zF rfl (fa111_3 _ _) (zL rfl (by exact s.ld (k := 0) rfl ag98 rfl) ?_)))
     refine zM rfl (zO rfl (o_bin rfl rfl (by exact bSub (wrapS (by omega) (by omega)))) ?_)
     refine zO rfl (o_ia (r := .ptr id off) rfl rfl e1) (zL rfl (e2 _ ag3) (WPt.op rfl rfl rfl (by simp only [isEff, Tryz.underlying35]) (o_conv rfl (by exact cvI Tryz.underlying3 Tryz.underlying35 (wrapU (by omega) (by omega)))) ?_))
     refine zO rfl (o_bin rfl rfl (by exact bAdd (wrapU (by omega) (by omega)))) ?_
     refine zA rfl ?_
     refine WPt.nil ⟨⟨trivial, trivial, trivial, trivial, trivial, trivial, trivial, trivial, trivial, trivial, trivial, trivial, trivial, trivial, trivial, trivial⟩, ?_⟩
     refine WP.ret ⟨trivial, _, rfl, ?_⟩
     have hlt := hi.2.1 (i - 1) s2 (by omega) hs2
     refine ⟨rfl, μ.base + s2, rfl, .inr (.inl ⟨?_, by omega⟩)⟩
     rw [Lg.hasB, List.any_eq_true]
     exact ⟨s2, List.mem_of_getElem? hs2, by simp⟩
  ·skip
   refine WPt.opF rfl rfl rfl rfl (o_bin rfl rfl bLss) (by simp; omega) ?_
   refine zM rfl (WPt.no (e := false) rfl rfl rfl rfl (WPt.no (e := false) rfl rfl rfl rfl (WPt.no (e := false) rfl rfl rfl rfl (WPt.no (e := false) rfl rfl rfl rfl (WPt.no (e := false) rfl rfl rfl rfl (WPt.no (e := false) rfl rfl rfl rfl (WPt.no (e := false) rfl rfl rfl rfl (WPt.no (e := false) rfl rfl rfl rfl (WPt.no (e := false) rfl rfl rfl rfl (WPt.no (e := false) rfl rfl rfl rfl (WPt.no (e := false) rfl rfl rfl rfl (WPt.no (e := false) rfl rfl rfl (by simp only [isEff, Tryz.underlying35]) ?_))))))))))))
   refine WPt.no (e := false) rfl rfl rfl rfl (WPt.no (e := false) rfl rfl rfl rfl (WPt.no (e := false) rfl rfl rfl rfl (zO rfl (o_pickF rfl rfl) (zA rfl ?_))))
   refine WPt.nil ⟨⟨trivial, trivial, trivial, trivial, trivial, trivial, trivial, trivial, trivial, trivial, trivial, trivial, trivial, trivial, trivial, trivial, trivial, trivial, trivial, trivial, trivial, trivial, trivial, trivial, trivial, trivial⟩, ?_⟩
   refine zj rfl (zg rfl (zm rfl ?_))
   by_cases hi0 : i = 0
   ·skip
    refine WPs.opT rfl rfl rfl (o_bin rfl rfl bEql) (by simp; omega) ?_
    refine za rfl (zv (zi rfl (zg rfl (zm rfl (zn rfl (zf rfl (fa111_1 _ _) (zl rfl (by exact s.ld (k := 0) rfl ag35 rfl) ?_)))))))
    refine za rfl (zv ?_)
    refine WP.ret ⟨trivial, _, rfl, ?_⟩
    exact ⟨rfl, μ.base, rfl, .inr (.inr rfl)⟩
   ·skip
    refine WPs.opF rfl rfl rfl (o_bin rfl rfl bEql) (by simp; omega) ?_
    refine za rfl (zv (zj rfl (WP.skip (zw ?_))))
    have hi1 := hi.1
    obtain ⟨s2, hs2⟩ : ∃ st, μ.starts[i - 1]? = some st := ⟨_, List.getElem?_eq_getElem (by omega)⟩
    have hs3 := hμ.low s2 (List.mem_of_getElem? hs2)
    obtain ⟨id, off, e1, e2⟩ := arr1_at (P := Tryz.prog) s (k := 2) rfl (starts_at hs2) Tryz.underlying98 sz3
    rw [show ((i - 1 : Nat) : Int) = (i : Int) - 1 by omega] at e1
    refine WP.drawn [none, none, none, none, none, none, none, none, none, none, none, none, none, none, none] rfl (by kernel_rfl) (by kernel_rfl) ?_
    refine zM rfl (zN rfl (zF rfl (fa111_1 _ _) (zL rfl (by exact s.ld (k := 0) rfl ag35 rfl) ?_)))
    refine zM rfl (zN rfl (zF rfl (fa111_3 _ _) (zL rfl (by exact s.ld (k := 0) rfl ag98 rfl) ?_)))
    refine zM rfl (zO rfl (o_bin rfl rfl (by exact bSub (wrapS (by omega) (by omega)))) ?_)
    refine zO rfl (o_ia (r := .ptr id off) rfl rfl e1) (zL rfl (e2 _ ag3) (WPt.op rfl rfl rfl (by simp only [isEff, Tryz.underlying35]) (o_conv rfl (by exact cvI Tryz.underlying3 Tryz.underlying35 (wrapU (by omega) (by omega)))) ?_))
    refine zO rfl (o_bin rfl rfl (by exact bAdd (wrapU (by omega) (by omega)))) ?_
    refine zA rfl ?_
    refine WPt.nil ⟨⟨trivial, trivial, trivial, trivial, trivial, trivial, trivial, trivial, trivial, trivial, trivial, trivial, trivial, trivial, trivial, trivial⟩, ?_⟩
    refine WP.ret ⟨trivial, _, rfl, ?_⟩
    have hlt := hi.2.1 (i - 1) s2 (by omega) hs2
    refine ⟨rfl, μ.base + s2, rfl, .inr (.inl ⟨?_, by omega⟩)⟩
    rw [Lg.hasB, List.any_eq_true]
    exact ⟨s2, List.mem_of_getElem? hs2, by simp⟩
def markB (base check : Nat) : List Nat := le 8 base ++ le 8 check
theorem markB_len (a b : Nat) : (markB a b).length = 16 := by simp [markB, le_len]
theorem lMarked_ct (hT : W told) {a b : Nat} (s : Sat h S) : Call ⟨Tryz.prog, told⟩ 111 [.ptr q 0, .int .u64 (a : Int), .int .u64 (b : Int)] h fun v h' => Sat h' (bufA v (markB a b) :: S) := by
 refine Call.of_wp (hT.free _ rfl) Tryz.func111 rfl rfl (zg rfl (za rfl (zv (zg rfl (zm rfl (WPs.call rfl rfl rfl rfl rfl rfl rfl (lay_ct hT s.nilBuf (by decide) (by simp)) ?_))))))
 intro v h s
 refine zm rfl (WPs.call rfl rfl rfl rfl rfl rfl rfl (lay_ct hT s (by decide) (by simp [le_len])) ?_)
 intro v h s
 refine za rfl (zv ?_)
 refine WP.ret ⟨trivial, _, rfl, ?_⟩
 exact s
theorem lForce_ct (hT : W told) {n : Nat} {δ : Dk} (s : Sat h (isLg q p μ :: isDk p δ :: S)) (hμ : μ.Ok) (hf : δ.fuse < 4294967296) : Call ⟨Tryz.prog, told⟩ 68 [.ptr q 0, .int .u64 (n : Int)] h fun v h' =>
  (n < μ.base + μ.forced ∧ v = .int .i64 0 ∧ Sat h' (isLg q p μ :: isDk p δ :: S)) ∨
  (μ.base + μ.forced ≤ n ∧ δ.dead = true ∧ v = .int .i64 9 ∧ Sat h' (isLg q p μ :: isDk p δ :: S)) ∨
  (μ.base + μ.forced ≤ n ∧ δ.dead = false ∧ δ.fuse = 0 ∧ v = .int .i64 9 ∧ Sat h' (isLg q p μ :: isDk p δ.die :: S)) ∨
  (μ.base + μ.forced ≤ n ∧ δ.dead = false ∧ δ.fuse ≠ 0 ∧ v = .int .i64 0 ∧ Sat h' (isLg q p { μ with forced := μ.b.length } :: isDk p { δ.cnt with certain := δ.log.length } :: S)) := by
 have hsize := hμ.size
 have hfo := hμ.forced
 have s0 := s
 obtain ⟨bv, sv, s⟩ := isLg_iff.1 s
 refine Call.of_wp (hT.free _ rfl) Tryz.func68 rfl rfl (zg rfl (za rfl (zv (zw (zg rfl (zm rfl (zm rfl (WPs.call rfl rfl rfl rfl rfl rfl rfl (lForced_ct hT s0 hμ.size hμ.forced) ?_))))))))
 rintro v h' ⟨rfl, rfl⟩
 by_cases hlt : n < μ.base + μ.forced
 ·skip
  refine WPs.opT rfl rfl rfl (o_bin rfl rfl bLss) (by simp; omega) ?_
  refine zv (zi rfl (zg rfl (za rfl (zv ?_))))
  refine WP.ret ⟨trivial, _, rfl, ?_⟩
  exact .inl ⟨hlt, rfl, s0⟩
 ·have hle : μ.base + μ.forced ≤ n := by omega
  refine WPs.opF rfl rfl rfl (o_bin rfl rfl bLss) (by simp; omega) ?_
  refine zv (zj rfl (WP.skip (zw (zg rfl (zm rfl (zn rfl (zf rfl (fa111_0 _ _) (zl rfl (by exact s.ld (k := 0) rfl ag23 rfl) ?_))))))))
  refine WPs.call rfl rfl rfl rfl rfl rfl rfl (dForce_ct hT (s0.bringS [1]) hf) ?_
  rintro v h (⟨hd, rfl, s⟩ | ⟨hd, h0, rfl, s⟩ | ⟨hd, h0, rfl, s⟩)
  ·refine WPs.op rfl rfl rfl (o_assign rfl) ?_
   refine zv (zg rfl (zm rfl (WPs.opT rfl rfl rfl (o_bin rfl rfl bNeq) (rfl) (zv (zi rfl (zg rfl (zm rfl (za rfl (zv ?_)))))))))
   refine WP.ret ⟨trivial, _, rfl, ?_⟩
   exact .inr (.inl ⟨hle, hd, rfl, s.bringS [1]⟩)
  ·skip
   refine za rfl (zv (zg rfl (zm rfl (WPs.opT rfl rfl rfl (o_bin rfl rfl bNeq) (rfl) (zv (zi rfl (zg rfl (zm rfl (za rfl (zv ?_))))))))))
   refine WP.ret ⟨trivial, _, rfl, ?_⟩
   exact .inr (.inr (.inl ⟨hle, hd, h0, rfl, s.bringS [1]⟩))
  ·skip
   obtain ⟨bv, sv, s⟩ := isLg_iff.1 (s.bringS [1])
   dsimp only [lgC, delA, bringA] at s
   refine za rfl (zv (zg rfl (zm rfl (WPs.opF rfl rfl rfl (o_bin rfl rfl bNeq) (rfl) (zv (zj rfl (WP.skip (zg rfl (zm rfl (zm rfl (zn rfl (zf rfl (fa111_2 _ _) (zl rfl (by exact s.ld (k := 0) rfl ag32 rfl) ?_)))))))))))))
   refine zo rfl (o_len rfl rfl rfl (by exact len_view Tryz.underlying32 (s.viewX (k := 1) rfl (rd_buf _ _)))) ?_
   refine zn rfl (zf rfl (fa111_4 _ _) ?_)
   refine WPs.stS rfl rfl rfl rfl rfl (by exact s.st1 (k := 0) rfl sz3 rfl (by decide) rfl rfl) (fun h s => ?_)
   dsimp only [Nat.reduceAdd, List.set, setA] at s
   refine zv (zg rfl (za rfl (zv ?_)))
   refine WP.ret ⟨trivial, _, rfl, ?_⟩
   exact .inr (.inr (.inr ⟨hle, hd, h0, rfl, isLg_iff.2 ⟨bv, sv, s⟩⟩))
theorem lCheck_ct (hT : W told) {n : Nat} {δ : Dk} (s : Sat h (isLg q p μ :: isDk p δ :: S)) (hμ : μ.Ok) (hf : δ.fuse < 4294967296) (hn : n < 18446744073709551616) : Call ⟨Tryz.prog, told⟩ 69 [.ptr q 0, .int .u64 (n : Int)] h fun v h' =>
  (¬(μ.hasB n = true ∧ n < μ.base + μ.forced) ∧ v = .int .i64 1 ∧ Sat h' (isLg q p μ :: isDk p δ :: S)) ∨
  (μ.hasB n = true ∧ n < μ.base + μ.forced ∧ δ.dead = true ∧ v = .int .i64 9 ∧ Sat h' (isLg q p μ :: isDk p δ :: S)) ∨
  (μ.hasB n = true ∧ n < μ.base + μ.forced ∧ δ.dead = false ∧ δ.fuse = 0 ∧ v = .int .i64 9 ∧ Sat h' (isLg q p μ :: isDk p δ.die :: S)) ∨
  (μ.hasB n = true ∧ n < μ.base + μ.forced ∧ δ.dead = false ∧ δ.fuse ≠ 0 ∧ v = .int .i64 0 ∧ Sat h' (isLg q p { μ with check := n } :: isDk p { δ.cnt with mark := markB μ.base n } :: S)) := by
 have hsize := hμ.size
 have hfo := hμ.forced
 have s0 := s
 refine Call.of_wp (hT.free _ rfl) Tryz.func69 rfl rfl (zg rfl (za rfl (zv (zw (zg rfl (zm rfl (zm rfl (WPs.call rfl rfl rfl rfl rfl rfl rfl (lHas_ct hT s0 hμ hn) ?_))))))))
 rintro v h' ⟨rfl, rfl⟩
 cases hh : μ.hasB n with
 | false =>
  refine zo rfl (o_un rfl rfl) (zm rfl (zx rfl (zx rfl (zx rfl (zx rfl (zq rfl (zv (zi rfl (zg rfl (za rfl (zv ?_)))))))))))
  refine WP.ret ⟨trivial, _, rfl, ?_⟩
  exact .inl ⟨fun e => by simp at e, rfl, s0⟩
 | true =>
  refine zo rfl (o_un rfl rfl) (zm rfl (zm rfl (zm rfl (WPs.call rfl rfl rfl rfl rfl rfl rfl (lForced_ct hT s0 hμ.size hμ.forced) ?_))))
  rintro v h' ⟨rfl, rfl⟩
  by_cases hlt : n < μ.base + μ.forced
  ·skip
   refine WPs.opF rfl rfl rfl (o_bin rfl rfl bGeq) (by simp; omega) ?_
   refine zp rfl (zv (zj rfl (WP.skip (zw (zw ?_)))))
   obtain ⟨bv, sv, s⟩ := isLg_iff.1 s
   have s1 := s
   refine WP.drawn [some (0, 2), some (0, 2), some (0, 2), some (0, 2), none, none, none, none, none, none, none, none, none] rfl (by kernel_rfl) (by kernel_rfl) ?_
   refine zM rfl (zN rfl (zF rfl (fa111_0 _ _) (zL rfl (by exact s.ld (k := 0) rfl ag23 rfl) ?_)))
   refine zM rfl (zM rfl (zN rfl (zF rfl (fa111_1 _ _) (zL rfl (by exact s.ld (k := 0) rfl ag35 rfl) ?_))))
   refine zM rfl (WPt.any rfl rfl rfl rfl (OpR.call rfl rfl rfl rfl (lMarked_ct (q := q) (a := μ.base) (b := n) hT s)) ?_)
   intro mv h s
   have s := s.bringS [1, 1, 1, 1, 0]
   dsimp only [lgC, bringA, getA, delA] at s
   have s2 := s
   refine WPt.any rfl rfl rfl rfl (OpR.call rfl rfl rfl rfl (dMark_ct hT (s.bringS [3, 3]) (rd_buf _ _) hf)) ?_
   rintro v h hr
   rw [markB_len] at hr
   rcases hr with (⟨hd, rfl, s⟩ | ⟨_, hl, _, _⟩ | ⟨hd, _, h0, rfl, s⟩ | ⟨hd, _, h0, rfl, s⟩)
   ·have s := (s.del 1).bringS [1, 1, 1, 0]
    dsimp only [delA, bringA, getA] at s
    refine zA rfl ?_
    refine WPt.nil ⟨⟨fun _ _ => .inr ⟨rfl, ⟨_, o_move rfl⟩, beqV _ rfl⟩, fun _ _ => .inr ⟨rfl, ⟨_, o_nil rfl⟩, beqV _ rfl⟩, fun _ _ => .inr ⟨rfl, ⟨_, o_fa rfl (fa111_0 _ _)⟩, beqV _ rfl⟩, heaps2 (.inr ⟨rfl, ⟨_, o_load rfl (by exact s1.ld (k := 0) rfl ag23 rfl)⟩, beqV _ rfl⟩) (.inr ⟨rfl, ⟨_, o_load rfl (by exact s2.ld (k := 0) rfl ag23 rfl)⟩, beqV _ rfl⟩), trivial, trivial, trivial, trivial, trivial, trivial, trivial, trivial, trivial, trivial⟩, ?_⟩
    refine zg rfl (zm rfl (WPs.opT rfl rfl rfl (o_bin rfl rfl bNeq) (rfl) (zv (zi rfl (zg rfl (zm rfl (za rfl (zv ?_))))))))
    refine WP.ret ⟨trivial, _, rfl, ?_⟩
    exact .inr (.inl ⟨rfl, hlt, hd, rfl, isLg_iff.2 ⟨bv, sv, s⟩⟩)
   ·omega
   ·have s := (s.del 1).bringS [1, 1, 1, 0]
    dsimp only [delA, bringA, getA] at s
    refine zA rfl ?_
    refine WPt.nil ⟨⟨fun _ _ => .inr ⟨rfl, ⟨_, o_move rfl⟩, beqV _ rfl⟩, fun _ _ => .inr ⟨rfl, ⟨_, o_nil rfl⟩, beqV _ rfl⟩, fun _ _ => .inr ⟨rfl, ⟨_, o_fa rfl (fa111_0 _ _)⟩, beqV _ rfl⟩, heaps2 (.inr ⟨rfl, ⟨_, o_load rfl (by exact s1.ld (k := 0) rfl ag23 rfl)⟩, beqV _ rfl⟩) (.inr ⟨rfl, ⟨_, o_load rfl (by exact s2.ld (k := 0) rfl ag23 rfl)⟩, beqV _ rfl⟩), trivial, trivial, trivial, trivial, trivial, trivial, trivial, trivial, trivial, trivial⟩, ?_⟩
    refine zg rfl (zm rfl (WPs.opT rfl rfl rfl (o_bin rfl rfl bNeq) (rfl) (zv (zi rfl (zg rfl (zm rfl (za rfl (zv ?_))))))))
    refine WP.ret ⟨trivial, _, rfl, ?_⟩
    exact .inr (.inr (.inl ⟨rfl, hlt, hd, h0, rfl, isLg_iff.2 ⟨bv, sv, s⟩⟩))
   ·have s := (s.del 1).bringS [1, 1, 1, 0]
    dsimp only [delA, bringA, getA] at s
    refine zA rfl ?_
    refine WPt.nil ⟨⟨fun _ _ => .inr ⟨rfl, ⟨_, o_move rfl⟩, beqV _ rfl⟩, fun _ _ => .inr ⟨rfl, ⟨_, o_nil rfl⟩, beqV _ rfl⟩, fun _ _ => .inr ⟨rfl, ⟨_, o_fa rfl (fa111_0 _ _)⟩, beqV _ rfl⟩, heaps2 (.inr ⟨rfl, ⟨_, o_load rfl (by exact s1.ld (k := 0) rfl ag23 rfl)⟩, beqV _ rfl⟩) (.inr ⟨rfl, ⟨_, o_load rfl (by exact s2.ld (k := 0) rfl ag23 rfl)⟩, beqV _ rfl⟩), trivial, trivial, trivial, trivial, trivial, trivial, trivial, trivial, trivial, trivial⟩, ?_⟩
    refine zg rfl (zm rfl (WPs.opF rfl rfl rfl (o_bin rfl rfl bNeq) (rfl) (zv (zj rfl (WP.skip (zg rfl (zm rfl (zm rfl (zn rfl (zf rfl (fa111_5 _ _) ?_))))))))))
    refine WPs.stS rfl rfl rfl rfl rfl (by exact s.st1 (k := 0) rfl sz35 rfl (by decide) rfl rfl) (fun h s => ?_)
    dsimp only [Nat.reduceAdd, List.set, setA] at s
    refine zv (zg rfl (za rfl (zv ?_)))
    refine WP.ret ⟨trivial, _, rfl, ?_⟩
    exact .inr (.inr (.inr ⟨rfl, hlt, hd, h0, rfl, isLg_iff.2 ⟨bv, sv, s⟩⟩))
  ·skip
   refine WPs.opT rfl rfl rfl (o_bin rfl rfl bGeq) (by simp; omega) ?_
   refine zp rfl (zv (zi rfl (zg rfl (za rfl (zv ?_)))))
   refine WP.ret ⟨trivial, _, rfl, ?_⟩
   exact .inl ⟨fun e => hlt e.2, rfl, s0⟩
end
end Go.Proofs.YtconhghphklfjaaGreat.Am
