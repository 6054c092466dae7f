/- Whatever groups are done and dropped, written out and checkpointed between, each page is as the groups that were done made it; the conditions are those of the given statement, for arguments that a machine can hold. Part 46 of 49. -/
import Derived.Test.YtconhghphklfjaaGreatP45
namespace Go.Proofs.YtconhghphklfjaaGreat.Am
open Go
theorem digits_le10 (n : Nat) : (digits 9 n).length ≤ 10 := digits_le 9 n
theorem bodyG_small {kd : Int} {tx pv nx : Nat} {data : List Nat} (hd : data.length ≤ 4104) : (bodyG kd tx pv nx data []).length ≤ 1048576 := by
 have h1 := digits_le10 tx
 have h2 := digits_le10 pv
 have h3 := digits_le10 nx
 have h4 := digits_le10 data.length
 have h5 := digits_le10 ([] : List Chg).length
 simp only [bodyG, List.length_append, List.length_cons, List.length_nil, List.flatMap_nil] at h5 ⊢
 omega
theorem forceLD_forced {N : Nat} {x : LD} {n : Nat} (h : DA N x.2) (hn : n < x.1.base + x.1.b.length) : n < (forceLD x n).2.1.base + (forceLD x n).2.1.forced := by
 unfold forceLD
 split
 ·rename_i h1; exact h1
 ·rw [forceF_a h, if_neg (by simp)]
  exact hn
theorem hasB_app {μ : Lg} {b : List Nat} : (μ.app b).hasB (μ.base + μ.b.length) = true := by
 simp only [Lg.hasB, Lg.app, List.any_append, List.any_cons, List.any_nil, Bool.or_false, Bool.or_eq_true]
 exact .inr (by simp)
theorem hasB_in {μ : Lg} (h : μ.Ok) {n : Nat} (hb : μ.hasB n = true) : n < μ.base + μ.b.length := by
 simp only [Lg.hasB, List.any_eq_true, decide_eq_true_eq] at hb
 obtain ⟨s, hs, rfl⟩ := hb
 have := h.low s hs
 omega
theorem Lg.Ok.cut {μ : Lg} {n : Nat} (h : μ.Ok) (h1 : μ.base ≤ n) (h2 : n ≤ μ.base + μ.b.length) : (μ.cut n).Ok := by
 have hs := h.size
 have hf := h.forced
 have hl := h.len
 have hd : (μ.b.drop (n - μ.base)).length = μ.b.length - (n - μ.base) := List.length_drop
 have hmem : ∀ s, s ∈ cutS μ n → ∃ t ∈ μ.starts, n ≤ μ.base + t ∧ s = t - (n - μ.base) := fun s hs => by
  obtain ⟨t, ht, rfl⟩ := List.mem_map.1 hs
  obtain ⟨h3, h4⟩ := List.mem_filter.1 ht
  exact ⟨t, h3, by simpa using h4, rfl⟩
 refine ⟨?_, ?_, fun s hs => ?_, ?_, ?_, ?_, h.check⟩
 ·show n + (μ.b.drop (n - μ.base)).length ≤ _; omega
 ·show (cutS μ n).length ≤ _
  rw [cutS, List.length_map]
  exact Nat.le_trans (List.length_filter_le _ _) h.many
 ·obtain ⟨t, h3, h4, rfl⟩ := hmem s hs
  have := h.low t h3
  show _ < (μ.b.drop (n - μ.base)).length
  omega
 ·show (cutS μ n).Pairwise (·< ·)
  rw [cutS, List.pairwise_map]
  refine (h.rise.filter _).imp_of_mem fun {a b} ha hb hab => ?_
  have h3 := (List.mem_filter.1 ha).2
  have h3 : n ≤ μ.base + a := by simpa using h3
  omega
 ·show μ.forced - (n - μ.base) ≤ (μ.b.drop (n - μ.base)).length; omega
 ·show (μ.b.drop (n - μ.base)).length ≤ _; omega
theorem EI.log {N B : Nat} {ε : Eng} {x : LD} (h : EI N B ε) (h1 : x.1.Ok) (h2 : x.2.Ok) (hk : DK ε.2.2 x.2) (hl : EL (B * 1048600) x) (hw : x.2.waiting = ε.2.2.waiting) : EI N B (ε.1, x) ∧ ∀ m, pgA (ε.1, x) m = pgA ε m := by
 obtain ⟨l1, l2⟩ := h.ec.log hk
 refine ⟨⟨⟨⟨h.ok.ok.pl, h1, h2⟩, h.ok.pins, h.ok.full⟩, l1, hl, ?_⟩, l2⟩
 have e : Am.pot (ε.1, x) = Am.pot ε := by simp only [Am.pot, hw]
 rw [e]; exact h.pot
theorem EI.check {N B : Nat} {ε : Eng} {n : Nat} (h : EI N B ε) (hn : ε.2.1.hasB n = true ∧ n < ε.2.1.base + ε.2.1.forced) : (checkLD ε.2 n).1 = 0 ∧ (checkLD ε.2 n).2.1 = { ε.2.1 with check := n } ∧ EI N B (ε.1, (checkLD ε.2 n).2) ∧ ∀ m, pgA (ε.1, (checkLD ε.2 n).2) m = pgA ε m := by
 have hm := markF_a (b := markB ε.2.1.base n) h.ec.dk (by rw [markB_len]; decide)
 have e : checkLD ε.2 n = (0, ({ ε.2.1 with check := n }, { ε.2.2 with mark := markB ε.2.1.base n })) := by
  rw [checkLD, if_neg (not_not_intro hn), hm, if_neg (by simp)]
 have hf := h.ok.ok.lg.forced
 have hs := h.ok.ok.lg.size
 obtain ⟨o1, o2⟩ := checkLD_ok (n := n) h.ok.ok.lg h.ok.ok.dk (by omega)
 rw [e] at o1 o2 ⊢
 exact ⟨rfl, rfl, h.log o1 o2 ⟨rfl, rfl, rfl, rfl⟩ ⟨h.el.log, h.el.cert, h.el.size⟩ rfl⟩
theorem EI.cut {N B : Nat} {ε : Eng} {n : Nat} (h : EI N B ε) (hn : ε.2.1.hasB n = true) (hf : n ≤ ε.2.1.base + ε.2.1.forced) (hc : ε.2.1.check = 0 ∨ n ≤ ε.2.1.check) : (cutLD ε.2 n).1 = 0 ∧ EI N B (ε.1, (cutLD ε.2 n).2) ∧ ∀ m, pgA (ε.1, (cutLD ε.2 n).2) m = pgA ε m := by
 have h1 := hasB_le hn
 have h2 := hasB_in h.ok.ok.lg hn
 have hfo := h.ok.ok.lg.forced
 have hcert := h.el.cert
 have hdk := h.ok.ok.dk
 have hlc := hdk.certain
 have hll := hdk.len
 have hsz := h.el.size
 have e1 : ε.2.2.cutF ((n - ε.2.1.base : Nat) : Int) (markB n ε.2.1.check) = (0, { ε.2.2 with log := ε.2.2.log.drop (n - ε.2.1.base), certain := ε.2.2.certain - (n - ε.2.1.base), mark := markB n ε.2.1.check }) := by
  rw [Dk.cutF, if_neg (by rw [h.ec.dk.alive]; decide), if_neg (not_not_intro ⟨by omega, by omega, by rw [markB_len]; decide⟩), if_neg (by have := h.ec.dk.fuse; omega), cnt_id h.ec.dk.fuse, Int.toNat_natCast]
 have e : cutLD ε.2 n = (0, (ε.2.1.cut n, { ε.2.2 with log := ε.2.2.log.drop (n - ε.2.1.base), certain := ε.2.2.certain - (n - ε.2.1.base), mark := markB n ε.2.1.check })) := by
  rw [cutLD, if_neg (by rw [hn]; simp; omega), e1, if_neg (by simp)]
 rw [e]
 have hd : (ε.2.2.log.drop (n - ε.2.1.base)).length = ε.2.2.log.length - (n - ε.2.1.base) := List.length_drop
 have hd2 : (ε.2.1.b.drop (n - ε.2.1.base)).length = ε.2.1.b.length - (n - ε.2.1.base) := List.length_drop
 refine ⟨rfl, h.log (h.ok.ok.lg.cut h1 (by omega)) ⟨hdk.fuse, by show (ε.2.2.log.drop _).length ≤ _; omega, hdk.room, hdk.now, hdk.pages, by show ε.2.2.certain - _ ≤ (ε.2.2.log.drop _).length; omega, hdk.many⟩ ⟨rfl, rfl, rfl, rfl⟩ ⟨?_, ?_, ?_⟩ rfl⟩
 ·show ε.2.1.b.drop _ = ε.2.2.log.drop _; rw [h.el.log]
 ·show ε.2.1.forced - _ ≤ ε.2.2.certain - _; omega
 ·show n + (ε.2.1.b.drop _).length ≤ _; omega
theorem EI.ckpt {N B : Nat} {ε ε' : Eng} {lo : Nat} {data data0 data' : List Nat} {chk chk' : Nat} {e : Int} (h : EI N B ε) (hB : B ≤ 1000) (hr : CkR ε lo data data0 chk e ε' data' chk') :
  EI N (B + 1) ε' ∧ (∀ m, pgA ε' m = pgA ε m) ∧ ((e = 2 ∧ 4096 < data.length ∧ data' = data0) ∨ (e = 7 ∧ data' = data0) ∨ (e = 0 ∧ data' = data)) := by
 cases hr with
 | big hb => exact ⟨h.more (by omega), fun _ => rfl, .inl ⟨rfl, hb, rfl⟩⟩
 | dead _ hd => rw [h.ec.dk.alive] at hd; cases hd
 | go e y data' chk' hb hd hc =>
  have hw := le_len 8 (ckLow ε)
  obtain ⟨a1, a2, a3⟩ := h.app (kd := 8) (tx := 0) (pv := 0) (nx := 0) (data := le 8 (ckLow ε) ++ data) (c := []) hB (by decide)
  have ey : appendLD ε.2 8 0 0 0 (le 8 (ckLow ε) ++ data) [] = ck1 ε data := rfl
  rw [ey] at a1 a2 a3
  have a3 : ((ck1 ε data).1.2 = 0 ∧ ck1 ε data = ((ε.2.1.base + ε.2.1.b.length, 0), (ε.2.1.app (nextRec ε.2.1 8 0 0 0 (le 8 (ckLow ε) ++ data) []), { ε.2.2 with log := ε.2.2.log ++ nextRec ε.2.1 8 0 0 0 (le 8 (ckLow ε) ++ data) [] }))) ∨ (ck1 ε data).1.2 = 7 := by
   rcases a3 with a3 | a3 | ⟨_, a3⟩
   ·exact .inl a3
   ·exact .inr a3
   ·have := bodyG_small (kd := 8) (tx := 0) (pv := 0) (nx := 0) (data := le 8 (ckLow ε) ++ data) (by rw [List.length_append]; omega)
    omega
  have hlow : ckLow ε ≤ ε.2.1.base + ε.2.1.b.length := lowF_le _ _ _
  have hkp : ckKeep ε lo ≤ ε.2.1.base + ε.2.1.b.length := by
   rw [ckKeep]; split <;> omega
  rcases a3 with ⟨a0, a3⟩ | a3
  ·have hrl : 8 ≤ (nextRec ε.2.1 8 0 0 0 (le 8 (ckLow ε) ++ data) []).length := by rw [nextRec, recG_len]; omega
   generalize nextRec ε.2.1 8 0 0 0 (le 8 (ckLow ε) ++ data) [] = rc at hrl a3
   generalize ck1 ε data = y1 at *
   have n1 : y1.1.1 = ε.2.1.base + ε.2.1.b.length := by rw [a3]
   have n2 : y1.2.1 = ε.2.1.app rc := by rw [a3]
   -- the log is forced
   obtain ⟨f1, f2, f3⟩ := a1.force (n := y1.1.1)
   have f1 : (ckF y1).1 = 0 := f1
   have f2 : EI N (B + 1) (ε.1, (ckF y1).2) := f2
   have f3 : ∀ m, pgA (ε.1, (ckF y1).2) m = pgA (ε.1, y1.2) m := f3
   have hin : y1.1.1 < y1.2.1.base + y1.2.1.b.length := by
    rw [n1, n2]; show _ < ε.2.1.base + (ε.2.1.b ++ rc).length; rw [List.length_append]; omega
   have f4 : y1.1.1 < (ckF y1).2.1.base + (ckF y1).2.1.forced := forceLD_forced a1.ec.dk hin
   have f5 := forceLD_same (π := ε.1) (x := y1.2) (n := y1.1.1)
   have f6 : (ckF y1).2.1.base = y1.2.1.base := f5.base
   have f7 : (ckF y1).2.1.starts = y1.2.1.starts := f5.starts
   have f8 : (ckF y1).2.1.hasB y1.1.1 = true := by
    have : y1.2.1.hasB y1.1.1 = true := by rw [n1, n2]; exact hasB_app
    rw [Lg.hasB, f6, f7]; exact this
   -- the mark
   obtain ⟨c1, c2, c3, c4⟩ := f2.check (n := y1.1.1) ⟨f8, f4⟩
   have c1 : (ckC y1).1 = 0 := c1
   have c2 : (ckC y1).2.1 = { (ckF y1).2.1 with check := y1.1.1 } := c2
   have c3 : EI N (B + 1) (ε.1, (ckC y1).2) := c3
   have c4 : ∀ m, pgA (ε.1, (ckC y1).2) m = pgA (ε.1, (ckF y1).2) m := c4
   have hpg : ∀ m, pgA (ε.1, (ckC y1).2) m = pgA ε m := fun m => by rw [c4, f3, a2]
   cases hc with
   | app he => exact absurd a0 he
   | force _ he => exact absurd f1 he
   | check _ _ he => exact absurd c1 he
   | cut t _ _ _ ht hlt =>
    have hend : y1.1.1 < (ckC y1).2.1.base + (ckC y1).2.1.b.length := by
     have := c3.ok.ok.lg.forced
     have e1 : (ckC y1).2.1.base = (ckF y1).2.1.base := by rw [c2]
     have e2 : (ckC y1).2.1.forced = (ckF y1).2.1.forced := by rw [c2]
     simp only at this
     omega
    have hhas : (ckC y1).2.1.hasB t = true ∧ t ≤ ckKeep ε lo := by
     rcases ht with ⟨_, ht⟩ | ht | ht
     ·omega
     ·exact ht
     ·omega
    have e1 : (ckC y1).2.1.base = (ckF y1).2.1.base := by rw [c2]
    have e2 : (ckC y1).2.1.forced = (ckF y1).2.1.forced := by rw [c2]
    have e3 : (ckC y1).2.1.check = y1.1.1 := by rw [c2]
    obtain ⟨k1, k2, k3⟩ := c3.cut hhas.1 (by show t ≤ (ckC y1).2.1.base + (ckC y1).2.1.forced; omega) (.inr (by show t ≤ (ckC y1).2.1.check; omega))
    exact ⟨k2, fun m => (k3 m).trans (hpg m), .inr (.inr ⟨k1, rfl⟩)⟩
   | keep _ _ _ => exact ⟨c3, hpg, .inr (.inr ⟨rfl, rfl⟩)⟩
  ·generalize ck1 ε data = y1 at *
   cases hc with
   | app he => exact ⟨a1, a2, .inr (.inl ⟨a3, rfl⟩)⟩
   | force h0 => omega
   | check h0 => omega
   | cut t h0 => omega
   | keep h0 => omega
end Go.Proofs.YtconhghphklfjaaGreat.Am
namespace Go.Proofs.YtconhghphklfjaaGreat.Am
open Go
def strsV (l : List (List Nat)) : List V := l.map V.str
theorem strsV_len (l : List (List Nat)) : (strsV l).length = l.length := by simp [strsV]
theorem strsV_get {l : List (List Nat)} {i : Nat} {w : List Nat} (h : l[i]? = some w) : (strsV l)[i]? = some (.str w) := by simp [strsV, h]
def PgS (ε : Eng) (ps : List (List Nat)) : Prop := ∀ (n : Nat) (w : List Nat), ps[n]? = some w → bodyF (pgA ε n) = w
theorem PgS.of {ε ε' : Eng} {ps : List (List Nat)} (h : PgS ε ps) (hp : ∀ m, 0 ≤ m → pgA ε' m = pgA ε m) : PgS ε' ps := fun n w hn => by rw [hp _ (by omega)]; exact h n w hn
theorem EI.reads {N B : Nat} {ε ε' : Eng} {n e : Int} {b w : List Nat} (h : EI N B ε) (hr : RdR ε n e b ε') (h0 : 0 ≤ n) (h1 : n < N) (hw : bodyF (pgA ε n) = w) : readB e b w = true ∧ EI N B ε' ∧ ∀ m, pgA ε' m = pgA ε m := by
 obtain ⟨k1, k2, k3, k4⟩ := hr.ec h.ec h.ok.pins
 obtain ⟨rfl, rfl⟩ := k3 h0 h1
 refine ⟨?_, h.rd hr, k2⟩
 have hc := h.ec.chk h0 h1
 rw [readB, decide_eq_true hw, show decide (checkL (pgA ε n) ≠ 4) = true from decide_eq_true (by rw [hc]; decide)]
 rfl
theorem good_check {b : List Nat} (h : goodL b = true) : bodyF b = b.drop 12 ∧ checkL b ≠ 4 := by
 have hl := good512 h
 have hz : goodL (List.replicate 512 0) = false := by decide +kernel
 have hnz : b ≠ List.replicate 512 0 := fun e => by rw [e, hz] at h; cases h
 refine ⟨by rw [bodyF, if_neg (by rintro (q | q); exact q hl; exact hnz q)], ?_⟩
 rw [checkL, if_neg hnz, if_neg (by rw [h]; decide)]
 split <;> decide
def rowA (k : Nat) (v : V) (cs : List V) : Assn := .xs fun o : Option (Nat × Nat × Nat) => match o with
 | none => .pu ((v = .sl0 ∨ ∃ a, v = .sle a) ∧ cs = [])
 | some (id, len, cap) => .an (.ro id (.cells cs.length cs true)) (.pu (v = .sl id 0 len (.exact cap) ∧ cs.length = len * k))
theorem Pers.rowA (k : Nat) (v : V) (cs : List V) : Pers (Am.rowA k v cs) := Pers.xs fun o => by
 cases o with
 | none => exact Pers.pu _
 | some x => exact Pers.an (Pers.ro _ _) (Pers.pu _)
section
variable {P : Program} {h : H} {S : List Assn} {k j : Nat} {v : V} {cs : List V}
theorem Sat.rowAt (s : Sat h S) (hj : getA S j = some (rowA k v cs)) : ((v = .sl0 ∨ ∃ a, v = .sle a) ∧ cs = []) ∨ ∃ id len cap, v = .sl id 0 len (.exact cap) ∧ cs.length = len * k ∧ T.get h.tr id = some (.cells cs.length cs true) := by
 obtain ⟨m, r, h1, h2, o, h3⟩ := s.at hj
 cases o with
 | none => exact .inl h3
 | some x => exact .inr ⟨x.1, x.2.1, x.2.2, h3.2.1, h3.2.2, h2 _ _ h3.1⟩
theorem Sat.rowLen {n : Nat} {t e : TypeId} (s : Sat h S) (hj : getA S j = some (rowA k v cs)) (hn : cs.length = n * k) (hk : 1 ≤ k) (hu : P.underlying t = some (.slice e)) : lenV P h t v = some (.int .i64 n) := by
 rcases s.rowAt hj with ⟨hv, rfl⟩ | ⟨id, len, cap, rfl, hl, _⟩
 ·have : n = 0 := by
   cases n with
   | zero => rfl
   | succ n => simp only [List.length_nil, Nat.add_mul, Nat.one_mul] at hn; omega
  subst this
  rcases hv with rfl | ⟨a, rfl⟩
  ·exact len_sl0 hu
  ·simp only [lenV, hu]; rfl
 ·have : n = len := by
   rw [hl] at hn
   exact (Nat.eq_of_mul_eq_mul_right (by omega) hn).symm
  subst this
  exact len_sl hu
theorem Sat.rowLd {t e : TypeId} {i : Nat} (s : Sat h S) (hj : getA S j = some (rowA k v cs)) (hi : i * k + k ≤ cs.length) (hk : 1 ≤ k) (hu : P.underlying t = some (.slice e)) (hse : sizeT P e = some k) (ha : isAggT P e = some true) :
  ∃ id off, indexAddrV P t v (.int .i64 (i : Int)) = some (.ptr id off) ∧ loadV P h e (.ptr id off) = some (.agg ((cs.drop (i * k)).take k)) := by
 rcases s.rowAt hj with ⟨_, rfl⟩ | ⟨id, len, cap, rfl, hl, hg⟩
 ·simp at hi; omega
 ·refine ⟨id, i * k, ?_, ldN ha hse hg rfl hi⟩
  simp only [indexAddrV, hu, hse, Int.toNat_natCast]
  have : i < len := by
   have h4 : i * k + k = (i + 1) * k := by rw [Nat.add_mul, Nat.one_mul]
   rw [h4, hl] at hi
   exact Nat.lt_of_succ_le (Nat.le_of_mul_le_mul_right hi hk)
  rw [show (decide ((0 : Int) ≤ (i : Int)) && decide ((i : Int) < (len : Int))) = true by simp; omega, cond_true]
  simp
theorem Sat.rowV (s : Sat h S) (hj : getA S j = some (rowA k v cs)) : v.cells = [v] ∧ storable v = true ∧ v.beq v = true := by
 rcases s.rowAt hj with ⟨rfl | ⟨a, rfl⟩, _⟩ | ⟨id, len, cap, rfl, _⟩
 ·exact ⟨rfl, rfl, rfl⟩
 ·exact ⟨rfl, rfl, by simp [V.beq]⟩
 ·exact ⟨rfl, rfl, beqSl _ _ _ _⟩
end
def lwA : List V → List (Int × List Nat) → Assn
 | [], [] => .pu True
 | a :: v :: l, x :: m => .an (.an (.pu (a = .int .i64 x.1)) (.rob v x.2)) (lwA l m)
 | _, _ => .pu False
theorem Pers.lwA : ∀ (m : List (Int × List Nat)) (l : List V), Pers (Am.lwA l m) := by
 intro m
 induction m with
 | nil => intro l; rcases l with _ | ⟨a, _ | ⟨b, l⟩⟩ <;> exact Pers.pu _
 | cons x m ih => intro l; rcases l with _ | ⟨a, _ | ⟨b, l⟩⟩ <;> first | exact Pers.pu _ | exact Pers.an (Pers.an (Pers.pu _) (Pers.rob _ _)) (ih l)
theorem lwA_len {a b : PM} : ∀ {m : List (Int × List Nat)} {l : List V}, (lwA l m).p a b → l.length = m.length * 2 := by
 intro m
 induction m with
 | nil => intro l h; rcases l with _ | ⟨x, _ | ⟨y, l⟩⟩ <;> first | rfl | exact h.elim
 | cons x m ih => intro l h; rcases l with _ | ⟨x, _ | ⟨y, l⟩⟩ <;> first | exact h.elim | (have := ih h.2; simp only [List.length_cons]; omega)
theorem lwA_get {a b : PM} : ∀ {m : List (Int × List Nat)} {l : List V} {i : Nat} {x : Int × List Nat}, (lwA l m).p a b → m[i]? = some x → ∃ u, (l.drop (i * 2)).take 2 = [.int .i64 x.1, u] ∧ (Assn.rob u x.2).p a b := by
 intro m
 induction m with
 | nil => intro l i x h hx; simp at hx
 | cons y m ih =>
  intro l i x h hx
  rcases l with _ | ⟨p, _ | ⟨q, l⟩⟩
  ·exact h.elim
  ·exact h.elim
  ·cases i with
   | zero =>
    simp at hx; subst hx
    exact ⟨q, by rw [show p = .int .i64 y.1 from h.1.1]; rfl, h.1.2⟩
   | succ i =>
    rw [List.getElem?_cons_succ] at hx
    obtain ⟨u, h1, h2⟩ := ih h.2 hx
    exact ⟨u, by rw [show (i + 1) * 2 = i * 2 + 2 by omega]; exact h1, h2⟩
structure Deed where
 act : Int
 keep : Int
 w : List (Int × List Nat)
 data : List Nat
def deedA (wv dv : V) (D : Deed) : Assn := .an (.xs fun cs : List V => .an (rowA 2 wv cs) (lwA cs D.w)) (.rob dv D.data)
theorem Pers.deedA (wv dv : V) (D : Deed) : Pers (Am.deedA wv dv D) := Pers.an (Pers.xs fun _ => Pers.an (Pers.rowA _ _ _) (Pers.lwA _ _)) (Pers.rob _ _)
def deedsA : List V → List Deed → Assn
 | [], [] => .pu True
 | a :: b :: w :: d :: l, x :: m => .an (.an (.pu (a = .int .i64 x.act ∧ b = .int .i64 x.keep)) (deedA w d x)) (deedsA l m)
 | _, _ => .pu False
theorem Pers.deedsA : ∀ (m : List Deed) (l : List V), Pers (Am.deedsA l m) := by
 intro m
 induction m with
 | nil => intro l; rcases l with _ | ⟨a, _ | ⟨b, _ | ⟨c, _ | ⟨d, l⟩⟩⟩⟩ <;> exact Pers.pu _
 | cons x m ih => intro l; rcases l with _ | ⟨a, _ | ⟨b, _ | ⟨c, _ | ⟨d, l⟩⟩⟩⟩ <;> first | exact Pers.pu _ | exact Pers.an (Pers.an (Pers.pu _) (Pers.deedA _ _ _)) (ih l)
theorem deedsA_len {a b : PM} : ∀ {m : List Deed} {l : List V}, (deedsA l m).p a b → l.length = m.length * 4 := by
 intro m
 induction m with
 | nil => intro l h; rcases l with _ | ⟨x, _ | ⟨y, _ | ⟨z, _ | ⟨u, l⟩⟩⟩⟩ <;> first | rfl | exact h.elim
 | cons x m ih => intro l h; rcases l with _ | ⟨x, _ | ⟨y, _ | ⟨z, _ | ⟨u, l⟩⟩⟩⟩ <;> first | exact h.elim | (have := ih h.2; simp only [List.length_cons]; omega)
theorem deedsA_get {a b : PM} : ∀ {m : List Deed} {l : List V} {i : Nat} {x : Deed}, (deedsA l m).p a b → m[i]? = some x → ∃ w d, (l.drop (i * 4)).take 4 = [.int .i64 x.act, .int .i64 x.keep, w, d] ∧ (deedA w d x).p a b := by
 intro m
 induction m with
 | nil => intro l i x h hx; simp at hx
 | cons y m ih =>
  intro l i x h hx
  rcases l with _ | ⟨p, _ | ⟨q, _ | ⟨w, _ | ⟨d, l⟩⟩⟩⟩
  ·exact h.elim
  ·exact h.elim
  ·exact h.elim
  ·exact h.elim
  ·cases i with
   | zero =>
    simp at hx; subst hx
    exact ⟨w, d, by rw [show p = .int .i64 y.act from h.1.1.1, show q = .int .i64 y.keep from h.1.1.2]; rfl, h.1.2⟩
   | succ i =>
    rw [List.getElem?_cons_succ] at hx
    obtain ⟨u, v, h1, h2⟩ := ih h.2 hx
    exact ⟨u, v, by rw [show (i + 1) * 4 = i * 4 + 4 by omega]; exact h1, h2⟩
section
variable {told : Nat → Option (List V → H → Option (V × H))} {h : H} {S : List Assn} {X : Assn} {r k q p a g chk N B : Nat} {op v x pv : V} {l data : List Nat} {ε : Eng} {ps : List (List Nat)}
noncomputable def smL : Code := pathC [1, 0, 1, 0, 0] ((Tryz.f29.body).getD .skip)
theorem same_loop (hT : W told) (hN : ps.length = N) (hN2 : N ≤ 65536) (hB : B ≤ 2000) : ∀ (j i : Nat) (ε : Eng) (h : H) (E : List (Nat × V)) (Q : Ex → List (Nat × V) → H → Prop), i + j = N → EI N B ε → PgS ε ps →
  Sat h (isSt a p q r op data chk :: isPl r p q ε.1 :: isLg q p ε.2.1 :: isDk p ε.2.2 :: .arr 1 pv (strsV ps) :: S) → Has E [(0, .ptr a 0), (1, pv), (5, .int .i64 (i : Int))] →
  (∀ ε' E' h', EI N B ε' → (∀ m, pgA ε' m = pgA ε m) → Sat h' (isSt a p q r op data chk :: isPl r p q ε'.1 :: isLg q p ε'.2.1 :: isDk p ε'.2.2 :: .arr 1 pv (strsV ps) :: S) → Q (.exit 0) E' h') →
  WP ⟨Tryz.prog, told⟩ 21 (.loop smL) E h Q := by
 intro j
 induction j with
 | zero =>
  intro i ε h E Q hi hε hp s hE hx
  refine WP.loop (WP.has hE (zw (zg rfl (zm rfl (zm rfl (zo rfl (o_len rfl rfl rfl (s.arrLen (n := N) (j := 4) rfl (by rw [strsV_len, hN, Nat.mul_one]) (by decide) Tryz.underlying57)) ?_))))))
  refine WPs.opF rfl rfl rfl (o_bin rfl rfl bLss) (by simp <;> omega) ?_
  refine zv (zj rfl (WP.exit ?_))
  exact hx ε _ _ hε (fun _ => rfl) s
 | succ j ih =>
  intro i ε h E Q hi hε hp s hE hx
  have hw : ps[i]? = some (ps[i]'(by omega)) := List.getElem?_eq_getElem _
  generalize (ps[i]'(by omega)) = w at hw
  obtain ⟨id, off, e1, e2⟩ := arr1_at (P := Tryz.prog) s (k := 4) rfl (strsV_get hw) Tryz.underlying57 sz9
  have hpot := hε.pot
  have hwt := pot_wait (ε := ε)
  refine WP.loop (WP.has hE (zw (zg rfl (zm rfl (zm rfl (zo rfl (o_len rfl rfl rfl (s.arrLen (n := N) (j := 4) rfl (by rw [strsV_len, hN, Nat.mul_one]) (by decide) Tryz.underlying57)) ?_))))))
  refine WPs.opT rfl rfl rfl (o_bin rfl rfl bLss) (by simp <;> omega) ?_
  refine zv (zi rfl (WP.skip (zw (WP.block (zg rfl (zm rfl (zo rfl (o_mki rfl (mki_of Tryz.underlying24 rfl)) (zm rfl (zm rfl (zm rfl (zo rfl (o_ia (r := .ptr id off) rfl rfl e1) (zl rfl (e2 _ ag9) (WPs.call rfl rfl rfl rfl rfl rfl rfl (reads_s (n := (i : Int)) (w := w) hT s hε.ok (by omega)) ?_)))))))))))))
  rintro v h ⟨e, b, ε', hr, rfl, s⟩
  obtain ⟨r1, r2, r3⟩ := hε.reads hr (by omega) (by omega) (hp i w hw)
  rw [r1]
  refine WPs.opF rfl rfl rfl (o_un rfl rfl) (rfl) (zv (zj rfl (WP.skip (zr rfl (zm rfl (zb rfl (by exact bAdd (wrapS (by omega) (by omega))) ?_))))))
  refine za rfl (zv ?_)
  exact ih (i + 1) ε' _ _ Q (by omega) r2 (hp.of fun m _ => r3 m) s ⟨rfl, rfl, rfl, trivial⟩ fun ε'' E' h' g1 g2 g3 => hx ε'' E' h' g1 (fun m => by rw [g2, r3]) g3
theorem same_ct (hT : W told) (hN : ps.length = N) (hN2 : N ≤ 65536) (hB : B ≤ 2000) (hε : EI N B ε) (hp : PgS ε ps) (s : Sat h (isSt a p q r op data chk :: isPl r p q ε.1 :: isLg q p ε.2.1 :: isDk p ε.2.2 :: .arr 1 pv (strsV ps) :: S)) :
  Call ⟨Tryz.prog, told⟩ 29 [.ptr a 0, pv] h fun v h' => v = .bool true ∧ ∃ ε', EI N B ε' ∧ (∀ m, pgA ε' m = pgA ε m) ∧
   Sat h' (isSt a p q r op data chk :: isPl r p q ε'.1 :: isLg q p ε'.2.1 :: isDk p ε'.2.2 :: .arr 1 pv (strsV ps) :: S) := by
 refine Call.of_wp (hT.free _ rfl) Tryz.func29 rfl rfl (zg rfl (za rfl (zv (zw (zg rfl (za rfl (zv (WP.block ?_))))))))
 refine same_loop hT hN hN2 hB N 0 ε _ _ _ (by omega) hε hp s ⟨rfl, rfl, rfl, trivial⟩ (fun ε' E' h' g1 g2 s' => ?_)
 have s := s'
 refine WP.has (F := []) trivial (zg rfl (za rfl (zv ?_)))
 refine WP.ret ⟨trivial, _, rfl, ?_⟩
 exact ⟨rfl, ε', g1, g2, s⟩
end
end Go.Proofs.YtconhghphklfjaaGreat.Am
namespace Go.Proofs.YtconhghphklfjaaGreat.Am
open Go
theorem lw_at {h : H} {S : List Assn} {cs : List V} {m : List (Int × List Nat)} {i : Nat} {x : Int × List Nat} (s : Sat h (lwA cs m :: S)) (hx : m[i]? = some x) :
  ∃ u, (cs.drop (i * 2)).take 2 = [.int .i64 x.1, u] ∧ u.cells = [u] ∧ storable u = true ∧ u.beq u = true ∧ (∀ b ∈ x.2, b < 256) ∧ Sat h (.rob u x.2 :: lwA cs m :: S) := by
 obtain ⟨a, b, q1, q2, q3⟩ := s.at (k := 0) rfl
 obtain ⟨u, e1, e2⟩ := lwA_get q3 hx
 have s3 := (s.dup (Pers.lwA _ _)).ent (B := .rob u x.2) fun a b h => by
  obtain ⟨u', e1', e2'⟩ := lwA_get h hx
  rw [e1] at e1'
  injection e1' with _ e1'
  injection e1' with e1' _
  subst e1'
  exact e2'
 have hu := (s3.viewX (k := 0) rfl (rd_ro _ _))
 exact ⟨u, e1, hu.cells.1, hu.cells.2, beqView hu, hu.1, s3⟩
theorem lw_len {h : H} {S : List Assn} {cs : List V} {m : List (Int × List Nat)} {k : Nat} (s : Sat h S) (hk : getA S k = some (lwA cs m)) : cs.length = m.length * 2 := by
 obtain ⟨a, b, q1, q2, q3⟩ := s.at hk
 exact lwA_len q3
structure NX (N : Nat) (ps : List (List Nat)) (now : List (Int × List Nat)) (nx : List (List Nat)) : Prop where
 len : nx.length = N
 old : ps.length = N
 is : ∀ (n : Nat) (w : List Nat), nx[n]? = some w → (match lookL (n : Int) now with | some b => w = b.drop 12 | none => ps[n]? = some w)
theorem NX.put {N : Nat} {ps nx : List (List Nat)} {now : List (Int × List Nat)} {n : Nat} {b : List Nat} (h : NX N ps now nx) (hn : n < N) : NX N ps (putL (n : Int) b now) (nx.set n (b.drop 12)) := by
 refine ⟨by rw [List.length_set]; exact h.len, h.old, fun m w hm => ?_⟩
 rw [lookL_put]
 by_cases e : (n : Int) = (m : Int)
 ·have : n = m := by omega
  subst this
  rw [if_pos rfl]
  rw [List.getElem?_set_self (by rw [h.len]; exact hn)] at hm
  exact (Option.some.inj hm).symm
 ·rw [if_neg e]
  rw [List.getElem?_set_ne (by omega)] at hm
  exact h.is m w hm
section
variable {told : Nat → Option (List V → H → Option (V × H))} {h : H} {S : List Assn} {X : Assn} {r k q p a g chk N B : Nat} {op v x pv wv dv : V} {l data : List Nat} {ε : Eng} {ps : List (List Nat)}
theorem sat_str {P : Program} {n : Nat} {v : V} {l : List (List Nat)} {w : List Nat} {t te : TypeId} (s : Sat h (.arr 1 v (strsV l) :: S)) (hn : n < l.length) (hu : P.underlying t = some (.slice te)) (hse : sizeT P te = some 1) :
  ∃ id off h', indexAddrV P t v (.int .i64 (n : Int)) = some (.ptr id off) ∧ storeV P h te (.ptr id off) (.str w) = some h' ∧ Sat h' (.arr 1 v (strsV (l.set n w)) :: S) := by
 have hne : strsV l ≠ [] := fun e => by have := congrArg List.length e; rw [strsV_len, List.length_nil] at this; omega
 have hst := s.arrSt (j := 0) rfl
 obtain ⟨id, m, cap, M, rest, rfl, hl, hM, s1, hc⟩ := s.openArr hne
 rw [strsV_len, Nat.mul_one] at hl
 obtain ⟨h', e1, e2⟩ := s1.st1 (P := P) (t := te) (k := 0) (off := n) (v := .str w) rfl hse (by rw [List.length_append, hM]) (by rw [hM, strsV_len]; omega) rfl rfl
 refine ⟨id, n, h', ?_, e1, hc h' (strsV (l.set n w)) S ?_ ?_ ?_⟩
 ·simp only [indexAddrV, hu, hse, Int.toNat_natCast]
  rw [show (decide ((0 : Int) ≤ (n : Int)) && decide ((n : Int) < (m : Int))) = true by simp; omega, cond_true]
  simp
 ·rw [strsV_len, strsV_len, List.length_set]
 ·rw [List.all_eq_true]; intro v hv; obtain ⟨x, _, rfl⟩ := List.mem_map.1 hv; rfl
 ·have e3 : (strsV l ++ rest).set n (.str w) = strsV (l.set n w) ++ rest := by
   rw [List.set_append_left _ _ (by rw [strsV_len]; exact hn)]
   simp [strsV, List.map_set]
  dsimp only [setA] at e2
  rw [e3] at e2
  exact e2
noncomputable def plL : Code := pathC [1, 1, 1, 1, 1, 0, 1, 0, 0] ((Tryz.f28.body).getD .skip)
theorem play_loop (hT : W told) {p5 : Nat} {cs : List V} {D : Deed} (hN2 : N ≤ 65536) (hB : B ≤ 2000) (hD : D.w.length ≤ 1048576 ∧ ∀ x ∈ D.w, x.2.length ≤ 1048576) : ∀ (j i : Nat) (ε : Eng) (now : List (Int × List Nat)) (nx : List (List Nat)) (nv : V) (h : H) (E : List (Nat × V)) (Q : Ex → List (Nat × V) → H → Prop), i + j = D.w.length → EI N B ε → NW N now → NX N ps now nx →
  Sat h (isGp g a now false :: isSt a p q r (.ptr g 0) data chk :: isPl r p q ε.1 :: isLg q p ε.2.1 :: isDk p ε.2.2 :: .arr 1 nv (strsV nx) :: .arr 1 pv (strsV ps) :: pt p5 (.cells 4 [.int .i64 D.act, .int .i64 D.keep, wv, dv] false) :: rowA 2 wv cs :: lwA cs D.w :: S) →
  Has E [(0, .ptr a 0), (1, pv), (5, .ptr p5 0), (18, .ptr g 0), (20, nv), (21, .int .i64 (i : Int))] →
  (∀ ε' now' nx' E' h', EI N B ε' → (∀ m, pgA ε' m = pgA ε m) → NW N now' → NX N ps now' nx' → Has E' [(0, .ptr a 0), (1, pv), (5, .ptr p5 0), (18, .ptr g 0), (20, nv)] →
   Sat h' (isGp g a now' false :: isSt a p q r (.ptr g 0) data chk :: isPl r p q ε'.1 :: isLg q p ε'.2.1 :: isDk p ε'.2.2 :: .arr 1 nv (strsV nx') :: .arr 1 pv (strsV ps) :: pt p5 (.cells 4 [.int .i64 D.act, .int .i64 D.keep, wv, dv] false) :: rowA 2 wv cs :: lwA cs D.w :: S) → Q (.exit 1) E' h') →
  WP ⟨Tryz.prog, told⟩ 262 (.loop plL) E h Q := by
 intro j
 induction j with
 | zero =>
  intro i ε now nx nv h E Q hi hε hw hx s hE hq
  have hlen := lw_len s (k := 9) rfl
  refine WP.loop (WP.has hE (zw (zg rfl (zm rfl (zf rfl (fa62_2 _ _) (zl rfl (by exact s.ld (k := 7) rfl ag60 rfl) ?_))))))
  refine zo rfl (o_len rfl rfl rfl (s.rowLen (n := D.w.length) (j := 8) rfl hlen (by decide) Tryz.underlying60)) ?_
  refine WPs.opF rfl rfl rfl (o_bin rfl rfl bLss) (by simp <;> omega) ?_
  refine zv (zj rfl (WP.exit ?_))
  exact hq ε now nx _ _ hε (fun _ => rfl) hw hx ⟨rfl, rfl, rfl, rfl, rfl, trivial⟩ s
 | succ j ih =>
  intro i ε now nx nv h E Q hi hε hw hx s hE hq
  have hlen := lw_len s (k := 9) rfl
  have hxi : D.w[i]? = some (D.w[i]'(by omega)) := List.getElem?_eq_getElem _
  generalize (D.w[i]'(by omega)) = y at hxi
  obtain ⟨pg, b⟩ := y
  have hbl : b.length ≤ 1048576 := hD.2 _ (List.mem_of_getElem? hxi)
  obtain ⟨u, c1, u1, u2, u3, hb256, s⟩ := lw_at (s.bringS [9]) hxi
  dsimp only [bringA, getA, delA] at s
  obtain ⟨id, off, g1, g2⟩ := s.rowLd (P := Tryz.prog) (i := i) (j := 10) rfl (by omega) (by decide) Tryz.underlying60 sz134 ag134
  rw [c1] at g2
  have s := s.bringS [9, 2, 2, 2, 2, 2, 0, 1, 1, 1, 0]
  dsimp only [bringA, getA, delA] at s
  have hnow : ∀ e ∈ now, e.2.length = 512 := fun e he => good512 (hw.good e he).1
  have hpot := hε.pot
  have hwt := pot_wait (ε := ε)
  refine WP.loop (WP.has hE (zw (zg rfl (zm rfl (zf rfl (fa62_2 _ _) (zl rfl (by exact s.ld (k := 0) rfl ag60 rfl) ?_))))))
  refine zo rfl (o_len rfl rfl rfl (s.rowLen (n := D.w.length) (j := 9) rfl hlen (by decide) Tryz.underlying60)) ?_
  refine WPs.opT rfl rfl rfl (o_bin rfl rfl bLss) (by simp <;> omega) ?_
  refine zv (zi rfl (WP.skip (zw (WP.block (zg rfl (zf rfl (fa62_2 _ _) (zl rfl (by exact s.ld (k := 0) rfl ag60 rfl) ?_)))))))
  refine zm rfl (zo rfl (o_ia (r := .ptr id off) rfl rfl g1) (zl rfl g2 ?_))
  refine WPs.newS s rfl rfl rfl (o_alloc zt134) (fun p22 h s => ?_)
  dsimp only [V.cells, List.length_cons, List.length_nil, Nat.reduceAdd] at s
  refine WPs.stS rfl rfl rfl rfl rfl (s.stA (j := 0) rfl sz134 rfl (by simp only [List.all_cons, List.all_nil, u2]; rfl)) ?_
  intro h s
  dsimp only [setA] at s
  refine zv (zg rfl (zm rfl (zf rfl (fa134_0 _ _) (zl rfl (by exact s.ld (k := 0) rfl ag3 rfl) ?_))))
  refine zf rfl (fa134_1 _ _) (zl rfl (by exact s.ld (k := 0) rfl ag32 rfl) ?_)
  refine WPs.call rfl rfl rfl rfl rfl rfl rfl (gwrite_ct (n := pg) hT (s.bringS [2, 2, 2, 2, 2, 2]) (rd_ro _ _) (by omega) hε.ok (by omega) hnow) ?_
  rintro v h ⟨e, now', ε', hr, rfl, s⟩
  dsimp only [bringA, getA, delA] at s
  obtain ⟨k1, k2, k3, k4, k5⟩ := hr.ec hε.ec hε.ok.pins
  have hε' := hε.gwr hr
  have next : ∀ (h : H) (E : List (Nat × V)) (nx' : List (List Nat)) (ε'' : Eng), EI N B ε'' → (∀ m, pgA ε'' m = pgA ε' m) → NW N now' → NX N ps now' nx' →
    Sat h (isGp g a now' false :: isSt a p q r (.ptr g 0) data chk :: isPl r p q ε''.1 :: isLg q p ε''.2.1 :: isDk p ε''.2.2 :: .arr 1 nv (strsV nx') :: .arr 1 pv (strsV ps) :: pt p5 (.cells 4 [.int .i64 D.act, .int .i64 D.keep, wv, dv] false) :: rowA 2 wv cs :: lwA cs D.w :: S) →
    Has E [(0, .ptr a 0), (1, pv), (5, .ptr p5 0), (18, .ptr g 0), (20, nv), (21, .int .i64 ((i : Int) + 1))] → WP ⟨Tryz.prog, told⟩ 262 (.loop plL) E h Q := fun h E nx' ε'' a1 a2 a3 a4 a5 a6 =>
   ih (i + 1) ε'' now' nx' nv h E Q (by omega) a1 a3 a4 a5 a6 fun ε3 now3 nx3 E3 h3 b1 b2 b3 b4 b5 b6 => hq ε3 now3 nx3 E3 h3 b1 (fun m => by rw [b2, a2, k2]) b3 b4 b5 b6
  refine za rfl (zv (WP.block (zg rfl (zf rfl (fa134_0 _ _) (zl rfl (by exact s.ld (k := 6) rfl ag3 rfl) ?_)))))
  by_cases hneg : pg < 0
  ·skip
   refine WPs.opT rfl rfl rfl (o_bin rfl rfl bLss) (by simp; omega) ?_
   obtain ⟨rfl, hnw⟩ := k3 (by omega)
   refine zm rfl (zx rfl (zx rfl (zx rfl (zx rfl (zx rfl (zq rfl (za rfl (zv (zi rfl (zg rfl (zm rfl (WPs.opF rfl rfl rfl (o_bin rfl rfl bNeq) (by simp) ?_))))))))))))
   refine zm rfl (zx rfl (zx rfl (zp rfl (zv (zj rfl (WP.skip (zr rfl (zm rfl (zb rfl (by exact bAdd (wrapS (by omega) (by omega))) ?_)))))))))
   refine za rfl (zv ?_)
   exact next _ _ nx ε' hε' (fun _ => rfl) (by rw [hnw]; exact hw) (by rw [hnw]; exact hx) (((s.bringS [0, 0, 0, 0, 0, 3, 3, 2, 2, 2]).del 11).del 10) ⟨rfl, rfl, rfl, rfl, rfl, rfl, trivial⟩
  ·skip
   refine WPs.opF rfl rfl rfl (o_bin rfl rfl bLss) (by simp; omega) ?_
   refine zm rfl (zf rfl (fa134_0 _ _) (zl rfl (by exact s.ld (k := 6) rfl ag3 rfl) ?_))
   refine zm rfl (zo rfl (o_len rfl rfl rfl (s.arrLen (n := N) (j := 9) rfl (by rw [strsV_len, hx.old, Nat.mul_one]) (by decide) Tryz.underlying57)) ?_)
   by_cases hbig : (N : Int) ≤ pg
   ·skip
    refine WPs.opT rfl rfl rfl (o_bin rfl rfl bGeq) (by simp; omega) ?_
    obtain ⟨rfl, hnw⟩ := k3 (by omega)
    refine zp rfl (za rfl (zv (zi rfl (zg rfl (zm rfl (WPs.opF rfl rfl rfl (o_bin rfl rfl bNeq) (by simp) ?_))))))
    refine zm rfl (zx rfl (zx rfl (zp rfl (zv (zj rfl (WP.skip (zr rfl (zm rfl (zb rfl (by exact bAdd (wrapS (by omega) (by omega))) ?_)))))))))
    refine za rfl (zv ?_)
    exact next _ _ nx ε' hε' (fun _ => rfl) (by rw [hnw]; exact hw) (by rw [hnw]; exact hx) (((s.bringS [0, 0, 0, 0, 0, 3, 3, 2, 2, 2]).del 11).del 10) ⟨rfl, rfl, rfl, rfl, rfl, rfl, trivial⟩
   ·skip
    refine WPs.opF rfl rfl rfl (o_bin rfl rfl bGeq) (by simp; omega) ?_
    obtain ⟨n, rfl⟩ : ∃ n : Nat, pg = n := ⟨pg.toNat, by omega⟩
    have hnN : n < N := by omega
    refine zp rfl (za rfl (zv (zj rfl (zg rfl (zm rfl ?_)))))
    cases hg : goodL b with
    | false =>
     obtain ⟨rfl, hnw⟩ := k4 (by omega) (by omega) hg
     refine WPs.opF rfl rfl rfl (o_bin rfl rfl bEql) (by decide) ?_
     refine za rfl (zv (zj rfl (zg rfl (zf rfl (fa134_1 _ _) (zl rfl (by exact s.ld (k := 6) rfl ag32 rfl) ?_)))))
     refine WPs.call rfl rfl rfl rfl rfl rfl rfl (rgood_ct hT (s.bringS [5]) (rd_ro _ _)) ?_
     rintro v h ⟨rfl, s⟩
     dsimp only [bringA, getA, delA] at s
     rw [hg]
     refine WPs.opT rfl rfl rfl (o_un rfl rfl) (rfl) (za rfl (zv (zi rfl (zg rfl (zm rfl (WPs.opF rfl rfl rfl (o_bin rfl rfl bNeq) (by decide) ?_))))))
     refine zv (zj rfl (WP.skip (zr rfl (zm rfl (zb rfl (by exact bAdd (wrapS (by omega) (by omega))) ?_)))))
     refine za rfl (zv ?_)
     exact next _ _ nx ε' hε' (fun _ => rfl) (by rw [hnw]; exact hw) (by rw [hnw]; exact hx) (((s.bringS [1, 1, 1, 1, 1, 3, 3, 2, 2, 2]).del 11).del 10) ⟨rfl, rfl, rfl, rfl, rfl, rfl, trivial⟩
    | true =>
     obtain ⟨rfl, rfl⟩ := k5 (by omega) (by omega) hg
     have hw' := hw.put (n := (n : Int)) (by omega) (by omega) hg hb256
     have hx' := hx.put (b := b) hnN
     have hpot' := hε'.pot
     have hwt' := pot_wait (ε := ε')
     refine WPs.opF rfl rfl rfl (o_bin rfl rfl bEql) (by decide) ?_
     refine za rfl (zv (zj rfl (zg rfl (zf rfl (fa134_1 _ _) (zl rfl (by exact s.ld (k := 6) rfl ag32 rfl) ?_)))))
     refine WPs.call rfl rfl rfl rfl rfl rfl rfl (rgood_ct hT (s.bringS [5]) (rd_ro _ _)) ?_
     rintro v h ⟨rfl, s⟩
     dsimp only [bringA, getA, delA] at s
     rw [hg]
     refine WPs.opF rfl rfl rfl (o_un rfl rfl) (rfl) (za rfl (zv (zj rfl (zg rfl (zm rfl (WPs.opF rfl rfl rfl (o_bin rfl rfl bNeq) (by decide) ?_))))))
     refine za rfl (zv (zj rfl (zw ?_)))
     have s := s.bringS [8, 0]
     dsimp only [bringA, getA, delA] at s
     have hsl := slice_from (s.viewX (k := 1) rfl (rd_ro _ _)) (a := 12) (by rw [good512 hg]; decide)
     obtain ⟨id2, off2, h2, f1, f2, f3⟩ := sat_str (P := Tryz.prog) (w := b.drop 12) s (by rw [hx.len]; exact hnN) Tryz.underlying57 sz9
     refine WP.drawn [none, none, none, none, none, none, none, none, none] rfl (by kernel_rfl) (by kernel_rfl) ?_
     refine zM rfl (zF rfl (fa134_0 _ _) (zL rfl (by exact s.ld (k := 7) rfl ag3 rfl) ?_))
     refine zF rfl (fa134_1 _ _) (zL rfl (by exact s.ld (k := 7) rfl ag32 rfl) ?_)
     refine zO rfl (o_slice (p := some (.int .i64 12)) (q := none) (m := none) (p' := some 12) (q' := none) (m' := none) rfl rfl rfl rfl rfl rfl rfl hsl.1) (WPt.op rfl rfl rfl (by simp only [isEff, Tryz.underlying9]) (o_conv rfl (cvS hsl.2.1)) ?_)
     refine zO rfl (o_ia (r := .ptr id2 off2) rfl rfl f1) (WPt.any0 rfl rfl rfl (OpR.stS rfl rfl rfl (⟨h2, f2, f3⟩)) ?_)
     rintro v h ⟨rfl, s⟩
     refine WPt.nil ⟨⟨trivial, trivial, trivial, trivial, trivial, trivial, trivial, trivial, trivial, trivial⟩, ?_⟩
     obtain ⟨id3, off3, f4, f5⟩ := arr1_at (P := Tryz.prog) s (k := 0) (i := n) (c := .str (b.drop 12)) rfl (strsV_get (List.getElem?_set_self (by rw [hx.len]; exact hnN))) Tryz.underlying57 sz9
     refine zw (WP.drawn [none, none, none, none, none, none, none, none, none, none, none] rfl (by kernel_rfl) (by kernel_rfl) ?_)
     refine zM rfl (zO rfl (o_mki rfl (mki_of Tryz.underlying27 rfl)) (zF rfl (fa134_0 _ _) (zL rfl (by exact s.ld (k := 7) rfl ag3 rfl) ?_)))
     refine zM rfl (zF rfl (fa134_0 _ _) (zL rfl (by exact s.ld (k := 7) rfl ag3 rfl) ?_))
     refine zO rfl (o_ia (r := .ptr id3 off3) rfl rfl f4) (zL rfl (f5 _ ag9) (WPt.any rfl rfl rfl rfl (OpR.call rfl rfl rfl rfl (reads_g (n := (n : Int)) (w := b.drop 12) hT (s.bringS [2, 2, 2, 2, 2]) hε'.ok (by omega) (fun e he => good512 (hw'.good e he).1))) ?_))
     rintro v h ⟨e2, b2, ε'', hr2, rfl, s⟩
     dsimp only [bringA, getA, delA] at s
     obtain ⟨r1, r2, r3, r4⟩ := hr2.ec hε'.ec hε'.ok.pins
     obtain ⟨rfl, rb⟩ := r3 (by omega) (by omega)
     rw [look_put] at rb
     simp only at rb
     subst rb
     have hrd : readB 0 b2 (b2.drop 12) = true := by
      obtain ⟨q1, q2⟩ := good_check hg
      rw [readB, decide_eq_true q1, decide_eq_true q2]; rfl
     rw [hrd]
     refine WPt.opF rfl rfl rfl rfl (o_un rfl rfl) (rfl) ?_
     refine WPt.nil ⟨⟨trivial, trivial, trivial, trivial, trivial, trivial, trivial, trivial, trivial, trivial, trivial, trivial⟩, ?_⟩
     refine zj rfl (WP.skip (zr rfl (zm rfl (zb rfl (by exact bAdd (wrapS (by omega) (by omega))) ?_))))
     refine za rfl (zv ?_)
     exact next _ _ _ ε'' (hε'.grd hr2) r2 hw' hx' (((s.bringS [0, 0, 0, 0, 0, 0, 3, 2, 2, 2]).del 11).del 10) ⟨rfl, rfl, rfl, rfl, rfl, rfl, trivial⟩
end
end Go.Proofs.YtconhghphklfjaaGreat.Am
