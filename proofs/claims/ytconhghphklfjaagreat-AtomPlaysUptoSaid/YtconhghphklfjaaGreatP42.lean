/- Whatever groups are done and dropped, written out and checkpointed between, each page is as the groups that were done made it; the conditions are those of the given statement, for arguments that a machine can hold. Part 42 of 49. -/
import Derived.Test.YtconhghphklfjaaGreatP41
namespace Go.Proofs.YtconhghphklfjaaGreat.Am
open Go
def cutS (μ : Lg) (n : Nat) : List Nat := (μ.starts.filter fun s => decide (n ≤ μ.base + s)).map fun s => s - (n - μ.base)
def Lg.cut (μ : Lg) (n : Nat) : Lg := { base := n, b := μ.b.drop (n - μ.base), starts := cutS μ n, forced := μ.forced - (n - μ.base), check := μ.check }
def cutLD (x : LD) (n : Nat) : Int × LD :=
 if (n ≠ x.1.base + x.1.b.length ∧ x.1.hasB n = false) ∨ x.1.base + x.1.forced < n ∨ (x.1.check ≠ 0 ∧ x.1.check < n) then (1, x) else
 if (x.2.cutF ((n - x.1.base : Nat) : Int) (markB n x.1.check)).1 ≠ 0 then ((x.2.cutF ((n - x.1.base : Nat) : Int) (markB n x.1.check)).1, (x.1, (x.2.cutF ((n - x.1.base : Nat) : Int) (markB n x.1.check)).2)) else
 (0, (x.1.cut n, (x.2.cutF ((n - x.1.base : Nat) : Int) (markB n x.1.check)).2))
theorem cutS_of {μ : Lg} {n i : Nat} (h : Split μ n i) : cutS μ n = (μ.starts.drop i).map fun s => s - (n - μ.base) := by
 have h1 : μ.starts.filter (fun s => decide (n ≤ μ.base + s)) = μ.starts.drop i := by
  conv => lhs; rw [← List.take_append_drop i μ.starts]
  rw [List.filter_append]
  have e1 : (μ.starts.take i).filter (fun s => decide (n ≤ μ.base + s)) = [] := by
   rw [List.filter_eq_nil_iff]
   intro s hs
   obtain ⟨j, hj, rfl⟩ := List.mem_iff_getElem.1 hs
   have hj2 : j < i := by simp at hj; omega
   have := h.2.1 j _ hj2 (by rw [List.getElem?_eq_getElem (by simp at hj; omega)])
   simp only [List.getElem_take] at this ⊢
   simp; omega
  have e2 : (μ.starts.drop i).filter (fun s => decide (n ≤ μ.base + s)) = μ.starts.drop i := by
   rw [List.filter_eq_self]
   intro s hs
   obtain ⟨j, hj, rfl⟩ := List.mem_iff_getElem.1 hs
   have := h.2.2 (i + j) _ (Nat.le_add_right _ _) (by rw [List.getElem?_eq_getElem (by simp at hj; omega)])
   simp only [List.getElem_drop] at this ⊢
   simpa using this
  rw [e1, e2, List.nil_append]
 rw [cutS, h1]
theorem hasB_le {μ : Lg} {n : Nat} (h : μ.hasB n = true) : μ.base ≤ n := by
 simp only [Lg.hasB, List.any_eq_true, decide_eq_true_eq] at h
 obtain ⟨s, _, rfl⟩ := h
 exact Nat.le_add_right _ _
section
variable {told : Nat → Option (List V → H → Option (V × H))} {h : H} {S : List Assn} {X Y : Assn} {r k q p fid a g chk : Nat} {op v x u wh di : V} {l b was data data0 : List Nat} {μ : Lg} {δ : Dk}
theorem dCutF (hT : W told) {n : Int} {x : V} {b : List Nat} (s : Sat h (isDk p δ :: X :: S)) (hX : Ent X (rdB x b)) (hδ : δ.Ok) :
  Call ⟨Tryz.prog, told⟩ 112 [.ptr p 0, .int .i64 n, x] h fun v h' => v = .int .i64 (δ.cutF n b).1 ∧ Sat h' (isDk p (δ.cutF n b).2 :: X :: S) := by
 refine (dCut_ct hT s hX hδ.fuse (by have := hδ.len; omega) hδ.certain).mono fun v h' hr => ?_
 unfold Dk.cutF
 rcases hr with ⟨hd, rfl, s⟩ | ⟨hd, h0, rfl, s⟩ | ⟨hd, h1, h2, h3, h0, rfl, s⟩ | ⟨hd, h1, h2, h3, h0, rfl, s⟩
 ·rw [if_pos hd]; exact ⟨rfl, s⟩
 ·rw [if_neg (by rw [hd]; decide), if_pos h0]; exact ⟨rfl, s⟩
 ·rw [if_neg (by rw [hd]; decide), if_neg (by simp [h1, h2, h3]), if_pos h0]; exact ⟨rfl, s⟩
 ·rw [if_neg (by rw [hd]; decide), if_neg (by simp [h1, h2, h3]), if_neg h0]; exact ⟨rfl, s⟩
end
end Go.Proofs.YtconhghphklfjaaGreat.Am
namespace Go.Proofs.YtconhghphklfjaaGreat.Am
open Go
section
variable {told : Nat → Option (List V → H → Option (V × H))} {h : H} {S : List Assn} {X Y : Assn} {r k q p fid a g chk : Nat} {op v x u wh di : V} {l b was data data0 : List Nat} {μ : Lg} {δ : Dk}
noncomputable def ctL : Code := pathC [1, 1, 1, 1, 1, 1, 0, 1, 0, 0] ((Tryz.f71.body).getD .skip)
theorem cut_loop (hT : W told) {i c : Nat} {sv : V} {sts : List Nat} {t1 : V} (hi : i ≤ sts.length) (hb : ∀ s ∈ sts, s ≤ 1099511627776) (hc : c ≤ 1099511627776) (hge : ∀ s ∈ sts.drop i, c ≤ s) (hmany : sts.length ≤ 16777216) : ∀ (j m : Nat) (nv : V) (h : H) (E : List (Nat × V)) (Q : Ex → List (Nat × V) → H → Prop), i + m + j = sts.length →
  Sat h (.arr 1 nv (intsL (((sts.drop i).take m).map fun s => s - c)) :: .arr 1 sv (intsL sts) :: S) →
  Has E [(0, .ptr q 0), (1, t1), (5, .int .i64 (c : Int)), (8, nv), (81, slF sv i), (82, .int .i64 ((sts.length - i : Nat) : Int)), (83, .int .i64 (m : Int))] →
  (∀ nv' E' h', Has E' [(0, .ptr q 0), (1, t1), (5, .int .i64 (c : Int)), (8, nv')] → Sat h' (.arr 1 nv' (intsL ((sts.drop i).map fun s => s - c)) :: .arr 1 sv (intsL sts) :: S) → Q (.exit 0) E' h') →
  WP ⟨Tryz.prog, told⟩ 121 (.loop ctL) E h Q := by
 intro j
 induction j with
 | zero =>
  intro m nv h E Q hj s hE hx
  refine WP.loop (WP.has hE (zg rfl (WPs.opF rfl rfl rfl (o_bin rfl rfl bLss) (by simp <;> omega) ?_)))
  refine zv (zw (zj rfl (WP.exit ?_)))
  rw [List.take_of_length_le (by simp; omega)] at s
  exact hx nv _ _ ⟨rfl, rfl, rfl, rfl, trivial⟩ s
 | succ j ih =>
  intro m nv h E Q hj s hE hx
  have hst : sts[i + m]? = some (sts[i + m]'(by omega)) := List.getElem?_eq_getElem _
  have hmem : sts[i + m]'(by omega) ∈ sts := List.getElem_mem _
  have hge' := hge (sts[i + m]'(by omega)) (by
   have : (sts.drop i)[m]? = some (sts[i + m]'(by omega)) := by rw [List.getElem?_drop, hst]
   exact List.mem_of_getElem? this)
  generalize (sts[i + m]'(by omega)) = st at hst hmem hge'
  have hsb := hb st hmem
  obtain ⟨_, _, hat⟩ := arrF (P := Tryz.prog) (i := i) s (j := 1) rfl (by simp only [intsL_len]; exact hi) Tryz.underlying98 sz3
  obtain ⟨id, off, e1, e2⟩ := hat m (.int .i64 (st : Int)) (by simp [intsL, hst])
  have htk : (sts.drop i).take (m + 1) = (sts.drop i).take m ++ [st] := by rw [List.take_add_one, List.getElem?_drop, hst]; rfl
  have hcast : ((st : Int) - (c : Int)) = ((st - c : Nat) : Int) := by omega
  refine WP.loop (WP.has hE (zg rfl (WPs.opT rfl rfl rfl (o_bin rfl rfl bLss) (by simp <;> omega) ?_)))
  refine zv (zw (zi rfl (WP.skip (zw (WP.block (zg rfl (zo rfl (o_ia (r := .ptr id off) rfl rfl e1) (zl rfl (e2 _ ag3) (za rfl (zv (zr rfl (zm rfl (zm rfl (zm rfl (zb rfl (by exact bSub (wrapS (by omega) (by omega))) ?_)))))))))))))))
  rw [hcast]
  obtain ⟨iv, h1, e1', s1⟩ := sat_bs1 (P := Tryz.prog) (k := 1) (x := .int .i64 ((st - c : Nat) : Int)) s Tryz.underlying98 zt3 sz3 rfl (by decide) (by decide) rfl rfl
  dsimp only [V.cells] at s1
  refine WPs.any rfl rfl rfl (OpR.of (R := fun v h' => v = iv ∧ h' = h1) (o_bs rfl e1') ⟨rfl, rfl⟩) ?_
  rintro v' h' ⟨rfl, rfl⟩
  obtain ⟨i1, hi1, hi2, hi3⟩ := info_int
  obtain ⟨av', h2, e2', s2⟩ := sat_appArr (s1.bringS [1, 0]) Tryz.underlying98 hi1 zt3 hi2 (by omega) rfl (by decide) (by simp only [intsL_len, List.length_map, List.length_take, List.length_drop, List.length_cons, List.length_nil]; omega)
  dsimp only [bringA, getA, delA] at s2
  refine WPs.any rfl rfl rfl (OpR.of (R := fun v h' => v = av' ∧ h' = h2) (o_app rfl rfl e2') ⟨rfl, rfl⟩) ?_
  rintro v' h' ⟨rfl, rfl⟩
  refine za rfl (zv (zr rfl (zb rfl (by exact bAdd (wrapS (by omega) (by omega))) ?_)))
  refine zm rfl (zv ?_)
  refine ih (m + 1) _ _ _ Q (by omega) ?_ ⟨rfl, rfl, rfl, rfl, rfl, rfl, rfl, trivial⟩ hx
  have e : intsL (((sts.drop i).take (m + 1)).map fun s => s - c) = intsL (((sts.drop i).take m).map fun s => s - c) ++ [.int .i64 ((st - c : Nat) : Int)] := by
   rw [htk, List.map_append]; simp [intsL]
  rw [e]
  exact s2.del 1
noncomputable def ctR : Code := pathC [1, 1] ((Tryz.f71.body).getD .skip)
theorem cut_rest (hT : W told) {n : Nat} {E : List (Nat × V)} {Q : Ex → List (Nat × V) → H → Prop} (s : Sat h (isLg q p μ :: isDk p δ :: S)) (hμ : μ.Ok) (hδ : δ.Ok) (h1 : μ.base ≤ n) (h2 : n ≤ μ.base + μ.forced) (hE : Has E [(0, .ptr q 0), (1, .int .u64 (n : Int))])
  (hq1 : ∀ E' h', (δ.cutF ((n - μ.base : Nat) : Int) (markB n μ.check)).1 ≠ 0 → look E' 4 = some (.int .i64 (δ.cutF ((n - μ.base : Nat) : Int) (markB n μ.check)).1) → Sat h' (isLg q p μ :: isDk p (δ.cutF ((n - μ.base : Nat) : Int) (markB n μ.check)).2 :: S) → Q .ret E' h')
  (hq2 : ∀ E' h', (δ.cutF ((n - μ.base : Nat) : Int) (markB n μ.check)).1 = 0 → look E' 4 = some (.int .i64 0) → Sat h' (isLg q p (μ.cut n) :: isDk p (δ.cutF ((n - μ.base : Nat) : Int) (markB n μ.check)).2 :: S) → Q .ret E' h') :
  WP ⟨Tryz.prog, told⟩ 121 ctR E h Q := by
 have hsize := hμ.size
 have hforced := hμ.forced
 have hlen := hμ.len
 have hn64 : n < 18446744073709551616 := by omega
 have hcast : ((n : Int) - (μ.base : Int)) = ((n - μ.base : Nat) : Int) := by omega
 obtain ⟨bv, sv, s⟩ := isLg_iff.1 s
 refine WP.has hE (zg rfl (zm rfl (zm rfl (zn rfl (zf rfl (fa111_1 _ _) (zl rfl (by exact s.ld (k := 0) rfl ag35 rfl) ?_))))))
 refine zb rfl (by exact bSub (wrapU (by omega) (by omega))) ?_
 refine zo rfl (o_conv rfl (by exact cvI Tryz.underlying35 Tryz.underlying3 (wrapS (by omega) (by omega)))) ?_
 refine za rfl (zv (zw (zw ?_)))
 rw [hcast]
 have s0 := s
 refine WP.drawn [some (0, 2), some (0, 2), some (0, 2), some (0, 2), some (0, 2), none, none, none, none, none, none, none, none, none] rfl (by kernel_rfl) (by kernel_rfl) ?_
 refine zM rfl (zN rfl (zF rfl (fa111_0 _ _) (zL rfl (by exact s.ld (k := 0) rfl ag23 rfl) ?_)))
 refine zM rfl (zM rfl (zM rfl (zM rfl (zN rfl (zF rfl (fa111_5 _ _) (zL rfl (by exact s.ld (k := 0) rfl ag35 rfl) ?_))))))
 refine WPt.any rfl rfl rfl rfl (OpR.call rfl rfl rfl rfl (lMarked_ct (q := q) (a := n) (b := μ.check) hT s)) ?_
 intro mv h s
 have s := s.bringS [1, 1, 1, 1, 0]
 dsimp only [lgC, bringA, getA, delA] at s
 have s1 := s
 refine WPt.any rfl rfl rfl rfl (OpR.call rfl rfl rfl rfl (dCutF (n := ((n - μ.base : Nat) : Int)) hT (s.bringS [3, 3]) (rd_buf _ _) hδ)) ?_
 rintro v h ⟨rfl, s⟩
 dsimp only [bringA, getA, delA] at s
 have s := (s.del 1).bringS [1, 1, 1, 0]
 dsimp only [delA, bringA, getA] at s
 refine zA rfl ?_
 refine WPt.nil ⟨⟨fun _ _ => .inr ⟨rfl, ⟨_, o_move rfl⟩, beqV _ rfl⟩, fun _ _ => .inr ⟨rfl, ⟨_, o_nil rfl⟩, beqV _ rfl⟩, fun _ _ => .inr ⟨rfl, ⟨_, o_fa rfl (fa111_0 _ _)⟩, beqV _ rfl⟩, heaps2 (.inr ⟨rfl, ⟨_, o_load rfl (by exact s0.ld (k := 0) rfl ag23 rfl)⟩, beqV _ rfl⟩) (.inr ⟨rfl, ⟨_, o_load rfl (by exact s1.ld (k := 0) rfl ag23 rfl)⟩, beqV _ rfl⟩), fun _ _ => .inr ⟨rfl, ⟨_, o_move rfl⟩, beqV _ rfl⟩, trivial, trivial, trivial, trivial, trivial, trivial, trivial, trivial, trivial, trivial⟩, ?_⟩
 refine zg rfl (zm rfl ?_)
 generalize hcf : δ.cutF ((n - μ.base : Nat) : Int) (markB n μ.check) = cf at s hq1 hq2
 by_cases he : cf.1 = 0
 ·skip
  refine WPs.opF rfl rfl rfl (o_bin rfl rfl bNeq) (by simp; exact he) ?_
  have s := isLg_iff.2 ⟨bv, sv, s⟩
  refine zv (zj rfl (WP.skip (zg rfl (zm rfl (zm rfl (WPs.call rfl rfl rfl rfl rfl rfl rfl (find_ct (n := n) hT s hμ hn64) ?_))))))
  rintro v h' ⟨rfl, i, hsp, rfl⟩
  obtain ⟨bv, sv, s⟩ := isLg_iff.1 s
  have hi := hsp.1
  have hcast2 : ((μ.starts.length : Int) - (i : Int)) = ((μ.starts.length - i : Nat) : Int) := by omega
  have hmany := hμ.many
  refine za rfl (zv (zg rfl (zm rfl (zn rfl (zf rfl (fa111_3 _ _) (zl rfl (by exact s.ld (k := 0) rfl ag98 rfl) ?_))))))
  refine zo rfl (o_len rfl rfl rfl (s.arrLen (n := μ.starts.length) (j := 2) rfl (by simp [intsL_len]) (by decide) Tryz.underlying98)) ?_
  refine zm rfl (zb rfl (by exact bSub (wrapS (by omega) (by omega))) ?_)
  rw [hcast2]
  obtain ⟨i1, hi1, hi2, hi3⟩ := info_int
  obtain ⟨nv, h1', e1, s1⟩ := sat_mkArr (P := Tryz.prog) s Tryz.underlying98 hi1 zt3 hi2 (by omega) rfl (by decide) (by decide) (n := 0) (c := μ.starts.length - i) (by omega) (by omega)
  dsimp only [repeatL] at s1
  refine WPs.any rfl rfl rfl (OpR.of (R := fun v h' => v = nv ∧ h' = h1') (o_mks rfl rfl e1) ⟨rfl, rfl⟩) ?_
  rintro v h' ⟨rfl, rfl⟩
  have s := s1.bringS [0, 2, 0, 0]
  dsimp only [bringA, getA, delA] at s
  have harr := arrF (P := Tryz.prog) (i := i) s (j := 1) rfl (by simp only [intsL_len]; exact hi) Tryz.underlying98 sz3
  have hal := harr.2.1
  rw [intsL_len] at hal
  refine za rfl (zv (zw (zg rfl (zm rfl (zn rfl (zf rfl (fa111_3 _ _) (zl rfl (by exact s.ld (k := 2) rfl ag98 rfl) ?_)))))))
  refine zm rfl (zo rfl (o_slice (p := some (.int .i64 (i : Int))) (q := none) (m := none) (p' := some i) (q' := none) (m' := none) rfl rfl rfl rfl (by rw [bnd_ok (by omega)]; rfl) rfl rfl harr.1) ?_)
  refine zo rfl (o_len rfl rfl rfl hal) (zm rfl (zv (WP.block ?_)))
  refine cut_loop hT (q := q) (t1 := .int .u64 (n : Int)) (i := i) (c := n - μ.base) (sts := μ.starts) hi (fun x hx => ?_) (by omega) (fun x hx => ?_) hmany (μ.starts.length - i) 0 _ _ _ _ (by omega) s ⟨rfl, rfl, rfl, rfl, rfl, rfl, rfl, trivial⟩ (fun nv' E' h' hE' s' => ?_)
  ·have := hμ.low x hx; omega
  ·obtain ⟨j, hj, rfl⟩ := List.mem_iff_getElem.1 hx
   have := hsp.2.2 (i + j) _ (Nat.le_add_right _ _) (by rw [List.getElem?_eq_getElem (by simp at hj; omega)])
   simp only [List.getElem_drop] at this ⊢
   omega
  ·have s := s'
   rw [← cutS_of hsp] at s
   have hnv := s.arrV (j := 0) rfl
   have hvb := (s.buf (k := 3) rfl).view
   have hsl := slice_from hvb (a := n - μ.base) (by omega)
   have hbb := beqView hvb
   have hsb := beqView hsl.2.1
   have hcast3 : ((μ.forced : Int) - ((n - μ.base : Nat) : Int)) = ((μ.forced - (n - μ.base) : Nat) : Int) := by omega
   refine WP.has hE' (zw ?_)
   have s0 := s
   refine WP.drawn [some (0, 2), some (0, 3), some (0, 4), some (0, 5), some (0, 2), none, none, none, none, none, none, none, some (0, 4), some (0, 2), some (0, 2), some (0, 2), some (0, 2), some (0, 5), some (0, 5), none, none, none, none, none, none, none, none, none, none, none, none] rfl (by kernel_rfl) (by kernel_rfl) ?_
   refine zM rfl (zM rfl (zM rfl (zM rfl (zM rfl (zM rfl (zN rfl (zF rfl (fa111_2 _ _) (zL rfl (by exact s.ld (k := 2) rfl ag32 rfl) ?_))))))))
   refine zM rfl (zO rfl (o_slice (p := some (.int .i64 ((n - μ.base : Nat) : Int))) (q := none) (m := none) (p' := some (n - μ.base)) (q' := none) (m' := none) rfl rfl rfl rfl (by rw [bnd_ok (by omega)]; rfl) rfl rfl hsl.1) ?_)
   refine WPt.any rfl rfl rfl rfl (OpR.call rfl rfl rfl rfl (bclone_ct hT (s.bringS [3]) (rd_from (rd_buf _ _) (by omega)) (by simp; omega))) ?_
   intro w h s
   dsimp only [bringA, getA, delA] at s
   have hw := (s.buf (k := 0) rfl).view.cells
   have s1 := s
   refine zM rfl (zM rfl (zN rfl (zF rfl (fa111_4 _ _) (zL rfl (by exact s.ld (k := 4) rfl ag3 rfl) ?_))))
   refine zM rfl (zO rfl (o_bin rfl rfl (by exact bSub (wrapS (by omega) (by omega)))) ?_)
   refine zN rfl (zF rfl (fa111_1 _ _) (WPt.any0 rfl rfl rfl (OpR.stS rfl rfl rfl (s.st1 (k := 4) rfl sz35 rfl (by decide) rfl rfl)) ?_))
   rintro v h ⟨rfl, s⟩
   dsimp only [lgC, Nat.reduceAdd, List.set, setA] at s
   have s2 := s
   refine zN rfl (zF rfl (fa111_2 _ _) (WPt.any0 rfl rfl rfl (OpR.stS rfl rfl rfl (s.st1 (k := 4) rfl sz32 rfl (by decide) hw.1 hw.2)) ?_))
   rintro v h ⟨rfl, s⟩
   dsimp only [Nat.reduceAdd, List.set, setA] at s
   have s3 := s
   refine zN rfl (zF rfl (fa111_3 _ _) (WPt.any0 rfl rfl rfl (OpR.stS rfl rfl rfl (s.st1 (k := 4) rfl sz98 rfl (by decide) hnv.1 hnv.2.1)) ?_))
   rintro v h ⟨rfl, s⟩
   dsimp only [Nat.reduceAdd, List.set, setA] at s
   have s4 := s
   refine zN rfl (zF rfl (fa111_4 _ _) (WPt.any0 rfl rfl rfl (OpR.stS rfl rfl rfl (s.st1 (k := 4) rfl sz3 rfl (by decide) rfl rfl)) ?_))
   rintro v h ⟨rfl, s⟩
   dsimp only [Nat.reduceAdd, List.set, setA] at s
   refine WPt.nil ⟨⟨fun _ _ => .inr ⟨rfl, ⟨_, o_move rfl⟩, beqV _ rfl⟩, fun _ _ => .inr ⟨rfl, ⟨_, o_move rfl⟩, beqV _ rfl⟩, fun _ _ => .inr ⟨rfl, ⟨_, o_move rfl⟩, beqV _ rfl⟩, fun _ _ => .inr ⟨rfl, ⟨_, o_move rfl⟩, beqV _ rfl⟩, fun _ _ => .inr ⟨rfl, ⟨_, o_move rfl⟩, beqV _ rfl⟩, trivial, trivial, trivial, trivial, trivial, trivial, trivial, fun _ _ => .inr ⟨rfl, ⟨_, o_move rfl⟩, hnv.2.2⟩, fun _ _ => .inr ⟨rfl, ⟨_, o_move rfl⟩, beqV _ rfl⟩, fun _ _ => .inr ⟨rfl, ⟨_, o_nil rfl⟩, beqV _ rfl⟩, fun _ _ => .inr ⟨rfl, ⟨_, o_fa rfl (fa111_4 _ _)⟩, beqV _ rfl⟩, heaps2 (.inr ⟨rfl, ⟨_, o_load rfl (by exact s0.ld (k := 2) rfl ag3 rfl)⟩, beqV _ rfl⟩) (.inr ⟨rfl, ⟨_, o_load rfl (by exact s1.ld (k := 4) rfl ag3 rfl)⟩, beqV _ rfl⟩), fun _ _ => .inr ⟨rfl, ⟨_, o_move rfl⟩, beqV _ rfl⟩, fun _ _ => .inr ⟨rfl, ⟨_, o_bin rfl rfl (by exact bSub (wrapS (by omega) (by omega)))⟩, beqV _ rfl⟩, trivial, trivial, trivial, trivial, trivial, trivial, trivial, trivial, trivial, trivial, trivial, trivial, trivial⟩, ?_⟩
   refine zg rfl (za rfl (zv (WP.ret ?_)))
   rw [hcast3] at s
   refine hq2 _ _ he rfl (isLg_iff.2 ⟨w, nv', ?_⟩)
   exact ((s.bringS [4, 0, 1, 2]).del 5).del 4
 ·skip
  refine WPs.opT rfl rfl rfl (o_bin rfl rfl bNeq) (by simp; exact he) ?_
  refine zv (zi rfl (zg rfl (zm rfl (za rfl (zv (WP.ret ?_))))))
  exact hq1 _ _ he rfl (isLg_iff.2 ⟨bv, sv, s⟩)
end
end Go.Proofs.YtconhghphklfjaaGreat.Am
namespace Go.Proofs.YtconhghphklfjaaGreat.Am
open Go
section
variable {told : Nat → Option (List V → H → Option (V × H))} {h : H} {S : List Assn} {X Y : Assn} {r k q p fid a g chk : Nat} {op v x u wh di : V} {l b was data data0 : List Nat} {μ : Lg} {δ : Dk}
theorem cut_ct (hT : W told) {n : Nat} (s : Sat h (isLg q p μ :: isDk p δ :: S)) (hμ : μ.Ok) (hδ : δ.Ok) (hn : n < 18446744073709551616) :
  Call ⟨Tryz.prog, told⟩ 71 [.ptr q 0, .int .u64 (n : Int)] h fun v h' => v = .int .i64 (cutLD (μ, δ) n).1 ∧ Sat h' (isLg q p (cutLD (μ, δ) n).2.1 :: isDk p (cutLD (μ, δ) n).2.2 :: S) := by
 have s0 := s
 have hsize := hμ.size
 have hforced := hμ.forced
 obtain ⟨bv, sv, s⟩ := isLg_iff.1 s
 refine Call.of_wp (hT.free _ rfl) Tryz.func71 rfl rfl (zg rfl (za rfl (zv (zw (zg rfl (zm rfl (zm rfl ?_)))))))
 have rest : ¬((n ≠ μ.base + μ.b.length ∧ μ.hasB n = false) ∨ μ.base + μ.forced < n ∨ (μ.check ≠ 0 ∧ μ.check < n)) → μ.base ≤ n → ∀ E : List (Nat × V), Has E [(0, .ptr q 0), (1, .int .u64 (n : Int))] →
   WP ⟨Tryz.prog, told⟩ 121 ctR E h fun ex E' h' => (match ex with | .exit _ => False | _ => True) ∧ ∃ v, resLE Tryz.prog E' h' [.tmp 4] = some v ∧ (v = .int .i64 (cutLD (μ, δ) n).1 ∧ Sat h' (isLg q p (cutLD (μ, δ) n).2.1 :: isDk p (cutLD (μ, δ) n).2.2 :: S)) := by
  intro hbad hle E hE
  refine cut_rest hT s0 hμ hδ hle (by omega) hE (fun E' h' h1 h2 s' => ?_) (fun E' h' h1 h2 s' => ?_)
  ·rw [cutLD, if_neg hbad, if_pos h1]
   exact ⟨trivial, _, res1 h2, rfl, s'⟩
  ·rw [cutLD, if_neg hbad, if_neg (by simpa using h1)]
   exact ⟨trivial, _, res1 h2, rfl, s'⟩
 refine WPs.call rfl rfl rfl rfl rfl rfl rfl (lEnd_ct hT s0 hμ.size) ?_
 rintro v h' ⟨rfl, rfl⟩
 by_cases he : n = μ.base + μ.b.length
 ·skip
  refine WPs.opF rfl rfl rfl (o_bin rfl rfl bNeq) (by simp; omega) ?_
  refine zm rfl (zx rfl (zx rfl (zx rfl (zx rfl (zp rfl (zm rfl (zm rfl (zm rfl (WPs.call rfl rfl rfl rfl rfl rfl rfl (lForced_ct hT s0 hμ.size hμ.forced) ?_)))))))))
  rintro v h' ⟨rfl, rfl⟩
  by_cases hf : μ.base + μ.forced < n
  ·skip
   refine WPs.opT rfl rfl rfl (o_bin rfl rfl bGtr) (by simp; omega) ?_
   refine zp rfl (zm rfl (zx rfl (zx rfl (zx rfl (zx rfl (zx rfl (zx rfl (zx rfl (zx rfl (zx rfl (zx rfl (zx rfl (zx rfl (zx rfl (zq rfl (zv (zi rfl (zg rfl (za rfl (zv ?_))))))))))))))))))))
   refine WP.ret ⟨trivial, _, rfl, ?_⟩
   rw [cutLD, if_pos (.inr (.inl hf))]
   exact ⟨rfl, s0⟩
  ·skip
   refine WPs.opF rfl rfl rfl (o_bin rfl rfl bGtr) (by simp; omega) ?_
   refine zp rfl (zm rfl (zm rfl (zn rfl (zf rfl (fa111_5 _ _) (zl rfl (by exact s.ld (k := 0) rfl ag35 rfl) ?_)))))
   by_cases hc : μ.check = 0
   ·skip
    refine WPs.opF rfl rfl rfl (o_bin rfl rfl bNeq) (by simp; omega) ?_
    refine zm rfl (zx rfl (zx rfl (zx rfl (zx rfl (zx rfl (zx rfl (zp rfl (zp rfl (zv (zj rfl ?_))))))))))
    have hbad : ¬((n ≠ μ.base + μ.b.length ∧ μ.hasB n = false) ∨ μ.base + μ.forced < n ∨ (μ.check ≠ 0 ∧ μ.check < n)) := by omega
    exact WP.skip (rest hbad (by omega) _ ⟨rfl, rfl, trivial⟩)
   ·skip
    refine WPs.opT rfl rfl rfl (o_bin rfl rfl bNeq) (by simp; omega) ?_
    refine zm rfl (zm rfl (zm rfl (zn rfl (zf rfl (fa111_5 _ _) (zl rfl (by exact s.ld (k := 0) rfl ag35 rfl) ?_)))))
    by_cases hcn : μ.check < n
    ·skip
     refine WPs.opT rfl rfl rfl (o_bin rfl rfl bGtr) (by simp; omega) ?_
     refine zq rfl (zp rfl (zv (zi rfl (zg rfl (za rfl (zv ?_))))))
     refine WP.ret ⟨trivial, _, rfl, ?_⟩
     rw [cutLD, if_pos (.inr (.inr ⟨hc, hcn⟩))]
     exact ⟨rfl, s0⟩
    ·skip
     refine WPs.opF rfl rfl rfl (o_bin rfl rfl bGtr) (by simp; omega) ?_
     refine zq rfl (zp rfl (zv (zj rfl ?_)))
     have hbad : ¬((n ≠ μ.base + μ.b.length ∧ μ.hasB n = false) ∨ μ.base + μ.forced < n ∨ (μ.check ≠ 0 ∧ μ.check < n)) := by omega
     exact WP.skip (rest hbad (by omega) _ ⟨rfl, rfl, trivial⟩)
 ·skip
  refine WPs.opT rfl rfl rfl (o_bin rfl rfl bNeq) (by simp; omega) ?_
  refine zm rfl (zm rfl (zm rfl (WPs.call rfl rfl rfl rfl rfl rfl rfl (lHas_ct (n := n) hT s0 hμ hn) ?_)))
  rintro v h' ⟨rfl, rfl⟩
  cases hh : μ.hasB n with
  | false =>
   refine zo rfl (o_un rfl rfl) (zq rfl (zm rfl (zx rfl (zx rfl (zx rfl (zx rfl (zq rfl (zm rfl (zx rfl (zx rfl (zx rfl (zx rfl (zx rfl (zx rfl (zx rfl (zx rfl (zx rfl (zx rfl (zx rfl (zx rfl (zx rfl (zq rfl (zv (zi rfl ?_))))))))))))))))))))))))
   refine zg rfl (za rfl (zv ?_))
   refine WP.ret ⟨trivial, _, rfl, ?_⟩
   rw [cutLD, if_pos (.inl ⟨he, hh⟩)]
   exact ⟨rfl, s0⟩
  | true =>
   refine zo rfl (o_un rfl rfl) (zq rfl (zm rfl (zm rfl (zm rfl (WPs.call rfl rfl rfl rfl rfl rfl rfl (lForced_ct hT s0 hμ.size hμ.forced) ?_)))))
   rintro v h' ⟨rfl, rfl⟩
   by_cases hf : μ.base + μ.forced < n
   ·skip
    refine WPs.opT rfl rfl rfl (o_bin rfl rfl bGtr) (by simp; omega) ?_
    refine zp rfl (zm rfl (zx rfl (zx rfl (zx rfl (zx rfl (zx rfl (zx rfl (zx rfl (zx rfl (zx rfl (zx rfl (zx rfl (zx rfl (zx rfl (zq rfl (zv (zi rfl (zg rfl (za rfl (zv ?_))))))))))))))))))))
    refine WP.ret ⟨trivial, _, rfl, ?_⟩
    rw [cutLD, if_pos (.inr (.inl hf))]
    exact ⟨rfl, s0⟩
   ·skip
    refine WPs.opF rfl rfl rfl (o_bin rfl rfl bGtr) (by simp; omega) ?_
    refine zp rfl (zm rfl (zm rfl (zn rfl (zf rfl (fa111_5 _ _) (zl rfl (by exact s.ld (k := 0) rfl ag35 rfl) ?_)))))
    by_cases hc : μ.check = 0
    ·skip
     refine WPs.opF rfl rfl rfl (o_bin rfl rfl bNeq) (by simp; omega) ?_
     refine zm rfl (zx rfl (zx rfl (zx rfl (zx rfl (zx rfl (zx rfl (zp rfl (zp rfl (zv (zj rfl ?_))))))))))
     have hbad : ¬((n ≠ μ.base + μ.b.length ∧ μ.hasB n = false) ∨ μ.base + μ.forced < n ∨ (μ.check ≠ 0 ∧ μ.check < n)) := by simp [hh]; omega
     exact WP.skip (rest hbad (hasB_le hh) _ ⟨rfl, rfl, trivial⟩)
    ·skip
     refine WPs.opT rfl rfl rfl (o_bin rfl rfl bNeq) (by simp; omega) ?_
     refine zm rfl (zm rfl (zm rfl (zn rfl (zf rfl (fa111_5 _ _) (zl rfl (by exact s.ld (k := 0) rfl ag35 rfl) ?_)))))
     by_cases hcn : μ.check < n
     ·skip
      refine WPs.opT rfl rfl rfl (o_bin rfl rfl bGtr) (by simp; omega) ?_
      refine zq rfl (zp rfl (zv (zi rfl (zg rfl (za rfl (zv ?_))))))
      refine WP.ret ⟨trivial, _, rfl, ?_⟩
      rw [cutLD, if_pos (.inr (.inr ⟨hc, hcn⟩))]
      exact ⟨rfl, s0⟩
     ·skip
      refine WPs.opF rfl rfl rfl (o_bin rfl rfl bGtr) (by simp; omega) ?_
      refine zq rfl (zp rfl (zv (zj rfl ?_)))
      have hbad : ¬((n ≠ μ.base + μ.b.length ∧ μ.hasB n = false) ∨ μ.base + μ.forced < n ∨ (μ.check ≠ 0 ∧ μ.check < n)) := by simp [hh]; omega
      exact WP.skip (rest hbad (hasB_le hh) _ ⟨rfl, rfl, trivial⟩)
end
end Go.Proofs.YtconhghphklfjaaGreat.Am
namespace Go.Proofs.YtconhghphklfjaaGreat.Am
open Go
def lowF (π : Pl) : List Int → Nat → Nat
 | [], m => m
 | n :: l, m => lowF π l (min m (dirtOf π n 0))
theorem lowF_le (π : Pl) : ∀ (l : List Int) (m : Nat), lowF π l m ≤ m := by
 intro l
 induction l with
 | nil => intro m; exact Nat.le_refl _
 | cons n l ih => intro m; exact Nat.le_trans (ih _) (Nat.min_le_left _ _)
theorem dirtC_row (π : Pl) : ∀ {l : List Int} {i : Nat} {n : Int}, l[i]? = some n → ((dirtC π l).drop (i * 2)).take 2 = [.int .i64 n, .int .u64 (dirtOf π n 0 : Nat)] := by
 intro l
 induction l with
 | nil => intro i n h; simp at h
 | cons x l ih =>
  intro i n h
  cases i with
  | zero => simp at h; subst h; rfl
  | succ i =>
   rw [List.getElem?_cons_succ] at h
   rw [show (i + 1) * 2 = i * 2 + 2 by omega]
   exact ih h
section
variable {told : Nat → Option (List V → H → Option (V × H))} {h : H} {S : List Assn} {X Y : Assn} {r k q p fid a g chk : Nat} {op v x u wh di : V} {l b was data data0 : List Nat} {now : List (Int × List Nat)} {over : Bool} {ε : Eng} {μ : Lg} {δ : Dk} {π : Pl}
noncomputable def ckL : Code := pathC [1, 1, 1, 0, 1, 0, 0] ((Tryz.f25.body).getD .skip)
theorem ck_loop (hT : W told) {ks : List Int} {av t1 t2 : V} (hks : ks.length ≤ 1048576) : ∀ (j i : Nat) (low : Nat) (h : H) (E : List (Nat × V)) (Q : Ex → List (Nat × V) → H → Prop), i + j = ks.length →
  Sat h (.arr 2 av (dirtC π ks) :: S) → Has E [(0, .ptr a 0), (1, t1), (2, t2), (7, .int .u64 (low : Int)), (40, av), (41, .int .i64 ks.length), (42, .int .i64 i)] →
  (∀ E' h', Has E' [(0, .ptr a 0), (1, t1), (2, t2), (7, .int .u64 (lowF π (ks.drop i) low : Nat))] → Sat h' (.arr 2 av (dirtC π ks) :: S) → Q (.exit 1) E' h') →
  WP ⟨Tryz.prog, told⟩ 118 (.loop ckL) E h Q := by
 intro j
 induction j with
 | zero =>
  intro i low h E Q hi s hE hx
  refine WP.loop (WP.has hE (zg rfl (WPs.opF rfl rfl rfl (o_bin rfl rfl bLss) (by simp <;> omega) ?_)))
  refine zv (zw (zj rfl (WP.exit ?_)))
  rw [List.drop_eq_nil_of_le (by omega)] at hx
  exact hx _ _ ⟨rfl, rfl, rfl, rfl, trivial⟩ s
 | succ j ih =>
  intro i low h E Q hi s hE hx
  have hn : ks[i]? = some (ks[i]'(by omega)) := List.getElem?_eq_getElem _
  have hdrop : ks.drop i = ks[i]'(by omega) :: ks.drop (i + 1) := List.drop_eq_getElem_cons (by omega)
  generalize (ks[i]'(by omega)) = n at hn hdrop
  rw [hdrop] at hx
  have hrow := dirtC_row π hn
  obtain ⟨id, off, g1, g2⟩ := arr_at (P := Tryz.prog) (i := i) s (j := 0) rfl (by rw [dirtC_len]; omega) (by decide) Tryz.underlying127 sz130
  have g2 := g2 ag130
  rw [hrow] at g2
  have hmin : min (low : Int) ((dirtOf π n 0 : Nat) : Int) = ((min low (dirtOf π n 0) : Nat) : Int) := by omega
  refine WP.loop (WP.has hE (zg rfl (WPs.opT rfl rfl rfl (o_bin rfl rfl bLss) (by simp <;> omega) ?_)))
  refine zv (zw (zi rfl (WP.skip (zw (WP.block (zg rfl (zo rfl (o_ia (r := .ptr id off) rfl rfl g1) (zl rfl g2 ?_))))))))
  refine WPs.newS s rfl rfl rfl (o_alloc zt130) (fun p9 h s => ?_)
  dsimp only [V.cells, List.length_cons, List.length_nil, Nat.reduceAdd] at s
  refine WPs.stS rfl rfl rfl rfl rfl (by exact s.stA (j := 0) rfl sz130 rfl rfl) (fun h s => ?_)
  dsimp only [setA] at s
  refine zv (zr rfl (zm rfl (zf rfl (fa130_1 _ _) (zl rfl (by exact s.ld (k := 0) rfl ag35 rfl) ?_))))
  refine zo rfl (o_bi rfl rfl min1) ?_
  rw [hmin]
  refine za rfl (zv (zr rfl (zb rfl (by exact bAdd (wrapS (by omega) (by omega))) ?_)))
  refine zm rfl (zv ?_)
  exact ih (i + 1) _ _ _ Q (by omega) (s.del 0) ⟨rfl, rfl, rfl, rfl, rfl, rfl, rfl, trivial⟩ hx
end
end Go.Proofs.YtconhghphklfjaaGreat.Am
