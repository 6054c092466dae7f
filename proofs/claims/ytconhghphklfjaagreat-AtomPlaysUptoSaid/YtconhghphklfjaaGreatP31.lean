/- Whatever groups are done and dropped, written out and checkpointed between, each page is as the groups that were done made it; the conditions are those of the given statement, for arguments that a machine can hold. Part 31 of 49. -/
import Derived.Test.YtconhghphklfjaaGreatP30
namespace Go.Proofs.YtconhghphklfjaaGreat.Am
open Go
def recG (lsn : Nat) (b : List Nat) : List Nat := le 4 b.length ++ le 4 (sumAt lsn b) ++ b
theorem recG_len (lsn : Nat) (b : List Nat) : (recG lsn b).length = 8 + b.length := by simp [recG, le_len]; omega
theorem info_int : ∃ i, Tryz.prog.info? 3 = some i ∧ i.size = 1 ∧ i.bytes = 8 :=
 ⟨_, (show Tryz.prog.info? 3 = some ((Tryz.prog.info? 3).getD default) by kernel_rfl), by kernel_rfl, by kernel_rfl⟩
section
variable {told : Nat → Option (List V → H → Option (V × H))} {h : H} {S : List Assn} {X : Assn} {k q p : Nat} {v w : V} {l m : List Nat} {μ : Lg} {δ : Dk}
theorem summed_ct (hT : W told) {n : Nat} (s : Sat h S) (hk : getA S k = some X) (hX : Ent X (rdB v l)) (hl : l.length ≤ 4611686018427387904) :
  Call ⟨Tryz.prog, told⟩ 100 [.int .u64 (n : Int), v] h fun r h' => r = .int .u32 (sumAt n l : Nat) ∧ Sat h' S :=
 (summed_do hT.std s.wf (s.viewX hk hX) hl).mono fun _ _ ⟨h1, h2⟩ => ⟨h1, s.keep h2⟩
structure RecFit (tx pv nx : Nat) (data : List Nat) (chs : List Chg) : Prop where
 fit : chsFit chs
 tx : tx < 18446744073709551616
 pv : pv < 18446744073709551616
 nx : nx < 18446744073709551616
 len : data.length + (chs.flatMap encC).length ≤ 70368744177664
theorem wBytes_ct (hT : W told) {kd : Int} {tx pv nx lsn : Nat} {dt ch : V} {cs : List V} {data : List Nat} {chs : List Chg} (s : Sat h (X :: .arr 4 ch cs :: chgA cs chs :: S)) (hX : Ent X (rdB dt data)) (hfit : RecFit tx pv nx data chs) :
  Call ⟨Tryz.prog, told⟩ 88 [.agg (rcC kd tx pv nx dt ch), .int .u64 (lsn : Int)] h fun r h' =>
  (goodR kd chs = false ∧ r = .tup [.sl0, .int .i64 1] ∧ Sat h' (X :: .arr 4 ch cs :: chgA cs chs :: S)) ∨
  (goodR kd chs = true ∧ 1048576 < (bodyG kd tx pv nx data chs).length ∧ r = .tup [.sl0, .int .i64 2] ∧ Sat h' (X :: .arr 4 ch cs :: chgA cs chs :: S)) ∨
  (goodR kd chs = true ∧ (bodyG kd tx pv nx data chs).length ≤ 1048576 ∧ ∃ u, r = .tup [u, .int .i64 0] ∧ Sat h' (bufA u (recG lsn (bodyG kd tx pv nx data chs)) :: X :: .arr 4 ch cs :: chgA cs chs :: S)) := by
 have hch := s.arrV (j := 1) rfl
 have hdt := s.viewX (k := 0) rfl hX
 have hst := rcC_st (kd := kd) (tx := tx) (pv := pv) (nx := nx) hdt.cells.2 hch.2.1
 refine Call.of_wp (hT.free _ rfl) Tryz.func88 rfl rfl (zg rfl (WPs.newS s rfl rfl rfl (o_box rfl hst) ?_))
 intro p1 h s
 dsimp only [V.cells] at s
 refine za rfl (za rfl (zv (zw (zg rfl (zl rfl (by exact s.ldA (k := 0) rfl ag40 sz40) ?_)))))
 refine WPs.call rfl rfl rfl rfl rfl rfl rfl (wgood_ct hT (s.bringS [2, 2]) hdt.cells.2 hfit.fit) ?_
 rintro r h' ⟨rfl, s⟩
 dsimp only [bringA, getA, delA] at s
 cases hg : goodR kd chs with
 | false =>
  refine zo rfl (o_un rfl rfl) (zv (zi rfl (zg rfl (za rfl (za rfl (zv ?_))))))
  refine WP.ret ⟨trivial, _, rfl, ?_⟩
  exact .inl ⟨rfl, rfl, (s.bringS [3, 0, 0]).del 3⟩
 | true =>
  refine zo rfl (o_un rfl rfl) (zv (zj rfl (WP.skip (zg rfl (zl rfl (by exact s.ldA (k := 2) rfl ag40 sz40) ?_)))))
  have hk : ∃ n : Nat, kd = n := ⟨kd.toNat, by simp [goodR] at hg; omega⟩
  obtain ⟨kd, rfl⟩ := hk
  refine WPs.call rfl rfl rfl rfl rfl rfl rfl (wbody_ct hT (s.bringS [3, 0, 0]) hX hg hfit.fit hfit.tx hfit.pv hfit.nx hfit.len) ?_
  intro u h s
  dsimp only [bringA, getA, delA] at s
  have hbl : (bodyG kd tx pv nx data chs).length < 9223372036854775808 := by
   have h1 := digits_len 9 tx
   have h2 := digits_len 9 pv
   have h3 := digits_len 9 nx
   have h4 := digits_len 9 data.length
   have h5 := digits_len 9 chs.length
   have h6 := hfit.len
   simp only [bodyG, List.length_append, List.length_cons, List.length_nil]
   omega
  generalize hbe : bodyG kd tx pv nx data chs = bd at s hbl ⊢
  refine za rfl (zv (zw (zg rfl (zm rfl (zo rfl (o_len rfl rfl rfl (by exact len_view Tryz.underlying32 (s.viewX (k := 0) rfl (rd_buf _ _)))) ?_)))))
  by_cases hbig : 1048576 < bd.length
  ·skip
   refine WPs.opT rfl rfl rfl (o_bin rfl rfl bGtr) (by simp; omega) ?_
   refine zv (zi rfl (zg rfl (za rfl (za rfl (zv ?_)))))
   refine WP.ret ⟨trivial, _, rfl, ?_⟩
   exact .inr (.inl ⟨rfl, hbig, rfl, (s.del 4).del 0⟩)
  ·skip
   refine WPs.opF rfl rfl rfl (o_bin rfl rfl bGtr) (by simp; omega) ?_
   refine zv (zj rfl (WP.skip (zg rfl (zm rfl (zo rfl (o_len rfl rfl rfl (by exact len_view Tryz.underlying32 (s.viewX (k := 0) rfl (rd_buf _ _)))) ?_)))))
   refine zb rfl (by exact bAdd (wrapS (by omega) (by omega))) ?_
   refine WPs.any rfl rfl rfl (OpR.make0S (c := 8 + bd.length) rfl s rfl rfl rfl rfl (by omega)) ?_
   intro v h s
   refine zm rfl (zo rfl (o_len rfl rfl rfl (by exact len_view Tryz.underlying32 (s.viewX (k := 1) rfl (rd_buf _ _)))) ?_)
   refine zo rfl (o_conv rfl (by exact cvI Tryz.underlying3 Tryz.underlying35 (wrapU (by omega) (by omega)))) ?_
   refine WPs.call rfl rfl rfl rfl rfl rfl rfl (lay_ct (z := 4) hT s (by decide) (by simp)) ?_
   intro v h s
   have hlt := (s.buf (k := 1) rfl).1
   refine za rfl (zv (zg rfl (zm rfl (zm rfl (zm rfl (WPs.call rfl rfl rfl rfl rfl rfl rfl (summed_ct (n := lsn) hT s (k := 1) rfl (rd_buf _ _) (by omega)) ?_))))))
   rintro r h ⟨rfl, s⟩
   have hsl := sumAt_lt (lsn := lsn) hlt
   refine zo rfl (o_conv rfl (by exact cvI Tryz.underlying155 Tryz.underlying35 (wrapU (by omega) (by omega)))) ?_
   refine WPs.call rfl rfl rfl rfl rfl rfl rfl (lay_ct (z := 4) hT s (by decide) (by simp [le_len])) ?_
   intro v h s
   refine za rfl (zv (zg rfl (zm rfl (zm rfl (WPs.any rfl rfl rfl (OpR.appB rfl s (rd_buf _ _) rfl rfl rfl rfl (by simp only [List.length_append, le_len, List.length_nil]; omega)) ?_)))))
   intro v h s
   refine za rfl (za rfl (zv ?_))
   refine WP.ret ⟨trivial, _, rfl, ?_⟩
   refine .inr (.inr ⟨rfl, by omega, v, rfl, ?_⟩)
   have s := (s.del 5).del 1
   dsimp only [delA] at s
   simpa [recG, List.append_assoc] using s
def Lg.app (μ : Lg) (b : List Nat) : Lg := { μ with b := μ.b ++ b, starts := μ.starts ++ [μ.b.length] }
theorem lAppend_ct (hT : W told) {kd : Int} {tx pv nx : Nat} {dt ch : V} {cs : List V} {data : List Nat} {chs : List Chg} (s : Sat h (isLg q p μ :: isDk p δ :: X :: .arr 4 ch cs :: chgA cs chs :: S)) (hX : Ent X (rdB dt data)) (hfit : RecFit tx pv nx data chs)
  (hμ : μ.Ok) (hf : δ.fuse < 4294967296) (hl : δ.log.length ≤ 16777216) (hr : δ.room ≤ 16777216) :
  Call ⟨Tryz.prog, told⟩ 48 [.ptr q 0, .agg (rcC kd tx pv nx dt ch)] h fun r h' =>
  (∃ e : Int, r = .tup [.int .u64 0, .int .i64 e] ∧ ((goodR kd chs = false ∧ e = 1) ∨ (goodR kd chs = true ∧ 1048576 < (bodyG kd tx pv nx data chs).length ∧ e = 2) ∨ (goodR kd chs = true ∧ (bodyG kd tx pv nx data chs).length ≤ 1048576 ∧ δ.dead = true ∧ e = 9) ∨
    (goodR kd chs = true ∧ (bodyG kd tx pv nx data chs).length ≤ 1048576 ∧ δ.dead = false ∧ δ.room < δ.log.length + (recG (μ.base + μ.b.length) (bodyG kd tx pv nx data chs)).length ∧ e = 7)) ∧ Sat h' (isLg q p μ :: isDk p δ :: X :: .arr 4 ch cs :: chgA cs chs :: S)) ∨
  (goodR kd chs = true ∧ (bodyG kd tx pv nx data chs).length ≤ 1048576 ∧ δ.dead = false ∧ δ.log.length + (recG (μ.base + μ.b.length) (bodyG kd tx pv nx data chs)).length ≤ δ.room ∧ δ.fuse = 0 ∧ r = .tup [.int .u64 0, .int .i64 9] ∧
   Sat h' (isLg q p μ :: isDk p { δ.die with tail := recG (μ.base + μ.b.length) (bodyG kd tx pv nx data chs) } :: X :: .arr 4 ch cs :: chgA cs chs :: S)) ∨
  (goodR kd chs = true ∧ (bodyG kd tx pv nx data chs).length ≤ 1048576 ∧ δ.dead = false ∧ δ.log.length + (recG (μ.base + μ.b.length) (bodyG kd tx pv nx data chs)).length ≤ δ.room ∧ δ.fuse ≠ 0 ∧ r = .tup [.int .u64 ((μ.base + μ.b.length : Nat) : Int), .int .i64 0] ∧
   Sat h' (isLg q p (μ.app (recG (μ.base + μ.b.length) (bodyG kd tx pv nx data chs))) :: isDk p { δ.cnt with log := δ.log ++ recG (μ.base + μ.b.length) (bodyG kd tx pv nx data chs) } :: X :: .arr 4 ch cs :: chgA cs chs :: S)) := by
 have hch := s.arrV (j := 3) rfl
 have hdt := s.viewX (k := 2) rfl hX
 have hst := rcC_st (kd := kd) (tx := tx) (pv := pv) (nx := nx) hdt.cells.2 hch.2.1
 have hsize := hμ.size
 refine Call.of_wp (hT.free _ rfl) Tryz.func48 rfl rfl (zg rfl (WPs.newS s rfl rfl rfl (o_box rfl hst) ?_))
 intro p1 h s
 dsimp only [V.cells] at s
 have s := s.bringS [1, 0]
 dsimp only [bringA, getA, delA] at s
 refine za rfl (za rfl (zv (zg rfl (zm rfl (WPs.call rfl rfl rfl rfl rfl rfl rfl (lEnd_ct hT s hμ.size) ?_)))))
 rintro v h' ⟨rfl, rfl⟩
 refine za rfl (zv (zg rfl (zl rfl (by exact s.ldA (k := 1) rfl ag40 sz40) ?_)))
 refine zm rfl (WPs.call rfl rfl rfl rfl rfl rfl rfl (wBytes_ct (lsn := μ.base + μ.b.length) hT (s.bringS [3, 3, 3]) hX hfit) ?_)
 generalize hrc : recG (μ.base + μ.b.length) (bodyG kd tx pv nx data chs) = rc
 have hrl : rc.length = 8 + (bodyG kd tx pv nx data chs).length := by rw [← hrc, recG_len]
 rintro r h' (⟨hg, rfl, s⟩ | ⟨hg, hbig, rfl, s⟩ | ⟨hg, hsm, u, rfl, s⟩)
 ·dsimp only [bringA, getA, delA] at s
  refine zm rfl (ze rfl (ze rfl (za rfl (za rfl (zv (zw (zg rfl (zm rfl (WPs.opT rfl rfl rfl (o_bin rfl rfl bNeq) (rfl) (zv (zi rfl (zg rfl (zm rfl (za rfl (za rfl (zv ?_))))))))))))))))
  refine WP.ret ⟨trivial, _, rfl, ?_⟩
  exact .inl ⟨1, rfl, .inl ⟨hg, rfl⟩, (s.bringS [3, 4, 0, 0, 0]).del 5⟩
 ·dsimp only [bringA, getA, delA] at s
  refine zm rfl (ze rfl (ze rfl (za rfl (za rfl (zv (zw (zg rfl (zm rfl (WPs.opT rfl rfl rfl (o_bin rfl rfl bNeq) (rfl) (zv (zi rfl (zg rfl (zm rfl (za rfl (za rfl (zv ?_))))))))))))))))
  refine WP.ret ⟨trivial, _, rfl, ?_⟩
  exact .inl ⟨2, rfl, .inr (.inl ⟨hg, hbig, rfl⟩), (s.bringS [3, 4, 0, 0, 0]).del 5⟩
 ·dsimp only [bringA, getA, delA] at s
  have hlt := (s.buf (k := 0) rfl).1
  obtain ⟨bid, _, cap, _, rfl, _⟩ := s.openBuf (by omega)
  obtain ⟨bv, sv, s⟩ := isLg_iff.1 (s.bringS [4])
  dsimp only [bringA, getA, delA] at s
  refine zm rfl (ze rfl (ze rfl (za rfl (za rfl (zv (zw (zg rfl (zm rfl (WPs.opF rfl rfl rfl (o_bin rfl rfl bNeq) (rfl) (zv (zj rfl (WP.skip (zw (zg rfl (zm rfl (zn rfl (zf rfl (fa111_0 _ _) (zl rfl (by exact s.ld (k := 0) rfl ag23 rfl) ?_))))))))))))))))))
  refine zm rfl ?_
  have s := s.bringS [8, 3]
  dsimp only [bringA, getA, delA] at s
  refine WPs.call rfl rfl rfl rfl rfl rfl rfl (dAppend_ct hT s (rd_buf _ _) (by omega) hf (by omega) (by omega)) ?_
  rintro r h (⟨hd, rfl, s⟩ | ⟨hd, hfull, rfl, s⟩ | ⟨hd, hfits, h0, rfl, s⟩ | ⟨hd, hfits, h0, rfl, s⟩)
  ·refine WPs.op rfl rfl rfl (o_assign rfl) ?_
   refine zv (zg rfl (zm rfl (WPs.opT rfl rfl rfl (o_bin rfl rfl bNeq) (rfl) (zv (zi rfl (zg rfl (zm rfl (za rfl (za rfl (zv ?_))))))))))
   refine WP.ret ⟨trivial, _, rfl, ?_⟩
   exact .inl ⟨9, rfl, .inr (.inr (.inl ⟨hg, hsm, hd, rfl⟩)), (isLg_iff.2 ⟨bv, sv, ((s.bringS [2, 2, 2, 0, 1, 1, 1]).del 8).del 7⟩)⟩
  ·skip
   refine za rfl (zv (zg rfl (zm rfl (WPs.opT rfl rfl rfl (o_bin rfl rfl bNeq) (rfl) (zv (zi rfl (zg rfl (zm rfl (za rfl (za rfl (zv ?_)))))))))))
   refine WP.ret ⟨trivial, _, rfl, ?_⟩
   exact .inl ⟨7, rfl, .inr (.inr (.inr ⟨hg, hsm, hd, by omega, rfl⟩)), (isLg_iff.2 ⟨bv, sv, ((s.bringS [2, 2, 2, 0, 1, 1, 1]).del 8).del 7⟩)⟩
  ·skip
   refine za rfl (zv (zg rfl (zm rfl (WPs.opT rfl rfl rfl (o_bin rfl rfl bNeq) (rfl) (zv (zi rfl (zg rfl (zm rfl (za rfl (za rfl (zv ?_)))))))))))
   refine WP.ret ⟨trivial, _, rfl, ?_⟩
   exact .inr (.inl ⟨hg, hsm, hd, hfits, h0, rfl, (isLg_iff.2 ⟨bv, sv, ((s.bringS [2, 2, 2, 0, 1, 1, 1]).del 8).del 7⟩)⟩)
  ·skip
   have s := s.bringS [2, 2, 2, 1, 0, 0, 0, 0]
   dsimp only [bringA, getA, delA] at s
   refine za rfl (zv (zg rfl (zm rfl (WPs.opF rfl rfl rfl (o_bin rfl rfl bNeq) (rfl) (zv (zj rfl (WP.skip (zw ?_))))))))
   have s0 := s
   have hbb := beqView (s.buf (k := 1) rfl).view
   have hsb := (s.arrV (j := 2) rfl).2.2
   refine WP.drawn [some (0, 3), some (0, 2), some (0, 2), some (0, 2), some (0, 2), none, none, none, none, none, none, none, none, none, none] rfl (by kernel_rfl) (by kernel_rfl) ?_
   refine zM rfl (zM rfl (zN rfl (zF rfl (fa111_3 _ _) (zL rfl (by exact s.ld (k := 0) rfl ag98 rfl) ?_))))
   refine zM rfl (zN rfl (zF rfl (fa111_2 _ _) (zL rfl (by exact s.ld (k := 0) rfl ag32 rfl) ?_)))
   refine zO rfl (o_len rfl rfl rfl (by exact len_view Tryz.underlying32 (s.viewX (k := 1) rfl (rd_buf _ _)))) ?_
   obtain ⟨i1, hi1, hi2, hi3⟩ := info_int
   obtain ⟨iv, h1, e1, s1⟩ := sat_bs1 (P := Tryz.prog) (k := 1) (x := .int .i64 (μ.b.length : Int)) s Tryz.underlying98 zt3 sz3 rfl (by decide) (by decide) rfl rfl
   dsimp only [V.cells] at s1
   refine WPt.any rfl rfl rfl rfl (OpR.of (R := fun v h' => v = iv ∧ h' = h1) (o_bs rfl e1) ⟨rfl, rfl⟩) ?_
   rintro v h' ⟨rfl, rfl⟩
   have hmany := hμ.many
   obtain ⟨sv', h2, e2, s2⟩ := sat_appArr (s1.bringS [3, 0]) Tryz.underlying98 hi1 zt3 hi2 (by omega) rfl (by decide) (by simp only [intsL_len, List.length_cons, List.length_nil]; omega)
   dsimp only [bringA, getA, delA] at s2
   refine WPt.any rfl rfl rfl rfl (OpR.of (R := fun v h' => v = sv' ∧ h' = h2) (o_app rfl rfl e2) ⟨rfl, rfl⟩) ?_
   rintro v h' ⟨rfl, rfl⟩
   have hv := s2.arrV (j := 0) rfl
   refine zN rfl (zF rfl (fa111_3 _ _) (WPt.any0 rfl rfl rfl (OpR.stS rfl rfl rfl (s2.st1 (k := 2) rfl sz98 rfl (by decide) hv.1 hv.2.1)) ?_))
   rintro v h ⟨rfl, s⟩
   dsimp only [lgC, rcC, List.length_cons, List.length_nil, Nat.reduceAdd, List.set, setA] at s
   refine WPt.nil ⟨⟨fun _ _ => .inr ⟨rfl, ⟨_, o_move rfl⟩, beqV _ rfl⟩, fun _ _ => .inr ⟨rfl, ⟨_, o_move rfl⟩, beqV _ rfl⟩, fun _ _ => .inr ⟨rfl, ⟨_, o_nil rfl⟩, beqV _ rfl⟩, fun _ _ => .inr ⟨rfl, ⟨_, o_fa rfl (fa111_3 _ _)⟩, beqV _ rfl⟩, heaps2 (.inr ⟨rfl, ⟨_, o_load rfl (by exact s0.ld (k := 0) rfl ag98 rfl)⟩, hsb⟩) (.inr ⟨rfl, ⟨_, o_load rfl (by exact s1.ld (k := 1) rfl ag98 rfl)⟩, hsb⟩), trivial, trivial, trivial, trivial, trivial, trivial, trivial, trivial, trivial, trivial, trivial⟩, ?_⟩
   refine zg rfl (zm rfl (zm rfl (zn rfl (zf rfl (fa111_2 _ _) (zl rfl (by exact s.ld (k := 2) rfl ag32 rfl) ?_)))))
   refine zm rfl (WPs.any rfl rfl rfl (OpR.appB rfl (s.bringS [3, 3]) (rd_buf _ _) rfl rfl rfl rfl (by have := hμ.len; omega)) ?_)
   intro bv' h s
   have hv := (s.buf (k := 0) rfl).view.cells
   dsimp only [bringA, getA, delA] at s
   refine zn rfl (zf rfl (fa111_2 _ _) (WPs.stS rfl rfl rfl rfl rfl (s.st1 (k := 4) rfl sz32 rfl (by decide) hv.1 hv.2) ?_))
   intro h s
   dsimp only [Nat.reduceAdd, List.set, setA] at s
   refine zv (zg rfl (zm rfl (za rfl (za rfl (zv ?_)))))
   refine WP.ret ⟨trivial, _, rfl, ?_⟩
   refine .inr (.inr ⟨hg, hsm, hd, hfits, h0, rfl, isLg_iff.2 ⟨bv', v, ?_⟩⟩)
   have s := (((s.bringS [4, 0, 1]).del 4).del 3).del 7
   dsimp only [bringA, getA, delA] at s
   have e : intsL (μ.app rc).starts = intsL μ.starts ++ [.int .i64 (μ.b.length : Int)] := by simp [Lg.app, intsL]
   rw [e]
   exact s
end
end Go.Proofs.YtconhghphklfjaaGreat.Am
namespace Go.Proofs.YtconhghphklfjaaGreat.Am
open Go
def Dk.forceF (δ : Dk) : Int × Dk := if δ.dead = true then (9, δ) else if δ.fuse = 0 then (9, δ.die) else (0, { δ.cnt with certain := δ.log.length })
def Dk.writeF (δ : Dk) (n : Int) (b : List Nat) : Int × Dk := if δ.dead = true then (9, δ) else if ¬(0 ≤ n ∧ n < δ.pages.length ∧ b.length = 512) then (1, δ) else
 if δ.fuse = 0 then (9, { δ.die with torn := some (n.toNat, b) }) else (0, δ.wr n b)
def Dk.markF (δ : Dk) (b : List Nat) : Int × Dk := if δ.dead = true then (9, δ) else if 64 < b.length then (1, δ) else if δ.fuse = 0 then (9, δ.die) else (0, { δ.cnt with mark := b })
def Dk.appendF (δ : Dk) (b : List Nat) : Int × Dk := if δ.dead = true then (9, δ) else if δ.room < δ.log.length + b.length then (7, δ) else if δ.fuse = 0 then (9, { δ.die with tail := b }) else (0, { δ.cnt with log := δ.log ++ b })
def Dk.cutF (δ : Dk) (n : Int) (b : List Nat) : Int × Dk := if δ.dead = true then (9, δ) else if ¬(0 ≤ n ∧ n ≤ δ.certain ∧ b.length ≤ 64) then (1, δ) else if δ.fuse = 0 then (9, δ.die) else
 (0, { δ.cnt with log := δ.log.drop n.toNat, certain := δ.certain - n.toNat, mark := b })
def Dk.readE (δ : Dk) (n : Int) : Int := if δ.dead = true then 9 else if ¬(0 ≤ n ∧ n < δ.pages.length) then 1 else 0
structure Dk.Ok (δ : Dk) : Prop where
 fuse : δ.fuse < 4294967296
 len : δ.log.length ≤ 16777216
 room : δ.room ≤ 16777216
 now : ∀ e ∈ δ.now, e.2.length = 512
 pages : ∀ (i : Nat) (b : List Nat), δ.pages[i]? = some (some b) → b.length = 512
 certain : δ.certain ≤ δ.log.length
 many : δ.pages.length ≤ 65536
theorem Dk.Ok.cnt {δ : Dk} (h : δ.Ok) : δ.cnt.Ok := ⟨by have := h.fuse; simp only [Dk.cnt]; split <;> omega, h.len, h.room, h.now, h.pages, h.certain, h.many⟩
theorem Dk.Ok.die {δ : Dk} (h : δ.Ok) : δ.die.Ok := ⟨h.fuse, h.len, h.room, h.now, h.pages, h.certain, h.many⟩
theorem Dk.Ok.forceF {δ : Dk} (h : δ.Ok) : δ.forceF.2.Ok := by
 unfold Dk.forceF
 split
 ·exact h
 ·split
  ·exact h.die
  ·exact ⟨h.cnt.fuse, h.len, h.room, h.now, h.pages, Nat.le_refl _, h.many⟩
theorem lookL_mem {α : Type} {n : Int} {x : α} : ∀ {l : List (Int × α)}, lookL n l = some x → (n, x) ∈ l := by
 intro l
 induction l with
 | nil => intro h; cases h
 | cons e l ih =>
  intro h
  simp only [lookL] at h
  by_cases he : e.1 = n
  ·rw [if_pos he] at h
   have := Option.some.inj h
   obtain ⟨a, b⟩ := e
   simp only at he this
   subst he; subst this
   exact List.mem_cons_self
  ·rw [if_neg he] at h; exact List.mem_cons_of_mem _ (ih h)
theorem Dk.Ok.at {δ : Dk} (hδ : δ.Ok) (n : Int) : (δ.at n).length = 512 := by
 unfold Dk.at
 cases h1 : lookL n δ.now with
 | some b => exact hδ.now _ (lookL_mem h1)
 | none =>
  cases h2 : δ.pages[n.toNat]? with
  | none => exact List.length_replicate
  | some o =>
   cases o with
   | none => exact List.length_replicate
   | some b => exact hδ.pages _ _ h2
section
variable {told : Nat → Option (List V → H → Option (V × H))} {h : H} {S : List Assn} {X : Assn} {k q p : Nat} {v x : V} {l b : List Nat} {μ : Lg} {δ : Dk}
theorem dWriteF (hT : W told) {n : Int} (s : Sat h (isDk p δ :: X :: S)) (hX : Ent X (rdB x b)) (hb : b.length < 1073741824) (hf : δ.fuse < 4294967296) (hw : δ.waiting.length ≤ 268435456) :
  Call ⟨Tryz.prog, told⟩ 108 [.ptr p 0, .int .i64 n, x] h fun v h' => v = .int .i64 (δ.writeF n b).1 ∧ Sat h' (isDk p (δ.writeF n b).2 :: X :: S) := by
 refine (dWrite_ct hT s hX hb hf hw).mono fun v h' hr => ?_
 unfold Dk.writeF
 rcases hr with ⟨hd, rfl, s⟩ | ⟨hd, h0, rfl, s⟩ | ⟨hd, h1, h2, h3, h0, rfl, s⟩ | ⟨hd, h1, h2, h3, h0, rfl, s⟩
 ·rw [if_pos hd]; exact ⟨rfl, s⟩
 ·rw [if_neg (by rw [hd]; decide), if_pos h0]; exact ⟨rfl, s⟩
 ·rw [if_neg (by rw [hd]; decide), if_neg (by simp [h1, h2, h3]), if_pos h0]; exact ⟨rfl, s⟩
 ·rw [if_neg (by rw [hd]; decide), if_neg (by simp [h1, h2, h3]), if_neg h0]; exact ⟨rfl, s⟩
theorem dReadF (hT : W told) {n : Int} (s : Sat h (isDk p δ :: S)) (hδ : δ.Ok) : Call ⟨Tryz.prog, told⟩ 96 [.ptr p 0, .int .i64 n] h fun v h' =>
  (δ.readE n ≠ 0 ∧ v = .tup [.sl0, .int .i64 (δ.readE n)] ∧ Sat h' (isDk p δ :: S)) ∨ (δ.readE n = 0 ∧ ∃ u, v = .tup [u, .int .i64 0] ∧ Sat h' (bufA u (δ.at n) :: isDk p δ :: S)) := by
 refine (dread_ct hT s (hδ.at n)).mono fun v h' hr => ?_
 unfold Dk.readE
 rcases hr with ⟨hd, rfl, s⟩ | ⟨hd, h0, rfl, s⟩ | ⟨hd, h1, h2, u, rfl, s⟩
 ·rw [if_pos hd]; exact .inl ⟨by decide, rfl, s⟩
 ·rw [if_neg (by rw [hd]; decide), if_pos h0]; exact .inl ⟨by decide, rfl, s⟩
 ·rw [if_neg (by rw [hd]; decide), if_neg (by simp [h1, h2])]; exact .inr ⟨rfl, u, rfl, s⟩
end
abbrev LD := Lg × Dk
def forceLD (x : LD) (n : Nat) : Int × LD := if n < x.1.base + x.1.forced then (0, x) else if x.2.forceF.1 ≠ 0 then (x.2.forceF.1, (x.1, x.2.forceF.2)) else (0, ({ x.1 with forced := x.1.b.length }, x.2.forceF.2))
def checkLD (x : LD) (n : Nat) : Int × LD := if ¬(x.1.hasB n = true ∧ n < x.1.base + x.1.forced) then (1, x) else if (x.2.markF (markB x.1.base n)).1 ≠ 0 then ((x.2.markF (markB x.1.base n)).1, (x.1, (x.2.markF (markB x.1.base n)).2)) else
 (0, ({ x.1 with check := n }, (x.2.markF (markB x.1.base n)).2))
def nextRec (μ : Lg) (kd : Int) (tx pv nx : Nat) (data : List Nat) (chs : List Chg) : List Nat := recG (μ.base + μ.b.length) (bodyG kd tx pv nx data chs)
def appendLD (x : LD) (kd : Int) (tx pv nx : Nat) (data : List Nat) (chs : List Chg) : (Nat × Int) × LD :=
 if goodR kd chs = false then ((0, 1), x) else if 1048576 < (bodyG kd tx pv nx data chs).length then ((0, 2), x) else
 if (x.2.appendF (nextRec x.1 kd tx pv nx data chs)).1 ≠ 0 then ((0, (x.2.appendF (nextRec x.1 kd tx pv nx data chs)).1), (x.1, (x.2.appendF (nextRec x.1 kd tx pv nx data chs)).2)) else
 ((x.1.base + x.1.b.length, 0), (x.1.app (nextRec x.1 kd tx pv nx data chs), (x.2.appendF (nextRec x.1 kd tx pv nx data chs)).2))
theorem forceF_wait {δ : Dk} : δ.forceF.2.waiting = δ.waiting := by
 unfold Dk.forceF
 split
 ·rfl
 ·split <;> rfl
theorem forceLD_wait {x : LD} {n : Nat} : (forceLD x n).2.2.waiting = x.2.waiting := by
 unfold forceLD
 split
 ·rfl
 ·split <;> exact forceF_wait
theorem Dk.Ok.writeF {δ : Dk} {n : Int} {b : List Nat} (h : δ.Ok) : (δ.writeF n b).2.Ok := by
 unfold Dk.writeF
 split
 ·exact h
 ·split
  ·exact h
  ·rename_i hn
   split
   ·exact ⟨h.fuse, h.len, h.room, h.now, h.pages, h.certain, h.many⟩
   ·refine ⟨h.cnt.fuse, h.len, h.room, fun e he => ?_, h.pages, h.certain, h.many⟩
    have hb : b.length = 512 := by
     by_cases q : 0 ≤ n ∧ n < δ.pages.length ∧ b.length = 512
     ·exact q.2.2
     ·exact absurd q hn
    have : ∀ l : List (Int × List Nat), (∀ e ∈ l, e.2.length = 512) → ∀ e ∈ putL n b l, e.2.length = 512 := by
     intro l
     induction l with
     | nil => intro _ e he; simp [putL] at he; subst he; exact hb
     | cons x l ih =>
      intro hl e he
      simp only [putL] at he
      split at he
      ·rcases List.mem_cons.1 he with rfl | he
       ·exact hb
       ·exact hl e (List.mem_cons_of_mem _ he)
      ·rcases List.mem_cons.1 he with rfl | he
       ·exact hl _ List.mem_cons_self
       ·exact ih (fun e he => hl e (List.mem_cons_of_mem _ he)) e he
    exact this δ.now h.now e he
theorem forceLD_ok {x : LD} {n : Nat} (h : x.2.Ok) : (forceLD x n).2.2.Ok := by
 unfold forceLD
 split
 ·exact h
 ·split
  ·exact h.forceF
  ·exact h.forceF
theorem Lg.Ok.forced' {μ : Lg} (h : μ.Ok) : ({ μ with forced := μ.b.length } : Lg).Ok := ⟨h.size, h.many, h.low, h.rise, Nat.le_refl _, h.len, h.check⟩
theorem forceLD_okL {x : LD} {n : Nat} (h : x.1.Ok) : (forceLD x n).2.1.Ok := by
 unfold forceLD
 split
 ·exact h
 ·split
  ·exact h
  ·exact h.forced'
section
variable {told : Nat → Option (List V → H → Option (V × H))} {h : H} {S : List Assn} {X : Assn} {k q p : Nat} {v x : V} {l b : List Nat} {μ : Lg} {δ : Dk}
theorem lForceF (hT : W told) {n : Nat} (s : Sat h (isLg q p μ :: isDk p δ :: S)) (hμ : μ.Ok) (hf : δ.fuse < 4294967296) : Call ⟨Tryz.prog, told⟩ 68 [.ptr q 0, .int .u64 (n : Int)] h fun v h' =>
  v = .int .i64 (forceLD (μ, δ) n).1 ∧ Sat h' (isLg q p (forceLD (μ, δ) n).2.1 :: isDk p (forceLD (μ, δ) n).2.2 :: S) := by
 refine (lForce_ct hT s hμ hf).mono fun v h' hr => ?_
 unfold forceLD Dk.forceF
 rcases hr with ⟨hn, rfl, s⟩ | ⟨hn, hd, rfl, s⟩ | ⟨hn, hd, h0, rfl, s⟩ | ⟨hn, hd, h0, rfl, s⟩
 ·rw [if_pos hn]; exact ⟨rfl, s⟩
 ·simp only [if_neg (Nat.not_lt.2 hn), if_pos hd, ne_eq, if_pos (by decide : ¬ ((9 : Int) = 0))]; exact ⟨trivial, s⟩
 ·simp only [if_neg (Nat.not_lt.2 hn), if_neg (by rw [hd]; decide : ¬ δ.dead = true), if_pos h0, ne_eq, if_pos (by decide : ¬ ((9 : Int) = 0))]; exact ⟨trivial, s⟩
 ·simp only [if_neg (Nat.not_lt.2 hn), if_neg (by rw [hd]; decide : ¬ δ.dead = true), if_neg h0, ne_eq, not_true, if_false]; exact ⟨trivial, s⟩
theorem lCheckF (hT : W told) {n : Nat} (s : Sat h (isLg q p μ :: isDk p δ :: S)) (hμ : μ.Ok) (hf : δ.fuse < 4294967296) (hn : n < 18446744073709551616) : Call ⟨Tryz.prog, told⟩ 69 [.ptr q 0, .int .u64 (n : Int)] h fun v h' =>
  v = .int .i64 (checkLD (μ, δ) n).1 ∧ Sat h' (isLg q p (checkLD (μ, δ) n).2.1 :: isDk p (checkLD (μ, δ) n).2.2 :: S) := by
 refine (lCheck_ct hT s hμ hf hn).mono fun v h' hr => ?_
 have hm : ¬ 64 < (markB μ.base n).length := by rw [markB_len]; decide
 unfold checkLD Dk.markF
 rcases hr with ⟨hb, rfl, s⟩ | ⟨hb, hl, hd, rfl, s⟩ | ⟨hb, hl, hd, h0, rfl, s⟩ | ⟨hb, hl, hd, h0, rfl, s⟩
 ·rw [if_pos hb]; exact ⟨rfl, s⟩
 ·simp only [if_neg (fun q => q ⟨hb, hl⟩ : ¬¬(μ.hasB n = true ∧ n < μ.base + μ.forced)), if_pos hd, ne_eq, if_pos (by decide : ¬ ((9 : Int) = 0))]; exact ⟨trivial, s⟩
 ·simp only [if_neg (fun q => q ⟨hb, hl⟩ : ¬¬(μ.hasB n = true ∧ n < μ.base + μ.forced)), if_neg (by rw [hd]; decide : ¬ δ.dead = true), if_neg hm, if_pos h0, ne_eq, if_pos (by decide : ¬ ((9 : Int) = 0))]; exact ⟨trivial, s⟩
 ·simp only [if_neg (fun q => q ⟨hb, hl⟩ : ¬¬(μ.hasB n = true ∧ n < μ.base + μ.forced)), if_neg (by rw [hd]; decide : ¬ δ.dead = true), if_neg hm, if_neg h0, ne_eq, not_true, if_false]; exact ⟨trivial, s⟩
theorem lAppendF (hT : W told) {kd : Int} {tx pv nx : Nat} {dt ch : V} {cs : List V} {data : List Nat} {chs : List Chg} (s : Sat h (isLg q p μ :: isDk p δ :: X :: .arr 4 ch cs :: chgA cs chs :: S)) (hX : Ent X (rdB dt data)) (hfit : RecFit tx pv nx data chs) (hμ : μ.Ok) (hδ : δ.Ok) :
  Call ⟨Tryz.prog, told⟩ 48 [.ptr q 0, .agg (rcC kd tx pv nx dt ch)] h fun r h' =>
  r = .tup [.int .u64 ((appendLD (μ, δ) kd tx pv nx data chs).1.1 : Nat), .int .i64 (appendLD (μ, δ) kd tx pv nx data chs).1.2] ∧
  Sat h' (isLg q p (appendLD (μ, δ) kd tx pv nx data chs).2.1 :: isDk p (appendLD (μ, δ) kd tx pv nx data chs).2.2 :: X :: .arr 4 ch cs :: chgA cs chs :: S) := by
 refine (lAppend_ct hT s hX hfit hμ hδ.fuse hδ.len hδ.room).mono fun v h' hr => ?_
 unfold appendLD Dk.appendF nextRec
 rcases hr with ⟨e, rfl, (⟨hg, rfl⟩ | ⟨hg, hb, rfl⟩ | ⟨hg, hb, hd, rfl⟩ | ⟨hg, hb, hd, hfull, rfl⟩), s⟩ | ⟨hg, hb, hd, hfits, h0, rfl, s⟩ | ⟨hg, hb, hd, hfits, h0, rfl, s⟩
 ·rw [if_pos hg]; exact ⟨rfl, s⟩
 ·rw [if_neg (by rw [hg]; decide), if_pos hb]; exact ⟨rfl, s⟩
 ·simp only [if_neg (by rw [hg]; decide : ¬ goodR kd chs = false), if_neg (Nat.not_lt.2 hb), if_pos hd, ne_eq, if_pos (by decide : ¬ ((9 : Int) = 0))]; exact ⟨rfl, s⟩
 ·simp only [if_neg (by rw [hg]; decide : ¬ goodR kd chs = false), if_neg (Nat.not_lt.2 hb), if_neg (by rw [hd]; decide : ¬ δ.dead = true), if_pos hfull, ne_eq, if_pos (by decide : ¬ ((7 : Int) = 0))]; exact ⟨rfl, s⟩
 ·simp only [if_neg (by rw [hg]; decide : ¬ goodR kd chs = false), if_neg (Nat.not_lt.2 hb), if_neg (by rw [hd]; decide : ¬ δ.dead = true), if_neg (Nat.not_lt.2 hfits), if_pos h0, ne_eq, if_pos (by decide : ¬ ((9 : Int) = 0))]; exact ⟨rfl, s⟩
 ·simp only [if_neg (by rw [hg]; decide : ¬ goodR kd chs = false), if_neg (Nat.not_lt.2 hb), if_neg (by rw [hd]; decide : ¬ δ.dead = true), if_neg (Nat.not_lt.2 hfits), if_neg h0, ne_eq, not_true, if_false]; exact ⟨trivial, s⟩
end
end Go.Proofs.YtconhghphklfjaaGreat.Am
