/- A group that is over or open, pages that are none and records that may not be are refused, and a record that was done is read back; the conditions are those of the given statement, for arguments that a machine can hold. Part 37 of 44. -/
import Derived.Test.YtconhghphklfjaaGreatE36
namespace Go.Proofs.YtconhghphklfjaaGreat.Am
open Go
theorem wf_i64 {n : Int} (h1 : 0 ≤ n) (h2 : n < 4294967296) : (Lit.int .i64 n).wf = true := by
 simp only [Lit.wf, Bool.and_eq_true, decide_eq_true_eq]
 have e1 : IntKind.min .i64 = -9223372036854775808 := rfl
 have e2 : IntKind.max .i64 = 9223372036854775807 := rfl
 omega
theorem rcC_beq {kd : Int} {tx pv nx : Nat} {dt ch : V} (hd : dt.beq dt = true) (hc : ch.beq ch = true) : (V.agg (rcC kd tx pv nx dt ch)).beq (V.agg (rcC kd tx pv nx dt ch)) = true := by
 simp only [rcC, V.beq, V.beqL, hd, hc, ikBeq_self, intBeq_dec, decide_true, Bool.and_self, cond_true]
section
variable {told : Nat → Option (List V → H → Option (V × H))} {h : H} {S : List Assn} {X Y : Assn} {r k q p fid a g chk : Nat} {op v x u wh di : V} {l b was data data0 : List Nat} {now : List (Int × List Nat)} {over : Bool} {ε : Eng}
theorem done_ct (hT : W told) {kd : Int} {tx pv nx nch : Nat} {dt ch : V} {ccs : List V} (s : Sat h (isGp g a now false :: isSt a p q r (.ptr g 0) data0 chk :: isPl r p q ε.1 :: isLg q p ε.2.1 :: isDk p ε.2.2 :: X :: .arr 4 ch ccs :: S)) (hX : Ent X (rdB dt data)) (hcc : ccs.length = nch * 4) (hε : EOk3 ε) (hw : pot ε + 65536 ≤ 268435456)
  (hnow : ∀ e ∈ now, e.2.length = 512) (hm : now.length ≤ 65536) (hk : ∀ n ∈ now.map (·.1), 0 ≤ n ∧ n < 65536) (htx : tx < 18446744073709551616) (hpv : pv < 18446744073709551616) (hnx : nx < 18446744073709551616) (hd : data.length ≤ 35184372088832) (hlog : ε.2.1.b = ε.2.2.log) (hz : ε.2.1.base + ε.2.1.b.length + 1048584 ≤ 1099511627776) :
  Call ⟨Tryz.prog, told⟩ 17 [.ptr g 0, .agg (rcC kd tx pv nx dt ch)] h fun v h' => ∃ lsn e cl ε', DnR ε now kd tx pv nx data nch lsn e cl ε' ∧ v = .tup [.int .u64 (lsn : Int), .int .i64 e] ∧
   Sat h' (isGp g a now cl :: isSt a p q r (cond cl .ptr0 (.ptr g 0)) data0 chk :: isPl r p q ε'.1 :: isLg q p ε'.2.1 :: isDk p ε'.2.2 :: X :: S) := by
 have hwf : ∀ n ∈ now.map (·.1), (Lit.int .i64 n).wf = true := fun n hn => by
  have := hk n hn
  exact wf_i64 (by omega) (by omega)
 have hch := s.arrV (j := 6) rfl
 have hdt := s.viewX (k := 5) rfl hX
 have hst := rcC_st (kd := kd) (tx := tx) (pv := pv) (nx := nx) hdt.cells.2 hch.2.1
 have hlen := s.arrLen (n := nch) (j := 6) rfl hcc (by decide) Tryz.underlying38
 have s0 := s
 obtain ⟨nv, s⟩ := isGp_iff.1 s
 refine Call.of_wp (hT.free _ rfl) Tryz.func17 rfl rfl (zg rfl (WPs.newS s rfl rfl rfl (o_box rfl hst) ?_))
 intro p1 h s
 dsimp only [V.cells] at s
 have s : Sat h (pt p1 (.cells 6 (rcC kd tx pv nx dt ch) false) :: _) := s
 have hlen := s.arrLen (n := nch) (j := 8) rfl hcc (by decide) Tryz.underlying38
 refine za rfl (za rfl (zv (zg rfl (zm rfl (zn rfl (zf rfl (fa88_0 _ _) (zl rfl (by exact s.ld (k := 1) rfl ag24 rfl) ?_)))))))
 refine za rfl (zv (zw (WP.block (zg rfl (zm rfl (zn rfl (zf rfl (fa88_2 _ _) (WPs.opF rfl rfl rfl (o_load rfl (by exact s.ld (k := 1) rfl ag4 rfl)) (rfl) ?_))))))))
 refine za rfl (zv (zj rfl (zg rfl (zf rfl (fa40_0 _ _) (zl rfl (by exact s.ld (k := 0) rfl ag3 rfl) ?_)))))
 have fin : ∀ e : Int, Sat h (isGp g a now false :: isSt a p q r (.ptr g 0) data0 chk :: isPl r p q ε.1 :: isLg q p ε.2.1 :: isDk p ε.2.2 :: X :: S) := fun e => ((isGp_iff.2 ⟨nv, s.bringS [1, 1]⟩).del 7).del 1
 refine WPs.opB rfl rfl rfl (o_bin rfl rfl bLss) ?_ ?_
 ·intro hq
  have hq : kd < 1 := by simpa using hq
  refine zm rfl (zx rfl (zx rfl (zx rfl (zq rfl (zm rfl (zx rfl (zx rfl (zx rfl (zx rfl (zq rfl (za rfl (zv (zi rfl (zg rfl (za rfl (za rfl (zv ?_)))))))))))))))))
  refine WP.ret ⟨trivial, _, rfl, ?_⟩
  exact ⟨0, 1, false, ε, .arg (.inl (by omega)), rfl, fin 0⟩
 ·intro hq
  have hq : 1 ≤ kd := by simp at hq; omega
  refine zm rfl (zf rfl (fa40_0 _ _) (zl rfl (by exact s.ld (k := 0) rfl ag3 rfl) ?_))
  refine WPs.opB rfl rfl rfl (o_bin rfl rfl bGtr) ?_ ?_
  ·intro hq2
   have hq2 : 7 < kd := by simpa using hq2
   refine zp rfl (zm rfl (zx rfl (zx rfl (zx rfl (zx rfl (zq rfl (za rfl (zv (zi rfl (zg rfl (za rfl (za rfl (zv ?_)))))))))))))
   refine WP.ret ⟨trivial, _, rfl, ?_⟩
   exact ⟨0, 1, false, ε, .arg (.inl (by omega)), rfl, fin 0⟩
  ·intro hq2
   have hq2 : kd ≤ 7 := by simp at hq2; omega
   refine zp rfl (zm rfl (zf rfl (fa40_5 _ _) (zl rfl (by exact s.ld (k := 0) rfl ag38 rfl) ?_)))
   refine zo rfl (o_len rfl rfl rfl hlen) ?_
   refine WPs.opB rfl rfl rfl (o_bin rfl rfl bGtr) ?_ ?_
   ·intro hq3
    have hq3 : 0 < nch := by simp at hq3; omega
    refine zp rfl (za rfl (zv (zi rfl (zg rfl (za rfl (za rfl (zv ?_)))))))
    refine WP.ret ⟨trivial, _, rfl, ?_⟩
    exact ⟨0, 1, false, ε, .arg (.inr hq3), rfl, fin 0⟩
   ·intro hq3
    have hq3 : nch = 0 := by simp at hq3; omega
    obtain ⟨dv, s⟩ := isSt_iff.1 (s.bringS [3])
    dsimp only [bringA, getA, delA] at s
    refine zp rfl (za rfl (zv (zj rfl (zg rfl (zm rfl (zn rfl (zf rfl (fa85_0 _ _) (zl rfl (by exact s.ld (k := 0) rfl ag23 rfl) ?_))))))))
    refine WPs.call rfl rfl rfl rfl rfl rfl rfl (dDead_ct hT (s.bringS [7])) ?_
    rintro v h ⟨rfl, rfl⟩
    refine za rfl (zv ?_)
    cases hdd : ε.2.2.dead with
    | true =>
     refine zi rfl (zg rfl (za rfl (za rfl (zv ?_))))
     refine WP.ret ⟨trivial, _, rfl, ?_⟩
     have s9 := isGp_iff.2 ⟨nv, (isSt_iff.2 ⟨dv, s⟩).bringS [2, 2]⟩
     dsimp only [bringA, getA, delA] at s9
     exact ⟨0, 9, false, ε, .dead hq hq2 hq3 hdd, rfl, (s9.del 7).del 2⟩
    | false =>
     refine zj rfl (WP.skip (zg rfl (za rfl (zv (zw (zg rfl (zm rfl ?_)))))))
     have s9 := isGp_iff.2 ⟨nv, (isSt_iff.2 ⟨dv, s⟩).bringS [2, 2]⟩
     dsimp only [bringA, getA, delA] at s9
     have s := s9.bringS [0, 0, 1, 1, 1]
     dsimp only [bringA, getA, delA] at s
     refine WPs.call rfl rfl rfl rfl rfl rfl rfl (changes_ct hT s hε (by omega) hnow hm hwf) ?_
     rintro v h ⟨e, c, ε', hc, (⟨he, rfl, s⟩ | ⟨rfl, hcl, av, cs, rfl, s⟩)⟩
     ·refine WPs.op rfl rfl rfl (o_move rfl) ?_
      refine ze rfl (ze rfl (zf rfl (fa40_5 _ _) ?_))
      refine WPs.stS rfl rfl rfl rfl rfl (by exact s.st1 (k := 5) rfl sz38 rfl (by decide) rfl rfl) (fun h s => ?_)
      dsimp only [rcC, Nat.reduceAdd, List.set, setA] at s
      refine za rfl (zv (zg rfl (zm rfl (WPs.opT rfl rfl rfl (o_bin rfl rfl bNeq) (by simp; exact he) ?_))))
      refine zv (zi rfl (zg rfl (zm rfl (za rfl (za rfl (zv ?_))))))
      refine WP.ret ⟨trivial, _, rfl, ?_⟩
      exact ⟨0, e, false, ε', .chg e c ε' hq hq2 hq3 hdd hc he, rfl, (s.del 7).del 5⟩
     ·have hav := s.arrV (j := 0) rfl
      have hc3 := hc.ok3 hε
      have hcp := hc.pot
      have hsm := hc.same
      have hap := appendLD_ok (x := ε'.2) (kd := kd) (tx := tx) (pv := pv) (nx := nx) (data := data) (c := c) hc3.ok.lg hc3.ok.dk (by rw [hsm.b, hsm.log]; exact hlog) (by rw [hsm.base, hsm.b]; exact hz)
      have hfit := hc.fit hnow fun n hn => hk n ((srtI_perm _).mem_iff.1 hn)
      refine zm rfl (ze rfl (ze rfl (zf rfl (fa40_5 _ _) (WPs.stS rfl rfl rfl rfl rfl (s.st1 (k := 7) rfl sz38 rfl (show 0 + 5 < 6 by decide) hav.1 hav.2.1) ?_))))
      intro h s
      dsimp only [rcC, Nat.reduceAdd, List.set, setA] at s
      refine za rfl (zv (zg rfl (zm rfl (WPs.opF rfl rfl rfl (o_bin rfl rfl bNeq) (rfl) ?_))))
      obtain ⟨dv, s⟩ := isSt_iff.1 (s.bringS [3])
      dsimp only [bringA, getA, delA] at s
      have s := s.bringS [6, 6, 7, 2, 2, 0, 3]
      dsimp only [bringA, getA, delA] at s
      refine zv (zj rfl (WP.skip (zw ?_)))
      have s0 := s
      have hdtb := beqView hdt
      have hrb := rcC_beq (kd := kd) (tx := tx) (pv := pv) (nx := nx) hdtb hav.2.2
      refine WP.drawn [none, none, none, none, none, none, none, none, none, none, none] rfl (by kernel_rfl) (by kernel_rfl) ?_
      refine zM rfl (zN rfl (zF rfl (fa85_1 _ _) (zL rfl (by exact s.ld (k := 5) rfl ag44 rfl) ?_)))
      refine zL rfl (by exact s.ldA (k := 6) rfl ag40 sz40) ?_
      refine WPt.any rfl rfl rfl rfl (OpR.call rfl rfl rfl rfl (lAppendF (kd := kd) (tx := tx) (pv := pv) (nx := nx) hT s hX (chs_fit hcl hfit htx hpv hnx hd) hc3.ok.lg hc3.ok.dk)) ?_
      rintro v h ⟨rfl, s⟩
      refine zM rfl (zO rfl (o_extract rfl rfl) (zO rfl (o_extract rfl rfl) (zA rfl (zA rfl ?_))))
      refine WPt.nil ⟨⟨trivial, trivial, trivial, trivial, trivial, trivial, trivial, trivial, trivial, trivial, trivial, trivial⟩, ?_⟩
      refine zw (zg rfl (zm rfl ?_))
      have s9 := isSt_iff.2 ⟨dv, s.bringS [5, 6]⟩
      dsimp only [bringA, getA, delA] at s9
      have s := ((((s9.bringS [7, 0, 6, 0, 0, 0]).del 9).del 8).del 7).del 6
      dsimp only [bringA, getA, delA] at s
      by_cases he : (appendLD ε'.2 kd tx pv nx data c).1.2 = 0
      ·skip
       refine WPs.opF rfl rfl rfl (o_bin rfl rfl bNeq) (by simp; exact he) ?_
       refine zv (zj rfl (WP.skip (zg rfl (zm rfl (WPs.call rfl rfl rfl rfl rfl rfl rfl (gclose_ct hT s) ?_)))))
       rintro v h ⟨rfl, s⟩
       obtain ⟨nv, s⟩ := isGp_iff.1 s
       obtain ⟨nid, rfl⟩ := mapV_v s (j := 1) rfl
       refine zv (zw (zg rfl (zm rfl (zn rfl (zf rfl (fa88_1 _ _) (zl rfl (by exact s.ld (k := 0) rfl ag86 rfl) ?_))))))
       refine WPs.call rfl rfl rfl rfl rfl rfl rfl (keysD_ct hT s) ?_
       rintro v h ⟨kb, rfl, s⟩
       refine WPs.call rfl rfl rfl rfl rfl rfl rfl (sorted_ct hT (s.bringS [0, 1]) (by decide) (by omega) hwf) ?_
       intro kv h s
       dsimp only [bringA, getA, delA] at s
       have hl : (keysS now).length = now.length := by rw [keysS, (srtI_perm _).length_eq, List.length_map]
       refine zo rfl (o_len rfl rfl rfl (s.arrLen (n := (keysS now).length) (j := 0) rfl (by simp [intsV]) (by decide) Tryz.underlying98)) ?_
       refine zm rfl (zv (WP.block ?_))
       obtain ⟨nid', es, clock, hnid, hb, hnd, s⟩ := mapV_open.1 (s.bringS [2])
       injection hnid with hnid
       subst hnid
       dsimp only [bringA, getA, delA] at s
       obtain ⟨dv, s⟩ := isSt_iff.1 (s.bringS [5])
       dsimp only [bringA, getA, delA] at s
       have s := s.bringS [6, 2, 2, 0, 3, 3, 3, 1]
       dsimp only [bringA, getA, delA] at s
       refine done_loop (op := .ptr0) (dv := dv) hT (ks := keysS now) (now := now) (lsn := (appendLD ε'.2 kd tx pv nx data c).1.1) (by omega) (fun n hn => ?_) hnow (keysS now).length 0 (ε'.1, (appendLD ε'.2 kd tx pv nx data c).2) _ _ _ (by omega) ?_ ?_ s ⟨rfl, rfl, rfl, rfl, rfl, rfl, trivial⟩ (fun e ε'' E' h' hp he' l4 l5 s' => ?_) (fun ε'' E' h' hp hE' s' => ?_)
       ·have : n ∈ now.map (·.1) := (srtI_perm _).mem_iff.1 hn
        cases hq : lookL n now with
        | some _ => rfl
        | none => exact absurd this (lookL_none.1 hq)
       ·exact ⟨⟨hc3.ok.pl, hap.1, hap.2.1⟩, hc3.pins, hc3.full⟩
       ·have e1 : pot (ε'.1, (appendLD ε'.2 kd tx pv nx data c).2) = pot ε' := by simp only [pot, hap.2.2.2.2.2.1]
        rw [e1, hl]; omega
       ·rw [List.drop_zero] at hp
        have e4 : look E' 4 = some (.int .u64 ((0 : Nat) : Int)) := l4
        refine ⟨trivial, _, res2 e4 l5, 0, e, true, ε'', ?_, rfl, ?_⟩
        ·have := DnR.put (data := data) c ε' e ε'' hq hq2 hq3 hdd hc he hp
         rwa [if_neg he'] at this
        ·have s3 := isSt_iff.2 ⟨dv, s'.bringS [3, 6]⟩
         dsimp only [bringA, getA, delA] at s3
         have s4 := mapV_open.2 ⟨nid, es, clock, rfl, hb, hnd, s3.bringS [2, 2]⟩
         dsimp only [bringA, getA, delA] at s4
         exact isGp_iff.2 ⟨.map nid, (s4.bringS [2, 0, 0, 0, 0, 0, 1]).del 7⟩
       ·rw [List.drop_zero] at hp
        have s := s'
        refine WP.has hE' (zg rfl (zm rfl (za rfl (za rfl (zv ?_)))))
        refine WP.ret ⟨trivial, _, rfl, ?_⟩
        refine ⟨_, 0, true, ε'', ?_, rfl, ?_⟩
        ·have := DnR.put (data := data) c ε' 0 ε'' hq hq2 hq3 hdd hc he hp
         exact this
        ·have s3 := isSt_iff.2 ⟨dv, s.bringS [3, 6]⟩
         dsimp only [bringA, getA, delA] at s3
         have s4 := mapV_open.2 ⟨nid, es, clock, rfl, hb, hnd, s3.bringS [2, 2]⟩
         dsimp only [bringA, getA, delA] at s4
         exact isGp_iff.2 ⟨.map nid, (s4.bringS [2, 0, 0, 0, 0, 0, 1]).del 7⟩
      ·skip
       refine WPs.opT rfl rfl rfl (o_bin rfl rfl bNeq) (by simp; exact he) ?_
       refine zv (zi rfl (zg rfl (zm rfl (za rfl (za rfl (zv ?_))))))
       refine WP.ret ⟨trivial, _, rfl, ?_⟩
       exact ⟨0, _, false, _, .app c ε' hq hq2 hq3 hdd hc he, rfl, s⟩
end
end Go.Proofs.YtconhghphklfjaaGreat.Am
namespace Go.Proofs.YtconhghphklfjaaGreat.Am
open Go
def Lg.fresh : Lg := { base := 1, b := [], starts := [], forced := 0, check := 0 }
theorem resC2 {P : Program} {E : List (Nat × V)} {h : H} {a b c t : Nat} {p v w x : V} (hl : look E a = some p) (hd : loadV P h t p = some v) (h2 : look E b = some w) (h3 : look E c = some x) : resLE P E h [.cell a t, .tmp b, .tmp c] = some (.tup [v, w, x]) := by
 simp only [resLE, mapO, resE, hl, hd, h2, h3]
section
variable {told : Nat → Option (List V → H → Option (V × H))} {h : H} {S : List Assn} {X Y : Assn} {r k q p fid a g chk : Nat} {op v x u wh di : V} {l b was data data0 : List Nat} {now : List (Int × List Nat)} {over : Bool} {ε : Eng} {μ : Lg} {δ : Dk}
theorem lOpen_fresh (hT : W told) (s : Sat h (isDk p δ :: S)) (hd : δ.dead = false) (hm : δ.mark = []) (hl : δ.log = []) (hc : δ.certain = 0) :
  Call ⟨Tryz.prog, told⟩ 58 [.ptr p 0] h fun v h' => ∃ q, v = .tup [.ptr q 0, .int .i64 0] ∧ Sat h' (isLg q p Lg.fresh :: isDk p δ :: S) := by
 refine Call.of_wp (hT.free _ rfl) Tryz.func58 rfl rfl (zg rfl (za rfl (za rfl (zv (zg rfl (zm rfl (WPs.call rfl rfl rfl rfl rfl rfl rfl (dMarked_ct hT s (by rw [hm]; decide)) ?_)))))))
 rintro v h (⟨hd', _, _⟩ | ⟨_, b0, rfl, s⟩)
 ·rw [hd] at hd'; cases hd'
 rw [hm] at s
 refine zm rfl (ze rfl (ze rfl (za rfl (za rfl (zv (zw (zg rfl (zm rfl (WPs.opF rfl rfl rfl (o_bin rfl rfl bNeq) (rfl) (zv (zj rfl (WP.skip (zg rfl (zm rfl (zo rfl (o_build rfl (by rw [bv111]; rfl)) ?_)))))))))))))))
 refine WPs.newS s rfl rfl rfl (o_box rfl rfl) (fun p23 h s => ?_)
 dsimp only [V.cells, List.take, List.length_cons, List.length_nil, Nat.reduceAdd, List.drop, List.cons_append, List.nil_append] at s
 refine za rfl (zv (zw (zg rfl (zm rfl (zm rfl ?_)))))
 have s := s.bringS [2, 0, 0]
 dsimp only [bringA, getA, delA] at s
 refine WPs.call rfl rfl rfl rfl rfl rfl rfl (dLog_ct hT s (by rw [hl]; decide)) ?_
 rintro v h (⟨hd', _, _⟩ | ⟨_, b1, rfl, s⟩)
 ·rw [hd] at hd'; cases hd'
 rw [hl] at s
 have hv := (s.buf (k := 0) rfl).view.cells
 refine zm rfl (ze rfl (ze rfl (zn rfl (zf rfl (fa111_2 _ _) (WPs.stS rfl rfl rfl rfl rfl (s.st1 (k := 2) rfl sz32 rfl (by decide) hv.1 hv.2) ?_)))))
 intro h s
 dsimp only [Nat.reduceAdd, List.set, setA] at s
 refine za rfl (zv (zg rfl (zm rfl (WPs.opF rfl rfl rfl (o_bin rfl rfl bNeq) (rfl) (zv (zj rfl (WP.skip (zw (zg rfl (zm rfl (zo rfl (o_len rfl rfl rfl (by exact len_view Tryz.underlying32 (s.viewX (k := 3) rfl (rd_buf _ _)))) ?_)))))))))))
 refine zv (WP.block (zg rfl (WPs.opT rfl rfl rfl (o_bin rfl rfl bEql) (rfl) (za rfl (zv (zi rfl (WP.skip (zg rfl (za rfl (zv (zw (WP.block (WP.loop (zw (zg rfl (zm rfl (zm rfl (zn rfl (zf rfl (fa111_2 _ _) (zl rfl (by exact s.ld (k := 2) rfl ag32 rfl) ?_))))))))))))))))))))
 refine zo rfl (o_len rfl rfl rfl (by exact len_view Tryz.underlying32 (s.viewX (k := 0) rfl (rd_buf _ _)))) ?_
 refine WPs.opF rfl rfl rfl (o_bin rfl rfl bLss) (rfl) (zv (zj rfl (WP.exit (zw (zg rfl (zm rfl (zm rfl (zn rfl (zf rfl (fa111_2 _ _) (zl rfl (by exact s.ld (k := 2) rfl ag32 rfl) ?_))))))))))
 refine zo rfl (o_len rfl rfl rfl (by exact len_view Tryz.underlying32 (s.viewX (k := 0) rfl (rd_buf _ _)))) ?_
 refine WPs.opF rfl rfl rfl (o_bin rfl rfl bLss) (rfl) (zv (zj rfl (WP.skip (zw (zw ?_)))))
 have s0 := s
 have hb1 := beqView (s.buf (k := 0) rfl).view
 refine WP.drawn [none, none, some (0, 2), some (0, 2), some (0, 2), some (0, 2), some (0, 2), none] rfl (by kernel_rfl) (by kernel_rfl) ?_
 refine zM rfl (WPt.any rfl rfl rfl rfl (OpR.call rfl rfl rfl rfl (dCertain_ct hT (s.bringS [1]))) ?_)
 rintro v h' ⟨rfl, rfl⟩
 refine zM rfl (zN rfl (zF rfl (fa111_2 _ _) (zL rfl (by exact s.ld (k := 2) rfl ag32 rfl) ?_)))
 refine zO rfl (o_len rfl rfl rfl (by exact len_view Tryz.underlying32 (s.viewX (k := 0) rfl (rd_buf _ _)))) ?_
 refine WPt.opF rfl rfl rfl rfl (o_bin rfl rfl bLss) (by rw [show δ.dCertain = 0 from hc]; rfl) ?_
 refine WPt.nil ⟨⟨trivial, trivial, fun _ _ => .inr ⟨rfl, ⟨_, o_move rfl⟩, beqV _ rfl⟩, fun _ _ => .inr ⟨rfl, ⟨_, o_nil rfl⟩, beqV _ rfl⟩, fun _ _ => .inr ⟨rfl, ⟨_, o_fa rfl (fa111_2 _ _)⟩, beqV _ rfl⟩, heaps2 (.inr ⟨rfl, ⟨_, o_load rfl (by exact s0.ld (k := 2) rfl ag32 rfl)⟩, hb1⟩) (.inr ⟨rfl, ⟨_, o_load rfl (by exact s.ld (k := 2) rfl ag32 rfl)⟩, hb1⟩), heaps2 (.inr ⟨rfl, ⟨_, o_len rfl rfl rfl (by exact len_view Tryz.underlying32 (s0.viewX (k := 0) rfl (rd_buf _ _)))⟩, beqV _ rfl⟩) (.inr ⟨rfl, ⟨_, o_len rfl rfl rfl (by exact len_view Tryz.underlying32 (s.viewX (k := 0) rfl (rd_buf _ _)))⟩, beqV _ rfl⟩), trivial, trivial⟩, ?_⟩
 refine zj rfl (WP.skip (zg rfl (zm rfl (zm rfl (zn rfl (zf rfl (fa111_2 _ _) (zl rfl (by exact s.ld (k := 2) rfl ag32 rfl) ?_)))))))
 refine zo rfl (o_len rfl rfl rfl (by exact len_view Tryz.underlying32 (s.viewX (k := 0) rfl (rd_buf _ _)))) ?_
 refine zn rfl (zf rfl (fa111_4 _ _) ?_)
 refine WPs.stS rfl rfl rfl rfl rfl (by exact s.st1 (k := 2) rfl sz3 rfl (by decide) rfl rfl) (fun h s => ?_)
 dsimp only [Nat.reduceAdd, List.length_nil, List.set, setA] at s
 refine zv (zg rfl (zm rfl (za rfl (za rfl (zv ?_)))))
 refine WP.ret ⟨trivial, _, rfl, ?_⟩
 have s1 := (s.del 3).nilArr (k := 1)
 dsimp only [delA] at s1
 refine ⟨_, rfl, isLg_iff.2 ⟨b1, .sl0, ?_⟩⟩
 exact s1.bringS [3, 1, 0]
theorem lRead_end (hT : W told) (s : Sat h (isLg q p μ :: S)) (hμ : μ.Ok) : Call ⟨Tryz.prog, told⟩ 20 [.ptr q 0, .int .u64 ((μ.base : Int) + (μ.b.length : Int))] h fun v h' => v = .tup [.agg (rcC 0 0 0 0 .sl0 .sl0), .int .u64 0, .int .i64 17] ∧ Sat h' (isLg q p μ :: S) := by
 refine Call.of_wp (hT.free _ rfl) Tryz.func20 rfl rfl (zg rfl ?_)
 refine WPs.newS s rfl rfl rfl (o_alloc zt40) (fun p4 h s => ?_)
 dsimp only [V.cells, List.length_cons, List.length_nil, Nat.reduceAdd] at s
 refine za rfl (za rfl (zv (zw (WP.block (zg rfl (zm rfl (zm rfl ?_)))))))
 have s := s.bringS [1]
 dsimp only [bringA, getA, delA] at s
 refine WPs.call rfl rfl rfl rfl rfl rfl rfl (lEnd_ct hT s hμ.size) ?_
 rintro v h' ⟨rfl, rfl⟩
 refine WPs.opT rfl rfl rfl (o_bin rfl rfl bEql) (by simp) ?_
 refine za rfl (zv (zi rfl (zg rfl (zo rfl (o_build rfl (by rw [bv40]; rfl)) ?_))))
 refine WPs.stS rfl rfl rfl rfl rfl (by exact s.stA (j := 1) rfl sz40 rfl rfl) (fun h s => ?_)
 dsimp only [V.cells, setA] at s
 refine za rfl (za rfl (zv ?_))
 refine WP.ret ⟨trivial, _, resC2 rfl (s.ldA (k := 1) rfl ag40 sz40) rfl rfl, ?_⟩
 exact ⟨rfl, s.del 1⟩
theorem lRead_no (hT : W told) {n : Nat} (s : Sat h (isLg q p μ :: S)) (hμ : μ.Ok) (hn : n < 18446744073709551616) (hne : n ≠ μ.base + μ.b.length) (hno : μ.hasB n = false) : Call ⟨Tryz.prog, told⟩ 20 [.ptr q 0, .int .u64 (n : Int)] h fun v h' => v = .tup [.agg (rcC 0 0 0 0 .sl0 .sl0), .int .u64 0, .int .i64 1] ∧ Sat h' (isLg q p μ :: S) := by
 refine Call.of_wp (hT.free _ rfl) Tryz.func20 rfl rfl (zg rfl ?_)
 refine WPs.newS s rfl rfl rfl (o_alloc zt40) (fun p4 h s => ?_)
 dsimp only [V.cells, List.length_cons, List.length_nil, Nat.reduceAdd] at s
 refine za rfl (za rfl (zv (zw (WP.block (zg rfl (zm rfl (zm rfl ?_)))))))
 have s := s.bringS [1]
 dsimp only [bringA, getA, delA] at s
 refine WPs.call rfl rfl rfl rfl rfl rfl rfl (lEnd_ct hT s hμ.size) ?_
 rintro v h' ⟨rfl, rfl⟩
 refine WPs.opF rfl rfl rfl (o_bin rfl rfl bEql) (by simp; omega) ?_
 refine za rfl (zv (zj rfl (zg rfl (zm rfl (zm rfl (WPs.call rfl rfl rfl rfl rfl rfl rfl (lHas_ct (n := n) hT s hμ hn) ?_))))))
 rintro v h' ⟨rfl, rfl⟩
 refine zo rfl (o_un rfl rfl) (za rfl (zv (WP.condT rfl (by rw [hno]; rfl) ?_)))
 refine zg rfl (zo rfl (o_build rfl (by rw [bv40]; rfl)) ?_)
 refine WPs.stS rfl rfl rfl rfl rfl (by exact s.stA (j := 1) rfl sz40 rfl rfl) (fun h s => ?_)
 dsimp only [V.cells, setA] at s
 refine za rfl (za rfl (zv ?_))
 refine WP.ret ⟨trivial, _, resC2 rfl (s.ldA (k := 1) rfl ag40 sz40) rfl rfl, ?_⟩
 exact ⟨rfl, s.del 1⟩
theorem lRead_none (hT : W told) {n : Nat} (s : Sat h (isLg q p μ :: S)) (hμ : μ.Ok) (hn : n < 18446744073709551616) (hno : n = μ.base + μ.b.length ∨ μ.hasB n = false) : Call ⟨Tryz.prog, told⟩ 20 [.ptr q 0, .int .u64 (n : Int)] h fun v h' => ∃ e : Int, e ≠ 0 ∧ v = .tup [.agg (rcC 0 0 0 0 .sl0 .sl0), .int .u64 0, .int .i64 e] ∧ Sat h' (isLg q p μ :: S) := by
 by_cases he : n = μ.base + μ.b.length
 ·have := lRead_end hT s hμ
  rw [show ((μ.base : Int) + (μ.b.length : Int)) = ((n : Nat) : Int) by omega] at this
  exact this.mono fun v h' ⟨h1, h2⟩ => ⟨17, by decide, h1, h2⟩
 ·rcases hno with hno | hno
  ·exact absurd hno he
  ·exact (lRead_no hT s hμ hn he hno).mono fun v h' ⟨h1, h2⟩ => ⟨1, by decide, h1, h2⟩
end
end Go.Proofs.YtconhghphklfjaaGreat.Am
namespace Go.Proofs.YtconhghphklfjaaGreat.Am
open Go
section
variable {told : Nat → Option (List V → H → Option (V × H))} {h : H} {S : List Assn} {X Y : Assn} {r k q p fid a g chk : Nat} {op v x u wh di : V} {l b was data data0 : List Nat} {now : List (Int × List Nat)} {over : Bool} {ε : Eng} {μ : Lg} {δ : Dk}
theorem again_none (hT : W told) {n : Nat} (s : Sat h (isSt a p q r op data chk :: isLg q p μ :: S)) (hμ : μ.Ok) (hn : n < 18446744073709551616) (hno : n = μ.base + μ.b.length ∨ μ.hasB n = false) :
  Call ⟨Tryz.prog, told⟩ 62 [.ptr a 0, .int .u64 (n : Int)] h fun v h' => v = .int .i64 0 ∧ Sat h' (isSt a p q r op data chk :: isLg q p μ :: S) := by
 obtain ⟨dv, s⟩ := isSt_iff.1 s
 refine Call.of_wp (hT.free _ rfl) Tryz.func62 rfl rfl (zg rfl (za rfl (zv (zg rfl ?_))))
 refine WPs.newM s rfl rfl rfl rfl (fun p18 h s => ?_)
 refine WPs.newM s rfl rfl rfl rfl (fun p19 h s => ?_)
 refine zo rfl (o_build rfl (by rw [bv181]; rfl)) ?_
 refine WPs.newS s rfl rfl rfl (o_box rfl rfl) (fun p21 h s => ?_)
 dsimp only [V.cells, List.take, List.length_cons, List.length_nil, Nat.reduceAdd, List.drop, List.cons_append, List.nil_append, stC] at s
 refine za rfl (zv (zg rfl (zm rfl (zo rfl (o_mkf rfl rfl) (za rfl (zv (zw (zg rfl (zm rfl (za rfl (zv (WP.block (WP.loop (WP.block (zg rfl (zm rfl (zn rfl (zf rfl (fa85_1 _ _) (zl rfl (by exact s.ld (k := 3) rfl ag44 rfl) ?_)))))))))))))))))))
 refine zm rfl ?_
 have s1 := s.bringS [5]
 dsimp only [bringA, getA, delA] at s1
 refine WPs.call rfl rfl rfl rfl rfl rfl rfl (lRead_none (n := n) hT s1 hμ hn hno) ?_
 rintro v h ⟨e, he, rfl, s⟩
 refine zm rfl (ze rfl (ze rfl (ze rfl ?_)))
 refine WPs.newS s rfl rfl rfl (o_alloc zt40) (fun p8 h s => ?_)
 dsimp only [V.cells, List.length_cons, List.length_nil, Nat.reduceAdd] at s
 refine WPs.stS rfl rfl rfl rfl rfl (by exact s.stA (j := 0) rfl sz40 rfl rfl) (fun h s => ?_)
 dsimp only [setA] at s
 refine za rfl (za rfl (zv (zw (zg rfl (zm rfl (WPs.opT rfl rfl rfl (o_bin rfl rfl bNeq) (by simp; exact he) ?_))))))
 have s := mapV_new (f := fun v (b : List Nat) => .rob v b) (s.bringS [4])
 dsimp only [bringA, getA, delA] at s
 refine zv (zi rfl (WP.exit (zw (zg rfl (zm rfl (zn rfl (zf rfl (fa181_0 _ _) (zl rfl (by exact s.ld (k := 3) rfl ag86 rfl) ?_))))))))
 refine WPs.call rfl rfl rfl rfl rfl rfl rfl (keysD_ct hT s) ?_
 rintro v h ⟨kb, rfl, s⟩
 refine WPs.call rfl rfl rfl rfl rfl rfl rfl (sorted_ct hT s (by decide) (by decide) (by simp)) ?_
 intro kv h s
 refine zo rfl (o_len rfl rfl rfl (s.arrLen (n := 0) (j := 0) rfl rfl (by decide) Tryz.underlying98)) ?_
 refine zm rfl (zv (WP.block (WP.loop (zg rfl (WPs.opF rfl rfl rfl (o_bin rfl rfl bLss) (rfl) (zv (zw (zj rfl (WP.exit (zw (zg rfl (zm rfl (zn rfl (zf rfl (fa181_0 _ _) (zl rfl (by exact s.ld (k := 5) rfl ag86 rfl) ?_)))))))))))))))
 refine zo rfl (o_len rfl rfl rfl (mapV_len (s.bringS [2]) Tryz.underlying86)) (WPs.opT rfl rfl rfl (o_bin rfl rfl bEql) (rfl) (zv (zi rfl (zg rfl (za rfl (zv ?_))))))
 refine WP.ret ⟨trivial, _, rfl, ?_⟩
 exact ⟨rfl, ((((((isSt_iff.2 ⟨dv, s.bringS [7, 7, 4]⟩).del 7).del 6).del 5).del 4).del 3).del 2⟩
theorem Lg.fresh_ok : Lg.fresh.Ok := ⟨by decide, by decide, by simp [Lg.fresh], List.Pairwise.nil, by decide, by decide, by decide⟩
theorem sOpen_fresh (hT : W told) {n : Nat} (s : Sat h (isDk p δ :: S)) (h1 : 1 ≤ n) (h2 : n ≤ 1024) (hd : δ.dead = false) (hm : δ.mark = []) (hl : δ.log = []) (hc : δ.certain = 0) :
  Call ⟨Tryz.prog, told⟩ 21 [.ptr p 0, .int .i64 (n : Int)] h fun v h' => ∃ a q r, v = .tup [.ptr a 0, .int .i64 0] ∧ Sat h' (isSt a p q r .ptr0 [] 0 :: isPl r p q (Pl.fresh n) :: isLg q p Lg.fresh :: isDk p δ :: S) := by
 refine Call.of_wp (hT.free _ rfl) Tryz.func21 rfl rfl (zg rfl (za rfl (za rfl (zv (zw (zg rfl (zm rfl (WPs.opF rfl rfl rfl (o_bin rfl rfl bLss) (by simp <;> omega) ?_))))))))
 refine zm rfl (zm rfl (WPs.opF rfl rfl rfl (o_bin rfl rfl bGtr) (by simp <;> omega) ?_))
 refine zp rfl (zv (zj rfl (WP.skip (zg rfl (zm rfl (WPs.call rfl rfl rfl rfl rfl rfl rfl (lOpen_fresh hT s hd hm hl hc) ?_))))))
 rintro v h ⟨q, rfl, s⟩
 refine zm rfl (ze rfl (ze rfl (za rfl (za rfl (zv (zw (zg rfl (zm rfl (WPs.opF rfl rfl rfl (o_bin rfl rfl bNeq) (rfl) (zv (zj rfl (WP.skip (zg rfl (zm rfl (zm rfl (zm rfl (WPs.call rfl rfl rfl rfl rfl rfl rfl (pnew_ct (p := p) (q := q) (n := n) hT s) ?_)))))))))))))))))
 rintro v h (⟨hn, _, _⟩ | ⟨_, _, r, rfl, s⟩)
 ·omega
 rw [Int.toNat_natCast] at s
 refine zm rfl (ze rfl (ze rfl (za rfl (za rfl (zv (zw (zg rfl (zm rfl (WPs.opF rfl rfl rfl (o_bin rfl rfl bNeq) (rfl) (zv (zj rfl (WP.skip (zg rfl (zm rfl (zm rfl (zm rfl (zo rfl (o_build rfl (by rw [bv85]; rfl)) ?_)))))))))))))))))
 refine WPs.newS s rfl rfl rfl (o_box rfl rfl) (fun p44 h s => ?_)
 dsimp only [V.cells, List.take, List.length_cons, List.length_nil, Nat.reduceAdd, List.drop, List.cons_append, List.nil_append] at s
 refine za rfl (zv (zg rfl (zm rfl (WPs.call rfl rfl rfl rfl rfl rfl rfl (lFirst_ct hT (s.bringS [2])) ?_))))
 rintro v h' ⟨rfl, rfl⟩
 refine za rfl (zv (zw (zg rfl (zm rfl (WPs.call rfl rfl rfl rfl rfl rfl rfl (lChecked_ct hT (s.bringS [2])) ?_)))))
 rintro v h' ⟨rfl, rfl⟩
 refine za rfl (zv (zg rfl (zm rfl (WPs.opF rfl rfl rfl (o_bin rfl rfl bNeq) (rfl) (zv (zj rfl (WP.skip (zw (zg rfl (zm rfl (zm rfl ?_)))))))))))
 have s1 := isSt_iff.2 ⟨.sl0, (s.nilRo).bringS [1, 0]⟩
 dsimp only [bringA, getA, delA] at s1
 refine WPs.call rfl rfl rfl rfl rfl rfl rfl (again_none (n := 1) hT (s1.bringS [0, 1]) Lg.fresh_ok (by decide) (.inl rfl)) ?_
 rintro v h ⟨rfl, s⟩
 dsimp only [bringA, getA, delA] at s
 refine za rfl (zv (zg rfl (zm rfl (WPs.opF rfl rfl rfl (o_bin rfl rfl bNeq) (rfl) (zv (zj rfl (WP.skip (zg rfl (zm rfl (za rfl (za rfl (zv ?_))))))))))))
 refine WP.ret ⟨trivial, _, rfl, ?_⟩
 exact ⟨_, q, r, rfl, s.bringS [0, 1, 0]⟩
end
end Go.Proofs.YtconhghphklfjaaGreat.Am
