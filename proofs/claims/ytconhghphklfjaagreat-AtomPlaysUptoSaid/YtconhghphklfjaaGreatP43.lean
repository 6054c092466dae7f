/- Whatever groups are done and dropped, written out and checkpointed between, each page is as the groups that were done made it; the conditions are those of the given statement, for arguments that a machine can hold. Part 43 of 49. -/
import Derived.Test.YtconhghphklfjaaGreatP42
namespace Go.Proofs.YtconhghphklfjaaGreat.Am
open Go
theorem checkLD_ok {x : LD} {n : Nat} (h : x.1.Ok) (h2 : x.2.Ok) (hn : n ≤ 1099511627776) : (checkLD x n).2.1.Ok ∧ (checkLD x n).2.2.Ok := by
 have h3 : (x.2.markF (markB x.1.base n)).2.Ok := by
  unfold Dk.markF
  split
  ·exact h2
  ·split
   ·exact h2
   ·split
    ·exact h2.die
    ·exact ⟨h2.cnt.fuse, h2.len, h2.room, h2.now, h2.pages, h2.certain, h2.many⟩
 unfold checkLD
 split
 ·exact ⟨h, h2⟩
 ·split
  ·exact ⟨h, h3⟩
  ·exact ⟨⟨h.size, h.many, h.low, h.rise, h.forced, h.len, hn⟩, h3⟩
def ckLow (ε : Eng) : Nat := lowF ε.1 (keysS ε.1.dirty) (ε.2.1.base + ε.2.1.b.length)
def ck1 (ε : Eng) (data : List Nat) : (Nat × Int) × LD := appendLD ε.2 8 0 0 0 (le 8 (ckLow ε) ++ data) []
theorem ck1_ok {ε : Eng} {data : List Nat} (hε : EOk2 ε) (hlog : ε.2.1.b = ε.2.2.log) (hz : ε.2.1.base + ε.2.1.b.length + 1048584 ≤ 1099511627776) : (ck1 ε data).2.1.Ok ∧ (ck1 ε data).2.2.Ok ∧ (ck1 ε data).1.1 < 1099511627776 := by
 have h := appendLD_ok (x := ε.2) (kd := 8) (tx := 0) (pv := 0) (nx := 0) (data := le 8 (ckLow ε) ++ data) (c := []) hε.lg hε.dk hlog hz
 exact ⟨h.1, h.2.1, h.2.2.2.2.2.2⟩
def ckKeep (ε : Eng) (lo : Nat) : Nat := if lo = 0 then ckLow ε else min (ckLow ε) lo
def ckF (y : (Nat × Int) × LD) : Int × LD := forceLD y.2 y.1.1
def ckC (y : (Nat × Int) × LD) : Int × LD := checkLD (ckF y).2 y.1.1
theorem ckF_okL {y : (Nat × Int) × LD} (h : y.2.1.Ok) : (ckF y).2.1.Ok := by
 rw [ckF]; exact forceLD_okL h
theorem ckF_okD {y : (Nat × Int) × LD} (h : y.2.2.Ok) : (ckF y).2.2.Ok := by
 rw [ckF]; exact forceLD_ok h
theorem ckC_ok {y : (Nat × Int) × LD} (h : y.2.1.Ok) (h2 : y.2.2.Ok) (h3 : y.1.1 < 1099511627776) : (ckC y).2.1.Ok ∧ (ckC y).2.2.Ok := by
 rw [ckC]; exact checkLD_ok (ckF_okL h) (ckF_okD h2) (Nat.le_of_lt h3)
inductive CkT (y : (Nat × Int) × LD) (kp : Nat) (data data0 : List Nat) (chk : Nat) : Int → LD → List Nat → Nat → Prop
 | app : y.1.2 ≠ 0 → CkT y kp data data0 chk y.1.2 y.2 data0 chk
 | force : y.1.2 = 0 → (ckF y).1 ≠ 0 → CkT y kp data data0 chk (ckF y).1 (ckF y).2 data0 chk
 | check : y.1.2 = 0 → (ckF y).1 = 0 → (ckC y).1 ≠ 0 → CkT y kp data data0 chk (ckC y).1 (ckC y).2 data0 chk
 | cut (t : Nat) : y.1.2 = 0 → (ckF y).1 = 0 → (ckC y).1 = 0 →
   ((t = (ckC y).2.1.base + (ckC y).2.1.b.length ∧ (ckC y).2.1.base + (ckC y).2.1.b.length ≤ kp) ∨ ((ckC y).2.1.hasB t = true ∧ t ≤ kp) ∨ t = (ckC y).2.1.base) →
   (ckC y).2.1.base < t → CkT y kp data data0 chk (cutLD (ckC y).2 t).1 (cutLD (ckC y).2 t).2 data y.1.1
 | keep : y.1.2 = 0 → (ckF y).1 = 0 → (ckC y).1 = 0 → CkT y kp data data0 chk 0 (ckC y).2 data y.1.1
inductive CkR (ε : Eng) (lo : Nat) (data data0 : List Nat) (chk : Nat) : Int → Eng → List Nat → Nat → Prop
 | big : 4096 < data.length → CkR ε lo data data0 chk 2 ε data0 chk
 | dead : data.length ≤ 4096 → ε.2.2.dead = true → CkR ε lo data data0 chk 9 ε data0 chk
 | go (e : Int) (y : LD) (data' : List Nat) (chk' : Nat) : data.length ≤ 4096 → ε.2.2.dead = false → CkT (ck1 ε data) (ckKeep ε lo) data data0 chk e y data' chk' → CkR ε lo data data0 chk e (ε.1, y) data' chk'
section
variable {told : Nat → Option (List V → H → Option (V × H))} {h : H} {S : List Assn} {X Y : Assn} {r k q p fid a g chk : Nat} {op v x u wh di : V} {l b was data data0 : List Nat} {ε : Eng}
noncomputable def ckB : Code := pathC [1, 1, 1, 1, 1, 1, 1, 1, 1, 1] ((Tryz.f25.body).getD .skip)
theorem ck_end (hT : W told) {lw : Nat} {w : V} {lsn : Nat} {y : LD} (s : Sat h (isLg q p y.1 :: isDk p y.2 :: pt a (.cells 6 (stC a p q r .ptr0 w lsn) false) :: S)) (h1 : y.1.Ok) (h2 : y.2.Ok) (hlw : lw < 18446744073709551616) {E : List (Nat × V)} (hE : Has E [(0, .ptr a 0), (7, .int .u64 (lw : Int))]) {Q : Ex → List (Nat × V) → H → Prop}
  (q1 : ∀ t E' h', ((t = y.1.base + y.1.b.length ∧ y.1.base + y.1.b.length ≤ lw) ∨ (y.1.hasB t = true ∧ t ≤ lw) ∨ t = y.1.base) → y.1.base < t → look E' 6 = some (.int .i64 (cutLD y t).1) →
   Sat h' (isLg q p (cutLD y t).2.1 :: isDk p (cutLD y t).2.2 :: pt a (.cells 6 (stC a p q r .ptr0 w lsn) false) :: S) → Q .ret E' h')
  (q2 : ∀ E' h', look E' 6 = some (.int .i64 0) → Sat h' (isLg q p y.1 :: isDk p y.2 :: pt a (.cells 6 (stC a p q r .ptr0 w lsn) false) :: S) → Q .ret E' h') :
  WP ⟨Tryz.prog, told⟩ 118 ckB E h Q := by
 have hsz3 := h1.size
 refine WP.has hE (zw (zg rfl (zm rfl (zn rfl (zf rfl (fa85_1 _ _) (zl rfl (by exact s.ld (k := 2) rfl ag44 rfl) ?_))))))
 refine zm rfl (WPs.call rfl rfl rfl rfl rfl rfl rfl (lBelow_ct (n := lw) hT s h1 hlw) ?_)
 rintro v _ ⟨rfl, t, rfl, hr⟩
 refine za rfl (zv (zg rfl (zm rfl (zm rfl (zn rfl (zf rfl (fa85_1 _ _) (zl rfl (by exact s.ld (k := 2) rfl ag44 rfl) ?_)))))))
 refine WPs.call rfl rfl rfl rfl rfl rfl rfl (lFirst_ct hT s) ?_
 rintro v h ⟨rfl, rfl⟩
 by_cases hg : y.1.base < t
 ·skip
  refine WPs.opT rfl rfl rfl (o_bin rfl rfl bGtr) (by simp; exact hg) ?_
  refine zv (zi rfl (zg rfl (zm rfl (zn rfl (zf rfl (fa85_1 _ _) (zl rfl (by exact s.ld (k := 2) rfl ag44 rfl) ?_))))))
  refine zm rfl (WPs.call rfl rfl rfl rfl rfl rfl rfl (cut_ct (n := t) hT s h1 h2 (by rcases hr with ⟨rfl, _⟩ | ⟨_, hr⟩ | rfl <;> omega)) ?_)
  rintro v h ⟨rfl, s⟩
  refine za rfl (zv (WP.ret ?_))
  exact q1 t _ _ hr hg rfl s
 ·skip
  refine WPs.opF rfl rfl rfl (o_bin rfl rfl bGtr) (by simp; exact Nat.not_lt.1 hg) ?_
  refine zv (zj rfl (WP.skip (zg rfl (za rfl (zv (WP.ret ?_))))))
  exact q2 _ _ rfl s
noncomputable def ckL2 : Code := pathC [1, 1, 1, 1, 1] ((Tryz.f25.body).getD .skip)
theorem ck_late (hT : W told) {low lo : Nat} {y : (Nat × Int) × LD} (hdt : Ent X (rdB x data)) (hb2 : data.length ≤ 4096) (s : Sat h (isLg q p y.2.1 :: isDk p y.2.2 :: X :: isSt a p q r .ptr0 data0 chk :: S)) (h1 : y.2.1.Ok) (h2 : y.2.2.Ok) (h3 : y.1.1 < 1099511627776) (hlow : low < 18446744073709551616) (hlo : lo < 18446744073709551616)
  {E : List (Nat × V)} (hE : Has E [(0, .ptr a 0), (1, .int .u64 (lo : Int)), (2, x), (7, .int .u64 (low : Int)), (10, .int .u64 (y.1.1 : Int)), (11, .int .i64 y.1.2)]) {Q : Ex → List (Nat × V) → H → Prop}
  (hq : ∀ e y' data' chk' E' h', CkT y (if lo = 0 then low else min low lo) data data0 chk e y' data' chk' → look E' 6 = some (.int .i64 e) → Sat h' (isLg q p y'.1 :: isDk p y'.2 :: X :: isSt a p q r .ptr0 data' chk' :: S) → Q .ret E' h') :
  WP ⟨Tryz.prog, told⟩ 118 ckL2 E h Q := by
 have ok2L := ckF_okL h1
 have ok2D := ckF_okD h2
 have ok3 := ckC_ok h1 h2 h3
 obtain ⟨dv, s⟩ := isSt_iff.1 (s.bringS [3])
 dsimp only [bringA, getA, delA] at s
 have s := s.bringS [2, 2, 2, 0, 0]
 dsimp only [bringA, getA, delA] at s
 obtain ⟨y2, hy2⟩ : ∃ y2, y2 = ckF y := ⟨_, rfl⟩
 obtain ⟨y3, hy3⟩ : ∃ y3, y3 = ckC y := ⟨_, rfl⟩
 have ey2 : forceLD (y.2.1, y.2.2) y.1.1 = y2 := by rw [hy2, ckF]
 have ey3 : checkLD (y2.2.1, y2.2.2) y.1.1 = y3 := by rw [hy2, hy3, ckC]
 rw [← hy2] at ok2L ok2D
 rw [← hy3] at ok3
 refine WP.has hE (zw (zg rfl (zm rfl ?_)))
 by_cases he : y.1.2 = 0
 ·skip
  refine WPs.opF rfl rfl rfl (o_bin rfl rfl bNeq) (by simp; exact he) ?_
  refine zv (zj rfl (WP.skip (zw (zg rfl (zm rfl (zn rfl (zf rfl (fa85_1 _ _) (zl rfl (by exact s.ld (k := 3) rfl ag44 rfl) ?_))))))))
  refine zm rfl (WPs.call rfl rfl rfl rfl rfl rfl rfl (lForceF hT s h1 h2.fuse) ?_)
  rw [ey2]
  rintro v h ⟨rfl, s⟩
  refine za rfl (zv (zg rfl (zm rfl ?_)))
  by_cases he2 : y2.1 = 0
  ·skip
   refine WPs.opF rfl rfl rfl (o_bin rfl rfl bNeq) (by simp; exact he2) ?_
   refine zv (zj rfl (WP.skip (zw (zg rfl (zm rfl (zn rfl (zf rfl (fa85_1 _ _) (zl rfl (by exact s.ld (k := 3) rfl ag44 rfl) ?_))))))))
   refine zm rfl (WPs.call rfl rfl rfl rfl rfl rfl rfl (lCheckF hT s ok2L ok2D.fuse (Nat.lt_trans h3 (by decide))) ?_)
   rw [ey3]
   rintro v h ⟨rfl, s⟩
   refine za rfl (zv (zg rfl (zm rfl ?_)))
   by_cases he3 : y3.1 = 0
   ·skip
    refine WPs.opF rfl rfl rfl (o_bin rfl rfl bNeq) (by simp; exact he3) ?_
    refine zv (zj rfl (WP.skip (zg rfl (zm rfl (zm rfl (zm rfl (WPs.call rfl rfl rfl rfl rfl rfl rfl (clone_atom hT (s.bringS [2]) hdt (by omega)) ?_)))))))
    intro w h s
    dsimp only [bringA, getA, delA] at s
    have hw := (s.buf (k := 0) rfl).view.cells
    have s := s.freezeBuf
    refine zm rfl (zn rfl (zf rfl (fa85_4 _ _) (WPs.stS rfl rfl rfl rfl rfl (s.st1 (k := 4) rfl sz32 rfl (by decide) hw.1 hw.2) ?_)))
    intro h s
    dsimp only [stC, Nat.reduceAdd, List.set, setA] at s
    refine zn rfl (zf rfl (fa85_5 _ _) ?_)
    refine WPs.stS rfl rfl rfl rfl rfl (by exact s.st1 (k := 4) rfl sz35 rfl (by decide) rfl rfl) (fun h s => ?_)
    dsimp only [Nat.reduceAdd, List.set, setA] at s
    refine zv (zw (zg rfl (zm rfl ?_)))
    have s := s.bringS [2, 2, 2, 0, 0]
    dsimp only [bringA, getA, delA] at s
    have rest : ∀ lw E, lw = (if lo = 0 then low else min low lo) → lw < 18446744073709551616 → Has E [(0, .ptr a 0), (7, .int .u64 (lw : Int))] → WP ⟨Tryz.prog, told⟩ 118 ckB E h Q := by
     intro lw E hlw2 hlt hE
     refine ck_end hT s ok3.1 ok3.2 hlt hE (fun t E' h' hr hg l6 s => ?_) (fun E' h' l6 s => ?_)
     ·subst hlw2 hy2 hy3
      refine hq _ _ _ _ E' h' (.cut t he he2 he3 hr hg) l6 ?_
      exact (isSt_iff.2 ⟨w, (s.bringS [2, 2, 0, 0, 0]).del 5⟩).bringS [1, 1, 1, 0]
     ·subst hlw2 hy2 hy3
      refine hq _ _ _ _ E' h' (.keep he he2 he3) l6 ?_
      exact (isSt_iff.2 ⟨w, (s.bringS [2, 2, 0, 0, 0]).del 5⟩).bringS [1, 1, 1, 0]
    by_cases h0 : lo = 0
    ·skip
     refine WPs.opF rfl rfl rfl (o_bin rfl rfl bNeq) (by simp; omega) ?_
     refine zv (zj rfl ?_)
     exact WP.skip (rest low _ (by rw [if_pos h0]) hlow ⟨rfl, rfl, trivial⟩)
    ·skip
     refine WPs.opT rfl rfl rfl (o_bin rfl rfl bNeq) (by simp; omega) ?_
     refine zv (zi rfl (zr rfl (zm rfl (zm rfl (zo rfl (o_bi rfl rfl min1) ?_)))))
     have hmn : min (low : Int) (lo : Int) = ((min low lo : Nat) : Int) := by omega
     rw [hmn]
     refine za rfl (zv ?_)
     exact rest (min low lo) _ (by rw [if_neg h0]) (by omega) ⟨rfl, rfl, trivial⟩
   ·skip
    refine WPs.opT rfl rfl rfl (o_bin rfl rfl bNeq) (by simp; exact he3) ?_
    refine zv (zi rfl (zg rfl (zm rfl (za rfl (zv (WP.ret ?_))))))
    subst hy2 hy3
    exact hq _ _ _ _ _ _ (.check he he2 he3) rfl ((isSt_iff.2 ⟨dv, s.bringS [3, 3, 0, 0, 0]⟩).bringS [1, 1, 1, 0])
  ·skip
   refine WPs.opT rfl rfl rfl (o_bin rfl rfl bNeq) (by simp; exact he2) ?_
   refine zv (zi rfl (zg rfl (zm rfl (za rfl (zv (WP.ret ?_))))))
   subst hy2 hy3
   exact hq _ _ _ _ _ _ (.force he he2) rfl ((isSt_iff.2 ⟨dv, s.bringS [3, 3, 0, 0, 0]⟩).bringS [1, 1, 1, 0])
 ·skip
  refine WPs.opT rfl rfl rfl (o_bin rfl rfl bNeq) (by simp; exact he) ?_
  refine zv (zi rfl (zg rfl (zm rfl (za rfl (zv (WP.ret ?_))))))
  exact hq _ _ _ _ _ _ (.app he) rfl ((isSt_iff.2 ⟨dv, s.bringS [3, 3, 0, 0, 0]⟩).bringS [1, 1, 1, 0])
theorem ckpt_ct (hT : W told) {lo : Nat} (s : Sat h (isSt a p q r .ptr0 data0 chk :: isPl r p q ε.1 :: isLg q p ε.2.1 :: isDk p ε.2.2 :: X :: S)) (hX : Ent X (rdB x data)) (hε : EOk2 ε) (hlo : lo < 18446744073709551616)
  (hm : ε.1.dirty.length ≤ 1048576) (hk : ∀ n ∈ ε.1.dirty.map (·.1), (Lit.int .i64 n).wf = true) (hlog : ε.2.1.b = ε.2.2.log) (hz : ε.2.1.base + ε.2.1.b.length + 1048584 ≤ 1099511627776) :
  Call ⟨Tryz.prog, told⟩ 25 [.ptr a 0, .int .u64 (lo : Int), x] h fun v h' => ∃ e ε' data' chk', CkR ε lo data data0 chk e ε' data' chk' ∧ v = .int .i64 e ∧
   Sat h' (isSt a p q r .ptr0 data' chk' :: isPl r p q ε'.1 :: isLg q p ε'.2.1 :: isDk p ε'.2.2 :: X :: S) := by
 have s0 := s
 have hdt := s.viewX (k := 4) rfl hX
 obtain ⟨dv, s⟩ := isSt_iff.1 s
 refine Call.of_wp (hT.free _ rfl) Tryz.func25 rfl rfl (zg rfl (za rfl (zv (zw (WP.block (zg rfl (zm rfl (zn rfl (zf rfl (fa85_3 _ _) (zl rfl (by exact s.ld (k := 0) rfl ag27 rfl) ?_))))))))))
 refine WPs.opF rfl rfl rfl (o_bin rfl rfl (neq00 Tryz.underlying27)) (rfl) (za rfl (zv (zj rfl (zg rfl (zm rfl (zo rfl (o_len rfl rfl rfl (len_view Tryz.underlying32 hdt)) ?_))))))
 by_cases hb : 4096 < data.length
 ·skip
  refine WPs.opT rfl rfl rfl (o_bin rfl rfl bGtr) (by simp; omega) ?_
  refine za rfl (zv (zi rfl (zg rfl (za rfl (zv ?_)))))
  refine WP.ret ⟨trivial, _, rfl, ?_⟩
  exact ⟨2, ε, _, _, .big hb, rfl, s0⟩
 ·have hb2 : data.length ≤ 4096 := by omega
  refine WPs.opF rfl rfl rfl (o_bin rfl rfl bGtr) (by simp; omega) ?_
  refine za rfl (zv (zj rfl (zg rfl (zm rfl (zn rfl (zf rfl (fa85_0 _ _) (zl rfl (by exact s.ld (k := 0) rfl ag23 rfl) ?_)))))))
  refine WPs.call rfl rfl rfl rfl rfl rfl rfl (dDead_ct hT (s.bringS [4])) ?_
  rintro v h ⟨rfl, rfl⟩
  refine za rfl (zv ?_)
  cases hd : ε.2.2.dead with
  | true =>
   refine zi rfl (zg rfl (za rfl (zv ?_)))
   refine WP.ret ⟨trivial, _, rfl, ?_⟩
   exact ⟨9, ε, _, _, .dead hb2 hd, rfl, s0⟩
  | false =>
   refine zj rfl (WP.skip (zg rfl (zm rfl (zn rfl (zf rfl (fa85_1 _ _) (zl rfl (by exact s.ld (k := 0) rfl ag44 rfl) ?_))))))
   refine WPs.call rfl rfl rfl rfl rfl rfl rfl (lEnd_ct hT (s.bringS [3]) hε.lg.size) ?_
   rintro v h ⟨rfl, rfl⟩
   refine za rfl (zv (zw (zg rfl (zm rfl (zn rfl (zf rfl (fa85_2 _ _) (zl rfl (by exact s.ld (k := 0) rfl ag77 rfl) ?_)))))))
   refine WPs.call rfl rfl rfl rfl rfl rfl rfl (dirty_ct hT (s.bringS [2]) hm hk) ?_
   intro av h s
   have hl : (keysS ε.1.dirty).length = ε.1.dirty.length := by rw [keysS, (srtI_perm _).length_eq, List.length_map]
   dsimp only [bringA, getA, delA] at s
   refine zo rfl (o_len rfl rfl rfl (s.arrLen (n := (keysS ε.1.dirty).length) (j := 0) rfl (by rw [dirtC_len]) (by decide) Tryz.underlying127)) ?_
   refine zm rfl (zv (WP.block ?_))
   refine ck_loop hT (ks := keysS ε.1.dirty) (by omega) (keysS ε.1.dirty).length 0 (ε.2.1.base + ε.2.1.b.length) _ _ _ (by omega) s ⟨rfl, rfl, rfl, rfl, rfl, rfl, rfl, trivial⟩ (fun E' h' hE' s' => ?_)
   rw [List.drop_zero] at hE'
   have hE' : Has E' [(0, .ptr a 0), (1, .int .u64 (lo : Int)), (2, x), (7, .int .u64 (ckLow ε : Nat))] := hE'
   have s := s'.del 0
   dsimp only [delA] at s
   have hlow : ckLow ε < 18446744073709551616 := by
    have := lowF_le ε.1 (keysS ε.1.dirty) (ε.2.1.base + ε.2.1.b.length)
    have := hε.lg.size
    unfold ckLow; omega
   refine WP.has hE' (zw ?_)
   have okA := ck1_ok (data := data) hε hlog hz
   have s := s.nilBuf
   have s0 := s
   have hdb := beqView hdt
   refine WP.drawn [some (0, 3), some (0, 3), some (0, 3), some (0, 3), none, none, some (0, 2), none, none, none, none, none, none, none, none] rfl (by kernel_rfl) (by kernel_rfl) ?_
   refine zM rfl (zN rfl (zF rfl (fa85_1 _ _) (zL rfl (by exact s.ld (k := 2) rfl ag44 rfl) ?_)))
   refine zM rfl (WPt.any rfl rfl rfl rfl (OpR.call rfl rfl rfl rfl (lay_ct (z := 8) hT s (by decide) (by simp))) ?_)
   intro v1 h s
   rw [List.nil_append] at s
   have s1 := s
   obtain ⟨lw, hlw⟩ : ∃ lw, lw = le 8 (ckLow ε) := ⟨_, rfl⟩
   have hlwl : lw.length = 8 := by rw [hlw, le_len]
   have eck : ck1 ε data = appendLD ε.2 8 0 0 0 (lw ++ data) [] := by rw [hlw]; rfl
   rw [← hlw] at s
   refine zM rfl (WPt.any rfl rfl rfl rfl (OpR.appB rfl (s.bringS [0, 5]) hX rfl rfl rfl rfl (by omega)) ?_)
   intro v2 h s
   dsimp only [bringA, getA, delA] at s
   obtain ⟨vi, vo, vc, rfl⟩ := view_sl (s.buf (k := 0) rfl).view (by simp only [List.length_append]; omega)
   have s2 := s
   refine zO rfl (o_build rfl (by rw [bv40]; rfl)) ?_
   have s : Sat h (.arr 4 .sl0 [] :: chgA [] [] :: _) := (s.addPu (φ := True) trivial).nilArr
   refine WPt.any rfl rfl rfl rfl (OpR.call rfl rfl rfl rfl (lAppendF (kd := 8) (tx := 0) (pv := 0) (nx := 0) (ch := .sl0) hT (s.bringS [7, 7, 2, 0, 0]) (rd_buf _ _) ⟨by simp [chsFit], by decide, by decide, by decide, by simp; omega⟩ hε.lg hε.dk)) ?_
   rintro v h ⟨rfl, s⟩
   dsimp only [bringA, getA, delA] at s
   rw [show appendLD (ε.2.1, ε.2.2) 8 0 0 0 (lw ++ data) [] = ck1 ε data from eck.symm] at s ⊢
   obtain ⟨y1, hy1⟩ : ∃ y1, y1 = ck1 ε data := ⟨_, rfl⟩
   rw [← hy1] at s okA ⊢
   refine zM rfl (zO rfl (o_extract rfl rfl) (zO rfl (o_extract rfl rfl) (zA rfl (zA rfl ?_))))
   refine WPt.nil ⟨⟨fun _ _ => .inr ⟨rfl, ⟨_, o_move rfl⟩, beqV _ rfl⟩, fun _ _ => .inr ⟨rfl, ⟨_, o_nil rfl⟩, beqV _ rfl⟩, fun _ _ => .inr ⟨rfl, ⟨_, o_fa rfl (fa85_1 _ _)⟩, beqV _ rfl⟩, heaps3 (.inr ⟨rfl, ⟨_, o_load rfl (by exact s0.ld (k := 2) rfl ag44 rfl)⟩, beqV _ rfl⟩) (.inr ⟨rfl, ⟨_, o_load rfl (by exact s1.ld (k := 2) rfl ag44 rfl)⟩, beqV _ rfl⟩) (.inr ⟨rfl, ⟨_, o_load rfl (by exact s2.ld (k := 3) rfl ag44 rfl)⟩, beqV _ rfl⟩), trivial, trivial, fun _ _ => .inr ⟨rfl, ⟨_, o_move rfl⟩, hdb⟩, trivial, trivial, trivial, trivial, trivial, trivial, trivial, trivial, trivial⟩, ?_⟩
   have s := ((s.del 4).del 3).del 2
   dsimp only [delA] at s
   have s := (isSt_iff.2 ⟨dv, s.bringS [4, 4]⟩).bringS [1, 1, 1, 0]
   dsimp only [bringA, getA, delA] at s
   refine ck_late hT hX hb2 s okA.1 okA.2.1 okA.2.2 hlow hlo ⟨rfl, rfl, rfl, rfl, rfl, rfl, trivial⟩ (fun e y' data' chk' E' h' hc l6 s2 => ?_)
   subst hy1
   exact ⟨trivial, _, res1 l6, e, (ε.1, y'), data', chk', .go e y' data' chk' hb2 hd hc, rfl, s2.bringS [3, 3, 0, 0, 0]⟩
end
end Go.Proofs.YtconhghphklfjaaGreat.Am
namespace Go.Proofs.YtconhghphklfjaaGreat.Am
open Go
theorem info_bool : ∃ i, Tryz.prog.info? 4 = some i ∧ i.size = 1 ∧ i.bytes = 1 :=
 ⟨_, (show Tryz.prog.info? 4 = some ((Tryz.prog.info? 4).getD default) by kernel_rfl), by kernel_rfl, by kernel_rfl⟩
theorem repeatB : ∀ n : Nat, repeatL [V.bool false] n = bsV (List.replicate n false) := by
 intro n
 induction n with
 | zero => rfl
 | succ n ih => simp only [repeatL, ih, bsV, List.replicate_succ, List.map_cons]; rfl
theorem shl8u {P : Program} {h : H} {t : TypeId} {x y : Operand} {n : Nat} (hn : n < 72057594037927936) : binV P h .shl t x y (.int .u64 (n : Int)) (.int .u64 8) = some (.int .u64 ((n * 256 : Nat) : Int)) := by
 simp only [binV, shiftV, IntKind.bits]
 rw [show min ((8 : Int).toNat) 64 = 8 from rfl, show decide ((8 : Int) < 0) = false from rfl, cond_false]
 have : (n : Int) * 2 ^ 8 = ((n * 256 : Nat) : Int) := by rw [show (2 : Int) ^ 8 = 256 from rfl]; omega
 rw [this, wrap_u64 (by omega)]
theorem or8u {P : Program} {h : H} {t : TypeId} {x y : Operand} {a d : Nat} (ha : a < 72057594037927936) (hd : d < 256) : binV P h .or t x y (.int .u64 ((a * 256 : Nat) : Int)) (.int .u64 (d : Int)) = some (.int .u64 ((d + 256 * a : Nat) : Int)) := by
 have h1 : (((a * 256 : Nat) : Int) % (2 ^ (IntKind.u64).bits : Int)).toNat = a * 256 := by simp only [IntKind.bits]; omega
 have h2 : ((d : Int) % (2 ^ (IntKind.u64).bits : Int)).toNat = d := by simp only [IntKind.bits]; omega
 have h3 : Nat.lor (a * 256) d = d + 256 * a := by
  have := Nat.two_pow_add_eq_or_of_lt (i := 8) (b := d) (by omega) a
  rw [show a * 256 = 2 ^ 8 * a by omega, Nat.add_comm]
  exact this.symm
 simp only [binV, ikBeq, cond_true, intV, bitsV, h1, h2, h3]
 rw [wrap_u64 (by omega)]
section
variable {told : Nat → Option (List V → H → Option (V × H))} {h : H} {S : List Assn} {X : Assn} {k : Nat} {v : V} {l : List Nat}
noncomputable def g1L : Code := pathC [1, 1, 0, 1, 0, 0] ((Tryz.f155.body).getD .skip)
theorem get1_loop {a z : Nat} (hv : View h v l) (hz : z ≤ 7) (hl : a + z ≤ l.length) (hl2 : l.length ≤ 65536) : ∀ (i : Nat) (E : List (Nat × V)) (Q : Ex → List (Nat × V) → H → Prop), i ≤ z →
  Has E [(0, v), (1, .int .i64 (a : Int)), (7, .int .u64 (leN ((l.take (a + z)).drop (a + i)) : Nat)), (8, .int .i64 ((i : Int) - 1))] → (∀ E', look E' 7 = some (.int .u64 (atL l a z : Nat)) → Q (.exit 0) E' h) → WP ⟨Tryz.prog, told⟩ 26 (.loop g1L) E h Q := by
 intro i
 induction i with
 | zero =>
  intro E Q hi hE hq
  refine WP.loop (WP.has hE (zw (zg rfl (zm rfl (WPs.opF rfl rfl rfl (o_bin rfl rfl bGeq) (by simp <;> omega) ?_)))))
  refine zv (zj rfl (WP.exit ?_))
  exact hq _ rfl
 | succ i ih =>
  intro E Q hi hE hq
  have hb : l[a + i]? = some (l[a + i]'(by omega)) := List.getElem?_eq_getElem _
  generalize hbe : (l[a + i]'(by omega)) = b at hb
  have hb2 : b < 256 := hv.1 b (List.mem_of_getElem? hb)
  obtain ⟨id, off, e1, e2⟩ := index_view hv hb
  have ed : (l.take (a + z)).drop (a + i) = b :: (l.take (a + z)).drop (a + (i + 1)) := by
   have h1 : a + i < (l.take (a + z)).length := by rw [List.length_take]; omega
   rw [List.drop_eq_getElem_cons h1, List.getElem_take, hbe]; rfl
  have hlt := leN_lt ((l.take (a + z)).drop (a + (i + 1))) (fun x hx => hv.1 x (List.mem_of_mem_take (List.mem_of_mem_drop hx)))
  have hlen : ((l.take (a + z)).drop (a + (i + 1))).length ≤ 6 := by simp; omega
  have hp := Nat.pow_le_pow_right (n := 256) (by omega) hlen
  have e3 : ((i + 1 : Nat) : Int) - 1 = (i : Int) := by omega
  have e4 : (a : Int) + (i : Int) = ((a + i : Nat) : Int) := by omega
  rw [e3] at hE
  refine WP.loop (WP.has hE (zw (zg rfl (zm rfl (WPs.opT rfl rfl rfl (o_bin rfl rfl bGeq) (by simp <;> omega) ?_)))))
  refine zv (zi rfl (WP.skip (zw (WP.block (zr rfl (zm rfl (zb rfl (shl8u (by omega)) ?_)))))))
  refine zm rfl (zm rfl (zm rfl (zb rfl (by exact bAdd (wrapS (by omega) (by omega))) ?_)))
  rw [e4]
  refine zo rfl (o_ia (r := .ptr id off) rfl rfl e1) (zl rfl e2 (zo rfl (o_conv rfl (by exact cvI Tryz.underlying5 Tryz.underlying35 (wrapU (by omega) (by omega)))) ?_))
  refine zb rfl (or8u (by omega) hb2) ?_
  refine za rfl (zv (zr rfl (zm rfl (zb rfl (by exact bSub (wrapS (by omega) (by omega))) ?_))))
  refine za rfl (zv ?_)
  refine ih _ Q (by omega) ?_ hq
  rw [ed, leN]
  exact ⟨rfl, rfl, rfl, rfl, trivial⟩
theorem get1_ct (hT : W told) {a z : Nat} (s : Sat h S) (hk : getA S k = some X) (hX : Ent X (rdB v l)) (hz : z ≤ 7) (hl : a + z ≤ l.length) (hl2 : l.length ≤ 65536) :
  Call ⟨Tryz.prog, told⟩ 155 [v, .int .i64 (a : Int), .int .i64 (z : Int)] h fun r h' => r = .int .u64 (atL l a z : Nat) ∧ h' = h := by
 have hv := s.viewX hk hX
 refine Call.of_wp (hT.free _ rfl) Tryz.func155 rfl rfl (zg rfl (za rfl (zv (zg rfl (za rfl (zv (zw (zg rfl (zm rfl (zb rfl (by exact bSub (wrapS (by omega) (by omega))) ?_))))))))))
 refine za rfl (zv (WP.block ?_))
 refine get1_loop (a := a) (z := z) hv hz hl hl2 z _ _ (Nat.le_refl _) ⟨rfl, rfl, ?_, rfl, trivial⟩ (fun E' hE' => ?_)
 ·rw [show (l.take (a + z)).drop (a + z) = [] by rw [List.drop_eq_nil_iff, List.length_take]; omega]
  rfl
 refine WP.has (F := [(7, .int .u64 (atL l a z : Nat))]) ⟨hE', trivial⟩ (zg rfl (zm rfl (za rfl (zv ?_))))
 refine WP.ret ⟨trivial, _, rfl, ?_⟩
 exact ⟨rfl, rfl⟩
theorem rget_ct (hT : W told) {a z : Nat} (s : Sat h S) (hk : getA S k = some X) (hX : Ent X (rdB v l)) (hz : z ≤ 7) (hl : a + z ≤ l.length) (hl2 : l.length ≤ 65536) :
  Call ⟨Tryz.prog, told⟩ 134 [v, .int .i64 (a : Int), .int .i64 (z : Int)] h fun r h' => r = .int .i64 (atL l a z : Nat) ∧ h' = h := by
 have hv := s.viewX hk hX
 have hlt := atL_lt (l := l) (a := a) (z := z) hv.1
 have hp := Nat.pow_le_pow_right (n := 256) (by omega) hz
 refine Call.of_wp (hT.free _ rfl) Tryz.func134 rfl rfl (zg rfl (za rfl (zv (zg rfl (zm rfl (zm rfl (zm rfl (WPs.call rfl rfl rfl rfl rfl rfl rfl (get1_ct hT s hk hX hz hl hl2) ?_))))))))
 rintro r h' ⟨rfl, rfl⟩
 refine zo rfl (o_conv rfl (by exact cvI Tryz.underlying35 Tryz.underlying3 (wrapS (by omega) (by omega)))) ?_
 refine za rfl (zv ?_)
 refine WP.ret ⟨trivial, _, rfl, ?_⟩
 exact ⟨rfl, rfl⟩
theorem rcount_ct (hT : W told) (s : Sat h S) (hk : getA S k = some X) (hX : Ent X (rdB v l)) (hl : l.length = 512) :
  Call ⟨Tryz.prog, told⟩ 114 [v] h fun r h' => r = .int .i64 (cntL l : Nat) ∧ h' = h := by
 refine Call.of_wp (hT.free _ rfl) Tryz.func114 rfl rfl (zg rfl (za rfl (zv (zg rfl (zm rfl (WPs.call rfl rfl rfl rfl rfl rfl rfl (rget_ct (a := 14) (z := 2) hT s hk hX (by decide) (by omega) (by omega)) ?_))))))
 rintro r h' ⟨rfl, rfl⟩
 refine za rfl (zv ?_)
 refine WP.ret ⟨trivial, _, rfl, ?_⟩
 exact ⟨rfl, rfl⟩
theorem rlow_ct (hT : W told) (s : Sat h S) (hk : getA S k = some X) (hX : Ent X (rdB v l)) (hl : l.length = 512) :
  Call ⟨Tryz.prog, told⟩ 115 [v] h fun r h' => r = .int .i64 (lowL l : Nat) ∧ h' = h := by
 refine Call.of_wp (hT.free _ rfl) Tryz.func115 rfl rfl (zg rfl (za rfl (zv (zg rfl (zm rfl (WPs.call rfl rfl rfl rfl rfl rfl rfl (rget_ct (a := 16) (z := 2) hT s hk hX (by decide) (by omega) (by omega)) ?_))))))
 rintro r h' ⟨rfl, rfl⟩
 refine za rfl (zv ?_)
 refine WP.ret ⟨trivial, _, rfl, ?_⟩
 exact ⟨rfl, rfl⟩
theorem rslot_ct (hT : W told) {i : Nat} (s : Sat h S) (hk : getA S k = some X) (hX : Ent X (rdB v l)) (hl : l.length = 512) (hi : 30 + 4 * i ≤ 512) :
  Call ⟨Tryz.prog, told⟩ 116 [v, .int .i64 (i : Int)] h fun r h' => r = .tup [.int .i64 (slotF l i : Nat), .int .i64 (slotZ l i : Nat)] ∧ h' = h := by
 have e1 : 26 + 4 * (i : Int) = ((26 + 4 * i : Nat) : Int) := by omega
 have e2 : 28 + 4 * (i : Int) = ((26 + 4 * i + 2 : Nat) : Int) := by omega
 refine Call.of_wp (hT.free _ rfl) Tryz.func116 rfl rfl (zg rfl (za rfl (za rfl (zv (zg rfl (zm rfl (zm rfl (zb rfl (by exact bMul (wrapS (by omega) (by omega))) ?_))))))))
 refine zb rfl (by exact bAdd (wrapS (by omega) (by omega))) ?_
 rw [e1]
 refine WPs.call rfl rfl rfl rfl rfl rfl rfl (rget_ct (a := 26 + 4 * i) (z := 2) hT s hk hX (by decide) (by omega) (by omega)) ?_
 rintro r h' ⟨rfl, rfl⟩
 refine zm rfl (zm rfl (zb rfl (by exact bMul (wrapS (by omega) (by omega))) ?_))
 refine zb rfl (by exact bAdd (wrapS (by omega) (by omega))) ?_
 rw [e2]
 refine WPs.call rfl rfl rfl rfl rfl rfl rfl (rget_ct (a := 26 + 4 * i + 2) (z := 2) hT s hk hX (by decide) (by omega) (by omega)) ?_
 rintro r h' ⟨rfl, rfl⟩
 refine za rfl (za rfl (zv ?_))
 refine WP.ret ⟨trivial, _, rfl, ?_⟩
 exact ⟨rfl, rfl⟩
noncomputable def lgdO : Code := pathC [1, 1, 1, 1, 1, 1, 0, 1, 0, 0] ((Tryz.f72.body).getD .skip)
noncomputable def lgdI : Code := pathC [1, 1, 1, 1, 1, 1, 0, 1, 0, 0, 1, 0, 0, 1, 1, 1, 0, 0] ((Tryz.f72.body).getD .skip)
theorem rgood_inner {id a z : Nat} {v0 v3 v4 v6 : V} (haz : a + z ≤ 512) : ∀ (m q : Nat) (t : List Bool) (h : H) (E : List (Nat × V)) (Q : Ex → List (Nat × V) → H → Prop), q + m = a + z → t.length = 512 →
  Sat h (pt id (.cells 512 (bsV t) false) :: S) → Has E [(0, v0), (3, v3), (4, v4), (5, .sl id 0 512 (.exact 512)), (6, v6), (7, .int .i64 (a : Int)), (8, .int .i64 (z : Int)), (9, .int .i64 (q : Int))] →
  (markL m q t = none → ∀ E' h', look E' 2 = some (.bool false) → Sat h' S → Q .ret E' h') →
  (∀ t' E' h', markL m q t = some t' → Has E' [(0, v0), (3, v3), (4, v4), (5, .sl id 0 512 (.exact 512)), (6, v6)] → Sat h' (pt id (.cells 512 (bsV t') false) :: S) → Q (.exit 2) E' h') →
  WP ⟨Tryz.prog, told⟩ 68 (.loop lgdI) E h Q := by
 intro m
 induction m with
 | zero =>
  intro q t h E Q hq ht s hE hr hx
  refine WP.loop (WP.has hE (zw (zg rfl (zm rfl (zm rfl (zm rfl (zb rfl (by exact bAdd (wrapS (by omega) (by omega))) ?_)))))))
  refine WPs.opF rfl rfl rfl (o_bin rfl rfl bLss) (by simp; omega) ?_
  refine zv (zj rfl (WP.exit ?_))
  exact hx t _ _ rfl ⟨rfl, rfl, rfl, rfl, rfl, trivial⟩ s
 | succ m ih =>
  intro q t h E Q hq ht s hE hr hx
  have hqt : q < t.length := by omega
  have hia : indexAddrV Tryz.prog 186 (.sl id 0 512 (.exact 512)) (.int .i64 (q : Int)) = some (.ptr id q) := by
   rw [ia186, show (decide ((0 : Int) ≤ (q : Int)) && decide ((q : Int) < ((512 : Nat) : Int))) = true by simp; omega, cond_true]; simp
  refine WP.loop (WP.has hE (zw (zg rfl (zm rfl (zm rfl (zm rfl (zb rfl (by exact bAdd (wrapS (by omega) (by omega))) ?_)))))))
  refine WPs.opT rfl rfl rfl (o_bin rfl rfl bLss) (by simp; omega) ?_
  refine zv (zi rfl (WP.skip (zw (WP.block (zw (zg rfl (zm rfl (zm rfl (zo rfl (o_ia (r := .ptr id q) rfl rfl hia) ?_)))))))))
  cases hm : t.getD q false with
  | true =>
   refine WPs.opT rfl rfl rfl (o_load rfl (s.ld (k := 0) rfl ag4 (bsV_nth hqt))) (hm) (zv (zi rfl (zg rfl (za rfl (zv (WP.ret ?_))))))
   refine hr ?_ _ _ rfl s.drop
   rw [markL, if_pos hm]
  | false =>
   refine WPs.opF rfl rfl rfl (o_load rfl (s.ld (k := 0) rfl ag4 (bsV_nth hqt))) (hm) (zv (zj rfl (WP.skip (zr rfl (zm rfl (zm rfl (zo rfl (o_ia (r := .ptr id q) rfl rfl hia) (WPs.stS rfl rfl rfl rfl rfl (s.st1 (k := 0) rfl sz4 (by simp [bsV, ht]) (by omega) rfl rfl) ?_))))))))
   intro h s
   dsimp only [setA] at s
   rw [bsV_set] at s
   refine zv (zr rfl (zm rfl (zb rfl (by exact bAdd (wrapS (by omega) (by omega))) ?_)))
   refine za rfl (zv ?_)
   have e : markL (m + 1) q t = markL m (q + 1) (t.set q true) := by rw [markL, if_neg (by rw [hm]; decide)]
   rw [e] at hr hx
   exact ih (q + 1) (t.set q true) h _ Q (by omega) (by simp [ht]) s ⟨rfl, rfl, rfl, rfl, rfl, rfl, rfl, rfl, trivial⟩ hr hx
theorem rgood_outer (hT : W told) {id : Nat} {n low : Nat} {x : V} (hX : Ent X (rdB x l)) (hl : l.length = 512) (hlt : ∀ b ∈ l, b < 256) (hn : n = cntL l) (hlow : 26 + 4 * n ≤ low) (hlow2 : low ≤ 512) : ∀ (m i : Nat) (t : List Bool) (h : H) (E : List (Nat × V)) (Q : Ex → List (Nat × V) → H → Prop), i + m = n → t.length = 512 →
  Sat h (pt id (.cells 512 (bsV t) false) :: X :: S) → Has E [(0, x), (3, .int .i64 (n : Int)), (4, .int .i64 (low : Int)), (5, .sl id 0 512 (.exact 512)), (6, .int .i64 (i : Int))] →
  (cellsL l low m i t = false → ∀ E' h', look E' 2 = some (.bool false) → Sat h' (X :: S) → Q .ret E' h') →
  (cellsL l low m i t = true → ∀ E' h', Sat h' (X :: S) → Q (.exit 0) E' h') →
  WP ⟨Tryz.prog, told⟩ 68 (.loop lgdO) E h Q := by
 intro m
 induction m with
 | zero =>
  intro i t h E Q hi ht s hE hr hx
  refine WP.loop (WP.has hE (zw (zg rfl (zm rfl (zm rfl (WPs.opF rfl rfl rfl (o_bin rfl rfl bLss) (by simp; omega) ?_))))))
  refine zv (zj rfl (WP.exit ?_))
  exact hx rfl _ _ s.drop
 | succ m ih =>
  intro i t h E Q hi ht s hE hr hx
  have hf := atL_lt (l := l) (a := 26 + 4 * i) (z := 2) hlt
  have hz := atL_lt (l := l) (a := 26 + 4 * i + 2) (z := 2) hlt
  have ef : slotF l i = atL l (26 + 4 * i) 2 := rfl
  have ez : slotZ l i = atL l (26 + 4 * i + 2) 2 := rfl
  refine WP.loop (WP.has hE (zw (zg rfl (zm rfl (zm rfl (WPs.opT rfl rfl rfl (o_bin rfl rfl bLss) (by simp; omega) ?_))))))
  refine zv (zi rfl (WP.skip (zw (WP.block (zg rfl (zm rfl (zm rfl (WPs.call rfl rfl rfl rfl rfl rfl rfl (rslot_ct (i := i) hT s (k := 1) rfl hX hl (by omega)) ?_))))))))
  rintro r h' ⟨rfl, rfl⟩
  refine zm rfl (ze rfl (ze rfl (za rfl (za rfl (zv (zw (zg rfl (zm rfl (zm rfl ?_)))))))))
  refine WPs.opB rfl rfl rfl (o_bin rfl rfl bLss) ?_ ?_
  ·intro hq
   have hq : slotF l i < low := by simp at hq; omega
   refine zm rfl (zx rfl (zx rfl (zx rfl (zx rfl (zq rfl (zv (zi rfl (zg rfl (za rfl (zv (WP.ret ?_)))))))))))
   refine hr ?_ _ _ rfl s.drop
   rw [cellsL, if_pos (.inl hq)]
  ·intro hq
   have hq : low ≤ slotF l i := by simp at hq; omega
   refine zm rfl (zm rfl (zm rfl (zb rfl (by exact bAdd (wrapS (by omega) (by omega))) ?_)))
   refine WPs.opB rfl rfl rfl (o_bin rfl rfl bGtr) ?_ ?_
   ·intro hq2
    have hq2 : 512 < slotF l i + slotZ l i := by simp at hq2; omega
    refine zp rfl (zv (zi rfl (zg rfl (za rfl (zv (WP.ret ?_))))))
    refine hr ?_ _ _ rfl s.drop
    rw [cellsL, if_pos (.inr hq2)]
   ·intro hq2
    have hq2 : slotF l i + slotZ l i ≤ 512 := by simp at hq2; omega
    refine zp rfl (zv (zj rfl (WP.skip (zg rfl (zm rfl (za rfl (zv (WP.block ?_))))))))
    have e : cellsL l low (m + 1) i t = (match markL (slotZ l i) (slotF l i) t with | none => false | some t' => cellsL l low m (i + 1) t') := by rw [cellsL, if_neg (by omega)]; rfl
    rw [e] at hr hx
    refine rgood_inner hq2 (slotZ l i) (slotF l i) t _ _ _ rfl ht s ⟨rfl, rfl, rfl, rfl, rfl, rfl, rfl, rfl, trivial⟩ (fun hm E' h' h2 s' => ?_) (fun t' E' h' hm hE' s' => ?_)
    ·rw [hm] at hr
     exact hr rfl _ _ h2 s'
    ·rw [hm] at hr hx
     refine WP.has hE' (zr rfl (zm rfl (zb rfl (by exact bAdd (wrapS (by omega) (by omega))) ?_)))
     refine za rfl (zv ?_)
     exact ih (i + 1) t' _ _ Q (by omega) (by rw [markL_len _ _ _ _ hm, ht]) s' ⟨rfl, rfl, rfl, rfl, rfl, trivial⟩ hr hx
theorem rgood_ct (hT : W told) (s : Sat h (X :: S)) (hX : Ent X (rdB v l)) :
  Call ⟨Tryz.prog, told⟩ 72 [v] h fun r h' => r = .bool (goodL l) ∧ Sat h' (X :: S) := by
 have hv := s.viewX (k := 0) rfl hX
 refine Call.of_wp (hT.free _ rfl) Tryz.func72 rfl rfl (zg rfl (za rfl (zv (zw (zg rfl (zm rfl (zo rfl (o_len rfl rfl rfl (len_view Tryz.underlying32 hv)) ?_)))))))
 refine WPs.opB rfl rfl rfl (o_bin rfl rfl bNeq) ?_ ?_
 ·intro hq
  have hq : l.length ≠ 512 := by simp at hq; omega
  refine zm rfl (zx rfl (zx rfl (zx rfl (zx rfl (zq rfl (zv (zi rfl (zg rfl (za rfl (zv ?_))))))))))
  refine WP.ret ⟨trivial, _, rfl, ?_⟩
  exact ⟨by rw [goodL, decide_eq_false hq, Bool.false_and], s⟩
 ·intro hq
  have hq : l.length = 512 := by simp at hq; omega
  have hb : l[13]? = some (l[13]'(by omega)) := List.getElem?_eq_getElem _
  generalize hbe : (l[13]'(by omega)) = b at hb
  have hgd : l.getD 13 0 = b := by rw [List.getD_eq_getElem?_getD, hb]; rfl
  obtain ⟨id, off, e1, e2⟩ := index_view hv hb
  refine zm rfl (zm rfl (zo rfl (o_ia (r := .ptr id off) rfl rfl e1) (zl rfl e2 ?_)))
  refine WPs.opB rfl rfl rfl (o_bin rfl rfl bNeq) ?_ ?_
  ·intro hq2
   have hq2 : b ≠ 0 := by simp at hq2; omega
   refine zp rfl (zv (zi rfl (zg rfl (za rfl (zv ?_)))))
   refine WP.ret ⟨trivial, _, rfl, ?_⟩
   exact ⟨by rw [goodL, decide_eq_true hq, hgd, decide_eq_false hq2, Bool.false_and, Bool.and_false], s⟩
  ·intro hq2
   have hq2 : b = 0 := by simp at hq2; omega
   refine zp rfl (zv (zj rfl (WP.skip (zg rfl (zm rfl (WPs.call rfl rfl rfl rfl rfl rfl rfl (rcount_ct hT s (k := 0) rfl hX hq) ?_))))))
   rintro r h' ⟨rfl, rfl⟩
   refine za rfl (zv (zg rfl (zm rfl (WPs.call rfl rfl rfl rfl rfl rfl rfl (rlow_ct hT s (k := 0) rfl hX hq) ?_))))
   rintro r h' ⟨rfl, rfl⟩
   have hc1 := atL_lt (l := l) (a := 14) (z := 2) hv.1
   have hc2 := atL_lt (l := l) (a := 16) (z := 2) hv.1
   have ec : cntL l = atL l 14 2 := rfl
   have el : lowL l = atL l 16 2 := rfl
   refine za rfl (zv (zw (zg rfl (zm rfl (zb rfl (by exact bMul (wrapS (by omega) (by omega))) ?_)))))
   refine zb rfl (by exact bAdd (wrapS (by omega) (by omega))) ?_
   refine zm rfl ?_
   refine WPs.opB rfl rfl rfl (o_bin rfl rfl bGtr) ?_ ?_
   ·intro hq3
    have hq3 : lowL l < 26 + 4 * cntL l := by simp at hq3; omega
    refine zm rfl (zx rfl (zx rfl (zq rfl (zv (zi rfl (zg rfl (za rfl (zv ?_))))))))
    refine WP.ret ⟨trivial, _, rfl, ?_⟩
    exact ⟨by rw [goodL, decide_eq_true hq, hgd, decide_eq_true hq2, decide_eq_false (by omega : ¬(26 + 4 * cntL l ≤ lowL l ∧ lowL l ≤ 512))]; rfl, s⟩
   ·intro hq3
    have hq3 : 26 + 4 * cntL l ≤ lowL l := by simp at hq3; omega
    refine zm rfl (zm rfl ?_)
    refine WPs.opB rfl rfl rfl (o_bin rfl rfl bGtr) ?_ ?_
    ·intro hq4
     have hq4 : 512 < lowL l := by simp at hq4; omega
     refine zp rfl (zv (zi rfl (zg rfl (za rfl (zv ?_)))))
     refine WP.ret ⟨trivial, _, rfl, ?_⟩
     exact ⟨by rw [goodL, decide_eq_true hq, hgd, decide_eq_true hq2, decide_eq_false (by omega : ¬(26 + 4 * cntL l ≤ lowL l ∧ lowL l ≤ 512))]; rfl, s⟩
    ·intro hq4
     have hq4 : lowL l ≤ 512 := by simp at hq4; omega
     obtain ⟨i1, hi1, hi2, hi3⟩ := info_bool
     obtain ⟨id, h1, e1, s1⟩ := sat_mkRow (P := Tryz.prog) s Tryz.underlying186 hi1 zt4 hi2 (by omega) rfl (by decide) (n := 512) (by decide)
     refine zp rfl (zv (zj rfl (WP.skip (zg rfl (WPs.any rfl rfl rfl (OpR.of (R := fun v h' => v = .sl id 0 512 (.exact 512) ∧ h' = h1) (o_mks rfl rfl e1) ⟨rfl, rfl⟩) ?_)))))
     rintro v h ⟨rfl, rfl⟩
     rw [Nat.mul_one, show (V.bool false).cells = [V.bool false] from rfl, repeatB] at s1
     have s := s1
     refine za rfl (zv (zw (zg rfl (za rfl (zv (WP.block ?_))))))
     have hgl : goodL l = cellsL l (lowL l) (cntL l) 0 (List.replicate 512 false) := by rw [goodL, decide_eq_true hq, hgd, decide_eq_true hq2, decide_eq_true ⟨hq3, hq4⟩]; rfl
     refine rgood_outer hT (n := cntL l) (low := lowL l) hX hq hv.1 rfl hq3 hq4 (cntL l) 0 (List.replicate 512 false) _ _ _ (by omega) List.length_replicate s ⟨rfl, rfl, rfl, rfl, rfl, trivial⟩ (fun hc E' h' h2 s' => ?_) (fun hc E' h' s' => ?_)
     ·exact ⟨trivial, _, res1 h2, by rw [hgl, hc], s'⟩
     ·have s := s'
      refine WP.has (F := []) trivial (zg rfl (za rfl (zv ?_)))
      refine WP.ret ⟨trivial, _, rfl, ?_⟩
      exact ⟨by rw [hgl, hc], s⟩
end
end Go.Proofs.YtconhghphklfjaaGreat.Am
