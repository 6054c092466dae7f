/- Whatever groups are done and dropped, written out and checkpointed between, each page is as the groups that were done made it; the conditions are those of the given statement, for arguments that a machine can hold. Part 41 of 49. -/
import Derived.Test.YtconhghphklfjaaGreatP40
namespace Go.Proofs.YtconhghphklfjaaGreat.Am
open Go
def Lg.fresh : Lg := { base := 1, b := [], starts := [], forced := 0, check := 0 }
theorem resC2 {P : Program} {E : List (Nat × V)} {h : H} {a b c t : Nat} {p v w x : V} (hl : look E a = some p) (hd : loadV P h t p = some v) (h2 : look E b = some w) (h3 : look E c = some x) : resLE P E h [.cell a t, .tmp b, .tmp c] = some (.tup [v, w, x]) := by
 simp only [resLE, mapO, resE, hl, hd, h2, h3]
section
variable {told : Nat → Option (List V → H → Option (V × H))} {h : H} {S : List Assn} {X Y : Assn} {r k q p fid a g chk : Nat} {op v x u wh di : V} {l b was data data0 : List Nat} {now : List (Int × List Nat)} {over : Bool} {ε : Eng} {μ : Lg} {δ : Dk}
theorem lOpen_fresh (hT : W told) (s : Sat h (isDk p δ :: S)) (hd : δ.dead = false) (hm : δ.mark = []) (hl : δ.log = []) (hc : δ.certain = 0) :
  Call ⟨Tryz.prog, told⟩ 58 [.ptr p 0] h fun v h' => ∃ q, v = .tup [.ptr q 0, .int .i64 0] ∧ Sat h' (isLg q p Lg.fresh :: isDk p δ :: S) := by
 refine Call.of_wp (hT.free _ rfl) Tryz.func58 rfl rfl (zg rfl (za rfl (za rfl (zv (zg rfl (zm rfl (WPs.call rfl rfl rfl rfl rfl rfl rfl (dMarked_ct hT s (by rw [hm]; decide)) ?_)))))))
 rintro v h (⟨hd', _, _⟩ | ⟨_, b0, rfl, s⟩)
 ·rw [hd] at hd'; cases hd'
 rw [hm] at s
 refine zm rfl (ze rfl (ze rfl (za rfl (za rfl (zv (zw (zg rfl (zm rfl (WPs.opF rfl rfl rfl (o_bin rfl rfl bNeq) (rfl) (zv (zj rfl (WP.skip (zg rfl (zm rfl (zo rfl (o_build rfl (by rw [bv111]; rfl)) ?_)))))))))))))))
 refine WPs.newS s rfl rfl rfl (o_box rfl rfl) (fun p23 h s => ?_)
 dsimp only [V.cells, List.take, List.length_cons, List.length_nil, Nat.reduceAdd, List.drop, List.cons_append, List.nil_append] at s
 refine za rfl (zv (zw (zg rfl (zm rfl (zm rfl ?_)))))
 have s := s.bringS [2, 0, 0]
 dsimp only [bringA, getA, delA] at s
 refine WPs.call rfl rfl rfl rfl rfl rfl rfl (dLog_ct hT s (by rw [hl]; decide)) ?_
 rintro v h (⟨hd', _, _⟩ | ⟨_, b1, rfl, s⟩)
 ·rw [hd] at hd'; cases hd'
 rw [hl] at s
 have hv := (s.buf (k := 0) rfl).view.cells
 refine zm rfl (ze rfl (ze rfl (zn rfl (zf rfl (fa111_2 _ _) (WPs.stS rfl rfl rfl rfl rfl (s.st1 (k := 2) rfl sz32 rfl (by decide) hv.1 hv.2) ?_)))))
 intro h s
 dsimp only [Nat.reduceAdd, List.set, setA] at s
 refine za rfl (zv (zg rfl (zm rfl (WPs.opF rfl rfl rfl (o_bin rfl rfl bNeq) (rfl) (zv (zj rfl (WP.skip (zw (zg rfl (zm rfl (zo rfl (o_len rfl rfl rfl (by exact len_view Tryz.underlying32 (s.viewX (k := 3) rfl (rd_buf _ _)))) ?_)))))))))))
 refine zv (WP.block (zg rfl (WPs.opT rfl rfl rfl (o_bin rfl rfl bEql) (rfl) (za rfl (zv (zi rfl (WP.skip (zg rfl (za rfl (zv (zw (WP.block (WP.loop (zw (zg rfl (zm rfl (zm rfl (zn rfl (zf rfl (fa111_2 _ _) (zl rfl (by exact s.ld (k := 2) rfl ag32 rfl) ?_))))))))))))))))))))
 refine zo rfl (o_len rfl rfl rfl (by exact len_view Tryz.underlying32 (s.viewX (k := 0) rfl (rd_buf _ _)))) ?_
 refine WPs.opF rfl rfl rfl (o_bin rfl rfl bLss) (rfl) (zv (zj rfl (WP.exit (zw (zg rfl (zm rfl (zm rfl (zn rfl (zf rfl (fa111_2 _ _) (zl rfl (by exact s.ld (k := 2) rfl ag32 rfl) ?_))))))))))
 refine zo rfl (o_len rfl rfl rfl (by exact len_view Tryz.underlying32 (s.viewX (k := 0) rfl (rd_buf _ _)))) ?_
 refine WPs.opF rfl rfl rfl (o_bin rfl rfl bLss) (rfl) (zv (zj rfl (WP.skip (zw (zw ?_)))))
 have s0 := s
 have hb1 := beqView (s.buf (k := 0) rfl).view
 refine WP.drawn [none, none, some (0, 2), some (0, 2), some (0, 2), some (0, 2), some (0, 2), none] rfl (by kernel_rfl) (by kernel_rfl) ?_
 refine zM rfl (WPt.any rfl rfl rfl rfl (OpR.call rfl rfl rfl rfl (dCertain_ct hT (s.bringS [1]))) ?_)
 rintro v h' ⟨rfl, rfl⟩
 refine zM rfl (zN rfl (zF rfl (fa111_2 _ _) (zL rfl (by exact s.ld (k := 2) rfl ag32 rfl) ?_)))
 refine zO rfl (o_len rfl rfl rfl (by exact len_view Tryz.underlying32 (s.viewX (k := 0) rfl (rd_buf _ _)))) ?_
 refine WPt.opF rfl rfl rfl rfl (o_bin rfl rfl bLss) (by rw [show δ.dCertain = 0 from hc]; rfl) ?_
 refine WPt.nil ⟨⟨trivial, trivial, fun _ _ => .inr ⟨rfl, ⟨_, o_move rfl⟩, beqV _ rfl⟩, fun _ _ => .inr ⟨rfl, ⟨_, o_nil rfl⟩, beqV _ rfl⟩, fun _ _ => .inr ⟨rfl, ⟨_, o_fa rfl (fa111_2 _ _)⟩, beqV _ rfl⟩, heaps2 (.inr ⟨rfl, ⟨_, o_load rfl (by exact s0.ld (k := 2) rfl ag32 rfl)⟩, hb1⟩) (.inr ⟨rfl, ⟨_, o_load rfl (by exact s.ld (k := 2) rfl ag32 rfl)⟩, hb1⟩), heaps2 (.inr ⟨rfl, ⟨_, o_len rfl rfl rfl (by exact len_view Tryz.underlying32 (s0.viewX (k := 0) rfl (rd_buf _ _)))⟩, beqV _ rfl⟩) (.inr ⟨rfl, ⟨_, o_len rfl rfl rfl (by exact len_view Tryz.underlying32 (s.viewX (k := 0) rfl (rd_buf _ _)))⟩, beqV _ rfl⟩), trivial, trivial⟩, ?_⟩
 refine zj rfl (WP.skip (zg rfl (zm rfl (zm rfl (zn rfl (zf rfl (fa111_2 _ _) (zl rfl (by exact s.ld (k := 2) rfl ag32 rfl) ?_)))))))
 refine zo rfl (o_len rfl rfl rfl (by exact len_view Tryz.underlying32 (s.viewX (k := 0) rfl (rd_buf _ _)))) ?_
 refine zn rfl (zf rfl (fa111_4 _ _) ?_)
 refine WPs.stS rfl rfl rfl rfl rfl (by exact s.st1 (k := 2) rfl sz3 rfl (by decide) rfl rfl) (fun h s => ?_)
 dsimp only [Nat.reduceAdd, List.length_nil, List.set, setA] at s
 refine zv (zg rfl (zm rfl (za rfl (za rfl (zv ?_)))))
 refine WP.ret ⟨trivial, _, rfl, ?_⟩
 have s1 := (s.del 3).nilArr (k := 1)
 dsimp only [delA] at s1
 refine ⟨_, rfl, isLg_iff.2 ⟨b1, .sl0, ?_⟩⟩
 exact s1.bringS [3, 1, 0]
theorem lRead_end (hT : W told) (s : Sat h (isLg q p μ :: S)) (hμ : μ.Ok) : Call ⟨Tryz.prog, told⟩ 20 [.ptr q 0, .int .u64 ((μ.base : Int) + (μ.b.length : Int))] h fun v h' => v = .tup [.agg (rcC 0 0 0 0 .sl0 .sl0), .int .u64 0, .int .i64 17] ∧ Sat h' (isLg q p μ :: S) := by
 refine Call.of_wp (hT.free _ rfl) Tryz.func20 rfl rfl (zg rfl ?_)
 refine WPs.newS s rfl rfl rfl (o_alloc zt40) (fun p4 h s => ?_)
 dsimp only [V.cells, List.length_cons, List.length_nil, Nat.reduceAdd] at s
 refine za rfl (za rfl (zv (zw (WP.block (zg rfl (zm rfl (zm rfl ?_)))))))
 have s := s.bringS [1]
 dsimp only [bringA, getA, delA] at s
 refine WPs.call rfl rfl rfl rfl rfl rfl rfl (lEnd_ct hT s hμ.size) ?_
 rintro v h' ⟨rfl, rfl⟩
 refine WPs.opT rfl rfl rfl (o_bin rfl rfl bEql) (by simp) ?_
 refine za rfl (zv (zi rfl (zg rfl (zo rfl (o_build rfl (by rw [bv40]; rfl)) ?_))))
 refine WPs.stS rfl rfl rfl rfl rfl (by exact s.stA (j := 1) rfl sz40 rfl rfl) (fun h s => ?_)
 dsimp only [V.cells, setA] at s
 refine za rfl (za rfl (zv ?_))
 refine WP.ret ⟨trivial, _, resC2 rfl (s.ldA (k := 1) rfl ag40 sz40) rfl rfl, ?_⟩
 exact ⟨rfl, s.del 1⟩
theorem lRead_no (hT : W told) {n : Nat} (s : Sat h (isLg q p μ :: S)) (hμ : μ.Ok) (hn : n < 18446744073709551616) (hne : n ≠ μ.base + μ.b.length) (hno : μ.hasB n = false) : Call ⟨Tryz.prog, told⟩ 20 [.ptr q 0, .int .u64 (n : Int)] h fun v h' => v = .tup [.agg (rcC 0 0 0 0 .sl0 .sl0), .int .u64 0, .int .i64 1] ∧ Sat h' (isLg q p μ :: S) := by
 refine Call.of_wp (hT.free _ rfl) Tryz.func20 rfl rfl (zg rfl ?_)
 refine WPs.newS s rfl rfl rfl (o_alloc zt40) (fun p4 h s => ?_)
 dsimp only [V.cells, List.length_cons, List.length_nil, Nat.reduceAdd] at s
 refine za rfl (za rfl (zv (zw (WP.block (zg rfl (zm rfl (zm rfl ?_)))))))
 have s := s.bringS [1]
 dsimp only [bringA, getA, delA] at s
 refine WPs.call rfl rfl rfl rfl rfl rfl rfl (lEnd_ct hT s hμ.size) ?_
 rintro v h' ⟨rfl, rfl⟩
 refine WPs.opF rfl rfl rfl (o_bin rfl rfl bEql) (by simp; omega) ?_
 refine za rfl (zv (zj rfl (zg rfl (zm rfl (zm rfl (WPs.call rfl rfl rfl rfl rfl rfl rfl (lHas_ct (n := n) hT s hμ hn) ?_))))))
 rintro v h' ⟨rfl, rfl⟩
 refine zo rfl (o_un rfl rfl) (za rfl (zv (WP.condT rfl (by rw [hno]; rfl) ?_)))
 refine zg rfl (zo rfl (o_build rfl (by rw [bv40]; rfl)) ?_)
 refine WPs.stS rfl rfl rfl rfl rfl (by exact s.stA (j := 1) rfl sz40 rfl rfl) (fun h s => ?_)
 dsimp only [V.cells, setA] at s
 refine za rfl (za rfl (zv ?_))
 refine WP.ret ⟨trivial, _, resC2 rfl (s.ldA (k := 1) rfl ag40 sz40) rfl rfl, ?_⟩
 exact ⟨rfl, s.del 1⟩
theorem lRead_none (hT : W told) {n : Nat} (s : Sat h (isLg q p μ :: S)) (hμ : μ.Ok) (hn : n < 18446744073709551616) (hno : n = μ.base + μ.b.length ∨ μ.hasB n = false) : Call ⟨Tryz.prog, told⟩ 20 [.ptr q 0, .int .u64 (n : Int)] h fun v h' => ∃ e : Int, e ≠ 0 ∧ v = .tup [.agg (rcC 0 0 0 0 .sl0 .sl0), .int .u64 0, .int .i64 e] ∧ Sat h' (isLg q p μ :: S) := by
 by_cases he : n = μ.base + μ.b.length
 ·have := lRead_end hT s hμ
  rw [show ((μ.base : Int) + (μ.b.length : Int)) = ((n : Nat) : Int) by omega] at this
  exact this.mono fun v h' ⟨h1, h2⟩ => ⟨17, by decide, h1, h2⟩
 ·rcases hno with hno | hno
  ·exact absurd hno he
  ·exact (lRead_no hT s hμ hn he hno).mono fun v h' ⟨h1, h2⟩ => ⟨1, by decide, h1, h2⟩
end
end Go.Proofs.YtconhghphklfjaaGreat.Am
namespace Go.Proofs.YtconhghphklfjaaGreat.Am
open Go
section
variable {told : Nat → Option (List V → H → Option (V × H))} {h : H} {S : List Assn} {X Y : Assn} {r k q p fid a g chk : Nat} {op v x u wh di : V} {l b was data data0 : List Nat} {now : List (Int × List Nat)} {over : Bool} {ε : Eng} {μ : Lg} {δ : Dk}
theorem again_none (hT : W told) {n : Nat} (s : Sat h (isSt a p q r op data chk :: isLg q p μ :: S)) (hμ : μ.Ok) (hn : n < 18446744073709551616) (hno : n = μ.base + μ.b.length ∨ μ.hasB n = false) :
  Call ⟨Tryz.prog, told⟩ 62 [.ptr a 0, .int .u64 (n : Int)] h fun v h' => v = .int .i64 0 ∧ Sat h' (isSt a p q r op data chk :: isLg q p μ :: S) := by
 obtain ⟨dv, s⟩ := isSt_iff.1 s
 refine Call.of_wp (hT.free _ rfl) Tryz.func62 rfl rfl (zg rfl (za rfl (zv (zg rfl ?_))))
 refine WPs.newM s rfl rfl rfl rfl (fun p18 h s => ?_)
 refine WPs.newM s rfl rfl rfl rfl (fun p19 h s => ?_)
 refine zo rfl (o_build rfl (by rw [bv181]; rfl)) ?_
 refine WPs.newS s rfl rfl rfl (o_box rfl rfl) (fun p21 h s => ?_)
 dsimp only [V.cells, List.take, List.length_cons, List.length_nil, Nat.reduceAdd, List.drop, List.cons_append, List.nil_append, stC] at s
 refine za rfl (zv (zg rfl (zm rfl (zo rfl (o_mkf rfl rfl) (za rfl (zv (zw (zg rfl (zm rfl (za rfl (zv (WP.block (WP.loop (WP.block (zg rfl (zm rfl (zn rfl (zf rfl (fa85_1 _ _) (zl rfl (by exact s.ld (k := 3) rfl ag44 rfl) ?_)))))))))))))))))))
 refine zm rfl ?_
 have s1 := s.bringS [5]
 dsimp only [bringA, getA, delA] at s1
 refine WPs.call rfl rfl rfl rfl rfl rfl rfl (lRead_none (n := n) hT s1 hμ hn hno) ?_
 rintro v h ⟨e, he, rfl, s⟩
 refine zm rfl (ze rfl (ze rfl (ze rfl ?_)))
 refine WPs.newS s rfl rfl rfl (o_alloc zt40) (fun p8 h s => ?_)
 dsimp only [V.cells, List.length_cons, List.length_nil, Nat.reduceAdd] at s
 refine WPs.stS rfl rfl rfl rfl rfl (by exact s.stA (j := 0) rfl sz40 rfl rfl) (fun h s => ?_)
 dsimp only [setA] at s
 refine za rfl (za rfl (zv (zw (zg rfl (zm rfl (WPs.opT rfl rfl rfl (o_bin rfl rfl bNeq) (by simp; exact he) ?_))))))
 have s := mapV_new (f := fun v (b : List Nat) => .rob v b) (s.bringS [4])
 dsimp only [bringA, getA, delA] at s
 refine zv (zi rfl (WP.exit (zw (zg rfl (zm rfl (zn rfl (zf rfl (fa181_0 _ _) (zl rfl (by exact s.ld (k := 3) rfl ag86 rfl) ?_))))))))
 refine WPs.call rfl rfl rfl rfl rfl rfl rfl (keysD_ct hT s) ?_
 rintro v h ⟨kb, rfl, s⟩
 refine WPs.call rfl rfl rfl rfl rfl rfl rfl (sorted_ct hT s (by decide) (by decide) (by simp)) ?_
 intro kv h s
 refine zo rfl (o_len rfl rfl rfl (s.arrLen (n := 0) (j := 0) rfl rfl (by decide) Tryz.underlying98)) ?_
 refine zm rfl (zv (WP.block (WP.loop (zg rfl (WPs.opF rfl rfl rfl (o_bin rfl rfl bLss) (rfl) (zv (zw (zj rfl (WP.exit (zw (zg rfl (zm rfl (zn rfl (zf rfl (fa181_0 _ _) (zl rfl (by exact s.ld (k := 5) rfl ag86 rfl) ?_)))))))))))))))
 refine zo rfl (o_len rfl rfl rfl (mapV_len (s.bringS [2]) Tryz.underlying86)) (WPs.opT rfl rfl rfl (o_bin rfl rfl bEql) (rfl) (zv (zi rfl (zg rfl (za rfl (zv ?_))))))
 refine WP.ret ⟨trivial, _, rfl, ?_⟩
 exact ⟨rfl, ((((((isSt_iff.2 ⟨dv, s.bringS [7, 7, 4]⟩).del 7).del 6).del 5).del 4).del 3).del 2⟩
theorem Lg.fresh_ok : Lg.fresh.Ok := ⟨by decide, by decide, by simp [Lg.fresh], List.Pairwise.nil, by decide, by decide, by decide⟩
theorem sOpen_fresh (hT : W told) {n : Nat} (s : Sat h (isDk p δ :: S)) (h1 : 1 ≤ n) (h2 : n ≤ 1024) (hd : δ.dead = false) (hm : δ.mark = []) (hl : δ.log = []) (hc : δ.certain = 0) :
  Call ⟨Tryz.prog, told⟩ 21 [.ptr p 0, .int .i64 (n : Int)] h fun v h' => ∃ a q r, v = .tup [.ptr a 0, .int .i64 0] ∧ Sat h' (isSt a p q r .ptr0 [] 0 :: isPl r p q (Pl.fresh n) :: isLg q p Lg.fresh :: isDk p δ :: S) := by
 refine Call.of_wp (hT.free _ rfl) Tryz.func21 rfl rfl (zg rfl (za rfl (za rfl (zv (zw (zg rfl (zm rfl (WPs.opF rfl rfl rfl (o_bin rfl rfl bLss) (by simp <;> omega) ?_))))))))
 refine zm rfl (zm rfl (WPs.opF rfl rfl rfl (o_bin rfl rfl bGtr) (by simp <;> omega) ?_))
 refine zp rfl (zv (zj rfl (WP.skip (zg rfl (zm rfl (WPs.call rfl rfl rfl rfl rfl rfl rfl (lOpen_fresh hT s hd hm hl hc) ?_))))))
 rintro v h ⟨q, rfl, s⟩
 refine zm rfl (ze rfl (ze rfl (za rfl (za rfl (zv (zw (zg rfl (zm rfl (WPs.opF rfl rfl rfl (o_bin rfl rfl bNeq) (rfl) (zv (zj rfl (WP.skip (zg rfl (zm rfl (zm rfl (zm rfl (WPs.call rfl rfl rfl rfl rfl rfl rfl (pnew_ct (p := p) (q := q) (n := n) hT s) ?_)))))))))))))))))
 rintro v h (⟨hn, _, _⟩ | ⟨_, _, r, rfl, s⟩)
 ·omega
 rw [Int.toNat_natCast] at s
 refine zm rfl (ze rfl (ze rfl (za rfl (za rfl (zv (zw (zg rfl (zm rfl (WPs.opF rfl rfl rfl (o_bin rfl rfl bNeq) (rfl) (zv (zj rfl (WP.skip (zg rfl (zm rfl (zm rfl (zm rfl (zo rfl (o_build rfl (by rw [bv85]; rfl)) ?_)))))))))))))))))
 refine WPs.newS s rfl rfl rfl (o_box rfl rfl) (fun p44 h s => ?_)
 dsimp only [V.cells, List.take, List.length_cons, List.length_nil, Nat.reduceAdd, List.drop, List.cons_append, List.nil_append] at s
 refine za rfl (zv (zg rfl (zm rfl (WPs.call rfl rfl rfl rfl rfl rfl rfl (lFirst_ct hT (s.bringS [2])) ?_))))
 rintro v h' ⟨rfl, rfl⟩
 refine za rfl (zv (zw (zg rfl (zm rfl (WPs.call rfl rfl rfl rfl rfl rfl rfl (lChecked_ct hT (s.bringS [2])) ?_)))))
 rintro v h' ⟨rfl, rfl⟩
 refine za rfl (zv (zg rfl (zm rfl (WPs.opF rfl rfl rfl (o_bin rfl rfl bNeq) (rfl) (zv (zj rfl (WP.skip (zw (zg rfl (zm rfl (zm rfl ?_)))))))))))
 have s1 := isSt_iff.2 ⟨.sl0, (s.nilRo).bringS [1, 0]⟩
 dsimp only [bringA, getA, delA] at s1
 refine WPs.call rfl rfl rfl rfl rfl rfl rfl (again_none (n := 1) hT (s1.bringS [0, 1]) Lg.fresh_ok (by decide) (.inl rfl)) ?_
 rintro v h ⟨rfl, s⟩
 dsimp only [bringA, getA, delA] at s
 refine za rfl (zv (zg rfl (zm rfl (WPs.opF rfl rfl rfl (o_bin rfl rfl bNeq) (rfl) (zv (zj rfl (WP.skip (zg rfl (zm rfl (za rfl (za rfl (zv ?_))))))))))))
 refine WP.ret ⟨trivial, _, rfl, ?_⟩
 exact ⟨_, q, r, rfl, s.bringS [0, 1, 0]⟩
end
end Go.Proofs.YtconhghphklfjaaGreat.Am
namespace Go.Proofs.YtconhghphklfjaaGreat.Am
open Go
def cleanF (ε : Eng) : Int × Eng := if ε.2.2.dead = true then (9, ε) else if (writeAllF (keysS ε.1.wher) ε).1 ≠ 0 then writeAllF (keysS ε.1.wher) ε else
 ((psyncF (writeAllF (keysS ε.1.wher) ε).2.1 (writeAllF (keysS ε.1.wher) ε).2.2.2).1, ((psyncF (writeAllF (keysS ε.1.wher) ε).2.1 (writeAllF (keysS ε.1.wher) ε).2.2.2).2.1, ((writeAllF (keysS ε.1.wher) ε).2.2.1, (psyncF (writeAllF (keysS ε.1.wher) ε).2.1 (writeAllF (keysS ε.1.wher) ε).2.2.2).2.2)))
section
variable {told : Nat → Option (List V → H → Option (V × H))} {h : H} {S : List Assn} {X Y : Assn} {r k q p fid a g chk : Nat} {op v x u wh di : V} {l b was data data0 : List Nat} {now : List (Int × List Nat)} {over : Bool} {ε : Eng} {μ : Lg} {δ : Dk}
theorem sLog_ct (hT : W told) (s : Sat h (isSt a p q r op data chk :: S)) : Call ⟨Tryz.prog, told⟩ 19 [.ptr a 0] h fun v h' => v = .ptr q 0 ∧ h' = h := by
 obtain ⟨dv, s⟩ := isSt_iff.1 s
 refine Call.of_wp (hT.free _ rfl) Tryz.func19 rfl rfl (zg rfl (za rfl (zv (zg rfl (zm rfl (zn rfl (zf rfl (fa85_1 _ _) (zl rfl (by exact s.ld (k := 0) rfl ag44 rfl) ?_))))))))
 refine za rfl (zv ?_)
 refine WP.ret ⟨trivial, _, rfl, ?_⟩
 exact ⟨rfl, rfl⟩
theorem sPool_ct (hT : W told) (s : Sat h (isSt a p q r op data chk :: S)) : Call ⟨Tryz.prog, told⟩ 37 [.ptr a 0] h fun v h' => v = .ptr r 0 ∧ h' = h := by
 obtain ⟨dv, s⟩ := isSt_iff.1 s
 refine Call.of_wp (hT.free _ rfl) Tryz.func37 rfl rfl (zg rfl (za rfl (zv (zg rfl (zm rfl (zn rfl (zf rfl (fa85_2 _ _) (zl rfl (by exact s.ld (k := 0) rfl ag77 rfl) ?_))))))))
 refine za rfl (zv ?_)
 refine WP.ret ⟨trivial, _, rfl, ?_⟩
 exact ⟨rfl, rfl⟩
theorem sForce_ct (hT : W told) {n : Nat} (s : Sat h (isSt a p q r op data chk :: isLg q p μ :: isDk p δ :: S)) (hμ : μ.Ok) (hf : δ.fuse < 4294967296) :
  Call ⟨Tryz.prog, told⟩ 36 [.ptr a 0, .int .u64 (n : Int)] h fun v h' => v = .int .i64 (forceLD (μ, δ) n).1 ∧ Sat h' (isSt a p q r op data chk :: isLg q p (forceLD (μ, δ) n).2.1 :: isDk p (forceLD (μ, δ) n).2.2 :: S) := by
 obtain ⟨dv, s⟩ := isSt_iff.1 s
 refine Call.of_wp (hT.free _ rfl) Tryz.func36 rfl rfl (zg rfl (za rfl (zv (zg rfl (zm rfl (zn rfl (zf rfl (fa85_1 _ _) (zl rfl (by exact s.ld (k := 0) rfl ag44 rfl) ?_))))))))
 refine zm rfl (WPs.call rfl rfl rfl rfl rfl rfl rfl (lForceF (n := n) hT (s.bringS [2, 2]) hμ hf) ?_)
 rintro v h ⟨rfl, s⟩
 dsimp only [bringA, getA, delA] at s
 refine za rfl (zv ?_)
 refine WP.ret ⟨trivial, _, rfl, ?_⟩
 exact ⟨rfl, isSt_iff.2 ⟨dv, s.bringS [2, 2]⟩⟩
theorem clean_ct (hT : W2 told) (s : Sat h (isSt a p q r .ptr0 data chk :: isPl r p q ε.1 :: isLg q p ε.2.1 :: isDk p ε.2.2 :: S)) (hε : EOk2 ε) (hw : ε.2.2.waiting.length + ε.1.wher.length ≤ 268435456) (hm : ε.1.wher.length ≤ 1048576) (hk : ∀ n ∈ ε.1.wher.map (·.1), (Lit.int .i64 n).wf = true)
  (hok : (writeAllF (keysS ε.1.wher) ε).2.2.2.Ok) (hkey : ∀ e ∈ (writeAllF (keysS ε.1.wher) ε).2.2.2.now, 0 ≤ e.1 ∧ e.1 < (writeAllF (keysS ε.1.wher) ε).2.2.2.pages.length) :
  Call ⟨Tryz.prog, told⟩ 26 [.ptr a 0] h fun v h' => v = .int .i64 (cleanF ε).1 ∧ Sat h' (isSt a p q r .ptr0 data chk :: isPl r p q (cleanF ε).2.1 :: isLg q p (cleanF ε).2.2.1 :: isDk p (cleanF ε).2.2.2 :: S) := by
 have s0 := s
 obtain ⟨dv, s⟩ := isSt_iff.1 s
 refine Call.of_wp (hT.w.free _ rfl) Tryz.func26 rfl rfl (zg rfl (za rfl (zv (zw (WP.block (zg rfl (zm rfl (zn rfl (zf rfl (fa85_3 _ _) (zl rfl (by exact s.ld (k := 0) rfl ag27 rfl) ?_))))))))))
 refine WPs.opF rfl rfl rfl (o_bin rfl rfl (neq00 Tryz.underlying27)) (rfl) (za rfl (zv (zj rfl (zg rfl (zm rfl (zn rfl (zf rfl (fa85_0 _ _) (zl rfl (by exact s.ld (k := 0) rfl ag23 rfl) ?_))))))))
 refine WPs.call rfl rfl rfl rfl rfl rfl rfl (dDead_ct hT.w (s.bringS [4])) ?_
 rintro v h ⟨rfl, rfl⟩
 refine za rfl (zv ?_)
 cases hd : ε.2.2.dead with
 | true =>
  refine zi rfl (zg rfl (za rfl (zv ?_)))
  refine WP.ret ⟨trivial, _, rfl, ?_⟩
  rw [cleanF, if_pos hd]
  exact ⟨rfl, s0⟩
 | false =>
  refine zj rfl (WP.skip (zw (zg rfl (zm rfl (zn rfl (zf rfl (fa85_2 _ _) (zl rfl (by exact s.ld (k := 0) rfl ag77 rfl) ?_)))))))
  refine WPs.call rfl rfl rfl rfl rfl rfl rfl (writeAll_ct hT.w (s.bringS [2, 2, 2]) hε hw hm hk) ?_
  rintro v h ⟨rfl, s⟩
  dsimp only [bringA, getA, delA] at s
  refine za rfl (zv (zg rfl (zm rfl ?_)))
  by_cases he : (writeAllF (keysS ε.1.wher) ε).1 = 0
  ·skip
   refine WPs.opF rfl rfl rfl (o_bin rfl rfl bNeq) (by simp; exact he) ?_
   refine zv (zj rfl (WP.skip (zg rfl (zm rfl (zn rfl (zf rfl (fa85_2 _ _) (zl rfl (by exact s.ld (k := 3) rfl ag77 rfl) ?_)))))))
   refine WPs.call rfl rfl rfl rfl rfl rfl rfl (psync_ct hT (s.bringS [0, 1]) hok hkey) ?_
   rintro v h ⟨rfl, s⟩
   dsimp only [bringA, getA, delA] at s
   refine za rfl (zv ?_)
   refine WP.ret ⟨trivial, _, rfl, ?_⟩
   rw [cleanF, if_neg (by rw [hd]; decide), if_neg (by simpa using he)]
   exact ⟨rfl, isSt_iff.2 ⟨dv, s.bringS [3, 3, 0, 1, 0]⟩⟩
  ·skip
   refine WPs.opT rfl rfl rfl (o_bin rfl rfl bNeq) (by simp; exact he) ?_
   refine zv (zi rfl (zg rfl (zm rfl (za rfl (zv ?_)))))
   refine WP.ret ⟨trivial, _, rfl, ?_⟩
   rw [cleanF, if_neg (by rw [hd]; decide), if_pos he]
   exact ⟨rfl, isSt_iff.2 ⟨dv, s.bringS [3, 3, 0, 0, 0]⟩⟩
end
end Go.Proofs.YtconhghphklfjaaGreat.Am
namespace Go.Proofs.YtconhghphklfjaaGreat.Am
open Go
section
variable {told : Nat → Option (List V → H → Option (V × H))} {h : H} {S : List Assn} {X Y : Assn} {r k q p fid a g chk : Nat} {op v x u wh di : V} {l b was data data0 : List Nat} {now : List (Int × List Nat)} {over : Bool} {ε : Eng} {μ : Lg} {δ : Dk}
theorem lawOpen_ct (hT : W told) {n m f : Nat} (s : Sat h S) (h1 : 1 ≤ n) (h2 : n ≤ 65536) (h3 : m ≤ 16777216) (h4 : 1 ≤ f) (h5 : f ≤ 1024) :
  Call ⟨Tryz.prog, told⟩ 12 [.int .i64 (n : Int), .int .i64 (m : Int), .int .i64 (f : Int)] h fun v h' => ∃ p a q r, v = .tup [.ptr p 0, .ptr a 0] ∧
   Sat h' (isSt a p q r .ptr0 [] 0 :: isPl r p q (Pl.fresh f) :: isLg q p Lg.fresh :: isDk p (Dk.fresh n m) :: S) := by
 refine Call.of_wp (hT.free _ rfl) Tryz.func12 rfl rfl (zg rfl (za rfl (za rfl (zv (zg rfl (zm rfl (zm rfl (WPs.call rfl rfl rfl rfl rfl rfl rfl (dNew_ct (n := (n : Int)) (m := (m : Int)) hT s) ?_))))))))
 rintro v h (⟨hn, _, _⟩ | ⟨_, _, _, _, p, rfl, s⟩)
 ·omega
 rw [Int.toNat_natCast, Int.toNat_natCast] at s
 refine zm rfl (ze rfl (ze rfl (za rfl (za rfl (zv (zw (zg rfl (zm rfl (WPs.opF rfl rfl rfl (o_bin rfl rfl bNeq) (rfl) (zm rfl (zm rfl (WPs.opF rfl rfl rfl (o_bin rfl rfl (eqlP0 Tryz.underlying23)) (rfl) (zp rfl (zv (zj rfl (WP.skip (zg rfl (zm rfl (zm rfl (WPs.call rfl rfl rfl rfl rfl rfl rfl (sOpen_fresh (n := f) hT s h4 h5 rfl rfl rfl rfl) ?_))))))))))))))))))))
 rintro v h ⟨a, q, r, rfl, s⟩
 refine zm rfl (ze rfl (ze rfl (za rfl (za rfl (zv (zw (zg rfl (zm rfl (WPs.opF rfl rfl rfl (o_bin rfl rfl bNeq) (rfl) (zm rfl (zm rfl (WPs.opF rfl rfl rfl (o_bin rfl rfl (eqlP0 Tryz.underlying24)) (rfl) (zp rfl (zv (zj rfl (WP.skip (zg rfl (zm rfl (zm rfl (za rfl (za rfl (zv ?_))))))))))))))))))))))
 refine WP.ret ⟨trivial, _, rfl, ?_⟩
 exact ⟨p, a, q, r, rfl, s⟩
theorem checked_ct (hT : W told) (s : Sat h (isSt a p q r op data chk :: S)) (hl : data.length < 1073741824) : Call ⟨Tryz.prog, told⟩ 32 [.ptr a 0] h fun v h' => ∃ w, v = .tup [w, .int .u64 (chk : Int)] ∧ Sat h' (bufA w data :: isSt a p q r op data chk :: S) := by
 obtain ⟨dv, s⟩ := isSt_iff.1 s
 refine Call.of_wp (hT.free _ rfl) Tryz.func32 rfl rfl (zg rfl (za rfl (za rfl (zv (zw ?_)))))
 have s := s.bringS [1]
 dsimp only [bringA, getA, delA] at s
 have s0 := s
 refine WP.drawn [none, none, none, none, none, some (0, 2), some (0, 2), some (0, 2), some (0, 2), none, none] rfl (by kernel_rfl) (by kernel_rfl) ?_
 refine zM rfl (zN rfl (zF rfl (fa85_4 _ _) (zL rfl (by exact s.ld (k := 1) rfl ag32 rfl) ?_)))
 refine WPt.any rfl rfl rfl rfl (OpR.call rfl rfl rfl rfl (clone_atom hT s (rd_ro _ _) hl)) ?_
 intro w h s
 refine zM rfl (zN rfl (zF rfl (fa85_5 _ _) (zL rfl (by exact s.ld (k := 2) rfl ag35 rfl) ?_)))
 refine zA rfl (zA rfl ?_)
 refine WPt.nil ⟨⟨trivial, trivial, trivial, trivial, trivial, fun _ _ => .inr ⟨rfl, ⟨_, o_move rfl⟩, beqV _ rfl⟩, fun _ _ => .inr ⟨rfl, ⟨_, o_nil rfl⟩, beqV _ rfl⟩, fun _ _ => .inr ⟨rfl, ⟨_, o_fa rfl (fa85_5 _ _)⟩, beqV _ rfl⟩, heaps2 (.inr ⟨rfl, ⟨_, o_load rfl (by exact s0.ld (k := 1) rfl ag35 rfl)⟩, beqV _ rfl⟩) (.inr ⟨rfl, ⟨_, o_load rfl (by exact s.ld (k := 2) rfl ag35 rfl)⟩, beqV _ rfl⟩), trivial, trivial, trivial⟩, ?_⟩
 refine WP.ret ⟨trivial, _, rfl, ?_⟩
 exact ⟨w, rfl, (isSt_iff.2 ⟨dv, s.bringS [2, 1]⟩).bringS [1]⟩
end
end Go.Proofs.YtconhghphklfjaaGreat.Am
namespace Go.Proofs.YtconhghphklfjaaGreat.Am
open Go
section
variable {P : Program} {h : H} {S : List Assn} {k : Nat}
theorem sat_bs0 (s : Sat h S) {t e : TypeId} {z : V} (hu : P.underlying t = some (.slice e)) (hz : zeroT P e = some z) (hk : sizeT P e = some k) (hl : z.cells.length = k) (h1 : 1 ≤ k) :
  ∃ h', buildSliceV P h t 0 [] = some (.sl h.next 0 0 (.exact 0), h') ∧ Sat h' (pt h.next (.cells 0 [] false) :: S) := by
 refine ⟨newRow h [], ?_, s.new _⟩
 simp only [buildSliceV, hu, hk, hz]
 rw [show (Nat.beq z.cells.length k && Nat.ble (0 * k) 65536 && Nat.ble 1 k) = true by rw [hl, Nat.beq_refl, ble_iff.2 (by omega), ble_iff.2 h1]; rfl, cond_true]
 simp only [repeatL, fillV, List.all_nil, cond_true]
theorem buf_of0 {id : Nat} (s : Sat h (pt id (.cells 0 [] false) :: S)) : Sat h (bufA (.sl id 0 0 (.exact 0)) [] :: S) :=
 s.ent fun m r hm => ⟨by simp, .inr (.inl ⟨id, [], 0, rfl, hm, rfl⟩)⟩
theorem arr_of0 {id q : Nat} (s : Sat h (pt id (.cells 0 [] false) :: S)) : Sat h (.arr q (.sl id 0 0 (.exact 0)) [] :: S) :=
 s.ent fun m r hm => ⟨rfl, .inr ⟨id, 0, .exact 0, 0, [], rfl, hm, by simp, rfl, rfl, by simp, Nat.le_refl _⟩⟩
end
section
variable {told : Nat → Option (List V → H → Option (V × H))} {h : H} {S : List Assn} {X Y : Assn} {r k q p fid a g chk : Nat} {op v x u wh di : V} {l b was data data0 : List Nat} {μ : Lg} {δ : Dk}
theorem bclone_ct (hT : W told) (s : Sat h (X :: S)) (hX : Ent X (rdB x l)) (hl : l.length ≤ 1073741824) : Call ⟨Tryz.prog, told⟩ 113 [x] h fun v h' => Sat h' (bufA v l :: X :: S) := by
 have hv := s.viewX (k := 0) rfl hX
 refine Call.of_wp (hT.free _ rfl) Tryz.func113 rfl rfl (zg rfl (za rfl (zv (zw (zg rfl (zm rfl ?_))))))
 rcases hv.2 with ⟨rfl | ⟨ea, rfl⟩, rfl⟩ | ⟨id, off, cap, n, cs, st, rfl, _⟩
 ·refine WPs.opT rfl rfl rfl ((by exact o_bin rfl rfl (by simp only [binV, eqV, Tryz.underlying32]; rfl))) (rfl) ?_
  refine zv (zi rfl (zg rfl (za rfl (zv ?_))))
  refine WP.ret ⟨trivial, _, rfl, ?_⟩
  exact s.nilBuf
 ·skip
  refine WPs.opF rfl rfl rfl ((by exact o_bin rfl rfl (by simp only [binV, eqV, Tryz.underlying32]; rfl))) (rfl) ?_
  refine zv (zj rfl (WP.skip (zg rfl ?_)))
  obtain ⟨h1, e1, s1⟩ := sat_bs0 (P := Tryz.prog) s Tryz.underlying32 zt5 sz5 rfl (by decide)
  refine WPs.any rfl rfl rfl (OpR.of (R := fun v h' => v = .sl h.next 0 0 (.exact 0) ∧ h' = h1) (o_bs rfl e1) ⟨rfl, rfl⟩) ?_
  rintro v h' ⟨rfl, rfl⟩
  have s := buf_of0 s1
  refine zm rfl (WPs.any rfl rfl rfl (OpR.appB rfl s hX rfl rfl rfl rfl (by simp <;> omega)) ?_)
  intro w h s
  refine za rfl (zv ?_)
  refine WP.ret ⟨trivial, _, rfl, ?_⟩
  exact s
 ·skip
  refine WPs.opF rfl rfl rfl ((by exact o_bin rfl rfl (by simp only [binV, eqV, Tryz.underlying32]; rfl))) (rfl) ?_
  refine zv (zj rfl (WP.skip (zg rfl ?_)))
  obtain ⟨h1, e1, s1⟩ := sat_bs0 (P := Tryz.prog) s Tryz.underlying32 zt5 sz5 rfl (by decide)
  refine WPs.any rfl rfl rfl (OpR.of (R := fun v h' => v = .sl h.next 0 0 (.exact 0) ∧ h' = h1) (o_bs rfl e1) ⟨rfl, rfl⟩) ?_
  rintro v h' ⟨rfl, rfl⟩
  have s := buf_of0 s1
  refine zm rfl (WPs.any rfl rfl rfl (OpR.appB rfl s hX rfl rfl rfl rfl (by simp <;> omega)) ?_)
  intro w h s
  refine za rfl (zv ?_)
  refine WP.ret ⟨trivial, _, rfl, ?_⟩
  exact s
end
def slF (v : V) (i : Nat) : V := match v with
 | .sl id off len (.exact c) => .sl id (cond (Nat.beq c i) off (off + i * 1)) (len - i) (.exact (c - i))
 | .sl id off len (.rest _ alt) => .sl id (off + i * 1) (len - i) (.rest 1 (cond (Nat.beq i 0) alt (cond (Nat.blt i len) (off + i * 1) off)))
 | v => v
theorem arrF {P : Program} {h : H} {S : List Assn} {v : V} {cs : List V} {i j : Nat} {t e : TypeId} (s : Sat h S) (hj : getA S j = some (.arr 1 v cs)) (hi : i ≤ cs.length) (hu : P.underlying t = some (.slice e)) (hse : sizeT P e = some 1) :
  sliceV P h t v (some i) none none = some (slF v i) ∧ lenV P h t (slF v i) = some (.int .i64 ((cs.length - i : Nat) : Int)) ∧
  ∀ (m : Nat) (x : V), cs[i + m]? = some x → ∃ id off, indexAddrV P t (slF v i) (.int .i64 (m : Int)) = some (.ptr id off) ∧ ∀ t', isAggT P t' = some false → loadV P h t' (.ptr id off) = some x := by
 obtain ⟨pm, r, h1, h2, h3⟩ := s.at hj
 rcases h3.2 with ⟨rfl, rfl⟩ | ⟨id, n, cap, N, rest, rfl, hg, e1, e2, _, e4⟩
 ·have : i = 0 := by simpa using hi
  subst this
  refine ⟨?_, ?_, fun m x hm => by simp at hm⟩
  ·simp only [sliceV, hu, hse]; rfl
  ·simp only [slF, lenV, hu]; rfl
 ·have hrow := h1 _ _ hg
  rw [Nat.mul_one] at e1
  have hload : ∀ (m : Nat) (x : V), cs[i + m]? = some x → ∀ t', isAggT P t' = some false → loadV P h t' (.ptr id (0 + i * 1 + m * 1)) = some x := fun m x hm t' ht => by
   have hlt := (List.getElem?_eq_some_iff.1 hm).1
   refine ld1 ht hrow ?_
   rw [nth_eq, show 0 + i * 1 + m * 1 = i + m by omega, List.getElem?_append_left hlt, hm]
  cases cap with
  | exact c =>
   obtain ⟨rfl, e5⟩ := e4
   refine ⟨?_, ?_, fun m x hm => ?_⟩
   ·simp only [sliceV, hu, hse, Option.getD_none, Option.getD_some, slF]
    rw [show (Nat.ble i n && Nat.ble n c) = true by rw [ble_iff.2 (by omega), ble_iff.2 e5]; rfl, cond_true]
   ·simp only [slF, lenV, hu, e1]
   ·have hlt := (List.getElem?_eq_some_iff.1 hm).1
    refine ⟨id, 0 + i * 1 + m * 1, ?_, hload m x hm⟩
    simp only [slF, indexAddrV, hu, hse, Int.toNat_natCast]
    rw [show (decide ((0 : Int) ≤ (m : Int)) && decide ((m : Int) < ((n - i : Nat) : Int))) = true by simp; omega, cond_true, beqF (by omega), cond_false]
  | rest q alt =>
   obtain ⟨rfl, rfl, rfl, e5⟩ := e4
   refine ⟨?_, ?_, fun m x hm => ?_⟩
   ·simp only [sliceV, hu, hse, Option.getD_none, Option.getD_some, slF]
    rw [show (Nat.beq 1 1 && Nat.ble 1 1) = true from rfl, cond_true, show (Nat.ble i n && (Nat.ble n n || Nat.ble n (extent h id 0 1))) = true by rw [ble_iff.2 (by omega : i ≤ n), ble_iff.2 (Nat.le_refl n)]; rfl, cond_true]
   ·simp only [slF, lenV, hu, e1]
   ·have hlt := (List.getElem?_eq_some_iff.1 hm).1
    refine ⟨id, 0 + i * 1 + m * 1, ?_, hload m x hm⟩
    simp only [slF, indexAddrV, hu, hse, Int.toNat_natCast]
    rw [show (decide ((0 : Int) ≤ (m : Int)) && decide ((m : Int) < ((n - i : Nat) : Int))) = true by simp; omega, cond_true]
end Go.Proofs.YtconhghphklfjaaGreat.Am
