/- Whatever groups are done and dropped, written out and checkpointed between, each page is as the groups that were done made it; the conditions are those of the given statement, for arguments that a machine can hold. Part 26 of 49. -/
import Derived.Test.YtconhghphklfjaaGreatP25
namespace Go.Proofs.YtconhghphklfjaaGreat.Am
open Go
section
variable {told : Nat → Option (List V → H → Option (V × H))} {h : H} {S : List Assn} {X : Assn} {p : Nat} {δ : Dk}
def Dk.wr (δ : Dk) (n : Int) (b : List Nat) : Dk := { δ.cnt with waiting := δ.waiting ++ [(n.toNat, b)], now := putL n b δ.now }
theorem info_wr : ∃ i, Tryz.prog.info? 125 = some i ∧ i.size = 2 ∧ i.bytes = 32 :=
 ⟨_, (show Tryz.prog.info? 125 = some ((Tryz.prog.info? 125).getD default) by kernel_rfl), by kernel_rfl, by kernel_rfl⟩
theorem Sat.wrMore {cs : List V} {m : List Wr} {u : V} {x : Wr} (s : Sat h (.rob u x.2 :: wrA cs m :: S)) (hu : u ≠ .sl0) : Sat h (wrA (cs ++ [.int .i64 (x.1 : Int), u]) (m ++ [x]) :: S) :=
 s.two (Pers.rob _ _) (Pers.wr _ _) fun _ _ h1 h2 => wrA_app h2 hu h1
theorem dWrite_ct (hT : W told) {n : Int} {x : V} {b : List Nat} (s : Sat h (isDk p δ :: X :: S)) (hX : Ent X (rdB x b)) (hb : b.length < 1073741824) (hf : δ.fuse < 4294967296) (hw : δ.waiting.length ≤ 268435456) :
  Call ⟨Tryz.prog, told⟩ 108 [.ptr p 0, .int .i64 n, x] h fun v h' =>
  (δ.dead = true ∧ v = .int .i64 9 ∧ Sat h' (isDk p δ :: X :: S)) ∨
  (δ.dead = false ∧ ¬(0 ≤ n ∧ n < δ.pages.length ∧ b.length = 512) ∧ v = .int .i64 1 ∧ Sat h' (isDk p δ :: X :: S)) ∨
  (δ.dead = false ∧ 0 ≤ n ∧ n < δ.pages.length ∧ b.length = 512 ∧ δ.fuse = 0 ∧ v = .int .i64 9 ∧ Sat h' (isDk p { δ.die with torn := some (n.toNat, b) } :: X :: S)) ∨
  (δ.dead = false ∧ 0 ≤ n ∧ n < δ.pages.length ∧ b.length = 512 ∧ δ.fuse ≠ 0 ∧ v = .int .i64 0 ∧ Sat h' (isDk p (δ.wr n b) :: X :: S)) := by
 have s0 := s
 obtain ⟨pg, wt, nw, lg, mk, tn, tl, ops, s⟩ := isDk_iff.1 s
 refine Call.of_wp (hT.free _ rfl) Tryz.func108 rfl rfl (zg rfl (za rfl (zv (zw (WP.block (zg rfl (zm rfl (zn rfl (zf rfl (fa123_9 _ _) ?_)))))))))
 refine WPs.opB rfl rfl rfl (o_load rfl (by exact s.ld (k := 0) rfl ag4 rfl)) ?_ ?_
 ·intro hd
  refine za rfl (zv (zi rfl (zg rfl (za rfl (zv ?_)))))
  refine WP.ret ⟨trivial, _, rfl, ?_⟩
  exact .inl ⟨hd, rfl, s0⟩
 ·intro hd
  refine za rfl (zv (zj rfl (zg rfl (zm rfl (zm rfl (WPs.call rfl rfl rfl rfl rfl rfl rfl (has_ct hT s0) ?_))))))
  rintro v h' ⟨rfl, (⟨hn1, hn2, rfl⟩ | ⟨hn, rfl⟩)⟩
  ·skip
   refine zo rfl (o_un rfl rfl) (zm rfl (zm rfl (zo rfl (o_len rfl rfl rfl (by exact len_view Tryz.underlying32 (s.viewX (k := 8) rfl hX))) ?_)))
   refine WPs.opB rfl rfl rfl (o_bin rfl rfl bNeq) ?_ ?_
   ·intro hq
    have hq : b.length ≠ 512 := by simp at hq; omega
    refine zp rfl (za rfl (zv (zi rfl (zg rfl (za rfl (zv ?_))))))
    refine WP.ret ⟨trivial, _, rfl, ?_⟩
    exact .inr (.inl ⟨hd, fun q => hq q.2.2, rfl, s0⟩)
   ·intro hq
    have hq : b.length = 512 := by simp at hq; omega
    refine zp rfl (za rfl (zv (zj rfl (WP.skip (zg rfl (zm rfl (zm rfl (WPs.call rfl rfl rfl rfl rfl rfl rfl (clone_disk hT (s0.bringS [1]) hX hb) ?_))))))))
    intro u h s
    obtain ⟨bid, _, cap, _, rfl, _⟩ := s.openBuf (by omega)
    have s := s.freezeBuf
    have hnc : ((n.toNat : Nat) : Int) = n := by omega
    refine zo rfl (o_build rfl (by rw [bv125]; rfl)) ?_
    refine WPs.newS s rfl rfl rfl (o_alloc zt125) (fun p7 h s => ?_)
    dsimp only [V.cells, List.length_cons, List.length_nil, Nat.reduceAdd, delA, bringA] at s
    refine WPs.stS rfl rfl rfl rfl rfl (by exact s.stA (j := 0) rfl sz125 rfl rfl) (fun h s => ?_)
    dsimp only [V.cells, List.take, Nat.reduceAdd, List.length_cons, List.length_nil, List.drop, List.cons_append, List.nil_append, setA] at s
    refine zv (zw (zg rfl (zm rfl (WPs.call rfl rfl rfl rfl rfl rfl rfl (counts_ct hT (s.bringS [3]) hf) ?_))))
    rintro v h (⟨h0, rfl, s⟩ | ⟨h0, rfl, s⟩)
    ·skip
     obtain ⟨pg, wt, nw, lg, mk, tn, tl, ops, s⟩ := isDk_iff.1 s
     refine zo rfl (o_un rfl rfl) (zv (zi rfl (zg rfl (zm rfl (zn rfl (zf rfl (fa123_10 _ _) ?_))))))
     refine WPs.stS rfl rfl rfl rfl rfl (by exact s.st1 (k := 0) rfl sz121 rfl (by decide) rfl rfl) (fun h s => ?_)
     dsimp only [dkC, delA, bringA, Nat.reduceAdd, List.set, setA] at s
     refine zv (zg rfl (za rfl (zv ?_)))
     refine WP.ret ⟨trivial, _, rfl, ?_⟩
     have s1 := s.bringS [8, 8, 8]
     have s2 : Sat h (tornA _ (some (n.toNat, b)) :: _) := Sat_xs.2 ⟨_, Sat_xs.2 ⟨_, Sat_star.2 (Sat_pu.2 ⟨rfl, by rw [hnc]; exact s1⟩)⟩⟩
     have s3 := (s2.del 8).bringS [2, 2, 2, 2, 2, 2, 0, 1, 0]
     exact .inr (.inr (.inl ⟨hd, hn1, hn2, hq, h0, rfl, isDk_iff.2 ⟨_, _, _, _, _, _, _, _, s3⟩⟩))
    ·skip
     obtain ⟨pg, wt, nw, lg, mk, tn, tl, ops, s⟩ := isDk_iff.1 s
     dsimp only [Dk.cnt] at s
     obtain ⟨cs, sw⟩ := waitA_iff.1 (s.bringS [2])
     have s := sw.bringS [2, 8, 0, 0]
     dsimp only [dkC, delA, bringA, getA] at s
     have s0 := s
     have hwb := (s.arrV (j := 2) rfl).2.2
     refine zo rfl (o_un rfl rfl) (zv (zj rfl (WP.skip (zw (WP.drawn [some (0, 3), some (0, 2), some (0, 2), some (0, 2), some (0, 2), none, none, none, none, none, none] rfl (by kernel_rfl) (by kernel_rfl) ?_)))))
     refine zM rfl (zM rfl (zN rfl (zF rfl (fa123_2 _ _) (zL rfl (by exact s.ld (k := 0) rfl ag120 rfl) ?_))))
     refine zL rfl (by exact s.ldA (k := 1) rfl ag125 sz125) ?_
     obtain ⟨i1, hi1, hi2, hi3⟩ := info_wr
     obtain ⟨sv, h1, e1, s1⟩ := sat_bs1 (P := Tryz.prog) (x := .agg [.int .i64 n, .sl bid 0 b.length cap]) s Tryz.underlying120 zt125 sz125 rfl (by decide) (by decide) rfl rfl
     dsimp only [V.cells] at s1
     refine WPt.any rfl rfl rfl rfl (OpR.of (R := fun v h' => v = sv ∧ h' = h1) (o_bs rfl e1) ⟨rfl, rfl⟩) ?_
     rintro v h' ⟨rfl, rfl⟩
     have hcl : cs.length = δ.waiting.length * 2 := by
      obtain ⟨a, b, q1, q2, q3⟩ := s.at (k := 3) rfl
      exact wrA_len q3
     obtain ⟨wt', h2, e2, s2⟩ := sat_appArr (s1.bringS [3, 0]) Tryz.underlying120 hi1 zt125 hi2 (by omega) rfl (by decide) (by simp only [V.cells, List.length_cons, List.length_nil]; omega)
     dsimp only [delA, bringA] at s2
     refine WPt.any rfl rfl rfl rfl (OpR.of (R := fun v h' => v = wt' ∧ h' = h2) (o_app rfl rfl e2) ⟨rfl, rfl⟩) ?_
     rintro v h' ⟨rfl, rfl⟩
     have hv := s2.arrV (j := 0) rfl
     refine zN rfl (zF rfl (fa123_2 _ _) (WPt.any0 rfl rfl rfl (OpR.stS rfl rfl rfl (s2.st1 (k := 2) rfl sz120 rfl (by decide) hv.1 hv.2.1)) ?_))
     rintro v h ⟨rfl, s⟩
     dsimp only [Nat.reduceAdd, List.set, setA] at s
     refine WPt.nil ⟨⟨fun _ _ => .inr ⟨rfl, ⟨_, o_move rfl⟩, beqV _ rfl⟩, fun _ _ => .inr ⟨rfl, ⟨_, o_move rfl⟩, beqV _ rfl⟩, fun _ _ => .inr ⟨rfl, ⟨_, o_nil rfl⟩, beqV _ rfl⟩, fun _ _ => .inr ⟨rfl, ⟨_, o_fa rfl (fa123_2 _ _)⟩, beqV _ rfl⟩, heaps2 (.inr ⟨rfl, ⟨_, o_load rfl (by exact s0.ld (k := 0) rfl ag120 rfl)⟩, hwb⟩) (.inr ⟨rfl, ⟨_, o_load rfl (by exact s1.ld (k := 1) rfl ag120 rfl)⟩, hwb⟩), trivial, trivial, trivial, trivial, trivial, trivial, trivial⟩, ?_⟩
     refine zw (WP.drawn [none, none, none, none, none, none, none, none] rfl (by kernel_rfl) (by kernel_rfl) ?_)
     refine zM rfl (zN rfl (zF rfl (fa123_3 _ _) (zL rfl (by exact s.ld (k := 2) rfl ag86 rfl) ?_)))
     refine zM rfl (zF rfl (fa125_1 _ _) (zL rfl (by exact s.ld (k := 3) rfl ag32 rfl) ?_))
     refine WPt.any0 rfl rfl rfl (OpR.mapUpdate rfl rfl rfl rfl (mapV_put (f := fun v b => Assn.rob v b) (x := b) (fun _ _ => Pers.rob _ _) (((s.bringS [11]).dup (Pers.rob _ _)).bringS [0, 7]) Tryz.underlying86 Tryz.underlying3)) ?_
     intro v h s
     dsimp only [delA, bringA] at s
     refine WPt.nil ⟨⟨trivial, trivial, trivial, trivial, trivial, trivial, trivial, trivial, trivial⟩, ?_⟩
     refine zg rfl (za rfl (zv ?_))
     refine WP.ret ⟨trivial, _, rfl, ?_⟩
     have s1 := (s.bringS [1, 5]).wrMore (x := (n.toNat, b)) (by simp)
     rw [hnc] at s1
     have s2 := ((waitA_iff.2 ⟨_, s1.bringS [2, 0]⟩).del 4).del 2
     exact .inr (.inr (.inr ⟨hd, hn1, hn2, hq, h0, rfl, isDk_iff.2 ⟨_, _, _, _, _, _, _, _, s2.bringS [2, 2, 0, 0, 0, 0, 0, 0, 0]⟩⟩))
  ·skip
   refine zo rfl (o_un rfl rfl) (zm rfl (zx rfl (zx rfl (zx rfl (zq rfl (za rfl (zv (zi rfl (zg rfl (za rfl (zv ?_)))))))))))
   refine WP.ret ⟨trivial, _, rfl, ?_⟩
   exact .inr (.inl ⟨hd, fun q => hn ⟨q.1, q.2.1⟩, rfl, s0⟩)
theorem dLog_ct (hT : W told) (s : Sat h (isDk p δ :: S)) (hl : δ.log.length < 1073741824) : Call ⟨Tryz.prog, told⟩ 103 [.ptr p 0] h fun v h' =>
  (δ.dead = true ∧ v = .tup [.sl0, .int .i64 9] ∧ Sat h' (isDk p δ :: S)) ∨ (δ.dead = false ∧ ∃ b, v = .tup [b, .int .i64 0] ∧ Sat h' (bufA b δ.log :: isDk p δ :: S)) := by
 have s0 := s
 obtain ⟨pg, wt, nw, lg, mk, tn, tl, ops, s⟩ := isDk_iff.1 s
 refine Call.of_wp (hT.free _ rfl) Tryz.func103 rfl rfl (zg rfl (za rfl (za rfl (zv (zw (zg rfl (zm rfl (zn rfl (zf rfl (fa123_9 _ _) ?_)))))))))
 refine WPs.opB rfl rfl rfl (o_load rfl (by exact s.ld (k := 0) rfl ag4 rfl)) ?_ ?_
 ·intro hd
  refine zv (zi rfl (zg rfl (za rfl (za rfl (zv ?_)))))
  refine WP.ret ⟨trivial, _, rfl, ?_⟩
  exact .inl ⟨hd, rfl, s0⟩
 ·intro hd
  refine zv (zj rfl (WP.skip (zg rfl (zm rfl (zn rfl (zf rfl (fa123_4 _ _) (zl rfl (by exact s.ld (k := 0) rfl ag32 rfl) ?_)))))))
  refine WPs.call rfl rfl rfl rfl rfl rfl rfl (clone_disk hT (s.bringS [4]) (rd_buf _ _) hl) ?_
  intro v h s
  dsimp only [dkC, delA, bringA] at s
  refine za rfl (za rfl (zv ?_))
  refine WP.ret ⟨trivial, _, rfl, ?_⟩
  exact .inr ⟨hd, v, rfl, (isDk_iff.2 ⟨pg, wt, nw, lg, mk, tn, tl, ops, s.bringS [2, 2, 2, 2, 1, 1, 1, 1, 0]⟩).bringS [1]⟩
theorem dMarked_ct (hT : W told) (s : Sat h (isDk p δ :: S)) (hl : δ.mark.length ≤ 64) : Call ⟨Tryz.prog, told⟩ 102 [.ptr p 0] h fun v h' =>
  (δ.dead = true ∧ v = .tup [.sl0, .int .i64 9] ∧ Sat h' (isDk p δ :: S)) ∨ (δ.dead = false ∧ ∃ b, v = .tup [b, .int .i64 0] ∧ Sat h' (bufA b δ.mark :: isDk p δ :: S)) := by
 have s0 := s
 obtain ⟨pg, wt, nw, lg, mk, tn, tl, ops, s⟩ := isDk_iff.1 s
 refine Call.of_wp (hT.free _ rfl) Tryz.func102 rfl rfl (zg rfl (za rfl (za rfl (zv (zw (zg rfl (zm rfl (zn rfl (zf rfl (fa123_9 _ _) ?_)))))))))
 refine WPs.opB rfl rfl rfl (o_load rfl (by exact s.ld (k := 0) rfl ag4 rfl)) ?_ ?_
 ·intro hd
  refine zv (zi rfl (zg rfl (za rfl (za rfl (zv ?_)))))
  refine WP.ret ⟨trivial, _, rfl, ?_⟩
  exact .inl ⟨hd, rfl, s0⟩
 ·intro hd
  refine zv (zj rfl (WP.skip (zg rfl (zm rfl (zn rfl (zf rfl (fa123_6 _ _) (zl rfl (by exact s.ld (k := 0) rfl ag32 rfl) ?_)))))))
  refine WPs.call rfl rfl rfl rfl rfl rfl rfl (clone_disk hT (s.bringS [5]) (rd_ro _ _) (by omega)) ?_
  intro v h s
  dsimp only [dkC, delA, bringA] at s
  refine za rfl (za rfl (zv ?_))
  refine WP.ret ⟨trivial, _, rfl, ?_⟩
  exact .inr ⟨hd, v, rfl, (isDk_iff.2 ⟨pg, wt, nw, lg, mk, tn, tl, ops, s.bringS [2, 2, 2, 2, 2, 1, 1, 1, 0]⟩).bringS [1]⟩
theorem dMark_ct (hT : W told) {x : V} {b : List Nat} (s : Sat h (isDk p δ :: X :: S)) (hX : Ent X (rdB x b)) (hf : δ.fuse < 4294967296) :
  Call ⟨Tryz.prog, told⟩ 110 [.ptr p 0, x] h fun v h' =>
  (δ.dead = true ∧ v = .int .i64 9 ∧ Sat h' (isDk p δ :: X :: S)) ∨ (δ.dead = false ∧ 64 < b.length ∧ v = .int .i64 1 ∧ Sat h' (isDk p δ :: X :: S)) ∨
  (δ.dead = false ∧ b.length ≤ 64 ∧ δ.fuse = 0 ∧ v = .int .i64 9 ∧ Sat h' (isDk p δ.die :: X :: S)) ∨
  (δ.dead = false ∧ b.length ≤ 64 ∧ δ.fuse ≠ 0 ∧ v = .int .i64 0 ∧ Sat h' (isDk p { δ.cnt with mark := b } :: X :: S)) := by
 have s0 := s
 obtain ⟨pg, wt, nw, lg, mk, tn, tl, ops, s⟩ := isDk_iff.1 s
 refine Call.of_wp (hT.free _ rfl) Tryz.func110 rfl rfl (zg rfl (za rfl (zv (zw (WP.block (zg rfl (zm rfl (zn rfl (zf rfl (fa123_9 _ _) ?_)))))))))
 refine WPs.opB rfl rfl rfl (o_load rfl (by exact s.ld (k := 0) rfl ag4 rfl)) ?_ ?_
 ·intro hd
  refine za rfl (zv (zi rfl (zg rfl (za rfl (zv ?_)))))
  refine WP.ret ⟨trivial, _, rfl, ?_⟩
  exact .inl ⟨hd, rfl, s0⟩
 ·intro hd
  refine za rfl (zv (zj rfl (zg rfl (zm rfl (zo rfl (o_len rfl rfl rfl (by exact len_view Tryz.underlying32 (s.viewX (k := 8) rfl hX))) ?_)))))
  refine WPs.opB rfl rfl rfl (o_bin rfl rfl bGtr) ?_ ?_
  ·intro hq
   have hq : 64 < b.length := by simp at hq; omega
   refine za rfl (zv (zi rfl (zg rfl (za rfl (zv ?_)))))
   refine WP.ret ⟨trivial, _, rfl, ?_⟩
   exact .inr (.inl ⟨hd, hq, rfl, s0⟩)
  ·intro hq
   have hq : b.length ≤ 64 := by simp at hq; omega
   refine za rfl (zv (zj rfl (zg rfl (zm rfl (WPs.call rfl rfl rfl rfl rfl rfl rfl (counts_ct hT s0 hf) ?_)))))
   rintro v h (⟨h0, rfl, s⟩ | ⟨h0, rfl, s⟩)
   ·skip
    refine zo rfl (o_un rfl rfl) (za rfl (zv (zi rfl (zg rfl (za rfl (zv ?_))))))
    refine WP.ret ⟨trivial, _, rfl, ?_⟩
    exact .inr (.inr (.inl ⟨hd, hq, h0, rfl, s⟩))
   ·skip
    refine zo rfl (o_un rfl rfl) (za rfl (zv (zj rfl (WP.skip (zg rfl (zm rfl (zm rfl (WPs.call rfl rfl rfl rfl rfl rfl rfl (clone_disk hT (s.bringS [1]) hX (by omega)) ?_))))))))
    intro v h s
    have s := (s.freezeBuf).bringS [2, 0, 0]
    obtain ⟨pg, wt, nw, lg, mk, tn, tl, ops, s⟩ := isDk_iff.1 s
    dsimp only [dkC, delA, bringA, getA] at s
    dsimp only [Dk.cnt] at s
    have hv := (s.viewX (k := 8) rfl (rd_ro _ _)).cells
    refine zn rfl (zf rfl (fa123_6 _ _) (WPs.stS rfl rfl rfl rfl rfl (s.st1 (k := 0) rfl sz32 rfl (by decide) hv.1 hv.2) ?_))
    intro h s
    dsimp only [Nat.reduceAdd, List.set, setA] at s
    refine zv (zg rfl (za rfl (zv ?_)))
    refine WP.ret ⟨trivial, _, rfl, ?_⟩
    exact .inr (.inr (.inr ⟨hd, hq, h0, rfl, isDk_iff.2 ⟨pg, wt, nw, lg, v, tn, tl, ops, (s.del 5).bringS [0, 0, 0, 0, 0, 2, 0, 0, 0]⟩⟩))
theorem dCut_ct (hT : W told) {n : Int} {x : V} {b : List Nat} (s : Sat h (isDk p δ :: X :: S)) (hX : Ent X (rdB x b)) (hf : δ.fuse < 4294967296) (hl : δ.log.length < 1073741824) (hc : δ.certain ≤ δ.log.length) :
  Call ⟨Tryz.prog, told⟩ 112 [.ptr p 0, .int .i64 n, x] h fun v h' =>
  (δ.dead = true ∧ v = .int .i64 9 ∧ Sat h' (isDk p δ :: X :: S)) ∨ (δ.dead = false ∧ ¬(0 ≤ n ∧ n ≤ δ.certain ∧ b.length ≤ 64) ∧ v = .int .i64 1 ∧ Sat h' (isDk p δ :: X :: S)) ∨
  (δ.dead = false ∧ 0 ≤ n ∧ n ≤ δ.certain ∧ b.length ≤ 64 ∧ δ.fuse = 0 ∧ v = .int .i64 9 ∧ Sat h' (isDk p δ.die :: X :: S)) ∨
  (δ.dead = false ∧ 0 ≤ n ∧ n ≤ δ.certain ∧ b.length ≤ 64 ∧ δ.fuse ≠ 0 ∧ v = .int .i64 0 ∧ Sat h' (isDk p { δ.cnt with log := δ.log.drop n.toNat, certain := δ.certain - n.toNat, mark := b } :: X :: S)) := by
 have s0 := s
 obtain ⟨pg, wt, nw, lg, mk, tn, tl, ops, s⟩ := isDk_iff.1 s
 refine Call.of_wp (hT.free _ rfl) Tryz.func112 rfl rfl (zg rfl (za rfl (zv (zw (WP.block (zg rfl (zm rfl (zn rfl (zf rfl (fa123_9 _ _) ?_)))))))))
 refine WPs.opB rfl rfl rfl (o_load rfl (by exact s.ld (k := 0) rfl ag4 rfl)) ?_ ?_
 ·intro hd
  refine za rfl (zv (zi rfl (zg rfl (za rfl (zv ?_)))))
  refine WP.ret ⟨trivial, _, rfl, ?_⟩
  exact .inl ⟨hd, rfl, s0⟩
 ·intro hd
  refine za rfl (zv (zj rfl (zg rfl (zm rfl ?_))))
  refine WPs.opB rfl rfl rfl (o_bin rfl rfl bLss) ?_ ?_
  ·intro hq
   have hq : n < 0 := by simpa using hq
   refine zm rfl (zx rfl (zx rfl (zx rfl (zx rfl (zx rfl (zx rfl (zq rfl (zm rfl (zx rfl (zx rfl (zx rfl (zq rfl (za rfl (zv (zi rfl (zg rfl (za rfl (zv ?_))))))))))))))))))
   refine WP.ret ⟨trivial, _, rfl, ?_⟩
   exact .inr (.inl ⟨hd, fun q => by omega, rfl, s0⟩)
  ·intro hq
   have hq : 0 ≤ n := by simpa using hq
   refine zm rfl (zm rfl (zm rfl (zn rfl (zf rfl (fa123_5 _ _) (zl rfl (by exact s.ld (k := 0) rfl ag3 rfl) ?_)))))
   refine WPs.opB rfl rfl rfl (o_bin rfl rfl bGtr) ?_ ?_
   ·intro hq2
    have hq2 : (δ.certain : Int) < n := by simpa using hq2
    refine zp rfl (zm rfl (zx rfl (zx rfl (zx rfl (zq rfl (za rfl (zv (zi rfl (zg rfl (za rfl (zv ?_)))))))))))
    refine WP.ret ⟨trivial, _, rfl, ?_⟩
    exact .inr (.inl ⟨hd, fun q => by omega, rfl, s0⟩)
   ·intro hq2
    have hq2 : n ≤ δ.certain := by simpa using hq2
    refine zp rfl (zm rfl (zm rfl (zo rfl (o_len rfl rfl rfl (by exact len_view Tryz.underlying32 (s.viewX (k := 8) rfl hX))) ?_)))
    refine WPs.opB rfl rfl rfl (o_bin rfl rfl bGtr) ?_ ?_
    ·intro hq3
     have hq3 : 64 < b.length := by simp at hq3; omega
     refine zp rfl (za rfl (zv (zi rfl (zg rfl (za rfl (zv ?_))))))
     refine WP.ret ⟨trivial, _, rfl, ?_⟩
     exact .inr (.inl ⟨hd, fun q => by omega, rfl, s0⟩)
    ·intro hq3
     have hq3 : b.length ≤ 64 := by simp at hq3; omega
     refine zp rfl (za rfl (zv (zj rfl (zg rfl (zm rfl (WPs.call rfl rfl rfl rfl rfl rfl rfl (counts_ct hT s0 hf) ?_))))))
     rintro v h (⟨h0, rfl, s⟩ | ⟨h0, rfl, s⟩)
     ·skip
      refine zo rfl (o_un rfl rfl) (za rfl (zv (zi rfl (zg rfl (za rfl (zv ?_))))))
      refine WP.ret ⟨trivial, _, rfl, ?_⟩
      exact .inr (.inr (.inl ⟨hd, hq, hq2, hq3, h0, rfl, s⟩))
     ·skip
      obtain ⟨pg, wt, nw, lg, mk, tn, tl, ops, s⟩ := isDk_iff.1 s
      dsimp only [Dk.cnt] at s
      obtain ⟨k, rfl⟩ : ∃ k : Nat, n = k := ⟨n.toNat, by omega⟩
      refine zo rfl (o_un rfl rfl) (za rfl (zv (zj rfl (WP.skip (zg rfl (zm rfl (zm rfl (zn rfl (zf rfl (fa123_4 _ _) (zl rfl (by exact s.ld (k := 0) rfl ag32 rfl) ?_))))))))))
      refine zm rfl (zo rfl (o_slice (p := some (.int .i64 (k : Int))) (q := none) (m := none) (p' := some k) (q' := none) (m' := none) rfl rfl rfl rfl (by simp [optB, bndV]) rfl rfl (slice_from (s.buf (k := 4) rfl).view (a := k) (by omega)).1) ?_)
      refine WPs.call rfl rfl rfl rfl rfl rfl rfl (clone_disk hT (s.bringS [4]) (rd_from (rd_buf _ _) (a := k) (by omega)) (by simp; omega)) ?_
      intro v h s
      dsimp only [dkC, delA, bringA] at s
      have hv := (s.buf (k := 0) rfl).view.cells
      refine zn rfl (zf rfl (fa123_4 _ _) (WPs.stS rfl rfl rfl rfl rfl (s.st1 (k := 2) rfl sz32 rfl (by decide) hv.1 hv.2) ?_))
      intro h s
      dsimp only [Nat.reduceAdd, List.set, setA] at s
      have s := (s.del 1).bringS [1, 1, 1, 1, 0, 0, 0, 0]
      dsimp only [delA, bringA, getA] at s
      refine zv (zg rfl (zm rfl (zn rfl (zf rfl (fa123_5 _ _) (zl rfl (by exact s.ld (k := 0) rfl ag3 rfl) ?_)))))
      refine zm rfl (zb rfl (by exact bSub (wrapS (by omega) (by omega))) ?_)
      refine zn rfl (zf rfl (fa123_5 _ _) ?_)
      refine WPs.stS rfl rfl rfl rfl rfl (by exact s.st1 (k := 0) rfl sz3 rfl (by decide) rfl rfl) (fun h s => ?_)
      dsimp only [Nat.reduceAdd, List.set, setA] at s
      refine zv (zg rfl (zm rfl (zm rfl (WPs.call rfl rfl rfl rfl rfl rfl rfl (clone_disk hT (s.bringS [8]) hX (by omega)) ?_))))
      intro u h s
      have s := s.freezeBuf
      dsimp only [delA, bringA] at s
      have hu := (s.viewX (k := 0) rfl (rd_ro _ _)).cells
      refine zn rfl (zf rfl (fa123_6 _ _) (WPs.stS rfl rfl rfl rfl rfl (s.st1 (k := 2) rfl sz32 rfl (by decide) hu.1 hu.2) ?_))
      intro h s
      dsimp only [Nat.reduceAdd, List.set, setA] at s
      refine zv (zg rfl (za rfl (zv ?_)))
      refine WP.ret ⟨trivial, _, rfl, ?_⟩
      have s := (s.del 7).bringS [2, 2, 2, 2, 2, 0, 1, 1, 0]
      dsimp only [delA, bringA, getA] at s
      have e : (δ.certain : Int) - (k : Int) = ((δ.certain - k : Nat) : Int) := by omega
      rw [e] at s
      exact .inr (.inr (.inr ⟨hd, hq, hq2, hq3, h0, rfl, isDk_iff.2 ⟨pg, wt, nw, v, u, tn, tl, ops, s⟩⟩))
def Dk.fresh (pages room : Nat) : Dk := { room := room, pages := List.replicate pages none, waiting := [], now := [], log := [], certain := 0, mark := [], fuse := -1, dead := false, torn := none, tail := [] }
theorem info_bs : ∃ i, Tryz.prog.info? 32 = some i ∧ i.size = 1 ∧ i.bytes = 24 :=
 ⟨_, (show Tryz.prog.info? 32 = some ((Tryz.prog.info? 32).getD default) by kernel_rfl), by kernel_rfl, by kernel_rfl⟩
theorem repeatL_one (v : V) : ∀ n : Nat, repeatL [v] n = List.replicate n v := by
 intro n
 induction n with
 | zero => rfl
 | succ n ih => simp only [repeatL, ih, List.replicate_succ, List.cons_append, List.nil_append]
theorem each_none {a b : PM} : ∀ n : Nat, (each roO (List.replicate n .sl0) (List.replicate n none)).p a b := by
 intro n
 induction n with
 | zero => trivial
 | succ n ih => exact ⟨rfl, ih⟩
theorem fresh_ct (hT : W told) {n m : Nat} (s : Sat h S) (hn : n < 1073741824) : Call ⟨Tryz.prog, told⟩ 63 [.int .i64 (n : Int), .int .i64 (m : Int)] h fun v h' => ∃ p, v = .ptr p 0 ∧ Sat h' (isDk p (Dk.fresh n m) :: S) := by
 refine Call.of_wp (hT.free _ rfl) Tryz.func63 rfl rfl (zg rfl (za rfl (zv (zg rfl (zm rfl (zm rfl ?_))))))
 obtain ⟨i1, hi1, hi2, hi3⟩ := info_bs
 obtain ⟨id, h1, e1, s1⟩ := sat_mkRow (P := Tryz.prog) s Tryz.underlying119 hi1 zt32 hi2 (by omega) rfl (by decide) hn
 refine WPs.any rfl rfl rfl (OpR.of (R := fun v h' => v = .sl id 0 n (.exact n) ∧ h' = h1) (o_mks rfl rfl e1) ⟨rfl, rfl⟩) ?_
 rintro v h ⟨rfl, rfl⟩
 have s := s1
 dsimp only [V.cells] at s
 rw [Nat.mul_one, repeatL_one] at s
 refine WPs.newM s rfl rfl rfl rfl (fun p8 h s => ?_)
 refine zo rfl (o_build rfl (by rw [bv123]; rfl)) ?_
 refine WPs.newS s rfl rfl rfl (o_box rfl rfl) (fun p10 h s => ?_)
 dsimp only [V.cells, List.take, Nat.reduceAdd, List.length_cons, List.length_nil, List.drop, List.cons_append, List.nil_append] at s
 refine za rfl (zv ?_)
 refine WP.ret ⟨trivial, _, rfl, ?_⟩
 have s := (mapV_new (f := fun v b => Assn.rob v b) (s.bringS [1]))
 have s := s.nilRo.nilRo.nilBuf
 have s : Sat _ (waitA .sl0 [] :: _) := waitA_iff.2 ⟨[], (s.addPu (φ := True) trivial).nilArr⟩
 have s : Sat _ (tornA .ptr0 none :: _) := s.addPu rfl
 dsimp only [delA, bringA] at s
 have s := s.bringS [6, 6]
 dsimp only [bringA, getA, delA] at s
 have hp : Sat _ (pagesA (.sl id 0 n (.exact n)) (List.replicate n none) :: _) := pagesA_iff.2 ⟨id, List.replicate n .sl0, by rw [List.length_replicate], by
  rw [List.length_replicate]
  exact (((s.bringS [1]).addPu (φ := True) trivial).ent fun a b _ => each_none n).bringS [1]⟩
 dsimp only [bringA, getA, delA] at hp
 exact ⟨_, rfl, isDk_iff.2 ⟨_, _, _, _, _, _, _, _, hp.bringS [1, 0, 1, 4, 1, 1, 0, 0]⟩⟩
theorem dNew_ct (hT : W told) {n m : Int} (s : Sat h S) : Call ⟨Tryz.prog, told⟩ 41 [.int .i64 n, .int .i64 m] h fun v h' =>
  (¬(1 ≤ n ∧ n ≤ 65536 ∧ 0 ≤ m ∧ m ≤ 16777216) ∧ v = .tup [.ptr0, .int .i64 1] ∧ Sat h' S) ∨
  (1 ≤ n ∧ n ≤ 65536 ∧ 0 ≤ m ∧ m ≤ 16777216 ∧ ∃ p, v = .tup [.ptr p 0, .int .i64 0] ∧ Sat h' (isDk p (Dk.fresh n.toNat m.toNat) :: S)) := by
 refine Call.of_wp (hT.free _ rfl) Tryz.func41 rfl rfl (zg rfl (za rfl (za rfl (zv (zw (zg rfl (zm rfl ?_)))))))
 refine WPs.opB rfl rfl rfl (o_bin rfl rfl bLss) ?_ ?_
 ·intro hq
  have hq : n < 1 := by simpa using hq
  refine zm rfl (zx rfl (zx rfl (zq rfl (zm rfl (zx rfl (zx rfl (zq rfl (zm rfl (zx rfl (zx rfl (zq rfl (zv (zi rfl (zg rfl (za rfl (za rfl (zv ?_)))))))))))))))))
  refine WP.ret ⟨trivial, _, rfl, ?_⟩
  exact .inl ⟨fun q => by omega, rfl, s⟩
 ·intro hq
  have hq : 1 ≤ n := by simpa using hq
  refine zm rfl (zm rfl ?_)
  refine WPs.opB rfl rfl rfl (o_bin rfl rfl bGtr) ?_ ?_
  ·intro hq2
   have hq2 : 65536 < n := by simpa using hq2
   refine zp rfl (zm rfl (zx rfl (zx rfl (zq rfl (zm rfl (zx rfl (zx rfl (zq rfl (zv (zi rfl (zg rfl (za rfl (za rfl (zv ?_))))))))))))))
   refine WP.ret ⟨trivial, _, rfl, ?_⟩
   exact .inl ⟨fun q => by omega, rfl, s⟩
  ·intro hq2
   have hq2 : n ≤ 65536 := by simpa using hq2
   refine zp rfl (zm rfl (zm rfl ?_))
   refine WPs.opB rfl rfl rfl (o_bin rfl rfl bLss) ?_ ?_
   ·intro hq3
    have hq3 : m < 0 := by simpa using hq3
    refine zp rfl (zm rfl (zx rfl (zx rfl (zq rfl (zv (zi rfl (zg rfl (za rfl (za rfl (zv ?_))))))))))
    refine WP.ret ⟨trivial, _, rfl, ?_⟩
    exact .inl ⟨fun q => by omega, rfl, s⟩
   ·intro hq3
    have hq3 : 0 ≤ m := by simpa using hq3
    refine zp rfl (zm rfl (zm rfl ?_))
    refine WPs.opB rfl rfl rfl (o_bin rfl rfl bGtr) ?_ ?_
    ·intro hq4
     have hq4 : 16777216 < m := by simpa using hq4
     refine zp rfl (zv (zi rfl (zg rfl (za rfl (za rfl (zv ?_))))))
     refine WP.ret ⟨trivial, _, rfl, ?_⟩
     exact .inl ⟨fun q => by omega, rfl, s⟩
    ·intro hq4
     have hq4 : m ≤ 16777216 := by simpa using hq4
     refine zp rfl (zv (zj rfl (WP.skip (zg rfl (zm rfl (zm rfl ?_))))))
     obtain ⟨n, rfl⟩ : ∃ k : Nat, n = k := ⟨n.toNat, by omega⟩
     obtain ⟨m, rfl⟩ : ∃ k : Nat, m = k := ⟨m.toNat, by omega⟩
     refine WPs.call rfl rfl rfl rfl rfl rfl rfl (fresh_ct hT s (by omega)) ?_
     rintro v h ⟨p, rfl, s⟩
     refine za rfl (za rfl (zv ?_))
     refine WP.ret ⟨trivial, _, rfl, ?_⟩
     exact .inr ⟨hq, hq2, hq3, hq4, p, rfl, s⟩
end
end Go.Proofs.YtconhghphklfjaaGreat.Am
namespace Go.Proofs.YtconhghphklfjaaGreat.Am
open Go
def leN : List Nat → Nat
 | [] => 0
 | b :: l => b + 256 * leN l
theorem leN_snoc : ∀ (l : List Nat) (b : Nat), leN (l ++ [b]) = leN l + b * 256 ^ l.length := by
 intro l
 induction l with
 | nil => intro b; simp [leN]
 | cons x l ih => intro b; simp only [List.cons_append, leN, ih, List.length_cons, Nat.pow_succ, Nat.mul_add]; rw [← Nat.add_assoc, Nat.mul_comm (256 ^ l.length) 256, ← Nat.mul_assoc b, Nat.mul_comm b 256, Nat.mul_assoc 256 b]
theorem leN_lt : ∀ (l : List Nat), (∀ b ∈ l, b < 256) → leN l < 256 ^ l.length := by
 intro l
 induction l with
 | nil => intro _; simp [leN]
 | cons x l ih =>
  intro h
  have h1 := ih (fun b hb => h b (List.mem_cons_of_mem _ hb))
  have h2 := h x List.mem_cons_self
  simp only [leN, List.length_cons, Nat.pow_succ]
  omega
theorem pow256 (i : Nat) : (256 : Nat) ^ i = 2 ^ (8 * i) := by rw [Nat.pow_mul]
theorem shl8 {P : Program} {h : H} {t : TypeId} {x y : Operand} {d i : Nat} (hd : d < 256) (hi : i ≤ 7) : binV P h .shl t x y (.int .u64 (d : Int)) (.int .i64 (8 * (i : Int))) = some (.int .u64 ((d * 256 ^ i : Nat) : Int)) := by
 have hp : (256 : Nat) ^ i ≤ 256 ^ 7 := Nat.pow_le_pow_right (by omega) hi
 have hlt : d * 256 ^ i < 18446744073709551616 := by
  have : d * 256 ^ i ≤ 255 * 256 ^ 7 := Nat.mul_le_mul (by omega) hp
  omega
 simp only [binV, shiftV, IntKind.bits]
 have e : (8 * (i : Int)).toNat = 8 * i := by omega
 rw [e, show min (8 * i) 64 = 8 * i by omega, show decide (8 * (i : Int) < 0) = false by simp; omega, cond_false]
 have : (d : Int) * 2 ^ (8 * i) = ((d * 256 ^ i : Nat) : Int) := by rw [pow256]; push_cast; rfl
 simp only [this, wrap_u64 hlt]
theorem or8 {P : Program} {h : H} {t : TypeId} {x y : Operand} {a d i : Nat} (ha : a < 256 ^ i) (hd : d < 256) (hi : i ≤ 7) : binV P h .or t x y (.int .u64 (a : Int)) (.int .u64 ((d * 256 ^ i : Nat) : Int)) = some (.int .u64 ((a + d * 256 ^ i : Nat) : Int)) := by
 have hp : (256 : Nat) ^ i ≤ 256 ^ 7 := Nat.pow_le_pow_right (by omega) hi
 have hm : d * 256 ^ i ≤ 255 * 256 ^ 7 := Nat.mul_le_mul (by omega) hp
 have h1 : ((a : Int) % (2 ^ (IntKind.u64).bits : Int)).toNat = a := by simp only [IntKind.bits]; omega
 have h2 : (((d * 256 ^ i : Nat) : Int) % (2 ^ (IntKind.u64).bits : Int)).toNat = d * 256 ^ i := by simp only [IntKind.bits]; omega
 have h3 : Nat.lor a (d * 256 ^ i) = a + d * 256 ^ i := by
  have e : d * 256 ^ i = 2 ^ (8 * i) * d := by rw [← pow256, Nat.mul_comm]
  have := Nat.two_pow_add_eq_or_of_lt (i := 8 * i) (b := a) (by rw [← pow256]; exact ha) d
  rw [← e] at this
  rw [Nat.add_comm a, this]
  exact Nat.or_comm _ _
 simp only [binV, ikBeq, cond_true, intV, bitsV, h1, h2, h3]
 rw [wrap_u64 (by omega)]
section
variable {told : Nat → Option (List V → H → Option (V × H))} {h : H} {S : List Assn} {X : Assn} {k : Nat} {v : V} {l : List Nat}
noncomputable def wdL : Code := pathC [1, 1, 0, 1, 0, 0] ((Tryz.f61.body).getD .skip)
theorem word_loop (hv : View h v l) (hl : l.length ≤ 8) : ∀ (j i : Nat) (E : List (Nat × V)) (Q : Ex → List (Nat × V) → H → Prop), i + j = l.length →
  Has E [(3, .int .u64 (leN (l.take i))), (6, v), (7, .int .i64 l.length), (8, .int .i64 i)] → (∀ E', look E' 3 = some (.int .u64 (leN l)) → Q (.exit 0) E' h) → WP ⟨Tryz.prog, told⟩ 22 (.loop wdL) E h Q := by
 intro j
 induction j with
 | zero =>
  intro i E Q hi hE hq
  refine WP.loop (WP.has hE (zg rfl (WPs.opF rfl rfl rfl (o_bin rfl rfl bLss) (by simp; omega) ?_)))
  refine zv (zw (zj rfl (WP.exit (hq _ ?_))))
  rw [List.take_of_length_le (by omega)]
  rfl
 | succ j ih =>
  intro i E Q hi hE hq
  have hb : l[i]? = some (l[i]'(by omega)) := List.getElem?_eq_getElem _
  generalize hbe : (l[i]'(by omega)) = b at hb
  have hb2 : b < 256 := hv.1 b (List.mem_of_getElem? hb)
  obtain ⟨id, off, e1, e2⟩ := index_view hv hb
  have ht : l.take (i + 1) = l.take i ++ [b] := by rw [List.take_add_one, hb]; rfl
  have hlt : leN (l.take i) < 256 ^ i := by
   have := leN_lt (l.take i) (fun x hx => hv.1 x (List.mem_of_mem_take hx))
   rwa [List.length_take, Nat.min_eq_left (by omega)] at this
  refine WP.loop (WP.has hE (zg rfl (WPs.opT rfl rfl rfl (o_bin rfl rfl bLss) (by simp; omega) ?_)))
  refine zv (zw (zi rfl (WP.skip (zw (WP.block (zg rfl (zm rfl (zo rfl (o_ia (r := .ptr id off) rfl rfl e1) (zl rfl e2 (za rfl (za rfl (zv (zr rfl (zm rfl (zm rfl (zo rfl (o_conv rfl (by exact cvI Tryz.underlying5 Tryz.underlying35 (wrapU (by omega) (by omega)))) ?_))))))))))))))))
  refine zm rfl (zb rfl (by exact bMul (wrapS (by omega) (by omega))) ?_)
  refine zb rfl (shl8 hb2 (by omega)) ?_
  refine zb rfl (or8 hlt hb2 (by omega)) ?_
  refine za rfl (zv (zr rfl (zb rfl (by exact bAdd (wrapS (by omega) (by omega))) ?_)))
  refine zm rfl (zv ?_)
  refine ih (i + 1) _ _ (by omega) ?_ hq
  rw [ht, leN_snoc, List.length_take, Nat.min_eq_left (by omega)]
  exact ⟨rfl, rfl, rfl, rfl, trivial⟩
theorem word_ct (hT : W told) (s : Sat h S) (hk : getA S k = some X) (hX : Ent X (rdB v l)) (hl : l.length ≤ 8) : Call ⟨Tryz.prog, told⟩ 61 [v] h fun r h' => r = .int .u64 (leN l) ∧ h' = h := by
 have hv := s.viewX hk hX
 refine Call.of_wp (hT.free _ rfl) Tryz.func61 rfl rfl (zg rfl (za rfl (zv (zg rfl (za rfl (zv (zw (zg rfl (zm rfl (zo rfl (o_len rfl rfl rfl (len_view Tryz.underlying32 hv)) (zm rfl (zv (WP.block ?_)))))))))))))
 refine word_loop hv hl l.length 0 _ _ (by omega) ⟨rfl, rfl, rfl, rfl, trivial⟩ (fun E' hE' => ?_)
 refine WP.has (F := [(3, .int .u64 (leN l))]) ⟨hE', trivial⟩ (zg rfl (zm rfl (za rfl (zv ?_))))
 refine WP.ret ⟨trivial, _, rfl, ?_⟩
 exact ⟨rfl, rfl⟩
theorem of_ct (hT : W told) (s : Sat h S) (hk : getA S k = some X) (hX : Ent X (rdB v l)) (hl : l.length ≤ 4611686018427387904) : Call ⟨Tryz.prog, told⟩ 84 [v] h fun r h' => r = .int .u32 (crc 0 l : Nat) ∧ h' = h := by
 refine Call.of_wp (hT.free _ rfl) Tryz.func84 rfl rfl (zg rfl (za rfl (zv (zg rfl (zm rfl (WPs.call rfl rfl rfl rfl rfl rfl rfl (more_ct (s := 0) hT s hk hX (by decide) hl) ?_))))))
 rintro v h' ⟨rfl, rfl⟩
 refine za rfl (zv ?_)
 refine WP.ret ⟨trivial, _, rfl, ?_⟩
 exact ⟨rfl, rfl⟩
def atL (l : List Nat) (a z : Nat) : Nat := leN ((l.take (a + z)).drop a)
theorem get_ct (hT : W told) {a z : Int} (s : Sat h S) (hk : getA S k = some X) (hX : Ent X (rdB v l)) (ha : 0 ≤ a) (hz : 1 ≤ z) (hz2 : z ≤ 7) (hl : a + z ≤ l.length) (hl2 : l.length ≤ 65536) :
  Call ⟨Tryz.prog, told⟩ 83 [.agg [v], .int .i64 a, .int .i64 z] h fun r h' => r = .int .i64 (atL l a.toNat z.toNat) ∧ Sat h' S := by
 have hv := s.viewX hk hX
 obtain ⟨pi, po, pc, rfl⟩ := view_sl hv (by omega)
 refine Call.of_wp (hT.free _ rfl) Tryz.func83 rfl rfl (zg rfl ?_)
 refine WPs.newS s rfl rfl rfl (o_box rfl rfl) (fun p3 h s => ?_)
 dsimp only [V.cells, List.length_cons, List.length_nil, Nat.reduceAdd] at s
 refine za rfl (zv (zg rfl (zf rfl (fa146_0 _ _) (zl rfl (by exact s.ld (k := 0) rfl ag32 rfl) ?_))))
 refine zm rfl (zm rfl (zm rfl (zb rfl (by exact bAdd (wrapS (by omega) (by omega))) ?_)))
 refine zm rfl (zm rfl (zb rfl (by exact bAdd (wrapS (by omega) (by omega))) ?_))
 have hsl := slice3_view (s.viewX (getA_up hk) hX) (a := a.toNat) (b := (a + z).toNat) (c := (a + z).toNat) (by omega) (by omega) (by omega) (by omega)
 refine zo rfl (o_slice (p := some (.int .i64 a)) (q := some (.int .i64 (a + z))) (m := some (.int .i64 (a + z))) rfl rfl rfl rfl (bnd_ok ha) (bnd_ok (by omega)) (bnd_ok (by omega)) hsl) ?_
 have hlen : ((l.take (a + z).toNat).drop a.toNat).length = z.toNat := by simp; omega
 refine WPs.call rfl rfl rfl rfl rfl rfl rfl (word_ct hT s (getA_up hk) (rd_slice3 hX (a := a.toNat) (b := (a + z).toNat) (c := (a + z).toNat) (by omega) (by omega) (by omega) (by omega)) (by omega)) ?_
 rintro r h' ⟨rfl, rfl⟩
 have hlt := leN_lt ((l.take (a + z).toNat).drop a.toNat) (fun x hx => hv.1 x (List.mem_of_mem_take (List.mem_of_mem_drop hx)))
 have hp : 256 ^ z.toNat ≤ 256 ^ 7 := Nat.pow_le_pow_right (by omega) (by omega)
 rw [hlen] at hlt
 have e : (a + z).toNat = a.toNat + z.toNat := by omega
 rw [e] at hlt ⊢
 refine zo rfl (o_conv rfl (by exact cvI Tryz.underlying35 Tryz.underlying3 (wrapS (by omega) (by omega)))) ?_
 refine za rfl (zv ?_)
 refine WP.ret ⟨trivial, _, rfl, ?_⟩
 exact ⟨rfl, s.drop⟩
theorem atL_lt {a z : Nat} (hl : ∀ b ∈ l, b < 256) : atL l a z < 256 ^ z := by
 have := leN_lt ((l.take (a + z)).drop a) (fun x hx => hl x (List.mem_of_mem_take (List.mem_of_mem_drop hx)))
 have h2 : ((l.take (a + z)).drop a).length ≤ z := by simp; omega
 exact Nat.lt_of_lt_of_le this (Nat.pow_le_pow_right (by omega) h2)
def cntL (l : List Nat) : Nat := atL l 14 2
def lowL (l : List Nat) : Nat := atL l 16 2
def slotF (l : List Nat) (i : Nat) : Nat := atL l (26 + 4 * i) 2
def slotZ (l : List Nat) (i : Nat) : Nat := atL l (26 + 4 * i + 2) 2
theorem count_ct (hT : W told) (s : Sat h S) (hk : getA S k = some X) (hX : Ent X (rdB v l)) (hl : l.length = 512) :
  Call ⟨Tryz.prog, told⟩ 78 [.agg [v]] h fun r h' => r = .int .i64 (cntL l) ∧ Sat h' S := by
 have hv := s.viewX hk hX
 obtain ⟨pi, po, pc, rfl⟩ := view_sl hv (by omega)
 refine Call.of_wp (hT.free _ rfl) Tryz.func78 rfl rfl (zg rfl ?_)
 refine WPs.newS s rfl rfl rfl (o_box rfl rfl) (fun p1 h s => ?_)
 dsimp only [V.cells, List.length_cons, List.length_nil, Nat.reduceAdd] at s
 refine za rfl (zv (zg rfl (zl rfl (by exact s.ldA (k := 0) rfl ag146 sz146) ?_)))
 refine WPs.call rfl rfl rfl rfl rfl rfl rfl (get_ct hT s (getA_up hk) hX (by decide) (by decide) (by decide) (by omega) (by omega)) ?_
 rintro r h' ⟨rfl, s⟩
 refine za rfl (zv ?_)
 refine WP.ret ⟨trivial, _, rfl, ?_⟩
 exact ⟨rfl, s.drop⟩
theorem low_ct (hT : W told) (s : Sat h S) (hk : getA S k = some X) (hX : Ent X (rdB v l)) (hl : l.length = 512) :
  Call ⟨Tryz.prog, told⟩ 79 [.agg [v]] h fun r h' => r = .int .i64 (lowL l) ∧ Sat h' S := by
 have hv := s.viewX hk hX
 obtain ⟨pi, po, pc, rfl⟩ := view_sl hv (by omega)
 refine Call.of_wp (hT.free _ rfl) Tryz.func79 rfl rfl (zg rfl ?_)
 refine WPs.newS s rfl rfl rfl (o_box rfl rfl) (fun p1 h s => ?_)
 dsimp only [V.cells, List.length_cons, List.length_nil, Nat.reduceAdd] at s
 refine za rfl (zv (zg rfl (zl rfl (by exact s.ldA (k := 0) rfl ag146 sz146) ?_)))
 refine WPs.call rfl rfl rfl rfl rfl rfl rfl (get_ct hT s (getA_up hk) hX (by decide) (by decide) (by decide) (by omega) (by omega)) ?_
 rintro r h' ⟨rfl, s⟩
 refine za rfl (zv ?_)
 refine WP.ret ⟨trivial, _, rfl, ?_⟩
 exact ⟨rfl, s.drop⟩
end
end Go.Proofs.YtconhghphklfjaaGreat.Am
