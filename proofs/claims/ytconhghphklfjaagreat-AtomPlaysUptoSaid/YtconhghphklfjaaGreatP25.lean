/- Whatever groups are done and dropped, written out and checkpointed between, each page is as the groups that were done made it; the conditions are those of the given statement, for arguments that a machine can hold. Part 25 of 49. -/
import Derived.Test.YtconhghphklfjaaGreatP24
namespace Go.Proofs.YtconhghphklfjaaGreat.Am
open Go
section
variable {told : Nat → Option (List V → H → Option (V × H))} {h : H} {S : List Assn} {X : Assn} {p : Nat} {δ : Dk}
theorem clone_disk (hT : W told) {x : V} {l : List Nat} (s : Sat h (X :: S)) (hX : Ent X (rdB x l)) (hl : l.length < 1073741824) :
  Call ⟨Tryz.prog, told⟩ 65 [x] h fun v h' => Sat h' (bufA v l :: X :: S) := by
 refine Call.of_wp (hT.free _ rfl) Tryz.func65 rfl rfl (zg rfl (za rfl (zv (zg rfl (zm rfl (zo rfl (o_len rfl rfl rfl (len_view Tryz.underlying32 (s.viewX (k := 0) rfl hX))) (WPs.any rfl rfl rfl (OpR.make0S rfl s rfl rfl rfl rfl hl) ?_)))))))
 intro v h s
 refine zm rfl (WPs.any rfl rfl rfl (OpR.appB rfl s hX rfl rfl rfl rfl (by simp; omega)) ?_)
 intro v h s
 refine za rfl (zv ?_)
 refine WP.ret ⟨trivial, _, rfl, ?_⟩
 exact s
theorem clone_pool (hT : W told) {x : V} {l : List Nat} (s : Sat h (X :: S)) (hX : Ent X (rdB x l)) (hl : l.length < 1073741824) :
  Call ⟨Tryz.prog, told⟩ 93 [x] h fun v h' => Sat h' (bufA v l :: X :: S) := by
 refine Call.of_wp (hT.free _ rfl) Tryz.func93 rfl rfl (zg rfl (za rfl (zv (zg rfl (zm rfl (zo rfl (o_len rfl rfl rfl (len_view Tryz.underlying32 (s.viewX (k := 0) rfl hX))) (WPs.any rfl rfl rfl (OpR.make0S rfl s rfl rfl rfl rfl hl) ?_)))))))
 intro v h s
 refine zm rfl (WPs.any rfl rfl rfl (OpR.appB rfl s hX rfl rfl rfl rfl (by simp; omega)) ?_)
 intro v h s
 refine za rfl (zv ?_)
 refine WP.ret ⟨trivial, _, rfl, ?_⟩
 exact s
theorem clone_atom (hT : W told) {x : V} {l : List Nat} (s : Sat h (X :: S)) (hX : Ent X (rdB x l)) (hl : l.length < 1073741824) :
  Call ⟨Tryz.prog, told⟩ 44 [x] h fun v h' => Sat h' (bufA v l :: X :: S) := by
 refine Call.of_wp (hT.free _ rfl) Tryz.func44 rfl rfl (zg rfl (za rfl (zv (zg rfl (zm rfl (zo rfl (o_len rfl rfl rfl (len_view Tryz.underlying32 (s.viewX (k := 0) rfl hX))) (WPs.any rfl rfl rfl (OpR.make0S rfl s rfl rfl rfl rfl hl) ?_)))))))
 intro v h s
 refine zm rfl (WPs.any rfl rfl rfl (OpR.appB rfl s hX rfl rfl rfl rfl (by simp; omega)) ?_)
 intro v h s
 refine za rfl (zv ?_)
 refine WP.ret ⟨trivial, _, rfl, ?_⟩
 exact s
theorem pages_ct (hT : W told) (s : Sat h (isDk p δ :: S)) : Call ⟨Tryz.prog, told⟩ 55 [.ptr p 0] h fun v h' => v = .int .i64 (δ.pages.length : Int) ∧ h' = h := by
 obtain ⟨pg, wt, nw, lg, mk, tn, tl, ops, s⟩ := isDk_iff.1 s
 obtain ⟨id, cs, rfl, s'⟩ := pagesA_iff.1 (s.bringS [1])
 refine Call.of_wp (hT.free _ rfl) Tryz.func55 rfl rfl (zg rfl (za rfl (zv (zg rfl (zm rfl (zn rfl (zf rfl (fa123_1 _ _) (zl rfl (by exact s.ld (k := 0) rfl ag119 rfl) ?_))))))))
 refine zo rfl (o_len rfl rfl rfl (by exact len_slE rfl Tryz.underlying119)) ?_
 refine za rfl (zv ?_)
 refine WP.ret ⟨trivial, _, rfl, ?_⟩
 exact ⟨rfl, rfl⟩
theorem has_ct (hT : W told) {n : Int} (s : Sat h (isDk p δ :: S)) : Call ⟨Tryz.prog, told⟩ 128 [.ptr p 0, .int .i64 n] h fun v h' => h' = h ∧ ((0 ≤ n ∧ n < δ.pages.length ∧ v = .bool true) ∨ (¬(0 ≤ n ∧ n < δ.pages.length) ∧ v = .bool false)) := by
 obtain ⟨pg, wt, nw, lg, mk, tn, tl, ops, s⟩ := isDk_iff.1 s
 obtain ⟨id, cs, rfl, s'⟩ := pagesA_iff.1 (s.bringS [1])
 refine Call.of_wp (hT.free _ rfl) Tryz.func128 rfl rfl (zg rfl (za rfl (zv (zg rfl (zm rfl ?_)))))
 refine WPs.opB rfl rfl rfl (o_bin rfl rfl bGeq) ?_ ?_
 ·intro hq
  have hq : 0 ≤ n := by simpa using hq
  refine zm rfl (zm rfl (zm rfl (zn rfl (zf rfl (fa123_1 _ _) (zl rfl (by exact s.ld (k := 0) rfl ag119 rfl) ?_)))))
  refine zo rfl (o_len rfl rfl rfl (by exact len_slE rfl Tryz.underlying119)) ?_
  refine WPs.opB rfl rfl rfl (o_bin rfl rfl bLss) ?_ ?_
  ·intro hq2
   have hq2 : n < δ.pages.length := by simpa using hq2
   refine zq rfl (za rfl (zv ?_))
   refine WP.ret ⟨trivial, _, rfl, ?_⟩
   exact ⟨rfl, .inl ⟨hq, hq2, rfl⟩⟩
  ·intro hq2
   have hq2 : ¬ n < δ.pages.length := by simpa using hq2
   refine zq rfl (za rfl (zv ?_))
   refine WP.ret ⟨trivial, _, rfl, ?_⟩
   exact ⟨rfl, .inr ⟨fun h => hq2 h.2, rfl⟩⟩
 ·intro hq
  have hq : ¬ 0 ≤ n := by simpa using hq
  refine zm rfl (zx rfl (zx rfl (zx rfl (zx rfl (zx rfl (zx rfl (zx rfl (zp rfl (za rfl (zv ?_))))))))))
  refine WP.ret ⟨trivial, _, rfl, ?_⟩
  exact ⟨rfl, .inr ⟨fun h => hq h.1, rfl⟩⟩
def Dk.dCertain (δ : Dk) : Nat := δ.certain
def Dk.cnt (δ : Dk) : Dk := { δ with fuse := if 0 < δ.fuse then δ.fuse - 1 else δ.fuse }
def Dk.die (δ : Dk) : Dk := { δ with dead := true }
theorem counts_ct (hT : W told) (s : Sat h (isDk p δ :: S)) (hf : δ.fuse < 4294967296) :
  Call ⟨Tryz.prog, told⟩ 118 [.ptr p 0] h fun v h' => (δ.fuse = 0 ∧ v = .bool false ∧ Sat h' (isDk p δ.die :: S)) ∨ (δ.fuse ≠ 0 ∧ v = .bool true ∧ Sat h' (isDk p δ.cnt :: S)) := by
 obtain ⟨pg, wt, nw, lg, mk, tn, tl, ops, s⟩ := isDk_iff.1 s
 refine Call.of_wp (hT.free _ rfl) Tryz.func118 rfl rfl (zg rfl (za rfl (zv (zw (zg rfl (zm rfl (zn rfl (zf rfl (fa123_7 _ _) (zl rfl (by exact s.ld (k := 0) rfl ag3 rfl) ?_)))))))))
 refine WPs.opB rfl rfl rfl (o_bin rfl rfl bEql) ?_ ?_
 ·intro hq
  refine zv (zi rfl (zg rfl (zm rfl (zn rfl (zf rfl (fa123_9 _ _) ?_)))))
  refine WPs.stS rfl rfl rfl rfl rfl (by exact s.st1 (k := 0) rfl sz4 rfl (by decide) rfl rfl) (fun h s => ?_)
  dsimp only [Nat.reduceAdd, setA] at s
  refine zv (zg rfl (za rfl (zv ?_)))
  refine WP.ret ⟨trivial, _, rfl, ?_⟩
  have hq : δ.fuse = 0 := by simpa using hq
  exact .inl ⟨hq, rfl, isDk_iff.2 ⟨pg, wt, nw, lg, mk, tn, tl, ops, s⟩⟩
 ·intro hq
  have hq : δ.fuse ≠ 0 := by simpa using hq
  refine zv (zj rfl (WP.skip (zw (zg rfl (zm rfl (zn rfl (zf rfl (fa123_7 _ _) (zl rfl (by exact s.ld (k := 0) rfl ag3 rfl) ?_))))))))
  refine WPs.opB rfl rfl rfl (o_bin rfl rfl bGtr) ?_ ?_
  ·intro hq2
   have hq2 : 0 < δ.fuse := by simpa using hq2
   refine zv (zi rfl (zr rfl (zm rfl (zn rfl (zf rfl (fa123_7 _ _) (zl rfl (by exact s.ld (k := 0) rfl ag3 rfl) ?_))))))
   refine zb rfl (by exact bSub (wrapS (by omega) (by omega))) ?_
   refine zn rfl (zf rfl (fa123_7 _ _) ?_)
   refine WPs.stS rfl rfl rfl rfl rfl (by exact s.st1 (k := 0) rfl sz3 rfl (by decide) rfl rfl) (fun h s => ?_)
   dsimp only [Nat.reduceAdd, setA] at s
   refine zv (zg rfl (zm rfl (zn rfl (zf rfl (fa123_8 _ _) (zl rfl (by exact s.ld (k := 0) rfl ag3 rfl) ?_)))))
   refine zb rfl (by rfl) ?_
   refine zn rfl (zf rfl (fa123_8 _ _) ?_)
   refine WPs.stS rfl rfl rfl rfl rfl (by exact s.st1 (k := 0) rfl sz3 rfl (by decide) rfl rfl) (fun h s => ?_)
   dsimp only [Nat.reduceAdd, setA] at s
   refine zv (zg rfl (za rfl (zv ?_)))
   refine WP.ret ⟨trivial, _, rfl, ?_⟩
   exact .inr ⟨hq, rfl, isDk_iff.2 ⟨pg, wt, nw, lg, mk, tn, tl, _, by simp only [Dk.cnt, if_pos hq2]; exact s⟩⟩
  ·intro hq2
   have hq2 : ¬ 0 < δ.fuse := by simpa using hq2
   refine zv (zj rfl (WP.skip (zg rfl (zm rfl (zn rfl (zf rfl (fa123_8 _ _) (zl rfl (by exact s.ld (k := 0) rfl ag3 rfl) ?_)))))))
   refine zb rfl (by rfl) ?_
   refine zn rfl (zf rfl (fa123_8 _ _) ?_)
   refine WPs.stS rfl rfl rfl rfl rfl (by exact s.st1 (k := 0) rfl sz3 rfl (by decide) rfl rfl) (fun h s => ?_)
   dsimp only [Nat.reduceAdd, setA] at s
   refine zv (zg rfl (za rfl (zv ?_)))
   refine WP.ret ⟨trivial, _, rfl, ?_⟩
   exact .inr ⟨hq, rfl, isDk_iff.2 ⟨pg, wt, nw, lg, mk, tn, tl, _, by simp only [Dk.cnt, if_neg hq2]; exact s⟩⟩
def Dk.at (δ : Dk) (n : Int) : List Nat := match lookL n δ.now with
 | some b => b
 | none => match δ.pages[n.toNat]? with
  | some (some b) => b
  | _ => List.replicate 512 0
theorem pagesA_get {v : V} {m : List (Option (List Nat))} {i : Nat} (s : Sat h (pagesA v m :: S)) (hi : i < m.length) :
  ∃ id u, v = .sl id 0 m.length (.exact m.length) ∧ (∀ (P : Program) (t : TypeId), isAggT P t = some false → loadV P h t (.ptr id i) = some u) ∧ Sat h (roO u m[i] :: pagesA v m :: S) := by
 obtain ⟨id, cs, rfl, s1⟩ := pagesA_iff.1 s
 obtain ⟨a, b, q1, q2, q3⟩ := s1.at (k := 1) rfl
 have hl := each_len q3
 have hu : cs[i]? = some (cs[i]'(by omega)) := List.getElem?_eq_getElem _
 have s2 : Sat h (each roO cs m :: pt id (.cells m.length cs false) :: S) := s1.bringS [1]
 have s3 := s2.dup (Pers.each Pers.roO cs m)
 have s4 : Sat h (roO (cs[i]'(by omega)) m[i] :: each roO cs m :: pt id (.cells m.length cs false) :: S) := s3.ent fun a b h => each_get h hu (List.getElem?_eq_getElem hi)
 refine ⟨id, cs[i]'(by omega), rfl, fun P t ht => ld1 ht (s1.row (k := 0) rfl) (by rw [nth_eq, hu]), ?_⟩
 have s5 : Sat h (pt id (.cells m.length cs false) :: each roO cs m :: roO (cs[i]'(by omega)) m[i] :: S) := s4.bringS [2, 1]
 exact (pagesA_iff.2 ⟨id, cs, rfl, s5⟩ : Sat h (pagesA _ m :: roO (cs[i]'(by omega)) m[i] :: S)).bringS [1]
theorem dread_ct (hT : W told) {n : Int} (s : Sat h (isDk p δ :: S)) (hl : (δ.at n).length = 512) : Call ⟨Tryz.prog, told⟩ 96 [.ptr p 0, .int .i64 n] h fun v h' =>
  (δ.dead = true ∧ v = .tup [.sl0, .int .i64 9] ∧ Sat h' (isDk p δ :: S)) ∨
  (δ.dead = false ∧ ¬(0 ≤ n ∧ n < δ.pages.length) ∧ v = .tup [.sl0, .int .i64 1] ∧ Sat h' (isDk p δ :: S)) ∨
  (δ.dead = false ∧ 0 ≤ n ∧ n < δ.pages.length ∧ ∃ b, v = .tup [b, .int .i64 0] ∧ Sat h' (bufA b (δ.at n) :: isDk p δ :: S)) := by
 have s0 := s
 obtain ⟨pg, wt, nw, lg, mk, tn, tl, ops, s⟩ := isDk_iff.1 s
 refine Call.of_wp (hT.free _ rfl) Tryz.func96 rfl rfl (zg rfl (za rfl (za rfl (zv (zw (WP.block (zg rfl (zm rfl (zn rfl (zf rfl (fa123_9 _ _) (zl rfl (by exact s.ld (k := 0) rfl ag4 rfl) ?_)))))))))))
 refine za rfl (zv ?_)
 refine WP.split rfl ?_ ?_
 ·intro hd
  refine zg rfl (za rfl (za rfl (zv ?_)))
  refine WP.ret ⟨trivial, _, rfl, ?_⟩
  exact .inl ⟨hd, rfl, s0⟩
 ·intro hd
  refine zg rfl (zm rfl (zm rfl (WPs.call rfl rfl rfl rfl rfl rfl rfl (has_ct hT s0) ?_)))
  rintro v h' ⟨rfl, (⟨hn1, hn2, rfl⟩ | ⟨hn, rfl⟩)⟩
  ·skip
   refine zo rfl (o_un rfl rfl) (za rfl (zv (zj rfl (WP.skip (zg rfl (zm rfl (zn rfl (zf rfl (fa123_3 _ _) (zl rfl (by exact s.ld (k := 0) rfl ag86 rfl) ?_)))))))))
   refine zm rfl ?_
   have s1 : Sat h' (mapV (fun v b => .rob v b) nw δ.now :: pt p (.cells 12 (dkC δ.room pg wt nw lg δ.certain mk δ.fuse ops δ.dead tn tl) false) :: pagesA pg δ.pages :: waitA wt δ.waiting :: bufA lg δ.log :: roB mk δ.mark :: tornA tn δ.torn :: roB tl δ.tail :: S) := s.bringS [3]
   rcases mapV_look (n := n) (fun _ _ => Pers.rob _ _) s1 Tryz.underlying86 Tryz.underlying3 zt32 with ⟨g1, g2, _⟩ | ⟨u, b, g1, g2, _, s2⟩
   ·refine WPs.op rfl rfl rfl (o_look rfl rfl g2) ?_
    refine zm rfl (ze rfl (ze rfl (za rfl (za rfl (zv (zw (zg rfl (zm rfl (zo rfl (o_un rfl rfl) (zv (zi rfl (zr rfl (zm rfl (zn rfl (zf rfl (fa123_1 _ _) (zl rfl (by exact s.ld (k := 0) rfl ag119 rfl) ?_))))))))))))))))
    refine zm rfl ?_
    have hi : n.toNat < δ.pages.length := by omega
    obtain ⟨id, u, rfl, g3, s3⟩ := pagesA_get (s.bringS [1]) hi
    refine zo rfl (o_ia (r := .ptr id n.toNat) rfl rfl (by rw [ia119, show (decide (0 ≤ n) && decide (n < ((δ.pages.length : Nat) : Int))) = true by simp; omega, cond_true]; simp)) ?_
    refine zl rfl (g3 _ _ ag32) (za rfl (zv (zw (zg rfl (zm rfl ?_)))))
    have hat : δ.at n = match δ.pages[n.toNat] with | some b => b | none => List.replicate 512 0 := by
     simp only [Dk.at, g1, List.getElem?_eq_getElem hi]
     cases δ.pages[n.toNat] <;> rfl
    cases hp : δ.pages[n.toNat] with
    | none =>
     rw [hp] at s3 hat
     have hat : δ.at n = List.replicate 512 0 := hat
     obtain ⟨rfl, _⟩ := Sat_pu.1 s3
     refine WPs.opT rfl rfl rfl ((by exact o_bin rfl rfl (by simp only [binV, eqV, Tryz.underlying32]; rfl))) (rfl) ?_
     refine zv (zi rfl (zg rfl (WPs.any rfl rfl rfl (OpR.zeros rfl s0 rfl rfl rfl rfl (by decide)) ?_)))
     intro v h s
     refine za rfl (za rfl (zv ?_))
     refine WP.ret ⟨trivial, _, rfl, ?_⟩
     exact .inr (.inr ⟨hd, hn1, hn2, v, rfl, by rw [hat]; exact s⟩)
    | some b =>
     rw [hp] at s3 hat
     have hat : δ.at n = b := hat
     have s4 : Sat h' (Assn.an (.pu (u ≠ .sl0)) (.rob u b) :: pagesA _ δ.pages :: _) := s3
     have hu : u ≠ .sl0 := by
      obtain ⟨a, b, q1, q2, q3⟩ := s4.at (k := 0) rfl
      exact q3.1
     have s5 : Sat h' (.rob u b :: isDk p δ :: S) := by
      have s6 := s4.ent (B := .rob u b) fun a b h => h.2
      exact (isDk_iff.2 ⟨_, wt, nw, lg, mk, tn, tl, ops, s6.bringS [2, 1, 1, 1, 1, 1, 1, 1]⟩ : Sat h' (isDk p δ :: .rob u b :: S)).bringS [1]
     have hub : ∃ a b c d, u = .sl a b c d := by
      rcases (s5.viewX (k := 0) rfl (rd_ro _ _)).2 with ⟨_, e⟩ | ⟨a, b, c, _, _, _, e, _⟩
      ·rw [hat, e] at hl; simp at hl
      ·exact ⟨_, _, _, _, e⟩
     obtain ⟨a, b', c, d, rfl⟩ := hub
     refine WPs.opF rfl rfl rfl ((by exact o_bin rfl rfl (by simp only [binV, eqV, Tryz.underlying32]; rfl))) (rfl) ?_
     refine zv (zj rfl (WP.skip (zg rfl (zm rfl (WPs.call rfl rfl rfl rfl rfl rfl rfl (clone_disk hT s5 (rd_ro _ _) (by rw [← hat, hl]; decide)) ?_)))))
     intro v h s
     refine za rfl (za rfl (zv ?_))
     refine WP.ret ⟨trivial, _, rfl, ?_⟩
     exact .inr (.inr ⟨hd, hn1, hn2, v, rfl, by rw [hat]; exact s.del 1⟩)
   ·skip
    refine zo rfl (o_look rfl rfl g2) (zm rfl (ze rfl (ze rfl (za rfl (za rfl (zv (zw (zg rfl (zm rfl (zo rfl (o_un rfl rfl) (zv (zj rfl (WP.skip (zw (zg rfl (zm rfl ?_))))))))))))))))
    have hat : δ.at n = b := by simp only [Dk.at, g1]
    have hub : ∃ a b c d, u = .sl a b c d := by
     rcases (s2.viewX (k := 0) rfl (rd_ro _ _)).2 with ⟨_, e⟩ | ⟨a, b, c, _, _, _, e, _⟩
     ·rw [hat, e] at hl; simp at hl
     ·exact ⟨_, _, _, _, e⟩
    obtain ⟨a, b', c, d, rfl⟩ := hub
    refine WPs.opF rfl rfl rfl ((by exact o_bin rfl rfl (by simp only [binV, eqV, Tryz.underlying32]; rfl))) (rfl) ?_
    refine zv (zj rfl (WP.skip (zg rfl (zm rfl (WPs.call rfl rfl rfl rfl rfl rfl rfl (clone_disk hT s2 (rd_ro _ _) (by rw [← hat, hl]; decide)) ?_)))))
    intro v h s
    refine za rfl (za rfl (zv ?_))
    refine WP.ret ⟨trivial, _, rfl, ?_⟩
    have s := isDk_iff.2 ⟨pg, wt, nw, lg, mk, tn, tl, ops, s.bringS [3, 3, 3, 2, 2, 2, 2, 2]⟩
    exact .inr (.inr ⟨hd, hn1, hn2, v, rfl, by rw [hat]; exact (s.del 2).bringS [1, 0]⟩)
  ·skip
   refine zo rfl (o_un rfl rfl) (za rfl (zv (zi rfl (zg rfl (za rfl (za rfl (zv ?_)))))))
   refine WP.ret ⟨trivial, _, rfl, ?_⟩
   exact .inr (.inl ⟨hd, hn, rfl, s0⟩)
theorem dCertain_ct (hT : W told) (s : Sat h (isDk p δ :: S)) : Call ⟨Tryz.prog, told⟩ 105 [.ptr p 0] h fun v h' => v = .int .i64 (δ.dCertain : Int) ∧ h' = h := by
 obtain ⟨pg, wt, nw, lg, mk, tn, tl, ops, s⟩ := isDk_iff.1 s
 refine Call.of_wp (hT.free _ rfl) Tryz.func105 rfl rfl (zg rfl (za rfl (zv (zg rfl (zm rfl (zn rfl (zf rfl (fa123_5 _ _) (zl rfl (by exact s.ld (k := 0) rfl ag3 rfl) ?_))))))))
 refine za rfl (zv ?_)
 refine WP.ret ⟨trivial, _, rfl, ?_⟩
 exact ⟨rfl, rfl⟩
theorem dDead_ct (hT : W told) (s : Sat h (isDk p δ :: S)) : Call ⟨Tryz.prog, told⟩ 35 [.ptr p 0] h fun v h' => v = .bool δ.dead ∧ h' = h := by
 obtain ⟨pg, wt, nw, lg, mk, tn, tl, ops, s⟩ := isDk_iff.1 s
 refine Call.of_wp (hT.free _ rfl) Tryz.func35 rfl rfl (zg rfl (za rfl (zv (zg rfl (zm rfl (zn rfl (zf rfl (fa123_9 _ _) (zl rfl (by exact s.ld (k := 0) rfl ag4 rfl) ?_))))))))
 refine za rfl (zv ?_)
 refine WP.ret ⟨trivial, _, rfl, ?_⟩
 exact ⟨rfl, rfl⟩
theorem dForce_ct (hT : W told) (s : Sat h (isDk p δ :: S)) (hf : δ.fuse < 4294967296) : Call ⟨Tryz.prog, told⟩ 106 [.ptr p 0] h fun v h' =>
  (δ.dead = true ∧ v = .int .i64 9 ∧ Sat h' (isDk p δ :: S)) ∨ (δ.dead = false ∧ δ.fuse = 0 ∧ v = .int .i64 9 ∧ Sat h' (isDk p δ.die :: S)) ∨
  (δ.dead = false ∧ δ.fuse ≠ 0 ∧ v = .int .i64 0 ∧ Sat h' (isDk p { δ.cnt with certain := δ.log.length } :: S)) := by
 have s0 := s
 obtain ⟨pg, wt, nw, lg, mk, tn, tl, ops, s⟩ := isDk_iff.1 s
 refine Call.of_wp (hT.free _ rfl) Tryz.func106 rfl rfl (zg rfl (za rfl (zv (zw (zg rfl (zm rfl (zn rfl (zf rfl (fa123_9 _ _) ?_))))))))
 refine WPs.opB rfl rfl rfl (o_load rfl (by exact s.ld (k := 0) rfl ag4 rfl)) ?_ ?_
 ·intro hd
  refine zm rfl (zx rfl (zx rfl (zx rfl (zq rfl (zv (zi rfl (zg rfl (za rfl (zv ?_)))))))))
  refine WP.ret ⟨trivial, _, rfl, ?_⟩
  exact .inl ⟨hd, rfl, s0⟩
 ·intro hd
  refine zm rfl (zm rfl (WPs.call rfl rfl rfl rfl rfl rfl rfl (counts_ct hT s0 hf) ?_))
  rintro v h (⟨h0, rfl, s⟩ | ⟨h0, rfl, s⟩)
  ·skip
   refine zo rfl (o_un rfl rfl) (zp rfl (zv (zi rfl (zg rfl (za rfl (zv ?_))))))
   refine WP.ret ⟨trivial, _, rfl, ?_⟩
   exact .inr (.inl ⟨hd, h0, rfl, s⟩)
  ·skip
   obtain ⟨pg, wt, nw, lg, mk, tn, tl, ops, s⟩ := isDk_iff.1 s
   dsimp only [Dk.cnt] at s
   refine zo rfl (o_un rfl rfl) (zp rfl (zv (zj rfl (WP.skip (zg rfl (zm rfl (zm rfl (zn rfl (zf rfl (fa123_4 _ _) (zl rfl (by exact s.ld (k := 0) rfl ag32 rfl) ?_))))))))))
   refine zo rfl (o_len rfl rfl rfl (by exact len_view Tryz.underlying32 (s.viewX (k := 4) rfl (rd_buf _ _)))) ?_
   refine zn rfl (zf rfl (fa123_5 _ _) ?_)
   refine WPs.stS rfl rfl rfl rfl rfl (by exact s.st1 (k := 0) rfl sz3 rfl (by decide) rfl rfl) (fun h s => ?_)
   dsimp only [Nat.reduceAdd, setA] at s
   refine zv (zg rfl (za rfl (zv ?_)))
   refine WP.ret ⟨trivial, _, rfl, ?_⟩
   exact .inr (.inr ⟨hd, h0, rfl, isDk_iff.2 ⟨pg, wt, nw, lg, mk, tn, tl, ops, s⟩⟩)
theorem dAppend_ct (hT : W told) {x : V} {b : List Nat} (s : Sat h (isDk p δ :: X :: S)) (hX : Ent X (rdB x b)) (hb : b.length < 1073741824) (hf : δ.fuse < 4294967296) (hl : δ.log.length ≤ 4294967296) (hr : δ.room ≤ 4294967296) :
  Call ⟨Tryz.prog, told⟩ 89 [.ptr p 0, x] h fun v h' =>
  (δ.dead = true ∧ v = .int .i64 9 ∧ Sat h' (isDk p δ :: X :: S)) ∨ (δ.dead = false ∧ δ.room < δ.log.length + b.length ∧ v = .int .i64 7 ∧ Sat h' (isDk p δ :: X :: S)) ∨
  (δ.dead = false ∧ δ.log.length + b.length ≤ δ.room ∧ δ.fuse = 0 ∧ v = .int .i64 9 ∧ Sat h' (isDk p { δ.die with tail := b } :: X :: S)) ∨
  (δ.dead = false ∧ δ.log.length + b.length ≤ δ.room ∧ δ.fuse ≠ 0 ∧ v = .int .i64 0 ∧ Sat h' (isDk p { δ.cnt with log := δ.log ++ b } :: X :: S)) := by
 have s0 := s
 obtain ⟨pg, wt, nw, lg, mk, tn, tl, ops, s⟩ := isDk_iff.1 s
 refine Call.of_wp (hT.free _ rfl) Tryz.func89 rfl rfl (zg rfl (za rfl (zv (zw (WP.block (zg rfl (zm rfl (zn rfl (zf rfl (fa123_9 _ _) ?_)))))))))
 refine WPs.opB rfl rfl rfl (o_load rfl (by exact s.ld (k := 0) rfl ag4 rfl)) ?_ ?_
 ·intro hd
  refine za rfl (zv (zi rfl (zg rfl (za rfl (zv ?_)))))
  refine WP.ret ⟨trivial, _, rfl, ?_⟩
  exact .inl ⟨hd, rfl, s0⟩
 ·intro hd
  refine za rfl (zv (zj rfl (zw (WP.drawn [none, none, none, none, none, none, none, none, none, none, none, none, none, none] rfl (by kernel_rfl) (by kernel_rfl) ?_))))
  refine zM rfl (zO rfl (o_len rfl rfl rfl (by exact len_view Tryz.underlying32 (s.viewX (k := 8) rfl hX))) ?_)
  refine zM rfl (zN rfl (zF rfl (fa123_0 _ _) (zL rfl (by exact s.ld (k := 0) rfl ag3 rfl) ?_)))
  refine zM rfl (zN rfl (zF rfl (fa123_4 _ _) (zL rfl (by exact s.ld (k := 0) rfl ag32 rfl) ?_)))
  refine zO rfl (o_len rfl rfl rfl (by exact len_view Tryz.underlying32 (s.viewX (k := 4) rfl (rd_buf _ _)))) ?_
  refine zO rfl (o_bin rfl rfl (by exact bSub (wrapS (by omega) (by omega)))) ?_
  refine WPt.opB rfl rfl rfl rfl (o_bin rfl rfl bGtr) ?_ ?_
  ·intro hq
   have hq : δ.room < δ.log.length + b.length := by simp at hq; omega
   refine zA rfl ?_
   refine WPt.nil ⟨⟨trivial, trivial, trivial, trivial, trivial, trivial, trivial, trivial, trivial, trivial, trivial, trivial, trivial, trivial, trivial⟩, ?_⟩
   refine zi rfl (zg rfl (za rfl (zv ?_)))
   refine WP.ret ⟨trivial, _, rfl, ?_⟩
   exact .inr (.inl ⟨hd, hq, rfl, s0⟩)
  ·intro hq
   have hq : δ.log.length + b.length ≤ δ.room := by simp at hq; omega
   refine zA rfl ?_
   refine WPt.nil ⟨⟨trivial, trivial, trivial, trivial, trivial, trivial, trivial, trivial, trivial, trivial, trivial, trivial, trivial, trivial, trivial⟩, ?_⟩
   refine zj rfl (zg rfl (zm rfl (WPs.call rfl rfl rfl rfl rfl rfl rfl (counts_ct hT s0 hf) ?_)))
   rintro v h (⟨h0, rfl, s⟩ | ⟨h0, rfl, s⟩)
   ·skip
    refine zo rfl (o_un rfl rfl) (za rfl (zv (zi rfl (zg rfl (zm rfl (zm rfl (WPs.call rfl rfl rfl rfl rfl rfl rfl (clone_disk hT (s.bringS [1]) hX hb) ?_)))))))
    intro v h s
    have s := (s.freezeBuf).bringS [2, 0, 0]
    obtain ⟨pg, wt, nw, lg, mk, tn, tl, ops, s⟩ := isDk_iff.1 s
    have hv := (s.viewX (k := 8) rfl (rd_ro _ _)).cells
    refine zn rfl (zf rfl (fa123_11 _ _) (WPs.stS rfl rfl rfl rfl rfl (s.st1 (k := 0) rfl sz32 rfl (by decide) hv.1 hv.2) ?_))
    intro h s
    refine zv (zg rfl (za rfl (zv ?_)))
    refine WP.ret ⟨trivial, _, rfl, ?_⟩
    exact .inr (.inr (.inl ⟨hd, hq, h0, rfl, isDk_iff.2 ⟨pg, wt, nw, lg, mk, tn, v, ops, s.del 7⟩⟩))
   ·skip
    obtain ⟨pg, wt, nw, lg, mk, tn, tl, ops, s⟩ := isDk_iff.1 s
    dsimp only [Dk.cnt] at s
    refine zo rfl (o_un rfl rfl) (za rfl (zv (zj rfl (WP.skip (zg rfl (zm rfl (zm rfl (zn rfl (zf rfl (fa123_4 _ _) (zl rfl (by exact s.ld (k := 0) rfl ag32 rfl) ?_))))))))))
    refine zm rfl (WPs.any rfl rfl rfl (OpR.appB rfl (s.bringS [4, 7]) hX rfl rfl rfl rfl (by show δ.log.length + _ ≤ _; omega)) ?_)
    intro v h s
    have hv := (s.buf (k := 0) rfl).view.cells
    refine zn rfl (zf rfl (fa123_4 _ _) (WPs.stS rfl rfl rfl rfl rfl (s.st1 (k := 2) rfl sz32 rfl (by decide) hv.1 hv.2) ?_))
    intro h s
    refine zv (zg rfl (za rfl (zv ?_)))
    refine WP.ret ⟨trivial, _, rfl, ?_⟩
    exact .inr (.inr (.inr ⟨hd, hq, h0, rfl, isDk_iff.2 ⟨pg, wt, nw, v, mk, tn, tl, ops, s.bringS [2, 2, 2, 2, 0, 1, 1, 1]⟩⟩))
end
end Go.Proofs.YtconhghphklfjaaGreat.Am
