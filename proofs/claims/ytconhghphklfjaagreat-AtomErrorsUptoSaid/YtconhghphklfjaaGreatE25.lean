/- A group that is over or open, pages that are none and records that may not be are refused, and a record that was done is read back; the conditions are those of the given statement, for arguments that a machine can hold. Part 25 of 44. -/
import Derived.Test.YtconhghphklfjaaGreatE24
namespace Go.Proofs.YtconhghphklfjaaGreat.Am
open Go
section
variable {told : Nat → Option (List V → H → Option (V × H))} {h : H} {S : List Assn} {X : Assn} {p : Nat} {δ : Dk}
theorem clone_disk (hT : W told) {x : V} {l : List Nat} (s : Sat h (X :: S)) (hX : Ent X (rdB x l)) (hl : l.length < 1073741824) :
  Call ⟨Tryz.prog, told⟩ 65 [x] h fun v h' => Sat h' (bufA v l :: X :: S) := by
 refine Call.of_wp (hT.free _ rfl) Tryz.func65 rfl rfl (zg rfl (za rfl (zv (zg rfl (zm rfl (zo rfl (o_len rfl rfl rfl (len_view Tryz.underlying32 (s.viewX (k := 0) rfl hX))) (WPs.any rfl rfl rfl (OpR.make0S rfl s rfl rfl rfl rfl hl) ?_)))))))
 intro v h s
 refine zm rfl (WPs.any rfl rfl rfl (OpR.appB rfl s hX rfl rfl rfl rfl (by simp; omega)) ?_)
 intro v h s
 refine za rfl (zv ?_)
 refine WP.ret ⟨trivial, _, rfl, ?_⟩
 exact s
theorem clone_pool (hT : W told) {x : V} {l : List Nat} (s : Sat h (X :: S)) (hX : Ent X (rdB x l)) (hl : l.length < 1073741824) :
  Call ⟨Tryz.prog, told⟩ 93 [x] h fun v h' => Sat h' (bufA v l :: X :: S) := by
 refine Call.of_wp (hT.free _ rfl) Tryz.func93 rfl rfl (zg rfl (za rfl (zv (zg rfl (zm rfl (zo rfl (o_len rfl rfl rfl (len_view Tryz.underlying32 (s.viewX (k := 0) rfl hX))) (WPs.any rfl rfl rfl (OpR.make0S rfl s rfl rfl rfl rfl hl) ?_)))))))
 intro v h s
 refine zm rfl (WPs.any rfl rfl rfl (OpR.appB rfl s hX rfl rfl rfl rfl (by simp; omega)) ?_)
 intro v h s
 refine za rfl (zv ?_)
 refine WP.ret ⟨trivial, _, rfl, ?_⟩
 exact s
theorem clone_atom (hT : W told) {x : V} {l : List Nat} (s : Sat h (X :: S)) (hX : Ent X (rdB x l)) (hl : l.length < 1073741824) :
  Call ⟨Tryz.prog, told⟩ 44 [x] h fun v h' => Sat h' (bufA v l :: X :: S) := by
 refine Call.of_wp (hT.free _ rfl) Tryz.func44 rfl rfl (zg rfl (za rfl (zv (zg rfl (zm rfl (zo rfl (o_len rfl rfl rfl (len_view Tryz.underlying32 (s.viewX (k := 0) rfl hX))) (WPs.any rfl rfl rfl (OpR.make0S rfl s rfl rfl rfl rfl hl) ?_)))))))
 intro v h s
 refine zm rfl (WPs.any rfl rfl rfl (OpR.appB rfl s hX rfl rfl rfl rfl (by simp; omega)) ?_)
 intro v h s
 refine za rfl (zv ?_)
 refine WP.ret ⟨trivial, _, rfl, ?_⟩
 exact s
theorem pages_ct (hT : W told) (s : Sat h (isDk p δ :: S)) : Call ⟨Tryz.prog, told⟩ 55 [.ptr p 0] h fun v h' => v = .int .i64 (δ.pages.length : Int) ∧ h' = h := by
 obtain ⟨pg, wt, nw, lg, mk, tn, tl, ops, s⟩ := isDk_iff.1 s
 obtain ⟨id, cs, rfl, s'⟩ := pagesA_iff.1 (s.bringS [1])
 refine Call.of_wp (hT.free _ rfl) Tryz.func55 rfl rfl (zg rfl (za rfl (zv (zg rfl (zm rfl (zn rfl (zf rfl (fa123_1 _ _) (zl rfl (by exact s.ld (k := 0) rfl ag119 rfl) ?_))))))))
 refine zo rfl (o_len rfl rfl rfl (by exact len_slE rfl Tryz.underlying119)) ?_
 refine za rfl (zv ?_)
 refine WP.ret ⟨trivial, _, rfl, ?_⟩
 exact ⟨rfl, rfl⟩
theorem has_ct (hT : W told) {n : Int} (s : Sat h (isDk p δ :: S)) : Call ⟨Tryz.prog, told⟩ 128 [.ptr p 0, .int .i64 n] h fun v h' => h' = h ∧ ((0 ≤ n ∧ n < δ.pages.length ∧ v = .bool true) ∨ (¬(0 ≤ n ∧ n < δ.pages.length) ∧ v = .bool false)) := by
 obtain ⟨pg, wt, nw, lg, mk, tn, tl, ops, s⟩ := isDk_iff.1 s
 obtain ⟨id, cs, rfl, s'⟩ := pagesA_iff.1 (s.bringS [1])
 refine Call.of_wp (hT.free _ rfl) Tryz.func128 rfl rfl (zg rfl (za rfl (zv (zg rfl (zm rfl ?_)))))
 refine WPs.opB rfl rfl rfl (o_bin rfl rfl bGeq) ?_ ?_
 ·intro hq
  have hq : 0 ≤ n := by simpa using hq
  refine zm rfl (zm rfl (zm rfl (zn rfl (zf rfl (fa123_1 _ _) (zl rfl (by exact s.ld (k := 0) rfl ag119 rfl) ?_)))))
  refine zo rfl (o_len rfl rfl rfl (by exact len_slE rfl Tryz.underlying119)) ?_
  refine WPs.opB rfl rfl rfl (o_bin rfl rfl bLss) ?_ ?_
  ·intro hq2
   have hq2 : n < δ.pages.length := by simpa using hq2
   refine zq rfl (za rfl (zv ?_))
   refine WP.ret ⟨trivial, _, rfl, ?_⟩
   exact ⟨rfl, .inl ⟨hq, hq2, rfl⟩⟩
  ·intro hq2
   have hq2 : ¬ n < δ.pages.length := by simpa using hq2
   refine zq rfl (za rfl (zv ?_))
   refine WP.ret ⟨trivial, _, rfl, ?_⟩
   exact ⟨rfl, .inr ⟨fun h => hq2 h.2, rfl⟩⟩
 ·intro hq
  have hq : ¬ 0 ≤ n := by simpa using hq
  refine zm rfl (zx rfl (zx rfl (zx rfl (zx rfl (zx rfl (zx rfl (zx rfl (zp rfl (za rfl (zv ?_))))))))))
  refine WP.ret ⟨trivial, _, rfl, ?_⟩
  exact ⟨rfl, .inr ⟨fun h => hq h.1, rfl⟩⟩
def Dk.dCertain (δ : Dk) : Nat := δ.certain
def Dk.cnt (δ : Dk) : Dk := { δ with fuse := if 0 < δ.fuse then δ.fuse - 1 else δ.fuse }
def Dk.die (δ : Dk) : Dk := { δ with dead := true }
theorem counts_ct (hT : W told) (s : Sat h (isDk p δ :: S)) (hf : δ.fuse < 4294967296) :
  Call ⟨Tryz.prog, told⟩ 118 [.ptr p 0] h fun v h' => (δ.fuse = 0 ∧ v = .bool false ∧ Sat h' (isDk p δ.die :: S)) ∨ (δ.fuse ≠ 0 ∧ v = .bool true ∧ Sat h' (isDk p δ.cnt :: S)) := by
 obtain ⟨pg, wt, nw, lg, mk, tn, tl, ops, s⟩ := isDk_iff.1 s
 refine Call.of_wp (hT.free _ rfl) Tryz.func118 rfl rfl (zg rfl (za rfl (zv (zw (zg rfl (zm rfl (zn rfl (zf rfl (fa123_7 _ _) (zl rfl (by exact s.ld (k := 0) rfl ag3 rfl) ?_)))))))))
 refine WPs.opB rfl rfl rfl (o_bin rfl rfl bEql) ?_ ?_
 ·intro hq
  refine zv (zi rfl (zg rfl (zm rfl (zn rfl (zf rfl (fa123_9 _ _) ?_)))))
  refine WPs.stS rfl rfl rfl rfl rfl (by exact s.st1 (k := 0) rfl sz4 rfl (by decide) rfl rfl) (fun h s => ?_)
  dsimp only [Nat.reduceAdd, setA] at s
  refine zv (zg rfl (za rfl (zv ?_)))
  refine WP.ret ⟨trivial, _, rfl, ?_⟩
  have hq : δ.fuse = 0 := by simpa using hq
  exact .inl ⟨hq, rfl, isDk_iff.2 ⟨pg, wt, nw, lg, mk, tn, tl, ops, s⟩⟩
 ·intro hq
  have hq : δ.fuse ≠ 0 := by simpa using hq
  refine zv (zj rfl (WP.skip (zw (zg rfl (zm rfl (zn rfl (zf rfl (fa123_7 _ _) (zl rfl (by exact s.ld (k := 0) rfl ag3 rfl) ?_))))))))
  refine WPs.opB rfl rfl rfl (o_bin rfl rfl bGtr) ?_ ?_
  ·intro hq2
   have hq2 : 0 < δ.fuse := by simpa using hq2
   refine zv (zi rfl (zr rfl (zm rfl (zn rfl (zf rfl (fa123_7 _ _) (zl rfl (by exact s.ld (k := 0) rfl ag3 rfl) ?_))))))
   refine zb rfl (by exact bSub (wrapS (by omega) (by omega))) ?_
   refine zn rfl (zf rfl (fa123_7 _ _) ?_)
   refine WPs.stS rfl rfl rfl rfl rfl (by exact s.st1 (k := 0) rfl sz3 rfl (by decide) rfl rfl) (fun h s => ?_)
   dsimp only [Nat.reduceAdd, setA] at s
   refine zv (zg rfl (zm rfl (zn rfl (zf rfl (fa123_8 _ _) (zl rfl (by exact s.ld (k := 0) rfl ag3 rfl) ?_)))))
   refine zb rfl (by rfl) ?_
   refine zn rfl (zf rfl (fa123_8 _ _) ?_)
   refine WPs.stS rfl rfl rfl rfl rfl (by exact s.st1 (k := 0) rfl sz3 rfl (by decide) rfl rfl) (fun h s => ?_)
   dsimp only [Nat.reduceAdd, setA] at s
   refine zv (zg rfl (za rfl (zv ?_)))
   refine WP.ret ⟨trivial, _, rfl, ?_⟩
   exact .inr ⟨hq, rfl, isDk_iff.2 ⟨pg, wt, nw, lg, mk, tn, tl, _, by simp only [Dk.cnt, if_pos hq2]; exact s⟩⟩
  ·intro hq2
   have hq2 : ¬ 0 < δ.fuse := by simpa using hq2
   refine zv (zj rfl (WP.skip (zg rfl (zm rfl (zn rfl (zf rfl (fa123_8 _ _) (zl rfl (by exact s.ld (k := 0) rfl ag3 rfl) ?_)))))))
   refine zb rfl (by rfl) ?_
   refine zn rfl (zf rfl (fa123_8 _ _) ?_)
   refine WPs.stS rfl rfl rfl rfl rfl (by exact s.st1 (k := 0) rfl sz3 rfl (by decide) rfl rfl) (fun h s => ?_)
   dsimp only [Nat.reduceAdd, setA] at s
   refine zv (zg rfl (za rfl (zv ?_)))
   refine WP.ret ⟨trivial, _, rfl, ?_⟩
   exact .inr ⟨hq, rfl, isDk_iff.2 ⟨pg, wt, nw, lg, mk, tn, tl, _, by simp only [Dk.cnt, if_neg hq2]; exact s⟩⟩
def Dk.at (δ : Dk) (n : Int) : List Nat := match lookL n δ.now with
 | some b => b
 | none => match δ.pages[n.toNat]? with
  | some (some b) => b
  | _ => List.replicate 512 0
theorem pagesA_get {v : V} {m : List (Option (List Nat))} {i : Nat} (s : Sat h (pagesA v m :: S)) (hi : i < m.length) :
  ∃ id u, v = .sl id 0 m.length (.exact m.length) ∧ (∀ (P : Program) (t : TypeId), isAggT P t = some false → loadV P h t (.ptr id i) = some u) ∧ Sat h (roO u m[i] :: pagesA v m :: S) := by
 obtain ⟨id, cs, rfl, s1⟩ := pagesA_iff.1 s
 obtain ⟨a, b, q1, q2, q3⟩ := s1.at (k := 1) rfl
 have hl := each_len q3
 have hu : cs[i]? = some (cs[i]'(by omega)) := List.getElem?_eq_getElem _
 have s2 : Sat h (each roO cs m :: pt id (.cells m.length cs false) :: S) := s1.bringS [1]
 have s3 := s2.dup (Pers.each Pers.roO cs m)
 have s4 : Sat h (roO (cs[i]'(by omega)) m[i] :: each roO cs m :: pt id (.cells m.length cs false) :: S) := s3.ent fun a b h => each_get h hu (List.getElem?_eq_getElem hi)
 refine ⟨id, cs[i]'(by omega), rfl, fun P t ht => ld1 ht (s1.row (k := 0) rfl) (by rw [nth_eq, hu]), ?_⟩
 have s5 : Sat h (pt id (.cells m.length cs false) :: each roO cs m :: roO (cs[i]'(by omega)) m[i] :: S) := s4.bringS [2, 1]
 exact (pagesA_iff.2 ⟨id, cs, rfl, s5⟩ : Sat h (pagesA _ m :: roO (cs[i]'(by omega)) m[i] :: S)).bringS [1]
theorem dread_ct (hT : W told) {n : Int} (s : Sat h (isDk p δ :: S)) (hl : (δ.at n).length = 512) : Call ⟨Tryz.prog, told⟩ 96 [.ptr p 0, .int .i64 n] h fun v h' =>
  (δ.dead = true ∧ v = .tup [.sl0, .int .i64 9] ∧ Sat h' (isDk p δ :: S)) ∨
  (δ.dead = false ∧ ¬(0 ≤ n ∧ n < δ.pages.length) ∧ v = .tup [.sl0, .int .i64 1] ∧ Sat h' (isDk p δ :: S)) ∨
  (δ.dead = false ∧ 0 ≤ n ∧ n < δ.pages.length ∧ ∃ b, v = .tup [b, .int .i64 0] ∧ Sat h' (bufA b (δ.at n) :: isDk p δ :: S)) := by
 have s0 := s
 obtain ⟨pg, wt, nw, lg, mk, tn, tl, ops, s⟩ := isDk_iff.1 s
 refine Call.of_wp (hT.free _ rfl) Tryz.func96 rfl rfl (zg rfl (za rfl (za rfl (zv (zw (WP.block (zg rfl (zm rfl (zn rfl (zf rfl (fa123_9 _ _) (zl rfl (by exact s.ld (k := 0) rfl ag4 rfl) ?_)))))))))))
 refine za rfl (zv ?_)
 refine WP.split rfl ?_ ?_
 ·intro hd
  refine zg rfl (za rfl (za rfl (zv ?_)))
  refine WP.ret ⟨trivial, _, rfl, ?_⟩
  exact .inl ⟨hd, rfl, s0⟩
 ·intro hd
  refine zg rfl (zm rfl (zm rfl (WPs.call rfl rfl rfl rfl rfl rfl rfl (has_ct hT s0) ?_)))
  rintro v h' ⟨rfl, (⟨hn1, hn2, rfl⟩ | ⟨hn, rfl⟩)⟩
  ·skip
   refine zo rfl (o_un rfl rfl) (za rfl (zv (zj rfl (WP.skip (zg rfl (zm rfl (zn rfl (zf rfl (fa123_3 _ _) (zl rfl (by exact s.ld (k := 0) rfl ag86 rfl) ?_)))))))))
   refine zm rfl ?_
   have s1 : Sat h' (mapV (fun v b => .rob v b) nw δ.now :: pt p (.cells 12 (dkC δ.room pg wt nw lg δ.certain mk δ.fuse ops δ.dead tn tl) false) :: pagesA pg δ.pages :: waitA wt δ.waiting :: bufA lg δ.log :: roB mk δ.mark :: tornA tn δ.torn :: roB tl δ.tail :: S) := s.bringS [3]
   rcases mapV_look (n := n) (fun _ _ => Pers.rob _ _) s1 Tryz.underlying86 Tryz.underlying3 zt32 with ⟨g1, g2, _⟩ | ⟨u, b, g1, g2, _, s2⟩
   ·refine WPs.op rfl rfl rfl (o_look rfl rfl g2) ?_
    refine zm rfl (ze rfl (ze rfl (za rfl (za rfl (zv (zw (zg rfl (zm rfl (zo rfl (o_un rfl rfl) (zv (zi rfl (zr rfl (zm rfl (zn rfl (zf rfl (fa123_1 _ _) (zl rfl (by exact s.ld (k := 0) rfl ag119 rfl) ?_))))))))))))))))
    refine zm rfl ?_
    have hi : n.toNat < δ.pages.length := by omega
    obtain ⟨id, u, rfl, g3, s3⟩ := pagesA_get (s.bringS [1]) hi
    refine zo rfl (o_ia (r := .ptr id n.toNat) rfl rfl (by rw [ia119, show (decide (0 ≤ n) && decide (n < ((δ.pages.length : Nat) : Int))) = true by simp; omega, cond_true]; simp)) ?_
    refine zl rfl (g3 _ _ ag32) (za rfl (zv (zw (zg rfl (zm rfl ?_)))))
    have hat : δ.at n = match δ.pages[n.toNat] with | some b => b | none => List.replicate 512 0 := by
     simp only [Dk.at, g1, List.getElem?_eq_getElem hi]
     cases δ.pages[n.toNat] <;> rfl
    cases hp : δ.pages[n.toNat] with
    | none =>
     rw [hp] at s3 hat
     have hat : δ.at n = List.replicate 512 0 := hat
     obtain ⟨rfl, _⟩ := Sat_pu.1 s3
     refine WPs.opT rfl rfl rfl ((by exact o_bin rfl rfl (by simp only [binV, eqV, Tryz.underlying32]; rfl))) (rfl) ?_
     refine zv (zi rfl (zg rfl (WPs.any rfl rfl rfl (OpR.zeros rfl s0 rfl rfl rfl rfl (by decide)) ?_)))
     intro v h s
     refine za rfl (za rfl (zv ?_))
     refine WP.ret ⟨trivial, _, rfl, ?_⟩
     exact .inr (.inr ⟨hd, hn1, hn2, v, rfl, by rw [hat]; exact s⟩)
    | some b =>
     rw [hp] at s3 hat
     have hat : δ.at n = b := hat
     have s4 : Sat h' (Assn.an (.pu (u ≠ .sl0)) (.rob u b) :: pagesA _ δ.pages :: _) := s3
     have hu : u ≠ .sl0 := by
      obtain ⟨a, b, q1, q2, q3⟩ := s4.at (k := 0) rfl
      exact q3.1
     have s5 : Sat h' (.rob u b :: isDk p δ :: S) := by
      have s6 := s4.ent (B := .rob u b) fun a b h => h.2
      exact (isDk_iff.2 ⟨_, wt, nw, lg, mk, tn, tl, ops, s6.bringS [2, 1, 1, 1, 1, 1, 1, 1]⟩ : Sat h' (isDk p δ :: .rob u b :: S)).bringS [1]
     have hub : ∃ a b c d, u = .sl a b c d := by
      rcases (s5.viewX (k := 0) rfl (rd_ro _ _)).2 with ⟨_, e⟩ | ⟨a, b, c, _, _, _, e, _⟩
      ·rw [hat, e] at hl; simp at hl
      ·exact ⟨_, _, _, _, e⟩
     obtain ⟨a, b', c, d, rfl⟩ := hub
     refine WPs.opF rfl rfl rfl ((by exact o_bin rfl rfl (by simp only [binV, eqV, Tryz.underlying32]; rfl))) (rfl) ?_
     refine zv (zj rfl (WP.skip (zg rfl (zm rfl (WPs.call rfl rfl rfl rfl rfl rfl rfl (clone_disk hT s5 (rd_ro _ _) (by rw [← hat, hl]; decide)) ?_)))))
     intro v h s
     refine za rfl (za rfl (zv ?_))
     refine WP.ret ⟨trivial, _, rfl, ?_⟩
     exact .inr (.inr ⟨hd, hn1, hn2, v, rfl, by rw [hat]; exact s.del 1⟩)
   ·skip
    refine zo rfl (o_look rfl rfl g2) (zm rfl (ze rfl (ze rfl (za rfl (za rfl (zv (zw (zg rfl (zm rfl (zo rfl (o_un rfl rfl) (zv (zj rfl (WP.skip (zw (zg rfl (zm rfl ?_))))))))))))))))
    have hat : δ.at n = b := by simp only [Dk.at, g1]
    have hub : ∃ a b c d, u = .sl a b c d := by
     rcases (s2.viewX (k := 0) rfl (rd_ro _ _)).2 with ⟨_, e⟩ | ⟨a, b, c, _, _, _, e, _⟩
     ·rw [hat, e] at hl; simp at hl
     ·exact ⟨_, _, _, _, e⟩
    obtain ⟨a, b', c, d, rfl⟩ := hub
    refine WPs.opF rfl rfl rfl ((by exact o_bin rfl rfl (by simp only [binV, eqV, Tryz.underlying32]; rfl))) (rfl) ?_
    refine zv (zj rfl (WP.skip (zg rfl (zm rfl (WPs.call rfl rfl rfl rfl rfl rfl rfl (clone_disk hT s2 (rd_ro _ _) (by rw [← hat, hl]; decide)) ?_)))))
    intro v h s
    refine za rfl (za rfl (zv ?_))
    refine WP.ret ⟨trivial, _, rfl, ?_⟩
    have s := isDk_iff.2 ⟨pg, wt, nw, lg, mk, tn, tl, ops, s.bringS [3, 3, 3, 2, 2, 2, 2, 2]⟩
    exact .inr (.inr ⟨hd, hn1, hn2, v, rfl, by rw [hat]; exact (s.del 2).bringS [1, 0]⟩)
  ·skip
   refine zo rfl (o_un rfl rfl) (za rfl (zv (zi rfl (zg rfl (za rfl (za rfl (zv ?_)))))))
   refine WP.ret ⟨trivial, _, rfl, ?_⟩
   exact .inr (.inl ⟨hd, hn, rfl, s0⟩)
theorem dCertain_ct (hT : W told) (s : Sat h (isDk p δ :: S)) : Call ⟨Tryz.prog, told⟩ 105 [.ptr p 0] h fun v h' => v = .int .i64 (δ.dCertain : Int) ∧ h' = h := by
 obtain ⟨pg, wt, nw, lg, mk, tn, tl, ops, s⟩ := isDk_iff.1 s
 refine Call.of_wp (hT.free _ rfl) Tryz.func105 rfl rfl (zg rfl (za rfl (zv (zg rfl (zm rfl (zn rfl (zf rfl (fa123_5 _ _) (zl rfl (by exact s.ld (k := 0) rfl ag3 rfl) ?_))))))))
 refine za rfl (zv ?_)
 refine WP.ret ⟨trivial, _, rfl, ?_⟩
 exact ⟨rfl, rfl⟩
theorem dDead_ct (hT : W told) (s : Sat h (isDk p δ :: S)) : Call ⟨Tryz.prog, told⟩ 35 [.ptr p 0] h fun v h' => v = .bool δ.dead ∧ h' = h := by
 obtain ⟨pg, wt, nw, lg, mk, tn, tl, ops, s⟩ := isDk_iff.1 s
 refine Call.of_wp (hT.free _ rfl) Tryz.func35 rfl rfl (zg rfl (za rfl (zv (zg rfl (zm rfl (zn rfl (zf rfl (fa123_9 _ _) (zl rfl (by exact s.ld (k := 0) rfl ag4 rfl) ?_))))))))
 refine za rfl (zv ?_)
 refine WP.ret ⟨trivial, _, rfl, ?_⟩
 exact ⟨rfl, rfl⟩
theorem dForce_ct (hT : W told) (s : Sat h (isDk p δ :: S)) (hf : δ.fuse < 4294967296) : Call ⟨Tryz.prog, told⟩ 106 [.ptr p 0] h fun v h' =>
  (δ.dead = true ∧ v = .int .i64 9 ∧ Sat h' (isDk p δ :: S)) ∨ (δ.dead = false ∧ δ.fuse = 0 ∧ v = .int .i64 9 ∧ Sat h' (isDk p δ.die :: S)) ∨
  (δ.dead = false ∧ δ.fuse ≠ 0 ∧ v = .int .i64 0 ∧ Sat h' (isDk p { δ.cnt with certain := δ.log.length } :: S)) := by
 have s0 := s
 obtain ⟨pg, wt, nw, lg, mk, tn, tl, ops, s⟩ := isDk_iff.1 s
 refine Call.of_wp (hT.free _ rfl) Tryz.func106 rfl rfl (zg rfl (za rfl (zv (zw (zg rfl (zm rfl (zn rfl (zf rfl (fa123_9 _ _) ?_))))))))
 refine WPs.opB rfl rfl rfl (o_load rfl (by exact s.ld (k := 0) rfl ag4 rfl)) ?_ ?_
 ·intro hd
  refine zm rfl (zx rfl (zx rfl (zx rfl (zq rfl (zv (zi rfl (zg rfl (za rfl (zv ?_)))))))))
  refine WP.ret ⟨trivial, _, rfl, ?_⟩
  exact .inl ⟨hd, rfl, s0⟩
 ·intro hd
  refine zm rfl (zm rfl (WPs.call rfl rfl rfl rfl rfl rfl rfl (counts_ct hT s0 hf) ?_))
  rintro v h (⟨h0, rfl, s⟩ | ⟨h0, rfl, s⟩)
  ·skip
   refine zo rfl (o_un rfl rfl) (zp rfl (zv (zi rfl (zg rfl (za rfl (zv ?_))))))
   refine WP.ret ⟨trivial, _, rfl, ?_⟩
   exact .inr (.inl ⟨hd, h0, rfl, s⟩)
  ·skip
   obtain ⟨pg, wt, nw, lg, mk, tn, tl, ops, s⟩ := isDk_iff.1 s
   dsimp only [Dk.cnt] at s
   refine zo rfl (o_un rfl rfl) (zp rfl (zv (zj rfl (WP.skip (zg rfl (zm rfl (zm rfl (zn rfl (zf rfl (fa123_4 _ _) (zl rfl (by exact s.ld (k := 0) rfl ag32 rfl) ?_))))))))))
   refine zo rfl (o_len rfl rfl rfl (by exact len_view Tryz.underlying32 (s.viewX (k := 4) rfl (rd_buf _ _)))) ?_
   refine zn rfl (zf rfl (fa123_5 _ _) ?_)
   refine WPs.stS rfl rfl rfl rfl rfl (by exact s.st1 (k := 0) rfl sz3 rfl (by decide) rfl rfl) (fun h s => ?_)
   dsimp only [Nat.reduceAdd, setA] at s
   refine zv (zg rfl (za rfl (zv ?_)))
   refine WP.ret ⟨trivial, _, rfl, ?_⟩
   exact .inr (.inr ⟨hd, h0, rfl, isDk_iff.2 ⟨pg, wt, nw, lg, mk, tn, tl, ops, s⟩⟩)
theorem dAppend_ct (hT : W told) {x : V} {b : List Nat} (s : Sat h (isDk p δ :: X :: S)) (hX : Ent X (rdB x b)) (hb : b.length < 1073741824) (hf : δ.fuse < 4294967296) (hl : δ.log.length ≤ 4294967296) (hr : δ.room ≤ 4294967296) :
  Call ⟨Tryz.prog, told⟩ 89 [.ptr p 0, x] h fun v h' =>
  (δ.dead = true ∧ v = .int .i64 9 ∧ Sat h' (isDk p δ :: X :: S)) ∨ (δ.dead = false ∧ δ.room < δ.log.length + b.length ∧ v = .int .i64 7 ∧ Sat h' (isDk p δ :: X :: S)) ∨
  (δ.dead = false ∧ δ.log.length + b.length ≤ δ.room ∧ δ.fuse = 0 ∧ v = .int .i64 9 ∧ Sat h' (isDk p { δ.die with tail := b } :: X :: S)) ∨
  (δ.dead = false ∧ δ.log.length + b.length ≤ δ.room ∧ δ.fuse ≠ 0 ∧ v = .int .i64 0 ∧ Sat h' (isDk p { δ.cnt with log := δ.log ++ b } :: X :: S)) := by
 have s0 := s
 obtain ⟨pg, wt, nw, lg, mk, tn, tl, ops, s⟩ := isDk_iff.1 s
 refine Call.of_wp (hT.free _ rfl) Tryz.func89 rfl rfl (zg rfl (za rfl (zv (zw (WP.block (zg rfl (zm rfl (zn rfl (zf rfl (fa123_9 _ _) ?_)))))))))
 refine WPs.opB rfl rfl rfl (o_load rfl (by exact s.ld (k := 0) rfl ag4 rfl)) ?_ ?_
 ·intro hd
  refine za rfl (zv (zi rfl (zg rfl (za rfl (zv ?_)))))
  refine WP.ret ⟨trivial, _, rfl, ?_⟩
  exact .inl ⟨hd, rfl, s0⟩
 ·intro hd
  refine za rfl (zv (zj rfl (zw (WP.drawn [none, none, none, none, none, none, none, none, none, none, none, none, none, none] rfl (by kernel_rfl) (by kernel_rfl) ?_))))
  refine zM rfl (zO rfl (o_len rfl rfl rfl (by exact len_view Tryz.underlying32 (s.viewX (k := 8) rfl hX))) ?_)
  refine zM rfl (zN rfl (zF rfl (fa123_0 _ _) (zL rfl (by exact s.ld (k := 0) rfl ag3 rfl) ?_)))
  refine zM rfl (zN rfl (zF rfl (fa123_4 _ _) (zL rfl (by exact s.ld (k := 0) rfl ag32 rfl) ?_)))
  refine zO rfl (o_len rfl rfl rfl (by exact len_view Tryz.underlying32 (s.viewX (k := 4) rfl (rd_buf _ _)))) ?_
  refine zO rfl (o_bin rfl rfl (by exact bSub (wrapS (by omega) (by omega)))) ?_
  refine WPt.opB rfl rfl rfl rfl (o_bin rfl rfl bGtr) ?_ ?_
  ·intro hq
   have hq : δ.room < δ.log.length + b.length := by simp at hq; omega
   refine zA rfl ?_
   refine WPt.nil ⟨⟨trivial, trivial, trivial, trivial, trivial, trivial, trivial, trivial, trivial, trivial, trivial, trivial, trivial, trivial, trivial⟩, ?_⟩
   refine zi rfl (zg rfl (za rfl (zv ?_)))
   refine WP.ret ⟨trivial, _, rfl, ?_⟩
   exact .inr (.inl ⟨hd, hq, rfl, s0⟩)
  ·intro hq
   have hq : δ.log.length + b.length ≤ δ.room := by simp at hq; omega
   refine zA rfl ?_
   refine WPt.nil ⟨⟨trivial, trivial, trivial, trivial, trivial, trivial, trivial, trivial, trivial, trivial, trivial, trivial, trivial, trivial, trivial⟩, ?_⟩
   refine zj rfl (zg rfl (zm rfl (WPs.call rfl rfl rfl rfl rfl rfl rfl (counts_ct hT s0 hf) ?_)))
   rintro v h (⟨h0, rfl, s⟩ | ⟨h0, rfl, s⟩)
   ·skip
    refine zo rfl (o_un rfl rfl) (za rfl (zv (zi rfl (zg rfl (zm rfl (zm rfl (WPs.call rfl rfl rfl rfl rfl rfl rfl (clone_disk hT (s.bringS [1]) hX hb) ?_)))))))
    intro v h s
    have s := (s.freezeBuf).bringS [2, 0, 0]
    obtain ⟨pg, wt, nw, lg, mk, tn, tl, ops, s⟩ := isDk_iff.1 s
    have hv := (s.viewX (k := 8) rfl (rd_ro _ _)).cells
    refine zn rfl (zf rfl (fa123_11 _ _) (WPs.stS rfl rfl rfl rfl rfl (s.st1 (k := 0) rfl sz32 rfl (by decide) hv.1 hv.2) ?_))
    intro h s
    refine zv (zg rfl (za rfl (zv ?_)))
    refine WP.ret ⟨trivial, _, rfl, ?_⟩
    exact .inr (.inr (.inl ⟨hd, hq, h0, rfl, isDk_iff.2 ⟨pg, wt, nw, lg, mk, tn, v, ops, s.del 7⟩⟩))
   ·skip
    obtain ⟨pg, wt, nw, lg, mk, tn, tl, ops, s⟩ := isDk_iff.1 s
    dsimp only [Dk.cnt] at s
    refine zo rfl (o_un rfl rfl) (za rfl (zv (zj rfl (WP.skip (zg rfl (zm rfl (zm rfl (zn rfl (zf rfl (fa123_4 _ _) (zl rfl (by exact s.ld (k := 0) rfl ag32 rfl) ?_))))))))))
    refine zm rfl (WPs.any rfl rfl rfl (OpR.appB rfl (s.bringS [4, 7]) hX rfl rfl rfl rfl (by show δ.log.length + _ ≤ _; omega)) ?_)
    intro v h s
    have hv := (s.buf (k := 0) rfl).view.cells
    refine zn rfl (zf rfl (fa123_4 _ _) (WPs.stS rfl rfl rfl rfl rfl (s.st1 (k := 2) rfl sz32 rfl (by decide) hv.1 hv.2) ?_))
    intro h s
    refine zv (zg rfl (za rfl (zv ?_)))
    refine WP.ret ⟨trivial, _, rfl, ?_⟩
    exact .inr (.inr (.inr ⟨hd, hq, h0, rfl, isDk_iff.2 ⟨pg, wt, nw, v, mk, tn, tl, ops, s.bringS [2, 2, 2, 2, 0, 1, 1, 1]⟩⟩))
end
end Go.Proofs.YtconhghphklfjaaGreat.Am
namespace Go.Proofs.YtconhghphklfjaaGreat.Am
open Go
section
variable {told : Nat → Option (List V → H → Option (V × H))} {h : H} {S : List Assn} {X : Assn} {p : Nat} {δ : Dk}
def Dk.wr (δ : Dk) (n : Int) (b : List Nat) : Dk := { δ.cnt with waiting := δ.waiting ++ [(n.toNat, b)], now := putL n b δ.now }
theorem info_wr : ∃ i, Tryz.prog.info? 125 = some i ∧ i.size = 2 ∧ i.bytes = 32 :=
 ⟨_, (show Tryz.prog.info? 125 = some ((Tryz.prog.info? 125).getD default) by kernel_rfl), by kernel_rfl, by kernel_rfl⟩
theorem Sat.wrMore {cs : List V} {m : List Wr} {u : V} {x : Wr} (s : Sat h (.rob u x.2 :: wrA cs m :: S)) (hu : u ≠ .sl0) : Sat h (wrA (cs ++ [.int .i64 (x.1 : Int), u]) (m ++ [x]) :: S) :=
 s.two (Pers.rob _ _) (Pers.wr _ _) fun _ _ h1 h2 => wrA_app h2 hu h1
theorem dWrite_ct (hT : W told) {n : Int} {x : V} {b : List Nat} (s : Sat h (isDk p δ :: X :: S)) (hX : Ent X (rdB x b)) (hb : b.length < 1073741824) (hf : δ.fuse < 4294967296) (hw : δ.waiting.length ≤ 268435456) :
  Call ⟨Tryz.prog, told⟩ 108 [.ptr p 0, .int .i64 n, x] h fun v h' =>
  (δ.dead = true ∧ v = .int .i64 9 ∧ Sat h' (isDk p δ :: X :: S)) ∨
  (δ.dead = false ∧ ¬(0 ≤ n ∧ n < δ.pages.length ∧ b.length = 512) ∧ v = .int .i64 1 ∧ Sat h' (isDk p δ :: X :: S)) ∨
  (δ.dead = false ∧ 0 ≤ n ∧ n < δ.pages.length ∧ b.length = 512 ∧ δ.fuse = 0 ∧ v = .int .i64 9 ∧ Sat h' (isDk p { δ.die with torn := some (n.toNat, b) } :: X :: S)) ∨
  (δ.dead = false ∧ 0 ≤ n ∧ n < δ.pages.length ∧ b.length = 512 ∧ δ.fuse ≠ 0 ∧ v = .int .i64 0 ∧ Sat h' (isDk p (δ.wr n b) :: X :: S)) := by
 have s0 := s
 obtain ⟨pg, wt, nw, lg, mk, tn, tl, ops, s⟩ := isDk_iff.1 s
 refine Call.of_wp (hT.free _ rfl) Tryz.func108 rfl rfl (zg rfl (za rfl (zv (zw (WP.block (zg rfl (zm rfl (zn rfl (zf rfl (fa123_9 _ _) ?_)))))))))
 refine WPs.opB rfl rfl rfl (o_load rfl (by exact s.ld (k := 0) rfl ag4 rfl)) ?_ ?_
 ·intro hd
  refine za rfl (zv (zi rfl (zg rfl (za rfl (zv ?_)))))
  refine WP.ret ⟨trivial, _, rfl, ?_⟩
  exact .inl ⟨hd, rfl, s0⟩
 ·intro hd
  refine za rfl (zv (zj rfl (zg rfl (zm rfl (zm rfl (WPs.call rfl rfl rfl rfl rfl rfl rfl (has_ct hT s0) ?_))))))
  rintro v h' ⟨rfl, (⟨hn1, hn2, rfl⟩ | ⟨hn, rfl⟩)⟩
  ·skip
   refine zo rfl (o_un rfl rfl) (zm rfl (zm rfl (zo rfl (o_len rfl rfl rfl (by exact len_view Tryz.underlying32 (s.viewX (k := 8) rfl hX))) ?_)))
   refine WPs.opB rfl rfl rfl (o_bin rfl rfl bNeq) ?_ ?_
   ·intro hq
    have hq : b.length ≠ 512 := by simp at hq; omega
    refine zp rfl (za rfl (zv (zi rfl (zg rfl (za rfl (zv ?_))))))
    refine WP.ret ⟨trivial, _, rfl, ?_⟩
    exact .inr (.inl ⟨hd, fun q => hq q.2.2, rfl, s0⟩)
   ·intro hq
    have hq : b.length = 512 := by simp at hq; omega
    refine zp rfl (za rfl (zv (zj rfl (WP.skip (zg rfl (zm rfl (zm rfl (WPs.call rfl rfl rfl rfl rfl rfl rfl (clone_disk hT (s0.bringS [1]) hX hb) ?_))))))))
    intro u h s
    obtain ⟨bid, _, cap, _, rfl, _⟩ := s.openBuf (by omega)
    have s := s.freezeBuf
    have hnc : ((n.toNat : Nat) : Int) = n := by omega
    refine zo rfl (o_build rfl (by rw [bv125]; rfl)) ?_
    refine WPs.newS s rfl rfl rfl (o_alloc zt125) (fun p7 h s => ?_)
    dsimp only [V.cells, List.length_cons, List.length_nil, Nat.reduceAdd, delA, bringA] at s
    refine WPs.stS rfl rfl rfl rfl rfl (by exact s.stA (j := 0) rfl sz125 rfl rfl) (fun h s => ?_)
    dsimp only [V.cells, List.take, Nat.reduceAdd, List.length_cons, List.length_nil, List.drop, List.cons_append, List.nil_append, setA] at s
    refine zv (zw (zg rfl (zm rfl (WPs.call rfl rfl rfl rfl rfl rfl rfl (counts_ct hT (s.bringS [3]) hf) ?_))))
    rintro v h (⟨h0, rfl, s⟩ | ⟨h0, rfl, s⟩)
    ·skip
     obtain ⟨pg, wt, nw, lg, mk, tn, tl, ops, s⟩ := isDk_iff.1 s
     refine zo rfl (o_un rfl rfl) (zv (zi rfl (zg rfl (zm rfl (zn rfl (zf rfl (fa123_10 _ _) ?_))))))
     refine WPs.stS rfl rfl rfl rfl rfl (by exact s.st1 (k := 0) rfl sz121 rfl (by decide) rfl rfl) (fun h s => ?_)
     dsimp only [dkC, delA, bringA, Nat.reduceAdd, List.set, setA] at s
     refine zv (zg rfl (za rfl (zv ?_)))
     refine WP.ret ⟨trivial, _, rfl, ?_⟩
     have s1 := s.bringS [8, 8, 8]
     have s2 : Sat h (tornA _ (some (n.toNat, b)) :: _) := Sat_xs.2 ⟨_, Sat_xs.2 ⟨_, Sat_star.2 (Sat_pu.2 ⟨rfl, by rw [hnc]; exact s1⟩)⟩⟩
     have s3 := (s2.del 8).bringS [2, 2, 2, 2, 2, 2, 0, 1, 0]
     exact .inr (.inr (.inl ⟨hd, hn1, hn2, hq, h0, rfl, isDk_iff.2 ⟨_, _, _, _, _, _, _, _, s3⟩⟩))
    ·skip
     obtain ⟨pg, wt, nw, lg, mk, tn, tl, ops, s⟩ := isDk_iff.1 s
     dsimp only [Dk.cnt] at s
     obtain ⟨cs, sw⟩ := waitA_iff.1 (s.bringS [2])
     have s := sw.bringS [2, 8, 0, 0]
     dsimp only [dkC, delA, bringA, getA] at s
     have s0 := s
     have hwb := (s.arrV (j := 2) rfl).2.2
     refine zo rfl (o_un rfl rfl) (zv (zj rfl (WP.skip (zw (WP.drawn [some (0, 3), some (0, 2), some (0, 2), some (0, 2), some (0, 2), none, none, none, none, none, none] rfl (by kernel_rfl) (by kernel_rfl) ?_)))))
     refine zM rfl (zM rfl (zN rfl (zF rfl (fa123_2 _ _) (zL rfl (by exact s.ld (k := 0) rfl ag120 rfl) ?_))))
     refine zL rfl (by exact s.ldA (k := 1) rfl ag125 sz125) ?_
     obtain ⟨i1, hi1, hi2, hi3⟩ := info_wr
     obtain ⟨sv, h1, e1, s1⟩ := sat_bs1 (P := Tryz.prog) (x := .agg [.int .i64 n, .sl bid 0 b.length cap]) s Tryz.underlying120 zt125 sz125 rfl (by decide) (by decide) rfl rfl
     dsimp only [V.cells] at s1
     refine WPt.any rfl rfl rfl rfl (OpR.of (R := fun v h' => v = sv ∧ h' = h1) (o_bs rfl e1) ⟨rfl, rfl⟩) ?_
     rintro v h' ⟨rfl, rfl⟩
     have hcl : cs.length = δ.waiting.length * 2 := by
      obtain ⟨a, b, q1, q2, q3⟩ := s.at (k := 3) rfl
      exact wrA_len q3
     obtain ⟨wt', h2, e2, s2⟩ := sat_appArr (s1.bringS [3, 0]) Tryz.underlying120 hi1 zt125 hi2 (by omega) rfl (by decide) (by simp only [V.cells, List.length_cons, List.length_nil]; omega)
     dsimp only [delA, bringA] at s2
     refine WPt.any rfl rfl rfl rfl (OpR.of (R := fun v h' => v = wt' ∧ h' = h2) (o_app rfl rfl e2) ⟨rfl, rfl⟩) ?_
     rintro v h' ⟨rfl, rfl⟩
     have hv := s2.arrV (j := 0) rfl
     refine zN rfl (zF rfl (fa123_2 _ _) (WPt.any0 rfl rfl rfl (OpR.stS rfl rfl rfl (s2.st1 (k := 2) rfl sz120 rfl (by decide) hv.1 hv.2.1)) ?_))
     rintro v h ⟨rfl, s⟩
     dsimp only [Nat.reduceAdd, List.set, setA] at s
     refine WPt.nil ⟨⟨fun _ _ => .inr ⟨rfl, ⟨_, o_move rfl⟩, beqV _ rfl⟩, fun _ _ => .inr ⟨rfl, ⟨_, o_move rfl⟩, beqV _ rfl⟩, fun _ _ => .inr ⟨rfl, ⟨_, o_nil rfl⟩, beqV _ rfl⟩, fun _ _ => .inr ⟨rfl, ⟨_, o_fa rfl (fa123_2 _ _)⟩, beqV _ rfl⟩, heaps2 (.inr ⟨rfl, ⟨_, o_load rfl (by exact s0.ld (k := 0) rfl ag120 rfl)⟩, hwb⟩) (.inr ⟨rfl, ⟨_, o_load rfl (by exact s1.ld (k := 1) rfl ag120 rfl)⟩, hwb⟩), trivial, trivial, trivial, trivial, trivial, trivial, trivial⟩, ?_⟩
     refine zw (WP.drawn [none, none, none, none, none, none, none, none] rfl (by kernel_rfl) (by kernel_rfl) ?_)
     refine zM rfl (zN rfl (zF rfl (fa123_3 _ _) (zL rfl (by exact s.ld (k := 2) rfl ag86 rfl) ?_)))
     refine zM rfl (zF rfl (fa125_1 _ _) (zL rfl (by exact s.ld (k := 3) rfl ag32 rfl) ?_))
     refine WPt.any0 rfl rfl rfl (OpR.mapUpdate rfl rfl rfl rfl (mapV_put (f := fun v b => Assn.rob v b) (x := b) (fun _ _ => Pers.rob _ _) (((s.bringS [11]).dup (Pers.rob _ _)).bringS [0, 7]) Tryz.underlying86 Tryz.underlying3)) ?_
     intro v h s
     dsimp only [delA, bringA] at s
     refine WPt.nil ⟨⟨trivial, trivial, trivial, trivial, trivial, trivial, trivial, trivial, trivial⟩, ?_⟩
     refine zg rfl (za rfl (zv ?_))
     refine WP.ret ⟨trivial, _, rfl, ?_⟩
     have s1 := (s.bringS [1, 5]).wrMore (x := (n.toNat, b)) (by simp)
     rw [hnc] at s1
     have s2 := ((waitA_iff.2 ⟨_, s1.bringS [2, 0]⟩).del 4).del 2
     exact .inr (.inr (.inr ⟨hd, hn1, hn2, hq, h0, rfl, isDk_iff.2 ⟨_, _, _, _, _, _, _, _, s2.bringS [2, 2, 0, 0, 0, 0, 0, 0, 0]⟩⟩))
  ·skip
   refine zo rfl (o_un rfl rfl) (zm rfl (zx rfl (zx rfl (zx rfl (zq rfl (za rfl (zv (zi rfl (zg rfl (za rfl (zv ?_)))))))))))
   refine WP.ret ⟨trivial, _, rfl, ?_⟩
   exact .inr (.inl ⟨hd, fun q => hn ⟨q.1, q.2.1⟩, rfl, s0⟩)
theorem dLog_ct (hT : W told) (s : Sat h (isDk p δ :: S)) (hl : δ.log.length < 1073741824) : Call ⟨Tryz.prog, told⟩ 103 [.ptr p 0] h fun v h' =>
  (δ.dead = true ∧ v = .tup [.sl0, .int .i64 9] ∧ Sat h' (isDk p δ :: S)) ∨ (δ.dead = false ∧ ∃ b, v = .tup [b, .int .i64 0] ∧ Sat h' (bufA b δ.log :: isDk p δ :: S)) := by
 have s0 := s
 obtain ⟨pg, wt, nw, lg, mk, tn, tl, ops, s⟩ := isDk_iff.1 s
 refine Call.of_wp (hT.free _ rfl) Tryz.func103 rfl rfl (zg rfl (za rfl (za rfl (zv (zw (zg rfl (zm rfl (zn rfl (zf rfl (fa123_9 _ _) ?_)))))))))
 refine WPs.opB rfl rfl rfl (o_load rfl (by exact s.ld (k := 0) rfl ag4 rfl)) ?_ ?_
 ·intro hd
  refine zv (zi rfl (zg rfl (za rfl (za rfl (zv ?_)))))
  refine WP.ret ⟨trivial, _, rfl, ?_⟩
  exact .inl ⟨hd, rfl, s0⟩
 ·intro hd
  refine zv (zj rfl (WP.skip (zg rfl (zm rfl (zn rfl (zf rfl (fa123_4 _ _) (zl rfl (by exact s.ld (k := 0) rfl ag32 rfl) ?_)))))))
  refine WPs.call rfl rfl rfl rfl rfl rfl rfl (clone_disk hT (s.bringS [4]) (rd_buf _ _) hl) ?_
  intro v h s
  dsimp only [dkC, delA, bringA] at s
  refine za rfl (za rfl (zv ?_))
  refine WP.ret ⟨trivial, _, rfl, ?_⟩
  exact .inr ⟨hd, v, rfl, (isDk_iff.2 ⟨pg, wt, nw, lg, mk, tn, tl, ops, s.bringS [2, 2, 2, 2, 1, 1, 1, 1, 0]⟩).bringS [1]⟩
theorem dMarked_ct (hT : W told) (s : Sat h (isDk p δ :: S)) (hl : δ.mark.length ≤ 64) : Call ⟨Tryz.prog, told⟩ 102 [.ptr p 0] h fun v h' =>
  (δ.dead = true ∧ v = .tup [.sl0, .int .i64 9] ∧ Sat h' (isDk p δ :: S)) ∨ (δ.dead = false ∧ ∃ b, v = .tup [b, .int .i64 0] ∧ Sat h' (bufA b δ.mark :: isDk p δ :: S)) := by
 have s0 := s
 obtain ⟨pg, wt, nw, lg, mk, tn, tl, ops, s⟩ := isDk_iff.1 s
 refine Call.of_wp (hT.free _ rfl) Tryz.func102 rfl rfl (zg rfl (za rfl (za rfl (zv (zw (zg rfl (zm rfl (zn rfl (zf rfl (fa123_9 _ _) ?_)))))))))
 refine WPs.opB rfl rfl rfl (o_load rfl (by exact s.ld (k := 0) rfl ag4 rfl)) ?_ ?_
 ·intro hd
  refine zv (zi rfl (zg rfl (za rfl (za rfl (zv ?_)))))
  refine WP.ret ⟨trivial, _, rfl, ?_⟩
  exact .inl ⟨hd, rfl, s0⟩
 ·intro hd
  refine zv (zj rfl (WP.skip (zg rfl (zm rfl (zn rfl (zf rfl (fa123_6 _ _) (zl rfl (by exact s.ld (k := 0) rfl ag32 rfl) ?_)))))))
  refine WPs.call rfl rfl rfl rfl rfl rfl rfl (clone_disk hT (s.bringS [5]) (rd_ro _ _) (by omega)) ?_
  intro v h s
  dsimp only [dkC, delA, bringA] at s
  refine za rfl (za rfl (zv ?_))
  refine WP.ret ⟨trivial, _, rfl, ?_⟩
  exact .inr ⟨hd, v, rfl, (isDk_iff.2 ⟨pg, wt, nw, lg, mk, tn, tl, ops, s.bringS [2, 2, 2, 2, 2, 1, 1, 1, 0]⟩).bringS [1]⟩
def Dk.fresh (pages room : Nat) : Dk := { room := room, pages := List.replicate pages none, waiting := [], now := [], log := [], certain := 0, mark := [], fuse := -1, dead := false, torn := none, tail := [] }
theorem info_bs : ∃ i, Tryz.prog.info? 32 = some i ∧ i.size = 1 ∧ i.bytes = 24 :=
 ⟨_, (show Tryz.prog.info? 32 = some ((Tryz.prog.info? 32).getD default) by kernel_rfl), by kernel_rfl, by kernel_rfl⟩
theorem repeatL_one (v : V) : ∀ n : Nat, repeatL [v] n = List.replicate n v := by
 intro n
 induction n with
 | zero => rfl
 | succ n ih => simp only [repeatL, ih, List.replicate_succ, List.cons_append, List.nil_append]
theorem each_none {a b : PM} : ∀ n : Nat, (each roO (List.replicate n .sl0) (List.replicate n none)).p a b := by
 intro n
 induction n with
 | zero => trivial
 | succ n ih => exact ⟨rfl, ih⟩
theorem fresh_ct (hT : W told) {n m : Nat} (s : Sat h S) (hn : n < 1073741824) : Call ⟨Tryz.prog, told⟩ 63 [.int .i64 (n : Int), .int .i64 (m : Int)] h fun v h' => ∃ p, v = .ptr p 0 ∧ Sat h' (isDk p (Dk.fresh n m) :: S) := by
 refine Call.of_wp (hT.free _ rfl) Tryz.func63 rfl rfl (zg rfl (za rfl (zv (zg rfl (zm rfl (zm rfl ?_))))))
 obtain ⟨i1, hi1, hi2, hi3⟩ := info_bs
 obtain ⟨id, h1, e1, s1⟩ := sat_mkRow (P := Tryz.prog) s Tryz.underlying119 hi1 zt32 hi2 (by omega) rfl (by decide) hn
 refine WPs.any rfl rfl rfl (OpR.of (R := fun v h' => v = .sl id 0 n (.exact n) ∧ h' = h1) (o_mks rfl rfl e1) ⟨rfl, rfl⟩) ?_
 rintro v h ⟨rfl, rfl⟩
 have s := s1
 dsimp only [V.cells] at s
 rw [Nat.mul_one, repeatL_one] at s
 refine WPs.newM s rfl rfl rfl rfl (fun p8 h s => ?_)
 refine zo rfl (o_build rfl (by rw [bv123]; rfl)) ?_
 refine WPs.newS s rfl rfl rfl (o_box rfl rfl) (fun p10 h s => ?_)
 dsimp only [V.cells, List.take, Nat.reduceAdd, List.length_cons, List.length_nil, List.drop, List.cons_append, List.nil_append] at s
 refine za rfl (zv ?_)
 refine WP.ret ⟨trivial, _, rfl, ?_⟩
 have s := (mapV_new (f := fun v b => Assn.rob v b) (s.bringS [1]))
 have s := s.nilRo.nilRo.nilBuf
 have s : Sat _ (waitA .sl0 [] :: _) := waitA_iff.2 ⟨[], (s.addPu (φ := True) trivial).nilArr⟩
 have s : Sat _ (tornA .ptr0 none :: _) := s.addPu rfl
 dsimp only [delA, bringA] at s
 have s := s.bringS [6, 6]
 dsimp only [bringA, getA, delA] at s
 have hp : Sat _ (pagesA (.sl id 0 n (.exact n)) (List.replicate n none) :: _) := pagesA_iff.2 ⟨id, List.replicate n .sl0, by rw [List.length_replicate], by
  rw [List.length_replicate]
  exact (((s.bringS [1]).addPu (φ := True) trivial).ent fun a b _ => each_none n).bringS [1]⟩
 dsimp only [bringA, getA, delA] at hp
 exact ⟨_, rfl, isDk_iff.2 ⟨_, _, _, _, _, _, _, _, hp.bringS [1, 0, 1, 4, 1, 1, 0, 0]⟩⟩
theorem dNew_ct (hT : W told) {n m : Int} (s : Sat h S) : Call ⟨Tryz.prog, told⟩ 41 [.int .i64 n, .int .i64 m] h fun v h' =>
  (¬(1 ≤ n ∧ n ≤ 65536 ∧ 0 ≤ m ∧ m ≤ 16777216) ∧ v = .tup [.ptr0, .int .i64 1] ∧ Sat h' S) ∨
  (1 ≤ n ∧ n ≤ 65536 ∧ 0 ≤ m ∧ m ≤ 16777216 ∧ ∃ p, v = .tup [.ptr p 0, .int .i64 0] ∧ Sat h' (isDk p (Dk.fresh n.toNat m.toNat) :: S)) := by
 refine Call.of_wp (hT.free _ rfl) Tryz.func41 rfl rfl (zg rfl (za rfl (za rfl (zv (zw (zg rfl (zm rfl ?_)))))))
 refine WPs.opB rfl rfl rfl (o_bin rfl rfl bLss) ?_ ?_
 ·intro hq
  have hq : n < 1 := by simpa using hq
  refine zm rfl (zx rfl (zx rfl (zq rfl (zm rfl (zx rfl (zx rfl (zq rfl (zm rfl (zx rfl (zx rfl (zq rfl (zv (zi rfl (zg rfl (za rfl (za rfl (zv ?_)))))))))))))))))
  refine WP.ret ⟨trivial, _, rfl, ?_⟩
  exact .inl ⟨fun q => by omega, rfl, s⟩
 ·intro hq
  have hq : 1 ≤ n := by simpa using hq
  refine zm rfl (zm rfl ?_)
  refine WPs.opB rfl rfl rfl (o_bin rfl rfl bGtr) ?_ ?_
  ·intro hq2
   have hq2 : 65536 < n := by simpa using hq2
   refine zp rfl (zm rfl (zx rfl (zx rfl (zq rfl (zm rfl (zx rfl (zx rfl (zq rfl (zv (zi rfl (zg rfl (za rfl (za rfl (zv ?_))))))))))))))
   refine WP.ret ⟨trivial, _, rfl, ?_⟩
   exact .inl ⟨fun q => by omega, rfl, s⟩
  ·intro hq2
   have hq2 : n ≤ 65536 := by simpa using hq2
   refine zp rfl (zm rfl (zm rfl ?_))
   refine WPs.opB rfl rfl rfl (o_bin rfl rfl bLss) ?_ ?_
   ·intro hq3
    have hq3 : m < 0 := by simpa using hq3
    refine zp rfl (zm rfl (zx rfl (zx rfl (zq rfl (zv (zi rfl (zg rfl (za rfl (za rfl (zv ?_))))))))))
    refine WP.ret ⟨trivial, _, rfl, ?_⟩
    exact .inl ⟨fun q => by omega, rfl, s⟩
   ·intro hq3
    have hq3 : 0 ≤ m := by simpa using hq3
    refine zp rfl (zm rfl (zm rfl ?_))
    refine WPs.opB rfl rfl rfl (o_bin rfl rfl bGtr) ?_ ?_
    ·intro hq4
     have hq4 : 16777216 < m := by simpa using hq4
     refine zp rfl (zv (zi rfl (zg rfl (za rfl (za rfl (zv ?_))))))
     refine WP.ret ⟨trivial, _, rfl, ?_⟩
     exact .inl ⟨fun q => by omega, rfl, s⟩
    ·intro hq4
     have hq4 : m ≤ 16777216 := by simpa using hq4
     refine zp rfl (zv (zj rfl (WP.skip (zg rfl (zm rfl (zm rfl ?_))))))
     obtain ⟨n, rfl⟩ : ∃ k : Nat, n = k := ⟨n.toNat, by omega⟩
     obtain ⟨m, rfl⟩ : ∃ k : Nat, m = k := ⟨m.toNat, by omega⟩
     refine WPs.call rfl rfl rfl rfl rfl rfl rfl (fresh_ct hT s (by omega)) ?_
     rintro v h ⟨p, rfl, s⟩
     refine za rfl (za rfl (zv ?_))
     refine WP.ret ⟨trivial, _, rfl, ?_⟩
     exact .inr ⟨hq, hq2, hq3, hq4, p, rfl, s⟩
end
end Go.Proofs.YtconhghphklfjaaGreat.Am
