/- A group that is over or open, pages that are none and records that may not be are refused, and a record that was done is read back; the conditions are those of the given statement, for arguments that a machine can hold. Part 41 of 44. -/
import Derived.Test.YtconhghphklfjaaGreatE39
import Derived.Test.YtconhghphklfjaaGreatE40
import Derived.Test.YtconhghphklfjaaGreatE33
import Derived.Test.YtconhghphklfjaaGreatE38
namespace Go.Proofs.YtconhghphklfjaaGreat.Am
open Go
theorem toldParsed_mono {n m : Nat} (hle : n ≤ m) {args : List V} {h : H} {r : V × H} (hr : toldParsed CB n args h = some r) : toldParsed CB m args h = some r := by
 unfold toldParsed at hr ⊢
 rw [evF_eq] at hr ⊢
 have mono := ev_mono (C := CB) hle
 split at hr
 ·rename_i x
  split at hr
  ·rename_i s₁ h₁
   simp only [mono _ _ _ h₁]
   cases hnt : Nat.blt 4 s₁.ntm with
   | false => rw [hnt] at hr; cases hr
   | true =>
    rw [hnt, cond_true] at hr
    rw [cond_true]
    split at hr
    ·rename_i s₂ h₂
     simp only [mono _ _ _ h₂]
     split at hr
     ·rename_i s₃ h₃
      simp only [mono _ _ _ h₃]
      exact hr
     ·cases hr
    ·cases hr
  ·cases hr
 ·cases hr
section
variable {h : H} {S : List Assn} {X : Assn} {v : V}
noncomputable def prH : Code := pathC [0] ((Tryz.f101.body).getD .skip)
noncomputable def prM : Code := pathC [1, 1, 0] ((Tryz.f101.body).getD .skip)
theorem prH_wp {E : List (Nat × V)} {Q : Ex → List (Nat × V) → H → Prop} (s : Sat h S) (hE : Has E [(0, v)])
  (hq : ∀ E' h' p2 p3, Has E' [(0, v), (2, .ptr p2 0), (3, .ptr p3 0)] → Sat h' (pt p3 (.cells 1 [.bool false] false) :: pt p2 (.cells 6 (rcC 0 0 0 0 .sl0 .sl0) false) :: S) → Q .normal E' h') : WP CB 9 prH E h Q := by
 refine WP.has hE (zr rfl ?_)
 refine WPs.newS s rfl rfl rfl (o_alloc zt40) (fun p2 h s => ?_)
 dsimp only [V.cells, List.length_cons, List.length_nil, Nat.reduceAdd] at s
 refine WPs.newS s rfl rfl rfl (o_alloc zt4) (fun p3 h s => ?_)
 dsimp only [V.cells, List.length_cons, List.length_nil, Nat.reduceAdd] at s
 refine zv ?_
 exact hq _ _ _ _ ⟨rfl, rfl, rfl, trivial⟩ s
theorem prM_wp {kd tx pv nx : Nat} {data : List Nat} {chs : List Chg} (hg : goodR kd chs = true) (hk : kd < 256) (hr : RecRd tx pv nx data chs) (hX : Ent X (rdB v (bodyG kd tx pv nx data chs)))
  {p2 p3 : Nat} {E : List (Nat × V)} {Q : Ex → List (Nat × V) → H → Prop} (s : Sat h (pt p3 (.cells 1 [.bool false] false) :: pt p2 (.cells 6 (rcC 0 0 0 0 .sl0 .sl0) false) :: X :: S))
  (hE : Has E [(0, v), (2, .ptr p2 0), (3, .ptr p3 0)])
  (hq : ∀ E' h' dt ch cs, Has E' [(2, .ptr p2 0), (3, .ptr p3 0)] → Sat h' (pt p3 (.cells 1 [.bool true] false) :: pt p2 (.cells 6 (rcC kd tx pv nx dt ch) false) :: X :: bufA dt data :: .arr 4 ch cs :: chgA cs chs :: S) → Q .normal E' h') : WP CB 9 prM E h Q := by
 obtain ⟨pi, po, pc, rfl⟩ := view_sl (s.viewX (k := 2) rfl hX) (by simp only [bodyG, List.length_append, List.length_cons]; omega)
 refine WP.has hE (zr rfl (zm rfl (zo rfl (o_build rfl (by rw [bv202]; rfl)) ?_)))
 refine WPs.newS s rfl rfl rfl (o_box rfl rfl) ?_
 intro p1 h s
 dsimp only [V.cells] at s
 refine WPs.call rfl rfl rfl rfl rfl rfl rfl (crec_ct W.base hg hk hr ⟨_, hX, s.bringS [0, 2]⟩) ?_
 rintro r h ⟨dt, ch, cs, rfl, s⟩
 dsimp only [List.take, List.length_cons, List.length_nil, Nat.reduceAdd, List.drop, List.cons_append, List.nil_append, delA, bringA] at s
 have hdt := (s.buf (k := 1) rfl).view.cells
 have hch := s.arrV (j := 2) rfl
 refine WPs.stS rfl rfl rfl rfl rfl (s.stA (j := 5) rfl sz40 rfl (rcC_st hdt.2 hch.2.1)) ?_
 rintro h s
 dsimp only [setA] at s
 refine WPs.stS rfl rfl rfl rfl rfl (by exact s.st1 (k := 4) rfl sz4 rfl (by decide) rfl rfl) (fun h s => ?_)
 dsimp only [List.set, setA] at s
 refine zv ?_
 exact hq _ _ _ _ _ ⟨rfl, rfl, trivial⟩ (s.bringS [4, 4, 0, 0, 0, 0])
noncomputable def qrR : Code := pathC [1] ((Tryz.f131.body).getD .skip)
theorem qrR_wp {x y : V} {E : List (Nat × V)} {Q : Ex → List (Nat × V) → H → Prop} (hE : Has E [(0, x), (1, y), (2, .if0), (5, .if0)]) (hq : ∀ E', Q .normal E' h) : WP CB 16 qrR E h Q := by
 refine WP.has hE (zg rfl (zm rfl (zo rfl (o_assert (r := .tup [.int .i64 0, .bool false]) rfl (by simp only [assertV, Tryz.underlying28, zt28])) ?_)))
 refine zm rfl (ze rfl (ze rfl (za rfl (za rfl (zv (zg rfl (zm rfl (zv (zj rfl (zg rfl (zm rfl (zo rfl (o_bin (r := .bool false) rfl rfl (by simp only [binV, Tryz.underlying20]; rfl)) ?_))))))))))))
 refine zv (zj rfl (WP.skip ?_))
 exact hq _
theorem parsed_run {kd tx pv nx : Nat} {data : List Nat} {chs : List Chg} (hg : goodR kd chs = true) (hk : kd < 256) (hr : RecRd tx pv nx data chs) (s : Sat h (X :: S)) (hX : Ent X (rdB v (bodyG kd tx pv nx data chs))) :
  ∃ n r, toldParsed CB n [v] h = some r ∧ ∃ dt ch cs, r.1 = .tup [.agg (rcC kd tx pv nx dt ch), .bool true] ∧ Sat r.2 (X :: bufA dt data :: .arr 4 ch cs :: chgA cs chs :: S) := by
 obtain ⟨N1, ex1, env1, h1, E1, a1, k1, rfl, p2, p3, hE1, s1⟩ := prH_wp (Q := fun ex E' h' => ex = .normal ∧ ∃ p2 p3, Has E' [(0, v), (2, .ptr p2 0), (3, .ptr p3 0)] ∧ Sat h' (pt p3 (.cells 1 [.bool false] false) :: pt p2 (.cells 6 (rcC 0 0 0 0 .sl0 .sl0) false) :: X :: S)) (v := v) (E := argE [v] 0) s ⟨rfl, trivial⟩ (fun E' h' p2 p3 hE s => ⟨rfl, p2, p3, hE, s⟩) _ (argE_ok [v])
 have v2 : env1.v 2 = .ptr p2 0 := by simp only [Env.v, k1 _ _ hE1.2.1]
 have v3 : env1.v 3 = .ptr p3 0 := by simp only [Env.v, k1 _ _ hE1.2.2.1]
 have k1' := k1.set 4 (.fn (.func 131) [] [env1.v 2, env1.v 3])
 obtain ⟨N2, ex2, env2, h2, E2, a2, k2, rfl, dt, ch, cs, hE2, s2⟩ := prM_wp (Q := fun ex E' h' => ex = .normal ∧ ∃ dt ch cs, Has E' [(2, .ptr p2 0), (3, .ptr p3 0)] ∧ Sat h' (pt p3 (.cells 1 [.bool true] false) :: pt p2 (.cells 6 (rcC kd tx pv nx dt ch) false) :: X :: bufA dt data :: .arr 4 ch cs :: chgA cs chs :: S)) hg hk hr hX s1 (E := (4, .fn (.func 131) [] [env1.v 2, env1.v 3]) :: E1) ⟨hE1.1, hE1.2.1, hE1.2.2.1, trivial⟩ (fun E' h' dt ch cs hE s => ⟨rfl, dt, ch, cs, hE, s⟩) _ k1'
 have k3 := ((argE_ok [V.ptr p2 0, V.ptr p3 0]).set 5 .if0).set 2 .if0
 obtain ⟨N3, ex3, env3, h3, E3, a3, k3', rfl, rfl⟩ := qrR_wp (h := h2) (x := .ptr p2 0) (y := .ptr p3 0) (Q := fun ex E' h' => ex = .normal ∧ h' = h2) (E := (2, .if0) :: (5, .if0) :: argE [.ptr p2 0, .ptr p3 0] 0) ⟨rfl, rfl, rfl, rfl, trivial⟩ (fun E' => ⟨rfl, rfl⟩) _ k3
 have r1 : mapO (resV Tryz.prog ⟨env2, 9, h3⟩) Tryz.f101.results.toList = some [.agg (rcC kd tx pv nx dt ch), .bool true] := by
  refine mapO_ok (s := ⟨env2, 9, h3⟩) k2 ?_
  have e1 : resE Tryz.prog E2 h3 (.cell 2 40) = some (.agg (rcC kd tx pv nx dt ch)) := by
   simp only [resE, hE2.1]
   exact s2.ldA (k := 1) rfl ag40 sz40
  have e2 : resE Tryz.prog E2 h3 (.cell 3 4) = some (.bool true) := by
   simp only [resE, hE2.2.1]
   exact s2.ld (k := 0) rfl ag4 rfl
  show mapO (resE Tryz.prog E2 h3) [.cell 2 40, .cell 3 4] = _
  simp only [mapO, e1, e2]
 refine ⟨max N1 (max N2 N3), (.tup [.agg (rcC kd tx pv nx dt ch), .bool true], h3), ?_, dt, ch, cs, rfl, (s2.del 0).del 0⟩
 have b1 := ev_mono (C := CB) (show N1 ≤ max N1 (max N2 N3) by omega) _ _ _ a1
 have b2 := ev_mono (C := CB) (show N2 ≤ max N1 (max N2 N3) by omega) _ _ _ a2
 have b3 := ev_mono (C := CB) (show N3 ≤ max N1 (max N2 N3) by omega) _ _ _ a3
 simp only [toldParsed, evF_eq]
 rw [show pHead = prH from rfl, b1]
 simp only [v2, v3] at b2 ⊢
 rw [show Nat.blt 4 9 = true from rfl, cond_true, show pMain = prM from rfl, b2]
 dsimp only
 rw [show qRest = qrR from rfl, b3]
 dsimp only
 rw [r1]
def pinPr (args : List V) (h : H) (r : V × H) : Prop := ∃ n, toldParsed CB n args h = some r
structure WR (told : Nat → Option (List V → H → Option (V × H))) : Prop where
 w : W told
 pr : told 101 = some (toldIf Tryz.prog 101 pinPr)
theorem parsed_ct {told : Nat → Option (List V → H → Option (V × H))} (hT : WR told) {kd tx pv nx : Nat} {data : List Nat} {chs : List Chg} (hg : goodR kd chs = true) (hk : kd < 256) (hr : RecRd tx pv nx data chs) (s : Sat h (X :: S)) (hX : Ent X (rdB v (bodyG kd tx pv nx data chs))) :
  Call ⟨Tryz.prog, told⟩ 101 [v] h fun r h' => ∃ dt ch cs, r = .tup [.agg (rcC kd tx pv nx dt ch), .bool true] ∧ Sat h' (X :: bufA dt data :: .arr 4 ch cs :: chgA cs chs :: S) := by
 obtain ⟨n, r, e, hP⟩ := parsed_run hg hk hr s hX
 obtain ⟨r', h1, m, h2⟩ := toldIf_do (P := Tryz.prog) (f := 101) (pin := pinPr) (args := [v]) (r := r) ⟨n, e⟩ (fun c w hr hw => toldParsed_ok (C := CB) rfl mixedB toldB_ok e hr hw)
 have e1 := toldParsed_mono (show n ≤ max n m by omega) e
 have e2 := toldParsed_mono (show m ≤ max n m by omega) h2
 rw [e1] at e2
 injection e2 with e2
 subst e2
 exact ⟨r.1, r.2, CallDo.told hT.pr Tryz.func101 rfl h1, hP⟩
end
end Go.Proofs.YtconhghphklfjaaGreat.Am
namespace Go.Proofs.YtconhghphklfjaaGreat.Am
open Go
structure DK (δ δ' : Dk) : Prop where
 dead : δ'.dead = δ.dead
 fuse : δ'.fuse = δ.fuse
 pages : δ'.pages = δ.pages
 now : δ'.now = δ.now
theorem DK.refl (δ : Dk) : DK δ δ := ⟨rfl, rfl, rfl, rfl⟩
theorem DK.at {δ δ' : Dk} (h : DK δ δ') (n : Int) : δ'.at n = δ.at n := by rw [Dk.at, Dk.at, h.now, h.pages]
structure DA (N : Nat) (δ : Dk) : Prop where
 alive : δ.dead = false
 fuse : δ.fuse < 0
 pages : δ.pages.length = N
 keys : ∀ k : Int, k ∈ δ.now.map (·.1) → 0 ≤ k ∧ k < N
 nodup : (δ.now.map (·.1)).Nodup
 good : ∀ n : Int, 0 ≤ n → n < N → checkL (δ.at n) = 0
theorem DA.of {N : Nat} {δ δ' : Dk} (h : DA N δ) (k : DK δ δ') : DA N δ' :=
 ⟨k.dead.trans h.alive, by rw [k.fuse]; exact h.fuse, by rw [k.pages]; exact h.pages, by rw [k.now]; exact h.keys, by rw [k.now]; exact h.nodup, fun n a b => by rw [k.at]; exact h.good n a b⟩
theorem cnt_id {δ : Dk} (h : δ.fuse < 0) : δ.cnt = δ := by
 have : (if 0 < δ.fuse then δ.fuse - 1 else δ.fuse) = δ.fuse := if_neg (by omega)
 rw [Dk.cnt, this]
theorem forceF_a {N : Nat} {δ : Dk} (h : DA N δ) : δ.forceF = (0, { δ with certain := δ.log.length }) := by
 rw [Dk.forceF, if_neg (by rw [h.alive]; decide), if_neg (by have := h.fuse; omega), cnt_id h.fuse]
theorem forceLD_a {N : Nat} {x : LD} {n : Nat} (h : DA N x.2) : (forceLD x n).1 = 0 ∧ DK x.2 (forceLD x n).2.2 := by
 unfold forceLD
 split
 ·exact ⟨rfl, DK.refl _⟩
 ·rw [forceF_a h, if_neg (by simp)]
  exact ⟨rfl, rfl, rfl, rfl, rfl⟩
theorem writeF_a {N : Nat} {δ : Dk} {n : Int} {b : List Nat} (h : DA N δ) (h0 : 0 ≤ n) (h1 : n < N) (hb : b.length = 512) (hc : checkL b = 0) :
  (δ.writeF n b).1 = 0 ∧ DA N (δ.writeF n b).2 ∧ ∀ m, (δ.writeF n b).2.at m = if n = m then b else δ.at m := by
 have e : δ.writeF n b = (0, δ.wr n b) := by
  rw [Dk.writeF, if_neg (by rw [h.alive]; decide), if_neg (not_not_intro ⟨h0, by rw [h.pages]; exact h1, hb⟩), if_neg (by have := h.fuse; omega)]
 have hnow : (δ.wr n b).now = putL n b δ.now := rfl
 have hpg : (δ.wr n b).pages = δ.pages := rfl
 have hat : ∀ m, (δ.wr n b).at m = if n = m then b else δ.at m := fun m => by
  rw [Dk.at, Dk.at, hnow, hpg, lookL_put]
  by_cases hm : n = m
  ·rw [if_pos hm, if_pos hm]
  ·rw [if_neg hm, if_neg hm]
 have hfu : (δ.wr n b).fuse = δ.fuse := by
  show δ.cnt.fuse = δ.fuse
  rw [cnt_id h.fuse]
 rw [e]
 refine ⟨rfl, ⟨h.alive, by rw [hfu]; exact h.fuse, h.pages, fun x hx => ?_, ?_, fun m a c => ?_⟩, hat⟩
 ·rw [hnow] at hx
  rcases mem_putL.1 hx with rfl | hx
  ·exact ⟨h0, h1⟩
  ·exact h.keys x hx
 ·rw [hnow]; exact nodup_putL h.nodup
 ·rw [hat]
  by_cases hm : n = m
  ·rw [if_pos hm]; exact hc
  ·rw [if_neg hm]; exact h.good m a c
theorem splice_drop {l m : List Nat} {a b : Nat} (h1 : a + m.length ≤ l.length) (h2 : a + m.length ≤ b) : (splice l a m).drop b = l.drop b := by
 have e1 : (l.take a).length = a := by rw [List.length_take]; omega
 rw [splice, ← List.append_assoc, List.drop_append, List.drop_eq_nil_of_le (by rw [List.length_append, e1]; omega), List.nil_append, List.drop_drop, List.length_append, e1]
 congr 1; omega
theorem atL_tail {l m : List Nat} {a z : Nat} (ht : l.drop 12 = m.drop 12) (ha : 12 ≤ a) : atL l a z = atL m a z := by
 have e : ∀ l : List Nat, (l.take (a + z)).drop a = ((l.drop 12).drop (a - 12)).take z := fun l => by
  rw [List.drop_drop, show 12 + (a - 12) = a by omega, List.drop_take]
  congr 1; omega
 rw [atL, atL, e, e, ht]
theorem cellsL_tail {l m : List Nat} (ht : l.drop 12 = m.drop 12) {low : Nat} : ∀ (n i : Nat) (t : List Bool), cellsL l low n i t = cellsL m low n i t := by
 intro n
 induction n with
 | zero => intro i t; rfl
 | succ n ih =>
  intro i t
  have e1 : slotF l i = slotF m i := atL_tail ht (by omega)
  have e2 : slotZ l i = slotZ m i := atL_tail ht (by omega)
  simp only [cellsL, e1, e2, ih]
theorem goodL_tail {l m : List Nat} (hl : l.length = m.length) (ht : l.drop 12 = m.drop 12) : goodL l = goodL m := by
 have e1 : cntL l = cntL m := atL_tail ht (by omega)
 have e2 : lowL l = lowL m := atL_tail ht (by omega)
 have e3 : l.getD 13 0 = m.getD 13 0 := by
  have : ∀ l : List Nat, l[13]? = (l.drop 12)[1]? := fun l => by rw [List.getElem?_drop]
  rw [List.getD_eq_getElem?_getD, List.getD_eq_getElem?_getD, this, this, ht]
 simp only [goodL, hl, e1, e2, e3, cellsL_tail ht]
theorem leN_le : ∀ (k n : Nat), leN (le k n) = n % 256 ^ k := by
 intro k
 induction k with
 | zero => intro n; rw [Nat.pow_zero, Nat.mod_one]; rfl
 | succ k ih =>
  intro n
  rw [le, leN, ih, Nat.pow_succ, Nat.mul_comm (256 ^ k) 256, Nat.mod_mul]
theorem seal_tail {b : List Nat} {n : Nat} (hb : b.length = 512) : (sealL b n).drop 12 = b.drop 12 ∧ (sealL b n).length = 512 ∧ (sealL b n).drop 4 = (lsnL b n).drop 4 ∧ atL (sealL b n) 0 4 = crc 0 ((lsnL b n).drop 4) % 4294967296 := by
 have h1 := lsnL_len (n := n) hb
 have h2 : (sealL b n).length = 512 := by rw [sealL, splice_len (by rw [le_len]; omega), h1]
 have h3 : (sealL b n).drop 4 = (lsnL b n).drop 4 := by rw [sealL]; exact splice_drop (by rw [le_len]; omega) (by rw [le_len]; omega)
 have h4 : (lsnL b n).drop 12 = b.drop 12 := by rw [lsnL]; exact splice_drop (by rw [le_len]; omega) (by rw [le_len]; omega)
 refine ⟨?_, h2, h3, ?_⟩
 ·have := congrArg (List.drop 8) h3
  rw [List.drop_drop, List.drop_drop] at this
  exact this.trans h4
 ·have e : (sealL b n).take 4 = le 4 (crc 0 ((lsnL b n).drop 4)) := by
   rw [sealL, splice, List.take_zero, List.nil_append, List.take_append_of_le_length (by rw [le_len]; omega), List.take_of_length_le (by rw [le_len]; omega)]
  rw [atL, Nat.zero_add, List.drop_zero, e, leN_le]
theorem lsnL_lt {b : List Nat} {n : Nat} (hb : ∀ x ∈ b, x < 256) : ∀ x ∈ lsnL b n, x < 256 := splice_lt hb (le_lt _ _)
theorem seal_good {b : List Nat} {n : Nat} (hg : goodL b = true) (hb : ∀ x ∈ b, x < 256) : checkL (sealL b n) = 0 ∧ goodL (sealL b n) = true ∧ bodyF (sealL b n) = b.drop 12 := by
 have hl := good512 hg
 obtain ⟨h1, h2, h3, h4⟩ := seal_tail (n := n) hl
 have hg2 : goodL (sealL b n) = true := by rw [goodL_tail (h2.trans hl.symm) h1]; exact hg
 have hz : goodL (List.replicate 512 0) = false := by decide +kernel
 have hnz : sealL b n ≠ List.replicate 512 0 := fun e => by rw [e, hz] at hg2; cases hg2
 have hc : crc 0 ((lsnL b n).drop 4) < 4294967296 := crc_lt32 (by decide) fun x hx => lsnL_lt hb x (List.mem_of_mem_drop hx)
 refine ⟨?_, hg2, ?_⟩
 ·rw [checkL, if_neg hnz, if_neg (by rw [hg2]; decide), if_neg]
  rw [h4, h3, Nat.mod_eq_of_lt hc]; exact not_not_intro rfl
 ·rw [bodyF, if_neg (by rintro (h | h); exact h h2; exact hnz h), h1]
end Go.Proofs.YtconhghphklfjaaGreat.Am
namespace Go.Proofs.YtconhghphklfjaaGreat.Am
open Go
theorem mid_take {x y z : List Nat} {a b : Nat} (ha : x.length = a) (hb : a + y.length = b) : ((x ++ (y ++ z)).take b).drop a = y := by
 subst ha; subst hb
 rw [← List.append_assoc, List.take_append_of_le_length (by simp), List.take_of_length_le (by simp), List.drop_left' rfl]
theorem crecG (n : Nat) (b : List Nat) : b.length < 4294967296 → sumAt n b < 4294967296 → leN (le 4 b.length) = b.length ∧ leN (le 4 (sumAt n b)) = sumAt n b := by
 intro h1 h2
 rw [leN_le, leN_le]
 exact ⟨Nat.mod_eq_of_lt (by simpa using h1), Nat.mod_eq_of_lt (by simpa using h2)⟩
section
variable {told : Nat → Option (List V → H → Option (V × H))} {h : H} {S : List Assn} {X : Assn} {v : V} {l : List Nat}
theorem body2_ct (hT : WR told) {kd tx pv nx n a : Nat} {data : List Nat} {chs : List Chg} {pre rest bd : List Nat} (hg : goodR kd chs = true) (hk : kd < 256) (hr : RecRd tx pv nx data chs) (hbd : bd = bodyG kd tx pv nx data chs)
  (hbl : bd.length ≤ 1048576) (ha : pre.length = a) (hl : l = pre ++ (recG n bd ++ rest)) (hll : l.length ≤ 1073741824) (s : Sat h (X :: S)) (hX : Ent X (rdB v l)) :
  Call ⟨Tryz.prog, told⟩ 57 [v, .int .i64 (a : Int), .int .u64 (n : Int)] h fun r h' => ∃ dt ch cs, r = .tup [.agg (rcC kd tx pv nx dt ch), .int .i64 ((a + 8 + bd.length : Nat) : Int), .int .i64 0] ∧ Sat h' (X :: bufA dt data :: .arr 4 ch cs :: chgA cs chs :: S) := by
 have hv := s.viewX (k := 0) rfl hX
 have hlt : ∀ x ∈ bd, x < 256 := fun x hx => hv.1 x (by rw [hl, recG]; simp [hx])
 have hsum := sumAt_lt (lsn := n) hlt
 obtain ⟨q1, q2⟩ := crecG n bd (by omega) hsum
 have hlen : l.length = a + 8 + bd.length + rest.length := by rw [hl]; simp only [List.length_append, recG_len]; omega
 have m1 : (l.take (a + 4)).drop a = le 4 bd.length := by
  rw [hl, recG, List.append_assoc, List.append_assoc]
  exact mid_take ha (by rw [le_len])
 have m2 : (l.take (a + 8)).drop (a + 4) = le 4 (sumAt n bd) := by
  rw [hl, recG, List.append_assoc, List.append_assoc, ← List.append_assoc pre]
  exact mid_take (by rw [List.length_append, le_len, ha]) (by rw [le_len])
 have m3 : (l.take (a + 8 + bd.length)).drop (a + 8) = bd := by
  rw [hl, recG, List.append_assoc, List.append_assoc, ← List.append_assoc pre, ← List.append_assoc (pre ++ _)]
  exact mid_take (by rw [List.length_append, List.length_append, le_len, le_len, ha]) rfl
 have hW := hT.w
 have hvl := len_view (P := Tryz.prog) (h := h) Tryz.underlying32 hv
 refine Call.of_wp (hW.free _ rfl) Tryz.func57 rfl rfl (zg rfl ?_)
 refine WPs.newS s rfl rfl rfl (o_alloc zt40) (fun p6 h s => ?_)
 dsimp only [V.cells, List.length_cons, List.length_nil, Nat.reduceAdd] at s
 refine za rfl (za rfl (zv (zw (zg rfl (zm rfl (WPs.opF rfl rfl rfl (o_bin rfl rfl bLss) (by simp) ?_))))))
 refine zm rfl (zm rfl (zm rfl (zo rfl (o_len rfl rfl rfl (len_view Tryz.underlying32 (s.viewX (k := 1) rfl hX))) (WPs.opF rfl rfl rfl (o_bin rfl rfl bGtr) (by simp; omega) ?_))))
 refine zp rfl (zv (zj rfl (WP.skip (zw (zg rfl (zm rfl (zo rfl (o_len rfl rfl rfl (len_view Tryz.underlying32 (s.viewX (k := 1) rfl hX))) (zm rfl (zb rfl (by exact bSub (wrapS (by omega) (by omega))) ?_)))))))))
 refine WPs.opF rfl rfl rfl (o_bin rfl rfl bLss) (by simp; omega) ?_
 refine zv (zj rfl (WP.skip (zg rfl (zm rfl (zm rfl (zm rfl (zb rfl (by exact bAdd (wrapS (by omega) (by omega))) ?_)))))))
 refine zo rfl (o_slice (p := some (.int .i64 (a : Int))) (q := some (.int .i64 ((a : Int) + 4))) (m := none) (p' := some a) (q' := some (a + 4)) (m' := none) rfl rfl rfl rfl (by rw [bnd_ok (by omega)]; rfl) (by rw [bnd_ok (by omega)]; congr 2 <;> omega) rfl (slice_view (s.viewX (k := 1) rfl hX) (a := a) (b := a + 4) (by omega) (by omega)).1) ?_
 refine WPs.call rfl rfl rfl rfl rfl rfl rfl (word_ct hW s (k := 1) rfl (rd_slice hX (a := a) (b := a + 4) (by omega) (by omega)) (by rw [m1, le_len]; decide)) ?_
 rintro r h' ⟨rfl, rfl⟩
 rw [m1, q1]
 refine za rfl (zv (zw (zg rfl (zm rfl (WPs.opF rfl rfl rfl (o_bin rfl rfl bGtr) (by simp; omega) ?_)))))
 refine zm rfl (zm rfl (zo rfl (o_conv rfl (by exact cvI Tryz.underlying35 Tryz.underlying3 (wrapS (by omega) (by omega)))) ?_))
 refine zm rfl (zo rfl (o_len rfl rfl rfl (len_view Tryz.underlying32 (s.viewX (k := 1) rfl hX))) (zm rfl (zb rfl (by exact bSub (wrapS (by omega) (by omega))) ?_)))
 refine zb rfl (by exact bSub (wrapS (by omega) (by omega))) ?_
 refine WPs.opF rfl rfl rfl (o_bin rfl rfl bGtr) (by simp; omega) ?_
 refine zp rfl (zv (zj rfl (WP.skip (zg rfl (zm rfl (zb rfl (by exact bAdd (wrapS (by omega) (by omega))) ?_))))))
 refine zm rfl (zo rfl (o_conv rfl (by exact cvI Tryz.underlying35 Tryz.underlying3 (wrapS (by omega) (by omega)))) ?_)
 refine zb rfl (by exact bAdd (wrapS (by omega) (by omega))) ?_
 refine za rfl (zv (zg rfl (zm rfl (zm rfl (zb rfl (by exact bAdd (wrapS (by omega) (by omega))) ?_)))))
 refine zm rfl (zo rfl (o_slice (p := some (.int .i64 ((a : Int) + 8))) (q := some (.int .i64 ((a : Int) + 8 + (bd.length : Int)))) (m := none) (p' := some (a + 8)) (q' := some (a + 8 + bd.length)) (m' := none) rfl rfl rfl rfl (by rw [bnd_ok (by omega)]; congr 2 <;> omega) (by rw [bnd_ok (by omega)]; congr 2 <;> omega) rfl (slice_view (s.viewX (k := 1) rfl hX) (a := a + 8) (b := a + 8 + bd.length) (by omega) (by omega)).1) ?_)
 refine za rfl (zv (zw (zg rfl (zm rfl (zm rfl (zb rfl (by exact bAdd (wrapS (by omega) (by omega))) ?_))))))
 refine zm rfl (zb rfl (by exact bAdd (wrapS (by omega) (by omega))) ?_)
 refine zo rfl (o_slice (p := some (.int .i64 ((a : Int) + 4))) (q := some (.int .i64 ((a : Int) + 8))) (m := none) (p' := some (a + 4)) (q' := some (a + 8)) (m' := none) rfl rfl rfl rfl (by rw [bnd_ok (by omega)]; congr 2 <;> omega) (by rw [bnd_ok (by omega)]; congr 2 <;> omega) rfl (slice_view (s.viewX (k := 1) rfl hX) (a := a + 4) (b := a + 8) (by omega) (by omega)).1) ?_
 refine WPs.call rfl rfl rfl rfl rfl rfl rfl (word_ct hW s (k := 1) rfl (rd_slice hX (a := a + 4) (b := a + 8) (by omega) (by omega)) (by rw [m2, le_len]; decide)) ?_
 rintro r h' ⟨rfl, rfl⟩
 rw [m2, q2]
 refine zo rfl (o_conv rfl (by exact cvI Tryz.underlying35 Tryz.underlying155 (wrapU32 (by omega) (by omega)))) ?_
 refine zm rfl (zm rfl (WPs.call rfl rfl rfl rfl rfl rfl rfl (summed_ct hW s (k := 1) rfl (rd_slice hX (a := a + 8) (b := a + 8 + bd.length) (by omega) (by omega)) (by rw [m3]; omega)) ?_))
 rintro r h ⟨rfl, s⟩
 rw [m3]
 refine WPs.opF rfl rfl rfl (o_bin rfl rfl bNeq) (by simp) ?_
 refine zv (zj rfl (WP.skip (zg rfl (zm rfl ?_))))
 have hX' : Ent X (rdB (slR v (a + 8) (a + 8 + bd.length)) (bodyG kd tx pv nx data chs)) := by
  have := rd_slice hX (a := a + 8) (b := a + 8 + bd.length) (by omega) (by omega)
  rw [m3] at this
  rw [← hbd]
  exact this
 refine WPs.call rfl rfl rfl rfl rfl rfl rfl (parsed_ct hT hg hk hr (s.bringS [1]) hX') ?_
 rintro r h ⟨dt, ch, cs, rfl, s⟩
 dsimp only [delA, bringA] at s
 have hdt := (s.buf (k := 1) rfl).view.cells
 have hch := s.arrV (j := 2) rfl
 have hst : [V.int .i64 (kd : Int), V.int .u64 (tx : Int), V.int .u64 (pv : Int), V.int .u64 (nx : Int), dt, ch].all storable = true := rcC_st hdt.2 hch.2.1
 refine zm rfl (ze rfl (ze rfl (WPs.stS rfl rfl rfl rfl rfl (s.stA (j := 4) rfl sz40 rfl hst) ?_)))
 rintro h s
 dsimp only [rcC, setA] at s
 refine za rfl (zv (zw (zg rfl (zm rfl (WPs.opF rfl rfl rfl (o_un rfl rfl) (rfl) (zv (zj rfl (WP.skip (zg rfl (zl rfl (by exact s.ldA (k := 4) rfl ag40 sz40) ?_))))))))))
 refine zm rfl (WPs.stS rfl rfl rfl rfl rfl (s.stA (j := 4) rfl sz40 rfl hst) ?_)
 rintro h s
 dsimp only [setA] at s
 refine za rfl (za rfl (zv ?_))
 refine WP.ret ⟨trivial, _, resC2 rfl (s.ldA (k := 4) rfl ag40 sz40) rfl rfl, ?_⟩
 exact ⟨dt, ch, cs, rfl, s.del 4⟩
end
end Go.Proofs.YtconhghphklfjaaGreat.Am
namespace Go.Proofs.YtconhghphklfjaaGreat.Am
open Go
section
variable {told : Nat → Option (List V → H → Option (V × H))} {h : H} {S : List Assn} {X : Assn} {v : V} {l : List Nat} {q p : Nat} {μ : Lg}
theorem lRead_rec (hT : WR told) {kd tx pv nx n a : Nat} {data : List Nat} {chs : List Chg} {pre rest bd : List Nat} (hg : goodR kd chs = true) (hk : kd < 256) (hr : RecRd tx pv nx data chs) (hbd : bd = bodyG kd tx pv nx data chs)
  (hbl : bd.length ≤ 1048576) (ha : pre.length = a) (hl : μ.b = pre ++ (recG n bd ++ rest)) (hn : n = μ.base + a) (hh : μ.hasB n = true) (hμ : μ.Ok) (s : Sat h (isLg q p μ :: S)) :
  Call ⟨Tryz.prog, told⟩ 20 [.ptr q 0, .int .u64 (n : Int)] h fun r h' => ∃ dt ch cs, r = .tup [.agg (rcC kd tx pv nx dt ch), .int .u64 ((n + 8 + bd.length : Nat) : Int), .int .i64 0] ∧ Sat h' (isLg q p μ :: bufA dt data :: .arr 4 ch cs :: chgA cs chs :: S) := by
 have hW := hT.w
 have hlen : μ.b.length = a + 8 + bd.length + rest.length := by rw [hl]; simp only [List.length_append, recG_len]; omega
 have hsz := hμ.size
 have hb := hμ.len
 refine Call.of_wp (hW.free _ rfl) Tryz.func20 rfl rfl (zg rfl ?_)
 refine WPs.newS s rfl rfl rfl (o_alloc zt40) (fun p4 h s => ?_)
 dsimp only [V.cells, List.length_cons, List.length_nil, Nat.reduceAdd] at s
 refine za rfl (za rfl (zv (zw (WP.block (zg rfl (zm rfl (zm rfl ?_)))))))
 have s := s.bringS [1]
 dsimp only [bringA, getA, delA] at s
 refine WPs.call rfl rfl rfl rfl rfl rfl rfl (lEnd_ct hW s hμ.size) ?_
 rintro v h' ⟨rfl, rfl⟩
 refine WPs.opF rfl rfl rfl (o_bin rfl rfl bEql) (by simp; omega) ?_
 refine za rfl (zv (zj rfl (zg rfl (zm rfl (zm rfl (WPs.call rfl rfl rfl rfl rfl rfl rfl (lHas_ct (n := n) hW s hμ (by omega)) ?_))))))
 rintro v h' ⟨rfl, rfl⟩
 rw [hh]
 refine zo rfl (o_un rfl rfl) (za rfl (zv (zj rfl (WP.skip (zw ?_)))))
 obtain ⟨bv, sv, s⟩ := isLg_iff.1 s
 have s0 := s
 have hb1 := beqView (s.buf (k := 1) rfl).view
 have hcast : ((n : Int) - (μ.base : Int)) = (a : Int) := by omega
 refine WP.drawn [none, none, none, none, none, none, none, none, none, none, none, none, none, none, none, some (1, 2), some (1, 2), none, none, none] rfl (by kernel_rfl) (by kernel_rfl) ?_
 refine zM rfl (zN rfl (zF rfl (fa111_2 _ _) (zL rfl (by exact s.ld (k := 0) rfl ag32 rfl) ?_)))
 refine zM rfl (zM rfl (zN rfl (zF rfl (fa111_1 _ _) (zL rfl (by exact s.ld (k := 0) rfl ag35 rfl) ?_))))
 refine zO rfl (o_bin (r := .int .u64 (a : Int)) rfl rfl (by rw [← hcast]; exact bSub (wrapU (by omega) (by omega)))) ?_
 refine WPt.op rfl rfl rfl (by simp only [isEff, Tryz.underlying3]) (o_conv rfl (by exact cvI Tryz.underlying35 Tryz.underlying3 (wrapS (by omega) (by omega)))) ?_
 refine zM rfl (WPt.any rfl rfl rfl rfl (OpR.call rfl rfl rfl rfl (body2_ct (n := n) (a := a) hT hg hk hr hbd hbl ha hl (by omega) (s.bringS [1]) (rd_buf _ _))) ?_)
 rintro r h ⟨dt, ch, cs, rfl, s⟩
 dsimp only [lgC, delA, bringA] at s
 have hdt := (s.buf (k := 1) rfl).view.cells
 have hch := s.arrV (j := 2) rfl
 have hdb := beqView (s.buf (k := 1) rfl).view
 have hst : [V.int .i64 (kd : Int), V.int .u64 (tx : Int), V.int .u64 (pv : Int), V.int .u64 (nx : Int), dt, ch].all storable = true := rcC_st hdt.2 hch.2.1
 have s1 := s
 refine zM rfl (zO rfl (o_extract rfl rfl) (zO rfl (o_extract rfl rfl) (zO rfl (o_extract rfl rfl) (WPt.any0 rfl rfl rfl (OpR.stS rfl rfl rfl (s.stA (j := 6) rfl sz40 rfl hst)) ?_))))
 rintro v h ⟨rfl, s⟩
 dsimp only [rcC, setA] at s
 refine zA rfl (zA rfl ?_)
 refine WPt.nil ⟨⟨trivial, trivial, trivial, trivial, trivial, trivial, trivial, trivial, trivial, trivial, trivial, trivial, trivial, trivial, trivial, fun _ _ => .inr ⟨rfl, ⟨_, o_extract rfl rfl⟩, beqV _ rfl⟩, fun _ _ => .inr ⟨rfl, ⟨_, o_extract rfl rfl⟩, beqV _ rfl⟩, trivial, trivial, trivial, trivial⟩, ?_⟩
 refine zw (zg rfl (zm rfl (WPs.opF rfl rfl rfl (o_bin rfl rfl bNeq) (rfl) (zv (zj rfl (WP.skip (zw ?_)))))))
 have hrb : (V.agg [V.int .i64 (kd : Int), V.int .u64 (tx : Int), V.int .u64 (pv : Int), V.int .u64 (nx : Int), dt, ch]).beq (V.agg [V.int .i64 (kd : Int), V.int .u64 (tx : Int), V.int .u64 (pv : Int), V.int .u64 (nx : Int), dt, ch]) = true := rcC_beq hdb hch.2.2
 have s0 := s
 refine WP.drawn [none, some (0, 2), some (0, 2), some (0, 2), some (0, 2), some (0, 2), some (0, 2), some (0, 2), none, none, none] rfl (by kernel_rfl) (by kernel_rfl) ?_
 refine zL rfl (by exact s.ldA (k := 6) rfl ag40 sz40) ?_
 refine zM rfl (zN rfl (zF rfl (fa111_1 _ _) (zL rfl (by exact s.ld (k := 4) rfl ag35 rfl) ?_)))
 refine zM rfl (WPt.op rfl rfl rfl (by simp only [isEff, Tryz.underlying35]) (o_conv rfl (by exact cvI Tryz.underlying3 Tryz.underlying35 (wrapU (by omega) (by omega)))) ?_)
 refine zO rfl (o_bin rfl rfl (by exact bAdd (wrapU (by omega) (by omega)))) ?_
 refine WPt.any0 rfl rfl rfl (OpR.stS rfl rfl rfl (s.stA (j := 6) rfl sz40 rfl hst)) ?_
 rintro v h ⟨rfl, s⟩
 dsimp only [setA] at s
 refine zA rfl (zA rfl ?_)
 refine WPt.nil ⟨⟨trivial, fun _ _ => .inr ⟨rfl, ⟨_, o_move rfl⟩, beqV _ rfl⟩, fun _ _ => .inr ⟨rfl, ⟨_, o_nil rfl⟩, beqV _ rfl⟩, fun _ _ => .inr ⟨rfl, ⟨_, o_fa rfl (fa111_1 _ _)⟩, beqV _ rfl⟩, heaps2 (.inr ⟨rfl, ⟨_, o_load rfl (by exact s0.ld (k := 4) rfl ag35 rfl)⟩, beqV _ rfl⟩) (.inr ⟨rfl, ⟨_, o_load rfl (by exact s.ld (k := 4) rfl ag35 rfl)⟩, beqV _ rfl⟩), fun _ _ => .inr ⟨rfl, ⟨_, o_move rfl⟩, beqV _ rfl⟩, fun _ _ => .inr ⟨rfl, ⟨_, o_conv rfl (by exact cvI Tryz.underlying3 Tryz.underlying35 (wrapU (by omega) (by omega)))⟩, beqV _ rfl⟩, fun _ _ => .inr ⟨rfl, ⟨_, o_bin rfl rfl (by exact bAdd (wrapU (by omega) (by omega)))⟩, beqV _ rfl⟩, trivial, trivial, trivial, trivial⟩, ?_⟩
 refine WP.ret ⟨trivial, _, resC2 rfl (s.ldA (k := 6) rfl ag40 sz40) rfl rfl, ?_⟩
 refine ⟨dt, ch, cs, ?_, isLg_iff.2 ⟨bv, sv, (s.bringS [4, 0, 3, 0, 0, 0]).del 6⟩⟩
 rw [show ((μ.base : Int) + ((a + 8 + bd.length : Nat) : Int)) = ((n + 8 + bd.length : Nat) : Int) by omega]
 rfl
end
end Go.Proofs.YtconhghphklfjaaGreat.Am
