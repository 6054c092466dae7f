/- A group that is over or open, pages that are none and records that may not be are refused, and a record that was done is read back; the conditions are those of the given statement, for arguments that a machine can hold. Part 39 of 44. -/
import Derived.Test.YtconhghphklfjaaGreatE38
namespace Go.Proofs.YtconhghphklfjaaGreat.Am
open Go
theorem resC0 {P : Program} {E : List (Nat × V)} {h : H} {a t : Nat} {p v : V} (hl : look E a = some p) (hd : loadV P h t p = some v) : resLE P E h [.cell a t] = some v := by simp only [resLE, mapO, resE, hl, hd]
section
variable {told : Nat → Option (List V → H → Option (V × H))} {h : H} {S : List Assn} {X : Assn} {c : Nat} {v w : V} {l m : List Nat}
theorem cchange_ct (hT : W told) {x : Chg} (hx : x.Ok) (hc : Cu h c X S (encC x ++ l)) :
  Call ⟨Tryz.prog, told⟩ 154 [.ptr c 0] h fun r h' => ∃ u, r = .agg [.int .i64 x.page, .int .i64 x.pos, .bool x.whole, u] ∧ Cu h' c X (bufA u x.b :: S) l := by
 obtain ⟨x1, x2, x3, x4, x5, x6⟩ := hx
 obtain ⟨pg, ps, wh, b⟩ := x
 dsimp only at x1 x2 x3 x4 x5 x6 hc
 obtain ⟨pg, rfl⟩ := Int.eq_ofNat_of_zero_le x1
 obtain ⟨ps, rfl⟩ := Int.eq_ofNat_of_zero_le x3
 simp only [encC, Int.toNat_natCast, List.append_assoc, List.cons_append, List.nil_append] at hc
 generalize hwb : (if wh = true then 1 else 0) = wb at hc
 have hw1 : wb ≤ 1 := by rw [← hwb]; cases wh <;> decide
 have hw2 : decide ((wb : Int) = 1) = wh := by rw [← hwb]; cases wh <;> rfl
 obtain ⟨v, hX, s⟩ := hc
 refine Call.of_wp (hT.free _ rfl) Tryz.func154 rfl rfl (zg rfl ?_)
 refine WPs.newS s rfl rfl rfl (o_alloc zt54) (fun p2 h s => ?_)
 dsimp only [V.cells, List.length_cons, List.length_nil, Nat.reduceAdd] at s
 refine zv (zg rfl (zm rfl (WPs.call rfl rfl rfl rfl rfl rfl rfl (small_ct hT (by omega) ⟨v, hX, s.bringS [1, 1, 0]⟩) ?_)))
 rintro v h ⟨rfl, v, hX, s⟩
 dsimp only [delA, bringA, getA] at s
 refine zm rfl (WPs.call rfl rfl rfl rfl rfl rfl rfl (small_ct hT (by omega) ⟨v, hX, s⟩) ?_)
 rintro v h ⟨rfl, v, hX, s⟩
 refine zf rfl (fa54_0 _ _) ?_
 refine WPs.stS rfl rfl rfl rfl rfl (by exact s.st1 (k := 2) rfl sz3 rfl (by decide) rfl rfl) (fun h s => ?_)
 dsimp only [Nat.reduceAdd, List.set, setA] at s
 refine zf rfl (fa54_1 _ _) ?_
 refine WPs.stS rfl rfl rfl rfl rfl (by exact s.st1 (k := 2) rfl sz3 rfl (by decide) rfl rfl) (fun h s => ?_)
 dsimp only [Nat.reduceAdd, List.set, setA] at s
 refine zv (zg rfl (zm rfl (WPs.call rfl rfl rfl rfl rfl rfl rfl (byte_ct hT ⟨v, hX, s⟩) ?_)))
 rintro v h ⟨rfl, v, hX, s⟩
 refine za rfl (zv (zg rfl (zm rfl (WPs.opT rfl rfl rfl (o_bin rfl rfl bLeq) (by simp; omega) ?_))))
 refine WPs.call rfl rfl rfl rfl rfl rfl rfl (must_ct hT) ?_
 rintro r h' ⟨rfl, rfl⟩
 refine zv (zg rfl (zm rfl (zo rfl (o_bin (r := .bool wh) rfl rfl (by rw [← hw2]; exact bEql)) ?_)))
 refine zf rfl (fa54_2 _ _) ?_
 refine WPs.stS rfl rfl rfl rfl rfl (by exact s.st1 (k := 2) rfl sz4 rfl (by decide) rfl rfl) (fun h s => ?_)
 dsimp only [Nat.reduceAdd, List.set, setA] at s
 refine zv (zg rfl (zm rfl ?_))
 rw [← List.append_assoc] at hX
 refine WPs.call rfl rfl rfl rfl rfl rfl rfl (ctext_ct hT (by omega) ⟨v, hX, s⟩) ?_
 rintro u h ⟨v, hX, s⟩
 have hu := (s.buf (k := 2) rfl).view.cells
 refine zf rfl (fa54_3 _ _) (WPs.stS rfl rfl rfl rfl rfl (s.st1 (k := 3) rfl sz32 rfl (by decide) hu.1 hu.2) ?_)
 rintro h s
 dsimp only [Nat.reduceAdd, List.set, setA] at s
 refine zv (zg rfl (zl rfl (by exact s.ldA (k := 3) rfl ag54 sz54) ?_))
 refine WPs.stS rfl rfl rfl rfl rfl (s.stA (j := 3) rfl sz54 rfl (by simp only [List.all_cons, List.all_nil, hu.2]; rfl)) ?_
 rintro h s
 dsimp only [setA] at s
 refine zv ?_
 refine WP.ret ⟨trivial, _, resC0 rfl (s.ldA (k := 3) rfl ag54 sz54), ?_⟩
 exact ⟨u, rfl, v, hX, s.del 3⟩
structure RecRd (tx pv nx : Nat) (data : List Nat) (chs : List Chg) : Prop where
 tx : tx < 9223372036854775808
 pv : pv < 9223372036854775808
 nx : nx < 9223372036854775808
 data : data.length ≤ 1048576
 many : chs.length ≤ 1048576
theorem encC_len (x : Chg) : 1 ≤ (encC x).length := by simp only [encC, List.length_append, List.length_cons]; omega
theorem encs_len : ∀ l : List Chg, l.length ≤ (l.flatMap encC).length := by
 intro l
 induction l with
 | nil => simp
 | cons x l ih => have := encC_len x; simp only [List.flatMap_cons, List.length_append, List.length_cons]; omega
noncomputable def rdL : Code := pathC [1, 1, 1, 1, 1, 1, 1, 1, 0, 1, 0, 0] ((Tryz.f132.body).getD .skip)
theorem rd_loop (hT : W told) {kd tx pv nx : Nat} {p2 : Nat} {dt : V} {chs : List Chg} (hok : ∀ x ∈ chs, x.Ok) (hn : chs.length ≤ 1048576) : ∀ (j i : Nat) (av : V) (cs : List V) (h : H) (E : List (Nat × V)) (Q : Ex → List (Nat × V) → H → Prop),
  i + j = chs.length → Cu h c X (pt p2 (.cells 6 (rcC kd tx pv nx dt av) false) :: .arr 4 av cs :: chgA cs (chs.take i) :: S) ((chs.drop i).flatMap encC) → Has E [(0, .ptr c 0), (2, .ptr p2 0), (41, .int .i64 chs.length), (42, .int .i64 i)] →
  (∀ E' h' av cs, Has E' [(0, .ptr c 0), (2, .ptr p2 0)] → Cu h' c X (pt p2 (.cells 6 (rcC kd tx pv nx dt av) false) :: .arr 4 av cs :: chgA cs chs :: S) [] → Q (.exit 2) E' h') → WP ⟨Tryz.prog, told⟩ 64 (.loop rdL) E h Q := by
 intro j
 induction j with
 | zero =>
  intro i av cs h E Q hi hc hE hq
  refine WP.loop (WP.has hE (zg rfl (WPs.opF rfl rfl rfl (o_bin rfl rfl bLss) (by simp; omega) ?_)))
  refine zv (zw (zj rfl (WP.exit ?_)))
  rw [List.take_of_length_le (by omega), List.drop_of_length_le (by omega)] at hc
  exact hq _ _ _ _ ⟨rfl, rfl, trivial⟩ hc
 | succ j ih =>
  intro i av cs h E Q hi hc hE hq
  have hx : chs[i]? = some (chs[i]'(by omega)) := List.getElem?_eq_getElem _
  generalize (chs[i]'(by omega)) = x at hx
  have hxo := hok x (List.mem_of_getElem? hx)
  have hdrop : chs.drop i = x :: chs.drop (i + 1) := by
   obtain ⟨h1, rfl⟩ := List.getElem?_eq_some_iff.1 hx
   exact List.drop_eq_getElem_cons h1
  have htake : chs.take (i + 1) = chs.take i ++ [x] := by rw [List.take_add_one, hx]; rfl
  rw [hdrop, List.flatMap_cons] at hc
  obtain ⟨v, hX, s⟩ := hc
  refine WP.loop (WP.has hE (zg rfl (WPs.opT rfl rfl rfl (o_bin rfl rfl bLss) (by simp; omega) ?_)))
  refine zv (zw (zi rfl (WP.skip (zw (WP.block ?_)))))
  have s0 := s
  have hbq := (s.arrV (j := 3) rfl).2.2
  refine WP.drawn [some (0, 3), some (0, 3), none, none, none, none, none, none] rfl (by kernel_rfl) (by kernel_rfl) ?_
  refine zF rfl (fa40_5 _ _) (zL rfl (by exact s.ld (k := 2) rfl ag38 rfl) ?_)
  refine zM rfl (WPt.any rfl rfl rfl rfl (OpR.call rfl rfl rfl rfl (cchange_ct hT hxo ⟨v, hX, s⟩)) ?_)
  rintro w h ⟨u, rfl, v, hX, s⟩
  dsimp only [rcC] at s
  have hu := (s.buf (k := 2) rfl).view.cells
  have hub := beqView (s.buf (k := 2) rfl).view
  have s1 := s
  have s := (s.bringS [2]).freezeBuf
  dsimp only [bringA, getA, delA] at s
  obtain ⟨rv, h1, e1', s2⟩ := sat_bs1 (P := Tryz.prog) (k := 4) (x := .agg [.int .i64 x.page, .int .i64 x.pos, .bool x.whole, u]) s Tryz.underlying38 zt54 sz54 rfl (by decide) (by decide) rfl (by simp only [V.cells, List.all_cons, List.all_nil, hu.2]; rfl)
  dsimp only [V.cells] at s2
  refine WPt.any rfl rfl rfl rfl (OpR.of (R := fun v h' => v = rv ∧ h' = h1) (o_bs rfl e1') ⟨rfl, rfl⟩) ?_
  rintro v' h' ⟨rfl, rfl⟩
  obtain ⟨i1, hi1, hi2, hi3⟩ := info_chg
  have hcl1 : cs.length = (chs.take i).length * 4 := by
   obtain ⟨a, b, q1, q2, q3⟩ := s2.at (k := 6) rfl
   exact chgA_len q3
  rw [List.length_take] at hcl1
  obtain ⟨av', h2, e2', s3⟩ := sat_appArr (s2.bringS [5, 0]) Tryz.underlying38 hi1 zt54 hi2 (by omega) rfl (by decide) (by simp only [List.length_cons, List.length_nil]; omega)
  dsimp only [bringA, getA, delA] at s3
  refine WPt.any rfl rfl rfl rfl (OpR.of (R := fun v h' => v = av' ∧ h' = h2) (o_app rfl rfl e2') ⟨rfl, rfl⟩) ?_
  rintro v' h' ⟨rfl, rfl⟩
  have s := s3
  have hav := s.arrV (j := 0) rfl
  refine zF rfl (fa40_5 _ _) (WPt.any0 rfl rfl rfl (OpR.stS rfl rfl rfl (s.st1 (k := 5) rfl sz38 rfl (by decide) hav.1 hav.2.1)) ?_)
  rintro v' h ⟨rfl, s⟩
  dsimp only [Nat.reduceAdd, List.set, setA] at s
  refine WPt.nil ⟨⟨fun _ _ => .inr ⟨rfl, ⟨_, o_fa rfl (fa40_5 _ _)⟩, beqV _ rfl⟩, heaps3 (.inr ⟨rfl, ⟨_, o_load rfl (by exact s0.ld (k := 2) rfl ag38 rfl)⟩, hbq⟩) (.inr ⟨rfl, ⟨_, o_load rfl (by exact s1.ld (k := 3) rfl ag38 rfl)⟩, hbq⟩) (.inr ⟨rfl, ⟨_, o_load rfl (by exact s2.ld (k := 4) rfl ag38 rfl)⟩, hbq⟩), trivial, trivial, trivial, trivial, trivial, trivial, trivial⟩, ?_⟩
  refine zr rfl (zb rfl (by exact bAdd (wrapS (by omega) (by omega))) ?_)
  refine zm rfl (zv ?_)
  have s4 : Sat _ (chgA cs (chs.take i) :: .rob u x.b :: _) := s.bringS [6, 2]
  have s5 := s4.two (C := chgA (cs ++ [.int .i64 x.page, .int .i64 x.pos, .bool x.whole, u]) (chs.take i ++ [x])) (Pers.chg _ _) (Pers.rob _ _) fun a b q1 q2 => chgA_app q1 ⟨⟨⟨rfl, rfl, rfl⟩, q2⟩, trivial⟩
  dsimp only [bringA, getA, delA] at s5
  rw [← htake] at s5
  have s6 := (s5.bringS [3, 3, 3, 1, 0]).del 5
  dsimp only [bringA, getA, delA] at s6
  exact ih (i + 1) _ _ h _ Q (by omega) ⟨v, hX, s6⟩ ⟨rfl, rfl, rfl, rfl, trivial⟩ hq
theorem crec_ct (hT : W told) {kd tx pv nx : Nat} {data : List Nat} {chs : List Chg} (hg : goodR kd chs = true) (hk : kd < 256) (hr : RecRd tx pv nx data chs) (hc : Cu h c X S (bodyG kd tx pv nx data chs)) :
  Call ⟨Tryz.prog, told⟩ 132 [.ptr c 0] h fun r h' => ∃ dt ch cs, r = .agg (rcC kd tx pv nx dt ch) ∧ Sat h' (X :: bufA dt data :: .arr 4 ch cs :: chgA cs chs :: S) := by
 simp only [bodyG, Int.toNat_natCast, List.append_assoc, List.cons_append, List.nil_append] at hc
 obtain ⟨v, hX, s⟩ := hc
 refine Call.of_wp (hT.free _ rfl) Tryz.func132 rfl rfl (zg rfl ?_)
 refine WPs.newS s rfl rfl rfl (o_alloc zt40) (fun p2 h s => ?_)
 dsimp only [V.cells, List.length_cons, List.length_nil, Nat.reduceAdd] at s
 refine zv (zg rfl (zm rfl (WPs.call rfl rfl rfl rfl rfl rfl rfl (byte_ct hT ⟨v, hX, s.bringS [1, 1, 0]⟩) ?_)))
 rintro v h ⟨rfl, v, hX, s⟩
 dsimp only [delA, bringA, getA] at s
 refine zo rfl (o_conv rfl (conv_u8_i64 (by omega))) ?_
 refine zf rfl (fa40_0 _ _) ?_
 refine WPs.stS rfl rfl rfl rfl rfl (by exact s.st1 (k := 2) rfl sz3 rfl (by decide) rfl rfl) (fun h s => ?_)
 dsimp only [Nat.reduceAdd, List.set, setA] at s
 refine zv (zg rfl (zm rfl (zo rfl (o_mkf rfl rfl) (za rfl (zv (zw (zg rfl (zf rfl (fa40_1 _ _) (zf rfl (fa40_2 _ _) (zf rfl (fa40_3 _ _) (zo rfl (o_build rfl (by rw [bv220]; rfl)) ?_)))))))))))
 refine zm rfl (zv (WP.block (WP.loop (zg rfl (WPs.opT rfl rfl rfl (o_bin rfl rfl bLss) (rfl) (zv (zw (zi rfl (WP.skip (zw (WP.block (zg rfl (zo rfl (o_ix rfl rfl (r := .ptr p2 (0 + 1)) (by simp only [indexV, Tryz.underlying220, sz219, partV, ag219]; rfl)) ?_)))))))))))))
 refine za rfl (zv (zr rfl (zm rfl (zm rfl (WPs.call rfl rfl rfl rfl rfl rfl rfl (number_ct hT hr.tx ⟨v, hX, s⟩) ?_)))))
 rintro v h ⟨rfl, v, hX, s⟩
 refine zn rfl ?_
 refine WPs.stS rfl rfl rfl rfl rfl (by exact s.st1 (k := 2) rfl sz35 rfl (by decide) rfl rfl) (fun h s => ?_)
 dsimp only [Nat.reduceAdd, List.set, setA] at s
 refine zv (zr rfl (zb rfl (by exact bAdd (wrapS (by omega) (by omega))) ?_))
 refine zm rfl (zv (WP.loop (zg rfl (WPs.opT rfl rfl rfl (o_bin rfl rfl bLss) (rfl) (zv (zw (zi rfl (WP.skip (zw (WP.block (zg rfl (zo rfl (o_ix rfl rfl (r := .ptr p2 (0 + 2)) (by simp only [indexV, Tryz.underlying220, sz219, partV, ag219]; rfl)) ?_))))))))))))
 refine za rfl (zv (zr rfl (zm rfl (zm rfl (WPs.call rfl rfl rfl rfl rfl rfl rfl (number_ct hT hr.pv ⟨v, hX, s⟩) ?_)))))
 rintro v h ⟨rfl, v, hX, s⟩
 refine zn rfl ?_
 refine WPs.stS rfl rfl rfl rfl rfl (by exact s.st1 (k := 2) rfl sz35 rfl (by decide) rfl rfl) (fun h s => ?_)
 dsimp only [Nat.reduceAdd, List.set, setA] at s
 refine zv (zr rfl (zb rfl (by exact bAdd (wrapS (by omega) (by omega))) ?_))
 refine zm rfl (zv (WP.loop (zg rfl (WPs.opT rfl rfl rfl (o_bin rfl rfl bLss) (rfl) (zv (zw (zi rfl (WP.skip (zw (WP.block (zg rfl (zo rfl (o_ix rfl rfl (r := .ptr p2 (0 + 3)) (by simp only [indexV, Tryz.underlying220, sz219, partV, ag219]; rfl)) ?_))))))))))))
 refine za rfl (zv (zr rfl (zm rfl (zm rfl (WPs.call rfl rfl rfl rfl rfl rfl rfl (number_ct hT hr.nx ⟨v, hX, s⟩) ?_)))))
 rintro v h ⟨rfl, v, hX, s⟩
 refine zn rfl ?_
 refine WPs.stS rfl rfl rfl rfl rfl (by exact s.st1 (k := 2) rfl sz35 rfl (by decide) rfl rfl) (fun h s => ?_)
 dsimp only [Nat.reduceAdd, List.set, setA] at s
 refine zv (zr rfl (zb rfl (by exact bAdd (wrapS (by omega) (by omega))) ?_))
 refine zm rfl (zv (WP.loop (zg rfl (WPs.opF rfl rfl rfl (o_bin rfl rfl bLss) (rfl) (zv (zw (zj rfl (WP.exit (zg rfl (zm rfl ?_))))))))))
 rw [← List.append_assoc] at hX
 refine WPs.call rfl rfl rfl rfl rfl rfl rfl (ctext_ct hT hr.data ⟨v, hX, s⟩) ?_
 rintro dt h ⟨v, hX, s⟩
 have hdt := (s.buf (k := 2) rfl).view.cells
 refine zf rfl (fa40_4 _ _) (WPs.stS rfl rfl rfl rfl rfl (s.st1 (k := 3) rfl sz32 rfl (by decide) hdt.1 hdt.2) ?_)
 rintro h s
 dsimp only [Nat.reduceAdd, List.set, setA] at s
 refine zv (zg rfl (zm rfl (WPs.call rfl rfl rfl rfl rfl rfl rfl (small_ct hT hr.many ⟨v, hX, s⟩) ?_)))
 rintro v h ⟨rfl, v, hX, s⟩
 have hv := s.viewX (k := 1) rfl hX
 refine za rfl (zv (zg rfl (zm rfl (zm rfl (zn rfl (zf rfl (fa202_0 _ _) (zl rfl (by exact s.ld (k := 0) rfl ag32 rfl) ?_)))))))
 refine zo rfl (o_len rfl rfl rfl (len_view Tryz.underlying32 hv)) (WPs.opT rfl rfl rfl (o_bin rfl rfl bLeq) (by have := encs_len chs; simp only [decide_eq_true_eq]; omega) ?_)
 refine WPs.call rfl rfl rfl rfl rfl rfl rfl (must_ct hT) ?_
 rintro r h' ⟨rfl, rfl⟩
 refine zv (zg rfl (zm rfl ?_))
 obtain ⟨i1, hi1, hi2, hi3⟩ := info_chg
 have hmany := hr.many
 obtain ⟨nv, h1', e1, s1⟩ := sat_mkArr (P := Tryz.prog) s Tryz.underlying38 hi1 zt54 hi2 (by omega) rfl (by decide) (by decide) (n := 0) (c := chs.length) (by omega) (by omega)
 dsimp only [repeatL] at s1
 refine WPs.any rfl rfl rfl (OpR.of (R := fun v h' => v = nv ∧ h' = h1') (o_mks rfl rfl e1) ⟨rfl, rfl⟩) ?_
 rintro v h' ⟨rfl, rfl⟩
 have s := s1.bringS [1, 1, 2, 0]
 dsimp only [bringA, getA, delA] at s
 have hnv := s.arrV (j := 3) rfl
 refine zf rfl (fa40_5 _ _) (WPs.stS rfl rfl rfl rfl rfl (s.st1 (k := 2) rfl sz38 rfl (by decide) hnv.1 hnv.2.1) ?_)
 rintro h s
 dsimp only [Nat.reduceAdd, List.set, setA] at s
 have hok : ∀ x ∈ chs, x.Ok := fun x hx => by
  simp only [goodR, Bool.and_eq_true, List.all_eq_true, decide_eq_true_eq] at hg
  exact hg.2 x hx
 have s2 := ((s.addPu (φ := True) trivial).ent (B := chgA [] []) fun _ _ h => h).bringS [1, 1, 1, 1, 0]
 dsimp only [bringA, getA, delA] at s2
 refine zv (zw (zg rfl (zm rfl (zm rfl (zv (WP.block ?_))))))
 refine rd_loop hT hok hr.many chs.length 0 _ [] h _ _ (by omega) ⟨_, hX, s2⟩ ⟨rfl, rfl, rfl, rfl, trivial⟩ (fun E h av cs hE hc => ?_)
 obtain ⟨v, hX, s⟩ := hc
 refine WP.has hE ?_
 have hv := s.viewX (k := 1) rfl hX
 have hdt := (s.buf (k := 5) rfl).view.cells
 have hav := s.arrV (j := 3) rfl
 have hst : [V.int .i64 (kd : Int), V.int .u64 (tx : Int), V.int .u64 (pv : Int), V.int .u64 (nx : Int), dt, av].all storable = true := rcC_st hdt.2 hav.2.1
 have hfit : chsFit chs := ⟨by omega, fun x hx => by have := hok x hx; unfold Chg.Ok at this; omega, fun x hx => by have := hok x hx; unfold Chg.Ok at this; omega⟩
 refine zg rfl (zm rfl (zn rfl (zf rfl (fa202_0 _ _) (zl rfl (by exact s.ld (k := 0) rfl ag32 rfl) ?_))))
 refine zo rfl (o_len rfl rfl rfl (len_view Tryz.underlying32 hv)) (WPs.opT rfl rfl rfl (o_bin rfl rfl bEql) (rfl) (zm rfl (zl rfl (by exact s.ldA (k := 2) rfl ag40 sz40) ?_)))
 refine WPs.call rfl rfl rfl rfl rfl rfl rfl (wgood_ct hT (s.bringS [3, 3]) hdt.2 hfit) ?_
 rintro r h ⟨rfl, s⟩
 dsimp only [bringA, getA, delA] at s
 rw [hg]
 refine zq rfl (WPs.call rfl rfl rfl rfl rfl rfl rfl (must_ct hT) ?_)
 rintro r h' ⟨rfl, rfl⟩
 refine zv (zg rfl (zl rfl (by exact s.ldA (k := 4) rfl ag40 sz40) ?_))
 refine WPs.stS rfl rfl rfl rfl rfl (s.stA (j := 4) rfl sz40 rfl hst) ?_
 rintro h s
 dsimp only [rcC, setA] at s
 refine zv ?_
 refine WP.ret ⟨trivial, _, resC0 rfl (s.ldA (k := 4) rfl ag40 sz40), ?_⟩
 exact ⟨dt, av, cs, rfl, ((s.bringS [3, 4, 0, 0]).del 4).del 4⟩
end
end Go.Proofs.YtconhghphklfjaaGreat.Am
