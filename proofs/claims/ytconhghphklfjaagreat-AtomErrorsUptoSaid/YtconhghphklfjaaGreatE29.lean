/- A group that is over or open, pages that are none and records that may not be are refused, and a record that was done is read back; the conditions are those of the given statement, for arguments that a machine can hold. Part 29 of 44. -/
import Derived.Test.YtconhghphklfjaaGreatE28
namespace Go.Proofs.YtconhghphklfjaaGreat.Am
open Go
def encC (c : Chg) : List Nat := digits 9 c.page.toNat ++ digits 9 c.pos.toNat ++ [if c.whole then 1 else 0] ++ (digits 9 c.b.length ++ c.b)
def bodyG (kd : Int) (tx pv nx : Nat) (data : List Nat) (chs : List Chg) : List Nat :=
 [kd.toNat] ++ digits 9 tx ++ digits 9 pv ++ digits 9 nx ++ (digits 9 data.length ++ data) ++ digits 9 chs.length ++ chs.flatMap encC
section
variable {told : Nat → Option (List V → H → Option (V × H))} {h : H} {S : List Assn} {X : Assn} {k q p : Nat} {v w : V} {l m : List Nat}
theorem varint_ct (hT : W told) {n : Nat} (s : Sat h (bufA v l :: S)) (hn : n < 18446744073709551616) (hl : l.length ≤ 140737488355000) :
  Call ⟨Tryz.prog, told⟩ 135 [v, .int .u64 (n : Int)] h fun r h' => Sat h' (bufA r (l ++ digits 9 n) :: S) :=
 (varint_do hT.std (k := 9) s.wf (s.buf (k := 0) rfl) (by omega) (by omega) (by omega)).mono fun _ _ ⟨h1, h2, h3⟩ => s.turnBuf h2 h1 h3
theorem text_ct (hT : W told) (s : Sat h (bufA v l :: X :: S)) (hX : Ent X (rdB w m)) (hl : l.length + m.length ≤ 140737488355000) :
  Call ⟨Tryz.prog, told⟩ 136 [v, w] h fun r h' => Sat h' (bufA r (l ++ (digits 9 m.length ++ m)) :: X :: S) :=
 (text_do hT.std (k := 9) s.wf (s.buf (k := 0) rfl) (s.viewX (k := 1) rfl hX) (s.apartB hX) (by omega) (by omega) (by omega)).mono fun _ _ ⟨h1, h2, h3⟩ => by
  rw [List.append_assoc] at h1
  exact s.turnBuf h2 h1 h3
noncomputable def bdL : Code := pathC [1, 1, 1, 1, 0, 1, 0, 0] ((Tryz.f121.body).getD .skip)
theorem body_loop (hT : W told) {p1 : Nat} {ch : V} {cs : List V} {chs : List Chg} (hok : ∀ c ∈ chs, c.Ok) (hfit : chsFit chs) : ∀ (j i : Nat) (sv : V) (l : List Nat) (h : H) (E : List (Nat × V)) (Q : Ex → List (Nat × V) → H → Prop), i + j = chs.length →
  l.length + ((chs.drop i).flatMap encC).length ≤ 140737488355000 →
  Sat h (bufA sv l :: .arr 4 ch cs :: chgA cs chs :: S) → Has E [(1, .ptr p1 0), (3, sv), (37, ch), (38, .int .i64 chs.length), (39, .int .i64 i)] →
  (∀ E' h' sv', look E' 3 = some sv' → Sat h' (bufA sv' (l ++ (chs.drop i).flatMap encC) :: .arr 4 ch cs :: chgA cs chs :: S) → Q (.exit 2) E' h') → WP ⟨Tryz.prog, told⟩ 63 (.loop bdL) E h Q := by
 intro j
 induction j with
 | zero =>
  intro i sv l h E Q hi hlen s hE hx
  have hm := hfit.1
  refine WP.loop (WP.has hE (zg rfl (WPs.opF rfl rfl rfl (o_bin rfl rfl bLss) (by simp; omega) ?_)))
  refine zv (zw (zj rfl (WP.exit (hx _ _ sv rfl ?_))))
  rw [List.drop_eq_nil_of_le (by omega)]
  simpa using s
 | succ j ih =>
  intro i sv l h E Q hi hlen s hE hx
  have hm := hfit.1
  have hc : chs[i]? = some (chs[i]'(by omega)) := List.getElem?_eq_getElem _
  generalize (chs[i]'(by omega)) = c at hc
  have hcm := List.mem_of_getElem? hc
  have hcok := hok c hcm
  have hcb := hfit.2.1 c hcm
  have hdrop : chs.drop i = c :: chs.drop (i + 1) := by
   obtain ⟨h1, rfl⟩ := List.getElem?_eq_some_iff.1 hc
   exact List.drop_eq_getElem_cons h1
  rw [hdrop, List.flatMap_cons] at hlen hx
  obtain ⟨pg, ps, wh, bb⟩ := c
  obtain ⟨q1, q2, q3, q4, _⟩ := hcok
  dsimp only at q1 q2 q3 q4 hcb
  obtain ⟨pg, rfl⟩ : ∃ n : Nat, pg = n := ⟨pg.toNat, by omega⟩
  obtain ⟨ps, rfl⟩ : ∃ n : Nat, ps = n := ⟨ps.toNat, by omega⟩
  have henc : encC ⟨pg, ps, wh, bb⟩ = digits 9 pg ++ digits 9 ps ++ [if wh then 1 else 0] ++ (digits 9 bb.length ++ bb) := by simp [encC]
  have hel : (encC ⟨pg, ps, wh, bb⟩).length = (digits 9 pg).length + (digits 9 ps).length + 1 + (digits 9 bb.length).length + bb.length := by rw [henc]; simp; omega
  rw [List.length_append, hel] at hlen
  obtain ⟨id, off, u, e1, e2, u1, u2, u3, s⟩ := chg_at (s.bringS [1, 1]) hc
  dsimp only at e2
  have s := s.bringS [3, 0, 0, 0]
  dsimp only [delA, bringA, getA] at s
  refine WP.loop (WP.has hE (zg rfl (WPs.opT rfl rfl rfl (o_bin rfl rfl bLss) (by simp; omega) ?_)))
  refine zv (zw (zi rfl (WP.skip (zw (WP.block (zg rfl (zo rfl (o_ia (r := .ptr id off) rfl rfl e1) (zl rfl e2 ?_))))))))
  refine WPs.newS s rfl rfl rfl (o_alloc zt54) (fun p7 h s => ?_)
  dsimp only [V.cells, List.length_cons, List.length_nil, Nat.reduceAdd] at s
  refine WPs.stS rfl rfl rfl rfl rfl (s.stA (j := 0) rfl sz54 rfl (by simp only [List.all_cons, List.all_nil, u2]; rfl)) ?_
  intro h s
  dsimp only [setA] at s
  refine zv (zw ?_)
  have s := s.bringS [1, 0]
  dsimp only [bringA, getA, delA] at s
  have s0 := s
  refine WP.drawn [none, none, none, none, none, some (0, 2), some (0, 2), some (0, 2), none, none] rfl (by kernel_rfl) (by kernel_rfl) ?_
  refine zM rfl (zF rfl (fa54_0 _ _) (zL rfl (by exact s.ld (k := 1) rfl ag3 rfl) ?_))
  refine WPt.op rfl rfl rfl (by simp only [isEff, Tryz.underlying35]) (o_conv rfl (by exact cvI Tryz.underlying3 Tryz.underlying35 (wrapU (by omega) (by omega)))) ?_
  refine WPt.any rfl rfl rfl rfl (OpR.call rfl rfl rfl rfl (varint_ct hT s (by omega) (by omega))) ?_
  intro v1 h s
  have s1 := s
  refine zF rfl (fa54_1 _ _) (zL rfl (by exact s.ld (k := 1) rfl ag3 rfl) ?_)
  refine WPt.op rfl rfl rfl (by simp only [isEff, Tryz.underlying35]) (o_conv rfl (by exact cvI Tryz.underlying3 Tryz.underlying35 (wrapU (by omega) (by omega)))) ?_
  refine WPt.any rfl rfl rfl rfl (OpR.call rfl rfl rfl rfl (varint_ct hT s (by omega) (by simp; omega))) ?_
  intro v2 h s
  refine zA rfl ?_
  refine WPt.nil ⟨⟨trivial, trivial, trivial, trivial, trivial, fun _ _ => .inr ⟨rfl, ⟨_, o_fa rfl (fa54_1 _ _)⟩, beqV _ rfl⟩, heaps2 (.inr ⟨rfl, ⟨_, o_load rfl (by exact s0.ld (k := 1) rfl ag3 rfl)⟩, beqV _ rfl⟩) (.inr ⟨rfl, ⟨_, o_load rfl (by exact s1.ld (k := 1) rfl ag3 rfl)⟩, beqV _ rfl⟩), fun _ _ => .inr ⟨rfl, ⟨_, o_conv rfl (by exact cvI Tryz.underlying3 Tryz.underlying35 (wrapU (by omega) (by omega)))⟩, beqV _ rfl⟩, trivial, trivial, trivial⟩, ?_⟩
  have hend : ∀ (h : H) (E : List (Nat × V)) (sv' : V), Sat h (bufA sv' (l ++ encC ⟨pg, ps, wh, bb⟩) :: .arr 4 ch cs :: chgA cs chs :: S) → Has E [(1, .ptr p1 0), (3, sv'), (37, ch), (38, .int .i64 chs.length), (39, .int .i64 ((i : Int) + 1))] → WP ⟨Tryz.prog, told⟩ 63 (.loop bdL) E h Q := by
   intro h E sv' s hE
   refine ih (i + 1) sv' _ h E Q (by omega) (by rw [List.length_append, hel]; omega) s hE (fun E' h' sv2 hl' s' => hx E' h' sv2 hl' ?_)
   rw [List.append_assoc] at s'
   exact s'
  have hlp := digits_len 9 pg
  have hlq := digits_len 9 ps
  refine zg rfl (za rfl (zv (zw (zg rfl (zf rfl (fa54_2 _ _) ?_)))))
  have hwc : wh = false ∨ wh = true := by cases wh <;> simp
  rcases hwc with hw | hw
  ·skip
   refine WPs.opF rfl rfl rfl (o_load rfl (by exact s.ld (k := 1) rfl ag4 rfl)) (hw) ?_
   refine zv (zj rfl (WP.skip ?_))
   have s0 := s
   have hv2 := beqView (s.buf (k := 0) rfl).view
   refine WP.drawn [some (0, 2), none, none, none, some (0, 3), some (0, 3), none, none] rfl (by kernel_rfl) (by kernel_rfl) ?_
   refine zM rfl (zM rfl (WPt.any rfl rfl rfl rfl (OpR.byteS (n := 0) rfl s rfl rfl rfl (by decide)) ?_))
   intro v3 h s
   have s := s.bringS [1, 1, 0]
   dsimp only [bringA, getA, delA] at s
   have s1 := s
   refine WPt.any rfl rfl rfl rfl (OpR.appB rfl (s.bringS [0, 1]) (rd_buf _ _) rfl rfl rfl rfl (by simp; omega)) ?_
   intro v4 h s
   have s := s.del 1
   dsimp only [delA, bringA] at s
   have s2 := s
   refine zF rfl (fa54_3 _ _) (zL rfl (by exact s.ld (k := 1) rfl ag32 rfl) ?_)
   refine WPt.any rfl rfl rfl rfl (OpR.call rfl rfl rfl rfl (text_ct hT (s.bringS [0, 1]) (rd_ro _ _) (by simp; omega))) ?_
   intro v5 h s
   dsimp only [delA, bringA] at s
   refine zA rfl ?_
   refine WPt.nil ⟨⟨fun _ _ => .inr ⟨rfl, ⟨_, o_move rfl⟩, hv2⟩, trivial, trivial, trivial, fun _ _ => .inr ⟨rfl, ⟨_, o_fa rfl (fa54_3 _ _)⟩, beqV _ rfl⟩, heaps3 (.inr ⟨rfl, ⟨_, o_load rfl (by exact s0.ld (k := 1) rfl ag32 rfl)⟩, u3⟩) (.inr ⟨rfl, ⟨_, o_load rfl (by exact s1.ld (k := 1) rfl ag32 rfl)⟩, u3⟩) (.inr ⟨rfl, ⟨_, o_load rfl (by exact s2.ld (k := 1) rfl ag32 rfl)⟩, u3⟩), trivial, trivial, trivial⟩, ?_⟩
   refine zr rfl (zb rfl (by exact bAdd (wrapS (by omega) (by omega))) ?_)
   refine zm rfl (zv ?_)
   refine hend _ _ v5 ?_ ?_
   ·rw [henc, hw]
    have s := (s.del 1).del 1
    dsimp only [delA] at s
    simpa [List.append_assoc] using s
   ·exact ⟨rfl, rfl, rfl, rfl, rfl, trivial⟩
  ·skip
   refine WPs.opT rfl rfl rfl (o_load rfl (by exact s.ld (k := 1) rfl ag4 rfl)) (hw) ?_
   refine zv (zi rfl (zr rfl (za rfl (zv ?_))))
   have s0 := s
   have hv2 := beqView (s.buf (k := 0) rfl).view
   refine WP.drawn [some (0, 2), none, none, none, some (0, 3), some (0, 3), none, none] rfl (by kernel_rfl) (by kernel_rfl) ?_
   refine zM rfl (zM rfl (WPt.any rfl rfl rfl rfl (OpR.byteS (n := 1) rfl s rfl rfl rfl (by decide)) ?_))
   intro v3 h s
   have s := s.bringS [1, 1, 0]
   dsimp only [bringA, getA, delA] at s
   have s1 := s
   refine WPt.any rfl rfl rfl rfl (OpR.appB rfl (s.bringS [0, 1]) (rd_buf _ _) rfl rfl rfl rfl (by simp; omega)) ?_
   intro v4 h s
   have s := s.del 1
   dsimp only [delA, bringA] at s
   have s2 := s
   refine zF rfl (fa54_3 _ _) (zL rfl (by exact s.ld (k := 1) rfl ag32 rfl) ?_)
   refine WPt.any rfl rfl rfl rfl (OpR.call rfl rfl rfl rfl (text_ct hT (s.bringS [0, 1]) (rd_ro _ _) (by simp; omega))) ?_
   intro v5 h s
   dsimp only [delA, bringA] at s
   refine zA rfl ?_
   refine WPt.nil ⟨⟨fun _ _ => .inr ⟨rfl, ⟨_, o_move rfl⟩, hv2⟩, trivial, trivial, trivial, fun _ _ => .inr ⟨rfl, ⟨_, o_fa rfl (fa54_3 _ _)⟩, beqV _ rfl⟩, heaps3 (.inr ⟨rfl, ⟨_, o_load rfl (by exact s0.ld (k := 1) rfl ag32 rfl)⟩, u3⟩) (.inr ⟨rfl, ⟨_, o_load rfl (by exact s1.ld (k := 1) rfl ag32 rfl)⟩, u3⟩) (.inr ⟨rfl, ⟨_, o_load rfl (by exact s2.ld (k := 1) rfl ag32 rfl)⟩, u3⟩), trivial, trivial, trivial⟩, ?_⟩
   refine zr rfl (zb rfl (by exact bAdd (wrapS (by omega) (by omega))) ?_)
   refine zm rfl (zv ?_)
   refine hend _ _ v5 ?_ ?_
   ·rw [henc, hw]
    have s := (s.del 1).del 1
    dsimp only [delA] at s
    simpa [List.append_assoc] using s
   ·exact ⟨rfl, rfl, rfl, rfl, rfl, trivial⟩
theorem wbody_ct (hT : W told) {kd : Nat} {tx pv nx : Nat} {dt ch : V} {cs : List V} {data : List Nat} {chs : List Chg} (s : Sat h (X :: .arr 4 ch cs :: chgA cs chs :: S)) (hX : Ent X (rdB dt data)) (hg : goodR kd chs = true) (hfit : chsFit chs)
  (htx : tx < 18446744073709551616) (hpv : pv < 18446744073709551616) (hnx : nx < 18446744073709551616) (hlen : data.length + (chs.flatMap encC).length ≤ 70368744177664) :
  Call ⟨Tryz.prog, told⟩ 121 [.agg (rcC kd tx pv nx dt ch)] h fun r h' => Sat h' (bufA r (bodyG kd tx pv nx data chs) :: X :: .arr 4 ch cs :: chgA cs chs :: S) := by
 have hch := s.arrV (j := 1) rfl
 have hdt := s.viewX (k := 0) rfl hX
 have hdb := beqView hdt
 have hst := rcC_st (kd := kd) (tx := tx) (pv := pv) (nx := nx) hdt.cells.2 hch.2.1
 have hk : 1 ≤ kd ∧ kd ≤ 9 := by simp [goodR] at hg; omega
 have hok : ∀ c ∈ chs, c.Ok := by
  simp only [goodR, Bool.and_eq_true, List.all_eq_true, decide_eq_true_eq] at hg
  exact hg.2
 have hm := hfit.1
 have h1 := digits_len 9 tx
 have h2 := digits_len 9 pv
 have h3 := digits_len 9 nx
 have h4 := digits_len 9 data.length
 have h5 := digits_len 9 chs.length
 refine Call.of_wp (hT.free _ rfl) Tryz.func121 rfl rfl (zg rfl (WPs.newS s rfl rfl rfl (o_box rfl hst) ?_))
 intro p1 h s
 dsimp only [V.cells] at s
 refine za rfl (zv (zg rfl (zf rfl (fa40_0 _ _) (zl rfl (by exact s.ld (k := 0) rfl ag3 rfl) ?_))))
 refine zo rfl (o_conv rfl (by exact cvI Tryz.underlying3 Tryz.underlying5 (wrapU8 (by omega) (by omega)))) ?_
 refine WPs.any rfl rfl rfl (OpR.byteS (n := kd) rfl s rfl rfl rfl (by omega)) ?_
 intro v3 h s
 refine za rfl (zv (zw (zg rfl (zf rfl (fa40_1 _ _) (zl rfl (by exact s.ld (k := 1) rfl ag35 rfl) ?_)))))
 refine zf rfl (fa40_2 _ _) (zl rfl (by exact s.ld (k := 1) rfl ag35 rfl) ?_)
 refine zf rfl (fa40_3 _ _) (zl rfl (by exact s.ld (k := 1) rfl ag35 rfl) ?_)
 refine zo rfl (o_build rfl (by rw [bv205]; rfl)) ?_
 refine zm rfl (zv (WP.block (WP.loop (zg rfl (WPs.opT rfl rfl rfl (o_bin rfl rfl bLss) (by decide) ?_)))))
 refine zv (zw (zi rfl (WP.skip (zw (WP.block (zg rfl (zo rfl (o_ix rfl rfl (r := .int .u64 (tx : Int)) (by simp only [indexV, Tryz.underlying205, sz35, partV, ag35]; rfl)) ?_)))))))
 refine za rfl (zv (zr rfl (zm rfl (zm rfl (WPs.call rfl rfl rfl rfl rfl rfl rfl (varint_ct hT s (by omega) (by simp only [List.length_append, List.length_cons, List.length_nil]; omega)) ?_)))))
 intro v3 h s
 refine za rfl (zv (zr rfl (zb rfl (by exact bAdd (wrapS (by omega) (by omega))) ?_)))
 refine zm rfl (zv (WP.loop (zg rfl (WPs.opT rfl rfl rfl (o_bin rfl rfl bLss) (by decide) ?_))))
 refine zv (zw (zi rfl (WP.skip (zw (WP.block (zg rfl (zo rfl (o_ix rfl rfl (r := .int .u64 (pv : Int)) (by simp only [indexV, Tryz.underlying205, sz35, partV, ag35]; rfl)) ?_)))))))
 refine za rfl (zv (zr rfl (zm rfl (zm rfl (WPs.call rfl rfl rfl rfl rfl rfl rfl (varint_ct hT s (by omega) (by simp only [List.length_append, List.length_cons, List.length_nil]; omega)) ?_)))))
 intro v3 h s
 refine za rfl (zv (zr rfl (zb rfl (by exact bAdd (wrapS (by omega) (by omega))) ?_)))
 refine zm rfl (zv (WP.loop (zg rfl (WPs.opT rfl rfl rfl (o_bin rfl rfl bLss) (by decide) ?_))))
 refine zv (zw (zi rfl (WP.skip (zw (WP.block (zg rfl (zo rfl (o_ix rfl rfl (r := .int .u64 (nx : Int)) (by simp only [indexV, Tryz.underlying205, sz35, partV, ag35]; rfl)) ?_)))))))
 refine za rfl (zv (zr rfl (zm rfl (zm rfl (WPs.call rfl rfl rfl rfl rfl rfl rfl (varint_ct hT s (by omega) (by simp only [List.length_append, List.length_cons, List.length_nil]; omega)) ?_)))))
 intro v3 h s
 refine za rfl (zv (zr rfl (zb rfl (by exact bAdd (wrapS (by omega) (by omega))) ?_)))
 refine zm rfl (zv (WP.loop (zg rfl (WPs.opF rfl rfl rfl (o_bin rfl rfl bLss) (by decide) ?_))))
 refine zv (zw (zj rfl (WP.exit (zw ?_))))
 dsimp only [List.cons_append, List.nil_append] at s
 have s0 := s
 have hb0 := beqView (s.buf (k := 0) rfl).view
 refine WP.drawn [none, none, none, none, some (0, 2), some (0, 2), some (0, 2), some (0, 2), none, none] rfl (by kernel_rfl) (by kernel_rfl) ?_
 refine zM rfl (zF rfl (fa40_4 _ _) (zL rfl (by exact s.ld (k := 1) rfl ag32 rfl) ?_))
 refine WPt.any rfl rfl rfl rfl (OpR.call rfl rfl rfl rfl (text_ct hT (s.bringS [0, 1]) hX (by simp only [List.length_append, List.length_cons, List.length_nil]; omega))) ?_
 intro v4 h s
 have s := s.bringS [0, 1, 0]
 dsimp only [List.cons_append, delA, bringA, getA] at s
 have s1 := s
 refine zF rfl (fa40_5 _ _) (zL rfl (by exact s.ld (k := 1) rfl ag38 rfl) ?_)
 refine zO rfl (o_len rfl rfl rfl (s.chgLen (j1 := 3) (j2 := 4) rfl rfl Tryz.underlying38)) (WPt.op rfl rfl rfl (by simp only [isEff, Tryz.underlying35]) (o_conv rfl (by exact cvI Tryz.underlying3 Tryz.underlying35 (wrapU (by omega) (by omega)))) ?_)
 refine WPt.any rfl rfl rfl rfl (OpR.call rfl rfl rfl rfl (varint_ct hT s (by omega) (by simp only [List.length_append, List.length_cons, List.length_nil]; omega))) ?_
 intro v5 h s
 dsimp only [List.cons_append] at s
 refine zA rfl ?_
 refine WPt.nil ⟨⟨trivial, trivial, trivial, trivial, fun _ _ => .inr ⟨rfl, ⟨_, o_fa rfl (fa40_5 _ _)⟩, beqV _ rfl⟩, heaps2 (.inr ⟨rfl, ⟨_, o_load rfl (by exact s0.ld (k := 1) rfl ag38 rfl)⟩, hch.2.2⟩) (.inr ⟨rfl, ⟨_, o_load rfl (by exact s1.ld (k := 1) rfl ag38 rfl)⟩, hch.2.2⟩), heaps2 (.inr ⟨rfl, ⟨_, o_len rfl rfl rfl (s0.chgLen (j1 := 3) (j2 := 4) rfl rfl Tryz.underlying38)⟩, beqV _ rfl⟩) (.inr ⟨rfl, ⟨_, o_len rfl rfl rfl (s1.chgLen (j1 := 3) (j2 := 4) rfl rfl Tryz.underlying38)⟩, beqV _ rfl⟩), fun _ _ => .inr ⟨rfl, ⟨_, o_conv rfl (by exact cvI Tryz.underlying3 Tryz.underlying35 (wrapU (by omega) (by omega)))⟩, beqV _ rfl⟩, trivial, trivial, trivial⟩, ?_⟩
 refine zw (zg rfl (zf rfl (fa40_5 _ _) (zl rfl (by exact s.ld (k := 1) rfl ag38 rfl) ?_)))
 refine zo rfl (o_len rfl rfl rfl (s.chgLen (j1 := 3) (j2 := 4) rfl rfl Tryz.underlying38)) (zm rfl (zv (WP.block ?_)))
 have s := s.bringS [0, 2, 2, 1]
 dsimp only [bringA, getA, delA] at s
 refine body_loop hT hok hfit chs.length 0 v5 _ _ _ _ (by omega) (by rw [List.drop_zero]; simp only [List.length_append, List.length_cons, List.length_nil]; omega) s ⟨rfl, rfl, rfl, rfl, rfl, trivial⟩ (fun E' h' sv' hE' s' => ?_)
 refine WP.has (F := [(3, sv')]) ⟨hE', trivial⟩ (zg rfl (zm rfl (za rfl (zv ?_))))
 refine WP.ret ⟨trivial, _, rfl, ?_⟩
 have s'' := (s'.bringS [0, 2, 0, 0]).del 4
 dsimp only [List.drop, List.cons_append, bringA, getA, delA] at s''
 simpa [bodyG, List.append_assoc] using s''
end
end Go.Proofs.YtconhghphklfjaaGreat.Am
namespace Go.Proofs.YtconhghphklfjaaGreat.Am
open Go
def recG (lsn : Nat) (b : List Nat) : List Nat := le 4 b.length ++ le 4 (sumAt lsn b) ++ b
theorem recG_len (lsn : Nat) (b : List Nat) : (recG lsn b).length = 8 + b.length := by simp [recG, le_len]; omega
theorem info_int : ∃ i, Tryz.prog.info? 3 = some i ∧ i.size = 1 ∧ i.bytes = 8 :=
 ⟨_, (show Tryz.prog.info? 3 = some ((Tryz.prog.info? 3).getD default) by kernel_rfl), by kernel_rfl, by kernel_rfl⟩
section
variable {told : Nat → Option (List V → H → Option (V × H))} {h : H} {S : List Assn} {X : Assn} {k q p : Nat} {v w : V} {l m : List Nat} {μ : Lg} {δ : Dk}
theorem summed_ct (hT : W told) {n : Nat} (s : Sat h S) (hk : getA S k = some X) (hX : Ent X (rdB v l)) (hl : l.length ≤ 4611686018427387904) :
  Call ⟨Tryz.prog, told⟩ 100 [.int .u64 (n : Int), v] h fun r h' => r = .int .u32 (sumAt n l : Nat) ∧ Sat h' S :=
 (summed_do hT.std s.wf (s.viewX hk hX) hl).mono fun _ _ ⟨h1, h2⟩ => ⟨h1, s.keep h2⟩
structure RecFit (tx pv nx : Nat) (data : List Nat) (chs : List Chg) : Prop where
 fit : chsFit chs
 tx : tx < 18446744073709551616
 pv : pv < 18446744073709551616
 nx : nx < 18446744073709551616
 len : data.length + (chs.flatMap encC).length ≤ 70368744177664
theorem wBytes_ct (hT : W told) {kd : Int} {tx pv nx lsn : Nat} {dt ch : V} {cs : List V} {data : List Nat} {chs : List Chg} (s : Sat h (X :: .arr 4 ch cs :: chgA cs chs :: S)) (hX : Ent X (rdB dt data)) (hfit : RecFit tx pv nx data chs) :
  Call ⟨Tryz.prog, told⟩ 88 [.agg (rcC kd tx pv nx dt ch), .int .u64 (lsn : Int)] h fun r h' =>
  (goodR kd chs = false ∧ r = .tup [.sl0, .int .i64 1] ∧ Sat h' (X :: .arr 4 ch cs :: chgA cs chs :: S)) ∨
  (goodR kd chs = true ∧ 1048576 < (bodyG kd tx pv nx data chs).length ∧ r = .tup [.sl0, .int .i64 2] ∧ Sat h' (X :: .arr 4 ch cs :: chgA cs chs :: S)) ∨
  (goodR kd chs = true ∧ (bodyG kd tx pv nx data chs).length ≤ 1048576 ∧ ∃ u, r = .tup [u, .int .i64 0] ∧ Sat h' (bufA u (recG lsn (bodyG kd tx pv nx data chs)) :: X :: .arr 4 ch cs :: chgA cs chs :: S)) := by
 have hch := s.arrV (j := 1) rfl
 have hdt := s.viewX (k := 0) rfl hX
 have hst := rcC_st (kd := kd) (tx := tx) (pv := pv) (nx := nx) hdt.cells.2 hch.2.1
 refine Call.of_wp (hT.free _ rfl) Tryz.func88 rfl rfl (zg rfl (WPs.newS s rfl rfl rfl (o_box rfl hst) ?_))
 intro p1 h s
 dsimp only [V.cells] at s
 refine za rfl (za rfl (zv (zw (zg rfl (zl rfl (by exact s.ldA (k := 0) rfl ag40 sz40) ?_)))))
 refine WPs.call rfl rfl rfl rfl rfl rfl rfl (wgood_ct hT (s.bringS [2, 2]) hdt.cells.2 hfit.fit) ?_
 rintro r h' ⟨rfl, s⟩
 dsimp only [bringA, getA, delA] at s
 cases hg : goodR kd chs with
 | false =>
  refine zo rfl (o_un rfl rfl) (zv (zi rfl (zg rfl (za rfl (za rfl (zv ?_))))))
  refine WP.ret ⟨trivial, _, rfl, ?_⟩
  exact .inl ⟨rfl, rfl, (s.bringS [3, 0, 0]).del 3⟩
 | true =>
  refine zo rfl (o_un rfl rfl) (zv (zj rfl (WP.skip (zg rfl (zl rfl (by exact s.ldA (k := 2) rfl ag40 sz40) ?_)))))
  have hk : ∃ n : Nat, kd = n := ⟨kd.toNat, by simp [goodR] at hg; omega⟩
  obtain ⟨kd, rfl⟩ := hk
  refine WPs.call rfl rfl rfl rfl rfl rfl rfl (wbody_ct hT (s.bringS [3, 0, 0]) hX hg hfit.fit hfit.tx hfit.pv hfit.nx hfit.len) ?_
  intro u h s
  dsimp only [bringA, getA, delA] at s
  have hbl : (bodyG kd tx pv nx data chs).length < 9223372036854775808 := by
   have h1 := digits_len 9 tx
   have h2 := digits_len 9 pv
   have h3 := digits_len 9 nx
   have h4 := digits_len 9 data.length
   have h5 := digits_len 9 chs.length
   have h6 := hfit.len
   simp only [bodyG, List.length_append, List.length_cons, List.length_nil]
   omega
  generalize hbe : bodyG kd tx pv nx data chs = bd at s hbl ⊢
  refine za rfl (zv (zw (zg rfl (zm rfl (zo rfl (o_len rfl rfl rfl (by exact len_view Tryz.underlying32 (s.viewX (k := 0) rfl (rd_buf _ _)))) ?_)))))
  by_cases hbig : 1048576 < bd.length
  ·skip
   refine WPs.opT rfl rfl rfl (o_bin rfl rfl bGtr) (by simp; omega) ?_
   refine zv (zi rfl (zg rfl (za rfl (za rfl (zv ?_)))))
   refine WP.ret ⟨trivial, _, rfl, ?_⟩
   exact .inr (.inl ⟨rfl, hbig, rfl, (s.del 4).del 0⟩)
  ·skip
   refine WPs.opF rfl rfl rfl (o_bin rfl rfl bGtr) (by simp; omega) ?_
   refine zv (zj rfl (WP.skip (zg rfl (zm rfl (zo rfl (o_len rfl rfl rfl (by exact len_view Tryz.underlying32 (s.viewX (k := 0) rfl (rd_buf _ _)))) ?_)))))
   refine zb rfl (by exact bAdd (wrapS (by omega) (by omega))) ?_
   refine WPs.any rfl rfl rfl (OpR.make0S (c := 8 + bd.length) rfl s rfl rfl rfl rfl (by omega)) ?_
   intro v h s
   refine zm rfl (zo rfl (o_len rfl rfl rfl (by exact len_view Tryz.underlying32 (s.viewX (k := 1) rfl (rd_buf _ _)))) ?_)
   refine zo rfl (o_conv rfl (by exact cvI Tryz.underlying3 Tryz.underlying35 (wrapU (by omega) (by omega)))) ?_
   refine WPs.call rfl rfl rfl rfl rfl rfl rfl (lay_ct (z := 4) hT s (by decide) (by simp)) ?_
   intro v h s
   have hlt := (s.buf (k := 1) rfl).1
   refine za rfl (zv (zg rfl (zm rfl (zm rfl (zm rfl (WPs.call rfl rfl rfl rfl rfl rfl rfl (summed_ct (n := lsn) hT s (k := 1) rfl (rd_buf _ _) (by omega)) ?_))))))
   rintro r h ⟨rfl, s⟩
   have hsl := sumAt_lt (lsn := lsn) hlt
   refine zo rfl (o_conv rfl (by exact cvI Tryz.underlying155 Tryz.underlying35 (wrapU (by omega) (by omega)))) ?_
   refine WPs.call rfl rfl rfl rfl rfl rfl rfl (lay_ct (z := 4) hT s (by decide) (by simp [le_len])) ?_
   intro v h s
   refine za rfl (zv (zg rfl (zm rfl (zm rfl (WPs.any rfl rfl rfl (OpR.appB rfl s (rd_buf _ _) rfl rfl rfl rfl (by simp only [List.length_append, le_len, List.length_nil]; omega)) ?_)))))
   intro v h s
   refine za rfl (za rfl (zv ?_))
   refine WP.ret ⟨trivial, _, rfl, ?_⟩
   refine .inr (.inr ⟨rfl, by omega, v, rfl, ?_⟩)
   have s := (s.del 5).del 1
   dsimp only [delA] at s
   simpa [recG, List.append_assoc] using s
def Lg.app (μ : Lg) (b : List Nat) : Lg := { μ with b := μ.b ++ b, starts := μ.starts ++ [μ.b.length] }
theorem lAppend_ct (hT : W told) {kd : Int} {tx pv nx : Nat} {dt ch : V} {cs : List V} {data : List Nat} {chs : List Chg} (s : Sat h (isLg q p μ :: isDk p δ :: X :: .arr 4 ch cs :: chgA cs chs :: S)) (hX : Ent X (rdB dt data)) (hfit : RecFit tx pv nx data chs)
  (hμ : μ.Ok) (hf : δ.fuse < 4294967296) (hl : δ.log.length ≤ 16777216) (hr : δ.room ≤ 16777216) :
  Call ⟨Tryz.prog, told⟩ 48 [.ptr q 0, .agg (rcC kd tx pv nx dt ch)] h fun r h' =>
  (∃ e : Int, r = .tup [.int .u64 0, .int .i64 e] ∧ ((goodR kd chs = false ∧ e = 1) ∨ (goodR kd chs = true ∧ 1048576 < (bodyG kd tx pv nx data chs).length ∧ e = 2) ∨ (goodR kd chs = true ∧ (bodyG kd tx pv nx data chs).length ≤ 1048576 ∧ δ.dead = true ∧ e = 9) ∨
    (goodR kd chs = true ∧ (bodyG kd tx pv nx data chs).length ≤ 1048576 ∧ δ.dead = false ∧ δ.room < δ.log.length + (recG (μ.base + μ.b.length) (bodyG kd tx pv nx data chs)).length ∧ e = 7)) ∧ Sat h' (isLg q p μ :: isDk p δ :: X :: .arr 4 ch cs :: chgA cs chs :: S)) ∨
  (goodR kd chs = true ∧ (bodyG kd tx pv nx data chs).length ≤ 1048576 ∧ δ.dead = false ∧ δ.log.length + (recG (μ.base + μ.b.length) (bodyG kd tx pv nx data chs)).length ≤ δ.room ∧ δ.fuse = 0 ∧ r = .tup [.int .u64 0, .int .i64 9] ∧
   Sat h' (isLg q p μ :: isDk p { δ.die with tail := recG (μ.base + μ.b.length) (bodyG kd tx pv nx data chs) } :: X :: .arr 4 ch cs :: chgA cs chs :: S)) ∨
  (goodR kd chs = true ∧ (bodyG kd tx pv nx data chs).length ≤ 1048576 ∧ δ.dead = false ∧ δ.log.length + (recG (μ.base + μ.b.length) (bodyG kd tx pv nx data chs)).length ≤ δ.room ∧ δ.fuse ≠ 0 ∧ r = .tup [.int .u64 ((μ.base + μ.b.length : Nat) : Int), .int .i64 0] ∧
   Sat h' (isLg q p (μ.app (recG (μ.base + μ.b.length) (bodyG kd tx pv nx data chs))) :: isDk p { δ.cnt with log := δ.log ++ recG (μ.base + μ.b.length) (bodyG kd tx pv nx data chs) } :: X :: .arr 4 ch cs :: chgA cs chs :: S)) := by
 have hch := s.arrV (j := 3) rfl
 have hdt := s.viewX (k := 2) rfl hX
 have hst := rcC_st (kd := kd) (tx := tx) (pv := pv) (nx := nx) hdt.cells.2 hch.2.1
 have hsize := hμ.size
 refine Call.of_wp (hT.free _ rfl) Tryz.func48 rfl rfl (zg rfl (WPs.newS s rfl rfl rfl (o_box rfl hst) ?_))
 intro p1 h s
 dsimp only [V.cells] at s
 have s := s.bringS [1, 0]
 dsimp only [bringA, getA, delA] at s
 refine za rfl (za rfl (zv (zg rfl (zm rfl (WPs.call rfl rfl rfl rfl rfl rfl rfl (lEnd_ct hT s hμ.size) ?_)))))
 rintro v h' ⟨rfl, rfl⟩
 refine za rfl (zv (zg rfl (zl rfl (by exact s.ldA (k := 1) rfl ag40 sz40) ?_)))
 refine zm rfl (WPs.call rfl rfl rfl rfl rfl rfl rfl (wBytes_ct (lsn := μ.base + μ.b.length) hT (s.bringS [3, 3, 3]) hX hfit) ?_)
 generalize hrc : recG (μ.base + μ.b.length) (bodyG kd tx pv nx data chs) = rc
 have hrl : rc.length = 8 + (bodyG kd tx pv nx data chs).length := by rw [← hrc, recG_len]
 rintro r h' (⟨hg, rfl, s⟩ | ⟨hg, hbig, rfl, s⟩ | ⟨hg, hsm, u, rfl, s⟩)
 ·dsimp only [bringA, getA, delA] at s
  refine zm rfl (ze rfl (ze rfl (za rfl (za rfl (zv (zw (zg rfl (zm rfl (WPs.opT rfl rfl rfl (o_bin rfl rfl bNeq) (rfl) (zv (zi rfl (zg rfl (zm rfl (za rfl (za rfl (zv ?_))))))))))))))))
  refine WP.ret ⟨trivial, _, rfl, ?_⟩
  exact .inl ⟨1, rfl, .inl ⟨hg, rfl⟩, (s.bringS [3, 4, 0, 0, 0]).del 5⟩
 ·dsimp only [bringA, getA, delA] at s
  refine zm rfl (ze rfl (ze rfl (za rfl (za rfl (zv (zw (zg rfl (zm rfl (WPs.opT rfl rfl rfl (o_bin rfl rfl bNeq) (rfl) (zv (zi rfl (zg rfl (zm rfl (za rfl (za rfl (zv ?_))))))))))))))))
  refine WP.ret ⟨trivial, _, rfl, ?_⟩
  exact .inl ⟨2, rfl, .inr (.inl ⟨hg, hbig, rfl⟩), (s.bringS [3, 4, 0, 0, 0]).del 5⟩
 ·dsimp only [bringA, getA, delA] at s
  have hlt := (s.buf (k := 0) rfl).1
  obtain ⟨bid, _, cap, _, rfl, _⟩ := s.openBuf (by omega)
  obtain ⟨bv, sv, s⟩ := isLg_iff.1 (s.bringS [4])
  dsimp only [bringA, getA, delA] at s
  refine zm rfl (ze rfl (ze rfl (za rfl (za rfl (zv (zw (zg rfl (zm rfl (WPs.opF rfl rfl rfl (o_bin rfl rfl bNeq) (rfl) (zv (zj rfl (WP.skip (zw (zg rfl (zm rfl (zn rfl (zf rfl (fa111_0 _ _) (zl rfl (by exact s.ld (k := 0) rfl ag23 rfl) ?_))))))))))))))))))
  refine zm rfl ?_
  have s := s.bringS [8, 3]
  dsimp only [bringA, getA, delA] at s
  refine WPs.call rfl rfl rfl rfl rfl rfl rfl (dAppend_ct hT s (rd_buf _ _) (by omega) hf (by omega) (by omega)) ?_
  rintro r h (⟨hd, rfl, s⟩ | ⟨hd, hfull, rfl, s⟩ | ⟨hd, hfits, h0, rfl, s⟩ | ⟨hd, hfits, h0, rfl, s⟩)
  ·refine WPs.op rfl rfl rfl (o_assign rfl) ?_
   refine zv (zg rfl (zm rfl (WPs.opT rfl rfl rfl (o_bin rfl rfl bNeq) (rfl) (zv (zi rfl (zg rfl (zm rfl (za rfl (za rfl (zv ?_))))))))))
   refine WP.ret ⟨trivial, _, rfl, ?_⟩
   exact .inl ⟨9, rfl, .inr (.inr (.inl ⟨hg, hsm, hd, rfl⟩)), (isLg_iff.2 ⟨bv, sv, ((s.bringS [2, 2, 2, 0, 1, 1, 1]).del 8).del 7⟩)⟩
  ·skip
   refine za rfl (zv (zg rfl (zm rfl (WPs.opT rfl rfl rfl (o_bin rfl rfl bNeq) (rfl) (zv (zi rfl (zg rfl (zm rfl (za rfl (za rfl (zv ?_)))))))))))
   refine WP.ret ⟨trivial, _, rfl, ?_⟩
   exact .inl ⟨7, rfl, .inr (.inr (.inr ⟨hg, hsm, hd, by omega, rfl⟩)), (isLg_iff.2 ⟨bv, sv, ((s.bringS [2, 2, 2, 0, 1, 1, 1]).del 8).del 7⟩)⟩
  ·skip
   refine za rfl (zv (zg rfl (zm rfl (WPs.opT rfl rfl rfl (o_bin rfl rfl bNeq) (rfl) (zv (zi rfl (zg rfl (zm rfl (za rfl (za rfl (zv ?_)))))))))))
   refine WP.ret ⟨trivial, _, rfl, ?_⟩
   exact .inr (.inl ⟨hg, hsm, hd, hfits, h0, rfl, (isLg_iff.2 ⟨bv, sv, ((s.bringS [2, 2, 2, 0, 1, 1, 1]).del 8).del 7⟩)⟩)
  ·skip
   have s := s.bringS [2, 2, 2, 1, 0, 0, 0, 0]
   dsimp only [bringA, getA, delA] at s
   refine za rfl (zv (zg rfl (zm rfl (WPs.opF rfl rfl rfl (o_bin rfl rfl bNeq) (rfl) (zv (zj rfl (WP.skip (zw ?_))))))))
   have s0 := s
   have hbb := beqView (s.buf (k := 1) rfl).view
   have hsb := (s.arrV (j := 2) rfl).2.2
   refine WP.drawn [some (0, 3), some (0, 2), some (0, 2), some (0, 2), some (0, 2), none, none, none, none, none, none, none, none, none, none] rfl (by kernel_rfl) (by kernel_rfl) ?_
   refine zM rfl (zM rfl (zN rfl (zF rfl (fa111_3 _ _) (zL rfl (by exact s.ld (k := 0) rfl ag98 rfl) ?_))))
   refine zM rfl (zN rfl (zF rfl (fa111_2 _ _) (zL rfl (by exact s.ld (k := 0) rfl ag32 rfl) ?_)))
   refine zO rfl (o_len rfl rfl rfl (by exact len_view Tryz.underlying32 (s.viewX (k := 1) rfl (rd_buf _ _)))) ?_
   obtain ⟨i1, hi1, hi2, hi3⟩ := info_int
   obtain ⟨iv, h1, e1, s1⟩ := sat_bs1 (P := Tryz.prog) (k := 1) (x := .int .i64 (μ.b.length : Int)) s Tryz.underlying98 zt3 sz3 rfl (by decide) (by decide) rfl rfl
   dsimp only [V.cells] at s1
   refine WPt.any rfl rfl rfl rfl (OpR.of (R := fun v h' => v = iv ∧ h' = h1) (o_bs rfl e1) ⟨rfl, rfl⟩) ?_
   rintro v h' ⟨rfl, rfl⟩
   have hmany := hμ.many
   obtain ⟨sv', h2, e2, s2⟩ := sat_appArr (s1.bringS [3, 0]) Tryz.underlying98 hi1 zt3 hi2 (by omega) rfl (by decide) (by simp only [intsL_len, List.length_cons, List.length_nil]; omega)
   dsimp only [bringA, getA, delA] at s2
   refine WPt.any rfl rfl rfl rfl (OpR.of (R := fun v h' => v = sv' ∧ h' = h2) (o_app rfl rfl e2) ⟨rfl, rfl⟩) ?_
   rintro v h' ⟨rfl, rfl⟩
   have hv := s2.arrV (j := 0) rfl
   refine zN rfl (zF rfl (fa111_3 _ _) (WPt.any0 rfl rfl rfl (OpR.stS rfl rfl rfl (s2.st1 (k := 2) rfl sz98 rfl (by decide) hv.1 hv.2.1)) ?_))
   rintro v h ⟨rfl, s⟩
   dsimp only [lgC, rcC, List.length_cons, List.length_nil, Nat.reduceAdd, List.set, setA] at s
   refine WPt.nil ⟨⟨fun _ _ => .inr ⟨rfl, ⟨_, o_move rfl⟩, beqV _ rfl⟩, fun _ _ => .inr ⟨rfl, ⟨_, o_move rfl⟩, beqV _ rfl⟩, fun _ _ => .inr ⟨rfl, ⟨_, o_nil rfl⟩, beqV _ rfl⟩, fun _ _ => .inr ⟨rfl, ⟨_, o_fa rfl (fa111_3 _ _)⟩, beqV _ rfl⟩, heaps2 (.inr ⟨rfl, ⟨_, o_load rfl (by exact s0.ld (k := 0) rfl ag98 rfl)⟩, hsb⟩) (.inr ⟨rfl, ⟨_, o_load rfl (by exact s1.ld (k := 1) rfl ag98 rfl)⟩, hsb⟩), trivial, trivial, trivial, trivial, trivial, trivial, trivial, trivial, trivial, trivial, trivial⟩, ?_⟩
   refine zg rfl (zm rfl (zm rfl (zn rfl (zf rfl (fa111_2 _ _) (zl rfl (by exact s.ld (k := 2) rfl ag32 rfl) ?_)))))
   refine zm rfl (WPs.any rfl rfl rfl (OpR.appB rfl (s.bringS [3, 3]) (rd_buf _ _) rfl rfl rfl rfl (by have := hμ.len; omega)) ?_)
   intro bv' h s
   have hv := (s.buf (k := 0) rfl).view.cells
   dsimp only [bringA, getA, delA] at s
   refine zn rfl (zf rfl (fa111_2 _ _) (WPs.stS rfl rfl rfl rfl rfl (s.st1 (k := 4) rfl sz32 rfl (by decide) hv.1 hv.2) ?_))
   intro h s
   dsimp only [Nat.reduceAdd, List.set, setA] at s
   refine zv (zg rfl (zm rfl (za rfl (za rfl (zv ?_)))))
   refine WP.ret ⟨trivial, _, rfl, ?_⟩
   refine .inr (.inr ⟨hg, hsm, hd, hfits, h0, rfl, isLg_iff.2 ⟨bv', v, ?_⟩⟩)
   have s := (((s.bringS [4, 0, 1]).del 4).del 3).del 7
   dsimp only [bringA, getA, delA] at s
   have e : intsL (μ.app rc).starts = intsL μ.starts ++ [.int .i64 (μ.b.length : Int)] := by simp [Lg.app, intsL]
   rw [e]
   exact s
end
end Go.Proofs.YtconhghphklfjaaGreat.Am
