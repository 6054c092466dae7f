/- Whatever groups are done and dropped, written out and checkpointed between, each page is as the groups that were done made it; the conditions are those of the given statement, for arguments that a machine can hold. Part 32 of 49. -/
import Derived.Test.YtconhghphklfjaaGreatP31
namespace Go.Proofs.YtconhghphklfjaaGreat.Am
open Go
structure Fm where
 page : Int
 b : List Nat
 pins : Int
 touch : Bool
 changed : Bool
structure Pl where
 frames : List Fm
 wher : List (Int × Int)
 dirty : List (Int × (Nat × Bool))
 hand : Nat
def fmC (f : Fm) (v : V) : List V := [.int .i64 f.page, v, .int .i64 f.pins, .bool f.touch, .bool f.changed]
def fmA : List V → List Fm → Assn
 | [], [] => .pu True
 | a :: v :: c :: d :: e :: l, x :: m => .an (.an (.pu (a = .int .i64 x.page ∧ c = .int .i64 x.pins ∧ d = .bool x.touch ∧ e = .bool x.changed)) (.rob v x.b)) (fmA l m)
 | _, _ => .pu False
theorem Pers.fm : ∀ (m : List Fm) (l : List V), Pers (fmA l m) := by
 intro m
 induction m with
 | nil => intro l; rcases l with _ | ⟨a, _ | ⟨b, _ | ⟨c, _ | ⟨d, _ | ⟨e, l⟩⟩⟩⟩⟩ <;> exact Pers.pu _
 | cons x m ih => intro l; rcases l with _ | ⟨a, _ | ⟨b, _ | ⟨c, _ | ⟨d, _ | ⟨e, l⟩⟩⟩⟩⟩ <;> first | exact Pers.pu _ | exact Pers.an (Pers.an (Pers.pu _) (Pers.rob _ _)) (ih l)
theorem fmA_split {a b : PM} : ∀ {m : List Fm} {l : List V} {i : Nat} {f : Fm}, (fmA l m).p a b → m[i]? = some f → ∃ pre v post, l = pre ++ (fmC f v ++ post) ∧ pre.length = i * 5 ∧ (Assn.rob v f.b).p a b ∧
  (∀ (f' : Fm) (v' : V) (a' b' : PM), (Assn.rob v' f'.b).p a' b' → PM.le a a' → PM.le b b' → (fmA (pre ++ (fmC f' v' ++ post)) (m.set i f')).p a' b') := by
 intro m
 induction m with
 | nil => intro l i f h hc; simp at hc
 | cons x m ih =>
  intro l i f h hc
  rcases l with _ | ⟨p, _ | ⟨q, _ | ⟨w, _ | ⟨d, _ | ⟨e, l⟩⟩⟩⟩⟩ <;> first | exact h.elim | skip
  obtain ⟨⟨⟨h1, h2, h3, h4⟩, h5⟩, h6⟩ := h
  cases i with
  | zero =>
   simp at hc
   subst hc
   refine ⟨[], q, l, ?_, rfl, h5, fun f' v' a' b' hv ha hb => ⟨⟨⟨rfl, rfl, rfl, rfl⟩, hv⟩, (fmA l m).mono _ _ _ _ ha hb h6⟩⟩
   rw [h1, h2, h3, h4]; rfl
  | succ i =>
   simp at hc
   obtain ⟨pre, v, post, e1, e2, e3, e4⟩ := ih h6 hc
   refine ⟨p :: q :: w :: d :: e :: pre, v, post, ?_, ?_, e3, fun f' v' a' b' hv ha hb => ⟨⟨⟨h1, h2, h3, h4⟩, Assn.mono _ _ _ _ _ ha hb h5⟩, e4 f' v' a' b' hv ha hb⟩⟩
   ·rw [e1]; rfl
   ·simp only [List.length_cons, e2]; omega
theorem fmA_len {a b : PM} : ∀ {m : List Fm} {l : List V}, (fmA l m).p a b → l.length = m.length * 5 := by
 intro m
 induction m with
 | nil => intro l h; rcases l with _ | ⟨a, _ | ⟨b, _ | ⟨c, _ | ⟨d, _ | ⟨e, l⟩⟩⟩⟩⟩ <;> first | rfl | exact h.elim
 | cons x m ih =>
  intro l h
  rcases l with _ | ⟨a, _ | ⟨b, _ | ⟨c, _ | ⟨d, _ | ⟨e, l⟩⟩⟩⟩⟩ <;> first | exact h.elim | skip
  have := ih h.2
  simp only [List.length_cons]
  omega
def framesA (fid : Nat) (m : List Fm) : Assn := xs fun cs : List V => star [pt fid (.cells (m.length * 5) cs false), fmA cs m]
abbrev whA (v : V) (m : List (Int × Int)) : Assn := mapV (fun v x => .pu (v = .int .i64 x)) v m
abbrev diA (v : V) (m : List (Int × (Nat × Bool))) : Assn := mapV (fun v x => .pu (v = .agg [.int .u64 (x.1 : Int), .bool x.2])) v m
def plC (p q fid n : Nat) (wh di : V) (hand : Nat) : List V := [.ptr p 0, .ptr q 0, .sl fid 0 n (.exact n), wh, di, .int .i64 (hand : Int)]
def isPl (r p q : Nat) (π : Pl) : Assn := xs fun fid : Nat => xs fun wh : V => xs fun di : V =>
 star [pt r (.cells 6 (plC p q fid π.frames.length wh di π.hand) false), framesA fid π.frames, whA wh π.wher, diA di π.dirty]
section
variable {P : Program} {h : H} {S : List Assn} {X : Assn} {r q p fid : Nat} {v : V} {π : Pl} {m : List Fm}
theorem isPl_iff : Sat h (isPl r p q π :: S) ↔ ∃ fid wh di, Sat h (pt r (.cells 6 (plC p q fid π.frames.length wh di π.hand) false) :: framesA fid π.frames :: whA wh π.wher :: diA di π.dirty :: S) := by
 simp only [isPl, Sat_xs, Sat_star, List.cons_append, List.nil_append]
theorem framesA_iff : Sat h (framesA fid m :: S) ↔ ∃ cs, Sat h (pt fid (.cells (m.length * 5) cs false) :: fmA cs m :: S) := by
 simp only [framesA, Sat_xs, Sat_star, List.cons_append, List.nil_append]
theorem frame_open {i : Nat} {f : Fm} (s : Sat h (framesA fid m :: S)) (hf : m[i]? = some f) : ∃ pre v post, pre.length = i * 5 ∧ (pre ++ (fmC f v ++ post)).length = m.length * 5 ∧
  Sat h (pt fid (.cells (m.length * 5) (pre ++ (fmC f v ++ post)) false) :: fmA (pre ++ (fmC f v ++ post)) m :: .rob v f.b :: S) := by
 obtain ⟨cs, s⟩ := framesA_iff.1 s
 obtain ⟨a, b, q1, q2, q3⟩ := s.at (k := 1) rfl
 obtain ⟨pre, v, post, e1, e2, e3, _⟩ := fmA_split q3 hf
 have hl := fmA_len q3
 subst e1
 refine ⟨pre, v, post, e2, hl, ?_⟩
 have s1 : Sat h (fmA (pre ++ (fmC f v ++ post)) m :: pt fid (.cells (m.length * 5) (pre ++ (fmC f v ++ post)) false) :: S) := s.bringS [1]
 have s2 := (s1.dup (Pers.fm _ _)).ent (B := .rob v f.b) fun a' b' h' => by
  obtain ⟨pre', v', post', e1', e2', e3', _⟩ := fmA_split h' hf
  have := List.append_inj e1' (by omega)
  obtain ⟨_, h5⟩ := this
  have h6 := congrArg (fun l => l[1]?) h5
  simp [fmC] at h6
  subst h6
  exact e3'
 exact s2.bringS [2, 1, 0]
theorem frame_close {i : Nat} {f f' : Fm} {v' : V} {pre post : List V} {n : Nat} (s : Sat h (pt fid (.cells n (pre ++ (fmC f' v' ++ post)) false) :: fmA (pre ++ (fmC f v ++ post)) m :: .rob v' f'.b :: S)) (hn : n = m.length * 5) (hf : m[i]? = some f) (hp : pre.length = i * 5) : Sat h (framesA fid (m.set i f') :: S) := by
 subst hn
 have s1 : Sat h (fmA (pre ++ (fmC f v ++ post)) m :: .rob v' f'.b :: pt fid (.cells (m.length * 5) (pre ++ (fmC f' v' ++ post)) false) :: S) := s.bringS [1, 1, 0]
 have s2 := s1.two (C := fmA (pre ++ (fmC f' v' ++ post)) (m.set i f')) (Pers.fm _ _) (Pers.rob _ _) fun a b h1 h2 => by
  obtain ⟨pre', v0, post', e1', e2', e3', e4'⟩ := fmA_split h1 hf
  obtain ⟨h3, h4⟩ := List.append_inj e1' (by omega)
  subst h3
  have h5 : post = post' := by
   have := List.append_inj h4 (by simp [fmC])
   exact this.2
  subst h5
  exact e4' f' v' a b h2 (PM.le_refl _) (PM.le_refl _)
 refine framesA_iff.2 ⟨pre ++ (fmC f' v' ++ post), ?_⟩
 rw [List.length_set]
 exact s2.bringS [1]
theorem nth_mid {pre row post : List V} {a j : Nat} {x : V} (hp : pre.length = a) (hj : nth row j = some x) : nth (pre ++ (row ++ post)) (a + j) = some x := by
 rw [nth_eq] at hj ⊢
 have hjl := (List.getElem?_eq_some_iff.1 hj).1
 rw [List.getElem?_append_right (by omega), show a + j - pre.length = j by omega, List.getElem?_append_left hjl, hj]
theorem set_mid {pre row post : List V} {a j : Nat} {x : V} (hp : pre.length = a) (hj : j < row.length) : (pre ++ (row ++ post)).set (a + j) x = pre ++ (row.set j x ++ post) := by
 rw [List.set_append_right _ _ (by omega), show a + j - pre.length = j by omega, List.set_append_left _ _ hj]
theorem Sat.stM {t : TypeId} {k id n a j : Nat} {pre row post : List V} {x : V} (s : Sat h S) (hk : getA S k = some (pt id (.cells n (pre ++ (row ++ post)) false))) (hs : sizeT P t = some 1) (hp : pre.length = a) (hl : (pre ++ (row ++ post)).length = n) (hj : j < row.length) (hv : x.cells = [x]) (hst : storable x = true) :
  ∃ h₁, storeV P h t (.ptr id (a + j)) x = some h₁ ∧ Sat h₁ (setA S k (pt id (.cells n (pre ++ (row.set j x ++ post)) false))) := by
 have := s.st1 (P := P) (t := t) (off := a + j) (v := x) hk hs hl (by rw [← hl]; simp; omega) hv hst
 rwa [set_mid hp hj] at this
theorem Sat.stF {t : TypeId} {k id n a : Nat} {pre row row' post : List V} (s : Sat h S) (hk : getA S k = some (pt id (.cells n (pre ++ (row ++ post)) false))) (hs : sizeT P t = some row'.length) (hp : pre.length = a) (hl : (pre ++ (row ++ post)).length = n) (hr : row'.length = row.length) (hst : row'.all storable = true) :
  ∃ h₁, storeV P h t (.ptr id a) (.agg row') = some h₁ ∧ Sat h₁ (setA S k (pt id (.cells n (pre ++ (row' ++ post)) false))) := by
 have := s.stN (P := P) (t := t) (off := a) (l := row') hk hs hl (by rw [← hl]; simp; omega) hst
 have e : (pre ++ (row ++ post)).take a ++ (row' ++ (pre ++ (row ++ post)).drop (a + row'.length)) = pre ++ (row' ++ post) := by
  rw [List.take_left' hp, List.drop_append, List.drop_eq_nil_of_le (by omega), List.nil_append, show a + row'.length - pre.length = row.length by omega, List.drop_left' rfl]
 rwa [e] at this
theorem ldF {t : TypeId} {k id n a : Nat} {pre row post : List V} (s : Sat h S) (hk : getA S k = some (pt id (.cells n (pre ++ (row ++ post)) false))) (ht : isAggT P t = some true) (hs : sizeT P t = some row.length) (hp : pre.length = a) (hl : (pre ++ (row ++ post)).length = n) : loadV P h t (.ptr id a) = some (.agg row) := by
 rw [ldN ht hs (s.row hk) hl (by rw [← hl]; simp; omega), List.drop_left' hp, List.take_left' rfl]
end
abbrev Eng := Pl × LD
def dirtRec (π : Pl) (n : Int) : Nat := match lookL n π.dirty with
 | some x => x.1
 | none => 0
def outF (ε : Eng) (i : Nat) : Int × Eng := match ε.1.frames[i]? with
 | none => (0, ε)
 | some f => if f.page < 0 ∨ f.changed = false then (0, ε) else if goodL f.b = false then (4, ε) else
  if (forceLD ε.2 (atL f.b 4 8)).1 ≠ 0 then ((forceLD ε.2 (atL f.b 4 8)).1, (ε.1, (forceLD ε.2 (atL f.b 4 8)).2)) else
  if ((forceLD ε.2 (atL f.b 4 8)).2.2.writeF f.page f.b).1 ≠ 0 then (((forceLD ε.2 (atL f.b 4 8)).2.2.writeF f.page f.b).1, (ε.1, ((forceLD ε.2 (atL f.b 4 8)).2.1, ((forceLD ε.2 (atL f.b 4 8)).2.2.writeF f.page f.b).2))) else
  (0, ({ ε.1 with frames := ε.1.frames.set i { f with changed := false }, dirty := putL f.page (dirtRec ε.1 f.page, false) ε.1.dirty }, ((forceLD ε.2 (atL f.b 4 8)).2.1, ((forceLD ε.2 (atL f.b 4 8)).2.2.writeF f.page f.b).2)))
section
variable {told : Nat → Option (List V → H → Option (V × H))} {h : H} {S : List Assn} {X : Assn} {r k q p fid : Nat} {v x wh di : V} {l b : List Nat} {π : Pl} {μ : Lg} {δ : Dk}
theorem out_ct (hT : W told) {i : Nat} {f : Fm} (s : Sat h (pt r (.cells 6 (plC p q fid π.frames.length wh di π.hand) false) :: framesA fid π.frames :: whA wh π.wher :: diA di π.dirty :: isLg q p μ :: isDk p δ :: S)) (hi : π.frames[i]? = some f) (hμ : μ.Ok) (hδ : δ.Ok) (hfl : f.b.length < 1073741824) (hw : δ.waiting.length ≤ 268435456) :
  Call ⟨Tryz.prog, told⟩ 95 [.ptr r 0, .ptr fid (i * 5)] h fun v h' => v = .int .i64 (outF (π, μ, δ) i).1 ∧
   Sat h' (pt r (.cells 6 (plC p q fid (outF (π, μ, δ) i).2.1.frames.length wh di (outF (π, μ, δ) i).2.1.hand) false) :: framesA fid (outF (π, μ, δ) i).2.1.frames :: whA wh (outF (π, μ, δ) i).2.1.wher :: diA di (outF (π, μ, δ) i).2.1.dirty :: isLg q p (outF (π, μ, δ) i).2.2.1 :: isDk p (outF (π, μ, δ) i).2.2.2 :: S) := by
 have s00 := s
 obtain ⟨pre, fv, post, hpre, hlen, s⟩ := frame_open (s.bringS [1]) hi
 dsimp only [bringA, getA, delA] at s
 have hfv := (s.viewX (k := 2) rfl (rd_ro _ _))
 refine Call.of_wp (hT.free _ rfl) Tryz.func95 rfl rfl (zg rfl (za rfl (zv (zw (zg rfl (zm rfl (zn rfl (zf rfl (fa167_0 _ _) (zl rfl (s.ld (k := 0) rfl ag3 (nth_mid hpre rfl)) ?_)))))))))
 refine WPs.opB rfl rfl rfl (o_bin rfl rfl bLss) ?_ ?_
 ·intro hq
  have hq : f.page < 0 := by simpa using hq
  have he : outF (π, μ, δ) i = (0, (π, μ, δ)) := by simp only [outF, hi]; rw [if_pos (.inl hq)]
  rw [he]
  refine zm rfl (zx rfl (zx rfl (zx rfl (zx rfl (zx rfl (zq rfl (zv (zi rfl (zg rfl (za rfl (zv ?_)))))))))))
  refine WP.ret ⟨trivial, _, rfl, ?_⟩
  exact ⟨rfl, s00⟩
 ·intro hq
  have hq : ¬ f.page < 0 := by simpa using hq
  refine zm rfl (zm rfl (zn rfl (zf rfl (fa167_4 _ _) (zl rfl (s.ld (k := 0) rfl ag4 (nth_mid hpre rfl)) ?_))))
  have hcc : f.changed = false ∨ f.changed = true := by cases f.changed <;> simp
  rcases hcc with hc | hc
  ·have he : outF (π, μ, δ) i = (0, (π, μ, δ)) := by simp only [outF, hi]; rw [if_pos (.inr hc)]
   rw [he]
   refine WPs.opT rfl rfl rfl (o_un rfl rfl) (by rw [hc]; rfl) ?_
   refine zp rfl (zv (zi rfl (zg rfl (za rfl (zv ?_)))))
   refine WP.ret ⟨trivial, _, rfl, ?_⟩
   exact ⟨rfl, s00⟩
  ·have he : outF (π, μ, δ) i = (if goodL f.b = false then (4, (π, μ, δ)) else
    if (forceLD (μ, δ) (atL f.b 4 8)).1 ≠ 0 then ((forceLD (μ, δ) (atL f.b 4 8)).1, (π, (forceLD (μ, δ) (atL f.b 4 8)).2)) else
    if ((forceLD (μ, δ) (atL f.b 4 8)).2.2.writeF f.page f.b).1 ≠ 0 then (((forceLD (μ, δ) (atL f.b 4 8)).2.2.writeF f.page f.b).1, (π, ((forceLD (μ, δ) (atL f.b 4 8)).2.1, ((forceLD (μ, δ) (atL f.b 4 8)).2.2.writeF f.page f.b).2))) else
    (0, ({ π with frames := π.frames.set i { f with changed := false }, dirty := putL f.page (dirtRec π f.page, false) π.dirty }, ((forceLD (μ, δ) (atL f.b 4 8)).2.1, ((forceLD (μ, δ) (atL f.b 4 8)).2.2.writeF f.page f.b).2)))) := by
    simp only [outF, hi]; rw [if_neg (by rw [hc]; simp; omega)]
   rw [he]
   refine WPs.opF rfl rfl rfl (o_un rfl rfl) (by rw [hc]; rfl) ?_
   refine zp rfl (zv (zj rfl (WP.skip (zg rfl (zm rfl (zn rfl (zf rfl (fa167_1 _ _) (zl rfl (s.ld (k := 0) rfl ag32 (nth_mid hpre rfl)) (WPs.call rfl rfl rfl rfl rfl rfl rfl (head_ct hT (s.bringS [2]) (rd_ro _ _) (by omega)) ?_)))))))))
   rintro w h ⟨s, (⟨hg, rfl⟩ | ⟨hg, rfl⟩)⟩
   ·dsimp only [bringA, getA, delA] at s
    rw [if_neg (by rw [hg]; decide)]
    have hxok : (forceLD (μ, δ) (atL f.b 4 8)).2.2.Ok := forceLD_ok hδ
    have hxw : (forceLD (μ, δ) (atL f.b 4 8)).2.2.waiting.length ≤ 268435456 := by rw [forceLD_wait]; exact hw
    have hcall := lForceF (n := atL f.b 4 8) hT (s.bringS [6, 6]) hμ hδ.fuse
    generalize forceLD (μ, δ) (atL f.b 4 8) = x at hcall hxok hxw ⊢
    obtain ⟨xe, xl, xd⟩ := x
    dsimp only at hcall hxok hxw ⊢
    refine zm rfl (ze rfl (ze rfl (ze rfl (ze rfl (ze rfl (za rfl (za rfl (za rfl (za rfl (za rfl (zv (zw (zg rfl (zm rfl (WPs.opF rfl rfl rfl (o_bin rfl rfl bNeq) (rfl) (zv (zj rfl (WP.skip (zw (zg rfl (zm rfl (zn rfl ?_))))))))))))))))))))))
    refine zf rfl (fa140_1 _ _) (zl rfl (by exact s.ld (k := 3) rfl ag44 rfl) ?_)
    refine zm rfl (WPs.call rfl rfl rfl rfl rfl rfl rfl (hcall) ?_)
    rintro w h ⟨rfl, s⟩
    dsimp only [bringA, getA, delA] at s
    refine za rfl (zv (zg rfl (zm rfl ?_)))
    by_cases hx : xe = 0
    ·subst hx
     rw [if_neg (by decide)]
     refine WPs.opF rfl rfl rfl (o_bin rfl rfl bNeq) (rfl) ?_
     have hwr := fun (s : Sat h (isDk p xd :: .rob fv f.b :: isLg q p xl :: pt fid (.cells (π.frames.length * 5) (pre ++ (fmC f fv ++ post)) false) :: fmA (pre ++ (fmC f fv ++ post)) π.frames :: pt r (.cells 6 (plC p q fid π.frames.length wh di π.hand) false) :: whA wh π.wher :: diA di π.dirty :: S)) => dWriteF (n := f.page) hT s (rd_ro fv f.b) hfl hxok.fuse hxw
     generalize xd.writeF f.page f.b = y at hwr ⊢
     obtain ⟨ye, yd⟩ := y
     dsimp only at hwr ⊢
     have s := s.bringS [1, 1, 0]
     dsimp only [bringA, getA, delA] at s
     refine zv (zj rfl (WP.skip (zw (zw (WP.drawn [none, none, none, none, none, none, none, none, none, none, none, none, none, none] rfl (by kernel_rfl) (by kernel_rfl) ?_)))))
     refine zM rfl (zN rfl (zF rfl (fa140_0 _ _) (zL rfl (s.ld (k := 5) rfl ag23 rfl) (zM rfl (zN rfl (zF rfl (fa167_0 _ _) (zL rfl (s.ld (k := 3) rfl ag3 (nth_mid hpre rfl)) (zM rfl (zN rfl (zF rfl (fa167_1 _ _) (zL rfl (s.ld (k := 3) rfl ag32 (nth_mid hpre rfl)) (WPt.any rfl rfl rfl rfl (OpR.call rfl rfl rfl rfl (hwr s)) ?_))))))))))))
     rintro w h ⟨rfl, s⟩
     refine zA rfl ?_
     refine WPt.nil ⟨⟨trivial, trivial, trivial, trivial, trivial, trivial, trivial, trivial, trivial, trivial, trivial, trivial, trivial, trivial, trivial⟩, ?_⟩
     refine zg rfl (zm rfl ?_)
     by_cases hy : ye = 0
     ·subst hy
      rw [if_neg (by decide)]
      refine WPs.opF rfl rfl rfl (o_bin rfl rfl bNeq) (rfl) (zv (zj rfl (WP.skip (zg rfl (zm rfl (zn rfl (zf rfl (fa167_4 _ _) (WPs.stS rfl rfl rfl rfl rfl (s.stM (k := 3) (j := 4) rfl sz4 hpre hlen (by simp [fmC]) rfl rfl) ?_))))))))
      intro h s
      dsimp only [setA] at s
      have e5 : (fmC f fv).set 4 (.bool false) = fmC { f with changed := false } fv := rfl
      rw [e5] at s
      have s := s.bringS [7, 3, 4]
      dsimp only [bringA, getA, delA] at s
      refine zv (zw (WP.drawn [none, none, none, none, none, none, none, none, none, none, none, none, none, none, none, none, none, none, none, none] rfl (by kernel_rfl) (by kernel_rfl) ?_))
      refine zM rfl (zN rfl (zF rfl (fa140_4 _ _) (zL rfl (s.ld (k := 2) rfl ag138 rfl) (zM rfl (zN rfl (zF rfl (fa167_0 _ _) (zL rfl (s.ld (k := 1) rfl ag3 (nth_mid hpre rfl)) (zM rfl (zN rfl (zF rfl (fa140_4 _ _) (zL rfl (s.ld (k := 2) rfl ag138 rfl) (zM rfl (zN rfl (zF rfl (fa167_0 _ _) (zL rfl (s.ld (k := 1) rfl ag3 (nth_mid hpre rfl)) ?_)))))))))))))))
      have hlook : ∃ b, lookupX Tryz.prog h 138 di (.int .i64 f.page) false = some (.agg [.int .u64 (dirtRec π f.page : Nat), .bool b]) := by
       rcases mapV_look (f := fun v (x : Nat × Bool) => .pu (v = .agg [.int .u64 (x.1 : Int), .bool x.2])) (n := f.page) (fun _ _ => Pers.pu _) s Tryz.underlying138 Tryz.underlying3 zt143 with ⟨g1, _, g3⟩ | ⟨u, x, g1, _, g3, s'⟩
       ·exact ⟨false, by rw [g3]; simp only [dirtRec, g1]; rfl⟩
       ·obtain ⟨rfl, _⟩ := Sat_pu.1 s'
        exact ⟨x.2, by rw [g3]; simp only [dirtRec, g1]⟩
      obtain ⟨lb, hlook⟩ := hlook
      refine zO rfl (o_look rfl rfl hlook) (zO rfl (o_fld rfl (fv_of (fv143_0 _) rfl)) (zO rfl (o_build rfl (by rw [bv143]; rfl)) ?_))
      refine WPt.any0 rfl rfl rfl (OpR.mapUpdate rfl rfl rfl rfl (mapV_put (f := fun v (x : Nat × Bool) => .pu (v = .agg [.int .u64 (x.1 : Int), .bool x.2])) (x := (dirtRec π f.page, false)) (fun _ _ => Pers.pu _) (s.addPu rfl) Tryz.underlying138 Tryz.underlying3)) ?_
      intro w h s
      refine WPt.nil ⟨⟨trivial, trivial, trivial, trivial, trivial, trivial, trivial, trivial, trivial, trivial, trivial, trivial, trivial, trivial, trivial, trivial, trivial, trivial, trivial, trivial, trivial⟩, ?_⟩
      refine zg rfl (za rfl (zv ?_))
      refine WP.ret ⟨trivial, _, rfl, ?_⟩
      refine ⟨rfl, ?_⟩
      have s := frame_close (i := i) (f' := { f with changed := false }) (s.bringS [1, 5, 3]) rfl hi hpre
      dsimp only [bringA, getA, delA] at s
      have e6 : (π.frames.set i { f with changed := false }).length = π.frames.length := List.length_set
      rw [e6]
      exact s.bringS [2, 0, 3, 0, 1, 0]
     ·rw [if_pos hy]
      refine WPs.opT rfl rfl rfl (o_bin rfl rfl bNeq) (by simp; exact hy) ?_
      refine zv (zi rfl (zg rfl (zm rfl (za rfl (zv ?_)))))
      refine WP.ret ⟨trivial, _, rfl, ?_⟩
      refine ⟨rfl, ?_⟩
      have s := framesA_iff.2 ⟨_, s.bringS [3, 3]⟩
      dsimp only [bringA, getA, delA] at s
      exact (s.del 2).bringS [3, 0, 2, 2, 1, 0]
    ·rw [if_pos hx]
     refine WPs.opT rfl rfl rfl (o_bin rfl rfl bNeq) (by simp; exact hx) ?_
     refine zv (zi rfl (zg rfl (zm rfl (za rfl (zv ?_)))))
     refine WP.ret ⟨trivial, _, rfl, ?_⟩
     refine ⟨rfl, ?_⟩
     have s := framesA_iff.2 ⟨_, s.bringS [3, 3]⟩
     dsimp only [bringA, getA, delA] at s
     exact (s.del 3).bringS [3, 0, 2, 2, 0, 0]
   ·dsimp only [bringA, getA, delA] at s
    rw [if_pos hg]
    refine zm rfl (ze rfl (ze rfl (ze rfl (ze rfl (ze rfl (za rfl (za rfl (za rfl (za rfl (za rfl (zv (zw (zg rfl (zm rfl (WPs.opT rfl rfl rfl (o_bin rfl rfl bNeq) (rfl) (zv (zi rfl (zg rfl (zm rfl (za rfl (zv ?_)))))))))))))))))))))
    refine WP.ret ⟨trivial, _, rfl, ?_⟩
    refine ⟨rfl, ?_⟩
    have s := framesA_iff.2 ⟨_, s.bringS [1, 1]⟩
    dsimp only [bringA, getA, delA] at s
    exact (s.del 1).bringS [1, 0]
end
end Go.Proofs.YtconhghphklfjaaGreat.Am
namespace Go.Proofs.YtconhghphklfjaaGreat.Am
open Go
structure Near (π π' : Pl) : Prop where
 wher : π'.wher = π.wher
 dirty : π'.dirty = π.dirty
 len : π'.frames.length = π.frames.length
 get : ∀ (i : Nat) (f : Fm), π.frames[i]? = some f → ∃ t, π'.frames[i]? = some { f with touch := t }
theorem Near.refl (π : Pl) : Near π π := ⟨rfl, rfl, rfl, fun _ f h => ⟨f.touch, h⟩⟩
theorem Near.trans {π π' π'' : Pl} (a : Near π π') (b : Near π' π'') : Near π π'' := by
 refine ⟨b.wher.trans a.wher, b.dirty.trans a.dirty, b.len.trans a.len, fun i f h => ?_⟩
 obtain ⟨t, ht⟩ := a.get i f h
 obtain ⟨t', ht'⟩ := b.get i _ ht
 exact ⟨t', ht'⟩
theorem Near.hand {π : Pl} {n : Nat} : Near π { π with hand := n } := ⟨rfl, rfl, rfl, fun _ f h => ⟨f.touch, h⟩⟩
theorem Near.untouch {π : Pl} {i : Nat} {f : Fm} (hi : π.frames[i]? = some f) : Near π { π with frames := π.frames.set i { f with touch := false } } := by
 refine ⟨rfl, rfl, List.length_set, fun j g hj => ?_⟩
 by_cases h : i = j
 ·subst h
  rw [hi] at hj
  have := Option.some.inj hj
  subst this
  have hl := (List.getElem?_eq_some_iff.1 hi).1
  exact ⟨false, by simp [List.getElem?_set, hl]⟩
 ·exact ⟨g.touch, by simp only [List.getElem?_set, if_neg h]; exact hj⟩
theorem bRem {P : Program} {h : H} {t : TypeId} {x y : Operand} {a b : Nat} (hb : 0 < b) : binV P h .rem t x y (.int .i64 (a : Int)) (.int .i64 (b : Int)) = some (.int .i64 ((a % b : Nat) : Int)) := by
 simp only [binV, ikBeq, cond_true, intV]
 have : intBeq (b : Int) 0 = false := by rw [intBeq_dec]; simp; omega
 rw [this, cond_false, Int.tmod_eq_emod_of_nonneg (by omega)]
 rfl
section
variable {told : Nat → Option (List V → H → Option (V × H))} {h : H} {S : List Assn} {X : Assn} {r k q p fid : Nat} {v x wh di : V} {l b : List Nat} {π : Pl} {m : List Fm}
theorem ia_frame {i n : Nat} (hi : i < n) : indexAddrV Tryz.prog 137 (.sl fid 0 n (.exact n)) (.int .i64 (i : Int)) = some (.ptr fid (i * 5)) := by
 rw [ia137, show (decide ((0 : Int) ≤ (i : Int)) && decide ((i : Int) < (n : Int))) = true by simp; omega, cond_true]
 simp
theorem unpinned_ct (hT : W told) {f : Fm} (s : Sat h S) (hv : storable v = true) : Call ⟨Tryz.prog, told⟩ 126 [.agg (fmC f v)] h fun w h' => w = .bool (decide (f.pins = 0)) ∧ Sat h' S := by
 refine Call.of_wp (hT.free _ rfl) Tryz.func126 rfl rfl (zg rfl (WPs.newS s rfl rfl rfl (o_box rfl (by simp only [V.cells, fmC, List.all_cons, List.all_nil, hv]; rfl)) ?_))
 intro p1 h s
 dsimp only [V.cells, fmC] at s
 refine za rfl (zv (zg rfl (zf rfl (fa167_2 _ _) (zl rfl (by exact s.ld (k := 0) rfl ag3 rfl) ?_))))
 refine zb rfl bEql (za rfl (zv ?_))
 refine WP.ret ⟨trivial, _, rfl, ?_⟩
 exact ⟨rfl, s.drop⟩
theorem index_ct (hT : W told) {f : Fm} (s : Sat h (framesA fid m :: S)) (h0 : m[0]? = some f) (hp : f.pins = 0) : Call ⟨Tryz.prog, told⟩ 148 [.sl fid 0 m.length (.exact m.length), .fn (.func 126) [] []] h fun w h' => w = .int .i64 0 ∧ Sat h' (framesA fid m :: S) := by
 have hl := (List.getElem?_eq_some_iff.1 h0).1
 obtain ⟨pre, fv, post, hpre, hlen, s⟩ := frame_open s h0
 have hst := (s.viewX (k := 2) rfl (rd_ro _ _)).cells.2
 refine Call.of_wp (hT.free _ rfl) Tryz.func148 rfl rfl (zg rfl (za rfl (zv (zw (zg rfl (zm rfl (zo rfl (o_len rfl rfl rfl (by exact len_slE rfl Tryz.underlying137)) ?_)))))))
 refine zm rfl (zv (WP.block (WP.loop (zg rfl (WPs.opT rfl rfl rfl (o_bin rfl rfl bLss) (by simp; omega) ?_)))))
 refine zv (zw (zi rfl (WP.skip (zw (WP.block (zg rfl (zm rfl (za rfl (zv (zg rfl (zm rfl (zm rfl (zm rfl (zo rfl (o_ia rfl rfl (ia_frame (i := 0) hl)) (zl rfl (ldF s (k := 0) rfl ag167 sz167 hpre hlen) (WPs.call rfl rfl rfl rfl rfl rfl rfl (unpinned_ct hT s hst) ?_))))))))))))))))
 rintro w h ⟨rfl, s⟩
 rw [decide_eq_true hp]
 refine zv (zi rfl (zg rfl (zm rfl (za rfl (zv ?_)))))
 refine WP.ret ⟨trivial, _, rfl, ?_⟩
 exact ⟨rfl, (framesA_iff.2 ⟨_, s⟩).del 1⟩
theorem contains_ct (hT : W told) {f : Fm} (s : Sat h (framesA fid m :: S)) (h0 : m[0]? = some f) (hp : f.pins = 0) : Call ⟨Tryz.prog, told⟩ 125 [.sl fid 0 m.length (.exact m.length), .fn (.func 126) [] []] h fun w h' => w = .bool true ∧ Sat h' (framesA fid m :: S) := by
 refine Call.of_wp (hT.free _ rfl) Tryz.func125 rfl rfl (zg rfl (za rfl (zv (zg rfl (zm rfl (zm rfl (WPs.call rfl rfl rfl rfl rfl rfl rfl (index_ct hT s h0 hp) ?_)))))))
 rintro w h ⟨rfl, s⟩
 refine WPs.opT rfl rfl rfl (o_bin rfl rfl bGeq) (by decide) ?_
 refine za rfl (zv ?_)
 refine WP.ret ⟨trivial, _, rfl, ?_⟩
 exact ⟨rfl, s⟩
noncomputable def fdA : Code := pathC [1, 0, 0, 1, 0, 0] ((Tryz.f94.body).getD .skip)
noncomputable def fdB : Code := pathC [1, 0, 1, 1, 1, 0, 0] ((Tryz.f94.body).getD .skip)
theorem found_first {wh di : V} {hand : Nat} : ∀ (j i : Nat) (h : H) (E : List (Nat × V)) (Q : Ex → List (Nat × V) → H → Prop), i + j = m.length → m.length < 4294967296 →
  Sat h (pt r (.cells 6 (plC p q fid m.length wh di hand) false) :: framesA fid m :: S) → Has E [(0, .ptr r 0), (10, .int .i64 m.length), (11, .int .i64 i)] →
  (∀ E' (i : Nat) (f : Fm), m[i]? = some f → f.page < 0 → look E' 2 = some (.int .i64 (i : Int)) → Q .ret E' h) →
  (∀ E', Has E' [(0, .ptr r 0)] → Q (.exit 0) E' h) → WP ⟨Tryz.prog, told⟩ 70 (.loop fdA) E h Q := by
 intro j
 induction j with
 | zero =>
  intro i h E Q hi hm s hE hr hx
  refine WP.loop (WP.has hE (zg rfl (WPs.opF rfl rfl rfl (o_bin rfl rfl bLss) (by simp; omega) ?_)))
  refine zv (zw (zj rfl (WP.exit ?_)))
  exact hx _ ⟨rfl, trivial⟩
 | succ j ih =>
  intro i h E Q hi hm s hE hr hx
  have hc : m[i]? = some (m[i]'(by omega)) := List.getElem?_eq_getElem _
  generalize (m[i]'(by omega)) = f at hc
  obtain ⟨pre, fv, post, hpre, hlen, s'⟩ := frame_open (s.bringS [1]) hc
  refine WP.loop (WP.has hE (zg rfl (WPs.opT rfl rfl rfl (o_bin rfl rfl bLss) (by simp; omega) ?_)))
  refine zv (zw (zi rfl (WP.skip (zw (WP.block (zg rfl (zm rfl (za rfl (zv (zg rfl (zm rfl (zn rfl (zf rfl (fa140_2 _ _) (zl rfl (by exact s.ld (k := 0) rfl ag137 rfl) ?_))))))))))))))
  refine zm rfl (zo rfl (o_ia rfl rfl (ia_frame (i := i) (by omega))) ?_)
  refine zf rfl (fa167_0 _ _) (zl rfl (s'.ld (k := 0) rfl ag3 (nth_mid hpre rfl)) ?_)
  refine WPs.opB rfl rfl rfl (o_bin rfl rfl bLss) ?_ ?_
  ·intro hq
   have hq : f.page < 0 := by simpa using hq
   refine zv (zi rfl (zg rfl (zm rfl (za rfl (zv (WP.ret ?_))))))
   exact hr _ i f hc hq rfl
  ·intro hq
   refine zv (zj rfl (WP.skip (zr rfl (zb rfl (by exact bAdd (wrapS (by omega) (by omega))) ?_))))
   refine zm rfl (zv ?_)
   exact ih (i + 1) h _ Q (by omega) hm s ⟨rfl, rfl, rfl, trivial⟩ hr hx
def touched (m : List Fm) : Nat := (m.filter fun f => f.touch).length
theorem touched_set {f : Fm} : ∀ {m : List Fm} {i : Nat}, m[i]? = some f → f.touch = true → touched (m.set i { f with touch := false }) + 1 = touched m := by
 intro m
 induction m with
 | nil => intro i h; simp at h
 | cons g m ih =>
  intro i h ht
  cases i with
  | zero => simp at h; subst h; simp [touched, ht]
  | succ i =>
   rw [List.getElem?_cons_succ] at h
   have := ih h ht
   simp only [touched, List.set_cons_succ, List.filter_cons] at this ⊢
   split <;> (try simp only [List.length_cons]) <;> omega
theorem found_step {wh di : V} {f : Fm} {h : H} {E : List (Nat × V)} {Q : Ex → List (Nat × V) → H → Prop} (hf : π.frames[π.hand]? = some f) (hm : π.frames.length < 4294967296) (hp : f.pins = 0)
  (s : Sat h (pt r (.cells 6 (plC p q fid π.frames.length wh di π.hand) false) :: framesA fid π.frames :: S)) (hE : Has E [(0, .ptr r 0)])
  (hr : f.touch = false → ∀ E' h', look E' 2 = some (.int .i64 (π.hand : Int)) → Sat h' (pt r (.cells 6 (plC p q fid π.frames.length wh di ((π.hand + 1) % π.frames.length)) false) :: framesA fid π.frames :: S) → Q .ret E' h')
  (hx : f.touch = true → ∀ E' h', Has E' [(0, .ptr r 0)] → Sat h' (pt r (.cells 6 (plC p q fid (π.frames.set π.hand { f with touch := false }).length wh di ((π.hand + 1) % π.frames.length)) false) :: framesA fid (π.frames.set π.hand { f with touch := false }) :: S) → WP ⟨Tryz.prog, told⟩ 70 (.loop fdB) E' h' Q) :
  WP ⟨Tryz.prog, told⟩ 70 (.loop fdB) E h Q := by
 have hl := (List.getElem?_eq_some_iff.1 hf).1
 refine WP.loop (WP.has hE (WP.block (zg rfl (zm rfl (zn rfl (zf rfl (fa140_5 _ _) (zl rfl (by exact s.ld (k := 0) rfl ag3 rfl) ?_)))))))
 refine za rfl (zv (zg rfl (zm rfl (zn rfl (zf rfl (fa140_2 _ _) (zl rfl (by exact s.ld (k := 0) rfl ag137 rfl) ?_))))))
 refine zm rfl (zo rfl (o_ia rfl rfl (ia_frame (i := π.hand) hl)) (za rfl (zv (zw (WP.drawn [none, none, none, none, none, none, none, none, none, none, none, none, none, none, none] rfl (by kernel_rfl) (by kernel_rfl) ?_)))))
 refine zM rfl (zM rfl (zN rfl (zF rfl (fa140_5 _ _) (zL rfl (by exact s.ld (k := 0) rfl ag3 rfl) ?_))))
 refine zO rfl (o_bin rfl rfl (by exact bAdd (wrapS (by omega) (by omega)))) ?_
 refine zM rfl (zN rfl (zF rfl (fa140_2 _ _) (zL rfl (by exact s.ld (k := 0) rfl ag137 rfl) ?_)))
 refine zO rfl (o_len rfl rfl rfl (by exact len_slE rfl Tryz.underlying137)) ?_
 refine zO rfl (o_bin rfl rfl (bRem (a := π.hand + 1) (by omega))) ?_
 refine zN rfl (zF rfl (fa140_5 _ _) (WPt.any0 rfl rfl rfl (OpR.stS rfl rfl rfl (s.st1 (k := 0) rfl sz3 rfl (by decide) rfl rfl)) ?_))
 rintro v h ⟨rfl, s⟩
 have s : Sat h (pt r (.cells 6 (plC p q fid π.frames.length wh di ((π.hand + 1) % π.frames.length)) false) :: framesA fid π.frames :: S) := s
 refine WPt.nil ⟨⟨trivial, trivial, trivial, trivial, trivial, trivial, trivial, trivial, trivial, trivial, trivial, trivial, trivial, trivial, trivial, trivial⟩, ?_⟩
 obtain ⟨pre, fv, post, hpre, hlen, s⟩ := frame_open (s.bringS [1]) hf
 dsimp only [bringA, getA, delA] at s
 refine zw (WP.block (zg rfl (zm rfl (zn rfl (zf rfl (fa167_2 _ _) (zl rfl (s.ld (k := 0) rfl ag3 (nth_mid hpre rfl)) (WPs.opF rfl rfl rfl (o_bin rfl rfl bGtr) (by rw [hp]; decide) ?_)))))))
 refine za rfl (zv (zj rfl (zg rfl (zm rfl (zn rfl (zf rfl (fa167_3 _ _) (zl rfl (s.ld (k := 0) rfl ag4 (nth_mid hpre rfl)) (za rfl (zv ?_)))))))))
 have htt : f.touch = false ∨ f.touch = true := by cases f.touch <;> simp
 rcases htt with ht | ht
 ·refine WP.condF rfl (ht) ?_
  refine zg rfl (zm rfl (za rfl (zv (WP.ret (hr ht _ _ rfl ?_)))))
  have s := framesA_iff.2 ⟨_, s.bringS [0, 0]⟩
  dsimp only [bringA, getA, delA] at s
  exact (s.del 1).bringS [1, 0]
 ·skip
  refine WP.condT rfl (ht) (zr rfl (zm rfl (zn rfl (zf rfl (fa167_3 _ _) (WPs.stS rfl rfl rfl rfl rfl (s.stM (k := 0) (j := 3) rfl sz4 hpre hlen (by simp [fmC]) rfl rfl) ?_)))))
  intro h s
  dsimp only [setA] at s
  have e5 : (fmC f fv).set 3 (.bool false) = fmC { f with touch := false } fv := rfl
  rw [e5] at s
  refine zv (WP.exit (hx ht _ _ ⟨rfl, trivial⟩ ?_))
  have s := frame_close (i := π.hand) (f' := { f with touch := false }) s rfl hf hpre
  rw [List.length_set]
  exact s.bringS [1, 0]
theorem found_clock {wh di : V} : ∀ (fuel : Nat) (π : Pl) (h : H) (E : List (Nat × V)) (Q : Ex → List (Nat × V) → H → Prop), touched π.frames ≤ fuel → π.hand < π.frames.length → π.frames.length < 4294967296 → (∀ f ∈ π.frames, f.pins = 0) →
  Sat h (pt r (.cells 6 (plC p q fid π.frames.length wh di π.hand) false) :: framesA fid π.frames :: S) → Has E [(0, .ptr r 0)] →
  (∀ E' h' (i : Nat) (π' : Pl) (f : Fm), Near π π' → π'.frames[i]? = some f → π'.hand < π'.frames.length → look E' 2 = some (.int .i64 (i : Int)) → Sat h' (pt r (.cells 6 (plC p q fid π'.frames.length wh di π'.hand) false) :: framesA fid π'.frames :: S) → Q .ret E' h') →
  WP ⟨Tryz.prog, told⟩ 70 (.loop fdB) E h Q := by
 intro fuel
 induction fuel with
 | zero =>
  intro π h E Q ht hh hm hp s hE hr
  have hf : π.frames[π.hand]? = some (π.frames[π.hand]'hh) := List.getElem?_eq_getElem _
  generalize (π.frames[π.hand]'hh) = f at hf
  refine found_step hf hm (hp f (List.mem_of_getElem? hf)) s hE (fun h1 E' h' h2 s' => ?_) (fun h1 => ?_)
  ·exact hr E' h' π.hand { π with hand := (π.hand + 1) % π.frames.length } f Near.hand hf (Nat.mod_lt _ (by omega)) h2 s'
  ·have := touched_set hf h1
   omega
 | succ fuel ih =>
  intro π h E Q ht hh hm hp s hE hr
  have hf : π.frames[π.hand]? = some (π.frames[π.hand]'hh) := List.getElem?_eq_getElem _
  generalize (π.frames[π.hand]'hh) = f at hf
  refine found_step hf hm (hp f (List.mem_of_getElem? hf)) s hE (fun h1 E' h' h2 s' => ?_) (fun h1 E' h' hE' s' => ?_)
  ·exact hr E' h' π.hand { π with hand := (π.hand + 1) % π.frames.length } f Near.hand hf (Nat.mod_lt _ (by omega)) h2 s'
  ·have hts := touched_set hf h1
   have hn : Near π { π with frames := π.frames.set π.hand { f with touch := false }, hand := (π.hand + 1) % π.frames.length } := (Near.untouch hf).trans Near.hand
   refine ih { π with frames := π.frames.set π.hand { f with touch := false }, hand := (π.hand + 1) % π.frames.length } h' E' Q (by show touched (π.frames.set π.hand { f with touch := false }) ≤ fuel; omega) ?_ (by simp only [List.length_set]; exact hm) (fun g hg => ?_) s' hE' (fun E2 h2 i π' g hn' hg hh2 hl s2 => hr E2 h2 i π' g (hn.trans hn') hg hh2 hl s2)
   ·simp only [List.length_set]; exact Nat.mod_lt _ (by omega)
   ·rcases List.mem_or_eq_of_mem_set hg with hg | rfl
    ·exact hp g hg
    ·exact hp f (List.mem_of_getElem? hf)
theorem found_ct (hT : W told) {wh di : V} (s : Sat h (pt r (.cells 6 (plC p q fid π.frames.length wh di π.hand) false) :: framesA fid π.frames :: S)) (hh : π.hand < π.frames.length) (hm : π.frames.length < 4294967296) (hp : ∀ f ∈ π.frames, f.pins = 0) :
  Call ⟨Tryz.prog, told⟩ 94 [.ptr r 0] h fun v h' => ∃ (i : Nat) (π' : Pl) (f : Fm), v = .int .i64 (i : Int) ∧ Near π π' ∧ π'.frames[i]? = some f ∧ π'.hand < π'.frames.length ∧
   Sat h' (pt r (.cells 6 (plC p q fid π'.frames.length wh di π'.hand) false) :: framesA fid π'.frames :: S) := by
 have h0 : π.frames[0]? = some (π.frames[0]'(by omega)) := List.getElem?_eq_getElem _
 generalize (π.frames[0]'(by omega)) = f0 at h0
 have s0 := s
 refine Call.of_wp (hT.free _ rfl) Tryz.func94 rfl rfl (zg rfl (za rfl (zv (WP.scope (zw (zg rfl (zm rfl (zn rfl (zf rfl (fa140_2 _ _) (zl rfl (by exact s.ld (k := 0) rfl ag137 rfl) ?_))))))))))
 refine zo rfl (o_len rfl rfl rfl (by exact len_slE rfl Tryz.underlying137)) ?_
 refine zm rfl (zv (WP.block ?_))
 refine found_first π.frames.length 0 _ _ _ (by omega) hm s ⟨rfl, rfl, rfl, trivial⟩ (fun E' i f hf _ h2 => ?_) (fun E' hE' => ?_)
 ·exact ⟨trivial, _, res1 h2, i, π, f, rfl, Near.refl π, hf, hh, s⟩
 ·skip
  refine WP.has hE' (zw (zg rfl (zm rfl (zn rfl (zf rfl (fa140_2 _ _) (zl rfl (by exact s.ld (k := 0) rfl ag137 rfl) ?_))))))
  refine WPs.call rfl rfl rfl rfl rfl rfl rfl (contains_ct hT (s.bringS [1]) h0 (hp f0 (List.mem_of_getElem? h0))) ?_
  rintro w h ⟨rfl, s⟩
  refine zo rfl (o_un rfl rfl) (zv (zj rfl (WP.skip (zw (WP.label (WP.block ?_))))))
  refine found_clock (touched π.frames) π _ _ _ (Nat.le_refl _) hh hm hp (s.bringS [1, 0]) ⟨rfl, trivial⟩ (fun E' h' i π' f hn hf hh2 h2 s' => ?_)
  exact ⟨trivial, _, res1 h2, i, π', f, rfl, hn, hf, hh2, s'⟩
end
end Go.Proofs.YtconhghphklfjaaGreat.Am
