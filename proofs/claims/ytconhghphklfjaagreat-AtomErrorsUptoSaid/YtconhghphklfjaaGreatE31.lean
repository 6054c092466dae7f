/- A group that is over or open, pages that are none and records that may not be are refused, and a record that was done is read back; the conditions are those of the given statement, for arguments that a machine can hold. Part 31 of 44. -/
import Derived.Test.YtconhghphklfjaaGreatE30
namespace Go.Proofs.YtconhghphklfjaaGreat.Am
open Go
structure Near (π π' : Pl) : Prop where
 wher : π'.wher = π.wher
 dirty : π'.dirty = π.dirty
 len : π'.frames.length = π.frames.length
 get : ∀ (i : Nat) (f : Fm), π.frames[i]? = some f → ∃ t, π'.frames[i]? = some { f with touch := t }
theorem Near.refl (π : Pl) : Near π π := ⟨rfl, rfl, rfl, fun _ f h => ⟨f.touch, h⟩⟩
theorem Near.trans {π π' π'' : Pl} (a : Near π π') (b : Near π' π'') : Near π π'' := by
 refine ⟨b.wher.trans a.wher, b.dirty.trans a.dirty, b.len.trans a.len, fun i f h => ?_⟩
 obtain ⟨t, ht⟩ := a.get i f h
 obtain ⟨t', ht'⟩ := b.get i _ ht
 exact ⟨t', ht'⟩
theorem Near.hand {π : Pl} {n : Nat} : Near π { π with hand := n } := ⟨rfl, rfl, rfl, fun _ f h => ⟨f.touch, h⟩⟩
theorem Near.untouch {π : Pl} {i : Nat} {f : Fm} (hi : π.frames[i]? = some f) : Near π { π with frames := π.frames.set i { f with touch := false } } := by
 refine ⟨rfl, rfl, List.length_set, fun j g hj => ?_⟩
 by_cases h : i = j
 ·subst h
  rw [hi] at hj
  have := Option.some.inj hj
  subst this
  have hl := (List.getElem?_eq_some_iff.1 hi).1
  exact ⟨false, by simp [List.getElem?_set, hl]⟩
 ·exact ⟨g.touch, by simp only [List.getElem?_set, if_neg h]; exact hj⟩
theorem bRem {P : Program} {h : H} {t : TypeId} {x y : Operand} {a b : Nat} (hb : 0 < b) : binV P h .rem t x y (.int .i64 (a : Int)) (.int .i64 (b : Int)) = some (.int .i64 ((a % b : Nat) : Int)) := by
 simp only [binV, ikBeq, cond_true, intV]
 have : intBeq (b : Int) 0 = false := by rw [intBeq_dec]; simp; omega
 rw [this, cond_false, Int.tmod_eq_emod_of_nonneg (by omega)]
 rfl
section
variable {told : Nat → Option (List V → H → Option (V × H))} {h : H} {S : List Assn} {X : Assn} {r k q p fid : Nat} {v x wh di : V} {l b : List Nat} {π : Pl} {m : List Fm}
theorem ia_frame {i n : Nat} (hi : i < n) : indexAddrV Tryz.prog 137 (.sl fid 0 n (.exact n)) (.int .i64 (i : Int)) = some (.ptr fid (i * 5)) := by
 rw [ia137, show (decide ((0 : Int) ≤ (i : Int)) && decide ((i : Int) < (n : Int))) = true by simp; omega, cond_true]
 simp
theorem unpinned_ct (hT : W told) {f : Fm} (s : Sat h S) (hv : storable v = true) : Call ⟨Tryz.prog, told⟩ 126 [.agg (fmC f v)] h fun w h' => w = .bool (decide (f.pins = 0)) ∧ Sat h' S := by
 refine Call.of_wp (hT.free _ rfl) Tryz.func126 rfl rfl (zg rfl (WPs.newS s rfl rfl rfl (o_box rfl (by simp only [V.cells, fmC, List.all_cons, List.all_nil, hv]; rfl)) ?_))
 intro p1 h s
 dsimp only [V.cells, fmC] at s
 refine za rfl (zv (zg rfl (zf rfl (fa167_2 _ _) (zl rfl (by exact s.ld (k := 0) rfl ag3 rfl) ?_))))
 refine zb rfl bEql (za rfl (zv ?_))
 refine WP.ret ⟨trivial, _, rfl, ?_⟩
 exact ⟨rfl, s.drop⟩
theorem index_ct (hT : W told) {f : Fm} (s : Sat h (framesA fid m :: S)) (h0 : m[0]? = some f) (hp : f.pins = 0) : Call ⟨Tryz.prog, told⟩ 148 [.sl fid 0 m.length (.exact m.length), .fn (.func 126) [] []] h fun w h' => w = .int .i64 0 ∧ Sat h' (framesA fid m :: S) := by
 have hl := (List.getElem?_eq_some_iff.1 h0).1
 obtain ⟨pre, fv, post, hpre, hlen, s⟩ := frame_open s h0
 have hst := (s.viewX (k := 2) rfl (rd_ro _ _)).cells.2
 refine Call.of_wp (hT.free _ rfl) Tryz.func148 rfl rfl (zg rfl (za rfl (zv (zw (zg rfl (zm rfl (zo rfl (o_len rfl rfl rfl (by exact len_slE rfl Tryz.underlying137)) ?_)))))))
 refine zm rfl (zv (WP.block (WP.loop (zg rfl (WPs.opT rfl rfl rfl (o_bin rfl rfl bLss) (by simp; omega) ?_)))))
 refine zv (zw (zi rfl (WP.skip (zw (WP.block (zg rfl (zm rfl (za rfl (zv (zg rfl (zm rfl (zm rfl (zm rfl (zo rfl (o_ia rfl rfl (ia_frame (i := 0) hl)) (zl rfl (ldF s (k := 0) rfl ag167 sz167 hpre hlen) (WPs.call rfl rfl rfl rfl rfl rfl rfl (unpinned_ct hT s hst) ?_))))))))))))))))
 rintro w h ⟨rfl, s⟩
 rw [decide_eq_true hp]
 refine zv (zi rfl (zg rfl (zm rfl (za rfl (zv ?_)))))
 refine WP.ret ⟨trivial, _, rfl, ?_⟩
 exact ⟨rfl, (framesA_iff.2 ⟨_, s⟩).del 1⟩
theorem contains_ct (hT : W told) {f : Fm} (s : Sat h (framesA fid m :: S)) (h0 : m[0]? = some f) (hp : f.pins = 0) : Call ⟨Tryz.prog, told⟩ 125 [.sl fid 0 m.length (.exact m.length), .fn (.func 126) [] []] h fun w h' => w = .bool true ∧ Sat h' (framesA fid m :: S) := by
 refine Call.of_wp (hT.free _ rfl) Tryz.func125 rfl rfl (zg rfl (za rfl (zv (zg rfl (zm rfl (zm rfl (WPs.call rfl rfl rfl rfl rfl rfl rfl (index_ct hT s h0 hp) ?_)))))))
 rintro w h ⟨rfl, s⟩
 refine WPs.opT rfl rfl rfl (o_bin rfl rfl bGeq) (by decide) ?_
 refine za rfl (zv ?_)
 refine WP.ret ⟨trivial, _, rfl, ?_⟩
 exact ⟨rfl, s⟩
noncomputable def fdA : Code := pathC [1, 0, 0, 1, 0, 0] ((Tryz.f94.body).getD .skip)
noncomputable def fdB : Code := pathC [1, 0, 1, 1, 1, 0, 0] ((Tryz.f94.body).getD .skip)
theorem found_first {wh di : V} {hand : Nat} : ∀ (j i : Nat) (h : H) (E : List (Nat × V)) (Q : Ex → List (Nat × V) → H → Prop), i + j = m.length → m.length < 4294967296 →
  Sat h (pt r (.cells 6 (plC p q fid m.length wh di hand) false) :: framesA fid m :: S) → Has E [(0, .ptr r 0), (10, .int .i64 m.length), (11, .int .i64 i)] →
  (∀ E' (i : Nat) (f : Fm), m[i]? = some f → f.page < 0 → look E' 2 = some (.int .i64 (i : Int)) → Q .ret E' h) →
  (∀ E', Has E' [(0, .ptr r 0)] → Q (.exit 0) E' h) → WP ⟨Tryz.prog, told⟩ 70 (.loop fdA) E h Q := by
 intro j
 induction j with
 | zero =>
  intro i h E Q hi hm s hE hr hx
  refine WP.loop (WP.has hE (zg rfl (WPs.opF rfl rfl rfl (o_bin rfl rfl bLss) (by simp; omega) ?_)))
  refine zv (zw (zj rfl (WP.exit ?_)))
  exact hx _ ⟨rfl, trivial⟩
 | succ j ih =>
  intro i h E Q hi hm s hE hr hx
  have hc : m[i]? = some (m[i]'(by omega)) := List.getElem?_eq_getElem _
  generalize (m[i]'(by omega)) = f at hc
  obtain ⟨pre, fv, post, hpre, hlen, s'⟩ := frame_open (s.bringS [1]) hc
  refine WP.loop (WP.has hE (zg rfl (WPs.opT rfl rfl rfl (o_bin rfl rfl bLss) (by simp; omega) ?_)))
  refine zv (zw (zi rfl (WP.skip (zw (WP.block (zg rfl (zm rfl (za rfl (zv (zg rfl (zm rfl (zn rfl (zf rfl (fa140_2 _ _) (zl rfl (by exact s.ld (k := 0) rfl ag137 rfl) ?_))))))))))))))
  refine zm rfl (zo rfl (o_ia rfl rfl (ia_frame (i := i) (by omega))) ?_)
  refine zf rfl (fa167_0 _ _) (zl rfl (s'.ld (k := 0) rfl ag3 (nth_mid hpre rfl)) ?_)
  refine WPs.opB rfl rfl rfl (o_bin rfl rfl bLss) ?_ ?_
  ·intro hq
   have hq : f.page < 0 := by simpa using hq
   refine zv (zi rfl (zg rfl (zm rfl (za rfl (zv (WP.ret ?_))))))
   exact hr _ i f hc hq rfl
  ·intro hq
   refine zv (zj rfl (WP.skip (zr rfl (zb rfl (by exact bAdd (wrapS (by omega) (by omega))) ?_))))
   refine zm rfl (zv ?_)
   exact ih (i + 1) h _ Q (by omega) hm s ⟨rfl, rfl, rfl, trivial⟩ hr hx
def touched (m : List Fm) : Nat := (m.filter fun f => f.touch).length
theorem touched_set {f : Fm} : ∀ {m : List Fm} {i : Nat}, m[i]? = some f → f.touch = true → touched (m.set i { f with touch := false }) + 1 = touched m := by
 intro m
 induction m with
 | nil => intro i h; simp at h
 | cons g m ih =>
  intro i h ht
  cases i with
  | zero => simp at h; subst h; simp [touched, ht]
  | succ i =>
   rw [List.getElem?_cons_succ] at h
   have := ih h ht
   simp only [touched, List.set_cons_succ, List.filter_cons] at this ⊢
   split <;> (try simp only [List.length_cons]) <;> omega
theorem found_step {wh di : V} {f : Fm} {h : H} {E : List (Nat × V)} {Q : Ex → List (Nat × V) → H → Prop} (hf : π.frames[π.hand]? = some f) (hm : π.frames.length < 4294967296) (hp : f.pins = 0)
  (s : Sat h (pt r (.cells 6 (plC p q fid π.frames.length wh di π.hand) false) :: framesA fid π.frames :: S)) (hE : Has E [(0, .ptr r 0)])
  (hr : f.touch = false → ∀ E' h', look E' 2 = some (.int .i64 (π.hand : Int)) → Sat h' (pt r (.cells 6 (plC p q fid π.frames.length wh di ((π.hand + 1) % π.frames.length)) false) :: framesA fid π.frames :: S) → Q .ret E' h')
  (hx : f.touch = true → ∀ E' h', Has E' [(0, .ptr r 0)] → Sat h' (pt r (.cells 6 (plC p q fid (π.frames.set π.hand { f with touch := false }).length wh di ((π.hand + 1) % π.frames.length)) false) :: framesA fid (π.frames.set π.hand { f with touch := false }) :: S) → WP ⟨Tryz.prog, told⟩ 70 (.loop fdB) E' h' Q) :
  WP ⟨Tryz.prog, told⟩ 70 (.loop fdB) E h Q := by
 have hl := (List.getElem?_eq_some_iff.1 hf).1
 refine WP.loop (WP.has hE (WP.block (zg rfl (zm rfl (zn rfl (zf rfl (fa140_5 _ _) (zl rfl (by exact s.ld (k := 0) rfl ag3 rfl) ?_)))))))
 refine za rfl (zv (zg rfl (zm rfl (zn rfl (zf rfl (fa140_2 _ _) (zl rfl (by exact s.ld (k := 0) rfl ag137 rfl) ?_))))))
 refine zm rfl (zo rfl (o_ia rfl rfl (ia_frame (i := π.hand) hl)) (za rfl (zv (zw (WP.drawn [none, none, none, none, none, none, none, none, none, none, none, none, none, none, none] rfl (by kernel_rfl) (by kernel_rfl) ?_)))))
 refine zM rfl (zM rfl (zN rfl (zF rfl (fa140_5 _ _) (zL rfl (by exact s.ld (k := 0) rfl ag3 rfl) ?_))))
 refine zO rfl (o_bin rfl rfl (by exact bAdd (wrapS (by omega) (by omega)))) ?_
 refine zM rfl (zN rfl (zF rfl (fa140_2 _ _) (zL rfl (by exact s.ld (k := 0) rfl ag137 rfl) ?_)))
 refine zO rfl (o_len rfl rfl rfl (by exact len_slE rfl Tryz.underlying137)) ?_
 refine zO rfl (o_bin rfl rfl (bRem (a := π.hand + 1) (by omega))) ?_
 refine zN rfl (zF rfl (fa140_5 _ _) (WPt.any0 rfl rfl rfl (OpR.stS rfl rfl rfl (s.st1 (k := 0) rfl sz3 rfl (by decide) rfl rfl)) ?_))
 rintro v h ⟨rfl, s⟩
 have s : Sat h (pt r (.cells 6 (plC p q fid π.frames.length wh di ((π.hand + 1) % π.frames.length)) false) :: framesA fid π.frames :: S) := s
 refine WPt.nil ⟨⟨trivial, trivial, trivial, trivial, trivial, trivial, trivial, trivial, trivial, trivial, trivial, trivial, trivial, trivial, trivial, trivial⟩, ?_⟩
 obtain ⟨pre, fv, post, hpre, hlen, s⟩ := frame_open (s.bringS [1]) hf
 dsimp only [bringA, getA, delA] at s
 refine zw (WP.block (zg rfl (zm rfl (zn rfl (zf rfl (fa167_2 _ _) (zl rfl (s.ld (k := 0) rfl ag3 (nth_mid hpre rfl)) (WPs.opF rfl rfl rfl (o_bin rfl rfl bGtr) (by rw [hp]; decide) ?_)))))))
 refine za rfl (zv (zj rfl (zg rfl (zm rfl (zn rfl (zf rfl (fa167_3 _ _) (zl rfl (s.ld (k := 0) rfl ag4 (nth_mid hpre rfl)) (za rfl (zv ?_)))))))))
 have htt : f.touch = false ∨ f.touch = true := by cases f.touch <;> simp
 rcases htt with ht | ht
 ·refine WP.condF rfl (ht) ?_
  refine zg rfl (zm rfl (za rfl (zv (WP.ret (hr ht _ _ rfl ?_)))))
  have s := framesA_iff.2 ⟨_, s.bringS [0, 0]⟩
  dsimp only [bringA, getA, delA] at s
  exact (s.del 1).bringS [1, 0]
 ·skip
  refine WP.condT rfl (ht) (zr rfl (zm rfl (zn rfl (zf rfl (fa167_3 _ _) (WPs.stS rfl rfl rfl rfl rfl (s.stM (k := 0) (j := 3) rfl sz4 hpre hlen (by simp [fmC]) rfl rfl) ?_)))))
  intro h s
  dsimp only [setA] at s
  have e5 : (fmC f fv).set 3 (.bool false) = fmC { f with touch := false } fv := rfl
  rw [e5] at s
  refine zv (WP.exit (hx ht _ _ ⟨rfl, trivial⟩ ?_))
  have s := frame_close (i := π.hand) (f' := { f with touch := false }) s rfl hf hpre
  rw [List.length_set]
  exact s.bringS [1, 0]
theorem found_clock {wh di : V} : ∀ (fuel : Nat) (π : Pl) (h : H) (E : List (Nat × V)) (Q : Ex → List (Nat × V) → H → Prop), touched π.frames ≤ fuel → π.hand < π.frames.length → π.frames.length < 4294967296 → (∀ f ∈ π.frames, f.pins = 0) →
  Sat h (pt r (.cells 6 (plC p q fid π.frames.length wh di π.hand) false) :: framesA fid π.frames :: S) → Has E [(0, .ptr r 0)] →
  (∀ E' h' (i : Nat) (π' : Pl) (f : Fm), Near π π' → π'.frames[i]? = some f → π'.hand < π'.frames.length → look E' 2 = some (.int .i64 (i : Int)) → Sat h' (pt r (.cells 6 (plC p q fid π'.frames.length wh di π'.hand) false) :: framesA fid π'.frames :: S) → Q .ret E' h') →
  WP ⟨Tryz.prog, told⟩ 70 (.loop fdB) E h Q := by
 intro fuel
 induction fuel with
 | zero =>
  intro π h E Q ht hh hm hp s hE hr
  have hf : π.frames[π.hand]? = some (π.frames[π.hand]'hh) := List.getElem?_eq_getElem _
  generalize (π.frames[π.hand]'hh) = f at hf
  refine found_step hf hm (hp f (List.mem_of_getElem? hf)) s hE (fun h1 E' h' h2 s' => ?_) (fun h1 => ?_)
  ·exact hr E' h' π.hand { π with hand := (π.hand + 1) % π.frames.length } f Near.hand hf (Nat.mod_lt _ (by omega)) h2 s'
  ·have := touched_set hf h1
   omega
 | succ fuel ih =>
  intro π h E Q ht hh hm hp s hE hr
  have hf : π.frames[π.hand]? = some (π.frames[π.hand]'hh) := List.getElem?_eq_getElem _
  generalize (π.frames[π.hand]'hh) = f at hf
  refine found_step hf hm (hp f (List.mem_of_getElem? hf)) s hE (fun h1 E' h' h2 s' => ?_) (fun h1 E' h' hE' s' => ?_)
  ·exact hr E' h' π.hand { π with hand := (π.hand + 1) % π.frames.length } f Near.hand hf (Nat.mod_lt _ (by omega)) h2 s'
  ·have hts := touched_set hf h1
   have hn : Near π { π with frames := π.frames.set π.hand { f with touch := false }, hand := (π.hand + 1) % π.frames.length } := (Near.untouch hf).trans Near.hand
   refine ih { π with frames := π.frames.set π.hand { f with touch := false }, hand := (π.hand + 1) % π.frames.length } h' E' Q (by show touched (π.frames.set π.hand { f with touch := false }) ≤ fuel; omega) ?_ (by simp only [List.length_set]; exact hm) (fun g hg => ?_) s' hE' (fun E2 h2 i π' g hn' hg hh2 hl s2 => hr E2 h2 i π' g (hn.trans hn') hg hh2 hl s2)
   ·simp only [List.length_set]; exact Nat.mod_lt _ (by omega)
   ·rcases List.mem_or_eq_of_mem_set hg with hg | rfl
    ·exact hp g hg
    ·exact hp f (List.mem_of_getElem? hf)
theorem found_ct (hT : W told) {wh di : V} (s : Sat h (pt r (.cells 6 (plC p q fid π.frames.length wh di π.hand) false) :: framesA fid π.frames :: S)) (hh : π.hand < π.frames.length) (hm : π.frames.length < 4294967296) (hp : ∀ f ∈ π.frames, f.pins = 0) :
  Call ⟨Tryz.prog, told⟩ 94 [.ptr r 0] h fun v h' => ∃ (i : Nat) (π' : Pl) (f : Fm), v = .int .i64 (i : Int) ∧ Near π π' ∧ π'.frames[i]? = some f ∧ π'.hand < π'.frames.length ∧
   Sat h' (pt r (.cells 6 (plC p q fid π'.frames.length wh di π'.hand) false) :: framesA fid π'.frames :: S) := by
 have h0 : π.frames[0]? = some (π.frames[0]'(by omega)) := List.getElem?_eq_getElem _
 generalize (π.frames[0]'(by omega)) = f0 at h0
 have s0 := s
 refine Call.of_wp (hT.free _ rfl) Tryz.func94 rfl rfl (zg rfl (za rfl (zv (WP.scope (zw (zg rfl (zm rfl (zn rfl (zf rfl (fa140_2 _ _) (zl rfl (by exact s.ld (k := 0) rfl ag137 rfl) ?_))))))))))
 refine zo rfl (o_len rfl rfl rfl (by exact len_slE rfl Tryz.underlying137)) ?_
 refine zm rfl (zv (WP.block ?_))
 refine found_first π.frames.length 0 _ _ _ (by omega) hm s ⟨rfl, rfl, rfl, trivial⟩ (fun E' i f hf _ h2 => ?_) (fun E' hE' => ?_)
 ·exact ⟨trivial, _, res1 h2, i, π, f, rfl, Near.refl π, hf, hh, s⟩
 ·skip
  refine WP.has hE' (zw (zg rfl (zm rfl (zn rfl (zf rfl (fa140_2 _ _) (zl rfl (by exact s.ld (k := 0) rfl ag137 rfl) ?_))))))
  refine WPs.call rfl rfl rfl rfl rfl rfl rfl (contains_ct hT (s.bringS [1]) h0 (hp f0 (List.mem_of_getElem? h0))) ?_
  rintro w h ⟨rfl, s⟩
  refine zo rfl (o_un rfl rfl) (zv (zj rfl (WP.skip (zw (WP.label (WP.block ?_))))))
  refine found_clock (touched π.frames) π _ _ _ (Nat.le_refl _) hh hm hp (s.bringS [1, 0]) ⟨rfl, trivial⟩ (fun E' h' i π' f hn hf hh2 h2 s' => ?_)
  exact ⟨trivial, _, res1 h2, i, π', f, rfl, hn, hf, hh2, s'⟩
end
end Go.Proofs.YtconhghphklfjaaGreat.Am
