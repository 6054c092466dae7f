/- A group that is over or open, pages that are none and records that may not be are refused, and a record that was done is read back; the conditions are those of the given statement, for arguments that a machine can hold. Part 32 of 44. -/
import Derived.Test.YtconhghphklfjaaGreatE31
namespace Go.Proofs.YtconhghphklfjaaGreat.Am
open Go
structure Pl.Ok (π : Pl) : Prop where
 hand : π.hand < π.frames.length
 many : π.frames.length ≤ 1024
 wher : ∀ e ∈ π.wher, 0 ≤ e.2 ∧ e.2 < π.frames.length
 len : ∀ f ∈ π.frames, f.b.length ≤ 512
 pins : ∀ f ∈ π.frames, 0 ≤ f.pins ∧ f.pins ≤ 4294967296
theorem Pl.Ok.at {π : Pl} (h : π.Ok) {n i : Int} (hl : lookL n π.wher = some i) : ∃ (k : Nat) (f : Fm), i = k ∧ π.frames[k]? = some f := by
 have h1 := h.wher _ (lookL_mem hl)
 exact ⟨i.toNat, π.frames[i.toNat]'(by have := h1.2; simp only at this; omega), by have := h1.1; simp only at this; omega, List.getElem?_eq_getElem _⟩
def heldI (π : Pl) (n : Int) : Option Nat := match lookL n π.wher with
 | none => none
 | some i => match π.frames[i.toNat]? with
  | none => none
  | some f => if f.pins = 0 then none else some i.toNat
def unpinF (π : Pl) (n : Int) : Int × Pl := match heldI π n with
 | none => (18, π)
 | some i => match π.frames[i]? with
  | none => (18, π)
  | some f => (0, { π with frames := π.frames.set i { f with pins := f.pins - 1 } })
def dirtOf (π : Pl) (n : Int) (lsn : Nat) : Nat := match lookL n π.dirty with
 | some x => x.1
 | none => lsn
def putF (π : Pl) (n : Int) (b : List Nat) (lsn : Nat) : Int × Pl := match heldI π n with
 | none => (18, π)
 | some i => match π.frames[i]? with
  | none => (18, π)
  | some f => if goodL b = false then (4, π) else (0, { π with frames := π.frames.set i { f with b := sealL b lsn, changed := true }, dirty := putL n (dirtOf π n lsn, true) π.dirty })
section
variable {told : Nat → Option (List V → H → Option (V × H))} {h : H} {S : List Assn} {X : Assn} {r k q p fid : Nat} {v x wh di : V} {l b : List Nat} {π : Pl} {m : List Fm} {μ : Lg} {δ : Dk}
theorem wh_look {n : Int} {j : Nat} (s : Sat h (whA wh π.wher :: S)) : (lookL n π.wher = none ∧ lookupX Tryz.prog h 136 wh (.int .i64 n) true = some (.tup [.int .i64 0, .bool false])) ∨
  ∃ i, lookL n π.wher = some i ∧ lookupX Tryz.prog h 136 wh (.int .i64 n) true = some (.tup [.int .i64 i, .bool true]) := by
 rcases mapV_look (f := fun v (x : Int) => .pu (v = .int .i64 x)) (n := n) (fun _ _ => Pers.pu _) s Tryz.underlying136 Tryz.underlying3 zt3 with ⟨g1, g2, _⟩ | ⟨u, i, g1, g2, _, s'⟩
 ·exact .inl ⟨g1, g2⟩
 ·obtain ⟨rfl, _⟩ := Sat_pu.1 s'
  exact .inr ⟨i, g1, g2⟩
theorem di_look {n : Int} (s : Sat h (diA di π.dirty :: S)) : (lookL n π.dirty = none ∧ lookupX Tryz.prog h 138 di (.int .i64 n) true = some (.tup [.agg [.int .u64 0, .bool false], .bool false]) ∧ lookupX Tryz.prog h 138 di (.int .i64 n) false = some (.agg [.int .u64 0, .bool false])) ∨
  ∃ x, lookL n π.dirty = some x ∧ lookupX Tryz.prog h 138 di (.int .i64 n) true = some (.tup [.agg [.int .u64 (x.1 : Int), .bool x.2], .bool true]) ∧ lookupX Tryz.prog h 138 di (.int .i64 n) false = some (.agg [.int .u64 (x.1 : Int), .bool x.2]) := by
 rcases mapV_look (f := fun v (x : Nat × Bool) => .pu (v = .agg [.int .u64 (x.1 : Int), .bool x.2])) (n := n) (fun _ _ => Pers.pu _) s Tryz.underlying138 Tryz.underlying3 zt143 with ⟨g1, g2, g3⟩ | ⟨u, x, g1, g2, g3, s'⟩
 ·exact .inl ⟨g1, g2, g3⟩
 ·obtain ⟨rfl, _⟩ := Sat_pu.1 s'
  exact .inr ⟨x, g1, g2, g3⟩
theorem held_ct (hT : W told) {n : Int} (s : Sat h (pt r (.cells 6 (plC p q fid π.frames.length wh di π.hand) false) :: framesA fid π.frames :: whA wh π.wher :: S)) (hπ : π.Ok) :
  Call ⟨Tryz.prog, told⟩ 97 [.ptr r 0, .int .i64 n] h fun v h' => h' = h ∧ ((heldI π n = none ∧ v = .tup [.ptr0, .int .i64 18]) ∨ ∃ (i : Nat) (f : Fm), heldI π n = some i ∧ π.frames[i]? = some f ∧ v = .tup [.ptr fid (i * 5), .int .i64 0]) := by
 refine Call.of_wp (hT.free _ rfl) Tryz.func97 rfl rfl (zg rfl (za rfl (za rfl (zv (zg rfl (zm rfl (zn rfl (zf rfl (fa140_3 _ _) (zl rfl (by exact s.ld (k := 0) rfl ag136 rfl) ?_)))))))))
 refine zm rfl ?_
 rcases wh_look (n := n) (j := 0) (s.bringS [2]) with ⟨g1, g2⟩ | ⟨i, g1, g2⟩
 ·refine WPs.op rfl rfl rfl (o_look rfl rfl g2) ?_
  refine zm rfl (ze rfl (ze rfl (za rfl (za rfl (zv (zw (zg rfl (zm rfl (WPs.opT rfl rfl rfl (o_un rfl rfl) (rfl) (zm rfl (zx rfl (zx rfl (zx rfl (zx rfl (zx rfl (zx rfl (zx rfl (zx rfl (zx rfl (zq rfl (zv (zi rfl (zw ?_)))))))))))))))))))))))
  refine zr rfl (za rfl (za rfl (zv ?_)))
  refine WP.ret ⟨trivial, _, rfl, ?_⟩
  exact ⟨rfl, .inl ⟨by simp only [heldI, g1], rfl⟩⟩
 ·obtain ⟨i, f, rfl, hf⟩ := hπ.at g1
  have hl := (List.getElem?_eq_some_iff.1 hf).1
  have hh : heldI π n = if f.pins = 0 then none else some i := by simp only [heldI, g1, Int.toNat_natCast, hf]
  obtain ⟨pre, fv, post, hpre, hlen, s'⟩ := frame_open (s.bringS [1]) hf
  refine zo rfl (o_look rfl rfl g2) (zm rfl (ze rfl (ze rfl (za rfl (za rfl (zv (zw (zg rfl (zm rfl (WPs.opF rfl rfl rfl (o_un rfl rfl) (rfl) (zm rfl (zm rfl (zn rfl (zf rfl (fa140_2 _ _) (zl rfl (by exact s.ld (k := 0) rfl ag137 rfl) ?_)))))))))))))))
  refine zm rfl (zo rfl (o_ia rfl rfl (ia_frame (i := i) hl)) (zf rfl (fa167_2 _ _) (zl rfl (s'.ld (k := 0) rfl ag3 (nth_mid hpre rfl)) ?_)))
  refine WPs.opB rfl rfl rfl (o_bin rfl rfl bEql) ?_ ?_
  ·intro hq
   have hq : f.pins = 0 := by simpa using hq
   refine zp rfl (zv (zi rfl (zg rfl (za rfl (za rfl (zv ?_))))))
   refine WP.ret ⟨trivial, _, rfl, ?_⟩
   exact ⟨rfl, .inl ⟨by rw [hh, if_pos hq], rfl⟩⟩
  ·intro hq
   have hq : f.pins ≠ 0 := by simpa using hq
   refine zp rfl (zv (zj rfl (WP.skip (zg rfl (zm rfl (zn rfl (zf rfl (fa140_2 _ _) (zl rfl (by exact s.ld (k := 0) rfl ag137 rfl) ?_))))))))
   refine zm rfl (zo rfl (o_ia rfl rfl (ia_frame (i := i) hl)) (za rfl (za rfl (zv ?_))))
   refine WP.ret ⟨trivial, _, rfl, ?_⟩
   exact ⟨rfl, .inr ⟨i, f, by rw [hh, if_neg hq], hf, rfl⟩⟩
theorem unpin_ct (hT : W told) {n : Int} (s : Sat h (isPl r p q π :: S)) (hπ : π.Ok) :
  Call ⟨Tryz.prog, told⟩ 54 [.ptr r 0, .int .i64 n] h fun v h' => v = .int .i64 (unpinF π n).1 ∧ Sat h' (isPl r p q (unpinF π n).2 :: S) := by
 have s0 := s
 obtain ⟨fid, wh, di, s⟩ := isPl_iff.1 s
 refine Call.of_wp (hT.free _ rfl) Tryz.func54 rfl rfl (zg rfl (za rfl (zv (zg rfl (zm rfl (zm rfl (WPs.call rfl rfl rfl rfl rfl rfl rfl (held_ct (n := n) hT s hπ) ?_)))))))
 rintro v h' ⟨rfl, (⟨hh, rfl⟩ | ⟨i, f, hh, hf, rfl⟩)⟩
 ·have he : unpinF π n = (18, π) := by simp only [unpinF, hh]
  rw [he]
  refine zm rfl (ze rfl (ze rfl (za rfl (za rfl (zv (zw (zg rfl (zm rfl (WPs.opT rfl rfl rfl (o_bin rfl rfl bNeq) (rfl) (zv (zi rfl (zg rfl (zm rfl (za rfl (zv ?_)))))))))))))))
  refine WP.ret ⟨trivial, _, rfl, ?_⟩
  exact ⟨rfl, s0⟩
 ·have he : unpinF π n = (0, { π with frames := π.frames.set i { f with pins := f.pins - 1 } }) := by simp only [unpinF, hh, hf]
  rw [he]
  obtain ⟨pre, fv, post, hpre, hlen, s⟩ := frame_open (s.bringS [1]) hf
  dsimp only [bringA, getA, delA] at s
  have hpin := hπ.pins f (List.mem_of_getElem? hf)
  refine zm rfl (ze rfl (ze rfl (za rfl (za rfl (zv (zw (zg rfl (zm rfl (WPs.opF rfl rfl rfl (o_bin rfl rfl bNeq) (rfl) (zv (zj rfl (WP.skip (zg rfl (zm rfl (zn rfl (zf rfl (fa167_2 _ _) (zl rfl (s.ld (k := 0) rfl ag3 (nth_mid hpre rfl)) (zb rfl (by exact bSub (wrapS (by omega) (by omega))) ?_))))))))))))))))))
  refine zn rfl (zf rfl (fa167_2 _ _) (WPs.stS rfl rfl rfl rfl rfl (s.stM (k := 0) (j := 2) rfl sz3 hpre hlen (by simp [fmC]) rfl rfl) ?_))
  intro h s
  dsimp only [setA] at s
  have e5 : (fmC f fv).set 2 (.int .i64 (f.pins - 1)) = fmC { f with pins := f.pins - 1 } fv := rfl
  rw [e5] at s
  refine zv (zg rfl (za rfl (zv ?_)))
  refine WP.ret ⟨trivial, _, rfl, ?_⟩
  refine ⟨rfl, isPl_iff.2 ⟨fid, wh, di, ?_⟩⟩
  have s := frame_close (i := i) (f' := { f with pins := f.pins - 1 }) s rfl hf hpre
  rw [List.length_set]
  exact s.bringS [1, 0]
theorem put2_ct (hT : W told) {n : Int} {lsn : Nat} {bv : V} (s : Sat h (isPl r p q π :: X :: S)) (hX : Ent X (rdB bv b)) (hπ : π.Ok) (hb : b.length < 9223372036854775808) :
  Call ⟨Tryz.prog, told⟩ 53 [.ptr r 0, .int .i64 n, bv, .int .u64 (lsn : Int)] h fun v h' => v = .int .i64 (putF π n b lsn).1 ∧ Sat h' (isPl r p q (putF π n b lsn).2 :: X :: S) := by
 have s0 := s
 obtain ⟨fid, wh, di, s⟩ := isPl_iff.1 s
 refine Call.of_wp (hT.free _ rfl) Tryz.func53 rfl rfl (zg rfl (za rfl (zv (zg rfl (zm rfl (zm rfl (WPs.call rfl rfl rfl rfl rfl rfl rfl (held_ct (n := n) hT s hπ) ?_)))))))
 rintro v h' ⟨rfl, (⟨hh, rfl⟩ | ⟨i, f, hh, hf, rfl⟩)⟩
 ·have he : putF π n b lsn = (18, π) := by simp only [putF, hh]
  rw [he]
  refine zm rfl (ze rfl (ze rfl (za rfl (za rfl (zv (zw (zg rfl (zm rfl (WPs.opT rfl rfl rfl (o_bin rfl rfl bNeq) (rfl) (zv (zi rfl (zg rfl (zm rfl (za rfl (zv ?_)))))))))))))))
  refine WP.ret ⟨trivial, _, rfl, ?_⟩
  exact ⟨rfl, s0⟩
 ·have he : putF π n b lsn = (if goodL b = false then (4, π) else (0, { π with frames := π.frames.set i { f with b := sealL b lsn, changed := true }, dirty := putL n (dirtOf π n lsn, true) π.dirty })) := by simp only [putF, hh, hf]
  rw [he]
  refine zm rfl (ze rfl (ze rfl (za rfl (za rfl (zv (zw (zg rfl (zm rfl (WPs.opF rfl rfl rfl (o_bin rfl rfl bNeq) (rfl) (zv (zj rfl (WP.skip (zg rfl (zm rfl (zm rfl (WPs.call rfl rfl rfl rfl rfl rfl rfl (seal_ct (n := lsn) hT (s.bringS [4]) hX hb) ?_))))))))))))))))
  rintro v h (⟨hg, u, rfl, s⟩ | ⟨hg, rfl, s⟩)
  ·rw [if_neg (by rw [hg]; decide)]
   dsimp only [bringA, getA, delA] at s
   have hul : (sealL b lsn).length = 512 := by
    have h1 := lsnL_len (n := lsn) (good512 hg)
    rw [sealL, splice_len (by rw [le_len]; omega), h1]
   obtain ⟨bid, _, cap, _, rfl, _⟩ := s.openBuf (by omega)
   have s := s.freezeBuf
   obtain ⟨pre, fv, post, hpre, hlen, s⟩ := frame_open (s.bringS [3]) hf
   dsimp only [bringA, getA, delA] at s
   refine zm rfl (ze rfl (ze rfl (za rfl (za rfl (zv (zw (zg rfl (zm rfl (WPs.opF rfl rfl rfl (o_bin rfl rfl bNeq) (rfl) (zv (zj rfl (WP.skip (zg rfl (zm rfl (zm rfl (zm rfl (zn rfl (zf rfl (fa167_1 _ _) (WPs.stS rfl rfl rfl rfl rfl (s.stM (k := 0) (j := 1) rfl sz32 hpre hlen (by simp [fmC]) rfl rfl) ?_)))))))))))))))))))
   intro h s
   dsimp only [setA] at s
   refine zn rfl (zf rfl (fa167_4 _ _) (WPs.stS rfl rfl rfl rfl rfl (s.stM (k := 0) (j := 4) rfl sz4 hpre (by simpa [fmC] using hlen) (by simp [fmC]) rfl rfl) ?_))
   intro h s
   dsimp only [setA] at s
   have e5 : ((fmC f fv).set 1 (.sl bid 0 (sealL b lsn).length cap)).set 4 (.bool true) = fmC { f with b := sealL b lsn, changed := true } (.sl bid 0 (sealL b lsn).length cap) := rfl
   rw [e5] at s
   have s := frame_close (i := i) (f' := { f with b := sealL b lsn, changed := true }) (s.bringS [0, 0, 1]) rfl hf hpre
   dsimp only [bringA, getA, delA] at s
   have s := s.bringS [3, 4, 0]
   dsimp only [bringA, getA, delA] at s
   refine zv (zg rfl (zm rfl (zn rfl (zf rfl (fa140_4 _ _) (zl rfl (by exact s.ld (k := 0) rfl ag138 rfl) ?_)))))
   refine zm rfl ?_
   rcases di_look (n := n) (s.bringS [1]) with ⟨g1, g2, _⟩ | ⟨x, g1, g2, _⟩
   ·refine WPs.op rfl rfl rfl (o_look rfl rfl g2) ?_
    refine zm rfl (ze rfl (ze rfl ?_))
    refine WPs.newS s rfl rfl rfl (o_alloc zt143) (fun p12 h s => ?_)
    dsimp only [V.cells, List.length_cons, List.length_nil, Nat.reduceAdd] at s
    refine WPs.stS rfl rfl rfl rfl rfl (by exact s.stA (j := 0) rfl sz143 rfl rfl) (fun h s => ?_)
    dsimp only [setA] at s
    refine za rfl (zv (zw (zg rfl (zm rfl (zo rfl (o_un rfl rfl) (zv (zi rfl (zr rfl (zm rfl (zf rfl (fa143_0 _ _) ?_))))))))))
    refine WPs.stS rfl rfl rfl rfl rfl (by exact s.st1 (k := 0) rfl sz35 rfl (by decide) rfl rfl) (fun h s => ?_)
    dsimp only [Nat.reduceAdd, List.set, setA] at s
    refine zv (zg rfl (zf rfl (fa143_1 _ _) ?_))
    refine WPs.stS rfl rfl rfl rfl rfl (by exact s.st1 (k := 0) rfl sz4 rfl (by decide) rfl rfl) (fun h s => ?_)
    dsimp only [Nat.reduceAdd, List.set, setA] at s
    refine zv (zw (WP.drawn [none, none, none, none, none, none, none] rfl (by kernel_rfl) (by kernel_rfl) ?_))
    refine zM rfl (zN rfl (zF rfl (fa140_4 _ _) (zL rfl (by exact s.ld (k := 1) rfl ag138 rfl) ?_)))
    refine zM rfl (zL rfl (by exact s.ldA (k := 0) rfl ag143 sz143) ?_)
    refine WPt.any0 rfl rfl rfl (OpR.mapUpdate rfl rfl rfl rfl (mapV_put (f := fun v (x : Nat × Bool) => .pu (v = .agg [.int .u64 (x.1 : Int), .bool x.2])) (x := (lsn, true)) (fun _ _ => Pers.pu _) ((s.bringS [2]).addPu rfl) Tryz.underlying138 Tryz.underlying3)) ?_
    intro w h s
    dsimp only [delA, bringA] at s
    refine WPt.nil ⟨⟨trivial, trivial, trivial, trivial, trivial, trivial, trivial, trivial⟩, ?_⟩
    refine zg rfl (za rfl (zv ?_))
    refine WP.ret ⟨trivial, _, rfl, ?_⟩
    have ed : dirtOf π n lsn = lsn := by simp only [dirtOf, g1]
    rw [ed]
    refine ⟨rfl, isPl_iff.2 ⟨fid, wh, di, ?_⟩⟩
    have e6 : (π.frames.set i { f with b := sealL b lsn, changed := true }).length = π.frames.length := List.length_set
    show Sat h (pt r (.cells 6 (plC p q fid (π.frames.set i { f with b := sealL b lsn, changed := true }).length wh di π.hand) false) :: _)
    rw [e6]
    exact ((s.bringS [2, 2, 4, 0, 2]).del 6).del 5
   ·skip
    refine zo rfl (o_look rfl rfl g2) (zm rfl (ze rfl (ze rfl ?_)))
    refine WPs.newS s rfl rfl rfl (o_alloc zt143) (fun p12 h s => ?_)
    dsimp only [V.cells, List.length_cons, List.length_nil, Nat.reduceAdd] at s
    refine WPs.stS rfl rfl rfl rfl rfl (by exact s.stA (j := 0) rfl sz143 rfl rfl) (fun h s => ?_)
    dsimp only [setA] at s
    refine za rfl (zv (zw (zg rfl (zm rfl (zo rfl (o_un rfl rfl) (zv (zj rfl (WP.skip (zg rfl (zf rfl (fa143_1 _ _) ?_))))))))))
    refine WPs.stS rfl rfl rfl rfl rfl (by exact s.st1 (k := 0) rfl sz4 rfl (by decide) rfl rfl) (fun h s => ?_)
    dsimp only [Nat.reduceAdd, List.set, setA] at s
    refine zv (zw (WP.drawn [none, none, none, none, none, none, none] rfl (by kernel_rfl) (by kernel_rfl) ?_))
    refine zM rfl (zN rfl (zF rfl (fa140_4 _ _) (zL rfl (by exact s.ld (k := 1) rfl ag138 rfl) ?_)))
    refine zM rfl (zL rfl (by exact s.ldA (k := 0) rfl ag143 sz143) ?_)
    refine WPt.any0 rfl rfl rfl (OpR.mapUpdate rfl rfl rfl rfl (mapV_put (f := fun v (x : Nat × Bool) => .pu (v = .agg [.int .u64 (x.1 : Int), .bool x.2])) (x := (x.1, true)) (fun _ _ => Pers.pu _) ((s.bringS [2]).addPu rfl) Tryz.underlying138 Tryz.underlying3)) ?_
    intro w h s
    dsimp only [delA, bringA] at s
    refine WPt.nil ⟨⟨trivial, trivial, trivial, trivial, trivial, trivial, trivial, trivial⟩, ?_⟩
    refine zg rfl (za rfl (zv ?_))
    refine WP.ret ⟨trivial, _, rfl, ?_⟩
    have ed : dirtOf π n lsn = x.1 := by simp only [dirtOf, g1]
    rw [ed]
    refine ⟨rfl, isPl_iff.2 ⟨fid, wh, di, ?_⟩⟩
    have e6 : (π.frames.set i { f with b := sealL b lsn, changed := true }).length = π.frames.length := List.length_set
    show Sat h (pt r (.cells 6 (plC p q fid (π.frames.set i { f with b := sealL b lsn, changed := true }).length wh di π.hand) false) :: _)
    rw [e6]
    exact ((s.bringS [2, 2, 4, 0, 2]).del 6).del 5
  ·rw [if_pos hg]
   refine zm rfl (ze rfl (ze rfl (za rfl (za rfl (zv (zw (zg rfl (zm rfl (WPs.opT rfl rfl rfl (o_bin rfl rfl bNeq) (rfl) (zv (zi rfl (zg rfl (zm rfl (za rfl (zv ?_)))))))))))))))
   refine WP.ret ⟨trivial, _, rfl, ?_⟩
   exact ⟨rfl, isPl_iff.2 ⟨fid, wh, di, s.bringS [1, 1, 1, 1, 0]⟩⟩
theorem rec_ct (hT : W told) {n : Int} (s : Sat h (isPl r p q π :: S)) : Call ⟨Tryz.prog, told⟩ 86 [.ptr r 0, .int .i64 n] h fun v h' => v = .tup [.int .u64 (dirtOf π n 0 : Nat), .bool (lookL n π.dirty).isSome] ∧ Sat h' (isPl r p q π :: S) := by
 obtain ⟨fid, wh, di, s⟩ := isPl_iff.1 s
 refine Call.of_wp (hT.free _ rfl) Tryz.func86 rfl rfl (zg rfl (za rfl (za rfl (zv (zg rfl (zm rfl (zn rfl (zf rfl (fa140_4 _ _) (zl rfl (by exact s.ld (k := 0) rfl ag138 rfl) ?_)))))))))
 refine zm rfl ?_
 rcases di_look (n := n) (s.bringS [3]) with ⟨g1, g2, _⟩ | ⟨x, g1, g2, _⟩
 ·refine WPs.op rfl rfl rfl (o_look rfl rfl g2) ?_
  refine zm rfl (ze rfl (ze rfl ?_))
  refine WPs.newS s rfl rfl rfl (o_alloc zt143) (fun p6 h s => ?_)
  dsimp only [V.cells, List.length_cons, List.length_nil, Nat.reduceAdd] at s
  refine WPs.stS rfl rfl rfl rfl rfl (by exact s.stA (j := 0) rfl sz143 rfl rfl) (fun h s => ?_)
  dsimp only [setA] at s
  refine za rfl (zv (zg rfl (zf rfl (fa143_0 _ _) (zl rfl (by exact s.ld (k := 0) rfl ag35 rfl) ?_))))
  refine zm rfl (za rfl (za rfl (zv ?_)))
  refine WP.ret ⟨trivial, _, rfl, ?_⟩
  exact ⟨by simp only [dirtOf, g1]; rfl, isPl_iff.2 ⟨fid, wh, di, s.drop⟩⟩
 ·skip
  refine zo rfl (o_look rfl rfl g2) (zm rfl (ze rfl (ze rfl ?_)))
  refine WPs.newS s rfl rfl rfl (o_alloc zt143) (fun p6 h s => ?_)
  dsimp only [V.cells, List.length_cons, List.length_nil, Nat.reduceAdd] at s
  refine WPs.stS rfl rfl rfl rfl rfl (by exact s.stA (j := 0) rfl sz143 rfl rfl) (fun h s => ?_)
  dsimp only [setA] at s
  refine za rfl (zv (zg rfl (zf rfl (fa143_0 _ _) (zl rfl (by exact s.ld (k := 0) rfl ag35 rfl) ?_))))
  refine zm rfl (za rfl (za rfl (zv ?_)))
  refine WP.ret ⟨trivial, _, rfl, ?_⟩
  exact ⟨by simp only [dirtOf, g1]; rfl, isPl_iff.2 ⟨fid, wh, di, s.drop⟩⟩
def emptyF : Fm := ⟨-1, [], 0, false, false⟩
def freed (π : Pl) (i : Nat) (f : Fm) : Pl := { π with frames := π.frames.set i emptyF, wher := if f.page < 0 then π.wher else delL f.page π.wher }
def loaded (π : Pl) (i : Nat) (n : Int) (b : List Nat) : Pl := { π with frames := π.frames.set i ⟨n, b, 1, true, false⟩, wher := putL n (i : Int) π.wher }
inductive PinR (ε : Eng) (n : Int) : Int → List Nat → Eng → Prop where
 | arg (h : ¬(0 ≤ n ∧ n < ε.2.2.pages.length)) : PinR ε n 1 [] ε
 | hit (i : Nat) (f : Fm) (h1 : 0 ≤ n) (h2 : n < ε.2.2.pages.length) (hl : lookL n ε.1.wher = some (i : Int)) (hf : ε.1.frames[i]? = some f) : PinR ε n 0 f.b ({ ε.1 with frames := ε.1.frames.set i { f with touch := true, pins := f.pins + 1 } }, ε.2)
 | out (π' : Pl) (i : Nat) (f : Fm) (h1 : 0 ≤ n) (h2 : n < ε.2.2.pages.length) (hl : lookL n ε.1.wher = none) (hn : Near ε.1 π') (hf : π'.frames[i]? = some f) (hh : π'.hand < π'.frames.length) (he : (outF (π', ε.2) i).1 ≠ 0) : PinR ε n (outF (π', ε.2) i).1 [] (outF (π', ε.2) i).2
 | read (π' : Pl) (i : Nat) (f : Fm) (h1 : 0 ≤ n) (h2 : n < ε.2.2.pages.length) (hl : lookL n ε.1.wher = none) (hn : Near ε.1 π') (hf : π'.frames[i]? = some f) (hh : π'.hand < π'.frames.length) (he : (outF (π', ε.2) i).1 = 0)
   (hr : (outF (π', ε.2) i).2.2.2.readE n ≠ 0) : PinR ε n ((outF (π', ε.2) i).2.2.2.readE n) [] (freed (outF (π', ε.2) i).2.1 i f, (outF (π', ε.2) i).2.2)
 | bad (π' : Pl) (i : Nat) (f : Fm) (h1 : 0 ≤ n) (h2 : n < ε.2.2.pages.length) (hl : lookL n ε.1.wher = none) (hn : Near ε.1 π') (hf : π'.frames[i]? = some f) (hh : π'.hand < π'.frames.length) (he : (outF (π', ε.2) i).1 = 0)
   (hr : (outF (π', ε.2) i).2.2.2.readE n = 0) (hc : checkL ((outF (π', ε.2) i).2.2.2.at n) ≠ 0) : PinR ε n (checkL ((outF (π', ε.2) i).2.2.2.at n)) [] (freed (outF (π', ε.2) i).2.1 i f, (outF (π', ε.2) i).2.2)
 | load (π' : Pl) (i : Nat) (f : Fm) (h1 : 0 ≤ n) (h2 : n < ε.2.2.pages.length) (hl : lookL n ε.1.wher = none) (hn : Near ε.1 π') (hf : π'.frames[i]? = some f) (hh : π'.hand < π'.frames.length) (he : (outF (π', ε.2) i).1 = 0)
   (hr : (outF (π', ε.2) i).2.2.2.readE n = 0) (hc : checkL ((outF (π', ε.2) i).2.2.2.at n) = 0) : PinR ε n 0 ((outF (π', ε.2) i).2.2.2.at n) (loaded (freed (outF (π', ε.2) i).2.1 i f) i n ((outF (π', ε.2) i).2.2.2.at n), (outF (π', ε.2) i).2.2)
theorem outF_okD {ε : Eng} {i : Nat} (h : ε.2.2.Ok) : (outF ε i).2.2.2.Ok := by
 unfold outF
 split
 ·exact h
 ·split
  ·exact h
  ·split
   ·exact h
   ·split
    ·exact forceLD_ok h
    ·split
     ·exact (forceLD_ok h).writeF
     ·exact (forceLD_ok h).writeF
theorem outF_okL {ε : Eng} {i : Nat} (h : ε.2.1.Ok) : (outF ε i).2.2.1.Ok := by
 unfold outF
 split
 ·exact h
 ·split
  ·exact h
  ·split
   ·exact h
   ·split
    ·exact forceLD_okL h
    ·split <;> exact forceLD_okL h
theorem outF_frame {ε : Eng} {i : Nat} {f : Fm} (hf : ε.1.frames[i]? = some f) : ∃ c, (outF ε i).2.1.frames[i]? = some { f with changed := c } := by
 have hl := (List.getElem?_eq_some_iff.1 hf).1
 unfold outF
 rw [hf]
 dsimp only
 split
 ·exact ⟨f.changed, hf⟩
 ·split
  ·exact ⟨f.changed, hf⟩
  ·split
   ·exact ⟨f.changed, hf⟩
   ·split
    ·exact ⟨f.changed, hf⟩
    ·exact ⟨false, by simp [List.getElem?_set, hl]⟩
theorem pin_ct (hT : W told) {n : Int} (s : Sat h (isPl r p q π :: isLg q p μ :: isDk p δ :: S)) (hπ : π.Ok) (hpin : ∀ f ∈ π.frames, f.pins = 0) (hμ : μ.Ok) (hδ : δ.Ok) (hw : δ.waiting.length ≤ 268435456) :
  Call ⟨Tryz.prog, told⟩ 52 [.ptr r 0, .int .i64 n] h fun v h' => ∃ (e : Int) (b : List Nat) (ε : Eng), PinR (π, μ, δ) n e b ε ∧
   ((e ≠ 0 ∧ v = .tup [.sl0, .int .i64 e] ∧ Sat h' (isPl r p q ε.1 :: isLg q p ε.2.1 :: isDk p ε.2.2 :: S)) ∨ (e = 0 ∧ ∃ u, v = .tup [u, .int .i64 0] ∧ Sat h' (bufA u b :: isPl r p q ε.1 :: isLg q p ε.2.1 :: isDk p ε.2.2 :: S))) := by
 have s0 := s
 obtain ⟨fid, wh, di, s⟩ := isPl_iff.1 s
 refine Call.of_wp (hT.free _ rfl) Tryz.func52 rfl rfl (zg rfl (za rfl (za rfl (zv (zw (zg rfl (zm rfl ?_)))))))
 refine WPs.opB rfl rfl rfl (o_bin rfl rfl bLss) ?_ ?_
 ·intro hq
  have hq : n < 0 := by simpa using hq
  refine zm rfl (zx rfl (zx rfl (zx rfl (zx rfl (zx rfl (zx rfl (zx rfl (zq rfl (zv (zi rfl (zg rfl (za rfl (za rfl (zv ?_))))))))))))))
  refine WP.ret ⟨trivial, _, rfl, ?_⟩
  exact ⟨1, [], (π, μ, δ), .arg (fun q => by omega), .inl ⟨by decide, rfl, s0⟩⟩
 ·intro hq
  have hq : 0 ≤ n := by simp at hq; omega
  refine zm rfl (zm rfl (zm rfl (zn rfl (zf rfl (fa140_0 _ _) (zl rfl (by exact s.ld (k := 0) rfl ag23 rfl) ?_)))))
  refine WPs.call rfl rfl rfl rfl rfl rfl rfl (pages_ct hT (s.bringS [5])) ?_
  rintro v h' ⟨rfl, rfl⟩
  refine WPs.opB rfl rfl rfl (o_bin rfl rfl bGeq) ?_ ?_
  ·intro hq2
   have hq2 : ¬ n < δ.pages.length := by simp at hq2; omega
   refine zp rfl (zv (zi rfl (zg rfl (za rfl (za rfl (zv ?_))))))
   refine WP.ret ⟨trivial, _, rfl, ?_⟩
   exact ⟨1, [], (π, μ, δ), .arg (fun q => hq2 q.2), .inl ⟨by decide, rfl, s0⟩⟩
  ·intro hq2
   have hq2 : n < δ.pages.length := by simp at hq2; omega
   refine zp rfl (zv (zj rfl (WP.skip (zw (zg rfl (zm rfl (zn rfl (zf rfl (fa140_3 _ _) (zl rfl (by exact s.ld (k := 0) rfl ag136 rfl) ?_)))))))))
   refine zm rfl ?_
   rcases wh_look (n := n) (j := 0) (s.bringS [2]) with ⟨g1, g2⟩ | ⟨i, g1, g2⟩
   ·refine WPs.op rfl rfl rfl (o_look rfl rfl g2) ?_
    refine zm rfl (ze rfl (ze rfl (za rfl (za rfl (zv (zg rfl (zm rfl (zv (zj rfl (WP.skip (zg rfl (zm rfl (WPs.call rfl rfl rfl rfl rfl rfl rfl (found_ct hT s hπ.hand (by have := hπ.many; omega) hpin) ?_)))))))))))))
    rintro v h ⟨i, π', f, rfl, hnear, hf, hh, s⟩
    have hl := (List.getElem?_eq_some_iff.1 hf).1
    rw [← hnear.wher, ← hnear.dirty] at s
    have hfb : f.b.length ≤ 512 := by
     have h1 : π.frames[i]? = some (π.frames[i]'(by have := hnear.len; omega)) := List.getElem?_eq_getElem _
     generalize (π.frames[i]'(by have := hnear.len; omega)) = f0 at h1
     obtain ⟨t, ht⟩ := hnear.get i f0 h1
     rw [hf] at ht
     have := Option.some.inj ht
     rw [this]
     exact hπ.len f0 (List.mem_of_getElem? h1)
    refine za rfl (zv (zw (zg rfl (zm rfl (WPs.opF rfl rfl rfl (o_bin rfl rfl bLss) (by simp <;> omega) ?_)))))
    refine zv (zj rfl (WP.skip (zg rfl (zm rfl (zn rfl (zf rfl (fa140_2 _ _) (zl rfl (by exact s.ld (k := 0) rfl ag137 rfl) ?_)))))))
    refine zm rfl (zo rfl (o_ia rfl rfl (ia_frame (i := i) hl)) (za rfl (zv (zw (zg rfl (zm rfl (zm rfl (WPs.call rfl rfl rfl rfl rfl rfl rfl (out_ct (π := π') hT s hf hμ hδ (by omega) hw) ?_))))))))
    rintro v h ⟨rfl, s⟩
    obtain ⟨c, hf1⟩ := outF_frame (ε := (π', μ, δ)) hf
    have hokd := outF_okD (ε := (π', μ, δ)) (i := i) hδ
    refine za rfl (zv (zg rfl (zm rfl ?_)))
    by_cases he : (outF (π', μ, δ) i).1 = 0
    ·generalize ho : outF (π', μ, δ) i = o at he s hf1 hokd ⊢
     obtain ⟨oe, π1, μ1, δ1⟩ := o
     dsimp only at he s hf1 hokd ⊢
     subst he
     have ho1 : (outF (π', μ, δ) i).1 = 0 := by rw [ho]
     have ho2 : (outF (π', μ, δ) i).2 = (π1, μ1, δ1) := by rw [ho]
     refine WPs.opF rfl rfl rfl (o_bin rfl rfl bNeq) (by decide) ?_
     obtain ⟨pre, fv, post, hpre, hlen, s⟩ := frame_open (s.bringS [1]) hf1
     dsimp only [bringA, getA, delA] at s
     refine zv (zj rfl (WP.skip (zw (zg rfl (zm rfl (zn rfl (zf rfl (fa167_0 _ _) (zl rfl (s.ld (k := 0) rfl ag3 (nth_mid hpre rfl)) ?_))))))))
     refine WPs.opB rfl rfl rfl (o_bin rfl rfl bGeq) ?_ ?_
     ·intro hpg
      have hpg : ¬ f.page < 0 := by simp at hpg; omega
      refine zv (zi rfl (WP.drawn [none, none, none, none, none, none, none, none, none] rfl (by kernel_rfl) (by kernel_rfl) ?_))
      refine zM rfl (zN rfl (zF rfl (fa140_3 _ _) (zL rfl (s.ld (k := 3) rfl ag136 rfl) (zM rfl (zN rfl (zF rfl (fa167_0 _ _) (zL rfl (s.ld (k := 0) rfl ag3 (nth_mid hpre rfl)) (WPt.any0 rfl rfl rfl (OpR.delete rfl rfl rfl rfl (mapV_del (s.bringS [4]) Tryz.underlying136 Tryz.underlying3)) ?_))))))))
      intro v h s
      have s := s.bringS [1, 1, 1, 1, 0]
      dsimp only [bringA, getA, delA] at s
      refine WPt.nil ⟨⟨trivial, trivial, trivial, trivial, trivial, trivial, trivial, trivial, trivial, trivial⟩, ?_⟩
      refine zg rfl (zm rfl (zo rfl (o_build rfl (by rw [bv167]; rfl)) ?_))
      refine zn rfl (WPs.stS rfl rfl rfl rfl rfl (s.stF (k := 0) (row' := fmC emptyF .sl0) rfl sz167 hpre hlen (by simp [fmC]) rfl) ?_)
      intro h s
      dsimp only [setA] at s
      have hlen2 : (pre ++ (fmC emptyF .sl0 ++ post)).length = π1.frames.length * 5 := by simpa [fmC] using hlen
      have hw' : (freed π1 i f).wher = delL f.page π1.wher := by simp only [freed]; rw [if_neg hpg]
      refine zv (zg rfl (zm rfl (zn rfl (zf rfl (fa140_0 _ _) (zl rfl (by exact s.ld (k := 3) rfl ag23 rfl) ?_)))))
      refine zm rfl (WPs.call rfl rfl rfl rfl rfl rfl rfl (dReadF (n := n) hT (s.bringS [7]) hokd) ?_)
      rintro v h (⟨hr, rfl, s⟩ | ⟨hr, u, rfl, s⟩)
      ·dsimp only [bringA, getA, delA] at s
       refine zm rfl (ze rfl (ze rfl (za rfl (za rfl (zv (zw (zg rfl (zm rfl (WPs.opT rfl rfl rfl (o_bin rfl rfl bNeq) (by simp; exact hr) ?_)))))))))
       refine zv (zi rfl (zg rfl (zm rfl (za rfl (za rfl (zv ?_))))))
       refine WP.ret ⟨trivial, _, rfl, ?_⟩
       have s := frame_close (i := i) (f' := emptyF) (v' := .sl0) (s.nilRo.bringS [2, 2, 0]) rfl hf1 hpre
       dsimp only [bringA, getA, delA] at s
       have e6 : (π1.frames.set i emptyF).length = π1.frames.length := List.length_set
       rw [← e6, ← hw'] at s
       have s := (isPl_iff (π := freed π1 i f)).2 ⟨fid, wh, di, s.bringS [3, 0, 2, 2]⟩
       dsimp only [bringA, getA, delA] at s
       have hR := PinR.read (ε := (π, μ, δ)) π' i f hq hq2 g1 hnear hf hh ho1 (by rw [ho2]; exact hr)
       rw [ho2] at hR
       exact ⟨_, [], _, hR, .inl ⟨hr, rfl, (s.del 2).bringS [0, 1, 0]⟩⟩
      ·have hl512 := hokd.at n
       obtain ⟨bid, _, cap, _, rfl, _⟩ := s.openBuf (by omega)
       dsimp only [bringA, getA, delA] at s
       refine zm rfl (ze rfl (ze rfl (za rfl (za rfl (zv (zw (zg rfl (zm rfl (WPs.opF rfl rfl rfl (o_bin rfl rfl bNeq) (rfl) (zv (zj rfl (WP.skip (zw (zg rfl (zm rfl (WPs.call rfl rfl rfl rfl rfl rfl rfl (check_ct hT s (rd_buf _ _) (by omega)) ?_))))))))))))))))
       rintro v h ⟨rfl, s⟩
       refine za rfl (zv (zg rfl (zm rfl ?_)))
       by_cases hc : checkL (δ1.at n) = 0
       ·skip
        refine WPs.opF rfl rfl rfl (o_bin rfl rfl bNeq) (by simp; exact hc) ?_
        have s := s.freezeBuf.bringS [2, 2, 0, 2, 2, 2, 2, 0, 0]
        dsimp only [bringA, getA, delA] at s
        refine zv (zj rfl (WP.skip (zg rfl (zm rfl (zm rfl (zm rfl (zo rfl (o_build rfl (by rw [bv167]; rfl)) ?_)))))))
        refine zn rfl (WPs.stS rfl rfl rfl rfl rfl (s.stF (k := 0) (row' := fmC ⟨n, δ1.at n, 1, true, false⟩ (.sl bid 0 (δ1.at n).length cap)) rfl sz167 hpre hlen2 (by simp [fmC]) rfl) ?_)
        intro h s
        dsimp only [setA] at s
        refine zv (zg rfl (zm rfl (zn rfl (zf rfl (fa140_3 _ _) (zl rfl (by exact s.ld (k := 3) rfl ag136 rfl) ?_)))))
        refine zm rfl (zm rfl (WPs.any0 rfl rfl (OpR.mapUpdate rfl rfl rfl rfl (mapV_put (f := fun v (x : Int) => .pu (v = .int .i64 x)) (x := (i : Int)) (fun _ _ => Pers.pu _) ((s.bringS [4]).addPu rfl) Tryz.underlying136 Tryz.underlying3)) ?_))
        intro w h s
        dsimp only [bringA, getA, delA] at s
        refine zv (zg rfl (zm rfl (WPs.call rfl rfl rfl rfl rfl rfl rfl (clone_pool hT (s.bringS [3]) (rd_ro _ _) (by omega)) ?_)))
        intro u h s
        dsimp only [bringA, getA, delA] at s
        refine za rfl (za rfl (zv ?_))
        refine WP.ret ⟨trivial, _, rfl, ?_⟩
        have s := frame_close (i := i) (f' := ⟨n, δ1.at n, 1, true, false⟩) (s.bringS [3, 3, 1]) rfl hf1 hpre
        dsimp only [bringA, getA, delA] at s
        have e6 : (π1.frames.set i ⟨n, δ1.at n, 1, true, false⟩).length = π1.frames.length := List.length_set
        have e7 : (loaded (freed π1 i f) i n (δ1.at n)).frames = π1.frames.set i ⟨n, δ1.at n, 1, true, false⟩ := by simp only [loaded, freed, List.set_set]
        rw [← e6, ← e7, ← hw'] at s
        have s := (isPl_iff (π := loaded (freed π1 i f) i n (δ1.at n))).2 ⟨fid, wh, di, s.bringS [3, 0, 1, 1]⟩
        dsimp only [bringA, getA, delA] at s
        have hR := PinR.load (ε := (π, μ, δ)) π' i f hq hq2 g1 hnear hf hh ho1 (by rw [ho2]; exact hr) (by rw [ho2]; exact hc)
        rw [ho2] at hR
        exact ⟨_, _, _, hR, .inr ⟨rfl, u, rfl, (s.del 4).bringS [1, 0]⟩⟩
       ·skip
        refine WPs.opT rfl rfl rfl (o_bin rfl rfl bNeq) (by simp; exact hc) ?_
        refine zv (zi rfl (zg rfl (zm rfl (za rfl (za rfl (zv ?_))))))
        refine WP.ret ⟨trivial, _, rfl, ?_⟩
        have s := s.drop
        have s := frame_close (i := i) (f' := emptyF) (v' := .sl0) (s.nilRo.bringS [2, 2, 0]) rfl hf1 hpre
        dsimp only [bringA, getA, delA] at s
        have e6 : (π1.frames.set i emptyF).length = π1.frames.length := List.length_set
        rw [← e6, ← hw'] at s
        have s := (isPl_iff (π := freed π1 i f)).2 ⟨fid, wh, di, s.bringS [3, 0, 2, 2]⟩
        dsimp only [bringA, getA, delA] at s
        have hR := PinR.bad (ε := (π, μ, δ)) π' i f hq hq2 g1 hnear hf hh ho1 (by rw [ho2]; exact hr) (by rw [ho2]; exact hc)
        rw [ho2] at hR
        exact ⟨_, [], _, hR, .inl ⟨hc, rfl, (s.del 2).bringS [0, 1, 0]⟩⟩
     ·intro hpg
      have hpg : f.page < 0 := by simp at hpg; omega
      refine zv (zj rfl (WP.skip (zg rfl (zm rfl (zo rfl (o_build rfl (by rw [bv167]; rfl)) ?_)))))
      refine zn rfl (WPs.stS rfl rfl rfl rfl rfl (s.stF (k := 0) (row' := fmC emptyF .sl0) rfl sz167 hpre hlen (by simp [fmC]) rfl) ?_)
      intro h s
      dsimp only [setA] at s
      have hlen2 : (pre ++ (fmC emptyF .sl0 ++ post)).length = π1.frames.length * 5 := by simpa [fmC] using hlen
      have hw' : (freed π1 i f).wher = π1.wher := by simp only [freed]; rw [if_pos hpg]
      refine zv (zg rfl (zm rfl (zn rfl (zf rfl (fa140_0 _ _) (zl rfl (by exact s.ld (k := 3) rfl ag23 rfl) ?_)))))
      refine zm rfl (WPs.call rfl rfl rfl rfl rfl rfl rfl (dReadF (n := n) hT (s.bringS [7]) hokd) ?_)
      rintro v h (⟨hr, rfl, s⟩ | ⟨hr, u, rfl, s⟩)
      ·dsimp only [bringA, getA, delA] at s
       refine zm rfl (ze rfl (ze rfl (za rfl (za rfl (zv (zw (zg rfl (zm rfl (WPs.opT rfl rfl rfl (o_bin rfl rfl bNeq) (by simp; exact hr) ?_)))))))))
       refine zv (zi rfl (zg rfl (zm rfl (za rfl (za rfl (zv ?_))))))
       refine WP.ret ⟨trivial, _, rfl, ?_⟩
       have s := frame_close (i := i) (f' := emptyF) (v' := .sl0) (s.nilRo.bringS [2, 2, 0]) rfl hf1 hpre
       dsimp only [bringA, getA, delA] at s
       have e6 : (π1.frames.set i emptyF).length = π1.frames.length := List.length_set
       rw [← e6, ← hw'] at s
       have s := (isPl_iff (π := freed π1 i f)).2 ⟨fid, wh, di, s.bringS [3, 0, 2, 2]⟩
       dsimp only [bringA, getA, delA] at s
       have hR := PinR.read (ε := (π, μ, δ)) π' i f hq hq2 g1 hnear hf hh ho1 (by rw [ho2]; exact hr)
       rw [ho2] at hR
       exact ⟨_, [], _, hR, .inl ⟨hr, rfl, (s.del 2).bringS [0, 1, 0]⟩⟩
      ·have hl512 := hokd.at n
       obtain ⟨bid, _, cap, _, rfl, _⟩ := s.openBuf (by omega)
       dsimp only [bringA, getA, delA] at s
       refine zm rfl (ze rfl (ze rfl (za rfl (za rfl (zv (zw (zg rfl (zm rfl (WPs.opF rfl rfl rfl (o_bin rfl rfl bNeq) (rfl) (zv (zj rfl (WP.skip (zw (zg rfl (zm rfl (WPs.call rfl rfl rfl rfl rfl rfl rfl (check_ct hT s (rd_buf _ _) (by omega)) ?_))))))))))))))))
       rintro v h ⟨rfl, s⟩
       refine za rfl (zv (zg rfl (zm rfl ?_)))
       by_cases hc : checkL (δ1.at n) = 0
       ·skip
        refine WPs.opF rfl rfl rfl (o_bin rfl rfl bNeq) (by simp; exact hc) ?_
        have s := s.freezeBuf.bringS [2, 2, 0, 2, 2, 2, 2, 0, 0]
        dsimp only [bringA, getA, delA] at s
        refine zv (zj rfl (WP.skip (zg rfl (zm rfl (zm rfl (zm rfl (zo rfl (o_build rfl (by rw [bv167]; rfl)) ?_)))))))
        refine zn rfl (WPs.stS rfl rfl rfl rfl rfl (s.stF (k := 0) (row' := fmC ⟨n, δ1.at n, 1, true, false⟩ (.sl bid 0 (δ1.at n).length cap)) rfl sz167 hpre hlen2 (by simp [fmC]) rfl) ?_)
        intro h s
        dsimp only [setA] at s
        refine zv (zg rfl (zm rfl (zn rfl (zf rfl (fa140_3 _ _) (zl rfl (by exact s.ld (k := 3) rfl ag136 rfl) ?_)))))
        refine zm rfl (zm rfl (WPs.any0 rfl rfl (OpR.mapUpdate rfl rfl rfl rfl (mapV_put (f := fun v (x : Int) => .pu (v = .int .i64 x)) (x := (i : Int)) (fun _ _ => Pers.pu _) ((s.bringS [4]).addPu rfl) Tryz.underlying136 Tryz.underlying3)) ?_))
        intro w h s
        dsimp only [bringA, getA, delA] at s
        refine zv (zg rfl (zm rfl (WPs.call rfl rfl rfl rfl rfl rfl rfl (clone_pool hT (s.bringS [3]) (rd_ro _ _) (by omega)) ?_)))
        intro u h s
        dsimp only [bringA, getA, delA] at s
        refine za rfl (za rfl (zv ?_))
        refine WP.ret ⟨trivial, _, rfl, ?_⟩
        have s := frame_close (i := i) (f' := ⟨n, δ1.at n, 1, true, false⟩) (s.bringS [3, 3, 1]) rfl hf1 hpre
        dsimp only [bringA, getA, delA] at s
        have e6 : (π1.frames.set i ⟨n, δ1.at n, 1, true, false⟩).length = π1.frames.length := List.length_set
        have e7 : (loaded (freed π1 i f) i n (δ1.at n)).frames = π1.frames.set i ⟨n, δ1.at n, 1, true, false⟩ := by simp only [loaded, freed, List.set_set]
        rw [← e6, ← e7, ← hw'] at s
        have s := (isPl_iff (π := loaded (freed π1 i f) i n (δ1.at n))).2 ⟨fid, wh, di, s.bringS [3, 0, 1, 1]⟩
        dsimp only [bringA, getA, delA] at s
        have hR := PinR.load (ε := (π, μ, δ)) π' i f hq hq2 g1 hnear hf hh ho1 (by rw [ho2]; exact hr) (by rw [ho2]; exact hc)
        rw [ho2] at hR
        exact ⟨_, _, _, hR, .inr ⟨rfl, u, rfl, (s.del 4).bringS [1, 0]⟩⟩
       ·skip
        refine WPs.opT rfl rfl rfl (o_bin rfl rfl bNeq) (by simp; exact hc) ?_
        refine zv (zi rfl (zg rfl (zm rfl (za rfl (za rfl (zv ?_))))))
        refine WP.ret ⟨trivial, _, rfl, ?_⟩
        have s := s.drop
        have s := frame_close (i := i) (f' := emptyF) (v' := .sl0) (s.nilRo.bringS [2, 2, 0]) rfl hf1 hpre
        dsimp only [bringA, getA, delA] at s
        have e6 : (π1.frames.set i emptyF).length = π1.frames.length := List.length_set
        rw [← e6, ← hw'] at s
        have s := (isPl_iff (π := freed π1 i f)).2 ⟨fid, wh, di, s.bringS [3, 0, 2, 2]⟩
        dsimp only [bringA, getA, delA] at s
        have hR := PinR.bad (ε := (π, μ, δ)) π' i f hq hq2 g1 hnear hf hh ho1 (by rw [ho2]; exact hr) (by rw [ho2]; exact hc)
        rw [ho2] at hR
        exact ⟨_, [], _, hR, .inl ⟨hc, rfl, (s.del 2).bringS [0, 1, 0]⟩⟩
    ·skip
     refine WPs.opT rfl rfl rfl (o_bin rfl rfl bNeq) (by simp; exact he) ?_
     refine zv (zi rfl (zg rfl (zm rfl (za rfl (za rfl (zv ?_))))))
     refine WP.ret ⟨trivial, _, rfl, ?_⟩
     exact ⟨_, [], _, .out π' i f hq hq2 g1 hnear hf hh he, .inl ⟨he, rfl, isPl_iff.2 ⟨fid, wh, di, s⟩⟩⟩
   ·obtain ⟨i, f, rfl, hf⟩ := hπ.at g1
    have hl := (List.getElem?_eq_some_iff.1 hf).1
    obtain ⟨pre, fv, post, hpre, hlen, s⟩ := frame_open (s.bringS [1]) hf
    dsimp only [bringA, getA, delA] at s
    have hp0 := hpin f (List.mem_of_getElem? hf)
    have hfl := hπ.len f (List.mem_of_getElem? hf)
    refine zo rfl (o_look rfl rfl g2) (zm rfl (ze rfl (ze rfl (za rfl (za rfl (zv (zg rfl (zm rfl (zv (zi rfl (zg rfl (zm rfl (zn rfl (zf rfl (fa140_2 _ _) (zl rfl (by exact s.ld (k := 3) rfl ag137 rfl) ?_)))))))))))))))
    refine zm rfl (zo rfl (o_ia rfl rfl (ia_frame (i := i) hl)) (za rfl (zv (zg rfl (zm rfl (zn rfl (zf rfl (fa167_3 _ _) (WPs.stS rfl rfl rfl rfl rfl (s.stM (k := 0) (j := 3) rfl sz4 hpre hlen (by simp [fmC]) rfl rfl) ?_))))))))
    intro h s
    dsimp only [setA] at s
    refine zv (zg rfl (zm rfl (zn rfl (zf rfl (fa167_2 _ _) (zl rfl (s.ld (k := 0) rfl ag3 (nth_mid hpre rfl)) (zb rfl (by exact bAdd (wrapS (by omega) (by omega))) ?_))))))
    refine zn rfl (zf rfl (fa167_2 _ _) (WPs.stS rfl rfl rfl rfl rfl (s.stM (k := 0) (j := 2) rfl sz3 hpre (by simpa [fmC] using hlen) (by simp [fmC]) rfl rfl) ?_))
    intro h s
    dsimp only [setA] at s
    have e5 : ((fmC f fv).set 3 (.bool true)).set 2 (.int .i64 (f.pins + 1)) = fmC { f with touch := true, pins := f.pins + 1 } fv := rfl
    rw [e5] at s
    refine zv (zg rfl (zm rfl (zn rfl (zf rfl (fa167_1 _ _) (zl rfl (s.ld (k := 0) rfl ag32 (nth_mid hpre rfl)) (WPs.call rfl rfl rfl rfl rfl rfl rfl (clone_pool hT (s.bringS [2]) (rd_ro _ _) (by omega)) ?_))))))
    intro u h s
    dsimp only [bringA, getA, delA] at s
    refine za rfl (za rfl (zv ?_))
    refine WP.ret ⟨trivial, _, rfl, ?_⟩
    have s := frame_close (i := i) (f' := { f with touch := true, pins := f.pins + 1 }) (s.bringS [2, 2, 1]) rfl hf hpre
    dsimp only [bringA, getA, delA] at s
    refine ⟨0, f.b, _, .hit i f hq hq2 g1 hf, .inr ⟨rfl, u, rfl, ?_⟩⟩
    have e6 : (π.frames.set i { f with touch := true, pins := f.pins + 1 }).length = π.frames.length := List.length_set
    rw [← e6] at s
    exact ((isPl_iff (π := { π with frames := π.frames.set i { f with touch := true, pins := f.pins + 1 } })).2 ⟨fid, wh, di, s.bringS [2, 0, 1, 1]⟩).bringS [1, 0]
end
end Go.Proofs.YtconhghphklfjaaGreat.Am
