/- A group that is over or open, pages that are none and records that may not be are refused, and a record that was done is read back; the conditions are those of the given statement, for arguments that a machine can hold. Part 27 of 44. -/
import Derived.Test.YtconhghphklfjaaGreatE26
namespace Go.Proofs.YtconhghphklfjaaGreat.Am
open Go
section
variable {told : Nat → Option (List V → H → Option (V × H))} {h : H} {S : List Assn} {X : Assn} {k : Nat} {v : V} {l : List Nat}
theorem lay_ct (hT : W told) {n z : Nat} (s : Sat h (bufA v l :: S)) (hz : z ≤ 8) (hl : l.length + z ≤ 140737488355328) :
  Call ⟨Tryz.prog, told⟩ 67 [v, .int .i64 (z : Int), .int .u64 (n : Int)] h fun r h' => Sat h' (bufA r (l ++ le z n) :: S) :=
 (lay_do hT.std s.wf (s.buf (k := 0) rfl) hz hl).mono fun _ _ ⟨h1, h2, h3⟩ => s.turnBuf h2 h1 h3
theorem put_ct (hT : W told) {a z n : Nat} (s : Sat h (bufA v l :: S)) (hz : 1 ≤ z) (hz2 : z ≤ 8) (hl : a + z ≤ l.length) (hl2 : l.length ≤ 65536) :
  Call ⟨Tryz.prog, told⟩ 130 [.agg [v], .int .i64 (a : Int), .int .i64 (z : Int), .int .u64 (n : Int)] h fun r h' => r = .tup [] ∧ Sat h' (bufA v (splice l a (le z n)) :: S) := by
 obtain ⟨bid, _, cap, _, rfl, _⟩ := s.openBuf (by omega)
 refine Call.of_wp (hT.free _ rfl) Tryz.func130 rfl rfl (zg rfl ?_)
 refine WPs.newS s rfl rfl rfl (o_box rfl rfl) (fun p4 h s => ?_)
 dsimp only [V.cells, List.length_cons, List.length_nil, Nat.reduceAdd] at s
 refine zv ?_
 have s0 := s
 refine WP.drawn [some (0, 2), some (0, 2), some (0, 2), some (0, 2), some (0, 2), some (0, 2), some (0, 2), none, none, none, none] rfl (by kernel_rfl) (by kernel_rfl) ?_
 refine zF rfl (fa146_0 _ _) (zL rfl (by exact s.ld (k := 0) rfl ag32 rfl) ?_)
 refine zM rfl (zM rfl (zM rfl (zO rfl (o_bin rfl rfl (by exact bAdd (wrapS (by omega) (by omega)))) ?_)))
 have ez : ((a : Int) + (z : Int)).toNat = a + z := by omega
 have ea : ((a : Int)).toNat = a := by omega
 refine zO rfl (o_slice (p := some (.int .i64 (a : Int))) (q := some (.int .i64 ((a : Int) + (z : Int)))) (m := none) (p' := some a) (q' := some (a + z)) (m' := none) rfl rfl rfl rfl (by rw [bnd_ok (by omega), ea]) (by rw [bnd_ok (by omega), ez]) rfl (slice_view (s.buf (k := 1) rfl).view (by omega) hl).1) ?_
 refine zM rfl (zM rfl (WPt.any rfl rfl rfl rfl (OpR.call rfl rfl rfl rfl (lay_ct hT s.nilBuf hz2 (by simp; omega))) ?_))
 intro u h s
 have s := s.bringS [1, 1, 0]
 dsimp only [List.nil_append, bringA, getA, delA] at s
 have s1 := s
 refine WPt.any rfl rfl rfl rfl (OpR.copyB rfl (s.bringS [1, 1]) (rd_buf _ _) rfl rfl rfl rfl (by omega) hl (by simp [le_len]; omega)) ?_
 intro r h s
 have hs : ∃ q c, slR (V.sl bid 0 l.length cap) a (a + z) = .sl bid q (a + z - a) c := by
  cases cap with
  | exact c => exact ⟨_, _, rfl⟩
  | rest e alt => exact ⟨_, _, rfl⟩
 obtain ⟨q, c, hs⟩ := hs
 have hbq : (slR (V.sl bid 0 l.length cap) a (a + z)).beq (slR (V.sl bid 0 l.length cap) a (a + z)) = true := by rw [hs]; exact beqSl _ _ _ _
 refine WPt.nil ⟨⟨fun _ _ => .inr ⟨rfl, ⟨_, o_fa rfl (fa146_0 _ _)⟩, beqV _ rfl⟩, heaps2 (.inr ⟨rfl, ⟨_, o_load rfl (by exact s0.ld (k := 0) rfl ag32 rfl)⟩, beqV _ rfl⟩) (.inr ⟨rfl, ⟨_, o_load rfl (by exact s1.ld (k := 0) rfl ag32 rfl)⟩, beqV _ rfl⟩), fun _ _ => .inr ⟨rfl, ⟨_, o_move rfl⟩, beqV _ rfl⟩, fun _ _ => .inr ⟨rfl, ⟨_, o_move rfl⟩, beqV _ rfl⟩, fun _ _ => .inr ⟨rfl, ⟨_, o_move rfl⟩, beqV _ rfl⟩, fun _ _ => .inr ⟨rfl, ⟨_, o_bin rfl rfl (by exact bAdd (wrapS (by omega) (by omega)))⟩, beqV _ rfl⟩, heaps2 (.inr ⟨rfl, ⟨_, o_slice (p := some (.int .i64 (a : Int))) (q := some (.int .i64 ((a : Int) + (z : Int)))) (m := none) (p' := some a) (q' := some (a + z)) (m' := none) rfl rfl rfl rfl (by rw [bnd_ok (by omega), ea]) (by rw [bnd_ok (by omega), ez]) rfl (slice_view (s0.buf (k := 1) rfl).view (by omega) hl).1⟩, hbq⟩) (.inr ⟨rfl, ⟨_, o_slice (p := some (.int .i64 (a : Int))) (q := some (.int .i64 ((a : Int) + (z : Int)))) (m := none) (p' := some a) (q' := some (a + z)) (m' := none) rfl rfl rfl rfl (by rw [bnd_ok (by omega), ea]) (by rw [bnd_ok (by omega), ez]) rfl (slice_view (s1.buf (k := 1) rfl).view (by omega) hl).1⟩, hbq⟩), trivial, trivial, trivial, trivial, trivial⟩, ?_⟩
 refine ⟨trivial, _, rfl, rfl, ?_⟩
 rw [show a + z - a = z by omega, List.take_of_length_le (by rw [le_len]; omega)] at s
 exact (s.del 1).del 1
theorem pof_ct (hT : W told) (s : Sat h (X :: S)) (hX : Ent X (rdB v l)) (hl2 : l.length < 9223372036854775808) :
  Call ⟨Tryz.prog, told⟩ 82 [v] h fun r h' => Sat h' (X :: S) ∧ ((goodL l = true ∧ r = .tup [.agg [v], .int .i64 0]) ∨ (goodL l = false ∧ r = .tup [.agg [.sl0], .int .i64 4])) := by
 have hv := s.viewX (k := 0) rfl hX
 refine Call.of_wp (hT.free _ rfl) Tryz.func82 rfl rfl (zg rfl ?_)
 refine WPs.newS s rfl rfl rfl (o_alloc zt146) (fun p2 h s => ?_)
 dsimp only [V.cells, List.length_cons, List.length_nil, Nat.reduceAdd] at s
 refine za rfl (zv (zw (zg rfl (zm rfl (WPs.call rfl rfl rfl rfl rfl rfl rfl (good_ct hT (s.bringS [1]) hX hl2) ?_)))))
 rintro r h' ⟨rfl, s⟩
 dsimp only [delA, bringA] at s
 cases hg : goodL l with
 | true =>
  have h512 : 1 ≤ l.length := by
   have : l.length = 512 := by simp only [goodL, Bool.and_eq_true, decide_eq_true_eq] at hg; exact hg.1
   omega
  obtain ⟨pi, po, pc, rfl⟩ := view_sl hv h512
  refine zo rfl (o_un rfl rfl) (zv (zj rfl (WP.skip (zg rfl (zm rfl (zo rfl (o_build rfl (by rw [bv146]; rfl)) ?_))))))
  refine WPs.stS rfl rfl rfl rfl rfl (by exact s.stA (j := 1) rfl sz146 rfl rfl) (fun h s => ?_)
  dsimp only [V.cells, List.take, List.length_cons, List.length_nil, Nat.reduceAdd, List.drop, List.cons_append, List.nil_append, setA] at s
  refine za rfl (zv ?_)
  refine WP.ret ⟨trivial, _, resC1 rfl (s.ldA (k := 1) rfl ag146 sz146) rfl, ?_⟩
  exact ⟨s.del 1, .inl ⟨rfl, rfl⟩⟩
 | false =>
  refine zo rfl (o_un rfl rfl) (zv (zi rfl (zg rfl (zo rfl (o_build rfl (by rw [bv146]; rfl)) ?_))))
  refine WPs.stS rfl rfl rfl rfl rfl (by exact s.stA (j := 1) rfl sz146 rfl rfl) (fun h s => ?_)
  dsimp only [V.cells, setA] at s
  refine za rfl (zv ?_)
  refine WP.ret ⟨trivial, _, resC1 rfl (s.ldA (k := 1) rfl ag146 sz146) rfl, ?_⟩
  exact ⟨s.del 1, .inr ⟨rfl, rfl⟩⟩
theorem good512 (hg : goodL l = true) : l.length = 512 := by simp only [goodL, Bool.and_eq_true, decide_eq_true_eq] at hg; exact hg.1
theorem copied_ct (hT : W told) (s : Sat h (X :: S)) (hX : Ent X (rdB v l)) (hl2 : l.length < 9223372036854775808) :
  Call ⟨Tryz.prog, told⟩ 129 [v] h fun r h' => (goodL l = true ∧ ∃ u, r = .tup [.agg [u], .int .i64 0] ∧ Sat h' (bufA u l :: X :: S)) ∨ (goodL l = false ∧ r = .tup [.agg [.sl0], .int .i64 4] ∧ Sat h' (X :: S)) := by
 have hv := s.viewX (k := 0) rfl hX
 refine Call.of_wp (hT.free _ rfl) Tryz.func129 rfl rfl (zg rfl ?_)
 refine WPs.newS s rfl rfl rfl (o_alloc zt146) (fun p2 h s => ?_)
 dsimp only [V.cells, List.length_cons, List.length_nil, Nat.reduceAdd] at s
 refine za rfl (zv (zg rfl (zm rfl (WPs.call rfl rfl rfl rfl rfl rfl rfl (pof_ct hT (s.bringS [1]) hX hl2) ?_))))
 rintro r h' ⟨s, (⟨hg, rfl⟩ | ⟨hg, rfl⟩)⟩
 dsimp only [delA, bringA] at s
 ·have h512 := good512 hg
  obtain ⟨pi, po, pc, rfl⟩ := view_sl hv (by omega)
  refine zm rfl (ze rfl (ze rfl ?_))
  refine WPs.newS s rfl rfl rfl (o_alloc zt146) (fun p4 h s => ?_)
  dsimp only [V.cells, List.length_cons, List.length_nil, Nat.reduceAdd] at s
  refine WPs.stS rfl rfl rfl rfl rfl (by exact s.stA (j := 0) rfl sz146 rfl rfl) (fun h s => ?_)
  dsimp only [setA] at s
  refine za rfl (zv (zw (zg rfl (zm rfl (WPs.opF rfl rfl rfl (o_bin rfl rfl bNeq) (rfl) (zv (zj rfl (WP.skip (zw ?_)))))))))
  have s0 := s
  refine WP.drawn [none, none, none, none, some (0, 2), some (0, 2), none, none, none, none] rfl (by kernel_rfl) (by kernel_rfl) ?_
  refine zF rfl (fa146_0 _ _) (zL rfl (by exact s.ld (k := 0) rfl ag32 rfl) ?_)
  refine zO rfl (o_len rfl rfl rfl (by exact len_slE rfl Tryz.underlying32)) ?_
  refine WPt.any rfl rfl rfl rfl (OpR.make0S rfl s rfl rfl rfl rfl (by omega)) ?_
  intro u h s
  have s := s.bringS [1, 1, 1, 0]
  dsimp only [bringA, getA, delA] at s
  have s1 := s
  refine zF rfl (fa146_0 _ _) (zL rfl (by exact s.ld (k := 0) rfl ag32 rfl) ?_)
  refine WPt.any rfl rfl rfl rfl (OpR.appB rfl (s.bringS [3, 1]) hX rfl rfl rfl rfl (by simp; omega)) ?_
  intro u2 h s
  rw [List.nil_append] at s
  obtain ⟨bid, _, cap, _, rfl, _⟩ := s.openBuf (by omega)
  dsimp only [delA, bringA] at s
  have s2 := s
  refine zO rfl (o_build rfl (by rw [bv146]; rfl)) ?_
  refine WPt.any0 rfl rfl rfl (OpR.stS rfl rfl rfl (s.stA (j := 3) rfl sz146 rfl rfl)) ?_
  rintro w h ⟨rfl, s⟩
  dsimp only [V.cells, List.take, List.length_cons, List.length_nil, Nat.reduceAdd, List.drop, List.cons_append, List.nil_append, setA] at s
  have s3 := s
  refine zA rfl ?_
  refine WPt.nil ⟨⟨trivial, trivial, trivial, trivial, fun _ _ => .inr ⟨rfl, ⟨_, o_fa rfl (fa146_0 _ _)⟩, beqV _ rfl⟩, heaps2 (.inr ⟨rfl, ⟨_, o_load rfl (by exact s0.ld (k := 0) rfl ag32 rfl)⟩, beqV _ rfl⟩) (.inr ⟨rfl, ⟨_, o_load rfl (by exact s1.ld (k := 0) rfl ag32 rfl)⟩, beqV _ rfl⟩), trivial, trivial, trivial, trivial, trivial⟩, ?_⟩
  refine WP.ret ⟨trivial, _, resC1 rfl (s.ldA (k := 3) rfl ag146 sz146) rfl, ?_⟩
  exact .inl ⟨hg, _, rfl, (s.del 2).del 2⟩
 ·skip
  refine zm rfl (ze rfl (ze rfl ?_))
  refine WPs.newS s rfl rfl rfl (o_alloc zt146) (fun p4 h s => ?_)
  dsimp only [V.cells, List.length_cons, List.length_nil, Nat.reduceAdd, delA, bringA] at s
  refine WPs.stS rfl rfl rfl rfl rfl (by exact s.stA (j := 0) rfl sz146 rfl rfl) (fun h s => ?_)
  dsimp only [setA] at s
  refine za rfl (zv (zw (zg rfl (zm rfl (WPs.opT rfl rfl rfl (o_bin rfl rfl bNeq) (rfl) (zv (zi rfl (zg rfl (zo rfl (o_build rfl (by rw [bv146]; rfl)) ?_)))))))))
  refine zm rfl ?_
  refine WPs.stS rfl rfl rfl rfl rfl (by exact s.stA (j := 2) rfl sz146 rfl rfl) (fun h s => ?_)
  dsimp only [V.cells, setA] at s
  refine za rfl (zv ?_)
  refine WP.ret ⟨trivial, _, resC1 rfl (s.ldA (k := 2) rfl ag146 sz146) rfl, ?_⟩
  exact .inr ⟨hg, rfl, (s.del 2).del 0⟩
def lsnL (l : List Nat) (n : Nat) : List Nat := splice l 4 (le 8 n)
def sealL (l : List Nat) (n : Nat) : List Nat := splice (lsnL l n) 0 (le 4 (crc 0 ((lsnL l n).drop 4)))
theorem lsnL_len {n : Nat} (hl : l.length = 512) : (lsnL l n).length = 512 := by rw [lsnL, splice_len (by rw [le_len]; omega), hl]
theorem seal_ct (hT : W told) {n : Nat} (s : Sat h (X :: S)) (hX : Ent X (rdB v l)) (hl2 : l.length < 9223372036854775808) :
  Call ⟨Tryz.prog, told⟩ 98 [v, .int .u64 (n : Int)] h fun r h' => (goodL l = true ∧ ∃ u, r = .tup [u, .int .i64 0] ∧ Sat h' (bufA u (sealL l n) :: X :: S)) ∨ (goodL l = false ∧ r = .tup [.sl0, .int .i64 4] ∧ Sat h' (X :: S)) := by
 refine Call.of_wp (hT.free _ rfl) Tryz.func98 rfl rfl (zg rfl (za rfl (za rfl (zv (zg rfl (zm rfl (WPs.call rfl rfl rfl rfl rfl rfl rfl (copied_ct hT s hX hl2) ?_)))))))
 rintro r h' (⟨hg, u, rfl, s⟩ | ⟨hg, rfl, s⟩)
 ·have h512 := good512 hg
  have hl1 : (lsnL l n).length = 512 := lsnL_len h512
  obtain ⟨bid, _, cap, _, rfl, _⟩ := s.openBuf (by omega)
  refine zm rfl (ze rfl (ze rfl ?_))
  refine WPs.newS s rfl rfl rfl (o_alloc zt146) (fun p6 h s => ?_)
  dsimp only [V.cells, List.length_cons, List.length_nil, Nat.reduceAdd] at s
  refine WPs.stS rfl rfl rfl rfl rfl (by exact s.stA (j := 0) rfl sz146 rfl rfl) (fun h s => ?_)
  dsimp only [setA] at s
  refine za rfl (zv (zw (zg rfl (zm rfl (WPs.opF rfl rfl rfl (o_bin rfl rfl bNeq) (rfl) (zv (zj rfl (WP.skip (zg rfl (zl rfl (by exact s.ldA (k := 0) rfl ag146 sz146) ?_))))))))))
  refine zm rfl (WPs.call rfl rfl rfl rfl rfl rfl rfl (put_ct (a := 4) (z := 8) hT (s.bringS [1]) (by decide) (by decide) (by omega) (by omega)) ?_)
  rintro r h' ⟨rfl, s⟩
  have s := s.bringS [1, 0]
  have s : Sat _ (_ :: bufA _ (lsnL l n) :: _) := s
  dsimp only [delA, bringA] at s
  refine zv (zw ?_)
  have s0 := s
  have hv1 := (s.buf (k := 1) rfl).view.1
  have ec : (lsnL l n).length = l.length := by omega
  rw [← ec] at *
  refine WP.drawn [some (0, 2), none, none, none, none, none, none] rfl (by kernel_rfl) (by kernel_rfl) ?_
  refine zL rfl (by exact s.ldA (k := 0) rfl ag146 sz146) ?_
  refine zF rfl (fa146_0 _ _) (zL rfl (by exact s.ld (k := 0) rfl ag32 rfl) ?_)
  refine zO rfl (o_slice (p := some (.int .i64 4)) (q := none) (m := none) (p' := some 4) (q' := none) (m' := none) rfl rfl rfl rfl rfl rfl rfl (slice_from (s.buf (k := 1) rfl).view (a := 4) (by omega)).1) ?_
  refine WPt.any rfl rfl rfl rfl (OpR.call rfl rfl rfl rfl (of_ct hT s (k := 1) rfl (rd_from (rd_buf _ _) (a := 4) (by omega)) (by simp; omega))) ?_
  rintro r h' ⟨rfl, rfl⟩
  have s1 := s
  have hc := crc_lt32 (s := 0) (l := (lsnL l n).drop 4) (by decide) (fun x hx => hv1 x (List.mem_of_mem_drop hx))
  refine WPt.op rfl rfl rfl (by simp only [isEff, Tryz.underlying35]) (o_conv rfl (by exact cvI Tryz.underlying155 Tryz.underlying35 (wrapU (by omega) (by omega)))) ?_
  refine WPt.any rfl rfl rfl rfl (OpR.call rfl rfl rfl rfl (put_ct (a := 0) (z := 4) hT (s.bringS [1]) (by decide) (by decide) (by omega) (by omega))) ?_
  rintro r h ⟨rfl, s⟩
  have s := s.bringS [1, 0]
  dsimp only [delA, bringA, getA] at s
  refine WPt.nil ⟨⟨heaps2 (.inr ⟨rfl, ⟨_, o_load rfl (by exact s0.ldA (k := 0) rfl ag146 sz146)⟩, beqV _ rfl⟩) (.inr ⟨rfl, ⟨_, o_load rfl (by exact s1.ldA (k := 0) rfl ag146 sz146)⟩, beqV _ rfl⟩), trivial, trivial, trivial, trivial, trivial, trivial, trivial⟩, ?_⟩
  refine zg rfl (zf rfl (fa146_0 _ _) (zl rfl (by exact s.ld (k := 0) rfl ag32 rfl) ?_))
  refine za rfl (za rfl (zv ?_))
  refine WP.ret ⟨trivial, _, rfl, ?_⟩
  exact .inl ⟨hg, _, rfl, s.drop⟩
 ·skip
  refine zm rfl (ze rfl (ze rfl ?_))
  refine WPs.newS s rfl rfl rfl (o_alloc zt146) (fun p6 h s => ?_)
  dsimp only [V.cells, List.length_cons, List.length_nil, Nat.reduceAdd] at s
  refine WPs.stS rfl rfl rfl rfl rfl (by exact s.stA (j := 0) rfl sz146 rfl rfl) (fun h s => ?_)
  dsimp only [setA] at s
  refine za rfl (zv (zw (zg rfl (zm rfl (WPs.opT rfl rfl rfl (o_bin rfl rfl bNeq) (rfl) (zv (zi rfl (zg rfl (zm rfl (za rfl (za rfl (zv ?_))))))))))))
  refine WP.ret ⟨trivial, _, rfl, ?_⟩
  exact .inr ⟨hg, rfl, s.drop⟩
theorem o_s2 {P : Program} {E : List (Nat × V)} {d : TypeId} {x : Operand} {r : V} (hx : lookO E x = some v) (hf : arrPtrV P d v = some r) : opE P E h (.sliceToArrayPointer d x) = some (r, h) := by simp only [opE, on1, hx, hf, pureV]
theorem ld_view {P : Program} {t : TypeId} {id off n : Nat} {cap : Cap} (hv : View h (.sl id off n cap) l) (ht : isAggT P t = some true) (hs : sizeT P t = some l.length) : loadV P h t (.ptr id off) = some (.agg (ofBytes l)) := by
 have := hv.rdN
 obtain ⟨rfl, h2⟩ := this
 simp only [loadV, ht, hs, h2, Option.map_some]
theorem intsBeq_bytes : ∀ (l m : List Nat), l.length = m.length → intsBeq .u8 (ofBytes l) (ofBytes m) = some (decide (l = m)) := by
 intro l
 induction l with
 | nil => intro m hm; cases m with
  | nil => rfl
  | cons x m => simp at hm
 | cons x l ih => intro m hm; cases m with
  | nil => simp at hm
  | cons y m =>
   have hi := ih m (by simpa using hm)
   simp only [ofBytes, List.map_cons] at hi ⊢
   simp only [intsBeq, ikBeq, Bool.and_self, cond_true, hi, intBeq_dec]
   by_cases hxy : x = y
   ·subst hxy; simp
   ·have : ¬ ((x : Int) = (y : Int)) := by omega
    simp [this, hxy]
theorem zero_arr : buildV Tryz.prog 151 [] = some (.agg (ofBytes (List.replicate 512 0))) := by kernel_rfl
theorem bEqlA {P : Program} {t e : TypeId} {n : Nat} {x y : Operand} {m : List Nat} (hu : P.underlying t = some (.array n e)) (he : P.underlying e = some (.int .u8)) (hs : sizeT P e = some 1) (hl : l.length = n) (hm : m.length = n) :
  binV P h .eql t x y (.agg (ofBytes l)) (.agg (ofBytes m)) = some (.bool (decide (l = m))) := by
 simp only [binV, eqArr, hu, he, hs, ofBytes_len, hl, hm, Nat.beq_refl, Bool.and_self, cond_true]
 rw [intsBeq_bytes l m (by omega)]
 rfl
def checkL (l : List Nat) : Int := if l = List.replicate 512 0 then 0 else if goodL l = false then 4 else if atL l 0 4 ≠ crc 0 (l.drop 4) then 8 else 0
theorem check_ct (hT : W told) (s : Sat h (X :: S)) (hX : Ent X (rdB v l)) (hl2 : l.length < 9223372036854775808) :
  Call ⟨Tryz.prog, told⟩ 46 [v] h fun r h' => r = .int .i64 (checkL l) ∧ Sat h' (X :: S) := by
 have hv := s.viewX (k := 0) rfl hX
 have hz : (List.replicate 512 0).length = 512 := List.length_replicate
 -- what follows when the page is no page of noughts
 refine Call.of_wp (hT.free _ rfl) Tryz.func46 rfl rfl (zg rfl (za rfl (zv (zw (zg rfl (zm rfl (zo rfl (o_len rfl rfl rfl (by exact len_view Tryz.underlying32 (s.viewX (k := 0) rfl hX))) ?_)))))))
 refine WPs.opB rfl rfl rfl (o_bin rfl rfl bEql) ?_ ?_
 ·intro hq
  have hq : l.length = 512 := by simp at hq; omega
  obtain ⟨pi, po, pc, rfl⟩ := view_sl hv (by omega)
  refine zm rfl (zm rfl (zo rfl (o_s2 (r := .ptr pi po) rfl (by simp only [arrPtrV, Tryz.underlying151]; rw [hq]; rfl)) ?_))
  refine zl rfl (ld_view hv ag151 (by rw [hq]; exact sz151)) ?_
  refine zo rfl (o_build rfl zero_arr) ?_
  by_cases hn : l = List.replicate 512 0
  ·skip
   refine WPs.opT rfl rfl rfl (o_bin rfl rfl (bEqlA Tryz.underlying151 Tryz.underlying5 sz5 hq hz)) (decide_eq_true hn) (zq rfl (zv (zi rfl (zg rfl (za rfl (zv ?_))))))
   refine WP.ret ⟨trivial, _, rfl, ?_⟩
   exact ⟨by rw [checkL, if_pos hn], s⟩
  ·skip
   refine WPs.opF rfl rfl rfl (o_bin rfl rfl (bEqlA Tryz.underlying151 Tryz.underlying5 sz5 hq hz)) (decide_eq_false hn) (zq rfl (zv (zj rfl (WP.skip (zg rfl (zm rfl (WPs.call rfl rfl rfl rfl rfl rfl rfl (pof_ct hT s hX hl2) ?_)))))))
   rintro r h' ⟨s, (⟨hg, rfl⟩ | ⟨hg, rfl⟩)⟩
   ·refine WPs.op rfl rfl rfl (o_move rfl) ?_
    refine ze rfl (ze rfl ?_)
    refine WPs.newS s rfl rfl rfl (o_alloc zt146) (fun p3 h s => ?_)
    dsimp only [V.cells, List.length_cons, List.length_nil, Nat.reduceAdd] at s
    refine WPs.stS rfl rfl rfl rfl rfl (by exact s.stA (j := 0) rfl sz146 rfl rfl) (fun h s => ?_)
    dsimp only [setA] at s
    refine za rfl (zv (zw (WP.block (zg rfl (zm rfl (WPs.opF rfl rfl rfl (o_bin rfl rfl bNeq) (rfl) (za rfl (zv (zj rfl (zw ?_))))))))))
    have s0 := s
    refine WP.drawn [none, none, some (0, 2), some (0, 2), none, none, none, none] rfl (by kernel_rfl) (by kernel_rfl) ?_
    refine zL rfl (by exact s.ldA (k := 0) rfl ag146 sz146) ?_
    refine WPt.any rfl rfl rfl rfl (OpR.call rfl rfl rfl rfl (get_ct hT s (k := 1) rfl hX (by decide) (by decide) (by decide) (by omega) (by omega))) ?_
    rintro r h' ⟨rfl, s⟩
    have s1 := s
    refine zM rfl (zO rfl (o_slice (p := some (.int .i64 4)) (q := none) (m := none) (p' := some 4) (q' := none) (m' := none) rfl rfl rfl rfl rfl rfl rfl (slice_from (s.viewX (k := 1) rfl hX) (a := 4) (by omega)).1) ?_)
    refine WPt.any rfl rfl rfl rfl (OpR.call rfl rfl rfl rfl (of_ct hT s (k := 1) rfl (rd_from hX (a := 4) (by omega)) (by simp; omega))) ?_
    rintro r h' ⟨rfl, rfl⟩
    have hc := crc_lt32 (s := 0) (l := l.drop 4) (by decide) (fun x hx => hv.1 x (List.mem_of_mem_drop hx))
    have hs : ∃ q c, slR (V.sl pi po l.length pc) 4 l.length = .sl pi q (l.length - 4) c := by
     cases pc with
     | exact c => exact ⟨_, _, rfl⟩
     | rest e alt => exact ⟨_, _, rfl⟩
    obtain ⟨q, c, hs⟩ := hs
    have hbq : (slR (V.sl pi po l.length pc) 4 l.length).beq (slR (V.sl pi po l.length pc) 4 l.length) = true := by rw [hs]; exact beqSl _ _ _ _
    refine WPt.op rfl rfl rfl (by simp only [isEff, Tryz.underlying3]) (o_conv rfl (by exact cvI Tryz.underlying155 Tryz.underlying3 (wrapS (by omega) (by omega)))) ?_
    by_cases hsum : atL l 0 4 = crc 0 (l.drop 4)
    ·skip
     refine WPt.opF rfl rfl rfl rfl (o_bin rfl rfl bNeq) (by simp; exact_mod_cast hsum) ?_
     refine zA rfl ?_
     refine WPt.nil ⟨⟨trivial, trivial, fun _ _ => .inr ⟨rfl, ⟨_, o_move rfl⟩, beqV _ rfl⟩, heaps2 (.inr ⟨rfl, ⟨_, o_slice (p := some (.int .i64 4)) (q := none) (m := none) (p' := some 4) (q' := none) (m' := none) rfl rfl rfl rfl rfl rfl rfl (slice_from (s0.viewX (k := 1) rfl hX) (a := 4) (by omega)).1⟩, hbq⟩) (.inr ⟨rfl, ⟨_, o_slice (p := some (.int .i64 4)) (q := none) (m := none) (p' := some 4) (q' := none) (m' := none) rfl rfl rfl rfl rfl rfl rfl (slice_from (s1.viewX (k := 1) rfl hX) (a := 4) (by omega)).1⟩, hbq⟩), trivial, trivial, trivial, trivial, trivial⟩, ?_⟩
     refine zj rfl (WP.skip (zg rfl (za rfl (zv ?_))))
     refine WP.ret ⟨trivial, _, rfl, ?_⟩
     exact ⟨by rw [checkL, if_neg hn, if_neg (by rw [hg]; decide), if_neg (by simpa using hsum)], s.drop⟩
    ·skip
     refine WPt.opT rfl rfl rfl rfl (o_bin rfl rfl bNeq) (by simp; exact_mod_cast hsum) ?_
     refine zA rfl ?_
     refine WPt.nil ⟨⟨trivial, trivial, fun _ _ => .inr ⟨rfl, ⟨_, o_move rfl⟩, beqV _ rfl⟩, heaps2 (.inr ⟨rfl, ⟨_, o_slice (p := some (.int .i64 4)) (q := none) (m := none) (p' := some 4) (q' := none) (m' := none) rfl rfl rfl rfl rfl rfl rfl (slice_from (s0.viewX (k := 1) rfl hX) (a := 4) (by omega)).1⟩, hbq⟩) (.inr ⟨rfl, ⟨_, o_slice (p := some (.int .i64 4)) (q := none) (m := none) (p' := some 4) (q' := none) (m' := none) rfl rfl rfl rfl rfl rfl rfl (slice_from (s1.viewX (k := 1) rfl hX) (a := 4) (by omega)).1⟩, hbq⟩), trivial, trivial, trivial, trivial, trivial⟩, ?_⟩
     refine zi rfl (zg rfl (za rfl (zv ?_)))
     refine WP.ret ⟨trivial, _, rfl, ?_⟩
     exact ⟨by rw [checkL, if_neg hn, if_neg (by rw [hg]; decide), if_pos hsum], s.drop⟩
   ·skip
    refine zm rfl (ze rfl (ze rfl ?_))
    refine WPs.newS s rfl rfl rfl (o_alloc zt146) (fun p3 h s => ?_)
    dsimp only [V.cells, List.length_cons, List.length_nil, Nat.reduceAdd] at s
    refine WPs.stS rfl rfl rfl rfl rfl (by exact s.stA (j := 0) rfl sz146 rfl rfl) (fun h s => ?_)
    dsimp only [setA] at s
    refine za rfl (zv (zw (WP.block (zg rfl (zm rfl (WPs.opT rfl rfl rfl (o_bin rfl rfl bNeq) (rfl) (za rfl (zv (zi rfl (zg rfl (zm rfl (za rfl (zv ?_)))))))))))))
    refine WP.ret ⟨trivial, _, rfl, ?_⟩
    exact ⟨by rw [checkL, if_neg hn, if_pos hg], s.drop⟩
 ·intro hq
  have hq : l.length ≠ 512 := by simp at hq; omega
  have hn : l ≠ List.replicate 512 0 := fun e => hq (by rw [e, hz])
  have hg : goodL l = false := by rw [goodL, decide_eq_false hq, Bool.false_and]
  refine zm rfl (zx rfl (zx rfl (zx rfl (zx rfl (zx rfl (zp rfl (zv (zj rfl (WP.skip (zg rfl (zm rfl (WPs.call rfl rfl rfl rfl rfl rfl rfl (pof_ct hT s hX hl2) ?_))))))))))))
  rintro r h' ⟨s, (⟨hg2, rfl⟩ | ⟨_, rfl⟩)⟩
  ·rw [hg] at hg2; cases hg2
  ·refine WPs.op rfl rfl rfl (o_move rfl) ?_
   refine ze rfl (ze rfl ?_)
   refine WPs.newS s rfl rfl rfl (o_alloc zt146) (fun p3 h s => ?_)
   dsimp only [V.cells, List.length_cons, List.length_nil, Nat.reduceAdd] at s
   refine WPs.stS rfl rfl rfl rfl rfl (by exact s.stA (j := 0) rfl sz146 rfl rfl) (fun h s => ?_)
   dsimp only [setA] at s
   refine za rfl (zv (zw (WP.block (zg rfl (zm rfl (WPs.opT rfl rfl rfl (o_bin rfl rfl bNeq) (rfl) (za rfl (zv (zi rfl (zg rfl (zm rfl (za rfl (zv ?_)))))))))))))
   refine WP.ret ⟨trivial, _, rfl, ?_⟩
   exact ⟨by rw [checkL, if_neg hn, if_pos hg], s.drop⟩
theorem view_byte {i b id off : Nat} (hv : View h v l) (hb : l[i]? = some b) (he : indexAddrV Tryz.prog 32 v (.int .i64 (i : Int)) = some (.ptr id off)) : loadV Tryz.prog h 5 (.ptr id off) = some (.int .u8 (b : Int)) := by
 obtain ⟨id', off', e1, e2⟩ := index_view hv hb
 rw [he] at e1
 have e3 : V.ptr id off = V.ptr id' off' := Option.some.inj e1
 rw [e3]
 exact e2
theorem head_ct (hT : W told) (s : Sat h (X :: S)) (hX : Ent X (rdB v l)) (hl2 : l.length < 9223372036854775808) :
  Call ⟨Tryz.prog, told⟩ 127 [v] h fun r h' => Sat h' (X :: S) ∧ ((goodL l = true ∧ r = .tup [.int .i64 (l.getD 12 0 : Nat), .int .u64 (atL l 4 8), .int .i64 (atL l 18 4), .int .i64 (atL l 22 4), .int .i64 0]) ∨
   (goodL l = false ∧ r = .tup [.int .i64 0, .int .u64 0, .int .i64 0, .int .i64 0, .int .i64 4])) := by
 have hv := s.viewX (k := 0) rfl hX
 refine Call.of_wp (hT.free _ rfl) Tryz.func127 rfl rfl (zg rfl (za rfl (za rfl (za rfl (za rfl (za rfl (zv (zg rfl (zm rfl (WPs.call rfl rfl rfl rfl rfl rfl rfl (pof_ct hT s hX hl2) ?_))))))))))
 rintro r h' ⟨s, (⟨hg, rfl⟩ | ⟨hg, rfl⟩)⟩
 ·have hq := good512 hg
  obtain ⟨pi, po, pc, rfl⟩ := view_sl hv (by omega)
  have hb : l[12]? = some (l[12]'(by omega)) := List.getElem?_eq_getElem _
  generalize hbe : (l[12]'(by omega)) = b at hb
  have hb2 : b < 256 := hv.1 b (List.mem_of_getElem? hb)
  have hgd : l.getD 12 0 = b := by rw [List.getD_eq_getElem?_getD, hb]; rfl
  rw [hgd]
  refine zm rfl (ze rfl (ze rfl ?_))
  refine WPs.newS s rfl rfl rfl (o_alloc zt146) (fun p7 h s => ?_)
  dsimp only [V.cells, List.length_cons, List.length_nil, Nat.reduceAdd] at s
  refine WPs.stS rfl rfl rfl rfl rfl (by exact s.stA (j := 0) rfl sz146 rfl rfl) (fun h s => ?_)
  dsimp only [setA] at s
  refine za rfl (zv (zw (zg rfl (zm rfl (WPs.opF rfl rfl rfl (o_bin rfl rfl bNeq) (rfl) (zv (zj rfl (WP.skip (zw ?_)))))))))
  have s0 := s
  obtain ⟨id, off, e1, e2⟩ := index_view (s.viewX (k := 1) rfl hX) hb
  refine WP.drawn [some (0, 4), some (0, 4), some (0, 4), some (0, 4), none, none, none, some (0, 2), none, some (0, 3), none, none, none, none, none, none] rfl (by kernel_rfl) (by kernel_rfl) ?_
  refine zM rfl (zO rfl (o_ia (r := .ptr id off) rfl rfl e1) (zL rfl (view_byte (s.viewX (k := 1) rfl hX) hb e1) (WPt.op rfl rfl rfl (by simp only [isEff, Tryz.underlying3]) (o_conv rfl (by exact cvI Tryz.underlying5 Tryz.underlying3 (wrapS (by omega) (by omega)))) ?_)))
  refine zM rfl (zO rfl (o_slice (p := some (.int .i64 4)) (q := some (.int .i64 12)) (m := none) (p' := some 4) (q' := some 12) (m' := none) rfl rfl rfl rfl rfl rfl rfl (slice_view (s.viewX (k := 1) rfl hX) (a := 4) (b := 12) (by omega) (by omega)).1) ?_)
  refine WPt.any rfl rfl rfl rfl (OpR.call rfl rfl rfl rfl (word_ct hT s (k := 1) rfl (rd_slice hX (a := 4) (b := 12) (by omega) (by omega)) (by simp; omega))) ?_
  rintro r h' ⟨rfl, rfl⟩
  have s1 := s
  refine zL rfl (by exact s.ldA (k := 0) rfl ag146 sz146) ?_
  refine WPt.any rfl rfl rfl rfl (OpR.call rfl rfl rfl rfl (get_ct hT s (k := 1) rfl hX (by decide) (by decide) (by decide) (by omega) (by omega))) ?_
  rintro r h' ⟨rfl, s⟩
  have s2 := s
  refine zL rfl (by exact s.ldA (k := 0) rfl ag146 sz146) ?_
  refine WPt.any rfl rfl rfl rfl (OpR.call rfl rfl rfl rfl (get_ct hT s (k := 1) rfl hX (by decide) (by decide) (by decide) (by omega) (by omega))) ?_
  rintro r h' ⟨rfl, s⟩
  refine zA rfl (zA rfl (zA rfl (zA rfl (zA rfl ?_))))
  refine WPt.nil ⟨⟨fun _ _ => .inr ⟨rfl, ⟨_, o_move rfl⟩, beqV _ rfl⟩, fun _ _ => .inr ⟨rfl, ⟨_, o_ia (r := .ptr id off) rfl rfl e1⟩, beqV _ rfl⟩, heaps4 (.inr ⟨rfl, ⟨_, o_load rfl (view_byte (s0.viewX (k := 1) rfl hX) hb e1)⟩, beqV _ rfl⟩) (.inr ⟨rfl, ⟨_, o_load rfl (view_byte (s1.viewX (k := 1) rfl hX) hb e1)⟩, beqV _ rfl⟩) (.inr ⟨rfl, ⟨_, o_load rfl (view_byte (s2.viewX (k := 1) rfl hX) hb e1)⟩, beqV _ rfl⟩) (.inr ⟨rfl, ⟨_, o_load rfl (view_byte (s.viewX (k := 1) rfl hX) hb e1)⟩, beqV _ rfl⟩), fun _ _ => .inr ⟨rfl, ⟨_, o_conv rfl (by exact cvI Tryz.underlying5 Tryz.underlying3 (wrapS (by omega) (by omega)))⟩, beqV _ rfl⟩, trivial, trivial, trivial, heaps2 (.inr ⟨rfl, ⟨_, o_load rfl (by exact s0.ldA (k := 0) rfl ag146 sz146)⟩, beqV _ rfl⟩) (.inr ⟨rfl, ⟨_, o_load rfl (by exact s1.ldA (k := 0) rfl ag146 sz146)⟩, beqV _ rfl⟩), trivial, heaps3 (.inr ⟨rfl, ⟨_, o_load rfl (by exact s0.ldA (k := 0) rfl ag146 sz146)⟩, beqV _ rfl⟩) (.inr ⟨rfl, ⟨_, o_load rfl (by exact s1.ldA (k := 0) rfl ag146 sz146)⟩, beqV _ rfl⟩) (.inr ⟨rfl, ⟨_, o_load rfl (by exact s2.ldA (k := 0) rfl ag146 sz146)⟩, beqV _ rfl⟩), trivial, trivial, trivial, trivial, trivial, trivial, trivial⟩, ?_⟩
  refine WP.ret ⟨trivial, _, rfl, ?_⟩
  exact ⟨s.drop, .inl ⟨hg, rfl⟩⟩
 ·skip
  refine zm rfl (ze rfl (ze rfl ?_))
  refine WPs.newS s rfl rfl rfl (o_alloc zt146) (fun p7 h s => ?_)
  dsimp only [V.cells, List.length_cons, List.length_nil, Nat.reduceAdd] at s
  refine WPs.stS rfl rfl rfl rfl rfl (by exact s.stA (j := 0) rfl sz146 rfl rfl) (fun h s => ?_)
  dsimp only [setA] at s
  refine za rfl (zv (zw (zg rfl (zm rfl (WPs.opT rfl rfl rfl (o_bin rfl rfl bNeq) (rfl) (zv (zi rfl (zg rfl (zm rfl (za rfl (za rfl (za rfl (za rfl (za rfl (zv ?_)))))))))))))))
  refine WP.ret ⟨trivial, _, rfl, ?_⟩
  exact ⟨s.drop, .inr ⟨hg, rfl⟩⟩
end
end Go.Proofs.YtconhghphklfjaaGreat.Am
