/- Whatever groups are done and dropped, written out and checkpointed between, each page is as the groups that were done made it; the conditions are those of the given statement, for arguments that a machine can hold. Part 47 of 49. -/
import Derived.Test.YtconhghphklfjaaGreatP46
namespace Go.Proofs.YtconhghphklfjaaGreat.Am
open Go
theorem res4 {P : Program} {E : List (Nat × V)} {h : H} {a b c d : Nat} {v w x y : V} (h1 : look E a = some v) (h2 : look E b = some w) (h3 : look E c = some x) (h4 : look E d = some y) : resLE P E h [.tmp a, .tmp b, .tmp c, .tmp d] = some (.tup [v, w, x, y]) := by simp only [resLE, mapO, resE, h1, h2, h3, h4]
theorem and_i64 {P : Program} {h : H} {t : TypeId} {x y : Operand} {k : Int} {m : Nat} (hm : m < 65536) : ∃ r : Nat, r ≤ m ∧ binV P h .and t x y (.int .i64 k) (.int .i64 (m : Int)) = some (.int .i64 (r : Int)) := by
 have h2 : (((m : Nat) : Int) % (2 ^ (IntKind.i64).bits : Int)).toNat = m := by simp only [IntKind.bits]; omega
 refine ⟨Nat.land ((k % (2 ^ (IntKind.i64).bits : Int)).toNat) m, Nat.and_le_right, ?_⟩
 simp only [binV, ikBeq, cond_true, intV, bitsV, h2]
 have hle : Nat.land ((k % (2 ^ (IntKind.i64).bits : Int)).toNat) m ≤ m := Nat.and_le_right
 rw [wrap_i64 (n := Nat.land ((k % (2 ^ (IntKind.i64).bits : Int)).toNat) m) (by omega)]
theorem build_rec {h : H} {l : List Nat} {kd : Int} {tx : Nat} {dv : V} (hd : View h dv l) : buildV Tryz.prog 40 [(0, .int .i64 kd), (1, .int .u64 (tx : Int)), (4, dv)] = some (.agg (rcC kd tx 0 0 dv .sl0)) := by
 rcases hd.2 with ⟨rfl | ⟨ea, rfl⟩, _⟩ | ⟨id, off, cap, n, cs, st, rfl, _⟩
 ·rw [bv40]; rfl
 ·rw [bv40]; rfl
 ·rw [bv40]; rfl
theorem NX.shows {N : Nat} {ε ε' : Eng} {ps nx : List (List Nat)} {now : List (Int × List Nat)} {lsn : Nat} (h : NX N ps now nx) (hw : NW N now) (hp : PgS ε ps) (hd : ∀ m, pgA ε' m = match lookL m now with | some b => sealL b lsn | none => pgA ε m) : PgS ε' nx := fun n w hn => by
 have h1 := h.is n w hn
 rw [hd]
 cases hq : lookL (n : Int) now with
 | some b =>
  rw [hq] at h1
  simp only at h1 ⊢
  have hg := hw.look hq
  rw [h1]
  exact (seal_good hg.1 hg.2).2.2
 | none =>
  rw [hq] at h1
  exact hp n w h1
section
variable {told : Nat → Option (List V → H → Option (V × H))} {h : H} {S : List Assn} {X : Assn} {r k q p a g chk N B : Nat} {op v x pv nv wv dv : V} {l data : List Nat} {ε : Eng} {ps nx : List (List Nat)} {now : List (Int × List Nat)}
noncomputable def plE : Code := pathC [1, 1, 1, 1, 1, 1] ((Tryz.f28.body).getD .skip)
theorem play_end (hT : W told) {p5 : Nat} {D : Deed} (hB : B ≤ 900) (hε : EI N B ε) (hw : NW N now) (hx : NX N ps now nx) (hp : PgS ε ps) (hdl : data.length ≤ 1048576) (hD : D.data.length ≤ 1048576)
  (s : Sat h (isGp g a now false :: isSt a p q r (.ptr g 0) data chk :: isPl r p q ε.1 :: isLg q p ε.2.1 :: isDk p ε.2.2 :: .rob dv D.data :: .arr 1 nv (strsV nx) :: .arr 1 pv (strsV ps) :: pt p5 (.cells 4 [.int .i64 D.act, .int .i64 D.keep, wv, dv] false) :: S))
  {E : List (Nat × V)} (hE : Has E [(0, .ptr a 0), (1, pv), (5, .ptr p5 0), (18, .ptr g 0), (20, nv)]) {Q : Ex → List (Nat × V) → H → Prop}
  (hq : ∀ (e : Int) (ps' : List (List Nat)) (pv' : V) (lsn : Nat) (ε' : Eng) (data' : List Nat) (chk' : Nat) (E' : List (Nat × V)) (h' : H), e ≠ 9 → EI N (B + 2) ε' → ps'.length = N → PgS ε' ps' → data'.length ≤ 1048576 →
   look E' 6 = some pv' → look E' 7 = some (.int .u64 (lsn : Int)) → look E' 8 = some (.bool true) → look E' 9 = some (.int .i64 e) →
   Sat h' (isSt a p q r .ptr0 data' chk' :: isPl r p q ε'.1 :: isLg q p ε'.2.1 :: isDk p ε'.2.2 :: .arr 1 pv' (strsV ps') :: S) → Q .ret E' h') :
  WP ⟨Tryz.prog, told⟩ 262 plE E h Q := by
 have hN := hε.many
 have hpot := hε.pot
 have hsz := hε.el.size
 have hv := s.viewX (k := 5) rfl (rd_ro _ _)
 have s := s.bringS [8]
 dsimp only [bringA, getA, delA] at s
 refine WP.has hE (zw (zg rfl (zf rfl (fa62_0 _ _) (zl rfl (by exact s.ld (k := 0) rfl ag3 rfl) ?_))))
 by_cases hact : D.act = 2
 ·skip
  refine WPs.opT rfl rfl rfl (o_bin rfl rfl bEql) (by simp; exact hact) ?_
  refine zv (zi rfl (zg rfl (zm rfl (WPs.call rfl rfl rfl rfl rfl rfl rfl (gdrop_ct hT (s.bringS [1, 1])) ?_))))
  rintro v h ⟨rfl, s⟩
  dsimp only [bringA, getA, delA] at s
  refine zv (zg rfl (zm rfl (za rfl (za rfl (za rfl (za rfl (zv (WP.ret ?_))))))))
  exact hq 0 ps pv 0 ε data chk _ _ (by decide) (hε.more (by omega)) hx.old hp hdl rfl rfl rfl rfl (((((s.bringS [1, 2, 2, 2, 4]).del 8).del 7).del 6).del 5)
 ·obtain ⟨r1, hr1, e1⟩ := and_i64 (P := Tryz.prog) (h := h) (t := 3) (x := .tmp 231) (y := .const (.int .i64 3)) (k := D.keep) (m := 3) (by decide)
  obtain ⟨r2, hr2, e2⟩ := and_i64 (P := Tryz.prog) (h := h) (t := 3) (x := .tmp 235) (y := .const (.int .i64 255)) (k := D.keep) (m := 255) (by decide)
  refine WPs.opF rfl rfl rfl (o_bin rfl rfl bEql) (by simp; exact hact) ?_
  refine zv (zj rfl (WP.skip (zg rfl (zm rfl (zf rfl (fa62_1 _ _) (zl rfl (by exact s.ld (k := 0) rfl ag3 rfl) ?_))))))
  refine zb rfl e1 (zb rfl (by exact bAdd (wrapS (by omega) (by omega))) ?_)
  refine zf rfl (fa62_1 _ _) (zl rfl (by exact s.ld (k := 0) rfl ag3 rfl) ?_)
  refine zb rfl e2 (zo rfl (o_conv rfl (by exact cvI Tryz.underlying3 Tryz.underlying35 (wrapU (by omega) (by omega)))) ?_)
  refine zf rfl (fa62_3 _ _) (zl rfl (by exact s.ld (k := 0) rfl ag32 rfl) ?_)
  refine zo rfl (o_build rfl (build_rec hv)) ?_
  have s := s.nilArr (k := 4)
  refine WPs.call rfl rfl rfl rfl rfl rfl rfl (done_ct (nch := 0) hT (s.bringS [2, 2, 2, 2, 2, 2, 0]) (rd_ro _ _) rfl hε.ok (by omega) (fun e he => good512 (hw.good e he).1) (by have := hw.len; omega) (fun n hn => by have := hw.keys n hn; omega) (by omega) (by decide) (by decide) (by omega) hε.el.log (by omega)) ?_
  rintro v h ⟨lsn, e, cl, ε', hr, rfl, s⟩
  dsimp only [bringA, getA, delA] at s
  rcases hε.done (by omega) hw (by omega) (by omega) hr with ⟨rfl, he, hε', hpg⟩ | ⟨rfl, rfl, hε', hpg⟩
  ·have s : Sat h (isGp g a now false :: isSt a p q r (.ptr g 0) data chk :: _) := s
   have he9 : e ≠ 9 := by omega
   refine zm rfl (ze rfl (ze rfl (za rfl (za rfl (zv (zw (zg rfl (zm rfl (WPs.opF rfl rfl rfl (o_bin rfl rfl bEql) (by simp; exact he9) ?_)))))))))
   refine zv (zj rfl (WP.skip (zw (zg rfl (zm rfl (WPs.opT rfl rfl rfl (o_bin rfl rfl bNeq) (by simp; omega) ?_))))))
   refine zv (zi rfl (zg rfl (zm rfl (WPs.call rfl rfl rfl rfl rfl rfl rfl (gdrop_ct hT s) ?_))))
   rintro v h ⟨rfl, s⟩
   refine zv (zg rfl (zm rfl (zm rfl ?_)))
   have fin := (((((s.bringS [1, 1, 1, 1, 4]).del 8).del 7).del 6).del 5)
   rcases he with rfl | rfl
   ·skip
    refine WPs.opT rfl rfl rfl (o_bin rfl rfl bEql) (by decide) ?_
    refine zm rfl (zx rfl (zx rfl (zq rfl (zm rfl (za rfl (za rfl (za rfl (za rfl (zv (WP.ret ?_))))))))))
    exact hq 7 ps pv 0 ε' data chk _ _ (by decide) hε' hx.old (hp.of fun m _ => hpg m) hdl rfl rfl rfl rfl fin
   ·skip
    refine WPs.opF rfl rfl rfl (o_bin rfl rfl bEql) (by decide) ?_
    refine zm rfl (zm rfl (WPs.opT rfl rfl rfl (o_bin rfl rfl bEql) (by decide) ?_))
    refine zp rfl (zm rfl (za rfl (za rfl (za rfl (za rfl (zv (WP.ret ?_)))))))
    exact hq 2 ps pv 0 ε' data chk _ _ (by decide) hε' hx.old (hp.of fun m _ => hpg m) hdl rfl rfl rfl rfl fin
  ·have s : Sat h (isGp g a now true :: isSt a p q r .ptr0 data chk :: _) := s
   refine zm rfl (ze rfl (ze rfl (za rfl (za rfl (zv (zw (zg rfl (zm rfl (WPs.opF rfl rfl rfl (o_bin rfl rfl bEql) (by decide) ?_)))))))))
   refine zv (zj rfl (WP.skip (zw (zg rfl (zm rfl (WPs.opF rfl rfl rfl (o_bin rfl rfl bNeq) (by decide) ?_))))))
   refine zv (zj rfl (WP.skip (zg rfl (zm rfl (zm rfl (za rfl (za rfl (za rfl (za rfl (zv (WP.ret ?_)))))))))))
   exact hq 0 nx nv lsn ε' data chk _ _ (by decide) hε' hx.len (hx.shows hw hp hpg) hdl rfl rfl rfl rfl (((((s.bringS [1, 1, 1, 1, 3]).del 8).del 7).del 6).del 5)
end
end Go.Proofs.YtconhghphklfjaaGreat.Am
namespace Go.Proofs.YtconhghphklfjaaGreat.Am
open Go
theorem info_str : ∃ i, Tryz.prog.info? 9 = some i ∧ i.size = 1 ∧ i.bytes = 16 :=
 ⟨_, (show Tryz.prog.info? 9 = some ((Tryz.prog.info? 9).getD default) by kernel_rfl), by kernel_rfl, by kernel_rfl⟩
def PlQ (N B a p q r : Nat) (S : List Assn) (Q : Ex → List (Nat × V) → H → Prop) : Prop :=
 ∀ (e : Int) (ps' : List (List Nat)) (pv' : V) (lsn : Nat) (ε' : Eng) (data' : List Nat) (chk' : Nat) (E' : List (Nat × V)) (h' : H), e ≠ 9 → EI N (B + 2) ε' → ps'.length = N → PgS ε' ps' → data'.length ≤ 1048576 →
   look E' 6 = some pv' → look E' 7 = some (.int .u64 (lsn : Int)) → look E' 8 = some (.bool true) → look E' 9 = some (.int .i64 e) →
   Sat h' (isSt a p q r .ptr0 data' chk' :: isPl r p q ε'.1 :: isLg q p ε'.2.1 :: isDk p ε'.2.2 :: .arr 1 pv' (strsV ps') :: S) → Q .ret E' h'
section
variable {told : Nat → Option (List V → H → Option (V × H))} {h : H} {S : List Assn} {X : Assn} {r k q p a g chk N B : Nat} {op v x pv nv wv dv : V} {l data : List Nat} {ε : Eng} {ps nx : List (List Nat)} {now : List (Int × List Nat)} {Q : Ex → List (Nat × V) → H → Prop}
noncomputable def plK : Code := pathC [1, 0, 1, 0, 1, 0, 1, 1] ((Tryz.f28.body).getD .skip)
theorem play_ck (hT : W told) {p5 lo : Nat} {D : Deed} (hB : B ≤ 900) (hε : EI N B ε) (hN : ps.length = N) (hp : PgS ε ps) (hdl : data.length ≤ 1048576) (hD : D.data.length ≤ 1048576) (hlo : lo < 18446744073709551616)
  (s : Sat h (pt p5 (.cells 4 [.int .i64 D.act, .int .i64 D.keep, wv, dv] false) :: isSt a p q r .ptr0 data chk :: isPl r p q ε.1 :: isLg q p ε.2.1 :: isDk p ε.2.2 :: .rob dv D.data :: .arr 1 pv (strsV ps) :: S))
  {E : List (Nat × V)} (hE : Has E [(0, .ptr a 0), (1, pv), (5, .ptr p5 0), (10, .int .u64 (lo : Int))]) (hq : PlQ N B a p q r S Q) :
  WP ⟨Tryz.prog, told⟩ 262 plK E h Q := by
 have hNm := hε.many
 have hsz := hε.el.size
 have hdl2 := hε.dirty
 refine WP.has hE (zg rfl (zm rfl (zm rfl (zf rfl (fa62_3 _ _) (zl rfl (by exact s.ld (k := 0) rfl ag32 rfl) ?_)))))
 refine WPs.call rfl rfl rfl rfl rfl rfl rfl (ckpt_ct (lo := lo) hT (s.bringS [1, 1, 1, 1, 1]) (rd_ro _ _) hε.ok.ok hlo (by omega) (fun n hn => wf_i64 (hε.ec.dirt n hn).1 (by have := (hε.ec.dirt n hn).2; omega)) hε.el.log (by omega)) ?_
 rintro v h ⟨e, ε', data', chk', hr, rfl, s⟩
 dsimp only [bringA, getA, delA] at s
 obtain ⟨i1, i2, i3⟩ := hε.ckpt (by omega) hr
 have hd' : data'.length ≤ 1048576 := by rcases i3 with ⟨_, _, rfl⟩ | ⟨_, rfl⟩ | ⟨_, rfl⟩ <;> assumption
 refine za rfl (zv (zg rfl (zm rfl (WPs.call rfl rfl rfl rfl rfl rfl rfl (checked_ct hT s (by omega)) ?_))))
 rintro v h ⟨w, rfl, s⟩
 have hv1 := s.viewX (k := 0) rfl (rd_buf _ _)
 have hv2 := s.viewX (k := 5) rfl (rd_ro _ _)
 have s := s.bringS [6]
 dsimp only [bringA, getA, delA] at s
 have fin := (((s.bringS [2, 2, 2, 2, 3]).del 7).del 6).del 5
 dsimp only [bringA, getA, delA] at fin
 rcases i3 with ⟨rfl, hbig, _⟩ | ⟨rfl, _⟩ | ⟨rfl, rfl⟩
 ·skip
  refine zm rfl (ze rfl (ze rfl (za rfl (za rfl (zv (zw (WP.drawn [none, none, none, none, none, none, none, none, none, none, none, none, none, none, none, none, none, none, none, none, none, none, none, none, none, none, none, none, none, none, none, none, none, none] rfl (by kernel_rfl) (by kernel_rfl) ?_)))))))
  refine zM rfl (zM rfl (WPt.opF rfl rfl rfl rfl (o_bin rfl rfl bEql) (by decide) ?_))
  refine zM rfl (zM rfl (WPt.opF rfl rfl rfl rfl (o_bin rfl rfl bEql) (by decide) ?_))
  refine zO rfl (o_pickF rfl rfl) (zM rfl (zM rfl (WPt.opF rfl rfl rfl rfl (o_bin rfl rfl bEql) (by decide) ?_)))
  refine zM rfl (WPt.no (e := false) rfl rfl rfl rfl (WPt.no (e := false) rfl rfl rfl (by simp only [isEff, Tryz.underlying9]) ?_))
  refine WPt.no (e := false) rfl rfl rfl rfl (WPt.no (e := false) rfl rfl rfl rfl (WPt.no (e := false) rfl rfl rfl (by simp only [isEff, Tryz.underlying9]) ?_))
  refine WPt.no (e := false) rfl rfl rfl rfl (zO rfl (o_pickF rfl rfl) (zO rfl (o_pickF rfl rfl) (zM rfl (zM rfl (WPt.opT rfl rfl rfl rfl (o_bin rfl rfl bEql) (by decide) ?_)))))
  refine zM rfl (zF rfl (fa62_3 _ _) (zL rfl (by exact s.ld (k := 0) rfl ag32 rfl) ?_))
  refine zO rfl (o_len rfl rfl rfl (len_view Tryz.underlying32 hv2)) (WPt.opT rfl rfl rfl rfl (o_bin rfl rfl bGtr) (by simp; omega) ?_)
  refine zO rfl (o_pickT rfl rfl) (zO rfl (o_pickF rfl rfl) (zM rfl (zA rfl (zA rfl (zA rfl (zA rfl ?_))))))
  refine WPt.nil ⟨⟨trivial, trivial, trivial, trivial, trivial, trivial, trivial, trivial, trivial, trivial, trivial, trivial, trivial, trivial, trivial, trivial, trivial, trivial, trivial, trivial, trivial, trivial, trivial, trivial, trivial, trivial, trivial, trivial, trivial, trivial, trivial, trivial, trivial, trivial, trivial⟩, ?_⟩
  refine WP.ret ?_
  exact hq 2 ps pv 0 ε' data' chk' _ _ (by decide) (i1.more (by omega)) hN (hp.of fun m _ => i2 m) hd' rfl rfl rfl rfl fin
 ·skip
  refine zm rfl (ze rfl (ze rfl (za rfl (za rfl (zv (zw (WP.drawn [none, none, none, none, none, none, none, none, none, none, none, none, none, none, none, none, none, none, none, none, none, none, none, none, none, none, none, none, none, none, none, none, none, none] rfl (by kernel_rfl) (by kernel_rfl) ?_)))))))
  refine zM rfl (zM rfl (WPt.opF rfl rfl rfl rfl (o_bin rfl rfl bEql) (by decide) ?_))
  refine zM rfl (zM rfl (WPt.opT rfl rfl rfl rfl (o_bin rfl rfl bEql) (by decide) ?_))
  refine zO rfl (o_pickF rfl rfl) (zM rfl (WPt.no (e := false) rfl rfl rfl rfl (WPt.no (e := false) rfl rfl rfl rfl (WPt.no (e := false) rfl rfl rfl rfl (WPt.no (e := false) rfl rfl rfl rfl (WPt.no (e := false) rfl rfl rfl (by simp only [isEff, Tryz.underlying9]) ?_))))))
  refine WPt.no (e := false) rfl rfl rfl rfl (WPt.no (e := false) rfl rfl rfl rfl (WPt.no (e := false) rfl rfl rfl (by simp only [isEff, Tryz.underlying9]) ?_))
  refine WPt.no (e := false) rfl rfl rfl rfl (WPt.no (e := false) rfl rfl rfl rfl (zO rfl (o_pickT rfl rfl) (zM rfl (WPt.no (e := false) rfl rfl rfl rfl (WPt.no (e := false) rfl rfl rfl rfl (WPt.no (e := false) rfl rfl rfl rfl (WPt.no (e := false) rfl rfl rfl rfl (WPt.no (e := false) rfl rfl rfl rfl (WPt.no (e := false) rfl rfl rfl rfl (WPt.no (e := false) rfl rfl rfl rfl (WPt.no (e := false) rfl rfl rfl rfl (zO rfl (o_pickT rfl rfl) (zM rfl (zA rfl (zA rfl (zA rfl (zA rfl ?_)))))))))))))))))
  refine WPt.nil ⟨⟨trivial, trivial, trivial, trivial, trivial, trivial, trivial, trivial, trivial, trivial, trivial, trivial, trivial, trivial, trivial, trivial, trivial, trivial, trivial, trivial, trivial, trivial, trivial, trivial, trivial, trivial, trivial, trivial, trivial, trivial, trivial, trivial, trivial, trivial, trivial⟩, ?_⟩
  refine WP.ret ?_
  exact hq 7 ps pv 0 ε' data' chk' _ _ (by decide) (i1.more (by omega)) hN (hp.of fun m _ => i2 m) hd' rfl rfl rfl rfl fin
 ·skip
  refine zm rfl (ze rfl (ze rfl (za rfl (za rfl (zv (zw (WP.drawn [none, none, none, none, none, none, none, none, none, none, none, none, none, none, none, none, none, none, none, none, none, none, none, none, none, none, none, none, none, none, none, none, none, none] rfl (by kernel_rfl) (by kernel_rfl) ?_)))))))
  refine zM rfl (zM rfl (WPt.opF rfl rfl rfl rfl (o_bin rfl rfl bEql) (by decide) ?_))
  refine zM rfl (zM rfl (WPt.opF rfl rfl rfl rfl (o_bin rfl rfl bEql) (by decide) ?_))
  refine zO rfl (o_pickF rfl rfl) (zM rfl (zM rfl (WPt.opT rfl rfl rfl rfl (o_bin rfl rfl bEql) (by decide) ?_)))
  refine zM rfl (zM rfl (WPt.op rfl rfl rfl (by simp only [isEff, Tryz.underlying9]) (o_conv rfl (cvS hv1)) ?_))
  refine zF rfl (fa62_3 _ _) (zL rfl (by exact s.ld (k := 0) rfl ag32 rfl) ?_)
  refine WPt.op rfl rfl rfl (by simp only [isEff, Tryz.underlying9]) (o_conv rfl (cvS hv2)) ?_
  refine WPt.opT rfl rfl rfl rfl (o_bin rfl rfl bEqlS) (decide_eq_true rfl) (zO rfl (o_pickT rfl rfl) (zO rfl (o_pickF rfl rfl) (zM rfl (WPt.no (e := false) rfl rfl rfl rfl (WPt.no (e := false) rfl rfl rfl rfl (WPt.no (e := false) rfl rfl rfl rfl (WPt.no (e := false) rfl rfl rfl rfl (WPt.no (e := false) rfl rfl rfl rfl (WPt.no (e := false) rfl rfl rfl rfl (WPt.no (e := false) rfl rfl rfl rfl (WPt.no (e := false) rfl rfl rfl rfl (zO rfl (o_pickT rfl rfl) (zM rfl (zA rfl (zA rfl (zA rfl (zA rfl ?_)))))))))))))))))
  refine WPt.nil ⟨⟨trivial, trivial, trivial, trivial, trivial, trivial, trivial, trivial, trivial, trivial, trivial, trivial, trivial, trivial, trivial, trivial, trivial, trivial, trivial, trivial, trivial, trivial, trivial, trivial, trivial, trivial, trivial, trivial, trivial, trivial, trivial, trivial, trivial, trivial, trivial⟩, ?_⟩
  refine WP.ret ?_
  exact hq 0 ps pv 0 ε' _ chk' _ _ (by decide) (i1.more (by omega)) hN (hp.of fun m _ => i2 m) hd' rfl rfl rfl rfl fin
noncomputable def plG : Code := pathC [1, 1] ((Tryz.f28.body).getD .skip)
theorem play_gr (hT : W told) {p5 : Nat} {cs : List V} {D : Deed} (hB : B ≤ 900) (hε : EI N B ε) (hN : ps.length = N) (hp : PgS ε ps) (hdl : data.length ≤ 1048576) (hD : D.data.length ≤ 1048576 ∧ D.w.length ≤ 1048576 ∧ ∀ x ∈ D.w, x.2.length ≤ 1048576)
  (s : Sat h (isSt a p q r .ptr0 data chk :: isPl r p q ε.1 :: isLg q p ε.2.1 :: isDk p ε.2.2 :: .arr 1 pv (strsV ps) :: pt p5 (.cells 4 [.int .i64 D.act, .int .i64 D.keep, wv, dv] false) :: rowA 2 wv cs :: lwA cs D.w :: .rob dv D.data :: S))
  {E : List (Nat × V)} (hE : Has E [(0, .ptr a 0), (1, pv), (5, .ptr p5 0)]) (hq : PlQ N B a p q r S Q) :
  WP ⟨Tryz.prog, told⟩ 262 plG E h Q := by
 have hNm := hε.many
 refine WP.has hE (zg rfl (zm rfl (WPs.call rfl rfl rfl rfl rfl rfl rfl (sgroup_ct hT s) ?_)))
 rintro v h ⟨g, rfl, s⟩
 refine zm rfl (ze rfl (ze rfl (za rfl (za rfl (zv (zw (zg rfl (zm rfl (WPs.opF rfl rfl rfl (o_bin rfl rfl bNeq) (by decide) ?_)))))))))
 refine zm rfl (zm rfl (WPs.opF rfl rfl rfl (o_bin rfl rfl (eqlP0 Tryz.underlying27)) (rfl) (zp rfl (zv (zj rfl (WP.skip (zg rfl ?_)))))))
 obtain ⟨h1, e1, s1⟩ := sat_bs0 (P := Tryz.prog) s Tryz.underlying57 zt9 sz9 rfl (by decide)
 refine WPs.any rfl rfl rfl (OpR.of (R := fun v h' => v = .sl h.next 0 0 (.exact 0) ∧ h' = h1) (o_bs rfl e1) ⟨rfl, rfl⟩) ?_
 rintro v h' ⟨rfl, rfl⟩
 have s := (arr_of0 (q := 1) s1).bringS [0, 5]
 dsimp only [bringA, getA, delA] at s
 obtain ⟨i1, hi1, hi2, hi3⟩ := info_str
 obtain ⟨nv, h2, e2, s2⟩ := sat_appArr (P := Tryz.prog) s Tryz.underlying57 hi1 zt9 hi2 (by omega) rfl (by decide) (by rw [strsV_len, hN]; simp; omega)
 refine zm rfl (WPs.any rfl rfl rfl (OpR.of (R := fun v h' => v = nv ∧ h' = h2) (o_app rfl rfl e2) ⟨rfl, rfl⟩) ?_)
 rintro v h ⟨rfl, rfl⟩
 rw [List.nil_append] at s2
 refine za rfl (zv (zw (zg rfl (za rfl (zv (WP.block ?_))))))
 refine play_loop hT (N := N) (ps := ps) hNm (by omega) hD.2 D.w.length 0 ε [] ps _ _ _ _ (by omega) hε (NW.nil N) ⟨hN, hN, fun n w h => h⟩ (s2.bringS [2, 2, 2, 2, 2, 0, 0, 0, 0, 0]) ⟨rfl, rfl, rfl, rfl, rfl, rfl, trivial⟩ (fun ε' now' nx' E' h' g1 g2 g3 g4 g5 s' => ?_)
 have s := s'
 refine play_end hT (B := B) hB g1 g3 g4 (hp.of fun m _ => g2 m) hdl hD.1 (((s.bringS [0, 0, 0, 0, 0, 5, 0, 0, 0]).del 10).del 9) g5 ?_
 exact hq
theorem play_ct (hT : W2 told) {D : Deed} (hB : B ≤ 900) (hε : EI N B ε) (hN : ps.length = N) (hp : PgS ε ps) (hdl : data.length ≤ 1048576) (hD : D.data.length ≤ 1048576 ∧ D.w.length ≤ 1048576 ∧ ∀ x ∈ D.w, x.2.length ≤ 1048576)
  (s : Sat h (isSt a p q r .ptr0 data chk :: isPl r p q ε.1 :: isLg q p ε.2.1 :: isDk p ε.2.2 :: .arr 1 pv (strsV ps) :: deedA wv dv D :: S)) :
  Call ⟨Tryz.prog, told⟩ 28 [.ptr a 0, pv, .agg [.int .i64 D.act, .int .i64 D.keep, wv, dv]] h fun v h' => ∃ (e : Int) (ps' : List (List Nat)) (pv' : V) (lsn : Nat) (ε' : Eng) (data' : List Nat) (chk' : Nat),
   e ≠ 9 ∧ EI N (B + 2) ε' ∧ ps'.length = N ∧ PgS ε' ps' ∧ data'.length ≤ 1048576 ∧ v = .tup [pv', .int .u64 (lsn : Int), .bool true, .int .i64 e] ∧
   Sat h' (isSt a p q r .ptr0 data' chk' :: isPl r p q ε'.1 :: isLg q p ε'.2.1 :: isDk p ε'.2.2 :: .arr 1 pv' (strsV ps') :: S) := by
 have hNm := hε.many
 have hpot := hε.pot
 have hwt := pot_wait (ε := ε)
 have hsz := hε.el.size
 obtain ⟨q1, q2⟩ := hε.wher
 have hkeys : ∀ n ∈ ε.1.wher.map (·.1), (Lit.int .i64 n).wf = true := fun n hn => wf_i64 (q1 n hn).1 (by have := (q1 n hn).2; omega)
 -- the deed's parts
 have s := ((s.bringS [5]).dup (Pers.deedA _ _ _)).ent (B := .rob dv D.data) (fun _ _ h => h.2) |>.bringS [1] |>.ent (B := .xs fun cs : List V => .an (rowA 2 wv cs) (lwA cs D.w)) (fun _ _ h => h.1)
 dsimp only [bringA, getA, delA] at s
 obtain ⟨cs, s⟩ := Sat_xs.1 s
 have s := (s.dup (Pers.an (Pers.rowA _ _ _) (Pers.lwA _ _))).ent (B := rowA 2 wv cs) (fun _ _ h => h.1) |>.bringS [1] |>.ent (B := lwA cs D.w) (fun _ _ h => h.2)
 have s : Sat h (lwA cs D.w :: rowA 2 wv cs :: .rob dv D.data :: isSt a p q r .ptr0 data chk :: isPl r p q ε.1 :: isLg q p ε.2.1 :: isDk p ε.2.2 :: .arr 1 pv (strsV ps) :: S) := s
 have hrow := s.rowV (j := 1) rfl
 have hdv := (s.viewX (k := 2) rfl (rd_ro _ _)).cells
 have hst : (V.agg [.int .i64 D.act, .int .i64 D.keep, wv, dv]).cells.all storable = true := by
  simp only [V.cells, List.all_cons, List.all_nil, hrow.2.1, hdv.2]; rfl
 refine Call.of_wp (hT.w.free _ rfl) Tryz.func28 rfl rfl (zg rfl (WPs.newS s rfl rfl rfl (o_box rfl hst) ?_))
 intro p5 h s
 have s : Sat h (pt p5 (.cells 4 [.int .i64 D.act, .int .i64 D.keep, wv, dv] false) :: _) := s
 have s := s.bringS [0, 3, 3, 3, 3, 3, 2, 1, 0]
 dsimp only [bringA, getA, delA] at s
 have hq : PlQ N B a p q r S fun ex E' h' => (match ex with | .exit _ => False | _ => True) ∧ ∃ v, resLE Tryz.prog E' h' [.tmp 6, .tmp 7, .tmp 8, .tmp 9] = some v ∧ ∃ (e : Int) (ps' : List (List Nat)) (pv' : V) (lsn : Nat) (ε' : Eng) (data' : List Nat) (chk' : Nat),
   e ≠ 9 ∧ EI N (B + 2) ε' ∧ ps'.length = N ∧ PgS ε' ps' ∧ data'.length ≤ 1048576 ∧ v = .tup [pv', .int .u64 (lsn : Int), .bool true, .int .i64 e] ∧
   Sat h' (isSt a p q r .ptr0 data' chk' :: isPl r p q ε'.1 :: isLg q p ε'.2.1 :: isDk p ε'.2.2 :: .arr 1 pv' (strsV ps') :: S) :=
  fun e ps' pv' lsn ε' data' chk' E' h' h1 h2 h3 h4 h5 l6 l7 l8 l9 s' => ⟨trivial, _, res4 l6 l7 l8 l9, e, ps', pv', lsn, ε', data', chk', h1, h2, h3, h4, h5, rfl, s'⟩
 have drops : ∀ {h : H} {A B C D E F G I J : Assn}, Sat h (A :: B :: C :: D :: E :: F :: G :: I :: J :: S) → Sat h (A :: B :: C :: D :: E :: S) := fun s => (((s.del 8).del 7).del 6).del 5
 refine za rfl (za rfl (za rfl (za rfl (zv (zw (zg rfl (zf rfl (fa62_0 _ _) (zl rfl (by exact s.ld (k := 0) rfl ag3 rfl) ?_))))))))
 refine zv (WP.block (zg rfl ?_))
 by_cases h3 : D.act = 3
 ·skip
  refine WPs.opT rfl rfl rfl (o_bin rfl rfl bEql) (by simp; exact h3) ?_
  refine za rfl (zv (zi rfl (zg rfl (za rfl (zv (zw (zg rfl (zf rfl (fa62_1 _ _) (zl rfl (by exact s.ld (k := 0) rfl ag3 rfl) ?_)))))))))
  by_cases hk : 0 < D.keep
  ·skip
   refine WPs.opT rfl rfl rfl (o_bin rfl rfl bGtr) (by simp; exact hk) ?_
   refine zv (zi rfl (zr rfl (zm rfl (WPs.call rfl rfl rfl rfl rfl rfl rfl (sLog_ct hT.w (s.bringS [1])) ?_))))
   rintro v h' ⟨rfl, rfl⟩
   refine WPs.call rfl rfl rfl rfl rfl rfl rfl (lFirst_ct hT.w (s.bringS [3])) ?_
   rintro v h' ⟨rfl, rfl⟩
   refine za rfl (zv ?_)
   exact play_ck hT.w hB hε hN hp hdl hD.1 (by omega) (((s.bringS [0, 0, 0, 0, 0, 1, 0]).del 8).del 7) ⟨rfl, rfl, rfl, rfl, trivial⟩ hq
  ·skip
   refine WPs.opF rfl rfl rfl (o_bin rfl rfl bGtr) (by simp; omega) ?_
   refine zv (zj rfl ?_)
   exact WP.skip (play_ck hT.w (lo := 0) hB hε hN hp hdl hD.1 (by decide) (((s.bringS [0, 0, 0, 0, 0, 1, 0]).del 8).del 7) ⟨rfl, rfl, rfl, rfl, trivial⟩ hq)
 ·skip
  refine WPs.opF rfl rfl rfl (o_bin rfl rfl bEql) (by simp; exact h3) ?_
  refine za rfl (zv (zj rfl (zg rfl ?_)))
  by_cases h4 : D.act = 4
  ·skip
   refine WPs.opT rfl rfl rfl (o_bin rfl rfl bEql) (by simp; exact h4) ?_
   refine za rfl (zv (zi rfl (zg rfl (zm rfl (WPs.call rfl rfl rfl rfl rfl rfl rfl (sPool_ct hT.w (s.bringS [1])) ?_)))))
   rintro v h' ⟨rfl, rfl⟩
   refine WPs.call rfl rfl rfl rfl rfl rfl rfl (writeAll_ct hT.w (s.bringS [2, 2, 2]) hε.ok.ok (by omega) (by omega) hkeys) ?_
   rintro v h ⟨rfl, s⟩
   dsimp only [bringA, getA, delA] at s
   obtain ⟨w1, w2, w3⟩ := hε.writeAll
   have w1' : (writeAllF (keysS ε.1.wher) (ε.1, ε.2.1, ε.2.2)).1 = 0 := w1
   rw [w1']
   refine za rfl (zv (zg rfl (zm rfl (zm rfl (WPs.opT rfl rfl rfl (o_bin rfl rfl bEql) (by decide) ?_)))))
   refine zm rfl (zx rfl (zx rfl (zq rfl (zm rfl (za rfl (za rfl (za rfl (za rfl (zv ?_)))))))))
   refine WP.ret ⟨trivial, _, rfl, ?_⟩
   exact ⟨0, ps, pv, 0, _, data, chk, by decide, w2.more (by omega), hN, (hp.of fun m _ => w3 m), hdl, rfl, (drops (s.bringS [4, 0, 0, 0, 1]))⟩
  ·skip
   refine WPs.opF rfl rfl rfl (o_bin rfl rfl bEql) (by simp; exact h4) ?_
   refine za rfl (zv (zj rfl (zg rfl ?_)))
   by_cases h5 : D.act = 5
   ·skip
    refine WPs.opT rfl rfl rfl (o_bin rfl rfl bEql) (by simp; exact h5) ?_
    refine za rfl (zv (zi rfl (zg rfl (zm rfl (WPs.call rfl rfl rfl rfl rfl rfl rfl (sPool_ct hT.w (s.bringS [1])) ?_)))))
    rintro v h' ⟨rfl, rfl⟩
    refine WPs.call rfl rfl rfl rfl rfl rfl rfl (psync_ct hT (s.bringS [2, 3]) hε.ok.ok.dk (fun e he => by rw [hε.ec.dk.pages]; exact hε.ec.dk.keys _ (List.mem_map_of_mem he))) ?_
    rintro v h ⟨rfl, s⟩
    dsimp only [bringA, getA, delA] at s
    obtain ⟨w1, w2, w3⟩ := hε.sync
    rw [w1]
    refine za rfl (zv (zg rfl (zm rfl (zm rfl (WPs.opT rfl rfl rfl (o_bin rfl rfl bEql) (by decide) ?_)))))
    refine zm rfl (zx rfl (zx rfl (zq rfl (zm rfl (za rfl (za rfl (za rfl (za rfl (zv ?_)))))))))
    refine WP.ret ⟨trivial, _, rfl, ?_⟩
    exact ⟨0, ps, pv, 0, _, data, chk, by decide, w2.more (by omega), hN, (hp.of w3), hdl, rfl, (drops (s.bringS [3, 0, 2, 0, 1]))⟩
   ·skip
    refine WPs.opF rfl rfl rfl (o_bin rfl rfl bEql) (by simp; exact h5) ?_
    refine za rfl (zv (zj rfl (zg rfl ?_)))
    by_cases h6 : D.act = 6
    ·skip
     refine WPs.opT rfl rfl rfl (o_bin rfl rfl bEql) (by simp; exact h6) ?_
     refine za rfl (zv (zi rfl (zg rfl (zm rfl ?_))))
     obtain ⟨w1, w2, w3⟩ := hε.clean
     obtain ⟨v1, v2, v3⟩ := hε.writeAll
     refine WPs.call rfl rfl rfl rfl rfl rfl rfl (clean_ct hT (s.bringS [1, 1, 1, 1]) hε.ok.ok (by omega) (by omega) hkeys v2.ok.ok.dk (fun e he => by rw [v2.ec.dk.pages]; exact v2.ec.dk.keys _ (List.mem_map_of_mem he))) ?_
     rintro v h ⟨rfl, s⟩
     dsimp only [bringA, getA, delA] at s
     rw [w1]
     refine za rfl (zv (zg rfl (zm rfl (zm rfl (WPs.opT rfl rfl rfl (o_bin rfl rfl bEql) (by decide) ?_)))))
     refine zm rfl (zx rfl (zx rfl (zq rfl (zm rfl (za rfl (za rfl (za rfl (za rfl (zv ?_)))))))))
     refine WP.ret ⟨trivial, _, rfl, ?_⟩
     exact ⟨0, ps, pv, 0, _, data, chk, by decide, w2.more (by omega), hN, (hp.of w3), hdl, rfl, (drops (s.bringS [0, 0, 0, 0, 1]))⟩
    ·skip
     refine WPs.opF rfl rfl rfl (o_bin rfl rfl bEql) (by simp; exact h6) ?_
     refine za rfl (zv (zj rfl (zg rfl ?_)))
     by_cases h7 : D.act = 7
     ·skip
      refine WPs.opT rfl rfl rfl (o_bin rfl rfl bEql) (by simp; exact h7) ?_
      refine za rfl (zv (zi rfl (zg rfl (zm rfl (zm rfl (WPs.call rfl rfl rfl rfl rfl rfl rfl (sLog_ct hT.w (s.bringS [1])) ?_))))))
      rintro v h' ⟨rfl, rfl⟩
      refine WPs.call rfl rfl rfl rfl rfl rfl rfl (lEnd_ct hT.w (s.bringS [3]) (by omega)) ?_
      rintro v h' ⟨rfl, rfl⟩
      have ec : (ε.2.1.base : Int) + (ε.2.1.b.length : Int) = ((ε.2.1.base + ε.2.1.b.length : Nat) : Int) := by omega
      rw [ec]
      refine WPs.call rfl rfl rfl rfl rfl rfl rfl (sForce_ct hT.w (s.bringS [1, 2, 2]) hε.ok.ok.lg hε.ok.ok.dk.fuse) ?_
      rintro v h ⟨rfl, s⟩
      dsimp only [bringA, getA, delA] at s
      obtain ⟨w1, w2, w3⟩ := hε.force (n := ε.2.1.base + ε.2.1.b.length)
      have w1' : (forceLD (ε.2.1, ε.2.2) (ε.2.1.base + ε.2.1.b.length)).1 = 0 := w1
      rw [w1']
      refine za rfl (zv (zg rfl (zm rfl (zm rfl (WPs.opT rfl rfl rfl (o_bin rfl rfl bEql) (by decide) ?_)))))
      refine zm rfl (zx rfl (zx rfl (zq rfl (zm rfl (za rfl (za rfl (za rfl (za rfl (zv ?_)))))))))
      refine WP.ret ⟨trivial, _, rfl, ?_⟩
      exact ⟨0, ps, pv, 0, _, data, chk, by decide, w2.more (by omega), hN, (hp.of fun m _ => w3 m), hdl, rfl, (drops (s.bringS [0, 3, 0, 0, 1]))⟩
     ·skip
      refine WPs.opF rfl rfl rfl (o_bin rfl rfl bEql) (by simp; exact h7) ?_
      refine za rfl (zv (zj rfl ?_))
      exact WP.skip (play_gr hT.w hB hε hN hp hdl hD (s.bringS [1, 1, 1, 1, 1, 0, 1, 1, 0]) ⟨rfl, rfl, rfl, trivial⟩ hq)
end
end Go.Proofs.YtconhghphklfjaaGreat.Am
