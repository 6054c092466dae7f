/- A group that is over or open, pages that are none and records that may not be are refused, and a record that was done is read back; the conditions are those of the given statement, for arguments that a machine can hold. Part 36 of 44. -/
import Derived.Test.YtconhghphklfjaaGreatE35
namespace Go.Proofs.YtconhghphklfjaaGreat.Am
open Go
theorem sealL_len {b : List Nat} {n : Nat} (hg : goodL b = true) : (sealL b n).length = 512 := by
 have h1 := lsnL_len (n := n) (good512 hg)
 rw [sealL, splice_len (by rw [le_len]; omega), h1]
def putUn (π : Pl) (n : Int) (b : List Nat) (lsn : Nat) : Int × Pl :=
 (if (putF π n b lsn).1 = 0 then (unpinF (putF π n b lsn).2 n).1 else (putF π n b lsn).1, (unpinF (putF π n b lsn).2 n).2)
def putX (π : Pl) (n : Int) (i : Nat) (f : Fm) (b : List Nat) (lsn : Nat) : Pl :=
 { π with frames := π.frames.set i { f with b := sealL b lsn, changed := true, pins := 0 }, dirty := putL n (dirtOf π n lsn, true) π.dirty }
theorem putUn_good {π : Pl} {n : Int} {i : Nat} {f : Fm} {b : List Nat} {lsn : Nat} (hl : lookL n π.wher = some (i : Int)) (hf : π.frames[i]? = some f) (hp : f.pins = 1) (hg : goodL b = true) : putUn π n b lsn = (0, putX π n i f b lsn) := by
 have h1 := (unpin_of hl hf hp).1
 have hi := (List.getElem?_eq_some_iff.1 hf).1
 have e1 : putF π n b lsn = (0, { π with frames := π.frames.set i { f with b := sealL b lsn, changed := true }, dirty := putL n (dirtOf π n lsn, true) π.dirty }) := by
  simp only [putF, h1, hf, hg, Bool.true_eq_false, if_false]
 have e2 := (unpin_of (π := { π with frames := π.frames.set i { f with b := sealL b lsn, changed := true }, dirty := putL n (dirtOf π n lsn, true) π.dirty }) (n := n) (f := { f with b := sealL b lsn, changed := true }) hl (List.getElem?_set_self hi) hp).2
 simp only [putUn, e1, e2, if_true, List.set_set]
 rfl
theorem putUn_bad {π : Pl} {n : Int} {i : Nat} {f : Fm} {b : List Nat} {lsn : Nat} (hl : lookL n π.wher = some (i : Int)) (hf : π.frames[i]? = some f) (hp : f.pins = 1) (hg : goodL b = false) : putUn π n b lsn = (4, { π with frames := π.frames.set i { f with pins := 0 } }) := by
 have h1 := (unpin_of hl hf hp).1
 have e1 : putF π n b lsn = (4, π) := by simp only [putF, h1, hf, hg, if_true]
 have e2 := (unpin_of hl hf hp).2
 simp only [putUn, e1, e2]
 rfl
theorem putF_ok {π : Pl} {n : Int} {b : List Nat} {lsn : Nat} (h : π.Ok) : (putF π n b lsn).2.Ok := by
 unfold putF
 split
 ·exact h
 ·split
  ·exact h
  ·rename_i f hf
   have hm := List.mem_of_getElem? hf
   split
   ·exact h
   ·rename_i hg
    have hg : goodL b = true := by simpa using hg
    exact h.set h.wher (by simp only [sealL_len hg]; omega) (h.pins f hm)
theorem PinR.put {ε ε' : Eng} {n : Int} {b0 b : List Nat} {lsn : Nat} (hr : PinR ε n 0 b0 ε') (h : EOk3 ε) : EOk3 ((putUn ε'.1 n b lsn).2, ε'.2) ∧ Am.pot ((putUn ε'.1 n b lsn).2, ε'.2) ≤ Am.pot ε + 1 ∧ (goodL b = true → (putUn ε'.1 n b lsn).1 = 0) := by
 have hok := hr.ok h.ok h.pins
 have hfull := (hr.full h.ok.dk h.full).1
 obtain ⟨i, f, h1, h2, h3, h4, h5⟩ := hr.at h.pins
 have hm := List.mem_of_getElem? h2
 have hpot := hr.pot
 cases hg : goodL b with
 | true =>
  rw [putUn_good h1 h2 h3 hg]
  refine ⟨⟨⟨hok.pl.set hok.pl.wher (by simp only [sealL_len hg]; omega) (by simp), hok.lg, hok.dk⟩, h5 _ rfl, hfull.set h2 rfl fun _ => sealL_len hg⟩, ?_, fun _ => rfl⟩
  have h6 := chCount_set (g := { f with b := sealL b lsn, changed := true, pins := 0 }) h2
  simp only [Bool.toNat_true] at h6
  simp only [Am.pot, putX] at hpot ⊢
  omega
 | false =>
  rw [putUn_bad h1 h2 h3 hg]
  refine ⟨⟨⟨hok.pl.set hok.pl.wher (hok.pl.len f hm) (by simp), hok.lg, hok.dk⟩, h5 _ rfl, hfull.set h2 rfl fun hl => hl⟩, ?_, fun h => by cases h⟩
  have h6 := chCount_set (g := { f with pins := 0 }) h2
  simp only [Am.pot] at hpot h6 ⊢
  omega
inductive PtR (now : List (Int × List Nat)) (lsn : Nat) : List Int → Eng → Int → Eng → Prop where
 | nil (ε : Eng) : PtR now lsn [] ε 0 ε
 | pin (n : Int) (l : List Int) (ε : Eng) (e : Int) (b : List Nat) (ε' : Eng) (hr : PinR ε n e b ε') (he : e ≠ 0) : PtR now lsn (n :: l) ε e ε'
 | bad (n : Int) (l : List Int) (ε : Eng) (b0 b : List Nat) (ε' : Eng) (hr : PinR ε n 0 b0 ε') (hb : lookL n now = some b) (he : (putUn ε'.1 n b lsn).1 ≠ 0) : PtR now lsn (n :: l) ε (putUn ε'.1 n b lsn).1 ((putUn ε'.1 n b lsn).2, ε'.2)
 | put (n : Int) (l : List Int) (ε : Eng) (b0 b : List Nat) (ε' : Eng) (e : Int) (ε'' : Eng) (hr : PinR ε n 0 b0 ε') (hb : lookL n now = some b) (he : (putUn ε'.1 n b lsn).1 = 0) (ht : PtR now lsn l ((putUn ε'.1 n b lsn).2, ε'.2) e ε'') : PtR now lsn (n :: l) ε e ε''
theorem PtR.ok3 {now : List (Int × List Nat)} {lsn : Nat} {l : List Int} {ε ε' : Eng} {e : Int} (hr : PtR now lsn l ε e ε') (h : EOk3 ε) : EOk3 ε' := by
 induction hr with
 | nil ε => exact h
 | pin n l ε e b ε' hr he => exact ⟨hr.ok h.ok h.pins, hr.errPins he h.pins, (hr.full h.ok.dk h.full).1⟩
 | bad n l ε b0 b ε' hr hb he => exact (hr.put h).1
 | put n l ε b0 b ε' e ε'' hr hb he ht ih => exact ih (hr.put h).1
theorem PtR.pot {now : List (Int × List Nat)} {lsn : Nat} {l : List Int} {ε ε' : Eng} {e : Int} (hr : PtR now lsn l ε e ε') (h : EOk3 ε) : Am.pot ε' ≤ Am.pot ε + l.length := by
 induction hr with
 | nil ε => exact Nat.le_refl _
 | pin n l ε e b ε' hr he => have := hr.pot; omega
 | bad n l ε b0 b ε' hr hb he => have := (hr.put (b := b) (lsn := lsn) h).2.1; simp only [List.length_cons]; omega
 | put n l ε b0 b ε' e ε'' hr hb he ht ih => have h1 := ih (hr.put h).1; have := (hr.put (b := b) (lsn := lsn) h).2.1; simp only [List.length_cons]; omega
theorem lookM {h : H} {id c : Nat} {es : Ents} {n : Int} {u : V} {t kt et : TypeId} {k : IntKind} {z : V} (hg : T.get h.tr id = some (.map (es.map mkE) c)) (he : lookE n es = some u) (hu : Tryz.prog.underlying t = some (.map kt et)) (hk : Tryz.prog.underlying kt = some (.int k)) (hz : zeroT Tryz.prog et = some z) :
  lookupX Tryz.prog h t (.map id) (.int .i64 n) false = some u := by
 have hi := idxE_look (n := n) es 0
 simp only [lookupX, lookupV, hu, hk, hz, hg, keyBeq, ikBeq_self, cond_true, findK_E]
 cases hq : idxE n es 0 with
 | none => rw [hq] at hi; rw [he] at hi; cases hi
 | some q => rw [hq] at hi; rw [he] at hi; obtain ⟨j, w⟩ := q; have := Option.some.inj hi; simp only at this; subst this; rfl
section
variable {told : Nat → Option (List V → H → Option (V × H))} {h : H} {S : List Assn} {X Y : Assn} {r k q p fid a g chk : Nat} {op v x u wh di : V} {l b was data : List Nat} {now : List (Int × List Nat)} {over : Bool} {ε : Eng}
noncomputable def dnL : Code := pathC [1, 1, 1, 1, 1, 1, 1, 1, 0, 1, 0, 0] ((Tryz.f17.body).getD .skip)
theorem done_loop (hT : W told) {ks : List Int} {kv dv : V} {lsn nid c : Nat} {es : Ents} (hks : ks.length ≤ 65536) (hin : ∀ n ∈ ks, (lookL n now).isSome = true) (hnow : ∀ e ∈ now, e.2.length = 512) : ∀ (j i : Nat) (ε : Eng) (h : H) (E : List (Nat × V)) (Q : Ex → List (Nat × V) → H → Prop), i + j = ks.length →
  EOk3 ε → pot ε + j ≤ 268435456 →
  Sat h (pt g (.cells 3 [.ptr a 0, .map nid, .bool over] false) :: mapI nid es c :: entsR (fun v b => .rob v b) es now :: pt a (.cells 6 (stC a p q r op dv chk) false) :: isPl r p q ε.1 :: isLg q p ε.2.1 :: isDk p ε.2.2 :: .arr 1 kv (intsV ks) :: S) →
  Has E [(0, .ptr g 0), (6, .ptr a 0), (8, .int .u64 (lsn : Int)), (73, kv), (74, .int .i64 ks.length), (75, .int .i64 i)] →
  (∀ e ε' E' h', PtR now lsn (ks.drop i) ε e ε' → e ≠ 0 → look E' 4 = some (.int .u64 0) → look E' 5 = some (.int .i64 e) → Sat h' (pt g (.cells 3 [.ptr a 0, .map nid, .bool over] false) :: mapI nid es c :: entsR (fun v b => .rob v b) es now :: pt a (.cells 6 (stC a p q r op dv chk) false) :: isPl r p q ε'.1 :: isLg q p ε'.2.1 :: isDk p ε'.2.2 :: S) → Q .ret E' h') →
  (∀ ε' E' h', PtR now lsn (ks.drop i) ε 0 ε' → Has E' [(8, .int .u64 (lsn : Int))] → Sat h' (pt g (.cells 3 [.ptr a 0, .map nid, .bool over] false) :: mapI nid es c :: entsR (fun v b => .rob v b) es now :: pt a (.cells 6 (stC a p q r op dv chk) false) :: isPl r p q ε'.1 :: isLg q p ε'.2.1 :: isDk p ε'.2.2 :: S) → Q (.exit 1) E' h') →
  WP ⟨Tryz.prog, told⟩ 118 (.loop dnL) E h Q := by
 intro j
 induction j with
 | zero =>
  intro i ε h E Q hj hε hw s hE hr hx
  refine WP.loop (WP.has hE (zg rfl (WPs.opF rfl rfl rfl (o_bin rfl rfl bLss) (by simp <;> omega) ?_)))
  refine zv (zw (zj rfl (WP.exit ?_)))
  rw [List.drop_eq_nil_of_le (by omega)] at hx
  exact hx ε _ _ (.nil ε) ⟨rfl, trivial⟩ (s.del 7)
 | succ j ih =>
  intro i ε h E Q hj hε hw s hE hr hx
  have hn : ks[i]? = some (ks[i]'(by omega)) := List.getElem?_eq_getElem _
  have hmem : ks[i]'(by omega) ∈ ks := List.getElem_mem _
  have hdrop : ks.drop i = ks[i]'(by omega) :: ks.drop (i + 1) := List.drop_eq_getElem_cons (by omega)
  generalize (ks[i]'(by omega)) = n at hn hmem hdrop
  have hc : (intsV ks)[i]? = some (.int .i64 n) := by simp [intsV, hn]
  obtain ⟨b, hb⟩ := Option.isSome_iff_exists.1 (hin n hmem)
  have hb512 := hnow _ (lookL_mem hb)
  simp only at hb512
  rw [hdrop] at hr hx
  obtain ⟨id, off, e1, e2⟩ := arr1_at (P := Tryz.prog) s (k := 7) rfl hc Tryz.underlying98 sz3
  refine WP.loop (WP.has hE (zg rfl (WPs.opT rfl rfl rfl (o_bin rfl rfl bLss) (by simp <;> omega) ?_)))
  refine zv (zw (zi rfl (WP.skip (zw (WP.block (zg rfl (zo rfl (o_ia (r := .ptr id off) rfl rfl e1) (zl rfl (e2 _ ag3) (za rfl (zv (zw (zg rfl (zm rfl (zn rfl (zf rfl (fa85_2 _ _) (zl rfl (by exact s.ld (k := 3) rfl ag77 rfl) ?_))))))))))))))))
  refine zm rfl (WPs.call rfl rfl rfl rfl rfl rfl rfl (pin_ct (n := n) hT (s.bringS [4, 4, 4]) hε.ok.pl hε.pins hε.ok.lg hε.ok.dk (by have := pot_wait (ε := ε); omega)) ?_)
  rintro v h ⟨e, b0, ε', hpr, (⟨he, rfl, s⟩ | ⟨rfl, u0, rfl, s⟩)⟩
  ·dsimp only [bringA, getA, delA] at s
   refine zm rfl (ze rfl (ze rfl (za rfl (za rfl (zv (zg rfl (zm rfl (WPs.opT rfl rfl rfl (o_bin rfl rfl bNeq) (by simp; exact he) ?_))))))))
   refine zv (zi rfl (zg rfl (zm rfl (za rfl (za rfl (zv (WP.ret (hr e ε' _ _ (.pin n _ ε e b0 ε' hpr he) he rfl rfl ?_))))))))
   exact (s.bringS [3, 3, 3, 3, 0, 0, 0]).del 7
  ·dsimp only [bringA, getA, delA] at s
   have s := s.drop
   have hput := hpr.put (b := b) (lsn := lsn) hε
   have hok := hpr.ok hε.ok hε.pins
   refine zm rfl (ze rfl (ze rfl (za rfl (za rfl (zv (zg rfl (zm rfl (WPs.opF rfl rfl rfl (o_bin rfl rfl bNeq) (rfl) (zv (zj rfl (WP.skip (zw ?_))))))))))))
   have s1 : Sat h (entsR (fun v b => .rob v b) es now :: _) := s.bringS [5]
   obtain ⟨_, _, _, _, q3⟩ := s1.at (k := 0) rfl
   rcases entsR_look (n := n) q3 with ⟨_, q4⟩ | ⟨u, b', g1, g2, _⟩
   ·rw [hb] at q4; cases q4
   rw [hb] at g2
   have := Option.some.inj g2
   subst this
   have s2 := (s1.dup (Pers.ents (fun _ _ => Pers.rob _ _) _ _)).ent (B := .rob u b) fun a' b' h' => by
    rcases entsR_look (n := n) h' with ⟨_, q4⟩ | ⟨u', b'', g1', g2', g3'⟩
    ·rw [hb] at q4; cases q4
    ·rw [g1] at g1'; rw [hb] at g2'
     have h5 := Option.some.inj g1'
     have h6 := Option.some.inj g2'
     subst h5; subst h6
     exact g3'
   dsimp only [bringA, getA, delA] at s2
   obtain ⟨uid, uoff, ucap, rfl⟩ := view_sl (s2.viewX (k := 0) rfl (rd_ro _ _)) (by omega)
   have s := s2.bringS [2, 0]
   dsimp only [bringA, getA, delA] at s
   have s0 := s
   refine WP.drawn [none, none, none, none, none, none, none, none, none, none, none, none, none, none] rfl (by kernel_rfl) (by kernel_rfl) ?_
   refine zM rfl (zN rfl (zF rfl (fa85_2 _ _) (zL rfl (by exact s.ld (k := 7) rfl ag77 rfl) ?_)))
   refine zM rfl (zM rfl (zN rfl (zF rfl (fa88_1 _ _) (zL rfl (by exact s.ld (k := 5) rfl ag86 rfl) ?_))))
   refine zM rfl (zO rfl (o_look rfl rfl (by exact lookM (s.row (k := 6) rfl) g1 Tryz.underlying86 Tryz.underlying3 zt32)) ?_)
   refine zM rfl (WPt.any rfl rfl rfl rfl (OpR.call rfl rfl rfl rfl (put2_ct (n := n) (lsn := lsn) (b := b) hT s (rd_ro _ _) hok.pl (by omega))) ?_)
   rintro v h ⟨rfl, s⟩
   refine zA rfl ?_
   refine WPt.nil ⟨⟨trivial, trivial, trivial, trivial, trivial, trivial, trivial, trivial, trivial, trivial, trivial, trivial, trivial, trivial, trivial⟩, ?_⟩
   refine zw (zg rfl (zm rfl (zn rfl (zf rfl (fa85_2 _ _) (zl rfl (by exact s.ld (k := 7) rfl ag77 rfl) ?_)))))
   refine zm rfl (WPs.call rfl rfl rfl rfl rfl rfl rfl (unpin_ct (n := n) hT s (putF_ok hok.pl)) ?_)
   rintro v h ⟨rfl, s⟩
   refine za rfl (zv (zg rfl (zm rfl ?_)))
   by_cases hg : (putF ε'.1 n b lsn).1 = 0
   ·have hpu : (putUn ε'.1 n b lsn).1 = (unpinF (putF ε'.1 n b lsn).2 n).1 := by simp only [putUn, hg, if_true]
    have hp2 : (putUn ε'.1 n b lsn).2 = (unpinF (putF ε'.1 n b lsn).2 n).2 := rfl
    rw [← hpu, ← hp2] at *
    refine WPs.opT rfl rfl rfl (o_bin rfl rfl bEql) (by simp; exact hg) ?_
    refine zv (zi rfl (zr rfl (zm rfl (za rfl (zv (zg rfl (zm rfl ?_)))))))
    by_cases he : (putUn ε'.1 n b lsn).1 = 0
    ·skip
     refine WPs.opF rfl rfl rfl (o_bin rfl rfl bNeq) (by simp; exact he) ?_
     refine zv (zj rfl (WP.skip (zr rfl (zb rfl (by exact bAdd (wrapS (by omega) (by omega))) ?_))))
     refine zm rfl (zv ?_)
     have s9 := (s.bringS [5, 5, 2, 4, 0, 1, 1, 1]).del 8
     dsimp only [bringA, getA, delA] at s9
     refine ih (i + 1) ((putUn ε'.1 n b lsn).2, ε'.2) _ _ Q (by omega) hput.1 (by have h9 : pot ((putUn ε'.1 n b lsn).2, ε'.2) ≤ pot ε + 1 := hput.2.1; omega) s9 ⟨rfl, rfl, rfl, rfl, rfl, rfl, trivial⟩ (fun e ε'' E' h' ht he' l4 l5 s' => ?_) (fun ε'' E' h' ht hE' s' => ?_)
     ·exact hr e ε'' E' h' (.put n _ ε b0 b ε' e ε'' hpr hb he ht) he' l4 l5 s'
     ·exact hx ε'' E' h' (.put n _ ε b0 b ε' 0 ε'' hpr hb he ht) hE' s'
    ·skip
     refine WPs.opT rfl rfl rfl (o_bin rfl rfl bNeq) (by simp; exact he) ?_
     refine zv (zi rfl (zg rfl (zm rfl (za rfl (za rfl (zv (WP.ret (hr _ _ _ _ (.bad n _ ε b0 b ε' hpr hb he) he rfl rfl ?_))))))))
     exact ((s.bringS [5, 5, 2, 4, 0, 1, 1, 1]).del 8).del 7
   ·have hpu : (putUn ε'.1 n b lsn).1 = (putF ε'.1 n b lsn).1 := by simp only [putUn, hg, if_false]
    have hp2 : (putUn ε'.1 n b lsn).2 = (unpinF (putF ε'.1 n b lsn).2 n).2 := rfl
    rw [← hpu] at hg
    refine WPs.opF rfl rfl rfl (o_bin rfl rfl bEql) (by simp; rw [← hpu]; exact hg) ?_
    refine zv (zj rfl (WP.skip (zg rfl (zm rfl (WPs.opT rfl rfl rfl (o_bin rfl rfl bNeq) (by simp; rw [← hpu]; exact hg) ?_)))))
    refine zv (zi rfl (zg rfl (zm rfl (za rfl (za rfl (zv (WP.ret (hr _ _ _ _ (.bad n _ ε b0 b ε' hpr hb hg) hg rfl (by rw [hpu]; rfl) ?_))))))))
    exact ((s.bringS [5, 5, 2, 4, 0, 1, 1, 1]).del 8).del 7
end
end Go.Proofs.YtconhghphklfjaaGreat.Am
namespace Go.Proofs.YtconhghphklfjaaGreat.Am
open Go
theorem RgR.fit {pg : Int} {was now : List Nat} {i : Nat} {l : List Chg} (hr : RgR pg was now i l) (hn : now.length = 512) (h0 : 0 ≤ pg) (h1 : pg < 65536) : ∀ c ∈ l, c.Ok ∧ c.b.length ≤ 512 := by
 induction hr with
 | done i h => intro c hc; cases hc
 | skip i l h he hr ih => exact ih
 | take i e l h2 h3 hr ih =>
  intro c hc
  rcases List.mem_cons.1 hc with rfl | hc
  ·have hl : ((now.take e).drop i).length = e - i := by simp; omega
   refine ⟨⟨h0, h1, by simp, by simp only; omega, by simp only [hl]; omega, by simp⟩, by simp only [hl]; omega⟩
  ·exact ih c hc
theorem RgF.fit {pg : Int} {was now : List Nat} {l : List Chg} (hr : RgF pg was now l) (hn : now.length = 512) (h0 : 0 ≤ pg) (h1 : pg < 65536) : ∀ c ∈ l, c.Ok ∧ c.b.length ≤ 512 := by
 obtain ⟨m, h2, rfl⟩ := hr
 split
 ·intro c hc
  rw [List.mem_singleton.1 hc]
  exact ⟨⟨h0, h1, by simp, by simp, by simp, by simp⟩, by simp⟩
 ·exact h2.fit hn h0 h1
theorem ChR.fit {now : List (Int × List Nat)} {l : List Int} {ε ε' : Eng} {e : Int} {cs : List Chg} (hr : ChR now l ε e cs ε') (hnow : ∀ x ∈ now, x.2.length = 512) (hl : ∀ n ∈ l, 0 ≤ n ∧ n < 65536) : ∀ c ∈ cs, c.Ok ∧ c.b.length ≤ 512 := by
 induction hr with
 | nil ε => intro c hc; cases hc
 | err n l ε e b ε' hr he => intro c hc; cases hc
 | part n l ε was b ε' c e cs ε'' hr hb hd hc hcl ht ih =>
  intro x hx
  have hn := hl n List.mem_cons_self
  rcases List.mem_append.1 hx with hx | hx
  ·exact hc.fit (hnow _ (lookL_mem hb)) hn.1 hn.2 x hx
  ·exact ih (fun m hm => hl m (List.mem_cons_of_mem _ hm)) x hx
 | whole n l ε was b ε' e cs ε'' hr hb hd ht ih =>
  intro x hx
  have hn := hl n List.mem_cons_self
  have hb := hnow _ (lookL_mem hb)
  rcases List.mem_cons.1 hx with rfl | hx
  ·exact ⟨⟨hn.1, hn.2, by simp, by simp, by simp only at hb ⊢; omega, fun _ => ⟨rfl, hb⟩⟩, by simp only at hb ⊢; omega⟩
  ·exact ih (fun m hm => hl m (List.mem_cons_of_mem _ hm)) x hx
theorem digits_le : ∀ (f n : Nat), (digits f n).length ≤ f + 1 := by
 intro f
 induction f with
 | zero => intro n; simp [digits]
 | succ f ih =>
  intro n
  unfold digits
  split
  ·simp
  ·have := ih (n / 128)
   simp only [List.length_cons]
   omega
theorem enc_le {c : Chg} (hc : c.b.length ≤ 512) : (encC c).length ≤ 543 := by
 have h1 := digits_le 9 c.page.toNat
 have h2 := digits_le 9 c.pos.toNat
 have h3 := digits_le 9 c.b.length
 simp only [encC, List.length_append, List.length_cons, List.length_nil]
 omega
theorem encs_le : ∀ {l : List Chg}, (∀ c ∈ l, c.b.length ≤ 512) → (l.flatMap encC).length ≤ 543 * l.length := by
 intro l
 induction l with
 | nil => intro _; simp
 | cons c l ih =>
  intro h
  have h1 := enc_le (h c List.mem_cons_self)
  have h2 := ih fun x hx => h x (List.mem_cons_of_mem _ hx)
  simp only [List.flatMap_cons, List.length_append, List.length_cons]
  omega
theorem chs_fit {l : List Chg} {tx pv nx : Nat} {data : List Nat} (hl : l.length ≤ 33554432) (h : ∀ c ∈ l, c.Ok ∧ c.b.length ≤ 512) (htx : tx < 18446744073709551616) (hpv : pv < 18446744073709551616) (hnx : nx < 18446744073709551616) (hd : data.length ≤ 35184372088832) : RecFit tx pv nx data l := by
 have h2 := encs_le fun c hc => (h c hc).2
 refine ⟨⟨by omega, fun c hc => by have := (h c hc).2; omega, fun c hc => ?_⟩, htx, hpv, hnx, by omega⟩
 have := (h c hc).1
 simp only [Chg.Ok] at this
 omega
theorem chs_good {l : List Chg} {kd : Int} (hk : 1 ≤ kd ∧ kd ≤ 9) (h : ∀ c ∈ l, c.Ok ∧ c.b.length ≤ 512) : goodR kd l = true := by
 simp only [goodR, Bool.and_eq_true, decide_eq_true_eq, List.all_eq_true]
 exact ⟨hk, fun c hc => (h c hc).1⟩
inductive DnR (ε : Eng) (now : List (Int × List Nat)) (kd : Int) (tx pv nx : Nat) (data : List Nat) (nch : Nat) : Nat → Int → Bool → Eng → Prop where
 | arg (h : ¬(1 ≤ kd ∧ kd ≤ 7) ∨ 0 < nch) : DnR ε now kd tx pv nx data nch 0 1 false ε
 | dead (h1 : 1 ≤ kd) (h2 : kd ≤ 7) (h3 : nch = 0) (h : ε.2.2.dead = true) : DnR ε now kd tx pv nx data nch 0 9 false ε
 | chg (e : Int) (c : List Chg) (ε' : Eng) (h1 : 1 ≤ kd) (h2 : kd ≤ 7) (h3 : nch = 0) (h : ε.2.2.dead = false) (hc : ChR now (keysS now) ε e c ε') (he : e ≠ 0) : DnR ε now kd tx pv nx data nch 0 e false ε'
 | app (c : List Chg) (ε' : Eng) (h1 : 1 ≤ kd) (h2 : kd ≤ 7) (h3 : nch = 0) (h : ε.2.2.dead = false) (hc : ChR now (keysS now) ε 0 c ε') (he : (appendLD ε'.2 kd tx pv nx data c).1.2 ≠ 0) : DnR ε now kd tx pv nx data nch 0 (appendLD ε'.2 kd tx pv nx data c).1.2 false (ε'.1, (appendLD ε'.2 kd tx pv nx data c).2)
 | put (c : List Chg) (ε' : Eng) (e : Int) (ε'' : Eng) (h1 : 1 ≤ kd) (h2 : kd ≤ 7) (h3 : nch = 0) (h : ε.2.2.dead = false) (hc : ChR now (keysS now) ε 0 c ε') (ha : (appendLD ε'.2 kd tx pv nx data c).1.2 = 0) (hp : PtR now (appendLD ε'.2 kd tx pv nx data c).1.1 (keysS now) (ε'.1, (appendLD ε'.2 kd tx pv nx data c).2) e ε'') :
   DnR ε now kd tx pv nx data nch (if e = 0 then (appendLD ε'.2 kd tx pv nx data c).1.1 else 0) e true ε''
end Go.Proofs.YtconhghphklfjaaGreat.Am
namespace Go.Proofs.YtconhghphklfjaaGreat.Am
open Go
structure LgS (ε ε' : Eng) : Prop where
 base : ε'.2.1.base = ε.2.1.base
 b : ε'.2.1.b = ε.2.1.b
 starts : ε'.2.1.starts = ε.2.1.starts
 check : ε'.2.1.check = ε.2.1.check
 log : ε'.2.2.log = ε.2.2.log
 room : ε'.2.2.room = ε.2.2.room
 pages : ε'.2.2.pages = ε.2.2.pages
theorem LgS.refl (ε : Eng) : LgS ε ε := ⟨rfl, rfl, rfl, rfl, rfl, rfl, rfl⟩
theorem LgS.trans {a b c : Eng} (x : LgS a b) (y : LgS b c) : LgS a c :=
 ⟨y.base.trans x.base, y.b.trans x.b, y.starts.trans x.starts, y.check.trans x.check, y.log.trans x.log, y.room.trans x.room, y.pages.trans x.pages⟩
theorem forceF_log {δ : Dk} : δ.forceF.2.log = δ.log ∧ δ.forceF.2.room = δ.room ∧ δ.forceF.2.pages = δ.pages := by
 unfold Dk.forceF
 split
 ·exact ⟨rfl, rfl, rfl⟩
 ·split <;> exact ⟨rfl, rfl, rfl⟩
theorem writeF_log {δ : Dk} {n : Int} {b : List Nat} : (δ.writeF n b).2.log = δ.log ∧ (δ.writeF n b).2.room = δ.room ∧ (δ.writeF n b).2.pages = δ.pages := by
 unfold Dk.writeF
 split
 ·exact ⟨rfl, rfl, rfl⟩
 ·split
  ·exact ⟨rfl, rfl, rfl⟩
  ·split <;> exact ⟨rfl, rfl, rfl⟩
theorem forceLD_same {π : Pl} {x : LD} {n : Nat} : LgS (π, x) (π, (forceLD x n).2) := by
 unfold forceLD
 split
 ·exact LgS.refl _
 ·split
  ·exact ⟨rfl, rfl, rfl, rfl, forceF_log.1, forceF_log.2.1, forceF_log.2.2⟩
  ·exact ⟨rfl, rfl, rfl, rfl, forceF_log.1, forceF_log.2.1, forceF_log.2.2⟩
theorem outF_same {ε : Eng} {i : Nat} : LgS ε (outF ε i).2 := by
 unfold outF
 split
 ·exact LgS.refl _
 ·rename_i f hf
  split
  ·exact LgS.refl _
  ·split
   ·exact LgS.refl _
   ·have h1 := forceLD_same (π := ε.1) (x := ε.2) (n := atL f.b 4 8)
    have h2 := writeF_log (δ := (forceLD ε.2 (atL f.b 4 8)).2.2) (n := f.page) (b := f.b)
    split
    ·exact ⟨h1.base, h1.b, h1.starts, h1.check, h1.log, h1.room, h1.pages⟩
    ·split
     ·exact ⟨h1.base, h1.b, h1.starts, h1.check, h2.1.trans h1.log, h2.2.1.trans h1.room, h2.2.2.trans h1.pages⟩
     ·exact ⟨h1.base, h1.b, h1.starts, h1.check, h2.1.trans h1.log, h2.2.1.trans h1.room, h2.2.2.trans h1.pages⟩
theorem LgS.of {π : Pl} {ε ε' : Eng} (h : LgS (π, ε.2) ε') : LgS ε ε' := ⟨h.base, h.b, h.starts, h.check, h.log, h.room, h.pages⟩
theorem LgS.to {π : Pl} {ε ε' : Eng} (h : LgS ε ε') : LgS ε (π, ε'.2) := ⟨h.base, h.b, h.starts, h.check, h.log, h.room, h.pages⟩
theorem PinR.same {ε ε' : Eng} {n e : Int} {b : List Nat} (hr : PinR ε n e b ε') : LgS ε ε' := by
 cases hr with
 | arg _ => exact LgS.refl _
 | hit i f h1 h2 hl hf => exact (LgS.refl ε).to
 | out π' i f h1 h2 hl hn hf hh he => exact outF_same.of
 | read π' i f h1 h2 hl hn hf hh he hr => exact outF_same.of.to
 | bad π' i f h1 h2 hl hn hf hh he hr hc => exact outF_same.of.to
 | load π' i f h1 h2 hl hn hf hh he hr hc => exact outF_same.of.to
theorem RdR.same {ε ε' : Eng} {n e : Int} {b : List Nat} (hr : RdR ε n e b ε') : LgS ε ε' := by
 cases hr with
 | dead _ => exact LgS.refl _
 | pin e b ε' hd hr he => exact hr.same
 | unpin b ε' hd hr he => exact hr.same.to
 | read b ε' hd hr he => exact hr.same.to
theorem ChR.same {now : List (Int × List Nat)} {l : List Int} {ε ε' : Eng} {e : Int} {cs : List Chg} (hr : ChR now l ε e cs ε') : LgS ε ε' := by
 induction hr with
 | nil ε => exact LgS.refl _
 | err n l ε e b ε' hr he => exact hr.same
 | part n l ε was b ε' c e cs ε'' hr hb hd hc hl ht ih => exact hr.same.trans ih
 | whole n l ε was b ε' e cs ε'' hr hb hd ht ih => exact hr.same.trans ih
theorem rise_len {m : Nat} : ∀ {l : List Nat}, l.Pairwise (· < ·) → (∀ s ∈ l, s < m) → l.length ≤ m := by
 intro l hp hl
 have key : ∀ (l : List Nat) (k : Nat), l.Pairwise (· < ·) → (∀ s ∈ l, k ≤ s ∧ s < m) → k + l.length ≤ m ∨ l = [] := by
  intro l
  induction l with
  | nil => intro k _ _; exact .inr rfl
  | cons x l ih =>
   intro k hp hl
   simp only [List.pairwise_cons] at hp
   have hx := hl x List.mem_cons_self
   rcases ih (x + 1) hp.2 (fun s hs => ⟨hp.1 s hs, (hl s (List.mem_cons_of_mem _ hs)).2⟩) with h | rfl
   ·left; simp only [List.length_cons]; omega
   ·left; simp; omega
 rcases key l 0 hp (fun s hs => ⟨Nat.zero_le _, hl s hs⟩) with h | rfl
 ·omega
 ·simp
theorem appendLD_cases (x : LD) (kd : Int) (tx pv nx : Nat) (data : List Nat) (c : List Chg) :
  (∃ e : Int, e ≠ 0 ∧ ((e = 1 ∧ goodR kd c = false) ∨ (e = 2 ∧ 1048576 < (bodyG kd tx pv nx data c).length) ∨ (e = 9 ∧ x.2.dead = true) ∨ (e = 7 ∧ x.2.room < x.2.log.length + (nextRec x.1 kd tx pv nx data c).length)) ∧ appendLD x kd tx pv nx data c = ((0, e), x)) ∨
  (x.2.dead = false ∧ x.2.fuse = 0 ∧ appendLD x kd tx pv nx data c = ((0, 9), (x.1, { x.2.die with tail := nextRec x.1 kd tx pv nx data c }))) ∨
  (goodR kd c = true ∧ (bodyG kd tx pv nx data c).length ≤ 1048576 ∧ x.2.dead = false ∧ x.2.log.length + (nextRec x.1 kd tx pv nx data c).length ≤ x.2.room ∧ x.2.fuse ≠ 0 ∧
   appendLD x kd tx pv nx data c = ((x.1.base + x.1.b.length, 0), (x.1.app (nextRec x.1 kd tx pv nx data c), { x.2.cnt with log := x.2.log ++ nextRec x.1 kd tx pv nx data c }))) := by
 by_cases hg : goodR kd c = false
 ·exact .inl ⟨1, by decide, .inl ⟨rfl, hg⟩, by rw [appendLD, if_pos hg]⟩
 ·by_cases hb : 1048576 < (bodyG kd tx pv nx data c).length
  ·exact .inl ⟨2, by decide, .inr (.inl ⟨rfl, hb⟩), by rw [appendLD, if_neg hg, if_pos hb]⟩
  ·by_cases hd : x.2.dead = true
   ·have e : x.2.appendF (nextRec x.1 kd tx pv nx data c) = (9, x.2) := by rw [Dk.appendF, if_pos hd]
    exact .inl ⟨9, by decide, .inr (.inr (.inl ⟨rfl, hd⟩)), by rw [appendLD, if_neg hg, if_neg hb, e, if_pos (by simp)]⟩
   ·by_cases hr : x.2.room < x.2.log.length + (nextRec x.1 kd tx pv nx data c).length
    ·have e : x.2.appendF (nextRec x.1 kd tx pv nx data c) = (7, x.2) := by rw [Dk.appendF, if_neg hd, if_pos hr]
     exact .inl ⟨7, by decide, .inr (.inr (.inr ⟨rfl, hr⟩)), by rw [appendLD, if_neg hg, if_neg hb, e, if_pos (by simp)]⟩
    ·by_cases hf : x.2.fuse = 0
     ·have e : x.2.appendF (nextRec x.1 kd tx pv nx data c) = (9, { x.2.die with tail := nextRec x.1 kd tx pv nx data c }) := by rw [Dk.appendF, if_neg hd, if_neg hr, if_pos hf]
      exact .inr (.inl ⟨by simpa using hd, hf, by rw [appendLD, if_neg hg, if_neg hb, e, if_pos (by simp)]⟩)
     ·have e : x.2.appendF (nextRec x.1 kd tx pv nx data c) = (0, { x.2.cnt with log := x.2.log ++ nextRec x.1 kd tx pv nx data c }) := by rw [Dk.appendF, if_neg hd, if_neg hr, if_neg hf]
      exact .inr (.inr ⟨by simpa using hg, by omega, by simpa using hd, by omega, hf, by rw [appendLD, if_neg hg, if_neg hb, e, if_neg (by simp)]⟩)
theorem appendLD_ok {x : LD} {kd : Int} {tx pv nx : Nat} {data : List Nat} {c : List Chg} (hμ : x.1.Ok) (hδ : x.2.Ok) (hs : x.1.b = x.2.log) (hz : x.1.base + x.1.b.length + 1048584 ≤ 1099511627776) :
  (appendLD x kd tx pv nx data c).2.1.Ok ∧ (appendLD x kd tx pv nx data c).2.2.Ok ∧ (appendLD x kd tx pv nx data c).2.1.b = (appendLD x kd tx pv nx data c).2.2.log ∧ (appendLD x kd tx pv nx data c).2.1.base = x.1.base ∧ (appendLD x kd tx pv nx data c).2.1.b.length ≤ x.1.b.length + 1048584 ∧
  (appendLD x kd tx pv nx data c).2.2.waiting = x.2.waiting ∧ (appendLD x kd tx pv nx data c).1.1 < 1099511627776 := by
 have hlen : (nextRec x.1 kd tx pv nx data c).length = 8 + (bodyG kd tx pv nx data c).length := recG_len _ _
 rcases appendLD_cases x kd tx pv nx data c with ⟨e, _, _, h⟩ | ⟨hd, hf, h⟩ | ⟨hg, hb, hd, hfit, hf, h⟩
 ·rw [h]; exact ⟨hμ, hδ, hs, rfl, Nat.le_add_right _ _, rfl, by simp⟩
 ·rw [h]; exact ⟨hμ, ⟨hδ.fuse, hδ.len, hδ.room, hδ.now, hδ.pages, hδ.certain, hδ.many⟩, hs, rfl, Nat.le_add_right _ _, rfl, by simp⟩
 ·rw [h]
  generalize nextRec x.1 kd tx pv nx data c = rc at hlen hfit
  have hroom2 := hδ.room
  have hsl : x.1.b.length = x.2.log.length := by rw [hs]
  have hl : (x.1.b ++ rc).length = x.1.b.length + rc.length := List.length_append
  have hl2 : (x.2.log ++ rc).length = x.2.log.length + rc.length := List.length_append
  refine ⟨⟨?_, ?_, ?_, ?_, ?_, ?_, hμ.check⟩, ⟨hδ.cnt.fuse, ?_, hδ.room, hδ.now, hδ.pages, ?_, hδ.many⟩, ?_, rfl, ?_, rfl, ?_⟩
  ·show x.1.base + (x.1.b ++ rc).length ≤ _; omega
  ·have h1 := rise_len hμ.rise hμ.low
   show (x.1.starts ++ [x.1.b.length]).length ≤ _
   simp only [List.length_append, List.length_cons, List.length_nil]; omega
  ·intro s hm
   show s < (x.1.b ++ rc).length
   rcases List.mem_append.1 (show s ∈ x.1.starts ++ [x.1.b.length] from hm) with hm | hm
   ·have := hμ.low s hm; omega
   ·rw [List.mem_singleton.1 hm]; omega
  ·show (x.1.starts ++ [x.1.b.length]).Pairwise (·< ·)
   rw [List.pairwise_append]
   refine ⟨hμ.rise, List.pairwise_singleton _ _, fun a ha b hb => ?_⟩
   rw [List.mem_singleton.1 hb]
   exact hμ.low a ha
  ·have := hμ.forced
   show x.1.forced ≤ (x.1.b ++ rc).length; omega
  ·show (x.1.b ++ rc).length ≤ _; omega
  ·show (x.2.log ++ rc).length ≤ _; omega
  ·have := hδ.certain
   show x.2.certain ≤ (x.2.log ++ rc).length; omega
  ·show x.1.b ++ rc = x.2.log ++ rc; rw [hs]
  ·show (x.1.b ++ rc).length ≤ _; omega
  ·show x.1.base + x.1.b.length < _; omega
end Go.Proofs.YtconhghphklfjaaGreat.Am
