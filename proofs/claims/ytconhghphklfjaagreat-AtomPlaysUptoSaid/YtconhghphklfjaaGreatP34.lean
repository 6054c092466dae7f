/- Whatever groups are done and dropped, written out and checkpointed between, each page is as the groups that were done made it; the conditions are those of the given statement, for arguments that a machine can hold. Part 34 of 49. -/
import Derived.Test.YtconhghphklfjaaGreatP33
namespace Go.Proofs.YtconhghphklfjaaGreat.Am
open Go
def zeroF : Fm := ⟨0, [], 0, false, false⟩
def Pl.fresh (n : Nat) : Pl := ⟨List.replicate n emptyF, [], [], 0⟩
theorem info_fm : ∃ i, Tryz.prog.info? 167 = some i ∧ i.size = 5 ∧ i.bytes = 48 :=
 ⟨_, (show Tryz.prog.info? 167 = some ((Tryz.prog.info? 167).getD default) by kernel_rfl), by kernel_rfl, by kernel_rfl⟩
theorem fm_zeros {a b : PM} : ∀ n : Nat, (fmA (repeatL [.int .i64 0, .sl0, .int .i64 0, .bool false, .bool false] n) (List.replicate n zeroF)).p a b := by
 intro n
 induction n with
 | zero => trivial
 | succ n ih => exact ⟨⟨⟨rfl, rfl, rfl, rfl⟩, ⟨(by intro b hb; cases hb), .inl ⟨.inl rfl, rfl⟩⟩⟩, ih⟩
section
variable {told : Nat → Option (List V → H → Option (V × H))} {h : H} {S : List Assn} {X : Assn} {r k q p fid : Nat} {v x wh di : V} {l b : List Nat} {π : Pl} {m : List Fm} {μ : Lg} {δ : Dk}
noncomputable def pnL : Code := pathC [1, 1, 1, 0, 1, 0, 0] ((Tryz.f59.body).getD .skip)
theorem pnew_loop {n : Nat} (hn : n < 4294967296) : ∀ (j i : Nat) (m : List Fm) (h : H) (E : List (Nat × V)) (Q : Ex → List (Nat × V) → H → Prop), i + j = n → m = List.replicate i emptyF ++ List.replicate j zeroF →
  Sat h (pt r (.cells 6 (plC p q fid n wh di 0) false) :: framesA fid m :: S) → Has E [(8, .ptr r 0), (28, .int .i64 n), (29, .int .i64 i)] →
  (∀ E' h', Has E' [(8, .ptr r 0)] → Sat h' (pt r (.cells 6 (plC p q fid n wh di 0) false) :: framesA fid (List.replicate n emptyF) :: S) → Q (.exit 0) E' h') → WP ⟨Tryz.prog, told⟩ 41 (.loop pnL) E h Q := by
 intro j
 induction j with
 | zero =>
  intro i m h E Q hi hm s hE hx
  refine WP.loop (WP.has hE (zg rfl (WPs.opF rfl rfl rfl (o_bin rfl rfl bLss) (by simp <;> omega) ?_)))
  refine zv (zw (zj rfl (WP.exit (hx _ _ ⟨rfl, trivial⟩ ?_))))
  rw [hm] at s
  have : i = n := by omega
  subst this
  simpa using s
 | succ j ih =>
  intro i m h E Q hi hm s hE hx
  have hml : m.length = n := by rw [hm]; simp; omega
  have hf : m[i]? = some zeroF := by rw [hm, List.getElem?_append_right (by simp)]; simp [List.replicate_succ]
  obtain ⟨pre, fv, post, hpre, hlen, s⟩ := frame_open (s.bringS [1]) hf
  dsimp only [bringA, getA, delA] at s
  refine WP.loop (WP.has hE (zg rfl (WPs.opT rfl rfl rfl (o_bin rfl rfl bLss) (by simp <;> omega) ?_)))
  refine zv (zw (zi rfl (WP.skip (zw (WP.block (zg rfl (zm rfl (za rfl (zv (zr rfl (zm rfl (zn rfl (zf rfl (fa140_2 _ _) (zl rfl (by exact s.ld (k := 3) rfl ag137 rfl) ?_))))))))))))))
  refine zm rfl (zo rfl (o_ia rfl rfl (ia_frame (i := i) (by omega))) ?_)
  refine zf rfl (fa167_0 _ _) (WPs.stS rfl rfl rfl rfl rfl (s.stM (k := 0) (j := 0) rfl sz3 hpre hlen (by simp [fmC]) rfl rfl) ?_)
  intro h s
  dsimp only [setA] at s
  have e5 : (fmC zeroF fv).set 0 (.int .i64 (-1)) = fmC emptyF fv := rfl
  rw [e5] at s
  refine zv (zr rfl (zb rfl (by exact bAdd (wrapS (by omega) (by omega))) ?_))
  refine zm rfl (zv ?_)
  have s := frame_close (i := i) (f' := emptyF) s rfl hf hpre
  refine ih (i + 1) (m.set i emptyF) h _ Q (by omega) ?_ (s.bringS [1, 0]) ⟨rfl, rfl, rfl, trivial⟩ hx
  rw [hm, List.set_append_right _ _ (by simp), List.length_replicate, Nat.sub_self, List.replicate_succ, List.set_cons_zero, List.replicate_succ', List.append_assoc]
  rfl
theorem pnew_ct (hT : W told) {n : Int} (s : Sat h S) : Call ⟨Tryz.prog, told⟩ 59 [.ptr p 0, .ptr q 0, .int .i64 n] h fun v h' =>
  (¬(1 ≤ n ∧ n ≤ 1024) ∧ v = .tup [.ptr0, .int .i64 1] ∧ Sat h' S) ∨ (1 ≤ n ∧ n ≤ 1024 ∧ ∃ r, v = .tup [.ptr r 0, .int .i64 0] ∧ Sat h' (isPl r p q (Pl.fresh n.toNat) :: S)) := by
 refine Call.of_wp (hT.free _ rfl) Tryz.func59 rfl rfl (zg rfl (za rfl (za rfl (zv (zw (zg rfl (zm rfl ?_)))))))
 refine WPs.opB rfl rfl rfl (o_bin rfl rfl bLss) ?_ ?_
 ·intro hq
  have hq : n < 1 := by simpa using hq
  refine zm rfl (zx rfl (zx rfl (zq rfl (zv (zi rfl (zg rfl (za rfl (za rfl (zv ?_)))))))))
  refine WP.ret ⟨trivial, _, rfl, ?_⟩
  exact .inl ⟨fun q => by omega, rfl, s⟩
 ·intro hq
  have hq : 1 ≤ n := by simp at hq; omega
  refine zm rfl (zm rfl ?_)
  refine WPs.opB rfl rfl rfl (o_bin rfl rfl bGtr) ?_ ?_
  ·intro hq2
   have hq2 : 1024 < n := by simpa using hq2
   refine zp rfl (zv (zi rfl (zg rfl (za rfl (za rfl (zv ?_))))))
   refine WP.ret ⟨trivial, _, rfl, ?_⟩
   exact .inl ⟨fun q => by omega, rfl, s⟩
  ·intro hq2
   have hq2 : n ≤ 1024 := by simp at hq2; omega
   obtain ⟨n, rfl⟩ : ∃ k : Nat, n = k := ⟨n.toNat, by omega⟩
   refine zp rfl (zv (zj rfl (WP.skip (zg rfl (zm rfl (zm rfl (zm rfl ?_)))))))
   obtain ⟨i1, hi1, hi2, hi3⟩ := info_fm
   obtain ⟨id, h1, e1, s1⟩ := sat_mkRow (P := Tryz.prog) s Tryz.underlying137 hi1 zt167 hi2 (by omega) rfl (by decide) (n := n) (by omega)
   refine WPs.any rfl rfl rfl (OpR.of (R := fun v h' => v = .sl id 0 n (.exact n) ∧ h' = h1) (o_mks rfl rfl e1) ⟨rfl, rfl⟩) ?_
   rintro v h ⟨rfl, rfl⟩
   have s : Sat h (framesA id (List.replicate n zeroF) :: S) := framesA_iff.2 ⟨_, by rw [List.length_replicate]; exact ((s1.addPu (φ := True) trivial).ent fun a b _ => fm_zeros n).bringS [1]⟩
   refine WPs.newM s rfl rfl rfl rfl (fun p20 h s => ?_)
   refine WPs.newM s rfl rfl rfl rfl (fun p21 h s => ?_)
   refine zo rfl (o_build rfl (by rw [bv140]; rfl)) ?_
   refine WPs.newS s rfl rfl rfl (o_box rfl rfl) (fun p23 h s => ?_)
   dsimp only [V.cells, List.take, List.length_cons, List.length_nil, Nat.reduceAdd, List.drop, List.cons_append, List.nil_append] at s
   refine za rfl (zv (zw (zg rfl (zm rfl (zn rfl (zf rfl (fa140_2 _ _) (zl rfl (by exact s.ld (k := 0) rfl ag137 rfl) ?_)))))))
   refine zo rfl (o_len rfl rfl rfl (by exact len_slE rfl Tryz.underlying137)) ?_
   refine zm rfl (zv (WP.block ?_))
   have s := mapV_new (f := fun v (x : Nat × Bool) => .pu (v = .agg [.int .u64 (x.1 : Int), .bool x.2])) (s.bringS [1])
   dsimp only [bringA, getA, delA] at s
   have s := mapV_new (f := fun v (x : Int) => .pu (v = .int .i64 x)) (s.bringS [2])
   dsimp only [bringA, getA, delA] at s
   have s := s.bringS [2, 2, 0, 0]
   dsimp only [bringA, getA, delA] at s
   refine pnew_loop (n := n) (by omega) n 0 _ _ _ _ (by omega) rfl s ⟨rfl, rfl, rfl, trivial⟩ (fun E' h' hE' s' => ?_)
   refine WP.has hE' (zg rfl (zm rfl (za rfl (za rfl (zv ?_)))))
   refine WP.ret ⟨trivial, _, rfl, ?_⟩
   refine .inr ⟨hq, hq2, _, rfl, (isPl_iff (π := Pl.fresh n)).2 ⟨id, .map p20, .map p21, ?_⟩⟩
   have e6 : (Pl.fresh n).frames.length = n := by simp [Pl.fresh]
   rw [e6]
   exact s'
end
end Go.Proofs.YtconhghphklfjaaGreat.Am
namespace Go.Proofs.YtconhghphklfjaaGreat.Am
open Go
theorem bornUp_of {c : Nat} : ∀ {l : Ents} {b : Nat}, bornR c b l → bornUp c b (l.map mkE) = true := by
 intro l
 induction l with
 | nil => intro b _; rfl
 | cons e l ih =>
  intro b h
  obtain ⟨h1, h2, h3⟩ := h
  simp only [List.map_cons, mkE, bornUp]
  rw [show (Nat.ble b e.2.2 && Nat.blt e.2.2 c) = true by rw [Bool.and_eq_true, ble_iff]; exact ⟨h1, by rw [Nat.blt]; exact ble_iff.2 h2⟩, cond_true]
  exact ih h3
theorem keyInts_of : ∀ {l : Ents}, (∀ e ∈ l, (Lit.int .i64 e.1).wf = true) → keyInts (l.map mkE) = some (l.map (·.1)) := by
 intro l
 induction l with
 | nil => intro _; rfl
 | cons e l ih =>
  intro h
  simp only [List.map_cons, mkE, keyInts]
  rw [h e List.mem_cons_self, cond_true]
  have := ih (fun e he => h e (List.mem_cons_of_mem _ he))
  rw [this]
theorem insI_sorted {x : Int} : ∀ {l : List Int}, l.Pairwise (· < ·) → x ∉ l → (insI x l).Pairwise (· < ·) := by
 intro l
 induction l with
 | nil => intro _ _; simp [insI]
 | cons y l ih =>
  intro h hx
  simp only [List.pairwise_cons, List.mem_cons, not_or] at h hx
  simp only [insI]
  by_cases hxy : x ≤ y
  ·rw [decide_eq_true hxy, cond_true]
   have : x < y := by omega
   simp only [List.pairwise_cons, List.mem_cons]
   refine ⟨fun z hz => ?_, h⟩
   rcases hz with rfl | hz
   ·exact this
   ·have := h.1 z hz; omega
  ·rw [decide_eq_false hxy, cond_false]
   simp only [List.pairwise_cons]
   refine ⟨fun z hz => ?_, ih h.2 hx.2⟩
   have := (insI_perm x l).mem_iff.1 hz
   rcases List.mem_cons.1 this with rfl | hz
   ·omega
   ·exact h.1 z hz
theorem srtI_sorted : ∀ {l : List Int}, l.Nodup → (srtI l).Pairwise (· < ·) := by
 intro l
 induction l with
 | nil => intro _; exact List.Pairwise.nil
 | cons x l ih =>
  intro h
  simp only [List.nodup_cons] at h
  exact insI_sorted (ih h.2) (fun hx => h.1 ((srtI_perm l).mem_iff.1 hx))
theorem rises_of : ∀ {l : List Int}, l.Pairwise (· < ·) → risesI l = true := by
 intro l
 induction l with
 | nil => intro _; rfl
 | cons x l ih =>
  intro h
  simp only [List.pairwise_cons] at h
  simp only [risesI, Bool.and_eq_true, List.all_eq_true, decide_eq_true_eq]
  exact ⟨h.1, ih h.2⟩
section
variable {α : Type} {f : V → α → Assn} {told : Nat → Option (List V → H → Option (V × H))} {h : H} {S : List Assn} {mv : V} {m : List (Int × α)} {b g : Nat}
theorem keysB_ct (hT : W told) {id : Nat} (s : Sat h S) : Call ⟨Tryz.prog, told⟩ 73 [.map id] h fun v h' => ∃ b, v = .fn (.func 117) [] [.ptr b 0] ∧ Sat h' (pt b (.cells 1 [.map id] false) :: S) := by
 refine Call.of_wp (hT.free _ rfl) Tryz.func73 rfl rfl (zg rfl ?_)
 refine WPs.newS s rfl rfl rfl (o_box rfl rfl) (fun p1 h s => ?_)
 dsimp only [V.cells, List.length_cons, List.length_nil, Nat.reduceAdd] at s
 refine za rfl (zv (zg rfl (zo rfl (o_mkf rfl rfl) (za rfl (zv ?_)))))
 refine WP.ret ⟨trivial, _, rfl, ?_⟩
 exact ⟨_, rfl, s⟩
theorem keysC_ct (hT : W told) {id : Nat} (s : Sat h S) : Call ⟨Tryz.prog, told⟩ 109 [.map id] h fun v h' => ∃ b, v = .fn (.func 133) [] [.ptr b 0] ∧ Sat h' (pt b (.cells 1 [.map id] false) :: S) := by
 refine Call.of_wp (hT.free _ rfl) Tryz.func109 rfl rfl (zg rfl ?_)
 refine WPs.newS s rfl rfl rfl (o_box rfl rfl) (fun p1 h s => ?_)
 dsimp only [V.cells, List.length_cons, List.length_nil, Nat.reduceAdd] at s
 refine za rfl (zv (zg rfl (zo rfl (o_mkf rfl rfl) (za rfl (zv ?_)))))
 refine WP.ret ⟨trivial, _, rfl, ?_⟩
 exact ⟨_, rfl, s⟩
def keysS (m : List (Int × α)) : List Int := srtI (m.map (·.1))
theorem keysS_mem {m : List (Int × α)} {n : Int} : n ∈ keysS m ↔ n ∈ m.map (·.1) := (srtI_perm _).mem_iff
theorem intsV_st (l : List Int) : (intsV l).all storable = true := by simp [intsV, storable]
theorem sorted_ct (hT : W told) (s : Sat h (pt b (.cells 1 [mv] false) :: mapV f mv m :: S)) (hg : hasN iters g = true) (hm : m.length ≤ 1048576) (hk : ∀ n ∈ m.map (·.1), (Lit.int .i64 n).wf = true) :
  Call ⟨Tryz.prog, told⟩ 50 [.fn (.func g) [] [.ptr b 0]] h fun v h' => Sat h' (.arr 1 v (intsV (keysS m)) :: pt b (.cells 1 [mv] false) :: mapV f mv m :: S) := by
 obtain ⟨id, l, c, rfl, hb, hn, s1⟩ := mapV_open.1 (s.bringS [1])
 have s1 : Sat h (mapI id l c :: entsR f l m :: pt b (.cells 1 [.map id] false) :: S) := s1
 obtain ⟨q1, q2, q3, q4, q5⟩ := s1.at (k := 1) rfl
 have hkeys := entsR_keys q5
 have hlen : l.length = m.length := by have := congrArg List.length hkeys; simpa using this
 have hrow := s1.row (k := 0) rfl
 have hbox := s1.row (k := 2) rfl
 have hwf : ∀ e ∈ l, (Lit.int .i64 e.1).wf = true := fun e he => hk e.1 (by rw [← hkeys]; exact List.mem_map_of_mem he)
 have hri : risesI (srtI (l.map (·.1))) = true := rises_of (srtI_sorted (by rw [hkeys]; exact hn))
 have htold : ∃ v h', toldSorted iters [.fn (.func g) [] [.ptr b 0]] h = some (v, h') ∧ Sat h' (.arr 1 v (intsV (keysS m)) :: pt b (.cells 1 [.map id] false) :: mapV f (.map id) m :: S) := by
  simp only [toldSorted, hbox, hrow, List.length_map, hg, bornUp_of hb, keyInts_of hwf, hri]
  rw [show (Nat.beq 1 1 && true && true && Nat.ble l.length 1048576) = true by rw [ble_iff.2 (by omega)]; rfl, cond_true]
  simp only [cond_true]
  cases hl : l.map (·.1) with
  | nil =>
   refine ⟨_, _, rfl, ?_⟩
   have : keysS m = [] := by rw [keysS, ← hkeys, hl]; rfl
   rw [this]
   exact s.nilArr
  | cons x xs =>
   refine ⟨_, _, rfl, ?_⟩
   have e1 : keysS m = srtI (x :: xs) := by rw [keysS, ← hkeys, hl]
   have e2 : (srtI (x :: xs)).length = (x :: xs).length := (srtI_perm _).length_eq
   have e3 : (x :: xs).length = l.length := by rw [← hl, List.length_map]
   rw [e1, ← e3]
   refine (s.new (.cells (intsV (srtI (x :: xs))).length (intsV (srtI (x :: xs))) false)).ent fun a r hm' => ⟨intsV_st _, .inr ⟨h.next, (x :: xs).length, .rest 1 0, (intsV (srtI (x :: xs))).length, [], rfl, ?_, ?_, by simp, rfl, rfl, rfl, rfl, by simp⟩⟩
   ·rw [List.append_nil]; exact hm'
   ·simp only [intsV, List.length_map, e2, Nat.mul_one]
 obtain ⟨v, h', e1, e2⟩ := htold
 exact ⟨v, h', CallDo.told hT.sorted Tryz.func50 rfl e1, e2⟩
end
end Go.Proofs.YtconhghphklfjaaGreat.Am
namespace Go.Proofs.YtconhghphklfjaaGreat.Am
open Go
structure EOk2 (ε : Eng) : Prop where
 pl : ε.1.Ok
 lg : ε.2.1.Ok
 dk : ε.2.2.Ok
theorem outF_okP {ε : Eng} {i : Nat} (h : ε.1.Ok) : (outF ε i).2.1.Ok := by
 unfold outF
 split
 ·exact h
 ·rename_i f hf
  have hm := List.mem_of_getElem? hf
  split
  ·exact h
  ·split
   ·exact h
   ·split
    ·exact h
    ·split
     ·exact h
     ·refine ⟨by simp only [List.length_set]; exact h.hand, by simp only [List.length_set]; exact h.many, fun e he => by simp only [List.length_set]; exact h.wher e he, fun g hg => ?_, fun g hg => ?_⟩
      ·rcases List.mem_or_eq_of_mem_set hg with hg | rfl
       ·exact h.len g hg
       ·exact h.len f hm
      ·rcases List.mem_or_eq_of_mem_set hg with hg | rfl
       ·exact h.pins g hg
       ·exact h.pins f hm
theorem outF_ok2 {ε : Eng} {i : Nat} (h : EOk2 ε) : EOk2 (outF ε i).2 := ⟨outF_okP h.pl, outF_okL h.lg, outF_okD h.dk⟩
theorem writeF_wait {δ : Dk} {n : Int} {b : List Nat} : (δ.writeF n b).2.waiting.length ≤ δ.waiting.length + 1 := by
 unfold Dk.writeF
 split
 ·exact Nat.le_succ _
 ·split
  ·exact Nat.le_succ _
  ·split
   ·exact Nat.le_succ _
   ·exact Nat.le_of_eq (by simp [Dk.wr])
theorem outF_wait {ε : Eng} {i : Nat} : (outF ε i).2.2.2.waiting.length ≤ ε.2.2.waiting.length + 1 := by
 unfold outF
 split
 ·exact Nat.le_succ _
 ·rename_i f hf
  split
  ·exact Nat.le_succ _
  ·split
   ·exact Nat.le_succ _
   ·split
    ·exact Nat.le_succ_of_le (Nat.le_of_eq (by rw [forceLD_wait]))
    ·have h1 := writeF_wait (δ := (forceLD ε.2 (atL f.b 4 8)).2.2) (n := f.page) (b := f.b)
     rw [forceLD_wait] at h1
     split <;> exact h1
theorem pwriteF_ok2 {ε : Eng} {n : Int} (h : EOk2 ε) : EOk2 (pwriteF ε n).2 := by
 unfold pwriteF
 split
 ·exact h
 ·exact outF_ok2 h
theorem pwriteF_wait {ε : Eng} {n : Int} : (pwriteF ε n).2.2.2.waiting.length ≤ ε.2.2.waiting.length + 1 := by
 unfold pwriteF
 split
 ·exact Nat.le_succ _
 ·exact outF_wait
def writeAllF : List Int → Eng → Int × Eng
 | [], ε => (0, ε)
 | n :: l, ε => if (pwriteF ε n).1 ≠ 0 then pwriteF ε n else writeAllF l (pwriteF ε n).2
section
variable {told : Nat → Option (List V → H → Option (V × H))} {h : H} {S : List Assn} {X : Assn} {r k q p fid : Nat} {v x wh di : V} {l b : List Nat} {π : Pl} {m : List Fm} {μ : Lg} {δ : Dk}
noncomputable def waL : Code := pathC [1, 0, 1, 0, 0] ((Tryz.f38.body).getD .skip)
theorem writeAll_loop (hT : W told) {ks : List Int} {kv : V} (hks : ks.length ≤ 1048576) : ∀ (j i : Nat) (ε : Eng) (h : H) (E : List (Nat × V)) (Q : Ex → List (Nat × V) → H → Prop), i + j = ks.length → EOk2 ε → ε.2.2.waiting.length + j ≤ 268435456 →
  Sat h (isPl r p q ε.1 :: isLg q p ε.2.1 :: isDk p ε.2.2 :: .arr 1 kv (intsV ks) :: S) → Has E [(0, .ptr r 0), (11, kv), (12, .int .i64 ks.length), (13, .int .i64 i)] →
  ((writeAllF (ks.drop i) ε).1 ≠ 0 → ∀ E' h', look E' 2 = some (.int .i64 (writeAllF (ks.drop i) ε).1) → Sat h' (isPl r p q (writeAllF (ks.drop i) ε).2.1 :: isLg q p (writeAllF (ks.drop i) ε).2.2.1 :: isDk p (writeAllF (ks.drop i) ε).2.2.2 :: S) → Q .ret E' h') →
  ((writeAllF (ks.drop i) ε).1 = 0 → ∀ E' h', Sat h' (isPl r p q (writeAllF (ks.drop i) ε).2.1 :: isLg q p (writeAllF (ks.drop i) ε).2.2.1 :: isDk p (writeAllF (ks.drop i) ε).2.2.2 :: S) → Q (.exit 0) E' h') →
  WP ⟨Tryz.prog, told⟩ 24 (.loop waL) E h Q := by
 intro j
 induction j with
 | zero =>
  intro i ε h E Q hi hε hw s hE hr hx
  refine WP.loop (WP.has hE (zg rfl (WPs.opF rfl rfl rfl (o_bin rfl rfl bLss) (by simp <;> omega) ?_)))
  refine zv (zw (zj rfl (WP.exit ?_)))
  rw [List.drop_eq_nil_of_le (by omega)] at hx
  exact hx rfl _ _ (s.del 3)
 | succ j ih =>
  intro i ε h E Q hi hε hw s hE hr hx
  have hn : ks[i]? = some (ks[i]'(by omega)) := List.getElem?_eq_getElem _
  generalize (ks[i]'(by omega)) = n at hn
  have hc : (intsV ks)[i]? = some (.int .i64 n) := by simp [intsV, hn]
  have hdrop : ks.drop i = n :: ks.drop (i + 1) := by
   obtain ⟨h1, rfl⟩ := List.getElem?_eq_some_iff.1 hn
   exact List.drop_eq_getElem_cons h1
  rw [hdrop] at hr hx
  obtain ⟨id, off, e1, e2⟩ := arr1_at (P := Tryz.prog) s (k := 3) rfl hc Tryz.underlying98 sz3
  have hok2 := pwriteF_ok2 (n := n) hε
  have hwt := pwriteF_wait (ε := ε) (n := n)
  refine WP.loop (WP.has hE (zg rfl (WPs.opT rfl rfl rfl (o_bin rfl rfl bLss) (by simp <;> omega) ?_)))
  refine zv (zw (zi rfl (WP.skip (zw (WP.block (zg rfl (zo rfl (o_ia (r := .ptr id off) rfl rfl e1) (zl rfl (e2 _ ag3) (za rfl (zv (zg rfl (zm rfl (zm rfl (WPs.call rfl rfl rfl rfl rfl rfl rfl (pwrite_ct (n := n) hT s hε.pl hε.lg hε.dk (by omega)) ?_))))))))))))))
  rintro v h ⟨rfl, s⟩
  simp only [writeAllF] at hr hx
  refine za rfl (zv (zg rfl (zm rfl ?_)))
  by_cases he : (pwriteF ε n).1 = 0
  ·skip
   refine WPs.opF rfl rfl rfl (o_bin rfl rfl bNeq) (by simp; exact he) ?_
   refine zv (zj rfl (WP.skip (zr rfl (zb rfl (by exact bAdd (wrapS (by omega) (by omega))) ?_))))
   refine zm rfl (zv ?_)
   rw [if_neg (by simpa using he)] at hr hx
   exact ih (i + 1) (pwriteF ε n).2 h _ Q (by omega) hok2 (by omega) s ⟨rfl, rfl, rfl, rfl, trivial⟩ hr hx
  ·skip
   refine WPs.opT rfl rfl rfl (o_bin rfl rfl bNeq) (by simp; exact he) ?_
   refine zv (zi rfl (zg rfl (zm rfl (za rfl (zv (WP.ret ?_))))))
   rw [if_pos he] at hr
   exact hr he _ _ rfl (s.del 3)
theorem writeAll_ct (hT : W told) (s : Sat h (isPl r p q π :: isLg q p μ :: isDk p δ :: S)) (hε : EOk2 (π, μ, δ)) (hw : δ.waiting.length + π.wher.length ≤ 268435456) (hm : π.wher.length ≤ 1048576) (hk : ∀ n ∈ π.wher.map (·.1), (Lit.int .i64 n).wf = true) :
  Call ⟨Tryz.prog, told⟩ 38 [.ptr r 0] h fun v h' => v = .int .i64 (writeAllF (keysS π.wher) (π, μ, δ)).1 ∧
   Sat h' (isPl r p q (writeAllF (keysS π.wher) (π, μ, δ)).2.1 :: isLg q p (writeAllF (keysS π.wher) (π, μ, δ)).2.2.1 :: isDk p (writeAllF (keysS π.wher) (π, μ, δ)).2.2.2 :: S) := by
 obtain ⟨fid, wh, di, s⟩ := isPl_iff.1 s
 obtain ⟨wid, rfl⟩ := mapV_v s (j := 2) rfl
 have hl : (keysS π.wher).length = π.wher.length := by rw [keysS, (srtI_perm _).length_eq, List.length_map]
 refine Call.of_wp (hT.free _ rfl) Tryz.func38 rfl rfl (zg rfl (za rfl (zv (zw (zg rfl (zm rfl (zn rfl (zf rfl (fa140_3 _ _) (zl rfl (by exact s.ld (k := 0) rfl ag136 rfl) ?_)))))))))
 refine WPs.call rfl rfl rfl rfl rfl rfl rfl (keysB_ct hT s) ?_
 rintro v h ⟨b, rfl, s⟩
 refine WPs.call rfl rfl rfl rfl rfl rfl rfl (sorted_ct hT (s.bringS [0, 2]) (by decide) hm hk) ?_
 intro kv h s
 dsimp only [bringA, getA, delA] at s
 refine zo rfl (o_len rfl rfl rfl (s.arrLen (n := (keysS π.wher).length) (j := 0) rfl (by simp [intsV]) (by decide) Tryz.underlying98)) ?_
 refine zm rfl (zv (WP.block ?_))
 have s := isPl_iff.2 ⟨fid, .map wid, di, s.bringS [3, 3, 2, 2]⟩
 dsimp only [bringA, getA, delA] at s
 have s := (s.del 2).bringS [0, 1, 1, 0]
 dsimp only [bringA, getA, delA] at s
 refine writeAll_loop hT (ks := keysS π.wher) (by omega) (keysS π.wher).length 0 (π, μ, δ) _ _ _ (by omega) hε (by simp only; omega) s ⟨rfl, rfl, rfl, rfl, trivial⟩ (fun he E' h' h2 s' => ?_) (fun he E' h' s' => ?_)
 ·rw [List.drop_zero] at h2 s'
  exact ⟨trivial, _, res1 h2, rfl, s'⟩
 ·rw [List.drop_zero] at he s'
  rw [he]
  refine WP.has (F := []) trivial (zg rfl (za rfl (zv ?_)))
  refine WP.ret ⟨trivial, _, rfl, ?_⟩
  exact ⟨rfl, s'⟩
end
end Go.Proofs.YtconhghphklfjaaGreat.Am
namespace Go.Proofs.YtconhghphklfjaaGreat.Am
open Go
def dirtC (π : Pl) : List Int → List V
 | [] => []
 | n :: l => .int .i64 n :: .int .u64 (dirtOf π n 0 : Nat) :: dirtC π l
theorem dirtC_len (π : Pl) : ∀ l : List Int, (dirtC π l).length = l.length * 2 := by
 intro l
 induction l with
 | nil => rfl
 | cons n l ih => simp only [dirtC, List.length_cons, ih]; omega
theorem dirtC_app (π : Pl) : ∀ l m : List Int, dirtC π (l ++ m) = dirtC π l ++ dirtC π m := by
 intro l m
 induction l with
 | nil => rfl
 | cons n l ih => simp only [List.cons_append, dirtC, ih]
theorem info_dirt : ∃ i, Tryz.prog.info? 130 = some i ∧ i.size = 2 ∧ i.bytes = 16 :=
 ⟨_, (show Tryz.prog.info? 130 = some ((Tryz.prog.info? 130).getD default) by kernel_rfl), by kernel_rfl, by kernel_rfl⟩
section
variable {told : Nat → Option (List V → H → Option (V × H))} {h : H} {S : List Assn} {X : Assn} {r k q p fid : Nat} {v x wh di : V} {l b : List Nat} {π : Pl} {m : List Fm} {μ : Lg} {δ : Dk}
noncomputable def diL : Code := pathC [1, 1, 0, 1, 0, 0] ((Tryz.f66.body).getD .skip)
theorem dirty_loop (hT : W told) {ks : List Int} {kv : V} (hks : ks.length ≤ 1048576) : ∀ (j i : Nat) (av : V) (h : H) (E : List (Nat × V)) (Q : Ex → List (Nat × V) → H → Prop), i + j = ks.length →
  Sat h (.arr 2 av (dirtC π (ks.take i)) :: isPl r p q π :: .arr 1 kv (intsV ks) :: S) → Has E [(0, .ptr r 0), (3, av), (17, kv), (18, .int .i64 ks.length), (19, .int .i64 i)] →
  (∀ av' E' h', look E' 3 = some av' → Sat h' (.arr 2 av' (dirtC π ks) :: isPl r p q π :: S) → Q (.exit 0) E' h') →
  WP ⟨Tryz.prog, told⟩ 37 (.loop diL) E h Q := by
 intro j
 induction j with
 | zero =>
  intro i av h E Q hi s hE hx
  refine WP.loop (WP.has hE (zg rfl (WPs.opF rfl rfl rfl (o_bin rfl rfl bLss) (by simp <;> omega) ?_)))
  refine zv (zw (zj rfl (WP.exit ?_)))
  rw [List.take_of_length_le (by omega)] at s
  exact hx _ _ _ rfl (s.del 2)
 | succ j ih =>
  intro i av h E Q hi s hE hx
  have hn : ks[i]? = some (ks[i]'(by omega)) := List.getElem?_eq_getElem _
  generalize (ks[i]'(by omega)) = n at hn
  have hc : (intsV ks)[i]? = some (.int .i64 n) := by simp [intsV, hn]
  have htake : ks.take (i + 1) = ks.take i ++ [n] := by rw [List.take_add_one, hn]; rfl
  obtain ⟨id, off, e1, e2⟩ := arr1_at (P := Tryz.prog) s (k := 2) rfl hc Tryz.underlying98 sz3
  refine WP.loop (WP.has hE (zg rfl (WPs.opT rfl rfl rfl (o_bin rfl rfl bLss) (by simp <;> omega) ?_)))
  refine zv (zw (zi rfl (WP.skip (zw (WP.block (zg rfl (zo rfl (o_ia (r := .ptr id off) rfl rfl e1) (zl rfl (e2 _ ag3) ?_))))))))
  obtain ⟨fid, wh, di, s⟩ := isPl_iff.1 (s.bringS [1])
  dsimp only [bringA, getA, delA] at s
  refine za rfl (zv (zr rfl (zm rfl (zm rfl (zm rfl (zn rfl (zf rfl (fa140_4 _ _) (zl rfl (by exact s.ld (k := 0) rfl ag138 rfl) ?_))))))))
  refine zm rfl ?_
  have hlk : lookupX Tryz.prog h 138 di (.int .i64 n) false = some (.agg [.int .u64 (dirtOf π n 0 : Nat), .bool (match lookL n π.dirty with | some x => x.2 | none => false)]) := by
   rcases di_look (n := n) (s.bringS [3]) with ⟨g1, _, g2⟩ | ⟨x, g1, _, g2⟩
   ·rw [g2]; simp only [dirtOf, g1]; rfl
   ·rw [g2]; simp only [dirtOf, g1]
  refine zo rfl (o_look rfl rfl hlk) (zo rfl (o_fld rfl (fv_of (fv143_0 _) rfl)) (zo rfl (o_build rfl (by rw [bv130]; rfl)) ?_))
  obtain ⟨rv, h1, e1', s1⟩ := sat_bs1 (P := Tryz.prog) (x := .agg [.int .i64 n, .int .u64 (dirtOf π n 0 : Nat)]) s Tryz.underlying127 zt130 sz130 rfl (by decide) (by decide) rfl rfl
  dsimp only [V.cells] at s1
  refine WPs.any rfl rfl rfl (OpR.of (R := fun v h' => v = rv ∧ h' = h1) (o_bs rfl e1') ⟨rfl, rfl⟩) ?_
  rintro v h' ⟨rfl, rfl⟩
  obtain ⟨i1, hi1, hi2, hi3⟩ := info_dirt
  have hsz : (ks.take i).length ≤ 1048576 := by simp; omega
  obtain ⟨av', h2, e2', s2⟩ := sat_appArr (s1.bringS [5, 0]) Tryz.underlying127 hi1 zt130 hi2 (by omega) rfl (by decide) (by simp only [dirtC_len, List.length_cons, List.length_nil]; omega)
  dsimp only [bringA, getA, delA] at s2
  refine WPs.any rfl rfl rfl (OpR.of (R := fun v h' => v = av' ∧ h' = h2) (o_app rfl rfl e2') ⟨rfl, rfl⟩) ?_
  rintro v h' ⟨rfl, rfl⟩
  refine za rfl (zv (zr rfl (zb rfl (by exact bAdd (wrapS (by omega) (by omega))) ?_)))
  refine zm rfl (zv ?_)
  have s3 := isPl_iff.2 ⟨fid, wh, di, s2.bringS [2, 2, 2, 2]⟩
  dsimp only [bringA, getA, delA] at s3
  have s4 := (s3.del 2).bringS [1, 0, 0]
  dsimp only [bringA, getA, delA] at s4
  refine ih (i + 1) _ _ _ _ (by omega) ?_ ⟨rfl, rfl, rfl, rfl, rfl, trivial⟩ hx
  rw [htake, dirtC_app]
  exact s4
theorem dirty_ct (hT : W told) (s : Sat h (isPl r p q π :: S)) (hm : π.dirty.length ≤ 1048576) (hk : ∀ n ∈ π.dirty.map (·.1), (Lit.int .i64 n).wf = true) :
  Call ⟨Tryz.prog, told⟩ 66 [.ptr r 0] h fun v h' => Sat h' (.arr 2 v (dirtC π (keysS π.dirty)) :: isPl r p q π :: S) := by
 obtain ⟨fid, wh, di, s⟩ := isPl_iff.1 s
 obtain ⟨did, rfl⟩ := mapV_v s (j := 3) rfl
 have hl : (keysS π.dirty).length = π.dirty.length := by rw [keysS, (srtI_perm _).length_eq, List.length_map]
 refine Call.of_wp (hT.free _ rfl) Tryz.func66 rfl rfl (zg rfl (za rfl (zv (zg rfl (zm rfl (zn rfl (zf rfl (fa140_4 _ _) (zl rfl (by exact s.ld (k := 0) rfl ag138 rfl) ?_))))))))
 refine zo rfl (o_len rfl rfl rfl (mapV_len (s.bringS [3]) Tryz.underlying138)) ?_
 obtain ⟨i1, hi1, hi2, hi3⟩ := info_dirt
 obtain ⟨av, h1, e1, s1⟩ := sat_mkArr (P := Tryz.prog) s Tryz.underlying127 hi1 zt130 hi2 (by omega) rfl (by decide) (by decide) (n := 0) (c := π.dirty.length) (by omega) (by omega)
 dsimp only [repeatL] at s1
 refine WPs.any rfl rfl rfl (OpR.of (R := fun v h' => v = av ∧ h' = h1) (o_mks rfl rfl e1) ⟨rfl, rfl⟩) ?_
 rintro v h' ⟨rfl, rfl⟩
 have s := s1
 refine za rfl (zv (zw (zg rfl (zm rfl (zn rfl (zf rfl (fa140_4 _ _) (zl rfl (by exact s.ld (k := 1) rfl ag138 rfl) ?_)))))))
 refine WPs.call rfl rfl rfl rfl rfl rfl rfl (keysC_ct hT s) ?_
 rintro v h ⟨b, rfl, s⟩
 refine WPs.call rfl rfl rfl rfl rfl rfl rfl (sorted_ct hT (s.bringS [0, 4]) (by decide) hm hk) ?_
 intro kv h s
 dsimp only [bringA, getA, delA] at s
 refine zo rfl (o_len rfl rfl rfl (s.arrLen (n := (keysS π.dirty).length) (j := 0) rfl (by simp [intsV]) (by decide) Tryz.underlying98)) ?_
 refine zm rfl (zv (WP.block ?_))
 have s := isPl_iff.2 ⟨fid, wh, .map did, s.bringS [4, 4, 4, 2]⟩
 dsimp only [bringA, getA, delA] at s
 have s := (s.del 2).bringS [2, 0, 0]
 dsimp only [bringA, getA, delA] at s
 refine dirty_loop hT (π := π) (ks := keysS π.dirty) (by omega) (keysS π.dirty).length 0 _ _ _ _ (by omega) s ⟨rfl, rfl, rfl, rfl, rfl, trivial⟩ (fun av' E' h' h2 s' => ?_)
 refine WP.has (F := [(3, av')]) ⟨h2, trivial⟩ (zg rfl (zm rfl (za rfl (zv ?_))))
 refine WP.ret ⟨trivial, _, rfl, ?_⟩
 exact s'
end
end Go.Proofs.YtconhghphklfjaaGreat.Am
