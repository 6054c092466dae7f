/- A group that is over or open, pages that are none and records that may not be are refused, and a record that was done is read back; the conditions are those of the given statement, for arguments that a machine can hold. Part 33 of 44. -/
import Derived.Test.YtconhghphklfjaaGreatE32
import Derived.Test.YtconhghphklfjaaGreatE13
namespace Go.Proofs.YtconhghphklfjaaGreat.Am
open Go
def zeroF : Fm := ⟨0, [], 0, false, false⟩
def Pl.fresh (n : Nat) : Pl := ⟨List.replicate n emptyF, [], [], 0⟩
theorem info_fm : ∃ i, Tryz.prog.info? 167 = some i ∧ i.size = 5 ∧ i.bytes = 48 :=
 ⟨_, (show Tryz.prog.info? 167 = some ((Tryz.prog.info? 167).getD default) by kernel_rfl), by kernel_rfl, by kernel_rfl⟩
theorem fm_zeros {a b : PM} : ∀ n : Nat, (fmA (repeatL [.int .i64 0, .sl0, .int .i64 0, .bool false, .bool false] n) (List.replicate n zeroF)).p a b := by
 intro n
 induction n with
 | zero => trivial
 | succ n ih => exact ⟨⟨⟨rfl, rfl, rfl, rfl⟩, ⟨(by intro b hb; cases hb), .inl ⟨.inl rfl, rfl⟩⟩⟩, ih⟩
section
variable {told : Nat → Option (List V → H → Option (V × H))} {h : H} {S : List Assn} {X : Assn} {r k q p fid : Nat} {v x wh di : V} {l b : List Nat} {π : Pl} {m : List Fm} {μ : Lg} {δ : Dk}
noncomputable def pnL : Code := pathC [1, 1, 1, 0, 1, 0, 0] ((Tryz.f59.body).getD .skip)
theorem pnew_loop {n : Nat} (hn : n < 4294967296) : ∀ (j i : Nat) (m : List Fm) (h : H) (E : List (Nat × V)) (Q : Ex → List (Nat × V) → H → Prop), i + j = n → m = List.replicate i emptyF ++ List.replicate j zeroF →
  Sat h (pt r (.cells 6 (plC p q fid n wh di 0) false) :: framesA fid m :: S) → Has E [(8, .ptr r 0), (28, .int .i64 n), (29, .int .i64 i)] →
  (∀ E' h', Has E' [(8, .ptr r 0)] → Sat h' (pt r (.cells 6 (plC p q fid n wh di 0) false) :: framesA fid (List.replicate n emptyF) :: S) → Q (.exit 0) E' h') → WP ⟨Tryz.prog, told⟩ 41 (.loop pnL) E h Q := by
 intro j
 induction j with
 | zero =>
  intro i m h E Q hi hm s hE hx
  refine WP.loop (WP.has hE (zg rfl (WPs.opF rfl rfl rfl (o_bin rfl rfl bLss) (by simp <;> omega) ?_)))
  refine zv (zw (zj rfl (WP.exit (hx _ _ ⟨rfl, trivial⟩ ?_))))
  rw [hm] at s
  have : i = n := by omega
  subst this
  simpa using s
 | succ j ih =>
  intro i m h E Q hi hm s hE hx
  have hml : m.length = n := by rw [hm]; simp; omega
  have hf : m[i]? = some zeroF := by rw [hm, List.getElem?_append_right (by simp)]; simp [List.replicate_succ]
  obtain ⟨pre, fv, post, hpre, hlen, s⟩ := frame_open (s.bringS [1]) hf
  dsimp only [bringA, getA, delA] at s
  refine WP.loop (WP.has hE (zg rfl (WPs.opT rfl rfl rfl (o_bin rfl rfl bLss) (by simp <;> omega) ?_)))
  refine zv (zw (zi rfl (WP.skip (zw (WP.block (zg rfl (zm rfl (za rfl (zv (zr rfl (zm rfl (zn rfl (zf rfl (fa140_2 _ _) (zl rfl (by exact s.ld (k := 3) rfl ag137 rfl) ?_))))))))))))))
  refine zm rfl (zo rfl (o_ia rfl rfl (ia_frame (i := i) (by omega))) ?_)
  refine zf rfl (fa167_0 _ _) (WPs.stS rfl rfl rfl rfl rfl (s.stM (k := 0) (j := 0) rfl sz3 hpre hlen (by simp [fmC]) rfl rfl) ?_)
  intro h s
  dsimp only [setA] at s
  have e5 : (fmC zeroF fv).set 0 (.int .i64 (-1)) = fmC emptyF fv := rfl
  rw [e5] at s
  refine zv (zr rfl (zb rfl (by exact bAdd (wrapS (by omega) (by omega))) ?_))
  refine zm rfl (zv ?_)
  have s := frame_close (i := i) (f' := emptyF) s rfl hf hpre
  refine ih (i + 1) (m.set i emptyF) h _ Q (by omega) ?_ (s.bringS [1, 0]) ⟨rfl, rfl, rfl, trivial⟩ hx
  rw [hm, List.set_append_right _ _ (by simp), List.length_replicate, Nat.sub_self, List.replicate_succ, List.set_cons_zero, List.replicate_succ', List.append_assoc]
  rfl
theorem pnew_ct (hT : W told) {n : Int} (s : Sat h S) : Call ⟨Tryz.prog, told⟩ 59 [.ptr p 0, .ptr q 0, .int .i64 n] h fun v h' =>
  (¬(1 ≤ n ∧ n ≤ 1024) ∧ v = .tup [.ptr0, .int .i64 1] ∧ Sat h' S) ∨ (1 ≤ n ∧ n ≤ 1024 ∧ ∃ r, v = .tup [.ptr r 0, .int .i64 0] ∧ Sat h' (isPl r p q (Pl.fresh n.toNat) :: S)) := by
 refine Call.of_wp (hT.free _ rfl) Tryz.func59 rfl rfl (zg rfl (za rfl (za rfl (zv (zw (zg rfl (zm rfl ?_)))))))
 refine WPs.opB rfl rfl rfl (o_bin rfl rfl bLss) ?_ ?_
 ·intro hq
  have hq : n < 1 := by simpa using hq
  refine zm rfl (zx rfl (zx rfl (zq rfl (zv (zi rfl (zg rfl (za rfl (za rfl (zv ?_)))))))))
  refine WP.ret ⟨trivial, _, rfl, ?_⟩
  exact .inl ⟨fun q => by omega, rfl, s⟩
 ·intro hq
  have hq : 1 ≤ n := by simp at hq; omega
  refine zm rfl (zm rfl ?_)
  refine WPs.opB rfl rfl rfl (o_bin rfl rfl bGtr) ?_ ?_
  ·intro hq2
   have hq2 : 1024 < n := by simpa using hq2
   refine zp rfl (zv (zi rfl (zg rfl (za rfl (za rfl (zv ?_))))))
   refine WP.ret ⟨trivial, _, rfl, ?_⟩
   exact .inl ⟨fun q => by omega, rfl, s⟩
  ·intro hq2
   have hq2 : n ≤ 1024 := by simp at hq2; omega
   obtain ⟨n, rfl⟩ : ∃ k : Nat, n = k := ⟨n.toNat, by omega⟩
   refine zp rfl (zv (zj rfl (WP.skip (zg rfl (zm rfl (zm rfl (zm rfl ?_)))))))
   obtain ⟨i1, hi1, hi2, hi3⟩ := info_fm
   obtain ⟨id, h1, e1, s1⟩ := sat_mkRow (P := Tryz.prog) s Tryz.underlying137 hi1 zt167 hi2 (by omega) rfl (by decide) (n := n) (by omega)
   refine WPs.any rfl rfl rfl (OpR.of (R := fun v h' => v = .sl id 0 n (.exact n) ∧ h' = h1) (o_mks rfl rfl e1) ⟨rfl, rfl⟩) ?_
   rintro v h ⟨rfl, rfl⟩
   have s : Sat h (framesA id (List.replicate n zeroF) :: S) := framesA_iff.2 ⟨_, by rw [List.length_replicate]; exact ((s1.addPu (φ := True) trivial).ent fun a b _ => fm_zeros n).bringS [1]⟩
   refine WPs.newM s rfl rfl rfl rfl (fun p20 h s => ?_)
   refine WPs.newM s rfl rfl rfl rfl (fun p21 h s => ?_)
   refine zo rfl (o_build rfl (by rw [bv140]; rfl)) ?_
   refine WPs.newS s rfl rfl rfl (o_box rfl rfl) (fun p23 h s => ?_)
   dsimp only [V.cells, List.take, List.length_cons, List.length_nil, Nat.reduceAdd, List.drop, List.cons_append, List.nil_append] at s
   refine za rfl (zv (zw (zg rfl (zm rfl (zn rfl (zf rfl (fa140_2 _ _) (zl rfl (by exact s.ld (k := 0) rfl ag137 rfl) ?_)))))))
   refine zo rfl (o_len rfl rfl rfl (by exact len_slE rfl Tryz.underlying137)) ?_
   refine zm rfl (zv (WP.block ?_))
   have s := mapV_new (f := fun v (x : Nat × Bool) => .pu (v = .agg [.int .u64 (x.1 : Int), .bool x.2])) (s.bringS [1])
   dsimp only [bringA, getA, delA] at s
   have s := mapV_new (f := fun v (x : Int) => .pu (v = .int .i64 x)) (s.bringS [2])
   dsimp only [bringA, getA, delA] at s
   have s := s.bringS [2, 2, 0, 0]
   dsimp only [bringA, getA, delA] at s
   refine pnew_loop (n := n) (by omega) n 0 _ _ _ _ (by omega) rfl s ⟨rfl, rfl, rfl, trivial⟩ (fun E' h' hE' s' => ?_)
   refine WP.has hE' (zg rfl (zm rfl (za rfl (za rfl (zv ?_)))))
   refine WP.ret ⟨trivial, _, rfl, ?_⟩
   refine .inr ⟨hq, hq2, _, rfl, (isPl_iff (π := Pl.fresh n)).2 ⟨id, .map p20, .map p21, ?_⟩⟩
   have e6 : (Pl.fresh n).frames.length = n := by simp [Pl.fresh]
   rw [e6]
   exact s'
end
end Go.Proofs.YtconhghphklfjaaGreat.Am
namespace Go.Proofs.YtconhghphklfjaaGreat.Am
open Go
theorem bornUp_of {c : Nat} : ∀ {l : Ents} {b : Nat}, bornR c b l → bornUp c b (l.map mkE) = true := by
 intro l
 induction l with
 | nil => intro b _; rfl
 | cons e l ih =>
  intro b h
  obtain ⟨h1, h2, h3⟩ := h
  simp only [List.map_cons, mkE, bornUp]
  rw [show (Nat.ble b e.2.2 && Nat.blt e.2.2 c) = true by rw [Bool.and_eq_true, ble_iff]; exact ⟨h1, by rw [Nat.blt]; exact ble_iff.2 h2⟩, cond_true]
  exact ih h3
theorem keyInts_of : ∀ {l : Ents}, (∀ e ∈ l, (Lit.int .i64 e.1).wf = true) → keyInts (l.map mkE) = some (l.map (·.1)) := by
 intro l
 induction l with
 | nil => intro _; rfl
 | cons e l ih =>
  intro h
  simp only [List.map_cons, mkE, keyInts]
  rw [h e List.mem_cons_self, cond_true]
  have := ih (fun e he => h e (List.mem_cons_of_mem _ he))
  rw [this]
theorem insI_sorted {x : Int} : ∀ {l : List Int}, l.Pairwise (· < ·) → x ∉ l → (insI x l).Pairwise (· < ·) := by
 intro l
 induction l with
 | nil => intro _ _; simp [insI]
 | cons y l ih =>
  intro h hx
  simp only [List.pairwise_cons, List.mem_cons, not_or] at h hx
  simp only [insI]
  by_cases hxy : x ≤ y
  ·rw [decide_eq_true hxy, cond_true]
   have : x < y := by omega
   simp only [List.pairwise_cons, List.mem_cons]
   refine ⟨fun z hz => ?_, h⟩
   rcases hz with rfl | hz
   ·exact this
   ·have := h.1 z hz; omega
  ·rw [decide_eq_false hxy, cond_false]
   simp only [List.pairwise_cons]
   refine ⟨fun z hz => ?_, ih h.2 hx.2⟩
   have := (insI_perm x l).mem_iff.1 hz
   rcases List.mem_cons.1 this with rfl | hz
   ·omega
   ·exact h.1 z hz
theorem srtI_sorted : ∀ {l : List Int}, l.Nodup → (srtI l).Pairwise (· < ·) := by
 intro l
 induction l with
 | nil => intro _; exact List.Pairwise.nil
 | cons x l ih =>
  intro h
  simp only [List.nodup_cons] at h
  exact insI_sorted (ih h.2) (fun hx => h.1 ((srtI_perm l).mem_iff.1 hx))
theorem rises_of : ∀ {l : List Int}, l.Pairwise (· < ·) → risesI l = true := by
 intro l
 induction l with
 | nil => intro _; rfl
 | cons x l ih =>
  intro h
  simp only [List.pairwise_cons] at h
  simp only [risesI, Bool.and_eq_true, List.all_eq_true, decide_eq_true_eq]
  exact ⟨h.1, ih h.2⟩
section
variable {α : Type} {f : V → α → Assn} {told : Nat → Option (List V → H → Option (V × H))} {h : H} {S : List Assn} {mv : V} {m : List (Int × α)} {b g : Nat}
def keysS (m : List (Int × α)) : List Int := srtI (m.map (·.1))
theorem keysS_mem {m : List (Int × α)} {n : Int} : n ∈ keysS m ↔ n ∈ m.map (·.1) := (srtI_perm _).mem_iff
theorem intsV_st (l : List Int) : (intsV l).all storable = true := by simp [intsV, storable]
theorem sorted_ct (hT : W told) (s : Sat h (pt b (.cells 1 [mv] false) :: mapV f mv m :: S)) (hg : hasN iters g = true) (hm : m.length ≤ 1048576) (hk : ∀ n ∈ m.map (·.1), (Lit.int .i64 n).wf = true) :
  Call ⟨Tryz.prog, told⟩ 50 [.fn (.func g) [] [.ptr b 0]] h fun v h' => Sat h' (.arr 1 v (intsV (keysS m)) :: pt b (.cells 1 [mv] false) :: mapV f mv m :: S) := by
 obtain ⟨id, l, c, rfl, hb, hn, s1⟩ := mapV_open.1 (s.bringS [1])
 have s1 : Sat h (mapI id l c :: entsR f l m :: pt b (.cells 1 [.map id] false) :: S) := s1
 obtain ⟨q1, q2, q3, q4, q5⟩ := s1.at (k := 1) rfl
 have hkeys := entsR_keys q5
 have hlen : l.length = m.length := by have := congrArg List.length hkeys; simpa using this
 have hrow := s1.row (k := 0) rfl
 have hbox := s1.row (k := 2) rfl
 have hwf : ∀ e ∈ l, (Lit.int .i64 e.1).wf = true := fun e he => hk e.1 (by rw [← hkeys]; exact List.mem_map_of_mem he)
 have hri : risesI (srtI (l.map (·.1))) = true := rises_of (srtI_sorted (by rw [hkeys]; exact hn))
 have htold : ∃ v h', toldSorted iters [.fn (.func g) [] [.ptr b 0]] h = some (v, h') ∧ Sat h' (.arr 1 v (intsV (keysS m)) :: pt b (.cells 1 [.map id] false) :: mapV f (.map id) m :: S) := by
  simp only [toldSorted, hbox, hrow, List.length_map, hg, bornUp_of hb, keyInts_of hwf, hri]
  rw [show (Nat.beq 1 1 && true && true && Nat.ble l.length 1048576) = true by rw [ble_iff.2 (by omega)]; rfl, cond_true]
  simp only [cond_true]
  cases hl : l.map (·.1) with
  | nil =>
   refine ⟨_, _, rfl, ?_⟩
   have : keysS m = [] := by rw [keysS, ← hkeys, hl]; rfl
   rw [this]
   exact s.nilArr
  | cons x xs =>
   refine ⟨_, _, rfl, ?_⟩
   have e1 : keysS m = srtI (x :: xs) := by rw [keysS, ← hkeys, hl]
   have e2 : (srtI (x :: xs)).length = (x :: xs).length := (srtI_perm _).length_eq
   have e3 : (x :: xs).length = l.length := by rw [← hl, List.length_map]
   rw [e1, ← e3]
   refine (s.new (.cells (intsV (srtI (x :: xs))).length (intsV (srtI (x :: xs))) false)).ent fun a r hm' => ⟨intsV_st _, .inr ⟨h.next, (x :: xs).length, .rest 1 0, (intsV (srtI (x :: xs))).length, [], rfl, ?_, ?_, by simp, rfl, rfl, rfl, rfl, by simp⟩⟩
   ·rw [List.append_nil]; exact hm'
   ·simp only [intsV, List.length_map, e2, Nat.mul_one]
 obtain ⟨v, h', e1, e2⟩ := htold
 exact ⟨v, h', CallDo.told hT.sorted Tryz.func50 rfl e1, e2⟩
end
end Go.Proofs.YtconhghphklfjaaGreat.Am
namespace Go.Proofs.YtconhghphklfjaaGreat.Am
open Go
structure EOk2 (ε : Eng) : Prop where
 pl : ε.1.Ok
 lg : ε.2.1.Ok
 dk : ε.2.2.Ok
theorem outF_okP {ε : Eng} {i : Nat} (h : ε.1.Ok) : (outF ε i).2.1.Ok := by
 unfold outF
 split
 ·exact h
 ·rename_i f hf
  have hm := List.mem_of_getElem? hf
  split
  ·exact h
  ·split
   ·exact h
   ·split
    ·exact h
    ·split
     ·exact h
     ·refine ⟨by simp only [List.length_set]; exact h.hand, by simp only [List.length_set]; exact h.many, fun e he => by simp only [List.length_set]; exact h.wher e he, fun g hg => ?_, fun g hg => ?_⟩
      ·rcases List.mem_or_eq_of_mem_set hg with hg | rfl
       ·exact h.len g hg
       ·exact h.len f hm
      ·rcases List.mem_or_eq_of_mem_set hg with hg | rfl
       ·exact h.pins g hg
       ·exact h.pins f hm
theorem outF_ok2 {ε : Eng} {i : Nat} (h : EOk2 ε) : EOk2 (outF ε i).2 := ⟨outF_okP h.pl, outF_okL h.lg, outF_okD h.dk⟩
theorem writeF_wait {δ : Dk} {n : Int} {b : List Nat} : (δ.writeF n b).2.waiting.length ≤ δ.waiting.length + 1 := by
 unfold Dk.writeF
 split
 ·exact Nat.le_succ _
 ·split
  ·exact Nat.le_succ _
  ·split
   ·exact Nat.le_succ _
   ·exact Nat.le_of_eq (by simp [Dk.wr])
section
variable {told : Nat → Option (List V → H → Option (V × H))} {h : H} {S : List Assn} {X : Assn} {r k q p fid : Nat} {v x wh di : V} {l b : List Nat} {π : Pl} {m : List Fm} {μ : Lg} {δ : Dk}
end
end Go.Proofs.YtconhghphklfjaaGreat.Am
namespace Go.Proofs.YtconhghphklfjaaGreat.Am
open Go
section
variable {told : Nat → Option (List V → H → Option (V × H))} {h : H} {S : List Assn} {X : Assn} {r k q p fid : Nat} {v x wh di : V} {l b : List Nat} {π : Pl} {m : List Fm} {μ : Lg} {δ : Dk}
end
end Go.Proofs.YtconhghphklfjaaGreat.Am
namespace Go.Proofs.YtconhghphklfjaaGreat.Am
open Go
section
variable {C : Cfg} {ntm : Nat} {E : List (Nat × V)} {h : H} {Q Q' : Ex → List (Nat × V) → H → Prop} {a b : Code}
end
end Go.Proofs.YtconhghphklfjaaGreat.Am
namespace Go.Proofs.YtconhghphklfjaaGreat.Am
open Go
section
variable {h : H} {r mid since clock b : Nat} {seen : List Nat} {es : Ents}
end
open Classical in
noncomputable def toldIf (P : Program) (f : FuncId) (pin : List V → H → V × H → Prop) (args : List V) (h : H) : Option (V × H) :=
 if hx : ∃ r, pin args h r ∧ ∀ (c : Ctx) (w : World), Rel c h w → (∀ x ∈ args, wf c x) → CallOk P f args c w r.1 r.2 then some hx.choose else none
theorem toldIf_ok {P : Program} {f : FuncId} {pin : List V → H → V × H → Prop} (hf : ∃ fn, P.funcs[f]? = some fn ∧ fn.body.isSome = true ∧ (fn.name == "runtime.NumGoroutine") = false) : ToldOne P f (toldIf P f pin) := by
 refine .inl ⟨hf, fun args σ v σ' hr c w h hw => ?_⟩
 unfold toldIf at hr
 split at hr
 ·rename_i hx
  have := hx.choose_spec.2 c w h hw
  injection hr with hr
  rw [hr] at this
  exact this
 ·cases hr
theorem toldIf_do {P : Program} {f : FuncId} {pin : List V → H → V × H → Prop} {args : List V} {h : H} {r : V × H} (h1 : pin args h r) (h2 : ∀ (c : Ctx) (w : World), Rel c h w → (∀ x ∈ args, wf c x) → CallOk P f args c w r.1 r.2) :
  ∃ r, toldIf P f pin args h = some r ∧ pin args h r := by
 have hx : ∃ r, pin args h r ∧ ∀ (c : Ctx) (w : World), Rel c h w → (∀ x ∈ args, wf c x) → CallOk P f args c w r.1 r.2 := ⟨r, h1, h2⟩
 refine ⟨hx.choose, ?_, hx.choose_spec.1⟩
 unfold toldIf
 rw [dif_pos hx]
noncomputable def toldB (f : Nat) : Option (List V → H → Option (V × H)) :=
 cond (Nat.beq f 50) (some (toldSorted iters)) (cond (Nat.beq f 119) (some toldMore) none)
noncomputable abbrev CB : Cfg := ⟨Tryz.prog, toldB⟩
theorem mixedB : Tryz.prog.follows .mixedOrders = true := by kernel_rfl
theorem toldB_ok : ToldOk CB := by
 intro f g hg
 simp only [CB, toldB] at hg ⊢
 by_cases h1 : f = 50
 ·subst h1
  rw [beqT rfl, cond_true] at hg
  simp only [Option.some.injEq] at hg
  subst hg
  exact .inl ⟨⟨_, Tryz.func50, rfl, by decide⟩, fun args σ v σ' hr c w h _ => toldSorted_ok Tryz.underlying3 sortsKeys hr h⟩
 ·rw [beqF h1, cond_false] at hg
  by_cases h2 : f = 119
  ·subst h2
   rw [beqT rfl, cond_true] at hg
   simp only [Option.some.injEq] at hg
   subst hg
   exact .inl ⟨⟨_, Tryz.func119, rfl, by decide⟩, fun args σ v σ' hr c w h hw => toldMore_ok (C := CB) rfl mixedB hr h hw⟩
  ·rw [beqF h2, cond_false] at hg
   cases hg
theorem W.base : W toldB := by
 refine ⟨fun f hf => ?_, rfl, rfl⟩
 have h1 : f ≠ 50 := fun e => by subst e; revert hf; decide
 have h2 : f ≠ 119 := fun e => by subst e; revert hf; decide
 simp only [toldB, beqF h1, beqF h2, cond_false]
section
variable {P : Program} {h : H} {S : List Assn} {k id off n : Nat} {cs : List V} {st : Bool} {v : V} {t : TypeId}
end
end Go.Proofs.YtconhghphklfjaaGreat.Am
namespace Go.Proofs.YtconhghphklfjaaGreat.Am
open Go
def doneRow (seen : List Nat) : Ents → List V → List V
 | [], row => row
 | e :: l, row => doneRow seen l (cond (inL seen e.2.2) (row.set e.1.toNat e.2.1) row)
def allRow : Ents → List V → List V
 | [], row => row
 | e :: l, row => allRow l (row.set e.1.toNat e.2.1)
section
variable {told : Nat → Option (List V → H → Option (V × H))} {h : H} {S : List Assn} {X : Assn} {r k q p fid : Nat} {v x wh di : V} {l b : List Nat} {π : Pl} {m : List Fm} {μ : Lg} {δ : Dk}
noncomputable def syncH (h : H) (p : Nat) (cs : List V) (im N : Nat) (row : List V) (mid : Nat) (es : Ents) (clock : Nat) : H :=
 ((((h.new (.iter mid clock clock [])).put im (some (.cells N (allRow es row) false))).put p (some (.cells 12 (cs.set 2 .sl0) false))).put mid (some (.map [] clock))).put h.next none
def pinSync (args : List V) (h : H) (r : V × H) : Prop := ∃ p cs, args = [.ptr p 0] ∧ T.get h.tr p = some (.cells 12 cs false) ∧
 ((nth cs 9 = some (.bool true) ∧ r = (.int .i64 9, h)) ∨ (nth cs 9 = some (.bool false) ∧ ∃ v1 h1, CallDo CB 118 [.ptr p 0] h v1 h1 ∧
  ((v1 = .bool false ∧ r = (.int .i64 9, h1)) ∨ (v1 = .bool true ∧ ∃ cs im N row mid es clock, T.get h1.tr p = some (.cells 12 cs false) ∧ nth cs 1 = some (.sl im 0 N (.exact N)) ∧ nth cs 3 = some (.map mid) ∧
   T.get h1.tr im = some (.cells N row false) ∧ T.get h1.tr mid = some (.map (es.map mkE) clock) ∧ r = (.int .i64 0, syncH h1 p cs im N row mid es clock)))))
end
end Go.Proofs.YtconhghphklfjaaGreat.Am
namespace Go.Proofs.YtconhghphklfjaaGreat.Am
open Go
def flagV : V → Bool
 | .agg [_, .bool b] => b
 | _ => true
section
variable {told : Nat → Option (List V → H → Option (V × H))} {h : H} {S : List Assn} {X : Assn} {r k q p fid : Nat} {v x wh di : V} {l b : List Nat} {π : Pl} {m : List Fm} {μ : Lg} {δ : Dk}
abbrev dropFn : V := .fn (.func 77) [] []
end
end Go.Proofs.YtconhghphklfjaaGreat.Am
namespace Go.Proofs.YtconhghphklfjaaGreat.Am
open Go
def pinDel (args : List V) (h : H) (r : V × H) : Prop := ∃ (mid : Nat) (es : Ents) (clock : Nat), args = [.map mid, dropFn] ∧ T.get h.tr mid = some (.map (es.map mkE) clock) ∧
 r = (.tup [], ⟨h.next + 1 + 2 * es.length, (h.put mid (some (.map ((es.filter (fun e => flagV e.2.1)).map mkE) clock))).tr⟩)
structure W2 (told : Nat → Option (List V → H → Option (V × H))) : Prop where
 w : W told
 sync : told 75 = some (toldIf Tryz.prog 75 pinSync)
 del : told 76 = some (toldIf Tryz.prog 76 pinDel)
section
variable {told : Nat → Option (List V → H → Option (V × H))} {h : H} {S : List Assn} {X : Assn} {r k q p fid : Nat} {v x wh di : V} {l b : List Nat} {π : Pl} {m : List (Int × (Nat × Bool))} {μ : Lg} {δ : Dk}
end
end Go.Proofs.YtconhghphklfjaaGreat.Am
namespace Go.Proofs.YtconhghphklfjaaGreat.Am
open Go
theorem Near.frames {π π' : Pl} (hn : Near π π') : ∀ g ∈ π'.frames, ∃ f ∈ π.frames, ∃ t, g = { f with touch := t } := by
 intro g hg
 obtain ⟨i, hi, rfl⟩ := List.mem_iff_getElem.1 hg
 have hf : π.frames[i]? = some (π.frames[i]'(by rw [← hn.len]; exact hi)) := List.getElem?_eq_getElem _
 obtain ⟨t, ht⟩ := hn.get i _ hf
 rw [List.getElem?_eq_getElem hi] at ht
 exact ⟨_, List.getElem_mem _, t, Option.some.inj ht⟩
theorem Near.ok {π π' : Pl} (hn : Near π π') (h : π.Ok) (hh : π'.hand < π'.frames.length) : π'.Ok := by
 refine ⟨hh, by rw [hn.len]; exact h.many, by rw [hn.wher, hn.len]; exact h.wher, fun g hg => ?_, fun g hg => ?_⟩
 ·obtain ⟨f, hf, t, rfl⟩ := hn.frames g hg
  exact h.len f hf
 ·obtain ⟨f, hf, t, rfl⟩ := hn.frames g hg
  exact h.pins f hf
theorem Pl.Ok.set {π : Pl} {i : Nat} {f : Fm} {w : List (Int × Int)} {d : List (Int × (Nat × Bool))} (h : π.Ok) (hw : ∀ e ∈ w, 0 ≤ e.2 ∧ e.2 < π.frames.length) (hl : f.b.length ≤ 512) (hp : 0 ≤ f.pins ∧ f.pins ≤ 4294967296) : Pl.Ok { π with frames := π.frames.set i f, wher := w, dirty := d } := by
 refine ⟨by simp only [List.length_set]; exact h.hand, by simp only [List.length_set]; exact h.many, fun e he => by simp only [List.length_set]; exact hw e he, fun g hg => ?_, fun g hg => ?_⟩
 ·rcases List.mem_or_eq_of_mem_set hg with hg | rfl
  ·exact h.len g hg
  ·exact hl
 ·rcases List.mem_or_eq_of_mem_set hg with hg | rfl
  ·exact h.pins g hg
  ·exact hp
theorem mem_del {α : Type} {n : Int} : ∀ {l : List (Int × α)} {e : Int × α}, e ∈ delL n l → e ∈ l := by
 intro l
 induction l with
 | nil => intro e h; exact h
 | cons x l ih =>
  intro e h
  simp only [delL] at h
  split at h
  ·exact List.mem_cons_of_mem _ h
  ·rcases List.mem_cons.1 h with rfl | h
   ·exact List.mem_cons_self
   ·exact List.mem_cons_of_mem _ (ih h)
theorem mem_put {α : Type} {n : Int} {x : α} : ∀ {l : List (Int × α)} {e : Int × α}, e ∈ putL n x l → e = (n, x) ∨ e ∈ l := by
 intro l
 induction l with
 | nil => intro e h; simp only [putL, List.mem_singleton] at h; exact .inl h
 | cons y l ih =>
  intro e h
  simp only [putL] at h
  split at h
  ·rcases List.mem_cons.1 h with rfl | h
   ·exact .inl rfl
   ·exact .inr (List.mem_cons_of_mem _ h)
  ·rcases List.mem_cons.1 h with rfl | h
   ·exact .inr List.mem_cons_self
   ·rcases ih h with h | h
    ·exact .inl h
    ·exact .inr (List.mem_cons_of_mem _ h)
theorem freed_ok {π : Pl} {i : Nat} {f : Fm} (h : π.Ok) : (freed π i f).Ok := by
 unfold freed
 refine h.set (fun e he => ?_) (by simp [emptyF]) (by simp [emptyF])
 split at he
 ·exact h.wher e he
 ·exact h.wher e (mem_del he)
theorem PinR.ok {ε ε' : Eng} {n e : Int} {b : List Nat} (hr : PinR ε n e b ε') (h : EOk2 ε) (hp : ∀ f ∈ ε.1.frames, f.pins = 0) : EOk2 ε' := by
 cases hr with
 | arg _ => exact h
 | hit i f h1 h2 hl hf =>
  have hm := List.mem_of_getElem? hf
  exact ⟨h.pl.set h.pl.wher (h.pl.len f hm) (by have := hp f hm; simp only; omega), h.lg, h.dk⟩
 | out π' i f h1 h2 hl hn hf hh he => exact outF_ok2 (ε := (π', ε.2)) ⟨hn.ok h.pl hh, h.lg, h.dk⟩
 | read π' i f h1 h2 hl hn hf hh he hr =>
  have := outF_ok2 (i := i) (ε := (π', ε.2)) ⟨hn.ok h.pl hh, h.lg, h.dk⟩
  exact ⟨freed_ok this.pl, this.lg, this.dk⟩
 | bad π' i f h1 h2 hl hn hf hh he hr hc =>
  have := outF_ok2 (i := i) (ε := (π', ε.2)) ⟨hn.ok h.pl hh, h.lg, h.dk⟩
  exact ⟨freed_ok this.pl, this.lg, this.dk⟩
 | load π' i f h1 h2 hl hn hf hh he hr hc =>
  have := outF_ok2 (i := i) (ε := (π', ε.2)) ⟨hn.ok h.pl hh, h.lg, h.dk⟩
  have h3 := freed_ok (i := i) (f := f) this.pl
  have hlen : i < (freed (outF (π', ε.2) i).2.1 i f).frames.length := by
   obtain ⟨c, hc⟩ := outF_frame (ε := (π', ε.2)) hf
   have := (List.getElem?_eq_some_iff.1 hc).1
   simpa [freed] using this
  refine ⟨h3.set (fun e he => ?_) (by simp only; rw [this.dk.at]; omega) (by simp), this.lg, this.dk⟩
  rcases mem_put he with rfl | he
  ·simp only; omega
  ·exact h3.wher e he
theorem unpinF_ok {π : Pl} {n : Int} (h : π.Ok) : (unpinF π n).2.Ok := by
 unfold unpinF
 split
 ·exact h
 ·rename_i i hi
  split
  ·exact h
  ·rename_i f hf
   have hm := List.mem_of_getElem? hf
   refine h.set h.wher (h.len f hm) ?_
   have := h.pins f hm
   have hne : f.pins ≠ 0 := by
    unfold heldI at hi
    split at hi
    ·cases hi
    ·split at hi
     ·cases hi
     ·rename_i g hg
      split at hi
      ·cases hi
      ·rename_i hp
       have := Option.some.inj hi
       subst this
       rw [hg] at hf
       have := Option.some.inj hf
       subst this
       exact hp
   simp only; omega
inductive RdR (ε : Eng) (n : Int) : Int → List Nat → Eng → Prop where
 | dead (h : ε.2.2.dead = true) : RdR ε n 9 [] ε
 | pin (e : Int) (b : List Nat) (ε' : Eng) (h : ε.2.2.dead = false) (hr : PinR ε n e b ε') (he : e ≠ 0) : RdR ε n e [] ε'
 | unpin (b : List Nat) (ε' : Eng) (h : ε.2.2.dead = false) (hr : PinR ε n 0 b ε') (he : (unpinF ε'.1 n).1 ≠ 0) : RdR ε n (unpinF ε'.1 n).1 [] ((unpinF ε'.1 n).2, ε'.2)
 | read (b : List Nat) (ε' : Eng) (h : ε.2.2.dead = false) (hr : PinR ε n 0 b ε') (he : (unpinF ε'.1 n).1 = 0) : RdR ε n 0 b ((unpinF ε'.1 n).2, ε'.2)
theorem RdR.ok {ε ε' : Eng} {n e : Int} {b : List Nat} (hr : RdR ε n e b ε') (h : EOk2 ε) (hp : ∀ f ∈ ε.1.frames, f.pins = 0) : EOk2 ε' := by
 cases hr with
 | dead _ => exact h
 | pin e b ε' hd hr he => exact hr.ok h hp
 | unpin b ε' hd hr he => have := hr.ok h hp; exact ⟨unpinF_ok this.pl, this.lg, this.dk⟩
 | read b ε' hd hr he => have := hr.ok h hp; exact ⟨unpinF_ok this.pl, this.lg, this.dk⟩
def stC (a p q r : Nat) (op dv : V) (chk : Nat) : List V := [.ptr p 0, .ptr q 0, .ptr r 0, op, dv, .int .u64 (chk : Int)]
def isSt (a p q r : Nat) (op : V) (data : List Nat) (chk : Nat) : Assn := xs fun dv : V => star [pt a (.cells 6 (stC a p q r op dv chk) false), .rob dv data]
def isGp (g a : Nat) (now : List (Int × List Nat)) (over : Bool) : Assn := xs fun nv : V => star [pt g (.cells 3 [.ptr a 0, nv, .bool over] false), mapV (fun v b => .rob v b) nv now]
section
variable {told : Nat → Option (List V → H → Option (V × H))} {h : H} {S : List Assn} {X : Assn} {r k q p fid a g chk : Nat} {op v x wh di : V} {l b data : List Nat} {π : Pl} {m : List Fm} {μ : Lg} {δ : Dk} {now : List (Int × List Nat)} {over : Bool}
theorem isSt_iff : Sat h (isSt a p q r op data chk :: S) ↔ ∃ dv, Sat h (pt a (.cells 6 (stC a p q r op dv chk) false) :: .rob dv data :: S) := by
 simp only [isSt, Sat_xs, Sat_star, List.cons_append, List.nil_append]
theorem isGp_iff : Sat h (isGp g a now over :: S) ↔ ∃ nv, Sat h (pt g (.cells 3 [.ptr a 0, nv, .bool over] false) :: mapV (fun v b => .rob v b) nv now :: S) := by
 simp only [isGp, Sat_xs, Sat_star, List.cons_append, List.nil_append]
theorem sread_ct (hT : W told) {n : Int} (s : Sat h (isSt a p q r op data chk :: isPl r p q π :: isLg q p μ :: isDk p δ :: S)) (hε : EOk2 (π, μ, δ)) (hpin : ∀ f ∈ π.frames, f.pins = 0) (hw : δ.waiting.length ≤ 268435456) :
  Call ⟨Tryz.prog, told⟩ 23 [.ptr a 0, .int .i64 n] h fun v h' => ∃ (e : Int) (b : List Nat) (ε : Eng), RdR (π, μ, δ) n e b ε ∧
   ((e ≠ 0 ∧ v = .tup [.sl0, .int .i64 e] ∧ Sat h' (isSt a p q r op data chk :: isPl r p q ε.1 :: isLg q p ε.2.1 :: isDk p ε.2.2 :: S)) ∨
    (e = 0 ∧ ∃ u, v = .tup [u, .int .i64 0] ∧ Sat h' (bufA u b :: isSt a p q r op data chk :: isPl r p q ε.1 :: isLg q p ε.2.1 :: isDk p ε.2.2 :: S))) := by
 have s0 := s
 obtain ⟨dv, s⟩ := isSt_iff.1 s
 refine Call.of_wp (hT.free _ rfl) Tryz.func23 rfl rfl (zg rfl (za rfl (za rfl (zv (zw (zg rfl (zm rfl (zn rfl (zf rfl (fa85_0 _ _) (zl rfl (by exact s.ld (k := 0) rfl ag23 rfl) ?_))))))))))
 refine WPs.call rfl rfl rfl rfl rfl rfl rfl (dDead_ct hT (s.bringS [4])) ?_
 rintro v h ⟨rfl, rfl⟩
 refine zv ?_
 cases hd : δ.dead with
 | true =>
  refine zi rfl (zg rfl (za rfl (za rfl (zv ?_))))
  refine WP.ret ⟨trivial, _, rfl, ?_⟩
  exact ⟨9, [], _, .dead hd, .inl ⟨by decide, rfl, s0⟩⟩
 | false =>
  refine zj rfl (WP.skip (zg rfl (zm rfl (zn rfl (zf rfl (fa85_2 _ _) (zl rfl (by exact s.ld (k := 0) rfl ag77 rfl) ?_))))))
  refine zm rfl (WPs.call rfl rfl rfl rfl rfl rfl rfl (pin_ct (n := n) hT (s.bringS [2, 2, 2]) hε.pl hpin hε.lg hε.dk hw) ?_)
  rintro v h ⟨e, b, ε, hr, (⟨he, rfl, s⟩ | ⟨rfl, u, rfl, s⟩)⟩
  ·dsimp only [bringA, getA, delA] at s
   refine zm rfl (ze rfl (ze rfl (za rfl (za rfl (zv (zw (zg rfl (zm rfl (WPs.opT rfl rfl rfl (o_bin rfl rfl bNeq) (by simp; exact he) ?_)))))))))
   refine zv (zi rfl (zg rfl (zm rfl (za rfl (za rfl (zv ?_))))))
   refine WP.ret ⟨trivial, _, rfl, ?_⟩
   exact ⟨e, [], ε, .pin e b ε hd hr he, .inl ⟨he, rfl, isSt_iff.2 ⟨dv, s.bringS [3, 3, 0, 0, 0]⟩⟩⟩
  ·dsimp only [bringA, getA, delA] at s
   refine zm rfl (ze rfl (ze rfl (za rfl (za rfl (zv (zw (zg rfl (zm rfl (WPs.opF rfl rfl rfl (o_bin rfl rfl bNeq) (rfl) ?_)))))))))
   have s := s.bringS [4, 4, 0, 0, 0, 0]
   dsimp only [bringA, getA, delA] at s
   refine zv (zj rfl (WP.skip (zw (zg rfl (zm rfl (zn rfl (zf rfl (fa85_2 _ _) (zl rfl (by exact s.ld (k := 0) rfl ag77 rfl) ?_))))))))
   refine zm rfl ?_
   have hok := hr.ok hε hpin
   refine WPs.call rfl rfl rfl rfl rfl rfl rfl (unpin_ct (n := n) hT (s.bringS [3]) hok.pl) ?_
   rintro v h ⟨rfl, s⟩
   dsimp only [bringA, getA, delA] at s
   refine za rfl (zv (zg rfl (zm rfl ?_)))
   by_cases he : (unpinF ε.1 n).1 = 0
   ·skip
    refine WPs.opF rfl rfl rfl (o_bin rfl rfl bNeq) (by simp; exact he) ?_
    refine zv (zj rfl (WP.skip (zg rfl (zm rfl (za rfl (za rfl (zv ?_)))))))
    refine WP.ret ⟨trivial, _, rfl, ?_⟩
    exact ⟨0, b, _, .read b ε hd hr he, .inr ⟨rfl, u, rfl, (isSt_iff.2 ⟨dv, s.bringS [1, 1, 0, 1, 1, 0]⟩).bringS [4, 0, 0, 0, 0]⟩⟩
   ·skip
    refine WPs.opT rfl rfl rfl (o_bin rfl rfl bNeq) (by simp; exact he) ?_
    refine zv (zi rfl (zg rfl (zm rfl (za rfl (za rfl (zv ?_))))))
    refine WP.ret ⟨trivial, _, rfl, ?_⟩
    exact ⟨_, [], _, .unpin b ε hd hr he, .inl ⟨he, rfl, (isSt_iff.2 ⟨dv, (s.bringS [1, 1, 0, 1, 1, 0]).del 5⟩)⟩⟩
end
end Go.Proofs.YtconhghphklfjaaGreat.Am
