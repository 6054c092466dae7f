/- Whatever groups are done and dropped, written out and checkpointed between, each page is as the groups that were done made it; the conditions are those of the given statement, for arguments that a machine can hold. Part 30 of 49. -/
import Derived.Test.YtconhghphklfjaaGreatP29
namespace Go.Proofs.YtconhghphklfjaaGreat.Am
open Go
structure Chg where
 page : Int
 pos : Int
 whole : Bool
 b : List Nat
def Chg.Ok (c : Chg) : Prop := 0 ≤ c.page ∧ c.page < 65536 ∧ 0 ≤ c.pos ∧ c.pos ≤ 512 ∧ (c.b.length : Int) ≤ 512 - c.pos ∧ (c.whole = true → c.pos = 0 ∧ c.b.length = 512)
instance (c : Chg) : Decidable c.Ok := by unfold Chg.Ok; infer_instance
def goodR (kind : Int) (chs : List Chg) : Bool := decide (1 ≤ kind ∧ kind ≤ 9) && chs.all fun c => decide c.Ok
def rcC (kd : Int) (tx pv nx : Nat) (dt ch : V) : List V := [.int .i64 kd, .int .u64 (tx : Int), .int .u64 (pv : Int), .int .u64 (nx : Int), dt, ch]
theorem rcC_st {kd : Int} {tx pv nx : Nat} {dt ch : V} (hd : storable dt = true) (hc : storable ch = true) : (rcC kd tx pv nx dt ch).all storable = true := by
 simp only [rcC, List.all_cons, List.all_nil, hd, hc]
 rfl
def chgA : List V → List Chg → Assn
 | [], [] => .pu True
 | p :: a :: w :: v :: l, x :: m => .an (.an (.pu (p = .int .i64 x.page ∧ a = .int .i64 x.pos ∧ w = .bool x.whole)) (.rob v x.b)) (chgA l m)
 | _, _ => .pu False
theorem Pers.chg : ∀ (m : List Chg) (l : List V), Pers (chgA l m) := by
 intro m
 induction m with
 | nil => intro l; rcases l with _ | ⟨a, _ | ⟨b, _ | ⟨c, _ | ⟨d, l⟩⟩⟩⟩ <;> exact Pers.pu _
 | cons x m ih => intro l; rcases l with _ | ⟨a, _ | ⟨b, _ | ⟨c, _ | ⟨d, l⟩⟩⟩⟩ <;> first | exact Pers.pu _ | exact Pers.an (Pers.an (Pers.pu _) (Pers.rob _ _)) (ih l)
theorem chgA_len {a b : PM} : ∀ {m : List Chg} {l : List V}, (chgA l m).p a b → l.length = m.length * 4 := by
 intro m
 induction m with
 | nil => intro l h; rcases l with _ | ⟨x, _ | ⟨y, _ | ⟨z, _ | ⟨d, l⟩⟩⟩⟩ <;> first | rfl | exact h.elim
 | cons x m ih =>
  intro l h
  rcases l with _ | ⟨x, _ | ⟨y, _ | ⟨z, _ | ⟨d, l⟩⟩⟩⟩ <;> first | exact h.elim | skip
  have := ih h.2
  simp only [List.length_cons]
  omega
theorem chgA_app {a b : PM} : ∀ {m m' : List Chg} {l l' : List V}, (chgA l m).p a b → (chgA l' m').p a b → (chgA (l ++ l') (m ++ m')).p a b := by
 intro m
 induction m with
 | nil => intro m' l l' h h'; rcases l with _ | ⟨x, _ | ⟨y, _ | ⟨z, _ | ⟨d, l⟩⟩⟩⟩ <;> first | exact h' | exact h.elim
 | cons x m ih =>
  intro m' l l' h h'
  rcases l with _ | ⟨x, _ | ⟨y, _ | ⟨z, _ | ⟨d, l⟩⟩⟩⟩ <;> first | exact h.elim | exact ⟨h.1, ih h.2 h'⟩
theorem chgA_get {a b : PM} : ∀ {m : List Chg} {l : List V} {i : Nat} {c : Chg}, (chgA l m).p a b → m[i]? = some c → ∃ u, (l.drop (i * 4)).take 4 = [.int .i64 c.page, .int .i64 c.pos, .bool c.whole, u] ∧ (Assn.rob u c.b).p a b := by
 intro m
 induction m with
 | nil => intro l i c h hc; simp at hc
 | cons x m ih =>
  intro l i c h hc
  rcases l with _ | ⟨p, _ | ⟨q, _ | ⟨w, _ | ⟨v, l⟩⟩⟩⟩ <;> first | exact h.elim | skip
  obtain ⟨⟨⟨h1, h2, h3⟩, h4⟩, h5⟩ := h
  cases i with
  | zero => simp at hc; subst hc; exact ⟨v, by rw [h1, h2, h3]; rfl, h4⟩
  | succ i =>
   simp at hc
   obtain ⟨u, e1, e2⟩ := ih h5 hc
   refine ⟨u, ?_, e2⟩
   rw [← e1, show (i + 1) * 4 = i * 4 + 4 by omega]
   rfl
section
variable {told : Nat → Option (List V → H → Option (V × H))} {h : H} {S : List Assn} {X : Assn} {k q p : Nat} {v : V} {l : List Nat}
theorem chg_at {ch : V} {cs : List V} {m : List Chg} {i : Nat} {c : Chg} (s : Sat h (.arr 4 ch cs :: chgA cs m :: S)) (hc : m[i]? = some c) :
  ∃ id off u, indexAddrV Tryz.prog 38 ch (.int .i64 (i : Int)) = some (.ptr id off) ∧ loadV Tryz.prog h 54 (.ptr id off) = some (.agg [.int .i64 c.page, .int .i64 c.pos, .bool c.whole, u]) ∧
   u.cells = [u] ∧ storable u = true ∧ u.beq u = true ∧ Sat h (.rob u c.b :: .arr 4 ch cs :: chgA cs m :: S) := by
 obtain ⟨a, b, q1, q2, q3⟩ := s.at (k := 1) rfl
 have hil := (List.getElem?_eq_some_iff.1 hc).1
 have hl := chgA_len q3
 obtain ⟨u, e1, e2⟩ := chgA_get q3 hc
 obtain ⟨id, off, g1, g2⟩ := arr_at (P := Tryz.prog) (i := i) s (j := 0) rfl (by omega) (by decide) Tryz.underlying38 sz54
 have g2 := g2 ag54
 rw [e1] at g2
 have s2 : Sat h (chgA cs m :: .arr 4 ch cs :: S) := s.bringS [1]
 have s3 := (s2.dup (Pers.chg _ _)).ent (B := .rob u c.b) fun a b h => by
  obtain ⟨u', e1', e2'⟩ := chgA_get h hc
  rw [e1] at e1'
  injection e1' with _ e1'
  injection e1' with _ e1'
  injection e1' with _ e1'
  injection e1' with e1' _
  subst e1'
  exact e2'
 have hu := (s3.viewX (k := 0) rfl (rd_ro _ _))
 exact ⟨id, off, u, g1, g2, hu.cells.1, hu.cells.2, beqView hu, s3.bringS [0, 1, 0]⟩
theorem chg_len {ch : V} {cs : List V} {m : List Chg} {j1 j2 : Nat} {P : Program} {t e : TypeId} (s : Sat h S) (h1 : getA S j1 = some (.arr 4 ch cs)) (h2 : getA S j2 = some (chgA cs m)) (hu : P.underlying t = some (.slice e)) : lenV P h t ch = some (.int .i64 m.length) := by
 obtain ⟨a, b, q1, q2, q3⟩ := s.at h2
 exact s.arrLen h1 (chgA_len q3) (by decide) hu
theorem Sat.chgLen {ch : V} {cs : List V} {m : List Chg} {j1 j2 : Nat} {P : Program} {t e : TypeId} (s : Sat h S) (h1 : getA S j1 = some (.arr 4 ch cs)) (h2 : getA S j2 = some (chgA cs m)) (hu : P.underlying t = some (.slice e)) : lenV P h t ch = some (.int .i64 m.length) := chg_len s h1 h2 hu
noncomputable def gwL : Code := pathC [1, 1, 0, 1, 0, 0] ((Tryz.f120.body).getD .skip)
theorem wgood_loop {p1 : Nat} {ch : V} {cs : List V} {m : List Chg} : ∀ (j i : Nat) (h : H) (E : List (Nat × V)) (Q : Ex → List (Nat × V) → H → Prop), i + j = m.length → m.length < 4294967296 → (∀ c ∈ m, c.b.length < 9223372036854775808) →
  (∀ c ∈ m, -4294967296 ≤ c.pos ∧ c.pos ≤ 4294967296) → Sat h (.arr 4 ch cs :: chgA cs m :: S) → Has E [(1, .ptr p1 0), (14, ch), (15, .int .i64 m.length), (16, .int .i64 i)] →
  ((m.drop i).all (fun c => decide c.Ok) = false → ∀ E' h', look E' 2 = some (.bool false) → Sat h' (.arr 4 ch cs :: chgA cs m :: S) → Q .ret E' h') →
  ((m.drop i).all (fun c => decide c.Ok) = true → ∀ E' h', Sat h' (.arr 4 ch cs :: chgA cs m :: S) → Q (.exit 0) E' h') → WP ⟨Tryz.prog, told⟩ 61 (.loop gwL) E h Q := by
 intro j
 induction j with
 | zero =>
  intro i h E Q hi hm hb hpos s hE hr hx
  refine WP.loop (WP.has hE (zg rfl (WPs.opF rfl rfl rfl (o_bin rfl rfl bLss) (by simp; omega) ?_)))
  refine zv (zw (zj rfl (WP.exit ?_)))
  exact hx (by rw [List.drop_eq_nil_of_le (by omega)]; rfl) _ _ s
 | succ j ih =>
  intro i h E Q hi hm hb hpos s hE hr hx
  have hc : m[i]? = some (m[i]'(by omega)) := List.getElem?_eq_getElem _
  generalize (m[i]'(by omega)) = c at hc
  have hcm := List.mem_of_getElem? hc
  have hcb := hb c hcm
  have hcp := hpos c hcm
  have hdrop : m.drop i = c :: m.drop (i + 1) := by
   have := List.getElem?_eq_some_iff.1 hc
   obtain ⟨h1, rfl⟩ := this
   exact List.drop_eq_getElem_cons h1
  rw [hdrop, List.all_cons] at hr hx
  obtain ⟨id, off, u, e1, e2, u1, u2, u3, s⟩ := chg_at s hc
  refine WP.loop (WP.has hE (zg rfl (WPs.opT rfl rfl rfl (o_bin rfl rfl bLss) (by simp; omega) ?_)))
  refine zv (zw (zi rfl (WP.skip (zw (WP.block (zg rfl (zo rfl (o_ia (r := .ptr id off) rfl rfl e1) (zl rfl e2 ?_))))))))
  refine WPs.newS s rfl rfl rfl (o_alloc zt54) (fun p4 h s => ?_)
  dsimp only [V.cells, List.length_cons, List.length_nil, Nat.reduceAdd] at s
  refine WPs.stS rfl rfl rfl rfl rfl (s.stA (j := 0) rfl sz54 rfl (by simp only [List.all_cons, List.all_nil, u2]; rfl)) ?_
  intro h s
  dsimp only [setA] at s
  refine zv (zw (zg rfl (zf rfl (fa54_0 _ _) (zl rfl (by exact s.ld (k := 0) rfl ag3 rfl) ?_))))
  refine WPs.opB rfl rfl rfl (o_bin rfl rfl bLss) ?_ ?_
  ·intro hq0
   have hq0 : c.page < 0 := by simp at hq0; omega
   refine zm rfl (zx rfl (zx rfl (zx rfl (zq rfl (zm rfl (zx rfl (zx rfl (zx rfl (zq rfl (zm rfl (zx rfl (zx rfl (zx rfl (zq rfl (zm rfl (zx rfl (zx rfl (zx rfl (zx rfl (zx rfl (zx rfl (zx rfl (zq rfl (zv ?_))))))))))))))))))))))))
   refine zi rfl (zg rfl (za rfl (zv (WP.ret ?_))))
   exact hr (by rw [decide_eq_false (fun q : c.Ok => by have := q.1; omega), Bool.false_and]) _ _ rfl s.drop.drop
  ·intro hq0
   have hq0 : ¬ (c.page < 0) := by simp at hq0; omega
   refine zm rfl (zf rfl (fa54_0 _ _) (zl rfl (by exact s.ld (k := 0) rfl ag3 rfl) ?_))
   refine WPs.opB rfl rfl rfl (o_bin rfl rfl bGeq) ?_ ?_
   ·intro hq1
    have hq1 : 65536 ≤ c.page := by simp at hq1; omega
    refine zp rfl (zm rfl (zx rfl (zx rfl (zx rfl (zq rfl (zm rfl (zx rfl (zx rfl (zx rfl (zq rfl (zm rfl (zx rfl (zx rfl (zx rfl (zx rfl (zx rfl (zx rfl (zx rfl (zq rfl (zv (zi rfl (zg rfl (za rfl ?_)))))))))))))))))))))))
    refine zv (WP.ret ?_)
    exact hr (by rw [decide_eq_false (fun q : c.Ok => by have := q.2.1; omega), Bool.false_and]) _ _ rfl s.drop.drop
   ·intro hq1
    have hq1 : ¬ (65536 ≤ c.page) := by simp at hq1; omega
    refine zp rfl (zm rfl (zf rfl (fa54_1 _ _) (zl rfl (by exact s.ld (k := 0) rfl ag3 rfl) ?_)))
    refine WPs.opB rfl rfl rfl (o_bin rfl rfl bLss) ?_ ?_
    ·intro hq2
     have hq2 : c.pos < 0 := by simp at hq2; omega
     refine zp rfl (zm rfl (zx rfl (zx rfl (zx rfl (zq rfl (zm rfl (zx rfl (zx rfl (zx rfl (zx rfl (zx rfl (zx rfl (zx rfl (zq rfl (zv (zi rfl (zg rfl (za rfl (zv (WP.ret ?_))))))))))))))))))))
     exact hr (by rw [decide_eq_false (fun q : c.Ok => by have := q.2.2.1; omega), Bool.false_and]) _ _ rfl s.drop.drop
    ·intro hq2
     have hq2 : ¬ (c.pos < 0) := by simp at hq2; omega
     refine zp rfl (zm rfl (zf rfl (fa54_1 _ _) (zl rfl (by exact s.ld (k := 0) rfl ag3 rfl) ?_)))
     refine WPs.opB rfl rfl rfl (o_bin rfl rfl bGtr) ?_ ?_
     ·intro hq3
      have hq3 : 512 < c.pos := by simp at hq3; omega
      refine zp rfl (zm rfl (zx rfl (zx rfl (zx rfl (zx rfl (zx rfl (zx rfl (zx rfl (zq rfl (zv (zi rfl (zg rfl (za rfl (zv (WP.ret ?_)))))))))))))))
      exact hr (by rw [decide_eq_false (fun q : c.Ok => by have := q.2.2.2.1; omega), Bool.false_and]) _ _ rfl s.drop.drop
     ·intro hq3
      have hq3 : ¬ (512 < c.pos) := by simp at hq3; omega
      refine zp rfl (zm rfl (zf rfl (fa54_3 _ _) (zl rfl (by exact s.ld (k := 0) rfl ag32 rfl) ?_)))
      refine zo rfl (o_len rfl rfl rfl (by exact len_view Tryz.underlying32 (s.viewX (k := 1) rfl (rd_ro _ _)))) ?_
      refine zf rfl (fa54_1 _ _) (zl rfl (by exact s.ld (k := 0) rfl ag3 rfl) ?_)
      refine zb rfl (by exact bSub (wrapS (by omega) (by omega))) ?_
      refine WPs.opB rfl rfl rfl (o_bin rfl rfl bGtr) ?_ ?_
      ·intro hq4
       have hq4 : 512 - c.pos < (c.b.length : Int) := by simp at hq4; omega
       refine zp rfl (zv (zi rfl (zg rfl (za rfl (zv (WP.ret ?_))))))
       exact hr (by rw [decide_eq_false (fun q : c.Ok => by have := q.2.2.2.2.1; omega), Bool.false_and]) _ _ rfl s.drop.drop
      ·intro hq4
       have hq4 : ¬ (512 - c.pos < (c.b.length : Int)) := by simp at hq4; omega
       refine zp rfl (zv (zj rfl (WP.skip (zg rfl (zf rfl (fa54_2 _ _) ?_)))))
       have hstep : ∀ (h : H) (E : List (Nat × V)), c.Ok → Sat h (.arr 4 ch cs :: chgA cs m :: S) → Has E [(1, .ptr p1 0), (14, ch), (15, .int .i64 m.length), (16, .int .i64 ((i : Int) + 1))] → WP ⟨Tryz.prog, told⟩ 61 (.loop gwL) E h Q := by
        intro h E hok s hE
        rw [decide_eq_true hok, Bool.true_and] at hr hx
        exact ih (i + 1) h E Q (by omega) hm hb hpos s hE hr hx
       have hwc : c.whole = false ∨ c.whole = true := by cases c.whole <;> simp
       rcases hwc with hw | hw
       ·skip
        refine WPs.opF rfl rfl rfl (o_load rfl (by exact s.ld (k := 0) rfl ag4 rfl)) (hw) ?_
        refine zm rfl (zx rfl (zx rfl (zx rfl (zx rfl (zx rfl (zx rfl (zx rfl (zx rfl (zx rfl (zp rfl (zv (zj rfl (WP.skip (zr rfl (zb rfl (by exact bAdd (wrapS (by omega) (by omega))) ?_)))))))))))))))
        refine zm rfl (zv ?_)
        refine hstep _ _ ?_ ?_ ?_
        ·exact ⟨by omega, by omega, by omega, by omega, by omega, fun e => by rw [hw] at e; cases e⟩
        ·exact s.drop.drop
        ·exact ⟨rfl, rfl, rfl, rfl, trivial⟩
       ·skip
        refine WPs.opT rfl rfl rfl (o_load rfl (by exact s.ld (k := 0) rfl ag4 rfl)) (hw) ?_
        refine zm rfl (zf rfl (fa54_1 _ _) (zl rfl (by exact s.ld (k := 0) rfl ag3 rfl) ?_))
        refine WPs.opB rfl rfl rfl (o_bin rfl rfl bNeq) ?_ ?_
        ·intro hp
         have hp : c.pos ≠ 0 := by simp at hp; omega
         refine zm rfl (zx rfl (zx rfl (zx rfl (zx rfl (zq rfl (zq rfl (zv (zi rfl (zg rfl (za rfl (zv (WP.ret ?_))))))))))))
         exact hr (by rw [decide_eq_false (fun q : c.Ok => hp (q.2.2.2.2.2 hw).1), Bool.false_and]) _ _ rfl s.drop.drop
        ·intro hp
         have hp : c.pos = 0 := by simp at hp; omega
         refine zm rfl (zf rfl (fa54_3 _ _) (zl rfl (by exact s.ld (k := 0) rfl ag32 rfl) ?_))
         refine zo rfl (o_len rfl rfl rfl (by exact len_view Tryz.underlying32 (s.viewX (k := 1) rfl (rd_ro _ _)))) ?_
         refine WPs.opB rfl rfl rfl (o_bin rfl rfl bNeq) ?_ ?_
         ·intro hp2
          have hp2 : c.b.length ≠ 512 := by simp at hp2; omega
          refine zp rfl (zq rfl (zv (zi rfl (zg rfl (za rfl (zv (WP.ret ?_)))))))
          exact hr (by rw [decide_eq_false (fun q : c.Ok => hp2 (q.2.2.2.2.2 hw).2), Bool.false_and]) _ _ rfl s.drop.drop
         ·intro hp2
          have hp2 : c.b.length = 512 := by simp at hp2; omega
          refine zp rfl (zq rfl (zv (zj rfl (WP.skip (zr rfl (zb rfl (by exact bAdd (wrapS (by omega) (by omega))) ?_))))))
          refine zm rfl (zv ?_)
          refine hstep _ _ ?_ ?_ ?_
          ·exact ⟨by omega, by omega, by omega, by omega, by omega, fun _ => ⟨hp, hp2⟩⟩
          ·exact s.drop.drop
          ·exact ⟨rfl, rfl, rfl, rfl, trivial⟩
def chsFit (m : List Chg) : Prop := m.length < 4294967296 ∧ (∀ c ∈ m, c.b.length < 4294967296) ∧ (∀ c ∈ m, -4294967296 ≤ c.pos ∧ c.pos ≤ 4294967296)
theorem wgood_ct (hT : W told) {kd : Int} {tx pv nx : Nat} {dt ch : V} {cs : List V} {m : List Chg} (s : Sat h (.arr 4 ch cs :: chgA cs m :: S)) (hd : storable dt = true) (hm : chsFit m) :
  Call ⟨Tryz.prog, told⟩ 120 [.agg (rcC kd tx pv nx dt ch)] h fun r h' => r = .bool (goodR kd m) ∧ Sat h' (.arr 4 ch cs :: chgA cs m :: S) := by
 have hch := s.arrV (j := 0) rfl
 have hst := rcC_st (kd := kd) (tx := tx) (pv := pv) (nx := nx) hd hch.2.1
 refine Call.of_wp (hT.free _ rfl) Tryz.func120 rfl rfl (zg rfl (WPs.newS s rfl rfl rfl (o_box rfl hst) ?_))
 intro p1 h s
 dsimp only [V.cells] at s
 refine za rfl (zv (zw (zg rfl (zf rfl (fa40_0 _ _) (zl rfl (by exact s.ld (k := 0) rfl ag3 rfl) ?_)))))
 refine WPs.opB rfl rfl rfl (o_bin rfl rfl bLss) ?_ ?_
 ·intro hq
  have hq : kd < 1 := by simpa using hq
  refine zm rfl (zx rfl (zx rfl (zx rfl (zq rfl (zv (zi rfl (zg rfl (za rfl (zv ?_)))))))))
  refine WP.ret ⟨trivial, _, rfl, ?_⟩
  exact ⟨by rw [goodR, decide_eq_false (by omega), Bool.false_and], s.drop⟩
 ·intro hq
  have hq : 1 ≤ kd := by simpa using hq
  refine zm rfl (zf rfl (fa40_0 _ _) (zl rfl (by exact s.ld (k := 0) rfl ag3 rfl) ?_))
  refine WPs.opB rfl rfl rfl (o_bin rfl rfl bGtr) ?_ ?_
  ·intro hq2
   have hq2 : 9 < kd := by simpa using hq2
   refine zp rfl (zv (zi rfl (zg rfl (za rfl (zv ?_)))))
   refine WP.ret ⟨trivial, _, rfl, ?_⟩
   exact ⟨by rw [goodR, decide_eq_false (by omega), Bool.false_and], s.drop⟩
  ·intro hq2
   have hq2 : kd ≤ 9 := by simpa using hq2
   refine zp rfl (zv (zj rfl (WP.skip (zw (zg rfl (zf rfl (fa40_5 _ _) (zl rfl (by exact s.ld (k := 0) rfl ag38 rfl) ?_)))))))
   refine zo rfl (o_len rfl rfl rfl (chg_len s (j1 := 1) (j2 := 2) rfl rfl Tryz.underlying38)) (zm rfl (zv (WP.block ?_)))
   have hg : goodR kd m = m.all (fun c => decide c.Ok) := by rw [goodR, decide_eq_true ⟨hq, hq2⟩, Bool.true_and]
   refine wgood_loop m.length 0 _ _ _ (by omega) hm.1 (fun c hc => by have := hm.2.1 c hc; omega) hm.2.2 s.drop ⟨rfl, rfl, rfl, rfl, trivial⟩ (fun hf E' h' h2 s' => ?_) (fun hf E' h' s' => ?_)
   ·rw [hg]
    rw [List.drop_zero] at hf
    rw [hf]
    exact ⟨trivial, _, res1 h2, rfl, s'⟩
   ·rw [hg]
    rw [List.drop_zero] at hf
    rw [hf]
    refine WP.has (F := []) trivial (zg rfl (za rfl (zv ?_)))
    refine WP.ret ⟨trivial, _, rfl, ?_⟩
    exact ⟨rfl, s'⟩
end
end Go.Proofs.YtconhghphklfjaaGreat.Am
namespace Go.Proofs.YtconhghphklfjaaGreat.Am
open Go
def encC (c : Chg) : List Nat := digits 9 c.page.toNat ++ digits 9 c.pos.toNat ++ [if c.whole then 1 else 0] ++ (digits 9 c.b.length ++ c.b)
def bodyG (kd : Int) (tx pv nx : Nat) (data : List Nat) (chs : List Chg) : List Nat :=
 [kd.toNat] ++ digits 9 tx ++ digits 9 pv ++ digits 9 nx ++ (digits 9 data.length ++ data) ++ digits 9 chs.length ++ chs.flatMap encC
section
variable {told : Nat → Option (List V → H → Option (V × H))} {h : H} {S : List Assn} {X : Assn} {k q p : Nat} {v w : V} {l m : List Nat}
theorem varint_ct (hT : W told) {n : Nat} (s : Sat h (bufA v l :: S)) (hn : n < 18446744073709551616) (hl : l.length ≤ 140737488355000) :
  Call ⟨Tryz.prog, told⟩ 135 [v, .int .u64 (n : Int)] h fun r h' => Sat h' (bufA r (l ++ digits 9 n) :: S) :=
 (varint_do hT.std (k := 9) s.wf (s.buf (k := 0) rfl) (by omega) (by omega) (by omega)).mono fun _ _ ⟨h1, h2, h3⟩ => s.turnBuf h2 h1 h3
theorem text_ct (hT : W told) (s : Sat h (bufA v l :: X :: S)) (hX : Ent X (rdB w m)) (hl : l.length + m.length ≤ 140737488355000) :
  Call ⟨Tryz.prog, told⟩ 136 [v, w] h fun r h' => Sat h' (bufA r (l ++ (digits 9 m.length ++ m)) :: X :: S) :=
 (text_do hT.std (k := 9) s.wf (s.buf (k := 0) rfl) (s.viewX (k := 1) rfl hX) (s.apartB hX) (by omega) (by omega) (by omega)).mono fun _ _ ⟨h1, h2, h3⟩ => by
  rw [List.append_assoc] at h1
  exact s.turnBuf h2 h1 h3
noncomputable def bdL : Code := pathC [1, 1, 1, 1, 0, 1, 0, 0] ((Tryz.f121.body).getD .skip)
theorem body_loop (hT : W told) {p1 : Nat} {ch : V} {cs : List V} {chs : List Chg} (hok : ∀ c ∈ chs, c.Ok) (hfit : chsFit chs) : ∀ (j i : Nat) (sv : V) (l : List Nat) (h : H) (E : List (Nat × V)) (Q : Ex → List (Nat × V) → H → Prop), i + j = chs.length →
  l.length + ((chs.drop i).flatMap encC).length ≤ 140737488355000 →
  Sat h (bufA sv l :: .arr 4 ch cs :: chgA cs chs :: S) → Has E [(1, .ptr p1 0), (3, sv), (37, ch), (38, .int .i64 chs.length), (39, .int .i64 i)] →
  (∀ E' h' sv', look E' 3 = some sv' → Sat h' (bufA sv' (l ++ (chs.drop i).flatMap encC) :: .arr 4 ch cs :: chgA cs chs :: S) → Q (.exit 2) E' h') → WP ⟨Tryz.prog, told⟩ 63 (.loop bdL) E h Q := by
 intro j
 induction j with
 | zero =>
  intro i sv l h E Q hi hlen s hE hx
  have hm := hfit.1
  refine WP.loop (WP.has hE (zg rfl (WPs.opF rfl rfl rfl (o_bin rfl rfl bLss) (by simp; omega) ?_)))
  refine zv (zw (zj rfl (WP.exit (hx _ _ sv rfl ?_))))
  rw [List.drop_eq_nil_of_le (by omega)]
  simpa using s
 | succ j ih =>
  intro i sv l h E Q hi hlen s hE hx
  have hm := hfit.1
  have hc : chs[i]? = some (chs[i]'(by omega)) := List.getElem?_eq_getElem _
  generalize (chs[i]'(by omega)) = c at hc
  have hcm := List.mem_of_getElem? hc
  have hcok := hok c hcm
  have hcb := hfit.2.1 c hcm
  have hdrop : chs.drop i = c :: chs.drop (i + 1) := by
   obtain ⟨h1, rfl⟩ := List.getElem?_eq_some_iff.1 hc
   exact List.drop_eq_getElem_cons h1
  rw [hdrop, List.flatMap_cons] at hlen hx
  obtain ⟨pg, ps, wh, bb⟩ := c
  obtain ⟨q1, q2, q3, q4, _⟩ := hcok
  dsimp only at q1 q2 q3 q4 hcb
  obtain ⟨pg, rfl⟩ : ∃ n : Nat, pg = n := ⟨pg.toNat, by omega⟩
  obtain ⟨ps, rfl⟩ : ∃ n : Nat, ps = n := ⟨ps.toNat, by omega⟩
  have henc : encC ⟨pg, ps, wh, bb⟩ = digits 9 pg ++ digits 9 ps ++ [if wh then 1 else 0] ++ (digits 9 bb.length ++ bb) := by simp [encC]
  have hel : (encC ⟨pg, ps, wh, bb⟩).length = (digits 9 pg).length + (digits 9 ps).length + 1 + (digits 9 bb.length).length + bb.length := by rw [henc]; simp; omega
  rw [List.length_append, hel] at hlen
  obtain ⟨id, off, u, e1, e2, u1, u2, u3, s⟩ := chg_at (s.bringS [1, 1]) hc
  dsimp only at e2
  have s := s.bringS [3, 0, 0, 0]
  dsimp only [delA, bringA, getA] at s
  refine WP.loop (WP.has hE (zg rfl (WPs.opT rfl rfl rfl (o_bin rfl rfl bLss) (by simp; omega) ?_)))
  refine zv (zw (zi rfl (WP.skip (zw (WP.block (zg rfl (zo rfl (o_ia (r := .ptr id off) rfl rfl e1) (zl rfl e2 ?_))))))))
  refine WPs.newS s rfl rfl rfl (o_alloc zt54) (fun p7 h s => ?_)
  dsimp only [V.cells, List.length_cons, List.length_nil, Nat.reduceAdd] at s
  refine WPs.stS rfl rfl rfl rfl rfl (s.stA (j := 0) rfl sz54 rfl (by simp only [List.all_cons, List.all_nil, u2]; rfl)) ?_
  intro h s
  dsimp only [setA] at s
  refine zv (zw ?_)
  have s := s.bringS [1, 0]
  dsimp only [bringA, getA, delA] at s
  have s0 := s
  refine WP.drawn [none, none, none, none, none, some (0, 2), some (0, 2), some (0, 2), none, none] rfl (by kernel_rfl) (by kernel_rfl) ?_
  refine zM rfl (zF rfl (fa54_0 _ _) (zL rfl (by exact s.ld (k := 1) rfl ag3 rfl) ?_))
  refine WPt.op rfl rfl rfl (by simp only [isEff, Tryz.underlying35]) (o_conv rfl (by exact cvI Tryz.underlying3 Tryz.underlying35 (wrapU (by omega) (by omega)))) ?_
  refine WPt.any rfl rfl rfl rfl (OpR.call rfl rfl rfl rfl (varint_ct hT s (by omega) (by omega))) ?_
  intro v1 h s
  have s1 := s
  refine zF rfl (fa54_1 _ _) (zL rfl (by exact s.ld (k := 1) rfl ag3 rfl) ?_)
  refine WPt.op rfl rfl rfl (by simp only [isEff, Tryz.underlying35]) (o_conv rfl (by exact cvI Tryz.underlying3 Tryz.underlying35 (wrapU (by omega) (by omega)))) ?_
  refine WPt.any rfl rfl rfl rfl (OpR.call rfl rfl rfl rfl (varint_ct hT s (by omega) (by simp; omega))) ?_
  intro v2 h s
  refine zA rfl ?_
  refine WPt.nil ⟨⟨trivial, trivial, trivial, trivial, trivial, fun _ _ => .inr ⟨rfl, ⟨_, o_fa rfl (fa54_1 _ _)⟩, beqV _ rfl⟩, heaps2 (.inr ⟨rfl, ⟨_, o_load rfl (by exact s0.ld (k := 1) rfl ag3 rfl)⟩, beqV _ rfl⟩) (.inr ⟨rfl, ⟨_, o_load rfl (by exact s1.ld (k := 1) rfl ag3 rfl)⟩, beqV _ rfl⟩), fun _ _ => .inr ⟨rfl, ⟨_, o_conv rfl (by exact cvI Tryz.underlying3 Tryz.underlying35 (wrapU (by omega) (by omega)))⟩, beqV _ rfl⟩, trivial, trivial, trivial⟩, ?_⟩
  have hend : ∀ (h : H) (E : List (Nat × V)) (sv' : V), Sat h (bufA sv' (l ++ encC ⟨pg, ps, wh, bb⟩) :: .arr 4 ch cs :: chgA cs chs :: S) → Has E [(1, .ptr p1 0), (3, sv'), (37, ch), (38, .int .i64 chs.length), (39, .int .i64 ((i : Int) + 1))] → WP ⟨Tryz.prog, told⟩ 63 (.loop bdL) E h Q := by
   intro h E sv' s hE
   refine ih (i + 1) sv' _ h E Q (by omega) (by rw [List.length_append, hel]; omega) s hE (fun E' h' sv2 hl' s' => hx E' h' sv2 hl' ?_)
   rw [List.append_assoc] at s'
   exact s'
  have hlp := digits_len 9 pg
  have hlq := digits_len 9 ps
  refine zg rfl (za rfl (zv (zw (zg rfl (zf rfl (fa54_2 _ _) ?_)))))
  have hwc : wh = false ∨ wh = true := by cases wh <;> simp
  rcases hwc with hw | hw
  ·skip
   refine WPs.opF rfl rfl rfl (o_load rfl (by exact s.ld (k := 1) rfl ag4 rfl)) (hw) ?_
   refine zv (zj rfl (WP.skip ?_))
   have s0 := s
   have hv2 := beqView (s.buf (k := 0) rfl).view
   refine WP.drawn [some (0, 2), none, none, none, some (0, 3), some (0, 3), none, none] rfl (by kernel_rfl) (by kernel_rfl) ?_
   refine zM rfl (zM rfl (WPt.any rfl rfl rfl rfl (OpR.byteS (n := 0) rfl s rfl rfl rfl (by decide)) ?_))
   intro v3 h s
   have s := s.bringS [1, 1, 0]
   dsimp only [bringA, getA, delA] at s
   have s1 := s
   refine WPt.any rfl rfl rfl rfl (OpR.appB rfl (s.bringS [0, 1]) (rd_buf _ _) rfl rfl rfl rfl (by simp; omega)) ?_
   intro v4 h s
   have s := s.del 1
   dsimp only [delA, bringA] at s
   have s2 := s
   refine zF rfl (fa54_3 _ _) (zL rfl (by exact s.ld (k := 1) rfl ag32 rfl) ?_)
   refine WPt.any rfl rfl rfl rfl (OpR.call rfl rfl rfl rfl (text_ct hT (s.bringS [0, 1]) (rd_ro _ _) (by simp; omega))) ?_
   intro v5 h s
   dsimp only [delA, bringA] at s
   refine zA rfl ?_
   refine WPt.nil ⟨⟨fun _ _ => .inr ⟨rfl, ⟨_, o_move rfl⟩, hv2⟩, trivial, trivial, trivial, fun _ _ => .inr ⟨rfl, ⟨_, o_fa rfl (fa54_3 _ _)⟩, beqV _ rfl⟩, heaps3 (.inr ⟨rfl, ⟨_, o_load rfl (by exact s0.ld (k := 1) rfl ag32 rfl)⟩, u3⟩) (.inr ⟨rfl, ⟨_, o_load rfl (by exact s1.ld (k := 1) rfl ag32 rfl)⟩, u3⟩) (.inr ⟨rfl, ⟨_, o_load rfl (by exact s2.ld (k := 1) rfl ag32 rfl)⟩, u3⟩), trivial, trivial, trivial⟩, ?_⟩
   refine zr rfl (zb rfl (by exact bAdd (wrapS (by omega) (by omega))) ?_)
   refine zm rfl (zv ?_)
   refine hend _ _ v5 ?_ ?_
   ·rw [henc, hw]
    have s := (s.del 1).del 1
    dsimp only [delA] at s
    simpa [List.append_assoc] using s
   ·exact ⟨rfl, rfl, rfl, rfl, rfl, trivial⟩
  ·skip
   refine WPs.opT rfl rfl rfl (o_load rfl (by exact s.ld (k := 1) rfl ag4 rfl)) (hw) ?_
   refine zv (zi rfl (zr rfl (za rfl (zv ?_))))
   have s0 := s
   have hv2 := beqView (s.buf (k := 0) rfl).view
   refine WP.drawn [some (0, 2), none, none, none, some (0, 3), some (0, 3), none, none] rfl (by kernel_rfl) (by kernel_rfl) ?_
   refine zM rfl (zM rfl (WPt.any rfl rfl rfl rfl (OpR.byteS (n := 1) rfl s rfl rfl rfl (by decide)) ?_))
   intro v3 h s
   have s := s.bringS [1, 1, 0]
   dsimp only [bringA, getA, delA] at s
   have s1 := s
   refine WPt.any rfl rfl rfl rfl (OpR.appB rfl (s.bringS [0, 1]) (rd_buf _ _) rfl rfl rfl rfl (by simp; omega)) ?_
   intro v4 h s
   have s := s.del 1
   dsimp only [delA, bringA] at s
   have s2 := s
   refine zF rfl (fa54_3 _ _) (zL rfl (by exact s.ld (k := 1) rfl ag32 rfl) ?_)
   refine WPt.any rfl rfl rfl rfl (OpR.call rfl rfl rfl rfl (text_ct hT (s.bringS [0, 1]) (rd_ro _ _) (by simp; omega))) ?_
   intro v5 h s
   dsimp only [delA, bringA] at s
   refine zA rfl ?_
   refine WPt.nil ⟨⟨fun _ _ => .inr ⟨rfl, ⟨_, o_move rfl⟩, hv2⟩, trivial, trivial, trivial, fun _ _ => .inr ⟨rfl, ⟨_, o_fa rfl (fa54_3 _ _)⟩, beqV _ rfl⟩, heaps3 (.inr ⟨rfl, ⟨_, o_load rfl (by exact s0.ld (k := 1) rfl ag32 rfl)⟩, u3⟩) (.inr ⟨rfl, ⟨_, o_load rfl (by exact s1.ld (k := 1) rfl ag32 rfl)⟩, u3⟩) (.inr ⟨rfl, ⟨_, o_load rfl (by exact s2.ld (k := 1) rfl ag32 rfl)⟩, u3⟩), trivial, trivial, trivial⟩, ?_⟩
   refine zr rfl (zb rfl (by exact bAdd (wrapS (by omega) (by omega))) ?_)
   refine zm rfl (zv ?_)
   refine hend _ _ v5 ?_ ?_
   ·rw [henc, hw]
    have s := (s.del 1).del 1
    dsimp only [delA] at s
    simpa [List.append_assoc] using s
   ·exact ⟨rfl, rfl, rfl, rfl, rfl, trivial⟩
theorem wbody_ct (hT : W told) {kd : Nat} {tx pv nx : Nat} {dt ch : V} {cs : List V} {data : List Nat} {chs : List Chg} (s : Sat h (X :: .arr 4 ch cs :: chgA cs chs :: S)) (hX : Ent X (rdB dt data)) (hg : goodR kd chs = true) (hfit : chsFit chs)
  (htx : tx < 18446744073709551616) (hpv : pv < 18446744073709551616) (hnx : nx < 18446744073709551616) (hlen : data.length + (chs.flatMap encC).length ≤ 70368744177664) :
  Call ⟨Tryz.prog, told⟩ 121 [.agg (rcC kd tx pv nx dt ch)] h fun r h' => Sat h' (bufA r (bodyG kd tx pv nx data chs) :: X :: .arr 4 ch cs :: chgA cs chs :: S) := by
 have hch := s.arrV (j := 1) rfl
 have hdt := s.viewX (k := 0) rfl hX
 have hdb := beqView hdt
 have hst := rcC_st (kd := kd) (tx := tx) (pv := pv) (nx := nx) hdt.cells.2 hch.2.1
 have hk : 1 ≤ kd ∧ kd ≤ 9 := by simp [goodR] at hg; omega
 have hok : ∀ c ∈ chs, c.Ok := by
  simp only [goodR, Bool.and_eq_true, List.all_eq_true, decide_eq_true_eq] at hg
  exact hg.2
 have hm := hfit.1
 have h1 := digits_len 9 tx
 have h2 := digits_len 9 pv
 have h3 := digits_len 9 nx
 have h4 := digits_len 9 data.length
 have h5 := digits_len 9 chs.length
 refine Call.of_wp (hT.free _ rfl) Tryz.func121 rfl rfl (zg rfl (WPs.newS s rfl rfl rfl (o_box rfl hst) ?_))
 intro p1 h s
 dsimp only [V.cells] at s
 refine za rfl (zv (zg rfl (zf rfl (fa40_0 _ _) (zl rfl (by exact s.ld (k := 0) rfl ag3 rfl) ?_))))
 refine zo rfl (o_conv rfl (by exact cvI Tryz.underlying3 Tryz.underlying5 (wrapU8 (by omega) (by omega)))) ?_
 refine WPs.any rfl rfl rfl (OpR.byteS (n := kd) rfl s rfl rfl rfl (by omega)) ?_
 intro v3 h s
 refine za rfl (zv (zw (zg rfl (zf rfl (fa40_1 _ _) (zl rfl (by exact s.ld (k := 1) rfl ag35 rfl) ?_)))))
 refine zf rfl (fa40_2 _ _) (zl rfl (by exact s.ld (k := 1) rfl ag35 rfl) ?_)
 refine zf rfl (fa40_3 _ _) (zl rfl (by exact s.ld (k := 1) rfl ag35 rfl) ?_)
 refine zo rfl (o_build rfl (by rw [bv205]; rfl)) ?_
 refine zm rfl (zv (WP.block (WP.loop (zg rfl (WPs.opT rfl rfl rfl (o_bin rfl rfl bLss) (by decide) ?_)))))
 refine zv (zw (zi rfl (WP.skip (zw (WP.block (zg rfl (zo rfl (o_ix rfl rfl (r := .int .u64 (tx : Int)) (by simp only [indexV, Tryz.underlying205, sz35, partV, ag35]; rfl)) ?_)))))))
 refine za rfl (zv (zr rfl (zm rfl (zm rfl (WPs.call rfl rfl rfl rfl rfl rfl rfl (varint_ct hT s (by omega) (by simp only [List.length_append, List.length_cons, List.length_nil]; omega)) ?_)))))
 intro v3 h s
 refine za rfl (zv (zr rfl (zb rfl (by exact bAdd (wrapS (by omega) (by omega))) ?_)))
 refine zm rfl (zv (WP.loop (zg rfl (WPs.opT rfl rfl rfl (o_bin rfl rfl bLss) (by decide) ?_))))
 refine zv (zw (zi rfl (WP.skip (zw (WP.block (zg rfl (zo rfl (o_ix rfl rfl (r := .int .u64 (pv : Int)) (by simp only [indexV, Tryz.underlying205, sz35, partV, ag35]; rfl)) ?_)))))))
 refine za rfl (zv (zr rfl (zm rfl (zm rfl (WPs.call rfl rfl rfl rfl rfl rfl rfl (varint_ct hT s (by omega) (by simp only [List.length_append, List.length_cons, List.length_nil]; omega)) ?_)))))
 intro v3 h s
 refine za rfl (zv (zr rfl (zb rfl (by exact bAdd (wrapS (by omega) (by omega))) ?_)))
 refine zm rfl (zv (WP.loop (zg rfl (WPs.opT rfl rfl rfl (o_bin rfl rfl bLss) (by decide) ?_))))
 refine zv (zw (zi rfl (WP.skip (zw (WP.block (zg rfl (zo rfl (o_ix rfl rfl (r := .int .u64 (nx : Int)) (by simp only [indexV, Tryz.underlying205, sz35, partV, ag35]; rfl)) ?_)))))))
 refine za rfl (zv (zr rfl (zm rfl (zm rfl (WPs.call rfl rfl rfl rfl rfl rfl rfl (varint_ct hT s (by omega) (by simp only [List.length_append, List.length_cons, List.length_nil]; omega)) ?_)))))
 intro v3 h s
 refine za rfl (zv (zr rfl (zb rfl (by exact bAdd (wrapS (by omega) (by omega))) ?_)))
 refine zm rfl (zv (WP.loop (zg rfl (WPs.opF rfl rfl rfl (o_bin rfl rfl bLss) (by decide) ?_))))
 refine zv (zw (zj rfl (WP.exit (zw ?_))))
 dsimp only [List.cons_append, List.nil_append] at s
 have s0 := s
 have hb0 := beqView (s.buf (k := 0) rfl).view
 refine WP.drawn [none, none, none, none, some (0, 2), some (0, 2), some (0, 2), some (0, 2), none, none] rfl (by kernel_rfl) (by kernel_rfl) ?_
 refine zM rfl (zF rfl (fa40_4 _ _) (zL rfl (by exact s.ld (k := 1) rfl ag32 rfl) ?_))
 refine WPt.any rfl rfl rfl rfl (OpR.call rfl rfl rfl rfl (text_ct hT (s.bringS [0, 1]) hX (by simp only [List.length_append, List.length_cons, List.length_nil]; omega))) ?_
 intro v4 h s
 have s := s.bringS [0, 1, 0]
 dsimp only [List.cons_append, delA, bringA, getA] at s
 have s1 := s
 refine zF rfl (fa40_5 _ _) (zL rfl (by exact s.ld (k := 1) rfl ag38 rfl) ?_)
 refine zO rfl (o_len rfl rfl rfl (s.chgLen (j1 := 3) (j2 := 4) rfl rfl Tryz.underlying38)) (WPt.op rfl rfl rfl (by simp only [isEff, Tryz.underlying35]) (o_conv rfl (by exact cvI Tryz.underlying3 Tryz.underlying35 (wrapU (by omega) (by omega)))) ?_)
 refine WPt.any rfl rfl rfl rfl (OpR.call rfl rfl rfl rfl (varint_ct hT s (by omega) (by simp only [List.length_append, List.length_cons, List.length_nil]; omega))) ?_
 intro v5 h s
 dsimp only [List.cons_append] at s
 refine zA rfl ?_
 refine WPt.nil ⟨⟨trivial, trivial, trivial, trivial, fun _ _ => .inr ⟨rfl, ⟨_, o_fa rfl (fa40_5 _ _)⟩, beqV _ rfl⟩, heaps2 (.inr ⟨rfl, ⟨_, o_load rfl (by exact s0.ld (k := 1) rfl ag38 rfl)⟩, hch.2.2⟩) (.inr ⟨rfl, ⟨_, o_load rfl (by exact s1.ld (k := 1) rfl ag38 rfl)⟩, hch.2.2⟩), heaps2 (.inr ⟨rfl, ⟨_, o_len rfl rfl rfl (s0.chgLen (j1 := 3) (j2 := 4) rfl rfl Tryz.underlying38)⟩, beqV _ rfl⟩) (.inr ⟨rfl, ⟨_, o_len rfl rfl rfl (s1.chgLen (j1 := 3) (j2 := 4) rfl rfl Tryz.underlying38)⟩, beqV _ rfl⟩), fun _ _ => .inr ⟨rfl, ⟨_, o_conv rfl (by exact cvI Tryz.underlying3 Tryz.underlying35 (wrapU (by omega) (by omega)))⟩, beqV _ rfl⟩, trivial, trivial, trivial⟩, ?_⟩
 refine zw (zg rfl (zf rfl (fa40_5 _ _) (zl rfl (by exact s.ld (k := 1) rfl ag38 rfl) ?_)))
 refine zo rfl (o_len rfl rfl rfl (s.chgLen (j1 := 3) (j2 := 4) rfl rfl Tryz.underlying38)) (zm rfl (zv (WP.block ?_)))
 have s := s.bringS [0, 2, 2, 1]
 dsimp only [bringA, getA, delA] at s
 refine body_loop hT hok hfit chs.length 0 v5 _ _ _ _ (by omega) (by rw [List.drop_zero]; simp only [List.length_append, List.length_cons, List.length_nil]; omega) s ⟨rfl, rfl, rfl, rfl, rfl, trivial⟩ (fun E' h' sv' hE' s' => ?_)
 refine WP.has (F := [(3, sv')]) ⟨hE', trivial⟩ (zg rfl (zm rfl (za rfl (zv ?_))))
 refine WP.ret ⟨trivial, _, rfl, ?_⟩
 have s'' := (s'.bringS [0, 2, 0, 0]).del 4
 dsimp only [List.drop, List.cons_append, bringA, getA, delA] at s''
 simpa [bodyG, List.append_assoc] using s''
end
end Go.Proofs.YtconhghphklfjaaGreat.Am
