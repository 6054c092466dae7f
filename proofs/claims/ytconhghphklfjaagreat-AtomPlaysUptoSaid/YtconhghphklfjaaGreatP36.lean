/- Whatever groups are done and dropped, written out and checkpointed between, each page is as the groups that were done made it; the conditions are those of the given statement, for arguments that a machine can hold. Part 36 of 49. -/
import Derived.Test.YtconhghphklfjaaGreatP35
namespace Go.Proofs.YtconhghphklfjaaGreat.Am
open Go
def flagV : V → Bool
 | .agg [_, .bool b] => b
 | _ => true
def keepP (seen : List Nat) (e : Int × V × Nat) : Bool := !inL seen e.2.2 || flagV e.2.1
theorem leftV_keep {seen : List Nat} : ∀ {l : Ents}, leftV seen ((l.filter (keepP seen)).map mkE) = leftV seen (l.map mkE) := by
 intro l
 induction l with
 | nil => rfl
 | cons e l ih =>
  have hm : (mkE e).2.2 = e.2.2 := rfl
  rw [List.filter_cons]
  by_cases hs : inL seen e.2.2 = true
  ·by_cases hk : keepP seen e = true
   ·rw [if_pos hk]
    simp only [List.map_cons, leftV, hm, hs, cond_true]
    exact ih
   ·rw [if_neg hk]
    simp only [List.map_cons, leftV, hm, hs, cond_true]
    exact ih
  ·have hs : inL seen e.2.2 = false := by simpa using hs
   rw [if_pos (by simp [keepP, hs])]
   simp only [List.map_cons, leftV, hm, hs, cond_false]
   rw [ih]
theorem leftV_same {seen : List Nat} {b : Nat} : ∀ {l : Ents}, (∀ e ∈ l, e.2.2 ≠ b) → leftV (seen ++ [b]) (l.map mkE) = leftV seen (l.map mkE) := by
 intro l
 induction l with
 | nil => intro _; rfl
 | cons e l ih =>
  intro h
  have hm : (mkE e).2.2 = e.2.2 := rfl
  simp only [List.map_cons, leftV, hm, inL_app, beqF (Ne.symm (h e List.mem_cons_self)), Bool.or_false]
  rw [ih fun e' he' => h e' (List.mem_cons_of_mem _ he')]
theorem leftV_step {seen : List Nat} {c : Nat} : ∀ {l : Ents} {b : Nat} {e : Int × V × Nat}, bornR c b l → e ∈ l → inL seen e.2.2 = false → (leftV (seen ++ [e.2.2]) (l.map mkE)).length + 1 = (leftV seen (l.map mkE)).length := by
 intro l
 induction l with
 | nil => intro b e _ he; cases he
 | cons y l ih =>
  intro b e hb he hs
  have hm : (mkE y).2.2 = y.2.2 := rfl
  rcases List.mem_cons.1 he with rfl | he
  ·simp only [List.map_cons, leftV, hm, inL_app, hs, Nat.beq_refl, Bool.or_true, cond_true, cond_false, List.length_cons]
   rw [leftV_same fun e' he' => by have := bornR_ge hb.2.2 e' he'; omega]
  ·have := bornR_ge hb.2.2 e he
   have := ih hb.2.2 he hs
   simp only [List.map_cons, leftV, hm, inL_app, beqF (show e.2.2 ≠ y.2.2 by omega), Bool.or_false]
   cases inL seen y.2.2
   ·simp only [cond_false, List.length_cons]; omega
   ·simp only [cond_true]; omega
theorem keep_all {seen : List Nat} : ∀ {l : Ents}, (∀ e ∈ l, inL seen e.2.2 = true) → l.filter (keepP seen) = l.filter (fun e => flagV e.2.1) := by
 intro l h
 refine List.filter_congr fun e he => ?_
 simp only [keepP, h e he, Bool.not_true, Bool.false_or]
theorem keep_nil {l : Ents} : l.filter (keepP []) = l := List.filter_eq_self.2 fun e _ => rfl
theorem keep_yes {seen : List Nat} {l : Ents} {e : Int × V × Nat} {c b : Nat} (hb : bornR c b l) (he : e ∈ l) (hf : flagV e.2.1 = true) : l.filter (keepP (seen ++ [e.2.2])) = l.filter (keepP seen) := by
 refine List.filter_congr fun e' he' => ?_
 simp only [keepP, inL_app]
 by_cases h : e.2.2 = e'.2.2
 ·have h1 := entryOf_of hb he
  have h2 := entryOf_of hb he'
  rw [h, h2] at h1
  have h3 : e'.2.1 = e.2.1 := by injection h1 with h1; injection h1 with _ h1; rw [h1]
  rw [h3, hf]; simp
 ·rw [beqF h, Bool.or_false]
theorem delE_of {n : Int} : ∀ {l : Ents}, (l.map (·.1)).Nodup → delE n l = l.filter (fun e => decide (e.1 ≠ n)) := by
 intro l
 induction l with
 | nil => intro _; rfl
 | cons e l ih =>
  intro h
  simp only [List.map_cons, List.nodup_cons] at h
  simp only [delE, List.filter_cons]
  by_cases he : e.1 = n
  ·rw [if_pos he, if_neg (by simp [he])]
   symm
   refine List.filter_eq_self.2 fun e' he' => ?_
   simp only [ne_eq, decide_eq_true_eq]
   intro h2
   exact h.1 (by rw [he, ← h2]; exact List.mem_map_of_mem (f := (·.1)) he')
  ·rw [if_neg he, if_pos (by simp [he]), ih h.2]
theorem keep_no {seen : List Nat} {l : Ents} {e : Int × V × Nat} {c b : Nat} (hb : bornR c b l) (hn : (l.map (·.1)).Nodup) (he : e ∈ l) (hf : flagV e.2.1 = false) (hs : inL seen e.2.2 = false) :
  l.filter (keepP (seen ++ [e.2.2])) = delE e.1 (l.filter (keepP seen)) := by
 rw [delE_of (hn.sublist ((List.filter_sublist).map _)), List.filter_filter]
 refine List.filter_congr fun e' he' => ?_
 simp only [keepP, inL_app]
 have huniq : e.1 = e'.1 ↔ e.2.2 = e'.2.2 := by
  have key : ∀ {l : Ents} {b : Nat}, bornR c b l → (l.map (·.1)).Nodup → e ∈ l → e' ∈ l → (e.1 = e'.1 ↔ e.2.2 = e'.2.2) := by
   intro l
   induction l with
   | nil => intro b _ _ h; cases h
   | cons y l ih =>
    intro b hb hn h1 h2
    simp only [List.map_cons, List.nodup_cons] at hn
    rcases List.mem_cons.1 h1 with q1 | h3 <;> rcases List.mem_cons.1 h2 with q2 | h4
    ·rw [q1, q2]; simp
    ·subst q1
     have := bornR_ge hb.2.2 e' h4
     exact ⟨fun h => (hn.1 (h ▸ List.mem_map_of_mem (f := fun e : Int × V × Nat => e.1) h4)).elim, fun h => by omega⟩
    ·subst q2
     have := bornR_ge hb.2.2 e h3
     exact ⟨fun h => (hn.1 (h ▸ List.mem_map_of_mem (f := fun e : Int × V × Nat => e.1) h3)).elim, fun h => by omega⟩
    ·exact ih hb.2.2 hn.2 h3 h4
  exact key hb hn he he'
 by_cases h : e.2.2 = e'.2.2
 ·have h1 := entryOf_of hb he
  have h2 := entryOf_of hb he'
  rw [h, h2] at h1
  have h3 : e'.2.1 = e.2.1 := by injection h1 with h1; injection h1 with _ h1; rw [h1]
  rw [h3, hf, h, Nat.beq_refl]
  have := huniq.2 h
  simp [this]
 ·rw [beqF h, Bool.or_false]
  have : e'.1 ≠ e.1 := fun h2 => h (huniq.1 h2.symm)
  simp [this]
theorem bornR_filter {c : Nat} {f : Int × V × Nat → Bool} : ∀ {l : Ents} {b : Nat}, bornR c b l → bornR c b (l.filter f) := by
 intro l
 induction l with
 | nil => intro b h; exact h
 | cons e l ih =>
  intro b h
  simp only [List.filter_cons]
  split
  ·exact ⟨h.1, h.2.1, ih h.2.2⟩
  ·exact bornR_less (by have := h.1; omega) (ih h.2.2)
section
variable {told : Nat → Option (List V → H → Option (V × H))} {h : H} {S : List Assn} {X : Assn} {r k q p fid : Nat} {v x wh di : V} {l b : List Nat} {π : Pl} {m : List Fm} {μ : Lg} {δ : Dk}
theorem stRow {P : Program} {t : TypeId} {id n : Nat} {cs l : List V} (hg : T.get h.tr id = some (.cells n cs false)) (hs : sizeT P t = some l.length) (hl : cs.length = n) (hn : l.length = n) (hst : l.all storable = true) :
  storeV P h t (.ptr id 0) (.agg l) = some (h.put id (some (.cells n l false))) := by
 simp only [storeV, hs, V.cells, hst, Nat.beq_refl, Bool.and_self, cond_true, wrN, hg]
 rw [ble_iff.2 (by omega), cond_true, hn, Nat.beq_refl]
 rfl
theorem deleteS {P : Program} {t kt et : TypeId} {k : IntKind} {id c j : Nat} {l : Ents} {n : Int} {u : TypeId} (s : Sat h S) (hj : getA S j = some (mapI id l c)) (hu : P.underlying t = some (.map kt et)) (hk : P.underlying kt = some (.int k)) :
  ∃ v h', builtinV P h .delete #[t, u] [.map id, .int .i64 n] = some (v, h') ∧ (fun (_ : V) (h' : H) => h'.next = h.next ∧ (∀ i, i ≠ id → T.get h'.tr i = T.get h.tr i) ∧ Sat h' (setA S j (mapI id (delE n l) c))) v h' := by
 have hg := s.row hj
 have key : ∃ h', deleteV P h t (.map id) (.int .i64 n) = some h' ∧ h'.next = h.next ∧ (∀ i, i ≠ id → T.get h'.tr i = T.get h.tr i) ∧ Sat h' (setA S j (mapI id (delE n l) c)) := by
  obtain ⟨h', e1, e2⟩ := s.delete (n := n) hj hu hk
  refine ⟨h', e1, ?_⟩
  simp only [deleteV, hu, hk, hg, keyBeq, ikBeq_self, cond_true, findK_E] at e1
  cases hq : idxE n l 0 with
  | none =>
   rw [hq] at e1
   simp only [Option.some.injEq] at e1
   subst e1
   exact ⟨rfl, fun _ _ => rfl, e2⟩
  | some q =>
   obtain ⟨i, u⟩ := q
   rw [hq] at e1
   simp only [Option.some.injEq] at e1
   subst e1
   exact ⟨rfl, fun i hi => by rw [get_put, if_neg hi], e2⟩
 obtain ⟨h', e1, e2⟩ := key
 refine ⟨.tup [], h', ?_, e2⟩
 simp only [builtinV, Option.map_some, e1]
theorem keeps_ct (hT : W told) {n : Int} {a : Int} {b : Bool} : Call ⟨Tryz.prog, told⟩ 77 [.int .i64 n, .agg [.int .u64 a, .bool b]] h fun v h' => v = .bool (!b) ∧ h' = newRow h [.int .u64 a, .bool b] := by
 refine Call.of_wp (hT.free _ rfl) Tryz.func77 rfl rfl (zg rfl (zo rfl (o_box rfl rfl) (za rfl (zv (zg rfl (zf rfl (fa143_1 _ _) (zl rfl (ld1 (off := 1) (n := 2) (cs := [.int .u64 a, .bool b]) (st := false) ag4 (by simp only [newRow, V.cells, get_new, if_true]; rfl) rfl) ?_)))))))
 refine zo rfl (o_un rfl rfl) (za rfl (zv ?_))
 refine WP.ret ⟨trivial, _, rfl, ?_⟩
 exact ⟨rfl, rfl⟩
noncomputable def dfA : Code := pathC [0] ((Tryz.f76.body).getD .skip)
noncomputable def dfN : Code := pathC [1, 0, 0, 0] ((Tryz.f76.body).getD .skip)
noncomputable def dfD : Code := pathC [1, 0, 0, 1, 1, 0] ((Tryz.f76.body).getD .skip)
theorem df_shape : Tryz.f76.body = some (.seq dfA (.block 0 (.loop (.seq dfN (.seq (.cond (.tmp 9) .skip (.exit 0)) (.block 1 dfD)))))) := rfl
theorem df_next : ∃ id o₁ o₂, dfN = .region id #[o₁, o₂] false ∧ o₁.guard = none ∧ o₂.guard = none ∧ o₁.op = .next (.tmp 7) false ∧ o₁.dst = some 8 ∧ o₂.op = .extract (.tmp 8) 0 ∧ o₂.dst = some 9 := ⟨_, _, _, rfl, rfl, rfl, rfl, rfl, rfl, rfl⟩
abbrev dropFn : V := .fn (.func 77) [] []
def dfJ (h₀ : H) (it mid clock : Nat) (es : Ents) (S : List Assn) (j : Nat) (E : List (Nat × V)) (h : H) : Prop :=
 ∃ seen, Has E [(0, .map mid), (1, dropFn), (7, .ptr it 0)] ∧ j = (leftV seen (es.map mkE)).length ∧ h.next + 2 * j = h₀.next + 1 + 2 * es.length ∧ (∀ i, i < h₀.next → i ≠ mid → i ≠ it → T.get h.tr i = T.get h₀.tr i) ∧
  Sat h (pt it (.iter mid clock clock seen) :: mapI mid (es.filter (keepP seen)) clock :: S)
theorem del_loop {h₀ : H} {it mid clock : Nat} {es : Ents} (hit : it < h₀.next + 1) (hb : bornR clock 0 es) (hn : (es.map (·.1)).Nodup) (hv : ∀ e ∈ es, ∃ a b, e.2.1 = .agg [.int .u64 a, .bool b]) {j : Nat} {E : List (Nat × V)} (h0 : dfJ h₀ it mid clock es S j E h) :
  WPO CB 19 (.loop (.seq dfN (.seq (.cond (.tmp 9) .skip (.exit 0)) (.block 1 dfD)))) E h fun ex E' h' => ex = .exit 0 ∧ h'.next = h₀.next + 1 + 2 * es.length ∧ (∀ i, i < h₀.next → i ≠ mid → i ≠ it → T.get h'.tr i = T.get h₀.tr i) ∧
   ∃ seen, Sat h' (pt it (.iter mid clock clock seen) :: mapI mid (es.filter (fun e => flagV e.2.1)) clock :: S) := by
 refine WPO.loop (dfJ h₀ it mid clock es S) ?_ h0
 rintro j E h ⟨seen, hE, rfl, hnx, hs, s⟩
 have g1 := s.row (k := 0) rfl
 have g2 := s.row (k := 1) rfl
 have hb' := bornR_filter (f := keepP seen) hb
 obtain ⟨id, o₁, o₂, q0, q1, q2, q3, q4, q5, q6⟩ := df_next
 refine WPO.seq ?_
 rw [q0]
 have hL := next_at g1 (Nat.le_refl _) g2 hb'
 refine WPO.next mixedB toldB_ok q1 q2 q3 q4 q5 rfl q6 rfl rfl (r := it) ?_ hL fun q hq => ?_
 ·exact hE.2.2.1
 ·rcases next_all g1 (Nat.le_refl _) g2 hb' hL q hq with ⟨rfl, hall⟩ | ⟨e, he, hns, _, rfl⟩
  ·have hall' : ∀ e ∈ es, inL seen e.2.2 = true := fun e he => by
    cases hi : inL seen e.2.2 with
    | true => rfl
    | false =>
     have := hall e (List.mem_filter.2 ⟨he, by simp [keepP, hi]⟩)
     rw [hi] at this; cases this
   have hnil : leftV seen (es.map mkE) = [] := by
    rw [← leftV_keep]
    rw [next_at g1 (Nat.le_refl _) g2 hb'] at hL
    cases hl : leftV seen ((es.filter (keepP seen)).map mkE) with
    | nil => rfl
    | cons y l =>
     have := leftV_mem (e := y) (seen := seen) (l := (es.filter (keepP seen)).map mkE) (by rw [hl]; exact List.mem_cons_self)
     obtain ⟨e, he, rfl⟩ := List.mem_map.1 this.1
     have h2 := hall e he
     rw [show (mkE e).2.2 = e.2.2 from rfl, h2] at this
     cases this.2
   refine ⟨.bool false, [], rfl, ?_⟩
   refine WPO.seq (WPO.cond (t := false) rfl ?_)
   refine WPO.of mixedB toldB_ok (WP.exit ?_)
   refine ⟨rfl, ?_, hs, seen, ?_⟩
   ·rw [hnil] at hnx; simpa using hnx
   ·rw [← keep_all hall']; exact s
  ·refine ⟨.bool true, _, rfl, ?_⟩
   refine WPO.seq (WPO.cond (t := true) rfl ?_)
   refine WPO.of mixedB toldB_ok (WP.skip ?_)
   refine WPO.block (WPO.of mixedB toldB_ok ?_)
   have hee := (List.mem_filter.1 he).1
   have hstep := leftV_step hb hee hns
   have s := s.put (o' := .iter mid clock clock (seen ++ [e.2.2])) (k := 0) rfl
   have hs : ∀ i, i < h₀.next → i ≠ mid → i ≠ it → T.get (h.put it (some (.iter mid clock clock (seen ++ [e.2.2])))).tr i = T.get h₀.tr i := fun i h1 h2 h3 => by rw [get_put, if_neg h3]; exact hs i h1 h2 h3
   have hnx : (h.put it (some (.iter mid clock clock (seen ++ [e.2.2])))).next + 2 * (leftV seen (es.map mkE)).length = h₀.next + 1 + 2 * es.length := hnx
   have hle : h₀.next ≤ (h.put it (some (.iter mid clock clock (seen ++ [e.2.2])))).next := by
    have : (leftV seen (es.map mkE)).length ≤ (es.map mkE).length := by
     have : ∀ l : List (V × V × Nat), (leftV seen l).length ≤ l.length := by
      intro l
      induction l with
      | nil => exact Nat.le_refl _
      | cons y l ih => simp only [leftV]; cases inL seen y.2.2 <;> simp <;> omega
     exact this _
    simp only [List.length_map] at this
    omega
   generalize h.put it (some (.iter mid clock clock (seen ++ [e.2.2]))) = h' at s hs hnx hle
   dsimp only [setA] at s
   have g1 := s.row (k := 0) rfl
   have g2 := s.row (k := 1) rfl
   obtain ⟨a, b, hab⟩ := hv e hee
   have hent := entry_at g1 g2 hb' he
   rw [hab] at hent
   refine WP.has (F := [(0, .map mid), (1, dropFn), (7, .ptr it 0), (9, .bool true)]) ⟨hE.1, hE.2.1, hE.2.2.1, rfl, trivial⟩ (zg rfl (WPs.any rfl rfl rfl (OpR.entry rfl rfl hent) ?_))
   rintro v h ⟨rfl, rfl⟩
   refine ze rfl (ze rfl (zo rfl (o_alloc zt143) ?_))
   have s1 := s.new (.cells 2 [.int .u64 0, .bool false] false)
   have e1 := stRow (P := Tryz.prog) (t := 143) (l := [.int .u64 a, .bool b]) (s1.row (k := 0) rfl) sz143 rfl rfl rfl
   have s2 := s1.put (o' := .cells 2 [.int .u64 a, .bool b] false) (k := 0) rfl
   dsimp only [setA] at s2
   refine za rfl (WPs.op0 rfl rfl (o_store rfl rfl e1) (zv (zg rfl (zm rfl (zm rfl (zl rfl (s2.ldA (k := 0) rfl ag143 sz143) (WPs.call rfl rfl rfl rfl rfl rfl rfl (keeps_ct W.base (n := e.1) (a := a) (b := b)) ?_)))))))
   rintro v h'' ⟨rfl, rfl⟩
   have s3 := s2.new (.cells 2 [.int .u64 a, .bool b] false)
   have hs3 : ∀ i, i < h₀.next → i ≠ mid → i ≠ it → T.get (newRow ((h.new (.cells 2 [.int .u64 0, .bool false] false)).put h.next (some (.cells 2 [.int .u64 a, .bool b] false))) [.int .u64 a, .bool b]).tr i = T.get h₀.tr i := fun i h1 h2 h3 => by
    rw [newRow, get_new, if_neg (by show i ≠ h.next + 1; omega), get_put, if_neg (by omega), get_new, if_neg (by omega)]
    exact hs i h1 h2 h3
   refine zv ?_
   refine WP.split rfl ?_ ?_
   ·intro hq
    have hb0 : b = false := by simpa using hq
    subst hb0
    have s4 := (s3.bringS [2, 2])
    dsimp only [bringA, getA, delA] at s4
    refine zr rfl (zm rfl (zm rfl (WPs.any0 rfl rfl (OpR.builtin rfl rfl rfl (deleteS (n := e.1) s4 (j := 1) rfl Tryz.underlying138 Tryz.underlying3)) ?_)))
    rintro v h5 ⟨k1, k2, k3⟩
    refine zv ?_
    refine ⟨_, ?_, seen ++ [e.2.2], ⟨rfl, rfl, rfl, trivial⟩, rfl, ?_, ?_, ?_⟩
    ·omega
    ·rw [k1]
     show h.next + 1 + 1 + _ = _
     omega
    ·intro i h1 h2 h3
     rw [k2 i h2]
     exact hs3 i h1 h2 h3
    ·rw [keep_no hb hn hee (by rw [hab]; rfl) hns]
     exact (k3.del 3).del 2
   ·intro hq
    have hb0 : b = true := by simpa using hq
    subst hb0
    refine WP.skip ?_
    refine ⟨_, ?_, seen ++ [e.2.2], ⟨rfl, rfl, rfl, trivial⟩, rfl, ?_, hs3, ?_⟩
    ·omega
    ·show h.next + 1 + 1 + _ = _
     omega
    ·rw [keep_yes hb hee (by rw [hab]; rfl)]
     exact (s3.del 1).del 0
end
end Go.Proofs.YtconhghphklfjaaGreat.Am
namespace Go.Proofs.YtconhghphklfjaaGreat.Am
open Go
def pinDel (args : List V) (h : H) (r : V × H) : Prop := ∃ (mid : Nat) (es : Ents) (clock : Nat), args = [.map mid, dropFn] ∧ T.get h.tr mid = some (.map (es.map mkE) clock) ∧
 r = (.tup [], ⟨h.next + 1 + 2 * es.length, (h.put mid (some (.map ((es.filter (fun e => flagV e.2.1)).map mkE) clock))).tr⟩)
structure W2 (told : Nat → Option (List V → H → Option (V × H))) : Prop where
 w : W told
 sync : told 75 = some (toldIf Tryz.prog 75 pinSync)
 del : told 76 = some (toldIf Tryz.prog 76 pinDel)
theorem mkE_inj : ∀ {l m : Ents}, l.map mkE = m.map mkE → l = m := by
 intro l
 induction l with
 | nil => intro m h; cases m with
  | nil => rfl
  | cons _ _ => cases h
 | cons e l ih => intro m h; cases m with
  | nil => cases h
  | cons x m =>
   simp only [List.map_cons, List.cons.injEq] at h
   obtain ⟨h1, h2⟩ := h
   rw [ih h2]
   obtain ⟨e1, e2⟩ := e
   obtain ⟨x1, x2⟩ := x
   simp only [mkE, Prod.mk.injEq, V.int.injEq, true_and] at h1
   rw [h1.1, h1.2]
theorem entsR_drop {a b : PM} : ∀ {l : Ents} {m : List (Int × (Nat × Bool))}, (entsR (fun v x => .pu (v = .agg [.int .u64 (x.1 : Int), .bool x.2])) l m).p a b →
  (entsR (fun v x => .pu (v = .agg [.int .u64 (x.1 : Int), .bool x.2])) (l.filter fun e => flagV e.2.1) (m.filter fun e => e.2.2)).p a b := by
 intro l
 induction l with
 | nil => intro m h; cases m with
  | nil => exact h
  | cons _ _ => exact h.elim
 | cons e l ih => intro m h; cases m with
  | nil => exact h.elim
  | cons x m =>
   obtain ⟨⟨h1, h2⟩, h3⟩ := h
   have h4 : e.2.1 = .agg [.int .u64 (x.2.1 : Int), .bool x.2.2] := h2
   have hf : flagV e.2.1 = x.2.2 := by rw [h4]; rfl
   simp only [List.filter_cons, hf]
   split
   ·exact ⟨⟨h1, h2⟩, ih h3⟩
   ·exact ih h3
def Dk.syncF (δ : Dk) : Int × Dk := if δ.dead = true then (9, δ) else if δ.fuse = 0 then (9, δ.die) else (0, δ.cnt.sync)
section
variable {told : Nat → Option (List V → H → Option (V × H))} {h : H} {S : List Assn} {X : Assn} {r k q p fid : Nat} {v x wh di : V} {l b : List Nat} {π : Pl} {m : List (Int × (Nat × Bool))} {μ : Lg} {δ : Dk}
theorem some_row {a b : Obj} {id : Nat} (h1 : T.get h.tr id = some a) (h2 : T.get h.tr id = some b) : a = b := by rw [h1] at h2; exact Option.some.inj h2
theorem sync_ct (hT : W2 told) (s : Sat h (isDk p δ :: S)) (hδ : δ.Ok) (hk : ∀ e ∈ δ.now, 0 ≤ e.1 ∧ e.1 < δ.pages.length) : Call ⟨Tryz.prog, told⟩ 75 [.ptr p 0] h fun v h' => v = .int .i64 δ.syncF.1 ∧ Sat h' (isDk p δ.syncF.2 :: S) := by
 obtain ⟨r, h1, h2⟩ := sync_told s hδ hk
 obtain ⟨r, h3, h4⟩ := toldIf_do h1 h2
 refine ⟨r.1, r.2, CallDo.told hT.sync Tryz.func75 rfl h3, ?_⟩
 clear h1 h2 h3
 obtain ⟨p', cs, e1, gp', h4⟩ := h4
 injection e1 with e1 _
 injection e1 with e1 _
 subst e1
 obtain ⟨pg, wt, nw, lg, mk, tn, tl, ops, s1⟩ := isDk_iff.1 s
 have gp := s1.row (k := 0) rfl
 have e2 := some_row gp gp'
 injection e2 with _ e2 _
 subst e2
 rcases h4 with ⟨hd, rfl⟩ | ⟨hd, v1, h1, hdo, h4⟩
 ·have hd : δ.dead = true := by injection (Option.some.inj hd)
  simp only [Dk.syncF, if_pos hd]
  exact ⟨trivial, s⟩
 ·have hd : δ.dead = false := by injection (Option.some.inj hd)
  obtain ⟨v2, h2, hdo2, hR⟩ := counts_ct W.base s hδ.fuse
  obtain ⟨rfl, rfl⟩ := CallDo.det hdo hdo2
  simp only [Dk.syncF, hd, Bool.false_eq_true, if_false]
  rcases hR with ⟨h0, rfl, s2⟩ | ⟨h0, rfl, s2⟩
  ·rcases h4 with ⟨_, rfl⟩ | ⟨hv, _⟩
   ·rw [if_pos h0]; exact ⟨rfl, s2⟩
   ·cases hv
  ·rcases h4 with ⟨hv, _⟩ | ⟨_, cs, im, N, row, mid, es, clock, g0, c1, c3, g1, g2, rfl⟩
   ·cases hv
   ·rw [if_neg h0]
    refine ⟨rfl, ?_⟩
    obtain ⟨pg, wt, nw, lg, mk, tn, tl, ops, s3⟩ := isDk_iff.1 s2
    obtain ⟨im', row', rfl, s4⟩ := pagesA_iff.1 (s3.bringS [1])
    obtain ⟨mid', es', clock', rfl, hb, hn, s5⟩ := mapV_open.1 (s4.bringS [4])
    dsimp only [bringA, getA, delA] at s5
    have s6 := s5.bringS [4, 2, 0, 0, 0, 0]
    dsimp only [bringA, getA, delA] at s6
    have e3 := some_row (s6.row (k := 0) rfl) g0
    injection e3 with _ e3 _
    subst e3
    have c1 := Option.some.inj c1
    injection c1 with c1 _ c2 _
    subst c1; subst c2
    have c3 := Option.some.inj c3
    injection c3 with c3
    subst c3
    have e4 := some_row (s6.row (k := 1) rfl) g1
    injection e4 with _ e4 _
    subst e4
    have e5 := some_row (s6.row (k := 2) rfl) g2
    injection e5 with e5 e6
    have e5 := mkE_inj e5
    subst e5; subst e6
    have s7 := s6.new (.iter mid' clock' clock' [])
    have s8 := s7.put (o' := .cells δ.cnt.pages.length (allRow es' row') false) (k := 2) rfl
    dsimp only [setA] at s8
    have s9 := s8.put (o' := .cells 12 (List.set (dkC δ.cnt.room (.sl im' 0 δ.cnt.pages.length (.exact δ.cnt.pages.length)) wt (.map mid') lg δ.cnt.certain mk δ.cnt.fuse ops δ.cnt.dead tn tl) 2 .sl0) false) (k := 1) rfl
    dsimp only [setA] at s9
    have s10 := s9.put (o' := .map [] clock') (k := 3) rfl
    dsimp only [setA] at s10
    have s11 := s10.kill
    have s12 : Sat _ (each roO row' δ.cnt.pages :: entsR (fun v b => .rob v b) es' δ.cnt.now :: _) := s11.bringS [4, 3]
    have s13 := s12.two (C := each roO (allRow es' row') (laidP δ.cnt.now δ.cnt.pages)) (Pers.each Pers.roO _ _) (Pers.ents (fun _ _ => Pers.rob _ _) _ _) fun a b q1 q2 => allRow_each q2 (fun e he => by
     have := hδ.now e he
     rintro hq; rw [hq] at this; simp at this) q1
    dsimp only [bringA, getA, delA] at s13
    have s14 := (mapV_open (f := fun v b => .rob v b) (v := .map mid') (m := ([] : List (Int × List Nat)))).2 ⟨mid', [], clock', rfl, trivial, List.nodup_nil, ((s13.bringS [3]).addPu trivial).bringS [1, 0]⟩
    dsimp only [bringA, getA, delA] at s14
    have hlen : (laidP δ.cnt.now δ.cnt.pages).length = δ.cnt.pages.length := laidP_len
    have s15 := pagesA_iff.2 ⟨im', allRow es' row', rfl, by rw [hlen]; exact s14.bringS [3, 1]⟩
    dsimp only [bringA, getA, delA] at s15
    rw [hlen] at s15
    have s16 := (waitA_iff (v := .sl0) (m := [])).2 ⟨[], ((s15.del 3).addPu trivial).nilArr⟩
    dsimp only [bringA, getA, delA] at s16
    exact isDk_iff.2 ⟨_, _, _, _, _, _, _, ops, s16.bringS [3, 1, 0, 0]⟩
theorem del_told (s : Sat h (diA di m :: S)) : ∃ r, pinDel [di, dropFn] h r ∧ ∀ (c : Ctx) (w : World), Rel c h w → (∀ x ∈ [di, dropFn], wf c x) → CallOk Tryz.prog 76 [di, dropFn] c w r.1 r.2 := by
 obtain ⟨mid, es, clock, rfl, hb, hn, s1⟩ := mapV_open.1 s
 have gm := s1.row (k := 0) rfl
 obtain ⟨a, b, _, _, q3⟩ := s1.at (k := 1) rfl
 have hkey := entsR_keys q3
 have hv : ∀ e ∈ es, ∃ a b, e.2.1 = .agg [.int .u64 a, .bool b] := fun e he => by
  obtain ⟨x, _, k2⟩ := entsR_mem q3 e he
  exact ⟨_, _, k2⟩
 refine ⟨_, ⟨mid, es, clock, rfl, gm, rfl⟩, fun c w hr ha => ?_⟩
 refine CallOk.of_wpo (C := CB) (args := [.map mid, dropFn]) Tryz.func76 df_shape (show 2 ≤ Tryz.f76.ntmps by decide) ?_ hr ha
 refine WPO.seq (WPO.of mixedB toldB_ok ?_)
 have s := s1
 refine zr rfl (zm rfl (WPs.any rfl rfl rfl (OpR.range rfl rfl (show rangeV Tryz.prog h 138 (.map mid) = some (.ptr h.next 0, h.new (.iter mid clock clock [])) by simp only [rangeV, Tryz.underlying138, gm])) ?_))
 rintro v h' ⟨rfl, rfl⟩
 refine zv ?_
 have s7 := s.new (.iter mid clock clock [])
 refine WPO.block ((del_loop (h₀ := h) (es := es) (it := h.next) (mid := mid) (clock := clock) (S := entsR (fun v (x : Nat × Bool) => .pu (v = .agg [.int .u64 (x.1 : Int), .bool x.2])) es m :: S) (by omega) hb (by rw [hkey]; exact hn) hv ⟨[], ⟨rfl, rfl, rfl, trivial⟩, rfl, ?_, ?_, ?_⟩).mono ?_)
 ·have : (leftV [] (es.map mkE)).length = es.length := by
   have : ∀ l : List (V × V × Nat), leftV [] l = l := by
    intro l
    induction l with
    | nil => rfl
    | cons y l ih => simp only [leftV, inL, cond_false, ih]
   rw [this, List.length_map]
  rw [this]
  rfl
 ·intro i h1 h2 h3
  rw [get_new, if_neg h3]
 ·rw [keep_nil]; exact s7
 ·rintro ex E' h' ⟨rfl, hnx, hs, seen, s'⟩
  refine ⟨trivial, rfl, hnx.symm, fun id o ho => ?_⟩
  rw [get_put] at ho
  by_cases h1 : id = mid
  ·rw [if_pos h1] at ho; rw [h1, s'.row (k := 1) rfl]; exact ho
  ·rw [if_neg h1] at ho
   have := s.wf id o ho
   rw [hs id this h1 (by omega)]
   exact ho
theorem del_ct (hT : W2 told) (s : Sat h (diA di m :: S)) : Call ⟨Tryz.prog, told⟩ 76 [di, dropFn] h fun v h' => v = .tup [] ∧ Sat h' (diA di (m.filter fun e => e.2.2) :: S) := by
 obtain ⟨r, h1, h2⟩ := del_told s
 obtain ⟨r, h3, h4⟩ := toldIf_do h1 h2
 refine ⟨r.1, r.2, CallDo.told hT.del Tryz.func76 rfl h3, ?_⟩
 clear h1 h2 h3
 obtain ⟨mid, es, clock, e1, g1, rfl⟩ := h4
 injection e1 with e1 _
 subst e1
 refine ⟨rfl, ?_⟩
 obtain ⟨mid', es', clock', e2, hb, hn, s1⟩ := mapV_open.1 s
 injection e2 with e2
 subst e2
 have e3 := some_row (s1.row (k := 0) rfl) g1
 injection e3 with e3 e4
 have e3 := mkE_inj e3
 subst e3; subst e4
 have s2 : Sat h (entsR _ es' m :: mapI mid es' clock' :: S) := s1.bringS [1]
 have s3 := s2.ent (B := entsR (fun v x => .pu (v = .agg [.int .u64 (x.1 : Int), .bool x.2])) (es'.filter fun e => flagV e.2.1) (m.filter fun e => e.2.2)) fun a b q => entsR_drop q
 have s4 := s3.put (o' := .map ((es'.filter fun e => flagV e.2.1).map mkE) clock') (k := 1) rfl
 dsimp only [setA] at s4
 have s5 := s4.keep (k := 1 + 2 * es'.length) (h' := ⟨h.next + 1 + 2 * es'.length, (h.put mid (some (.map ((es'.filter fun e => flagV e.2.1).map mkE) clock'))).tr⟩)
  ⟨fun id o ho => by have h1 := s4.wf id o ho; have h2 : (h.put mid (some (.map ((es'.filter fun e => flagV e.2.1).map mkE) clock'))).next = h.next := rfl; show id < h.next + 1 + 2 * es'.length; omega,
   by show h.next ≤ h.next + 1 + 2 * es'.length; omega, by show h.next + 1 + 2 * es'.length ≤ h.next + (1 + 2 * es'.length); omega, fun _ _ _ => rfl⟩
 exact mapV_open.2 ⟨mid, es'.filter (fun e => flagV e.2.1), clock', rfl, bornR_filter hb, hn.sublist ((List.filter_sublist).map _), s5.bringS [1, 0]⟩
def psyncF (π : Pl) (δ : Dk) : Int × Pl × Dk := if δ.syncF.1 ≠ 0 then (δ.syncF.1, π, δ.syncF.2) else (0, { π with dirty := π.dirty.filter fun e => e.2.2 }, δ.syncF.2)
theorem psync_ct (hT : W2 told) (s : Sat h (isPl r p q π :: isDk p δ :: S)) (hδ : δ.Ok) (hk : ∀ e ∈ δ.now, 0 ≤ e.1 ∧ e.1 < δ.pages.length) :
  Call ⟨Tryz.prog, told⟩ 39 [.ptr r 0] h fun v h' => v = .int .i64 (psyncF π δ).1 ∧ Sat h' (isPl r p q (psyncF π δ).2.1 :: isDk p (psyncF π δ).2.2 :: S) := by
 obtain ⟨fid, wh, di, s⟩ := isPl_iff.1 s
 refine Call.of_wp (hT.w.free _ rfl) Tryz.func39 rfl rfl (zg rfl (za rfl (zv (zw (zg rfl (zm rfl (zn rfl (zf rfl (fa140_0 _ _) (zl rfl (by exact s.ld (k := 0) rfl ag23 rfl) ?_)))))))))
 refine WPs.call rfl rfl rfl rfl rfl rfl rfl (sync_ct hT (s.bringS [4]) hδ hk) ?_
 rintro v h ⟨rfl, s⟩
 dsimp only [bringA, getA, delA] at s
 refine za rfl (zv (zg rfl (zm rfl ?_)))
 by_cases he : δ.syncF.1 = 0
 ·skip
  refine WPs.opF rfl rfl rfl (o_bin rfl rfl bNeq) (by simp; exact he) ?_
  refine zv (zj rfl (WP.skip (zg rfl (zm rfl (zn rfl (zf rfl (fa140_4 _ _) (zl rfl (by exact s.ld (k := 1) rfl ag138 rfl) ?_)))))))
  refine WPs.call rfl rfl rfl rfl rfl rfl rfl (del_ct hT (s.bringS [4])) ?_
  rintro v h ⟨rfl, s⟩
  dsimp only [bringA, getA, delA] at s
  refine zv (zg rfl (za rfl (zv ?_)))
  refine WP.ret ⟨trivial, _, rfl, ?_⟩
  rw [psyncF, if_neg (by simpa using he)]
  exact ⟨rfl, (isPl_iff.2 ⟨fid, wh, di, s.bringS [2, 2, 2, 0, 0]⟩)⟩
 ·skip
  refine WPs.opT rfl rfl rfl (o_bin rfl rfl bNeq) (by simp; exact he) ?_
  refine zv (zi rfl (zg rfl (zm rfl (za rfl (zv ?_)))))
  refine WP.ret ⟨trivial, _, rfl, ?_⟩
  rw [psyncF, if_pos he]
  exact ⟨rfl, (isPl_iff.2 ⟨fid, wh, di, s.bringS [1, 1, 1, 1, 0]⟩)⟩
end
end Go.Proofs.YtconhghphklfjaaGreat.Am
