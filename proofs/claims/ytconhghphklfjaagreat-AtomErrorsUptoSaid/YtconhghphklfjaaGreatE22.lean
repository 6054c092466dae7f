/- A group that is over or open, pages that are none and records that may not be are refused, and a record that was done is read back; the conditions are those of the given statement, for arguments that a machine can hold. Part 22 of 44. -/
import Derived.Test.YtconhghphklfjaaGreatE12
import Derived.Shelf.SlIterI.Sorted
namespace Go.Proofs.YtconhghphklfjaaGreat.Am
open Go Go.Maps Go.RowKit
def keyInts : List (V × V × Nat) → Option (List Int)
 | [] => some []
 | (.int .i64 n, _, _) :: l => cond (Lit.int .i64 n).wf (match keyInts l with
  | some m => some (n :: m)
  | none => none) none
 | _ => none
def bornUp (clock : Nat) : Nat → List (V × V × Nat) → Bool
 | _, [] => true
 | b, (_, _, x) :: l => cond (Nat.ble b x && Nat.blt x clock) (bornUp clock (x + 1) l) false
def insI (x : Int) : List Int → List Int
 | [] => [x]
 | y :: l => cond (decide (x ≤ y)) (x :: y :: l) (y :: insI x l)
def srtI : List Int → List Int
 | [] => []
 | x :: l => insI x (srtI l)
def risesI : List Int → Bool
 | [] => true
 | x :: l => l.all (fun y => decide (x < y)) && risesI l
def intsV (l : List Int) : List V := l.map (V.int .i64)
noncomputable def toldSorted (gs : List Nat) : List V → H → Option (V × H)
 | [.fn (.func g) [] [.ptr b 0]], h => match h.tr.get b with
  | some (.cells n [.map id] false) => match h.tr.get id with
   | some (.map es clock) => cond (Nat.beq n 1 && hasN gs g && bornUp clock 0 es && Nat.ble es.length 1048576) (match keyInts es with
    | some ks => cond (risesI (srtI ks)) (match ks with
     | [] => some (.sl0, h)
     | _ => some (.sl h.next 0 ks.length (.rest 1 0), newRow h (intsV (srtI ks)))) none
    | none => none) none
   | _ => none
  | _ => none
 | _, _ => none
theorem insI_perm (x : Int) : ∀ l : List Int, (insI x l).Perm (x :: l)
 | [] => .refl _
 | y :: l => by
  simp only [insI]
  cases decide (x ≤ y) with
  | true => exact .refl _
  | false => exact ((insI_perm x l).cons y).trans (.swap x y l)
theorem srtI_perm : ∀ l : List Int, (srtI l).Perm l
 | [] => .refl _
 | x :: l => (insI_perm x _).trans ((srtI_perm l).cons x)
theorem risesI_ok : ∀ l : List Int, risesI l = true → l.Pairwise (· < ·)
 | [], _ => .nil
 | x :: l, h => by
  simp only [risesI, Bool.and_eq_true, List.all_eq_true, decide_eq_true_eq] at h
  exact List.pairwise_cons.2 ⟨h.1, risesI_ok l h.2⟩
theorem sortedI_unique : ∀ {l m : List Int}, l.Perm m → l.Pairwise (· ≤ ·) → m.Pairwise (· ≤ ·) → l = m
 | [], m, hp, _, _ => hp.nil_eq
 | a :: r, [], hp, _, _ => absurd hp.symm.nil_eq (by simp)
 | a :: r, b :: s, hp, h1, h2 => by
  obtain ⟨a1, a2⟩ := List.pairwise_cons.1 h1
  obtain ⟨b1, b2⟩ := List.pairwise_cons.1 h2
  have hab : a = b := by
   have ha : a ∈ b :: s := hp.mem_iff.1 (by simp)
   have hb : b ∈ a :: r := hp.mem_iff.2 (by simp)
   have l1 : b ≤ a := by
    rcases List.mem_cons.1 ha with h | h
    ·omega
    ·exact b1 a h
   have l2 : a ≤ b := by
    rcases List.mem_cons.1 hb with h | h
    ·omega
    ·exact a1 b h
   omega
  subst hab
  rw [sortedI_unique (List.Perm.cons_inv hp) a2 b2]
theorem bornUp_ok {clock : Nat} : ∀ (l : List (V × V × Nat)) (b : Nat), bornUp clock b l = true → (∀ x ∈ l, b ≤ x.2.2 ∧ x.2.2 < clock) ∧ (l.map (·.2.2)).Nodup
 | [], _, _ => ⟨by simp, by simp⟩
 | (k, v, x) :: l, b, h => by
  simp only [bornUp] at h
  cases hq : (Nat.ble b x && Nat.blt x clock) with
  | false => rw [hq] at h; cases h
  | true =>
   rw [hq, cond_true] at h
   simp only [Bool.and_eq_true, ble_iff, blt_iff] at hq
   obtain ⟨i1, i2⟩ := bornUp_ok l (x + 1) h
   refine ⟨fun y hy => ?_, ?_⟩
   ·rcases List.mem_cons.1 hy with rfl | hy
    ·exact hq
    ·have := i1 y hy; omega
   ·simp only [List.map_cons, List.nodup_cons, List.mem_map, not_exists, not_and]
    exact ⟨fun y hy e => by have := i1 y hy; omega, i2⟩
theorem keyInts_ok {c : Ctx} : ∀ (l : List (V × V × Nat)) (ks : List Int), keyInts l = some ks → l.map (fun x => conc c x.1) = ks.map (Value.int .i64) ∧ ∀ n ∈ ks, (Lit.int .i64 n).wf = true
 | [], ks, h => by simp [keyInts] at h; subst h; simp
 | (k, v, b) :: l, ks, h => by
  unfold keyInts at h
  split at h
  ·rename_i he; cases he
  ·rename_i n v' b' l' he
   simp only [List.cons.injEq, Prod.mk.injEq] at he
   obtain ⟨⟨rfl, rfl, rfl⟩, rfl⟩ := he
   cases hw : (Lit.int .i64 n).wf with
   | false => simp [hw] at h
   | true =>
    cases hm : keyInts l with
    | none => simp [hw, hm] at h
    | some m =>
     simp [hw, hm] at h
     subst h
     obtain ⟨i1, i2⟩ := keyInts_ok (c := c) l m hm
     refine ⟨by simp [conc, i1], fun x hx => ?_⟩
     rcases List.mem_cons.1 hx with rfl | hx
     ·exact hw
     ·exact i2 x hx
  ·cases h
section
variable {c : Ctx} {σ : H} {w w' : World}
theorem Rel.below (h : Rel c σ w) (hb : Below w.heap.size w w') : Rel c σ w' ∧ Stp c w c w' := by
 have rows : ∀ b, b < w.heap.size → rowSize w' b = rowSize w b := fun b hlt => by unfold rowSize; rw [hb.block b hlt]
 refine ⟨⟨h.next, h.live, fun id hi => Nat.lt_of_lt_of_le (h.blk id hi) hb.size, fun id hi => by rw [rows _ (h.blk id hi)]; exact h.zz id hi, h.inj,
  fun id o ho => (h.obj id o ho).later (Ext.refl c) (h.live id o ho) (hb.block _ (h.blk id (h.live id o ho))), h.one, h.fx⟩,
  ⟨Ext.refl c, hb.size, rows, fun b hlt _ => hb.block b hlt, fun id h1 h2 => by omega, hb.os, hb.output⟩⟩
theorem Rel.take {b : Nat} {cs : List V} {C : Array Value} {T : TypeId} (h : Rel c σ w) (hb : b < w.heap.size) (hr : ∀ id, id < c.N → (c.ρ id).1 ≠ b) (hcs : ∀ v ∈ cs, wf c v ∧ storable v = true)
  (hg : w.heap[b]? = some (.cells C T (0, 0))) (hC : C.toList.take cs.length = cs.map (conc c)) : Rel (c.grow b 0 C.size) (Am.newRow σ cs) w := by
 have e := ext_grow_at hr 0 C.size
 have hN : (c.grow b 0 C.size).N = c.N + 1 := rfl
 have hle : cs.length ≤ C.size := by
  have := congrArg List.length hC
  simp at this
  omega
 have key : ∀ i o, (Am.newRow σ cs).tr.get i = some o → (i = c.N ∧ o = .cells cs.length cs false) ∨ (i < c.N ∧ σ.tr.get i = some o) := by
  intro i o hi
  rw [Am.newRow, get_new, h.next] at hi
  by_cases h1 : i = c.N
  ·simp [h1] at hi; exact .inl ⟨h1, hi.symm⟩
  ·simp [h1] at hi; exact .inr ⟨h.live i o hi, hi⟩
 refine ⟨by simp [Am.newRow, H.new, Ctx.grow, h.next], fun i o hi => ?_, fun i hi => ?_, fun i hi => ?_, fun i j o o' hi hj he => ?_, fun i o hi => ?_, fun i cs₁ st₁ hi hx => ?_, fun i o hi hx => ?_⟩
 ·rw [hN]; rcases key i o hi with ⟨h1, _⟩ | ⟨h1, _⟩ <;> omega
 ·rw [hN] at hi
  by_cases h1 : i = c.N
  ·subst h1; rw [grow_ρ_new]; exact hb
  ·rw [grow_ρ_old c _ _ _ (by omega)]; exact h.blk i (by omega)
 ·rw [hN] at hi
  by_cases h1 : i = c.N
  ·subst h1; rw [grow_ρ_new]; simp [Ctx.grow, rowSize, hg]
  ·rw [grow_ρ_old c _ _ _ (by omega), ← h.zz i (by omega)]; simp [Ctx.grow, hr i (by omega)]
 ·rcases key i o hi with ⟨a1, _⟩ | ⟨a1, a2⟩ <;> rcases key j o' hj with ⟨b1, _⟩ | ⟨b1, b2⟩
  ·exact .inl (by omega)
  ·subst a1; rw [grow_ρ_new, grow_ρ_old c _ _ _ b1] at he; exact absurd he.symm (hr j b1)
  ·subst b1; rw [grow_ρ_new, grow_ρ_old c _ _ _ a1] at he; exact absurd he (hr i a1)
  ·rw [grow_ρ_old c _ _ _ a1, grow_ρ_old c _ _ _ b1] at he; rw [grow_X_old c _ _ _ a1, grow_X_old c _ _ _ b1]; exact h.inj i j _ _ a2 b2 he
 ·rcases key i o hi with ⟨rfl, rfl⟩ | ⟨a1, a2⟩
  ·refine ⟨rfl, fun v hv => ⟨(conc_ext e v (hcs v hv).1).2, (hcs v hv).2⟩, C, T, (0, 0), by rw [grow_ρ_new]; exact hg, by rw [grow_ρ_new]; simpa using hle, fun j v hj => ?_, rfl⟩
   rw [grow_ρ_new, (conc_ext e v (hcs v (List.mem_of_getElem? hj)).1).1]
   have hjl : j < cs.length := (List.getElem?_eq_some_iff.1 hj).1
   have h1 : (C.toList.take cs.length)[j]? = some (conc c v) := by rw [hC]; simp [hj]
   rw [List.getElem?_take, if_pos hjl, Array.getElem?_toList] at h1
   simpa using h1
  ·exact (h.obj i o a2).later e a1 rfl
 ·rcases key i _ hi with ⟨rfl, _⟩ | ⟨a1, a2⟩
  ·rw [grow_ρ_new]
  ·rw [grow_X_old c _ _ _ a1] at hx
   rw [grow_ρ_old c _ _ _ a1]; exact h.one i cs₁ st₁ a2 hx
 ·rcases key i o hi with ⟨rfl, _⟩ | ⟨a1, a2⟩
  ·rw [grow_X_new] at hx; cases hx
  ·rw [grow_X_old c _ _ _ a1] at hx; exact h.fx i o a2 hx
def noElem (_ : Value) : Option (DataW Unit × List MemPlace) := some (.nil, [])
def SortsKeys (P : Program) (f K : Nat) (gs : List Nat) : Prop := ∀ g ∈ gs, ∀ (Bm b nn : Nat) (D0 : DataW Unit) (w : World), Bm < w.heap.size → w.cell? ⟨Bm, 0, none⟩ = some (.map (some b)) →
 w.ownsMap P K noElem b nn D0 → Maps.size D0 ≤ maxLen → Maps.size D0 * 8 ≤ 140737488355328 →
 Calls P f #[.func (.func g) #[] #[.pointer (some ⟨Bm, 0, none⟩)]] w fun e w' => ∃ (v : Value) (ss : List Int), e = .returned v ∧ ss.Perm (intKeys D0) ∧
  w'.ownsRow w.heap.size K 1 v ss.length ((ss.mergeSort (fun x y => decide (x ≤ y))).map encZ) ∧ (v = .slice none 0 0 ↔ ss = []) ∧ Below w.heap.size w w'
theorem toldSorted_ok {P : Program} {f K : Nat} {gs : List Nat} (hK : P.underlying K = some (.int .i64)) (hS : SortsKeys P f K gs) {args : List V} {v : V} {σ' : H} (hr : toldSorted gs args σ = some (v, σ'))
  (h : Rel c σ w) : CallOk P f args c w v σ' := by
 unfold toldSorted at hr
 split at hr
 ·rename_i g b
  split at hr
  ·rename_i n id hgb
   split at hr
   ·rename_i es clock hgm
    cases hq : (Nat.beq n 1 && hasN gs g && bornUp clock 0 es && Nat.ble es.length 1048576) with
    | false => simp [hq] at hr
    | true =>
     rw [hq, cond_true] at hr
     simp only [Bool.and_eq_true, beq_iff, ble_iff, hasN_iff] at hq
     obtain ⟨⟨⟨q1, q2⟩, q3⟩, q4⟩ := hq
     subst q1
     cases hk : keyInts es with
     | none => simp [hk] at hr
     | some ks =>
      simp only [hk] at hr
      cases hrise : risesI (srtI ks) with
      | false => simp [hrise] at hr
      | true =>
       simp only [hrise, cond_true] at hr
       obtain ⟨k1, k2⟩ := keyInts_ok (c := c) es ks hk
       obtain ⟨b1, b2⟩ := bornUp_ok es 0 q3
       have hlen : ks.length = es.length := by simpa using (congrArg List.length k1).symm
       have hlt := risesI_ok _ hrise
       have hnd : ks.Nodup := (srtI_perm ks).nodup_iff.1 (hlt.imp fun {a b} hab => by omega)
       have hbase := h.one b _ _ hgb (h.notX hgb (by intro _ _ he; cases he))
       have hcell := cell_of h hgb (j := 0) (v := .map id) rfl
       have hadr : adr c b 0 = ⟨(c.ρ b).1, 0, none⟩ := by simp [adr, hbase]
       rw [hadr] at hcell
       have hcell' : w.cell? ⟨(c.ρ b).1, 0, none⟩ = some (.map (some (c.ρ id).1)) := by simpa [conc] using hcell
       obtain ⟨m1, m2⟩ := h.obj id _ hgm
       have hread : ∀ x ∈ es, ∃ n, n ∈ ks ∧ (concE c x).key = .int .i64 n := fun x hx => by
        have : conc c x.1 ∈ ks.map (Value.int .i64) := by rw [← k1]; exact List.mem_map.2 ⟨x, hx, rfl⟩
        obtain ⟨n, hn, he⟩ := List.mem_map.1 this
        exact ⟨n, hn, he.symm⟩
       have hrd : ∀ x ∈ es, ∀ n, (concE c x).key = .int .i64 n → n ∈ ks → WideElems.rd P K noElem (concE c x) = some (.int .i64 n, .nil) := fun x hx n hn hm => by
        simp [WideElems.rd, hn, Maps.keyOf_int_mk hK (k2 n hm), noElem]
       have hown : w.ownsMap P K noElem (c.ρ id).1 es.length (.map (((es.map (concE c)).toArray.toList.map (WideElems.rg P K noElem)).foldr DataW.insert [])) := by
        refine ⟨(es.map (concE c)).toArray, clock, m2, ⟨by simp [maxLen]; omega, ⟨fun x hx => ?_, ?_, ?_⟩, fun x hx => ?_⟩, by simp, rfl⟩
        ·simp only [List.mem_map] at hx
         obtain ⟨y, hy, rfl⟩ := hx
         exact (b1 y hy).2
        ·simpa [concE, Function.comp_def] using b2
        ·have : (es.map (concE c)).toArray.toList.map (·.key) = ks.map (Value.int .i64) := by rw [← k1]; simp [concE, Function.comp_def]
         rw [this]
         exact List.pairwise_map.2 (hnd.imp fun {a b} hne e => hne (by simpa using e))
        ·simp only [List.mem_map] at hx
         obtain ⟨y, hy, rfl⟩ := hx
         obtain ⟨n, hn, he⟩ := hread y hy
         exact ⟨_, hrd y hy n he hn⟩
       have hsz : Maps.size (H := Unit) (.map (((es.map (concE c)).toArray.toList.map (WideElems.rg P K noElem)).foldr DataW.insert [])) = es.length := by
        rw [Maps.size_eq, (WideShapes.sorted_perm _).length_eq]; simp
       have hkeys : (intKeys (H := Unit) (.map (((es.map (concE c)).toArray.toList.map (WideElems.rg P K noElem)).foldr DataW.insert []))).Perm ks := by
        refine ((WideShapes.sorted_perm _).map _).trans ?_
        have : (((es.map (concE c)).toArray.toList.map (WideElems.rg P K noElem)).map fun p => intOf p.1) = ks := by
         have hpt : ∀ x ∈ es, Value.int .i64 (intOf (WideElems.rg P K noElem (concE c x)).1) = conc c x.1 := fun x hx => by
          obtain ⟨n, hn, he⟩ := hread x hx
          rw [WideElems.rg_of (hrd x hx n he hn)]
          exact he.symm
         have h1 : ((((es.map (concE c)).toArray.toList.map (WideElems.rg P K noElem)).map fun p => intOf p.1).map (Value.int .i64)) = ks.map (Value.int .i64) := by
          rw [← k1]
          simp only [List.map_map]
          exact List.map_congr_left fun x hx => hpt x hx
         exact List.map_inj_right (fun x y e => by simpa using e) |>.1 h1
        rw [this]
       have hcall := hS g q2 (c.ρ b).1 (c.ρ id).1 es.length _ w (h.blk b (h.live b _ hgb)) hcell' hown (by rw [hsz]; simp [maxLen]; omega) (by rw [hsz]; omega)
       have hargs : ([V.fn (.func g) [] [.ptr b 0]].map (conc c)).toArray = #[.func (.func g) #[] #[.pointer (some ⟨(c.ρ b).1, 0, none⟩)]] := by simp [conc, concL, hbase]
       unfold CallOk
       rw [hargs]
       refine hcall.mono ?_
       rintro e w' ⟨rv, ss, rfl, s1, s2, s3, s4⟩
       obtain ⟨g1, g2⟩ := h.below s4
       have hss : ss.Perm ks := s1.trans hkeys
       have hms : ss.mergeSort (fun x y => decide (x ≤ y)) = srtI ks := by
        refine sortedI_unique (((List.mergeSort_perm ss _).trans hss).trans (srtI_perm ks).symm) ?_ (hlt.imp fun {a b} hab => by omega)
        have := List.pairwise_mergeSort (le := fun x y : Int => decide (x ≤ y)) (fun a b c h1 h2 => by simp at h1 h2 ⊢; omega) (fun a b => by simp; omega) ss
        exact this.imp fun {a b} hab => by simpa using hab
       rw [hms] at s2
       split at hr
       ·-- no key
        have hnil : ss = [] := by simpa using hss
        have hv := s3.2 hnil
        simp only [Option.some.injEq, Prod.mk.injEq] at hr
        obtain ⟨rfl, rfl⟩ := hr
        exact ⟨c, by rw [hv]; simp [conc], by simp [wf], g1, g2⟩
       ·rename_i hne
        simp only [Option.some.injEq, Prod.mk.injEq] at hr
        obtain ⟨rfl, rfl⟩ := hr
        have hne' : ss ≠ [] := fun e => by
         subst e
         exact hne (by simpa using hss.symm)
        have hsl : ss.length = ks.length := hss.length_eq
        rcases s2.2 with ⟨e1, _⟩ | ⟨gb, cap, cur, rfl, l1, l2, l3, l4, l5, l6⟩
        ·exact absurd (s3.1 e1) hne'
        have hgb' : gb < w'.heap.size := (Array.getElem?_eq_some_iff.1 l2).1
        have hrr : ∀ i, i < c.N → (c.ρ i).1 ≠ gb := fun i hi e => by have := h.blk i hi; omega
        have hcs : ∀ x ∈ intsV (srtI ks), wf c x ∧ storable x = true := fun x hx => by
         obtain ⟨n, _, rfl⟩ := List.mem_map.1 hx
         simp [wf, storable]
        have hil : (intsV (srtI ks)).length = ks.length := by simp [intsV, (srtI_perm ks).length_eq]
        have htake : cur.toList.take (intsV (srtI ks)).length = (intsV (srtI ks)).map (conc c) := by
         rw [hil, ← hsl]
         have : ss.length * 1 = ss.length := Nat.mul_one _
         rw [this] at l6
         rw [l6]
         simp [intsV, conc, encZ, Function.comp_def]
        have R := g1.take hgb' hrr hcs l2 htake
        have hroom : (c.grow gb 0 cur.size).room σ.next 0 1 = cap := by
         simp only [Ctx.room, h.next, Ctx.grow, if_true]
         simp [l5]
        refine ⟨c.grow gb 0 cur.size, ?_, ?_, R, g2.adopt hrr l1⟩
        ·simp only [conc, hroom]
         simp [h.next, Ctx.grow, hsl]
        ·simp only [wf, hroom]
         exact ⟨by rw [h.next]; simp [Ctx.grow], Nat.le_refl _, by omega⟩
   ·cases hr
  ·cases hr
 ·cases hr
end
end Go.Proofs.YtconhghphklfjaaGreat.Am
