/- A group that is over or open, pages that are none and records that may not be are refused, and a record that was done is read back; the conditions are those of the given statement, for arguments that a machine can hold. Part 4 of 44. -/
import Derived.Test.YtconhghphklfjaaGreatE03
import Derived.Laws.BytesString
import Derived.Laws.Strings
import Derived.LaidEql
namespace Go.Proofs.YtconhghphklfjaaGreat.Am
open Go
section
variable {P : Program} {c : Ctx} {σ : H} {w : World}
theorem mapM_run {α β : Type} (f : α → Sem β) (g : α → Option β) (w : World) (hf : ∀ x y, g x = some y → (f x).run P w = .ok y w) :
  ∀ (l : List α) (m : List β), mapO g l = some m → (l.mapM f).run P w = .ok m w := by
 intro l
 induction l with
 | nil => intro m h; simp [mapO] at h; subst h; simp
 | cons x l ih =>
  intro m h
  simp only [mapO] at h
  cases hx : g x with
  | none => simp [hx] at h
  | some y =>
   cases hl : mapO g l with
   | none => simp [hx, hl] at h
   | some m' =>
    simp [hx, hl] at h
    subst h
    simp [List.mapM_cons, hf x y hx, ih m' hl]
theorem foldl_set : ∀ (xs : List Value) (k off : Nat) (cs : Array Value), off + k + xs.length ≤ cs.size →
  ((xs.zipIdx k).foldl (fun cs (x : Value × Nat) => cs.setIfInBounds (off + x.2) x.1) cs).toList = cs.toList.take (off + k) ++ (xs ++ cs.toList.drop (off + k + xs.length)) := by
 intro xs
 induction xs with
 | nil => intro k off cs _; simp
 | cons x xs ih =>
  intro k off cs h
  simp only [List.length_cons] at h
  simp only [List.zipIdx_cons, List.foldl_cons]
  rw [ih (k + 1) off _ (by simp; omega)]
  simp only [Array.toList_setIfInBounds]
  have h1 : off + k < cs.toList.length := by simp; omega
  rw [show off + (k + 1) = (off + k) + 1 from by omega]
  rw [List.take_succ_eq_append_getElem (by simpa using h1)]
  simp only [List.getElem_set_self, List.take_set_of_le (Nat.le_refl _)]
  rw [List.drop_set_of_lt (by omega)]
  simp only [List.append_assoc, List.cons_append, List.nil_append, List.length_cons]
  congr 3
  congr 1
  omega
theorem fill_ok (place : Nat → Option (Nat × Nat)) : ∀ (parts : List (Nat × V)) (cells out : List V), fillV place cells parts = some out →
  (∀ v ∈ cells, wf c v) → (∀ x ∈ parts, wf c x.2) →
  Instr.fill place (cells.map (conc c)).toArray (parts.map fun x => (x.1, conc c x.2)) = some (out.map (conc c)).toArray ∧ (∀ v ∈ out, wf c v) ∧ out.length = cells.length := by
 intro parts
 induction parts with
 | nil => intro cells out h hw _; simp [fillV] at h; subst h; exact ⟨by simp [Instr.fill], hw, rfl⟩
 | cons x parts ih =>
  intro cells out h hw hp
  obtain ⟨i, v⟩ := x
  simp only [fillV] at h
  cases hpl : place i with
  | none => simp [hpl] at h
  | some os =>
   obtain ⟨off, size⟩ := os
   simp only [hpl] at h
   cases hq : (Nat.beq v.cells.length size && Nat.ble (off + v.cells.length) cells.length) with
   | false => simp [hq] at h
   | true =>
    simp only [hq, cond_true] at h
    simp only [Bool.and_eq_true] at hq
    have h1 := beq_iff.1 hq.1
    have h2 := ble_iff.1 hq.2
    have hv : wf c v := hp (i, v) (by simp)
    obtain ⟨e1, e2, e3⟩ := ih _ out h (by
     intro y hy
     simp only [List.mem_append] at hy
     rcases hy with hy | hy | hy
     ·exact hw y (List.mem_of_mem_take hy)
     ·exact wf_cells hv y hy
     ·exact hw y (List.mem_of_mem_drop hy)) (fun y hy => hp y (by simp [hy]))
    refine ⟨?_, e2, by rw [e3]; simp; omega⟩
    simp only [List.map_cons, Instr.fill, hpl]
    have hsz : (conc c v).cells.size = v.cells.length := by rw [cells_conc']; simp
    rw [if_neg (by rw [hsz]; simp; omega)]
    rw [← e1]
    congr 1
    apply Array.ext'
    have := foldl_set (v.cells.map (conc c)) 0 off (cells.map (conc c)).toArray (by simp; omega)
    rw [← Array.foldl_toList, Array.toList_zipIdx, cells_conc]
    simpa [List.map_take, List.map_drop] using this
theorem evParts_on {env : Env} {a : Act} : ∀ (ps : List (Nat × Operand)) (l : List (Nat × V)), (∀ x ∈ ps, ∀ v, evO env x.2 = some v → a.eval x.2 = conc c v ∧ wf c v) → evParts env ps = some l →
  (ps.map fun x => (x.1, a.eval x.2)) = (l.map fun x => (x.1, conc c x.2)) ∧ ∀ x ∈ l, wf c x.2 := by
 intro ps
 induction ps with
 | nil => intro l _ h; simp [evParts] at h; subst h; simp
 | cons x ps ih =>
  intro l he h
  obtain ⟨i, o⟩ := x
  simp only [evParts] at h
  cases hx : evO env o with
  | none => simp [hx] at h
  | some v =>
   cases hl : evParts env ps with
   | none => simp [hx, hl] at h
   | some m =>
    simp [hx, hl] at h
    subst h
    have h1 := he (i, o) (by simp) v hx
    have h2 := ih m (fun y hy => he y (by simp [hy])) hl
    refine ⟨by simp [h1.1, h2.1], fun y hy => ?_⟩
    rcases List.mem_cons.1 hy with rfl | hy
    ·exact h1.2
    ·exact h2.2 y hy
theorem evArgs_on {env : Env} {a : Act} : ∀ (ps : List Operand) (l : List V), (∀ x ∈ ps, ∀ v, evO env x = some v → a.eval x = conc c v ∧ wf c v) → evArgs env ps = some l →
  ps.map a.eval = l.map (conc c) ∧ ∀ x ∈ l, wf c x := by
 intro ps
 induction ps with
 | nil => intro l _ h; simp [evArgs] at h; subst h; simp
 | cons o ps ih =>
  intro l he h
  simp only [evArgs] at h
  cases hx : evO env o with
  | none => simp [hx] at h
  | some v =>
   cases hl : evArgs env ps with
   | none => simp [hx, hl] at h
   | some m =>
    simp [hx, hl] at h
    subst h
    have h1 := he o (by simp) v hx
    have h2 := ih m (fun y hy => he y (by simp [hy])) hl
    refine ⟨by simp [h1.1, h2.1], fun y hy => ?_⟩
    rcases List.mem_cons.1 hy with rfl | hy
    ·exact h1.2
    ·exact h2.2 y hy
theorem placesS_run {fs : Array Go.Field} {pl : List (Nat × Nat)} (h : placesS P fs.toList = some pl) (w : World) :
  (fs.mapM fun f => do pure (f.offset, ← sizeOf f.type) : Sem (Array (Nat × Nat))).run P w = .ok pl.toArray w := by
 rw [Array.mapM_eq_mapM_toList]
 simp only [Sem.run_map]
 rw [mapM_run (P := P) _ (fun (f : Go.Field) => match sizeT P f.type with
  | some k => some (f.offset, k)
  | none => none) w ?_ fs.toList pl h]
 ·simp
 ·intro f y hy
  cases hk : sizeT P f.type with
  | none => simp [hk] at hy
  | some k =>
   simp [hk] at hy
   subst hy
   simp [sizeT_run hk]
theorem buildV_ok {t : TypeId} {l : List (Nat × V)} {v : V} (h : buildV P t l = some v) (hl : ∀ x ∈ l, wf c x.2) (w : World) :
  (Instr.build t (l.map fun x => (x.1, conc c x.2)).toArray).run P w = .ok (conc c v) w ∧ wf c v := by
 unfold buildV at h
 split at h
 ·rename_i z hz
  obtain ⟨z1, z2⟩ := zeroT_run hz c w
  split at h
  ·rename_i fs hu
   cases hp : placesS P fs.toList with
   | none => simp [hp] at h
   | some pl =>
    simp only [hp] at h
    cases hf : fillV (nth pl) z.cells l with
    | none => simp [hf] at h
    | some cs =>
     simp [hf] at h
     subst h
     obtain ⟨f1, f2, _⟩ := fill_ok (c := c) (nth pl) l z.cells cs hf (wf_cells z2) hl
     have hpl : nth pl = fun i => pl.toArray[i]? := by funext i; simp [nth_eq]
     refine ⟨?_, by simp only [wf, wfL_iff]; exact f2⟩
     simp only [Instr.build, Sem.run_bind, z1, Result.andThen_ok, run_underlying hu, placesS_run hp, cells_conc']
     rw [← hpl, f1]
     simp [conc, concL_eq]
  ·rename_i n e hu
   split at h
   ·rename_i k hk
    cases hf : fillV (fun i => some (i * k, k)) z.cells l with
    | none => simp [hf] at h
    | some cs =>
     simp [hf] at h
     subst h
     obtain ⟨f1, f2, _⟩ := fill_ok (c := c) (fun i => some (i * k, k)) l z.cells cs hf (wf_cells z2) hl
     refine ⟨?_, by simp only [wf, wfL_iff]; exact f2⟩
     simp only [Instr.build, Sem.run_bind, z1, Result.andThen_ok, run_underlying hu, sizeT_run hk, cells_conc']
     rw [f1]
     simp [conc, concL_eq]
   ·simp at h
  ·simp at h
 ·simp at h
theorem intBeq_eq (a b : Int) : intBeq a b = (a == b) := by
 rw [Bool.eq_iff_iff, beq_iff_eq]
 cases a <;> cases b <;> simp only [intBeq, beq_iff, Int.negSucc.injEq, reduceCtorEq, Bool.false_eq_true, Int.ofNat_eq_natCast]
 all_goals omega
theorem ikBeq_eq {j k : IntKind} (h : ikBeq j k = true) : j = k := by cases j <;> cases k <;> simp_all [ikBeq]
theorem ofInt_toNat (n : Nat) (x : Int) : (BitVec.ofInt n x).toNat = (x % (2 ^ n : Int)).toNat := by
 rw [BitVec.toNat_ofInt]
 norm_cast
theorem bitsV_ok {op : BinOp} {k : IntKind} {x y : Int} {v : V} (h : bitsV op k x y = some v) (w : World) :
  (Op.intBits op k x y).run P w = .ok (conc c v) w ∧ wf c v := by
 unfold bitsV at h
 simp only at h
 cases op <;> simp only [Option.some.injEq, reduceCtorEq] at h
 all_goals subst h
 all_goals refine ⟨?_, by simp [wf]⟩
 all_goals simp only [Op.intBits, Sem.run_pure, conc, BitVec.toNat_and, BitVec.toNat_or, BitVec.toNat_xor, BitVec.toNat_not, ofInt_toNat]
 all_goals rfl
theorem intV_ok {op : BinOp} {k : IntKind} {x y : Int} {v : V} (h : intV op k x y = some v) (h1 : op ≠ .shl) (h2 : op ≠ .shr) (t : TypeId) (w : World) :
  (binOp op t (.int k x) (.int k y)).run P w = .ok (conc c v) w ∧ wf c v := by
 cases op <;> simp only [intV, Option.some.injEq, reduceCtorEq] at h
 case and => have := bitsV_ok (P := P) (c := c) h w; simpa [binOp] using this
 case or => have := bitsV_ok (P := P) (c := c) h w; simpa [binOp] using this
 case xor => have := bitsV_ok (P := P) (c := c) h w; simpa [binOp] using this
 case andNot => have := bitsV_ok (P := P) (c := c) h w; simpa [binOp] using this
 case quo =>
  rw [intBeq_eq] at h
  by_cases hy : y = 0
  ·subst hy; simp at h
  ·have hy' : (y == 0) = false := by simpa using hy
   rw [hy', cond_false, Option.some.injEq] at h
   subst h
   exact ⟨by simp [binOp, Op.intDiv, hy, conc], by simp [wf]⟩
 case rem =>
  rw [intBeq_eq] at h
  by_cases hy : y = 0
  ·subst hy; simp at h
  ·have hy' : (y == 0) = false := by simpa using hy
   rw [hy', cond_false, Option.some.injEq] at h
   subst h
   exact ⟨by simp [binOp, Op.intDiv, hy, conc], by simp [wf]⟩
 all_goals subst h
 all_goals refine ⟨?_, by simp [wf]⟩
 all_goals simp [binOp, Op.intArith, Op.intCmp, conc, intBeq_eq]
 all_goals rfl
theorem shiftV_ok {op : BinOp} {k j : IntKind} {x y : Int} {v : V} (h : shiftV op k x y = some v) (t : TypeId) (w : World) (ho : op = .shl ∨ op = .shr) :
  (binOp op t (.int k x) (.int j y)).run P w = .ok (conc c v) w ∧ wf c v := by
 unfold shiftV at h
 by_cases hy : y < 0
 ·simp [hy] at h
 ·simp only [hy, decide_false, cond_false] at h
  rcases ho with rfl | rfl
  ·simp only [Option.some.injEq] at h
   subst h
   exact ⟨by simp [binOp, Op.shift, hy, conc], by simp [wf]⟩
  ·simp only [Option.some.injEq] at h
   subst h
   exact ⟨by simp [binOp, Op.shift, hy, conc], by simp [wf]⟩
theorem natsBeq_eq : ∀ (a b : List Nat), natsBeq a b = (a == b) := by
 intro a
 induction a with
 | nil => intro b; cases b <;> rfl
 | cons x a ih =>
  intro b
  cases b with
  | nil => rfl
  | cons y b =>
   simp only [natsBeq, ih]
   by_cases h : x = y
   ·subst h; simp
   ·simp [beqF h, h]
theorem ofNat_inj {a b : Nat} (ha : a < 256) (hb : b < 256) : (UInt8.ofNat a = UInt8.ofNat b) ↔ a = b := by
 constructor
 ·intro h
  have := congrArg UInt8.toNat h
  simpa [UInt8.toNat_ofNat', Nat.mod_eq_of_lt ha, Nat.mod_eq_of_lt hb] using this
 ·intro h; rw [h]
theorem bytes_beq : ∀ (a b : List Nat), (∀ x ∈ a, x < 256) → (∀ x ∈ b, x < 256) → ((a.map UInt8.ofNat == b.map UInt8.ofNat) = (a == b)) := by
 intro a
 induction a with
 | nil => intro b _ _; cases b <;> rfl
 | cons x a ih =>
  intro b ha hb
  cases b with
  | nil => rfl
  | cons y b =>
   have h1 := ih b (fun z hz => ha z (by simp [hz])) (fun z hz => hb z (by simp [hz]))
   have h2 := ofNat_inj (ha x (by simp)) (hb y (by simp))
   simp only [List.map_cons, List.cons_beq_cons, h1]
   congr 1
   rw [Bool.eq_iff_iff]
   simp [h2]
theorem lessL_eq : ∀ (a b : List Nat), (∀ x ∈ a, x < 256) → (∀ x ∈ b, x < 256) → lessL a b = Op.bytesLess (a.map UInt8.ofNat) (b.map UInt8.ofNat) := by
 intro a
 induction a with
 | nil => intro b _ _; cases b <;> rfl
 | cons x a ih =>
  intro b ha hb
  cases b with
  | nil => rfl
  | cons y b =>
   have h1 := ih b (fun z hz => ha z (by simp [hz])) (fun z hz => hb z (by simp [hz]))
   have hx := ha x (by simp)
   have hy := hb y (by simp)
   simp only [lessL, List.map_cons, Op.bytesLess, h1]
   have hlt : (UInt8.ofNat x < UInt8.ofNat y) ↔ x < y := by
    rw [UInt8.lt_iff_toNat_lt]
    simp [UInt8.toNat_ofNat', Nat.mod_eq_of_lt hx, Nat.mod_eq_of_lt hy]
   by_cases h3 : x < y
   ·simp [blt_iff.2 h3, hlt.2 h3]
   ·have h3' : Nat.blt x y = false := by
     cases hb : Nat.blt x y with
     | false => rfl
     | true => exact absurd (blt_iff.1 hb) h3
    have h4 : ¬ (UInt8.ofNat x < UInt8.ofNat y) := fun e => h3 (hlt.1 e)
    simp only [h3', cond_false, h4, decide_false, Bool.false_or]
    by_cases h5 : x = y
    ·subst h5; simp
    ·have h6 : UInt8.ofNat x ≠ UInt8.ofNat y := fun e => h5 ((ofNat_inj hx hy).1 e)
     simp [beqF h5, h6]
theorem strV_ok {op : BinOp} {a b : List Nat} {v : V} (h : strV op a b = some v) (ha : ∀ x ∈ a, x < 256) (hb : ∀ x ∈ b, x < 256) (t : TypeId) (w : World) :
  (binOp op t (conc c (.str a)) (conc c (.str b))).run P w = .ok (conc c v) w ∧ wf c v := by
 have e1 := bytes_beq a b ha hb
 have e2 := lessL_eq a b ha hb
 cases op <;> simp only [strV, Option.some.injEq, reduceCtorEq] at h
 case add =>
  cases hq : Nat.ble (a.length + b.length) 4611686018427387904 with
  | false => simp [hq] at h
  | true =>
   have hle := ble_iff.1 hq
   simp only [hq, cond_true, Option.some.injEq] at h
   subst h
   refine ⟨?_, ?_⟩
   ·simp only [conc, binOp]
    have hsz : ¬ (((ByteArray.size ⟨(a.map UInt8.ofNat).toArray⟩ + ByteArray.size ⟨(b.map UInt8.ofNat).toArray⟩ : Nat) : Int) > IntKind.i64.max) := by
     simp [ByteArray.size]; omega
    simp only [Op.stringOp]
    rw [if_neg hsz]
    simp only [Sem.run_pure]
    congr 2
    apply ByteArray.ext
    simp
   ·simp only [wf, List.mem_append]
    rintro x (hx | hx)
    ·exact ha x hx
    ·exact hb x hx
 all_goals subst h
 all_goals refine ⟨?_, by simp [wf]⟩
 all_goals simp only [conc, binOp, Op.stringOp, ByteArray.toList_mk, Sem.run_pure, e1, e2, natsBeq_eq]
end
end Go.Proofs.YtconhghphklfjaaGreat.Am
namespace Go.Proofs.YtconhghphklfjaaGreat.Am
open Go
section
variable {P : Program} {c : Ctx} {σ : H} {w : World}
theorem run_part_int {e : TypeId} {k : IntKind} (he : P.underlying e = some (.int k)) (X : Array Value) (i : Nat) (v : Value) (hv : X[i]? = some v) (w : World) :
  (part e X i).run P w = .ok v w := by
 simp [part, isAgg, run_underlying he, hv]
theorem intsBeq_drop {k : IntKind} {xs ys : List V} {r : Bool} (h : intsBeq k xs ys = some r) :
  (∀ x ∈ xs, ∃ n, x = .int k n) ∧ (∀ y ∈ ys, ∃ n, y = .int k n) ∧ xs.length = ys.length := by
 induction xs generalizing ys r with
 | nil => cases ys <;> simp_all [intsBeq]
 | cons x xs ih =>
  cases ys with
  | nil => cases x <;> simp [intsBeq] at h
  | cons y ys =>
   cases x <;> cases y <;> simp only [intsBeq, reduceCtorEq] at h
   rename_i j a j' b
   cases hq : (ikBeq j k && ikBeq j' k) with
   | false => simp [hq] at h
   | true =>
    simp only [hq, cond_true] at h
    simp only [Bool.and_eq_true] at hq
    have h1 := (ikBeq_eq hq.1).symm
    have h2 := (ikBeq_eq hq.2).symm
    subst h1; subst h2
    have : ∃ r', intsBeq k xs ys = some r' := by
     cases hb : intBeq a b with
     | true => rw [hb] at h; exact ⟨r, h⟩
     | false =>
      rw [hb] at h
      cases hx : intsBeq k xs ys with
      | none => simp [hx] at h
      | some r' => exact ⟨r', rfl⟩
    obtain ⟨r', hr'⟩ := this
    obtain ⟨i1, i2, i3⟩ := ih hr'
    refine ⟨?_, ?_, by simp [i3]⟩
    ·intro x hx
     rcases List.mem_cons.1 hx with rfl | hx
     ·exact ⟨a, rfl⟩
     ·exact i1 x hx
    ·intro x hx
     rcases List.mem_cons.1 hx with rfl | hx
     ·exact ⟨b, rfl⟩
     ·exact i2 x hx
theorem eq_loop {e : TypeId} {k : IntKind} (he : P.underlying e = some (.int k)) (d : Nat) (w : World) : ∀ (xs ys : List V) (pre pre' : List V) (r : Bool), intsBeq k xs ys = some r →
  pre.length = pre'.length →
  (forIn (List.range' pre.length xs.length) ((none, ()) : Option Bool × PUnit) (fun i (_ : Option Bool × PUnit) => do
   let a ← part e ((pre ++ xs).map (conc c)).toArray (i * 1)
   let b ← part e ((pre' ++ ys).map (conc c)).toArray (i * 1)
   let q ← Op.equalIn (d + 1) e a b
   if (!q) = true then pure (ForInStep.done (some false, ())) else pure (ForInStep.yield (none, ()))) : Sem (Option Bool × PUnit)).run P w =
   .ok (if r then (none, ()) else (some false, ())) w := by
 intro xs
 induction xs with
 | nil =>
  intro ys pre pre' r h hp
  cases ys with
  | nil => simp [intsBeq] at h; subst h; simp
  | cons y ys => simp [intsBeq] at h
 | cons x xs ih =>
  intro ys pre pre' r h hp
  obtain ⟨h1, h2, h3⟩ := intsBeq_drop h
  cases ys with
  | nil => simp at h3
  | cons y ys =>
   obtain ⟨a, rfl⟩ := h1 x (by simp)
   obtain ⟨b, rfl⟩ := h2 y (by simp)
   have g1 : ((pre ++ V.int k a :: xs).map (conc c)).toArray[pre.length * 1]? = some (.int k a) := by simp [conc]
   have g2 : ((pre' ++ V.int k b :: ys).map (conc c)).toArray[pre.length * 1]? = some (.int k b) := by rw [hp]; simp [conc]
   have g3 : (Op.equalIn (d + 1) e (.int k a) (.int k b)).run P w = .ok (a == b) w := by simp [Op.equalIn, run_underlying he]
   simp only [List.length_cons, List.range'_succ, List.forIn_cons, Sem.run_bind, run_part_int he _ _ _ g1, run_part_int he _ _ _ g2, Result.andThen_ok, g3]
   have hk : ikBeq k k = true := by cases k <;> rfl
   simp only [intsBeq, hk, Bool.and_self, cond_true, intBeq_eq] at h
   by_cases hab : a = b
   ·have hab' : (a == b) = true := by simpa using hab
    simp only [hab', cond_true] at h
    simp only [hab', Bool.not_true, Bool.false_eq_true, if_false, Sem.run_pure, Result.andThen_ok]
    have := ih ys (pre ++ [.int k a]) (pre' ++ [.int k b]) r h (by simp [hp])
    simpa using this
   ·have hab' : (a == b) = false := by simpa using hab
    simp only [hab', cond_false] at h
    simp only [hab', Bool.not_false, if_true, Sem.run_pure, Result.andThen_ok]
    cases hx : intsBeq k xs ys with
    | none => simp [hx] at h
    | some r' => simp [hx] at h; subst h; simp
theorem eqArr_in (d : Nat) {t e : TypeId} {n : Nat} {k : IntKind} {xs ys : List V} {r : Bool} (ht : P.underlying t = some (.array n e)) (he : P.underlying e = some (.int k))
  (hs : sizeT P e = some 1) (hn : xs.length = n) (h : intsBeq k xs ys = some r) (w : World) :
  (Op.equalIn (d + 1 + 1) t (conc c (.agg xs)) (conc c (.agg ys))).run P w = .ok r w := by
 have := eq_loop (c := c) he d w xs ys [] [] r h rfl
 generalize d + 1 = D at this ⊢
 simp only [conc, concL_eq, Op.equalIn, Sem.run_bind, run_underlying ht, Result.andThen_ok, sizeT_run hs]
 rw [Std.Legacy.Range.forIn_eq_forIn_range']
 simp only [List.length_nil, List.nil_append] at this
 simp only [Std.Legacy.Range.size, Nat.sub_zero, Nat.add_sub_cancel, Nat.div_one, ← hn]
 rw [this]
 cases r <;> simp
theorem eqArr_ok {t : TypeId} {xs ys : List V} {r : Bool} (h : eqArr P t xs ys = some r) (w : World) :
  (Op.equal t (conc c (.agg xs)) (conc c (.agg ys))).run P w = .ok r w ∧ P.eqGuardType P.depth t = false := by
 unfold eqArr at h
 split at h
 ·rename_i n e ht
  split at h
  ·rename_i k he
   split at h
   ·rename_i s hs
    cases hq : (Nat.beq s 1 && Nat.beq xs.length n && Nat.beq ys.length n) with
    | false => simp [hq] at h
    | true =>
     simp only [hq, cond_true] at h
     simp only [Bool.and_eq_true] at hq
     have q1 := beq_iff.1 hq.1.1
     have q2 := beq_iff.1 hq.1.2
     have q3 := beq_iff.1 hq.2
     subst q1
     constructor
     ·exact eqArr_in 9998 ht he hs q2 h w
     ·have hd : P.depth = (2 * (P.types.size + Made.depth)) + 1 + 1 := by simp [Program.depth]
      rw [hd]
      simp [Program.eqGuardType, ht, he]
   ·simp at h
  ·simp at h
 ·simp at h
theorem adr_inj {id id' off off' : Nat} {o o' : Obj} (h : Rel c σ w) (h1 : σ.tr.get id = some o) (h2 : σ.tr.get id' = some o') (hX : c.X id' = false) :
  adr c id off = adr c id' off' ↔ id = id' ∧ off = off' := by
 constructor
 ·intro e
  simp only [adr, Addr.mk.injEq] at e
  have := h.inj1 h1 h2 e.1 hX
  subst this
  exact ⟨rfl, by omega⟩
 ·rintro ⟨rfl, rfl⟩; rfl
theorem run_equalIn_ptr (d : Nat) {t e : TypeId} {k : Nat} (ht : P.underlying t = some (.pointer e)) (hk : sizeT P e = some k) (h1 : k ≠ 0) (a b : Addr) (w : World) :
  (Op.equalIn (d + 1) t (.pointer (some a)) (.pointer (some b))).run P w = (sameAddr a b).run P w := by
 simp [Op.equalIn, run_underlying ht, sizeT_run hk, h1]
theorem sl_shape (c : Ctx) (id off len : Nat) (cap : Cap) : ∃ a n, conc c (.sl id off len cap) = .slice (some a) len n := by
 cases cap <;> simp only [conc] <;> exact ⟨_, _, rfl⟩
theorem eqV_in (d : Nat) {t : TypeId} {x y : V} {r : Bool} (h : Rel c σ w) (hr : eqV P σ t x y = some r) :
  (Op.equalIn (d + 1) t (conc c x) (conc c y)).run P w = .ok r w ∧
  (∀ op ox oy, eqGuard op t ox oy (conc c x) (conc c y) = pure ()) ∧
  (binOp .eql t (conc c x) (conc c y) = (do pure (.bool (← Op.equal t (conc c x) (conc c y)))) ∧
   binOp .neq t (conc c x) (conc c y) = (do pure (.bool (!(← Op.equal t (conc c x) (conc c y)))))) := by
 unfold eqV at hr
 generalize ht : P.underlying t = du at hr
 split at hr
 case h_1 =>
  simp only [Option.some.injEq] at hr; subst hr
  exact ⟨by simp [Op.equalIn, run_underlying ht, conc], fun op ox oy => by simp only [conc]; exact eqGuard_at_bool .., ⟨by simp [binOp, conc], by simp [binOp, conc]⟩⟩
 case h_2 =>
  simp only [Option.some.injEq] at hr; subst hr
  exact ⟨by simp [Op.equalIn, run_underlying ht, conc], fun op ox oy => by simp only [conc]; exact eqGuard_at_pointer .., ⟨by simp [binOp, conc], by simp [binOp, conc]⟩⟩
 case h_3 =>
  simp only [Option.some.injEq] at hr; subst hr
  exact ⟨by simp [Op.equalIn, run_underlying ht, conc], fun op ox oy => by simp only [conc]; exact eqGuard_at_pointer .., ⟨by simp [binOp, conc], by simp [binOp, conc]⟩⟩
 case h_4 =>
  simp only [Option.some.injEq] at hr; subst hr
  exact ⟨by simp [Op.equalIn, run_underlying ht, conc], fun op ox oy => by simp only [conc]; exact eqGuard_at_pointer .., ⟨by simp [binOp, conc], by simp [binOp, conc]⟩⟩
 case h_5 _ _ _ i o j o' =>
  refine ⟨?_, fun op ox oy => by simp only [conc]; exact eqGuard_at_pointer .., ⟨by simp [binOp, conc], by simp [binOp, conc]⟩⟩
  split at hr
  ·rename_i k hk
   cases hq : Nat.ble 1 k with
   | false => simp [hq] at hr
   | true =>
    have hk1 := ble_iff.1 hq
    simp only [hq, cond_true] at hr
    split at hr
    ·rename_i n cs m cs' g1 g2
     cases hq2 : (Nat.ble 1 n && Nat.ble 1 m) with
     | false => simp [hq2] at hr
     | true =>
      simp only [hq2, cond_true, Option.some.injEq] at hr
      subst hr
      have e1 : conc c (.ptr i o) = .pointer (some (adr c i o)) := by simp [conc, adr]
      have e2 : conc c (.ptr j o') = .pointer (some (adr c j o')) := by simp [conc, adr]
      rw [e1, e2, run_equalIn_ptr d ht hk (by omega)]
      obtain ⟨_, _, C, el, fz, hb, _, _, hfz⟩ := h.obj i _ g1
      obtain ⟨_, _, C', el', fz', hb', _, _, hfz'⟩ := h.obj j _ g2
      simp only [FzOk] at hfz hfz'
      subst hfz; subst hfz'
      have iff := adr_inj (off := o) (off' := o') h g1 g2 (h.notX g2 (by intro _ _ he; cases he))
      by_cases hij : i = j ∧ o = o'
      ·obtain ⟨rfl, rfl⟩ := hij
       rw [run_sameAddr_same]; simp
      ·rw [run_sameAddr_other w (fun e => hij (iff.1 e)) hb hb']
       congr 1
       symm
       rw [Bool.eq_false_iff]
       simp only [ne_eq, Bool.and_eq_true, beq_iff]
       exact hij
    ·simp at hr
  ·simp at hr
 case h_6 =>
  simp only [Option.some.injEq] at hr; subst hr
  exact ⟨by simp [Op.equalIn, run_underlying ht, conc], fun op ox oy => by simp only [conc]; exact eqGuard_nil_iface .., ⟨by simp [binOp, conc], by simp [binOp, conc]⟩⟩
 case h_7 =>
  simp only [Option.some.injEq] at hr; subst hr
  exact ⟨by simp [Op.equalIn, run_underlying ht, conc], fun op ox oy => by simp only [conc]; exact eqGuard_at_iface .., ⟨by simp [binOp, conc], by simp [binOp, conc]⟩⟩
 case h_8 =>
  simp only [Option.some.injEq] at hr; subst hr
  exact ⟨by simp [Op.equalIn, run_underlying ht, conc], fun op ox oy => by simp only [conc]; exact eqGuard_at_slice .., ⟨by simp [binOp, conc], by simp [binOp, conc]⟩⟩
 case h_9 _ _ i o n cap =>
  obtain ⟨a, m, hs⟩ := sl_shape c i o n cap
  simp only [Option.some.injEq] at hr; subst hr
  rw [hs]
  exact ⟨by simp [Op.equalIn, run_underlying ht, conc], fun op ox oy => by simp only [conc]; exact eqGuard_at_slice .., ⟨by simp [binOp, conc], by simp [binOp, conc]⟩⟩
 case h_10 _ _ i o n cap =>
  obtain ⟨a, m, hs⟩ := sl_shape c i o n cap
  simp only [Option.some.injEq] at hr; subst hr
  rw [hs]
  exact ⟨by simp [Op.equalIn, run_underlying ht, conc], fun op ox oy => by exact eqGuard_at_slice .., ⟨by simp [binOp, conc], by simp [binOp, conc]⟩⟩
 case h_11 =>
  simp only [Option.some.injEq] at hr; subst hr
  exact ⟨by simp [Op.equalIn, run_underlying ht, conc], fun op ox oy => by simp only [conc]; exact eqGuard_at_slice .., ⟨by simp [binOp, conc], by simp [binOp, conc]⟩⟩
 case h_12 =>
  simp only [Option.some.injEq] at hr; subst hr
  exact ⟨by simp [Op.equalIn, run_underlying ht, conc], fun op ox oy => by simp only [conc]; exact eqGuard_at_slice .., ⟨by simp [binOp, conc], by simp [binOp, conc]⟩⟩
 case h_13 =>
  simp only [Option.some.injEq] at hr; subst hr
  exact ⟨by simp [Op.equalIn, run_underlying ht, conc], fun op ox oy => by simp only [conc]; exact eqGuard_at_map .., ⟨by simp [binOp, conc], by simp [binOp, conc]⟩⟩
 case h_14 =>
  simp only [Option.some.injEq] at hr; subst hr
  exact ⟨by simp [Op.equalIn, run_underlying ht, conc], fun op ox oy => by simp only [conc]; exact eqGuard_at_map .., ⟨by simp [binOp, conc], by simp [binOp, conc]⟩⟩
 case h_15 =>
  simp only [Option.some.injEq] at hr; subst hr
  exact ⟨by simp [Op.equalIn, run_underlying ht, conc], fun op ox oy => by simp only [conc]; exact eqGuard_at_map .., ⟨by simp [binOp, conc], by simp [binOp, conc]⟩⟩
 case h_16 => simp at hr
theorem eqV_ok {t : TypeId} {x y : V} {r : Bool} (h : Rel c σ w) (hr : eqV P σ t x y = some r) (ox oy : Operand) :
  ((do eqGuard .eql t ox oy (conc c x) (conc c y); binOp .eql t (conc c x) (conc c y)) : Sem Value).run P w = .ok (.bool r) w ∧
  ((do eqGuard .neq t ox oy (conc c x) (conc c y); binOp .neq t (conc c x) (conc c y)) : Sem Value).run P w = .ok (.bool (!r)) w := by
 obtain ⟨h1, h2, h3⟩ := eqV_in 9999 h hr
 have h1' : (Op.equal t (conc c x) (conc c y)).run P w = .ok r w := h1
 rw [h2, h2, h3.1, h3.2]
 simp [h1']
theorem isNilConst_eq {x : Operand} (h : isNilConst x = true) : x = .const .nilIface := by
 unfold isNilConst at h
 split at h
 ·rfl
 ·simp at h
theorem run_equal_nil {t : TypeId} {ms : Array (String × TypeId)} (ht : P.underlying t = some (.interface ms)) (w : World) : (Op.equal t .nilIface .nilIface).run P w = .ok true w := by
 have : (Op.equalIn (9999 + 1) t .nilIface .nilIface).run P w = .ok true w := by
  generalize 9999 = d
  simp [Op.equalIn, run_underlying ht]
 exact this
theorem binV_ok {op : BinOp} {t : TypeId} {ox oy : Operand} {x y v : V} (h : Rel c σ w) (hr : binV P σ op t ox oy x y = some v) (hx : wf c x) (hy : wf c y) :
  ((do eqGuard op t ox oy (conc c x) (conc c y); binOp op t (conc c x) (conc c y)) : Sem Value).run P w = .ok (conc c v) w ∧ wf c v := by
 unfold binV at hr
 split at hr
 ·rename_i k a j b
  have g : ∀ op, eqGuard op t ox oy (conc c (.int k a)) (conc c (.int j b)) = pure () := fun op => by simp only [conc]; exact eqGuard_at_int ..
  rw [g, pure_bind]
  simp only [conc]
  split at hr
  ·exact shiftV_ok hr t w (.inl rfl)
  ·exact shiftV_ok hr t w (.inr rfl)
  ·rename_i n1 n2
   cases hq : ikBeq k j with
   | false => simp [hq] at hr
   | true =>
    have := ikBeq_eq hq
    subst this
    simp only [hq, cond_true] at hr
    exact intV_ok hr n1 n2 t w
 ·rename_i a b
  have g : ∀ op, eqGuard op t ox oy (conc c (.str a)) (conc c (.str b)) = pure () := fun op => by simp only [conc]; exact eqGuard_at_string ..
  rw [g, pure_bind]
  exact strV_ok hr (by simpa [wf] using hx) (by simpa [wf] using hy) t w
 ·rename_i j a k b
  cases hq : fkBeq j k with
  | false => rw [hq] at hr; cases hr
  | true =>
   have hjk : j = k := by cases j <;> cases k <;> first | rfl | (simp [fkBeq] at hq)
   subst hjk
   rw [hq, cond_true] at hr
   have g : ∀ op, eqGuard op t ox oy (conc c (.flt j a)) (conc c (.flt j b)) = pure () := fun op => by simp only [conc]; unfold eqGuard; split <;> rfl
   rw [g, pure_bind]
   unfold fltV at hr
   split at hr <;> first
    | (simp only [Option.some.injEq] at hr; subst hr; exact ⟨by simp [conc, binOp, Op.floatCmp], by simp [wf]⟩)
    | cases hr
 ·rename_i a b
  split at hr
  ·cases he : eqArr P t a b with
   | none => simp [he] at hr
   | some r =>
    simp [he] at hr
    subst hr
    obtain ⟨e1, e2⟩ := eqArr_ok (c := c) he w
    refine ⟨?_, by simp [wf]⟩
    simp only [conc] at e1 ⊢
    simp [eqGuard, e2, binOp, e1]
  ·cases he : eqArr P t a b with
   | none => simp [he] at hr
   | some r =>
    simp [he] at hr
    subst hr
    obtain ⟨e1, e2⟩ := eqArr_ok (c := c) he w
    refine ⟨?_, by simp [wf]⟩
    simp only [conc] at e1 ⊢
    simp [eqGuard, e2, binOp, e1]
  ·simp at hr
 ·cases hq : (isNilConst ox || isNilConst oy) with
  | false => simp [hq] at hr
  | true =>
   simp only [hq, cond_true] at hr
   have g : ∀ op, eqGuard op t ox oy .nilIface .nilIface = pure () := by
    intro op
    rcases Bool.or_eq_true _ _ ▸ hq with q | q
    ·rw [isNilConst_eq q]; exact eqGuard_nil_constL ..
    ·rw [isNilConst_eq q]; exact eqGuard_nil_constR ..
   simp only [conc]
   rw [g, pure_bind]
   split at hr
   ·rename_i ms hu
    simp only [Option.some.injEq] at hr; subst hr
    exact ⟨by simp [binOp, run_equal_nil hu, conc], by simp [wf]⟩
   ·rename_i ms hu
    simp only [Option.some.injEq] at hr; subst hr
    exact ⟨by simp [binOp, run_equal_nil hu, conc], by simp [wf]⟩
   ·simp at hr
 ·split at hr
  ·cases he : eqV P σ t x y with
   | none => simp [he] at hr
   | some r =>
    simp [he] at hr
    subst hr
    exact ⟨by rw [(eqV_ok h he ox oy).1]; simp [conc], by simp [wf]⟩
  ·cases he : eqV P σ t x y with
   | none => simp [he] at hr
   | some r =>
    simp [he] at hr
    subst hr
    exact ⟨by rw [(eqV_ok h he ox oy).2]; simp [conc], by simp [wf]⟩
  ·simp at hr
theorem unV_ok {op : UnOp} {x v : V} (hr : unV op x = some v) (w : World) : (Op.unary op (conc c x)).run P w = .ok (conc c v) w ∧ wf c v := by
 unfold unV at hr
 split at hr
 ·split at hr
  ·simp only [Option.some.injEq] at hr; subst hr
   exact ⟨by simp [Op.unary, conc], by simp [wf]⟩
  ·simp at hr
 ·split at hr
  ·simp only [Option.some.injEq] at hr; subst hr
   exact ⟨by simp [Op.unary, Op.intArith, conc], by simp [wf]⟩
  ·rename_i k n
   have := bitsV_ok (P := P) (c := c) hr w
   rw [cond_eq] at this
   simpa [Op.unary, conc] using this
  ·simp at hr
 ·simp at hr
end
end Go.Proofs.YtconhghphklfjaaGreat.Am
