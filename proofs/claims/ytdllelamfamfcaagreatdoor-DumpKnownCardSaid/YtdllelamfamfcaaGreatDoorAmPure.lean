/- The abstract machine: operations that only reckon or read. -/
import Derived.Test.YtdllelamfamfcaaGreatDoorAmMem
import Derived.Laws.BytesString
import Derived.Laws.Strings
import Derived.LaidEql
namespace Go.Proofs.YtdllelamfamfcaaGreatDoor.Am
open Go

section
variable {P : Program} {c : Ctx} {σ : H} {w : World}

/-! ### Parts laid into cells -/
theorem mapM_run {α β : Type} (f : α → Sem β) (g : α → Option β) (w : World) (hf : ∀ x y, g x = some y → (f x).run P w = .ok y w) :
    ∀ (l : List α) (m : List β), mapO g l = some m → (l.mapM f).run P w = .ok m w := by
  intro l
  induction l with
  | nil => intro m h; simp [mapO] at h; subst h; simp
  | cons x l ih =>
    intro m h
    simp only [mapO] at h
    cases hx : g x with
    | none => simp [hx] at h
    | some y =>
      cases hl : mapO g l with
      | none => simp [hx, hl] at h
      | some m' =>
        simp [hx, hl] at h
        subst h
        simp [List.mapM_cons, hf x y hx, ih m' hl]

theorem foldl_set : ∀ (xs : List Value) (k off : Nat) (cs : Array Value), off + k + xs.length ≤ cs.size →
    ((xs.zipIdx k).foldl (fun cs (x : Value × Nat) => cs.setIfInBounds (off + x.2) x.1) cs).toList = cs.toList.take (off + k) ++ (xs ++ cs.toList.drop (off + k + xs.length)) := by
  intro xs
  induction xs with
  | nil => intro k off cs _; simp
  | cons x xs ih =>
    intro k off cs h
    simp only [List.length_cons] at h
    simp only [List.zipIdx_cons, List.foldl_cons]
    rw [ih (k + 1) off _ (by simp; omega)]
    simp only [Array.toList_setIfInBounds]
    have h1 : off + k < cs.toList.length := by simp; omega
    rw [show off + (k + 1) = (off + k) + 1 from by omega]
    rw [List.take_succ_eq_append_getElem (by simpa using h1)]
    simp only [List.getElem_set_self, List.take_set_of_le (Nat.le_refl _)]
    rw [List.drop_set_of_lt (by omega)]
    simp only [List.append_assoc, List.cons_append, List.nil_append, List.length_cons]
    congr 3
    congr 1
    omega

theorem fill_ok (place : Nat → Option (Nat × Nat)) : ∀ (parts : List (Nat × V)) (cells out : List V), fillV place cells parts = some out →
    (∀ v ∈ cells, wf c v) → (∀ x ∈ parts, wf c x.2) →
    Instr.fill place (cells.map (conc c)).toArray (parts.map fun x => (x.1, conc c x.2)) = some (out.map (conc c)).toArray ∧ (∀ v ∈ out, wf c v) ∧ out.length = cells.length := by
  intro parts
  induction parts with
  | nil => intro cells out h hw _; simp [fillV] at h; subst h; exact ⟨by simp [Instr.fill], hw, rfl⟩
  | cons x parts ih =>
    intro cells out h hw hp
    obtain ⟨i, v⟩ := x
    simp only [fillV] at h
    cases hpl : place i with
    | none => simp [hpl] at h
    | some os =>
      obtain ⟨off, size⟩ := os
      simp only [hpl] at h
      cases hq : (Nat.beq v.cells.length size && Nat.ble (off + v.cells.length) cells.length) with
      | false => simp [hq] at h
      | true =>
        simp only [hq, cond_true] at h
        simp only [Bool.and_eq_true] at hq
        have h1 := beq_iff.1 hq.1
        have h2 := ble_iff.1 hq.2
        have hv : wf c v := hp (i, v) (by simp)
        obtain ⟨e1, e2, e3⟩ := ih _ out h (by
          intro y hy
          simp only [List.mem_append] at hy
          rcases hy with hy | hy | hy
          · exact hw y (List.mem_of_mem_take hy)
          · exact wf_cells hv y hy
          · exact hw y (List.mem_of_mem_drop hy)) (fun y hy => hp y (by simp [hy]))
        refine ⟨?_, e2, by rw [e3]; simp; omega⟩
        simp only [List.map_cons, Instr.fill, hpl]
        have hsz : (conc c v).cells.size = v.cells.length := by rw [cells_conc']; simp
        rw [if_neg (by rw [hsz]; simp; omega)]
        rw [← e1]
        congr 1
        apply Array.ext'
        have := foldl_set (v.cells.map (conc c)) 0 off (cells.map (conc c)).toArray (by simp; omega)
        rw [← Array.foldl_toList, Array.toList_zipIdx, cells_conc]
        simpa [List.map_take, List.map_drop] using this

theorem evParts_on {env : Env} {a : Act} : ∀ (ps : List (Nat × Operand)) (l : List (Nat × V)), (∀ x ∈ ps, ∀ v, evO env x.2 = some v → a.eval x.2 = conc c v ∧ wf c v) → evParts env ps = some l →
    (ps.map fun x => (x.1, a.eval x.2)) = (l.map fun x => (x.1, conc c x.2)) ∧ ∀ x ∈ l, wf c x.2 := by
  intro ps
  induction ps with
  | nil => intro l _ h; simp [evParts] at h; subst h; simp
  | cons x ps ih =>
    intro l he h
    obtain ⟨i, o⟩ := x
    simp only [evParts] at h
    cases hx : evO env o with
    | none => simp [hx] at h
    | some v =>
      cases hl : evParts env ps with
      | none => simp [hx, hl] at h
      | some m =>
        simp [hx, hl] at h
        subst h
        have h1 := he (i, o) (by simp) v hx
        have h2 := ih m (fun y hy => he y (by simp [hy])) hl
        refine ⟨by simp [h1.1, h2.1], fun y hy => ?_⟩
        rcases List.mem_cons.1 hy with rfl | hy
        · exact h1.2
        · exact h2.2 y hy

theorem evArgs_on {env : Env} {a : Act} : ∀ (ps : List Operand) (l : List V), (∀ x ∈ ps, ∀ v, evO env x = some v → a.eval x = conc c v ∧ wf c v) → evArgs env ps = some l →
    ps.map a.eval = l.map (conc c) ∧ ∀ x ∈ l, wf c x := by
  intro ps
  induction ps with
  | nil => intro l _ h; simp [evArgs] at h; subst h; simp
  | cons o ps ih =>
    intro l he h
    simp only [evArgs] at h
    cases hx : evO env o with
    | none => simp [hx] at h
    | some v =>
      cases hl : evArgs env ps with
      | none => simp [hx, hl] at h
      | some m =>
        simp [hx, hl] at h
        subst h
        have h1 := he o (by simp) v hx
        have h2 := ih m (fun y hy => he y (by simp [hy])) hl
        refine ⟨by simp [h1.1, h2.1], fun y hy => ?_⟩
        rcases List.mem_cons.1 hy with rfl | hy
        · exact h1.2
        · exact h2.2 y hy

theorem placesS_run {fs : Array Go.Field} {pl : List (Nat × Nat)} (h : placesS P fs.toList = some pl) (w : World) :
    (fs.mapM fun f => do pure (f.offset, ← sizeOf f.type) : Sem (Array (Nat × Nat))).run P w = .ok pl.toArray w := by
  rw [Array.mapM_eq_mapM_toList]
  simp only [Sem.run_map]
  rw [mapM_run (P := P) _ (fun (f : Go.Field) => match sizeT P f.type with
    | some k => some (f.offset, k)
    | none => none) w ?_ fs.toList pl h]
  · simp
  · intro f y hy
    cases hk : sizeT P f.type with
    | none => simp [hk] at hy
    | some k =>
      simp [hk] at hy
      subst hy
      simp [sizeT_run hk]

theorem buildV_ok {t : TypeId} {l : List (Nat × V)} {v : V} (h : buildV P t l = some v) (hl : ∀ x ∈ l, wf c x.2) (w : World) :
    (Instr.build t (l.map fun x => (x.1, conc c x.2)).toArray).run P w = .ok (conc c v) w ∧ wf c v := by
  unfold buildV at h
  split at h
  · rename_i z hz
    obtain ⟨z1, z2⟩ := zeroT_run hz c w
    split at h
    · rename_i fs hu
      cases hp : placesS P fs.toList with
      | none => simp [hp] at h
      | some pl =>
        simp only [hp] at h
        cases hf : fillV (nth pl) z.cells l with
        | none => simp [hf] at h
        | some cs =>
          simp [hf] at h
          subst h
          obtain ⟨f1, f2, _⟩ := fill_ok (c := c) (nth pl) l z.cells cs hf (wf_cells z2) hl
          have hpl : nth pl = fun i => pl.toArray[i]? := by funext i; simp [nth_eq]
          refine ⟨?_, by simp only [wf, wfL_iff]; exact f2⟩
          simp only [Instr.build, Sem.run_bind, z1, Result.andThen_ok, run_underlying hu, placesS_run hp, cells_conc']
          rw [← hpl, f1]
          simp [conc, concL_eq]
    · rename_i n e hu
      split at h
      · rename_i k hk
        cases hf : fillV (fun i => some (i * k, k)) z.cells l with
        | none => simp [hf] at h
        | some cs =>
          simp [hf] at h
          subst h
          obtain ⟨f1, f2, _⟩ := fill_ok (c := c) (fun i => some (i * k, k)) l z.cells cs hf (wf_cells z2) hl
          refine ⟨?_, by simp only [wf, wfL_iff]; exact f2⟩
          simp only [Instr.build, Sem.run_bind, z1, Result.andThen_ok, run_underlying hu, sizeT_run hk, cells_conc']
          rw [f1]
          simp [conc, concL_eq]
      · simp at h
    · simp at h
  · simp at h

/-! ### Integers -/
theorem intBeq_eq (a b : Int) : intBeq a b = (a == b) := by
  rw [Bool.eq_iff_iff, beq_iff_eq]
  cases a <;> cases b <;> simp only [intBeq, beq_iff, Int.negSucc.injEq, reduceCtorEq, Bool.false_eq_true, Int.ofNat_eq_natCast]
  all_goals omega

theorem ikBeq_eq {j k : IntKind} (h : ikBeq j k = true) : j = k := by cases j <;> cases k <;> simp_all [ikBeq]

theorem ofInt_toNat (n : Nat) (x : Int) : (BitVec.ofInt n x).toNat = (x % (2 ^ n : Int)).toNat := by
  rw [BitVec.toNat_ofInt]
  norm_cast

theorem bitsV_ok {op : BinOp} {k : IntKind} {x y : Int} {v : V} (h : bitsV op k x y = some v) (w : World) :
    (Op.intBits op k x y).run P w = .ok (conc c v) w ∧ wf c v := by
  unfold bitsV at h
  simp only at h
  cases op <;> simp only [Option.some.injEq, reduceCtorEq] at h
  all_goals subst h
  all_goals refine ⟨?_, by simp [wf]⟩
  all_goals simp only [Op.intBits, Sem.run_pure, conc, BitVec.toNat_and, BitVec.toNat_or, BitVec.toNat_xor, BitVec.toNat_not, ofInt_toNat]
  all_goals rfl

theorem intV_ok {op : BinOp} {k : IntKind} {x y : Int} {v : V} (h : intV op k x y = some v) (h1 : op ≠ .shl) (h2 : op ≠ .shr) (t : TypeId) (w : World) :
    (binOp op t (.int k x) (.int k y)).run P w = .ok (conc c v) w ∧ wf c v := by
  cases op <;> simp only [intV, Option.some.injEq, reduceCtorEq] at h
  case and => have := bitsV_ok (P := P) (c := c) h w; simpa [binOp] using this
  case or => have := bitsV_ok (P := P) (c := c) h w; simpa [binOp] using this
  case xor => have := bitsV_ok (P := P) (c := c) h w; simpa [binOp] using this
  case andNot => have := bitsV_ok (P := P) (c := c) h w; simpa [binOp] using this
  case quo =>
    rw [intBeq_eq] at h
    by_cases hy : y = 0
    · subst hy; simp at h
    · have hy' : (y == 0) = false := by simpa using hy
      rw [hy', cond_false, Option.some.injEq] at h
      subst h
      exact ⟨by simp [binOp, Op.intDiv, hy, conc], by simp [wf]⟩
  case rem =>
    rw [intBeq_eq] at h
    by_cases hy : y = 0
    · subst hy; simp at h
    · have hy' : (y == 0) = false := by simpa using hy
      rw [hy', cond_false, Option.some.injEq] at h
      subst h
      exact ⟨by simp [binOp, Op.intDiv, hy, conc], by simp [wf]⟩
  all_goals subst h
  all_goals refine ⟨?_, by simp [wf]⟩
  all_goals simp [binOp, Op.intArith, Op.intCmp, conc, intBeq_eq]
  all_goals rfl

theorem shiftV_ok {op : BinOp} {k j : IntKind} {x y : Int} {v : V} (h : shiftV op k x y = some v) (t : TypeId) (w : World) (ho : op = .shl ∨ op = .shr) :
    (binOp op t (.int k x) (.int j y)).run P w = .ok (conc c v) w ∧ wf c v := by
  unfold shiftV at h
  by_cases hy : y < 0
  · simp [hy] at h
  · simp only [hy, decide_false, cond_false] at h
    rcases ho with rfl | rfl
    · simp only [Option.some.injEq] at h
      subst h
      exact ⟨by simp [binOp, Op.shift, hy, conc], by simp [wf]⟩
    · simp only [Option.some.injEq] at h
      subst h
      exact ⟨by simp [binOp, Op.shift, hy, conc], by simp [wf]⟩

/-! ### Strings -/
theorem natsBeq_eq : ∀ (a b : List Nat), natsBeq a b = (a == b) := by
  intro a
  induction a with
  | nil => intro b; cases b <;> rfl
  | cons x a ih =>
    intro b
    cases b with
    | nil => rfl
    | cons y b =>
      simp only [natsBeq, ih]
      by_cases h : x = y
      · subst h; simp
      · simp [beqF h, h]

theorem ofNat_inj {a b : Nat} (ha : a < 256) (hb : b < 256) : (UInt8.ofNat a = UInt8.ofNat b) ↔ a = b := by
  constructor
  · intro h
    have := congrArg UInt8.toNat h
    simpa [UInt8.toNat_ofNat', Nat.mod_eq_of_lt ha, Nat.mod_eq_of_lt hb] using this
  · intro h; rw [h]

theorem bytes_beq : ∀ (a b : List Nat), (∀ x ∈ a, x < 256) → (∀ x ∈ b, x < 256) → ((a.map UInt8.ofNat == b.map UInt8.ofNat) = (a == b)) := by
  intro a
  induction a with
  | nil => intro b _ _; cases b <;> rfl
  | cons x a ih =>
    intro b ha hb
    cases b with
    | nil => rfl
    | cons y b =>
      have h1 := ih b (fun z hz => ha z (by simp [hz])) (fun z hz => hb z (by simp [hz]))
      have h2 := ofNat_inj (ha x (by simp)) (hb y (by simp))
      simp only [List.map_cons, List.cons_beq_cons, h1]
      congr 1
      rw [Bool.eq_iff_iff]
      simp [h2]

theorem lessL_eq : ∀ (a b : List Nat), (∀ x ∈ a, x < 256) → (∀ x ∈ b, x < 256) → lessL a b = Op.bytesLess (a.map UInt8.ofNat) (b.map UInt8.ofNat) := by
  intro a
  induction a with
  | nil => intro b _ _; cases b <;> rfl
  | cons x a ih =>
    intro b ha hb
    cases b with
    | nil => rfl
    | cons y b =>
      have h1 := ih b (fun z hz => ha z (by simp [hz])) (fun z hz => hb z (by simp [hz]))
      have hx := ha x (by simp)
      have hy := hb y (by simp)
      simp only [lessL, List.map_cons, Op.bytesLess, h1]
      have hlt : (UInt8.ofNat x < UInt8.ofNat y) ↔ x < y := by
        rw [UInt8.lt_iff_toNat_lt]
        simp [UInt8.toNat_ofNat', Nat.mod_eq_of_lt hx, Nat.mod_eq_of_lt hy]
      by_cases h3 : x < y
      · simp [blt_iff.2 h3, hlt.2 h3]
      · have h3' : Nat.blt x y = false := by
          cases hb : Nat.blt x y with
          | false => rfl
          | true => exact absurd (blt_iff.1 hb) h3
        have h4 : ¬ (UInt8.ofNat x < UInt8.ofNat y) := fun e => h3 (hlt.1 e)
        simp only [h3', cond_false, h4, decide_false, Bool.false_or]
        by_cases h5 : x = y
        · subst h5; simp
        · have h6 : UInt8.ofNat x ≠ UInt8.ofNat y := fun e => h5 ((ofNat_inj hx hy).1 e)
          simp [beqF h5, h6]

theorem strV_ok {op : BinOp} {a b : List Nat} {v : V} (h : strV op a b = some v) (ha : ∀ x ∈ a, x < 256) (hb : ∀ x ∈ b, x < 256) (t : TypeId) (w : World) :
    (binOp op t (conc c (.str a)) (conc c (.str b))).run P w = .ok (conc c v) w ∧ wf c v := by
  have e1 := bytes_beq a b ha hb
  have e2 := lessL_eq a b ha hb
  cases op <;> simp only [strV, Option.some.injEq, reduceCtorEq] at h
  case add =>
    cases hq : Nat.ble (a.length + b.length) 4611686018427387904 with
    | false => simp [hq] at h
    | true =>
      have hle := ble_iff.1 hq
      simp only [hq, cond_true, Option.some.injEq] at h
      subst h
      refine ⟨?_, ?_⟩
      · simp only [conc, binOp]
        have hsz : ¬ (((ByteArray.size ⟨(a.map UInt8.ofNat).toArray⟩ + ByteArray.size ⟨(b.map UInt8.ofNat).toArray⟩ : Nat) : Int) > IntKind.i64.max) := by
          simp [ByteArray.size]; omega
        simp only [Op.stringOp]
        rw [if_neg hsz]
        simp only [Sem.run_pure]
        congr 2
        apply ByteArray.ext
        simp
      · simp only [wf, List.mem_append]
        rintro x (hx | hx)
        · exact ha x hx
        · exact hb x hx
  all_goals subst h
  all_goals refine ⟨?_, by simp [wf]⟩
  all_goals simp only [conc, binOp, Op.stringOp, ByteArray.toList_mk, Sem.run_pure, e1, e2, natsBeq_eq]
end

end Go.Proofs.YtdllelamfamfcaaGreatDoor.Am
