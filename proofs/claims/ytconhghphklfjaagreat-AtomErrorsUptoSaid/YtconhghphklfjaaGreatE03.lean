/- A group that is over or open, pages that are none and records that may not be are refused, and a record that was done is read back; the conditions are those of the given statement, for arguments that a machine can hold. Part 3 of 44. -/
import Derived.Test.YtconhghphklfjaaGreatE02
namespace Go.Proofs.YtconhghphklfjaaGreat.Am
open Go
section
variable {P : Program} {c : Ctx} {σ : H} {w : World}
theorem sizeT_run {t : TypeId} {k : Nat} (h : sizeT P t = some k) (w : World) : (sizeOf t).run P w = .ok k w := by
 unfold sizeT at h
 cases hi : P.info? t with
 | none => simp [hi] at h
 | some i => simp [hi] at h; simp [sizeOf, typeInfo, hi, h]
theorem isAggT_run {t : TypeId} {b : Bool} (h : isAggT P t = some b) (w : World) : (isAgg t).run P w = .ok b w := by
 unfold isAggT at h
 cases hu : P.underlying t with
 | none => simp [hu] at h
 | some d => cases d <;> simp [hu] at h <;> subst h <;> simp [isAgg, run_underlying hu]
theorem toNat_ofNat_bytes (s : ByteArray) : (⟨((s.data.toList.map (·.toNat)).map UInt8.ofNat).toArray⟩ : ByteArray) = s := by
 have : (s.data.toList.map (·.toNat)).map UInt8.ofNat = s.data.toList := by
  rw [List.map_map]
  have : (UInt8.ofNat ∘ fun (x : UInt8) => x.toNat) = id := by funext x; simp
  rw [this]; simp
 rw [this]
theorem ofScalar_ok {x : Value} {v : V} (h : ofScalar x = some v) (c : Ctx) : conc c v = x ∧ wf c v ∧ v.cells = [v] := by
 unfold ofScalar at h
 split at h <;> simp only [Option.some.injEq, reduceCtorEq] at h
 all_goals subst h
 all_goals refine ⟨?_, ?_, by simp [V.cells]⟩
 all_goals first
  | (simp only [conc]; done)
  | (simp only [wf]; done)
  | (simp only [conc]; rw [toNat_ofNat_bytes])
  | (simp only [wf, List.mem_map]; rintro x ⟨y, _, rfl⟩; exact y.toNat_lt)
theorem mapO_scalar {l : List Value} {m : List V} (h : mapO ofScalar l = some m) (c : Ctx) : m.map (conc c) = l ∧ (∀ v ∈ m, wf c v) := by
 induction l generalizing m with
 | nil => simp [mapO] at h; subst h; simp
 | cons x l ih =>
  simp only [mapO] at h
  cases hx : ofScalar x with
  | none => simp [hx] at h
  | some y =>
   cases hl : mapO ofScalar l with
   | none => simp [hx, hl] at h
   | some m' =>
    simp [hx, hl] at h
    subst h
    have h1 := ofScalar_ok hx c
    have h2 := ih hl
    exact ⟨by simp [h1.1, h2.1], by simpa using ⟨h1.2.1, h2.2⟩⟩
theorem ofValue_ok {x : Value} {v : V} (h : ofValue x = some v) (c : Ctx) : conc c v = x ∧ wf c v := by
 unfold ofValue at h
 split at h
 ·rename_i cs
  cases hm : mapO ofScalar cs.toList with
  | none => simp [hm] at h
  | some m =>
   simp [hm] at h
   subst h
   have h1 := mapO_scalar hm c
   refine ⟨?_, ?_⟩
   ·simp only [conc, concL_eq, h1.1]
   ·simp only [wf, wfL_iff]; exact h1.2
 ·rename_i vs
  split at h
  ·rename_i hl
   simp at h; subst h
   have : vs = #[] := by simpa using hl
   subst this
   exact ⟨by simp [conc, concL], by simp [wf, wfL]⟩
  ·simp at h
 ·exact ⟨(ofScalar_ok h c).1, (ofScalar_ok h c).2.1⟩
theorem zeroT_run {t : TypeId} {z : V} (h : zeroT P t = some z) (c : Ctx) (w : World) : (zeroValue t).run P w = .ok (conc c z) w ∧ wf c z := by
 unfold zeroT at h
 cases hi : P.info? t with
 | none => simp [hi] at h
 | some i =>
  cases hz : i.zero with
  | none => simp [hi, hz] at h
  | some x =>
   simp only [hi, hz, Option.bind_some] at h
   have h0 : ofValue x = some z := by
    split at h
    ·simp at h
    ·exact h
   have h1 := ofValue_ok h0 c
   exact ⟨by simp [zeroValue, typeInfo, hi, hz, h1.1], h1.2⟩
theorem ofScalar_storable {x : Value} {v : V} (h : ofScalar x = some v) : storable v = true := by
 unfold ofScalar at h
 split at h <;> simp only [Option.some.injEq, reduceCtorEq] at h
 all_goals subst h; rfl
theorem zeroT_storable {t : TypeId} {z : V} (h : zeroT P t = some z) : ∀ v ∈ z.cells, storable v = true := by
 unfold zeroT at h
 split at h
 ·rename_i x hx
  split at h
  ·simp at h
  ·rename_i hn
   unfold ofValue at h
   split at h
   ·rename_i cs
    cases hm : mapO ofScalar cs.toList with
    | none => simp [hm] at h
    | some m =>
     simp [hm] at h
     subst h
     have : ∀ (l : List Value) (m : List V), mapO ofScalar l = some m → ∀ v ∈ m, storable v = true := by
      intro l
      induction l with
      | nil => intro m h; simp [mapO] at h; subst h; simp
      | cons a l ih =>
       intro m h
       simp only [mapO] at h
       cases h1 : ofScalar a with
       | none => simp [h1] at h
       | some b =>
        cases h2 : mapO ofScalar l with
        | none => simp [h1, h2] at h
        | some m' =>
         simp [h1, h2] at h
         subst h
         intro v hv
         rcases List.mem_cons.1 hv with rfl | hv
         ·exact ofScalar_storable h1
         ·exact ih m' h2 v hv
     exact this _ _ hm
   ·rename_i vs
    split at h
    ·rename_i hvs
     simp only [Option.some.injEq] at h
     exact absurd (by simp [ofValue, hvs]) (hn [])
    ·simp at h
   ·intro v hv
    have h1 := (ofScalar_ok h ⟨fun _ => (0, 0), fun _ => 0, 0, fun _ => false⟩).2.2
    rw [h1] at hv
    simp only [List.mem_singleton] at hv
    subst hv
    exact ofScalar_storable h
 ·simp at h
theorem cells_conc (c : Ctx) (v : V) : (conc c v).cells.toList = v.cells.map (conc c) := by
 cases v with
 | agg l => simp [conc, Value.cells, V.cells, concL_eq]
 | sl id off len cap => cases cap <;> simp [conc, Value.cells, V.cells]
 | _ => simp [conc, Value.cells, V.cells]
theorem cells_conc' (c : Ctx) (v : V) : (conc c v).cells = (v.cells.map (conc c)).toArray := by
 rw [← cells_conc]
theorem wf_cells {v : V} (h : wf c v) : ∀ x ∈ v.cells, wf c x := by
 cases v with
 | agg l => simpa [V.cells, wf, wfL_iff] using h
 | _ => simpa [V.cells] using h
theorem evO_ok {env : Env} {n : Nat} {a : Act} (he : EnvOk c env n a) {x : Operand} {v : V} (h : evO env x = some v) : a.eval x = conc c v ∧ wf c v := by
 cases x with
 | tmp t => simp [evO] at h; subst h; exact ⟨by simpa [Act.eval] using he.val t, he.wfv t⟩
 | const k => have := ofValue_ok (show ofValue k = some v from h) c; exact ⟨by simp [Act.eval, this.1], this.2⟩
 | global g => simp [evO] at h
 | func f => simp [evO] at h; subst h; exact ⟨by simp [Act.eval, conc, concL], by simp [wf, wfL]⟩
def adr (c : Ctx) (id off : Nat) : Addr := ⟨(c.ρ id).1, (c.ρ id).2 + off, none⟩
theorem adr_add (id off j : Nat) : (adr c id off).add j = adr c id (off + j) := by
 simp only [adr, Addr.add_lit, Nat.add_assoc]
theorem cell_of {id n : Nat} {cs : List V} {st : Bool} (h : Rel c σ w) (hg : σ.tr.get id = some (.cells n cs st)) {j : Nat} {v : V} (hv : cs[j]? = some v) :
  w.cell? (adr c id j) = some (conc c v) := by
 obtain ⟨_, _, C, e, fz, hb, _, hc, _⟩ := h.obj id _ hg
 simp [World.cell?, adr, hb, hc j v hv]
theorem rdN_ok {id off k : Nat} {vs : List V} (h : Rel c σ w) (hr : rdN σ id off k = some vs) :
  vs.length = k ∧ (∀ v ∈ vs, wf c v ∧ storable v = true) ∧ ∀ j x, (vs.map (conc c))[j]? = some x → w.cell? ((adr c id off).add j) = some x := by
 unfold rdN at hr
 split at hr
 ·rename_i n cs st hg
  obtain ⟨hn, hwf, _⟩ := h.obj id _ hg
  cases hb : Nat.ble (off + k) n with
  | false => simp [hb] at hr
  | true =>
   have hle := ble_iff.1 hb
   simp only [hb, cond_true, Option.some.injEq] at hr
   have hvs : vs = (cs.drop off).take k := by
    rw [← hr]
    cases hq : (Nat.beq off 0 && Nat.beq k n) with
    | false => rfl
    | true =>
     simp only [Bool.and_eq_true] at hq
     have h0 := beq_iff.1 hq.1
     have h1 := beq_iff.1 hq.2
     subst h0; simp [h1, hn]
   subst hvs
   refine ⟨by simp; omega, fun v hv => hwf v (List.mem_of_mem_drop (List.mem_of_mem_take hv)), fun j x hx => ?_⟩
   rw [adr_add]
   simp only [List.getElem?_map, Option.map_eq_some_iff] at hx
   obtain ⟨v, hv, rfl⟩ := hx
   have hv' : cs[off + j]? = some v := by
    rw [List.getElem?_take] at hv
    split at hv
    ·rwa [List.getElem?_drop] at hv
    ·simp at hv
   exact cell_of h hg hv'
 ·simp at hr
theorem rdN_run {id off k : Nat} {vs : List V} (h : Rel c σ w) (hr : rdN σ id off k = some vs) :
  (loadCells (adr c id off) k).run P w = .ok (vs.map (conc c)).toArray w := by
 obtain ⟨hl, _, hc⟩ := rdN_ok h hr
 have := run_loadCells_list (P := P) (w := w) (adr c id off) (vs.map (conc c)) hc
 rwa [List.length_map, hl] at this
theorem rd1_ok {id off : Nat} {v : V} (h : Rel c σ w) (hr : rd1 σ id off = some v) : w.cell? (adr c id off) = some (conc c v) ∧ wf c v := by
 unfold rd1 at hr
 split at hr
 ·rename_i n cs st hg
  rw [nth_eq] at hr
  obtain ⟨_, hwf, _⟩ := h.obj id _ hg
  exact ⟨cell_of h hg hr, (hwf v (List.mem_of_getElem? hr)).1⟩
 ·simp at hr
theorem loadV_ok {t : TypeId} {a v : V} (h : Rel c σ w) (hr : loadV P σ t a = some v) :
  (Instr.loadAt t (conc c a)).run P w = .ok (conc c v) w ∧ wf c v := by
 unfold loadV at hr
 split at hr
 ·rename_i id off
  have ha : conc c (.ptr id off) = .pointer (some (adr c id off)) := by simp [conc, adr]
  rw [ha]
  split at hr
  ·rename_i hg
   split at hr
   ·rename_i k hk
    cases hq : rdN σ id off k with
    | none => simp [hq] at hr
    | some vs =>
     simp [hq] at hr
     subst hr
     have h1 := rdN_run (P := P) h hq
     have h2 := rdN_ok h hq
     refine ⟨?_, by simp only [wf, wfL_iff]; exact fun v hv => (h2.2.1 v hv).1⟩
     simp [Instr.loadAt, Instr.sureAddr, loadVar, isAggT_run hg, sizeT_run hk, h1, conc, concL_eq]
   ·simp at hr
  ·rename_i hg
   have h1 := rd1_ok h hr
   exact ⟨by simp [Instr.loadAt, Instr.sureAddr, loadVar, isAggT_run hg, h1.1], h1.2⟩
  ·simp at hr
 ·simp at hr
def World.setRow (w : World) (b : Nat) (C : Array Value) (e : TypeId) (fz : Nat × Nat) : World := { w with heap := w.heap.setIfInBounds b (.cells C e fz) }
theorem setCell_row {b : Nat} {C : Array Value} {e : TypeId} {fz : Nat × Nat} (hb : w.heap[b]? = some (.cells C e fz)) (p : Nat) (v : Value) :
  w.setCell ⟨b, p, none⟩ v = World.setRow w b (C.setIfInBounds p v) e fz := by
 unfold World.setCell World.setRow
 congr 1
 apply Array.ext_getElem?
 intro i
 rw [Array.getElem?_modify, Array.getElem?_setIfInBounds]
 obtain ⟨hlt, hb'⟩ := Array.getElem?_eq_some_iff.1 hb
 by_cases hi : b = i
 ·subst hi
  simp [hlt, hb']
 ·simp [hi]
theorem setRow_get {b : Nat} {C : Array Value} {e : TypeId} {fz : Nat × Nat} (hb : b < w.heap.size) (i : Nat) :
  (World.setRow w b C e fz).heap[i]? = if b = i then some (.cells C e fz) else w.heap[i]? := by
 unfold World.setRow
 simp only [Array.getElem?_setIfInBounds, hb, if_true]
theorem setRow_setRow {b : Nat} {C D : Array Value} {e : TypeId} {fz : Nat × Nat} :
  World.setRow (World.setRow w b C e fz) b D e fz = World.setRow w b D e fz := by
 unfold World.setRow
 simp
theorem storeCells_run : ∀ (vs : List Value) (i : Nat) (w : World) (b p : Nat) (C : Array Value) (e : TypeId) (fz : Nat × Nat),
  w.heap[b]? = some (.cells C e fz) → (∀ j, j < C.size → ¬ (fz.1 ≤ j ∧ j < fz.2)) → p + i + vs.length ≤ C.size → (∀ v ∈ vs, v.oneCell' = true) →
  ∃ C', (storeCells ⟨b, p, none⟩ vs i).run P w = .ok () (World.setRow w b C' e fz) ∧ C'.size = C.size ∧
   ∀ j, C'[j]? = if p + i ≤ j ∧ j < p + i + vs.length then vs[j - (p + i)]? else C[j]? := by
 intro vs
 induction vs with
 | nil =>
  intro i w b p C e fz hb _ _ _
  refine ⟨C, ?_, rfl, fun j => by simp; omega⟩
  have : World.setRow w b C e fz = w := by
   unfold World.setRow
   congr 1
   apply Array.ext_getElem?
   intro k
   rw [Array.getElem?_setIfInBounds]
   obtain ⟨hlt, hb'⟩ := Array.getElem?_eq_some_iff.1 hb
   by_cases hk : b = k
   ·subst hk; simp [hlt, hb']
   ·simp [hk]
  simp [storeCells, this]
 | cons v vs ih =>
  intro i w b p C e fz hb hf hl ho
  have hlt : b < w.heap.size := (Array.getElem?_eq_some_iff.1 hb).1
  simp only [List.length_cons] at hl
  have hcell : w.cell? ⟨b, p + i, none⟩ = some (C[p + i]'(by omega)) := by
   simp [World.cell?, hb]
  have hfr : w.frozen? ⟨b, p + i, none⟩ = false := by
   have := hf (p + i) (by omega)
   simp only [World.frozen?, hb]
   simpa using this
  have hstep : (store (Addr.add ⟨b, p, none⟩ i) v).run P w = .ok () (World.setRow w b (C.setIfInBounds (p + i) v) e fz) := by
   rw [Addr.add_lit, run_store P w _ v _ (ho v (by simp)), hcell]
   simp only [hfr, Bool.false_eq_true, if_false]
   rw [setCell_row hb]
  obtain ⟨C', h1, h2, h3⟩ := ih (i + 1) (World.setRow w b (C.setIfInBounds (p + i) v) e fz) b p (C.setIfInBounds (p + i) v) e fz
   (by rw [setRow_get hlt]; simp) (by simpa using hf) (by simp; omega) (fun x hx => ho x (by simp [hx]))
  refine ⟨C', ?_, by simpa using h2, fun j => ?_⟩
  ·simp only [storeCells, Sem.run_bind, hstep, Result.andThen_ok, h1, setRow_setRow]
  ·rw [h3 j]
   by_cases hj : j = p + i
   ·subst hj
    have e1 : ¬ (p + (i + 1) ≤ p + i ∧ p + i < p + (i + 1) + vs.length) := by omega
    have e2 : p + i ≤ p + i ∧ p + i < p + i + (v :: vs).length := by simp
    rw [if_neg e1, if_pos e2]
    have : p + i < C.size := by omega
    simp [this]
   ·by_cases hj2 : p + (i + 1) ≤ j ∧ j < p + (i + 1) + vs.length
    ·have e2 : p + i ≤ j ∧ j < p + i + (v :: vs).length := by simp; omega
     rw [if_pos hj2, if_pos e2]
     have : j - (p + i) = (j - (p + (i + 1))) + 1 := by omega
     rw [this]; simp
    ·have e2 : ¬ (p + i ≤ j ∧ j < p + i + (v :: vs).length) := by simp; omega
     rw [if_neg hj2, if_neg e2]
     simp [Ne.symm hj]
theorem storable_ok {v : V} (h : storable v = true) : (conc c v).oneCell' = true := by
 cases v with
 | sl id off len cap => cases cap <;> simp [conc, Value.oneCell']
 | agg l => simp [storable] at h
 | tup l => simp [storable] at h
 | _ => simp [conc, Value.oneCell']
theorem FzOk.clear {fz : Nat × Nat} {n : Nat} (h : FzOk false fz n) : ∀ j, j < n → ¬ (fz.1 ≤ j ∧ j < fz.2) := by
 intro j hj
 simp [FzOk] at h; subst h; simp
theorem get_put (h : H) (id : Nat) (o : Option Obj) (j : Nat) : (h.put id o).tr.get j = if j = id then o else h.tr.get j := by
 simp [H.put, get_set]
theorem get_new (h : H) (o : Obj) (j : Nat) : (h.new o).tr.get j = if j = h.next then some o else h.tr.get j := by
 simp [H.new, get_set]
theorem rowSize_setRow {b : Nat} {C C' : Array Value} {e : TypeId} {fz fz' : Nat × Nat} (hb : w.heap[b]? = some (.cells C e fz)) (hs : C'.size = C.size) (i : Nat) :
  rowSize (World.setRow w b C' e fz') i = rowSize w i := by
 have hlt : b < w.heap.size := (Array.getElem?_eq_some_iff.1 hb).1
 unfold rowSize
 rw [setRow_get hlt]
 by_cases hi : b = i
 ·subst hi; simp [hb, hs]
 ·simp [hi]
theorem Rel.setRowF {id n : Nat} {cs cs' : List V} {st' : Bool} {C C' : Array Value} {e : TypeId} {fz fz' : Nat × Nat} (h : Rel c σ w) (hg : σ.tr.get id = some (.cells n cs false))
  (hb : w.heap[(c.ρ id).1]? = some (.cells C e fz)) (hs : C'.size = C.size) (hl : n = cs'.length) (hwf : ∀ v ∈ cs', wf c v ∧ storable v = true)
  (hv : ∀ j v, cs'[j]? = some v → C'[(c.ρ id).2 + j]? = some (conc c v)) (hfz' : FzOk st' fz' C.size) :
  Rel c (σ.put id (some (.cells n cs' st'))) (World.setRow w (c.ρ id).1 C' e fz') ∧ Stp c w c (World.setRow w (c.ρ id).1 C' e fz') := by
 have hlt : (c.ρ id).1 < w.heap.size := (Array.getElem?_eq_some_iff.1 hb).1
 have hX := h.notX hg (by intro _ _ he; cases he)
 obtain ⟨hn, hw, C₀, e₀, fz₀, hb₀, hle, hc, _⟩ := h.obj id _ hg
 rw [hb] at hb₀
 simp only [Option.some.injEq, Go.Obj.cells.injEq] at hb₀
 obtain ⟨rfl, rfl, rfl⟩ := hb₀
 refine ⟨⟨h.next, fun j o hj => ?_, fun j hj => by simpa [World.setRow] using h.blk j hj, fun j hj => by rw [rowSize_setRow hb hs]; exact h.zz j hj, fun i j o o' hi hj he => ?_, fun j o hj => ?_, fun j cs₁ st₁ hj hx => ?_, fun j o hj hx => ?_⟩,
  ⟨Ext.refl c, by simp [World.setRow], fun b _ => rowSize_setRow hb hs b, fun b _ hn => ?_, fun j h1 h2 => by omega, rfl, rfl⟩⟩
 ·rw [get_put] at hj
  by_cases hji : j = id
  ·subst hji; exact h.live j _ hg
  ·simp [hji] at hj; exact h.live j o hj
 ·rw [get_put] at hi hj
  have hi' : ∃ o, σ.tr.get i = some o := by
   by_cases hii : i = id
   ·subst hii; exact ⟨_, hg⟩
   ·simp [hii] at hi; exact ⟨_, hi⟩
  have hj' : ∃ o, σ.tr.get j = some o := by
   by_cases hii : j = id
   ·subst hii; exact ⟨_, hg⟩
   ·simp [hii] at hj; exact ⟨_, hj⟩
  obtain ⟨_, hi'⟩ := hi'
  obtain ⟨_, hj'⟩ := hj'
  exact h.inj i j _ _ hi' hj' he
 ·rw [get_put] at hj
  by_cases hji : j = id
  ·subst hji
   simp at hj
   subst hj
   exact ⟨hl, hwf, C', e, fz', by rw [setRow_get hlt]; simp, by rw [hs]; exact hle, hv, by rw [hs]; exact hfz'⟩
  ·simp [hji] at hj
   have hne : (c.ρ id).1 ≠ (c.ρ j).1 := fun he => hji (h.inj1 hj hg he.symm hX)
   have := h.obj j o hj
   cases o with
   | cells n' cs'' st' =>
    obtain ⟨a1, a2, D, e', fz', a3, a4⟩ := this
    exact ⟨a1, a2, D, e', fz', by rw [setRow_get hlt]; simpa [hne] using a3, a4⟩
   | map es clock => exact ⟨this.1, by rw [setRow_get hlt]; simpa [hne] using this.2⟩
   | loop busy ntm env ps as bd =>
    obtain ⟨fn, tmps, D, b1, b2⟩ := this
    exact ⟨fn, tmps, D, by rw [setRow_get hlt]; simpa [hne] using b1, b2⟩
   | iter mid since last seen => exact ⟨this.1, this.2.1, by rw [setRow_get hlt]; simpa [hne] using this.2.2⟩
   | strIter l pos => exact ⟨this.1, this.2.1, by rw [setRow_get hlt]; simpa [hne] using this.2.2⟩
 ·rw [get_put] at hj
  by_cases hji : j = id
  ·subst hji
   simp at hj
   rw [hj.1] at hg
   exact h.one j _ _ hg hx
  ·simp [hji] at hj
   exact h.one j cs₁ st₁ hj hx
 ·rw [get_put] at hj
  by_cases hji : j = id
  ·rw [hji, hX] at hx; cases hx
  ·simp [hji] at hj; exact h.fx j o hj hx
 ·rw [setRow_get hlt]
  have : (c.ρ id).1 ≠ b := fun he => by have := hn id (h.live id _ hg) he; rw [hX] at this; cases this
  simp [this]
theorem Rel.setRow {id n : Nat} {cs cs' : List V} {C C' : Array Value} {e : TypeId} {fz : Nat × Nat} (h : Rel c σ w) (hg : σ.tr.get id = some (.cells n cs false))
  (hb : w.heap[(c.ρ id).1]? = some (.cells C e fz)) (hs : C'.size = C.size) (hl : n = cs'.length) (hwf : ∀ v ∈ cs', wf c v ∧ storable v = true)
  (hv : ∀ j v, cs'[j]? = some v → C'[(c.ρ id).2 + j]? = some (conc c v)) :
  Rel c (σ.put id (some (.cells n cs' false))) (World.setRow w (c.ρ id).1 C' e fz) ∧ Stp c w c (World.setRow w (c.ρ id).1 C' e fz) := by
 refine h.setRowF hg hb hs hl hwf hv ?_
 obtain ⟨_, _, C₀, e₀, fz₀, hb₀, _, _, hfz⟩ := h.obj id _ hg
 rw [hb] at hb₀
 simp only [Option.some.injEq, Go.Obj.cells.injEq] at hb₀
 obtain ⟨rfl, rfl, rfl⟩ := hb₀
 exact hfz
theorem wrN_ok {id off : Nat} {vs : List V} {σ' : H} (h : Rel c σ w) (hr : wrN σ id off vs = some σ') (hwf : ∀ v ∈ vs, wf c v ∧ storable v = true) :
  ∃ w', (storeCells (adr c id off) (vs.map (conc c))).run P w = .ok () w' ∧ Rel c σ' w' ∧ Stp c w c w' := by
 unfold wrN at hr
 split at hr
 ·rename_i n cs hg
  obtain ⟨hn, hw, C, e, fz, hb, hle, hc, hfz⟩ := h.obj id _ hg
  cases hq : Nat.ble (off + vs.length) n with
  | false => simp [hq] at hr
  | true =>
   have hle' := ble_iff.1 hq
   simp only [hq, cond_true, Option.some.injEq] at hr
   have hcs : (cond (Nat.beq off 0 && Nat.beq vs.length n) vs (cs.take off ++ (vs ++ cs.drop (off + vs.length)))) = cs.take off ++ (vs ++ cs.drop (off + vs.length)) := by
    cases hq' : (Nat.beq off 0 && Nat.beq vs.length n) with
    | false => rfl
    | true =>
     simp only [Bool.and_eq_true] at hq'
     have h0 := beq_iff.1 hq'.1
     have h1 := beq_iff.1 hq'.2
     subst h0
     simp [h1, hn]
   rw [hcs] at hr
   subst hr
   obtain ⟨C', h1, h2, h3⟩ := storeCells_run (P := P) (vs.map (conc c)) 0 w (c.ρ id).1 ((c.ρ id).2 + off) C e fz hb hfz.clear (by simp; omega)
    (by simp only [List.mem_map]; rintro _ ⟨v, hv, rfl⟩; exact storable_ok (hwf v hv).2)
   refine ⟨_, h1, ?_⟩
   refine h.setRow hg hb h2 (by simp; omega) ?_ ?_
   ·intro v hv
    simp only [List.mem_append] at hv
    rcases hv with hv | hv | hv
    ·exact hw v (List.mem_of_mem_take hv)
    ·exact hwf v hv
    ·exact hw v (List.mem_of_mem_drop hv)
   ·intro j v hv
    rw [h3]
    by_cases h4 : j < off
    ·rw [List.getElem?_append_left (by simp; omega), List.getElem?_take, if_pos h4] at hv
     rw [if_neg (by omega)]
     exact hc j v hv
    ·rw [List.getElem?_append_right (by simp; omega)] at hv
     have hlen : (cs.take off).length = off := by simp; omega
     rw [hlen] at hv
     by_cases h5 : j < off + vs.length
     ·rw [List.getElem?_append_left (by omega)] at hv
      rw [if_pos (by simp; omega)]
      rw [List.getElem?_map, show (c.ρ id).2 + j - ((c.ρ id).2 + off + 0) = j - off from by omega, hv]
      rfl
     ·rw [List.getElem?_append_right (by omega), List.getElem?_drop] at hv
      rw [if_neg (by simp; omega)]
      refine hc j v ?_
      rw [← hv]; congr 1; omega
 ·simp at hr
theorem storeV_ok {t : TypeId} {a v : V} {σ' : H} (h : Rel c σ w) (hr : storeV P σ t a v = some σ') (hv : wf c v) :
  ∃ w', (Instr.storeAt t (conc c a) (conc c v)).run P w = .ok () w' ∧ Rel c σ' w' ∧ Stp c w c w' := by
 unfold storeV at hr
 split at hr
 ·rename_i id off
  split at hr
  ·rename_i k hk
   cases hq : (Nat.beq v.cells.length k && v.cells.all storable) with
   | false => simp [hq] at hr
   | true =>
    simp only [hq, cond_true] at hr
    simp only [Bool.and_eq_true] at hq
    have hlen := beq_iff.1 hq.1
    obtain ⟨w', h1, h2, h3⟩ := wrN_ok (P := P) h hr (fun x hx => ⟨wf_cells hv x hx, (List.all_eq_true.1 hq.2) x hx⟩)
    refine ⟨w', ?_, h2, h3⟩
    have ha : conc c (.ptr id off) = .pointer (some (adr c id off)) := by simp [conc, adr]
    rw [ha]
    simp only [Instr.storeAt, Instr.sureAddr, pure_bind, storeVar, Sem.run_bind, sizeT_run hk, Result.andThen_ok]
    have : (conc c v).cells.size = k := by rw [cells_conc']; simpa using hlen
    simp [this, cells_conc, h1]
  ·simp at hr
 ·simp at hr
def Ctx.grow (c : Ctx) (b base size : Nat) : Ctx := ⟨fun i => if i = c.N then (b, base) else c.ρ i, fun x => if x = b then size else c.Z x, c.N + 1, fun i => if i = c.N then false else c.X i⟩
theorem grow_N (c : Ctx) (b base size : Nat) : (c.grow b base size).N = c.N + 1 := rfl
theorem grow_ρ_new (c : Ctx) (b base size : Nat) : (c.grow b base size).ρ c.N = (b, base) := by simp [Ctx.grow]
theorem grow_ρ_old (c : Ctx) (b base size : Nat) {i : Nat} (h : i < c.N) : (c.grow b base size).ρ i = c.ρ i := by
 simp [Ctx.grow, Nat.ne_of_lt h]
theorem grow_X_new (c : Ctx) (b base size : Nat) : (c.grow b base size).X c.N = false := by simp [Ctx.grow]
theorem grow_X_old (c : Ctx) (b base size : Nat) {i : Nat} (h : i < c.N) : (c.grow b base size).X i = c.X i := by
 simp [Ctx.grow, Nat.ne_of_lt h]
theorem alloc_get (w : World) (o : Go.Obj) (i : Nat) : (w.alloc o).heap[i]? = if i = w.heap.size then some o else w.heap[i]? := by
 simp only [World.alloc, Array.getElem?_push]
 try rfl
def objSize : Go.Obj → Nat
 | .cells C _ _ => C.size
 | _ => 0
theorem rowSize_alloc_old (w : World) (o : Go.Obj) {b : Nat} (h : b < w.heap.size) : rowSize (w.alloc o) b = rowSize w b := by
 unfold rowSize; rw [alloc_get]; simp [Nat.ne_of_lt h]
theorem rowSize_alloc_new (w : World) (o : Go.Obj) : rowSize (w.alloc o) w.heap.size = objSize o := by
 unfold rowSize; rw [alloc_get]; simp; cases o <;> rfl
theorem ext_grow (h : Rel c σ w) (base size : Nat) : Ext c (c.grow w.heap.size base size) :=
 ⟨by simp [Ctx.grow], fun id hi => grow_ρ_old c _ _ _ hi, fun id hi => by
  have := h.blk id hi
  simp [Ctx.grow, Nat.ne_of_lt this], fun id hi => grow_X_old c _ _ _ hi⟩
theorem ObjOk.later {c' : Ctx} {w' : World} (e : Ext c c') {id : Nat} {o : Obj} (hid : id < c.N) (hb : w'.heap[(c.ρ id).1]? = w.heap[(c.ρ id).1]?) (h : ObjOk c w id o) : ObjOk c' w' id o := by
 cases o with
 | cells n cs st =>
  obtain ⟨a1, a2, C, el, fz, a3, a4, a5, a6⟩ := h
  refine ⟨a1, fun v hv => ⟨(conc_ext e v (a2 v hv).1).2, (a2 v hv).2⟩, C, el, fz, by rw [e.ρ id hid, hb, a3], by rw [e.ρ id hid]; exact a4, fun j v hv => ?_, a6⟩
  rw [e.ρ id hid, (conc_ext e v (a2 v (List.mem_of_getElem? hv)).1).1]
  exact a5 j v hv
 | map es clock =>
  refine ⟨fun x hx => ⟨(conc_ext e _ (h.1 x hx).1).2, (conc_ext e _ (h.1 x hx).2).2⟩, ?_⟩
  rw [e.ρ id hid, hb, h.2]
  congr 2
  congr 1
  refine List.map_congr_left fun x hx => ?_
  simp only [concE, (conc_ext e _ (h.1 x hx).1).1, (conc_ext e _ (h.1 x hx).2).1]
 | loop busy ntm env ps as bd =>
  obtain ⟨fn, tmps, D, b1, b2, b3, b4⟩ := h
  exact ⟨fn, tmps, D, by rw [e.ρ id hid, hb]; exact b1, b2, fun t => by rw [b3 t, (conc_ext e _ (b4 t)).1], fun t => (conc_ext e _ (b4 t)).2⟩
 | iter mid since last seen => exact ⟨Nat.lt_of_lt_of_le h.1 e.le, by rw [e.ρ id hid]; exact h.2.1, by rw [e.ρ id hid, hb, e.ρ mid h.1]; exact h.2.2⟩
 | strIter l pos => exact ⟨h.1, by rw [e.ρ id hid]; exact h.2.1, by rw [e.ρ id hid, hb]; exact h.2.2⟩
theorem Rel.new (h : Rel c σ w) (o : Obj) (O : Go.Obj) (base : Nat) (hb0 : base = 0) (ho : ObjOk (c.grow w.heap.size base (objSize O)) (w.alloc O) c.N o) :
  Rel (c.grow w.heap.size base (objSize O)) (σ.new o) (w.alloc O) ∧ Stp c w (c.grow w.heap.size base (objSize O)) (w.alloc O) := by
 have e := ext_grow h base (objSize O)
 have hold : ∀ id o, σ.tr.get id = some o → id < c.N := h.live
 refine ⟨⟨by simp [H.new, Ctx.grow, h.next], fun id o' hi => ?_, fun id hi => ?_, fun id hi => ?_, fun i j o₁ o₂ hi hj he => ?_, fun id o' hi => ?_, fun id cs₁ st₁ hi hx => ?_, fun id o' hi hx => ?_⟩,
  ⟨e, by simp, fun b hb => rowSize_alloc_old w O hb, fun b hb _ => by rw [alloc_get]; simp [Nat.ne_of_lt hb], fun id h1 h2 => ?_, rfl, rfl⟩⟩
 ·rw [get_new] at hi
  by_cases hn : id = σ.next
  ·rw [hn, h.next]; simp [Ctx.grow]
  ·simp [hn] at hi; exact Nat.lt_of_lt_of_le (hold id o' hi) (by simp [Ctx.grow])
 ·simp only [grow_N] at hi
  by_cases hn : id = c.N
  ·subst hn; rw [grow_ρ_new]; simp
  ·rw [grow_ρ_old c _ _ _ (by omega)]
   have := h.blk id (by omega)
   simp; omega
 ·simp only [grow_N] at hi
  by_cases hn : id = c.N
  ·subst hn; rw [grow_ρ_new, rowSize_alloc_new]; simp [Ctx.grow]
  ·have hlt : id < c.N := by omega
   have hb := h.blk id hlt
   rw [grow_ρ_old c _ _ _ hlt, rowSize_alloc_old w O hb, ← h.zz id hlt]
   simp [Ctx.grow, Nat.ne_of_lt hb]
 ·rw [get_new] at hi hj
  have key : ∀ i o', (if i = σ.next then some o else σ.tr.get i) = some o' → (i = c.N ∧ ((c.grow w.heap.size base (objSize O)).ρ i).1 = w.heap.size) ∨ (i < c.N ∧ (∃ o'', σ.tr.get i = some o'') ∧ ((c.grow w.heap.size base (objSize O)).ρ i).1 = (c.ρ i).1 ∧ (c.ρ i).1 < w.heap.size) := by
   intro i o' hi
   by_cases hn : i = σ.next
   ·left; rw [hn, h.next, grow_ρ_new]; simp
   ·simp [hn] at hi
    right
    have := hold i o' hi
    exact ⟨this, ⟨o', hi⟩, by rw [grow_ρ_old c _ _ _ this], h.blk i this⟩
  rcases key i o₁ hi with ⟨a1, a2⟩ | ⟨a1, ⟨_, a2⟩, a3, a4⟩ <;> rcases key j o₂ hj with ⟨b1, b2⟩ | ⟨b1, ⟨_, b2⟩, b3, b4⟩
  ·exact .inl (by omega)
  ·omega
  ·omega
  ·rw [grow_X_old c _ _ _ a1, grow_X_old c _ _ _ b1]; exact h.inj i j _ _ a2 b2 (by rw [← a3, ← b3, he])
 ·rw [get_new] at hi
  by_cases hn : id = σ.next
  ·simp [hn] at hi
   subst hi
   rw [hn, h.next]
   exact ho
  ·simp [hn] at hi
   have hlt := hold id o' hi
   exact (h.obj id o' hi).later e hlt (by rw [alloc_get]; simp [Nat.ne_of_lt (h.blk id hlt)])
 ·rw [get_new] at hi
  by_cases hn : id = σ.next
  ·rw [hn, h.next, grow_ρ_new]; exact hb0
  ·simp [hn] at hi
   rw [grow_X_old c _ _ _ (hold id _ hi)] at hx
   rw [grow_ρ_old c _ _ _ (hold id _ hi)]; exact h.one id cs₁ st₁ hi hx
 ·rw [get_new] at hi
  by_cases hn : id = σ.next
  ·rw [hn, h.next, grow_X_new] at hx; cases hx
  ·simp [hn] at hi
   rw [grow_X_old c _ _ _ (hold id _ hi)] at hx
   exact h.fx id o' hi hx
 ·simp only [grow_N] at h2
  have : id = c.N := by omega
  subst this
  left; rw [grow_ρ_new]; exact Nat.le_refl _
theorem Rel.newRow {cs : List V} (h : Rel c σ w) (hwf : ∀ v ∈ cs, wf c v ∧ storable v = true) (e : TypeId) (more : List Value) :
  Rel (c.grow w.heap.size 0 (cs.length + more.length)) (σ.new (.cells cs.length cs false)) (w.alloc (.cells (cs.map (conc c) ++ more).toArray e)) ∧
  Stp c w (c.grow w.heap.size 0 (cs.length + more.length)) (w.alloc (.cells (cs.map (conc c) ++ more).toArray e)) := by
 have hsz : objSize (.cells (cs.map (conc c) ++ more).toArray e) = cs.length + more.length := by simp [objSize]
 have := h.new (.cells cs.length cs false) (.cells (cs.map (conc c) ++ more).toArray e) 0 rfl ?_
 ·rw [hsz] at this; exact this
 ·rw [hsz]
  have ex := ext_grow h 0 (cs.length + more.length)
  refine ⟨rfl, fun v hv => ⟨(conc_ext ex v (hwf v hv).1).2, (hwf v hv).2⟩, (cs.map (conc c) ++ more).toArray, e, (0, 0), by rw [grow_ρ_new, alloc_get]; simp, by rw [grow_ρ_new]; simp, fun j v hv => ?_, rfl⟩
  rw [grow_ρ_new]
  obtain ⟨hj, hv'⟩ := List.getElem?_eq_some_iff.1 hv
  rw [(conc_ext ex v (hwf v (List.mem_of_getElem? hv)).1).1]
  simp [List.getElem?_append_left, hj, hv']
theorem Rel.kill (h : Rel c σ w) (id : Nat) : Rel c (σ.put id none) w := by
 refine ⟨h.next, fun j o hj => ?_, h.blk, h.zz, fun i j o o' hi hj he => ?_, fun j o hj => ?_, fun j cs₁ st₁ hj hx => ?_, fun j o hj hx => ?_⟩
 ·rw [get_put] at hj
  by_cases hji : j = id
  ·simp [hji] at hj
  ·simp [hji] at hj; exact h.live j o hj
 ·rw [get_put] at hi hj
  by_cases h1 : i = id
  ·simp [h1] at hi
  ·by_cases h2 : j = id
   ·simp [h2] at hj
   ·simp [h1] at hi; simp [h2] at hj; exact h.inj i j o o' hi hj he
 ·rw [get_put] at hj
  by_cases hji : j = id
  ·simp [hji] at hj
  ·simp [hji] at hj; exact h.obj j o hj
 ·rw [get_put] at hj
  by_cases hji : j = id
  ·simp [hji] at hj
  ·simp [hji] at hj; exact h.one j cs₁ st₁ hj hx
 ·rw [get_put] at hj
  by_cases hji : j = id
  ·simp [hji] at hj
  ·simp [hji] at hj; exact h.fx j o hj hx
theorem Rel.setMap {id : Nat} {es es' : List (V × V × Nat)} {k k' : Nat} (h : Rel c σ w) (hg : σ.tr.get id = some (.map es k)) (hwf : ∀ x ∈ es', wf c x.1 ∧ wf c x.2.1) :
  Rel c (σ.put id (some (.map es' k'))) { w with heap := w.heap.setIfInBounds (c.ρ id).1 (.map (es'.map (concE c)).toArray k') } ∧
  Stp c w c { w with heap := w.heap.setIfInBounds (c.ρ id).1 (.map (es'.map (concE c)).toArray k') } := by
 obtain ⟨hw, hb⟩ := h.obj id _ hg
 have hlt : (c.ρ id).1 < w.heap.size := (Array.getElem?_eq_some_iff.1 hb).1
 have hX := h.notX hg (by intro _ _ he; cases he)
 have get : ∀ i, ({ w with heap := w.heap.setIfInBounds (c.ρ id).1 (.map (es'.map (concE c)).toArray k') } : World).heap[i]? = if (c.ρ id).1 = i then some (.map (es'.map (concE c)).toArray k') else w.heap[i]? := by
  intro i; simp only [Array.getElem?_setIfInBounds, hlt, if_true]
 have rows : ∀ i, rowSize { w with heap := w.heap.setIfInBounds (c.ρ id).1 (.map (es'.map (concE c)).toArray k') } i = rowSize w i := by
  intro i
  unfold rowSize
  rw [get]
  by_cases hi : (c.ρ id).1 = i
  ·subst hi; simp [hb]
  ·simp [hi]
 refine ⟨⟨h.next, fun j o hj => ?_, fun j hj => by simpa using h.blk j hj, fun j hj => by rw [rows]; exact h.zz j hj, fun i j o o' hi hj he => ?_, fun j o hj => ?_, fun j cs₁ st₁ hj hx => ?_, fun j o hj hx => ?_⟩,
  ⟨Ext.refl c, by simp, fun b _ => rows b, fun b _ hn => ?_, fun j h1 h2 => by omega, rfl, rfl⟩⟩
 ·rw [get_put] at hj
  by_cases hji : j = id
  ·subst hji; exact h.live j _ hg
  ·simp [hji] at hj; exact h.live j o hj
 ·rw [get_put] at hi hj
  have hi' : ∃ o, σ.tr.get i = some o := by
   by_cases hii : i = id
   ·subst hii; exact ⟨_, hg⟩
   ·simp [hii] at hi; exact ⟨_, hi⟩
  have hj' : ∃ o, σ.tr.get j = some o := by
   by_cases hii : j = id
   ·subst hii; exact ⟨_, hg⟩
   ·simp [hii] at hj; exact ⟨_, hj⟩
  obtain ⟨_, hi'⟩ := hi'
  obtain ⟨_, hj'⟩ := hj'
  exact h.inj i j _ _ hi' hj' he
 ·rw [get_put] at hj
  by_cases hji : j = id
  ·subst hji
   simp at hj
   subst hj
   exact ⟨hwf, by rw [get]; simp⟩
  ·simp [hji] at hj
   have hne : (c.ρ id).1 ≠ (c.ρ j).1 := fun he => hji (h.inj1 hj hg he.symm hX)
   have := h.obj j o hj
   cases o with
   | cells n' cs'' st' =>
    obtain ⟨a1, a2, D, e', fz', a3, a4⟩ := this
    exact ⟨a1, a2, D, e', fz', by rw [get]; simpa [hne] using a3, a4⟩
   | map es clock => exact ⟨this.1, by rw [get]; simpa [hne] using this.2⟩
   | loop busy ntm env ps as bd =>
    obtain ⟨fn, tmps, D, b1, b2⟩ := this
    exact ⟨fn, tmps, D, by rw [get]; simpa [hne] using b1, b2⟩
   | iter mid since last seen => exact ⟨this.1, this.2.1, by rw [get]; simpa [hne] using this.2.2⟩
   | strIter l pos => exact ⟨this.1, this.2.1, by rw [get]; simpa [hne] using this.2.2⟩
 ·rw [get_put] at hj
  by_cases hji : j = id
  ·simp [hji] at hj
  ·simp [hji] at hj; exact h.one j cs₁ st₁ hj hx
 ·rw [get_put] at hj
  by_cases hji : j = id
  ·rw [hji, hX] at hx; cases hx
  ·simp [hji] at hj; exact h.fx j o hj hx
 ·rw [get]
  have : (c.ρ id).1 ≠ b := fun he => by have := hn id (h.live id _ hg) he; rw [hX] at this; cases this
  simp [this]
theorem Rel.setLoop {id ntm : Nat} {busy busy' : Bool} {env : Env} {ps : List Nat} {as bd : Code} {fn D : Nat} {tmps : Array Value} (h : Rel c σ w) (hg : σ.tr.get id = some (.loop busy ntm env ps as bd))
  (hb : w.heap[(c.ρ id).1]? = some (.loop ⟨cond busy .busy .ready, none, fn, tmps, ps.toArray, as, bd, D⟩)) (hwf : tmps.size = ntm ∧ (∀ t, tmps.getD t undef = conc c (Env.v env t)) ∧ (∀ t, wf c (Env.v env t))) :
  Rel c (σ.put id (some (.loop busy' ntm env ps as bd))) { w with heap := w.heap.setIfInBounds (c.ρ id).1 (.loop ⟨cond busy' .busy .ready, none, fn, tmps, ps.toArray, as, bd, D⟩) } ∧
  Stp c w c { w with heap := w.heap.setIfInBounds (c.ρ id).1 (.loop ⟨cond busy' .busy .ready, none, fn, tmps, ps.toArray, as, bd, D⟩) } := by
 have hlt : (c.ρ id).1 < w.heap.size := (Array.getElem?_eq_some_iff.1 hb).1
 have hX := h.notX hg (by intro _ _ he; cases he)
 have get : ∀ i, ({ w with heap := w.heap.setIfInBounds (c.ρ id).1 (.loop ⟨cond busy' .busy .ready, none, fn, tmps, ps.toArray, as, bd, D⟩) } : World).heap[i]? = if (c.ρ id).1 = i then some (.loop ⟨cond busy' .busy .ready, none, fn, tmps, ps.toArray, as, bd, D⟩) else w.heap[i]? := by
  intro i; simp only [Array.getElem?_setIfInBounds, hlt, if_true]
 have rows : ∀ i, rowSize { w with heap := w.heap.setIfInBounds (c.ρ id).1 (.loop ⟨cond busy' .busy .ready, none, fn, tmps, ps.toArray, as, bd, D⟩) } i = rowSize w i := by
  intro i
  unfold rowSize
  rw [get]
  by_cases hi : (c.ρ id).1 = i
  ·subst hi; simp [hb]
  ·simp [hi]
 refine ⟨⟨h.next, fun j o hj => ?_, fun j hj => by simpa using h.blk j hj, fun j hj => by rw [rows]; exact h.zz j hj, fun i j o o' hi hj he => ?_, fun j o hj => ?_, fun j cs₁ st₁ hj hx => ?_, fun j o hj hx => ?_⟩,
  ⟨Ext.refl c, by simp, fun b _ => rows b, fun b _ hn => ?_, fun j h1 h2 => by omega, rfl, rfl⟩⟩
 ·rw [get_put] at hj
  by_cases hji : j = id
  ·subst hji; exact h.live j _ hg
  ·simp [hji] at hj; exact h.live j o hj
 ·rw [get_put] at hi hj
  have hi' : ∃ o, σ.tr.get i = some o := by
   by_cases hii : i = id
   ·subst hii; exact ⟨_, hg⟩
   ·simp [hii] at hi; exact ⟨_, hi⟩
  have hj' : ∃ o, σ.tr.get j = some o := by
   by_cases hii : j = id
   ·subst hii; exact ⟨_, hg⟩
   ·simp [hii] at hj; exact ⟨_, hj⟩
  obtain ⟨_, hi'⟩ := hi'
  obtain ⟨_, hj'⟩ := hj'
  exact h.inj i j _ _ hi' hj' he
 ·rw [get_put] at hj
  by_cases hji : j = id
  ·subst hji
   simp at hj
   subst hj
   exact ⟨fn, tmps, D, by rw [get]; simp, hwf⟩
  ·simp [hji] at hj
   have hne : (c.ρ id).1 ≠ (c.ρ j).1 := fun he => hji (h.inj1 hj hg he.symm hX)
   have := h.obj j o hj
   cases o with
   | cells n' cs'' st' =>
    obtain ⟨a1, a2, D, e', fz', a3, a4⟩ := this
    exact ⟨a1, a2, D, e', fz', by rw [get]; simpa [hne] using a3, a4⟩
   | map es clock => exact ⟨this.1, by rw [get]; simpa [hne] using this.2⟩
   | loop busy ntm env ps as bd =>
    obtain ⟨fn, tmps, D, b1, b2⟩ := this
    exact ⟨fn, tmps, D, by rw [get]; simpa [hne] using b1, b2⟩
   | iter mid since last seen => exact ⟨this.1, this.2.1, by rw [get]; simpa [hne] using this.2.2⟩
   | strIter l pos => exact ⟨this.1, this.2.1, by rw [get]; simpa [hne] using this.2.2⟩
 ·rw [get_put] at hj
  by_cases hji : j = id
  ·simp [hji] at hj
  ·simp [hji] at hj; exact h.one j cs₁ st₁ hj hx
 ·rw [get_put] at hj
  by_cases hji : j = id
  ·rw [hji, hX] at hx; cases hx
  ·simp [hji] at hj; exact h.fx j o hj hx
 ·rw [get]
  have : (c.ρ id).1 ≠ b := fun he => by have := hn id (h.live id _ hg) he; rw [hX] at this; cases this
  simp [this]
theorem Rel.setIter {id mid since last last' : Nat} {seen seen' : List Nat} (h : Rel c σ w) (hg : σ.tr.get id = some (.iter mid since last seen)) :
  Rel c (σ.put id (some (.iter mid since last' seen'))) { w with heap := w.heap.setIfInBounds (c.ρ id).1 (.mapIter (some (c.ρ mid).1) since seen'.toArray last') } ∧
  Stp c w c { w with heap := w.heap.setIfInBounds (c.ρ id).1 (.mapIter (some (c.ρ mid).1) since seen'.toArray last') } := by
 obtain ⟨hmid, hz0, hb⟩ := h.obj id _ hg
 have hlt : (c.ρ id).1 < w.heap.size := (Array.getElem?_eq_some_iff.1 hb).1
 have hX := h.notX hg (by intro _ _ he; cases he)
 have get : ∀ i, ({ w with heap := w.heap.setIfInBounds (c.ρ id).1 (.mapIter (some (c.ρ mid).1) since seen'.toArray last') } : World).heap[i]? = if (c.ρ id).1 = i then some (.mapIter (some (c.ρ mid).1) since seen'.toArray last') else w.heap[i]? := by
  intro i; simp only [Array.getElem?_setIfInBounds, hlt, if_true]
 have rows : ∀ i, rowSize { w with heap := w.heap.setIfInBounds (c.ρ id).1 (.mapIter (some (c.ρ mid).1) since seen'.toArray last') } i = rowSize w i := by
  intro i
  unfold rowSize
  rw [get]
  by_cases hi : (c.ρ id).1 = i
  ·subst hi; simp [hb]
  ·simp [hi]
 refine ⟨⟨h.next, fun j o hj => ?_, fun j hj => by simpa using h.blk j hj, fun j hj => by rw [rows]; exact h.zz j hj, fun i j o o' hi hj he => ?_, fun j o hj => ?_, fun j cs₁ st₁ hj hx => ?_, fun j o hj hx => ?_⟩,
  ⟨Ext.refl c, by simp, fun b _ => rows b, fun b _ hn => ?_, fun j h1 h2 => by omega, rfl, rfl⟩⟩
 ·rw [get_put] at hj
  by_cases hji : j = id
  ·subst hji; exact h.live j _ hg
  ·simp [hji] at hj; exact h.live j o hj
 ·rw [get_put] at hi hj
  have hi' : ∃ o, σ.tr.get i = some o := by
   by_cases hii : i = id
   ·subst hii; exact ⟨_, hg⟩
   ·simp [hii] at hi; exact ⟨_, hi⟩
  have hj' : ∃ o, σ.tr.get j = some o := by
   by_cases hii : j = id
   ·subst hii; exact ⟨_, hg⟩
   ·simp [hii] at hj; exact ⟨_, hj⟩
  obtain ⟨_, hi'⟩ := hi'
  obtain ⟨_, hj'⟩ := hj'
  exact h.inj i j _ _ hi' hj' he
 ·rw [get_put] at hj
  by_cases hji : j = id
  ·subst hji
   simp at hj
   subst hj
   exact ⟨hmid, hz0, by rw [get]; simp⟩
  ·simp [hji] at hj
   have hne : (c.ρ id).1 ≠ (c.ρ j).1 := fun he => hji (h.inj1 hj hg he.symm hX)
   have := h.obj j o hj
   cases o with
   | cells n' cs'' st' =>
    obtain ⟨a1, a2, D, e', fz', a3, a4⟩ := this
    exact ⟨a1, a2, D, e', fz', by rw [get]; simpa [hne] using a3, a4⟩
   | map es clock => exact ⟨this.1, by rw [get]; simpa [hne] using this.2⟩
   | loop busy ntm env ps as bd =>
    obtain ⟨fn, tmps, D, b1, b2⟩ := this
    exact ⟨fn, tmps, D, by rw [get]; simpa [hne] using b1, b2⟩
   | iter mid since last seen => exact ⟨this.1, this.2.1, by rw [get]; simpa [hne] using this.2.2⟩
   | strIter l pos => exact ⟨this.1, this.2.1, by rw [get]; simpa [hne] using this.2.2⟩
 ·rw [get_put] at hj
  by_cases hji : j = id
  ·simp [hji] at hj
  ·simp [hji] at hj; exact h.one j cs₁ st₁ hj hx
 ·rw [get_put] at hj
  by_cases hji : j = id
  ·rw [hji, hX] at hx; cases hx
  ·simp [hji] at hj; exact h.fx j o hj hx
 ·rw [get]
  have : (c.ρ id).1 ≠ b := fun he => by have := hn id (h.live id _ hg) he; rw [hX] at this; cases this
  simp [this]
theorem Rel.setStr {id pos pos' : Nat} {l : List Nat} (h : Rel c σ w) (hg : σ.tr.get id = some (.strIter l pos)) :
  Rel c (σ.put id (some (.strIter l pos'))) { w with heap := w.heap.setIfInBounds (c.ρ id).1 (.stringIter ⟨(l.map UInt8.ofNat).toArray⟩ pos') } ∧
  Stp c w c { w with heap := w.heap.setIfInBounds (c.ρ id).1 (.stringIter ⟨(l.map UInt8.ofNat).toArray⟩ pos') } := by
 obtain ⟨hmid, hz0, hb⟩ := h.obj id _ hg
 have hlt : (c.ρ id).1 < w.heap.size := (Array.getElem?_eq_some_iff.1 hb).1
 have hX := h.notX hg (by intro _ _ he; cases he)
 have get : ∀ i, ({ w with heap := w.heap.setIfInBounds (c.ρ id).1 (.stringIter ⟨(l.map UInt8.ofNat).toArray⟩ pos') } : World).heap[i]? = if (c.ρ id).1 = i then some (.stringIter ⟨(l.map UInt8.ofNat).toArray⟩ pos') else w.heap[i]? := by
  intro i; simp only [Array.getElem?_setIfInBounds, hlt, if_true]
 have rows : ∀ i, rowSize { w with heap := w.heap.setIfInBounds (c.ρ id).1 (.stringIter ⟨(l.map UInt8.ofNat).toArray⟩ pos') } i = rowSize w i := by
  intro i
  unfold rowSize
  rw [get]
  by_cases hi : (c.ρ id).1 = i
  ·subst hi; simp [hb]
  ·simp [hi]
 refine ⟨⟨h.next, fun j o hj => ?_, fun j hj => by simpa using h.blk j hj, fun j hj => by rw [rows]; exact h.zz j hj, fun i j o o' hi hj he => ?_, fun j o hj => ?_, fun j cs₁ st₁ hj hx => ?_, fun j o hj hx => ?_⟩,
  ⟨Ext.refl c, by simp, fun b _ => rows b, fun b _ hn => ?_, fun j h1 h2 => by omega, rfl, rfl⟩⟩
 ·rw [get_put] at hj
  by_cases hji : j = id
  ·subst hji; exact h.live j _ hg
  ·simp [hji] at hj; exact h.live j o hj
 ·rw [get_put] at hi hj
  have hi' : ∃ o, σ.tr.get i = some o := by
   by_cases hii : i = id
   ·subst hii; exact ⟨_, hg⟩
   ·simp [hii] at hi; exact ⟨_, hi⟩
  have hj' : ∃ o, σ.tr.get j = some o := by
   by_cases hii : j = id
   ·subst hii; exact ⟨_, hg⟩
   ·simp [hii] at hj; exact ⟨_, hj⟩
  obtain ⟨_, hi'⟩ := hi'
  obtain ⟨_, hj'⟩ := hj'
  exact h.inj i j _ _ hi' hj' he
 ·rw [get_put] at hj
  by_cases hji : j = id
  ·subst hji
   simp at hj
   subst hj
   exact ⟨hmid, hz0, by rw [get]; simp⟩
  ·simp [hji] at hj
   have hne : (c.ρ id).1 ≠ (c.ρ j).1 := fun he => hji (h.inj1 hj hg he.symm hX)
   have := h.obj j o hj
   cases o with
   | cells n' cs'' st' =>
    obtain ⟨a1, a2, D, e', fz', a3, a4⟩ := this
    exact ⟨a1, a2, D, e', fz', by rw [get]; simpa [hne] using a3, a4⟩
   | map es clock => exact ⟨this.1, by rw [get]; simpa [hne] using this.2⟩
   | loop busy ntm env ps as bd =>
    obtain ⟨fn, tmps, D, b1, b2⟩ := this
    exact ⟨fn, tmps, D, by rw [get]; simpa [hne] using b1, b2⟩
   | iter mid since last seen => exact ⟨this.1, this.2.1, by rw [get]; simpa [hne] using this.2.2⟩
   | strIter l pos => exact ⟨this.1, this.2.1, by rw [get]; simpa [hne] using this.2.2⟩
 ·rw [get_put] at hj
  by_cases hji : j = id
  ·simp [hji] at hj
  ·simp [hji] at hj; exact h.one j cs₁ st₁ hj hx
 ·rw [get_put] at hj
  by_cases hji : j = id
  ·rw [hji, hX] at hx; cases hx
  ·simp [hji] at hj; exact h.fx j o hj hx
 ·rw [get]
  have : (c.ρ id).1 ≠ b := fun he => by have := hn id (h.live id _ hg) he; rw [hX] at this; cases this
  simp [this]
theorem run_getObj {b : Nat} {o : Go.Obj} (h : w.heap[b]? = some o) (hc : ∀ C e f, o ≠ .cells C e f) : (getObj b).run P w = .ok o w := by
 simp only [getObj, Sem.run, h]
theorem run_setObj {b : Nat} {o o' : Go.Obj} (h : w.heap[b]? = some o) (hc : ∀ C e f, o ≠ .cells C e f) : (setObj b o').run P w = .ok () { w with heap := w.heap.setIfInBounds b o' } := by
 simp only [setObj, Sem.run, h]
end
end Go.Proofs.YtconhghphklfjaaGreat.Am
