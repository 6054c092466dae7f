/- A group that is over or open, pages that are none and records that may not be are refused, and a record that was done is read back; the conditions are those of the given statement, for arguments that a machine can hold. Part 6 of 44. -/
import Derived.Test.YtconhghphklfjaaGreatE05
namespace Go.Proofs.YtconhghphklfjaaGreat.Am
open Go
section
variable {P : Program} {c : Ctx} {σ : H} {w : World}
def Got (P : Program) (s : Sem Value) (c : Ctx) (w : World) (v : V) (σ' : H) : Prop :=
 ∃ w' c', s.run P w = .ok (conc c' v) w' ∧ wf c' v ∧ Rel c' σ' w' ∧ Stp c w c' w'
def GotU (P : Program) (s : Sem Unit) (c : Ctx) (w : World) (σ' : H) : Prop :=
 ∃ w' c', s.run P w = .ok () w' ∧ Rel c' σ' w' ∧ Stp c w c' w'
theorem Got.same {s : Sem Value} {v : V} (h : Rel c σ w) (h1 : s.run P w = .ok (conc c v) w ∧ wf c v) : Got P s c w v σ :=
 ⟨w, c, h1.1, h1.2, h, Stp.refl c w⟩
theorem newRow_got {cs : List V} (h : Rel c σ w) (hcs : ∀ v ∈ cs, wf c v ∧ storable v = true) (e : TypeId) :
  Rel (c.grow w.heap.size 0 cs.length) (newRow σ cs) (w.alloc (.cells (cs.map (conc c)).toArray e)) ∧ Stp c w (c.grow w.heap.size 0 cs.length) (w.alloc (.cells (cs.map (conc c)).toArray e)) := by
 have := h.newRow hcs e []
 simpa [newRow] using this
theorem conc_new (c : Ctx) (b size : Nat) : conc (c.grow b 0 size) (.ptr c.N 0) = .pointer (some ⟨b, 0, none⟩) := by
 simp [conc, grow_ρ_new]
theorem alloc_got {t : TypeId} {z : V} (h : Rel c σ w) (hz : zeroT P t = some z) :
  Got P (Instr.alloc t true (.tuple #[])) c w (.ptr σ.next 0) (newRow σ z.cells) := by
 obtain ⟨z1, z2⟩ := zeroT_run hz c w
 obtain ⟨g1, g2⟩ := newRow_got h (fun v hv => ⟨wf_cells z2 v hv, zeroT_storable hz v hv⟩) t
 refine ⟨_, _, ?_, ?_, g1, g2⟩
 ·rw [h.next, conc_new]
  simp [Instr.alloc, z1, newVar, Go.newRow, cells_conc']
 ·simp [wf, h.next, grow_N]
theorem box_got {t : TypeId} {v : V} (h : Rel c σ w) (hv : wf c v) (hs : v.cells.all storable = true) :
  Got P (Instr.box t (conc c v)) c w (.ptr σ.next 0) (newRow σ v.cells) := by
 obtain ⟨g1, g2⟩ := newRow_got h (fun x hx => ⟨wf_cells hv x hx, (List.all_eq_true.1 hs) x hx⟩) t
 refine ⟨_, _, ?_, ?_, g1, g2⟩
 ·rw [h.next, conc_new]
  simp [Instr.box, newVar, Go.newRow, cells_conc']
 ·simp [wf, h.next, grow_N]
theorem repeatL_length (z : List V) (n : Nat) : (repeatL z n).length = n * z.length := by
 induction n with
 | zero => simp [repeatL]
 | succ n ih => simp [repeatL, ih, Nat.succ_mul, Nat.add_comm]
theorem repeatL_get (z : List V) (n : Nat) : ∀ i, i < n * z.length → (repeatL z n)[i]? = z[i % z.length]? := by
 induction n with
 | zero => intro i hi; simp at hi
 | succ n ih =>
  intro i hi
  rw [Nat.succ_mul] at hi
  simp only [repeatL]
  by_cases h1 : i < z.length
  ·rw [List.getElem?_append_left h1, Nat.mod_eq_of_lt h1]
  ·rw [List.getElem?_append_right (by omega), ih _ (by omega)]
   congr 1
   have := Nat.mod_eq_sub_mod (show i ≥ z.length by omega)
   rw [this]
theorem repeatL_mem {z : List V} {n : Nat} {v : V} (h : v ∈ repeatL z n) : v ∈ z := by
 induction n with
 | zero => simp [repeatL] at h
 | succ n ih =>
  simp only [repeatL, List.mem_append] at h
  rcases h with h | h
  ·exact h
  ·exact ih h
theorem range_repeat (c : Ctx) (z : List V) (n : Nat) (hz : 1 ≤ z.length) :
  ((Array.range (n * z.length)).map fun i => ((z.map (conc c)).toArray)[i % ((z.map (conc c)).toArray).size]!) = ((repeatL z n).map (conc c)).toArray := by
 apply Array.ext_getElem?
 intro i
 by_cases hi : i < n * z.length
 ·have h1 : i % z.length < z.length := Nat.mod_lt _ hz
  have h2 := repeatL_get z n i hi
  rw [List.getElem?_eq_getElem h1] at h2
  simp only [Array.getElem?_map, Array.getElem?_range, hi, if_true, Option.map_some, List.size_toArray, List.length_map, List.getElem?_toArray, List.getElem?_map, h2]
  congr 1
  rw [getElem!_pos _ _ (by simpa using h1)]
  simp
 ·have h3 : (repeatL z n).length ≤ i := by rw [repeatL_length]; omega
  simp [hi, h3]
theorem buildSliceV_got {t : TypeId} {n : Nat} {l : List (Nat × V)} {v : V} {σ' : H} (h : Rel c σ w) (hr : buildSliceV P σ t n l = some (v, σ')) (hl : ∀ x ∈ l, wf c x.2) :
  Got P (Instr.buildSlice t n (l.map fun x => (x.1, conc c x.2)).toArray) c w v σ' := by
 unfold buildSliceV at hr
 generalize ht : P.underlying t = dt at hr
 split at hr
 ·rename_i e
  cases hk : sizeT P e with
  | none => simp [hk] at hr
  | some k =>
   cases hz : zeroT P e with
   | none => simp [hk, hz] at hr
   | some z =>
    simp only [hk, hz] at hr
    cases hq : (Nat.beq z.cells.length k && Nat.ble (n * k) 65536 && Nat.ble 1 k) with
    | false => simp [hq] at hr
    | true =>
     simp only [hq, cond_true] at hr
     simp only [Bool.and_eq_true, beq_iff, ble_iff] at hq
     obtain ⟨⟨q1, q2⟩, q3⟩ := hq
     obtain ⟨z1, z2⟩ := zeroT_run hz c w
     cases hf : fillV (fun i => some (i * k, k)) (repeatL z.cells n) l with
     | none => simp [hf] at hr
     | some cs =>
      simp only [hf] at hr
      cases hs : cs.all storable with
      | false => simp [hs] at hr
      | true =>
       simp only [hs, cond_true, Option.some.injEq, Prod.mk.injEq] at hr
       obtain ⟨rfl, rfl⟩ := hr
       obtain ⟨f1, f2, f3⟩ := fill_ok (c := c) _ l _ cs hf (fun v hv => wf_cells z2 v (repeatL_mem hv)) hl
       obtain ⟨g1, g2⟩ := newRow_got h (fun v hv => ⟨f2 v hv, (List.all_eq_true.1 hs) v hv⟩) e
       refine ⟨_, _, ?_, ?_, g1, g2⟩
       ·have h24 : ¬ (n * k > 2 ^ 24) := by omega
        have hrr : ((Array.range (n * k)).map fun i => ((z.cells.map (conc c)).toArray)[i % ((z.cells.map (conc c)).toArray).size]!) = ((repeatL z.cells n).map (conc c)).toArray := by
         rw [← q1]; exact range_repeat c z.cells n (by omega)
        by_cases h0 : n * k = 0
        ·have hcs : (repeatL z.cells n) = [] := by
          have : (repeatL z.cells n).length = 0 := by rw [repeatL_length, q1]; exact h0
          exact List.length_eq_zero_iff.1 this
         rw [hcs] at f1
         simp only [List.map_nil] at f1
         simp only [Instr.buildSlice, Sem.run_bind, run_underlying ht, Result.andThen_ok, sizeT_run hk, h0, if_true]
         have hr0 : (Array.map (fun (_ : Nat) => (default : Value)) (Array.range 0)) = #[] := by simp [Array.range]
         simp [hr0, f1, Go.newRow, h.next, conc, grow_ρ_new]
        ·simp only [Instr.buildSlice, Sem.run_bind, run_underlying ht, Result.andThen_ok, sizeT_run hk, h24, if_false, h0, Sem.run_pure, z1, cells_conc', hrr, f1]
         simp [Go.newRow, h.next, conc, grow_ρ_new]
       ·simp [wf, h.next, grow_N]
 ·simp at hr
theorem ofBytes_conc (c : Ctx) {l : List Nat} (hl : ∀ x ∈ l, x < 256) : ((⟨(l.map UInt8.ofNat).toArray⟩ : ByteArray).data.map fun b => Value.int .u8 b.toNat) = ((ofBytes l).map (conc c)).toArray := by
 simp only [List.map_toArray, ofBytes, List.map_map]
 congr 1
 refine List.map_congr_left fun x hx => ?_
 simp [conc, UInt8.toNat_ofNat', Nat.mod_eq_of_lt (hl x hx)]
theorem ofBytes_mem {l : List Nat} {v : V} (h : v ∈ ofBytes l) : ∃ n : Nat, v = .int .u8 n := by
 simp only [ofBytes, List.mem_map] at h
 obtain ⟨n, _, rfl⟩ := h
 exact ⟨n, rfl⟩
theorem convB_got {s d : TypeId} {x v : V} {σ' : H} (h : Rel c σ w) (hr : convB P σ s d x = some (v, σ')) (hx : wf c x) :
  Got P (convert s d (conc c x)) c w v σ' := by
 unfold convB at hr
 generalize hs : P.underlying s = ds at hr
 generalize hd : P.underlying d = dd at hr
 split at hr
 ·rename_i e l
  generalize he : P.underlying e = de at hr
  split at hr
  ·cases hk : sizeT P e with
   | none => simp [hk] at hr
   | some k =>
    simp only [hk] at hr
    cases hq : Nat.beq k 1 with
    | false => simp [hq] at hr
    | true =>
     have := beq_iff.1 hq
     subst this
     simp only [hq, cond_true, Option.some.injEq, Prod.mk.injEq] at hr
     obtain ⟨rfl, rfl⟩ := hr
     have hl : ∀ y ∈ l, y < 256 := by simpa [wf] using hx
     have hsz : (⟨(l.map UInt8.ofNat).toArray⟩ : ByteArray).size = l.length := by simp [ByteArray.size]
     generalize hcap : (Question.appendCap l.length 0 e).cut (w.tape w.drawn (.appendCap l.length 0 e)) = cap
     have hcap1 : l.length ≤ cap := by rw [← hcap]; simp [Question.cut]
     obtain ⟨C, hCd⟩ : ∃ C : Array Value, C = ((ofBytes l).map (conc c)).toArray ++ Array.replicate (cap - l.length) (.int .u8 0) := ⟨_, rfl⟩
     have hC : C.size = cap := by simp [hCd, ofBytes]; omega
     have hrun : (convert s d (conc c (.str l))).run P w = .ok (.slice (some ⟨w.heap.size, 0, none⟩) l.length cap) (w.drew.alloc (.cells C e (cap, cap + 1))) := by
      simp only [conc, convert, Sem.run_bind, run_underlying hs, run_underlying hd, run_underlying he, Result.andThen_ok]
      simp only [Conv.stringToBytes, Sem.run_bind, run_choose, hsz, Question.forced, Bool.false_eq_true, if_false, Result.andThen_ok, hcap, ofBytes_conc c hl, ← hCd]
      simp only [Go.newRow, Sem.run_bind, run_newObj, Result.andThen_ok, Sem.run_pure, markStringish, run_shape]
      have hshape : World.shape? { w.drew with heap := w.drew.heap.push (.cells C e) } w.drew.heap.size = some (e, cap) := by
       simp only [World.shape?, Array.getElem?_push, if_true, hC]
      simp only [World.drew] at hshape ⊢
      rw [hshape]
      simp only [run_freeze, Result.andThen_ok]
      congr 1
      simp only [World.freeze, World.alloc]
      simp only [Nat.one_ne_zero, if_false]
      congr 1
      apply Array.ext_getElem?
      intro i
      rw [Array.getElem?_modify]
      simp only [Array.getElem?_push]
      by_cases hi : w.heap.size = i
      ·subst hi; simp
      ·simp [hi, Ne.symm hi]
     have hex := h.drew
     have g := hex.new (.cells l.length (ofBytes l) true) (.cells C e (cap, cap + 1)) 0 rfl ?_
     ·obtain ⟨g1, g2⟩ := g
      have hob : objSize (.cells C e (cap, cap + 1)) = cap := by simp [objSize, hC]
      rw [hob] at g1 g2
      refine ⟨_, _, ?_, ?_, g1, (Stp.drew c w).trans g2⟩
      ·rw [hrun]
       simp [conc, h.next, Ctx.room, Ctx.grow]
      ·simp [wf, h.next, Ctx.room, Ctx.grow]; omega
     ·have hob : objSize (.cells C e (cap, cap + 1)) = cap := by simp [objSize, hC]
      rw [hob]
      refine ⟨by simp [ofBytes], fun v hv => ?_, C, e, (cap, cap + 1), by rw [grow_ρ_new, alloc_get]; simp, by rw [grow_ρ_new]; simp only; omega, fun j v hv => ?_, by simp [FzOk, hC]⟩
      ·obtain ⟨n, rfl⟩ := ofBytes_mem hv
       exact ⟨by simp [wf], rfl⟩
      ·rw [grow_ρ_new]
       obtain ⟨hj, hv'⟩ := List.getElem?_eq_some_iff.1 hv
       obtain ⟨n, rfl⟩ := ofBytes_mem (List.mem_of_getElem? hv)
       rw [hCd, Array.getElem?_append_left (by simpa using hj)]
       simp [hv, conc]
  ·simp at hr
 ·rename_i e' e id off len cap
  generalize he : P.underlying e = de at hr
  split at hr
  ·rename_i hdd n cs hg
   cases hq : Nat.beq s d with
   | false => simp [hq] at hr
   | true =>
    have hsd := beq_iff.1 hq
    subst hsd
    simp only [hq, cond_true, Option.some.injEq, Prod.mk.injEq] at hr
    obtain ⟨rfl, rfl⟩ := hr
    have hee : e' = e := by rw [hs] at hd; simpa using hd
    subst hee
    obtain ⟨hn, hwc, C, el, fz, hb, hle, hc, hfz⟩ := h.obj id _ hg
    simp only [FzOk] at hfz
    subst hfz
    have g := h.setRowF (st' := true) (fz' := (C.size, C.size + 1)) (C' := C) (cs' := cs) hg hb rfl hn hwc hc (by simp [FzOk])
    refine ⟨_, c, ?_, hx, g.1, g.2⟩
    have hlt : (c.ρ id).1 < w.heap.size := (Array.getElem?_eq_some_iff.1 hb).1
    have hcv : ∃ a n m, conc c (.sl id off len cap) = .slice (some a) n m ∧ a.block = (c.ρ id).1 := by
     cases cap with
     | exact k => exact ⟨⟨(c.ρ id).1, (c.ρ id).2 + off, none⟩, len, k, by simp only [conc], rfl⟩
     | rest esz alt => exact ⟨⟨(c.ρ id).1, (c.ρ id).2 + (if c.room id off esz = 0 then alt else off), none⟩, len, c.room id off esz, by simp only [conc], rfl⟩
    obtain ⟨a, n', m', hcv, hab⟩ := hcv
    have hshape : World.shape? w a.block = some (el, C.size) := by simp [World.shape?, hab, hb]
    rw [hcv]
    simp only [convert, Sem.run_bind, run_underlying hs, run_underlying he, Result.andThen_ok, beq_self_eq_true, markStringish, run_shape, hshape, run_freeze, Sem.run_pure]
    congr 1
    simp only [World.freeze, World.setRow, Nat.one_ne_zero, if_false, hab]
    congr 1
    apply Array.ext_getElem?
    intro i
    rw [Array.getElem?_modify, Array.getElem?_setIfInBounds]
    by_cases hi : (c.ρ id).1 = i
    ·subst hi
     rw [if_pos rfl, if_pos rfl, hb]
     simp [hlt]
    ·simp [hi]
  ·simp at hr
 ·simp at hr
theorem wrap64_id {x : Int} (h0 : 0 ≤ x) (h1 : x < 9223372036854775808) : IntKind.i64.wrap x = x := by
 have h3 : x % (2 ^ IntKind.i64.bits : Int) = x := Int.emod_eq_of_lt h0 (by simp [IntKind.bits]; omega)
 have h4 : ¬ (x ≥ (2 ^ (IntKind.i64.bits - 1) : Int)) := by simp [IntKind.bits]; omega
 simp only [IntKind.wrap, h3]
 simp [h4]
theorem makeSliceV_got {t : TypeId} {a b v : V} {σ' : H} (h : Rel c σ w) (hr : makeSliceV P σ t a b = some (v, σ')) :
  Got P (Instr.makeSlice t (conc c a) (conc c b)) c w v σ' := by
 unfold makeSliceV at hr
 generalize ht : P.underlying t = dt at hr
 split at hr
 ·rename_i e
  split at hr
  ·rename_i i z k1 l k2 n hi hz
   cases hq : (decide (0 ≤ l) && decide (l ≤ n) && decide (n < 1073741824) && Nat.ble i.bytes 4096 && Nat.beq z.cells.length i.size && Nat.ble 1 i.size) with
   | false => simp [hq] at hr
   | true =>
    simp only [hq, cond_true, Option.some.injEq, Prod.mk.injEq] at hr
    obtain ⟨rfl, rfl⟩ := hr
    simp only [Bool.and_eq_true, decide_eq_true_eq, beq_iff, ble_iff] at hq
    obtain ⟨⟨⟨⟨⟨q1, q2⟩, q3⟩, q4⟩, q5⟩, q6⟩ := hq
    obtain ⟨z1, z2⟩ := zeroT_run hz c w
    have hlen : (repeatL z.cells n.toNat).length = n.toNat * i.size := by rw [repeatL_length, q5]
    have g := newRow_got (cs := repeatL z.cells n.toNat) h (fun v hv => ⟨wf_cells z2 v (repeatL_mem hv), zeroT_storable hz v (repeatL_mem hv)⟩) e
    obtain ⟨g1, g2⟩ := g
    have hnr : newRow σ (repeatL z.cells n.toNat) = σ.new (.cells (n.toNat * i.size) (repeatL z.cells n.toNat) false) := by simp [newRow, hlen]
    rw [hnr] at g1
    refine ⟨_, _, ?_, ?_, g1, g2⟩
    ·have w1 := wrap64_id q1 (by omega)
     have w2 := wrap64_id (x := n) (by omega) (by omega)
     have hb : ¬ ((i.bytes : Int) * n > 2 ^ 48) := by
      have : (i.bytes : Int) * n ≤ 4096 * 1073741824 := Int.mul_le_mul (by omega) (by omega) (by omega) (by omega)
      omega
     have hn0 : ¬ (n < 0) := by omega
     have hl0 : ¬ (l < 0) := by omega
     have hln : ¬ (l > n) := by omega
     have hsz : (sizeOf e).run P w = .ok i.size w := by simp [sizeOf, typeInfo, hi]
     have hti : (typeInfo e).run P w = .ok i w := by simp [typeInfo, hi]
     simp only [Instr.makeSlice, Sem.run_bind, run_underlying ht, Result.andThen_ok, conc, asInt, asIntOf, Sem.run_pure, hti, w1, w2]
     have hcond : (((decide (n < 0) || decide ((i.bytes : Int) * n > 2 ^ 48)) || decide (l < 0)) || decide (l > n)) = false := by
      simp only [hn0, hb, hl0, hln, decide_false, Bool.or_self]
     rw [hcond]
     simp only [Bool.false_eq_true, if_false]
     by_cases h0 : n.toNat * i.size = 0
     ·have hn : n.toNat = 0 := by
       rcases Nat.mul_eq_zero.1 h0 with e1 | e1
       ·exact e1
       ·omega
      rw [hn]
      have hr0 : (Array.map (fun (_ : Nat) => (default : Value)) (Array.range 0)) = #[] := by simp [Array.range]
      simp [Go.newRow, h.next, grow_ρ_new, repeatL, hsz, hr0]
     ·have hrr : ((Array.range (n.toNat * i.size)).map fun j => ((z.cells.map (conc c)).toArray)[j % ((z.cells.map (conc c)).toArray).size]!) = ((repeatL z.cells n.toNat).map (conc c)).toArray := by
       rw [← q5]; exact range_repeat c z.cells n.toNat (by omega)
      have hz1 : (conc c z).cells = (z.cells.map (conc c)).toArray := cells_conc' c z
      simp only [Sem.run_bind, Sem.run_pure, run_askRoom, Result.andThen_ok, hsz, h0, if_false, z1, hz1, hrr, Go.newRow, run_newObj]
      simp [h.next, grow_ρ_new]
    ·simp [wf, h.next, grow_N]; omega
  ·simp at hr
 ·simp at hr
theorem makeMap_got (h : Rel c σ w) (t : TypeId) : Got P (Instr.makeMap t none) c w (.map σ.next) (σ.new (.map [] 0)) := by
 have g := h.new (.map [] 0) (.map #[] 0) 0 rfl ⟨by simp, by rw [grow_ρ_new, alloc_get]; simp⟩
 refine ⟨_, _, ?_, ?_, g.1, g.2⟩
 ·simp [Instr.makeMap, conc, h.next, grow_ρ_new]
 ·simp [wf, h.next, grow_N]
theorem setNth_map {α β : Type} (g : α → β) (f : α → α) (f' : β → β) (hf : ∀ x, g (f x) = f' (g x)) : ∀ (l : List α) (k : Nat), (setNth l k f).map g = (l.map g).modify k f' := by
 intro l
 induction l with
 | nil => intro k; simp [setNth]
 | cons x l ih =>
  intro k
  cases k with
  | zero => simp [setNth, hf]
  | succ k => simp only [setNth, beqF (Nat.succ_ne_zero k), cond_false, Nat.add_sub_cancel, List.map_cons, ih, List.modify_succ_cons]
theorem setNth_mem {α : Type} {f : α → α} : ∀ {l : List α} {k : Nat} {x : α}, x ∈ setNth l k f → x ∈ l ∨ ∃ y ∈ l, x = f y := by
 intro l
 induction l with
 | nil => intro k x h; simp [setNth] at h
 | cons y l ih =>
  intro k x h
  cases k with
  | zero =>
   simp only [setNth, Nat.beq_refl, cond_true, List.mem_cons] at h
   rcases h with rfl | h
   ·exact .inr ⟨y, by simp, rfl⟩
   ·exact .inl (by simp [h])
  | succ k =>
   simp only [setNth, beqF (Nat.succ_ne_zero k), cond_false, List.mem_cons] at h
   rcases h with rfl | h
   ·exact .inl (by simp)
   ·rcases ih h with h | ⟨z, hz, rfl⟩
    ·exact .inl (by simp [h])
    ·exact .inr ⟨z, by simp [hz], rfl⟩
theorem dropNth_eq {α : Type} : ∀ (l : List α) (k : Nat), dropNth l k = l.eraseIdx k := by
 intro l
 induction l with
 | nil => intro k; simp [dropNth]
 | cons x l ih =>
  intro k
  cases k with
  | zero => simp [dropNth]
  | succ k => simp only [dropNth, beqF (Nat.succ_ne_zero k), cond_false, Nat.add_sub_cancel, ih, List.eraseIdx_cons_succ]
theorem dropNth_map {α β : Type} (g : α → β) : ∀ (l : List α) (k : Nat), (dropNth l k).map g = (l.map g).eraseIdx k := by
 intro l
 induction l with
 | nil => intro k; simp [dropNth]
 | cons x l ih =>
  intro k
  cases k with
  | zero => simp [dropNth]
  | succ k => simp only [dropNth, beqF (Nat.succ_ne_zero k), cond_false, Nat.add_sub_cancel, List.map_cons, ih, List.eraseIdx_cons_succ]
theorem keyBeq_same {d : TypeDesc} {a b : V} (h : keyBeq d a b = some true) (ha : wf c a) (hb : wf c b) : conc c a = conc c b ∧ ∀ n, Instr.sameBits n (conc c b) (conc c a) = true := by
 unfold keyBeq at h
 split at h
 ·rename_i j x k y
  cases hq : ikBeq j k with
  | false => simp [hq] at h
  | true =>
   have := ikBeq_eq hq
   subst this
   simp only [hq, cond_true, Option.some.injEq, intBeq_eq, beq_iff_eq] at h
   subst h
   exact ⟨rfl, fun n => by cases n <;> simp [conc, Instr.sameBits]⟩
 ·rename_i x y
  simp only [Option.some.injEq, natsBeq_eq, beq_iff_eq] at h
  subst h
  refine ⟨rfl, fun n => ?_⟩
  have : ((⟨(x.map UInt8.ofNat).toArray⟩ : ByteArray) == ⟨(x.map UInt8.ofNat).toArray⟩) = true := by
   rw [strBytes_beq (by simpa [wf] using ha) (by simpa [wf] using ha), natsBeq_eq]; simp
  cases n <;> simp [conc, Instr.sameBits, this]
 ·simp at h
theorem mapUpdateV_got {t : TypeId} {x k v : V} {σ' : H} (h : Rel c σ w) (hr : mapUpdateV P σ t x k v = some σ') (hk : wf c k) (hv : wf c v) :
  GotU P (Instr.mapUpdate t (conc c x) (conc c k) (conc c v)) c w σ' := by
 unfold mapUpdateV at hr
 generalize ht : P.underlying t = dt at hr
 split at hr
 ·rename_i kt et
  generalize hd : P.underlying kt = dk at hr
  split at hr
  ·rename_i d id
   split at hr
   ·rename_i es clock hg
    obtain ⟨hw, hb⟩ := h.obj id _ hg
    have hgo := run_getObj (P := P) hb (by simp)
    split at hr
    ·rename_i b i u hb1 hf
     simp only [Option.some.injEq] at hr
     subst hr
     have hfk := findKey_ok (P := P) hd hk hf hw w
     obtain ⟨e, g1, _, g3, g4⟩ := (findK_ok hk es 0 _ hf hw).2 (i, u) rfl
     simp only [Nat.sub_zero] at g1
     have hwe := hw e (List.mem_of_getElem? g1)
     obtain ⟨s1, s2⟩ := keyBeq_same g4 hk hwe.1
     have hm := h.setMap (es' := setNth es i fun e => (e.1, v, e.2.2)) (k' := clock) hg (by
      intro y hy
      rcases setNth_mem hy with hy | ⟨z, hz, rfl⟩
      ·exact hw y hy
      ·exact ⟨(hw z hz).1, hv⟩)
     refine ⟨_, _, ?_, hm.1, hm.2⟩
     simp only [Instr.mapUpdate, Sem.run_bind, run_underlying ht, Result.andThen_ok, conc, hgo]
     rw [checkKey_ok hd hb1]
     simp only [Result.andThen_ok, hfk, Option.map_some, Sem.run_bind]
     have hk1 : ((es.map (concE c)).toArray[i]?.map (·.key)).getD (conc c k) = conc c e.1 := by simp [g1, concE]
     rw [hk1]
     simp only [Instr.keyThatStays, s2, if_true, Sem.run_pure, Result.andThen_ok]
     rw [run_setObj hb (by simp)]
     congr 3
     rw [setNth_map (concE c) _ (fun e => { e with val := conc c v }) (by intro y; simp [concE])]
     rw [List.modify_toArray]
     congr 2
     -- the key that stays is the elder one
     apply List.ext_getElem?
     intro j
     simp only [List.getElem?_modify]
     by_cases hj : i = j
     ·subst hj
      simp [g1, concE, s1]
     ·simp [hj]
    ·rename_i b hb1 hf
     simp only [Option.some.injEq] at hr
     subst hr
     have hfk := findKey_ok (P := P) hd hk hf hw w
     have hm := h.setMap (es' := es ++ [(k, v, clock)]) (k' := clock + 1) hg (by
      intro y hy
      simp only [List.mem_append, List.mem_singleton] at hy
      rcases hy with hy | rfl
      ·exact hw y hy
      ·exact ⟨hk, hv⟩)
     refine ⟨_, _, ?_, hm.1, hm.2⟩
     simp only [Instr.mapUpdate, Sem.run_bind, run_underlying ht, Result.andThen_ok, conc, hgo]
     rw [checkKey_ok hd hb1]
     simp only [Result.andThen_ok, hfk, Option.map_none]
     rw [run_setObj hb (by simp)]
     congr 3
     simp [concE]
    ·simp at hr
   ·simp at hr
  ·simp at hr
 ·simp at hr
theorem mapEntryV_got {t : TypeId} {x k v : V} {σ' : H} (h : Rel c σ w) (hr : mapEntryV P σ t x k = some (v, σ')) (hk : wf c k) :
  Got P (Instr.mapEntry t (conc c x) (conc c k)) c w v σ' := by
 unfold mapEntryV at hr
 generalize ht : P.underlying t = dt at hr
 split at hr
 ·rename_i kt et
  generalize hd : P.underlying kt = dk at hr
  split at hr
  ·rename_i d z id hz
   obtain ⟨z1, z2⟩ := zeroT_run hz c w
   split at hr
   ·rename_i es clock hg
    obtain ⟨hw, hb⟩ := h.obj id _ hg
    have hgo := run_getObj (P := P) hb (by simp)
    split at hr
    ·rename_i b i u hb1 hf
     rw [nth_eq] at hr
     have hfk := findKey_ok (P := P) hd hk hf hw w
     obtain ⟨e, g1, _, g3, g4⟩ := (findK_ok hk es 0 _ hf hw).2 (i, u) rfl
     simp only [Nat.sub_zero] at g1
     simp only [g1, Option.some.injEq, Prod.mk.injEq] at hr
     obtain ⟨rfl, rfl⟩ := hr
     have hwe := hw e (List.mem_of_getElem? g1)
     obtain ⟨s1, s2⟩ := keyBeq_same g4 hk hwe.1
     have hu : wf c u := by simp only at g3; rw [g3]; exact hwe.2
     refine Got.same h ⟨?_, by simp [wf, wfL, hu]⟩
     simp only [Instr.mapEntry, Sem.run_bind, run_underlying ht, Result.andThen_ok, conc, hgo]
     rw [checkKey_ok hd hb1]
     simp only [Result.andThen_ok, hfk, Option.map_some, Sem.run_bind]
     have hk1 : ((es.map (concE c)).toArray[i]?.map (·.key)).getD (conc c k) = conc c e.1 := by simp [g1, concE]
     rw [hk1]
     simp only [Instr.keyThatStays, s2, if_true, Sem.run_pure, Result.andThen_ok]
     rw [run_setObj hb (by simp)]
     have hsame : ({ w with heap := w.heap.setIfInBounds (c.ρ id).1 (.map ((es.map (concE c)).toArray.modify i fun e => { e with key := conc c k }) clock) } : World) = w := by
      have : (es.map (concE c)).toArray.modify i (fun e => { e with key := conc c k }) = (es.map (concE c)).toArray := by
       rw [List.modify_toArray]
       congr 1
       apply List.ext_getElem?
       intro j
       simp only [List.getElem?_modify]
       by_cases hj : i = j
       ·subst hj; simp [g1, concE, s1]
       ·simp [hj]
      rw [this]
      obtain ⟨hlt, hb'⟩ := Array.getElem?_eq_some_iff.1 hb
      have : w.heap.setIfInBounds (c.ρ id).1 (.map (es.map (concE c)).toArray clock) = w.heap := by
       apply Array.ext_getElem?
       intro j
       rw [Array.getElem?_setIfInBounds]
       by_cases hj : (c.ρ id).1 = j
       ·subst hj; simp [hlt, hb']
       ·simp [hj]
      rw [this]
     rw [hsame]
     simp [g1, concE, conc, concL, goInt]
    ·rename_i b hb1 hf
     simp only [Option.some.injEq, Prod.mk.injEq] at hr
     obtain ⟨rfl, rfl⟩ := hr
     have hfk := findKey_ok (P := P) hd hk hf hw w
     have hm := h.setMap (es' := es ++ [(k, z, clock)]) (k' := clock + 1) hg (by
      intro y hy
      simp only [List.mem_append, List.mem_singleton] at hy
      rcases hy with hy | rfl
      ·exact hw y hy
      ·exact ⟨hk, z2⟩)
     refine ⟨_, _, ?_, by simp [wf, wfL, z2], hm.1, hm.2⟩
     simp only [Instr.mapEntry, Sem.run_bind, run_underlying ht, Result.andThen_ok, conc, hgo]
     rw [checkKey_ok hd hb1]
     simp only [Result.andThen_ok, hfk, Option.map_none, Sem.run_bind, z1]
     rw [run_setObj hb (by simp)]
     simp [concE, concL, conc, goInt]
    ·simp at hr
   ·simp at hr
  ·simp at hr
 ·simp at hr
theorem findBorn_ok (c : Ctx) (b : Int) : ∀ (es : List (V × V × Nat)) (i j : Nat), findBorn es b i = some j →
  (es.map (concE c)).findIdx? (fun e => (e.born : Int) == b) = some (j - i) ∧ i ≤ j := by
 intro es
 induction es with
 | nil => intro i j h; simp [findBorn] at h
 | cons e es ih =>
  intro i j h
  simp only [findBorn, intBeq_eq] at h
  by_cases hb : (e.2.2 : Int) = b
  ·have : ((e.2.2 : Int) == b) = true := by simpa using hb
   rw [this, cond_true, Option.some.injEq] at h
   subst h
   simp [List.findIdx?_cons, concE, hb]
  ·have : ((e.2.2 : Int) == b) = false := by simpa using hb
   rw [this, cond_false] at h
   obtain ⟨h1, h2⟩ := ih (i + 1) j h
   refine ⟨?_, by omega⟩
   rw [List.map_cons, List.findIdx?_cons, h1]
   have hb' : (((concE c e).born : Int) == b) = false := by simpa [concE] using hb
   rw [hb']
   simp
   omega
theorem entryStoreV_got {t : TypeId} {x s v : V} {σ' : H} (h : Rel c σ w) (hr : entryStoreV σ x s v = some σ') (hv : wf c v) :
  GotU P (Instr.entryStore t (conc c x) (conc c s) (conc c v)) c w σ' := by
 unfold entryStoreV at hr
 split at hr
 ·rename_i id k b
  split at hr
  ·rename_i es clock hg
   obtain ⟨hw, hb⟩ := h.obj id _ hg
   have hgo := run_getObj (P := P) hb (by simp)
   cases hf : findBorn es b 0 with
   | none => simp [hf] at hr
   | some i =>
    simp only [hf, Option.some.injEq] at hr
    subst hr
    have hfb := (findBorn_ok c b es 0 i hf).1
    have hm := h.setMap (es' := setNth es i fun e => (e.1, v, e.2.2)) (k' := clock) hg (by
     intro y hy
     rcases setNth_mem hy with hy | ⟨z, hz, rfl⟩
     ·exact hw y hy
     ·exact ⟨(hw z hz).1, hv⟩)
    refine ⟨_, _, ?_, hm.1, hm.2⟩
    simp only [Instr.entryStore, conc, Sem.run_bind, hgo, Result.andThen_ok, asInt, asIntOf, Sem.run_pure]
    have hfa : (es.map (concE c)).toArray.findIdx? (fun e => (e.born : Int) == b) = some i := by
     simpa using hfb
    rw [hfa]
    simp only
    rw [run_setObj hb (by simp)]
    congr 3
    rw [setNth_map (concE c) _ (fun e => { e with val := conc c v }) (by intro y; simp [concE])]
    rw [List.modify_toArray]
  ·simp at hr
 ·simp at hr
theorem deleteV_got {t ty : TypeId} {x k : V} {σ' : H} (h : Rel c σ w) (hr : deleteV P σ t x k = some σ') (hk : wf c k) (ts : Array TypeId) (hts : ts[0]? = some t) :
  ∃ w' c', (Builtin.delete_ ts ty #[conc c x, conc c k]).run P w = .ok (.tuple #[]) w' ∧ Rel c' σ' w' ∧ Stp c w c' w' := by
 unfold deleteV at hr
 generalize ht : P.underlying t = dt at hr
 split at hr
 ·rename_i kt et
  generalize hd : P.underlying kt = dk at hr
  split at hr
  ·rename_i d id
   split at hr
   ·rename_i es clock hg
    obtain ⟨hw, hb⟩ := h.obj id _ hg
    have hgo := run_getObj (P := P) hb (by simp)
    split at hr
    ·rename_i b i u hb1 hf
     simp only [Option.some.injEq] at hr
     subst hr
     have hfk := findKey_ok (P := P) hd hk hf hw w
     have hm := h.setMap (es' := dropNth es i) (k' := clock) hg (by
      intro y hy
      rw [dropNth_eq] at hy
      exact hw y (List.mem_of_mem_eraseIdx hy))
     refine ⟨_, _, ?_, hm.1, hm.2⟩
     simp only [Builtin.delete_, hts, List.getElem?_toArray, List.getElem?_cons_zero, List.getElem?_cons_succ, Sem.run_bind, run_underlying ht, Result.andThen_ok, conc, hgo]
     rw [checkKey_ok hd hb1]
     simp only [Result.andThen_ok, hfk, Option.map_some, Sem.run_bind]
     rw [run_setObj hb (by simp)]
     simp [dropNth_map]
    ·rename_i b hb1 hf
     simp only [Option.some.injEq] at hr
     subst hr
     have hfk := findKey_ok (P := P) hd hk hf hw w
     have hm := h.setMap (es' := es) (k' := clock) hg hw
     refine ⟨w, c, ?_, h, Stp.refl c w⟩
     simp only [Builtin.delete_, hts, List.getElem?_toArray, List.getElem?_cons_zero, List.getElem?_cons_succ, Sem.run_bind, run_underlying ht, Result.andThen_ok, conc, hgo]
     rw [checkKey_ok hd hb1]
     simp only [Result.andThen_ok, hfk, Option.map_none, Sem.run_bind]
     rw [run_setObj hb (by simp)]
     obtain ⟨hlt, hb'⟩ := Array.getElem?_eq_some_iff.1 hb
     have : w.heap.setIfInBounds (c.ρ id).1 (.map (es.map (concE c)).toArray clock) = w.heap := by
      apply Array.ext_getElem?
      intro j
      rw [Array.getElem?_setIfInBounds]
      by_cases hj : (c.ρ id).1 = j
      ·subst hj; simp [hlt, hb']
      ·simp [hj]
     simp [this]
    ·simp at hr
   ·simp at hr
  ·simp at hr
 ·simp at hr
end
end Go.Proofs.YtconhghphklfjaaGreat.Am
