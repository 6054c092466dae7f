/- A group that is over or open, pages that are none and records that may not be are refused, and a record that was done is read back; the conditions are those of the given statement, for arguments that a machine can hold. Part 5 of 44. -/
import Derived.Test.YtconhghphklfjaaGreatE04
import Derived.Laws.StructEq
namespace Go.Proofs.YtconhghphklfjaaGreat.Am
open Go
section
variable {P : Program} {c : Ctx} {σ : H} {w : World}
theorem bytesOf_ok : ∀ (cs : List V) (l : List Nat), bytesOf cs = some l →
  ∃ ns : List Int, cs.map (conc c) = ns.map (Value.int .u8) ∧ l = ns.map (fun n => n.toNat % 256) := by
 intro cs
 induction cs with
 | nil => intro l h; simp [bytesOf] at h; subst h; exact ⟨[], by simp, by simp⟩
 | cons x cs ih =>
  intro l h
  unfold bytesOf at h
  split at h
  ·simp at *
  ·rename_i n cs' he
   simp only [List.cons.injEq] at he
   obtain ⟨rfl, rfl⟩ := he
   cases hb : bytesOf cs with
   | none => simp [hb] at h
   | some m =>
    simp [hb] at h
    subst h
    obtain ⟨ns, h1, h2⟩ := ih m hb
    exact ⟨n :: ns, by simp [conc, h1], by simp [h2]⟩
  ·simp at h
theorem foldl_push_bytes : ∀ (ns : List Int) (s : ByteArray), (ns.foldl (fun r n => r.push (UInt8.ofNat n.toNat)) s) = ⟨s.data ++ (ns.map fun n => UInt8.ofNat n.toNat).toArray⟩ := by
 intro ns
 induction ns with
 | nil => intro s; apply ByteArray.ext; simp
 | cons n ns ih =>
  intro s
  rw [List.foldl_cons, ih]
  apply ByteArray.ext
  simp [ByteArray.push]
theorem sl_read {id off len m : Nat} {cap : Cap} {cs : List V} (h : Rel c σ w) (hw : wf c (.sl id off len cap)) (hr : rdN σ id off m = some cs) (hm : len = 0 → m = 0) :
  ∃ a n, conc c (.sl id off len cap) = .slice (some a) len n ∧ (loadCells a m).run P w = .ok (cs.map (conc c)).toArray w ∧ (m ≠ 0 → a = adr c id off) ∧
   (∀ j x, (cs.map (conc c))[j]? = some x → w.cell? (a.add j) = some x) := by
 have hl := rdN_run (P := P) h hr
 have hc := rdN_ok h hr
 cases cap with
 | exact n => exact ⟨adr c id off, n, by simp only [conc, adr], hl, fun _ => rfl, hc.2.2⟩
 | rest esz alt =>
  by_cases h3 : c.room id off esz = 0
  ·have hlen : len = 0 := by
    have : id < c.N ∧ 1 ≤ esz ∧ len ≤ c.room id off esz := by simpa [wf] using hw
    omega
   have hm0 := hm hlen
   subst hm0
   have hcs : cs = [] := List.length_eq_zero_iff.1 hc.1
   subst hcs
   refine ⟨⟨(c.ρ id).1, (c.ρ id).2 + (if c.room id off esz = 0 then alt else off), none⟩, c.room id off esz, by simp only [conc], ?_, fun hx => absurd rfl hx, fun j x hx => by simp at hx⟩
   simp [loadCells, loadCellsFrom]
  ·exact ⟨adr c id off, c.room id off esz, by simp only [conc, h3, if_false, adr], hl, fun _ => rfl, hc.2.2⟩
theorem ofNat_mod (n : Nat) : UInt8.ofNat (n % 256) = UInt8.ofNat n := by
 apply UInt8.toNat.inj
 simp [UInt8.toNat_ofNat']
theorem convV_ok {s d : TypeId} {x v : V} {σ' : H} (h : Rel c σ w) (hr : convV P σ s d x = some (v, σ')) :
  wf c x → (convert s d (conc c x)).run P w = .ok (conc c v) w ∧ wf c v ∧ σ' = σ := by
 intro hx
 unfold convV at hr
 generalize hs : P.underlying s = ds at hr
 generalize hd : P.underlying d = dd at hr
 split at hr
 ·simp only [Option.some.injEq, Prod.mk.injEq] at hr
  obtain ⟨rfl, rfl⟩ := hr
  exact ⟨by simp [convert, run_underlying hs, run_underlying hd, conc, Conv.intToInt], by simp [wf], rfl⟩
 ·simp only [Option.some.injEq, Prod.mk.injEq] at hr
  obtain ⟨rfl, rfl⟩ := hr
  exact ⟨by simp [convert, run_underlying hs, run_underlying hd, conc], hx, rfl⟩
 ·generalize he : P.underlying _ = de at hr
  split at hr
  ·simp only [Option.some.injEq, Prod.mk.injEq] at hr
   obtain ⟨rfl, rfl⟩ := hr
   refine ⟨?_, by simp [wf], rfl⟩
   simp only [conc, convert, Sem.run_bind, run_underlying hs, run_underlying hd, run_underlying he, Result.andThen_ok]
   simp [Conv.bytesToString]
   rfl
  ·simp at hr
 ·generalize he : P.underlying _ = de at hr
  split at hr
  ·simp only [Option.some.injEq, Prod.mk.injEq] at hr
   obtain ⟨rfl, rfl⟩ := hr
   refine ⟨?_, by simp [wf], rfl⟩
   simp only [conc, convert, Sem.run_bind, run_underlying hs, run_underlying hd, run_underlying he, Result.andThen_ok]
   simp [Conv.bytesToString]
   rfl
  ·simp at hr
 ·rename_i e id off len cap
  generalize he : P.underlying e = de at hr
  split at hr
  ·cases hq : rdN σ id off len with
   | none => simp [hq] at hr
   | some cs =>
    cases hb : bytesOf cs with
    | none => simp [hq, hb] at hr
    | some l =>
     simp [hq, hb] at hr
     obtain ⟨rfl, rfl⟩ := hr
     obtain ⟨ns, h1, h2⟩ := bytesOf_ok (c := c) cs l hb
     obtain ⟨a, n, ha, hl, _, _⟩ := sl_read (P := P) h hx hq (fun h => h)
     rw [h1] at hl
     refine ⟨?_, ?_, rfl⟩
     ·rw [ha, run_convert_bytes_string w s d e (some a) len n hs he hd, run_bytesToString w a len n ns hl, foldl_push_bytes]
      simp only [conc, h2, List.map_map]
      congr 2
      apply ByteArray.ext
      simp [Function.comp_def, ofNat_mod]
     ·simp only [wf, h2, List.mem_map]
      rintro x ⟨n, _, rfl⟩
      omega
  ·simp at hr
 ·simp only [Option.some.injEq, Prod.mk.injEq] at hr
  obtain ⟨rfl, rfl⟩ := hr
  exact ⟨by simp [convert, run_underlying hs, run_underlying hd, conc, Conv.intToFloat], by simp [wf], rfl⟩
 ·rename_i k fk b
  cases hq : Ieee.Datum.toInt Ieee.Toward.zero (fk.decode b) with
  | none => rw [hq] at hr; cases hr
  | some n =>
   rw [hq] at hr
   simp only at hr
   cases hb : (decide (k.min ≤ n) && decide (n ≤ k.max)) with
   | false => rw [hb] at hr; cases hr
   | true =>
    rw [hb, cond_true] at hr
    simp only [Option.some.injEq, Prod.mk.injEq] at hr
    obtain ⟨rfl, rfl⟩ := hr
    simp only [Bool.and_eq_true, decide_eq_true_eq] at hb
    exact ⟨by simp [convert, run_underlying hs, run_underlying hd, conc, Conv.floatToInt, hq, hb], by simp [wf], rfl⟩
 ·simp at hr
theorem arrPtrV_ok {d : TypeId} {x v : V} (hr : arrPtrV P d x = some v) (hx : wf c x) (w : World) :
  (Instr.arrayAt d (conc c x)).run P w = .ok (conc c v) w ∧ wf c v := by
 unfold arrPtrV at hr
 split at hr
 ·rename_i id off len cap
  generalize hd : P.underlying d = dd at hr
  split at hr
  ·rename_i n e
   cases hq : (Nat.ble n len && Nat.ble 1 n) with
   | false => simp [hq] at hr
   | true =>
    simp only [hq, cond_true, Option.some.injEq] at hr
    subst hr
    simp only [Bool.and_eq_true] at hq
    have q1 := ble_iff.1 hq.1
    have q2 := ble_iff.1 hq.2
    cases cap with
    | exact m =>
     have hx' : id < c.N ∧ len ≤ m := by simpa [wf] using hx
     exact ⟨by simp [Instr.arrayAt, run_underlying hd, conc, Nat.not_lt.2 q1], by simpa [wf] using hx'.1⟩
    | rest esz alt =>
     have hx' : id < c.N ∧ 1 ≤ esz ∧ len ≤ c.room id off esz := by simpa [wf] using hx
     have h3 : c.room id off esz ≠ 0 := by omega
     exact ⟨by simp [Instr.arrayAt, run_underlying hd, conc, Nat.not_lt.2 q1, h3], by simpa [wf] using hx'.1⟩
  ·simp at hr
 ·simp at hr
theorem makeIfaceV_ok {t : TypeId} {x v : V} (hr : makeIfaceV P t x = some v) (hx : wf c x) (w : World) :
  (Instr.makeInterface t (conc c x)).run P w = .ok (conc c v) w ∧ wf c v := by
 unfold makeIfaceV at hr
 generalize ht : P.underlying t = dt at hr
 split at hr
 ·simp at hr
 ·rename_i d hd
  simp only [Option.some.injEq] at hr
  subst hr
  refine ⟨?_, by simpa [wf] using hx⟩
  simp only [Instr.makeInterface, Sem.run_bind, run_underlying ht, Result.andThen_ok]
  simp [conc]
 ·simp at hr
theorem partV_ok {t : TypeId} {cs : List V} {off : Nat} {v : V} (hr : partV P t cs off = some v) (hx : ∀ x ∈ cs, wf c x) (w : World) :
  (part t ((cs.map (conc c)).toArray) off).run P w = .ok (conc c v) w ∧ wf c v := by
 unfold partV at hr
 split at hr
 ·rename_i hg
  cases hk : sizeT P t with
  | none => simp [hk] at hr
  | some k =>
   simp [hk] at hr
   subst hr
   refine ⟨?_, ?_⟩
   ·simp only [part, Sem.run_bind, isAggT_run hg, Result.andThen_ok, if_true, sizeT_run hk, Sem.run_pure, conc, concL_eq]
    congr 2
    simp [List.map_take, List.map_drop]
   ·simp only [wf, wfL_iff]
    exact fun x hy => hx x (List.mem_of_mem_drop (List.mem_of_mem_take hy))
 ·rename_i hg
  rw [nth_eq] at hr
  refine ⟨?_, hx v (List.mem_of_getElem? hr)⟩
  simp [part, isAggT_run hg, hr]
 ·simp at hr
theorem fieldsOf_eq {t : TypeId} {fs : List Go.Field} (h : fieldsOf P t = some fs) : P.underlying t = some (.struct fs.toArray) := by
 unfold fieldsOf at h
 split at h
 ·rename_i f hf
  simp only [Option.some.injEq] at h
  subst h
  simpa using hf
 ·simp at h
theorem fieldAddrV_ok {t : TypeId} {x v : V} {i : Nat} (hr : fieldAddrV P t x i = some v) (hx : wf c x) (w : World) :
  (Instr.fieldAt t (conc c x) i).run P w = .ok (conc c v) w ∧ wf c v := by
 unfold fieldAddrV at hr
 split at hr
 ·rename_i id off
  cases hf : fieldsOf P t with
  | none => simp [hf] at hr
  | some fs =>
   have hu := fieldsOf_eq hf
   simp only [hf, nth_eq] at hr
   cases hi : fs[i]? with
   | none => simp [hi] at hr
   | some f =>
    simp only [hi] at hr
    cases hk : sizeT P f.type with
    | none => simp [hk] at hr
    | some k =>
     simp only [hk] at hr
     cases hq : Nat.ble 1 k with
     | false => simp [hq] at hr
     | true =>
      have q := ble_iff.1 hq
      simp only [hq, cond_true, Option.some.injEq] at hr
      subst hr
      refine ⟨?_, by simpa [wf] using hx⟩
      have hk0 : k ≠ 0 := by omega
      simp only [Instr.fieldAt, Sem.run_bind, run_underlying hu, Result.andThen_ok]
      simp [hi, conc, Instr.sureAddr, fieldPlace, sizeT_run hk, hk0, Addr.add_lit, Nat.add_assoc]
 ·simp at hr
theorem fieldV_ok {t : TypeId} {x v : V} {i : Nat} (hr : fieldV P t x i = some v) (hx : wf c x) (w : World) :
  (Instr.field t (conc c x) i).run P w = .ok (conc c v) w ∧ wf c v := by
 unfold fieldV at hr
 split at hr
 ·rename_i cs
  cases hf : fieldsOf P t with
  | none => simp [hf] at hr
  | some fs =>
   have hu := fieldsOf_eq hf
   simp only [hf, nth_eq] at hr
   cases hi : fs[i]? with
   | none => simp [hi] at hr
   | some f =>
    simp only [hi] at hr
    obtain ⟨h1, h2⟩ := partV_ok hr (by simpa [wf, wfL_iff] using hx) w
    refine ⟨?_, h2⟩
    simp only [Instr.field, Sem.run_bind, run_underlying hu, Result.andThen_ok, conc, concL_eq]
    simp [hi, asAgg, h1]
 ·simp at hr
theorem indexAddrV_ok {t : TypeId} {x i v : V} (hr : indexAddrV P t x i = some v) (hx : wf c x) (w : World) :
  (Instr.indexAt t (conc c x) (conc c i)).run P w = .ok (conc c v) w ∧ wf c v := by
 unfold indexAddrV at hr
 split at hr
 ·rename_i k n
  generalize ht : P.underlying t = dt at hr
  split at hr
  ·rename_i e id off len cap
   cases hk : sizeT P e with
   | none => simp [hk] at hr
   | some s =>
    simp only [hk] at hr
    cases hq : (decide (0 ≤ n) && decide (n < (len : Int))) with
    | false => simp [hq] at hr
    | true =>
     simp only [hq, cond_true, Option.some.injEq] at hr
     subst hr
     simp only [Bool.and_eq_true, decide_eq_true_eq] at hq
     have hlen : 0 < len := by omega
     have key : ∃ m, conc c (.sl id off len cap) = .slice (some (adr c id off)) len m ∧ id < c.N := by
      cases cap with
      | exact m =>
       have hx' : id < c.N ∧ len ≤ m := by simpa [wf] using hx
       exact ⟨m, by simp only [conc, adr], hx'.1⟩
      | rest esz alt =>
       have hx' : id < c.N ∧ 1 ≤ esz ∧ len ≤ c.room id off esz := by simpa [wf] using hx
       have h3 : c.room id off esz ≠ 0 := by omega
       exact ⟨c.room id off esz, by simp only [conc, adr, h3, if_false], hx'.1⟩
     obtain ⟨m, h1, h2⟩ := key
     refine ⟨?_, by simpa [wf] using h2⟩
     rw [h1]
     simp [Instr.indexAt, asIntOf, conc, run_underlying ht, hq, sizeT_run hk, adr_add]
     simp [adr]
  ·rename_i len e id off
   cases hk : sizeT P e with
   | none => simp [hk] at hr
   | some s =>
    simp only [hk] at hr
    cases hq : (decide (0 ≤ n) && decide (n < (len : Int))) with
    | false => simp [hq] at hr
    | true =>
     simp only [hq, cond_true, Option.some.injEq] at hr
     subst hr
     simp only [Bool.and_eq_true, decide_eq_true_eq] at hq
     refine ⟨?_, by simpa [wf] using hx⟩
     simp [Instr.indexAt, asIntOf, conc, run_underlying ht, hq, sizeT_run hk, Instr.sureAddr, Addr.add_lit, Nat.add_assoc]
  ·simp at hr
 ·simp at hr
theorem indexV_ok {t : TypeId} {x i v : V} (hr : indexV P t x i = some v) (hx : wf c x) (w : World) :
  (Instr.index t (conc c x) (conc c i)).run P w = .ok (conc c v) w ∧ wf c v := by
 unfold indexV at hr
 split at hr
 ·rename_i k n
  generalize ht : P.underlying t = dt at hr
  split at hr
  ·rename_i len e cs
   cases hk : sizeT P e with
   | none => simp [hk] at hr
   | some s =>
    simp only [hk] at hr
    cases hq : (decide (0 ≤ n) && decide (n < (len : Int))) with
    | false => simp [hq] at hr
    | true =>
     simp only [hq, cond_true] at hr
     simp only [Bool.and_eq_true, decide_eq_true_eq] at hq
     obtain ⟨h1, h2⟩ := partV_ok hr (by simpa [wf, wfL_iff] using hx) w
     refine ⟨?_, h2⟩
     simp [Instr.index, asIntOf, conc, concL_eq, run_underlying ht, hq, sizeT_run hk, h1]
  ·rename_i l
   cases hq : decide (0 ≤ n) with
   | false => simp [hq] at hr
   | true =>
    simp only [hq, cond_true, nth_eq] at hr
    simp only [decide_eq_true_eq] at hq
    cases hb : l[n.toNat]? with
    | none => simp [hb] at hr
    | some b =>
     simp [hb] at hr
     subst hr
     refine ⟨?_, by simp [wf]⟩
     have hlt : b < 256 := by
      have hx' : ∀ y ∈ l, y < 256 := by simpa [wf] using hx
      exact hx' b (List.mem_of_getElem? hb)
     have hget : (⟨(l.map UInt8.ofNat).toArray⟩ : ByteArray)[n.toNat]? = some (UInt8.ofNat b) := by
      have hl : n.toNat < l.length := (List.getElem?_eq_some_iff.1 hb).1
      rw [ByteArray.getElem?_lt' _ _ (by simpa [ByteArray.size] using hl)]
      have he := (List.getElem?_eq_some_iff.1 hb).2
      simp only [ByteArray.getElem_eq_getElem_data]
      simp [he]
     simp only [Instr.index, asIntOf, conc, Sem.run_bind, Sem.run_pure, Result.andThen_ok, run_underlying ht, hq, if_true, hget]
     simp [UInt8.toNat_ofNat', Nat.mod_eq_of_lt hlt]
  ·simp at hr
 ·simp at hr
theorem bndV_ok {x : V} {n : Nat} (h : bndV x = some n) {y : Nat} (hy : n ≤ y) (code : BoundsCode) (w : World) : (Instr.sliceBound (conc c x) y code).run P w = .ok n w := by
 unfold bndV at h
 split at h
 ·rename_i k i
  cases hq : decide (0 ≤ i) with
  | false => simp [hq] at h
  | true =>
   simp only [hq, cond_true, Option.some.injEq] at h
   simp only [decide_eq_true_eq] at hq
   subst h
   have : i ≤ (y : Int) := by omega
   simp [Instr.sliceBound, asIntOf, conc, hq, this]
 ·simp at h
theorem optB_cases {x : Option V} {b : Option Nat} (h : optB x = some b) : (x = none ∧ b = none) ∨ ∃ v n, x = some v ∧ b = some n ∧ bndV v = some n := by
 cases x with
 | none => simp [optB] at h; exact .inl ⟨rfl, h.symm⟩
 | some v =>
  simp only [optB] at h
  cases hb : bndV v with
  | none => simp [hb] at h
  | some n => simp [hb] at h; exact .inr ⟨v, n, rfl, h.symm, hb⟩
theorem bounds_ok {lo hi mx : Option V} {a b m : Option Nat} (h1 : optB lo = some a) (h2 : optB hi = some b) (h3 : optB mx = some m) (isS : Bool) {len cap : Nat}
  (hb : m.isSome = true → b.isSome = true) (q1 : a.getD 0 ≤ b.getD len) (q2 : b.getD len ≤ m.getD cap ∨ b = none ∧ m = none) (q3 : m.getD cap ≤ cap) (w : World) :
  (Instr.sliceBounds isS len cap (lo.map (conc c)) (hi.map (conc c)) (mx.map (conc c))).run P w = .ok (a.getD 0, b.getD len, m.getD cap) w := by
 rcases optB_cases h1 with ⟨rfl, rfl⟩ | ⟨lv, ln, rfl, rfl, hl⟩ <;> rcases optB_cases h2 with ⟨rfl, rfl⟩ | ⟨hv, hn, rfl, rfl, hh⟩ <;>
  rcases optB_cases h3 with ⟨rfl, rfl⟩ | ⟨mv, mn, rfl, rfl, hm⟩
 all_goals simp only [Option.getD_some, Option.getD_none, Option.isSome_some, Option.isSome_none, Bool.false_eq_true, forall_const, reduceCtorEq, false_and, or_false, or_true, and_self] at *
 all_goals simp only [Instr.sliceBounds, Option.map_some, Option.map_none, Sem.run_bind, Sem.run_pure, Result.andThen_ok]
 all_goals (try rw [bndV_ok hm q3])
 all_goals (try simp only [Result.andThen_ok])
 all_goals (try rw [bndV_ok hh (by first | exact q2 | omega)])
 all_goals (try simp only [Result.andThen_ok])
 all_goals (try rw [bndV_ok hl q1])
 all_goals (try simp only [Result.andThen_ok])
theorem extent_le {id off k : Nat} (h : Rel c σ w) : extent σ id off k ≤ c.room id off k := by
 unfold extent
 split
 ·rename_i n cs st hg
  obtain ⟨_, _, C, e, fz, hb, hle, _⟩ := h.obj id _ hg
  have hz := h.zz id (h.live id _ hg)
  unfold Ctx.room
  rw [hz]
  unfold rowSize
  rw [hb]
  exact Nat.div_le_div_right (by simp only; omega)
 ·exact Nat.zero_le _
theorem run_sliceAt_other {t : TypeId} {d : TypeDesc} (ht : P.underlying t = some d) (hd : ∀ n e, d ≠ .array n e) (x : Value) (lo hi mx : Option Value) (w : World) :
  (Instr.sliceAt t x lo hi mx).run P w = (Instr.slice t x lo hi mx).run P w := by
 simp only [Instr.sliceAt, Sem.run_bind, run_underlying ht, Result.andThen_ok]
 try (split <;> first | rfl | (rename_i n e; exact absurd rfl (hd n e)))
theorem room_sub (c : Ctx) (id off k a : Nat) : c.room id (off + a * k) k = c.room id off k - a := by
 unfold Ctx.room
 have : c.Z (c.ρ id).1 - ((c.ρ id).2 + (off + a * k)) = (c.Z (c.ρ id).1 - ((c.ρ id).2 + off)) - k * a := by
  rw [Nat.mul_comm k a]; omega
 rw [this, Nat.sub_mul_div]
theorem sliceV_ok {t : TypeId} {x v : V} {lo hi mx : Option V} {a b m : Option Nat} (h : Rel c σ w) (h1 : optB lo = some a) (h2 : optB hi = some b) (h3 : optB mx = some m)
  (hr : sliceV P σ t x a b m = some v) (hx : wf c x) :
  (Instr.sliceAt t (conc c x) (lo.map (conc c)) (hi.map (conc c)) (mx.map (conc c))).run P w = .ok (conc c v) w ∧ wf c v := by
 have mxn : m = none → mx = none := by
  intro e; rcases optB_cases h3 with ⟨e1, _⟩ | ⟨_, _, _, e2, _⟩
  ·exact e1
  ·rw [e2] at e; simp at e
 unfold sliceV at hr
 generalize ht : P.underlying t = dt at hr
 split at hr
 ·-- a string
  rename_i l
  split at hr
  ·simp at hr
  ·simp only at hr
   cases hq : (Nat.ble (a.getD 0) (b.getD l.length) && Nat.ble (b.getD l.length) l.length) with
   | false => simp [hq] at hr
   | true =>
    simp only [hq, cond_true, Option.some.injEq] at hr
    subst hr
    simp only [Bool.and_eq_true] at hq
    have q1 := ble_iff.1 hq.1
    have q2 := ble_iff.1 hq.2
    have hmx := mxn rfl
    subst hmx
    have hsz : (⟨(l.map UInt8.ofNat).toArray⟩ : ByteArray).size = l.length := by simp [ByteArray.size]
    refine ⟨?_, ?_⟩
    ·rw [run_sliceAt_other ht (by simp)]
     have hb := bounds_ok (P := P) (c := c) h1 h2 h3 false (len := l.length) (cap := l.length) (by simp) q1 (.inl q2) (Nat.le_refl _) w
     simp only [Option.map_none] at hb
     simp only [conc, Instr.slice, Sem.run_bind, run_underlying ht, Result.andThen_ok, Option.map_none, Option.isSome_none, Bool.false_eq_true, if_false, Sem.run_pure, hsz, hb]
     congr 2
     apply ByteArray.ext
     simp [ByteArray.data_extract, List.map_take, List.map_drop, List.drop_take]
    ·have hx' : ∀ y ∈ l, y < 256 := by simpa [wf] using hx
     simp only [wf]
     exact fun y hy => hx' y (List.mem_of_mem_take (List.mem_of_mem_drop hy))
 ·-- nil
  rename_i e
  split at hr
  ·rename_i s hs
   cases hq : (Nat.beq (b.getD 0) 0 && Nat.beq (a.getD 0) 0) with
   | false => simp [hq] at hr
   | true =>
    simp only [hq, cond_true, Option.some.injEq] at hr
    subst hr
    simp only [Bool.and_eq_true] at hq
    have q1 := beq_iff.1 hq.1
    have q2 := beq_iff.1 hq.2
    have hmx := mxn rfl
    subst hmx
    refine ⟨?_, by simp [wf]⟩
    rw [run_sliceAt_other ht (by simp)]
    have hb := bounds_ok (P := P) (c := c) h1 h2 h3 true (len := 0) (cap := 0) (by simp) (by omega) (.inl (by simp; omega)) (Nat.le_refl _) w
    simp only [Option.map_none] at hb
    simp only [conc, Instr.slice, Sem.run_bind, run_underlying ht, Result.andThen_ok, Option.map_none, Sem.run_pure, hb, sizeT_run hs]
    simp [q1, q2]
  ·simp at hr
 ·-- empty, somewhere
  split at hr
  ·rename_i s hs
   cases hq : (Nat.beq (b.getD 0) 0 && Nat.beq (a.getD 0) 0) with
   | false => simp [hq] at hr
   | true =>
    simp only [hq, cond_true, Option.some.injEq] at hr
    subst hr
    simp only [Bool.and_eq_true] at hq
    have q1 := beq_iff.1 hq.1
    have q2 := beq_iff.1 hq.2
    have hmx := mxn rfl
    subst hmx
    refine ⟨?_, by simp [wf]⟩
    rw [run_sliceAt_other ht (by simp)]
    have hb := bounds_ok (P := P) (c := c) h1 h2 h3 true (len := 0) (cap := 0) (by simp) (by omega) (.inl (by simp; omega)) (Nat.le_refl _) w
    simp only [Option.map_none] at hb
    simp only [conc, Instr.slice, Sem.run_bind, run_underlying ht, Result.andThen_ok, Option.map_none, Sem.run_pure, hb, sizeT_run hs]
    simp [q1, q2]
  ·simp at hr
 ·rename_i e id off len cap
  rw [run_sliceAt_other ht (by simp)]
  split at hr
  ·simp at hr
  ·rename_i k hk
   split at hr
   ·rename_i cc
    have hx' : id < c.N ∧ len ≤ cc := by simpa [wf] using hx
    split at hr
    ·rename_i mm bb
     simp only at hr
     cases hq : (Nat.ble (a.getD 0) bb && Nat.ble bb mm && Nat.ble mm cc) with
     | false => simp [hq] at hr
     | true =>
      simp only [hq, cond_true, Option.some.injEq] at hr
      subst hr
      simp only [Bool.and_eq_true] at hq
      have q1 := ble_iff.1 hq.1.1
      have q2 := ble_iff.1 hq.1.2
      have q3 := ble_iff.1 hq.2
      have hb := bounds_ok (P := P) (c := c) h1 h2 h3 true (len := len) (cap := cc) (by simp) q1 (.inl q2) q3 w
      simp only [Option.getD_some] at hb
      refine ⟨?_, by simp [wf, hx'.1]; omega⟩
      simp only [conc, Instr.slice, Sem.run_bind, run_underlying ht, Result.andThen_ok, hb, sizeT_run hk, Sem.run_pure]
      by_cases e1 : mm = a.getD 0
      ·simp [e1]
      ·simp [e1, beqF e1, Addr.add_lit, Nat.add_assoc]
    ·simp at hr
    ·simp only at hr
     cases hq : (Nat.ble (a.getD 0) (b.getD len) && Nat.ble (b.getD len) cc) with
     | false => simp [hq] at hr
     | true =>
      simp only [hq, cond_true, Option.some.injEq] at hr
      subst hr
      simp only [Bool.and_eq_true] at hq
      have q1 := ble_iff.1 hq.1
      have q2 := ble_iff.1 hq.2
      have hb := bounds_ok (P := P) (c := c) h1 h2 h3 true (len := len) (cap := cc) (by simp) q1 (.inl q2) (Nat.le_refl _) w
      simp only [Option.getD_none] at hb
      refine ⟨?_, by simp [wf, hx'.1]; omega⟩
      simp only [conc, Instr.slice, Sem.run_bind, run_underlying ht, Result.andThen_ok, hb, sizeT_run hk, Sem.run_pure]
      by_cases e1 : cc = a.getD 0
      ·simp [e1]
      ·simp [e1, beqF e1, Addr.add_lit, Nat.add_assoc]
   ·rename_i esz alt
    have hx' : id < c.N ∧ 1 ≤ esz ∧ len ≤ c.room id off esz := by simpa [wf] using hx
    cases hq0 : (Nat.beq esz k && Nat.ble 1 k) with
    | false => simp [hq0] at hr
    | true =>
     simp only [hq0, cond_true] at hr
     simp only [Bool.and_eq_true] at hq0
     have e0 := beq_iff.1 hq0.1
     subst e0
     have hk1 := hx'.2.1
     have hext := extent_le (id := id) (off := off) (k := esz) h
     split at hr
     ·rename_i mm bb
      cases hq : (Nat.ble (a.getD 0) bb && Nat.ble bb mm && (Nat.ble mm len || Nat.ble mm (extent σ id off esz)) && Nat.blt 0 len) with
      | false => simp [hq] at hr
      | true =>
       simp only [hq, cond_true, Option.some.injEq] at hr
       subst hr
       simp only [Bool.and_eq_true, Bool.or_eq_true, ble_iff, blt_iff] at hq
       have q3 : mm ≤ c.room id off esz := by omega
       have hb := bounds_ok (P := P) (c := c) h1 h2 h3 true (len := len) (cap := c.room id off esz) (by simp) hq.1.1.1 (.inl hq.1.1.2) q3 w
       simp only [Option.getD_some] at hb
       refine ⟨?_, by simp [wf, hx'.1]; omega⟩
       have h4 : c.room id off esz ≠ 0 := by omega
       simp only [conc, Instr.slice, Sem.run_bind, run_underlying ht, Result.andThen_ok, hb, sizeT_run hk, Sem.run_pure, h4, if_false]
       by_cases e1 : mm = a.getD 0
       ·simp [e1]
       ·simp [e1, beqF e1, Addr.add_lit, Nat.add_assoc]
     ·simp at hr
     ·cases hq : (Nat.ble (a.getD 0) (b.getD len) && (Nat.ble (b.getD len) len || Nat.ble (b.getD len) (extent σ id off esz))) with
      | false => simp [hq] at hr
      | true =>
       simp only [hq, cond_true, Option.some.injEq] at hr
       subst hr
       simp only [Bool.and_eq_true, Bool.or_eq_true, ble_iff] at hq
       have q3 : b.getD len ≤ c.room id off esz := by omega
       have hb := bounds_ok (P := P) (c := c) h1 h2 h3 true (len := len) (cap := c.room id off esz) (by simp) hq.1 (.inl q3) (Nat.le_refl _) w
       simp only [Option.getD_none] at hb
       have hroom := room_sub c id off esz (a.getD 0)
       refine ⟨?_, by simp only [wf, hroom]; exact ⟨hx'.1, hk1, by omega⟩⟩
       simp only [conc, Instr.slice, Sem.run_bind, run_underlying ht, Result.andThen_ok, hb, sizeT_run hk, Sem.run_pure, hroom]
       by_cases ha : a.getD 0 = 0
       ·rw [ha]
        by_cases h4 : c.room id off esz = 0
        ·simp [h4]
        ·simp [h4, Addr.add_lit]
       ·have h4 : c.room id off esz ≠ 0 := by omega
        simp only [h4, if_false, beqF ha, cond_false]
        by_cases e1 : c.room id off esz = a.getD 0
        ·have e2 : Nat.blt (a.getD 0) (b.getD len) = false := by
          cases hbl : Nat.blt (a.getD 0) (b.getD len) with
          | false => rfl
          | true => have := blt_iff.1 hbl; omega
         simp [e1, e2]
        ·have e3 : ¬ (c.room id off esz - a.getD 0 = 0) := by omega
         simp [e1, e3, Addr.add_lit, Nat.add_assoc]
 ·rename_i ar id off
  rw [run_sliceAt_other ht (by simp)]
  generalize har : P.underlying ar = da at hr
  split at hr
  ·rename_i n e
   split at hr
   ·rename_i k hk
    simp only at hr
    cases hq : (Nat.ble (a.getD 0) (b.getD n) && Nat.ble (b.getD n) n) with
    | false => simp [hq] at hr
    | true =>
     simp only [hq, cond_true, Option.some.injEq] at hr
     subst hr
     simp only [Bool.and_eq_true, ble_iff] at hq
     have hmx := mxn rfl
     subst hmx
     have hb := bounds_ok (P := P) (c := c) h1 h2 h3 false (len := n) (cap := n) (by simp) hq.1 (.inl hq.2) (Nat.le_refl _) w
     simp only [Option.map_none, Option.getD_none] at hb
     have hx' : id < c.N := by simpa [wf] using hx
     refine ⟨?_, by simp [wf, hx']; omega⟩
     simp only [conc, Instr.slice, Sem.run_bind, run_underlying ht, run_underlying har, Result.andThen_ok, hb, sizeT_run hk, Sem.run_pure, Option.map_none, asAddr]
     by_cases e1 : n = a.getD 0
     ·simp [e1]
     ·simp [e1, beqF e1, Addr.add_lit, Nat.add_assoc]
   ·simp at hr
  ·simp at hr
 ·rename_i n e id off
  split at hr
  ·rename_i k hk
   simp only at hr
   cases hq : (Nat.ble (a.getD 0) (b.getD n) && Nat.ble (b.getD n) n) with
   | false => simp [hq] at hr
   | true =>
    simp only [hq, cond_true, Option.some.injEq] at hr
    subst hr
    simp only [Bool.and_eq_true, ble_iff] at hq
    have hmx := mxn rfl
    subst hmx
    have hb := bounds_ok (P := P) (c := c) h1 h2 h3 false (len := n) (cap := n) (by simp) hq.1 (.inl hq.2) (Nat.le_refl _) w
    simp only [Option.map_none, Option.getD_none] at hb
    have hx' : id < c.N := by simpa [wf] using hx
    refine ⟨?_, by simp [wf, hx']; omega⟩
    simp only [conc, Instr.sliceAt, Sem.run_bind, run_underlying ht, Result.andThen_ok, hb, sizeT_run hk, Sem.run_pure, Option.map_none, Instr.sureAddr]
    by_cases e1 : n = a.getD 0
    ·simp [e1]
    ·simp [e1, beqF e1, Addr.add_lit, Nat.add_assoc]
  ·simp at hr
 ·simp at hr
theorem strBytes_beq {a b : List Nat} (ha : ∀ x ∈ a, x < 256) (hb : ∀ x ∈ b, x < 256) :
  ((⟨(a.map UInt8.ofNat).toArray⟩ : ByteArray) == ⟨(b.map UInt8.ofNat).toArray⟩) = natsBeq a b := by
 rw [natsBeq_eq, ← bytes_beq a b ha hb, beq_toListBytes, ByteArray.toList_mk, ByteArray.toList_mk]
theorem keyBeq_ok {d : TypeDesc} {a b : V} {r : Bool} (h : keyBeq d a b = some r) (ha : wf c a) (hb : wf c b) : Instr.sameNow d (conc c a) (conc c b) = some r := by
 unfold keyBeq at h
 split at h
 ·rename_i j x k y
  cases hq : ikBeq j k with
  | false => simp [hq] at h
  | true =>
   have := ikBeq_eq hq
   subst this
   simp only [hq, cond_true, Option.some.injEq, intBeq_eq] at h
   simp [Instr.sameNow, conc, h]
 ·rename_i x y
  simp only [Option.some.injEq] at h
  simp only [Instr.sameNow, conc]
  rw [strBytes_beq (by simpa [wf] using ha) (by simpa [wf] using hb), h]
 ·simp at h
theorem keyBeq_self {d : TypeDesc} {a b : V} {r : Bool} (h : keyBeq d a b = some r) : (∃ k, d = .int k) ∨ d = .string := by
 unfold keyBeq at h
 split at h
 ·exact .inl ⟨_, rfl⟩
 ·exact .inr rfl
 ·simp at h
theorem checkKey_ok {kt : TypeId} {d : TypeDesc} (hd : P.underlying kt = some d) {a b : V} {r : Bool} (h : keyBeq d a b = some r) (e : Bool) (n : Nat) (k : Value) (w : World) :
  (Instr.checkKey e (n + 1) kt k).run P w = .ok () w := by
 rcases keyBeq_self h with ⟨j, rfl⟩ | rfl
 ·simp [Instr.checkKey, run_underlying hd]
 ·simp [Instr.checkKey, run_underlying hd]
theorem findK_ok {d : TypeDesc} {k : V} (hk : wf c k) : ∀ (es : List (V × V × Nat)) (i : Nat) (r : Option (Nat × V)), findK d k es i = some r → (∀ x ∈ es, wf c x.1 ∧ wf c x.2.1) →
  Instr.findNow d (conc c k) (es.map (concE c)) i = some (r.map fun x => (x.1, conc c x.2)) ∧ (∀ x, r = some x → ∃ e, es[x.1 - i]? = some e ∧ i ≤ x.1 ∧ x.2 = e.2.1 ∧ keyBeq d k e.1 = some true) := by
 intro es
 induction es with
 | nil => intro i r h _; simp [findK] at h; subst h; simp [Instr.findNow]
 | cons e es ih =>
  intro i r h hw
  simp only [findK] at h
  cases hb : keyBeq d k e.1 with
  | none => simp [hb] at h
  | some b =>
   have h1 := keyBeq_ok (c := c) hb hk (hw e (by simp)).1
   cases b with
   | true =>
    simp [hb] at h
    subst h
    refine ⟨by simp [Instr.findNow, concE, h1], ?_⟩
    rintro x ⟨rfl⟩
    exact ⟨e, by simp, Nat.le_refl _, rfl, hb⟩
   | false =>
    simp [hb] at h
    obtain ⟨h2, h3⟩ := ih (i + 1) r h (fun x hx => hw x (by simp [hx]))
    refine ⟨by simp [Instr.findNow, concE, h1]; exact h2, ?_⟩
    intro x hx
    obtain ⟨e', g1, g2, g3⟩ := h3 x hx
    refine ⟨e', ?_, by omega, g3⟩
    have : x.1 - i = (x.1 - (i + 1)) + 1 := by omega
    rw [this]; simpa using g1
theorem findKey_ok {kt : TypeId} {d : TypeDesc} (hd : P.underlying kt = some d) {k : V} (hk : wf c k) {es : List (V × V × Nat)} {r : Option (Nat × V)} (h : findK d k es 0 = some r)
  (hw : ∀ x ∈ es, wf c x.1 ∧ wf c x.2.1) (w : World) : (Instr.findKey kt (conc c k) (es.map (concE c))).run P w = .ok (r.map fun x => (x.1, conc c x.2)) w := by
 have := (findK_ok hk es 0 r h hw).1
 simp [Instr.findKey, run_underlying hd, this]
theorem lookupV_ok {t : TypeId} {x k v : V} {ok : Bool} (h : Rel c σ w) (hr : lookupV P σ t x k ok = some v) (hx : wf c x) (hk : wf c k) :
  (Instr.lookup t (conc c x) (conc c k) ok).run P w = .ok (conc c v) w ∧ wf c v := by
 unfold lookupV at hr
 generalize ht : P.underlying t = dt at hr
 split at hr
 ·rename_i kt et
  generalize hd : P.underlying kt = dk at hr
  split at hr
  ·rename_i d z hz
   obtain ⟨z1, z2⟩ := zeroT_run hz c w
   split at hr
   ·split at hr
    ·rename_i b hb
     simp only [Option.some.injEq] at hr
     subst hr
     refine ⟨?_, ?_⟩
     ·simp only [Instr.lookup, Sem.run_bind, run_underlying ht, Result.andThen_ok, conc, Sem.run_pure]
      rw [checkKey_ok hd hb]
      simp only [Result.andThen_ok]
      have : (Instr.findKey kt (conc c k) (#[] : Array MapEntry).toList).run P w = .ok none w := by simp [Instr.findKey, run_underlying hd, Instr.findNow]
      rw [this]
      simp only [Result.andThen_ok, Sem.run_bind, z1, Sem.run_pure]
      cases ok <;> simp [conc, concL]
     ·cases ok <;> simp [wf, wfL, z2]
    ·simp at hr
   ·rename_i id
    split at hr
    ·rename_i es clock hg
     obtain ⟨hw, hb⟩ := h.obj id _ hg
     have hgo := run_getObj (P := P) hb (by simp)
     split at hr
     ·rename_i b i u hb1 hf
      simp only [Option.some.injEq] at hr
      subst hr
      have hfk := findKey_ok (P := P) hd hk hf hw w
      obtain ⟨e, g1, _, g3, _⟩ := (findK_ok hk es 0 _ hf hw).2 (i, u) rfl
      have hu : wf c u := by
       simp only at g3; rw [g3]; exact (hw e (List.mem_of_getElem? g1)).2
      refine ⟨?_, by cases ok <;> simp [wf, wfL, hu]⟩
      simp only [Instr.lookup, Sem.run_bind, run_underlying ht, Result.andThen_ok, conc, Sem.run_pure, hgo]
      rw [checkKey_ok hd hb1]
      simp only [Result.andThen_ok, hfk, Option.map_some]
      cases ok <;> simp [conc, concL]
     ·rename_i b hb1 hf
      simp only [Option.some.injEq] at hr
      subst hr
      have hfk := findKey_ok (P := P) hd hk hf hw w
      refine ⟨?_, by cases ok <;> simp [wf, wfL, z2]⟩
      simp only [Instr.lookup, Sem.run_bind, run_underlying ht, Result.andThen_ok, conc, Sem.run_pure, hgo]
      rw [checkKey_ok hd hb1]
      simp only [Result.andThen_ok, hfk, Option.map_none, Sem.run_bind, z1, Sem.run_pure]
      cases ok <;> simp [conc, concL]
     ·simp at hr
    ·simp at hr
   ·simp at hr
  ·simp at hr
 ·simp at hr
theorem lookupX_ok {t : TypeId} {x k v : V} {ok : Bool} (h : Rel c σ w) (hr : lookupX P σ t x k ok = some v) (hx : wf c x) (hk : wf c k) :
  (Instr.lookup t (conc c x) (conc c k) ok).run P w = .ok (conc c v) w ∧ wf c v := by
 unfold lookupX at hr
 split at hr
 ·rename_i u hu
  simp only [Option.some.injEq] at hr
  subst hr
  exact lookupV_ok h hu hx hk
 ·unfold lookupE at hr
  generalize ht : P.underlying t = dt at hr
  split at hr
  ·rename_i kt et a b hno
   split at hr
   ·rename_i n e z id hd hz
    obtain ⟨z1, z2⟩ := zeroT_run hz c w
    split at hr
    ·rename_i m clock he hsz hag hg
     cases hq : (Nat.beq n 2 && Nat.beq m 1) with
     | false => rw [hq] at hr; cases hr
     | true =>
      rw [hq, cond_true] at hr
      simp only [Bool.and_eq_true, beq_iff] at hq
      obtain ⟨rfl, rfl⟩ := hq
      simp only [Option.some.injEq] at hr
      subst hr
      obtain ⟨hw, hb⟩ := h.obj id _ hg
      have hgo := run_getObj (P := P) hb (by simp)
      have p0 := partV_ok (P := P) (c := c) (t := e) (cs := [.str a, .str b]) (off := 0) (v := .str a) (by simp [partV, hag, nth]) (by intro y hy; have := (wfL_iff.1 (by simpa [wf] using hk : wfL c [V.str a, V.str b])); exact this y hy) w
      have p1 := partV_ok (P := P) (c := c) (t := e) (cs := [.str a, .str b]) (off := 1) (v := .str b) (by simp [partV, hag, nth, show Nat.beq 1 0 = false from rfl]) (by intro y hy; have := (wfL_iff.1 (by simpa [wf] using hk : wfL c [V.str a, V.str b])); exact this y hy) w
      refine ⟨?_, by cases ok <;> simp [wf, wfL, z2]⟩
      have hs1 := sizeT_run hsz w
      have hstr : ∀ (e' : Bool) (m : Nat) (u : List Nat), (Instr.checkKey e' (m + 1) e (conc c (.str u))).run P w = .ok () w := fun e' m u => by
       simp [Instr.checkKey, run_underlying he, conc]
      have hkeyM : ∀ (e' : Bool) (m : Nat), (Instr.checkKey e' (m + 1 + 1) kt (conc c (.agg [.str a, .str b]))).run P w = .ok () w := fun e' m => by
       rw [show conc c (.agg [.str a, .str b]) = .agg ([V.str a, V.str b].map (conc c)).toArray from by simp [conc, concL]]
       unfold Instr.checkKey
       simp only [Sem.run_bind, run_underlying hd, Result.andThen_ok]
       simp only [Std.Legacy.Range.forIn_eq_forIn_range', Std.Legacy.Range.size, Nat.sub_zero, Nat.add_one_sub_one, Nat.div_one]
       simp only [show List.range' 0 2 1 = [0, 1] from rfl, List.forIn_cons, List.forIn_nil, Sem.run_bind, hs1, Result.andThen_ok, Nat.zero_mul, Nat.one_mul, p0.1, p1.1, hstr, Sem.run_pure]
      have hkey : ∀ e', (Instr.checkKey e' 10000 kt (conc c (.agg [.str a, .str b]))).run P w = .ok () w := fun e' => hkeyM e' 9998
      have hfind : (Instr.findKey kt (conc c (.agg [.str a, .str b])) (#[] : Array MapEntry).toList).run P w = .ok none w := by simp [Instr.findKey, run_underlying hd, Instr.findNow]
      simp only [Instr.lookup, Sem.run_bind, run_underlying ht, Result.andThen_ok, Sem.run_pure]
      rw [show conc c (.map id) = .map (some (c.ρ id).1) from by simp [conc]]
      simp only [Sem.run_bind, hgo, Result.andThen_ok, Sem.run_pure, List.map_nil, hkey, hfind, z1]
      cases ok <;> simp [conc, concL]
    ·cases hr
   ·cases hr
  ·cases hr
theorem lenV_ok {t : TypeId} {x v : V} (h : Rel c σ w) (hr : lenV P σ t x = some v) (ts : Array TypeId) (hts : ts[0]? = some t) (ty : TypeId) :
  (Builtin.len_ ts ty #[conc c x]).run P w = .ok (conc c v) w ∧ wf c v := by
 unfold lenV at hr
 generalize ht : P.underlying t = dt at hr
 split at hr
 ·rename_i l
  simp only [Option.some.injEq] at hr; subst hr
  have hsz : (⟨(l.map UInt8.ofNat).toArray⟩ : ByteArray).size = l.length := by simp [ByteArray.size]
  exact ⟨by simp [Builtin.len_, hts, run_underlying ht, conc, goInt, hsz], by simp [wf]⟩
 ·simp only [Option.some.injEq] at hr; subst hr
  exact ⟨by simp [Builtin.len_, hts, run_underlying ht, conc, goInt], by simp [wf]⟩
 ·simp only [Option.some.injEq] at hr; subst hr
  exact ⟨by simp [Builtin.len_, hts, run_underlying ht, conc, goInt], by simp [wf]⟩
 ·rename_i id off n cap
  simp only [Option.some.injEq] at hr; subst hr
  obtain ⟨a, m, hs⟩ := sl_shape c id off n cap
  rw [hs]
  exact ⟨by simp [Builtin.len_, hts, run_underlying ht, conc, goInt], by simp [wf]⟩
 ·simp only [Option.some.injEq] at hr; subst hr
  exact ⟨by simp [Builtin.len_, hts, run_underlying ht, conc, goInt], by simp [wf]⟩
 ·simp only [Option.some.injEq] at hr; subst hr
  exact ⟨by simp [Builtin.len_, hts, run_underlying ht, conc, goInt], by simp [wf]⟩
 ·rename_i id
  split at hr
  ·rename_i es clock hg
   simp only [Option.some.injEq] at hr; subst hr
   obtain ⟨hw, hb⟩ := h.obj id _ hg
   have hgo := run_getObj (P := P) hb (by simp)
   exact ⟨by simp [Builtin.len_, hts, run_underlying ht, conc, goInt, hgo], by simp [wf]⟩
  ·simp at hr
 ·simp at hr
theorem maxV_ok {x y v : V} (hr : maxV x y = some v) (w : World) : (Builtin.max2 (conc c x) (conc c y)).run P w = .ok (conc c v) w ∧ wf c v := by
 unfold maxV at hr
 split at hr
 ·rename_i k a j b
  cases hq : ikBeq k j with
  | false => simp [hq] at hr
  | true =>
   have := ikBeq_eq hq
   subst this
   simp only [hq, cond_true, Option.some.injEq] at hr
   subst hr
   refine ⟨?_, by simp [wf]⟩
   by_cases hab : b > a
   ·simp [Builtin.max2, conc, hab]
   ·simp [Builtin.max2, conc, hab]
 ·simp at hr
theorem minV_ok {x y v : V} (hr : minV x y = some v) (w : World) : (Builtin.min2 (conc c x) (conc c y)).run P w = .ok (conc c v) w ∧ wf c v := by
 unfold minV at hr
 split at hr
 ·rename_i k a j b
  cases hq : ikBeq k j with
  | false => simp [hq] at hr
  | true =>
   have := ikBeq_eq hq
   subst this
   simp only [hq, cond_true, Option.some.injEq] at hr
   subst hr
   refine ⟨?_, by simp [wf]⟩
   by_cases hab : b < a
   ·simp [Builtin.min2, conc, hab]
   ·simp [Builtin.min2, conc, hab]
 ·simp at hr
theorem foldV_ok (f : V → V → Option V) (g : Value → Value → Sem Value) (hf : ∀ x y v, f x y = some v → (g (conc c x) (conc c y)).run P w = .ok (conc c v) w ∧ wf c v) :
  ∀ (l : List V) (x v : V), foldV f x l = some v → wf c x → ((l.map (conc c)).foldlM g (conc c x)).run P w = .ok (conc c v) w ∧ wf c v := by
 intro l
 induction l with
 | nil => intro x v h hx; simp [foldV] at h; subst h; exact ⟨by simp, hx⟩
 | cons y l ih =>
  intro x v h hx
  simp only [foldV] at h
  cases hq : f x y with
  | none => simp [hq] at h
  | some z =>
   simp only [hq] at h
   obtain ⟨h1, h2⟩ := hf x y z hq
   obtain ⟨h3, h4⟩ := ih z v h h2
   exact ⟨by simp [List.foldlM_cons, h1, h3], h4⟩
theorem assertV_ok {x v : V} {xt t : TypeId} {ok : Bool} (hr : assertV P x t ok = some v) (hx : wf c x) (w : World) :
  (Instr.typeAssert (conc c x) xt t ok).run P w = .ok (conc c v) w ∧ wf c v := by
 unfold assertV at hr
 generalize ht : P.underlying t = dt at hr
 split at hr
 ·simp at hr
 ·rename_i d hd
  split at hr
  ·rename_i u y
   cases hq : Nat.beq u t with
   | true =>
    have := beq_iff.1 hq
    subst this
    simp only [hq, cond_true, Option.some.injEq] at hr
    subst hr
    have hy : wf c y := by simpa [wf] using hx
    refine ⟨?_, by cases ok <;> simp [wf, wfL, hy]⟩
    simp only [Instr.typeAssert, Sem.run_bind, run_underlying ht, Result.andThen_ok, conc]
    cases d <;> first | exact absurd rfl (hd _) | (cases ok <;> simp [conc, concL])
   | false =>
    have hne : u ≠ t := fun e => by rw [beqT e] at hq; cases hq
    simp only [hq, cond_false] at hr
    split at hr
    ·rename_i z hz
     simp only [Option.some.injEq] at hr
     subst hr
     obtain ⟨z1, z2⟩ := zeroT_run hz c w
     refine ⟨?_, by simp [wf, wfL, z2]⟩
     simp only [Instr.typeAssert, Sem.run_bind, run_underlying ht, Result.andThen_ok, conc]
     cases d <;> first | exact absurd rfl (hd _) | simp [conc, concL, hne, z1]
    ·simp at hr
  ·split at hr
   ·rename_i z hz
    simp only [Option.some.injEq] at hr
    subst hr
    obtain ⟨z1, z2⟩ := zeroT_run hz c w
    refine ⟨?_, by simp [wf, wfL, z2]⟩
    simp only [Instr.typeAssert, Sem.run_bind, run_underlying ht, Result.andThen_ok, conc]
    cases d <;> first | exact absurd rfl (hd _) | simp [conc, concL, z1]
   ·simp at hr
  ·simp at hr
 ·simp at hr
end
end Go.Proofs.YtconhghphklfjaaGreat.Am
