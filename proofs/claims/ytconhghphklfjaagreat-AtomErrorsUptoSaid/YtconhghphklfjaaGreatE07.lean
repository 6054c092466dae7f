/- A group that is over or open, pages that are none and records that may not be are refused, and a record that was done is read back; the conditions are those of the given statement, for arguments that a machine can hold. Part 7 of 44. -/
import Derived.Test.YtconhghphklfjaaGreatE06
namespace Go.Proofs.YtconhghphklfjaaGreat.Am
open Go
section
variable {P : Program} {c : Ctx} {σ : H} {w : World}
theorem srcV_ok {k n : Nat} {x : V} {new : List V} (h : Rel c σ w) (hr : srcV σ k x = some (new, n)) (hx : wf c x) :
  (Builtin.lenOf (conc c x)).run P w = .ok n w ∧ (Builtin.firstCells k n (conc c x)).run P w = .ok ((new.map (conc c)).toArray) w ∧
   new.length = n * k ∧ ∀ v ∈ new, wf c v ∧ storable v = true := by
 unfold srcV at hr
 split at hr
 ·simp only [Option.some.injEq, Prod.mk.injEq] at hr
  obtain ⟨rfl, rfl⟩ := hr
  exact ⟨by simp [Builtin.lenOf, conc], by simp [Builtin.firstCells, conc], by simp, by simp⟩
 ·simp only [Option.some.injEq, Prod.mk.injEq] at hr
  obtain ⟨rfl, rfl⟩ := hr
  exact ⟨by simp [Builtin.lenOf, conc], by simp [Builtin.firstCells, conc, loadCells, loadCellsFrom], by simp, by simp⟩
 ·rename_i id off len cap
  cases hq : rdN σ id off (len * k) with
  | none => simp [hq] at hr
  | some cs =>
   simp [hq] at hr
   obtain ⟨rfl, rfl⟩ := hr
   obtain ⟨a, m, h1, h2, _, _⟩ := sl_read (P := P) h hx hq (fun e => by rw [e]; simp)
   obtain ⟨h3, h4, _⟩ := rdN_ok h hq
   rw [h1]
   exact ⟨by simp [Builtin.lenOf], by simp [Builtin.firstCells, h2], h3, h4⟩
 ·rename_i l
  cases hq : Nat.beq k 1 with
  | false => simp [hq] at hr
  | true =>
   have := beq_iff.1 hq
   subst this
   simp only [hq, cond_true, Option.some.injEq, Prod.mk.injEq] at hr
   obtain ⟨rfl, rfl⟩ := hr
   have hl : ∀ y ∈ l, y < 256 := by simpa [wf] using hx
   have hsz : (⟨(l.map UInt8.ofNat).toArray⟩ : ByteArray).size = l.length := by simp [ByteArray.size]
   refine ⟨by simp [Builtin.lenOf, conc, hsz], ?_, by simp [ofBytes], fun v hv => ?_⟩
   ·simp only [Builtin.firstCells, conc, Sem.run_pure]
    have : ((⟨(l.map UInt8.ofNat).toArray⟩ : ByteArray).extract 0 l.length) = ⟨(l.map UInt8.ofNat).toArray⟩ := by
     apply ByteArray.ext
     simp [List.take_of_length_le]
    rw [this, ofBytes_conc c hl]
   ·obtain ⟨n, rfl⟩ := ofBytes_mem hv
    exact ⟨by simp [wf], rfl⟩
 ·simp at hr
theorem append_room {ts : Array TypeId} {t u ty e : TypeId} {i : TypeInfo} {du : TypeDesc} (h0 : ts[0]? = some t) (h1 : ts[1]? = some u) (ht : P.underlying t = some (.slice e)) (hu : P.underlying u = some du)
  (hdu : ∀ k, du ≠ .int k) (hi : P.info? e = some i) (base : Option Addr) (sLen sCap n : Nat) (x : Value) (new : Array Value)
  (hl : (Builtin.lenOf x).run P w = .ok n w) (hf : (Builtin.firstCells i.size n x).run P w = .ok new w) (hle : sLen + n ≤ sCap) :
  (Builtin.append_ ts ty #[.slice base sLen sCap, x]).run P w = match base with
   | none => .ok (.slice none (sLen + n) sCap) w
   | some a => ((storeCells (a.add (sLen * i.size)) new.toList).run P w).andThen fun _ w' => .ok (.slice (some a) (sLen + n) sCap) w' := by
 have hsz : (sizeOf e).run P w = .ok i.size w := by simp [sizeOf, typeInfo, hi]
 simp only [Builtin.append_, h0, h1, List.getElem?_toArray, List.getElem?_cons_zero, List.getElem?_cons_succ, Sem.run_bind, run_underlying ht, run_underlying hu, Result.andThen_ok, hsz]
 cases du
 case int k => exact absurd rfl (hdu k)
 all_goals simp only [Sem.run_pure, Result.andThen_ok, Bool.false_eq_true, if_false, hl, hle, if_true, Sem.run_bind, hf, Bool.not_false]
 all_goals cases base <;> simp
theorem growOk_iff {n b : Nat} : growOk n b = true ↔ n ≤ 140737488355328 ∧ n * b ≤ 140737488355328 := by
 unfold growOk
 rw [Bool.and_eq_true, ble_iff, ble_iff]
theorem append_grow {ts : Array TypeId} {t u ty e : TypeId} {i : TypeInfo} {du : TypeDesc} {z : Value} (h0 : ts[0]? = some t) (h1 : ts[1]? = some u) (ht : P.underlying t = some (.slice e))
  (hu : P.underlying u = some du) (hdu : ∀ k, du ≠ .int k) (hi : P.info? e = some i) (hz0 : i.zero = some z) (base : Option Addr) (sLen sCap n : Nat) (x : Value) (old new : Array Value)
  (hl : (Builtin.lenOf x).run P w = .ok n w) (hf : (Builtin.firstCells i.size n x).run P w.drew = .ok new w.drew)
  (ho : (Builtin.firstCells i.size sLen (.slice base sLen sCap)).run P w.drew = .ok old w.drew) (hg : sCap < sLen + n) (hb : growOk (sLen + n) i.bytes = true) :
  ∃ cap, sLen + n ≤ cap ∧ (Builtin.append_ ts ty #[.slice base sLen sCap, x]).run P w =
   .ok (.slice (some ⟨w.heap.size, 0, none⟩) (sLen + n) cap) (w.drew.alloc (.cells (old ++ new ++ Builtin.zeroCells z.cells (cap - (sLen + n))) e)) := by
 have hsz : ∀ w, (sizeOf e).run P w = .ok i.size w := fun w => by simp [sizeOf, typeInfo, hi]
 have hti : ∀ w, (typeInfo e).run P w = .ok i w := fun w => by simp [typeInfo, hi]
 have hzv : ∀ w, (zeroValue e).run P w = .ok z w := fun w => by simp [zeroValue, typeInfo, hi, hz0]
 have hn : ¬ (sLen + n ≤ sCap) := by omega
 obtain ⟨hb1, hb2⟩ := growOk_iff.1 hb
 have h63 : ¬ (((sLen + n : Nat) : Int) > IntKind.i64.max) := by
  rw [IntKind.max_i64]; omega
 have h48 : ¬ (Builtin.nextslicecap (sLen + n) sCap * i.bytes > 2 ^ 48) := by
  have := growslice_fits (need := sLen + n) (old := sCap) (bytes := i.bytes) hg hb2
  omega
 refine ⟨(Question.appendCap (sLen + n) sCap e).cut (w.tape w.drawn (.appendCap (sLen + n) sCap e)), by simp [Question.cut], ?_⟩
 simp only [Builtin.append_, h0, h1, List.getElem?_toArray, List.getElem?_cons_zero, List.getElem?_cons_succ, Sem.run_bind, run_underlying ht, run_underlying hu, Result.andThen_ok, hsz]
 cases du
 case int k => exact absurd rfl (hdu k)
 all_goals simp only [Sem.run_pure, Result.andThen_ok, Bool.false_eq_true, if_false, hl, hn, hti, Sem.run_bind, h63, false_and, h48, Bool.not_false, if_true, run_choose, Question.forced, run_askRoom]
 all_goals simp only [World.drew_eq, ho, hf, hzv, Result.andThen_ok, Go.newRow, Sem.run_bind, run_newObj, Sem.run_pure, World.alloc_eq]
 all_goals rfl
theorem zeroCells_size (z : Array Value) (n : Nat) : (Builtin.zeroCells z n).size = n * z.size := by simp [Builtin.zeroCells]
theorem grown_got {e : TypeId} {k : Nat} {old new : List V} {need cap : Nat} {zs : Array Value} (h : Rel c σ w) (hk : 1 ≤ k) (ho : ∀ v ∈ old, wf c v ∧ storable v = true) (hn : ∀ v ∈ new, wf c v ∧ storable v = true)
  (hlen : old.length + new.length = need * k) (hcap : need ≤ cap) (hzs : zs.size = (cap - need) * k) :
  ∃ c', conc c' (.sl σ.next 0 need (.rest k 0)) = .slice (some ⟨w.heap.size, 0, none⟩) need cap ∧ wf c' (.sl σ.next 0 need (.rest k 0)) ∧
   Rel c' (growV σ k old new need).2 (w.drew.alloc (.cells ((old.map (conc c)).toArray ++ (new.map (conc c)).toArray ++ zs) e)) ∧
   Stp c w c' (w.drew.alloc (.cells ((old.map (conc c)).toArray ++ (new.map (conc c)).toArray ++ zs) e)) := by
 have hcs : ∀ v ∈ old ++ new, wf c v ∧ storable v = true := fun v hv => by
  rcases List.mem_append.1 hv with hv | hv
  ·exact ho v hv
  ·exact hn v hv
 obtain ⟨g1, g2⟩ := h.drew.newRow hcs e zs.toList
 have hrow : (((old ++ new).map (conc c)) ++ zs.toList).toArray = (old.map (conc c)).toArray ++ (new.map (conc c)).toArray ++ zs := by
  apply Array.ext'
  simp
 have hsz : (old ++ new).length + zs.toList.length = cap * k := by
  simp only [List.length_append, Array.length_toList, hlen, hzs]
  rw [← Nat.add_mul]
  congr 1
  omega
 have hl2 : (old ++ new).length = need * k := by simpa using hlen
 rw [hrow, hsz, hl2] at g1
 rw [hrow, hsz] at g2
 refine ⟨_, ?_, ?_, g1, (Stp.drew c w).trans g2⟩
 ·have hroom : (c.grow w.heap.size 0 (cap * k)).room σ.next 0 k = cap := by
   simp only [Ctx.room, h.next, Ctx.grow, if_true, Nat.sub_zero, Nat.add_zero]
   exact Nat.mul_div_cancel cap (by omega)
  have hroom' : (c.grow w.drew.heap.size 0 (cap * k)).room σ.next 0 k = cap := hroom
  simp only [conc, hroom']
  simp [h.next, Ctx.grow]
 ·have hroom' : (c.grow w.drew.heap.size 0 (cap * k)).room σ.next 0 k = cap := by
   simp only [Ctx.room, h.next, Ctx.grow, World.size_drew, if_true, Nat.sub_zero, Nat.add_zero]
   exact Nat.mul_div_cancel cap (by omega)
  simp only [wf, hroom']
  exact ⟨by rw [h.next, grow_N]; omega, hk, hcap⟩
def Ctx.at (c : Ctx) (id off : Nat) : Ctx := ⟨fun i => if i = c.N then ((c.ρ id).1, (c.ρ id).2 + off) else c.ρ i, c.Z, c.N + 1, fun i => if i = c.N then false else c.X i⟩
theorem Rel.anew {id off n m : Nat} {cs cs' : List V} {C C' : Array Value} {e : TypeId} (h : Rel c σ w) (hg : σ.tr.get id = some (.cells n cs false))
  (hb : w.heap[(c.ρ id).1]? = some (.cells C e (0, 0))) (hs : C'.size = C.size) (hl : m = cs'.length) (hm2 : 2 ≤ m) (hwf : ∀ v ∈ cs', wf c v ∧ storable v = true) (hle : (c.ρ id).2 + off + m ≤ C.size)
  (hv : ∀ j v, cs'[j]? = some v → C'[(c.ρ id).2 + off + j]? = some (conc c v)) :
  Rel (c.at id off) ((σ.put id none).new (.cells m cs' false)) (World.setRow w (c.ρ id).1 C' e (0, 0)) ∧ Stp c w (c.at id off) (World.setRow w (c.ρ id).1 C' e (0, 0)) := by
 have hid := h.live id _ hg
 have hlt : (c.ρ id).1 < w.heap.size := (Array.getElem?_eq_some_iff.1 hb).1
 have hold : ∀ i, i < c.N → (c.at id off).ρ i = c.ρ i := fun i hi => by simp [Ctx.at, Nat.ne_of_lt hi]
 have hnew : (c.at id off).ρ c.N = ((c.ρ id).1, (c.ρ id).2 + off) := by simp [Ctx.at]
 have hoX : ∀ i, i < c.N → (c.at id off).X i = c.X i := fun i hi => by simp [Ctx.at, Nat.ne_of_lt hi]
 have ex : Ext c (c.at id off) := ⟨by simp [Ctx.at], hold, fun _ _ => rfl, hoX⟩
 have hX := h.notX hg (by intro _ _ he; cases he)
 have hN : (c.at id off).N = c.N + 1 := rfl
 have key : ∀ i o, ((σ.put id none).new (.cells m cs' false)).tr.get i = some o → (i = c.N ∧ o = .cells m cs' false) ∨ (i < c.N ∧ i ≠ id ∧ σ.tr.get i = some o) := by
  intro i o hi
  rw [get_new] at hi
  by_cases h1 : i = c.N
  ·have : (σ.put id none).next = c.N := by simp [H.put, h.next]
   rw [this] at hi
   simp [h1] at hi
   exact .inl ⟨h1, hi.symm⟩
  ·have : (σ.put id none).next = c.N := by simp [H.put, h.next]
   rw [this, if_neg h1, get_put] at hi
   by_cases h2 : i = id
   ·simp [h2] at hi
   ·simp [h2] at hi
    exact .inr ⟨h.live i o hi, h2, hi⟩
 refine ⟨⟨by simp [H.new, H.put, h.next, Ctx.at], fun i o hi => ?_, fun i hi => ?_, fun i hi => ?_, fun i j o o' hi hj he => ?_, fun i o hi => ?_, fun i cs₁ st₁ hi hx => ?_, fun i o hi hx => ?_⟩,
  ⟨ex, by simp [World.setRow], fun b _ => rowSize_setRow hb hs b, fun b _ hn => ?_, fun j h1 h2 => ?_, rfl, rfl⟩⟩
 ·rw [hN]
  rcases key i o hi with ⟨h1, _⟩ | ⟨h1, _⟩ <;> omega
 ·rw [hN] at hi
  by_cases h1 : i = c.N
  ·subst h1; rw [hnew]; simpa [World.setRow] using hlt
  ·rw [hold i (by omega)]; simpa [World.setRow] using h.blk i (by omega)
 ·rw [hN] at hi
  rw [rowSize_setRow hb hs]
  by_cases h1 : i = c.N
  ·subst h1; rw [hnew]; exact h.zz id hid
  ·rw [hold i (by omega)]; exact h.zz i (by omega)
 ·rcases key i o hi with ⟨a1, _⟩ | ⟨a1, a2, a3⟩ <;> rcases key j o' hj with ⟨b1, _⟩ | ⟨b1, b2, b3⟩
  ·exact .inl (by omega)
  ·subst a1
   rw [hnew, hold j b1] at he
   exact absurd (h.inj1 b3 hg he.symm hX) b2
  ·subst b1
   rw [hnew, hold i a1] at he
   exact absurd (h.inj1 a3 hg he hX) a2
  ·rw [hold i a1, hold j b1] at he
   rw [hoX i a1, hoX j b1]; exact h.inj i j _ _ a3 b3 he
 ·rcases key i o hi with ⟨rfl, rfl⟩ | ⟨a1, a2, a3⟩
  ·refine ⟨hl, fun v hv => ⟨(conc_ext ex v (hwf v hv).1).2, (hwf v hv).2⟩, C', e, (0, 0), by rw [hnew, setRow_get hlt]; simp, by rw [hnew, hs]; exact hle, fun j v hj => ?_, rfl⟩
   rw [hnew, (conc_ext ex v (hwf v (List.mem_of_getElem? hj)).1).1]
   exact hv j v hj
  ·have hne : (c.ρ id).1 ≠ (c.ρ i).1 := fun he => a2 (h.inj1 a3 hg he.symm hX)
   exact (h.obj i o a3).later ex a1 (by rw [setRow_get hlt]; simp [hne])
 ·rcases key i _ hi with ⟨_, a2⟩ | ⟨a1, _, a3⟩
  ·simp at a2; omega
  ·rw [hoX i a1] at hx
   rw [hold i a1]; exact h.one i cs₁ st₁ a3 hx
 ·rcases key i o hi with ⟨a1, _⟩ | ⟨a1, _, a3⟩
  ·rw [a1] at hx; simp [Ctx.at] at hx
  ·rw [hoX i a1] at hx; exact h.fx i o a3 hx
 ·rw [setRow_get hlt]
  have : (c.ρ id).1 ≠ b := fun he => by have := hn id hid he; rw [hX] at this; cases this
  simp [this]
 ·rw [hN] at h2
  have : j = c.N := by omega
  subst this
  exact .inr ⟨id, hid, by rw [hnew], hX⟩
theorem zero_of_zeroT {e : TypeId} {i : TypeInfo} {z : V} (hi : P.info? e = some i) (hz : zeroT P e = some z) (c : Ctx) : i.zero = some (conc c z) := by
 unfold zeroT at hz
 rw [hi] at hz
 cases hq : i.zero with
 | none => simp [hq] at hz
 | some x =>
  simp only [hq, Option.bind_some] at hz
  have h0 : ofValue x = some z := by
   split at hz
   ·simp at hz
   ·exact hz
  rw [(ofValue_ok h0 c).1]
theorem appendV_got {ts : Array TypeId} {ty : TypeId} {s x v : V} {σ' : H} (h : Rel c σ w) (hr : appendV P σ ts s x = some (v, σ')) (hs : wf c s) (hx : wf c x) :
  Got P (Builtin.append_ ts ty #[conc c s, conc c x]) c w v σ' := by
 unfold appendV at hr
 split at hr
 ·rename_i t u hts
  have h0 : ts[0]? = some t := by rw [← Array.getElem?_toList, hts]; rfl
  have h1 : ts[1]? = some u := by rw [← Array.getElem?_toList, hts]; rfl
  generalize ht : P.underlying t = dt at hr
  generalize hu : P.underlying u = du at hr
  split at hr
  ·simp at hr
  ·rename_i e d hdu
   have hd : ∀ k, d ≠ .int k := fun k e => hdu k e
   split at hr
   ·rename_i i z hi hz
    cases hq : (Nat.ble 1 i.size && Nat.ble i.bytes 4096 && Nat.beq z.cells.length i.size) with
    | false => simp [hq] at hr
    | true =>
     simp only [hq, cond_true] at hr
     simp only [Bool.and_eq_true, ble_iff, beq_iff] at hq
     obtain ⟨⟨q1, q2⟩, q3⟩ := hq
     have hz0 := zero_of_zeroT hi hz c
     have hzsz : ∀ n, (Builtin.zeroCells (conc c z).cells n).size = n * i.size := fun n => by
      rw [zeroCells_size, cells_conc']; simp [q3]
     split at hr
     ·simp at hr
     ·rename_i new n hsrc
      obtain ⟨l1, l2, l3, l4⟩ := srcV_ok (P := P) h hsrc hx
      obtain ⟨_, l2', _, _⟩ := srcV_ok (P := P) h.drew hsrc hx
      cases hn : Nat.beq n 0 with
      | true =>
       have hn0 := beq_iff.1 hn
       subst hn0
       have hnew : new = [] := List.length_eq_zero_iff.1 (by simpa using l3)
       subst hnew
       simp only [hn, cond_true] at hr
       split at hr
       ·simp only [Option.some.injEq, Prod.mk.injEq] at hr
        obtain ⟨rfl, rfl⟩ := hr
        refine Got.same h ⟨?_, hs⟩
        have := append_room (P := P) (w := w) (ty := ty) h0 h1 ht hu hd hi none 0 0 0 (conc c x) _ l1 l2 (Nat.le_refl _)
        simpa [conc] using this
       ·rename_i id off len cap
        simp only [Option.some.injEq, Prod.mk.injEq] at hr
        obtain ⟨rfl, rfl⟩ := hr
        refine Got.same h ⟨?_, hs⟩
        have hle : ∃ a m, conc c (.sl id off len cap) = .slice (some a) len m ∧ len ≤ m := by
         cases cap with
         | exact m =>
          have hx' : id < c.N ∧ len ≤ m := by simpa [wf] using hs
          exact ⟨_, m, by simp only [conc]; rfl, hx'.2⟩
         | rest esz alt =>
          have hx' : id < c.N ∧ 1 ≤ esz ∧ len ≤ c.room id off esz := by simpa [wf] using hs
          exact ⟨_, _, by simp only [conc]; rfl, hx'.2.2⟩
        obtain ⟨a, m, e1, e2⟩ := hle
        rw [e1]
        have := append_room (P := P) (w := w) (ty := ty) h0 h1 ht hu hd hi (some a) len m 0 (conc c x) _ l1 l2 e2
        rw [this]
        simp [storeCells]
       ·simp at hr
      | false =>
       have hn0 : n ≠ 0 := fun e => by rw [beqT e] at hn; cases hn
       simp only [hn, cond_false] at hr
       split at hr
       ·-- onto nil
        cases hq : growOk n i.bytes with
        | false => simp [hq] at hr
        | true =>
         simp only [hq, cond_true, Option.some.injEq] at hr
         obtain ⟨cap, hc1, hc2⟩ := append_grow (P := P) (w := w) (ty := ty) h0 h1 ht hu hd hi hz0 none 0 0 n (conc c x) #[] _ l1 l2' (by simp [Builtin.firstCells]) (by omega) (by rw [Nat.zero_add]; exact hq)
         obtain ⟨c', g1, g2, g3, g4⟩ := grown_got (e := e) (zs := Builtin.zeroCells (conc c z).cells (cap - (0 + n))) (old := []) (new := new) (need := n) (cap := cap) h q1 (by simp) l4 (by simpa using l3) (by omega) (by rw [hzsz]; congr 2; omega)
         have hv : v = .sl σ.next 0 n (.rest i.size 0) := by rw [← (Prod.mk.inj hr).1]
         have hσ : σ' = (growV σ i.size [] new n).2 := by rw [← (Prod.mk.inj hr).2]; rfl
         subst hv; subst hσ
         refine ⟨_, c', ?_, g2, g3, g4⟩
         rw [g1]
         simp only [conc]
         rw [hc2]
         simp
       ·-- a slice whose capacity is known
        rename_i id off len cc
        have hx' : id < c.N ∧ len ≤ cc := by simpa [wf] using hs
        cases hq : Nat.ble (len + n) cc with
        | true =>
         have hle := ble_iff.1 hq
         simp only [hq, cond_true] at hr
         cases hw : wrN σ id (off + len * i.size) new with
         | none => simp [hw] at hr
         | some σ₁ =>
          simp only [hw, Option.some.injEq, Prod.mk.injEq] at hr
          obtain ⟨rfl, rfl⟩ := hr
          obtain ⟨w', s1, s2, s3⟩ := wrN_ok (P := P) h hw l4
          refine ⟨w', c, ?_, by simpa [wf] using ⟨hx'.1, hle⟩, s2, s3⟩
          have := append_room (P := P) (w := w) (ty := ty) h0 h1 ht hu hd hi (some (adr c id off)) len cc n (conc c x) _ l1 l2 hle
          have e1 : conc c (.sl id off len (.exact cc)) = .slice (some (adr c id off)) len cc := by simp only [conc, adr]
          rw [e1, this]
          simp only [adr_add, s1, Result.andThen_ok]
          simp only [conc, adr]
        | false =>
         have hlt : cc < len + n := by
          rcases Nat.lt_or_ge cc (len + n) with h' | h'
          ·exact h'
          ·rw [ble_iff.2 h'] at hq; cases hq
         simp only [hq, cond_false] at hr
         cases hq2 : growOk (len + n) i.bytes with
         | false => simp [hq2] at hr
         | true =>
          simp only [hq2, cond_true] at hr
          cases hrd : rdN σ id off (len * i.size) with
          | none => simp [hrd] at hr
          | some old =>
           simp only [hrd, Option.some.injEq] at hr
           obtain ⟨r1, r2, _⟩ := rdN_ok h hrd
           have r4 := rdN_run (P := P) h.drew hrd
           obtain ⟨cap, hc1, hc2⟩ := append_grow (P := P) (w := w) (ty := ty) h0 h1 ht hu hd hi hz0 (some (adr c id off)) len cc n (conc c x) _ _ l1 l2' (by simp only [Builtin.firstCells]; exact r4) hlt hq2
           obtain ⟨c', g1, g2, g3, g4⟩ := grown_got (e := e) (zs := Builtin.zeroCells (conc c z).cells (cap - (len + n))) (old := old) (new := new) (need := len + n) (cap := cap) h q1 r2 l4 (by rw [r1, l3, Nat.add_mul]) hc1 (hzsz _)
           have hv : v = .sl σ.next 0 (len + n) (.rest i.size 0) := by rw [← (Prod.mk.inj hr).1]
           have hσ : σ' = (growV σ i.size old new (len + n)).2 := by rw [← (Prod.mk.inj hr).2]; rfl
           subst hv; subst hσ
           refine ⟨_, c', ?_, g2, g3, g4⟩
           have e1 : conc c (.sl id off len (.exact cc)) = .slice (some (adr c id off)) len cc := by simp only [conc, adr]
           rw [g1, e1, hc2]
       ·-- a slice whose capacity is not known
        rename_i id off len esz alt
        have hx' : id < c.N ∧ 1 ≤ esz ∧ len ≤ c.room id off esz := by simpa [wf] using hs
        cases hq0 : Nat.beq esz i.size with
        | false => simp [hq0] at hr
        | true =>
         have he := beq_iff.1 hq0
         subst he
         simp only [hq0, cond_true] at hr
         have hext := extent_le (id := id) (off := off) (k := i.size) h
         cases hq : Nat.ble (len + n) (extent σ id off i.size) with
         | true =>
          have hle := ble_iff.1 hq
          simp only [hq, cond_true] at hr
          have hroom : c.room id off i.size ≠ 0 := by omega
          cases hw : wrN σ id (off + len * i.size) new with
          | none => simp [hw] at hr
          | some σ₁ =>
           simp only [hw, Option.some.injEq, Prod.mk.injEq] at hr
           obtain ⟨rfl, rfl⟩ := hr
           obtain ⟨w', s1, s2, s3⟩ := wrN_ok (P := P) h hw l4
           refine ⟨w', c, ?_, by simp only [wf]; exact ⟨hx'.1, hx'.2.1, by omega⟩, s2, s3⟩
           have := append_room (P := P) (w := w) (ty := ty) h0 h1 ht hu hd hi (some (adr c id off)) len (c.room id off i.size) n (conc c x) _ l1 l2 (by omega)
           have e1 : conc c (.sl id off len (.rest i.size alt)) = .slice (some (adr c id off)) len (c.room id off i.size) := by simp only [conc, adr, hroom, if_false]
           rw [e1, this]
           simp only [adr_add, s1, Result.andThen_ok]
           simp only [conc, adr, hroom, if_false]
         | false =>
          simp only [hq, cond_false] at hr
          cases hq2 : (growOk (len + n) i.bytes && Nat.ble 2 ((len + n) * i.size)) with
          | false => simp [hq2] at hr
          | true =>
           have hb := (Bool.and_eq_true _ _ ▸ hq2).1
           have hm2 := ble_iff.1 (Bool.and_eq_true _ _ ▸ hq2).2
           simp only [hq2, cond_true] at hr
           split at hr
           ·rename_i old n₀ cs₀ hrd hg
            simp only [Option.some.injEq] at hr
            obtain ⟨r1, r2, r3⟩ := rdN_ok h hrd
            have hv : v = .sl σ.next 0 (len + n) (.rest i.size 0) := by rw [← (Prod.mk.inj hr).1]; rfl
            have hσ : σ' = (growV (σ.put id none) i.size old new (len + n)).2 := by rw [← (Prod.mk.inj hr).2]; rfl
            subst hv; subst hσ
            by_cases hroom : len + n ≤ c.room id off i.size
            ·-- there is room behind it
             obtain ⟨_, hw₀, C, el, fz, hbk, hle₀, hc₀, hfz⟩ := h.obj id _ hg
             simp only [FzOk] at hfz
             subst hfz
             have hr0 : c.room id off i.size ≠ 0 := by omega
             have hZ := h.zz id hx'.1
             have hrs : rowSize w (c.ρ id).1 = C.size := by unfold rowSize; rw [hbk]
             have hfit : (c.ρ id).2 + off + (len + n) * i.size ≤ C.size := by
              unfold Ctx.room at hroom
              rw [hZ, hrs] at hroom
              have h1 : (len + n) * i.size ≤ (C.size - ((c.ρ id).2 + off)) / i.size * i.size := Nat.mul_le_mul_right _ hroom
              have h2 := Nat.div_mul_le_self (C.size - ((c.ρ id).2 + off)) i.size
              have h3 : 0 < (len + n) * i.size := Nat.mul_pos (by omega) (by omega)
              omega
             obtain ⟨C', s1, s2, s3⟩ := storeCells_run (P := P) (new.map (conc c)) 0 w (c.ρ id).1 ((c.ρ id).2 + (off + len * i.size)) C el (0, 0) hbk (by intro j _; simp)
              (by simp only [List.length_map, l3]; rw [Nat.add_mul] at hfit; omega) (by simp only [List.mem_map]; rintro _ ⟨y, hy, rfl⟩; exact storable_ok (l4 y hy).2)
             have hlen : (old ++ new).length = (len + n) * i.size := by simp [r1, l3, Nat.add_mul]
             have ha := h.anew (off := off) (m := (len + n) * i.size) (cs' := old ++ new) (C' := C') hg hbk s2 hlen.symm hm2 (by
               intro y hy
               rcases List.mem_append.1 hy with hy | hy
               ·exact r2 y hy
               ·exact l4 y hy) hfit (by
               intro j y hj
               rw [s3]
               by_cases hj1 : j < len * i.size
               ·rw [List.getElem?_append_left (by omega)] at hj
                rw [if_neg (by omega)]
                have := r3 j (conc c y) (by simp [hj])
                rw [adr_add] at this
                simpa [World.cell?, adr, hbk, Nat.add_assoc] using this
               ·rw [List.getElem?_append_right (by omega), r1] at hj
                have hj2 : j - len * i.size < new.length := (List.getElem?_eq_some_iff.1 hj).1
                rw [if_pos (by simp only [List.length_map]; omega)]
                rw [List.getElem?_map, show (c.ρ id).2 + off + j - ((c.ρ id).2 + (off + len * i.size) + 0) = j - len * i.size from by omega, hj]
                rfl)
             have hrm : (c.at id off).room σ.next 0 i.size = c.room id off i.size := by
              simp [Ctx.room, Ctx.at, h.next]
             refine ⟨_, _, ?_, ?_, ha.1, ha.2⟩
             ·have := append_room (P := P) (w := w) (ty := ty) h0 h1 ht hu hd hi (some (adr c id off)) len (c.room id off i.size) n (conc c x) _ l1 l2 hroom
              have e1 : conc c (.sl id off len (.rest i.size alt)) = .slice (some (adr c id off)) len (c.room id off i.size) := by simp only [conc, adr, hr0, if_false]
              rw [e1, this]
              simp only [adr_add]
              simp only [adr, s1, Result.andThen_ok]
              simp only [conc, hrm, hr0, if_false]
              simp [Ctx.at, h.next]
             ·simp only [wf, hrm]
              exact ⟨by simp [Ctx.at, h.next], q1, hroom⟩
            ·-- a new block
             have hlt : c.room id off i.size < len + n := by omega
             have hsl := sl_read (P := P) h.drew hs hrd (fun e => by rw [e]; simp)
             obtain ⟨a, m, e1, e2, _, _⟩ := hsl
             have hm : m = c.room id off i.size := by
              simp only [conc, Value.slice.injEq] at e1
              exact e1.2.2.symm
             subst hm
             obtain ⟨cap, hc1, hc2⟩ := append_grow (P := P) (w := w) (ty := ty) h0 h1 ht hu hd hi hz0 (some a) len (c.room id off i.size) n (conc c x) _ _ l1 l2' (by simp only [Builtin.firstCells]; exact e2) hlt hb
             obtain ⟨c', g1, g2, g3, g4⟩ := grown_got (e := e) (zs := Builtin.zeroCells (conc c z).cells (cap - (len + n))) (old := old) (new := new) (need := len + n) (cap := cap) (h.kill id) q1 r2 l4 (by rw [r1, l3, Nat.add_mul]) hc1 (hzsz _)
             refine ⟨_, c', ?_, g2, g3, g4⟩
             rw [e1, hc2]
             exact congrArg (fun q => Result.ok q _) g1.symm
           ·simp at hr
       ·simp at hr
   ·simp at hr
  ·simp at hr
 ·simp at hr
theorem copyV_got {ts : Array TypeId} {t ty : TypeId} {d s v : V} {σ' : H} (h : Rel c σ w) (hts : ts[0]? = some t) (hr : copyV P σ t d s = some (v, σ')) (hd : wf c d) (hs : wf c s) :
  Got P (Builtin.copy_ ts ty #[conc c d, conc c s]) c w v σ' := by
 unfold copyV at hr
 generalize ht : P.underlying t = dt at hr
 split at hr
 ·rename_i e
  cases hk : sizeT P e with
  | none => simp [hk] at hr
  | some k =>
   simp only [hk] at hr
   split at hr
   ·simp only [Option.some.injEq, Prod.mk.injEq] at hr
    obtain ⟨rfl, rfl⟩ := hr
    refine Got.same h ⟨?_, by simp [wf]⟩
    simp [Builtin.copy_, hts, run_underlying ht, conc, Builtin.lenOf, sizeT_run hk, Builtin.firstCells, goInt]
   ·rename_i id off len cap
    simp only [Option.some.injEq, Prod.mk.injEq] at hr
    obtain ⟨rfl, rfl⟩ := hr
    obtain ⟨a, m, e1⟩ := sl_shape c id off len cap
    refine Got.same h ⟨?_, by simp [wf]⟩
    rw [e1]
    simp [Builtin.copy_, hts, run_underlying ht, conc, Builtin.lenOf, sizeT_run hk, Builtin.firstCells, goInt, loadCells, loadCellsFrom]
   ·rename_i id off len cap
    simp only [Option.some.injEq, Prod.mk.injEq] at hr
    obtain ⟨rfl, rfl⟩ := hr
    obtain ⟨a, m, e1⟩ := sl_shape c id off len cap
    refine Got.same h ⟨?_, by simp [wf]⟩
    rw [e1]
    simp [Builtin.copy_, hts, run_underlying ht, conc, Builtin.lenOf, sizeT_run hk, Builtin.firstCells, goInt, storeCells]
   ·rename_i id off len cap id' off' len' cap'
    cases hrd : rdN σ id' off' (Nat.min len' len * k) with
    | none => simp [hrd] at hr
    | some cs =>
     simp only [hrd] at hr
     cases hw : wrN σ id off cs with
     | none => simp [hw] at hr
     | some σ₁ =>
      simp only [hw, Option.some.injEq, Prod.mk.injEq] at hr
      obtain ⟨rfl, rfl⟩ := hr
      obtain ⟨r1, r2, _⟩ := rdN_ok h hrd
      obtain ⟨a, m, e1, e2, _, _⟩ := sl_read (P := P) h hs hrd (fun e => by rw [e]; simp)
      obtain ⟨w', s1, s2, s3⟩ := wrN_ok (P := P) h hw r2
      refine ⟨w', c, ?_, by simp [wf], s2, s3⟩
      have hdst : ∃ b n, conc c (.sl id off len cap) = .slice (some b) len n ∧ (storeCells b (cs.map (conc c))).run P w = .ok () w' := by
       cases cap with
       | exact n => exact ⟨_, n, by simp only [conc]; rfl, s1⟩
       | rest esz alt =>
        by_cases h3 : c.room id off esz = 0
        ·have hlen : len = 0 := by
          have : id < c.N ∧ 1 ≤ esz ∧ len ≤ c.room id off esz := by simpa [wf] using hd
          omega
         subst hlen
         have hcs : cs = [] := List.length_eq_zero_iff.1 (by simpa using r1)
         subst hcs
         refine ⟨⟨(c.ρ id).1, (c.ρ id).2 + (if c.room id off esz = 0 then alt else off), none⟩, c.room id off esz, by simp only [conc], ?_⟩
         simpa [storeCells] using s1
        ·exact ⟨adr c id off, c.room id off esz, by simp only [conc, h3, if_false, adr], s1⟩
      obtain ⟨b, n, e3, e4⟩ := hdst
      rw [e1, e3]
      simp only [Builtin.copy_, hts, List.getElem?_toArray, List.getElem?_cons_zero, List.getElem?_cons_succ, Sem.run_bind, run_underlying ht, Result.andThen_ok, Builtin.lenOf, Sem.run_pure, sizeT_run hk,
       Builtin.firstCells, e2, e4]
      simp [conc, goInt]
   ·simp at hr
 ·simp at hr
theorem clearV_got {ts : Array TypeId} {t ty : TypeId} {x : V} {σ' : H} (h : Rel c σ w) (hts : ts[0]? = some t) (hr : clearV P σ t x = some σ') (hx : wf c x) :
  ∃ w' c', (Builtin.clear_ ts ty #[conc c x]).run P w = .ok (.tuple #[]) w' ∧ Rel c' σ' w' ∧ Stp c w c' w' := by
 unfold clearV at hr
 generalize ht : P.underlying t = dt at hr
 split at hr
 ·simp only [Option.some.injEq] at hr
  subst hr
  exact ⟨w, c, by simp [Builtin.clear_, hts, run_underlying ht, conc], h, Stp.refl c w⟩
 ·rename_i id
  split at hr
  ·rename_i es clock hg
   obtain ⟨hw, hb⟩ := h.obj id _ hg
   have hgo := run_getObj (P := P) hb (by simp)
   simp only [Option.some.injEq] at hr
   subst hr
   have hm := h.setMap (es' := []) (k' := clock) hg (by simp)
   refine ⟨_, _, ?_, hm.1, hm.2⟩
   simp only [Builtin.clear_, hts, List.getElem?_toArray, List.getElem?_cons_zero, Sem.run_bind, run_underlying ht, Result.andThen_ok, conc, hgo]
   rw [run_setObj hb (by simp)]
   simp
  ·simp at hr
 ·simp only [Option.some.injEq] at hr
  subst hr
  exact ⟨w, c, by simp [Builtin.clear_, hts, run_underlying ht, conc], h, Stp.refl c w⟩
 ·rename_i e id off len cap
  cases hz : zeroT P e with
  | none => simp [hz] at hr
  | some z =>
   simp only [hz] at hr
   cases hq : (Nat.ble 1 z.cells.length && Nat.ble 1 len) with
   | false => simp [hq] at hr
   | true =>
    simp only [hq, cond_true] at hr
    simp only [Bool.and_eq_true, ble_iff] at hq
    obtain ⟨z1, z2⟩ := zeroT_run hz c w
    obtain ⟨w', s1, s2, s3⟩ := wrN_ok (P := P) h hr (fun v hv => ⟨wf_cells z2 v (repeatL_mem hv), zeroT_storable hz v (repeatL_mem hv)⟩)
    have hrr := range_repeat c z.cells len hq.1
    have key : ∃ m, conc c (.sl id off len cap) = .slice (some (adr c id off)) len m := by
     cases cap with
     | exact m => exact ⟨m, by simp only [conc, adr]⟩
     | rest esz alt =>
      have hx' : id < c.N ∧ 1 ≤ esz ∧ len ≤ c.room id off esz := by simpa [wf] using hx
      have h3 : c.room id off esz ≠ 0 := by omega
      exact ⟨c.room id off esz, by simp only [conc, adr, h3, if_false]⟩
    obtain ⟨m, e1⟩ := key
    refine ⟨w', c, ?_, s2, s3⟩
    rw [e1]
    obtain ⟨l, rfl⟩ : ∃ l, len = l + 1 := ⟨len - 1, by omega⟩
    have hz1 : Builtin.zeroCells (conc c z).cells (l + 1) = ((repeatL z.cells (l + 1)).map (conc c)).toArray := by
     rw [cells_conc', ← hrr]
     simp [Builtin.zeroCells]
    simp only [Builtin.clear_, hts, List.getElem?_toArray, List.getElem?_cons_zero, Sem.run_bind, run_underlying ht, Result.andThen_ok, z1, hz1, s1]
    simp
 ·simp at hr
end
end Go.Proofs.YtconhghphklfjaaGreat.Am
