/- A group that is over or open, pages that are none and records that may not be are refused, and a record that was done is read back; the conditions are those of the given statement, for arguments that a machine can hold. Part 10 of 44. -/
import Derived.Test.YtconhghphklfjaaGreatE09
namespace Go.Proofs.YtconhghphklfjaaGreat.Am
open Go
section
variable {C : Cfg} {self : Self} {c : Ctx} {σ : H} {w : World}
theorem Rel.junk (h : Rel c σ w) (O : Go.Obj) : Rel c σ (w.alloc O) ∧ Stp c w c (w.alloc O) := by
 have old : ∀ id, id < c.N → (w.alloc O).heap[(c.ρ id).1]? = w.heap[(c.ρ id).1]? := fun id hi => by
  rw [alloc_get]; simp [Nat.ne_of_lt (h.blk id hi)]
 refine ⟨⟨h.next, h.live, fun id hi => by have := h.blk id hi; simp; omega, fun id hi => by rw [rowSize_alloc_old w O (h.blk id hi)]; exact h.zz id hi, h.inj, fun id o ho => (h.obj id o ho).later (Ext.refl c) (h.live id o ho) (old id (h.live id o ho)), h.one, h.fx⟩,
  ⟨Ext.refl c, by simp, fun b hb => rowSize_alloc_old w O hb, fun b hb _ => by rw [alloc_get]; simp [Nat.ne_of_lt hb], fun id h1 h2 => by omega, rfl, rfl⟩⟩
theorem ext_grow_at {b : Nat} (hr : ∀ id, id < c.N → (c.ρ id).1 ≠ b) (base size : Nat) : Ext c (c.grow b base size) :=
 ⟨by simp [Ctx.grow], fun id hi => grow_ρ_old c _ _ _ hi, fun id hi => by simp [Ctx.grow, hr id hi], fun id hi => grow_X_old c _ _ _ hi⟩
theorem Rel.adopt {b : Nat} {cs : List V} {T : TypeId} (h : Rel c σ w) (hb : b < w.heap.size) (hr : ∀ id, id < c.N → (c.ρ id).1 ≠ b) (hcs : ∀ v ∈ cs, wf c v ∧ storable v = true)
  (hg : w.heap[b]? = some (.cells (cs.map (conc c)).toArray T (0, 0))) : Rel (c.grow b 0 cs.length) (Am.newRow σ cs) w := by
 have e := ext_grow_at hr 0 cs.length
 have hN : (c.grow b 0 cs.length).N = c.N + 1 := rfl
 have key : ∀ i o, (Am.newRow σ cs).tr.get i = some o → (i = c.N ∧ o = .cells cs.length cs false) ∨ (i < c.N ∧ σ.tr.get i = some o) := by
  intro i o hi
  rw [Am.newRow, get_new, h.next] at hi
  by_cases h1 : i = c.N
  ·simp [h1] at hi; exact .inl ⟨h1, hi.symm⟩
  ·simp [h1] at hi; exact .inr ⟨h.live i o hi, hi⟩
 refine ⟨by simp [Am.newRow, H.new, Ctx.grow, h.next], fun i o hi => ?_, fun i hi => ?_, fun i hi => ?_, fun i j o o' hi hj he => ?_, fun i o hi => ?_, fun i cs₁ st₁ hi hx => ?_, fun i o hi hx => ?_⟩
 ·rw [hN]; rcases key i o hi with ⟨h1, _⟩ | ⟨h1, _⟩ <;> omega
 ·rw [hN] at hi
  by_cases h1 : i = c.N
  ·subst h1; rw [grow_ρ_new]; exact hb
  ·rw [grow_ρ_old c _ _ _ (by omega)]; exact h.blk i (by omega)
 ·rw [hN] at hi
  by_cases h1 : i = c.N
  ·subst h1; rw [grow_ρ_new]; simp [Ctx.grow, rowSize, hg]
  ·rw [grow_ρ_old c _ _ _ (by omega), ← h.zz i (by omega)]; simp [Ctx.grow, hr i (by omega)]
 ·rcases key i o hi with ⟨a1, _⟩ | ⟨a1, a2⟩ <;> rcases key j o' hj with ⟨b1, _⟩ | ⟨b1, b2⟩
  ·exact .inl (by omega)
  ·subst a1; rw [grow_ρ_new, grow_ρ_old c _ _ _ b1] at he; exact absurd he.symm (hr j b1)
  ·subst b1; rw [grow_ρ_new, grow_ρ_old c _ _ _ a1] at he; exact absurd he (hr i a1)
  ·rw [grow_ρ_old c _ _ _ a1, grow_ρ_old c _ _ _ b1] at he; rw [grow_X_old c _ _ _ a1, grow_X_old c _ _ _ b1]; exact h.inj i j _ _ a2 b2 he
 ·rcases key i o hi with ⟨rfl, rfl⟩ | ⟨a1, a2⟩
  ·refine ⟨rfl, fun v hv => ⟨(conc_ext e v (hcs v hv).1).2, (hcs v hv).2⟩, (cs.map (conc c)).toArray, T, (0, 0), by rw [grow_ρ_new]; exact hg, by rw [grow_ρ_new]; simp, fun j v hj => ?_, rfl⟩
   rw [grow_ρ_new, (conc_ext e v (hcs v (List.mem_of_getElem? hj)).1).1]
   simp [hj]
  ·exact (h.obj i o a2).later e a1 rfl
 ·rcases key i _ hi with ⟨rfl, _⟩ | ⟨a1, a2⟩
  ·rw [grow_ρ_new]
  ·rw [grow_X_old c _ _ _ a1] at hx
   rw [grow_ρ_old c _ _ _ a1]; exact h.one i cs₁ st₁ a2 hx
 ·rcases key i o hi with ⟨rfl, _⟩ | ⟨a1, a2⟩
  ·rw [grow_X_new] at hx; cases hx
  ·rw [grow_X_old c _ _ _ a1] at hx; exact h.fx i o a2 hx
theorem Stp.adopt {c₀ : Ctx} {w₀ : World} {b n : Nat} (h : Stp c₀ w₀ c w) (hr : ∀ id, id < c.N → (c.ρ id).1 ≠ b) (hb : w₀.heap.size ≤ b) : Stp c₀ w₀ (c.grow b 0 n) w where
 ext := h.ext.trans (ext_grow_at hr 0 n)
 size := h.size
 rows := h.rows
 keep := h.keep
 sys := h.sys
 fresh := fun id h1 h2 => by
  by_cases h3 : id = c.N
  ·subst h3; left; rw [grow_ρ_new]; exact hb
  ·have : id < c.N := by
    have : (c.grow b 0 n).N = c.N + 1 := rfl
    omega
   rw [grow_ρ_old c _ _ _ this]
   exact h.fresh id h1 this
theorem trace_ok {L : List Oper} : ∀ (l : List Oper) (k : Nat) (s : St) (hs : List H) (tr : List (Env × V)) (hs' : List H) (z : St),
  trace C self L l s hs = some (tr, hs', z) →
  ∃ st : Nat → St, st k = s ∧ st (k + l.length) = z ∧ tr.length = l.length ∧ hs' = hs ++ (effAt C l k).map (fun p => (st (p + 1)).h) ∧
   ∀ j o, l[j]? = some o → ∃ v h, tr[j]? = some ((st (k + j)).env, v) ∧ (st (k + j)).put o.dst v h = some (st (k + j + 1)) ∧
    (wantedV L (st (k + j)).env o = true → evOp C self (st (k + j)).env (st (k + j)).h o = some (v, h)) ∧
    (wantedV L (st (k + j)).env o = false → v = undefV ∧ h = (st (k + j)).h) := by
 intro l
 induction l with
 | nil =>
  intro k s hs tr hs' z h
  simp only [trace, Option.some.injEq, Prod.mk.injEq] at h
  obtain ⟨rfl, rfl, rfl⟩ := h
  exact ⟨fun _ => s, rfl, rfl, rfl, by simp [effAt], fun j o h => by simp at h⟩
 | cons o l ih =>
  intro k s hs tr hs' z h
  simp only [trace] at h
  cases h1 : cond (wantedV L s.env o) (evOp C self s.env s.h o) (some (undefV, s.h)) with
  | none => simp [h1] at h
  | some r =>
   obtain ⟨v, h'⟩ := r
   simp only [h1] at h
   cases h2 : s.put o.dst v h' with
   | none => simp [h2] at h
   | some s' =>
    simp only [h2] at h
    cases h3 : trace C self L l s' (cond (isEff C o.op) (hs ++ [h']) hs) with
    | none => simp [h3] at h
    | some q =>
     obtain ⟨tr', hs'', z'⟩ := q
     simp only [h3, Option.some.injEq, Prod.mk.injEq] at h
     obtain ⟨rfl, rfl, rfl⟩ := h
     obtain ⟨st, i1, i2, i3, i4, i5⟩ := ih (k + 1) s' _ tr' hs'' z' h3
     have hs'h : s'.h = h' := by
      cases hd : o.dst with
      | none => rw [hd] at h2; simp [St.put] at h2; subst h2; rfl
      | some d =>
       rw [hd] at h2
       simp only [St.put] at h2
       cases hq : Nat.blt d s.ntm with
       | false => simp [hq] at h2
       | true => simp [hq] at h2; subst h2; rfl
     refine ⟨fun i => if i = k then s else st i, by simp, ?_, by simp [i3], ?_, ?_⟩
     ·simp only [List.length_cons]
      rw [if_neg (by omega), show k + (l.length + 1) = k + 1 + l.length from by omega]
      exact i2
     ·rw [i4]
      have hmap : (effAt C l (k + 1)).map (fun p => (st (p + 1)).h) = (effAt C l (k + 1)).map (fun p => (if p + 1 = k then s else st (p + 1)).h) := by
       refine List.map_congr_left fun p hp => ?_
       have := (effAt_sorted l (k + 1)).2 p hp
       rw [if_neg (by omega)]
      simp only [effAt]
      cases isEff C o.op with
      | true =>
       simp only [cond_true, List.map_cons]
       rw [hmap, if_neg (by omega), i1, hs'h]
       simp
      | false => simp only [cond_false]; rw [hmap]
     ·intro j x hx
      cases j with
      | zero =>
       simp at hx
       subst hx
       refine ⟨v, h', by simp, ?_, ?_, ?_⟩
       ·simp only [Nat.add_zero, if_true]
        rw [if_neg (by omega), i1]; exact h2
       ·intro hw
        simp only [Nat.add_zero, if_true] at hw ⊢
        rw [hw, cond_true] at h1; exact h1
       ·intro hw
        simp only [Nat.add_zero, if_true] at hw ⊢
        rw [hw, cond_false] at h1
        simp at h1
        exact ⟨h1.1.symm, h1.2.symm⟩
      | succ j =>
       simp at hx
       obtain ⟨v₂, h₂, e1, e2, e3, e4⟩ := i5 j x hx
       have n1 : ¬ (k + (j + 1) = k) := by omega
       have n2 : ¬ (k + (j + 1) + 1 = k) := by omega
       have n3 : k + (j + 1) = k + 1 + j := by omega
       refine ⟨v₂, h₂, ?_, ?_, ?_, ?_⟩
       ·simp only [n1, if_false]; rw [n3]; simpa using e1
       ·simp only [n1, n2, if_false]; rw [n3]; exact e2
       ·simp only [n1, if_false]; rw [n3]; exact e3
       ·simp only [n1, if_false]; rw [n3]; exact e4
theorem put_facts {s s' : St} {dst : Option Tmp} {v : V} {h : H} (hp : s.put dst v h = some s') :
  s'.h = h ∧ s'.ntm = s.ntm ∧ (∀ d, dst = some d → d < s.ntm) ∧ ∀ t, s'.env.v t = if dst = some t then v else s.env.v t := by
 cases hd : dst with
 | none => rw [hd] at hp; simp [St.put] at hp; subst hp; simp
 | some d =>
  rw [hd] at hp
  simp only [St.put] at hp
  cases hq : Nat.blt d s.ntm with
  | false => simp [hq] at hp
  | true =>
   simp [hq] at hp
   subst hp
   refine ⟨rfl, rfl, fun d' h' => by simp at h'; subst h'; exact blt_iff.1 hq, fun t => ?_⟩
   simp only [Env.v, get_set, Option.some.injEq]
   by_cases ht : t = d
   ·subst ht; simp
   ·simp [ht, Ne.symm ht]
structure Drawn (C : Cfg) (sf : Self) (L : List Oper) (s : St) (st : Nat → St) (vv : Nat → V) (es : List Nat) (Hs : Nat → H) : Prop where
 back : ∀ i o, L[i]? = some o → ∀ e ∈ o.after, bindsAny e = true → e.on < i
 pairs : ∀ j o, L[j]? = some o → ∀ i x, i < j → L[i]? = some x → bit ((nth (ancs L []) j).getD 0) i = true ∨ (apartV L x o = true ∧ (isEff C x.op = false ∨ isEff C o.op = false ∨ isAlloc o = true))
 floats : ∀ i o, L[i]? = some o → isAlloc o = true → ∀ j u, L[j]? = some u → i < j → apartV L o u = true ∨ ∀ p ∈ es, p < i → bit ((nth (ancs L []) j).getD 0) p = true
 es_iff : ∀ p, p ∈ es ↔ ∃ o, L[p]? = some o ∧ isEff C o.op = true
 sorted : es.Pairwise (· < ·)
 start : st 0 = s
 step : ∀ i o, L[i]? = some o → ∃ h, (st i).put o.dst (vv i) h = some (st (i + 1)) ∧
    (wantedV L (st i).env o = true → evOp C sf (st i).env (st i).h o = some (vv i, h)) ∧ (wantedV L (st i).env o = false → vv i = undefV ∧ h = (st i).h)
 heap0 : Hs 0 = s.h
 heaps : ∀ k p, es[k]? = some p → Hs (k + 1) = (st (p + 1)).h
 gap : ∀ i o, L[i]? = some o → isEff C o.op = false → ∀ (i₁ i₂ p q : Nat), i₁ ≤ i₂ → es[i₁]? = some p → es[i₂]? = some q → bit ((nth (ancs L []) i).getD 0) q = true → bit ((nth (ancs L []) i).getD 0) p = true
 same : ∀ i o, L[i]? = some o → isEff C o.op = false → ∀ k, k ≤ es.length → (∀ idx p, idx < k → es[idx]? = some p → bit ((nth (ancs L []) p).getD 0) i = false) →
  (∀ idx p, k ≤ idx → es[idx]? = some p → bit ((nth (ancs L []) i).getD 0) p = false) →
  wantedV L (st i).env o = true → ∃ h', evOp C sf (st i).env (Hs k) o = some (vv i, h')
section draw
variable {L : List Oper} {s : St} {st : Nat → St} {vv : Nat → V} {es : List Nat} {Hs : Nat → H}
theorem heapAt_raw (hstep : ∀ i o, L[i]? = some o → ∃ h, (st i).put o.dst (vv i) h = some (st (i + 1)) ∧
    (wantedV L (st i).env o = true → evOp C self (st i).env (st i).h o = some (vv i, h)) ∧ (wantedV L (st i).env o = false → vv i = undefV ∧ h = (st i).h))
  (hes : ∀ p, p ∈ es ↔ ∃ o, L[p]? = some o ∧ isEff C o.op = true) (hsorted : es.Pairwise (· < ·)) (hstart : st 0 = s) (hheap0 : Hs 0 = s.h) (hheaps : ∀ k p, es[k]? = some p → Hs (k + 1) = (st (p + 1)).h) : ∀ (i k : Nat), i ≤ L.length → k ≤ es.length → (∀ idx p, idx < k → es[idx]? = some p → p < i) → (∀ idx p, k ≤ idx → es[idx]? = some p → i ≤ p) → (st i).h = Hs k := by
 intro i
 induction i with
 | zero =>
  intro k _ hk h1 _
  have : k = 0 := by
   rcases Nat.eq_zero_or_pos k with h | h
   ·exact h
   ·have h0 : 0 < es.length := by omega
    have := h1 0 es[0] h (List.getElem?_eq_getElem h0)
    omega
  subst this
  rw [hstart, hheap0]
 | succ i ih =>
  intro k hi hk h1 h2
  obtain ⟨o, ho⟩ : ∃ o, L[i]? = some o := ⟨_, List.getElem?_eq_getElem (by omega)⟩
  obtain ⟨h, p1, p2, p3⟩ := hstep i o ho
  have ph := (put_facts p1).1
  cases he : isEff C o.op with
  | true =>
   have hm := (hes i).2 ⟨o, ho, he⟩
   obtain ⟨idx, hidx⟩ := List.getElem?_of_mem hm
   -- its place is k - 1
   have hik : idx < k := by
    rcases Nat.lt_or_ge idx k with h' | h'
    ·exact h'
    ·have := h2 idx i h' hidx; omega
   have hki : k = idx + 1 := by
    rcases Nat.lt_or_ge (idx + 1) k with h' | h'
    ·exfalso
     have hlt : idx + 1 < es.length := by omega
     have h3 := h1 (idx + 1) es[idx + 1] h' (List.getElem?_eq_getElem hlt)
     obtain ⟨hidx', hv⟩ := List.getElem?_eq_some_iff.1 hidx
     have h4 := (List.pairwise_iff_getElem.1 hsorted) idx (idx + 1) hidx' hlt (by omega)
     rw [hv] at h4
     omega
    ·omega
   rw [hki, hheaps idx i hidx]
  | false =>
   have hn : ∀ idx p, es[idx]? = some p → p ≠ i := fun idx p hp e => by
    subst e
    obtain ⟨o', ho', he'⟩ := (hes p).1 (List.mem_of_getElem? hp)
    rw [ho] at ho'
    simp at ho'
    subst ho'
    rw [he] at he'
    cases he'
   have := ih k (by omega) hk (fun idx p hlt hp => by have := h1 idx p hlt hp; have := hn idx p hp; omega) (fun idx p hle hp => by have := h2 idx p hle hp; omega)
   rw [ph, ← this]
   cases hw : wantedV L (st i).env o with
   | true => exact evOp_pure he (p2 hw)
   | false => exact (p3 hw).2
theorem Drawn.heapAt (D : Drawn C self L s st vv es Hs) : ∀ (i k : Nat), i ≤ L.length → k ≤ es.length → (∀ idx p, idx < k → es[idx]? = some p → p < i) → (∀ idx p, k ≤ idx → es[idx]? = some p → i ≤ p) → (st i).h = Hs k :=
 heapAt_raw D.step D.es_iff D.sorted D.start D.heap0 D.heaps
theorem Drawn.envAt (D : Drawn C self L s st vv es Hs) (t : Nat) : ∀ (i : Nat), i ≤ L.length →
  (∃ j o, j < i ∧ L[j]? = some o ∧ o.dst = some t ∧ (∀ j' o', j' < i → L[j']? = some o' → o'.dst = some t → j' ≤ j) ∧ (st i).env.v t = vv j) ∨
  ((∀ j' o', j' < i → L[j']? = some o' → o'.dst ≠ some t) ∧ (st i).env.v t = s.env.v t) := by
 intro i
 induction i with
 | zero => intro _; right; exact ⟨fun j' o' h => by omega, by rw [D.start]⟩
 | succ i ih =>
  intro hi
  obtain ⟨o, ho⟩ : ∃ o, L[i]? = some o := ⟨_, List.getElem?_eq_getElem (by omega)⟩
  obtain ⟨h, p1, _, _⟩ := D.step i o ho
  obtain ⟨_, _, _, pe⟩ := put_facts p1
  by_cases hd : o.dst = some t
  ·left
   exact ⟨i, o, by omega, ho, hd, fun j' o' h' _ _ => by omega, by rw [pe, if_pos hd]⟩
  ·rcases ih (by omega) with ⟨j, oj, h1, h2, h3, h4, h5⟩ | ⟨h1, h2⟩
   ·left
    refine ⟨j, oj, by omega, h2, h3, fun j' o' hj ho' hd' => ?_, by rw [pe, if_neg hd]; exact h5⟩
    by_cases hji : j' = i
    ·subst hji; rw [ho] at ho'; simp at ho'; subst ho'; exact absurd hd' hd
    ·exact h4 j' o' (by omega) ho' hd'
   ·right
    refine ⟨fun j' o' hj ho' => ?_, by rw [pe, if_neg hd]; exact h2⟩
    by_cases hji : j' = i
    ·subst hji; rw [ho] at ho'; simp at ho'; subst ho'; exact hd
    ·exact h1 j' o' (by omega) ho'
theorem Drawn.ntm (D : Drawn C self L s st vv es Hs) : ∀ i, i ≤ L.length → (st i).ntm = s.ntm := by
 intro i
 induction i with
 | zero => intro _; rw [D.start]
 | succ i ih =>
  intro hi
  obtain ⟨o, ho⟩ : ∃ o, L[i]? = some o := ⟨_, List.getElem?_eq_getElem (by omega)⟩
  obtain ⟨h, p1, _, _⟩ := D.step i o ho
  rw [(put_facts p1).2.1, ih (by omega)]
inductive FV where
 | ptr
 | sl (n m : Nat)
def FV.v : FV → Nat → V
 | .ptr, i => .ptr i 0
 | .sl n m, i => .sl i 0 n (.exact m)
def FV.val : FV → Nat → Value
 | .ptr, b => .pointer (some ⟨b, 0, none⟩)
 | .sl n m, b => .slice (some ⟨b, 0, none⟩) n m
def FV.good : FV → Prop
 | .ptr => True
 | .sl n m => n ≤ m
theorem FV.conc_grow (fv : FV) (c : Ctx) (b size : Nat) : conc (c.grow b 0 size) (fv.v c.N) = fv.val b := by
 cases fv <;> simp [FV.v, FV.val, conc, grow_ρ_new]
theorem FV.wf_grow {fv : FV} (h : fv.good) (c : Ctx) (b size : Nat) : wf (c.grow b 0 size) (fv.v c.N) := by
 cases fv with
 | ptr => simp [FV.v, wf, grow_N]
 | sl n m => simp only [FV.v, wf, grow_N]; exact ⟨Nat.lt_succ_self _, h⟩
structure FloatOp (C : Cfg) (sf : Self) (env : Env) (o : Oper) (fv : FV) (cs : List V) (T : TypeId) : Prop where
 ev : ∀ h, evOp C sf env h o = some (fv.v h.next, Am.newRow h cs)
 good : fv.good
 wfc : ∀ (c : Ctx) (v : V), v ∈ cs → wf c v ∧ storable v = true
 same : ∀ c c' : Ctx, cs.map (conc c') = cs.map (conc c)
 run : ∀ (c : Ctx) (a : Act), OpnOk c env a o → ∀ w, (execOp a.eval o).run C.P w = .ok (.value (fv.val w.heap.size)) (w.alloc (.cells (cs.map (conc c)).toArray T))
theorem zeroT_same {P : Program} {T : TypeId} {z : V} (hz : zeroT P T = some z) (c c' : Ctx) : z.cells.map (conc c') = z.cells.map (conc c) := by
 have h1 := (zeroT_run (P := P) hz c default).1
 have h2 := (zeroT_run (P := P) hz c' default).1
 rw [h1] at h2
 simp only [Result.ok.injEq, and_true] at h2
 have h3 := congrArg Value.cells h2
 rw [cells_conc', cells_conc'] at h3
 simpa using h3.symm
theorem repeatL_map {β : Type} (f : V → β) (z : List V) : ∀ n, (repeatL z n).map f = (List.replicate n (z.map f)).flatten := by
 intro n
 induction n with
 | zero => rfl
 | succ n ih => simp [repeatL, ih, List.replicate_succ]
theorem run_makeSlice {P : Program} {t e : TypeId} {i : TypeInfo} {z : V} {k1 k2 : IntKind} {l n : Int} (ht : P.underlying t = some (.slice e)) (hi : P.info? e = some i) (hz : zeroT P e = some z)
  (q1 : 0 ≤ l) (q2 : l ≤ n) (q3 : n < 1073741824) (q4 : i.bytes ≤ 4096) (q5 : z.cells.length = i.size) (q6 : 1 ≤ i.size) (c : Ctx) (w : World) :
  (Instr.makeSlice t (.int k1 l) (.int k2 n)).run P w = .ok (.slice (some ⟨w.heap.size, 0, none⟩) l.toNat n.toNat) (w.alloc (.cells ((repeatL z.cells n.toNat).map (conc c)).toArray e)) := by
 obtain ⟨z1, z2⟩ := zeroT_run hz c w
 have w1 := wrap64_id q1 (by omega)
 have w2 := wrap64_id (x := n) (by omega) (by omega)
 have hb : ¬ ((i.bytes : Int) * n > 2 ^ 48) := by
  have : (i.bytes : Int) * n ≤ 4096 * 1073741824 := Int.mul_le_mul (by omega) (by omega) (by omega) (by omega)
  omega
 have hn0 : ¬ (n < 0) := by omega
 have hl0 : ¬ (l < 0) := by omega
 have hln : ¬ (l > n) := by omega
 have hsz : (sizeOf e).run P w = .ok i.size w := by simp [sizeOf, typeInfo, hi]
 have hti : (typeInfo e).run P w = .ok i w := by simp [typeInfo, hi]
 simp only [Instr.makeSlice, Sem.run_bind, run_underlying ht, Result.andThen_ok, asInt, asIntOf, Sem.run_pure, hti, w1, w2]
 have hcond : (((decide (n < 0) || decide ((i.bytes : Int) * n > 2 ^ 48)) || decide (l < 0)) || decide (l > n)) = false := by
  simp only [hn0, hb, hl0, hln, decide_false, Bool.or_self]
 rw [hcond]
 simp only [Bool.false_eq_true, if_false]
 by_cases h0 : n.toNat * i.size = 0
 ·have hn : n.toNat = 0 := by
   rcases Nat.mul_eq_zero.1 h0 with e1 | e1
   ·exact e1
   ·omega
  rw [hn]
  have hr0 : (Array.map (fun (_ : Nat) => (default : Value)) (Array.range 0)) = #[] := by simp [Array.range]
  simp [Go.newRow, repeatL, hsz, hr0]
 ·have hrr : ((Array.range (n.toNat * i.size)).map fun j => ((z.cells.map (conc c)).toArray)[j % ((z.cells.map (conc c)).toArray).size]!) = ((repeatL z.cells n.toNat).map (conc c)).toArray := by
   rw [← q5]; exact range_repeat c z.cells n.toNat (by omega)
  have hz1 : (conc c z).cells = (z.cells.map (conc c)).toArray := cells_conc' c z
  simp only [Sem.run_bind, Sem.run_pure, run_askRoom, Result.andThen_ok, hsz, h0, if_false, z1, hz1, hrr, Go.newRow, run_newObj]
  rfl
theorem isAlloc_op {o : Oper} (h : isAlloc o = true) : ((∃ T, o.op = .alloc T) ∨ ∃ t x y, o.op = .makeSlice t x y) ∧ o.guard = none ∧ ∃ d, o.dst = some d := by
 unfold isAlloc at h
 split at h
 ·rename_i T d h1 h2 h3
  exact ⟨.inl ⟨T, h1⟩, h2, ⟨d, h3⟩⟩
 ·rename_i t x y d h1 h2 h3
  exact ⟨.inr ⟨t, x, y, h1⟩, h2, ⟨d, h3⟩⟩
 ·simp at h
theorem floatOp_of {o : Oper} {env : Env} {h h' : H} {v : V} (hal : isAlloc o = true) (hev : evOp C self env h o = some (v, h')) : ∃ fv cs T, FloatOp C self env o fv cs T := by
 obtain ⟨hop, hg, d, hd⟩ := isAlloc_op hal
 rcases hop with ⟨T, hop⟩ | ⟨t, x, y, hop⟩
 ·cases hz : zeroT C.P T with
  | none => simp [evOp, hop, hz] at hev
  | some z =>
   refine ⟨.ptr, z.cells, T, fun h => by simp [evOp, hop, hz, FV.v], trivial, fun c v hv => ⟨wf_cells (zeroT_run (P := C.P) hz c default).2 v hv, zeroT_storable hz v hv⟩, zeroT_same hz, fun c a _ w => ?_⟩
   simp [execOp, hop, Instr.alloc, (zeroT_run hz c w).1, newVar, Go.newRow, cells_conc', FV.val]
 ·simp only [evOp, hop] at hev
  cases hx : evO env x with
  | none => simp [hx] at hev
  | some u =>
   cases hy : evO env y with
   | none => simp [hx, hy] at hev
   | some u' =>
    simp only [hx, hy] at hev
    have hev' := hev
    unfold makeSliceV at hev
    generalize ht : C.P.underlying t = dt at hev
    split at hev
    ·rename_i e
     split at hev
     ·rename_i i z k1 l k2 n hi hz
      cases hq : (decide (0 ≤ l) && decide (l ≤ n) && decide (n < 1073741824) && Nat.ble i.bytes 4096 && Nat.beq z.cells.length i.size && Nat.ble 1 i.size) with
      | false => simp [hq] at hev
      | true =>
       have hq' := hq
       simp only [Bool.and_eq_true, decide_eq_true_eq, beq_iff, ble_iff] at hq
       obtain ⟨⟨⟨⟨⟨q1, q2⟩, q3⟩, q4⟩, q5⟩, q6⟩ := hq
       have hlen : (repeatL z.cells n.toNat).length = n.toNat * i.size := by rw [repeatL_length, q5]
       refine ⟨.sl l.toNat n.toNat, repeatL z.cells n.toNat, e, fun h => ?_, by simp only [FV.good]; omega, fun c v hv => ⟨wf_cells (zeroT_run (P := C.P) hz c default).2 v (repeatL_mem hv), zeroT_storable hz v (repeatL_mem hv)⟩,
        fun c c' => by rw [repeatL_map, repeatL_map, zeroT_same hz c c'], fun c a ho w => ?_⟩
       ·simp only [evOp, hop, hx, hy, makeSliceV, ht, hi, hz, hq', cond_true, FV.v, Am.newRow, hlen]
       ·obtain ⟨x1, _⟩ := ho x (by simp [hop, Op.operands]) _ hx
        obtain ⟨y1, _⟩ := ho y (by simp [hop, Op.operands]) _ hy
        have := run_makeSlice (k1 := k1) (k2 := k2) ht hi hz q1 q2 q3 q4 q5 q6 c w
        simp only [conc] at x1 y1
        simp [execOp, hop, x1, y1, this, FV.val]
     ·cases hev
    ·cases hev
structure DInv (C : Cfg) (sf : Self) (L : List Oper) (s : St) (st : Nat → St) (vv : Nat → V) (es : List Nat) (Hs : Nat → H) (c₀ : Ctx) (w₀ : World) (d₀ : List Deferred)
  (S : Nat → Prop) (early : Nat → Option (Nat × FV)) (k : Nat) (c : Ctx) (a : Act) (w : World) : Prop where
 closed : ∀ i o, S i → L[i]? = some o → ∀ e ∈ o.after, bindsAny e = true → S e.on
 pre : ∀ idx p, idx < k → es[idx]? = some p → S p
 kle : k ≤ es.length
 late : ∀ idx p, k ≤ idx → es[idx]? = some p → S p → ∃ o b, L[p]? = some o ∧ isAlloc o = true ∧ early p = some b
 isEarly : ∀ p b, early p = some b → S p ∧ ∃ idx, k ≤ idx ∧ es[idx]? = some p
 rel : Rel c (Hs k) w
 size : a.tmps.size = s.ntm
 tmp : ∀ t, (∃ i o, S i ∧ L[i]? = some o ∧ o.dst = some t ∧ (∀ j o', S j → L[j]? = some o' → o'.dst = some t → j ≤ i) ∧
     ((∃ b, early i = some b ∧ a.tmps.getD t undef = b.2.val b.1) ∨ (early i = none ∧ a.tmps.getD t undef = conc c (vv i) ∧ wf c (vv i)))) ∨
    ((∀ j o', S j → L[j]? = some o' → o'.dst ≠ some t) ∧ a.tmps.getD t undef = conc c (s.env.v t) ∧ wf c (s.env.v t))
 blocks : ∀ p b, early p = some b → w₀.heap.size ≤ b.1 ∧ b.1 < w.heap.size ∧ (∀ id, id < c.N → (c.ρ id).1 ≠ b.1) ∧
  ∃ o T cs, L[p]? = some o ∧ FloatOp C sf (st p).env o b.2 cs T ∧ w.heap[b.1]? = some (.cells (cs.map (conc c)).toArray T (0, 0))
 distinct : ∀ p q b b', early p = some b → early q = some b' → b.1 = b'.1 → p = q
 stp : Stp c₀ w₀ c w
 defers : a.defers = d₀
theorem es_idx (D : Drawn C self L s st vv es Hs) {i j p : Nat} (h1 : es[i]? = some p) (h2 : es[j]? = some p) : i = j := by
 obtain ⟨a1, b1⟩ := List.getElem?_eq_some_iff.1 h1
 obtain ⟨a2, b2⟩ := List.getElem?_eq_some_iff.1 h2
 rcases Nat.lt_trichotomy i j with h | h | h
 ·have := (List.pairwise_iff_getElem.1 D.sorted) i j a1 a2 h; omega
 ·exact h
 ·have := (List.pairwise_iff_getElem.1 D.sorted) j i a2 a1 h; omega
theorem es_lt (D : Drawn C self L s st vv es Hs) {i j p q : Nat} (h1 : es[i]? = some p) (h2 : es[j]? = some q) : i < j ↔ p < q := by
 obtain ⟨a1, b1⟩ := List.getElem?_eq_some_iff.1 h1
 obtain ⟨a2, b2⟩ := List.getElem?_eq_some_iff.1 h2
 constructor
 ·intro h; have := (List.pairwise_iff_getElem.1 D.sorted) i j a1 a2 h; omega
 ·intro h
  rcases Nat.lt_trichotomy i j with h' | h' | h'
  ·exact h'
  ·subst h'; omega
  ·have := (List.pairwise_iff_getElem.1 D.sorted) j i a2 a1 h'; omega
theorem DInv.absorb {c₀ : Ctx} {w₀ : World} {d₀ : List Deferred} {S : Nat → Prop} {early : Nat → Option (Nat × FV)} {k p : Nat} {a : Act} (D : Drawn C self L s st vv es Hs)
  (I : DInv C self L s st vv es Hs c₀ w₀ d₀ S early k c a w) (hp : es[k]? = some p) (hS : S p) :
  ∃ early' c', DInv C self L s st vv es Hs c₀ w₀ d₀ S early' (k + 1) c' a w := by
 obtain ⟨o, b, ho, hal, heb⟩ := I.late k p (Nat.le_refl _) hp hS
 obtain ⟨b1, b2, b3, o', T, cs, ho', F, hcell⟩ := I.blocks p b heb
 rw [ho] at ho'
 simp at ho'
 subst ho'
 obtain ⟨_, hg, d, hd⟩ := isAlloc_op hal
 obtain ⟨h, p1, p2, _⟩ := D.step p o ho
 have hw : wantedV L (st p).env o = true := by simp [wantedV, hg]
 have hev := p2 hw
 have hlen : p < L.length := (List.getElem?_eq_some_iff.1 ho).1
 have hheap : (st p).h = Hs k := D.heapAt p k (by omega) I.kle (fun idx q hlt hq => (es_lt D hq hp).1 hlt) (fun idx q hle hq => by
  rcases Nat.eq_or_lt_of_le hle with e | e
  ·subst e; rw [hp] at hq; simp at hq; omega
  ·exact Nat.le_of_lt ((es_lt D hp hq).1 e))
 rw [F.ev] at hev
 simp only [hheap, Option.some.injEq, Prod.mk.injEq] at hev
 obtain ⟨hv, hh⟩ := hev
 have hnext : Hs (k + 1) = Am.newRow (Hs k) cs := by rw [D.heaps k p hp, (put_facts p1).1, hh]
 have ex := ext_grow_at b3 0 cs.length
 have hwfz : ∀ v ∈ cs, wf c v ∧ storable v = true := fun v hv => F.wfc c v hv
 refine ⟨fun q => if q = p then none else early q, c.grow b.1 0 cs.length, ⟨I.closed, fun idx q hlt hq => ?_, ?_, fun idx q hle hq hSq => ?_, fun q b' hq => ?_, ?_, I.size, fun t => ?_, fun q b' hq => ?_, fun q q' b' b'' hq hq' he => ?_, ?_, I.defers⟩⟩
 ·by_cases e : idx = k
  ·subst e; rw [hp] at hq; simp at hq; subst hq; exact hS
  ·exact I.pre idx q (by omega) hq
 ·have := (List.getElem?_eq_some_iff.1 hp).1; omega
 ·obtain ⟨o', b', g1, g2, g3⟩ := I.late idx q (by omega) hq hSq
  have hne : q ≠ p := fun e => by subst e; have := es_idx D hq hp; omega
  exact ⟨o', b', g1, g2, by simp [hne, g3]⟩
 ·by_cases hne : q = p
  ·simp [hne] at hq
  ·simp [hne] at hq
   obtain ⟨g1, idx, g2, g3⟩ := I.isEarly q b' hq
   refine ⟨g1, idx, ?_, g3⟩
   rcases Nat.eq_or_lt_of_le g2 with e | e
   ·subst e; rw [hp] at g3; simp at g3; exact absurd g3.symm hne
   ·exact e
 ·rw [hnext]
  exact I.rel.adopt b2 b3 hwfz hcell
 ·rcases I.tmp t with ⟨i, oi, g1, g2, g3, g4, g5⟩ | ⟨g1, g2, g3⟩
  ·left
   refine ⟨i, oi, g1, g2, g3, g4, ?_⟩
   by_cases hip : i = p
   ·subst hip
    right
    refine ⟨by simp, ?_, ?_⟩
    ·rcases g5 with ⟨b', e1, e2⟩ | ⟨e1, _⟩
     ·rw [heb] at e1
      simp at e1
      subst e1
      rw [e2, ← hv, I.rel.next, FV.conc_grow]
     ·rw [heb] at e1; cases e1
    ·rw [← hv, I.rel.next]; exact FV.wf_grow F.good c _ _
   ·rcases g5 with ⟨b', e1, e2⟩ | ⟨e1, e2, e3⟩
    ·left; exact ⟨b', by simp [hip, e1], e2⟩
    ·right
     exact ⟨by simp [hip, e1], by rw [e2, (conc_ext ex _ e3).1], (conc_ext ex _ e3).2⟩
  ·right
   exact ⟨g1, by rw [g2, (conc_ext ex _ g3).1], (conc_ext ex _ g3).2⟩
 ·by_cases hne : q = p
  ·simp [hne] at hq
  ·simp [hne] at hq
   obtain ⟨g1, g2, g3, o', T', cs', g4, g5, g7⟩ := I.blocks q b' hq
   refine ⟨g1, g2, fun id hid => ?_, o', T', cs', g4, g5, by rw [g5.same c _]; exact g7⟩
   by_cases hN : id = c.N
   ·subst hN
    rw [grow_ρ_new]
    intro e
    exact hne (I.distinct q p b' b hq heb e.symm)
   ·have : (c.grow b.1 0 cs.length).N = c.N + 1 := rfl
    rw [grow_ρ_old c _ _ _ (by omega)]
    exact g3 id (by omega)
 ·by_cases h1 : q = p
  ·simp [h1] at hq
  ·by_cases h2 : q' = p
   ·simp [h2] at hq'
   ·simp [h1] at hq; simp [h2] at hq'; exact I.distinct q q' b' b'' hq hq' he
 ·exact I.stp.adopt b3 b1
theorem DInv.absorbAll {c₀ : Ctx} {w₀ : World} {d₀ : List Deferred} {S : Nat → Prop} {a : Act} (D : Drawn C self L s st vv es Hs) : ∀ (m k : Nat) (early : Nat → Option (Nat × FV)) (c : Ctx),
  es.length - k = m → DInv C self L s st vv es Hs c₀ w₀ d₀ S early k c a w → ∃ early' k' c', DInv C self L s st vv es Hs c₀ w₀ d₀ S early' k' c' a w ∧ ∀ p, es[k']? = some p → ¬ S p := by
 intro m
 induction m with
 | zero =>
  intro k early c hm I
  refine ⟨early, k, c, I, fun p hp => ?_⟩
  have := (List.getElem?_eq_some_iff.1 hp).1
  omega
 | succ m ih =>
  intro k early c hm I
  cases hq : es[k]? with
  | none => exact ⟨early, k, c, I, fun p hp => by rw [hq] at hp; cases hp⟩
  | some p =>
   by_cases hS : S p
   ·obtain ⟨e', c', I'⟩ := I.absorb D hq hS
    exact ih (k + 1) e' c' (by omega) I'
   ·exact ⟨early, k, c, I, fun p' hp' => by rw [hq] at hp'; simp at hp'; subst hp'; exact hS⟩
end draw
end
end Go.Proofs.YtconhghphklfjaaGreat.Am
