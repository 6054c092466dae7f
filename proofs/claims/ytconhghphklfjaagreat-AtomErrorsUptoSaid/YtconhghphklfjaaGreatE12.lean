/- A group that is over or open, pages that are none and records that may not be are refused, and a record that was done is read back; the conditions are those of the given statement, for arguments that a machine can hold. Part 12 of 44. -/
import Derived.Test.YtconhghphklfjaaGreatE11
import Derived.Scope
namespace Go.Proofs.YtconhghphklfjaaGreat.Am
open Go
theorem ikBeq_ok {a b : IntKind} (h : ikBeq a b = true) : a = b := by cases a <;> cases b <;> first | rfl | (simp [ikBeq] at h)
theorem intBeq_ok {a b : Int} (h : intBeq a b = true) : a = b := by
 cases a <;> cases b <;> simp [intBeq] at h <;> rw [h]
theorem natsBeq_ok : ∀ {a b : List Nat}, natsBeq a b = true → a = b
 | [], [], _ => rfl
 | [], _ :: _, h => by simp [natsBeq] at h
 | _ :: _, [], h => by simp [natsBeq] at h
 | x :: a, y :: b, h => by
  simp only [natsBeq] at h
  cases hq : Nat.beq x y with
  | false => rw [hq] at h; cases h
  | true => rw [hq, cond_true] at h; rw [beq_iff.1 hq, natsBeq_ok h]
theorem capBeq_ok {a b : Cap} (h : a.beq b = true) : a = b := by
 cases a <;> cases b <;> simp [Cap.beq] at h
 ·rw [h]
 ·rw [h.1, h.2]
mutual
theorem vBeq_ok : ∀ (a b : V), V.beq a b = true → a = b
 | .bool a, b, h => by cases b <;> simp [V.beq] at h; rw [h]
 | .int j a, b, h => by
  cases b <;> simp [V.beq] at h
  rw [ikBeq_ok h.1, intBeq_ok h.2]
 | .str a, b, h => by cases b <;> simp [V.beq] at h; rw [natsBeq_ok h]
 | .ptr0, b, h => by cases b <;> simp [V.beq] at h; rfl
 | .ptr x y, b, h => by cases b <;> simp [V.beq] at h; rw [h.1, h.2]
 | .sl0, b, h => by cases b <;> simp [V.beq] at h; rfl
 | .sl x y z u, b, h => by
  cases b <;> simp [V.beq] at h
  rw [h.1.1.1, h.1.1.2, h.1.2, capBeq_ok h.2]
 | .map0, b, h => by cases b <;> simp [V.beq] at h; rfl
 | .map x, b, h => by cases b <;> simp [V.beq] at h; rw [h]
 | .fn f x y, b, h => by
  cases f with
  | func k => cases b with
   | fn g u v => cases g with
    | func j =>
     simp [V.beq] at h
     rw [h.1.1, vBeqL_ok x u h.1.2, vBeqL_ok y v h.2]
    | _ => simp [V.beq] at h
   | _ => simp [V.beq] at h
  | _ => cases b <;> simp [V.beq] at h
 | .fn0, b, h => by cases b <;> simp [V.beq] at h; rfl
 | .iface t v, b, h => by
  cases b <;> simp [V.beq] at h
  rw [h.1, vBeq_ok v _ h.2]
 | .if0, b, h => by cases b <;> simp [V.beq] at h; rfl
 | .agg l, b, h => by cases b <;> simp [V.beq] at h; rw [vBeqL_ok l _ h]
 | .tup l, b, h => by cases b <;> simp [V.beq] at h; rw [vBeqL_ok l _ h]
 | .yld _, b, h => by cases b <;> simp [V.beq] at h
 | .sle a, b, h => by cases b <;> simp [V.beq] at h; rw [h]
 | .flt k x, b, h => by
  cases b with
  | flt j y =>
   simp [V.beq] at h
   rw [h.2]
   cases k <;> cases j <;> first | rfl | (simp [fkBeq] at h)
  | _ => simp [V.beq] at h
theorem vBeqL_ok : ∀ (a b : List V), V.beqL a b = true → a = b
 | [], b, h => by cases b <;> simp [V.beqL] at h; rfl
 | x :: a, b, h => by
  cases b with
  | nil => simp [V.beqL] at h
  | cons y b =>
   simp only [V.beqL] at h
   cases hq : V.beq x y with
   | false => rw [hq] at h; cases h
   | true => rw [hq, cond_true] at h; rw [vBeq_ok x y hq, vBeqL_ok a b h]
end
theorem loOf_ok {m : Nat} : ∀ (es : List Nat), (∀ idx p, idx < loOf m es → es[idx]? = some p → bit m p = true) ∧ loOf m es ≤ es.length := by
 intro es
 induction es with
 | nil => exact ⟨fun idx p _ h => by simp at h, by simp [loOf]⟩
 | cons q es ih =>
  simp only [loOf]
  cases hq : bit m q with
  | true =>
   rw [cond_true]
   refine ⟨fun idx p h1 h2 => ?_, by have := ih.2; simp; exact this⟩
   cases idx with
   | zero => simp at h2; subst h2; exact hq
   | succ idx => exact ih.1 idx p (by omega) (by simpa using h2)
  | false => rw [cond_false]; exact ⟨fun idx p h => by omega, by simp⟩
theorem loGap_ok {m : Nat} : ∀ (es : List Nat), loGap m es = true → ∀ (i₁ i₂ p q : Nat), i₁ ≤ i₂ → es[i₁]? = some p → es[i₂]? = some q → bit m q = true → bit m p = true := by
 intro es
 induction es with
 | nil => intro _ i₁ i₂ p q _ h; simp at h
 | cons x es ih =>
  intro h i₁ i₂ p q hle h1 h2 hb
  simp only [loGap] at h
  cases hx : bit m x with
  | true =>
   rw [hx, cond_true] at h
   cases i₁ with
   | zero => simp at h1; subst h1; exact hx
   | succ i₁ =>
    cases i₂ with
    | zero => omega
    | succ i₂ => exact ih h i₁ i₂ p q (by omega) (by simpa using h1) (by simpa using h2) hb
  | false =>
   rw [hx, cond_false] at h
   cases i₂ with
   | zero =>
    simp at h2
    subst h2
    rw [hx] at hb; cases hb
   | succ i₂ =>
    have := List.all_eq_true.1 h q (List.mem_of_getElem? (by simpa using h2))
    rw [hb] at this; cases this
theorem hiOf_ok {as : List Nat} {i : Nat} : ∀ (es : List Nat), hiOf as i es ≤ es.length ∧ ∀ p, es[hiOf as i es]? = some p → bit ((nth as p).getD 0) i = true := by
 intro es
 induction es with
 | nil => exact ⟨by simp [hiOf], fun p h => by simp at h⟩
 | cons q es ih =>
  simp only [hiOf]
  cases hq : bit ((nth as q).getD 0) i with
  | true => rw [cond_true]; exact ⟨by simp, fun p h => by simp at h; subst h; exact hq⟩
  | false => rw [cond_false]; exact ⟨by have := ih.1; simp; exact this, fun p h => ih.2 p (by simpa using h)⟩
section
variable {C : Cfg} {self : Self}
theorem sameIn_ok {L : List Oper} {o : Oper} {x : Env × V} : ∀ (l : List H), sameIn C self L o x l = true → wantedV L x.1 o = true → ∀ h ∈ l, ∃ h', evOp C self x.1 h o = some (x.2, h') := by
 intro l
 induction l with
 | nil => intro _ _ h hm; simp at hm
 | cons y l ih =>
  intro hs hw h hm
  simp only [sameIn, hw, cond_true] at hs
  cases he : evOp C self x.1 y o with
  | none => simp [he] at hs
  | some r =>
   obtain ⟨v, h'⟩ := r
   simp only [he] at hs
   cases hb : v.beq x.2 with
   | false => rw [hb] at hs; cases hs
   | true =>
    rw [hb, cond_true] at hs
    rcases List.mem_cons.1 hm with rfl | hm
    ·exact ⟨h', by rw [he, vBeq_ok _ _ hb]⟩
    ·exact ih hs hw h hm
theorem stayOk_ok {L : List Oper} {as es : List Nat} {hs : List H} : ∀ (l : List Oper) (tr : List (Env × V)) (k : Nat), stayOk C self L as es hs l tr k = true →
  ∀ j o x, l[j]? = some o → tr[j]? = some x → isEff C o.op = false →
   loGap ((nth as (k + j)).getD 0) es = true ∧ (loOf ((nth as (k + j)).getD 0) es = hiOf as (k + j) es ∨
    sameIn C self L o x ((hs.drop (loOf ((nth as (k + j)).getD 0) es)).take (hiOf as (k + j) es + 1 - loOf ((nth as (k + j)).getD 0) es)) = true) := by
 intro l
 induction l with
 | nil => intro tr k _ j o x h; simp at h
 | cons y l ih =>
  intro tr k h j o x ho hx he
  cases tr with
  | nil => simp [stayOk] at h
  | cons z tr =>
   simp only [stayOk] at h
   have hrest : stayOk C self L as es hs l tr (k + 1) = true := by
    cases h1 : isEff C y.op with
    | true => rw [h1, cond_true] at h; exact h
    | false =>
     rw [h1, cond_false] at h
     cases h2 : (loGap ((nth as k).getD 0) es && Nat.beq (loOf ((nth as k).getD 0) es) (hiOf as k es)) with
     | true => rw [h2, cond_true] at h; exact h
     | false =>
      rw [h2, cond_false] at h
      cases h3 : (loGap ((nth as k).getD 0) es && sameIn C self L y z ((hs.drop (loOf ((nth as k).getD 0) es)).take (hiOf as k es + 1 - loOf ((nth as k).getD 0) es))) with
      | true => rw [h3, cond_true] at h; exact h
      | false => rw [h3] at h; cases h
   cases j with
   | zero =>
    simp at ho hx
    subst ho hx
    rw [he, cond_false] at h
    simp only [Nat.add_zero]
    cases h2 : (loGap ((nth as k).getD 0) es && Nat.beq (loOf ((nth as k).getD 0) es) (hiOf as k es)) with
    | true =>
     rw [Bool.and_eq_true, beq_iff] at h2
     exact ⟨h2.1, .inl h2.2⟩
    | false =>
     rw [h2, cond_false] at h
     cases h3 : (loGap ((nth as k).getD 0) es && sameIn C self L y z ((hs.drop (loOf ((nth as k).getD 0) es)).take (hiOf as k es + 1 - loOf ((nth as k).getD 0) es))) with
     | true =>
      rw [Bool.and_eq_true] at h3
      exact ⟨h3.1, .inr h3.2⟩
     | false => rw [h3] at h; cases h
   | succ j =>
    have := ih tr (k + 1) hrest j o x (by simpa using ho) (by simpa using hx) he
    rwa [show k + 1 + j = k + (j + 1) from by omega] at this
theorem drawn_of {L : List Oper} {s z : St} (hr : evDraw C self L s = some z) :
    ∃ st vv Hs, Drawn C self L s st vv (effAt C L 0) Hs ∧ st L.length = z ∧ L.all (fun o => !isSelect o.op) = true := by
  unfold evDraw at hr
  cases hst : staticOk C L with
  | false => rw [hst] at hr; cases hr
  | true =>
    rw [hst, cond_true] at hr
    cases htr : trace C self L L s [s.h] with
    | none => simp [htr] at hr
    | some q =>
      obtain ⟨tr, hs, z'⟩ := q
      simp only [htr] at hr
      cases hstay : stayOk C self L (ancs L []) (effAt C L 0) hs L tr 0 with
      | false => rw [hstay] at hr; cases hr
      | true =>
        rw [hstay, cond_true] at hr
        simp only [Option.some.injEq] at hr
        subst hr
        simp only [staticOk, Bool.and_eq_true] at hst
        obtain ⟨⟨⟨s1, s2⟩, s3⟩, s4⟩ := hst
        obtain ⟨st, t1, t2, t3, t4, t5⟩ := trace_ok L 0 s [s.h] tr hs z' htr
        simp only [Nat.zero_add] at t2 t5
        have hback : ∀ i o, L[i]? = some o → ∀ e ∈ o.after, bindsAny e = true → e.on < i := fun i o ho e he hb => by
          have := edgesBack_ok L 0 s1 i o ho e he hb; omega
        have hbit : ∀ i o, L[i]? = some o → ∀ j, bit ((nth (ancs L []) i).getD 0) j = true → j < i := fun i o ho j hj =>
          (anc_in hback (fun _ => True) i o ho (fun _ _ _ _ _ _ _ _ => trivial) (fun _ _ _ => trivial) j hj).2
        have hsorted := (effAt_sorted (C := C) L 0).1
        have hes : ∀ p, p ∈ effAt C L 0 ↔ ∃ o, L[p]? = some o ∧ isEff C o.op = true := fun p => by
          rw [effAt_mem]
          constructor
          · rintro ⟨i, o, rfl, h1, h2⟩; exact ⟨o, by simpa using h1, h2⟩
          · rintro ⟨o, h1, h2⟩; exact ⟨p, o, by omega, h1, h2⟩
        have hHs : ∀ k p, (effAt C L 0)[k]? = some p → hs[k + 1]? = some (st (p + 1)).h := fun k p hp => by
          rw [t4]; simp [hp]
        have hH0 : hs[0]? = some s.h := by rw [t4]; simp
        have hHlen : hs.length = (effAt C L 0).length + 1 := by rw [t4]; simp
        have hstep : ∀ i o, L[i]? = some o → ∃ h, (st i).put o.dst (((tr[i]?).map (·.2)).getD undefV) h = some (st (i + 1)) ∧
            (wantedV L (st i).env o = true → evOp C self (st i).env (st i).h o = some (((tr[i]?).map (·.2)).getD undefV, h)) ∧ (wantedV L (st i).env o = false → ((tr[i]?).map (·.2)).getD undefV = undefV ∧ h = (st i).h) := fun i o ho => by
          obtain ⟨v, h, e1, e2, e3, e4⟩ := t5 i o ho
          refine ⟨h, ?_, ?_, ?_⟩ <;> rw [e1] <;> simp only [Option.map_some, Option.getD_some]
          · exact e2
          · exact e3
          · exact e4
        -- all but 'same'; it is wanted for 'heapAt'
        have D₀ : (∀ i o, L[i]? = some o → isEff C o.op = false → ∀ k, k ≤ (effAt C L 0).length → (∀ idx p, idx < k → (effAt C L 0)[idx]? = some p → bit ((nth (ancs L []) p).getD 0) i = false) →
              (∀ idx p, k ≤ idx → (effAt C L 0)[idx]? = some p → bit ((nth (ancs L []) i).getD 0) p = false) →
              wantedV L (st i).env o = true → ∃ h', evOp C self (st i).env ((hs[k]?).getD s.h) o = some (((tr[i]?).map (·.2)).getD undefV, h')) →
            Drawn C self L s st (fun i => ((tr[i]?).map (·.2)).getD undefV) (effAt C L 0) (fun k => (hs[k]?).getD s.h) := fun hsame =>
          { back := hback
            pairs := fun j o ho i x hi hx => by
              have := pairsOk_ok L 0 s2 j o ho i x (by omega) hx
              simpa using this
            floats := fun i o ho ha j u hu hlt => by
              rcases floatsOk_ok L 0 s3 i o ho ha j u hu (by omega) with h | h
              · exact .inl h
              · right
                intro p hp hpi
                exact effsIn_ok hsorted h p hp (by omega)
            es_iff := hes
            sorted := hsorted
            start := t1
            step := hstep
            heap0 := by rw [hH0]; rfl
            heaps := fun k p hp => by rw [hHs k p hp]; rfl
            gap := fun i o ho he => by
              obtain ⟨v, h, e1, _⟩ := t5 i o ho
              have := (stayOk_ok L tr 0 hstay i o _ ho e1 he).1
              simp only [Nat.zero_add] at this
              exact loGap_ok _ this
            same := hsame }
        refine ⟨st, _, _, D₀ ?_, t2, s4⟩
        intro i o ho he k hk h1 h2 hw
        obtain ⟨v, h, e1, e2, e3, e4⟩ := t5 i o ho
        obtain ⟨g1, g2⟩ := stayOk_ok L tr 0 hstay i o _ ho e1 he
        simp only [Nat.zero_add] at g1 g2
        have hlok : loOf ((nth (ancs L []) i).getD 0) (effAt C L 0) ≤ k := Nat.le_of_not_lt fun hlt => by
          obtain ⟨p, hp⟩ : ∃ p, (effAt C L 0)[k]? = some p := ⟨_, List.getElem?_eq_getElem (by have := (loOf_ok (m := (nth (ancs L []) i).getD 0) (effAt C L 0)).2; omega)⟩
          have := (loOf_ok (effAt C L 0)).1 k p hlt hp
          rw [h2 k p (Nat.le_refl _) hp] at this
          cases this
        have hkhi : k ≤ hiOf (ancs L []) i (effAt C L 0) := Nat.le_of_not_lt fun hlt => by
          obtain ⟨p, hp⟩ : ∃ p, (effAt C L 0)[hiOf (ancs L []) i (effAt C L 0)]? = some p := ⟨_, List.getElem?_eq_getElem (by omega)⟩
          have := (hiOf_ok (as := ancs L []) (i := i) (effAt C L 0)).2 p hp
          rw [h1 _ p hlt hp] at this
          cases this
        have hval : ((tr[i]?).map (·.2)).getD undefV = v := by rw [e1]; rfl
        rw [hval]
        rcases g2 with g2 | g2
        · -- its place is known
          have hpl : (st i).h = (hs[k]?).getD s.h := by
            have hk1 : k = hiOf (ancs L []) i (effAt C L 0) := by omega
            have hlt : ∀ idx p, idx < k → (effAt C L 0)[idx]? = some p → p < i := fun idx p hlt hp => by
              have := (loOf_ok (m := (nth (ancs L []) i).getD 0) (effAt C L 0)).1 idx p (by omega) hp
              exact hbit i o ho p this
            have hge : ∀ idx p, k ≤ idx → (effAt C L 0)[idx]? = some p → i ≤ p := fun idx p hle hp => by
              obtain ⟨q, hq⟩ : ∃ q, (effAt C L 0)[k]? = some q := ⟨_, List.getElem?_eq_getElem (by have := (List.getElem?_eq_some_iff.1 hp).1; omega)⟩
              have hb := (hiOf_ok (as := ancs L []) (i := i) (effAt C L 0)).2 q (by rw [← hk1]; exact hq)
              obtain ⟨x, hx, _⟩ := (hes q).1 (List.mem_of_getElem? hq)
              have hiq := hbit q x hx i hb
              rcases Nat.eq_or_lt_of_le hle with e | e
              · subst e; rw [hq] at hp; simp at hp; omega
              · obtain ⟨a1, b1⟩ := List.getElem?_eq_some_iff.1 hq
                obtain ⟨a2, b2⟩ := List.getElem?_eq_some_iff.1 hp
                have := (List.pairwise_iff_getElem.1 hsorted) k idx a1 a2 e
                omega
            exact heapAt_raw (Hs := fun k => (hs[k]?).getD s.h) hstep (fun p => hes p) hsorted t1 (by rw [hH0]; rfl) (fun k p hp => by rw [hHs k p hp]; rfl) i k (by have := (List.getElem?_eq_some_iff.1 ho).1; omega) hk hlt hge
          rw [← hpl]
          exact ⟨h, e3 hw⟩
        · have hm : (hs[k]?).getD s.h ∈ (hs.drop (loOf ((nth (ancs L []) i).getD 0) (effAt C L 0))).take (hiOf (ancs L []) i (effAt C L 0) + 1 - loOf ((nth (ancs L []) i).getD 0) (effAt C L 0)) := by
            have hklt : k < hs.length := by omega
            refine List.mem_of_getElem? (i := k - loOf ((nth (ancs L []) i).getD 0) (effAt C L 0)) ?_
            rw [List.getElem?_take, if_pos (by omega), List.getElem?_drop, Nat.add_sub_cancel' hlok, List.getElem?_eq_getElem hklt]
            simp
          exact sameIn_ok _ g2 hw _ hm
theorem allDone {L : List Oper} {S : Nat → Prop} (hb : ∀ i o, L[i]? = some o → ∀ e ∈ o.after, bindsAny e = true → e.on < i) (hn : ∀ i o, ¬ Ready L S i o) : ∀ i, i < L.length → S i := by
 intro i
 induction i using Nat.strongRecOn with
 | _ i ih =>
  intro hi
  refine Classical.byContradiction fun hS => ?_
  refine hn i L[i] ⟨List.getElem?_eq_getElem hi, hS, fun e he hbe => ?_⟩
  have := hb i L[i] (List.getElem?_eq_getElem hi) e he hbe
  exact ih e.on this (by omega)
theorem DInv.done {L : List Oper} {s : St} {st : Nat → St} {vv : Nat → V} {es : List Nat} {Hs : Nat → H} {c₀ c : Ctx} {w₀ w : World} {d₀ : List Deferred} {S : Nat → Prop} {early : Nat → Option (Nat × FV)} {k : Nat} {a : Act}
  (D : Drawn C self L s st vv es Hs) (I : DInv C self L s st vv es Hs c₀ w₀ d₀ S early k c a w) (hmax : ∀ p, es[k]? = some p → ¬ S p) (hall : ∀ i, i < L.length → S i) :
  Rel c (st L.length).h w ∧ EnvOk c (st L.length).env (st L.length).ntm a := by
 have hlt : ∀ p ∈ es, p < L.length := fun p hp => by
  obtain ⟨o, ho, _⟩ := (D.es_iff p).1 hp
  exact (List.getElem?_eq_some_iff.1 ho).1
 have hk : k = es.length := by
  refine Nat.le_antisymm I.kle (Nat.le_of_not_lt fun h => ?_)
  exact hmax _ (List.getElem?_eq_getElem h) (hall _ (hlt _ (List.getElem_mem h)))
 have hearly : ∀ p, early p = none := fun p => by
  cases h : early p with
  | none => rfl
  | some b =>
   obtain ⟨_, idx, h1, h2⟩ := I.isEarly p b h
   have := (List.getElem?_eq_some_iff.1 h2).1
   omega
 refine ⟨?_, ?_⟩
 ·rw [D.heapAt L.length k (Nat.le_refl _) I.kle (fun idx p _ hp => hlt p (List.mem_of_getElem? hp)) (fun idx p hle hp => by have := (List.getElem?_eq_some_iff.1 hp).1; omega)]
  exact I.rel
 ·have hv : ∀ t, a.tmps.getD t undef = conc c ((st L.length).env.v t) ∧ wf c ((st L.length).env.v t) := fun t => by
   rcases I.tmp t with ⟨i, o, g1, g2, g3, g4, g5⟩ | ⟨g1, g2, g3⟩
   ·have : (st L.length).env.v t = vv i := by
     rcases D.envAt t L.length (Nat.le_refl _) with ⟨j, oj, h1, h2, h3, h4, h5⟩ | ⟨h1, _⟩
     ·have e1 := h4 i o (List.getElem?_eq_some_iff.1 g2).1 g2 g3
      have e2 := g4 j oj (hall j h1) h2 h3
      have : j = i := by omega
      subst this; exact h5
     ·exact absurd g3 (h1 i o (List.getElem?_eq_some_iff.1 g2).1 g2)
    rcases g5 with ⟨b, e1, _⟩ | ⟨_, e2, e3⟩
    ·rw [hearly i] at e1; cases e1
    ·rw [this]; exact ⟨e2, e3⟩
   ·have : (st L.length).env.v t = s.env.v t := by
     rcases D.envAt t L.length (Nat.le_refl _) with ⟨j, oj, h1, h2, h3, h4, h5⟩ | ⟨_, h⟩
     ·exact absurd h3 (g1 j oj (hall j h1) h2)
     ·exact h
    rw [this]; exact ⟨g2, g3⟩
  exact ⟨by rw [I.size, D.ntm L.length (Nat.le_refl _)], fun t => (hv t).1, fun t => (hv t).2⟩
theorem DInv.congr {L : List Oper} {s : St} {st : Nat → St} {vv : Nat → V} {es : List Nat} {Hs : Nat → H} {c₀ c : Ctx} {w₀ w : World} {d₀ : List Deferred} {S S' : Nat → Prop} {early : Nat → Option (Nat × FV)} {k : Nat} {a : Act}
  (I : DInv C self L s st vv es Hs c₀ w₀ d₀ S early k c a w) (h : ∀ j, S j ↔ S' j) : DInv C self L s st vv es Hs c₀ w₀ d₀ S' early k c a w := by
 have : S = S' := funext fun j => propext (h j)
 rw [← this]; exact I
theorem wpAny_of (hS : SelfOkR C.P self) (hT : ToldOk C) {r : Option Nat} {ops : Array Oper} {L : List Oper} (hL : ops.toList = L) {Q : Exit → Act → World → Prop} {s : St} {st : Nat → St} {vv : Nat → V} {es : List Nat} {Hs : Nat → H}
  {c₀ : Ctx} {w₀ : World} {d₀ : List Deferred} (D : Drawn C self L s st vv es Hs)
  (hQ : ∀ c a w, Rel c (st L.length).h w → EnvOk c (st L.length).env (st L.length).ntm a → Stp c₀ w₀ c w → a.defers = d₀ → Q .normal a w) :
  ∀ (fuel : Nat) (listed : Array Bool) (early : Nat → Option (Nat × FV)) (k : Nat) (c : Ctx) (a : Act) (w : World), listed.size = L.length → listed.count false ≤ fuel →
   DInv C self L s st vv es Hs c₀ w₀ d₀ (fun j => listed.getD j false = true) early k c a w → wpAnyIn (Fr r) 0 C.P .any ops Q fuel listed a w := by
 intro fuel
 induction fuel with
 | zero =>
  intro listed early k c a w hsz hcnt I
  have hall : ∀ i, i < L.length → listed.getD i false = true := fun i hi => by
   have h0 : listed.count false = 0 := by omega
   have : false ∉ listed := Array.count_eq_zero.1 h0
   rw [Array.getD_eq_getD_getElem?, Array.getElem?_eq_getElem (by omega)]
   cases hb : listed[i]'(by omega) with
   | true => rfl
   | false => exact absurd (by rw [← hb]; exact Array.getElem_mem _) this
  obtain ⟨early', k', c', I', hmax⟩ := DInv.absorbAll D (es.length - k) k early c rfl I
  obtain ⟨r1, r2⟩ := I'.done D hmax hall
  refine ⟨?_, hQ c' a w r1 r2 I'.stp I'.defers⟩
  refine List.eq_nil_iff_forall_not_mem.2 fun j hj => ?_
  obtain ⟨h1, o, h2, _⟩ := mem_ready.1 hj
  have hlt : j < L.length := by rw [← hL]; simpa using (Array.getElem?_eq_some_iff.1 h2).1
  have h3 := hall j hlt
  rw [Array.getD_eq_getD_getElem?, Array.getElem?_eq_getElem (by omega)] at h1 h3
  simp at h1 h3
  rw [h1] at h3; cases h3
 | succ fuel ih =>
  intro listed early k c a w hsz hcnt I
  obtain ⟨early', k', c', I', hmax⟩ := DInv.absorbAll D (es.length - k) k early c rfl I
  have hready : ∀ j, j ∈ Region.ready .any ops listed ↔ ∃ o, Ready L (fun j => listed.getD j false = true) j o := fun j => by
   rw [mem_ready]
   constructor
   ·rintro ⟨h1, o, h2, h3⟩
    refine ⟨o, by rw [← hL, Array.getElem?_toList]; exact h2, fun h4 => ?_, fun e he hb => h3 e he ?_⟩
    ·have hlt : j < listed.size := by rw [hsz, ← hL]; simpa using (Array.getElem?_eq_some_iff.1 h2).1
     rw [Array.getD_eq_getD_getElem?, Array.getElem?_eq_getElem hlt] at h1 h4
     simp at h1 h4
     rw [h1] at h4; cases h4
    ·rw [← hb]; cases e; rename_i on g; cases g <;> rfl
   ·rintro ⟨o, R⟩
    have h2 := R.at_
    rw [← hL, Array.getElem?_toList] at h2
    refine ⟨?_, o, h2, fun e he hb => R.edges e he ?_⟩
    ·have hlt : j < listed.size := by rw [hsz, ← hL]; simpa using (Array.getElem?_eq_some_iff.1 h2).1
     have h4 := R.not
     rw [Array.getD_eq_getD_getElem?, Array.getElem?_eq_getElem hlt] at h4 ⊢
     simpa using h4
    ·rw [← hb]; cases e; rename_i on g; cases g <;> rfl
  refine ⟨fun hnil => ?_, fun i hi => ?_⟩
  ·have hall := allDone (S := fun j => listed.getD j false = true) D.back (fun i o R => by
    have := (hready i).2 ⟨o, R⟩
    rw [hnil] at this; simp at this)
   obtain ⟨r1, r2⟩ := I'.done D hmax hall
   exact hQ c' a w r1 r2 I'.stp I'.defers
  ·obtain ⟨o, R⟩ := (hready i).1 hi
   have hlt : i < listed.size := by rw [hsz]; exact (List.getElem?_eq_some_iff.1 R.at_).1
   have hfalse : listed[i] = false := by
    have := R.not
    rw [Array.getD_eq_getD_getElem?, Array.getElem?_eq_getElem hlt] at this
    simpa using this
   refine I'.stepOk hS hT hL D hmax R ?_
   intro early'' k'' c'' a'' w'' I''
   refine ih (listed.setIfInBounds i true) early'' k'' c'' a'' w'' (by simp [hsz]) ?_ (I''.congr fun j => ?_)
   ·have : (listed.setIfInBounds i true).count false = listed.count false - 1 := by
     rw [Array.setIfInBounds_def, dif_pos hlt, Array.count_set]
     simp [hfalse]
    omega
   ·by_cases hji : j = i
    ·subst hji
     simp [Array.getD_eq_getD_getElem?, hlt]
    ·simp [Array.getD_eq_getD_getElem?, Array.getElem?_setIfInBounds_ne (Ne.symm hji), hji]
theorem evDraw_ok (hS : SelfOkR C.P self) (hT : ToldOk C) (hm : C.P.follows .mixedOrders = true) {r : Option Nat} {id : Nat} {ops : Array Oper} {s s' : St} (hr : evDraw C self ops.toList s = some s') {Q : Exit → Act → World → Prop}
  {c : Ctx} {a : Act} {w : World} (h : Rel c s.h w) (he : EnvOk c s.env s.ntm a)
  (hQ : ∀ c' a' w', Rel c' s'.h w' → EnvOk c' s'.env s'.ntm a' → Stp c w c' w' → a'.defers = a.defers → Q .normal a' w') :
  (Code.region id ops true).wpIn (Fr r) 0 C.P Q a w := by
 obtain ⟨st, vv, Hs, D, hz, _⟩ := drawn_of hr
 refine wpIn_region_any hm ?_
 have hstp : Stp c w c { w with drawn := w.drawn + 1 } := Stp.drew c w
 have hrel : Rel c s.h { w with drawn := w.drawn + 1 } := h.drew
 refine wpAny_of hS hT rfl D (c₀ := c) (w₀ := w) (d₀ := a.defers) (fun c' a' w' r1 r2 r3 r4 => hQ c' a' w' (by rw [← hz]; exact r1) (by rw [← hz]; exact r2) r3 r4)
  ops.size (Array.replicate ops.size false) (fun _ => none) 0 c a _ (by simp) (by simp) ?_
 have hno : ∀ j, ¬ (Array.replicate ops.size false).getD j false = true := fun j => by
  rw [Array.getD_eq_getD_getElem?, Array.getElem?_replicate]; split <;> simp
 refine ⟨fun i o hi => absurd hi (hno i), fun idx p h => by omega, Nat.zero_le _, fun idx p _ _ hp => absurd hp (hno p), (fun p b h => by cases h), (by rw [D.heap0]; exact hrel), he.size,
  fun t => .inr ⟨fun j o hj => absurd hj (hno j), he.val t, he.wfv t⟩, (fun p b h => by cases h), (fun p q b b' h => by cases h), hstp, rfl⟩
end
end Go.Proofs.YtconhghphklfjaaGreat.Am
namespace Go.Proofs.YtconhghphklfjaaGreat.Am
open Go
section
variable {P : Program} {b : Frame} {a : Act} {k : List Item} {cs : List Frame} {w : World}
theorem stepR_scope {c : Code} : step P (lone (b.atR a (.code (.scope c) :: k)) cs w) = .next (lone (b.atR a (.code c :: .inScope c :: k)) cs w) :=
 step_lone_go (by simp [stepG, stepG.exec, Frame.atR])
theorem stepR_inScope {c : Code} : step P (lone (b.atR a (.inScope c :: k)) cs w) = .next (lone (b.atR a k) cs w) :=
 step_lone_go (by simp [stepG, stepG.exec, Frame.atR])
end
theorem wpIn_scope {P : Program} {r : Option Nat} {c : Code} {Q : Exit → Act → World → Prop} {a : Act} {w : World} (h : c.wpIn (Fr r) 0 P (Exit.noGoto Q) a w) : (Code.scope c).wpIn (Fr r) 0 P Q a w := by
 intro b k cs hro hb hr
 obtain ⟨e, a₁, w₁, hq, harr⟩ := h b (.inScope c :: k) cs hro hb hr
 cases e with
 | normal => exact ⟨.normal, a₁, w₁, hq, .of_steps (.one (fenced_calm hb hr rfl) stepR_scope) (StepsIn.trans harr (.one (fenced_calm hb hr rfl) stepR_inScope))⟩
 | exit id => exact ⟨.exit id, a₁, w₁, hq, .of_steps (.one (fenced_calm hb hr rfl) stepR_scope) ⟨fun k' hk => harr.1 k' (by simpa [exitTo] using hk), fun hr hk => harr.2 hr (by simpa [exitTo] using hk)⟩⟩
 | goto l => exact hq.elim
 | ret => exact ⟨_, a₁, w₁, hq, .of_steps (.one (fenced_calm hb hr rfl) stepR_scope) harr⟩
 | panic ch => exact ⟨_, a₁, w₁, hq, .of_steps (.one (fenced_calm hb hr rfl) stepR_scope) harr⟩
 | outgrown => exact ⟨_, a₁, w₁, hq, .of_steps (.one (fenced_calm hb hr rfl) stepR_scope) harr⟩
def LoopOk (P : Program) (self : Self) (m : Nat) : Prop := ∀ (b : Code) (s : St) (ex : Ex) (s' : St), self (.loop b) s = some (ex, s') →
 ∀ (r : Option Nat) (c : Ctx) (a : Act) (w : World) (Q : Exit → Act → World → Prop), Rel c s.h w → EnvOk c s.env s.ntm a →
  (∀ e a' w', (e = exOf ex ∧ a'.defers = a.defers ∧ ∃ c', Rel c' s'.h w' ∧ EnvOk c' s'.env s'.ntm a' ∧ Stp c w c' w') → Q e a' w') → Code.roundsIn (Fr r) 0 P b Q m a w
section
variable {C : Cfg} {self : Self}
theorem evStep_loop {m : Nat} (hS : SelfOkR C.P self) (hL : LoopOk C.P self m) : LoopOk C.P (evStep C self) (m + 1) := by
 intro b s ex s' hr r c a w Q h he hQ
 rw [roundsIn_succ]
 unfold evStep at hr
 simp only at hr
 cases hb : self b s with
 | none => rw [hb] at hr; simp at hr
 | some q =>
  obtain ⟨ex₁, s₁⟩ := q
  rw [hb] at hr
  refine wpIn_mono (hS b s ex₁ s₁ hb r c a w h he) ?_
  rintro e a₁ w₁ ⟨rfl, q2, c₁, q3, q4, q5⟩
  cases ex₁ with
  | normal =>
   simp only at hr
   refine hL b s₁ ex s' hr r c₁ a₁ w₁ Q q3 q4 ?_
   rintro e₂ a₂ w₂ ⟨p1, p2, c₂, p3, p4, p5⟩
   exact hQ _ _ _ ⟨p1, by rw [p2, q2], c₂, p3, p4, q5.trans p5⟩
  | exit i =>
   simp only [Option.some.injEq, Prod.mk.injEq] at hr
   obtain ⟨rfl, rfl⟩ := hr
   exact hQ _ _ _ ⟨rfl, q2, c₁, q3, q4, q5⟩
  | ret =>
   simp only [Option.some.injEq, Prod.mk.injEq] at hr
   obtain ⟨rfl, rfl⟩ := hr
   exact hQ _ _ _ ⟨rfl, q2, c₁, q3, q4, q5⟩
theorem evStep_ok {m : Nat} (hm : C.P.follows .mixedOrders = true) (hT : ToldOk C) (hS : SelfOkR C.P self) (hL : LoopOk C.P self m) : SelfOkR C.P (evStep C self) := by
 intro code s ex s' hr r c a w h he
 have same : ∀ {ex : Ex} {s' : St}, (Ex.normal, s) = (ex, s') → exOf ex = .normal ∧ s' = s := fun e => by cases e; exact ⟨rfl, rfl⟩
 cases code with
 | skip =>
  simp only [evStep, Option.some.injEq, Prod.mk.injEq] at hr
  obtain ⟨rfl, rfl⟩ := hr
  exact wpIn_skip ⟨rfl, rfl, c, h, he, Stp.refl c w⟩
 | label l =>
  simp only [evStep, Option.some.injEq, Prod.mk.injEq] at hr
  obtain ⟨rfl, rfl⟩ := hr
  exact wpIn_label ⟨rfl, rfl, c, h, he, Stp.refl c w⟩
 | region id ops draw =>
  unfold evStep at hr
  simp only at hr
  cases draw with
  | true =>
   rw [cond_true] at hr
   cases hd : evDraw C self ops.toList s with
   | none => simp [hd] at hr
   | some s₁ =>
    simp only [hd, Option.some.injEq, Prod.mk.injEq] at hr
    obtain ⟨rfl, rfl⟩ := hr
    exact evDraw_ok hS hT hm hd h he fun c' a' w' r1 r2 r3 r4 => ⟨rfl, r4, c', r1, r2, r3⟩
  | false =>
   rw [cond_false] at hr
   cases hd : evOps C self ops.toList ops.toList s with
   | none => simp [hd] at hr
   | some s₁ =>
    simp only [hd, Option.some.injEq, Prod.mk.injEq] at hr
    obtain ⟨rfl, rfl⟩ := hr
    refine wpIn_region ?_
    rw [List.range_eq_range', ← Array.length_toList]
    exact evOps_ok hS hT ops.toList 0 s s₁ c a w (fun j => by rw [Nat.zero_add, Array.getElem?_toList]) hd h he fun c' a' w' r1 r2 r3 r4 => ⟨rfl, r4, c', r1, r2, r3⟩
 | seq x y =>
  unfold evStep at hr
  simp only at hr
  cases hx : self x s with
  | none => rw [hx] at hr; simp at hr
  | some r =>
   obtain ⟨ex₁, s₁⟩ := r
   rw [hx] at hr
   refine wpIn_seq (wpIn_mono (hS x s ex₁ s₁ hx r c a w h he) ?_)
   rintro e a₁ w₁ ⟨rfl, q2, c₁, q3, q4, q5⟩
   cases ex₁ with
   | normal =>
    simp only at hr
    refine wpIn_mono (hS y s₁ ex s' hr r c₁ a₁ w₁ q3 q4) ?_
    rintro e a₂ w₂ ⟨rfl, p2, c₂, p3, p4, p5⟩
    exact ⟨rfl, by rw [p2, q2], c₂, p3, p4, q5.trans p5⟩
   | exit i =>
    simp only [Option.some.injEq, Prod.mk.injEq] at hr
    obtain ⟨rfl, rfl⟩ := hr
    exact ⟨rfl, q2, c₁, q3, q4, q5⟩
   | ret =>
    simp only [Option.some.injEq, Prod.mk.injEq] at hr
    obtain ⟨rfl, rfl⟩ := hr
    exact ⟨rfl, q2, c₁, q3, q4, q5⟩
 | cond x y z =>
  unfold evStep at hr
  simp only at hr
  split at hr
  ·rename_i t hx
   obtain ⟨e1, _⟩ := evO_ok he hx
   refine wpIn_cond (t := t) (by rw [e1]; rfl) ?_
   have := hS (cond t y z) s ex s' hr r c a w h he
   cases t <;> simpa using this
  ·cases hr
 | block id b =>
  unfold evStep at hr
  simp only at hr
  cases hb : self b s with
  | none => rw [hb] at hr; simp at hr
  | some r =>
   obtain ⟨ex₁, s₁⟩ := r
   rw [hb] at hr
   refine wpIn_block (wpIn_mono (hS b s ex₁ s₁ hb r c a w h he) ?_)
   rintro e a₁ w₁ ⟨rfl, q2, c₁, q3, q4, q5⟩
   cases ex₁ with
   | normal =>
    simp only [Option.some.injEq, Prod.mk.injEq] at hr
    obtain ⟨rfl, rfl⟩ := hr
    simp only [exOf, Exit.inBlock]
    exact ⟨trivial, q2, c₁, q3, q4, q5⟩
   | exit i =>
    simp only at hr
    by_cases hi : i = id
    ·rw [beqT hi, cond_true] at hr
     simp only [Option.some.injEq, Prod.mk.injEq] at hr
     obtain ⟨rfl, rfl⟩ := hr
     simp only [exOf, Exit.inBlock, hi, if_true]
     exact ⟨trivial, q2, c₁, q3, q4, q5⟩
    ·rw [beqF hi, cond_false] at hr
     simp only [Option.some.injEq, Prod.mk.injEq] at hr
     obtain ⟨rfl, rfl⟩ := hr
     simp only [exOf, Exit.inBlock, hi, if_false]
     exact ⟨trivial, q2, c₁, q3, q4, q5⟩
   | ret =>
    simp only [Option.some.injEq, Prod.mk.injEq] at hr
    obtain ⟨rfl, rfl⟩ := hr
    simp only [exOf, Exit.inBlock]
    exact ⟨trivial, q2, c₁, q3, q4, q5⟩
 | loop b =>
  exact wpIn_loop_rounds (m + 1) (evStep_loop hS hL b s ex s' hr r c a w _ h he (fun _ _ _ hq => hq))
 | exit id =>
  simp only [evStep, Option.some.injEq, Prod.mk.injEq] at hr
  obtain ⟨rfl, rfl⟩ := hr
  exact wpIn_exit ⟨rfl, rfl, c, h, he, Stp.refl c w⟩
 | scope b =>
  unfold evStep at hr
  simp only at hr
  refine wpIn_scope (wpIn_mono (hS b s ex s' hr r c a w h he) ?_)
  rintro e a₁ w₁ ⟨rfl, q2, c₁, q3, q4, q5⟩
  cases ex <;> exact ⟨rfl, q2, c₁, q3, q4, q5⟩
 | ret =>
  simp only [evStep, Option.some.injEq, Prod.mk.injEq] at hr
  obtain ⟨rfl, rfl⟩ := hr
  exact wpIn_ret ⟨rfl, rfl, c, h, he, Stp.refl c w⟩
 | _ => simp [evStep] at hr
theorem ev_okR (hm : C.P.follows .mixedOrders = true) (hT : ToldOk C) : ∀ n, SelfOkR C.P (ev C n) ∧ LoopOk C.P (ev C n) n := by
 intro n
 induction n with
 | zero => exact ⟨fun _ _ _ _ h => by simp [ev] at h, fun _ _ _ _ h => by simp [ev] at h⟩
 | succ n ih => exact ⟨evStep_ok hm hT ih.1 ih.2, evStep_loop ih.1 ih.2⟩
theorem ev_ok (hm : C.P.follows .mixedOrders = true) (hT : ToldOk C) (n : Nat) : SelfOk C.P (ev C n) ∧ True := ⟨(ev_okR hm hT n).1.wide, trivial⟩
theorem run_ok (hm : C.P.follows .mixedOrders = true) (hT : ToldOk C) {n : Nat} {f : FuncId} {args : List V} {h : H} {v : V} {h' : H} (hr : run C n f args h = some (v, h')) {c : Ctx} {w : World}
  (hrel : Rel c h w) (hw : ∀ x ∈ args, wf c x) : CallOk C.P f args c w v h' :=
 (callF_ok (ev_ok hm hT n).1 hT hr hrel hw).1
theorem Rel.empty (w : World) : Rel ⟨fun _ => (0, 0), fun _ => 0, 0, fun _ => false⟩ ⟨0, .lf⟩ w :=
 ⟨rfl, fun id o h => by simp [T.get_lf] at h, fun id h => absurd h (Nat.not_lt_zero _), fun id h => absurd h (Nat.not_lt_zero _), fun i j o o' h => by simp [T.get_lf] at h, fun id o h => by simp [T.get_lf] at h, fun id cs st h => by simp [T.get_lf] at h, fun id o h => by simp [T.get_lf] at h⟩
end
end Go.Proofs.YtconhghphklfjaaGreat.Am
