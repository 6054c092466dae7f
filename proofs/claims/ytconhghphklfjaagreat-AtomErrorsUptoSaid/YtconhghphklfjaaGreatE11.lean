/- A group that is over or open, pages that are none and records that may not be are refused, and a record that was done is read back; the conditions are those of the given statement, for arguments that a machine can hold. Part 11 of 44. -/
import Derived.Test.YtconhghphklfjaaGreatE10
namespace Go.Proofs.YtconhghphklfjaaGreat.Am
open Go
section
variable {C : Cfg} {self : Self} {c : Ctx} {w : World}
variable {L : List Oper} {s : St} {st : Nat → St} {vv : Nat → V} {es : List Nat} {Hs : Nat → H}
variable {c₀ : Ctx} {w₀ : World} {d₀ : List Deferred} {S : Nat → Prop} {early : Nat → Option (Nat × FV)} {k i : Nat} {a : Act} {o : Oper}
structure Ready (L : List Oper) (S : Nat → Prop) (i : Nat) (o : Oper) : Prop where
 at_ : L[i]? = some o
 not : ¬ S i
 edges : ∀ e ∈ o.after, bindsAny e = true → S e.on
theorem Ready.anc (D : Drawn C self L s st vv es Hs) (hcl : ∀ i o, S i → L[i]? = some o → ∀ e ∈ o.after, bindsAny e = true → S e.on) (R : Ready L S i o) {j : Nat}
  (h : bit ((nth (ancs L []) i).getD 0) j = true) : S j ∧ j < i :=
 anc_in D.back S i o R.at_ (fun k o' _ ho' hk => hcl k o' hk ho') R.edges j h
theorem done_anc (D : Drawn C self L s st vv es Hs) (hcl : ∀ i o, S i → L[i]? = some o → ∀ e ∈ o.after, bindsAny e = true → S e.on) {j q : Nat} {x : Oper} (hj : S j) (hx : L[j]? = some x)
  (h : bit ((nth (ancs L []) j).getD 0) q = true) : S q ∧ q < j :=
 anc_in D.back S j x hx (fun k o' _ ho' hk => hcl k o' hk ho') (hcl j x hj hx) q h
theorem Ready.later (D : Drawn C self L s st vv es Hs) (hcl : ∀ i o, S i → L[i]? = some o → ∀ e ∈ o.after, bindsAny e = true → S e.on) (R : Ready L S i o) {j : Nat} {x : Oper}
  (hj : S j) (hx : L[j]? = some x) (hlt : i < j) : apartV L o x = true := by
 rcases D.pairs j x hx i o hlt R.at_ with h | ⟨h, _⟩
 ·exact absurd (done_anc D hcl hj hx h).1 R.not
 ·exact h
theorem Ready.before (D : Drawn C self L s st vv es Hs) (hcl : ∀ i o, S i → L[i]? = some o → ∀ e ∈ o.after, bindsAny e = true → S e.on) (R : Ready L S i o) {j : Nat} {x : Oper}
  (hx : L[j]? = some x) (hlt : j < i) : S j ∨ (apartV L x o = true ∧ (isEff C x.op = false ∨ isEff C o.op = false ∨ isAlloc o = true)) := by
 rcases D.pairs i o R.at_ j x hlt hx with h | h
 ·exact .inl (R.anc D hcl h).1
 ·exact .inr h
theorem DInv.looksOk (D : Drawn C self L s st vv es Hs) (I : DInv C self L s st vv es Hs c₀ w₀ d₀ S early k c a w) (hmax : ∀ p, es[k]? = some p → ¬ S p) (R : Ready L S i o)
  {t : Tmp} (ht : t ∈ looks L o) : a.tmps.getD t undef = conc c ((st i).env.v t) ∧ wf c ((st i).env.v t) := by
 have hlen : i < L.length := (List.getElem?_eq_some_iff.1 R.at_).1
 -- those that write it and have come stand ahead in the text
 have hbefore : ∀ j x, S j → L[j]? = some x → x.dst = some t → j < i := fun j x hj hx hd => by
  rcases Nat.lt_trichotomy j i with h | h | h
  ·exact h
  ·subst h; exact absurd hj R.not
  ·exact absurd ht ((apartV_ok (R.later D I.closed hj hx h)).2 t hd)
 have hcome : ∀ j x, j < i → L[j]? = some x → x.dst = some t → S j := fun j x hlt hx hd => by
  rcases R.before D I.closed hx hlt with h | ⟨h, _⟩
  ·exact h
  ·exact absurd ht ((apartV_ok h).1 t hd).1
 rcases I.tmp t with ⟨i₀, o₀, g1, g2, g3, g4, g5⟩ | ⟨g1, g2, g3⟩
 ·have hlt := hbefore i₀ o₀ g1 g2 g3
  have henv : (st i).env.v t = vv i₀ := by
   rcases D.envAt t i (by omega) with ⟨j, oj, h1, h2, h3, h4, h5⟩ | ⟨h1, _⟩
   ·have e1 := h4 i₀ o₀ hlt g2 g3
    have e2 := g4 j oj (hcome j oj h1 h2 h3) h2 h3
    have : j = i₀ := by omega
    subst this; exact h5
   ·exact absurd g3 (h1 i₀ o₀ hlt g2)
  rcases g5 with ⟨b, e1, _⟩ | ⟨_, e2, e3⟩
  ·exfalso
   obtain ⟨_, idx, f2, f3⟩ := I.isEarly i₀ b e1
   obtain ⟨o₁, _, f4, f5, _⟩ := I.late idx i₀ f2 f3 g1
   rw [g2] at f4
   simp at f4
   subst f4
   obtain ⟨q, hq⟩ : ∃ q, es[k]? = some q := ⟨_, List.getElem?_eq_getElem (by have := (List.getElem?_eq_some_iff.1 f3).1; omega)⟩
   by_cases hqi : q = i₀
   ·subst hqi; exact hmax _ hq g1
   ·have hqlt : q < i₀ := by
     have : k ≠ idx := fun e => by subst e; rw [hq] at f3; simp at f3; exact hqi f3
     exact (es_lt D hq f3).1 (by omega)
    rcases D.floats i₀ o₀ g2 f5 i o R.at_ hlt with h | h
    ·exact ((apartV_ok h).1 t g3).1 ht
    ·exact hmax q hq (R.anc D I.closed (h q (List.mem_of_getElem? hq) hqlt)).1
  ·rw [henv]; exact ⟨e2, e3⟩
 ·have henv : (st i).env.v t = s.env.v t := by
   rcases D.envAt t i (by omega) with ⟨j, oj, h1, h2, h3, h4, h5⟩ | ⟨_, h⟩
   ·exact absurd h3 (g1 j oj (hcome j oj h1 h2 h3) h2)
   ·exact h
  rw [henv]; exact ⟨g2, g3⟩
theorem DInv.opn (D : Drawn C self L s st vv es Hs) (I : DInv C self L s st vv es Hs c₀ w₀ d₀ S early k c a w) (hmax : ∀ p, es[k]? = some p → ¬ S p) (R : Ready L S i o) : OpnOk c (st i).env a o := by
 intro x hx v hv
 cases x with
 | tmp t =>
  simp only [evO, Option.some.injEq] at hv
  subst hv
  have hl : t ∈ looks L o := List.mem_append_left _ (List.mem_filterMap.2 ⟨.tmp t, by simpa using hx, rfl⟩)
  exact I.looksOk D hmax R hl
 | const x =>
  simp only [evO] at hv
  obtain ⟨h1, h2⟩ := ofValue_ok hv c
  exact ⟨h1.symm, h2⟩
 | global g => simp [evO] at hv
 | func f =>
  simp only [evO, Option.some.injEq] at hv
  subst hv
  exact ⟨by simp [Act.eval, conc, concL], by simp [wf, wfL]⟩
theorem DInv.wanted (D : Drawn C self L s st vv es Hs) {ops : Array Oper} (hL : ops.toList = L) (I : DInv C self L s st vv es Hs c₀ w₀ d₀ S early k c a w) (hmax : ∀ p, es[k]? = some p → ¬ S p) (R : Ready L S i o) :
  Region.wanted o (yielded ops a.tmps) = wantedV L (st i).env o := by
 rw [← hL]
 refine wantedV_on (c := c) fun j w d hg hd => ?_
 have hl : d ∈ looks L o := by
  refine List.mem_append_right _ ?_
  rw [hg]
  simp only [nth_eq]
  rw [← hL, Array.getElem?_toList, hd]
  simp
 exact (I.looksOk D hmax R hl).1
theorem DInv.tmpNext (D : Drawn C self L s st vv es Hs) (I : DInv C self L s st vv es Hs c₀ w₀ d₀ S early k c a w) (R : Ready L S i o) {c' : Ctx} (e : Ext c c') {early' : Nat → Option (Nat × FV)}
  (hel : ∀ j, j ≠ i → early' j = early j) (X : Value)
  (hX : (∃ b, early' i = some b ∧ X = b.2.val b.1) ∨ (early' i = none ∧ X = conc c' (vv i) ∧ wf c' (vv i))) (t : Tmp) :
  (∃ i₀ o₀, (S i₀ ∨ i₀ = i) ∧ L[i₀]? = some o₀ ∧ o₀.dst = some t ∧ (∀ j o', (S j ∨ j = i) → L[j]? = some o' → o'.dst = some t → j ≤ i₀) ∧
    ((∃ b, early' i₀ = some b ∧ (a.put o.dst X).tmps.getD t undef = b.2.val b.1) ∨ (early' i₀ = none ∧ (a.put o.dst X).tmps.getD t undef = conc c' (vv i₀) ∧ wf c' (vv i₀)))) ∨
   ((∀ j o', (S j ∨ j = i) → L[j]? = some o' → o'.dst ≠ some t) ∧ (a.put o.dst X).tmps.getD t undef = conc c' (s.env.v t) ∧ wf c' (s.env.v t)) := by
 have hlen : i < L.length := (List.getElem?_eq_some_iff.1 R.at_).1
 by_cases hd : o.dst = some t
 ·left
  refine ⟨i, o, .inr rfl, R.at_, hd, fun j x hj hx hxd => ?_, ?_⟩
  ·rcases hj with hj | hj
   ·rcases Nat.lt_or_ge i j with h | h
    ·exact absurd hxd ((apartV_ok (R.later D I.closed hj hx h)).1 t hd).2
    ·exact h
   ·omega
  ·obtain ⟨h, p1, _, _⟩ := D.step i o R.at_
   obtain ⟨_, _, p3, _⟩ := put_facts p1
   have hsz : t < a.tmps.size := by rw [I.size, ← D.ntm i (by omega)]; exact p3 t hd
   have hget : (a.put o.dst X).tmps.getD t undef = X := by rw [hd]; simp [Act.put, Array.getD, hsz]
   rw [hget]
   exact hX
 ·have hget : (a.put o.dst X).tmps.getD t undef = a.tmps.getD t undef := by
   cases ho : o.dst with
   | none => rfl
   | some d =>
    have : d ≠ t := fun e => hd (by rw [ho, e])
    simp [Act.put, Array.getD_eq_getD_getElem?, Array.getElem?_setIfInBounds_ne this]
  rw [hget]
  rcases I.tmp t with ⟨i₀, o₀, g1, g2, g3, g4, g5⟩ | ⟨g1, g2, g3⟩
  ·left
   have hne : i₀ ≠ i := fun e => by subst e; exact R.not g1
   refine ⟨i₀, o₀, .inl g1, g2, g3, fun j x hj hx hxd => ?_, ?_⟩
   ·rcases hj with hj | hj
    ·exact g4 j x hj hx hxd
    ·subst hj; rw [R.at_] at hx; simp at hx; subst hx; exact absurd hxd hd
   ·rw [hel i₀ hne]
    rcases g5 with h | ⟨e1, e2, e3⟩
    ·exact .inl h
    ·exact .inr ⟨e1, by rw [e2, (conc_ext e _ e3).1], (conc_ext e _ e3).2⟩
  ·right
   refine ⟨fun j x hj hx => ?_, by rw [g2, (conc_ext e _ g3).1], (conc_ext e _ g3).2⟩
   rcases hj with hj | hj
   ·exact g1 j x hj hx
   ·subst hj; rw [R.at_] at hx; simp at hx; subst hx; exact hd
theorem DInv.closedNext (I : DInv C self L s st vv es Hs c₀ w₀ d₀ S early k c a w) (R : Ready L S i o) :
  ∀ j x, (S j ∨ j = i) → L[j]? = some x → ∀ e ∈ x.after, bindsAny e = true → (S e.on ∨ e.on = i) := by
 intro j x hj hx e he hb
 rcases hj with hj | hj
 ·exact .inl (I.closed j x hj hx e he hb)
 ·subst hj; rw [R.at_] at hx; simp at hx; subst hx; exact .inl (R.edges e he hb)
theorem put_size (a : Act) (d : Option Tmp) (X : Value) : (a.put d X).tmps.size = a.tmps.size := by cases d <;> simp [Act.put]
theorem put_defers (a : Act) (d : Option Tmp) (X : Value) : (a.put d X).defers = a.defers := by cases d <;> rfl
theorem DInv.next (D : Drawn C self L s st vv es Hs) (I : DInv C self L s st vv es Hs c₀ w₀ d₀ S early k c a w) (R : Ready L S i o) {c' : Ctx} {w' : World} (X : Stp c w c' w') (k' : Nat)
  (hk : (k' = k ∧ isEff C o.op = false) ∨ (k' = k + 1 ∧ es[k]? = some i)) (hrel : Rel c' (Hs k') w') (hv : wf c' (vv i)) :
  DInv C self L s st vv es Hs c₀ w₀ d₀ (fun j => S j ∨ j = i) early k' c' (a.put o.dst (conc c' (vv i))) w' := by
 have hei : early i = none := by
  cases h : early i with
  | none => rfl
  | some b => exact absurd (I.isEarly i b h).1 R.not
 refine ⟨I.closedNext R, fun idx p hlt hp => ?_, ?_, fun idx p hle hp hSp => ?_, fun p b hp => ?_, hrel, by rw [put_size]; exact I.size,
  fun t => I.tmpNext D R X.ext (fun j _ => rfl) _ (.inr ⟨hei, rfl, hv⟩) t, fun p b hp => ?_, I.distinct, I.stp.trans X, by rw [put_defers]; exact I.defers⟩
 ·rcases hk with ⟨rfl, _⟩ | ⟨rfl, hk⟩
  ·exact .inl (I.pre idx p hlt hp)
  ·by_cases h : idx = k
   ·subst h; rw [hk] at hp; simp at hp; exact .inr hp.symm
   ·exact .inl (I.pre idx p (by omega) hp)
 ·rcases hk with ⟨rfl, _⟩ | ⟨rfl, hk⟩
  ·exact I.kle
  ·have := (List.getElem?_eq_some_iff.1 hk).1; omega
 ·rcases hSp with hSp | hSp
  ·refine I.late idx p ?_ hp hSp
   rcases hk with ⟨rfl, _⟩ | ⟨rfl, hk⟩ <;> omega
  ·subst hSp
   exfalso
   rcases hk with ⟨rfl, hk⟩ | ⟨rfl, hk⟩
   ·obtain ⟨o', h1, h2⟩ := (D.es_iff p).1 (List.mem_of_getElem? hp)
    rw [R.at_] at h1; simp at h1; subst h1; rw [hk] at h2; cases h2
   ·have := es_idx D hp hk; omega
 ·obtain ⟨g1, idx, g2, g3⟩ := I.isEarly p b hp
  refine ⟨.inl g1, idx, ?_, g3⟩
  rcases hk with ⟨rfl, _⟩ | ⟨rfl, hk⟩
  ·exact g2
  ·rcases Nat.eq_or_lt_of_le g2 with e | e
   ·subst e; rw [hk] at g3; simp at g3; subst g3; exact absurd g1 R.not
   ·exact e
 ·obtain ⟨g1, g2, g3, o', T, cs, g4, g5, g7⟩ := I.blocks p b hp
  refine ⟨g1, Nat.lt_of_lt_of_le g2 X.size, fun id hid he => ?_, o', T, cs, g4, g5, by rw [X.keep b.1 g2 (fun id hi he => absurd he (g3 id hi)), g5.same c _]; exact g7⟩
  by_cases hid' : id < c.N
  ·exact g3 id hid' (by rw [← X.ext.ρ id hid']; exact he)
  ·rcases X.fresh id (by omega) hid with h | ⟨j, hj, h, _⟩
   ·omega
   ·exact g3 j hj (by rw [h]; exact he)
theorem DInv.float (D : Drawn C self L s st vv es Hs) (I : DInv C self L s st vv es Hs c₀ w₀ d₀ S early k c a w) (R : Ready L S i o) (hal : isAlloc o = true) {fv : FV} {cs : List V} {T : TypeId}
  (F : FloatOp C self (st i).env o fv cs T) {idx : Nat} (hidx : es[idx]? = some i) (hle : k ≤ idx) :
  DInv C self L s st vv es Hs c₀ w₀ d₀ (fun j => S j ∨ j = i) (fun j => if j = i then some (w.heap.size, fv) else early j) k c (a.put o.dst (fv.val w.heap.size))
   (w.alloc (.cells (cs.map (conc c)).toArray T (0, 0))) := by
 obtain ⟨j1, j2⟩ := I.rel.junk (.cells (cs.map (conc c)).toArray T (0, 0))
 have nS : ∀ j, S j → j ≠ i := fun j hj e => by subst e; exact R.not hj
 refine ⟨I.closedNext R, fun idx p hlt hp => .inl (I.pre idx p hlt hp), I.kle, fun idx' p hle' hp hSp => ?_, fun p b hp => ?_, j1, by rw [put_size]; exact I.size,
  fun t => I.tmpNext D R (Ext.refl c) (fun j hj => by simp [hj]) _ (.inl ⟨(w.heap.size, fv), by simp, rfl⟩) t, fun p b hp => ?_, fun p q b b' hp hq he => ?_, I.stp.trans j2, by rw [put_defers]; exact I.defers⟩
 ·rcases hSp with hSp | hSp
  ·obtain ⟨o', b, g1, g2, g3⟩ := I.late idx' p hle' hp hSp
   exact ⟨o', b, g1, g2, by simp [nS p hSp, g3]⟩
  ·subst hSp
   exact ⟨o, _, R.at_, hal, by simp; rfl⟩
 ·by_cases h : p = i
  ·subst h; exact ⟨.inr rfl, idx, hle, hidx⟩
  ·simp [h] at hp
   obtain ⟨g1, g2⟩ := I.isEarly p b hp
   exact ⟨.inl g1, g2⟩
 ·by_cases h : p = i
  ·subst h
   simp at hp
   subst hp
   refine ⟨I.stp.size, by simp, fun id hid => Nat.ne_of_lt (I.rel.blk id hid), o, T, cs, R.at_, F, by rw [alloc_get]; simp⟩
  ·simp [h] at hp
   obtain ⟨g1, g2, g3, o', T', cs', g4, g5, g7⟩ := I.blocks p b hp
   exact ⟨g1, by simp; omega, g3, o', T', cs', g4, g5, by rw [alloc_get, if_neg (Nat.ne_of_lt g2)]; exact g7⟩
 ·by_cases h1 : p = i <;> by_cases h2 : q = i
  ·omega
  ·simp [h1] at hp
   simp [h2] at hq
   have := (I.blocks q b' hq).2.1
   rw [← hp] at he
   simp at he
   omega
  ·simp [h1] at hp
   simp [h2] at hq
   have := (I.blocks p b hp).2.1
   rw [← hq] at he
   simp at he
   omega
  ·simp [h1] at hp
   simp [h2] at hq
   exact I.distinct p q b b' hp hq he
theorem DInv.stepOk (hS : SelfOkR C.P self) (hT : ToldOk C) {r : Option Nat} {ops : Array Oper} (hL : ops.toList = L) {Q : Exit → Act → World → Prop} (D : Drawn C self L s st vv es Hs)
  (I : DInv C self L s st vv es Hs c₀ w₀ d₀ S early k c a w) (hmax : ∀ p, es[k]? = some p → ¬ S p) (R : Ready L S i o) {K : Act → World → Prop}
  (hK : ∀ early' k' c' a' w', DInv C self L s st vv es Hs c₀ w₀ d₀ (fun j => S j ∨ j = i) early' k' c' a' w' → K a' w') : wpOpIn (Fr r) 0 C.P ops Q i K a w := by
 have hlen : i < L.length := (List.getElem?_eq_some_iff.1 R.at_).1
 have hoi : ops[i]? = some o := by rw [← Array.getElem?_toList, hL]; exact R.at_
 obtain ⟨h, p1, p2, p3⟩ := D.step i o R.at_
 have ph := (put_facts p1).1
 -- an effect that is no new variable comes in its place
 have place : isEff C o.op = true → isAlloc o = false → es[k]? = some i := by
  intro he ha
  obtain ⟨idx, hidx⟩ := List.getElem?_of_mem ((D.es_iff i).2 ⟨o, R.at_, he⟩)
  have h1 : ¬ idx < k := fun hlt => R.not (I.pre idx i hlt hidx)
  by_cases h2 : idx = k
  ·subst h2; exact hidx
  ·exfalso
   obtain ⟨q, hq⟩ : ∃ q, es[k]? = some q := ⟨_, List.getElem?_eq_getElem (by have := (List.getElem?_eq_some_iff.1 hidx).1; omega)⟩
   obtain ⟨oq, g1, g2⟩ := (D.es_iff q).1 (List.mem_of_getElem? hq)
   have hqi : q < i := (es_lt D hq hidx).1 (by omega)
   rcases R.before D I.closed g1 hqi with hb | ⟨_, hb⟩
   ·exact hmax q hq hb
   ·rw [g2, he, ha] at hb; simp at hb
 have heapK : es[k]? = some i → (st i).h = Hs k := fun hk => D.heapAt i k (by omega) I.kle (fun idx q hlt hq => (es_lt D hq hk).1 hlt) (fun idx q hle hq => by
  rcases Nat.eq_or_lt_of_le hle with e | e
  ·subst e; rw [hk] at hq; simp at hq; omega
  ·exact Nat.le_of_lt ((es_lt D hk hq).1 e))
 unfold wpOpIn
 rw [hoi]
 simp only [I.wanted D hL hmax R]
 cases hw : wantedV L (st i).env o with
 | false =>
  simp only [Bool.false_eq_true, if_false]
  refine ⟨fun _ _ => trivial, ?_⟩
  obtain ⟨hv, hh⟩ := p3 hw
  have hwfv : wf c (vv i) := by rw [hv]; simp [undefV, wf, wfL]
  have hX : conc c (vv i) = undef := by rw [hv, conc_undef]
  cases he : isEff C o.op with
  | false =>
   have := I.next D R (Stp.refl c w) k (.inl ⟨rfl, he⟩) I.rel hwfv
   rw [hX] at this
   exact hK _ _ _ _ _ this
  | true =>
   have ha : isAlloc o = false := by
    cases ha : isAlloc o with
    | false => rfl
    | true => obtain ⟨_, hg, _⟩ := isAlloc_op ha; simp [wantedV, hg] at hw
   have hk := place he ha
   have hrel : Rel c (Hs (k + 1)) w := by rw [D.heaps k i hk, ph, hh, heapK hk]; exact I.rel
   have := I.next D R (Stp.refl c w) (k + 1) (.inr ⟨rfl, hk⟩) hrel hwfv
   rw [hX] at this
   exact hK _ _ _ _ _ this
 | true =>
  simp only [if_true]
  cases he : isEff C o.op with
  | false =>
   obtain ⟨h', hev⟩ := D.same i o R.at_ he k I.kle (fun idx p hlt hp => by
    cases hb : bit ((nth (ancs L []) p).getD 0) i with
    | false => rfl
    | true =>
     obtain ⟨x, hx, _⟩ := (D.es_iff p).1 (List.mem_of_getElem? hp)
     exact absurd (done_anc D I.closed (I.pre idx p hlt hp) hx hb).1 R.not) (fun idx p hle hp => by
    cases hb : bit ((nth (ancs L []) i).getD 0) p with
    | false => rfl
    | true =>
     obtain ⟨q, hq⟩ : ∃ q, es[k]? = some q := ⟨_, List.getElem?_eq_getElem (by have := (List.getElem?_eq_some_iff.1 hp).1; omega)⟩
     exact absurd (R.anc D I.closed (D.gap i o R.at_ he k idx q p hle hq hp hb)).1 (hmax q hq)) hw
   have hh := evOp_pure he hev
   subst hh
   refine (evOp_ok hS hT I.rel (I.opn D hmax R) hev).wpIn (evOp_nodefer hev) ?_
   intro c' w' r1 r2 r3
   exact hK _ _ _ _ _ (I.next D R r2 k (.inl ⟨rfl, he⟩) r1 r3)
  | true =>
   have hev := p2 hw
   by_cases hk : es[k]? = some i
   ·rw [heapK hk] at hev
    refine (evOp_ok hS hT I.rel (I.opn D hmax R) hev).wpIn (evOp_nodefer hev) ?_
    intro c' w' r1 r2 r3
    exact hK _ _ _ _ _ (I.next D R r2 (k + 1) (.inr ⟨rfl, hk⟩) (by rw [D.heaps k i hk, ph]; exact r1) r3)
   ·have ha : isAlloc o = true := by
     cases ha : isAlloc o with
     | true => rfl
     | false => exact absurd (place he ha) hk
    obtain ⟨idx, hidx⟩ := List.getElem?_of_mem ((D.es_iff i).2 ⟨o, R.at_, he⟩)
    have hle : k ≤ idx := Nat.le_of_not_lt fun hlt => R.not (I.pre idx i hlt hidx)
    obtain ⟨fv, cs, T, F⟩ := floatOp_of ha hev
    refine ⟨fun _ _ => trivial, ?_⟩
    rw [Oper.semAt_eq _ _ _ (evOp_nodefer hev), F.run c a (I.opn D hmax R) w]
    exact hK _ _ _ _ _ (I.float D R ha F hidx hle)
end
end Go.Proofs.YtconhghphklfjaaGreat.Am
