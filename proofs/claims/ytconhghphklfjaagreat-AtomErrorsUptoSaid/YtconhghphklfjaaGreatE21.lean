/- A group that is over or open, pages that are none and records that may not be are refused, and a record that was done is read back; the conditions are those of the given statement, for arguments that a machine can hold. Part 21 of 44. -/
import Derived.Test.YtconhghphklfjaaGreatE20
namespace Go.Proofs.YtconhghphklfjaaGreat.Am
open Go
abbrev Ents := List (Int × V × Nat)
def mkE (e : Int × V × Nat) : V × V × Nat := (.int .i64 e.1, e.2)
def lookE (n : Int) : Ents → Option V
 | [] => none
 | e :: l => if e.1 = n then some e.2.1 else lookE n l
def putE (n : Int) (v : V) (c : Nat) : Ents → Ents
 | [] => [(n, v, c)]
 | e :: l => if e.1 = n then (e.1, v, e.2.2) :: l else e :: putE n v c l
def delE (n : Int) : Ents → Ents
 | [] => []
 | e :: l => if e.1 = n then l else e :: delE n l
def clkE (n : Int) (c : Nat) (l : Ents) : Nat := match lookE n l with
 | some _ => c
 | none => c + 1
abbrev mapI (id : Nat) (l : Ents) (c : Nat) : Assn := pt id (.map (l.map mkE) c)
def idxE (n : Int) : Ents → Nat → Option (Nat × V)
 | [], _ => none
 | e :: l, i => if e.1 = n then some (i, e.2.1) else idxE n l (i + 1)
theorem intBeq_dec (a b : Int) : intBeq a b = decide (a = b) := by
 cases hq : intBeq a b with
 | true => simp [intBeq_ok hq]
 | false =>
  by_cases he : a = b
  ·subst he; rw [intBeq_self] at hq; cases hq
  ·simp [he]
theorem findK_E {k : IntKind} {n : Int} : ∀ (l : Ents) (i : Nat), findK (.int k) (.int .i64 n) (l.map mkE) i = some (idxE n l i) := by
 intro l
 induction l with
 | nil => intro i; rfl
 | cons e l ih =>
  intro i
  simp only [List.map_cons, findK, mkE, keyBeq, ikBeq_self, cond_true, intBeq_dec, idxE]
  by_cases he : e.1 = n
  ·have : n = e.1 := he.symm
   simp [this]
  ·have : decide (n = e.1) = false := by simp; exact fun h => he h.symm
   rw [this, if_neg he]
   exact ih (i + 1)
theorem idxE_look {n : Int} : ∀ (l : Ents) (i : Nat), (idxE n l i).map (·.2) = lookE n l := by
 intro l
 induction l with
 | nil => intro i; rfl
 | cons e l ih =>
  intro i
  simp only [idxE, lookE]
  by_cases he : e.1 = n
  ·simp [he]
  ·simp only [if_neg he]; exact ih (i + 1)
theorem idxE_ge {n : Int} : ∀ (l : Ents) (i j : Nat) (v : V), idxE n l i = some (j, v) → i ≤ j := by
 intro l
 induction l with
 | nil => intro i j v h; cases h
 | cons e l ih =>
  intro i j v h
  simp only [idxE] at h
  by_cases he : e.1 = n
  ·rw [if_pos he] at h; injection h with h; injection h with h1 h2; omega
  ·rw [if_neg he] at h; have := ih _ _ _ h; omega
theorem set_E {n : Int} {v : V} {c : Nat} : ∀ (l : Ents) (i j : Nat) (u : V), idxE n l i = some (j, u) → setNth (l.map mkE) (j - i) (fun e => (e.1, v, e.2.2)) = (putE n v c l).map mkE := by
 intro l
 induction l with
 | nil => intro i j u h; cases h
 | cons e l ih =>
  intro i j u h
  simp only [idxE] at h
  simp only [putE, List.map_cons, setNth]
  by_cases he : e.1 = n
  ·rw [if_pos he] at h; injection h with h; injection h with h1 h2
   subst h1
   rw [if_pos he, Nat.sub_self]
   rfl
  ·rw [if_neg he] at h
   have h3 := idxE_ge _ _ _ _ h
   rw [if_neg he, beqF (by omega), cond_false, show j - i - 1 = j - (i + 1) by omega, ih _ _ _ h]
   rfl
theorem drop_E {n : Int} : ∀ (l : Ents) (i j : Nat) (u : V), idxE n l i = some (j, u) → dropNth (l.map mkE) (j - i) = (delE n l).map mkE := by
 intro l
 induction l with
 | nil => intro i j u h; cases h
 | cons e l ih =>
  intro i j u h
  simp only [idxE] at h
  simp only [delE, List.map_cons, dropNth]
  by_cases he : e.1 = n
  ·rw [if_pos he] at h; injection h with h; injection h with h1 h2
   subst h1
   rw [if_pos he, Nat.sub_self]
   rfl
  ·rw [if_neg he] at h
   have h3 := idxE_ge _ _ _ _ h
   rw [if_neg he, beqF (by omega), cond_false, show j - i - 1 = j - (i + 1) by omega, ih _ _ _ h]
   rfl
theorem put_new {n : Int} {v : V} {c : Nat} : ∀ (l : Ents), lookE n l = none → putE n v c l = l ++ [(n, v, c)] := by
 intro l
 induction l with
 | nil => intro _; rfl
 | cons e l ih =>
  intro h
  simp only [lookE] at h
  by_cases he : e.1 = n
  ·rw [if_pos he] at h; cases h
  ·rw [if_neg he] at h; simp only [putE, if_neg he, ih h, List.cons_append]
theorem del_none {n : Int} : ∀ (l : Ents), lookE n l = none → delE n l = l := by
 intro l
 induction l with
 | nil => intro _; rfl
 | cons e l ih =>
  intro h
  simp only [lookE] at h
  by_cases he : e.1 = n
  ·rw [if_pos he] at h; cases h
  ·rw [if_neg he] at h; simp only [delE, if_neg he, ih h]
section
variable {P : Program} {h h' : H} {S : List Assn} {v z : V} {t kt et : TypeId} {k : IntKind} {id c j : Nat} {l : Ents} {n : Int}
theorem Sat.look2 (s : Sat h S) (hj : getA S j = some (mapI id l c)) (hu : P.underlying t = some (.map kt et)) (hk : P.underlying kt = some (.int k)) (hz : zeroT P et = some z) :
  lookupX P h t (.map id) (.int .i64 n) true = some (match lookE n l with | some v => .tup [v, .bool true] | none => .tup [z, .bool false]) := by
 have hg := s.row hj
 simp only [lookupX, lookupV, hu, hk, hz, hg, keyBeq, ikBeq_self, cond_true, findK_E]
 rw [← idxE_look l 0]
 cases idxE n l 0 with
 | none => rfl
 | some q => rfl
theorem Sat.look1 (s : Sat h S) (hj : getA S j = some (mapI id l c)) (hu : P.underlying t = some (.map kt et)) (hk : P.underlying kt = some (.int k)) (hz : zeroT P et = some z) :
  lookupX P h t (.map id) (.int .i64 n) false = some (match lookE n l with | some v => v | none => z) := by
 have hg := s.row hj
 simp only [lookupX, lookupV, hu, hk, hz, hg, keyBeq, ikBeq_self, cond_true, findK_E]
 rw [← idxE_look l 0]
 cases idxE n l 0 with
 | none => rfl
 | some q => rfl
theorem Sat.update (s : Sat h S) (hj : getA S j = some (mapI id l c)) (hu : P.underlying t = some (.map kt et)) (hk : P.underlying kt = some (.int k)) :
  ∃ h', mapUpdateV P h t (.map id) (.int .i64 n) v = some h' ∧ Sat h' (setA S j (mapI id (putE n v c l) (clkE n c l))) := by
 have hg := s.row hj
 refine ⟨h.put id (some (.map ((putE n v c l).map mkE) (clkE n c l))), ?_, s.put hj⟩
 simp only [mapUpdateV, hu, hk, hg, keyBeq, ikBeq_self, cond_true, findK_E]
 have hl := idxE_look (n := n) l 0
 cases hq : idxE n l 0 with
 | none =>
  rw [hq] at hl
  have hl : lookE n l = none := hl.symm
  simp only [clkE, hl, put_new l hl, List.map_append]
  rfl
 | some q =>
  obtain ⟨i, u⟩ := q
  rw [hq] at hl
  have hl : lookE n l = some u := hl.symm
  simp only [clkE, hl]
  rw [← set_E (v := v) (c := c) l 0 i u hq, Nat.sub_zero]
theorem Sat.delete (s : Sat h S) (hj : getA S j = some (mapI id l c)) (hu : P.underlying t = some (.map kt et)) (hk : P.underlying kt = some (.int k)) :
  ∃ h', deleteV P h t (.map id) (.int .i64 n) = some h' ∧ Sat h' (setA S j (mapI id (delE n l) c)) := by
 have hg := s.row hj
 simp only [deleteV, hu, hk, hg, keyBeq, ikBeq_self, cond_true, findK_E]
 have hl := idxE_look (n := n) l 0
 cases hq : idxE n l 0 with
 | none =>
  rw [hq] at hl
  have hl : lookE n l = none := hl.symm
  refine ⟨h, rfl, ?_⟩
  rw [del_none l hl]
  have : ∀ (S : List Assn) (j : Nat) (A : Assn), getA S j = some A → setA S j A = S := by
   intro S
   induction S with
   | nil => intro j A h; cases h
   | cons B S ih =>
    intro j A h
    cases j with
    | zero => simp only [getA] at h; injection h with h; subst h; rfl
    | succ j => simp only [getA] at h; simp only [setA, ih j A h]
  rw [this S j _ hj]
  exact s
 | some q =>
  obtain ⟨i, u⟩ := q
  refine ⟨_, rfl, ?_⟩
  have e := drop_E l 0 i u hq
  rw [Nat.sub_zero] at e
  rw [e]
  exact s.put hj
theorem Sat.lenM (s : Sat h S) (hj : getA S j = some (mapI id l c)) (hu : P.underlying t = some (.map kt et)) : lenV P h t (.map id) = some (.int .i64 (l.length : Int)) := by
 have hg := s.row hj
 simp only [lenV, hu, hg, List.length_map]
end
section
variable {C : Cfg} {E : List (Nat × V)} {h h' : H} {o : Oper} {S' : List Assn} {x y z : Operand} {a b v u : V} {t : TypeId} {cl : Go.Call}
theorem OpR.upd (hE : ∀ env, EOk env E → evOp C (ev C 0) env h o = (match mapUpdateV C.P h t a b v with | some h' => some (undefV, h') | none => none))
  (ho : ∃ h₁, mapUpdateV C.P h t a b v = some h₁ ∧ Sat h₁ S') : OpR C E h o fun _ h₁ => Sat h₁ S' := by
 obtain ⟨h₁, e1, e2⟩ := ho
 exact ⟨undefV, h₁, e2, fun env he => ⟨0, by rw [hE env he, e1]⟩⟩
theorem OpR.mapUpdate (hop : o.op = .mapUpdate t x y z) (hx : lookO E x = some a) (hy : lookO E y = some b) (hz : lookO E z = some v)
  (ho : ∃ h₁, mapUpdateV C.P h t a b v = some h₁ ∧ Sat h₁ S') : OpR C E h o fun _ h₁ => Sat h₁ S' := by
 refine OpR.upd (t := t) (a := a) (b := b) (v := v) (fun env he => ?_) ho
 simp only [evOp, hop, lookO_ok he hx, lookO_ok he hy, lookO_ok he hz, unitV]
 cases mapUpdateV C.P h t a b v <;> rfl
theorem OpR.builtin {args : List V} {bi : Builtin} {R : V → H → Prop} (hop : o.op = .call cl) (hc : cl.callee = .builtin bi) (ha : lookArgs E cl.args.toList = some args) (ho : ∃ v h₁, builtinV C.P h bi cl.argTypes args = some (v, h₁) ∧ R v h₁) : OpR C E h o R := by
 obtain ⟨v, h₁, e1, e2⟩ := ho
 refine OpR.of ?_ e2
 rw [hop]
 simp only [opE, hc, ha, e1]
theorem OpR.appB {l m : List Nat} {S : List Assn} {X : Assn} (hP : C.P = Tryz.prog) (s : Sat h (bufA v l :: X :: S)) (hX : Ent X (rdB u m)) (hop : o.op = .call cl) (hc : cl.callee = .builtin .append) (hty : cl.argTypes = #[32, 32]) (ha : lookArgs E cl.args.toList = some [v, u])
  (hsz : l.length + m.length ≤ 140737488355328) : OpR C E h o fun v' h₁ => Sat h₁ (bufA v' (l ++ m) :: X :: S) := by
 obtain ⟨v', h₁, e1, e2⟩ := sat_append s hX hsz
 refine OpR.builtin hop hc ha ⟨v', h₁, ?_, e2⟩
 simp only [builtinV, hP, hty, e1]
theorem OpR.make0S {S : List Assn} {c : Nat} (hP : C.P = Tryz.prog) (s : Sat h S) (hop : o.op = .makeSlice t x y) (ht : t = 32) (hx : lookO E x = some (.int .i64 0)) (hy : lookO E y = some (.int .i64 (c : Int))) (hc : c < 1073741824) : OpR C E h o fun v' h₁ => Sat h₁ (bufA v' [] :: S) := by
 obtain ⟨v', h₁, e1, e2⟩ := sat_make0 s hc
 exact OpR.of (by rw [hop, ht, hP]; exact o_mks hx hy e1) e2
theorem OpR.zeros {S : List Assn} {c : Nat} (hP : C.P = Tryz.prog) (s : Sat h S) (hop : o.op = .makeSlice t x y) (ht : t = 32) (hx : lookO E x = some (.int .i64 (c : Int))) (hy : lookO E y = some (.int .i64 (c : Int))) (hc : c < 1073741824) : OpR C E h o fun v' h₁ => Sat h₁ (bufA v' (List.replicate c 0) :: S) := by
 obtain ⟨v', h₁, e1, e2⟩ := sat_zeros s hc
 exact OpR.of (by rw [hop, ht, hP]; exact o_mks hx hy e1) e2
theorem OpR.copyB {l m : List Nat} {S : List Assn} {X : Assn} {p q : Nat} (hP : C.P = Tryz.prog) (s : Sat h (bufA v l :: X :: S)) (hX : Ent X (rdB u m)) (hop : o.op = .call cl) (hc : cl.callee = .builtin .copy) (hty : cl.argTypes = #[32, 32]) (ha : lookArgs E cl.args.toList = some [slR v p q, u])
  (hpq : p < q) (hq : q ≤ l.length) (hm : 1 ≤ m.length) : OpR C E h o fun _ h₁ => Sat h₁ (bufA v (splice l p (m.take (q - p))) :: X :: S) := by
 obtain ⟨h₁, e1, e2⟩ := sat_copy s hX hpq hq hm
 refine OpR.builtin hop hc ha ⟨.int .i64 (min m.length (q - p) : Nat), h₁, ?_, e2⟩
 simp only [builtinV, hP, hty, e1]
theorem OpR.byteS {S : List Assn} {n : Nat} {ps : Array (Nat × Operand)} (hP : C.P = Tryz.prog) (s : Sat h S) (hop : o.op = .buildSlice t 1 ps) (ht : t = 32) (hx : lookParts E ps.toList = some [(0, .int .u8 (n : Int))]) (hn : n < 256) : OpR C E h o fun v' h₁ => Sat h₁ (bufA v' [n] :: S) := by
 obtain ⟨v', h₁, e1, e2⟩ := sat_byte1 s hn
 exact OpR.of (by rw [hop, ht, hP]; exact o_bs hx e1) e2
end
section
variable {α : Type}
def lookL (n : Int) : List (Int × α) → Option α
 | [] => none
 | e :: l => if e.1 = n then some e.2 else lookL n l
def putL (n : Int) (a : α) : List (Int × α) → List (Int × α)
 | [] => [(n, a)]
 | e :: l => if e.1 = n then (n, a) :: l else e :: putL n a l
def delL (n : Int) : List (Int × α) → List (Int × α)
 | [] => []
 | e :: l => if e.1 = n then l else e :: delL n l
theorem lookL_put {n k : Int} {a : α} : ∀ l : List (Int × α), lookL k (putL n a l) = if n = k then some a else lookL k l := by
 intro l
 induction l with
 | nil => simp [putL, lookL]
 | cons e l ih =>
  simp only [putL]
  by_cases he : e.1 = n
  ·rw [if_pos he]
   simp only [lookL]
   by_cases hk : n = k
   ·simp [hk]
   ·have : ¬ e.1 = k := fun h => hk (by rw [← he, h])
    simp [hk, this]
  ·rw [if_neg he]
   simp only [lookL, ih]
   by_cases hk : e.1 = k
   ·have : ¬ n = k := fun h => he (by rw [hk, h])
    simp [hk, this]
   ·simp [hk]
theorem lookL_none {n : Int} : ∀ {l : List (Int × α)}, lookL n l = none ↔ n ∉ l.map (·.1) := by
 intro l
 induction l with
 | nil => simp [lookL]
 | cons e l ih =>
  simp only [lookL, List.map_cons, List.mem_cons, not_or]
  by_cases he : e.1 = n
  ·simp [he]
  ·rw [if_neg he, ih]
   exact ⟨fun h => ⟨fun h2 => he h2.symm, h⟩, fun h => h.2⟩
theorem lookL_del {n k : Int} : ∀ {l : List (Int × α)}, (l.map (·.1)).Nodup → lookL k (delL n l) = if n = k then none else lookL k l := by
 intro l
 induction l with
 | nil => simp [delL, lookL]
 | cons e l ih =>
  intro hn
  simp only [List.map_cons, List.nodup_cons] at hn
  simp only [delL]
  by_cases he : e.1 = n
  ·rw [if_pos he]
   by_cases hk : n = k
   ·rw [if_pos hk, ← hk, lookL_none, ← he]; exact hn.1
   ·have : ¬ e.1 = k := fun h => hk (by rw [← he, h])
    simp [lookL, hk, this]
  ·rw [if_neg he]
   simp only [lookL, ih hn.2]
   by_cases hk : e.1 = k
   ·have : ¬ n = k := fun h => he (by rw [hk, h])
    simp [hk, this]
   ·simp [hk]
theorem mem_putL {n : Int} {a : α} : ∀ {l : List (Int × α)} {k : Int}, k ∈ (putL n a l).map (·.1) ↔ k = n ∨ k ∈ l.map (·.1) := by
 intro l
 induction l with
 | nil => intro k; simp [putL]
 | cons e l ih =>
  intro k
  simp only [putL]
  by_cases he : e.1 = n
  ·rw [if_pos he]; simp [he]
  ·rw [if_neg he]
   simp only [List.map_cons, List.mem_cons, ih]
   constructor
   ·rintro (h | h | h) <;> simp [h]
   ·rintro (h | h | h) <;> simp [h]
theorem nodup_putL {n : Int} {a : α} : ∀ {l : List (Int × α)}, (l.map (·.1)).Nodup → ((putL n a l).map (·.1)).Nodup := by
 intro l
 induction l with
 | nil => simp [putL]
 | cons e l ih =>
  intro hn
  simp only [List.map_cons, List.nodup_cons] at hn
  simp only [putL]
  by_cases he : e.1 = n
  ·rw [if_pos he]; simp only [List.map_cons, List.nodup_cons]; rw [← he]; exact hn
  ·rw [if_neg he]
   simp only [List.map_cons, List.nodup_cons]
   refine ⟨fun h => ?_, ih hn.2⟩
   rcases mem_putL.1 h with h | h
   ·exact he h
   ·exact hn.1 h
theorem mem_delL {n : Int} : ∀ {l : List (Int × α)} {k : Int}, k ∈ (delL n l).map (·.1) → k ∈ l.map (·.1) := by
 intro l
 induction l with
 | nil => intro k h; exact h
 | cons e l ih =>
  intro k h
  simp only [delL] at h
  by_cases he : e.1 = n
  ·rw [if_pos he] at h; simp only [List.map_cons, List.mem_cons]; exact .inr h
  ·rw [if_neg he] at h
   simp only [List.map_cons, List.mem_cons] at h ⊢
   exact h.imp_right ih
theorem nodup_delL {n : Int} : ∀ {l : List (Int × α)}, (l.map (·.1)).Nodup → ((delL n l).map (·.1)).Nodup := by
 intro l
 induction l with
 | nil => simp [delL]
 | cons e l ih =>
  intro hn
  simp only [List.map_cons, List.nodup_cons] at hn
  simp only [delL]
  by_cases he : e.1 = n
  ·rw [if_pos he]; exact hn.2
  ·rw [if_neg he]
   simp only [List.map_cons, List.nodup_cons]
   exact ⟨fun h => hn.1 (mem_delL h), ih hn.2⟩
def entsR (f : V → α → Assn) : Ents → List (Int × α) → Assn
 | [], [] => .pu True
 | e :: l, x :: m => .an (.an (.pu (e.1 = x.1)) (f e.2.1 x.2)) (entsR f l m)
 | _, _ => .pu False
variable {f : V → α → Assn} {a b : PM}
theorem entsR_keys : ∀ {l : Ents} {m : List (Int × α)}, (entsR f l m).p a b → l.map (·.1) = m.map (·.1) := by
 intro l
 induction l with
 | nil => intro m h; cases m with
  | nil => rfl
  | cons x m => exact h.elim
 | cons e l ih => intro m h; cases m with
  | nil => exact h.elim
  | cons x m => simp only [List.map_cons]; rw [h.1.1, ih h.2]
theorem entsR_look {n : Int} : ∀ {l : Ents} {m : List (Int × α)}, (entsR f l m).p a b → (lookE n l = none ∧ lookL n m = none) ∨ ∃ u x, lookE n l = some u ∧ lookL n m = some x ∧ (f u x).p a b := by
 intro l
 induction l with
 | nil => intro m h; cases m with
  | nil => exact .inl ⟨rfl, rfl⟩
  | cons x m => exact h.elim
 | cons e l ih => intro m h; cases m with
  | nil => exact h.elim
  | cons x m =>
   obtain ⟨⟨h1, h2⟩, h3⟩ := h
   have h1 : e.1 = x.1 := h1
   simp only [lookE, lookL, ← h1]
   by_cases he : e.1 = n
   ·rw [if_pos he, if_pos he]; exact .inr ⟨_, _, rfl, rfl, h2⟩
   ·rw [if_neg he, if_neg he]; exact ih h3
theorem entsR_put {n : Int} {u : V} {x : α} {c : Nat} (hu : (f u x).p a b) : ∀ {l : Ents} {m : List (Int × α)}, (entsR f l m).p a b → (entsR f (putE n u c l) (putL n x m)).p a b := by
 intro l
 induction l with
 | nil => intro m h; cases m with
  | nil => exact ⟨⟨rfl, hu⟩, trivial⟩
  | cons x m => exact h.elim
 | cons e l ih => intro m h; cases m with
  | nil => exact h.elim
  | cons y m =>
   obtain ⟨⟨h1, h2⟩, h3⟩ := h
   have h1 : e.1 = y.1 := h1
   simp only [putE, putL, ← h1]
   by_cases he : e.1 = n
   ·rw [if_pos he, if_pos he]; exact ⟨⟨he, hu⟩, h3⟩
   ·rw [if_neg he, if_neg he]; exact ⟨⟨h1, h2⟩, ih h3⟩
theorem entsR_del {n : Int} : ∀ {l : Ents} {m : List (Int × α)}, (entsR f l m).p a b → (entsR f (delE n l) (delL n m)).p a b := by
 intro l
 induction l with
 | nil => intro m h; cases m with
  | nil => trivial
  | cons x m => exact h.elim
 | cons e l ih => intro m h; cases m with
  | nil => exact h.elim
  | cons y m =>
   obtain ⟨⟨h1, h2⟩, h3⟩ := h
   have h1 : e.1 = y.1 := h1
   simp only [delE, delL, ← h1]
   by_cases he : e.1 = n
   ·rw [if_pos he, if_pos he]; exact h3
   ·rw [if_neg he, if_neg he]; exact ⟨⟨h1, h2⟩, ih h3⟩
theorem Pers.ents (hf : ∀ u x, Pers (f u x)) : ∀ (l : Ents) (m : List (Int × α)), Pers (entsR f l m) := by
 intro l
 induction l with
 | nil => intro m; cases m <;> exact Pers.pu _
 | cons e l ih => intro m; cases m with
  | nil => exact Pers.pu _
  | cons x m => exact Pers.an (Pers.an (Pers.pu _) (hf _ _)) (ih m)
def bornR (c : Nat) : Nat → Ents → Prop
 | _, [] => True
 | b, e :: l => b ≤ e.2.2 ∧ e.2.2 < c ∧ bornR c (e.2.2 + 1) l
theorem bornR_less {c : Nat} : ∀ {l : Ents} {b b' : Nat}, b' ≤ b → bornR c b l → bornR c b' l := by
 intro l
 cases l with
 | nil => intro b b' _ _; trivial
 | cons e l => intro b b' h hb; exact ⟨Nat.le_trans h hb.1, hb.2⟩
theorem bornR_put {c n : Nat} {k : Int} {u : V} (hn : n = c) : ∀ {l : Ents} {b : Nat}, b ≤ c → bornR c b l → bornR (clkE k c l) b (putE k u n l) := by
 subst hn
 intro l
 induction l with
 | nil => intro b hb _; simp only [putE, clkE, lookE]; exact ⟨hb, Nat.lt_succ_self _, trivial⟩
 | cons e l ih =>
  intro b hb h
  have ih' := ih (b := e.2.2 + 1) (by have := h.2.1; omega) h.2.2
  simp only [clkE] at ih'
  by_cases he : e.1 = k
  ·simp only [putE, clkE, lookE, if_pos he]; exact h
  ·simp only [putE, clkE, lookE, if_neg he]
   refine ⟨h.1, ?_, ih'⟩
   have := h.2.1
   split <;> omega
theorem bornR_del {c : Nat} {k : Int} : ∀ {l : Ents} {b : Nat}, bornR c b l → bornR c b (delE k l) := by
 intro l
 induction l with
 | nil => intro b h; exact h
 | cons e l ih =>
  intro b h
  simp only [delE]
  by_cases he : e.1 = k
  ·rw [if_pos he]; exact bornR_less (by have := h.1; omega) h.2.2
  ·rw [if_neg he]; exact ⟨h.1, h.2.1, ih h.2.2⟩
def mapV (f : V → α → Assn) (v : V) (m : List (Int × α)) : Assn :=
 xs fun id : Nat => xs fun l : Ents => xs fun c : Nat => star [.pu (v = .map id ∧ bornR c 0 l ∧ (m.map (·.1)).Nodup), mapI id l c, entsR f l m]
section
variable {P : Program} {h h' : H} {S : List Assn} {v u z : V} {t kt et : TypeId} {k : IntKind} {m : List (Int × α)} {n : Int} {x : α}
theorem mapV_open : Sat h (mapV f v m :: S) ↔ ∃ id l c, v = .map id ∧ bornR c 0 l ∧ (m.map (·.1)).Nodup ∧ Sat h (mapI id l c :: entsR f l m :: S) := by
 simp only [mapV, Sat_xs, Sat_star, List.cons_append, List.nil_append, Sat_pu, and_assoc, mapI]
theorem mapV_look (hf : ∀ u x, Pers (f u x)) (s : Sat h (mapV f v m :: S)) (hu : P.underlying t = some (.map kt et)) (hk : P.underlying kt = some (.int k)) (hz : zeroT P et = some z) :
  (lookL n m = none ∧ lookupX P h t v (.int .i64 n) true = some (.tup [z, .bool false]) ∧ lookupX P h t v (.int .i64 n) false = some z) ∨
  ∃ u x, lookL n m = some x ∧ lookupX P h t v (.int .i64 n) true = some (.tup [u, .bool true]) ∧ lookupX P h t v (.int .i64 n) false = some u ∧ Sat h (f u x :: mapV f v m :: S) := by
 obtain ⟨id, l, c, rfl, hb, hn, s1⟩ := mapV_open.1 s
 have e2 := s1.look2 (n := n) (j := 0) rfl hu hk hz
 have e1 := s1.look1 (n := n) (j := 0) rfl hu hk hz
 obtain ⟨a, b, q1, q2, q3⟩ := s1.at (k := 1) rfl
 rcases entsR_look (n := n) q3 with ⟨g1, g2⟩ | ⟨u, x, g1, g2, g3⟩
 ·rw [g1] at e1 e2; exact .inl ⟨g2, e2, e1⟩
 ·rw [g1] at e1 e2
  refine .inr ⟨u, x, g2, e2, e1, ?_⟩
  have s2 : Sat h (entsR f l m :: mapI id l c :: S) := s1.bring [1]
  have s3 := s2.dup (Pers.ents hf l m)
  have s4 : Sat h (f u x :: entsR f l m :: mapI id l c :: S) := s3.ent fun a' b' h' => by
   rcases entsR_look (n := n) h' with ⟨g1', _⟩ | ⟨u', x', g1', g2', g3'⟩
   ·rw [g1] at g1'; cases g1'
   ·rw [g1] at g1'; rw [g2] at g2'; injection g1' with g1'; injection g2' with g2'; subst g1'; subst g2'; exact g3'
  have s5 : Sat h (mapI id l c :: entsR f l m :: f u x :: S) := s4.bring [2, 1]
  exact (mapV_open.2 ⟨id, l, c, rfl, hb, hn, s5⟩ : Sat h (mapV f (.map id) m :: f u x :: S)).bring [1]
theorem mapV_put (hf : ∀ u x, Pers (f u x)) (s : Sat h (f u x :: mapV f v m :: S)) (hu : P.underlying t = some (.map kt et)) (hk : P.underlying kt = some (.int k)) :
  ∃ h', mapUpdateV P h t v (.int .i64 n) u = some h' ∧ Sat h' (mapV f v (putL n x m) :: S) := by
 have s0 : Sat h (mapV f v m :: f u x :: S) := s.bring [1]
 obtain ⟨id, l, c, rfl, hb, hn, s1⟩ := mapV_open.1 s0
 obtain ⟨h', e1, e2⟩ := s1.update (n := n) (v := u) (j := 0) rfl hu hk
 refine ⟨h', e1, ?_⟩
 have e2 : Sat h' (mapI id (putE n u c l) (clkE n c l) :: entsR f l m :: f u x :: S) := e2
 have e3 : Sat h' (f u x :: entsR f l m :: mapI id (putE n u c l) (clkE n c l) :: S) := e2.bring [2, 1]
 have e4 : Sat h' (entsR f (putE n u c l) (putL n x m) :: mapI id (putE n u c l) (clkE n c l) :: S) := e3.map fun a b h => by
  obtain ⟨p1, p2, d1, d2, d3, d4, p3, p4, d5, d6, d7, d8, d9⟩ := h
  exact ⟨fun _ => none, p4, fun _ => .inl rfl, fun _ _ h => (by cases h), PM.le_trans d7 d3, entsR_put (hf _ _ _ _ d4) (Pers.ents hf _ _ _ _ d8), d9⟩
 exact mapV_open.2 ⟨id, _, _, rfl, bornR_put rfl (Nat.zero_le _) hb, nodup_putL hn, e4.bring [1]⟩
theorem mapV_del (s : Sat h (mapV f v m :: S)) (hu : P.underlying t = some (.map kt et)) (hk : P.underlying kt = some (.int k)) :
  ∃ h', deleteV P h t v (.int .i64 n) = some h' ∧ Sat h' (mapV f v (delL n m) :: S) := by
 obtain ⟨id, l, c, rfl, hb, hn, s1⟩ := mapV_open.1 s
 obtain ⟨h', e1, e2⟩ := s1.delete (n := n) (j := 0) rfl hu hk
 refine ⟨h', e1, ?_⟩
 have e2 : Sat h' (mapI id (delE n l) c :: entsR f l m :: S) := e2
 have e3 : Sat h' (entsR f l m :: mapI id (delE n l) c :: S) := e2.bring [1]
 have e4 : Sat h' (entsR f (delE n l) (delL n m) :: mapI id (delE n l) c :: S) := e3.ent fun a b h => entsR_del h
 exact mapV_open.2 ⟨id, _, _, rfl, bornR_del hb, nodup_delL hn, e4.bring [1]⟩
theorem mapV_len (s : Sat h (mapV f v m :: S)) (hu : P.underlying t = some (.map kt et)) : lenV P h t v = some (.int .i64 (m.length : Int)) := by
 obtain ⟨id, l, c, rfl, hb, hn, s1⟩ := mapV_open.1 s
 have e := s1.lenM (j := 0) rfl hu
 obtain ⟨a, b, q1, q2, q3⟩ := s1.at (k := 1) rfl
 have := congrArg List.length (entsR_keys q3)
 simp only [List.length_map] at this
 rw [this] at e
 exact e
theorem mapV_new {id : Nat} (s : Sat h (pt id (.map [] 0) :: S)) : Sat h (mapV f (.map id) [] :: S) := by
 have s1 : Sat h (entsR f [] [] :: pt id (.map [] 0) :: S) := s.addPu trivial
 exact mapV_open.2 ⟨id, [], 0, rfl, trivial, by simp, s1.bring [1]⟩
theorem mapV_v {j : Nat} (s : Sat h S) (hj : getA S j = some (mapV f v m)) : ∃ id, v = .map id := by
 have s1 := s.take j hj
 obtain ⟨id, l, c, rfl, _⟩ := mapV_open.1 s1
 exact ⟨id, rfl⟩
end
end
theorem OpR.delete {C : Cfg} {E : List (Nat × V)} {h : H} {o : Oper} {S' : List Assn} {cl : Go.Call} {t u : TypeId} {m k : V} (hop : o.op = .call cl) (hc : cl.callee = .builtin .delete) (hty : cl.argTypes = #[t, u]) (ha : lookArgs E cl.args.toList = some [m, k])
  (ho : ∃ h₁, deleteV C.P h t m k = some h₁ ∧ Sat h₁ S') : OpR C E h o fun _ h₁ => Sat h₁ S' := by
 obtain ⟨h₁, e1, e2⟩ := ho
 refine OpR.builtin hop hc ha ⟨.tup [], h₁, ?_, e2⟩
 simp only [builtinV, hty, e1, Option.map_some]
end Go.Proofs.YtconhghphklfjaaGreat.Am
