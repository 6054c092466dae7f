/- The abstract machine: comparisons, conversions, slices, fields, indexes, maps that are read. -/
import Derived.Test.YtdllelamfamfcaaGreatDoorAmPure
namespace Go.Proofs.YtdllelamfamfcaaGreatDoor.Am
open Go

section
variable {P : Program} {c : Ctx} {σ : H} {w : World}

/-! ### Comparisons -/
theorem run_part_int {e : TypeId} {k : IntKind} (he : P.underlying e = some (.int k)) (X : Array Value) (i : Nat) (v : Value) (hv : X[i]? = some v) (w : World) :
    (part e X i).run P w = .ok v w := by
  simp [part, isAgg, run_underlying he, hv]

theorem intsBeq_drop {k : IntKind} {xs ys : List V} {r : Bool} (h : intsBeq k xs ys = some r) :
    (∀ x ∈ xs, ∃ n, x = .int k n) ∧ (∀ y ∈ ys, ∃ n, y = .int k n) ∧ xs.length = ys.length := by
  induction xs generalizing ys r with
  | nil => cases ys <;> simp_all [intsBeq]
  | cons x xs ih =>
    cases ys with
    | nil => cases x <;> simp [intsBeq] at h
    | cons y ys =>
      cases x <;> cases y <;> simp only [intsBeq, reduceCtorEq] at h
      rename_i j a j' b
      cases hq : (ikBeq j k && ikBeq j' k) with
      | false => simp [hq] at h
      | true =>
        simp only [hq, cond_true] at h
        simp only [Bool.and_eq_true] at hq
        have h1 := (ikBeq_eq hq.1).symm
        have h2 := (ikBeq_eq hq.2).symm
        subst h1; subst h2
        have : ∃ r', intsBeq k xs ys = some r' := by
          cases hb : intBeq a b with
          | true => rw [hb] at h; exact ⟨r, h⟩
          | false =>
            rw [hb] at h
            cases hx : intsBeq k xs ys with
            | none => simp [hx] at h
            | some r' => exact ⟨r', rfl⟩
        obtain ⟨r', hr'⟩ := this
        obtain ⟨i1, i2, i3⟩ := ih hr'
        refine ⟨?_, ?_, by simp [i3]⟩
        · intro x hx
          rcases List.mem_cons.1 hx with rfl | hx
          · exact ⟨a, rfl⟩
          · exact i1 x hx
        · intro x hx
          rcases List.mem_cons.1 hx with rfl | hx
          · exact ⟨b, rfl⟩
          · exact i2 x hx

theorem eq_loop {e : TypeId} {k : IntKind} (he : P.underlying e = some (.int k)) (d : Nat) (w : World) : ∀ (xs ys : List V) (pre pre' : List V) (r : Bool), intsBeq k xs ys = some r →
    pre.length = pre'.length →
    (forIn (List.range' pre.length xs.length) ((none, ()) : Option Bool × PUnit) (fun i (_ : Option Bool × PUnit) => do
      let a ← part e ((pre ++ xs).map (conc c)).toArray (i * 1)
      let b ← part e ((pre' ++ ys).map (conc c)).toArray (i * 1)
      let q ← Op.equalIn (d + 1) e a b
      if (!q) = true then pure (ForInStep.done (some false, ())) else pure (ForInStep.yield (none, ()))) : Sem (Option Bool × PUnit)).run P w =
      .ok (if r then (none, ()) else (some false, ())) w := by
  intro xs
  induction xs with
  | nil =>
    intro ys pre pre' r h hp
    cases ys with
    | nil => simp [intsBeq] at h; subst h; simp
    | cons y ys => simp [intsBeq] at h
  | cons x xs ih =>
    intro ys pre pre' r h hp
    obtain ⟨h1, h2, h3⟩ := intsBeq_drop h
    cases ys with
    | nil => simp at h3
    | cons y ys =>
      obtain ⟨a, rfl⟩ := h1 x (by simp)
      obtain ⟨b, rfl⟩ := h2 y (by simp)
      have g1 : ((pre ++ V.int k a :: xs).map (conc c)).toArray[pre.length * 1]? = some (.int k a) := by simp [conc]
      have g2 : ((pre' ++ V.int k b :: ys).map (conc c)).toArray[pre.length * 1]? = some (.int k b) := by rw [hp]; simp [conc]
      have g3 : (Op.equalIn (d + 1) e (.int k a) (.int k b)).run P w = .ok (a == b) w := by simp [Op.equalIn, run_underlying he]
      simp only [List.length_cons, List.range'_succ, List.forIn_cons, Sem.run_bind, run_part_int he _ _ _ g1, run_part_int he _ _ _ g2, Result.andThen_ok, g3]
      have hk : ikBeq k k = true := by cases k <;> rfl
      simp only [intsBeq, hk, Bool.and_self, cond_true, intBeq_eq] at h
      by_cases hab : a = b
      · have hab' : (a == b) = true := by simpa using hab
        simp only [hab', cond_true] at h
        simp only [hab', Bool.not_true, Bool.false_eq_true, if_false, Sem.run_pure, Result.andThen_ok]
        have := ih ys (pre ++ [.int k a]) (pre' ++ [.int k b]) r h (by simp [hp])
        simpa using this
      · have hab' : (a == b) = false := by simpa using hab
        simp only [hab', cond_false] at h
        simp only [hab', Bool.not_false, if_true, Sem.run_pure, Result.andThen_ok]
        cases hx : intsBeq k xs ys with
        | none => simp [hx] at h
        | some r' => simp [hx] at h; subst h; simp

theorem eqArr_in (d : Nat) {t e : TypeId} {n : Nat} {k : IntKind} {xs ys : List V} {r : Bool} (ht : P.underlying t = some (.array n e)) (he : P.underlying e = some (.int k))
    (hs : sizeT P e = some 1) (hn : xs.length = n) (h : intsBeq k xs ys = some r) (w : World) :
    (Op.equalIn (d + 1 + 1) t (conc c (.agg xs)) (conc c (.agg ys))).run P w = .ok r w := by
  have := eq_loop (c := c) he d w xs ys [] [] r h rfl
  generalize d + 1 = D at this ⊢
  simp only [conc, concL_eq, Op.equalIn, Sem.run_bind, run_underlying ht, Result.andThen_ok, sizeT_run hs]
  rw [Std.Legacy.Range.forIn_eq_forIn_range']
  simp only [List.length_nil, List.nil_append] at this
  simp only [Std.Legacy.Range.size, Nat.sub_zero, Nat.add_sub_cancel, Nat.div_one, ← hn]
  rw [this]
  cases r <;> simp

theorem eqArr_ok {t : TypeId} {xs ys : List V} {r : Bool} (h : eqArr P t xs ys = some r) (w : World) :
    (Op.equal t (conc c (.agg xs)) (conc c (.agg ys))).run P w = .ok r w ∧ P.eqGuardType P.depth t = false := by
  unfold eqArr at h
  split at h
  · rename_i n e ht
    split at h
    · rename_i k he
      split at h
      · rename_i s hs
        cases hq : (Nat.beq s 1 && Nat.beq xs.length n && Nat.beq ys.length n) with
        | false => simp [hq] at h
        | true =>
          simp only [hq, cond_true] at h
          simp only [Bool.and_eq_true] at hq
          have q1 := beq_iff.1 hq.1.1
          have q2 := beq_iff.1 hq.1.2
          have q3 := beq_iff.1 hq.2
          subst q1
          constructor
          · exact eqArr_in 9998 ht he hs q2 h w
          · have hd : P.depth = (2 * (P.types.size + Made.depth)) + 1 + 1 := by simp [Program.depth]
            rw [hd]
            simp [Program.eqGuardType, ht, he]
      · simp at h
    · simp at h
  · simp at h

theorem adr_inj {id id' off off' : Nat} {o o' : Obj} (h : Rel c σ w) (h1 : σ.tr.get id = some o) (h2 : σ.tr.get id' = some o') :
    adr c id off = adr c id' off' ↔ id = id' ∧ off = off' := by
  constructor
  · intro e
    simp only [adr, Addr.mk.injEq] at e
    have := h.inj id id' _ _ h1 h2 e.1
    subst this
    exact ⟨rfl, by omega⟩
  · rintro ⟨rfl, rfl⟩; rfl

theorem run_equalIn_ptr (d : Nat) {t e : TypeId} {k : Nat} (ht : P.underlying t = some (.pointer e)) (hk : sizeT P e = some k) (h1 : k ≠ 0) (a b : Addr) (w : World) :
    (Op.equalIn (d + 1) t (.pointer (some a)) (.pointer (some b))).run P w = (sameAddr a b).run P w := by
  simp [Op.equalIn, run_underlying ht, sizeT_run hk, h1]

theorem sl_shape (c : Ctx) (id off len : Nat) (cap : Cap) : ∃ a n, conc c (.sl id off len cap) = .slice (some a) len n := by
  cases cap <;> simp only [conc] <;> exact ⟨_, _, rfl⟩

theorem eqV_in (d : Nat) {t : TypeId} {x y : V} {r : Bool} (h : Rel c σ w) (hr : eqV P σ t x y = some r) :
    (Op.equalIn (d + 1) t (conc c x) (conc c y)).run P w = .ok r w ∧
    (∀ op ox oy, eqGuard op t ox oy (conc c x) (conc c y) = pure ()) ∧
    (binOp .eql t (conc c x) (conc c y) = (do pure (.bool (← Op.equal t (conc c x) (conc c y)))) ∧
      binOp .neq t (conc c x) (conc c y) = (do pure (.bool (!(← Op.equal t (conc c x) (conc c y)))))) := by
  unfold eqV at hr
  generalize ht : P.underlying t = du at hr
  split at hr
  case h_1 =>
    simp only [Option.some.injEq] at hr; subst hr
    exact ⟨by simp [Op.equalIn, run_underlying ht, conc], fun op ox oy => by simp only [conc]; exact eqGuard_at_bool .., ⟨by simp [binOp, conc], by simp [binOp, conc]⟩⟩
  case h_2 =>
    simp only [Option.some.injEq] at hr; subst hr
    exact ⟨by simp [Op.equalIn, run_underlying ht, conc], fun op ox oy => by simp only [conc]; exact eqGuard_at_pointer .., ⟨by simp [binOp, conc], by simp [binOp, conc]⟩⟩
  case h_3 =>
    simp only [Option.some.injEq] at hr; subst hr
    exact ⟨by simp [Op.equalIn, run_underlying ht, conc], fun op ox oy => by simp only [conc]; exact eqGuard_at_pointer .., ⟨by simp [binOp, conc], by simp [binOp, conc]⟩⟩
  case h_4 =>
    simp only [Option.some.injEq] at hr; subst hr
    exact ⟨by simp [Op.equalIn, run_underlying ht, conc], fun op ox oy => by simp only [conc]; exact eqGuard_at_pointer .., ⟨by simp [binOp, conc], by simp [binOp, conc]⟩⟩
  case h_5 _ _ _ i o j o' =>
    refine ⟨?_, fun op ox oy => by simp only [conc]; exact eqGuard_at_pointer .., ⟨by simp [binOp, conc], by simp [binOp, conc]⟩⟩
    split at hr
    · rename_i k hk
      cases hq : Nat.ble 1 k with
      | false => simp [hq] at hr
      | true =>
        have hk1 := ble_iff.1 hq
        simp only [hq, cond_true] at hr
        split at hr
        · rename_i n cs m cs' g1 g2
          cases hq2 : (Nat.ble 1 n && Nat.ble 1 m) with
          | false => simp [hq2] at hr
          | true =>
            simp only [hq2, cond_true, Option.some.injEq] at hr
            subst hr
            have e1 : conc c (.ptr i o) = .pointer (some (adr c i o)) := by simp [conc, adr]
            have e2 : conc c (.ptr j o') = .pointer (some (adr c j o')) := by simp [conc, adr]
            rw [e1, e2, run_equalIn_ptr d ht hk (by omega)]
            obtain ⟨_, _, C, el, fz, hb, _, _, hfz⟩ := h.obj i _ g1
            obtain ⟨_, _, C', el', fz', hb', _, _, hfz'⟩ := h.obj j _ g2
            simp only [FzOk] at hfz hfz'
            subst hfz; subst hfz'
            have iff := adr_inj (off := o) (off' := o') h g1 g2
            by_cases hij : i = j ∧ o = o'
            · obtain ⟨rfl, rfl⟩ := hij
              rw [run_sameAddr_same]; simp
            · rw [run_sameAddr_other w (fun e => hij (iff.1 e)) hb hb']
              congr 1
              symm
              rw [Bool.eq_false_iff]
              simp only [ne_eq, Bool.and_eq_true, beq_iff]
              exact hij
        · simp at hr
    · simp at hr
  case h_6 =>
    simp only [Option.some.injEq] at hr; subst hr
    exact ⟨by simp [Op.equalIn, run_underlying ht, conc], fun op ox oy => by simp only [conc]; exact eqGuard_nil_iface .., ⟨by simp [binOp, conc], by simp [binOp, conc]⟩⟩
  case h_7 =>
    simp only [Option.some.injEq] at hr; subst hr
    exact ⟨by simp [Op.equalIn, run_underlying ht, conc], fun op ox oy => by simp only [conc]; exact eqGuard_at_iface .., ⟨by simp [binOp, conc], by simp [binOp, conc]⟩⟩
  case h_8 =>
    simp only [Option.some.injEq] at hr; subst hr
    exact ⟨by simp [Op.equalIn, run_underlying ht, conc], fun op ox oy => by simp only [conc]; exact eqGuard_at_slice .., ⟨by simp [binOp, conc], by simp [binOp, conc]⟩⟩
  case h_9 _ _ i o n cap =>
    obtain ⟨a, m, hs⟩ := sl_shape c i o n cap
    simp only [Option.some.injEq] at hr; subst hr
    rw [hs]
    exact ⟨by simp [Op.equalIn, run_underlying ht, conc], fun op ox oy => by simp only [conc]; exact eqGuard_at_slice .., ⟨by simp [binOp, conc], by simp [binOp, conc]⟩⟩
  case h_10 _ _ i o n cap =>
    obtain ⟨a, m, hs⟩ := sl_shape c i o n cap
    simp only [Option.some.injEq] at hr; subst hr
    rw [hs]
    exact ⟨by simp [Op.equalIn, run_underlying ht, conc], fun op ox oy => by exact eqGuard_at_slice .., ⟨by simp [binOp, conc], by simp [binOp, conc]⟩⟩
  case h_11 =>
    simp only [Option.some.injEq] at hr; subst hr
    exact ⟨by simp [Op.equalIn, run_underlying ht, conc], fun op ox oy => by simp only [conc]; exact eqGuard_at_map .., ⟨by simp [binOp, conc], by simp [binOp, conc]⟩⟩
  case h_12 =>
    simp only [Option.some.injEq] at hr; subst hr
    exact ⟨by simp [Op.equalIn, run_underlying ht, conc], fun op ox oy => by simp only [conc]; exact eqGuard_at_map .., ⟨by simp [binOp, conc], by simp [binOp, conc]⟩⟩
  case h_13 =>
    simp only [Option.some.injEq] at hr; subst hr
    exact ⟨by simp [Op.equalIn, run_underlying ht, conc], fun op ox oy => by simp only [conc]; exact eqGuard_at_map .., ⟨by simp [binOp, conc], by simp [binOp, conc]⟩⟩
  case h_14 => simp at hr

theorem eqV_ok {t : TypeId} {x y : V} {r : Bool} (h : Rel c σ w) (hr : eqV P σ t x y = some r) (ox oy : Operand) :
    ((do eqGuard .eql t ox oy (conc c x) (conc c y); binOp .eql t (conc c x) (conc c y)) : Sem Value).run P w = .ok (.bool r) w ∧
    ((do eqGuard .neq t ox oy (conc c x) (conc c y); binOp .neq t (conc c x) (conc c y)) : Sem Value).run P w = .ok (.bool (!r)) w := by
  obtain ⟨h1, h2, h3⟩ := eqV_in 9999 h hr
  have h1' : (Op.equal t (conc c x) (conc c y)).run P w = .ok r w := h1
  rw [h2, h2, h3.1, h3.2]
  simp [h1']

theorem isNilConst_eq {x : Operand} (h : isNilConst x = true) : x = .const .nilIface := by
  unfold isNilConst at h
  split at h
  · rfl
  · simp at h

theorem run_equal_nil {t : TypeId} {ms : Array (String × TypeId)} (ht : P.underlying t = some (.interface ms)) (w : World) : (Op.equal t .nilIface .nilIface).run P w = .ok true w := by
  have : (Op.equalIn (9999 + 1) t .nilIface .nilIface).run P w = .ok true w := by
    generalize 9999 = d
    simp [Op.equalIn, run_underlying ht]
  exact this

theorem binV_ok {op : BinOp} {t : TypeId} {ox oy : Operand} {x y v : V} (h : Rel c σ w) (hr : binV P σ op t ox oy x y = some v) (hx : wf c x) (hy : wf c y) :
    ((do eqGuard op t ox oy (conc c x) (conc c y); binOp op t (conc c x) (conc c y)) : Sem Value).run P w = .ok (conc c v) w ∧ wf c v := by
  unfold binV at hr
  split at hr
  · rename_i k a j b
    have g : ∀ op, eqGuard op t ox oy (conc c (.int k a)) (conc c (.int j b)) = pure () := fun op => by simp only [conc]; exact eqGuard_at_int ..
    rw [g, pure_bind]
    simp only [conc]
    split at hr
    · exact shiftV_ok hr t w (.inl rfl)
    · exact shiftV_ok hr t w (.inr rfl)
    · rename_i n1 n2
      cases hq : ikBeq k j with
      | false => simp [hq] at hr
      | true =>
        have := ikBeq_eq hq
        subst this
        simp only [hq, cond_true] at hr
        exact intV_ok hr n1 n2 t w
  · rename_i a b
    have g : ∀ op, eqGuard op t ox oy (conc c (.str a)) (conc c (.str b)) = pure () := fun op => by simp only [conc]; exact eqGuard_at_string ..
    rw [g, pure_bind]
    exact strV_ok hr (by simpa [wf] using hx) (by simpa [wf] using hy) t w
  · rename_i j a k b
    cases hq : fkBeq j k with
    | false => rw [hq] at hr; cases hr
    | true =>
      have hjk : j = k := by cases j <;> cases k <;> first | rfl | (simp [fkBeq] at hq)
      subst hjk
      rw [hq, cond_true] at hr
      have g : ∀ op, eqGuard op t ox oy (conc c (.flt j a)) (conc c (.flt j b)) = pure () := fun op => by simp only [conc]; unfold eqGuard; split <;> rfl
      rw [g, pure_bind]
      unfold fltV at hr
      split at hr <;> first
        | (simp only [Option.some.injEq] at hr; subst hr; exact ⟨by simp [conc, binOp, Op.floatCmp], by simp [wf]⟩)
        | cases hr
  · rename_i a b
    split at hr
    · cases he : eqArr P t a b with
      | none => simp [he] at hr
      | some r =>
        simp [he] at hr
        subst hr
        obtain ⟨e1, e2⟩ := eqArr_ok (c := c) he w
        refine ⟨?_, by simp [wf]⟩
        simp only [conc] at e1 ⊢
        simp [eqGuard, e2, binOp, e1]
    · cases he : eqArr P t a b with
      | none => simp [he] at hr
      | some r =>
        simp [he] at hr
        subst hr
        obtain ⟨e1, e2⟩ := eqArr_ok (c := c) he w
        refine ⟨?_, by simp [wf]⟩
        simp only [conc] at e1 ⊢
        simp [eqGuard, e2, binOp, e1]
    · simp at hr
  · cases hq : (isNilConst ox || isNilConst oy) with
    | false => simp [hq] at hr
    | true =>
      simp only [hq, cond_true] at hr
      have g : ∀ op, eqGuard op t ox oy .nilIface .nilIface = pure () := by
        intro op
        rcases Bool.or_eq_true _ _ ▸ hq with q | q
        · rw [isNilConst_eq q]; exact eqGuard_nil_constL ..
        · rw [isNilConst_eq q]; exact eqGuard_nil_constR ..
      simp only [conc]
      rw [g, pure_bind]
      split at hr
      · rename_i ms hu
        simp only [Option.some.injEq] at hr; subst hr
        exact ⟨by simp [binOp, run_equal_nil hu, conc], by simp [wf]⟩
      · rename_i ms hu
        simp only [Option.some.injEq] at hr; subst hr
        exact ⟨by simp [binOp, run_equal_nil hu, conc], by simp [wf]⟩
      · simp at hr
  · split at hr
    · cases he : eqV P σ t x y with
      | none => simp [he] at hr
      | some r =>
        simp [he] at hr
        subst hr
        exact ⟨by rw [(eqV_ok h he ox oy).1]; simp [conc], by simp [wf]⟩
    · cases he : eqV P σ t x y with
      | none => simp [he] at hr
      | some r =>
        simp [he] at hr
        subst hr
        exact ⟨by rw [(eqV_ok h he ox oy).2]; simp [conc], by simp [wf]⟩
    · simp at hr

theorem unV_ok {op : UnOp} {x v : V} (hr : unV op x = some v) (w : World) : (Op.unary op (conc c x)).run P w = .ok (conc c v) w ∧ wf c v := by
  unfold unV at hr
  split at hr
  · split at hr
    · simp only [Option.some.injEq] at hr; subst hr
      exact ⟨by simp [Op.unary, conc], by simp [wf]⟩
    · simp at hr
  · split at hr
    · simp only [Option.some.injEq] at hr; subst hr
      exact ⟨by simp [Op.unary, Op.intArith, conc], by simp [wf]⟩
    · rename_i k n
      have := bitsV_ok (P := P) (c := c) hr w
      rw [cond_eq] at this
      simpa [Op.unary, conc] using this
    · simp at hr
  · simp at hr
end

end Go.Proofs.YtdllelamfamfcaaGreatDoor.Am
