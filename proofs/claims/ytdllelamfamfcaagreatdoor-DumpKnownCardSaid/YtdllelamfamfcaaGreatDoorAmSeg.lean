/- The abstract machine: a run cut into pieces, what is not needed any more left out between them. -/
import Derived.Test.YtdllelamfamfcaaGreatDoorAmLaw
namespace Go.Proofs.YtdllelamfamfcaaGreatDoor.Am
open Go

/-- A heap that tells less. -/
def Sub (h' h : H) : Prop := h'.next = h.next ∧ ∀ id o, T.get h'.tr id = some o → T.get h.tr id = some o

theorem Rel.sub {c : Ctx} {σ σ' : H} {w : World} (h : Rel c σ w) (hs : Sub σ' σ) : Rel c σ' w :=
  ⟨hs.1.trans h.next, fun id o ho => h.live id o (hs.2 id o ho), h.blk, h.zz, fun i j o o' hi hj he => h.inj i j o o' (hs.2 i o hi) (hs.2 j o' hj) he,
    fun id o ho => h.obj id o (hs.2 id o ho), fun id cs st ho => h.one id cs st (hs.2 id _ ho)⟩

noncomputable def gcT (t : T Obj) : List Nat → T Obj
  | [] => .lf
  | id :: l => (gcT t l).set id (T.get t id)

theorem gcT_get (t : T Obj) : ∀ (l : List Nat) (id : Nat) (o : Obj), T.get (gcT t l) id = some o → T.get t id = some o := by
  intro l
  induction l with
  | nil => intro id o h; simp [gcT, T.get_lf] at h
  | cons j l ih =>
    intro id o h
    simp only [gcT, get_set] at h
    by_cases hj : id = j
    · rw [if_pos hj] at h; subst hj; exact h
    · rw [if_neg hj] at h; exact ih id o h

noncomputable def gc (l : List Nat) (h : H) : H := ⟨h.next, gcT h.tr l⟩
theorem gc_sub (l : List Nat) (h : H) : Sub (gc l h) h := ⟨rfl, fun id o ho => gcT_get h.tr l id o ho⟩

/-- What a piece of code does, from the one state to the other. -/
def SegOk (P : Program) (code : Code) (s : St) (ex : Ex) (s' : St) : Prop := ∀ (c : Ctx) (a : Act) (w : World), Rel c s.h w → EnvOk c s.env s.ntm a →
    code.wp P (fun e a' w' => e = exOf ex ∧ a'.defers = a.defers ∧ ∃ c', Rel c' s'.h w' ∧ EnvOk c' s'.env s'.ntm a' ∧ Stp c w c' w') a w

/-- A piece's run, and the rows that are kept. -/
noncomputable def segRun (C : Cfg) (n : Nat) (l : List Nat) (code : Code) (s : St) : Option (Ex × St) := match evF C n code s with
  | some (ex, s') => some (ex, ⟨s'.env, s'.ntm, gc l s'.h⟩)
  | none => none

/-- Some pieces of a row of pieces, and the rows that are kept. -/
noncomputable def cutRun (C : Cfg) (n : Nat) (l : List Nat) (k : Nat) : Code → St → Option St :=
  Nat.rec (motive := fun _ => Code → St → Option St) (fun _ s => some ⟨s.env, s.ntm, gc l s.h⟩)
    (fun _ ih c s => cond (Code.isSeqK c) (match evF C n (Code.leftK c) s with
      | some (.normal, s') => ih (Code.rightK c) s'
      | _ => none) none) k

noncomputable def dropS (k : Nat) : Code → Code := Nat.rec (motive := fun _ => Code → Code) (fun c => c) (fun _ ih c => ih (Code.rightK c)) k

section
variable {C : Cfg}

theorem SegOk.of_run (hm : C.P.follows .mixedOrders = true) (hT : ToldOk C) {n : Nat} {l : List Nat} {code : Code} {s s' : St} {ex : Ex} (h : segRun C n l code s = some (ex, s')) : SegOk C.P code s ex s' := by
  intro c a w hr he
  unfold segRun at h
  rw [evF_eq] at h
  cases hq : ev C n code s with
  | none => rw [hq] at h; cases h
  | some q =>
    obtain ⟨ex₁, s₁⟩ := q
    rw [hq] at h
    simp only [Option.some.injEq, Prod.mk.injEq] at h
    obtain ⟨rfl, rfl⟩ := h
    refine Code.wp_mono ?_ ((ev_ok hm hT n).1 code s ex₁ s₁ hq c a w hr he)
    rintro e a' w' ⟨h1, h2, c', h3, h4, h5⟩
    exact ⟨h1, h2, c', h3.sub (gc_sub l s₁.h), h4, h5⟩

theorem SegOk.seq {P : Program} {x y : Code} {s s₁ s₂ : St} {ex : Ex} (hx : SegOk P x s .normal s₁) (hy : SegOk P y s₁ ex s₂) : SegOk P (.seq x y) s ex s₂ := by
  intro c a w h he
  refine wp_seq (Code.wp_mono ?_ (hx c a w h he))
  rintro e a₁ w₁ ⟨rfl, q2, c₁, q3, q4, q5⟩
  refine Code.wp_mono ?_ (hy c₁ a₁ w₁ q3 q4)
  rintro e a₂ w₂ ⟨rfl, p2, c₂, p3, p4, p5⟩
  exact ⟨rfl, by rw [p2, q2], c₂, p3, p4, q5.trans p5⟩

theorem SegOk.cut (hm : C.P.follows .mixedOrders = true) (hT : ToldOk C) {n : Nat} {l : List Nat} {ex : Ex} {s₂ : St} : ∀ (k : Nat) {code : Code} {s s₁ : St}, cutRun C n l k code s = some s₁ →
    SegOk C.P (dropS k code) s₁ ex s₂ → SegOk C.P code s ex s₂ := by
  intro k
  induction k with
  | zero =>
    intro code s s₁ h hs
    have h' : some (⟨s.env, s.ntm, gc l s.h⟩ : St) = some s₁ := h
    simp only [Option.some.injEq] at h'
    subst h'
    intro c a w hr he
    exact hs c a w (hr.sub (gc_sub l s.h)) he
  | succ k ih =>
    intro code s s₁ h hs
    cases code with
    | seq x y =>
      have h' : (match evF C n x s with
        | some (.normal, s') => cutRun C n l k y s'
        | _ => none) = some s₁ := h
      have hs' : SegOk C.P (dropS k y) s₁ ex s₂ := hs
      rw [evF_eq] at h'
      split at h'
      · rename_i s' hq
        refine SegOk.seq (s₁ := s') ?_ (ih h' hs')
        intro c a w hr he
        exact (ev_ok hm hT n).1 x s .normal s' hq c a w hr he
      · cases h'
    | _ => cases h

theorem dropS_dropS (k : Nat) : ∀ (j : Nat) (c : Code), dropS k (dropS j c) = dropS (j + k) c := by
  intro j
  induction j with
  | zero => intro c; rw [Nat.zero_add]; rfl
  | succ j ih =>
    intro c
    rw [show j + 1 + k = (j + k) + 1 from by omega]
    show dropS k (dropS j (Code.rightK c)) = dropS (j + k) (Code.rightK c)
    exact ih (Code.rightK c)

theorem SegOk.cutAt (hm : C.P.follows .mixedOrders = true) (hT : ToldOk C) {n j k : Nat} {l : List Nat} {ex : Ex} {body : Code} {s s₁ s₂ : St} (h : cutRun C n l k (dropS j body) s = some s₁)
    (hs : SegOk C.P (dropS (j + k) body) s₁ ex s₂) : SegOk C.P (dropS j body) s ex s₂ := SegOk.cut hm hT k h (by rw [dropS_dropS]; exact hs)

/-- A call whose body goes so. -/
theorem SegOk.call (hT : ToldOk C) {f : FuncId} {fn : Func} {code : Code} {args : List V} {σ σ' : H} {ex : Ex} {s' : St} {v : V} {c : Ctx} {w : World}
    (hf : C.P.funcs[f]? = some fn) (hb : fn.body = some code) (ht : C.told f = none) (hs : SegOk C.P code ⟨bindArgs args 0 .lf, fn.ntmps, σ⟩ ex s')
    (hr : callF C (fun _ _ => some (ex, s')) f args σ = some (v, σ')) (h : Rel c σ w) (hw : ∀ x ∈ args, wf c x) : CallOk C.P f args c w v σ' := by
  classical
  have hS : SelfOk C.P (fun c s => if c = code ∧ s = ⟨bindArgs args 0 .lf, fn.ntmps, σ⟩ then some (ex, s') else none) := by
    intro code' s ex₁ s₁ h₁
    simp only at h₁
    split at h₁
    · rename_i hq
      obtain ⟨rfl, rfl⟩ := hq
      simp only [Option.some.injEq, Prod.mk.injEq] at h₁
      obtain ⟨rfl, rfl⟩ := h₁
      exact hs
    · cases h₁
  refine (callF_ok hS hT ?_ h hw).1
  unfold callF at hr ⊢
  simp only [ht, hf, hb] at hr ⊢
  cases hq : (fn.name == "runtime.NumGoroutine" || Nat.blt fn.ntmps args.length) with
  | true => simp [hq] at hr
  | false =>
    simp only [hq, cond_false, and_self, if_true] at hr ⊢
    exact hr
end

/- The printed states. -/
def B (n : Nat) : V := .int .u8 (.ofNat n)
def I (n : Nat) : V := .int .i64 (.ofNat n)
def bsN : Nat → Nat → List V → List V
  | 0, _, l => l
  | k + 1, n, l => B (Nat.mod n 256) :: bsN k (Nat.div n 256) l
def rep : Nat → V → List V → List V
  | 0, _, l => l
  | n + 1, v, l => v :: rep n v l

theorem law_seg {f : FuncId} {fn : Func} {code : Code} {ex : Ex} {s' : St} {σ' : H} (hf : Tryz.prog.funcs[f]? = some fn) (hb : fn.body = some code) (ht : told₂ f = none)
    (hs : SegOk Tryz.prog code ⟨.lf, fn.ntmps, ⟨0, .lf⟩⟩ ex s') (hr : callF C₂ (fun _ _ => some (ex, s')) f [] ⟨0, .lf⟩ = some (.bool true, σ')) (w : World) :
    Calls Tryz.prog f #[] w fun e w' => e = .returned (.bool true) ∧ w.keptBut w' (fun _ => False) := by
  have := SegOk.call (C := C₂) (args := []) told₂_ok hf hb ht hs hr (Rel.empty w) (fun x hx => by cases hx)
  unfold CallOk at this
  refine Calls.mono this ?_
  rintro e w' ⟨c', rfl, _, _, hs⟩
  exact ⟨by simp [conc], kept_of_stp hs⟩

end Go.Proofs.YtdllelamfamfcaaGreatDoor.Am
