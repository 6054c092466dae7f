/- The abstract machine: a function of which some loops are told (its skeleton says which), the rest walked. -/
import Derived.Test.YtdllelamfamfcaaGreatDoorAmFast
import Derived.Test.YtdllelamfamfcaaGreatDoorAmMono
namespace Go.Proofs.YtdllelamfamfcaaGreatDoor.Am
open Go

/-- The shape of a function's code, down to the loops that are told. -/
inductive Sk where
  | leaf
  | hot (g : St → Option (Ex × St))
  | seq (a b : Sk)
  | block (k : Sk)
  | loop (k : Sk)
  | loopS (p : St → Option St) (k : Sk)

def Code.leftK (c : Code) : Code := match c with
  | .seq a _ => a
  | c => c
def Code.rightK (c : Code) : Code := match c with
  | .seq _ b => b
  | c => c
def Code.isSeqK (c : Code) : Bool := match c with
  | .seq _ _ => true
  | _ => false
def Code.blkK (c : Code) : Option (Nat × Code) := match c with
  | .block i b => some (i, b)
  | _ => none
def Code.loopK (c : Code) : Option Code := match c with
  | .loop b => some b
  | _ => none

section
variable (C : Cfg) (n : Nat)

noncomputable def evKStep (self : Sk → Code → St → Option (Ex × St)) (k : Sk) (c : Code) (s : St) : Option (Ex × St) := match k with
  | .leaf => evF C n c s
  | .hot g => match g s with
    | some r => some r
    | none => evF C n c s
  | .seq a b => cond (Code.isSeqK c) (match self a (Code.leftK c) s with
    | some (.normal, s') => self b (Code.rightK c) s'
    | r => r) none
  | .block k => match Code.blkK c with
    | some (id, b) => match self k b s with
      | some (.exit i, s') => cond (Nat.beq i id) (some (.normal, s')) (some (.exit i, s'))
      | r => r
    | none => none
  | .loop k => match Code.loopK c with
    | some b => match self k b s with
      | some (.normal, s') => self (.loop k) c s'
      | r => r
    | none => none
  | .loopS p k => match Code.loopK c with
    | some b => match p s with
      | some s' => self (.loopS p k) c s'
      | none => match self k b s with
        | some (.normal, s') => self (.loopS p k) c s'
        | r => r
    | none => none

noncomputable def evK (m : Nat) : Sk → Code → St → Option (Ex × St) :=
  Nat.rec (motive := fun _ => Sk → Code → St → Option (Ex × St)) (fun _ _ _ => none) (fun _ ih k c s => evKStep C n ih k c s) m

/-- What is told of the loops is what they do. -/
def SkOk : Sk → Code → Prop
  | .leaf, _ => True
  | .hot g, c => ∀ s r, g s = some r → ∃ N, ev C N c s = some r
  | .seq a b, c => SkOk a (Code.leftK c) ∧ SkOk b (Code.rightK c)
  | .block k, c => ∀ i b, Code.blkK c = some (i, b) → SkOk k b
  | .loop k, c => ∀ b, Code.loopK c = some b → SkOk k b
  | .loopS p k, c => ∀ b, Code.loopK c = some b → SkOk k b ∧ ∀ s s', p s = some s' → ∀ N r, ev C N (.loop b) s' = some r → ∃ M, ev C M (.loop b) s = some r

variable {C n}

theorem evK_ok : ∀ (m : Nat) (k : Sk) (c : Code) (s : St) (r : Ex × St), SkOk C k c → evK C n m k c s = some r → ∃ N, ev C N c s = some r := by
  intro m
  induction m with
  | zero => intro k c s r _ hr; cases hr
  | succ m ih =>
    intro k c s r hk hr
    have hr' : evKStep C n (evK C n m) k c s = some r := hr
    unfold evKStep at hr'
    cases k with
    | leaf => simp only at hr'; rw [evF_eq] at hr'; exact ⟨n, hr'⟩
    | hot g =>
      simp only at hr'
      cases hg : g s with
      | none => rw [hg] at hr'; simp only at hr'; rw [evF_eq] at hr'; exact ⟨n, hr'⟩
      | some q => rw [hg] at hr'; simp only at hr'; rw [← hr']; exact hk s q hg
    | seq a b =>
      simp only at hr'
      cases c with
      | seq x y =>
        simp only [Code.isSeqK, cond_true, Code.leftK, Code.rightK] at hr'
        obtain ⟨ka, kb⟩ := hk
        simp only [Code.leftK, Code.rightK] at ka kb
        cases ha : evK C n m a x s with
        | none => rw [ha] at hr'; cases hr'
        | some q =>
          obtain ⟨ex, s'⟩ := q
          obtain ⟨N, hN⟩ := ih a x s _ ka ha
          rw [ha] at hr'
          cases ex with
          | normal =>
            simp only at hr'
            obtain ⟨M, hM⟩ := ih b y s' _ kb hr'
            refine ⟨Nat.max N M + 1, ?_⟩
            show evStep C (ev C (Nat.max N M)) (.seq x y) s = _
            simp only [evStep, ev_mono (Nat.le_max_left N M) _ _ _ hN]
            exact ev_mono (Nat.le_max_right N M) _ _ _ hM
          | exit i =>
            simp only [Option.some.injEq] at hr'
            subst hr'
            exact ⟨N + 1, by show evStep C (ev C N) (.seq x y) s = _; simp only [evStep, hN]⟩
          | ret =>
            simp only [Option.some.injEq] at hr'
            subst hr'
            exact ⟨N + 1, by show evStep C (ev C N) (.seq x y) s = _; simp only [evStep, hN]⟩
      | _ => cases hr'
    | block k =>
      simp only at hr'
      cases c with
      | block id b =>
        simp only [Code.blkK] at hr'
        have kb := hk id b rfl
        cases hb : evK C n m k b s with
        | none => rw [hb] at hr'; cases hr'
        | some q =>
          obtain ⟨ex, s'⟩ := q
          obtain ⟨N, hN⟩ := ih k b s _ kb hb
          rw [hb] at hr'
          refine ⟨N + 1, ?_⟩
          show evStep C (ev C N) (.block id b) s = _
          simp only [evStep, hN]
          cases ex <;> simpa using hr'
      | _ => cases hr'
    | loop k =>
      simp only at hr'
      cases c with
      | loop b =>
        simp only [Code.loopK] at hr'
        have kb := hk b rfl
        cases hb : evK C n m k b s with
        | none => rw [hb] at hr'; cases hr'
        | some q =>
          obtain ⟨ex, s'⟩ := q
          obtain ⟨N, hN⟩ := ih k b s _ kb hb
          rw [hb] at hr'
          cases ex with
          | normal =>
            simp only at hr'
            obtain ⟨M, hM⟩ := ih (.loop k) (.loop b) s' _ hk hr'
            refine ⟨Nat.max N M + 1, ?_⟩
            show evStep C (ev C (Nat.max N M)) (.loop b) s = _
            simp only [evStep, ev_mono (Nat.le_max_left N M) _ _ _ hN]
            exact ev_mono (Nat.le_max_right N M) _ _ _ hM
          | exit i =>
            simp only [Option.some.injEq] at hr'
            subst hr'
            exact ⟨N + 1, by show evStep C (ev C N) (.loop b) s = _; simp only [evStep, hN]⟩
          | ret =>
            simp only [Option.some.injEq] at hr'
            subst hr'
            exact ⟨N + 1, by show evStep C (ev C N) (.loop b) s = _; simp only [evStep, hN]⟩
      | _ => cases hr'
    | loopS p k =>
      simp only at hr'
      cases c with
      | loop b =>
        simp only [Code.loopK] at hr'
        obtain ⟨kb, kp⟩ := hk b rfl
        cases hp : p s with
        | some s' =>
          simp only [hp] at hr'
          obtain ⟨N, hN⟩ := ih (.loopS p k) (.loop b) s' _ hk hr'
          exact kp s s' hp N r hN
        | none =>
        simp only [hp] at hr'
        cases hb : evK C n m k b s with
        | none => rw [hb] at hr'; cases hr'
        | some q =>
          obtain ⟨ex, s'⟩ := q
          obtain ⟨N, hN⟩ := ih k b s _ kb hb
          rw [hb] at hr'
          cases ex with
          | normal =>
            simp only at hr'
            obtain ⟨M, hM⟩ := ih (.loopS p k) (.loop b) s' _ hk hr'
            refine ⟨Nat.max N M + 1, ?_⟩
            show evStep C (ev C (Nat.max N M)) (.loop b) s = _
            simp only [evStep, ev_mono (Nat.le_max_left N M) _ _ _ hN]
            exact ev_mono (Nat.le_max_right N M) _ _ _ hM
          | exit i =>
            simp only [Option.some.injEq] at hr'
            subst hr'
            exact ⟨N + 1, by show evStep C (ev C N) (.loop b) s = _; simp only [evStep, hN]⟩
          | ret =>
            simp only [Option.some.injEq] at hr'
            subst hr'
            exact ⟨N + 1, by show evStep C (ev C N) (.loop b) s = _; simp only [evStep, hN]⟩
      | _ => cases hr'

/-- A function by its skeleton. -/
noncomputable def toldSk (C : Cfg) (n m : Nat) (k : Sk) (f : FuncId) (args : List V) (h : H) : Option (V × H) := callF C (evK C n m k) f args h

theorem toldSk_run {m : Nat} {k : Sk} {f : FuncId} {args : List V} {h : H} {r : V × H} (ht : C.told f = none) (hk : ∀ fn c, C.P.funcs[f]? = some fn → fn.body = some c → SkOk C k c)
    (hr : toldSk C n m k f args h = some r) : ∃ N, run C N f args h = some r := by
  unfold toldSk callF at hr
  unfold run callF
  simp only [ht] at hr ⊢
  cases hf : C.P.funcs[f]? with
  | none => simp [hf] at hr
  | some fn =>
    simp only [hf] at hr ⊢
    cases hb : fn.body with
    | none => simp [hb] at hr
    | some c =>
      simp only [hb] at hr ⊢
      cases hq : (fn.name == "runtime.NumGoroutine" || Nat.blt fn.ntmps args.length) with
      | true => simp [hq] at hr
      | false =>
        simp only [hq, cond_false] at hr ⊢
        cases hs : evK C n m k c ⟨bindArgs args 0 .lf, fn.ntmps, h⟩ with
        | none => rw [hs] at hr; cases hr
        | some q =>
          obtain ⟨N, hN⟩ := evK_ok m k c _ _ (hk fn c hf hb) hs
          rw [hs] at hr
          exact ⟨N, by rw [hN]; exact hr⟩

theorem toldSk_ok {m : Nat} {k : Sk} {f : FuncId} {args : List V} {c : Ctx} {σ σ' : H} {w : World} {v : V} (hm : C.P.follows .mixedOrders = true) (hT : ToldOk C) (ht : C.told f = none)
    (hk : ∀ fn c, C.P.funcs[f]? = some fn → fn.body = some c → SkOk C k c) (hr : toldSk C n m k f args σ = some (v, σ')) (h : Rel c σ w) (hw : ∀ x ∈ args, wf c x) : CallOk C.P f args c w v σ' := by
  obtain ⟨N, hN⟩ := toldSk_run ht hk hr
  exact run_ok hm hT hN h hw
end

/- Writing one place twice, and two places in either order. -/
theorem setF_setF {α : Type} : ∀ (f g : Nat) (t : T α) (k : Nat) (a b : Option α), k < f → k < g → T.setF g (T.setF f t k a) k b = T.setF f t k b := by
  intro f
  induction f with
  | zero => intro g t k a b h; omega
  | succ f ih =>
    intro g t k a b hf hg
    cases g with
    | zero => omega
    | succ g =>
      by_cases h0 : k = 0
      · subst h0
        cases t <;> simp only [T.setF_lf, T.setF_nd, beqT rfl, cond_true]
      · have hd := div2_lt h0
        by_cases h1 : k % 2 = 1
        · cases t <;> simp only [T.setF_lf, T.setF_nd, beqF h0, beqT h1, cond_true, cond_false] <;> rw [ih g _ _ a b (by omega) (by omega)]
        · cases t <;> simp only [T.setF_lf, T.setF_nd, beqF h0, beqF h1, cond_false] <;> rw [ih g _ _ a b (by omega) (by omega)]

theorem set_set {α : Type} (t : T α) (k : Nat) (a b : Option α) : (t.set k a).set k b = t.set k b := setF_setF _ _ t k a b (Nat.lt_succ_self k) (Nat.lt_succ_self k)

theorem setF_comm {α : Type} : ∀ (f g : Nat) (t : T α) (k j : Nat) (a b : Option α), k < f → j < g → k ≠ j → T.setF g (T.setF f t k a) j b = T.setF f (T.setF g t j b) k a := by
  intro f
  induction f with
  | zero => intro g t k j a b h; omega
  | succ f ih =>
    intro g t k j a b hf hg hkj
    cases g with
    | zero => omega
    | succ g =>
      by_cases h0 : k = 0
      · subst h0
        have j0 : j ≠ 0 := fun e => hkj e.symm
        by_cases j1 : j % 2 = 1
        · cases t <;> simp only [T.setF_lf, T.setF_nd, Nat.beq_refl, beqF j0, beqT j1, cond_true, cond_false]
        · cases t <;> simp only [T.setF_lf, T.setF_nd, Nat.beq_refl, beqF j0, beqF j1, cond_true, cond_false]
      · by_cases j0 : j = 0
        · subst j0
          by_cases h1 : k % 2 = 1
          · cases t <;> simp only [T.setF_lf, T.setF_nd, Nat.beq_refl, beqF h0, beqT h1, cond_true, cond_false]
          · cases t <;> simp only [T.setF_lf, T.setF_nd, Nat.beq_refl, beqF h0, beqF h1, cond_true, cond_false]
        · have hd := div2_lt h0
          have jd := div2_lt j0
          by_cases h1 : k % 2 = 1
          · by_cases j1 : j % 2 = 1
            · cases t <;> simp only [T.setF_lf, T.setF_nd, beqF h0, beqF j0, beqT h1, beqT j1, cond_true, cond_false] <;> rw [ih g _ _ _ a b (by omega) (by omega) (by omega)]
            · cases t <;> simp only [T.setF_lf, T.setF_nd, beqF h0, beqF j0, beqT h1, beqF j1, cond_true, cond_false]
          · by_cases j1 : j % 2 = 1
            · cases t <;> simp only [T.setF_lf, T.setF_nd, beqF h0, beqF j0, beqF h1, beqT j1, cond_true, cond_false]
            · cases t <;> simp only [T.setF_lf, T.setF_nd, beqF h0, beqF j0, beqF h1, beqF j1, cond_false] <;> rw [ih g _ _ _ a b (by omega) (by omega) (by omega)]

theorem set_comm {α : Type} (t : T α) {k j : Nat} (a b : Option α) (h : k ≠ j) : (t.set k a).set j b = (t.set j b).set k a := setF_comm _ _ t k j a b (Nat.lt_succ_self k) (Nat.lt_succ_self j) h

/-- Many places written. -/
noncomputable def setL (e : Env) : List (Nat × V) → Env
  | [] => e
  | (k, v) :: l => setL (e.set k (some v)) l

theorem setL_set : ∀ (l : List (Nat × V)) (e : Env) (k : Nat) (v : V), (∀ x ∈ l, x.1 ≠ k) → (setL e l).set k (some v) = setL (e.set k (some v)) l := by
  intro l
  induction l with
  | nil => intro e k v _; rfl
  | cons x l ih =>
    intro e k v h
    obtain ⟨j, u⟩ := x
    simp only [setL]
    rw [ih _ k v (fun x hx => h x (List.mem_cons_of_mem _ hx)), set_comm _ _ _ (h (j, u) List.mem_cons_self)]

theorem setL_setL : ∀ (l m : List (Nat × V)) (e : Env), l.map (·.1) = m.map (·.1) → (l.map (·.1)).Nodup → setL (setL e l) m = setL e m := by
  intro l
  induction l with
  | nil => intro m e h _; cases m with
    | nil => rfl
    | cons _ _ => simp at h
  | cons x l ih =>
    intro m e h hn
    cases m with
    | nil => simp at h
    | cons y m =>
      obtain ⟨k, a⟩ := x
      obtain ⟨j, b⟩ := y
      simp only [List.map_cons, List.cons.injEq] at h
      obtain ⟨rfl, hl⟩ := h
      simp only [List.map_cons, List.nodup_cons] at hn
      simp only [setL]
      rw [setL_set l _ k b (fun x hx e => hn.1 (e ▸ List.mem_map_of_mem hx)), set_set, ih m _ hl hn.2]

theorem get_setL : ∀ (l : List (Nat × V)) (e : Env) (k : Nat), (∀ x ∈ l, x.1 ≠ k) → T.get (setL e l) k = T.get e k := by
  intro l
  induction l with
  | nil => intro e k _; rfl
  | cons x l ih =>
    intro e k h
    obtain ⟨j, u⟩ := x
    simp only [setL]
    have : k ≠ j := fun q => h (j, u) List.mem_cons_self q.symm
    rw [ih _ k (fun x hx => h x (List.mem_cons_of_mem _ hx)), get_set, if_neg this]

end Go.Proofs.YtdllelamfamfcaaGreatDoor.Am
