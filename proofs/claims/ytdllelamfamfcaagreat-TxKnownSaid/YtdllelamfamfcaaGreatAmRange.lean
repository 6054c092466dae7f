/- The abstract machine: a function whose body holds one range over a function. -/
import Derived.Test.YtdllelamfamfcaaGreatAmFast
import Derived.Test.YtdllelamfamfcaaGreatAmTold
import Derived.RangeFuncLeaves
namespace Go.Proofs.YtdllelamfamfcaaGreat.Am
open Go Go.RowKit

/-- A body of this shape: what stands ahead, the loop in its block, what stands behind. -/
def rangeParts : Code → Option (Code × Code × Nat × Operand × Array Tmp × Code × Code × Code)
  | .seq a (.seq (.seq b (.block id (.rangeFunc x ps pas bd))) t) => some (a, b, id, x, ps, pas, bd, t)
  | _ => none

noncomputable def toldRange (C : Cfg) (n : Nat) (f : FuncId) (args : List V) (h : H) : Option (V × H) := match C.P.funcs[f]? with
  | none => none
  | some fn => match fn.body with
    | none => none
    | some code => cond (Nat.blt fn.ntmps args.length) none (match rangeParts code with
      | none => none
      | some (a, b, _, x, ps, pas, bd, t) => match evF C n a ⟨bindArgs args 0 .lf, fn.ntmps, h⟩ with
        | some (.normal, s₁) => match evF C n b s₁ with
          | some (.normal, s₂) => match evO s₂.env x with
            | some (.fn (.func g) [] cap) => match callF C (evF C n) g (.yld s₂.h.next :: cap) (s₂.h.new (.loop false s₂.ntm s₂.env ps.toList pas bd)) with
              | some (_, h₃) => match T.get h₃.tr s₂.h.next with
                | some (.loop false _ _ _ _ _) => match evF C n t ⟨s₂.env, s₂.ntm, h₃.put s₂.h.next none⟩ with
                  | some (.normal, s) | some (.ret, s) => match mapO (resV C.P s) fn.results.toList with
                    | some [v] => some (v, s.h)
                    | some vs => some (.tup vs, s.h)
                    | none => none
                  | _ => none
                | _ => none
              | none => none
            | _ => none
          | _ => none
        | _ => none)

section
variable {c : Ctx} {σ : H} {w : World}

/-- A block that none of ours names is turned. -/
theorem Rel.other {b : Nat} {o : Go.Obj} (h : Rel c σ w) (hb : ∀ id, id < c.N → (c.ρ id).1 ≠ b) : Rel c σ (w.putObj b o) := by
  have get : ∀ i, (w.putObj b o).heap[i]? = if b = i ∧ b < w.heap.size then some o else w.heap[i]? := fun i => by
    simp only [World.putObj, Array.getElem?_setIfInBounds]
    by_cases h1 : b = i
    · subst h1
      by_cases h2 : b < w.heap.size
      · simp [h2]
      · simp [h2, Array.getElem?_eq_none (Nat.le_of_not_lt h2)]
    · simp [h1]
  have same : ∀ id, id < c.N → (w.putObj b o).heap[(c.ρ id).1]? = w.heap[(c.ρ id).1]? := fun id hi => by
    rw [get]
    simp [Ne.symm (hb id hi)]
  have rows : ∀ id, id < c.N → rowSize (w.putObj b o) (c.ρ id).1 = rowSize w (c.ρ id).1 := fun id hi => by unfold rowSize; rw [same id hi]
  exact ⟨h.next, h.live, fun id hi => by simpa [World.putObj] using h.blk id hi, fun id hi => by rw [rows id hi]; exact h.zz id hi, h.inj,
    fun id o ho => (h.obj id o ho).later (Ext.refl c) (h.live id o ho) (same id (h.live id o ho)), h.one⟩

/-- A loop of ours is over. -/
theorem Rel.endLoop {id : Nat} {busy : Bool} {ntm : Nat} {env : Env} {ps : List Nat} {pas bd : Code} {r : Loop} (h : Rel c σ w) (hg : σ.tr.get id = some (.loop busy ntm env ps pas bd)) :
    Rel c (σ.put id none) (w.putObj (c.ρ id).1 (.loop r)) ∧ Stp c w c (w.putObj (c.ρ id).1 (.loop r)) := by
  obtain ⟨fn, tmps, D, hb, _⟩ := h.obj id _ hg
  have hlt : (c.ρ id).1 < w.heap.size := (Array.getElem?_eq_some_iff.1 hb).1
  have get : ∀ i, (w.putObj (c.ρ id).1 (.loop r)).heap[i]? = if (c.ρ id).1 = i then some (.loop r) else w.heap[i]? := fun i => by
    simp only [World.putObj, Array.getElem?_setIfInBounds, hlt, if_true]
  have rows : ∀ i, rowSize (w.putObj (c.ρ id).1 (.loop r)) i = rowSize w i := fun i => by
    unfold rowSize
    rw [get]
    by_cases hi : (c.ρ id).1 = i
    · subst hi; simp [hb]
    · simp [hi]
  have hk := h.kill id
  refine ⟨⟨hk.next, hk.live, fun j hj => by simpa [World.putObj] using hk.blk j hj, fun j hj => by rw [rows]; exact hk.zz j hj, hk.inj, fun j o hj => ?_, hk.one⟩,
    ⟨Ext.refl c, by simp [World.putObj], fun b _ => rows b, fun b _ hn => ?_, fun j h1 h2 => by omega, rfl, rfl⟩⟩
  · refine (hk.obj j o hj).later (Ext.refl c) (hk.live j o hj) ?_
    have hj' := hj
    rw [get_put] at hj'
    by_cases hji : j = id
    · simp [hji] at hj'
    · simp [hji] at hj'
      have hne : (c.ρ id).1 ≠ (c.ρ j).1 := fun he => hji (h.inj j id _ _ hj' hg he.symm)
      rw [get]
      simp [hne]
  · rw [get]
    have : (c.ρ id).1 ≠ b := hn id (h.live id _ hg)
    simp [this]

/-- A block that is not ours stays no block of ours. -/
theorem Stp.notOurs {c' : Ctx} {w' : World} {b : Nat} (h : Stp c w c' w') (hlt : b < w.heap.size) (hb : ∀ id, id < c.N → (c.ρ id).1 ≠ b) : (∀ id, id < c'.N → (c'.ρ id).1 ≠ b) ∧ w'.heap[b]? = w.heap[b]? := by
  refine ⟨fun id hi he => ?_, h.keep b hlt hb⟩
  by_cases h1 : id < c.N
  · rw [h.ext.ρ id h1] at he; exact hb id h1 he
  · rcases h.fresh id (by omega) hi with h2 | ⟨j, hj, h2⟩
    · omega
    · exact hb j hj (by rw [h2, he])

/-- A new block is turned. -/
theorem Stp.putNew {c' : Ctx} {w' : World} {b : Nat} {o : Go.Obj} (h : Stp c w c' w') (hb : w.heap.size ≤ b) : Stp c w c' (w'.putObj b o) := by
  have get : ∀ i, i < w.heap.size → (w'.putObj b o).heap[i]? = w'.heap[i]? := fun i hi => World.putObj_heap_other (by omega)
  exact ⟨h.ext, by simpa [World.putObj] using h.size, fun i hi => by rw [← h.rows i hi]; unfold rowSize; rw [get i hi], fun i hi hn => by rw [get i hi]; exact h.keep i hi hn, h.fresh, h.sys⟩
end

section
variable {C : Cfg} {c : Ctx} {σ : H} {w : World}

theorem EnvOk.defers {env : Env} {n : Nat} {a : Act} (h : EnvOk c env n a) (ds : List Deferred) : EnvOk c env n { a with defers := ds } := ⟨h.size, h.val, h.wfv⟩

theorem toldRange_ok (hm : C.P.follows .mixedOrders = true) (hT : ToldOk C) {n : Nat} {f : FuncId} {args : List V} {v : V} {σ' : H} (hr : toldRange C n f args σ = some (v, σ')) (h : Rel c σ w) (hw : ∀ x ∈ args, wf c x) :
    CallOk C.P f args c w v σ' := by
  have hS := (ev_okR (C := C) hm hT n).1
  unfold toldRange at hr
  rw [evF_eq] at hr
  split at hr
  · cases hr
  · rename_i fn hf
    split at hr
    · cases hr
    · rename_i code hb
      cases hq : Nat.blt fn.ntmps args.length with
      | true => rw [hq] at hr; cases hr
      | false =>
        rw [hq, cond_false] at hr
        have hle : args.length ≤ fn.ntmps := by
          rcases Nat.lt_or_ge fn.ntmps args.length with h' | h'
          · rw [blt_iff.2 h'] at hq; cases hq
          · exact h'
        have henv := bindArgs_env (c := c) hle hw
        split at hr
        · cases hr
        · rename_i pa pb pid px pps pas pbd pt hparts
          have hcode : code = .seq pa (.seq (.seq pb (.block pid (.rangeFunc px pps pas pbd))) pt) := by
            unfold rangeParts at hparts
            split at hparts
            · simp only [Option.some.injEq, Prod.mk.injEq] at hparts
              obtain ⟨rfl, rfl, rfl, rfl, rfl, rfl, rfl, rfl⟩ := hparts
              rfl
            · cases hparts
          split at hr
          · rename_i s₁ hs₁
            split at hr
            · rename_i s₂ hs₂
              split at hr
              · rename_i g cap hx
                split at hr
                · rename_i y h₃ hcall
                  split at hr
                  · rename_i hl₁ hl₂ hl₃ hl₄ hl₅ hg₃
                    have tail : ∀ ex s, ev C n pt ⟨s₂.env, s₂.ntm, h₃.put s₂.h.next none⟩ = some (ex, s) → (ex = .normal ∨ ex = .ret) →
                        (match mapO (resV C.P s) fn.results.toList with
                          | some [v] => some (v, s.h)
                          | some vs => some (.tup vs, s.h)
                          | none => none) = some (v, σ') → CallOk C.P f args c w v σ' := by
                      intro ex s hst hex hmo
                      unfold CallOk
                      refine (callsIn_wide (n := 0)).1 (callsIn_of_wp_marks (F := Fence.wide) hf hb trivial ?_ rfl)
                      rw [hcode]
                      refine wpIn_seq (wpIn_mono (hS pa _ .normal s₁ hs₁ none c _ w h henv) ?_)
                      rintro e a₁ w₁ ⟨rfl, hd₁, c₁, r₁, e₁, st₁⟩
                      refine wpIn_seq (wpIn_seq (wpIn_mono (hS pb _ .normal s₂ hs₂ none c₁ a₁ w₁ r₁ e₁) ?_))
                      rintro e a₂ w₂ ⟨rfl, hd₂, c₂, r₂, e₂, st₂⟩
                      have hd₂' : a₂.defers = [] := by rw [hd₂, hd₁]
                      obtain ⟨ex1, ex2⟩ := evO_ok e₂ hx
                      have hcap : ∀ z ∈ cap, wf c₂ z := by
                        have : wfL c₂ [] ∧ wfL c₂ cap := by simpa [wf] using ex2
                        exact wfL_iff.1 this.2
                      have hN : s₂.h.next = c₂.N := r₂.next
                      -- the two blocks of the loop
                      obtain ⟨rA, stA⟩ := r₂.below (w' := w₂.alloc (.deferred (some []))) ((Below.refl _ w₂).alloc (Nat.le_refl _) _)
                      have hDA : (w₂.alloc (.deferred (some []))).heap[w₂.heap.size]? = some (.deferred (some [])) := World.alloc_heap_new w₂ _
                      have notD : ∀ id, id < c₂.N → (c₂.ρ id).1 ≠ w₂.heap.size := fun id hi he => absurd (r₂.blk id hi) (by omega)
                      refine wpIn_block (wpIn_rangeFunc (fun fn' _ => ?_))
                      obtain ⟨O, hO⟩ : ∃ O : Go.Obj, O = .loop { state := .ready, pending := none, fn := fn', tmps := a₂.tmps, params := pps, assign := pas, body := pbd, defers := w₂.heap.size } := ⟨_, rfl⟩
                      have hszA : (w₂.alloc (.deferred (some []))).heap.size = w₂.heap.size + 1 := World.size_alloc _ _
                      have hob : objSize O = 0 := by rw [hO]; rfl
                      have eG := ext_grow rA 0 (objSize O)
                      obtain ⟨rB, stB⟩ := rA.new (.loop false s₂.ntm s₂.env pps.toList pas pbd) O 0 rfl (by
                        refine ⟨fn', a₂.tmps, w₂.heap.size, ?_, e₂.size, fun t => ?_, fun t => (conc_ext eG _ (e₂.wfv t)).2⟩
                        · rw [grow_ρ_new, hO]
                          exact World.alloc_heap_new _ _
                        · rw [e₂.val t, (conc_ext eG _ (e₂.wfv t)).1])
                      obtain ⟨cB, hcB⟩ : ∃ cB, cB = c₂.grow (w₂.alloc (.deferred (some []))).heap.size 0 (objSize O) := ⟨_, rfl⟩
                      rw [← hcB] at rB stB eG
                      have hρB : cB.ρ c₂.N = (w₂.heap.size + 1, 0) := by rw [hcB, grow_ρ_new, hszA]
                      have hNB : cB.N = c₂.N + 1 := by rw [hcB]; rfl
                      obtain ⟨kc, ken⟩ := callF_ok hS.wide hT hcall rB (by
                        intro z hz
                        rcases List.mem_cons.1 hz with rfl | hz
                        · simp only [wf]; omega
                        · exact (conc_ext eG _ (hcap z hz)).2)
                      refine ⟨w₂.heap.size + 1, [{ target := .collected w₂.heap.size, args := #[] }], (w₂.alloc (.deferred (some []))).alloc O, { target := .fn (.func g) (cap.map (conc c₂)).toArray, args := #[.func (.yield (w₂.heap.size + 1)) #[] #[]] }, (w₂.alloc (.deferred (some []))).alloc O, g,
                        #[.func (.yield (w₂.heap.size + 1)) #[] #[]] ++ (cap.map (conc c₂)).toArray, (w₂.alloc (.deferred (some []))).alloc O, ?_, ?_, fun _ _ => trivial, ?_, ?_, ?_⟩
                      · rw [hO]; exact run_enterLoop_outer _ _ _ _ _
                      · have hev : a₂.eval px = .func (.func g) #[] (cap.map (conc c₂)).toArray := by rw [ex1]; simp [conc, concL_eq]
                        simp only [resolve, rangeCall, hev]
                        simp [go_sem, Act.eval]
                      · simp [invoke, go_sem, ken]
                      · intro hd; exact absurd hd (by decide)
                      · have hargs : ((V.yld s₂.h.next :: cap).map (conc cB)).toArray = #[.func (.yield (w₂.heap.size + 1)) #[] #[]] ++ (cap.map (conc c₂)).toArray := by
                          apply Array.ext'
                          simp only [List.map_cons, conc, hN, hρB, (map_conc_ext eG hcap).1]
                          simp
                        unfold CallOk at kc
                        rw [hargs] at kc
                        refine calls_fr (r := none) (Calls.mono kc ?_)
                        rintro e w₃ ⟨c₃, rfl, _, r₃, st₃⟩
                        rw [hN] at hg₃
                        have hlt₃ : c₂.N < c₃.N := r₃.live _ _ hg₃
                        have hρ₃ : c₃.ρ c₂.N = (w₂.heap.size + 1, 0) := by rw [st₃.ext.ρ c₂.N (by omega), hρB]
                        obtain ⟨fn₃, tmps₃, D₃, hb₃, _⟩ := r₃.obj c₂.N _ hg₃
                        rw [hρ₃] at hb₃
                        refine ⟨none, _, run_endLoop hb₃ (by simp), ?_⟩
                        obtain ⟨r₄, st₄⟩ := r₃.endLoop (r := { state := .exhausted, pending := none, fn := fn₃, tmps := tmps₃, params := hl₃.toArray, assign := hl₄, body := hl₅, defers := D₃ }) hg₃
                        rw [hρ₃] at r₄ st₄
                        obtain ⟨w₄, hw₄⟩ : ∃ w₄, w₄ = w₃.putObj (w₂.heap.size + 1) (.loop { state := .exhausted, pending := none, fn := fn₃, tmps := tmps₃, params := hl₃.toArray, assign := hl₄, body := hl₅, defers := D₃ }) := ⟨_, rfl⟩
                        rw [← hw₄] at r₄ st₄
                        -- all of it so far, pas one step
                        have stAll : Stp c₂ w₂ c₃ w₄ := ((stA.trans stB).trans st₃).trans st₄
                        -- the block for the rounds' deferred calls
                        have nB : ∀ id, id < cB.N → (cB.ρ id).1 ≠ w₂.heap.size := fun id hi => by
                          by_cases h1 : id < c₂.N
                          · rw [eG.ρ id h1]; exact notD id h1
                          · have : id = c₂.N := by omega
                            rw [this, hρB]; simp
                        have hDB : ((w₂.alloc (.deferred (some []))).alloc O).heap[w₂.heap.size]? = some (.deferred (some [])) := by
                          rw [alloc_get, if_neg (by omega)]; exact hDA
                        have hltB : w₂.heap.size < ((w₂.alloc (.deferred (some []))).alloc O).heap.size := (Array.getElem?_eq_some_iff.1 hDB).1
                        obtain ⟨n₃, k₃⟩ := st₃.notOurs hltB nB
                        have hD₃ : w₃.heap[w₂.heap.size]? = some (.deferred (some [])) := k₃.trans hDB
                        have hD₄ : w₄.heap[w₂.heap.size]? = some (.deferred (some [])) := by rw [hw₄]; exact (World.putObj_heap_other (by omega)).trans hD₃
                        have e₄ : EnvOk c₃ s₂.env s₂.ntm { a₂ with defers := [{ target := .collected w₂.heap.size, args := #[] }] ++ a₂.defers } := (e₂.ext stAll.ext).defers _
                        suffices hgoal : pt.wpIn Fence.wide 0 C.P (bodyPostM Fence.wide 0 C.P fn fun e w' => ∃ c', e = .returned (conc c' v) ∧ wf c' v ∧ Rel c' σ' w' ∧ Stp c w c' w') { a₂ with defers := [{ target := .collected w₂.heap.size, args := #[] }] ++ a₂.defers } w₄ by
                          rw [hw₄] at hgoal
                          exact hgoal
                        refine wpIn_mono (hS pt _ ex s hst none c₃ _ w₄ (by rw [hN]; exact r₄) e₄) ?_
                        rintro e a₅ w₅ ⟨rfl, hd₅, c₅, r₅, e₅, st₅⟩
                        have hd₅' : a₅.defers = [{ target := .collected w₂.heap.size, args := #[] }] := by rw [hd₅, hd₂']; rfl
                        have hltD : w₂.heap.size < w₄.heap.size := (Array.getElem?_eq_some_iff.1 hD₄).1
                        obtain ⟨n₅, k₅⟩ := st₅.notOurs hltD n₃
                        have hD₅ : w₅.heap[w₂.heap.size]? = some (.deferred (some [])) := k₅.trans hD₄
                        have r₆ : Rel c₅ s.h (w₅.putObj w₂.heap.size (.deferred none)) := r₅.other n₅
                        have stF : Stp c w c₅ (w₅.putObj w₂.heap.size (.deferred none)) := (((st₁.trans st₂).trans stAll).trans st₅).putNew (Nat.le_trans st₁.size st₂.size)
                        have fin : LeavesInM Fence.wide 0 C.P fn a₅.tmps (fun e w' => ∃ c', e = .returned (conc c' v) ∧ wf c' v ∧ Rel c' σ' w' ∧ Stp c w c' w') a₅.defers .returning w₅ := by
                          rw [hd₅']
                          refine ⟨by simp, .inl ⟨w₂.heap.size, _, rfl, run_takeDeferred hD₅, ?_⟩⟩
                          cases hmm : mapO (resV C.P s) fn.results.toList with
                          | none => simp [hmm] at hmo
                          | some vs =>
                            obtain ⟨q1, q2⟩ := results_ok r₆ e₅ hmm
                            refine ⟨_, q1, c₅, ?_⟩
                            rw [hmm] at hmo
                            split at hmo
                            · rename_i v0 he0
                              simp only [Option.some.injEq] at he0
                              subst he0
                              simp only [Option.some.injEq, Prod.mk.injEq] at hmo
                              obtain ⟨rfl, rfl⟩ := hmo
                              exact ⟨by simp, q2 v0 (by simp), r₆, stF⟩
                            · rename_i vs' hne he0
                              simp only [Option.some.injEq] at he0
                              subst he0
                              simp only [Option.some.injEq, Prod.mk.injEq] at hmo
                              obtain ⟨rfl, rfl⟩ := hmo
                              refine ⟨?_, by simp only [wf, wfL_iff]; exact q2, r₆, stF⟩
                              rw [dif_neg]
                              · simp [conc, concL_eq]
                              · intro hsz
                                simp only [List.size_toArray, List.length_map] at hsz
                                obtain ⟨v0, rfl⟩ := List.length_eq_one_iff.1 hsz
                                exact hne v0 rfl
                            · cases hmo
                        rcases hex with rfl | rfl
                        · exact fin
                        · exact fin
                    split at hr
                    · rename_i s hst
                      exact tail .normal s hst (.inl rfl) hr
                    · rename_i s hst
                      exact tail .ret s hst (.inr rfl) hr
                    · cases hr
                  · cases hr
                · cases hr
              · cases hr
            · cases hr
          · cases hr
end

end Go.Proofs.YtdllelamfamfcaaGreat.Am
