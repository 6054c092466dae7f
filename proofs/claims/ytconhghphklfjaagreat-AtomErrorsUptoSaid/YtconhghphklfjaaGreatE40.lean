/- A group that is over or open, pages that are none and records that may not be are refused, and a record that was done is read back; the conditions are those of the given statement, for arguments that a machine can hold. Part 40 of 44. -/
import Derived.Test.YtconhghphklfjaaGreatE13
import Derived.Test.YtconhghphklfjaaGreatProg
import Derived.KernelRfl
import Derived.Recover
namespace Go.Proofs.YtconhghphklfjaaGreat.Am
open Go
noncomputable def pBody : Code := (Tryz.f101.body).getD .skip
noncomputable def pHead : Code := leftC pBody
noncomputable def pMain : Code := leftC (rightC (rightC pBody))
noncomputable def qBody : Code := (Tryz.f131.body).getD .skip
noncomputable def qRest : Code := rightC qBody
noncomputable def toldParsed (C : Cfg) (n : Nat) : List V → H → Option (V × H)
 | [x], h => match evF C n pHead ⟨bindArgs [x] 0 .lf, 9, h⟩ with
  | some (.normal, s₁) => cond (Nat.blt 4 s₁.ntm) (match evF C n pMain ⟨s₁.env.set 4 (some (.fn (.func 131) [] [s₁.env.v 2, s₁.env.v 3])), s₁.ntm, s₁.h⟩ with
   | some (.normal, s₂) => match evF C n qRest ⟨((bindArgs [s₁.env.v 2, s₁.env.v 3] 0 .lf).set 5 (some .if0)).set 2 (some .if0), 16, s₂.h⟩ with
    | some (.normal, s₃) => match mapO (resV C.P ⟨s₂.env, s₂.ntm, s₃.h⟩) Tryz.f101.results.toList with
     | some [v₁, v₂] => some (.tup [v₁, v₂], s₃.h)
     | _ => none
    | _ => none
   | _ => none) none
  | _ => none
 | _, _ => none
theorem pBody_eq : Tryz.f101.body = some pBody := rfl
theorem qBody_eq : Tryz.f131.body = some qBody := rfl
theorem wp_region_two {P : Program} {id : Nat} {o₁ o₂ : Oper} {Q : Exit → Act → World → Prop} {a : Act} {w : World} (g₁ : o₁.guard = none) (g₂ : o₂.guard = none)
  (h : o₁.wp P a w (fun a w => o₂.wp P a w (Q .normal) Q) Q) : (Code.region id #[o₁, o₂] false).wp P Q a w := by
 refine wp_region ?_
 rw [show List.range (#[o₁, o₂] : Array Oper).size = [0, 1] from rfl]
 simp only [wpOps, List.getElem?_toArray, List.getElem?_cons_zero, List.getElem?_cons_succ, Region.wanted, g₁, g₂, if_true]
 refine .inl (Oper.wp_mono (fun a w h => ?_) h)
 exact .inl h
theorem run_makeFunc {P : Program} {o : Oper} {ρ : Operand → Value} {f : Fn} {x y : Array Operand} (ho : o.op = .makeFunc f x y) (w : World) :
  (execOp ρ o).run P w = .ok (.value (.func f (x.map ρ) (y.map ρ))) w := by
 simp [execOp, ho, Instr.makeFunc]
theorem run_defer {P : Program} {o : Oper} {ρ : Operand → Value} {cl : Call} {f : Operand} {g : Fn} {x y : Array Value} (ho : o.op = .defer cl) (hc : cl.callee = .value f) (hf : ρ f = .func g x y) (w : World) :
  (execOp ρ o).run P w = .ok (.defer { target := .fn g y, args := x ++ cl.args.map ρ }) w := by
 simp [execOp, ho, resolve, hc, hf, Deferred.ofValue]
theorem run_recover {P : Program} {o : Oper} {ρ : Operand → Value} {cl : Call} (ho : o.op = .call cl) (hc : cl.callee = .builtin .recover) (ha : cl.args = #[]) (w : World) : (execOp ρ o).run P w = .ok .recover w := by
 simp [execOp, ho, resolve, hc, ha, invoke, builtin]
theorem run_assign {P : Program} {o : Oper} {ρ : Operand → Value} {x : Operand} (ho : o.op = .assign x) (w : World) : (execOp ρ o).run P w = .ok (.value (ρ x)) w := by
 simp [execOp, ho]
theorem run_callFunc {P : Program} {f : FuncId} {fn : Func} (hf : P.funcs[f]? = some fn) (hb : fn.body.isNone = false) (hn : (fn.name == "runtime.NumGoroutine") = false) (x : Array Value) (w : World) :
  (callFunc f x).run P w = .ok (.enter f x) w := by
 simp only [callFunc, Sem.run_bind, run_program, Result.andThen_ok, hf, hn, Bool.false_eq_true, if_false, hb, Sem.run_pure]
theorem pMid : ∃ id o₁ o₂ cl, leftC (rightC pBody) = .region id #[o₁, o₂] false ∧ o₁.guard = none ∧ o₂.guard = none ∧ o₁.dst = some 4 ∧ o₂.dst = none ∧ o₁.op = .makeFunc (.func 131) #[] #[.tmp 2, .tmp 3] ∧
  o₂.op = .defer cl ∧ cl.callee = .value (.tmp 4) ∧ cl.args = #[] := ⟨_, _, _, _, rfl, rfl, rfl, rfl, rfl, rfl, rfl, rfl, rfl⟩
theorem qHead : ∃ id o₁ o₂ cl, leftC qBody = .region id #[o₁, o₂] false ∧ o₁.guard = none ∧ o₂.guard = none ∧ o₁.dst = some 5 ∧ o₂.dst = some 2 ∧ o₁.op = .call cl ∧ cl.callee = .builtin .recover ∧ cl.args = #[] ∧ o₂.op = .assign (.tmp 5) :=
 ⟨_, _, _, _, rfl, rfl, rfl, rfl, rfl, rfl, rfl, rfl, rfl⟩
section
variable {C : Cfg} {c : Ctx} {σ : H} {w : World}
theorem quiet_ok (hP : C.P = Tryz.prog) (hm : C.P.follows .mixedOrders = true) (hT : ToldOk C) {n : Nat} {x y : V} {s₃ : St} (h₃ : ev C n qRest ⟨((bindArgs [x, y] 0 .lf).set 5 (some .if0)).set 2 (some .if0), 16, σ⟩ = some (.normal, s₃))
  (h : Rel c σ w) (hx : wf c x) (hy : wf c y) : CallsD C.P 131 #[conc c x, conc c y] .returning w fun e u' w' => (∃ v, e = .returned v) ∧ u' = .returning ∧ ∃ c', Rel c' s₃.h w' ∧ Stp c w c' w' := by
 have hS := (ev_ok (C := C) hm hT n).1
 refine callsD_of_wpS (fn := Tryz.f131) (c := qBody) (by rw [hP]; exact Tryz.func131) qBody_eq fun c₀ cs hu => ?_
 rw [show Tryz.f131.ntmps = 16 from Tryz.ntmps131]
 have hshape : qBody = .seq (leftC qBody) qRest := rfl
 rw [hshape]
 refine wpS_seq ?_
 have hw : ∀ z ∈ [x, y], wf c z := fun z hz => by
  simp only [List.mem_cons, List.not_mem_nil, or_false] at hz
  rcases hz with rfl | rfl
  ·exact hx
  ·exact hy
 have e₀ := bindArgs_env (c := c) (args := [x, y]) (n := 16) (by simp) hw
 rw [show (List.map (conc c) [x, y]).toArray = #[conc c x, conc c y] from rfl] at e₀
 generalize hA : ({ tmps := #[conc c x, conc c y] ++ Array.replicate (16 - (#[conc c x, conc c y] : Array Value).size) undef, defers := [] } : Act) = A at e₀ ⊢
 have hAd : A.defers = [] := by rw [← hA]
 have e₁ := (e₀.put (d := 5) (v := .if0) (by decide) (by simp [wf])).put (d := 2) (v := .if0) (by decide) (by simp [wf])
 have hrun := hS _ _ _ _ h₃ c _ w h e₁
 rw [show conc c .if0 = .nilIface from by simp [conc]] at hrun
 have hrec : recoverD (c₀ :: cs) = none := by simp [recoverD, hu]
 have h5 : (A.put (some 5) .nilIface).eval (.tmp 5) = .nilIface := by simp [Act.eval, Act.put, Array.getD, e₀.size]
 obtain ⟨id, o₁, o₂, cl, q1, q2, q3, q4, q5, q6, q7, q8, q9⟩ := qHead
 rw [q1]
 refine wpS_region ?_
 rw [show List.range (#[o₁, o₂] : Array Oper).size = [0, 1] from rfl]
 simp only [wpOpsS, List.getElem?_toArray, List.getElem?_cons_zero, List.getElem?_cons_succ, Region.wanted, q2, q3, if_true]
 rw [run_recover q6 q7 q8]
 simp only [hrec, q4]
 rw [run_assign q9, h5]
 simp only [Oper.upon, q5, Exit.thenS]
 refine wpS_of_wp (Code.wp_mono ?_ hrun)
 rintro e a' w' ⟨rfl, d1, c', r1, e2, p1⟩
 refine ⟨d1.trans hAd, .returning, by rw [← hu], .tuple #[], ?_, ⟨_, rfl⟩, rfl, c', r1, p1⟩
 exact (results_ok (s := ⟨s₃.env, s₃.ntm, s₃.h⟩) (vs := []) r1 e2 (fn := Tryz.f131) rfl).1
theorem toldParsed_ok (hP : C.P = Tryz.prog) (hm : C.P.follows .mixedOrders = true) (hT : ToldOk C) {n : Nat} {args : List V} {v : V} {σ' : H} (hr : toldParsed C n args σ = some (v, σ')) (h : Rel c σ w) (hw : ∀ x ∈ args, wf c x) :
  CallOk C.P 101 args c w v σ' := by
 have hS := (ev_ok (C := C) hm hT n).1
 unfold toldParsed at hr
 rw [evF_eq] at hr
 split at hr
 ·rename_i x
  split at hr
  ·rename_i s₁ h₁
   cases hnt' : Nat.blt 4 s₁.ntm with
   | false => rw [hnt'] at hr; cases hr
   | true =>
   rw [hnt', cond_true] at hr
   have hnt := blt_iff.1 hnt'
   split at hr
   ·rename_i s₂ h₂
    split at hr
    ·rename_i s₃ h₃
     split at hr
     ·rename_i v₁ v₂ h₄
      simp only [Option.some.injEq, Prod.mk.injEq] at hr
      obtain ⟨rfl, rfl⟩ := hr
      unfold CallOk
      refine calls_of_wp_defers (fn := Tryz.f101) (c := pBody) (by rw [hP]; exact Tryz.func101) pBody_eq ?_
      have he₀ := bindArgs_env (c := c) (args := [x]) (n := 9) (by simp) hw
      have hshape : pBody = .seq pHead (.seq (leftC (rightC pBody)) (.seq pMain .ret)) := rfl
      rw [hshape]
      refine wp_seq (Code.wp_mono ?_ (hS _ _ _ _ h₁ c _ w h he₀))
      rintro e a₁ w₁ ⟨rfl, d₁, c₁, r₁, e₁, p₁⟩
      simp only [exOf, Exit.then]
      refine wp_seq ?_
      have hv2 := e₁.val 2
      have hv3 := e₁.val 3
      have hd₁ : a₁.defers = [] := d₁
      have hfn : wf c₁ (.fn (.func 131) [] [s₁.env.v 2, s₁.env.v 3]) := by
       simp only [wf, wfL]
       exact ⟨trivial, e₁.wfv 2, e₁.wfv 3, trivial⟩
      have e₂ := e₁.put hnt hfn
      have hcl : conc c₁ (.fn (.func 131) [] [s₁.env.v 2, s₁.env.v 3]) = .func (.func 131) #[] #[a₁.tmps.getD 2 undef, a₁.tmps.getD 3 undef] := by
       rw [hv2, hv3]; simp [conc, concL]
      have ev4 := e₂.val 4
      rw [show Env.v (s₁.env.set 4 (some (.fn (.func 131) [] [s₁.env.v 2, s₁.env.v 3]))) 4 = .fn (.func 131) [] [s₁.env.v 2, s₁.env.v 3] from by simp [Env.v, get_set]] at ev4
      obtain ⟨id, o₁, o₂, cl, t1, t2, t3, t4, t5, t6, t7, t8, t9⟩ := pMid
      rw [t1]
      refine wp_region_two t2 t3 ?_
      unfold Oper.wp
      rw [run_makeFunc t6]
      simp only [Oper.upon, t4]
      rw [show (.func (.func 131) (Array.map a₁.eval #[]) (Array.map a₁.eval #[.tmp 2, .tmp 3]) : Value) = conc c₁ (.fn (.func 131) [] [s₁.env.v 2, s₁.env.v 3]) from by rw [hcl]; simp [Act.eval]]
      rw [run_defer t7 t8 (ev4.trans hcl)]
      simp only [Exit.then, t5, t9]
      have e₃ : EnvOk c₁ (s₁.env.set 4 (some (.fn (.func 131) [] [s₁.env.v 2, s₁.env.v 3]))) s₁.ntm
        ({ a₁.put (some 4) (conc c₁ (.fn (.func 131) [] [s₁.env.v 2, s₁.env.v 3])) with defers := { target := .fn (.func 131) #[a₁.tmps.getD 2 undef, a₁.tmps.getD 3 undef], args := #[] ++ Array.map (a₁.put (some 4) (conc c₁ (.fn (.func 131) [] [s₁.env.v 2, s₁.env.v 3]))).eval #[] } :: a₁.defers } : Act) := ⟨e₂.size, e₂.val, e₂.wfv⟩
      refine wp_seq (Code.wp_mono ?_ (hS _ _ _ _ h₂ c₁ _ w₁ r₁ e₃))
      rintro e a₂ w₂ ⟨rfl, d₂, c₂, r₂, e₄, p₂⟩
      simp only [exOf, Exit.then]
      refine wp_ret ?_
      simp only [bodyPostD]
      rw [d₂]
      simp only [put_defers, hd₁]
      have hx := conc_ext p₂.ext _ (e₁.wfv 2)
      have hy := conc_ext p₂.ext _ (e₁.wfv 3)
      refine leaves_cons (f := 131) (args := #[conc c₂ (s₁.env.v 2), conc c₂ (s₁.env.v 3)]) (by simp) ?_ ?_
      ·rw [hx.1, hy.1, ← hv2, ← hv3]
       simp only [invoke]
       rw [run_callFunc (fn := Tryz.f131) (by rw [hP]; exact Tryz.func131) rfl (by decide)]
       simp
      ·refine (quiet_ok hP hm hT h₃ r₂ hx.2 hy.2).mono ?_
       rintro e u' w₃ ⟨⟨v, rfl⟩, rfl, c₃, r₃, p₃⟩
       simp only [settle, Leaves]
       obtain ⟨q1, q2⟩ := results_ok (s := ⟨s₂.env, s₂.ntm, s₃.h⟩) r₃ (e₄.ext p₃.ext) (fn := Tryz.f101) h₄
       refine ⟨_, q1, c₃, by simp [conc, concL], ?_, r₃, (p₁.trans p₂).trans p₃⟩
       simp only [wf, wfL]
       exact ⟨q2 _ (by simp), q2 _ (by simp), trivial⟩
     ·cases hr
    ·cases hr
   ·cases hr
  ·cases hr
 ·cases hr
end
end Go.Proofs.YtconhghphklfjaaGreat.Am
