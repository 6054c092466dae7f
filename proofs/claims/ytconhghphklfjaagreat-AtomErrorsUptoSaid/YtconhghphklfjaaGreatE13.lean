/- A group that is over or open, pages that are none and records that may not be are refused, and a record that was done is read back; the conditions are those of the given statement, for arguments that a machine can hold. Part 13 of 44. -/
import Derived.Test.YtconhghphklfjaaGreatE12
namespace Go.Proofs.YtconhghphklfjaaGreat.Am
open Go
noncomputable section
def viewI (v : V) : Option (IntKind × Int) := V.rec (motive_1 := fun _ => Option (IntKind × Int)) (motive_2 := fun _ => PUnit)
 (fun _ => none) (fun k n => some (k, n)) (fun _ => none) none (fun _ _ => none) none (fun _ _ _ _ => none) none (fun _ => none) (fun _ _ _ _ _ => none) none (fun _ _ _ => none) none (fun _ _ => none) (fun _ _ => none) (fun _ => none) (fun _ _ => none) (fun _ => none)
 PUnit.unit (fun _ _ _ _ => PUnit.unit) v
def ikN (k : IntKind) : Nat := IntKind.rec 0 1 2 3 4 5 6 7 k
def intF (op : BinOp) : IntKind → Int → Int → Option V := BinOp.rec (motive := fun _ => IntKind → Int → Int → Option V)
 (fun k x y => some (.int k (k.wrap (Int.add x y))))
 (fun k x y => some (.int k (k.wrap (Int.sub x y))))
 (fun k x y => intV .mul k x y) (fun k x y => intV .quo k x y) (fun k x y => intV .rem k x y)
 (fun k x y => bitsV .and k x y) (fun k x y => bitsV .or k x y) (fun k x y => bitsV .xor k x y)
 (fun k x y => intV .shl k x y) (fun k x y => intV .shr k x y) (fun k x y => bitsV .andNot k x y)
 (fun _ x y => some (.bool (intBeq x y))) (fun _ x y => some (.bool (!intBeq x y)))
 (fun _ x y => some (.bool (decide (x < y)))) (fun _ x y => some (.bool (decide (x ≤ y)))) (fun _ x y => some (.bool (decide (x > y)))) (fun _ x y => some (.bool (decide (x ≥ y)))) op
def isShift (op : BinOp) : Bool := BinOp.rec (motive := fun _ => Bool) false false false false false false false false true true false false false false false false false op
def binF (P : Program) (h : H) (op : BinOp) (t : TypeId) (ox oy : Operand) (x y : V) : Option V :=
 Option.rec (motive := fun _ => Option V) (binV P h op t ox oy x y)
  (fun a => Option.rec (motive := fun _ => Option V) (binV P h op t ox oy x y)
   (fun b => Bool.rec (motive := fun _ => Option V) (Bool.rec (motive := fun _ => Option V) none (intF op a.1 a.2 b.2) (Nat.beq (ikN a.1) (ikN b.1))) (shiftV op a.1 a.2 b.2) (isShift op)) (viewI y)) (viewI x)
theorem ikN_eq (a b : IntKind) : Nat.beq (ikN a) (ikN b) = ikBeq a b := by cases a <;> cases b <;> rfl
theorem intF_eq (op : BinOp) (k : IntKind) (x y : Int) : intF op k x y = intV op k x y := by cases op <;> rfl
theorem binF_eq (P : Program) (h : H) (op : BinOp) (t : TypeId) (ox oy : Operand) (x y : V) : binF P h op t ox oy x y = binV P h op t ox oy x y := by
 cases x <;> try rfl
 cases y <;> try rfl
 rename_i k a j b
 show (Bool.rec (motive := fun _ => Option V) (Bool.rec (motive := fun _ => Option V) none (intF op k a b) (Nat.beq (ikN k) (ikN j))) (shiftV op k a b) (isShift op) : Option V) = _
 rw [ikN_eq, intF_eq]
 cases op <;> first
  | rfl
  | (cases hq : ikBeq k j <;> simp [binV, hq, isShift])
def opFn (op : Op) : Cfg → Self → Env → H → Option (V × H) := Op.rec (motive := fun _ => Cfg → Self → Env → H → Option (V × H))
  (fun x _ _ env h => pureV (evO env x) h)
  (fun x _ _ env h => pureV (evO env x) h)
  (fun c a b _ _ env h => match evO env c with
  | some (.bool t) => pureV (evO env (cond t a b)) h
  | _ => none)
  (fun t C _ _ h => match zeroT C.P t with
  | some z => some (.ptr h.next 0, newRow h z.cells)
  | none => none)
  (fun _ x _ _ env h => match evO env x with
  | some v => cond (v.cells.all storable) (some (.ptr h.next 0, newRow h v.cells)) none
  | none => none)
  (fun t ps C _ env h => match evParts env ps.toList with
  | some l => pureV (buildV C.P t l) h
  | none => none)
  (fun t n ps C _ env h => match evParts env ps.toList with
  | some l => buildSliceV C.P h t n l
  | none => none)
  (fun t m k v C _ env h => match evO env m, evO env k, evO env v with
  | some a, some b, some c => unitV (mapUpdateV C.P h t a b c)
  | _, _, _ => none)
  (fun t a C _ env h => match evO env a with
  | some v => pureV (loadV C.P h t v) h
  | none => none)
  (fun t a x C _ env h => match evO env a, evO env x with
  | some p, some v => unitV (storeV C.P h t p v)
  | _, _ => none)
  (fun _ _ _ _ _ => none)
  (fun _ _ _ _ _ => none)
  (fun x _ _ env h => match evO env x with
  | some (.ptr a b) => some (.ptr a b, h)
  | _ => none)
  (fun op t x y _ C _ env h => match evO env x, evO env y with
  | some a, some b => pureV (binF C.P h op t x y a b) h
  | _, _ => none)
  (fun op _ x _ _ env h => match evO env x with
  | some a => pureV (unV op a) h
  | none => none)
  (fun s d x C _ env h => match evO env x with
  | some a => match convV C.P h s d a with
   | some r => some r
   | none => convB C.P h s d a
  | none => none)
  (fun d x C _ env h => match evO env x with
  | some a => pureV (arrPtrV C.P d a) h
  | none => none)
  (fun t x C _ env h => match evO env x with
  | some a => pureV (makeIfaceV C.P t a) h
  | none => none)
  (fun f a b _ _ env h => match evArgs env a.toList, evArgs env b.toList with
  | some x, some y => some (.fn f x y, h)
  | _, _ => none)
  (fun _ r _ _ _ h => match r with
  | none => some (.map h.next, h.new (.map [] 0))
  | some _ => none)
  (fun _ _ _ _ _ _ => none)
  (fun t l c C _ env h => match evO env l, evO env c with
  | some a, some b => makeSliceV C.P h t a b
  | _, _ => none)
  (fun t x lo hi mx C _ env h => match evO env x, optV env lo, optV env hi, optV env mx with
  | some v, some a, some b, some c => match optB a, optB b, optB c with
   | some a, some b, some c => pureV (sliceV C.P h t v a b c) h
   | _, _, _ => none
  | _, _, _, _ => none)
  (fun t x i C _ env h => match evO env x with
  | some v => pureV (fieldAddrV C.P t v i) h
  | none => none)
  (fun t x i C _ env h => match evO env x with
  | some v => pureV (fieldV C.P t v i) h
  | none => none)
  (fun t x i C _ env h => match evO env x, evO env i with
  | some v, some j => pureV (indexAddrV C.P t v j) h
  | _, _ => none)
  (fun t x i C _ env h => match evO env x, evO env i with
  | some v, some j => pureV (indexV C.P t v j) h
  | _, _ => none)
  (fun t x k ok C _ env h => match evO env x, evO env k with
  | some m, some j => pureV (lookupX C.P h t m j ok) h
  | _, _ => none)
  (fun t m k v C _ env h => match evO env m, evO env k, evO env v with
  | some a, some b, some c => unitV (mapUpdateV C.P h t a b c)
  | _, _, _ => none)
  (fun t m k C _ env h => match evO env m, evO env k with
  | some a, some b => mapEntryV C.P h t a b
  | _, _ => none)
  (fun _ m s v _ _ env h => match evO env m, evO env s, evO env v with
  | some a, some b, some c => unitV (entryStoreV h a b c)
  | _, _, _ => none)
  (fun t x C _ env h => match evO env x with
  | some v => rangeV C.P h t v
  | none => none)
  (fun it str _ _ env h => match evO env it with
  | some v => cond str (nextS h v) (nextV h v)
  | none => none)
  (fun it _ _ env h => match evO env it with
  | some v => pureV (entryV h v) h
  | none => none)
  (fun x _ a ok C _ env h => match evO env x with
  | some v => pureV (assertV C.P v a ok) h
  | none => none)
  (fun t i _ _ env h => match evO env t with
  | some (.tup l) => pureV (nth l i) h
  | _ => none)
  (fun c C self env h => evCall C self env h c)
  (fun _ _ _ _ _ => none)
  (fun _ _ _ _ _ => none)
  (fun _ _ _ _ _ => none)
  (fun _ _ _ _ _ _ => none)
  (fun _ _ _ _ _ _ _ => none)
  (fun _ _ _ _ _ _ => none) op
theorem opFn_eq (C : Cfg) (self : Self) (env : Env) (h : H) (o : Oper) : opFn o.op C self env h = evOp C self env h o := by
  unfold evOp
  cases o.op <;> first
    | rfl
    | (rename_i op t x y u
       have hb : ∀ (a b : Option V), (match a, b with
         | some a, some b => pureV (binF C.P h op t x y a b) h
         | _, _ => none) = (match a, b with
         | some a, some b => pureV (binV C.P h op t x y a b) h
         | _, _ => none) := fun a b => by
           cases a <;> cases b <;> first
             | rfl
             | (simp only [binF_eq])
       exact hb (evO env x) (evO env y))
def evOpsF (C : Cfg) (self : Self) (ops l : List Oper) : St → Option St := List.rec (motive := fun _ => St → Option St) (fun s => some s)
 (fun o _ ih s => Bool.rec (motive := fun _ => Option St) (Option.rec (motive := fun _ => Option St) none ih (s.put o.dst undefV s.h))
  (Option.rec (motive := fun _ => Option St) none (fun r => Option.rec (motive := fun _ => Option St) none ih (s.put o.dst r.1 r.2)) (opFn o.op C self s.env s.h)) (wantedV ops s.env o)) l
theorem evOpsF_eq (C : Cfg) (self : Self) (ops : List Oper) : ∀ (l : List Oper) (s : St), evOpsF C self ops l s = evOps C self ops l s := by
 intro l
 induction l with
 | nil => intro s; rfl
 | cons o l ih =>
  intro s
  show (Bool.rec (motive := fun _ => Option St) (Option.rec (motive := fun _ => Option St) none (evOpsF C self ops l) (s.put o.dst undefV s.h))
   (Option.rec (motive := fun _ => Option St) none (fun r => Option.rec (motive := fun _ => Option St) none (evOpsF C self ops l) (s.put o.dst r.1 r.2)) (opFn o.op C self s.env s.h)) (wantedV ops s.env o) : Option St) = _
  rw [opFn_eq, show evOpsF C self ops l = evOps C self ops l from funext ih]
  simp only [evOps]
  cases wantedV ops s.env o with
  | true =>
   cases evOp C self s.env s.h o with
   | none => rfl
   | some r =>
    obtain ⟨v, h⟩ := r
    show (Option.rec (motive := fun _ => Option St) none (evOps C self ops l) (s.put o.dst v h) : Option St) = _
    simp only [cond_true]
    cases s.put o.dst v h <;> rfl
  | false =>
   simp only [cond_false]
   cases s.put o.dst undefV s.h <;> rfl
def evStepF (c : Code) : Cfg → Self → St → Option (Ex × St) := Code.rec (motive := fun _ => Cfg → Self → St → Option (Ex × St))
 (fun _ _ s => some (.normal, s))
 (fun _ ops draw C self s => Option.rec (motive := fun _ => Option (Ex × St)) none (fun s => some (.normal, s)) (Bool.rec (motive := fun _ => Option St) (evOpsF C self ops.toList ops.toList s) (evDraw C self ops.toList s) draw))
 (fun a b _ _ _ self s => Option.rec (motive := fun _ => Option (Ex × St)) none (fun r => Ex.rec (motive := fun _ => Option (Ex × St)) (self b r.2) (fun i => some (.exit i, r.2)) (some (.ret, r.2)) r.1) (self a s))
 (fun x a b _ _ _ self s => match evO s.env x with
  | some (.bool t) => self (cond t a b) s
  | _ => none)
 (fun id c _ _ self s => match self c s with
  | some (.exit i, s') => cond (Nat.beq i id) (some (.normal, s')) (some (.exit i, s'))
  | r => r)
 (fun b _ _ self s => Option.rec (motive := fun _ => Option (Ex × St)) none (fun r => Ex.rec (motive := fun _ => Option (Ex × St)) (self (.loop b) r.2) (fun i => some (.exit i, r.2)) (some (.ret, r.2)) r.1) (self b s))
 (fun _ _ _ _ _ _ _ _ _ => none)
 (fun id _ _ s => some (.exit id, s))
 (fun b _ _ self s => self b s)
 (fun _ _ _ s => some (.normal, s))
 (fun _ _ _ _ => none)
 (fun _ _ s => some (.ret, s))
 (fun _ _ _ _ => none) c
theorem evStepF_eq (C : Cfg) (self : Self) (c : Code) (s : St) : evStepF c C self s = evStep C self c s := by
 cases c with
 | region id ops draw =>
  show (Option.rec (motive := fun _ => Option (Ex × St)) none (fun s => some (.normal, s)) (Bool.rec (motive := fun _ => Option St) (evOpsF C self ops.toList ops.toList s) (evDraw C self ops.toList s) draw) : Option (Ex × St)) = _
  rw [evOpsF_eq]
  cases draw with
  | true => simp only [evStep, cond_true]; cases evDraw C self ops.toList s <;> rfl
  | false => simp only [evStep, cond_false]; cases evOps C self ops.toList ops.toList s <;> rfl
 | seq a b =>
  show (Option.rec (motive := fun _ => Option (Ex × St)) none (fun r => Ex.rec (motive := fun _ => Option (Ex × St)) (self b r.2) (fun i => some (.exit i, r.2)) (some (.ret, r.2)) r.1) (self a s) : Option (Ex × St)) = _
  simp only [evStep]
  cases self a s with
  | none => rfl
  | some r => obtain ⟨ex, s'⟩ := r; cases ex <;> rfl
 | loop b =>
  show (Option.rec (motive := fun _ => Option (Ex × St)) none (fun r => Ex.rec (motive := fun _ => Option (Ex × St)) (self (.loop b) r.2) (fun i => some (.exit i, r.2)) (some (.ret, r.2)) r.1) (self b s) : Option (Ex × St)) = _
  simp only [evStep]
  cases self b s with
  | none => rfl
  | some r => obtain ⟨ex, s'⟩ := r; cases ex <;> rfl
 | _ => rfl
def evF (C : Cfg) (n : Nat) : Code → St → Option (Ex × St) :=
 Nat.rec (motive := fun _ => Code → St → Option (Ex × St)) (fun _ _ => none) (fun _ ih c s => evStepF c C ih s) n
theorem evF_eq (C : Cfg) : ∀ n, evF C n = ev C n := by
 intro n
 induction n with
 | zero => rfl
 | succ n ih =>
  funext c s
  show evStepF c C (evF C n) s = evStep C (ev C n) c s
  rw [ih, evStepF_eq]
def runF (C : Cfg) (n : Nat) (f : FuncId) (args : List V) (h : H) : Option (V × H) := callF C (evF C n) f args h
theorem runF_eq (C : Cfg) (n : Nat) (f : FuncId) (args : List V) (h : H) : runF C n f args h = run C n f args h := by
 unfold runF run
 rw [evF_eq]
end
def leftC : Code → Code
 | .seq a _ => a
 | c => c
def rightC : Code → Code
 | .seq _ b => b
 | c => c
end Go.Proofs.YtconhghphklfjaaGreat.Am
namespace Go.Proofs.YtconhghphklfjaaGreat.Am
open Go

/- Heaps compared. -/
section
variable (C : Cfg) (self : Self)
end
section
variable {C : Cfg} {self : Self}
end
end Go.Proofs.YtconhghphklfjaaGreat.Am
namespace Go.Proofs.YtconhghphklfjaaGreat.Am
open Go
def SelfLe (f g : Self) : Prop := ∀ c s r, f c s = some r → g c s = some r
section
variable {C : Cfg} {f g : Self}
theorem callF_mono (h : SelfLe f g) {k : Nat} {args : List V} {σ : H} {r : V × H} (hr : callF C f k args σ = some r) : callF C g k args σ = some r := by
 unfold callF at hr ⊢
 cases ht : C.told k with
 | some t => simp only [ht] at hr ⊢; exact hr
 | none =>
  simp only [ht] at hr ⊢
  cases hf : C.P.funcs[k]? with
  | none => simp [hf] at hr
  | some fn =>
   simp only [hf] at hr ⊢
   cases hb : fn.body with
   | none => simp [hb] at hr
   | some c =>
    simp only [hb] at hr ⊢
    cases hq : (fn.name == "runtime.NumGoroutine" || Nat.blt fn.ntmps args.length) with
    | true => simp [hq] at hr
    | false =>
     simp only [hq, cond_false] at hr ⊢
     cases hs : f c ⟨bindArgs args 0 .lf, fn.ntmps, σ⟩ with
     | none => simp [hs] at hr
     | some q => rw [h _ _ _ hs]; rw [hs] at hr; exact hr
theorem roundV_mono (h : SelfLe f g) {id : Nat} {args : List V} {σ : H} {r : V × H} (hr : roundV f id args σ = some r) : roundV g id args σ = some r := by
 unfold roundV at hr ⊢
 cases ho : σ.tr.get id with
 | none => simp [ho] at hr
 | some o =>
  simp only [ho] at hr ⊢
  cases o with
  | loop busy ntm env ps as bd =>
   cases busy with
   | true => cases hr
   | false =>
    simp only at hr ⊢
    cases he : bindPs ntm ps args env with
    | none => simp [he] at hr
    | some e =>
     simp only [he] at hr ⊢
     cases h1 : f as ⟨e, ntm, σ⟩ with
     | none => simp [h1] at hr
     | some q =>
      rw [h as _ _ h1]
      simp only [h1] at hr
      split at hr
      ·rename_i s₁ hq
       simp only [Option.some.injEq] at hq
       subst hq
       split at hr
       ·rename_i n₁ env₁ ps₁ as₁ bd₁ hg₁
        split at hr
        ·rename_i s₂ hs₂
         rw [h bd _ _ hs₂]
         exact hr
        ·first
          | (cases hr; done)
          | (rename_i hs₂; cases hr)
       ·cases hr
      ·cases hr
  | _ => cases hr
theorem evOp_mono (h : SelfLe f g) {env : Env} {σ : H} {o : Oper} {r : V × H} (hr : evOp C f env σ o = some r) : evOp C g env σ o = some r := by
 unfold evOp at hr ⊢
 cases hop : o.op <;> simp only [hop] at hr ⊢ <;> try exact hr
 rename_i cl
 unfold evCall at hr ⊢
 cases ha : evArgs env cl.args.toList with
 | none => simp [ha] at hr
 | some args =>
  simp only [ha] at hr ⊢
  cases hc : cl.callee with
  | builtin b => simp only [hc] at hr ⊢; exact hr
  | value x =>
   simp only [hc] at hr ⊢
   cases hx : evO env x with
   | none => simp [hx] at hr
   | some fv =>
    simp only [hx] at hr ⊢
    unfold callV at hr ⊢
    split at hr
    ·rename_i k first captured
     cases hb : hasBody C.P k with
     | true =>
      rw [hb, cond_true] at hr
      simp only [hb, cond_true]
      exact callF_mono h hr
     | false =>
      rw [hb, cond_false] at hr
      simp only [hb, cond_false]
      exact hr
    ·exact roundV_mono h hr
    ·cases hr
  | invoke x m =>
   simp only [hc] at hr ⊢
   split at hr
   ·rename_i t v hx
    try simp only [hx]
    cases hm : methV C.P t m with
    | none => simp [hm] at hr
    | some k => simp only [hm] at hr ⊢; exact callF_mono h hr
   ·cases hr
theorem evOps_mono (h : SelfLe f g) {L : List Oper} : ∀ (l : List Oper) (s s' : St), evOps C f L l s = some s' → evOps C g L l s = some s' := by
 intro l
 induction l with
 | nil => intro s s' hr; exact hr
 | cons o l ih =>
  intro s s' hr
  simp only [evOps] at hr ⊢
  cases hw : wantedV L s.env o with
  | true =>
   simp only [hw, cond_true] at hr ⊢
   cases ho : evOp C f s.env s.h o with
   | none => simp [ho] at hr
   | some q =>
    obtain ⟨v, h1⟩ := q
    rw [evOp_mono h ho]
    simp only [ho] at hr ⊢
    cases hp : s.put o.dst v h1 with
    | none => simp [hp] at hr
    | some s1 => simp only [hp] at hr ⊢; exact ih _ _ hr
  | false =>
   simp only [hw, cond_false] at hr ⊢
   cases hp : s.put o.dst undefV s.h with
   | none => simp [hp] at hr
   | some s1 => simp only [hp] at hr ⊢; exact ih _ _ hr
theorem trace_mono (h : SelfLe f g) {L : List Oper} : ∀ (l : List Oper) (s : St) (hs : List H) (r : List (Env × V) × List H × St), trace C f L l s hs = some r → trace C g L l s hs = some r := by
 intro l
 induction l with
 | nil => intro s hs r hr; exact hr
 | cons o l ih =>
  intro s hs r hr
  simp only [trace] at hr ⊢
  have key : ∀ q, cond (wantedV L s.env o) (evOp C f s.env s.h o) (some (undefV, s.h)) = some q → cond (wantedV L s.env o) (evOp C g s.env s.h o) (some (undefV, s.h)) = some q := by
   intro q hq
   cases hw : wantedV L s.env o with
   | true => simp only [hw, cond_true] at hq ⊢; exact evOp_mono h hq
   | false => simp only [hw, cond_false] at hq ⊢; exact hq
  cases hc : cond (wantedV L s.env o) (evOp C f s.env s.h o) (some (undefV, s.h)) with
  | none => simp [hc] at hr
  | some q =>
   obtain ⟨v, h1⟩ := q
   rw [key _ hc]
   simp only [hc] at hr ⊢
   cases hp : s.put o.dst v h1 with
   | none => simp [hp] at hr
   | some s1 =>
    simp only [hp] at hr ⊢
    cases ht : trace C f L l s1 (cond (isEff C o.op) (hs ++ [h1]) hs) with
    | none => simp [ht] at hr
    | some z => rw [ih _ _ _ ht]; rw [ht] at hr; exact hr
theorem sameIn_mono (h : SelfLe f g) {L : List Oper} {o : Oper} {x : Env × V} : ∀ (l : List H), sameIn C f L o x l = true → sameIn C g L o x l = true := by
 intro l
 induction l with
 | nil => intro hr; exact hr
 | cons y l ih =>
  intro hr
  simp only [sameIn] at hr ⊢
  cases hw : wantedV L x.1 o with
  | false => simp
  | true =>
   simp only [hw, cond_true] at hr ⊢
   cases ho : evOp C f x.1 y o with
   | none => simp [ho] at hr
   | some q =>
    rw [evOp_mono h ho]
    simp only [ho] at hr ⊢
    cases hb : q.1.beq x.2 with
    | false => simp only [hb] at hr; cases hr
    | true => simp only [hb, cond_true] at hr ⊢; exact ih hr
theorem stayOk_mono (h : SelfLe f g) {L : List Oper} {as es : List Nat} {hs : List H} : ∀ (l : List Oper) (tr : List (Env × V)) (i : Nat), stayOk C f L as es hs l tr i = true → stayOk C g L as es hs l tr i = true := by
 intro l
 induction l with
 | nil => intro tr i hr; cases tr <;> exact hr
 | cons o l ih =>
  intro tr i hr
  cases tr with
  | nil => exact hr
  | cons x tr =>
   simp only [stayOk] at hr ⊢
   cases he : isEff C o.op with
   | true => simp only [he, cond_true] at hr ⊢; exact ih _ _ hr
   | false =>
    simp only [he, cond_false] at hr ⊢
    cases h1 : (loGap ((nth as i).getD 0) es && Nat.beq (loOf ((nth as i).getD 0) es) (hiOf as i es)) with
    | true => simp only [h1, cond_true] at hr ⊢; exact ih _ _ hr
    | false =>
     simp only [h1, cond_false] at hr ⊢
     cases h2 : (loGap ((nth as i).getD 0) es && sameIn C f L o x ((hs.drop (loOf ((nth as i).getD 0) es)).take (hiOf as i es + 1 - loOf ((nth as i).getD 0) es))) with
     | false => rw [h2] at hr; cases hr
     | true =>
      rw [h2, cond_true] at hr
      rw [Bool.and_eq_true] at h2
      rw [h2.1, sameIn_mono h _ h2.2]
      exact ih _ _ hr
theorem evDraw_mono (h : SelfLe f g) {L : List Oper} {s s' : St} (hr : evDraw C f L s = some s') : evDraw C g L s = some s' := by
 unfold evDraw at hr ⊢
 cases hst : staticOk C L with
 | false => rw [hst] at hr; cases hr
 | true =>
  simp only [hst, cond_true] at hr ⊢
  cases ht : trace C f L L s [s.h] with
  | none => simp [ht] at hr
  | some q =>
   rw [trace_mono h _ _ _ _ ht]
   simp only [ht] at hr ⊢
   cases hq : stayOk C f L (ancs L []) (effAt C L 0) q.2.1 L q.1 0 with
   | false => rw [hq] at hr; cases hr
   | true => rw [stayOk_mono h _ _ _ hq]; rw [hq] at hr; exact hr
theorem evStep_mono (h : SelfLe f g) : SelfLe (evStep C f) (evStep C g) := by
 intro c s r hr
 cases c with
 | region id ops draw =>
  simp only [evStep] at hr ⊢
  cases draw with
  | true =>
   simp only [cond_true] at hr ⊢
   cases hd : evDraw C f ops.toList s with
   | none => simp [hd] at hr
   | some s1 => rw [evDraw_mono h hd]; rw [hd] at hr; exact hr
  | false =>
   simp only [cond_false] at hr ⊢
   cases hd : evOps C f ops.toList ops.toList s with
   | none => simp [hd] at hr
   | some s1 => rw [evOps_mono h _ _ _ hd]; rw [hd] at hr; exact hr
 | seq a b =>
  simp only [evStep] at hr ⊢
  cases ha : f a s with
  | none => simp [ha] at hr
  | some q =>
   obtain ⟨ex, s1⟩ := q
   rw [h _ _ _ ha]
   rw [ha] at hr
   cases ex with
   | normal => exact h _ _ _ hr
   | exit i => exact hr
   | ret => exact hr
 | cond x a b =>
  simp only [evStep] at hr ⊢
  split at hr
  ·exact h _ _ _ hr
  ·cases hr
 | block id b =>
  simp only [evStep] at hr ⊢
  cases ha : f b s with
  | none => simp [ha] at hr
  | some q => rw [h _ _ _ ha]; rw [ha] at hr; exact hr
 | loop b =>
  simp only [evStep] at hr ⊢
  cases ha : f b s with
  | none => simp [ha] at hr
  | some q =>
   obtain ⟨ex, s1⟩ := q
   rw [h _ _ _ ha]
   rw [ha] at hr
   cases ex with
   | normal => exact h _ _ _ hr
   | exit i => exact hr
   | ret => exact hr
 | scope b => exact h _ _ _ hr
 | _ => exact hr
theorem ev_le_succ : ∀ n, SelfLe (ev C n) (ev C (n + 1)) := by
 intro n
 induction n with
 | zero => intro c s r hr; cases hr
 | succ n ih => exact evStep_mono ih
theorem ev_mono {n m : Nat} (hle : n ≤ m) : SelfLe (ev C n) (ev C m) := by
 induction hle with
 | refl => intro c s r hr; exact hr
 | step _ ih => intro c s r hr; exact ev_le_succ _ c s r (ih c s r hr)
end
end Go.Proofs.YtconhghphklfjaaGreat.Am
