/- The abstract machine: the same evaluator by recursors with closed branches, which the kernel turns without copying. -/
import Derived.Test.YtdllelamfamfcaaGreatDoorAmSound
namespace Go.Proofs.YtdllelamfamfcaaGreatDoor.Am
open Go
noncomputable section

def viewI (v : V) : Option (IntKind × Int) := V.rec (motive_1 := fun _ => Option (IntKind × Int)) (motive_2 := fun _ => PUnit)
  (fun _ => none) (fun k n => some (k, n)) (fun _ => none) none (fun _ _ => none) none (fun _ _ _ _ => none) none (fun _ => none) (fun _ _ _ _ _ => none) none (fun _ _ _ => none) none (fun _ _ => none) (fun _ _ => none) (fun _ => none) (fun _ _ => none)
  PUnit.unit (fun _ _ _ _ => PUnit.unit) v

def ikN (k : IntKind) : Nat := IntKind.rec 0 1 2 3 4 5 6 7 k

def intF (op : BinOp) : IntKind → Int → Int → Option V := BinOp.rec (motive := fun _ => IntKind → Int → Int → Option V)
  (fun k x y => some (.int k (k.wrap (Int.add x y))))
  (fun k x y => some (.int k (k.wrap (Int.sub x y))))
  (fun k x y => intV .mul k x y) (fun k x y => intV .quo k x y) (fun k x y => intV .rem k x y)
  (fun k x y => bitsV .and k x y) (fun k x y => bitsV .or k x y) (fun k x y => bitsV .xor k x y)
  (fun k x y => intV .shl k x y) (fun k x y => intV .shr k x y) (fun k x y => bitsV .andNot k x y)
  (fun _ x y => some (.bool (intBeq x y))) (fun _ x y => some (.bool (!intBeq x y)))
  (fun _ x y => some (.bool (decide (x < y)))) (fun _ x y => some (.bool (decide (x ≤ y)))) (fun _ x y => some (.bool (decide (x > y)))) (fun _ x y => some (.bool (decide (x ≥ y)))) op

def isShift (op : BinOp) : Bool := BinOp.rec (motive := fun _ => Bool) false false false false false false false false true true false false false false false false false op

def binF (P : Program) (h : H) (op : BinOp) (t : TypeId) (ox oy : Operand) (x y : V) : Option V :=
  Option.rec (motive := fun _ => Option V) (binV P h op t ox oy x y)
    (fun a => Option.rec (motive := fun _ => Option V) (binV P h op t ox oy x y)
      (fun b => Bool.rec (motive := fun _ => Option V) (Bool.rec (motive := fun _ => Option V) none (intF op a.1 a.2 b.2) (Nat.beq (ikN a.1) (ikN b.1))) (shiftV op a.1 a.2 b.2) (isShift op)) (viewI y)) (viewI x)

theorem ikN_eq (a b : IntKind) : Nat.beq (ikN a) (ikN b) = ikBeq a b := by cases a <;> cases b <;> rfl

theorem intF_eq (op : BinOp) (k : IntKind) (x y : Int) : intF op k x y = intV op k x y := by cases op <;> rfl

theorem binF_eq (P : Program) (h : H) (op : BinOp) (t : TypeId) (ox oy : Operand) (x y : V) : binF P h op t ox oy x y = binV P h op t ox oy x y := by
  cases x <;> try rfl
  cases y <;> try rfl
  rename_i k a j b
  show (Bool.rec (motive := fun _ => Option V) (Bool.rec (motive := fun _ => Option V) none (intF op k a b) (Nat.beq (ikN k) (ikN j))) (shiftV op k a b) (isShift op) : Option V) = _
  rw [ikN_eq, intF_eq]
  cases op <;> first
    | rfl
    | (cases hq : ikBeq k j <;> simp [binV, hq, isShift])

def opFn (op : Op) : Cfg → Self → Env → H → Option (V × H) := Op.rec (motive := fun _ => Cfg → Self → Env → H → Option (V × H))
    (fun x _ _ env h => pureV (evO env x) h)
    (fun x _ _ env h => pureV (evO env x) h)
    (fun c a b _ _ env h => match evO env c with
    | some (.bool t) => pureV (evO env (cond t a b)) h
    | _ => none)
    (fun t C _ _ h => match zeroT C.P t with
    | some z => some (.ptr h.next 0, newRow h z.cells)
    | none => none)
    (fun _ x _ _ env h => match evO env x with
    | some v => cond (v.cells.all storable) (some (.ptr h.next 0, newRow h v.cells)) none
    | none => none)
    (fun t ps C _ env h => match evParts env ps.toList with
    | some l => pureV (buildV C.P t l) h
    | none => none)
    (fun t n ps C _ env h => match evParts env ps.toList with
    | some l => buildSliceV C.P h t n l
    | none => none)
    (fun t m k v C _ env h => match evO env m, evO env k, evO env v with
    | some a, some b, some c => unitV (mapUpdateV C.P h t a b c)
    | _, _, _ => none)
    (fun t a C _ env h => match evO env a with
    | some v => pureV (loadV C.P h t v) h
    | none => none)
    (fun t a x C _ env h => match evO env a, evO env x with
    | some p, some v => unitV (storeV C.P h t p v)
    | _, _ => none)
    (fun _ _ _ _ _ => none)
    (fun _ _ _ _ _ => none)
    (fun x _ _ env h => match evO env x with
    | some (.ptr a b) => some (.ptr a b, h)
    | _ => none)
    (fun op t x y _ C _ env h => match evO env x, evO env y with
    | some a, some b => pureV (binF C.P h op t x y a b) h
    | _, _ => none)
    (fun op _ x _ _ env h => match evO env x with
    | some a => pureV (unV op a) h
    | none => none)
    (fun s d x C _ env h => match evO env x with
    | some a => match convV C.P h s d a with
      | some r => some r
      | none => convB C.P h s d a
    | none => none)
    (fun d x C _ env h => match evO env x with
    | some a => pureV (arrPtrV C.P d a) h
    | none => none)
    (fun t x C _ env h => match evO env x with
    | some a => pureV (makeIfaceV C.P t a) h
    | none => none)
    (fun f a b _ _ env h => match evArgs env a.toList, evArgs env b.toList with
    | some x, some y => some (.fn f x y, h)
    | _, _ => none)
    (fun _ r _ _ _ h => match r with
    | none => some (.map h.next, h.new (.map [] 0))
    | some _ => none)
    (fun _ _ _ _ _ _ => none)
    (fun t l c C _ env h => match evO env l, evO env c with
    | some a, some b => makeSliceV C.P h t a b
    | _, _ => none)
    (fun t x lo hi mx C _ env h => match evO env x, optV env lo, optV env hi, optV env mx with
    | some v, some a, some b, some c => match optB a, optB b, optB c with
      | some a, some b, some c => pureV (sliceV C.P h t v a b c) h
      | _, _, _ => none
    | _, _, _, _ => none)
    (fun t x i C _ env h => match evO env x with
    | some v => pureV (fieldAddrV C.P t v i) h
    | none => none)
    (fun t x i C _ env h => match evO env x with
    | some v => pureV (fieldV C.P t v i) h
    | none => none)
    (fun t x i C _ env h => match evO env x, evO env i with
    | some v, some j => pureV (indexAddrV C.P t v j) h
    | _, _ => none)
    (fun t x i C _ env h => match evO env x, evO env i with
    | some v, some j => pureV (indexV C.P t v j) h
    | _, _ => none)
    (fun t x k ok C _ env h => match evO env x, evO env k with
    | some m, some j => pureV (lookupX C.P h t m j ok) h
    | _, _ => none)
    (fun t m k v C _ env h => match evO env m, evO env k, evO env v with
    | some a, some b, some c => unitV (mapUpdateV C.P h t a b c)
    | _, _, _ => none)
    (fun t m k C _ env h => match evO env m, evO env k with
    | some a, some b => mapEntryV C.P h t a b
    | _, _ => none)
    (fun _ m s v _ _ env h => match evO env m, evO env s, evO env v with
    | some a, some b, some c => unitV (entryStoreV h a b c)
    | _, _, _ => none)
    (fun t x C _ env h => match evO env x with
    | some v => rangeV C.P h t v
    | none => none)
    (fun it str _ _ env h => match evO env it with
    | some v => cond str (nextS h v) (nextV h v)
    | none => none)
    (fun it _ _ env h => match evO env it with
    | some v => pureV (entryV h v) h
    | none => none)
    (fun x _ a ok C _ env h => match evO env x with
    | some v => pureV (assertV C.P v a ok) h
    | none => none)
    (fun t i _ _ env h => match evO env t with
    | some (.tup l) => pureV (nth l i) h
    | _ => none)
    (fun c C self env h => evCall C self env h c)
    (fun _ _ _ _ _ => none)
    (fun _ _ _ _ _ => none)
    (fun _ _ _ _ _ => none)
    (fun _ _ _ _ _ _ => none)
    (fun _ _ _ _ _ _ _ => none)
    (fun _ _ _ _ _ _ => none) op

theorem opFn_eq (C : Cfg) (self : Self) (env : Env) (h : H) (o : Oper) : opFn o.op C self env h = evOp C self env h o := by
  unfold evOp
  cases o.op <;> first
    | rfl
    | (rename_i op t x y u
       have hb : ∀ (a b : Option V), (match a, b with
         | some a, some b => pureV (binF C.P h op t x y a b) h
         | _, _ => none) = (match a, b with
         | some a, some b => pureV (binV C.P h op t x y a b) h
         | _, _ => none) := fun a b => by
           cases a <;> cases b <;> first
             | rfl
             | (simp only [binF_eq])
       exact hb (evO env x) (evO env y))

def evOpsF (C : Cfg) (self : Self) (ops l : List Oper) : St → Option St := List.rec (motive := fun _ => St → Option St) (fun s => some s)
  (fun o _ ih s => Bool.rec (motive := fun _ => Option St) (Option.rec (motive := fun _ => Option St) none ih (s.put o.dst undefV s.h))
    (Option.rec (motive := fun _ => Option St) none (fun r => Option.rec (motive := fun _ => Option St) none ih (s.put o.dst r.1 r.2)) (opFn o.op C self s.env s.h)) (wantedV ops s.env o)) l

theorem evOpsF_eq (C : Cfg) (self : Self) (ops : List Oper) : ∀ (l : List Oper) (s : St), evOpsF C self ops l s = evOps C self ops l s := by
  intro l
  induction l with
  | nil => intro s; rfl
  | cons o l ih =>
    intro s
    show (Bool.rec (motive := fun _ => Option St) (Option.rec (motive := fun _ => Option St) none (evOpsF C self ops l) (s.put o.dst undefV s.h))
      (Option.rec (motive := fun _ => Option St) none (fun r => Option.rec (motive := fun _ => Option St) none (evOpsF C self ops l) (s.put o.dst r.1 r.2)) (opFn o.op C self s.env s.h)) (wantedV ops s.env o) : Option St) = _
    rw [opFn_eq, show evOpsF C self ops l = evOps C self ops l from funext ih]
    simp only [evOps]
    cases wantedV ops s.env o with
    | true =>
      cases evOp C self s.env s.h o with
      | none => rfl
      | some r =>
        obtain ⟨v, h⟩ := r
        show (Option.rec (motive := fun _ => Option St) none (evOps C self ops l) (s.put o.dst v h) : Option St) = _
        simp only [cond_true]
        cases s.put o.dst v h <;> rfl
    | false =>
      simp only [cond_false]
      cases s.put o.dst undefV s.h <;> rfl

def evStepF (c : Code) : Cfg → Self → St → Option (Ex × St) := Code.rec (motive := fun _ => Cfg → Self → St → Option (Ex × St))
  (fun _ _ s => some (.normal, s))
  (fun _ ops draw C self s => Option.rec (motive := fun _ => Option (Ex × St)) none (fun s => some (.normal, s)) (Bool.rec (motive := fun _ => Option St) (evOpsF C self ops.toList ops.toList s) (evDraw C self ops.toList s) draw))
  (fun a b _ _ _ self s => Option.rec (motive := fun _ => Option (Ex × St)) none (fun r => Ex.rec (motive := fun _ => Option (Ex × St)) (self b r.2) (fun i => some (.exit i, r.2)) (some (.ret, r.2)) r.1) (self a s))
  (fun x a b _ _ _ self s => match evO s.env x with
    | some (.bool t) => self (cond t a b) s
    | _ => none)
  (fun id c _ _ self s => match self c s with
    | some (.exit i, s') => cond (Nat.beq i id) (some (.normal, s')) (some (.exit i, s'))
    | r => r)
  (fun b _ _ self s => Option.rec (motive := fun _ => Option (Ex × St)) none (fun r => Ex.rec (motive := fun _ => Option (Ex × St)) (self (.loop b) r.2) (fun i => some (.exit i, r.2)) (some (.ret, r.2)) r.1) (self b s))
  (fun _ _ _ _ _ _ _ _ _ => none)
  (fun id _ _ s => some (.exit id, s))
  (fun b _ _ self s => self b s)
  (fun _ _ _ s => some (.normal, s))
  (fun _ _ _ _ => none)
  (fun _ _ s => some (.ret, s))
  (fun _ _ _ _ => none) c

theorem evStepF_eq (C : Cfg) (self : Self) (c : Code) (s : St) : evStepF c C self s = evStep C self c s := by
  cases c with
  | region id ops draw =>
    show (Option.rec (motive := fun _ => Option (Ex × St)) none (fun s => some (.normal, s)) (Bool.rec (motive := fun _ => Option St) (evOpsF C self ops.toList ops.toList s) (evDraw C self ops.toList s) draw) : Option (Ex × St)) = _
    rw [evOpsF_eq]
    cases draw with
    | true => simp only [evStep, cond_true]; cases evDraw C self ops.toList s <;> rfl
    | false => simp only [evStep, cond_false]; cases evOps C self ops.toList ops.toList s <;> rfl
  | seq a b =>
    show (Option.rec (motive := fun _ => Option (Ex × St)) none (fun r => Ex.rec (motive := fun _ => Option (Ex × St)) (self b r.2) (fun i => some (.exit i, r.2)) (some (.ret, r.2)) r.1) (self a s) : Option (Ex × St)) = _
    simp only [evStep]
    cases self a s with
    | none => rfl
    | some r => obtain ⟨ex, s'⟩ := r; cases ex <;> rfl
  | loop b =>
    show (Option.rec (motive := fun _ => Option (Ex × St)) none (fun r => Ex.rec (motive := fun _ => Option (Ex × St)) (self (.loop b) r.2) (fun i => some (.exit i, r.2)) (some (.ret, r.2)) r.1) (self b s) : Option (Ex × St)) = _
    simp only [evStep]
    cases self b s with
    | none => rfl
    | some r => obtain ⟨ex, s'⟩ := r; cases ex <;> rfl
  | _ => rfl

def evF (C : Cfg) (n : Nat) : Code → St → Option (Ex × St) :=
  Nat.rec (motive := fun _ => Code → St → Option (Ex × St)) (fun _ _ => none) (fun _ ih c s => evStepF c C ih s) n

theorem evF_eq (C : Cfg) : ∀ n, evF C n = ev C n := by
  intro n
  induction n with
  | zero => rfl
  | succ n ih =>
    funext c s
    show evStepF c C (evF C n) s = evStep C (ev C n) c s
    rw [ih, evStepF_eq]

def runF (C : Cfg) (n : Nat) (f : FuncId) (args : List V) (h : H) : Option (V × H) := callF C (evF C n) f args h

theorem runF_eq (C : Cfg) (n : Nat) (f : FuncId) (args : List V) (h : H) : runF C n f args h = run C n f args h := by
  unfold runF run
  rw [evF_eq]

end
def leftC : Code → Code
  | .seq a _ => a
  | c => c
def rightC : Code → Code
  | .seq _ b => b
  | c => c

end Go.Proofs.YtdllelamfamfcaaGreatDoor.Am
