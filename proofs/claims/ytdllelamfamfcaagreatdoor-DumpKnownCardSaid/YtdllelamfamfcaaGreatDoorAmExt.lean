/- The abstract machine: functions without a body, told. -/
import Derived.Test.YtdllelamfamfcaaGreatDoorAmMore
import Derived.Lib.BytesEntry
import Derived.Laws.Externs
import Derived.WalkKit
import Derived.ProofKit
namespace Go.Proofs.YtdllelamfamfcaaGreatDoor.Am
open Go

def cmpN : List Nat → List Nat → Int
  | [], [] => 0
  | [], _ :: _ => .negSucc 0
  | _ :: _, [] => 1
  | a :: l, b :: m => cond (Nat.blt a b) (.negSucc 0) (cond (Nat.blt b a) 1 (cmpN l m))

noncomputable def byteList (h : H) : V → Option (List Nat)
  | .sl0 => some []
  | .sl id off len _ => match rdN h id off len with
    | some cs => bytesOf cs
    | none => none
  | _ => none

noncomputable def toldCmp : List V → H → Option (V × H)
  | [x, y], h => match byteList h x, byteList h y with
    | some a, some b => some (.int .i64 (cmpN a b), h)
    | _, _ => none
  | _, _ => none

theorem u8_lt {a b : Nat} (ha : a < 256) (hb : b < 256) : (UInt8.ofNat a < UInt8.ofNat b) ↔ a < b := by
  rw [UInt8.lt_iff_toNat_lt, UInt8.toNat_ofNat', UInt8.toNat_ofNat', Nat.mod_eq_of_lt ha, Nat.mod_eq_of_lt hb]

theorem cmpN_eq : ∀ (l m : List Nat), (∀ x ∈ l, x < 256) → (∀ x ∈ m, x < 256) → Lib.compareBytes (l.map UInt8.ofNat) (m.map UInt8.ofNat) = cmpN l m := by
  intro l
  induction l with
  | nil => intro m _ _; cases m <;> rfl
  | cons a l ih =>
    intro m hl hm
    cases m with
    | nil => rfl
    | cons b m =>
      have ha := hl a List.mem_cons_self
      have hb := hm b List.mem_cons_self
      simp only [List.map_cons, Lib.compareBytes, cmpN, u8_lt ha hb, u8_lt hb ha]
      by_cases h1 : a < b
      · rw [if_pos h1, blt_iff.2 h1]; rfl
      · have : Nat.blt a b = false := by
          cases hq : Nat.blt a b with
          | true => exact absurd (blt_iff.1 hq) h1
          | false => rfl
        rw [if_neg h1, this, cond_false]
        by_cases h2 : b < a
        · rw [if_pos h2, blt_iff.2 h2, cond_true]
        · have : Nat.blt b a = false := by
            cases hq : Nat.blt b a with
            | true => exact absurd (blt_iff.1 hq) h2
            | false => rfl
          rw [if_neg h2, this, cond_false]
          exact ih m (fun x hx => hl x (List.mem_cons_of_mem _ hx)) (fun x hx => hm x (List.mem_cons_of_mem _ hx))

section
variable {P : Program} {c : Ctx} {σ : H} {w : World}

theorem byteList_ok {x : V} {l : List Nat} (h : Rel c σ w) (hw : wf c x) (hl : byteList σ x = some l) :
    (∀ y ∈ l, y < 256) ∧ (Extern.Bytes.bytesOf (conc c x)).run P w = .ok ⟨(l.map UInt8.ofNat).toArray⟩ w := by
  unfold byteList at hl
  split at hl
  · simp only [Option.some.injEq] at hl
    subst hl
    refine ⟨fun y hy => (List.not_mem_nil hy).elim, ?_⟩
    simp only [conc]
    rfl
  · rename_i id off len cap
    cases hr : rdN σ id off len with
    | none => simp [hr] at hl
    | some cs =>
      simp only [hr] at hl
      obtain ⟨ns, h1, h2⟩ := bytesOf_ok (c := c) cs l hl
      obtain ⟨a, n, e1, e2, e3, e4⟩ := sl_read (P := P) h hw hr (fun h => h)
      refine ⟨fun y hy => ?_, ?_⟩
      · rw [h2] at hy
        obtain ⟨z, _, rfl⟩ := List.mem_map.1 hy
        exact Nat.mod_lt _ (by decide)
      · rw [e1]
        have hlen : ns.length = len := by
          have := congrArg List.length h1
          simp only [List.length_map] at this
          rw [← this]
          exact (rdN_ok h hr).1
        have hq := Lib.run_loadBytesX (P := P) w ns a .empty (fun j y hj => e4 j _ (by rw [h1, List.getElem?_map, hj]; rfl))
        rw [hlen] at hq
        show (Extern.Bytes.loadBytes a len .empty).run P w = _
        rw [hq]
        congr 1
        apply ByteArray.ext
        show (#[] : Array UInt8) ++ (Lib.bytesOf ns).toArray = _
        rw [h2]
        simp only [Array.empty_append, Lib.bytesOf, List.map_map]
        congr 1
        refine List.map_congr_left fun y _ => ?_
        simp only [Function.comp_apply, ofNat_mod]
  · cases hl
end

theorem cmp_run {P : Program} {x y : Value} {a b : List Nat} {w : World} (ha : ∀ z ∈ a, z < 256) (hb : ∀ z ∈ b, z < 256)
    (hx : (Extern.Bytes.bytesOf x).run P w = .ok ⟨(a.map UInt8.ofNat).toArray⟩ w) (hy : (Extern.Bytes.bytesOf y).run P w = .ok ⟨(b.map UInt8.ofNat).toArray⟩ w) :
    (Extern.BytealgCompare.compare #[x, y]).run P w = .ok (.int .i64 (cmpN a b)) w := by
  change Sem.run P (do pure (goInt (Extern.BytealgCompare.cmp (← Extern.Bytes.bytesOf x) (← Extern.Bytes.bytesOf y)))) w = _
  simp only [Sem.run_bind, Sem.run_pure, hx, hy, Result.andThen]
  rw [Lib.cmp_eq, cmpN_eq a b ha hb]
  rfl

theorem cmp_runS {P : Program} {a b : List Nat} {w : World} (ha : ∀ z ∈ a, z < 256) (hb : ∀ z ∈ b, z < 256) :
    (Extern.BytealgCompare.compare #[.string ⟨(a.map UInt8.ofNat).toArray⟩, .string ⟨(b.map UInt8.ofNat).toArray⟩]).run P w = .ok (.int .i64 (cmpN a b)) w := by
  rw [Lib.run_compareString]
  rw [show (⟨(a.map UInt8.ofNat).toArray⟩ : ByteArray).data.toList = a.map UInt8.ofNat from rfl, show (⟨(b.map UInt8.ofNat).toArray⟩ : ByteArray).data.toList = b.map UInt8.ofNat from rfl, cmpN_eq a b ha hb]

/-! ### Told functions without a body: the heap stays. -/
def toldCmpS : List V → H → Option (V × H)
  | [.str a, .str b], h => some (.int .i64 (cmpN a b), h)
  | _, _ => none
def toldBits : List V → H → Option (V × H)
  | [.flt .f64 b], h => some (.int .u64 (b : Int), h)
  | _, _ => none
def toldFrom : List V → H → Option (V × H)
  | [.int .u64 (.ofNat n)], h => some (.flt .f64 n, h)
  | _, _ => none

/-- A function without a body that is an entry of the model's. -/
theorem ext_one {P : Program} {f : Nat} {fn : Func} {g : List V → H → Option (V × H)} {e : Array Value → Sem Value} (hf : P.funcs[f]? = some fn) (hname : (fn.name == "runtime.NumGoroutine") = false)
    (hb : fn.body.isNone = true) (hn : Extern.findNext fn = none) (he : Extern.find fn = some e)
    (hg : ∀ (args : List V) (σ : H) (v : V) (σ' : H), g args σ = some (v, σ') → ∀ (c : Ctx) (w : World), Rel c σ w → (∀ x ∈ args, wf c x) →
      (e (args.map (conc c)).toArray).run P w = .ok (conc c v) w ∧ σ' = σ ∧ wf c v) : ToldOne P f g := by
  refine .inr ⟨⟨fn, hf, by cases h : fn.body <;> simp_all⟩, fun args σ v σ' hr c w h hw => ?_⟩
  obtain ⟨h1, rfl, h3⟩ := hg args σ v σ' hr c w h hw
  refine ⟨c, w, ?_, h, Stp.refl c w, h3⟩
  rw [run_callFunc_extern hf hname hb hn he, h1]
  rfl

theorem toldCmpS_ok {P : Program} (args : List V) (σ : H) (v : V) (σ' : H) (hr : toldCmpS args σ = some (v, σ')) (c : Ctx) (w : World) (_h : Rel c σ w) (hw : ∀ x ∈ args, wf c x) :
    (Extern.BytealgCompare.compare (args.map (conc c)).toArray).run P w = .ok (conc c v) w ∧ σ' = σ ∧ wf c v := by
  unfold toldCmpS at hr
  split at hr
  · rename_i a b
    simp only [Option.some.injEq, Prod.mk.injEq] at hr
    obtain ⟨rfl, rfl⟩ := hr
    have ha := hw _ List.mem_cons_self
    have hb := hw _ (List.mem_cons_of_mem _ List.mem_cons_self)
    simp only [wf] at ha hb
    refine ⟨?_, rfl, by simp only [wf]⟩
    simp only [List.map_cons, List.map_nil, conc]
    exact cmp_runS ha hb
  · cases hr

theorem toldCmpB_ok {P : Program} (args : List V) (σ : H) (v : V) (σ' : H) (hr : toldCmp args σ = some (v, σ')) (c : Ctx) (w : World) (h : Rel c σ w) (hw : ∀ x ∈ args, wf c x) :
    (Extern.BytealgCompare.compare (args.map (conc c)).toArray).run P w = .ok (conc c v) w ∧ σ' = σ ∧ wf c v := by
  unfold toldCmp at hr
  split at hr
  · rename_i x y
    cases hx : byteList σ x with
    | none => simp [hx] at hr
    | some a =>
      cases hy : byteList σ y with
      | none => simp [hx, hy] at hr
      | some b =>
        simp only [hx, hy, Option.some.injEq, Prod.mk.injEq] at hr
        obtain ⟨rfl, rfl⟩ := hr
        obtain ⟨p1, p2⟩ := byteList_ok (P := P) h (hw x List.mem_cons_self) hx
        obtain ⟨q1, q2⟩ := byteList_ok (P := P) h (hw y (List.mem_cons_of_mem _ List.mem_cons_self)) hy
        refine ⟨?_, rfl, by simp only [wf]⟩
        simp only [List.map_cons, List.map_nil, conc]
        exact cmp_run p1 q1 p2 q2
  · cases hr

theorem toldBits_ok {P : Program} (args : List V) (σ : H) (v : V) (σ' : H) (hr : toldBits args σ = some (v, σ')) (c : Ctx) (w : World) (_h : Rel c σ w) (_hw : ∀ x ∈ args, wf c x) :
    (Extern.MathFloatBits.float64bits (args.map (conc c)).toArray).run P w = .ok (conc c v) w ∧ σ' = σ ∧ wf c v := by
  unfold toldBits at hr
  split at hr
  · simp only [Option.some.injEq, Prod.mk.injEq] at hr
    obtain ⟨rfl, rfl⟩ := hr
    refine ⟨?_, rfl, by simp only [wf]⟩
    simp only [List.map_cons, List.map_nil, conc]
    rfl
  · cases hr

theorem toldFrom_ok {P : Program} (args : List V) (σ : H) (v : V) (σ' : H) (hr : toldFrom args σ = some (v, σ')) (c : Ctx) (w : World) (_h : Rel c σ w) (_hw : ∀ x ∈ args, wf c x) :
    (Extern.MathFloatBits.float64frombits (args.map (conc c)).toArray).run P w = .ok (conc c v) w ∧ σ' = σ ∧ wf c v := by
  unfold toldFrom at hr
  split at hr
  · simp only [Option.some.injEq, Prod.mk.injEq] at hr
    obtain ⟨rfl, rfl⟩ := hr
    refine ⟨?_, rfl, by simp only [wf]⟩
    simp only [List.map_cons, List.map_nil, conc]
    rfl
  · cases hr

end Go.Proofs.YtdllelamfamfcaaGreatDoor.Am
