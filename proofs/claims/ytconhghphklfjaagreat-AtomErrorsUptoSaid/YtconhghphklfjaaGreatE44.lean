/- A group that is over or open, pages that are none and records that may not be are refused, and a record that was done is read back; the conditions are those of the given statement, for arguments that a machine can hold. Part 44 of 44. -/
import Derived.Test.YtconhghphklfjaaGreatE33
import Derived.Test.YtconhghphklfjaaGreatE43
import Derived.WalkKit
import Derived.ProofKit
import Derived.OpenShut
import Derived.ChangeSlices
import Derived.Test.YtconhghphklfjaaGreatRows
import Derived.JoinedCond
import Derived.ChangeBook
import Derived.ChangeStays
namespace Go.Proofs.YtconhghphklfjaaGreat.Am
open Go
set_option maxRecDepth 10000000 in
set_option maxHeartbeats 0 in
theorem awake_runs : isTrue (runF CB 100000 11 [] ⟨0, .lf⟩) = true := by kernel_rfl
noncomputable def toldAw : List V → H → Option (V × H)
 | [], h => some (.bool true, h)
 | _, _ => none
theorem Rel.grown {c : Ctx} {σ : H} {w w' : World} (h : Rel c σ w) (hs : w.heap.size ≤ w'.heap.size) (hb : ∀ b, b < w.heap.size → w'.heap[b]? = w.heap[b]?) (ho : w'.os = w.os ∧ w'.output = w.output) : Rel c σ w' ∧ Stp c w c w' := by
 have rows : ∀ b, b < w.heap.size → rowSize w' b = rowSize w b := fun b hlt => by unfold rowSize; rw [hb b hlt]
 refine ⟨⟨h.next, h.live, fun id hi => Nat.lt_of_lt_of_le (h.blk id hi) hs, fun id hi => by rw [rows _ (h.blk id hi)]; exact h.zz id hi, h.inj,
  fun id o ho => (h.obj id o ho).later (Ext.refl c) (h.live id o ho) (hb _ (h.blk id (h.live id o ho))), h.one, h.fx⟩,
  ⟨Ext.refl c, hs, rows, fun b hlt _ => hb b hlt, fun id h1 h2 => by omega, ho⟩⟩
theorem toldAw_ok : ToldOne Tryz.prog 11 toldAw := by
 refine .inl ⟨⟨_, Tryz.func11, rfl, by decide⟩, fun args σ v σ' hr c w h hw => ?_⟩
 unfold toldAw at hr
 split at hr
 ·simp only [Option.some.injEq, Prod.mk.injEq] at hr
  obtain ⟨rfl, rfl⟩ := hr
  have hrun := awake_runs
  rw [runF_eq] at hrun
  cases hq : run CB 100000 11 [] ⟨0, .lf⟩ with
  | none => rw [hq] at hrun; cases hrun
  | some x =>
   obtain ⟨v, h'⟩ := x
   rw [hq] at hrun
   have hv : v = .bool true := by
    unfold isTrue at hrun
    split at hrun
    ·rename_i he; simp only [Option.some.injEq, Prod.mk.injEq] at he; exact he.1
    ·cases hrun
   subst hv
   have := run_ok (C := CB) mixedB toldB_ok hq (Rel.empty w) (fun x hx => by cases hx)
   unfold CallOk at this ⊢
   refine Calls.mono this ?_
   rintro e w' ⟨c', rfl, _, _, hs⟩
   obtain ⟨g1, g2⟩ := h.grown hs.size (fun b hb => hs.keep b hb fun id hid => absurd hid (Nat.not_lt_zero _)) hs.sys
   exact ⟨c, rfl, trivial, g1, g2⟩
 ·cases hr
end Go.Proofs.YtconhghphklfjaaGreat.Am
namespace Go.Proofs.YtconhghphklfjaaGreat.Am
open Go
noncomputable def toldL (f : Nat) : Option (List V → H → Option (V × H)) :=
 cond (Nat.beq f 11) (some toldAw) (cond (Nat.beq f 75) (some (toldIf Tryz.prog 75 pinSync))
  (cond (Nat.beq f 76) (some (toldIf Tryz.prog 76 pinDel)) (toldB f)))
noncomputable abbrev CL : Cfg := ⟨Tryz.prog, toldL⟩
theorem toldL_w3 : W3 toldL := by
 refine ⟨⟨⟨fun f hf => ?_, rfl, rfl⟩, rfl, rfl⟩, toldAw, rfl, fun _ => rfl⟩
 have h1 : f ≠ 11 := fun e => by subst e; revert hf; decide
 have h2 : f ≠ 75 := fun e => by subst e; revert hf; decide
 have h3 : f ≠ 76 := fun e => by subst e; revert hf; decide
 simp only [toldL, beqF h1, beqF h2, beqF h3, cond_false]
 exact W.base.free f hf
theorem toldL_ok : ToldOk CL := by
 intro f g hg
 simp only [CL, toldL] at hg ⊢
 by_cases h1 : f = 11
 ·subst h1
  rw [beqT rfl, cond_true] at hg
  simp only [Option.some.injEq] at hg
  subst hg
  exact toldAw_ok
 ·rw [beqF h1, cond_false] at hg
  by_cases h2 : f = 75
  ·subst h2
   rw [beqT rfl, cond_true] at hg
   simp only [Option.some.injEq] at hg
   subst hg
   exact toldIf_ok ⟨_, Tryz.func75, rfl, by decide⟩
  ·rw [beqF h2, cond_false] at hg
   by_cases h3 : f = 76
   ·subst h3
    rw [beqT rfl, cond_true] at hg
    simp only [Option.some.injEq] at hg
    subst hg
    exact toldIf_ok ⟨_, Tryz.func76, rfl, by decide⟩
   ·rw [beqF h3, cond_false] at hg
    exact toldB_ok f g hg
def AllX (c : Ctx) : Prop := ∀ id, id < c.N → c.X id = true
noncomputable def Ctx.fix (c : Ctx) (w : World) (b off : Nat) : Ctx := ⟨fun i => if i = c.N then (b, off) else c.ρ i, fun x => if x = b then rowSize w b else c.Z x, c.N + 1, fun i => if i = c.N then true else c.X i⟩
theorem Rel.fix {c : Ctx} {σ : H} {w : World} (h : Rel c σ w) (hX : AllX c) {b off : Nat} {cs : List V} {C : Array Value} {e : TypeId} {fz : Nat × Nat} (hb : w.heap[b]? = some (.cells C e fz)) (hl : off + cs.length ≤ C.size)
  (hc : ∀ j v, cs[j]? = some v → C[off + j]? = some (conc c v)) (hwf : ∀ v ∈ cs, wf c v ∧ storable v = true) :
  Rel (c.fix w b off) (σ.new (.cells cs.length cs true)) w ∧ AllX (c.fix w b off) ∧ Ext c (c.fix w b off) ∧ (c.fix w b off).ρ σ.next = (b, off) ∧ σ.next < (c.fix w b off).N := by
 have hold : ∀ i, i < c.N → (c.fix w b off).ρ i = c.ρ i := fun i hi => by simp [Ctx.fix, Nat.ne_of_lt hi]
 have hoX : ∀ i, i < c.N → (c.fix w b off).X i = c.X i := fun i hi => by simp [Ctx.fix, Nat.ne_of_lt hi]
 have hnew : (c.fix w b off).ρ c.N = (b, off) := by simp [Ctx.fix]
 have hnX : (c.fix w b off).X c.N = true := by simp [Ctx.fix]
 have hN : (c.fix w b off).N = c.N + 1 := rfl
 have hlt : b < w.heap.size := (Array.getElem?_eq_some_iff.1 hb).1
 have hall : AllX (c.fix w b off) := fun i hi => by
  by_cases h1 : i = c.N
  ·rw [h1]; exact hnX
  ·rw [hoX i (by rw [hN] at hi; omega)]; exact hX i (by rw [hN] at hi; omega)
 have ex : Ext c (c.fix w b off) := ⟨by rw [hN]; omega, hold, fun i hi => by
  show (if (c.ρ i).1 = b then rowSize w b else c.Z (c.ρ i).1) = _
  split
  ·rename_i he; rw [h.zz i hi, he]
  ·rfl, hoX⟩
 have key : ∀ i o, (σ.new (.cells cs.length cs true)).tr.get i = some o → (i = c.N ∧ o = .cells cs.length cs true) ∨ (i < c.N ∧ σ.tr.get i = some o) := by
  intro i o hi
  rw [get_new, h.next] at hi
  by_cases h1 : i = c.N
  ·simp [h1] at hi; exact .inl ⟨h1, hi.symm⟩
  ·simp [h1] at hi; exact .inr ⟨h.live i o hi, hi⟩
 refine ⟨⟨by simp [H.new, h.next, hN], fun i o hi => ?_, fun i hi => ?_, fun i hi => ?_, fun i j o o' hi hj he => ?_, fun i o hi => ?_, fun i cs₁ st₁ hi hx => ?_, fun i o hi hx => ?_⟩, hall, ex, by rw [h.next]; exact hnew, by rw [h.next, hN]; omega⟩
 ·rw [hN]; rcases key i o hi with ⟨h1, _⟩ | ⟨h1, _⟩ <;> omega
 ·rw [hN] at hi
  by_cases h1 : i = c.N
  ·rw [h1, hnew]; exact hlt
  ·rw [hold i (by omega)]; exact h.blk i (by omega)
 ·rw [hN] at hi
  by_cases h1 : i = c.N
  ·rw [h1, hnew]; show (if b = b then rowSize w b else c.Z b) = _; rw [if_pos rfl]
  ·rw [hold i (by omega)]
   show (if (c.ρ i).1 = b then rowSize w b else c.Z (c.ρ i).1) = _
   split
   ·rename_i he; rw [he]
   ·exact h.zz i (by omega)
 ·have li : i < c.N + 1 := by rcases key i o hi with ⟨h1, _⟩ | ⟨h1, _⟩ <;> omega
  have lj : j < c.N + 1 := by rcases key j o' hj with ⟨h1, _⟩ | ⟨h1, _⟩ <;> omega
  exact .inr ⟨hall i (by rw [hN]; exact li), hall j (by rw [hN]; exact lj)⟩
 ·rcases key i o hi with ⟨rfl, rfl⟩ | ⟨a1, a2⟩
  ·refine ⟨rfl, fun v hv => ⟨(conc_ext ex v (hwf v hv).1).2, (hwf v hv).2⟩, C, e, fz, by rw [hnew]; exact hb, by rw [hnew]; exact hl, fun j v hj => ?_, trivial⟩
   rw [hnew, (conc_ext ex v (hwf v (List.mem_of_getElem? hj)).1).1]
   exact hc j v hj
  ·exact (h.obj i o a2).later ex a1 rfl
 ·have li : i < c.N + 1 := by rcases key i _ hi with ⟨h1, _⟩ | ⟨h1, _⟩ <;> omega
  rw [hall i (by rw [hN]; exact li)] at hx; cases hx
 ·rcases key i o hi with ⟨_, rfl⟩ | ⟨a1, a2⟩
  ·exact ⟨_, _, rfl⟩
  ·rw [hoX i a1] at hx; exact h.fx i o a2 hx
theorem kept_of_fix {c c' : Ctx} {w w' : World} (hX : AllX c) (h : Stp c w c' w') : w.keptBut w' (fun _ => False) ∧ w.heap.size ≤ w'.heap.size ∧ ∀ b, b < w.heap.size → w'.heap[b]? = w.heap[b]? := by
 have hk : ∀ b, b < w.heap.size → w'.heap[b]? = w.heap[b]? := fun b hb => h.keep b hb fun id hid _ => hX id hid
 refine ⟨⟨h.sys.1, h.sys.2, fun i hi => ?_⟩, h.size, hk⟩
 rw [hk i hi]
 split <;> simp_all
end Go.Proofs.YtconhghphklfjaaGreat.Am
namespace Go.Proofs.YtconhghphklfjaaGreat.Am
open Go Go.ChangeShapes
def Redy (W : World) (S : List Assn) (c : Ctx) (σ : H) : Prop := Rel c σ W ∧ AllX c ∧ Sat σ S
theorem Redy.zero (W : World) : ∃ c σ, Redy W [] c σ := by
 refine ⟨_, _, Rel.empty W, fun id h => absurd h (Nat.not_lt_zero _), ⟨fun id o h => by simp [T.get_lf] at h, fun _ => none, fun _ => none, fun _ _ h => (by cases h), fun _ _ h => (by cases h), fun _ => .inl rfl, trivial⟩⟩
theorem Redy.sat {W : World} {S S' : List Assn} {c : Ctx} {σ : H} (h : Redy W S c σ) (hs : ∀ h, Sat h S → Sat h S') : Redy W S' c σ := ⟨h.1, h.2.1, hs σ h.2.2⟩
def Opn {α : Type} (W : World) (cs : List Value) (E : List V → α → Assn) (φ : α → Prop) : Prop :=
 ∀ (c : Ctx) (σ : H) (S : List Assn), Redy W S c σ → ∃ (c' : Ctx) (σ' : H) (vs : List V) (x : α), Redy W (E vs x :: S) c' σ' ∧ Ext c c' ∧ vs.map (conc c') = cs ∧ (∀ v ∈ vs, wf c' v ∧ storable v = true) ∧ φ x
def byE (vs : List V) (l : List Nat) : Assn := .xs fun v : V => .an (.pu (vs = [v])) (.rob v l)
theorem cell_inv {W : World} {a : Addr} {v : Value} (h : W.cell? a = some v) : ∃ b off, a = ⟨b, off, none⟩ ∧ ∃ C e fz, W.heap[b]? = some (.cells C e fz) ∧ C[off]? = some v := by
 obtain ⟨b, off, spot⟩ := a
 have hs : spot = none := World.cell?_spot h
 subst hs
 refine ⟨b, off, rfl, ?_⟩
 unfold World.cell? at h
 split at h
 ·rename_i C e fz hb
  exact ⟨C, e, fz, hb, by simpa using h⟩
 ·cases h
end Go.Proofs.YtconhghphklfjaaGreat.Am
namespace Go.Proofs.YtconhghphklfjaaGreat.Am
open Go Go.ChangeShapes Go.WideShapes Go.ChangeAt Go.RowKit
theorem bulk_pos {H : Type} (d : DataW H) : 1 ≤ Rows.uptoBulk d := by
 cases d with
 | lit l => cases l <;> simp [Rows.uptoBulk]
 | nil => simp [Rows.uptoBulk]
 | ptr d => simp [Rows.uptoBulk]
 | slice elems spare => simp [Rows.uptoBulk]
 | agg parts => simp [Rows.uptoBulk]
 | iface t d => simp [Rows.uptoBulk]
 | map entries => simp [Rows.uptoBulk]
 | held h => simp [Rows.uptoBulk]
theorem bulk_part {H : Type} {d : DataW H} : ∀ {l : List (DataW H)}, d ∈ l → Rows.uptoBulk d ≤ Rows.uptoBulkAll l := by
 intro l
 induction l with
 | nil => intro h; cases h
 | cons x r ih =>
  intro h
  simp only [Rows.uptoBulkAll]
  rcases List.mem_cons.1 h with e | e
  ·subst e; omega
  ·have := ih e; omega
theorem bulk_len {H : Type} : ∀ (l : List (DataW H)), l.length ≤ Rows.uptoBulkAll l := by
 intro l
 induction l with
 | nil => exact Nat.zero_le _
 | cons x r ih => have := bulk_pos x; simp only [Rows.uptoBulkAll, List.length_cons]; omega
theorem bulk_slice {H : Type} (a b : List (DataW H)) : Rows.uptoBulk (.slice a b) = Rows.uptoBulkAll a + Rows.uptoBulkAll b + 1 := by simp only [Rows.uptoBulk]
theorem cell_at {W : World} {b o : Nat} {C : Array Value} {e : TypeId} {fz : Nat × Nat} (hb : W.heap[b]? = some (.cells C e fz)) : W.cell? ⟨b, o, none⟩ = C[o]? := by
 unfold World.cell?
 simp only [hb]
 rfl
section
variable {H' : Type} {enc : TypeId × Value → H'} {W : World} {fuel B : Nat} {cs : List Value} {x : DataW H' × List MemPlace}
theorem open_by (h : DataW.trod enc Tryz.prog W 0 (fun _ => true) true fuel 32 cs = some x) (hB : Rows.uptoBulk x.1 ≤ B) : Opn W cs byE (fun l => l.length ≤ B) := by
 rcases open_ints Tryz.underlying32 Tryz.underlying5 (by kernel_rfl) h with ⟨rfl, rfl⟩ | ⟨a, len, cap, zs, rfl, _, hlc, _, hz, rfl, hcell, hwf⟩
 ·exact fun c σ S h => ⟨c, σ, [.sl0], [], h.sat fun h s => s.nilRo.ent fun m r k => ⟨.sl0, rfl, k⟩, Ext.refl c, by simp [conc], fun v hv => by rw [List.mem_singleton.1 hv]; exact ⟨trivial, rfl⟩, Nat.zero_le _⟩
 ·rw [if_pos rfl] at hz
  by_cases h0 : cap = 0
  ·have : len = 0 := by omega
   subst this
   subst h0
   exact fun c σ S h => ⟨c, σ, [.sle a], [], h.sat fun h s => (s.addPu (φ := True) trivial).ent fun m r k => ⟨.sle a, rfl, by simp, .inl ⟨.inr ⟨a, rfl⟩, rfl⟩⟩, Ext.refl c, by simp [conc], fun v hv => by rw [List.mem_singleton.1 hv]; exact ⟨trivial, rfl⟩, Nat.zero_le _⟩
  ·have g0 := hcell 0 (by omega)
   obtain ⟨b, off, spot⟩ := a
   have hs : spot = none := by simpa [Addr.add] using World.cell?_spot g0
   subst hs
   have hcell : ∀ i, i < zs.length → W.cell? ⟨b, off + i, none⟩ = some (.int .u8 (zs.getD i 0)) := fun i hi => by have := hcell i hi; rwa [add_plain] at this
   obtain ⟨b', off', he, C, e, fz, hb, hc0⟩ := cell_inv (hcell 0 (by omega))
   simp only [Addr.mk.injEq, and_true] at he
   obtain ⟨rfl, rfl⟩ := he
   have hC : ∀ i, i < zs.length → C[off + i]? = some (.int .u8 (zs.getD i 0)) := fun i hi => by rw [← cell_at hb]; exact hcell i hi
   have hoff : off < C.size := by
    have := (Array.getElem?_eq_some_iff.1 hc0).1
    omega
   have hu8 : ∀ z ∈ zs, 0 ≤ z ∧ z < 256 := fun z hz => by
    have := hwf z hz
    simp only [Lit.wf, Bool.and_eq_true, decide_eq_true_eq] at this
    have e1 : IntKind.min .u8 = 0 := rfl
    have e2 : IntKind.max .u8 = 255 := rfl
    omega
   have hll : ((zs.take len).map Int.toNat).length = len := by rw [List.length_map, List.length_take]; omega
   have hob : (ofBytes ((zs.take len).map Int.toNat)).length = len := by rw [ofBytes_len, hll]
   have h256 : ∀ y ∈ (zs.take len).map Int.toNat, y < 256 := fun y hy => by
    obtain ⟨z, hz1, rfl⟩ := List.mem_map.1 hy
    have := hu8 z (List.mem_of_mem_take hz1)
    omega
   intro c σ S h
   have hfit : off + (ofBytes ((zs.take len).map Int.toNat)).length ≤ C.size := by
    rw [hob]
    by_cases hl0 : len = 0
    ·omega
    ·have := (Array.getElem?_eq_some_iff.1 (hC (len - 1) (by omega))).1
     omega
   have hrep : ∀ j v, (ofBytes ((zs.take len).map Int.toNat))[j]? = some v → C[off + j]? = some (conc c v) := fun j v hv => by
    have hj := (List.getElem?_eq_some_iff.1 hv).1
    rw [hob] at hj
    rw [hC j (by omega)]
    simp only [ofBytes, List.map_map, List.getElem?_map, List.getElem?_take, if_pos hj] at hv
    have hz2 : zs[j]? = some (zs[j]'(by omega)) := List.getElem?_eq_getElem _
    rw [hz2] at hv
    have hv := Option.some.inj hv
    subst hv
    have hb := hu8 (zs[j]'(by omega)) (List.getElem_mem _)
    have hd : zs.getD j 0 = zs[j]'(by omega) := by rw [List.getD_eq_getElem?_getD, hz2]; rfl
    rw [hd]
    simp only [Function.comp, conc]
    congr 2
    omega
   obtain ⟨g1, g2, g3, g4, g5⟩ := h.1.fix h.2.1 hb (off := off) hfit hrep (fun v hv => by obtain ⟨n, _, rfl⟩ := List.mem_map.1 hv; exact ⟨trivial, rfl⟩)
   refine ⟨_, _, [.sl σ.next 0 len (.exact cap)], (zs.take len).map Int.toNat, ⟨g1, g2, ?_⟩, g3, ?_, fun v hv => ?_, ?_⟩
   ·have s1 := (h.2.2.new (.cells (ofBytes ((zs.take len).map Int.toNat)).length (ofBytes ((zs.take len).map Int.toNat)) true)).freeze
    refine s1.ent fun m r k => ⟨_, rfl, h256, .inr ⟨σ.next, 0, .exact cap, _, _, true, by rw [hll], k, rfl, by rw [hob, hll]; omega, ?_, ?_⟩⟩
    ·rw [List.drop_zero]; exact List.take_of_length_le (by rw [hob, hll]; exact Nat.le_refl _)
    ·show _ ≤ cap; rw [hll]; exact hlc
   ·simp [conc, g4]
   ·rw [List.mem_singleton.1 hv]
    exact ⟨⟨g5, hlc⟩, rfl⟩
   ·rw [bulk_slice] at hB
    have h1 := bulk_len (lits (H := H') .u8 (zs.take len))
    have h2 : (lits (H := H') .u8 (zs.take len)).length = len := by simp [lits]; omega
    rw [hll]; omega
end
end Go.Proofs.YtconhghphklfjaaGreat.Am
namespace Go.Proofs.YtconhghphklfjaaGreat.Am
open Go Go.ChangeShapes Go.WideShapes Go.ChangeAt Go.RowKit
theorem map_one {α β : Type} {f : α → β} {l : List α} {b : β} (h : l.map f = [b]) : ∃ a, l = [a] ∧ f a = b := by
 rcases l with _ | ⟨a, _ | ⟨c, l⟩⟩
 ·cases h
 ·simp at h; exact ⟨a, rfl, h⟩
 ·simp at h
section
variable {H' : Type} {enc : TypeId × Value → H'} {W : World} {fuel B : Nat} {cs : List Value} {x : DataW H' × List MemPlace}
end
end Go.Proofs.YtconhghphklfjaaGreat.Am
namespace Go.Proofs.YtconhghphklfjaaGreat.Am
open Go Go.ChangeShapes Go.WideShapes Go.ChangeAt Go.RowKit
noncomputable def toldE (f : Nat) : Option (List V → H → Option (V × H)) :=
 cond (Nat.beq f 101) (some (toldIf Tryz.prog 101 pinPr)) (toldL f)
noncomputable abbrev CE : Cfg := ⟨Tryz.prog, toldE⟩
theorem toldE_w4 : W4 toldE := by
 refine ⟨⟨⟨⟨fun f hf => ?_, rfl, rfl⟩, rfl, rfl⟩, toldAw, rfl, fun _ => rfl⟩, rfl⟩
 have h1 : f ≠ 101 := fun e => by subst e; revert hf; decide
 simp only [toldE, beqF h1, cond_false]
 exact toldL_w3.w.w.free f hf
theorem toldE_ok : ToldOk CE := by
 intro f g hg
 simp only [CE, toldE] at hg ⊢
 by_cases h1 : f = 101
 ·subst h1
  rw [beqT rfl, cond_true] at hg
  simp only [Option.some.injEq] at hg
  subst hg
  exact toldIf_ok ⟨_, Tryz.func101, rfl, by decide⟩
 ·rw [beqF h1, cond_false] at hg
  exact toldL_ok f g hg
theorem CallDo.okE {f : FuncId} {args : List V} {h h' : H} {v : V} (hd : CallDo CE f args h v h') {c : Ctx} {w : World} (hrel : Rel c h w) (hw : ∀ x ∈ args, wf c x) : CallOk Tryz.prog f args c w v h' := by
 obtain ⟨N, hN⟩ := hd
 exact (callF_ok (C := CE) (ev_ok mixedB toldE_ok N).1 toldE_ok hN hrel hw).1
theorem errs_walk {H' : Type} {enc : TypeId × Value → H'} {W : World} {fuel : Nat} {x : DataW H' × List MemPlace} {n kd : Int} {v : Value} (h : DataW.trod enc Tryz.prog W 0 (fun _ => true) true fuel 32 [v] = some x) (hB : Rows.uptoBulk x.1 ≤ 1048576) :
  Calls Tryz.prog 4 #[.int .i64 n, .int .i64 kd, v] W fun e w' => e = .returned (.bool true) ∧ W.keptBut w' (fun _ => False) ∧ W.heap.size ≤ w'.heap.size ∧ ∀ b, b < W.heap.size → w'.heap[b]? = W.heap[b]? := by
 obtain ⟨c0, σ0, h0⟩ := Redy.zero W
 obtain ⟨c, σ, vs, l, hr, _, hm, hwf, hl⟩ := open_by h hB c0 σ0 [] h0
 obtain ⟨dv, rfl, hdv⟩ := map_one hm
 obtain ⟨dv', s⟩ := Sat_xs.1 hr.2.2
 have s0 := s
 obtain ⟨_, _, _, _, hk⟩ := s0.at (k := 0) rfl
 have e : [dv] = [dv'] := hk.1
 injection e with e _
 subst e
 have s1 := s.ent (B := .rob dv l) fun _ _ k => k.2
 obtain ⟨v', h', hdo, rfl⟩ := errs_ct toldE_w4 (n := n) (kd := kd) hl s1 (rd_ro _ _)
 have hok := hdo.okE hr.1 (fun x hx => by
  rcases List.mem_cons.1 hx with rfl | hx
  ·exact trivial
  ·rcases List.mem_cons.1 hx with rfl | hx
   ·exact trivial
   ·rw [List.mem_singleton.1 hx]; exact (hwf dv (by simp)).1)
 unfold CallOk at hok
 have ea : (([V.int .i64 n, V.int .i64 kd, dv].map (conc c)).toArray) = #[.int .i64 n, .int .i64 kd, v] := by simp [conc, hdv]
 rw [ea] at hok
 refine Calls.mono hok ?_
 rintro e w' ⟨c', rfl, _, _, hs⟩
 obtain ⟨k1, k2, k3⟩ := kept_of_fix hr.2.1 hs
 exact ⟨by simp [conc], k1, k2, k3⟩
end Go.Proofs.YtconhghphklfjaaGreat.Am
namespace Go.Proofs.YtconhghphklfjaaGreat.AtomErrors
open Go.ChangeShapes Go.WideShapes Go.ChangeAt Go.RowKit
theorem own : ownKnob Tryz.prog.godebug = none := by kernel_rfl
theorem laid : laidOutB Tryz.prog = true := by kernel_rfl
theorem recs : Tryz.prog.readableRec 32 = true := by kernel_rfl
theorem row : (32 : TypeId) < Tryz.prog.types.size := of_decide_eq_true (by kernel_rfl)
set_option maxRecDepth 100000 in
theorem contract (H : Type) (enc : TypeId × Value → H) (W : World) (base : Nat) (args : Array Value) (ds gs : List (DataW H)) (before : List MemPlace)
  (hval : ∀ (j : Nat) t v, Tryz.f4.params[j]? = some t → args[j]? = some v → Value.okWide Tryz.prog W .any base t v)
  (hW : DataW.Whole enc Tryz.prog Tryz.f4.params.toList Rows.atomErrorsSpec.vars false W args.toList ds gs before) (hk : Rows.uptoBulkAll (ds ++ gs) ≤ 1048576) :
  Calls Tryz.prog 4 args W fun e W' => ∃ v, e = .returned v ∧ Rows.atomErrorsSpec.post enc Tryz.prog Tryz.f4 false true false false W args v W' := by
 have hW' := hW
 obtain ⟨p, q, hA0, hV, rfl, hfz, hnd⟩ := hW
 have hA : DataW.TrodAll enc Tryz.prog W 0 (fun _ => true) true Tryz.f4.params.toList args.toList ds p := hA0
 rw [Tryz.params4] at hA hval
 obtain ⟨v0, vs0, d0, ds0, p0, q0, hargs, rfl, rfl, h0, r0⟩ := trodAll_cons hA
 obtain ⟨v2, vs2, d2, ds2, p2, q2, rfl, rfl, rfl, h2, r2⟩ := trodAll_cons r0
 obtain ⟨v1, vs1, d1, ds1, p1, q1, rfl, rfl, rfl, h1, r1⟩ := trodAll_cons r2
 obtain ⟨rfl, rfl, rfl⟩ := trodAll_nil r1
 obtain rfl : args = #[v0, v2, v1] := by cases args; simp_all
 obtain ⟨rfl, rfl⟩ := trodVars_none hV
 obtain ⟨a0, rfl, rfl, rfl, w0⟩ := open_int Tryz.underlying3 (hval 0 3 v0 rfl rfl) h0
 obtain ⟨a2, rfl, rfl, rfl, w2⟩ := open_int Tryz.underlying3 (hval 1 3 v2 rfl rfl) h2
 obtain ⟨fuel, h1⟩ := h1
 have hcell : v1.cells.toList = [v1] := by
  have := hval 2 32 v1 rfl rfl
  simp only [Value.okWide, Tryz.underlying32, Cell.okWide, Cell.ok] at this
  split at this <;> first | rfl | exact this.elim
 have h1' := h1
 rw [hcell] at h1
 have hb : Rows.uptoBulk d1 ≤ 1048576 := by
  have := Am.bulk_part (l := ([DataW.lit (Lit.int .i64 a0), DataW.lit (Lit.int .i64 a2), d1] ++ ([] : List (DataW H)))) (d := d1) (by simp)
  exact Nat.le_trans this hk
 refine (Am.errs_walk (n := a0) (kd := a2) h1 hb).mono fun e W' ⟨he, hg, hs, hkeep⟩ => ?_
 subst he
 have hlt : ∀ x ∈ p1, x.block < W.heap.size := fun x hx => hW'.lt x (by simp [hx])
 have hstay : DataW.trod enc Tryz.prog W' 0 (fun b => decide (b < W.heap.size)) true fuel 32 v1.cells.toList = some (d1, p1) :=
  DataW.trod_stays (kids_book laid recs) (book_sized recs) (fun h => by cases h) ⟨row, book_self _⟩ h1' (fun x hx => by
   have hl := hlt x hx
   cases x with
   | cell b off =>
    show W'.cell? ⟨b, off, none⟩ = W.cell? ⟨b, off, none⟩
    unfold World.cell?
    rw [hkeep b hl]
   | map b => exact hkeep b hl) (fun x hx => by simpa using hlt x hx)
 exact ⟨_, rfl, ⟨_, [], _, [], _, [], hW', trodAll_cons_mk (shut_bool Tryz.underlying4 _) trodAll_mk0, trodAll_cons_mk (shut_int Tryz.underlying3 w0) (trodAll_cons_mk (shut_int Tryz.underlying3 w2) (trodAll_cons_mk ⟨fuel, hstay⟩ trodAll_mk0)), rfl, World.keptBut_mono (fun _ f => f.elim) hg, fun h => by cases h⟩⟩
set_option maxRecDepth 100000 in
theorem lifted (os : Os) (started : os.Started) (H : Type) (enc : TypeId × Value → H) (F : Stop.Interp) :
  ReturnsInHanded {} Tryz.checked os 4 .any ((Rows.OpenSpec.upto Rows.atomErrorsSpec).pre6 enc Tryz.prog Tryz.f4 Rows.atomErrorsUptoRow.domain false) (((Rows.OpenSpec.upto Rows.atomErrorsSpec).at F).post enc Tryz.prog Tryz.f4 false true false false) := by
 refine returnsInHanded_of_cond (C := Tryz.checked) (s := Rows.OpenSpec.upto Rows.atomErrorsSpec) (k := Rows.uptoSmall) rfl own started (by kernel_rfl) Tryz.func4
  (OpenSpec.witness (enc := enc) (C := Tryz.checked) (s := Rows.OpenSpec.upto Rows.atomErrorsSpec) (k := Rows.uptoSmall) rfl false ⟨#[], #[.int .i64 0, .int .i64 0, .slice none 0 0], []⟩ 8 (by kernel_rfl) (by kernel_rfl) (by kernel_rfl)
   (x := ([.lit (.int .i64 0), .lit (.int .i64 0), .nil], [], [])) (by kernel_rfl) rfl (by kernel_rfl)) ?_
 intro W base args ds gs before hval hW _ hk _
 exact contract H enc W base args ds gs before hval hW (of_decide_eq_true hk)
theorem over : Rows.atomErrorsUptoRow.holds Tryz.pinned (Rows.OpenSpec.upto Rows.atomErrorsSpec) :=
 OpenClaim.holds_of_cond 4 Tryz.f4 rfl rfl rfl rfl rfl rfl rfl ⟨rfl, rfl, rfl, rfl, rfl⟩ rfl rfl rfl rfl rfl (by kernel_rfl) Tryz.func4 (by kernel_rfl)
  (of_decide_eq_true (by kernel_rfl)) (by unfold Func.isWrapper; first | (rw [if_pos (by decide +kernel)]; kernel_rfl) | (rw [if_neg (by decide +kernel)]; exact ⟨rfl, rfl⟩))
  (fun os started H enc _ F => lifted os started H enc F)
theorem proved : Rows.AtomErrorsUptoSaid :=
 over
#print axioms proved
end Go.Proofs.YtconhghphklfjaaGreat.AtomErrors
