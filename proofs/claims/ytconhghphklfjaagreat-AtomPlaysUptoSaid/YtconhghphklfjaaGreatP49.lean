/- Whatever groups are done and dropped, written out and checkpointed between, each page is as the groups that were done made it; the conditions are those of the given statement, for arguments that a machine can hold. Part 49 of 49. -/
import Derived.Test.YtconhghphklfjaaGreatP48
import Derived.Test.YtconhghphklfjaaGreatRows
import Derived.WalkKit
import Derived.ProofKit
import Derived.OpenShut
import Derived.JoinedCond
import Derived.ChangeBook
import Derived.ChangeStays
namespace Go.Proofs.YtconhghphklfjaaGreat.Am
open Go Go.ChangeShapes Go.WideShapes Go.ChangeAt Go.RowKit
noncomputable def fsOf (P : Program) (t : TypeId) : Array Field := match P.underlying t with
 | some (.struct fs) => fs
 | _ => #[]
def fAt (fs : Array Field) (i : Nat) : Option (TypeId × Nat) := (fs[i]?).map fun f => (f.type, f.offset)
theorem us_wr : Tryz.prog.underlying 134 = some (.struct (fsOf Tryz.prog 134)) := by kernel_rfl
theorem us_dd : Tryz.prog.underlying 62 = some (.struct (fsOf Tryz.prog 62)) := by kernel_rfl
theorem co_wr : Tryz.prog.cellsOf 134 = 2 := by kernel_rfl
theorem co_dd : Tryz.prog.cellsOf 62 = 4 := by kernel_rfl
theorem co_int : Tryz.prog.cellsOf 3 = 1 := by kernel_rfl
theorem co_bs : Tryz.prog.cellsOf 32 = 1 := by kernel_rfl
theorem co_ws : Tryz.prog.cellsOf 60 = 1 := by kernel_rfl
theorem sf_wr : (fsOf Tryz.prog 134).size = 2 := by kernel_rfl
theorem sf_dd : (fsOf Tryz.prog 62).size = 4 := by kernel_rfl
theorem f0_wr : fAt (fsOf Tryz.prog 134) 0 = some (3, 0) := by kernel_rfl
theorem f1_wr : fAt (fsOf Tryz.prog 134) 1 = some (32, 1) := by kernel_rfl
theorem f0_dd : fAt (fsOf Tryz.prog 62) 0 = some (3, 0) := by kernel_rfl
theorem f1_dd : fAt (fsOf Tryz.prog 62) 1 = some (3, 1) := by kernel_rfl
theorem f2_dd : fAt (fsOf Tryz.prog 62) 2 = some (60, 2) := by kernel_rfl
theorem f3_dd : fAt (fsOf Tryz.prog 62) 3 = some (32, 3) := by kernel_rfl
theorem fAt_of {fs : Array Field} {i : Nat} {t : TypeId} {o : Nat} (h : fAt fs i = some (t, o)) : ∃ f, fs[i]? = some f ∧ f.type = t ∧ f.offset = o := by
 unfold fAt at h
 obtain ⟨f, h1, h2⟩ := Option.map_eq_some_iff.1 h
 simp only [Prod.mk.injEq] at h2
 exact ⟨f, h1, h2.1, h2.2⟩
def lwE (vs : List V) (x : Int × List Nat) : Assn := .xs fun u : V => .an (.pu (vs = [.int .i64 x.1, u])) (.rob u x.2)
theorem Pers.lwE (vs : List V) (x : Int × List Nat) : Pers (Am.lwE vs x) := Pers.xs fun _ => Pers.an (Pers.pu _) (Pers.rob _ _)
def ddE (vs : List V) (D : Deed) : Assn := .xs fun w : V => .xs fun d : V => .an (.pu (vs = [.int .i64 D.act, .int .i64 D.keep, w, d])) (deedA w d D)
theorem Pers.ddE (vs : List V) (D : Deed) : Pers (Am.ddE vs D) := Pers.xs fun _ => Pers.xs fun _ => Pers.an (Pers.pu _) (Pers.deedA _ _ _)
theorem list2 {α : Type} {l : List α} (h : l.length = 2) : ∃ a b, l = [a, b] := by
 rcases l with _ | ⟨a, _ | ⟨b, _ | ⟨c, l⟩⟩⟩ <;> simp at h
 exact ⟨a, b, rfl⟩
theorem list4 {α : Type} {l : List α} (h : l.length = 4) : ∃ a b c d, l = [a, b, c, d] := by
 rcases l with _ | ⟨a, _ | ⟨b, _ | ⟨c, _ | ⟨d, _ | ⟨e, l⟩⟩⟩⟩⟩ <;> simp at h
 exact ⟨a, b, c, d, rfl⟩
theorem map_one {α β : Type} {f : α → β} {l : List α} {b : β} (h : l.map f = [b]) : ∃ a, l = [a] ∧ f a = b := by
 rcases l with _ | ⟨a, _ | ⟨c, l⟩⟩
 ·cases h
 ·simp at h; exact ⟨a, rfl, h⟩
 ·simp at h
section
variable {H' : Type} {enc : TypeId × Value → H'} {W : World} {fuel B : Nat} {cs : List Value} {x : DataW H' × List MemPlace}
theorem open_lw (h : DataW.trod enc Tryz.prog W 0 (fun _ => true) true fuel 134 cs = some x) (hB : Rows.uptoBulk x.1 ≤ B) : Opn W cs lwE (fun y => y.2.length ≤ B) := by
 obtain ⟨xs, n, rfl, rfl, hl, hx, hf⟩ := DataW.trod_struct us_wr h
 rw [co_wr] at hl
 rw [sf_wr] at hx
 obtain ⟨f0, a0, b0, c0⟩ := fAt_of f0_wr
 obtain ⟨f1, a1, b1, c1⟩ := fAt_of f1_wr
 have h0 := hf 0 f0 a0
 have h1 := hf 1 f1 a1
 rw [b0, c0, co_int] at h0
 rw [b1, c1, co_bs] at h1
 obtain ⟨v0, v1, rfl⟩ := list2 hl
 obtain ⟨y0, y1, rfl⟩ := list2 hx
 have h0 : DataW.trod enc Tryz.prog W 0 (fun _ => true) true n 3 [v0] = some y0 := h0
 have h1 : DataW.trod enc Tryz.prog W 0 (fun _ => true) true n 32 [v1] = some y1 := h1
 obtain ⟨m, hm, _, _⟩ := DataW.trod_int Tryz.underlying3 h0
 injection hm with hm _
 subst hm
 have hB1 : Rows.uptoBulk y1.1 ≤ B := by
  rw [bulk_agg] at hB
  have := bulk_part (l := [y0.1, y1.1]) (d := y1.1) (by simp)
  have e : ([y0, y1].map (·.1)) = [y0.1, y1.1] := rfl
  rw [e] at hB
  omega
 intro c σ S hr
 obtain ⟨c', σ', vs, l, r1, r2, r3, r4, r5⟩ := open_by h1 hB1 c σ S hr
 obtain ⟨u, rfl, hu⟩ := map_one r3
 refine ⟨c', σ', [.int .i64 m, u], (m, l), r1.sat fun h s => s.ent fun a b k => ?_, r2, by simp [conc, hu], fun v hv => ?_, r5⟩
 ·obtain ⟨u', e, k⟩ := k
  injection e with e _
  subst e
  exact ⟨u, rfl, k⟩
 ·rcases List.mem_cons.1 hv with rfl | hv
  ·exact ⟨trivial, rfl⟩
  ·exact r4 v hv
theorem open_lws (h : DataW.trod enc Tryz.prog W 0 (fun _ => true) true fuel 60 cs = some x) (hB : Rows.uptoBulk x.1 ≤ B) : Opn W cs (slE 2 lwA) (fun xs => xs.length ≤ B ∧ ∀ y ∈ xs, y.2.length ≤ B) :=
 open_rows (E := lwE) Tryz.underlying60 co_wr (by decide) Pers.lwE (fun l m => Pers.lwA m l) (fun _ _ => trivial) (fun vs x l m a b h1 h2 => by
  obtain ⟨u, e, k⟩ := h1
  have e : vs = [.int .i64 x.1, u] := e
  subst e
  exact ⟨⟨rfl, k⟩, h2⟩) (fun n cs y hy hb => open_lw hy hb) h hB
theorem open_dd (h : DataW.trod enc Tryz.prog W 0 (fun _ => true) true fuel 62 cs = some x) (hB : Rows.uptoBulk x.1 ≤ B) : Opn W cs ddE (fun D => D.data.length ≤ B ∧ D.w.length ≤ B ∧ ∀ y ∈ D.w, y.2.length ≤ B) := by
 obtain ⟨xs, n, rfl, rfl, hl, hx, hf⟩ := DataW.trod_struct us_dd h
 rw [co_dd] at hl
 rw [sf_dd] at hx
 obtain ⟨f0, a0, b0, c0⟩ := fAt_of f0_dd
 obtain ⟨f1, a1, b1, c1⟩ := fAt_of f1_dd
 obtain ⟨f2, a2, b2, c2⟩ := fAt_of f2_dd
 obtain ⟨f3, a3, b3, c3⟩ := fAt_of f3_dd
 have h0 := hf 0 f0 a0
 have h1 := hf 1 f1 a1
 have h2 := hf 2 f2 a2
 have h3 := hf 3 f3 a3
 rw [b0, c0, co_int] at h0
 rw [b1, c1, co_int] at h1
 rw [b2, c2, co_ws] at h2
 rw [b3, c3, co_bs] at h3
 obtain ⟨v0, v1, v2, v3, rfl⟩ := list4 hl
 obtain ⟨y0, y1, y2, y3, rfl⟩ := list4 hx
 have h0 : DataW.trod enc Tryz.prog W 0 (fun _ => true) true n 3 [v0] = some y0 := h0
 have h1 : DataW.trod enc Tryz.prog W 0 (fun _ => true) true n 3 [v1] = some y1 := h1
 have h2 : DataW.trod enc Tryz.prog W 0 (fun _ => true) true n 60 [v2] = some y2 := h2
 have h3 : DataW.trod enc Tryz.prog W 0 (fun _ => true) true n 32 [v3] = some y3 := h3
 obtain ⟨m0, hm0, _, _⟩ := DataW.trod_int Tryz.underlying3 h0
 injection hm0 with hm0 _
 subst hm0
 obtain ⟨m1, hm1, _, _⟩ := DataW.trod_int Tryz.underlying3 h1
 injection hm1 with hm1 _
 subst hm1
 rw [bulk_agg] at hB
 have e : ([y0, y1, y2, y3].map (·.1)) = [y0.1, y1.1, y2.1, y3.1] := rfl
 rw [e] at hB
 have hB2 : Rows.uptoBulk y2.1 ≤ B := by
  have := bulk_part (l := [y0.1, y1.1, y2.1, y3.1]) (d := y2.1) (by simp)
  omega
 have hB3 : Rows.uptoBulk y3.1 ≤ B := by
  have := bulk_part (l := [y0.1, y1.1, y2.1, y3.1]) (d := y3.1) (by simp)
  omega
 intro c σ S hr
 obtain ⟨c1, σ1, vs1, l, r1, r2, r3, r4, r5⟩ := open_by h3 hB3 c σ S hr
 obtain ⟨d, rfl, hd⟩ := map_one r3
 obtain ⟨c2, σ2, vs2, ws, t1, t2, t3, t4, t5⟩ := open_lws h2 hB2 c1 σ1 _ r1
 obtain ⟨w, rfl, hw⟩ := map_one t3
 obtain ⟨q1, q2⟩ := conc_ext t2 d (r4 d (by simp)).1
 refine ⟨c2, σ2, [.int .i64 m0, .int .i64 m1, w, d], ⟨m0, m1, ws, l⟩, t1.sat fun h s => s.two (Pers.slE (fun l m => Pers.lwA m l) _ _) (Pers.byE _ _) fun a b k1 k2 => ?_, r2.trans t2, by simp [conc, hw, q1, hd], fun v hv => ?_, r5, t5⟩
 ·obtain ⟨w', cs, e1, k1⟩ := k1
  obtain ⟨d', e2, k2⟩ := k2
  have e1 : [w] = [w'] := e1
  have e2 : [d] = [d'] := e2
  injection e1 with e1 _
  injection e2 with e2 _
  subst e1
  subst e2
  exact ⟨w, d, rfl, ⟨cs, k1⟩, k2⟩
 ·simp only [List.mem_cons, List.not_mem_nil, or_false] at hv
  rcases hv with rfl | rfl | rfl | rfl
  ·exact ⟨trivial, rfl⟩
  ·exact ⟨trivial, rfl⟩
  ·exact t4 _ (by simp)
  ·exact ⟨q2, (r4 _ (by simp)).2⟩
theorem open_dds (h : DataW.trod enc Tryz.prog W 0 (fun _ => true) true fuel 56 cs = some x) (hB : Rows.uptoBulk x.1 ≤ B) : Opn W cs (slE 4 deedsA) (fun xs => xs.length ≤ B ∧ ∀ D ∈ xs, D.data.length ≤ B ∧ D.w.length ≤ B ∧ ∀ y ∈ D.w, y.2.length ≤ B) :=
 open_rows (E := ddE) Tryz.underlying56 co_dd (by decide) Pers.ddE (fun l m => Pers.deedsA m l) (fun _ _ => trivial) (fun vs x l m a b h1 h2 => by
  obtain ⟨w, d, e, k⟩ := h1
  have e : vs = [.int .i64 x.act, .int .i64 x.keep, w, d] := e
  subst e
  exact ⟨⟨⟨rfl, rfl⟩, k⟩, h2⟩) (fun n cs y hy hb => open_dd hy hb) h hB
end
theorem plays_walk {H' : Type} {enc : TypeId × Value → H'} {W : World} {fuel : Nat} {x : DataW H' × List MemPlace} {fr : Int} {v : Value} (h : DataW.trod enc Tryz.prog W 0 (fun _ => true) true fuel 56 [v] = some x) (hB : Rows.uptoBulk x.1 ≤ 1048576) :
  Calls Tryz.prog 5 #[.int .i64 fr, v] W fun e w' => e = .returned (.bool true) ∧ W.keptBut w' (fun _ => False) ∧ W.heap.size ≤ w'.heap.size ∧ ∀ b, b < W.heap.size → w'.heap[b]? = W.heap[b]? := by
 obtain ⟨c0, σ0, h0⟩ := Redy.zero W
 obtain ⟨c, σ, vs, L, hr, _, hm, hwf, hL, hD⟩ := open_dds h hB c0 σ0 [] h0
 obtain ⟨lv, rfl, hlv⟩ := map_one hm
 obtain ⟨lv', s⟩ := Sat_xs.1 hr.2.2
 obtain ⟨cs, s⟩ := Sat_xs.1 s
 have s0 := s
 obtain ⟨_, _, _, _, hk⟩ := s0.at (k := 0) rfl
 have e : [lv] = [lv'] := hk.1
 injection e with e _
 subst e
 have s1 := ((s.ent (B := .an (rowA 4 lv cs) (deedsA cs L)) fun _ _ k => k.2).dup (Pers.an (Pers.rowA _ _ _) (Pers.deedsA _ _))).ent (B := rowA 4 lv cs) (fun _ _ k => k.1) |>.bringS [1] |>.ent (B := deedsA cs L) (fun _ _ k => k.2) |>.bringS [1]
 obtain ⟨v', h', hdo, rfl⟩ := plays_ct toldL_w3 (fr := fr) hD hL s1
 have hok := hdo.ok hr.1 (fun x hx => by
  rcases List.mem_cons.1 hx with rfl | hx
  ·exact trivial
  ·rw [List.mem_singleton.1 hx]; exact (hwf lv (by simp)).1)
 unfold CallOk at hok
 have ea : (([V.int .i64 fr, lv].map (conc c)).toArray) = #[.int .i64 fr, v] := by simp [conc, hlv]
 rw [ea] at hok
 refine Calls.mono hok ?_
 rintro e w' ⟨c', rfl, _, _, hs⟩
 obtain ⟨k1, k2, k3⟩ := kept_of_fix hr.2.1 hs
 exact ⟨by simp [conc], k1, k2, k3⟩
end Go.Proofs.YtconhghphklfjaaGreat.Am
namespace Go.Proofs.YtconhghphklfjaaGreat.AtomPlays
open Go.ChangeShapes Go.WideShapes Go.ChangeAt Go.RowKit
theorem own : ownKnob Tryz.prog.godebug = none := by kernel_rfl
theorem laid : laidOutB Tryz.prog = true := by kernel_rfl
theorem recs : Tryz.prog.readableRec 56 = true := by kernel_rfl
theorem row : (56 : TypeId) < Tryz.prog.types.size := of_decide_eq_true (by kernel_rfl)
set_option maxRecDepth 100000 in
theorem contract (H : Type) (enc : TypeId × Value → H) (W : World) (base : Nat) (args : Array Value) (ds gs : List (DataW H)) (before : List MemPlace)
  (hval : ∀ (j : Nat) t v, Tryz.f5.params[j]? = some t → args[j]? = some v → Value.okWide Tryz.prog W .any base t v)
  (hW : DataW.Whole enc Tryz.prog Tryz.f5.params.toList Rows.atomPlaysSpec.vars false W args.toList ds gs before) (hk : Rows.uptoBulkAll (ds ++ gs) ≤ 1048576) :
  Calls Tryz.prog 5 args W fun e W' => ∃ v, e = .returned v ∧ Rows.atomPlaysSpec.post enc Tryz.prog Tryz.f5 false true false false W args v W' := by
 have hW' := hW
 obtain ⟨p, q, hA0, hV, rfl, hfz, hnd⟩ := hW
 have hA : DataW.TrodAll enc Tryz.prog W 0 (fun _ => true) true Tryz.f5.params.toList args.toList ds p := hA0
 rw [Tryz.params5] at hA hval
 obtain ⟨v0, vs0, d0, ds0, p0, q0, hargs, rfl, rfl, h0, r0⟩ := trodAll_cons hA
 obtain ⟨v1, vs1, d1, ds1, p1, q1, rfl, rfl, rfl, h1, r1⟩ := trodAll_cons r0
 obtain ⟨rfl, rfl, rfl⟩ := trodAll_nil r1
 obtain rfl : args = #[v0, v1] := by cases args; simp_all
 obtain ⟨rfl, rfl⟩ := trodVars_none hV
 obtain ⟨a0, rfl, rfl, rfl, w0⟩ := open_int Tryz.underlying3 (hval 0 3 v0 rfl rfl) h0
 obtain ⟨fuel, h1⟩ := h1
 have hcell : v1.cells.toList = [v1] := by
  have := hval 1 56 v1 rfl rfl
  simp only [Value.okWide, Tryz.underlying56, Cell.okWide, Cell.ok] at this
  split at this <;> first | rfl | exact this.elim
 have h1' := h1
 rw [hcell] at h1
 have hb : Rows.uptoBulk d1 ≤ 1048576 := by
  have := Am.bulk_part (l := ([DataW.lit (Lit.int .i64 a0), d1] ++ ([] : List (DataW H)))) (d := d1) (by simp)
  exact Nat.le_trans this hk
 refine (Am.plays_walk (fr := a0) h1 hb).mono fun e W' ⟨he, hg, hs, hkeep⟩ => ?_
 subst he
 have hlt : ∀ x ∈ p1, x.block < W.heap.size := fun x hx => hW'.lt x (by simp [hx])
 have hstay : DataW.trod enc Tryz.prog W' 0 (fun b => decide (b < W.heap.size)) true fuel 56 v1.cells.toList = some (d1, p1) :=
  DataW.trod_stays (kids_book laid recs) (book_sized recs) (fun h => by cases h) ⟨row, book_self _⟩ h1' (fun x hx => by
   have hl := hlt x hx
   cases x with
   | cell b off =>
    show W'.cell? ⟨b, off, none⟩ = W.cell? ⟨b, off, none⟩
    unfold World.cell?
    rw [hkeep b hl]
   | map b => exact hkeep b hl) (fun x hx => by simpa using hlt x hx)
 exact ⟨_, rfl, ⟨_, [], _, [], _, [], hW', trodAll_cons_mk (shut_bool Tryz.underlying4 _) trodAll_mk0, trodAll_cons_mk (shut_int Tryz.underlying3 w0) (trodAll_cons_mk ⟨fuel, hstay⟩ trodAll_mk0), rfl, World.keptBut_mono (fun _ f => f.elim) hg, fun h => by cases h⟩⟩
set_option maxRecDepth 100000 in
theorem lifted (os : Os) (started : os.Started) (H : Type) (enc : TypeId × Value → H) (F : Stop.Interp) :
  ReturnsInHanded {} Tryz.checked os 5 .any ((Rows.OpenSpec.upto Rows.atomPlaysSpec).pre6 enc Tryz.prog Tryz.f5 Rows.atomPlaysUptoRow.domain false) (((Rows.OpenSpec.upto Rows.atomPlaysSpec).at F).post enc Tryz.prog Tryz.f5 false true false false) := by
 refine returnsInHanded_of_cond (C := Tryz.checked) (s := Rows.OpenSpec.upto Rows.atomPlaysSpec) (k := Rows.uptoSmall) rfl own started (by kernel_rfl) Tryz.func5
  (OpenSpec.witness (enc := enc) (C := Tryz.checked) (s := Rows.OpenSpec.upto Rows.atomPlaysSpec) (k := Rows.uptoSmall) rfl false ⟨#[], #[.int .i64 0, .slice none 0 0], []⟩ 8 (by kernel_rfl) (by kernel_rfl) (by kernel_rfl)
   (x := ([.lit (.int .i64 0), .nil], [], [])) (by kernel_rfl) rfl (by kernel_rfl)) ?_
 intro W base args ds gs before hval hW _ hk _
 exact contract H enc W base args ds gs before hval hW (of_decide_eq_true hk)
theorem over : Rows.atomPlaysUptoRow.holds Tryz.pinned (Rows.OpenSpec.upto Rows.atomPlaysSpec) :=
 OpenClaim.holds_of_cond 5 Tryz.f5 rfl rfl rfl rfl rfl rfl rfl ⟨rfl, rfl, rfl, rfl, rfl⟩ rfl rfl rfl rfl rfl (by kernel_rfl) Tryz.func5 (by kernel_rfl)
  (of_decide_eq_true (by kernel_rfl)) (by unfold Func.isWrapper; first | (rw [if_pos (by decide +kernel)]; kernel_rfl) | (rw [if_neg (by decide +kernel)]; exact ⟨rfl, rfl⟩))
  (fun os started H enc _ F => lifted os started H enc F)
theorem proved : Rows.AtomPlaysUptoSaid :=
 over
#print axioms proved
end Go.Proofs.YtconhghphklfjaaGreat.AtomPlays
