/- A group that is over or open, pages that are none and records that may not be are refused, and a record that was done is read back; the conditions are those of the given statement, for arguments that a machine can hold. Part 16 of 44. -/
import Derived.Test.YtconhghphklfjaaGreatE14
import Derived.Test.YtconhghphklfjaaGreatE15
namespace Go.Proofs.YtconhghphklfjaaGreat.Am
open Go
def HWf (h : H) : Prop := ∀ id o, T.get h.tr id = some o → id < h.next
theorem HWf.new {h : H} (hw : HWf h) (o : Obj) : HWf (h.new o) := by
 intro id q hq
 rw [get_new] at hq
 show id < h.next + 1
 split at hq
 ·omega
 ·exact Nat.lt_succ_of_lt (hw id q hq)
theorem HWf.put {h : H} (hw : HWf h) {id : Nat} (hid : id < h.next) (o : Option Obj) : HWf (h.put id o) := by
 intro j q hq
 rw [get_put] at hq
 show j < h.next
 split at hq
 ·omega
 ·exact hw j q hq
structure Keep (k : Nat) (S : List Nat) (h h' : H) : Prop where
 wf : HWf h'
 le : h.next ≤ h'.next
 bd : h'.next ≤ h.next + k
 get : ∀ id, id < h.next → id ∉ S → T.get h'.tr id = T.get h.tr id
theorem Keep.refl {h : H} (hw : HWf h) (S : List Nat) : Keep 0 S h h := ⟨hw, Nat.le_refl _, Nat.le_refl _, fun _ _ _ => rfl⟩
theorem Keep.trans {k k' : Nat} {S S' : List Nat} {h h' h'' : H} (a : Keep k S h h') (b : Keep k' S' h' h'') (hs : ∀ i ∈ S', i ∈ S ∨ h.next ≤ i) : Keep (k + k') S h h'' := by
 refine ⟨b.wf, Nat.le_trans a.le b.le, by have := a.bd; have := b.bd; omega, fun id hid hn => ?_⟩
 rw [b.get id (Nat.lt_of_lt_of_le hid a.le) (fun hm => ?_), a.get id hid hn]
 rcases hs id hm with h1 | h1
 ·exact hn h1
 ·omega
theorem Keep.mono {k k' : Nat} {S S' : List Nat} {h h' : H} (a : Keep k S h h') (hk : k ≤ k') (hs : ∀ i ∈ S, i ∈ S') : Keep k' S' h h' :=
 ⟨a.wf, a.le, Nat.le_trans a.bd (Nat.add_le_add_left hk _), fun id hid hn => a.get id hid (fun hm => hn (hs id hm))⟩
theorem Keep.row {k : Nat} {S : List Nat} {h h' : H} (a : Keep k S h h') (hw : HWf h) {id : Nat} {o : Obj} (hg : T.get h.tr id = some o) (hn : id ∉ S) : T.get h'.tr id = some o := by
 rw [a.get id (hw id o hg) hn]; exact hg
theorem Keep.ofNew {h : H} (hw : HWf h) (o : Obj) : Keep 1 [] h (h.new o) :=
 ⟨hw.new o, Nat.le_succ _, Nat.le_refl _, fun id hid _ => by rw [get_new, if_neg (by omega)]⟩
theorem Keep.ofPut {h : H} (hw : HWf h) {id : Nat} (hid : id < h.next) (o : Option Obj) : Keep 0 [id] h (h.put id o) :=
 ⟨hw.put hid o, Nat.le_refl _, Nat.le_refl _, fun j _ hn => by rw [get_put, if_neg (fun e => hn (by simp [e]))]⟩
theorem ofBytes_len (l : List Nat) : (ofBytes l).length = l.length := by simp [ofBytes]
theorem ofBytes_app (l m : List Nat) : ofBytes (l ++ m) = ofBytes l ++ ofBytes m := by simp [ofBytes]
def View (h : H) (v : V) (l : List Nat) : Prop := (∀ b ∈ l, b < 256) ∧ (((v = .sl0 ∨ ∃ a, v = .sle a) ∧ l = []) ∨
 ∃ id off cap n cs st, v = .sl id off l.length cap ∧ T.get h.tr id = some (.cells n cs st) ∧ cs.length = n ∧ off + l.length ≤ n ∧ (cs.drop off).take l.length = ofBytes l ∧
  (match cap with | .exact c => l.length ≤ c | .rest e _ => e = 1))
def Buf (h : H) (v : V) (l : List Nat) : Prop := (∀ b ∈ l, b < 256) ∧ ((v = .sl0 ∧ l = []) ∨
 (∃ id cs c, v = .sl id 0 l.length (.exact c) ∧ T.get h.tr id = some (.cells c (ofBytes l ++ cs) false) ∧ l.length + cs.length = c) ∨
 (∃ id, v = .sl id 0 l.length (.rest 1 0) ∧ T.get h.tr id = some (.cells l.length (ofBytes l) false) ∧ 1 ≤ l.length))
def rowIds : V → List Nat
 | .sl id _ _ _ => [id]
 | _ => []
theorem Buf.view {h : H} {v : V} {l : List Nat} (hb : Buf h v l) : View h v l := by
 obtain ⟨hl, hb⟩ := hb
 refine ⟨hl, ?_⟩
 rcases hb with hb | ⟨id, cs, c, rfl, hg, hc⟩ | ⟨id, rfl, hg, h1⟩
 ·exact .inl ⟨.inl hb.1, hb.2⟩
 ·refine .inr ⟨id, 0, .exact c, c, _, false, rfl, hg, by simp [ofBytes_len, hc], by omega, ?_, by show l.length ≤ c; omega⟩
  rw [List.drop_zero, List.take_left' (ofBytes_len l)]
 ·refine .inr ⟨id, 0, .rest 1 0, _, _, false, rfl, hg, ofBytes_len l, by omega, ?_, rfl⟩
  rw [List.drop_zero]
  exact List.take_of_length_le (by rw [ofBytes_len]; exact Nat.le_refl _)
theorem View.keep {k : Nat} {S : List Nat} {h h' : H} {v : V} {l : List Nat} (hv : View h v l) (hw : HWf h) (hk : Keep k S h h') (hn : ∀ i ∈ rowIds v, i ∉ S) : View h' v l := by
 obtain ⟨hl, hv⟩ := hv
 refine ⟨hl, ?_⟩
 rcases hv with hv | ⟨id, off, cap, n, cs, st, rfl, hg, h1, h2, h3, h4⟩
 ·exact .inl hv
 ·exact .inr ⟨id, off, cap, n, cs, st, rfl, hk.row hw hg (hn id (by simp [rowIds])), h1, h2, h3, h4⟩
theorem Buf.keep {k : Nat} {S : List Nat} {h h' : H} {v : V} {l : List Nat} (hv : Buf h v l) (hw : HWf h) (hk : Keep k S h h') (hn : ∀ i ∈ rowIds v, i ∉ S) : Buf h' v l := by
 obtain ⟨hl, hv⟩ := hv
 refine ⟨hl, ?_⟩
 rcases hv with hv | ⟨id, cs, c, rfl, hg, hc⟩ | ⟨id, rfl, hg, h1⟩
 ·exact .inl hv
 ·exact .inr (.inl ⟨id, cs, c, rfl, hk.row hw hg (hn id (by simp [rowIds])), hc⟩)
 ·exact .inr (.inr ⟨id, rfl, hk.row hw hg (hn id (by simp [rowIds])), h1⟩)
theorem View.len {h : H} {v : V} {l : List Nat} (hv : View h v l) : lenV Tryz.prog h 32 v = some (.int .i64 l.length) := by
 obtain ⟨_, hv⟩ := hv
 rcases hv with ⟨rfl | ⟨ea, rfl⟩, rfl⟩ | ⟨id, off, cap, n, cs, st, rfl, _⟩ <;> simp [lenV, Tryz.underlying32]
theorem View.rdN {h : H} {id off len : Nat} {cap : Cap} {l : List Nat} (hv : View h (.sl id off len cap) l) : len = l.length ∧ rdN h id off len = some (ofBytes l) := by
 obtain ⟨_, hv⟩ := hv
 rcases hv with ⟨h0, _⟩ | ⟨id', off', cap', n, cs, st, h0, hg, h1, h2, h3, h4⟩
 ·rcases h0 with h0 | ⟨_, h0⟩ <;> cases h0
 ·injection h0 with e1 e2 e3 e4
  subst e1; subst e2; subst e3
  refine ⟨rfl, ?_⟩
  unfold Am.rdN
  simp only [hg]
  rw [ble_iff.2 h2, cond_true]
  cases hc : (Nat.beq off 0 && Nat.beq l.length n) with
  | true =>
   simp only [Bool.and_eq_true, beq_iff] at hc
   obtain ⟨rfl, hn⟩ := hc
   rw [cond_true, ← h3, List.drop_zero, List.take_of_length_le (by omega)]
  | false => rw [cond_false, h3]
theorem info_u8 : ∃ i, Tryz.prog.info? 5 = some i ∧ i.size = 1 ∧ i.bytes = 1 := by
 refine ⟨_, (show Tryz.prog.info? 5 = some ((Tryz.prog.info? 5).getD default) by kernel_rfl), by kernel_rfl, by kernel_rfl⟩
theorem zeroT_u8 : zeroT Tryz.prog 5 = some (.int .u8 0) := by kernel_rfl
theorem srcV_bytes {h : H} {x : V} {m : List Nat} (hx : View h x m) : srcV h 1 x = some (ofBytes m, m.length) := by
 obtain ⟨hl, hx'⟩ := hx
 rcases hx' with ⟨rfl | ⟨ea, rfl⟩, rfl⟩ | ⟨id, off, cap, n, cs, st, rfl, hg, h1, h2, h3, h4⟩
 ·rfl
 ·rfl
 ·simp only [srcV, Nat.mul_one]
  rw [(View.rdN (l := m) ⟨hl, .inr ⟨id, off, cap, n, cs, st, rfl, hg, h1, h2, h3, h4⟩⟩).2]
  rfl
theorem append_bytes {h : H} {s x : V} {l m : List Nat} (hw : HWf h) (hs : Buf h s l) (hx : View h x m) (hsz : l.length + m.length ≤ 140737488355328) :
  ∃ v' h', appendV Tryz.prog h #[32, 32] s x = some (v', h') ∧ Buf h' v' (l ++ m) ∧ Keep 1 (rowIds s) h h' ∧ (∀ i ∈ rowIds v', i ∈ rowIds s ∨ h.next ≤ i) := by
 obtain ⟨i, hi, i1, i2⟩ := info_u8
 have hall : ∀ b ∈ l ++ m, b < 256 := fun b hb => by
  rcases List.mem_append.1 hb with hb | hb
  ·exact hs.1 b hb
  ·exact hx.1 b hb
 have hgr : growOk (l.length + m.length) 1 = true := growOk_iff.2 ⟨hsz, by omega⟩
 unfold appendV
 simp only [Tryz.underlying32, hi, zeroT_u8, i1, i2, V.cells, List.length_cons, List.length_nil, srcV_bytes hx]
 rw [show (Nat.ble 1 1 && Nat.ble 1 4096 && Nat.beq (0 + 1) 1) = true from rfl, cond_true]
 cases hm : Nat.beq m.length 0 with
 | true =>
  have hm0 : m = [] := List.eq_nil_of_length_eq_zero (beq_iff.1 hm)
  subst hm0
  rw [cond_true, List.append_nil]
  have hs' := hs
  obtain ⟨_, hs'⟩ := hs'
  rcases hs' with ⟨rfl, rfl⟩ | ⟨id, cs, c, rfl, hg, hc⟩ | ⟨id, rfl, hg, h1⟩
  ·exact ⟨_, _, rfl, hs, (Keep.refl hw _).mono (Nat.zero_le _) (fun _ h => h), fun i hi => .inl hi⟩
  ·exact ⟨_, _, rfl, hs, (Keep.refl hw _).mono (Nat.zero_le _) (fun _ h => h), fun i hi => .inl hi⟩
  ·exact ⟨_, _, rfl, hs, (Keep.refl hw _).mono (Nat.zero_le _) (fun _ h => h), fun i hi => .inl hi⟩
 | false =>
  have hm0 : 1 ≤ m.length := by
   rcases Nat.eq_zero_or_pos m.length with h0 | h0
   ·rw [beqT h0] at hm; cases hm
   ·exact h0
  rw [cond_false]
  have hnew : ∀ (σ : H) (old : List Nat), HWf σ → 1 ≤ (old ++ m).length → (∀ b ∈ old ++ m, b < 256) → Buf (growV σ 1 (ofBytes old) (ofBytes m) (old.length + m.length)).2 (growV σ 1 (ofBytes old) (ofBytes m) (old.length + m.length)).1 (old ++ m) := by
   intro σ old _ h1 h2
   refine ⟨h2, .inr (.inr ⟨σ.next, ?_, ?_, h1⟩)⟩
   ·simp only [growV, List.length_append]
   ·simp only [growV]
    rw [get_new, if_pos rfl, Nat.mul_one, List.length_append, ofBytes_app]
  have hs' := hs
  obtain ⟨_, hs'⟩ := hs'
  rcases hs' with ⟨rfl, rfl⟩ | ⟨id, cs, c, rfl, hg, hc⟩ | ⟨id, rfl, hg, h1⟩
  ·simp only
   have hgr' : growOk m.length 1 = true := by simpa using hgr
   rw [hgr', cond_true]
   have := hnew h [] hw (by simpa using hm0) (by simpa using hx.1)
   simp only [List.length_nil, Nat.zero_add, List.nil_append] at this
   exact ⟨_, _, rfl, by rw [List.nil_append]; exact this, (Keep.ofNew hw _).mono (Nat.le_refl _) (fun i hi => by simp at hi), fun i hi => .inr (by simp [rowIds] at hi; omega)⟩
  ·simp only [Nat.mul_one, Nat.zero_add]
   have hv := Buf.view hs
   cases hq : Nat.ble (l.length + m.length) c with
   | true =>
    have hq' := ble_iff.1 hq
    rw [cond_true]
    unfold wrN
    simp only [hg, ofBytes_len]
    rw [hq, cond_true]
    simp only
    have hrow : (cond (Nat.beq l.length 0 && Nat.beq m.length c) (ofBytes m) ((ofBytes l ++ cs).take l.length ++ (ofBytes m ++ (ofBytes l ++ cs).drop (l.length + m.length)))) = ofBytes (l ++ m) ++ cs.drop m.length := by
     have e1 : (ofBytes l ++ cs).take l.length = ofBytes l := List.take_left' (ofBytes_len l)
     have e2 : (ofBytes l ++ cs).drop (l.length + m.length) = cs.drop m.length := by
      rw [List.drop_append, ofBytes_len, show l.length + m.length - l.length = m.length from by omega, List.drop_eq_nil_of_le (by rw [ofBytes_len]; omega), List.nil_append]
     cases hz : (Nat.beq l.length 0 && Nat.beq m.length c) with
     | true =>
      simp only [Bool.and_eq_true, beq_iff] at hz
      have hl0 : l = [] := List.eq_nil_of_length_eq_zero hz.1
      subst hl0
      have hcs : cs.drop m.length = [] := List.drop_eq_nil_of_le (by simp at hc; omega)
      simp [hcs]
     | false => rw [cond_false, e1, e2, ofBytes_app, List.append_assoc]
    rw [hrow]
    refine ⟨_, _, rfl, ⟨hall, .inr (.inl ⟨id, cs.drop m.length, c, by simp, ?_, by simp; omega⟩)⟩, (Keep.ofPut hw (hw id _ hg) _).mono (Nat.zero_le _) (fun i hi => by simpa [rowIds] using hi), fun i hi => .inl (by simpa [rowIds] using hi)⟩
    rw [get_put, if_pos rfl]
   | false =>
    rw [cond_false, hgr, cond_true, hv.rdN.2]
    simp only
    exact ⟨_, _, rfl, hnew h l hw (by simp; omega) hall, (Keep.ofNew hw _).mono (Nat.le_refl _) (fun i hi => by simp at hi), fun i hi => .inr (by simp [rowIds] at hi; omega)⟩
  ·simp only [Nat.beq_refl, cond_true, Nat.mul_one, Nat.zero_add]
   have hv := Buf.view hs
   have hext : extent h id 0 1 = l.length := by simp [extent, hg]
   have hf : Nat.ble (l.length + m.length) l.length = false := by
    cases hq : Nat.ble (l.length + m.length) l.length with
    | true => have := ble_iff.1 hq; omega
    | false => rfl
   rw [hext, hf, cond_false, hgr, show Nat.ble 2 (l.length + m.length) = true from ble_iff.2 (by omega), Bool.and_self, cond_true, hv.rdN.2, hg]
   simp only
   have hw' : HWf (h.put id none) := hw.put (hw id _ hg) _
   refine ⟨_, _, rfl, hnew (h.put id none) l hw' (by simp; omega) hall, ?_, fun i hi => .inr (by simp [rowIds, H.put] at hi; omega)⟩
   refine ((Keep.ofPut hw (hw id _ hg) none).trans (S' := []) (Keep.ofNew hw' _) (fun i hi => by simp at hi)).mono (Nat.le_refl _) (fun i hi => by simpa [rowIds] using hi)
end Go.Proofs.YtconhghphklfjaaGreat.Am
namespace Go.Proofs.YtconhghphklfjaaGreat.Am
open Go
section
variable {P : Program} {E : List (Nat × V)} {h h₁ : H} {x y a b : Operand} {v u r : V}
theorem o_move (hx : lookO E x = some v) : opE P E h (.move x) = some (v, h) := by simp only [opE, on1, hx]
theorem o_assign (hx : lookO E x = some v) : opE P E h (.assign x) = some (v, h) := by simp only [opE, on1, hx]
theorem o_pickT (hx : lookO E x = some (.bool true)) (ha : lookO E a = some v) : opE P E h (.pick x a b) = some (v, h) := by simp only [opE, on1, hx, cond_true, ha]
theorem o_pickF (hx : lookO E x = some (.bool false)) (hb : lookO E b = some v) : opE P E h (.pick x a b) = some (v, h) := by simp only [opE, on1, hx, cond_false, hb]
theorem o_nil {i o : Nat} (hx : lookO E x = some (.ptr i o)) : opE P E h (.nilCheck x) = some (.ptr i o, h) := by simp only [opE, on1, hx]
theorem o_fa {t i : Nat} (hx : lookO E x = some v) (hf : fieldAddrV P t v i = some r) : opE P E h (.fieldAddr t x i) = some (r, h) := by simp only [opE, on1, hx, hf, pureV]
theorem o_load {t : TypeId} (hx : lookO E x = some v) (hf : loadV P h t v = some r) : opE P E h (.load t x) = some (r, h) := by simp only [opE, on1, hx, hf, pureV]
theorem o_store {t : TypeId} (hx : lookO E x = some v) (hy : lookO E y = some u) (hf : storeV P h t v u = some h₁) : opE P E h (.store t x y) = some (undefV, h₁) := by simp only [opE, on2, hx, hy, hf, unitV]
theorem o_bin {op : BinOp} {t t' : TypeId} (hx : lookO E x = some v) (hy : lookO E y = some u) (hf : binV P h op t x y v u = some r) : opE P E h (.binOp op t x y t') = some (r, h) := by simp only [opE, on2, hx, hy, hf, pureV]
theorem o_un {op : UnOp} {t : TypeId} (hx : lookO E x = some v) (hf : unV op v = some r) : opE P E h (.unOp op t x) = some (r, h) := by simp only [opE, on1, hx, hf, pureV]
theorem o_conv {s d : TypeId} (hx : lookO E x = some v) (hf : convV P h s d v = some (r, h₁)) : opE P E h (.convert s d x) = some (r, h₁) := by simp only [opE, on1, hx, hf]
theorem o_ia {t : TypeId} (hx : lookO E x = some v) (hy : lookO E y = some u) (hf : indexAddrV P t v u = some r) : opE P E h (.indexAddr t x y) = some (r, h) := by simp only [opE, on2, hx, hy, hf, pureV]
theorem o_ix {t : TypeId} (hx : lookO E x = some v) (hy : lookO E y = some u) (hf : indexV P t v u = some r) : opE P E h (.index t x y) = some (r, h) := by simp only [opE, on2, hx, hy, hf, pureV]
theorem o_extract {i : Nat} {l : List V} (hx : lookO E x = some (.tup l)) (hf : nth l i = some r) : opE P E h (.extract x i) = some (r, h) := by simp only [opE, on1, hx, hf, pureV]
theorem o_build {t : TypeId} {ps : Array (Nat × Operand)} {l : List (Nat × V)} (hx : lookParts E ps.toList = some l) (hf : buildV P t l = some r) : opE P E h (.build t ps) = some (r, h) := by simp only [opE, hx, hf, pureV]
theorem o_box {t : TypeId} (hx : lookO E x = some v) (hs : v.cells.all storable = true) : opE P E h (.box t x) = some (.ptr h.next 0, newRow h v.cells) := by simp only [opE, on1, hx, hs, cond_true]
theorem o_alloc {t : TypeId} (hz : zeroT P t = some v) : opE P E h (.alloc t) = some (.ptr h.next 0, newRow h v.cells) := by simp only [opE, hz]
theorem o_mki {t : TypeId} (hx : lookO E x = some v) (hf : makeIfaceV P t v = some r) : opE P E h (.makeInterface t x) = some (r, h) := by simp only [opE, on1, hx, hf, pureV]
theorem o_mkf {f : Fn} {p q : Array Operand} {l m : List V} (hx : lookArgs E p.toList = some l) (hy : lookArgs E q.toList = some m) : opE P E h (.makeFunc f p q) = some (.fn f l m, h) := by simp only [opE, hx, hy]
theorem o_len {c : Go.Call} {t : TypeId} (hc : c.callee = .builtin .len) (ha : lookArgs E c.args.toList = some [v]) (ht : c.argTypes.toList = [t]) (hf : lenV P h t v = some r) : opE P E h (.call c) = some (r, h) := by
 simp only [opE, hc, ha, builtinV, ht, hf, Option.map_some]
theorem o_app {c : Go.Call} (hc : c.callee = .builtin .append) (ha : lookArgs E c.args.toList = some [v, u]) (hf : appendV P h c.argTypes v u = some (r, h₁)) : opE P E h (.call c) = some (r, h₁) := by
 simp only [opE, hc, ha, builtinV, hf]
theorem o_mks {t : TypeId} (hx : lookO E x = some v) (hy : lookO E y = some u) (hf : makeSliceV P h t v u = some (r, h₁)) : opE P E h (.makeSlice t x y) = some (r, h₁) := by simp only [opE, on2, hx, hy, hf]
theorem o_bs {t n : Nat} {ps : Array (Nat × Operand)} {l : List (Nat × V)} (hx : lookParts E ps.toList = some l) (hf : buildSliceV P h t n l = some (r, h₁)) : opE P E h (.buildSlice t n ps) = some (r, h₁) := by simp only [opE, hx, hf]
theorem o_slice {t : TypeId} {lo hi mx : Option Operand} {p q m : Option V} {p' q' m' : Option Nat} (hx : lookO E x = some v) (h1 : lookOpt E lo = some p) (h2 : lookOpt E hi = some q) (h3 : lookOpt E mx = some m)
  (g1 : optB p = some p') (g2 : optB q = some q') (g3 : optB m = some m') (hf : sliceV P h t v p' q' m' = some r) : opE P E h (.slice t x lo hi mx) = some (r, h) := by simp only [opE, on1, hx, h1, h2, h3, g1, g2, g3, hf, pureV]
theorem o_assert {t s : TypeId} {ok : Bool} (hx : lookO E x = some v) (hf : assertV P v s ok = some r) : opE P E h (.typeAssert x t s ok) = some (r, h) := by simp only [opE, on1, hx, hf, pureV]
theorem ld1 {t : TypeId} {id off n : Nat} {cs : List V} {st : Bool} (ht : isAggT P t = some false) (hg : T.get h.tr id = some (.cells n cs st)) (hn : nth cs off = some v) : loadV P h t (.ptr id off) = some v := by
 simp only [loadV, ht, rd1, hg, hn]
theorem ldA {t : TypeId} {id n : Nat} {cs : List V} {st : Bool} (ht : isAggT P t = some true) (hs : sizeT P t = some n) (hg : T.get h.tr id = some (.cells n cs st)) : loadV P h t (.ptr id 0) = some (.agg cs) := by
 simp only [loadV, ht, hs, rdN, hg, Nat.zero_add]
 rw [ble_iff.2 (Nat.le_refl n), cond_true, Nat.beq_refl, Nat.beq_refl]
 rfl
end
section
variable {C : Cfg} {ntm : Nat} {E : List (Nat × V)} {h : H} {R : List (Nat × V) → H → Prop} {L rest : List Oper} {o : Oper} {d : Nat} {cs : List V}
end
section
variable {C : Cfg} {ntm : Nat} {E : List (Nat × V)} {h : H} {R : List (Nat × V) → H → Prop} {L rest : List Oper} {o : Oper} {d : Nat}
theorem bs1_bytes {h : H} (hw : HWf h) {b : Nat} (hb : b < 256) :
  ∃ v h₁, buildSliceV Tryz.prog h 32 1 [(0, .int .u8 b)] = some (v, h₁) ∧ Buf h₁ v [b] ∧ Keep 1 [] h h₁ ∧ ∀ i ∈ rowIds v, h.next ≤ i := by
 refine ⟨.sl h.next 0 1 (.exact 1), newRow h [.int .u8 b], ?_, ⟨by simpa using hb, .inr (.inl ⟨h.next, [], 1, rfl, ?_, rfl⟩)⟩, Keep.ofNew hw _, fun i hi => by simp [rowIds] at hi; omega⟩
 ·simp only [buildSliceV, Tryz.underlying32, sizeT_u8, zeroT_u8, V.cells]
  rfl
 ·rw [newRow, get_new, if_pos rfl]; rfl
theorem WPs.byte1 {t : TypeId} {ps : Array (Nat × Operand)} {b : Nat} (hP : C.P = Tryz.prog) (hw : HWf h) (hg : wantE L E o.guard = some true) (hd : o.dst = some d) (hn : Nat.blt d ntm = true) (hop : o.op = .buildSlice t 1 ps) (ht : t = 32)
  (hx : lookParts E ps.toList = some [(0, .int .u8 (b : Int))]) (hb : b < 256)
  (hr : ∀ v h₁, Buf h₁ v [b] → Keep 1 [] h h₁ → (∀ i ∈ rowIds v, h.next ≤ i) → WPs C ntm L rest ((d, v) :: E) h₁ R) : WPs C ntm L (o :: rest) E h R := by
 obtain ⟨v, h₁, e1, e2, e3, e4⟩ := bs1_bytes hw hb
 refine WPs.op hg hd hn (v := v) (h₁ := h₁) ?_ (hr v h₁ e2 e3 e4)
 rw [hop, ht, hP]
 exact o_bs hx e1
theorem WPs.app {c : Go.Call} {s x : V} {l m : List Nat} (hP : C.P = Tryz.prog) (hw : HWf h) (hg : wantE L E o.guard = some true) (hd : o.dst = some d) (hn : Nat.blt d ntm = true) (hop : o.op = .call c) (hc : c.callee = .builtin .append)
  (hty : c.argTypes = #[32, 32]) (ha : lookArgs E c.args.toList = some [s, x]) (hs : Buf h s l) (hx : View h x m) (hsz : l.length + m.length ≤ 140737488355328)
  (hr : ∀ v h₁, Buf h₁ v (l ++ m) → Keep 1 (rowIds s) h h₁ → (∀ i ∈ rowIds v, i ∈ rowIds s ∨ h.next ≤ i) → WPs C ntm L rest ((d, v) :: E) h₁ R) : WPs C ntm L (o :: rest) E h R := by
 obtain ⟨v, h₁, e1, e2, e3, e4⟩ := append_bytes hw hs hx hsz
 refine WPs.op hg hd hn (v := v) (h₁ := h₁) ?_ (hr v h₁ e2 e3 e4)
 rw [hop, hP]
 exact o_app hc ha (by rw [hty]; exact e1)
theorem makeSlice_bytes {h : H} (hw : HWf h) {c : Nat} (hc : c < 1073741824) :
  ∃ v h₁, makeSliceV Tryz.prog h 32 (.int .i64 0) (.int .i64 (c : Int)) = some (v, h₁) ∧ Buf h₁ v [] ∧ Keep 1 [] h h₁ ∧ ∀ i ∈ rowIds v, h.next ≤ i := by
 obtain ⟨i, hi, i1, i2⟩ := info_u8
 refine ⟨.sl h.next 0 0 (.exact c), h.new (.cells c (repeatL [.int .u8 0] c) false), ?_, ⟨by simp, .inr (.inl ⟨h.next, repeatL [.int .u8 0] c, c, rfl, ?_, ?_⟩)⟩, Keep.ofNew hw _, fun i hi => by simp [rowIds] at hi; omega⟩
 ·simp only [makeSliceV, Tryz.underlying32, hi, zeroT_u8, i1, i2, V.cells, List.length_cons, List.length_nil, Int.toNat_natCast, Nat.mul_one]
  rw [show (decide ((0 : Int) ≤ 0) && decide ((0 : Int) ≤ (c : Int)) && decide ((c : Int) < 1073741824) && Nat.ble 1 4096 && Nat.beq (0 + 1) 1 && Nat.ble 1 1) = true by simp; omega, cond_true]
  rfl
 ·rw [get_new, if_pos rfl]; rfl
 ·have : ∀ n, (repeatL [V.int .u8 0] n).length = n := fun n => by
   induction n with
   | zero => rfl
   | succ n ih => simp [repeatL, ih]
  simp [this]
end
section
variable {C : Cfg} {ntm : Nat} {L rest : List Oper} {E : List (Nat × V)} {h h₁ : H} {R : List (Nat × V) → H → Prop} {o : Oper} {d i : Nat} {v u r : V} {x y a b : Operand} {t t' : TypeId}
theorem zm (e : (o.op, wantE L E o.guard, o.dst, Nat.blt d ntm, lookO E x) = (Op.move x, some true, some d, true, some v)) (hw : WPs C ntm L rest ((d, v) :: E) h R) : WPs C ntm L (o :: rest) E h R := by
  simp only [Prod.mk.injEq] at e; exact WPs.op e.2.1 e.2.2.1 e.2.2.2.1 (by rw [e.1]; exact o_move e.2.2.2.2) hw
theorem za (e : (o.op, wantE L E o.guard, o.dst, Nat.blt d ntm, lookO E x) = (Op.assign x, some true, some d, true, some v)) (hw : WPs C ntm L rest ((d, v) :: E) h R) : WPs C ntm L (o :: rest) E h R := by
  simp only [Prod.mk.injEq] at e; exact WPs.op e.2.1 e.2.2.1 e.2.2.2.1 (by rw [e.1]; exact o_assign e.2.2.2.2) hw
theorem zn {j k : Nat} (e : (o.op, wantE L E o.guard, o.dst, Nat.blt d ntm, lookO E x) = (Op.nilCheck x, some true, some d, true, some (V.ptr j k))) (hw : WPs C ntm L rest ((d, .ptr j k) :: E) h R) : WPs C ntm L (o :: rest) E h R := by
  simp only [Prod.mk.injEq] at e; exact WPs.op e.2.1 e.2.2.1 e.2.2.2.1 (by rw [e.1]; exact o_nil e.2.2.2.2) hw
theorem zf (e : (o.op, wantE L E o.guard, o.dst, Nat.blt d ntm, lookO E x) = (Op.fieldAddr t x i, some true, some d, true, some v)) (hf : fieldAddrV C.P t v i = some r) (hw : WPs C ntm L rest ((d, r) :: E) h R) : WPs C ntm L (o :: rest) E h R := by
  simp only [Prod.mk.injEq] at e; exact WPs.op e.2.1 e.2.2.1 e.2.2.2.1 (by rw [e.1]; exact o_fa e.2.2.2.2 hf) hw
theorem zl (e : (o.op, wantE L E o.guard, o.dst, Nat.blt d ntm, lookO E x) = (Op.load t x, some true, some d, true, some v)) (hf : loadV C.P h t v = some r) (hw : WPs C ntm L rest ((d, r) :: E) h R) : WPs C ntm L (o :: rest) E h R := by
  simp only [Prod.mk.injEq] at e; exact WPs.op e.2.1 e.2.2.1 e.2.2.2.1 (by rw [e.1]; exact o_load e.2.2.2.2 hf) hw
theorem ze {l : List V} (e : (o.op, wantE L E o.guard, o.dst, Nat.blt d ntm, lookO E x, nth l i) = (Op.extract x i, some true, some d, true, some (V.tup l), some r)) (hw : WPs C ntm L rest ((d, r) :: E) h R) : WPs C ntm L (o :: rest) E h R := by
  simp only [Prod.mk.injEq] at e; exact WPs.op e.2.1 e.2.2.1 e.2.2.2.1 (by rw [e.1]; exact o_extract e.2.2.2.2.1 e.2.2.2.2.2) hw
theorem zp (e : (o.op, wantE L E o.guard, o.dst, Nat.blt d ntm, lookO E x, lookO E b) = (Op.pick x a b, some true, some d, true, some (V.bool false), some v)) (hw : WPs C ntm L rest ((d, v) :: E) h R) : WPs C ntm L (o :: rest) E h R := by
  simp only [Prod.mk.injEq] at e; exact WPs.op e.2.1 e.2.2.1 e.2.2.2.1 (by rw [e.1]; exact o_pickF e.2.2.2.2.1 e.2.2.2.2.2) hw
theorem zq (e : (o.op, wantE L E o.guard, o.dst, Nat.blt d ntm, lookO E x, lookO E a) = (Op.pick x a b, some true, some d, true, some (V.bool true), some v)) (hw : WPs C ntm L rest ((d, v) :: E) h R) : WPs C ntm L (o :: rest) E h R := by
  simp only [Prod.mk.injEq] at e; exact WPs.op e.2.1 e.2.2.1 e.2.2.2.1 (by rw [e.1]; exact o_pickT e.2.2.2.2.1 e.2.2.2.2.2) hw
theorem zb {op : BinOp} (e : (o.op, wantE L E o.guard, o.dst, Nat.blt d ntm, lookO E x, lookO E y) = (Op.binOp op t x y t', some true, some d, true, some v, some u)) (hf : binV C.P h op t x y v u = some r) (hw : WPs C ntm L rest ((d, r) :: E) h R) : WPs C ntm L (o :: rest) E h R := by
  simp only [Prod.mk.injEq] at e; exact WPs.op e.2.1 e.2.2.1 e.2.2.2.1 (by rw [e.1]; exact o_bin e.2.2.2.2.1 e.2.2.2.2.2 hf) hw
theorem zx (e : (wantE L E o.guard, o.dst, Nat.blt d ntm) = (some false, some d, true)) (hw : WPs C ntm L rest ((d, undefV) :: E) h R) : WPs C ntm L (o :: rest) E h R := by
  simp only [Prod.mk.injEq] at e; exact WPs.no e.1 e.2.1 e.2.2 hw
theorem zo (e : (wantE L E o.guard, o.dst, Nat.blt d ntm) = (some true, some d, true)) (ho : opE C.P E h o.op = some (v, h₁)) (hw : WPs C ntm L rest ((d, v) :: E) h₁ R) : WPs C ntm L (o :: rest) E h R := by
  simp only [Prod.mk.injEq] at e; exact WPs.op e.1 e.2.1 e.2.2 ho hw
theorem zv (hq : R E h) : WPs C ntm L [] E h R := WPs.nil hq
variable {Q : Ex → List (Nat × V) → H → Prop} {c f : Code}
theorem zw (hw : WP C ntm c E h fun ex E' h' => match ex with
    | .normal => WP C ntm f E' h' Q
    | ex => Q ex E' h') : WP C ntm (.seq c f) E h Q := WP.seq hw
theorem zr {k : Nat} {ops : Array Oper} (hl : ops.toList = L) (hw : WPs C ntm L L E h fun E' h' => Q .normal E' h') : WP C ntm (.region k ops false) E h Q := WP.region hl hw
theorem zg {k : Nat} {ops : Array Oper} (hl : ops.toList = L) (hw : WPs C ntm L L E h fun E' h' => WP C ntm f E' h' Q) : WP C ntm (.seq (.region k ops false) f) E h Q := WP.seq (WP.region hl hw)
theorem zi (hx : lookO E x = some (.bool true)) (hw : WP C ntm c E h Q) : WP C ntm (.cond x c f) E h Q := WP.cond hx hw
theorem zj (hx : lookO E x = some (.bool false)) (hw : WP C ntm f E h Q) : WP C ntm (.cond x c f) E h Q := WP.cond hx hw
end
end Go.Proofs.YtconhghphklfjaaGreat.Am
