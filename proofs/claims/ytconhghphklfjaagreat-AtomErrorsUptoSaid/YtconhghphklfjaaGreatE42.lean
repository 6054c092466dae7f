/- A group that is over or open, pages that are none and records that may not be are refused, and a record that was done is read back; the conditions are those of the given statement, for arguments that a machine can hold. Part 42 of 44. -/
import Derived.Test.YtconhghphklfjaaGreatE41
namespace Go.Proofs.YtconhghphklfjaaGreat.Am
open Go
section
variable {told : Nat → Option (List V → H → Option (V × H))} {h : H} {S : List Assn} {X : Assn} {v w : V} {l m : List Nat} {a g p q r chk : Nat} {op : V} {data : List Nat} {now : List (Int × List Nat)}
noncomputable def rpL : Code := pathC [1, 1, 0, 1, 0, 0] ((Tryz.f81.body).getD .skip)
theorem rput1_loop {n z : Nat} (hz : z ≤ 8) : ∀ (j i : Nat) (v : V) (l : List Nat) (h : H) (E : List (Nat × V)) (Q : Ex → List (Nat × V) → H → Prop), i + j = z → l.length = i → Sat h (bufA v l :: S) →
  Has E [(0, .int .u64 (n : Int)), (1, .int .i64 (z : Int)), (5, v), (6, .int .i64 (i : Int))] → (∀ E' h' v l, l.length = z → Sat h' (bufA v l :: S) → Has E' [(5, v)] → Q (.exit 0) E' h') → WP ⟨Tryz.prog, told⟩ 22 (.loop rpL) E h Q := by
 intro j
 induction j with
 | zero =>
  intro i v l h E Q hi hl s hE hq
  refine WP.loop (WP.has hE (zw (zg rfl (zm rfl (zm rfl (WPs.opF rfl rfl rfl (o_bin rfl rfl bLss) (by simp; omega) ?_))))))
  refine zv (zj rfl (WP.exit ?_))
  exact hq _ _ _ _ (by omega) s ⟨rfl, trivial⟩
 | succ j ih =>
  intro i v l h E Q hi hl s hE hq
  refine WP.loop (WP.has hE (zw (zg rfl (zm rfl (zm rfl (WPs.opT rfl rfl rfl (o_bin rfl rfl bLss) (by simp; omega) ?_))))))
  refine zv (zi rfl (WP.skip (zw (WP.block (zr rfl (zm rfl (zm rfl (zm rfl (zo rfl (o_bin (r := .int .i64 ((8 * i : Nat) : Int)) rfl rfl (by simp only [binV, ikBeq, cond_true, intV]; rw [show (8 : Int) * (i : Int) = ((8 * i : Nat) : Int) by push_cast; rfl, wrap_i64 (by omega)])) ?_)))))))))
  refine zo rfl (o_conv rfl (by exact cvI Tryz.underlying3 Tryz.underlying80 (wrapU (by omega) (by omega)))) ?_
  refine zo rfl (o_bin (r := .int .u64 ((n / 256 ^ i : Nat) : Int)) rfl rfl (by simp only [binV]; exact shr8 (by omega))) ?_
  refine zo rfl (o_conv rfl conv_u64_u8) (WPs.any rfl rfl rfl (OpR.byteS (n := n / 256 ^ i % 256) rfl s rfl rfl rfl (by omega)) ?_)
  intro v3 h s
  refine WPs.any rfl rfl rfl (OpR.appB rfl (s.bringS [1, 0]) (rd_buf _ _) rfl rfl rfl rfl (by simp; omega)) ?_
  intro v4 h s
  have s := s.del 1
  dsimp only [delA, bringA] at s
  refine za rfl (zv (zr rfl (zm rfl (zb rfl (by exact bAdd (wrapS (by omega) (by omega))) ?_))))
  refine za rfl (zv ?_)
  exact ih (i + 1) v4 _ _ _ Q (by omega) (by simp; omega) s ⟨rfl, rfl, rfl, rfl, trivial⟩ hq
theorem rput1_ct (hT : W told) {n z : Nat} (hz : z ≤ 8) (s : Sat h S) : Call ⟨Tryz.prog, told⟩ 81 [.int .u64 (n : Int), .int .i64 (z : Int)] h fun v h' => ∃ l, l.length = z ∧ Sat h' (bufA v l :: S) := by
 refine Call.of_wp (hT.free _ rfl) Tryz.func81 rfl rfl (zg rfl (za rfl (zv (zg rfl (za rfl (zv (zw (zg rfl (za rfl (zv (WP.block ?_)))))))))))
 refine rput1_loop hz z 0 .sl0 [] h _ _ (by omega) rfl s.nilBuf ⟨rfl, rfl, rfl, rfl, trivial⟩ (fun E h v l hl s hE => ?_)
 refine WP.has hE (zg rfl (zm rfl (za rfl (zv ?_))))
 refine WP.ret ⟨trivial, _, rfl, ?_⟩
 exact ⟨l, hl, s⟩
noncomputable def r5L : Code := pathC [1, 1, 0, 0] ((Tryz.f45.body).getD .skip)
theorem rput5_loop {k z L : Nat} (hL : L < 4294967296) : ∀ (j i : Nat) (l m : List Nat) (h : H) (E : List (Nat × V)) (Q : Ex → List (Nat × V) → H → Prop), i + j = z → l.length = L → m.length = z → k + z ≤ L → Sat h (bufA v l :: bufA w m :: S) →
  Has E [(0, v), (1, .int .i64 (k : Int)), (2, .int .i64 (z : Int)), (8, w), (9, .int .i64 (i : Int))] → (∀ E' h' l, l.length = L → Sat h' (bufA v l :: bufA w m :: S) → Q (.exit 0) E' h') → WP ⟨Tryz.prog, told⟩ 27 (.loop r5L) E h Q := by
 intro j
 induction j with
 | zero =>
  intro i l m h E Q hi hl hm hk s hE hq
  refine WP.loop (WP.has hE (zw (zg rfl (zm rfl (zm rfl (WPs.opF rfl rfl rfl (o_bin rfl rfl bLss) (by simp; omega) ?_))))))
  refine zv (zj rfl (WP.exit ?_))
  exact hq _ _ _ hl s
 | succ j ih =>
  intro i l m h E Q hi hl hm hk s hE hq
  have hb : m[i]? = some (m[i]'(by omega)) := List.getElem?_eq_getElem _
  generalize (m[i]'(by omega)) = b at hb
  have hb2 : b < 256 := (s.buf (k := 1) rfl).view.1 b (List.mem_of_getElem? hb)
  obtain ⟨id, off, e1, e2⟩ := index_view (s.buf (k := 1) rfl).view hb
  obtain ⟨id2, off2, e3, h2, e4, s2⟩ := sat_setByte s (i := k + i) (b := b) (by omega) hb2
  refine WP.loop (WP.has hE (zw (zg rfl (zm rfl (zm rfl (WPs.opT rfl rfl rfl (o_bin rfl rfl bLss) (by simp; omega) ?_))))))
  refine zv (zi rfl (WP.skip (zw (WP.block (zr rfl (zm rfl (zm rfl (zm rfl (zb rfl (by exact bAdd (wrapS (by omega) (by omega))) ?_)))))))))
  refine zm rfl (zm rfl (zo rfl (o_ia (r := .ptr id off) rfl rfl e1) (zl rfl e2 (zo rfl (o_ia (r := .ptr id2 off2) rfl rfl e3) (WPs.stS rfl rfl rfl rfl rfl (⟨h2, e4, s2⟩) ?_)))))
  rintro h s
  refine zv (zr rfl (zm rfl (zb rfl (by exact bAdd (wrapS (by omega) (by omega))) ?_)))
  refine za rfl (zv ?_)
  exact ih (i + 1) _ m _ _ Q (by omega) (by rw [List.length_set]; exact hl) hm hk s ⟨rfl, rfl, rfl, rfl, rfl, trivial⟩ hq
theorem rput5_ct (hT : W told) {k z n : Nat} (hz : z ≤ 8) (hl : l.length < 4294967296) (hk : k + z ≤ l.length) (s : Sat h (bufA v l :: S)) :
  Call ⟨Tryz.prog, told⟩ 45 [v, .int .i64 (k : Int), .int .i64 (z : Int), .int .u64 (n : Int)] h fun r h' => ∃ l', l'.length = l.length ∧ Sat h' (bufA v l' :: S) := by
 refine Call.of_wp (hT.free _ rfl) Tryz.func45 rfl rfl (zg rfl (zm rfl (zm rfl (WPs.call rfl rfl rfl rfl rfl rfl rfl (rput1_ct hT hz s) ?_))))
 rintro w h ⟨m, hm, s⟩
 refine za rfl (zv (zg rfl (za rfl (zv (WP.block ?_)))))
 refine rput5_loop hl z 0 l m h _ _ (by omega) rfl hm hk (s.bringS [1, 0]) ⟨rfl, rfl, rfl, rfl, rfl, trivial⟩ (fun E h l' hl s => ?_)
 exact ⟨trivial, _, rfl, l', hl, s.del 1⟩
theorem rnew_ct (hT : W told) (s : Sat h S) : Call ⟨Tryz.prog, told⟩ 15 [.int .i64 1] h fun v h' => ∃ l, l.length = 512 ∧ Sat h' (bufA v l :: S) := by
 refine Call.of_wp (hT.free _ rfl) Tryz.func15 rfl rfl (zg rfl (za rfl (zv (zg rfl (WPs.any rfl rfl rfl (OpR.zeros rfl s rfl rfl rfl rfl (by decide)) ?_)))))
 intro v h s
 have hl : (List.replicate 512 0 : List Nat).length = 512 := List.length_replicate
 obtain ⟨id2, off2, e3, h2, e4, s2⟩ := sat_setByte s (i := 12) (b := 1) (by rw [List.length_replicate]; decide) (by decide)
 refine za rfl (zv (zg rfl (zm rfl (zm rfl (zo rfl (o_conv rfl (by exact cvI Tryz.underlying3 Tryz.underlying5 (wrapU8 (by omega) (by omega)))) ?_)))))
 refine zo rfl (o_ia (r := .ptr id2 off2) rfl rfl e3) (WPs.stS rfl rfl rfl rfl rfl (⟨h2, e4, s2⟩) ?_)
 rintro h s
 refine zv (zg rfl (zm rfl (WPs.call rfl rfl rfl rfl rfl rfl rfl (rput5_ct (k := 16) (z := 2) (n := 512) hT (by decide) (by rw [List.length_set, List.length_replicate]; decide) (by rw [List.length_set, List.length_replicate]; decide) s) ?_)))
 rintro r h ⟨l, hl2, s⟩
 refine zv (zg rfl (zm rfl (za rfl (zv ?_))))
 refine WP.ret ⟨trivial, _, rfl, ?_⟩
 exact ⟨l, by rw [hl2, List.length_set, List.length_replicate], s⟩
theorem done_over (hT : W told) {rc : List V} (hst : rc.all storable = true) (hrc : rc.length = 6) (s : Sat h (isGp g a now true :: S)) :
  Call ⟨Tryz.prog, told⟩ 17 [.ptr g 0, .agg rc] h fun v h' => v = .tup [.int .u64 0, .int .i64 18] ∧ Sat h' (isGp g a now true :: S) := by
 obtain ⟨nv, s⟩ := isGp_iff.1 s
 refine Call.of_wp (hT.free _ rfl) Tryz.func17 rfl rfl (zg rfl (WPs.newS s rfl rfl rfl (o_box rfl hst) ?_))
 intro p1 h s
 dsimp only [V.cells] at s
 refine za rfl (za rfl (zv (zg rfl (zm rfl (zn rfl (zf rfl (fa88_0 _ _) (zl rfl (by exact s.ld (k := 1) rfl ag24 rfl) ?_)))))))
 refine za rfl (zv (zw (WP.block (zg rfl (zm rfl (zn rfl (zf rfl (fa88_2 _ _) (WPs.opT rfl rfl rfl (o_load rfl (by exact s.ld (k := 1) rfl ag4 rfl)) (rfl) ?_))))))))
 refine za rfl (zv (zi rfl (zg rfl (za rfl (za rfl (zv ?_))))))
 refine WP.ret ⟨trivial, _, rfl, ?_⟩
 exact ⟨rfl, (isGp_iff.2 ⟨nv, s.bringS [1, 1]⟩).del 1⟩
end
end Go.Proofs.YtconhghphklfjaaGreat.Am
namespace Go.Proofs.YtconhghphklfjaaGreat.Am
open Go
def pgA (ε : Eng) (n : Int) : List Nat := match lookL n ε.1.wher with
 | some i => match ε.1.frames[i.toNat]? with
  | some f => f.b
  | none => ε.2.2.at n
 | none => ε.2.2.at n
structure FmOk (N : Nat) (δ : Dk) (wher : List (Int × Int)) (i : Nat) (f : Fm) : Prop where
 lt : f.page < N
 here : lookL f.page wher = some (i : Int)
 chk : checkL f.b = 0
 same : f.changed = false → f.b = δ.at f.page
 chg : f.changed = true → goodL f.b = true
structure EC (N : Nat) (ε : Eng) : Prop where
 dk : DA N ε.2.2
 nodup : (ε.1.wher.map (·.1)).Nodup
 lies : ∀ (n i : Int), lookL n ε.1.wher = some i → 0 ≤ n ∧ ∃ (j : Nat) (f : Fm), i = j ∧ ε.1.frames[j]? = some f ∧ f.page = n
 back : ∀ (i : Nat) (f : Fm), ε.1.frames[i]? = some f → f.page < 0 ∨ FmOk N ε.2.2 ε.1.wher i f
 dirt : ∀ k : Int, k ∈ ε.1.dirty.map (·.1) → 0 ≤ k ∧ k < N
 dnd : (ε.1.dirty.map (·.1)).Nodup
theorem pgA_some {ε : Eng} {n : Int} {j : Nat} {f : Fm} (h : lookL n ε.1.wher = some (j : Int)) (hf : ε.1.frames[j]? = some f) : pgA ε n = f.b := by
 simp only [pgA, h, Int.toNat_natCast, hf]
theorem pgA_none {ε : Eng} {n : Int} (h : lookL n ε.1.wher = none) : pgA ε n = ε.2.2.at n := by simp only [pgA, h]
theorem EC.cases {N : Nat} {ε : Eng} (h : EC N ε) (n : Int) : (∃ (j : Nat) (f : Fm), lookL n ε.1.wher = some (j : Int) ∧ ε.1.frames[j]? = some f ∧ f.page = n ∧ 0 ≤ n ∧ FmOk N ε.2.2 ε.1.wher j f ∧ pgA ε n = f.b) ∨ (lookL n ε.1.wher = none ∧ pgA ε n = ε.2.2.at n) := by
 cases hl : lookL n ε.1.wher with
 | none => exact .inr ⟨rfl, pgA_none hl⟩
 | some i =>
  obtain ⟨h0, j, f, rfl, hf, hp⟩ := h.lies n i hl
  refine .inl ⟨j, f, rfl, hf, hp, h0, ?_, pgA_some hl hf⟩
  rcases h.back j f hf with h1 | h1
  ·omega
  ·exact h1
theorem fmget_set {m : List Fm} {i j : Nat} {f g x : Fm} (hf : m[i]? = some f) (hx : (m.set i g)[j]? = some x) : (i = j ∧ x = g) ∨ (i ≠ j ∧ m[j]? = some x) := by
 by_cases hij : i = j
 ·subst hij
  rw [List.getElem?_set_self (List.getElem?_eq_some_iff.1 hf).1] at hx
  exact .inl ⟨rfl, (Option.some.inj hx).symm⟩
 ·rw [List.getElem?_set_ne hij] at hx
  exact .inr ⟨hij, hx⟩
theorem EC.set {N : Nat} {ε : Eng} {i : Nat} {f g : Fm} {y : Lg} {δ : Dk} {d : List (Int × (Nat × Bool))} (h : EC N ε) (hf : ε.1.frames[i]? = some f) (hp : g.page = f.page) (hδ : DA N δ)
  (hg : g.page < 0 ∨ FmOk N δ ε.1.wher i g) (ho : ∀ (j : Nat) (x : Fm), i ≠ j → ε.1.frames[j]? = some x → 0 ≤ x.page → δ.at x.page = ε.2.2.at x.page) (hd : ∀ k : Int, k ∈ d.map (·.1) → 0 ≤ k ∧ k < N) (hdn : (d.map (·.1)).Nodup) :
  EC N ({ ε.1 with frames := ε.1.frames.set i g, dirty := d }, (y, δ)) := by
 have hi := (List.getElem?_eq_some_iff.1 hf).1
 refine ⟨hδ, h.nodup, fun n k hk => ?_, fun j x hx => ?_, hd, hdn⟩
 ·obtain ⟨h0, j, x, rfl, hx, hxp⟩ := h.lies n k hk
  refine ⟨h0, j, ?_⟩
  by_cases hij : i = j
  ·subst hij
   rw [hf] at hx
   have := Option.some.inj hx
   subst this
   exact ⟨g, rfl, List.getElem?_set_self hi, hp.trans hxp⟩
  ·exact ⟨x, rfl, by show (ε.1.frames.set i g)[j]? = some x; rw [List.getElem?_set_ne hij]; exact hx, hxp⟩
 ·rcases fmget_set hf hx with ⟨rfl, rfl⟩ | ⟨hij, hx⟩
  ·exact hg
  ·rcases h.back j x hx with h1 | h1
   ·exact .inl h1
   ·by_cases h2 : x.page < 0
    ·exact .inl h2
    ·refine .inr ⟨h1.lt, h1.here, h1.chk, fun hc => ?_, h1.chg⟩
     rw [ho j x hij hx (by omega)]; exact h1.same hc
theorem pgA_set {ε : Eng} {i : Nat} {f g : Fm} {x : LD} {d : List (Int × (Nat × Bool))} (hf : ε.1.frames[i]? = some f) (hb : g.b = f.b) {n : Int} (hx : lookL n ε.1.wher = none → x.2.at n = ε.2.2.at n) (hy : ∀ j : Int, lookL n ε.1.wher = some j → ∃ f', ε.1.frames[j.toNat]? = some f') :
  pgA ({ ε.1 with frames := ε.1.frames.set i g, dirty := d }, x) n = pgA ε n := by
 unfold pgA
 simp only
 cases hl : lookL n ε.1.wher with
 | none => exact hx hl
 | some j =>
  simp only
  obtain ⟨f', hf'⟩ := hy j hl
  by_cases hij : i = j.toNat
  ·subst hij
   rw [List.getElem?_set_self (List.getElem?_eq_some_iff.1 hf).1, hf]
   exact hb
  ·rw [List.getElem?_set_ne hij, hf']
theorem EC.there {N : Nat} {ε : Eng} (h : EC N ε) {n : Int} : ∀ j : Int, lookL n ε.1.wher = some j → ∃ f', ε.1.frames[j.toNat]? = some f' := fun j hj => by
 obtain ⟨_, k, f, rfl, hf, _⟩ := h.lies n j hj
 exact ⟨f, by rw [Int.toNat_natCast]; exact hf⟩
theorem EC.out {N : Nat} {ε : Eng} {i : Nat} {f : Fm} (h : EC N ε) (hf : ε.1.frames[i]? = some f) :
  (outF ε i).1 = 0 ∧ EC N (outF ε i).2 ∧ (∀ n, pgA (outF ε i).2 n = pgA ε n) ∧ (outF ε i).2.1.wher = ε.1.wher ∧ ∃ g, (outF ε i).2.1.frames[i]? = some g ∧ g.page = f.page ∧ (0 ≤ g.page → g.changed = false) := by
 have hi := (List.getElem?_eq_some_iff.1 hf).1
 unfold outF
 rw [hf]
 simp only
 by_cases hc : f.page < 0 ∨ f.changed = false
 ·rw [if_pos hc]
  exact ⟨rfl, h, fun n => rfl, rfl, f, hf, rfl, fun h0 => hc.resolve_left (by omega)⟩
 ·rw [if_neg hc]
  have hc1 : 0 ≤ f.page := by omega
  have hc2 : f.changed = true := by cases hq : f.changed <;> simp [hq] at hc ⊢
  have ho := (h.back i f hf).resolve_left (by omega)
  have hg := ho.chg hc2
  rw [if_neg (by rw [hg]; decide)]
  obtain ⟨e1, k1⟩ := forceLD_a (x := ε.2) (n := atL f.b 4 8) h.dk
  rw [if_neg (by rw [e1]; decide)]
  obtain ⟨e2, k2, k3⟩ := writeF_a (h.dk.of k1) hc1 ho.lt (good512 hg) ho.chk
  rw [if_neg (by rw [e2]; decide)]
  have hat : ∀ m, f.page ≠ m → ((forceLD ε.2 (atL f.b 4 8)).2.2.writeF f.page f.b).2.at m = ε.2.2.at m := fun m hm => by rw [k3, if_neg hm, k1.at]
  refine ⟨rfl, h.set hf rfl k2 (.inr ⟨ho.lt, ho.here, ho.chk, fun _ => ?_, fun hq => (by cases hq)⟩) (fun j x hij hx h0 => hat _ fun hpp => ?_) (fun k hk => ?_) (nodup_putL h.dnd), fun n => ?_, rfl, _, List.getElem?_set_self hi, rfl, fun _ => rfl⟩
  ·simp only; rw [k3, if_pos rfl]
  ·rcases h.back j x hx with h1 | h1
   ·omega
   ·have := h1.here
    rw [← hpp, ho.here] at this
    have := Option.some.inj this
    omega
  ·rcases mem_putL.1 hk with rfl | hk
   ·exact ⟨hc1, ho.lt⟩
   ·exact h.dirt k hk
  ·exact pgA_set hf (by rfl) (fun hn => hat n fun e => by rw [← e, ho.here] at hn; cases hn) h.there
end Go.Proofs.YtconhghphklfjaaGreat.Am
namespace Go.Proofs.YtconhghphklfjaaGreat.Am
open Go
theorem Near.back {π π' : Pl} (hn : Near π π') {i : Nat} {x : Fm} (hx : π'.frames[i]? = some x) : ∃ f t, π.frames[i]? = some f ∧ x = { f with touch := t } := by
 have hi := (List.getElem?_eq_some_iff.1 hx).1
 rw [hn.len] at hi
 have hf : π.frames[i]? = some (π.frames[i]'hi) := List.getElem?_eq_getElem _
 obtain ⟨t, ht⟩ := hn.get i _ hf
 rw [hx] at ht
 exact ⟨_, t, hf, Option.some.inj ht⟩
theorem EC.near {N : Nat} {ε : Eng} {π' : Pl} (h : EC N ε) (hn : Near ε.1 π') : EC N (π', ε.2) ∧ ∀ n, pgA (π', ε.2) n = pgA ε n := by
 refine ⟨⟨h.dk, by rw [hn.wher]; exact h.nodup, fun n i hi => ?_, fun i x hx => ?_, by rw [hn.dirty]; exact h.dirt, by rw [hn.dirty]; exact h.dnd⟩, fun n => ?_⟩
 ·rw [hn.wher] at hi
  obtain ⟨h0, j, f, rfl, hf, hp⟩ := h.lies n i hi
  obtain ⟨t, ht⟩ := hn.get j f hf
  exact ⟨h0, j, _, rfl, ht, hp⟩
 ·obtain ⟨f, t, hf, rfl⟩ := hn.back hx
  rcases h.back i f hf with h1 | h1
  ·exact .inl h1
  ·exact .inr ⟨h1.lt, by rw [hn.wher]; exact h1.here, h1.chk, h1.same, h1.chg⟩
 ·unfold pgA
  simp only [hn.wher]
  cases hl : lookL n ε.1.wher with
  | none => rfl
  | some i =>
   obtain ⟨h0, j, f, rfl, hf, hp⟩ := h.lies n i hl
   obtain ⟨t, ht⟩ := hn.get j f hf
   simp only [Int.toNat_natCast, ht, hf]
theorem EC.freed {N : Nat} {ε : Eng} {i : Nat} {f g : Fm} (h : EC N ε) (hg : ε.1.frames[i]? = some g) (hp : g.page = f.page) (hc : 0 ≤ g.page → g.changed = false) : EC N (freed ε.1 i f, ε.2) ∧ (∀ n, pgA (freed ε.1 i f, ε.2) n = pgA ε n) ∧
  (freed ε.1 i f).frames[i]? = some emptyF ∧ ∀ n, lookL n ε.1.wher = none → lookL n (freed ε.1 i f).wher = none := by
 have hi := (List.getElem?_eq_some_iff.1 hg).1
 have hself : (ε.1.frames.set i emptyF)[i]? = some emptyF := List.getElem?_set_self hi
 have hwh : ∀ n, lookL n (Am.freed ε.1 i f).wher = if 0 ≤ f.page ∧ f.page = n then none else lookL n ε.1.wher := fun n => by
  rw [Am.freed]
  by_cases h0 : f.page < 0
  ·rw [if_pos h0, if_neg (by omega)]
  ·rw [if_neg h0, lookL_del h.nodup]
   by_cases hn : f.page = n
   ·rw [if_pos hn, if_pos ⟨by omega, hn⟩]
   ·rw [if_neg hn, if_neg (by omega)]
 refine ⟨⟨h.dk, ?_, fun n k hk => ?_, fun j x hx => ?_, h.dirt, h.dnd⟩, fun n => ?_, hself, fun n hn => ?_⟩
 ·rw [Am.freed]
  by_cases h0 : f.page < 0
  ·rw [if_pos h0]; exact h.nodup
  ·rw [if_neg h0]; exact nodup_delL h.nodup
 ·rw [hwh] at hk
  split at hk
  ·cases hk
  ·rename_i hne
   obtain ⟨h0, j, x, rfl, hx, hxp⟩ := h.lies n k hk
   refine ⟨h0, j, x, rfl, ?_, hxp⟩
   show (ε.1.frames.set i emptyF)[j]? = some x
   rw [List.getElem?_set_ne]
   ·exact hx
   ·rintro rfl
    rw [hg] at hx
    have := Option.some.inj hx
    subst this
    omega
 ·rcases fmget_set hg hx with ⟨rfl, rfl⟩ | ⟨hij, hx⟩
  ·exact .inl (by decide)
  ·rcases h.back j x hx with h1 | h1
   ·exact .inl h1
   ·by_cases hx0 : x.page < 0
    ·exact .inl hx0
    refine .inr ⟨h1.lt, ?_, h1.chk, h1.same, h1.chg⟩
    rw [hwh, if_neg]
    ·exact h1.here
    ·rintro ⟨h0, hpp⟩
     rcases h.back i g hg with h2 | h2
     ·omega
     ·have e := h2.here
      rw [hp, hpp, h1.here] at e
      have := Option.some.inj e
      omega
 ·rcases h.cases n with ⟨j, x, hl, hx, hxp, h0, ho, e⟩ | ⟨hl, e⟩
  ·rw [e]
   by_cases hpp : f.page = n
   ·have hij : i = j := by
     rcases h.back i g hg with h2 | h2
     ·omega
     ·have e := h2.here
      rw [hp, hpp, hl] at e
      have := Option.some.inj e
      omega
    subst hij
    rw [hg] at hx
    have := Option.some.inj hx
    subst this
    rw [pgA_none (by rw [hwh, if_pos ⟨by omega, hpp⟩])]
    rw [ho.same (hc (by omega)), hp, hpp]
   ·refine pgA_some (j := j) (by rw [hwh, if_neg (by omega)]; exact hl) ?_
    show (ε.1.frames.set i emptyF)[j]? = some x
    rw [List.getElem?_set_ne]
    ·exact hx
    ·rintro rfl
     rw [hg] at hx
     have := Option.some.inj hx
     subst this
     omega
  ·rw [e, pgA_none (by rw [hwh]; split; rfl; exact hl)]
 ·rw [hwh]; split; rfl; exact hn
theorem EC.loaded {N : Nat} {ε : Eng} {i : Nat} {e : Fm} {n : Int} (h : EC N ε) (he : ε.1.frames[i]? = some e) (hp : e.page < 0) (hl : lookL n ε.1.wher = none) (h0 : 0 ≤ n) (h1 : n < N) : EC N (loaded ε.1 i n (ε.2.2.at n), ε.2) ∧ ∀ m, pgA (loaded ε.1 i n (ε.2.2.at n), ε.2) m = pgA ε m := by
 have hi := (List.getElem?_eq_some_iff.1 he).1
 have hself : (ε.1.frames.set i ⟨n, ε.2.2.at n, 1, true, false⟩)[i]? = some ⟨n, ε.2.2.at n, 1, true, false⟩ := List.getElem?_set_self hi
 have hwh : ∀ m, lookL m (Am.loaded ε.1 i n (ε.2.2.at n)).wher = if n = m then some (i : Int) else lookL m ε.1.wher := fun m => lookL_put _
 refine ⟨⟨h.dk, nodup_putL h.nodup, fun m k hk => ?_, fun j x hx => ?_, h.dirt, h.dnd⟩, fun m => ?_⟩
 ·rw [hwh] at hk
  split at hk
  ·rename_i hnm
   have := Option.some.inj hk
   subst this
   subst hnm
   exact ⟨h0, i, _, rfl, hself, rfl⟩
  ·rename_i hne
   obtain ⟨h0, j, x, rfl, hx, hxp⟩ := h.lies m k hk
   refine ⟨h0, j, x, rfl, ?_, hxp⟩
   show (ε.1.frames.set i _)[j]? = some x
   rw [List.getElem?_set_ne]
   ·exact hx
   ·rintro rfl
    rw [he] at hx
    have := Option.some.inj hx
    subst this
    omega
 ·rcases fmget_set he hx with ⟨rfl, rfl⟩ | ⟨hij, hx⟩
  ·exact .inr ⟨h1, by rw [hwh, if_pos rfl], h.dk.good n h0 h1, fun _ => rfl, fun hq => (by cases hq)⟩
  ·rcases h.back j x hx with h2 | h2
   ·exact .inl h2
   ·refine .inr ⟨h2.lt, ?_, h2.chk, h2.same, h2.chg⟩
    rw [hwh, if_neg]
    ·exact h2.here
    ·rintro rfl
     rw [h2.here] at hl; cases hl
 ·by_cases hnm : n = m
  ·subst hnm
   rw [pgA_some (j := i) (by rw [hwh, if_pos rfl]) hself, pgA_none hl]
  ·rcases h.cases m with ⟨j, x, hl2, hx, hxp, _, ho, e2⟩ | ⟨hl2, e2⟩
   ·rw [e2]
    refine pgA_some (j := j) (by rw [hwh, if_neg hnm]; exact hl2) ?_
    show (ε.1.frames.set i _)[j]? = some x
    rw [List.getElem?_set_ne]
    ·exact hx
    ·rintro rfl
     rw [he] at hx
     have := Option.some.inj hx
     subst this
     omega
   ·rw [e2, pgA_none (by rw [hwh, if_neg hnm]; exact hl2)]
theorem EC.frame {N : Nat} {ε : Eng} {i : Nat} {f g : Fm} (h : EC N ε) (hf : ε.1.frames[i]? = some f) (hp : g.page = f.page) (hb : g.b = f.b) (hc : g.changed = f.changed) : EC N ({ ε.1 with frames := ε.1.frames.set i g }, ε.2) ∧ ∀ n, pgA ({ ε.1 with frames := ε.1.frames.set i g }, ε.2) n = pgA ε n := by
 refine ⟨h.set (y := ε.2.1) (δ := ε.2.2) hf hp h.dk ?_ (fun _ _ _ _ _ => rfl) h.dirt h.dnd, fun n => pgA_set hf hb (fun _ => rfl) h.there⟩
 rcases h.back i f hf with h1 | h1
 ·exact .inl (by omega)
 ·exact .inr ⟨by rw [hp]; exact h1.lt, by rw [hp]; exact h1.here, by rw [hb]; exact h1.chk, by rw [hp, hb, hc]; exact h1.same, by rw [hb, hc]; exact h1.chg⟩
theorem PinR.ec {N : Nat} {ε ε' : Eng} {n e : Int} {b : List Nat} (hr : PinR ε n e b ε') (h : EC N ε) : EC N ε' ∧ (∀ m, pgA ε' m = pgA ε m) ∧ (0 ≤ n → n < N → e = 0 ∧ b = pgA ε n) ∧ (¬(0 ≤ n ∧ n < N) → e = 1 ∧ ε' = ε) := by
 have hpg := h.dk.pages
 cases hr with
 | arg hn => rw [hpg] at hn; exact ⟨h, fun _ => rfl, fun a b => absurd ⟨a, b⟩ hn, fun _ => ⟨rfl, rfl⟩⟩
 | hit i f h1 h2 hl hf =>
  rw [hpg] at h2
  obtain ⟨k1, k2⟩ := h.frame (g := { f with touch := true, pins := f.pins + 1 }) hf rfl rfl rfl
  exact ⟨k1, k2, fun _ _ => ⟨rfl, (pgA_some hl hf).symm⟩, fun hn => absurd ⟨h1, h2⟩ hn⟩
 | out π' i f h1 h2 hl hn hf hh he => exact absurd ((h.near hn).1.out hf).1 he
 | read π' i f h1 h2 hl hn hf hh he hr =>
  obtain ⟨k1, k2, k3, k4, g, k5, k6, k7⟩ := (h.near hn).1.out hf
  refine absurd ?_ hr
  rw [hpg] at h2
  rw [Dk.readE, if_neg (by rw [k2.dk.alive]; decide), if_neg (by rw [k2.dk.pages]; exact not_not_intro ⟨h1, h2⟩)]
 | bad π' i f h1 h2 hl hn hf hh he hr hc =>
  obtain ⟨k1, k2, k3, k4, g, k5, k6, k7⟩ := (h.near hn).1.out hf
  rw [hpg] at h2
  exact absurd (k2.dk.good n h1 h2) hc
 | load π' i f h1 h2 hl hn hf hh he hr hc =>
  obtain ⟨n1, n2⟩ := h.near hn
  obtain ⟨k1, k2, k3, k4, g, k5, k6, k7⟩ := n1.out hf
  rw [hpg] at h2
  obtain ⟨f1, f2, f3, f4⟩ := k2.freed k5 k6 k7
  have hl2 : lookL n (outF (π', ε.2) i).2.1.wher = none := by rw [k4]; show lookL n π'.wher = none; rw [hn.wher]; exact hl
  obtain ⟨l1, l2⟩ := f1.loaded f3 (by decide) (f4 n hl2) h1 h2
  exact ⟨l1, fun m => by rw [l2, f2, k3, n2], fun _ _ => ⟨rfl, by rw [← n2, ← k3, pgA_none hl2]⟩, fun hn => absurd ⟨h1, h2⟩ hn⟩
theorem unpinF_ec {N : Nat} {π : Pl} {x : LD} {n : Int} (h : EC N (π, x)) : EC N ((unpinF π n).2, x) ∧ ∀ m, pgA ((unpinF π n).2, x) m = pgA (π, x) m := by
 unfold unpinF
 split
 ·exact ⟨h, fun _ => rfl⟩
 ·split
  ·exact ⟨h, fun _ => rfl⟩
  ·rename_i i hi f hf
   exact h.frame (g := { f with pins := f.pins - 1 }) hf rfl rfl rfl
theorem RdR.ec {N : Nat} {ε ε' : Eng} {n e : Int} {b : List Nat} (hr : RdR ε n e b ε') (h : EC N ε) (hp : ∀ f ∈ ε.1.frames, f.pins = 0) : EC N ε' ∧ (∀ m, pgA ε' m = pgA ε m) ∧ (0 ≤ n → n < N → e = 0 ∧ b = pgA ε n) ∧ (¬(0 ≤ n ∧ n < N) → e = 1 ∧ ε' = ε) := by
 cases hr with
 | dead hd => rw [h.dk.alive] at hd; cases hd
 | pin e b ε' hd hr he =>
  obtain ⟨k1, k2, k3, k4⟩ := hr.ec h
  exact ⟨k1, k2, fun a b => absurd (k3 a b).1 he, k4⟩
 | unpin b ε' hd hr he => exact absurd (hr.unpinned hp).1 he
 | read b ε' hd hr he =>
  obtain ⟨k1, k2, k3, k4⟩ := hr.ec h
  obtain ⟨u1, u2⟩ := unpinF_ec (n := n) k1
  refine ⟨u1, fun m => by rw [u2]; exact k2 m, k3, fun hn => absurd (k4 hn).1 (by decide)⟩
theorem GRd.ec {N : Nat} {ε ε' : Eng} {now : List (Int × List Nat)} {n e : Int} {b : List Nat} (hr : GRd ε now false n e b ε') (h : EC N ε) (hp : ∀ f ∈ ε.1.frames, f.pins = 0) : EC N ε' ∧ (∀ m, pgA ε' m = pgA ε m) ∧
  (0 ≤ n → n < N → e = 0 ∧ b = (match lookL n now with | some b => b | none => pgA ε n)) ∧ (¬(0 ≤ n ∧ n < N) → e = 1) := by
 have hpg := h.dk.pages
 cases hr with
 | arg hn => rw [hpg] at hn; exact ⟨h, fun _ => rfl, fun a b => absurd ⟨a, b⟩ hn, fun _ => rfl⟩
 | over _ _ ho => cases ho
 | own b h1 h2 _ hl => rw [hpg] at h2; exact ⟨h, fun _ => rfl, fun _ _ => ⟨rfl, by rw [hl]⟩, fun hn => absurd ⟨h1, h2⟩ hn⟩
 | read e b ε' h1 h2 _ hl hr =>
  rw [hpg] at h2
  obtain ⟨k1, k2, k3, k4⟩ := hr.ec h hp
  exact ⟨k1, k2, fun a b => by rw [hl]; exact k3 a b, fun hn => absurd ⟨h1, h2⟩ hn⟩
end Go.Proofs.YtconhghphklfjaaGreat.Am
namespace Go.Proofs.YtconhghphklfjaaGreat.Am
open Go
theorem nodup_len : ∀ (N : Nat) (l : List Int), l.Nodup → (∀ n ∈ l, 0 ≤ n ∧ n < N) → l.length ≤ N := by
 intro N
 induction N with
 | zero =>
  intro l _ h
  cases l with
  | nil => exact Nat.le_refl _
  | cons n l => have := h n List.mem_cons_self; omega
 | succ N ih =>
  intro l hd h
  have h1 := ih (l.erase (N : Int)) (hd.erase _) fun n hn => by
   have h2 := (hd.mem_erase_iff).1 hn
   have := h n h2.2
   have := h2.1
   omega
  have h2 : l.length ≤ (l.erase (N : Int)).length + 1 := by
   rw [List.length_erase]; split <;> omega
  omega
structure NW (N : Nat) (now : List (Int × List Nat)) : Prop where
 good : ∀ e ∈ now, goodL e.2 = true ∧ ∀ x ∈ e.2, x < 256
 keys : ∀ k : Int, k ∈ now.map (·.1) → 0 ≤ k ∧ k < N
 nodup : (now.map (·.1)).Nodup
theorem NW.nil (N : Nat) : NW N [] := ⟨fun e h => (by cases h), fun k h => (by cases h), List.nodup_nil⟩
theorem NW.len {N : Nat} {now : List (Int × List Nat)} (h : NW N now) : now.length ≤ N := by
 have := nodup_len N _ h.nodup h.keys
 rwa [List.length_map] at this
theorem NW.look {N : Nat} {now : List (Int × List Nat)} (h : NW N now) {n : Int} {b : List Nat} (hl : lookL n now = some b) : goodL b = true ∧ ∀ x ∈ b, x < 256 := h.good _ (lookL_mem hl)
theorem ChR.ec {N : Nat} {now : List (Int × List Nat)} {l : List Int} {ε ε' : Eng} {e : Int} {cs : List Chg} (hr : ChR now l ε e cs ε') : EC N ε → EOk3 ε → (∀ n ∈ l, 0 ≤ n ∧ n < N) → EC N ε' ∧ (∀ m, pgA ε' m = pgA ε m) ∧ e = 0 := by
 induction hr with
 | nil ε => intro h _ _; exact ⟨h, fun _ => rfl, rfl⟩
 | err n l ε e b ε' hr he =>
  intro h h3 hl
  obtain ⟨k1, k2, k3, k4⟩ := hr.ec h h3.pins
  have := hl n List.mem_cons_self
  exact absurd (k3 this.1 this.2).1 he
 | part n l ε was b ε' c e cs ε'' hr hb hd hc hcl ht ih =>
  intro h h3 hl
  obtain ⟨k1, k2, k3, k4⟩ := hr.ec h h3.pins
  obtain ⟨i1, i2, i3⟩ := ih k1 (hr.ok3 h3) fun m hm => hl m (List.mem_cons_of_mem _ hm)
  exact ⟨i1, fun m => by rw [i2, k2], i3⟩
 | whole n l ε was b ε' e cs ε'' hr hb hd ht ih =>
  intro h h3 hl
  obtain ⟨k1, k2, k3, k4⟩ := hr.ec h h3.pins
  obtain ⟨i1, i2, i3⟩ := ih k1 (hr.ok3 h3) fun m hm => hl m (List.mem_cons_of_mem _ hm)
  exact ⟨i1, fun m => by rw [i2, k2], i3⟩
theorem EC.log {N : Nat} {ε : Eng} {x : LD} (h : EC N ε) (k : DK ε.2.2 x.2) : EC N (ε.1, x) ∧ ∀ m, pgA (ε.1, x) m = pgA ε m := by
 refine ⟨⟨h.dk.of k, h.nodup, h.lies, fun i f hf => ?_, h.dirt, h.dnd⟩, fun m => ?_⟩
 ·rcases h.back i f hf with h1 | h1
  ·exact .inl h1
  ·exact .inr ⟨h1.lt, h1.here, h1.chk, fun hc => by rw [k.at]; exact h1.same hc, h1.chg⟩
 ·unfold pgA
  simp only [k.at]
theorem EC.put {N : Nat} {ε : Eng} {n : Int} {i : Nat} {f : Fm} {b : List Nat} {lsn : Nat} (h : EC N ε) (hl : lookL n ε.1.wher = some (i : Int)) (hf : ε.1.frames[i]? = some f) (hg : goodL b = true) (hb : ∀ x ∈ b, x < 256) (h0 : 0 ≤ n) (h1 : n < N) :
  EC N (putX ε.1 n i f b lsn, ε.2) ∧ ∀ m, pgA (putX ε.1 n i f b lsn, ε.2) m = if m = n then sealL b lsn else pgA ε m := by
 obtain ⟨s1, s2, s3⟩ := seal_good (n := lsn) hg hb
 have hi := (List.getElem?_eq_some_iff.1 hf).1
 have hp : f.page = n := by
  obtain ⟨_, j, x, hij, hx, hxp⟩ := h.lies n i hl
  have : i = j := by omega
  subst this
  rw [hf] at hx
  rw [Option.some.inj hx]; exact hxp
 have ho := (h.back i f hf).resolve_left (by omega)
 refine ⟨h.set (y := ε.2.1) (δ := ε.2.2) hf rfl h.dk (.inr ⟨ho.lt, ho.here, s1, fun hq => (by cases hq), fun _ => s2⟩) (fun _ _ _ _ _ => rfl) (fun k hk => ?_) (nodup_putL h.dnd), fun m => ?_⟩
 ·rcases mem_putL.1 hk with rfl | hk
  ·exact ⟨h0, h1⟩
  ·exact h.dirt k hk
 ·by_cases hm : m = n
  ·subst hm
   rw [if_pos rfl]
   exact pgA_some (ε := (putX ε.1 m i f b lsn, ε.2)) hl (List.getElem?_set_self hi)
  ·rw [if_neg hm]
   rcases h.cases m with ⟨j, x, hl2, hx, hxp, _, _, e2⟩ | ⟨hl2, e2⟩
   ·rw [e2]
    refine pgA_some (ε := (putX ε.1 n i f b lsn, ε.2)) hl2 ?_
    show (ε.1.frames.set i _)[j]? = some x
    rw [List.getElem?_set_ne]
    ·exact hx
    ·rintro rfl
     rw [hf] at hx
     have := Option.some.inj hx
     subst this
     omega
   ·rw [e2]
    exact pgA_none (ε := (putX ε.1 n i f b lsn, ε.2)) hl2
theorem PtR.ec {N : Nat} {now : List (Int × List Nat)} {lsn : Nat} {l : List Int} {ε ε' : Eng} {e : Int} (hr : PtR now lsn l ε e ε') : EC N ε → EOk3 ε → NW N now → (∀ n ∈ l, 0 ≤ n ∧ n < N) → EC N ε' ∧ e = 0 ∧
  ∀ m, pgA ε' m = if m ∈ l then (match lookL m now with | some b => sealL b lsn | none => pgA ε m) else pgA ε m := by
 induction hr with
 | nil ε => intro h _ _ _; exact ⟨h, rfl, fun m => by rw [if_neg (by simp)]⟩
 | pin n l ε e b ε' hr he =>
  intro h h3 hn hl
  have := hl n List.mem_cons_self
  exact absurd ((hr.ec h).2.2.1 this.1 this.2).1 he
 | bad n l ε b0 b ε' hr hb he =>
  intro h h3 hn hl
  exact absurd ((hr.put (b := b) (lsn := lsn) h3).2.2 (hn.look hb).1) he
 | put n l ε b0 b ε' e ε'' hr hb he ht ih =>
  intro h h3 hn hl
  have hr1 := hl n List.mem_cons_self
  obtain ⟨k1, k2, k3, k4⟩ := hr.ec h
  obtain ⟨i, f, p1, p2, p3, p4, p5⟩ := hr.at h3.pins
  have hg := hn.look hb
  have e1 := putUn_good (lsn := lsn) p1 p2 p3 hg.1
  obtain ⟨q1, q2⟩ := k1.put (lsn := lsn) p1 p2 hg.1 hg.2 hr1.1 hr1.2
  have h3' := (hr.put (b := b) (lsn := lsn) h3).1
  rw [e1] at ih h3'
  obtain ⟨i1, i2, i3⟩ := ih q1 h3' hn fun m hm => hl m (List.mem_cons_of_mem _ hm)
  refine ⟨i1, i2, fun m => ?_⟩
  rw [i3, q2]
  by_cases hm : m = n
  ·subst hm
   rw [if_pos rfl, if_pos (List.mem_cons_self)]
   split
   ·rw [hb]
   ·rw [hb]
  ·rw [if_neg hm, k2]
   by_cases hml : m ∈ l
   ·rw [if_pos hml, if_pos (List.mem_cons_of_mem _ hml)]
   ·rw [if_neg hml, if_neg (by simp [hm, hml])]
end Go.Proofs.YtconhghphklfjaaGreat.Am
