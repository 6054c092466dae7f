/- A group that is over or open, pages that are none and records that may not be are refused, and a record that was done is read back; the conditions are those of the given statement, for arguments that a machine can hold. Part 34 of 44. -/
import Derived.Test.YtconhghphklfjaaGreatE33
namespace Go.Proofs.YtconhghphklfjaaGreat.Am
open Go
structure Pl.Full (π : Pl) : Prop where
 nodup : (π.wher.map (·.1)).Nodup
 lies : ∀ n i, lookL n π.wher = some i → 0 ≤ n ∧ ∃ f, π.frames[i.toNat]? = some f ∧ f.page = n ∧ f.b.length = 512
structure EOk3 (ε : Eng) : Prop where
 ok : EOk2 ε
 pins : ∀ f ∈ ε.1.frames, f.pins = 0
 full : ε.1.Full
theorem Pl.Full.set {π : Pl} {i : Nat} {f g : Fm} {d : List (Int × (Nat × Bool))} (h : π.Full) (hf : π.frames[i]? = some f) (hp : g.page = f.page) (hl : f.b.length = 512 → g.b.length = 512) : Pl.Full { π with frames := π.frames.set i g, dirty := d } := by
 refine ⟨h.nodup, fun n j hj => ?_⟩
 obtain ⟨h1, f', h2, h3, h4⟩ := h.lies n j hj
 refine ⟨h1, ?_⟩
 by_cases hij : i = j.toNat
 ·subst hij
  rw [hf] at h2
  have := Option.some.inj h2
  subst this
  exact ⟨g, List.getElem?_set_self (List.getElem?_eq_some_iff.1 hf).1, hp.trans h3, hl h4⟩
 ·exact ⟨f', by simp only [List.getElem?_set_ne hij]; exact h2, h3, h4⟩
theorem Near.full {π π' : Pl} (hn : Near π π') (h : π.Full) : π'.Full := by
 refine ⟨by rw [hn.wher]; exact h.nodup, fun n j hj => ?_⟩
 rw [hn.wher] at hj
 obtain ⟨h1, f', h2, h3, h4⟩ := h.lies n j hj
 obtain ⟨t, ht⟩ := hn.get _ _ h2
 exact ⟨h1, _, ht, h3, h4⟩
theorem outF_full {ε : Eng} {i : Nat} (h : ε.1.Full) : (outF ε i).2.1.Full := by
 unfold outF
 split
 ·exact h
 ·rename_i f hf
  split
  ·exact h
  ·split
   ·exact h
   ·split
    ·exact h
    ·split
     ·exact h
     ·exact h.set hf rfl fun hl => hl
theorem freed_full {π : Pl} {i : Nat} {f g : Fm} (h : π.Full) (hg : π.frames[i]? = some g) (hp : g.page = f.page) : (freed π i f).Full ∧ ∀ n j, lookL n (freed π i f).wher = some j → j.toNat ≠ i := by
 have key : ∀ n j, lookL n (freed π i f).wher = some j → lookL n π.wher = some j ∧ j.toNat ≠ i := by
  intro n j hj
  by_cases hf : f.page < 0
  ·have hw : (freed π i f).wher = π.wher := by simp only [freed, if_pos hf]
   rw [hw] at hj
   refine ⟨hj, fun hi => ?_⟩
   obtain ⟨h1, f', h2, h3, _⟩ := h.lies n j hj
   rw [hi, hg] at h2
   have := Option.some.inj h2
   subst this
   omega
  ·have hw : (freed π i f).wher = delL f.page π.wher := by simp only [freed, if_neg hf]
   rw [hw, lookL_del h.nodup] at hj
   by_cases hn : f.page = n
   ·rw [if_pos hn] at hj; cases hj
   ·rw [if_neg hn] at hj
    refine ⟨hj, fun hi => ?_⟩
    obtain ⟨h1, f', h2, h3, _⟩ := h.lies n j hj
    rw [hi, hg] at h2
    have := Option.some.inj h2
    subst this
    omega
 refine ⟨⟨?_, fun n j hj => ?_⟩, fun n j hj => (key n j hj).2⟩
 ·unfold freed
  simp only
  split
  ·exact h.nodup
  ·exact nodup_delL h.nodup
 ·obtain ⟨h1, h2⟩ := key n j hj
  obtain ⟨h3, f', h4, h5, h6⟩ := h.lies n j h1
  exact ⟨h3, f', by simp only [freed, List.getElem?_set_ne (Ne.symm h2)]; exact h4, h5, h6⟩
theorem loaded_full {π : Pl} {i : Nat} {n : Int} {b : List Nat} (h : π.Full) (hi : i < π.frames.length) (hne : ∀ n j, lookL n π.wher = some j → j.toNat ≠ i) (hn : 0 ≤ n) (hb : b.length = 512) : (loaded π i n b).Full := by
 refine ⟨nodup_putL h.nodup, fun m j hj => ?_⟩
 simp only [loaded, lookL_put] at hj
 by_cases hm : n = m
 ·rw [if_pos hm] at hj
  have := Option.some.inj hj
  subst this; subst hm
  exact ⟨hn, ⟨n, b, 1, true, false⟩, List.getElem?_set_self hi, rfl, hb⟩
 ·rw [if_neg hm] at hj
  obtain ⟨h3, f', h4, h5, h6⟩ := h.lies m j hj
  exact ⟨h3, f', by simp only [loaded, List.getElem?_set_ne (Ne.symm (hne m j hj))]; exact h4, h5, h6⟩
theorem PinR.full {ε ε' : Eng} {n e : Int} {b : List Nat} (hr : PinR ε n e b ε') (hd : ε.2.2.Ok) (h : ε.1.Full) : ε'.1.Full ∧ (e = 0 → b.length = 512) := by
 cases hr with
 | arg _ => exact ⟨h, fun h => (by cases h)⟩
 | hit i f h1 h2 hl hf =>
  refine ⟨h.set hf rfl fun hl => hl, fun _ => ?_⟩
  obtain ⟨_, f', h4, _, h6⟩ := h.lies n i hl
  rw [Int.toNat_natCast, hf] at h4
  have := Option.some.inj h4
  subst this
  exact h6
 | out π' i f h1 h2 hl hn hf hh he => exact ⟨outF_full (ε := (π', ε.2)) (hn.full h), fun h => absurd h he⟩
 | read π' i f h1 h2 hl hn hf hh he hr =>
  obtain ⟨c, hc'⟩ := outF_frame (ε := (π', ε.2)) hf
  exact ⟨(freed_full (f := f) (outF_full (ε := (π', ε.2)) (hn.full h)) hc' rfl).1, fun h => absurd h hr⟩
 | bad π' i f h1 h2 hl hn hf hh he hr hc =>
  obtain ⟨c, hc'⟩ := outF_frame (ε := (π', ε.2)) hf
  exact ⟨(freed_full (f := f) (outF_full (ε := (π', ε.2)) (hn.full h)) hc' rfl).1, fun h => absurd h hc⟩
 | load π' i f h1 h2 hl hn hf hh he hr hc =>
  obtain ⟨c, hc'⟩ := outF_frame (ε := (π', ε.2)) hf
  have hi := (List.getElem?_eq_some_iff.1 hc').1
  obtain ⟨k1, k2⟩ := freed_full (f := f) (outF_full (ε := (π', ε.2)) (hn.full h)) hc' rfl
  have hat := (outF_okD (ε := (π', ε.2)) (i := i) hd).at n
  exact ⟨loaded_full k1 (by simp only [freed, List.length_set]; exact hi) k2 h1 hat, fun _ => hat⟩
theorem unpinF_full {π : Pl} {n : Int} (h : π.Full) : (unpinF π n).2.Full := by
 unfold unpinF
 split
 ·exact h
 ·split
  ·exact h
  ·rename_i f hf
   exact h.set hf rfl fun hl => hl
theorem Near.pins {π π' : Pl} (hn : Near π π') (h : ∀ f ∈ π.frames, f.pins = 0) : ∀ f ∈ π'.frames, f.pins = 0 := fun g hg => by
 obtain ⟨f, hf, t, rfl⟩ := hn.frames g hg
 exact h f hf
theorem outF_pins {ε : Eng} {i : Nat} (h : ∀ f ∈ ε.1.frames, f.pins = 0) : ∀ f ∈ (outF ε i).2.1.frames, f.pins = 0 := by
 unfold outF
 split
 ·exact h
 ·rename_i f hf
  have hm := List.mem_of_getElem? hf
  split
  ·exact h
  ·split
   ·exact h
   ·split
    ·exact h
    ·split
     ·exact h
     ·intro g hg
      rcases List.mem_or_eq_of_mem_set hg with hg | rfl
      ·exact h g hg
      ·exact h f hm
theorem freed_pins {π : Pl} {i : Nat} {f : Fm} (h : ∀ f ∈ π.frames, f.pins = 0) : ∀ f ∈ (freed π i f).frames, f.pins = 0 := by
 intro g hg
 rcases List.mem_or_eq_of_mem_set hg with hg | rfl
 ·exact h g hg
 ·rfl
theorem PinR.errPins {ε ε' : Eng} {n e : Int} {b : List Nat} (hr : PinR ε n e b ε') (he : e ≠ 0) (hp : ∀ f ∈ ε.1.frames, f.pins = 0) : ∀ f ∈ ε'.1.frames, f.pins = 0 := by
 cases hr with
 | arg _ => exact hp
 | hit i f h1 h2 hl hf => exact absurd rfl he
 | out π' i f h1 h2 hl hn hf hh he => exact outF_pins (ε := (π', ε.2)) (hn.pins hp)
 | read π' i f h1 h2 hl hn hf hh he hr => exact freed_pins (f := f) (outF_pins (ε := (π', ε.2)) (hn.pins hp))
 | bad π' i f h1 h2 hl hn hf hh he hr hc => exact freed_pins (f := f) (outF_pins (ε := (π', ε.2)) (hn.pins hp))
 | load π' i f h1 h2 hl hn hf hh he hr hc => exact absurd rfl he
theorem set_pins {m : List Fm} {i : Nat} {f g : Fm} (h : ∀ f ∈ m, f.pins = 0) (hg : g.pins = 0) : ∀ x ∈ (m.set i f).set i g, x.pins = 0 := by
 intro x hx
 rw [List.set_set] at hx
 rcases List.mem_or_eq_of_mem_set hx with hx | rfl
 ·exact h x hx
 ·exact hg
theorem unpin_of {π : Pl} {n : Int} {i : Nat} {f : Fm} (hl : lookL n π.wher = some (i : Int)) (hf : π.frames[i]? = some f) (hp : f.pins = 1) : heldI π n = some i ∧ unpinF π n = (0, { π with frames := π.frames.set i { f with pins := 0 } }) := by
 have h1 : heldI π n = some i := by
  simp only [heldI, hl, Int.toNat_natCast, hf, hp]
  rfl
 refine ⟨h1, ?_⟩
 simp only [unpinF, h1, hf, hp]
 rfl
theorem look_put {α : Type} {n : Int} {x : α} {l : List (Int × α)} : lookL n (putL n x l) = some x := by rw [lookL_put, if_pos rfl]
theorem PinR.at {ε ε' : Eng} {n : Int} {b : List Nat} (hr : PinR ε n 0 b ε') (hp : ∀ f ∈ ε.1.frames, f.pins = 0) :
  ∃ (i : Nat) (f : Fm), lookL n ε'.1.wher = some (i : Int) ∧ ε'.1.frames[i]? = some f ∧ f.pins = 1 ∧ f.b = b ∧ ∀ g : Fm, g.pins = 0 → ∀ x ∈ ε'.1.frames.set i g, x.pins = 0 := by
 generalize he0 : (0 : Int) = e at hr
 cases hr with
 | arg _ => cases he0
 | hit i f h1 h2 hl hf =>
  have hi := (List.getElem?_eq_some_iff.1 hf).1
  refine ⟨i, { f with touch := true, pins := f.pins + 1 }, hl, by simp [hi], by have := hp f (List.mem_of_getElem? hf); show f.pins + 1 = 1; omega, rfl, fun g hg => set_pins hp hg⟩
 | out π' i f h1 h2 hl hn hf hh he => exact absurd he0.symm he
 | read π' i f h1 h2 hl hn hf hh he hr => exact absurd he0.symm hr
 | bad π' i f h1 h2 hl hn hf hh he hr hc => exact absurd he0.symm hc
 | load π' i f h1 h2 hl hn hf hh he hr hc =>
  obtain ⟨c, hc'⟩ := outF_frame (ε := (π', ε.2)) hf
  have hi := (List.getElem?_eq_some_iff.1 hc').1
  refine ⟨i, ⟨n, _, 1, true, false⟩, look_put, List.getElem?_set_self (by show i < (List.set _ i _).length; rw [List.length_set]; exact hi), rfl, rfl, fun g hg => set_pins (freed_pins (f := f) (outF_pins (ε := (π', ε.2)) (hn.pins hp))) hg⟩
theorem PinR.unpinned {ε ε' : Eng} {n : Int} {b : List Nat} (hr : PinR ε n 0 b ε') (hp : ∀ f ∈ ε.1.frames, f.pins = 0) : (unpinF ε'.1 n).1 = 0 ∧ ∀ f ∈ (unpinF ε'.1 n).2.frames, f.pins = 0 := by
 obtain ⟨i, f, h1, h2, h3, h4, h5⟩ := hr.at hp
 rw [(unpin_of h1 h2 h3).2]
 exact ⟨rfl, h5 _ rfl⟩
theorem RdR.ok3 {ε ε' : Eng} {n e : Int} {b : List Nat} (hr : RdR ε n e b ε') (h : EOk3 ε) : EOk3 ε' := by
 refine ⟨hr.ok h.ok h.pins, ?_, ?_⟩
 ·cases hr with
  | dead _ => exact h.pins
  | pin e b ε' hd hr he => exact hr.errPins he h.pins
  | unpin b ε' hd hr he => exact (hr.unpinned h.pins).2
  | read b ε' hd hr he => exact (hr.unpinned h.pins).2
 ·cases hr with
  | dead _ => exact h.full
  | pin e b ε' hd hr he => exact (hr.full h.ok.dk h.full).1
  | unpin b ε' hd hr he => exact unpinF_full (hr.full h.ok.dk h.full).1
  | read b ε' hd hr he => exact unpinF_full (hr.full h.ok.dk h.full).1
theorem RdR.len {ε ε' : Eng} {n : Int} {b : List Nat} (hr : RdR ε n 0 b ε') (h : EOk3 ε) : b.length = 512 := by
 generalize he0 : (0 : Int) = e at hr
 cases hr with
 | dead _ => cases he0
 | pin e b ε' hd hr he => exact absurd he0.symm he
 | unpin b ε' hd hr he => exact absurd he0.symm he
 | read b ε' hd hr he => exact (hr.full h.ok.dk h.full).2 rfl
inductive GRd (ε : Eng) (now : List (Int × List Nat)) (over : Bool) (n : Int) : Int → List Nat → Eng → Prop where
 | arg (h : ¬(0 ≤ n ∧ n < ε.2.2.pages.length)) : GRd ε now over n 1 [] ε
 | over (h1 : 0 ≤ n) (h2 : n < ε.2.2.pages.length) (h : over = true) : GRd ε now over n 18 [] ε
 | own (b : List Nat) (h1 : 0 ≤ n) (h2 : n < ε.2.2.pages.length) (h : over = false) (hl : lookL n now = some b) : GRd ε now over n 0 b ε
 | read (e : Int) (b : List Nat) (ε' : Eng) (h1 : 0 ≤ n) (h2 : n < ε.2.2.pages.length) (h : over = false) (hl : lookL n now = none) (hr : RdR ε n e b ε') : GRd ε now over n e b ε'
theorem GRd.ok3 {ε ε' : Eng} {now : List (Int × List Nat)} {over : Bool} {n e : Int} {b : List Nat} (hr : GRd ε now over n e b ε') (h : EOk3 ε) : EOk3 ε' := by
 cases hr with
 | arg _ => exact h
 | over _ _ _ => exact h
 | own _ _ _ _ _ => exact h
 | read e b ε' h1 h2 h3 hl hr => exact hr.ok3 h
theorem OpR.invoke {C : Cfg} {E : List (Nat × V)} {h : H} {o : Oper} {cl : Go.Call} {x : Operand} {m : String} {t : TypeId} {u : V} {k : FuncId} {args : List V} {R : V → H → Prop} (hop : o.op = .call cl) (hc : cl.callee = .invoke x m)
  (hx : lookO E x = some (.iface t u)) (hm : methV C.P t m = some k) (ha : lookArgs E cl.args.toList = some args) (hcall : Am.Call C k (u :: args) h R) : OpR C E h o R := by
 obtain ⟨v, h₁, ⟨N, hN⟩, hr⟩ := hcall
 exact ⟨v, h₁, hr, fun env hE => ⟨N, by simp only [evOp, hop, evCall, lookArgs_ok hE ha, hc, lookO_ok hE hx, hm]; exact hN⟩⟩
theorem meth_gr : methV Tryz.prog 27 "Read" = some 18 := by kernel_rfl
theorem neq00 {h : H} {t e : TypeId} {x y : Operand} (hu : Tryz.prog.underlying t = some (.pointer e)) : binV Tryz.prog h .neq t x y .ptr0 .ptr0 = some (.bool false) := by simp only [binV, eqV, hu]; rfl
theorem neqP0 {h : H} {t e : TypeId} {x y : Operand} {i o : Nat} (hu : Tryz.prog.underlying t = some (.pointer e)) : binV Tryz.prog h .neq t x y (.ptr i o) .ptr0 = some (.bool true) := by simp only [binV, eqV, hu]; rfl
theorem eqlP0 {h : H} {t e : TypeId} {x y : Operand} {i o : Nat} (hu : Tryz.prog.underlying t = some (.pointer e)) : binV Tryz.prog h .eql t x y (.ptr i o) .ptr0 = some (.bool false) := by simp only [binV, eqV, hu]; rfl
theorem eql0P {h : H} {t e : TypeId} {x y : Operand} {i o : Nat} (hu : Tryz.prog.underlying t = some (.pointer e)) : binV Tryz.prog h .eql t x y .ptr0 (.ptr i o) = some (.bool false) := by simp only [binV, eqV, hu]; rfl
theorem eqlPP {h : H} {t e k : TypeId} {x y : Operand} {i j n m : Nat} {cs ds : List V} (hu : Tryz.prog.underlying t = some (.pointer e)) (hk : sizeT Tryz.prog e = some k) (h1 : 1 ≤ k) (hi : T.get h.tr i = some (.cells n cs false)) (hj : T.get h.tr j = some (.cells m ds false)) (hn : 1 ≤ n) (hm : 1 ≤ m) :
  binV Tryz.prog h .eql t x y (.ptr i 0) (.ptr j 0) = some (.bool (Nat.beq i j)) := by
 simp only [binV, eqV, hu, hk, ble_iff.2 h1, cond_true, hi, hj, ble_iff.2 hn, ble_iff.2 hm, Bool.and_self, Nat.beq_refl, Bool.and_true, Option.map_some]
section
variable {told : Nat → Option (List V → H → Option (V × H))} {h : H} {S : List Assn} {X : Assn} {r k q p fid a g chk : Nat} {op v x wh di : V} {l b data : List Nat} {π : Pl} {m : List Fm} {μ : Lg} {δ : Dk} {now : List (Int × List Nat)} {over : Bool}
theorem sgroup_ct (hT : W told) (s : Sat h (isSt a p q r .ptr0 data chk :: S)) : Call ⟨Tryz.prog, told⟩ 13 [.ptr a 0] h fun v h' => ∃ g, v = .tup [.ptr g 0, .int .i64 0] ∧ Sat h' (isGp g a [] false :: isSt a p q r (.ptr g 0) data chk :: S) := by
 obtain ⟨dv, s⟩ := isSt_iff.1 s
 refine Call.of_wp (hT.free _ rfl) Tryz.func13 rfl rfl (zg rfl (za rfl (za rfl (zv (zw (zg rfl (zm rfl (zn rfl (zf rfl (fa85_3 _ _) (zl rfl (by exact s.ld (k := 0) rfl ag27 rfl) ?_))))))))))
 refine WPs.opF rfl rfl rfl (o_bin rfl rfl (neq00 Tryz.underlying27)) (rfl) (zv (zj rfl (WP.skip (zg rfl (zm rfl (zm rfl ?_))))))
 refine WPs.newM s rfl rfl rfl rfl (fun p11 h s => ?_)
 refine zo rfl (o_build rfl (by rw [bv88]; rfl)) ?_
 refine WPs.newS s rfl rfl rfl (o_box rfl rfl) (fun p13 h s => ?_)
 dsimp only [V.cells, List.take, List.length_cons, List.length_nil, Nat.reduceAdd, List.drop, List.cons_append, List.nil_append, stC] at s
 refine zn rfl (zf rfl (fa85_3 _ _) ?_)
 refine WPs.stS rfl rfl rfl rfl rfl (by exact s.st1 (k := 2) rfl sz27 rfl (by decide) rfl rfl) (fun h s => ?_)
 dsimp only [Nat.reduceAdd, List.set, setA] at s
 refine zv (zg rfl (zm rfl (zn rfl (zf rfl (fa85_3 _ _) (zl rfl (by exact s.ld (k := 2) rfl ag27 rfl) ?_)))))
 refine za rfl (za rfl (zv ?_))
 refine WP.ret ⟨trivial, _, rfl, ?_⟩
 have s1 := mapV_new (f := fun v (b : List Nat) => .rob v b) (s.bringS [1])
 dsimp only [bringA, getA, delA] at s1
 have s := isGp_iff.2 ⟨_, s1.bringS [1]⟩
 dsimp only [bringA, getA, delA] at s
 exact ⟨_, rfl, (isSt_iff.2 ⟨dv, s.bringS [1, 1, 0]⟩).bringS [1]⟩
theorem sgroup_held (hT : W told) (s : Sat h (isSt a p q r (.ptr g 0) data chk :: S)) : Call ⟨Tryz.prog, told⟩ 13 [.ptr a 0] h fun v h' => v = .tup [.ptr0, .int .i64 18] ∧ Sat h' (isSt a p q r (.ptr g 0) data chk :: S) := by
 have s0 := s
 obtain ⟨dv, s⟩ := isSt_iff.1 s
 refine Call.of_wp (hT.free _ rfl) Tryz.func13 rfl rfl (zg rfl (za rfl (za rfl (zv (zw (zg rfl (zm rfl (zn rfl (zf rfl (fa85_3 _ _) (zl rfl (by exact s.ld (k := 0) rfl ag27 rfl) ?_))))))))))
 refine WPs.opT rfl rfl rfl (o_bin rfl rfl (neqP0 Tryz.underlying27)) (rfl) (zv (zi rfl (zg rfl (za rfl (za rfl (zv ?_))))))
 refine WP.ret ⟨trivial, _, rfl, ?_⟩
 exact ⟨rfl, s0⟩
theorem gread_ct (hT : W told) {n : Int} (s : Sat h (isGp g a now over :: isSt a p q r op data chk :: isPl r p q π :: isLg q p μ :: isDk p δ :: S)) (hε : EOk3 (π, μ, δ)) (hw : δ.waiting.length ≤ 268435456) (hnow : ∀ e ∈ now, e.2.length = 512) :
  Call ⟨Tryz.prog, told⟩ 18 [.ptr g 0, .int .i64 n] h fun v h' => ∃ (e : Int) (b : List Nat) (ε : Eng), GRd (π, μ, δ) now over n e b ε ∧
   ((e ≠ 0 ∧ v = .tup [.sl0, .int .i64 e] ∧ Sat h' (isGp g a now over :: isSt a p q r op data chk :: isPl r p q ε.1 :: isLg q p ε.2.1 :: isDk p ε.2.2 :: S)) ∨
    (e = 0 ∧ ∃ u, v = .tup [u, .int .i64 0] ∧ Sat h' (bufA u b :: isGp g a now over :: isSt a p q r op data chk :: isPl r p q ε.1 :: isLg q p ε.2.1 :: isDk p ε.2.2 :: S))) := by
 have s0 := s
 obtain ⟨nv, s⟩ := isGp_iff.1 s
 obtain ⟨dv, s⟩ := isSt_iff.1 (s.bringS [2])
 dsimp only [bringA, getA, delA] at s
 refine Call.of_wp (hT.free _ rfl) Tryz.func18 rfl rfl (zg rfl (za rfl (za rfl (zv (zw (WP.block (zg rfl (zm rfl ?_))))))))
 refine WPs.opB rfl rfl rfl (o_bin rfl rfl bLss) ?_ ?_
 ·intro hq
  have hq : n < 0 := by simpa using hq
  refine zm rfl (zx rfl (zx rfl (zx rfl (zx rfl (zx rfl (zx rfl (zx rfl (zx rfl (zx rfl (zx rfl (zq rfl (za rfl (zv (zi rfl (zg rfl (za rfl (za rfl (zv ?_))))))))))))))))))
  refine WP.ret ⟨trivial, _, rfl, ?_⟩
  exact ⟨1, [], _, .arg (by simp only; omega), .inl ⟨by decide, rfl, s0⟩⟩
 ·intro hq
  have hq : 0 ≤ n := by simp at hq; omega
  refine zm rfl (zm rfl (zm rfl (zn rfl (zf rfl (fa88_0 _ _) (zl rfl (by exact s.ld (k := 2) rfl ag24 rfl) ?_)))))
  refine zn rfl (zf rfl (fa85_0 _ _) (zl rfl (by exact s.ld (k := 0) rfl ag23 rfl) ?_))
  refine WPs.call rfl rfl rfl rfl rfl rfl rfl (pages_ct hT (s.bringS [6])) ?_
  rintro v h ⟨rfl, rfl⟩
  refine WPs.opB rfl rfl rfl (o_bin rfl rfl bGeq) ?_ ?_
  ·intro hq2
   have hq2 : (δ.pages.length : Int) ≤ n := by simpa using hq2
   refine zp rfl (za rfl (zv (zi rfl (zg rfl (za rfl (za rfl (zv ?_)))))))
   refine WP.ret ⟨trivial, _, rfl, ?_⟩
   exact ⟨1, [], _, .arg (by simp only; omega), .inl ⟨by decide, rfl, s0⟩⟩
  ·intro hq2
   have hq2 : n < (δ.pages.length : Int) := by simp at hq2; omega
   refine zp rfl (za rfl (zv (zj rfl (zg rfl (zm rfl (zn rfl (zf rfl (fa88_2 _ _) ?_)))))))
   cases over with
   | true =>
    refine WPs.opT rfl rfl rfl (o_load rfl (by exact s.ld (k := 2) rfl ag4 rfl)) (rfl) ?_
    refine za rfl (zv (zi rfl (zg rfl (za rfl (za rfl (zv ?_))))))
    refine WP.ret ⟨trivial, _, rfl, ?_⟩
    exact ⟨18, [], _, .over hq hq2 rfl, .inl ⟨by decide, rfl, s0⟩⟩
   | false =>
    refine WPs.opF rfl rfl rfl (o_load rfl (by exact s.ld (k := 2) rfl ag4 rfl)) (rfl) ?_
    refine za rfl (zv (zj rfl (WP.skip (zw (zg rfl (zm rfl (zn rfl (zf rfl (fa88_1 _ _) (zl rfl (by exact s.ld (k := 2) rfl ag86 rfl) ?_)))))))))
    refine zm rfl ?_
    rcases mapV_look (n := n) (fun _ _ => Pers.rob _ _) (s.bringS [3]) Tryz.underlying86 Tryz.underlying3 zt32 with ⟨g1, g2, _⟩ | ⟨u, b, g1, g2, _, s2⟩
    ·refine WPs.op rfl rfl rfl (o_look rfl rfl g2) ?_
     refine zm rfl (ze rfl (ze rfl (za rfl (za rfl (zv (zg rfl (zm rfl (zv (zj rfl (WP.skip (zg rfl (zm rfl (zn rfl (zf rfl (fa88_0 _ _) (zl rfl (by exact s.ld (k := 2) rfl ag24 rfl) ?_)))))))))))))))
     refine zm rfl (WPs.call rfl rfl rfl rfl rfl rfl rfl (sread_ct (n := n) hT (s0.bringS [1, 1, 1, 1]) hε.ok hε.pins hw) ?_)
     rintro v h ⟨e, b, ε, hr, (⟨he, rfl, s⟩ | ⟨rfl, u, rfl, s⟩)⟩
     ·dsimp only [bringA, getA, delA] at s
      refine ze rfl (ze rfl (za rfl (za rfl (zv ?_))))
      refine WP.ret ⟨trivial, _, rfl, ?_⟩
      exact ⟨e, b, ε, .read e b ε hq hq2 rfl g1 hr, .inl ⟨he, rfl, s.bringS [4]⟩⟩
     ·dsimp only [bringA, getA, delA] at s
      refine ze rfl (ze rfl (za rfl (za rfl (zv ?_))))
      refine WP.ret ⟨trivial, _, rfl, ?_⟩
      exact ⟨0, b, ε, .read 0 b ε hq hq2 rfl g1 hr, .inr ⟨rfl, u, rfl, s.bringS [0, 4]⟩⟩
    ·dsimp only [bringA, getA, delA] at s2
     refine zo rfl (o_look rfl rfl g2) (zm rfl (ze rfl (ze rfl (za rfl (za rfl (zv (zg rfl (zm rfl (zv (zi rfl (zg rfl (zm rfl ?_))))))))))))
     have hb := hnow _ (lookL_mem g1)
     refine WPs.call rfl rfl rfl rfl rfl rfl rfl (clone_atom hT s2 (rd_ro _ _) (by simp only at hb; omega)) ?_
     intro v h s
     refine za rfl (za rfl (zv ?_))
     refine WP.ret ⟨trivial, _, rfl, ?_⟩
     have s := isSt_iff.2 ⟨dv, s.bringS [3, 3, 0, 0, 0, 0, 0, 0, 0]⟩
     dsimp only [bringA, getA, delA] at s
     have s := isGp_iff.2 ⟨nv, s.bringS [4, 3]⟩
     dsimp only [bringA, getA, delA] at s
     exact ⟨0, b, _, .own b hq hq2 rfl g1, .inr ⟨rfl, v, rfl, ((s.bringS [2, 0, 0, 1, 1, 1]).del 6)⟩⟩
end
end Go.Proofs.YtconhghphklfjaaGreat.Am
namespace Go.Proofs.YtconhghphklfjaaGreat.Am
open Go
inductive GWr (ε : Eng) (now : List (Int × List Nat)) (over : Bool) (n : Int) (b : List Nat) : Int → List (Int × List Nat) → Eng → Prop where
 | may (e : Int) (c : List Nat) (ε' : Eng) (hr : GRd ε now over n e c ε') (he : e ≠ 0) : GWr ε now over n b e now ε'
 | bad (c : List Nat) (ε' : Eng) (hr : GRd ε now over n 0 c ε') (hg : goodL b = false) : GWr ε now over n b 4 now ε'
 | done (c : List Nat) (ε' : Eng) (hr : GRd ε now over n 0 c ε') (hg : goodL b = true) : GWr ε now over n b 0 (putL n b now) ε'
section
variable {told : Nat → Option (List V → H → Option (V × H))} {h : H} {S : List Assn} {X : Assn} {r k q p fid a g chk : Nat} {op v x wh di : V} {l b data : List Nat} {π : Pl} {m : List Fm} {μ : Lg} {δ : Dk} {now : List (Int × List Nat)} {over : Bool}
theorem may_ct (hT : W told) {n : Int} (s : Sat h (isGp g a now over :: isSt a p q r op data chk :: isPl r p q π :: isLg q p μ :: isDk p δ :: S)) (hε : EOk3 (π, μ, δ)) (hw : δ.waiting.length ≤ 268435456) (hnow : ∀ e ∈ now, e.2.length = 512) :
  Call ⟨Tryz.prog, told⟩ 42 [.iface 27 (.ptr g 0), .int .i64 n] h fun v h' => ∃ (e : Int) (b : List Nat) (ε : Eng), GRd (π, μ, δ) now over n e b ε ∧ v = .int .i64 e ∧
   Sat h' (isGp g a now over :: isSt a p q r op data chk :: isPl r p q ε.1 :: isLg q p ε.2.1 :: isDk p ε.2.2 :: S) := by
 refine Call.of_wp (hT.free _ rfl) Tryz.func42 rfl rfl (zg rfl (za rfl (zv (zg rfl (zm rfl (zm rfl (WPs.any rfl rfl rfl (OpR.invoke rfl rfl rfl meth_gr rfl (gread_ct (n := n) hT s hε hw hnow)) ?_)))))))
 rintro v h ⟨e, b, ε, hr, (⟨he, rfl, s⟩ | ⟨rfl, u, rfl, s⟩)⟩
 ·refine WPs.op rfl rfl rfl (o_move rfl) ?_
  refine ze rfl (ze rfl (za rfl (za rfl (zv (zg rfl (zm rfl (za rfl (zv ?_))))))))
  refine WP.ret ⟨trivial, _, rfl, ?_⟩
  exact ⟨e, b, ε, hr, rfl, s⟩
 ·skip
  refine zm rfl (ze rfl (ze rfl (za rfl (za rfl (zv (zg rfl (zm rfl (za rfl (zv ?_)))))))))
  refine WP.ret ⟨trivial, _, rfl, ?_⟩
  exact ⟨0, b, ε, hr, rfl, s.drop⟩
theorem gwrite_ct (hT : W told) {n : Int} (s : Sat h (isGp g a now over :: isSt a p q r op data chk :: isPl r p q π :: isLg q p μ :: isDk p δ :: X :: S)) (hX : Ent X (rdB x b)) (hb : b.length < 9223372036854775808) (hε : EOk3 (π, μ, δ)) (hw : δ.waiting.length ≤ 268435456) (hnow : ∀ e ∈ now, e.2.length = 512) :
  Call ⟨Tryz.prog, told⟩ 14 [.ptr g 0, .int .i64 n, x] h fun v h' => ∃ (e : Int) (now' : List (Int × List Nat)) (ε : Eng), GWr (π, μ, δ) now over n b e now' ε ∧ v = .int .i64 e ∧
   Sat h' (isGp g a now' over :: isSt a p q r op data chk :: isPl r p q ε.1 :: isLg q p ε.2.1 :: isDk p ε.2.2 :: X :: S) := by
 refine Call.of_wp (hT.free _ rfl) Tryz.func14 rfl rfl (zg rfl (za rfl (zv (zw (zg rfl (zm rfl (zo rfl (o_mki rfl (mki_of Tryz.underlying27 rfl)) (zm rfl (WPs.call rfl rfl rfl rfl rfl rfl rfl (may_ct (n := n) hT s hε hw hnow) ?_)))))))))
 rintro v h ⟨e, c, ε, hr, rfl, s⟩
 refine za rfl (zv (zg rfl (zm rfl ?_)))
 by_cases he : e = 0
 ·skip
  subst he
  refine WPs.opF rfl rfl rfl (o_bin rfl rfl bNeq) (rfl) (zv (zj rfl (WP.skip (zw (zg rfl (zm rfl (WPs.call rfl rfl rfl rfl rfl rfl rfl (good_ct hT (s.bringS [5]) hX hb) ?_)))))))
  rintro v h ⟨rfl, s⟩
  dsimp only [bringA, getA, delA] at s
  refine zo rfl (o_un rfl rfl) (zv ?_)
  by_cases hg : goodL b = true
  ·skip
   refine WP.condF rfl (by rw [hg]; rfl) ?_
   have h512 := good512 hg
   obtain ⟨nv, s⟩ := isGp_iff.1 (s.bringS [1])
   dsimp only [bringA, getA, delA] at s
   have s := s.bringS [2, 0, 0]
   dsimp only [bringA, getA, delA] at s
   obtain ⟨nid, rfl⟩ := mapV_v s (j := 2) rfl
   refine WP.skip (zw ?_)
   have s0 := s
   refine WP.drawn [some (0, 2), some (0, 2), some (0, 2), some (0, 2), some (0, 2), none, none, none] rfl (by kernel_rfl) (by kernel_rfl) ?_
   refine zM rfl (zN rfl (zF rfl (fa88_1 _ _) (zL rfl (by exact s.ld (k := 1) rfl ag86 rfl) ?_)))
   refine zM rfl (zM rfl (WPt.any rfl rfl rfl rfl (OpR.call rfl rfl rfl rfl (clone_atom hT s hX (by omega))) ?_))
   intro u h s
   obtain ⟨bid, _, cap, _, rfl, _⟩ := s.openBuf (by omega)
   have s := s.freezeBuf
   have s1 := s
   refine WPt.any0 rfl rfl rfl (OpR.mapUpdate rfl rfl rfl rfl (mapV_put (f := fun v b => Assn.rob v b) (x := b) (fun _ _ => Pers.rob _ _) (s.bringS [0, 2]) Tryz.underlying86 Tryz.underlying3)) ?_
   intro w h s
   dsimp only [delA, bringA] at s
   refine WPt.nil ⟨⟨fun _ _ => .inr ⟨rfl, ⟨_, o_move rfl⟩, beqV _ rfl⟩, fun _ _ => .inr ⟨rfl, ⟨_, o_nil rfl⟩, beqV _ rfl⟩, fun _ _ => .inr ⟨rfl, ⟨_, o_fa rfl (fa88_1 _ _)⟩, beqV _ rfl⟩, heaps2 (.inr ⟨rfl, ⟨_, o_load rfl (by exact s0.ld (k := 1) rfl ag86 rfl)⟩, beqV _ rfl⟩) (.inr ⟨rfl, ⟨_, o_load rfl (by exact s1.ld (k := 2) rfl ag86 rfl)⟩, beqV _ rfl⟩), fun _ _ => .inr ⟨rfl, ⟨_, o_move rfl⟩, beqV _ rfl⟩, trivial, trivial, trivial, trivial⟩, ?_⟩
   refine zg rfl (za rfl (zv ?_))
   refine WP.ret ⟨trivial, _, rfl, ?_⟩
   exact ⟨0, _, ε, .done c ε hr hg, rfl, isGp_iff.2 ⟨.map nid, s.bringS [2, 0, 1, 1, 1, 1, 0]⟩⟩
  ·have hg : goodL b = false := by simpa using hg
   refine WP.condT rfl (by rw [hg]; rfl) ?_
   refine zg rfl (za rfl (zv ?_))
   refine WP.ret ⟨trivial, _, rfl, ?_⟩
   exact ⟨4, _, ε, .bad c ε hr hg, rfl, s.bringS [1, 1, 1, 1, 1, 0]⟩
 ·skip
  refine WPs.opT rfl rfl rfl (o_bin rfl rfl bNeq) (by simp; exact he) ?_
  refine zv (zi rfl (zg rfl (zm rfl (za rfl (zv ?_)))))
  refine WP.ret ⟨trivial, _, rfl, ?_⟩
  exact ⟨e, _, ε, .may e c ε hr he, rfl, s⟩
theorem gclose_ct (hT : W told) (s : Sat h (isGp g a now over :: isSt a p q r (.ptr g 0) data chk :: S)) : Call ⟨Tryz.prog, told⟩ 49 [.ptr g 0] h fun v h' => v = .tup [] ∧ Sat h' (isGp g a now true :: isSt a p q r .ptr0 data chk :: S) := by
 obtain ⟨nv, s⟩ := isGp_iff.1 s
 obtain ⟨dv, s⟩ := isSt_iff.1 (s.bringS [2])
 dsimp only [bringA, getA, delA] at s
 refine Call.of_wp (hT.free _ rfl) Tryz.func49 rfl rfl (zg rfl (zm rfl (zn rfl (zf rfl (fa88_2 _ _) ?_))))
 refine WPs.stS rfl rfl rfl rfl rfl (by exact s.st1 (k := 2) rfl sz4 rfl (by decide) rfl rfl) (fun h s => ?_)
 dsimp only [stC, Nat.reduceAdd, List.set, setA] at s
 refine zv (zg rfl (zm rfl (zn rfl (zf rfl (fa88_0 _ _) (zl rfl (by exact s.ld (k := 2) rfl ag24 rfl) ?_)))))
 refine zn rfl (zf rfl (fa85_3 _ _) (zl rfl (by exact s.ld (k := 0) rfl ag27 rfl) ?_))
 refine zm rfl (WPs.opT rfl rfl rfl (o_bin rfl rfl (eqlPP Tryz.underlying27 sz88 (by decide) (s.row (k := 2) rfl) (s.row (k := 2) rfl) (by decide) (by decide))) (Nat.beq_refl g) ?_)
 refine zv (zi rfl (zr rfl (zm rfl (zn rfl (zf rfl (fa88_0 _ _) (zl rfl (by exact s.ld (k := 2) rfl ag24 rfl) ?_))))))
 refine zn rfl (zf rfl (fa85_3 _ _) ?_)
 refine WPs.stS rfl rfl rfl rfl rfl (by exact s.st1 (k := 0) rfl sz27 rfl (by decide) rfl rfl) (fun h s => ?_)
 dsimp only [Nat.reduceAdd, List.set, setA] at s
 refine zv ?_
 have s := isGp_iff.2 ⟨nv, (isSt_iff.2 ⟨dv, s⟩).bringS [1, 1]⟩
 exact ⟨trivial, _, rfl, rfl, s⟩
theorem gdrop_ct (hT : W told) (s : Sat h (isGp g a now over :: isSt a p q r (.ptr g 0) data chk :: S)) : Call ⟨Tryz.prog, told⟩ 27 [.ptr g 0] h fun v h' => v = .tup [] ∧ Sat h' (isGp g a now true :: isSt a p q r .ptr0 data chk :: S) := by
 refine Call.of_wp (hT.free _ rfl) Tryz.func27 rfl rfl (zr rfl (zm rfl (WPs.call rfl rfl rfl rfl rfl rfl rfl (gclose_ct hT s) ?_)))
 rintro v h ⟨rfl, s⟩
 refine zv ?_
 exact ⟨trivial, _, rfl, rfl, s⟩
theorem gclose_over (hT : W told) (s : Sat h (isGp g a now over :: isSt a p q r .ptr0 data chk :: S)) : Call ⟨Tryz.prog, told⟩ 49 [.ptr g 0] h fun v h' => v = .tup [] ∧ Sat h' (isGp g a now true :: isSt a p q r .ptr0 data chk :: S) := by
 obtain ⟨nv, s⟩ := isGp_iff.1 s
 obtain ⟨dv, s⟩ := isSt_iff.1 (s.bringS [2])
 dsimp only [bringA, getA, delA] at s
 refine Call.of_wp (hT.free _ rfl) Tryz.func49 rfl rfl (zg rfl (zm rfl (zn rfl (zf rfl (fa88_2 _ _) ?_))))
 refine WPs.stS rfl rfl rfl rfl rfl (by exact s.st1 (k := 2) rfl sz4 rfl (by decide) rfl rfl) (fun h s => ?_)
 dsimp only [stC, Nat.reduceAdd, List.set, setA] at s
 refine zv (zg rfl (zm rfl (zn rfl (zf rfl (fa88_0 _ _) (zl rfl (by exact s.ld (k := 2) rfl ag24 rfl) ?_)))))
 refine zn rfl (zf rfl (fa85_3 _ _) (zl rfl (by exact s.ld (k := 0) rfl ag27 rfl) ?_))
 refine zm rfl (WPs.opF rfl rfl rfl (o_bin rfl rfl (eql0P Tryz.underlying27)) (rfl) (zv (zj rfl (WP.skip ?_))))
 have s := isGp_iff.2 ⟨nv, (isSt_iff.2 ⟨dv, s⟩).bringS [1, 1]⟩
 exact ⟨trivial, _, rfl, rfl, s⟩
theorem gdrop_over (hT : W told) (s : Sat h (isGp g a now over :: isSt a p q r .ptr0 data chk :: S)) : Call ⟨Tryz.prog, told⟩ 27 [.ptr g 0] h fun v h' => v = .tup [] ∧ Sat h' (isGp g a now true :: isSt a p q r .ptr0 data chk :: S) := by
 refine Call.of_wp (hT.free _ rfl) Tryz.func27 rfl rfl (zr rfl (zm rfl (WPs.call rfl rfl rfl rfl rfl rfl rfl (gclose_over hT s) ?_)))
 rintro v h ⟨rfl, s⟩
 refine zv ?_
 exact ⟨trivial, _, rfl, rfl, s⟩
end
end Go.Proofs.YtconhghphklfjaaGreat.Am
