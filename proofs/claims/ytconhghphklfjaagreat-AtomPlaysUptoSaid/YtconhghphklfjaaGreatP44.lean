/- Whatever groups are done and dropped, written out and checkpointed between, each page is as the groups that were done made it; the conditions are those of the given statement, for arguments that a machine can hold. Part 44 of 49. -/
import Derived.Test.YtconhghphklfjaaGreatP43
namespace Go.Proofs.YtconhghphklfjaaGreat.Am
open Go
theorem bytesOf_of : ∀ {l : List Nat}, (∀ b ∈ l, b < 256) → bytesOf (ofBytes l) = some l := by
 intro l
 induction l with
 | nil => intro _; rfl
 | cons b l ih =>
  intro h
  have h1 := ih fun x hx => h x (List.mem_cons_of_mem _ hx)
  have h2 := h b List.mem_cons_self
  rw [ofBytes] at h1
  simp only [ofBytes, List.map_cons, bytesOf, h1, Option.some.injEq, List.cons.injEq, and_true]
  omega
theorem cvS {h : H} {v : V} {l : List Nat} (hv : View h v l) : convV Tryz.prog h 32 9 v = some (.str l, h) := by
 obtain ⟨hb, (⟨rfl | ⟨ea, rfl⟩, rfl⟩ | ⟨id, off, cap, n, cs, st, rfl, hg, hl, ho, hc, _⟩)⟩ := hv
 ·simp only [convV, Tryz.underlying32, Tryz.underlying9, Tryz.underlying5]
 ·simp only [convV, Tryz.underlying32, Tryz.underlying9, Tryz.underlying5]
 ·have e : rdN h id off l.length = some (ofBytes l) := by rw [rdN_of hg hl ho, hc]
  simp only [convV, Tryz.underlying32, Tryz.underlying9, Tryz.underlying5, e, bytesOf_of hb]
theorem beqStr (l : List Nat) : (V.str l).beq (.str l) = true := by simp only [V.beq, natsBeq_iff, decide_true]
def bodyF (l : List Nat) : List Nat := if l.length ≠ 512 ∨ l = List.replicate 512 0 then [] else l.drop 12
def readB (e : Int) (b w : List Nat) : Bool := decide (e = 0) && (decide (bodyF b = w) && decide (checkL b ≠ 4))
section
variable {told : Nat → Option (List V → H → Option (V × H))} {h : H} {S : List Assn} {X : Assn} {r k q p a g chk : Nat} {op v x : V} {l data : List Nat} {now : List (Int × List Nat)} {over : Bool} {ε : Eng}
theorem body_ct (hT : W told) (s : Sat h (X :: S)) (hX : Ent X (rdB v l)) : Call ⟨Tryz.prog, told⟩ 24 [v] h fun r h' => r = .str (bodyF l) ∧ Sat h' (X :: S) := by
 have hv := s.viewX (k := 0) rfl hX
 have hvb := beqView hv
 have hsb := beqStr l
 refine Call.of_wp (hT.free _ rfl) Tryz.func24 rfl rfl (zg rfl (za rfl (zv (zw (zw ?_)))))
 have s0 := s
 by_cases hl : l.length = 512
 ·have fin : ∀ h, Sat h (X :: S) → l ≠ List.replicate 512 0 → (V.str (l.drop 12) = .str (bodyF l) ∧ Sat h (X :: S)) := fun h s hz => ⟨by rw [bodyF, if_neg (by rintro (h | h); exact h hl; exact hz h)], s⟩
  by_cases hz : l = List.replicate 512 0
  ·skip
   refine WP.drawn [none, none, none, none, some (0, 2), some (0, 2), none, none, none, none] rfl (by kernel_rfl) (by kernel_rfl) ?_
   refine zM rfl (zO rfl (o_len rfl rfl rfl (len_view Tryz.underlying32 (s.viewX (k := 0) rfl hX))) (WPt.opF rfl rfl rfl rfl (o_bin rfl rfl bNeq) (by simp; omega) ?_))
   refine zM rfl (zM rfl (WPt.op rfl rfl rfl (by simp only [isEff, Tryz.underlying9]) (o_conv rfl (by exact cvS (s.viewX (k := 0) rfl hX))) ?_))
   refine WPt.any rfl rfl rfl rfl (OpR.zeros rfl s rfl rfl rfl rfl (by decide)) ?_
   intro z h s
   refine WPt.op rfl rfl rfl (by simp only [isEff, Tryz.underlying9]) (o_conv rfl (cvS (s.viewX (k := 0) rfl (rd_buf _ _)))) ?_
   refine WPt.opT rfl rfl rfl rfl (o_bin rfl rfl bEqlS) (decide_eq_true hz) (zO rfl (o_pickF rfl rfl) ?_)
   refine WPt.nil ⟨⟨trivial, trivial, trivial, trivial, fun _ _ => .inr ⟨rfl, ⟨_, o_move rfl⟩, hvb⟩, heaps2 (.inr ⟨rfl, ⟨_, o_conv rfl (by exact cvS (s0.viewX (k := 0) rfl hX))⟩, hsb⟩) (.inr ⟨rfl, ⟨_, o_conv rfl (by exact cvS (s.viewX (k := 1) rfl hX))⟩, hsb⟩), trivial, trivial, trivial, trivial, trivial⟩, ?_⟩
   refine zi rfl (zg rfl (za rfl (zv ?_)))
   refine WP.ret ⟨trivial, _, rfl, ?_⟩
   exact ⟨by rw [bodyF, if_pos (.inr hz)]; rfl, s.drop⟩
  ·skip
   refine WP.drawn [none, none, none, none, some (0, 2), some (0, 2), none, none, none, none] rfl (by kernel_rfl) (by kernel_rfl) ?_
   refine zM rfl (zO rfl (o_len rfl rfl rfl (len_view Tryz.underlying32 (s.viewX (k := 0) rfl hX))) (WPt.opF rfl rfl rfl rfl (o_bin rfl rfl bNeq) (by simp; omega) ?_))
   refine zM rfl (zM rfl (WPt.op rfl rfl rfl (by simp only [isEff, Tryz.underlying9]) (o_conv rfl (by exact cvS (s.viewX (k := 0) rfl hX))) ?_))
   refine WPt.any rfl rfl rfl rfl (OpR.zeros rfl s rfl rfl rfl rfl (by decide)) ?_
   intro z h s
   refine WPt.op rfl rfl rfl (by simp only [isEff, Tryz.underlying9]) (o_conv rfl (cvS (s.viewX (k := 0) rfl (rd_buf _ _)))) ?_
   refine WPt.opF rfl rfl rfl rfl (o_bin rfl rfl bEqlS) (decide_eq_false hz) (zO rfl (o_pickF rfl rfl) ?_)
   refine WPt.nil ⟨⟨trivial, trivial, trivial, trivial, fun _ _ => .inr ⟨rfl, ⟨_, o_move rfl⟩, hvb⟩, heaps2 (.inr ⟨rfl, ⟨_, o_conv rfl (by exact cvS (s0.viewX (k := 0) rfl hX))⟩, hsb⟩) (.inr ⟨rfl, ⟨_, o_conv rfl (by exact cvS (s.viewX (k := 1) rfl hX))⟩, hsb⟩), trivial, trivial, trivial, trivial, trivial⟩, ?_⟩
   have hsl := slice_from (s.viewX (k := 1) rfl hX) (a := 12) (by omega)
   refine zj rfl (WP.skip (zg rfl (zm rfl (zo rfl (o_slice (p := some (.int .i64 12)) (q := none) (m := none) (p' := some 12) (q' := none) (m' := none) rfl rfl rfl rfl rfl rfl rfl hsl.1) (zo rfl (o_conv rfl (cvS hsl.2.1)) (za rfl (zv ?_)))))))
   refine WP.ret ⟨trivial, _, rfl, ?_⟩
   exact fin _ s.drop hz
 ·skip
  refine WP.drawn [none, none, none, none, some (0, 2), some (0, 2), none, none, none, none] rfl (by kernel_rfl) (by kernel_rfl) ?_
  refine zM rfl (zO rfl (o_len rfl rfl rfl (len_view Tryz.underlying32 (s.viewX (k := 0) rfl hX))) (WPt.opT rfl rfl rfl rfl (o_bin rfl rfl bNeq) (by simp; omega) ?_))
  refine zM rfl (WPt.no (e := false) rfl rfl rfl rfl (WPt.no (e := false) rfl rfl rfl (by simp only [isEff, Tryz.underlying9]) ?_))
  refine WPt.no (e := true) rfl rfl rfl rfl (WPt.no (e := false) rfl rfl rfl (by simp only [isEff, Tryz.underlying9]) ?_)
  refine WPt.no (e := false) rfl rfl rfl rfl (zO rfl (o_pickT rfl rfl) ?_)
  refine WPt.nil ⟨⟨trivial, trivial, trivial, trivial, fun _ _ => .inl rfl, fun _ _ => .inl rfl, trivial, trivial, trivial, trivial, trivial⟩, ?_⟩
  refine zi rfl (zg rfl (za rfl (zv ?_)))
  refine WP.ret ⟨trivial, _, rfl, ?_⟩
  exact ⟨by rw [bodyF, if_pos (.inl hl)]; rfl, s⟩
theorem reads_s (hT : W told) {n : Int} {w : List Nat} (s : Sat h (isSt a p q r op data chk :: isPl r p q ε.1 :: isLg q p ε.2.1 :: isDk p ε.2.2 :: S)) (hε : EOk3 ε) (hw : ε.2.2.waiting.length ≤ 268435456) :
  Call ⟨Tryz.prog, told⟩ 16 [.iface 24 (.ptr a 0), .int .i64 n, .str w] h fun v h' => ∃ e b ε', RdR ε n e b ε' ∧ v = .bool (readB e b w) ∧
   Sat h' (isSt a p q r op data chk :: isPl r p q ε'.1 :: isLg q p ε'.2.1 :: isDk p ε'.2.2 :: S) := by
 refine Call.of_wp (hT.free _ rfl) Tryz.func16 rfl rfl (zg rfl (za rfl (zv (zg rfl (zm rfl (zm rfl (WPs.any rfl rfl rfl (OpR.invoke rfl rfl rfl meth_sr rfl (sread_ct hT (n := n) s hε.ok hε.pins hw)) ?_)))))))
 rintro v h ⟨e, b, ε', hr, (⟨he, rfl, s⟩ | ⟨rfl, u, rfl, s⟩)⟩
 ·refine WPs.op rfl rfl rfl (o_move rfl) ?_
  refine ze rfl (ze rfl (za rfl (za rfl (zv (zg rfl (zm rfl (WPs.opF rfl rfl rfl (o_bin rfl rfl bEql) (by simp; exact he) ?_)))))))
  refine zm rfl (zx rfl (zx rfl (zx rfl (zx rfl (zp rfl (zm rfl (zx rfl (zx rfl (zx rfl (zp rfl (za rfl (zv ?_))))))))))))
  refine WP.ret ⟨trivial, _, rfl, ?_⟩
  exact ⟨e, b, ε', hr, by rw [readB, decide_eq_false he, Bool.false_and], s⟩
 ·have hlen := (hr.len hε)
  refine zm rfl (ze rfl (ze rfl (za rfl (za rfl (zv (zg rfl (zm rfl (WPs.opT rfl rfl rfl (o_bin rfl rfl bEql) (rfl) (zm rfl (zm rfl (WPs.call rfl rfl rfl rfl rfl rfl rfl (body_ct hT s (rd_buf _ _)) ?_)))))))))))
  rintro r h ⟨rfl, s⟩
  refine zm rfl ?_
  by_cases hb : bodyF b = w
  ·skip
   refine WPs.opT rfl rfl rfl (o_bin rfl rfl bEqlS) (decide_eq_true hb) (zq rfl (zm rfl (zm rfl (WPs.call rfl rfl rfl rfl rfl rfl rfl (check_ct hT s (rd_buf _ _) (by omega)) ?_))))
   rintro r h ⟨rfl, s⟩
   by_cases hc : checkL b = 4
   ·skip
    refine WPs.opF rfl rfl rfl (o_bin rfl rfl bNeq) (by simp; exact hc) ?_
    refine zq rfl (za rfl (zv ?_))
    refine WP.ret ⟨trivial, _, rfl, ?_⟩
    exact ⟨0, b, ε', hr, by rw [readB, show decide (checkL b ≠ 4) = false from decide_eq_false (not_not_intro hc), Bool.and_false, Bool.and_false], s.drop⟩
   ·skip
    refine WPs.opT rfl rfl rfl (o_bin rfl rfl bNeq) (by simp; exact hc) ?_
    refine zq rfl (za rfl (zv ?_))
    refine WP.ret ⟨trivial, _, rfl, ?_⟩
    exact ⟨0, b, ε', hr, by rw [readB, decide_eq_true hc, decide_eq_true hb]; rfl, s.drop⟩
  ·skip
   refine WPs.opF rfl rfl rfl (o_bin rfl rfl bEqlS) (decide_eq_false hb) (zq rfl (zm rfl (zx rfl (zx rfl (zx rfl (zp rfl (za rfl (zv ?_))))))))
   refine WP.ret ⟨trivial, _, rfl, ?_⟩
   exact ⟨0, b, ε', hr, by rw [readB, decide_eq_false hb, Bool.false_and, Bool.and_false], s.drop⟩
theorem reads_g (hT : W told) {n : Int} {w : List Nat} (s : Sat h (isGp g a now over :: isSt a p q r op data chk :: isPl r p q ε.1 :: isLg q p ε.2.1 :: isDk p ε.2.2 :: S)) (hε : EOk3 ε) (hw : ε.2.2.waiting.length ≤ 268435456) (hnow : ∀ e ∈ now, e.2.length = 512) :
  Call ⟨Tryz.prog, told⟩ 16 [.iface 27 (.ptr g 0), .int .i64 n, .str w] h fun v h' => ∃ e b ε', GRd ε now over n e b ε' ∧ v = .bool (readB e b w) ∧
   Sat h' (isGp g a now over :: isSt a p q r op data chk :: isPl r p q ε'.1 :: isLg q p ε'.2.1 :: isDk p ε'.2.2 :: S) := by
 refine Call.of_wp (hT.free _ rfl) Tryz.func16 rfl rfl (zg rfl (za rfl (zv (zg rfl (zm rfl (zm rfl (WPs.any rfl rfl rfl (OpR.invoke rfl rfl rfl meth_gr rfl (gread_ct hT (n := n) s hε hw hnow)) ?_)))))))
 rintro v h ⟨e, b, ε', hr, (⟨he, rfl, s⟩ | ⟨rfl, u, rfl, s⟩)⟩
 ·refine WPs.op rfl rfl rfl (o_move rfl) ?_
  refine ze rfl (ze rfl (za rfl (za rfl (zv (zg rfl (zm rfl (WPs.opF rfl rfl rfl (o_bin rfl rfl bEql) (by simp; exact he) ?_)))))))
  refine zm rfl (zx rfl (zx rfl (zx rfl (zx rfl (zp rfl (zm rfl (zx rfl (zx rfl (zx rfl (zp rfl (za rfl (zv ?_))))))))))))
  refine WP.ret ⟨trivial, _, rfl, ?_⟩
  exact ⟨e, b, ε', hr, by rw [readB, decide_eq_false he, Bool.false_and], s⟩
 ·have hlen : b.length = 512 := by
   cases hr with
   | own b h1 h2 h hl => exact hnow _ (lookL_mem hl)
   | read e b ε' h1 h2 h hl hr => exact hr.len hε
  refine zm rfl (ze rfl (ze rfl (za rfl (za rfl (zv (zg rfl (zm rfl (WPs.opT rfl rfl rfl (o_bin rfl rfl bEql) (rfl) (zm rfl (zm rfl (WPs.call rfl rfl rfl rfl rfl rfl rfl (body_ct hT s (rd_buf _ _)) ?_)))))))))))
  rintro r h ⟨rfl, s⟩
  refine zm rfl ?_
  by_cases hb : bodyF b = w
  ·skip
   refine WPs.opT rfl rfl rfl (o_bin rfl rfl bEqlS) (decide_eq_true hb) (zq rfl (zm rfl (zm rfl (WPs.call rfl rfl rfl rfl rfl rfl rfl (check_ct hT s (rd_buf _ _) (by omega)) ?_))))
   rintro r h ⟨rfl, s⟩
   by_cases hc : checkL b = 4
   ·skip
    refine WPs.opF rfl rfl rfl (o_bin rfl rfl bNeq) (by simp; exact hc) ?_
    refine zq rfl (za rfl (zv ?_))
    refine WP.ret ⟨trivial, _, rfl, ?_⟩
    exact ⟨0, b, ε', hr, by rw [readB, show decide (checkL b ≠ 4) = false from decide_eq_false (not_not_intro hc), Bool.and_false, Bool.and_false], s.drop⟩
   ·skip
    refine WPs.opT rfl rfl rfl (o_bin rfl rfl bNeq) (by simp; exact hc) ?_
    refine zq rfl (za rfl (zv ?_))
    refine WP.ret ⟨trivial, _, rfl, ?_⟩
    exact ⟨0, b, ε', hr, by rw [readB, decide_eq_true hc, decide_eq_true hb]; rfl, s.drop⟩
  ·skip
   refine WPs.opF rfl rfl rfl (o_bin rfl rfl bEqlS) (decide_eq_false hb) (zq rfl (zm rfl (zx rfl (zx rfl (zx rfl (zp rfl (za rfl (zv ?_))))))))
   refine WP.ret ⟨trivial, _, rfl, ?_⟩
   exact ⟨0, b, ε', hr, by rw [readB, decide_eq_false hb, Bool.false_and, Bool.and_false], s.drop⟩
end
end Go.Proofs.YtconhghphklfjaaGreat.Am
namespace Go.Proofs.YtconhghphklfjaaGreat.Am
open Go
structure DK (δ δ' : Dk) : Prop where
 dead : δ'.dead = δ.dead
 fuse : δ'.fuse = δ.fuse
 pages : δ'.pages = δ.pages
 now : δ'.now = δ.now
theorem DK.refl (δ : Dk) : DK δ δ := ⟨rfl, rfl, rfl, rfl⟩
theorem DK.at {δ δ' : Dk} (h : DK δ δ') (n : Int) : δ'.at n = δ.at n := by rw [Dk.at, Dk.at, h.now, h.pages]
structure DA (N : Nat) (δ : Dk) : Prop where
 alive : δ.dead = false
 fuse : δ.fuse < 0
 pages : δ.pages.length = N
 keys : ∀ k : Int, k ∈ δ.now.map (·.1) → 0 ≤ k ∧ k < N
 nodup : (δ.now.map (·.1)).Nodup
 good : ∀ n : Int, 0 ≤ n → n < N → checkL (δ.at n) = 0
theorem DA.of {N : Nat} {δ δ' : Dk} (h : DA N δ) (k : DK δ δ') : DA N δ' :=
 ⟨k.dead.trans h.alive, by rw [k.fuse]; exact h.fuse, by rw [k.pages]; exact h.pages, by rw [k.now]; exact h.keys, by rw [k.now]; exact h.nodup, fun n a b => by rw [k.at]; exact h.good n a b⟩
theorem cnt_id {δ : Dk} (h : δ.fuse < 0) : δ.cnt = δ := by
 have : (if 0 < δ.fuse then δ.fuse - 1 else δ.fuse) = δ.fuse := if_neg (by omega)
 rw [Dk.cnt, this]
theorem forceF_a {N : Nat} {δ : Dk} (h : DA N δ) : δ.forceF = (0, { δ with certain := δ.log.length }) := by
 rw [Dk.forceF, if_neg (by rw [h.alive]; decide), if_neg (by have := h.fuse; omega), cnt_id h.fuse]
theorem markF_a {N : Nat} {δ : Dk} {b : List Nat} (h : DA N δ) (hb : b.length ≤ 64) : δ.markF b = (0, { δ with mark := b }) := by
 rw [Dk.markF, if_neg (by rw [h.alive]; decide), if_neg (by omega), if_neg (by have := h.fuse; omega), cnt_id h.fuse]
theorem forceLD_a {N : Nat} {x : LD} {n : Nat} (h : DA N x.2) : (forceLD x n).1 = 0 ∧ DK x.2 (forceLD x n).2.2 := by
 unfold forceLD
 split
 ·exact ⟨rfl, DK.refl _⟩
 ·rw [forceF_a h, if_neg (by simp)]
  exact ⟨rfl, rfl, rfl, rfl, rfl⟩
theorem writeF_a {N : Nat} {δ : Dk} {n : Int} {b : List Nat} (h : DA N δ) (h0 : 0 ≤ n) (h1 : n < N) (hb : b.length = 512) (hc : checkL b = 0) :
  (δ.writeF n b).1 = 0 ∧ DA N (δ.writeF n b).2 ∧ ∀ m, (δ.writeF n b).2.at m = if n = m then b else δ.at m := by
 have e : δ.writeF n b = (0, δ.wr n b) := by
  rw [Dk.writeF, if_neg (by rw [h.alive]; decide), if_neg (not_not_intro ⟨h0, by rw [h.pages]; exact h1, hb⟩), if_neg (by have := h.fuse; omega)]
 have hnow : (δ.wr n b).now = putL n b δ.now := rfl
 have hpg : (δ.wr n b).pages = δ.pages := rfl
 have hat : ∀ m, (δ.wr n b).at m = if n = m then b else δ.at m := fun m => by
  rw [Dk.at, Dk.at, hnow, hpg, lookL_put]
  by_cases hm : n = m
  ·rw [if_pos hm, if_pos hm]
  ·rw [if_neg hm, if_neg hm]
 have hfu : (δ.wr n b).fuse = δ.fuse := by
  show δ.cnt.fuse = δ.fuse
  rw [cnt_id h.fuse]
 rw [e]
 refine ⟨rfl, ⟨h.alive, by rw [hfu]; exact h.fuse, h.pages, fun x hx => ?_, ?_, fun m a c => ?_⟩, hat⟩
 ·rw [hnow] at hx
  rcases mem_putL.1 hx with rfl | hx
  ·exact ⟨h0, h1⟩
  ·exact h.keys x hx
 ·rw [hnow]; exact nodup_putL h.nodup
 ·rw [hat]
  by_cases hm : n = m
  ·rw [if_pos hm]; exact hc
  ·rw [if_neg hm]; exact h.good m a c
theorem laidP_get : ∀ {l : List (Int × List Nat)} {m : List (Option (List Nat))} {n : Int} {N : Nat}, m.length = N → (l.map (·.1)).Nodup → (∀ k : Int, k ∈ l.map (·.1) → 0 ≤ k ∧ k < N) → 0 ≤ n → (laidP l m)[n.toNat]? = match lookL n l with
  | some b => some (some b)
  | none => m[n.toNat]? := by
 intro l
 induction l with
 | nil => intro m n N _ _ _ _; rfl
 | cons e l ih =>
  intro m n N hm hd hk hn
  have hd2 : e.1 ∉ l.map (·.1) ∧ (l.map (·.1)).Nodup := List.nodup_cons.1 hd
  have h1 := hk e.1 (by simp)
  rw [laidP, ih (N := N) (by rw [List.length_set]; exact hm) hd2.2 (fun x hx => hk x (by simp only [List.map_cons, List.mem_cons]; exact .inr hx)) hn]
  simp only [lookL]
  by_cases he : e.1 = n
  ·rw [if_pos he]
   have : lookL n l = none := lookL_none.2 (by rw [← he]; exact hd2.1)
   rw [this]
   simp only
   rw [he, List.getElem?_set_self (by rw [hm]; omega)]
  ·rw [if_neg he]
   cases hq : lookL n l with
   | some b => rfl
   | none => simp only; rw [List.getElem?_set_ne (by omega)]
theorem syncF_a {N : Nat} {δ : Dk} (h : DA N δ) : δ.syncF.1 = 0 ∧ DA N δ.syncF.2 ∧ ∀ m, 0 ≤ m → δ.syncF.2.at m = δ.at m := by
 have e : δ.syncF = (0, δ.sync) := by rw [Dk.syncF, if_neg (by rw [h.alive]; decide), if_neg (by have := h.fuse; omega), cnt_id h.fuse]
 have hat : ∀ m, 0 ≤ m → δ.sync.at m = δ.at m := fun m hm => by
  rw [Dk.at, Dk.at]
  have e1 : lookL m δ.sync.now = none := rfl
  rw [e1]
  simp only
  rw [show δ.sync.pages = laidP δ.now δ.pages from rfl, laidP_get h.pages h.nodup h.keys hm]
  cases hq : lookL m δ.now with
  | some b => rfl
  | none => rfl
 rw [e]
 refine ⟨rfl, ⟨h.alive, h.fuse, by rw [show δ.sync.pages = laidP δ.now δ.pages from rfl, laidP_len]; exact h.pages, fun x hx => (by cases hx), List.nodup_nil, fun m a c => ?_⟩, hat⟩
 rw [hat m a]; exact h.good m a c
theorem splice_drop {l m : List Nat} {a b : Nat} (h1 : a + m.length ≤ l.length) (h2 : a + m.length ≤ b) : (splice l a m).drop b = l.drop b := by
 have e1 : (l.take a).length = a := by rw [List.length_take]; omega
 rw [splice, ← List.append_assoc, List.drop_append, List.drop_eq_nil_of_le (by rw [List.length_append, e1]; omega), List.nil_append, List.drop_drop, List.length_append, e1]
 congr 1; omega
theorem atL_tail {l m : List Nat} {a z : Nat} (ht : l.drop 12 = m.drop 12) (ha : 12 ≤ a) : atL l a z = atL m a z := by
 have e : ∀ l : List Nat, (l.take (a + z)).drop a = ((l.drop 12).drop (a - 12)).take z := fun l => by
  rw [List.drop_drop, show 12 + (a - 12) = a by omega, List.drop_take]
  congr 1; omega
 rw [atL, atL, e, e, ht]
theorem cellsL_tail {l m : List Nat} (ht : l.drop 12 = m.drop 12) {low : Nat} : ∀ (n i : Nat) (t : List Bool), cellsL l low n i t = cellsL m low n i t := by
 intro n
 induction n with
 | zero => intro i t; rfl
 | succ n ih =>
  intro i t
  have e1 : slotF l i = slotF m i := atL_tail ht (by omega)
  have e2 : slotZ l i = slotZ m i := atL_tail ht (by omega)
  simp only [cellsL, e1, e2, ih]
theorem goodL_tail {l m : List Nat} (hl : l.length = m.length) (ht : l.drop 12 = m.drop 12) : goodL l = goodL m := by
 have e1 : cntL l = cntL m := atL_tail ht (by omega)
 have e2 : lowL l = lowL m := atL_tail ht (by omega)
 have e3 : l.getD 13 0 = m.getD 13 0 := by
  have : ∀ l : List Nat, l[13]? = (l.drop 12)[1]? := fun l => by rw [List.getElem?_drop]
  rw [List.getD_eq_getElem?_getD, List.getD_eq_getElem?_getD, this, this, ht]
 simp only [goodL, hl, e1, e2, e3, cellsL_tail ht]
theorem leN_le : ∀ (k n : Nat), leN (le k n) = n % 256 ^ k := by
 intro k
 induction k with
 | zero => intro n; rw [Nat.pow_zero, Nat.mod_one]; rfl
 | succ k ih =>
  intro n
  rw [le, leN, ih, Nat.pow_succ, Nat.mul_comm (256 ^ k) 256, Nat.mod_mul]
theorem seal_tail {b : List Nat} {n : Nat} (hb : b.length = 512) : (sealL b n).drop 12 = b.drop 12 ∧ (sealL b n).length = 512 ∧ (sealL b n).drop 4 = (lsnL b n).drop 4 ∧ atL (sealL b n) 0 4 = crc 0 ((lsnL b n).drop 4) % 4294967296 := by
 have h1 := lsnL_len (n := n) hb
 have h2 : (sealL b n).length = 512 := by rw [sealL, splice_len (by rw [le_len]; omega), h1]
 have h3 : (sealL b n).drop 4 = (lsnL b n).drop 4 := by rw [sealL]; exact splice_drop (by rw [le_len]; omega) (by rw [le_len]; omega)
 have h4 : (lsnL b n).drop 12 = b.drop 12 := by rw [lsnL]; exact splice_drop (by rw [le_len]; omega) (by rw [le_len]; omega)
 refine ⟨?_, h2, h3, ?_⟩
 ·have := congrArg (List.drop 8) h3
  rw [List.drop_drop, List.drop_drop] at this
  exact this.trans h4
 ·have e : (sealL b n).take 4 = le 4 (crc 0 ((lsnL b n).drop 4)) := by
   rw [sealL, splice, List.take_zero, List.nil_append, List.take_append_of_le_length (by rw [le_len]; omega), List.take_of_length_le (by rw [le_len]; omega)]
  rw [atL, Nat.zero_add, List.drop_zero, e, leN_le]
theorem lsnL_lt {b : List Nat} {n : Nat} (hb : ∀ x ∈ b, x < 256) : ∀ x ∈ lsnL b n, x < 256 := splice_lt hb (le_lt _ _)
theorem seal_good {b : List Nat} {n : Nat} (hg : goodL b = true) (hb : ∀ x ∈ b, x < 256) : checkL (sealL b n) = 0 ∧ goodL (sealL b n) = true ∧ bodyF (sealL b n) = b.drop 12 := by
 have hl := good512 hg
 obtain ⟨h1, h2, h3, h4⟩ := seal_tail (n := n) hl
 have hg2 : goodL (sealL b n) = true := by rw [goodL_tail (h2.trans hl.symm) h1]; exact hg
 have hz : goodL (List.replicate 512 0) = false := by decide +kernel
 have hnz : sealL b n ≠ List.replicate 512 0 := fun e => by rw [e, hz] at hg2; cases hg2
 have hc : crc 0 ((lsnL b n).drop 4) < 4294967296 := crc_lt32 (by decide) fun x hx => lsnL_lt hb x (List.mem_of_mem_drop hx)
 refine ⟨?_, hg2, ?_⟩
 ·rw [checkL, if_neg hnz, if_neg (by rw [hg2]; decide), if_neg]
  rw [h4, h3, Nat.mod_eq_of_lt hc]; exact not_not_intro rfl
 ·rw [bodyF, if_neg (by rintro (h | h); exact h h2; exact hnz h), h1]
end Go.Proofs.YtconhghphklfjaaGreat.Am
namespace Go.Proofs.YtconhghphklfjaaGreat.Am
open Go
def pgA (ε : Eng) (n : Int) : List Nat := match lookL n ε.1.wher with
 | some i => match ε.1.frames[i.toNat]? with
  | some f => f.b
  | none => ε.2.2.at n
 | none => ε.2.2.at n
structure FmOk (N : Nat) (δ : Dk) (wher : List (Int × Int)) (i : Nat) (f : Fm) : Prop where
 lt : f.page < N
 here : lookL f.page wher = some (i : Int)
 chk : checkL f.b = 0
 same : f.changed = false → f.b = δ.at f.page
 chg : f.changed = true → goodL f.b = true
structure EC (N : Nat) (ε : Eng) : Prop where
 dk : DA N ε.2.2
 nodup : (ε.1.wher.map (·.1)).Nodup
 lies : ∀ (n i : Int), lookL n ε.1.wher = some i → 0 ≤ n ∧ ∃ (j : Nat) (f : Fm), i = j ∧ ε.1.frames[j]? = some f ∧ f.page = n
 back : ∀ (i : Nat) (f : Fm), ε.1.frames[i]? = some f → f.page < 0 ∨ FmOk N ε.2.2 ε.1.wher i f
 dirt : ∀ k : Int, k ∈ ε.1.dirty.map (·.1) → 0 ≤ k ∧ k < N
 dnd : (ε.1.dirty.map (·.1)).Nodup
theorem pgA_some {ε : Eng} {n : Int} {j : Nat} {f : Fm} (h : lookL n ε.1.wher = some (j : Int)) (hf : ε.1.frames[j]? = some f) : pgA ε n = f.b := by
 simp only [pgA, h, Int.toNat_natCast, hf]
theorem pgA_none {ε : Eng} {n : Int} (h : lookL n ε.1.wher = none) : pgA ε n = ε.2.2.at n := by simp only [pgA, h]
theorem EC.cases {N : Nat} {ε : Eng} (h : EC N ε) (n : Int) : (∃ (j : Nat) (f : Fm), lookL n ε.1.wher = some (j : Int) ∧ ε.1.frames[j]? = some f ∧ f.page = n ∧ 0 ≤ n ∧ FmOk N ε.2.2 ε.1.wher j f ∧ pgA ε n = f.b) ∨ (lookL n ε.1.wher = none ∧ pgA ε n = ε.2.2.at n) := by
 cases hl : lookL n ε.1.wher with
 | none => exact .inr ⟨rfl, pgA_none hl⟩
 | some i =>
  obtain ⟨h0, j, f, rfl, hf, hp⟩ := h.lies n i hl
  refine .inl ⟨j, f, rfl, hf, hp, h0, ?_, pgA_some hl hf⟩
  rcases h.back j f hf with h1 | h1
  ·omega
  ·exact h1
theorem EC.chk {N : Nat} {ε : Eng} (h : EC N ε) {n : Int} (h0 : 0 ≤ n) (h1 : n < N) : checkL (pgA ε n) = 0 := by
 rcases h.cases n with ⟨j, f, _, _, _, _, ho, e⟩ | ⟨_, e⟩
 ·rw [e]; exact ho.chk
 ·rw [e]; exact h.dk.good n h0 h1
theorem fmget_set {m : List Fm} {i j : Nat} {f g x : Fm} (hf : m[i]? = some f) (hx : (m.set i g)[j]? = some x) : (i = j ∧ x = g) ∨ (i ≠ j ∧ m[j]? = some x) := by
 by_cases hij : i = j
 ·subst hij
  rw [List.getElem?_set_self (List.getElem?_eq_some_iff.1 hf).1] at hx
  exact .inl ⟨rfl, (Option.some.inj hx).symm⟩
 ·rw [List.getElem?_set_ne hij] at hx
  exact .inr ⟨hij, hx⟩
theorem EC.set {N : Nat} {ε : Eng} {i : Nat} {f g : Fm} {y : Lg} {δ : Dk} {d : List (Int × (Nat × Bool))} (h : EC N ε) (hf : ε.1.frames[i]? = some f) (hp : g.page = f.page) (hδ : DA N δ)
  (hg : g.page < 0 ∨ FmOk N δ ε.1.wher i g) (ho : ∀ (j : Nat) (x : Fm), i ≠ j → ε.1.frames[j]? = some x → 0 ≤ x.page → δ.at x.page = ε.2.2.at x.page) (hd : ∀ k : Int, k ∈ d.map (·.1) → 0 ≤ k ∧ k < N) (hdn : (d.map (·.1)).Nodup) :
  EC N ({ ε.1 with frames := ε.1.frames.set i g, dirty := d }, (y, δ)) := by
 have hi := (List.getElem?_eq_some_iff.1 hf).1
 refine ⟨hδ, h.nodup, fun n k hk => ?_, fun j x hx => ?_, hd, hdn⟩
 ·obtain ⟨h0, j, x, rfl, hx, hxp⟩ := h.lies n k hk
  refine ⟨h0, j, ?_⟩
  by_cases hij : i = j
  ·subst hij
   rw [hf] at hx
   have := Option.some.inj hx
   subst this
   exact ⟨g, rfl, List.getElem?_set_self hi, hp.trans hxp⟩
  ·exact ⟨x, rfl, by show (ε.1.frames.set i g)[j]? = some x; rw [List.getElem?_set_ne hij]; exact hx, hxp⟩
 ·rcases fmget_set hf hx with ⟨rfl, rfl⟩ | ⟨hij, hx⟩
  ·exact hg
  ·rcases h.back j x hx with h1 | h1
   ·exact .inl h1
   ·by_cases h2 : x.page < 0
    ·exact .inl h2
    ·refine .inr ⟨h1.lt, h1.here, h1.chk, fun hc => ?_, h1.chg⟩
     rw [ho j x hij hx (by omega)]; exact h1.same hc
theorem pgA_set {ε : Eng} {i : Nat} {f g : Fm} {x : LD} {d : List (Int × (Nat × Bool))} (hf : ε.1.frames[i]? = some f) (hb : g.b = f.b) {n : Int} (hx : lookL n ε.1.wher = none → x.2.at n = ε.2.2.at n) (hy : ∀ j : Int, lookL n ε.1.wher = some j → ∃ f', ε.1.frames[j.toNat]? = some f') :
  pgA ({ ε.1 with frames := ε.1.frames.set i g, dirty := d }, x) n = pgA ε n := by
 unfold pgA
 simp only
 cases hl : lookL n ε.1.wher with
 | none => exact hx hl
 | some j =>
  simp only
  obtain ⟨f', hf'⟩ := hy j hl
  by_cases hij : i = j.toNat
  ·subst hij
   rw [List.getElem?_set_self (List.getElem?_eq_some_iff.1 hf).1, hf]
   exact hb
  ·rw [List.getElem?_set_ne hij, hf']
theorem EC.there {N : Nat} {ε : Eng} (h : EC N ε) {n : Int} : ∀ j : Int, lookL n ε.1.wher = some j → ∃ f', ε.1.frames[j.toNat]? = some f' := fun j hj => by
 obtain ⟨_, k, f, rfl, hf, _⟩ := h.lies n j hj
 exact ⟨f, by rw [Int.toNat_natCast]; exact hf⟩
theorem EC.out {N : Nat} {ε : Eng} {i : Nat} {f : Fm} (h : EC N ε) (hf : ε.1.frames[i]? = some f) :
  (outF ε i).1 = 0 ∧ EC N (outF ε i).2 ∧ (∀ n, pgA (outF ε i).2 n = pgA ε n) ∧ (outF ε i).2.1.wher = ε.1.wher ∧ ∃ g, (outF ε i).2.1.frames[i]? = some g ∧ g.page = f.page ∧ (0 ≤ g.page → g.changed = false) := by
 have hi := (List.getElem?_eq_some_iff.1 hf).1
 unfold outF
 rw [hf]
 simp only
 by_cases hc : f.page < 0 ∨ f.changed = false
 ·rw [if_pos hc]
  exact ⟨rfl, h, fun n => rfl, rfl, f, hf, rfl, fun h0 => hc.resolve_left (by omega)⟩
 ·rw [if_neg hc]
  have hc1 : 0 ≤ f.page := by omega
  have hc2 : f.changed = true := by cases hq : f.changed <;> simp [hq] at hc ⊢
  have ho := (h.back i f hf).resolve_left (by omega)
  have hg := ho.chg hc2
  rw [if_neg (by rw [hg]; decide)]
  obtain ⟨e1, k1⟩ := forceLD_a (x := ε.2) (n := atL f.b 4 8) h.dk
  rw [if_neg (by rw [e1]; decide)]
  obtain ⟨e2, k2, k3⟩ := writeF_a (h.dk.of k1) hc1 ho.lt (good512 hg) ho.chk
  rw [if_neg (by rw [e2]; decide)]
  have hat : ∀ m, f.page ≠ m → ((forceLD ε.2 (atL f.b 4 8)).2.2.writeF f.page f.b).2.at m = ε.2.2.at m := fun m hm => by rw [k3, if_neg hm, k1.at]
  refine ⟨rfl, h.set hf rfl k2 (.inr ⟨ho.lt, ho.here, ho.chk, fun _ => ?_, fun hq => (by cases hq)⟩) (fun j x hij hx h0 => hat _ fun hpp => ?_) (fun k hk => ?_) (nodup_putL h.dnd), fun n => ?_, rfl, _, List.getElem?_set_self hi, rfl, fun _ => rfl⟩
  ·simp only; rw [k3, if_pos rfl]
  ·rcases h.back j x hx with h1 | h1
   ·omega
   ·have := h1.here
    rw [← hpp, ho.here] at this
    have := Option.some.inj this
    omega
  ·rcases mem_putL.1 hk with rfl | hk
   ·exact ⟨hc1, ho.lt⟩
   ·exact h.dirt k hk
  ·exact pgA_set hf (by rfl) (fun hn => hat n fun e => by rw [← e, ho.here] at hn; cases hn) h.there
end Go.Proofs.YtconhghphklfjaaGreat.Am
